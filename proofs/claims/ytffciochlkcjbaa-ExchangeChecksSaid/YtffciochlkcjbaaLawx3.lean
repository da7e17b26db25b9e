/- Xck1: the program's check of a channel. -/
import Derived.Test.YtffciochlkcjbaaXw4
import Derived.Test.YtffciochlkcjbaaWeq
namespace Go.RS
open Go.SX Go.Proofs
set_option maxRecDepth 100000
set_option linter.unusedVariables false
theorem cn{a b:Bool}:(bif a then true else b)=true↔a=true∨b=true:=by cases a <;> simp
theorem mj{a b:Bool}:(bif a then b else false)=true↔a=true/\b=true:=by cases a <;> simp
theorem sC{b:List Int}(hb:∀ x∈b,0<=x/\x<=255)(a:Int):0<=aA b a:=by
 unfold aA bj
 split
 ·omega
 ·exact (r5 (by rw[List.length_take];omega) fun y h=>hb y (List.mem_of_mem_drop (List.mem_of_mem_take h))).1
def vM:Ct:=⟨[.agg aS,.val (.sl a9)],[.val .bool],fun d=>[0<=d.1.1,d.1.1<=1099511627776],fun d=>((decide (db d.1.1 d.1.2.1 d.2.1),()),())⟩
def Dx:aC vM.ps->aN:=(fun d=>{loops:=(fun n=>match n with|4=>some (fun S=>{ι:=Int,μ:=fun i=>(d.2.1.length-i).toNat,inv:=fun i=>0<=i/\i<=d.2.1.length/\d.2.1.length<=4096∧∀ k:Nat,k<i.toNat->ee d.1.1 d.1.2.1 d.2.1 k,keep:=[1,2,10,11],slots:=fun i=>[(12,.int .i64 i)],keepN:=[48],names:=fun i=>[]})|_=>none)})
def fR(a:Int×Int×Int×List (List Int)×Int×List (List Int)×List (Int×List Int)×List (Int×Int×List Int)×List (Int×Int×List Int)) :=
 a.1=a.1/\a.2.1=a.2.1/\a.2.2.1=a.2.2.1/\a.2.2.2.1=a.2.2.2.1/\a.2.2.2.2.1=a.2.2.2.2.1/\a.2.2.2.2.2.1=a.2.2.2.2.2.1/\a.2.2.2.2.2.2.1=a.2.2.2.2.2.2.1/\a.2.2.2.2.2.2.2.1=a.2.2.2.2.2.2.2.1/\a.2.2.2.2.2.2.2.2=a.2.2.2.2.2.2.2.2/\True
def fk(d:Bool) :=
 (! d)->((! d)->(! d))/\True
def fP(f:Bool) :=
 (! f)->((! f)->(! f))/\True
def fB(e:Bool) :=
 (! e)->((! e)->(! e))/\True
theorem DV :
 ∀(a:Int×Int×Int×List (List Int)×Int×List (List Int)×List (Int×List Int)×List (Int×Int×List Int)×List (Int×Int×List Int))(b:List (Int×Int×List Int)),CT.wf aS a/\(b.length<=maxLen/\ ∀(c:Int×Int×List Int),c∈b->ao c.1/\ao c.2.1/\c.2.2.length<=maxLen/\ ∀(d:Int),d∈c.2.2->0<=d/\d<=255)/\True->0<=a.1/\a.1<=1099511627776->ah (decide (4096<(b.length:Int))) (false=decide (db a.1 a.2.1 b)) ((∃(c:Int),(0<=c/\c<=(b.length:Int)/\b.length<=(4096:Nat)/\ ∀(d:Nat),d<c.toNat->ee a.1 a.2.1 b d)/\b=b/\b=b/\(b.length:Int)=(b.length:Int)/\(0:Int)=c/\(fR a))/\ ∀(c:Int),(0<=c/\c<=(b.length:Int)/\b.length<=(4096:Nat)/\ ∀(d:Nat),d<c.toNat->ee a.1 a.2.1 b d)->ah (decide (c<(b.length:Int))) (0<=c/\c<(b.length:Int)/\ ∀(d:Bool),d=decide ((b.getD c.toNat default).1<=a.1)->(fk d)/\(fk d)/\(fk d)/\((! d)->((! d)->(! d))/\((! d)->(! d))/\True)/\(d=false->(! d))/\ ∀(e:Bool),(e=bif d then true else
 decide (IntKind.wrap .i64 (a.1+(2000:Int))<(b.getD c.toNat default).1))->(fB e)/\(fB e)/\(e=false->(! e))/\ ∀(f:Bool),(f=bif e then true else decide ((b.getD c.toNat default).2.1<0))->(fP f)/\(fP f)/\((! f)->((! f)->(! f))/\((! f)->(! f))/\True)/\(f=false->(! f))/\ ∀(g:Bool),(g=bif f then true else decide (a.2.1<=(b.getD c.toNat default).2.1))->((! g)->((! g)->(! g))/\True)/\((! g)->((! g)->(! g))/\True)/\ ∀(h:Bool),h=decide (0<c)->((! g&&h)->((! g&&h)->(! g&&h))/\True)/\((! g&&h)->((! g&&h)->(! g&&h))/\((! g&&h)->(! g&&h))/\0<=IntKind.wrap .i64 (c -(1:Int))/\IntKind.wrap .i64 (c -(1:Int))<(b.length:Int)/\True)/\((! g&&h)->((! g&&h)->(! g&&h))/\True)/\((! g&&h)->((! g&&h)->(! g&&h))/\((! g&&h)->(! g&&h))/\True)/\((! g&&h)->((! g&&h)->(! g&&h))/\True)/\((! g)->((! g)->(! g))/\(h->(! g&&h))/\True)/\(g=false->(! g))/\ah (bif g then true else bif h then decide (0<=dC (b.getD
 (Int.toNat (IntKind.wrap .i64 (c -(1:Int)))) default) (b.getD c.toNat default)) else false) (false=decide (db a.1 a.2.1 b)) (∃(i:Int),(0<=i/\i<=(b.length:Int)/\b.length<=(4096:Nat)/\ ∀(j:Nat),j<i.toNat->ee a.1 a.2.1 b j)/\Int.toNat ((b.length:Int) -i)<Int.toNat ((b.length:Int) -c)/\b=b/\b=b/\(b.length:Int)=(b.length:Int)/\IntKind.wrap .i64 (c+(1:Int))=i/\(fR a))) (true=decide (db a.1 a.2.1 b))):=by
  delta fR fk fP fB
  rintro d x ⟨-,⟨hl,-⟩,-⟩⟨hn0,hn1⟩
  refine aq (fun h=>?_) (fun h=>?_)
  ·have h:=of_decide_eq_true h
   exact (decide_eq_false fun k=>by have:=k.1;omega).symm
  have h:=of_decide_eq_false h
  refine⟨⟨0,⟨by omega,by omega,by omega,fun k hk=>absurd hk (by simp)⟩,(by repeat' first|exact trivial|refine⟨trivial,?_⟩|refine⟨(by with_reducible rfl),?_⟩|refine⟨ad (by omega) (by omega),?_⟩|refine⟨rfl,?_⟩)⟩,?_⟩
  rintro j ⟨j0,j1,j2,hj⟩
  refine aq (fun hk=>?_) (fun hk=>?_)
  ·have hk:=of_decide_eq_true hk
   rw[ad (n:=d.1+2000) (by omega) (by omega)]
   have ej:0<j->IntKind.wrap .i64 (j-1)=j-1:=fun h=>ad (by omega) (by omega)
   refine⟨j0,hk,?_⟩
   intro b1 e1
   (repeat refine⟨fun h_=>(by first|(simp;done)|(simp[h_];done)|(simp_all;done)),?_⟩)
   intro b2 e2
   (repeat refine⟨fun h_=>(by first|(simp;done)|(simp[h_];done)|(simp_all;done)),?_⟩)
   intro b3 e3
   (repeat refine⟨fun h_=>(by first|(simp;done)|(simp[h_];done)|(simp_all;done)),?_⟩)
   intro b4 e4
   (repeat refine⟨fun h_=>(by first|(simp;done)|(simp[h_];done)|(simp_all;done)),?_⟩)
   intro b5 e5
   (repeat refine⟨fun h_=>(by first|exact⟨fun _=>h_,fun _=>h_,by rw[e5,Bool.and_eq_true,decide_eq_true_eq] at h_;rw[ej h_.2];omega,by rw[e5,Bool.and_eq_true,decide_eq_true_eq] at h_;rw[ej h_.2];omega,trivial⟩|(simp;done)|(simp[h_];done)|(simp_all;done)),?_⟩)
   have key:(bif b4 then true else bif b5 then decide ((0:Int)<=dC (x.getD (Int.toNat (IntKind.wrap .i64 (j-1))) default) (x.getD j.toNat default)) else false)=true↔¬ ee d.1 d.2.1 x j.toNat:=by
    rw[e5,e4,e3,e2,e1]
    simp only[cn,mj,decide_eq_true_eq]
    unfold ee
    by_cases h0:0<j
    ·rw[ej h0,show (j-1).toNat=j.toNat-1 by omega]
     have ht:=qH (x:=x.getD (j.toNat-1) default) (y:=x.getD j.toNat default)
     unfold fA at ht
     generalize dC (x.getD (j.toNat-1) default) (x.getD j.toNat default)=z at *
     omega
    ·have:¬ 0<j.toNat:=by omega
     omega
   refine aq (fun hc=>?_) (fun hc=>?_)
   ·exact (decide_eq_false fun k=>key.1 hc (k.2 _ (by omega))).symm
   ·have hok:ee d.1 d.2.1 x j.toNat:=Classical.byContradiction fun k=>by rw[key.2 k] at hc;cases hc
    refine⟨j+1,⟨by omega,by omega,by omega,fun k hk2=>?_⟩,by omega,(by repeat' first|exact trivial|refine⟨trivial,?_⟩|refine⟨(by with_reducible rfl),?_⟩|refine⟨ad (by omega) (by omega),?_⟩|refine⟨rfl,?_⟩)⟩
    by_cases hkj:k<j.toNat
    ·exact hj k hkj
    ·rw[show k=j.toNat by omega];exact hok
  ·have hk:=of_decide_eq_false hk
   exact (decide_eq_true ⟨by omega,fun k hk2=>hj k (by omega)⟩).symm
theorem Bs:aG Try.prog GL 67 vM.spec:=Ct.okH _ Try.func67 (by kernel_rfl) (ay aP uB) aD Dx (aQ (by kernel_rfl) DV)
def tO:Ct:=⟨[.agg aS],[.val .bool],fun d=>[0<=d.1.2.2.2.2.1,d.1.2.2.2.2.1<=100000,0<=d.1.2.2.1,d.1.2.2.1<=100000],fun d=>((decide (earP d.1.2.2.2.2.1 d.1.2.2.1 d.1.2.2.2.2.2.1.length d.1.2.2.2.1 d.1.2.2.2.2.2.2.1),()),())⟩
def BO:aC tO.ps->aN:=(fun d=>{loops:=(fun n=>match n with|3=>some (fun S=>{ι:=Int×Int,qn:=⟨fun k_=>∀(j:Int)(last:Int),k_ (j,last),fun k_ h_ i=>h_ i.1 i.2,fun k_=>∃ (j:Int) (last:Int),k_ (j,last),fun k_ ⟨j,last,h_⟩=>⟨_,h_⟩⟩,μ:=fun i=>(d.1.2.2.2.2.2.2.1.length-i.1).toNat,inv:=fun i=>0<=i.1/\i.1<=d.1.2.2.2.2.2.2.1.length/\0<=i.2/\i.2=(if i.1.toNat=0 then (d.1.2.2.2.2.2.1.length:Int) else (d.1.2.2.2.2.2.2.1.getD (i.1.toNat-1) default).1)∧∀ k:Nat,k<i.1.toNat->eO d.1.2.2.2.2.1 d.1.2.2.1 d.1.2.2.2.2.2.1.length d.1.2.2.2.1 d.1.2.2.2.2.2.2.1 k,keep:=[1,10,11],slots:=fun i=>[(3,.int .i64 i.2),(12,.int .i64 i.1)],keepN:=[32],names:=fun i=>[]})|_=>none)})
def ck(a:Int×Int×Int×List (List Int)×Int×List (List Int)×List (Int×List Int)×List (Int×Int×List Int)×List (Int×Int×List Int)) :=
 (a.2.2.2.2.2.1.length:Int)
def iC(a:Int×Int×Int×List (List Int)×Int×List (List Int)×List (Int×List Int)×List (Int×Int×List Int)×List (Int×Int×List Int))(b:Int) :=
 List.getD a.2.2.2.2.2.2.1 b.toNat default
def pN(a:Int×Int×Int×List (List Int)×Int×List (List Int)×List (Int×List Int)×List (Int×Int×List Int)×List (Int×Int×List Int))(b c:Int) :=
 0<=b/\b<=(a.2.2.2.2.2.2.1.length:Int)/\0<=c/\(c=if b.toNat=(0:Nat) then (ck a) else (List.getD a.2.2.2.2.2.2.1 (b.toNat -(1:Nat)) default).1)/\ ∀(d:Nat),d<b.toNat->eO a.2.2.2.2.1 a.2.2.1 (ck a) a.2.2.2.1 a.2.2.2.2.2.2.1 d
theorem DU :
 ∀(a:Int×Int×Int×List (List Int)×Int×List (List Int)×List (Int×List Int)×List (Int×Int×List Int)×List (Int×Int×List Int)),CT.wf aS a/\True->0<=a.2.2.2.2.1/\a.2.2.2.2.1<=100000/\0<=a.2.2.1/\a.2.2.1<=100000->(∃(b:Int) (c:Int),(pN a b c)/\(ck a)=c/\a.2.2.2.2.2.2.1=a.2.2.2.2.2.2.1/\(a.2.2.2.2.2.2.1.length:Int)=(a.2.2.2.2.2.2.1.length:Int)/\(0:Int)=b/\(fR a))/\ ∀(b c:Int),(pN a b c)->ah (decide (b<(a.2.2.2.2.2.2.1.length:Int))) (0<=b/\b<(a.2.2.2.2.2.2.1.length:Int)/\ ∀(d:Bool),d=decide ((iC a b).1<=c)->(fk d)/\(fk d)/\(fk d)/\((! d)->((! d)->(! d))/\((! d)->(! d))/\True)/\(d=false->(! d))/\ ∀(e:Bool),(e=bif d then true else decide ((a.2.2.2.1.length:Int)<=(iC a b).1))->(fB e)/\(fB e)/\(fB e)/\((! e)->((! e)->(! e))/\((! e)->(! e))/\True)/\((! e)->((! e)->(! e))/\((! e)->(! e))/\True)/\(e=false->(! e))/\ ∀(f:Bool),(f=bif e then true else decide (IntKind.wrap .i64
 (a.2.2.2.2.1+a.2.2.1)<=(iC a b).1))->(fP f)/\(fP f)/\(fP f)/\((! f)->((! f)->(! f))/\((! f)->(! f))/\0<=(iC a b).1/\(iC a b).1<(a.2.2.2.1.length:Int)/\True)/\(fP f)/\((! f)->((! f)->(! f))/\((! f)->(! f))/\True)/\(fP f)/\(f=false->(! f))/\ah (bif f then true else ! decide ((iC a b).2=List.getD a.2.2.2.1 (Int.toNat (iC a b).1) default)) (false=decide (earP a.2.2.2.2.1 a.2.2.1 (ck a) a.2.2.2.1 a.2.2.2.2.2.2.1)) (∃(g:Int) (h:Int),(0<=g/\g<=(a.2.2.2.2.2.2.1.length:Int)/\0<=h/\(h=if g.toNat=(0:Nat) then (ck a) else (List.getD a.2.2.2.2.2.2.1 (g.toNat -(1:Nat)) default).1)/\ ∀(i:Nat),i<g.toNat->eO a.2.2.2.2.1 a.2.2.1 (ck a) a.2.2.2.1 a.2.2.2.2.2.2.1 i)/\Int.toNat ((a.2.2.2.2.2.2.1.length:Int) -g)<Int.toNat ((a.2.2.2.2.2.2.1.length:Int) -b)/\(iC a b).1=h/\a.2.2.2.2.2.2.1=a.2.2.2.2.2.2.1/\(a.2.2.2.2.2.2.1.length:Int)=(a.2.2.2.2.2.2.1.length:Int)/\IntKind.wrap .i64
 (b+(1:Int))=g/\(fR a))) (true=decide (earP a.2.2.2.2.1 a.2.2.1 (ck a) a.2.2.2.1 a.2.2.2.2.2.2.1)):=by
  delta fR ck fk fP fB iC pN
  rintro d ⟨⟨-,-,-,-,-,-,⟨hl,-⟩,-⟩,-⟩⟨k0,k1,w0,w1⟩
  simp only[maxLen] at hl
  rw[ad (n:=d.2.2.2.2.1+d.2.2.1) (by omega) (by omega)]
  refine⟨⟨0,_,⟨by omega,by omega,by omega,rfl,fun k hk=>absurd hk (by simp)⟩,(by repeat' first|exact trivial|refine⟨trivial,?_⟩|refine⟨(by with_reducible rfl),?_⟩|refine⟨ad (by omega) (by omega),?_⟩|refine⟨rfl,?_⟩)⟩,?_⟩
  rintro j last ⟨j0,j1,l0,hlast,hj⟩
  refine aq (fun hk=>?_) (fun hk=>?_)
  ·have hk:=of_decide_eq_true hk
   refine⟨j0,hk,?_⟩
   intro b1 e1
   (repeat refine⟨fun h_=>(by first|(simp;done)|(simp[h_];done)|(simp_all;done)),?_⟩)
   intro b2 e2
   (repeat refine⟨fun h_=>(by first|(simp;done)|(simp[h_];done)|(simp_all;done)),?_⟩)
   intro b3 e3
   have hin:(!b3)=true->last<(d.2.2.2.2.2.2.1.getD j.toNat default).1/\(d.2.2.2.2.2.2.1.getD j.toNat default).1<d.2.2.2.1.length:=fun h=>by
    have h:¬ b3=true:=by simpa using h
    rw[e3,e2,e1] at h
    simp only[cn,decide_eq_true_eq] at h
    omega
   (repeat refine⟨fun h_=>(by first|exact⟨fun _=>h_,fun _=>h_,by have:=hin h_;omega,by have:=hin h_;omega,trivial⟩|(simp;done)|(simp[h_];done)|(simp_all;done)),?_⟩)
   have key:(bif b3 then true else !decide ((d.2.2.2.2.2.2.1.getD j.toNat default).2=d.2.2.2.1.getD (Int.toNat (d.2.2.2.2.2.2.1.getD j.toNat default).1) default))=true↔¬ eO d.2.2.2.2.1 d.2.2.1 d.2.2.2.2.2.1.length d.2.2.2.1 d.2.2.2.2.2.2.1 j.toNat:=by
    rw[e3,e2,e1]
    unfold eO
    rw[← hlast]
    simp only[cn,decide_eq_true_eq,Bool.not_eq_true',decide_eq_false_iff_not]
    by_cases hq:(d.2.2.2.2.2.2.1.getD j.toNat default).2=d.2.2.2.1.getD (Int.toNat (d.2.2.2.2.2.2.1.getD j.toNat default).1) default
    ·simp only[hq,not_true,or_false,and_true];omega
    ·simp only[hq,not_false_eq_true,or_true,and_false]
   refine aq (fun hc=>?_) (fun hc=>?_)
   ·exact (decide_eq_false fun k=>key.1 hc (k _ (by omega))).symm
   ·have hok:eO d.2.2.2.2.1 d.2.2.1 d.2.2.2.2.2.1.length d.2.2.2.1 d.2.2.2.2.2.2.1 j.toNat:=Classical.byContradiction fun k=>by rw[key.2 k] at hc;cases hc
    have hok1:=hok.1
    rw[← hlast] at hok1
    refine⟨j+1,_,⟨by omega,by omega,?_,?_,fun k hk2=>?_⟩,by omega,(by repeat' first|exact trivial|refine⟨trivial,?_⟩|refine⟨(by with_reducible rfl),?_⟩|refine⟨ad (by omega) (by omega),?_⟩|refine⟨rfl,?_⟩)⟩
    ·omega
    ·rw[if_neg (by omega),show (j+1).toNat-1=j.toNat by omega]
    ·by_cases hkj:k<j.toNat
     ·exact hj k hkj
     ·rw[show k=j.toNat by omega];exact hok
  ·have hk:=of_decide_eq_false hk
   exact (decide_eq_true (p:=earP _ _ _ _ _) fun k hk2=>hj k (by omega)).symm
theorem AK:aG Try.prog GL 66 tO.spec:=Ct.okH _ Try.func66 (by kernel_rfl) (ay aP q6) aD BO (aQ (by kernel_rfl) DU)
def vI:Ct:=⟨[.agg aS,.val (.sl aV)],[.val .bool],fun d=>[∀ b∈d.1.2.2.2.1,(b.length:Int)<=6000],fun d=>((decide (bz d.1.2.2.2.1 d.2.1),()),())⟩
def y0:aC vI.ps->aN:=(fun _=>{})
def ia(c:Bool) :=
 (! c)->((! c)->(! c))/\True
def iY(b:List Int) :=
 b.length<=maxLen/\ ∀(c:Int),c∈b->0<=c/\c<=255
theorem yk :
 ∀(a:Int×Int×Int×List (List Int)×Int×List (List Int)×List (Int×List Int)×List (Int×Int×List Int)×List (Int×Int×List Int))(b:List Int),CT.wf aS a/\(iY b)/\True->(∀(c:List Int),c∈a.2.2.2.1->(c.length:Int)<=6000)-> ∀(c:Bool),c=decide ((b.length:Int)<3)->((! c)->((! c)->(! c))/\(b.length:Int)<=9223372036854775807/\True)/\(ia c)/\(ia c)/\((! c)->((! c)->(! c))/\((! c)->(! c))/\True)/\(c=false->(! c))/\ah (bif c then true else decide ((a.2.2.2.1.length:Int)<=aA b (1:Int))) (false=decide (bz a.2.2.2.1 b)) ((b.length:Int)<=9223372036854775807/\0<=aA b (1:Int)/\aA b 1<(a.2.2.2.1.length:Int)/\0<=aA b (1:Int)/\((List.length (List.getD a.2.2.2.1 (Int.toNat (aA b (1:Int))) default)):Int)<=1000000/\decide (b=bF (aA b (1:Int)) (List.getD a.2.2.2.1 (Int.toNat (aA b (1:Int))) default))=decide (bz a.2.2.2.1 b)):=by
  delta ia iY
  rintro d x ⟨-,⟨hl,hb⟩,-⟩ hit
  have hn:=sC hb 1
  have hl2:(x.length:Int)<=9223372036854775807:=by simp only[maxLen] at hl;omega
  intro b1 e1
  (repeat refine⟨fun h_=>(by first|exact⟨fun _=>h_,hl2,trivial⟩|(simp;done)|(simp[h_];done)|(simp_all;done)),?_⟩)
  refine aq (fun hc=>?_) (fun hc=>?_)
  ·rw[e1] at hc
   simp only[cn,decide_eq_true_eq] at hc
   exact (decide_eq_false fun k=>by obtain⟨k1,k2,-⟩:=k;omega).symm
  ·have hc:¬ (bif b1 then true else decide ((d.2.2.2.1.length:Int)<=aA x 1))=true:=by rw[hc];simp
   rw[e1] at hc
   simp only[cn,decide_eq_true_eq] at hc
   have hi:=hit _ (ce (xs:=d.2.2.2.1) hn (by omega))
   refine⟨hl2,hn,by omega,hn,by omega,?_⟩
   refine decide_eq_decide.2 ⟨fun k=>⟨by omega,by omega,k⟩,fun k=>k.2.2⟩
theorem BV:aG Try.prog GL 69 vI.spec:=Ct.okH _ Try.func69 (by kernel_rfl) (ay (ay (ay aP nJ) sy) q6) aD y0 (aQ (by kernel_rfl) yk)
def tR:Ct:=⟨[.agg aS,.val (.sl aV)],[.val .bool],fun _=>[],fun d=>((decide (bB d.1.2.2.2.2.2.1.length d.1.2.2.2.1.length d.2.1),()),())⟩
def yJ:aC tR.ps->aN:=(fun d=>{loops:=(fun n=>match n with|5=>some (fun S=>{ι:=Int×Int,qn:=⟨fun k_=>∀(a:Int)(last:Int),k_ (a,last),fun k_ h_ i=>h_ i.1 i.2,fun k_=>∃ (a:Int) (last:Int),k_ (a,last),fun k_ ⟨a,last,h_⟩=>⟨_,h_⟩⟩,μ:=fun i=>(d.2.1.length-i.1).toNat,inv:=fun i=>3<=i.1/\(i.1-3)%2=0/\i.1<=d.2.1.length/\d.2.1.length%2=1/\i.2=aA d.2.1 (i.1-2)∧∀ k:Nat,3+2*(k:Int)<i.1->dN d.1.2.2.2.1.length d.2.1 k,keep:=[1,2],slots:=fun i=>[(5,.int .i64 i.2),(6,.int .i64 i.1)],keepN:=[48],names:=fun i=>[]})|_=>none)})
theorem yd :
 ∀(a:Int×Int×Int×List (List Int)×Int×List (List Int)×List (Int×List Int)×List (Int×Int×List Int)×List (Int×Int×List Int))(b:List Int),CT.wf aS a/\(iY b)/\True->True-> ∀(c:Bool),c=decide ((b.length:Int)<3)->(ia c)/\((! c)->((! c)->(! c))/\(2:Int)≠(0:Int)/\True)/\(ia c)/\(c=false->(! c))/\ ∀(d:Bool),(d=bif c then true else decide (Int.tmod (b.length:Int) (2:Int)=0))->((! d)->((! d)->(! d))/\(0:Int)<=0/\0<(b.length:Int)/\True)/\(fk d)/\(fk d)/\(d=false->(! d))/\ ∀(e:Bool),(e=bif d then true else ! decide (b.getD (Int.toNat (0:Int)) default=65))->((! e)->((! e)->(! e))/\(b.length:Int)<=9223372036854775807/\True)/\(fB e)/\(fB e)/\((! e)->((! e)->(! e))/\((! e)->(! e))/\True)/\(e=false->(! e))/\ah (bif e then true else decide ((ck a)<aA b (1:Int))) (false=decide (bB (ck a) (a.2.2.2.1.length:Int) b)) ((b.length:Int)<=9223372036854775807/\(∃(f:Int) (g:Int),(3<=f/\(f
 -(3:Int))%(2:Int)=0/\f<=(b.length:Int)/\b.length%(2:Nat)=(1:Nat)/\g=aA b (f -(2:Int))/\ ∀(h:Nat),(3:Int)+(2:Int)*(↑h:Int)<f->dN (a.2.2.2.1.length:Int) b h)/\b=b/\aA b (1:Int)=g/\(3:Int)=f/\(fR a))/\ ∀(f g:Int),(3<=f/\(f -(3:Int))%(2:Int)=0/\f<=(b.length:Int)/\b.length%(2:Nat)=(1:Nat)/\g=aA b (f -(2:Int))/\ ∀(h:Nat),(3:Int)+(2:Int)*(↑h:Int)<f->dN (a.2.2.2.1.length:Int) b h)->ah (decide (f<(b.length:Int))) ((b.length:Int)<=9223372036854775807/\ ∀(h:Bool),h=decide (aA b f<=g)->((! h)->((! h)->(! h))/\True)/\((! h)->((! h)->(! h))/\True)/\((! h)->((! h)->(! h))/\((! h)->(! h))/\True)/\(h=false->(! h))/\ah (bif h then true else decide ((a.2.2.2.1.length:Int)<=aA b f)) (false=decide (bB (ck a) (a.2.2.2.1.length:Int) b)) (∃(i:Int) (j:Int),(3<=i/\(i -(3:Int))%(2:Int)=0/\i<=(b.length:Int)/\b.length%(2:Nat)=(1:Nat)/\j=aA b (i -(2:Int))/\
 ∀(k:Nat),(3:Int)+(2:Int)*(↑k:Int)<i->dN (a.2.2.2.1.length:Int) b k)/\Int.toNat ((b.length:Int) -i)<Int.toNat ((b.length:Int) -f)/\b=b/\aA b f=j/\IntKind.wrap .i64 (f+(2:Int))=i/\(fR a))) (true=decide (bB (ck a) (a.2.2.2.1.length:Int) b))):=by
  delta fR ck fk fB ia iY
  rintro d x ⟨-,⟨hl,hb⟩,-⟩ -
  have hl2:(x.length:Int)<=9223372036854775807:=by simp only[maxLen] at hl;omega
  have et:Int.tmod (x.length:Int) 2=(x.length:Int)%2:=Int.tmod_eq_emod_of_nonneg (by omega)
  rw[et]
  intro b1 e1
  (repeat refine⟨fun h_=>(by first|exact⟨fun _=>h_,by decide,trivial⟩|(simp;done)|(simp[h_];done)|(simp_all;done)),?_⟩)
  intro b2 e2
  (repeat refine⟨fun h_=>(by first|exact⟨fun _=>h_,by decide,by have h_:¬ b2=true:=(by simpa using h_);rw[e2,e1] at h_;simp only[cn,decide_eq_true_eq] at h_;omega,trivial⟩|(simp;done)|(simp[h_];done)|(simp_all;done)),?_⟩)
  intro b3 e3
  (repeat refine⟨fun h_=>(by first|exact⟨fun _=>h_,hl2,trivial⟩|(simp;done)|(simp[h_];done)|(simp_all;done)),?_⟩)
  refine aq (fun hc=>?_) (fun hc=>?_)
  ·rw[e3,e2,e1] at hc
   simp only[cn,decide_eq_true_eq,Bool.not_eq_true',decide_eq_false_iff_not] at hc
   refine (decide_eq_false fun k=>?_).symm
   obtain⟨p1,p2,p3,p4,-⟩:=k
   have p3:x.getD (Int.toNat 0) default=65:=p3
   omega
  have hc:¬ (bif b3 then true else decide ((d.2.2.2.2.2.1.length:Int)<aA x 1))=true:=by rw[hc];simp
  rw[e3,e2,e1] at hc
  simp only[cn,decide_eq_true_eq,Bool.not_eq_true',decide_eq_false_iff_not,not_or,Classical.not_not] at hc
  obtain⟨⟨⟨q1,q2⟩,q3⟩,q4⟩:=hc
  refine⟨hl2,⟨3,_,⟨by omega,by omega,by omega,by omega,rfl,fun k hk=>by omega⟩,(by repeat' first|exact trivial|refine⟨trivial,?_⟩|refine⟨(by with_reducible rfl),?_⟩|refine⟨ad (by omega) (by omega),?_⟩|refine⟨rfl,?_⟩)⟩,?_⟩
  rintro a last ⟨a0,a1,a2,a3,rfl,ha⟩
  refine aq (fun hk=>?_) (fun hk=>?_)
  ·have hk:=of_decide_eq_true hk
   refine⟨hl2,?_⟩
   intro b4 e4
   (repeat refine⟨fun h_=>(by first|(simp;done)|(simp[h_];done)|(simp_all;done)),?_⟩)
   obtain⟨q,hq⟩:∃ q:Nat,a=3+2*(q:Int):=⟨((a-3)/2).toNat,by omega⟩
   subst hq
   have key:(bif b4 then true else decide ((d.2.2.2.1.length:Int)<=aA x (3+2*(q:Int))))=true↔¬ dN d.2.2.2.1.length x q:=by
    rw[e4]
    unfold dN
    simp only[cn,decide_eq_true_eq]
    rw[show (((1+2*q:Nat):Int))=3+2*(q:Int)-2 by omega,show (((3+2*q:Nat):Int))=3+2*(q:Int) by omega]
    omega
   refine aq (fun hc=>?_) (fun hc=>?_)
   ·refine (decide_eq_false fun k=>?_).symm
    exact key.1 hc (k.2.2.2.2 q (by omega))
   ·have hok:dN d.2.2.2.1.length x q:=Classical.byContradiction fun k=>by rw[key.2 k] at hc;cases hc
    refine⟨3+2*(q:Int)+2,_,⟨by omega,by omega,by omega,a3,?_,fun k hk2=>?_⟩,by omega,(by repeat' first|exact trivial|refine⟨trivial,?_⟩|refine⟨(by with_reducible rfl),?_⟩|refine⟨ad (by omega) (by omega),?_⟩|refine⟨rfl,?_⟩)⟩
    ·rw[show 3+2*(q:Int)+2-2=3+2*(q:Int) by omega]
    ·by_cases hkq:k=q
     ·rw[hkq];exact hok
     ·exact ha k (by omega)
  ·have hk:=of_decide_eq_false hk
   exact (decide_eq_true ⟨by omega,by omega,q3,by omega,fun k hk2=>ha k (by omega)⟩).symm
theorem zT:aG Try.prog GL 70 tR.spec:=Ct.okH _ Try.func70 (by kernel_rfl) (ay aP nJ) aD yJ (aQ (by kernel_rfl) yd)
def wV:Ct:=⟨[.val (.sl aV)],[.val .bool],fun _=>[],fun d=>((decide (6000<(d.1.length:Int)),()),())⟩
def D0:aC wV.ps->aN:=(fun _=>{})
theorem Bz :
 ∀(a:List Int),(a.length<=maxLen/\ ∀(b:Int),b∈a->0<=b/\b<=255)/\True->True->decide (6000<(a.length:Int))=decide (6000<(a.length:Int)):=by
  intros;rfl
theorem yf:aG Try.prog GL 61 wV.spec:=Ct.okH _ Try.func61 (by kernel_rfl) aP aD D0 (aQ (by kernel_rfl) Bz)
def wg:Ct:=⟨[.val (.sl (.sl aV)),.fn 61 0],[.val cI],fun _=>[],fun d=>((fg (fun b=>decide (6000<(b.length:Int))) d.1,()),())⟩
def zf:aC wg.ps->aN:=(fun d=>{loops:=(fun n=>match n with|2=>some (fun S=>{ι:=Int,μ:=fun i=>(d.1.length-i).toNat,inv:=fun i=>0<=i/\i<=d.1.length∧∀ x∈d.1.take i.toNat,decide (6000<(x.length:Int))=false,keep:=[0,1,6,7],slots:=fun i=>[(8,.int .i64 i)],names:=fun i=>[]})|_=>none)})
theorem zo :
 ∀(a:List (List Int)),(a.length<=maxLen/\ ∀(b:List Int),b∈a->(iY b))/\True/\True->True->(∃(b:Int),(0<=b/\b<=(a.length:Int)/\ ∀(c:List Int),c∈List.take b.toNat a->decide (6000<(c.length:Int))=false)/\a=a/\a=a/\(a.length:Int)=(a.length:Int)/\(0:Int)=b/\True)/\ ∀(b:Int),(0<=b/\b<=(a.length:Int)/\ ∀(c:List Int),c∈List.take b.toNat a->decide (6000<(c.length:Int))=false)->ah (decide (b<(a.length:Int))) (0<=b/\b<(a.length:Int)/\ah (decide (6000<((List.length (a.getD b.toNat default)):Int))) (b=fg (fun (c:List Int)=>decide (6000<(c.length:Int))) a) (∃(c:Int),(0<=c/\c<=(a.length:Int)/\ ∀(d:List Int),d∈List.take c.toNat a->decide (6000<(d.length:Int))=false)/\Int.toNat ((a.length:Int) -c)<Int.toNat ((a.length:Int) -b)/\a=a/\a=a/\(a.length:Int)=(a.length:Int)/\IntKind.wrap .i64 (b+(1:Int))=c/\True)) ((-1:Int)=fg (fun (c:List Int)=>decide (6000<(c.length:Int))) a):=by
  delta iY
  rintro x ⟨⟨hl,-⟩,-⟩ -
  simp only[maxLen] at hl
  refine⟨⟨0,⟨by omega,by omega,by simp⟩,(by repeat' first|exact trivial|refine⟨trivial,?_⟩|refine⟨(by with_reducible rfl),?_⟩|refine⟨ad (by omega) (by omega),?_⟩|refine⟨rfl,?_⟩)⟩,?_⟩
  rintro j ⟨j0,j1,hj⟩
  refine aq (fun hk=>?_) (fun hk=>?_)
  ·have hk:=of_decide_eq_true hk
   refine⟨j0,hk,aq (fun hm=>?_) (fun hm=>?_)⟩
   ·exact rg (q:=fun b:List Int=>decide (6000<(b.length:Int))) j0 hk hj hm
   ·exact⟨j+1,⟨by omega,by omega,lJ (P:=fun b:List Int=>decide (6000<(b.length:Int))=false) j0 hk hj hm⟩,by omega,(by repeat' first|exact trivial|refine⟨trivial,?_⟩|refine⟨(by with_reducible rfl),?_⟩|refine⟨ad (by omega) (by omega),?_⟩|refine⟨rfl,?_⟩)⟩
  ·exact qD (q:=fun b:List Int=>decide (6000<(b.length:Int))) (of_decide_eq_false hk) hj
theorem Cw:aG Try.prog GL 84 wg.spec:=Ct.okH _ Try.func84 (by kernel_rfl) (ay aP yf) aD zf (aQ (by kernel_rfl) zo)
def tD:Ct:=⟨[.val (.sl (.sl aV)),.fn 61 0],[.val .bool],fun _=>[],fun d=>((d.1.any (fun b=>decide (6000<(b.length:Int))),()),())⟩
def yO:aC tD.ps->aN:=(fun _=>{})
theorem Ba :
 ∀(a:List (List Int)),(a.length<=maxLen/\ ∀(b:List Int),b∈a->(iY b))/\True/\True->True->decide (0<=fg (fun (b:List Int)=>decide (6000<(b.length:Int))) a)=List.any a fun (b:List Int)=>decide (6000<(b.length:Int)):=by
  delta iY
  rintro l - -
  exact pr
theorem At:aG Try.prog GL 62 tD.spec:=Ct.okH _ Try.func62 (by kernel_rfl) (ay aP Cw) aD yO (aQ (by kernel_rfl) Ba)
def tb:Ct:=⟨[.fn 69 0,.box 28 aS],[.fn 65 2,.box 70 (.fnc 69),.alp],fun _=>[],fun d=>(((),(),(),()),(d.2.1,()))⟩
def BX:aC tb.ps->aN:=(fun _=>{})
theorem yT :
 ∀(a:Int×Int×Int×List (List Int)×Int×List (List Int)×List (Int×List Int)×List (Int×Int×List Int)×List (Int×Int×List Int)),True/\CT.wf aS a/\True->True->()=()/\()=()/\()=()/\a=a:=by
  intros;exact⟨rfl,rfl,rfl,rfl⟩
theorem zK:aG Try.prog GL 64 tb.spec:=Ct.okH _ Try.func64 (by kernel_rfl) aP aD BX (aQ (by kernel_rfl) yT)
def va:Ct:=⟨[.fn 70 0,.box 28 aS],[.fn 65 2,.box 70 (.fnc 70),.alp],fun _=>[],fun d=>(((),(),(),()),(d.2.1,()))⟩
def zU:aC va.ps->aN:=(fun _=>{})
theorem BI :
 ∀(a:Int×Int×Int×List (List Int)×Int×List (List Int)×List (Int×List Int)×List (Int×Int×List Int)×List (Int×Int×List Int)),True/\CT.wf aS a/\True->True->()=()/\()=()/\()=()/\a=a:=by
  intros;exact⟨rfl,rfl,rfl,rfl⟩
theorem Am:aG Try.prog GL 64 va.spec:=Ct.okH _ Try.func64 (by kernel_rfl) aP aD zU (aQ (by kernel_rfl) BI)
def tu:Ct:=⟨[.agg a9,.box 70 (.fnc 69),.box 28 aS],[.val .bool],fun d=>[∀ b∈d.2.2.1.2.2.2.1,(b.length:Int)<=6000],fun d=>((!decide (bz d.2.2.1.2.2.2.1 d.1.2.2),()),((),d.2.2.1,()))⟩
def C6:aC tu.ps->aN:=(fun _=>{})
theorem CW :
 ∀(a b:Int)(c:List Int)(d:Int×Int×Int×List (List Int)×Int×List (List Int)×List (Int×List Int)×List (Int×Int×List Int)×List (Int×Int×List Int)),(ao a/\ao b/\c.length<=maxLen/\ ∀(e:Int),e∈c->0<=e/\e<=255)/\True/\CT.wf aS d/\True->(∀(e:List Int),e∈d.2.2.2.1->(e.length:Int)<=6000)->(∀(e:List Int),e∈d.2.2.2.1->(e.length:Int)<=6000)/\(! decide (bz d.2.2.2.1 c))= ! decide (bz d.2.2.2.1 c)/\()=()/\d=d:=by
  intros
  rename_i h
  exact⟨h,rfl,rfl,rfl⟩
theorem Ek:aG Try.prog GL 65 tu.spec:=Ct.okH _ Try.func65 (by kernel_rfl) (ay aP BV) aD C6 (aQ (by kernel_rfl) CW)
def w8:Ct:=⟨[.agg a9,.box 70 (.fnc 70),.box 28 aS],[.val .bool],fun _=>[],fun d=>((!decide (bB d.2.2.1.2.2.2.2.2.1.length d.2.2.1.2.2.2.1.length d.1.2.2),()),((),d.2.2.1,()))⟩
def Dw:aC w8.ps->aN:=(fun _=>{})
theorem Bj :
 ∀(a b:Int)(c:List Int)(d:Int×Int×Int×List (List Int)×Int×List (List Int)×List (Int×List Int)×List (Int×Int×List Int)×List (Int×Int×List Int)),(ao a/\ao b/\c.length<=maxLen/\ ∀(e:Int),e∈c->0<=e/\e<=255)/\True/\CT.wf aS d/\True->True->(! decide (bB (d.2.2.2.2.2.1.length:Int) (d.2.2.2.1.length:Int) c))= ! decide (bB (d.2.2.2.2.2.1.length:Int) (d.2.2.2.1.length:Int) c)/\()=()/\d=d:=by
  intros
  exact⟨rfl,rfl,rfl⟩
theorem yF:aG Try.prog GL 65 w8.spec:=Ct.okH _ Try.func65 (by kernel_rfl) (ay aP zT) aD Dw (aQ (by kernel_rfl) Bj)
def tM:Ct:=⟨[.val (.sl a9),.fn 65 2,.box 70 (.fnc 69),.box 28 aS],[.val cI],fun d=>[∀ b∈d.2.2.2.1.2.2.2.1,(b.length:Int)<=6000],fun d=>((fg (fun t => !decide (bz d.2.2.2.1.2.2.2.1 t.2.2)) d.1,()),((),d.2.2.2.1,()))⟩
def yW:aC tM.ps->aN:=(fun d=>{loops:=(fun n=>match n with|2=>some (fun S=>{ι:=Int,μ:=fun i=>(d.1.length-i).toNat,inv:=fun i=>0<=i/\i<=d.1.length∧∀ x∈d.1.take i.toNat,(!decide (bz d.2.2.2.1.2.2.2.1 x.2.2))=false,keep:=[0,1,6,7],slots:=fun i=>[(8,.int .i64 i)],keepN:=[1048576,1048577],names:=fun i=>[]})|_=>none)})
def kE(b:Int×Int×Int×List (List Int)×Int×List (List Int)×List (Int×List Int)×List (Int×Int×List Int)×List (Int×Int×List Int)) :=
 b.1=b.1/\b.2.1=b.2.1/\b.2.2.1=b.2.2.1/\b.2.2.2.1=b.2.2.2.1/\b.2.2.2.2.1=b.2.2.2.2.1/\b.2.2.2.2.2.1=b.2.2.2.2.2.1/\b.2.2.2.2.2.2.1=b.2.2.2.2.2.2.1/\b.2.2.2.2.2.2.2.1=b.2.2.2.2.2.2.2.1/\b.2.2.2.2.2.2.2.2=b.2.2.2.2.2.2.2.2/\True
def jb(a:List (Int×Int×List Int)) :=
 a.length<=maxLen/\ ∀(c:Int×Int×List Int),c∈a->ao c.1/\ao c.2.1/\c.2.2.length<=maxLen/\ ∀(d:Int),d∈c.2.2->0<=d/\d<=255
def cP(a:List (Int×Int×List Int)) :=
 (a.length:Int)
theorem Bc :
 ∀(a:List (Int×Int×List Int))(b:Int×Int×Int×List (List Int)×Int×List (List Int)×List (Int×List Int)×List (Int×Int×List Int)×List (Int×Int×List Int)),(jb a)/\True/\True/\CT.wf aS b/\True->(∀(c:List Int),c∈b.2.2.2.1->(c.length:Int)<=6000)->(∃(c:Int),(0<=c/\c<=(cP a)/\ ∀(d:Int×Int×List Int),d∈List.take c.toNat a->(! decide (bz b.2.2.2.1 d.2.2))=false)/\a=a/\a=a/\(cP a)=(cP a)/\(0:Int)=c/\(kE b))/\ ∀(c:Int),(0<=c/\c<=(cP a)/\ ∀(d:Int×Int×List Int),d∈List.take c.toNat a->(! decide (bz b.2.2.2.1 d.2.2))=false)->ah (decide (c<(cP a))) (0<=c/\c<(cP a)/\(∀(d:List Int),d∈b.2.2.2.1->(d.length:Int)<=6000)/\ah (! decide (bz b.2.2.2.1 (a.getD c.toNat default).2.2)) (c=fg (fun (d:Int×Int×List Int)=> ! decide (bz b.2.2.2.1 d.2.2)) a/\()=()/\b=b) (∃(d:Int),(0<=d/\d<=(cP a)/\ ∀(e:Int×Int×List Int),e∈List.take d.toNat a->(! decide (bz b.2.2.2.1 e.2.2))=false)/\Int.toNat
 ((cP a) -d)<Int.toNat ((cP a) -c)/\a=a/\a=a/\(cP a)=(cP a)/\IntKind.wrap .i64 (c+(1:Int))=d/\(kE b))) ((-1:Int)=fg (fun (d:Int×Int×List Int)=> ! decide (bz b.2.2.2.1 d.2.2)) a/\()=()/\b=b):=by
  delta kE jb cP
  rintro x d ⟨⟨hl,-⟩,-⟩ hit
  simp only[maxLen] at hl
  refine⟨⟨0,⟨by omega,by omega,by simp⟩,(by repeat' first|exact trivial|refine⟨trivial,?_⟩|refine⟨(by with_reducible rfl),?_⟩|refine⟨ad (by omega) (by omega),?_⟩|refine⟨rfl,?_⟩)⟩,?_⟩
  rintro j ⟨j0,j1,hj⟩
  refine aq (fun hk=>?_) (fun hk=>?_)
  ·have hk:=of_decide_eq_true hk
   refine⟨j0,hk,hit,aq (fun hm=>?_) (fun hm=>?_)⟩
   ·exact⟨rg (q:=fun t:af => !decide (bz d.2.2.2.1 t.2.2)) j0 hk hj hm,rfl,rfl⟩
   ·exact⟨j+1,⟨by omega,by omega,lJ (P:=fun t:af=>(!decide (bz d.2.2.2.1 t.2.2))=false) j0 hk hj hm⟩,by omega,(by repeat' first|exact trivial|refine⟨trivial,?_⟩|refine⟨(by with_reducible rfl),?_⟩|refine⟨ad (by omega) (by omega),?_⟩|refine⟨rfl,?_⟩)⟩
  ·exact⟨qD (q:=fun t:af => !decide (bz d.2.2.2.1 t.2.2)) (of_decide_eq_false hk) hj,rfl,rfl⟩
theorem C2:aG Try.prog GL 86 tM.spec:=Ct.okH _ Try.func86 (by kernel_rfl) (ay aP Ek) aD yW (aQ (by kernel_rfl) Bc)
def uJ:Ct:=⟨[.val (.sl a9),.fn 65 2,.box 70 (.fnc 70),.box 28 aS],[.val cI],fun _=>[],fun d=>((fg (fun t => !decide (bB d.2.2.2.1.2.2.2.2.2.1.length d.2.2.2.1.2.2.2.1.length t.2.2)) d.1,()),((),d.2.2.2.1,()))⟩
def Ab:aC uJ.ps->aN:=(fun d=>{loops:=(fun n=>match n with|2=>some (fun S=>{ι:=Int,μ:=fun i=>(d.1.length-i).toNat,inv:=fun i=>0<=i/\i<=d.1.length∧∀ x∈d.1.take i.toNat,(!decide (bB d.2.2.2.1.2.2.2.2.2.1.length d.2.2.2.1.2.2.2.1.length x.2.2))=false,keep:=[0,1,6,7],slots:=fun i=>[(8,.int .i64 i)],keepN:=[1048576,1048577],names:=fun i=>[]})|_=>none)})
theorem DP :
 ∀(a:List (Int×Int×List Int))(b:Int×Int×Int×List (List Int)×Int×List (List Int)×List (Int×List Int)×List (Int×Int×List Int)×List (Int×Int×List Int)),(jb a)/\True/\True/\CT.wf aS b/\True->True->(∃(c:Int),(0<=c/\c<=(cP a)/\ ∀(d:Int×Int×List Int),d∈List.take c.toNat a->(! decide (bB (b.2.2.2.2.2.1.length:Int) (b.2.2.2.1.length:Int) d.2.2))=false)/\a=a/\a=a/\(cP a)=(cP a)/\(0:Int)=c/\(kE b))/\ ∀(c:Int),(0<=c/\c<=(cP a)/\ ∀(d:Int×Int×List Int),d∈List.take c.toNat a->(! decide (bB (b.2.2.2.2.2.1.length:Int) (b.2.2.2.1.length:Int) d.2.2))=false)->ah (decide (c<(cP a))) (0<=c/\c<(cP a)/\ah (! decide (bB (b.2.2.2.2.2.1.length:Int) (b.2.2.2.1.length:Int) (a.getD c.toNat default).2.2)) (c=fg (fun (d:Int×Int×List Int)=> ! decide (bB (b.2.2.2.2.2.1.length:Int) (b.2.2.2.1.length:Int) d.2.2)) a/\()=()/\b=b) (∃(d:Int),(0<=d/\d<=(cP a)/\ ∀(e:Int×Int×List Int),e∈List.take
 d.toNat a->(! decide (bB (b.2.2.2.2.2.1.length:Int) (b.2.2.2.1.length:Int) e.2.2))=false)/\Int.toNat ((cP a) -d)<Int.toNat ((cP a) -c)/\a=a/\a=a/\(cP a)=(cP a)/\IntKind.wrap .i64 (c+(1:Int))=d/\(kE b))) ((-1:Int)=fg (fun (d:Int×Int×List Int)=> ! decide (bB (b.2.2.2.2.2.1.length:Int) (b.2.2.2.1.length:Int) d.2.2)) a/\()=()/\b=b):=by
  delta kE jb cP
  rintro x d ⟨⟨hl,-⟩,-⟩ -
  simp only[maxLen] at hl
  refine⟨⟨0,⟨by omega,by omega,by simp⟩,(by repeat' first|exact trivial|refine⟨trivial,?_⟩|refine⟨(by with_reducible rfl),?_⟩|refine⟨ad (by omega) (by omega),?_⟩|refine⟨rfl,?_⟩)⟩,?_⟩
  rintro j ⟨j0,j1,hj⟩
  refine aq (fun hk=>?_) (fun hk=>?_)
  ·have hk:=of_decide_eq_true hk
   refine⟨j0,hk,aq (fun hm=>?_) (fun hm=>?_)⟩
   ·exact⟨rg (q:=fun t:af => !decide (bB d.2.2.2.2.2.1.length d.2.2.2.1.length t.2.2)) j0 hk hj hm,rfl,rfl⟩
   ·exact⟨j+1,⟨by omega,by omega,lJ (P:=fun t:af=>(!decide (bB d.2.2.2.2.2.1.length d.2.2.2.1.length t.2.2))=false) j0 hk hj hm⟩,by omega,(by repeat' first|exact trivial|refine⟨trivial,?_⟩|refine⟨(by with_reducible rfl),?_⟩|refine⟨ad (by omega) (by omega),?_⟩|refine⟨rfl,?_⟩)⟩
  ·exact⟨qD (q:=fun t:af => !decide (bB d.2.2.2.2.2.1.length d.2.2.2.1.length t.2.2)) (of_decide_eq_false hk) hj,rfl,rfl⟩
theorem DJ:aG Try.prog GL 86 uJ.spec:=Ct.okH _ Try.func86 (by kernel_rfl) (ay aP yF) aD Ab (aQ (by kernel_rfl) DP)
def vP:Ct:=⟨[.val (.sl a9),.fn 65 2,.box 70 (.fnc 69),.box 28 aS],[.val .bool],fun d=>[∀ b∈d.2.2.2.1.2.2.2.1,(b.length:Int)<=6000],fun d=>((d.1.any (fun t => !decide (bz d.2.2.2.1.2.2.2.1 t.2.2)),()),((),d.2.2.2.1,()))⟩
def B5:aC vP.ps->aN:=(fun _=>{})
theorem CK :
 ∀(a:List (Int×Int×List Int))(b:Int×Int×Int×List (List Int)×Int×List (List Int)×List (Int×List Int)×List (Int×Int×List Int)×List (Int×Int×List Int)),(jb a)/\True/\True/\CT.wf aS b/\True->(∀(c:List Int),c∈b.2.2.2.1->(c.length:Int)<=6000)->(∀(c:List Int),c∈b.2.2.2.1->(c.length:Int)<=6000)/\(decide (0<=fg (fun (c:Int×Int×List Int)=> ! decide (bz b.2.2.2.1 c.2.2)) a)=List.any a fun (c:Int×Int×List Int)=> ! decide (bz b.2.2.2.1 c.2.2))/\()=()/\b=b:=by
  delta jb
  rintro x d-hit
  exact⟨hit,pr,rfl,rfl⟩
theorem Cf:aG Try.prog GL 68 vP.spec:=Ct.okH _ Try.func68 (by kernel_rfl) (ay aP C2) aD B5 (aQ (by kernel_rfl) CK)
def uP:Ct:=⟨[.val (.sl a9),.fn 65 2,.box 70 (.fnc 70),.box 28 aS],[.val .bool],fun _=>[],fun d=>((d.1.any (fun t => !decide (bB d.2.2.2.1.2.2.2.2.2.1.length d.2.2.2.1.2.2.2.1.length t.2.2)),()),((),d.2.2.2.1,()))⟩
def C3:aC uP.ps->aN:=(fun _=>{})
theorem DK :
 ∀(a:List (Int×Int×List Int))(b:Int×Int×Int×List (List Int)×Int×List (List Int)×List (Int×List Int)×List (Int×Int×List Int)×List (Int×Int×List Int)),(jb a)/\True/\True/\CT.wf aS b/\True->True->(decide (0<=fg (fun (c:Int×Int×List Int)=> ! decide (bB (b.2.2.2.2.2.1.length:Int) (b.2.2.2.1.length:Int) c.2.2)) a)=List.any a fun (c:Int×Int×List Int)=> ! decide (bB (b.2.2.2.2.2.1.length:Int) (b.2.2.2.1.length:Int) c.2.2))/\()=()/\b=b:=by
  delta jb
  rintro x d - -
  exact⟨pr,rfl,rfl⟩
theorem DC:aG Try.prog GL 68 uP.spec:=Ct.okH _ Try.func68 (by kernel_rfl) (ay aP DJ) aD C3 (aQ (by kernel_rfl) DK)
def wl:Ct:=⟨[.agg aS],[.val .bool],fun _=>[],fun d=>((decide (cT d.1),()),())⟩
def DB:aC wl.ps->aN:=(fun d=>{loops:=(fun n=>match n with|7=>some (fun S=>{ι:=Int,μ:=fun i=>(d.1.2.2.2.2.2.1.length-i).toNat,inv:=fun i=>0<=i/\i<=d.1.2.2.2.2.2.1.length∧∀ k:Nat,k<i.toNat->d.1.2.2.2.2.2.1.getD k default=d.1.2.2.2.1.getD k default,keep:=[1,68,69],slots:=fun i=>[(70,.int .i64 i)],keepN:=[32],names:=fun i=>[]})|_=>none)})
def oE(a:Int×Int×Int×List (List Int)×Int×List (List Int)×List (Int×List Int)×List (Int×Int×List Int)×List (Int×Int×List Int))(o:Bool) :=
 (o->(o->o)/\True)/\(o->(o->o)/\True)=(o->(o->o)/\True)/\o=o/\a.2.2.2.2.2.2.2.2=a.2.2.2.2.2.2.2.2/\(o->(o->o)/\True)=(o->(o->o)/\True)/\o=o/\a.2.2.2.2.2.2.2.2=a.2.2.2.2.2.2.2.2/\ah o ((o->o)/\ah o ((o->o)/\(o->o)/\(bif o then ! List.any a.2.2.2.2.2.2.2.2 fun (p:Int×Int×List Int)=> ! decide (bB (ck a) (a.2.2.2.1.length:Int) p.2.2) else false)=decide (cT a)) (o=false/\(o->false=true)/\(bif o then false else false)=decide (cT a))) (o=false/\o=false/\(o->false=true)/\(bif o then false else false)=decide (cT a))
theorem yr :
 ∀(a:Int×Int×Int×List (List Int)×Int×List (List Int)×List (Int×List Int)×List (Int×Int×List Int)×List (Int×Int×List Int)),CT.wf aS a/\True->True-> ∀(b:Bool),b=decide (a.1<0)->((! b)->((! b)->(! b))/\True)/\((! b)->((! b)->(! b))/\True)/\(b=false->(! b))/\ ∀(c:Bool),(c=bif b then true else decide (1099511627776<a.1))->(ia c)/\(ia c)/\(c=false->(! c))/\ ∀(d:Bool),(d=bif c then true else decide (a.2.1<0))->(fk d)/\(fk d)/\(d=false->(! d))/\ ∀(e:Bool),(e=bif d then true else decide (1099511627776<a.2.1))->(fB e)/\(fB e)/\(e=false->(! e))/\ ∀(f:Bool),(f=bif e then true else decide (a.2.2.1<1))->(fP f)/\(fP f)/\(f=false->(! f))/\ ∀(g:Bool),(g=bif f then true else decide (64<a.2.2.1))->((! g)->((! g)->(! g))/\True)/\((! g)->((! g)->(! g))/\True)/\((! g)->((! g)->(! g))/\True)/\(g=false->(! g))/\ah (bif g then true else decide (1024<(a.2.2.2.1.length:Int))) (false=decide
 (cT a)) (∀(h:Bool),(h=List.any a.2.2.2.1 fun (i:List Int)=>decide (6000<(i.length:Int)))->((! h)->((! h)->(! h))/\True)/\((! h)->((! h)->(! h))/\True)/\(h=false->(! h))/\ ∀(i:Bool),(i=bif h then true else decide (a.2.2.2.2.1<0))->((! i)->((! i)->(! i))/\True)/\((! i)->((! i)->(! i))/\True)/\((! i)->((! i)->(! i))/\True)/\((! i)->((! i)->(! i))/\((! i)->(! i))/\True)/\(i=false->(! i))/\ ∀(j:Bool),(j=bif i then true else decide ((ck a)<a.2.2.2.2.1))->((! j)->((! j)->(! j))/\True)/\((! j)->((! j)->(! j))/\True)/\((! j)->((! j)->(! j))/\True)/\((! j)->((! j)->(! j))/\True)/\((! j)->((! j)->(! j))/\((! j)->(! j))/\True)/\(j=false->(! j))/\ah (bif j then true else decide ((a.2.2.2.1.length:Int)<(ck a))) (false=decide (cT a)) ((∃(k:Int),(0<=k/\k<=(ck a)/\ ∀(l:Nat),l<k.toNat->List.getD a.2.2.2.2.2.1 l default=List.getD a.2.2.2.1 l default)/\a.2.2.2.2.2.1=a.2.2.2.2.2.1/\(ck a)=(ck
 a)/\(0:Int)=k/\(fR a))/\ ∀(k:Int),(0<=k/\k<=(ck a)/\ ∀(l:Nat),l<k.toNat->List.getD a.2.2.2.2.2.1 l default=List.getD a.2.2.2.1 l default)->ah (decide (k<(ck a))) (0<=k/\k<(ck a)/\0<=k/\k<(a.2.2.2.1.length:Int)/\ah (! decide (List.getD a.2.2.2.2.2.1 k.toNat default=List.getD a.2.2.2.1 k.toNat default)) (false=decide (cT a)) (∃(l:Int),(0<=l/\l<=(ck a)/\ ∀(m:Nat),m<l.toNat->List.getD a.2.2.2.2.2.1 m default=List.getD a.2.2.2.1 m default)/\Int.toNat ((ck a) -l)<Int.toNat ((ck a) -k)/\a.2.2.2.2.2.1=a.2.2.2.2.2.1/\(ck a)=(ck a)/\IntKind.wrap .i64 (k+(1:Int))=l/\(fR a))) (0<=a.2.2.2.2.1/\a.2.2.2.2.1<=100000/\0<=a.2.2.1/\a.2.2.1<=100000/\ ∀(l:Bool),l=decide (earP a.2.2.2.2.1 a.2.2.1 (ck a) a.2.2.2.1 a.2.2.2.2.2.2.1)->(l->(l->l)/\True)/\(l->(l->l)/\(l->l)/\0<=a.1/\a.1<=1099511627776/\True)/\(l->l)/\ ∀(m:Bool),(m=bif l then decide (db a.1 a.2.1 a.2.2.2.2.2.2.2.1) else
 false)->(m->(m->m)/\True)/\(m->(m->m)/\(m->m)/\0<=a.1/\a.1<=1099511627776/\True)/\(m->m)/\ ∀(n:Bool),(n=bif m then decide (db a.1 a.2.1 a.2.2.2.2.2.2.2.2) else false)->(n->(n->n)/\True)/\(n->(n->n)/\True)=(n->(n->n)/\True)/\n=n/\a.2.2.2.2.2.2.2.1=a.2.2.2.2.2.2.2.1/\(n->(n->n)/\True)=(n->(n->n)/\True)/\n=n/\a.2.2.2.2.2.2.2.1=a.2.2.2.2.2.2.2.1/\ah n ((n->n)/\ah n ((n->n)/\(∀(o:List Int),o∈a.2.2.2.1->(o.length:Int)<=6000)/\(n->n)/\ ∀(o:Bool),(o=bif n then ! List.any a.2.2.2.2.2.2.2.1 fun (p:Int×Int×List Int)=> ! decide (bz a.2.2.2.1 p.2.2) else false)->(oE a o)) (n=false/\(n->false=true)/\ ∀(o:Bool),(o=bif n then false else false)->(oE a o))) (n=false/\n=false/\(n->false=true)/\ ∀(o:Bool),(o=bif n then false else false)->(oE a o))))):=by
  delta fR oE ck fk fP fB ia
  rintro d ⟨⟨-,-,-,⟨hlg,-⟩,-,⟨hgt,-⟩,-⟩,-⟩ -
  simp only[maxLen] at hlg hgt
  intro b1 e1
  (repeat refine⟨fun h_=>(by first|(simp;done)|(simp[h_];done)|(simp_all;done)),?_⟩)
  intro b2 e2
  (repeat refine⟨fun h_=>(by first|(simp;done)|(simp[h_];done)|(simp_all;done)),?_⟩)
  intro b3 e3
  (repeat refine⟨fun h_=>(by first|(simp;done)|(simp[h_];done)|(simp_all;done)),?_⟩)
  intro b4 e4
  (repeat refine⟨fun h_=>(by first|(simp;done)|(simp[h_];done)|(simp_all;done)),?_⟩)
  intro b5 e5
  (repeat refine⟨fun h_=>(by first|(simp;done)|(simp[h_];done)|(simp_all;done)),?_⟩)
  intro b6 e6
  (repeat refine⟨fun h_=>(by first|(simp;done)|(simp[h_];done)|(simp_all;done)),?_⟩)
  refine aq (fun h=>?_) (fun h=>?_)
  ·rw[e6,e5,e4,e3,e2,e1] at h
   simp only[cn,decide_eq_true_eq] at h
   refine (decide_eq_false fun k=>?_).symm
   unfold cT ab a8 ak ae az aF at k
   obtain⟨⟨k1,k2,k3,k4,k5,k6⟩,-⟩:=k
   omega
  have h:¬ (bif b6 then true else decide ((1024:Int)<(d.2.2.2.1.length:Int)))=true:=by rw[h];simp
  rw[e6,e5,e4,e3,e2,e1] at h
  simp only[cn,decide_eq_true_eq] at h
  intro b7 e7
  (repeat refine⟨fun h_=>(by first|(simp;done)|(simp[h_];done)|(simp_all;done)),?_⟩)
  intro b8 e8
  (repeat refine⟨fun h_=>(by first|(simp;done)|(simp[h_];done)|(simp_all;done)),?_⟩)
  intro b9 e9
  (repeat refine⟨fun h_=>(by first|(simp;done)|(simp[h_];done)|(simp_all;done)),?_⟩)
  refine aq (fun h2=>?_) (fun h2=>?_)
  ·rw[e9,e8,e7] at h2
   simp only[cn,decide_eq_true_eq,List.any_eq_true] at h2
   refine (decide_eq_false fun k=>?_).symm
   unfold cT ab a8 ak ae az aF at k
   obtain⟨⟨k1,k2,k3,k4,k5,k6⟩,k7,-⟩:=k
   rcases h2 with ((⟨b,hb,hb2⟩|h2)|h2)|h2
   ·have:=k7 b hb;omega
   ·omega
   ·omega
   ·omega
  have h2:¬ (bif b9 then true else decide ((d.2.2.2.1.length:Int)<(d.2.2.2.2.2.1.length:Int)))=true:=by rw[h2];simp
  rw[e9,e8,e7] at h2
  simp only[cn,decide_eq_true_eq,List.any_eq_true,not_or,not_exists,not_and] at h2
  obtain⟨⟨⟨hit,h3⟩,h4⟩,h5⟩:=h2
  have hit:∀ b∈d.2.2.2.1,(b.length:Int)<=6000:=fun b hb=>by have:=hit b hb;omega
  refine⟨⟨0,⟨by omega,by omega,fun k hk=>absurd hk (by simp)⟩,(by repeat' first|exact trivial|refine⟨trivial,?_⟩|refine⟨(by with_reducible rfl),?_⟩|refine⟨ad (by omega) (by omega),?_⟩|refine⟨rfl,?_⟩)⟩,?_⟩
  rintro j ⟨j0,j1,hj⟩
  refine aq (fun hk=>?_) (fun hk=>?_)
  ·have hk:=of_decide_eq_true hk
   refine⟨j0,hk,j0,by omega,aq (fun hq=>?_) (fun hq=>?_)⟩
   ·have hq:=ls hq
    refine (decide_eq_false fun k=>hq ?_).symm
    unfold cT ab a8 ak ae az aF at k
    exact k.2.2.1 _ (by omega)
   ·have hq:=lO hq
    refine⟨j+1,⟨by omega,by omega,fun k hk2=>?_⟩,by omega,(by repeat' first|exact trivial|refine⟨trivial,?_⟩|refine⟨(by with_reducible rfl),?_⟩|refine⟨ad (by omega) (by omega),?_⟩|refine⟨rfl,?_⟩)⟩
    by_cases hkj:k<j.toNat
    ·exact hj k hkj
    ·rw[show k=j.toNat by omega];exact hq
  have hk:=of_decide_eq_false hk
  have E:cT d↔(earP d.2.2.2.2.1 d.2.2.1 (d.2.2.2.2.2.1.length:Int) d.2.2.2.1 d.2.2.2.2.2.2.1/\db d.1 d.2.1 d.2.2.2.2.2.2.2.1/\db d.1 d.2.1 d.2.2.2.2.2.2.2.2/\(∀ t∈d.2.2.2.2.2.2.2.1,bz d.2.2.2.1 t.2.2)∧∀ t∈d.2.2.2.2.2.2.2.2,bB (d.2.2.2.2.2.1.length:Int) (d.2.2.2.1.length:Int) t.2.2):=by
   unfold cT ab a8 ak ae az aF aH aJ ba
   refine⟨fun k=>⟨k.2.2.2.1,k.2.2.2.2.1,k.2.2.2.2.2.1,k.2.2.2.2.2.2.1,k.2.2.2.2.2.2.2⟩,fun k=>⟨?_,hit,fun i hi=>hj i (by omega),k⟩⟩
   omega
  refine⟨by omega,by omega,by omega,by omega,?_⟩
  intro b1 e1
  (repeat refine⟨fun h_=>(by first|exact⟨fun _=>h_,fun _=>h_,by omega,by omega,trivial⟩|(simp;done)|(simp[h_];done)|(simp_all;done)),?_⟩)
  intro b2 e2
  (repeat refine⟨fun h_=>(by first|exact⟨fun _=>h_,fun _=>h_,by omega,by omega,trivial⟩|(simp;done)|(simp[h_];done)|(simp_all;done)),?_⟩)
  intro b3 e3
  cases b3 with
  | false =>
   have hn:decide (cT d)=false:=decide_eq_false fun k=>by
    obtain⟨k1,k2,k3,-⟩:=E.1 k
    rw[e2,e1,decide_eq_true k1,decide_eq_true k2,decide_eq_true k3] at e3
    cases e3
   simp[ah,hn]
  | true =>
   have e3:=e3.symm
   rw[e2,e1] at e3
   simp only[mj,decide_eq_true_eq] at e3
   obtain⟨⟨k1,k2⟩,k3⟩:=e3
   simp only[ah]
   (repeat refine⟨by simp,?_⟩)
   refine⟨hit,by simp,?_⟩
   intro b4 e4
   cases b4 with
   | false =>
    have hn:decide (cT d)=false:=decide_eq_false fun k=>by
     have k4:=(E.1 k).2.2.2.1
     have:(!d.2.2.2.2.2.2.2.1.any fun t => !decide (bz d.2.2.2.1 t.2.2))=true:=by
      rw[List.not_any_eq_all_not,List.all_eq_true]
      intro t ht
      rw[Bool.not_not]
      exact decide_eq_true (k4 t ht)
     rw[this] at e4
     cases e4
    simp[ah,hn]
   | true =>
    have e4:(!d.2.2.2.2.2.2.2.1.any fun t => !decide (bz d.2.2.2.1 t.2.2))=true:=e4.symm
    rw[List.not_any_eq_all_not,List.all_eq_true] at e4
    simp only[ah]
    (repeat refine⟨by simp,?_⟩)
    show (!d.2.2.2.2.2.2.2.2.any fun t => !decide (bB (d.2.2.2.2.2.1.length:Int) (d.2.2.2.1.length:Int) t.2.2))=_
    rw[List.not_any_eq_all_not]
    apply Bool.eq_iff_iff.2
    rw[List.all_eq_true,decide_eq_true_eq,E]
    constructor
    ·intro h6
     exact⟨k1,k2,k3,fun t ht=>by have:=e4 t ht;rw[Bool.not_not] at this;exact of_decide_eq_true this,fun t ht=>by have:=h6 t ht;rw[Bool.not_not] at this;exact of_decide_eq_true this⟩
    ·rintro⟨-,-,-,-,h6⟩ t ht
     rw[Bool.not_not]
     exact decide_eq_true (h6 t ht)
theorem Dd:aG Try.prog GL 40 wl.spec:=Ct.okH _ Try.func40 (by kernel_rfl) (uc (ay (uc (ay (ay (ay (ay (ay aP At) q6) AK) Bs) zK) Am) Cf) DC) aD DB (aQ (by kernel_rfl) yr)
def xB:Ct:=⟨[.agg aS],[.val cI],fun _=>[],fun d=>((c8 d.1,()),())⟩
def Aa:aC xB.ps->aN:=(fun _=>{})
theorem Cx :
 ∀(a:Int×Int×Int×List (List Int)×Int×List (List Int)×List (Int×List Int)×List (Int×Int×List Int)×List (Int×Int×List Int)),CT.wf aS a/\True->True->ah (! decide (cT a)) ((7:Int)=c8 a) ((0:Int)=c8 a):=by
  rintro d - -
  unfold c8
  refine aq (fun h=>?_) (fun h=>?_)
  ·rw[if_neg (ls h)]
  ·rw[if_pos (lO h)]
theorem xF:aG Try.prog GL 23 xB.spec:=Ct.okH _ Try.func23 (by kernel_rfl) (ay aP Dd) aD Aa (aQ (by kernel_rfl) Cx)
end Go.RS

/- Xck2: the document's check of a channel. -/
namespace Go.RS
open Go.SX Go.Proofs
set_option maxRecDepth 100000
set_option linter.unusedVariables false
theorem Al{b:List Int}(hb:∀ x∈b,0<=x/\x<=255)(h:3<=b.length):aA b 1<=65535:=by
 match b,h with
 | x::y::z::r,_ =>
  have h1:=hb y (by simp)
  have h2:=hb z (by simp)
  have e:aA (x::y::z::r) 1=y*256+z:=by
   rw[show (1:Int)=((1:Nat):Int) from rfl,mE (by simp)]
   exact qo y z
  omega
def we:Ct:=⟨[.agg aS,.val (.sl a9)],[.val .bool],fun d=>[0<=d.1.1,d.1.1<=1099511627776],fun d=>((decide (db d.1.1 d.1.2.1 d.2.1),()),())⟩
def zw:aC we.ps->aN:=(fun d=>{loops:=(fun n=>match n with|2=>some (fun S=>{ι:=Int,μ:=fun i=>(d.2.1.length-i).toNat,inv:=fun i=>0<=i/\i<=d.2.1.length∧∀ k:Nat,k<i.toNat->ee d.1.1 d.1.2.1 d.2.1 k,keep:=[1,2],slots:=fun i=>[(5,.int .i64 i)],keepN:=[48],names:=fun i=>[]})|_=>none)})
def eJ(a:Int×Int×Int×List (List Int)×Int×List (List Int)×List (Int×List Int)×List (Int×Int×List Int)×List (Int×Int×List Int)) :=
 a.1=a.1/\a.2.1=a.2.1/\a.2.2.1=a.2.2.1/\a.2.2.2.1=a.2.2.2.1/\a.2.2.2.2.1=a.2.2.2.2.1/\a.2.2.2.2.2.1=a.2.2.2.2.2.1/\a.2.2.2.2.2.2.1=a.2.2.2.2.2.2.1/\a.2.2.2.2.2.2.2.1=a.2.2.2.2.2.2.2.1/\a.2.2.2.2.2.2.2.2=a.2.2.2.2.2.2.2.2/\True
def ij(g h i:Bool) :=
 (! g&&h&& ! i)->(! g&&h&& ! i)
def jc(g h i j:Bool) :=
 (! g&&h&& ! i&&j)->(! g&&h&& ! i&&j)
def j7(g h:Bool) :=
 (! g&&h)->((! g&&h)->(! g&&h))/\True
def gc(d:Bool) :=
 (! d)->((! d)->(! d))/\True
def nR(b:List (Int×Int×List Int))(c:Int) :=
 0<=IntKind.wrap .i64 (c -(1:Int))/\IntKind.wrap .i64 (c -(1:Int))<(b.length:Int)/\True
def jZ(g h i:Bool) :=
 (! g&&h&& ! i)->(ij g h i)/\True
def gJ(e:Bool) :=
 (! e)->((! e)->(! e))/\True
def kA(g h i j:Bool) :=
 (! g&&h&& ! i&&j)->(jc g h i j)/\True
theorem yE :
 ∀(a:Int×Int×Int×List (List Int)×Int×List (List Int)×List (Int×List Int)×List (Int×Int×List Int)×List (Int×Int×List Int))(b:List (Int×Int×List Int)),CT.wf aS a/\(b.length<=maxLen/\ ∀(c:Int×Int×List Int),c∈b->ao c.1/\ao c.2.1/\c.2.2.length<=maxLen/\ ∀(d:Int),d∈c.2.2->0<=d/\d<=255)/\True->0<=a.1/\a.1<=1099511627776->(∃(c:Int),(0<=c/\c<=(b.length:Int)/\ ∀(d:Nat),d<c.toNat->ee a.1 a.2.1 b d)/\b=b/\(0:Int)=c/\(eJ a))/\ ∀(c:Int),(0<=c/\c<=(b.length:Int)/\ ∀(d:Nat),d<c.toNat->ee a.1 a.2.1 b d)->ah (decide (c<(b.length:Int))) (0<=c/\c<(b.length:Int)/\ ∀(d:Bool),d=decide ((b.getD c.toNat default).1<=a.1)->((! d)->((! d)->(! d))/\((! d)->(! d))/\0<=c/\c<(b.length:Int)/\True)/\(gc d)/\(gc d)/\(gc d)/\(gc d)/\((! d)->((! d)->(! d))/\((! d)->(! d))/\True)/\(d=false->(! d))/\ ∀(e:Bool),(e=bif d then true else decide (IntKind.wrap .i64 (a.1+(2000:Int))<(b.getD c.toNat
 default).1))->((! e)->((! e)->(! e))/\((! e)->(! e))/\0<=c/\c<(b.length:Int)/\True)/\(gJ e)/\(gJ e)/\(gJ e)/\(e=false->(! e))/\ ∀(f:Bool),(f=bif e then true else decide ((b.getD c.toNat default).2.1<0))->((! f)->((! f)->(! f))/\((! f)->(! f))/\0<=c/\c<(b.length:Int)/\True)/\((! f)->((! f)->(! f))/\True)/\((! f)->((! f)->(! f))/\True)/\((! f)->((! f)->(! f))/\True)/\((! f)->((! f)->(! f))/\((! f)->(! f))/\True)/\(f=false->(! f))/\ ∀(g:Bool),(g=bif f then true else decide (a.2.1<=(b.getD c.toNat default).2.1))->((! g)->((! g)->(! g))/\True)/\((! g)->((! g)->(! g))/\True)/\ ∀(h:Bool),h=decide (0<c)->(j7 g h)/\((! g&&h)->((! g&&h)->(! g&&h))/\((! g&&h)->(! g&&h))/\(nR b c))/\(j7 g h)/\(j7 g h)/\((! g&&h)->((! g&&h)->(! g&&h))/\((! g&&h)->(! g&&h))/\0<=c/\c<(b.length:Int)/\True)/\(j7 g h)/\(j7 g h)/\((! g&&h)->((! g&&h)->(! g&&h))/\((! g&&h)->(! g&&h))/\True)/\(j7 g h)/\
 ∀(i:Bool),i=decide ((b.getD c.toNat default).1<(b.getD (Int.toNat (IntKind.wrap .i64 (c -(1:Int)))) default).1)->(jZ g h i)/\((! g&&h&& ! i)->(ij g h i)/\(ij g h i)/\(nR b c))/\(jZ g h i)/\(jZ g h i)/\((! g&&h&& ! i)->(ij g h i)/\(ij g h i)/\0<=c/\c<(b.length:Int)/\True)/\(jZ g h i)/\(jZ g h i)/\((! g&&h&& ! i)->(ij g h i)/\(ij g h i)/\True)/\(jZ g h i)/\ ∀(j:Bool),j=decide ((b.getD (Int.toNat (IntKind.wrap .i64 (c -(1:Int)))) default).1=(b.getD c.toNat default).1)->(kA g h i j)/\((! g&&h&& ! i&&j)->(jc g h i j)/\(jc g h i j)/\(nR b c))/\(kA g h i j)/\(kA g h i j)/\((! g&&h&& ! i&&j)->(jc g h i j)/\(jc g h i j)/\0<=c/\c<(b.length:Int)/\True)/\(kA g h i j)/\(kA g h i j)/\((! g&&h&& ! i&&j)->(jc g h i j)/\(jc g h i j)/\True)/\((! g&&h&& ! i)->(ij g h i)/\(j->(! g&&h&& ! i&&j))/\True)/\((! g&&h)->((! g&&h)->(! g&&h))/\(i=false->(!
 g&&h&& ! i))/\True)/\((! g)->((! g)->(! g))/\(h->(! g&&h))/\True)/\(g=false->(! g))/\ah (bif g then true else bif h then bif i then true else bif j then decide ((b.getD c.toNat default).2.1<=(b.getD (Int.toNat (IntKind.wrap .i64 (c -(1:Int)))) default).2.1) else false else false) (false=decide (db a.1 a.2.1 b)) (∃(k:Int),(0<=k/\k<=(b.length:Int)/\ ∀(l:Nat),l<k.toNat->ee a.1 a.2.1 b l)/\Int.toNat ((b.length:Int) -k)<Int.toNat ((b.length:Int) -c)/\b=b/\IntKind.wrap .i64 (c+(1:Int))=k/\(eJ a))) (decide ((b.length:Int)<=4096)=decide (db a.1 a.2.1 b)):=by
  delta eJ ij jc j7 gc nR jZ gJ kA
  rintro d x ⟨-,⟨hl,-⟩,-⟩⟨hn0,hn1⟩
  simp only[maxLen] at hl
  refine⟨⟨0,⟨by omega,by omega,fun k hk=>absurd hk (by simp)⟩,(by repeat' first|exact trivial|refine⟨trivial,?_⟩|refine⟨(by with_reducible rfl),?_⟩|refine⟨ad (by omega) (by omega),?_⟩|refine⟨rfl,?_⟩)⟩,?_⟩
  rintro j ⟨j0,j1,hj⟩
  refine aq (fun hk=>?_) (fun hk=>?_)
  ·have hk:=of_decide_eq_true hk
   rw[ad (n:=d.1+2000) (by omega) (by omega),ad (n:=j-1) (by omega) (by omega)]
   refine⟨j0,hk,?_⟩
   intro b1 e1
   (repeat refine⟨fun h_=>(by first|exact⟨fun _=>h_,fun _=>h_,j0,hk,trivial⟩|(simp;done)|(simp[h_];done)|(simp_all;done)),?_⟩)
   intro b2 e2
   (repeat refine⟨fun h_=>(by first|exact⟨fun _=>h_,fun _=>h_,j0,hk,trivial⟩|(simp;done)|(simp[h_];done)|(simp_all;done)),?_⟩)
   intro b3 e3
   (repeat refine⟨fun h_=>(by first|exact⟨fun _=>h_,fun _=>h_,j0,hk,trivial⟩|(simp;done)|(simp[h_];done)|(simp_all;done)),?_⟩)
   intro b4 e4
   (repeat refine⟨fun h_=>(by first|(simp;done)|(simp[h_];done)|(simp_all;done)),?_⟩)
   intro b5 e5
   (repeat refine⟨fun h_=>(by first|exact⟨fun _=>h_,fun _=>h_,j0,hk,trivial⟩|exact⟨fun _=>h_,fun _=>h_,(by simp only[e5,Bool.and_eq_true,decide_eq_true_eq] at h_;omega),by omega,trivial⟩|(simp;done)|(simp[h_];done)|(simp_all;done)),?_⟩)
   intro b6 e6
   (repeat refine⟨fun h_=>(by first|exact⟨fun _=>h_,fun _=>h_,j0,hk,trivial⟩|exact⟨fun _=>h_,fun _=>h_,(by simp only[e5,Bool.and_eq_true,decide_eq_true_eq] at h_;omega),by omega,trivial⟩|(simp;done)|(simp[h_];done)|(simp_all;done)),?_⟩)
   intro b7 e7
   (repeat refine⟨fun h_=>(by first|exact⟨fun _=>h_,fun _=>h_,j0,hk,trivial⟩|exact⟨fun _=>h_,fun _=>h_,(by simp only[e5,Bool.and_eq_true,decide_eq_true_eq] at h_;omega),by omega,trivial⟩|(simp;done)|(simp[h_];done)|(simp_all;done)),?_⟩)
   have key:(bif b4 then true else bif b5 then bif b6 then true else bif b7 then decide ((x.getD j.toNat default).2.1<=(x.getD (j-1).toNat default).2.1) else false else false)=true↔¬ ee d.1 d.2.1 x j.toNat:=by
    rw[e7,e6,e5,e4,e3,e2,e1]
    simp only[cn,mj,decide_eq_true_eq]
    unfold ee
    rw[show (j-1).toNat=j.toNat-1 by omega]
    by_cases h0:0<j
    ·omega
    ·have:¬ 0<j.toNat:=by omega
     omega
   refine aq (fun hc=>?_) (fun hc=>?_)
   ·exact (decide_eq_false fun k=>key.1 hc (k.2 _ (by omega))).symm
   ·have hok:ee d.1 d.2.1 x j.toNat:=Classical.byContradiction fun k=>by rw[key.2 k] at hc;cases hc
    refine⟨j+1,⟨by omega,by omega,fun k hk2=>?_⟩,by omega,(by repeat' first|exact trivial|refine⟨trivial,?_⟩|refine⟨(by with_reducible rfl),?_⟩|refine⟨ad (by omega) (by omega),?_⟩|refine⟨rfl,?_⟩)⟩
    by_cases hkj:k<j.toNat
    ·exact hj k hkj
    ·rw[show k=j.toNat by omega];exact hok
  ·have hk:=of_decide_eq_false hk
   exact decide_eq_decide.2 ⟨fun h=>⟨by omega,fun k hk2=>hj k (by omega)⟩,fun h=>by have:=h.1;omega⟩
theorem CG:aG Try.prog GL 41 we.spec:=Ct.okH _ Try.func41 (by kernel_rfl) aP aD zw (aQ (by kernel_rfl) yE)
def vl:Ct:=⟨[.agg aS,.val (.sl aV)],[.val .bool],fun d=>[∀ b∈d.1.2.2.2.1,(b.length:Int)<=6000],fun d=>((decide (bz d.1.2.2.2.1 d.2.1),()),())⟩
def ya:aC vl.ps->aN:=(fun _=>{})
def co(a:Int×Int×Int×List (List Int)×Int×List (List Int)×List (Int×List Int)×List (Int×Int×List Int)×List (Int×Int×List Int)) :=
 (a.2.2.2.1.length:Int)
def ip(c:Bool) :=
 (! c)->((! c)->(! c))/\True
theorem CB :
 ∀(a:Int×Int×Int×List (List Int)×Int×List (List Int)×List (Int×List Int)×List (Int×Int×List Int)×List (Int×Int×List Int))(b:List Int),CT.wf aS a/\(b.length<=maxLen/\ ∀(c:Int),c∈b->0<=c/\c<=255)/\True->(∀(c:List Int),c∈a.2.2.2.1->(c.length:Int)<=6000)-> ∀(c:Bool),c=decide ((b.length:Int)<3)->((! c)->((! c)->(! c))/\(0:Int)<=0/\0<(b.length:Int)/\True)/\(ip c)/\(ip c)/\(c=false->(! c))/\ah (bif c then true else ! decide (b.getD (Int.toNat (0:Int)) default=68)) (false=decide (bz a.2.2.2.1 b)) ((b.length:Int)<=9223372036854775807/\ ∀(d:Bool),d=decide (bj b (1:Int) 2<(co a))->ah d ((d->d)/\(d->d)/\0<=bj b (1:Int) (2:Int)/\bj b (1:Int) (2:Int)<=65535/\bj b (1:Int) 2<(co a)/\List.length (List.getD a.2.2.2.1 (Int.toNat (bj b (1:Int) (2:Int))) default)<=(1048576:Nat)/\(d->(d->d)/\True)/\(d->d)/\(bif d then decide (b=bF (bj b (1:Int) (2:Int)) (List.getD a.2.2.2.1
 (Int.toNat (bj b (1:Int) (2:Int))) default)) else false)=decide (bz a.2.2.2.1 b)) (d=false/\(d->false=true)/\(bif d then false else false)=decide (bz a.2.2.2.1 b))):=by
  delta co ip
  rintro d x ⟨-,⟨hl,hb⟩,-⟩ hit
  have eM:bj x 1 2=aA x 1:=rfl
  rw[eM]
  have hn:=sC hb 1
  have hl2:(x.length:Int)<=9223372036854775807:=by simp only[maxLen] at hl;omega
  intro b1 e1
  (repeat refine⟨fun h_=>(by first|exact⟨fun _=>h_,by decide,(by have h_:¬ b1=true:=(by simpa using h_);rw[e1,decide_eq_true_eq] at h_;omega),trivial⟩|(simp;done)|(simp[h_];done)|(simp_all;done)),?_⟩)
  refine aq (fun hc=>?_) (fun hc=>?_)
  ·rw[e1] at hc
   simp only[cn,decide_eq_true_eq,Bool.not_eq_true',decide_eq_false_iff_not] at hc
   refine (decide_eq_false fun k=>?_).symm
   obtain⟨k1,k2,k3⟩:=k
   rcases hc with hc|hc
   ·omega
   ·rw[k3] at hc
    exact hc rfl
  have hc:¬ (bif b1 then true else !decide (x.getD (Int.toNat 0) default=68))=true:=by rw[hc];simp
  rw[e1] at hc
  simp only[cn,decide_eq_true_eq,Bool.not_eq_true',decide_eq_false_iff_not,not_or,Classical.not_not] at hc
  have h16:=Al hb (by omega)
  refine⟨hl2,?_⟩
  intro b2 e2
  refine aq (fun h3=>?_) (fun h3=>?_)
  ·subst h3
   have h3:=of_decide_eq_true e2.symm
   have hi:=hit _ (ce (xs:=d.2.2.2.1) hn h3)
   refine⟨fun _=>rfl,fun _=>rfl,hn,h16,h3,by omega,?_⟩
   (repeat refine⟨by simp,?_⟩)
   exact decide_eq_decide.2 ⟨fun k=>⟨by omega,h3,k⟩,fun k=>k.2.2⟩
  ·subst h3
   have h3:=of_decide_eq_false e2.symm
   refine⟨rfl,by simp,?_⟩
   exact (decide_eq_false fun k=>h3 k.2.1).symm
theorem Bv:aG Try.prog GL 42 vl.spec:=Ct.okH _ Try.func42 (by kernel_rfl) (ay (ay (ay aP nX) tV) ur) aD ya (aQ (by kernel_rfl) CB)
def sA:Ct:=⟨[.agg aS,.val (.sl aV)],[.val .bool],fun _=>[],fun d=>((decide (bB d.1.2.2.2.2.2.1.length d.1.2.2.2.1.length d.2.1),()),())⟩
def Ds:aC sA.ps->aN:=(fun d=>{loops:=(fun n=>match n with|5=>some (fun S=>{ι:=Int×Int,qn:=⟨fun k_=>∀(a:Int)(last:Int),k_ (a,last),fun k_ h_ i=>h_ i.1 i.2,fun k_=>∃ (a:Int) (last:Int),k_ (a,last),fun k_ ⟨a,last,h_⟩=>⟨_,h_⟩⟩,μ:=fun i=>(d.2.1.length-i.1).toNat,inv:=fun i=>3<=i.1/\(i.1-3)%2=0/\i.1<=d.2.1.length/\d.2.1.length%2=1/\i.2=aA d.2.1 (i.1-2)∧∀ k:Nat,3+2*(k:Int)<i.1->dN d.1.2.2.2.1.length d.2.1 k,keep:=[1,2],slots:=fun i=>[(5,.int .i64 i.2),(6,.int .i64 i.1)],keepN:=[48],names:=fun i=>[]})|_=>none)})
def dt(a:Int×Int×Int×List (List Int)×Int×List (List Int)×List (Int×List Int)×List (Int×Int×List Int)×List (Int×Int×List Int)) :=
 (a.2.2.2.2.2.1.length:Int)
theorem Co :
 ∀(a:Int×Int×Int×List (List Int)×Int×List (List Int)×List (Int×List Int)×List (Int×Int×List Int)×List (Int×Int×List Int))(b:List Int),CT.wf aS a/\(b.length<=maxLen/\ ∀(c:Int),c∈b->0<=c/\c<=255)/\True->True-> ∀(c:Bool),c=decide ((b.length:Int)<3)->(ip c)/\((! c)->((! c)->(! c))/\(2:Int)≠(0:Int)/\True)/\(ip c)/\(c=false->(! c))/\ ∀(d:Bool),(d=bif c then true else decide (Int.tmod (b.length:Int) (2:Int)=0))->((! d)->((! d)->(! d))/\(0:Int)<=0/\0<(b.length:Int)/\True)/\(gc d)/\(gc d)/\(d=false->(! d))/\ ∀(e:Bool),(e=bif d then true else ! decide (b.getD (Int.toNat (0:Int)) default=65))->((! e)->((! e)->(! e))/\(b.length:Int)<=9223372036854775807/\True)/\(gJ e)/\(gJ e)/\((! e)->((! e)->(! e))/\((! e)->(! e))/\True)/\(e=false->(! e))/\ah (bif e then true else decide ((dt a)<bj b (1:Int) (2:Int))) (false=decide (bB (dt a) (co a) b))
 ((b.length:Int)<=9223372036854775807/\(∃(f:Int) (g:Int),(3<=f/\(f -(3:Int))%(2:Int)=0/\f<=(b.length:Int)/\b.length%(2:Nat)=(1:Nat)/\g=aA b (f -(2:Int))/\ ∀(h:Nat),(3:Int)+(2:Int)*(↑h:Int)<f->dN (co a) b h)/\b=b/\bj b (1:Int) (2:Int)=g/\(3:Int)=f/\(eJ a))/\ ∀(f g:Int),(3<=f/\(f -(3:Int))%(2:Int)=0/\f<=(b.length:Int)/\b.length%(2:Nat)=(1:Nat)/\g=aA b (f -(2:Int))/\ ∀(h:Nat),(3:Int)+(2:Int)*(↑h:Int)<f->dN (co a) b h)->ah (decide (f<(b.length:Int))) ((b.length:Int)<=9223372036854775807/\ ∀(h:Bool),h=decide (bj b f 2<=g)->((! h)->((! h)->(! h))/\True)/\((! h)->((! h)->(! h))/\True)/\((! h)->((! h)->(! h))/\((! h)->(! h))/\True)/\(h=false->(! h))/\ah (bif h then true else decide ((co a)<=bj b f (2:Int))) (false=decide (bB (dt a) (co a) b)) (∃(i:Int) (j:Int),(3<=i/\(i -(3:Int))%(2:Int)=0/\i<=(b.length:Int)/\b.length%(2:Nat)=(1:Nat)/\j=aA b (i -(2:Int))/\
 ∀(k:Nat),(3:Int)+(2:Int)*(↑k:Int)<i->dN (co a) b k)/\Int.toNat ((b.length:Int) -i)<Int.toNat ((b.length:Int) -f)/\b=b/\bj b f (2:Int)=j/\IntKind.wrap .i64 (f+(2:Int))=i/\(eJ a))) (true=decide (bB (dt a) (co a) b))):=by
  delta eJ co dt gc gJ ip
  have eM:∀ b a,bj b a 2=aA b a:=fun _ _=>rfl
  simp only[eM]
  rintro d x ⟨-,⟨hl,hb⟩,-⟩ -
  have hl2:(x.length:Int)<=9223372036854775807:=by simp only[maxLen] at hl;omega
  have et:Int.tmod (x.length:Int) 2=(x.length:Int)%2:=Int.tmod_eq_emod_of_nonneg (by omega)
  rw[et]
  intro b1 e1
  (repeat refine⟨fun h_=>(by first|exact⟨fun _=>h_,by decide,trivial⟩|(simp;done)|(simp[h_];done)|(simp_all;done)),?_⟩)
  intro b2 e2
  (repeat refine⟨fun h_=>(by first|exact⟨fun _=>h_,by decide,by have h_:¬ b2=true:=(by simpa using h_);rw[e2,e1] at h_;simp only[cn,decide_eq_true_eq] at h_;omega,trivial⟩|(simp;done)|(simp[h_];done)|(simp_all;done)),?_⟩)
  intro b3 e3
  (repeat refine⟨fun h_=>(by first|exact⟨fun _=>h_,hl2,trivial⟩|(simp;done)|(simp[h_];done)|(simp_all;done)),?_⟩)
  refine aq (fun hc=>?_) (fun hc=>?_)
  ·rw[e3,e2,e1] at hc
   simp only[cn,decide_eq_true_eq,Bool.not_eq_true',decide_eq_false_iff_not] at hc
   refine (decide_eq_false fun k=>?_).symm
   obtain⟨p1,p2,p3,p4,-⟩:=k
   have p3:x.getD (Int.toNat 0) default=65:=p3
   omega
  have hc:¬ (bif b3 then true else decide ((d.2.2.2.2.2.1.length:Int)<aA x 1))=true:=by rw[hc];simp
  rw[e3,e2,e1] at hc
  simp only[cn,decide_eq_true_eq,Bool.not_eq_true',decide_eq_false_iff_not,not_or,Classical.not_not] at hc
  obtain⟨⟨⟨q1,q2⟩,q3⟩,q4⟩:=hc
  refine⟨hl2,⟨3,_,⟨by omega,by omega,by omega,by omega,rfl,fun k hk=>by omega⟩,(by repeat' first|exact trivial|refine⟨trivial,?_⟩|refine⟨(by with_reducible rfl),?_⟩|refine⟨ad (by omega) (by omega),?_⟩|refine⟨rfl,?_⟩)⟩,?_⟩
  rintro a last ⟨a0,a1,a2,a3,rfl,ha⟩
  refine aq (fun hk=>?_) (fun hk=>?_)
  ·have hk:=of_decide_eq_true hk
   refine⟨hl2,?_⟩
   intro b4 e4
   (repeat refine⟨fun h_=>(by first|(simp;done)|(simp[h_];done)|(simp_all;done)),?_⟩)
   obtain⟨q,hq⟩:∃ q:Nat,a=3+2*(q:Int):=⟨((a-3)/2).toNat,by omega⟩
   subst hq
   have key:(bif b4 then true else decide ((d.2.2.2.1.length:Int)<=aA x (3+2*(q:Int))))=true↔¬ dN d.2.2.2.1.length x q:=by
    rw[e4]
    unfold dN
    simp only[cn,decide_eq_true_eq]
    rw[show (((1+2*q:Nat):Int))=3+2*(q:Int)-2 by omega,show (((3+2*q:Nat):Int))=3+2*(q:Int) by omega]
    omega
   refine aq (fun hc=>?_) (fun hc=>?_)
   ·refine (decide_eq_false fun k=>?_).symm
    exact key.1 hc (k.2.2.2.2 q (by omega))
   ·have hok:dN d.2.2.2.1.length x q:=Classical.byContradiction fun k=>by rw[key.2 k] at hc;cases hc
    refine⟨3+2*(q:Int)+2,_,⟨by omega,by omega,by omega,a3,?_,fun k hk2=>?_⟩,by omega,(by repeat' first|exact trivial|refine⟨trivial,?_⟩|refine⟨(by with_reducible rfl),?_⟩|refine⟨ad (by omega) (by omega),?_⟩|refine⟨rfl,?_⟩)⟩
    ·rw[show 3+2*(q:Int)+2-2=3+2*(q:Int) by omega]
    ·by_cases hkq:k=q
     ·rw[hkq];exact hok
     ·exact ha k (by omega)
  ·have hk:=of_decide_eq_false hk
   exact (decide_eq_true ⟨by omega,by omega,q3,by omega,fun k hk2=>ha k (by omega)⟩).symm
theorem za:aG Try.prog GL 43 sA.spec:=Ct.okH _ Try.func43 (by kernel_rfl) (ay aP nX) aD Ds (aQ (by kernel_rfl) Co)
def wW:Ct:=⟨[.agg aS],[.val cI],fun _=>[],fun d=>((c8 d.1,()),())⟩
def EI:aC wW.ps->aN:=(fun d=>{loops:=(fun n=>match n with|4=>some (fun S=>{ι:=Int,μ:=fun i=>(d.1.2.2.2.1.length-i).toNat,inv:=fun i=>0<=i/\i<=d.1.2.2.2.1.length∧∀ k:Nat,k<i.toNat->((d.1.2.2.2.1.getD k default).length:Int)<=6000/\(k<d.1.2.2.2.2.2.1.length->d.1.2.2.2.1.getD k default=d.1.2.2.2.2.2.1.getD k default),keep:=[1],slots:=fun i=>[(3,.int .i64 i)],keepN:=[32],names:=fun i=>[]})|10=>some (fun S=>{ι:=Int×Int,qn:=⟨fun k_=>∀(j:Int)(last:Int),k_ (j,last),fun k_ h_ i=>h_ i.1 i.2,fun k_=>∃ (j:Int) (last:Int),k_ (j,last),fun k_ ⟨j,last,h_⟩=>⟨_,h_⟩⟩,μ:=fun i=>(d.1.2.2.2.2.2.2.1.length-i.1).toNat,inv:=fun i=>0<=i.1/\i.1<=d.1.2.2.2.2.2.2.1.length/\0<=i.2/\i.2=(if i.1.toNat=0 then (d.1.2.2.2.2.2.1.length:Int) else (d.1.2.2.2.2.2.2.1.getD (i.1.toNat-1) default).1)∧∀ k:Nat,k<i.1.toNat->eO d.1.2.2.2.2.1 d.1.2.2.1 d.1.2.2.2.2.2.1.length d.1.2.2.2.1 d.1.2.2.2.2.2.2.1 k,keep:=[1],slots:=fun i=>[(4,.int .i64 i.2),(5,.int .i64 i.1)],keepN:=[32],names:=fun i=>[]})|17=>some (fun S=>{ι:=Int,μ:=fun i=>(d.1.2.2.2.2.2.2.2.1.length-i).toNat,inv:=fun i=>0<=i/\i<=d.1.2.2.2.2.2.2.2.1.length∧∀ t∈d.1.2.2.2.2.2.2.2.1.take i.toNat,bz d.1.2.2.2.1 t.2.2,keep:=[1],slots:=fun i=>[(7,.int .i64 i)],keepN:=[32],names:=fun i=>[]})|22=>some (fun S=>{ι:=Int,μ:=fun i=>(d.1.2.2.2.2.2.2.2.2.length-i).toNat,inv:=fun i=>0<=i/\i<=d.1.2.2.2.2.2.2.2.2.length∧∀ t∈d.1.2.2.2.2.2.2.2.2.take i.toNat,bB d.1.2.2.2.2.2.1.length d.1.2.2.2.1.length t.2.2,keep:=[1],slots:=fun i=>[(8,.int .i64 i)],keepN:=[32],names:=fun i=>[]})|_=>none)})
def kW(n o:Bool) :=
 (! n&&o)->((! n&&o)->(! n&&o))/\True
def ic(a:Int×Int×Int×List (List Int)×Int×List (List Int)×List (Int×List Int)×List (Int×Int×List Int)×List (Int×Int×List Int))(n:Int) :=
 List.getD a.2.2.2.2.2.2.1 n.toNat default
def jy(r:Bool) :=
 (! r)->((! r)->(! r))/\True
def qj(a:Int×Int×Int×List (List Int)×Int×List (List Int)×List (Int×List Int)×List (Int×Int×List Int)×List (Int×Int×List Int))(n o:Int) :=
 0<=n/\n<=(a.2.2.2.2.2.2.1.length:Int)/\0<=o/\(o=if n.toNat=(0:Nat) then (dt a) else (List.getD a.2.2.2.2.2.2.1 (n.toNat -(1:Nat)) default).1)/\ ∀(p:Nat),p<n.toNat->eO a.2.2.2.2.1 a.2.2.1 (dt a) a.2.2.2.1 a.2.2.2.2.2.2.1 p
theorem BQ :
 ∀(a:Int×Int×Int×List (List Int)×Int×List (List Int)×List (Int×List Int)×List (Int×Int×List Int)×List (Int×Int×List Int)),CT.wf aS a/\True->True-> ∀(b:Bool),b=decide (a.1<0)->((! b)->((! b)->(! b))/\True)/\((! b)->((! b)->(! b))/\True)/\(b=false->(! b))/\ ∀(c:Bool),(c=bif b then true else decide (1099511627776<a.1))->(ip c)/\(ip c)/\(c=false->(! c))/\ ∀(d:Bool),(d=bif c then true else decide (a.2.1<0))->(gc d)/\(gc d)/\(d=false->(! d))/\ ∀(e:Bool),(e=bif d then true else decide (1099511627776<a.2.1))->(gJ e)/\(gJ e)/\(e=false->(! e))/\ ∀(f:Bool),(f=bif e then true else decide (a.2.2.1<1))->((! f)->((! f)->(! f))/\True)/\((! f)->((! f)->(! f))/\True)/\(f=false->(! f))/\ ∀(g:Bool),(g=bif f then true else decide (64<a.2.2.1))->((! g)->((! g)->(! g))/\True)/\((! g)->((! g)->(! g))/\True)/\((! g)->((! g)->(! g))/\True)/\(g=false->(! g))/\ ∀(h:Bool),(h=bif g then true else
 decide (1024<(co a)))->((! h)->((! h)->(! h))/\True)/\((! h)->((! h)->(! h))/\True)/\(h=false->(! h))/\ ∀(i:Bool),(i=bif h then true else decide (a.2.2.2.2.1<0))->((! i)->((! i)->(! i))/\True)/\((! i)->((! i)->(! i))/\True)/\((! i)->((! i)->(! i))/\True)/\((! i)->((! i)->(! i))/\((! i)->(! i))/\True)/\(i=false->(! i))/\ ∀(j:Bool),(j=bif i then true else decide ((dt a)<a.2.2.2.2.1))->((! j)->((! j)->(! j))/\True)/\((! j)->((! j)->(! j))/\True)/\((! j)->((! j)->(! j))/\True)/\((! j)->((! j)->(! j))/\True)/\((! j)->((! j)->(! j))/\((! j)->(! j))/\True)/\(j=false->(! j))/\ ∀(k:Bool),(k=bif j then true else decide ((co a)<(dt a)))->((! k)->((! k)->(! k))/\True)/\((! k)->((! k)->(! k))/\((! k)->(! k))/\0<=a.1/\a.1<=1099511627776/\True)/\((! k)->((! k)->(! k))/\True)/\(k=false->(! k))/\ ∀(l:Bool),(l=bif k then true else ! decide (db a.1 a.2.1 a.2.2.2.2.2.2.2.1))->((! l)->((! l)->(!
 l))/\True)/\((! l)->((! l)->(! l))/\((! l)->(! l))/\0<=a.1/\a.1<=1099511627776/\True)/\((! l)->((! l)->(! l))/\True)/\(l=false->(! l))/\ah (bif l then true else ! decide (db a.1 a.2.1 a.2.2.2.2.2.2.2.2)) ((7:Int)=c8 a) ((∃(m:Int),(0<=m/\m<=(co a)/\ ∀(n:Nat),n<m.toNat->((List.length (List.getD a.2.2.2.1 n default)):Int)<=6000/\(n<a.2.2.2.2.2.1.length->List.getD a.2.2.2.1 n default=List.getD a.2.2.2.2.2.1 n default))/\(0:Int)=m/\(eJ a))/\ ∀(m:Int),(0<=m/\m<=(co a)/\ ∀(n:Nat),n<m.toNat->((List.length (List.getD a.2.2.2.1 n default)):Int)<=6000/\(n<a.2.2.2.2.2.1.length->List.getD a.2.2.2.1 n default=List.getD a.2.2.2.2.2.1 n default))->ah (decide (m<(co a))) (0<=m/\m<(co a)/\ ∀(n:Bool),n=decide (6000<((List.length (List.getD a.2.2.2.1 m.toNat default)):Int))->((! n)->((! n)->(! n))/\True)/\((! n)->((! n)->(! n))/\True)/\((! n)->((! n)->(! n))/\((! n)->(! n))/\True)/\((!
 n)->((! n)->(! n))/\True)/\ ∀(o:Bool),o=decide (m<(dt a))->(kW n o)/\((! n&&o)->((! n&&o)->(! n&&o))/\((! n&&o)->(! n&&o))/\0<=m/\m<(co a)/\True)/\(kW n o)/\(kW n o)/\((! n&&o)->((! n&&o)->(! n&&o))/\((! n&&o)->(! n&&o))/\0<=m/\m<(dt a)/\True)/\(kW n o)/\((! n&&o)->((! n&&o)->(! n&&o))/\((! n&&o)->(! n&&o))/\True)/\(kW n o)/\((! n)->((! n)->(! n))/\(o->(! n&&o))/\True)/\(n=false->(! n))/\ah (bif n then true else bif o then ! decide (List.getD a.2.2.2.1 m.toNat default=List.getD a.2.2.2.2.2.1 m.toNat default) else false) ((7:Int)=c8 a) (∃(p:Int),(0<=p/\p<=(co a)/\ ∀(q:Nat),q<p.toNat->((List.length (List.getD a.2.2.2.1 q default)):Int)<=6000/\(q<a.2.2.2.2.2.1.length->List.getD a.2.2.2.1 q default=List.getD a.2.2.2.2.2.1 q default))/\Int.toNat ((co a) -p)<Int.toNat ((co a) -m)/\IntKind.wrap .i64 (m+(1:Int))=p/\(eJ a))) ((∃(n:Int) (o:Int),(qj a n o)/\(dt
 a)=o/\(0:Int)=n/\(eJ a))/\ ∀(n o:Int),(qj a n o)->ah (decide (n<(a.2.2.2.2.2.2.1.length:Int))) (0<=n/\n<(a.2.2.2.2.2.2.1.length:Int)/\ ∀(p:Bool),p=decide ((ic a n).1<=o)->((! p)->((! p)->(! p))/\True)/\((! p)->((! p)->(! p))/\True)/\((! p)->((! p)->(! p))/\((! p)->(! p))/\True)/\(p=false->(! p))/\ ∀(q:Bool),(q=bif p then true else decide ((co a)<=(ic a n).1))->((! q)->((! q)->(! q))/\True)/\((! q)->((! q)->(! q))/\True)/\((! q)->((! q)->(! q))/\((! q)->(! q))/\True)/\((! q)->((! q)->(! q))/\((! q)->(! q))/\True)/\(q=false->(! q))/\ ∀(r:Bool),(r=bif q then true else decide (IntKind.wrap .i64 (a.2.2.2.2.1+a.2.2.1)<=(ic a n).1))->(jy r)/\((! r)->((! r)->(! r))/\((! r)->(! r))/\0<=n/\n<(a.2.2.2.2.2.2.1.length:Int)/\True)/\(jy r)/\(jy r)/\(jy r)/\((! r)->((! r)->(! r))/\((! r)->(! r))/\0<=(ic a n).1/\(ic a n).1<(co a)/\True)/\(jy r)/\((! r)->((! r)->(!
 r))/\((! r)->(! r))/\True)/\(jy r)/\(r=false->(! r))/\ah (bif r then true else ! decide ((ic a n).2=List.getD a.2.2.2.1 (Int.toNat (ic a n).1) default)) ((7:Int)=c8 a) (∃(s:Int) (t:Int),(0<=s/\s<=(a.2.2.2.2.2.2.1.length:Int)/\0<=t/\(t=if s.toNat=(0:Nat) then (dt a) else (List.getD a.2.2.2.2.2.2.1 (s.toNat -(1:Nat)) default).1)/\ ∀(u:Nat),u<s.toNat->eO a.2.2.2.2.1 a.2.2.1 (dt a) a.2.2.2.1 a.2.2.2.2.2.2.1 u)/\Int.toNat ((a.2.2.2.2.2.2.1.length:Int) -s)<Int.toNat ((a.2.2.2.2.2.2.1.length:Int) -n)/\(ic a n).1=t/\IntKind.wrap .i64 (n+(1:Int))=s/\(eJ a))) ((∃(p:Int),(0<=p/\p<=(a.2.2.2.2.2.2.2.1.length:Int)/\ ∀(q:Int×Int×List Int),q∈List.take p.toNat a.2.2.2.2.2.2.2.1->bz a.2.2.2.1 q.2.2)/\(0:Int)=p/\(eJ a))/\ ∀(p:Int),(0<=p/\p<=(a.2.2.2.2.2.2.2.1.length:Int)/\ ∀(q:Int×Int×List Int),q∈List.take p.toNat a.2.2.2.2.2.2.2.1->bz a.2.2.2.1 q.2.2)->ah (decide
 (p<(a.2.2.2.2.2.2.2.1.length:Int))) (0<=p/\p<(a.2.2.2.2.2.2.2.1.length:Int)/\(∀(q:List Int),q∈a.2.2.2.1->(q.length:Int)<=6000)/\ah (! decide (bz a.2.2.2.1 (List.getD a.2.2.2.2.2.2.2.1 p.toNat default).2.2)) ((7:Int)=c8 a) (∃(q:Int),(0<=q/\q<=(a.2.2.2.2.2.2.2.1.length:Int)/\ ∀(r:Int×Int×List Int),r∈List.take q.toNat a.2.2.2.2.2.2.2.1->bz a.2.2.2.1 r.2.2)/\Int.toNat ((a.2.2.2.2.2.2.2.1.length:Int) -q)<Int.toNat ((a.2.2.2.2.2.2.2.1.length:Int) -p)/\IntKind.wrap .i64 (p+(1:Int))=q/\(eJ a))) ((∃(q:Int),(0<=q/\q<=(a.2.2.2.2.2.2.2.2.length:Int)/\ ∀(r:Int×Int×List Int),r∈List.take q.toNat a.2.2.2.2.2.2.2.2->bB (dt a) (co a) r.2.2)/\(0:Int)=q/\(eJ a))/\ ∀(q:Int),(0<=q/\q<=(a.2.2.2.2.2.2.2.2.length:Int)/\ ∀(r:Int×Int×List Int),r∈List.take q.toNat a.2.2.2.2.2.2.2.2->bB (dt a) (co a) r.2.2)->ah (decide (q<(a.2.2.2.2.2.2.2.2.length:Int)))
 (0<=q/\q<(a.2.2.2.2.2.2.2.2.length:Int)/\ah (! decide (bB (dt a) (co a) (List.getD a.2.2.2.2.2.2.2.2 q.toNat default).2.2)) ((7:Int)=c8 a) (∃(r:Int),(0<=r/\r<=(a.2.2.2.2.2.2.2.2.length:Int)/\ ∀(s:Int×Int×List Int),s∈List.take r.toNat a.2.2.2.2.2.2.2.2->bB (dt a) (co a) s.2.2)/\Int.toNat ((a.2.2.2.2.2.2.2.2.length:Int) -r)<Int.toNat ((a.2.2.2.2.2.2.2.2.length:Int) -q)/\IntKind.wrap .i64 (q+(1:Int))=r/\(eJ a))) ((0:Int)=c8 a))))):=by
  delta eJ co dt gc gJ kW ic jy qj ip
  rintro d ⟨⟨-,-,-,⟨hlg,-⟩,-,⟨hgt,-⟩,⟨hea,-⟩,⟨hdn,-⟩,⟨hup,-⟩⟩,-⟩ -
  simp only[maxLen] at hlg hgt hea hdn hup
  have no:¬ cT d->(7:Int)=c8 d:=fun h=>by unfold c8;rw[if_neg h]
  intro b1 e1
  (repeat refine⟨fun h_=>(by first|(simp;done)|(simp[h_];done)|(simp_all;done)),?_⟩)
  intro b2 e2
  (repeat refine⟨fun h_=>(by first|(simp;done)|(simp[h_];done)|(simp_all;done)),?_⟩)
  intro b3 e3
  (repeat refine⟨fun h_=>(by first|(simp;done)|(simp[h_];done)|(simp_all;done)),?_⟩)
  intro b4 e4
  (repeat refine⟨fun h_=>(by first|(simp;done)|(simp[h_];done)|(simp_all;done)),?_⟩)
  intro b5 e5
  (repeat refine⟨fun h_=>(by first|(simp;done)|(simp[h_];done)|(simp_all;done)),?_⟩)
  intro b6 e6
  (repeat refine⟨fun h_=>(by first|(simp;done)|(simp[h_];done)|(simp_all;done)),?_⟩)
  intro b7 e7
  (repeat refine⟨fun h_=>(by first|(simp;done)|(simp[h_];done)|(simp_all;done)),?_⟩)
  intro b8 e8
  (repeat refine⟨fun h_=>(by first|(simp;done)|(simp[h_];done)|(simp_all;done)),?_⟩)
  intro b9 e9
  (repeat refine⟨fun h_=>(by first|(simp;done)|(simp[h_];done)|(simp_all;done)),?_⟩)
  intro b10 e10
  have hr:(!b10)=true->0<=d.1/\d.1<=1099511627776:=fun h=>by
   have h:¬ b10=true:=by simpa using h
   rw[e10,e9,e8,e7,e6,e5,e4,e3,e2,e1] at h
   simp only[cn,decide_eq_true_eq] at h
   omega
  (repeat refine⟨fun h_=>(by first|exact⟨fun _=>h_,fun _=>h_,(hr h_).1,(hr h_).2,trivial⟩|(simp;done)|(simp[h_];done)|(simp_all;done)),?_⟩)
  intro b11 e11
  have hr2:(!b11)=true->0<=d.1/\d.1<=1099511627776:=fun h=>hr (by
   have h:¬ b11=true:=by simpa using h
   rw[e11,cn] at h
   cases b10
   ·rfl
   ·exact absurd (.inl rfl) h)
  (repeat refine⟨fun h_=>(by first|exact⟨fun _=>h_,fun _=>h_,(hr2 h_).1,(hr2 h_).2,trivial⟩|(simp;done)|(simp[h_];done)|(simp_all;done)),?_⟩)
  refine aq (fun h=>no fun k=>?_) (fun h=>?_)
  ·rw[e11,e10,e9,e8,e7,e6,e5,e4,e3,e2,e1] at h
   simp only[cn,decide_eq_true_eq,Bool.not_eq_true',decide_eq_false_iff_not] at h
   unfold cT ab a8 ak ae az aF aJ ba at k
   obtain⟨⟨k1,k2,k3,k4,k5,k6⟩,k7,k8,k9,k10,k11,-⟩:=k
   rcases h with (h|h)|h
   ·omega
   ·exact h k10
   ·exact h k11
  have h:¬ (bif b11 then true else !decide (db d.1 d.2.1 d.2.2.2.2.2.2.2.2))=true:=by rw[h];simp
  rw[e11,e10,e9,e8,e7,e6,e5,e4,e3,e2,e1] at h
  simp only[cn,decide_eq_true_eq,Bool.not_eq_true',decide_eq_false_iff_not,not_or,Classical.not_not] at h
  obtain⟨⟨h,hD⟩,hU⟩:=h
  refine⟨⟨0,⟨by omega,by omega,fun k hk=>absurd hk (by simp)⟩,(by repeat' first|exact trivial|refine⟨trivial,?_⟩|refine⟨(by with_reducible rfl),?_⟩|refine⟨ad (by omega) (by omega),?_⟩|refine⟨rfl,?_⟩)⟩,?_⟩
  rintro j ⟨j0,j1,hj⟩
  refine aq (fun hk=>?_) (fun hk=>?_)
  ·have hk:=of_decide_eq_true hk
   refine⟨j0,hk,?_⟩
   intro c1 f1
   (repeat refine⟨fun h_=>(by first|(simp;done)|(simp[h_];done)|(simp_all;done)),?_⟩)
   intro c2 f2
   (repeat refine⟨fun h_=>(by first|exact⟨fun _=>h_,fun _=>h_,j0,hk,trivial⟩|exact⟨fun _=>h_,fun _=>h_,j0,(by simp only[f2,Bool.and_eq_true,decide_eq_true_eq] at h_;omega),trivial⟩|(simp;done)|(simp[h_];done)|(simp_all;done)),?_⟩)
   refine aq (fun hc=>no fun k=>?_) (fun hc=>?_)
   ·rw[f2,f1] at hc
    simp only[cn,mj,decide_eq_true_eq,Bool.not_eq_true',decide_eq_false_iff_not] at hc
    unfold cT ab a8 ak ae az aF at k
    obtain⟨-,k7,k8,-⟩:=k
    rcases hc with hc|hc
    ·have:=k7 _ (ce (xs:=d.2.2.2.1) j0 hk);omega
    ·exact hc.2 (k8 j.toNat (by omega)).symm
   ·have hc:¬ (bif c1 then true else bif c2 then !decide (d.2.2.2.1.getD j.toNat default=d.2.2.2.2.2.1.getD j.toNat default) else false)=true:=by rw[hc];simp
    rw[f2,f1] at hc
    simp only[cn,mj,decide_eq_true_eq,Bool.not_eq_true',decide_eq_false_iff_not] at hc
    obtain⟨hc1,hc2⟩:=not_or.1 hc
    refine⟨j+1,⟨by omega,by omega,fun k hk2=>?_⟩,by omega,(by repeat' first|exact trivial|refine⟨trivial,?_⟩|refine⟨(by with_reducible rfl),?_⟩|refine⟨ad (by omega) (by omega),?_⟩|refine⟨rfl,?_⟩)⟩
    by_cases hkj:k<j.toNat
    ·exact hj k hkj
    ·rw[show k=j.toNat by omega]
     exact⟨by omega,fun hg=>Classical.byContradiction fun q=>hc2 ⟨by omega,q⟩⟩
  have hk:=of_decide_eq_false hk
  have hit:∀ b∈d.2.2.2.1,(b.length:Int)<=6000:=fun b hb=>by
   obtain⟨i,hi,rfl⟩:=List.mem_iff_getElem.1 hb
   have:=(hj i (by omega)).1
   rwa [List.getD_eq_getElem?_getD,List.getElem?_eq_getElem hi] at this
  have hgot:∀ i:Nat,i<d.2.2.2.2.2.1.length->d.2.2.2.2.2.1.getD i default=d.2.2.2.1.getD i default:=fun i hi=>((hj i (by omega)).2 hi).symm
  rw[ad (n:=d.2.2.2.2.1+d.2.2.1) (by omega) (by omega)]
  refine⟨⟨0,_,⟨by omega,by omega,by omega,rfl,fun k hk=>absurd hk (by simp)⟩,(by repeat' first|exact trivial|refine⟨trivial,?_⟩|refine⟨(by with_reducible rfl),?_⟩|refine⟨ad (by omega) (by omega),?_⟩|refine⟨rfl,?_⟩)⟩,?_⟩
  clear hj hk j0 j1
  rintro j last ⟨j0,j1,l0,hlast,hj⟩
  refine aq (fun hk=>?_) (fun hk=>?_)
  ·have hk:=of_decide_eq_true hk
   refine⟨j0,hk,?_⟩
   intro c1 f1
   (repeat refine⟨fun h_=>(by first|exact⟨fun _=>h_,fun _=>h_,j0,hk,trivial⟩|(simp;done)|(simp[h_];done)|(simp_all;done)),?_⟩)
   intro c2 f2
   (repeat refine⟨fun h_=>(by first|exact⟨fun _=>h_,fun _=>h_,j0,hk,trivial⟩|(simp;done)|(simp[h_];done)|(simp_all;done)),?_⟩)
   intro c3 f3
   have hin:(!c3)=true->last<(d.2.2.2.2.2.2.1.getD j.toNat default).1/\(d.2.2.2.2.2.2.1.getD j.toNat default).1<d.2.2.2.1.length:=fun h=>by
    have h:¬ c3=true:=by simpa using h
    rw[f3,f2,f1] at h
    simp only[cn,decide_eq_true_eq] at h
    omega
   (repeat refine⟨fun h_=>(by first|exact⟨fun _=>h_,fun _=>h_,j0,hk,trivial⟩|exact⟨fun _=>h_,fun _=>h_,(by have:=hin h_;omega),(by have:=hin h_;omega),trivial⟩|(simp;done)|(simp[h_];done)|(simp_all;done)),?_⟩)
   have key:(bif c3 then true else !decide ((d.2.2.2.2.2.2.1.getD j.toNat default).2=d.2.2.2.1.getD (Int.toNat (d.2.2.2.2.2.2.1.getD j.toNat default).1) default))=true↔¬ eO d.2.2.2.2.1 d.2.2.1 d.2.2.2.2.2.1.length d.2.2.2.1 d.2.2.2.2.2.2.1 j.toNat:=by
    rw[f3,f2,f1]
    unfold eO
    rw[← hlast]
    simp only[cn,decide_eq_true_eq,Bool.not_eq_true',decide_eq_false_iff_not]
    by_cases hq:(d.2.2.2.2.2.2.1.getD j.toNat default).2=d.2.2.2.1.getD (Int.toNat (d.2.2.2.2.2.2.1.getD j.toNat default).1) default
    ·simp only[hq,not_true,or_false,and_true];omega
    ·simp only[hq,not_false_eq_true,or_true,and_false]
   refine aq (fun hc=>no fun k=>?_) (fun hc=>?_)
   ·exact key.1 hc (k.2.2.2.1 j.toNat (by show j.toNat<d.2.2.2.2.2.2.1.length;omega))
   ·have hok:eO d.2.2.2.2.1 d.2.2.1 d.2.2.2.2.2.1.length d.2.2.2.1 d.2.2.2.2.2.2.1 j.toNat:=Classical.byContradiction fun k=>by rw[key.2 k] at hc;cases hc
    have hok1:=hok.1
    rw[← hlast] at hok1
    refine⟨j+1,_,⟨by omega,by omega,?_,?_,fun k hk2=>?_⟩,by omega,(by repeat' first|exact trivial|refine⟨trivial,?_⟩|refine⟨(by with_reducible rfl),?_⟩|refine⟨ad (by omega) (by omega),?_⟩|refine⟨rfl,?_⟩)⟩
    ·omega
    ·rw[if_neg (by omega),show (j+1).toNat-1=j.toNat by omega]
    ·by_cases hkj:k<j.toNat
     ·exact hj k hkj
     ·rw[show k=j.toNat by omega];exact hok
  have hk:=of_decide_eq_false hk
  have hE:earP d.2.2.2.2.1 d.2.2.1 d.2.2.2.2.2.1.length d.2.2.2.1 d.2.2.2.2.2.2.1:=fun k hk2=>hj k (by omega)
  clear hj hk j0 j1 hlast l0
  refine⟨⟨0,⟨by omega,by omega,by simp⟩,(by repeat' first|exact trivial|refine⟨trivial,?_⟩|refine⟨(by with_reducible rfl),?_⟩|refine⟨ad (by omega) (by omega),?_⟩|refine⟨rfl,?_⟩)⟩,?_⟩
  rintro j ⟨j0,j1,hj⟩
  refine aq (fun hk=>?_) (fun hk=>?_)
  ·have hk:=of_decide_eq_true hk
   refine⟨j0,hk,hit,aq (fun hc=>no fun k=>?_) (fun hc=>?_)⟩
   ·exact ls hc (k.2.2.2.2.2.2.1 _ (ce (xs:=d.2.2.2.2.2.2.2.1) j0 hk))
   ·exact⟨j+1,⟨by omega,by omega,lJ (P:=fun t:af=>bz d.2.2.2.1 t.2.2) j0 hk hj (lO hc)⟩,by omega,(by repeat' first|exact trivial|refine⟨trivial,?_⟩|refine⟨(by with_reducible rfl),?_⟩|refine⟨ad (by omega) (by omega),?_⟩|refine⟨rfl,?_⟩)⟩
  have hk:=of_decide_eq_false hk
  rw[List.take_of_length_le (by omega)] at hj
  have hdd:=hj
  clear hj hk j0 j1
  refine⟨⟨0,⟨by omega,by omega,by simp⟩,(by repeat' first|exact trivial|refine⟨trivial,?_⟩|refine⟨(by with_reducible rfl),?_⟩|refine⟨ad (by omega) (by omega),?_⟩|refine⟨rfl,?_⟩)⟩,?_⟩
  rintro j ⟨j0,j1,hj⟩
  refine aq (fun hk=>?_) (fun hk=>?_)
  ·have hk:=of_decide_eq_true hk
   refine⟨j0,hk,aq (fun hc=>no fun k=>?_) (fun hc=>?_)⟩
   ·exact ls hc (k.2.2.2.2.2.2.2 _ (ce (xs:=d.2.2.2.2.2.2.2.2) j0 hk))
   ·exact⟨j+1,⟨by omega,by omega,lJ (P:=fun t:af=>bB d.2.2.2.2.2.1.length d.2.2.2.1.length t.2.2) j0 hk hj (lO hc)⟩,by omega,(by repeat' first|exact trivial|refine⟨trivial,?_⟩|refine⟨(by with_reducible rfl),?_⟩|refine⟨ad (by omega) (by omega),?_⟩|refine⟨rfl,?_⟩)⟩
  have hk:=of_decide_eq_false hk
  rw[List.take_of_length_le (by omega)] at hj
  unfold c8
  rw[if_pos]
  unfold cT ab a8 ak ae az aF aH aJ ba
  exact⟨by omega,hit,hgot,hE,hD,hU,hdd,hj⟩
theorem Bu:aG Try.prog GL 24 wW.spec:=Ct.okH _ Try.func24 (by kernel_rfl) (ay (ay (ay (ay aP CG) ur) Bv) za) aD EI (aQ (by kernel_rfl) BQ)
end Go.RS

/- Xch4: a channel that items and ticks lead to passes the check. -/
namespace Go.RS
open Go.SX Go.Proofs
set_option maxRecDepth 100000
set_option linter.unusedVariables false
theorem jq{α:Type} [Inhabited α] {l:List α} {i:Nat} (h:i<l.length):l.getD i default=l[i]:=by rw[List.getD_eq_getElem?_getD,List.getElem?_eq_getElem h];rfl
theorem cF.und{now ord:Int}{l:List af}(h:cF now ord l):db now ord l:=by
 refine⟨h.n,fun i hi=>⟨?_,fun h0=>?_⟩⟩
 ·rw[jq hi];exact h.r _ (List.getElem_mem hi)
 ·rw[jq hi,jq (show i-1<l.length by omega)]
  exact List.pairwise_iff_getElem.1 h.s (i-1) i (by omega) hi (by omega)
theorem lH.earP{log:List (List Int)}{kn win:Int}{g:Int}{l:List ax}(h:lH log (kn+win) g l):earP kn win g log l:=by
 intro i hi
 unfold eO
 rw[jq hi]
 obtain⟨⟨h1,h2⟩,h3,h4⟩:=h.r _ (List.getElem_mem hi)
 refine⟨?_,h2,h3,h4⟩
 split
 ·exact h1
 ·rw[jq (show i-1<l.length by omega)]
  exact List.pairwise_iff_getElem.1 h.s (i-1) i (by omega) hi (by omega)
theorem iG.dat{log:List (List Int)}{t:af}(h:iG log t)(hl:log.length<=1024):bz log t.2.2:=by
 obtain⟨i,⟨h0,h1⟩,h2⟩:=h
 have e:aA t.2.2 1=i:=by rw[h2];exact re ⟨h0,by omega⟩ _
 refine⟨?_,by omega,?_⟩
 ·rw[h2,mI];omega
 ·rw[e];exact h2
theorem xq:∀{es:List Int}{i:Nat},i<es.length->(∀ e∈es,u16 e)->(dA es).getD (2*i) 0*256+(dA es).getD (2*i+1) 0=es.getD i default
 | [],i,h,_=>by simp at h
 | e::r,0,_,hu=>by
  have h0:=hu e List.mem_cons_self
  unfold u16 at h0
  rw[dA,fN]
  show e/256%256*256+e%256=e
  omega
 | e::r,i+1,h,hu=>by
  have ih:=xq (es:=r) (i:=i) (by simpa using h) fun x hx=>hu x (List.mem_cons_of_mem _ hx)
  rw[dA,fN,show 2*(i+1)=2*i+1+1 by omega,show 2*i+1+1+1=(2*i+1)+1+1 by omega]
  simp only[List.cons_append,List.nil_append,List.getD_cons_succ]
  exact ih
theorem vK{g:Int}{es:List Int}{i:Nat}(h:i<es.length)(hu:∀ e∈es,u16 e):aA (br g es) ((3+2*i:Nat):Int)=es.getD i default:=by
 rw[rF (by rw[kB];omega),← List.drop_drop,rz,← xq h hu]
 simp only[List.getD_eq_getElem?_getD,List.getElem?_drop,Nat.add_zero]
theorem fc.ack{log:List (List Int)}{s:List (List Int)×List ax}{t:af}(h:fc log s t)(hl:log.length<=1024)(hn:s.1.length<=log.length):bB s.1.length log.length t.2.2:=by
 obtain⟨g,es,h1,⟨g0,g1⟩,hs,he⟩:=h
 have hu:∀ e∈es,u16 e:=fun e hh=>by have:=(he e hh).1;exact⟨by omega,by omega⟩
 have e1:aA t.2.2 1=g:=by rw[h1];exact mH ⟨g0,by omega⟩ _
 have el:t.2.2.length=3+2*es.length:=by rw[h1,kB]
 refine⟨by omega,by omega,by rw[h1];rfl,by omega,fun i hi=>?_⟩
 have hi:i<es.length:=by omega
 have e2:aA t.2.2 ((3+2*i:Nat):Int)=es.getD i default:=by rw[h1];exact vK hi hu
 have h2:=he _ (List.getElem_mem hi)
 unfold dN
 rw[e2,jq hi]
 refine⟨?_,h2.1.2⟩
 cases i with
 | zero=>rw[show ((1+2*0:Nat):Int)=1 from rfl,e1];exact h2.1.1
 | succ i =>
  have e3:aA t.2.2 ((1+2*(i+1):Nat):Int)=es.getD i default:=by
   rw[show 1+2*(i+1)=3+2*i by omega,h1];exact vK (by omega) hu
  rw[e3,jq (show i<es.length by omega)]
  exact List.pairwise_iff_getElem.1 hs i (i+1) (by omega) hi (by omega)
theorem XR.chk{c:aj}(h:XR c)(hn:ab c<=1000000000):c8 c=0:=by
 obtain⟨h,ho⟩:=h
 have hg:aF c=(ae c).take (aF c).length:=h.rc.g
 have hl:(aF c).length<=(ae c).length:=h.rc.n
 have hk:=h.kn
 unfold c8
 refine if_pos (Ca.2 ⟨⟨h.now,by omega⟩,⟨h.ord,by omega⟩,h.win,h.log,hk,hl,h.it,fun i hi=>?_,h.rc.e.earP,h.dn.und,h.up.und,fun t ht=>(h.dd t ht).dat h.log,fun t ht=>(h.ud t ht).ack h.log hl⟩)
 conv=>lhs;rw[hg]
 rw[List.getD_eq_getElem?_getD,List.getElem?_take,if_pos hi,List.getD_eq_getElem?_getD]
end Go.RS

/- Lawx3: which channels can be. -/
namespace Go.RS
open Go.SX Go.Proofs
set_option maxRecDepth 100000
set_option linter.unusedVariables false
def vH:Ct:=lu [(false,.sl aV),(true,aS)]
def xV:aC vH.ps->aN:=(fun d=>{cuts:=(fun n=>match n with|26=>some (fun S=>{ι:=aj,inv:=fun i=>True,keep:=[3,6,7],slots:=fun i=>[],keepN:=[64,112],names:=fun i=>[(128,.live (.cells 28 (bu aS i)))]})|_=>none)})
def pA(b j:Int×Int×Int×List (List Int)×Int×List (List Int)×List (Int×List Int)×List (Int×Int×List Int)×List (Int×Int×List Int)) :=
 ∃(p:aj),True/\b.1=b.1/\b.2.1=b.2.1/\b.2.2.1=b.2.2.1/\b.2.2.2.1=b.2.2.2.1/\b.2.2.2.2.1=b.2.2.2.2.1/\b.2.2.2.2.2.1=b.2.2.2.2.2.1/\b.2.2.2.2.2.2.1=b.2.2.2.2.2.2.1/\b.2.2.2.2.2.2.2.1=b.2.2.2.2.2.2.2.1/\b.2.2.2.2.2.2.2.2=b.2.2.2.2.2.2.2.2/\j.1=j.1/\j.2.1=j.2.1/\j.2.2.1=j.2.2.1/\j.2.2.2.1=j.2.2.2.1/\j.2.2.2.2.1=j.2.2.2.2.1/\j.2.2.2.2.2.1=j.2.2.2.2.2.1/\j.2.2.2.2.2.2.1=j.2.2.2.2.2.2.1/\j.2.2.2.2.2.2.2.1=j.2.2.2.2.2.2.2.1/\j.2.2.2.2.2.2.2.2=j.2.2.2.2.2.2.2.2/\j.1=p.1/\j.2.1=p.2.1/\j.2.2.1=p.2.2.1/\j.2.2.2.1=p.2.2.2.1/\j.2.2.2.2.1=p.2.2.2.2.1/\j.2.2.2.2.2.1=p.2.2.2.2.2.1/\j.2.2.2.2.2.2.1=p.2.2.2.2.2.2.1/\j.2.2.2.2.2.2.2.1=p.2.2.2.2.2.2.2.1/\j.2.2.2.2.2.2.2.2=p.2.2.2.2.2.2.2.2/\True
def kK(j:Int×Int×Int×List (List Int)×Int×List (List Int)×List (Int×List Int)×List (Int×Int×List Int)×List (Int×Int×List Int))(s:aj) :=
 j.2.2.2.2.2.2.1=s.2.2.2.2.2.2.1/\j.2.2.2.2.2.2.2.1=s.2.2.2.2.2.2.2.1/\j.2.2.2.2.2.2.2.2=s.2.2.2.2.2.2.2.2/\True
def gN :=
 (140737488355328:Nat)
theorem zN :
 ∀(a:List Int)(b:Int×Int×Int×List (List Int)×Int×List (List Int)×List (Int×List Int)×List (Int×Int×List Int)×List (Int×Int×List Int)),(a.length<=maxLen/\ ∀(c:Int),c∈a->0<=c/\c<=255)/\CT.wf aS b/\True->True-> ∀(c:Bool),c= ! true->((! c)->((! c)->(! c))/\True)/\((! c)->((! c)->(! c))/\True)/\((! c)->((! c)->(! c))/\True)/\(c=false->(! c))/\ ∀(d:Bool),(d=bif c then true else decide (1100<(b.2.2.2.1.length:Int)))->((! d)->((! d)->(! d))/\True)/\((! d)->((! d)->(! d))/\True)/\((! d)->((! d)->(! d))/\True)/\(d=false->(! d))/\ ∀(e:Bool),(e=bif d then true else decide (1100<(b.2.2.2.2.2.1.length:Int)))->((! e)->((! e)->(! e))/\True)/\((! e)->((! e)->(! e))/\True)/\((! e)->((! e)->(! e))/\True)/\(e=false->(! e))/\ ∀(f:Bool),(f=bif e then true else decide (1100<(b.2.2.2.2.2.2.1.length:Int)))->((! f)->((! f)->(! f))/\True)/\((! f)->((! f)->(! f))/\True)/\((! f)->((! f)->(!
 f))/\True)/\(f=false->(! f))/\ ∀(g:Bool),(g=bif f then true else decide (1000<(b.2.2.2.2.2.2.2.1.length:Int)))->((! g)->((! g)->(! g))/\True)/\((! g)->((! g)->(! g))/\True)/\((! g)->((! g)->(! g))/\True)/\(g=false->(! g))/\ah (bif g then true else decide (1000<(b.2.2.2.2.2.2.2.2.length:Int))) (∀(h:Bool),h=decide (1100<(b.2.2.2.1.length:Int))->((! h)->((! h)->(! h))/\True)/\((! h)->((! h)->(! h))/\True)/\((! h)->((! h)->(! h))/\True)/\(h=false->(! h))/\ ∀(i:Bool),(i=bif h then true else decide (1100<(b.2.2.2.2.2.1.length:Int)))->((! i)->((! i)->(! i))/\True)/\((! i)->((! i)->(! i))/\True)/\((! i)->((! i)->(! i))/\True)/\(i=false->(! i))/\ ∀(j:Bool),(j=bif i then true else decide (1100<(b.2.2.2.2.2.2.1.length:Int)))->((! j)->((! j)->(! j))/\True)/\((! j)->((! j)->(! j))/\True)/\((! j)->((! j)->(! j))/\True)/\(j=false->(! j))/\ ∀(k:Bool),(k=bif j then true else decide
 (1000<(b.2.2.2.2.2.2.2.1.length:Int)))->((! k)->((! k)->(! k))/\True)/\((! k)->((! k)->(! k))/\True)/\((! k)->((! k)->(! k))/\True)/\(k=false->(! k))/\(bif k then true else decide (1000<(b.2.2.2.2.2.2.2.2.length:Int)))=true) ((0:Int)<=400/\ ∀(h:List Int)(i:Int),(h,i)=(if (a.length:Int)<=400 then a else List.take (Int.toNat (400:Int)) a,(0:Int))->ar (h,i)/\ ∀(j:Int×Int×Int×List (List Int)×Int×List (List Int)×List (Int×List Int)×List (Int×Int×List Int)×List (Int×Int×List Int))(k:List Int)(l:Int),ar (k,l)/\XR j/\ab j<=25->(ar (k,l)/\ ∀(m:Int)(n:List Int)(o:Int),0<=m/\(m<9∨m=0)/\ar (n,o)->ah (decide (m=0)) (ar (n,o)/\ ∀(p:Int)(q:List Int)(r:Int),ar (q,r)/\ao p->
 ∃(s:aj),True/\b.1=b.1/\b.2.1=b.2.1/\b.2.2.1=b.2.2.1/\b.2.2.2.1=b.2.2.2.1/\b.2.2.2.2.1=b.2.2.2.2.1/\b.2.2.2.2.2.1=b.2.2.2.2.2.1/\b.2.2.2.2.2.2.1=b.2.2.2.2.2.2.1/\b.2.2.2.2.2.2.2.1=b.2.2.2.2.2.2.2.1/\b.2.2.2.2.2.2.2.2=b.2.2.2.2.2.2.2.2/\j.1=j.1/\j.2.1=j.2.1/\j.2.2.1=j.2.2.1/\j.2.2.2.1=j.2.2.2.1/\j.2.2.2.2.1=j.2.2.2.2.1/\j.2.2.2.2.2.1=j.2.2.2.2.2.1/\j.2.2.2.2.2.2.1=j.2.2.2.2.2.2.1/\j.2.2.2.2.2.2.2.1=j.2.2.2.2.2.2.2.1/\j.2.2.2.2.2.2.2.2=j.2.2.2.2.2.2.2.2/\p=s.1/\j.2.1=s.2.1/\j.2.2.1=s.2.2.1/\j.2.2.2.1=s.2.2.2.1/\j.2.2.2.2.1=s.2.2.2.2.1/\j.2.2.2.2.2.1=s.2.2.2.2.2.1/\(kK j s)) (ah (decide (m=1)) (ar (n,o)/\ ∀(p:Int)(q:List Int)(r:Int),ar (q,r)/\ao p->
 ∃(s:aj),True/\b.1=b.1/\b.2.1=b.2.1/\b.2.2.1=b.2.2.1/\b.2.2.2.1=b.2.2.2.1/\b.2.2.2.2.1=b.2.2.2.2.1/\b.2.2.2.2.2.1=b.2.2.2.2.2.1/\b.2.2.2.2.2.2.1=b.2.2.2.2.2.2.1/\b.2.2.2.2.2.2.2.1=b.2.2.2.2.2.2.2.1/\b.2.2.2.2.2.2.2.2=b.2.2.2.2.2.2.2.2/\j.1=j.1/\j.2.1=j.2.1/\j.2.2.1=j.2.2.1/\j.2.2.2.1=j.2.2.2.1/\j.2.2.2.2.1=j.2.2.2.2.1/\j.2.2.2.2.2.1=j.2.2.2.2.2.1/\j.2.2.2.2.2.2.1=j.2.2.2.2.2.2.1/\j.2.2.2.2.2.2.2.1=j.2.2.2.2.2.2.2.1/\j.2.2.2.2.2.2.2.2=j.2.2.2.2.2.2.2.2/\j.1=s.1/\j.2.1=s.2.1/\p=s.2.2.1/\j.2.2.2.1=s.2.2.2.1/\j.2.2.2.2.1=s.2.2.2.2.1/\j.2.2.2.2.2.1=s.2.2.2.2.2.1/\(kK j s)) (ah (decide (m=2)) (ar (n,o)/\ ∀(p:Int)(q:List Int)(r:Int),ar (q,r)/\ao p->
 ∃(s:aj),True/\b.1=b.1/\b.2.1=b.2.1/\b.2.2.1=b.2.2.1/\b.2.2.2.1=b.2.2.2.1/\b.2.2.2.2.1=b.2.2.2.2.1/\b.2.2.2.2.2.1=b.2.2.2.2.2.1/\b.2.2.2.2.2.2.1=b.2.2.2.2.2.2.1/\b.2.2.2.2.2.2.2.1=b.2.2.2.2.2.2.2.1/\b.2.2.2.2.2.2.2.2=b.2.2.2.2.2.2.2.2/\j.1=j.1/\j.2.1=j.2.1/\j.2.2.1=j.2.2.1/\j.2.2.2.1=j.2.2.2.1/\j.2.2.2.2.1=j.2.2.2.2.1/\j.2.2.2.2.2.1=j.2.2.2.2.2.1/\j.2.2.2.2.2.2.1=j.2.2.2.2.2.2.1/\j.2.2.2.2.2.2.2.1=j.2.2.2.2.2.2.2.1/\j.2.2.2.2.2.2.2.2=j.2.2.2.2.2.2.2.2/\j.1=s.1/\j.2.1=s.2.1/\j.2.2.1=s.2.2.1/\j.2.2.2.1=s.2.2.2.1/\p=s.2.2.2.2.1/\j.2.2.2.2.2.1=s.2.2.2.2.2.1/\(kK j s)) (ah (decide (m=3)) (ar (n,o)/\ ∀(p:Int)(q:List Int)(r:Int),ar (q,r)/\ao p->
 ∃(s:aj),True/\b.1=b.1/\b.2.1=b.2.1/\b.2.2.1=b.2.2.1/\b.2.2.2.1=b.2.2.2.1/\b.2.2.2.2.1=b.2.2.2.2.1/\b.2.2.2.2.2.1=b.2.2.2.2.2.1/\b.2.2.2.2.2.2.1=b.2.2.2.2.2.2.1/\b.2.2.2.2.2.2.2.1=b.2.2.2.2.2.2.2.1/\b.2.2.2.2.2.2.2.2=b.2.2.2.2.2.2.2.2/\j.1=j.1/\j.2.1=j.2.1/\j.2.2.1=j.2.2.1/\j.2.2.2.1=j.2.2.2.1/\j.2.2.2.2.1=j.2.2.2.2.1/\j.2.2.2.2.2.1=j.2.2.2.2.2.1/\j.2.2.2.2.2.2.1=j.2.2.2.2.2.2.1/\j.2.2.2.2.2.2.2.1=j.2.2.2.2.2.2.2.1/\j.2.2.2.2.2.2.2.2=j.2.2.2.2.2.2.2.2/\j.1=s.1/\p=s.2.1/\j.2.2.1=s.2.2.1/\j.2.2.2.1=s.2.2.2.1/\j.2.2.2.2.1=s.2.2.2.2.1/\j.2.2.2.2.2.1=s.2.2.2.2.2.1/\(kK j s)) (ah (decide (m=4)) (ah (decide (0<(j.2.2.2.1.length:Int))) ((0:Int)<=1/\1<=(j.2.2.2.1.length:Int)/\(j.2.2.2.1.length:Int)<=(j.2.2.2.1.length:Int)/\
 ∃(p:aj),True/\b.1=b.1/\b.2.1=b.2.1/\b.2.2.1=b.2.2.1/\b.2.2.2.1=b.2.2.2.1/\b.2.2.2.2.1=b.2.2.2.2.1/\b.2.2.2.2.2.1=b.2.2.2.2.2.1/\b.2.2.2.2.2.2.1=b.2.2.2.2.2.2.1/\b.2.2.2.2.2.2.2.1=b.2.2.2.2.2.2.2.1/\b.2.2.2.2.2.2.2.2=b.2.2.2.2.2.2.2.2/\j.1=j.1/\j.2.1=j.2.1/\j.2.2.1=j.2.2.1/\j.2.2.2.1=j.2.2.2.1/\j.2.2.2.2.1=j.2.2.2.2.1/\j.2.2.2.2.2.1=j.2.2.2.2.2.1/\j.2.2.2.2.2.2.1=j.2.2.2.2.2.2.1/\j.2.2.2.2.2.2.2.1=j.2.2.2.2.2.2.2.1/\j.2.2.2.2.2.2.2.2=j.2.2.2.2.2.2.2.2/\j.1=p.1/\j.2.1=p.2.1/\j.2.2.1=p.2.2.1/\bf j.2.2.2.1 (Int.toNat (1:Int)) (Int.toNat (j.2.2.2.1.length:Int))=p.2.2.2.1/\j.2.2.2.2.1=p.2.2.2.2.1/\j.2.2.2.2.2.1=p.2.2.2.2.2.1/\j.2.2.2.2.2.2.1=p.2.2.2.2.2.2.1/\j.2.2.2.2.2.2.2.1=p.2.2.2.2.2.2.2.1/\j.2.2.2.2.2.2.2.2=p.2.2.2.2.2.2.2.2/\True) (pA b j)) (ah (decide (m=5)) (j.2.2.2.2.2.1.length*(24:Nat)<=(gN)/\ar (n,o)/\(0:Int)<=2/\(2:Int)<=1000/\ ∀(p q:List Int)(r:Int),ar
 (q,r)/\(p.length:Int)<=2->(j.2.2.2.2.2.1.length+List.length [p])*(24:Nat)<=(gN)/\ ∃(s:aj),True/\b.1=b.1/\b.2.1=b.2.1/\b.2.2.1=b.2.2.1/\b.2.2.2.1=b.2.2.2.1/\b.2.2.2.2.1=b.2.2.2.2.1/\b.2.2.2.2.2.1=b.2.2.2.2.2.1/\b.2.2.2.2.2.2.1=b.2.2.2.2.2.2.1/\b.2.2.2.2.2.2.2.1=b.2.2.2.2.2.2.2.1/\b.2.2.2.2.2.2.2.2=b.2.2.2.2.2.2.2.2/\j.1=j.1/\j.2.1=j.2.1/\j.2.2.1=j.2.2.1/\j.2.2.2.1=j.2.2.2.1/\j.2.2.2.2.1=j.2.2.2.2.1/\j.2.2.2.2.2.1=j.2.2.2.2.2.1/\j.2.2.2.2.2.2.1=j.2.2.2.2.2.2.1/\j.2.2.2.2.2.2.2.1=j.2.2.2.2.2.2.2.1/\j.2.2.2.2.2.2.2.2=j.2.2.2.2.2.2.2.2/\j.1=s.1/\j.2.1=s.2.1/\j.2.2.1=s.2.2.1/\j.2.2.2.1=s.2.2.2.1/\j.2.2.2.2.1=s.2.2.2.2.1/\j.2.2.2.2.2.1++[p]=s.2.2.2.2.2.1/\(kK j s)) (ah (decide (m=6)) (j.2.2.2.2.2.2.1.length*(32:Nat)<=(gN)/\ar (n,o)/\ ∀(p:Int)(q:List Int)(r:Int),0<=p/\(p<8∨p=0)/\ar (q,r)->ar (q,r)/\(0:Int)<=2/\(2:Int)<=1000/\ ∀(s t:List Int)(u:Int),ar
 (t,u)/\(s.length:Int)<=2->(j.2.2.2.2.2.2.1.length+List.length [(p,s)])*(32:Nat)<=(gN)/\ ∃(v:aj),True/\b.1=b.1/\b.2.1=b.2.1/\b.2.2.1=b.2.2.1/\b.2.2.2.1=b.2.2.2.1/\b.2.2.2.2.1=b.2.2.2.2.1/\b.2.2.2.2.2.1=b.2.2.2.2.2.1/\b.2.2.2.2.2.2.1=b.2.2.2.2.2.2.1/\b.2.2.2.2.2.2.2.1=b.2.2.2.2.2.2.2.1/\b.2.2.2.2.2.2.2.2=b.2.2.2.2.2.2.2.2/\j.1=j.1/\j.2.1=j.2.1/\j.2.2.1=j.2.2.1/\j.2.2.2.1=j.2.2.2.1/\j.2.2.2.2.1=j.2.2.2.2.1/\j.2.2.2.2.2.1=j.2.2.2.2.2.1/\j.2.2.2.2.2.2.1=j.2.2.2.2.2.2.1/\j.2.2.2.2.2.2.2.1=j.2.2.2.2.2.2.2.1/\j.2.2.2.2.2.2.2.2=j.2.2.2.2.2.2.2.2/\j.1=v.1/\j.2.1=v.2.1/\j.2.2.1=v.2.2.1/\j.2.2.2.1=v.2.2.2.1/\j.2.2.2.2.1=v.2.2.2.2.1/\j.2.2.2.2.2.1=v.2.2.2.2.2.1/\j.2.2.2.2.2.2.1++[(p,s)]=v.2.2.2.2.2.2.1/\j.2.2.2.2.2.2.2.1=v.2.2.2.2.2.2.2.1/\j.2.2.2.2.2.2.2.2=v.2.2.2.2.2.2.2.2/\True) (ah (decide (m=7)) (j.2.2.2.2.2.2.2.1.length*(40:Nat)<=(gN)/\ar (n,o)/\ ∀(p:Int)(q:List Int)
 (r:Int),0<=p/\(p<5∨p=0)/\ar (q,r)->ar (q,r)/\ ∀(s:Int)(t:List Int)(u:Int),0<=s/\(s<9∨s=0)/\ar (t,u)->ar (t,u)/\(0:Int)<=4/\(4:Int)<=1000/\ ∀(v w:List Int)(x:Int),ar (w,x)/\(v.length:Int)<=4->(j.2.2.2.2.2.2.2.1.length+List.length [(IntKind.wrap .i64 (j.1+p),s,v)])*(40:Nat)<=(gN)/\
 ∃(y:aj),True/\b.1=b.1/\b.2.1=b.2.1/\b.2.2.1=b.2.2.1/\b.2.2.2.1=b.2.2.2.1/\b.2.2.2.2.1=b.2.2.2.2.1/\b.2.2.2.2.2.1=b.2.2.2.2.2.1/\b.2.2.2.2.2.2.1=b.2.2.2.2.2.2.1/\b.2.2.2.2.2.2.2.1=b.2.2.2.2.2.2.2.1/\b.2.2.2.2.2.2.2.2=b.2.2.2.2.2.2.2.2/\j.1=j.1/\j.2.1=j.2.1/\j.2.2.1=j.2.2.1/\j.2.2.2.1=j.2.2.2.1/\j.2.2.2.2.1=j.2.2.2.2.1/\j.2.2.2.2.2.1=j.2.2.2.2.2.1/\j.2.2.2.2.2.2.1=j.2.2.2.2.2.2.1/\j.2.2.2.2.2.2.2.1=j.2.2.2.2.2.2.2.1/\j.2.2.2.2.2.2.2.2=j.2.2.2.2.2.2.2.2/\j.1=y.1/\j.2.1=y.2.1/\j.2.2.1=y.2.2.1/\j.2.2.2.1=y.2.2.2.1/\j.2.2.2.2.1=y.2.2.2.2.1/\j.2.2.2.2.2.1=y.2.2.2.2.2.1/\j.2.2.2.2.2.2.1=y.2.2.2.2.2.2.1/\j.2.2.2.2.2.2.2.1++[(IntKind.wrap .i64 (j.1+p),s,v)]=y.2.2.2.2.2.2.2.1/\j.2.2.2.2.2.2.2.2=y.2.2.2.2.2.2.2.2/\True) (ah (decide (m=8)) (j.2.2.2.2.2.2.2.2.length*(40:Nat)<=(gN)/\ar (n,o)/\ ∀(p:Int)(q:List Int)(r:Int),0<=p/\(p<5∨p=0)/\ar (q,r)->ar (q,r)/\ ∀(s:Int)(t:List Int)
 (u:Int),0<=s/\(s<9∨s=0)/\ar (t,u)->(1:Nat)<=List.length [(65:Int)]/\List.length [(65:Int)]=(1:Nat)/\ar (t,u)/\(0:Int)<=4/\(4:Int)<=1000/\ ∀(v w:List Int)(x:Int),ar (w,x)/\(v.length:Int)<=4->(List.length [(65:Int)]+v.length)*(1:Nat)<=(gN)/\(j.2.2.2.2.2.2.2.2.length+List.length [(IntKind.wrap .i64 (j.1+p),s,[(65:Int)]++v)])*(40:Nat)<=(gN)/\
 ∃(y:aj),True/\b.1=b.1/\b.2.1=b.2.1/\b.2.2.1=b.2.2.1/\b.2.2.2.1=b.2.2.2.1/\b.2.2.2.2.1=b.2.2.2.2.1/\b.2.2.2.2.2.1=b.2.2.2.2.2.1/\b.2.2.2.2.2.2.1=b.2.2.2.2.2.2.1/\b.2.2.2.2.2.2.2.1=b.2.2.2.2.2.2.2.1/\b.2.2.2.2.2.2.2.2=b.2.2.2.2.2.2.2.2/\j.1=j.1/\j.2.1=j.2.1/\j.2.2.1=j.2.2.1/\j.2.2.2.1=j.2.2.2.1/\j.2.2.2.2.1=j.2.2.2.2.1/\j.2.2.2.2.2.1=j.2.2.2.2.2.1/\j.2.2.2.2.2.2.1=j.2.2.2.2.2.2.1/\j.2.2.2.2.2.2.2.1=j.2.2.2.2.2.2.2.1/\j.2.2.2.2.2.2.2.2=j.2.2.2.2.2.2.2.2/\j.1=y.1/\j.2.1=y.2.1/\j.2.2.1=y.2.2.1/\j.2.2.2.1=y.2.2.2.1/\j.2.2.2.2.1=y.2.2.2.2.1/\j.2.2.2.2.2.1=y.2.2.2.2.2.1/\j.2.2.2.2.2.2.1=y.2.2.2.2.2.2.1/\j.2.2.2.2.2.2.2.1=y.2.2.2.2.2.2.2.1/\j.2.2.2.2.2.2.2.2++[(IntKind.wrap .i64 (j.1+p),s,[(65:Int)]++v)]=y.2.2.2.2.2.2.2.2/\True) (pA b j))))))))))/\ ∀(m:aj),True-> ∀(n:Bool),n=decide (c8 j=0)->(n->(n->n)/\True)/\(n->(n->n)/\True)/\(n->(n->n)/\(n->n)/\True)/\(n->n)/\ ∀(o:Bool),(o=bif n then
 decide (c8 m=c8 m) else false)->(o->(o->o)/\True)/\(o->(o->o)/\True)/\(o->(o->o)/\(o->o)/\True)/\(o->o)/\(bif o then decide (c8 b=c8 b) else false)=true):=by
  delta pA kK gN
  rintro l d - -
  (repeat (intro (b_:Bool) (hb_:b_=_);(repeat refine⟨(by first|(simp;done)|(rw[hb_];simp;done)|(rw[hb_];simp;omega)|(rw[hb_];simp;intros;omega)|(rw[hb_];simp +contextual;done)),?_⟩);subst hb_))
  refine aq (fun h=>?_) (fun _=>⟨by omega,?_⟩)
  ·(repeat (intro (b_:Bool) (hb_:b_=_);(repeat refine⟨(by first|(simp;done)|(rw[hb_];simp;done)|(rw[hb_];simp;omega)|(rw[hb_];simp;intros;omega)|(rw[hb_];simp +contextual;done)),?_⟩);subst hb_))
   exact h
  rintro l2 p2 hl
  have hc:ar (l2,p2):=by
   rw[hl];exact⟨Int.le_refl _,by simp⟩
  refine⟨hc,?_⟩
  rintro x l3 p3 ⟨hc3,hx,hn⟩
  have hlog:x.2.2.2.1.length<=1024:=hx.1.log
  have hdn:x.2.2.2.2.2.2.2.1.length<=4096:=hx.1.dn.n
  have hup:x.2.2.2.2.2.2.2.2.length<=4096:=hx.1.up.n
  have hr:=(nG hx.1.rc hx.1.log ⟨hx.1.kn.1,by have h1:=hx.1.kn.2;have h2:(aF x).length<=(ae x).length:=hx.1.rc.n;have h3:=hx.1.log;omega⟩ hx.1.win).2
  have hgt:x.2.2.2.2.2.1.length<=1024:=hr.1
  have hea:x.2.2.2.2.2.2.1.length<=1024:=hr.2.1
  refine⟨⟨hc3,?_⟩,?_⟩
  ·rintro z l4 p4 ⟨-,-,hc4⟩
   refine aq (fun _=>?_) (fun _=>?_)
   ·exact⟨hc4,fun v l5 p5 _=>⟨(v,x.2),trivial,(by repeat' first|exact trivial|refine⟨trivial,?_⟩|refine⟨(by with_reducible rfl),?_⟩|refine⟨ad (by omega) (by omega),?_⟩|refine⟨rfl,?_⟩)⟩⟩
   refine aq (fun _=>?_) (fun _=>?_)
   ·exact⟨hc4,fun v l5 p5 _=>⟨(x.1,x.2.1,v,x.2.2.2),trivial,(by repeat' first|exact trivial|refine⟨trivial,?_⟩|refine⟨(by with_reducible rfl),?_⟩|refine⟨ad (by omega) (by omega),?_⟩|refine⟨rfl,?_⟩)⟩⟩
   refine aq (fun _=>?_) (fun _=>?_)
   ·exact⟨hc4,fun v l5 p5 _=>⟨(x.1,x.2.1,x.2.2.1,x.2.2.2.1,v,x.2.2.2.2.2),trivial,(by repeat' first|exact trivial|refine⟨trivial,?_⟩|refine⟨(by with_reducible rfl),?_⟩|refine⟨ad (by omega) (by omega),?_⟩|refine⟨rfl,?_⟩)⟩⟩
   refine aq (fun _=>?_) (fun _=>?_)
   ·exact⟨hc4,fun v l5 p5 _=>⟨(x.1,v,x.2.2),trivial,(by repeat' first|exact trivial|refine⟨trivial,?_⟩|refine⟨(by with_reducible rfl),?_⟩|refine⟨ad (by omega) (by omega),?_⟩|refine⟨rfl,?_⟩)⟩⟩
   refine aq (fun _=>?_) (fun _=>?_)
   ·refine aq (fun h0=>?_) (fun _=>⟨x,trivial,(by repeat' first|exact trivial|refine⟨trivial,?_⟩|refine⟨(by with_reducible rfl),?_⟩|refine⟨ad (by omega) (by omega),?_⟩|refine⟨rfl,?_⟩)⟩)
    have h0:=of_decide_eq_true h0
    exact⟨by omega,by omega,by omega,(x.1,x.2.1,x.2.2.1,bf x.2.2.2.1 (Int.toNat 1) (Int.toNat (x.2.2.2.1.length:Int)),x.2.2.2.2),trivial,(by repeat' first|exact trivial|refine⟨trivial,?_⟩|refine⟨(by with_reducible rfl),?_⟩|refine⟨ad (by omega) (by omega),?_⟩|refine⟨rfl,?_⟩)⟩
   refine aq (fun _=>?_) (fun _=>?_)
   ·exact⟨by omega,hc4,by omega,by omega,fun v l5 p5 _=>⟨by simp only[List.length_singleton];omega,(x.1,x.2.1,x.2.2.1,x.2.2.2.1,x.2.2.2.2.1,x.2.2.2.2.2.1++[v],x.2.2.2.2.2.2),trivial,(by repeat' first|exact trivial|refine⟨trivial,?_⟩|refine⟨(by with_reducible rfl),?_⟩|refine⟨ad (by omega) (by omega),?_⟩|refine⟨rfl,?_⟩)⟩⟩
   refine aq (fun _=>?_) (fun _=>?_)
   ·refine⟨by omega,hc4,?_⟩
    rintro i l5 p5 ⟨-,-,hc5⟩
    exact⟨hc5,by omega,by omega,fun v l6 p6 _=>⟨by simp only[List.length_singleton];omega,(x.1,x.2.1,x.2.2.1,x.2.2.2.1,x.2.2.2.2.1,x.2.2.2.2.2.1,x.2.2.2.2.2.2.1++[(i,v)],x.2.2.2.2.2.2.2),trivial,(by repeat' first|exact trivial|refine⟨trivial,?_⟩|refine⟨(by with_reducible rfl),?_⟩|refine⟨ad (by omega) (by omega),?_⟩|refine⟨rfl,?_⟩)⟩⟩
   refine aq (fun _=>?_) (fun _=>?_)
   ·refine⟨by omega,hc4,?_⟩
    rintro i l5 p5 ⟨-,-,hc5⟩
    refine⟨hc5,?_⟩
    rintro o l6 p6 ⟨-,-,hc6⟩
    exact⟨hc6,by omega,by omega,fun v l7 p7 _=>⟨by simp only[List.length_singleton];omega,(x.1,x.2.1,x.2.2.1,x.2.2.2.1,x.2.2.2.2.1,x.2.2.2.2.2.1,x.2.2.2.2.2.2.1,x.2.2.2.2.2.2.2.1++[(IntKind.wrap .i64 (x.1+i),o,v)],x.2.2.2.2.2.2.2.2),trivial,(by repeat' first|exact trivial|refine⟨trivial,?_⟩|refine⟨(by with_reducible rfl),?_⟩|refine⟨ad (by omega) (by omega),?_⟩|refine⟨rfl,?_⟩)⟩⟩
   refine aq (fun _=>?_) (fun _=>?_)
   ·refine⟨by omega,hc4,?_⟩
    rintro i l5 p5 ⟨-,-,hc5⟩
    refine⟨hc5,?_⟩
    rintro o l6 p6 ⟨-,-,hc6⟩
    refine⟨by simp,by simp,hc6,by omega,by omega,fun v l7 p7 hv=>⟨?_,by simp only[List.length_singleton];omega,(x.1,x.2.1,x.2.2.1,x.2.2.2.1,x.2.2.2.2.1,x.2.2.2.2.2.1,x.2.2.2.2.2.2.1,x.2.2.2.2.2.2.2.1,x.2.2.2.2.2.2.2.2++[(IntKind.wrap .i64 (x.1+i),o,[65]++v)]),trivial,(by repeat' first|exact trivial|refine⟨trivial,?_⟩|refine⟨(by with_reducible rfl),?_⟩|refine⟨ad (by omega) (by omega),?_⟩|refine⟨rfl,?_⟩)⟩⟩
    have:=hv.2
    simp only[List.length_singleton]
    omega
   ·exact⟨x,trivial,(by repeat' first|exact trivial|refine⟨trivial,?_⟩|refine⟨(by with_reducible rfl),?_⟩|refine⟨ad (by omega) (by omega),?_⟩|refine⟨rfl,?_⟩)⟩
  ·rintro y -
   rw[hx.chk (by omega)]
   (repeat (intro (b_:Bool) (hb_:b_=_);(repeat refine⟨(by first|(simp;done)|(rw[hb_];simp;done)|(rw[hb_];simp;omega)|(rw[hb_];simp;intros;omega)|(rw[hb_];simp +contextual;done)),?_⟩);subst hb_))
   simp
theorem ok_law21_ExchangeChecks:aG Try.prog GL 6 vH.spec:=Ct.okH _ Try.func6 (by kernel_rfl) (jR (jR (jR (jR (jR (jR (ay (ay (ay (ay (ay (ay (ay (ay aP BZ) (Ct.named AG)) Eu) lx) wF) r8) xF) Bu) (d:=113)) (d:=126)) (d:=144)) (d:=158)) (d:=162)) (d:=165)) aD xV (aQ (by kernel_rfl) zN)
end Go.RS
