/- Xck1: the program's check of a channel. -/
import Derived.Test.YtffciochlkcjbaaXw4
import Derived.Test.YtffciochlkcjbaaWeq
namespace Go.RS
open Go.SX Go.Proofs
set_option maxRecDepth 100000
set_option linter.unusedVariables false
theorem fA{a b:Bool}:(bif a then true else b)=true↔a=true∨b=true:=by cases a <;> simp
theorem v6{a b:Bool}:(bif a then b else false)=true↔a=true/\b=true:=by cases a <;> simp
theorem Dv{b:List Int}(hb:∀ x∈b,0<=x/\x<=255)(a:Int):0<=aH b a:=by
 unfold aH bH
 split
 ·omega
 ·exact (pg (by rw[List.length_take];omega) fun y h=>hb y (List.mem_of_mem_drop (List.mem_of_mem_take h))).1
def tg:Ct:=⟨[.agg aQ,.val (.sl a9)],[.val .bool],fun d=>[0<=d.1.1,d.1.1<=1099511627776],fun d=>((decide (eO d.1.1 d.1.2.1 d.2.1),()),())⟩
def yC:az tg.ps->aI:=(fun d=>{loops:=(fun n=>match n with|4=>some (fun S=>{ι:=Int,μ:=fun i=>(d.2.1.length-i).toNat,inv:=fun i=>0<=i/\i<=d.2.1.length/\d.2.1.length<=4096∧∀ k:Nat,k<i.toNat->iE d.1.1 d.1.2.1 d.2.1 k,keep:=[1,2,10,11],slots:=fun i=>[(12,.int .i64 i)],keepN:=[48],names:=fun i=>[]})|_=>none)})
def fP(a:Int×Int×Int×List (List Int)×Int×List (List Int)×List (Int×List Int)×List (Int×Int×List Int)×List (Int×Int×List Int)) :=
 a.1=a.1/\a.2.1=a.2.1/\a.2.2.1=a.2.2.1/\a.2.2.2.1=a.2.2.2.1/\a.2.2.2.2.1=a.2.2.2.2.1/\a.2.2.2.2.2.1=a.2.2.2.2.2.1/\a.2.2.2.2.2.2.1=a.2.2.2.2.2.2.1/\a.2.2.2.2.2.2.2.1=a.2.2.2.2.2.2.2.1/\a.2.2.2.2.2.2.2.2=a.2.2.2.2.2.2.2.2/\True
def fp(d:Bool) :=
 (! d)->((! d)->(! d))/\True
def fQ(f:Bool) :=
 (! f)->((! f)->(! f))/\True
def fC(e:Bool) :=
 (! e)->((! e)->(! e))/\True
theorem EQ :
 ∀(a:Int×Int×Int×List (List Int)×Int×List (List Int)×List (Int×List Int)×List (Int×Int×List Int)×List (Int×Int×List Int))(b:List (Int×Int×List Int)),CT.wf aQ a/\(b.length<=maxLen/\ ∀(c:Int×Int×List Int),c∈b->ak c.1/\ak c.2.1/\c.2.2.length<=maxLen/\ ∀(d:Int),d∈c.2.2->0<=d/\d<=255)/\True->0<=a.1/\a.1<=1099511627776->ah (decide (4096<(b.length:Int))) (false=decide (eO a.1 a.2.1 b)) ((∃(c:Int),(0<=c/\c<=(b.length:Int)/\b.length<=(4096:Nat)/\ ∀(d:Nat),d<c.toNat->iE a.1 a.2.1 b d)/\b=b/\b=b/\(b.length:Int)=(b.length:Int)/\(0:Int)=c/\(fP a))/\ ∀(c:Int),(0<=c/\c<=(b.length:Int)/\b.length<=(4096:Nat)/\ ∀(d:Nat),d<c.toNat->iE a.1 a.2.1 b d)->ah (decide (c<(b.length:Int))) (0<=c/\c<(b.length:Int)/\ ∀(d:Bool),d=decide ((b.getD c.toNat default).1<=a.1)->(fp d)/\(fp d)/\(fp d)/\((! d)->((! d)->(! d))/\((! d)->(! d))/\True)/\(d=false->(! d))/\ ∀(e:Bool),(e=bif d then true else
 decide (IntKind.wrap .i64 (a.1+(2000:Int))<(b.getD c.toNat default).1))->(fC e)/\(fC e)/\(e=false->(! e))/\ ∀(f:Bool),(f=bif e then true else decide ((b.getD c.toNat default).2.1<0))->(fQ f)/\(fQ f)/\((! f)->((! f)->(! f))/\((! f)->(! f))/\True)/\(f=false->(! f))/\ ∀(g:Bool),(g=bif f then true else decide (a.2.1<=(b.getD c.toNat default).2.1))->((! g)->((! g)->(! g))/\True)/\((! g)->((! g)->(! g))/\True)/\ ∀(h:Bool),h=decide (0<c)->((! g&&h)->((! g&&h)->(! g&&h))/\True)/\((! g&&h)->((! g&&h)->(! g&&h))/\((! g&&h)->(! g&&h))/\0<=IntKind.wrap .i64 (c -(1:Int))/\IntKind.wrap .i64 (c -(1:Int))<(b.length:Int)/\True)/\((! g&&h)->((! g&&h)->(! g&&h))/\True)/\((! g&&h)->((! g&&h)->(! g&&h))/\((! g&&h)->(! g&&h))/\True)/\((! g&&h)->((! g&&h)->(! g&&h))/\True)/\((! g)->((! g)->(! g))/\(h->(! g&&h))/\True)/\(g=false->(! g))/\ah (bif g then true else bif h then decide (0<=dt (b.getD
 (Int.toNat (IntKind.wrap .i64 (c -(1:Int)))) default) (b.getD c.toNat default)) else false) (false=decide (eO a.1 a.2.1 b)) (∃(i:Int),(0<=i/\i<=(b.length:Int)/\b.length<=(4096:Nat)/\ ∀(j:Nat),j<i.toNat->iE a.1 a.2.1 b j)/\Int.toNat ((b.length:Int) -i)<Int.toNat ((b.length:Int) -c)/\b=b/\b=b/\(b.length:Int)=(b.length:Int)/\IntKind.wrap .i64 (c+(1:Int))=i/\(fP a))) (true=decide (eO a.1 a.2.1 b))):=by
  delta fP fp fQ fC
  rintro d x ⟨-,⟨hl,-⟩,-⟩⟨hn0,hn1⟩
  refine ar (fun h=>?_) (fun h=>?_)
  ·have h:=of_decide_eq_true h
   exact (decide_eq_false fun k=>by have:=k.1;omega).symm
  have h:=of_decide_eq_false h
  refine⟨⟨0,⟨by omega,by omega,by omega,fun k hk=>absurd hk (by simp)⟩,(by repeat' first|exact trivial|refine⟨trivial,?_⟩|refine⟨(by with_reducible rfl),?_⟩|refine⟨ad (by omega) (by omega),?_⟩|refine⟨rfl,?_⟩)⟩,?_⟩
  rintro j ⟨j0,j1,j2,hj⟩
  refine ar (fun hk=>?_) (fun hk=>?_)
  ·have hk:=of_decide_eq_true hk
   rw[ad (n:=d.1+2000) (by omega) (by omega)]
   have ej:0<j->IntKind.wrap .i64 (j-1)=j-1:=fun h=>ad (by omega) (by omega)
   refine⟨j0,hk,?_⟩
   intro b1 e1
   (repeat refine⟨fun h_=>(by first|(simp;done)|(simp[h_];done)|(simp_all;done)),?_⟩)
   intro b2 e2
   (repeat refine⟨fun h_=>(by first|(simp;done)|(simp[h_];done)|(simp_all;done)),?_⟩)
   intro b3 e3
   (repeat refine⟨fun h_=>(by first|(simp;done)|(simp[h_];done)|(simp_all;done)),?_⟩)
   intro b4 e4
   (repeat refine⟨fun h_=>(by first|(simp;done)|(simp[h_];done)|(simp_all;done)),?_⟩)
   intro b5 e5
   (repeat refine⟨fun h_=>(by first|exact⟨fun _=>h_,fun _=>h_,by rw[e5,Bool.and_eq_true,decide_eq_true_eq] at h_;rw[ej h_.2];omega,by rw[e5,Bool.and_eq_true,decide_eq_true_eq] at h_;rw[ej h_.2];omega,trivial⟩|(simp;done)|(simp[h_];done)|(simp_all;done)),?_⟩)
   have key:(bif b4 then true else bif b5 then decide ((0:Int)<=dt (x.getD (Int.toNat (IntKind.wrap .i64 (j-1))) default) (x.getD j.toNat default)) else false)=true↔¬ iE d.1 d.2.1 x j.toNat:=by
    rw[e5,e4,e3,e2,e1]
    simp only[fA,v6,decide_eq_true_eq]
    unfold iE
    by_cases h0:0<j
    ·rw[ej h0,show (j-1).toNat=j.toNat-1 by omega]
     have ht:=qx (x:=x.getD (j.toNat-1) default) (y:=x.getD j.toNat default)
     unfold fH at ht
     generalize dt (x.getD (j.toNat-1) default) (x.getD j.toNat default)=z at *
     omega
    ·have:¬ 0<j.toNat:=by omega
     omega
   refine ar (fun hc=>?_) (fun hc=>?_)
   ·exact (decide_eq_false fun k=>key.1 hc (k.2 _ (by omega))).symm
   ·have hok:iE d.1 d.2.1 x j.toNat:=Classical.byContradiction fun k=>by rw[key.2 k] at hc;cases hc
    refine⟨j+1,⟨by omega,by omega,by omega,fun k hk2=>?_⟩,by omega,(by repeat' first|exact trivial|refine⟨trivial,?_⟩|refine⟨(by with_reducible rfl),?_⟩|refine⟨ad (by omega) (by omega),?_⟩|refine⟨rfl,?_⟩)⟩
    by_cases hkj:k<j.toNat
    ·exact hj k hkj
    ·rw[show k=j.toNat by omega];exact hok
  ·have hk:=of_decide_eq_false hk
   exact (decide_eq_true ⟨by omega,fun k hk2=>hj k (by omega)⟩).symm
theorem BN:aC Try.prog GL 67 tg.spec:=Ct.okH _ Try.func67 (by kernel_rfl) (av aP uy) ay yC (aO (by kernel_rfl) EQ)
def t8:Ct:=⟨[.agg aQ],[.val .bool],fun d=>[0<=d.1.2.2.2.2.1,d.1.2.2.2.2.1<=100000,0<=d.1.2.2.1,d.1.2.2.1<=100000],fun d=>((decide (earP d.1.2.2.2.2.1 d.1.2.2.1 d.1.2.2.2.2.2.1.length d.1.2.2.2.1 d.1.2.2.2.2.2.2.1),()),())⟩
def DX:az t8.ps->aI:=(fun d=>{loops:=(fun n=>match n with|3=>some (fun S=>{ι:=Int×Int,qn:=⟨fun k_=>∀(j:Int)(last:Int),k_ (j,last),fun k_ h_ i=>h_ i.1 i.2,fun k_=>∃ (j:Int) (last:Int),k_ (j,last),fun k_ ⟨j,last,h_⟩=>⟨_,h_⟩⟩,μ:=fun i=>(d.1.2.2.2.2.2.2.1.length-i.1).toNat,inv:=fun i=>0<=i.1/\i.1<=d.1.2.2.2.2.2.2.1.length/\0<=i.2/\i.2=(if i.1.toNat=0 then (d.1.2.2.2.2.2.1.length:Int) else (d.1.2.2.2.2.2.2.1.getD (i.1.toNat-1) default).1)∧∀ k:Nat,k<i.1.toNat->ij d.1.2.2.2.2.1 d.1.2.2.1 d.1.2.2.2.2.2.1.length d.1.2.2.2.1 d.1.2.2.2.2.2.2.1 k,keep:=[1,10,11],slots:=fun i=>[(3,.int .i64 i.2),(12,.int .i64 i.1)],keepN:=[32],names:=fun i=>[]})|_=>none)})
def ch(a:Int×Int×Int×List (List Int)×Int×List (List Int)×List (Int×List Int)×List (Int×Int×List Int)×List (Int×Int×List Int)) :=
 (a.2.2.2.2.2.1.length:Int)
def iC(a:Int×Int×Int×List (List Int)×Int×List (List Int)×List (Int×List Int)×List (Int×Int×List Int)×List (Int×Int×List Int))(b:Int) :=
 List.getD a.2.2.2.2.2.2.1 b.toNat default
def qX(a:Int×Int×Int×List (List Int)×Int×List (List Int)×List (Int×List Int)×List (Int×Int×List Int)×List (Int×Int×List Int))(b c:Int) :=
 0<=b/\b<=(a.2.2.2.2.2.2.1.length:Int)/\0<=c/\(c=if b.toNat=(0:Nat) then (ch a) else (List.getD a.2.2.2.2.2.2.1 (b.toNat -(1:Nat)) default).1)/\ ∀(d:Nat),d<b.toNat->ij a.2.2.2.2.1 a.2.2.1 (ch a) a.2.2.2.1 a.2.2.2.2.2.2.1 d
theorem DM :
 ∀(a:Int×Int×Int×List (List Int)×Int×List (List Int)×List (Int×List Int)×List (Int×Int×List Int)×List (Int×Int×List Int)),CT.wf aQ a/\True->0<=a.2.2.2.2.1/\a.2.2.2.2.1<=100000/\0<=a.2.2.1/\a.2.2.1<=100000->(∃(b:Int) (c:Int),(qX a b c)/\(ch a)=c/\a.2.2.2.2.2.2.1=a.2.2.2.2.2.2.1/\(a.2.2.2.2.2.2.1.length:Int)=(a.2.2.2.2.2.2.1.length:Int)/\(0:Int)=b/\(fP a))/\ ∀(b c:Int),(qX a b c)->ah (decide (b<(a.2.2.2.2.2.2.1.length:Int))) (0<=b/\b<(a.2.2.2.2.2.2.1.length:Int)/\ ∀(d:Bool),d=decide ((iC a b).1<=c)->(fp d)/\(fp d)/\(fp d)/\((! d)->((! d)->(! d))/\((! d)->(! d))/\True)/\(d=false->(! d))/\ ∀(e:Bool),(e=bif d then true else decide ((a.2.2.2.1.length:Int)<=(iC a b).1))->(fC e)/\(fC e)/\(fC e)/\((! e)->((! e)->(! e))/\((! e)->(! e))/\True)/\((! e)->((! e)->(! e))/\((! e)->(! e))/\True)/\(e=false->(! e))/\ ∀(f:Bool),(f=bif e then true else decide (IntKind.wrap .i64
 (a.2.2.2.2.1+a.2.2.1)<=(iC a b).1))->(fQ f)/\(fQ f)/\(fQ f)/\((! f)->((! f)->(! f))/\((! f)->(! f))/\0<=(iC a b).1/\(iC a b).1<(a.2.2.2.1.length:Int)/\True)/\(fQ f)/\((! f)->((! f)->(! f))/\((! f)->(! f))/\True)/\(fQ f)/\(f=false->(! f))/\ah (bif f then true else ! decide ((iC a b).2=List.getD a.2.2.2.1 (Int.toNat (iC a b).1) default)) (false=decide (earP a.2.2.2.2.1 a.2.2.1 (ch a) a.2.2.2.1 a.2.2.2.2.2.2.1)) (∃(g:Int) (h:Int),(0<=g/\g<=(a.2.2.2.2.2.2.1.length:Int)/\0<=h/\(h=if g.toNat=(0:Nat) then (ch a) else (List.getD a.2.2.2.2.2.2.1 (g.toNat -(1:Nat)) default).1)/\ ∀(i:Nat),i<g.toNat->ij a.2.2.2.2.1 a.2.2.1 (ch a) a.2.2.2.1 a.2.2.2.2.2.2.1 i)/\Int.toNat ((a.2.2.2.2.2.2.1.length:Int) -g)<Int.toNat ((a.2.2.2.2.2.2.1.length:Int) -b)/\(iC a b).1=h/\a.2.2.2.2.2.2.1=a.2.2.2.2.2.2.1/\(a.2.2.2.2.2.2.1.length:Int)=(a.2.2.2.2.2.2.1.length:Int)/\IntKind.wrap .i64
 (b+(1:Int))=g/\(fP a))) (true=decide (earP a.2.2.2.2.1 a.2.2.1 (ch a) a.2.2.2.1 a.2.2.2.2.2.2.1)):=by
  delta fP ch fp fQ fC iC qX
  rintro d ⟨⟨-,-,-,-,-,-,⟨hl,-⟩,-⟩,-⟩⟨k0,k1,w0,w1⟩
  simp only[maxLen] at hl
  rw[ad (n:=d.2.2.2.2.1+d.2.2.1) (by omega) (by omega)]
  refine⟨⟨0,_,⟨by omega,by omega,by omega,rfl,fun k hk=>absurd hk (by simp)⟩,(by repeat' first|exact trivial|refine⟨trivial,?_⟩|refine⟨(by with_reducible rfl),?_⟩|refine⟨ad (by omega) (by omega),?_⟩|refine⟨rfl,?_⟩)⟩,?_⟩
  rintro j last ⟨j0,j1,l0,hlast,hj⟩
  refine ar (fun hk=>?_) (fun hk=>?_)
  ·have hk:=of_decide_eq_true hk
   refine⟨j0,hk,?_⟩
   intro b1 e1
   (repeat refine⟨fun h_=>(by first|(simp;done)|(simp[h_];done)|(simp_all;done)),?_⟩)
   intro b2 e2
   (repeat refine⟨fun h_=>(by first|(simp;done)|(simp[h_];done)|(simp_all;done)),?_⟩)
   intro b3 e3
   have hin:(!b3)=true->last<(d.2.2.2.2.2.2.1.getD j.toNat default).1/\(d.2.2.2.2.2.2.1.getD j.toNat default).1<d.2.2.2.1.length:=fun h=>by
    have h:¬ b3=true:=by simpa using h
    rw[e3,e2,e1] at h
    simp only[fA,decide_eq_true_eq] at h
    omega
   (repeat refine⟨fun h_=>(by first|exact⟨fun _=>h_,fun _=>h_,by have:=hin h_;omega,by have:=hin h_;omega,trivial⟩|(simp;done)|(simp[h_];done)|(simp_all;done)),?_⟩)
   have key:(bif b3 then true else !decide ((d.2.2.2.2.2.2.1.getD j.toNat default).2=d.2.2.2.1.getD (Int.toNat (d.2.2.2.2.2.2.1.getD j.toNat default).1) default))=true↔¬ ij d.2.2.2.2.1 d.2.2.1 d.2.2.2.2.2.1.length d.2.2.2.1 d.2.2.2.2.2.2.1 j.toNat:=by
    rw[e3,e2,e1]
    unfold ij
    rw[← hlast]
    simp only[fA,decide_eq_true_eq,Bool.not_eq_true',decide_eq_false_iff_not]
    by_cases hq:(d.2.2.2.2.2.2.1.getD j.toNat default).2=d.2.2.2.1.getD (Int.toNat (d.2.2.2.2.2.2.1.getD j.toNat default).1) default
    ·simp only[hq,not_true,or_false,and_true];omega
    ·simp only[hq,not_false_eq_true,or_true,and_false]
   refine ar (fun hc=>?_) (fun hc=>?_)
   ·exact (decide_eq_false fun k=>key.1 hc (k _ (by omega))).symm
   ·have hok:ij d.2.2.2.2.1 d.2.2.1 d.2.2.2.2.2.1.length d.2.2.2.1 d.2.2.2.2.2.2.1 j.toNat:=Classical.byContradiction fun k=>by rw[key.2 k] at hc;cases hc
    have hok1:=hok.1
    rw[← hlast] at hok1
    refine⟨j+1,_,⟨by omega,by omega,?_,?_,fun k hk2=>?_⟩,by omega,(by repeat' first|exact trivial|refine⟨trivial,?_⟩|refine⟨(by with_reducible rfl),?_⟩|refine⟨ad (by omega) (by omega),?_⟩|refine⟨rfl,?_⟩)⟩
    ·omega
    ·rw[if_neg (by omega),show (j+1).toNat-1=j.toNat by omega]
    ·by_cases hkj:k<j.toNat
     ·exact hj k hkj
     ·rw[show k=j.toNat by omega];exact hok
  ·have hk:=of_decide_eq_false hk
   exact (decide_eq_true (p:=earP _ _ _ _ _) fun k hk2=>hj k (by omega)).symm
theorem EO:aC Try.prog GL 66 t8.spec:=Ct.okH _ Try.func66 (by kernel_rfl) (av aP qA) ay DX (aO (by kernel_rfl) DM)
def uX:Ct:=⟨[.agg aQ,.val (.sl aT)],[.val .bool],fun d=>[∀ b∈d.1.2.2.2.1,(b.length:Int)<=6000],fun d=>((decide (cd d.1.2.2.2.1 d.2.1),()),())⟩
def DJ:az uX.ps->aI:=(fun _=>{})
def hY(c:Bool) :=
 (! c)->((! c)->(! c))/\True
def je(b:List Int) :=
 b.length<=maxLen/\ ∀(c:Int),c∈b->0<=c/\c<=255
theorem xy :
 ∀(a:Int×Int×Int×List (List Int)×Int×List (List Int)×List (Int×List Int)×List (Int×Int×List Int)×List (Int×Int×List Int))(b:List Int),CT.wf aQ a/\(je b)/\True->(∀(c:List Int),c∈a.2.2.2.1->(c.length:Int)<=6000)-> ∀(c:Bool),c=decide ((b.length:Int)<3)->((! c)->((! c)->(! c))/\(b.length:Int)<=9223372036854775807/\True)/\(hY c)/\(hY c)/\((! c)->((! c)->(! c))/\((! c)->(! c))/\True)/\(c=false->(! c))/\ah (bif c then true else decide ((a.2.2.2.1.length:Int)<=aH b (1:Int))) (false=decide (cd a.2.2.2.1 b)) ((b.length:Int)<=9223372036854775807/\0<=aH b (1:Int)/\aH b 1<(a.2.2.2.1.length:Int)/\0<=aH b (1:Int)/\((List.length (List.getD a.2.2.2.1 (Int.toNat (aH b (1:Int))) default)):Int)<=1000000/\decide (b=bF (aH b (1:Int)) (List.getD a.2.2.2.1 (Int.toNat (aH b (1:Int))) default))=decide (cd a.2.2.2.1 b)):=by
  delta hY je
  rintro d x ⟨-,⟨hl,hb⟩,-⟩ hit
  have hn:=Dv hb 1
  have hl2:(x.length:Int)<=9223372036854775807:=by simp only[maxLen] at hl;omega
  intro b1 e1
  (repeat refine⟨fun h_=>(by first|exact⟨fun _=>h_,hl2,trivial⟩|(simp;done)|(simp[h_];done)|(simp_all;done)),?_⟩)
  refine ar (fun hc=>?_) (fun hc=>?_)
  ·rw[e1] at hc
   simp only[fA,decide_eq_true_eq] at hc
   exact (decide_eq_false fun k=>by obtain⟨k1,k2,-⟩:=k;omega).symm
  ·have hc:¬ (bif b1 then true else decide ((d.2.2.2.1.length:Int)<=aH x 1))=true:=by rw[hc];simp
   rw[e1] at hc
   simp only[fA,decide_eq_true_eq] at hc
   have hi:=hit _ (cE (xs:=d.2.2.2.1) hn (by omega))
   refine⟨hl2,hn,by omega,hn,by omega,?_⟩
   refine decide_eq_decide.2 ⟨fun k=>⟨by omega,by omega,k⟩,fun k=>k.2.2⟩
theorem z8:aC Try.prog GL 69 uX.spec:=Ct.okH _ Try.func69 (by kernel_rfl) (av (av (av aP mL) vx) qA) ay DJ (aO (by kernel_rfl) xy)
def wb:Ct:=⟨[.agg aQ,.val (.sl aT)],[.val .bool],fun _=>[],fun d=>((decide (cl d.1.2.2.2.2.2.1.length d.1.2.2.2.1.length d.2.1),()),())⟩
def xw:az wb.ps->aI:=(fun d=>{loops:=(fun n=>match n with|5=>some (fun S=>{ι:=Int×Int,qn:=⟨fun k_=>∀(a:Int)(last:Int),k_ (a,last),fun k_ h_ i=>h_ i.1 i.2,fun k_=>∃ (a:Int) (last:Int),k_ (a,last),fun k_ ⟨a,last,h_⟩=>⟨_,h_⟩⟩,μ:=fun i=>(d.2.1.length-i.1).toNat,inv:=fun i=>3<=i.1/\(i.1-3)%2=0/\i.1<=d.2.1.length/\d.2.1.length%2=1/\i.2=aH d.2.1 (i.1-2)∧∀ k:Nat,3+2*(k:Int)<i.1->gY d.1.2.2.2.1.length d.2.1 k,keep:=[1,2],slots:=fun i=>[(5,.int .i64 i.2),(6,.int .i64 i.1)],keepN:=[48],names:=fun i=>[]})|_=>none)})
theorem CY :
 ∀(a:Int×Int×Int×List (List Int)×Int×List (List Int)×List (Int×List Int)×List (Int×Int×List Int)×List (Int×Int×List Int))(b:List Int),CT.wf aQ a/\(je b)/\True->True-> ∀(c:Bool),c=decide ((b.length:Int)<3)->(hY c)/\((! c)->((! c)->(! c))/\(2:Int)≠(0:Int)/\True)/\(hY c)/\(c=false->(! c))/\ ∀(d:Bool),(d=bif c then true else decide (Int.tmod (b.length:Int) (2:Int)=0))->((! d)->((! d)->(! d))/\(0:Int)<=0/\0<(b.length:Int)/\True)/\(fp d)/\(fp d)/\(d=false->(! d))/\ ∀(e:Bool),(e=bif d then true else ! decide (b.getD (Int.toNat (0:Int)) default=65))->((! e)->((! e)->(! e))/\(b.length:Int)<=9223372036854775807/\True)/\(fC e)/\(fC e)/\((! e)->((! e)->(! e))/\((! e)->(! e))/\True)/\(e=false->(! e))/\ah (bif e then true else decide ((ch a)<aH b (1:Int))) (false=decide (cl (ch a) (a.2.2.2.1.length:Int) b)) ((b.length:Int)<=9223372036854775807/\(∃(f:Int) (g:Int),(3<=f/\(f
 -(3:Int))%(2:Int)=0/\f<=(b.length:Int)/\b.length%(2:Nat)=(1:Nat)/\g=aH b (f -(2:Int))/\ ∀(h:Nat),(3:Int)+(2:Int)*(↑h:Int)<f->gY (a.2.2.2.1.length:Int) b h)/\b=b/\aH b (1:Int)=g/\(3:Int)=f/\(fP a))/\ ∀(f g:Int),(3<=f/\(f -(3:Int))%(2:Int)=0/\f<=(b.length:Int)/\b.length%(2:Nat)=(1:Nat)/\g=aH b (f -(2:Int))/\ ∀(h:Nat),(3:Int)+(2:Int)*(↑h:Int)<f->gY (a.2.2.2.1.length:Int) b h)->ah (decide (f<(b.length:Int))) ((b.length:Int)<=9223372036854775807/\ ∀(h:Bool),h=decide (aH b f<=g)->((! h)->((! h)->(! h))/\True)/\((! h)->((! h)->(! h))/\True)/\((! h)->((! h)->(! h))/\((! h)->(! h))/\True)/\(h=false->(! h))/\ah (bif h then true else decide ((a.2.2.2.1.length:Int)<=aH b f)) (false=decide (cl (ch a) (a.2.2.2.1.length:Int) b)) (∃(i:Int) (j:Int),(3<=i/\(i -(3:Int))%(2:Int)=0/\i<=(b.length:Int)/\b.length%(2:Nat)=(1:Nat)/\j=aH b (i -(2:Int))/\
 ∀(k:Nat),(3:Int)+(2:Int)*(↑k:Int)<i->gY (a.2.2.2.1.length:Int) b k)/\Int.toNat ((b.length:Int) -i)<Int.toNat ((b.length:Int) -f)/\b=b/\aH b f=j/\IntKind.wrap .i64 (f+(2:Int))=i/\(fP a))) (true=decide (cl (ch a) (a.2.2.2.1.length:Int) b))):=by
  delta fP ch fp fC hY je
  rintro d x ⟨-,⟨hl,hb⟩,-⟩ -
  have hl2:(x.length:Int)<=9223372036854775807:=by simp only[maxLen] at hl;omega
  have et:Int.tmod (x.length:Int) 2=(x.length:Int)%2:=Int.tmod_eq_emod_of_nonneg (by omega)
  rw[et]
  intro b1 e1
  (repeat refine⟨fun h_=>(by first|exact⟨fun _=>h_,by decide,trivial⟩|(simp;done)|(simp[h_];done)|(simp_all;done)),?_⟩)
  intro b2 e2
  (repeat refine⟨fun h_=>(by first|exact⟨fun _=>h_,by decide,by have h_:¬ b2=true:=(by simpa using h_);rw[e2,e1] at h_;simp only[fA,decide_eq_true_eq] at h_;omega,trivial⟩|(simp;done)|(simp[h_];done)|(simp_all;done)),?_⟩)
  intro b3 e3
  (repeat refine⟨fun h_=>(by first|exact⟨fun _=>h_,hl2,trivial⟩|(simp;done)|(simp[h_];done)|(simp_all;done)),?_⟩)
  refine ar (fun hc=>?_) (fun hc=>?_)
  ·rw[e3,e2,e1] at hc
   simp only[fA,decide_eq_true_eq,Bool.not_eq_true',decide_eq_false_iff_not] at hc
   refine (decide_eq_false fun k=>?_).symm
   obtain⟨p1,p2,p3,p4,-⟩:=k
   have p3:x.getD (Int.toNat 0) default=65:=p3
   omega
  have hc:¬ (bif b3 then true else decide ((d.2.2.2.2.2.1.length:Int)<aH x 1))=true:=by rw[hc];simp
  rw[e3,e2,e1] at hc
  simp only[fA,decide_eq_true_eq,Bool.not_eq_true',decide_eq_false_iff_not,not_or,Classical.not_not] at hc
  obtain⟨⟨⟨q1,q2⟩,q3⟩,q4⟩:=hc
  refine⟨hl2,⟨3,_,⟨by omega,by omega,by omega,by omega,rfl,fun k hk=>by omega⟩,(by repeat' first|exact trivial|refine⟨trivial,?_⟩|refine⟨(by with_reducible rfl),?_⟩|refine⟨ad (by omega) (by omega),?_⟩|refine⟨rfl,?_⟩)⟩,?_⟩
  rintro a last ⟨a0,a1,a2,a3,rfl,ha⟩
  refine ar (fun hk=>?_) (fun hk=>?_)
  ·have hk:=of_decide_eq_true hk
   refine⟨hl2,?_⟩
   intro b4 e4
   (repeat refine⟨fun h_=>(by first|(simp;done)|(simp[h_];done)|(simp_all;done)),?_⟩)
   obtain⟨q,hq⟩:∃ q:Nat,a=3+2*(q:Int):=⟨((a-3)/2).toNat,by omega⟩
   subst hq
   have key:(bif b4 then true else decide ((d.2.2.2.1.length:Int)<=aH x (3+2*(q:Int))))=true↔¬ gY d.2.2.2.1.length x q:=by
    rw[e4]
    unfold gY
    simp only[fA,decide_eq_true_eq]
    rw[show (((1+2*q:Nat):Int))=3+2*(q:Int)-2 by omega,show (((3+2*q:Nat):Int))=3+2*(q:Int) by omega]
    omega
   refine ar (fun hc=>?_) (fun hc=>?_)
   ·refine (decide_eq_false fun k=>?_).symm
    exact key.1 hc (k.2.2.2.2 q (by omega))
   ·have hok:gY d.2.2.2.1.length x q:=Classical.byContradiction fun k=>by rw[key.2 k] at hc;cases hc
    refine⟨3+2*(q:Int)+2,_,⟨by omega,by omega,by omega,a3,?_,fun k hk2=>?_⟩,by omega,(by repeat' first|exact trivial|refine⟨trivial,?_⟩|refine⟨(by with_reducible rfl),?_⟩|refine⟨ad (by omega) (by omega),?_⟩|refine⟨rfl,?_⟩)⟩
    ·rw[show 3+2*(q:Int)+2-2=3+2*(q:Int) by omega]
    ·by_cases hkq:k=q
     ·rw[hkq];exact hok
     ·exact ha k (by omega)
  ·have hk:=of_decide_eq_false hk
   exact (decide_eq_true ⟨by omega,by omega,q3,by omega,fun k hk2=>ha k (by omega)⟩).symm
theorem Ew:aC Try.prog GL 70 wb.spec:=Ct.okH _ Try.func70 (by kernel_rfl) (av aP mL) ay xw (aO (by kernel_rfl) CY)
def tG:Ct:=⟨[.val (.sl aT)],[.val .bool],fun _=>[],fun d=>((decide (6000<(d.1.length:Int)),()),())⟩
def Co:az tG.ps->aI:=(fun _=>{})
theorem yP :
 ∀(a:List Int),(a.length<=maxLen/\ ∀(b:Int),b∈a->0<=b/\b<=255)/\True->True->decide (6000<(a.length:Int))=decide (6000<(a.length:Int)):=by
  intros;rfl
theorem BD:aC Try.prog GL 61 tG.spec:=Ct.okH _ Try.func61 (by kernel_rfl) aP ay Co (aO (by kernel_rfl) yP)
def xe:Ct:=⟨[.val (.sl (.sl aT)),.fn 61 0],[.val cI],fun _=>[],fun d=>((dK (fun b=>decide (6000<(b.length:Int))) d.1,()),())⟩
def DP:az xe.ps->aI:=(fun d=>{loops:=(fun n=>match n with|2=>some (fun S=>{ι:=Int,μ:=fun i=>(d.1.length-i).toNat,inv:=fun i=>0<=i/\i<=d.1.length∧∀ x∈d.1.take i.toNat,decide (6000<(x.length:Int))=false,keep:=[0,1,6,7],slots:=fun i=>[(8,.int .i64 i)],names:=fun i=>[]})|_=>none)})
theorem zl :
 ∀(a:List (List Int)),(a.length<=maxLen/\ ∀(b:List Int),b∈a->(je b))/\True/\True->True->(∃(b:Int),(0<=b/\b<=(a.length:Int)/\ ∀(c:List Int),c∈List.take b.toNat a->decide (6000<(c.length:Int))=false)/\a=a/\a=a/\(a.length:Int)=(a.length:Int)/\(0:Int)=b/\True)/\ ∀(b:Int),(0<=b/\b<=(a.length:Int)/\ ∀(c:List Int),c∈List.take b.toNat a->decide (6000<(c.length:Int))=false)->ah (decide (b<(a.length:Int))) (0<=b/\b<(a.length:Int)/\ah (decide (6000<((List.length (a.getD b.toNat default)):Int))) (b=dK (fun (c:List Int)=>decide (6000<(c.length:Int))) a) (∃(c:Int),(0<=c/\c<=(a.length:Int)/\ ∀(d:List Int),d∈List.take c.toNat a->decide (6000<(d.length:Int))=false)/\Int.toNat ((a.length:Int) -c)<Int.toNat ((a.length:Int) -b)/\a=a/\a=a/\(a.length:Int)=(a.length:Int)/\IntKind.wrap .i64 (b+(1:Int))=c/\True)) ((-1:Int)=dK (fun (c:List Int)=>decide (6000<(c.length:Int))) a):=by
  delta je
  rintro x ⟨⟨hl,-⟩,-⟩ -
  simp only[maxLen] at hl
  refine⟨⟨0,⟨by omega,by omega,by simp⟩,(by repeat' first|exact trivial|refine⟨trivial,?_⟩|refine⟨(by with_reducible rfl),?_⟩|refine⟨ad (by omega) (by omega),?_⟩|refine⟨rfl,?_⟩)⟩,?_⟩
  rintro j ⟨j0,j1,hj⟩
  refine ar (fun hk=>?_) (fun hk=>?_)
  ·have hk:=of_decide_eq_true hk
   refine⟨j0,hk,ar (fun hm=>?_) (fun hm=>?_)⟩
   ·exact mJ (q:=fun b:List Int=>decide (6000<(b.length:Int))) j0 hk hj hm
   ·exact⟨j+1,⟨by omega,by omega,nj (P:=fun b:List Int=>decide (6000<(b.length:Int))=false) j0 hk hj hm⟩,by omega,(by repeat' first|exact trivial|refine⟨trivial,?_⟩|refine⟨(by with_reducible rfl),?_⟩|refine⟨ad (by omega) (by omega),?_⟩|refine⟨rfl,?_⟩)⟩
  ·exact n7 (q:=fun b:List Int=>decide (6000<(b.length:Int))) (of_decide_eq_false hk) hj
theorem DL:aC Try.prog GL 84 xe.spec:=Ct.okH _ Try.func84 (by kernel_rfl) (av aP BD) ay DP (aO (by kernel_rfl) zl)
def se:Ct:=⟨[.val (.sl (.sl aT)),.fn 61 0],[.val .bool],fun _=>[],fun d=>((d.1.any (fun b=>decide (6000<(b.length:Int))),()),())⟩
def Dt:az se.ps->aI:=(fun _=>{})
theorem BO :
 ∀(a:List (List Int)),(a.length<=maxLen/\ ∀(b:List Int),b∈a->(je b))/\True/\True->True->decide (0<=dK (fun (b:List Int)=>decide (6000<(b.length:Int))) a)=List.any a fun (b:List Int)=>decide (6000<(b.length:Int)):=by
  delta je
  rintro l - -
  exact nY
theorem Cm:aC Try.prog GL 62 se.spec:=Ct.okH _ Try.func62 (by kernel_rfl) (av aP DL) ay Dt (aO (by kernel_rfl) BO)
def v5:Ct:=⟨[.fn 69 0,.box 28 aQ],[.fn 65 2,.box 70 (.fnc 69),.alp],fun _=>[],fun d=>(((),(),(),()),(d.2.1,()))⟩
def Cl:az v5.ps->aI:=(fun _=>{})
theorem xH :
 ∀(a:Int×Int×Int×List (List Int)×Int×List (List Int)×List (Int×List Int)×List (Int×Int×List Int)×List (Int×Int×List Int)),True/\CT.wf aQ a/\True->True->()=()/\()=()/\()=()/\a=a:=by
  intros;exact⟨rfl,rfl,rfl,rfl⟩
theorem Au:aC Try.prog GL 64 v5.spec:=Ct.okH _ Try.func64 (by kernel_rfl) aP ay Cl (aO (by kernel_rfl) xH)
def tU:Ct:=⟨[.fn 70 0,.box 28 aQ],[.fn 65 2,.box 70 (.fnc 70),.alp],fun _=>[],fun d=>(((),(),(),()),(d.2.1,()))⟩
def Em:az tU.ps->aI:=(fun _=>{})
theorem xW :
 ∀(a:Int×Int×Int×List (List Int)×Int×List (List Int)×List (Int×List Int)×List (Int×Int×List Int)×List (Int×Int×List Int)),True/\CT.wf aQ a/\True->True->()=()/\()=()/\()=()/\a=a:=by
  intros;exact⟨rfl,rfl,rfl,rfl⟩
theorem x8:aC Try.prog GL 64 tU.spec:=Ct.okH _ Try.func64 (by kernel_rfl) aP ay Em (aO (by kernel_rfl) xW)
def wJ:Ct:=⟨[.agg a9,.box 70 (.fnc 69),.box 28 aQ],[.val .bool],fun d=>[∀ b∈d.2.2.1.2.2.2.1,(b.length:Int)<=6000],fun d=>((!decide (cd d.2.2.1.2.2.2.1 d.1.2.2),()),((),d.2.2.1,()))⟩
def DS:az wJ.ps->aI:=(fun _=>{})
theorem Ea :
 ∀(a b:Int)(c:List Int)(d:Int×Int×Int×List (List Int)×Int×List (List Int)×List (Int×List Int)×List (Int×Int×List Int)×List (Int×Int×List Int)),(ak a/\ak b/\c.length<=maxLen/\ ∀(e:Int),e∈c->0<=e/\e<=255)/\True/\CT.wf aQ d/\True->(∀(e:List Int),e∈d.2.2.2.1->(e.length:Int)<=6000)->(∀(e:List Int),e∈d.2.2.2.1->(e.length:Int)<=6000)/\(! decide (cd d.2.2.2.1 c))= ! decide (cd d.2.2.2.1 c)/\()=()/\d=d:=by
  intros
  rename_i h
  exact⟨h,rfl,rfl,rfl⟩
theorem CE:aC Try.prog GL 65 wJ.spec:=Ct.okH _ Try.func65 (by kernel_rfl) (av aP z8) ay DS (aO (by kernel_rfl) Ea)
def wB:Ct:=⟨[.agg a9,.box 70 (.fnc 70),.box 28 aQ],[.val .bool],fun _=>[],fun d=>((!decide (cl d.2.2.1.2.2.2.2.2.1.length d.2.2.1.2.2.2.1.length d.1.2.2),()),((),d.2.2.1,()))⟩
def Bg:az wB.ps->aI:=(fun _=>{})
theorem BU :
 ∀(a b:Int)(c:List Int)(d:Int×Int×Int×List (List Int)×Int×List (List Int)×List (Int×List Int)×List (Int×Int×List Int)×List (Int×Int×List Int)),(ak a/\ak b/\c.length<=maxLen/\ ∀(e:Int),e∈c->0<=e/\e<=255)/\True/\CT.wf aQ d/\True->True->(! decide (cl (d.2.2.2.2.2.1.length:Int) (d.2.2.2.1.length:Int) c))= ! decide (cl (d.2.2.2.2.2.1.length:Int) (d.2.2.2.1.length:Int) c)/\()=()/\d=d:=by
  intros
  exact⟨rfl,rfl,rfl⟩
theorem AW:aC Try.prog GL 65 wB.spec:=Ct.okH _ Try.func65 (by kernel_rfl) (av aP Ew) ay Bg (aO (by kernel_rfl) BU)
def tV:Ct:=⟨[.val (.sl a9),.fn 65 2,.box 70 (.fnc 69),.box 28 aQ],[.val cI],fun d=>[∀ b∈d.2.2.2.1.2.2.2.1,(b.length:Int)<=6000],fun d=>((dK (fun t => !decide (cd d.2.2.2.1.2.2.2.1 t.2.2)) d.1,()),((),d.2.2.2.1,()))⟩
def zm:az tV.ps->aI:=(fun d=>{loops:=(fun n=>match n with|2=>some (fun S=>{ι:=Int,μ:=fun i=>(d.1.length-i).toNat,inv:=fun i=>0<=i/\i<=d.1.length∧∀ x∈d.1.take i.toNat,(!decide (cd d.2.2.2.1.2.2.2.1 x.2.2))=false,keep:=[0,1,6,7],slots:=fun i=>[(8,.int .i64 i)],keepN:=[1048576,1048577],names:=fun i=>[]})|_=>none)})
def kg(b:Int×Int×Int×List (List Int)×Int×List (List Int)×List (Int×List Int)×List (Int×Int×List Int)×List (Int×Int×List Int)) :=
 b.1=b.1/\b.2.1=b.2.1/\b.2.2.1=b.2.2.1/\b.2.2.2.1=b.2.2.2.1/\b.2.2.2.2.1=b.2.2.2.2.1/\b.2.2.2.2.2.1=b.2.2.2.2.2.1/\b.2.2.2.2.2.2.1=b.2.2.2.2.2.2.1/\b.2.2.2.2.2.2.2.1=b.2.2.2.2.2.2.2.1/\b.2.2.2.2.2.2.2.2=b.2.2.2.2.2.2.2.2/\True
def jf(a:List (Int×Int×List Int)) :=
 a.length<=maxLen/\ ∀(c:Int×Int×List Int),c∈a->ak c.1/\ak c.2.1/\c.2.2.length<=maxLen/\ ∀(d:Int),d∈c.2.2->0<=d/\d<=255
def cP(a:List (Int×Int×List Int)) :=
 (a.length:Int)
theorem CI :
 ∀(a:List (Int×Int×List Int))(b:Int×Int×Int×List (List Int)×Int×List (List Int)×List (Int×List Int)×List (Int×Int×List Int)×List (Int×Int×List Int)),(jf a)/\True/\True/\CT.wf aQ b/\True->(∀(c:List Int),c∈b.2.2.2.1->(c.length:Int)<=6000)->(∃(c:Int),(0<=c/\c<=(cP a)/\ ∀(d:Int×Int×List Int),d∈List.take c.toNat a->(! decide (cd b.2.2.2.1 d.2.2))=false)/\a=a/\a=a/\(cP a)=(cP a)/\(0:Int)=c/\(kg b))/\ ∀(c:Int),(0<=c/\c<=(cP a)/\ ∀(d:Int×Int×List Int),d∈List.take c.toNat a->(! decide (cd b.2.2.2.1 d.2.2))=false)->ah (decide (c<(cP a))) (0<=c/\c<(cP a)/\(∀(d:List Int),d∈b.2.2.2.1->(d.length:Int)<=6000)/\ah (! decide (cd b.2.2.2.1 (a.getD c.toNat default).2.2)) (c=dK (fun (d:Int×Int×List Int)=> ! decide (cd b.2.2.2.1 d.2.2)) a/\()=()/\b=b) (∃(d:Int),(0<=d/\d<=(cP a)/\ ∀(e:Int×Int×List Int),e∈List.take d.toNat a->(! decide (cd b.2.2.2.1 e.2.2))=false)/\Int.toNat
 ((cP a) -d)<Int.toNat ((cP a) -c)/\a=a/\a=a/\(cP a)=(cP a)/\IntKind.wrap .i64 (c+(1:Int))=d/\(kg b))) ((-1:Int)=dK (fun (d:Int×Int×List Int)=> ! decide (cd b.2.2.2.1 d.2.2)) a/\()=()/\b=b):=by
  delta kg jf cP
  rintro x d ⟨⟨hl,-⟩,-⟩ hit
  simp only[maxLen] at hl
  refine⟨⟨0,⟨by omega,by omega,by simp⟩,(by repeat' first|exact trivial|refine⟨trivial,?_⟩|refine⟨(by with_reducible rfl),?_⟩|refine⟨ad (by omega) (by omega),?_⟩|refine⟨rfl,?_⟩)⟩,?_⟩
  rintro j ⟨j0,j1,hj⟩
  refine ar (fun hk=>?_) (fun hk=>?_)
  ·have hk:=of_decide_eq_true hk
   refine⟨j0,hk,hit,ar (fun hm=>?_) (fun hm=>?_)⟩
   ·exact⟨mJ (q:=fun t:af => !decide (cd d.2.2.2.1 t.2.2)) j0 hk hj hm,rfl,rfl⟩
   ·exact⟨j+1,⟨by omega,by omega,nj (P:=fun t:af=>(!decide (cd d.2.2.2.1 t.2.2))=false) j0 hk hj hm⟩,by omega,(by repeat' first|exact trivial|refine⟨trivial,?_⟩|refine⟨(by with_reducible rfl),?_⟩|refine⟨ad (by omega) (by omega),?_⟩|refine⟨rfl,?_⟩)⟩
  ·exact⟨n7 (q:=fun t:af => !decide (cd d.2.2.2.1 t.2.2)) (of_decide_eq_false hk) hj,rfl,rfl⟩
theorem xN:aC Try.prog GL 86 tV.spec:=Ct.okH _ Try.func86 (by kernel_rfl) (av aP CE) ay zm (aO (by kernel_rfl) CI)
def tT:Ct:=⟨[.val (.sl a9),.fn 65 2,.box 70 (.fnc 70),.box 28 aQ],[.val cI],fun _=>[],fun d=>((dK (fun t => !decide (cl d.2.2.2.1.2.2.2.2.2.1.length d.2.2.2.1.2.2.2.1.length t.2.2)) d.1,()),((),d.2.2.2.1,()))⟩
def B9:az tT.ps->aI:=(fun d=>{loops:=(fun n=>match n with|2=>some (fun S=>{ι:=Int,μ:=fun i=>(d.1.length-i).toNat,inv:=fun i=>0<=i/\i<=d.1.length∧∀ x∈d.1.take i.toNat,(!decide (cl d.2.2.2.1.2.2.2.2.2.1.length d.2.2.2.1.2.2.2.1.length x.2.2))=false,keep:=[0,1,6,7],slots:=fun i=>[(8,.int .i64 i)],keepN:=[1048576,1048577],names:=fun i=>[]})|_=>none)})
theorem Ek :
 ∀(a:List (Int×Int×List Int))(b:Int×Int×Int×List (List Int)×Int×List (List Int)×List (Int×List Int)×List (Int×Int×List Int)×List (Int×Int×List Int)),(jf a)/\True/\True/\CT.wf aQ b/\True->True->(∃(c:Int),(0<=c/\c<=(cP a)/\ ∀(d:Int×Int×List Int),d∈List.take c.toNat a->(! decide (cl (b.2.2.2.2.2.1.length:Int) (b.2.2.2.1.length:Int) d.2.2))=false)/\a=a/\a=a/\(cP a)=(cP a)/\(0:Int)=c/\(kg b))/\ ∀(c:Int),(0<=c/\c<=(cP a)/\ ∀(d:Int×Int×List Int),d∈List.take c.toNat a->(! decide (cl (b.2.2.2.2.2.1.length:Int) (b.2.2.2.1.length:Int) d.2.2))=false)->ah (decide (c<(cP a))) (0<=c/\c<(cP a)/\ah (! decide (cl (b.2.2.2.2.2.1.length:Int) (b.2.2.2.1.length:Int) (a.getD c.toNat default).2.2)) (c=dK (fun (d:Int×Int×List Int)=> ! decide (cl (b.2.2.2.2.2.1.length:Int) (b.2.2.2.1.length:Int) d.2.2)) a/\()=()/\b=b) (∃(d:Int),(0<=d/\d<=(cP a)/\ ∀(e:Int×Int×List Int),e∈List.take
 d.toNat a->(! decide (cl (b.2.2.2.2.2.1.length:Int) (b.2.2.2.1.length:Int) e.2.2))=false)/\Int.toNat ((cP a) -d)<Int.toNat ((cP a) -c)/\a=a/\a=a/\(cP a)=(cP a)/\IntKind.wrap .i64 (c+(1:Int))=d/\(kg b))) ((-1:Int)=dK (fun (d:Int×Int×List Int)=> ! decide (cl (b.2.2.2.2.2.1.length:Int) (b.2.2.2.1.length:Int) d.2.2)) a/\()=()/\b=b):=by
  delta kg jf cP
  rintro x d ⟨⟨hl,-⟩,-⟩ -
  simp only[maxLen] at hl
  refine⟨⟨0,⟨by omega,by omega,by simp⟩,(by repeat' first|exact trivial|refine⟨trivial,?_⟩|refine⟨(by with_reducible rfl),?_⟩|refine⟨ad (by omega) (by omega),?_⟩|refine⟨rfl,?_⟩)⟩,?_⟩
  rintro j ⟨j0,j1,hj⟩
  refine ar (fun hk=>?_) (fun hk=>?_)
  ·have hk:=of_decide_eq_true hk
   refine⟨j0,hk,ar (fun hm=>?_) (fun hm=>?_)⟩
   ·exact⟨mJ (q:=fun t:af => !decide (cl d.2.2.2.2.2.1.length d.2.2.2.1.length t.2.2)) j0 hk hj hm,rfl,rfl⟩
   ·exact⟨j+1,⟨by omega,by omega,nj (P:=fun t:af=>(!decide (cl d.2.2.2.2.2.1.length d.2.2.2.1.length t.2.2))=false) j0 hk hj hm⟩,by omega,(by repeat' first|exact trivial|refine⟨trivial,?_⟩|refine⟨(by with_reducible rfl),?_⟩|refine⟨ad (by omega) (by omega),?_⟩|refine⟨rfl,?_⟩)⟩
  ·exact⟨n7 (q:=fun t:af => !decide (cl d.2.2.2.2.2.1.length d.2.2.2.1.length t.2.2)) (of_decide_eq_false hk) hj,rfl,rfl⟩
theorem DC:aC Try.prog GL 86 tT.spec:=Ct.okH _ Try.func86 (by kernel_rfl) (av aP AW) ay B9 (aO (by kernel_rfl) Ek)
def vP:Ct:=⟨[.val (.sl a9),.fn 65 2,.box 70 (.fnc 69),.box 28 aQ],[.val .bool],fun d=>[∀ b∈d.2.2.2.1.2.2.2.1,(b.length:Int)<=6000],fun d=>((d.1.any (fun t => !decide (cd d.2.2.2.1.2.2.2.1 t.2.2)),()),((),d.2.2.2.1,()))⟩
def Ap:az vP.ps->aI:=(fun _=>{})
theorem yJ :
 ∀(a:List (Int×Int×List Int))(b:Int×Int×Int×List (List Int)×Int×List (List Int)×List (Int×List Int)×List (Int×Int×List Int)×List (Int×Int×List Int)),(jf a)/\True/\True/\CT.wf aQ b/\True->(∀(c:List Int),c∈b.2.2.2.1->(c.length:Int)<=6000)->(∀(c:List Int),c∈b.2.2.2.1->(c.length:Int)<=6000)/\(decide (0<=dK (fun (c:Int×Int×List Int)=> ! decide (cd b.2.2.2.1 c.2.2)) a)=List.any a fun (c:Int×Int×List Int)=> ! decide (cd b.2.2.2.1 c.2.2))/\()=()/\b=b:=by
  delta jf
  rintro x d-hit
  exact⟨hit,nY,rfl,rfl⟩
theorem AQ:aC Try.prog GL 68 vP.spec:=Ct.okH _ Try.func68 (by kernel_rfl) (av aP xN) ay Ap (aO (by kernel_rfl) yJ)
def ug:Ct:=⟨[.val (.sl a9),.fn 65 2,.box 70 (.fnc 70),.box 28 aQ],[.val .bool],fun _=>[],fun d=>((d.1.any (fun t => !decide (cl d.2.2.2.1.2.2.2.2.2.1.length d.2.2.2.1.2.2.2.1.length t.2.2)),()),((),d.2.2.2.1,()))⟩
def CH:az ug.ps->aI:=(fun _=>{})
theorem Cf :
 ∀(a:List (Int×Int×List Int))(b:Int×Int×Int×List (List Int)×Int×List (List Int)×List (Int×List Int)×List (Int×Int×List Int)×List (Int×Int×List Int)),(jf a)/\True/\True/\CT.wf aQ b/\True->True->(decide (0<=dK (fun (c:Int×Int×List Int)=> ! decide (cl (b.2.2.2.2.2.1.length:Int) (b.2.2.2.1.length:Int) c.2.2)) a)=List.any a fun (c:Int×Int×List Int)=> ! decide (cl (b.2.2.2.2.2.1.length:Int) (b.2.2.2.1.length:Int) c.2.2))/\()=()/\b=b:=by
  delta jf
  rintro x d - -
  exact⟨nY,rfl,rfl⟩
theorem y0:aC Try.prog GL 68 ug.spec:=Ct.okH _ Try.func68 (by kernel_rfl) (av aP DC) ay CH (aO (by kernel_rfl) Cf)
def uI:Ct:=⟨[.agg aQ],[.val .bool],fun _=>[],fun d=>((decide (dB d.1),()),())⟩
def DU:az uI.ps->aI:=(fun d=>{loops:=(fun n=>match n with|7=>some (fun S=>{ι:=Int,μ:=fun i=>(d.1.2.2.2.2.2.1.length-i).toNat,inv:=fun i=>0<=i/\i<=d.1.2.2.2.2.2.1.length∧∀ k:Nat,k<i.toNat->d.1.2.2.2.2.2.1.getD k default=d.1.2.2.2.1.getD k default,keep:=[1,68,69],slots:=fun i=>[(70,.int .i64 i)],keepN:=[32],names:=fun i=>[]})|_=>none)})
def nw(a:Int×Int×Int×List (List Int)×Int×List (List Int)×List (Int×List Int)×List (Int×Int×List Int)×List (Int×Int×List Int))(o:Bool) :=
 (o->(o->o)/\True)/\(o->(o->o)/\True)=(o->(o->o)/\True)/\o=o/\a.2.2.2.2.2.2.2.2=a.2.2.2.2.2.2.2.2/\(o->(o->o)/\True)=(o->(o->o)/\True)/\o=o/\a.2.2.2.2.2.2.2.2=a.2.2.2.2.2.2.2.2/\ah o ((o->o)/\ah o ((o->o)/\(o->o)/\(bif o then ! List.any a.2.2.2.2.2.2.2.2 fun (p:Int×Int×List Int)=> ! decide (cl (ch a) (a.2.2.2.1.length:Int) p.2.2) else false)=decide (dB a)) (o=false/\(o->false=true)/\(bif o then false else false)=decide (dB a))) (o=false/\o=false/\(o->false=true)/\(bif o then false else false)=decide (dB a))
theorem yW :
 ∀(a:Int×Int×Int×List (List Int)×Int×List (List Int)×List (Int×List Int)×List (Int×Int×List Int)×List (Int×Int×List Int)),CT.wf aQ a/\True->True-> ∀(b:Bool),b=decide (a.1<0)->((! b)->((! b)->(! b))/\True)/\((! b)->((! b)->(! b))/\True)/\(b=false->(! b))/\ ∀(c:Bool),(c=bif b then true else decide (1099511627776<a.1))->(hY c)/\(hY c)/\(c=false->(! c))/\ ∀(d:Bool),(d=bif c then true else decide (a.2.1<0))->(fp d)/\(fp d)/\(d=false->(! d))/\ ∀(e:Bool),(e=bif d then true else decide (1099511627776<a.2.1))->(fC e)/\(fC e)/\(e=false->(! e))/\ ∀(f:Bool),(f=bif e then true else decide (a.2.2.1<1))->(fQ f)/\(fQ f)/\(f=false->(! f))/\ ∀(g:Bool),(g=bif f then true else decide (64<a.2.2.1))->((! g)->((! g)->(! g))/\True)/\((! g)->((! g)->(! g))/\True)/\((! g)->((! g)->(! g))/\True)/\(g=false->(! g))/\ah (bif g then true else decide (1024<(a.2.2.2.1.length:Int))) (false=decide
 (dB a)) (∀(h:Bool),(h=List.any a.2.2.2.1 fun (i:List Int)=>decide (6000<(i.length:Int)))->((! h)->((! h)->(! h))/\True)/\((! h)->((! h)->(! h))/\True)/\(h=false->(! h))/\ ∀(i:Bool),(i=bif h then true else decide (a.2.2.2.2.1<0))->((! i)->((! i)->(! i))/\True)/\((! i)->((! i)->(! i))/\True)/\((! i)->((! i)->(! i))/\True)/\((! i)->((! i)->(! i))/\((! i)->(! i))/\True)/\(i=false->(! i))/\ ∀(j:Bool),(j=bif i then true else decide ((ch a)<a.2.2.2.2.1))->((! j)->((! j)->(! j))/\True)/\((! j)->((! j)->(! j))/\True)/\((! j)->((! j)->(! j))/\True)/\((! j)->((! j)->(! j))/\True)/\((! j)->((! j)->(! j))/\((! j)->(! j))/\True)/\(j=false->(! j))/\ah (bif j then true else decide ((a.2.2.2.1.length:Int)<(ch a))) (false=decide (dB a)) ((∃(k:Int),(0<=k/\k<=(ch a)/\ ∀(l:Nat),l<k.toNat->List.getD a.2.2.2.2.2.1 l default=List.getD a.2.2.2.1 l default)/\a.2.2.2.2.2.1=a.2.2.2.2.2.1/\(ch a)=(ch
 a)/\(0:Int)=k/\(fP a))/\ ∀(k:Int),(0<=k/\k<=(ch a)/\ ∀(l:Nat),l<k.toNat->List.getD a.2.2.2.2.2.1 l default=List.getD a.2.2.2.1 l default)->ah (decide (k<(ch a))) (0<=k/\k<(ch a)/\0<=k/\k<(a.2.2.2.1.length:Int)/\ah (! decide (List.getD a.2.2.2.2.2.1 k.toNat default=List.getD a.2.2.2.1 k.toNat default)) (false=decide (dB a)) (∃(l:Int),(0<=l/\l<=(ch a)/\ ∀(m:Nat),m<l.toNat->List.getD a.2.2.2.2.2.1 m default=List.getD a.2.2.2.1 m default)/\Int.toNat ((ch a) -l)<Int.toNat ((ch a) -k)/\a.2.2.2.2.2.1=a.2.2.2.2.2.1/\(ch a)=(ch a)/\IntKind.wrap .i64 (k+(1:Int))=l/\(fP a))) (0<=a.2.2.2.2.1/\a.2.2.2.2.1<=100000/\0<=a.2.2.1/\a.2.2.1<=100000/\ ∀(l:Bool),l=decide (earP a.2.2.2.2.1 a.2.2.1 (ch a) a.2.2.2.1 a.2.2.2.2.2.2.1)->(l->(l->l)/\True)/\(l->(l->l)/\(l->l)/\0<=a.1/\a.1<=1099511627776/\True)/\(l->l)/\ ∀(m:Bool),(m=bif l then decide (eO a.1 a.2.1 a.2.2.2.2.2.2.2.1) else
 false)->(m->(m->m)/\True)/\(m->(m->m)/\(m->m)/\0<=a.1/\a.1<=1099511627776/\True)/\(m->m)/\ ∀(n:Bool),(n=bif m then decide (eO a.1 a.2.1 a.2.2.2.2.2.2.2.2) else false)->(n->(n->n)/\True)/\(n->(n->n)/\True)=(n->(n->n)/\True)/\n=n/\a.2.2.2.2.2.2.2.1=a.2.2.2.2.2.2.2.1/\(n->(n->n)/\True)=(n->(n->n)/\True)/\n=n/\a.2.2.2.2.2.2.2.1=a.2.2.2.2.2.2.2.1/\ah n ((n->n)/\ah n ((n->n)/\(∀(o:List Int),o∈a.2.2.2.1->(o.length:Int)<=6000)/\(n->n)/\ ∀(o:Bool),(o=bif n then ! List.any a.2.2.2.2.2.2.2.1 fun (p:Int×Int×List Int)=> ! decide (cd a.2.2.2.1 p.2.2) else false)->(nw a o)) (n=false/\(n->false=true)/\ ∀(o:Bool),(o=bif n then false else false)->(nw a o))) (n=false/\n=false/\(n->false=true)/\ ∀(o:Bool),(o=bif n then false else false)->(nw a o))))):=by
  delta fP nw ch fp fQ fC hY
  rintro d ⟨⟨-,-,-,⟨hlg,-⟩,-,⟨hgt,-⟩,-⟩,-⟩ -
  simp only[maxLen] at hlg hgt
  intro b1 e1
  (repeat refine⟨fun h_=>(by first|(simp;done)|(simp[h_];done)|(simp_all;done)),?_⟩)
  intro b2 e2
  (repeat refine⟨fun h_=>(by first|(simp;done)|(simp[h_];done)|(simp_all;done)),?_⟩)
  intro b3 e3
  (repeat refine⟨fun h_=>(by first|(simp;done)|(simp[h_];done)|(simp_all;done)),?_⟩)
  intro b4 e4
  (repeat refine⟨fun h_=>(by first|(simp;done)|(simp[h_];done)|(simp_all;done)),?_⟩)
  intro b5 e5
  (repeat refine⟨fun h_=>(by first|(simp;done)|(simp[h_];done)|(simp_all;done)),?_⟩)
  intro b6 e6
  (repeat refine⟨fun h_=>(by first|(simp;done)|(simp[h_];done)|(simp_all;done)),?_⟩)
  refine ar (fun h=>?_) (fun h=>?_)
  ·rw[e6,e5,e4,e3,e2,e1] at h
   simp only[fA,decide_eq_true_eq] at h
   refine (decide_eq_false fun k=>?_).symm
   unfold dB ab a7 am ae aA aG at k
   obtain⟨⟨k1,k2,k3,k4,k5,k6⟩,-⟩:=k
   omega
  have h:¬ (bif b6 then true else decide ((1024:Int)<(d.2.2.2.1.length:Int)))=true:=by rw[h];simp
  rw[e6,e5,e4,e3,e2,e1] at h
  simp only[fA,decide_eq_true_eq] at h
  intro b7 e7
  (repeat refine⟨fun h_=>(by first|(simp;done)|(simp[h_];done)|(simp_all;done)),?_⟩)
  intro b8 e8
  (repeat refine⟨fun h_=>(by first|(simp;done)|(simp[h_];done)|(simp_all;done)),?_⟩)
  intro b9 e9
  (repeat refine⟨fun h_=>(by first|(simp;done)|(simp[h_];done)|(simp_all;done)),?_⟩)
  refine ar (fun h2=>?_) (fun h2=>?_)
  ·rw[e9,e8,e7] at h2
   simp only[fA,decide_eq_true_eq,List.any_eq_true] at h2
   refine (decide_eq_false fun k=>?_).symm
   unfold dB ab a7 am ae aA aG at k
   obtain⟨⟨k1,k2,k3,k4,k5,k6⟩,k7,-⟩:=k
   rcases h2 with ((⟨b,hb,hb2⟩|h2)|h2)|h2
   ·have:=k7 b hb;omega
   ·omega
   ·omega
   ·omega
  have h2:¬ (bif b9 then true else decide ((d.2.2.2.1.length:Int)<(d.2.2.2.2.2.1.length:Int)))=true:=by rw[h2];simp
  rw[e9,e8,e7] at h2
  simp only[fA,decide_eq_true_eq,List.any_eq_true,not_or,not_exists,not_and] at h2
  obtain⟨⟨⟨hit,h3⟩,h4⟩,h5⟩:=h2
  have hit:∀ b∈d.2.2.2.1,(b.length:Int)<=6000:=fun b hb=>by have:=hit b hb;omega
  refine⟨⟨0,⟨by omega,by omega,fun k hk=>absurd hk (by simp)⟩,(by repeat' first|exact trivial|refine⟨trivial,?_⟩|refine⟨(by with_reducible rfl),?_⟩|refine⟨ad (by omega) (by omega),?_⟩|refine⟨rfl,?_⟩)⟩,?_⟩
  rintro j ⟨j0,j1,hj⟩
  refine ar (fun hk=>?_) (fun hk=>?_)
  ·have hk:=of_decide_eq_true hk
   refine⟨j0,hk,j0,by omega,ar (fun hq=>?_) (fun hq=>?_)⟩
   ·have hq:=jR hq
    refine (decide_eq_false fun k=>hq ?_).symm
    unfold dB ab a7 am ae aA aG at k
    exact k.2.2.1 _ (by omega)
   ·have hq:=jK hq
    refine⟨j+1,⟨by omega,by omega,fun k hk2=>?_⟩,by omega,(by repeat' first|exact trivial|refine⟨trivial,?_⟩|refine⟨(by with_reducible rfl),?_⟩|refine⟨ad (by omega) (by omega),?_⟩|refine⟨rfl,?_⟩)⟩
    by_cases hkj:k<j.toNat
    ·exact hj k hkj
    ·rw[show k=j.toNat by omega];exact hq
  have hk:=of_decide_eq_false hk
  have E:dB d↔(earP d.2.2.2.2.1 d.2.2.1 (d.2.2.2.2.2.1.length:Int) d.2.2.2.1 d.2.2.2.2.2.2.1/\eO d.1 d.2.1 d.2.2.2.2.2.2.2.1/\eO d.1 d.2.1 d.2.2.2.2.2.2.2.2/\(∀ t∈d.2.2.2.2.2.2.2.1,cd d.2.2.2.1 t.2.2)∧∀ t∈d.2.2.2.2.2.2.2.2,cl (d.2.2.2.2.2.1.length:Int) (d.2.2.2.1.length:Int) t.2.2):=by
   unfold dB ab a7 am ae aA aG aF aJ ba
   refine⟨fun k=>⟨k.2.2.2.1,k.2.2.2.2.1,k.2.2.2.2.2.1,k.2.2.2.2.2.2.1,k.2.2.2.2.2.2.2⟩,fun k=>⟨?_,hit,fun i hi=>hj i (by omega),k⟩⟩
   omega
  refine⟨by omega,by omega,by omega,by omega,?_⟩
  intro b1 e1
  (repeat refine⟨fun h_=>(by first|exact⟨fun _=>h_,fun _=>h_,by omega,by omega,trivial⟩|(simp;done)|(simp[h_];done)|(simp_all;done)),?_⟩)
  intro b2 e2
  (repeat refine⟨fun h_=>(by first|exact⟨fun _=>h_,fun _=>h_,by omega,by omega,trivial⟩|(simp;done)|(simp[h_];done)|(simp_all;done)),?_⟩)
  intro b3 e3
  cases b3 with
  | false =>
   have hn:decide (dB d)=false:=decide_eq_false fun k=>by
    obtain⟨k1,k2,k3,-⟩:=E.1 k
    rw[e2,e1,decide_eq_true k1,decide_eq_true k2,decide_eq_true k3] at e3
    cases e3
   simp[ah,hn]
  | true =>
   have e3:=e3.symm
   rw[e2,e1] at e3
   simp only[v6,decide_eq_true_eq] at e3
   obtain⟨⟨k1,k2⟩,k3⟩:=e3
   simp only[ah]
   (repeat refine⟨by simp,?_⟩)
   refine⟨hit,by simp,?_⟩
   intro b4 e4
   cases b4 with
   | false =>
    have hn:decide (dB d)=false:=decide_eq_false fun k=>by
     have k4:=(E.1 k).2.2.2.1
     have:(!d.2.2.2.2.2.2.2.1.any fun t => !decide (cd d.2.2.2.1 t.2.2))=true:=by
      rw[List.not_any_eq_all_not,List.all_eq_true]
      intro t ht
      rw[Bool.not_not]
      exact decide_eq_true (k4 t ht)
     rw[this] at e4
     cases e4
    simp[ah,hn]
   | true =>
    have e4:(!d.2.2.2.2.2.2.2.1.any fun t => !decide (cd d.2.2.2.1 t.2.2))=true:=e4.symm
    rw[List.not_any_eq_all_not,List.all_eq_true] at e4
    simp only[ah]
    (repeat refine⟨by simp,?_⟩)
    show (!d.2.2.2.2.2.2.2.2.any fun t => !decide (cl (d.2.2.2.2.2.1.length:Int) (d.2.2.2.1.length:Int) t.2.2))=_
    rw[List.not_any_eq_all_not]
    apply Bool.eq_iff_iff.2
    rw[List.all_eq_true,decide_eq_true_eq,E]
    constructor
    ·intro h6
     exact⟨k1,k2,k3,fun t ht=>by have:=e4 t ht;rw[Bool.not_not] at this;exact of_decide_eq_true this,fun t ht=>by have:=h6 t ht;rw[Bool.not_not] at this;exact of_decide_eq_true this⟩
    ·rintro⟨-,-,-,-,h6⟩ t ht
     rw[Bool.not_not]
     exact decide_eq_true (h6 t ht)
theorem AB:aC Try.prog GL 40 uI.spec:=Ct.okH _ Try.func40 (by kernel_rfl) (rU (av (rU (av (av (av (av (av aP Cm) qA) EO) BN) Au) x8) AQ) y0) ay DU (aO (by kernel_rfl) yW)
def tJ:Ct:=⟨[.agg aQ],[.val cI],fun _=>[],fun d=>((i6 d.1,()),())⟩
def Aa:az tJ.ps->aI:=(fun _=>{})
theorem B2 :
 ∀(a:Int×Int×Int×List (List Int)×Int×List (List Int)×List (Int×List Int)×List (Int×Int×List Int)×List (Int×Int×List Int)),CT.wf aQ a/\True->True->ah (! decide (dB a)) ((7:Int)=i6 a) ((0:Int)=i6 a):=by
  rintro d - -
  unfold i6
  refine ar (fun h=>?_) (fun h=>?_)
  ·rw[if_neg (jR h)]
  ·rw[if_pos (jK h)]
theorem Bk:aC Try.prog GL 23 tJ.spec:=Ct.okH _ Try.func23 (by kernel_rfl) (av aP AB) ay Aa (aO (by kernel_rfl) B2)
end Go.RS

/- Xck2: the document's check of a channel. -/
namespace Go.RS
open Go.SX Go.Proofs
set_option maxRecDepth 100000
set_option linter.unusedVariables false
end Go.RS

/- Xch4: a channel that items and ticks lead to passes the check. -/
namespace Go.RS
open Go.SX Go.Proofs
set_option maxRecDepth 100000
set_option linter.unusedVariables false
theorem jx{α:Type} [Inhabited α] {l:List α} {i:Nat} (h:i<l.length):l.getD i default=l[i]:=by rw[List.getD_eq_getElem?_getD,List.getElem?_eq_getElem h];rfl
theorem cH.und{now ord:Int}{l:List af}(h:cH now ord l):eO now ord l:=by
 refine⟨h.n,fun i hi=>⟨?_,fun h0=>?_⟩⟩
 ·rw[jx hi];exact h.r _ (List.getElem_mem hi)
 ·rw[jx hi,jx (show i-1<l.length by omega)]
  exact List.pairwise_iff_getElem.1 h.s (i-1) i (by omega) hi (by omega)
theorem lP.earP{log:List (List Int)}{kn win:Int}{g:Int}{l:List aw}(h:lP log (kn+win) g l):earP kn win g log l:=by
 intro i hi
 unfold ij
 rw[jx hi]
 obtain⟨⟨h1,h2⟩,h3,h4⟩:=h.r _ (List.getElem_mem hi)
 refine⟨?_,h2,h3,h4⟩
 split
 ·exact h1
 ·rw[jx (show i-1<l.length by omega)]
  exact List.pairwise_iff_getElem.1 h.s (i-1) i (by omega) hi (by omega)
theorem hX.dat{log:List (List Int)}{t:af}(h:hX log t)(hl:log.length<=1024):cd log t.2.2:=by
 obtain⟨i,⟨h0,h1⟩,h2⟩:=h
 have e:aH t.2.2 1=i:=by rw[h2];exact rF ⟨h0,by omega⟩ _
 refine⟨?_,by omega,?_⟩
 ·rw[h2,nZ];omega
 ·rw[e];exact h2
theorem vQ:∀{es:List Int}{i:Nat},i<es.length->(∀ e∈es,u16 e)->(dD es).getD (2*i) 0*256+(dD es).getD (2*i+1) 0=es.getD i default
 | [],i,h,_=>by simp at h
 | e::r,0,_,hu=>by
  have h0:=hu e List.mem_cons_self
  unfold u16 at h0
  rw[dD,fJ]
  show e/256%256*256+e%256=e
  omega
 | e::r,i+1,h,hu=>by
  have ih:=vQ (es:=r) (i:=i) (by simpa using h) fun x hx=>hu x (List.mem_cons_of_mem _ hx)
  rw[dD,fJ,show 2*(i+1)=2*i+1+1 by omega,show 2*i+1+1+1=(2*i+1)+1+1 by omega]
  simp only[List.cons_append,List.nil_append,List.getD_cons_succ]
  exact ih
theorem tb{g:Int}{es:List Int}{i:Nat}(h:i<es.length)(hu:∀ e∈es,u16 e):aH (bq g es) ((3+2*i:Nat):Int)=es.getD i default:=by
 rw[qc (by rw[kV];omega),← List.drop_drop,qU,← vQ h hu]
 simp only[List.getD_eq_getElem?_getD,List.getElem?_drop,Nat.add_zero]
theorem fc.ack{log:List (List Int)}{s:List (List Int)×List aw}{t:af}(h:fc log s t)(hl:log.length<=1024)(hn:s.1.length<=log.length):cl s.1.length log.length t.2.2:=by
 obtain⟨g,es,h1,⟨g0,g1⟩,hs,he⟩:=h
 have hu:∀ e∈es,u16 e:=fun e hh=>by have:=(he e hh).1;exact⟨by omega,by omega⟩
 have e1:aH t.2.2 1=g:=by rw[h1];exact od ⟨g0,by omega⟩ _
 have el:t.2.2.length=3+2*es.length:=by rw[h1,kV]
 refine⟨by omega,by omega,by rw[h1];rfl,by omega,fun i hi=>?_⟩
 have hi:i<es.length:=by omega
 have e2:aH t.2.2 ((3+2*i:Nat):Int)=es.getD i default:=by rw[h1];exact tb hi hu
 have h2:=he _ (List.getElem_mem hi)
 unfold gY
 rw[e2,jx hi]
 refine⟨?_,h2.1.2⟩
 cases i with
 | zero=>rw[show ((1+2*0:Nat):Int)=1 from rfl,e1];exact h2.1.1
 | succ i =>
  have e3:aH t.2.2 ((1+2*(i+1):Nat):Int)=es.getD i default:=by
   rw[show 1+2*(i+1)=3+2*i by omega,h1];exact tb (by omega) hu
  rw[e3,jx (show i<es.length by omega)]
  exact List.pairwise_iff_getElem.1 hs i (i+1) (by omega) hi (by omega)
theorem XR.chk{c:ai}(h:XR c)(hn:ab c<=1000000000):i6 c=0:=by
 obtain⟨h,ho⟩:=h
 have hg:aG c=(ae c).take (aG c).length:=h.rc.g
 have hl:(aG c).length<=(ae c).length:=h.rc.n
 have hk:=h.kn
 unfold i6
 refine if_pos (C4.2 ⟨⟨h.now,by omega⟩,⟨h.ord,by omega⟩,h.win,h.log,hk,hl,h.it,fun i hi=>?_,h.rc.e.earP,h.dn.und,h.up.und,fun t ht=>(h.dd t ht).dat h.log,fun t ht=>(h.ud t ht).ack h.log hl⟩)
 conv=>lhs;rw[hg]
 rw[List.getD_eq_getElem?_getD,List.getElem?_take,if_pos hi,List.getD_eq_getElem?_getD]
end Go.RS

/- Lawx4: each channel that a script leads to. -/
namespace Go.RS
open Go.SX Go.Proofs
set_option maxRecDepth 100000
set_option linter.unusedVariables false
def w6:Ct:=me [(false,.sl aT),(false,.sl aT),(false,cI),(false,cI)]
def An:az w6.ps->aI:=(fun d=>{loops:=(fun n=>match n with|11=>some (fun S=>{ι:=Int×(List Int×Int)×ai,qn:=⟨fun k_=>∀(k:Int)(c:(List Int×Int))(b:ai),k_ (k,c,b),fun k_ h_ i=>h_ i.1 i.2.1 i.2.2,fun k_=>∃ (k:Int) (c:(List Int×Int)) (b:ai),k_ (k,c,b),fun k_ ⟨k,c,b,h_⟩=>⟨_,h_⟩⟩,μ:=fun i=>(30-i.1).toNat,inv:=fun i=>0<=i.1/\i.1<=30/\aE i.2.1/\XR i.2.2/\ab i.2.2<=10*i.1/\(ae i.2.2).length<=i.1,keep:=[1,3,9,10,12],slots:=fun i=>[(14,.int .i64 i.1)],names:=fun i=>[(560,.live (.cells 58 (bo fN i.2.1))),(176,.live (.cells 28 (bo aQ i.2.2))),(208,.live (.cells 28 (bo aQ i.2.2)))]})|_=>none),cuts:=(fun n=>match n with|23=>some (fun S=>{ι:=(List Int×Int)×(List Int),qn:=⟨fun k_=>∀(c:(List Int×Int))(it:(List Int)),k_ (c,it),fun k_ h_ i=>h_ i.1 i.2,fun k_=>∃ (c:(List Int×Int)) (it:(List Int)),k_ (c,it),fun k_ ⟨c,it,h_⟩=>⟨_,h_⟩⟩,inv:=fun i=>aE i.1,keep:=[1,3,9,10,12,14,15,16],slots:=fun i=>[(19,.dsl aT i.2)],keepN:=[176,208,256,272],names:=fun i=>[(560,.live (.cells 58 (bo fN i.1)))]})|29=>some (fun S=>{ι:=(List Int×Int)×Int,qn:=⟨fun k_=>∀(c:(List Int×Int))(n:Int),k_ (c,n),fun k_ h_ i=>h_ i.1 i.2,fun k_=>∃ (c:(List Int×Int)) (n:Int),k_ (c,n),fun k_ ⟨c,n,h_⟩=>⟨_,h_⟩⟩,inv:=fun i=>aE i.1/\i.2<=10,keep:=[1,3,9,10,12,14,15,16],slots:=fun i=>[(20,.int .i64 i.2)],keepN:=[176,208,256,272],names:=fun i=>[(560,.live (.cells 58 (bo fN i.1)))]})|31=>some (fun S=>{ι:=(List Int×Int)×ai×Int,qn:=⟨fun k_=>∀(c:(List Int×Int))(u:ai)(g:Int),k_ (c,u,g),fun k_ h_ i=>h_ i.1 i.2.1 i.2.2,fun k_=>∃ (c:(List Int×Int)) (u:ai) (g:Int),k_ (c,u,g),fun k_ ⟨c,u,g,h_⟩=>⟨_,h_⟩⟩,inv:=fun i=>aE i.1/\(i.2.2=0->XR i.2.1/\ab i.2.1<=10*S.i 14+10/\(ae i.2.1).length<=S.i 14+1),keep:=[1,3,9,10,12,14,15,16],slots:=fun i=>[(17,.int .i64 i.2.2),(18,.int .i64 i.2.2)],keepN:=[176,208],names:=fun i=>[(560,.live (.cells 58 (bo fN i.1))),(256,.live (.cells 28 (bo aQ i.2.1))),(272,.live (.cells 28 (bo aQ i.2.1)))]})|_=>none)})
def lY(D:List Int)(E:Int)(F:List Int×Int)(v:ai) :=
 v.1=v.1/\v.2.1=v.2.1/\v.2.2.1=v.2.2.1/\v.2.2.2.1=v.2.2.2.1/\v.2.2.2.2.1=v.2.2.2.2.1/\v.2.2.2.2.2.1=v.2.2.2.2.2.1/\v.2.2.2.2.2.2.1=v.2.2.2.2.2.2.1/\v.2.2.2.2.2.2.2.1=v.2.2.2.2.2.2.2.1/\v.2.2.2.2.2.2.2.2=v.2.2.2.2.2.2.2.2/\v.1=v.1/\v.2.1=v.2.1/\v.2.2.1=v.2.2.1/\v.2.2.2.1=v.2.2.2.1/\v.2.2.2.2.1=v.2.2.2.2.1/\v.2.2.2.2.2.1=v.2.2.2.2.2.1/\v.2.2.2.2.2.2.1=v.2.2.2.2.2.2.1/\v.2.2.2.2.2.2.2.1=v.2.2.2.2.2.2.2.1/\v.2.2.2.2.2.2.2.2=v.2.2.2.2.2.2.2.2/\v.1=v.1/\v.2.1=v.2.1/\v.2.2.1=v.2.2.1/\v.2.2.2.1=v.2.2.2.1/\v.2.2.2.2.1=v.2.2.2.2.1/\v.2.2.2.2.2.1=v.2.2.2.2.2.1/\v.2.2.2.2.2.2.1=v.2.2.2.2.2.2.1/\v.2.2.2.2.2.2.2.1=v.2.2.2.2.2.2.2.1/\v.2.2.2.2.2.2.2.2=v.2.2.2.2.2.2.2.2/\v.1=v.1/\v.2.1=v.2.1/\v.2.2.1=v.2.2.1/\v.2.2.2.1=v.2.2.2.1/\v.2.2.2.2.1=v.2.2.2.2.1/\v.2.2.2.2.2.1=v.2.2.2.2.2.1/\v.2.2.2.2.2.2.1=v.2.2.2.2.2.2.1/\v.2.2.2.2.2.2.2.1=v.2.2.2.2.2.2.2.1/\v.2.2.2.2.2.2.2.2=v.2.2.2.2.2.2.2.2/\D=F.1/\E=F.2/\True
def qr(C:List Int×Int)(E:Int×Int×Int×List (List Int)×Int×List (List Int)×List (Int×List Int)×List (Int×Int×List Int)×List (Int×Int×List Int))(F:Int)(G:Int×Int×Int×List (List Int)×Int×List (List Int)×List (Int×List Int)×List (Int×Int×List Int)×List (Int×Int×List Int))(H:Int)(b:List Int)(d t:Int)(v:ai) :=
 ∃(I:List Int×Int) (J:ai),∃(K:Int),(aE I/\(K=0->XR J/\ab J<=10*t+(10:Int)/\((List.length (ae
 J)):Int)<=t+(1:Int)))/\b=b/\d=d/\t=t/\F=K/\H=K/\v.1=v.1/\v.2.1=v.2.1/\v.2.2.1=v.2.2.1/\v.2.2.2.1=v.2.2.2.1/\v.2.2.2.2.1=v.2.2.2.2.1/\v.2.2.2.2.2.1=v.2.2.2.2.2.1/\v.2.2.2.2.2.2.1=v.2.2.2.2.2.2.1/\v.2.2.2.2.2.2.2.1=v.2.2.2.2.2.2.2.1/\v.2.2.2.2.2.2.2.2=v.2.2.2.2.2.2.2.2/\v.1=v.1/\v.2.1=v.2.1/\v.2.2.1=v.2.2.1/\v.2.2.2.1=v.2.2.2.1/\v.2.2.2.2.1=v.2.2.2.2.1/\v.2.2.2.2.2.1=v.2.2.2.2.2.1/\v.2.2.2.2.2.2.1=v.2.2.2.2.2.2.1/\v.2.2.2.2.2.2.2.1=v.2.2.2.2.2.2.2.1/\v.2.2.2.2.2.2.2.2=v.2.2.2.2.2.2.2.2/\C.1=I.1/\C.2=I.2/\E.1=J.1/\E.2.1=J.2.1/\E.2.2.1=J.2.2.1/\E.2.2.2.1=J.2.2.2.1/\E.2.2.2.2.1=J.2.2.2.2.1/\E.2.2.2.2.2.1=J.2.2.2.2.2.1/\E.2.2.2.2.2.2.1=J.2.2.2.2.2.2.1/\E.2.2.2.2.2.2.2.1=J.2.2.2.2.2.2.2.1/\E.2.2.2.2.2.2.2.2=J.2.2.2.2.2.2.2.2/\G.1=J.1/\G.2.1=J.2.1/\G.2.2.1=J.2.2.1/\G.2.2.2.1=J.2.2.2.1/\G.2.2.2.2.1=J.2.2.2.2.1/\G.2.2.2.2.2.1=J.2.2.2.2.2.1/\G.2.2.2.2.2.2.1=J.2.2.2.2.2.2.1/\G.2.2.2.2.2.2.2.1=J.2.2.2.2.2.2.2.1/\G.2.2.2.2.2.2.2.2=J.2.2.2.2.2.2.2.2/\True
def nk(m:Bool) :=
 (! m)->((! m)->(! m))/\((! m)->(! m))/\True
theorem DY :
 ∀(a b:List Int)(c d:Int),(a.length<=maxLen/\ ∀(e:Int),e∈a->0<=e/\e<=255)/\(b.length<=maxLen/\ ∀(e:Int),e∈b->0<=e/\e<=255)/\ak c/\ak d/\True->True-> ∀(e:Bool),e= ! true->((! e)->((! e)->(! e))/\True)/\((! e)->((! e)->(! e))/\True)/\(e=false->(! e))/\ah (bif e then true else decide (6100<(b.length:Int))) (decide (6100<(b.length:Int))=true) ((0:Int)<=600/\ ∀(f:List Int)(g:Int),(f,g)=(if (a.length:Int)<=600 then a else List.take (Int.toNat (600:Int)) a,(0:Int))-> ∀(h:Int×Int×Int×List (List Int)×Int×List (List Int)×List (Int×List Int)×List (Int×Int×List Int)×List (Int×Int×List Int))(i:Int),h=fm c/\i=dk c-> ∀(j:Int×Int×Int×List (List Int)×Int×List (List Int)×List (Int×List Int)×List (Int×Int×List Int)×List (Int×Int×List Int))(k:Int),j=fm c/\k=dk c-> ∀(l:Bool),l= ! decide (i=k)->((! l)->((! l)->(! l))/\((! l)->(! l))/\True)/\((! l)->((! l)->(! l))/\True)/\(l=false->(! l))/\
 ∀(m:Bool),(m=bif l then true else ! gU h j)->(nk m)/\(nk m)/\(nk m)/\(m=false->(! m))/\ ∀(n:Bool),(n=bif m then true else ! decide (fl d c=fl d c))->((! n)->((! n)->(! n))/\((! n)->(! n))/\True)/\(n=false->(! n))/\ah (bif n then true else ! decide (fl (7:Int) (2:Int)=fl (7:Int) (2:Int))) (false=true) (aE (f,g)/\ ∀(o:Int)(p:List Int)(q:Int),0<=o/\(o<6∨o=0)/\aE (p,q)-> ∀(r:Int×Int×Int×List (List Int)×Int×List (List Int)×List (Int×List Int)×List (Int×Int×List Int)×List (Int×Int×List Int))(s:Int),r=fm (IntKind.wrap .i64 ((1:Int)+o))/\s=dk (IntKind.wrap .i64 ((1:Int)+o))->(∃(t:Int) (u:List Int×Int),∃(v:ai),(0<=t/\t<=30/\aE u/\XR v/\ab v<=10*t/\((List.length (ae
 v)):Int)<=t)/\b=b/\d=d/\(0:Int)=t/\p=u.1/\q=u.2/\r.1=v.1/\r.2.1=v.2.1/\r.2.2.1=v.2.2.1/\r.2.2.2.1=v.2.2.2.1/\r.2.2.2.2.1=v.2.2.2.2.1/\r.2.2.2.2.2.1=v.2.2.2.2.2.1/\r.2.2.2.2.2.2.1=v.2.2.2.2.2.2.1/\r.2.2.2.2.2.2.2.1=v.2.2.2.2.2.2.2.1/\r.2.2.2.2.2.2.2.2=v.2.2.2.2.2.2.2.2/\r.1=v.1/\r.2.1=v.2.1/\r.2.2.1=v.2.2.1/\r.2.2.2.1=v.2.2.2.1/\r.2.2.2.2.1=v.2.2.2.2.1/\r.2.2.2.2.2.1=v.2.2.2.2.2.1/\r.2.2.2.2.2.2.1=v.2.2.2.2.2.2.1/\r.2.2.2.2.2.2.2.1=v.2.2.2.2.2.2.2.1/\r.2.2.2.2.2.2.2.2=v.2.2.2.2.2.2.2.2/\True)/\ ∀(t:Int)(u:List Int×Int)(v:ai),0<=t/\t<=30/\aE u/\XR v/\ab v<=10*t/\((List.length (ae v)):Int)<=t->ah (decide (t<30)) ((aE u/\ ∀(w:Int)(x:List Int)(y:Int),0<=w/\(w<5∨w=0)/\aE (x,y)->ah (decide (w=0)) (aE (x,y)/\(0:Int)<=5/\(5:Int)<=1000/\ ∀(z A:List Int)(B:Int),aE (A,B)/\(z.length:Int)<=5->(aE (A,B)/\ ∀(C:Int)(D:List Int)(E:Int),0<=C/\(C<20∨C=0)/\aE (D,E)->ah (decide (C=19))
 (∃(F:List Int×Int) (G:List Int),aE F/\b=b/\d=d/\t=t/\b=G/\(lY D E F v)) (∃(F:List Int×Int) (G:List Int),aE F/\b=b/\d=d/\t=t/\z=G/\(lY D E F v)))/\ ∀(C:List Int×Int)(D:List Int),aE C->XR v/\ ∀(E:Int×Int×Int×List (List Int)×Int×List (List Int)×List (Int×List Int)×List (Int×Int×List Int)×List (Int×Int×List Int))(F:Int),E=eX v D/\F=c8 v D-> ∀(G:Int×Int×Int×List (List Int)×Int×List (List Int)×List (Int×List Int)×List (Int×Int×List Int)×List (Int×Int×List Int))(H:Int),G=eX v D/\H=c8 v D-> (qr C E F G H b d t v)) (ah (decide (w=1)) (aE (x,y)/\ ∀(z:Int)(A:List Int)(B:Int),0<=z/\(z<4∨z=0)/\aE (A,B)->(aE (A,B)/\ ∀(C:Int)(D:List Int)(E:Int),0<=C/\(C<20∨C=0)/\aE (D,E)->ah (decide (C=19)) (∃(F:List Int×Int) (G:Int),(aE F/\G<=10)/\b=b/\d=d/\t=t/\min d (10:Int)=G/\(lY D E F v)) (∃(F:List Int×Int) (G:Int),(aE F/\G<=10)/\b=b/\d=d/\t=t/\z=G/\(lY D E F v)))/\
 ∀(C:List Int×Int)(D:Int),aE C/\D<=10->XR v/\ ∀(E:Int×Int×Int×List (List Int)×Int×List (List Int)×List (Int×List Int)×List (Int×Int×List Int)×List (Int×Int×List Int))(F:Int),E=dF v D/\F=ct v D->XR v/\ ∀(G:Int×Int×Int×List (List Int)×Int×List (List Int)×List (Int×List Int)×List (Int×Int×List Int)×List (Int×Int×List Int))(H:Int),G=dF v D/\H=ct v D-> (qr C E F G H b d t v)) (aE (x,y)/\(0:Int)<=5/\(5:Int)<=1000/\ ∀(z:List (Bool×Int×Int))(A:List Int)(B:Int),(aE (A,B)/\(z.length:Int)<=5/\ ∀(C:Bool×Int×Int),C∈z->0<=C.2.2/\C.2.2<=1)->aE (A,B)/\(0:Int)<=2/\(2:Int)<=1000/\ ∀(C:List (Bool×Int×Int))(D:List Int)(E:Int),(aE (D,E)/\(C.length:Int)<=2/\ ∀(F:Bool×Int×Int),F∈C->0<=F.2.2/\F.2.2<=1)->XR v/\ ∀(F:Int×Int×Int×List (List Int)×Int×List (List Int)×List (Int×List Int)×List (Int×Int×List Int)×List (Int×Int×List Int))(G:Int),F=dh v z C/\G=ci v z C->XR
 v/\(z.length:Int)<=1000000/\(C.length:Int)<=1000000/\ ∀(H:Int×Int×Int×List (List Int)×Int×List (List Int)×List (Int×List Int)×List (Int×Int×List Int)×List (Int×Int×List Int))(I:Int),H=dh v z C/\I=ci v z C-> ∃(J:List Int×Int) (K:ai),∃(L:Int),(aE J/\(L=0->XR K/\ab K<=10*t+(10:Int)/\((List.length (ae
 K)):Int)<=t+(1:Int)))/\b=b/\d=d/\t=t/\G=L/\I=L/\v.1=v.1/\v.2.1=v.2.1/\v.2.2.1=v.2.2.1/\v.2.2.2.1=v.2.2.2.1/\v.2.2.2.2.1=v.2.2.2.2.1/\v.2.2.2.2.2.1=v.2.2.2.2.2.1/\v.2.2.2.2.2.2.1=v.2.2.2.2.2.2.1/\v.2.2.2.2.2.2.2.1=v.2.2.2.2.2.2.2.1/\v.2.2.2.2.2.2.2.2=v.2.2.2.2.2.2.2.2/\v.1=v.1/\v.2.1=v.2.1/\v.2.2.1=v.2.2.1/\v.2.2.2.1=v.2.2.2.1/\v.2.2.2.2.1=v.2.2.2.2.1/\v.2.2.2.2.2.1=v.2.2.2.2.2.1/\v.2.2.2.2.2.2.1=v.2.2.2.2.2.2.1/\v.2.2.2.2.2.2.2.1=v.2.2.2.2.2.2.2.1/\v.2.2.2.2.2.2.2.2=v.2.2.2.2.2.2.2.2/\D=J.1/\E=J.2/\F.1=K.1/\F.2.1=K.2.1/\F.2.2.1=K.2.2.1/\F.2.2.2.1=K.2.2.2.1/\F.2.2.2.2.1=K.2.2.2.2.1/\F.2.2.2.2.2.1=K.2.2.2.2.2.1/\F.2.2.2.2.2.2.1=K.2.2.2.2.2.2.1/\F.2.2.2.2.2.2.2.1=K.2.2.2.2.2.2.2.1/\F.2.2.2.2.2.2.2.2=K.2.2.2.2.2.2.2.2/\H.1=K.1/\H.2.1=K.2.1/\H.2.2.1=K.2.2.1/\H.2.2.2.1=K.2.2.2.1/\H.2.2.2.2.1=K.2.2.2.2.1/\H.2.2.2.2.2.1=K.2.2.2.2.2.1/\H.2.2.2.2.2.2.1=K.2.2.2.2.2.2.1/\H.2.2.2.2.2.2.2.1=K.2.2.2.2.2.2.2.1/\H.2.2.2.2.2.2.2.2=K.2.2.2.2.2.2.2.2/\True)))/\
 ∀(w:List Int×Int)(x:ai)(y:Int),aE w/\(y=0->XR x/\ab x<=10*t+(10:Int)/\((List.length (ae x)):Int)<=t+(1:Int))-> ∀(z:Bool),z= ! decide (y=y)->((! z)->((! z)->(! z))/\((! z)->(! z))/\True)/\((! z)->((! z)->(! z))/\True)/\(z=false->(! z))/\ah (bif z then true else ! gU x x) (false=true) (ah (decide (y=0)) (∀(A:Bool),A= ! decide (i6 x=0)->((! A)->((! A)->(! A))/\True)/\((! A)->((! A)->(! A))/\True)/\((! A)->((! A)->(! A))/\((! A)->(! A))/\True)/\(A=false->(! A))/\ah (bif A then true else ! fL x==fL x) (false=true) (∃(B:Int) (C:List Int×Int),∃(D:ai),(0<=B/\B<=30/\aE C/\XR D/\ab D<=10*B/\((List.length (ae D)):Int)<=B)/\Int.toNat ((30:Int) -B)<Int.toNat ((30:Int) -t)/\b=b/\d=d/\IntKind.wrap .i64
 (t+(1:Int))=B/\w.1=C.1/\w.2=C.2/\x.1=D.1/\x.2.1=D.2.1/\x.2.2.1=D.2.2.1/\x.2.2.2.1=D.2.2.2.1/\x.2.2.2.2.1=D.2.2.2.2.1/\x.2.2.2.2.2.1=D.2.2.2.2.2.1/\x.2.2.2.2.2.2.1=D.2.2.2.2.2.2.1/\x.2.2.2.2.2.2.2.1=D.2.2.2.2.2.2.2.1/\x.2.2.2.2.2.2.2.2=D.2.2.2.2.2.2.2.2/\x.1=D.1/\x.2.1=D.2.1/\x.2.2.1=D.2.2.1/\x.2.2.2.1=D.2.2.2.1/\x.2.2.2.2.1=D.2.2.2.2.1/\x.2.2.2.2.2.1=D.2.2.2.2.2.1/\x.2.2.2.2.2.2.1=D.2.2.2.2.2.2.1/\x.2.2.2.2.2.2.2.1=D.2.2.2.2.2.2.2.1/\x.2.2.2.2.2.2.2.2=D.2.2.2.2.2.2.2.2/\True)) (∀(A:Bool),A= ! decide (i6 v=0)->((! A)->((! A)->(! A))/\True)/\((! A)->((! A)->(! A))/\True)/\((! A)->((! A)->(! A))/\((! A)->(! A))/\True)/\(A=false->(! A))/\ah (bif A then true else ! fL v==fL v) (false=true) (∃(B:Int) (C:List Int×Int),∃(D:ai),(0<=B/\B<=30/\aE C/\XR D/\ab D<=10*B/\((List.length (ae D)):Int)<=B)/\Int.toNat ((30:Int) -B)<Int.toNat ((30:Int) -t)/\b=b/\d=d/\IntKind.wrap .i64
 (t+(1:Int))=B/\w.1=C.1/\w.2=C.2/\v.1=D.1/\v.2.1=D.2.1/\v.2.2.1=D.2.2.1/\v.2.2.2.1=D.2.2.2.1/\v.2.2.2.2.1=D.2.2.2.2.1/\v.2.2.2.2.2.1=D.2.2.2.2.2.1/\v.2.2.2.2.2.2.1=D.2.2.2.2.2.2.1/\v.2.2.2.2.2.2.2.1=D.2.2.2.2.2.2.2.1/\v.2.2.2.2.2.2.2.2=D.2.2.2.2.2.2.2.2/\v.1=D.1/\v.2.1=D.2.1/\v.2.2.1=D.2.2.1/\v.2.2.2.1=D.2.2.2.1/\v.2.2.2.2.1=D.2.2.2.2.1/\v.2.2.2.2.2.1=D.2.2.2.2.2.1/\v.2.2.2.2.2.2.1=D.2.2.2.2.2.2.1/\v.2.2.2.2.2.2.2.1=D.2.2.2.2.2.2.2.1/\v.2.2.2.2.2.2.2.2=D.2.2.2.2.2.2.2.2/\True)))) (true=true))):=by
  delta lY qr nk
  rintro l it w tk - -
  have hs:∀ c,gU c c=true:=fun c=>oV.2 rfl
  (repeat (intro (b_:Bool) (hb_:b_=_);(repeat refine⟨(by first|(simp;done)|(rw[hb_];simp;done)|(rw[hb_];simp;omega)|(rw[hb_];simp;intros;omega)|(rw[hb_];simp +contextual;done)),?_⟩);subst hb_))
  refine ar (fun h=>h) (fun h=>?_)
  refine⟨by omega,?_⟩
  rintro l2 p2 hl
  have hc:aE (l2,p2):=by
   rw[hl];exact⟨Int.le_refl _,by simp⟩
  rintro d e ⟨rfl,rfl⟩ d1 e1 ⟨rfl,rfl⟩
  (repeat (intro (b_:Bool) (hb_:b_=_);(repeat refine⟨(by first|(simp;done)|(rw[hb_];simp;done)|(rw[hb_];simp;omega)|(rw[hb_];simp;intros;omega)|(rw[hb_];simp +contextual;done)),?_⟩);subst hb_))
  refine ar (fun h=>absurd h (by simp[hs])) (fun _=>⟨hc,?_⟩)
  rintro a l3 p3 ⟨a0,a1,hc3⟩
  rw[ad (n:=1+a) (by omega) (by omega)]
  rintro c e ⟨hcc,-⟩
  have hw:dk (1+a)=0:=if_neg (by omega)
  have hcc:c=fU (1+a):=by rw[hcc];exact if_pos hw
  subst hcc
  refine⟨⟨0,(l3,p3),fU (1+a),⟨by omega,by omega,hc3,XR.new (by omega) (by omega),Int.le_refl _,Int.le_refl _⟩,(by repeat' first|exact trivial|refine⟨trivial,?_⟩|refine⟨(by with_reducible rfl),?_⟩|refine⟨ad (by omega) (by omega),?_⟩|refine⟨rfl,?_⟩)⟩,?_⟩
  rintro k c b ⟨k0,k1,hc,hx,hn,hlg⟩
  refine ar (fun h=>?_) (fun h=>rfl)
  have h:=of_decide_eq_true h
  refine⟨⟨hc,?_⟩,?_⟩
  ·rintro x l4 p4 ⟨-,-,hc4⟩
   refine ar (fun _=>⟨hc4,by omega,by omega,?_⟩) (fun _=>ar (fun _=>⟨hc4,?_⟩) (fun _=>⟨hc4,by omega,by omega,?_⟩))
   ·rintro b1 l5 p5 ⟨hc5,-⟩
    refine⟨⟨hc5,?_⟩,?_⟩
    ·rintro z l6 p6 ⟨-,-,hc6⟩
     exact ar (fun _=>⟨(l6,p6),it,hc6,(by repeat' first|exact trivial|refine⟨trivial,?_⟩|refine⟨(by with_reducible rfl),?_⟩|refine⟨ad (by omega) (by omega),?_⟩|refine⟨rfl,?_⟩)⟩) (fun _=>⟨(l6,p6),b1,hc6,(by repeat' first|exact trivial|refine⟨trivial,?_⟩|refine⟨(by with_reducible rfl),?_⟩|refine⟨ad (by omega) (by omega),?_⟩|refine⟨rfl,?_⟩)⟩)
    ·rintro c it2 hc2
     refine⟨hx,?_⟩
     rintro d e ⟨rfl,rfl⟩ d2 e2 ⟨rfl,rfl⟩
     refine⟨c,eX b it2,c8 b it2,⟨hc2,fun h0=>?_⟩,(by repeat' first|exact trivial|refine⟨trivial,?_⟩|refine⟨(by with_reducible rfl),?_⟩|refine⟨ad (by omega) (by omega),?_⟩|refine⟨rfl,?_⟩)⟩
     have e:eX b it2=jc b it2:=if_pos h0
     have q:¬ (1024<=(ae b).length∨(6000:Int)<it2.length):=fun q=>by
      unfold c8 at h0;rw[if_pos q] at h0;cases h0
     rw[e]
     refine⟨hx.push (by omega) (by omega),by show ab b<=_;omega,?_⟩
     show ((ae b++[it2]).length:Int)<=_
     rw[List.length_append,List.length_singleton];omega
   ·rintro n0 l5 p5 ⟨n00,n01,hc5⟩
    refine⟨⟨hc5,?_⟩,?_⟩
    ·rintro z l6 p6 ⟨-,-,hc6⟩
     exact ar (fun _=>⟨(l6,p6),min tk 10,⟨hc6,by omega⟩,(by repeat' first|exact trivial|refine⟨trivial,?_⟩|refine⟨(by with_reducible rfl),?_⟩|refine⟨ad (by omega) (by omega),?_⟩|refine⟨rfl,?_⟩)⟩) (fun _=>⟨(l6,p6),n0,⟨hc6,by omega⟩,(by repeat' first|exact trivial|refine⟨trivial,?_⟩|refine⟨(by with_reducible rfl),?_⟩|refine⟨ad (by omega) (by omega),?_⟩|refine⟨rfl,?_⟩)⟩)
    ·rintro c n ⟨hc2,hn10⟩
     refine⟨hx,?_⟩
     rintro d e ⟨rfl,rfl⟩
     refine⟨hx,?_⟩
     rintro d2 e2 ⟨rfl,rfl⟩
     refine⟨c,dF b n,ct b n,⟨hc2,fun h0=>?_⟩,(by repeat' first|exact trivial|refine⟨trivial,?_⟩|refine⟨(by with_reducible rfl),?_⟩|refine⟨ad (by omega) (by omega),?_⟩|refine⟨rfl,?_⟩)⟩
     have e:dF b n=a8 n.toNat b:=if_pos h0
     have hn0:0<=n:=Classical.byContradiction fun q=>by
      unfold ct at h0;rw[if_pos (by omega)] at h0;cases h0
     obtain⟨-,r2,r3,-⟩:=hx.1.runs n.toNat
     rw[e]
     exact⟨hx.runs _,by omega,by rw[r3];omega⟩
   ·rintro ds l5 p5 ⟨hc5,hd1,-⟩
    refine⟨hc5,by omega,by omega,?_⟩
    rintro us l6 p6 ⟨hc6,hu1,-⟩
    refine⟨hx,?_⟩
    rintro d e ⟨rfl,rfl⟩
    refine⟨hx,by omega,by omega,?_⟩
    rintro d2 e2 ⟨rfl,rfl⟩
    refine⟨(l6,p6),dh b ds us,ci b ds us,⟨hc6,fun h0=>?_⟩,(by repeat' first|exact trivial|refine⟨trivial,?_⟩|refine⟨(by with_reducible rfl),?_⟩|refine⟨ad (by omega) (by omega),?_⟩|refine⟨rfl,?_⟩)⟩
    have e:dh b ds us=bh b ds us:=if_pos h0
    have hv:c6 ds=true/\c6 us=true:=by
     cases q1:c6 ds with
     | false=>unfold ci at h0;rw[q1] at h0;cases h0
     | true =>
      cases q2:c6 us with
      | false=>unfold ci at h0;rw[q1,q2] at h0;cases h0
      | true=>exact⟨rfl,rfl⟩
    rw[e]
    exact⟨hx.tick (kD.1 hv.1) (kD.1 hv.2),by show ab b+1<=_;omega,by show ((ae b).length:Int)<=_;omega⟩
  ·rintro c u g ⟨hc,hg⟩
   (repeat (intro (b_:Bool) (hb_:b_=_);(repeat refine⟨(by first|(simp;done)|(rw[hb_];simp;done)|(rw[hb_];simp;omega)|(rw[hb_];simp;intros;omega)|(rw[hb_];simp +contextual;done)),?_⟩);subst hb_))
   refine ar (fun h=>absurd h (by simp[hs])) (fun _=>?_)
   refine ar (fun h0=>?_) (fun h0=>?_)
   ·obtain⟨g1,g2,g3⟩:=hg (of_decide_eq_true h0)
    rw[g1.chk (by omega)]
    (repeat (intro (b_:Bool) (hb_:b_=_);(repeat refine⟨(by first|(simp;done)|(rw[hb_];simp;done)|(rw[hb_];simp;omega)|(rw[hb_];simp;intros;omega)|(rw[hb_];simp +contextual;done)),?_⟩);subst hb_))
    refine ar (fun h=>absurd h (by simp)) (fun _=>?_)
    exact⟨k+1,c,u,⟨by omega,by omega,hc,g1,by omega,by omega⟩,by omega,(by repeat' first|exact trivial|refine⟨trivial,?_⟩|refine⟨(by with_reducible rfl),?_⟩|refine⟨ad (by omega) (by omega),?_⟩|refine⟨rfl,?_⟩)⟩
   ·rw[hx.chk (by omega)]
    (repeat (intro (b_:Bool) (hb_:b_=_);(repeat refine⟨(by first|(simp;done)|(rw[hb_];simp;done)|(rw[hb_];simp;omega)|(rw[hb_];simp;intros;omega)|(rw[hb_];simp +contextual;done)),?_⟩);subst hb_))
    refine ar (fun h=>absurd h (by simp)) (fun _=>?_)
    exact⟨k+1,c,b,⟨by omega,by omega,hc,hx,by omega,by omega⟩,by omega,(by repeat' first|exact trivial|refine⟨trivial,?_⟩|refine⟨(by with_reducible rfl),?_⟩|refine⟨ad (by omega) (by omega),?_⟩|refine⟨rfl,?_⟩)⟩
theorem ok_law21_ExchangeExact:aC Try.prog GL 7 w6.spec:=Ct.okH _ Try.func7 (by kernel_rfl) (av (av (av (av (av (av (av (av (av (av (av (av (av (av (av (av (av (av (av aP Cd) (Ct.named EU)) mH) (Ct.named uA)) (Ct.named Ax)) x4) BJ) xY) Et) (Ct.named uk)) (Ct.named Al)) (Ct.named su)) (Ct.named Be)) AL) (Ct.named AP)) (Ct.named u9)) Bk) zo) DO) ay An (aO (by kernel_rfl) DY)
end Go.RS
