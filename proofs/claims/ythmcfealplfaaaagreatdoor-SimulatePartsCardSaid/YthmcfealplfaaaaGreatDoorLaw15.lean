/- SimR: the reference's simulator. -/
import Derived.Test.YthmcfealplfaaaaGreatDoorRef14c
import Derived.Test.YthmcfealplfaaaaGreatDoorDrawsome
import Derived.Test.YthmcfealplfaaaaGreatDoorSx28
namespace Go.RS
open Go.SX Go.Proofs
set_option maxRecDepth 100000
set_option linter.unusedVariables false
set_option maxHeartbeats 2000000
instance:DecidableEq Rt:=inferInstanceAs (DecidableEq ((Int×Int)×List Int×Int))
instance:DecidableEq bt:=inferInstanceAs (DecidableEq (List Rt×Int×List Int×(Int×Int)×Int))
def mM(a b:aq):Bool:=decide (aT a=aT b)&&decide (aX a=aX b)&&decide (bz a=bz b)&&decide ((aM a:List bt)=aM b)&&decide (bJ a=bJ b)&&decide ((am a:List aK)=am b)&&decide ((aO a:List nG)=aO b)&&decide ((aQ a:List jx)=aQ b)
theorem Ep{a b:aq}:mM a b=true↔(aT a=aT b/\aX a=aX b/\bz a=bz b/\aM a=aM b/\bJ a=bJ b/\am a=am b/\aO a=aO b/\aQ a=aQ b):=by
 unfold mM
 simp only[Bool.and_eq_true,decide_eq_true_iff,and_assoc]
theorem at3{a b:aq}:mM a b=true↔a.2=b.2:=by
 rw[Ep]
 constructor
 ·rintro⟨h1,h2,h3,h4,h5,h6,h7,h8⟩
  obtain⟨a0,a1,a2,a3,a4,a5,a6,a7,a8⟩:=a
  obtain⟨b0,b1,b2,b3,b4,b5,b6,b7,b8⟩:=b
  simp only[aT,aX,bz,aM,bJ,am,aO,aQ] at h1 h2 h3 h4 h5 h6 h7 h8
  subst h1 h2 h3 h4 h5 h6 h7 h8
  rfl
 ·intro h
  unfold aT aX bz aM bJ am aO aQ
  rw[h]
  exact⟨rfl,rfl,rfl,rfl,rfl,rfl,rfl,rfl⟩
theorem BK{a b:aq}(h:¬ (aT a=aT b/\aX a=aX b/\bz a=bz b/\aM a=aM b/\bJ a=bJ b/\am a=am b/\aO a=aO b/\aQ a=aQ b)):false=mM a b:=by
 cases e:mM a b with
 | false=>rfl
 | true=>exact absurd (Ep.1 e) h
theorem Gt{a b:Bool}:(bif a then true else b)=false↔a=false/\b=false:=by cases a <;> cases b <;> simp
theorem CG{a b:Bool}:(bif a then true else b)=true↔a=true∨b=true:=by cases a <;> cases b <;> simp
theorem DD{p:Prop} [Decidable p]:(!decide p)=false↔p:=by by_cases h:p <;> simp[h]
theorem Cv{p:Prop} [Decidable p]:(!decide p)=true↔¬ p:=by by_cases h:p <;> simp[h]
def Lw:Ct:=⟨[.val (.sl rm),.val (.sl rm)],[.val .bool],fun _=>[],fun d=>((decide (d.1=d.2.1),()),())⟩
def af0:ar Lw.ps->ay:=(fun d=>{loops:=(fun n=>match n with|4=>some (fun S=>{ι:=Int,μ:=fun i=>(d.1.length-i).toNat,inv:=fun i=>0<=i/\i<=d.1.length/\d.1.length=d.2.1.length/\d.1.take i.toNat=d.2.1.take i.toNat,keep:=[0,1],slots:=fun i=>[(5,.int .i64 i)],names:=fun i=>[]})|_=>none)})
theorem WJ :
 ∀(a b:List (Int×Int×Int×Int×Int)),(a.length<=maxLen/\ ∀(c:Int×Int×Int×Int×Int),c∈a->ab c.1/\ab c.2.1/\ab c.2.2.1/\ab c.2.2.2.1/\ab c.2.2.2.2)/\(b.length<=maxLen/\ ∀(c:Int×Int×Int×Int×Int),c∈b->ab c.1/\ab c.2.1/\ab c.2.2.1/\ab c.2.2.2.1/\ab c.2.2.2.2)/\True->True->ad (! decide ((a.length:Int)=(b.length:Int))) (false=decide (a=b)) ((∃(c:Int),(0<=c/\c<=(a.length:Int)/\a.length=b.length/\List.take c.toNat a=List.take c.toNat b)/\a=a/\b=b/\(0:Int)=c/\True)/\ ∀(c:Int),0<=c/\c<=(a.length:Int)/\a.length=b.length/\List.take c.toNat a=List.take c.toNat b->ad (decide (c<(a.length:Int))) (0<=c/\c<(a.length:Int)/\0<=c/\c<(b.length:Int)/\ad (! (decide ((a.getD c.toNat default).1=(b.getD c.toNat default).1)&&(decide ((a.getD c.toNat default).2.1=(b.getD c.toNat default).2.1)&&(decide ((a.getD c.toNat default).2.2.1=(b.getD c.toNat default).2.2.1)&&(decide ((a.getD c.toNat
 default).2.2.2.1=(b.getD c.toNat default).2.2.2.1)&&(decide ((a.getD c.toNat default).2.2.2.2=(b.getD c.toNat default).2.2.2.2)&&true)))))) (false=decide (a=b)) (∃(d:Int),(0<=d/\d<=(a.length:Int)/\a.length=b.length/\List.take d.toNat a=List.take d.toNat b)/\Int.toNat ((a.length:Int) -d)<Int.toNat ((a.length:Int) -c)/\a=a/\b=b/\IntKind.wrap .i64 (c+(1:Int))=d/\True)) (true=decide (a=b))):=by
  rintro x y ⟨⟨hl,-⟩,-⟩ -
  simp only[maxLen] at hl
  refine ae (fun h=>?_) (fun h=>?_)
  ·have h:=fY h
   exact (decide_eq_false (fun e=>h (by rw[e]))).symm
  have h:=gz h
  refine⟨⟨0,⟨by omega,by omega,by omega,rfl⟩,(by repeat' first|exact trivial|refine⟨trivial,?_⟩|refine⟨(by with_reducible rfl),?_⟩|refine⟨af (by omega) (by omega),?_⟩|refine⟨rfl,?_⟩)⟩,?_⟩
  rintro j ⟨j0,j1,j2,j3⟩
  refine ae (fun hj=>?_) (fun hj=>?_)
  ·have hj:=of_decide_eq_true hj
   refine⟨j0,hj,j0,by omega,ae (fun k=>?_) (fun k=>?_)⟩
   ·refine (decide_eq_false (fun e=>?_)).symm
    rw[e] at k
    simp at k
   ·simp only[Bool.not_eq_false',Bool.and_eq_true,decide_eq_true_eq,and_true] at k
    obtain⟨k1,k2,k3,k4,k5⟩:=k
    have ee:x.getD j.toNat default=y.getD j.toNat default:=Prod.ext k1 (Prod.ext k2 (Prod.ext k3 (Prod.ext k4 k5)))
    exact⟨j+1,⟨by omega,by omega,j2,by rw[mb j0 hj,mb j0 (by omega),j3,ee]⟩,by omega,(by repeat' first|exact trivial|refine⟨trivial,?_⟩|refine⟨(by with_reducible rfl),?_⟩|refine⟨af (by omega) (by omega),?_⟩|refine⟨rfl,?_⟩)⟩
  ·have hj:=of_decide_eq_false hj
   rw[List.take_of_length_le (by omega),List.take_of_length_le (by omega)] at j3
   exact (decide_eq_true j3).symm
theorem PT:av Tryz.prog GL 14 Lw.spec:=Ct.okH _ Tryz.func14 (by kernel_rfl) aA au af0 (aB (by kernel_rfl) WJ)
def Nt:Ct:=⟨[.agg iI,.agg iI],[.val .bool],fun _=>[],fun d=>((mM d.1 d.2.1,()),())⟩
def X7:ar Nt.ps->ay:=(fun d=>{loops:=(fun n=>match n with|4=>some (fun S=>{ι:=Int,μ:=fun i=>((aM d.1).length-i).toNat,inv:=fun i=>0<=i/\i<=(aM d.1).length/\d.1.2.1=d.2.1.2.1/\d.1.2.2.1=d.2.1.2.2.1/\d.1.2.2.2.1=d.2.1.2.2.2.1/\(aM d.1).length=(aM d.2.1).length/\bJ d.1=bJ d.2.1/\(am d.1).length=(am d.2.1).length/\(aO d.1).length=(aO d.2.1).length/\aQ d.1=aQ d.2.1/\(aM d.1).take i.toNat=(aM d.2.1).take i.toNat,keep:=[2,3],slots:=fun i=>[(5,.int .i64 i)],keepN:=[48,64],names:=fun i=>[]})|9=>some (fun S=>{ι:=Int,μ:=fun i=>((am d.1).length-i).toNat,inv:=fun i=>0<=i/\i<=(am d.1).length/\d.1.2.1=d.2.1.2.1/\d.1.2.2.1=d.2.1.2.2.1/\d.1.2.2.2.1=d.2.1.2.2.2.1/\aM d.1=aM d.2.1/\bJ d.1=bJ d.2.1/\(am d.1).length=(am d.2.1).length/\(aO d.1).length=(aO d.2.1).length/\aQ d.1=aQ d.2.1/\(am d.1).take i.toNat=(am d.2.1).take i.toNat,keep:=[2,3],slots:=fun i=>[(6,.int .i64 i)],keepN:=[48,64],names:=fun i=>[]})|15=>some (fun S=>{ι:=Int,μ:=fun i=>((aO d.1).length-i).toNat,inv:=fun i=>0<=i/\i<=(aO d.1).length/\d.1.2.1=d.2.1.2.1/\d.1.2.2.1=d.2.1.2.2.1/\d.1.2.2.2.1=d.2.1.2.2.2.1/\aM d.1=aM d.2.1/\bJ d.1=bJ d.2.1/\am d.1=am d.2.1/\(aO d.1).length=(aO d.2.1).length/\aQ d.1=aQ d.2.1/\(aO d.1).take i.toNat=(aO d.2.1).take i.toNat,keep:=[2,3],slots:=fun i=>[(9,.int .i64 i)],keepN:=[48,64],names:=fun i=>[]})|_=>none)})
def tK(a b:(List ac×List aF×List aN)×Int×Int×Int×List (List aD×Int×List Int×(Int×Int)×Int)×List Int×List (Int×Int×Int×Int×Int×List Int)×List (Int×Int×List Int)×List (Int×Int×Int×Int×Int)) :=
 a.1.1=a.1.1/\a.1.2.1=a.1.2.1/\a.1.2.2=a.1.2.2/\a.2.1=a.2.1/\a.2.2.1=a.2.2.1/\a.2.2.2.1=a.2.2.2.1/\a.2.2.2.2.1=a.2.2.2.2.1/\a.2.2.2.2.2.1=a.2.2.2.2.2.1/\a.2.2.2.2.2.2.1=a.2.2.2.2.2.2.1/\a.2.2.2.2.2.2.2.1=a.2.2.2.2.2.2.2.1/\a.2.2.2.2.2.2.2.2=a.2.2.2.2.2.2.2.2/\b.1.1=b.1.1/\b.1.2.1=b.1.2.1/\b.1.2.2=b.1.2.2/\b.2.1=b.2.1/\b.2.2.1=b.2.2.1/\b.2.2.2.1=b.2.2.2.1/\b.2.2.2.2.1=b.2.2.2.2.1/\b.2.2.2.2.2.1=b.2.2.2.2.2.1/\b.2.2.2.2.2.2.1=b.2.2.2.2.2.2.1/\b.2.2.2.2.2.2.2.1=b.2.2.2.2.2.2.2.1/\b.2.2.2.2.2.2.2.2=b.2.2.2.2.2.2.2.2/\True
def wN(n:Bool) :=
 (! n)->((! n)->(! n))/\True
def GC(a b:(List ac×List aF×List aN)×Int×Int×Int×List (List aD×Int×List Int×(Int×Int)×Int)×List Int×List (Int×Int×Int×Int×Int×List Int)×List (Int×Int×List Int)×List (Int×Int×Int×Int×Int))(j:Int) :=
 j<=((List.length (aM a)):Int)/\a.2.1=b.2.1/\a.2.2.1=b.2.2.1/\a.2.2.2.1=b.2.2.2.1/\List.length (aM a)=List.length (aM b)/\bJ a=bJ b/\List.length (am a)=List.length (am b)/\List.length (aO a)=List.length (aO b)/\aQ a=aQ b/\List.take j.toNat (aM a)=List.take j.toNat (aM b)
theorem Vw :
 ∀(a b:(List ac×List aF×List aN)×Int×Int×Int×List (List aD×Int×List Int×(Int×Int)×Int)×List Int×List (Int×Int×Int×Int×Int×List Int)×List (Int×Int×List Int)×List (Int×Int×Int×Int×Int)),CT.wf iI a/\CT.wf iI b/\True->True-> ∀(c:Bool),c= ! decide (a.2.1=b.2.1)->((! c)->((! c)->(! c))/\True)/\((! c)->((! c)->(! c))/\True)/\((! c)->((! c)->(! c))/\((! c)->(! c))/\True)/\(c=false->(! c))/\ ∀(d:Bool),(d=bif c then true else ! decide (a.2.2.1=b.2.2.1))->((! d)->((! d)->(! d))/\True)/\((! d)->((! d)->(! d))/\True)/\((! d)->((! d)->(! d))/\((! d)->(! d))/\True)/\(d=false->(! d))/\ ∀(e:Bool),(e=bif d then true else ! decide (a.2.2.2.1=b.2.2.2.1))->((! e)->((! e)->(! e))/\True)/\((! e)->((! e)->(! e))/\True)/\((! e)->((! e)->(! e))/\True)/\((! e)->((! e)->(! e))/\True)/\((! e)->((! e)->(! e))/\((! e)->(! e))/\True)/\(e=false->(! e))/\ ∀(f:Bool),(f=bif e then true else ! decide
 ((a.2.2.2.2.1.length:Int)=(b.2.2.2.2.1.length:Int)))->((! f)->((! f)->(! f))/\True)/\((! f)->((! f)->(! f))/\True)/\((! f)->((! f)->(! f))/\((! f)->(! f))/\True)/\((! f)->((! f)->(! f))/\True)/\(f=false->(! f))/\ ∀(g:Bool),(g=bif f then true else ! decide (a.2.2.2.2.2.1=b.2.2.2.2.2.1))->((! g)->((! g)->(! g))/\True)/\((! g)->((! g)->(! g))/\True)/\((! g)->((! g)->(! g))/\True)/\((! g)->((! g)->(! g))/\True)/\((! g)->((! g)->(! g))/\((! g)->(! g))/\True)/\(g=false->(! g))/\ ∀(h:Bool),(h=bif g then true else ! decide ((a.2.2.2.2.2.2.1.length:Int)=(b.2.2.2.2.2.2.1.length:Int)))->((! h)->((! h)->(! h))/\True)/\((! h)->((! h)->(! h))/\True)/\((! h)->((! h)->(! h))/\True)/\((! h)->((! h)->(! h))/\True)/\((! h)->((! h)->(! h))/\((! h)->(! h))/\True)/\(h=false->(! h))/\ ∀(i:Bool),(i=bif h then true else ! decide ((a.2.2.2.2.2.2.2.1.length:Int)=(b.2.2.2.2.2.2.2.1.length:Int)))->((! i)->((! i)->(!
 i))/\True)/\((! i)->((! i)->(! i))/\True)/\((! i)->((! i)->(! i))/\((! i)->(! i))/\True)/\((! i)->((! i)->(! i))/\True)/\(i=false->(! i))/\ad (bif i then true else ! decide (a.2.2.2.2.2.2.2.2=b.2.2.2.2.2.2.2.2)) (false=mM a b) ((∃(j:Int),(0<=j/\(GC a b j))/\(0:Int)=j/\(tK a b))/\ ∀(j:Int),0<=j/\(GC a b j)->ad (decide (j<(a.2.2.2.2.1.length:Int))) (0<=j/\j<(a.2.2.2.2.1.length:Int)/\0<=j/\j<(b.2.2.2.2.1.length:Int)/\ad (! decide (List.getD a.2.2.2.2.1 j.toNat default=List.getD b.2.2.2.2.1 j.toNat default)) (false=mM a b) (∃(k:Int),(0<=k/\k<=((List.length (aM a)):Int)/\a.2.1=b.2.1/\a.2.2.1=b.2.2.1/\a.2.2.2.1=b.2.2.2.1/\List.length (aM a)=List.length (aM b)/\bJ a=bJ b/\List.length (am a)=List.length (am b)/\List.length (aO a)=List.length (aO b)/\aQ a=aQ b/\List.take k.toNat (aM a)=List.take k.toNat (aM b))/\Int.toNat (((List.length (aM a)):Int) -k)<Int.toNat
 (((List.length (aM a)):Int) -j)/\IntKind.wrap .i64 (j+(1:Int))=k/\(tK a b))) ((∃(k:Int),(0<=k/\k<=((List.length (am a)):Int)/\a.2.1=b.2.1/\a.2.2.1=b.2.2.1/\a.2.2.2.1=b.2.2.2.1/\aM a=aM b/\bJ a=bJ b/\List.length (am a)=List.length (am b)/\List.length (aO a)=List.length (aO b)/\aQ a=aQ b/\List.take k.toNat (am a)=List.take k.toNat (am b))/\(0:Int)=k/\(tK a b))/\ ∀(k:Int),0<=k/\k<=((List.length (am a)):Int)/\a.2.1=b.2.1/\a.2.2.1=b.2.2.1/\a.2.2.2.1=b.2.2.2.1/\aM a=aM b/\bJ a=bJ b/\List.length (am a)=List.length (am b)/\List.length (aO a)=List.length (aO b)/\aQ a=aQ b/\List.take k.toNat (am a)=List.take k.toNat (am b)->ad (decide (k<(a.2.2.2.2.2.2.1.length:Int))) (0<=k/\k<(a.2.2.2.2.2.2.1.length:Int)/\0<=k/\k<(b.2.2.2.2.2.2.1.length:Int)/\ ∀(l:Bool),l= ! decide ((List.getD a.2.2.2.2.2.2.1 k.toNat default).1=(List.getD b.2.2.2.2.2.2.1 k.toNat
 default).1)->((! l)->((! l)->(! l))/\True)/\((! l)->((! l)->(! l))/\True)/\((! l)->((! l)->(! l))/\((! l)->(! l))/\True)/\(l=false->(! l))/\ ∀(m:Bool),(m=bif l then true else ! decide ((List.getD a.2.2.2.2.2.2.1 k.toNat default).2.1=(List.getD b.2.2.2.2.2.2.1 k.toNat default).2.1))->((! m)->((! m)->(! m))/\True)/\((! m)->((! m)->(! m))/\True)/\((! m)->((! m)->(! m))/\((! m)->(! m))/\True)/\(m=false->(! m))/\ ∀(n:Bool),(n=bif m then true else ! decide ((List.getD a.2.2.2.2.2.2.1 k.toNat default).2.2.1=(List.getD b.2.2.2.2.2.2.1 k.toNat default).2.2.1))->(wN n)/\(wN n)/\((! n)->((! n)->(! n))/\((! n)->(! n))/\True)/\(n=false->(! n))/\ ∀(o:Bool),(o=bif n then true else ! decide ((List.getD a.2.2.2.2.2.2.1 k.toNat default).2.2.2.1=(List.getD b.2.2.2.2.2.2.1 k.toNat default).2.2.2.1))->((! o)->((! o)->(! o))/\True)/\((! o)->((! o)->(! o))/\True)/\((! o)->((! o)->(! o))/\((! o)->(!
 o))/\True)/\(o=false->(! o))/\ ∀(p:Bool),(p=bif o then true else ! decide ((List.getD a.2.2.2.2.2.2.1 k.toNat default).2.2.2.2.1=(List.getD b.2.2.2.2.2.2.1 k.toNat default).2.2.2.2.1))->((! p)->((! p)->(! p))/\True)/\((! p)->((! p)->(! p))/\True)/\((! p)->((! p)->(! p))/\((! p)->(! p))/\True)/\((! p)->((! p)->(! p))/\True)/\(p=false->(! p))/\ad (bif p then true else ! decide ((List.getD a.2.2.2.2.2.2.1 k.toNat default).2.2.2.2.2=(List.getD b.2.2.2.2.2.2.1 k.toNat default).2.2.2.2.2)) (false=mM a b) (∃(q:Int),(0<=q/\q<=((List.length (am a)):Int)/\a.2.1=b.2.1/\a.2.2.1=b.2.2.1/\a.2.2.2.1=b.2.2.2.1/\aM a=aM b/\bJ a=bJ b/\List.length (am a)=List.length (am b)/\List.length (aO a)=List.length (aO b)/\aQ a=aQ b/\List.take q.toNat (am a)=List.take q.toNat (am b))/\Int.toNat (((List.length (am a)):Int) -q)<Int.toNat (((List.length (am a)):Int) -k)/\IntKind.wrap .i64
 (k+(1:Int))=q/\(tK a b))) ((∃(l:Int),(0<=l/\l<=((List.length (aO a)):Int)/\a.2.1=b.2.1/\a.2.2.1=b.2.2.1/\a.2.2.2.1=b.2.2.2.1/\aM a=aM b/\bJ a=bJ b/\am a=am b/\List.length (aO a)=List.length (aO b)/\aQ a=aQ b/\List.take l.toNat (aO a)=List.take l.toNat (aO b))/\(0:Int)=l/\(tK a b))/\ ∀(l:Int),0<=l/\l<=((List.length (aO a)):Int)/\a.2.1=b.2.1/\a.2.2.1=b.2.2.1/\a.2.2.2.1=b.2.2.2.1/\aM a=aM b/\bJ a=bJ b/\am a=am b/\List.length (aO a)=List.length (aO b)/\aQ a=aQ b/\List.take l.toNat (aO a)=List.take l.toNat (aO b)->ad (decide (l<(a.2.2.2.2.2.2.2.1.length:Int))) (0<=l/\l<(a.2.2.2.2.2.2.2.1.length:Int)/\0<=l/\l<(b.2.2.2.2.2.2.2.1.length:Int)/\ ∀(m:Bool),m= ! decide ((List.getD a.2.2.2.2.2.2.2.1 l.toNat default).1=(List.getD b.2.2.2.2.2.2.2.1 l.toNat default).1)->((! m)->((! m)->(! m))/\True)/\((! m)->((! m)->(! m))/\True)/\((! m)->((! m)->(! m))/\((! m)->(!
 m))/\True)/\(m=false->(! m))/\ ∀(n:Bool),(n=bif m then true else ! decide ((List.getD a.2.2.2.2.2.2.2.1 l.toNat default).2.1=(List.getD b.2.2.2.2.2.2.2.1 l.toNat default).2.1))->(wN n)/\(wN n)/\((! n)->((! n)->(! n))/\((! n)->(! n))/\True)/\(wN n)/\(n=false->(! n))/\ad (bif n then true else ! decide ((List.getD a.2.2.2.2.2.2.2.1 l.toNat default).2.2=(List.getD b.2.2.2.2.2.2.2.1 l.toNat default).2.2)) (false=mM a b) (∃(o:Int),(0<=o/\o<=((List.length (aO a)):Int)/\a.2.1=b.2.1/\a.2.2.1=b.2.2.1/\a.2.2.2.1=b.2.2.2.1/\aM a=aM b/\bJ a=bJ b/\am a=am b/\List.length (aO a)=List.length (aO b)/\aQ a=aQ b/\List.take o.toNat (aO a)=List.take o.toNat (aO b))/\Int.toNat (((List.length (aO a)):Int) -o)<Int.toNat (((List.length (aO a)):Int) -l)/\IntKind.wrap .i64 (l+(1:Int))=o/\(tK a b))) (true=mM a b)))):=by
  delta tK wN GC
  rintro d e ⟨⟨-,-,-,-,⟨hs0,-⟩,-,⟨hf0,-⟩,⟨hd0,-⟩,-⟩,-⟩ -
  simp only[maxLen] at hs0 hf0 hd0
  have hs0:(aM d).length<=2^63-1:=hs0
  have hf0:(am d).length<=2^63-1:=hf0
  have hd0:(aO d).length<=2^63-1:=hd0
  (repeat (intro (b_:Bool) (hb_:b_=_);(repeat refine⟨(by first|(simp;done)|(rw[hb_];simp;done)|(rw[hb_];simp;omega)|(rw[hb_];simp;intros;omega)|(rw[hb_];simp +contextual;done)),?_⟩);subst hb_))
  have eS:∀ d:aq,d.2.2.2.2.1=aM d:=fun _=>rfl
  have eF:∀ d:aq,d.2.2.2.2.2.2.1=am d:=fun _=>rfl
  have eD:∀ d:aq,d.2.2.2.2.2.2.2.1=aO d:=fun _=>rfl
  simp only[eS,eF,eD]
  refine ae (fun k=>?_) (fun k=>?_)
  ·refine BK (fun h=>?_)
   obtain⟨h1,h2,h3,h4,h5,h6,h7,h8⟩:=h
   simp only[CG,Cv] at k
   rcases k with ((((((k|k)|k)|k)|k)|k)|k)|k
   ·exact k h1
   ·exact k h2
   ·exact k h3
   ·exact k (by rw[h4])
   ·exact k h5
   ·exact k (by rw[h6])
   ·exact k (by rw[h7])
   ·exact k h8
  simp only[Gt,DD] at k
  obtain⟨⟨⟨⟨⟨⟨⟨h1,h2⟩,h3⟩,h4⟩,h5⟩,h6⟩,h7⟩,h8⟩:=k
  have h4:(aM d).length=(aM e).length:=by omega
  have h6:(am d).length=(am e).length:=by omega
  have h7:(aO d).length=(aO e).length:=by omega
  refine⟨⟨0,⟨by omega,by omega,h1,h2,h3,h4,h5,h6,h7,h8,rfl⟩,(by repeat' first|exact trivial|refine⟨trivial,?_⟩|refine⟨(by with_reducible rfl),?_⟩|refine⟨af (by omega) (by omega),?_⟩|refine⟨rfl,?_⟩)⟩,?_⟩
  rintro j ⟨j0,j1,-,-,-,-,-,-,-,-,j3⟩
  refine ae (fun hj=>?_) (fun hj=>?_)
  ·have hj:=of_decide_eq_true hj
   refine⟨j0,hj,j0,by omega,ae (fun k=>?_) (fun k=>?_)⟩
   ·have k:=fY k
    exact BK (fun h=>k (by rw[h.2.2.2.1]))
   ·have k:=gz k
    exact⟨j+1,⟨by omega,by omega,h1,h2,h3,h4,h5,h6,h7,h8,by rw[mb j0 hj,mb j0 (by omega),j3,k]⟩,by omega,(by repeat' first|exact trivial|refine⟨trivial,?_⟩|refine⟨(by with_reducible rfl),?_⟩|refine⟨af (by omega) (by omega),?_⟩|refine⟨rfl,?_⟩)⟩
  have hj:=of_decide_eq_false hj
  rw[List.take_of_length_le (by omega),List.take_of_length_le (by omega)] at j3
  refine⟨⟨0,⟨by omega,by omega,h1,h2,h3,j3,h5,h6,h7,h8,rfl⟩,(by repeat' first|exact trivial|refine⟨trivial,?_⟩|refine⟨(by with_reducible rfl),?_⟩|refine⟨af (by omega) (by omega),?_⟩|refine⟨rfl,?_⟩)⟩,?_⟩
  rintro i ⟨i0,i1,-,-,-,-,-,-,-,-,i3⟩
  refine ae (fun hi=>?_) (fun hi=>?_)
  ·have hi:=of_decide_eq_true hi
   refine⟨i0,hi,i0,by omega,?_⟩
   (repeat (intro (b_:Bool) (hb_:b_=_);(repeat refine⟨(by first|(simp;done)|(rw[hb_];simp;done)|(rw[hb_];simp;omega)|(rw[hb_];simp;intros;omega)|(rw[hb_];simp +contextual;done)),?_⟩);subst hb_))
   refine ae (fun k=>?_) (fun k=>?_)
   ·refine BK (fun h=>?_)
    simp only[CG,Cv] at k
    rcases k with ((((k|k)|k)|k)|k)|k <;> exact k (by rw[h.2.2.2.2.2.1])
   ·simp only[Gt,DD] at k
    obtain⟨⟨⟨⟨⟨k1,k2⟩,k3⟩,k4⟩,k5⟩,k6⟩:=k
    have ee:(am d).getD i.toNat default=(am e).getD i.toNat default:=Prod.ext k1 (Prod.ext k2 (Prod.ext k3 (Prod.ext k4 (Prod.ext k5 k6))))
    exact⟨i+1,⟨by omega,by omega,h1,h2,h3,j3,h5,h6,h7,h8,by rw[mb i0 hi,mb i0 (by omega),i3,ee]⟩,by omega,(by repeat' first|exact trivial|refine⟨trivial,?_⟩|refine⟨(by with_reducible rfl),?_⟩|refine⟨af (by omega) (by omega),?_⟩|refine⟨rfl,?_⟩)⟩
  have hi:=of_decide_eq_false hi
  rw[List.take_of_length_le (by omega),List.take_of_length_le (by omega)] at i3
  refine⟨⟨0,⟨by omega,by omega,h1,h2,h3,j3,h5,i3,h7,h8,rfl⟩,(by repeat' first|exact trivial|refine⟨trivial,?_⟩|refine⟨(by with_reducible rfl),?_⟩|refine⟨af (by omega) (by omega),?_⟩|refine⟨rfl,?_⟩)⟩,?_⟩
  rintro m ⟨m0,m1,-,-,-,-,-,-,-,-,m3⟩
  refine ae (fun hm=>?_) (fun hm=>?_)
  ·have hm:=of_decide_eq_true hm
   refine⟨m0,hm,m0,by omega,?_⟩
   (repeat (intro (b_:Bool) (hb_:b_=_);(repeat refine⟨(by first|(simp;done)|(rw[hb_];simp;done)|(rw[hb_];simp;omega)|(rw[hb_];simp;intros;omega)|(rw[hb_];simp +contextual;done)),?_⟩);subst hb_))
   refine ae (fun k=>?_) (fun k=>?_)
   ·refine BK (fun h=>?_)
    simp only[CG,Cv] at k
    rcases k with (k|k)|k <;> exact k (by rw[h.2.2.2.2.2.2.1])
   ·simp only[Gt,DD] at k
    obtain⟨⟨k1,k2⟩,k3⟩:=k
    have ee:(aO d).getD m.toNat default=(aO e).getD m.toNat default:=Prod.ext k1 (Prod.ext k2 k3)
    exact⟨m+1,⟨by omega,by omega,h1,h2,h3,j3,h5,i3,h7,h8,by rw[mb m0 hm,mb m0 (by omega),m3,ee]⟩,by omega,(by repeat' first|exact trivial|refine⟨trivial,?_⟩|refine⟨(by with_reducible rfl),?_⟩|refine⟨af (by omega) (by omega),?_⟩|refine⟨rfl,?_⟩)⟩
  have hm:=of_decide_eq_false hm
  rw[List.take_of_length_le (by omega),List.take_of_length_le (by omega)] at m3
  exact (Ep.2 ⟨h1,h2,h3,j3,h5,i3,m3,h8⟩).symm
theorem Za:av Tryz.prog GL 28 Nt.spec:=Ct.okH _ Tryz.func28 (by kernel_rfl) (ah (ah (ah (ah aA MN) PT) ax7) av9) au X7 (aB (by kernel_rfl) Vw)
end Go.RS

/- Oddnet: networks with one field changed. -/
namespace Go.RS
open Go.SX Go.Proofs
set_option maxRecDepth 100000
set_option linter.unusedVariables false
def aw5(k:Int)(x:ac):Prop:=(x.1.length:Int)<=k/\(aV x).length<=k∧∀ r∈aV x,(r.2.1.length:Int)<=k
def K4(k:Int)(n:bw):Prop:=(n.1.length:Int)<=k/\(n.2.1.length:Int)<=k/\(n.2.2.length:Int)<=k/\(∀ x∈n.1,aw5 k x)∧∀ c∈n.2.2,(c.2.2.2.2.1.length:Int)<=k
end Go.RS

/- Law13c: the checks of nodes. -/
namespace Go.RS
open Go.SX Go.Proofs
set_option maxRecDepth 100000
set_option linter.unusedVariables false
theorem DN.nb{n:bw}(h:DN n):K4 1000 n:=by
 have n7:=h.n7
 have l10:=h.l10
 have h3:=h.h3
 refine⟨by omega,by omega,by omega,fun x hx=>?_,fun c hc=>?_⟩
 ·obtain⟨i,hi,rfl⟩:=List.mem_iff_getElem.1 hx
  have e:n.1.getD i default=n.1[i]:=by rw[List.getD_eq_getElem?_getD,List.getElem?_eq_getElem hi,Option.getD_some]
  have p:=h.p i hi
  have t:=h.t i hi
  rw[e] at p t
  have hl:=xh i 0 n.2.1
  rw[← p] at hl
  have hl:(n.1[i]).1.length<=2*n.2.1.length:=hl
  have h20:=JC t
  exact⟨by omega,by omega,fun r hr=>by have:=DY (t.2 r hr);omega⟩
 ·rcases (h.c c hc).x with k|⟨q,-,k⟩
  ·have k:c.2.2.2.2.1=[]:=k
   rw[k];simp
  ·have k:c.2.2.2.2.1=[q.2]:=k
   rw[k];simp
end Go.RS

/- Drawn4: drawn networks are in order. -/
namespace Go.RS
open Go.SX Go.Proofs
set_option maxRecDepth 100000
set_option linter.unusedVariables false
theorem JX(i:Int):∀(k:Nat)(ls:List aF),(∀ l∈ls,lA l≠lB l)->(portsF i k ls).Pairwise (fun a b=>a.2<b.2/\a.1<b.1)∧∀ q∈portsF i k ls,(k:Int)<=q.2/\dX k<q.1
 | _,[],_=>by simp[portsF]
 | k,l::r,h=>by
  obtain⟨h1,h2⟩:=JX i (k+1) r (fun x hx=>h x (List.mem_cons_of_mem _ hx))
  have hl:=h l List.mem_cons_self
  have e:mT i k l=[]∨∃ a:Int,(a=1∨a=2)/\mT i k l=[(dX k+a,(k:Int))]:=by
   unfold mT
   by_cases ha:lA l=i
   ·rw[if_pos ha,if_neg (by omega)];exact .inr ⟨1,.inl rfl,rfl⟩
   ·rw[if_neg ha]
    by_cases hb:lB l=i
    ·rw[if_pos hb];exact .inr ⟨2,.inr rfl,rfl⟩
    ·rw[if_neg hb];exact .inl rfl
  rw[portsF]
  unfold dX at *
  rcases e with e|⟨a,ha,e⟩ <;> rw[e]
  ·rw[List.nil_append]
   exact⟨h1,fun q hq=>by have:=h2 q hq;omega⟩
  ·rw[List.singleton_append]
   refine⟨List.pairwise_cons.2 ⟨fun q hq=>?_,h1⟩,fun q hq=>?_⟩
   ·have:=h2 q hq;simp only;omega
   ·rcases List.mem_cons.1 hq with rfl|hq
    ·simp only;omega
    ·have:=h2 q hq;omega
theorem Mo{l:List l8}{q:l8->Bool}{i:Nat}(hi:i<l.length)(hq:q (l.getD i default)=true)(hn:∀ j:Nat,j<i->q (l.getD j default)=false):fT q l=i:=by
 have e:l.findIdx q=i:=by
  rw[List.findIdx_eq hi]
  refine⟨by rwa [List.getD_eq_getElem?_getD,List.getElem?_eq_getElem hi,Option.getD_some] at hq,fun j hj=>?_⟩
  have:=hn j hj
  rwa [List.getD_eq_getElem?_getD,List.getElem?_eq_getElem (by omega),Option.getD_some] at this
 unfold fT
 rw[e,if_pos hi]
theorem as5{q:Int×Int->Bool}{l:List (Int×Int)}{y:Int×Int}(hy:y∈l)(hq:q y=true):0<=fT q l:=by
 have hlt:l.findIdx q<l.length:=List.findIdx_lt_length_of_exists ⟨y,hy,hq⟩
 unfold fT;rw[if_pos hlt];omega
theorem LT{α:Type} [Inhabited α] {R:α->α->Prop} {l:List α} (h:l.Pairwise R) {k j:Nat} (hk:k<j) (hj:j<l.length):R (l.getD k default) (l.getD j default):=by
 rw[List.getD_eq_getElem?_getD,List.getD_eq_getElem?_getD,List.getElem?_eq_getElem hj,List.getElem?_eq_getElem (by omega),Option.getD_some,Option.getD_some]
 exact List.pairwise_iff_getElem.1 h _ _ _ _ hk
theorem Ea{a:Int}(h:167837696<=a/\a<=167903300):fm a:=by
 right
 unfold fK
 have:a/16777216=10:=by omega
 rw[if_neg (by omega),if_neg (by omega),if_pos (.inl this)]
theorem QO{a n:Int}(h:n=32):jg (a,n)=true:=by
 subst h
 unfold jg
 have:sz 32=1:=by decide
 rw[this]
 simp only[decide_eq_true_eq]
 omega
theorem OG{links:List Int}:∀{l:List Rt}{q:Option cM},bM l->(∀ p,q=some p→∀ r∈l,bc p r.1)->(∀ r∈l,jg r.1=true/\jZ r links)->chk links q l=0
 | [],_,_,_,_=>rfl
 | r::rs,q,hs,hq,hr=>by
  obtain⟨v,w⟩:=hr r List.mem_cons_self
  obtain⟨s1,s2⟩:=List.pairwise_cons.1 hs
  rw[chk,if_neg (by rw[v];simp)]
  have e:q.any (fun q=>decide (0<=fj q r.1))=false:=by
   cases q with
   | none=>rfl
   | some p =>
    have:=hq p rfl r List.mem_cons_self
    simp only[Option.any_some,decide_eq_false_iff_not]
    rw[De];exact fun k=>k this
  rw[if_neg (by rw[e];simp),if_neg (by simpa using w)]
  exact OG s2 (fun p hp x hx=>by cases hp;exact s1 x hx) (fun x hx=>hr x (List.mem_cons_of_mem _ hx))
structure GT (m:Nat) (links:List Int) (l:List Rt):Prop where
 s:bM l
 n:l.length<=m
 r:∀ r∈l,jg r.1=true/\jZ r links
theorem GT.ok{m:Nat}{links:List Int}{l:List Rt}(h:GT m links l)(hm:m<=64):dE l links=0:=by
 have:=h.n
 unfold dE
 rw[if_neg (by omega)]
 exact OG h.s (fun p hp=>by cases hp) h.r
theorem DN.gt{n:bw}(h:DN n){i:Nat}(hi:i<n.1.length):GT 20 (bv (n.1.getD i default)) (aV (n.1.getD i default)):=by
 have t:=h.t i hi
 refine⟨t.1,JC t,fun r hr=>?_⟩
 have k:=t.2 r hr
 have l10:=h.l10
 have hl:=DY k
 refine⟨QO k.len,⟨by omega,fun j hj=>⟨fun h0=>?_,?_⟩⟩,k.w0,k.w1⟩
 ·rw[List.getD_eq_getElem?_getD,List.getD_eq_getElem?_getD,List.getElem?_eq_getElem hj,List.getElem?_eq_getElem (by omega),Option.getD_some,Option.getD_some]
  exact List.pairwise_iff_getElem.1 k.pw _ _ _ _ (by omega)
 ·rw[(h.links hi)]
  rw[List.getD_eq_getElem?_getD,List.getElem?_eq_getElem hj,Option.getD_some]
  exact k.ln _ (List.getElem_mem hj)
theorem DN.pw{n:bw}(h:DN n){i:Nat}(hi:i<n.1.length):(aC (n.1.getD i default)).Pairwise (fun a b=>a.2<b.2/\a.1<b.1):=by
 rw[h.p i hi]
 exact (JX i 0 n.2.1 fun l hl=>(h.g l hl).2.2.1).1
theorem DN.node{n:bw}(h:DN n){i:Nat}(hi:i<n.1.length)(hp:0<(aC (n.1.getD i default)).length):d9 (n.1.getD i default)=0:=by
 have pw:=h.pw hi
 have d:=h.d i hi
 have n7:=h.n7
 have l10:=h.l10
 have hlen:(aC (n.1.getD i default)).length<=20:=by
  rw[h.p i hi]
  have:=xh i 0 n.2.1;omega
 have gt:=h.gt hi
 have ports:∀ j:Nat,j<(aC (n.1.getD i default)).length->fR (n.1.getD i default) j=0:=fun j hj=>by
  have hm:(aC (n.1.getD i default)).getD j default∈aC (n.1.getD i default):=mN hj
  have hadr:=h.padr hi (List.mem_map_of_mem (f:=(·.1)) hm)
  have hlnk:=(h.links hi).1 (List.mem_map_of_mem (f:=(·.2)) hm)
  have ne:∀ k:Nat,k<j->((aC (n.1.getD i default)).getD k default).2<((aC (n.1.getD i default)).getD j default).2/\((aC (n.1.getD i default)).getD k default).1<((aC (n.1.getD i default)).getD j default).1:=fun k hk=>LT pw hk hj
  have ea:ke (n.1.getD i default) ((aC (n.1.getD i default)).getD j default).1=j:=Mo hj (by simp[i7]) (fun k hk=>by have:=ne k hk;simp only[i7,decide_eq_false_iff_not];omega)
  have el:cL (n.1.getD i default) ((aC (n.1.getD i default)).getD j default).2=j:=Mo hj (by simp[gS]) (fun k hk=>by have:=ne k hk;simp only[gS,decide_eq_false_iff_not];omega)
  have hu:fm ((aC (n.1.getD i default)).getD j default).1:=Ea (by omega)
  unfold fR
  have:=hlnk.1
  rw[ea,el,if_neg (by rintro (k|k);exact k hu;omega),if_neg (by omega)]
 have hloop:¬ mv (n.1.getD i default):=by
  rintro⟨k0,k⟩
  have hl:=d.loop.resolve_left k0
  rcases k with k|k
  ·exact k (Ea (by omega))
  ·have:=h.padr hi (Tq.1 k)
   omega
 have hform:¬ kS (n.1.getD i default):=by
  have o:=d.own
  have f:=d.first
  unfold kS
  rintro (k|k|⟨k1,k2⟩|⟨k1,k2⟩|⟨k1,k2⟩|k|k)
  ·omega
  ·rcases d.src with s|⟨s,-⟩|⟨s,-⟩ <;> omega
  ·rcases d.src with s|⟨s,s2⟩|⟨s,-⟩ <;> omega
  ·have:=d.fix.resolve_left k1
   exact k2 (Ea (by omega))
  ·rcases d.src with s|⟨s,s2⟩|⟨s,s2⟩ <;> omega
  ·omega
  ·omega
 have hid:iH (n.1.getD i default)=0:=by
  unfold iH
  rw[if_pos]
  obtain⟨⟨a,b⟩,⟨c,e⟩,f,g⟩:=d.id
  exact decide_eq_true ⟨a,b,c,e,f,g⟩
 have hb:gU (iG (n.1.getD i default))=0:=by
  unfold gU
  rw[if_pos]
  rcases d.lim with k|k
  ·exact .inl k
  ·right;omega
 rw[Ot (by omega) (zK ports) hloop hform,if_neg (fun k=>k hid),if_neg (fun k=>k hb)]
 exact gt.ok (by omega)
theorem Ke(ns:List ac)(a:Int):∀ k:Nat,dU a (d8 ns k)=true↔∃ j:Nat,j<k/\a∈fb (ns.getD j default)
 | 0=>by simp[d8,dU]
 | k+1=>by
  have e:d8 ns (k+1)=kg k (fb (ns.getD k default)) (d8 ns k):=by unfold d8;rw[List.range_succ,List.foldl_append];rfl
  rw[e,GJ.1,Bool.or_eq_true,decide_eq_true_iff,Ke ns a k]
  constructor
  ·rintro (h|⟨j,hj,h⟩)
   ·exact⟨k,by omega,h⟩
   ·exact⟨j,by omega,h⟩
  ·rintro⟨j,hj,h⟩
   by_cases e:j=k
   ·subst e;exact .inl h
   ·exact .inr ⟨j,by omega,h⟩
theorem DN.tabs{n:bw}(h:DN n):∀ i:Nat,i<=n.2.2.length→∀ k:Nat,k<n.1.length->GT (20+i) (bv (n.1.getD k default)) ((c8 n i).getD k default)
 | 0,_,k,hk=>by
  rw[c8,xI hk];exact h.gt hk
 | i+1,hi,k,hk=>by
  have ih:=h.tabs i (by omega)
  have hc:=h.c _ (mN (i:=i) (xs:=n.2.2) (by omega))
  rw[c8]
  by_cases e:(bu (n.2.2.getD i default)).toNat=k
  ·rw[e,iw (by rw[oW];omega)]
   have g:=ih k hk
   obtain⟨r,hr,p1,p2⟩:=hc.p
   rw[e] at hr
   have gr:=(h.gt hk).r r hr
   have hx:=hc.x
   rw[e] at hx
   refine⟨?_,?_,fun x hx'=>?_⟩
   ·unfold fJ;rw[if_neg (by rw[hc.r];simp)];exact Cf g.s
   ·unfold fJ;rw[if_neg (by rw[hc.r];simp)]
    have:=N1 ((c8 n i).getD k default) (dh (n.2.2.getD i default))
    have:=g.n
    omega
   ·unfold fJ at hx';rw[if_neg (by rw[hc.r];simp)] at hx'
    rcases Pe hx' with rfl|hx'
    ·refine⟨by rw[p1];exact gr.1,⟨?_,by rw[p2];exact gr.2.2⟩⟩
     rcases hx with q|⟨y,hy,q⟩ <;> rw[q]
     ·exact⟨by simp,fun j hj=>absurd hj (by simp)⟩
     ·refine⟨by simp,fun j hj=>?_⟩
      have:j=0:=by simpa using hj
      subst this
      exact⟨fun k=>absurd k (by omega),List.mem_map_of_mem (f:=(·.2)) hy⟩
    ·exact g.r x hx'
  ·have g:=ih k hk
   have e2:((c8 n i).set (bu (n.2.2.getD i default)).toNat (fJ ((c8 n i).getD (bu (n.2.2.getD i default)).toNat default) (n.2.2.getD i default))).getD k default=(c8 n i).getD k default:=by
    exact kA e
   rw[e2]
   exact⟨g.s,by have:=g.n;omega,g.r⟩
theorem DN.right{n:bw}(h:DN n)(hp:∀ i:Nat,i<n.1.length->0<(aC (n.1.getD i default)).length):d7 n=0:=by
 have n3:=h.n3
 have n7:=h.n7
 have l10:=h.l10
 have h3:=h.h3
 have e1:nD n=0:=by unfold nD;rw[if_neg (by omega)]
 have e2:lC n=0:=by
  unfold lC
  rw[if_pos]
  rw[List.all_eq_true]
  intro l hl
  obtain⟨a,b,c,d,e,f,g⟩:=h.g l hl
  refine decide_eq_true ?_
  unfold iN
  omega
 have e3:lu n=0:=zK fun i hi=>by
  unfold lW
  rw[if_neg (fun k=>k (h.node hi (hp i hi))),if_neg]
  rw[List.any_eq_true]
  rintro⟨k,hk,hs⟩
  obtain⟨a,b,c⟩:=(h.links hi).1 hk
  unfold nW at hs
  simp only[Bool.or_eq_true,Bool.not_eq_true',decide_eq_true_eq,Bool.or_eq_false_iff,decide_eq_false_iff_not] at hs
  rcases hs with hs|⟨s1,s2⟩
  ·omega
  ·rcases c with c|c
   ·exact s1 c
   ·exact s2 c
 have e4:nI n=0:=by
  unfold nI
  rw[if_neg]
  rw[List.any_eq_true]
  rintro⟨k,hk,hs⟩
  have hk:=List.mem_range.1 hk
  obtain⟨⟨a0,a1⟩,⟨b0,b1⟩,-⟩:=h.g _ (mN hk)
  unfold n8 at hs
  simp only[Bool.or_eq_true,decide_eq_true_eq] at hs
  have key:∀ i:Int,0<=i->i<n.1.length->(lA (n.2.1.getD k default)=i∨lB (n.2.1.getD k default)=i)→¬ cL (n.1.getD i.toNat default) k<0:=fun i i0 i1 hq hlt=>by
   have hi:i.toNat<n.1.length:=by omega
   have:(k:Int)∈bv (n.1.getD i.toNat default):=(h.links hi).2 ⟨by omega,by omega,by rw[Int.toNat_natCast];rcases hq with q|q;left;omega;right;omega⟩
   obtain⟨y,hy,e⟩:=List.mem_map.1 this
   have:=as5 (q:=gS k) hy (by simp[gS,e])
   have e5:cL (n.1.getD i.toNat default) k=fT (gS k) (aC (n.1.getD i.toNat default)):=rfl
   omega
  rcases hs with hs|hs
  ·exact key _ a0 a1 (.inl rfl) hs
  ·exact key _ b0 b1 (.inr rfl) hs
 have e5:pT n=0:=by
  unfold pT
  rw[if_neg]
  unfold MT
  rw[List.any_eq_true]
  rintro⟨i,hi,hs⟩
  have hi:=List.mem_range.1 hi
  obtain⟨a,ha,hm⟩:=List.any_eq_true.1 hs
  obtain⟨j,hj,hb⟩:=(Ke n.1 a i).1 hm
  have:=h.apart (i:=i) (j:=j) hi (by omega) ha hb
  omega
 have e6:oO n=0:=by
  unfold oO
  rw[if_neg]
  rw[List.any_eq_true]
  rintro⟨l,hl,hs⟩
  rw[h.o l hl] at hs;cases hs
 have e7:na n=0:=zK fun i hi=>by
  have hc:=h.c _ (mN (i:=i) (xs:=n.2.2) hi)
  have ha:=hc.at'
  have hw:=hc.w
  have hk:(bu (n.2.2.getD i default)).toNat<n.1.length:=by omega
  have hs:0<i->fQ (n.2.2.getD (i-1) default)<=fQ (n.2.2.getD i default):=fun h0=>LT h.s (by omega) hi
  have g:=h.tabs (i+1) (by omega) _ hk
  rw[c8,iw (by rw[oW];omega)] at g
  unfold iy mX
  rw[if_neg (by omega),if_neg (by rintro⟨k0,k1⟩;have:=hs k0;omega),if_neg (by omega),if_neg (by rintro⟨k0,-⟩;rw[hc.r] at k0;cases k0)]
  exact g.ok (by omega)
 unfold d7 mU
 simp[e1,e2,e3,e4,e5,e6,e7]
end Go.RS

/- Law15a: what the laws about the simulator draw. -/
namespace Go.RS
open Go.SX Go.Proofs
set_option maxRecDepth 100000
set_option linter.unusedVariables false
set_option maxHeartbeats 1000000
theorem O3{k:Int}{n:bw}(h:K4 k n)(hk:k<=1000000):m4 n:=by
 obtain⟨h1,h2,h3,h4,h5⟩:=h
 refine⟨by omega,by omega,by omega,fun x hx=>?_,fun c hc=>?_⟩
 ·obtain⟨a,b,c⟩:=h4 x hx
  exact⟨by show (x.1.length:Int)<=1000000;omega,by omega,fun r hr=>by have:=c r hr;omega⟩
 ·have:=h5 c hc
  show (c.2.2.2.2.1.length:Int)<=_
  omega
theorem cJ.new{n:bw}{B:Int}(h:d7 n=0)(ha:td n)(hc:m4 n)(h0:0<=B)(h1:B<=549755813888):cJ B (jo n):=by
 have e:gh (jo n)=0:=rfl
 exact⟨h1,by rw[e];exact (bT.new h).more (by omega),ha,hc,fun x hx=>(by cases hx),by rw[e];show ((0:Nat):Int)+2*((0:Nat):Int)<=B;omega,by rw[e];show ((0:Nat):Int)+((0:Nat):Int)<=B;omega⟩
theorem U8{n:bw}{f:aK}(hb:bytes (da f)):mG n f<=1114:=by
 have:=IK hb
 unfold mG
 have h1:(if dC (n.1.getD (aP f).toNat default)=true then 1 else 0)<=1:=by split <;> omega
 have h2:(if dR f = -1 then 2 else 0)<=2:=by split <;> omega
 have h3:(if cq (da f) then 600 else 0)<=600:=by split <;> omega
 omega
theorem cJ.send{w:aq}{B:Int}(h:cJ B w)(hB:B+4000<=549755813888){at' who:Int}{b:List Int}(he:gO w at' who=0)(hb:bytes b)(hl:(b.length:Int)<=2000) :
  cJ (B+4000) (iY w at' who b)/\aX (iY w at' who b)=aX w+1/\ao (iY w at' who b)=ao w:=by
 unfold gO at he
 split at he
 ·cases he
 rename_i q1
 split at he
 ·cases he
 rename_i q2
 split at he
 ·cases he
 rename_i q3
 split at he
 ·cases he
 rename_i q4
 obtain⟨s1,s2⟩:=h.sB.send (by omega) (at':=at') (who:=who) (b:=b) ⟨by omega,by omega⟩ ⟨by omega,by omega⟩ hb hl (by omega)
 have hp:gh (iY w at' who b)=gh w+mG (ao w) (at',aX w,who,-1,aX w,b):=K0 _ _ _
 have hf:mG (ao w) (at',aX w,who,-1,aX w,b)<=1114:=U8 hb
 have h1:=h.e
 have h2:=h.d
 exact⟨⟨hB,s1.more (by omega),h.a,h.c,h.dd,by show ((aQ w).length:Int)+_<=_;omega,by show ((aO w).length:Int)+_<=_;omega⟩,s2,rfl⟩
theorem DN.newOk{n:bw}(h:DN n)(hp:∀ i,i<n.1.length->0<(aC (n.1.getD i default)).length):cJ 4000 (jo n):=cJ.new (h.right hp) (fun i hi=>ab0 h hi) (O3 h.nb (by decide)) (by decide) (by decide)
def mK:bw:=([([(167772161,0)],0,0,true,[((0,0),[0],1)],1,0,0,0,0,(0,0),false,false,64,0),([(167772162,0)],0,0,false,[((0,0),[0],1)],1,0,0,0,0,(0,0),false,false,64,0)],[(0,1,10,0,0,0)],[])
def rN:List Int:=build (167772161,167772169,17,0,0,1)
theorem EP:d7 mK=0:=by decide +kernel
theorem WP:(aO (jv (iY (jo mK) 0 0 rN) 100)).length=1/\((aO (jv (iY (jo mK) 0 0 rN) 100)).getD 0 default).1=20/\aT (jv (iY (jo mK) 0 0 rN) 100)=100:=by decide +kernel
theorem Ze:td mK:=by
 intro i hi
 have hi:i<2:=hi
 match i,hi with
 | 0,_=>unfold oV u32;decide
 | 1,_=>unfold oV u32;decide
theorem No:m4 mK:=by
 refine⟨by decide,by decide,by decide,fun x hx=>?_,fun c hc=>by cases hc⟩
 have hx:x∈[(([(167772161,0)],0,0,true,[((0,0),[0],1)],1,0,0,0,0,(0,0),false,false,64,0):ac),([(167772162,0)],0,0,false,[((0,0),[0],1)],1,0,0,0,0,(0,0),false,false,64,0)]:=hx
 unfold okL
 rcases List.mem_cons.1 hx with rfl|hx
 ·decide
 ·rcases List.mem_cons.1 hx with rfl|hx
  ·decide
  ·cases hx
theorem Co:cJ 4000 (jo mK):=cJ.new EP Ze No (by decide) (by decide)
theorem Dp:gO (jo mK) 0 0=0:=by decide +kernel
structure j9 (m:Int) (w:aq):Prop where
 ok:cJ (4000+4000*m) w
 m9:0<=m/\m<=9
 now:aT w=0
 fn:((am w).length:Int)=m
 ord:aX w=m
 en:aQ w=[]
 dl:aO w=[]
 at':∀ f∈am w,ax f<=40
 og:∀ o,0<=o->o<aX w->tR (je o (am w)) (kO o (aQ w))
theorem j9.new{n:bw}(h:cJ 4000 (jo n)):j9 0 (jo n) :=
 ⟨h.more (by decide) (by decide),⟨by decide,by decide⟩,rfl,rfl,rfl,rfl,rfl,fun f hf=>(by cases hf),fun o h0 h1=>by have h1:o<0:=h1;omega⟩
theorem j9.send{w:aq}{m:Int}(h:j9 m w)(hm:m+1<=9){at':Int}{b:List Int}(h0:0<=at')(h1:at'<=40)(hb:bytes b)(hl:(b.length:Int)<=2000):gO w at' 0=0/\j9 (m+1) (iY w at' 0 b):=by
 have hm0:=h.m9
 have he:gO w at' 0=0:=by
  have hn:=u6 h.ok.s.net
  have:=h.now
  have:=h.fn
  unfold gO
  rw[if_neg (by omega),if_neg (by omega),if_neg (by omega),if_neg (by omega)]
 obtain⟨k1,k2,k3⟩:=h.ok.send (by omega) he hb hl
 have hf:∀ f∈am w,dO f<aX w:=fun f hf=>(h.ok.s.fo f hf).g.2
 obtain⟨g1,g2⟩:=ZL (w:=w) (at':=at') (who:=0) (b:=b) hf (fun e he=>by rw[h.en] at he;cases he)
 have ho:=h.ord
 have hfn:=h.fn
 refine⟨he,k1.more (by omega) (by omega),⟨by omega,by omega⟩,h.now,?_,by rw[k2];omega,h.en,h.dl,fun f hf=>?_,fun o o0 o1=>?_⟩
 ·show ((c9 (am w) (at',aX w,0,-1,aX w,b)).length:Int)=_
  rw[Av];omega
 ·rcases wB.1 hf with rfl|hf
  ·exact h1
  ·exact h.at' f hf
 ·by_cases e:o=aX w
  ·rw[e];exact g1
  ·obtain⟨e1,e2⟩:=g2 o e
   rw[e1,e2]
   exact h.og o o0 (by rw[k2] at o1;omega)
theorem j9.aw:j9 0 (jo mK):=j9.new Co
def M2:Cn:=⟨[.agg iC],[.val ck,.val ck],fun _=>[],fun d y=>u32 y.1.1/\u32 y.1.2.1,fun d h=>⟨((0,0,()),()),by unfold u32;decide,by unfold u32;decide⟩⟩
def Yt:ar M2.ps->ay:=(fun d=>{loops:=(fun n=>match n with|4=>some (fun S=>{ι:=Int,μ:=fun i=>i.toNat,inv:=fun i=>0<=i/\i+1<=d.1.1.length/\0<(aC (d.1.1.getD 0 default)).length,keep:=[1],slots:=fun i=>[(4,.int .i64 i)],keepN:=[32],names:=fun i=>[]})|_=>none)})
def wy(a:List ac) :=
 a.getD (Int.toNat (0:Int)) default
def uy(d:Bool) :=
 (! d)->((! d)->(! d))/\True
def Bo(a:List ac) :=
 (0:Nat)<List.length (aC (a.getD (0:Nat) default))
def zJ(a:List ac) :=
 List.getD (wy a).1 (Int.toNat (0:Int)) default
theorem av6 :
 ∀(a:List ac)(b:List aF)(c:List aN),((a.length<=maxLen/\ ∀(d:ac),d∈a->CT.wf bH d)/\(b.length<=maxLen/\ ∀(d:aF),d∈b->CT.wf fy d)/\c.length<=maxLen/\ ∀(d:aN),d∈c->CT.wf dZ d)/\True->True-> ∀(d:Bool),d=decide ((a.length:Int)=0)->(uy d)/\((! d)->((! d)->(! d))/\(0:Int)<=0/\0<(a.length:Int)/\True)/\(uy d)/\(uy d)/\(uy d)/\(uy d)/\(d=false->(! d))/\ad (bif d then true else decide (((List.length (wy a).1):Int)=0)) (u32 (0:Int)/\u32 (0:Int)) ((∃(e:Int),(0<=e/\e+1<=(a.length:Int)/\(Bo a))/\IntKind.wrap .i64 ((a.length:Int) -(1:Int))=e/\a=a/\b=b/\c=c/\True)/\ ∀(e:Int),0<=e/\e+1<=(a.length:Int)/\(Bo a)->ad (decide (0<e)) (0<=e/\e<(a.length:Int)/\ ∀(f:Bool),f=(a.getD e.toNat default).2.2.2.1->(f->(f->f)/\True)/\(f->(f->f)/\(f->f)/\0<=e/\e<(a.length:Int)/\True)/\(f->(f->f)/\True)/\(f->(f->f)/\True)/\(f->(f->f)/\True)/\(f->(f->f)/\True)/\(f->f)/\ad (bif f
 then decide (0<((List.length (a.getD e.toNat default).1):Int)) else false) ((0:Int)<=0/\0<(a.length:Int)/\(0:Int)<=0/\0<((List.length (wy a).1):Int)/\0<=e/\e<(a.length:Int)/\(0:Int)<=0/\0<((List.length (a.getD e.toNat default).1):Int)/\u32 (zJ a).1/\u32 (List.getD (a.getD e.toNat default).1 (Int.toNat (0:Int)) default).1) (∃(g:Int),(0<=g/\g+1<=(a.length:Int)/\(Bo a))/\g.toNat<e.toNat/\IntKind.wrap .i64 (e -(1:Int))=g/\a=a/\b=b/\c=c/\True)) ((0:Int)<=0/\0<(a.length:Int)/\(0:Int)<=0/\0<((List.length (wy a).1):Int)/\(0:Int)<=0/\0<(a.length:Int)/\(0:Int)<=0/\0<((List.length (wy a).1):Int)/\u32 (zJ a).1/\u32 (zJ a).1)):=by
  delta wy uy Bo zJ
  rintro ns ls hs ⟨⟨⟨hnl,hw⟩,-⟩,-⟩ -
  simp only[maxLen] at hnl
  have hu:∀ j:Int,0<=j->j<ns.length->(0:Int)<((ns.getD j.toNat default).1.length:Int)->u32 ((ns.getD j.toNat default).1.getD (Int.toNat 0) default).1:=by
   intro j j0 j1 hp
   exact ((hw _ (bL j0 j1)).1.2 _ (bL (by decide) hp)).1
  intro b hb
  (repeat refine⟨fun h_=>(by first|exact⟨fun _=>h_,by omega,by rw[hb] at h_;have:=fY h_;omega,trivial⟩|(simp;done)|(simp[h_];done)|(simp_all;done)),?_⟩)
  rw[hb,Fa]
  refine ae (fun h=>?_) (fun h=>?_)
  ·exact⟨by unfold u32;decide,by unfold u32;decide⟩
  have h:=of_decide_eq_false h
  have hn0:0<ns.length:=by omega
  have hp0:0<(aC (ns.getD 0 default)).length:=by show 0<(ns.getD (Int.toNat 0) default).1.length;omega
  have hz:(0:Int)<((ns.getD (Int.toNat 0) default).1.length:Int):=by show (0:Int)<((aC (ns.getD 0 default)).length:Int);omega
  rw[af (n:=(ns.length:Int)-1) (by omega) (by omega)]
  refine⟨⟨(ns.length:Int)-1,⟨by omega,by omega,hp0⟩,(by repeat' first|exact trivial|refine⟨trivial,?_⟩|refine⟨(by with_reducible rfl),?_⟩|refine⟨af (by omega) (by omega),?_⟩|refine⟨rfl,?_⟩)⟩,?_⟩
  rintro i ⟨i0,i1,-⟩
  refine ae (fun hi=>?_) (fun hi=>?_)
  ·have hi:=of_decide_eq_true hi
   refine⟨i0,by omega,?_⟩
   intro b2 hb2
   (repeat refine⟨fun h_=>(by first|exact⟨fun _=>h_,fun _=>h_,i0,by omega,trivial⟩|(simp;done)|(simp[h_];done)|(simp_all;done)),?_⟩)
   refine su (fun k1 k2=>?_) (fun k=>?_)
   ·have k2:=of_decide_eq_true k2
    exact⟨by omega,by omega,by omega,hz,i0,by omega,by omega,k2,hu 0 (by omega) (by omega) hz,hu i i0 (by omega) k2⟩
   ·rw[af (by omega) (by omega)]
    exact⟨i-1,⟨by omega,by omega,hp0⟩,by omega,(by repeat' first|exact trivial|refine⟨trivial,?_⟩|refine⟨(by with_reducible rfl),?_⟩|refine⟨af (by omega) (by omega),?_⟩|refine⟨rfl,?_⟩)⟩
  ·exact⟨by omega,by omega,by omega,hz,by omega,by omega,by omega,hz,hu 0 (by omega) (by omega) hz,hu 0 (by omega) (by omega) hz⟩
theorem au9:av Tryz.prog GL 32 M2.spec:=Cn.okH _ Tryz.func32 (by kernel_rfl) aA au Yt (aB (by kernel_rfl) av6)
def LO:Cn:=⟨[.box 109 f6,.val (.sl bm)],[.own 5 bm],fun d=>[az d.1,(d.2.1.length:Int)<=1000000],fun d y=>(y.1.1.length:Int)<=d.2.1.length+1/\bytes y.1.1/\az y.2.1,fun d h=>⟨(([],()),(d.1,())),by simp;omega,fun x hx=>(by cases hx),h.1⟩⟩
def ag4:ar LO.ps->ay:=(fun _=>{})
def EB(c:List Int)(d j:Int) :=
 List.set c d.toNat (bits BinOp.xor IntKind.u8 (c.getD d.toNat default) (IntKind.wrap .u8 (IntKind.wrap .i64 ((1:Int)+j))))
def jI(c:List Int) :=
 (c.length:Int)
theorem YA :
 ∀(a:List Int)(b:Int)(c:List Int),((a.length<=maxLen/\ ∀(d:Int),d∈a->0<=d/\d<=255)/\ab b)/\(c.length<=maxLen/\ ∀(d:Int),d∈c->0<=d/\d<=255)/\True->az (a,b)/\(jI c)<=1000000->c.length*(1:Nat)<=(140737488355328:Nat)/\ad (decide ((jI c)=0)) (az (a,b)/\ ∀(d:Int)(e:List Int)(f:Int),0<=d/\(d<256∨d=0)/\az (e,f)->((List.length [IntKind.wrap .u8 d]):Int)<=(jI c)+(1:Int)/\bytes [IntKind.wrap .u8 d]/\az (e,f)) (az (a,b)/\ ∀(d:Int)(e:List Int)(f:Int),0<=d/\(d<(jI c)∨d=0)/\az (e,f)->az (e,f)/\ ∀(g:Int)(h:List Int)(i:Int),0<=g/\(g<4∨g=0)/\az (h,i)->ad (decide (g=0)) (0<=d/\d<=(jI c)/\0<=IntKind.wrap .i64 (d+(1:Int))/\IntKind.wrap .i64 (d+(1:Int))<=(jI c)/\(jI c)<=(jI c)/\(List.length (List.take d.toNat c)+List.length (ce c (Int.toNat (IntKind.wrap .i64 (d+(1:Int)))) (Int.toNat (jI c))))*(1:Nat)<=(140737488355328:Nat)/\((List.length (List.take d.toNat c++ce c
 (Int.toNat (IntKind.wrap .i64 (d+(1:Int)))) (Int.toNat (jI c)))):Int)<=(jI c)+(1:Int)/\bytes (List.take d.toNat c++ce c (Int.toNat (IntKind.wrap .i64 (d+(1:Int)))) (Int.toNat (jI c)))/\az (h,i)) (ad (decide (g=1)) (az (h,i)/\ ∀(j:Int)(k:List Int)(l:Int),0<=j/\(j<256∨j=0)/\az (k,l)->(c.length+List.length [IntKind.wrap .u8 j])*(1:Nat)<=(140737488355328:Nat)/\((List.length (c++[IntKind.wrap .u8 j])):Int)<=(jI c)+(1:Int)/\bytes (c++[IntKind.wrap .u8 j])/\az (k,l)) (0<=d/\d<(jI c)/\az (h,i)/\ ∀(j:Int)(k:List Int)(l:Int),0<=j/\(j<255∨j=0)/\az (k,l)->0<=d/\d<(jI c)/\((List.length (EB c d j)):Int)<=(jI c)+(1:Int)/\bytes (EB c d j)/\az (k,l)))):=by
  delta EB jI
  rintro l p b ⟨-,⟨-,hb⟩,-⟩⟨hc,hl⟩
  have hb:bytes b:=hb
  have u8:∀ x:Int,bytes [IntKind.wrap .u8 x]:=fun x y hy=>by rw[List.mem_singleton.1 hy];exact H4 x
  have app:∀{x y:List Int},bytes x->bytes y->bytes (x++y):=fun hx hy z hz=>by rcases List.mem_append.1 hz with q|q;exact hx z q;exact hy z q
  refine⟨by omega,ae (fun h=>⟨hc,?_⟩) (fun h=>⟨hc,?_⟩)⟩
  ·rintro x l2 p2 ⟨-,-,h3⟩
   exact⟨by simp only[List.length_singleton];omega,u8 x,h3⟩
  have h:=of_decide_eq_false h
  rintro k l2 p2 ⟨k0,k1,hc⟩
  have hk:k<b.length:=by omega
  refine⟨hc,?_⟩
  rintro w l3 p3 ⟨w0,w1,hc⟩
  refine ae (fun _=>?_) (fun _=>ae (fun _=>⟨hc,?_⟩) (fun _=>⟨k0,hk,hc,?_⟩))
  ·rw[af (n:=k+1) (by omega) (by omega)]
   refine⟨k0,by omega,by omega,by omega,by omega,?_,?_,?_,hc⟩
   ·rw[sr,List.length_take,List.length_drop];omega
   ·rw[List.length_append,sr,List.length_take,List.length_drop];omega
   ·rw[sr]
    exact app (zi hb) (rQ hb)
  ·rintro x l4 p4 ⟨-,-,h4⟩
   exact⟨by simp only[List.length_singleton];omega,by simp only[List.length_append,List.length_singleton];omega,app hb (u8 x),h4⟩
  ·rintro x l4 p4 ⟨-,-,h4⟩
   refine⟨k0,hk,by rw[List.length_set];omega,fun z hz=>?_,h4⟩
   rcases List.mem_or_eq_of_mem_set hz with q|q
   ·exact hb z q
   ·rw[q];exact H4 _
theorem Sf:av Tryz.prog GL 69 LO.spec:=Cn.okH _ Tryz.func69 (by kernel_rfl) (Gl (ah aA qU) (d:=26)) au ag4 (aB (by kernel_rfl) YA)
def L4:Cn:=⟨[.box 109 f6,.agg iC],[.val (.sl bm)],fun d=>[az d.1],fun d y=>az y.2.1/\bytes y.1.1/\(y.1.1.length:Int)<=1600,fun d h=>⟨(([],()),(d.1,())),h.1,fun x hx=>(by cases hx),by simp⟩⟩
def SQ:ar L4.ps->ay:=(fun _=>{})
theorem XD :
 ∀(a:List Int)(b:Int)(c:List ac)(d:List aF)(e:List aN),((a.length<=maxLen/\ ∀(f:Int),f∈a->0<=f/\f<=255)/\ab b)/\((c.length<=maxLen/\ ∀(f:ac),f∈c->CT.wf bH f)/\(d.length<=maxLen/\ ∀(f:aF),f∈d->CT.wf fy f)/\e.length<=maxLen/\ ∀(f:aN),f∈e->CT.wf dZ f)/\True->0<=b/\b<=(a.length:Int)->az (a,b)/\ ∀(f g h i j k:Int)(l:List Int)(m:Int),az (l,m)/\u32 f/\u32 g/\dN (f,g,h,i,j,k)=0-> ∀(n o:Int),u32 n/\u32 o->az (l,m)/\ ∀(p:Int)(q:List Int)(r:Int),az (q,r)/\0<=p/\p<=4294967295-> ∀(s:List Int)(t:Int),s=build (n,p,h,i,j,k)/\t=dN (n,p,h,i,j,k)->az (q,r)/\ ∀(u:Int)(v:List Int)(w:Int),0<=u/\(u<12∨u=0)/\az (v,w)->ad (decide (u=11)) (az (v,w)/\(s.length:Int)<=1000000/\ ∀(x y:List Int)(z:Int),(x.length:Int)<=(s.length:Int)+(1:Int)/\bytes x/\az (y,z)->az (y,z)/\bytes x/\(x.length:Int)<=1600) (az (v,w)/\bytes s/\(s.length:Int)<=1600):=by
  rintro l p ns ls hs-hc
  refine⟨hc,?_⟩
  rintro a b c e f g l2 p2 ⟨hc2,-,-,-⟩
  rintro a1 a2 -
  refine⟨hc2,?_⟩
  rintro d l3 p3 ⟨hc3,-,-⟩
  rintro bb q ⟨rfl,-⟩
  have hbl:=Ft (a1,d,c,e,f,g)
  refine⟨hc3,?_⟩
  rintro x l4 p4 ⟨-,-,hc4⟩
  refine ae (fun _=>⟨hc4,by omega,?_⟩) (fun _=>⟨hc4,Gv _,by omega⟩)
  rintro y l5 p5 ⟨k1,k2,k3⟩
  exact⟨k3,k2,by omega⟩
theorem af1:av Tryz.prog GL 25 L4.spec:=Cn.okH _ Tryz.func25 (by kernel_rfl) (ah (ah (ah (ah (ah (ah aA R7) au9) VN) (Ct.named Pd)) qU) Sf) au SQ (aB (by kernel_rfl) XD)
def Ib:Ct:=⟨[],[.val .bool],fun _=>[],fun _=>((true,()),())⟩
def TP:ar Ib.ps->ay:=(fun _=>{})
def zE :=
 ([([((167772161:Int),(0:Int))],(0:Int),(0:Int),true,[(((0:Int),(0:Int)),[(0:Int)],(1:Int))],(1:Int),(0:Int),(0:Int),(0:Int),(0:Int),((0:Int),(0:Int)),false,false,(64:Int),(0:Int)),([((167772162:Int),(0:Int))],(0:Int),(0:Int),false,[(((0:Int),(0:Int)),[(0:Int)],(1:Int))],(1:Int),(0:Int),(0:Int),(0:Int),(0:Int),((0:Int),(0:Int)),false,false,(64:Int),(0:Int))],[((0:Int),(1:Int),(10:Int),(0:Int),(0:Int),(0:Int))],([]:List aN))
def Cz :=
 ((167772161:Int),(167772169:Int),(17:Int),(0:Int),(0:Int),(1:Int))
theorem ar2 :
 True->True->m4 (zE)/\ ∀(a:(List ac×List aF×List aN)×Int×Int×Int×List (List aD×Int×List Int×(Int×Int)×Int)×List Int×List (Int×Int×Int×Int×Int×List Int)×List (Int×Int×List Int)×List (Int×Int×Int×Int×Int))(b:Int),a=tF (zE)/\b=d7 (zE)-> ∀(c:List Int)(d:Int),c=build (Cz)/\d=dN (Cz)->fZ a/\(jI c)<=1000000/\ ∀(e:(List ac×List aF×List aN)×Int×Int×Int×List (List aD×Int×List Int×(Int×Int)×Int)×List Int×List (Int×Int×Int×Int×Int×List Int)×List (Int×Int×List Int)×List (Int×Int×Int×Int×Int))(f g:Int),e=kT a (0:Int) (0:Int) c/\f=nt a (0:Int) (0:Int)/\g=gO a (0:Int) (0:Int)->fZ e/\ ∀(h:(List ac×List aF×List aN)×Int×Int×Int×List (List aD×Int×List Int×(Int×Int)×Int)×List Int×List (Int×Int×Int×Int×Int×List Int)×List (Int×Int×List Int)×List (Int×Int×Int×Int×Int))(i:Int),h=mg e (100:Int)/\i=ic e (100:Int)-> ∀(j:Bool),j=decide
 (b=0)->(j->(j->j)/\True)/\(j->j)/\ ∀(k:Bool),(k=bif j then decide (g=0) else false)->(k->(k->k)/\True)/\(k->k)/\ ∀(l:Bool),(l=bif k then decide (i=0) else false)->(l->(l->l)/\True)/\(l->(l->l)/\True)/\(l->(l->l)/\True)/\(l->l)/\ ∀(m:Bool),(m=bif l then decide ((h.2.2.2.2.2.2.2.1.length:Int)=1) else false)->(m->(m->m)/\True)/\(m->(m->m)/\(0:Int)<=0/\0<(h.2.2.2.2.2.2.2.1.length:Int)/\True)/\(m->(m->m)/\True)/\(m->(m->m)/\True)/\(m->(m->m)/\True)/\(m->m)/\ ∀(n:Bool),(n=bif m then decide ((List.getD h.2.2.2.2.2.2.2.1 (Int.toNat (0:Int)) default).1=20) else false)->(n->(n->n)/\True)/\(n->(n->n)/\True)/\(n->n)/\(bif n then decide (h.2.1=100) else false)=true:=by
  delta zE jI Cz
  rintro - -
  refine⟨No,?_⟩
  rintro d x ⟨hd,hx⟩
  rintro b e ⟨rfl,-⟩
  have hd:d=jo mK:=by rw[hd];exact if_pos EP
  have hx:x=0:=by rw[hx];exact EP
  subst hd hx
  refine⟨.inl Co.sim,by have:=Ft (167772161,167772169,17,0,0,1);omega,?_⟩
  rintro d2 o e2 ⟨hd2,-,he2⟩
  have he2:e2=0:=he2.trans Dp
  have hd2:d2=iY (jo mK) 0 0 rN:=by rw[hd2];unfold kT;rw[if_pos Dp];rfl
  subst he2
  have hbl:((rN).length:Int)<=2000:=by have:=Ft (167772161,167772169,17,0,0,1);unfold rN;omega
  have ok2:=(Co.send (by decide) Dp (b:=rN) (Gv _) hbl).1
  rw[← hd2] at ok2
  refine⟨.inl ok2.sim,?_⟩
  rintro d3 e3 ⟨hd3,he3⟩
  have hn:aT d2=0:=by rw[hd2];rfl
  have hr:ic d2 100=0:=by unfold ic;rw[hn];decide
  have he3:e3=0:=he3.trans hr
  subst he3
  have hd3:d3=jv (iY (jo mK) 0 0 rN) 100:=by rw[hd3,← hd2];unfold mg;rw[if_pos hr]
  obtain⟨r1,r2,r3⟩:=WP
  rw[← hd3] at r1 r2 r3
  have r1:d3.2.2.2.2.2.2.2.1.length=1:=r1
  have r2:(d3.2.2.2.2.2.2.2.1.getD (Int.toNat 0) default).1=20:=r2
  have r3:d3.2.1=100:=r3
  have rl:(d3.2.2.2.2.2.2.2.1.length:Int)=1:=by omega
  intro b1 hb1
  have hb1:b1=true:=by rw[hb1];decide
  subst hb1
  (repeat refine⟨(by simp),?_⟩)
  intro b2 hb2
  have hb2:b2=true:=by rw[hb2];decide
  subst hb2
  (repeat refine⟨(by simp),?_⟩)
  intro b3 hb3
  have hb3:b3=true:=by rw[hb3];decide
  subst hb3
  (repeat refine⟨(by simp),?_⟩)
  intro b4 hb4
  have hb4:b4=true:=by rw[hb4,rl];decide
  subst hb4
  (repeat refine⟨(by first|(simp;done)|(simp;omega)),?_⟩)
  intro b5 hb5
  have hb5:b5=true:=by rw[hb5,r2];decide
  subst hb5
  (repeat refine⟨(by simp),?_⟩)
  rw[r3];decide
theorem Yg:av Tryz.prog GL 8 Ib.spec:=Ct.okH _ Tryz.func8 (by kernel_rfl) (ah (ah (ah (ah aA (Ct.named Lc)) (Ct.named Pd)) (Ct.named KB)) (Ct.named Mz)) au TP (aB (by kernel_rfl) ar2)
def Ip:Cn:=⟨[.box 109 f6],[.agg iI,.val .bool],fun d=>[az d.1],fun d y=>az y.2.1/\y.1.2.1=true∧∃ m,j9 m y.1.1,fun d h=>⟨((jo mK,true,()),(d.1,())),h.1,rfl,0,j9.aw⟩⟩
def Wq:ar Ip.ps->ay:=(fun d=>{loops:=(fun n=>match n with|5=>some (fun S=>{ι:=Int×(List Int×Int)×aq,qn:=⟨fun k_=>∀(k:Int)(c:(List Int×Int))(w:aq),k_ (k,c,w),fun k_ h_ i=>h_ i.1 i.2.1 i.2.2,fun k_=>∃ (k:Int) (c:(List Int×Int)) (w:aq),k_ (k,c,w),fun k_ ⟨k,c,w,h_⟩=>⟨_,h_⟩⟩,μ:=fun i=>i.1.toNat,inv:=fun i=>0<=i.1/\az i.2.1∧∃ m,j9 m i.2.2/\m+i.1<=8,keep:=[0,2,4],slots:=fun i=>[(5,.ptr 96 0),(7,.bool true),(8,.int .i64 i.1)],keepN:=[48,80],names:=fun i=>[(1048576,.live (.cells 109 (cy f6 i.2.1))),(96,.live (.cells 37 (cy iI i.2.2)))]})|_=>none)})
theorem X3 :
 ∀(a:List Int)(b:Int),((a.length<=maxLen/\ ∀(c:Int),c∈a->0<=c/\c<=255)/\ab b)/\True->0<=b/\b<=(a.length:Int)->az (a,b)/\ ∀(c:List ac)(d:List aF)(e:List aN)(f:List Int)(g:Int),(c,d,e)=ou false (a,b)/\(f,g)=u4 false (a,b)->m4 (c,d,e)/\ ∀(h:(List ac×List aF×List aN)×Int×Int×Int×List (List aD×Int×List Int×(Int×Int)×Int)×List Int×List (Int×Int×Int×Int×Int×List Int)×List (Int×Int×List Int)×List (Int×Int×Int×Int×Int))(i:Int),h=tF (c,d,e)/\i=d7 (c,d,e)->az (f,g)/\ ∀(j:Int)(k:List Int)(l:Int),0<=j/\(j<8∨j=0)/\az (k,l)->(∃(m:Int) (n:List Int×Int),∃(o:aq),(0<=m/\az n/\ ∃(p:Int),j9 p o/\p+m<=8)/\decide (i=0)=true/\IntKind.wrap .i64
 ((1:Int)+j)=m/\(0:Int)=0/\(0:Int)=0/\(0:Int)=0/\c=c/\d=d/\e=e/\k=n.1/\l=n.2/\h.1.1=o.1.1/\h.1.2.1=o.1.2.1/\h.1.2.2=o.1.2.2/\h.2.1=o.2.1/\h.2.2.1=o.2.2.1/\h.2.2.2.1=o.2.2.2.1/\h.2.2.2.2.1=o.2.2.2.2.1/\h.2.2.2.2.2.1=o.2.2.2.2.2.1/\h.2.2.2.2.2.2.1=o.2.2.2.2.2.2.1/\h.2.2.2.2.2.2.2.1=o.2.2.2.2.2.2.2.1/\h.2.2.2.2.2.2.2.2=o.2.2.2.2.2.2.2.2/\True)/\ ∀(m:Int)(n:List Int×Int)(o:aq),(0<=m/\az n/\ ∃(p:Int),j9 p o/\p+m<=8)->ad (decide (0<m)) (az n/\ ∀(p:Int)(q:List Int)(r:Int),0<=p/\(p<40∨p=0)/\az (q,r)->az (q,r)/\ ∀(s t:List Int)(u:Int),az (t,u)/\bytes s/\(s.length:Int)<=1600->fZ o/\(s.length:Int)<=1000000/\ ∀(v:(List ac×List aF×List aN)×Int×Int×Int×List (List aD×Int×List Int×(Int×Int)×Int)×List Int×List (Int×Int×Int×Int×Int×List Int)×List (Int×Int×List Int)×List (Int×Int×Int×Int×Int))(w x:Int),v=kT o p (0:Int) s/\w=nt o p (0:Int)/\x=gO o p (0:Int)->
 ∀(y:Bool),y->(y->(y->y)/\True)/\(y->y)/\ ∃(z:Int) (A:List Int×Int),∃(B:aq),(0<=z/\az A/\ ∃(C:Int),j9 C B/\C+z<=8)/\z.toNat<m.toNat/\(bif y then decide (x=0) else false)=true/\IntKind.wrap .i64 (m -(1:Int))=z/\(0:Int)=0/\(0:Int)=0/\(0:Int)=0/\c=c/\d=d/\e=e/\t=A.1/\u=A.2/\v.1.1=B.1.1/\v.1.2.1=B.1.2.1/\v.1.2.2=B.1.2.2/\v.2.1=B.2.1/\v.2.2.1=B.2.2.1/\v.2.2.2.1=B.2.2.2.1/\v.2.2.2.2.1=B.2.2.2.2.1/\v.2.2.2.2.2.1=B.2.2.2.2.2.1/\v.2.2.2.2.2.2.1=B.2.2.2.2.2.2.1/\v.2.2.2.2.2.2.2.1=B.2.2.2.2.2.2.2.1/\v.2.2.2.2.2.2.2.2=B.2.2.2.2.2.2.2.2/\True) (az n/\true=true/\ ∃(p:Int),j9 p o):=by
  rintro l p ⟨⟨⟨-,hw⟩,-⟩,-⟩ hc
  have hB:bS (l,p):=⟨hc,hw⟩
  have hdn:=Kp hB false
  have hports:=fun (i:Nat)=>QH hB false (i:=i)
  have hcB:=Yh hB false
  refine⟨hc,?_⟩
  rintro ns ls hs l1 p1 ⟨hnet,hcod⟩
  rw[← hnet] at hdn hports
  rw[← hcod] at hcB
  have hok:=hdn.newOk hports
  have hchk:=hdn.right hports
  refine⟨O3 hdn.nb (by decide),?_⟩
  rintro d x ⟨hd,hx⟩
  have hd:d=jo (ns,ls,hs):=by rw[hd];exact if_pos hchk
  have hx:x=0:=by rw[hx];exact hchk
  subst hd hx
  refine⟨hcB.1,?_⟩
  rintro k l2 p2 ⟨k0,k1,hc2⟩
  refine⟨⟨1+k,(l2,p2),jo (ns,ls,hs),⟨by omega,hc2,0,j9.new hok,by omega⟩,by decide,(by repeat' first|exact trivial|refine⟨trivial,?_⟩|refine⟨(by with_reducible rfl),?_⟩|refine⟨af (by omega) (by omega),?_⟩|refine⟨rfl,?_⟩)⟩,?_⟩
  rintro k c w ⟨k0,hc3,m,hm,hmk⟩
  refine ae (fun hk=>?_) (fun hk=>⟨hc3,rfl,m,hm⟩)
  have hk:=of_decide_eq_true hk
  refine⟨hc3,?_⟩
  rintro t l4 p4 ⟨t0,t1,hc4⟩
  refine⟨hc4,?_⟩
  rintro b l5 p5 ⟨hc5,hb,hbl⟩
  obtain⟨he,hs'⟩:=hm.send (by omega) t0 (by omega) hb (by omega)
  refine⟨.inl hm.ok.sim,by omega,?_⟩
  rintro d o e ⟨hd,-,he'⟩
  have hd:d=iY w t 0 b:=by rw[hd];exact if_pos he
  have he':e=0:=he'.trans he
  subst hd he'
  rintro b1 rfl
  (repeat refine⟨(by simp;done),?_⟩)
  rw[af (by have:=hm.m9;omega) (by have:=hm.m9;omega)]
  exact⟨k-1,(l5,p5),iY w t 0 b,⟨by omega,hc5,m+1,hs',by omega⟩,by omega,by decide,(by repeat' first|exact trivial|refine⟨trivial,?_⟩|refine⟨(by with_reducible rfl),?_⟩|refine⟨af (by omega) (by omega),?_⟩|refine⟨rfl,?_⟩)⟩
theorem at7:av Tryz.prog GL 10 Ip.spec:=Cn.okH _ Tryz.func10 (by kernel_rfl) (ah (ah (ah (ah (ah aA (Ct.named aa8)) (Ct.named Lc)) qU) af1) (Ct.named KB)) au Wq (aB (by kernel_rfl) X3)
end Go.RS

/- Law15: the laws about the simulator. -/
namespace Go.RS
open Go.SX Go.Proofs
set_option maxRecDepth 100000
set_option linter.unusedVariables false
set_option maxHeartbeats 2000000
def az9:mw:=[(false,.sl bm),(false,bm),(false,bm)]
structure yi (sent:Int) (v:aq) (t:Int):Prop where
 ok:oG v
 t0:0<=t/\t<=aT v
 s:0<=sent
 en:∀ e∈aQ v,0<=xr e/\0<=uc e/\uc e<sent
 fl:∀ f∈am v,0<=dO f/\dO f<sent
 og:∀ o,0<=o->o<sent->tR (je o (am v)) (kO o (aQ v))
def lD(a b:Int):Int:=IntKind.i64.wrap (IntKind.i64.wrap a+IntKind.i64.wrap b)
theorem cJ.wait{v:aq}{B to:Int}(h:cJ B v)(hb:cK v to=false)(ha:0<=to/\to<=1125899906842624):cJ B (aZ v to):=⟨h.b,h.sB.wait hb ha,h.a,h.c,h.dd,h.e,h.d⟩
theorem cJ.runs{w:aq}{B to:Int}(h:cJ B w)(ha:0<=to/\to<=1125899906842624):cJ B (jv w to):=by
 obtain⟨k1,k2,-⟩:=h.run (to:=to) _ (Nat.le_refl _)
 exact (k1.wait k2 ha).change
theorem Ig{to:Int}(h0:0<=to):∀{l:List aK},(∀ f∈l,0<=ax f)->dr to l<=l.length*(to+1).toNat
 | [],_=>by simp[dr]
 | f::r,h=>by
  have h1:=h f List.mem_cons_self
  have h2:=Ig h0 (l:=r) fun x hx=>h x (List.mem_cons_of_mem _ hx)
  rw[ma,List.length_cons,Nat.succ_mul]
  omega
theorem cJ.lands{w:aq}{B:Int}(h:cJ B w){f:aK}{r:List aK}(e:am w=f::r):ED (dk w) f (cC w):=by
 have a:=h.at e
 have es:cC w=fu (dk w) (ga w):=rfl
 rw[es,a.eF]
 exact Go.RS.lands a.s.weak a.fk.wk a.now.symm (by rw[a.net];exact h.a)
theorem yi.step{s t:Int}{v:aq}(h:yi s v t){f:aK}{r:List aK}(e:am v=f::r):t<=aT (cC v)/\yi s (cC v) (aT (cC v)):=by
 have a:=h.ok.at e
 obtain⟨es,l1,l2,l3⟩:=(h.ok.lands e).a
 obtain⟨-,-,s3,-⟩:=h.ok.s.weak.step e
 have hfk:=h.ok.s.fo f (by rw[e];exact List.mem_cons_self)
 have hof:=h.fl f (by rw[e];exact List.mem_cons_self)
 have ht:=hfk.t
 have hn:=h.ok.s.now
 rw[a.en] at l2
 rw[a.fl] at l3
 have h0:=h.t0
 refine⟨by omega,(h.ok.step e).1,⟨by omega,Int.le_refl _⟩,h.s,fun x hx=>?_,fun g hg=>?_,fun o o0 o1=>Rl h.ok.s.weak h.ok.a e (h.og o o0 o1)⟩
 ·rw[l2] at hx
  rcases List.mem_append.1 hx with hx|hx
  ·exact h.en x hx
  ·obtain⟨q1,q2⟩:=l1 x hx
   rw[q1,q2]
   exact⟨by omega,hof⟩
 ·have hr:∀ g∈r,0<=dO g/\dO g<s:=fun g hg=>h.fl g (by rw[e];exact List.mem_cons_of_mem _ hg)
  rcases l3 with⟨q,-⟩|⟨g2,q1,-,q,-⟩
  ·rw[q] at hg;exact hr g hg
  ·rw[q] at hg
   rcases wB.1 hg with rfl|hg
   ·rw[q1];exact hof
   ·exact hr g hg
theorem yi.new{d:aq}{m:Int}(h:j9 m d):yi (aX d) d 0 :=
 ⟨h.ok.sim,⟨Int.le_refl _,by rw[h.now];exact Int.le_refl _⟩,by have:=h.m9;rw[h.ord];omega,fun e he=>(by rw[h.en] at he;cases he),fun f hf=>(h.ok.s.fo f hf).g,h.og⟩
theorem ag1(v:aq)(t:Int):(bif !jC v then true else decide (t<lq v)) = !cK v t:=by
 unfold jC lq cK
 cases am v with
 | nil=>rfl
 | cons f r =>
  show decide (t<ax f) = !decide (ax f<=t)
  by_cases q:ax f<=t
  ·rw[decide_eq_true q,decide_eq_false (by omega)];rfl
  ·rw[decide_eq_false q,decide_eq_true (by omega)];rfl
def wk(B:Int)(w:aq):Prop:=cJ B w∨mi w
theorem wk.e{B:Int}{w:aq}(h:wk B w):fZ w:=h.elim (fun q=>.inl q.sim) .inr
theorem wk.more{B B':Int}{w:aq}(h:wk B w)(h1:B<=B')(h2:B'<=549755813888):wk B' w:=h.elim (fun q=>.inl (q.more h1 h2)) .inr
theorem SC:mi vo:=⟨rfl,Int.le_refl _,by decide⟩
theorem wk.step{B:Int}{w:aq}(h:wk B w):wk B (r0 w):=by
 unfold r0
 split
 ·exact h
 ·rename_i k
  rcases h with h|h
  ·cases e:am w with
   | nil=>exact absurd e k
   | cons f r=>exact .inl (h.step e).1
  ·exact absurd h.fl k
theorem wk.run{B to:Int}{w:aq}(h:wk B w):wk B (mg w to):=by
 unfold mg
 split
 ·rename_i k
  unfold ic at k
  split at k
  ·cases k
  rename_i k1
  split at k
  ·cases k
  rename_i k2
  rcases h with h|h
  ·have:=h.s.now
   exact .inl (h.runs ⟨by omega,by omega⟩)
  ·refine .inr ?_
   have e:jv w to=aZ vo to:=by rw[h.1];rfl
   rw[e]
   have:=h.2
   exact⟨rfl,by show 0<=to;omega,by show to<=_;omega⟩
 ·exact .inr SC
theorem wk.send{B:Int}{w:aq}(h:wk B w)(hB:B+4000<=549755813888){at' who:Int}{b:List Int}(he:gO w at' who=0)(hb:bytes b)(hl:(b.length:Int)<=2000):wk (B+4000) (kT w at' who b):=by
 unfold kT
 rw[if_pos he]
 rcases h with h|h
 ·exact .inl (h.send hB he hb hl).1
 ·unfold gO at he
  have e0:((ao w).1.length:Int)=0:=by rw[h.1];rfl
  rw[if_pos (by omega)] at he
  cases he
def Hk:Ct:=xc az9
def Ul:ar Hk.ps->ay:=(fun d=>{loops:=(fun n=>match n with|13=>some (fun S=>{ι:=aq,μ:=fun i=>gh i,inv:=fun i=>fZ i/\cP i (lD d.2.1 d.2.2.1)=cP (S.c iI 128) (lD d.2.1 d.2.2.1),keep:=[13],slots:=fun i=>[(9,.int .i64 (lD d.2.1 d.2.2.1)),(15,.ptr 256 0)],keepN:=[224],names:=fun i=>[(256,.live (.cells 37 (cy iI i)))]})|_=>none)})
def xt(b c:Int) :=
 IntKind.wrap .i64 (IntKind.wrap .i64 b+IntKind.wrap .i64 c)
theorem Zm :
 ∀(a:List Int)(b c:Int),(a.length<=maxLen/\ ∀(d:Int),d∈a->0<=d/\d<=255)/\(0<=b/\b<=255)/\(0<=c/\c<=255)/\True->True->(0:Int)<=500/\az (if (a.length:Int)<=500 then a else List.take (Int.toNat (500:Int)) a,(0:Int))/\ ∀(d:(List ac×List aF×List aN)×Int×Int×Int×List (List aD×Int×List Int×(Int×Int)×Int)×List Int×List (Int×Int×Int×Int×Int×List Int)×List (Int×Int×List Int)×List (Int×Int×Int×Int×Int))(e:Bool)(f:List Int)(g:Int),(az (f,g)/\e=true/\ ∃(h:Int),j9 h d)->ad (! e) (false=true) (fZ d/\ ∀(h:(List ac×List aF×List aN)×Int×Int×Int×List (List aD×Int×List Int×(Int×Int)×Int)×List Int×List (Int×Int×Int×Int×Int×List Int)×List (Int×Int×List Int)×List (Int×Int×Int×Int×Int))(i:Int),h=mg d (IntKind.wrap .i64 b)/\i=ic d (IntKind.wrap .i64 b)->fZ h/\ ∀(j:(List ac×List aF×List aN)×Int×Int×Int×List (List aD×Int×List Int×(Int×Int)×Int)×List Int×List
 (Int×Int×Int×Int×Int×List Int)×List (Int×Int×List Int)×List (Int×Int×Int×Int×Int)) (k:Int),j=mg h (xt b c)/\k=ic h (xt b c)->fZ d/\ ∀(l:(List ac×List aF×List aN)×Int×Int×Int×List (List aD×Int×List Int×(Int×Int)×Int)×List Int×List (Int×Int×Int×Int×Int×List Int)×List (Int×Int×List Int)×List (Int×Int×Int×Int×Int))(m:Int),l=mg d (xt b c)/\m=ic d (xt b c)-> ∀(n:Bool),n= ! decide (i=0)->((! n)->((! n)->(! n))/\True)/\(n=false->(! n))/\ ∀(o:Bool),(o=bif n then true else ! decide (k=0))->((! o)->((! o)->(! o))/\True)/\(o=false->(! o))/\ ∀(p:Bool),(p=bif o then true else ! decide (m=0))->((! p)->((! p)->(! p))/\((! p)->(! p))/\True)/\((! p)->((! p)->(! p))/\True)/\(p=false->(! p))/\ad (bif p then true else ! mM j l) (false=true) ((∃(q:aq),(fZ q/\cP q (lD b c)=cP d (lD b c))/\IntKind.wrap .i64 (IntKind.wrap .i64 b+IntKind.wrap .i64 c)=lD b
 c/\l.1.1=l.1.1/\l.1.2.1=l.1.2.1/\l.1.2.2=l.1.2.2/\l.2.1=l.2.1/\l.2.2.1=l.2.2.1/\l.2.2.2.1=l.2.2.2.1/\l.2.2.2.2.1=l.2.2.2.2.1/\l.2.2.2.2.2.1=l.2.2.2.2.2.1/\l.2.2.2.2.2.2.1=l.2.2.2.2.2.2.1/\l.2.2.2.2.2.2.2.1=l.2.2.2.2.2.2.2.1/\l.2.2.2.2.2.2.2.2=l.2.2.2.2.2.2.2.2/\d.1.1=q.1.1/\d.1.2.1=q.1.2.1/\d.1.2.2=q.1.2.2/\d.2.1=q.2.1/\d.2.2.1=q.2.2.1/\d.2.2.2.1=q.2.2.2.1/\d.2.2.2.2.1=q.2.2.2.2.1/\d.2.2.2.2.2.1=q.2.2.2.2.2.1/\d.2.2.2.2.2.2.1=q.2.2.2.2.2.2.1/\d.2.2.2.2.2.2.2.1=q.2.2.2.2.2.2.2.1/\d.2.2.2.2.2.2.2.2=q.2.2.2.2.2.2.2.2/\True)/\ ∀(q:aq),fZ q/\cP q (lD b c)=cP d (lD b c)-> ∀(r:Bool),r= ! jC q->((! r)->((! r)->(! r))/\((! r)->(! r))/\True)/\(r=false->(! r))/\ad (bif r then true else decide (lD b c<lq q)) (∀(s:Bool),s=decide (q.2.2.2.2.2.2.2.2=l.2.2.2.2.2.2.2.2)->(s->(s->s)/\True)/\(s->(s->s)/\True)/\(s->(s->s)/\(s->s)/\True)/\(s->s)/\ ∀(t:Bool),(t=bif s then decide
 (q.2.2.1=l.2.2.1) else false)->(t->(t->t)/\True)/\(t->(t->t)/\True)/\(t->(t->t)/\True)/\(t->(t->t)/\True)/\(t->(t->t)/\(t->t)/\True)/\(t->t)/\(bif t then decide ((q.2.2.2.2.2.2.2.1.length:Int)=(l.2.2.2.2.2.2.2.1.length:Int)) else false)=true) (fZ q/\ ∀(s:(List ac×List aF×List aN)×Int×Int×Int×List (List aD×Int×List Int×(Int×Int)×Int)×List Int×List (Int×Int×Int×Int×Int×List Int)×List (Int×Int×List Int)×List (Int×Int×Int×Int×Int))(t:Bool),s=r0 q/\t=jC q-> ∃(u:aq),(fZ u/\cP u (lD b c)=cP d (lD b c))/\gh u<gh q/\lD b c=lD b
 c/\l.1.1=l.1.1/\l.1.2.1=l.1.2.1/\l.1.2.2=l.1.2.2/\l.2.1=l.2.1/\l.2.2.1=l.2.2.1/\l.2.2.2.1=l.2.2.2.1/\l.2.2.2.2.1=l.2.2.2.2.1/\l.2.2.2.2.2.1=l.2.2.2.2.2.1/\l.2.2.2.2.2.2.1=l.2.2.2.2.2.2.1/\l.2.2.2.2.2.2.2.1=l.2.2.2.2.2.2.2.1/\l.2.2.2.2.2.2.2.2=l.2.2.2.2.2.2.2.2/\s.1.1=u.1.1/\s.1.2.1=u.1.2.1/\s.1.2.2=u.1.2.2/\s.2.1=u.2.1/\s.2.2.1=u.2.2.1/\s.2.2.2.1=u.2.2.2.1/\s.2.2.2.2.1=u.2.2.2.2.1/\s.2.2.2.2.2.1=u.2.2.2.2.2.1/\s.2.2.2.2.2.2.1=u.2.2.2.2.2.2.1/\s.2.2.2.2.2.2.2.1=u.2.2.2.2.2.2.2.1/\s.2.2.2.2.2.2.2.2=u.2.2.2.2.2.2.2.2/\True))):=by
  delta xt
  rintro a c mo ⟨-,⟨c0,c1⟩,⟨m0,m1⟩,-⟩ -
  refine⟨by decide,⟨Int.le_refl _,Int.natCast_nonneg _⟩,?_⟩
  rintro d ok l2 p2 ⟨hc2,hok,m,hm⟩
  have hok:ok=true:=hok
  subst hok
  refine ae (fun h=>absurd h (by decide)) (fun _=>?_)
  have e1:IntKind.i64.wrap c=c:=af (by omega) (by omega)
  have e2:IntKind.i64.wrap mo=mo:=af (by omega) (by omega)
  have eT:lD c mo=c+mo:=by unfold lD;rw[e1,e2,af (by omega) (by omega)]
  have eT2:IntKind.i64.wrap (IntKind.i64.wrap c+IntKind.i64.wrap mo)=c+mo:=eT
  rw[eT2,e1,eT]
  have hm9:=hm.m9
  have hnow:=hm.now
  obtain⟨T,hT⟩:∃ T,T=c+mo:=⟨_,rfl⟩
  rw[← hT]
  have hE:ic d c=0:=by unfold ic;rw[if_neg (by omega),if_neg (by omega)]
  have hE3:ic d T=0:=by unfold ic;rw[if_neg (by omega),if_neg (by omega)]
  have ok1:=hm.ok.runs (to:=c) ⟨c0,by omega⟩
  have hn1:aT (jv d c)=c:=(vB _).2.2.2.2.2
  have hE2:ic (jv d c) T=0:=by unfold ic;rw[if_neg (by omega),if_neg (by omega)]
  have hw:=Ig (to:=T) (by omega) (l:=am d) fun f hf=>by have:=(hm.ok.s.fo f hf).t;omega
  have two:jv (jv d c) T=jv d T:=UJ hm.ok.s c0 (by omega) (by omega) (by
   have h1:=hm.fn
   have h2:(am d).length*(T+1).toNat<=9*511:=Nat.mul_le_mul (by omega) (by omega)
   omega)
  refine⟨.inl hm.ok.sim,?_⟩
  rintro d1 x1 ⟨hd1,hx1⟩
  have hd1:d1=jv d c:=by rw[hd1];exact if_pos hE
  have hx1:x1=0:=hx1.trans hE
  subst hd1 hx1
  refine⟨.inl ok1.sim,?_⟩
  rintro d2 x2 ⟨hd2,hx2⟩
  have hd2:d2=jv d T:=by rw[hd2];exact (if_pos hE2).trans two
  have hx2:x2=0:=hx2.trans hE2
  subst hx2
  refine⟨.inl hm.ok.sim,?_⟩
  rintro d3 x3 ⟨hd3,hx3⟩
  have hd3:d3=jv d T:=by rw[hd3];exact if_pos hE3
  have hx3:x3=0:=hx3.trans hE3
  subst hx3
  have e23:d2=d3:=hd2.trans hd3.symm
  subst e23
  clear hd2
  intro b1 hb1
  have hb1:b1=false:=by rw[hb1];rfl
  subst hb1
  (repeat refine⟨(by simp;done),?_⟩)
  intro b1 hb1
  have hb1:b1=false:=by rw[hb1];rfl
  subst hb1
  (repeat refine⟨(by simp;done),?_⟩)
  intro b1 hb1
  have hb1:b1=false:=by rw[hb1];rfl
  subst hb1
  (repeat refine⟨(by simp;done),?_⟩)
  rw[show mM d2 d2=true from at3.2 rfl]
  refine ae (fun h=>absurd h (by decide)) (fun _=>?_)
  refine⟨⟨d,⟨.inl hm.ok.sim,rfl⟩,(by repeat' first|exact trivial|refine⟨trivial,?_⟩|refine⟨(by with_reducible rfl),?_⟩|refine⟨af (by omega) (by omega),?_⟩|refine⟨rfl,?_⟩)⟩,?_⟩
  rintro v ⟨hv,hr⟩
  have hv:fZ v:=hv
  (repeat (intro (b_:Bool) (hb_:b_=_);(repeat refine⟨(by first|(simp;done)|(rw[hb_];simp;done)|(rw[hb_];simp;omega)|(rw[hb_];simp;intros;omega)|(rw[hb_];simp +contextual;done)),?_⟩);subst hb_))
  rw[ag1]
  refine ae (fun hb=>?_) (fun hb=>?_)
  ·have hb:cK v T=false:=by simpa using hb
   have ev:cP d T=v:=by rw[← hr];exact GY hb
   have e3:d2=bo (aZ v T):=by rw[hd3,← ev];rfl
   obtain⟨-,-,q1,q2,q3,-⟩:=vB (aZ v T)
   rw[← e3] at q1 q2 q3
   have q1:v.2.2.2.2.2.2.2.2=d2.2.2.2.2.2.2.2.2:=q1.symm
   have q2:v.2.2.2.2.2.2.2.1=d2.2.2.2.2.2.2.2.1:=q2.symm
   have q3:v.2.2.1=d2.2.2.1:=q3.symm
   clear hd3 e3 ev hr
   intro b1 hb1
   have hb1:b1=true:=by rw[hb1];exact decide_eq_true q1
   subst hb1
   (repeat refine⟨(by simp;done),?_⟩)
   intro b2 hb2
   have hb2:b2=true:=by rw[hb2,q3];simp
   subst hb2
   (repeat refine⟨(by simp;done),?_⟩)
   rw[q2];simp
  ·have hb:cK v T=true:=by simpa using hb
   cases ef:am v with
   | nil=>unfold cK at hb;rw[ef] at hb;cases hb
   | cons f r =>
    have hv:=hv.fl (by rw[ef];simp)
    obtain⟨s1,s2⟩:=hv.step ef
    refine⟨.inl hv,?_⟩
    rintro d4 x4 ⟨hd4,-⟩
    have hd4:d4=cC v:=by rw[hd4];unfold r0;rw[if_neg (by rw[ef];simp)]
    subst hd4
    exact⟨cC v,⟨.inl s1,(GQ hv.s.weak hb).symm.trans hr⟩,s2,(by repeat' first|exact trivial|refine⟨trivial,?_⟩|refine⟨(by with_reducible rfl),?_⟩|refine⟨af (by omega) (by omega),?_⟩|refine⟨rfl,?_⟩)⟩
theorem ok_law15_SimulateParts:av Tryz.prog GL 5 Hk.spec:=Ct.okH _ Tryz.func5 (by kernel_rfl) (ah (ah (ah (ah (ah (ah (ah (ah aA Yg) am2) at7) (Ct.named Mz)) Za) Md) (Ct.named al5)) PT) au Ul (aB (by kernel_rfl) Zm)
end Go.RS
