/- Xref: the document's exchange. -/
import Derived.Test.YtffciochlkcjbaaXw4
namespace Go.RS
open Go.SX Go.Proofs
set_option maxRecDepth 100000
set_option linter.unusedVariables false
def uz:Ct:=⟨[.val cI],[.agg bA,.val cI],fun _=>[],fun d=>((fo d.1,db d.1,()),())⟩
def z8:aI uz.ps->aO:=(fun _=>{})
def ib :=
 ([]:List (Int×Int×List Int))
def lx :=
 ((0:Int),(0:Int),(0:Int),([]:List (List Int)),(0:Int),([]:List (List Int)),([]:List (Int×List Int)),(ib),(ib))
theorem xa :
 ∀(a:Int),ao a/\True->True-> ∀(b:Bool),b=decide (a<1)->((! b)->((! b)->(! b))/\True)/\(b=false->(! b))/\av (bif b then true else decide (64<a)) ((lx)=fo a/\(1:Int)=db a) (((0:Int),(0:Int),a,([]:List (List Int)),(0:Int),([]:List (List Int)),([]:List (Int×List Int)),(ib),(ib))=fo a/\(0:Int)=db a):=by
  delta lx ib
  rintro w - -
  (repeat (intro (b_:Bool) (hb_:b_=_);(repeat refine⟨(by first|(simp;done)|(rw[hb_];simp;done)|(rw[hb_];simp;omega)|(rw[hb_];simp;intros;omega)|(rw[hb_];simp +contextual;done)),?_⟩);subst hb_))
  refine ja (fun h=>?_) (fun h1 h2=>?_)
  ·have e:db w=1:=by unfold db;rw[if_pos (by rcases h with q|q;exact .inl (of_decide_eq_true q);exact .inr (of_decide_eq_true q))]
   unfold fo
   rw[e]
   exact⟨rfl,rfl⟩
  ·have h1:=of_decide_eq_false h1
   have h2:=of_decide_eq_false h2
   have e:db w=0:=by unfold db;rw[if_neg (by omega)]
   unfold fo
   rw[e]
   exact⟨rfl,rfl⟩
theorem BM:aL Try.prog GL 25 uz.spec:=Ct.okH _ Try.func25 (by kernel_rfl) aV aH z8 (aW (by kernel_rfl) xa)
def qT:Ct:=⟨[.agg eI],[.val .bool],fun _=>[],fun d=>((cT d.1,()),())⟩
def A9:aI qT.ps->aO:=(fun _=>{})
theorem yd :
 ∀(a:Bool)(b c:Int),(True/\ao b/\ao c)/\True->True-> ∀(d:Bool),d=decide (0<=b)->(d->(d->d)/\True)/\(d->(d->d)/\True)/\(d->d)/\ ∀(e:Bool),(e=bif d then decide (b<=1000) else false)->(e->(e->e)/\True)/\(e->(e->e)/\True)/\(e->e)/\ ∀(f:Bool),(f=bif e then decide (0<=c) else false)->(f->(f->f)/\True)/\(f->(f->f)/\True)/\(f->f)/\(bif f then decide (c<=8) else false)=cT (a,b,c):=by
  rintro a b c - -
  (repeat (intro (b_:Bool) (hb_:b_=_);(repeat refine⟨(by first|(simp;done)|(rw[hb_];simp;done)|(rw[hb_];simp;omega)|(rw[hb_];simp;intros;omega)|(rw[hb_];simp +contextual;done)),?_⟩);subst hb_))
  unfold cT
  rw[mq,mq,mq]
  exact decide_eq_decide.2 ⟨fun h=>⟨h.1.1.1,h.1.1.2,h.1.2,h.2⟩,fun h=>⟨⟨⟨h.1,h.2.1⟩,h.2.2.1⟩,h.2.2.2⟩⟩
theorem Ad:aL Try.prog GL 44 qT.spec:=Ct.okH _ Try.func44 (by kernel_rfl) aV aH A9 (aW (by kernel_rfl) yd)
def vv:Ct:=⟨[.val (.sl eI),.val cI],[.agg eI],fun d=>[0<=d.2.1],fun d=>((bg d.1 d.2.1.toNat,()),())⟩
def wX:aI vv.ps->aO:=(fun _=>{})
theorem xu :
 ∀(a:List (Bool×Int×Int))(b:Int),(a.length<=maxLen/\ ∀(c:Bool×Int×Int),c∈a->True/\ao c.2.1/\ao c.2.2)/\ao b/\True->0<=b->av (decide (b<(a.length:Int))) (0<=b/\b<(a.length:Int)/\a.getD b.toNat default=bg a b.toNat) ((false,(0:Int),(0:Int))=bg a b.toNat):=by
  rintro l i-h0
  refine aG (fun h=>?_) (fun h=>?_)
  ·have h:=of_decide_eq_true h
   refine⟨h0,h,?_⟩
   unfold bg
   rw[List.getD_eq_getElem?_getD,List.getD_eq_getElem?_getD,List.getElem?_eq_getElem (by omega)]
   rfl
  ·have h:=of_decide_eq_false h
   unfold bg
   rw[List.getD_eq_getElem?_getD,List.getElem?_eq_none (by omega)]
   rfl
theorem zM:aL Try.prog GL 48 vv.spec:=Ct.okH _ Try.func48 (by kernel_rfl) aV aH wX (aW (by kernel_rfl) xu)
theorem pH{b:List Int}{n:Int}(h:0<=n/\n<=65535):dR b n 2=b++b9 n 2 2:=by
 have e:(256:Int)^Int.toNat 2=65536:=by decide
 unfold dR
 rw[if_neg]
 ·rfl
 ·unfold gL;rw[e];omega
def r5:Ct:=⟨[.agg bA,.val cI],[.own 5 aZ],fun d=>[0<=d.2.1,d.2.1<=65535,d.2.1<d.1.2.2.2.1.length,(d.1.2.2.2.1.getD d.2.1.toNat default).length<=1048576],fun d=>((bO d.2.1 (d.1.2.2.2.1.getD d.2.1.toNat default),()),())⟩
def x4:aI r5.ps->aO:=(fun _=>{})
def fA :=
 (140737488355328:Nat)
theorem Ar :
 ∀(a:Int×Int×Int×List (List Int)×Int×List (List Int)×List (Int×List Int)×List (Int×Int×List Int)×List (Int×Int×List Int))(b:Int),CT.wf bA a/\ao b/\True->0<=b/\b<=65535/\b<(a.2.2.2.1.length:Int)/\List.length (List.getD a.2.2.2.1 b.toNat default)<=(1048576:Nat)->(1:Nat)<=List.length [(68:Int)]/\((List.length [(68:Int)]):Int)<=1099511627776/\0<=b/\b<(a.2.2.2.1.length:Int)/\(List.length (dR [(68:Int)] b (2:Int))+List.length (List.getD a.2.2.2.1 b.toNat default))*(1:Nat)<=(fA)/\dR [(68:Int)] b (2:Int)++List.getD a.2.2.2.1 b.toNat default=bO b (List.getD a.2.2.2.1 b.toNat default):=by
  delta fA
  rintro c i-⟨h0,h1,h2,h3⟩
  rw[pH ⟨h0,h1⟩]
  refine⟨by simp,by simp,h0,h2,?_,?_⟩
  ·rw[List.length_append,jr];simp only[List.length_singleton];omega
  ·unfold bO;rw[List.append_assoc];rfl
theorem yU:aL Try.prog GL 50 r5.spec:=Ct.okH _ Try.func50 (by kernel_rfl) (aJ aV te) aH x4 (aW (by kernel_rfl) Ar)
def rD:Ct:=⟨[.agg bA,.val (.sl aZ)],[.agg bA,.val cI],fun d=>[],fun d=>((ft d.1 d.2.1,da d.1 d.2.1,()),())⟩
def Aw:aI rD.ps->aO:=(fun _=>{})
theorem AP :
 ∀(a:Int×Int×Int×List (List Int)×Int×List (List Int)×List (Int×List Int)×List (Int×Int×List Int)×List (Int×Int×List Int))(b:List Int),CT.wf bA a/\(b.length<=maxLen/\ ∀(c:Int),c∈b->0<=c/\c<=255)/\True->True-> ∀(c:Bool),c=decide (1024<=(a.2.2.2.1.length:Int))->((! c)->((! c)->(! c))/\True)/\((! c)->((! c)->(! c))/\True)/\(c=false->(! c))/\av (bif c then true else decide (6000<(b.length:Int))) ((lx)=ft a b/\(5:Int)=da a b) (a.2.2.2.1.length*(24:Nat)<=(fA)/\b.length*(1:Nat)<=(fA)/\(a.2.2.2.1.length+List.length [b])*(24:Nat)<=(fA)/\(a.1,a.2.1,a.2.2.1,a.2.2.2.1++[b],a.2.2.2.2)=ft a b/\(0:Int)=da a b):=by
  delta lx fA ib
  rintro c b ⟨⟨-,-,-,⟨hl,-⟩,-⟩,⟨hb,-⟩,-⟩ -
  (repeat (intro (b_:Bool) (hb_:b_=_);(repeat refine⟨(by first|(simp;done)|(rw[hb_];simp;done)|(rw[hb_];simp;omega)|(rw[hb_];simp;intros;omega)|(rw[hb_];simp +contextual;done)),?_⟩);subst hb_))
  refine ja (fun h=>?_) (fun h1 h2=>?_)
  ·have e:da c b=5:=by
    unfold da
    refine if_pos ?_
    rcases h with q|q
    ·have:=of_decide_eq_true q
     exact .inl (by show 1024<=c.2.2.2.1.length;omega)
    ·exact .inr (of_decide_eq_true q)
   unfold ft
   rw[e]
   exact⟨rfl,rfl⟩
  ·have h1:=of_decide_eq_false h1
   have h2:=of_decide_eq_false h2
   have e:da c b=0:=by
    unfold da
    refine if_neg ?_
    rintro (q|q)
    ·have q:1024<=c.2.2.2.1.length:=q
     omega
    ·omega
   unfold ft
   rw[e]
   refine⟨by omega,by omega,by simp only[List.length_singleton];omega,?_,rfl⟩
   rfl
theorem yb:aL Try.prog GL 27 rD.spec:=Ct.okH _ Try.func27 (by kernel_rfl) aV aH Aw (aW (by kernel_rfl) AP)
def s8:Ct:=⟨[.val (.sl (.sl aZ)),.val (.sl (.sl aZ))],[.val .bool],fun _=>[],fun d=>((decide (d.1=d.2.1),()),())⟩
def B4:aI s8.ps->aO:=(fun d=>{loops:=(fun n=>match n with|4=>some (fun S=>{ι:=Int,μ:=fun i=>(d.1.length-i).toNat,inv:=fun i=>0<=i/\i<=d.1.length/\d.1.length=d.2.1.length/\d.1.take i.toNat=d.2.1.take i.toNat,keep:=[0,1],slots:=fun i=>[(5,.int .i64 i)],names:=fun i=>[]})|_=>none)})
theorem AV :
 ∀(a b:List (List Int)),(a.length<=maxLen/\ ∀(c:List Int),c∈a->c.length<=maxLen/\ ∀(d:Int),d∈c->0<=d/\d<=255)/\(b.length<=maxLen/\ ∀(c:List Int),c∈b->c.length<=maxLen/\ ∀(d:Int),d∈c->0<=d/\d<=255)/\True->True->av (! decide ((a.length:Int)=(b.length:Int))) (false=decide (a=b)) ((∃(c:Int),(0<=c/\c<=(a.length:Int)/\a.length=b.length/\List.take c.toNat a=List.take c.toNat b)/\a=a/\b=b/\(0:Int)=c/\True)/\ ∀(c:Int),0<=c/\c<=(a.length:Int)/\a.length=b.length/\List.take c.toNat a=List.take c.toNat b->av (decide (c<(a.length:Int))) (0<=c/\c<(a.length:Int)/\0<=c/\c<(b.length:Int)/\av (! decide (a.getD c.toNat default=b.getD c.toNat default)) (false=decide (a=b)) (∃(d:Int),(0<=d/\d<=(a.length:Int)/\a.length=b.length/\List.take d.toNat a=List.take d.toNat b)/\Int.toNat ((a.length:Int) -d)<Int.toNat ((a.length:Int) -c)/\a=a/\b=b/\IntKind.wrap .i64 (c+(1:Int))=d/\True)) (true=decide (a=b))):=by
  rintro x y ⟨⟨hl,-⟩,-⟩ -
  simp only[maxLen] at hl
  refine aG (fun h=>?_) (fun h=>?_)
  ·have h:=mZ h
   exact (decide_eq_false (fun e=>h (by rw[e]))).symm
  have h:=lA h
  refine⟨⟨0,⟨by omega,by omega,by omega,rfl⟩,(by repeat' first|exact trivial|refine⟨trivial,?_⟩|refine⟨(by with_reducible rfl),?_⟩|refine⟨af (by omega) (by omega),?_⟩|refine⟨rfl,?_⟩)⟩,?_⟩
  rintro j ⟨j0,j1,j2,j3⟩
  refine aG (fun hj=>?_) (fun hj=>?_)
  ·have hj:=of_decide_eq_true hj
   refine⟨j0,hj,j0,by omega,aG (fun k=>?_) (fun k=>?_)⟩
   ·have k:=mZ k
    exact (decide_eq_false (fun e=>k (by rw[e]))).symm
   ·have k:=lA k
    rw[af (by omega) (by omega)]
    exact⟨j+1,⟨by omega,by omega,j2,by rw[cG j0 hj,cG j0 (by omega),j3,k]⟩,by omega,(by repeat' first|exact trivial|refine⟨trivial,?_⟩|refine⟨(by with_reducible rfl),?_⟩|refine⟨af (by omega) (by omega),?_⟩|refine⟨rfl,?_⟩)⟩
  ·have hj:=of_decide_eq_false hj
   rw[List.take_of_length_le (by omega),List.take_of_length_le (by omega)] at j3
   exact (decide_eq_true j3).symm
theorem BS:aL Try.prog GL 34 s8.spec:=Ct.okH _ Try.func34 (by kernel_rfl) (aJ aV n6) aH B4 (aW (by kernel_rfl) AV)
def sn:Ct:=⟨[.val (.sl bc),.val (.sl bc)],[.val .bool],fun _=>[],fun d=>((decide (d.1=d.2.1),()),())⟩
def wd:aI sn.ps->aO:=(fun d=>{loops:=(fun n=>match n with|4=>some (fun S=>{ι:=Int,μ:=fun i=>(d.1.length-i).toNat,inv:=fun i=>0<=i/\i<=d.1.length/\d.1.length=d.2.1.length/\d.1.take i.toNat=d.2.1.take i.toNat,keep:=[0,1],slots:=fun i=>[(5,.int .i64 i)],names:=fun i=>[]})|_=>none)})
def ks(e:Bool) :=
 (! e)->((! e)->(! e))/\True
theorem Bz :
 ∀(a b:List (Int×Int×List Int)),(a.length<=maxLen/\ ∀(c:Int×Int×List Int),c∈a->ao c.1/\ao c.2.1/\c.2.2.length<=maxLen/\ ∀(d:Int),d∈c.2.2->0<=d/\d<=255)/\(b.length<=maxLen/\ ∀(c:Int×Int×List Int),c∈b->ao c.1/\ao c.2.1/\c.2.2.length<=maxLen/\ ∀(d:Int),d∈c.2.2->0<=d/\d<=255)/\True->True->av (! decide ((a.length:Int)=(b.length:Int))) (false=decide (a=b)) ((∃(c:Int),(0<=c/\c<=(a.length:Int)/\a.length=b.length/\List.take c.toNat a=List.take c.toNat b)/\a=a/\b=b/\(0:Int)=c/\True)/\ ∀(c:Int),0<=c/\c<=(a.length:Int)/\a.length=b.length/\List.take c.toNat a=List.take c.toNat b->av (decide (c<(a.length:Int))) (0<=c/\c<(a.length:Int)/\0<=c/\c<(b.length:Int)/\ ∀(d:Bool),d= ! decide ((a.getD c.toNat default).1=(b.getD c.toNat default).1)->((! d)->((! d)->(! d))/\((! d)->(! d))/\0<=c/\c<(a.length:Int)/\True)/\((! d)->((! d)->(! d))/\True)/\((! d)->((! d)->(! d))/\True)/\((! d)->((! d)->(! d))/\((!
 d)->(! d))/\0<=c/\c<(b.length:Int)/\True)/\((! d)->((! d)->(! d))/\True)/\((! d)->((! d)->(! d))/\True)/\((! d)->((! d)->(! d))/\((! d)->(! d))/\True)/\(d=false->(! d))/\ ∀(e:Bool),(e=bif d then true else ! decide ((a.getD c.toNat default).2.1=(b.getD c.toNat default).2.1))->((! e)->((! e)->(! e))/\((! e)->(! e))/\0<=c/\c<(a.length:Int)/\True)/\(ks e)/\(ks e)/\((! e)->((! e)->(! e))/\((! e)->(! e))/\0<=c/\c<(b.length:Int)/\True)/\(ks e)/\(ks e)/\((! e)->((! e)->(! e))/\((! e)->(! e))/\True)/\(ks e)/\(e=false->(! e))/\av (bif e then true else ! decide ((a.getD c.toNat default).2.2=(b.getD c.toNat default).2.2)) (false=decide (a=b)) (∃(f:Int),(0<=f/\f<=(a.length:Int)/\a.length=b.length/\List.take f.toNat a=List.take f.toNat b)/\Int.toNat ((a.length:Int) -f)<Int.toNat ((a.length:Int) -c)/\a=a/\b=b/\IntKind.wrap .i64 (c+(1:Int))=f/\True)) (true=decide (a=b))):=by
  delta ks
  rintro x y ⟨⟨hl,-⟩,-⟩ -
  simp only[maxLen] at hl
  refine aG (fun h=>?_) (fun h=>?_)
  ·have h:=mZ h
   exact (decide_eq_false (fun e=>h (by rw[e]))).symm
  have h:=lA h
  refine⟨⟨0,⟨by omega,by omega,by omega,rfl⟩,(by repeat' first|exact trivial|refine⟨trivial,?_⟩|refine⟨(by with_reducible rfl),?_⟩|refine⟨af (by omega) (by omega),?_⟩|refine⟨rfl,?_⟩)⟩,?_⟩
  rintro j ⟨j0,j1,j2,j3⟩
  refine aG (fun hj=>?_) (fun hj=>?_)
  ·have hj:=of_decide_eq_true hj
   have hj2:j<y.length:=by omega
   refine⟨j0,hj,j0,hj2,?_⟩
   intro b1 hb1
   (repeat refine⟨(by first|(simp;done)|(simp;omega)),?_⟩)
   intro b2 hb2
   (repeat refine⟨(by first|(simp;done)|(simp;omega)),?_⟩)
   subst hb2 hb1
   refine aG (fun k=>?_) (fun k=>?_)
   ·refine (decide_eq_false (fun e=>?_)).symm
    rw[e] at k
    simp at k
   ·simp only[vW,Ao] at k
    rw[af (by omega) (by omega)]
    refine⟨j+1,⟨by omega,by omega,j2,?_⟩,by omega,(by repeat' first|exact trivial|refine⟨trivial,?_⟩|refine⟨(by with_reducible rfl),?_⟩|refine⟨af (by omega) (by omega),?_⟩|refine⟨rfl,?_⟩)⟩
    rw[cG j0 hj,cG j0 hj2,j3,show x.getD j.toNat default=y.getD j.toNat default from Prod.ext k.1.1 (Prod.ext k.1.2 k.2)]
  ·have hj:=of_decide_eq_false hj
   rw[List.take_of_length_le (by omega),List.take_of_length_le (by omega)] at j3
   exact (decide_eq_true j3).symm
theorem BN:aL Try.prog GL 35 sn.spec:=Ct.okH _ Try.func35 (by kernel_rfl) (aJ aV n6) aH wd (aW (by kernel_rfl) Bz)
def oU(c:aj)(o:Int):aj:=(c.1,o,c.2.2)
theorem pD{α:Type}{p:α->Bool}:∀{l:List α},(∃ y∈l,p y=false)→∀ m,(l++m).takeWhile p=l.takeWhile p/\(l++m).dropWhile p=l.dropWhile p++m
 | [],h,m=>by obtain⟨y,hy,-⟩:=h;cases hy
 | a::l,h,m=>by
  cases ha:p a with
  | false =>
   rw[List.cons_append,List.takeWhile_cons_of_neg (by simp[ha]),List.takeWhile_cons_of_neg (by simp[ha]),List.dropWhile_cons_of_neg (by simp[ha]),List.dropWhile_cons_of_neg (by simp[ha])]
   exact⟨rfl,rfl⟩
  | true =>
   obtain⟨y,hy,q⟩:=h
   have hy:y∈l:=by
    rcases List.mem_cons.1 hy with rfl|hy
    ·rw[ha] at q;cases q
    ·exact hy
   obtain⟨a1,a2⟩:=pD ⟨y,hy,q⟩ m
   rw[List.cons_append,List.takeWhile_cons_of_pos (by simp[ha]),List.takeWhile_cons_of_pos (by simp[ha]),List.dropWhile_cons_of_pos (by simp[ha]),List.dropWhile_cons_of_pos (by simp[ha]),a1,a2]
   exact⟨rfl,rfl⟩
theorem yv{l:List ae}{t x:ae}(h:∃ y∈l,t.1<y.1):bX (l++[x]) t=bX l t++[x]:=by
 obtain⟨y,hy,q⟩:=h
 obtain⟨a,b⟩:=pD (p:=fun x:ae=>decide (x.1<=t.1)) ⟨y,hy,decide_eq_false (by omega)⟩ [x]
 unfold bX
 rw[a,b]
 simp
theorem xH{l:List ae}{t x:ae}(h:∀ y∈l,y.1<=t.1)(hx:t.1<x.1):bX (l++[x]) t=l++[t]++[x]:=by
 obtain⟨a,b⟩:=nC h [x]
 have n1:¬ x.1<=t.1:=by omega
 have a2:ai t.1 [x]=[]:=List.takeWhile_cons_of_neg (by simpa using n1)
 have b2:aP t.1 [x]=[x]:=List.dropWhile_cons_of_neg (by simpa using n1)
 unfold bX
 show ai t.1 (l++[x])++t::aP t.1 (l++[x])=_
 rw[a,b,a2,b2]
 simp
def qG:Ct:=⟨[.agg bA,.val (.sl bc),.val (.sl aZ),.agg eI],[.agg bA,.val (.sl bc)],fun d=>[(d.2.1.length:Int)<=1000000,0<=d.1.1,d.1.1<=1125899906842624,0<=d.1.2.1,d.1.2.1<=1125899906842624,fB d.2.2.2.1],fun d=>((oU d.1 (a7 d.1.1 d.2.2.1 d.2.2.2.1 (d.1.2.1,d.2.1)).1,(a7 d.1.1 d.2.2.1 d.2.2.2.1 (d.1.2.1,d.2.1)).2,()),())⟩
def xm:aI qG.ps->aO:=(fun d=>{loops:=(fun n=>match n with|2=>some (fun S=>{ι:=Int×Int×(List ae),qn:=⟨fun k_=>∀(k:Int)(o:Int)(l:(List ae)),k_ (k,o,l),fun k_ h_ i=>h_ i.1 i.2.1 i.2.2,fun k_=>∃ (k:Int) (o:Int) (l:(List ae)),k_ (k,o,l),fun k_ ⟨k,o,l,h_⟩=>⟨_,h_⟩⟩,μ:=fun i=>(d.2.2.2.1.2.2+1-i.1).toNat,inv:=fun i=>0<=i.1/\i.1<=d.2.2.2.1.2.2+1/\(d.2.2.2.1.1=true->i.1=0/\i.2.2=d.2.1)/\(i.2.2.length:Int)<=1000000+i.1/\i.2.1=d.1.2.1+i.1/\bv d.1.1 d.2.2.2.1.2.1 d.2.2.1 (d.2.2.2.1.2.2+1-i.1).toNat i.1 (i.2.1,i.2.2)=bv d.1.1 d.2.2.2.1.2.1 d.2.2.1 (d.2.2.2.1.2.2+1).toNat 0 (d.1.2.1,d.2.1),keep:=[2,4,7,8,9],slots:=fun i=>[(1,.dsl bc i.2.2),(10,.int .i64 i.1)],keepN:=[128,144],names:=fun i=>[(80,.live (.cells 28 (bt bA (oU d.1 i.2.1))))]})|9=>some (fun S=>{ι:=Int×(List ae)×Bool,qn:=⟨fun k_=>∀(i:Int)(out:(List ae))(dn:Bool),k_ (i,out,dn),fun k_ h_ i=>h_ i.1 i.2.1 i.2.2,fun k_=>∃ (i:Int) (out:(List ae)) (dn:Bool),k_ (i,out,dn),fun k_ ⟨i,out,dn,h_⟩=>⟨_,h_⟩⟩,μ:=fun i=>((S.l bc 1).length-i.1).toNat,inv:=fun i=>0<=i.1/\i.1<=(S.l bc 1).length/\(i.2.2=false->i.2.1=(S.l bc 1).take i.1.toNat∧∀ x∈(S.l bc 1).take i.1.toNat,x.1<=(S.c bc 192).1)/\(i.2.2=true->i.2.1=bX ((S.l bc 1).take i.1.toNat) (S.c bc 192)∧∃ x∈(S.l bc 1).take i.1.toNat,(S.c bc 192).1<x.1),keep:=[1,2,4,7,8,9,10,11],slots:=fun i=>[(12,.own 524288 3),(13,.bool i.2.2),(14,.int .i64 i.1)],keepN:=[80,128,144,192],names:=fun i=>[(524288,.live (.row 53 bc i.2.1))]})|_=>none)})
def cO(a:Int×Int×Int×List (List Int)×Int×List (List Int)×List (Int×List Int)×List (Int×Int×List Int)×List (Int×Int×List Int))(e g:Int) :=
 IntKind.wrap .i64 (IntKind.wrap .i64 (a.1+(1:Int))+e)+g
def nf(a:Int×Int×Int×List (List Int)×Int×List (List Int)×List (Int×List Int)×List (Int×Int×List Int)×List (Int×Int×List Int)) :=
 a.2.2.1=a.2.2.1/\a.2.2.2.1=a.2.2.2.1/\a.2.2.2.2.1=a.2.2.2.2.1/\a.2.2.2.2.2.1=a.2.2.2.2.2.1/\a.2.2.2.2.2.2.1=a.2.2.2.2.2.2.1/\a.2.2.2.2.2.2.2.1=a.2.2.2.2.2.2.2.1/\a.2.2.2.2.2.2.2.2=a.2.2.2.2.2.2.2.2/\True
def pn(a:Int×Int×Int×List (List Int)×Int×List (List Int)×List (Int×List Int)×List (Int×Int×List Int)×List (Int×Int×List Int))(c:List Int)(e g h:Int)(i:List ae)(p:Int)(q:List ae)(r:Bool) :=
 0<=p/\p<=(i.length:Int)/\(r=false->q=List.take p.toNat i/\ ∀(s:Int×Int×List Int),s∈List.take p.toNat i->s.1<=IntKind.wrap .i64 (cO a e g))/\(r=true->q=bX (List.take p.toNat i) (IntKind.wrap .i64 (cO a e g),h,c)/\ ∃(s:Int×Int×List Int),s∈List.take p.toNat i/\IntKind.wrap .i64 (cO a e g)<s.1)
theorem zV :
 ∀(a:Int×Int×Int×List (List Int)×Int×List (List Int)×List (Int×List Int)×List (Int×Int×List Int)×List (Int×Int×List Int))(b:List (Int×Int×List Int))(c:List Int)(d:Bool)(e f:Int),CT.wf bA a/\(b.length<=maxLen/\ ∀(g:Int×Int×List Int),g∈b->ao g.1/\ao g.2.1/\g.2.2.length<=maxLen/\ ∀(h:Int),h∈g.2.2->0<=h/\h<=255)/\(c.length<=maxLen/\ ∀(g:Int),g∈c->0<=g/\g<=255)/\(True/\ao e/\ao f)/\True->(b.length:Int)<=1000000/\0<=a.1/\a.1<=1125899906842624/\0<=a.2.1/\a.2.1<=1125899906842624/\(0<=e/\e<=1000)/\0<=f/\f<=8->(∃(g:Int) (h:Int),∃(i:List ae),(0<=g/\g<=f+(1:Int)/\(d=true->g=0/\i=b)/\(i.length:Int)<=1000000+g/\h=a.2.1+g/\bv a.1 e c (Int.toNat (f+(1:Int) -g)) g (h,i)=bv a.1 e c (Int.toNat (f+(1:Int))) (0:Int) (a.2.1,b))/\b=i/\c=c/\(0:Int)=g/\d=d/\e=e/\f=f/\(0:Int)=0/\(0:Int)=0/\(0:Int)=0/\(0:Int)=0/\a.1=a.1/\a.2.1=h/\(nf a))/\ ∀(g h:Int) (i:List
 ae),0<=g/\g<=f+(1:Int)/\(d=true->g=0/\i=b)/\(i.length:Int)<=1000000+g/\h=a.2.1+g/\bv a.1 e c (Int.toNat (f+(1:Int) -g)) g (h,i)=bv a.1 e c (Int.toNat (f+(1:Int))) (0:Int) (a.2.1,b)-> ∀(j:Bool),j=decide (g<=f)->(j->(j->j)/\True)/\(j->(j->j)/\True)/\(j->j)/\ ∀(k:Bool),(k=bif j then ! d else false)->(k->(k->k)/\True)/\(k->(k->k)/\True)/\(k->k)/\av (bif k then decide ((i.length:Int)<4096) else false) ((∃(l:Int) (m:List ae),∃(n:Bool),(0<=l/\l<=(i.length:Int)/\(n=false->m=List.take l.toNat i/\ ∀(o:Int×Int×List Int),o∈List.take l.toNat i->o.1<=IntKind.wrap .i64 (cO a e g))/\(n=true->m=bX (List.take l.toNat i) (IntKind.wrap .i64 (cO a e g),h,c)/\ ∃(o:Int×Int×List Int),o∈List.take l.toNat i/\IntKind.wrap .i64 (cO a e g)<o.1))/\i=i/\c=c/\g=g/\false=n/\(0:Int)=l/\a.1=a.1/\IntKind.wrap .i64 (h+(1:Int))=IntKind.wrap .i64
 (h+(1:Int))/\a.2.2.1=a.2.2.1/\a.2.2.2.1=a.2.2.2.1/\a.2.2.2.2.1=a.2.2.2.2.1/\a.2.2.2.2.2.1=a.2.2.2.2.2.1/\a.2.2.2.2.2.2.1=a.2.2.2.2.2.2.1/\a.2.2.2.2.2.2.2.1=a.2.2.2.2.2.2.2.1/\a.2.2.2.2.2.2.2.2=a.2.2.2.2.2.2.2.2/\d=d/\e=e/\f=f/\(0:Int)=0/\(0:Int)=0/\(0:Int)=0/\(0:Int)=0/\IntKind.wrap .i64 (cO a e g)=IntKind.wrap .i64 (cO a e g)/\h=h/\c=c/\m=(ib)/\True)/\ ∀(l:Int)(m:List ae)(n:Bool),0<=l/\l<=(i.length:Int)/\(n=false->m=List.take l.toNat i/\ ∀(o:Int×Int×List Int),o∈List.take l.toNat i->o.1<=IntKind.wrap .i64 (cO a e g))/\(n=true->m=bX (List.take l.toNat i) (IntKind.wrap .i64 (cO a e g),h,c)/\ ∃(o:Int×Int×List Int),o∈List.take l.toNat i/\IntKind.wrap .i64 (cO a e g)<o.1)->av (decide (l<(i.length:Int))) (∀(o:Bool),o= ! n->(o->(o->o)/\(o->o)/\0<=l/\l<(i.length:Int)/\True)/\(o->(o->o)/\True)/\(o->(o->o)/\True)/\(o->(o->o)/\True)/\(o->(o->o)/\(o->o)/\True)/\(o->o)/\av (bif
 o then decide (IntKind.wrap .i64 (cO a e g)<(i.getD l.toNat default).1) else false) ((m.length+List.length [(IntKind.wrap .i64 (cO a e g),h,c)])*(40:Nat)<=(fA)/\0<=l/\l<(i.length:Int)/\(List.length (m++[(IntKind.wrap .i64 (cO a e g),h,c)])+List.length [i.getD l.toNat default])*(40:Nat)<=(fA)/\ ∃(p:Int) (q:List ae),∃(r:Bool),(pn a c e g h i p q r)/\Int.toNat ((i.length:Int) -p)<Int.toNat ((i.length:Int) -l)/\i=i/\c=c/\g=g/\true=r/\IntKind.wrap .i64 (l+(1:Int))=p/\a.1=a.1/\IntKind.wrap .i64 (h+(1:Int))=IntKind.wrap .i64 (h+(1:Int))/\a.2.2.1=a.2.2.1/\a.2.2.2.1=a.2.2.2.1/\a.2.2.2.2.1=a.2.2.2.2.1/\a.2.2.2.2.2.1=a.2.2.2.2.2.1/\a.2.2.2.2.2.2.1=a.2.2.2.2.2.2.1/\a.2.2.2.2.2.2.2.1=a.2.2.2.2.2.2.2.1/\a.2.2.2.2.2.2.2.2=a.2.2.2.2.2.2.2.2/\d=d/\e=e/\f=f/\(0:Int)=0/\(0:Int)=0/\(0:Int)=0/\(0:Int)=0/\IntKind.wrap .i64 (cO a e g)=IntKind.wrap .i64 (cO a e
 g)/\h=h/\c=c/\m++[(IntKind.wrap .i64 (cO a e g),h,c)]++[i.getD l.toNat default]=q/\True) (0<=l/\l<(i.length:Int)/\(m.length+List.length [i.getD l.toNat default])*(40:Nat)<=(fA)/\ ∃(p:Int) (q:List ae),∃(r:Bool),(pn a c e g h i p q r)/\Int.toNat ((i.length:Int) -p)<Int.toNat ((i.length:Int) -l)/\i=i/\c=c/\g=g/\n=r/\IntKind.wrap .i64 (l+(1:Int))=p/\a.1=a.1/\IntKind.wrap .i64 (h+(1:Int))=IntKind.wrap .i64 (h+(1:Int))/\a.2.2.1=a.2.2.1/\a.2.2.2.1=a.2.2.2.1/\a.2.2.2.2.1=a.2.2.2.2.1/\a.2.2.2.2.2.1=a.2.2.2.2.2.1/\a.2.2.2.2.2.2.1=a.2.2.2.2.2.2.1/\a.2.2.2.2.2.2.2.1=a.2.2.2.2.2.2.2.1/\a.2.2.2.2.2.2.2.2=a.2.2.2.2.2.2.2.2/\d=d/\e=e/\f=f/\(0:Int)=0/\(0:Int)=0/\(0:Int)=0/\(0:Int)=0/\IntKind.wrap .i64 (cO a e g)=IntKind.wrap .i64 (cO a e g)/\h=h/\c=c/\m++[i.getD l.toNat default]=q/\True)) (av (! n) ((m.length+List.length [(IntKind.wrap .i64 (cO a e g),h,c)])*(40:Nat)<=(fA)/\ ∃(o:Int)
 (p:Int),∃(q:List ae),(0<=o/\o<=f+(1:Int)/\(d=true->o=0/\q=b)/\(q.length:Int)<=1000000+o/\p=a.2.1+o/\bv a.1 e c (Int.toNat (f+(1:Int) -o)) o (p,q)=bv a.1 e c (Int.toNat (f+(1:Int))) (0:Int) (a.2.1,b))/\Int.toNat (f+(1:Int) -o)<Int.toNat (f+(1:Int) -g)/\m++[(IntKind.wrap .i64 (cO a e g),h,c)]=q/\c=c/\IntKind.wrap .i64 (g+(1:Int))=o/\d=d/\e=e/\f=f/\(0:Int)=0/\(0:Int)=0/\(0:Int)=0/\(0:Int)=0/\a.1=a.1/\IntKind.wrap .i64 (h+(1:Int))=p/\(nf a)) (∃(o:Int) (p:Int),∃(q:List ae),(0<=o/\o<=f+(1:Int)/\(d=true->o=0/\q=b)/\(q.length:Int)<=1000000+o/\p=a.2.1+o/\bv a.1 e c (Int.toNat (f+(1:Int) -o)) o (p,q)=bv a.1 e c (Int.toNat (f+(1:Int))) (0:Int) (a.2.1,b))/\Int.toNat (f+(1:Int) -o)<Int.toNat (f+(1:Int) -g)/\m=q/\c=c/\IntKind.wrap .i64 (g+(1:Int))=o/\d=d/\e=e/\f=f/\(0:Int)=0/\(0:Int)=0/\(0:Int)=0/\(0:Int)=0/\a.1=a.1/\IntKind.wrap .i64 (h+(1:Int))=p/\(nf a))))
 ((a.1,h,a.2.2)=oU a (a7 a.1 c (d,e,f) (a.2.1,b)).1/\i=(a7 a.1 c (d,e,f) (a.2.1,b)).2):=by
  delta cO nf fA ib pn
  rintro c l0 b fd dl cp-⟨hl0,n0,n1,o0,o1,⟨d0,d1⟩,c0,c1⟩
  have n0:0<=c.1:=n0
  refine⟨⟨0,c.2.1,l0,⟨by omega,by omega,fun _=>⟨rfl,rfl⟩,by omega,by omega,by rw[Int.sub_zero]⟩,(by repeat' first|exact trivial|refine⟨trivial,?_⟩|refine⟨(by with_reducible rfl),?_⟩|refine⟨af (by omega) (by omega),?_⟩|refine⟨rfl,?_⟩)⟩,?_⟩
  rintro k o l ⟨k0,k1,hdr,hln,ho,hs⟩
  intro b1 hb1
  (repeat refine⟨fun h_=>(by first|(simp;done)|(simp[h_];done)|(simp_all;done)),?_⟩)
  intro b2 hb2
  (repeat refine⟨fun h_=>(by first|(simp;done)|(simp[h_];done)|(simp_all;done)),?_⟩)
  have hT:IntKind.i64.wrap (IntKind.i64.wrap (IntKind.i64.wrap (c.1+1)+dl)+k)=c.1+1+dl+k:=by rw[af (n:=c.1+1) (by omega) (by omega),af (n:=c.1+1+dl) (by omega) (by omega),af (by omega) (by omega)]
  have hO:IntKind.i64.wrap (o+1)=o+1:=af (by omega) (by omega)
  have hK:IntKind.i64.wrap (k+1)=k+1:=af (by omega) (by omega)
  rw[hT,hO,hK]
  obtain⟨t,ht⟩:∃ t:ae,t=(c.1+1+dl+k,o,b):=⟨_,rfl⟩
  have ht1:c.1+1+dl+k=t.1:=by rw[ht]
  rw[← ht,ht1]
  have hc:(bif b2 then decide ((l.length:Int)<4096) else false)=decide (k<=cp/\fd=false/\l.length<4096):=by
   rw[hb2,hb1]
   rw[show decide ((l.length:Int)<4096)=decide (l.length<4096) from decide_eq_decide.2 (by omega)]
   by_cases h1:k<=cp <;> cases fd <;> simp[h1]
  rw[hc]
  refine aG (fun h=>?_) (fun h=>?_)
  ·obtain⟨h1,h2,h3⟩:=of_decide_eq_true h
   have nxt:bv c.1 dl b (cp+1-(k+1)).toNat (k+1) (o+1,bX l t)=bv c.1 dl b (cp+1).toNat 0 (c.2.1,l0):=by
    rw[← hs,show (cp+1-k).toNat=(cp+1-(k+1)).toNat+1 by omega,bv,if_pos h3,ht]
   refine⟨⟨0,[],false,⟨by omega,by omega,fun _=>⟨rfl,fun y hy=>(by cases (show y∈([]:List ae) from hy))⟩,fun h=>by cases h⟩,(by repeat' first|exact trivial|refine⟨trivial,?_⟩|refine⟨(by with_reducible rfl),?_⟩|refine⟨af (by omega) (by omega),?_⟩|refine⟨rfl,?_⟩)⟩,?_⟩
   rintro i out dn ⟨i0,i1,g1,g2⟩
   refine aG (fun hi=>?_) (fun hi=>?_)
   ·have hi:=of_decide_eq_true hi
    have hm:out.length<=i.toNat+1:=by
     cases dn with
     | false=>rw[(g1 rfl).1,List.length_take];omega
     | true=>rw[(g2 rfl).1,kH,List.length_take];omega
    intro b3 hb3
    refine⟨fun h_=>⟨fun _=>h_,fun _=>h_,i0,hi,trivial⟩,(by simp),(by simp),(by simp),(by simp),(by simp),?_⟩
    have hb4:(bif b3 then decide (t.1<(l.getD i.toNat default).1) else false)=decide (dn=false/\t.1<(l.getD i.toNat default).1):=by
     rw[hb3]
     cases dn <;> simp
    rw[hb4,af (n:=i+1) (by omega) (by omega)]
    refine aG (fun hq=>?_) (fun hq=>?_)
    ·obtain⟨q1,q2⟩:=of_decide_eq_true hq
     subst q1
     obtain⟨e1,e2⟩:=g1 rfl
     refine⟨by simp only[List.length_singleton];omega,i0,hi,by simp only[List.length_append,List.length_singleton];omega,i+1,_,true,⟨by omega,by omega,(fun h=>by cases h),fun _=>?_⟩,by omega,(by repeat' first|exact trivial|refine⟨trivial,?_⟩|refine⟨(by with_reducible rfl),?_⟩|refine⟨af (by omega) (by omega),?_⟩|refine⟨rfl,?_⟩)⟩
     rw[cG i0 hi]
     refine⟨?_,l.getD i.toNat default,List.mem_append_right _ (List.mem_singleton.2 rfl),q2⟩
     rw[xH e2 q2,← e1]
    ·have hq:=of_decide_eq_false hq
     refine⟨i0,hi,by simp only[List.length_singleton];omega,i+1,_,dn,⟨by omega,by omega,fun h=>?_,fun h=>?_⟩,by omega,(by repeat' first|exact trivial|refine⟨trivial,?_⟩|refine⟨(by with_reducible rfl),?_⟩|refine⟨af (by omega) (by omega),?_⟩|refine⟨rfl,?_⟩)⟩
     ·obtain⟨e1,e2⟩:=g1 h
      rw[cG i0 hi,e1]
      refine⟨rfl,fun y hy=>?_⟩
      rcases List.mem_append.1 hy with hy|hy
      ·exact e2 y hy
      ·rw[List.mem_singleton.1 hy]
       exact Int.not_lt.1 fun z=>hq ⟨h,z⟩
     ·obtain⟨e1,y,hy,z⟩:=g2 h
      rw[cG i0 hi,e1]
      exact⟨(yv ⟨y,hy,z⟩).symm,y,List.mem_append_left _ hy,z⟩
   ·have hi:=of_decide_eq_false hi
    rw[List.take_of_length_le (by omega)] at g1 g2
    refine aG (fun hd=>?_) (fun hd=>?_)
    ·have hd:dn=false:=by simpa using hd
     obtain⟨e1,e2⟩:=g1 hd
     refine⟨by rw[e1];simp only[List.length_singleton];omega,k+1,o+1,_,⟨by omega,by omega,fun q=>(by rw[h2] at q;cases q),?_,by omega,?_⟩,by omega,(by repeat' first|exact trivial|refine⟨trivial,?_⟩|refine⟨(by with_reducible rfl),?_⟩|refine⟨af (by omega) (by omega),?_⟩|refine⟨rfl,?_⟩)⟩
     ·rw[e1,List.length_append];simp only[List.length_singleton];omega
     ·rw[e1,← rT e2];exact nxt
    ·have hd:dn=true:=by simpa using hd
     obtain⟨e1,-⟩:=g2 hd
     refine⟨k+1,o+1,_,⟨by omega,by omega,fun q=>(by rw[h2] at q;cases q),?_,by omega,?_⟩,by omega,(by repeat' first|exact trivial|refine⟨trivial,?_⟩|refine⟨(by with_reducible rfl),?_⟩|refine⟨af (by omega) (by omega),?_⟩|refine⟨rfl,?_⟩)⟩
     ·rw[e1,kH];omega
     ·rw[e1];exact nxt
  ·have h:=of_decide_eq_false h
   have e:a7 c.1 b (fd,dl,cp) (c.2.1,l0)=(o,l):=by
    unfold a7
    dsimp only
    cases hfd:fd with
    | true =>
     obtain⟨q1,q2⟩:=hdr hfd
     rw[if_pos rfl,q2,ho,q1,Int.add_zero]
    | false =>
     rw[if_neg (by simp),← hs]
     cases hn:(cp+1-k).toNat with
     | zero=>rfl
     | succ n=>rw[bv,if_neg (fun q=>h ⟨by omega,hfd,q⟩)]
   rw[e]
   exact⟨rfl,rfl⟩
theorem wH:aL Try.prog GL 46 qG.spec:=Ct.okH _ Try.func46 (by kernel_rfl) (AW aV (d:=82)) aH xm (aW (by kernel_rfl) zV)
end Go.RS

/- Xrf2: the document's exchange: acknowledgements, what the receiver does, ticks. -/
namespace Go.RS
open Go.SX Go.Proofs
set_option maxRecDepth 100000
set_option linter.unusedVariables false
theorem vR{l:List au}{t x:au}(h:∃ y∈l,t.1<y.1):cH (l++[x]) t=cH l t++[x]:=by
 obtain⟨y,hy,q⟩:=h
 obtain⟨a,b⟩:=pD (p:=fun x:au=>decide (x.1<t.1)) ⟨y,hy,decide_eq_false (by omega)⟩ [x]
 unfold cH
 rw[a,b]
 simp
theorem vn{l m:List au}{t:au}(h:∀ y∈l,y.1<t.1):cH (l++m) t=l++cH m t:=by
 have hp:∀ y∈l,(fun x:au=>decide (x.1<t.1)) y=true:=fun y hy=>decide_eq_true (h y hy)
 unfold cH
 rw[List.takeWhile_append_of_pos hp,List.dropWhile_append_of_pos hp,List.append_assoc]
theorem Ay{l:List au}{t x:au}(h:∀ y∈l,y.1<t.1)(hx:t.1<x.1):cH (l++[x]) t=l++[t]++[x]:=by
 rw[vn h]
 have n1:¬ x.1<t.1:=by omega
 unfold cH
 rw[List.takeWhile_cons_of_neg (by simpa using n1),List.dropWhile_cons_of_neg (by simpa using n1)]
 simp
theorem zE{l:List au}{t:au}(h:∀ y∈l,y.1<t.1):cH l t=l++[t]:=by
 have:=vn (m:=[]) h
 rw[List.append_nil] at this
 rw[this];rfl
theorem x9(l:List au)(t:au):(cH l t).length=l.length+1:=by
 unfold cH
 have:=congrArg List.length (List.takeWhile_append_dropWhile (p:=fun y:au=>decide (y.1<t.1)) (l:=l))
 rw[List.length_append] at this
 rw[List.length_append,List.length_cons];omega
theorem re(now:Int)(l:List ae):l.take (ai now l).length=ai now l:=by
 have e:ai now l++aP now l=l:=List.takeWhile_append_dropWhile
 conv=>lhs;arg 2;rw[← e]
 exact List.take_left
def tG:Ct:=⟨[.agg bA],[.own 5 aZ],fun d=>[(aK d.1).length<=65535,(az d.1).length<=100000,∀ x∈az d.1,0<=x.1/\x.1<=65535],fun d=>((bp ((aK d.1).length:Int) ((az d.1).map (·.1)),()),())⟩
def wh:aI tG.ps->aO:=(fun d=>{loops:=(fun n=>match n with|3=>some (fun S=>{ι:=Int×(List Int),qn:=⟨fun k_=>∀(i:Int)(b:(List Int)),k_ (i,b),fun k_ h_ i=>h_ i.1 i.2,fun k_=>∃ (i:Int) (b:(List Int)),k_ (i,b),fun k_ ⟨i,b,h_⟩=>⟨_,h_⟩⟩,μ:=fun i=>((az d.1).length-i.1).toNat,inv:=fun i=>0<=i.1/\i.1<=(az d.1).length/\i.2=bp ((aK d.1).length:Int) (((az d.1).map (·.1)).take i.1.toNat),keep:=[1],slots:=fun i=>[(3,.own 524288 1),(4,.int .i64 i.1)],keepN:=[32],names:=fun i=>[(524288,.live (.row 5 aZ i.2))]})|_=>none)})
def c8(a:Int×Int×Int×List (List Int)×Int×List (List Int)×List (Int×List Int)×List (Int×Int×List Int)×List (Int×Int×List Int)) :=
 ((List.length (az a)):Int)
theorem At :
 ∀(a:Int×Int×Int×List (List Int)×Int×List (List Int)×List (Int×List Int)×List (Int×Int×List Int)×List (Int×Int×List Int)),CT.wf bA a/\True->(List.length (aK a)<=(65535:Nat)/\List.length (az a)<=(100000:Nat)/\ ∀(b:au),b∈az a->0<=b.1/\b.1<=65535)->(1:Nat)<=List.length [(65:Int)]/\((List.length [(65:Int)]):Int)<=1099511627776/\(∃(b:Int) (c:List Int),(0<=b/\b<=(c8 a)/\c=bp ((List.length (aK a)):Int) (List.take b.toNat (List.map (fun (d:au)=>d.1) (az a))))/\(0:Int)=b/\a.1=a.1/\a.2.1=a.2.1/\a.2.2.1=a.2.2.1/\a.2.2.2.1=a.2.2.2.1/\a.2.2.2.2.1=a.2.2.2.2.1/\a.2.2.2.2.2.1=a.2.2.2.2.2.1/\a.2.2.2.2.2.2.1=a.2.2.2.2.2.2.1/\a.2.2.2.2.2.2.2.1=a.2.2.2.2.2.2.2.1/\a.2.2.2.2.2.2.2.2=a.2.2.2.2.2.2.2.2/\dR [(65:Int)] (a.2.2.2.2.2.1.length:Int) (2:Int)=c/\True)/\ ∀(b:Int)(c:List Int),0<=b/\b<=(c8 a)/\c=bp ((List.length (aK a)):Int) (List.take b.toNat (List.map (fun (d:au)=>d.1)
 (az a)))->av (decide (b<(a.2.2.2.2.2.2.1.length:Int))) (0<=b/\b<(a.2.2.2.2.2.2.1.length:Int)/\(c.length:Int)<=1099511627776/\ ∃(d:Int) (e:List Int),(0<=d/\d<=(c8 a)/\e=bp ((List.length (aK a)):Int) (List.take d.toNat (List.map (fun (f:au)=>f.1) (az a))))/\Int.toNat ((c8 a) -d)<Int.toNat ((c8 a) -b)/\IntKind.wrap .i64 (b+(1:Int))=d/\a.1=a.1/\a.2.1=a.2.1/\a.2.2.1=a.2.2.1/\a.2.2.2.1=a.2.2.2.1/\a.2.2.2.2.1=a.2.2.2.2.1/\a.2.2.2.2.2.1=a.2.2.2.2.2.1/\a.2.2.2.2.2.2.1=a.2.2.2.2.2.2.1/\a.2.2.2.2.2.2.2.1=a.2.2.2.2.2.2.2.1/\a.2.2.2.2.2.2.2.2=a.2.2.2.2.2.2.2.2/\dR c (List.getD a.2.2.2.2.2.2.1 b.toNat default).1 (2:Int)=e/\True) (c=bp ((List.length (aK a)):Int) (List.map (fun (d:au)=>d.1) (az a))):=by
  delta c8
  rintro c-⟨hg,he,hr⟩
  have hg':c.2.2.2.2.2.1.length<=65535:=hg
  have eE:az c=c.2.2.2.2.2.2.1:=rfl
  have eG:aK c=c.2.2.2.2.2.1:=rfl
  rw[eE] at he hr ⊢
  rw[eG]
  have e0:dR [65] (c.2.2.2.2.2.1.length:Int) 2=bp (c.2.2.2.2.2.1.length:Int) []:=by
   rw[pH ⟨by omega,by omega⟩];simp[bp,dX]
  rw[e0]
  refine⟨by simp,by simp,⟨0,_,⟨by omega,by omega,rfl⟩,by (repeat first|refine⟨trivial,?_⟩|refine⟨(by with_reducible rfl),?_⟩|refine⟨af (by omega) (by omega),?_⟩);simp⟩,?_⟩
  rintro i b ⟨i0,i1,rfl⟩
  refine aG (fun hi=>?_) (fun hi=>?_)
  ·have hi:=of_decide_eq_true hi
   have hx:=hr _ (cy (xs:=c.2.2.2.2.2.2.1) i0 hi)
   have hn:=cG (l:=c.2.2.2.2.2.2.1.map (·.1)) i0 (by rw[List.length_map];exact hi)
   have em:(c.2.2.2.2.2.2.1.map (·.1)).getD i.toNat default=(c.2.2.2.2.2.2.1.getD i.toNat default).1:=by
    simp only[List.getD_eq_getElem?_getD,List.getElem?_map]
    rw[List.getElem?_eq_getElem (by omega)];rfl
   have e1:dR (bp (c.2.2.2.2.2.1.length:Int) ((c.2.2.2.2.2.2.1.map (·.1)).take i.toNat)) (c.2.2.2.2.2.2.1.getD i.toNat default).1 2=bp (c.2.2.2.2.2.1.length:Int) ((c.2.2.2.2.2.2.1.map (·.1)).take (i+1).toNat):=by
    rw[pH hx,qW,hn,em]
   rw[e1]
   refine⟨i0,hi,?_,i+1,_,⟨by omega,by omega,rfl⟩,by omega,(by repeat' first|exact trivial|refine⟨trivial,?_⟩|refine⟨(by with_reducible rfl),?_⟩|refine⟨af (by omega) (by omega),?_⟩|refine⟨rfl,?_⟩)⟩
   rw[lS,List.length_take,List.length_map];omega
  ·have hi:=of_decide_eq_false hi
   rw[List.take_of_length_le (by rw[List.length_map];omega)]
theorem ze:aL Try.prog GL 47 tG.spec:=Ct.okH _ Try.func47 (by kernel_rfl) (aJ aV te) aH wh (aW (by kernel_rfl) At)
def jx(c:aj)(s:List (List Int)×List au):aj:=(c.1,c.2.1,c.2.2.1,c.2.2.2.1,c.2.2.2.2.1,s.1,s.2,c.2.2.2.2.2.2.2)
def tK:Ct:=⟨[.agg bA,.val (.sl aZ)],[.agg bA],fun d=>[3<=d.2.1.length,(d.2.1.length:Int)<=1000000,0<=ay d.1,ay d.1<=100000,0<=ak d.1,ak d.1<=100000,(aK d.1).length<=100000,(az d.1).length<=100000],fun d=>((jx d.1 (bV (ay d.1+ak d.1) (aK d.1,az d.1) (aQ d.2.1 1) (d.2.1.drop 3)),()),())⟩
def yB:aI tK.ps->aO:=(fun d=>{loops:=(fun n=>match n with|4=>some (fun S=>{ι:=(List (List Int))×(List au),qn:=⟨fun k_=>∀(g:(List (List Int)))(e:(List au)),k_ (g,e),fun k_ h_ i=>h_ i.1 i.2,fun k_=>∃ (g:(List (List Int))) (e:(List au)),k_ (g,e),fun k_ ⟨g,e,h_⟩=>⟨_,h_⟩⟩,μ:=fun i=>i.2.length,inv:=fun i=>bY i.2 i.1=bY (az d.1) (aK d.1++[d.2.1.drop 3])/\i.1.length+i.2.length<=300000,keep:=[2,4],slots:=fun i=>[],keepN:=[80],names:=fun i=>[(48,.live (.cells 28 [.int .i64 (ab d.1),.int .i64 (bl d.1),.int .i64 (ak d.1),.dsl (.sl aZ) (ag d.1),.int .i64 (ay d.1),.own 524288 1,.dsl dQ i.2,.dsl bc (aD d.1),.dsl bc (bd d.1)])),(524288,.live (.row 22 (.sl aZ) i.1))]})|13=>some (fun S=>{ι:=Int×(List au)×Bool,qn:=⟨fun k_=>∀(i:Int)(out:(List au))(dn:Bool),k_ (i,out,dn),fun k_ h_ i=>h_ i.1 i.2.1 i.2.2,fun k_=>∃ (i:Int) (out:(List au)) (dn:Bool),k_ (i,out,dn),fun k_ ⟨i,out,dn,h_⟩=>⟨_,h_⟩⟩,μ:=fun i=>((az d.1).length-i.1).toNat,inv:=fun i=>0<=i.1/\i.1<=(az d.1).length/\(∀ x∈(az d.1).take i.1.toNat,x.1≠aQ d.2.1 1)/\(i.2.2=false->i.2.1=(az d.1).take i.1.toNat∧∀ x∈(az d.1).take i.1.toNat,x.1<aQ d.2.1 1)/\(i.2.2=true->i.2.1=cH ((az d.1).take i.1.toNat) (aQ d.2.1 1,d.2.1.drop 3)∧∃ x∈(az d.1).take i.1.toNat,aQ d.2.1 1<x.1),keep:=[2,4,5,6],slots:=fun i=>[(7,.own 524288 2),(8,.bool i.2.2),(9,.int .i64 i.1)],keepN:=[48,80],names:=fun i=>[(524288,.live (.row 51 dQ i.2.1))]})|_=>none)})
def gt :=
 Int.toNat (3:Int)
def fZ(b:List Int) :=
 Int.toNat (b.length:Int)
def kr(b:List Int) :=
 (bI b (1:Int) (2:Int),bf b (gt) (fZ b))
def j7(a:Int×Int×Int×List (List Int)×Int×List (List Int)×List (Int×List Int)×List (Int×Int×List Int)×List (Int×Int×List Int))(b:List Int) :=
 bV (ay a+ak a) (aK a,az a) (aQ b (1:Int)) (List.drop (3:Nat) b)
def oI(a:Int×Int×Int×List (List Int)×Int×List (List Int)×List (Int×List Int)×List (Int×Int×List Int)×List (Int×Int×List Int))(b:List Int)(h:Int)(i:List au)(j:Bool) :=
 0<=h/\h<=(c8 a)/\(∀(k:au),k∈List.take h.toNat (az a)->k.1≠aQ b (1:Int))/\(j=false->i=List.take h.toNat (az a)/\ ∀(k:au),k∈List.take h.toNat (az a)->k.1<aQ b (1:Int))/\(j=true->i=cH (List.take h.toNat (az a)) (aQ b (1:Int),List.drop (3:Nat) b)/\ ∃(k:au),k∈List.take h.toNat (az a)/\aQ b 1<k.1)
def qf(a:Int×Int×Int×List (List Int)×Int×List (List Int)×List (Int×List Int)×List (Int×Int×List Int)×List (Int×Int×List Int))(b:List Int)(d:Int)(e:List au)(f:Bool) :=
 d<=(c8 a)/\(∀(g:au),g∈List.take d.toNat (az a)->g.1≠aQ b (1:Int))/\(f=false->e=List.take d.toNat (az a)/\ ∀(g:au),g∈List.take d.toNat (az a)->g.1<aQ b (1:Int))/\(f=true->e=cH (List.take d.toNat (az a)) (aQ b (1:Int),List.drop (3:Nat) b)/\ ∃(g:au),g∈List.take d.toNat (az a)/\aQ b 1<g.1)
def fS :=
 (140737488355328:Nat)
theorem wW :
 ∀(a:Int×Int×Int×List (List Int)×Int×List (List Int)×List (Int×List Int)×List (Int×Int×List Int)×List (Int×Int×List Int))(b:List Int),CT.wf bA a/\(b.length<=maxLen/\ ∀(c:Int),c∈b->0<=c/\c<=255)/\True->(3:Nat)<=b.length/\(b.length:Int)<=1000000/\0<=ay a/\ay a<=100000/\0<=ak a/\ak a<=100000/\List.length (aK a)<=(100000:Nat)/\List.length (az a)<=(100000:Nat)->(b.length:Int)<=9223372036854775807/\(0:Int)<=3/\3<=(b.length:Int)/\(b.length:Int)<=(b.length:Int)/\av (decide (bI b (1:Int) (2:Int)=(a.2.2.2.2.2.1.length:Int))) (a.2.2.2.2.2.1.length*(24:Nat)<=(fS)/\(a.2.2.2.2.2.1.length+List.length [bf b (gt) (fZ b)])*(24:Nat)<=(fS)/\(∃(c:List (List Int)),∃(d:List au),(bY d c=bY (az a) (aK a++[List.drop (3:Nat) b])/\c.length+d.length<=(300000:Nat))/\(0:Int)=0/\(0:Int)=0/\(0:Int)=0/\(0:Int)=0/\a.1=ab a/\a.2.1=bl a/\a.2.2.1=ak a/\a.2.2.2.1=ag
 a/\a.2.2.2.2.1=ay a/\a.2.2.2.2.2.2.1=d/\a.2.2.2.2.2.2.2.1=aD a/\a.2.2.2.2.2.2.2.2=bd a/\a.2.2.2.2.2.1++[bf b (gt) (fZ b)]=c/\True)/\ ∀(c:List (List Int))(d:List au),bY d c=bY (az a) (aK a++[List.drop (3:Nat) b])/\c.length+d.length<=(300000:Nat)-> ∀(e:Bool),e=decide (0<(d.length:Int))->(e->(e->e)/\True)/\(e->(e->e)/\(0:Int)<=0/\0<(d.length:Int)/\True)/\(e->(e->e)/\True)/\(e->(e->e)/\True)/\(e->(e->e)/\True)/\(e->(e->e)/\True)/\(e->(e->e)/\(e->e)/\True)/\(e->e)/\av (bif e then decide ((d.getD (Int.toNat (0:Int)) default).1=(c.length:Int)) else false) ((0:Int)<=0/\0<(d.length:Int)/\(c.length+List.length [(d.getD (Int.toNat (0:Int)) default).2])*(24:Nat)<=(fS)/\(0:Int)<=1/\1<=(d.length:Int)/\(d.length:Int)<=(d.length:Int)/\ ∃(f:List (List Int)),∃(g:List au),(bY g f=bY (az a) (aK a++[List.drop (3:Nat)
 b])/\f.length+g.length<=(300000:Nat))/\g.length<d.length/\(0:Int)=0/\(0:Int)=0/\(0:Int)=0/\(0:Int)=0/\ab a=ab a/\bl a=bl a/\ak a=ak a/\ag a=ag a/\ay a=ay a/\bf d (Int.toNat (1:Int)) (Int.toNat (d.length:Int))=g/\aD a=aD a/\bd a=bd a/\c++[(d.getD (Int.toNat (0:Int)) default).2]=f/\True) ((ab a,bl a,ak a,ag a,ay a,c,d,aD a,bd a)=jx a (j7 a b))) (∀(c:Bool),c=decide (bI b (1:Int) 2<(a.2.2.2.2.2.1.length:Int))->((! c)->((! c)->(! c))/\True)/\((! c)->((! c)->(! c))/\True)/\((! c)->((! c)->(! c))/\((! c)->(! c))/\True)/\((! c)->((! c)->(! c))/\((! c)->(! c))/\True)/\(c=false->(! c))/\av (bif c then true else decide (IntKind.wrap .i64 (a.2.2.2.2.1+a.2.2.1)<=bI b (1:Int) (2:Int))) (a=jx a (j7 a b)) ((∃(d:Int) (e:List au),∃(f:Bool),(0<=d/\(qf a b d e f))/\bI b (1:Int) (2:Int)=bI b (1:Int) (2:Int)/\bf b (gt) (fZ b)=bf b (gt)
 (fZ b)/\false=f/\(0:Int)=d/\a.1=a.1/\a.2.1=a.2.1/\a.2.2.1=a.2.2.1/\a.2.2.2.1=a.2.2.2.1/\a.2.2.2.2.1=a.2.2.2.2.1/\a.2.2.2.2.2.1=a.2.2.2.2.2.1/\a.2.2.2.2.2.2.1=a.2.2.2.2.2.2.1/\a.2.2.2.2.2.2.2.1=a.2.2.2.2.2.2.2.1/\a.2.2.2.2.2.2.2.2=a.2.2.2.2.2.2.2.2/\(0:Int)=0/\(0:Int)=0/\(0:Int)=0/\(0:Int)=0/\e=([]:List (Int×List Int))/\True)/\ ∀(d:Int)(e:List au)(f:Bool),0<=d/\(qf a b d e f)->av (decide (d<(a.2.2.2.2.2.2.1.length:Int))) (0<=d/\d<(a.2.2.2.2.2.2.1.length:Int)/\av (decide ((List.getD a.2.2.2.2.2.2.1 d.toNat default).1=bI b (1:Int) (2:Int))) (a=jx a (j7 a b)) (∀(g:Bool),g= ! f->(g->(g->g)/\True)/\(g->(g->g)/\(g->g)/\0<=d/\d<(a.2.2.2.2.2.2.1.length:Int)/\True)/\(g->(g->g)/\True)/\(g->(g->g)/\True)/\(g->(g->g)/\(g->g)/\True)/\(g->g)/\av (bif g then decide (bI b (1:Int) 2<(List.getD a.2.2.2.2.2.2.1 d.toNat default).1) else false) ((e.length+List.length [(kr
 b)])*(32:Nat)<=(fS)/\0<=d/\d<(a.2.2.2.2.2.2.1.length:Int)/\(List.length (e++[(kr b)])+List.length [List.getD a.2.2.2.2.2.2.1 d.toNat default])*(32:Nat)<=(fS)/\ ∃(h:Int) (i:List au),∃(j:Bool),(oI a b h i j)/\Int.toNat ((c8 a) -h)<Int.toNat ((c8 a) -d)/\bI b (1:Int) (2:Int)=bI b (1:Int) (2:Int)/\bf b (gt) (fZ b)=bf b (gt) (fZ b)/\true=j/\IntKind.wrap .i64 (d+(1:Int))=h/\a.1=a.1/\a.2.1=a.2.1/\a.2.2.1=a.2.2.1/\a.2.2.2.1=a.2.2.2.1/\a.2.2.2.2.1=a.2.2.2.2.1/\a.2.2.2.2.2.1=a.2.2.2.2.2.1/\a.2.2.2.2.2.2.1=a.2.2.2.2.2.2.1/\a.2.2.2.2.2.2.2.1=a.2.2.2.2.2.2.2.1/\a.2.2.2.2.2.2.2.2=a.2.2.2.2.2.2.2.2/\(0:Int)=0/\(0:Int)=0/\(0:Int)=0/\(0:Int)=0/\e++[(kr b)]++[List.getD a.2.2.2.2.2.2.1 d.toNat default]=i/\True) (0<=d/\d<(a.2.2.2.2.2.2.1.length:Int)/\(e.length+List.length [List.getD a.2.2.2.2.2.2.1 d.toNat default])*(32:Nat)<=(fS)/\ ∃(h:Int) (i:List
 au),∃(j:Bool),(oI a b h i j)/\Int.toNat ((c8 a) -h)<Int.toNat ((c8 a) -d)/\bI b (1:Int) (2:Int)=bI b (1:Int) (2:Int)/\bf b (gt) (fZ b)=bf b (gt) (fZ b)/\f=j/\IntKind.wrap .i64 (d+(1:Int))=h/\a.1=a.1/\a.2.1=a.2.1/\a.2.2.1=a.2.2.1/\a.2.2.2.1=a.2.2.2.1/\a.2.2.2.2.1=a.2.2.2.2.1/\a.2.2.2.2.2.1=a.2.2.2.2.2.1/\a.2.2.2.2.2.2.1=a.2.2.2.2.2.2.1/\a.2.2.2.2.2.2.2.1=a.2.2.2.2.2.2.2.1/\a.2.2.2.2.2.2.2.2=a.2.2.2.2.2.2.2.2/\(0:Int)=0/\(0:Int)=0/\(0:Int)=0/\(0:Int)=0/\e++[List.getD a.2.2.2.2.2.2.1 d.toNat default]=i/\True))) (av (! f) ((e.length+List.length [(kr b)])*(32:Nat)<=(fS)/\(a.1,a.2.1,a.2.2.1,a.2.2.2.1,a.2.2.2.2.1,a.2.2.2.2.2.1,e++[(kr b)],a.2.2.2.2.2.2.2)=jx a (j7 a b)) ((a.1,a.2.1,a.2.2.1,a.2.2.2.1,a.2.2.2.2.1,a.2.2.2.2.2.1,e,a.2.2.2.2.2.2.2)=jx a (j7 a b))))):=by
  delta kr c8 j7 oI fZ qf fS gt
  rintro c b-⟨hb,hb2,k0,k1,w0,w1,hg,he⟩
  have eE:az c=c.2.2.2.2.2.2.1:=rfl
  have eG:aK c=c.2.2.2.2.2.1:=rfl
  have eK:ay c=c.2.2.2.2.1:=rfl
  have eW:ak c=c.2.2.1:=rfl
  have eM:bI b 1 2=aQ b 1:=rfl
  have es:bf b (Int.toNat 3) (Int.toNat (b.length:Int))=b.drop 3:=by
   unfold bf;rw[Int.toNat_natCast,List.take_length];rfl
  rw[es,eM]
  rw[eK] at k0 k1
  rw[eW] at w0 w1
  rw[af (n:=c.2.2.2.2.1+c.2.2.1) (by omega) (by omega)]
  rw[eG] at hg
  rw[eE] at he
  generalize hI:aQ b 1=I
  generalize hT:b.drop 3=T
  refine⟨by omega,by omega,by omega,by omega,aG (fun h=>?_) (fun h=>?_)⟩
  ·have h:I=(c.2.2.2.2.2.1.length:Int):=of_decide_eq_true h
   have eT:bV (ay c+ak c) (aK c,az c) I T=bY (az c) (aK c++[T]):=if_pos h
   rw[eT]
   refine⟨by omega,by simp only[List.length_singleton];omega,⟨_,_,⟨rfl,by rw[List.length_append,List.length_singleton,eG,eE];omega⟩,(by repeat' first|exact trivial|refine⟨trivial,?_⟩|refine⟨(by with_reducible rfl),?_⟩|refine⟨af (by omega) (by omega),?_⟩|refine⟨rfl,?_⟩)⟩,?_⟩
   rintro g e ⟨ha,hl⟩
   (repeat (intro (b_:Bool) (hb_:b_=_);(repeat refine⟨(by first|(simp;done)|(rw[hb_];simp;done)|(rw[hb_];simp;omega)|(rw[hb_];simp;intros;omega)|(rw[hb_];simp +contextual;done)),?_⟩);subst hb_))
   refine gH (fun h1 h2=>?_) (fun h1=>?_)
   ·have h1:=of_decide_eq_true h1
    have h2:=of_decide_eq_true h2
    cases e with
    | nil=>simp at h1
    | cons x r =>
     have h2:x.1=(g.length:Int):=h2
     have hl':g.length+(r.length+1)<=300000:=hl
     have e5:bf (x::r) (Int.toNat 1) (Int.toNat ((x::r).length:Int))=r:=by
      unfold bf;rw[Int.toNat_natCast,List.take_length];rfl
     rw[e5]
     refine⟨by omega,h1,by simp only[List.length_singleton];omega,by omega,by simp only[List.length_cons];omega,by omega,g++[x.2],r,⟨?_,by rw[List.length_append,List.length_singleton];omega⟩,by simp,(by repeat' first|exact trivial|refine⟨trivial,?_⟩|refine⟨(by with_reducible rfl),?_⟩|refine⟨af (by omega) (by omega),?_⟩|refine⟨rfl,?_⟩)⟩
     rw[← ha,bY,if_pos h2]
   ·have hz:bY e g=(g,e):=by
     refine uB ?_
     rcases h1 with h1|h1
     ·have h1:=of_decide_eq_false h1
      exact .inl (List.eq_nil_of_length_eq_zero (by omega))
     ·exact .inr (of_decide_eq_false h1)
    rw[← ha,hz]
    rfl
  ·have h:¬ I=(c.2.2.2.2.2.1.length:Int):=of_decide_eq_false h
   have eT:bV (ay c+ak c) (aK c,az c) I T=if I<(c.2.2.2.2.2.1.length:Int)∨c.2.2.2.2.1+c.2.2.1<=I∨(c.2.2.2.2.2.2.1.any fun x=>decide (x.1=I))=true then (aK c,az c) else (aK c,cH (az c) (I,T)):=if_neg h
   rw[eT]
   (repeat (intro (b_:Bool) (hb_:b_=_);(repeat refine⟨(by first|(simp;done)|(rw[hb_];simp;done)|(rw[hb_];simp;omega)|(rw[hb_];simp;intros;omega)|(rw[hb_];simp +contextual;done)),?_⟩);subst hb_))
   refine ja (fun h1=>?_) (fun h1 h2=>?_)
   ·rw[if_pos (h1.elim (fun q=>.inl (of_decide_eq_true q)) (fun q=>.inr (.inl (of_decide_eq_true q))))]
    rfl
   have h1:=of_decide_eq_false h1
   have h2:=of_decide_eq_false h2
   rw[eE]
   generalize hL:c.2.2.2.2.2.2.1=L at *
   have eR:∀ s,jx c (c.2.2.2.2.2.1,s)=(c.1,c.2.1,c.2.2.1,c.2.2.2.1,c.2.2.2.2.1,c.2.2.2.2.2.1,s,c.2.2.2.2.2.2.2):=fun s=>rfl
   refine⟨⟨0,[],false,⟨by omega,by omega,by simp,fun _=>by simp,fun q=>by cases q⟩,(by repeat' first|exact trivial|refine⟨trivial,?_⟩|refine⟨(by with_reducible rfl),?_⟩|refine⟨af (by omega) (by omega),?_⟩|refine⟨rfl,?_⟩)⟩,?_⟩
   rintro i out dn ⟨i0,i1,g0,g1,g2⟩
   have hm:out.length<=i.toNat+1:=by
    cases dn with
    | false=>rw[(g1 rfl).1,List.length_take];omega
    | true=>rw[(g2 rfl).1,x9,List.length_take];omega
   refine aG (fun hi=>?_) (fun hi=>?_)
   ·have hi:=of_decide_eq_true hi
    have hmem:=cy (xs:=L) i0 hi
    have hnx:=cG (l:=L) i0 hi
    generalize hx:L.getD i.toNat default=x at *
    refine⟨i0,hi,aG (fun hq=>?_) (fun hq=>?_)⟩
    ·have hq:=of_decide_eq_true hq
     rw[if_pos (.inr (.inr (List.any_eq_true.2 ⟨x,hmem,decide_eq_true hq⟩)))]
     rw[eG,eR,← hL]
    ·have hq:=of_decide_eq_false hq
     have g0':∀ y∈L.take (i+1).toNat,y.1≠I:=fun y hy=>by
      rw[hnx] at hy
      rcases List.mem_append.1 hy with hy|hy
      ·exact g0 y hy
      ·rw[List.mem_singleton.1 hy];exact hq
     intro b3 hb3
     refine⟨(by simp),fun h_=>⟨fun _=>h_,fun _=>h_,i0,hi,trivial⟩,(by simp),(by simp),(by simp),(by simp),?_⟩
     have hb4:(bif b3 then decide (I<x.1) else false)=decide (dn=false/\I<x.1):=by
      rw[hb3]
      cases dn <;> simp
     rw[hb4]
     refine aG (fun hz=>?_) (fun hz=>?_)
     ·obtain⟨q1,q2⟩:=of_decide_eq_true hz
      subst q1
      obtain⟨e1,e2⟩:=g1 rfl
      refine⟨by simp only[List.length_singleton];omega,i0,hi,by simp only[List.length_append,List.length_singleton];omega,i+1,_,true,⟨by omega,by omega,g0',(fun h=>by cases h),fun _=>?_⟩,by omega,(by repeat' first|exact trivial|refine⟨trivial,?_⟩|refine⟨(by with_reducible rfl),?_⟩|refine⟨af (by omega) (by omega),?_⟩|refine⟨rfl,?_⟩)⟩
      rw[hnx]
      refine⟨?_,x,List.mem_append_right _ (List.mem_singleton.2 rfl),q2⟩
      rw[Ay e2 q2,← e1]
     ·have hz:=of_decide_eq_false hz
      refine⟨i0,hi,by simp only[List.length_singleton];omega,i+1,_,dn,⟨by omega,by omega,g0',fun h=>?_,fun h=>?_⟩,by omega,(by repeat' first|exact trivial|refine⟨trivial,?_⟩|refine⟨(by with_reducible rfl),?_⟩|refine⟨af (by omega) (by omega),?_⟩|refine⟨rfl,?_⟩)⟩
      ·obtain⟨e1,e2⟩:=g1 h
       rw[hnx,e1]
       refine⟨rfl,fun y hy=>?_⟩
       rcases List.mem_append.1 hy with hy|hy
       ·exact e2 y hy
       ·rw[List.mem_singleton.1 hy]
        have:¬ I<x.1:=fun z=>hz ⟨h,z⟩
        omega
      ·obtain⟨e1,y,hy,z⟩:=g2 h
       rw[hnx,e1]
       exact⟨(vR ⟨y,hy,z⟩).symm,y,List.mem_append_left _ hy,z⟩
   ·have hi:=of_decide_eq_false hi
    rw[List.take_of_length_le (by omega)] at g0 g1 g2
    have hany:¬ (L.any fun x=>decide (x.1=I))=true:=fun q=>by
     obtain⟨y,hy,k⟩:=List.any_eq_true.1 q
     exact g0 y hy (of_decide_eq_true k)
    rw[if_neg (by rintro (q|q|q);exact h1 q;exact h2 q;exact hany q)]
    refine aG (fun hd=>?_) (fun hd=>?_)
    ·have hd:dn=false:=by simpa using hd
     obtain⟨e1,e2⟩:=g1 hd
     refine⟨by simp only[List.length_singleton];omega,?_⟩
     rw[e1,← zE e2];rfl
    ·have hd:dn=true:=by simpa using hd
     obtain⟨e1,-⟩:=g2 hd
     rw[e1];rfl
theorem xA:aL Try.prog GL 45 tK.spec:=Ct.okH _ Try.func45 (by kernel_rfl) (aJ aV tU) aH yB (aW (by kernel_rfl) wW)
def gc(c:aj)(n:Nat):aj:=(ab c+1,bl c,ak c,ag c,ay c,(bS (ay c+ak c) ((aD c).take n) (aK c,az c)).1,(bS (ay c+ak c) ((aD c).take n) (aK c,az c)).2,aD c,bd c)
def dw(c:aj)(up:List aX)(k:Int):aj:=(ab c+1,(am c up).1,ak c,ag c,k,(aE c).1,(aE c).2,aP (ab c+1) (aD c),(am c up).2)
def zP(c:aj)(up:List aX)(o:Int)(dn:List ae):aj:=(ab c+1,o,ak c,ag c,aw c up,(aE c).1,(aE c).2,dn,aP (ab c+1) (am c up).2)
def tp:Ct:=⟨[.agg bA,.val (.sl eI),.val (.sl eI)],[.agg bA,.val cI],fun d=>[XR d.1,(d.2.1.length:Int)<=1000000,(d.2.2.1.length:Int)<=1000000],fun d=>((hV d.1 d.2.1 d.2.2.1,eJ d.1 d.2.1 d.2.2.1,()),())⟩
def yh:aI tp.ps->aO:=(fun d=>{loops:=(fun n=>match n with|2=>some (fun S=>{ι:=Int,μ:=fun i=>(d.2.1.length+d.2.2.1.length-i).toNat,inv:=fun i=>0<=i/\i<=d.2.1.length+d.2.2.1.length∧∀ x∈(d.2.1++d.2.2.1).take i.toNat,cT x=true,keep:=[1,2,3,6,7],slots:=fun i=>[(8,.int .i64 i)],keepN:=[64,112],names:=fun i=>[]})|10=>some (fun S=>{ι:=Int×aj,qn:=⟨fun k_=>∀(j:Int)(b:aj),k_ (j,b),fun k_ h_ i=>h_ i.1 i.2,fun k_=>∃ (j:Int) (b:aj),k_ (j,b),fun k_ ⟨j,b,h_⟩=>⟨_,h_⟩⟩,μ:=fun i=>((aD d.1).length-i.1).toNat,inv:=fun i=>0<=i.1/\i.1<=(aD d.1).length/\(∀ t∈(aD d.1).take i.1.toNat,t.1<=ab d.1+1)/\i.2=gc d.1 i.1.toNat,keep:=[1,2,3,6,7],slots:=fun i=>[(9,.int .i64 i.1)],keepN:=[112],names:=fun i=>[(64,.live (.cells 28 (bt bA i.2)))]})|18=>some (fun S=>{ι:=Int×aj×(List Int),qn:=⟨fun k_=>∀(h:Int)(b:aj)(nt:(List Int)),k_ (h,b,nt),fun k_ h_ i=>h_ i.1 i.2.1 i.2.2,fun k_=>∃ (h:Int) (b:aj) (nt:(List Int)),k_ (h,b,nt),fun k_ ⟨h,b,nt,h_⟩=>⟨_,h_⟩⟩,μ:=fun i=>(((am d.1 d.2.2.1).2).length-i.1).toNat,inv:=fun i=>0<=i.1/\i.1<=((am d.1 d.2.2.1).2).length/\(∀ t∈((am d.1 d.2.2.1).2).take i.1.toNat,t.1<=ab d.1+1)/\i.2.1=dw d.1 d.2.2.1 (bz (ay d.1) (((am d.1 d.2.2.1).2).take i.1.toNat))/\i.2.2=bF (((am d.1 d.2.2.1).2).take i.1.toNat),keep:=[1,2,3,6,7],slots:=fun i=>[(11,.int .i64 i.1),(10,.own 524288 1)],keepN:=[112],names:=fun i=>[(64,.live (.cells 28 (bt bA i.2.1))),(524288,.live (.row 3 cI i.2.2))]})|22=>some (fun S=>{ι:=Int×(List Int),qn:=⟨fun k_=>∀(a:Int)(nt:(List Int)),k_ (a,nt),fun k_ h_ i=>h_ i.1 i.2,fun k_=>∃ (a:Int) (nt:(List Int)),k_ (a,nt),fun k_ ⟨a,nt,h_⟩=>⟨_,h_⟩⟩,μ:=fun i=>((S.l aZ 12).length-i.1).toNat,inv:=fun i=>3<=i.1/\i.1<=(S.l aZ 12).length/\(i.1-3)%2=0/\i.2=S.o cI 10++ct (((S.l aZ 12).drop 3).take (i.1-3).toNat),keep:=[1,2,3,6,7,11,12],slots:=fun i=>[(13,.int .i64 i.1),(10,.own 524289 1)],keepN:=[64,112],names:=fun i=>[(524289,.live (.row 3 cI i.2))]})|29=>some (fun S=>{ι:=Int×Int×Int×(List ae),qn:=⟨fun k_=>∀(x:Int)(i:Int)(o:Int)(dn:(List ae)),k_ (x,i,o,dn),fun k_ h_ i=>h_ i.1 i.2.1 i.2.2.1 i.2.2.2,fun k_=>∃ (x:Int) (i:Int) (o:Int) (dn:(List ae)),k_ (x,i,o,dn),fun k_ ⟨x,i,o,dn,h_⟩=>⟨_,h_⟩⟩,μ:=fun i=>(aw d.1 d.2.2.1+ak d.1-i.1).toNat,inv:=fun i=>aw d.1 d.2.2.1<=i.1/\0<=i.2.1/\i.2.1<=i.1-aw d.1 d.2.2.1/\cu (ab d.1+1) i.2.2.1 i.2.2.2/\i.2.2.1<=(am d.1 d.2.2.1).1+9*i.2.1/\i.1<=aw d.1 d.2.2.1+ak d.1/\bR (ab d.1+1) (ag d.1) d.2.1 (fg d.1 d.2.2.1 i.1) i.2.1.toNat (i.2.2.1,i.2.2.2)=cM d.1 d.2.1 d.2.2.1,keep:=[1,2,3,6,7,10],slots:=fun i=>[(15,.int .i64 i.1),(14,.int .i64 i.2.1)],keepN:=[524288,112],names:=fun i=>[(64,.live (.cells 28 (bt bA (zP d.1 d.2.2.1 i.2.2.1 i.2.2.2))))]})|33=>some (fun S=>{ι:=Int×Bool,qn:=⟨fun k_=>∀(k:Int)(b:Bool),k_ (k,b),fun k_ h_ i=>h_ i.1 i.2,fun k_=>∃ (k:Int) (b:Bool),k_ (k,b),fun k_ ⟨k,b,h_⟩=>⟨_,h_⟩⟩,μ:=fun i=>((S.o cI 10).length-i.1).toNat,inv:=fun i=>0<=i.1/\i.1<=(S.o cI 10).length/\i.2=decide (S.i 15∈(S.o cI 10).take i.1.toNat),keep:=[1,2,3,6,7,10,14,15],slots:=fun i=>[(17,.int .i64 i.1),(16,.bool i.2)],keepN:=[64,524288,112],names:=fun i=>[]})|_=>none),cuts:=(fun n=>match n with|16=>some (fun S=>{ι:=aj,inv:=fun i=>i=dw d.1 d.2.2.1 (ay d.1),keep:=[1,2,3,6,7],slots:=fun i=>[],keepN:=[112],names:=fun i=>[(64,.live (.cells 28 (bt bA i)))]})|_=>none)})
def ge(f:aj) :=
 (f.2.2.2.2.2.2.2.1.length:Int)
def ku(e:Int)(f:aj) :=
 (f.1,f.2.1,f.2.2.1,f.2.2.2.1,f.2.2.2.2.1,f.2.2.2.2.2.1,f.2.2.2.2.2.2.1,bf f.2.2.2.2.2.2.2.1 e.toNat (Int.toNat (ge f)),f.2.2.2.2.2.2.2.2)
def fe(i:Int)(j:aj) :=
 List.getD j.2.2.2.2.2.2.2.2 i.toNat default
def jQ(e:Int)(f:aj) :=
 List.getD f.2.2.2.2.2.2.2.1 e.toNat default
def pC :=
 ((0:Int),(0:Int),(0:Int),([]:List (List Int)),(0:Int),([]:List (List Int)),([]:List (Int×List Int)),([]:List (Int×Int×List Int)),([]:List (Int×Int×List Int)))
def gP(i:Int)(j:aj) :=
 ((List.length (fe i j).2.2):Int)
def lM :=
 (0:Int)=0/\(0:Int)=0/\(0:Int)=0/\(0:Int)=0/\True
def pR(a:Int×Int×Int×List (List Int)×Int×List (List Int)×List (Int×List Int)×List (Int×Int×List Int)×List (Int×Int×List Int)) :=
 a.1=a.1/\a.2.1=a.2.1/\a.2.2.1=a.2.2.1/\a.2.2.2.1=a.2.2.2.1/\a.2.2.2.2.1=a.2.2.2.2.1/\a.2.2.2.2.2.1=a.2.2.2.2.2.1/\a.2.2.2.2.2.2.1=a.2.2.2.2.2.2.1/\a.2.2.2.2.2.2.2.1=a.2.2.2.2.2.2.2.1/\a.2.2.2.2.2.2.2.2=a.2.2.2.2.2.2.2.2/\(lM)
def iB(j:aj) :=
 (j.2.2.2.2.2.2.2.2.length:Int)
def oT(c:List (Bool×Int×Int))(e:Int)(f:aj) :=
 a7 f.1 (bp ((List.length (aK (ku e f))):Int) (List.map (fun (i:au)=>i.1) (az (ku e f)))) (bg c (Int.toNat (0:Int))) (f.2.1,f.2.2.2.2.2.2.2.2)
def jI(i:Int)(j:aj) :=
 bI (fe i j).2.2 (1:Int) (2:Int)
def oL(e:Int)(f:aj) :=
 bV (ay f+ak f) (aK f,az f) (aQ (jQ e f).2.2 (1:Int)) (List.drop (3:Nat) (jQ e f).2.2)
def kB(f g:Bool) :=
 (! f&&g)->((! f&&g)->(! f&&g))/\True
theorem w8 :
 ∀(a:Int×Int×Int×List (List Int)×Int×List (List Int)×List (Int×List Int)×List (Int×Int×List Int)×List (Int×Int×List Int))(b c:List (Bool×Int×Int)),CT.wf bA a/\(b.length<=maxLen/\ ∀(d:Bool×Int×Int),d∈b->True/\ao d.2.1/\ao d.2.2)/\(c.length<=maxLen/\ ∀(d:Bool×Int×Int),d∈c->True/\ao d.2.1/\ao d.2.2)/\True->XR a/\(b.length:Int)<=1000000/\(c.length:Int)<=1000000->(∃(d:Int),(0<=d/\d<=(b.length:Int)+(c.length:Int)/\ ∀(e:Bool×Int×Int),e∈List.take d.toNat (b++c)->cT e=true)/\b=b/\c=c/\(0:Int)=0/\(0:Int)=d/\(pR a))/\ ∀(d:Int),(0<=d/\d<=(b.length:Int)+(c.length:Int)/\ ∀(e:Bool×Int×Int),e∈List.take d.toNat (b++c)->cT e=true)->av (decide (d<IntKind.wrap .i64 ((b.length:Int)+(c.length:Int)))) (∀(e:Bool),e=decide (d<(b.length:Int))->(e->(e->e)/\(e->e)/\0<=d/\d<(b.length:Int)/\True)/\(e->(e->e)/\True)/\(e->(e->e)/\True)/\(e->(e->e)/\True)/\(e->e)/\ ∀(f:Bool),(f=bif e then ! cT (b.getD
 d.toNat default) else false)->((! f)->((! f)->(! f))/\True)/\((! f)->((! f)->(! f))/\((! f)->(! f))/\True)/\((! f)->((! f)->(! f))/\True)/\ ∀(g:Bool),g=decide ((b.length:Int)<=d)->(kB f g)/\((! f&&g)->((! f&&g)->(! f&&g))/\((! f&&g)->(! f&&g))/\True)/\((! f&&g)->((! f&&g)->(! f&&g))/\((! f&&g)->(! f&&g))/\0<=IntKind.wrap .i64 (d -(b.length:Int))/\IntKind.wrap .i64 (d -(b.length:Int))<(c.length:Int)/\True)/\(kB f g)/\(kB f g)/\(kB f g)/\((! f)->((! f)->(! f))/\(g->(! f&&g))/\True)/\(f=false->(! f))/\av (bif f then true else bif g then ! cT (c.getD (Int.toNat (IntKind.wrap .i64 (d -(b.length:Int)))) default) else false) ((pC)=hV a b c/\(1:Int)=eJ a b c) (∃(h:Int),(0<=h/\h<=(b.length:Int)+(c.length:Int)/\ ∀(i:Bool×Int×Int),i∈List.take h.toNat (b++c)->cT i=true)/\Int.toNat ((b.length:Int)+(c.length:Int) -h)<Int.toNat ((b.length:Int)+(c.length:Int)
 -d)/\b=b/\c=c/\(0:Int)=0/\IntKind.wrap .i64 (d+(1:Int))=h/\(pR a))) (av (decide (1099511627776<=a.1)) ((pC)=hV a b c/\(5:Int)=eJ a b c) ((∃(e:Int) (f:aj),(0<=e/\e<=((List.length (aD a)):Int)/\(∀(g:ae),g∈List.take e.toNat (aD a)->g.1<=ab a+(1:Int))/\f=gc a e.toNat)/\b=b/\c=c/\(0:Int)=0/\(0:Int)=e/\(0:Int)=0/\(0:Int)=0/\(0:Int)=0/\(0:Int)=0/\IntKind.wrap .i64 (a.1+(1:Int))=f.1/\a.2.1=f.2.1/\a.2.2.1=f.2.2.1/\a.2.2.2.1=f.2.2.2.1/\a.2.2.2.2.1=f.2.2.2.2.1/\a.2.2.2.2.2.1=f.2.2.2.2.2.1/\a.2.2.2.2.2.2.1=f.2.2.2.2.2.2.1/\a.2.2.2.2.2.2.2.1=f.2.2.2.2.2.2.2.1/\a.2.2.2.2.2.2.2.2=f.2.2.2.2.2.2.2.2/\True)/\ ∀(e:Int)(f:aj),0<=e/\e<=((List.length (aD a)):Int)/\(∀(g:ae),g∈List.take e.toNat (aD a)->g.1<=ab a+(1:Int))/\f=gc a e.toNat-> ∀(g:Bool),g=decide (e<(ge f))->(g->(g->g)/\True)/\(g->(g->g)/\(g->g)/\0<=e/\e<(ge
 f)/\True)/\(g->(g->g)/\True)/\(g->(g->g)/\True)/\(g->(g->g)/\True)/\(g->(g->g)/\(g->g)/\True)/\(g->g)/\av (bif g then decide ((jQ e f).1=f.1) else false) (0<=e/\e<(ge f)/\(3:Nat)<=List.length (jQ e f).2.2/\((List.length (jQ e f).2.2):Int)<=1000000/\0<=ay f/\ay f<=100000/\0<=ak f/\ak f<=100000/\List.length (aK f)<=(100000:Nat)/\List.length (az f)<=(100000:Nat)/\ ∃(h:Int) (i:aj),(0<=h/\h<=((List.length (aD a)):Int)/\(∀(j:ae),j∈List.take h.toNat (aD a)->j.1<=ab a+(1:Int))/\i=gc a h.toNat)/\Int.toNat (((List.length (aD a)):Int) -h)<Int.toNat (((List.length (aD a)):Int) -e)/\b=b/\c=c/\(0:Int)=0/\IntKind.wrap .i64 (e+(1:Int))=h/\(0:Int)=0/\(0:Int)=0/\(0:Int)=0/\(0:Int)=0/\f.1=i.1/\f.2.1=i.2.1/\f.2.2.1=i.2.2.1/\f.2.2.2.1=i.2.2.2.1/\f.2.2.2.2.1=i.2.2.2.2.1/\(oL e f).1=i.2.2.2.2.2.1/\(oL e
 f).2=i.2.2.2.2.2.2.1/\f.2.2.2.2.2.2.2.1=i.2.2.2.2.2.2.2.1/\f.2.2.2.2.2.2.2.2=i.2.2.2.2.2.2.2.2/\True) (0<=e/\e<=(ge f)/\(ge f)<=(ge f)/\av (decide (0<e)) (List.length (aK (ku e f))<=(65535:Nat)/\List.length (az (ku e f))<=(100000:Nat)/\(∀(h:au),h∈az (ku e f)->0<=h.1/\h.1<=65535)/\(0:Int)<=0/\(f.2.2.2.2.2.2.2.2.length:Int)<=1000000/\0<=f.1/\f.1<=1125899906842624/\0<=f.2.1/\f.2.1<=1125899906842624/\fB (bg c (Int.toNat (0:Int)))/\ ∃(h:aj),h=dw a c (ay a)/\b=b/\c=c/\(0:Int)=0/\(0:Int)=0/\(0:Int)=0/\(0:Int)=0/\(0:Int)=0/\f.1=h.1/\(oT c e f).1=h.2.1/\f.2.2.1=h.2.2.1/\f.2.2.2.1=h.2.2.2.1/\f.2.2.2.2.1=h.2.2.2.2.1/\f.2.2.2.2.2.1=h.2.2.2.2.2.1/\f.2.2.2.2.2.2.1=h.2.2.2.2.2.2.1/\bf f.2.2.2.2.2.2.2.1 e.toNat (Int.toNat (ge f))=h.2.2.2.2.2.2.2.1/\(oT c e f).2=h.2.2.2.2.2.2.2.2/\True) (∃(h:aj),h=dw a c (ay
 a)/\b=b/\c=c/\(0:Int)=0/\(0:Int)=0/\(0:Int)=0/\(0:Int)=0/\(0:Int)=0/\f.1=h.1/\f.2.1=h.2.1/\f.2.2.1=h.2.2.1/\f.2.2.2.1=h.2.2.2.1/\f.2.2.2.2.1=h.2.2.2.2.1/\f.2.2.2.2.2.1=h.2.2.2.2.2.1/\f.2.2.2.2.2.2.1=h.2.2.2.2.2.2.1/\bf f.2.2.2.2.2.2.2.1 e.toNat (Int.toNat (ge f))=h.2.2.2.2.2.2.2.1/\f.2.2.2.2.2.2.2.2=h.2.2.2.2.2.2.2.2/\True)/\ ∀(h:aj),h=dw a c (ay a)->(∃(i:Int) (j:aj),∃(k:List Int),(0<=i/\i<=((List.length (am a c).2):Int)/\(∀(l:ae),l∈List.take i.toNat (am a c).2->l.1<=ab a+(1:Int))/\j=dw a c (bz (ay a) (List.take i.toNat (am a c).2))/\k=bF (List.take i.toNat (am a
 c).2))/\b=b/\c=c/\(0:Int)=0/\(0:Int)=i/\(0:Int)=0/\(0:Int)=0/\(0:Int)=0/\(0:Int)=0/\h.1=j.1/\h.2.1=j.2.1/\h.2.2.1=j.2.2.1/\h.2.2.2.1=j.2.2.2.1/\h.2.2.2.2.1=j.2.2.2.2.1/\h.2.2.2.2.2.1=j.2.2.2.2.2.1/\h.2.2.2.2.2.2.1=j.2.2.2.2.2.2.1/\h.2.2.2.2.2.2.2.1=j.2.2.2.2.2.2.2.1/\h.2.2.2.2.2.2.2.2=j.2.2.2.2.2.2.2.2/\k=([]:List Int)/\True)/\ ∀(i:Int)(j:aj)(k:List Int),0<=i/\i<=((List.length (am a c).2):Int)/\(∀(l:ae),l∈List.take i.toNat (am a c).2->l.1<=ab a+(1:Int))/\j=dw a c (bz (ay a) (List.take i.toNat (am a c).2))/\k=bF (List.take i.toNat (am a c).2)-> ∀(l:Bool),l=decide (i<(iB j))->(l->(l->l)/\True)/\(l->(l->l)/\(l->l)/\0<=i/\i<(iB j)/\True)/\(l->(l->l)/\True)/\(l->(l->l)/\True)/\(l->(l->l)/\True)/\(l->(l->l)/\(l->l)/\True)/\(l->l)/\av (bif l then decide ((fe i j).1=j.1) else false) (0<=i/\i<(iB j)/\(gP i j)<=9223372036854775807/\(∃(m:Int) (n:List
 Int),(3<=m/\m<=(gP i j)/\(m -(3:Int))%(2:Int)=0/\n=k++ct (List.take (Int.toNat (m -(3:Int))) (List.drop (3:Nat) (fe i j).2.2)))/\b=b/\c=c/\(0:Int)=0/\i=i/\(fe i j).2.2=(fe i j).2.2/\(3:Int)=m/\j.1=j.1/\j.2.1=j.2.1/\j.2.2.1=j.2.2.1/\j.2.2.2.1=j.2.2.2.1/\max j.2.2.2.2.1 (jI i j)=max j.2.2.2.2.1 (jI i j)/\j.2.2.2.2.2.1=j.2.2.2.2.2.1/\j.2.2.2.2.2.2.1=j.2.2.2.2.2.2.1/\j.2.2.2.2.2.2.2.1=j.2.2.2.2.2.2.2.1/\j.2.2.2.2.2.2.2.2=j.2.2.2.2.2.2.2.2/\(0:Int)=0/\(0:Int)=0/\(0:Int)=0/\(0:Int)=0/\k=n/\True)/\ ∀(m:Int)(n:List Int),3<=m/\m<=(gP i j)/\(m -(3:Int))%(2:Int)=0/\n=k++ct (List.take (Int.toNat (m -(3:Int))) (List.drop (3:Nat) (fe i j).2.2))->av (decide (IntKind.wrap .i64 (m+(1:Int))<(gP i j))) ((gP i j)<=9223372036854775807/\(n.length+List.length [bI (fe i j).2.2 m (2:Int)])*(8:Nat)<=(fS)/\ ∃(o:Int) (p:List Int),(3<=o/\o<=(gP i j)/\(o
 -(3:Int))%(2:Int)=0/\p=k++ct (List.take (Int.toNat (o -(3:Int))) (List.drop (3:Nat) (fe i j).2.2)))/\Int.toNat ((gP i j) -o)<Int.toNat ((gP i j) -m)/\b=b/\c=c/\(0:Int)=0/\i=i/\(fe i j).2.2=(fe i j).2.2/\IntKind.wrap .i64 (m+(2:Int))=o/\j.1=j.1/\j.2.1=j.2.1/\j.2.2.1=j.2.2.1/\j.2.2.2.1=j.2.2.2.1/\max j.2.2.2.2.1 (jI i j)=max j.2.2.2.2.1 (jI i j)/\j.2.2.2.2.2.1=j.2.2.2.2.2.1/\j.2.2.2.2.2.2.1=j.2.2.2.2.2.2.1/\j.2.2.2.2.2.2.2.1=j.2.2.2.2.2.2.2.1/\j.2.2.2.2.2.2.2.2=j.2.2.2.2.2.2.2.2/\(0:Int)=0/\(0:Int)=0/\(0:Int)=0/\(0:Int)=0/\n++[bI (fe i j).2.2 m (2:Int)]=p/\True) (∃(o:Int) (p:aj),∃(q:List Int),(0<=o/\o<=((List.length (am a c).2):Int)/\(∀(r:ae),r∈List.take o.toNat (am a c).2->r.1<=ab a+(1:Int))/\p=dw a c (bz (ay a) (List.take o.toNat (am a c).2))/\q=bF (List.take o.toNat (am a c).2))/\Int.toNat (((List.length (am a c).2):Int) -o)<Int.toNat
 (((List.length (am a c).2):Int) -i)/\b=b/\c=c/\(0:Int)=0/\IntKind.wrap .i64 (i+(1:Int))=o/\(0:Int)=0/\(0:Int)=0/\(0:Int)=0/\(0:Int)=0/\j.1=p.1/\j.2.1=p.2.1/\j.2.2.1=p.2.2.1/\j.2.2.2.1=p.2.2.2.1/\max j.2.2.2.2.1 (jI i j)=p.2.2.2.2.1/\j.2.2.2.2.2.1=p.2.2.2.2.2.1/\j.2.2.2.2.2.2.1=p.2.2.2.2.2.2.1/\j.2.2.2.2.2.2.2.1=p.2.2.2.2.2.2.2.1/\j.2.2.2.2.2.2.2.2=p.2.2.2.2.2.2.2.2/\n=q/\True)) (0<=i/\i<=(iB j)/\(iB j)<=(iB j)/\(∃(m:Int) (n:Int),∃(o:Int) (p:List ae),(aw a c<=m/\0<=n/\n<=m -aw a c/\cu (ab a+(1:Int)) o p/\o<=(am a c).1+(9:Int)*n/\m<=aw a c+ak a/\bR (ab a+(1:Int)) (ag a) b (fg a c m) n.toNat (o,p)=cM a b c)/\b=b/\c=c/\(0:Int)=0/\(0:Int)=n/\j.2.2.2.2.1=m/\k=k/\(0:Int)=0/\(0:Int)=0/\(0:Int)=0/\(0:Int)=0/\j.1=ab a+(1:Int)/\j.2.1=o/\j.2.2.1=ak a/\j.2.2.2.1=ag a/\j.2.2.2.2.1=aw a c/\j.2.2.2.2.2.1=(aE a).1/\j.2.2.2.2.2.2.1=(aE
 a).2/\j.2.2.2.2.2.2.2.1=p/\bf j.2.2.2.2.2.2.2.2 i.toNat (Int.toNat (iB j))=aP (ab a+(1:Int)) (am a c).2/\True)/\ ∀(m n o:Int)(p:List ae),aw a c<=m/\0<=n/\n<=m -aw a c/\cu (ab a+(1:Int)) o p/\o<=(am a c).1+(9:Int)*n/\m<=aw a c+ak a/\bR (ab a+(1:Int)) (ag a) b (fg a c m) n.toNat (o,p)=cM a b c-> ∀(q:Bool),q=decide (m<((List.length (ag a)):Int))->(q->(q->q)/\True)/\(q->(q->q)/\True)/\(q->(q->q)/\(q->q)/\True)/\(q->(q->q)/\(q->q)/\True)/\(q->q)/\av (bif q then decide (m<IntKind.wrap .i64 (aw a c+ak a)) else false) ((∃(r:Int) (s:Bool),(0<=r/\r<=(k.length:Int)/\s=decide (m∈List.take r.toNat k))/\b=b/\c=c/\(0:Int)=0/\n=n/\m=m/\false=s/\(0:Int)=r/\ab a+(1:Int)=ab a+(1:Int)/\o=o/\ak a=ak a/\ag a=ag a/\aw a c=aw a c/\(aE a).1=(aE a).1/\(aE a).2=(aE a).2/\p=p/\aP (ab a+(1:Int)) (am a c).2=aP (ab a+(1:Int)) (am a
 c).2/\k=k/\(lM))/\ ∀(r:Int)(s:Bool),0<=r/\r<=(k.length:Int)/\s=decide (m∈List.take r.toNat k)->av (decide (r<(k.length:Int))) (∀(t:Bool),t=s->((! t)->((! t)->(! t))/\((! t)->(! t))/\0<=r/\r<(k.length:Int)/\True)/\((! t)->((! t)->(! t))/\True)/\((! t)->((! t)->(! t))/\((! t)->(! t))/\True)/\(t=false->(! t))/\ ∃(u:Int) (v:Bool),(0<=u/\u<=(k.length:Int)/\v=decide (m∈List.take u.toNat k))/\Int.toNat ((k.length:Int) -u)<Int.toNat ((k.length:Int) -r)/\b=b/\c=c/\(0:Int)=0/\n=n/\m=m/\(bif t then true else decide (k.getD r.toNat default=m))=v/\IntKind.wrap .i64 (r+(1:Int))=u/\ab a+(1:Int)=ab a+(1:Int)/\o=o/\ak a=ak a/\ag a=ag a/\aw a c=aw a c/\(aE a).1=(aE a).1/\(aE a).2=(aE a).2/\p=p/\aP (ab a+(1:Int)) (am a c).2=aP (ab a+(1:Int)) (am a c).2/\k=k/\(lM)) (av (! s) (0<=m/\m<=65535/\m<((List.length (ag a)):Int)/\List.length (List.getD (ag a) m.toNat
 default)<=(1048576:Nat)/\0<=n/\(p.length:Int)<=1000000/\0<=ab a+(1:Int)/\ab a+(1:Int)<=1125899906842624/\0<=o/\o<=1125899906842624/\fB (bg b n.toNat)/\ ∃(t:Int) (u:Int),∃(v:Int) (w:List ae),(aw a c<=t/\0<=u/\u<=t -aw a c/\cu (ab a+(1:Int)) v w/\v<=(am a c).1+(9:Int)*u/\t<=aw a c+ak a/\bR (ab a+(1:Int)) (ag a) b (fg a c t) u.toNat (v,w)=cM a b c)/\Int.toNat (aw a c+ak a -t)<Int.toNat (aw a c+ak a -m)/\b=b/\c=c/\(0:Int)=0/\IntKind.wrap .i64 (n+(1:Int))=u/\IntKind.wrap .i64 (m+(1:Int))=t/\k=k/\(0:Int)=0/\(0:Int)=0/\(0:Int)=0/\(0:Int)=0/\ab a+(1:Int)=ab a+(1:Int)/\(a7 (ab a+(1:Int)) (bO m (List.getD (ag a) m.toNat default)) (bg b n.toNat) (o,p)).1=v/\ak a=ak a/\ag a=ag a/\aw a c=aw a c/\(aE a).1=(aE a).1/\(aE a).2=(aE a).2/\(a7 (ab a+(1:Int)) (bO m (List.getD (ag a) m.toNat default)) (bg b n.toNat)
 (o,p)).2=w/\aP (ab a+(1:Int)) (am a c).2=aP (ab a+(1:Int)) (am a c).2/\True) (∃(t:Int) (u:Int),∃(v:Int) (w:List ae),(aw a c<=t/\0<=u/\u<=t -aw a c/\cu (ab a+(1:Int)) v w/\v<=(am a c).1+(9:Int)*u/\t<=aw a c+ak a/\bR (ab a+(1:Int)) (ag a) b (fg a c t) u.toNat (v,w)=cM a b c)/\Int.toNat (aw a c+ak a -t)<Int.toNat (aw a c+ak a -m)/\b=b/\c=c/\(0:Int)=0/\n=u/\IntKind.wrap .i64 (m+(1:Int))=t/\k=k/\(0:Int)=0/\(0:Int)=0/\(0:Int)=0/\(0:Int)=0/\ab a+(1:Int)=ab a+(1:Int)/\o=v/\ak a=ak a/\ag a=ag a/\aw a c=aw a c/\(aE a).1=(aE a).1/\(aE a).2=(aE a).2/\p=w/\aP (ab a+(1:Int)) (am a c).2=aP (ab a+(1:Int)) (am a c).2/\True))) ((ab a+(1:Int),o,ak a,ag a,aw a c,(aE a).1,(aE a).2,p,aP (ab a+(1:Int)) (am a c).2)=hV a b c/\(0:Int)=eJ a b c))))):=by
  delta ku fe jQ ge pC gP pR iB oT fS jI lM oL kB
  rintro c ds us-⟨⟨hx,ho⟩,hd1,hu1⟩
  rw[af (n:=(ds.length:Int)+us.length) (by omega) (by omega)]
  refine⟨⟨0,⟨by omega,by omega,by simp⟩,(by repeat' first|exact trivial|refine⟨trivial,?_⟩|refine⟨(by with_reducible rfl),?_⟩|refine⟨af (by omega) (by omega),?_⟩|refine⟨rfl,?_⟩)⟩,?_⟩
  rintro j ⟨j0,j1,hok⟩
  have happ:((ds++us).length:Int)=ds.length+us.length:=by rw[List.length_append];omega
  refine aG (fun hj=>?_) (fun hj=>?_)
  ·have hj:=of_decide_eq_true hj
   rw[af (n:=j-(ds.length:Int)) (by omega) (by omega)]
   have hmem:=cy (xs:=ds++us) j0 (by omega)
   have hnx:=cG (l:=ds++us) j0 (by omega)
   have hel:(ds++us).getD j.toNat default=if j<ds.length then ds.getD j.toNat default else us.getD (j-(ds.length:Int)).toNat default:=by
    rw[List.getD_eq_getElem?_getD]
    split
    ·rw[List.getElem?_append_left (by omega),List.getD_eq_getElem?_getD]
    ·rw[List.getElem?_append_right (by omega),List.getD_eq_getElem?_getD,show j.toNat-ds.length=(j-(ds.length:Int)).toNat by omega]
   (repeat (intro (b_:Bool) (hb_:b_=_);(repeat refine⟨(by first|(simp;done)|(rw[hb_];simp;done)|(rw[hb_];simp;omega)|(rw[hb_];simp;intros;omega)|(rw[hb_];simp +contextual;done)),?_⟩);subst hb_))
   refine⟨fun h_=>(by rw[h_];rfl),?_⟩
   have hc:(bif bif decide (j<(ds.length:Int)) then !cT (ds.getD j.toNat default) else false then true else bif decide ((ds.length:Int)<=j) then !cT (us.getD (j-(ds.length:Int)).toNat default) else false) = !cT ((ds++us).getD j.toNat default):=by
    rw[hel]
    by_cases h:j<(ds.length:Int)
    ·rw[if_pos h,decide_eq_true h,decide_eq_false (show ¬ (ds.length:Int)<=j by omega)]
     cases cT (ds.getD j.toNat default) <;> rfl
    ·rw[if_neg h,decide_eq_false h,decide_eq_true (show (ds.length:Int)<=j by omega)]
     rfl
   rw[hc]
   refine aG (fun hq=>?_) (fun hq=>?_)
   ·have hq:cT ((ds++us).getD j.toNat default)=false:=by simpa using hq
    have e:eJ c ds us=1:=by
     unfold eJ
     refine if_pos (Bool.eq_false_iff.2 fun k=>?_)
     obtain⟨k1,k2⟩:=Bool.and_eq_true_iff.1 k
     have:cT ((ds++us).getD j.toNat default)=true:=by
      rcases List.mem_append.1 hmem with q|q
      ·exact List.all_eq_true.1 k1 _ q
      ·exact List.all_eq_true.1 k2 _ q
     rw[hq] at this;cases this
    unfold hV
    rw[e]
    exact⟨rfl,rfl⟩
   ·have hq:cT ((ds++us).getD j.toNat default)=true:=by simpa using hq
    refine⟨j+1,⟨by omega,by omega,fun x hx=>?_⟩,by omega,(by repeat' first|exact trivial|refine⟨trivial,?_⟩|refine⟨(by with_reducible rfl),?_⟩|refine⟨af (by omega) (by omega),?_⟩|refine⟨rfl,?_⟩)⟩
    rw[hnx] at hx
    rcases List.mem_append.1 hx with hx|hx
    ·exact hok x hx
    ·rw[List.mem_singleton.1 hx];exact hq
  have hj:=of_decide_eq_false hj
  rw[List.take_of_length_le (by omega)] at hok
  have hB1:fW ds=true:=List.all_eq_true.2 fun x hx=>hok x (List.mem_append_left _ hx)
  have hB2:fW us=true:=List.all_eq_true.2 fun x hx=>hok x (List.mem_append_right _ hx)
  have hd:=mi.1 hB1
  have hu:=mi.1 hB2
  refine aG (fun h3=>?_) (fun h3=>?_)
  ·have h3:1099511627776<=ab c:=of_decide_eq_true h3
   have e:eJ c ds us=5:=by
    unfold eJ
    rw[hB1,hB2,if_neg (by decide),if_pos h3]
   unfold hV
   rw[e]
   exact⟨rfl,rfl⟩
  have hnow:¬ 1099511627776<=ab c:=of_decide_eq_false h3
  have hE:eJ c ds us=0:=by
   unfold eJ
   rw[hB1,hB2,if_neg (by decide),if_neg hnow]
  have hC:hV c ds us=a9 c ds us:=if_pos hE
  rw[hE,hC]
  clear hE hC hok j0 j1 happ hB1 hB2 h3
  have n0:=hx.now
  have o0:=hx.ord
  have hwin:=hx.win
  have hlog:=hx.log
  have hkn:=hx.kn
  have hgl:(aK c).length<=(ag c).length:=hx.rc.n
  obtain⟨⟨pu1,pu2,pu3,pu4⟩,pk1,pk2⟩:=hx.parts hu
  obtain⟨q1,q2,q3,q4⟩:=lv (ab c+1) (aD c)
  have q5:=re (ab c+1) (aD c)
  have ew:IntKind.i64.wrap (c.1+1)=ab c+1:=af (by show _<=ab c+1;omega) (by show ab c+1<=_;omega)
  rw[ew]
  have hdl:=hx.dn.n
  have hrec:∀ n:Nat,gZ (ag c) (ay c+ak c) (bS (ay c+ak c) ((aD c).take n) (aK c,az c)):=fun n =>
   (jg hlog (l:=(aD c).take n) hx.rc fun t ht=>hx.dd t (List.mem_of_mem_take ht)).1
  have hrt:∀ n:Nat,_:=fun n=>pk (g:=(bS (ay c+ak c) ((aD c).take n) (aK c,az c)).1) (e:=(bS (ay c+ak c) ((aD c).take n) (aK c,az c)).2) (hrec n) hlog ⟨hkn.1,by omega⟩ hwin
  refine⟨⟨0,gc c 0,⟨by omega,by omega,by simp,rfl⟩,(by repeat' first|exact trivial|refine⟨trivial,?_⟩|refine⟨(by with_reducible rfl),?_⟩|refine⟨af (by omega) (by omega),?_⟩|refine⟨rfl,?_⟩)⟩,?_⟩
  rintro j b ⟨j0,j1,hj1,rfl⟩
  have e8:(gc c j.toNat).2.2.2.2.2.2.2.1=aD c:=rfl
  have e1:(gc c j.toNat).1=ab c+1:=rfl
  rw[e8,e1]
  (repeat (intro (b_:Bool) (hb_:b_=_);(repeat refine⟨(by first|(simp;done)|(rw[hb_];simp;done)|(rw[hb_];simp;omega)|(rw[hb_];simp;intros;omega)|(rw[hb_];simp +contextual;done)),?_⟩);subst hb_))
  obtain⟨t1,t2,t3,t4⟩:=hrt j.toNat
  refine gH (fun h1 h2=>?_) (fun h1=>?_)
  ·have h1:=of_decide_eq_true h1
   have h2:=of_decide_eq_true h2
   have hmem:=cy (xs:=aD c) j0 h1
   obtain⟨d1,d2⟩:=oD (hx.dd _ hmem) hx.it
   have hnx:=cG (l:=aD c) j0 h1
   generalize (aD c).getD j.toNat default=T at *
   refine⟨j0,h1,d1,by omega,hkn.1,by show ay c<=_;omega,by show 0<=ak c;omega,by show ak c<=_;omega,by show (bS (ay c+ak c) ((aD c).take j.toNat) (aK c,az c)).1.length<=_;omega,by show (bS (ay c+ak c) ((aD c).take j.toNat) (aK c,az c)).2.length<=_;omega,
    j+1,(ab c+1,bl c,ak c,ag c,ay c,(bV (ay c+ak c) (bS (ay c+ak c) ((aD c).take j.toNat) (aK c,az c)) (aQ T.2.2 1) (T.2.2.drop 3)).1,(bV (ay c+ak c) (bS (ay c+ak c) ((aD c).take j.toNat) (aK c,az c)) (aQ T.2.2 1) (T.2.2.drop 3)).2,aD c,bd c),⟨by omega,by omega,fun t ht=>?_,?_⟩,by omega,(by repeat' first|exact trivial|refine⟨trivial,?_⟩|refine⟨(by with_reducible rfl),?_⟩|refine⟨af (by omega) (by omega),?_⟩|refine⟨rfl,?_⟩)⟩
   ·rw[hnx] at ht
    rcases List.mem_append.1 ht with ht|ht
    ·exact hj1 t ht
    ·rw[List.mem_singleton.1 ht];omega
   ·unfold gc
    rw[hnx,sr]
  have hjn:j.toNat=(ai (ab c+1) (aD c)).length:=by
   refine lz j0 j1 hj1 ?_
   rcases h1 with h1|h1
   ·exact .inl (of_decide_eq_false h1)
   ·by_cases hj2:j<(aD c).length
    ·have h1:=of_decide_eq_false h1
     have:=(hx.dn.r _ (cy (xs:=aD c) j0 hj2)).1
     exact .inr (by omega)
    ·exact .inl hj2
  have eS:bf (aD c) j.toNat (Int.toNat ((aD c).length:Int))=aP (ab c+1) (aD c):=by
   unfold bf;rw[Int.toNat_natCast,List.take_length,hjn];exact q2
  rw[eS]
  have eA:bS (ay c+ak c) ((aD c).take j.toNat) (aK c,az c)=aE c:=by rw[hjn,q5];rfl
  rw[eA] at t1 t2 t3 t4
  have eA1:(gc c j.toNat)=(ab c+1,bl c,ak c,ag c,ay c,(aE c).1,(aE c).2,aD c,bd c):=by unfold gc;rw[eA]
  rw[eA1]
  have hf0:=ic hu 0
  refine⟨j0,by omega,by omega,aG (fun h=>?_) (fun h=>?_),?_⟩
  ·have h:=of_decide_eq_true h
   have eU:am c us=a7 (ab c+1) (bp ((aE c).1.length:Int) ((aE c).2.map (·.1))) (bg us 0) (bl c,bd c):=if_neg fun k=>by rw[k] at hjn;simp at hjn;omega
   have eB:(ab c+1,(a7 (ab c+1) (bp ((aE c).1.length:Int) ((aE c).2.map (·.1))) (bg us 0) (bl c,bd c)).1,ak c,ag c,ay c,(aE c).1,(aE c).2,aP (ab c+1) (aD c),(a7 (ab c+1) (bp ((aE c).1.length:Int) ((aE c).2.map (·.1))) (bg us 0) (bl c,bd c)).2)=dw c us (ay c):=by unfold dw;rw[eU]
   have hup:=hx.up.n
   exact⟨by show (aE c).1.length<=_;omega,by show (aE c).2.length<=_;omega,fun x hx=>by have:=t4 x hx;omega,by omega,by show ((bd c).length:Int)<=_;omega,by show 0<=ab c+1;omega,by show ab c+1<=_;omega,o0,by show bl c<=_;omega,hf0,_,eB,(by repeat' first|exact trivial|refine⟨trivial,?_⟩|refine⟨(by with_reducible rfl),?_⟩|refine⟨af (by omega) (by omega),?_⟩|refine⟨rfl,?_⟩)⟩
  ·have h:=of_decide_eq_false h
   have eU:am c us=(bl c,bd c):=if_pos (List.eq_nil_of_length_eq_zero (by omega))
   have eB:(ab c+1,bl c,ak c,ag c,ay c,(aE c).1,(aE c).2,aP (ab c+1) (aD c),bd c)=dw c us (ay c):=by unfold dw;rw[eU]
   exact⟨_,eB,(by repeat' first|exact trivial|refine⟨trivial,?_⟩|refine⟨(by with_reducible rfl),?_⟩|refine⟨af (by omega) (by omega),?_⟩|refine⟨rfl,?_⟩)⟩
  clear eA eA1 eS hjn h1 e8 e1 hj1 j0 j1 hrt
  rintro _ rfl
  refine⟨⟨0,dw c us (ay c),[],⟨by omega,by omega,by simp,rfl,rfl⟩,(by repeat' first|exact trivial|refine⟨trivial,?_⟩|refine⟨(by with_reducible rfl),?_⟩|refine⟨af (by omega) (by omega),?_⟩|refine⟨rfl,?_⟩)⟩,?_⟩
  rintro h b nt ⟨h0,h1,hh,rfl,rfl⟩
  have e9:(dw c us (bz (ay c) ((am c us).2.take h.toNat))).2.2.2.2.2.2.2.2=(am c us).2:=rfl
  have e1:(dw c us (bz (ay c) ((am c us).2.take h.toNat))).1=ab c+1:=rfl
  rw[e9,e1]
  (repeat (intro (b_:Bool) (hb_:b_=_);(repeat refine⟨(by first|(simp;done)|(rw[hb_];simp;done)|(rw[hb_];simp;omega)|(rw[hb_];simp;intros;omega)|(rw[hb_];simp +contextual;done)),?_⟩);subst hb_))
  have hun:=pu1.n
  have hodd:∀ t∈(am c us).2,∃ m:Nat,t.2.2.length=3+2*m/\m<=2000:=fun t ht=>nZ (pu4 t ht) hlog
  refine gH (fun h2 h3=>?_) (fun h2=>?_)
  ·have h2:=of_decide_eq_true h2
   have h3:=of_decide_eq_true h3
   have hmem:=cy (xs:=(am c us).2) h0 h2
   have ht:=cG (l:=(am c us).2) h0 h2
   obtain⟨m,hl,hm2⟩:=hodd _ hmem
   generalize (am c us).2.getD h.toNat default=T at *
   have eM:bI T.2.2 1 2=aQ T.2.2 1:=rfl
   rw[eM]
   refine⟨h0,h2,by omega,⟨3,_,⟨by omega,by omega,rfl,rfl⟩,by (repeat first|refine⟨trivial,?_⟩|refine⟨(by with_reducible rfl),?_⟩|refine⟨af (by omega) (by omega),?_⟩);exact⟨by simp[ct],trivial⟩⟩,?_⟩
   rintro a nt2 ⟨a0,a1,a2,rfl⟩
   have hhn:=mJ (l:=(am c us).2.take h.toNat) fun t ht=>hodd t (List.mem_of_mem_take ht)
   have hlt:((am c us).2.take h.toNat).length<=(am c us).2.length:=by rw[List.length_take];omega
   rw[af (n:=a+1) (by omega) (by omega)]
   refine aG (fun ha=>?_) (fun ha=>?_)
   ·have ha:=of_decide_eq_true ha
    obtain⟨q,hq⟩:∃ q:Nat,a=3+2*(q:Int):=⟨((a-3)/2).toNat,by omega⟩
    subst hq
    have hp:=nl _ ((T.2.2.drop 3).take (3+2*(q:Int)-3).toNat) (Nat.le_refl _)
    have e1:(3+2*(q:Int)-3).toNat=2*q:=by omega
    have e2:(3+2*(q:Int)+2-3).toNat=2*q+2:=by omega
    have e3:(3+2*(q:Int))=((3+2*q:Nat):Int):=by omega
    have e4:bI T.2.2 (3+2*(q:Int)) 2=(T.2.2.drop 3).getD (2*q) 0*256+(T.2.2.drop 3).getD (2*q+1) 0:=by
     show aQ T.2.2 (3+2*(q:Int))=_
     rw[e3,uH (by omega),← List.drop_drop]
     simp only[List.getD_eq_getElem?_getD,List.getElem?_drop,Nat.add_zero]
    refine⟨by omega,?_,3+2*(q:Int)+2,_,⟨by omega,by omega,by omega,rfl⟩,by omega,?_⟩
    ·rw[List.length_append,hp,List.length_singleton,List.length_take,List.length_drop];omega
    ·(repeat first|refine⟨trivial,?_⟩|refine⟨(by with_reducible rfl),?_⟩|refine⟨af (by omega) (by omega),?_⟩)
     exact⟨by rw[e1,e2,e4,pI q (by rw[List.length_drop];omega),List.append_assoc],trivial⟩
   ·have ha:=of_decide_eq_false ha
    have w1:max (bz (ay c) ((am c us).2.take h.toNat)) (aQ T.2.2 1)=bz (ay c) ((am c us).2.take (h+1).toNat):=by rw[ht,tL]
    have w2:bF ((am c us).2.take h.toNat)++ct ((T.2.2.drop 3).take (a-3).toNat)=bF ((am c us).2.take (h+1).toNat):=by rw[ht,vq,List.take_of_length_le (l:=T.2.2.drop 3) (by rw[List.length_drop];omega)]
    have w3:max (dw c us (bz (ay c) ((am c us).2.take h.toNat))).2.2.2.2.1 (aQ T.2.2 1)=bz (ay c) ((am c us).2.take (h+1).toNat):=w1
    rw[w2,w3]
    refine⟨h+1,dw c us (bz (ay c) ((am c us).2.take (h+1).toNat)),_,⟨by omega,by omega,fun t htt=>?_,rfl,rfl⟩,by omega,(by repeat' first|exact trivial|refine⟨trivial,?_⟩|refine⟨(by with_reducible rfl),?_⟩|refine⟨af (by omega) (by omega),?_⟩|refine⟨rfl,?_⟩)⟩
    rw[ht] at htt
    rcases List.mem_append.1 htt with htt|htt
    ·exact hh t htt
    ·rw[List.mem_singleton.1 htt];omega
  have hn:h.toNat=(ai (ab c+1) (am c us).2).length:=by
   refine lz h0 h1 hh ?_
   rcases h2 with h2|h2
   ·exact .inl (of_decide_eq_false h2)
   ·by_cases hj2:h<(am c us).2.length
    ·have h2:=of_decide_eq_false h2
     have:=(pu1.r _ (cy (xs:=(am c us).2) h0 hj2)).1
     exact .inr (by omega)
    ·exact .inl hj2
  obtain⟨p1,p2,p3,p4⟩:=lv (ab c+1) (am c us).2
  have p5:=re (ab c+1) (am c us).2
  have eS:bf (am c us).2 h.toNat (Int.toNat ((am c us).2.length:Int))=aP (ab c+1) (am c us).2:=by
   unfold bf;rw[Int.toNat_natCast,List.take_length,hn];exact p2
  have eT:(am c us).2.take h.toNat=cW c us:=by rw[hn];exact p5
  rw[eS,eT]
  have eK:bz (ay c) (cW c us)=aw c us:=rfl
  rw[eK]
  have hD:bR (ab c+1) (ag c) ds (fg c us (aw c us)) 0 ((am c us).1,aP (ab c+1) (aD c))=cM c ds us:=rfl
  have hR:∀ x,fg c us x=(dD x (min ((ag c).length:Int) (aw c us+ak c))).filter fun i => !(bF (cW c us)).contains i:=fun x=>rfl
  have hdn0:=(lY (now:=ab c+1) (by omega) hx.dn).more pu2
  have hfin:∀ o dn',(o,dn')=cM c ds us->((ab c+1,o,ak c,ag c,aw c us,(aE c).1,(aE c).2,dn',aP (ab c+1) (am c us).2):aj)=a9 c ds us:=fun o dn' he=>by
   show _=((ab c+1,(cM c ds us).1,ak c,ag c,aw c us,(aE c).1,(aE c).2,(cM c ds us).2,aP (ab c+1) (am c us).2):aj)
   rw[← he]
  refine⟨h0,by omega,by omega,⟨aw c us,0,(am c us).1,aP (ab c+1) (aD c),⟨by omega,by omega,by omega,hdn0.so (by omega) (by omega),by omega,by omega,hD⟩,(by repeat' first|exact trivial|refine⟨trivial,?_⟩|refine⟨(by with_reducible rfl),?_⟩|refine⟨af (by omega) (by omega),?_⟩|refine⟨rfl,?_⟩)⟩,?_⟩
  have hit:=hx.it
  rintro x i o dn' ⟨x0,i0,i1,hs,ho2,x1,he⟩
  rw[af (n:=aw c us+ak c) (by omega) (by omega)]
  (repeat (intro (b_:Bool) (hb_:b_=_);(repeat refine⟨(by first|(simp;done)|(rw[hb_];simp;done)|(rw[hb_];simp;omega)|(rw[hb_];simp;intros;omega)|(rw[hb_];simp +contextual;done)),?_⟩);subst hb_))
  refine gH (fun h4 h5=>?_) (fun h4=>?_)
  ·have h4:=of_decide_eq_true h4
   have h5:=of_decide_eq_true h5
   have hcons:=vM (x:=x) (b:=min ((ag c).length:Int) (aw c us+ak c)) (by omega)
   have hNl:=mJ (l:=cW c us) fun t ht=>hodd t (p4 t ht)
   have p1':(cW c us).length<=(am c us).2.length:=p1
   generalize hN:bF (cW c us)=N at *
   refine⟨⟨0,false,⟨by omega,by omega,by simp⟩,(by repeat' first|exact trivial|refine⟨trivial,?_⟩|refine⟨(by with_reducible rfl),?_⟩|refine⟨af (by omega) (by omega),?_⟩|refine⟨rfl,?_⟩)⟩,?_⟩
   rintro k b ⟨k0,k1,rfl⟩
   refine aG (fun hk=>?_) (fun hk=>?_)
   ·have hk:=of_decide_eq_true hk
    have hnx:=cG (l:=N) k0 hk
    (repeat (intro (b_:Bool) (hb_:b_=_);(repeat refine⟨(by first|(simp;done)|(rw[hb_];simp;done)|(rw[hb_];simp;omega)|(rw[hb_];simp;intros;omega)|(rw[hb_];simp +contextual;done)),?_⟩);subst hb_))
    refine⟨k+1,_,⟨by omega,by omega,rfl⟩,by omega,?_⟩
    (repeat first|refine⟨trivial,?_⟩|refine⟨(by with_reducible rfl),?_⟩|refine⟨af (by omega) (by omega),?_⟩)
    refine⟨?_,(by repeat' first|exact trivial|refine⟨trivial,?_⟩|refine⟨(by with_reducible rfl),?_⟩|refine⟨af (by omega) (by omega),?_⟩|refine⟨rfl,?_⟩)⟩
    rw[hnx,rJ]
    refine decide_eq_decide.2 ?_
    rw[List.mem_append,List.mem_singleton]
    exact⟨fun q=>q.imp id Eq.symm,fun q=>q.imp id Eq.symm⟩
   ·have hk:=of_decide_eq_false hk
    rw[List.take_of_length_le (by omega)]
    refine aG (fun hm=>?_) (fun hm=>?_)
    ·have hm:=mZ hm
     have hf:=ic hd i.toNat
     have hil:=hit _ (cy (xs:=ag c) (i:=x) (by omega) h4)
     have hs0:=hs
     obtain⟨-,oo,-,-,hdn⟩:=hs0
     obtain⟨s1,s2⟩:=tD (b:=bO x ((ag c).getD x.toNat default)) hf hs (by omega)
     refine⟨by omega,by omega,h4,by omega,i0,by omega,by omega,by omega,oo.1,by omega,hf,x+1,i+1,(a7 (ab c+1) (bO x ((ag c).getD x.toNat default)) (bg ds i.toNat) (o,dn')).1,(a7 (ab c+1) (bO x ((ag c).getD x.toNat default)) (bg ds i.toNat) (o,dn')).2,⟨by omega,by omega,by omega,s1,by omega,by omega,?_⟩,by omega,(by repeat' first|exact trivial|refine⟨trivial,?_⟩|refine⟨(by with_reducible rfl),?_⟩|refine⟨af (by omega) (by omega),?_⟩|refine⟨rfl,?_⟩)⟩
     rw[← he,hR x,hR,hcons,List.filter_cons_of_pos (by simpa using hm),show (i+1).toNat=i.toNat+1 by omega]
     rfl
    ·have hm:=lA hm
     refine⟨x+1,i,o,dn',⟨by omega,i0,by omega,hs,ho2,by omega,?_⟩,by omega,(by repeat' first|exact trivial|refine⟨trivial,?_⟩|refine⟨(by with_reducible rfl),?_⟩|refine⟨af (by omega) (by omega),?_⟩|refine⟨rfl,?_⟩)⟩
     rw[← he,hR,hR,hcons,List.filter_cons_of_neg (by simpa using hm)]
  ·have hx2:¬ x<min ((ag c).length:Int) (aw c us+ak c):=by
    rcases h4 with q|q
    ·have:=of_decide_eq_false q;omega
    ·have:=of_decide_eq_false q;omega
   refine⟨hfin o dn' ?_,rfl⟩
   rw[← he,hR,tb hx2]
   rfl
theorem wA:aL Try.prog GL 30 tp.spec:=Ct.okH _ Try.func30 (by kernel_rfl) (aJ (aJ (aJ (aJ (aJ (aJ (aJ aV Ad) xA) ze) zM) wH) tU) yU) aH yh (aW (by kernel_rfl) w8)
def gS(a b:aj):Bool:=decide (ab a=ab b)&&(decide (bl a=bl b)&&(decide (ak a=ak b)&&(decide (ay a=ay b)&&(decide (ag a=ag b)&&(decide (aK a=aK b)&&(decide (az a=az b)&&(decide (aD a=aD b)&&decide (bd a=bd b))))))))
theorem ou{a b:aj}:gS a b=true↔a=b:=by
 unfold gS
 simp only[Bool.and_eq_true,decide_eq_true_eq]
 constructor
 ·rintro⟨h1,h2,h3,h4,h5,h6,h7,h8,h9⟩
  exact Prod.ext h1 (Prod.ext h2 (Prod.ext h3 (Prod.ext h5 (Prod.ext h4 (Prod.ext h6 (Prod.ext h7 (Prod.ext h8 h9)))))))
 ·rintro rfl
  exact⟨rfl,rfl,rfl,rfl,rfl,rfl,rfl,rfl,rfl⟩
def rM:Ct:=⟨[.agg bA,.agg bA],[.val .bool],fun _=>[],fun d=>((gS d.1 d.2.1,()),())⟩
def wo:aI rM.ps->aO:=(fun d=>{loops:=(fun n=>match n with|4=>some (fun S=>{ι:=Int,μ:=fun i=>((az d.1).length-i).toNat,inv:=fun i=>0<=i/\i<=(az d.1).length/\(az d.1).take i.toNat=(az d.2.1).take i.toNat,keep:=[2,3],slots:=fun i=>[(5,.int .i64 i)],keepN:=[48,64],names:=fun i=>[]})|_=>none)})
def pz(a b:Int×Int×Int×List (List Int)×Int×List (List Int)×List (Int×List Int)×List (Int×Int×List Int)×List (Int×Int×List Int)) :=
 a.1=a.1/\a.2.1=a.2.1/\a.2.2.1=a.2.2.1/\a.2.2.2.1=a.2.2.2.1/\a.2.2.2.2.1=a.2.2.2.2.1/\a.2.2.2.2.2.1=a.2.2.2.2.2.1/\a.2.2.2.2.2.2.1=a.2.2.2.2.2.2.1/\a.2.2.2.2.2.2.2.1=a.2.2.2.2.2.2.2.1/\a.2.2.2.2.2.2.2.2=a.2.2.2.2.2.2.2.2/\b.1=b.1/\b.2.1=b.2.1/\b.2.2.1=b.2.2.1/\b.2.2.2.1=b.2.2.2.1/\b.2.2.2.2.1=b.2.2.2.2.1/\b.2.2.2.2.2.1=b.2.2.2.2.2.1/\b.2.2.2.2.2.2.1=b.2.2.2.2.2.2.1/\b.2.2.2.2.2.2.2.1=b.2.2.2.2.2.2.2.1/\b.2.2.2.2.2.2.2.2=b.2.2.2.2.2.2.2.2/\True
def ir(l:Bool) :=
 (! l)->((! l)->(! l))/\True
theorem zI :
 ∀(a b:Int×Int×Int×List (List Int)×Int×List (List Int)×List (Int×List Int)×List (Int×Int×List Int)×List (Int×Int×List Int)),CT.wf bA a/\CT.wf bA b/\True->True-> ∀(c:Bool),c= ! decide (a.1=b.1)->((! c)->((! c)->(! c))/\True)/\((! c)->((! c)->(! c))/\True)/\((! c)->((! c)->(! c))/\((! c)->(! c))/\True)/\(c=false->(! c))/\ ∀(d:Bool),(d=bif c then true else ! decide (a.2.1=b.2.1))->((! d)->((! d)->(! d))/\True)/\((! d)->((! d)->(! d))/\True)/\((! d)->((! d)->(! d))/\((! d)->(! d))/\True)/\(d=false->(! d))/\ ∀(e:Bool),(e=bif d then true else ! decide (a.2.2.1=b.2.2.1))->((! e)->((! e)->(! e))/\True)/\((! e)->((! e)->(! e))/\True)/\((! e)->((! e)->(! e))/\((! e)->(! e))/\True)/\(e=false->(! e))/\ ∀(f:Bool),(f=bif e then true else ! decide (a.2.2.2.2.1=b.2.2.2.2.1))->((! f)->((! f)->(! f))/\True)/\((! f)->((! f)->(! f))/\True)/\((! f)->((! f)->(! f))/\((! f)->(! f))/\True)/\((! f)->((!
 f)->(! f))/\True)/\(f=false->(! f))/\ ∀(g:Bool),(g=bif f then true else ! decide (a.2.2.2.1=b.2.2.2.1))->((! g)->((! g)->(! g))/\True)/\((! g)->((! g)->(! g))/\True)/\((! g)->((! g)->(! g))/\((! g)->(! g))/\True)/\((! g)->((! g)->(! g))/\True)/\(g=false->(! g))/\ ∀(h:Bool),(h=bif g then true else ! decide (a.2.2.2.2.2.1=b.2.2.2.2.2.1))->((! h)->((! h)->(! h))/\True)/\((! h)->((! h)->(! h))/\True)/\((! h)->((! h)->(! h))/\((! h)->(! h))/\True)/\((! h)->((! h)->(! h))/\True)/\(h=false->(! h))/\ ∀(i:Bool),(i=bif h then true else ! decide (a.2.2.2.2.2.2.2.1=b.2.2.2.2.2.2.2.1))->((! i)->((! i)->(! i))/\True)/\((! i)->((! i)->(! i))/\True)/\((! i)->((! i)->(! i))/\((! i)->(! i))/\True)/\((! i)->((! i)->(! i))/\True)/\(i=false->(! i))/\ ∀(j:Bool),(j=bif i then true else ! decide (a.2.2.2.2.2.2.2.2=b.2.2.2.2.2.2.2.2))->((! j)->((! j)->(! j))/\True)/\((! j)->((! j)->(! j))/\True)/\((! j)->((!
 j)->(! j))/\True)/\((! j)->((! j)->(! j))/\True)/\((! j)->((! j)->(! j))/\((! j)->(! j))/\True)/\(j=false->(! j))/\av (bif j then true else ! decide ((a.2.2.2.2.2.2.1.length:Int)=(b.2.2.2.2.2.2.1.length:Int))) (false=gS a b) ((∃(k:Int),(0<=k/\k<=(c8 a)/\List.take k.toNat (az a)=List.take k.toNat (az b))/\(0:Int)=k/\(pz a b))/\ ∀(k:Int),0<=k/\k<=(c8 a)/\List.take k.toNat (az a)=List.take k.toNat (az b)->av (decide (k<(a.2.2.2.2.2.2.1.length:Int))) (0<=k/\k<(a.2.2.2.2.2.2.1.length:Int)/\0<=k/\k<(b.2.2.2.2.2.2.1.length:Int)/\ ∀(l:Bool),l= ! decide ((List.getD a.2.2.2.2.2.2.1 k.toNat default).1=(List.getD b.2.2.2.2.2.2.1 k.toNat default).1)->(ir l)/\((! l)->((! l)->(! l))/\((! l)->(! l))/\0<=k/\k<(a.2.2.2.2.2.2.1.length:Int)/\True)/\(ir l)/\(ir l)/\(ir l)/\((! l)->((! l)->(! l))/\((! l)->(! l))/\0<=k/\k<(b.2.2.2.2.2.2.1.length:Int)/\True)/\(ir l)/\(ir
 l)/\((! l)->((! l)->(! l))/\((! l)->(! l))/\True)/\(ir l)/\(l=false->(! l))/\av (bif l then true else ! decide ((List.getD a.2.2.2.2.2.2.1 k.toNat default).2=(List.getD b.2.2.2.2.2.2.1 k.toNat default).2)) (false=gS a b) (∃(m:Int),(0<=m/\m<=(c8 a)/\List.take m.toNat (az a)=List.take m.toNat (az b))/\Int.toNat ((c8 a) -m)<Int.toNat ((c8 a) -k)/\IntKind.wrap .i64 (k+(1:Int))=m/\(pz a b))) (true=gS a b)):=by
  delta pz c8 ir
  rintro a b ⟨⟨-,-,-,-,-,-,⟨hl,-⟩,-⟩,-⟩ -
  simp only[maxLen] at hl
  (repeat (intro (b_:Bool) (hb_:b_=_);(repeat refine⟨(by first|(simp;done)|(rw[hb_];simp;done)|(rw[hb_];simp;omega)|(rw[hb_];simp;intros;omega)|(rw[hb_];simp +contextual;done)),?_⟩);subst hb_))
  simp only[xq,zp,yk,rJ]
  have ne:a≠b->gS a b=false:=fun h=>Bool.eq_false_iff.2 fun k=>h (ou.1 k)
  refine aG (fun h=>?_) (fun h=>?_)
  ·have h:=of_decide_eq_true h
   refine (ne fun e=>?_).symm
   subst e
   simp at h
  have h:=of_decide_eq_false h
  simp only[not_or,Classical.not_not] at h
  obtain⟨⟨⟨⟨⟨⟨⟨⟨h1,h2⟩,h3⟩,h4⟩,h5⟩,h6⟩,h7⟩,h8⟩,h9⟩:=h
  have eA:az a=a.2.2.2.2.2.2.1:=rfl
  have eB:az b=b.2.2.2.2.2.2.1:=rfl
  rw[eA,eB]
  have fin:a.2.2.2.2.2.2.1=b.2.2.2.2.2.2.1->a=b:=fun h=>Prod.ext h1 (Prod.ext h2 (Prod.ext h3 (Prod.ext h5 (Prod.ext h4 (Prod.ext h6 (Prod.ext h (Prod.ext h7 h8)))))))
  have neq:a.2.2.2.2.2.2.1≠b.2.2.2.2.2.2.1->a≠b:=fun h e=>h (by rw[e])
  generalize a.2.2.2.2.2.2.1=L at *
  generalize b.2.2.2.2.2.2.1=M at *
  refine⟨⟨0,⟨by omega,by omega,rfl⟩,(by repeat' first|exact trivial|refine⟨trivial,?_⟩|refine⟨(by with_reducible rfl),?_⟩|refine⟨af (by omega) (by omega),?_⟩|refine⟨rfl,?_⟩)⟩,?_⟩
  rintro i ⟨i0,i1,i2⟩
  refine aG (fun hi=>?_) (fun hi=>?_)
  ·have hi:=of_decide_eq_true hi
   refine⟨i0,hi,i0,by omega,?_⟩
   (repeat (intro (b_:Bool) (hb_:b_=_);(repeat refine⟨(by first|(simp;done)|(rw[hb_];simp;done)|(rw[hb_];simp;omega)|(rw[hb_];simp;intros;omega)|(rw[hb_];simp +contextual;done)),?_⟩);subst hb_))
   have hL:=cG (l:=L) i0 hi
   have hM:=cG (l:=M) i0 (by omega)
   refine ja (fun hq=>?_) (fun q1 q2=>?_)
   ·refine (ne (neq fun e=>?_)).symm
    rw[e] at hq
    simp at hq
   ·have q1:=Classical.not_not.1 (of_decide_eq_false q1)
    have q2:=Classical.not_not.1 (of_decide_eq_false q2)
    refine⟨i+1,⟨by omega,by omega,?_⟩,by omega,?_⟩
    ·rw[hL,hM,i2,Prod.ext q1 q2]
    ·rw[af (by omega) (by omega)]
     exact (by repeat' first|exact trivial|refine⟨trivial,?_⟩|refine⟨(by with_reducible rfl),?_⟩|refine⟨af (by omega) (by omega),?_⟩|refine⟨rfl,?_⟩)
  ·have hi:=of_decide_eq_false hi
   rw[List.take_of_length_le (by omega),List.take_of_length_le (by omega)] at i2
   exact (ou.2 (fin i2)).symm
theorem zT:aL Try.prog GL 12 rM.spec:=Ct.okH _ Try.func12 (by kernel_rfl) (aJ (aJ (aJ aV BS) BN) n6) aH wo (aW (by kernel_rfl) zI)
end Go.RS

/- Lawx1: what the laws of the exchange draw. -/
namespace Go.RS
open Go.SX Go.Proofs
set_option maxRecDepth 100000
set_option linter.unusedVariables false
def ux:Cn:=⟨[.box 58 fx,.val cI],[.val (.sl aZ)],fun d=>[aA d.1,0<=d.2.1,d.2.1<=1000],fun d y=>aA y.2.1/\(y.1.1.length:Int)<=d.2.1,fun d h=>⟨(([],()),(d.1,())),h.1,by simp;exact h.2.1⟩⟩
def zf:aI ux.ps->aO:=(fun d=>{loops:=(fun n=>match n with|3=>some (fun S=>{ι:=Int×(List Int×Int)×(List Int),qn:=⟨fun k_=>∀(k:Int)(c:(List Int×Int))(b:(List Int)),k_ (k,c,b),fun k_ h_ i=>h_ i.1 i.2.1 i.2.2,fun k_=>∃ (k:Int) (c:(List Int×Int)) (b:(List Int)),k_ (k,c,b),fun k_ ⟨k,c,b,h_⟩=>⟨_,h_⟩⟩,μ:=fun i=>i.1.toNat,inv:=fun i=>0<=i.1/\aA i.2.1/\i.2.2.length+i.1<=d.2.1,keep:=[0,4],slots:=fun i=>[(5,.own 524288 1),(6,.int .i64 i.1)],names:=fun i=>[(1048576,.live (.cells 58 (bt fx i.2.1))),(524288,.live (.row 5 aZ i.2.2))]})|_=>none)})
def iy(a:List Int) :=
 a.length<=maxLen/\ ∀(d:Int),d∈a->0<=d/\d<=255
theorem BW :
 ∀(a:List Int)(b c:Int),((iy a)/\ao b)/\ao c/\True->aA (a,b)/\0<=c/\c<=1000->aA (a,b)/\ ∀(d:Int)(e:List Int)(f:Int),0<=d/\(d<IntKind.wrap .i64 (c+(1:Int))∨d=0)/\aA (e,f)->(∃(g:Int) (h:List Int×Int),∃(i:List Int),(0<=g/\aA h/\(i.length:Int)+g<=c)/\d=g/\e=h.1/\f=h.2/\i=([]:List Int)/\True)/\ ∀(g:Int)(h:List Int×Int)(i:List Int),0<=g/\aA h/\(i.length:Int)+g<=c->av (decide (0<g)) (aA h/\ ∀(j:Int)(k:List Int)(l:Int),0<=j/\(j<256∨j=0)/\aA (k,l)->(i.length+List.length [IntKind.wrap .u8 j])*(1:Nat)<=(140737488355328:Nat)/\ ∃(m:Int) (n:List Int×Int),∃(o:List Int),(0<=m/\aA n/\(o.length:Int)+m<=c)/\m.toNat<g.toNat/\IntKind.wrap .i64 (g -(1:Int))=m/\k=n.1/\l=n.2/\i++[IntKind.wrap .u8 j]=o/\True) (aA h/\(i.length:Int)<=c):=by
  delta iy
  rintro l p n-⟨hc,n0,n1⟩
  refine⟨hc,?_⟩
  rintro k l2 p2 ⟨k0,k1,hc2⟩
  rw[af (by omega) (by omega)] at k1
  refine⟨⟨k,(l2,p2),[],⟨k0,hc2,by simp only[List.length_nil];omega⟩,(by repeat' first|exact trivial|refine⟨trivial,?_⟩|refine⟨(by with_reducible rfl),?_⟩|refine⟨af (by omega) (by omega),?_⟩|refine⟨rfl,?_⟩)⟩,?_⟩
  rintro k c b ⟨k0,hc,hb⟩
  refine aG (fun h=>⟨hc,?_⟩) (fun h=>⟨hc,by omega⟩)
  have h:=of_decide_eq_true h
  rintro x l3 p3 ⟨-,-,hc3⟩
  exact⟨by simp only[List.length_singleton];omega,k-1,(l3,p3),b++[IntKind.wrap IntKind.u8 x],⟨by omega,hc3,by rw[List.length_append,List.length_singleton];omega⟩,by omega,(by repeat' first|exact trivial|refine⟨trivial,?_⟩|refine⟨(by with_reducible rfl),?_⟩|refine⟨af (by omega) (by omega),?_⟩|refine⟨rfl,?_⟩)⟩
theorem xo:aL Try.prog GL 19 ux.spec:=Cn.okH _ Try.func19 (by kernel_rfl) (aJ aV mh) aH zf (aW (by kernel_rfl) BW)
def u9:Cn:=⟨[.box 58 fx,.val cI],[.own 67 eI],fun d=>[aA d.1,0<=d.2.1,d.2.1<=1000],fun d y=>aA y.2.1/\(y.1.1.length:Int)<=d.2.1∧∀ f∈y.1.1,0<=f.2.2/\f.2.2<=1,fun d h=>⟨(([],()),(d.1,())),h.1,by simp;exact h.2.1,by simp⟩⟩
def x7:aI u9.ps->aO:=(fun d=>{loops:=(fun n=>match n with|3=>some (fun S=>{ι:=Int×(List Int×Int)×(List aX),qn:=⟨fun k_=>∀(k:Int)(c:(List Int×Int))(l:(List aX)),k_ (k,c,l),fun k_ h_ i=>h_ i.1 i.2.1 i.2.2,fun k_=>∃ (k:Int) (c:(List Int×Int)) (l:(List aX)),k_ (k,c,l),fun k_ ⟨k,c,l,h_⟩=>⟨_,h_⟩⟩,μ:=fun i=>i.1.toNat,inv:=fun i=>0<=i.1/\aA i.2.1/\i.2.2.length+i.1<=d.2.1∧∀ f∈i.2.2,0<=f.2.2/\f.2.2<=1,keep:=[0,4],slots:=fun i=>[(5,.own 524288 3),(6,.int .i64 i.1)],names:=fun i=>[(1048576,.live (.cells 58 (bt fx i.2.1))),(524288,.live (.row 67 eI i.2.2))]})|_=>none)})
theorem AA :
 ∀(a:List Int)(b c:Int),((iy a)/\ao b)/\ao c/\True->aA (a,b)/\0<=c/\c<=1000->aA (a,b)/\ ∀(d:Int)(e:List Int)(f:Int),0<=d/\(d<IntKind.wrap .i64 (c+(1:Int))∨d=0)/\aA (e,f)->(∃(g:Int) (h:List Int×Int),∃(i:List aX),(0<=g/\aA h/\(i.length:Int)+g<=c/\ ∀(j:aX),j∈i->0<=j.2.2/\j.2.2<=1)/\d=g/\e=h.1/\f=h.2/\i=([]:List (Bool×Int×Int))/\True)/\ ∀(g:Int)(h:List Int×Int)(i:List aX),(0<=g/\aA h/\(i.length:Int)+g<=c/\ ∀(j:aX),j∈i->0<=j.2.2/\j.2.2<=1)->av (decide (0<g)) (aA h/\ ∀(j:Int)(k:List Int)(l:Int),0<=j/\(j<4∨j=0)/\aA (k,l)->aA (k,l)/\ ∀(m:Int)(n:List Int)(o:Int),0<=m/\(m<4∨m=0)/\aA (n,o)->aA (n,o)/\ ∀(p:Int)(q:List Int)(r:Int),0<=p/\(p<8∨p=0)/\aA (q,r)->(6:Int)≠(0:Int)/\aA (q,r)/\ ∀(s:Int)(t:List Int)(u:Int),0<=s/\(s<40∨s=0)/\aA (t,u)->av (decide (s=39)) (aA (t,u)/\ ∀(v:Int)(w:List Int)(x:Int),aA (w,x)/\ao v->(i.length+List.length [(decide
 (j=3),v,IntKind.wrap .i64 (Int.tdiv p (6:Int)))])*(24:Nat)<=(140737488355328:Nat)/\ ∃(y:Int) (z:List Int×Int),∃(A:List aX),(0<=y/\aA z/\(A.length:Int)+y<=c/\ ∀(B:aX),B∈A->0<=B.2.2/\B.2.2<=1)/\y.toNat<g.toNat/\IntKind.wrap .i64 (g -(1:Int))=y/\w=z.1/\x=z.2/\i++[(decide (j=3),v,IntKind.wrap .i64 (Int.tdiv p (6:Int)))]=A/\True) ((i.length+List.length [(decide (j=3),m,IntKind.wrap .i64 (Int.tdiv p (6:Int)))])*(24:Nat)<=(140737488355328:Nat)/\ ∃(v:Int) (w:List Int×Int),∃(x:List aX),(0<=v/\aA w/\(x.length:Int)+v<=c/\ ∀(y:aX),y∈x->0<=y.2.2/\y.2.2<=1)/\v.toNat<g.toNat/\IntKind.wrap .i64 (g -(1:Int))=v/\t=w.1/\u=w.2/\i++[(decide (j=3),m,IntKind.wrap .i64 (Int.tdiv p (6:Int)))]=x/\True)) (aA h/\(i.length:Int)<=c/\ ∀(j:Bool×Int×Int),j∈i->0<=j.2.2/\j.2.2<=1):=by
  delta iy
  rintro l p n-⟨hc,n0,n1⟩
  refine⟨hc,?_⟩
  rintro k l2 p2 ⟨k0,k1,hc2⟩
  rw[af (by omega) (by omega)] at k1
  refine⟨⟨k,(l2,p2),[],⟨k0,hc2,by simp only[List.length_nil];omega,by simp⟩,(by repeat' first|exact trivial|refine⟨trivial,?_⟩|refine⟨(by with_reducible rfl),?_⟩|refine⟨af (by omega) (by omega),?_⟩|refine⟨rfl,?_⟩)⟩,?_⟩
  rintro k c b ⟨k0,hc,hb,hf⟩
  refine aG (fun h=>⟨hc,?_⟩) (fun h=>⟨hc,by omega,hf⟩)
  have h:=of_decide_eq_true h
  rintro x l3 p3 ⟨-,-,hc3⟩
  refine⟨hc3,?_⟩
  rintro y l4 p4 ⟨-,-,hc4⟩
  refine⟨hc4,?_⟩
  rintro z l5 p5 ⟨z0,z1,hc5⟩
  refine⟨by decide,hc5,?_⟩
  rintro u l6 p6 ⟨-,-,hc6⟩
  have ez:Int.tdiv z 6=z/6:=Int.tdiv_eq_ediv_of_nonneg z0
  rw[ez,af (n:=z/6) (by omega) (by omega)]
  have hf':∀ d:Int,∀ f∈b++[(decide (x=3),d,z/6)],0<=f.2.2/\f.2.2<=1:=fun d f hff=>by
   rcases List.mem_append.1 hff with q|q
   ·exact hf f q
   ·rw[List.mem_singleton.1 q];show 0<=z/6/\z/6<=1;omega
  refine aG (fun _=>⟨hc6,?_⟩) (fun _=>?_)
  ·rintro w l7 p7 ⟨hc7,-⟩
   exact⟨by simp only[List.length_singleton];omega,k-1,(l7,p7),_,⟨by omega,hc7,by rw[List.length_append,List.length_singleton];omega,hf' _⟩,by omega,(by repeat' first|exact trivial|refine⟨trivial,?_⟩|refine⟨(by with_reducible rfl),?_⟩|refine⟨af (by omega) (by omega),?_⟩|refine⟨rfl,?_⟩)⟩
  ·exact⟨by simp only[List.length_singleton];omega,k-1,(l6,p6),_,⟨by omega,hc6,by rw[List.length_append,List.length_singleton];omega,hf' _⟩,by omega,(by repeat' first|exact trivial|refine⟨trivial,?_⟩|refine⟨(by with_reducible rfl),?_⟩|refine⟨af (by omega) (by omega),?_⟩|refine⟨rfl,?_⟩)⟩
theorem wt:aL Try.prog GL 29 u9.spec:=Cn.okH _ Try.func29 (by kernel_rfl) (aJ (aJ aV mh) yJ) aH x7 (aW (by kernel_rfl) AA)
def um:Cn:=⟨[.box 58 fx,.val cI],[.val (.sl eI)],fun d=>[aA d.1,0<=d.2.1,d.2.1<=1000],fun d y=>aA y.2.1/\(y.1.1.length:Int)<=d.2.1/\fW y.1.1=true,fun d h=>⟨(([],()),(d.1,())),h.1,by simp;exact h.2.1,rfl⟩⟩
def wy:aI um.ps->aO:=(fun d=>{loops:=(fun n=>match n with|3=>some (fun S=>{ι:=Int×(List aX),qn:=⟨fun k_=>∀(i:Int)(l:(List aX)),k_ (i,l),fun k_ h_ i=>h_ i.1 i.2,fun k_=>∃ (i:Int) (l:(List aX)),k_ (i,l),fun k_ ⟨i,l,h_⟩=>⟨_,h_⟩⟩,μ:=fun i=>(1000-i.1).toNat,inv:=fun i=>0<=i.1/\i.1<=i.2.length/\(i.2.length:Int)<=d.2.1/\(∀ f∈i.2,0<=f.2.2/\f.2.2<=1)∧∀ f∈i.2.take i.1.toNat,cT f=true,keep:=[0,4],slots:=fun i=>[(5,.own 524288 3),(6,.int .i64 i.1)],keepN:=[1048576],names:=fun i=>[(524288,.live (.row 67 eI i.2))]})|_=>none)})
def nO(c g:Int)(h:List aX) :=
 0<=g/\g<=(h.length:Int)/\(h.length:Int)<=c/\(∀(i:aX),i∈h->0<=i.2.2/\i.2.2<=1)/\ ∀(i:aX),i∈List.take g.toNat h->cT i=true
theorem zg :
 ∀(a:List Int)(b c:Int),((iy a)/\ao b)/\ao c/\True->aA (a,b)/\0<=c/\c<=1000->aA (a,b)/\0<=c/\c<=1000/\ ∀(d:List (Bool×Int×Int))(e:List Int)(f:Int),(aA (e,f)/\(d.length:Int)<=c/\ ∀(g:Bool×Int×Int),g∈d->0<=g.2.2/\g.2.2<=1)->(∃(g:Int) (h:List aX),(nO c g h)/\(0:Int)=g/\e=e/\f=f/\d=h/\True)/\ ∀(g:Int)(h:List aX),(nO c g h)->av (decide (g<(h.length:Int))) (0<=g/\g<(h.length:Int)/\(6:Int)≠(0:Int)/\0<=g/\g<(h.length:Int)/\ ∃(i:Int) (j:List aX),(0<=i/\i<=(j.length:Int)/\(j.length:Int)<=c/\(∀(k:aX),k∈j->0<=k.2.2/\k.2.2<=1)/\ ∀(k:aX),k∈List.take i.toNat j->cT k=true)/\Int.toNat ((1000:Int) -i)<Int.toNat ((1000:Int) -g)/\IntKind.wrap .i64 (g+(1:Int))=i/\e=e/\f=f/\List.set h g.toNat ((h.getD g.toNat default).1,gW (h.getD g.toNat default).2.1 (6:Int),(h.getD g.toNat default).2.2)=j/\True) (aA (e,f)/\(h.length:Int)<=c/\fW h=true):=by
  delta nO iy
  rintro l p n-⟨hc,n0,n1⟩
  refine⟨hc,n0,n1,?_⟩
  rintro fs l2 p2 ⟨hc2,hl,hf⟩
  refine⟨⟨0,fs,⟨by omega,by omega,hl,hf,by simp⟩,(by repeat' first|exact trivial|refine⟨trivial,?_⟩|refine⟨(by with_reducible rfl),?_⟩|refine⟨af (by omega) (by omega),?_⟩|refine⟨rfl,?_⟩)⟩,?_⟩
  rintro i l ⟨i0,i1,hl,hf,hk⟩
  refine aG (fun h=>?_) (fun h=>?_)
  ·have h:=of_decide_eq_true h
   have hg:=hf _ (cy (xs:=l) i0 h)
   have hm:0<=gW (l.getD i.toNat default).2.1 6/\gW (l.getD i.toNat default).2.1 6<=5:=by
    unfold gW
    generalize (l.getD i.toNat default).2.1=x
    have h1 : -6<x.tmod 6/\x.tmod 6<6:=⟨by have:=Int.lt_tmod_of_pos x (show (0:Int)<6 by omega);omega,Int.tmod_lt_of_pos x (by omega)⟩
    rw[af (by omega) (by omega),Int.tmod_eq_emod_of_nonneg (by omega)]
    omega
   have hset:∀ f∈l.set i.toNat ((l.getD i.toNat default).1,gW (l.getD i.toNat default).2.1 6,(l.getD i.toNat default).2.2),f∈l∨f=((l.getD i.toNat default).1,gW (l.getD i.toNat default).2.1 6,(l.getD i.toNat default).2.2):=fun f hff=>List.mem_or_eq_of_mem_set hff
   refine⟨i0,h,by decide,i0,h,i+1,l.set i.toNat ((l.getD i.toNat default).1,gW (l.getD i.toNat default).2.1 6,(l.getD i.toNat default).2.2),⟨by omega,by rw[List.length_set];omega,by rw[List.length_set];exact hl,fun f hff=>?_,fun f hff=>?_⟩,by omega,(by repeat' first|exact trivial|refine⟨trivial,?_⟩|refine⟨(by with_reducible rfl),?_⟩|refine⟨af (by omega) (by omega),?_⟩|refine⟨rfl,?_⟩)⟩
   ·rcases hset f hff with q|q
    ·exact hf f q
    ·rw[q];exact hg
   ·rw[cG i0 (by rw[List.length_set];exact h),vE (by omega),List.take_set_of_le (Nat.le_refl _)] at hff
    rcases List.mem_append.1 hff with q|q
    ·exact hk f q
    ·rw[List.mem_singleton.1 q]
     exact decide_eq_true ⟨hm.1,Int.le_trans hm.2 (by decide),hg.1,Int.le_trans hg.2 (by decide)⟩
  ·have h:=of_decide_eq_false h
   rw[List.take_of_length_le (by omega)] at hk
   exact⟨hc2,hl,List.all_eq_true.2 hk⟩
theorem we:aL Try.prog GL 21 um.spec:=Cn.okH _ Try.func21 (by kernel_rfl) (aJ (aJ aV wt) wM) aH wy (aW (by kernel_rfl) zg)
def sQ:Ct:=⟨[],[.val .bool],fun _=>[],fun _=>((true,()),())⟩
def Af:aI sQ.ps->aO:=(fun _=>{})
theorem AY :
 True->True-> ∀(a:Int×Int×Int×List (List Int)×Int×List (List Int)×List (Int×List Int)×List (Int×Int×List Int)×List (Int×Int×List Int))(b:Int),a=fo (4:Int)/\b=db (4:Int)->(1:Nat)<=List.length [(120:Int)]/\XR a/\ ∀(c:Int×Int×Int×List (List Int)×Int×List (List Int)×List (Int×List Int)×List (Int×Int×List Int)×List (Int×Int×List Int))(d:Int),c=ft a [(120:Int)]/\d=da a [(120:Int)]->XR c/\ ∀(e:Int×Int×Int×List (List Int)×Int×List (List Int)×List (Int×List Int)×List (Int×Int×List Int)×List (Int×Int×List Int))(f:Int),e=fj c (2:Int)/\f=dk c (2:Int)-> ∀(g:Bool),g=decide (b=0)->(g->(g->g)/\True)/\(g->g)/\ ∀(h:Bool),(h=bif g then decide (d=0) else false)->(h->(h->h)/\True)/\(h->h)/\ ∀(i:Bool),(i=bif h then decide (f=0) else false)->(i->(i->i)/\True)/\(i->(i->i)/\True)/\(i->(i->i)/\True)/\(i->i)/\ ∀(j:Bool),(j=bif i then decide ((e.2.2.2.2.2.1.length:Int)=1) else
 false)->(j->(j->j)/\True)/\(j->(j->j)/\True)/\(j->j)/\ ∀(k:Bool),(k=bif j then decide (e.1=2) else false)->(k->(k->k)/\True)/\(k->(k->k)/\(0:Int)<=0/\0<(e.2.2.2.2.2.1.length:Int)/\True)/\(k->(k->k)/\True)/\(k->(k->k)/\True)/\(k->(k->k)/\True)/\(k->k)/\(bif k then decide (strOfNums (List.getD e.2.2.2.2.2.1 (Int.toNat (0:Int)) default)={data:= #[(120:UInt8)]}) else false)=true:=by
  rintro - -
  rintro c e ⟨hc,he⟩
  have hc:c=fc 4:=hc
  have he:e=0:=he
  subst hc he
  have x1:XR (fc 4):=XR.new (by omega) (by omega)
  refine⟨by decide,x1,?_⟩
  rintro c2 e2 ⟨hc2,he2⟩
  have hp:da (fc 4) [120]=0:=by decide
  have hc2:c2=gG (fc 4) [120]:=by rw[hc2];exact if_pos hp
  rw[hp] at he2
  subst hc2 he2
  have x2:XR (gG (fc 4) [120]):=x1.push (by decide) (by decide)
  refine⟨x2,?_⟩
  rintro c3 e3 ⟨hc3,he3⟩
  have hr:dk (gG (fc 4) [120]) 2=0:=by decide
  have hc3:c3=bi 2 (gG (fc 4) [120]):=by rw[hc3];exact if_pos hr
  rw[hr] at he3
  subst he3
  have hv:c3.2.2.2.2.2.1=[[120]]/\c3.1=2:=by
   rw[hc3]
   exact⟨by kernel_rfl,by kernel_rfl⟩
  obtain⟨v1,v2⟩:=hv
  rw[v1,v2]
  (repeat (intro (b_:Bool) (hb_:b_=_);(repeat refine⟨(by first|(simp;done)|(rw[hb_];simp;done)|(rw[hb_];simp;omega)|(rw[hb_];simp;intros;omega)|(rw[hb_];simp +contextual;done)),?_⟩);subst hb_))
  kernel_rfl
theorem yx:aL Try.prog GL 8 sQ.spec:=Ct.okH _ Try.func8 (by kernel_rfl) (aJ (aJ (aJ aV (Ct.named zu)) (Ct.named zj)) (Ct.named qS)) aH Af (aW (by kernel_rfl) AY)
def sf:Cn:=⟨[.box 58 fx],[.agg bA],fun d=>[aA d.1],fun d y=>aA y.2.1/\XR y.1.1/\ab y.1.1<=25,fun d h=>⟨((fc 1,()),(d.1,())),h.1,XR.new (by omega) (by omega),by show (0:Int)<=25;omega⟩⟩
def wm:aI sf.ps->aO:=(fun d=>{loops:=(fun n=>match n with|3=>some (fun S=>{ι:=Int×(List Int×Int)×aj,qn:=⟨fun k_=>∀(k:Int)(c:(List Int×Int))(b:aj),k_ (k,c,b),fun k_ h_ i=>h_ i.1 i.2.1 i.2.2,fun k_=>∃ (k:Int) (c:(List Int×Int)) (b:aj),k_ (k,c,b),fun k_ ⟨k,c,b,h_⟩=>⟨_,h_⟩⟩,μ:=fun i=>i.1.toNat,inv:=fun i=>0<=i.1/\aA i.2.1/\XR i.2.2/\ab i.2.2+i.1<=25/\(ag i.2.2).length+i.1<=25,keep:=[0,2],slots:=fun i=>[(3,.ptr 64 0),(5,.int .i64 i.1)],keepN:=[48],names:=fun i=>[(1048576,.live (.cells 58 (bt fx i.2.1))),(64,.live (.cells 28 (bt bA i.2.2)))]})|_=>none)})
theorem AF :
 ∀(a:List Int)(b:Int),((a.length<=maxLen/\ ∀(c:Int),c∈a->0<=c/\c<=255)/\ao b)/\True->0<=b/\b<=(a.length:Int)->aA (a,b)/\ ∀(c:Int)(d:List Int)(e:Int),0<=c/\(c<6∨c=0)/\aA (d,e)-> ∀(f:Int×Int×Int×List (List Int)×Int×List (List Int)×List (Int×List Int)×List (Int×Int×List Int)×List (Int×Int×List Int))(g:Int),f=fo (IntKind.wrap .i64 ((1:Int)+c))/\g=db (IntKind.wrap .i64 ((1:Int)+c))->aA (d,e)/\ ∀(h:Int)(i:List Int)(j:Int),0<=h/\(h<25∨h=0)/\aA (i,j)->(∃(k:Int) (l:List Int×Int),∃(m:aj),(0<=k/\aA l/\XR m/\ab m+k<=25/\((List.length (ag m)):Int)+k<=25)/\h=k/\(0:Int)=0/\(0:Int)=0/\(0:Int)=0/\(0:Int)=0/\i=l.1/\j=l.2/\f.1=m.1/\f.2.1=m.2.1/\f.2.2.1=m.2.2.1/\f.2.2.2.1=m.2.2.2.1/\f.2.2.2.2.1=m.2.2.2.2.1/\f.2.2.2.2.2.1=m.2.2.2.2.2.1/\f.2.2.2.2.2.2.1=m.2.2.2.2.2.2.1/\f.2.2.2.2.2.2.2.1=m.2.2.2.2.2.2.2.1/\f.2.2.2.2.2.2.2.2=m.2.2.2.2.2.2.2.2/\True)/\ ∀(k:Int)(l:List Int×Int)
 (m:aj),0<=k/\aA l/\XR m/\ab m+k<=25/\((List.length (ag m)):Int)+k<=25->av (decide (0<k)) (aA l/\ ∀(n:Int)(o:List Int)(p:Int),0<=n/\(n<2∨n=0)/\aA (o,p)->av (decide (n=0)) (aA (o,p)/\(0:Int)<=3/\(3:Int)<=1000/\ ∀(q r:List Int)(s:Int),aA (r,s)/\(q.length:Int)<=3-> ∀(t:Int×Int×Int×List (List Int)×Int×List (List Int)×List (Int×List Int)×List (Int×Int×List Int)×List (Int×Int×List Int))(u:Int),t=ft m q/\u=da m q-> ∃(v:Int) (w:List Int×Int),∃(x:aj),(0<=v/\aA w/\XR x/\ab x+v<=25/\((List.length (ag x)):Int)+v<=25)/\v.toNat<k.toNat/\IntKind.wrap .i64 (k -(1:Int))=v/\(0:Int)=0/\(0:Int)=0/\(0:Int)=0/\(0:Int)=0/\r=w.1/\s=w.2/\t.1=x.1/\t.2.1=x.2.1/\t.2.2.1=x.2.2.1/\t.2.2.2.1=x.2.2.2.1/\t.2.2.2.2.1=x.2.2.2.2.1/\t.2.2.2.2.2.1=x.2.2.2.2.2.1/\t.2.2.2.2.2.2.1=x.2.2.2.2.2.2.1/\t.2.2.2.2.2.2.2.1=x.2.2.2.2.2.2.2.1/\t.2.2.2.2.2.2.2.2=x.2.2.2.2.2.2.2.2/\True) (aA
 (o,p)/\(0:Int)<=4/\(4:Int)<=1000/\ ∀(q:List (Bool×Int×Int))(r:List Int)(s:Int),aA (r,s)/\(q.length:Int)<=4/\fW q=true->aA (r,s)/\(0:Int)<=2/\(2:Int)<=1000/\ ∀(t:List (Bool×Int×Int))(u:List Int)(v:Int),aA (u,v)/\(t.length:Int)<=2/\fW t=true->XR m/\(q.length:Int)<=1000000/\(t.length:Int)<=1000000/\ ∀(w:Int×Int×Int×List (List Int)×Int×List (List Int)×List (Int×List Int)×List (Int×Int×List Int)×List (Int×Int×List Int))(x:Int),w=hV m q t/\x=eJ m q t-> ∃(y:Int) (z:List Int×Int),∃(A:aj),(0<=y/\aA z/\XR A/\ab A+y<=25/\((List.length (ag A)):Int)+y<=25)/\y.toNat<k.toNat/\IntKind.wrap .i64 (k
 -(1:Int))=y/\(0:Int)=0/\(0:Int)=0/\(0:Int)=0/\(0:Int)=0/\u=z.1/\v=z.2/\w.1=A.1/\w.2.1=A.2.1/\w.2.2.1=A.2.2.1/\w.2.2.2.1=A.2.2.2.1/\w.2.2.2.2.1=A.2.2.2.2.1/\w.2.2.2.2.2.1=A.2.2.2.2.2.1/\w.2.2.2.2.2.2.1=A.2.2.2.2.2.2.1/\w.2.2.2.2.2.2.2.1=A.2.2.2.2.2.2.2.1/\w.2.2.2.2.2.2.2.2=A.2.2.2.2.2.2.2.2/\True)) (aA l/\XR m/\ab m<=25):=by
  rintro l p-hc
  refine⟨hc,?_⟩
  rintro a l2 p2 ⟨a0,a1,hc2⟩
  rw[af (n:=1+a) (by omega) (by omega)]
  rintro c e ⟨hcc,-⟩
  have hw:db (1+a)=0:=if_neg (by omega)
  have hcc:c=fc (1+a):=by rw[hcc];exact if_pos hw
  subst hcc
  refine⟨hc2,?_⟩
  rintro k l3 p3 ⟨k0,k1,hc3⟩
  refine⟨⟨k,(l3,p3),fc (1+a),⟨k0,hc3,XR.new (by omega) (by omega),by show (0:Int)+k<=25;omega,by show (0:Int)+k<=25;omega⟩,(by repeat' first|exact trivial|refine⟨trivial,?_⟩|refine⟨(by with_reducible rfl),?_⟩|refine⟨af (by omega) (by omega),?_⟩|refine⟨rfl,?_⟩)⟩,?_⟩
  rintro k c b ⟨k0,hc,hx,hn,hl⟩
  refine aG (fun h=>⟨hc,?_⟩) (fun h=>⟨hc,hx,by omega⟩)
  have h:=of_decide_eq_true h
  rintro x l4 p4 ⟨-,-,hc4⟩
  refine aG (fun _=>⟨hc4,by omega,by omega,?_⟩) (fun _=>⟨hc4,by omega,by omega,?_⟩)
  ·rintro it l5 p5 ⟨hc5,hi⟩
   rintro d e ⟨hd,-⟩
   have hp:da b it=0:=if_neg (by omega)
   have hd:d=gG b it:=by rw[hd];exact if_pos hp
   subst hd
   refine⟨k-1,(l5,p5),gG b it,⟨by omega,hc5,hx.push (by omega) (by omega),by show ab b+(k-1)<=25;omega,?_⟩,by omega,(by repeat' first|exact trivial|refine⟨trivial,?_⟩|refine⟨(by with_reducible rfl),?_⟩|refine⟨af (by omega) (by omega),?_⟩|refine⟨rfl,?_⟩)⟩
   show ((ag b++[it]).length:Int)+(k-1)<=25
   rw[List.length_append,List.length_singleton];omega
  ·rintro ds l5 p5 ⟨hc5,hdl,hd⟩
   refine⟨hc5,by omega,by omega,?_⟩
   rintro us l6 p6 ⟨hc6,hul,hu⟩
   refine⟨hx,by omega,by omega,?_⟩
   rintro d e ⟨hdd,-⟩
   have ht:eJ b ds us=0:=by
    unfold eJ
    rw[hd,hu,if_neg (by decide),if_neg (by omega)]
   have hdd:d=a9 b ds us:=by rw[hdd];exact if_pos ht
   subst hdd
   exact⟨k-1,(l6,p6),a9 b ds us,⟨by omega,hc6,hx.tick (mi.1 hd) (mi.1 hu),by show ab b+1+(k-1)<=25;omega,by show ((ag b).length:Int)+(k-1)<=25;omega⟩,by omega,(by repeat' first|exact trivial|refine⟨trivial,?_⟩|refine⟨(by with_reducible rfl),?_⟩|refine⟨af (by omega) (by omega),?_⟩|refine⟨rfl,?_⟩)⟩
theorem wL:aL Try.prog GL 9 sf.spec:=Cn.okH _ Try.func9 (by kernel_rfl) (aJ (aJ (aJ (aJ (aJ (aJ aV mh) (Ct.named BM)) xo) (Ct.named yb)) we) (Ct.named wA)) aH wm (aW (by kernel_rfl) AF)
def uJ:Ct:=li [(false,.sl aZ),(false,aZ),(false,aZ)]
def Bj:aI uJ.ps->aO:=(fun _=>{})
def o7(b c:Int) :=
 IntKind.wrap .i64 (Int.tmod (IntKind.wrap .i64 b) (30:Int)+Int.tmod (IntKind.wrap .i64 c) (30:Int))
theorem yn :
 ∀(a:List Int)(b c:Int),(iy a)/\(0<=b/\b<=255)/\(0<=c/\c<=255)/\True->True->(0:Int)<=400/\ ∀(d:List Int)(e:Int),(d,e)=(if (a.length:Int)<=400 then a else List.take (Int.toNat (400:Int)) a,(0:Int))->aA (d,e)/\ ∀(f:Int×Int×Int×List (List Int)×Int×List (List Int)×List (Int×List Int)×List (Int×Int×List Int)×List (Int×Int×List Int))(g:List Int)(h:Int),aA (g,h)/\XR f/\ab f<=25->(30:Int)≠(0:Int)/\(30:Int)≠(0:Int)/\XR f/\ ∀(i:Int×Int×Int×List (List Int)×Int×List (List Int)×List (Int×List Int)×List (Int×Int×List Int)×List (Int×Int×List Int))(j:Int),i=fj f (Int.tmod (IntKind.wrap .i64 b) (30:Int))/\j=dk f (Int.tmod (IntKind.wrap .i64 b) (30:Int))->XR i/\ ∀(k:Int×Int×Int×List (List Int)×Int×List (List Int)×List (Int×List Int)×List (Int×Int×List Int)×List (Int×Int×List Int))(l:Int),k=fj i (Int.tmod (IntKind.wrap .i64 c) (30:Int))/\l=dk i (Int.tmod (IntKind.wrap .i64 c)
 (30:Int))->XR f/\ ∀(m:Int×Int×Int×List (List Int)×Int×List (List Int)×List (Int×List Int)×List (Int×Int×List Int)×List (Int×Int×List Int))(n:Int),m=fj f (o7 b c)/\n=dk f (o7 b c)-> ∀(o:Bool),o=decide (j=0)->(o->(o->o)/\True)/\(o->o)/\ ∀(p:Bool),(p=bif o then decide (l=0) else false)->(p->(p->p)/\True)/\(p->p)/\ ∀(q:Bool),(q=bif p then decide (n=0) else false)->(q->(q->q)/\(q->q)/\True)/\(q->q)/\(bif q then gS k m else false)=true:=by
  delta o7 iy
  rintro l a b ⟨-,⟨a0,a1⟩,⟨b0,b1⟩,-⟩ -
  refine⟨by omega,?_⟩
  rintro l2 p2 hl
  have hc:aA (l2,p2):=by
   rw[hl];exact⟨Int.le_refl _,by simp⟩
  refine⟨hc,?_⟩
  rintro x l3 p3 ⟨-,hx,hn⟩
  rw[af (n:=a) (by omega) (by omega),af (n:=b) (by omega) (by omega),Int.tmod_eq_emod_of_nonneg a0,Int.tmod_eq_emod_of_nonneg b0,af (n:=a%30+b%30) (by omega) (by omega)]
  generalize hm:a%30=m
  generalize hk:b%30=n
  have n0:=hx.1.now
  have hr:∀(c:aj)(k:Int),ab c<=1000->0<=k->k<=100->dk c k=0:=fun c k h h0 h1=>by
   unfold dk
   rw[if_neg (by omega),if_neg (by omega)]
  have hR:∀(c:aj)(k:Int),ab c<=1000->0<=k->k<=100->fj c k=bi k.toNat c:=fun c k h h0 h1=>if_pos (hr c k h h0 h1)
  refine⟨by omega,by omega,hx,?_⟩
  rintro y e ⟨hy,he⟩
  rw[hR _ _ (by omega) (by omega) (by omega)] at hy
  rw[hr _ _ (by omega) (by omega) (by omega)] at he
  obtain⟨-,hyn,-⟩:=hx.1.runs m.toNat
  have hyx:=hx.runs m.toNat
  rw[← hy] at hyn hyx
  refine⟨hyx,?_⟩
  rintro z f ⟨hz,hf⟩
  rw[hR _ _ (by omega) (by omega) (by omega)] at hz
  rw[hr _ _ (by omega) (by omega) (by omega)] at hf
  refine⟨hx,?_⟩
  rintro w g ⟨hw,hg⟩
  rw[hR _ _ (by omega) (by omega) (by omega)] at hw
  rw[hr _ _ (by omega) (by omega) (by omega)] at hg
  subst he hf hg
  (repeat (intro (b_:Bool) (hb_:b_=_);(repeat refine⟨(by first|(simp;done)|(rw[hb_];simp;done)|(rw[hb_];simp;omega)|(rw[hb_];simp;intros;omega)|(rw[hb_];simp +contextual;done)),?_⟩);subst hb_))
  have:gS z w=true:=ou.2 (by rw[hz,hw,hy,oV,show (m+n).toNat=m.toNat+n.toNat by omega])
  rw[this];rfl
theorem ok_law21_ExchangeParts:aL Try.prog GL 3 uJ.spec:=Ct.okH _ Try.func3 (by kernel_rfl) (aJ (aJ (aJ (aJ (aJ aV yx) (Ct.named ye)) wL) (Ct.named qS)) zT) aH Bj (aW (by kernel_rfl) yn)
end Go.RS
