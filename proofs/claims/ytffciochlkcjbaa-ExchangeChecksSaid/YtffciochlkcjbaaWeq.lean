/- Xref: the document's exchange. -/
import Derived.Test.YtffciochlkcjbaaXw4
import Derived.Test.YtffciochlkcjbaaXw1
namespace Go.RS
open Go.SX Go.Proofs
set_option maxRecDepth 100000
set_option linter.unusedVariables false
def tr:Ct:=⟨[.val cI],[.agg aS,.val cI],fun _=>[],fun d=>((fW d.1,dG d.1,()),())⟩
def Dj:aC tr.ps->aN:=(fun _=>{})
def jm :=
 ([]:List (Int×Int×List Int))
def nz :=
 ((0:Int),(0:Int),(0:Int),([]:List (List Int)),(0:Int),([]:List (List Int)),([]:List (Int×List Int)),(jm),(jm))
theorem zY :
 ∀(a:Int),ao a/\True->True-> ∀(b:Bool),b=decide (a<1)->((! b)->((! b)->(! b))/\True)/\(b=false->(! b))/\ah (bif b then true else decide (64<a)) ((nz)=fW a/\(1:Int)=dG a) (((0:Int),(0:Int),a,([]:List (List Int)),(0:Int),([]:List (List Int)),([]:List (Int×List Int)),(jm),(jm))=fW a/\(0:Int)=dG a):=by
  delta nz jm
  rintro w - -
  (repeat (intro (b_:Bool) (hb_:b_=_);(repeat refine⟨(by first|(simp;done)|(rw[hb_];simp;done)|(rw[hb_];simp;omega)|(rw[hb_];simp;intros;omega)|(rw[hb_];simp +contextual;done)),?_⟩);subst hb_))
  refine lg (fun h=>?_) (fun h1 h2=>?_)
  ·have e:dG w=1:=by unfold dG;rw[if_pos (by rcases h with q|q;exact .inl (of_decide_eq_true q);exact .inr (of_decide_eq_true q))]
   unfold fW
   rw[e]
   exact⟨rfl,rfl⟩
  ·have h1:=of_decide_eq_false h1
   have h2:=of_decide_eq_false h2
   have e:dG w=0:=by unfold dG;rw[if_neg (by omega)]
   unfold fW
   rw[e]
   exact⟨rfl,rfl⟩
theorem EF:aG Try.prog GL 25 tr.spec:=Ct.okH _ Try.func25 (by kernel_rfl) aP aD Dj (aQ (by kernel_rfl) zY)
def uA:Ct:=⟨[.agg fe],[.val .bool],fun _=>[],fun d=>((c9 d.1,()),())⟩
def yV:aC uA.ps->aN:=(fun _=>{})
theorem BG :
 ∀(a:Bool)(b c:Int),(True/\ao b/\ao c)/\True->True-> ∀(d:Bool),d=decide (0<=b)->(d->(d->d)/\True)/\(d->(d->d)/\True)/\(d->d)/\ ∀(e:Bool),(e=bif d then decide (b<=1000) else false)->(e->(e->e)/\True)/\(e->(e->e)/\True)/\(e->e)/\ ∀(f:Bool),(f=bif e then decide (0<=c) else false)->(f->(f->f)/\True)/\(f->(f->f)/\True)/\(f->f)/\(bif f then decide (c<=8) else false)=c9 (a,b,c):=by
  rintro a b c - -
  (repeat (intro (b_:Bool) (hb_:b_=_);(repeat refine⟨(by first|(simp;done)|(rw[hb_];simp;done)|(rw[hb_];simp;omega)|(rw[hb_];simp;intros;omega)|(rw[hb_];simp +contextual;done)),?_⟩);subst hb_))
  unfold c9
  rw[om,om,om]
  exact decide_eq_decide.2 ⟨fun h=>⟨h.1.1.1,h.1.1.2,h.1.2,h.2⟩,fun h=>⟨⟨⟨h.1,h.2.1⟩,h.2.2.1⟩,h.2.2.2⟩⟩
theorem Dh:aG Try.prog GL 44 uA.spec:=Ct.okH _ Try.func44 (by kernel_rfl) aP aD yV (aQ (by kernel_rfl) BG)
def t5:Ct:=⟨[.val (.sl fe),.val cI],[.agg fe],fun d=>[0<=d.2.1],fun d=>((bi d.1 d.2.1.toNat,()),())⟩
def BR:aC t5.ps->aN:=(fun _=>{})
theorem yp :
 ∀(a:List (Bool×Int×Int))(b:Int),(a.length<=maxLen/\ ∀(c:Bool×Int×Int),c∈a->True/\ao c.2.1/\ao c.2.2)/\ao b/\True->0<=b->ah (decide (b<(a.length:Int))) (0<=b/\b<(a.length:Int)/\a.getD b.toNat default=bi a b.toNat) ((false,(0:Int),(0:Int))=bi a b.toNat):=by
  rintro l i-h0
  refine aq (fun h=>?_) (fun h=>?_)
  ·have h:=of_decide_eq_true h
   refine⟨h0,h,?_⟩
   unfold bi
   rw[List.getD_eq_getElem?_getD,List.getD_eq_getElem?_getD,List.getElem?_eq_getElem (by omega)]
   rfl
  ·have h:=of_decide_eq_false h
   unfold bi
   rw[List.getD_eq_getElem?_getD,List.getElem?_eq_none (by omega)]
   rfl
theorem Bx:aG Try.prog GL 48 t5.spec:=Ct.okH _ Try.func48 (by kernel_rfl) aP aD BR (aQ (by kernel_rfl) yp)
theorem rb{b:List Int}{n:Int}(h:0<=n/\n<=65535):eC b n 2=b++ch n 2 2:=by
 have e:(256:Int)^Int.toNat 2=65536:=by decide
 unfold eC
 rw[if_neg]
 ·rfl
 ·unfold ik;rw[e];omega
def wa:Ct:=⟨[.agg aS,.val cI],[.own 5 aV],fun d=>[0<=d.2.1,d.2.1<=65535,d.2.1<d.1.2.2.2.1.length,(d.1.2.2.2.1.getD d.2.1.toNat default).length<=1048576],fun d=>((bF d.2.1 (d.1.2.2.2.1.getD d.2.1.toNat default),()),())⟩
def zE:aC wa.ps->aN:=(fun _=>{})
def ga :=
 (140737488355328:Nat)
theorem AW :
 ∀(a:Int×Int×Int×List (List Int)×Int×List (List Int)×List (Int×List Int)×List (Int×Int×List Int)×List (Int×Int×List Int))(b:Int),CT.wf aS a/\ao b/\True->0<=b/\b<=65535/\b<(a.2.2.2.1.length:Int)/\List.length (List.getD a.2.2.2.1 b.toNat default)<=(1048576:Nat)->(1:Nat)<=List.length [(68:Int)]/\((List.length [(68:Int)]):Int)<=1099511627776/\0<=b/\b<(a.2.2.2.1.length:Int)/\(List.length (eC [(68:Int)] b (2:Int))+List.length (List.getD a.2.2.2.1 b.toNat default))*(1:Nat)<=(ga)/\eC [(68:Int)] b (2:Int)++List.getD a.2.2.2.1 b.toNat default=bF b (List.getD a.2.2.2.1 b.toNat default):=by
  delta ga
  rintro c i-⟨h0,h1,h2,h3⟩
  rw[rb ⟨h0,h1⟩]
  refine⟨by simp,by simp,h0,h2,?_,?_⟩
  ·rw[List.length_append,jY];simp only[List.length_singleton];omega
  ·unfold bF;rw[List.append_assoc];rfl
theorem tV:aG Try.prog GL 50 wa.spec:=Ct.okH _ Try.func50 (by kernel_rfl) (ay aP wZ) aD zE (aQ (by kernel_rfl) AW)
def uV:Ct:=⟨[.agg aS,.val (.sl aV)],[.agg aS,.val cI],fun d=>[],fun d=>((fV d.1 d.2.1,dD d.1 d.2.1,()),())⟩
def yR:aC uV.ps->aN:=(fun _=>{})
theorem CR :
 ∀(a:Int×Int×Int×List (List Int)×Int×List (List Int)×List (Int×List Int)×List (Int×Int×List Int)×List (Int×Int×List Int))(b:List Int),CT.wf aS a/\(b.length<=maxLen/\ ∀(c:Int),c∈b->0<=c/\c<=255)/\True->True-> ∀(c:Bool),c=decide (1024<=(a.2.2.2.1.length:Int))->((! c)->((! c)->(! c))/\True)/\((! c)->((! c)->(! c))/\True)/\(c=false->(! c))/\ah (bif c then true else decide (6000<(b.length:Int))) ((nz)=fV a b/\(5:Int)=dD a b) (a.2.2.2.1.length*(24:Nat)<=(ga)/\b.length*(1:Nat)<=(ga)/\(a.2.2.2.1.length+List.length [b])*(24:Nat)<=(ga)/\(a.1,a.2.1,a.2.2.1,a.2.2.2.1++[b],a.2.2.2.2)=fV a b/\(0:Int)=dD a b):=by
  delta nz ga jm
  rintro c b ⟨⟨-,-,-,⟨hl,-⟩,-⟩,⟨hb,-⟩,-⟩ -
  (repeat (intro (b_:Bool) (hb_:b_=_);(repeat refine⟨(by first|(simp;done)|(rw[hb_];simp;done)|(rw[hb_];simp;omega)|(rw[hb_];simp;intros;omega)|(rw[hb_];simp +contextual;done)),?_⟩);subst hb_))
  refine lg (fun h=>?_) (fun h1 h2=>?_)
  ·have e:dD c b=5:=by
    unfold dD
    refine if_pos ?_
    rcases h with q|q
    ·have:=of_decide_eq_true q
     exact .inl (by show 1024<=c.2.2.2.1.length;omega)
    ·exact .inr (of_decide_eq_true q)
   unfold fV
   rw[e]
   exact⟨rfl,rfl⟩
  ·have h1:=of_decide_eq_false h1
   have h2:=of_decide_eq_false h2
   have e:dD c b=0:=by
    unfold dD
    refine if_neg ?_
    rintro (q|q)
    ·have q:1024<=c.2.2.2.1.length:=q
     omega
    ·omega
   unfold fV
   rw[e]
   refine⟨by omega,by omega,by simp only[List.length_singleton];omega,?_,rfl⟩
   rfl
theorem Ak:aG Try.prog GL 27 uV.spec:=Ct.okH _ Try.func27 (by kernel_rfl) aP aD yR (aQ (by kernel_rfl) CR)
def qx(c:aj)(o:Int):aj:=(c.1,o,c.2.2)
theorem rk{α:Type}{p:α->Bool}:∀{l:List α},(∃ y∈l,p y=false)→∀ m,(l++m).takeWhile p=l.takeWhile p/\(l++m).dropWhile p=l.dropWhile p++m
 | [],h,m=>by obtain⟨y,hy,-⟩:=h;cases hy
 | a::l,h,m=>by
  cases ha:p a with
  | false =>
   rw[List.cons_append,List.takeWhile_cons_of_neg (by simp[ha]),List.takeWhile_cons_of_neg (by simp[ha]),List.dropWhile_cons_of_neg (by simp[ha]),List.dropWhile_cons_of_neg (by simp[ha])]
   exact⟨rfl,rfl⟩
  | true =>
   obtain⟨y,hy,q⟩:=h
   have hy:y∈l:=by
    rcases List.mem_cons.1 hy with rfl|hy
    ·rw[ha] at q;cases q
    ·exact hy
   obtain⟨a1,a2⟩:=rk ⟨y,hy,q⟩ m
   rw[List.cons_append,List.takeWhile_cons_of_pos (by simp[ha]),List.takeWhile_cons_of_pos (by simp[ha]),List.dropWhile_cons_of_pos (by simp[ha]),List.dropWhile_cons_of_pos (by simp[ha]),a1,a2]
   exact⟨rfl,rfl⟩
theorem EH{l:List af}{t x:af}(h:∃ y∈l,t.1<y.1):bX (l++[x]) t=bX l t++[x]:=by
 obtain⟨y,hy,q⟩:=h
 obtain⟨a,b⟩:=rk (p:=fun x:af=>decide (x.1<=t.1)) ⟨y,hy,decide_eq_false (by omega)⟩ [x]
 unfold bX
 rw[a,b]
 simp
theorem z7{l:List af}{t x:af}(h:∀ y∈l,y.1<=t.1)(hx:t.1<x.1):bX (l++[x]) t=l++[t]++[x]:=by
 obtain⟨a,b⟩:=oS h [x]
 have n1:¬ x.1<=t.1:=by omega
 have a2:am t.1 [x]=[]:=List.takeWhile_cons_of_neg (by simpa using n1)
 have b2:aX t.1 [x]=[x]:=List.dropWhile_cons_of_neg (by simpa using n1)
 unfold bX
 show am t.1 (l++[x])++t::aX t.1 (l++[x])=_
 rw[a,b,a2,b2]
 simp
def wE:Ct:=⟨[.agg aS,.val (.sl a9),.val (.sl aV),.agg fe],[.agg aS,.val (.sl a9)],fun d=>[(d.2.1.length:Int)<=1000000,0<=d.1.1,d.1.1<=1125899906842624,0<=d.1.2.1,d.1.2.1<=1125899906842624,fZ d.2.2.2.1],fun d=>((qx d.1 (bg d.1.1 d.2.2.1 d.2.2.2.1 (d.1.2.1,d.2.1)).1,(bg d.1.1 d.2.2.1 d.2.2.2.1 (d.1.2.1,d.2.1)).2,()),())⟩
def Ae:aC wE.ps->aN:=(fun d=>{loops:=(fun n=>match n with|2=>some (fun S=>{ι:=Int×Int×(List af),qn:=⟨fun k_=>∀(k:Int)(o:Int)(l:(List af)),k_ (k,o,l),fun k_ h_ i=>h_ i.1 i.2.1 i.2.2,fun k_=>∃ (k:Int) (o:Int) (l:(List af)),k_ (k,o,l),fun k_ ⟨k,o,l,h_⟩=>⟨_,h_⟩⟩,μ:=fun i=>(d.2.2.2.1.2.2+1-i.1).toNat,inv:=fun i=>0<=i.1/\i.1<=d.2.2.2.1.2.2+1/\(d.2.2.2.1.1=true->i.1=0/\i.2.2=d.2.1)/\(i.2.2.length:Int)<=1000000+i.1/\i.2.1=d.1.2.1+i.1/\bA d.1.1 d.2.2.2.1.2.1 d.2.2.1 (d.2.2.2.1.2.2+1-i.1).toNat i.1 (i.2.1,i.2.2)=bA d.1.1 d.2.2.2.1.2.1 d.2.2.1 (d.2.2.2.1.2.2+1).toNat 0 (d.1.2.1,d.2.1),keep:=[2,4,7,8,9],slots:=fun i=>[(1,.dsl a9 i.2.2),(10,.int .i64 i.1)],keepN:=[128,144],names:=fun i=>[(80,.live (.cells 28 (bu aS (qx d.1 i.2.1))))]})|9=>some (fun S=>{ι:=Int×(List af)×Bool,qn:=⟨fun k_=>∀(i:Int)(out:(List af))(dn:Bool),k_ (i,out,dn),fun k_ h_ i=>h_ i.1 i.2.1 i.2.2,fun k_=>∃ (i:Int) (out:(List af)) (dn:Bool),k_ (i,out,dn),fun k_ ⟨i,out,dn,h_⟩=>⟨_,h_⟩⟩,μ:=fun i=>((S.l a9 1).length-i.1).toNat,inv:=fun i=>0<=i.1/\i.1<=(S.l a9 1).length/\(i.2.2=false->i.2.1=(S.l a9 1).take i.1.toNat∧∀ x∈(S.l a9 1).take i.1.toNat,x.1<=(S.c a9 192).1)/\(i.2.2=true->i.2.1=bX ((S.l a9 1).take i.1.toNat) (S.c a9 192)∧∃ x∈(S.l a9 1).take i.1.toNat,(S.c a9 192).1<x.1),keep:=[1,2,4,7,8,9,10,11],slots:=fun i=>[(12,.own 524288 3),(13,.bool i.2.2),(14,.int .i64 i.1)],keepN:=[80,128,144,192],names:=fun i=>[(524288,.live (.row 53 a9 i.2.1))]})|_=>none)})
def cZ(a:Int×Int×Int×List (List Int)×Int×List (List Int)×List (Int×List Int)×List (Int×Int×List Int)×List (Int×Int×List Int))(e g:Int) :=
 IntKind.wrap .i64 (IntKind.wrap .i64 (a.1+(1:Int))+e)+g
def mO(a:Int×Int×Int×List (List Int)×Int×List (List Int)×List (Int×List Int)×List (Int×Int×List Int)×List (Int×Int×List Int)) :=
 a.2.2.1=a.2.2.1/\a.2.2.2.1=a.2.2.2.1/\a.2.2.2.2.1=a.2.2.2.2.1/\a.2.2.2.2.2.1=a.2.2.2.2.2.1/\a.2.2.2.2.2.2.1=a.2.2.2.2.2.2.1/\a.2.2.2.2.2.2.2.1=a.2.2.2.2.2.2.2.1/\a.2.2.2.2.2.2.2.2=a.2.2.2.2.2.2.2.2/\True
def pX(a:Int×Int×Int×List (List Int)×Int×List (List Int)×List (Int×List Int)×List (Int×Int×List Int)×List (Int×Int×List Int))(c:List Int)(e g h:Int)(i:List af)(p:Int)(q:List af)(r:Bool) :=
 0<=p/\p<=(i.length:Int)/\(r=false->q=List.take p.toNat i/\ ∀(s:Int×Int×List Int),s∈List.take p.toNat i->s.1<=IntKind.wrap .i64 (cZ a e g))/\(r=true->q=bX (List.take p.toNat i) (IntKind.wrap .i64 (cZ a e g),h,c)/\ ∃(s:Int×Int×List Int),s∈List.take p.toNat i/\IntKind.wrap .i64 (cZ a e g)<s.1)
theorem DW :
 ∀(a:Int×Int×Int×List (List Int)×Int×List (List Int)×List (Int×List Int)×List (Int×Int×List Int)×List (Int×Int×List Int))(b:List (Int×Int×List Int))(c:List Int)(d:Bool)(e f:Int),CT.wf aS a/\(b.length<=maxLen/\ ∀(g:Int×Int×List Int),g∈b->ao g.1/\ao g.2.1/\g.2.2.length<=maxLen/\ ∀(h:Int),h∈g.2.2->0<=h/\h<=255)/\(c.length<=maxLen/\ ∀(g:Int),g∈c->0<=g/\g<=255)/\(True/\ao e/\ao f)/\True->(b.length:Int)<=1000000/\0<=a.1/\a.1<=1125899906842624/\0<=a.2.1/\a.2.1<=1125899906842624/\(0<=e/\e<=1000)/\0<=f/\f<=8->(∃(g:Int) (h:Int),∃(i:List af),(0<=g/\g<=f+(1:Int)/\(d=true->g=0/\i=b)/\(i.length:Int)<=1000000+g/\h=a.2.1+g/\bA a.1 e c (Int.toNat (f+(1:Int) -g)) g (h,i)=bA a.1 e c (Int.toNat (f+(1:Int))) (0:Int) (a.2.1,b))/\b=i/\c=c/\(0:Int)=g/\d=d/\e=e/\f=f/\(0:Int)=0/\(0:Int)=0/\(0:Int)=0/\(0:Int)=0/\a.1=a.1/\a.2.1=h/\(mO a))/\ ∀(g h:Int) (i:List
 af),0<=g/\g<=f+(1:Int)/\(d=true->g=0/\i=b)/\(i.length:Int)<=1000000+g/\h=a.2.1+g/\bA a.1 e c (Int.toNat (f+(1:Int) -g)) g (h,i)=bA a.1 e c (Int.toNat (f+(1:Int))) (0:Int) (a.2.1,b)-> ∀(j:Bool),j=decide (g<=f)->(j->(j->j)/\True)/\(j->(j->j)/\True)/\(j->j)/\ ∀(k:Bool),(k=bif j then ! d else false)->(k->(k->k)/\True)/\(k->(k->k)/\True)/\(k->k)/\ah (bif k then decide ((i.length:Int)<4096) else false) ((∃(l:Int) (m:List af),∃(n:Bool),(0<=l/\l<=(i.length:Int)/\(n=false->m=List.take l.toNat i/\ ∀(o:Int×Int×List Int),o∈List.take l.toNat i->o.1<=IntKind.wrap .i64 (cZ a e g))/\(n=true->m=bX (List.take l.toNat i) (IntKind.wrap .i64 (cZ a e g),h,c)/\ ∃(o:Int×Int×List Int),o∈List.take l.toNat i/\IntKind.wrap .i64 (cZ a e g)<o.1))/\i=i/\c=c/\g=g/\false=n/\(0:Int)=l/\a.1=a.1/\IntKind.wrap .i64 (h+(1:Int))=IntKind.wrap .i64
 (h+(1:Int))/\a.2.2.1=a.2.2.1/\a.2.2.2.1=a.2.2.2.1/\a.2.2.2.2.1=a.2.2.2.2.1/\a.2.2.2.2.2.1=a.2.2.2.2.2.1/\a.2.2.2.2.2.2.1=a.2.2.2.2.2.2.1/\a.2.2.2.2.2.2.2.1=a.2.2.2.2.2.2.2.1/\a.2.2.2.2.2.2.2.2=a.2.2.2.2.2.2.2.2/\d=d/\e=e/\f=f/\(0:Int)=0/\(0:Int)=0/\(0:Int)=0/\(0:Int)=0/\IntKind.wrap .i64 (cZ a e g)=IntKind.wrap .i64 (cZ a e g)/\h=h/\c=c/\m=(jm)/\True)/\ ∀(l:Int)(m:List af)(n:Bool),0<=l/\l<=(i.length:Int)/\(n=false->m=List.take l.toNat i/\ ∀(o:Int×Int×List Int),o∈List.take l.toNat i->o.1<=IntKind.wrap .i64 (cZ a e g))/\(n=true->m=bX (List.take l.toNat i) (IntKind.wrap .i64 (cZ a e g),h,c)/\ ∃(o:Int×Int×List Int),o∈List.take l.toNat i/\IntKind.wrap .i64 (cZ a e g)<o.1)->ah (decide (l<(i.length:Int))) (∀(o:Bool),o= ! n->(o->(o->o)/\(o->o)/\0<=l/\l<(i.length:Int)/\True)/\(o->(o->o)/\True)/\(o->(o->o)/\True)/\(o->(o->o)/\True)/\(o->(o->o)/\(o->o)/\True)/\(o->o)/\ah (bif
 o then decide (IntKind.wrap .i64 (cZ a e g)<(i.getD l.toNat default).1) else false) ((m.length+List.length [(IntKind.wrap .i64 (cZ a e g),h,c)])*(40:Nat)<=(ga)/\0<=l/\l<(i.length:Int)/\(List.length (m++[(IntKind.wrap .i64 (cZ a e g),h,c)])+List.length [i.getD l.toNat default])*(40:Nat)<=(ga)/\ ∃(p:Int) (q:List af),∃(r:Bool),(pX a c e g h i p q r)/\Int.toNat ((i.length:Int) -p)<Int.toNat ((i.length:Int) -l)/\i=i/\c=c/\g=g/\true=r/\IntKind.wrap .i64 (l+(1:Int))=p/\a.1=a.1/\IntKind.wrap .i64 (h+(1:Int))=IntKind.wrap .i64 (h+(1:Int))/\a.2.2.1=a.2.2.1/\a.2.2.2.1=a.2.2.2.1/\a.2.2.2.2.1=a.2.2.2.2.1/\a.2.2.2.2.2.1=a.2.2.2.2.2.1/\a.2.2.2.2.2.2.1=a.2.2.2.2.2.2.1/\a.2.2.2.2.2.2.2.1=a.2.2.2.2.2.2.2.1/\a.2.2.2.2.2.2.2.2=a.2.2.2.2.2.2.2.2/\d=d/\e=e/\f=f/\(0:Int)=0/\(0:Int)=0/\(0:Int)=0/\(0:Int)=0/\IntKind.wrap .i64 (cZ a e g)=IntKind.wrap .i64 (cZ a e
 g)/\h=h/\c=c/\m++[(IntKind.wrap .i64 (cZ a e g),h,c)]++[i.getD l.toNat default]=q/\True) (0<=l/\l<(i.length:Int)/\(m.length+List.length [i.getD l.toNat default])*(40:Nat)<=(ga)/\ ∃(p:Int) (q:List af),∃(r:Bool),(pX a c e g h i p q r)/\Int.toNat ((i.length:Int) -p)<Int.toNat ((i.length:Int) -l)/\i=i/\c=c/\g=g/\n=r/\IntKind.wrap .i64 (l+(1:Int))=p/\a.1=a.1/\IntKind.wrap .i64 (h+(1:Int))=IntKind.wrap .i64 (h+(1:Int))/\a.2.2.1=a.2.2.1/\a.2.2.2.1=a.2.2.2.1/\a.2.2.2.2.1=a.2.2.2.2.1/\a.2.2.2.2.2.1=a.2.2.2.2.2.1/\a.2.2.2.2.2.2.1=a.2.2.2.2.2.2.1/\a.2.2.2.2.2.2.2.1=a.2.2.2.2.2.2.2.1/\a.2.2.2.2.2.2.2.2=a.2.2.2.2.2.2.2.2/\d=d/\e=e/\f=f/\(0:Int)=0/\(0:Int)=0/\(0:Int)=0/\(0:Int)=0/\IntKind.wrap .i64 (cZ a e g)=IntKind.wrap .i64 (cZ a e g)/\h=h/\c=c/\m++[i.getD l.toNat default]=q/\True)) (ah (! n) ((m.length+List.length [(IntKind.wrap .i64 (cZ a e g),h,c)])*(40:Nat)<=(ga)/\ ∃(o:Int)
 (p:Int),∃(q:List af),(0<=o/\o<=f+(1:Int)/\(d=true->o=0/\q=b)/\(q.length:Int)<=1000000+o/\p=a.2.1+o/\bA a.1 e c (Int.toNat (f+(1:Int) -o)) o (p,q)=bA a.1 e c (Int.toNat (f+(1:Int))) (0:Int) (a.2.1,b))/\Int.toNat (f+(1:Int) -o)<Int.toNat (f+(1:Int) -g)/\m++[(IntKind.wrap .i64 (cZ a e g),h,c)]=q/\c=c/\IntKind.wrap .i64 (g+(1:Int))=o/\d=d/\e=e/\f=f/\(0:Int)=0/\(0:Int)=0/\(0:Int)=0/\(0:Int)=0/\a.1=a.1/\IntKind.wrap .i64 (h+(1:Int))=p/\(mO a)) (∃(o:Int) (p:Int),∃(q:List af),(0<=o/\o<=f+(1:Int)/\(d=true->o=0/\q=b)/\(q.length:Int)<=1000000+o/\p=a.2.1+o/\bA a.1 e c (Int.toNat (f+(1:Int) -o)) o (p,q)=bA a.1 e c (Int.toNat (f+(1:Int))) (0:Int) (a.2.1,b))/\Int.toNat (f+(1:Int) -o)<Int.toNat (f+(1:Int) -g)/\m=q/\c=c/\IntKind.wrap .i64 (g+(1:Int))=o/\d=d/\e=e/\f=f/\(0:Int)=0/\(0:Int)=0/\(0:Int)=0/\(0:Int)=0/\a.1=a.1/\IntKind.wrap .i64 (h+(1:Int))=p/\(mO a))))
 ((a.1,h,a.2.2)=qx a (bg a.1 c (d,e,f) (a.2.1,b)).1/\i=(bg a.1 c (d,e,f) (a.2.1,b)).2):=by
  delta cZ mO ga jm pX
  rintro c l0 b fd dl cp-⟨hl0,n0,n1,o0,o1,⟨d0,d1⟩,c0,c1⟩
  have n0:0<=c.1:=n0
  refine⟨⟨0,c.2.1,l0,⟨by omega,by omega,fun _=>⟨rfl,rfl⟩,by omega,by omega,by rw[Int.sub_zero]⟩,(by repeat' first|exact trivial|refine⟨trivial,?_⟩|refine⟨(by with_reducible rfl),?_⟩|refine⟨ad (by omega) (by omega),?_⟩|refine⟨rfl,?_⟩)⟩,?_⟩
  rintro k o l ⟨k0,k1,hdr,hln,ho,hs⟩
  intro b1 hb1
  (repeat refine⟨fun h_=>(by first|(simp;done)|(simp[h_];done)|(simp_all;done)),?_⟩)
  intro b2 hb2
  (repeat refine⟨fun h_=>(by first|(simp;done)|(simp[h_];done)|(simp_all;done)),?_⟩)
  have hT:IntKind.i64.wrap (IntKind.i64.wrap (IntKind.i64.wrap (c.1+1)+dl)+k)=c.1+1+dl+k:=by rw[ad (n:=c.1+1) (by omega) (by omega),ad (n:=c.1+1+dl) (by omega) (by omega),ad (by omega) (by omega)]
  have hO:IntKind.i64.wrap (o+1)=o+1:=ad (by omega) (by omega)
  have hK:IntKind.i64.wrap (k+1)=k+1:=ad (by omega) (by omega)
  rw[hT,hO,hK]
  obtain⟨t,ht⟩:∃ t:af,t=(c.1+1+dl+k,o,b):=⟨_,rfl⟩
  have ht1:c.1+1+dl+k=t.1:=by rw[ht]
  rw[← ht,ht1]
  have hc:(bif b2 then decide ((l.length:Int)<4096) else false)=decide (k<=cp/\fd=false/\l.length<4096):=by
   rw[hb2,hb1]
   rw[show decide ((l.length:Int)<4096)=decide (l.length<4096) from decide_eq_decide.2 (by omega)]
   by_cases h1:k<=cp <;> cases fd <;> simp[h1]
  rw[hc]
  refine aq (fun h=>?_) (fun h=>?_)
  ·obtain⟨h1,h2,h3⟩:=of_decide_eq_true h
   have nxt:bA c.1 dl b (cp+1-(k+1)).toNat (k+1) (o+1,bX l t)=bA c.1 dl b (cp+1).toNat 0 (c.2.1,l0):=by
    rw[← hs,show (cp+1-k).toNat=(cp+1-(k+1)).toNat+1 by omega,bA,if_pos h3,ht]
   refine⟨⟨0,[],false,⟨by omega,by omega,fun _=>⟨rfl,fun y hy=>(by cases (show y∈([]:List af) from hy))⟩,fun h=>by cases h⟩,(by repeat' first|exact trivial|refine⟨trivial,?_⟩|refine⟨(by with_reducible rfl),?_⟩|refine⟨ad (by omega) (by omega),?_⟩|refine⟨rfl,?_⟩)⟩,?_⟩
   rintro i out dn ⟨i0,i1,g1,g2⟩
   refine aq (fun hi=>?_) (fun hi=>?_)
   ·have hi:=of_decide_eq_true hi
    have hm:out.length<=i.toNat+1:=by
     cases dn with
     | false=>rw[(g1 rfl).1,List.length_take];omega
     | true=>rw[(g2 rfl).1,lX,List.length_take];omega
    intro b3 hb3
    refine⟨fun h_=>⟨fun _=>h_,fun _=>h_,i0,hi,trivial⟩,(by simp),(by simp),(by simp),(by simp),(by simp),?_⟩
    have hb4:(bif b3 then decide (t.1<(l.getD i.toNat default).1) else false)=decide (dn=false/\t.1<(l.getD i.toNat default).1):=by
     rw[hb3]
     cases dn <;> simp
    rw[hb4,ad (n:=i+1) (by omega) (by omega)]
    refine aq (fun hq=>?_) (fun hq=>?_)
    ·obtain⟨q1,q2⟩:=of_decide_eq_true hq
     subst q1
     obtain⟨e1,e2⟩:=g1 rfl
     refine⟨by simp only[List.length_singleton];omega,i0,hi,by simp only[List.length_append,List.length_singleton];omega,i+1,_,true,⟨by omega,by omega,(fun h=>by cases h),fun _=>?_⟩,by omega,(by repeat' first|exact trivial|refine⟨trivial,?_⟩|refine⟨(by with_reducible rfl),?_⟩|refine⟨ad (by omega) (by omega),?_⟩|refine⟨rfl,?_⟩)⟩
     rw[dK i0 hi]
     refine⟨?_,l.getD i.toNat default,List.mem_append_right _ (List.mem_singleton.2 rfl),q2⟩
     rw[z7 e2 q2,← e1]
    ·have hq:=of_decide_eq_false hq
     refine⟨i0,hi,by simp only[List.length_singleton];omega,i+1,_,dn,⟨by omega,by omega,fun h=>?_,fun h=>?_⟩,by omega,(by repeat' first|exact trivial|refine⟨trivial,?_⟩|refine⟨(by with_reducible rfl),?_⟩|refine⟨ad (by omega) (by omega),?_⟩|refine⟨rfl,?_⟩)⟩
     ·obtain⟨e1,e2⟩:=g1 h
      rw[dK i0 hi,e1]
      refine⟨rfl,fun y hy=>?_⟩
      rcases List.mem_append.1 hy with hy|hy
      ·exact e2 y hy
      ·rw[List.mem_singleton.1 hy]
       exact Int.not_lt.1 fun z=>hq ⟨h,z⟩
     ·obtain⟨e1,y,hy,z⟩:=g2 h
      rw[dK i0 hi,e1]
      exact⟨(EH ⟨y,hy,z⟩).symm,y,List.mem_append_left _ hy,z⟩
   ·have hi:=of_decide_eq_false hi
    rw[List.take_of_length_le (by omega)] at g1 g2
    refine aq (fun hd=>?_) (fun hd=>?_)
    ·have hd:dn=false:=by simpa using hd
     obtain⟨e1,e2⟩:=g1 hd
     refine⟨by rw[e1];simp only[List.length_singleton];omega,k+1,o+1,_,⟨by omega,by omega,fun q=>(by rw[h2] at q;cases q),?_,by omega,?_⟩,by omega,(by repeat' first|exact trivial|refine⟨trivial,?_⟩|refine⟨(by with_reducible rfl),?_⟩|refine⟨ad (by omega) (by omega),?_⟩|refine⟨rfl,?_⟩)⟩
     ·rw[e1,List.length_append];simp only[List.length_singleton];omega
     ·rw[e1,← sw e2];exact nxt
    ·have hd:dn=true:=by simpa using hd
     obtain⟨e1,-⟩:=g2 hd
     refine⟨k+1,o+1,_,⟨by omega,by omega,fun q=>(by rw[h2] at q;cases q),?_,by omega,?_⟩,by omega,(by repeat' first|exact trivial|refine⟨trivial,?_⟩|refine⟨(by with_reducible rfl),?_⟩|refine⟨ad (by omega) (by omega),?_⟩|refine⟨rfl,?_⟩)⟩
     ·rw[e1,lX];omega
     ·rw[e1];exact nxt
  ·have h:=of_decide_eq_false h
   have e:bg c.1 b (fd,dl,cp) (c.2.1,l0)=(o,l):=by
    unfold bg
    dsimp only
    cases hfd:fd with
    | true =>
     obtain⟨q1,q2⟩:=hdr hfd
     rw[if_pos rfl,q2,ho,q1,Int.add_zero]
    | false =>
     rw[if_neg (by simp),← hs]
     cases hn:(cp+1-k).toNat with
     | zero=>rfl
     | succ n=>rw[bA,if_neg (fun q=>h ⟨by omega,hfd,q⟩)]
   rw[e]
   exact⟨rfl,rfl⟩
theorem CN:aG Try.prog GL 46 wE.spec:=Ct.okH _ Try.func46 (by kernel_rfl) (jR aP (d:=82)) aD Ae (aQ (by kernel_rfl) DW)
end Go.RS

/- Xrf2: the document's exchange: acknowledgements, what the receiver does, ticks. -/
namespace Go.RS
open Go.SX Go.Proofs
set_option maxRecDepth 100000
set_option linter.unusedVariables false
theorem A6{l:List ax}{t x:ax}(h:∃ y∈l,t.1<y.1):cW (l++[x]) t=cW l t++[x]:=by
 obtain⟨y,hy,q⟩:=h
 obtain⟨a,b⟩:=rk (p:=fun x:ax=>decide (x.1<t.1)) ⟨y,hy,decide_eq_false (by omega)⟩ [x]
 unfold cW
 rw[a,b]
 simp
theorem r7{l m:List ax}{t:ax}(h:∀ y∈l,y.1<t.1):cW (l++m) t=l++cW m t:=by
 have hp:∀ y∈l,(fun x:ax=>decide (x.1<t.1)) y=true:=fun y hy=>decide_eq_true (h y hy)
 unfold cW
 rw[List.takeWhile_append_of_pos hp,List.dropWhile_append_of_pos hp,List.append_assoc]
theorem yG{l:List ax}{t x:ax}(h:∀ y∈l,y.1<t.1)(hx:t.1<x.1):cW (l++[x]) t=l++[t]++[x]:=by
 rw[r7 h]
 have n1:¬ x.1<t.1:=by omega
 unfold cW
 rw[List.takeWhile_cons_of_neg (by simpa using n1),List.dropWhile_cons_of_neg (by simpa using n1)]
 simp
theorem B3{l:List ax}{t:ax}(h:∀ y∈l,y.1<t.1):cW l t=l++[t]:=by
 have:=r7 (m:=[]) h
 rw[List.append_nil] at this
 rw[this];rfl
theorem z5(l:List ax)(t:ax):(cW l t).length=l.length+1:=by
 unfold cW
 have:=congrArg List.length (List.takeWhile_append_dropWhile (p:=fun y:ax=>decide (y.1<t.1)) (l:=l))
 rw[List.length_append] at this
 rw[List.length_append,List.length_cons];omega
theorem vW(now:Int)(l:List af):l.take (am now l).length=am now l:=by
 have e:am now l++aX now l=l:=List.takeWhile_append_dropWhile
 conv=>lhs;arg 2;rw[← e]
 exact List.take_left
def vD:Ct:=⟨[.agg aS],[.own 5 aV],fun d=>[(aF d.1).length<=65535,(aH d.1).length<=100000,∀ x∈aH d.1,0<=x.1/\x.1<=65535],fun d=>((br ((aF d.1).length:Int) ((aH d.1).map (·.1)),()),())⟩
def xY:aC vD.ps->aN:=(fun d=>{loops:=(fun n=>match n with|3=>some (fun S=>{ι:=Int×(List Int),qn:=⟨fun k_=>∀(i:Int)(b:(List Int)),k_ (i,b),fun k_ h_ i=>h_ i.1 i.2,fun k_=>∃ (i:Int) (b:(List Int)),k_ (i,b),fun k_ ⟨i,b,h_⟩=>⟨_,h_⟩⟩,μ:=fun i=>((aH d.1).length-i.1).toNat,inv:=fun i=>0<=i.1/\i.1<=(aH d.1).length/\i.2=br ((aF d.1).length:Int) (((aH d.1).map (·.1)).take i.1.toNat),keep:=[1],slots:=fun i=>[(3,.own 524288 1),(4,.int .i64 i.1)],keepN:=[32],names:=fun i=>[(524288,.live (.row 5 aV i.2))]})|_=>none)})
theorem EM :
 ∀(a:Int×Int×Int×List (List Int)×Int×List (List Int)×List (Int×List Int)×List (Int×Int×List Int)×List (Int×Int×List Int)),CT.wf aS a/\True->(List.length (aF a)<=(65535:Nat)/\List.length (aH a)<=(100000:Nat)/\ ∀(b:ax),b∈aH a->0<=b.1/\b.1<=65535)->(1:Nat)<=List.length [(65:Int)]/\((List.length [(65:Int)]):Int)<=1099511627776/\(∃(b:Int) (c:List Int),(0<=b/\b<=((List.length (aH a)):Int)/\c=br ((List.length (aF a)):Int) (List.take b.toNat (List.map (fun (d:ax)=>d.1) (aH a))))/\(0:Int)=b/\a.1=a.1/\a.2.1=a.2.1/\a.2.2.1=a.2.2.1/\a.2.2.2.1=a.2.2.2.1/\a.2.2.2.2.1=a.2.2.2.2.1/\a.2.2.2.2.2.1=a.2.2.2.2.2.1/\a.2.2.2.2.2.2.1=a.2.2.2.2.2.2.1/\a.2.2.2.2.2.2.2.1=a.2.2.2.2.2.2.2.1/\a.2.2.2.2.2.2.2.2=a.2.2.2.2.2.2.2.2/\eC [(65:Int)] (a.2.2.2.2.2.1.length:Int) (2:Int)=c/\True)/\ ∀(b:Int)(c:List Int),0<=b/\b<=((List.length (aH a)):Int)/\c=br ((List.length (aF a)):Int) (List.take
 b.toNat (List.map (fun (d:ax)=>d.1) (aH a)))->ah (decide (b<(a.2.2.2.2.2.2.1.length:Int))) (0<=b/\b<(a.2.2.2.2.2.2.1.length:Int)/\(c.length:Int)<=1099511627776/\ ∃(d:Int) (e:List Int),(0<=d/\d<=((List.length (aH a)):Int)/\e=br ((List.length (aF a)):Int) (List.take d.toNat (List.map (fun (f:ax)=>f.1) (aH a))))/\Int.toNat (((List.length (aH a)):Int) -d)<Int.toNat (((List.length (aH a)):Int) -b)/\IntKind.wrap .i64 (b+(1:Int))=d/\a.1=a.1/\a.2.1=a.2.1/\a.2.2.1=a.2.2.1/\a.2.2.2.1=a.2.2.2.1/\a.2.2.2.2.1=a.2.2.2.2.1/\a.2.2.2.2.2.1=a.2.2.2.2.2.1/\a.2.2.2.2.2.2.1=a.2.2.2.2.2.2.1/\a.2.2.2.2.2.2.2.1=a.2.2.2.2.2.2.2.1/\a.2.2.2.2.2.2.2.2=a.2.2.2.2.2.2.2.2/\eC c (List.getD a.2.2.2.2.2.2.1 b.toNat default).1 (2:Int)=e/\True) (c=br ((List.length (aF a)):Int) (List.map (fun (d:ax)=>d.1) (aH a))):=by
  rintro c-⟨hg,he,hr⟩
  have hg':c.2.2.2.2.2.1.length<=65535:=hg
  have eE:aH c=c.2.2.2.2.2.2.1:=rfl
  have eG:aF c=c.2.2.2.2.2.1:=rfl
  rw[eE] at he hr ⊢
  rw[eG]
  have e0:eC [65] (c.2.2.2.2.2.1.length:Int) 2=br (c.2.2.2.2.2.1.length:Int) []:=by
   rw[rb ⟨by omega,by omega⟩];simp[br,dA]
  rw[e0]
  refine⟨by simp,by simp,⟨0,_,⟨by omega,by omega,rfl⟩,by (repeat first|refine⟨trivial,?_⟩|refine⟨(by with_reducible rfl),?_⟩|refine⟨ad (by omega) (by omega),?_⟩);simp⟩,?_⟩
  rintro i b ⟨i0,i1,rfl⟩
  refine aq (fun hi=>?_) (fun hi=>?_)
  ·have hi:=of_decide_eq_true hi
   have hx:=hr _ (ce (xs:=c.2.2.2.2.2.2.1) i0 hi)
   have hn:=dK (l:=c.2.2.2.2.2.2.1.map (·.1)) i0 (by rw[List.length_map];exact hi)
   have em:(c.2.2.2.2.2.2.1.map (·.1)).getD i.toNat default=(c.2.2.2.2.2.2.1.getD i.toNat default).1:=by
    simp only[List.getD_eq_getElem?_getD,List.getElem?_map]
    rw[List.getElem?_eq_getElem (by omega)];rfl
   have e1:eC (br (c.2.2.2.2.2.1.length:Int) ((c.2.2.2.2.2.2.1.map (·.1)).take i.toNat)) (c.2.2.2.2.2.2.1.getD i.toNat default).1 2=br (c.2.2.2.2.2.1.length:Int) ((c.2.2.2.2.2.2.1.map (·.1)).take (i+1).toNat):=by
    rw[rb hx,tp,hn,em]
   rw[e1]
   refine⟨i0,hi,?_,i+1,_,⟨by omega,by omega,rfl⟩,by omega,(by repeat' first|exact trivial|refine⟨trivial,?_⟩|refine⟨(by with_reducible rfl),?_⟩|refine⟨ad (by omega) (by omega),?_⟩|refine⟨rfl,?_⟩)⟩
   rw[kB,List.length_take,List.length_map];omega
  ·have hi:=of_decide_eq_false hi
   rw[List.take_of_length_le (by rw[List.length_map];omega)]
theorem Ap:aG Try.prog GL 47 vD.spec:=Ct.okH _ Try.func47 (by kernel_rfl) (ay aP wZ) aD xY (aQ (by kernel_rfl) EM)
def ju(c:aj)(s:List (List Int)×List ax):aj:=(c.1,c.2.1,c.2.2.1,c.2.2.2.1,c.2.2.2.2.1,s.1,s.2,c.2.2.2.2.2.2.2)
def vt:Ct:=⟨[.agg aS,.val (.sl aV)],[.agg aS],fun d=>[3<=d.2.1.length,(d.2.1.length:Int)<=1000000,0<=az d.1,az d.1<=100000,0<=ak d.1,ak d.1<=100000,(aF d.1).length<=100000,(aH d.1).length<=100000],fun d=>((ju d.1 (cd (az d.1+ak d.1) (aF d.1,aH d.1) (aA d.2.1 1) (d.2.1.drop 3)),()),())⟩
def yS:aC vt.ps->aN:=(fun d=>{loops:=(fun n=>match n with|4=>some (fun S=>{ι:=(List (List Int))×(List ax),qn:=⟨fun k_=>∀(g:(List (List Int)))(e:(List ax)),k_ (g,e),fun k_ h_ i=>h_ i.1 i.2,fun k_=>∃ (g:(List (List Int))) (e:(List ax)),k_ (g,e),fun k_ ⟨g,e,h_⟩=>⟨_,h_⟩⟩,μ:=fun i=>i.2.length,inv:=fun i=>bZ i.2 i.1=bZ (aH d.1) (aF d.1++[d.2.1.drop 3])/\i.1.length+i.2.length<=300000,keep:=[2,4],slots:=fun i=>[],keepN:=[80],names:=fun i=>[(48,.live (.cells 28 [.int .i64 (ab d.1),.int .i64 (a8 d.1),.int .i64 (ak d.1),.dsl (.sl aV) (ae d.1),.int .i64 (az d.1),.own 524288 1,.dsl eh i.2,.dsl a9 (aJ d.1),.dsl a9 (ba d.1)])),(524288,.live (.row 22 (.sl aV) i.1))]})|13=>some (fun S=>{ι:=Int×(List ax)×Bool,qn:=⟨fun k_=>∀(i:Int)(out:(List ax))(dn:Bool),k_ (i,out,dn),fun k_ h_ i=>h_ i.1 i.2.1 i.2.2,fun k_=>∃ (i:Int) (out:(List ax)) (dn:Bool),k_ (i,out,dn),fun k_ ⟨i,out,dn,h_⟩=>⟨_,h_⟩⟩,μ:=fun i=>((aH d.1).length-i.1).toNat,inv:=fun i=>0<=i.1/\i.1<=(aH d.1).length/\(∀ x∈(aH d.1).take i.1.toNat,x.1≠aA d.2.1 1)/\(i.2.2=false->i.2.1=(aH d.1).take i.1.toNat∧∀ x∈(aH d.1).take i.1.toNat,x.1<aA d.2.1 1)/\(i.2.2=true->i.2.1=cW ((aH d.1).take i.1.toNat) (aA d.2.1 1,d.2.1.drop 3)∧∃ x∈(aH d.1).take i.1.toNat,aA d.2.1 1<x.1),keep:=[2,4,5,6],slots:=fun i=>[(7,.own 524288 2),(8,.bool i.2.2),(9,.int .i64 i.1)],keepN:=[48,80],names:=fun i=>[(524288,.live (.row 51 eh i.2.1))]})|_=>none)})
def gn(b:List Int) :=
 Int.toNat (b.length:Int)
def gq :=
 Int.toNat (3:Int)
def kP(b:List Int) :=
 (bj b (1:Int) (2:Int),bf b (gq) (gn b))
def qh(a:Int×Int×Int×List (List Int)×Int×List (List Int)×List (Int×List Int)×List (Int×Int×List Int)×List (Int×Int×List Int))(b:List Int)(h:Int)(i:List ax)(j:Bool) :=
 0<=h/\h<=((List.length (aH a)):Int)/\(∀(k:ax),k∈List.take h.toNat (aH a)->k.1≠aA b (1:Int))/\(j=false->i=List.take h.toNat (aH a)/\ ∀(k:ax),k∈List.take h.toNat (aH a)->k.1<aA b (1:Int))/\(j=true->i=cW (List.take h.toNat (aH a)) (aA b (1:Int),List.drop (3:Nat) b)/\ ∃(k:ax),k∈List.take h.toNat (aH a)/\aA b 1<k.1)
def pF(a:Int×Int×Int×List (List Int)×Int×List (List Int)×List (Int×List Int)×List (Int×Int×List Int)×List (Int×Int×List Int))(b:List Int)(d:Int)(e:List ax)(f:Bool) :=
 d<=((List.length (aH a)):Int)/\(∀(g:ax),g∈List.take d.toNat (aH a)->g.1≠aA b (1:Int))/\(f=false->e=List.take d.toNat (aH a)/\ ∀(g:ax),g∈List.take d.toNat (aH a)->g.1<aA b (1:Int))/\(f=true->e=cW (List.take d.toNat (aH a)) (aA b (1:Int),List.drop (3:Nat) b)/\ ∃(g:ax),g∈List.take d.toNat (aH a)/\aA b 1<g.1)
def kF(a:Int×Int×Int×List (List Int)×Int×List (List Int)×List (Int×List Int)×List (Int×Int×List Int)×List (Int×Int×List Int))(b:List Int) :=
 cd (az a+ak a) (aF a,aH a) (aA b (1:Int)) (List.drop (3:Nat) b)
def gw :=
 (140737488355328:Nat)
theorem xG :
 ∀(a:Int×Int×Int×List (List Int)×Int×List (List Int)×List (Int×List Int)×List (Int×Int×List Int)×List (Int×Int×List Int))(b:List Int),CT.wf aS a/\(b.length<=maxLen/\ ∀(c:Int),c∈b->0<=c/\c<=255)/\True->(3:Nat)<=b.length/\(b.length:Int)<=1000000/\0<=az a/\az a<=100000/\0<=ak a/\ak a<=100000/\List.length (aF a)<=(100000:Nat)/\List.length (aH a)<=(100000:Nat)->(b.length:Int)<=9223372036854775807/\(0:Int)<=3/\3<=(b.length:Int)/\(b.length:Int)<=(b.length:Int)/\ah (decide (bj b (1:Int) (2:Int)=(a.2.2.2.2.2.1.length:Int))) (a.2.2.2.2.2.1.length*(24:Nat)<=(gw)/\(a.2.2.2.2.2.1.length+List.length [bf b (gq) (gn b)])*(24:Nat)<=(gw)/\(∃(c:List (List Int)),∃(d:List ax),(bZ d c=bZ (aH a) (aF a++[List.drop (3:Nat) b])/\c.length+d.length<=(300000:Nat))/\(0:Int)=0/\(0:Int)=0/\(0:Int)=0/\(0:Int)=0/\a.1=ab a/\a.2.1=a8 a/\a.2.2.1=ak a/\a.2.2.2.1=ae
 a/\a.2.2.2.2.1=az a/\a.2.2.2.2.2.2.1=d/\a.2.2.2.2.2.2.2.1=aJ a/\a.2.2.2.2.2.2.2.2=ba a/\a.2.2.2.2.2.1++[bf b (gq) (gn b)]=c/\True)/\ ∀(c:List (List Int))(d:List ax),bZ d c=bZ (aH a) (aF a++[List.drop (3:Nat) b])/\c.length+d.length<=(300000:Nat)-> ∀(e:Bool),e=decide (0<(d.length:Int))->(e->(e->e)/\True)/\(e->(e->e)/\(0:Int)<=0/\0<(d.length:Int)/\True)/\(e->(e->e)/\True)/\(e->(e->e)/\True)/\(e->(e->e)/\True)/\(e->(e->e)/\True)/\(e->(e->e)/\(e->e)/\True)/\(e->e)/\ah (bif e then decide ((d.getD (Int.toNat (0:Int)) default).1=(c.length:Int)) else false) ((0:Int)<=0/\0<(d.length:Int)/\(c.length+List.length [(d.getD (Int.toNat (0:Int)) default).2])*(24:Nat)<=(gw)/\(0:Int)<=1/\1<=(d.length:Int)/\(d.length:Int)<=(d.length:Int)/\ ∃(f:List (List Int)),∃(g:List ax),(bZ g f=bZ (aH a) (aF a++[List.drop (3:Nat)
 b])/\f.length+g.length<=(300000:Nat))/\g.length<d.length/\(0:Int)=0/\(0:Int)=0/\(0:Int)=0/\(0:Int)=0/\ab a=ab a/\a8 a=a8 a/\ak a=ak a/\ae a=ae a/\az a=az a/\bf d (Int.toNat (1:Int)) (Int.toNat (d.length:Int))=g/\aJ a=aJ a/\ba a=ba a/\c++[(d.getD (Int.toNat (0:Int)) default).2]=f/\True) ((ab a,a8 a,ak a,ae a,az a,c,d,aJ a,ba a)=ju a (kF a b))) (∀(c:Bool),c=decide (bj b (1:Int) 2<(a.2.2.2.2.2.1.length:Int))->((! c)->((! c)->(! c))/\True)/\((! c)->((! c)->(! c))/\True)/\((! c)->((! c)->(! c))/\((! c)->(! c))/\True)/\((! c)->((! c)->(! c))/\((! c)->(! c))/\True)/\(c=false->(! c))/\ah (bif c then true else decide (IntKind.wrap .i64 (a.2.2.2.2.1+a.2.2.1)<=bj b (1:Int) (2:Int))) (a=ju a (kF a b)) ((∃(d:Int) (e:List ax),∃(f:Bool),(0<=d/\(pF a b d e f))/\bj b (1:Int) (2:Int)=bj b (1:Int) (2:Int)/\bf b (gq) (gn b)=bf b (gq)
 (gn b)/\false=f/\(0:Int)=d/\a.1=a.1/\a.2.1=a.2.1/\a.2.2.1=a.2.2.1/\a.2.2.2.1=a.2.2.2.1/\a.2.2.2.2.1=a.2.2.2.2.1/\a.2.2.2.2.2.1=a.2.2.2.2.2.1/\a.2.2.2.2.2.2.1=a.2.2.2.2.2.2.1/\a.2.2.2.2.2.2.2.1=a.2.2.2.2.2.2.2.1/\a.2.2.2.2.2.2.2.2=a.2.2.2.2.2.2.2.2/\(0:Int)=0/\(0:Int)=0/\(0:Int)=0/\(0:Int)=0/\e=([]:List (Int×List Int))/\True)/\ ∀(d:Int)(e:List ax)(f:Bool),0<=d/\(pF a b d e f)->ah (decide (d<(a.2.2.2.2.2.2.1.length:Int))) (0<=d/\d<(a.2.2.2.2.2.2.1.length:Int)/\ah (decide ((List.getD a.2.2.2.2.2.2.1 d.toNat default).1=bj b (1:Int) (2:Int))) (a=ju a (kF a b)) (∀(g:Bool),g= ! f->(g->(g->g)/\True)/\(g->(g->g)/\(g->g)/\0<=d/\d<(a.2.2.2.2.2.2.1.length:Int)/\True)/\(g->(g->g)/\True)/\(g->(g->g)/\True)/\(g->(g->g)/\(g->g)/\True)/\(g->g)/\ah (bif g then decide (bj b (1:Int) 2<(List.getD a.2.2.2.2.2.2.1 d.toNat default).1) else false) ((e.length+List.length [(kP
 b)])*(32:Nat)<=(gw)/\0<=d/\d<(a.2.2.2.2.2.2.1.length:Int)/\(List.length (e++[(kP b)])+List.length [List.getD a.2.2.2.2.2.2.1 d.toNat default])*(32:Nat)<=(gw)/\ ∃(h:Int) (i:List ax),∃(j:Bool),(qh a b h i j)/\Int.toNat (((List.length (aH a)):Int) -h)<Int.toNat (((List.length (aH a)):Int) -d)/\bj b (1:Int) (2:Int)=bj b (1:Int) (2:Int)/\bf b (gq) (gn b)=bf b (gq) (gn b)/\true=j/\IntKind.wrap .i64 (d+(1:Int))=h/\a.1=a.1/\a.2.1=a.2.1/\a.2.2.1=a.2.2.1/\a.2.2.2.1=a.2.2.2.1/\a.2.2.2.2.1=a.2.2.2.2.1/\a.2.2.2.2.2.1=a.2.2.2.2.2.1/\a.2.2.2.2.2.2.1=a.2.2.2.2.2.2.1/\a.2.2.2.2.2.2.2.1=a.2.2.2.2.2.2.2.1/\a.2.2.2.2.2.2.2.2=a.2.2.2.2.2.2.2.2/\(0:Int)=0/\(0:Int)=0/\(0:Int)=0/\(0:Int)=0/\e++[(kP b)]++[List.getD a.2.2.2.2.2.2.1 d.toNat default]=i/\True) (0<=d/\d<(a.2.2.2.2.2.2.1.length:Int)/\(e.length+List.length [List.getD a.2.2.2.2.2.2.1 d.toNat
 default])*(32:Nat)<=(gw)/\ ∃(h:Int) (i:List ax),∃(j:Bool),(qh a b h i j)/\Int.toNat (((List.length (aH a)):Int) -h)<Int.toNat (((List.length (aH a)):Int) -d)/\bj b (1:Int) (2:Int)=bj b (1:Int) (2:Int)/\bf b (gq) (gn b)=bf b (gq) (gn b)/\f=j/\IntKind.wrap .i64 (d+(1:Int))=h/\a.1=a.1/\a.2.1=a.2.1/\a.2.2.1=a.2.2.1/\a.2.2.2.1=a.2.2.2.1/\a.2.2.2.2.1=a.2.2.2.2.1/\a.2.2.2.2.2.1=a.2.2.2.2.2.1/\a.2.2.2.2.2.2.1=a.2.2.2.2.2.2.1/\a.2.2.2.2.2.2.2.1=a.2.2.2.2.2.2.2.1/\a.2.2.2.2.2.2.2.2=a.2.2.2.2.2.2.2.2/\(0:Int)=0/\(0:Int)=0/\(0:Int)=0/\(0:Int)=0/\e++[List.getD a.2.2.2.2.2.2.1 d.toNat default]=i/\True))) (ah (! f) ((e.length+List.length [(kP b)])*(32:Nat)<=(gw)/\(a.1,a.2.1,a.2.2.1,a.2.2.2.1,a.2.2.2.2.1,a.2.2.2.2.2.1,e++[(kP b)],a.2.2.2.2.2.2.2)=ju a (kF a b)) ((a.1,a.2.1,a.2.2.1,a.2.2.2.1,a.2.2.2.2.1,a.2.2.2.2.2.1,e,a.2.2.2.2.2.2.2)=ju a (kF a b))))):=by
  delta kP qh pF kF gn gw gq
  rintro c b-⟨hb,hb2,k0,k1,w0,w1,hg,he⟩
  have eE:aH c=c.2.2.2.2.2.2.1:=rfl
  have eG:aF c=c.2.2.2.2.2.1:=rfl
  have eK:az c=c.2.2.2.2.1:=rfl
  have eW:ak c=c.2.2.1:=rfl
  have eM:bj b 1 2=aA b 1:=rfl
  have es:bf b (Int.toNat 3) (Int.toNat (b.length:Int))=b.drop 3:=by
   unfold bf;rw[Int.toNat_natCast,List.take_length];rfl
  rw[es,eM]
  rw[eK] at k0 k1
  rw[eW] at w0 w1
  rw[ad (n:=c.2.2.2.2.1+c.2.2.1) (by omega) (by omega)]
  rw[eG] at hg
  rw[eE] at he
  generalize hI:aA b 1=I
  generalize hT:b.drop 3=T
  refine⟨by omega,by omega,by omega,by omega,aq (fun h=>?_) (fun h=>?_)⟩
  ·have h:I=(c.2.2.2.2.2.1.length:Int):=of_decide_eq_true h
   have eT:cd (az c+ak c) (aF c,aH c) I T=bZ (aH c) (aF c++[T]):=if_pos h
   rw[eT]
   refine⟨by omega,by simp only[List.length_singleton];omega,⟨_,_,⟨rfl,by rw[List.length_append,List.length_singleton,eG,eE];omega⟩,(by repeat' first|exact trivial|refine⟨trivial,?_⟩|refine⟨(by with_reducible rfl),?_⟩|refine⟨ad (by omega) (by omega),?_⟩|refine⟨rfl,?_⟩)⟩,?_⟩
   rintro g e ⟨ha,hl⟩
   (repeat (intro (b_:Bool) (hb_:b_=_);(repeat refine⟨(by first|(simp;done)|(rw[hb_];simp;done)|(rw[hb_];simp;omega)|(rw[hb_];simp;intros;omega)|(rw[hb_];simp +contextual;done)),?_⟩);subst hb_))
   refine iA (fun h1 h2=>?_) (fun h1=>?_)
   ·have h1:=of_decide_eq_true h1
    have h2:=of_decide_eq_true h2
    cases e with
    | nil=>simp at h1
    | cons x r =>
     have h2:x.1=(g.length:Int):=h2
     have hl':g.length+(r.length+1)<=300000:=hl
     have e5:bf (x::r) (Int.toNat 1) (Int.toNat ((x::r).length:Int))=r:=by
      unfold bf;rw[Int.toNat_natCast,List.take_length];rfl
     rw[e5]
     refine⟨by omega,h1,by simp only[List.length_singleton];omega,by omega,by simp only[List.length_cons];omega,by omega,g++[x.2],r,⟨?_,by rw[List.length_append,List.length_singleton];omega⟩,by simp,(by repeat' first|exact trivial|refine⟨trivial,?_⟩|refine⟨(by with_reducible rfl),?_⟩|refine⟨ad (by omega) (by omega),?_⟩|refine⟨rfl,?_⟩)⟩
     rw[← ha,bZ,if_pos h2]
   ·have hz:bZ e g=(g,e):=by
     refine sm ?_
     rcases h1 with h1|h1
     ·have h1:=of_decide_eq_false h1
      exact .inl (List.eq_nil_of_length_eq_zero (by omega))
     ·exact .inr (of_decide_eq_false h1)
    rw[← ha,hz]
    rfl
  ·have h:¬ I=(c.2.2.2.2.2.1.length:Int):=of_decide_eq_false h
   have eT:cd (az c+ak c) (aF c,aH c) I T=if I<(c.2.2.2.2.2.1.length:Int)∨c.2.2.2.2.1+c.2.2.1<=I∨(c.2.2.2.2.2.2.1.any fun x=>decide (x.1=I))=true then (aF c,aH c) else (aF c,cW (aH c) (I,T)):=if_neg h
   rw[eT]
   (repeat (intro (b_:Bool) (hb_:b_=_);(repeat refine⟨(by first|(simp;done)|(rw[hb_];simp;done)|(rw[hb_];simp;omega)|(rw[hb_];simp;intros;omega)|(rw[hb_];simp +contextual;done)),?_⟩);subst hb_))
   refine lg (fun h1=>?_) (fun h1 h2=>?_)
   ·rw[if_pos (h1.elim (fun q=>.inl (of_decide_eq_true q)) (fun q=>.inr (.inl (of_decide_eq_true q))))]
    rfl
   have h1:=of_decide_eq_false h1
   have h2:=of_decide_eq_false h2
   rw[eE]
   generalize hL:c.2.2.2.2.2.2.1=L at *
   have eR:∀ s,ju c (c.2.2.2.2.2.1,s)=(c.1,c.2.1,c.2.2.1,c.2.2.2.1,c.2.2.2.2.1,c.2.2.2.2.2.1,s,c.2.2.2.2.2.2.2):=fun s=>rfl
   refine⟨⟨0,[],false,⟨by omega,by omega,by simp,fun _=>by simp,fun q=>by cases q⟩,(by repeat' first|exact trivial|refine⟨trivial,?_⟩|refine⟨(by with_reducible rfl),?_⟩|refine⟨ad (by omega) (by omega),?_⟩|refine⟨rfl,?_⟩)⟩,?_⟩
   rintro i out dn ⟨i0,i1,g0,g1,g2⟩
   have hm:out.length<=i.toNat+1:=by
    cases dn with
    | false=>rw[(g1 rfl).1,List.length_take];omega
    | true=>rw[(g2 rfl).1,z5,List.length_take];omega
   refine aq (fun hi=>?_) (fun hi=>?_)
   ·have hi:=of_decide_eq_true hi
    have hmem:=ce (xs:=L) i0 hi
    have hnx:=dK (l:=L) i0 hi
    generalize hx:L.getD i.toNat default=x at *
    refine⟨i0,hi,aq (fun hq=>?_) (fun hq=>?_)⟩
    ·have hq:=of_decide_eq_true hq
     rw[if_pos (.inr (.inr (List.any_eq_true.2 ⟨x,hmem,decide_eq_true hq⟩)))]
     rw[eG,eR,← hL]
    ·have hq:=of_decide_eq_false hq
     have g0':∀ y∈L.take (i+1).toNat,y.1≠I:=fun y hy=>by
      rw[hnx] at hy
      rcases List.mem_append.1 hy with hy|hy
      ·exact g0 y hy
      ·rw[List.mem_singleton.1 hy];exact hq
     intro b3 hb3
     refine⟨(by simp),fun h_=>⟨fun _=>h_,fun _=>h_,i0,hi,trivial⟩,(by simp),(by simp),(by simp),(by simp),?_⟩
     have hb4:(bif b3 then decide (I<x.1) else false)=decide (dn=false/\I<x.1):=by
      rw[hb3]
      cases dn <;> simp
     rw[hb4]
     refine aq (fun hz=>?_) (fun hz=>?_)
     ·obtain⟨q1,q2⟩:=of_decide_eq_true hz
      subst q1
      obtain⟨e1,e2⟩:=g1 rfl
      refine⟨by simp only[List.length_singleton];omega,i0,hi,by simp only[List.length_append,List.length_singleton];omega,i+1,_,true,⟨by omega,by omega,g0',(fun h=>by cases h),fun _=>?_⟩,by omega,(by repeat' first|exact trivial|refine⟨trivial,?_⟩|refine⟨(by with_reducible rfl),?_⟩|refine⟨ad (by omega) (by omega),?_⟩|refine⟨rfl,?_⟩)⟩
      rw[hnx]
      refine⟨?_,x,List.mem_append_right _ (List.mem_singleton.2 rfl),q2⟩
      rw[yG e2 q2,← e1]
     ·have hz:=of_decide_eq_false hz
      refine⟨i0,hi,by simp only[List.length_singleton];omega,i+1,_,dn,⟨by omega,by omega,g0',fun h=>?_,fun h=>?_⟩,by omega,(by repeat' first|exact trivial|refine⟨trivial,?_⟩|refine⟨(by with_reducible rfl),?_⟩|refine⟨ad (by omega) (by omega),?_⟩|refine⟨rfl,?_⟩)⟩
      ·obtain⟨e1,e2⟩:=g1 h
       rw[hnx,e1]
       refine⟨rfl,fun y hy=>?_⟩
       rcases List.mem_append.1 hy with hy|hy
       ·exact e2 y hy
       ·rw[List.mem_singleton.1 hy]
        have:¬ I<x.1:=fun z=>hz ⟨h,z⟩
        omega
      ·obtain⟨e1,y,hy,z⟩:=g2 h
       rw[hnx,e1]
       exact⟨(A6 ⟨y,hy,z⟩).symm,y,List.mem_append_left _ hy,z⟩
   ·have hi:=of_decide_eq_false hi
    rw[List.take_of_length_le (by omega)] at g0 g1 g2
    have hany:¬ (L.any fun x=>decide (x.1=I))=true:=fun q=>by
     obtain⟨y,hy,k⟩:=List.any_eq_true.1 q
     exact g0 y hy (of_decide_eq_true k)
    rw[if_neg (by rintro (q|q|q);exact h1 q;exact h2 q;exact hany q)]
    refine aq (fun hd=>?_) (fun hd=>?_)
    ·have hd:dn=false:=by simpa using hd
     obtain⟨e1,e2⟩:=g1 hd
     refine⟨by simp only[List.length_singleton];omega,?_⟩
     rw[e1,← B3 e2];rfl
    ·have hd:dn=true:=by simpa using hd
     obtain⟨e1,-⟩:=g2 hd
     rw[e1];rfl
theorem CZ:aG Try.prog GL 45 vt.spec:=Ct.okH _ Try.func45 (by kernel_rfl) (ay aP nX) aD yS (aQ (by kernel_rfl) xG)
def gv(c:aj)(n:Nat):aj:=(ab c+1,a8 c,ak c,ae c,az c,(bU (az c+ak c) ((aJ c).take n) (aF c,aH c)).1,(bU (az c+ak c) ((aJ c).take n) (aF c,aH c)).2,aJ c,ba c)
def dO(c:aj)(up:List a7)(k:Int):aj:=(ab c+1,(au c up).1,ak c,ae c,k,(aO c).1,(aO c).2,aX (ab c+1) (aJ c),(au c up).2)
def D1(c:aj)(up:List a7)(o:Int)(dn:List af):aj:=(ab c+1,o,ak c,ae c,aE c up,(aO c).1,(aO c).2,dn,aX (ab c+1) (au c up).2)
def uX:Ct:=⟨[.agg aS,.val (.sl fe),.val (.sl fe)],[.agg aS,.val cI],fun d=>[XR d.1,(d.2.1.length:Int)<=1000000,(d.2.2.1.length:Int)<=1000000],fun d=>((jk d.1 d.2.1 d.2.2.1,fj d.1 d.2.1 d.2.2.1,()),())⟩
def Bp:aC uX.ps->aN:=(fun d=>{loops:=(fun n=>match n with|2=>some (fun S=>{ι:=Int,μ:=fun i=>(d.2.1.length+d.2.2.1.length-i).toNat,inv:=fun i=>0<=i/\i<=d.2.1.length+d.2.2.1.length∧∀ x∈(d.2.1++d.2.2.1).take i.toNat,c9 x=true,keep:=[1,2,3,6,7],slots:=fun i=>[(8,.int .i64 i)],keepN:=[64,112],names:=fun i=>[]})|10=>some (fun S=>{ι:=Int×aj,qn:=⟨fun k_=>∀(j:Int)(b:aj),k_ (j,b),fun k_ h_ i=>h_ i.1 i.2,fun k_=>∃ (j:Int) (b:aj),k_ (j,b),fun k_ ⟨j,b,h_⟩=>⟨_,h_⟩⟩,μ:=fun i=>((aJ d.1).length-i.1).toNat,inv:=fun i=>0<=i.1/\i.1<=(aJ d.1).length/\(∀ t∈(aJ d.1).take i.1.toNat,t.1<=ab d.1+1)/\i.2=gv d.1 i.1.toNat,keep:=[1,2,3,6,7],slots:=fun i=>[(9,.int .i64 i.1)],keepN:=[112],names:=fun i=>[(64,.live (.cells 28 (bu aS i.2)))]})|18=>some (fun S=>{ι:=Int×aj×(List Int),qn:=⟨fun k_=>∀(h:Int)(b:aj)(nt:(List Int)),k_ (h,b,nt),fun k_ h_ i=>h_ i.1 i.2.1 i.2.2,fun k_=>∃ (h:Int) (b:aj) (nt:(List Int)),k_ (h,b,nt),fun k_ ⟨h,b,nt,h_⟩=>⟨_,h_⟩⟩,μ:=fun i=>(((au d.1 d.2.2.1).2).length-i.1).toNat,inv:=fun i=>0<=i.1/\i.1<=((au d.1 d.2.2.1).2).length/\(∀ t∈((au d.1 d.2.2.1).2).take i.1.toNat,t.1<=ab d.1+1)/\i.2.1=dO d.1 d.2.2.1 (bD (az d.1) (((au d.1 d.2.2.1).2).take i.1.toNat))/\i.2.2=bK (((au d.1 d.2.2.1).2).take i.1.toNat),keep:=[1,2,3,6,7],slots:=fun i=>[(11,.int .i64 i.1),(10,.own 524288 1)],keepN:=[112],names:=fun i=>[(64,.live (.cells 28 (bu aS i.2.1))),(524288,.live (.row 3 cI i.2.2))]})|22=>some (fun S=>{ι:=Int×(List Int),qn:=⟨fun k_=>∀(a:Int)(nt:(List Int)),k_ (a,nt),fun k_ h_ i=>h_ i.1 i.2,fun k_=>∃ (a:Int) (nt:(List Int)),k_ (a,nt),fun k_ ⟨a,nt,h_⟩=>⟨_,h_⟩⟩,μ:=fun i=>((S.l aV 12).length-i.1).toNat,inv:=fun i=>3<=i.1/\i.1<=(S.l aV 12).length/\(i.1-3)%2=0/\i.2=S.o cI 10++cJ (((S.l aV 12).drop 3).take (i.1-3).toNat),keep:=[1,2,3,6,7,11,12],slots:=fun i=>[(13,.int .i64 i.1),(10,.own 524289 1)],keepN:=[64,112],names:=fun i=>[(524289,.live (.row 3 cI i.2))]})|29=>some (fun S=>{ι:=Int×Int×Int×(List af),qn:=⟨fun k_=>∀(x:Int)(i:Int)(o:Int)(dn:(List af)),k_ (x,i,o,dn),fun k_ h_ i=>h_ i.1 i.2.1 i.2.2.1 i.2.2.2,fun k_=>∃ (x:Int) (i:Int) (o:Int) (dn:(List af)),k_ (x,i,o,dn),fun k_ ⟨x,i,o,dn,h_⟩=>⟨_,h_⟩⟩,μ:=fun i=>(aE d.1 d.2.2.1+ak d.1-i.1).toNat,inv:=fun i=>aE d.1 d.2.2.1<=i.1/\0<=i.2.1/\i.2.1<=i.1-aE d.1 d.2.2.1/\cG (ab d.1+1) i.2.2.1 i.2.2.2/\i.2.2.1<=(au d.1 d.2.2.1).1+9*i.2.1/\i.1<=aE d.1 d.2.2.1+ak d.1/\bV (ab d.1+1) (ae d.1) d.2.1 (fG d.1 d.2.2.1 i.1) i.2.1.toNat (i.2.2.1,i.2.2.2)=cV d.1 d.2.1 d.2.2.1,keep:=[1,2,3,6,7,10],slots:=fun i=>[(15,.int .i64 i.1),(14,.int .i64 i.2.1)],keepN:=[524288,112],names:=fun i=>[(64,.live (.cells 28 (bu aS (D1 d.1 d.2.2.1 i.2.2.1 i.2.2.2))))]})|33=>some (fun S=>{ι:=Int×Bool,qn:=⟨fun k_=>∀(k:Int)(b:Bool),k_ (k,b),fun k_ h_ i=>h_ i.1 i.2,fun k_=>∃ (k:Int) (b:Bool),k_ (k,b),fun k_ ⟨k,b,h_⟩=>⟨_,h_⟩⟩,μ:=fun i=>((S.o cI 10).length-i.1).toNat,inv:=fun i=>0<=i.1/\i.1<=(S.o cI 10).length/\i.2=decide (S.i 15∈(S.o cI 10).take i.1.toNat),keep:=[1,2,3,6,7,10,14,15],slots:=fun i=>[(17,.int .i64 i.1),(16,.bool i.2)],keepN:=[64,524288,112],names:=fun i=>[]})|_=>none),cuts:=(fun n=>match n with|16=>some (fun S=>{ι:=aj,inv:=fun i=>i=dO d.1 d.2.2.1 (az d.1),keep:=[1,2,3,6,7],slots:=fun i=>[],keepN:=[112],names:=fun i=>[(64,.live (.cells 28 (bu aS i)))]})|_=>none)})
def gW(f:aj) :=
 (f.2.2.2.2.2.2.2.1.length:Int)
def ku(e:Int)(f:aj) :=
 (f.1,f.2.1,f.2.2.1,f.2.2.2.1,f.2.2.2.2.1,f.2.2.2.2.2.1,f.2.2.2.2.2.2.1,bf f.2.2.2.2.2.2.2.1 e.toNat (Int.toNat (gW f)),f.2.2.2.2.2.2.2.2)
def fI(i:Int)(j:aj) :=
 List.getD j.2.2.2.2.2.2.2.2 i.toNat default
def kg(e:Int)(f:aj) :=
 List.getD f.2.2.2.2.2.2.2.1 e.toNat default
def o5 :=
 ((0:Int),(0:Int),(0:Int),([]:List (List Int)),(0:Int),([]:List (List Int)),([]:List (Int×List Int)),([]:List (Int×Int×List Int)),([]:List (Int×Int×List Int)))
def hP(i:Int)(j:aj) :=
 ((List.length (fI i j).2.2):Int)
def m6 :=
 (0:Int)=0/\(0:Int)=0/\(0:Int)=0/\(0:Int)=0/\True
def qX(a:Int×Int×Int×List (List Int)×Int×List (List Int)×List (Int×List Int)×List (Int×Int×List Int)×List (Int×Int×List Int)) :=
 a.1=a.1/\a.2.1=a.2.1/\a.2.2.1=a.2.2.1/\a.2.2.2.1=a.2.2.2.1/\a.2.2.2.2.1=a.2.2.2.2.1/\a.2.2.2.2.2.1=a.2.2.2.2.2.1/\a.2.2.2.2.2.2.1=a.2.2.2.2.2.2.1/\a.2.2.2.2.2.2.2.1=a.2.2.2.2.2.2.2.1/\a.2.2.2.2.2.2.2.2=a.2.2.2.2.2.2.2.2/\(m6)
def iV(j:aj) :=
 (j.2.2.2.2.2.2.2.2.length:Int)
def p8(c:List (Bool×Int×Int))(e:Int)(f:aj) :=
 bg f.1 (br ((List.length (aF (ku e f))):Int) (List.map (fun (i:ax)=>i.1) (aH (ku e f)))) (bi c (Int.toNat (0:Int))) (f.2.1,f.2.2.2.2.2.2.2.2)
def kx(i:Int)(j:aj) :=
 bj (fI i j).2.2 (1:Int) (2:Int)
def pC(e:Int)(f:aj) :=
 cd (az f+ak f) (aF f,aH f) (aA (kg e f).2.2 (1:Int)) (List.drop (3:Nat) (kg e f).2.2)
def lS(f g:Bool) :=
 (! f&&g)->((! f&&g)->(! f&&g))/\True
theorem Ew :
 ∀(a:Int×Int×Int×List (List Int)×Int×List (List Int)×List (Int×List Int)×List (Int×Int×List Int)×List (Int×Int×List Int))(b c:List (Bool×Int×Int)),CT.wf aS a/\(b.length<=maxLen/\ ∀(d:Bool×Int×Int),d∈b->True/\ao d.2.1/\ao d.2.2)/\(c.length<=maxLen/\ ∀(d:Bool×Int×Int),d∈c->True/\ao d.2.1/\ao d.2.2)/\True->XR a/\(b.length:Int)<=1000000/\(c.length:Int)<=1000000->(∃(d:Int),(0<=d/\d<=(b.length:Int)+(c.length:Int)/\ ∀(e:Bool×Int×Int),e∈List.take d.toNat (b++c)->c9 e=true)/\b=b/\c=c/\(0:Int)=0/\(0:Int)=d/\(qX a))/\ ∀(d:Int),(0<=d/\d<=(b.length:Int)+(c.length:Int)/\ ∀(e:Bool×Int×Int),e∈List.take d.toNat (b++c)->c9 e=true)->ah (decide (d<IntKind.wrap .i64 ((b.length:Int)+(c.length:Int)))) (∀(e:Bool),e=decide (d<(b.length:Int))->(e->(e->e)/\(e->e)/\0<=d/\d<(b.length:Int)/\True)/\(e->(e->e)/\True)/\(e->(e->e)/\True)/\(e->(e->e)/\True)/\(e->e)/\ ∀(f:Bool),(f=bif e then ! c9 (b.getD
 d.toNat default) else false)->((! f)->((! f)->(! f))/\True)/\((! f)->((! f)->(! f))/\((! f)->(! f))/\True)/\((! f)->((! f)->(! f))/\True)/\ ∀(g:Bool),g=decide ((b.length:Int)<=d)->(lS f g)/\((! f&&g)->((! f&&g)->(! f&&g))/\((! f&&g)->(! f&&g))/\True)/\((! f&&g)->((! f&&g)->(! f&&g))/\((! f&&g)->(! f&&g))/\0<=IntKind.wrap .i64 (d -(b.length:Int))/\IntKind.wrap .i64 (d -(b.length:Int))<(c.length:Int)/\True)/\(lS f g)/\(lS f g)/\(lS f g)/\((! f)->((! f)->(! f))/\(g->(! f&&g))/\True)/\(f=false->(! f))/\ah (bif f then true else bif g then ! c9 (c.getD (Int.toNat (IntKind.wrap .i64 (d -(b.length:Int)))) default) else false) ((o5)=jk a b c/\(1:Int)=fj a b c) (∃(h:Int),(0<=h/\h<=(b.length:Int)+(c.length:Int)/\ ∀(i:Bool×Int×Int),i∈List.take h.toNat (b++c)->c9 i=true)/\Int.toNat ((b.length:Int)+(c.length:Int) -h)<Int.toNat ((b.length:Int)+(c.length:Int)
 -d)/\b=b/\c=c/\(0:Int)=0/\IntKind.wrap .i64 (d+(1:Int))=h/\(qX a))) (ah (decide (1099511627776<=a.1)) ((o5)=jk a b c/\(5:Int)=fj a b c) ((∃(e:Int) (f:aj),(0<=e/\e<=((List.length (aJ a)):Int)/\(∀(g:af),g∈List.take e.toNat (aJ a)->g.1<=ab a+(1:Int))/\f=gv a e.toNat)/\b=b/\c=c/\(0:Int)=0/\(0:Int)=e/\(0:Int)=0/\(0:Int)=0/\(0:Int)=0/\(0:Int)=0/\IntKind.wrap .i64 (a.1+(1:Int))=f.1/\a.2.1=f.2.1/\a.2.2.1=f.2.2.1/\a.2.2.2.1=f.2.2.2.1/\a.2.2.2.2.1=f.2.2.2.2.1/\a.2.2.2.2.2.1=f.2.2.2.2.2.1/\a.2.2.2.2.2.2.1=f.2.2.2.2.2.2.1/\a.2.2.2.2.2.2.2.1=f.2.2.2.2.2.2.2.1/\a.2.2.2.2.2.2.2.2=f.2.2.2.2.2.2.2.2/\True)/\ ∀(e:Int)(f:aj),0<=e/\e<=((List.length (aJ a)):Int)/\(∀(g:af),g∈List.take e.toNat (aJ a)->g.1<=ab a+(1:Int))/\f=gv a e.toNat-> ∀(g:Bool),g=decide (e<(gW f))->(g->(g->g)/\True)/\(g->(g->g)/\(g->g)/\0<=e/\e<(gW
 f)/\True)/\(g->(g->g)/\True)/\(g->(g->g)/\True)/\(g->(g->g)/\True)/\(g->(g->g)/\(g->g)/\True)/\(g->g)/\ah (bif g then decide ((kg e f).1=f.1) else false) (0<=e/\e<(gW f)/\(3:Nat)<=List.length (kg e f).2.2/\((List.length (kg e f).2.2):Int)<=1000000/\0<=az f/\az f<=100000/\0<=ak f/\ak f<=100000/\List.length (aF f)<=(100000:Nat)/\List.length (aH f)<=(100000:Nat)/\ ∃(h:Int) (i:aj),(0<=h/\h<=((List.length (aJ a)):Int)/\(∀(j:af),j∈List.take h.toNat (aJ a)->j.1<=ab a+(1:Int))/\i=gv a h.toNat)/\Int.toNat (((List.length (aJ a)):Int) -h)<Int.toNat (((List.length (aJ a)):Int) -e)/\b=b/\c=c/\(0:Int)=0/\IntKind.wrap .i64 (e+(1:Int))=h/\(0:Int)=0/\(0:Int)=0/\(0:Int)=0/\(0:Int)=0/\f.1=i.1/\f.2.1=i.2.1/\f.2.2.1=i.2.2.1/\f.2.2.2.1=i.2.2.2.1/\f.2.2.2.2.1=i.2.2.2.2.1/\(pC e f).1=i.2.2.2.2.2.1/\(pC e
 f).2=i.2.2.2.2.2.2.1/\f.2.2.2.2.2.2.2.1=i.2.2.2.2.2.2.2.1/\f.2.2.2.2.2.2.2.2=i.2.2.2.2.2.2.2.2/\True) (0<=e/\e<=(gW f)/\(gW f)<=(gW f)/\ah (decide (0<e)) (List.length (aF (ku e f))<=(65535:Nat)/\List.length (aH (ku e f))<=(100000:Nat)/\(∀(h:ax),h∈aH (ku e f)->0<=h.1/\h.1<=65535)/\(0:Int)<=0/\(f.2.2.2.2.2.2.2.2.length:Int)<=1000000/\0<=f.1/\f.1<=1125899906842624/\0<=f.2.1/\f.2.1<=1125899906842624/\fZ (bi c (Int.toNat (0:Int)))/\ ∃(h:aj),h=dO a c (az a)/\b=b/\c=c/\(0:Int)=0/\(0:Int)=0/\(0:Int)=0/\(0:Int)=0/\(0:Int)=0/\f.1=h.1/\(p8 c e f).1=h.2.1/\f.2.2.1=h.2.2.1/\f.2.2.2.1=h.2.2.2.1/\f.2.2.2.2.1=h.2.2.2.2.1/\f.2.2.2.2.2.1=h.2.2.2.2.2.1/\f.2.2.2.2.2.2.1=h.2.2.2.2.2.2.1/\bf f.2.2.2.2.2.2.2.1 e.toNat (Int.toNat (gW f))=h.2.2.2.2.2.2.2.1/\(p8 c e f).2=h.2.2.2.2.2.2.2.2/\True) (∃(h:aj),h=dO a c (az
 a)/\b=b/\c=c/\(0:Int)=0/\(0:Int)=0/\(0:Int)=0/\(0:Int)=0/\(0:Int)=0/\f.1=h.1/\f.2.1=h.2.1/\f.2.2.1=h.2.2.1/\f.2.2.2.1=h.2.2.2.1/\f.2.2.2.2.1=h.2.2.2.2.1/\f.2.2.2.2.2.1=h.2.2.2.2.2.1/\f.2.2.2.2.2.2.1=h.2.2.2.2.2.2.1/\bf f.2.2.2.2.2.2.2.1 e.toNat (Int.toNat (gW f))=h.2.2.2.2.2.2.2.1/\f.2.2.2.2.2.2.2.2=h.2.2.2.2.2.2.2.2/\True)/\ ∀(h:aj),h=dO a c (az a)->(∃(i:Int) (j:aj),∃(k:List Int),(0<=i/\i<=((List.length (au a c).2):Int)/\(∀(l:af),l∈List.take i.toNat (au a c).2->l.1<=ab a+(1:Int))/\j=dO a c (bD (az a) (List.take i.toNat (au a c).2))/\k=bK (List.take i.toNat (au a
 c).2))/\b=b/\c=c/\(0:Int)=0/\(0:Int)=i/\(0:Int)=0/\(0:Int)=0/\(0:Int)=0/\(0:Int)=0/\h.1=j.1/\h.2.1=j.2.1/\h.2.2.1=j.2.2.1/\h.2.2.2.1=j.2.2.2.1/\h.2.2.2.2.1=j.2.2.2.2.1/\h.2.2.2.2.2.1=j.2.2.2.2.2.1/\h.2.2.2.2.2.2.1=j.2.2.2.2.2.2.1/\h.2.2.2.2.2.2.2.1=j.2.2.2.2.2.2.2.1/\h.2.2.2.2.2.2.2.2=j.2.2.2.2.2.2.2.2/\k=([]:List Int)/\True)/\ ∀(i:Int)(j:aj)(k:List Int),0<=i/\i<=((List.length (au a c).2):Int)/\(∀(l:af),l∈List.take i.toNat (au a c).2->l.1<=ab a+(1:Int))/\j=dO a c (bD (az a) (List.take i.toNat (au a c).2))/\k=bK (List.take i.toNat (au a c).2)-> ∀(l:Bool),l=decide (i<(iV j))->(l->(l->l)/\True)/\(l->(l->l)/\(l->l)/\0<=i/\i<(iV j)/\True)/\(l->(l->l)/\True)/\(l->(l->l)/\True)/\(l->(l->l)/\True)/\(l->(l->l)/\(l->l)/\True)/\(l->l)/\ah (bif l then decide ((fI i j).1=j.1) else false) (0<=i/\i<(iV j)/\(hP i j)<=9223372036854775807/\(∃(m:Int) (n:List
 Int),(3<=m/\m<=(hP i j)/\(m -(3:Int))%(2:Int)=0/\n=k++cJ (List.take (Int.toNat (m -(3:Int))) (List.drop (3:Nat) (fI i j).2.2)))/\b=b/\c=c/\(0:Int)=0/\i=i/\(fI i j).2.2=(fI i j).2.2/\(3:Int)=m/\j.1=j.1/\j.2.1=j.2.1/\j.2.2.1=j.2.2.1/\j.2.2.2.1=j.2.2.2.1/\max j.2.2.2.2.1 (kx i j)=max j.2.2.2.2.1 (kx i j)/\j.2.2.2.2.2.1=j.2.2.2.2.2.1/\j.2.2.2.2.2.2.1=j.2.2.2.2.2.2.1/\j.2.2.2.2.2.2.2.1=j.2.2.2.2.2.2.2.1/\j.2.2.2.2.2.2.2.2=j.2.2.2.2.2.2.2.2/\(0:Int)=0/\(0:Int)=0/\(0:Int)=0/\(0:Int)=0/\k=n/\True)/\ ∀(m:Int)(n:List Int),3<=m/\m<=(hP i j)/\(m -(3:Int))%(2:Int)=0/\n=k++cJ (List.take (Int.toNat (m -(3:Int))) (List.drop (3:Nat) (fI i j).2.2))->ah (decide (IntKind.wrap .i64 (m+(1:Int))<(hP i j))) ((hP i j)<=9223372036854775807/\(n.length+List.length [bj (fI i j).2.2 m (2:Int)])*(8:Nat)<=(gw)/\ ∃(o:Int) (p:List Int),(3<=o/\o<=(hP i j)/\(o
 -(3:Int))%(2:Int)=0/\p=k++cJ (List.take (Int.toNat (o -(3:Int))) (List.drop (3:Nat) (fI i j).2.2)))/\Int.toNat ((hP i j) -o)<Int.toNat ((hP i j) -m)/\b=b/\c=c/\(0:Int)=0/\i=i/\(fI i j).2.2=(fI i j).2.2/\IntKind.wrap .i64 (m+(2:Int))=o/\j.1=j.1/\j.2.1=j.2.1/\j.2.2.1=j.2.2.1/\j.2.2.2.1=j.2.2.2.1/\max j.2.2.2.2.1 (kx i j)=max j.2.2.2.2.1 (kx i j)/\j.2.2.2.2.2.1=j.2.2.2.2.2.1/\j.2.2.2.2.2.2.1=j.2.2.2.2.2.2.1/\j.2.2.2.2.2.2.2.1=j.2.2.2.2.2.2.2.1/\j.2.2.2.2.2.2.2.2=j.2.2.2.2.2.2.2.2/\(0:Int)=0/\(0:Int)=0/\(0:Int)=0/\(0:Int)=0/\n++[bj (fI i j).2.2 m (2:Int)]=p/\True) (∃(o:Int) (p:aj),∃(q:List Int),(0<=o/\o<=((List.length (au a c).2):Int)/\(∀(r:af),r∈List.take o.toNat (au a c).2->r.1<=ab a+(1:Int))/\p=dO a c (bD (az a) (List.take o.toNat (au a c).2))/\q=bK (List.take o.toNat (au a c).2))/\Int.toNat (((List.length (au a c).2):Int) -o)<Int.toNat
 (((List.length (au a c).2):Int) -i)/\b=b/\c=c/\(0:Int)=0/\IntKind.wrap .i64 (i+(1:Int))=o/\(0:Int)=0/\(0:Int)=0/\(0:Int)=0/\(0:Int)=0/\j.1=p.1/\j.2.1=p.2.1/\j.2.2.1=p.2.2.1/\j.2.2.2.1=p.2.2.2.1/\max j.2.2.2.2.1 (kx i j)=p.2.2.2.2.1/\j.2.2.2.2.2.1=p.2.2.2.2.2.1/\j.2.2.2.2.2.2.1=p.2.2.2.2.2.2.1/\j.2.2.2.2.2.2.2.1=p.2.2.2.2.2.2.2.1/\j.2.2.2.2.2.2.2.2=p.2.2.2.2.2.2.2.2/\n=q/\True)) (0<=i/\i<=(iV j)/\(iV j)<=(iV j)/\(∃(m:Int) (n:Int),∃(o:Int) (p:List af),(aE a c<=m/\0<=n/\n<=m -aE a c/\cG (ab a+(1:Int)) o p/\o<=(au a c).1+(9:Int)*n/\m<=aE a c+ak a/\bV (ab a+(1:Int)) (ae a) b (fG a c m) n.toNat (o,p)=cV a b c)/\b=b/\c=c/\(0:Int)=0/\(0:Int)=n/\j.2.2.2.2.1=m/\k=k/\(0:Int)=0/\(0:Int)=0/\(0:Int)=0/\(0:Int)=0/\j.1=ab a+(1:Int)/\j.2.1=o/\j.2.2.1=ak a/\j.2.2.2.1=ae a/\j.2.2.2.2.1=aE a c/\j.2.2.2.2.2.1=(aO a).1/\j.2.2.2.2.2.2.1=(aO
 a).2/\j.2.2.2.2.2.2.2.1=p/\bf j.2.2.2.2.2.2.2.2 i.toNat (Int.toNat (iV j))=aX (ab a+(1:Int)) (au a c).2/\True)/\ ∀(m n o:Int)(p:List af),aE a c<=m/\0<=n/\n<=m -aE a c/\cG (ab a+(1:Int)) o p/\o<=(au a c).1+(9:Int)*n/\m<=aE a c+ak a/\bV (ab a+(1:Int)) (ae a) b (fG a c m) n.toNat (o,p)=cV a b c-> ∀(q:Bool),q=decide (m<((List.length (ae a)):Int))->(q->(q->q)/\True)/\(q->(q->q)/\True)/\(q->(q->q)/\(q->q)/\True)/\(q->(q->q)/\(q->q)/\True)/\(q->q)/\ah (bif q then decide (m<IntKind.wrap .i64 (aE a c+ak a)) else false) ((∃(r:Int) (s:Bool),(0<=r/\r<=(k.length:Int)/\s=decide (m∈List.take r.toNat k))/\b=b/\c=c/\(0:Int)=0/\n=n/\m=m/\false=s/\(0:Int)=r/\ab a+(1:Int)=ab a+(1:Int)/\o=o/\ak a=ak a/\ae a=ae a/\aE a c=aE a c/\(aO a).1=(aO a).1/\(aO a).2=(aO a).2/\p=p/\aX (ab a+(1:Int)) (au a c).2=aX (ab a+(1:Int)) (au a
 c).2/\k=k/\(m6))/\ ∀(r:Int)(s:Bool),0<=r/\r<=(k.length:Int)/\s=decide (m∈List.take r.toNat k)->ah (decide (r<(k.length:Int))) (∀(t:Bool),t=s->((! t)->((! t)->(! t))/\((! t)->(! t))/\0<=r/\r<(k.length:Int)/\True)/\((! t)->((! t)->(! t))/\True)/\((! t)->((! t)->(! t))/\((! t)->(! t))/\True)/\(t=false->(! t))/\ ∃(u:Int) (v:Bool),(0<=u/\u<=(k.length:Int)/\v=decide (m∈List.take u.toNat k))/\Int.toNat ((k.length:Int) -u)<Int.toNat ((k.length:Int) -r)/\b=b/\c=c/\(0:Int)=0/\n=n/\m=m/\(bif t then true else decide (k.getD r.toNat default=m))=v/\IntKind.wrap .i64 (r+(1:Int))=u/\ab a+(1:Int)=ab a+(1:Int)/\o=o/\ak a=ak a/\ae a=ae a/\aE a c=aE a c/\(aO a).1=(aO a).1/\(aO a).2=(aO a).2/\p=p/\aX (ab a+(1:Int)) (au a c).2=aX (ab a+(1:Int)) (au a c).2/\k=k/\(m6)) (ah (! s) (0<=m/\m<=65535/\m<((List.length (ae a)):Int)/\List.length (List.getD (ae a) m.toNat
 default)<=(1048576:Nat)/\0<=n/\(p.length:Int)<=1000000/\0<=ab a+(1:Int)/\ab a+(1:Int)<=1125899906842624/\0<=o/\o<=1125899906842624/\fZ (bi b n.toNat)/\ ∃(t:Int) (u:Int),∃(v:Int) (w:List af),(aE a c<=t/\0<=u/\u<=t -aE a c/\cG (ab a+(1:Int)) v w/\v<=(au a c).1+(9:Int)*u/\t<=aE a c+ak a/\bV (ab a+(1:Int)) (ae a) b (fG a c t) u.toNat (v,w)=cV a b c)/\Int.toNat (aE a c+ak a -t)<Int.toNat (aE a c+ak a -m)/\b=b/\c=c/\(0:Int)=0/\IntKind.wrap .i64 (n+(1:Int))=u/\IntKind.wrap .i64 (m+(1:Int))=t/\k=k/\(0:Int)=0/\(0:Int)=0/\(0:Int)=0/\(0:Int)=0/\ab a+(1:Int)=ab a+(1:Int)/\(bg (ab a+(1:Int)) (bF m (List.getD (ae a) m.toNat default)) (bi b n.toNat) (o,p)).1=v/\ak a=ak a/\ae a=ae a/\aE a c=aE a c/\(aO a).1=(aO a).1/\(aO a).2=(aO a).2/\(bg (ab a+(1:Int)) (bF m (List.getD (ae a) m.toNat default)) (bi b n.toNat)
 (o,p)).2=w/\aX (ab a+(1:Int)) (au a c).2=aX (ab a+(1:Int)) (au a c).2/\True) (∃(t:Int) (u:Int),∃(v:Int) (w:List af),(aE a c<=t/\0<=u/\u<=t -aE a c/\cG (ab a+(1:Int)) v w/\v<=(au a c).1+(9:Int)*u/\t<=aE a c+ak a/\bV (ab a+(1:Int)) (ae a) b (fG a c t) u.toNat (v,w)=cV a b c)/\Int.toNat (aE a c+ak a -t)<Int.toNat (aE a c+ak a -m)/\b=b/\c=c/\(0:Int)=0/\n=u/\IntKind.wrap .i64 (m+(1:Int))=t/\k=k/\(0:Int)=0/\(0:Int)=0/\(0:Int)=0/\(0:Int)=0/\ab a+(1:Int)=ab a+(1:Int)/\o=v/\ak a=ak a/\ae a=ae a/\aE a c=aE a c/\(aO a).1=(aO a).1/\(aO a).2=(aO a).2/\p=w/\aX (ab a+(1:Int)) (au a c).2=aX (ab a+(1:Int)) (au a c).2/\True))) ((ab a+(1:Int),o,ak a,ae a,aE a c,(aO a).1,(aO a).2,p,aX (ab a+(1:Int)) (au a c).2)=jk a b c/\(0:Int)=fj a b c))))):=by
  delta ku fI kg gW o5 hP qX iV p8 gw kx m6 pC lS
  rintro c ds us-⟨⟨hx,ho⟩,hd1,hu1⟩
  rw[ad (n:=(ds.length:Int)+us.length) (by omega) (by omega)]
  refine⟨⟨0,⟨by omega,by omega,by simp⟩,(by repeat' first|exact trivial|refine⟨trivial,?_⟩|refine⟨(by with_reducible rfl),?_⟩|refine⟨ad (by omega) (by omega),?_⟩|refine⟨rfl,?_⟩)⟩,?_⟩
  rintro j ⟨j0,j1,hok⟩
  have happ:((ds++us).length:Int)=ds.length+us.length:=by rw[List.length_append];omega
  refine aq (fun hj=>?_) (fun hj=>?_)
  ·have hj:=of_decide_eq_true hj
   rw[ad (n:=j-(ds.length:Int)) (by omega) (by omega)]
   have hmem:=ce (xs:=ds++us) j0 (by omega)
   have hnx:=dK (l:=ds++us) j0 (by omega)
   have hel:(ds++us).getD j.toNat default=if j<ds.length then ds.getD j.toNat default else us.getD (j-(ds.length:Int)).toNat default:=by
    rw[List.getD_eq_getElem?_getD]
    split
    ·rw[List.getElem?_append_left (by omega),List.getD_eq_getElem?_getD]
    ·rw[List.getElem?_append_right (by omega),List.getD_eq_getElem?_getD,show j.toNat-ds.length=(j-(ds.length:Int)).toNat by omega]
   (repeat (intro (b_:Bool) (hb_:b_=_);(repeat refine⟨(by first|(simp;done)|(rw[hb_];simp;done)|(rw[hb_];simp;omega)|(rw[hb_];simp;intros;omega)|(rw[hb_];simp +contextual;done)),?_⟩);subst hb_))
   refine⟨fun h_=>(by rw[h_];rfl),?_⟩
   have hc:(bif bif decide (j<(ds.length:Int)) then !c9 (ds.getD j.toNat default) else false then true else bif decide ((ds.length:Int)<=j) then !c9 (us.getD (j-(ds.length:Int)).toNat default) else false) = !c9 ((ds++us).getD j.toNat default):=by
    rw[hel]
    by_cases h:j<(ds.length:Int)
    ·rw[if_pos h,decide_eq_true h,decide_eq_false (show ¬ (ds.length:Int)<=j by omega)]
     cases c9 (ds.getD j.toNat default) <;> rfl
    ·rw[if_neg h,decide_eq_false h,decide_eq_true (show (ds.length:Int)<=j by omega)]
     rfl
   rw[hc]
   refine aq (fun hq=>?_) (fun hq=>?_)
   ·have hq:c9 ((ds++us).getD j.toNat default)=false:=by simpa using hq
    have e:fj c ds us=1:=by
     unfold fj
     refine if_pos (Bool.eq_false_iff.2 fun k=>?_)
     obtain⟨k1,k2⟩:=Bool.and_eq_true_iff.1 k
     have:c9 ((ds++us).getD j.toNat default)=true:=by
      rcases List.mem_append.1 hmem with q|q
      ·exact List.all_eq_true.1 k1 _ q
      ·exact List.all_eq_true.1 k2 _ q
     rw[hq] at this;cases this
    unfold jk
    rw[e]
    exact⟨rfl,rfl⟩
   ·have hq:c9 ((ds++us).getD j.toNat default)=true:=by simpa using hq
    refine⟨j+1,⟨by omega,by omega,fun x hx=>?_⟩,by omega,(by repeat' first|exact trivial|refine⟨trivial,?_⟩|refine⟨(by with_reducible rfl),?_⟩|refine⟨ad (by omega) (by omega),?_⟩|refine⟨rfl,?_⟩)⟩
    rw[hnx] at hx
    rcases List.mem_append.1 hx with hx|hx
    ·exact hok x hx
    ·rw[List.mem_singleton.1 hx];exact hq
  have hj:=of_decide_eq_false hj
  rw[List.take_of_length_le (by omega)] at hok
  have hB1:gZ ds=true:=List.all_eq_true.2 fun x hx=>hok x (List.mem_append_left _ hx)
  have hB2:gZ us=true:=List.all_eq_true.2 fun x hx=>hok x (List.mem_append_right _ hx)
  have hd:=mQ.1 hB1
  have hu:=mQ.1 hB2
  refine aq (fun h3=>?_) (fun h3=>?_)
  ·have h3:1099511627776<=ab c:=of_decide_eq_true h3
   have e:fj c ds us=5:=by
    unfold fj
    rw[hB1,hB2,if_neg (by decide),if_pos h3]
   unfold jk
   rw[e]
   exact⟨rfl,rfl⟩
  have hnow:¬ 1099511627776<=ab c:=of_decide_eq_false h3
  have hE:fj c ds us=0:=by
   unfold fj
   rw[hB1,hB2,if_neg (by decide),if_neg hnow]
  have hC:jk c ds us=bh c ds us:=if_pos hE
  rw[hE,hC]
  clear hE hC hok j0 j1 happ hB1 hB2 h3
  have n0:=hx.now
  have o0:=hx.ord
  have hwin:=hx.win
  have hlog:=hx.log
  have hkn:=hx.kn
  have hgl:(aF c).length<=(ae c).length:=hx.rc.n
  obtain⟨⟨pu1,pu2,pu3,pu4⟩,pk1,pk2⟩:=hx.parts hu
  obtain⟨q1,q2,q3,q4⟩:=nh (ab c+1) (aJ c)
  have q5:=vW (ab c+1) (aJ c)
  have ew:IntKind.i64.wrap (c.1+1)=ab c+1:=ad (by show _<=ab c+1;omega) (by show ab c+1<=_;omega)
  rw[ew]
  have hdl:=hx.dn.n
  have hrec:∀ n:Nat,ir (ae c) (az c+ak c) (bU (az c+ak c) ((aJ c).take n) (aF c,aH c)):=fun n =>
   (jX hlog (l:=(aJ c).take n) hx.rc fun t ht=>hx.dd t (List.mem_of_mem_take ht)).1
  have hrt:∀ n:Nat,_:=fun n=>nG (g:=(bU (az c+ak c) ((aJ c).take n) (aF c,aH c)).1) (e:=(bU (az c+ak c) ((aJ c).take n) (aF c,aH c)).2) (hrec n) hlog ⟨hkn.1,by omega⟩ hwin
  refine⟨⟨0,gv c 0,⟨by omega,by omega,by simp,rfl⟩,(by repeat' first|exact trivial|refine⟨trivial,?_⟩|refine⟨(by with_reducible rfl),?_⟩|refine⟨ad (by omega) (by omega),?_⟩|refine⟨rfl,?_⟩)⟩,?_⟩
  rintro j b ⟨j0,j1,hj1,rfl⟩
  have e8:(gv c j.toNat).2.2.2.2.2.2.2.1=aJ c:=rfl
  have e1:(gv c j.toNat).1=ab c+1:=rfl
  rw[e8,e1]
  (repeat (intro (b_:Bool) (hb_:b_=_);(repeat refine⟨(by first|(simp;done)|(rw[hb_];simp;done)|(rw[hb_];simp;omega)|(rw[hb_];simp;intros;omega)|(rw[hb_];simp +contextual;done)),?_⟩);subst hb_))
  obtain⟨t1,t2,t3,t4⟩:=hrt j.toNat
  refine iA (fun h1 h2=>?_) (fun h1=>?_)
  ·have h1:=of_decide_eq_true h1
   have h2:=of_decide_eq_true h2
   have hmem:=ce (xs:=aJ c) j0 h1
   obtain⟨d1,d2⟩:=qb (hx.dd _ hmem) hx.it
   have hnx:=dK (l:=aJ c) j0 h1
   generalize (aJ c).getD j.toNat default=T at *
   refine⟨j0,h1,d1,by omega,hkn.1,by show az c<=_;omega,by show 0<=ak c;omega,by show ak c<=_;omega,by show (bU (az c+ak c) ((aJ c).take j.toNat) (aF c,aH c)).1.length<=_;omega,by show (bU (az c+ak c) ((aJ c).take j.toNat) (aF c,aH c)).2.length<=_;omega,
    j+1,(ab c+1,a8 c,ak c,ae c,az c,(cd (az c+ak c) (bU (az c+ak c) ((aJ c).take j.toNat) (aF c,aH c)) (aA T.2.2 1) (T.2.2.drop 3)).1,(cd (az c+ak c) (bU (az c+ak c) ((aJ c).take j.toNat) (aF c,aH c)) (aA T.2.2 1) (T.2.2.drop 3)).2,aJ c,ba c),⟨by omega,by omega,fun t ht=>?_,?_⟩,by omega,(by repeat' first|exact trivial|refine⟨trivial,?_⟩|refine⟨(by with_reducible rfl),?_⟩|refine⟨ad (by omega) (by omega),?_⟩|refine⟨rfl,?_⟩)⟩
   ·rw[hnx] at ht
    rcases List.mem_append.1 ht with ht|ht
    ·exact hj1 t ht
    ·rw[List.mem_singleton.1 ht];omega
   ·unfold gv
    rw[hnx,wI]
  have hjn:j.toNat=(am (ab c+1) (aJ c)).length:=by
   refine ni j0 j1 hj1 ?_
   rcases h1 with h1|h1
   ·exact .inl (of_decide_eq_false h1)
   ·by_cases hj2:j<(aJ c).length
    ·have h1:=of_decide_eq_false h1
     have:=(hx.dn.r _ (ce (xs:=aJ c) j0 hj2)).1
     exact .inr (by omega)
    ·exact .inl hj2
  have eS:bf (aJ c) j.toNat (Int.toNat ((aJ c).length:Int))=aX (ab c+1) (aJ c):=by
   unfold bf;rw[Int.toNat_natCast,List.take_length,hjn];exact q2
  rw[eS]
  have eA:bU (az c+ak c) ((aJ c).take j.toNat) (aF c,aH c)=aO c:=by rw[hjn,q5];rfl
  rw[eA] at t1 t2 t3 t4
  have eA1:(gv c j.toNat)=(ab c+1,a8 c,ak c,ae c,az c,(aO c).1,(aO c).2,aJ c,ba c):=by unfold gv;rw[eA]
  rw[eA1]
  have hf0:=iR hu 0
  refine⟨j0,by omega,by omega,aq (fun h=>?_) (fun h=>?_),?_⟩
  ·have h:=of_decide_eq_true h
   have eU:au c us=bg (ab c+1) (br ((aO c).1.length:Int) ((aO c).2.map (·.1))) (bi us 0) (a8 c,ba c):=if_neg fun k=>by rw[k] at hjn;simp at hjn;omega
   have eB:(ab c+1,(bg (ab c+1) (br ((aO c).1.length:Int) ((aO c).2.map (·.1))) (bi us 0) (a8 c,ba c)).1,ak c,ae c,az c,(aO c).1,(aO c).2,aX (ab c+1) (aJ c),(bg (ab c+1) (br ((aO c).1.length:Int) ((aO c).2.map (·.1))) (bi us 0) (a8 c,ba c)).2)=dO c us (az c):=by unfold dO;rw[eU]
   have hup:=hx.up.n
   exact⟨by show (aO c).1.length<=_;omega,by show (aO c).2.length<=_;omega,fun x hx=>by have:=t4 x hx;omega,by omega,by show ((ba c).length:Int)<=_;omega,by show 0<=ab c+1;omega,by show ab c+1<=_;omega,o0,by show a8 c<=_;omega,hf0,_,eB,(by repeat' first|exact trivial|refine⟨trivial,?_⟩|refine⟨(by with_reducible rfl),?_⟩|refine⟨ad (by omega) (by omega),?_⟩|refine⟨rfl,?_⟩)⟩
  ·have h:=of_decide_eq_false h
   have eU:au c us=(a8 c,ba c):=if_pos (List.eq_nil_of_length_eq_zero (by omega))
   have eB:(ab c+1,a8 c,ak c,ae c,az c,(aO c).1,(aO c).2,aX (ab c+1) (aJ c),ba c)=dO c us (az c):=by unfold dO;rw[eU]
   exact⟨_,eB,(by repeat' first|exact trivial|refine⟨trivial,?_⟩|refine⟨(by with_reducible rfl),?_⟩|refine⟨ad (by omega) (by omega),?_⟩|refine⟨rfl,?_⟩)⟩
  clear eA eA1 eS hjn h1 e8 e1 hj1 j0 j1 hrt
  rintro _ rfl
  refine⟨⟨0,dO c us (az c),[],⟨by omega,by omega,by simp,rfl,rfl⟩,(by repeat' first|exact trivial|refine⟨trivial,?_⟩|refine⟨(by with_reducible rfl),?_⟩|refine⟨ad (by omega) (by omega),?_⟩|refine⟨rfl,?_⟩)⟩,?_⟩
  rintro h b nt ⟨h0,h1,hh,rfl,rfl⟩
  have e9:(dO c us (bD (az c) ((au c us).2.take h.toNat))).2.2.2.2.2.2.2.2=(au c us).2:=rfl
  have e1:(dO c us (bD (az c) ((au c us).2.take h.toNat))).1=ab c+1:=rfl
  rw[e9,e1]
  (repeat (intro (b_:Bool) (hb_:b_=_);(repeat refine⟨(by first|(simp;done)|(rw[hb_];simp;done)|(rw[hb_];simp;omega)|(rw[hb_];simp;intros;omega)|(rw[hb_];simp +contextual;done)),?_⟩);subst hb_))
  have hun:=pu1.n
  have hodd:∀ t∈(au c us).2,∃ m:Nat,t.2.2.length=3+2*m/\m<=2000:=fun t ht=>pk (pu4 t ht) hlog
  refine iA (fun h2 h3=>?_) (fun h2=>?_)
  ·have h2:=of_decide_eq_true h2
   have h3:=of_decide_eq_true h3
   have hmem:=ce (xs:=(au c us).2) h0 h2
   have ht:=dK (l:=(au c us).2) h0 h2
   obtain⟨m,hl,hm2⟩:=hodd _ hmem
   generalize (au c us).2.getD h.toNat default=T at *
   have eM:bj T.2.2 1 2=aA T.2.2 1:=rfl
   rw[eM]
   refine⟨h0,h2,by omega,⟨3,_,⟨by omega,by omega,rfl,rfl⟩,by (repeat first|refine⟨trivial,?_⟩|refine⟨(by with_reducible rfl),?_⟩|refine⟨ad (by omega) (by omega),?_⟩);exact⟨by simp[cJ],trivial⟩⟩,?_⟩
   rintro a nt2 ⟨a0,a1,a2,rfl⟩
   have hhn:=mD (l:=(au c us).2.take h.toNat) fun t ht=>hodd t (List.mem_of_mem_take ht)
   have hlt:((au c us).2.take h.toNat).length<=(au c us).2.length:=by rw[List.length_take];omega
   rw[ad (n:=a+1) (by omega) (by omega)]
   refine aq (fun ha=>?_) (fun ha=>?_)
   ·have ha:=of_decide_eq_true ha
    obtain⟨q,hq⟩:∃ q:Nat,a=3+2*(q:Int):=⟨((a-3)/2).toNat,by omega⟩
    subst hq
    have hp:=nu _ ((T.2.2.drop 3).take (3+2*(q:Int)-3).toNat) (Nat.le_refl _)
    have e1:(3+2*(q:Int)-3).toNat=2*q:=by omega
    have e2:(3+2*(q:Int)+2-3).toNat=2*q+2:=by omega
    have e3:(3+2*(q:Int))=((3+2*q:Nat):Int):=by omega
    have e4:bj T.2.2 (3+2*(q:Int)) 2=(T.2.2.drop 3).getD (2*q) 0*256+(T.2.2.drop 3).getD (2*q+1) 0:=by
     show aA T.2.2 (3+2*(q:Int))=_
     rw[e3,rF (by omega),← List.drop_drop]
     simp only[List.getD_eq_getElem?_getD,List.getElem?_drop,Nat.add_zero]
    refine⟨by omega,?_,3+2*(q:Int)+2,_,⟨by omega,by omega,by omega,rfl⟩,by omega,?_⟩
    ·rw[List.length_append,hp,List.length_singleton,List.length_take,List.length_drop];omega
    ·(repeat first|refine⟨trivial,?_⟩|refine⟨(by with_reducible rfl),?_⟩|refine⟨ad (by omega) (by omega),?_⟩)
     exact⟨by rw[e1,e2,e4,qF q (by rw[List.length_drop];omega),List.append_assoc],trivial⟩
   ·have ha:=of_decide_eq_false ha
    have w1:max (bD (az c) ((au c us).2.take h.toNat)) (aA T.2.2 1)=bD (az c) ((au c us).2.take (h+1).toNat):=by rw[ht,sd]
    have w2:bK ((au c us).2.take h.toNat)++cJ ((T.2.2.drop 3).take (a-3).toNat)=bK ((au c us).2.take (h+1).toNat):=by rw[ht,uh,List.take_of_length_le (l:=T.2.2.drop 3) (by rw[List.length_drop];omega)]
    have w3:max (dO c us (bD (az c) ((au c us).2.take h.toNat))).2.2.2.2.1 (aA T.2.2 1)=bD (az c) ((au c us).2.take (h+1).toNat):=w1
    rw[w2,w3]
    refine⟨h+1,dO c us (bD (az c) ((au c us).2.take (h+1).toNat)),_,⟨by omega,by omega,fun t htt=>?_,rfl,rfl⟩,by omega,(by repeat' first|exact trivial|refine⟨trivial,?_⟩|refine⟨(by with_reducible rfl),?_⟩|refine⟨ad (by omega) (by omega),?_⟩|refine⟨rfl,?_⟩)⟩
    rw[ht] at htt
    rcases List.mem_append.1 htt with htt|htt
    ·exact hh t htt
    ·rw[List.mem_singleton.1 htt];omega
  have hn:h.toNat=(am (ab c+1) (au c us).2).length:=by
   refine ni h0 h1 hh ?_
   rcases h2 with h2|h2
   ·exact .inl (of_decide_eq_false h2)
   ·by_cases hj2:h<(au c us).2.length
    ·have h2:=of_decide_eq_false h2
     have:=(pu1.r _ (ce (xs:=(au c us).2) h0 hj2)).1
     exact .inr (by omega)
    ·exact .inl hj2
  obtain⟨p1,p2,p3,p4⟩:=nh (ab c+1) (au c us).2
  have p5:=vW (ab c+1) (au c us).2
  have eS:bf (au c us).2 h.toNat (Int.toNat ((au c us).2.length:Int))=aX (ab c+1) (au c us).2:=by
   unfold bf;rw[Int.toNat_natCast,List.take_length,hn];exact p2
  have eT:(au c us).2.take h.toNat=dq c us:=by rw[hn];exact p5
  rw[eS,eT]
  have eK:bD (az c) (dq c us)=aE c us:=rfl
  rw[eK]
  have hD:bV (ab c+1) (ae c) ds (fG c us (aE c us)) 0 ((au c us).1,aX (ab c+1) (aJ c))=cV c ds us:=rfl
  have hR:∀ x,fG c us x=(dU x (min ((ae c).length:Int) (aE c us+ak c))).filter fun i => !(bK (dq c us)).contains i:=fun x=>rfl
  have hdn0:=(nO (now:=ab c+1) (by omega) hx.dn).more pu2
  have hfin:∀ o dn',(o,dn')=cV c ds us->((ab c+1,o,ak c,ae c,aE c us,(aO c).1,(aO c).2,dn',aX (ab c+1) (au c us).2):aj)=bh c ds us:=fun o dn' he=>by
   show _=((ab c+1,(cV c ds us).1,ak c,ae c,aE c us,(aO c).1,(aO c).2,(cV c ds us).2,aX (ab c+1) (au c us).2):aj)
   rw[← he]
  refine⟨h0,by omega,by omega,⟨aE c us,0,(au c us).1,aX (ab c+1) (aJ c),⟨by omega,by omega,by omega,hdn0.so (by omega) (by omega),by omega,by omega,hD⟩,(by repeat' first|exact trivial|refine⟨trivial,?_⟩|refine⟨(by with_reducible rfl),?_⟩|refine⟨ad (by omega) (by omega),?_⟩|refine⟨rfl,?_⟩)⟩,?_⟩
  have hit:=hx.it
  rintro x i o dn' ⟨x0,i0,i1,hs,ho2,x1,he⟩
  rw[ad (n:=aE c us+ak c) (by omega) (by omega)]
  (repeat (intro (b_:Bool) (hb_:b_=_);(repeat refine⟨(by first|(simp;done)|(rw[hb_];simp;done)|(rw[hb_];simp;omega)|(rw[hb_];simp;intros;omega)|(rw[hb_];simp +contextual;done)),?_⟩);subst hb_))
  refine iA (fun h4 h5=>?_) (fun h4=>?_)
  ·have h4:=of_decide_eq_true h4
   have h5:=of_decide_eq_true h5
   have hcons:=vC (x:=x) (b:=min ((ae c).length:Int) (aE c us+ak c)) (by omega)
   have hNl:=mD (l:=dq c us) fun t ht=>hodd t (p4 t ht)
   have p1':(dq c us).length<=(au c us).2.length:=p1
   generalize hN:bK (dq c us)=N at *
   refine⟨⟨0,false,⟨by omega,by omega,by simp⟩,(by repeat' first|exact trivial|refine⟨trivial,?_⟩|refine⟨(by with_reducible rfl),?_⟩|refine⟨ad (by omega) (by omega),?_⟩|refine⟨rfl,?_⟩)⟩,?_⟩
   rintro k b ⟨k0,k1,rfl⟩
   refine aq (fun hk=>?_) (fun hk=>?_)
   ·have hk:=of_decide_eq_true hk
    have hnx:=dK (l:=N) k0 hk
    (repeat (intro (b_:Bool) (hb_:b_=_);(repeat refine⟨(by first|(simp;done)|(rw[hb_];simp;done)|(rw[hb_];simp;omega)|(rw[hb_];simp;intros;omega)|(rw[hb_];simp +contextual;done)),?_⟩);subst hb_))
    refine⟨k+1,_,⟨by omega,by omega,rfl⟩,by omega,?_⟩
    (repeat first|refine⟨trivial,?_⟩|refine⟨(by with_reducible rfl),?_⟩|refine⟨ad (by omega) (by omega),?_⟩)
    refine⟨?_,(by repeat' first|exact trivial|refine⟨trivial,?_⟩|refine⟨(by with_reducible rfl),?_⟩|refine⟨ad (by omega) (by omega),?_⟩|refine⟨rfl,?_⟩)⟩
    rw[hnx,Ai]
    refine decide_eq_decide.2 ?_
    rw[List.mem_append,List.mem_singleton]
    exact⟨fun q=>q.imp id Eq.symm,fun q=>q.imp id Eq.symm⟩
   ·have hk:=of_decide_eq_false hk
    rw[List.take_of_length_le (by omega)]
    refine aq (fun hm=>?_) (fun hm=>?_)
    ·have hm:=ls hm
     have hf:=iR hd i.toNat
     have hil:=hit _ (ce (xs:=ae c) (i:=x) (by omega) h4)
     have hs0:=hs
     obtain⟨-,oo,-,-,hdn⟩:=hs0
     obtain⟨s1,s2⟩:=tk (b:=bF x ((ae c).getD x.toNat default)) hf hs (by omega)
     refine⟨by omega,by omega,h4,by omega,i0,by omega,by omega,by omega,oo.1,by omega,hf,x+1,i+1,(bg (ab c+1) (bF x ((ae c).getD x.toNat default)) (bi ds i.toNat) (o,dn')).1,(bg (ab c+1) (bF x ((ae c).getD x.toNat default)) (bi ds i.toNat) (o,dn')).2,⟨by omega,by omega,by omega,s1,by omega,by omega,?_⟩,by omega,(by repeat' first|exact trivial|refine⟨trivial,?_⟩|refine⟨(by with_reducible rfl),?_⟩|refine⟨ad (by omega) (by omega),?_⟩|refine⟨rfl,?_⟩)⟩
     rw[← he,hR x,hR,hcons,List.filter_cons_of_pos (by simpa using hm),show (i+1).toNat=i.toNat+1 by omega]
     rfl
    ·have hm:=lO hm
     refine⟨x+1,i,o,dn',⟨by omega,i0,by omega,hs,ho2,by omega,?_⟩,by omega,(by repeat' first|exact trivial|refine⟨trivial,?_⟩|refine⟨(by with_reducible rfl),?_⟩|refine⟨ad (by omega) (by omega),?_⟩|refine⟨rfl,?_⟩)⟩
     rw[← he,hR,hR,hcons,List.filter_cons_of_neg (by simpa using hm)]
  ·have hx2:¬ x<min ((ae c).length:Int) (aE c us+ak c):=by
    rcases h4 with q|q
    ·have:=of_decide_eq_false q;omega
    ·have:=of_decide_eq_false q;omega
   refine⟨hfin o dn' ?_,rfl⟩
   rw[← he,hR,vR hx2]
   rfl
theorem AM:aG Try.prog GL 30 uX.spec:=Ct.okH _ Try.func30 (by kernel_rfl) (ay (ay (ay (ay (ay (ay (ay aP Dh) CZ) Ap) Bx) CN) nX) tV) aD Bp (aQ (by kernel_rfl) Ew)
end Go.RS

/- Lawx1: what the laws of the exchange draw. -/
namespace Go.RS
open Go.SX Go.Proofs
set_option maxRecDepth 100000
set_option linter.unusedVariables false
def sF:Cn:=⟨[.box 58 gh,.val cI],[.val (.sl aV)],fun d=>[ar d.1,0<=d.2.1,d.2.1<=1000],fun d y=>ar y.2.1/\(y.1.1.length:Int)<=d.2.1,fun d h=>⟨(([],()),(d.1,())),h.1,by simp;exact h.2.1⟩⟩
def zi:aC sF.ps->aN:=(fun d=>{loops:=(fun n=>match n with|3=>some (fun S=>{ι:=Int×(List Int×Int)×(List Int),qn:=⟨fun k_=>∀(k:Int)(c:(List Int×Int))(b:(List Int)),k_ (k,c,b),fun k_ h_ i=>h_ i.1 i.2.1 i.2.2,fun k_=>∃ (k:Int) (c:(List Int×Int)) (b:(List Int)),k_ (k,c,b),fun k_ ⟨k,c,b,h_⟩=>⟨_,h_⟩⟩,μ:=fun i=>i.1.toNat,inv:=fun i=>0<=i.1/\ar i.2.1/\i.2.2.length+i.1<=d.2.1,keep:=[0,4],slots:=fun i=>[(5,.own 524288 1),(6,.int .i64 i.1)],names:=fun i=>[(1048576,.live (.cells 58 (bu gh i.2.1))),(524288,.live (.row 5 aV i.2.2))]})|_=>none)})
theorem B2 :
 ∀(a:List Int)(b c:Int),((a.length<=maxLen/\ ∀(d:Int),d∈a->0<=d/\d<=255)/\ao b)/\ao c/\True->ar (a,b)/\0<=c/\c<=1000->ar (a,b)/\ ∀(d:Int)(e:List Int)(f:Int),0<=d/\(d<IntKind.wrap .i64 (c+(1:Int))∨d=0)/\ar (e,f)->(∃(g:Int) (h:List Int×Int),∃(i:List Int),(0<=g/\ar h/\(i.length:Int)+g<=c)/\d=g/\e=h.1/\f=h.2/\i=([]:List Int)/\True)/\ ∀(g:Int)(h:List Int×Int)(i:List Int),0<=g/\ar h/\(i.length:Int)+g<=c->ah (decide (0<g)) (ar h/\ ∀(j:Int)(k:List Int)(l:Int),0<=j/\(j<256∨j=0)/\ar (k,l)->(i.length+List.length [IntKind.wrap .u8 j])*(1:Nat)<=(140737488355328:Nat)/\ ∃(m:Int) (n:List Int×Int),∃(o:List Int),(0<=m/\ar n/\(o.length:Int)+m<=c)/\m.toNat<g.toNat/\IntKind.wrap .i64 (g -(1:Int))=m/\k=n.1/\l=n.2/\i++[IntKind.wrap .u8 j]=o/\True) (ar h/\(i.length:Int)<=c):=by
  rintro l p n-⟨hc,n0,n1⟩
  refine⟨hc,?_⟩
  rintro k l2 p2 ⟨k0,k1,hc2⟩
  rw[ad (by omega) (by omega)] at k1
  refine⟨⟨k,(l2,p2),[],⟨k0,hc2,by simp only[List.length_nil];omega⟩,(by repeat' first|exact trivial|refine⟨trivial,?_⟩|refine⟨(by with_reducible rfl),?_⟩|refine⟨ad (by omega) (by omega),?_⟩|refine⟨rfl,?_⟩)⟩,?_⟩
  rintro k c b ⟨k0,hc,hb⟩
  refine aq (fun h=>⟨hc,?_⟩) (fun h=>⟨hc,by omega⟩)
  have h:=of_decide_eq_true h
  rintro x l3 p3 ⟨-,-,hc3⟩
  exact⟨by simp only[List.length_singleton];omega,k-1,(l3,p3),b++[IntKind.wrap IntKind.u8 x],⟨by omega,hc3,by rw[List.length_append,List.length_singleton];omega⟩,by omega,(by repeat' first|exact trivial|refine⟨trivial,?_⟩|refine⟨(by with_reducible rfl),?_⟩|refine⟨ad (by omega) (by omega),?_⟩|refine⟨rfl,?_⟩)⟩
theorem r8:aG Try.prog GL 19 sF.spec:=Cn.okH _ Try.func19 (by kernel_rfl) (ay aP lx) aD zi (aQ (by kernel_rfl) B2)
def sg:Cn:=⟨[.box 58 gh,.val cI],[.own 67 fe],fun d=>[ar d.1,0<=d.2.1,d.2.1<=1000],fun d y=>ar y.2.1/\(y.1.1.length:Int)<=d.2.1∧∀ f∈y.1.1,0<=f.2.2/\f.2.2<=1,fun d h=>⟨(([],()),(d.1,())),h.1,by simp;exact h.2.1,by simp⟩⟩
def xO:aC sg.ps->aN:=(fun d=>{loops:=(fun n=>match n with|3=>some (fun S=>{ι:=Int×(List Int×Int)×(List a7),qn:=⟨fun k_=>∀(k:Int)(c:(List Int×Int))(l:(List a7)),k_ (k,c,l),fun k_ h_ i=>h_ i.1 i.2.1 i.2.2,fun k_=>∃ (k:Int) (c:(List Int×Int)) (l:(List a7)),k_ (k,c,l),fun k_ ⟨k,c,l,h_⟩=>⟨_,h_⟩⟩,μ:=fun i=>i.1.toNat,inv:=fun i=>0<=i.1/\ar i.2.1/\i.2.2.length+i.1<=d.2.1∧∀ f∈i.2.2,0<=f.2.2/\f.2.2<=1,keep:=[0,4],slots:=fun i=>[(5,.own 524288 3),(6,.int .i64 i.1)],names:=fun i=>[(1048576,.live (.cells 58 (bu gh i.2.1))),(524288,.live (.row 67 fe i.2.2))]})|_=>none)})
theorem AS :
 ∀(a:List Int)(b c:Int),((a.length<=maxLen/\ ∀(d:Int),d∈a->0<=d/\d<=255)/\ao b)/\ao c/\True->ar (a,b)/\0<=c/\c<=1000->ar (a,b)/\ ∀(d:Int)(e:List Int)(f:Int),0<=d/\(d<IntKind.wrap .i64 (c+(1:Int))∨d=0)/\ar (e,f)->(∃(g:Int) (h:List Int×Int),∃(i:List a7),(0<=g/\ar h/\(i.length:Int)+g<=c/\ ∀(j:a7),j∈i->0<=j.2.2/\j.2.2<=1)/\d=g/\e=h.1/\f=h.2/\i=([]:List (Bool×Int×Int))/\True)/\ ∀(g:Int)(h:List Int×Int)(i:List a7),(0<=g/\ar h/\(i.length:Int)+g<=c/\ ∀(j:a7),j∈i->0<=j.2.2/\j.2.2<=1)->ah (decide (0<g)) (ar h/\ ∀(j:Int)(k:List Int)(l:Int),0<=j/\(j<4∨j=0)/\ar (k,l)->ar (k,l)/\ ∀(m:Int)(n:List Int)(o:Int),0<=m/\(m<4∨m=0)/\ar (n,o)->ar (n,o)/\ ∀(p:Int)(q:List Int)(r:Int),0<=p/\(p<8∨p=0)/\ar (q,r)->(6:Int)≠(0:Int)/\ar (q,r)/\ ∀(s:Int)(t:List Int)(u:Int),0<=s/\(s<40∨s=0)/\ar (t,u)->ah (decide (s=39)) (ar (t,u)/\ ∀(v:Int)(w:List Int)(x:Int),ar (w,x)/\ao
 v->(i.length+List.length [(decide (j=3),v,IntKind.wrap .i64 (Int.tdiv p (6:Int)))])*(24:Nat)<=(140737488355328:Nat)/\ ∃(y:Int) (z:List Int×Int),∃(A:List a7),(0<=y/\ar z/\(A.length:Int)+y<=c/\ ∀(B:a7),B∈A->0<=B.2.2/\B.2.2<=1)/\y.toNat<g.toNat/\IntKind.wrap .i64 (g -(1:Int))=y/\w=z.1/\x=z.2/\i++[(decide (j=3),v,IntKind.wrap .i64 (Int.tdiv p (6:Int)))]=A/\True) ((i.length+List.length [(decide (j=3),m,IntKind.wrap .i64 (Int.tdiv p (6:Int)))])*(24:Nat)<=(140737488355328:Nat)/\ ∃(v:Int) (w:List Int×Int),∃(x:List a7),(0<=v/\ar w/\(x.length:Int)+v<=c/\ ∀(y:a7),y∈x->0<=y.2.2/\y.2.2<=1)/\v.toNat<g.toNat/\IntKind.wrap .i64 (g -(1:Int))=v/\t=w.1/\u=w.2/\i++[(decide (j=3),m,IntKind.wrap .i64 (Int.tdiv p (6:Int)))]=x/\True)) (ar h/\(i.length:Int)<=c/\ ∀(j:Bool×Int×Int),j∈i->0<=j.2.2/\j.2.2<=1):=by
  rintro l p n-⟨hc,n0,n1⟩
  refine⟨hc,?_⟩
  rintro k l2 p2 ⟨k0,k1,hc2⟩
  rw[ad (by omega) (by omega)] at k1
  refine⟨⟨k,(l2,p2),[],⟨k0,hc2,by simp only[List.length_nil];omega,by simp⟩,(by repeat' first|exact trivial|refine⟨trivial,?_⟩|refine⟨(by with_reducible rfl),?_⟩|refine⟨ad (by omega) (by omega),?_⟩|refine⟨rfl,?_⟩)⟩,?_⟩
  rintro k c b ⟨k0,hc,hb,hf⟩
  refine aq (fun h=>⟨hc,?_⟩) (fun h=>⟨hc,by omega,hf⟩)
  have h:=of_decide_eq_true h
  rintro x l3 p3 ⟨-,-,hc3⟩
  refine⟨hc3,?_⟩
  rintro y l4 p4 ⟨-,-,hc4⟩
  refine⟨hc4,?_⟩
  rintro z l5 p5 ⟨z0,z1,hc5⟩
  refine⟨by decide,hc5,?_⟩
  rintro u l6 p6 ⟨-,-,hc6⟩
  have ez:Int.tdiv z 6=z/6:=Int.tdiv_eq_ediv_of_nonneg z0
  rw[ez,ad (n:=z/6) (by omega) (by omega)]
  have hf':∀ d:Int,∀ f∈b++[(decide (x=3),d,z/6)],0<=f.2.2/\f.2.2<=1:=fun d f hff=>by
   rcases List.mem_append.1 hff with q|q
   ·exact hf f q
   ·rw[List.mem_singleton.1 q];show 0<=z/6/\z/6<=1;omega
  refine aq (fun _=>⟨hc6,?_⟩) (fun _=>?_)
  ·rintro w l7 p7 ⟨hc7,-⟩
   exact⟨by simp only[List.length_singleton];omega,k-1,(l7,p7),_,⟨by omega,hc7,by rw[List.length_append,List.length_singleton];omega,hf' _⟩,by omega,(by repeat' first|exact trivial|refine⟨trivial,?_⟩|refine⟨(by with_reducible rfl),?_⟩|refine⟨ad (by omega) (by omega),?_⟩|refine⟨rfl,?_⟩)⟩
  ·exact⟨by simp only[List.length_singleton];omega,k-1,(l6,p6),_,⟨by omega,hc6,by rw[List.length_append,List.length_singleton];omega,hf' _⟩,by omega,(by repeat' first|exact trivial|refine⟨trivial,?_⟩|refine⟨(by with_reducible rfl),?_⟩|refine⟨ad (by omega) (by omega),?_⟩|refine⟨rfl,?_⟩)⟩
theorem Dp:aG Try.prog GL 29 sg.spec:=Cn.okH _ Try.func29 (by kernel_rfl) (ay (ay aP lx) wF) aD xO (aQ (by kernel_rfl) AS)
def vx:Cn:=⟨[.box 58 gh,.val cI],[.val (.sl fe)],fun d=>[ar d.1,0<=d.2.1,d.2.1<=1000],fun d y=>ar y.2.1/\(y.1.1.length:Int)<=d.2.1/\gZ y.1.1=true,fun d h=>⟨(([],()),(d.1,())),h.1,by simp;exact h.2.1,rfl⟩⟩
def zJ:aC vx.ps->aN:=(fun d=>{loops:=(fun n=>match n with|3=>some (fun S=>{ι:=Int×(List a7),qn:=⟨fun k_=>∀(i:Int)(l:(List a7)),k_ (i,l),fun k_ h_ i=>h_ i.1 i.2,fun k_=>∃ (i:Int) (l:(List a7)),k_ (i,l),fun k_ ⟨i,l,h_⟩=>⟨_,h_⟩⟩,μ:=fun i=>(1000-i.1).toNat,inv:=fun i=>0<=i.1/\i.1<=i.2.length/\(i.2.length:Int)<=d.2.1/\(∀ f∈i.2,0<=f.2.2/\f.2.2<=1)∧∀ f∈i.2.take i.1.toNat,c9 f=true,keep:=[0,4],slots:=fun i=>[(5,.own 524288 3),(6,.int .i64 i.1)],keepN:=[1048576],names:=fun i=>[(524288,.live (.row 67 fe i.2))]})|_=>none)})
def o9(c g:Int)(h:List a7) :=
 0<=g/\g<=(h.length:Int)/\(h.length:Int)<=c/\(∀(i:a7),i∈h->0<=i.2.2/\i.2.2<=1)/\ ∀(i:a7),i∈List.take g.toNat h->c9 i=true
theorem AV :
 ∀(a:List Int)(b c:Int),((a.length<=maxLen/\ ∀(d:Int),d∈a->0<=d/\d<=255)/\ao b)/\ao c/\True->ar (a,b)/\0<=c/\c<=1000->ar (a,b)/\0<=c/\c<=1000/\ ∀(d:List (Bool×Int×Int))(e:List Int)(f:Int),(ar (e,f)/\(d.length:Int)<=c/\ ∀(g:Bool×Int×Int),g∈d->0<=g.2.2/\g.2.2<=1)->(∃(g:Int) (h:List a7),(o9 c g h)/\(0:Int)=g/\e=e/\f=f/\d=h/\True)/\ ∀(g:Int)(h:List a7),(o9 c g h)->ah (decide (g<(h.length:Int))) (0<=g/\g<(h.length:Int)/\(6:Int)≠(0:Int)/\0<=g/\g<(h.length:Int)/\ ∃(i:Int) (j:List a7),(0<=i/\i<=(j.length:Int)/\(j.length:Int)<=c/\(∀(k:a7),k∈j->0<=k.2.2/\k.2.2<=1)/\ ∀(k:a7),k∈List.take i.toNat j->c9 k=true)/\Int.toNat ((1000:Int) -i)<Int.toNat ((1000:Int) -g)/\IntKind.wrap .i64 (g+(1:Int))=i/\e=e/\f=f/\List.set h g.toNat ((h.getD g.toNat default).1,iq (h.getD g.toNat default).2.1 (6:Int),(h.getD g.toNat default).2.2)=j/\True) (ar (e,f)/\(h.length:Int)<=c/\gZ
 h=true):=by
  delta o9
  rintro l p n-⟨hc,n0,n1⟩
  refine⟨hc,n0,n1,?_⟩
  rintro fs l2 p2 ⟨hc2,hl,hf⟩
  refine⟨⟨0,fs,⟨by omega,by omega,hl,hf,by simp⟩,(by repeat' first|exact trivial|refine⟨trivial,?_⟩|refine⟨(by with_reducible rfl),?_⟩|refine⟨ad (by omega) (by omega),?_⟩|refine⟨rfl,?_⟩)⟩,?_⟩
  rintro i l ⟨i0,i1,hl,hf,hk⟩
  refine aq (fun h=>?_) (fun h=>?_)
  ·have h:=of_decide_eq_true h
   have hg:=hf _ (ce (xs:=l) i0 h)
   have hm:0<=iq (l.getD i.toNat default).2.1 6/\iq (l.getD i.toNat default).2.1 6<=5:=by
    unfold iq
    generalize (l.getD i.toNat default).2.1=x
    have h1 : -6<x.tmod 6/\x.tmod 6<6:=⟨by have:=Int.lt_tmod_of_pos x (show (0:Int)<6 by omega);omega,Int.tmod_lt_of_pos x (by omega)⟩
    rw[ad (by omega) (by omega),Int.tmod_eq_emod_of_nonneg (by omega)]
    omega
   have hset:∀ f∈l.set i.toNat ((l.getD i.toNat default).1,iq (l.getD i.toNat default).2.1 6,(l.getD i.toNat default).2.2),f∈l∨f=((l.getD i.toNat default).1,iq (l.getD i.toNat default).2.1 6,(l.getD i.toNat default).2.2):=fun f hff=>List.mem_or_eq_of_mem_set hff
   refine⟨i0,h,by decide,i0,h,i+1,l.set i.toNat ((l.getD i.toNat default).1,iq (l.getD i.toNat default).2.1 6,(l.getD i.toNat default).2.2),⟨by omega,by rw[List.length_set];omega,by rw[List.length_set];exact hl,fun f hff=>?_,fun f hff=>?_⟩,by omega,(by repeat' first|exact trivial|refine⟨trivial,?_⟩|refine⟨(by with_reducible rfl),?_⟩|refine⟨ad (by omega) (by omega),?_⟩|refine⟨rfl,?_⟩)⟩
   ·rcases hset f hff with q|q
    ·exact hf f q
    ·rw[q];exact hg
   ·rw[dK i0 (by rw[List.length_set];exact h),th (by omega),List.take_set_of_le (Nat.le_refl _)] at hff
    rcases List.mem_append.1 hff with q|q
    ·exact hk f q
    ·rw[List.mem_singleton.1 q]
     exact decide_eq_true ⟨hm.1,Int.le_trans hm.2 (by decide),hg.1,Int.le_trans hg.2 (by decide)⟩
  ·have h:=of_decide_eq_false h
   rw[List.take_of_length_le (by omega)] at hk
   exact⟨hc2,hl,List.all_eq_true.2 hk⟩
theorem EB:aG Try.prog GL 21 vx.spec:=Cn.okH _ Try.func21 (by kernel_rfl) (ay (ay aP Dp) DR) aD zJ (aQ (by kernel_rfl) AV)
def xo:Ct:=⟨[],[.val .bool],fun _=>[],fun _=>((true,()),())⟩
def yh:aC xo.ps->aN:=(fun _=>{})
theorem zj :
 True->True-> ∀(a:Int×Int×Int×List (List Int)×Int×List (List Int)×List (Int×List Int)×List (Int×Int×List Int)×List (Int×Int×List Int))(b:Int),a=fW (4:Int)/\b=dG (4:Int)->(1:Nat)<=List.length [(120:Int)]/\XR a/\ ∀(c:Int×Int×Int×List (List Int)×Int×List (List Int)×List (Int×List Int)×List (Int×Int×List Int)×List (Int×Int×List Int))(d:Int),c=fV a [(120:Int)]/\d=dD a [(120:Int)]->XR c/\ ∀(e:Int×Int×Int×List (List Int)×Int×List (List Int)×List (Int×List Int)×List (Int×Int×List Int)×List (Int×Int×List Int))(f:Int),e=i9 c (2:Int)/\f=fC c (2:Int)-> ∀(g:Bool),g=decide (b=0)->(g->(g->g)/\True)/\(g->g)/\ ∀(h:Bool),(h=bif g then decide (d=0) else false)->(h->(h->h)/\True)/\(h->h)/\ ∀(i:Bool),(i=bif h then decide (f=0) else false)->(i->(i->i)/\True)/\(i->(i->i)/\True)/\(i->(i->i)/\True)/\(i->i)/\ ∀(j:Bool),(j=bif i then decide ((e.2.2.2.2.2.1.length:Int)=1) else
 false)->(j->(j->j)/\True)/\(j->(j->j)/\True)/\(j->j)/\ ∀(k:Bool),(k=bif j then decide (e.1=2) else false)->(k->(k->k)/\True)/\(k->(k->k)/\(0:Int)<=0/\0<(e.2.2.2.2.2.1.length:Int)/\True)/\(k->(k->k)/\True)/\(k->(k->k)/\True)/\(k->(k->k)/\True)/\(k->k)/\(bif k then decide (strOfNums (List.getD e.2.2.2.2.2.1 (Int.toNat (0:Int)) default)={data:= #[(120:UInt8)]}) else false)=true:=by
  rintro - -
  rintro c e ⟨hc,he⟩
  have hc:c=fx 4:=hc
  have he:e=0:=he
  subst hc he
  have x1:XR (fx 4):=XR.new (by omega) (by omega)
  refine⟨by decide,x1,?_⟩
  rintro c2 e2 ⟨hc2,he2⟩
  have hp:dD (fx 4) [120]=0:=by decide
  have hc2:c2=hY (fx 4) [120]:=by rw[hc2];exact if_pos hp
  rw[hp] at he2
  subst hc2 he2
  have x2:XR (hY (fx 4) [120]):=x1.push (by decide) (by decide)
  refine⟨x2,?_⟩
  rintro c3 e3 ⟨hc3,he3⟩
  have hr:fC (hY (fx 4) [120]) 2=0:=by decide
  have hc3:c3=bm 2 (hY (fx 4) [120]):=by rw[hc3];exact if_pos hr
  rw[hr] at he3
  subst he3
  have hv:c3.2.2.2.2.2.1=[[120]]/\c3.1=2:=by
   rw[hc3]
   exact⟨by kernel_rfl,by kernel_rfl⟩
  obtain⟨v1,v2⟩:=hv
  rw[v1,v2]
  (repeat (intro (b_:Bool) (hb_:b_=_);(repeat refine⟨(by first|(simp;done)|(rw[hb_];simp;done)|(rw[hb_];simp;omega)|(rw[hb_];simp;intros;omega)|(rw[hb_];simp +contextual;done)),?_⟩);subst hb_))
  kernel_rfl
theorem BZ:aG Try.prog GL 8 xo.spec:=Ct.okH _ Try.func8 (by kernel_rfl) (ay (ay (ay aP (Ct.named Cy)) (Ct.named Cg)) (Ct.named xS)) aD yh (aQ (by kernel_rfl) zj)
def vZ:Cn:=⟨[.box 58 gh],[.agg aS],fun d=>[ar d.1],fun d y=>ar y.2.1/\XR y.1.1/\ab y.1.1<=25,fun d h=>⟨((fx 1,()),(d.1,())),h.1,XR.new (by omega) (by omega),by show (0:Int)<=25;omega⟩⟩
def By:aC vZ.ps->aN:=(fun d=>{loops:=(fun n=>match n with|3=>some (fun S=>{ι:=Int×(List Int×Int)×aj,qn:=⟨fun k_=>∀(k:Int)(c:(List Int×Int))(b:aj),k_ (k,c,b),fun k_ h_ i=>h_ i.1 i.2.1 i.2.2,fun k_=>∃ (k:Int) (c:(List Int×Int)) (b:aj),k_ (k,c,b),fun k_ ⟨k,c,b,h_⟩=>⟨_,h_⟩⟩,μ:=fun i=>i.1.toNat,inv:=fun i=>0<=i.1/\ar i.2.1/\XR i.2.2/\ab i.2.2+i.1<=25/\(ae i.2.2).length+i.1<=25,keep:=[0,2],slots:=fun i=>[(3,.ptr 64 0),(5,.int .i64 i.1)],keepN:=[48],names:=fun i=>[(1048576,.live (.cells 58 (bu gh i.2.1))),(64,.live (.cells 28 (bu aS i.2.2)))]})|_=>none)})
theorem BP :
 ∀(a:List Int)(b:Int),((a.length<=maxLen/\ ∀(c:Int),c∈a->0<=c/\c<=255)/\ao b)/\True->0<=b/\b<=(a.length:Int)->ar (a,b)/\ ∀(c:Int)(d:List Int)(e:Int),0<=c/\(c<6∨c=0)/\ar (d,e)-> ∀(f:Int×Int×Int×List (List Int)×Int×List (List Int)×List (Int×List Int)×List (Int×Int×List Int)×List (Int×Int×List Int))(g:Int),f=fW (IntKind.wrap .i64 ((1:Int)+c))/\g=dG (IntKind.wrap .i64 ((1:Int)+c))->ar (d,e)/\ ∀(h:Int)(i:List Int)(j:Int),0<=h/\(h<25∨h=0)/\ar (i,j)->(∃(k:Int) (l:List Int×Int),∃(m:aj),(0<=k/\ar l/\XR m/\ab m+k<=25/\((List.length (ae m)):Int)+k<=25)/\h=k/\(0:Int)=0/\(0:Int)=0/\(0:Int)=0/\(0:Int)=0/\i=l.1/\j=l.2/\f.1=m.1/\f.2.1=m.2.1/\f.2.2.1=m.2.2.1/\f.2.2.2.1=m.2.2.2.1/\f.2.2.2.2.1=m.2.2.2.2.1/\f.2.2.2.2.2.1=m.2.2.2.2.2.1/\f.2.2.2.2.2.2.1=m.2.2.2.2.2.2.1/\f.2.2.2.2.2.2.2.1=m.2.2.2.2.2.2.2.1/\f.2.2.2.2.2.2.2.2=m.2.2.2.2.2.2.2.2/\True)/\ ∀(k:Int)(l:List Int×Int)
 (m:aj),0<=k/\ar l/\XR m/\ab m+k<=25/\((List.length (ae m)):Int)+k<=25->ah (decide (0<k)) (ar l/\ ∀(n:Int)(o:List Int)(p:Int),0<=n/\(n<2∨n=0)/\ar (o,p)->ah (decide (n=0)) (ar (o,p)/\(0:Int)<=3/\(3:Int)<=1000/\ ∀(q r:List Int)(s:Int),ar (r,s)/\(q.length:Int)<=3-> ∀(t:Int×Int×Int×List (List Int)×Int×List (List Int)×List (Int×List Int)×List (Int×Int×List Int)×List (Int×Int×List Int))(u:Int),t=fV m q/\u=dD m q-> ∃(v:Int) (w:List Int×Int),∃(x:aj),(0<=v/\ar w/\XR x/\ab x+v<=25/\((List.length (ae x)):Int)+v<=25)/\v.toNat<k.toNat/\IntKind.wrap .i64 (k -(1:Int))=v/\(0:Int)=0/\(0:Int)=0/\(0:Int)=0/\(0:Int)=0/\r=w.1/\s=w.2/\t.1=x.1/\t.2.1=x.2.1/\t.2.2.1=x.2.2.1/\t.2.2.2.1=x.2.2.2.1/\t.2.2.2.2.1=x.2.2.2.2.1/\t.2.2.2.2.2.1=x.2.2.2.2.2.1/\t.2.2.2.2.2.2.1=x.2.2.2.2.2.2.1/\t.2.2.2.2.2.2.2.1=x.2.2.2.2.2.2.2.1/\t.2.2.2.2.2.2.2.2=x.2.2.2.2.2.2.2.2/\True) (ar
 (o,p)/\(0:Int)<=4/\(4:Int)<=1000/\ ∀(q:List (Bool×Int×Int))(r:List Int)(s:Int),ar (r,s)/\(q.length:Int)<=4/\gZ q=true->ar (r,s)/\(0:Int)<=2/\(2:Int)<=1000/\ ∀(t:List (Bool×Int×Int))(u:List Int)(v:Int),ar (u,v)/\(t.length:Int)<=2/\gZ t=true->XR m/\(q.length:Int)<=1000000/\(t.length:Int)<=1000000/\ ∀(w:Int×Int×Int×List (List Int)×Int×List (List Int)×List (Int×List Int)×List (Int×Int×List Int)×List (Int×Int×List Int))(x:Int),w=jk m q t/\x=fj m q t-> ∃(y:Int) (z:List Int×Int),∃(A:aj),(0<=y/\ar z/\XR A/\ab A+y<=25/\((List.length (ae A)):Int)+y<=25)/\y.toNat<k.toNat/\IntKind.wrap .i64 (k
 -(1:Int))=y/\(0:Int)=0/\(0:Int)=0/\(0:Int)=0/\(0:Int)=0/\u=z.1/\v=z.2/\w.1=A.1/\w.2.1=A.2.1/\w.2.2.1=A.2.2.1/\w.2.2.2.1=A.2.2.2.1/\w.2.2.2.2.1=A.2.2.2.2.1/\w.2.2.2.2.2.1=A.2.2.2.2.2.1/\w.2.2.2.2.2.2.1=A.2.2.2.2.2.2.1/\w.2.2.2.2.2.2.2.1=A.2.2.2.2.2.2.2.1/\w.2.2.2.2.2.2.2.2=A.2.2.2.2.2.2.2.2/\True)) (ar l/\XR m/\ab m<=25):=by
  rintro l p-hc
  refine⟨hc,?_⟩
  rintro a l2 p2 ⟨a0,a1,hc2⟩
  rw[ad (n:=1+a) (by omega) (by omega)]
  rintro c e ⟨hcc,-⟩
  have hw:dG (1+a)=0:=if_neg (by omega)
  have hcc:c=fx (1+a):=by rw[hcc];exact if_pos hw
  subst hcc
  refine⟨hc2,?_⟩
  rintro k l3 p3 ⟨k0,k1,hc3⟩
  refine⟨⟨k,(l3,p3),fx (1+a),⟨k0,hc3,XR.new (by omega) (by omega),by show (0:Int)+k<=25;omega,by show (0:Int)+k<=25;omega⟩,(by repeat' first|exact trivial|refine⟨trivial,?_⟩|refine⟨(by with_reducible rfl),?_⟩|refine⟨ad (by omega) (by omega),?_⟩|refine⟨rfl,?_⟩)⟩,?_⟩
  rintro k c b ⟨k0,hc,hx,hn,hl⟩
  refine aq (fun h=>⟨hc,?_⟩) (fun h=>⟨hc,hx,by omega⟩)
  have h:=of_decide_eq_true h
  rintro x l4 p4 ⟨-,-,hc4⟩
  refine aq (fun _=>⟨hc4,by omega,by omega,?_⟩) (fun _=>⟨hc4,by omega,by omega,?_⟩)
  ·rintro it l5 p5 ⟨hc5,hi⟩
   rintro d e ⟨hd,-⟩
   have hp:dD b it=0:=if_neg (by omega)
   have hd:d=hY b it:=by rw[hd];exact if_pos hp
   subst hd
   refine⟨k-1,(l5,p5),hY b it,⟨by omega,hc5,hx.push (by omega) (by omega),by show ab b+(k-1)<=25;omega,?_⟩,by omega,(by repeat' first|exact trivial|refine⟨trivial,?_⟩|refine⟨(by with_reducible rfl),?_⟩|refine⟨ad (by omega) (by omega),?_⟩|refine⟨rfl,?_⟩)⟩
   show ((ae b++[it]).length:Int)+(k-1)<=25
   rw[List.length_append,List.length_singleton];omega
  ·rintro ds l5 p5 ⟨hc5,hdl,hd⟩
   refine⟨hc5,by omega,by omega,?_⟩
   rintro us l6 p6 ⟨hc6,hul,hu⟩
   refine⟨hx,by omega,by omega,?_⟩
   rintro d e ⟨hdd,-⟩
   have ht:fj b ds us=0:=by
    unfold fj
    rw[hd,hu,if_neg (by decide),if_neg (by omega)]
   have hdd:d=bh b ds us:=by rw[hdd];exact if_pos ht
   subst hdd
   exact⟨k-1,(l6,p6),bh b ds us,⟨by omega,hc6,hx.tick (mQ.1 hd) (mQ.1 hu),by show ab b+1+(k-1)<=25;omega,by show ((ae b).length:Int)+(k-1)<=25;omega⟩,by omega,(by repeat' first|exact trivial|refine⟨trivial,?_⟩|refine⟨(by with_reducible rfl),?_⟩|refine⟨ad (by omega) (by omega),?_⟩|refine⟨rfl,?_⟩)⟩
theorem Eu:aG Try.prog GL 9 vZ.spec:=Cn.okH _ Try.func9 (by kernel_rfl) (ay (ay (ay (ay (ay (ay aP lx) (Ct.named EF)) r8) (Ct.named Ak)) EB) (Ct.named AM)) aD By (aQ (by kernel_rfl) BP)
end Go.RS

/- Weq: bytes that are equal. -/
namespace Go.RS
open Go.SX Go.Proofs
set_option maxRecDepth 100000
set_option linter.unusedVariables false
theorem BN{x y:List Int}(hx:∀ n∈x,0<=n/\n<=255)(hy:∀ n∈y,0<=n/\n<=255)(h:strOfNums x=strOfNums y):x=y:=by
 have h':(x.map fun n=>UInt8.ofNat n.toNat)=y.map fun n=>UInt8.ofNat n.toNat:=by
  have:=congrArg (fun s:ByteArray=>s.data.toList) h
  simpa[strOfNums_data] using this
 clear h
 revert h' hx hy
 induction x generalizing y with
 | nil=>intro hx hy h;cases y with
  | nil=>rfl
  | cons b y=>cases h
 | cons a x ih =>
  intro hx hy h
  cases y with
  | nil=>cases h
  | cons b y =>
   simp only[List.map_cons,List.cons.injEq] at h
   have ha:=hx a List.mem_cons_self
   have hb:=hy b List.mem_cons_self
   have e:=congrArg UInt8.toNat h.1
   simp only[UInt8.toNat_ofNat'] at e
   rw[ih (y:=y) (fun n hn=>hx n (List.mem_cons_of_mem _ hn)) (fun n hn=>hy n (List.mem_cons_of_mem _ hn)) h.2]
   congr 1;omega
def vB:Ct:=⟨[.val (.sl aV),.val (.sl aV)],[.val .bool],fun d=>[],fun d=>((decide (d.1=d.2.1),()),())⟩
def zh:aC vB.ps->aN:=(fun _=>{})
theorem Ej :
 ∀(a b:List Int),(a.length<=maxLen/\ ∀(c:Int),c∈a->0<=c/\c<=255)/\(b.length<=maxLen/\ ∀(c:Int),c∈b->0<=c/\c<=255)/\True->True->decide (strOfNums a=strOfNums b)=decide (a=b):=by
  rintro x y ⟨⟨-,hx⟩,⟨-,hy⟩,-⟩ -
  by_cases h:x=y
  ·rw[h,decide_eq_true rfl,decide_eq_true rfl]
  ·rw[decide_eq_false h,decide_eq_false fun k=>h (BN hx hy k)]
theorem ym:aG Try.prog GL 85 vB.spec:=Ct.okH _ Try.func85 (by kernel_rfl) aP aD zh (aQ (by kernel_rfl) Ej)
def xm:Ct:=⟨[.val (.sl aV),.val (.sl aV)],[.val .bool],fun d=>[],fun d=>((decide (d.1=d.2.1),()),())⟩
def Dv:aC xm.ps->aN:=(fun _=>{})
theorem xQ :
 ∀(a b:List Int),(a.length<=maxLen/\ ∀(c:Int),c∈a->0<=c/\c<=255)/\(b.length<=maxLen/\ ∀(c:Int),c∈b->0<=c/\c<=255)/\True->True->decide (a=b)=decide (a=b):=by
  intro x y _ _;rfl
theorem q6:aG Try.prog GL 63 xm.spec:=Ct.okH _ Try.func63 (by kernel_rfl) (ay aP ym) aD Dv (aQ (by kernel_rfl) xQ)
end Go.RS
