/- Xw2: the program's exchange: messages are sent and taken, they arrive; a tick. -/
import Derived.Test.YtffciochlkcjbaaSx30
namespace Go.RS
open Go.SX Go.Proofs
set_option maxRecDepth 100000
set_option linter.unusedVariables false
def e7(a b:ah):Prop:=a.1<b.1∨a.1=b.1/\a.2.1<b.2.1
def dD(x y:ah):Int:=if aX x.1 y.1≠0 then aX x.1 y.1 else aX x.2.1 y.2.1
instance (a b:ah):Decidable (e7 a b):=by unfold e7;infer_instance
def qT:Ct:=⟨[.agg bE,.agg bE],[.val cI],fun _=>[],fun d=>((dD d.1 d.2.1,()),())⟩
def yC:aA qT.ps->aK:=(fun _=>{})
theorem zh :
 ∀(a b:Int)(c:List Int)(d e:Int)(f:List Int),(ak a/\ak b/\c.length<=maxLen/\ ∀(g:Int),g∈c->0<=g/\g<=255)/\(ak d/\ak e/\f.length<=maxLen/\ ∀(g:Int),g∈f->0<=g/\g<=255)/\True->True->dH [aX a d,aX b e]=dD (a,b,c) (d,e,f):=by
  rintro a1 a2 a3 b1 b2 b3 - -
  have e:dD (a1,a2,a3) (b1,b2,b3)=if aX a1 b1≠0 then aX a1 b1 else aX a2 b2:=rfl
  rw[e]
  simp only[dH]
  by_cases h:aX a1 b1≠0
  ·rw[if_pos h,if_pos h]
  ·rw[if_neg h,if_neg h]
   by_cases k:aX a2 b2≠0
   ·rw[if_pos k]
   ·rw[if_neg k];simp at k;exact k.symm
theorem uw:aF Try.prog GL 80 qT.spec:=Ct.okH _ Try.func80 (by kernel_rfl) (aD (aD aV s8) yL) az yC (aT (by kernel_rfl) zh)
def dO{α:Type}(p:α->Bool)(l:List α):Int:=((l.takeWhile p).length:Int)
theorem jg{α:Type}(p:α->Bool)(l:List α):0<=dO p l/\dO p l<=l.length:=by
 unfold dO
 have:=congrArg List.length (List.takeWhile_append_dropWhile (p:=p) (l:=l))
 rw[List.length_append] at this
 omega
theorem tU{α:Type} [Inhabited α] {p:α->Bool} {R:α->α->Prop} (hR:∀ a b,R a b->p b=true->p a=true):∀{l:List α}{h:Nat},l.Pairwise R->h<l.length->(p (l.getD h default)=true↔(h:Int)<dO p l)
 | [],h,_,hh=>by simp at hh
 | a::l,h,hs,hh=>by
  obtain⟨s1,s2⟩:=List.pairwise_cons.1 hs
  by_cases ha:p a=true
  ·have e:dO p (a::l)=dO p l+1:=by unfold dO;rw[List.takeWhile_cons_of_pos ha,List.length_cons];omega
   cases h with
   | zero =>
    have:=jg p l
    simp only[List.getD_cons_zero]
    exact⟨fun _=>by rw[e];omega,fun _=>ha⟩
   | succ h =>
    simp only[List.getD_cons_succ]
    rw[tU hR s2 (by simpa using hh),e]
    omega
  ·have e:dO p (a::l)=0:=by unfold dO;rw[List.takeWhile_cons_of_neg ha];rfl
   rw[e]
   constructor
   ·intro k
    exfalso
    cases h with
    | zero=>exact ha k
    | succ h =>
     simp only[List.getD_cons_succ] at k
     have hh:h<l.length:=by simpa using hh
     have hm:l.getD h default∈l:=by rw[List.getD_eq_getElem?_getD,List.getElem?_eq_getElem hh];exact List.getElem_mem hh
     exact ha (hR _ _ (s1 _ hm) k)
   ·intro k;omega
theorem sb{α:Type} [Inhabited α] {p:α->Bool} {R:α->α->Prop} (hR:∀ a b,R a b->p b=true->p a=true) {l:List α} {h:Int} (hs:l.Pairwise R) (h0:0<=h) (h1:h<l.length):p (l.getD h.toNat default)=true↔h<dO p l:=by
 rw[tU hR hs (by omega)]
 rw[Int.toNat_of_nonneg h0]
theorem s9{α:Type}(p:α->Bool)(l:List α):l.take (dO p l).toNat=l.takeWhile p/\l.drop (dO p l).toNat=l.dropWhile p:=by
 have k:=List.takeWhile_append_dropWhile (p:=p) (l:=l)
 have t1:∀ A B:List α,A++B=l->l.take A.length=A/\l.drop A.length=B:=by
  rintro A B rfl
  exact⟨List.take_left' rfl,List.drop_left' rfl⟩
 unfold dO
 rw[Int.toNat_natCast]
 exact t1 _ _ k
theorem qN{x y:ah}:dD x y<0↔e7 x y:=by
 unfold dD aX e7
 by_cases h1:x.1<y.1
 ·simp[h1]
 ·by_cases h2:y.1<x.1
  ·have:x.1≠y.1:=by omega
   simp[h1,h2,this]
  ·have:x.1=y.1:=by omega
   by_cases h3:x.2.1<y.2.1
   ·simp[this,h3]
   ·by_cases h4:y.2.1<x.2.1 <;> simp[this,h3,h4]
abbrev ci(l:List ah)(t:ah):Int:=dO (fun x=>decide (dD x t<0)) l
theorem tR{l:List ah}{t:ah}{h:Int}(hs:l.Pairwise e7)(h0:0<=h)(h1:h<l.length):dD (l.getD h.toNat default) t<0↔h<ci l t:=by
 rw[← sb (p:=fun x=>decide (dD x t<0)) (R:=e7) (fun a b hab hb=>?_) hs h0 h1,decide_eq_true_eq]
 simp only[decide_eq_true_eq,qN] at hb ⊢
 unfold e7 at *;omega
def sd:Ct:=⟨[.val (.sl bE),.agg bE,.fn 80 0],[.val cI,.val .bool],fun d=>[d.1.Pairwise e7],fun d=>((ci d.1 d.2.1,(bif decide (ci d.1 d.2.1<d.1.length) then decide (dD (d.1.getD (ci d.1 d.2.1).toNat default) d.2.1=0) else false),()),())⟩
def zX:aA sd.ps->aK:=(fun d=>{loops:=(fun n=>match n with|3=>some (fun S=>{ι:=Int×Int,qn:=⟨fun k_=>∀(i:Int)(j:Int),k_ (i,j),fun k_ h_ i=>h_ i.1 i.2,fun k_=>∃ (i:Int) (j:Int),k_ (i,j),fun k_ ⟨i,j,h_⟩=>⟨_,h_⟩⟩,μ:=fun i=>(i.2-i.1).toNat,inv:=fun i=>0<=i.1/\i.1<=ci d.1 d.2.1/\ci d.1 d.2.1<=i.2/\i.2<=d.1.length,keep:=[0,2,4,8],slots:=fun i=>[(9,.int .i64 i.1),(10,.int .i64 i.2)],keepN:=[80],names:=fun i=>[]})|_=>none)})
def jB(e f:Int) :=
 dP IntKind.u64 (IntKind.wrap .u64 (IntKind.wrap .i64 (e+f))) (1:Int)
theorem wN :
 ∀(a:List (Int×Int×List Int))(b c:Int)(d:List Int),(a.length<=maxLen/\ ∀(e:Int×Int×List Int),e∈a->ak e.1/\ak e.2.1/\e.2.2.length<=maxLen/\ ∀(f:Int),f∈e.2.2->0<=f/\f<=255)/\(ak b/\ak c/\d.length<=maxLen/\ ∀(e:Int),e∈d->0<=e/\e<=255)/\True/\True->List.Pairwise e7 a->(∃(e:Int) (f:Int),(0<=e/\e<=ci a (b,c,d)/\ci a (b,c,d)<=f/\f<=(a.length:Int))/\a=a/\(a.length:Int)=(a.length:Int)/\(0:Int)=e/\(a.length:Int)=f/\b=b/\c=c/\d=d/\True)/\ ∀(e f:Int),0<=e/\e<=ci a (b,c,d)/\ci a (b,c,d)<=f/\f<=(a.length:Int)->ax (decide (e<f)) ((0:Int)<=1/\0<=IntKind.wrap .i64 (jB e f)/\IntKind.wrap .i64 (jB e f)<(a.length:Int)/\ax (decide (dD (a.getD (Int.toNat (IntKind.wrap .i64 (jB e f))) default) (b,c,d)<0)) (∃(g:Int) (h:Int),(0<=g/\g<=ci a (b,c,d)/\ci a (b,c,d)<=h/\h<=(a.length:Int))/\Int.toNat (h -g)<Int.toNat (f -e)/\a=a/\(a.length:Int)=(a.length:Int)/\IntKind.wrap .i64 (IntKind.wrap
 .i64 (jB e f)+(1:Int))=g/\f=h/\b=b/\c=c/\d=d/\True) (∃(g:Int) (h:Int),(0<=g/\g<=ci a (b,c,d)/\ci a (b,c,d)<=h/\h<=(a.length:Int))/\Int.toNat (h -g)<Int.toNat (f -e)/\a=a/\(a.length:Int)=(a.length:Int)/\e=g/\IntKind.wrap .i64 (jB e f)=h/\b=b/\c=c/\d=d/\True)) (∀(g:Bool),g=decide (e<(a.length:Int))->(g->(g->g)/\(g->g)/\0<=e/\e<(a.length:Int)/\True)/\(g->(g->g)/\True)/\(g->(g->g)/\(g->g)/\(g->g)/\True)/\(g->(g->g)/\True)/\(g->g)/\e=ci a (b,c,d)/\(bif g then decide (dD (a.getD e.toNat default) (b,c,d)=0) else false)=bif decide (ci a (b,c,d)<(a.length:Int)) then decide (dD (a.getD (Int.toNat (ci a (b,c,d))) default) (b,c,d)=0) else false):=by
  delta jB
  rintro x p1 p2 p3 ⟨⟨hl,-⟩,-⟩ hs
  simp only[maxLen] at hl
  obtain⟨q0,q1⟩:=jg (fun y=>decide (dD y (p1,p2,p3)<0)) x
  refine⟨⟨0,x.length,⟨by omega,q0,q1,by omega⟩,(by repeat' first|exact trivial|refine⟨trivial,?_⟩|refine⟨(by with_reducible rfl),?_⟩|refine⟨au (by omega) (by omega),?_⟩|refine⟨rfl,?_⟩)⟩,?_⟩
  rintro i j ⟨h0,h1,h2,h3⟩
  refine aM (fun hb=>?_) (fun hb=>?_)
  ·have hb:=of_decide_eq_true hb
   rw[py h0 (by omega) (by omega)]
   refine⟨by omega,by omega,by omega,aM (fun hc=>?_) (fun hc=>?_)⟩
   ·have hc:=(tR hs (by omega) (by omega)).1 (of_decide_eq_true hc)
    rw[au (by omega) (by omega)]
    exact⟨(i+j)/2+1,j,⟨by omega,by omega,h2,h3⟩,by omega,(by repeat' first|exact trivial|refine⟨trivial,?_⟩|refine⟨(by with_reducible rfl),?_⟩|refine⟨au (by omega) (by omega),?_⟩|refine⟨rfl,?_⟩)⟩
   ·have hc:¬ (i+j)/2<ci x (p1,p2,p3):=fun h=>absurd ((tR hs (by omega) (by omega)).2 h) (of_decide_eq_false hc)
    exact⟨i,(i+j)/2,⟨h0,h1,by omega,by omega⟩,by omega,(by repeat' first|exact trivial|refine⟨trivial,?_⟩|refine⟨(by with_reducible rfl),?_⟩|refine⟨au (by omega) (by omega),?_⟩|refine⟨rfl,?_⟩)⟩
  ·have hb:=of_decide_eq_false hb
   have:i=ci x (p1,p2,p3):=by omega
   subst this
   (repeat (intro (b_:Bool) (hb_:b_=_);(repeat refine⟨(by first|(simp;done)|(rw[hb_];simp;done)|(rw[hb_];simp;omega)|(rw[hb_];simp;intros;omega)|(rw[hb_];simp +contextual;done)),?_⟩);subst hb_))
   exact rfl
theorem xL:aF Try.prog GL 79 sd.spec:=Ct.okH _ Try.func79 (by kernel_rfl) (aD aV uw) az zX (aT (by kernel_rfl) wN)
abbrev rm:OT := .pair cI (.pair cI (.pair (.hole 0) (.pair (.hole 1) (.pair (.hole 2) (.pair (.hole 3) (.pair (.hole 4) (.pair (.hole 5) (.hole 6))))))))
def cM(now ord:Int)(l:List ah):Prop:=(0<=now/\now<=2000000000000)/\(0<=ord/\ord<=1000000000000000)/\l.Pairwise e7/\(∀ x∈l,x.2.1<ord)/\l.length<=4096
theorem mK{α:Type}{p q:α->Bool}:∀{l:List α},(∀ x∈l,p x=q x)->l.takeWhile p=l.takeWhile q/\l.dropWhile p=l.dropWhile q
 | [],_=>⟨rfl,rfl⟩
 | a::l,h=>by
  obtain⟨h1,h2⟩:=mK (l:=l) fun x hx=>h x (List.mem_cons_of_mem _ hx)
  have ha:=h a (List.mem_cons_self ..)
  rw[List.takeWhile_cons,List.takeWhile_cons,List.dropWhile_cons,List.dropWhile_cons,ha,h1,h2]
  exact⟨rfl,rfl⟩
theorem wK{l:List ah}{t:ah}(ht:∀ x∈l,x.2.1<t.2.1):l.take (ci l t).toNat++([t]++l.drop (ci l t).toNat)=cF l t:=by
 obtain⟨e1,e2⟩:=mK (p:=fun x=>decide (dD x t<0)) (q:=fun x=>decide (x.1<=t.1)) (l:=l) fun x hx=>by
  have:=ht x hx
  apply decide_eq_decide.2
  rw[qN]
  unfold e7;omega
 obtain⟨t2,t3⟩:=s9 (fun x=>decide (dD x t<0)) l
 unfold cF
 rw[t2,t3,e1,e2]
 rfl
theorem wQ(now d:Int)(b:List Int):∀(n:Nat)(k:Int){s:Int×List ah},¬ s.2.length<4096->cj now d b n k s=s
 | 0,k,s,h=>rfl
 | n+1,k,s,h=>by rw[cj,if_neg h]
theorem cM.next{now o a:Int}{ys:List ah}{b:List Int}(h:cM now o ys)(h1:o<1000000000000000)(hl:ys.length<4096):cM now (o+1) (cF ys (a,o,b)):=by
 obtain⟨h2,h3,h4,h5,h6⟩:=h
 refine⟨h2,by omega,rx h4 h5,fun x hx=>?_,by rw[pe];omega⟩
 rcases gz.1 hx with rfl|hx
 ·show o<o+1;omega
 ·have:=h5 x hx;omega
def sR:Ct:=⟨[.box 28 rm,.own 53 bE,.val (.sl bc),.val (.sl d7),.val cI],[.own 53 bE],fun d=>[cM d.1.1 d.1.2.1 d.2.1,d.1.2.1<=900000000000000,gF (bz d.2.2.2.1 d.2.2.2.2.1.toNat),0<=d.2.2.2.2.1,(d.2.2.1.length:Int)<=1000000],fun d=>(((bm d.1.1 d.2.2.1 (bz d.2.2.2.1 d.2.2.2.2.1.toNat) (d.1.2.1,d.2.1)).2,()),((d.1.1,(bm d.1.1 d.2.2.1 (bz d.2.2.2.1 d.2.2.2.2.1.toNat) (d.1.2.1,d.2.1)).1,d.1.2.2),()))⟩
def vS:aA sR.ps->aK:=(fun d=>{loops:=(fun n=>match n with|7=>some (fun S=>{ι:=Int×Int×(List ah),qn:=⟨fun k_=>∀(k:Int)(o:Int)(ys:(List ah)),k_ (k,o,ys),fun k_ h_ i=>h_ i.1 i.2.1 i.2.2,fun k_=>∃ (k:Int) (o:Int) (ys:(List ah)),k_ (k,o,ys),fun k_ ⟨k,o,ys,h_⟩=>⟨_,h_⟩⟩,μ:=fun i=>((bz d.2.2.2.1 d.2.2.2.2.1.toNat).2.2+1-i.1).toNat,inv:=fun i=>0<=i.1/\i.1<=(bz d.2.2.2.1 d.2.2.2.2.1.toNat).2.2+1/\cM d.1.1 i.2.1 i.2.2/\i.2.1<=d.1.2.1+i.1/\cj d.1.1 (bz d.2.2.2.1 d.2.2.2.2.1.toNat).2.1 d.2.2.1 ((bz d.2.2.2.1 d.2.2.2.2.1.toNat).2.2+1-i.1).toNat i.1 (i.2.1,i.2.2)=bm d.1.1 d.2.2.1 (bz d.2.2.2.1 d.2.2.2.2.1.toNat) (d.1.2.1,d.2.1),keep:=[0,2,11],slots:=fun i=>[(1,.own 524288 3),(12,.int .i64 i.1)],keepN:=[192],names:=fun i=>[(1048576,.live (.cells 28 (da rm (d.1.1,i.2.1,d.1.2.2) 1 0))),(524288,.live (.row 53 bE i.2.2)),(1572864,.dead),(1572865,.dead),(1572866,.dead),(1572867,.dead),(1572868,.dead),(1572869,.dead),(1572870,.dead)]})|_=>none),cuts:=(fun n=>match n with|4=>some (fun S=>{ι:=aL,inv:=fun i=>i=bz d.2.2.2.1 d.2.2.2.2.1.toNat,keep:=[0,1,2,11],slots:=fun i=>[],keepN:=[1048576,2097152],names:=fun i=>[(1572864,.dead),(1572865,.dead),(1572866,.dead),(1572867,.dead),(1572868,.dead),(1572869,.dead),(1572870,.dead),(192,.live (.cells 67 [.bool i.1,.int .i64 i.2.1,.int .i64 i.2.2]))]})|_=>none)})
def iu(a:Int)(k:List Int)(n:aL)(o p:Int) :=
 (IntKind.wrap .i64 (IntKind.wrap .i64 (IntKind.wrap .i64 (a+(1:Int))+n.2.1)+o),p,k)
def cO(l:List (Bool×Int×Int))(m:Int) :=
 bz l m.toNat
theorem u0 :
 ∀(a b:Int)(c d e f g h i:SV)(j:List (Int×Int×List Int))(k:List Int)(l:List (Bool×Int×Int))(m:Int),(ak a/\ak b/\True/\True/\True/\True/\True/\True/\True)/\(j.length<=maxLen/\ ∀(n:Int×Int×List Int),n∈j->ak n.1/\ak n.2.1/\n.2.2.length<=maxLen/\ ∀(o:Int),o∈n.2.2->0<=o/\o<=255)/\(k.length<=maxLen/\ ∀(n:Int),n∈k->0<=n/\n<=255)/\(l.length<=maxLen/\ ∀(n:Bool×Int×Int),n∈l->True/\ak n.2.1/\ak n.2.2)/\ak m/\True->cM a b j/\b<=900000000000000/\gF (cO l m)/\0<=m/\(k.length:Int)<=1000000->ax (decide (m<(l.length:Int))) (0<=m/\m<(l.length:Int)/\ ∃(n:aL),n=bz l m.toNat/\k=k/\a=a/\b=b/\c=c/\d=d/\e=e/\f=f/\g=g/\h=h/\i=i/\j=j/\(l.getD m.toNat default).1=n.1/\(l.getD m.toNat default).2.1=n.2.1/\(l.getD m.toNat default).2.2=n.2.2/\True) (∃(n:aL),n=bz l m.toNat/\k=k/\a=a/\b=b/\c=c/\d=d/\e=e/\f=f/\g=g/\h=h/\i=i/\j=j/\false=n.1/\(0:Int)=n.2.1/\(0:Int)=n.2.2/\True)/\
 ∀(n:aL),n=bz l m.toNat->ax n.1 (j=(bm a k (cO l m) (b,j)).2/\(a,b,c,d,e,f,g,h,i)=(a,(bm a k (cO l m) (b,j)).1,c,d,e,f,g,h,i)) ((∃(o:Int) (p:Int),∃(q:List ah),(0<=o/\o<=(cO l m).2.2+(1:Int)/\cM a p q/\p<=b+o/\cj a (cO l m).2.1 k (Int.toNat ((cO l m).2.2+(1:Int) -o)) o (p,q)=bm a k (cO l m) (b,j))/\k=k/\(0:Int)=o/\n.1=n.1/\n.2.1=n.2.1/\n.2.2=n.2.2/\a=a/\b=p/\c=c/\d=d/\e=e/\f=f/\g=g/\h=h/\i=i/\j=q/\True)/\ ∀(o p:Int)(q:List ah),0<=o/\o<=(cO l m).2.2+(1:Int)/\cM a p q/\p<=b+o/\cj a (cO l m).2.1 k (Int.toNat ((cO l m).2.2+(1:Int) -o)) o (p,q)=bm a k (cO l m) (b,j)-> ∀(r:Bool),r=decide (o<=n.2.2)->(r->(r->r)/\True)/\(r->(r->r)/\True)/\(r->r)/\ax (bif r then decide ((q.length:Int)<4096) else false) ((k.length:Int)<=1099511627776/\List.Pairwise e7 q/\List.length [(iu a k n o p)]=(1:Nat)/\0<=ci q (iu a k n o p)/\ci q (iu a k n
 o p)<=(q.length:Int)/\(q.length+(1:Nat))*(40:Nat)<=(140737488355328:Nat)/\ ∃(s:Int) (t:Int),∃(u:List ah),(0<=s/\s<=(cO l m).2.2+(1:Int)/\cM a t u/\t<=b+s/\cj a (cO l m).2.1 k (Int.toNat ((cO l m).2.2+(1:Int) -s)) s (t,u)=bm a k (cO l m) (b,j))/\Int.toNat ((cO l m).2.2+(1:Int) -s)<Int.toNat ((cO l m).2.2+(1:Int) -o)/\k=k/\IntKind.wrap .i64 (o+(1:Int))=s/\n.1=n.1/\n.2.1=n.2.1/\n.2.2=n.2.2/\a=a/\IntKind.wrap .i64 (p+(1:Int))=t/\c=c/\d=d/\e=e/\f=f/\g=g/\h=h/\i=i/\List.take (Int.toNat (ci q (iu a k n o p))) q++([(iu a k n o p)]++List.drop (Int.toNat (ci q (iu a k n o p))) q)=u/\True) (q=(bm a k (cO l m) (b,j)).2/\(a,p,c,d,e,f,g,h,i)=(a,(bm a k (cO l m) (b,j)).1,c,d,e,f,g,h,i))):=by
  delta iu cO
  rintro now ord s0 s1 s2 s3 s4 s5 s6 l b fs i-⟨hs,hor,hf,hi,hb⟩
  refine⟨aM (fun h=>?_) (fun h=>?_),?_⟩
  ·exact⟨hi,of_decide_eq_true h,_,rfl,(by repeat' first|exact trivial|refine⟨trivial,?_⟩|refine⟨(by with_reducible rfl),?_⟩|refine⟨au (by omega) (by omega),?_⟩|refine⟨rfl,?_⟩)⟩
  ·have h:=of_decide_eq_false h
   have e:bz fs i.toNat=(false,0,0):=by unfold bz;rw[List.getD_eq_getElem?_getD,List.getElem?_eq_none (by omega)];rfl
   rw[e]
   exact⟨_,rfl,(by repeat' first|exact trivial|refine⟨trivial,?_⟩|refine⟨(by with_reducible rfl),?_⟩|refine⟨au (by omega) (by omega),?_⟩|refine⟨rfl,?_⟩)⟩
  rintro F hF
  rw[← hF] at hf ⊢
  obtain⟨hf1,hf2⟩:=hf
  refine aM (fun h=>?_) (fun h=>?_)
  ·unfold bm
   rw[if_pos h];exact⟨rfl,rfl⟩
  have eF:bm now b F (ord,l)=cj now F.2.1 b (F.2.2+1).toNat 0 (ord,l):=by unfold bm;rw[if_neg (by rw[h];simp)]
  rw[eF]
  have hs0:=hs
  obtain⟨n0,o0,-,-,hl0⟩:=hs0
  refine⟨⟨0,ord,l,⟨by omega,by omega,hs,by omega,by rw[Int.sub_zero]⟩,(by repeat' first|exact trivial|refine⟨trivial,?_⟩|refine⟨(by with_reducible rfl),?_⟩|refine⟨au (by omega) (by omega),?_⟩|refine⟨rfl,?_⟩)⟩,?_⟩
  rintro k o ys ⟨k0,k1,ho,ho2,he⟩
  have ho0:=ho
  obtain⟨-,o1,o2,o3,o4⟩:=ho0
  (repeat (intro (b_:Bool) (hb_:b_=_);(repeat refine⟨(by first|(simp;done)|(rw[hb_];simp;done)|(rw[hb_];simp;omega)|(rw[hb_];simp;intros;omega)|(rw[hb_];simp +contextual;done)),?_⟩);subst hb_))
  refine kw (fun h1 h2=>?_) (fun h1=>?_)
  ·have h1:=of_decide_eq_true h1
   have h2:=of_decide_eq_true h2
   obtain⟨n,hn⟩:∃ n,(F.2.2+1-k).toNat=n+1:=⟨(F.2.2-k).toNat,by omega⟩
   rw[au (n:=now+1) (by omega) (by omega),au (n:=now+1+F.2.1) (by omega) (by omega),au (n:=now+1+F.2.1+k) (by omega) (by omega)]
   obtain⟨q0,q1⟩:=jg (fun x=>decide (dD x (now+1+F.2.1+k,o,b)<0)) ys
   refine⟨by omega,o2,rfl,q0,q1,by omega,k+1,o+1,cF ys (now+1+F.2.1+k,o,b),⟨by omega,by omega,ho.next (by omega) (by omega),by omega,?_⟩,by omega,?_⟩
   ·rw[← he,hn,show (F.2.2+1-(k+1)).toNat=n by omega]
    rw[cj,if_pos (by show ys.length<4096;omega)]
   ·(repeat first|refine⟨trivial,?_⟩|refine⟨(by with_reducible rfl),?_⟩|refine⟨au (by omega) (by omega),?_⟩)
    exact⟨wK o3,trivial⟩
  ·have hz:cj now F.2.1 b (F.2.2+1-k).toNat k (o,ys)=(o,ys):=by
    rcases h1 with h1|h1
    ·have h1:=of_decide_eq_false h1
     rw[show (F.2.2+1-k).toNat=0 by omega];rfl
    ·have h1:=of_decide_eq_false h1
     exact wQ _ _ _ _ _ (by show ¬ ys.length<4096;omega)
   rw[hz] at he
   rw[← he];exact⟨rfl,rfl⟩
theorem tG:aF Try.prog GL 57 sR.spec:=Ct.okH _ Try.func57 (by kernel_rfl) (aD (aD (aD aV js) xL) yv) az vS (aT (by kernel_rfl) u0)
abbrev bq(l:List aE)(i:Int):Int:=dO (fun x=>decide (aX x.1 i<0)) l
theorem lZ{a b:Int}:aX a b<0↔a<b:=by
 unfold aX
 by_cases h1:a<b
 ·simp[h1]
 ·by_cases h2:b<a <;> simp[h1,h2]
theorem kH{l:List aE}{t:Int}{h:Int}(hs:l.Pairwise fun a b=>a.1<b.1)(h0:0<=h)(h1:h<l.length):aX (l.getD h.toNat default).1 t<0↔h<bq l t:=by
 rw[← sb (p:=fun x=>decide (aX x.1 t<0)) (R:=fun a b:aE=>a.1<b.1) (fun a b hab hb=>?_) hs h0 h1,decide_eq_true_eq]
 simp only[decide_eq_true_eq,lZ] at hb ⊢
 omega
def tH:Ct:=⟨[.agg dV,.val cI],[.val cI],fun _=>[],fun d=>((aX d.1.1 d.2.1,()),())⟩
def w9:aA tH.ps->aK:=(fun _=>{})
theorem wZ :
 ∀(a:Int)(b:List Int)(c:Int),(ak a/\b.length<=maxLen/\ ∀(d:Int),d∈b->0<=d/\d<=255)/\ak c/\True->True->aX a c=aX a c:=by
  intros;rfl
theorem yo:aF Try.prog GL 89 tH.spec:=Ct.okH _ Try.func89 (by kernel_rfl) (aD aV s8) az w9 (aT (by kernel_rfl) wZ)
def qq:Ct:=⟨[.val (.sl dV),.val cI,.fn 89 0],[.val cI,.val .bool],fun d=>[d.1.Pairwise fun a b=>a.1<b.1],fun d=>((bq d.1 d.2.1,(bif decide (bq d.1 d.2.1<d.1.length) then decide (aX (d.1.getD (bq d.1 d.2.1).toNat default).1 d.2.1=0) else false),()),())⟩
def Ad:aA qq.ps->aK:=(fun d=>{loops:=(fun n=>match n with|3=>some (fun S=>{ι:=Int×Int,qn:=⟨fun k_=>∀(i:Int)(j:Int),k_ (i,j),fun k_ h_ i=>h_ i.1 i.2,fun k_=>∃ (i:Int) (j:Int),k_ (i,j),fun k_ ⟨i,j,h_⟩=>⟨_,h_⟩⟩,μ:=fun i=>(i.2-i.1).toNat,inv:=fun i=>0<=i.1/\i.1<=bq d.1 d.2.1/\bq d.1 d.2.1<=i.2/\i.2<=d.1.length,keep:=[0,1,2,8],slots:=fun i=>[(9,.int .i64 i.1),(10,.int .i64 i.2)],names:=fun i=>[]})|_=>none)})
def jh(c d:Int) :=
 dP IntKind.u64 (IntKind.wrap .u64 (IntKind.wrap .i64 (c+d))) (1:Int)
theorem wD :
 ∀(a:List (Int×List Int))(b:Int),(a.length<=maxLen/\ ∀(c:Int×List Int),c∈a->ak c.1/\c.2.length<=maxLen/\ ∀(d:Int),d∈c.2->0<=d/\d<=255)/\ak b/\True/\True->List.Pairwise (fun (c d:Int×List Int)=>c.1<d.1) a->(∃(c:Int) (d:Int),(0<=c/\c<=bq a b/\bq a b<=d/\d<=(a.length:Int))/\a=a/\b=b/\(a.length:Int)=(a.length:Int)/\(0:Int)=c/\(a.length:Int)=d/\True)/\ ∀(c d:Int),0<=c/\c<=bq a b/\bq a b<=d/\d<=(a.length:Int)->ax (decide (c<d)) ((0:Int)<=1/\0<=IntKind.wrap .i64 (jh c d)/\IntKind.wrap .i64 (jh c d)<(a.length:Int)/\ax (decide (aX (a.getD (Int.toNat (IntKind.wrap .i64 (jh c d))) default).1 b<0)) (∃(e:Int) (f:Int),(0<=e/\e<=bq a b/\bq a b<=f/\f<=(a.length:Int))/\Int.toNat (f -e)<Int.toNat (d -c)/\a=a/\b=b/\(a.length:Int)=(a.length:Int)/\IntKind.wrap .i64 (IntKind.wrap .i64 (jh c d)+(1:Int))=e/\d=f/\True) (∃(e:Int) (f:Int),(0<=e/\e<=bq a b/\bq a
 b<=f/\f<=(a.length:Int))/\Int.toNat (f -e)<Int.toNat (d -c)/\a=a/\b=b/\(a.length:Int)=(a.length:Int)/\c=e/\IntKind.wrap .i64 (jh c d)=f/\True)) (∀(e:Bool),e=decide (c<(a.length:Int))->(e->(e->e)/\(e->e)/\0<=c/\c<(a.length:Int)/\True)/\(e->(e->e)/\True)/\(e->(e->e)/\(e->e)/\(e->e)/\True)/\(e->(e->e)/\True)/\(e->e)/\c=bq a b/\(bif e then decide (aX (a.getD c.toNat default).1 b=0) else false)=bif decide (bq a b<(a.length:Int)) then decide (aX (a.getD (Int.toNat (bq a b)) default).1 b=0) else false):=by
  delta jh
  rintro x p ⟨⟨hl,-⟩,-⟩ hs
  simp only[maxLen] at hl
  obtain⟨q0,q1⟩:=jg (fun y:aE=>decide (aX y.1 p<0)) x
  refine⟨⟨0,x.length,⟨by omega,q0,q1,by omega⟩,(by repeat' first|exact trivial|refine⟨trivial,?_⟩|refine⟨(by with_reducible rfl),?_⟩|refine⟨au (by omega) (by omega),?_⟩|refine⟨rfl,?_⟩)⟩,?_⟩
  rintro i j ⟨h0,h1,h2,h3⟩
  refine aM (fun hb=>?_) (fun hb=>?_)
  ·have hb:=of_decide_eq_true hb
   rw[py h0 (by omega) (by omega)]
   refine⟨by omega,by omega,by omega,aM (fun hc=>?_) (fun hc=>?_)⟩
   ·have hc:=(kH hs (by omega) (by omega)).1 (of_decide_eq_true hc)
    rw[au (by omega) (by omega)]
    exact⟨(i+j)/2+1,j,⟨by omega,by omega,h2,h3⟩,by omega,(by repeat' first|exact trivial|refine⟨trivial,?_⟩|refine⟨(by with_reducible rfl),?_⟩|refine⟨au (by omega) (by omega),?_⟩|refine⟨rfl,?_⟩)⟩
   ·have hc:¬ (i+j)/2<bq x p:=fun h=>absurd ((kH hs (by omega) (by omega)).2 h) (of_decide_eq_false hc)
    exact⟨i,(i+j)/2,⟨h0,h1,by omega,by omega⟩,by omega,(by repeat' first|exact trivial|refine⟨trivial,?_⟩|refine⟨(by with_reducible rfl),?_⟩|refine⟨au (by omega) (by omega),?_⟩|refine⟨rfl,?_⟩)⟩
  ·have hb:=of_decide_eq_false hb
   have:i=bq x p:=by omega
   subst this
   (repeat (intro (b_:Bool) (hb_:b_=_);(repeat refine⟨(by first|(simp;done)|(rw[hb_];simp;done)|(rw[hb_];simp;omega)|(rw[hb_];simp;intros;omega)|(rw[hb_];simp +contextual;done)),?_⟩);subst hb_))
   exact rfl
theorem xX:aF Try.prog GL 88 qq.spec:=Ct.okH _ Try.func88 (by kernel_rfl) (aD aV yo) az Ad (aT (by kernel_rfl) wD)
abbrev xa:OT := .pair (.hole 0) (.pair (.hole 1) (.pair cI (.pair (.hole 2) (.pair cI (.pair (.row 22 (.sl bc)) (.pair (.row 51 dV) (.pair (.hole 3) (.hole 4))))))))
def mw(kn w:Int)(g:List (List Int))(e:List aE):Prop:=(0<=kn/\kn<=100000)/\(0<=w/\w<=100000)/\g.length<=100000/\e.length<=100000/\e.Pairwise fun a b=>a.1<b.1
theorem xZ{l:List aE}{i:Int}(hs:l.Pairwise fun a b=>a.1<b.1):(bif decide (bq l i<l.length) then decide (aX (l.getD (bq l i).toNat default).1 i=0) else false)=l.any fun x=>decide (x.1=i):=by
 obtain⟨q0,q1⟩:=jg (fun x=>decide (aX x.1 i<0)) l
 have q0:0<=bq l i:=q0
 have q1:bq l i<=l.length:=q1
 apply Bool.eq_iff_iff.2
 rw[List.any_eq_true,ux,decide_eq_true_eq]
 have ez:∀ a:Int,aX a i=0↔a=i:=fun a=>by
  unfold aX
  by_cases h1:a<i
  ·simp[h1];omega
  ·by_cases h2:i<a
   ·simp[h1,h2];omega
   ·simp[h1,h2];omega
 constructor
 ·rintro⟨h1,h2⟩
  exact⟨_,dC q0 h1,decide_eq_true ((ez _).1 h2)⟩
 ·rintro⟨x,hx,h⟩
  have h:=of_decide_eq_true h
  obtain⟨j,hj,rfl⟩:=List.mem_iff_getElem.1 hx
  have g:∀ k:Nat,(hk:k<l.length)->l.getD k default=l[k]:=fun k hk=>by rw[List.getD_eq_getElem?_getD,List.getElem?_eq_getElem hk];rfl
  have k1:¬ (j:Int)<bq l i:=fun k=>by
   have:=(kH (t:=i) (h:=(j:Int)) hs (by omega) (by omega)).2 k
   rw[lZ,Int.toNat_natCast,g j hj,h] at this
   omega
  have k2:bq l i<l.length:=by omega
  refine⟨k2,(ez _).2 ?_⟩
  have k3:¬ aX (l.getD (bq l i).toNat default).1 i<0:=fun k=>absurd ((kH hs q0 k2).1 k) (by omega)
  rw[lZ,g _ (by omega)] at k3
  rw[g _ (by omega)]
  by_cases hq:(bq l i).toNat=j
  ·simp only[hq,h]
  ·have:=List.pairwise_iff_getElem.1 hs (bq l i).toNat j (by omega) hj (by omega)
   rw[h] at this;omega
theorem zP{l:List aE}{x:aE}:l.take (bq l x.1).toNat++([x]++l.drop (bq l x.1).toNat)=gM l x:=by
 obtain⟨e1,e2⟩:=mK (p:=fun y:aE=>decide (aX y.1 x.1<0)) (q:=fun y=>decide (y.1<x.1)) (l:=l) fun y hy=>by
  apply decide_eq_decide.2
  exact lZ
 obtain⟨t2,t3⟩:=s9 (fun y:aE=>decide (aX y.1 x.1<0)) l
 unfold gM
 rw[t2,t3,e1,e2]
 rfl
theorem Ab{e:List aE}{g:List (List Int)}(h:e=[]∨(e.getD 0 default).1≠g.length):cQ e g=(g,e):=by
 cases e with
 | nil=>rfl
 | cons x r =>
  rcases h with h|h
  ·cases h
  ·rw[cQ,if_neg (show ¬ x.1=_ from h)]
def sj:Ct:=⟨[.box 28 xa,.val cI,.val (.sl bc)],[],fun d=>[mw d.1.2.2.2.2.1 d.1.2.2.1 d.1.2.2.2.2.2.1 d.1.2.2.2.2.2.2.1],fun d=>((),((d.1.1,d.1.2.1,d.1.2.2.1,d.1.2.2.2.1,d.1.2.2.2.2.1,(ct (d.1.2.2.2.2.1+d.1.2.2.1) (d.1.2.2.2.2.2.1,d.1.2.2.2.2.2.2.1) d.2.1 d.2.2.1).1,(ct (d.1.2.2.2.2.1+d.1.2.2.1) (d.1.2.2.2.2.2.1,d.1.2.2.2.2.2.2.1) d.2.1 d.2.2.1).2,d.1.2.2.2.2.2.2.2),()))⟩
def u5:aA sj.ps->aK:=(fun d=>{loops:=(fun n=>match n with|3=>some (fun S=>{ι:=(List (List Int))×(List aE),qn:=⟨fun k_=>∀(g:(List (List Int)))(e:(List aE)),k_ (g,e),fun k_ h_ i=>h_ i.1 i.2,fun k_=>∃ (g:(List (List Int))) (e:(List aE)),k_ (g,e),fun k_ ⟨g,e,h_⟩=>⟨_,h_⟩⟩,μ:=fun i=>i.2.length,inv:=fun i=>cQ i.2 i.1=cQ d.1.2.2.2.2.2.2.1 (d.1.2.2.2.2.2.1++[d.2.2.1])/\i.1.length+i.2.length<=300000,keep:=[0],slots:=fun i=>[],names:=fun i=>[(1048576,.live (.cells 28 [.hv 1572864 d.1.1,.hv 1572865 d.1.2.1,.int .i64 d.1.2.2.1,.hv 1572866 d.1.2.2.2.1,.int .i64 d.1.2.2.2.2.1,.own 524288 1,.own 524289 2,.hv 1572867 d.1.2.2.2.2.2.2.2.1,.hv 1572868 d.1.2.2.2.2.2.2.2.2])),(524288,.live (.row 22 (.sl bc) i.1)),(524289,.live (.row 51 dV i.2)),(1572864,.dead),(1572865,.dead),(1572866,.dead),(1572867,.dead),(1572868,.dead)]})|_=>none)})
theorem va :
 ∀(a b:SV)(c:Int)(d:SV)(e:Int)(f:List (List Int))(g:List (Int×List Int))(h i:SV)(j:Int)(k:List Int),(True/\True/\ak c/\True/\ak e/\(f.length<=maxLen/\ ∀(l:List Int),l∈f->l.length<=maxLen/\ ∀(m:Int),m∈l->0<=m/\m<=255)/\(g.length<=maxLen/\ ∀(l:Int×List Int),l∈g->ak l.1/\l.2.length<=maxLen/\ ∀(m:Int),m∈l.2->0<=m/\m<=255)/\True/\True)/\ak j/\(k.length<=maxLen/\ ∀(l:Int),l∈k->0<=l/\l<=255)/\True->(0<=e/\e<=100000)/\(0<=c/\c<=100000)/\f.length<=(100000:Nat)/\g.length<=(100000:Nat)/\List.Pairwise (fun (l m:aE)=>l.1<m.1) g->List.Pairwise (fun (l m:Int×List Int)=>l.1<m.1) g/\ax (decide (j=(f.length:Int))) ((f.length+List.length [k])*(24:Nat)<=(140737488355328:Nat)/\(∃(l:List (List Int)),∃(m:List aE),(cQ m l=cQ g (f++[k])/\l.length+m.length<=(300000:Nat))/\a=a/\b=b/\c=c/\d=d/\e=e/\h=h/\i=i/\f++[k]=l/\g=m/\True)/\ ∀(l:List (List Int))(m:List aE),cQ m l=cQ g
 (f++[k])/\l.length+m.length<=(300000:Nat)-> ∀(n:Bool),n=decide (0<(m.length:Int))->(n->(n->n)/\True)/\(n->(n->n)/\True)/\(n->(n->n)/\True)/\(n->(n->n)/\(0:Int)<=0/\0<(m.length:Int)/\True)/\(n->(n->n)/\True)/\(n->(n->n)/\True)/\(n->(n->n)/\True)/\(n->(n->n)/\True)/\(n->(n->n)/\True)/\(n->(n->n)/\True)/\(n->(n->n)/\(n->n)/\True)/\(n->n)/\ax (bif n then decide ((m.getD (Int.toNat (0:Int)) default).1=(l.length:Int)) else false) ((0:Int)<=0/\0<(m.length:Int)/\(l.length+List.length [(m.getD (Int.toNat (0:Int)) default).2])*(24:Nat)<=(140737488355328:Nat)/\(0:Int)<=1/\1<=(m.length:Int)/\ ∃(o:List (List Int)),∃(p:List aE),(cQ p o=cQ g (f++[k])/\o.length+p.length<=(300000:Nat))/\p.length<m.length/\a=a/\b=b/\c=c/\d=d/\e=e/\h=h/\i=i/\l++[(m.getD (Int.toNat (0:Int)) default).2]=o/\List.drop (Int.toNat (1:Int)) m=p/\True) ((a,b,c,d,e,l,m,h,i)=(a,b,c,d,e,(ct (e+c) (f,g) j k).1,(ct
 (e+c) (f,g) j k).2,h,i))) (∀(l:Bool),l=decide ((f.length:Int)<j)->(l->(l->l)/\True)/\(l->l)/\ ∀(m:Bool),(m=bif l then ! bif decide (bq g j<(g.length:Int)) then decide (aX (g.getD (Int.toNat (bq g j)) default).1 j=0) else false else false)->(m->(m->m)/\True)/\(m->(m->m)/\True)/\(m->(m->m)/\True)/\(m->(m->m)/\True)/\(m->(m->m)/\True)/\(m->(m->m)/\True)/\(m->(m->m)/\(m->m)/\True)/\(m->(m->m)/\(m->m)/\True)/\(m->m)/\ax (bif m then decide (j<IntKind.wrap .i64 (e+c)) else false) (List.length [(j,k)]=(1:Nat)/\0<=bq g j/\bq g j<=(g.length:Int)/\(g.length+(1:Nat))*(32:Nat)<=(140737488355328:Nat)/\(a,b,c,d,e,f,List.take (Int.toNat (bq g j)) g++([(j,k)]++List.drop (Int.toNat (bq g j)) g),h,i)=(a,b,c,d,e,(ct (e+c) (f,g) j k).1,(ct (e+c) (f,g) j k).2,h,i)) ((a,b,c,d,e,f,g,h,i)=(a,b,c,d,e,(ct (e+c) (f,g) j k).1,(ct (e+c) (f,g) j k).2,h,i))):=by
  rintro s0 s1 w s2 kn g e s3 s4 i it-⟨hkn,hw,hg,he,hs⟩
  refine⟨hs,aM (fun h=>?_) (fun h=>?_)⟩
  ·have h:=of_decide_eq_true h
   have eA:ct (kn+w) (g,e) i it=cQ e (g++[it]):=if_pos h
   rw[eA]
   refine⟨by simp only[List.length_singleton];omega,⟨_,_,⟨rfl,by rw[List.length_append,List.length_singleton];omega⟩,(by repeat' first|exact trivial|refine⟨trivial,?_⟩|refine⟨(by with_reducible rfl),?_⟩|refine⟨au (by omega) (by omega),?_⟩|refine⟨rfl,?_⟩)⟩,?_⟩
   rintro g' e' ⟨ha,hb⟩
   (repeat (intro (b_:Bool) (hb_:b_=_);(repeat refine⟨(by first|(simp;done)|(rw[hb_];simp;done)|(rw[hb_];simp;omega)|(rw[hb_];simp;intros;omega)|(rw[hb_];simp +contextual;done)),?_⟩);subst hb_))
   refine kw (fun h1 h2=>?_) (fun h1=>?_)
   ·have h1:=of_decide_eq_true h1
    have h2:=of_decide_eq_true h2
    cases e' with
    | nil=>simp at h1
    | cons x r =>
     have h2:x.1=(g'.length:Int):=h2
     have hb':g'.length+(r.length+1)<=300000:=hb
     refine⟨by omega,h1,by simp only[List.length_singleton];omega,by omega,by simp only[List.length_cons];omega,g'++[x.2],r,⟨?_,by rw[List.length_append,List.length_singleton];omega⟩,by simp,(by repeat' first|exact trivial|refine⟨trivial,?_⟩|refine⟨(by with_reducible rfl),?_⟩|refine⟨au (by omega) (by omega),?_⟩|refine⟨rfl,?_⟩)⟩
     rw[← ha,cQ,if_pos h2]
   ·have hz:cQ e' g'=(g',e'):=by
     refine Ab ?_
     rcases h1 with h1|h1
     ·have h1:=of_decide_eq_false h1
      exact .inl (List.eq_nil_of_length_eq_zero (by omega))
     ·exact .inr (of_decide_eq_false h1)
    rw[← ha,hz]
  ·have h:=of_decide_eq_false h
   rw[xZ hs,au (n:=kn+w) (by omega) (by omega)]
   have eB:ct (kn+w) (g,e) i it=if i<g.length∨kn+w<=i∨(e.any fun x=>decide (x.1=i))=true then (g,e) else (g,gM e (i,it)):=if_neg h
   rw[eB]
   (repeat (intro (b_:Bool) (hb_:b_=_);(repeat refine⟨(by first|(simp;done)|(rw[hb_];simp;done)|(rw[hb_];simp;omega)|(rw[hb_];simp;intros;omega)|(rw[hb_];simp +contextual;done)),?_⟩);subst hb_))
   obtain⟨q0,q1⟩:=jg (fun y:aE=>decide (aX y.1 i<0)) e
   cases hany:(e.any fun x=>decide (x.1=i)) with
   | true =>
    rw[if_pos (.inr (.inr rfl))]
    simp only[Bool.not_true,cond_eq_ite,Bool.false_eq_true,if_false,ite_self]
    trivial
   | false =>
    simp only[Bool.not_false]
    refine kw (fun h1 h2=>?_) (fun h1=>?_)
    ·have h2:=of_decide_eq_true h2
     have h1:(g.length:Int)<i:=by simpa[Bool.cond_eq_ite] using h1
     rw[if_neg (by simp;omega)]
     exact⟨rfl,q0,q1,by omega,by rw[zP (x:=(i,it))]⟩
    ·rw[if_pos]
     rcases h1 with h1|h1
     ·have h1:¬ (g.length:Int)<i:=by simpa[Bool.cond_eq_ite] using h1
      exact .inl (by omega)
     ·exact .inr (.inl (by have:=of_decide_eq_false h1;omega))
theorem zZ:aF Try.prog GL 75 sj.spec:=Ct.okH _ Try.func75 (by kernel_rfl) (rH (aD (aD aV xX) zf) (d:=77)) az u5 (aT (by kernel_rfl) va)
theorem tE{now:Int}{l:List ah}{n:Int}(h0:0<=n)(h1:n<=l.length)(h2:∀ x∈l.take n.toNat,x.1<=now)(h3:¬ n<l.length∨¬ (l.getD n.toNat default).1<=now):n.toNat=(af now l).length:=by
 have e:af now l=l.take n.toNat:=by
  unfold af
  conv=>lhs;rw[← List.take_append_drop n.toNat l]
  rw[List.takeWhile_append_of_pos (fun x hx=>by simpa using h2 x hx)]
  rcases h3 with h3|h3
  ·rw[List.drop_eq_nil_of_le (by omega)];simp
  ·by_cases hn:n<l.length
   ·rw[List.drop_eq_getElem_cons (by omega)]
    rw[List.getD_eq_getElem?_getD,List.getElem?_eq_getElem (by omega)] at h3
    rw[List.takeWhile_cons_of_neg (by simpa using h3),List.append_nil]
   ·rw[List.drop_eq_nil_of_le (by omega)];simp
 rw[e,List.length_take];omega
abbrev yQ:OT := .pair cI (.pair (.hole 0) (.pair (.hole 1) (.pair (.hole 2) (.pair (.hole 3) (.pair (.hole 4) (.pair (.hole 5) (.pair (.row 53 bE) (.hole 6))))))))
abbrev zT:OT := .pair cI (.pair (.hole 0) (.pair (.hole 1) (.pair (.hole 2) (.pair (.hole 3) (.pair (.hole 4) (.pair (.hole 5) (.pair (.rowg 53 bE) (.hole 6))))))))
def p9:Cp:=⟨28,yQ,zT,7,53,bE,fun d=>d.2.2.2.2.2.2.2.1,fun _=>[],fun d=>(d.1,d.2.1,d.2.2.1,d.2.2.2.1,d.2.2.2.2.1,d.2.2.2.2.2.1,d.2.2.2.2.2.2.1,(),d.2.2.2.2.2.2.2.2),fun d=>(af d.1 d.2.2.2.2.2.2.2.1).length⟩
def vy:p9.o.D->aK:=(fun d=>{loops:=(fun n=>match n with|2=>some (fun S=>{ι:=Int,μ:=fun i=>(d.2.2.2.2.2.2.2.1.length-i).toNat,inv:=fun i=>0<=i/\i<=d.2.2.2.2.2.2.2.1.length∧∀ x∈d.2.2.2.2.2.2.2.1.take i.toNat,x.1<=d.1,keep:=[0,1],slots:=fun i=>[(5,.int .i64 i)],keepN:=[1048576,2097152],names:=fun i=>[(1572864,.dead),(1572865,.dead),(1572866,.dead),(1572867,.dead),(1572868,.dead),(1572869,.dead),(1572870,.dead)]})|_=>none)})
def dm(k:Bool) :=
 k->(k->k)/\True
theorem wC :
 ∀(a:Int)(b c d e f g:SV)(h:List (Int×Int×List Int))(i:SV),ak a/\True/\True/\True/\True/\True/\True/\(h.length<=maxLen/\ ∀(j:Int×Int×List Int),j∈h->ak j.1/\ak j.2.1/\j.2.2.length<=maxLen/\ ∀(k:Int),k∈j.2.2->0<=k/\k<=255)/\True->True->(∃(j:Int),(0<=j/\j<=(h.length:Int)/\ ∀(k:Int×Int×List Int),k∈List.take j.toNat h->k.1<=a)/\(0:Int)=j/\a=a/\b=b/\c=c/\d=d/\e=e/\f=f/\g=g/\i=i/\h=h/\True)/\ ∀(j:Int),(0<=j/\j<=(h.length:Int)/\ ∀(k:Int×Int×List Int),k∈List.take j.toNat h->k.1<=a)-> ∀(k:Bool),k=decide (j<(h.length:Int))->(dm k)/\(dm k)/\(k->(k->k)/\(k->k)/\0<=j/\j<(h.length:Int)/\True)/\(dm k)/\(dm k)/\(dm k)/\(dm k)/\(dm k)/\(k->(k->k)/\(k->k)/\True)/\(k->k)/\ax (bif k then decide ((h.getD j.toNat default).1<=a) else false) (∃(l:Int),(0<=l/\l<=(h.length:Int)/\ ∀(m:Int×Int×List Int),m∈List.take l.toNat h->m.1<=a)/\Int.toNat ((h.length:Int) -l)<Int.toNat ((h.length:Int)
 -j)/\IntKind.wrap .i64 (j+(1:Int))=l/\a=a/\b=b/\c=c/\d=d/\e=e/\f=f/\g=g/\i=i/\h=h/\True) ((0:Int)<=0/\0<=j/\j<=(h.length:Int)/\0<=j/\j<=(h.length:Int)/\(h.length:Int)<=(h.length:Int)/\Int.toNat (0:Int)=(0:Nat)/\j.toNat -Int.toNat (0:Int)=List.length (af a h)/\h=h/\j.toNat=List.length (af a h)/\Int.toNat (h.length:Int) -j.toNat=h.length -List.length (af a h)/\(a,b,c,d,e,f,g,(),i)=(a,b,c,d,e,f,g,(),i)):=by
  delta dm
  rintro now s0 s1 s2 s3 s4 s5 l s6 ⟨-,-,-,-,-,-,-,⟨hl,-⟩,-⟩ -
  simp only[maxLen] at hl
  refine⟨⟨0,⟨by omega,by omega,by simp⟩,(by repeat' first|exact trivial|refine⟨trivial,?_⟩|refine⟨(by with_reducible rfl),?_⟩|refine⟨au (by omega) (by omega),?_⟩|refine⟨rfl,?_⟩)⟩,?_⟩
  rintro n ⟨n0,n1,hn⟩
  (repeat (intro (b_:Bool) (hb_:b_=_);(repeat refine⟨(by first|(simp;done)|(rw[hb_];simp;done)|(rw[hb_];simp;omega)|(rw[hb_];simp;intros;omega)|(rw[hb_];simp +contextual;done)),?_⟩);subst hb_))
  refine kw (fun h1 h2=>?_) (fun h1=>?_)
  ·have h1:=of_decide_eq_true h1
   have h2:=of_decide_eq_true h2
   refine⟨n+1,⟨by omega,by omega,fun x hx=>?_⟩,by omega,(by repeat' first|exact trivial|refine⟨trivial,?_⟩|refine⟨(by with_reducible rfl),?_⟩|refine⟨au (by omega) (by omega),?_⟩|refine⟨rfl,?_⟩)⟩
   rw[fH n0 h1] at hx
   rcases List.mem_append.1 hx with hx|hx
   ·exact hn x hx
   ·rw[List.mem_singleton.1 hx];exact h2
  ·have e:=tE n0 n1 hn (h1.imp of_decide_eq_false of_decide_eq_false)
   have e0:Int.toNat 0=0:=rfl
   have hle:n.toNat<=l.length:=by omega
   refine⟨by omega,n0,n1,n0,n1,by omega,rfl,by omega,rfl,e,by omega,rfl⟩
theorem vx:aF Try.prog GL 74 p9.spec:=Cp.okH _ Try.func74 (by kernel_rfl) (me (me aV (d:=33)) (d:=39)) az rfl rfl rfl rfl (fun _=>rfl) vy (aT (by kernel_rfl) wC)
abbrev vu:OT := .pair cI (.pair (.hole 0) (.pair (.hole 1) (.pair (.hole 2) (.pair (.hole 3) (.pair (.hole 4) (.pair (.hole 5) (.pair (.hole 6) (.row 53 bE))))))))
abbrev xi:OT := .pair cI (.pair (.hole 0) (.pair (.hole 1) (.pair (.hole 2) (.pair (.hole 3) (.pair (.hole 4) (.pair (.hole 5) (.pair (.hole 6) (.rowg 53 bE))))))))
def p8:Cp:=⟨28,vu,xi,8,53,bE,fun d=>d.2.2.2.2.2.2.2.2,fun _=>[],fun d=>(d.1,d.2.1,d.2.2.1,d.2.2.2.1,d.2.2.2.2.1,d.2.2.2.2.2.1,d.2.2.2.2.2.2.1,d.2.2.2.2.2.2.2.1,()),fun d=>(af d.1 d.2.2.2.2.2.2.2.2).length⟩
def wE:p8.o.D->aK:=(fun d=>{loops:=(fun n=>match n with|2=>some (fun S=>{ι:=Int,μ:=fun i=>(d.2.2.2.2.2.2.2.2.length-i).toNat,inv:=fun i=>0<=i/\i<=d.2.2.2.2.2.2.2.2.length∧∀ x∈d.2.2.2.2.2.2.2.2.take i.toNat,x.1<=d.1,keep:=[0,1],slots:=fun i=>[(5,.int .i64 i)],keepN:=[1048576,2097152],names:=fun i=>[(1572864,.dead),(1572865,.dead),(1572866,.dead),(1572867,.dead),(1572868,.dead),(1572869,.dead),(1572870,.dead)]})|_=>none)})
theorem uu :
 ∀(a:Int)(b c d e f g h:SV)(i:List (Int×Int×List Int)),(ak a/\True/\True/\True/\True/\True/\True/\True/\i.length<=maxLen/\ ∀(j:Int×Int×List Int),j∈i->ak j.1/\ak j.2.1/\j.2.2.length<=maxLen/\ ∀(k:Int),k∈j.2.2->0<=k/\k<=255)->True->(∃(j:Int),(0<=j/\j<=(i.length:Int)/\ ∀(k:Int×Int×List Int),k∈List.take j.toNat i->k.1<=a)/\(0:Int)=j/\a=a/\b=b/\c=c/\d=d/\e=e/\f=f/\g=g/\h=h/\i=i/\True)/\ ∀(j:Int),(0<=j/\j<=(i.length:Int)/\ ∀(k:Int×Int×List Int),k∈List.take j.toNat i->k.1<=a)-> ∀(k:Bool),k=decide (j<(i.length:Int))->(dm k)/\(dm k)/\(k->(k->k)/\(k->k)/\0<=j/\j<(i.length:Int)/\True)/\(dm k)/\(dm k)/\(dm k)/\(dm k)/\(dm k)/\(k->(k->k)/\(k->k)/\True)/\(k->k)/\ax (bif k then decide ((i.getD j.toNat default).1<=a) else false) (∃(l:Int),(0<=l/\l<=(i.length:Int)/\ ∀(m:Int×Int×List Int),m∈List.take l.toNat i->m.1<=a)/\Int.toNat ((i.length:Int) -l)<Int.toNat ((i.length:Int)
 -j)/\IntKind.wrap .i64 (j+(1:Int))=l/\a=a/\b=b/\c=c/\d=d/\e=e/\f=f/\g=g/\h=h/\i=i/\True) ((0:Int)<=0/\0<=j/\j<=(i.length:Int)/\0<=j/\j<=(i.length:Int)/\(i.length:Int)<=(i.length:Int)/\Int.toNat (0:Int)=(0:Nat)/\j.toNat -Int.toNat (0:Int)=List.length (af a i)/\i=i/\j.toNat=List.length (af a i)/\Int.toNat (i.length:Int) -j.toNat=i.length -List.length (af a i)/\(a,b,c,d,e,f,g,h,())=(a,b,c,d,e,f,g,h,())):=by
  delta dm
  rintro now s0 s1 s2 s3 s4 s5 s6 l ⟨-,-,-,-,-,-,-,-,hl,-⟩ -
  simp only[maxLen] at hl
  refine⟨⟨0,⟨by omega,by omega,by simp⟩,(by repeat' first|exact trivial|refine⟨trivial,?_⟩|refine⟨(by with_reducible rfl),?_⟩|refine⟨au (by omega) (by omega),?_⟩|refine⟨rfl,?_⟩)⟩,?_⟩
  rintro n ⟨n0,n1,hn⟩
  (repeat (intro (b_:Bool) (hb_:b_=_);(repeat refine⟨(by first|(simp;done)|(rw[hb_];simp;done)|(rw[hb_];simp;omega)|(rw[hb_];simp;intros;omega)|(rw[hb_];simp +contextual;done)),?_⟩);subst hb_))
  refine kw (fun h1 h2=>?_) (fun h1=>?_)
  ·have h1:=of_decide_eq_true h1
   have h2:=of_decide_eq_true h2
   refine⟨n+1,⟨by omega,by omega,fun x hx=>?_⟩,by omega,(by repeat' first|exact trivial|refine⟨trivial,?_⟩|refine⟨(by with_reducible rfl),?_⟩|refine⟨au (by omega) (by omega),?_⟩|refine⟨rfl,?_⟩)⟩
   rw[fH n0 h1] at hx
   rcases List.mem_append.1 hx with hx|hx
   ·exact hn x hx
   ·rw[List.mem_singleton.1 hx];exact h2
  ·have e:=tE n0 n1 hn (h1.imp of_decide_eq_false of_decide_eq_false)
   have e0:Int.toNat 0=0:=rfl
   have hle:n.toNat<=l.length:=by omega
   refine⟨by omega,n0,n1,n0,n1,by omega,rfl,by omega,rfl,e,by omega,rfl⟩
theorem wa:aF Try.prog GL 74 p8.spec:=Cp.okH _ Try.func74 (by kernel_rfl) (me (me aV (d:=33)) (d:=39)) az rfl rfl rfl rfl (fun _=>rfl) wE (aT (by kernel_rfl) uu)
end Go.RS

/- Xch3: without faults a channel recovers in time. -/
namespace Go.RS
open Go.SX Go.Proofs
set_option maxRecDepth 100000
set_option linter.unusedVariables false
theorem XI.runs{c:ao}(h:XI c):∀ n:Nat,XI (a7 n c)/\ae (a7 n c)=ae c+n/\aj (a7 n c)=aj c/\aO (a7 n c)=aO c/\(aC c).length<=(aC (a7 n c)).length/\aQ c<=aQ (a7 n c)/\bN (a7 n c)<=bN c+585*n
 | 0=>⟨h,by show ae c=ae c+0;omega,rfl,rfl,Nat.le_refl _,Int.le_refl _,by show bN c<=_;omega⟩
 | n+1=>by
  obtain⟨a,b,d,e,f,g,o⟩:=h.runs n
  rw[gp]
  obtain⟨t1,t2,t3,t4⟩:=a.tick dN dN
  exact⟨t1,by show ae (a7 n c)+1=_;omega,d,e,by omega,by omega,by omega⟩
theorem lu(now:Int)(b:List Int)(j:Nat)(o:Int)(l:List ah):bm now b (bz [] j) (o,l)=if l.length<4096 then (o+1,cF l (now+1+0+0,o,b)) else (o,l):=by
 have e:bz [] j=(false,0,0):=by unfold bz;simp
 rw[e]
 unfold bm
 rw[if_neg (by simp)]
 show cj now 0 b 1 0 (o,l)=_
 rw[cj]
 rfl
theorem mL{now:Int}:∀{l:List ah},(∀ t∈l,t.1<=now)→∀ m,af now (l++m)=l++af now m/\a9 now (l++m)=a9 now m
 | [],_,m=>⟨rfl,rfl⟩
 | t::r,h,m=>by
  obtain⟨a,b⟩:=mL (l:=r) (fun x hx=>h x (List.mem_cons_of_mem _ hx)) m
  have ht:=h t List.mem_cons_self
  constructor
  ·show List.takeWhile _ (t::(r++m))=_
   rw[List.takeWhile_cons_of_pos (by simpa using ht)]
   exact congrArg (t :: ·) a
  ·show List.dropWhile _ (t::(r++m))=_
   rw[List.dropWhile_cons_of_pos (by simpa using ht)]
   exact b
theorem kv{now:Int}{l:List ah}(h:∀ t∈l,t.1<=now):af now l=l/\a9 now l=[]:=by
 obtain⟨a,b⟩:=mL h []
 rw[List.append_nil] at a b
 exact⟨a.trans (List.append_nil l),b⟩
theorem wc{l:List ah}{t:ah}(h:∀ x∈l,x.1<=t.1):cF l t=l++[t]:=by
 obtain⟨a,b⟩:=kv h
 unfold cF
 show af t.1 l++t::a9 t.1 l=_
 rw[a,b]
def kV(lim:Int)(c:ao):Prop:=(∀ t∈bi c,t.1<=lim∨t.1=ae c+1)∧∀ t∈bD c,t.1<=lim∨t.1=ae c+1
theorem lh{now:Int}{log:List (List Int)}:∀(todo:List Int)(j:Nat){o:Int}{l:List ah},∀ t∈(cf now log [] todo j (o,l)).2,t∈l∨t.1=now+1
 | [],j,o,l,t,ht => .inl ht
 | i::r,j,o,l,t,ht=>by
  rw[cf,lu] at ht
  split at ht
  ·rcases lh r (j+1) t ht with q|q
   ·rcases gz.1 q with rfl|q
    ·exact .inr (by show now+1+0+0=_;omega)
    ·exact .inl q
   ·exact .inr q
  ·exact lh r (j+1) t ht
theorem vz{c:ao}(h:XI c){up:List aL}(hu:cW up):cw (ae c) (aP c up).1 (aP c up).2:=by
 unfold aP
 split
 ·exact h.up
 ·exact (mi ⟨by omega,by omega⟩ (iQ hu 0) h.ord h.up).1
theorem z3{lim:Int}{c:ao}(h:XI c)(hn:kV lim c):kV lim (aS c [] []):=by
 constructor
 ·intro t ht
  have ht:t∈(cf (ae c+1) (aj c) [] (db c []) 0 ((aP c []).1,a9 (ae c+1) (bi c))).2:=ht
  rcases lh _ _ t ht with q|q
  ·obtain⟨a,b⟩:=(jU h.dn).1 q
   rcases hn.1 t a with k|k
   ·exact .inl k
   ·omega
  ·exact .inr q
 ·intro t ht
  have ht:t∈a9 (ae c+1) (aP c []).2:=ht
  obtain⟨a,b⟩:=(jU (vz h dN)).1 ht
  have k:t∈bD c∨t.1=ae c+1+1:=by
   unfold aP at a
   split at a
   ·exact .inl a
   ·rw[lu] at a
    split at a
    ·rcases gz.1 a with rfl|a
     ·exact .inr (by show ae c+1+1+0+0=_;omega)
     ·exact .inl a
    ·exact .inl a
  rcases k with k|k
  ·rcases hn.2 t k with q|q
   ·exact .inl q
   ·omega
  ·exact .inr k
theorem rV{lim:Int}{c:ao}(h:XI c)(hn:kV lim c):∀ n:Nat,kV lim (a7 n c)
 | 0=>hn
 | n+1=>by rw[gp];exact z3 (h.runs n).1 (rV h hn n)
def jM(c:ao):Prop:=(∀ t∈bi c,t.1=ae c+1)∧∀ t∈bD c,t.1=ae c+1
theorem pQ{c:ao}(h:XI c){n:Nat}(hn:2000<=n):jM (a7 n c):=by
 have k:=rV (lim:=ae c+2000) h ⟨fun t ht=>.inl (h.dn.r t ht).1.2,fun t ht=>.inl (h.up.r t ht).1.2⟩ n
 obtain⟨a,b,-⟩:=h.runs n
 constructor
 ·intro t ht
  have:=(a.dn.r t ht).1.1
  rcases k.1 t ht with q|q
  ·omega
  ·exact q
 ·intro t ht
  have:=(a.up.r t ht).1.1
  rcases k.2 t ht with q|q
  ·omega
  ·exact q
theorem n4{now:Int}{log:List (List Int)}:∀(todo:List Int)(j:Nat){o:Int}{l:List ah},l.length+todo.length<=4096 →
  (∀ t∈l,t∈(cf now log [] todo j (o,l)).2)∧∀ i∈todo,∃ t∈(cf now log [] todo j (o,l)).2,t.2.2=ch i (log.getD i.toNat default)
 | [],j,o,l,_=>⟨fun t ht=>ht,fun i hi=>(by cases hi)⟩
 | i::r,j,o,l,h=>by
  rw[List.length_cons] at h
  rw[cf,lu,if_pos (by omega)]
  obtain⟨a,b⟩:=n4 r (j+1) (o:=o+1) (l:=cF l (now+1+0+0,o,ch i (log.getD i.toNat default))) (by rw[pe];omega)
  refine⟨fun t ht=>a t (gz.2 (.inr ht)),fun x hx=>?_⟩
  rcases List.mem_cons.1 hx with rfl|hx
  ·exact⟨_,a _ (gz.2 (.inl rfl)),rfl⟩
  ·exact b x hx
def fe(c:ao):ah:=(ae c+1+1+0+0,bN c,bT ((a8 c).1.length:Int) ((a8 c).2.map (·.1)))
theorem lG{c:ao}(h:XI c)(f:jM c):dZ c []=bD c/\a9 (ae c+1) (aP c []).2=if bi c≠[]/\(bD c).length<4096 then [fe c] else []:=by
 have hu:∀ t∈bD c,t.1<=ae c+1:=fun t ht=>by rw[f.2 t ht];exact Int.le_refl _
 have hd:af (ae c+1) (bi c)=bi c:=(kv fun t ht=>by rw[f.1 t ht];exact Int.le_refl _).1
 unfold dZ aP
 rw[hd]
 split
 ·rename_i k
  rw[if_neg (fun q=>q.1 k)]
  exact kv hu
 ·rename_i k
  rw[lu]
  split
  ·rename_i q
   rw[if_pos ⟨k,q⟩]
   have e:cF (bD c) (ae c+1+1+0+0,bN c,bT ((a8 c).1.length:Int) ((a8 c).2.map (·.1)))=bD c++[fe c]:=wc fun x hx=>by
    have:=hu x hx
    show x.1<=ae c+1+1+0+0
    omega
   show af (ae c+1) (cF _ _)=_/\a9 (ae c+1) (cF _ _)=_
   rw[e]
   obtain⟨a,b⟩:=mL hu [fe c]
   have n1:¬ (fe c).1<=ae c+1:=by show ¬ ae c+1+1+0+0<=_;omega
   have a2:af (ae c+1) [fe c]=[]:=List.takeWhile_cons_of_neg (by simpa using n1)
   have b2:a9 (ae c+1) [fe c]=[fe c]:=List.dropWhile_cons_of_neg (by simpa using n1)
   rw[a,b,a2,b2,List.append_nil]
   exact⟨rfl,rfl⟩
  ·rename_i q
   rw[if_neg (fun z=>q z.2)]
   exact kv hu
theorem oB:∀{l:List ah}{k:Int},k<=b8 k l∧∀ t∈l,bd t.2.2 1<=b8 k l
 | [],k=>⟨Int.le_refl _,fun t ht=>(by cases ht)⟩
 | t::r,k=>by
  obtain⟨a,b⟩:=oB (l:=r) (k:=max k (bd t.2.2 1))
  show k<=b8 (max k (bd t.2.2 1)) r∧∀ x∈t::r,bd x.2.2 1<=b8 (max k (bd t.2.2 1)) r
  refine⟨by omega,fun x hx=>?_⟩
  rcases List.mem_cons.1 hx with rfl|hx
  ·omega
  ·exact b x hx
theorem tP{log:List (List Int)}{s:List (List Int)×List aE}(hl:log.length<=1024){t:ah}(h:eV log s t):∀ e∈cT (t.2.2.drop 3),ee s e/\bd t.2.2 1<e:=by
 obtain⟨g,es,e1,hg,-,h4⟩:=h
 intro e he
 by_cases h0:es=[]
 ·rw[e1,tf,h0] at he;cases he
 rw[e1,tf,rR fun x hx=>by have:=(h4 x hx).1;exact⟨by omega,by omega⟩] at he
 have hx:=(h4 e he).1
 rw[e1,oq ⟨by omega,by omega⟩]
 exact⟨(h4 e he).2,hx.1⟩
structure G1 (c:ao):Prop where
 x:XI c
 f:jM c
 cov:∀ i:Int,aQ c<=i->i<(aj c).length->i<aQ c+aO c->ee (aC c,cz c) i∨∃ t∈bi c,t.2.2=ch i ((aj c).getD i.toNat default)
 un:(bD c).length<=1
 ua:∀ t∈bD c,bd t.2.2 1=(aC c).length
theorem qK{c:ao}(h:XI c)(up:List aL)(hk:aQ c<=aJ c up):(db c up).length<=64:=by
 have h1:(db c up).length<=(dB (aJ c up) (min ((aj c).length:Int) (aJ c up+aO c))).length:=List.length_filter_le _ _
 have h2:(dB (aJ c up) (min ((aj c).length:Int) (aJ c up+aO c))).length=(min ((aj c).length:Int) (aJ c up+aO c)-aJ c up).toNat:=by unfold dB;rw[List.length_map,List.length_range]
 have:=h.win
 omega
theorem lU{c:ao}(f:jM c):a9 (ae c+1) (bi c)=[]/\af (ae c+1) (bi c)=bi c:=by
 obtain⟨a,b⟩:=kv (now:=ae c+1) (l:=bi c) fun t ht=>by rw[f.1 t ht];exact Int.le_refl _
 exact⟨b,a⟩
theorem pg{c:ao}(h:XI c)(f:jM c):G1 (aS c [] []):=by
 obtain⟨k1,k2,k3,-⟩:=h.tick dN dN
 obtain⟨u1,u2⟩:=lG h f
 obtain⟨f1,f2⟩:=lU f
 have hlog:=h.log
 have hwin:=h.win
 have hkn:=h.kn
 obtain⟨r1,r2,r3,r4⟩:=iW h.log (l:=af (ae c+1) (bi c)) h.rc fun t ht=>h.dd t (hZ ht).1
 have hT:=qK h [] k3
 have eD:bi (aS c [] [])=(cf (ae c+1) (aj c) [] (db c []) 0 ((aP c []).1,[])).2:=by
  show (cf _ _ _ _ _ ((aP c []).1,a9 (ae c+1) (bi c))).2=_
  rw[f1]
 have eU:bD (aS c [] [])=if bi c≠[]/\(bD c).length<4096 then [fe c] else []:=u2
 obtain⟨-,sall⟩:=n4 (now:=ae c+1) (log:=aj c) (db c []) 0 (o:=(aP c []).1) (l:=[]) (by simp;omega)
 have hgl:=k1.rc.n
 have hgl:(a8 c).1.length<=(aj c).length:=hgl
 refine⟨k1,⟨fun t ht=>?_,fun t ht=>?_⟩,fun i i0 i1 i2=>?_,?_,fun t ht=>?_⟩
 ·rw[eD] at ht
  rcases lh _ _ t ht with q|q
  ·cases q
  ·exact q
 ·rw[eU] at ht
  split at ht
  ·rw[List.mem_singleton.1 ht];show ae c+1+1+0+0=ae c+1+1;omega
  ·cases ht
 ·by_cases hn:i∈bU (dZ c [])
  ·left
   unfold bU at hn
   obtain⟨t,ht,hi⟩:=List.mem_flatMap.1 hn
   rw[u1] at ht
   exact r3 i (tP hlog (h.ud t ht) i hi).1
  ·right
   rw[eD]
   refine sall i (List.mem_filter.2 ⟨mem_range.2 ⟨i0,?_⟩,?_⟩)
   ·have i1:i<(aj c).length:=i1
    have i2:i<aJ c []+aO c:=i2
    omega
   ·simpa using hn
 ·rw[eU];split <;> simp
 ·rw[eU] at ht
  split at ht
  ·rw[List.mem_singleton.1 ht]
   show bd (bT ((a8 c).1.length:Int) ((a8 c).2.map (·.1))) 1=((a8 c).1.length:Int)
   exact oq ⟨by omega,by omega⟩ _
  ·cases ht
theorem G1.busy{c:ao}(h:G1 c)(hk:aQ (aS c [] [])<(aj c).length):bi (aS c [] [])≠[]:=by
 obtain⟨k1,k2,k3,-⟩:=h.x.tick dN dN
 obtain⟨u1,-⟩:=lG h.x h.f
 obtain⟨f1,f2⟩:=lU h.f
 have hT:=qK h.x [] k3
 have hwin:=h.x.win
 have hg:=oB (l:=bD c) (k:=aQ c)
 have eK:aJ c []=b8 (aQ c) (bD c):=by unfold aJ;rw[u1]
 have hk:aJ c []<(aj c).length:=hk
 obtain⟨-,sall⟩:=n4 (now:=ae c+1) (log:=aj c) (db c []) 0 (o:=(aP c []).1) (l:=[]) (by simp;omega)
 have hm:aJ c []∈db c []:=by
  refine List.mem_filter.2 ⟨mem_range.2 ⟨Int.le_refl _,by omega⟩,?_⟩
  have hn:aJ c [] ∉ bU (dZ c []):=by
   intro hn
   unfold bU at hn
   obtain⟨t,ht,hi⟩:=List.mem_flatMap.1 hn
   rw[u1] at ht
   have h1:=(tP h.x.log (h.x.ud t ht) _ hi).2
   have e1:bD c=[t]:=by
    have:=h.un
    match hU:bD c,ht with
    | [a],ht=>rw[List.mem_singleton.1 ht]
    | a::b::r,_=>rw[hU] at this;simp at this
   have e2:aJ c []=max (aQ c) (bd t.2.2 1):=by rw[eK,e1];rfl
   have e3:=h.ua t ht
   have e4:=h.x.kn
   omega
  simpa using hn
 obtain⟨t,ht,-⟩:=sall _ hm
 have eD:bi (aS c [] [])=(cf (ae c+1) (aj c) [] (db c []) 0 ((aP c []).1,[])).2:=by
  show (cf _ _ _ _ _ ((aP c []).1,a9 (ae c+1) (bi c))).2=_
  rw[f1]
 rw[eD]
 intro e
 rw[e] at ht
 cases ht
theorem G1.got{c:ao}(h:G1 c):min ((aj c).length:Int) (aQ c+aO c)<=(aC (aS c [] [])).length:=by
 obtain⟨k1,k2,k3,-⟩:=h.x.tick dN dN
 obtain⟨f1,f2⟩:=lU h.f
 obtain⟨r1,r2,r3,r4⟩:=iW h.x.log (l:=af (ae c+1) (bi c)) h.x.rc fun t ht=>h.x.dd t (hZ ht).1
 rw[f2] at r1 r2 r3 r4
 have eG:a8 c=cB (aQ c+aO c) (bi c) (aC c,cz c):=by unfold a8;rw[f2]
 rw[← eG] at r1 r2 r3 r4
 have hlog:=h.x.log
 have hkn:=h.x.kn
 show _<=((a8 c).1.length:Int)
 have r2:(aC c).length<=(a8 c).1.length:=r2
 by_cases hh:min ((aj c).length:Int) (aQ c+aO c)<=((a8 c).1.length:Int)
 ·exact hh
 exfalso
 have cov:ee (a8 c) ((a8 c).1.length:Int):=by
  rcases h.cov ((a8 c).1.length:Int) (by omega) (by omega) (by omega) with q|⟨t,ht,q⟩
  ·exact r3 _ q
  ·have em:bd t.2.2 1=((a8 c).1.length:Int):=by rw[q];exact rL ⟨by omega,by omega⟩ _
   have:=r4 t ht (by omega)
   rw[em] at this
   exact this
 rcases cov with q|⟨x,hx,q⟩
 ·omega
 ·have:=(r1.e.r x hx).1.1
  omega
theorem G1.two{b:ao}(hb:G1 b):min ((aj b).length:Int) (aQ (aS b [] [])+aO b)<=aQ (aS (aS (aS b [] []) [] []) [] []):=by
 have hc:G1 (aS b [] []):=pg hb.x hb.f
 have hc2:G1 (aS (aS b [] []) [] []):=pg hc.x hc.f
 obtain⟨-,-,m1,-⟩:=hc.x.tick dN dN
 obtain⟨-,-,m2,-⟩:=hc2.x.tick dN dN
 by_cases hk:aQ (aS b [] [])<(aj b).length
 ·have hd:=hb.busy hk
  have hg:=hc.got
  have eL:aj (aS b [] [])=aj b:=rfl
  have eW:aO (aS b [] [])=aO b:=rfl
  rw[← eL,← eW]
  clear eL eW
  generalize aS b [] []=c at *
  have hl:(bD c).length<4096:=by have:=hc.un;omega
  obtain⟨-,u2⟩:=lG hc.x hc.f
  rw[if_pos ⟨hd,hl⟩] at u2
  have eU:bD (aS c [] [])=[fe c]:=u2
  obtain⟨v1,-⟩:=lG hc2.x hc2.f
  have eK:aQ (aS (aS c [] []) [] [])=b8 (aQ (aS c [] [])) (bD (aS c [] [])):=by
   show b8 (aQ (aS c [] [])) (dZ (aS c [] []) [])=_
   rw[v1]
  have h1:=(oB (l:=bD (aS c [] [])) (k:=aQ (aS c [] []))).2 (fe c) (by rw[eU];exact List.mem_singleton.2 rfl)
  have h2:=hc2.ua (fe c) (by rw[eU];exact List.mem_singleton.2 rfl)
  rw[← eK] at h1
  omega
 ·omega
theorem uY{c:ao}(h:XI c)(k:Nat):G1 (a7 (2001+k) c):=by
 have f:=pQ h (n:=2000+k) (by omega)
 have e:a7 (2001+k) c=aS (a7 (2000+k) c) [] []:=by rw[show 2001+k=(2000+k)+1 by omega,gp]
 rw[e]
 exact pg (h.runs _).1 f
theorem sw{c:ao}(h:XI c):∀ m:Nat,min ((aj c).length:Int) ((m:Int)*aO c)<=aQ (a7 (2002+2*m) c)
 | 0=>by
  have:=(h.runs 2002).1.kn.1
  show min _ (0*aO c)<=aQ (a7 2002 c)
  rw[Int.zero_mul];omega
 | m+1=>by
  have ih:=sw h m
  have t:=(uY h (2*m)).two
  obtain⟨-,-,eL,eW,-⟩:=h.runs (2001+2*m)
  rw[eL,eW,← gp,← gp,← gp] at t
  rw[show 2001+2*m+1=2002+2*m by omega,show 2002+2*m+1+1=2002+2*(m+1) by omega] at t
  have e:((m+1:Nat):Int)*aO c=(m:Int)*aO c+aO c:=by rw[Int.natCast_succ,Int.add_mul,Int.one_mul]
  rw[e]
  generalize (m:Int)*aO c=z at *
  have:=h.win
  omega
theorem wg{c:ao}(h:XI c){n m:Nat}(hm:((aj c).length:Int)<=(m:Int)*aO c)(hn:2002+2*m<=n) :
  sO (a7 n c)=true/\bi (a7 n c)=[]/\aC (a7 n c)=aj (a7 n c):=by
 have g:=sw h m
 obtain⟨a,-,eL,eW,-⟩:=h.runs (2002+2*m)
 obtain⟨b,-,eL2,eW2,-,b6,-⟩:=a.runs (n-(2002+2*m))
 rw[tc,show 2002+2*m+(n-(2002+2*m))=n by omega] at b eL2 eW2 b6
 have b1:=b.kn
 have b2:(aC (a7 n c)).length<=(aj (a7 n c)).length:=b.rc.n
 have eLn:(aj (a7 n c)).length=(aj c).length:=by rw[eL2,eL]
 have hK:aQ (a7 n c)=(aj (a7 n c)).length:=by omega
 have hG:(aC (a7 n c)).length=(aj (a7 n c)).length:=by omega
 refine⟨?_,?_,?_⟩
 ·unfold sO
  rw[decide_eq_true hG,decide_eq_true hK];rfl
 ·have en:a7 n c=aS (a7 (n-1) c) [] []:=by rw[← gp,show n-1+1=n by omega]
  have f:=pQ h (n:=n-1) (by omega)
  rw[en] at hK ⊢
  have f1:=(lU f).1
  generalize a7 (n-1) c=v at *
  have hK:aJ v []=(aj v).length:=hK
  have eT:db v []=[]:=by
   unfold db
   rw[hK,List.filter_eq_nil_iff.2]
   intro i hi
   have:=mem_range.1 hi
   omega
  show (cf (ae v+1) (aj v) [] (db v []) 0 ((aP v []).1,a9 (ae v+1) (bi v))).2=[]
  rw[eT,f1];rfl
 ·have g:=b.rc.g
  have g:aC (a7 n c)=(aj (a7 n c)).take (aC (a7 n c)).length:=g
  rw[g,hG,List.take_length]
end Go.RS

/- Xdef: what the functions of an exchange answer. -/
namespace Go.RS
open Go.SX Go.Proofs
set_option maxRecDepth 100000
set_option linter.unusedVariables false
def fl(w:Int):Int:=if w<1∨64<w then 1 else 0
def lN:ao:=(0,0,0,[],0,[],[],[],[])
def hI(w:Int):ao:=if fl w=0 then e6 w else lN
def eY(c:ao)(it:List Int):Int:=if 1024<=(aj c).length∨(6000:Int)<it.length then 5 else 0
def hP(c:ao)(it:List Int):ao:=if eY c it=0 then gn c it else lN
def cH(f:aL):Bool:=decide (0<=f.2.1/\f.2.1<=1000/\0<=f.2.2/\f.2.2<=8)
def cP(l:List aL):Bool:=l.all cH
theorem jj{l:List aL}:cP l=true↔cW l:=by
 unfold cP cW
 rw[List.all_eq_true]
 constructor
 ·intro h f hf
  have:=h f hf
  unfold cH at this
  have:=of_decide_eq_true this
  exact⟨⟨this.1,this.2.1⟩,this.2.2⟩
 ·intro h f hf
  have:=h f hf
  exact decide_eq_true ⟨this.1.1,this.1.2,this.2⟩
def d6(c:ao)(ds us:List aL):Int:=if (cP ds&&cP us)=false then 1 else if 1099511627776<=ae c then 5 else 0
def gZ(c:ao)(ds us:List aL):ao:=if d6 c ds us=0 then aS c ds us else lN
def ek(c:ao)(n:Int):Int:=if n<0∨100000<n then 1 else if 0<n/\1099511627776<ae c+n then 5 else 0
def gX(c:ao)(n:Int):ao:=if ek c n=0 then a7 n.toNat c else lN
def XR(c:ao):Prop:=XI c/\bN c<=585*ae c
theorem XR.tick{c:ao}(h:XR c){ds us:List aL}(hd:cW ds)(hu:cW us):XR (aS c ds us):=by
 obtain⟨h1,h2⟩:=h
 obtain⟨k1,-,-,k2⟩:=h1.tick hd hu
 refine⟨k1,?_⟩
 show _<=585*(ae c+1)
 omega
theorem XR.push{c:ao}(h:XR c){it:List Int}(hl:(aj c).length<1024)(hi:(it.length:Int)<=6000):XR (gn c it):=⟨h.1.push hl hi,h.2⟩
theorem XR.new{w:Int}(h0:1<=w)(h1:w<=64):XR (e6 w):=⟨XI.new h0 h1,by show (0:Int)<=585*0;omega⟩
theorem XR.runs{c:ao}(h:XR c)(n:Nat):XR (a7 n c):=by
 obtain⟨k1,k2,-,-,-,-,k3⟩:=h.1.runs n
 have h2:=h.2
 exact⟨k1,by omega⟩
end Go.RS

/- Xw3: the program's exchange: what arrives at the receiver and at the sender; a tick. -/
namespace Go.RS
open Go.SX Go.Proofs
set_option maxRecDepth 100000
set_option linter.unusedVariables false
abbrev uy:OT := .pair cI (.pair cI (.pair cI (.pair (.hole 0) (.pair cI (.pair (.row 22 (.sl bc)) (.pair (.row 51 dV) (.pair (.row 53 bE) (.row 53 bE))))))))
def aW(now lim:Int)(dn:List ah)(g:List (List Int))(e:List aE):List (List Int)×List aE:=cB lim (af now dn) (g,e)
def f7(now ord:Int)(G:List (List Int)×List aE)(dn up:List ah)(fs:List aL):Int×List ah:=if af now dn=[] then (ord,up) else bm now (bT (G.1.length:Int) (G.2.map (·.1))) (bz fs 0) (ord,up)
structure lj (now ord win kn:Int) (g:List (List Int)) (e:List aE) (dn up:List ah) (fs:List aL) (log:List (List Int)):Prop where
 rc:gG log (kn+win) (g,e)
 ln:log.length<=1024
 it:∀ b∈log,(b.length:Int)<=6000
 dd:∀ t∈dn,iL log t
 kn:0<=kn/\kn<=1024
 wn:1<=win/\win<=64
 so:cM now ord up
 oo:ord<=900000000000000
 ff:gF (bz fs 0)
 dl:dn.length<=4096
theorem rk(now:Int)(l:List ah):(af now l).length<=l.length/\l.drop (af now l).length=a9 now l/\(∀ k:Nat,k<(af now l).length->l.getD k default=(af now l).getD k default)∧∀ t∈af now l,t∈l:=by
 have e:af now l++a9 now l=l:=List.takeWhile_append_dropWhile
 generalize af now l=A at *
 generalize a9 now l=B at *
 subst e
 refine⟨by rw[List.length_append];omega,List.drop_left,fun k hk=>?_,fun t ht=>List.mem_append_left _ ht⟩
 rw[List.getD_eq_getElem?_getD,List.getD_eq_getElem?_getD,List.getElem?_append_left hk]
theorem sM:∀{l:List aE}{lo hi:Int},l.Pairwise (fun a b=>a.1<b.1)->(∀ x∈l,lo<=x.1/\x.1<hi)->(l.length:Int)<=max 0 (hi-lo)
 | [],lo,hi,_,_=>by simp;omega
 | x::r,lo,hi,hs,hb=>by
  obtain⟨s1,s2⟩:=List.pairwise_cons.1 hs
  have hx:=hb x List.mem_cons_self
  have:=sM (l:=r) (lo:=x.1+1) (hi:=hi) s2 fun y hy=>⟨by have:=s1 y hy;omega,(hb y (List.mem_cons_of_mem _ hy)).2⟩
  rw[List.length_cons];omega
theorem rE{log:List (List Int)}{kn win:Int}{g:List (List Int)}{e:List aE}(h:gG log (kn+win) (g,e))(hl:log.length<=1024)(hk:0<=kn/\kn<=1024)(hw:1<=win/\win<=64):mw kn win g e/\g.length<=1024/\e.length<=1024∧∀ x∈e,0<=x.1/\x.1<1024:=by
 have h1:g.length<=log.length:=h.n
 have h2:e.Pairwise fun a b=>a.1<b.1:=h.e.s
 have hr:∀ x∈e,0<=x.1/\x.1<1024:=fun x hx=>by
  obtain⟨⟨k1,k2⟩,-⟩:=h.e.r x hx
  have k1:(g.length:Int)<x.1:=k1
  omega
 have h3:=sM (lo:=0) (hi:=1024) h2 hr
 have h3:(e.length:Int)<=1024:=by omega
 exact⟨⟨by omega,by omega,by omega,by omega,h2⟩,by omega,by omega,hr⟩
theorem t9{log:List (List Int)}{t:ah}(h:iL log t)(hi:∀ b∈log,(b.length:Int)<=6000):3<=t.2.2.length/\(t.2.2.length:Int)<=6003:=by
 obtain⟨i,h1,h2⟩:=h
 have h3:=hi _ (dC (xs:=log) h1.1 h1.2)
 rw[h2,mT];omega
theorem yJ(lim:Int)(l:List ah)(t:ah)(s:List (List Int)×List aE):cB lim (l++[t]) s=ct lim (cB lim l s) (bd t.2.2 1) (t.2.2.drop 3):=by
 unfold cB;rw[List.foldl_append];rfl
theorem qh:∀(es:List Int)(i:Int),d8 (es++[i])=d8 es++cX i 2 2
 | [],i=>by simp[d8]
 | a::r,i=>by rw[List.cons_append,d8,d8,qh r i,List.append_assoc]
theorem x8(g:Int)(es:List Int)(i:Int):bT g es++cX i 2 2=bT g (es++[i]):=by
 unfold bT;rw[qh,List.cons_append,List.append_assoc]
def qS:Ct:=⟨[.box 28 uy,.val (.sl d7)],[],fun d=>[∃ log,lj d.1.1 d.1.2.1 d.1.2.2.1 d.1.2.2.2.2.1 d.1.2.2.2.2.2.1 d.1.2.2.2.2.2.2.1 d.1.2.2.2.2.2.2.2.1 d.1.2.2.2.2.2.2.2.2 d.2.1 log],fun d=>((),((d.1.1,(f7 d.1.1 d.1.2.1 (aW d.1.1 (d.1.2.2.2.2.1+d.1.2.2.1) d.1.2.2.2.2.2.2.2.1 d.1.2.2.2.2.2.1 d.1.2.2.2.2.2.2.1) d.1.2.2.2.2.2.2.2.1 d.1.2.2.2.2.2.2.2.2 d.2.1).1,d.1.2.2.1,d.1.2.2.2.1,d.1.2.2.2.2.1,(aW d.1.1 (d.1.2.2.2.2.1+d.1.2.2.1) d.1.2.2.2.2.2.2.2.1 d.1.2.2.2.2.2.1 d.1.2.2.2.2.2.2.1).1,(aW d.1.1 (d.1.2.2.2.2.1+d.1.2.2.1) d.1.2.2.2.2.2.2.2.1 d.1.2.2.2.2.2.1 d.1.2.2.2.2.2.2.1).2,a9 d.1.1 d.1.2.2.2.2.2.2.2.1,(f7 d.1.1 d.1.2.1 (aW d.1.1 (d.1.2.2.2.2.1+d.1.2.2.1) d.1.2.2.2.2.2.2.2.1 d.1.2.2.2.2.2.1 d.1.2.2.2.2.2.2.1) d.1.2.2.2.2.2.2.2.1 d.1.2.2.2.2.2.2.2.2 d.2.1).2),()))⟩
def wm:aA qS.ps->aK:=(fun d=>{loops:=(fun n=>match n with|2=>some (fun S=>{ι:=Int×(List (List Int))×(List aE),qn:=⟨fun k_=>∀(j:Int)(g:(List (List Int)))(e:(List aE)),k_ (j,g,e),fun k_ h_ i=>h_ i.1 i.2.1 i.2.2,fun k_=>∃ (j:Int) (g:(List (List Int))) (e:(List aE)),k_ (j,g,e),fun k_ ⟨j,g,e,h_⟩=>⟨_,h_⟩⟩,μ:=fun i=>((af d.1.1 d.1.2.2.2.2.2.2.2.1).length-i.1).toNat,inv:=fun i=>0<=i.1/\i.1<=(af d.1.1 d.1.2.2.2.2.2.2.2.1).length/\(i.2.1,i.2.2)=cB (d.1.2.2.2.2.1+d.1.2.2.1) ((af d.1.1 d.1.2.2.2.2.2.2.2.1).take i.1.toNat) (d.1.2.2.2.2.2.1,d.1.2.2.2.2.2.2.1),keep:=[0,1,4,15,16],slots:=fun i=>[(17,.int .i64 i.1)],keepN:=[240,2097155],names:=fun i=>[(1048576,.live (.cells 28 [.int .i64 d.1.1,.int .i64 d.1.2.1,.int .i64 d.1.2.2.1,.hv 1572864 d.1.2.2.2.1,.int .i64 d.1.2.2.2.2.1,.own 524288 1,.own 524289 2,.part 240 3 (af d.1.1 d.1.2.2.2.2.2.2.2.1).length (d.1.2.2.2.2.2.2.2.1.length-(af d.1.1 d.1.2.2.2.2.2.2.2.1).length),.own 2097155 3])),(524288,.live (.row 22 (.sl bc) i.2.1)),(524289,.live (.row 51 dV i.2.2)),(1572864,.dead)]})|9=>some (fun S=>{ι:=Int×(List Int),qn:=⟨fun k_=>∀(j:Int)(b:(List Int)),k_ (j,b),fun k_ h_ i=>h_ i.1 i.2,fun k_=>∃ (j:Int) (b:(List Int)),k_ (j,b),fun k_ ⟨j,b,h_⟩=>⟨_,h_⟩⟩,μ:=fun i=>((aW d.1.1 (d.1.2.2.2.2.1+d.1.2.2.1) d.1.2.2.2.2.2.2.2.1 d.1.2.2.2.2.2.1 d.1.2.2.2.2.2.2.1).2.length-i.1).toNat,inv:=fun i=>0<=i.1/\i.1<=(aW d.1.1 (d.1.2.2.2.2.1+d.1.2.2.1) d.1.2.2.2.2.2.2.2.1 d.1.2.2.2.2.2.1 d.1.2.2.2.2.2.2.1).2.length/\i.2=bT ((aW d.1.1 (d.1.2.2.2.2.1+d.1.2.2.1) d.1.2.2.2.2.2.2.2.1 d.1.2.2.2.2.2.1 d.1.2.2.2.2.2.2.1).1.length:Int) (((aW d.1.1 (d.1.2.2.2.2.1+d.1.2.2.1) d.1.2.2.2.2.2.2.2.1 d.1.2.2.2.2.2.1 d.1.2.2.2.2.2.2.1).2.map (·.1)).take i.1.toNat),keep:=[0,1,45,46],slots:=fun i=>[(47,.int .i64 i.1),(7,.own 524290 1)],keepN:=[1048576,524288,524289,544,2097155],names:=fun i=>[(524290,.live (.row 5 bc i.2)),(1572864,.dead)]})|_=>none)})
def jF(h:List (Int×Int×List Int))(k:Int) :=
 ((List.length (h.getD ((0:Nat)+k.toNat) default).2.2):Int)
def cU(a:Int)(h:List (Int×Int×List Int)) :=
 List.length (af a h)
def lR(h:List (Int×Int×List Int))(k:Int) :=
 bH (h.getD ((0:Nat)+k.toNat) default).2.2 (Int.toNat (3:Int)) (Int.toNat (jF h k))
theorem xP :
 ∀(a b c:Int)(d:SV)(e:Int)(f:List (List Int))(g:List (Int×List Int))(h i:List (Int×Int×List Int))(j:List (Bool×Int×Int)),(ak a/\ak b/\ak c/\True/\ak e/\(f.length<=maxLen/\ ∀(k:List Int),k∈f->k.length<=maxLen/\ ∀(l:Int),l∈k->0<=l/\l<=255)/\(g.length<=maxLen/\ ∀(k:Int×List Int),k∈g->ak k.1/\k.2.length<=maxLen/\ ∀(l:Int),l∈k.2->0<=l/\l<=255)/\(h.length<=maxLen/\ ∀(k:Int×Int×List Int),k∈h->ak k.1/\ak k.2.1/\k.2.2.length<=maxLen/\ ∀(l:Int),l∈k.2.2->0<=l/\l<=255)/\i.length<=maxLen/\ ∀(k:Int×Int×List Int),k∈i->ak k.1/\ak k.2.1/\k.2.2.length<=maxLen/\ ∀(l:Int),l∈k.2.2->0<=l/\l<=255)/\(j.length<=maxLen/\ ∀(k:Bool×Int×Int),k∈j->True/\ak k.2.1/\ak k.2.2)/\True->(∃(k:List (List Int)),lj a b c e f g h i j k)->(∃(k:Int) (l:List (List Int)),∃(m:List aE),(0<=k/\k<=((cU a h):Int)/\(l,m)=cB (e+c) (List.take k.toNat (af a h)) (f,g))/\j=j/\(0:Nat)=(0:Nat)/\List.length (af a
 h)=List.length (af a h)/\(0:Nat)=(0:Nat)/\List.length (af a h)=List.length (af a h)/\((cU a h):Int)=((cU a h):Int)/\(0:Int)=k/\h=h/\i=i/\a=a/\b=b/\c=c/\d=d/\e=e/\List.length (af a h)=List.length (af a h)/\h.length -List.length (af a h)=h.length -List.length (af a h)/\f=l/\g=m/\True)/\ ∀(k:Int)(l:List (List Int))(m:List aE),0<=k/\k<=((cU a h):Int)/\(l,m)=cB (e+c) (List.take k.toNat (af a h)) (f,g)->ax (decide (k<((cU a h):Int))) (0<=k/\k<((cU a h):Int)/\(jF h k)<=9223372036854775807/\(0:Int)<=3/\3<=(jF h k)/\(jF h k)<=(jF h k)/\((List.length (lR h k)):Int)<=1099511627776/\mw e c l m/\ ∃(n:Int) (o:List (List Int)),∃(p:List aE),(0<=n/\n<=((cU a h):Int)/\(o,p)=cB (e+c) (List.take n.toNat (af a h)) (f,g))/\Int.toNat (((cU a h):Int) -n)<Int.toNat (((cU a h):Int) -k)/\j=j/\(0:Nat)=(0:Nat)/\List.length (af a h)=List.length (af a
 h)/\(0:Nat)=(0:Nat)/\List.length (af a h)=List.length (af a h)/\((cU a h):Int)=((cU a h):Int)/\IntKind.wrap .i64 (k+(1:Int))=n/\h=h/\i=i/\a=a/\b=b/\c=c/\d=d/\e=e/\List.length (af a h)=List.length (af a h)/\h.length -List.length (af a h)=h.length -List.length (af a h)/\(ct (e+c) (l,m) (bd (h.getD ((0:Nat)+k.toNat) default).2.2 (1:Int)) (lR h k)).1=o/\(ct (e+c) (l,m) (bd (h.getD ((0:Nat)+k.toNat) default).2.2 (1:Int)) (lR h k)).2=p/\True) (List.length (af a h)+(h.length -List.length (af a h))=h.length/\ax (decide (((cU a h):Int)=0)) ((a,b,c,d,e,l,m,List.drop (cU a h) h,i)=(a,(f7 a b (aW a (e+c) h f g) h i j).1,c,d,e,(aW a (e+c) h f g).1,(aW a (e+c) h f g).2,a9 a h,(f7 a b (aW a (e+c) h f g) h i j).2)) (0<=(l.length:Int)/\(List.length [(65:Int)]+List.length (cX (l.length:Int) (2:Nat) (2:Nat)))*(1:Nat)<=(140737488355328:Nat)/\(∃(n:Int)
 (o:List Int),(0<=n/\n<=((List.length (aW a (e+c) h f g).2):Int)/\o=bT ((List.length (aW a (e+c) h f g).1):Int) (List.take n.toNat (List.map (fun (p:aE)=>p.1) (aW a (e+c) h f g).2)))/\j=j/\(m.length:Int)=(m.length:Int)/\(0:Int)=n/\a=a/\b=b/\c=c/\d=d/\e=e/\l=l/\m=m/\List.drop (cU a h) h=List.drop (cU a h) h/\i=i/\[(65:Int)]++cX (l.length:Int) (2:Nat) (2:Nat)=o/\True)/\ ∀(n:Int)(o:List Int),0<=n/\n<=((List.length (aW a (e+c) h f g).2):Int)/\o=bT ((List.length (aW a (e+c) h f g).1):Int) (List.take n.toNat (List.map (fun (p:aE)=>p.1) (aW a (e+c) h f g).2))->ax (decide (n<(m.length:Int))) (0<=n/\n<(m.length:Int)/\0<=(m.getD n.toNat default).1/\(o.length+List.length (cX (m.getD n.toNat default).1 (2:Nat) (2:Nat)))*(1:Nat)<=(140737488355328:Nat)/\ ∃(p:Int) (q:List Int),(0<=p/\p<=((List.length (aW a (e+c) h f g).2):Int)/\q=bT ((List.length (aW a (e+c) h f g).1):Int)
 (List.take p.toNat (List.map (fun (r:aE)=>r.1) (aW a (e+c) h f g).2)))/\Int.toNat (((List.length (aW a (e+c) h f g).2):Int) -p)<Int.toNat (((List.length (aW a (e+c) h f g).2):Int) -n)/\j=j/\(m.length:Int)=(m.length:Int)/\IntKind.wrap .i64 (n+(1:Int))=p/\a=a/\b=b/\c=c/\d=d/\e=e/\l=l/\m=m/\List.drop (cU a h) h=List.drop (cU a h) h/\i=i/\o++cX (m.getD n.toNat default).1 (2:Nat) (2:Nat)=q/\True) (cM a b i/\b<=900000000000000/\gF (bz j (Int.toNat (0:Int)))/\(0:Int)<=0/\(o.length:Int)<=1000000/\(a,(bm a o (bz j (Int.toNat (0:Int))) (b,i)).1,c,d,e,l,m,List.drop (cU a h) h,(bm a o (bz j (Int.toNat (0:Int))) (b,i)).2)=(a,(f7 a b (aW a (e+c) h f g) h i j).1,c,d,e,(aW a (e+c) h f g).1,(aW a (e+c) h f g).2,a9 a h,(f7 a b (aW a (e+c) h f g) h i j).2)))):=by
  delta jF cU lR
  rintro now ord win s kn got ear dn up fs-⟨log,h⟩
  obtain⟨q1,q2,q3,q4⟩:=rk now dn
  have hln:=h.ln
  have hdl:=h.dl
  have hso:=h.so
  obtain⟨-,-,-,-,hup⟩:=hso
  have eG:aW now (kn+win) dn got ear=cB (kn+win) (af now dn) (got,ear):=rfl
  have eU:f7 now ord (aW now (kn+win) dn got ear) dn up fs=if af now dn=[] then (ord,up) else bm now (bT ((aW now (kn+win) dn got ear).1.length:Int) ((aW now (kn+win) dn got ear).2.map (·.1))) (bz fs 0) (ord,up):=rfl
  rw[eU,← q2,eG]
  clear eU eG
  have hd:∀ t∈af now dn,iL log t:=fun t ht=>h.dd t (q4 t ht)
  generalize af now dn=L at *
  have hst:∀ n:Nat,∀(g:List (List Int))(e:List aE),(g,e)=cB (kn+win) (L.take n) (got,ear)->mw kn win g e/\g.length<=1024/\e.length<=1024∧∀ x∈e,0<=x.1/\x.1<1024:=fun n g e he=>by
   obtain⟨k1,-⟩:=iW hln (l:=L.take n) h.rc fun t ht=>hd t (List.mem_of_mem_take ht)
   rw[← he] at k1
   exact rE k1 hln h.kn h.wn
  refine⟨⟨0,got,ear,⟨by omega,by omega,rfl⟩,(by repeat' first|exact trivial|refine⟨trivial,?_⟩|refine⟨(by with_reducible rfl),?_⟩|refine⟨au (by omega) (by omega),?_⟩|refine⟨rfl,?_⟩)⟩,?_⟩
  rintro j g e ⟨j0,j1,he⟩
  obtain⟨t1,t2,t3,t4⟩:=hst _ _ _ he
  refine aM (fun hj=>?_) (fun hj=>?_)
  ·have hj:=of_decide_eq_true hj
   have ed:dn.getD (0+j.toNat) default=L.getD j.toNat default:=by rw[Nat.zero_add];exact q3 _ (by omega)
   have hmem:=dC (xs:=L) j0 hj
   rw[ed]
   obtain⟨d1,d2⟩:=t9 (hd _ hmem) h.it
   have ht:=fH (l:=L) j0 hj
   generalize L.getD j.toNat default=T at *
   have es:bH T.2.2 (Int.toNat 3) (Int.toNat (T.2.2.length:Int))=T.2.2.drop 3:=by
    unfold bH;rw[Int.toNat_natCast,List.take_length];rfl
   rw[es]
   refine⟨j0,by omega,by omega,by omega,by omega,by omega,by rw[List.length_drop];omega,t1,j+1,(ct (kn+win) (g,e) (bd T.2.2 1) (T.2.2.drop 3)).1,(ct (kn+win) (g,e) (bd T.2.2 1) (T.2.2.drop 3)).2,⟨by omega,by omega,?_⟩,by omega,(by repeat' first|exact trivial|refine⟨trivial,?_⟩|refine⟨(by with_reducible rfl),?_⟩|refine⟨au (by omega) (by omega),?_⟩|refine⟨rfl,?_⟩)⟩
   rw[ht,yJ,← he]
  ·have hj:=of_decide_eq_false hj
   have ej:j.toNat=L.length:=by omega
   rw[ej,List.take_length] at he
   rw[← he]
   refine⟨by omega,aM (fun hz=>?_) (fun hz=>?_)⟩
   ·have hz:=of_decide_eq_true hz
    rw[if_pos (List.eq_nil_of_length_eq_zero (by omega))]
   ·have hz:=of_decide_eq_false hz
    rw[if_neg (fun hL=>hz (by rw[hL];rfl))]
    refine⟨by omega,by rw[jO];simp only[List.length_singleton];omega,⟨0,bT (g.length:Int) [],⟨by omega,by omega,by simp⟩,?_⟩,?_⟩
    ·(repeat first|refine⟨trivial,?_⟩|refine⟨(by with_reducible rfl),?_⟩|refine⟨au (by omega) (by omega),?_⟩)
     exact⟨by simp[bT,d8],trivial⟩
    ·rintro i b ⟨i0,i1,hb⟩
     have hb:b=bT (g.length:Int) ((e.map (·.1)).take i.toNat):=hb
     subst hb
     have i1:i<=(e.length:Int):=i1
     have hbl:(bT (g.length:Int) ((e.map (·.1)).take i.toNat)).length<=3+2*1024:=by
      rw[nh,List.length_take,List.length_map];omega
     refine aM (fun hi=>?_) (fun hi=>?_)
     ·have hi:=of_decide_eq_true hi
      have hx:=t4 _ (dC (xs:=e) i0 hi)
      have hn:=fH (l:=e.map (·.1)) i0 (by rw[List.length_map];exact hi)
      have em:(e.map (·.1)).getD i.toNat default=(e.getD i.toNat default).1:=by
       simp only[List.getD_eq_getElem?_getD,List.getElem?_map]
       rw[List.getElem?_eq_getElem (by omega)];rfl
      refine⟨i0,hi,hx.1,by rw[jO];omega,i+1,bT (g.length:Int) ((e.map (·.1)).take (i+1).toNat),⟨by omega,by show i+1<=(e.length:Int);omega,rfl⟩,by show ((e.length:Int)-(i+1)).toNat<((e.length:Int)-i).toNat;omega,?_⟩
      (repeat first|refine⟨trivial,?_⟩|refine⟨(by with_reducible rfl),?_⟩|refine⟨au (by omega) (by omega),?_⟩)
      exact⟨by rw[x8,hn,em],trivial⟩
     ·have hi:=of_decide_eq_false hi
      refine⟨h.so,h.oo,h.ff,by omega,by omega,?_⟩
      have ei:(e.map (·.1)).take i.toNat=e.map (·.1):=List.take_of_length_le (by rw[List.length_map];omega)
      rw[ei]
      rfl
theorem ym:aF Try.prog GL 54 qS.spec:=Ct.okH _ Try.func54 (by kernel_rfl) (qi (aD (aD (aD (aD (aD (aD aV vx) rp) js) zZ) qz) tG) (d:=33) (p:=1048576) (off:=7)) az wm (aT (by kernel_rfl) xP)
abbrev xz:OT := .pair cI (.pair (.hole 0) (.pair (.hole 1) (.pair (.hole 2) (.pair cI (.pair (.hole 3) (.pair (.hole 4) (.pair (.hole 5) (.row 53 bE))))))))
theorem oc:∀ n:Nat,∀ l:List Int,l.length<=n->(cT l).length=l.length/2
 | 0,[],_=>rfl
 | n+1,[],_=>rfl
 | n+1,[a],_=>by simp[cT]
 | n+1,a::b::r,h=>by
  rw[cT,List.length_cons,oc n r (by simp at h;omega)]
  simp only[List.length_cons];omega
theorem r8:∀(q:Nat){l:List Int},2*q+2<=l.length->cT (l.take (2*q+2))=cT (l.take (2*q))++[l.getD (2*q) 0*256+l.getD (2*q+1) 0]
 | 0,a::b::r,h=>rfl
 | 0,[],h=>by simp at h
 | 0,[a],h=>by simp at h
 | q+1,a::b::r,h=>by
  have e:=r8 q (l:=r) (by simp at h;omega)
  rw[show 2*(q+1)+2=(2*q+2)+1+1 by omega,show 2*(q+1)=2*q+1+1 by omega]
  simp only[List.take_succ_cons,cT,List.cons_append,List.getD_cons_succ]
  rw[e]
 | q+1,[],h=>by simp at h
 | q+1,[a],h=>by simp at h
theorem xJ{b:List Int}{n:Nat}(h:n+2<=b.length):bd b n=(b.drop n).getD 0 0*256+(b.drop n).getD 1 0:=by
 rw[pj h]
 match hd:b.drop n with
 | x::y::r=>exact qg x y
 | []=>have:=congrArg List.length hd;simp at this;omega
 | [x]=>have:=congrArg List.length hd;simp at this;omega
theorem yK(l:List ah)(t:ah):bU (l++[t])=bU l++cT (t.2.2.drop 3):=by
 unfold bU;rw[List.flatMap_append];simp
theorem wR(k:Int)(l:List ah)(t:ah):b8 k (l++[t])=max (b8 k l) (bd t.2.2 1):=by
 unfold b8;rw[List.foldl_append];rfl
theorem pX:∀{l:List ah},(∀ t∈l,∃ m:Nat,t.2.2.length=3+2*m/\m<=2000)->(bU l).length<=2000*l.length
 | [],_=>Nat.le_refl _
 | t::r,h=>by
  obtain⟨m,h1,h2⟩:=h t List.mem_cons_self
  have h3:=pX (l:=r) fun x hx=>h x (List.mem_cons_of_mem _ hx)
  show (cT (t.2.2.drop 3)++bU r).length<=_
  rw[List.length_append,oc _ _ (Nat.le_refl _),List.length_drop,List.length_cons]
  omega
def sK:Ct:=⟨[.box 28 xz],[.own 3 cI],fun d=>[d.1.2.2.2.2.2.2.2.2.length<=4096,∀ t∈d.1.2.2.2.2.2.2.2.2,∃ m:Nat,t.2.2.length=3+2*m/\m<=2000],fun d=>((bU (af d.1.1 d.1.2.2.2.2.2.2.2.2),()),((d.1.1,d.1.2.1,d.1.2.2.1,d.1.2.2.2.1,b8 d.1.2.2.2.2.1 (af d.1.1 d.1.2.2.2.2.2.2.2.2),d.1.2.2.2.2.2.1,d.1.2.2.2.2.2.2.1,d.1.2.2.2.2.2.2.2.1,a9 d.1.1 d.1.2.2.2.2.2.2.2.2),()))⟩
def Ah:aA sK.ps->aK:=(fun d=>{loops:=(fun n=>match n with|3=>some (fun S=>{ι:=Int×Int×(List Int),qn:=⟨fun k_=>∀(j:Int)(kn:Int)(nt:(List Int)),k_ (j,kn,nt),fun k_ h_ i=>h_ i.1 i.2.1 i.2.2,fun k_=>∃ (j:Int) (kn:Int) (nt:(List Int)),k_ (j,kn,nt),fun k_ ⟨j,kn,nt,h_⟩=>⟨_,h_⟩⟩,μ:=fun i=>((af d.1.1 d.1.2.2.2.2.2.2.2.2).length-i.1).toNat,inv:=fun i=>0<=i.1/\i.1<=(af d.1.1 d.1.2.2.2.2.2.2.2.2).length/\i.2.1=b8 d.1.2.2.2.2.1 ((af d.1.1 d.1.2.2.2.2.2.2.2.2).take i.1.toNat)/\i.2.2=bU ((af d.1.1 d.1.2.2.2.2.2.2.2.2).take i.1.toNat),keep:=[0,11,12],slots:=fun i=>[(13,.int .i64 i.1),(3,.own 524288 1)],keepN:=[192],names:=fun i=>[(1048576,.live (.cells 28 [.int .i64 d.1.1,.hv 1572864 d.1.2.1,.hv 1572865 d.1.2.2.1,.hv 1572866 d.1.2.2.2.1,.int .i64 i.2.1,.hv 1572867 d.1.2.2.2.2.2.1,.hv 1572868 d.1.2.2.2.2.2.2.1,.hv 1572869 d.1.2.2.2.2.2.2.2.1,.part 192 3 (af d.1.1 d.1.2.2.2.2.2.2.2.2).length (d.1.2.2.2.2.2.2.2.2.length-(af d.1.1 d.1.2.2.2.2.2.2.2.2).length)])),(524288,.live (.row 3 cI i.2.2)),(1572864,.dead),(1572865,.dead),(1572866,.dead),(1572867,.dead),(1572868,.dead),(1572869,.dead)]})|7=>some (fun S=>{ι:=Int×(List Int),qn:=⟨fun k_=>∀(a:Int)(nt:(List Int)),k_ (a,nt),fun k_ h_ i=>h_ i.1 i.2,fun k_=>∃ (a:Int) (nt:(List Int)),k_ (a,nt),fun k_ ⟨a,nt,h_⟩=>⟨_,h_⟩⟩,μ:=fun i=>((S.c bE 96).2.2.length-i.1).toNat,inv:=fun i=>3<=i.1/\i.1<=(S.c bE 96).2.2.length/\(i.1-3)%2=0/\i.2=S.o cI 3++cT (((S.c bE 96).2.2.drop 3).take (i.1-3).toNat),keep:=[0,5,11,12,13],slots:=fun i=>[(6,.int .i64 i.1),(3,.own 524289 1)],keepN:=[1048576,96,192],names:=fun i=>[(524289,.live (.row 3 cI i.2)),(1572864,.dead),(1572865,.dead),(1572866,.dead),(1572867,.dead),(1572868,.dead),(1572869,.dead)]})|_=>none)})
def ck(i:List (Int×Int×List Int))(j:Int) :=
 i.getD ((0:Nat)+j.toNat) default
def dt(a:Int)(i:List (Int×Int×List Int)) :=
 ((List.length (af a i)):Int)
def gh(i:List (Int×Int×List Int))(j:Int) :=
 ((List.length (ck i j).2.2):Int)
theorem yi :
 ∀(a:Int)(b c d:SV)(e:Int)(f g h:SV)(i:List (Int×Int×List Int)),(ak a/\True/\True/\True/\ak e/\True/\True/\True/\i.length<=maxLen/\ ∀(j:Int×Int×List Int),j∈i->ak j.1/\ak j.2.1/\j.2.2.length<=maxLen/\ ∀(k:Int),k∈j.2.2->0<=k/\k<=255)/\True->(i.length<=(4096:Nat)/\ ∀(j:Int×Int×List Int),j∈i-> ∃(k:Nat),j.2.2.length=(3:Nat)+(2:Nat)*k/\k<=(2000:Nat))->(∃(j:Int) (k:Int),∃(l:List Int),(0<=j/\j<=(dt a i)/\k=b8 e (List.take j.toNat (af a i))/\l=bU (List.take j.toNat (af a i)))/\(0:Nat)=(0:Nat)/\List.length (af a i)=List.length (af a i)/\(dt a i)=(dt a i)/\(0:Int)=j/\i=i/\a=a/\b=b/\c=c/\d=d/\e=k/\f=f/\g=g/\h=h/\List.length (af a i)=List.length (af a i)/\i.length -List.length (af a i)=i.length -List.length (af a i)/\l=([]:List Int)/\True)/\ ∀(j k:Int)(l:List Int),0<=j/\j<=(dt a i)/\k=b8 e (List.take j.toNat (af a i))/\l=bU (List.take j.toNat (af a
 i))->ax (decide (j<(dt a i))) (0<=j/\j<(dt a i)/\(gh i j)<=9223372036854775807/\(∃(m:Int) (n:List Int),(3<=m/\m<=(gh i j)/\(m -(3:Int))%(2:Int)=0/\n=l++cT (List.take (Int.toNat (m -(3:Int))) (List.drop (3:Nat) (ck i j).2.2)))/\(3:Int)=m/\(0:Nat)=(0:Nat)/\List.length (af a i)=List.length (af a i)/\(dt a i)=(dt a i)/\j=j/\a=a/\b=b/\c=c/\d=d/\max k (bd (ck i j).2.2 (1:Int))=max k (bd (ck i j).2.2 (1:Int))/\f=f/\g=g/\h=h/\List.length (af a i)=List.length (af a i)/\i.length -List.length (af a i)=i.length -List.length (af a i)/\(ck i j).1=(ck i j).1/\(ck i j).2.1=(ck i j).2.1/\(ck i j).2.2=(ck i j).2.2/\i=i/\l=n/\True)/\ ∀(m:Int)(n:List Int),3<=m/\m<=(gh i j)/\(m -(3:Int))%(2:Int)=0/\n=l++cT (List.take (Int.toNat (m -(3:Int))) (List.drop (3:Nat) (ck i j).2.2))->ax (decide (m<(gh i j))) ((gh i
 j)<=9223372036854775807/\(n.length+List.length [bd (ck i j).2.2 m])*(8:Nat)<=(140737488355328:Nat)/\ ∃(o:Int) (p:List Int),(3<=o/\o<=(gh i j)/\(o -(3:Int))%(2:Int)=0/\p=l++cT (List.take (Int.toNat (o -(3:Int))) (List.drop (3:Nat) (ck i j).2.2)))/\Int.toNat ((gh i j) -o)<Int.toNat ((gh i j) -m)/\IntKind.wrap .i64 (m+(2:Int))=o/\(0:Nat)=(0:Nat)/\List.length (af a i)=List.length (af a i)/\(dt a i)=(dt a i)/\j=j/\a=a/\b=b/\c=c/\d=d/\max k (bd (ck i j).2.2 (1:Int))=max k (bd (ck i j).2.2 (1:Int))/\f=f/\g=g/\h=h/\List.length (af a i)=List.length (af a i)/\i.length -List.length (af a i)=i.length -List.length (af a i)/\(ck i j).1=(ck i j).1/\(ck i j).2.1=(ck i j).2.1/\(ck i j).2.2=(ck i j).2.2/\i=i/\n++[bd (ck i j).2.2 m]=p/\True) (∃(o:Int) (p:Int),∃(q:List Int),(0<=o/\o<=(dt a i)/\p=b8 e (List.take o.toNat (af a i))/\q=bU
 (List.take o.toNat (af a i)))/\Int.toNat ((dt a i) -o)<Int.toNat ((dt a i) -j)/\(0:Nat)=(0:Nat)/\List.length (af a i)=List.length (af a i)/\(dt a i)=(dt a i)/\IntKind.wrap .i64 (j+(1:Int))=o/\i=i/\a=a/\b=b/\c=c/\d=d/\max k (bd (ck i j).2.2 (1:Int))=p/\f=f/\g=g/\h=h/\List.length (af a i)=List.length (af a i)/\i.length -List.length (af a i)=i.length -List.length (af a i)/\n=q/\True)) (List.length (af a i)+(i.length -List.length (af a i))=i.length/\l=bU (af a i)/\(a,b,c,d,k,f,g,h,List.drop (List.length (af a i)) i)=(a,b,c,d,b8 e (af a i),f,g,h,a9 a i)):=by
  delta ck dt gh
  rintro now s0 s1 s2 kn s3 s4 s5 up-⟨hn,hm⟩
  obtain⟨q1,q2,q3,q4⟩:=rk now up
  rw[← q2]
  generalize af now up=L at *
  have hmL:∀ t∈L,∃ m:Nat,t.2.2.length=3+2*m/\m<=2000:=fun t ht=>hm t (q4 t ht)
  refine⟨⟨0,kn,[],⟨by omega,by omega,rfl,rfl⟩,(by repeat' first|exact trivial|refine⟨trivial,?_⟩|refine⟨(by with_reducible rfl),?_⟩|refine⟨au (by omega) (by omega),?_⟩|refine⟨rfl,?_⟩)⟩,?_⟩
  rintro j k nt ⟨j0,j1,rfl,rfl⟩
  refine aM (fun hj=>?_) (fun hj=>?_)
  ·have hj:=of_decide_eq_true hj
   have e:up.getD (0+j.toNat) default=L.getD j.toNat default:=by rw[Nat.zero_add];exact q3 _ (by omega)
   have hmem:=dC (xs:=L) j0 hj
   rw[e]
   obtain⟨m,hl,hm2⟩:=hmL _ hmem
   have ht:=fH (l:=L) j0 hj
   generalize L.getD j.toNat default=T at *
   refine⟨j0,by omega,by omega,⟨3,_,⟨by omega,by omega,rfl,rfl⟩,?_⟩,?_⟩
   ·(repeat first|refine⟨trivial,?_⟩|refine⟨(by with_reducible rfl),?_⟩|refine⟨au (by omega) (by omega),?_⟩)
    exact⟨by simp[cT],trivial⟩
   rintro a nt2 ⟨a0,a1,a2,rfl⟩
   have hh:=pX (l:=L.take j.toNat) fun t ht=>hmL t (List.mem_of_mem_take ht)
   have hlt:(L.take j.toNat).length<=L.length:=by rw[List.length_take];omega
   refine aM (fun ha=>?_) (fun ha=>?_)
   ·have ha:=of_decide_eq_true ha
    obtain⟨q,hq⟩:∃ q:Nat,a=3+2*(q:Int):=⟨((a-3)/2).toNat,by omega⟩
    subst hq
    have hp:=oc _ ((T.2.2.drop 3).take (3+2*(q:Int)-3).toNat) (Nat.le_refl _)
    have e1:(3+2*(q:Int)-3).toNat=2*q:=by omega
    have e2:(3+2*(q:Int)+2-3).toNat=2*q+2:=by omega
    have e3:(3+2*(q:Int))=((3+2*q:Nat):Int):=by omega
    have e4:bd T.2.2 (3+2*(q:Int))=(T.2.2.drop 3).getD (2*q) 0*256+(T.2.2.drop 3).getD (2*q+1) 0:=by
     rw[e3,xJ (by omega),← List.drop_drop]
     simp only[List.getD_eq_getElem?_getD,List.getElem?_drop,Nat.add_zero]
    refine⟨by omega,?_,3+2*(q:Int)+2,_,⟨by omega,by omega,by omega,rfl⟩,by omega,?_⟩
    ·rw[List.length_append,hp,List.length_singleton,List.length_take,List.length_drop];omega
    ·(repeat first|refine⟨trivial,?_⟩|refine⟨(by with_reducible rfl),?_⟩|refine⟨au (by omega) (by omega),?_⟩)
     exact⟨by rw[e1,e2,e4,r8 q (by rw[List.length_drop];omega),List.append_assoc],trivial⟩
   ·have ha:=of_decide_eq_false ha
    have w1:max (b8 kn (L.take j.toNat)) (bd T.2.2 1)=b8 kn (L.take (j+1).toNat):=by rw[ht,wR]
    have w2:bU (L.take j.toNat)++cT ((T.2.2.drop 3).take (a-3).toNat)=bU (L.take (j+1).toNat):=by rw[ht,yK,List.take_of_length_le (l:=T.2.2.drop 3) (by rw[List.length_drop];omega)]
    rw[w1,w2]
    exact⟨j+1,_,_,⟨by omega,by omega,rfl,rfl⟩,by omega,(by repeat' first|exact trivial|refine⟨trivial,?_⟩|refine⟨(by with_reducible rfl),?_⟩|refine⟨au (by omega) (by omega),?_⟩|refine⟨rfl,?_⟩)⟩
  ·have hj:=of_decide_eq_false hj
   have e:j.toNat=L.length:=by omega
   rw[e,List.take_length]
   exact⟨by omega,rfl,rfl⟩
theorem ye:aF Try.prog GL 55 sK.spec:=Ct.okH _ Try.func55 (by kernel_rfl) (qi (aD (aD aV wa) rp) (d:=43) (p:=1048576) (off:=8)) az Ah (aT (by kernel_rfl) yi)
def jl(c:ao)(up:List aL)(x:Int):List Int:=(dB x (min ((aj c).length:Int) (aJ c up+aO c))).filter fun i => !(bU (dZ c up)).contains i
theorem te{now d:Int}{b:List Int}:∀(n:Nat)(k:Int){o:Int}{l:List ah},cM now o l->o+n<=1000000000000000->cM now (cj now d b n k (o,l)).1 (cj now d b n k (o,l)).2/\(cj now d b n k (o,l)).1<=o+n
 | 0,k,o,l,h,_=>⟨h,by show o<=_;omega⟩
 | n+1,k,o,l,h,hb=>by
  rw[cj]
  dsimp only
  split
  ·rename_i hl
   obtain⟨k1,k2⟩:=te (now:=now) (d:=d) (b:=b) n (k+1) (o:=o+1) (l:=cF l (now+1+d+k,o,b)) (h.next (by omega) hl) (by omega)
   exact⟨k1,by omega⟩
  ·exact⟨h,by show o<=_;omega⟩
theorem xw{now:Int}{b:List Int}{f:aL}(hf:gF f){o:Int}{l:List ah}(h:cM now o l)(ho:o<=900000000000000):cM now (bm now b f (o,l)).1 (bm now b f (o,l)).2/\(bm now b f (o,l)).1<=o+9:=by
 unfold bm
 obtain⟨f1,f2⟩:=hf
 split
 ·exact⟨h,by show o<=_;omega⟩
 ·obtain⟨k1,k2⟩:=te (now:=now) (d:=f.2.1) (b:=b) (f.2.2+1).toNat 0 h (by omega)
  exact⟨k1,by omega⟩
theorem uT{x b:Int}(h:x<b):dB x b=x::dB (x+1) b:=by
 unfold dB
 obtain⟨n,hn⟩:∃ n,(b-x).toNat=n+1:=⟨(b-x).toNat-1,by omega⟩
 rw[hn,show (b-(x+1)).toNat=n by omega,List.range_succ_eq_map,List.map_cons,List.map_map]
 congr 1
 ·simp
 ·apply List.map_congr_left
  intro k _
  simp only[Function.comp_apply,Nat.succ_eq_add_one]
  omega
theorem vD{x b:Int}(h:¬ x<b):dB x b=[]:=by
 unfold dB
 rw[show (b-x).toNat=0 by omega];rfl
theorem rA:∀{l:List Int}{lo hi:Int},l.Pairwise (fun a b=>a<b)->(∀ x∈l,lo<=x/\x<hi)->(l.length:Int)<=max 0 (hi-lo)
 | [],lo,hi,_,_=>by simp;omega
 | x::r,lo,hi,hs,hb=>by
  obtain⟨s1,s2⟩:=List.pairwise_cons.1 hs
  have hx:=hb x List.mem_cons_self
  have:=rA (l:=r) (lo:=x+1) (hi:=hi) s2 fun y hy=>⟨by have:=s1 y hy;omega,(hb y (List.mem_cons_of_mem _ hy)).2⟩
  rw[List.length_cons];omega
theorem pW{log:List (List Int)}{s:List (List Int)×List aE}{t:ah}(h:eV log s t)(hl:log.length<=1024):∃ m:Nat,t.2.2.length=3+2*m/\m<=2000:=by
 obtain⟨g,es,h1,h2,h3,h4⟩:=h
 refine⟨es.length,by rw[h1,nh],?_⟩
 have:=rA (lo:=0) (hi:=1024) h3 fun x hx=>by have:=(h4 x hx).1;omega
 omega
theorem cw.so{now n1 ord:Int}{l:List ah}(h:cw now ord l)(h1:0<=n1/\n1<=2000000000000)(h2:0<=ord/\ord<=1000000000000000):cM n1 ord l:=⟨h1,h2,h.s,fun x hx=>(h.r x hx).2.2,h.n⟩
theorem XI.parts{c:ao}(h:XI c){up:List aL}(hu:cW up):(cw (ae c) (aP c up).1 (aP c up).2/\bN c<=(aP c up).1/\(aP c up).1<=bN c+9∧∀ t∈(aP c up).2,eV (aj c) (a8 c) t)/\0<=aJ c up/\aJ c up<=1024:=by
 obtain⟨r1,r2,r3,r4⟩:=iW h.log (l:=af (ae c+1) (bi c)) h.rc fun t ht=>h.dd t (hZ ht).1
 have eG:a8 c=cB (aQ c+aO c) (af (ae c+1) (bi c)) (aC c,cz c):=rfl
 rw[← eG] at r1 r2 r3 r4
 have r2:(aC c).length<=(a8 c).1.length:=r2
 have hgl:=r1.n
 have hlog:=h.log
 have hkn:=h.kn
 have aU:cw (ae c) (aP c up).1 (aP c up).2/\bN c<=(aP c up).1/\(aP c up).1<=bN c+9∧∀ t∈(aP c up).2,eV (aj c) (a8 c) t:=by
  have old:∀ t∈bD c,eV (aj c) (a8 c) t:=fun t ht=>(h.ud t ht).more r2 r3
  unfold aP
  split
  ·exact⟨h.up,Int.le_refl _,by show bN c<=_;omega,old⟩
  ·obtain⟨k1,k2,k3,k4,-⟩:=mi (n0:=ae c) (now:=ae c+1) (b:=bT ((a8 c).1.length:Int) ((a8 c).2.map (·.1))) ⟨by omega,by omega⟩ (iQ hu 0) h.ord h.up
   refine⟨k1,k2,k3,fun t ht=>?_⟩
   rcases k4 t ht with q|q
   ·exact old t q
   ·refine⟨_,_,q,⟨by omega,Int.le_refl _⟩,?_,fun e he=>?_⟩
    ·rw[List.pairwise_map];exact r1.e.s
    ·obtain⟨x,hx,rfl⟩:=List.mem_map.1 he
     exact⟨(r1.e.r x hx).1,.inr ⟨x,hx,rfl⟩⟩
 obtain⟨n1,n2⟩:=nS (log:=aj c) (s:=a8 c) (by omega) (l:=dZ c up) (k:=aQ c) hkn.1 (by omega) fun t ht=>aU.2.2.2 t (hZ ht).1
 have n1:aQ c<=aJ c up:=n1
 have n2:aJ c up<=(a8 c).1.length:=n2
 exact⟨aU,by omega,by omega⟩
def px:Ct:=⟨[.box 28 qx,.val (.sl d7),.val (.sl d7)],[],fun d=>[XR d.1,ae d.1<1099511627776,cW d.2.1,cW d.2.2.1],fun d=>((),(aS d.1 d.2.1 d.2.2.1,()))⟩
def zd:aA px.ps->aK:=(fun d=>{loops:=(fun n=>match n with|5=>some (fun S=>{ι:=Int×Int×Int×(List ah),qn:=⟨fun k_=>∀(x:Int)(i:Int)(o:Int)(dn:(List ah)),k_ (x,i,o,dn),fun k_ h_ i=>h_ i.1 i.2.1 i.2.2.1 i.2.2.2,fun k_=>∃ (x:Int) (i:Int) (o:Int) (dn:(List ah)),k_ (x,i,o,dn),fun k_ ⟨x,i,o,dn,h_⟩=>⟨_,h_⟩⟩,μ:=fun i=>(aJ d.1 d.2.2.1+aO d.1-i.1).toNat,inv:=fun i=>aJ d.1 d.2.2.1<=i.1/\0<=i.2.1/\i.2.1<=i.1-aJ d.1 d.2.2.1/\cM (ae d.1+1) i.2.2.1 i.2.2.2/\i.2.2.1<=(aP d.1 d.2.2.1).1+9*i.2.1/\i.1<=aJ d.1 d.2.2.1+aO d.1/\cf (ae d.1+1) (aj d.1) d.2.1 (jl d.1 d.2.2.1 i.1) i.2.1.toNat (i.2.2.1,i.2.2.2)=dr d.1 d.2.1 d.2.2.1,keep:=[0,1,6],slots:=fun i=>[(8,.int .i64 i.1),(7,.int .i64 i.2.1)],keepN:=[2097152,304,305,337,336],names:=fun i=>[(1048576,.live (.cells 28 [.int .i64 (ae d.1+1),.int .i64 i.2.2.1,.int .i64 (aO d.1),.own 2097152 1,.int .i64 (aJ d.1 d.2.2.1),.own 304 1,.own 305 2,.own 524288 3,.own 337 3])),(524288,.live (.row 53 bE i.2.2.2))]})|_=>none)})
def bt(a:Int) :=
 IntKind.wrap .i64 (a+(1:Int))
def cJ(a b c e:Int)(f:List (List Int))(g:List (Int×List Int))(h i:List (Int×Int×List Int))(k:List (Bool×Int×Int)) :=
 f7 (bt a) b (aW (bt a) (e+c) h f g) h i k
def mS(a b c:Int)(d:List (List Int))(e:Int)(f:List (List Int))(g:List (Int×List Int))(h i:List (Int×Int×List Int))(j k:List (Bool×Int×Int))(p q r:Int)(s:List ah) :=
 aJ (a,b,c,d,e,f,g,h,i) k<=p/\0<=q/\q<=p -aJ (a,b,c,d,e,f,g,h,i) k/\cM (ae (a,b,c,d,e,f,g,h,i)+(1:Int)) r s/\r<=(aP (a,b,c,d,e,f,g,h,i) k).1+(9:Int)*q/\p<=aJ (a,b,c,d,e,f,g,h,i) k+aO (a,b,c,d,e,f,g,h,i)/\cf (ae (a,b,c,d,e,f,g,h,i)+(1:Int)) (aj (a,b,c,d,e,f,g,h,i)) j (jl (a,b,c,d,e,f,g,h,i) k p) q.toNat (r,s)=dr (a,b,c,d,e,f,g,h,i) j k
def nU(a b c:Int)(d:List (List Int))(e:Int)(f:List (List Int))(g:List (Int×List Int))(h i:List (Int×Int×List Int))(j k:List (Bool×Int×Int))(l m n:Int)(o:List ah) :=
 0<=m/\m<=l -aJ (a,b,c,d,e,f,g,h,i) k/\cM (ae (a,b,c,d,e,f,g,h,i)+(1:Int)) n o/\n<=(aP (a,b,c,d,e,f,g,h,i) k).1+(9:Int)*m/\l<=aJ (a,b,c,d,e,f,g,h,i) k+aO (a,b,c,d,e,f,g,h,i)/\cf (ae (a,b,c,d,e,f,g,h,i)+(1:Int)) (aj (a,b,c,d,e,f,g,h,i)) j (jl (a,b,c,d,e,f,g,h,i) k l) m.toNat (n,o)=dr (a,b,c,d,e,f,g,h,i) j k
theorem uS :
 ∀(a b c:Int)(d:List (List Int))(e:Int)(f:List (List Int))(g:List (Int×List Int))(h i:List (Int×Int×List Int))(j k:List (Bool×Int×Int)),(ak a/\ak b/\ak c/\(d.length<=maxLen/\ ∀(l:List Int),l∈d->l.length<=maxLen/\ ∀(m:Int),m∈l->0<=m/\m<=255)/\ak e/\(f.length<=maxLen/\ ∀(l:List Int),l∈f->l.length<=maxLen/\ ∀(m:Int),m∈l->0<=m/\m<=255)/\(g.length<=maxLen/\ ∀(l:Int×List Int),l∈g->ak l.1/\l.2.length<=maxLen/\ ∀(m:Int),m∈l.2->0<=m/\m<=255)/\(h.length<=maxLen/\ ∀(l:Int×Int×List Int),l∈h->ak l.1/\ak l.2.1/\l.2.2.length<=maxLen/\ ∀(m:Int),m∈l.2.2->0<=m/\m<=255)/\i.length<=maxLen/\ ∀(l:Int×Int×List Int),l∈i->ak l.1/\ak l.2.1/\l.2.2.length<=maxLen/\ ∀(m:Int),m∈l.2.2->0<=m/\m<=255)/\(j.length<=maxLen/\ ∀(l:Bool×Int×Int),l∈j->True/\ak l.2.1/\ak l.2.2)/\(k.length<=maxLen/\ ∀(l:Bool×Int×Int),l∈k->True/\ak l.2.1/\ak l.2.2)/\True->(XR (a,b,c,d,e,f,g,h,i)/\ae
 (a,b,c,d,e,f,g,h,i)<1099511627776/\cW j/\ ∀(l:aL),l∈k->(0<=l.2.1/\l.2.1<=1000)/\0<=l.2.2/\l.2.2<=8)->(∃(l:List (List Int)),lj (bt a) b c e f g h i k l)/\List.length (cJ a b c e f g h i k).2<=(4096:Nat)/\(∀(l:Int×Int×List Int),l∈(cJ a b c e f g h i k).2-> ∃(m:Nat),l.2.2.length=(3:Nat)+(2:Nat)*m/\m<=(2000:Nat))/\(∃(l:Int) (m:Int),∃(n:Int) (o:List ah),(aJ (a,b,c,d,e,f,g,h,i) k<=l/\(nU a b c d e f g h i j k l m n o))/\j=j/\(0:Int)=m/\b8 e (af (bt a) (cJ a b c e f g h i k).2)=l/\d=d/\(aW (bt a) (e+c) h f g).1=(aW (bt a) (e+c) h f g).1/\(aW (bt a) (e+c) h f g).2=(aW (bt a) (e+c) h f g).2/\a9 (bt a) (cJ a b c e f g h i k).2=a9 (bt a) (cJ a b c e f g h i k).2/\bU (af (bt a) (cJ a b c e f g h i k).2)=bU (af (bt a) (cJ a b c e f g h i k).2)/\IntKind.wrap .i64 (a+(1:Int))=ae (a,b,c,d,e,f,g,h,i)+(1:Int)/\(cJ a b c e
 f g h i k).1=n/\c=aO (a,b,c,d,e,f,g,h,i)/\b8 e (af (bt a) (cJ a b c e f g h i k).2)=aJ (a,b,c,d,e,f,g,h,i) k/\a9 (bt a) h=o/\True)/\ ∀(l m n:Int)(o:List ah),aJ (a,b,c,d,e,f,g,h,i) k<=l/\(nU a b c d e f g h i j k l m n o)->ax (decide (l<min (d.length:Int) (IntKind.wrap .i64 (aJ (a,b,c,d,e,f,g,h,i) k+aO (a,b,c,d,e,f,g,h,i))))) (ax (decide (l∈bU (af (bt a) (cJ a b c e f g h i k).2))) (∃(p:Int) (q:Int),∃(r:Int) (s:List ah),(mS a b c d e f g h i j k p q r s)/\Int.toNat (aJ (a,b,c,d,e,f,g,h,i) k+aO (a,b,c,d,e,f,g,h,i) -p)<Int.toNat (aJ (a,b,c,d,e,f,g,h,i) k+aO (a,b,c,d,e,f,g,h,i) -l)/\j=j/\m=q/\IntKind.wrap .i64 (l+(1:Int))=p/\d=d/\(aW (bt a) (e+c) h f g).1=(aW (bt a) (e+c) h f g).1/\(aW (bt a) (e+c) h f g).2=(aW (bt a) (e+c) h f g).2/\a9 (bt a) (cJ a b c e f g h i k).2=a9 (bt a) (cJ a b c e f g h i
 k).2/\bU (af (bt a) (cJ a b c e f g h i k).2)=bU (af (bt a) (cJ a b c e f g h i k).2)/\ae (a,b,c,d,e,f,g,h,i)+(1:Int)=ae (a,b,c,d,e,f,g,h,i)+(1:Int)/\n=r/\aO (a,b,c,d,e,f,g,h,i)=aO (a,b,c,d,e,f,g,h,i)/\aJ (a,b,c,d,e,f,g,h,i) k=aJ (a,b,c,d,e,f,g,h,i) k/\o=s/\True) (0<=l/\l<(d.length:Int)/\0<=l/\((List.length (d.getD l.toNat default)):Int)<=1000000/\cM (ae (a,b,c,d,e,f,g,h,i)+(1:Int)) n o/\n<=900000000000000/\gF (bz j m.toNat)/\0<=m/\((List.length (ch l (d.getD l.toNat default))):Int)<=1000000/\ ∃(p:Int) (q:Int),∃(r:Int) (s:List ah),(mS a b c d e f g h i j k p q r s)/\Int.toNat (aJ (a,b,c,d,e,f,g,h,i) k+aO (a,b,c,d,e,f,g,h,i) -p)<Int.toNat (aJ (a,b,c,d,e,f,g,h,i) k+aO (a,b,c,d,e,f,g,h,i) -l)/\j=j/\IntKind.wrap .i64 (m+(1:Int))=q/\IntKind.wrap .i64 (l+(1:Int))=p/\d=d/\(aW (bt a) (e+c) h f g).1=(aW (bt a) (e+c) h f g).1/\(aW (bt
 a) (e+c) h f g).2=(aW (bt a) (e+c) h f g).2/\a9 (bt a) (cJ a b c e f g h i k).2=a9 (bt a) (cJ a b c e f g h i k).2/\bU (af (bt a) (cJ a b c e f g h i k).2)=bU (af (bt a) (cJ a b c e f g h i k).2)/\ae (a,b,c,d,e,f,g,h,i)+(1:Int)=ae (a,b,c,d,e,f,g,h,i)+(1:Int)/\(bm (ae (a,b,c,d,e,f,g,h,i)+(1:Int)) (ch l (d.getD l.toNat default)) (bz j m.toNat) (n,o)).1=r/\aO (a,b,c,d,e,f,g,h,i)=aO (a,b,c,d,e,f,g,h,i)/\aJ (a,b,c,d,e,f,g,h,i) k=aJ (a,b,c,d,e,f,g,h,i) k/\(bm (ae (a,b,c,d,e,f,g,h,i)+(1:Int)) (ch l (d.getD l.toNat default)) (bz j m.toNat) (n,o)).2=s/\True)) ((ae (a,b,c,d,e,f,g,h,i)+(1:Int),n,aO (a,b,c,d,e,f,g,h,i),d,aJ (a,b,c,d,e,f,g,h,i) k,(aW (bt a) (e+c) h f g).1,(aW (bt a) (e+c) h f g).2,o,a9 (bt a) (cJ a b c e f g h i k).2)=aS (a,b,c,d,e,f,g,h,i) j k):=by
  delta bt cJ mS nU
  rintro now ord win log kn got ear dn up ds us-⟨⟨hx,hor⟩,hnow,hd,hu⟩
  have hu:cW us:=hu
  obtain⟨⟨pu1,pu2,pu3,pu4⟩,pk1,pk2⟩:=hx.parts hu
  have n0:0<=now:=hx.now
  have hnow:now<1099511627776:=hnow
  have o0:0<=ord:=hx.ord
  have hor:ord<=585*now:=hor
  have hwin:1<=win/\win<=64:=hx.win
  have hlog:log.length<=1024:=hx.log
  have hkn:0<=kn/\kn<=got.length:=hx.kn
  have hgl:got.length<=log.length:=hx.rc.n
  have pu2:ord<=(aP (now,ord,win,log,kn,got,ear,dn,up) us).1:=pu2
  have pu3:(aP (now,ord,win,log,kn,got,ear,dn,up) us).1<=ord+9:=pu3
  rw[au (n:=now+1) (by omega) (by omega)]
  have eG:aW (now+1) (kn+win) dn got ear=a8 (now,ord,win,log,kn,got,ear,dn,up):=rfl
  have eU:f7 (now+1) ord (aW (now+1) (kn+win) dn got ear) dn up us=aP (now,ord,win,log,kn,got,ear,dn,up) us:=rfl
  rw[eU,eG]
  have eH:af (now+1) (aP (now,ord,win,log,kn,got,ear,dn,up) us).2=dZ (now,ord,win,log,kn,got,ear,dn,up) us:=rfl
  have eK:b8 kn (dZ (now,ord,win,log,kn,got,ear,dn,up) us)=aJ (now,ord,win,log,kn,got,ear,dn,up) us:=rfl
  rw[eH,eK]
  have eW:aO (now,ord,win,log,kn,got,ear,dn,up)=win:=rfl
  have eN:ae (now,ord,win,log,kn,got,ear,dn,up)=now:=rfl
  have eL:aj (now,ord,win,log,kn,got,ear,dn,up)=log:=rfl
  rw[eW,eN,eL]
  have hfin:∀ o dn',(o,dn')=dr (now,ord,win,log,kn,got,ear,dn,up) ds us->((now+1,o,win,log,aJ (now,ord,win,log,kn,got,ear,dn,up) us,(a8 (now,ord,win,log,kn,got,ear,dn,up)).1,(a8 (now,ord,win,log,kn,got,ear,dn,up)).2,dn',a9 (now+1) (aP (now,ord,win,log,kn,got,ear,dn,up) us).2):ao)=aS (now,ord,win,log,kn,got,ear,dn,up) ds us:=fun o dn' he=>by
   show _=((now+1,(dr (now,ord,win,log,kn,got,ear,dn,up) ds us).1,win,log,aJ (now,ord,win,log,kn,got,ear,dn,up) us,(a8 (now,ord,win,log,kn,got,ear,dn,up)).1,(a8 (now,ord,win,log,kn,got,ear,dn,up)).2,(dr (now,ord,win,log,kn,got,ear,dn,up) ds us).2,a9 (now+1) (aP (now,ord,win,log,kn,got,ear,dn,up) us).2):ao)
   rw[← he]
  have hD:cf (now+1) log ds (jl (now,ord,win,log,kn,got,ear,dn,up) us (aJ (now,ord,win,log,kn,got,ear,dn,up) us)) 0 ((aP (now,ord,win,log,kn,got,ear,dn,up) us).1,a9 (now+1) dn)=dr (now,ord,win,log,kn,got,ear,dn,up) ds us:=rfl
  have hR:∀ x,jl (now,ord,win,log,kn,got,ear,dn,up) us x=(dB x (min (log.length:Int) (aJ (now,ord,win,log,kn,got,ear,dn,up) us+win))).filter fun i => !(bU (dZ (now,ord,win,log,kn,got,ear,dn,up) us)).contains i:=fun x=>rfl
  have hdn0:=(oN (now:=now+1) (by rw[eN];omega) hx.dn).more pu2
  have hdn0:cw (now+1) (aP (now,ord,win,log,kn,got,ear,dn,up) us).1 (a9 (now+1) dn):=hdn0
  have hrc:lj (now+1) ord win kn got ear dn up us log:=⟨hx.rc,hlog,hx.it,hx.dd,by omega,hwin,hx.up.so (by omega) ⟨o0,by show ord<=_;omega⟩,by omega,iQ hu 0,hx.dn.n⟩
  have hit:=hx.it
  rw[eL] at hit
  have hodd:∀ t∈(aP (now,ord,win,log,kn,got,ear,dn,up) us).2,∃ m:Nat,t.2.2.length=3+2*m/\m<=2000:=fun t ht=>pW (pu4 t ht) hlog
  have hun:=pu1.n
  generalize aP (now,ord,win,log,kn,got,ear,dn,up) us=U at *
  generalize dZ (now,ord,win,log,kn,got,ear,dn,up) us=H at *
  generalize aJ (now,ord,win,log,kn,got,ear,dn,up) us=K at *
  generalize jl (now,ord,win,log,kn,got,ear,dn,up) us=R at *
  generalize dr (now,ord,win,log,kn,got,ear,dn,up) ds us=D at *
  refine⟨⟨log,hrc⟩,hun,hodd,⟨K,0,U.1,a9 (now+1) dn,⟨by omega,by omega,by omega,hdn0.so (by omega) (by omega),by omega,by omega,hD⟩,(by repeat' first|exact trivial|refine⟨trivial,?_⟩|refine⟨(by with_reducible rfl),?_⟩|refine⟨au (by omega) (by omega),?_⟩|refine⟨rfl,?_⟩)⟩,?_⟩
  rintro x i o dn' ⟨x0,i0,i1,hs,ho,x1,he⟩
  rw[au (n:=K+win) (by omega) (by omega)]
  refine aM (fun hb=>?_) (fun hb=>?_)
  ·have hb:=of_decide_eq_true hb
   have hlt:x<log.length:=by omega
   have hcons:=uT hb
   refine aM (fun hm=>?_) (fun hm=>?_)
   ·have hm:=of_decide_eq_true hm
    refine⟨x+1,i,o,dn',⟨by omega,i0,by omega,hs,ho,by omega,?_⟩,by omega,(by repeat' first|exact trivial|refine⟨trivial,?_⟩|refine⟨(by with_reducible rfl),?_⟩|refine⟨au (by omega) (by omega),?_⟩|refine⟨rfl,?_⟩)⟩
    rw[← he,hR,hR,hcons,List.filter_cons_of_neg (by simpa using hm)]
   ·have hm:=of_decide_eq_false hm
    have hf:=iQ hd i.toNat
    have hil:=hit _ (dC (xs:=log) (i:=x) (by omega) hlt)
    obtain⟨s1,s2⟩:=xw (b:=ch x (log.getD x.toNat default)) hf hs (by omega)
    refine⟨by omega,hlt,by omega,by omega,hs,by omega,hf,i0,by rw[mT];omega,x+1,i+1,(bm (now+1) (ch x (log.getD x.toNat default)) (bz ds i.toNat) (o,dn')).1,(bm (now+1) (ch x (log.getD x.toNat default)) (bz ds i.toNat) (o,dn')).2,⟨by omega,by omega,by omega,s1,by omega,by omega,?_⟩,by omega,(by repeat' first|exact trivial|refine⟨trivial,?_⟩|refine⟨(by with_reducible rfl),?_⟩|refine⟨au (by omega) (by omega),?_⟩|refine⟨rfl,?_⟩)⟩
    rw[← he,hR x,hR,hcons,List.filter_cons_of_pos (by simpa using hm),show (i+1).toNat=i.toNat+1 by omega]
    rfl
  ·have hb:=of_decide_eq_false hb
   refine hfin o dn' ?_
   rw[← he,hR,vD hb]
   rfl
theorem ry:aF Try.prog GL 33 px.spec:=Ct.okH _ Try.func33 (by kernel_rfl) (aD (aD (aD (aD (aD aV ym) ye) yl) uh) tG) az zd (aT (by kernel_rfl) uS)
end Go.RS

/- Xw4: the program's exchange: new channels, items, ticks. -/
namespace Go.RS
open Go.SX Go.Proofs
set_option maxRecDepth 100000
set_option linter.unusedVariables false
def iP{α:Type}(q:α->Bool)(l:List α):Int:=if l.findIdx q<l.length then (l.findIdx q:Int) else -1
theorem w7{α:Type}{q:α->Bool}{l:List α}:decide (0<=iP q l)=l.any q:=by
 unfold iP
 cases h:l.any q with
 | true =>
  rw[if_pos (List.findIdx_lt_length_of_exists (by simpa using h))]
  exact decide_eq_true (by omega)
 | false =>
  have:l.findIdx q=l.length:=List.findIdx_eq_length_of_false (by simpa using h)
  rw[if_neg (by omega)];rfl
def rY:Ct:=⟨[.val cI],[.agg dQ,.val cI],fun _=>[],fun d=>((hI d.1,fl d.1,()),())⟩
def yF:aA rY.ps->aK:=(fun _=>{})
def fJ :=
 ((0:Int),(0:Int),(0:Int),([]:List (List Int)),(0:Int),([]:List (List Int)),([]:List (Int×List Int)),([]:List (Int×Int×List Int)),([]:List (Int×Int×List Int)))
theorem zS :
 ∀(a:Int),ak a/\True->True-> ∀(b:Bool),b=decide (a<1)->((! b)->((! b)->(! b))/\True)/\(b=false->(! b))/\ax (bif b then true else decide (64<a)) ((fJ)=hI a/\(1:Int)=fl a) (((0:Int),(0:Int),a,([]:List (List Int)),(0:Int),([]:List (List Int)),([]:List (Int×List Int)),([]:List (Int×Int×List Int)),([]:List (Int×Int×List Int)))=hI a/\(0:Int)=fl a):=by
  delta fJ
  rintro w - -
  (repeat (intro (b_:Bool) (hb_:b_=_);(repeat refine⟨(by first|(simp;done)|(rw[hb_];simp;done)|(rw[hb_];simp;omega)|(rw[hb_];simp;intros;omega)|(rw[hb_];simp +contextual;done)),?_⟩);subst hb_))
  refine lB (fun h=>?_) (fun h1 h2=>?_)
  ·have e:fl w=1:=by unfold fl;rw[if_pos (by rcases h with q|q;exact .inl (of_decide_eq_true q);exact .inr (of_decide_eq_true q))]
   unfold hI
   rw[e]
   exact⟨rfl,rfl⟩
  ·have h1:=of_decide_eq_false h1
   have h2:=of_decide_eq_false h2
   have e:fl w=0:=by unfold fl;rw[if_neg (by omega)]
   unfold hI
   rw[e]
   exact⟨rfl,rfl⟩
theorem sG:aF Try.prog GL 16 rY.spec:=Ct.okH _ Try.func16 (by kernel_rfl) aV az yF (aT (by kernel_rfl) zS)
def rM:Ct:=⟨[.agg d7],[.val .bool],fun _=>[],fun d=>((!cH d.1,()),())⟩
def wj:aA rM.ps->aK:=(fun _=>{})
theorem wy :
 ∀(a:Bool)(b c:Int),(True/\ak b/\ak c)/\True->True-> ∀(d:Bool),d=decide (b<0)->((! d)->((! d)->(! d))/\True)/\((! d)->((! d)->(! d))/\True)/\(d=false->(! d))/\ ∀(e:Bool),(e=bif d then true else decide (1000<b))->((! e)->((! e)->(! e))/\True)/\((! e)->((! e)->(! e))/\True)/\(e=false->(! e))/\ ∀(f:Bool),(f=bif e then true else decide (c<0))->((! f)->((! f)->(! f))/\True)/\((! f)->((! f)->(! f))/\True)/\(f=false->(! f))/\(bif f then true else decide (8<c))= ! cH (a,b,c):=by
  rintro a x y - -
  (repeat (intro (b_:Bool) (hb_:b_=_);(repeat refine⟨(by first|(simp;done)|(rw[hb_];simp;done)|(rw[hb_];simp;omega)|(rw[hb_];simp;intros;omega)|(rw[hb_];simp +contextual;done)),?_⟩);subst hb_))
  have e:cH (a,x,y)=decide (0<=x/\x<=1000/\0<=y/\y<=8):=rfl
  rw[e,pn,pn,pn,xM]
  exact decide_eq_decide.2 (by omega)
theorem uf:aF Try.prog GL 60 rM.spec:=Ct.okH _ Try.func60 (by kernel_rfl) aV az wj (aT (by kernel_rfl) wy)
def qR:Ct:=⟨[.val (.sl d7),.fn 60 0],[.val cI],fun _=>[],fun d=>((iP (fun f => !cH f) d.1,()),())⟩
def yH:aA qR.ps->aK:=(fun d=>{loops:=(fun n=>match n with|2=>some (fun S=>{ι:=Int,μ:=fun i=>(d.1.length-i).toNat,inv:=fun i=>0<=i/\i<=d.1.length∧∀ x∈d.1.take i.toNat,(!cH x)=false,keep:=[0,1,6,7],slots:=fun i=>[(8,.int .i64 i)],names:=fun i=>[]})|_=>none)})
def iV(a:List (Bool×Int×Int)) :=
 a.length<=maxLen/\ ∀(b:Bool×Int×Int),b∈a->True/\ak b.2.1/\ak b.2.2
theorem xd :
 ∀(a:List (Bool×Int×Int)),(iV a)/\True/\True->True->(∃(b:Int),(0<=b/\b<=(a.length:Int)/\ ∀(c:Bool×Int×Int),c∈List.take b.toNat a->(! cH c)=false)/\a=a/\a=a/\(a.length:Int)=(a.length:Int)/\(0:Int)=b/\True)/\ ∀(b:Int),(0<=b/\b<=(a.length:Int)/\ ∀(c:Bool×Int×Int),c∈List.take b.toNat a->(! cH c)=false)->ax (decide (b<(a.length:Int))) (0<=b/\b<(a.length:Int)/\ax (! cH (a.getD b.toNat default)) (b=iP (fun (c:aL)=> ! cH c) a) (∃(c:Int),(0<=c/\c<=(a.length:Int)/\ ∀(d:Bool×Int×Int),d∈List.take c.toNat a->(! cH d)=false)/\Int.toNat ((a.length:Int) -c)<Int.toNat ((a.length:Int) -b)/\a=a/\a=a/\(a.length:Int)=(a.length:Int)/\IntKind.wrap .i64 (b+(1:Int))=c/\True)) ((-1:Int)=iP (fun (c:aL)=> ! cH c) a):=by
  delta iV
  rintro l ⟨⟨hl,-⟩,-⟩ -
  simp only[maxLen] at hl
  refine⟨⟨0,⟨by omega,by omega,by simp⟩,(by repeat' first|exact trivial|refine⟨trivial,?_⟩|refine⟨(by with_reducible rfl),?_⟩|refine⟨au (by omega) (by omega),?_⟩|refine⟨rfl,?_⟩)⟩,?_⟩
  rintro j ⟨j0,j1,hj⟩
  refine aM (fun hk=>?_) (fun hk=>?_)
  ·have hk:=of_decide_eq_true hk
   refine⟨j0,hk,aM (fun hm=>?_) (fun hm=>?_)⟩
   ·exact zM j0 hk hj hm
   ·exact⟨j+1,⟨by omega,by omega,yy j0 hk hj hm⟩,by omega,(by repeat' first|exact trivial|refine⟨trivial,?_⟩|refine⟨(by with_reducible rfl),?_⟩|refine⟨au (by omega) (by omega),?_⟩|refine⟨rfl,?_⟩)⟩
  ·exact uL (of_decide_eq_false hk) hj
theorem Ak:aF Try.prog GL 83 qR.spec:=Ct.okH _ Try.func83 (by kernel_rfl) (aD aV uf) az yH (aT (by kernel_rfl) xd)
def sC:Ct:=⟨[.val (.sl d7),.fn 60 0],[.val .bool],fun _=>[],fun d=>((d.1.any (fun f => !cH f),()),())⟩
def xH:aA sC.ps->aK:=(fun _=>{})
theorem ur :
 ∀(a:List (Bool×Int×Int)),(iV a)/\True/\True->True->decide (0<=iP (fun (b:aL)=> ! cH b) a)=List.any a fun (b:Bool×Int×Int)=> ! cH b:=by
  delta iV
  rintro l - -
  exact w7
theorem yf:aF Try.prog GL 59 sC.spec:=Ct.okH _ Try.func59 (by kernel_rfl) (aD aV Ak) az xH (aT (by kernel_rfl) ur)
def tW:Ct:=⟨[.val (.sl d7)],[.val .bool],fun _=>[],fun d=>((cP d.1,()),())⟩
def uP:aA tW.ps->aK:=(fun _=>{})
theorem zm :
 ∀(a:List (Bool×Int×Int)),(iV a)/\True->True->(! List.any a fun (b:Bool×Int×Int)=> ! cH b)=cP a:=by
  delta iV
  rintro l - -
  unfold cP
  rw[List.not_any_eq_all_not]
  simp
theorem vO:aF Try.prog GL 38 tW.spec:=Ct.okH _ Try.func38 (by kernel_rfl) (aD aV yf) az uP (aT (by kernel_rfl) zm)
theorem XI.cp{c:ao}(h:XI c):jK c:=by
 have hl:=h.log
 have hi:=h.it
 have hn:(aC c).length<=(aj c).length:=h.rc.n
 have hg:aC c=(aj c).take (aC c).length:=h.rc.g
 have hr:=(rE h.rc hl ⟨h.kn.1,by have:=h.kn.2;omega⟩ h.win).2
 refine⟨⟨by omega,fun b hb=>by have:=hi b hb;omega⟩,⟨by omega,fun b hb=>?_⟩,⟨by omega,fun x hx=>?_⟩,⟨by have:=h.dn.n;omega,fun t ht=>?_⟩,⟨by have:=h.up.n;omega,fun t ht=>?_⟩⟩
 ·have:=hi b (by rw[hg] at hb;exact List.mem_of_mem_take hb)
  omega
 ·obtain⟨⟨k1,k2⟩,k3,k4⟩:=h.rc.e.r x hx
  have:=hi _ (dC (xs:=aj c) (i:=x.1) (hr.2.2 x hx).1 k2)
  rw[k4];omega
 ·have:=(t9 (h.dd t ht) hi).2;omega
 ·obtain⟨m,h1,h2⟩:=pW (h.ud t ht) hl
  omega
def qw:Ct:=⟨[.agg dQ,.val (.sl bc)],[.agg dQ,.val cI],fun d=>[XR d.1],fun d=>((hP d.1 d.2.1,eY d.1 d.2.1,()),())⟩
def yP:aA qw.ps->aK:=(fun _=>{})
theorem v3 :
 ∀(a:Int×Int×Int×List (List Int)×Int×List (List Int)×List (Int×List Int)×List (Int×Int×List Int)×List (Int×Int×List Int))(b:List Int),CT.wf dQ a/\(b.length<=maxLen/\ ∀(c:Int),c∈b->0<=c/\c<=255)/\True->XI a/\bN a<=585*ae a-> ∀(c:Bool),c=decide (1024<=(a.2.2.2.1.length:Int))->((! c)->((! c)->(! c))/\True)/\((! c)->((! c)->(! c))/\True)/\(c=false->(! c))/\ax (bif c then true else decide (6000<(b.length:Int))) ((fJ)=hP a b/\(5:Int)=eY a b) (jK a/\(b.length:Int)<=1099511627776/\(a.2.2.2.1.length+List.length [b])*(24:Nat)<=(140737488355328:Nat)/\(a.1,a.2.1,a.2.2.1,a.2.2.2.1++[b],a.2.2.2.2)=hP a b/\(0:Int)=eY a b):=by
  delta fJ
  rintro c b ⟨⟨-,-,-,⟨hl,-⟩,-⟩,⟨hb,-⟩,-⟩⟨hx,ho⟩
  (repeat (intro (b_:Bool) (hb_:b_=_);(repeat refine⟨(by first|(simp;done)|(rw[hb_];simp;done)|(rw[hb_];simp;omega)|(rw[hb_];simp;intros;omega)|(rw[hb_];simp +contextual;done)),?_⟩);subst hb_))
  refine lB (fun h=>?_) (fun h1 h2=>?_)
  ·have e:eY c b=5:=by
    unfold eY
    refine if_pos ?_
    rcases h with q|q
    ·have:=of_decide_eq_true q
     exact .inl (by show 1024<=c.2.2.2.1.length;omega)
    ·exact .inr (of_decide_eq_true q)
   unfold hP
   rw[e]
   exact⟨rfl,rfl⟩
  ·have h1:=of_decide_eq_false h1
   have h2:=of_decide_eq_false h2
   have e:eY c b=0:=by
    unfold eY
    refine if_neg ?_
    rintro (q|q)
    ·have q:1024<=c.2.2.2.1.length:=q
     omega
    ·omega
   unfold hP
   rw[e]
   refine⟨hx.cp,by omega,by simp only[List.length_singleton];omega,?_,rfl⟩
   rfl
theorem sN:aF Try.prog GL 18 qw.spec:=Ct.okH _ Try.func18 (by kernel_rfl) (aD (aD aV mI) js) az yP (aT (by kernel_rfl) v3)
def qH:Ct:=⟨[.agg dQ,.val (.sl d7),.val (.sl d7)],[.agg dQ,.val cI],fun d=>[XR d.1],fun d=>((gZ d.1 d.2.1 d.2.2.1,d6 d.1 d.2.1 d.2.2.1,()),())⟩
def uK:aA qH.ps->aK:=(fun _=>{})
theorem xc :
 ∀(a:Int×Int×Int×List (List Int)×Int×List (List Int)×List (Int×List Int)×List (Int×Int×List Int)×List (Int×Int×List Int))(b c:List (Bool×Int×Int)),CT.wf dQ a/\(b.length<=maxLen/\ ∀(d:Bool×Int×Int),d∈b->True/\ak d.2.1/\ak d.2.2)/\(c.length<=maxLen/\ ∀(d:Bool×Int×Int),d∈c->True/\ak d.2.1/\ak d.2.2)/\True->XI a/\bN a<=585*ae a-> ∀(d:Bool),d= ! cP b->((! d)->((! d)->(! d))/\True)/\((! d)->((! d)->(! d))/\True)/\(d=false->(! d))/\ax (bif d then true else ! cP c) ((fJ)=gZ a b c/\(1:Int)=d6 a b c) (jK a/\ax (decide (1099511627776<=a.1)) ((fJ)=gZ a b c/\(5:Int)=d6 a b c) (XR a/\ae a<1099511627776/\cW b/\cW c/\(ae a+(1:Int),(dr a b c).1,aO a,aj a,aJ a c,(a8 a).1,(a8 a).2,(dr a b c).2,a9 (ae a+(1:Int)) (aP a c).2)=gZ a b c/\(0:Int)=d6 a b c)):=by
  delta fJ
  rintro c ds us-⟨hx,ho⟩
  (repeat (intro (b_:Bool) (hb_:b_=_);(repeat refine⟨(by first|(simp;done)|(rw[hb_];simp;done)|(rw[hb_];simp;omega)|(rw[hb_];simp;intros;omega)|(rw[hb_];simp +contextual;done)),?_⟩);subst hb_))
  refine lB (fun h=>?_) (fun h1 h2=>⟨hx.cp,aM (fun h3=>?_) (fun h3=>?_)⟩)
  ·have e:d6 c ds us=1:=by
    unfold d6
    refine if_pos ?_
    rcases h with q|q
    ·have q:cP ds=false:=by simpa using q
     rw[q];rfl
    ·have q:cP us=false:=by simpa using q
     rw[q,Bool.and_false]
   unfold gZ
   rw[e]
   exact⟨rfl,rfl⟩
  ·have h1:cP ds=true:=by simpa using h1
   have h2:cP us=true:=by simpa using h2
   have h3:1099511627776<=ae c:=of_decide_eq_true h3
   have e:d6 c ds us=5:=by
    unfold d6
    rw[h1,h2,if_neg (by decide),if_pos h3]
   unfold gZ
   rw[e]
   exact⟨rfl,rfl⟩
  ·have h1:cP ds=true:=by simpa using h1
   have h2:cP us=true:=by simpa using h2
   have h3:¬ 1099511627776<=ae c:=of_decide_eq_false h3
   have e:d6 c ds us=0:=by
    unfold d6
    rw[h1,h2,if_neg (by decide),if_neg h3]
   unfold gZ
   rw[e]
   exact⟨⟨hx,ho⟩,by omega,jj.1 h1,jj.1 h2,rfl,rfl⟩
theorem yV:aF Try.prog GL 20 qH.spec:=Ct.okH _ Try.func20 (by kernel_rfl) (aD (aD (aD aV vO) mI) ry) az uK (aT (by kernel_rfl) xc)
def rb:Ct:=⟨[.agg dQ,.val cI],[.agg dQ,.val cI],fun d=>[XR d.1],fun d=>((gX d.1 d.2.1,ek d.1 d.2.1,()),())⟩
def zO:aA rb.ps->aK:=(fun d=>{loops:=(fun n=>match n with|4=>some (fun S=>{ι:=Int×ao,qn:=⟨fun k_=>∀(r:Int)(b:ao),k_ (r,b),fun k_ h_ i=>h_ i.1 i.2,fun k_=>∃ (r:Int) (b:ao),k_ (r,b),fun k_ ⟨r,b,h_⟩=>⟨_,h_⟩⟩,μ:=fun i=>i.1.toNat,inv:=fun i=>0<=i.1/\i.1<=max 0 d.2.1/\(i.1<d.2.1->ae d.1+(d.2.1-i.1)<=1099511627776)/\i.2=a7 (max 0 d.2.1-i.1).toNat d.1,keep:=[2,4,5],slots:=fun i=>[(1,.int .i64 i.1)],keepN:=[80],names:=fun i=>[(48,.live (.cells 28 [.int .i64 (ae i.2),.int .i64 (bN i.2),.int .i64 (aO i.2),.own 524288 1,.int .i64 (aQ i.2),.own 524289 1,.own 524290 2,.own 524291 3,.own 524292 3])),(524288,.live (.row 22 (.sl bc) (aj i.2))),(524289,.live (.row 22 (.sl bc) (aC i.2))),(524290,.live (.row 51 dV (cz i.2))),(524291,.live (.row 53 bE (bi i.2))),(524292,.live (.row 53 bE (bD i.2)))]})|_=>none)})
def kD(e:ao) :=
 (ae e,bN e,aO e,aj e,aQ e,aC e,cz e,bi e,bD e)
theorem uR :
 ∀(a:Int×Int×Int×List (List Int)×Int×List (List Int)×List (Int×List Int)×List (Int×Int×List Int)×List (Int×Int×List Int))(b:Int),CT.wf dQ a/\ak b/\True->XI a/\bN a<=585*ae a-> ∀(c:Bool),c=decide (b<0)->((! c)->((! c)->(! c))/\True)/\(c=false->(! c))/\ax (bif c then true else decide (100000<b)) ((fJ)=gX a b/\(1:Int)=ek a b) (jK a/\(∃(d:Int) (e:ao),(0<=d/\d<=max (0:Int) b/\(d<b->ae a+(b -d)<=1099511627776)/\e=a7 (Int.toNat (max (0:Int) b -d)) a)/\b=d/\(0:Int)=0/\(0:Int)=0/\(0:Int)=0/\(0:Int)=0/\(0:Int)=0/\a.1=ae e/\a.2.1=bN e/\a.2.2.1=aO e/\a.2.2.2.2.1=aQ e/\a.2.2.2.1=aj e/\a.2.2.2.2.2.1=aC e/\a.2.2.2.2.2.2.1=cz e/\a.2.2.2.2.2.2.2.1=bi e/\a.2.2.2.2.2.2.2.2=bD e/\True)/\ ∀(d:Int)(e:ao),0<=d/\d<=max (0:Int) b/\(d<b->ae a+(b -d)<=1099511627776)/\e=a7 (Int.toNat (max (0:Int) b -d)) a->ax (decide (0<d)) (ax (decide (1099511627776<=ae e))
 ((fJ)=gX a b/\(5:Int)=ek a b) (XR (kD e)/\ae (kD e)<1099511627776/\cW ([]:List (Bool×Int×Int))/\cW ([]:List (Bool×Int×Int))/\ ∀(f g h:Int)(i:List (List Int))(j:Int)(k:List (List Int))(l:List (Int×List Int))(m n:List (Int×Int×List Int)),(f,g,h,i,j,k,l,m,n)=aS (kD e) ([]:List (Bool×Int×Int)) ([]:List (Bool×Int×Int))-> ∃(o:Int) (p:ao),(0<=o/\o<=max (0:Int) b/\(o<b->ae a+(b -o)<=1099511627776)/\p=a7 (Int.toNat (max (0:Int) b -o)) a)/\o.toNat<d.toNat/\IntKind.wrap .i64 (d -(1:Int))=o/\(0:Int)=0/\(0:Int)=0/\(0:Int)=0/\(0:Int)=0/\(0:Int)=0/\f=ae p/\g=bN p/\h=aO p/\j=aQ p/\i=aj p/\k=aC p/\l=cz p/\m=bi p/\n=bD p/\True)) ((kD e)=gX a b/\(0:Int)=ek a b)):=by
  delta fJ kD
  rintro c n-⟨hx,ho⟩
  (repeat (intro (b_:Bool) (hb_:b_=_);(repeat refine⟨(by first|(simp;done)|(rw[hb_];simp;done)|(rw[hb_];simp;omega)|(rw[hb_];simp;intros;omega)|(rw[hb_];simp +contextual;done)),?_⟩);subst hb_))
  refine lB (fun h=>?_) (fun h1 h2=>⟨hx.cp,?_⟩)
  ·have e:ek c n=1:=by
    unfold ek
    refine if_pos ?_
    rcases h with q|q
    ·exact .inl (of_decide_eq_true q)
    ·exact .inr (of_decide_eq_true q)
   unfold gX
   rw[e]
   exact⟨rfl,rfl⟩
  ·have h1:=of_decide_eq_false h1
   have h2:=of_decide_eq_false h2
   refine⟨⟨n,c,⟨by omega,by omega,by omega,?_⟩,(by repeat' first|exact trivial|refine⟨trivial,?_⟩|refine⟨(by with_reducible rfl),?_⟩|refine⟨au (by omega) (by omega),?_⟩|refine⟨rfl,?_⟩)⟩,?_⟩
   ·rw[show max 0 n-n=0 by omega];rfl
   rintro r b ⟨r0,r1,r2,rfl⟩
   obtain⟨hb,hnow,-⟩:=hx.runs (max 0 n-r).toNat
   have hxr:=XR.runs ⟨hx,ho⟩ (max 0 n-r).toNat
   generalize hbb:a7 (max 0 n-r).toNat c=b at *
   refine aM (fun h3=>aM (fun h4=>?_) (fun h4=>?_)) (fun h3=>?_)
   ·have h3:=of_decide_eq_true h3
    have h4:=of_decide_eq_true h4
    have e:ek c n=5:=by
     unfold ek
     rw[if_neg (by omega),if_pos (by omega)]
    unfold gX
    rw[e]
    exact⟨rfl,rfl⟩
   ·have h3:=of_decide_eq_true h3
    have h4:=of_decide_eq_false h4
    refine⟨hxr,by show ae b<_;omega,dN,dN,?_⟩
    rintro y1 y2 y3 y4 y5 y6 y7 y8 y9 he
    have he:((y1,y2,y3,y4,y5,y6,y7,y8,y9):ao)=aS b [] []:=he
    have e2:a7 (max 0 n-(r-1)).toNat c=aS b [] []:=by
     rw[← hbb,show (max 0 n-(r-1)).toNat=(max 0 n-r).toNat+1 by omega,gp]
    refine⟨r-1,(y1,y2,y3,y4,y5,y6,y7,y8,y9),⟨by omega,by omega,by omega,?_⟩,by omega,(by repeat' first|exact trivial|refine⟨trivial,?_⟩|refine⟨(by with_reducible rfl),?_⟩|refine⟨au (by omega) (by omega),?_⟩|refine⟨rfl,?_⟩)⟩
    rw[e2,he]
   ·have h3:=of_decide_eq_false h3
    have hr:r=0:=by omega
    subst hr
    have e:ek c n=0:=by
     unfold ek
     rw[if_neg (by omega),if_neg (by omega)]
    unfold gX
    rw[e,if_pos rfl]
    refine⟨?_,rfl⟩
    rw[← hbb,show (max 0 n-0).toNat=n.toNat by omega]
    rfl
theorem wd:aF Try.prog GL 11 rb.spec:=Ct.okH _ Try.func11 (by kernel_rfl) (aD (aD aV mI) (Ct.named ry)) az zO (aT (by kernel_rfl) uR)
end Go.RS

/- Xref: the document's exchange. -/
namespace Go.RS
open Go.SX Go.Proofs
set_option maxRecDepth 100000
set_option linter.unusedVariables false
def tO:Ct:=⟨[.val (.sl (.sl bc)),.val (.sl (.sl bc))],[.val .bool],fun _=>[],fun d=>((decide (d.1=d.2.1),()),())⟩
def vt:aA tO.ps->aK:=(fun d=>{loops:=(fun n=>match n with|4=>some (fun S=>{ι:=Int,μ:=fun i=>(d.1.length-i).toNat,inv:=fun i=>0<=i/\i<=d.1.length/\d.1.length=d.2.1.length/\d.1.take i.toNat=d.2.1.take i.toNat,keep:=[0,1],slots:=fun i=>[(5,.int .i64 i)],names:=fun i=>[]})|_=>none)})
def jG(c:List Int) :=
 c.length<=maxLen/\ ∀(d:Int),d∈c->0<=d/\d<=255
theorem zC :
 ∀(a b:List (List Int)),(a.length<=maxLen/\ ∀(c:List Int),c∈a->(jG c))/\(b.length<=maxLen/\ ∀(c:List Int),c∈b->(jG c))/\True->True->ax (! decide ((a.length:Int)=(b.length:Int))) (false=decide (a=b)) ((∃(c:Int),(0<=c/\c<=(a.length:Int)/\a.length=b.length/\List.take c.toNat a=List.take c.toNat b)/\a=a/\b=b/\(0:Int)=c/\True)/\ ∀(c:Int),0<=c/\c<=(a.length:Int)/\a.length=b.length/\List.take c.toNat a=List.take c.toNat b->ax (decide (c<(a.length:Int))) (0<=c/\c<(a.length:Int)/\0<=c/\c<(b.length:Int)/\ax (! decide (a.getD c.toNat default=b.getD c.toNat default)) (false=decide (a=b)) (∃(d:Int),(0<=d/\d<=(a.length:Int)/\a.length=b.length/\List.take d.toNat a=List.take d.toNat b)/\Int.toNat ((a.length:Int) -d)<Int.toNat ((a.length:Int) -c)/\a=a/\b=b/\IntKind.wrap .i64 (c+(1:Int))=d/\True)) (true=decide (a=b))):=by
  delta jG
  rintro x y ⟨⟨hl,-⟩,-⟩ -
  simp only[maxLen] at hl
  refine aM (fun h=>?_) (fun h=>?_)
  ·have h:=rz h
   exact (decide_eq_false (fun e=>h (by rw[e]))).symm
  have h:=qd h
  refine⟨⟨0,⟨by omega,by omega,by omega,rfl⟩,(by repeat' first|exact trivial|refine⟨trivial,?_⟩|refine⟨(by with_reducible rfl),?_⟩|refine⟨au (by omega) (by omega),?_⟩|refine⟨rfl,?_⟩)⟩,?_⟩
  rintro j ⟨j0,j1,j2,j3⟩
  refine aM (fun hj=>?_) (fun hj=>?_)
  ·have hj:=of_decide_eq_true hj
   refine⟨j0,hj,j0,by omega,aM (fun k=>?_) (fun k=>?_)⟩
   ·have k:=rz k
    exact (decide_eq_false (fun e=>k (by rw[e]))).symm
   ·have k:=qd k
    rw[au (by omega) (by omega)]
    exact⟨j+1,⟨by omega,by omega,j2,by rw[fH j0 hj,fH j0 (by omega),j3,k]⟩,by omega,(by repeat' first|exact trivial|refine⟨trivial,?_⟩|refine⟨(by with_reducible rfl),?_⟩|refine⟨au (by omega) (by omega),?_⟩|refine⟨rfl,?_⟩)⟩
  ·have hj:=of_decide_eq_false hj
   rw[List.take_of_length_le (by omega),List.take_of_length_le (by omega)] at j3
   exact (decide_eq_true j3).symm
theorem w8:aF Try.prog GL 34 tO.spec:=Ct.okH _ Try.func34 (by kernel_rfl) (aD aV xt) az vt (aT (by kernel_rfl) zC)
def rg:Ct:=⟨[.val (.sl (.sl bc)),.val (.sl (.sl bc))],[.val .bool],fun _=>[],fun d=>((decide (d.1.length<=d.2.1.length/\d.1=d.2.1.take d.1.length),()),())⟩
def wU:aA rg.ps->aK:=(fun _=>{})
theorem uQ :
 ∀(a b:List (List Int)),(a.length<=maxLen/\ ∀(c:List Int),c∈a->(jG c))/\(b.length<=maxLen/\ ∀(c:List Int),c∈b->(jG c))/\True->True-> ∀(c:Bool),c=decide ((a.length:Int)<=(b.length:Int))->(c->(c->c)/\True)/\(c->(c->c)/\(c->c)/\(0:Int)<=0/\0<=(a.length:Int)/\(a.length:Int)<=(b.length:Int)/\True)/\(c->(c->c)/\(c->c)/\True)/\(c->c)/\(bif c then decide (a=bH b (Int.toNat (0:Int)) (Int.toNat (a.length:Int))) else false)=decide (a.length<=b.length/\a=List.take a.length b):=by
  delta jG
  rintro x y - -
  intro b hb
  (repeat refine⟨fun h_=>(by first|(intros;omega)|(rw[hb];simp;omega)|(simp;done)|(simp[h_];done)|(simp_all;done)),?_⟩)
  rw[hb]
  by_cases h:x.length<=y.length
  ·rw[decide_eq_true (show (x.length:Int)<=y.length by omega)]
   show decide (x=bH y (Int.toNat 0) (Int.toNat x.length))=_
   have e:bH y (Int.toNat 0) (Int.toNat x.length)=y.take x.length:=by unfold bH;simp
   rw[e]
   exact decide_eq_decide.2 ⟨fun q=>⟨h,q⟩,fun q=>q.2⟩
  ·rw[decide_eq_false (show ¬ (x.length:Int)<=y.length by omega)]
   exact (decide_eq_false (fun q=>h q.1)).symm
theorem uC:aF Try.prog GL 15 rg.spec:=Ct.okH _ Try.func15 (by kernel_rfl) (aD aV w8) az wU (aT (by kernel_rfl) uQ)
end Go.RS

/- Xrf2: the document's exchange: acknowledgements, what the receiver does, ticks. -/
namespace Go.RS
open Go.SX Go.Proofs
set_option maxRecDepth 100000
set_option linter.unusedVariables false
end Go.RS

/- Lawx1: what the laws of the exchange draw. -/
namespace Go.RS
open Go.SX Go.Proofs
set_option maxRecDepth 100000
set_option linter.unusedVariables false
def tw:Cn:=⟨[.box 58 e9,.val cI],[.val (.sl bc)],fun d=>[av d.1,0<=d.2.1,d.2.1<=1000],fun d y=>av y.2.1/\(y.1.1.length:Int)<=d.2.1,fun d h=>⟨(([],()),(d.1,())),h.1,by simp;exact h.2.1⟩⟩
def uA:aA tw.ps->aK:=(fun d=>{loops:=(fun n=>match n with|3=>some (fun S=>{ι:=Int×(List Int×Int)×(List Int),qn:=⟨fun k_=>∀(k:Int)(c:(List Int×Int))(b:(List Int)),k_ (k,c,b),fun k_ h_ i=>h_ i.1 i.2.1 i.2.2,fun k_=>∃ (k:Int) (c:(List Int×Int)) (b:(List Int)),k_ (k,c,b),fun k_ ⟨k,c,b,h_⟩=>⟨_,h_⟩⟩,μ:=fun i=>i.1.toNat,inv:=fun i=>0<=i.1/\av i.2.1/\i.2.2.length+i.1<=d.2.1,keep:=[0,4],slots:=fun i=>[(5,.own 524288 1),(6,.int .i64 i.1)],names:=fun i=>[(1048576,.live (.cells 58 (bk e9 i.2.1))),(524288,.live (.row 5 bc i.2.2))]})|_=>none)})
theorem xl :
 ∀(a:List Int)(b c:Int),((a.length<=maxLen/\ ∀(d:Int),d∈a->0<=d/\d<=255)/\ak b)/\ak c/\True->av (a,b)/\0<=c/\c<=1000->av (a,b)/\ ∀(d:Int)(e:List Int)(f:Int),0<=d/\(d<IntKind.wrap .i64 (c+(1:Int))∨d=0)/\av (e,f)->(∃(g:Int) (h:List Int×Int),∃(i:List Int),(0<=g/\av h/\(i.length:Int)+g<=c)/\d=g/\e=h.1/\f=h.2/\i=([]:List Int)/\True)/\ ∀(g:Int)(h:List Int×Int)(i:List Int),0<=g/\av h/\(i.length:Int)+g<=c->ax (decide (0<g)) (av h/\ ∀(j:Int)(k:List Int)(l:Int),0<=j/\(j<256∨j=0)/\av (k,l)->(i.length+List.length [IntKind.wrap .u8 j])*(1:Nat)<=(140737488355328:Nat)/\ ∃(m:Int) (n:List Int×Int),∃(o:List Int),(0<=m/\av n/\(o.length:Int)+m<=c)/\m.toNat<g.toNat/\IntKind.wrap .i64 (g -(1:Int))=m/\k=n.1/\l=n.2/\i++[IntKind.wrap .u8 j]=o/\True) (av h/\(i.length:Int)<=c):=by
  rintro l p n-⟨hc,n0,n1⟩
  refine⟨hc,?_⟩
  rintro k l2 p2 ⟨k0,k1,hc2⟩
  rw[au (by omega) (by omega)] at k1
  refine⟨⟨k,(l2,p2),[],⟨k0,hc2,by simp only[List.length_nil];omega⟩,(by repeat' first|exact trivial|refine⟨trivial,?_⟩|refine⟨(by with_reducible rfl),?_⟩|refine⟨au (by omega) (by omega),?_⟩|refine⟨rfl,?_⟩)⟩,?_⟩
  rintro k c b ⟨k0,hc,hb⟩
  refine aM (fun h=>⟨hc,?_⟩) (fun h=>⟨hc,by omega⟩)
  have h:=of_decide_eq_true h
  rintro x l3 p3 ⟨-,-,hc3⟩
  exact⟨by simp only[List.length_singleton];omega,k-1,(l3,p3),b++[IntKind.wrap IntKind.u8 x],⟨by omega,hc3,by rw[List.length_append,List.length_singleton];omega⟩,by omega,(by repeat' first|exact trivial|refine⟨trivial,?_⟩|refine⟨(by with_reducible rfl),?_⟩|refine⟨au (by omega) (by omega),?_⟩|refine⟨rfl,?_⟩)⟩
theorem zB:aF Try.prog GL 19 tw.spec:=Cn.okH _ Try.func19 (by kernel_rfl) (aD aV lS) az uA (aT (by kernel_rfl) xl)
def tA:Cn:=⟨[.box 58 e9,.val cI],[.own 67 d7],fun d=>[av d.1,0<=d.2.1,d.2.1<=1000],fun d y=>av y.2.1/\(y.1.1.length:Int)<=d.2.1∧∀ f∈y.1.1,0<=f.2.2/\f.2.2<=1,fun d h=>⟨(([],()),(d.1,())),h.1,by simp;exact h.2.1,by simp⟩⟩
def An:aA tA.ps->aK:=(fun d=>{loops:=(fun n=>match n with|3=>some (fun S=>{ι:=Int×(List Int×Int)×(List aL),qn:=⟨fun k_=>∀(k:Int)(c:(List Int×Int))(l:(List aL)),k_ (k,c,l),fun k_ h_ i=>h_ i.1 i.2.1 i.2.2,fun k_=>∃ (k:Int) (c:(List Int×Int)) (l:(List aL)),k_ (k,c,l),fun k_ ⟨k,c,l,h_⟩=>⟨_,h_⟩⟩,μ:=fun i=>i.1.toNat,inv:=fun i=>0<=i.1/\av i.2.1/\i.2.2.length+i.1<=d.2.1∧∀ f∈i.2.2,0<=f.2.2/\f.2.2<=1,keep:=[0,4],slots:=fun i=>[(5,.own 524288 3),(6,.int .i64 i.1)],names:=fun i=>[(1048576,.live (.cells 58 (bk e9 i.2.1))),(524288,.live (.row 67 d7 i.2.2))]})|_=>none)})
theorem vF :
 ∀(a:List Int)(b c:Int),((a.length<=maxLen/\ ∀(d:Int),d∈a->0<=d/\d<=255)/\ak b)/\ak c/\True->av (a,b)/\0<=c/\c<=1000->av (a,b)/\ ∀(d:Int)(e:List Int)(f:Int),0<=d/\(d<IntKind.wrap .i64 (c+(1:Int))∨d=0)/\av (e,f)->(∃(g:Int) (h:List Int×Int),∃(i:List aL),(0<=g/\av h/\(i.length:Int)+g<=c/\ ∀(j:aL),j∈i->0<=j.2.2/\j.2.2<=1)/\d=g/\e=h.1/\f=h.2/\i=([]:List (Bool×Int×Int))/\True)/\ ∀(g:Int)(h:List Int×Int)(i:List aL),(0<=g/\av h/\(i.length:Int)+g<=c/\ ∀(j:aL),j∈i->0<=j.2.2/\j.2.2<=1)->ax (decide (0<g)) (av h/\ ∀(j:Int)(k:List Int)(l:Int),0<=j/\(j<4∨j=0)/\av (k,l)->av (k,l)/\ ∀(m:Int)(n:List Int)(o:Int),0<=m/\(m<4∨m=0)/\av (n,o)->av (n,o)/\ ∀(p:Int)(q:List Int)(r:Int),0<=p/\(p<8∨p=0)/\av (q,r)->(6:Int)≠(0:Int)/\av (q,r)/\ ∀(s:Int)(t:List Int)(u:Int),0<=s/\(s<40∨s=0)/\av (t,u)->ax (decide (s=39)) (av (t,u)/\ ∀(v:Int)(w:List Int)(x:Int),av (w,x)/\ak
 v->(i.length+List.length [(decide (j=3),v,IntKind.wrap .i64 (Int.tdiv p (6:Int)))])*(24:Nat)<=(140737488355328:Nat)/\ ∃(y:Int) (z:List Int×Int),∃(A:List aL),(0<=y/\av z/\(A.length:Int)+y<=c/\ ∀(B:aL),B∈A->0<=B.2.2/\B.2.2<=1)/\y.toNat<g.toNat/\IntKind.wrap .i64 (g -(1:Int))=y/\w=z.1/\x=z.2/\i++[(decide (j=3),v,IntKind.wrap .i64 (Int.tdiv p (6:Int)))]=A/\True) ((i.length+List.length [(decide (j=3),m,IntKind.wrap .i64 (Int.tdiv p (6:Int)))])*(24:Nat)<=(140737488355328:Nat)/\ ∃(v:Int) (w:List Int×Int),∃(x:List aL),(0<=v/\av w/\(x.length:Int)+v<=c/\ ∀(y:aL),y∈x->0<=y.2.2/\y.2.2<=1)/\v.toNat<g.toNat/\IntKind.wrap .i64 (g -(1:Int))=v/\t=w.1/\u=w.2/\i++[(decide (j=3),m,IntKind.wrap .i64 (Int.tdiv p (6:Int)))]=x/\True)) (av h/\(i.length:Int)<=c/\ ∀(j:Bool×Int×Int),j∈i->0<=j.2.2/\j.2.2<=1):=by
  rintro l p n-⟨hc,n0,n1⟩
  refine⟨hc,?_⟩
  rintro k l2 p2 ⟨k0,k1,hc2⟩
  rw[au (by omega) (by omega)] at k1
  refine⟨⟨k,(l2,p2),[],⟨k0,hc2,by simp only[List.length_nil];omega,by simp⟩,(by repeat' first|exact trivial|refine⟨trivial,?_⟩|refine⟨(by with_reducible rfl),?_⟩|refine⟨au (by omega) (by omega),?_⟩|refine⟨rfl,?_⟩)⟩,?_⟩
  rintro k c b ⟨k0,hc,hb,hf⟩
  refine aM (fun h=>⟨hc,?_⟩) (fun h=>⟨hc,by omega,hf⟩)
  have h:=of_decide_eq_true h
  rintro x l3 p3 ⟨-,-,hc3⟩
  refine⟨hc3,?_⟩
  rintro y l4 p4 ⟨-,-,hc4⟩
  refine⟨hc4,?_⟩
  rintro z l5 p5 ⟨z0,z1,hc5⟩
  refine⟨by decide,hc5,?_⟩
  rintro u l6 p6 ⟨-,-,hc6⟩
  have ez:Int.tdiv z 6=z/6:=Int.tdiv_eq_ediv_of_nonneg z0
  rw[ez,au (n:=z/6) (by omega) (by omega)]
  have hf':∀ d:Int,∀ f∈b++[(decide (x=3),d,z/6)],0<=f.2.2/\f.2.2<=1:=fun d f hff=>by
   rcases List.mem_append.1 hff with q|q
   ·exact hf f q
   ·rw[List.mem_singleton.1 q];show 0<=z/6/\z/6<=1;omega
  refine aM (fun _=>⟨hc6,?_⟩) (fun _=>?_)
  ·rintro w l7 p7 ⟨hc7,-⟩
   exact⟨by simp only[List.length_singleton];omega,k-1,(l7,p7),_,⟨by omega,hc7,by rw[List.length_append,List.length_singleton];omega,hf' _⟩,by omega,(by repeat' first|exact trivial|refine⟨trivial,?_⟩|refine⟨(by with_reducible rfl),?_⟩|refine⟨au (by omega) (by omega),?_⟩|refine⟨rfl,?_⟩)⟩
  ·exact⟨by simp only[List.length_singleton];omega,k-1,(l6,p6),_,⟨by omega,hc6,by rw[List.length_append,List.length_singleton];omega,hf' _⟩,by omega,(by repeat' first|exact trivial|refine⟨trivial,?_⟩|refine⟨(by with_reducible rfl),?_⟩|refine⟨au (by omega) (by omega),?_⟩|refine⟨rfl,?_⟩)⟩
theorem ze:aF Try.prog GL 29 tA.spec:=Cn.okH _ Try.func29 (by kernel_rfl) (aD (aD aV lS) xn) az An (aT (by kernel_rfl) vF)
def su:Cn:=⟨[.box 58 e9,.val cI],[.val (.sl d7)],fun d=>[av d.1,0<=d.2.1,d.2.1<=1000],fun d y=>av y.2.1/\(y.1.1.length:Int)<=d.2.1/\cP y.1.1=true,fun d h=>⟨(([],()),(d.1,())),h.1,by simp;exact h.2.1,rfl⟩⟩
def xN:aA su.ps->aK:=(fun d=>{loops:=(fun n=>match n with|3=>some (fun S=>{ι:=Int×(List aL),qn:=⟨fun k_=>∀(i:Int)(l:(List aL)),k_ (i,l),fun k_ h_ i=>h_ i.1 i.2,fun k_=>∃ (i:Int) (l:(List aL)),k_ (i,l),fun k_ ⟨i,l,h_⟩=>⟨_,h_⟩⟩,μ:=fun i=>(1000-i.1).toNat,inv:=fun i=>0<=i.1/\i.1<=i.2.length/\(i.2.length:Int)<=d.2.1/\(∀ f∈i.2,0<=f.2.2/\f.2.2<=1)∧∀ f∈i.2.take i.1.toNat,cH f=true,keep:=[0,4],slots:=fun i=>[(5,.own 524288 3),(6,.int .i64 i.1)],keepN:=[1048576],names:=fun i=>[(524288,.live (.row 67 d7 i.2))]})|_=>none)})
def nf(c g:Int)(h:List aL) :=
 0<=g/\g<=(h.length:Int)/\(h.length:Int)<=c/\(∀(i:aL),i∈h->0<=i.2.2/\i.2.2<=1)/\ ∀(i:aL),i∈List.take g.toNat h->cH i=true
theorem u9 :
 ∀(a:List Int)(b c:Int),((a.length<=maxLen/\ ∀(d:Int),d∈a->0<=d/\d<=255)/\ak b)/\ak c/\True->av (a,b)/\0<=c/\c<=1000->av (a,b)/\0<=c/\c<=1000/\ ∀(d:List (Bool×Int×Int))(e:List Int)(f:Int),(av (e,f)/\(d.length:Int)<=c/\ ∀(g:Bool×Int×Int),g∈d->0<=g.2.2/\g.2.2<=1)->(∃(g:Int) (h:List aL),(nf c g h)/\(0:Int)=g/\e=e/\f=f/\d=h/\True)/\ ∀(g:Int)(h:List aL),(nf c g h)->ax (decide (g<(h.length:Int))) (0<=g/\g<(h.length:Int)/\(6:Int)≠(0:Int)/\0<=g/\g<(h.length:Int)/\ ∃(i:Int) (j:List aL),(0<=i/\i<=(j.length:Int)/\(j.length:Int)<=c/\(∀(k:aL),k∈j->0<=k.2.2/\k.2.2<=1)/\ ∀(k:aL),k∈List.take i.toNat j->cH k=true)/\Int.toNat ((1000:Int) -i)<Int.toNat ((1000:Int) -g)/\IntKind.wrap .i64 (g+(1:Int))=i/\e=e/\f=f/\List.set h g.toNat ((h.getD g.toNat default).1,f6 (h.getD g.toNat default).2.1 (6:Int),(h.getD g.toNat default).2.2)=j/\True) (av (e,f)/\(h.length:Int)<=c/\cP
 h=true):=by
  delta nf
  rintro l p n-⟨hc,n0,n1⟩
  refine⟨hc,n0,n1,?_⟩
  rintro fs l2 p2 ⟨hc2,hl,hf⟩
  refine⟨⟨0,fs,⟨by omega,by omega,hl,hf,by simp⟩,(by repeat' first|exact trivial|refine⟨trivial,?_⟩|refine⟨(by with_reducible rfl),?_⟩|refine⟨au (by omega) (by omega),?_⟩|refine⟨rfl,?_⟩)⟩,?_⟩
  rintro i l ⟨i0,i1,hl,hf,hk⟩
  refine aM (fun h=>?_) (fun h=>?_)
  ·have h:=of_decide_eq_true h
   have hg:=hf _ (dC (xs:=l) i0 h)
   have hm:0<=f6 (l.getD i.toNat default).2.1 6/\f6 (l.getD i.toNat default).2.1 6<=5:=by
    unfold f6
    generalize (l.getD i.toNat default).2.1=x
    have h1 : -6<x.tmod 6/\x.tmod 6<6:=⟨by have:=Int.lt_tmod_of_pos x (show (0:Int)<6 by omega);omega,Int.tmod_lt_of_pos x (by omega)⟩
    rw[au (by omega) (by omega),Int.tmod_eq_emod_of_nonneg (by omega)]
    omega
   have hset:∀ f∈l.set i.toNat ((l.getD i.toNat default).1,f6 (l.getD i.toNat default).2.1 6,(l.getD i.toNat default).2.2),f∈l∨f=((l.getD i.toNat default).1,f6 (l.getD i.toNat default).2.1 6,(l.getD i.toNat default).2.2):=fun f hff=>List.mem_or_eq_of_mem_set hff
   refine⟨i0,h,by decide,i0,h,i+1,l.set i.toNat ((l.getD i.toNat default).1,f6 (l.getD i.toNat default).2.1 6,(l.getD i.toNat default).2.2),⟨by omega,by rw[List.length_set];omega,by rw[List.length_set];exact hl,fun f hff=>?_,fun f hff=>?_⟩,by omega,(by repeat' first|exact trivial|refine⟨trivial,?_⟩|refine⟨(by with_reducible rfl),?_⟩|refine⟨au (by omega) (by omega),?_⟩|refine⟨rfl,?_⟩)⟩
   ·rcases hset f hff with q|q
    ·exact hf f q
    ·rw[q];exact hg
   ·rw[fH i0 (by rw[List.length_set];exact h),sV (by omega),List.take_set_of_le (Nat.le_refl _)] at hff
    rcases List.mem_append.1 hff with q|q
    ·exact hk f q
    ·rw[List.mem_singleton.1 q]
     exact decide_eq_true ⟨hm.1,Int.le_trans hm.2 (by decide),hg.1,Int.le_trans hg.2 (by decide)⟩
  ·have h:=of_decide_eq_false h
   rw[List.take_of_length_le (by omega)] at hk
   exact⟨hc2,hl,List.all_eq_true.2 hk⟩
theorem xr:aF Try.prog GL 21 su.spec:=Cn.okH _ Try.func21 (by kernel_rfl) (aD (aD aV ze) xm) az xN (aT (by kernel_rfl) u9)
def tu:Ct:=⟨[],[.val .bool],fun _=>[],fun _=>((true,()),())⟩
def vB:aA tu.ps->aK:=(fun _=>{})
theorem yg :
 True->True-> ∀(a:Int×Int×Int×List (List Int)×Int×List (List Int)×List (Int×List Int)×List (Int×Int×List Int)×List (Int×Int×List Int))(b:Int),a=hI (4:Int)/\b=fl (4:Int)->(1:Nat)<=List.length [(120:Int)]/\XR a/\ ∀(c:Int×Int×Int×List (List Int)×Int×List (List Int)×List (Int×List Int)×List (Int×Int×List Int)×List (Int×Int×List Int))(d:Int),c=hP a [(120:Int)]/\d=eY a [(120:Int)]->XR c/\ ∀(e:Int×Int×Int×List (List Int)×Int×List (List Int)×List (Int×List Int)×List (Int×Int×List Int)×List (Int×Int×List Int))(f:Int),e=gX c (2:Int)/\f=ek c (2:Int)-> ∀(g:Bool),g=decide (b=0)->(g->(g->g)/\True)/\(g->g)/\ ∀(h:Bool),(h=bif g then decide (d=0) else false)->(h->(h->h)/\True)/\(h->h)/\ ∀(i:Bool),(i=bif h then decide (f=0) else false)->(i->(i->i)/\True)/\(i->(i->i)/\True)/\(i->(i->i)/\True)/\(i->i)/\ ∀(j:Bool),(j=bif i then decide ((e.2.2.2.2.2.1.length:Int)=1) else
 false)->(j->(j->j)/\True)/\(j->(j->j)/\True)/\(j->j)/\ ∀(k:Bool),(k=bif j then decide (e.1=2) else false)->(k->(k->k)/\True)/\(k->(k->k)/\(0:Int)<=0/\0<(e.2.2.2.2.2.1.length:Int)/\True)/\(k->(k->k)/\True)/\(k->(k->k)/\True)/\(k->(k->k)/\True)/\(k->k)/\(bif k then decide (strOfNums (List.getD e.2.2.2.2.2.1 (Int.toNat (0:Int)) default)={data:= #[(120:UInt8)]}) else false)=true:=by
  rintro - -
  rintro c e ⟨hc,he⟩
  have hc:c=e6 4:=hc
  have he:e=0:=he
  subst hc he
  have x1:XR (e6 4):=XR.new (by omega) (by omega)
  refine⟨by decide,x1,?_⟩
  rintro c2 e2 ⟨hc2,he2⟩
  have hp:eY (e6 4) [120]=0:=by decide
  have hc2:c2=gn (e6 4) [120]:=by rw[hc2];exact if_pos hp
  rw[hp] at he2
  subst hc2 he2
  have x2:XR (gn (e6 4) [120]):=x1.push (by decide) (by decide)
  refine⟨x2,?_⟩
  rintro c3 e3 ⟨hc3,he3⟩
  have hr:ek (gn (e6 4) [120]) 2=0:=by decide
  have hc3:c3=a7 2 (gn (e6 4) [120]):=by rw[hc3];exact if_pos hr
  rw[hr] at he3
  subst he3
  have hv:c3.2.2.2.2.2.1=[[120]]/\c3.1=2:=by
   rw[hc3]
   exact⟨by kernel_rfl,by kernel_rfl⟩
  obtain⟨v1,v2⟩:=hv
  rw[v1,v2]
  (repeat (intro (b_:Bool) (hb_:b_=_);(repeat refine⟨(by first|(simp;done)|(rw[hb_];simp;done)|(rw[hb_];simp;omega)|(rw[hb_];simp;intros;omega)|(rw[hb_];simp +contextual;done)),?_⟩);subst hb_))
  kernel_rfl
theorem wl:aF Try.prog GL 8 tu.spec:=Ct.okH _ Try.func8 (by kernel_rfl) (aD (aD (aD aV (Ct.named sG)) (Ct.named sN)) (Ct.named wd)) az vB (aT (by kernel_rfl) yg)
end Go.RS

/- Lawx2: the receiver has the beginning of the log at all times. -/
namespace Go.RS
open Go.SX Go.Proofs
set_option maxRecDepth 100000
set_option linter.unusedVariables false
def qA:Ct:=kf [(false,.sl bc)]
def Af:aA qA.ps->aK:=(fun d=>{loops:=(fun n=>match n with|6=>some (fun S=>{ι:=Int×(List Int×Int)×ao,qn:=⟨fun k_=>∀(k:Int)(c:(List Int×Int))(b:ao),k_ (k,c,b),fun k_ h_ i=>h_ i.1 i.2.1 i.2.2,fun k_=>∃ (k:Int) (c:(List Int×Int)) (b:ao),k_ (k,c,b),fun k_ ⟨k,c,b,h_⟩=>⟨_,h_⟩⟩,μ:=fun i=>(40-i.1).toNat,inv:=fun i=>0<=i.1/\i.1<=40/\av i.2.1/\XR i.2.2/\ae i.2.2<=i.1/\(aj i.2.2).length<=i.1,keep:=[2,3,4],slots:=fun i=>[(6,.int .i64 i.1)],names:=fun i=>[(208,.live (.cells 58 (bk e9 i.2.1))),(80,.live (.cells 28 (bk dQ i.2.2)))]})|_=>none),cuts:=(fun n=>match n with|13=>some (fun S=>{ι:=(List Int×Int)×ao×ao×Int,qn:=⟨fun k_=>∀(c:(List Int×Int))(b:ao)(y:ao)(e:Int),k_ (c,b,y,e),fun k_ h_ i=>h_ i.1 i.2.1 i.2.2.1 i.2.2.2,fun k_=>∃ (c:(List Int×Int)) (b:ao) (y:ao) (e:Int),k_ (c,b,y,e),fun k_ ⟨c,b,y,e,h_⟩=>⟨_,h_⟩⟩,inv:=fun i=>av i.1/\XR i.2.2.1/\i.2.2.2=0/\ae i.2.2.1<=S.i 6+1/\(aj i.2.2.1).length<=S.i 6+1/\(aC i.2.1).length<=(aC i.2.2.1).length/\aQ i.2.1<=aQ i.2.2.1/\aC i.2.1=(aC i.2.2.1).take (aC i.2.1).length,keep:=[2,3,4,6],slots:=fun i=>[(7,.ptr 128 0),(8,.int .i64 i.2.2.2)],names:=fun i=>[(208,.live (.cells 58 (bk e9 i.1))),(80,.live (.cells 28 (bk dQ i.2.1))),(128,.live (.cells 28 (bk dQ i.2.2.1)))]})|_=>none)})
theorem zL :
 ∀(a:List Int),(a.length<=maxLen/\ ∀(b:Int),b∈a->0<=b/\b<=255)/\True->True->(0:Int)<=500/\ ∀(b:List Int)(c:Int),(b,c)=(if (a.length:Int)<=500 then a else List.take (Int.toNat (500:Int)) a,(0:Int))->av (b,c)/\ ∀(d:Int)(e:List Int)(f:Int),0<=d/\(d<6∨d=0)/\av (e,f)-> ∀(g:Int×Int×Int×List (List Int)×Int×List (List Int)×List (Int×List Int)×List (Int×Int×List Int)×List (Int×Int×List Int))(h:Int),g=hI (IntKind.wrap .i64 ((1:Int)+d))/\h=fl (IntKind.wrap .i64 ((1:Int)+d))->(∃(i:Int) (j:List Int×Int),∃(k:ao),(0<=i/\i<=40/\av j/\XR k/\ae k<=i/\((List.length (aj k)):Int)<=i)/\false=false/\(0:Int)=i/\e=j.1/\f=j.2/\g.1=k.1/\g.2.1=k.2.1/\g.2.2.1=k.2.2.1/\g.2.2.2.1=k.2.2.2.1/\g.2.2.2.2.1=k.2.2.2.2.1/\g.2.2.2.2.2.1=k.2.2.2.2.2.1/\g.2.2.2.2.2.2.1=k.2.2.2.2.2.2.1/\g.2.2.2.2.2.2.2.1=k.2.2.2.2.2.2.2.1/\g.2.2.2.2.2.2.2.2=k.2.2.2.2.2.2.2.2/\True)/\ ∀(i:Int)(j:List Int×Int)
 (k:ao),0<=i/\i<=40/\av j/\XR k/\ae k<=i/\((List.length (aj k)):Int)<=i->ax (decide (i<40)) ((av j/\ ∀(l:Int)(m:List Int)(n:Int),0<=l/\(l<3∨l=0)/\av (m,n)->ax (decide (l=0)) (av (m,n)/\(0:Int)<=3/\(3:Int)<=1000/\ ∀(o p:List Int)(q:Int),av (p,q)/\(o.length:Int)<=3->XR k/\ ∀(r:Int×Int×Int×List (List Int)×Int×List (List Int)×List (Int×List Int)×List (Int×Int×List Int)×List (Int×Int×List Int))(s:Int),r=hP k o/\s=eY k o-> ∃(t:List Int×Int) (u:ao),∃(v:ao) (w:Int),(av t/\XR v/\w=0/\ae v<=i+(1:Int)/\((List.length (aj v)):Int)<=i+(1:Int)/\List.length (aC u)<=List.length (aC v)/\aQ u<=aQ v/\aC u=List.take (List.length (aC u)) (aC
 v))/\false=false/\i=i/\s=w/\p=t.1/\q=t.2/\k.1=u.1/\k.2.1=u.2.1/\k.2.2.1=u.2.2.1/\k.2.2.2.1=u.2.2.2.1/\k.2.2.2.2.1=u.2.2.2.2.1/\k.2.2.2.2.2.1=u.2.2.2.2.2.1/\k.2.2.2.2.2.2.1=u.2.2.2.2.2.2.1/\k.2.2.2.2.2.2.2.1=u.2.2.2.2.2.2.2.1/\k.2.2.2.2.2.2.2.2=u.2.2.2.2.2.2.2.2/\r.1=v.1/\r.2.1=v.2.1/\r.2.2.1=v.2.2.1/\r.2.2.2.1=v.2.2.2.1/\r.2.2.2.2.1=v.2.2.2.2.1/\r.2.2.2.2.2.1=v.2.2.2.2.2.1/\r.2.2.2.2.2.2.1=v.2.2.2.2.2.2.1/\r.2.2.2.2.2.2.2.1=v.2.2.2.2.2.2.2.1/\r.2.2.2.2.2.2.2.2=v.2.2.2.2.2.2.2.2/\True) (av (m,n)/\(0:Int)<=6/\(6:Int)<=1000/\ ∀(o:List (Bool×Int×Int))(p:List Int)(q:Int),av (p,q)/\(o.length:Int)<=6/\cP o=true->av (p,q)/\(0:Int)<=2/\(2:Int)<=1000/\ ∀(r:List (Bool×Int×Int))(s:List Int)(t:Int),av (s,t)/\(r.length:Int)<=2/\cP r=true->XR k/\ ∀(u:Int×Int×Int×List (List Int)×Int×List (List Int)×List (Int×List Int)×List (Int×Int×List Int)×List (Int×Int×List Int))(v:Int),u=gZ k o
 r/\v=d6 k o r-> ∃(w:List Int×Int) (x:ao),∃(y:ao) (z:Int),(av w/\XR y/\z=0/\ae y<=i+(1:Int)/\((List.length (aj y)):Int)<=i+(1:Int)/\List.length (aC x)<=List.length (aC y)/\aQ x<=aQ y/\aC x=List.take (List.length (aC x)) (aC y))/\false=false/\i=i/\v=z/\s=w.1/\t=w.2/\k.1=x.1/\k.2.1=x.2.1/\k.2.2.1=x.2.2.1/\k.2.2.2.1=x.2.2.2.1/\k.2.2.2.2.1=x.2.2.2.2.1/\k.2.2.2.2.2.1=x.2.2.2.2.2.1/\k.2.2.2.2.2.2.1=x.2.2.2.2.2.2.1/\k.2.2.2.2.2.2.2.1=x.2.2.2.2.2.2.2.1/\k.2.2.2.2.2.2.2.2=x.2.2.2.2.2.2.2.2/\u.1=y.1/\u.2.1=y.2.1/\u.2.2.1=y.2.2.1/\u.2.2.2.1=y.2.2.2.1/\u.2.2.2.2.1=y.2.2.2.2.1/\u.2.2.2.2.2.1=y.2.2.2.2.2.1/\u.2.2.2.2.2.2.1=y.2.2.2.2.2.2.1/\u.2.2.2.2.2.2.2.1=y.2.2.2.2.2.2.2.1/\u.2.2.2.2.2.2.2.2=y.2.2.2.2.2.2.2.2/\True))/\ ∀(l:List Int×Int)(m n:ao)(o:Int),av l/\XR n/\o=0/\ae n<=i+(1:Int)/\((List.length (aj n)):Int)<=i+(1:Int)/\List.length (aC m)<=List.length (aC
 n)/\aQ m<=aQ n/\aC m=List.take (List.length (aC m)) (aC n)-> ∀(p:Bool),p= ! decide (o=0)->((! p)->((! p)->(! p))/\True)/\((! p)->((! p)->(! p))/\True)/\((! p)->((! p)->(! p))/\True)/\((! p)->((! p)->(! p))/\True)/\((! p)->((! p)->(! p))/\((! p)->(! p))/\True)/\(p=false->(! p))/\ ∀(q:Bool),(q=bif p then true else decide ((n.2.2.2.2.2.1.length:Int)<(m.2.2.2.2.2.1.length:Int)))->((! q)->((! q)->(! q))/\True)/\((! q)->((! q)->(! q))/\True)/\((! q)->((! q)->(! q))/\((! q)->(! q))/\True)/\(q=false->(! q))/\ ∀(r:Bool),(r=bif q then true else decide (n.2.2.2.2.1<m.2.2.2.2.1))->((! r)->((! r)->(! r))/\True)/\((! r)->((! r)->(! r))/\True)/\((! r)->((! r)->(! r))/\True)/\((! r)->((! r)->(! r))/\((! r)->(! r))/\True)/\(r=false->(! r))/\ ∀(s:Bool),(s=bif r then true else decide ((n.2.2.2.2.2.1.length:Int)<n.2.2.2.2.1))->((! s)->((! s)->(! s))/\True)/\((! s)->((! s)->(! s))/\True)/\((! s)->((!
 s)->(! s))/\((! s)->(! s))/\True)/\((! s)->((! s)->(! s))/\True)/\(s=false->(! s))/\ ∀(t:Bool),(t=bif s then true else ! decide (n.2.2.2.2.2.1.length<=n.2.2.2.1.length/\n.2.2.2.2.2.1=List.take n.2.2.2.2.2.1.length n.2.2.2.1))->((! t)->((! t)->(! t))/\True)/\((! t)->((! t)->(! t))/\True)/\((! t)->((! t)->(! t))/\((! t)->(! t))/\True)/\((! t)->((! t)->(! t))/\True)/\(t=false->(! t))/\ax (bif t then true else ! decide (m.2.2.2.2.2.1.length<=n.2.2.2.2.2.1.length/\m.2.2.2.2.2.1=List.take m.2.2.2.2.2.1.length n.2.2.2.2.2.1)) (false=true) (∃(u:Int) (v:List Int×Int),∃(w:ao),(0<=u/\u<=40/\av v/\XR w/\ae w<=u/\((List.length (aj w)):Int)<=u)/\Int.toNat ((40:Int) -u)<Int.toNat ((40:Int) -i)/\false=false/\IntKind.wrap .i64
 (i+(1:Int))=u/\l.1=v.1/\l.2=v.2/\n.1=w.1/\n.2.1=w.2.1/\n.2.2.1=w.2.2.1/\n.2.2.2.1=w.2.2.2.1/\n.2.2.2.2.1=w.2.2.2.2.1/\n.2.2.2.2.2.1=w.2.2.2.2.2.1/\n.2.2.2.2.2.2.1=w.2.2.2.2.2.2.1/\n.2.2.2.2.2.2.2.1=w.2.2.2.2.2.2.2.1/\n.2.2.2.2.2.2.2.2=w.2.2.2.2.2.2.2.2/\True)) (true=true):=by
  rintro l - -
  refine⟨by omega,?_⟩
  rintro l2 p2 hl
  have hc:av (l2,p2):=by
   rw[hl];exact⟨Int.le_refl _,by simp⟩
  refine⟨hc,?_⟩
  rintro a l3 p3 ⟨a0,a1,hc3⟩
  rw[au (n:=1+a) (by omega) (by omega)]
  rintro c e ⟨hcc,-⟩
  have hw:fl (1+a)=0:=if_neg (by omega)
  have hcc:c=e6 (1+a):=by rw[hcc];exact if_pos hw
  subst hcc
  refine⟨⟨0,(l3,p3),e6 (1+a),⟨by omega,by omega,hc3,XR.new (by omega) (by omega),Int.le_refl _,Int.le_refl _⟩,(by repeat' first|exact trivial|refine⟨trivial,?_⟩|refine⟨(by with_reducible rfl),?_⟩|refine⟨au (by omega) (by omega),?_⟩|refine⟨rfl,?_⟩)⟩,?_⟩
  rintro k c b ⟨k0,k1,hc,hx,hn,hlg⟩
  refine aM (fun h=>?_) (fun h=>rfl)
  have h:=of_decide_eq_true h
  refine⟨⟨hc,?_⟩,?_⟩
  ·rintro x l4 p4 ⟨-,-,hc4⟩
   refine aM (fun _=>⟨hc4,by omega,by omega,?_⟩) (fun _=>⟨hc4,by omega,by omega,?_⟩)
   ·rintro it l5 p5 ⟨hc5,hi⟩
    refine⟨hx,?_⟩
    rintro d e ⟨hd,he⟩
    have hp:eY b it=0:=if_neg (by omega)
    have hd:d=gn b it:=by rw[hd];exact if_pos hp
    rw[hp] at he
    subst hd he
    refine⟨(l5,p5),b,gn b it,0,⟨hc5,hx.push (by omega) (by omega),rfl,by show ae b<=k+1;omega,?_,Nat.le_refl _,Int.le_refl _,by show aC b=(aC b).take _;rw[List.take_length]⟩,(by repeat' first|exact trivial|refine⟨trivial,?_⟩|refine⟨(by with_reducible rfl),?_⟩|refine⟨au (by omega) (by omega),?_⟩|refine⟨rfl,?_⟩)⟩
    show ((aj b++[it]).length:Int)<=k+1
    rw[List.length_append,List.length_singleton];omega
   ·rintro ds l5 p5 ⟨hc5,hdl,hd⟩
    refine⟨hc5,by omega,by omega,?_⟩
    rintro us l6 p6 ⟨hc6,hul,hu⟩
    refine⟨hx,?_⟩
    rintro d e ⟨hdd,he⟩
    have ht:d6 b ds us=0:=by
     unfold d6
     rw[hd,hu,if_neg (by decide),if_neg (by omega)]
    have hdd:d=aS b ds us:=by rw[hdd];exact if_pos ht
    rw[ht] at he
    subst hdd he
    have hx2:=hx.tick (jj.1 hd) (jj.1 hu)
    obtain⟨-,g1,g2,-⟩:=hx.1.tick (jj.1 hd) (jj.1 hu)
    refine⟨(l6,p6),b,aS b ds us,0,⟨hc6,hx2,rfl,by show ae b+1<=k+1;omega,by show ((aj b).length:Int)<=k+1;omega,g1,g2,?_⟩,(by repeat' first|exact trivial|refine⟨trivial,?_⟩|refine⟨(by with_reducible rfl),?_⟩|refine⟨au (by omega) (by omega),?_⟩|refine⟨rfl,?_⟩)⟩
    have q1:aC b=(aj b).take (aC b).length:=hx.1.rc.g
    have q2:aC (aS b ds us)=(aj b).take (aC (aS b ds us)).length:=hx2.1.rc.g
    conv=>lhs;rw[q1]
    conv=>rhs;arg 2;rw[q2]
    rw[List.take_take,Nat.min_eq_left g1]
  ·rintro c b y e ⟨hc,hy,rfl,hyn,hyl,g1,g2,g3⟩
   have r1:(aC y).length<=(aj y).length:=hy.1.rc.n
   have r2:aC y=(aj y).take (aC y).length:=hy.1.rc.g
   have r3:=hy.1.kn
   rw[decide_eq_false (show ¬ (y.2.2.2.2.2.1.length:Int)<b.2.2.2.2.2.1.length from by show ¬ ((aC y).length:Int)<(aC b).length;omega),
    decide_eq_false (show ¬ y.2.2.2.2.1<b.2.2.2.2.1 from by show ¬ aQ y<aQ b;omega),
    decide_eq_false (show ¬ (y.2.2.2.2.2.1.length:Int)<y.2.2.2.2.1 from by show ¬ ((aC y).length:Int)<aQ y;omega),
    decide_eq_true (show y.2.2.2.2.2.1.length<=y.2.2.2.1.length/\y.2.2.2.2.2.1=List.take y.2.2.2.2.2.1.length y.2.2.2.1 from ⟨r1,r2⟩),
    decide_eq_true (show b.2.2.2.2.2.1.length<=y.2.2.2.2.2.1.length/\b.2.2.2.2.2.1=List.take b.2.2.2.2.2.1.length y.2.2.2.2.2.1 from ⟨g1,g3⟩)]
   (repeat (intro (b_:Bool) (hb_:b_=_);(repeat refine⟨(by first|(simp;done)|(rw[hb_];simp;done)|(rw[hb_];simp;omega)|(rw[hb_];simp;intros;omega)|(rw[hb_];simp +contextual;done)),?_⟩);subst hb_))
   exact⟨k+1,c,y,⟨by omega,by omega,hc,hy,hyn,hyl⟩,by omega,(by repeat' first|exact trivial|refine⟨trivial,?_⟩|refine⟨(by with_reducible rfl),?_⟩|refine⟨au (by omega) (by omega),?_⟩|refine⟨rfl,?_⟩)⟩
theorem ok_law21_ExchangePrefix:aF Try.prog GL 5 qA.spec:=Ct.okH _ Try.func5 (by kernel_rfl) (aD (aD (aD (aD (aD (aD (aD (aD (aD aV wl) (Ct.named xT)) lS) (Ct.named sG)) zB) (Ct.named sN)) xr) (Ct.named yV)) uC) az Af (aT (by kernel_rfl) zL)
end Go.RS
