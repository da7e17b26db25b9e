/- Law14c: the check of networks. -/
import Derived.Test.YtgllbbabppaaaaaDoorSx27
namespace Go.RS
open Go.SX Go.Proofs
set_option maxRecDepth 100000
set_option linter.unusedVariables false
theorem okB_nilC:okB ([],0):=⟨⟨by decide,by decide⟩,fun x hx=>by cases hx⟩
theorem DN.nbC {n:Net} (h:DN n):netB 100 n:=by
  have n7:=h.n7
  have l10:=h.l10
  have h3:=h.h3
  refine ⟨by omega,by omega,by omega,fun x hx => ?_,fun c hc => ?_⟩
  · obtain ⟨i,hi,rfl⟩:=List.mem_iff_getElem.1 hx
    have e:n.1.getD i default=n.1[i]:=by rw [List.getD_eq_getElem?_getD,List.getElem?_eq_getElem hi,Option.getD_some]
    have p:=h.p i hi
    have t:=h.t i hi
    rw [e] at p t
    have hl:=portsF_len i 0 n.2.1
    rw [← p] at hl
    have hl:(n.1[i]).1.length<=2*n.2.1.length:=hl
    have h20:=tab20 t
    exact ⟨by omega,by omega,fun r hr=>by have:=rtOK_len (t.2 r hr);omega⟩
  · rcases (h.c c hc).x with k|⟨q,-,k⟩
    · have k:c.2.2.2.2.1=[]:=k
      rw [k];simp
    · have k:c.2.2.2.2.1=[q.2]:=k
      rw [k];simp
theorem netB_le {k m:Int} {n:Net} (h:netB k n) (hm:k<=m):netB m n:=by
  obtain ⟨h1,h2,h3,h4,h5⟩:=h
  exact ⟨by omega,by omega,by omega,fun x hx=>by obtain ⟨a,b,c⟩:=h4 x hx;exact ⟨by omega,by omega,fun r hr=>by have:=c r hr;omega⟩,fun c hc=>by have:=h5 c hc;omega⟩
theorem netB_next {k:Int} {n:Net} (h:netB k n) (hk:k<=1000):∀ c∈n.2.2,((hRoute c).2.1.length:Int)<=1099511627776:=fun c hc=>by
  have:((hRoute c).2.1.length:Int)<=k:=h.2.2.2.2 c hc
  omega
def fewX (x:Node):Prop:=¬ ((40:Int)<(nPorts x).length∨(70:Int)<(nRoutes x).length)
instance (x:Node):Decidable (fewX x):=by unfold fewX;infer_instance
def fewB (n:Net):Bool := !(decide ((70:Int)<n.1.length)||decide ((130:Int)<n.2.1.length)||decide ((70:Int)<n.2.2.length))&&n.1.all fun x=>decide (fewX x)
def ct_law14_few:Ct:=⟨[.agg cNet],[.val .bool],fun d=>[],fun d=>((fewB d.1,()),())⟩
def an_law14_few:PDs ct_law14_few.ps->Anns:=(fun d=>{loops:=(fun n=>match n with|4=>some (fun S=>{ι:=Int,μ:=fun i=>((S.c cNet 32).1.length-i).toNat,inv:=fun i=>0<=i/\i<=(S.c cNet 32).1.length∧∀ q:Nat,(q:Int)<i->fewX ((S.c cNet 32).1.getD q default),keep:=[1],slots:=fun i=>[(3,.int .i64 i)],keepN:=[32],names:=fun i=>[]})|_=>none)})
def Qcj1 (g:Bool) :=
 (! g)->((! g)->(! g))/\True
def Qcj2 (e:Bool) :=
 (! e)->((! e)->(! e))/\True
theorem vc_law14_few :
 ∀(a:List Node) (b:List Link) (c:List Change),((a.length<=maxLen/\ ∀(d:Node),d∈a->CT.wf cNode d)/\(b.length<=maxLen/\ ∀(d:Link),d∈b->CT.wf cLink d)/\c.length<=maxLen/\ ∀(d:Change),d∈c->CT.wf cChange d)/\True->True-> ∀(d:Bool),d=decide (70<(a.length:Int))->((! d)->((! d)->(! d))/\True)/\((! d)->((! d)->(! d))/\True)/\((! d)->((! d)->(! d))/\True)/\(d=false->(! d))/\ ∀(e:Bool),(e=bif d then true else decide (130<(b.length:Int)))->(Qcj2 e)/\(Qcj2 e)/\(Qcj2 e)/\(e=false->(! e))/\ifP (bif e then true else decide (70<(c.length:Int))) (false=fewB (a,b,c)) ((∃(f:Int),(0<=f/\f<=(a.length:Int)/\ ∀(g:Nat),(↑g:Int)<f->fewX (a.getD g default))/\(0:Int)=f/\a=a/\b=b/\c=c/\True)/\ ∀(f:Int),(0<=f/\f<=(a.length:Int)/\ ∀(g:Nat),(↑g:Int)<f->fewX (a.getD g default))->ifP (decide (f<(a.length:Int))) (0<=f/\f<(a.length:Int)/\ ∀(g:Bool),g=decide (40<((List.length (a.getD f.toNat default).1):Int))->(Qcj1 g)/\((!
 g)->((! g)->(! g))/\((! g)->(! g))/\0<=f/\f<(a.length:Int)/\True)/\(Qcj1 g)/\(Qcj1 g)/\(Qcj1 g)/\(Qcj1 g)/\(g=false->(! g))/\ifP (bif g then true else decide (70<((List.length (a.getD f.toNat default).2.2.2.2.1):Int))) (false=fewB (a,b,c)) (∃(h:Int),(0<=h/\h<=(a.length:Int)/\ ∀(i:Nat),(↑i:Int)<h->fewX (a.getD i default))/\Int.toNat ((a.length:Int) -h)<Int.toNat ((a.length:Int) -f)/\IntKind.wrap .i64 (f+(1:Int))=h/\a=a/\b=b/\c=c/\True)) (true=fewB (a,b,c))):=by
  delta Qcj1 Qcj2
  rintro ns ls hs - -
  intro b1 hb1
  (repeat refine ⟨(by first|(simp;done)|(cases b1 <;> simp)),?_⟩)
  intro b2 hb2
  (repeat refine ⟨(by first|(simp;done)|(cases b2 <;> simp)),?_⟩)
  refine ifP_or (fun h => ?_) (fun h1 h2 => ?_)
  · unfold fewB
    rw [hb2,hb1] at h
    rcases h with h|h
    · by_cases k:(70:Int)<ns.length
      · simp [k]
      · have h:(130:Int)<ls.length:=by simpa [k] using h
        simp [h]
    · have h:=of_decide_eq_true h
      simp [h]
  have n1:¬ (70:Int)<ns.length∧¬ (130:Int)<ls.length:=by
    rw [hb2,hb1] at h1
    by_cases k:(70:Int)<ns.length
    · simp [k] at h1
    · exact ⟨k,by simpa [k] using h1⟩
  have n2:=of_decide_eq_false h2
  refine ⟨⟨0,⟨by omega,by omega,fun q k=>by omega⟩,(by repeat' first|exact trivial|refine ⟨trivial,?_⟩|refine ⟨(by with_reducible rfl),?_⟩|refine ⟨w64 (by omega) (by omega),?_⟩|refine ⟨rfl,?_⟩)⟩,?_⟩
  rintro i ⟨i0,i1,hi⟩
  refine ifP_split (fun k => ?_) (fun k => ?_)
  · have k:=of_decide_eq_true k
    refine ⟨i0,k,?_⟩
    intro b3 hb3
    (repeat refine ⟨(by first|(simp;done)|(simp [i0,k];done)|(cases b3 <;> simp [i0,k] <;> done)|(intros;simp_all;done)),?_⟩)
    have hm:=getD_mem i0 k
    refine ifP_or (fun h => ?_) (fun g1 g2 => ?_)
    · have hn:¬ fewX (ns.getD i.toNat default):=by
        rw [hb3] at h
        unfold fewX
        rcases h with h|h
        · exact fun q=>q (.inl (of_decide_eq_true h))
        · exact fun q=>q (.inr (of_decide_eq_true h))
      symm
      unfold fewB
      rw [Bool.and_eq_false_iff]
      right
      rw [List.all_eq_false]
      exact ⟨_,hm,by simpa using hn⟩
    · rw [hb3] at g1
      refine ⟨i+1,⟨by omega,by omega,fun q hq => ?_⟩,by omega,(by repeat' first|exact trivial|refine ⟨trivial,?_⟩|refine ⟨(by with_reducible rfl),?_⟩|refine ⟨w64 (by omega) (by omega),?_⟩|refine ⟨rfl,?_⟩)⟩
      by_cases c:(q:Int)<i
      · exact hi q c
      · have:q=i.toNat:=by omega
        rw [this]
        rintro (z|z)
        · exact of_decide_eq_false g1 z
        · exact of_decide_eq_false g2 z
  · have k:=of_decide_eq_false k
    symm
    unfold fewB
    rw [Bool.and_eq_true]
    refine ⟨by simp [n1.1,n1.2,n2],?_⟩
    rw [List.all_eq_true]
    intro x hx
    obtain ⟨q,hq,rfl⟩:=List.mem_iff_getElem.1 hx
    have hq:q<ns.length:=hq
    have k:¬ i<(ns.length:Int):=k
    have:=hi q (by omega)
    have e:ns.getD q default=ns[q]:=by rw [List.getD_eq_getElem?_getD,List.getElem?_eq_getElem hq,Option.getD_some]
    have this:fewX (ns.getD q default):=this
    rw [e] at this
    exact decide_eq_true this
theorem ok_law14_few:SpecOK Tryd.prog GL 5 ct_law14_few.spec:=Ct.okH _ Tryd.func5 (by kernel_rfl) noSpecs_ok hmix an_law14_few (hideMp (by kernel_rfl) vc_law14_few)
def ct_NextB:Cn:=⟨[.box 57 cCodes,.val cI],[.val cI],fun d=>[okC d.1],fun d y=>0<=y.1.1/\(y.1.1<d.2.1∨y.1.1=0)/\okB y.2.1,fun d h=>⟨((0,()),(([],0),())),by simp,by simp,okB_nilC⟩⟩
def an_NextB:PDs ct_NextB.ps->Anns:=(fun _=>{})
def Qcj0 (a:List Int) (b:Int) :=
 IntKind.wrap .i64 (IntKind.wrap .i64 ((256:Int)*IntKind.wrap .i64 (a.getD b.toNat default))+(next1 (a,IntKind.wrap .i64 (b+(1:Int))) (256:Int)).1)
theorem vc_NextB :
 ∀(a:List Int) (b c:Int),((a.length<=maxLen/\ ∀(d:Int),d∈a->0<=d/\d<=255)/\R64 b)/\R64 c/\True->0<=b/\b<=(a.length:Int)-> ∀(d:Bool),d=decide ((a.length:Int)<=b)->((! d)->((! d)->(! d))/\True)/\(d=false->(! d))/\ifP (bif d then true else decide (c<1)) ((0:Int)<=0/\(0<c∨(0:Int)=0)/\okB (a,b)) (0<=b/\b<(a.length:Int)/\ifP (decide (256<c)) (okC (a,IntKind.wrap .i64 (b+(1:Int)))/\(256:Int)<=256/\c≠(0:Int)/\0<=Int.tmod (Qcj0 a b) c/\(Int.tmod (Qcj0 a b) c<c∨Int.tmod (Qcj0 a b) c=0)/\okB (next1 (a,IntKind.wrap .i64 (b+(1:Int))) (256:Int)).2) (c≠(0:Int)/\0<=Int.tmod (IntKind.wrap .i64 (a.getD b.toNat default)) c/\(Int.tmod (IntKind.wrap .i64 (a.getD b.toNat default)) c<c∨Int.tmod (IntKind.wrap .i64 (a.getD b.toNat default)) c=0)/\okB (a,IntKind.wrap .i64 (b+(1:Int))))):=by
  delta Qcj0
  rintro l p n ⟨⟨⟨hl,hw⟩,h0,h1⟩,⟨h2,h3⟩,-⟩ ⟨hc1,hc2⟩
  simp only [maxLen] at hl hc1 hc2
  (repeat (intro (b_:Bool) (hb_:b_=_);(repeat refine ⟨(by first|(simp;done)|(rw [hb_];simp;done)|(rw [hb_];simp;omega)|(rw [hb_];simp;intros;omega)|(rw [hb_];simp +contextual;done)),?_⟩);subst hb_))
  refine ifP_or (fun hb => ?_) (fun hb1 hb2 => ?_)
  · exact ⟨by omega,by simp,⟨hc1,hc2⟩,hw⟩
  · have hb1:=of_decide_eq_false hb1
    have hb2:=of_decide_eq_false hb2
    obtain ⟨hm0,hm1⟩:=hw _ (getD_mem hc1 (show p<l.length by omega))
    have hok:okB (l,p+1):=⟨⟨by show 0<=p+1;omega,by show p+1<=l.length;omega⟩,hw⟩
    rw [w64 (n:=p+1) (by omega) (by omega),w64 (n:=l.getD p.toNat default) (by omega) (by omega)]
    refine ⟨hc1,by omega,ifP_split (fun k => ?_) (fun k=>⟨by omega,?_⟩)⟩
    · have k:=of_decide_eq_true k
      have hr:=next1_ok hok 256
      refine ⟨hok.at',by omega,by omega,?_⟩
      rw [w64 (n:=256*_) (by omega) (by omega),w64 (by omega) (by omega)]
      exact ⟨tmod_lo (by omega),.inl (tmod_hi (by omega) (by omega)),hr.1⟩
    · exact ⟨tmod_lo hm0,.inl (tmod_hi hm0 (by omega)),hok⟩
theorem ok_NextB:SpecOK Tryd.prog GL 8 ct_NextB.spec:=Cn.okH _ Tryd.func8 (by kernel_rfl) (withSpec_ok noSpecs_ok ok_Next1x) hmix an_NextB (hideMp (by kernel_rfl) vc_NextB)
def lp14K:LPs:=[(false,.sl cU8),(true,cNet)]
theorem pre14K (d:PDs (lawPs lp14K)) (h:leL 1048576 lp14K d):conj [∀ c∈d.2.1.2.2,((hRoute c).2.1.length:Int)<=1099511627776]:=by
  refine ⟨fun c hc => ?_,trivial⟩
  have k:=h.2.1.2.2.2 c hc
  have:(hRoute c).2.1.length<=1048576:=k.2.2.2.2.1.1
  omega
def ct_law14_TopologyChecks:Ct:=lawCtP lp14K fun d=>[∀ c∈d.2.1.2.2,((hRoute c).2.1.length:Int)<=1099511627776]
def an_law14_TopologyChecks:PDs ct_law14_TopologyChecks.ps->Anns:=(fun _=>{})
theorem vc_law14_TopologyChecks :
 ∀(a:List Int) (b:List Node) (c:List Link) (d:List Change),(a.length<=maxLen/\ ∀(e:Int),e∈a->0<=e/\e<=255)/\((b.length<=maxLen/\ ∀(e:Node),e∈b->CT.wf cNode e)/\(c.length<=maxLen/\ ∀(e:Link),e∈c->CT.wf cLink e)/\d.length<=maxLen/\ ∀(e:Change),e∈d->CT.wf cChange e)/\True->(∀(e:Change),e∈d->((List.length (hRoute e).2.1):Int)<=1099511627776)-> ∀(e:Bool),e= ! true->(Qcj2 e)/\(Qcj2 e)/\(e=false->(! e))/\ifP (bif e then true else ! fewB (b,c,d)) ((! fewB (b,c,d))=true) ((0:Int)<=400/\ ∀(f:List Int) (g:Int),(f,g)=(if (a.length:Int)<=400 then a else List.take (Int.toNat (400:Int)) a,(0:Int))->okC (f,g)/\ ∀(h:Int) (i:List Int) (j:Int),0<=h/\(h<4∨h=0)/\okB (i,j)->okC (i,j)/\ ∀(k:List Node) (l:List Link) (m:List Change) (n:List Int) (o:Int),(k,l,m)=netV (decide (h=0)) (i,j)/\(n,o)=netC (decide (h=0)) (i,j)->okC (n,o)/\netB (1000:Int) (k,l,m)/\ ∀(p:List Node) (q:List Link) (r:List Change) (s:List Int)
 (t:Int),(okC (s,t)/\ ∀(u:Int),1<=u->netB u (k,l,m)->netB (u+(1:Int)) (p,q,r))->okC (s,t)/\netB (1000:Int) (p,q,r)/\ ∀(u:List Node) (v:List Link) (w:List Change) (x:List Int) (y:Int),(okC (x,y)/\ ∀(z:Int),1<=z->netB z (p,q,r)->netB (z+(1:Int)) (u,v,w))->(∀(z:Change),z∈m->((List.length (hRoute z).2.1):Int)<=1099511627776)/\ ∀(z:Bool),z=decide (checkV (k,l,m)=0)->(z->(z->z)/\(∀(A:Change),A∈m->((List.length (hRoute A).2.1):Int)<=1099511627776)/\True)/\(z->(z->z)/\True)/\(z->z)/\ ∀(A:Bool),(A=bif z then decide (checkV (k,l,m)=0) else false)->(A->(A->A)/\(∀(B:Change),B∈r->((List.length (hRoute B).2.1):Int)<=1099511627776)/\True)/\(A->(A->A)/\(∀(B:Change),B∈r->((List.length (hRoute B).2.1):Int)<=1099511627776)/\True)/\(A->(A->A)/\(A->A)/\True)/\(A->A)/\ ∀(B:Bool),(B=bif A then decide (checkV (p,q,r)=checkV (p,q,r)) else false)->(B->(B->B)/\(∀(C:Change),C∈w->((List.length (hRoute
 C).2.1):Int)<=1099511627776)/\True)/\(B->(B->B)/\(∀(C:Change),C∈w->((List.length (hRoute C).2.1):Int)<=1099511627776)/\True)/\(B->(B->B)/\(B->B)/\True)/\(B->B)/\ ∀(C:Bool),(C=bif B then decide (checkV (u,v,w)=checkV (u,v,w)) else false)->(C->(C->C)/\(∀(D:Change),D∈d->((List.length (hRoute D).2.1):Int)<=1099511627776)/\True)/\(C->(C->C)/\(∀(D:Change),D∈d->((List.length (hRoute D).2.1):Int)<=1099511627776)/\True)/\(C->(C->C)/\(C->C)/\True)/\(C->C)/\(bif C then decide (checkV (b,c,d)=checkV (b,c,d)) else false)=true):=by
  delta Qcj2
  rintro cl ns ls hs ⟨⟨-,hcw⟩,-⟩ hraw
  intro b1 hb1
  (repeat refine ⟨(by first|(simp;done)|(cases b1 <;> simp)),?_⟩)
  refine ifP_split (fun h => ?_) (fun h=>⟨by omega,?_⟩)
  · rw [hb1] at h
    simpa using h
  rintro l0 p0 hc0
  have hB0:okB (l0,p0):=by rw [hc0];exact okB_new hcw
  refine ⟨hB0.at',?_⟩
  rintro w l1 p1 ⟨-,-,hB⟩
  refine ⟨hB.at',?_⟩
  rintro n1 k1 h1 l2 p2 ⟨hnet,hcod⟩
  have hdn:=net_dn hB (decide (w=0))
  have hports:=fun {i:Nat}=>net_ports hB (decide (w=0)) (i:=i)
  have hcB:=net_codes hB (decide (w=0))
  rw [← hnet] at hdn hports
  rw [← hcod] at hcB
  have nb:=hdn.nbC
  have hck:checkV (n1,k1,h1)=0:=hdn.right fun i hi=>hports hi
  refine ⟨hcB.1,netB_le nb (by omega),?_⟩
  rintro n2 k2 h2 l3 p3 ⟨hc3,ho⟩
  have nb2:=ho 100 (by omega) nb
  refine ⟨hc3,netB_le nb2 (by omega),?_⟩
  rintro n3 k3 h3 l4 p4 ⟨hc4,ho2⟩
  have nb3:=ho2 (100+1) (by omega) nb2
  have q1:=netB_next nb (by omega)
  have q2:=netB_next nb2 (by omega)
  have q3:=netB_next nb3 (by omega)
  refine ⟨q1,?_⟩
  intro b2 hb2
  have f2:b2=true:=by rw [hb2];simp [hck]
  subst f2;clear hb2
  (repeat refine ⟨by first|(simp;done)|exact fun _=>⟨q1,trivial⟩|(intros;simp_all;done),?_⟩)
  intro b3 hb3
  have f3:b3=true:=by rw [hb3];simp [hck]
  subst f3;clear hb3
  (repeat refine ⟨by first|(simp;done)|exact fun _=>⟨q2,trivial⟩|(intros;simp_all;done),?_⟩)
  intro b4 hb4
  have f4:b4=true:=by rw [hb4];simp
  subst f4;clear hb4
  (repeat refine ⟨by first|(simp;done)|exact fun _=>⟨q3,trivial⟩|(intros;simp_all;done),?_⟩)
  intro b5 hb5
  have f5:b5=true:=by rw [hb5];simp
  subst f5;clear hb5
  (repeat refine ⟨by first|(simp;done)|exact fun _=>⟨hraw,trivial⟩|(intros;simp_all;done),?_⟩)
  simp
theorem ok_law14_TopologyChecks:SpecOK Tryd.prog GL 3 ct_law14_TopologyChecks.spec:=Ct.okH _ Tryd.func3 (by kernel_rfl) (withSpec_ok (withSpec_ok (withSpec_ok (withSpec_ok (withSpec_ok (withSpec_ok (withSpec_ok (withSpec_ok noSpecs_ok ok_law14_awake) ok_law14_few) (Ct.named ok_draw_New)) ok_NextB) (Ct.named ok_draw_Codes_Net)) ok_draw_Codes_OddNet) ok_topology_Check) ok_ref14_Check) hmix an_law14_TopologyChecks (hideMp (by kernel_rfl) vc_law14_TopologyChecks)
end Go.RS
