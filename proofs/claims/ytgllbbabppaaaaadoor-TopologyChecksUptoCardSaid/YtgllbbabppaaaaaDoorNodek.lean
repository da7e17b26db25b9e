/- Fib: forwarding tables. -/
import Derived.Test.YtgllbbabppaaaaaDoorReply
namespace Go.RS
open Go.SX Go.Proofs
set_option maxRecDepth 100000
set_option linter.unusedVariables false
abbrev cRt:CT := .pair cPfx (.pair (.sl cI) cI)
abbrev Rt:Type:=Pfx×List Int×Int
def plt (p q:Pfx):Prop:=p.1<q.1∨p.1=q.1/\p.2<q.2
instance (p q:Pfx):Decidable (plt p q):=by unfold plt;infer_instance
theorem icmp_lt {a b:Int} (h:a<b):icmp a b = -1:=by unfold icmp;rw [if_pos h]
theorem icmp_gt {a b:Int} (h:b<a):icmp a b=1:=by unfold icmp;rw [if_neg (by omega),if_pos h]
theorem icmp_eq (a:Int):icmp a a=0:=by unfold icmp;simp
theorem pcmp_cases (p q:Pfx):(plt p q/\pcmp p q = -1)∨(p=q/\pcmp p q=0)∨(plt q p/\pcmp p q=1):=by
  obtain ⟨a,b⟩:=p;obtain ⟨c,e⟩:=q
  unfold pcmp plt
  rcases Int.lt_trichotomy a c with h|rfl|h
  · left;simp [icmp_lt h,h]
  · rcases Int.lt_trichotomy b e with h|rfl|h
    · left;simp [icmp_eq,icmp_lt h,h]
    · right;left;simp [icmp_eq]
    · right;right;simp [icmp_eq,icmp_gt h,h]
  · right;right;simp [icmp_gt h,h]
theorem plt_irrefl (p:Pfx):¬ plt p p:=by unfold plt;omega
theorem plt_trans {p q r:Pfx} (h:plt p q) (k:plt q r):plt p r:=by unfold plt at *;omega
theorem plt_asymm {p q:Pfx} (h:plt p q):¬ plt q p:=by unfold plt at *;omega
theorem plt_total {p q:Pfx} (h:¬ plt p q):p=q∨plt q p:=by rcases pcmp_cases p q with ⟨k,-⟩|⟨k,-⟩|⟨k,-⟩ <;> simp_all
theorem plt_of_not {p q r:Pfx} (h:¬ plt p q) (k:plt p r):¬ plt r q:=fun e=>h (plt_trans k e)
theorem pcmp_neg {p q:Pfx}:pcmp p q<0↔plt p q:=by
  rcases pcmp_cases p q with ⟨h,e⟩|⟨rfl,e⟩|⟨h,e⟩ <;> rw [e]
  · simp [h]
  · simp [plt_irrefl]
  · simp [plt_asymm h]
theorem pcmp_zero {p q:Pfx}:pcmp p q=0↔p=q:=by
  rcases pcmp_cases p q with ⟨h,e⟩|⟨h,e⟩|⟨h,e⟩ <;> rw [e]
  · simp;rintro rfl;exact plt_irrefl _ h
  · simp [h]
  · simp;rintro rfl;exact plt_irrefl _ h
theorem pcmp_nonneg {p q:Pfx}:0<=pcmp p q↔¬ plt p q:=by rw [← pcmp_neg];omega
def sortedR (l:List Rt):Prop:=l.Pairwise fun a b=>plt a.1 b.1
theorem place_lo {l:List Rt} {p:Pfx} {h:Int} (hs:sortedR l) (h0:0<=h) (h1:h<l.length) (hl:plt (l.getD h.toNat default).1 p):∀ y∈l.take (h+1).toNat,plt y.1 p:=by
  intro y hy
  have hj:h.toNat<l.length:=by omega
  rcases mem_take_succ h0 h1 hy with hy|rfl
  · obtain ⟨k,hk,rfl⟩:=List.mem_iff_getElem.1 hy
    rw [List.getD_eq_getElem?_getD,List.getElem?_eq_getElem hj,Option.getD_some] at hl
    simp at hk ⊢
    exact plt_trans (List.pairwise_iff_getElem.1 hs k h.toNat (by omega) hj (by omega)) hl
  · exact hl
theorem place_hi {l:List Rt} {p:Pfx} {h:Int} (hs:sortedR l) (h0:0<=h) (h1:h<l.length) (hl:¬ plt (l.getD h.toNat default).1 p):∀ y∈l.drop h.toNat,¬ plt y.1 p:=by
  intro y hy
  have hj:h.toNat<l.length:=by omega
  rw [List.getD_eq_getElem?_getD,List.getElem?_eq_getElem hj,Option.getD_some] at hl
  rw [List.drop_eq_getElem_cons hj] at hy
  rcases List.mem_cons.1 hy with rfl|hy
  · exact hl
  · have hp:((l.drop h.toNat)).Pairwise fun a b=>plt a.1 b.1:=List.Pairwise.drop hs
    rw [List.drop_eq_getElem_cons hj] at hp
    exact plt_of_not hl (List.rel_of_pairwise_cons hp hy)
def ct_slices_Clone_263e:Ct:=⟨[.val (.sl cI)],[.own 3 cI],fun d=>[(d.1.length:Int)<=1099511627776],fun d=>((d.1,()),())⟩
def an_slices_Clone_263e:PDs ct_slices_Clone_263e.ps->Anns:=(fun _=>{})
def Qbo20 :=
 (140737488355328:Nat)
theorem vc_slices_Clone_263e :
 ∀(a:List Int),(a.length<=maxLen/\ ∀(b:Int),b∈a->R64 b)/\True->(a.length:Int)<=1099511627776-> ∀(b:Bool),(b=true->a.length=(0:Nat))->ifP b (([]:List Int)=a) (((0:Nat)+a.length)*(8:Nat)<=(Qbo20)/\a=a):=by
  delta Qbo20
  rintro x ⟨⟨hl,-⟩,-⟩ h b hb
  refine ifP_split (fun h1 => ?_) (fun h1=>⟨by simp;omega,by simp⟩)
  have:=hb h1
  exact (List.eq_nil_of_length_eq_zero this).symm
theorem ok_slices_Clone_263e:SpecOK Tryd.prog GL 94 ct_slices_Clone_263e.spec:=Ct.okH _ Tryd.func94 (by kernel_rfl) noSpecs_ok hmix an_slices_Clone_263e (hideMp (by kernel_rfl) vc_slices_Clone_263e)
def ct_fib_copied:Ct:=⟨[.agg cRt],[.agg cRt],fun d=>[(d.1.2.1.length:Int)<=1099511627776],fun d=>((d.1,()),())⟩
def an_fib_copied:PDs ct_fib_copied.ps->Anns:=(fun _=>{})
theorem vc_fib_copied :
 ∀(a b:Int) (c:List Int) (d:Int),(((0<=a/\a<=4294967295)/\R64 b)/\(c.length<=maxLen/\ ∀(e:Int),e∈c->R64 e)/\R64 d)/\True->(c.length:Int)<=1099511627776->(c.length:Int)<=1099511627776/\((a,b),c,d)=((a,b),c,d):=by
  rintro a b c e-h
  exact ⟨h,rfl⟩
theorem ok_fib_copied:SpecOK Tryd.prog GL 89 ct_fib_copied.spec:=Ct.okH _ Tryd.func89 (by kernel_rfl) (withSpec_ok noSpecs_ok ok_slices_Clone_263e) hmix an_fib_copied (hideMp (by kernel_rfl) vc_fib_copied)
def ct_ref09_copied:Ct:=⟨[.agg cRt],[.agg cRt],fun d=>[(d.1.2.1.length:Int)<=1099511627776],fun d=>((d.1,()),())⟩
def an_ref09_copied:PDs ct_ref09_copied.ps->Anns:=(fun _=>{})
theorem vc_ref09_copied :
 ∀(a b:Int) (c:List Int) (d:Int),(((0<=a/\a<=4294967295)/\R64 b)/\(c.length<=maxLen/\ ∀(e:Int),e∈c->R64 e)/\R64 d)/\True->(c.length:Int)<=1099511627776->c.length*(8:Nat)<=(Qbo20)/\((a,b),c,d)=((a,b),c,d):=by
  delta Qbo20
  rintro a b c e-h
  exact ⟨by omega,rfl⟩
theorem ok_ref09_copied:SpecOK Tryd.prog GL 38 ct_ref09_copied.spec:=Ct.okH _ Tryd.func38 (by kernel_rfl) noSpecs_ok hmix an_ref09_copied (hideMp (by kernel_rfl) vc_ref09_copied)
def ct_fib_place_1:Ct:=⟨[.agg cRt,.agg cPfx],[.val cI],fun _=>[],fun d=>((pcmp d.1.1 d.2.1,()),())⟩
def an_fib_place_1:PDs ct_fib_place_1.ps->Anns:=(fun _=>{})
theorem vc_fib_place_1 :
 ∀(a b:Int) (c:List Int) (d e f:Int),(((0<=a/\a<=4294967295)/\R64 b)/\(c.length<=maxLen/\ ∀(g:Int),g∈c->R64 g)/\R64 d)/\((0<=e/\e<=4294967295)/\R64 f)/\True->True->pcmp (a,b) (e,f)=pcmp (a,b) (e,f):=by
  intros;trivial
theorem ok_fib_place_1:SpecOK Tryd.prog GL 87 ct_fib_place_1.spec:=Ct.okH _ Tryd.func87 (by kernel_rfl) (withSpec_ok noSpecs_ok ok_address_Compare) hmix an_fib_place_1 (hideMp (by kernel_rfl) vc_fib_place_1)
theorem half {i j:Int} (h0:0<=i) (h1:i<=j) (h2:j<=9223372036854775807):IntKind.wrap IntKind.i64 (shrI IntKind.u64 (IntKind.wrap IntKind.u64 (IntKind.wrap IntKind.i64 (i+j))) (1:Int))=(i+j)/2:=by
  have hw:IntKind.wrap IntKind.u64 (IntKind.wrap IntKind.i64 (i+j))=i+j:=by
    rw [IntKind.wrap_i64,IntKind.wrap_u64];omega
  rw [hw]
  have:shrI IntKind.u64 (i+j) 1=(i+j)/2:=by
    unfold shrI
    rw [Int.fdiv_eq_ediv_of_nonneg _ (by decide)]
    rfl
  rw [this,w64 (by omega) (by omega)]
theorem place_ex (l:List Rt) (p:Pfx):∃ k:Int,0<=k/\k<=l.length/\(sortedR l->(∀ z∈l.take k.toNat,plt z.1 p)∧∀ z∈l.drop k.toNat,¬ plt z.1 p):=by
  induction l with
  | nil=>exact ⟨0,by simp,by simp,by simp⟩
  | cons a l ih =>
    obtain ⟨k,h0,h1,h2⟩:=ih
    by_cases ha:plt a.1 p
    · refine ⟨k+1,by omega,by simp;omega,fun hs => ?_⟩
      obtain ⟨q1,q2⟩:=h2 (List.pairwise_cons.1 hs).2
      have e:(k+1).toNat=k.toNat+1:=by omega
      rw [e]
      refine ⟨fun z hz => ?_,fun z hz=>q2 z (by simpa using hz)⟩
      rw [List.take_succ_cons] at hz
      rcases List.mem_cons.1 hz with rfl|hz
      · exact ha
      · exact q1 z hz
    · refine ⟨0,by omega,by simp only [List.length_cons];omega,fun hs=>⟨by simp,fun z hz => ?_⟩⟩
      rcases List.mem_cons.1 (show z∈a::l from hz) with rfl|hz
      · exact ha
      · exact plt_of_not ha ((List.pairwise_cons.1 hs).1 z hz)
def ct_slices_BinarySearchFunc_0367:Cn:=⟨[.val (.sl cRt),.agg cPfx,.fn 87 0],[.val cI,.val .bool],fun _=>[],fun d y=>0<=y.1.1/\y.1.1<=d.1.length/\(sortedR d.1->(∀ z∈d.1.take y.1.1.toNat,plt z.1 d.2.1)∧∀ z∈d.1.drop y.1.1.toNat,¬ plt z.1 d.2.1)/\y.1.2.1=decide (y.1.1<d.1.length/\(d.1.getD y.1.1.toNat default).1=d.2.1),fun d h=>let ⟨k,h0,h1,h2⟩:=place_ex d.1 d.2.1;⟨((k,decide (k<d.1.length/\(d.1.getD k.toNat default).1=d.2.1),()),()),h0,h1,h2,rfl⟩⟩
def an_slices_BinarySearchFunc_0367:PDs ct_slices_BinarySearchFunc_0367.ps->Anns:=(fun d=>{loops:=(fun n=>match n with|3=>some (fun S=>{ι:=Int×Int,qn:=⟨fun k_=>∀ (i:Int) (j:Int),k_ (i,j),fun k_ h_ i=>h_ i.1 i.2,fun k_=>∃ (i:Int) (j:Int),k_ (i,j),fun k_ ⟨i,j,h_⟩=>⟨_,h_⟩⟩,μ:=fun i=>(i.2-i.1).toNat,inv:=fun i=>0<=i.1/\i.1<=i.2/\i.2<=d.1.length/\(sortedR d.1->(∀ z∈d.1.take i.1.toNat,plt z.1 d.2.1)∧∀ z∈d.1.drop i.2.toNat,¬ plt z.1 d.2.1),keep:=[0,2,4,8],slots:=fun i=>[(9,.int .i64 i.1),(10,.int .i64 i.2)],keepN:=[80],names:=fun i=>[]})|_=>none)})
def Qbo2 (a:List Route) :=
 (a.length:Int)
def Qbo3 (a:List Route) :=
 a.length<=maxLen/\ ∀(d:Route),d∈a->((0<=d.1.1/\d.1.1<=4294967295)/\R64 d.1.2)/\(d.2.1.length<=maxLen/\ ∀(e:Int),e∈d.2.1->R64 e)/\R64 d.2.2
def Qbo5 (d e:Int) :=
 shrI IntKind.u64 (IntKind.wrap .u64 (IntKind.wrap .i64 (d+e))) (1:Int)
def Qbo15 (a:List Route) (b c f g:Int) :=
 0<=f/\f<=g/\g<=(Qbo2 a)/\(sortedR a->(∀(h:Route),h∈List.take f.toNat a->plt h.1 (b,c))/\ ∀(h:Route),h∈List.drop g.toNat a-> ¬plt h.1 (b,c))
def Qbo19 (a:List Route) (b c d e:Int) :=
 d<=e/\e<=(Qbo2 a)/\(sortedR a->(∀(f:Route),f∈List.take d.toNat a->plt f.1 (b,c))/\ ∀(f:Route),f∈List.drop e.toNat a-> ¬plt f.1 (b,c))
theorem vc_slices_BinarySearchFunc_0367 :
 ∀(a:List Route) (b c:Int),(Qbo3 a)/\((0<=b/\b<=4294967295)/\R64 c)/\True/\True->True->(∃(d:Int) (e:Int),(0<=d/\(Qbo19 a b c d e))/\a=a/\(Qbo2 a)=(Qbo2 a)/\(0:Int)=d/\(Qbo2 a)=e/\b=b/\c=c/\True)/\ ∀(d e:Int),0<=d/\(Qbo19 a b c d e)->ifP (decide (d<e)) ((0:Int)<=1/\0<=IntKind.wrap .i64 (Qbo5 d e)/\IntKind.wrap .i64 (Qbo5 d e)<(Qbo2 a)/\ifP (decide (pcmp (a.getD (Int.toNat (IntKind.wrap .i64 (Qbo5 d e))) default).1 (b,c)<0)) (∃(f:Int) (g:Int),(Qbo15 a b c f g)/\Int.toNat (g -f)<Int.toNat (e -d)/\a=a/\(Qbo2 a)=(Qbo2 a)/\IntKind.wrap .i64 (IntKind.wrap .i64 (Qbo5 d e)+(1:Int))=f/\e=g/\b=b/\c=c/\True) (∃(f:Int) (g:Int),(Qbo15 a b c f g)/\Int.toNat (g -f)<Int.toNat (e -d)/\a=a/\(Qbo2 a)=(Qbo2 a)/\d=f/\IntKind.wrap .i64 (Qbo5 d e)=g/\b=b/\c=c/\True)) (∀(f:Bool),f=decide (d<(Qbo2 a))->(f->(f->f)/\(f->f)/\0<=d/\d<(Qbo2
 a)/\True)/\(f->(f->f)/\True)/\(f->(f->f)/\(f->f)/\(f->f)/\True)/\(f->(f->f)/\True)/\(f->f)/\0<=d/\d<=(Qbo2 a)/\(sortedR a->(∀(g:Route),g∈List.take d.toNat a->plt g.1 (b,c))/\ ∀(g:Route),g∈List.drop d.toNat a-> ¬plt g.1 (b,c))/\(bif f then decide (pcmp (a.getD d.toNat default).1 (b,c)=0) else false)=decide (d<(Qbo2 a)/\(a.getD d.toNat default).1=(b,c))):=by
  delta Qbo2 Qbo3 Qbo5 Qbo15 Qbo19
  rintro x p q ⟨⟨hl,-⟩,-⟩ -
  simp only [maxLen] at hl
  refine ⟨⟨0,x.length,⟨by omega,by omega,by omega,fun _=>by simp⟩,(by repeat' first|exact trivial|refine ⟨trivial,?_⟩|refine ⟨(by with_reducible rfl),?_⟩|refine ⟨w64 (by omega) (by omega),?_⟩|refine ⟨rfl,?_⟩)⟩,?_⟩
  rintro i j ⟨h0,h1,h2,h3⟩
  refine ifP_split (fun hb => ?_) (fun hb => ?_)
  · have hb:=of_decide_eq_true hb
    rw [half h0 h1 (by omega)]
    refine ⟨by omega,by omega,by omega,ifP_split (fun hc => ?_) (fun hc => ?_)⟩
    · have hc:=pcmp_neg.1 (of_decide_eq_true hc)
      rw [w64 (by omega) (by omega)]
      refine ⟨(i+j)/2+1,j,⟨by omega,by omega,h2,fun hs=>⟨place_lo hs (by omega) (by omega) hc,(h3 hs).2⟩⟩,by omega,(by repeat' first|exact trivial|refine ⟨trivial,?_⟩|refine ⟨(by with_reducible rfl),?_⟩|refine ⟨w64 (by omega) (by omega),?_⟩|refine ⟨rfl,?_⟩)⟩
    · have hc:¬ plt _ _:=fun h=>absurd (pcmp_neg.2 h) (of_decide_eq_false hc)
      refine ⟨i,(i+j)/2,⟨h0,by omega,by omega,fun hs=>⟨(h3 hs).1,place_hi hs (by omega) (by omega) hc⟩⟩,by omega,(by repeat' first|exact trivial|refine ⟨trivial,?_⟩|refine ⟨(by with_reducible rfl),?_⟩|refine ⟨w64 (by omega) (by omega),?_⟩|refine ⟨rfl,?_⟩)⟩
  · have hb:=of_decide_eq_false hb
    have:i=j:=by omega
    subst this
    (repeat (intro (b_:Bool) (hb_:b_=_);(repeat refine ⟨(by first|(simp;done)|(rw [hb_];simp;done)|(rw [hb_];simp;omega)|(rw [hb_];simp;intros;omega)|(rw [hb_];simp +contextual;done)),?_⟩);subst hb_))
    refine ⟨h0,h2,h3,?_⟩
    rw [Bool.cond_eq_ite]
    by_cases h:i<x.length <;> simp [h,pcmp_zero]
theorem ok_slices_BinarySearchFunc_0367:SpecOK Tryd.prog GL 86 ct_slices_BinarySearchFunc_0367.spec:=Cn.okH _ Tryd.func86 (by kernel_rfl) (withSpec_ok noSpecs_ok ok_fib_place_1) hmix an_slices_BinarySearchFunc_0367 (hideMp (by kernel_rfl) vc_slices_BinarySearchFunc_0367)
def ct_slices_Grow_fa6c:Ct:=⟨[.nils,.val cI],[.own 49 cRt],fun d=>[0<=d.2.1,d.2.1<=1073741824],fun d=>(([],()),())⟩
def an_slices_Grow_fa6c:PDs ct_slices_Grow_fa6c.ps->Anns:=(fun _=>{})
def Qbo9 (a:Int) :=
 a -IntKind.wrap .i64 ((0:Int) -(0:Int))
def Qbo17 (a:Int) :=
 List.replicate (Int.toNat (IntKind.wrap .i64 (Qbo9 a))) (((0:Int),(0:Int)),([]:List Int),(0:Int))
theorem vc_slices_Grow_fa6c :
 ∀(a:Int),True/\R64 a/\True->0<=a/\a<=1073741824->ifP (decide (a<0)) False (ifP (decide (0<IntKind.wrap .i64 (Qbo9 a))) ((0:Int)=0/\(0:Int)=0/\0<=IntKind.wrap .i64 (Qbo9 a)/\IntKind.wrap .i64 (Qbo9 a)*(↑(48:Nat):Int)<=140737488355328/\(0:Int)<=0/\0<=((List.length (Qbo17 a)):Int)/\List.take (Int.toNat (0:Int)) (Qbo17 a)=([]:List Route)) (([]:List Route)=([]:List Route))):=by
  delta Qbo9 Qbo17
  rintro x-⟨h0,h1⟩
  rw [w64 (n:=(0:Int)-0) (by omega) (by omega),w64 (by omega) (by omega)]
  refine ifP_split (fun hb => ?_) (fun hb=>ifP_split (fun hb => ?_) (fun hb=>rfl))
  · have:=of_decide_eq_true hb;omega
  · refine ⟨rfl,rfl,by omega,by omega,by omega,by simp only [List.length_replicate];omega,by simp⟩
theorem ok_slices_Grow_fa6c:SpecOK Tryd.prog GL 93 ct_slices_Grow_fa6c.spec:=Ct.okH _ Tryd.func93 (by kernel_rfl) (withOwn_ok noSpecs_ok (d:=25)) hmix an_slices_Grow_fa6c (hideMp (by kernel_rfl) vc_slices_Grow_fa6c)
theorem take_flat {α:Type} {l:List (List α)} {j:Int} (h0:0<=j) (h1:j<l.length):(l.take (j+1).toNat).flatten=(l.take j.toNat).flatten++l.getD j.toNat default:=by
  have hj:j.toNat<l.length:=by omega
  have e:(j+1).toNat=j.toNat+1:=by omega
  rw [e,List.take_succ_eq_append_getElem hj,List.flatten_append,List.getD_eq_getElem?_getD,List.getElem?_eq_getElem hj,Option.getD_some]
  simp
theorem take_flat_le {α:Type} (l:List (List α)) (k:Nat):(l.take k).flatten.length<=l.flatten.length:=by
  conv=>rhs;rw [← List.take_append_drop k l,List.flatten_append,List.length_append]
  omega
def ct_slices_Concat_fa6c:Ct:=⟨[.val (.sl (.sl cRt))],[.own 49 cRt],fun d=>[(d.1.flatten.length:Int)<=1073741824],fun d=>((d.1.flatten,()),())⟩
def an_slices_Concat_fa6c:PDs ct_slices_Concat_fa6c.ps->Anns:=(fun d=>{loops:=(fun n=>match n with|3=>some (fun S=>{ι:=Int×Int,qn:=⟨fun k_=>∀ (j:Int) (s:Int),k_ (j,s),fun k_ h_ i=>h_ i.1 i.2,fun k_=>∃ (j:Int) (s:Int),k_ (j,s),fun k_ ⟨j,s,h_⟩=>⟨_,h_⟩⟩,μ:=fun i=>(d.1.length-i.1).toNat,inv:=fun i=>0<=i.1/\i.1<=d.1.length/\i.2=((d.1.take i.1.toNat).flatten.length:Int),keep:=[0,9,10],slots:=fun i=>[(3,.int .i64 i.2),(11,.int .i64 i.1)],names:=fun i=>[]})|11=>some (fun S=>{ι:=Int×(List Rt),qn:=⟨fun k_=>∀ (j:Int) (ys:(List Rt)),k_ (j,ys),fun k_ h_ i=>h_ i.1 i.2,fun k_=>∃ (j:Int) (ys:(List Rt)),k_ (j,ys),fun k_ ⟨j,ys,h_⟩=>⟨_,h_⟩⟩,μ:=fun i=>(d.1.length-i.1).toNat,inv:=fun i=>0<=i.1/\i.1<=d.1.length/\i.2=(d.1.take i.1.toNat).flatten,keep:=[25,26],slots:=fun i=>[(6,.own 524288 4),(27,.int .i64 i.1)],names:=fun i=>[(524288,.live (.row 49 cRt i.2))]})|_=>none)})
def Qbo7 (c:Route) :=
 ((0<=c.1.1/\c.1.1<=4294967295)/\R64 c.1.2)/\(c.2.1.length<=maxLen/\ ∀(d:Int),d∈c.2.1->R64 d)/\R64 c.2.2
def Qbo16 (a:List (List Route)) :=
 (a.length:Int)
theorem vc_slices_Concat_fa6c :
 ∀(a:List (List Route)),(a.length<=maxLen/\ ∀(b:List Route),b∈a->b.length<=maxLen/\ ∀(c:Route),c∈b->(Qbo7 c))/\True->((List.length (List.flatten a)):Int)<=1073741824->(∃(b:Int) (c:Int),(0<=b/\b<=(Qbo16 a)/\c=((List.length (List.flatten (List.take b.toNat a))):Int))/\a=a/\(0:Int)=c/\a=a/\(Qbo16 a)=(Qbo16 a)/\(0:Int)=b/\True)/\ ∀(b c:Int),0<=b/\b<=(Qbo16 a)/\c=((List.length (List.flatten (List.take b.toNat a))):Int)->ifP (decide (b<(Qbo16 a))) (0<=b/\b<(Qbo16 a)/\ifP (decide (IntKind.wrap .i64 (c+((List.length (a.getD b.toNat default)):Int))<0)) False (∃(d:Int) (e:Int),(0<=d/\d<=(Qbo16 a)/\e=((List.length (List.flatten (List.take d.toNat a))):Int))/\Int.toNat ((Qbo16 a) -d)<Int.toNat ((Qbo16 a) -b)/\a=a/\IntKind.wrap .i64 (c+((List.length (a.getD b.toNat default)):Int))=e/\a=a/\(Qbo16 a)=(Qbo16 a)/\IntKind.wrap .i64 (b+(1:Int))=d/\True)) (0<=c/\c<=1073741824/\(∃(d:Int) (e:List
 Rt),(0<=d/\d<=(Qbo16 a)/\e=List.flatten (List.take d.toNat a))/\a=a/\(Qbo16 a)=(Qbo16 a)/\(0:Int)=d/\([]:List Route)=e/\True)/\ ∀(d:Int) (e:List Rt),0<=d/\d<=(Qbo16 a)/\e=List.flatten (List.take d.toNat a)->ifP (decide (d<(Qbo16 a))) (0<=d/\d<(Qbo16 a)/\(e.length+List.length (a.getD d.toNat default))*(48:Nat)<=(Qbo20)/\ ∃(f:Int) (g:List Rt),(0<=f/\f<=(Qbo16 a)/\g=List.flatten (List.take f.toNat a))/\Int.toNat ((Qbo16 a) -f)<Int.toNat ((Qbo16 a) -d)/\a=a/\(Qbo16 a)=(Qbo16 a)/\IntKind.wrap .i64 (d+(1:Int))=f/\e++a.getD d.toNat default=g/\True) (e=List.flatten a)):=by
  delta Qbo7 Qbo16 Qbo20
  rintro x ⟨⟨hl,-⟩,-⟩ ht
  simp only [maxLen] at hl
  refine ⟨⟨0,0,⟨by omega,by omega,by simp⟩,(by repeat' first|exact trivial|refine ⟨trivial,?_⟩|refine ⟨(by with_reducible rfl),?_⟩|refine ⟨w64 (by omega) (by omega),?_⟩|refine ⟨rfl,?_⟩)⟩,?_⟩
  rintro j s ⟨h0,h1,h2⟩
  have hle:=take_flat_le x j.toNat
  refine ifP_split (fun hb => ?_) (fun hb => ?_)
  · have hb:=of_decide_eq_true hb
    have e:=take_flat h0 hb
    have hle2:=take_flat_le x (j+1).toNat
    have el:((x.take (j+1).toNat).flatten.length:Int)=s+(x.getD j.toNat default).length:=by rw [e,List.length_append];omega
    rw [w64 (n:=s+_) (by omega) (by omega)]
    refine ⟨h0,hb,ifP_split (fun hc => ?_) (fun hc => ?_)⟩
    · have:=of_decide_eq_true hc;omega
    · exact ⟨j+1,_,⟨by omega,by omega,el.symm⟩,by omega,(by repeat' first|exact trivial|refine ⟨trivial,?_⟩|refine ⟨(by with_reducible rfl),?_⟩|refine ⟨w64 (by omega) (by omega),?_⟩|refine ⟨rfl,?_⟩)⟩
  · refine ⟨by omega,by omega,⟨0,[],⟨by omega,by omega,by simp⟩,(by repeat' first|exact trivial|refine ⟨trivial,?_⟩|refine ⟨(by with_reducible rfl),?_⟩|refine ⟨w64 (by omega) (by omega),?_⟩|refine ⟨rfl,?_⟩)⟩,?_⟩
    rintro k ys ⟨k0,k1,rfl⟩
    refine ifP_split (fun hb => ?_) (fun hb => ?_)
    · have hb:=of_decide_eq_true hb
      have e:=take_flat k0 hb
      have hle2:=take_flat_le x (k+1).toNat
      refine ⟨k0,hb,?_,k+1,_,⟨by omega,by omega,e.symm⟩,by omega,(by repeat' first|exact trivial|refine ⟨trivial,?_⟩|refine ⟨(by with_reducible rfl),?_⟩|refine ⟨w64 (by omega) (by omega),?_⟩|refine ⟨rfl,?_⟩)⟩
      rw [← List.length_append,← e];omega
    · have hb:=of_decide_eq_false hb
      rw [List.take_of_length_le (by omega)]
theorem ok_slices_Concat_fa6c:SpecOK Tryd.prog GL 88 ct_slices_Concat_fa6c.spec:=Ct.okH _ Tryd.func88 (by kernel_rfl) (withSpec_ok noSpecs_ok ok_slices_Grow_fa6c) hmix an_slices_Concat_fa6c (hideMp (by kernel_rfl) vc_slices_Concat_fa6c)
theorem set_getD {α:Type} [Inhabited α] {l:List α} {j:Int} (h0:0<=j) (h1:j<l.length):l.set j.toNat (l.getD j.toNat default)=l:=by
  have hj:j.toNat<l.length:=by omega
  rw [List.getD_eq_getElem?_getD,List.getElem?_eq_getElem hj,Option.getD_some,List.set_getElem_self]
def ct_fib_table:Ct:=⟨[.val (.sl cRt),.val cI,.val cI,.val (.sl cRt)],[.own 49 cRt],fun d=>[0<=d.2.1,d.2.1<=d.1.length,0<=d.2.2.1,d.2.2.1<=d.1.length,(d.1.length:Int)<=134217728,(d.2.2.2.1.length:Int)<=134217728,∀ y∈d.1,(y.2.1.length:Int)<=1099511627776,∀ y∈d.2.2.2.1,(y.2.1.length:Int)<=1099511627776],fun d=>((d.1.take d.2.1.toNat++(d.2.2.2.1++d.1.drop d.2.2.1.toNat),()),())⟩
def an_fib_table:PDs ct_fib_table.ps->Anns:=(fun d=>{loops:=(fun n=>match n with|3=>some (fun S=>{ι:=Int,μ:=fun i=>(((d.1.take d.2.1.toNat++(d.2.2.2.1++d.1.drop d.2.2.1.toNat)).length:Int)-i).toNat,inv:=fun i=>0<=i/\i<=((d.1.take d.2.1.toNat++(d.2.2.2.1++d.1.drop d.2.2.1.toNat)).length:Int),keep:=[9,20,21],slots:=fun i=>[(22,.int .i64 i)],keepN:=[320],names:=fun i=>[]})|_=>none)})
def Qbo0 (a:List Route) (b c:Int) (d:List Route) :=
 List.flatten [subL a (Int.toNat (0:Int)) b.toNat,d,subL a c.toNat (Int.toNat (Qbo2 a))]
def Qbo6 (a:List Route) (b c:Int) (d:List Route) :=
 ((List.length (List.take b.toNat a++(d++List.drop c.toNat a))):Int)
def Qbo12 (a:List Route) (b c:Int) (d:List Route) :=
 ((List.length (Qbo0 a b c d)):Int)
def Qbo18 (e:Route) :=
 ((0<=e.1.1/\e.1.1<=4294967295)/\R64 e.1.2)/\(e.2.1.length<=maxLen/\ ∀(f:Int),f∈e.2.1->R64 f)/\R64 e.2.2
theorem vc_fib_table :
 ∀(a:List Route) (b c:Int) (d:List Route),(a.length<=maxLen/\ ∀(e:Route),e∈a->(Qbo18 e))/\R64 b/\R64 c/\(d.length<=maxLen/\ ∀(e:Route),e∈d->(Qbo18 e))/\True->(0<=b/\b<=(Qbo2 a)/\0<=c/\c<=(Qbo2 a)/\(Qbo2 a)<=134217728/\(d.length:Int)<=134217728/\(∀(e:Route),e∈a->(e.2.1.length:Int)<=1099511627776)/\ ∀(e:Route),e∈d->(e.2.1.length:Int)<=1099511627776)->(0:Int)<=0/\0<=b/\b<=(Qbo2 a)/\0<=c/\c<=(Qbo2 a)/\(Qbo2 a)<=(Qbo2 a)/\(Qbo12 a b c d)<=1073741824/\(∃(e:Int),(0<=e/\e<=(Qbo6 a b c d))/\(Qbo12 a b c d)=(Qbo12 a b c d)/\(0:Int)=e/\List.flatten [subL a (Int.toNat (0:Int)) b.toNat,d,subL a c.toNat (Int.toNat (Qbo2 a))]=List.flatten [subL a (Int.toNat (0:Int)) b.toNat,d,subL a c.toNat (Int.toNat (Qbo2 a))]/\True)/\ ∀(e:Int),0<=e/\e<=(Qbo6 a b c d)->ifP (decide (e<(Qbo12 a b c d))) (0<=e/\e<(Qbo12 a b c d)/\((List.length (List.getD (Qbo0 a b c d) e.toNat
 default).2.1):Int)<=1099511627776/\0<=e/\e<(Qbo12 a b c d)/\ ∃(f:Int),(0<=f/\f<=(Qbo6 a b c d))/\Int.toNat ((Qbo6 a b c d) -f)<Int.toNat ((Qbo6 a b c d) -e)/\(Qbo12 a b c d)=(Qbo12 a b c d)/\IntKind.wrap .i64 (e+(1:Int))=f/\List.set (Qbo0 a b c d) e.toNat (List.getD (Qbo0 a b c d) e.toNat default)=List.flatten [subL a (Int.toNat (0:Int)) b.toNat,d,subL a c.toNat (Int.toNat (Qbo2 a))]/\True) (List.flatten [subL a (Int.toNat (0:Int)) b.toNat,d,subL a c.toNat (Int.toNat (Qbo2 a))]=List.take b.toNat a++(d++List.drop c.toNat a)):=by
  delta Qbo0 Qbo2 Qbo6 Qbo12 Qbo18
  rintro l a b m-⟨h0,h1,h2,h3,h4,h5,h6,h7⟩
  have e:List.flatten [subL l (Int.toNat (0:Int)) (Int.toNat a),m,subL l (Int.toNat b) (Int.toNat (l.length:Int))]=l.take a.toNat++(m++l.drop b.toNat):=by
    simp [subL]
  rw [e]
  have hall:∀ y∈l.take a.toNat++(m++l.drop b.toNat),(y.2.1.length:Int)<=1099511627776:=by
    intro y hy
    simp only [List.mem_append] at hy
    rcases hy with hy|hy|hy
    · exact h6 y (List.mem_of_mem_take hy)
    · exact h7 y hy
    · exact h6 y (List.mem_of_mem_drop hy)
  have hlen:(l.take a.toNat++(m++l.drop b.toNat)).length<=l.length+(m.length+l.length):=by
    simp only [List.length_append,List.length_take,List.length_drop];omega
  generalize l.take a.toNat++(m++l.drop b.toNat)=o at hall hlen ⊢
  refine ⟨by omega,h0,h1,h2,h3,by omega,by omega,⟨0,⟨by omega,by omega⟩,(by repeat' first|exact trivial|refine ⟨trivial,?_⟩|refine ⟨(by with_reducible rfl),?_⟩|refine ⟨w64 (by omega) (by omega),?_⟩|refine ⟨rfl,?_⟩)⟩,?_⟩
  rintro j ⟨j0,j1⟩
  refine ifP_split (fun hb => ?_) (fun hb=>rfl)
  have hb:=of_decide_eq_true hb
  refine ⟨j0,hb,hall _ (getD_mem j0 hb),j0,hb,j+1,⟨by omega,by omega⟩,by omega,rfl,w64 (by omega) (by omega),set_getD j0 hb,trivial⟩
theorem ok_fib_table:SpecOK Tryd.prog GL 77 ct_fib_table.spec:=Ct.okH _ Tryd.func77 (by kernel_rfl) (withSpec_ok (withSpec_ok noSpecs_ok ok_slices_Concat_fa6c) ok_fib_copied) hmix an_fib_table (hideMp (by kernel_rfl) vc_fib_table)
def ct_fib_place:Cn:=⟨[.val (.sl cRt),.agg cPfx],[.val cI,.val .bool],fun _=>[],fun d y=>0<=y.1.1/\y.1.1<=d.1.length/\(sortedR d.1->(∀ z∈d.1.take y.1.1.toNat,plt z.1 d.2.1)∧∀ z∈d.1.drop y.1.1.toNat,¬ plt z.1 d.2.1)/\y.1.2.1=decide (y.1.1<d.1.length/\(d.1.getD y.1.1.toNat default).1=d.2.1),fun d h=>let ⟨k,h0,h1,h2⟩:=place_ex d.1 d.2.1;⟨((k,decide (k<d.1.length/\(d.1.getD k.toNat default).1=d.2.1),()),()),h0,h1,h2,rfl⟩⟩
def an_fib_place:PDs ct_fib_place.ps->Anns:=(fun _=>{})
def Qbo4 (a:List Route) (b c d:Int) (e:Bool) :=
 d<=(Qbo2 a)/\(sortedR a->(∀(f:Route),f∈List.take d.toNat a->plt f.1 (b,c))/\ ∀(f:Route),f∈List.drop d.toNat a-> ¬plt f.1 (b,c))/\e=decide (d<(Qbo2 a)/\(a.getD d.toNat default).1=(b,c))
theorem vc_fib_place :
 ∀(a:List Route) (b c:Int),(Qbo3 a)/\((0<=b/\b<=4294967295)/\R64 c)/\True->True-> ∀(d:Int) (e:Bool),0<=d/\(Qbo4 a b c d e)->0<=d/\(Qbo4 a b c d e):=by
  delta Qbo2 Qbo3 Qbo4
  rintro l p q - - i b h
  exact h
theorem ok_fib_place:SpecOK Tryd.prog GL 76 ct_fib_place.spec:=Cn.okH _ Tryd.func76 (by kernel_rfl) (withSpec_ok noSpecs_ok ok_slices_BinarySearchFunc_0367) hmix an_fib_place (hideMp (by kernel_rfl) vc_fib_place)
def putL (l:List Rt) (r:Rt):List Rt:=l.filter (fun a=>decide (plt a.1 r.1))++r::l.filter (fun a=>decide (plt r.1 a.1))
def removeL (l:List Rt) (p:Pfx):List Rt:=l.filter (fun a=>decide (a.1≠p))
def okL (l:List Rt):Prop:=(l.length:Int)<=134217728∧∀ y∈l,(y.2.1.length:Int)<=1099511627776
def stepR (a:Int) (b:Option Rt) (r:Rt):Option Rt:=if contains r.1 a then match b with|none=>some r|some q=>if q.1.2<r.1.2 then some r else some q else b
def look (l:List Rt) (a:Int):Option Rt:=l.foldl (stepR a) none
def lookR (l:List Rt) (a:Int):Rt:=match look l a with|none=>((0,0),[],0)|some r=>r
theorem place_take {l:List Rt} {p:Pfx} {k:Nat} (h1:∀ z∈l.take k,plt z.1 p) (h2:∀ z∈l.drop k,¬ plt z.1 p):l.take k=l.filter (fun a=>decide (plt a.1 p)):=by
  conv=>rhs;rw [← List.take_append_drop k l]
  rw [List.filter_append,List.filter_eq_self.2 (by simpa using h1),List.filter_eq_nil_iff.2 (by simpa using h2),List.append_nil]
theorem place_split {l:List Rt} {i:Int} (h0:0<=i) (h1:i<l.length):l=l.take i.toNat++l.getD i.toNat default::l.drop (i+1).toNat:=by
  have hj:i.toNat<l.length:=by omega
  rw [List.getD_eq_getElem?_getD,List.getElem?_eq_getElem hj,Option.getD_some,show (i+1).toNat=i.toNat+1 from by omega,← List.drop_eq_getElem_cons hj,List.take_append_drop]
theorem place_found {l:List Rt} {p:Pfx} {i:Int} (hs:sortedR l) (h0:0<=i) (hl:i<l.length) (h1:∀ z∈l.take i.toNat,plt z.1 p) (he:(l.getD i.toNat default).1=p):l.drop (i+1).toNat=l.filter (fun a=>decide (plt p a.1))/\l.take i.toNat++l.drop (i+1).toNat=removeL l p:=by
  have hsp:=place_split h0 hl
  have hp:(l.getD i.toNat default::l.drop (i+1).toNat).Pairwise fun a b=>plt a.1 b.1:=by
    have:=hs;unfold sortedR at this;rw [hsp] at this;exact (List.pairwise_append.1 this).2.1
  have h3:∀ z∈l.drop (i+1).toNat,plt p z.1:=fun z hz=>by rw [← he];exact (List.pairwise_cons.1 hp).1 z hz
  generalize l.getD i.toNat default=r at *
  generalize l.take i.toNat=A at *
  generalize l.drop (i+1).toNat=B at *
  subst hsp
  subst he
  constructor
  · rw [List.filter_append,List.filter_cons,if_neg (by simp [plt_irrefl]),List.filter_eq_nil_iff.2 (by simpa using fun z hz=>plt_asymm (h1 z hz)),List.nil_append,List.filter_eq_self.2 (by simpa using h3)]
  · rw [removeL,List.filter_append,List.filter_cons,if_neg (by simp),List.filter_eq_self.2 (fun z hz=>decide_eq_true (fun (e:z.1=r.1)=>plt_irrefl _ (e▸h1 z hz))),List.filter_eq_self.2 (fun z hz=>decide_eq_true (fun (e:z.1=r.1)=>plt_irrefl _ (e▸h3 z hz)))]
theorem place_not {l:List Rt} {p:Pfx} {i:Int} (hs:sortedR l) (h0:0<=i) (h1:∀ z∈l.take i.toNat,plt z.1 p) (h2:∀ z∈l.drop i.toNat,¬ plt z.1 p) (he:¬ (i<l.length/\(l.getD i.toNat default).1=p)):l.drop i.toNat=l.filter (fun a=>decide (plt p a.1))/\l=removeL l p:=by
  have h3:∀ z∈l.drop i.toNat,plt p z.1:=by
    intro z hz
    rcases plt_total (h2 z hz) with e|h
    · exfalso
      by_cases hl:i<l.length
      · have hj:i.toNat<l.length:=by omega
        have hne:(l.getD i.toNat default).1≠p:=fun e=>he ⟨hl,e⟩
        rw [List.getD_eq_getElem?_getD,List.getElem?_eq_getElem hj,Option.getD_some] at hne
        have hp:(l.drop i.toNat).Pairwise fun a b=>plt a.1 b.1:=List.Pairwise.drop hs
        rw [List.drop_eq_getElem_cons hj] at hz hp h2
        rcases List.mem_cons.1 hz with rfl|hz
        · exact hne e
        · exact h2 _ (List.mem_cons_self) (e▸(List.pairwise_cons.1 hp).1 z hz)
      · rw [List.drop_eq_nil_of_le (by omega)] at hz;simp at hz
    · exact h
  have hsp:=List.take_append_drop i.toNat l
  constructor
  · conv=>rhs;rw [← hsp]
    rw [List.filter_append,List.filter_eq_nil_iff.2 (by simpa using fun z hz=>plt_asymm (h1 z hz)),List.nil_append,List.filter_eq_self.2 (by simpa using h3)]
  · symm
    apply List.filter_eq_self.2
    intro z hz
    rw [← hsp] at hz
    apply decide_eq_true
    rcases List.mem_append.1 hz with hz|hz
    · exact fun e=>plt_irrefl _ (e▸h1 z hz)
    · exact fun e=>plt_irrefl _ (e▸h3 z hz)
def ct_fib_Put:Ct:=⟨[.val (.sl cRt),.agg cRt],[.own 49 cRt],fun d=>[sortedR d.1,okL d.1,(d.2.1.2.1.length:Int)<=1099511627776],fun d=>((putL d.1 d.2.1,()),())⟩
def an_fib_Put:PDs ct_fib_Put.ps->Anns:=(fun _=>{})
def Qbo11 (a:List Route) :=
 a.length<=maxLen/\ ∀(f:Route),f∈a->((0<=f.1.1/\f.1.1<=4294967295)/\R64 f.1.2)/\(f.2.1.length<=maxLen/\ ∀(g:Int),g∈f.2.1->R64 g)/\R64 f.2.2
theorem vc_fib_Put :
 ∀(a:List Route) (b c:Int) (d:List Int) (e:Int),(Qbo11 a)/\(((0<=b/\b<=4294967295)/\R64 c)/\(d.length<=maxLen/\ ∀(f:Int),f∈d->R64 f)/\R64 e)/\True->sortedR a/\okL a/\(d.length:Int)<=1099511627776-> ∀(f:Int) (g:Bool),0<=f/\f<=(Qbo2 a)/\(sortedR a->(∀(h:Route),h∈List.take f.toNat a->plt h.1 (b,c))/\ ∀(h:Route),h∈List.drop f.toNat a-> ¬plt h.1 (b,c))/\g=decide (f<(Qbo2 a)/\(a.getD f.toNat default).1=(b,c))->ifP g (0<=f/\f<=(Qbo2 a)/\0<=IntKind.wrap .i64 (f+(1:Int))/\IntKind.wrap .i64 (f+(1:Int))<=(Qbo2 a)/\(Qbo2 a)<=134217728/\((List.length [((b,c),d,e)]):Int)<=134217728/\(∀(h:Route),h∈a->(h.2.1.length:Int)<=1099511627776)/\(∀(h:Route),h∈[((b,c),d,e)]->(h.2.1.length:Int)<=1099511627776)/\List.take f.toNat a++([((b,c),d,e)]++List.drop (Int.toNat (IntKind.wrap .i64 (f+(1:Int)))) a)=putL a ((b,c),d,e)) (0<=f/\f<=(Qbo2 a)/\0<=f/\f<=(Qbo2 a)/\(Qbo2 a)<=134217728/\((List.length
 [((b,c),d,e)]):Int)<=134217728/\(∀(h:Route),h∈a->(h.2.1.length:Int)<=1099511627776)/\(∀(h:Route),h∈[((b,c),d,e)]->(h.2.1.length:Int)<=1099511627776)/\List.take f.toNat a++([((b,c),d,e)]++List.drop f.toNat a)=putL a ((b,c),d,e)):=by
  delta Qbo2 Qbo11
  rintro l a n nx b-⟨hs,⟨hl,hx⟩,hn⟩ i f ⟨h0,h1,h2,rfl⟩
  obtain ⟨h2,h3⟩:=h2 hs
  refine ifP_split (fun hf => ?_) (fun hf => ?_)
  · obtain ⟨f1,f2⟩:=of_decide_eq_true hf
    rw [w64 (by omega) (by omega)]
    refine ⟨h0,h1,by omega,by omega,hl,by simp,hx,by simpa using hn,?_⟩
    rw [(place_found hs h0 f1 h2 f2).1,place_take h2 h3];rfl
  · have hf:=of_decide_eq_false hf
    refine ⟨h0,h1,h0,h1,hl,by simp,hx,by simpa using hn,?_⟩
    rw [(place_not hs h0 h2 h3 hf).1,place_take h2 h3];rfl
theorem ok_fib_Put:SpecOK Tryd.prog GL 64 ct_fib_Put.spec:=Ct.okH _ Tryd.func64 (by kernel_rfl) (withSpec_ok (withSpec_ok noSpecs_ok ok_fib_place) ok_fib_table) hmix an_fib_Put (hideMp (by kernel_rfl) vc_fib_Put)
def ct_fib_Remove:Ct:=⟨[.val (.sl cRt),.agg cPfx],[.own 49 cRt],fun d=>[sortedR d.1,okL d.1],fun d=>((removeL d.1 d.2.1,()),())⟩
def an_fib_Remove:PDs ct_fib_Remove.ps->Anns:=(fun _=>{})
def Qbo14 (a:List Route) :=
 (Qbo2 a)<=134217728/\ ∀(d:Rt),d∈a->(d.2.1.length:Int)<=1099511627776
theorem vc_fib_Remove :
 ∀(a:List Route) (b c:Int),(Qbo3 a)/\((0<=b/\b<=4294967295)/\R64 c)/\True->(sortedR a/\(Qbo14 a))-> ∀(d:Int) (e:Bool),0<=d/\(Qbo4 a b c d e)->ifP e (0<=d/\d<=(Qbo2 a)/\0<=IntKind.wrap .i64 (d+(1:Int))/\IntKind.wrap .i64 (d+(1:Int))<=(Qbo2 a)/\(Qbo2 a)<=134217728/\(↑(0:Nat):Int)<=134217728/\(∀(f:Route),f∈a->(f.2.1.length:Int)<=1099511627776)/\(∀(f:Route),f∈([]:List Route)->(f.2.1.length:Int)<=1099511627776)/\List.take d.toNat a++List.drop (Int.toNat (IntKind.wrap .i64 (d+(1:Int)))) a=removeL a (b,c)) (0<=d/\d<=(Qbo2 a)/\0<=d/\d<=(Qbo2 a)/\(Qbo2 a)<=134217728/\(↑(0:Nat):Int)<=134217728/\(∀(f:Route),f∈a->(f.2.1.length:Int)<=1099511627776)/\(∀(f:Route),f∈([]:List Route)->(f.2.1.length:Int)<=1099511627776)/\List.take d.toNat a++List.drop d.toNat a=removeL a (b,c)):=by
  delta Qbo2 Qbo3 Qbo4 Qbo14
  rintro l a n-⟨hs,hl,hx⟩ i f ⟨h0,h1,h2,rfl⟩
  obtain ⟨h2,h3⟩:=h2 hs
  refine ifP_split (fun hf => ?_) (fun hf => ?_)
  · obtain ⟨f1,f2⟩:=of_decide_eq_true hf
    rw [w64 (by omega) (by omega)]
    exact ⟨h0,h1,by omega,by omega,hl,by simp,hx,by simp,(place_found hs h0 f1 h2 f2).2⟩
  · have hf:=of_decide_eq_false hf
    refine ⟨h0,h1,h0,h1,hl,by simp,hx,by simp,?_⟩
    rw [List.take_append_drop];exact (place_not hs h0 h2 h3 hf).2
theorem ok_fib_Remove:SpecOK Tryd.prog GL 63 ct_fib_Remove.spec:=Ct.okH _ Tryd.func63 (by kernel_rfl) (withSpec_ok (withSpec_ok noSpecs_ok ok_fib_place) ok_fib_table) hmix an_fib_Remove (hideMp (by kernel_rfl) vc_fib_Remove)
def nextAt (l links:List Int) (j:Nat):Prop:=(0<j->l.getD (j-1) default<l.getD j default)/\l.getD j default∈links
instance (l links:List Int) (j:Nat):Decidable (nextAt l links j):=by unfold nextAt;infer_instance
def nextOK (l links:List Int):Prop:=l.length<=16∧∀ j:Nat,j<l.length->nextAt l links j
instance (l links:List Int):Decidable (nextOK l links):=by unfold nextOK;infer_instance
def rightR (r:Rt) (links:List Int):Prop:=nextOK r.2.1 links/\1<=r.2.2/\r.2.2<=3
instance (r:Rt) (links:List Int):Decidable (rightR r links):=by unfold rightR;infer_instance
def chk (links:List Int):Option Pfx->List Rt->Int
  | _,[]=>0
  | q,r::rs=>if pValid r.1=false then 10 else if q.any (fun q=>decide (0<=pcmp q r.1)) then 6 else if ¬ rightR r links then 12 else chk links (some r.1) rs
def check (l:List Rt) (links:List Int):Int:=if (64:Int)<l.length then 5 else chk links none l
def prevR (l:List Rt) (i:Int):Option Pfx:=if i=0 then none else some (l.getD (i-1).toNat default).1
theorem nextAt_int {l links:List Int} {i:Int} (h0:0<=i) (h:0<i->l.getD (i.toNat-1) default<l.getD i.toNat default) (h2:l.getD i.toNat default∈links):nextAt l links i.toNat :=
  ⟨fun hi=>h (by omega),h2⟩
theorem nextAt_succ {l links:List Int} {i:Int} (h0:0<=i) (h:∀ j:Nat,(j:Int)<i->nextAt l links j) (h2:nextAt l links i.toNat):∀ j:Nat,(j:Int)<i+1->nextAt l links j:=by
  intro j hj
  by_cases e:(j:Int)<i
  · exact h j e
  · rw [show j=i.toNat from by omega];exact h2
theorem chk_at {l:List Rt} {links:List Int} {i:Int} {q:Option Pfx} (h0:0<=i) (h1:i<l.length):chk links q (l.drop i.toNat)=if pValid (l.getD i.toNat default).1=false then 10 else if q.any (fun q=>decide (0<=pcmp q (l.getD i.toNat default).1)) then 6 else if ¬ rightR (l.getD i.toNat default) links then 12 else chk links (some (l.getD i.toNat default).1) (l.drop (i+1).toNat):=by
  have hj:i.toNat<l.length:=by omega
  have e:(i+1).toNat=i.toNat+1:=by omega
  rw [List.drop_eq_getElem_cons hj,chk,List.getD_eq_getElem?_getD,List.getElem?_eq_getElem hj,Option.getD_some,e]
def ct_fib_right:Ct:=⟨[.agg cRt,.val (.sl cI)],[.val .bool],fun _=>[],fun d=>((decide (rightR d.1 d.2.1),()),())⟩
def an_fib_right:PDs ct_fib_right.ps->Anns:=(fun d=>{loops:=(fun n=>match n with|4=>some (fun S=>{ι:=Int,μ:=fun i=>(d.1.2.1.length-i).toNat,inv:=fun i=>0<=i/\i<=d.1.2.1.length∧∀ j:Nat,(j:Int)<i->nextAt d.1.2.1 d.2.1 j,keep:=[1,2,22,23],slots:=fun i=>[(24,.int .i64 i)],keepN:=[48],names:=fun i=>[]})|_=>none)})
def Qbo8 (f:Bool) :=
 (! f)->((! f)->(! f))/\True
theorem vc_fib_right :
 ∀(a b:Int) (c:List Int) (d:Int) (e:List Int),(((0<=a/\a<=4294967295)/\R64 b)/\(c.length<=maxLen/\ ∀(f:Int),f∈c->R64 f)/\R64 d)/\(e.length<=maxLen/\ ∀(f:Int),f∈e->R64 f)/\True->True-> ∀(f:Bool),f=decide (16<(c.length:Int))->(Qbo8 f)/\(Qbo8 f)/\(f=false->(! f))/\ ∀(g:Bool),(g=bif f then true else decide (d<1))->((! g)->((! g)->(! g))/\True)/\((! g)->((! g)->(! g))/\True)/\(g=false->(! g))/\ifP (bif g then true else decide (3<d)) (false=decide (rightR ((a,b),c,d) e)) ((∃(h:Int),(0<=h/\h<=(c.length:Int)/\ ∀(i:Nat),(↑i:Int)<h->nextAt c e i)/\e=e/\c=c/\(c.length:Int)=(c.length:Int)/\(0:Int)=h/\a=a/\b=b/\c=c/\d=d/\True)/\ ∀(h:Int),(0<=h/\h<=(c.length:Int)/\ ∀(i:Nat),(↑i:Int)<h->nextAt c e i)->ifP (decide (h<(c.length:Int))) (0<=h/\h<(c.length:Int)/\ ∀(i:Bool),i=decide (0<h)->(i->(i->i)/\True)/\(i->(i->i)/\True)/\(i->(i->i)/\(i->i)/\0<=IntKind.wrap .i64 (h -(1:Int))/\IntKind.wrap .i64 (h
 -(1:Int))<(c.length:Int)/\True)/\(i->(i->i)/\True)/\(i->(i->i)/\(i->i)/\True)/\(i->i)/\ ∀(j:Bool),(j=bif i then decide (c.getD h.toNat default<=c.getD (Int.toNat (IntKind.wrap .i64 (h -(1:Int)))) default) else false)->((! j)->((! j)->(! j))/\((! j)->(! j))/\True)/\((! j)->((! j)->(! j))/\True)/\(j=false->(! j))/\ifP (bif j then true else ! decide (c.getD h.toNat default∈e)) (false=decide (rightR ((a,b),c,d) e)) (∃(k:Int),(0<=k/\k<=(c.length:Int)/\ ∀(l:Nat),(↑l:Int)<k->nextAt c e l)/\Int.toNat ((c.length:Int) -k)<Int.toNat ((c.length:Int) -h)/\e=e/\c=c/\(c.length:Int)=(c.length:Int)/\IntKind.wrap .i64 (h+(1:Int))=k/\a=a/\b=b/\c=c/\d=d/\True)) (true=decide (rightR ((a,b),c,d) e))):=by
  delta Qbo8
  rintro a n l b ks ⟨⟨⟨-,-⟩,⟨hl,-⟩,-⟩,-⟩ -
  simp only [maxLen] at hl
  (repeat (intro (b_:Bool) (hb_:b_=_);(repeat refine ⟨(by first|(simp;done)|(rw [hb_];simp;done)|(rw [hb_];simp;omega)|(rw [hb_];simp;intros;omega)|(rw [hb_];simp +contextual;done)),?_⟩);subst hb_))
  refine ifP_split (fun hb => ?_) (fun hb => ?_)
  · have hb:¬ (l.length<=16/\1<=b/\b<=3):=by simp [-List.getD_eq_getElem?_getD,-Int.default_eq_zero,Bool.cond_eq_ite] at hb;omega
    symm;apply decide_eq_false
    rintro ⟨⟨h1,-⟩,h2⟩;exact hb ⟨h1,h2⟩
  · have hb:l.length<=16/\1<=b/\b<=3:=by simp [-List.getD_eq_getElem?_getD,-Int.default_eq_zero,Bool.cond_eq_ite] at hb;omega
    refine ⟨⟨0,⟨by omega,by omega,by omega⟩,(by repeat' first|exact trivial|refine ⟨trivial,?_⟩|refine ⟨(by with_reducible rfl),?_⟩|refine ⟨w64 (by omega) (by omega),?_⟩|refine ⟨rfl,?_⟩)⟩,?_⟩
    rintro i ⟨h0,h1,h2⟩
    refine ifP_split (fun hi => ?_) (fun hi => ?_)
    · have hi:=of_decide_eq_true hi
      refine ⟨h0,hi,?_⟩
      rw [w64 (n:=i-1) (by omega) (by omega)]
      (repeat (intro (b_:Bool) (hb_:b_=_);(repeat refine ⟨(by first|(simp;done)|(rw [hb_];simp;done)|(rw [hb_];simp;omega)|(rw [hb_];simp;intros;omega)|(rw [hb_];simp +contextual;done)),?_⟩);subst hb_))
      refine ifP_split (fun hc => ?_) (fun hc => ?_)
      · have hc:¬ nextAt l ks i.toNat:=by
          rintro ⟨k1,k2⟩
          simp [-List.getD_eq_getElem?_getD,-Int.default_eq_zero,Bool.cond_eq_ite,k2] at hc
          have:=k1 (by omega);omega
        symm;apply decide_eq_false
        rintro ⟨⟨-,h3⟩,-⟩;exact hc (h3 _ (show i.toNat<l.length by omega))
      · have hc:nextAt l ks i.toNat:=by
          simp [-List.getD_eq_getElem?_getD,-Int.default_eq_zero,Bool.cond_eq_ite] at hc
          refine nextAt_int h0 (fun hp => ?_) hc.2
          have:=hc.1 hp;omega
        exact ⟨i+1,⟨by omega,by omega,nextAt_succ h0 h2 hc⟩,by omega,rfl,rfl,rfl,w64 (by omega) (by omega),(by repeat' first|exact trivial|refine ⟨trivial,?_⟩|refine ⟨(by with_reducible rfl),?_⟩|refine ⟨w64 (by omega) (by omega),?_⟩|refine ⟨rfl,?_⟩)⟩
    · have hi:=of_decide_eq_false hi
      symm;apply decide_eq_true
      exact ⟨⟨hb.1,fun j hj=>h2 j (by simp only at hj;omega)⟩,hb.2⟩
theorem ok_fib_right:SpecOK Tryd.prog GL 67 ct_fib_right.spec:=Ct.okH _ Tryd.func67 (by kernel_rfl) (withSpec_ok noSpecs_ok ok_slices_Contains_263e) hmix an_fib_right (hideMp (by kernel_rfl) vc_fib_right)
def ct_fib_Check:Ct:=⟨[.val (.sl cRt),.val (.sl cI)],[.val cI],fun _=>[],fun d=>((check d.1 d.2.1,()),())⟩
def an_fib_Check:PDs ct_fib_Check.ps->Anns:=(fun d=>{loops:=(fun n=>match n with|4=>some (fun S=>{ι:=Int,μ:=fun i=>(d.1.length-i).toNat,inv:=fun i=>0<=i/\i<=d.1.length/\check d.1 d.2.1=chk d.2.1 (prevR d.1 i) (d.1.drop i.toNat),keep:=[0,1,10,11],slots:=fun i=>[(12,.int .i64 i)],names:=fun i=>[]})|_=>none)})
def Qbo13 (a:List Route) (b:List Int) (c:Int) :=
 c<=(Qbo2 a)/\check a b=chk b (prevR a c) (List.drop c.toNat a)
def Qbo21 (a:List Route) (c:Int) (d:Bool) :=
 bif d then decide (0<=pcmp (a.getD (Int.toNat (IntKind.wrap .i64 (c -(1:Int)))) default).1 (a.getD c.toNat default).1) else false
theorem vc_fib_Check :
 ∀(a:List Route) (b:List Int),(a.length<=maxLen/\ ∀(c:Route),c∈a->(Qbo7 c))/\(b.length<=maxLen/\ ∀(c:Int),c∈b->R64 c)/\True->True->ifP (decide (64<(Qbo2 a))) ((5:Int)=check a b) ((∃(c:Int),(0<=c/\(Qbo13 a b c))/\a=a/\b=b/\a=a/\(Qbo2 a)=(Qbo2 a)/\(0:Int)=c/\True)/\ ∀(c:Int),0<=c/\(Qbo13 a b c)->ifP (decide (c<(Qbo2 a))) (0<=c/\c<(Qbo2 a)/\ifP (! pValid (a.getD c.toNat default).1) ((10:Int)=check a b) (∀(d:Bool),d=decide (0<c)->(d->(d->d)/\True)/\(d->(d->d)/\(d->d)/\0<=IntKind.wrap .i64 (c -(1:Int))/\IntKind.wrap .i64 (c -(1:Int))<(Qbo2 a)/\True)/\(d->(d->d)/\True)/\(d->(d->d)/\True)/\(d->(d->d)/\True)/\(d->(d->d)/\(d->d)/\True)/\(d->(d->d)/\True)/\(d->d)/\ifP (Qbo21 a c d) ((6:Int)=check a b) (ifP (! decide (rightR (a.getD c.toNat default) b)) ((12:Int)=check a b) (∃(e:Int),(0<=e/\e<=(Qbo2 a)/\check a b=chk b (prevR a e) (List.drop e.toNat a))/\Int.toNat ((Qbo2 a) -e)<Int.toNat ((Qbo2 a)
 -c)/\a=a/\b=b/\a=a/\(Qbo2 a)=(Qbo2 a)/\IntKind.wrap .i64 (c+(1:Int))=e/\True)))) ((0:Int)=check a b)):=by
  delta Qbo2 Qbo7 Qbo13 Qbo21
  rintro l ks ⟨⟨hl,-⟩,-⟩ -
  simp only [maxLen] at hl
  refine ifP_split (fun hb => ?_) (fun hb => ?_)
  · rw [check,if_pos (of_decide_eq_true hb)]
  · have hb:=of_decide_eq_false hb
    refine ⟨⟨0,⟨by omega,by omega,by rw [check,if_neg hb];rfl⟩,(by repeat' first|exact trivial|refine ⟨trivial,?_⟩|refine ⟨(by with_reducible rfl),?_⟩|refine ⟨w64 (by omega) (by omega),?_⟩|refine ⟨rfl,?_⟩)⟩,?_⟩
    rintro i ⟨h0,h1,h2⟩
    rw [h2]
    refine ifP_split (fun hi => ?_) (fun hi => ?_)
    · have hi:=of_decide_eq_true hi
      rw [chk_at h0 hi,w64 (n:=i-1) (by omega) (by omega)]
      refine ⟨h0,hi,ifP_split (fun hc => ?_) (fun hc => ?_)⟩
      · simp only [Bool.not_eq_true'] at hc
        rw [if_pos hc]
      · simp only [Bool.not_eq_false'] at hc
        rw [if_neg (by simp [-List.getD_eq_getElem?_getD,-Int.default_eq_zero,hc])]
        (repeat (intro (b_:Bool) (hb_:b_=_);(repeat refine ⟨(by first|(simp;done)|(rw [hb_];simp;done)|(rw [hb_];simp;omega)|(rw [hb_];simp;intros;omega)|(rw [hb_];simp +contextual;done)),?_⟩);subst hb_))
        have he:(Option.any (fun q=>decide (0<=pcmp q (l.getD i.toNat default).1)) (prevR l i))=(bif decide (0<i) then decide (0<=pcmp (l.getD (i-1).toNat default).1 (l.getD i.toNat default).1) else false):=by
          unfold prevR
          by_cases e:i=0
          · simp [e]
          · rw [if_neg e,Option.any_some];simp [show 0<i from by omega]
        rw [he]
        refine ifP_split (fun hd => ?_) (fun hd => ?_)
        · rw [if_pos hd]
        · rw [if_neg (by rw [hd];decide)]
          refine ifP_split (fun hr => ?_) (fun hr => ?_)
          · simp only [Bool.not_eq_true',decide_eq_false_iff_not] at hr
            rw [if_pos hr]
          · simp only [Bool.not_eq_false',decide_eq_true_eq] at hr
            rw [if_neg (fun h=>h hr)]
            refine ⟨i+1,⟨by omega,by omega,?_⟩,by omega,(by repeat' first|exact trivial|refine ⟨trivial,?_⟩|refine ⟨(by with_reducible rfl),?_⟩|refine ⟨w64 (by omega) (by omega),?_⟩|refine ⟨rfl,?_⟩)⟩
            rw [prevR,if_neg (by omega),show i+1-1=i from by omega]
    · have hi:=of_decide_eq_false hi
      rw [List.drop_eq_nil_of_le (by omega),chk]
theorem ok_fib_Check:SpecOK Tryd.prog GL 46 ct_fib_Check.spec:=Ct.okH _ Tryd.func46 (by kernel_rfl) (withSpec_ok (withSpec_ok (withSpec_ok noSpecs_ok ok_fib_right) ok_address_Valid) ok_address_Compare) hmix an_fib_Check (hideMp (by kernel_rfl) vc_fib_Check)
def ct_ref09_next:Ct:=⟨[.val (.sl cI),.val (.sl cI)],[.val .bool],fun _=>[],fun d=>((decide (nextOK d.1 d.2.1),()),())⟩
def an_ref09_next:PDs ct_ref09_next.ps->Anns:=(fun d=>{loops:=(fun n=>match n with|4=>some (fun S=>{ι:=Int,μ:=fun i=>(d.1.length-i).toNat,inv:=fun i=>0<=i/\i<=d.1.length∧∀ j:Nat,(j:Int)<i->nextAt d.1 d.2.1 j,keep:=[0,1],slots:=fun i=>[(5,.int .i64 i)],names:=fun i=>[]})|8=>some (fun S=>{ι:=Int×Bool,qn:=⟨fun k_=>∀ (k:Int) (f:Bool),k_ (k,f),fun k_ h_ i=>h_ i.1 i.2,fun k_=>∃ (k:Int) (f:Bool),k_ (k,f),fun k_ ⟨k,f,h_⟩=>⟨_,h_⟩⟩,μ:=fun i=>(d.2.1.length-i.1).toNat,inv:=fun i=>0<=i.1/\i.1<=d.2.1.length/\i.2=decide (d.1.getD (S.i 5).toNat default∈d.2.1.take i.1.toNat),keep:=[0,1,5],slots:=fun i=>[(6,.bool i.2),(7,.int .i64 i.1)],names:=fun i=>[]})|_=>none)})
theorem vc_ref09_next :
 ∀(a b:List Int),(a.length<=maxLen/\ ∀(c:Int),c∈a->R64 c)/\(b.length<=maxLen/\ ∀(c:Int),c∈b->R64 c)/\True->True->ifP (decide (16<(a.length:Int))) (false=decide (nextOK a b)) ((∃(c:Int),(0<=c/\c<=(a.length:Int)/\ ∀(d:Nat),(↑d:Int)<c->nextAt a b d)/\a=a/\b=b/\(0:Int)=c/\True)/\ ∀(c:Int),(0<=c/\c<=(a.length:Int)/\ ∀(d:Nat),(↑d:Int)<c->nextAt a b d)->ifP (decide (c<(a.length:Int))) ((∃(d:Int) (e:Bool),(0<=d/\d<=(b.length:Int)/\e=decide (a.getD c.toNat default∈List.take d.toNat b))/\a=a/\b=b/\c=c/\false=e/\(0:Int)=d/\True)/\ ∀(d:Int) (e:Bool),0<=d/\d<=(b.length:Int)/\e=decide (a.getD c.toNat default∈List.take d.toNat b)->ifP (decide (d<(b.length:Int))) (∀(f:Bool),f=e->((! f)->((! f)->(! f))/\((! f)->(! f))/\0<=d/\d<(b.length:Int)/\True)/\(Qbo8 f)/\((! f)->((! f)->(! f))/\((! f)->(! f))/\0<=c/\c<(a.length:Int)/\True)/\(Qbo8 f)/\((! f)->((! f)->(! f))/\((! f)->(! f))/\True)/\(f=false->(! f))/\
 ∃(g:Int) (h:Bool),(0<=g/\g<=(b.length:Int)/\h=decide (a.getD c.toNat default∈List.take g.toNat b))/\Int.toNat ((b.length:Int) -g)<Int.toNat ((b.length:Int) -d)/\a=a/\b=b/\c=c/\(bif f then true else decide (b.getD d.toNat default=a.getD c.toNat default))=h/\IntKind.wrap .i64 (d+(1:Int))=g/\True) (∀(f:Bool),f= ! e->(Qbo8 f)/\(Qbo8 f)/\ ∀(g:Bool),g=decide (0<c)->((! f&&g)->((! f&&g)->(! f&&g))/\True)/\((! f&&g)->((! f&&g)->(! f&&g))/\((! f&&g)->(! f&&g))/\0<=IntKind.wrap .i64 (c -(1:Int))/\IntKind.wrap .i64 (c -(1:Int))<(a.length:Int)/\True)/\((! f&&g)->((! f&&g)->(! f&&g))/\True)/\((! f&&g)->((! f&&g)->(! f&&g))/\((! f&&g)->(! f&&g))/\0<=c/\c<(a.length:Int)/\True)/\((! f&&g)->((! f&&g)->(! f&&g))/\True)/\((! f&&g)->((! f&&g)->(! f&&g))/\((! f&&g)->(! f&&g))/\True)/\((! f)->((! f)->(! f))/\(g->(! f&&g))/\True)/\(f=false->(! f))/\ifP (bif f then true else bif g then decide (a.getD c.toNat
 default<=a.getD (Int.toNat (IntKind.wrap .i64 (c -(1:Int)))) default) else false) (false=decide (nextOK a b)) (∃(h:Int),(0<=h/\h<=(a.length:Int)/\ ∀(i:Nat),(↑i:Int)<h->nextAt a b i)/\Int.toNat ((a.length:Int) -h)<Int.toNat ((a.length:Int) -c)/\a=a/\b=b/\IntKind.wrap .i64 (c+(1:Int))=h/\True))) (true=decide (nextOK a b))):=by
  delta Qbo8
  rintro l ks ⟨⟨hl,-⟩,⟨hk,-⟩,-⟩ -
  simp only [maxLen] at hl hk
  refine ifP_split (fun hb => ?_) (fun hb => ?_)
  · have hb:=of_decide_eq_true hb
    symm;apply decide_eq_false
    rintro ⟨h1,-⟩;omega
  · have hb:=of_decide_eq_false hb
    refine ⟨⟨0,⟨by omega,by omega,by omega⟩,(by repeat' first|exact trivial|refine ⟨trivial,?_⟩|refine ⟨(by with_reducible rfl),?_⟩|refine ⟨w64 (by omega) (by omega),?_⟩|refine ⟨rfl,?_⟩)⟩,?_⟩
    rintro i ⟨h0,h1,h2⟩
    refine ifP_split (fun hi => ?_) (fun hi => ?_)
    · have hi:=of_decide_eq_true hi
      refine ⟨⟨0,false,⟨by omega,by omega,by simp⟩,(by repeat' first|exact trivial|refine ⟨trivial,?_⟩|refine ⟨(by with_reducible rfl),?_⟩|refine ⟨w64 (by omega) (by omega),?_⟩|refine ⟨rfl,?_⟩)⟩,?_⟩
      rintro k f ⟨k0,k1,rfl⟩
      refine ifP_split (fun hc => ?_) (fun hc => ?_)
      · have hc:=of_decide_eq_true hc
        have e:(k+1).toNat=k.toNat+1:=by omega
        have hkk:k.toNat<ks.length:=by omega
        (repeat (intro (b_:Bool) (hb_:b_=_);(repeat refine ⟨(by first|(simp;done)|(rw [hb_];simp;done)|(rw [hb_];simp;omega)|(rw [hb_];simp;intros;omega)|(rw [hb_];simp +contextual;done)),?_⟩);subst hb_))
        refine ⟨k+1,_,⟨by omega,by omega,rfl⟩,by omega,rfl,rfl,rfl,?_,w64 (by omega) (by omega),(by repeat' first|exact trivial|refine ⟨trivial,?_⟩|refine ⟨(by with_reducible rfl),?_⟩|refine ⟨w64 (by omega) (by omega),?_⟩|refine ⟨rfl,?_⟩)⟩
        rw [e,List.take_succ_eq_append_getElem hkk,List.getD_eq_getElem?_getD (l:=ks),List.getElem?_eq_getElem hkk,Option.getD_some]
        generalize l.getD i.toNat default=v
        generalize ks[k.toNat]=u
        have:(v∈ks.take k.toNat++[u])↔(v∈ks.take k.toNat∨u=v):=by rw [List.mem_append,List.mem_singleton];exact or_congr Iff.rfl ⟨Eq.symm,Eq.symm⟩
        rw [show decide (v∈ks.take k.toNat++[u])=decide (v∈ks.take k.toNat∨u=v) from decide_eq_decide.2 this]
        by_cases hm:v∈ks.take k.toNat <;> simp [hm]
      · have hc:=of_decide_eq_false hc
        rw [List.take_of_length_le (by omega),w64 (n:=i-1) (by omega) (by omega)]
        (repeat (intro (b_:Bool) (hb_:b_=_);(repeat refine ⟨(by first|(simp;done)|(rw [hb_];simp;done)|(rw [hb_];simp;omega)|(rw [hb_];simp;intros;omega)|(rw [hb_];simp +contextual;done)),?_⟩);subst hb_))
        refine ifP_split (fun hc => ?_) (fun hc => ?_)
        · have hc:¬ nextAt l ks i.toNat:=by
            rintro ⟨k1,k2⟩
            simp [-List.getD_eq_getElem?_getD,-Int.default_eq_zero,Bool.cond_eq_ite] at hc
            rcases hc with hc|hc
            · exact hc k2
            · have:=k1 (by omega);omega
          symm;apply decide_eq_false
          rintro ⟨-,h3⟩;exact hc (h3 _ (by omega))
        · have hc:nextAt l ks i.toNat:=by
            simp [-List.getD_eq_getElem?_getD,-Int.default_eq_zero,Bool.cond_eq_ite] at hc
            refine nextAt_int h0 (fun hp => ?_) hc.1
            have:=hc.2 hp;omega
          exact ⟨i+1,⟨by omega,by omega,nextAt_succ h0 h2 hc⟩,by omega,(by repeat' first|exact trivial|refine ⟨trivial,?_⟩|refine ⟨(by with_reducible rfl),?_⟩|refine ⟨w64 (by omega) (by omega),?_⟩|refine ⟨rfl,?_⟩)⟩
    · have hi:=of_decide_eq_false hi
      symm;apply decide_eq_true
      exact ⟨by omega,fun j hj=>h2 j (by omega)⟩
theorem ok_ref09_next:SpecOK Tryd.prog GL 71 ct_ref09_next.spec:=Ct.okH _ Tryd.func71 (by kernel_rfl) noSpecs_ok hmix an_ref09_next (hideMp (by kernel_rfl) vc_ref09_next)
def ct_ref09_Check:Ct:=⟨[.val (.sl cRt),.val (.sl cI)],[.val cI],fun _=>[],fun d=>((check d.1 d.2.1,()),())⟩
def an_ref09_Check:PDs ct_ref09_Check.ps->Anns:=(fun d=>{loops:=(fun n=>match n with|4=>some (fun S=>{ι:=Int,μ:=fun i=>(d.1.length-i).toNat,inv:=fun i=>0<=i/\i<=d.1.length/\check d.1 d.2.1=chk d.2.1 (prevR d.1 i) (d.1.drop i.toNat),keep:=[0,1],slots:=fun i=>[(5,.int .i64 i)],names:=fun i=>[]})|_=>none)})
theorem vc_ref09_Check :
 ∀(a:List Route) (b:List Int),(a.length<=maxLen/\ ∀(c:Route),c∈a->(Qbo7 c))/\(b.length<=maxLen/\ ∀(c:Int),c∈b->R64 c)/\True->True->ifP (decide (64<(Qbo2 a))) ((5:Int)=check a b) ((∃(c:Int),(0<=c/\(Qbo13 a b c))/\a=a/\b=b/\(0:Int)=c/\True)/\ ∀(c:Int),0<=c/\(Qbo13 a b c)->ifP (decide (c<(Qbo2 a))) (0<=c/\c<(Qbo2 a)/\ifP (! pValid (a.getD c.toNat default).1) ((10:Int)=check a b) (∀(d:Bool),d=decide (0<c)->(d->(d->d)/\True)/\(d->(d->d)/\(d->d)/\0<=IntKind.wrap .i64 (c -(1:Int))/\IntKind.wrap .i64 (c -(1:Int))<(Qbo2 a)/\True)/\(d->(d->d)/\True)/\(d->(d->d)/\True)/\(d->(d->d)/\(d->d)/\0<=c/\c<(Qbo2 a)/\True)/\(d->(d->d)/\True)/\(d->(d->d)/\True)/\(d->(d->d)/\(d->d)/\True)/\(d->(d->d)/\True)/\(d->d)/\ifP (Qbo21 a c d) ((6:Int)=check a b) (0<=c/\c<(Qbo2 a)/\ ∀(e:Bool),e= ! decide (nextOK (a.getD c.toNat default).2.1 b)->((! e)->((! e)->(! e))/\((! e)->(! e))/\0<=c/\c<(Qbo2 a)/\True)/\((! e)->((!
 e)->(! e))/\True)/\((! e)->((! e)->(! e))/\True)/\((! e)->((! e)->(! e))/\True)/\(e=false->(! e))/\ ∀(f:Bool),(f=bif e then true else decide ((a.getD c.toNat default).2.2<1))->((! f)->((! f)->(! f))/\((! f)->(! f))/\0<=c/\c<(Qbo2 a)/\True)/\(Qbo8 f)/\(Qbo8 f)/\(Qbo8 f)/\(f=false->(! f))/\ifP (bif f then true else decide (3<(a.getD c.toNat default).2.2)) ((12:Int)=check a b) (∃(g:Int),(0<=g/\g<=(Qbo2 a)/\check a b=chk b (prevR a g) (List.drop g.toNat a))/\Int.toNat ((Qbo2 a) -g)<Int.toNat ((Qbo2 a) -c)/\a=a/\b=b/\IntKind.wrap .i64 (c+(1:Int))=g/\True)))) ((0:Int)=check a b)):=by
  delta Qbo2 Qbo7 Qbo8 Qbo13 Qbo21
  rintro l ks ⟨⟨hl,-⟩,-⟩ -
  simp only [maxLen] at hl
  refine ifP_split (fun hb => ?_) (fun hb => ?_)
  · rw [check,if_pos (of_decide_eq_true hb)]
  · have hb:=of_decide_eq_false hb
    refine ⟨⟨0,⟨by omega,by omega,by rw [check,if_neg hb];rfl⟩,(by repeat' first|exact trivial|refine ⟨trivial,?_⟩|refine ⟨(by with_reducible rfl),?_⟩|refine ⟨w64 (by omega) (by omega),?_⟩|refine ⟨rfl,?_⟩)⟩,?_⟩
    rintro i ⟨h0,h1,h2⟩
    rw [h2]
    refine ifP_split (fun hi => ?_) (fun hi => ?_)
    · have hi:=of_decide_eq_true hi
      rw [chk_at h0 hi,w64 (n:=i-1) (by omega) (by omega)]
      refine ⟨h0,hi,ifP_split (fun hc => ?_) (fun hc => ?_)⟩
      · simp only [Bool.not_eq_true'] at hc
        rw [if_pos hc]
      · simp only [Bool.not_eq_false'] at hc
        rw [if_neg (by simp [-List.getD_eq_getElem?_getD,-Int.default_eq_zero,hc])]
        (repeat (intro (b_:Bool) (hb_:b_=_);(repeat refine ⟨(by first|(simp;done)|(rw [hb_];simp;done)|(rw [hb_];simp;omega)|(rw [hb_];simp;intros;omega)|(rw [hb_];simp +contextual;done)),?_⟩);subst hb_))
        have he:(Option.any (fun q=>decide (0<=pcmp q (l.getD i.toNat default).1)) (prevR l i))=(bif decide (0<i) then decide (0<=pcmp (l.getD (i-1).toNat default).1 (l.getD i.toNat default).1) else false):=by
          unfold prevR
          by_cases e:i=0
          · simp [e]
          · rw [if_neg e,Option.any_some];simp [show 0<i from by omega]
        rw [he]
        refine ifP_split (fun hd => ?_) (fun hd => ?_)
        · rw [if_pos hd]
        · rw [if_neg (by rw [hd];decide)]
          refine ⟨h0,hi,?_⟩
          (repeat (intro (b_:Bool) (hb_:b_=_);(repeat refine ⟨(by first|(simp;done)|(rw [hb_];simp;done)|(rw [hb_];simp;omega)|(rw [hb_];simp;intros;omega)|(rw [hb_];simp +contextual;done)),?_⟩);subst hb_))
          refine ifP_split (fun hr => ?_) (fun hr => ?_)
          · have hr:¬ rightR (l.getD i.toNat default) ks:=by
              rintro ⟨r1,r2,r3⟩
              simp [-List.getD_eq_getElem?_getD,-Int.default_eq_zero,Bool.cond_eq_ite] at hr
              rcases hr with (hr|hr)|hr
              · exact hr r1
              · omega
              · omega
            rw [if_pos hr]
          · have hr:rightR (l.getD i.toNat default) ks:=by
              simp [-List.getD_eq_getElem?_getD,-Int.default_eq_zero,Bool.cond_eq_ite] at hr
              exact ⟨hr.1.1,by omega,by omega⟩
            rw [if_neg (fun h=>h hr)]
            refine ⟨i+1,⟨by omega,by omega,?_⟩,by omega,(by repeat' first|exact trivial|refine ⟨trivial,?_⟩|refine ⟨(by with_reducible rfl),?_⟩|refine ⟨w64 (by omega) (by omega),?_⟩|refine ⟨rfl,?_⟩)⟩
            rw [prevR,if_neg (by omega),show i+1-1=i from by omega]
    · have hi:=of_decide_eq_false hi
      rw [List.drop_eq_nil_of_le (by omega),chk]
theorem ok_ref09_Check:SpecOK Tryd.prog GL 50 ct_ref09_Check.spec:=Ct.okH _ Tryd.func50 (by kernel_rfl) (withSpec_ok (withSpec_ok (withSpec_ok noSpecs_ok ok_ref09_next) ok_ref01_Valid) ok_ref01_Compare) hmix an_ref09_Check (hideMp (by kernel_rfl) vc_ref09_Check)
theorem take_at {l:List Rt} {i:Int} (h0:0<=i) (h1:i<l.length):l.take (i+1).toNat=l.take i.toNat++[l.getD i.toNat default]:=by
  have hj:i.toNat<l.length:=by omega
  rw [show (i+1).toNat=i.toNat+1 from by omega,List.take_succ_eq_append_getElem hj,List.getD_eq_getElem?_getD,List.getElem?_eq_getElem hj,Option.getD_some]
theorem putL_lo {m:List Rt} {r:Rt} (h:∀ z∈m,plt z.1 r.1):putL m r=m++[r]:=by
  rw [putL,List.filter_eq_self.2 (fun z hz=>decide_eq_true (h z hz)),List.filter_eq_nil_iff.2 (fun z hz=>by simpa using plt_asymm (h z hz))]
theorem putL_snoc {m:List Rt} {r e:Rt} (h:plt r.1 e.1):putL (m++[e]) r=putL m r++[e]:=by
  rw [putL,putL,List.filter_append,List.filter_append,List.filter_cons,if_neg (by simpa using plt_asymm h),List.filter_cons,if_pos (by simpa using h)]
  simp
theorem putL_same {m:List Rt} {r e:Rt} (h:∀ z∈m,plt z.1 r.1) (he:e.1=r.1):putL (m++[e]) r=m++[r]:=by
  have hi:¬ plt e.1 r.1:=by rw [he];exact plt_irrefl _
  have hj:¬ plt r.1 e.1:=by rw [he];exact plt_irrefl _
  have f1:m.filter (fun a=>decide (plt a.1 r.1))=m:=List.filter_eq_self.2 (fun z hz=>decide_eq_true (h z hz))
  have f2:m.filter (fun a=>decide (plt r.1 a.1))=[]:=List.filter_eq_nil_iff.2 (fun z hz=>by simpa using plt_asymm (h z hz))
  simp [putL,f1,f2,hi,hj]
theorem later {l:List Rt} {p:Pfx} {i:Int} (hs:sortedR l) (h0:0<=i) (h1:i<l.length) {z:Rt} (hz:z∈l.take i.toNat) (hp:¬ plt z.1 p):plt p (l.getD i.toNat default).1:=by
  have hsp:=place_split h0 h1
  unfold sortedR at hs
  rw [hsp] at hs
  have:=(List.pairwise_append.1 hs).2.2 z hz _ List.mem_cons_self
  rcases plt_total hp with e|h
  · rw [← e];exact this
  · exact plt_trans h this
def ct_ref09_Put:Ct:=⟨[.val (.sl cRt),.agg cRt],[.own 49 cRt],fun d=>[sortedR d.1,okL d.1,(d.2.1.2.1.length:Int)<=1099511627776],fun d=>((putL d.1 d.2.1,()),())⟩
def an_ref09_Put:PDs ct_ref09_Put.ps->Anns:=(fun d=>{loops:=(fun n=>match n with|4=>some (fun S=>{ι:=Int×Bool×(List Rt),qn:=⟨fun k_=>∀ (i:Int) (dn:Bool) (ys:(List Rt)),k_ (i,dn,ys),fun k_ h_ i=>h_ i.1 i.2.1 i.2.2,fun k_=>∃ (i:Int) (dn:Bool) (ys:(List Rt)),k_ (i,dn,ys),fun k_ ⟨i,dn,ys,h_⟩=>⟨_,h_⟩⟩,μ:=fun i=>(d.1.length-i.1).toNat,inv:=fun i=>0<=i.1/\i.1<=d.1.length/\(i.2.2.length:Int)<=i.1+1/\(i.2.1=false->(∀ z∈d.1.take i.1.toNat,plt z.1 d.2.1.1)/\i.2.2=d.1.take i.1.toNat)/\(i.2.1=true->(∃ z∈d.1.take i.1.toNat,¬ plt z.1 d.2.1.1)/\i.2.2=putL (d.1.take i.1.toNat) d.2.1),keep:=[0,3],slots:=fun i=>[(5,.own 524288 4),(6,.bool i.2.1),(7,.int .i64 i.1)],keepN:=[64],names:=fun i=>[(524288,.live (.row 49 cRt i.2.2))]})|_=>none)})
def Qbo1 (a:List Route) (b c:Int) (d:List Int) (e j:Int) (k:Bool) (l:List Rt) :=
 0<=j/\j<=(Qbo2 a)/\(l.length:Int)<=j+(1:Int)/\(k=false->(∀(m:Route),m∈List.take j.toNat a->plt m.1 (b,c))/\l=List.take j.toNat a)/\(k=true->(∃(m:Route),m∈List.take j.toNat a/\ ¬plt m.1 (b,c))/\l=putL (List.take j.toNat a) ((b,c),d,e))
def Qbo10 (a:List Route) (b c:Int) (d:List Int) (e f:Int) (g:Bool) (h:List Rt) :=
 f<=(Qbo2 a)/\(h.length:Int)<=f+(1:Int)/\(g=false->(∀(i:Route),i∈List.take f.toNat a->plt i.1 (b,c))/\h=List.take f.toNat a)/\(g=true->(∃(i:Route),i∈List.take f.toNat a/\ ¬plt i.1 (b,c))/\h=putL (List.take f.toNat a) ((b,c),d,e))
theorem vc_ref09_Put :
 ∀(a:List Route) (b c:Int) (d:List Int) (e:Int),(Qbo11 a)/\(((0<=b/\b<=4294967295)/\R64 c)/\(d.length<=maxLen/\ ∀(f:Int),f∈d->R64 f)/\R64 e)/\True->sortedR a/\okL a/\(d.length:Int)<=1099511627776->(∃(f:Int) (g:Bool),∃(h:List Rt),(0<=f/\(Qbo10 a b c d e f g h))/\a=a/\false=g/\(0:Int)=f/\b=b/\c=c/\d=d/\e=e/\h=([]:List Route)/\True)/\ ∀(f:Int) (g:Bool) (h:List Rt),0<=f/\(Qbo10 a b c d e f g h)->ifP (decide (f<(Qbo2 a))) (0<=f/\f<(Qbo2 a)/\ ∀(i:Bool),i=decide (0<=pcmp (a.getD f.toNat default).1 (b,c))->(i->(i->i)/\True)/\(i->i)/\ifP (bif i then ! g else false) ((d.length:Int)<=1099511627776/\(h.length+List.length [((b,c),d,e)])*(48:Nat)<=(Qbo20)/\ifP (! decide (pcmp (a.getD f.toNat default).1 (b,c)=0)) (0<=f/\f<(Qbo2 a)/\((List.length (a.getD f.toNat default).2.1):Int)<=1099511627776/\(List.length (h++[((b,c),d,e)])+List.length [a.getD f.toNat default])*(48:Nat)<=(Qbo20)/\ ∃(j:Int)
 (k:Bool),∃(l:List Rt),(Qbo1 a b c d e j k l)/\Int.toNat ((Qbo2 a) -j)<Int.toNat ((Qbo2 a) -f)/\a=a/\true=k/\IntKind.wrap .i64 (f+(1:Int))=j/\b=b/\c=c/\d=d/\e=e/\h++[((b,c),d,e)]++[a.getD f.toNat default]=l/\True) (∃(j:Int) (k:Bool),∃(l:List Rt),(Qbo1 a b c d e j k l)/\Int.toNat ((Qbo2 a) -j)<Int.toNat ((Qbo2 a) -f)/\a=a/\true=k/\IntKind.wrap .i64 (f+(1:Int))=j/\b=b/\c=c/\d=d/\e=e/\h++[((b,c),d,e)]=l/\True)) (ifP (! decide (pcmp (a.getD f.toNat default).1 (b,c)=0)) (0<=f/\f<(Qbo2 a)/\((List.length (a.getD f.toNat default).2.1):Int)<=1099511627776/\(h.length+List.length [a.getD f.toNat default])*(48:Nat)<=(Qbo20)/\ ∃(j:Int) (k:Bool),∃(l:List Rt),(Qbo1 a b c d e j k l)/\Int.toNat ((Qbo2 a) -j)<Int.toNat ((Qbo2 a) -f)/\a=a/\g=k/\IntKind.wrap .i64 (f+(1:Int))=j/\b=b/\c=c/\d=d/\e=e/\h++[a.getD f.toNat default]=l/\True) (∃(j:Int) (k:Bool),∃(l:List Rt),(Qbo1 a b c d e j k l)/\Int.toNat ((Qbo2 a)
 -j)<Int.toNat ((Qbo2 a) -f)/\a=a/\g=k/\IntKind.wrap .i64 (f+(1:Int))=j/\b=b/\c=c/\d=d/\e=e/\h=l/\True))) (ifP (! g) ((d.length:Int)<=1099511627776/\(h.length+List.length [((b,c),d,e)])*(48:Nat)<=(Qbo20)/\h++[((b,c),d,e)]=putL a ((b,c),d,e)) (h=putL a ((b,c),d,e))):=by
  delta Qbo1 Qbo2 Qbo10 Qbo11 Qbo20
  rintro l a n nx b ⟨⟨hl0,-⟩,-⟩ ⟨hs,⟨hl,hx⟩,hn⟩
  refine ⟨⟨0,false,[],⟨by omega,by omega,by simp,fun _=>by simp,fun h=>by simp at h⟩,(by repeat' first|exact trivial|refine ⟨trivial,?_⟩|refine ⟨(by with_reducible rfl),?_⟩|refine ⟨w64 (by omega) (by omega),?_⟩|refine ⟨rfl,?_⟩)⟩,?_⟩
  rintro i dn ys ⟨h0,h1,h2,h3,h4⟩
  refine ifP_split (fun hi => ?_) (fun hi => ?_)
  · have hi:=of_decide_eq_true hi
    have ht:=take_at h0 hi
    have hxi:=hx _ (getD_mem h0 hi)
    have hlt:∀ (z:Rt),z∈l.take i.toNat->z∈l.take (i+1).toNat:=fun z hz=>by rw [ht];exact List.mem_append_left _ hz
    have hsi:l.getD i.toNat default∈l.take (i+1).toNat:=by rw [ht];simp [-List.getD_eq_getElem?_getD,-Int.default_eq_zero]
    have hlater:=fun z hz hp=>later (p:=(a,n)) (z:=z) hs h0 hi hz hp
    generalize l.getD i.toNat default=e at *
    refine ⟨h0,hi,?_⟩
    (repeat (intro (b_:Bool) (hb_:b_=_);(repeat refine ⟨(by first|(simp;done)|(rw [hb_];simp;done)|(rw [hb_];simp;omega)|(rw [hb_];simp;intros;omega)|(rw [hb_];simp +contextual;done)),?_⟩);subst hb_))
    refine ifP_split (fun hc => ?_) (fun hc => ?_)
    · have hq:¬ plt e.1 (a,n)/\dn=false:=by rw [← pcmp_nonneg];simpa [Bool.cond_eq_ite] using hc
      clear hc
      obtain ⟨hc,rfl⟩:=hq
      obtain ⟨k1,rfl⟩:=h3 rfl
      refine ⟨hn,by simp only [List.length_singleton];omega,ifP_split (fun hz => ?_) (fun hz => ?_)⟩
      · have hz:¬ pcmp e.1 (a,n)=0:=by simpa using hz
        have hgt:plt (a,n) e.1:=by
          rcases plt_total hc with h|h
          · exact absurd (pcmp_zero.2 h) hz
          · exact h
        refine ⟨h0,hi,hxi,by simp only [List.length_append,List.length_singleton];omega,i+1,true,_,⟨by omega,by omega,?_,by simp,fun _=>⟨⟨e,hsi,hc⟩,rfl⟩⟩,by omega,rfl,rfl,w64 (by omega) (by omega),rfl,rfl,rfl,rfl,?_,trivial⟩
        · rw [ht,putL_snoc hgt,putL_lo k1];simp only [List.length_append,List.length_singleton,List.length_take];omega
        · rw [ht,putL_snoc hgt,putL_lo k1]
      · have hz:pcmp e.1 (a,n)=0:=by simpa using hz
        have hz:=pcmp_zero.1 hz
        refine ⟨i+1,true,_,⟨by omega,by omega,?_,by simp,fun _=>⟨⟨e,hsi,hc⟩,rfl⟩⟩,by omega,rfl,rfl,w64 (by omega) (by omega),rfl,rfl,rfl,rfl,?_,trivial⟩
        · rw [ht,putL_same k1 hz];simp only [List.length_append,List.length_singleton,List.length_take];omega
        · rw [ht,putL_same k1 hz]
    · have hc:¬ (¬ plt e.1 (a,n)/\dn=false):=by rw [← pcmp_nonneg];simpa [Bool.cond_eq_ite] using hc
      cases dn with
      | false =>
        have hc:plt e.1 (a,n):=Classical.byContradiction fun h=>hc ⟨h,rfl⟩
        obtain ⟨k1,rfl⟩:=h3 rfl
        have hz:¬ pcmp e.1 (a,n)=0:=by have:=pcmp_neg.2 hc;omega
        rw [decide_eq_false hz]
        refine ⟨h0,hi,hxi,by simp only [List.length_singleton];omega,i+1,false,_,⟨by omega,by omega,?_,fun _=>⟨?_,rfl⟩,by simp⟩,by omega,rfl,rfl,w64 (by omega) (by omega),rfl,rfl,rfl,rfl,ht.symm,trivial⟩
        · simp only [List.length_take];omega
        · rw [ht];intro z hz
          rcases List.mem_append.1 hz with hz|hz
          · exact k1 z hz
          · rw [List.mem_singleton.1 hz];exact hc
      | true =>
        obtain ⟨⟨z,z1,z2⟩,rfl⟩:=h4 rfl
        have hgt:=hlater z z1 z2
        have hz:¬ pcmp e.1 (a,n)=0:=fun h=>by have h:=pcmp_zero.1 h;rw [h] at hgt;exact plt_irrefl _ hgt
        rw [decide_eq_false hz]
        have hp:=putL_snoc (m:=l.take i.toNat) (r:=((a,n),nx,b)) hgt
        refine ⟨h0,hi,hxi,by simp only [List.length_singleton];omega,i+1,true,_,⟨by omega,by omega,?_,by simp,fun _=>⟨⟨z,hlt z z1,z2⟩,rfl⟩⟩,by omega,rfl,rfl,w64 (by omega) (by omega),rfl,rfl,rfl,rfl,?_,trivial⟩
        · rw [ht,hp,List.length_append,List.length_singleton];omega
        · rw [ht,hp]
  · have hi:=of_decide_eq_false hi
    rw [List.take_of_length_le (by omega)] at h3 h4
    refine ifP_split (fun hd => ?_) (fun hd => ?_)
    · obtain ⟨k1,rfl⟩:=h3 (by simpa using hd)
      exact ⟨hn,by simp only [List.length_singleton];omega,(putL_lo k1).symm⟩
    · exact (h4 (by simpa using hd)).2
theorem ok_ref09_Put:SpecOK Tryd.prog GL 54 ct_ref09_Put.spec:=Ct.okH _ Tryd.func54 (by kernel_rfl) (withSpec_ok (withSpec_ok noSpecs_ok ok_ref09_copied) ok_ref01_Compare) hmix an_ref09_Put (hideMp (by kernel_rfl) vc_ref09_Put)
theorem removeL_snoc {m:List Rt} {p:Pfx} {e:Rt}:removeL (m++[e]) p=removeL m p++(if e.1=p then [] else [e]):=by
  rw [removeL,removeL,List.filter_append,List.filter_cons,List.filter_nil]
  by_cases h:e.1=p <;> simp [h]
theorem removeL_le (m:List Rt) (p:Pfx):(removeL m p).length<=m.length:=List.length_filter_le _ _
def ct_ref09_Remove:Ct:=⟨[.val (.sl cRt),.agg cPfx],[.own 49 cRt],fun d=>[okL d.1],fun d=>((removeL d.1 d.2.1,()),())⟩
def an_ref09_Remove:PDs ct_ref09_Remove.ps->Anns:=(fun d=>{loops:=(fun n=>match n with|3=>some (fun S=>{ι:=Int×(List Rt),qn:=⟨fun k_=>∀ (i:Int) (ys:(List Rt)),k_ (i,ys),fun k_ h_ i=>h_ i.1 i.2,fun k_=>∃ (i:Int) (ys:(List Rt)),k_ (i,ys),fun k_ ⟨i,ys,h_⟩=>⟨_,h_⟩⟩,μ:=fun i=>(d.1.length-i.1).toNat,inv:=fun i=>0<=i.1/\i.1<=d.1.length/\i.2=removeL (d.1.take i.1.toNat) d.2.1,keep:=[0,3],slots:=fun i=>[(5,.own 524288 4),(6,.int .i64 i.1)],keepN:=[64],names:=fun i=>[(524288,.live (.row 49 cRt i.2))]})|_=>none)})
theorem vc_ref09_Remove :
 ∀(a:List Route) (b c:Int),(Qbo3 a)/\((0<=b/\b<=4294967295)/\R64 c)/\True->(Qbo14 a)->(∃(d:Int) (e:List Rt),(0<=d/\d<=(Qbo2 a)/\e=removeL (List.take d.toNat a) (b,c))/\a=a/\(0:Int)=d/\b=b/\c=c/\e=([]:List Route)/\True)/\ ∀(d:Int) (e:List Rt),0<=d/\d<=(Qbo2 a)/\e=removeL (List.take d.toNat a) (b,c)->ifP (decide (d<(Qbo2 a))) (0<=d/\d<(Qbo2 a)/\ifP (! (decide ((a.getD d.toNat default).1.1=b)&&(decide ((a.getD d.toNat default).1.2=c)&&true))) (0<=d/\d<(Qbo2 a)/\((List.length (a.getD d.toNat default).2.1):Int)<=1099511627776/\(e.length+List.length [a.getD d.toNat default])*(48:Nat)<=(Qbo20)/\ ∃(f:Int) (g:List Rt),(0<=f/\f<=(Qbo2 a)/\g=removeL (List.take f.toNat a) (b,c))/\Int.toNat ((Qbo2 a) -f)<Int.toNat ((Qbo2 a) -d)/\a=a/\IntKind.wrap .i64 (d+(1:Int))=f/\b=b/\c=c/\e++[a.getD d.toNat default]=g/\True) (∃(f:Int) (g:List Rt),(0<=f/\f<=(Qbo2 a)/\g=removeL (List.take f.toNat a) (b,c))/\Int.toNat
 ((Qbo2 a) -f)<Int.toNat ((Qbo2 a) -d)/\a=a/\IntKind.wrap .i64 (d+(1:Int))=f/\b=b/\c=c/\e=g/\True)) (e=removeL a (b,c)):=by
  delta Qbo2 Qbo3 Qbo14 Qbo20
  rintro l a n ⟨⟨hl0,-⟩,-⟩ ⟨hl,hx⟩
  refine ⟨⟨0,[],⟨by omega,by omega,by simp [removeL]⟩,(by repeat' first|exact trivial|refine ⟨trivial,?_⟩|refine ⟨(by with_reducible rfl),?_⟩|refine ⟨w64 (by omega) (by omega),?_⟩|refine ⟨rfl,?_⟩)⟩,?_⟩
  rintro i ys ⟨h0,h1,rfl⟩
  refine ifP_split (fun hi => ?_) (fun hi => ?_)
  · have hi:=of_decide_eq_true hi
    have ht:=take_at h0 hi
    have hxi:=hx _ (getD_mem h0 hi)
    have hle:=removeL_le (l.take i.toNat) (a,n)
    have hle2:(l.take i.toNat).length<=l.length:=by simp only [List.length_take];omega
    generalize l.getD i.toNat default=e at *
    obtain ⟨⟨c,f⟩,g⟩:=e
    refine ⟨h0,hi,ifP_split (fun hc => ?_) (fun hc => ?_)⟩
    · have hc:¬ (c,f)=(a,n):=by
        intro h;cases h;simp at hc
      refine ⟨h0,hi,hxi,by simp only [List.length_singleton];omega,i+1,_,⟨by omega,by omega,rfl⟩,by omega,rfl,w64 (by omega) (by omega),rfl,rfl,?_,trivial⟩
      rw [ht,removeL_snoc,if_neg hc]
    · have hc:(c,f)=(a,n):=by
        simp at hc;rw [hc.1,hc.2]
      refine ⟨i+1,_,⟨by omega,by omega,rfl⟩,by omega,rfl,w64 (by omega) (by omega),rfl,rfl,?_,trivial⟩
      rw [ht,removeL_snoc,if_pos hc,List.append_nil]
  · have hi:=of_decide_eq_false hi
    rw [List.take_of_length_le (by omega)]
theorem ok_ref09_Remove:SpecOK Tryd.prog GL 72 ct_ref09_Remove.spec:=Ct.okH _ Tryd.func72 (by kernel_rfl) (withSpec_ok noSpecs_ok ok_ref09_copied) hmix an_ref09_Remove (hideMp (by kernel_rfl) vc_ref09_Remove)
def hasL (l:List Rt) (p:Pfx):Bool:=decide ((removeL l p).length<l.length)
def ct_ref09_Has:Ct:=⟨[.val (.sl cRt),.agg cPfx],[.val .bool],fun d=>[okL d.1],fun d=>((hasL d.1 d.2.1,()),())⟩
def an_ref09_Has:PDs ct_ref09_Has.ps->Anns:=(fun _=>{})
theorem vc_ref09_Has :
 ∀(a:List Route) (b c:Int),(Qbo3 a)/\((0<=b/\b<=4294967295)/\R64 c)/\True->(Qbo14 a)->okL a/\decide (((List.length (removeL a (b,c))):Int)<(Qbo2 a))=hasL a (b,c):=by
  delta Qbo2 Qbo3 Qbo14
  rintro l a n-h
  exact ⟨h,decide_eq_decide.2 Int.ofNat_lt⟩
theorem ok_ref09_Has:SpecOK Tryd.prog GL 52 ct_ref09_Has.spec:=Ct.okH _ Tryd.func52 (by kernel_rfl) (withSpec_ok noSpecs_ok ok_ref09_Remove) hmix an_ref09_Has (hideMp (by kernel_rfl) vc_ref09_Has)
end Go.RS

/- Law09: the laws of forwarding tables. -/
namespace Go.RS
open Go.SX Go.Proofs
set_option maxRecDepth 100000
set_option linter.unusedVariables false
theorem putL_mem {l:List Rt} {r z:Rt}:z∈putL l r↔z=r∨(z∈l/\z.1≠r.1):=by
  unfold putL
  simp only [List.mem_append,List.mem_cons,List.mem_filter,decide_eq_true_eq]
  constructor
  · rintro (⟨h,k⟩|h|⟨h,k⟩)
    · exact .inr ⟨h,fun e=>plt_irrefl _ (e▸k)⟩
    · exact .inl h
    · exact .inr ⟨h,fun e=>plt_irrefl _ (e▸k)⟩
  · rintro (h|⟨h,k⟩)
    · exact .inr (.inl h)
    · by_cases hp:plt z.1 r.1
      · exact .inl ⟨h,hp⟩
      · rcases plt_total hp with e|e
        · exact absurd e k
        · exact .inr (.inr ⟨h,e⟩)
theorem putL_sorted {l:List Rt} {r:Rt} (hs:sortedR l):sortedR (putL l r):=by
  unfold sortedR putL
  refine List.pairwise_append.2 ⟨List.Pairwise.filter _ hs,List.pairwise_cons.2 ⟨fun z hz => ?_,List.Pairwise.filter _ hs⟩,fun x hx y hy => ?_⟩
  · simpa using (List.mem_filter.1 hz).2
  · have hx:plt x.1 r.1:=by simpa using (List.mem_filter.1 hx).2
    rcases List.mem_cons.1 hy with rfl|hy
    · exact hx
    · exact plt_trans hx (by simpa using (List.mem_filter.1 hy).2)
theorem putL_len (l:List Rt) (r:Rt):(putL l r).length<=l.length+1:=by
  unfold putL
  rw [List.length_append,List.length_cons]
  suffices h:(l.filter (fun a=>decide (plt a.1 r.1))).length+(l.filter (fun a=>decide (plt r.1 a.1))).length<=l.length by omega
  induction l with
  | nil=>simp
  | cons a l ih =>
    simp only [List.filter_cons]
    by_cases h1:plt a.1 r.1
    · have h2:=plt_asymm h1
      simp only [h1,h2,decide_true,decide_false,if_true,List.length_cons]
      simp;omega
    · by_cases h2:plt r.1 a.1
      · simp [h1,h2];omega
      · simp [h1,h2];omega
theorem hasL_iff (l:List Rt) (p:Pfx):hasL l p=decide (∃ z∈l,z.1=p):=by
  unfold hasL removeL
  apply decide_eq_decide.2
  rw [List.length_filter_lt_length_iff_exists]
  simp
end Go.RS

/- Bucket: buckets and their laws' times. -/
namespace Go.RS
open Go.SX Go.Proofs
set_option maxRecDepth 100000
set_option linter.unusedVariables false
abbrev w (n:Int):Int:=IntKind.i64.wrap n
def ct_bucket_unlimited:Ct:=⟨[.agg cBucket],[.val .bool],fun _=>[],fun d=>((decide (d.1=(0,0)),()),())⟩
def an_bucket_unlimited:PDs ct_bucket_unlimited.ps->Anns:=(fun _=>{})
theorem vc_bucket_unlimited :
 ∀(a b:Int),(R64 a/\R64 b)/\True->True->(decide (a=0)&&(decide (b=0)&&true))=decide ((a,b)=((0:Int),(0:Int))):=by
  rintro x y - -
  simp
theorem ok_bucket_unlimited:SpecOK Tryd.prog GL 75 ct_bucket_unlimited.spec:=Ct.okH _ Tryd.func75 (by kernel_rfl) noSpecs_ok hmix an_bucket_unlimited (hideMp (by kernel_rfl) vc_bucket_unlimited)
def okT (up:Bool) (l:List Int):Prop:=l.length<=39/\(∀ x∈l,0<=x/\x<=8000)/\(up=true->l.Pairwise (· ≤ ·))
end Go.RS

/- Nodec: the parts and the errors of a node. -/
namespace Go.RS
open Go.SX Go.Proofs
set_option maxRecDepth 100000
set_option linter.unusedVariables false
def bCheck (b:Int×Int):Int:=if b=(0,0)∨(1<=b.1/\b.1<=65536/\1<=b.2/\b.2<=1073741824) then 0 else 1
def pLinks (x:Node):List Int:=(nPorts x).map (·.2)
def pAddrs (x:Node):List Int:=(nPorts x).map (·.1)
def findP (q:Int×Int->Bool) (l:List (Int×Int)):Int:=if l.findIdx q<l.length then (l.findIdx q:Int) else -1
def isA (a:Int) (p:Int×Int):Bool:=decide (p.1=a)
def isL (k:Int) (p:Int×Int):Bool:=decide (p.2=k)
def portA (x:Node) (a:Int):Int:=findP (isA a) (nPorts x)
def portL (x:Node) (k:Int):Int:=findP (isL k) (nPorts x)
def ownsA (x:Node) (a:Int):Bool:=decide (0<=portA x a)||(!decide (nLoop x=0)&&decide (nLoop x=a))
theorem take_step {α:Type} [Inhabited α] {l:List α} {k:Int} (h0:0<=k) (h1:k<l.length):l.take (k+1).toNat=l.take k.toNat++[l.getD k.toNat default]:=by
  rw [show (k+1).toNat=k.toNat+1 by omega,List.take_add_one,List.getElem?_eq_getElem (by omega),List.getD_eq_getElem?_getD,List.getElem?_eq_getElem (by omega)];rfl
def ct_bucket_Check:Ct:=⟨[.agg cBucket],[.val cI],fun _=>[],fun d=>((bCheck d.1,()),())⟩
def an_bucket_Check:PDs ct_bucket_Check.ps->Anns:=(fun _=>{})
theorem vc_bucket_Check :
 ∀(a b:Int),(R64 a/\R64 b)/\True->True-> ∀(c:Bool),c= ! decide ((a,b)=((0:Int),(0:Int)))->(c->(c->c)/\True)/\(c->(c->c)/\True)/\(c->(c->c)/\True)/\ ∀(d:Bool),d=decide (a<1)->((c&& ! d)->((c&& ! d)->(c&& ! d))/\True)/\((c&& ! d)->((c&& ! d)->(c&& ! d))/\True)/\(c->(c->c)/\(d=false->(c&& ! d))/\True)/\(c->(c->c)/\True)/\ ∀(e:Bool),(e=bif d then true else decide (65536<a))->((c&& ! e)->((c&& ! e)->(c&& ! e))/\True)/\((c&& ! e)->((c&& ! e)->(c&& ! e))/\True)/\(c->(c->c)/\(e=false->(c&& ! e))/\True)/\(c->(c->c)/\True)/\ ∀(f:Bool),(f=bif e then true else decide (b<1))->((c&& ! f)->((c&& ! f)->(c&& ! f))/\True)/\((c&& ! f)->((c&& ! f)->(c&& ! f))/\True)/\(c->(c->c)/\(f=false->(c&& ! f))/\True)/\(c->c)/\ifP (bif c then bif f then true else decide (1073741824<b) else false) ((1:Int)=bCheck (a,b)) ((0:Int)=bCheck (a,b)):=by
  rintro a b - -
  (repeat (intro (b_:Bool) (hb_:b_=_);(repeat refine ⟨(by first|(simp;done)|(rw [hb_];simp;done)|(rw [hb_];simp;omega)|(rw [hb_];simp;intros;omega)|(rw [hb_];simp +contextual;done)),?_⟩);subst hb_))
  unfold bCheck
  refine ifP_split (fun h => ?_) (fun h => ?_)
  · simp at h
    rw [if_neg (by simp;omega)]
  · simp at h
    rw [if_pos (by simp;omega)]
theorem ok_bucket_Check:SpecOK Tryd.prog GL 58 ct_bucket_Check.spec:=Ct.okH _ Tryd.func58 (by kernel_rfl) (withSpec_ok noSpecs_ok ok_bucket_unlimited) hmix an_bucket_Check (hideMp (by kernel_rfl) vc_bucket_Check)
def ct_ref12_Check:Ct:=⟨[.agg cBucket],[.val cI],fun _=>[],fun d=>((bCheck d.1,()),())⟩
def an_ref12_Check:PDs ct_ref12_Check.ps->Anns:=(fun _=>{})
def Qbr2 (c:Bool) :=
 (! c)->((! c)->(! c))/\True
theorem vc_ref12_Check :
 ∀(a b:Int),(R64 a/\R64 b)/\True->True-> ∀(c:Bool),c=(decide (a=0)&&(decide (b=0)&&true))->(Qbr2 c)/\(Qbr2 c)/\(Qbr2 c)/\ ∀(d:Bool),d=decide (1<=a)->((! c&&d)->((! c&&d)->(! c&&d))/\True)/\((! c&&d)->((! c&&d)->(! c&&d))/\True)/\((! c)->((! c)->(! c))/\(d->(! c&&d))/\True)/\(Qbr2 c)/\ ∀(e:Bool),(e=bif d then decide (a<=65536) else false)->((! c&&e)->((! c&&e)->(! c&&e))/\True)/\((! c&&e)->((! c&&e)->(! c&&e))/\True)/\((! c)->((! c)->(! c))/\(e->(! c&&e))/\True)/\(Qbr2 c)/\ ∀(f:Bool),(f=bif e then decide (1<=b) else false)->((! c&&f)->((! c&&f)->(! c&&f))/\True)/\((! c&&f)->((! c&&f)->(! c&&f))/\True)/\((! c)->((! c)->(! c))/\(f->(! c&&f))/\True)/\(c=false->(! c))/\ifP (bif c then true else bif f then decide (b<=1073741824) else false) ((0:Int)=bCheck (a,b)) ((1:Int)=bCheck (a,b)):=by
  delta Qbr2
  rintro a b - -
  (repeat (intro (b_:Bool) (hb_:b_=_);(repeat refine ⟨(by first|(simp;done)|(rw [hb_];simp;done)|(rw [hb_];simp;omega)|(rw [hb_];simp;intros;omega)|(rw [hb_];simp +contextual;done)),?_⟩);subst hb_))
  unfold bCheck
  refine ⟨by intro h;rw [h];rfl,?_⟩
  refine ifP_split (fun h => ?_) (fun h => ?_)
  · simp at h
    rw [if_pos (by simp;omega)]
  · simp at h
    rw [if_neg (by simp;omega)]
theorem ok_ref12_Check:SpecOK Tryd.prog GL 49 ct_ref12_Check.spec:=Ct.okH _ Tryd.func49 (by kernel_rfl) noSpecs_ok hmix an_ref12_Check (hideMp (by kernel_rfl) vc_ref12_Check)
def ct_node_usable:Ct:=⟨[.val cU32],[.val .bool],fun d=>[],fun d=>((decide (usable d.1),()),())⟩
def an_node_usable:PDs ct_node_usable.ps->Anns:=(fun _=>{})
theorem vc_node_usable :
 ∀(a:Int),(0<=a/\a<=4294967295)/\True->True-> ∀(b:Bool),b=decide (special a=0)->((! b)->((! b)->(! b))/\True)/\(b=false->(! b))/\(bif b then true else decide (special a=3))=decide (usable a):=by
  rintro a - -
  (repeat (intro (b_:Bool) (hb_:b_=_);(repeat refine ⟨(by first|(simp;done)|(rw [hb_];simp;done)|(rw [hb_];simp;omega)|(rw [hb_];simp;intros;omega)|(rw [hb_];simp +contextual;done)),?_⟩);subst hb_))
  rw [Bool.eq_iff_iff,decide_eq_true_iff];simp [usable,Bool.cond_eq_ite]
theorem ok_node_usable:SpecOK Tryd.prog GL 55 ct_node_usable.spec:=Ct.okH _ Tryd.func55 (by kernel_rfl) (withSpec_ok noSpecs_ok ok_address_Special) hmix an_node_usable (hideMp (by kernel_rfl) vc_node_usable)
def ct_node_port_1:Ct:=⟨[.agg cPort,.box 41 cU32],[.val .bool],fun d=>[],fun d=>((isA d.2.1 d.1,()),(d.2.1,()))⟩
def an_node_port_1:PDs ct_node_port_1.ps->Anns:=(fun _=>{})
theorem vc_node_port_1 :
 ∀(a b c:Int),((0<=a/\a<=4294967295)/\R64 b)/\(0<=c/\c<=4294967295)/\True->True->decide (a=c)=isA c (a,b)/\c=c:=by
  rintro a b c - -
  exact ⟨rfl,rfl⟩
theorem ok_node_port_1:SpecOK Tryd.prog GL 74 ct_node_port_1.spec:=Ct.okH _ Tryd.func74 (by kernel_rfl) noSpecs_ok hmix an_node_port_1 (hideMp (by kernel_rfl) vc_node_port_1)
def ct_node_PortOf_1:Ct:=⟨[.agg cPort,.box 3 cI],[.val .bool],fun d=>[],fun d=>((isL d.2.1 d.1,()),(d.2.1,()))⟩
def an_node_PortOf_1:PDs ct_node_PortOf_1.ps->Anns:=(fun _=>{})
theorem vc_node_PortOf_1 :
 ∀(a b c:Int),((0<=a/\a<=4294967295)/\R64 b)/\R64 c/\True->True->decide (b=c)=isL c (a,b)/\c=c:=by
  rintro a b c - -
  exact ⟨rfl,rfl⟩
theorem ok_node_PortOf_1:SpecOK Tryd.prog GL 61 ct_node_PortOf_1.spec:=Ct.okH _ Tryd.func61 (by kernel_rfl) noSpecs_ok hmix an_node_PortOf_1 (hideMp (by kernel_rfl) vc_node_PortOf_1)
def ct_IndexA:Ct:=⟨[.val (.sl cPort),.fn 74 1,.box 41 cU32],[.val cI],fun d=>[],fun d=>((findP (isA d.2.2.1) d.1,()),(d.2.2.1,()))⟩
def an_IndexA:PDs ct_IndexA.ps->Anns:=(fun d=>{loops:=(fun n=>match n with|2=>some (fun S=>{ι:=Int,μ:=fun i=>(d.1.length-i).toNat,inv:=fun i=>0<=i/\i<=d.1.length∧∀ x∈d.1.take i.toNat,isA d.2.2.1 x=false,keep:=[0,1,6,7],slots:=fun i=>[(8,.int .i64 i)],keepN:=[1048576],names:=fun i=>[]})|_=>none)})
def Qbr0 (a:List (Int×Int)) :=
 (a.length:Int)
theorem vc_IndexA :
 ∀(a:List (Int×Int)) (b:Int),(a.length<=maxLen/\ ∀(c:Int×Int),c∈a->(0<=c.1/\c.1<=4294967295)/\R64 c.2)/\True/\(0<=b/\b<=4294967295)/\True->True->(∃(c:Int),(0<=c/\c<=(Qbr0 a)/\ ∀(d:Int×Int),d∈List.take c.toNat a->isA b d=false)/\a=a/\a=a/\(Qbr0 a)=(Qbr0 a)/\(0:Int)=c/\b=b/\True)/\ ∀(c:Int),(0<=c/\c<=(Qbr0 a)/\ ∀(d:Int×Int),d∈List.take c.toNat a->isA b d=false)->ifP (decide (c<(Qbr0 a))) (0<=c/\c<(Qbr0 a)/\ifP (isA b (a.getD c.toNat default)) (c=findP (isA b) a/\b=b) (∃(d:Int),(0<=d/\d<=(Qbr0 a)/\ ∀(e:Int×Int),e∈List.take d.toNat a->isA b e=false)/\Int.toNat ((Qbr0 a) -d)<Int.toNat ((Qbr0 a) -c)/\a=a/\a=a/\(Qbr0 a)=(Qbr0 a)/\IntKind.wrap .i64 (c+(1:Int))=d/\b=b/\True)) ((-1:Int)=findP (isA b) a/\b=b):=by
  delta Qbr0
  rintro l a ⟨⟨hl,-⟩,-⟩ -
  simp only [maxLen] at hl
  refine ⟨⟨0,⟨by omega,by omega,by simp⟩,(by repeat' first|exact trivial|refine ⟨trivial,?_⟩|refine ⟨(by with_reducible rfl),?_⟩|refine ⟨w64 (by omega) (by omega),?_⟩|refine ⟨rfl,?_⟩)⟩,?_⟩
  rintro j ⟨j0,j1,hj⟩
  refine ifP_split (fun hk => ?_) (fun hk => ?_)
  · have hk:=of_decide_eq_true hk
    refine ⟨j0,hk,ifP_split (fun hm => ?_) (fun hm => ?_)⟩
    · exact ⟨findI_at j0 hk hj hm,rfl⟩
    · exact ⟨j+1,⟨by omega,by omega,all_next j0 hk hj hm⟩,by omega,(by repeat' first|exact trivial|refine ⟨trivial,?_⟩|refine ⟨(by with_reducible rfl),?_⟩|refine ⟨w64 (by omega) (by omega),?_⟩|refine ⟨rfl,?_⟩)⟩
  · exact ⟨findI_none (of_decide_eq_false hk) hj,rfl⟩
theorem ok_IndexA:SpecOK Tryd.prog GL 60 ct_IndexA.spec:=Ct.okH _ Tryd.func60 (by kernel_rfl) (withSpec_ok noSpecs_ok ok_node_port_1) hmix an_IndexA (hideMp (by kernel_rfl) vc_IndexA)
def ct_IndexL:Ct:=⟨[.val (.sl cPort),.fn 61 1,.box 3 cI],[.val cI],fun d=>[],fun d=>((findP (isL d.2.2.1) d.1,()),(d.2.2.1,()))⟩
def an_IndexL:PDs ct_IndexL.ps->Anns:=(fun d=>{loops:=(fun n=>match n with|2=>some (fun S=>{ι:=Int,μ:=fun i=>(d.1.length-i).toNat,inv:=fun i=>0<=i/\i<=d.1.length∧∀ x∈d.1.take i.toNat,isL d.2.2.1 x=false,keep:=[0,1,6,7],slots:=fun i=>[(8,.int .i64 i)],keepN:=[1048576],names:=fun i=>[]})|_=>none)})
theorem vc_IndexL :
 ∀(a:List (Int×Int)) (b:Int),(a.length<=maxLen/\ ∀(c:Int×Int),c∈a->(0<=c.1/\c.1<=4294967295)/\R64 c.2)/\True/\R64 b/\True->True->(∃(c:Int),(0<=c/\c<=(Qbr0 a)/\ ∀(d:Int×Int),d∈List.take c.toNat a->isL b d=false)/\a=a/\a=a/\(Qbr0 a)=(Qbr0 a)/\(0:Int)=c/\b=b/\True)/\ ∀(c:Int),(0<=c/\c<=(Qbr0 a)/\ ∀(d:Int×Int),d∈List.take c.toNat a->isL b d=false)->ifP (decide (c<(Qbr0 a))) (0<=c/\c<(Qbr0 a)/\ifP (isL b (a.getD c.toNat default)) (c=findP (isL b) a/\b=b) (∃(d:Int),(0<=d/\d<=(Qbr0 a)/\ ∀(e:Int×Int),e∈List.take d.toNat a->isL b e=false)/\Int.toNat ((Qbr0 a) -d)<Int.toNat ((Qbr0 a) -c)/\a=a/\a=a/\(Qbr0 a)=(Qbr0 a)/\IntKind.wrap .i64 (c+(1:Int))=d/\b=b/\True)) ((-1:Int)=findP (isL b) a/\b=b):=by
  delta Qbr0
  rintro l a ⟨⟨hl,-⟩,-⟩ -
  simp only [maxLen] at hl
  refine ⟨⟨0,⟨by omega,by omega,by simp⟩,(by repeat' first|exact trivial|refine ⟨trivial,?_⟩|refine ⟨(by with_reducible rfl),?_⟩|refine ⟨w64 (by omega) (by omega),?_⟩|refine ⟨rfl,?_⟩)⟩,?_⟩
  rintro j ⟨j0,j1,hj⟩
  refine ifP_split (fun hk => ?_) (fun hk => ?_)
  · have hk:=of_decide_eq_true hk
    refine ⟨j0,hk,ifP_split (fun hm => ?_) (fun hm => ?_)⟩
    · exact ⟨findI_at j0 hk hj hm,rfl⟩
    · exact ⟨j+1,⟨by omega,by omega,all_next j0 hk hj hm⟩,by omega,(by repeat' first|exact trivial|refine ⟨trivial,?_⟩|refine ⟨(by with_reducible rfl),?_⟩|refine ⟨w64 (by omega) (by omega),?_⟩|refine ⟨rfl,?_⟩)⟩
  · exact ⟨findI_none (of_decide_eq_false hk) hj,rfl⟩
theorem ok_IndexL:SpecOK Tryd.prog GL 60 ct_IndexL.spec:=Ct.okH _ Tryd.func60 (by kernel_rfl) (withSpec_ok noSpecs_ok ok_node_PortOf_1) hmix an_IndexL (hideMp (by kernel_rfl) vc_IndexL)
def ct_node_port:Ct:=⟨[.agg cNode,.val cU32],[.val cI],fun d=>[],fun d=>((portA d.1 d.2.1,()),())⟩
def an_node_port:PDs ct_node_port.ps->Anns:=(fun _=>{})
theorem vc_node_port :
 ∀(a:Node) (b:Int),CT.wf cNode a/\(0<=b/\b<=4294967295)/\True->True->findP (isA b) a.1=portA a b:=by
  rintro d x - -
  rfl
theorem ok_node_port:SpecOK Tryd.prog GL 56 ct_node_port.spec:=Ct.okH _ Tryd.func56 (by kernel_rfl) (withSpec_ok noSpecs_ok ok_IndexA) hmix an_node_port (hideMp (by kernel_rfl) vc_node_port)
def ct_node_PortOf:Ct:=⟨[.agg cNode,.val cI],[.val cI],fun d=>[],fun d=>((portL d.1 d.2.1,()),())⟩
def an_node_PortOf:PDs ct_node_PortOf.ps->Anns:=(fun _=>{})
theorem vc_node_PortOf :
 ∀(a:Node) (b:Int),CT.wf cNode a/\R64 b/\True->True->findP (isL b) a.1=portL a b:=by
  rintro d x - -
  rfl
theorem ok_node_PortOf:SpecOK Tryd.prog GL 41 ct_node_PortOf.spec:=Ct.okH _ Tryd.func41 (by kernel_rfl) (withSpec_ok noSpecs_ok ok_IndexL) hmix an_node_PortOf (hideMp (by kernel_rfl) vc_node_PortOf)
def ct_node_links:Ct:=⟨[.agg cNode],[.own 3 cI],fun d=>[(nPorts d.1).length<=100000],fun d=>((pLinks d.1,()),())⟩
def an_node_links:PDs ct_node_links.ps->Anns:=(fun d=>{loops:=(fun n=>match n with|3=>some (fun S=>{ι:=Int×(List Int),qn:=⟨fun k_=>∀ (j:Int) (l:(List Int)),k_ (j,l),fun k_ h_ i=>h_ i.1 i.2,fun k_=>∃ (j:Int) (l:(List Int)),k_ (j,l),fun k_ ⟨j,l,h_⟩=>⟨_,h_⟩⟩,μ:=fun i=>((nPorts d.1).length-i.1).toNat,inv:=fun i=>0<=i.1/\i.1<=(nPorts d.1).length/\i.2=(pLinks d.1).take i.1.toNat,keep:=[1,7,8],slots:=fun i=>[(3,.own 524288 1),(9,.int .i64 i.1)],keepN:=[32],names:=fun i=>[(524288,.live (.row 3 cI i.2))]})|_=>none)})
def Qbr1 (a:Node) :=
 ((List.length (nPorts a)):Int)
theorem vc_node_links :
 ∀(a:Node),CT.wf cNode a/\True->List.length (nPorts a)<=(100000:Nat)->(∃(b:Int) (c:List Int),(0<=b/\b<=(Qbr1 a)/\c=List.take b.toNat (pLinks a))/\a.1=a.1/\(a.1.length:Int)=(a.1.length:Int)/\(0:Int)=b/\a.1=a.1/\a.2.1=a.2.1/\a.2.2.1=a.2.2.1/\a.2.2.2.1=a.2.2.2.1/\a.2.2.2.2.1=a.2.2.2.2.1/\a.2.2.2.2.2.1=a.2.2.2.2.2.1/\a.2.2.2.2.2.2.1=a.2.2.2.2.2.2.1/\a.2.2.2.2.2.2.2.1=a.2.2.2.2.2.2.2.1/\a.2.2.2.2.2.2.2.2.1=a.2.2.2.2.2.2.2.2.1/\a.2.2.2.2.2.2.2.2.2.1=a.2.2.2.2.2.2.2.2.2.1/\a.2.2.2.2.2.2.2.2.2.2.1.1=a.2.2.2.2.2.2.2.2.2.2.1.1/\a.2.2.2.2.2.2.2.2.2.2.1.2=a.2.2.2.2.2.2.2.2.2.2.1.2/\a.2.2.2.2.2.2.2.2.2.2.2.1=a.2.2.2.2.2.2.2.2.2.2.2.1/\a.2.2.2.2.2.2.2.2.2.2.2.2.1=a.2.2.2.2.2.2.2.2.2.2.2.2.1/\a.2.2.2.2.2.2.2.2.2.2.2.2.2.1=a.2.2.2.2.2.2.2.2.2.2.2.2.2.1/\a.2.2.2.2.2.2.2.2.2.2.2.2.2.2=a.2.2.2.2.2.2.2.2.2.2.2.2.2.2/\c=([]:List Int)/\True)/\ ∀(b:Int) (c:List Int),0<=b/\b<=(Qbr1 a)/\c=List.take b.toNat (pLinks
 a)->ifP (decide (b<(a.1.length:Int))) (0<=b/\b<(a.1.length:Int)/\(c.length+List.length [(List.getD a.1 b.toNat default).2])*(8:Nat)<=(140737488355328:Nat)/\ ∃(d:Int) (e:List Int),(0<=d/\d<=(Qbr1 a)/\e=List.take d.toNat (pLinks a))/\Int.toNat ((Qbr1 a) -d)<Int.toNat ((Qbr1 a) -b)/\a.1=a.1/\(a.1.length:Int)=(a.1.length:Int)/\IntKind.wrap .i64
 (b+(1:Int))=d/\a.1=a.1/\a.2.1=a.2.1/\a.2.2.1=a.2.2.1/\a.2.2.2.1=a.2.2.2.1/\a.2.2.2.2.1=a.2.2.2.2.1/\a.2.2.2.2.2.1=a.2.2.2.2.2.1/\a.2.2.2.2.2.2.1=a.2.2.2.2.2.2.1/\a.2.2.2.2.2.2.2.1=a.2.2.2.2.2.2.2.1/\a.2.2.2.2.2.2.2.2.1=a.2.2.2.2.2.2.2.2.1/\a.2.2.2.2.2.2.2.2.2.1=a.2.2.2.2.2.2.2.2.2.1/\a.2.2.2.2.2.2.2.2.2.2.1.1=a.2.2.2.2.2.2.2.2.2.2.1.1/\a.2.2.2.2.2.2.2.2.2.2.1.2=a.2.2.2.2.2.2.2.2.2.2.1.2/\a.2.2.2.2.2.2.2.2.2.2.2.1=a.2.2.2.2.2.2.2.2.2.2.2.1/\a.2.2.2.2.2.2.2.2.2.2.2.2.1=a.2.2.2.2.2.2.2.2.2.2.2.2.1/\a.2.2.2.2.2.2.2.2.2.2.2.2.2.1=a.2.2.2.2.2.2.2.2.2.2.2.2.2.1/\a.2.2.2.2.2.2.2.2.2.2.2.2.2.2=a.2.2.2.2.2.2.2.2.2.2.2.2.2.2/\c++[(List.getD a.1 b.toNat default).2]=e/\True) (c=pLinks a):=by
  delta Qbr1
  rintro d-hl
  have hlen:(pLinks d).length=(nPorts d).length:=by simp [pLinks]
  refine ⟨⟨0,[],⟨by omega,by omega,rfl⟩,(by repeat' first|exact trivial|refine ⟨trivial,?_⟩|refine ⟨(by with_reducible rfl),?_⟩|refine ⟨w64 (by omega) (by omega),?_⟩|refine ⟨rfl,?_⟩)⟩,?_⟩
  rintro j l ⟨j0,j1,rfl⟩
  have hd:d.1=nPorts d:=rfl
  rw [hd]
  refine ifP_split (fun hk => ?_) (fun hk => ?_)
  · have hk:=of_decide_eq_true hk
    refine ⟨j0,hk,by simp only [List.length_take,List.length_cons,List.length_nil];omega,j+1,_,⟨by omega,by omega,rfl⟩,by omega,?_⟩
    (repeat first|refine ⟨trivial,?_⟩|refine ⟨(by with_reducible rfl),?_⟩|refine ⟨w64 (by omega) (by omega),?_⟩)
    refine ⟨?_,trivial⟩
    rw [take_step j0 (by rw [hlen];exact hk)]
    unfold pLinks
    rw [List.getD_eq_getElem?_getD,List.getD_eq_getElem?_getD,List.getElem?_map,List.getElem?_eq_getElem (by omega)]
    rfl
  · have hk:=of_decide_eq_false hk
    rw [List.take_of_length_le (by omega)]
theorem ok_node_links:SpecOK Tryd.prog GL 59 ct_node_links.spec:=Ct.okH _ Tryd.func59 (by kernel_rfl) noSpecs_ok hmix an_node_links (hideMp (by kernel_rfl) vc_node_links)
end Go.RS

/- Nodek: the first error of a node, in the program and in the reference; the reference's parts of a node. -/
namespace Go.RS
open Go.SX Go.Proofs
set_option maxRecDepth 100000
set_option linter.unusedVariables false
def first (f:Nat->Int):Nat->Int
  | 0=>0
  | n+1=>if first f n≠0 then first f n else f n
theorem first_next {f:Nat->Int} {i:Int} (h0:0<=i) (h:first f i.toNat=0) (hf:f i.toNat=0):first f (i+1).toNat=0:=by
  rw [show (i+1).toNat=i.toNat+1 by omega,first,if_neg (by simp [h]),hf]
theorem first_keep {f:Nat->Int} {a:Nat} (h:first f a≠0):∀ k,first f (a+k)=first f a
  | 0=>rfl
  | k+1=>by rw [← Nat.add_assoc,first,if_pos (by rw [first_keep h k];exact h),first_keep h k]
theorem first_hit {f:Nat->Int} {i:Int} {n:Nat} (h0:0<=i) (h1:i<n) (h:first f i.toNat=0) (hf:f i.toNat≠0):f i.toNat=first f n:=by
  have e:first f (i.toNat+1)=f i.toNat:=by rw [first,if_neg (by simp [h])]
  have k:=first_keep (a:=i.toNat+1) (by rw [e];exact hf) (n-(i.toNat+1))
  rw [show i.toNat+1+(n-(i.toNat+1))=n by omega] at k
  rw [k,e]
theorem first_zero {f:Nat->Int}:∀ {n:Nat},first f n=0→∀ i,i<n->f i=0
  | 0,_,i,hi=>by omega
  | n+1,h,i,hi=>by
    by_cases k:first f n=0
    · rw [first,if_neg (by simp [k])] at h
      by_cases e:i=n
      · rw [e];exact h
      · exact first_zero k i (by omega)
    · rw [first,if_pos k] at h;exact absurd h k
theorem first_of {f:Nat->Int}:∀ {n:Nat},(∀ i,i<n->f i=0)->first f n=0
  | 0,_=>rfl
  | n+1,h=>by rw [first,if_neg (by rw [first_of fun i hi=>h i (by omega)];simp),h n (by omega)]
def portBad (x:Node) (i:Nat):Int :=
  if ¬ usable ((nPorts x).getD i default).1∨portA x ((nPorts x).getD i default).1<i then 10
  else if ((nPorts x).getD i default).2<0∨portL x ((nPorts x).getD i default).2<i then 11 else 0
def loopBad (x:Node):Prop:=nLoop x≠0/\(¬ usable (nLoop x)∨0<=portA x (nLoop x))
instance (x:Node):Decidable (loopBad x):=by unfold loopBad;infer_instance
def formBad (x:Node):Prop:=nOwner x<0∨(nSource x<1∨4<nSource x)∨(nSource x=3/\nLoop x=0)∨(nFixed x≠0∧¬ usable (nFixed x))∨(nSource x=4/\nFixed x=0)∨(nFirst x<1∨255<nFirst x)∨(nPorts x).length=0
instance (x:Node):Decidable (formBad x):=by unfold formBad;infer_instance
def nodeV (x:Node):Int :=
  if 32<(nPorts x).length then 5
  else if first (portBad x) (nPorts x).length≠0 then first (portBad x) (nPorts x).length
  else if loopBad x then 10
  else if formBad x then 13
  else if idCheck x≠0 then idCheck x
  else if bCheck (nLimit x)≠0 then bCheck (nLimit x)
  else check (nRoutes x) (pLinks x)
theorem ifP_twice {c:Bool} {y n m:Prop} (hy:c=true->y) (hm:c=false->m):ifP c (ifP c y n) m:=by
  cases c with
  | true=>exact hy rfl
  | false=>exact hm rfl
theorem findP_lt {q:Int×Int->Bool} {l:List (Int×Int)} {i:Nat} (hi:i<l.length) (hq:q (l.getD i default)=true):findP q l<i↔∃ y∈l.take i,q y=true:=by
  rw [List.getD_eq_getElem?_getD,List.getElem?_eq_getElem hi,Option.getD_some] at hq
  have hlt:l.findIdx q<l.length:=List.findIdx_lt_length_of_exists ⟨_,List.getElem_mem hi,hq⟩
  unfold findP
  rw [if_pos hlt]
  constructor
  · intro h
    have h:l.findIdx q<i:=by omega
    exact ⟨_,List.mem_take_iff_getElem.2 ⟨l.findIdx q,by omega,rfl⟩,List.findIdx_getElem (w:=hlt)⟩
  · rintro ⟨y,hy,hq⟩
    obtain ⟨j,hj,rfl⟩:=List.mem_take_iff_getElem.1 hy
    have:¬ j<l.findIdx q:=fun h=>by have:=List.not_of_lt_findIdx h;simp_all
    omega
theorem nodeV_bad {x:Node} (h:(nPorts x).length<=32) {i:Int} (h0:0<=i) (h1:i<(nPorts x).length) (hf:first (portBad x) i.toNat=0) (hb:portBad x i.toNat≠0):portBad x i.toNat=nodeV x:=by
  have e:=first_hit h0 h1 hf hb
  unfold nodeV
  rw [if_neg (by omega),← e,if_pos hb]
theorem nodeV_loop {x:Node} (h:(nPorts x).length<=32) (hf:first (portBad x) (nPorts x).length=0) (hl:loopBad x):10=nodeV x:=by
  unfold nodeV
  rw [if_neg (by omega),if_neg (by simp [hf]),if_pos hl]
theorem nodeV_form {x:Node} (h:(nPorts x).length<=32) (hf:first (portBad x) (nPorts x).length=0) (hl:¬ loopBad x) (hb:formBad x):13=nodeV x:=by
  unfold nodeV
  rw [if_neg (by omega),if_neg (by simp [hf]),if_neg hl,if_pos hb]
theorem nodeV_rest {x:Node} (h:(nPorts x).length<=32) (hf:first (portBad x) (nPorts x).length=0) (hl:¬ loopBad x) (hb:¬ formBad x):nodeV x=if idCheck x≠0 then idCheck x else if bCheck (nLimit x)≠0 then bCheck (nLimit x) else check (nRoutes x) (pLinks x):=by
  unfold nodeV
  rw [if_neg (by omega),if_neg (by simp [hf]),if_neg hl,if_neg hb]
theorem portBad_a {x:Node} {i:Int} (h0:0<=i) (h:¬ usable ((nPorts x).getD i.toNat default).1∨portA x ((nPorts x).getD i.toNat default).1<i):portBad x i.toNat=10:=by
  unfold portBad
  rw [show ((i.toNat:Nat):Int)=i by omega,if_pos h]
theorem portBad_l {x:Node} {i:Int} (h0:0<=i) (h:¬ (¬ usable ((nPorts x).getD i.toNat default).1∨portA x ((nPorts x).getD i.toNat default).1<i)) (k:((nPorts x).getD i.toNat default).2<0∨portL x ((nPorts x).getD i.toNat default).2<i):portBad x i.toNat=11:=by
  unfold portBad
  rw [show ((i.toNat:Nat):Int)=i by omega,if_neg h,if_pos k]
theorem portBad_n {x:Node} {i:Int} (h0:0<=i) (h:¬ (¬ usable ((nPorts x).getD i.toNat default).1∨portA x ((nPorts x).getD i.toNat default).1<i)) (k:¬ (((nPorts x).getD i.toNat default).2<0∨portL x ((nPorts x).getD i.toNat default).2<i)):portBad x i.toNat=0:=by
  unfold portBad
  rw [show ((i.toNat:Nat):Int)=i by omega,if_neg h,if_neg k]
def ct_node_Check:Ct:=⟨[.agg cNode],[.val cI],fun d=>[],fun d=>((nodeV d.1,()),())⟩
def an_node_Check:PDs ct_node_Check.ps->Anns:=(fun d=>{loops:=(fun n=>match n with|4=>some (fun S=>{ι:=Int,μ:=fun i=>((nPorts d.1).length-i).toNat,inv:=fun i=>0<=i/\i<=(nPorts d.1).length/\first (portBad d.1) i.toNat=0,keep:=[1,12,13],slots:=fun i=>[(14,.int .i64 i)],keepN:=[32],names:=fun i=>[]})|_=>none),cuts:=(fun n=>match n with|21=>some (fun S=>{ι:=Unit,inv:=fun i=>(nPorts d.1).length<=32/\first (portBad d.1) (nPorts d.1).length=0∧¬ loopBad d.1∧¬ formBad d.1,keep:=[1],slots:=fun i=>[],keepN:=[32],names:=fun i=>[]})|_=>none),unr:=fun n=>match n with|22=>4|_=>0})
def Qbs0 (a:Node) :=
 a.1=a.1/\a.2.1=a.2.1/\a.2.2.1=a.2.2.1/\a.2.2.2.1=a.2.2.2.1/\a.2.2.2.2.1=a.2.2.2.2.1/\a.2.2.2.2.2.1=a.2.2.2.2.2.1/\a.2.2.2.2.2.2.1=a.2.2.2.2.2.2.1/\a.2.2.2.2.2.2.2.1=a.2.2.2.2.2.2.2.1/\a.2.2.2.2.2.2.2.2.1=a.2.2.2.2.2.2.2.2.1/\a.2.2.2.2.2.2.2.2.2.1=a.2.2.2.2.2.2.2.2.2.1/\a.2.2.2.2.2.2.2.2.2.2.1.1=a.2.2.2.2.2.2.2.2.2.2.1.1/\a.2.2.2.2.2.2.2.2.2.2.1.2=a.2.2.2.2.2.2.2.2.2.2.1.2/\a.2.2.2.2.2.2.2.2.2.2.2.1=a.2.2.2.2.2.2.2.2.2.2.2.1/\a.2.2.2.2.2.2.2.2.2.2.2.2.1=a.2.2.2.2.2.2.2.2.2.2.2.2.1/\a.2.2.2.2.2.2.2.2.2.2.2.2.2.1=a.2.2.2.2.2.2.2.2.2.2.2.2.2.1/\a.2.2.2.2.2.2.2.2.2.2.2.2.2.2=a.2.2.2.2.2.2.2.2.2.2.2.2.2.2/\True
def Qbs1 (a:Node) :=
 (List.length (nPorts a)<=(32:Nat)/\first (portBad a) (List.length (nPorts a))=0/\ ¬loopBad a/\ ¬formBad a)/\(Qbs0 a)
def Qbs2 (a:Node) :=
 ((List.length (nPorts a)):Int)
def Qbs3 (a:Node) :=
 ((List.length [idCheck a,bCheck a.2.2.2.2.2.2.2.2.2.2.1,check a.2.2.2.2.1 (pLinks a)]):Int)
def Qbs4 (a:Node) (b:Int) :=
 List.getD a.1 b.toNat default
def Qbs5 (a:Node) :=
 (a.1.length:Int)
def Qbs6 :=
 IntKind.wrap .i64 ((0:Int)+(1:Int))+(1:Int)
theorem vc_node_Check :
 ∀(a:Node),CT.wf cNode a/\True->True->ifP (decide (32<(Qbs5 a))) ((5:Int)=nodeV a) ((∃(b:Int),(0<=b/\b<=(Qbs2 a)/\first (portBad a) b.toNat=0)/\a.1=a.1/\(Qbs5 a)=(Qbs5 a)/\(0:Int)=b/\(Qbs0 a))/\ ∀(b:Int),0<=b/\b<=(Qbs2 a)/\first (portBad a) b.toNat=0->ifP (decide (b<(Qbs5 a))) (0<=b/\b<(Qbs5 a)/\ ∀(c:Bool),c= ! decide (usable (Qbs4 a b).1)->((! c)->((! c)->(! c))/\True)/\((! c)->((! c)->(! c))/\((! c)->(! c))/\True)/\((! c)->((! c)->(! c))/\((! c)->(! c))/\True)/\(c=false->(! c))/\ifP (bif c then true else decide (portA a (Qbs4 a b).1<b)) ((10:Int)=nodeV a) (∀(d:Bool),d=decide ((Qbs4 a b).2<0)->((! d)->((! d)->(! d))/\True)/\((! d)->((! d)->(! d))/\((! d)->(! d))/\True)/\((! d)->((! d)->(! d))/\((! d)->(! d))/\True)/\(d=false->(! d))/\ifP (bif d then true else decide (portL a (Qbs4 a b).2<b)) ((11:Int)=nodeV a) (∃(e:Int),(0<=e/\e<=(Qbs2 a)/\first (portBad a) e.toNat=0)/\Int.toNat ((Qbs2 a)
 -e)<Int.toNat ((Qbs2 a) -b)/\a.1=a.1/\(Qbs5 a)=(Qbs5 a)/\IntKind.wrap .i64 (b+(1:Int))=e/\(Qbs0 a)))) (∀(c:Bool),c= ! decide (a.2.1=0)->(c->(c->c)/\True)/\(c->(c->c)/\True)/\(c->(c->c)/\True)/\(c->(c->c)/\True)/\ ∀(d:Bool),d= ! decide (usable a.2.1)->((c&& ! d)->((c&& ! d)->(c&& ! d))/\True)/\((c&& ! d)->((c&& ! d)->(c&& ! d))/\((c&& ! d)->(c&& ! d))/\True)/\((c&& ! d)->((c&& ! d)->(c&& ! d))/\True)/\(c->(c->c)/\(d=false->(c&& ! d))/\True)/\(c->c)/\ifP (bif c then bif d then true else decide (0<=portA a a.2.1) else false) ((10:Int)=nodeV a) (ifP (decide (a.2.2.1<0)) (ifP (decide (a.2.2.1<0)) ((13:Int)=nodeV a) (∃(e:Unit),(Qbs1 a))) (∀(e:Bool),e=decide (a.2.2.2.2.2.1<1)->((! e)->((! e)->(! e))/\True)/\((! e)->((! e)->(! e))/\True)/\(e=false->(! e))/\ifP (bif e then true else decide (4<a.2.2.2.2.2.1)) (ifP (bif e then true else decide (4<a.2.2.2.2.2.1)) ((13:Int)=nodeV a) (∃(f:Unit),(Qbs1
 a))) (∀(f:Bool),f=decide (a.2.2.2.2.2.1=3)->(f->(f->f)/\True)/\(f->(f->f)/\True)/\(f->f)/\ifP (bif f then decide (a.2.1=0) else false) (ifP (bif f then decide (a.2.1=0) else false) ((13:Int)=nodeV a) (∃(g:Unit),(Qbs1 a))) (∀(g:Bool),g= ! decide (a.2.2.2.2.2.2.1=0)->(g->(g->g)/\True)/\(g->(g->g)/\True)/\(g->(g->g)/\True)/\(g->g)/\ifP (bif g then ! decide (usable a.2.2.2.2.2.2.1) else false) (ifP (bif g then ! decide (usable a.2.2.2.2.2.2.1) else false) ((13:Int)=nodeV a) (∃(h:Unit),(Qbs1 a))) (∀(h:Bool),h=decide (a.2.2.2.2.2.1=4)->(h->(h->h)/\True)/\(h->(h->h)/\True)/\(h->h)/\ifP (bif h then decide (a.2.2.2.2.2.2.1=0) else false) (ifP (bif h then decide (a.2.2.2.2.2.2.1=0) else false) ((13:Int)=nodeV a) (∃(i:Unit),(Qbs1 a))) (∀(i:Bool),i=decide (a.2.2.2.2.2.2.2.2.2.2.2.2.2.1<1)->((! i)->((! i)->(! i))/\True)/\((! i)->((! i)->(! i))/\True)/\(i=false->(! i))/\ifP (bif i then true else
 decide (255<a.2.2.2.2.2.2.2.2.2.2.2.2.2.1)) (ifP (bif i then true else decide (255<a.2.2.2.2.2.2.2.2.2.2.2.2.2.1)) ((13:Int)=nodeV a) (∃(j:Unit),(Qbs1 a))) (ifP (decide ((Qbs5 a)=0)) ((13:Int)=nodeV a) (∃(j:Unit),(Qbs1 a))))))))/\ ∀(e:Unit),List.length (nPorts a)<=(32:Nat)/\first (portBad a) (List.length (nPorts a))=0/\ ¬loopBad a/\ ¬formBad a->List.length (nPorts a)<=(100000:Nat)/\(0:Int)<=0/\0<(Qbs3 a)/\ifP (! decide (List.getD [idCheck a,bCheck a.2.2.2.2.2.2.2.2.2.2.1,check a.2.2.2.2.1 (pLinks a)] (Int.toNat (0:Int)) default=0)) (List.getD [idCheck a,bCheck a.2.2.2.2.2.2.2.2.2.2.1,check a.2.2.2.2.1 (pLinks a)] (Int.toNat (0:Int)) default=nodeV a) (0<=IntKind.wrap .i64 ((0:Int)+(1:Int))/\IntKind.wrap .i64 ((0:Int)+(1:Int))<(Qbs3 a)/\ifP (! decide (List.getD [idCheck a,bCheck a.2.2.2.2.2.2.2.2.2.2.1,check a.2.2.2.2.1 (pLinks a)] (Int.toNat (IntKind.wrap .i64 ((0:Int)+(1:Int))))
 default=0)) (List.getD [idCheck a,bCheck a.2.2.2.2.2.2.2.2.2.2.1,check a.2.2.2.2.1 (pLinks a)] (Int.toNat (IntKind.wrap .i64 ((0:Int)+(1:Int)))) default=nodeV a) (0<=IntKind.wrap .i64 (Qbs6)/\IntKind.wrap .i64 (Qbs6)<(Qbs3 a)/\ifP (! decide (List.getD [idCheck a,bCheck a.2.2.2.2.2.2.2.2.2.2.1,check a.2.2.2.2.1 (pLinks a)] (Int.toNat (IntKind.wrap .i64 (Qbs6))) default=0)) (List.getD [idCheck a,bCheck a.2.2.2.2.2.2.2.2.2.2.1,check a.2.2.2.2.1 (pLinks a)] (Int.toNat (IntKind.wrap .i64 (Qbs6))) default=nodeV a) ((0:Int)=nodeV a)))))):=by
  delta Qbs0 Qbs1 Qbs2 Qbs3 Qbs4 Qbs5 Qbs6
  rintro d - -
  have hd:d.1=nPorts d:=rfl
  rw [hd]
  refine ifP_split (fun h => ?_) (fun h => ?_)
  · unfold nodeV;rw [if_pos (by have:=of_decide_eq_true h;omega)]
  have h32:(nPorts d).length<=32:=by have:=of_decide_eq_false h;omega
  clear h
  refine ⟨⟨0,⟨by omega,by omega,rfl⟩,(by repeat' first|exact trivial|refine ⟨trivial,?_⟩|refine ⟨(by with_reducible rfl),?_⟩|refine ⟨w64 (by omega) (by omega),?_⟩|refine ⟨rfl,?_⟩)⟩,?_⟩
  rintro x ⟨x0,x1,hf⟩
  refine ifP_split (fun hx => ?_) (fun hx => ?_)
  · have hx:=of_decide_eq_true hx
    refine ⟨x0,hx,?_⟩
    (repeat (intro (b_:Bool) (hb_:b_=_);(repeat refine ⟨(by first|(simp;done)|(rw [hb_];simp;done)|(rw [hb_];simp;omega)|(rw [hb_];simp;intros;omega)|(rw [hb_];simp +contextual;done)),?_⟩);subst hb_))
    refine ifP_or (fun ho => ?_) (fun h1 h2 => ?_)
    · have e:=portBad_a (x:=d) x0 (ho.imp nd_t of_decide_eq_true)
      rw [← nodeV_bad h32 x0 hx hf (by rw [e];decide),e]
    have hn:¬ (¬ usable ((nPorts d).getD x.toNat default).1∨portA d ((nPorts d).getD x.toNat default).1<x):=by
      rintro (k|k)
      · exact k (nd_f h1)
      · exact of_decide_eq_false h2 k
    (repeat (intro (b_:Bool) (hb_:b_=_);(repeat refine ⟨(by first|(simp;done)|(rw [hb_];simp;done)|(rw [hb_];simp;omega)|(rw [hb_];simp;intros;omega)|(rw [hb_];simp +contextual;done)),?_⟩);subst hb_))
    refine ifP_or (fun ho => ?_) (fun h1 h2 => ?_)
    · have e:=portBad_l (x:=d) x0 hn (ho.imp of_decide_eq_true of_decide_eq_true)
      rw [← nodeV_bad h32 x0 hx hf (by rw [e];decide),e]
    · have e:=portBad_n (x:=d) x0 hn (by
        rintro (k|k)
        · exact of_decide_eq_false h1 k
        · exact of_decide_eq_false h2 k)
      exact ⟨x+1,⟨by omega,by omega,first_next x0 hf e⟩,by omega,(by repeat' first|exact trivial|refine ⟨trivial,?_⟩|refine ⟨(by with_reducible rfl),?_⟩|refine ⟨w64 (by omega) (by omega),?_⟩|refine ⟨rfl,?_⟩)⟩
  have hx:=of_decide_eq_false hx
  rw [show x.toNat=(nPorts d).length by omega] at hf
  rw [show d.2.1=nLoop d from rfl]
  intro b hb
  refine ⟨by simp,by simp,by simp,by simp,?_⟩
  intro b1 hb1
  (repeat refine ⟨(by cases b <;> cases b1 <;> simp),?_⟩)
  have hL:(bif b then bif b1 then true else decide (0<=portA d (nLoop d)) else false)=decide (loopBad d):=by
    rw [hb,hb1]
    unfold loopBad
    by_cases k1:nLoop d=0 <;> by_cases k2:usable (nLoop d) <;> by_cases k3:0<=portA d (nLoop d) <;> simp [k1,k2,k3]
  rw [hL]
  refine ifP_split (fun h=>nodeV_loop h32 hf (of_decide_eq_true h)) (fun hl => ?_)
  have hl:=of_decide_eq_false hl
  clear hL hb hb1
  refine ⟨?_,?_⟩
  · have bad:=fun h=>nodeV_form (x:=d) h32 hf hl h
    refine ifP_twice (fun h=>bad (.inl (of_decide_eq_true h))) (fun c1 => ?_)
    (repeat (intro (b_:Bool) (hb_:b_=_);(repeat refine ⟨(by first|(simp;done)|(rw [hb_];simp;done)|(rw [hb_];simp;omega)|(rw [hb_];simp;intros;omega)|(rw [hb_];simp +contextual;done)),?_⟩);subst hb_))
    rw [bor_d]
    refine ifP_twice (fun h=>bad (.inr (.inl (of_decide_eq_true h)))) (fun c2 => ?_)
    (repeat (intro (b_:Bool) (hb_:b_=_);(repeat refine ⟨(by first|(simp;done)|(rw [hb_];simp;done)|(rw [hb_];simp;omega)|(rw [hb_];simp;intros;omega)|(rw [hb_];simp +contextual;done)),?_⟩);subst hb_))
    rw [band_d]
    refine ifP_twice (fun h=>bad (.inr (.inr (.inl (of_decide_eq_true h))))) (fun c3 => ?_)
    (repeat (intro (b_:Bool) (hb_:b_=_);(repeat refine ⟨(by first|(simp;done)|(rw [hb_];simp;done)|(rw [hb_];simp;omega)|(rw [hb_];simp;intros;omega)|(rw [hb_];simp +contextual;done)),?_⟩);subst hb_))
    rw [band_nn]
    refine ifP_twice (fun h=>bad (.inr (.inr (.inr (.inl (of_decide_eq_true h)))))) (fun c4 => ?_)
    (repeat (intro (b_:Bool) (hb_:b_=_);(repeat refine ⟨(by first|(simp;done)|(rw [hb_];simp;done)|(rw [hb_];simp;omega)|(rw [hb_];simp;intros;omega)|(rw [hb_];simp +contextual;done)),?_⟩);subst hb_))
    rw [band_d]
    refine ifP_twice (fun h=>bad (.inr (.inr (.inr (.inr (.inl (of_decide_eq_true h))))))) (fun c5 => ?_)
    (repeat (intro (b_:Bool) (hb_:b_=_);(repeat refine ⟨(by first|(simp;done)|(rw [hb_];simp;done)|(rw [hb_];simp;omega)|(rw [hb_];simp;intros;omega)|(rw [hb_];simp +contextual;done)),?_⟩);subst hb_))
    rw [bor_d]
    refine ifP_twice (fun h=>bad (.inr (.inr (.inr (.inr (.inr (.inl (of_decide_eq_true h)))))))) (fun c6 => ?_)
    refine ifP_split (fun h=>bad (.inr (.inr (.inr (.inr (.inr (.inr ?_))))))) (fun c7 => ?_)
    · have:=of_decide_eq_true h;omega
    refine ⟨(),⟨h32,hf,hl,?_⟩,(by repeat' first|exact trivial|refine ⟨trivial,?_⟩|refine ⟨(by with_reducible rfl),?_⟩|refine ⟨w64 (by omega) (by omega),?_⟩|refine ⟨rfl,?_⟩)⟩
    rintro (k|k|k|k|k|k|k)
    · exact of_decide_eq_false c1 k
    · exact of_decide_eq_false c2 k
    · exact of_decide_eq_false c3 k
    · exact of_decide_eq_false c4 k
    · exact of_decide_eq_false c5 k
    · exact of_decide_eq_false c6 k
    · have:=of_decide_eq_false c7;omega
  rintro-⟨-,-,-,hb⟩
  have e:=nodeV_rest h32 hf hl hb
  rw [show IntKind.wrap IntKind.i64 (IntKind.wrap IntKind.i64 ((0:Int)+1)+1)=2 by decide,show IntKind.wrap IntKind.i64 ((0:Int)+1)=1 by decide,e]
  refine ⟨by omega,by omega,by simp,ifP_split (fun h => ?_) (fun h => ?_)⟩
  · rw [if_pos (show idCheck d≠0 from nd_t h)];rfl
  rw [if_neg (show ¬ idCheck d≠0 from fun k=>k (nd_f h))]
  refine ⟨by omega,by simp,ifP_split (fun h => ?_) (fun h => ?_)⟩
  · rw [if_pos (show bCheck (nLimit d)≠0 from nd_t h)];rfl
  rw [if_neg (show ¬ bCheck (nLimit d)≠0 from fun k=>k (nd_f h))]
  refine ⟨by omega,by simp,ifP_split (fun h => ?_) (fun h => ?_)⟩
  · rfl
  · exact (show check (nRoutes d) (pLinks d)=0 from nd_f h).symm
theorem ok_node_Check:SpecOK Tryd.prog GL 39 ct_node_Check.spec:=Ct.okH _ Tryd.func39 (by kernel_rfl) (withSpec_ok (withSpec_ok (withSpec_ok (withSpec_ok (withSpec_ok (withSpec_ok (withSpec_ok noSpecs_ok ok_node_usable) ok_node_port) ok_node_PortOf) ok_identifier_Check) ok_bucket_Check) ok_fib_Check) ok_node_links) hmix an_node_Check (hideMp (by kernel_rfl) vc_node_Check)
def ct_ref13_Links:Ct:=⟨[.agg cNode],[.own 3 cI],fun d=>[(nPorts d.1).length<=100000],fun d=>((pLinks d.1,()),())⟩
def an_ref13_Links:PDs ct_ref13_Links.ps->Anns:=(fun d=>{loops:=(fun n=>match n with|3=>some (fun S=>{ι:=Int×(List Int),qn:=⟨fun k_=>∀ (j:Int) (l:(List Int)),k_ (j,l),fun k_ h_ i=>h_ i.1 i.2,fun k_=>∃ (j:Int) (l:(List Int)),k_ (j,l),fun k_ ⟨j,l,h_⟩=>⟨_,h_⟩⟩,μ:=fun i=>((nPorts d.1).length-i.1).toNat,inv:=fun i=>0<=i.1/\i.1<=(nPorts d.1).length/\i.2=(pLinks d.1).take i.1.toNat,keep:=[1],slots:=fun i=>[(3,.own 524288 1),(4,.int .i64 i.1)],keepN:=[32],names:=fun i=>[(524288,.live (.row 3 cI i.2))]})|_=>none)})
theorem vc_ref13_Links :
 ∀(a:Node),CT.wf cNode a/\True->List.length (nPorts a)<=(100000:Nat)->(∃(b:Int) (c:List Int),(0<=b/\b<=(Qbs2 a)/\c=List.take b.toNat (pLinks a))/\(0:Int)=b/\a.1=a.1/\a.2.1=a.2.1/\a.2.2.1=a.2.2.1/\a.2.2.2.1=a.2.2.2.1/\a.2.2.2.2.1=a.2.2.2.2.1/\a.2.2.2.2.2.1=a.2.2.2.2.2.1/\a.2.2.2.2.2.2.1=a.2.2.2.2.2.2.1/\a.2.2.2.2.2.2.2.1=a.2.2.2.2.2.2.2.1/\a.2.2.2.2.2.2.2.2.1=a.2.2.2.2.2.2.2.2.1/\a.2.2.2.2.2.2.2.2.2.1=a.2.2.2.2.2.2.2.2.2.1/\a.2.2.2.2.2.2.2.2.2.2.1.1=a.2.2.2.2.2.2.2.2.2.2.1.1/\a.2.2.2.2.2.2.2.2.2.2.1.2=a.2.2.2.2.2.2.2.2.2.2.1.2/\a.2.2.2.2.2.2.2.2.2.2.2.1=a.2.2.2.2.2.2.2.2.2.2.2.1/\a.2.2.2.2.2.2.2.2.2.2.2.2.1=a.2.2.2.2.2.2.2.2.2.2.2.2.1/\a.2.2.2.2.2.2.2.2.2.2.2.2.2.1=a.2.2.2.2.2.2.2.2.2.2.2.2.2.1/\a.2.2.2.2.2.2.2.2.2.2.2.2.2.2=a.2.2.2.2.2.2.2.2.2.2.2.2.2.2/\c=([]:List Int)/\True)/\ ∀(b:Int) (c:List Int),0<=b/\b<=(Qbs2 a)/\c=List.take b.toNat (pLinks a)->ifP (decide (b<(Qbs5 a)))
 (0<=b/\b<(Qbs5 a)/\(c.length+List.length [(Qbs4 a b).2])*(8:Nat)<=(140737488355328:Nat)/\ ∃(d:Int) (e:List Int),(0<=d/\d<=(Qbs2 a)/\e=List.take d.toNat (pLinks a))/\Int.toNat ((Qbs2 a) -d)<Int.toNat ((Qbs2 a) -b)/\IntKind.wrap .i64 (b+(1:Int))=d/\a.1=a.1/\a.2.1=a.2.1/\a.2.2.1=a.2.2.1/\a.2.2.2.1=a.2.2.2.1/\a.2.2.2.2.1=a.2.2.2.2.1/\a.2.2.2.2.2.1=a.2.2.2.2.2.1/\a.2.2.2.2.2.2.1=a.2.2.2.2.2.2.1/\a.2.2.2.2.2.2.2.1=a.2.2.2.2.2.2.2.1/\a.2.2.2.2.2.2.2.2.1=a.2.2.2.2.2.2.2.2.1/\a.2.2.2.2.2.2.2.2.2.1=a.2.2.2.2.2.2.2.2.2.1/\a.2.2.2.2.2.2.2.2.2.2.1.1=a.2.2.2.2.2.2.2.2.2.2.1.1/\a.2.2.2.2.2.2.2.2.2.2.1.2=a.2.2.2.2.2.2.2.2.2.2.1.2/\a.2.2.2.2.2.2.2.2.2.2.2.1=a.2.2.2.2.2.2.2.2.2.2.2.1/\a.2.2.2.2.2.2.2.2.2.2.2.2.1=a.2.2.2.2.2.2.2.2.2.2.2.2.1/\a.2.2.2.2.2.2.2.2.2.2.2.2.2.1=a.2.2.2.2.2.2.2.2.2.2.2.2.2.1/\a.2.2.2.2.2.2.2.2.2.2.2.2.2.2=a.2.2.2.2.2.2.2.2.2.2.2.2.2.2/\c++[(Qbs4 a b).2]=e/\True) (c=pLinks a):=by
  delta Qbs2 Qbs4 Qbs5
  rintro d-hl
  have hlen:(pLinks d).length=(nPorts d).length:=by simp [pLinks]
  refine ⟨⟨0,[],⟨by omega,by omega,rfl⟩,(by repeat' first|exact trivial|refine ⟨trivial,?_⟩|refine ⟨(by with_reducible rfl),?_⟩|refine ⟨w64 (by omega) (by omega),?_⟩|refine ⟨rfl,?_⟩)⟩,?_⟩
  rintro j l ⟨j0,j1,rfl⟩
  have hd:d.1=nPorts d:=rfl
  rw [hd]
  refine ifP_split (fun hk => ?_) (fun hk => ?_)
  · have hk:=of_decide_eq_true hk
    refine ⟨j0,hk,by simp only [List.length_take,List.length_cons,List.length_nil];omega,j+1,_,⟨by omega,by omega,rfl⟩,by omega,?_⟩
    (repeat first|refine ⟨trivial,?_⟩|refine ⟨(by with_reducible rfl),?_⟩|refine ⟨w64 (by omega) (by omega),?_⟩)
    refine ⟨?_,trivial⟩
    rw [take_step j0 (by rw [hlen];exact hk)]
    unfold pLinks
    rw [List.getD_eq_getElem?_getD,List.getD_eq_getElem?_getD,List.getElem?_map,List.getElem?_eq_getElem (by omega)]
    rfl
  · have hk:=of_decide_eq_false hk
    rw [List.take_of_length_le (by omega)]
theorem ok_ref13_Links:SpecOK Tryd.prog GL 51 ct_ref13_Links.spec:=Ct.okH _ Tryd.func51 (by kernel_rfl) noSpecs_ok hmix an_ref13_Links (hideMp (by kernel_rfl) vc_ref13_Links)
def ct_ref13_PortOf:Ct:=⟨[.agg cNode,.val cI],[.val cI],fun d=>[],fun d=>((portL d.1 d.2.1,()),())⟩
def an_ref13_PortOf:PDs ct_ref13_PortOf.ps->Anns:=(fun d=>{loops:=(fun n=>match n with|2=>some (fun S=>{ι:=Int,μ:=fun i=>((nPorts d.1).length-i).toNat,inv:=fun i=>0<=i/\i<=(nPorts d.1).length∧∀ x∈(nPorts d.1).take i.toNat,isL d.2.1 x=false,keep:=[1,2],slots:=fun i=>[(5,.int .i64 i)],keepN:=[48],names:=fun i=>[]})|_=>none)})
theorem vc_ref13_PortOf :
 ∀(a:Node) (b:Int),CT.wf cNode a/\R64 b/\True->True->(∃(c:Int),(0<=c/\c<=(Qbs2 a)/\ ∀(d:Int×Int),d∈List.take c.toNat (nPorts a)->isL b d=false)/\b=b/\(0:Int)=c/\(Qbs0 a))/\ ∀(c:Int),(0<=c/\c<=(Qbs2 a)/\ ∀(d:Int×Int),d∈List.take c.toNat (nPorts a)->isL b d=false)->ifP (decide (c<(Qbs5 a))) (0<=c/\c<(Qbs5 a)/\ifP (decide ((List.getD a.1 c.toNat default).2=b)) (c=portL a b) (∃(d:Int),(0<=d/\d<=(Qbs2 a)/\ ∀(e:Int×Int),e∈List.take d.toNat (nPorts a)->isL b e=false)/\Int.toNat ((Qbs2 a) -d)<Int.toNat ((Qbs2 a) -c)/\b=b/\IntKind.wrap .i64 (c+(1:Int))=d/\(Qbs0 a))) ((-1:Int)=portL a b):=by
  delta Qbs0 Qbs2 Qbs5
  rintro d k ⟨⟨⟨hl,-⟩,-⟩,-⟩ -
  have hd:d.1=nPorts d:=rfl
  rw [hd] at hl ⊢
  simp only [maxLen] at hl
  refine ⟨⟨0,⟨by omega,by omega,by simp⟩,(by repeat' first|exact trivial|refine ⟨trivial,?_⟩|refine ⟨(by with_reducible rfl),?_⟩|refine ⟨w64 (by omega) (by omega),?_⟩|refine ⟨rfl,?_⟩)⟩,?_⟩
  rintro j ⟨j0,j1,hj⟩
  refine ifP_split (fun hk => ?_) (fun hk => ?_)
  · have hk:=of_decide_eq_true hk
    refine ⟨j0,hk,ifP_split (fun hm => ?_) (fun hm => ?_)⟩
    · exact findI_at j0 hk hj hm
    · exact ⟨j+1,⟨by omega,by omega,all_next j0 hk hj hm⟩,by omega,(by repeat' first|exact trivial|refine ⟨trivial,?_⟩|refine ⟨(by with_reducible rfl),?_⟩|refine ⟨w64 (by omega) (by omega),?_⟩|refine ⟨rfl,?_⟩)⟩
  · exact findI_none (of_decide_eq_false hk) hj
theorem ok_ref13_PortOf:SpecOK Tryd.prog GL 29 ct_ref13_PortOf.spec:=Ct.okH _ Tryd.func29 (by kernel_rfl) noSpecs_ok hmix an_ref13_PortOf (hideMp (by kernel_rfl) vc_ref13_PortOf)
def ct_ref13_Owns:Ct:=⟨[.agg cNode,.val cU32],[.val .bool],fun d=>[],fun d=>((ownsA d.1 d.2.1,()),())⟩
def an_ref13_Owns:PDs ct_ref13_Owns.ps->Anns:=(fun d=>{loops:=(fun n=>match n with|2=>some (fun S=>{ι:=Int,μ:=fun i=>((nPorts d.1).length-i).toNat,inv:=fun i=>0<=i/\i<=(nPorts d.1).length∧∀ x∈(nPorts d.1).take i.toNat,isA d.2.1 x=false,keep:=[1,2],slots:=fun i=>[(5,.int .i64 i)],keepN:=[48],names:=fun i=>[]})|_=>none)})
theorem vc_ref13_Owns :
 ∀(a:Node) (b:Int),CT.wf cNode a/\(0<=b/\b<=4294967295)/\True->True->(∃(c:Int),(0<=c/\c<=(Qbs2 a)/\ ∀(d:Int×Int),d∈List.take c.toNat (nPorts a)->isA b d=false)/\b=b/\(0:Int)=c/\(Qbs0 a))/\ ∀(c:Int),(0<=c/\c<=(Qbs2 a)/\ ∀(d:Int×Int),d∈List.take c.toNat (nPorts a)->isA b d=false)->ifP (decide (c<(Qbs5 a))) (0<=c/\c<(Qbs5 a)/\ifP (decide ((List.getD a.1 c.toNat default).1=b)) (true=ownsA a b) (∃(d:Int),(0<=d/\d<=(Qbs2 a)/\ ∀(e:Int×Int),e∈List.take d.toNat (nPorts a)->isA b e=false)/\Int.toNat ((Qbs2 a) -d)<Int.toNat ((Qbs2 a) -c)/\b=b/\IntKind.wrap .i64 (c+(1:Int))=d/\(Qbs0 a))) (∀(d:Bool),d= ! decide (a.2.1=0)->(d->(d->d)/\True)/\(d->(d->d)/\(d->d)/\True)/\(d->d)/\(bif d then decide (a.2.1=b) else false)=ownsA a b):=by
  delta Qbs0 Qbs2 Qbs5
  rintro d a ⟨⟨⟨hl,-⟩,-⟩,-⟩ -
  have hd:d.1=nPorts d:=rfl
  rw [hd] at hl ⊢
  simp only [maxLen] at hl
  refine ⟨⟨0,⟨by omega,by omega,by simp⟩,(by repeat' first|exact trivial|refine ⟨trivial,?_⟩|refine ⟨(by with_reducible rfl),?_⟩|refine ⟨w64 (by omega) (by omega),?_⟩|refine ⟨rfl,?_⟩)⟩,?_⟩
  rintro j ⟨j0,j1,hj⟩
  refine ifP_split (fun hk => ?_) (fun hk => ?_)
  · have hk:=of_decide_eq_true hk
    refine ⟨j0,hk,ifP_split (fun hm => ?_) (fun hm => ?_)⟩
    · have e:j=portA d a:=findI_at j0 hk hj hm
      unfold ownsA
      rw [← e,decide_eq_true j0];rfl
    · exact ⟨j+1,⟨by omega,by omega,all_next j0 hk hj hm⟩,by omega,(by repeat' first|exact trivial|refine ⟨trivial,?_⟩|refine ⟨(by with_reducible rfl),?_⟩|refine ⟨w64 (by omega) (by omega),?_⟩|refine ⟨rfl,?_⟩)⟩
  · have e : -1=portA d a:=findI_none (of_decide_eq_false hk) hj
    (repeat (intro (b_:Bool) (hb_:b_=_);(repeat refine ⟨(by first|(simp;done)|(rw [hb_];simp;done)|(rw [hb_];simp;omega)|(rw [hb_];simp;intros;omega)|(rw [hb_];simp +contextual;done)),?_⟩);subst hb_))
    unfold ownsA
    rw [← e,show d.2.1=nLoop d from rfl]
    cases decide (nLoop d=0) <;> rfl
theorem ok_ref13_Owns:SpecOK Tryd.prog GL 31 ct_ref13_Owns.spec:=Ct.okH _ Tryd.func31 (by kernel_rfl) noSpecs_ok hmix an_ref13_Owns (hideMp (by kernel_rfl) vc_ref13_Owns)
def freshA (x:Node) (i k:Nat):Bool:=decide (usable ((nPorts x).getD i default).1)&&decide (∀ q∈(nPorts x).take k,q.1≠((nPorts x).getD i default).1)
def freshL (x:Node) (i k:Nat):Bool:=decide (0<=((nPorts x).getD i default).2)&&decide (∀ q∈(nPorts x).take k,q.2≠((nPorts x).getD i default).2)
theorem portA_mem {x:Node} {a:Int} (h:∃ q∈nPorts x,q.1=a):0<=portA x a:=by
  obtain ⟨q,hq,rfl⟩:=h
  unfold portA findP
  have:(nPorts x).findIdx (isA q.1)<(nPorts x).length:=List.findIdx_lt_length_of_exists ⟨q,hq,by unfold isA;simp⟩
  rw [if_pos this];omega
theorem all_snoc {α:Type} {l:List α} {q:α} {P:α->Prop} [DecidablePred P]:decide (∀ x∈l++[q],P x)=(decide (∀ x∈l,P x)&&decide (P q)):=by
  rw [← Bool.decide_and]
  apply decide_eq_decide.2
  simp [or_imp,forall_and]
theorem freshA_step {x:Node} {i:Nat} {k:Int} {q:Int×Int} (st:(nPorts x).take (k+1).toNat=(nPorts x).take k.toNat++[q]) :
    (bif freshA x i k.toNat then !decide (q.1=((nPorts x).getD i default).1) else false)=freshA x i (k+1).toNat:=by
  unfold freshA
  rw [st,all_snoc (P:=fun q:Int×Int=>q.1≠((nPorts x).getD i default).1),not_d]
  cases decide (usable ((nPorts x).getD i default).1) <;> cases decide (∀ q∈(nPorts x).take k.toNat,q.1≠((nPorts x).getD i default).1) <;> rfl
theorem freshL_step {x:Node} {i:Nat} {k:Int} {q:Int×Int} (st:(nPorts x).take (k+1).toNat=(nPorts x).take k.toNat++[q]) :
    (bif freshL x i k.toNat then !decide (q.2=((nPorts x).getD i default).2) else false)=freshL x i (k+1).toNat:=by
  unfold freshL
  rw [st,all_snoc (P:=fun q:Int×Int=>q.2≠((nPorts x).getD i default).2),not_d]
  cases decide (0<=((nPorts x).getD i default).2) <;> cases decide (∀ q∈(nPorts x).take k.toNat,q.2≠((nPorts x).getD i default).2) <;> rfl
theorem freshA_iff {x:Node} {i:Int} (h0:0<=i) (h1:i<(nPorts x).length):freshA x i.toNat i.toNat=decide (¬ (¬ usable ((nPorts x).getD i.toNat default).1∨portA x ((nPorts x).getD i.toNat default).1<i)):=by
  have k:=findP_lt (q:=isA ((nPorts x).getD i.toNat default).1) (l:=nPorts x) (i:=i.toNat) (by omega) (by unfold isA;exact decide_eq_true rfl)
  rw [show ((i.toNat:Nat):Int)=i by omega] at k
  unfold freshA portA
  rw [← Bool.decide_and]
  apply decide_eq_decide.2
  rw [k,not_or,Classical.not_not,not_exists]
  refine and_congr Iff.rfl (forall_congr' fun q => ?_)
  rw [not_and]
  refine imp_congr Iff.rfl ?_
  unfold isA
  rw [decide_eq_true_iff]
theorem freshL_iff {x:Node} {i:Int} (h0:0<=i) (h1:i<(nPorts x).length):freshL x i.toNat i.toNat=decide (¬ (((nPorts x).getD i.toNat default).2<0∨portL x ((nPorts x).getD i.toNat default).2<i)):=by
  have k:=findP_lt (q:=isL ((nPorts x).getD i.toNat default).2) (l:=nPorts x) (i:=i.toNat) (by omega) (by unfold isL;exact decide_eq_true rfl)
  rw [show ((i.toNat:Nat):Int)=i by omega] at k
  unfold freshL portL
  rw [← Bool.decide_and]
  apply decide_eq_decide.2
  rw [k,not_or,not_exists,Int.not_lt]
  refine and_congr Iff.rfl (forall_congr' fun q => ?_)
  rw [not_and]
  refine imp_congr Iff.rfl ?_
  unfold isL
  rw [decide_eq_true_iff]
def ct_ref13_Check:Ct:=⟨[.agg cNode],[.val cI],fun d=>[],fun d=>((nodeV d.1,()),())⟩
def an_ref13_Check:PDs ct_ref13_Check.ps->Anns:=(fun d=>{loops:=(fun n=>match n with|4=>some (fun S=>{ι:=Int,μ:=fun i=>((nPorts d.1).length-i).toNat,inv:=fun i=>0<=i/\i<=(nPorts d.1).length/\first (portBad d.1) i.toNat=0,keep:=[1],slots:=fun i=>[(3,.int .i64 i)],keepN:=[32],names:=fun i=>[]})|8=>some (fun S=>{ι:=Int×Bool×Bool,qn:=⟨fun k_=>∀ (k:Int) (a:Bool) (b:Bool),k_ (k,a,b),fun k_ h_ i=>h_ i.1 i.2.1 i.2.2,fun k_=>∃ (k:Int) (a:Bool) (b:Bool),k_ (k,a,b),fun k_ ⟨k,a,b,h_⟩=>⟨_,h_⟩⟩,μ:=fun i=>(S.i 3-i.1).toNat,inv:=fun i=>0<=i.1/\i.1<=S.i 3/\i.2.1=freshA d.1 (S.i 3).toNat i.1.toNat/\i.2.2=freshL d.1 (S.i 3).toNat i.1.toNat,keep:=[1,3],slots:=fun i=>[(4,.bool i.2.1),(5,.bool i.2.2),(6,.int .i64 i.1)],keepN:=[32],names:=fun i=>[]})|17=>some (fun S=>{ι:=Int,μ:=fun i=>((nPorts d.1).length-i).toNat,inv:=fun i=>0<=i/\i<=(nPorts d.1).length/\(nLoop d.1≠0→∀ q∈(nPorts d.1).take i.toNat,isA (nLoop d.1) q=false),keep:=[1],slots:=fun i=>[(7,.int .i64 i)],keepN:=[32],names:=fun i=>[]})|_=>none)})
def Qbs7 (a:Node) (c:Int) :=
 c<=(Qbs2 a)/\(nLoop a≠(0:Int)-> ∀(d:Int×Int),d∈List.take c.toNat (nPorts a)->isA (nLoop a) d=false)
theorem vc_ref13_Check :
 ∀(a:Node),CT.wf cNode a/\True->True->ifP (decide (32<(Qbs5 a))) ((5:Int)=nodeV a) ((∃(b:Int),(0<=b/\b<=(Qbs2 a)/\first (portBad a) b.toNat=0)/\(0:Int)=b/\(Qbs0 a))/\ ∀(b:Int),0<=b/\b<=(Qbs2 a)/\first (portBad a) b.toNat=0->ifP (decide (b<(Qbs5 a))) (0<=b/\b<(Qbs5 a)/\0<=b/\b<(Qbs5 a)/\(∃(c:Int) (d:Bool),∃(e:Bool),(0<=c/\c<=b/\d=freshA a b.toNat c.toNat/\e=freshL a b.toNat c.toNat)/\b=b/\decide (usable (Qbs4 a b).1)=d/\decide (0<=(Qbs4 a b).2)=e/\(0:Int)=c/\(Qbs0 a))/\ ∀(c:Int) (d e:Bool),0<=c/\c<=b/\d=freshA a b.toNat c.toNat/\e=freshL a b.toNat c.toNat->ifP (decide (c<b)) (∀(f:Bool),f=d->(f->(f->f)/\True)/\(f->(f->f)/\(f->f)/\0<=c/\c<(Qbs5 a)/\True)/\(f->(f->f)/\True)/\(f->(f->f)/\True)/\(f->(f->f)/\True)/\(f->(f->f)/\(f->f)/\0<=b/\b<(Qbs5 a)/\True)/\(f->(f->f)/\True)/\(f->(f->f)/\True)/\(f->(f->f)/\(f->f)/\True)/\(f->f)/\
 ∀(g:Bool),g=e->(g->(g->g)/\True)/\(g->(g->g)/\(g->g)/\0<=c/\c<(Qbs5 a)/\True)/\(g->(g->g)/\True)/\(g->(g->g)/\True)/\(g->(g->g)/\True)/\(g->(g->g)/\(g->g)/\0<=b/\b<(Qbs5 a)/\True)/\(g->(g->g)/\True)/\(g->(g->g)/\True)/\(g->(g->g)/\(g->g)/\True)/\(g->g)/\ ∃(h:Int) (i:Bool),∃(j:Bool),(0<=h/\h<=b/\i=freshA a b.toNat h.toNat/\j=freshL a b.toNat h.toNat)/\Int.toNat (b -h)<Int.toNat (b -c)/\b=b/\(bif f then ! decide ((List.getD a.1 c.toNat default).1=(Qbs4 a b).1) else false)=i/\(bif g then ! decide ((List.getD a.1 c.toNat default).2=(Qbs4 a b).2) else false)=j/\IntKind.wrap .i64 (c+(1:Int))=h/\(Qbs0 a)) (ifP (! d) ((10:Int)=nodeV a) (ifP (! e) ((11:Int)=nodeV a) (∃(f:Int),(0<=f/\f<=(Qbs2 a)/\first (portBad a) f.toNat=0)/\Int.toNat ((Qbs2 a) -f)<Int.toNat ((Qbs2 a) -b)/\IntKind.wrap .i64 (b+(1:Int))=f/\(Qbs0 a))))) ((∃(c:Int),(0<=c/\(Qbs7 a c))/\(0:Int)=c/\(Qbs0 a))/\ ∀(c:Int),0<=c/\(Qbs7 a
 c)-> ∀(d:Bool),d=decide (c<(Qbs5 a))->(d->(d->d)/\True)/\(d->(d->d)/\True)/\(d->d)/\ifP (bif d then ! decide (a.2.1=0) else false) (0<=c/\c<(Qbs5 a)/\ifP (decide ((List.getD a.1 c.toNat default).1=a.2.1)) ((10:Int)=nodeV a) (∃(e:Int),(0<=e/\e<=(Qbs2 a)/\(nLoop a≠(0:Int)-> ∀(f:Int×Int),f∈List.take e.toNat (nPorts a)->isA (nLoop a) f=false))/\Int.toNat ((Qbs2 a) -e)<Int.toNat ((Qbs2 a) -c)/\IntKind.wrap .i64 (c+(1:Int))=e/\(Qbs0 a))) (∀(e:Bool),e= ! decide (a.2.1=0)->(e->(e->e)/\True)/\(e->(e->e)/\True)/\(e->(e->e)/\True)/\(e->e)/\ifP (bif e then ! decide (usable a.2.1) else false) ((10:Int)=nodeV a) (∀(f:Bool),f=decide (a.2.2.1<0)->((! f)->((! f)->(! f))/\True)/\((! f)->((! f)->(! f))/\True)/\(f=false->(! f))/\ ∀(g:Bool),(g=bif f then true else decide (a.2.2.2.2.2.1<1))->((! g)->((! g)->(! g))/\True)/\((! g)->((! g)->(! g))/\True)/\(g=false->(! g))/\ ∀(h:Bool),(h=bif g then true else
 decide (4<a.2.2.2.2.2.1))->((! h)->((! h)->(! h))/\True)/\((! h)->((! h)->(! h))/\True)/\((! h)->((! h)->(! h))/\True)/\ ∀(i:Bool),i=decide (a.2.2.2.2.2.1=3)->((! h&&i)->((! h&&i)->(! h&&i))/\True)/\((! h&&i)->((! h&&i)->(! h&&i))/\True)/\((! h)->((! h)->(! h))/\(i->(! h&&i))/\True)/\(h=false->(! h))/\ ∀(j:Bool),(j=bif h then true else bif i then decide (a.2.1=0) else false)->((! j)->((! j)->(! j))/\True)/\((! j)->((! j)->(! j))/\True)/\((! j)->((! j)->(! j))/\True)/\ ∀(k:Bool),k= ! decide (a.2.2.2.2.2.2.1=0)->((! j&&k)->((! j&&k)->(! j&&k))/\True)/\((! j&&k)->((! j&&k)->(! j&&k))/\True)/\((! j&&k)->((! j&&k)->(! j&&k))/\True)/\((! j)->((! j)->(! j))/\(k->(! j&&k))/\True)/\(j=false->(! j))/\ ∀(l:Bool),(l=bif j then true else bif k then ! decide (usable a.2.2.2.2.2.2.1) else false)->((! l)->((! l)->(! l))/\True)/\((! l)->((! l)->(! l))/\True)/\((! l)->((! l)->(! l))/\True)/\
 ∀(m:Bool),m=decide (a.2.2.2.2.2.1=4)->((! l&&m)->((! l&&m)->(! l&&m))/\True)/\((! l&&m)->((! l&&m)->(! l&&m))/\True)/\((! l)->((! l)->(! l))/\(m->(! l&&m))/\True)/\(l=false->(! l))/\ ∀(n:Bool),(n=bif l then true else bif m then decide (a.2.2.2.2.2.2.1=0) else false)->((! n)->((! n)->(! n))/\True)/\((! n)->((! n)->(! n))/\True)/\(n=false->(! n))/\ ∀(o:Bool),(o=bif n then true else decide (a.2.2.2.2.2.2.2.2.2.2.2.2.2.1<1))->((! o)->((! o)->(! o))/\True)/\((! o)->((! o)->(! o))/\True)/\(o=false->(! o))/\ ∀(p:Bool),(p=bif o then true else decide (255<a.2.2.2.2.2.2.2.2.2.2.2.2.2.1))->((! p)->((! p)->(! p))/\True)/\((! p)->((! p)->(! p))/\True)/\((! p)->((! p)->(! p))/\True)/\(p=false->(! p))/\ifP (bif p then true else decide ((Qbs5 a)=0)) ((13:Int)=nodeV a) (ifP (! decide (idCheck a=0)) (idCheck a=nodeV a) (ifP (! decide (bCheck a.2.2.2.2.2.2.2.2.2.2.1=0)) (bCheck
 a.2.2.2.2.2.2.2.2.2.2.1=nodeV a) (List.length (nPorts a)<=(100000:Nat)/\check a.2.2.2.2.1 (pLinks a)=nodeV a))))))):=by
  delta Qbs0 Qbs2 Qbs4 Qbs5 Qbs7
  rintro d ⟨⟨⟨hl,-⟩,-⟩,-⟩ -
  have hd:d.1=nPorts d:=rfl
  rw [hd] at hl ⊢
  simp only [maxLen] at hl
  refine ifP_split (fun h => ?_) (fun h => ?_)
  · unfold nodeV;rw [if_pos (by have:=of_decide_eq_true h;omega)]
  have h32:(nPorts d).length<=32:=by have:=of_decide_eq_false h;omega
  clear h
  refine ⟨⟨0,⟨by omega,by omega,rfl⟩,(by repeat' first|exact trivial|refine ⟨trivial,?_⟩|refine ⟨(by with_reducible rfl),?_⟩|refine ⟨w64 (by omega) (by omega),?_⟩|refine ⟨rfl,?_⟩)⟩,?_⟩
  rintro x ⟨x0,x1,hf⟩
  refine ifP_split (fun hx => ?_) (fun hx => ?_)
  · have hx:=of_decide_eq_true hx
    refine ⟨x0,hx,x0,hx,⟨0,_,_,⟨by omega,x0,?_,?_⟩,(by repeat' first|exact trivial|refine ⟨trivial,?_⟩|refine ⟨(by with_reducible rfl),?_⟩|refine ⟨w64 (by omega) (by omega),?_⟩|refine ⟨rfl,?_⟩)⟩,?_⟩
    · simp [freshA]
    · simp [freshL]
    rintro k a b ⟨k0,k1,ha,hb⟩
    refine ifP_split (fun hk => ?_) (fun hk => ?_)
    · have hk:=of_decide_eq_true hk
      have st:=take_step (l:=nPorts d) k0 (by omega)
      rintro b1 hb1
      (repeat refine ⟨(by first|(simp;done)|exact fun h=>⟨fun _=>h,fun _=>h,k0,by omega,trivial⟩|exact fun h=>⟨fun _=>h,fun _=>h,x0,by omega,trivial⟩),?_⟩)
      rintro b2 hb2
      (repeat refine ⟨(by first|(simp;done)|exact fun h=>⟨fun _=>h,fun _=>h,k0,by omega,trivial⟩|exact fun h=>⟨fun _=>h,fun _=>h,x0,by omega,trivial⟩),?_⟩)
      refine ⟨k+1,_,_,⟨by omega,by omega,?_,?_⟩,by omega,(by repeat' first|exact trivial|refine ⟨trivial,?_⟩|refine ⟨(by with_reducible rfl),?_⟩|refine ⟨w64 (by omega) (by omega),?_⟩|refine ⟨rfl,?_⟩)⟩
      · rw [hb1,ha,freshA_step st]
      · rw [hb2,hb,freshL_step st]
    · have hk:k=x:=by have:=of_decide_eq_false hk;omega
      subst hk
      have fa:a=decide (¬ (¬ usable ((nPorts d).getD k.toNat default).1∨portA d ((nPorts d).getD k.toNat default).1<k)):=by rw [ha,freshA_iff x0 hx]
      have fb:b=decide (¬ (((nPorts d).getD k.toNat default).2<0∨portL d ((nPorts d).getD k.toNat default).2<k)):=by rw [hb,freshL_iff x0 hx]
      refine ifP_split (fun h => ?_) (fun h => ?_)
      · have e:=portBad_a (x:=d) x0 (by rw [fa,not_d] at h;exact Classical.not_not.1 (of_decide_eq_true h))
        rw [← nodeV_bad h32 x0 hx hf (by rw [e];decide),e]
      have hn:=of_decide_eq_true (fa.symm.trans (by simpa using h))
      refine ifP_split (fun h => ?_) (fun h => ?_)
      · have e:=portBad_l (x:=d) x0 hn (by rw [fb,not_d] at h;exact Classical.not_not.1 (of_decide_eq_true h))
        rw [← nodeV_bad h32 x0 hx hf (by rw [e];decide),e]
      have hm:=of_decide_eq_true (fb.symm.trans (by simpa using h))
      exact ⟨k+1,⟨by omega,by omega,first_next x0 hf (portBad_n x0 hn hm)⟩,by omega,(by repeat' first|exact trivial|refine ⟨trivial,?_⟩|refine ⟨(by with_reducible rfl),?_⟩|refine ⟨w64 (by omega) (by omega),?_⟩|refine ⟨rfl,?_⟩)⟩
  have hx:=of_decide_eq_false hx
  rw [show x.toNat=(nPorts d).length by omega] at hf
  clear x1 x0
  refine ⟨⟨0,⟨by omega,by omega,by simp⟩,(by repeat' first|exact trivial|refine ⟨trivial,?_⟩|refine ⟨(by with_reducible rfl),?_⟩|refine ⟨w64 (by omega) (by omega),?_⟩|refine ⟨rfl,?_⟩)⟩,?_⟩
  rw [show d.2.1=nLoop d from rfl]
  rintro k ⟨k0,k1,hk⟩
  (repeat (intro (b_:Bool) (hb_:b_=_);(repeat refine ⟨(by first|(simp;done)|(rw [hb_];simp;done)|(rw [hb_];simp;omega)|(rw [hb_];simp;intros;omega)|(rw [hb_];simp +contextual;done)),?_⟩);subst hb_))
  rw [band_dn]
  refine ifP_split (fun h => ?_) (fun h => ?_)
  · obtain ⟨h1,h2⟩:=of_decide_eq_true h
    refine ⟨k0,h1,ifP_split (fun hm => ?_) (fun hm => ?_)⟩
    · refine nodeV_loop h32 hf ⟨h2,.inr (portA_mem ?_)⟩
      have:=of_decide_eq_true hm
      exact ⟨_,getD_mem k0 h1,this⟩
    · exact ⟨k+1,⟨by omega,by omega,fun h0=>all_next k0 h1 (hk h0) hm⟩,by omega,(by repeat' first|exact trivial|refine ⟨trivial,?_⟩|refine ⟨(by with_reducible rfl),?_⟩|refine ⟨w64 (by omega) (by omega),?_⟩|refine ⟨rfl,?_⟩)⟩
  have hend:nLoop d≠0→¬ 0<=portA d (nLoop d):=fun h0 hp=>by
    have hkl:¬ k<(nPorts d).length:=fun h1=>of_decide_eq_false h ⟨h1,h0⟩
    have hk:=hk h0
    have e : -1=portA d (nLoop d):=findI_none hkl hk
    omega
  (repeat (intro (b_:Bool) (hb_:b_=_);(repeat refine ⟨(by first|(simp;done)|(rw [hb_];simp;done)|(rw [hb_];simp;omega)|(rw [hb_];simp;intros;omega)|(rw [hb_];simp +contextual;done)),?_⟩);subst hb_))
  rw [band_nn]
  refine ifP_split (fun h => ?_) (fun h => ?_)
  · obtain ⟨h1,h2⟩:=of_decide_eq_true h
    exact nodeV_loop h32 hf ⟨h1,.inl h2⟩
  have hL:¬ loopBad d:=by
    rintro ⟨h1,h2⟩
    rcases h2 with h2|h2
    · exact of_decide_eq_false h ⟨h1,h2⟩
    · exact hend h1 h2
  have e:=nodeV_rest h32 hf hL
  have gd:True:=trivial
  intro b1 hb1
  (repeat refine ⟨(by first|(simp;done)|(simp +contextual;done)),?_⟩)
  intro b2 hb2
  (repeat refine ⟨(by first|(simp;done)|(simp +contextual;done)),?_⟩)
  intro b3 hb3
  (repeat refine ⟨(by first|(simp;done)|(simp +contextual;done)),?_⟩)
  intro b4 hb4
  (repeat refine ⟨(by first|(simp;done)|(simp +contextual;done)),?_⟩)
  intro b5 hb5
  (repeat refine ⟨(by first|(simp;done)|(simp +contextual;done)),?_⟩)
  intro b6 hb6
  (repeat refine ⟨(by first|(simp;done)|(simp +contextual;done)),?_⟩)
  intro b7 hb7
  (repeat refine ⟨(by first|(simp;done)|(simp +contextual;done)),?_⟩)
  intro b8 hb8
  (repeat refine ⟨(by first|(simp;done)|(simp +contextual;done)),?_⟩)
  intro b9 hb9
  (repeat refine ⟨(by first|(simp;done)|(simp +contextual;done)),?_⟩)
  intro b10 hb10
  (repeat refine ⟨(by first|(simp;done)|(simp +contextual;done)),?_⟩)
  intro b11 hb11
  (repeat refine ⟨(by first|(simp;done)|(simp +contextual;done)),?_⟩)
  have hF:(bif b11 then true else decide (((nPorts d).length:Int)=0))=decide (formBad d):=by
    rw [hb11,hb10,hb9,hb8,hb7,hb6,hb5,hb4,hb3,hb2,hb1]
    simp only [bor_d,band_d,band_nn]
    apply decide_eq_decide.2
    unfold formBad nOwner nSource nFixed nFirst nLoop
    by_cases hu:usable d.2.2.2.2.2.2.1 <;> simp only [hu,not_true_eq_false,not_false_eq_true,and_false,and_true,or_false,false_or,ne_eq] <;> omega
  rw [hF]
  refine ifP_split (fun h=>nodeV_form h32 hf hL (of_decide_eq_true h)) (fun h => ?_)
  rw [e (of_decide_eq_false h)]
  refine ifP_split (fun h => ?_) (fun h => ?_)
  · rw [if_pos (show idCheck d≠0 from nd_t h)]
  rw [if_neg (show ¬ idCheck d≠0 from fun k=>k (nd_f h))]
  refine ifP_split (fun h => ?_) (fun h => ?_)
  · rw [if_pos (show bCheck (nLimit d)≠0 from nd_t h)];rfl
  rw [if_neg (show ¬ bCheck (nLimit d)≠0 from fun k=>k (nd_f h))]
  exact ⟨by omega,rfl⟩
theorem ok_ref13_Check:SpecOK Tryd.prog GL 28 ct_ref13_Check.spec:=Ct.okH _ Tryd.func28 (by kernel_rfl) (withSpec_ok (withSpec_ok (withSpec_ok (withSpec_ok (withSpec_ok noSpecs_ok ok_ref01_Usable) ok_ref11_Check) ok_ref12_Check) ok_ref09_Check) ok_ref13_Links) hmix an_ref13_Check (hideMp (by kernel_rfl) vc_ref13_Check)
end Go.RS
