/- Nodec: the parts and the errors of a node. -/
import Derived.Test.YtfgcoeablgoccaaGreatDoorBucket
import Derived.Test.YtfgcoeablgoccaaGreatDoorWire
namespace Go.RS
open Go.SX Go.Proofs
set_option maxRecDepth 100000
set_option linter.unusedVariables false
def bCheck (b:Int×Int):Int:=if b=(0,0)∨(1<=b.1/\b.1<=65536/\1<=b.2/\b.2<=1073741824) then 0 else 1
def pLinks (x:Node):List Int:=(nPorts x).map (·.2)
def pAddrs (x:Node):List Int:=(nPorts x).map (·.1)
def findP (q:Int×Int->Bool) (l:List (Int×Int)):Int:=if l.findIdx q<l.length then (l.findIdx q:Int) else -1
def isA (a:Int) (p:Int×Int):Bool:=decide (p.1=a)
def isL (k:Int) (p:Int×Int):Bool:=decide (p.2=k)
def portA (x:Node) (a:Int):Int:=findP (isA a) (nPorts x)
def portL (x:Node) (k:Int):Int:=findP (isL k) (nPorts x)
def ownsA (x:Node) (a:Int):Bool:=decide (0<=portA x a)||(!decide (nLoop x=0)&&decide (nLoop x=a))
theorem take_step {α:Type} [Inhabited α] {l:List α} {k:Int} (h0:0<=k) (h1:k<l.length):l.take (k+1).toNat=l.take k.toNat++[l.getD k.toNat default]:=by
  rw [show (k+1).toNat=k.toNat+1 by omega,List.take_add_one,List.getElem?_eq_getElem (by omega),List.getD_eq_getElem?_getD,List.getElem?_eq_getElem (by omega)];rfl
def ct_bucket_Check:Ct:=⟨[.agg cBucket],[.val cI],fun _=>[],fun d=>((bCheck d.1,()),())⟩
def an_bucket_Check:PDs ct_bucket_Check.ps->Anns:=(fun _=>{})
theorem vc_bucket_Check :
 ∀(a b:Int),(R64 a/\R64 b)/\True->True-> ∀(c:Bool),c= ! decide ((a,b)=((0:Int),(0:Int)))->(c->(c->c)/\True)/\(c->(c->c)/\True)/\(c->(c->c)/\True)/\ ∀(d:Bool),d=decide (a<1)->((c&& ! d)->((c&& ! d)->(c&& ! d))/\True)/\((c&& ! d)->((c&& ! d)->(c&& ! d))/\True)/\(c->(c->c)/\(d=false->(c&& ! d))/\True)/\(c->(c->c)/\True)/\ ∀(e:Bool),(e=bif d then true else decide (65536<a))->((c&& ! e)->((c&& ! e)->(c&& ! e))/\True)/\((c&& ! e)->((c&& ! e)->(c&& ! e))/\True)/\(c->(c->c)/\(e=false->(c&& ! e))/\True)/\(c->(c->c)/\True)/\ ∀(f:Bool),(f=bif e then true else decide (b<1))->((c&& ! f)->((c&& ! f)->(c&& ! f))/\True)/\((c&& ! f)->((c&& ! f)->(c&& ! f))/\True)/\(c->(c->c)/\(f=false->(c&& ! f))/\True)/\(c->c)/\ifP (bif c then bif f then true else decide (1073741824<b) else false) ((1:Int)=bCheck (a,b)) ((0:Int)=bCheck (a,b)):=by
  rintro a b - -
  (repeat (intro (b_:Bool) (hb_:b_=_);(repeat refine ⟨(by first|(simp;done)|(rw [hb_];simp;done)|(rw [hb_];simp;omega)|(rw [hb_];simp;intros;omega)|(rw [hb_];simp +contextual;done)),?_⟩);subst hb_))
  unfold bCheck
  refine ifP_split (fun h => ?_) (fun h => ?_)
  · simp at h
    rw [if_neg (by simp;omega)]
  · simp at h
    rw [if_pos (by simp;omega)]
theorem ok_bucket_Check:SpecOK Tryz.prog GL 50 ct_bucket_Check.spec:=Ct.okH _ Tryz.func50 (by kernel_rfl) (withSpec_ok noSpecs_ok ok_bucket_unlimited) hmix an_bucket_Check (hideMp (by kernel_rfl) vc_bucket_Check)
def ct_ref12_Check:Ct:=⟨[.agg cBucket],[.val cI],fun _=>[],fun d=>((bCheck d.1,()),())⟩
def an_ref12_Check:PDs ct_ref12_Check.ps->Anns:=(fun _=>{})
def Qbq2 (c:Bool) :=
 (! c)->((! c)->(! c))/\True
theorem vc_ref12_Check :
 ∀(a b:Int),(R64 a/\R64 b)/\True->True-> ∀(c:Bool),c=(decide (a=0)&&(decide (b=0)&&true))->(Qbq2 c)/\(Qbq2 c)/\(Qbq2 c)/\ ∀(d:Bool),d=decide (1<=a)->((! c&&d)->((! c&&d)->(! c&&d))/\True)/\((! c&&d)->((! c&&d)->(! c&&d))/\True)/\((! c)->((! c)->(! c))/\(d->(! c&&d))/\True)/\(Qbq2 c)/\ ∀(e:Bool),(e=bif d then decide (a<=65536) else false)->((! c&&e)->((! c&&e)->(! c&&e))/\True)/\((! c&&e)->((! c&&e)->(! c&&e))/\True)/\((! c)->((! c)->(! c))/\(e->(! c&&e))/\True)/\(Qbq2 c)/\ ∀(f:Bool),(f=bif e then decide (1<=b) else false)->((! c&&f)->((! c&&f)->(! c&&f))/\True)/\((! c&&f)->((! c&&f)->(! c&&f))/\True)/\((! c)->((! c)->(! c))/\(f->(! c&&f))/\True)/\(c=false->(! c))/\ifP (bif c then true else bif f then decide (b<=1073741824) else false) ((0:Int)=bCheck (a,b)) ((1:Int)=bCheck (a,b)):=by
  delta Qbq2
  rintro a b - -
  (repeat (intro (b_:Bool) (hb_:b_=_);(repeat refine ⟨(by first|(simp;done)|(rw [hb_];simp;done)|(rw [hb_];simp;omega)|(rw [hb_];simp;intros;omega)|(rw [hb_];simp +contextual;done)),?_⟩);subst hb_))
  unfold bCheck
  refine ⟨by intro h;rw [h];rfl,?_⟩
  refine ifP_split (fun h => ?_) (fun h => ?_)
  · simp at h
    rw [if_pos (by simp;omega)]
  · simp at h
    rw [if_neg (by simp;omega)]
theorem ok_ref12_Check:SpecOK Tryz.prog GL 55 ct_ref12_Check.spec:=Ct.okH _ Tryz.func55 (by kernel_rfl) noSpecs_ok hmix an_ref12_Check (hideMp (by kernel_rfl) vc_ref12_Check)
def ct_node_usable:Ct:=⟨[.val cU32],[.val .bool],fun d=>[],fun d=>((decide (usable d.1),()),())⟩
def an_node_usable:PDs ct_node_usable.ps->Anns:=(fun _=>{})
theorem vc_node_usable :
 ∀(a:Int),(0<=a/\a<=4294967295)/\True->True-> ∀(b:Bool),b=decide (special a=0)->((! b)->((! b)->(! b))/\True)/\(b=false->(! b))/\(bif b then true else decide (special a=3))=decide (usable a):=by
  rintro a - -
  (repeat (intro (b_:Bool) (hb_:b_=_);(repeat refine ⟨(by first|(simp;done)|(rw [hb_];simp;done)|(rw [hb_];simp;omega)|(rw [hb_];simp;intros;omega)|(rw [hb_];simp +contextual;done)),?_⟩);subst hb_))
  rw [Bool.eq_iff_iff,decide_eq_true_iff];simp [usable,Bool.cond_eq_ite]
theorem ok_node_usable:SpecOK Tryz.prog GL 47 ct_node_usable.spec:=Ct.okH _ Tryz.func47 (by kernel_rfl) (withSpec_ok noSpecs_ok ok_address_Special) hmix an_node_usable (hideMp (by kernel_rfl) vc_node_usable)
def ct_node_port_1:Ct:=⟨[.agg cPort,.box 25 cU32],[.val .bool],fun d=>[],fun d=>((isA d.2.1 d.1,()),(d.2.1,()))⟩
def an_node_port_1:PDs ct_node_port_1.ps->Anns:=(fun _=>{})
theorem vc_node_port_1 :
 ∀(a b c:Int),((0<=a/\a<=4294967295)/\R64 b)/\(0<=c/\c<=4294967295)/\True->True->decide (a=c)=isA c (a,b)/\c=c:=by
  rintro a b c - -
  exact ⟨rfl,rfl⟩
theorem ok_node_port_1:SpecOK Tryz.prog GL 95 ct_node_port_1.spec:=Ct.okH _ Tryz.func95 (by kernel_rfl) noSpecs_ok hmix an_node_port_1 (hideMp (by kernel_rfl) vc_node_port_1)
def ct_node_PortOf_1:Ct:=⟨[.agg cPort,.box 3 cI],[.val .bool],fun d=>[],fun d=>((isL d.2.1 d.1,()),(d.2.1,()))⟩
def an_node_PortOf_1:PDs ct_node_PortOf_1.ps->Anns:=(fun _=>{})
theorem vc_node_PortOf_1 :
 ∀(a b c:Int),((0<=a/\a<=4294967295)/\R64 b)/\R64 c/\True->True->decide (b=c)=isL c (a,b)/\c=c:=by
  rintro a b c - -
  exact ⟨rfl,rfl⟩
theorem ok_node_PortOf_1:SpecOK Tryz.prog GL 59 ct_node_PortOf_1.spec:=Ct.okH _ Tryz.func59 (by kernel_rfl) noSpecs_ok hmix an_node_PortOf_1 (hideMp (by kernel_rfl) vc_node_PortOf_1)
def ct_IndexA:Ct:=⟨[.val (.sl cPort),.fn 95 1,.box 25 cU32],[.val cI],fun d=>[],fun d=>((findP (isA d.2.2.1) d.1,()),(d.2.2.1,()))⟩
def an_IndexA:PDs ct_IndexA.ps->Anns:=(fun d=>{loops:=(fun n=>match n with|2=>some (fun S=>{ι:=Int,μ:=fun i=>(d.1.length-i).toNat,inv:=fun i=>0<=i/\i<=d.1.length∧∀ x∈d.1.take i.toNat,isA d.2.2.1 x=false,keep:=[0,1,6,7],slots:=fun i=>[(8,.int .i64 i)],keepN:=[1048576],names:=fun i=>[]})|_=>none)})
def Qbq0 (a:List (Int×Int)) :=
 (a.length:Int)
theorem vc_IndexA :
 ∀(a:List (Int×Int)) (b:Int),(a.length<=maxLen/\ ∀(c:Int×Int),c∈a->(0<=c.1/\c.1<=4294967295)/\R64 c.2)/\True/\(0<=b/\b<=4294967295)/\True->True->(∃(c:Int),(0<=c/\c<=(Qbq0 a)/\ ∀(d:Int×Int),d∈List.take c.toNat a->isA b d=false)/\a=a/\a=a/\(Qbq0 a)=(Qbq0 a)/\(0:Int)=c/\b=b/\True)/\ ∀(c:Int),(0<=c/\c<=(Qbq0 a)/\ ∀(d:Int×Int),d∈List.take c.toNat a->isA b d=false)->ifP (decide (c<(Qbq0 a))) (0<=c/\c<(Qbq0 a)/\ifP (isA b (a.getD c.toNat default)) (c=findP (isA b) a/\b=b) (∃(d:Int),(0<=d/\d<=(Qbq0 a)/\ ∀(e:Int×Int),e∈List.take d.toNat a->isA b e=false)/\Int.toNat ((Qbq0 a) -d)<Int.toNat ((Qbq0 a) -c)/\a=a/\a=a/\(Qbq0 a)=(Qbq0 a)/\IntKind.wrap .i64 (c+(1:Int))=d/\b=b/\True)) ((-1:Int)=findP (isA b) a/\b=b):=by
  delta Qbq0
  rintro l a ⟨⟨hl,-⟩,-⟩ -
  simp only [maxLen] at hl
  refine ⟨⟨0,⟨by omega,by omega,by simp⟩,(by repeat' first|exact trivial|refine ⟨trivial,?_⟩|refine ⟨(by with_reducible rfl),?_⟩|refine ⟨w64 (by omega) (by omega),?_⟩|refine ⟨rfl,?_⟩)⟩,?_⟩
  rintro j ⟨j0,j1,hj⟩
  refine ifP_split (fun hk => ?_) (fun hk => ?_)
  · have hk:=of_decide_eq_true hk
    refine ⟨j0,hk,ifP_split (fun hm => ?_) (fun hm => ?_)⟩
    · exact ⟨findI_at j0 hk hj hm,rfl⟩
    · exact ⟨j+1,⟨by omega,by omega,all_next j0 hk hj hm⟩,by omega,(by repeat' first|exact trivial|refine ⟨trivial,?_⟩|refine ⟨(by with_reducible rfl),?_⟩|refine ⟨w64 (by omega) (by omega),?_⟩|refine ⟨rfl,?_⟩)⟩
  · exact ⟨findI_none (of_decide_eq_false hk) hj,rfl⟩
theorem ok_IndexA:SpecOK Tryz.prog GL 58 ct_IndexA.spec:=Ct.okH _ Tryz.func58 (by kernel_rfl) (withSpec_ok noSpecs_ok ok_node_port_1) hmix an_IndexA (hideMp (by kernel_rfl) vc_IndexA)
def ct_IndexL:Ct:=⟨[.val (.sl cPort),.fn 59 1,.box 3 cI],[.val cI],fun d=>[],fun d=>((findP (isL d.2.2.1) d.1,()),(d.2.2.1,()))⟩
def an_IndexL:PDs ct_IndexL.ps->Anns:=(fun d=>{loops:=(fun n=>match n with|2=>some (fun S=>{ι:=Int,μ:=fun i=>(d.1.length-i).toNat,inv:=fun i=>0<=i/\i<=d.1.length∧∀ x∈d.1.take i.toNat,isL d.2.2.1 x=false,keep:=[0,1,6,7],slots:=fun i=>[(8,.int .i64 i)],keepN:=[1048576],names:=fun i=>[]})|_=>none)})
theorem vc_IndexL :
 ∀(a:List (Int×Int)) (b:Int),(a.length<=maxLen/\ ∀(c:Int×Int),c∈a->(0<=c.1/\c.1<=4294967295)/\R64 c.2)/\True/\R64 b/\True->True->(∃(c:Int),(0<=c/\c<=(Qbq0 a)/\ ∀(d:Int×Int),d∈List.take c.toNat a->isL b d=false)/\a=a/\a=a/\(Qbq0 a)=(Qbq0 a)/\(0:Int)=c/\b=b/\True)/\ ∀(c:Int),(0<=c/\c<=(Qbq0 a)/\ ∀(d:Int×Int),d∈List.take c.toNat a->isL b d=false)->ifP (decide (c<(Qbq0 a))) (0<=c/\c<(Qbq0 a)/\ifP (isL b (a.getD c.toNat default)) (c=findP (isL b) a/\b=b) (∃(d:Int),(0<=d/\d<=(Qbq0 a)/\ ∀(e:Int×Int),e∈List.take d.toNat a->isL b e=false)/\Int.toNat ((Qbq0 a) -d)<Int.toNat ((Qbq0 a) -c)/\a=a/\a=a/\(Qbq0 a)=(Qbq0 a)/\IntKind.wrap .i64 (c+(1:Int))=d/\b=b/\True)) ((-1:Int)=findP (isL b) a/\b=b):=by
  delta Qbq0
  rintro l a ⟨⟨hl,-⟩,-⟩ -
  simp only [maxLen] at hl
  refine ⟨⟨0,⟨by omega,by omega,by simp⟩,(by repeat' first|exact trivial|refine ⟨trivial,?_⟩|refine ⟨(by with_reducible rfl),?_⟩|refine ⟨w64 (by omega) (by omega),?_⟩|refine ⟨rfl,?_⟩)⟩,?_⟩
  rintro j ⟨j0,j1,hj⟩
  refine ifP_split (fun hk => ?_) (fun hk => ?_)
  · have hk:=of_decide_eq_true hk
    refine ⟨j0,hk,ifP_split (fun hm => ?_) (fun hm => ?_)⟩
    · exact ⟨findI_at j0 hk hj hm,rfl⟩
    · exact ⟨j+1,⟨by omega,by omega,all_next j0 hk hj hm⟩,by omega,(by repeat' first|exact trivial|refine ⟨trivial,?_⟩|refine ⟨(by with_reducible rfl),?_⟩|refine ⟨w64 (by omega) (by omega),?_⟩|refine ⟨rfl,?_⟩)⟩
  · exact ⟨findI_none (of_decide_eq_false hk) hj,rfl⟩
theorem ok_IndexL:SpecOK Tryz.prog GL 58 ct_IndexL.spec:=Ct.okH _ Tryz.func58 (by kernel_rfl) (withSpec_ok noSpecs_ok ok_node_PortOf_1) hmix an_IndexL (hideMp (by kernel_rfl) vc_IndexL)
def ct_node_port:Ct:=⟨[.agg cNode,.val cU32],[.val cI],fun d=>[],fun d=>((portA d.1 d.2.1,()),())⟩
def an_node_port:PDs ct_node_port.ps->Anns:=(fun _=>{})
theorem vc_node_port :
 ∀(a:Node) (b:Int),CT.wf cNode a/\(0<=b/\b<=4294967295)/\True->True->findP (isA b) a.1=portA a b:=by
  rintro d x - -
  rfl
theorem ok_node_port:SpecOK Tryz.prog GL 48 ct_node_port.spec:=Ct.okH _ Tryz.func48 (by kernel_rfl) (withSpec_ok noSpecs_ok ok_IndexA) hmix an_node_port (hideMp (by kernel_rfl) vc_node_port)
def ct_node_PortOf:Ct:=⟨[.agg cNode,.val cI],[.val cI],fun d=>[],fun d=>((portL d.1 d.2.1,()),())⟩
def an_node_PortOf:PDs ct_node_PortOf.ps->Anns:=(fun _=>{})
theorem vc_node_PortOf :
 ∀(a:Node) (b:Int),CT.wf cNode a/\R64 b/\True->True->findP (isL b) a.1=portL a b:=by
  rintro d x - -
  rfl
theorem ok_node_PortOf:SpecOK Tryz.prog GL 18 ct_node_PortOf.spec:=Ct.okH _ Tryz.func18 (by kernel_rfl) (withSpec_ok noSpecs_ok ok_IndexL) hmix an_node_PortOf (hideMp (by kernel_rfl) vc_node_PortOf)
def ct_node_Owns:Ct:=⟨[.agg cNode,.val cU32],[.val .bool],fun d=>[],fun d=>((ownsA d.1 d.2.1,()),())⟩
def an_node_Owns:PDs ct_node_Owns.ps->Anns:=(fun _=>{})
theorem vc_node_Owns :
 ∀(a:Node) (b:Int),CT.wf cNode a/\(0<=b/\b<=4294967295)/\True->True-> ∀(c:Int),c=portA a b-> ∀(d:Bool),d=decide (0<=c)->((! d)->((! d)->(! d))/\True)/\((! d)->((! d)->(! d))/\True)/\((! d)->((! d)->(! d))/\True)/\ ∀(e:Bool),e= ! decide (a.2.1=0)->((! d&&e)->((! d&&e)->(! d&&e))/\True)/\((! d&&e)->((! d&&e)->(! d&&e))/\((! d&&e)->(! d&&e))/\True)/\((! d)->((! d)->(! d))/\(e->(! d&&e))/\True)/\(d=false->(! d))/\(bif d then true else bif e then decide (a.2.1=b) else false)=ownsA a b:=by
  rintro d x - - q hq
  unfold ownsA
  rw [show nLoop d=d.2.1 from rfl,← hq]
  generalize d.2.1=z
  intro b hb
  refine ⟨by simp,by simp,by simp,?_⟩
  intro b1 hb1
  (repeat refine ⟨(by cases b <;> cases b1 <;> simp),?_⟩)
  rw [hb,hb1]
  cases decide (0<=q) <;> cases decide (z=0) <;> cases decide (z=x) <;> rfl
theorem ok_node_Owns:SpecOK Tryz.prog GL 16 ct_node_Owns.spec:=Ct.okH _ Tryz.func16 (by kernel_rfl) (withSpec_ok noSpecs_ok (Ct.named ok_node_port)) hmix an_node_Owns (hideMp (by kernel_rfl) vc_node_Owns)
def ct_node_links:Ct:=⟨[.agg cNode],[.own 3 cI],fun d=>[(nPorts d.1).length<=100000],fun d=>((pLinks d.1,()),())⟩
def an_node_links:PDs ct_node_links.ps->Anns:=(fun d=>{loops:=(fun n=>match n with|3=>some (fun S=>{ι:=Int×(List Int),qn:=⟨fun k_=>∀ (j:Int) (l:(List Int)),k_ (j,l),fun k_ h_ i=>h_ i.1 i.2,fun k_=>∃ (j:Int) (l:(List Int)),k_ (j,l),fun k_ ⟨j,l,h_⟩=>⟨_,h_⟩⟩,μ:=fun i=>((nPorts d.1).length-i.1).toNat,inv:=fun i=>0<=i.1/\i.1<=(nPorts d.1).length/\i.2=(pLinks d.1).take i.1.toNat,keep:=[1,7,8],slots:=fun i=>[(3,.own 524288 1),(9,.int .i64 i.1)],keepN:=[32],names:=fun i=>[(524288,.live (.row 3 cI i.2))]})|_=>none)})
def Qbq1 (a:Node) :=
 ((List.length (nPorts a)):Int)
theorem vc_node_links :
 ∀(a:Node),CT.wf cNode a/\True->List.length (nPorts a)<=(100000:Nat)->(∃(b:Int) (c:List Int),(0<=b/\b<=(Qbq1 a)/\c=List.take b.toNat (pLinks a))/\a.1=a.1/\(a.1.length:Int)=(a.1.length:Int)/\(0:Int)=b/\a.1=a.1/\a.2.1=a.2.1/\a.2.2.1=a.2.2.1/\a.2.2.2.1=a.2.2.2.1/\a.2.2.2.2.1=a.2.2.2.2.1/\a.2.2.2.2.2.1=a.2.2.2.2.2.1/\a.2.2.2.2.2.2.1=a.2.2.2.2.2.2.1/\a.2.2.2.2.2.2.2.1=a.2.2.2.2.2.2.2.1/\a.2.2.2.2.2.2.2.2.1=a.2.2.2.2.2.2.2.2.1/\a.2.2.2.2.2.2.2.2.2.1=a.2.2.2.2.2.2.2.2.2.1/\a.2.2.2.2.2.2.2.2.2.2.1.1=a.2.2.2.2.2.2.2.2.2.2.1.1/\a.2.2.2.2.2.2.2.2.2.2.1.2=a.2.2.2.2.2.2.2.2.2.2.1.2/\a.2.2.2.2.2.2.2.2.2.2.2.1=a.2.2.2.2.2.2.2.2.2.2.2.1/\a.2.2.2.2.2.2.2.2.2.2.2.2.1=a.2.2.2.2.2.2.2.2.2.2.2.2.1/\a.2.2.2.2.2.2.2.2.2.2.2.2.2.1=a.2.2.2.2.2.2.2.2.2.2.2.2.2.1/\a.2.2.2.2.2.2.2.2.2.2.2.2.2.2=a.2.2.2.2.2.2.2.2.2.2.2.2.2.2/\c=([]:List Int)/\True)/\ ∀(b:Int) (c:List Int),0<=b/\b<=(Qbq1 a)/\c=List.take b.toNat (pLinks
 a)->ifP (decide (b<(a.1.length:Int))) (0<=b/\b<(a.1.length:Int)/\(c.length+List.length [(List.getD a.1 b.toNat default).2])*(8:Nat)<=(140737488355328:Nat)/\ ∃(d:Int) (e:List Int),(0<=d/\d<=(Qbq1 a)/\e=List.take d.toNat (pLinks a))/\Int.toNat ((Qbq1 a) -d)<Int.toNat ((Qbq1 a) -b)/\a.1=a.1/\(a.1.length:Int)=(a.1.length:Int)/\IntKind.wrap .i64
 (b+(1:Int))=d/\a.1=a.1/\a.2.1=a.2.1/\a.2.2.1=a.2.2.1/\a.2.2.2.1=a.2.2.2.1/\a.2.2.2.2.1=a.2.2.2.2.1/\a.2.2.2.2.2.1=a.2.2.2.2.2.1/\a.2.2.2.2.2.2.1=a.2.2.2.2.2.2.1/\a.2.2.2.2.2.2.2.1=a.2.2.2.2.2.2.2.1/\a.2.2.2.2.2.2.2.2.1=a.2.2.2.2.2.2.2.2.1/\a.2.2.2.2.2.2.2.2.2.1=a.2.2.2.2.2.2.2.2.2.1/\a.2.2.2.2.2.2.2.2.2.2.1.1=a.2.2.2.2.2.2.2.2.2.2.1.1/\a.2.2.2.2.2.2.2.2.2.2.1.2=a.2.2.2.2.2.2.2.2.2.2.1.2/\a.2.2.2.2.2.2.2.2.2.2.2.1=a.2.2.2.2.2.2.2.2.2.2.2.1/\a.2.2.2.2.2.2.2.2.2.2.2.2.1=a.2.2.2.2.2.2.2.2.2.2.2.2.1/\a.2.2.2.2.2.2.2.2.2.2.2.2.2.1=a.2.2.2.2.2.2.2.2.2.2.2.2.2.1/\a.2.2.2.2.2.2.2.2.2.2.2.2.2.2=a.2.2.2.2.2.2.2.2.2.2.2.2.2.2/\c++[(List.getD a.1 b.toNat default).2]=e/\True) (c=pLinks a):=by
  delta Qbq1
  rintro d-hl
  have hlen:(pLinks d).length=(nPorts d).length:=by simp [pLinks]
  refine ⟨⟨0,[],⟨by omega,by omega,rfl⟩,(by repeat' first|exact trivial|refine ⟨trivial,?_⟩|refine ⟨(by with_reducible rfl),?_⟩|refine ⟨w64 (by omega) (by omega),?_⟩|refine ⟨rfl,?_⟩)⟩,?_⟩
  rintro j l ⟨j0,j1,rfl⟩
  have hd:d.1=nPorts d:=rfl
  rw [hd]
  refine ifP_split (fun hk => ?_) (fun hk => ?_)
  · have hk:=of_decide_eq_true hk
    refine ⟨j0,hk,by simp only [List.length_take,List.length_cons,List.length_nil];omega,j+1,_,⟨by omega,by omega,rfl⟩,by omega,?_⟩
    (repeat first|refine ⟨trivial,?_⟩|refine ⟨(by with_reducible rfl),?_⟩|refine ⟨w64 (by omega) (by omega),?_⟩)
    refine ⟨?_,trivial⟩
    rw [take_step j0 (by rw [hlen];exact hk)]
    unfold pLinks
    rw [List.getD_eq_getElem?_getD,List.getD_eq_getElem?_getD,List.getElem?_map,List.getElem?_eq_getElem (by omega)]
    rfl
  · have hk:=of_decide_eq_false hk
    rw [List.take_of_length_le (by omega)]
theorem ok_node_links:SpecOK Tryz.prog GL 52 ct_node_links.spec:=Ct.okH _ Tryz.func52 (by kernel_rfl) noSpecs_ok hmix an_node_links (hideMp (by kernel_rfl) vc_node_links)
end Go.RS

/- Nodek: the first error of a node, in the program and in the reference; the reference's parts of a node. -/
namespace Go.RS
open Go.SX Go.Proofs
set_option maxRecDepth 100000
set_option linter.unusedVariables false
def first (f:Nat->Int):Nat->Int
  | 0=>0
  | n+1=>if first f n≠0 then first f n else f n
theorem first_next {f:Nat->Int} {i:Int} (h0:0<=i) (h:first f i.toNat=0) (hf:f i.toNat=0):first f (i+1).toNat=0:=by
  rw [show (i+1).toNat=i.toNat+1 by omega,first,if_neg (by simp [h]),hf]
theorem first_keep {f:Nat->Int} {a:Nat} (h:first f a≠0):∀ k,first f (a+k)=first f a
  | 0=>rfl
  | k+1=>by rw [← Nat.add_assoc,first,if_pos (by rw [first_keep h k];exact h),first_keep h k]
theorem first_hit {f:Nat->Int} {i:Int} {n:Nat} (h0:0<=i) (h1:i<n) (h:first f i.toNat=0) (hf:f i.toNat≠0):f i.toNat=first f n:=by
  have e:first f (i.toNat+1)=f i.toNat:=by rw [first,if_neg (by simp [h])]
  have k:=first_keep (a:=i.toNat+1) (by rw [e];exact hf) (n-(i.toNat+1))
  rw [show i.toNat+1+(n-(i.toNat+1))=n by omega] at k
  rw [k,e]
theorem first_zero {f:Nat->Int}:∀ {n:Nat},first f n=0→∀ i,i<n->f i=0
  | 0,_,i,hi=>by omega
  | n+1,h,i,hi=>by
    by_cases k:first f n=0
    · rw [first,if_neg (by simp [k])] at h
      by_cases e:i=n
      · rw [e];exact h
      · exact first_zero k i (by omega)
    · rw [first,if_pos k] at h;exact absurd h k
def portBad (x:Node) (i:Nat):Int :=
  if ¬ usable ((nPorts x).getD i default).1∨portA x ((nPorts x).getD i default).1<i then 10
  else if ((nPorts x).getD i default).2<0∨portL x ((nPorts x).getD i default).2<i then 11 else 0
def loopBad (x:Node):Prop:=nLoop x≠0/\(¬ usable (nLoop x)∨0<=portA x (nLoop x))
instance (x:Node):Decidable (loopBad x):=by unfold loopBad;infer_instance
def formBad (x:Node):Prop:=nOwner x<0∨(nSource x<1∨4<nSource x)∨(nSource x=3/\nLoop x=0)∨(nFixed x≠0∧¬ usable (nFixed x))∨(nSource x=4/\nFixed x=0)∨(nFirst x<1∨255<nFirst x)∨(nPorts x).length=0
instance (x:Node):Decidable (formBad x):=by unfold formBad;infer_instance
def nodeV (x:Node):Int :=
  if 32<(nPorts x).length then 5
  else if first (portBad x) (nPorts x).length≠0 then first (portBad x) (nPorts x).length
  else if loopBad x then 10
  else if formBad x then 13
  else if idCheck x≠0 then idCheck x
  else if bCheck (nLimit x)≠0 then bCheck (nLimit x)
  else check (nRoutes x) (pLinks x)
theorem ifP_twice {c:Bool} {y n m:Prop} (hy:c=true->y) (hm:c=false->m):ifP c (ifP c y n) m:=by
  cases c with
  | true=>exact hy rfl
  | false=>exact hm rfl
theorem findP_lt {q:Int×Int->Bool} {l:List (Int×Int)} {i:Nat} (hi:i<l.length) (hq:q (l.getD i default)=true):findP q l<i↔∃ y∈l.take i,q y=true:=by
  rw [List.getD_eq_getElem?_getD,List.getElem?_eq_getElem hi,Option.getD_some] at hq
  have hlt:l.findIdx q<l.length:=List.findIdx_lt_length_of_exists ⟨_,List.getElem_mem hi,hq⟩
  unfold findP
  rw [if_pos hlt]
  constructor
  · intro h
    have h:l.findIdx q<i:=by omega
    exact ⟨_,List.mem_take_iff_getElem.2 ⟨l.findIdx q,by omega,rfl⟩,List.findIdx_getElem (w:=hlt)⟩
  · rintro ⟨y,hy,hq⟩
    obtain ⟨j,hj,rfl⟩:=List.mem_take_iff_getElem.1 hy
    have:¬ j<l.findIdx q:=fun h=>by have:=List.not_of_lt_findIdx h;simp_all
    omega
theorem nodeV_bad {x:Node} (h:(nPorts x).length<=32) {i:Int} (h0:0<=i) (h1:i<(nPorts x).length) (hf:first (portBad x) i.toNat=0) (hb:portBad x i.toNat≠0):portBad x i.toNat=nodeV x:=by
  have e:=first_hit h0 h1 hf hb
  unfold nodeV
  rw [if_neg (by omega),← e,if_pos hb]
theorem nodeV_loop {x:Node} (h:(nPorts x).length<=32) (hf:first (portBad x) (nPorts x).length=0) (hl:loopBad x):10=nodeV x:=by
  unfold nodeV
  rw [if_neg (by omega),if_neg (by simp [hf]),if_pos hl]
theorem nodeV_form {x:Node} (h:(nPorts x).length<=32) (hf:first (portBad x) (nPorts x).length=0) (hl:¬ loopBad x) (hb:formBad x):13=nodeV x:=by
  unfold nodeV
  rw [if_neg (by omega),if_neg (by simp [hf]),if_neg hl,if_pos hb]
theorem nodeV_rest {x:Node} (h:(nPorts x).length<=32) (hf:first (portBad x) (nPorts x).length=0) (hl:¬ loopBad x) (hb:¬ formBad x):nodeV x=if idCheck x≠0 then idCheck x else if bCheck (nLimit x)≠0 then bCheck (nLimit x) else check (nRoutes x) (pLinks x):=by
  unfold nodeV
  rw [if_neg (by omega),if_neg (by simp [hf]),if_neg hl,if_neg hb]
theorem portBad_a {x:Node} {i:Int} (h0:0<=i) (h:¬ usable ((nPorts x).getD i.toNat default).1∨portA x ((nPorts x).getD i.toNat default).1<i):portBad x i.toNat=10:=by
  unfold portBad
  rw [show ((i.toNat:Nat):Int)=i by omega,if_pos h]
theorem portBad_l {x:Node} {i:Int} (h0:0<=i) (h:¬ (¬ usable ((nPorts x).getD i.toNat default).1∨portA x ((nPorts x).getD i.toNat default).1<i)) (k:((nPorts x).getD i.toNat default).2<0∨portL x ((nPorts x).getD i.toNat default).2<i):portBad x i.toNat=11:=by
  unfold portBad
  rw [show ((i.toNat:Nat):Int)=i by omega,if_neg h,if_pos k]
theorem portBad_n {x:Node} {i:Int} (h0:0<=i) (h:¬ (¬ usable ((nPorts x).getD i.toNat default).1∨portA x ((nPorts x).getD i.toNat default).1<i)) (k:¬ (((nPorts x).getD i.toNat default).2<0∨portL x ((nPorts x).getD i.toNat default).2<i)):portBad x i.toNat=0:=by
  unfold portBad
  rw [show ((i.toNat:Nat):Int)=i by omega,if_neg h,if_neg k]
def ct_node_Check:Ct:=⟨[.agg cNode],[.val cI],fun d=>[],fun d=>((nodeV d.1,()),())⟩
def an_node_Check:PDs ct_node_Check.ps->Anns:=(fun d=>{loops:=(fun n=>match n with|4=>some (fun S=>{ι:=Int,μ:=fun i=>((nPorts d.1).length-i).toNat,inv:=fun i=>0<=i/\i<=(nPorts d.1).length/\first (portBad d.1) i.toNat=0,keep:=[1,12,13],slots:=fun i=>[(14,.int .i64 i)],keepN:=[32],names:=fun i=>[]})|_=>none),cuts:=(fun n=>match n with|21=>some (fun S=>{ι:=Unit,inv:=fun i=>(nPorts d.1).length<=32/\first (portBad d.1) (nPorts d.1).length=0∧¬ loopBad d.1∧¬ formBad d.1,keep:=[1],slots:=fun i=>[],keepN:=[32],names:=fun i=>[]})|_=>none),unr:=fun n=>match n with|22=>4|_=>0})
def Qbr0 (a:Node) :=
 a.1=a.1/\a.2.1=a.2.1/\a.2.2.1=a.2.2.1/\a.2.2.2.1=a.2.2.2.1/\a.2.2.2.2.1=a.2.2.2.2.1/\a.2.2.2.2.2.1=a.2.2.2.2.2.1/\a.2.2.2.2.2.2.1=a.2.2.2.2.2.2.1/\a.2.2.2.2.2.2.2.1=a.2.2.2.2.2.2.2.1/\a.2.2.2.2.2.2.2.2.1=a.2.2.2.2.2.2.2.2.1/\a.2.2.2.2.2.2.2.2.2.1=a.2.2.2.2.2.2.2.2.2.1/\a.2.2.2.2.2.2.2.2.2.2.1.1=a.2.2.2.2.2.2.2.2.2.2.1.1/\a.2.2.2.2.2.2.2.2.2.2.1.2=a.2.2.2.2.2.2.2.2.2.2.1.2/\a.2.2.2.2.2.2.2.2.2.2.2.1=a.2.2.2.2.2.2.2.2.2.2.2.1/\a.2.2.2.2.2.2.2.2.2.2.2.2.1=a.2.2.2.2.2.2.2.2.2.2.2.2.1/\a.2.2.2.2.2.2.2.2.2.2.2.2.2.1=a.2.2.2.2.2.2.2.2.2.2.2.2.2.1/\a.2.2.2.2.2.2.2.2.2.2.2.2.2.2=a.2.2.2.2.2.2.2.2.2.2.2.2.2.2/\True
def Qbr1 (a:Node) :=
 (List.length (nPorts a)<=(32:Nat)/\first (portBad a) (List.length (nPorts a))=0/\ ¬loopBad a/\ ¬formBad a)/\(Qbr0 a)
def Qbr2 (a:Node) :=
 ((List.length (nPorts a)):Int)
def Qbr3 (a:Node) :=
 ((List.length [idCheck a,bCheck a.2.2.2.2.2.2.2.2.2.2.1,check a.2.2.2.2.1 (pLinks a)]):Int)
def Qbr4 (a:Node) (b:Int) :=
 List.getD a.1 b.toNat default
def Qbr5 (a:Node) :=
 (a.1.length:Int)
def Qbr6 :=
 IntKind.wrap .i64 ((0:Int)+(1:Int))+(1:Int)
theorem vc_node_Check :
 ∀(a:Node),CT.wf cNode a/\True->True->ifP (decide (32<(Qbr5 a))) ((5:Int)=nodeV a) ((∃(b:Int),(0<=b/\b<=(Qbr2 a)/\first (portBad a) b.toNat=0)/\a.1=a.1/\(Qbr5 a)=(Qbr5 a)/\(0:Int)=b/\(Qbr0 a))/\ ∀(b:Int),0<=b/\b<=(Qbr2 a)/\first (portBad a) b.toNat=0->ifP (decide (b<(Qbr5 a))) (0<=b/\b<(Qbr5 a)/\ ∀(c:Bool),c= ! decide (usable (Qbr4 a b).1)->((! c)->((! c)->(! c))/\True)/\((! c)->((! c)->(! c))/\((! c)->(! c))/\True)/\((! c)->((! c)->(! c))/\((! c)->(! c))/\True)/\(c=false->(! c))/\ifP (bif c then true else decide (portA a (Qbr4 a b).1<b)) ((10:Int)=nodeV a) (∀(d:Bool),d=decide ((Qbr4 a b).2<0)->((! d)->((! d)->(! d))/\True)/\((! d)->((! d)->(! d))/\((! d)->(! d))/\True)/\((! d)->((! d)->(! d))/\((! d)->(! d))/\True)/\(d=false->(! d))/\ifP (bif d then true else decide (portL a (Qbr4 a b).2<b)) ((11:Int)=nodeV a) (∃(e:Int),(0<=e/\e<=(Qbr2 a)/\first (portBad a) e.toNat=0)/\Int.toNat ((Qbr2 a)
 -e)<Int.toNat ((Qbr2 a) -b)/\a.1=a.1/\(Qbr5 a)=(Qbr5 a)/\IntKind.wrap .i64 (b+(1:Int))=e/\(Qbr0 a)))) (∀(c:Bool),c= ! decide (a.2.1=0)->(c->(c->c)/\True)/\(c->(c->c)/\True)/\(c->(c->c)/\True)/\(c->(c->c)/\True)/\ ∀(d:Bool),d= ! decide (usable a.2.1)->((c&& ! d)->((c&& ! d)->(c&& ! d))/\True)/\((c&& ! d)->((c&& ! d)->(c&& ! d))/\((c&& ! d)->(c&& ! d))/\True)/\((c&& ! d)->((c&& ! d)->(c&& ! d))/\True)/\(c->(c->c)/\(d=false->(c&& ! d))/\True)/\(c->c)/\ifP (bif c then bif d then true else decide (0<=portA a a.2.1) else false) ((10:Int)=nodeV a) (ifP (decide (a.2.2.1<0)) (ifP (decide (a.2.2.1<0)) ((13:Int)=nodeV a) (∃(e:Unit),(Qbr1 a))) (∀(e:Bool),e=decide (a.2.2.2.2.2.1<1)->((! e)->((! e)->(! e))/\True)/\((! e)->((! e)->(! e))/\True)/\(e=false->(! e))/\ifP (bif e then true else decide (4<a.2.2.2.2.2.1)) (ifP (bif e then true else decide (4<a.2.2.2.2.2.1)) ((13:Int)=nodeV a) (∃(f:Unit),(Qbr1
 a))) (∀(f:Bool),f=decide (a.2.2.2.2.2.1=3)->(f->(f->f)/\True)/\(f->(f->f)/\True)/\(f->f)/\ifP (bif f then decide (a.2.1=0) else false) (ifP (bif f then decide (a.2.1=0) else false) ((13:Int)=nodeV a) (∃(g:Unit),(Qbr1 a))) (∀(g:Bool),g= ! decide (a.2.2.2.2.2.2.1=0)->(g->(g->g)/\True)/\(g->(g->g)/\True)/\(g->(g->g)/\True)/\(g->g)/\ifP (bif g then ! decide (usable a.2.2.2.2.2.2.1) else false) (ifP (bif g then ! decide (usable a.2.2.2.2.2.2.1) else false) ((13:Int)=nodeV a) (∃(h:Unit),(Qbr1 a))) (∀(h:Bool),h=decide (a.2.2.2.2.2.1=4)->(h->(h->h)/\True)/\(h->(h->h)/\True)/\(h->h)/\ifP (bif h then decide (a.2.2.2.2.2.2.1=0) else false) (ifP (bif h then decide (a.2.2.2.2.2.2.1=0) else false) ((13:Int)=nodeV a) (∃(i:Unit),(Qbr1 a))) (∀(i:Bool),i=decide (a.2.2.2.2.2.2.2.2.2.2.2.2.2.1<1)->((! i)->((! i)->(! i))/\True)/\((! i)->((! i)->(! i))/\True)/\(i=false->(! i))/\ifP (bif i then true else
 decide (255<a.2.2.2.2.2.2.2.2.2.2.2.2.2.1)) (ifP (bif i then true else decide (255<a.2.2.2.2.2.2.2.2.2.2.2.2.2.1)) ((13:Int)=nodeV a) (∃(j:Unit),(Qbr1 a))) (ifP (decide ((Qbr5 a)=0)) ((13:Int)=nodeV a) (∃(j:Unit),(Qbr1 a))))))))/\ ∀(e:Unit),List.length (nPorts a)<=(32:Nat)/\first (portBad a) (List.length (nPorts a))=0/\ ¬loopBad a/\ ¬formBad a->List.length (nPorts a)<=(100000:Nat)/\(0:Int)<=0/\0<(Qbr3 a)/\ifP (! decide (List.getD [idCheck a,bCheck a.2.2.2.2.2.2.2.2.2.2.1,check a.2.2.2.2.1 (pLinks a)] (Int.toNat (0:Int)) default=0)) (List.getD [idCheck a,bCheck a.2.2.2.2.2.2.2.2.2.2.1,check a.2.2.2.2.1 (pLinks a)] (Int.toNat (0:Int)) default=nodeV a) (0<=IntKind.wrap .i64 ((0:Int)+(1:Int))/\IntKind.wrap .i64 ((0:Int)+(1:Int))<(Qbr3 a)/\ifP (! decide (List.getD [idCheck a,bCheck a.2.2.2.2.2.2.2.2.2.2.1,check a.2.2.2.2.1 (pLinks a)] (Int.toNat (IntKind.wrap .i64 ((0:Int)+(1:Int))))
 default=0)) (List.getD [idCheck a,bCheck a.2.2.2.2.2.2.2.2.2.2.1,check a.2.2.2.2.1 (pLinks a)] (Int.toNat (IntKind.wrap .i64 ((0:Int)+(1:Int)))) default=nodeV a) (0<=IntKind.wrap .i64 (Qbr6)/\IntKind.wrap .i64 (Qbr6)<(Qbr3 a)/\ifP (! decide (List.getD [idCheck a,bCheck a.2.2.2.2.2.2.2.2.2.2.1,check a.2.2.2.2.1 (pLinks a)] (Int.toNat (IntKind.wrap .i64 (Qbr6))) default=0)) (List.getD [idCheck a,bCheck a.2.2.2.2.2.2.2.2.2.2.1,check a.2.2.2.2.1 (pLinks a)] (Int.toNat (IntKind.wrap .i64 (Qbr6))) default=nodeV a) ((0:Int)=nodeV a)))))):=by
  delta Qbr0 Qbr1 Qbr2 Qbr3 Qbr4 Qbr5 Qbr6
  rintro d - -
  have hd:d.1=nPorts d:=rfl
  rw [hd]
  refine ifP_split (fun h => ?_) (fun h => ?_)
  · unfold nodeV;rw [if_pos (by have:=of_decide_eq_true h;omega)]
  have h32:(nPorts d).length<=32:=by have:=of_decide_eq_false h;omega
  clear h
  refine ⟨⟨0,⟨by omega,by omega,rfl⟩,(by repeat' first|exact trivial|refine ⟨trivial,?_⟩|refine ⟨(by with_reducible rfl),?_⟩|refine ⟨w64 (by omega) (by omega),?_⟩|refine ⟨rfl,?_⟩)⟩,?_⟩
  rintro x ⟨x0,x1,hf⟩
  refine ifP_split (fun hx => ?_) (fun hx => ?_)
  · have hx:=of_decide_eq_true hx
    refine ⟨x0,hx,?_⟩
    (repeat (intro (b_:Bool) (hb_:b_=_);(repeat refine ⟨(by first|(simp;done)|(rw [hb_];simp;done)|(rw [hb_];simp;omega)|(rw [hb_];simp;intros;omega)|(rw [hb_];simp +contextual;done)),?_⟩);subst hb_))
    refine ifP_or (fun ho => ?_) (fun h1 h2 => ?_)
    · have e:=portBad_a (x:=d) x0 (ho.imp nd_t of_decide_eq_true)
      rw [← nodeV_bad h32 x0 hx hf (by rw [e];decide),e]
    have hn:¬ (¬ usable ((nPorts d).getD x.toNat default).1∨portA d ((nPorts d).getD x.toNat default).1<x):=by
      rintro (k|k)
      · exact k (nd_f h1)
      · exact of_decide_eq_false h2 k
    (repeat (intro (b_:Bool) (hb_:b_=_);(repeat refine ⟨(by first|(simp;done)|(rw [hb_];simp;done)|(rw [hb_];simp;omega)|(rw [hb_];simp;intros;omega)|(rw [hb_];simp +contextual;done)),?_⟩);subst hb_))
    refine ifP_or (fun ho => ?_) (fun h1 h2 => ?_)
    · have e:=portBad_l (x:=d) x0 hn (ho.imp of_decide_eq_true of_decide_eq_true)
      rw [← nodeV_bad h32 x0 hx hf (by rw [e];decide),e]
    · have e:=portBad_n (x:=d) x0 hn (by
        rintro (k|k)
        · exact of_decide_eq_false h1 k
        · exact of_decide_eq_false h2 k)
      exact ⟨x+1,⟨by omega,by omega,first_next x0 hf e⟩,by omega,(by repeat' first|exact trivial|refine ⟨trivial,?_⟩|refine ⟨(by with_reducible rfl),?_⟩|refine ⟨w64 (by omega) (by omega),?_⟩|refine ⟨rfl,?_⟩)⟩
  have hx:=of_decide_eq_false hx
  rw [show x.toNat=(nPorts d).length by omega] at hf
  rw [show d.2.1=nLoop d from rfl]
  intro b hb
  refine ⟨by simp,by simp,by simp,by simp,?_⟩
  intro b1 hb1
  (repeat refine ⟨(by cases b <;> cases b1 <;> simp),?_⟩)
  have hL:(bif b then bif b1 then true else decide (0<=portA d (nLoop d)) else false)=decide (loopBad d):=by
    rw [hb,hb1]
    unfold loopBad
    by_cases k1:nLoop d=0 <;> by_cases k2:usable (nLoop d) <;> by_cases k3:0<=portA d (nLoop d) <;> simp [k1,k2,k3]
  rw [hL]
  refine ifP_split (fun h=>nodeV_loop h32 hf (of_decide_eq_true h)) (fun hl => ?_)
  have hl:=of_decide_eq_false hl
  clear hL hb hb1
  refine ⟨?_,?_⟩
  · have bad:=fun h=>nodeV_form (x:=d) h32 hf hl h
    refine ifP_twice (fun h=>bad (.inl (of_decide_eq_true h))) (fun c1 => ?_)
    (repeat (intro (b_:Bool) (hb_:b_=_);(repeat refine ⟨(by first|(simp;done)|(rw [hb_];simp;done)|(rw [hb_];simp;omega)|(rw [hb_];simp;intros;omega)|(rw [hb_];simp +contextual;done)),?_⟩);subst hb_))
    rw [bor_d]
    refine ifP_twice (fun h=>bad (.inr (.inl (of_decide_eq_true h)))) (fun c2 => ?_)
    (repeat (intro (b_:Bool) (hb_:b_=_);(repeat refine ⟨(by first|(simp;done)|(rw [hb_];simp;done)|(rw [hb_];simp;omega)|(rw [hb_];simp;intros;omega)|(rw [hb_];simp +contextual;done)),?_⟩);subst hb_))
    rw [band_d]
    refine ifP_twice (fun h=>bad (.inr (.inr (.inl (of_decide_eq_true h))))) (fun c3 => ?_)
    (repeat (intro (b_:Bool) (hb_:b_=_);(repeat refine ⟨(by first|(simp;done)|(rw [hb_];simp;done)|(rw [hb_];simp;omega)|(rw [hb_];simp;intros;omega)|(rw [hb_];simp +contextual;done)),?_⟩);subst hb_))
    rw [band_nn]
    refine ifP_twice (fun h=>bad (.inr (.inr (.inr (.inl (of_decide_eq_true h)))))) (fun c4 => ?_)
    (repeat (intro (b_:Bool) (hb_:b_=_);(repeat refine ⟨(by first|(simp;done)|(rw [hb_];simp;done)|(rw [hb_];simp;omega)|(rw [hb_];simp;intros;omega)|(rw [hb_];simp +contextual;done)),?_⟩);subst hb_))
    rw [band_d]
    refine ifP_twice (fun h=>bad (.inr (.inr (.inr (.inr (.inl (of_decide_eq_true h))))))) (fun c5 => ?_)
    (repeat (intro (b_:Bool) (hb_:b_=_);(repeat refine ⟨(by first|(simp;done)|(rw [hb_];simp;done)|(rw [hb_];simp;omega)|(rw [hb_];simp;intros;omega)|(rw [hb_];simp +contextual;done)),?_⟩);subst hb_))
    rw [bor_d]
    refine ifP_twice (fun h=>bad (.inr (.inr (.inr (.inr (.inr (.inl (of_decide_eq_true h)))))))) (fun c6 => ?_)
    refine ifP_split (fun h=>bad (.inr (.inr (.inr (.inr (.inr (.inr ?_))))))) (fun c7 => ?_)
    · have:=of_decide_eq_true h;omega
    refine ⟨(),⟨h32,hf,hl,?_⟩,(by repeat' first|exact trivial|refine ⟨trivial,?_⟩|refine ⟨(by with_reducible rfl),?_⟩|refine ⟨w64 (by omega) (by omega),?_⟩|refine ⟨rfl,?_⟩)⟩
    rintro (k|k|k|k|k|k|k)
    · exact of_decide_eq_false c1 k
    · exact of_decide_eq_false c2 k
    · exact of_decide_eq_false c3 k
    · exact of_decide_eq_false c4 k
    · exact of_decide_eq_false c5 k
    · exact of_decide_eq_false c6 k
    · have:=of_decide_eq_false c7;omega
  rintro-⟨-,-,-,hb⟩
  have e:=nodeV_rest h32 hf hl hb
  rw [show IntKind.wrap IntKind.i64 (IntKind.wrap IntKind.i64 ((0:Int)+1)+1)=2 by decide,show IntKind.wrap IntKind.i64 ((0:Int)+1)=1 by decide,e]
  refine ⟨by omega,by omega,by simp,ifP_split (fun h => ?_) (fun h => ?_)⟩
  · rw [if_pos (show idCheck d≠0 from nd_t h)];rfl
  rw [if_neg (show ¬ idCheck d≠0 from fun k=>k (nd_f h))]
  refine ⟨by omega,by simp,ifP_split (fun h => ?_) (fun h => ?_)⟩
  · rw [if_pos (show bCheck (nLimit d)≠0 from nd_t h)];rfl
  rw [if_neg (show ¬ bCheck (nLimit d)≠0 from fun k=>k (nd_f h))]
  refine ⟨by omega,by simp,ifP_split (fun h => ?_) (fun h => ?_)⟩
  · rfl
  · exact (show check (nRoutes d) (pLinks d)=0 from nd_f h).symm
theorem ok_node_Check:SpecOK Tryz.prog GL 13 ct_node_Check.spec:=Ct.okH _ Tryz.func13 (by kernel_rfl) (withSpec_ok (withSpec_ok (withSpec_ok (withSpec_ok (withSpec_ok (withSpec_ok (withSpec_ok noSpecs_ok ok_node_usable) ok_node_port) ok_node_PortOf) ok_identifier_Check) ok_bucket_Check) ok_fib_Check) ok_node_links) hmix an_node_Check (hideMp (by kernel_rfl) vc_node_Check)
def ct_ref13_Links:Ct:=⟨[.agg cNode],[.own 3 cI],fun d=>[(nPorts d.1).length<=100000],fun d=>((pLinks d.1,()),())⟩
def an_ref13_Links:PDs ct_ref13_Links.ps->Anns:=(fun d=>{loops:=(fun n=>match n with|3=>some (fun S=>{ι:=Int×(List Int),qn:=⟨fun k_=>∀ (j:Int) (l:(List Int)),k_ (j,l),fun k_ h_ i=>h_ i.1 i.2,fun k_=>∃ (j:Int) (l:(List Int)),k_ (j,l),fun k_ ⟨j,l,h_⟩=>⟨_,h_⟩⟩,μ:=fun i=>((nPorts d.1).length-i.1).toNat,inv:=fun i=>0<=i.1/\i.1<=(nPorts d.1).length/\i.2=(pLinks d.1).take i.1.toNat,keep:=[1],slots:=fun i=>[(3,.own 524288 1),(4,.int .i64 i.1)],keepN:=[32],names:=fun i=>[(524288,.live (.row 3 cI i.2))]})|_=>none)})
theorem vc_ref13_Links :
 ∀(a:Node),CT.wf cNode a/\True->List.length (nPorts a)<=(100000:Nat)->(∃(b:Int) (c:List Int),(0<=b/\b<=(Qbr2 a)/\c=List.take b.toNat (pLinks a))/\(0:Int)=b/\a.1=a.1/\a.2.1=a.2.1/\a.2.2.1=a.2.2.1/\a.2.2.2.1=a.2.2.2.1/\a.2.2.2.2.1=a.2.2.2.2.1/\a.2.2.2.2.2.1=a.2.2.2.2.2.1/\a.2.2.2.2.2.2.1=a.2.2.2.2.2.2.1/\a.2.2.2.2.2.2.2.1=a.2.2.2.2.2.2.2.1/\a.2.2.2.2.2.2.2.2.1=a.2.2.2.2.2.2.2.2.1/\a.2.2.2.2.2.2.2.2.2.1=a.2.2.2.2.2.2.2.2.2.1/\a.2.2.2.2.2.2.2.2.2.2.1.1=a.2.2.2.2.2.2.2.2.2.2.1.1/\a.2.2.2.2.2.2.2.2.2.2.1.2=a.2.2.2.2.2.2.2.2.2.2.1.2/\a.2.2.2.2.2.2.2.2.2.2.2.1=a.2.2.2.2.2.2.2.2.2.2.2.1/\a.2.2.2.2.2.2.2.2.2.2.2.2.1=a.2.2.2.2.2.2.2.2.2.2.2.2.1/\a.2.2.2.2.2.2.2.2.2.2.2.2.2.1=a.2.2.2.2.2.2.2.2.2.2.2.2.2.1/\a.2.2.2.2.2.2.2.2.2.2.2.2.2.2=a.2.2.2.2.2.2.2.2.2.2.2.2.2.2/\c=([]:List Int)/\True)/\ ∀(b:Int) (c:List Int),0<=b/\b<=(Qbr2 a)/\c=List.take b.toNat (pLinks a)->ifP (decide (b<(Qbr5 a)))
 (0<=b/\b<(Qbr5 a)/\(c.length+List.length [(Qbr4 a b).2])*(8:Nat)<=(140737488355328:Nat)/\ ∃(d:Int) (e:List Int),(0<=d/\d<=(Qbr2 a)/\e=List.take d.toNat (pLinks a))/\Int.toNat ((Qbr2 a) -d)<Int.toNat ((Qbr2 a) -b)/\IntKind.wrap .i64 (b+(1:Int))=d/\a.1=a.1/\a.2.1=a.2.1/\a.2.2.1=a.2.2.1/\a.2.2.2.1=a.2.2.2.1/\a.2.2.2.2.1=a.2.2.2.2.1/\a.2.2.2.2.2.1=a.2.2.2.2.2.1/\a.2.2.2.2.2.2.1=a.2.2.2.2.2.2.1/\a.2.2.2.2.2.2.2.1=a.2.2.2.2.2.2.2.1/\a.2.2.2.2.2.2.2.2.1=a.2.2.2.2.2.2.2.2.1/\a.2.2.2.2.2.2.2.2.2.1=a.2.2.2.2.2.2.2.2.2.1/\a.2.2.2.2.2.2.2.2.2.2.1.1=a.2.2.2.2.2.2.2.2.2.2.1.1/\a.2.2.2.2.2.2.2.2.2.2.1.2=a.2.2.2.2.2.2.2.2.2.2.1.2/\a.2.2.2.2.2.2.2.2.2.2.2.1=a.2.2.2.2.2.2.2.2.2.2.2.1/\a.2.2.2.2.2.2.2.2.2.2.2.2.1=a.2.2.2.2.2.2.2.2.2.2.2.2.1/\a.2.2.2.2.2.2.2.2.2.2.2.2.2.1=a.2.2.2.2.2.2.2.2.2.2.2.2.2.1/\a.2.2.2.2.2.2.2.2.2.2.2.2.2.2=a.2.2.2.2.2.2.2.2.2.2.2.2.2.2/\c++[(Qbr4 a b).2]=e/\True) (c=pLinks a):=by
  delta Qbr2 Qbr4 Qbr5
  rintro d-hl
  have hlen:(pLinks d).length=(nPorts d).length:=by simp [pLinks]
  refine ⟨⟨0,[],⟨by omega,by omega,rfl⟩,(by repeat' first|exact trivial|refine ⟨trivial,?_⟩|refine ⟨(by with_reducible rfl),?_⟩|refine ⟨w64 (by omega) (by omega),?_⟩|refine ⟨rfl,?_⟩)⟩,?_⟩
  rintro j l ⟨j0,j1,rfl⟩
  have hd:d.1=nPorts d:=rfl
  rw [hd]
  refine ifP_split (fun hk => ?_) (fun hk => ?_)
  · have hk:=of_decide_eq_true hk
    refine ⟨j0,hk,by simp only [List.length_take,List.length_cons,List.length_nil];omega,j+1,_,⟨by omega,by omega,rfl⟩,by omega,?_⟩
    (repeat first|refine ⟨trivial,?_⟩|refine ⟨(by with_reducible rfl),?_⟩|refine ⟨w64 (by omega) (by omega),?_⟩)
    refine ⟨?_,trivial⟩
    rw [take_step j0 (by rw [hlen];exact hk)]
    unfold pLinks
    rw [List.getD_eq_getElem?_getD,List.getD_eq_getElem?_getD,List.getElem?_map,List.getElem?_eq_getElem (by omega)]
    rfl
  · have hk:=of_decide_eq_false hk
    rw [List.take_of_length_le (by omega)]
theorem ok_ref13_Links:SpecOK Tryz.prog GL 57 ct_ref13_Links.spec:=Ct.okH _ Tryz.func57 (by kernel_rfl) noSpecs_ok hmix an_ref13_Links (hideMp (by kernel_rfl) vc_ref13_Links)
def freshA (x:Node) (i k:Nat):Bool:=decide (usable ((nPorts x).getD i default).1)&&decide (∀ q∈(nPorts x).take k,q.1≠((nPorts x).getD i default).1)
def freshL (x:Node) (i k:Nat):Bool:=decide (0<=((nPorts x).getD i default).2)&&decide (∀ q∈(nPorts x).take k,q.2≠((nPorts x).getD i default).2)
theorem portA_mem {x:Node} {a:Int} (h:∃ q∈nPorts x,q.1=a):0<=portA x a:=by
  obtain ⟨q,hq,rfl⟩:=h
  unfold portA findP
  have:(nPorts x).findIdx (isA q.1)<(nPorts x).length:=List.findIdx_lt_length_of_exists ⟨q,hq,by unfold isA;simp⟩
  rw [if_pos this];omega
theorem all_snoc {α:Type} {l:List α} {q:α} {P:α->Prop} [DecidablePred P]:decide (∀ x∈l++[q],P x)=(decide (∀ x∈l,P x)&&decide (P q)):=by
  rw [← Bool.decide_and]
  apply decide_eq_decide.2
  simp [or_imp,forall_and]
theorem freshA_step {x:Node} {i:Nat} {k:Int} {q:Int×Int} (st:(nPorts x).take (k+1).toNat=(nPorts x).take k.toNat++[q]) :
    (bif freshA x i k.toNat then !decide (q.1=((nPorts x).getD i default).1) else false)=freshA x i (k+1).toNat:=by
  unfold freshA
  rw [st,all_snoc (P:=fun q:Int×Int=>q.1≠((nPorts x).getD i default).1),not_d]
  cases decide (usable ((nPorts x).getD i default).1) <;> cases decide (∀ q∈(nPorts x).take k.toNat,q.1≠((nPorts x).getD i default).1) <;> rfl
theorem freshL_step {x:Node} {i:Nat} {k:Int} {q:Int×Int} (st:(nPorts x).take (k+1).toNat=(nPorts x).take k.toNat++[q]) :
    (bif freshL x i k.toNat then !decide (q.2=((nPorts x).getD i default).2) else false)=freshL x i (k+1).toNat:=by
  unfold freshL
  rw [st,all_snoc (P:=fun q:Int×Int=>q.2≠((nPorts x).getD i default).2),not_d]
  cases decide (0<=((nPorts x).getD i default).2) <;> cases decide (∀ q∈(nPorts x).take k.toNat,q.2≠((nPorts x).getD i default).2) <;> rfl
theorem freshA_iff {x:Node} {i:Int} (h0:0<=i) (h1:i<(nPorts x).length):freshA x i.toNat i.toNat=decide (¬ (¬ usable ((nPorts x).getD i.toNat default).1∨portA x ((nPorts x).getD i.toNat default).1<i)):=by
  have k:=findP_lt (q:=isA ((nPorts x).getD i.toNat default).1) (l:=nPorts x) (i:=i.toNat) (by omega) (by unfold isA;exact decide_eq_true rfl)
  rw [show ((i.toNat:Nat):Int)=i by omega] at k
  unfold freshA portA
  rw [← Bool.decide_and]
  apply decide_eq_decide.2
  rw [k,not_or,Classical.not_not,not_exists]
  refine and_congr Iff.rfl (forall_congr' fun q => ?_)
  rw [not_and]
  refine imp_congr Iff.rfl ?_
  unfold isA
  rw [decide_eq_true_iff]
theorem freshL_iff {x:Node} {i:Int} (h0:0<=i) (h1:i<(nPorts x).length):freshL x i.toNat i.toNat=decide (¬ (((nPorts x).getD i.toNat default).2<0∨portL x ((nPorts x).getD i.toNat default).2<i)):=by
  have k:=findP_lt (q:=isL ((nPorts x).getD i.toNat default).2) (l:=nPorts x) (i:=i.toNat) (by omega) (by unfold isL;exact decide_eq_true rfl)
  rw [show ((i.toNat:Nat):Int)=i by omega] at k
  unfold freshL portL
  rw [← Bool.decide_and]
  apply decide_eq_decide.2
  rw [k,not_or,not_exists,Int.not_lt]
  refine and_congr Iff.rfl (forall_congr' fun q => ?_)
  rw [not_and]
  refine imp_congr Iff.rfl ?_
  unfold isL
  rw [decide_eq_true_iff]
def ct_ref13_Check:Ct:=⟨[.agg cNode],[.val cI],fun d=>[],fun d=>((nodeV d.1,()),())⟩
def an_ref13_Check:PDs ct_ref13_Check.ps->Anns:=(fun d=>{loops:=(fun n=>match n with|4=>some (fun S=>{ι:=Int,μ:=fun i=>((nPorts d.1).length-i).toNat,inv:=fun i=>0<=i/\i<=(nPorts d.1).length/\first (portBad d.1) i.toNat=0,keep:=[1],slots:=fun i=>[(3,.int .i64 i)],keepN:=[32],names:=fun i=>[]})|8=>some (fun S=>{ι:=Int×Bool×Bool,qn:=⟨fun k_=>∀ (k:Int) (a:Bool) (b:Bool),k_ (k,a,b),fun k_ h_ i=>h_ i.1 i.2.1 i.2.2,fun k_=>∃ (k:Int) (a:Bool) (b:Bool),k_ (k,a,b),fun k_ ⟨k,a,b,h_⟩=>⟨_,h_⟩⟩,μ:=fun i=>(S.i 3-i.1).toNat,inv:=fun i=>0<=i.1/\i.1<=S.i 3/\i.2.1=freshA d.1 (S.i 3).toNat i.1.toNat/\i.2.2=freshL d.1 (S.i 3).toNat i.1.toNat,keep:=[1,3],slots:=fun i=>[(4,.bool i.2.1),(5,.bool i.2.2),(6,.int .i64 i.1)],keepN:=[32],names:=fun i=>[]})|17=>some (fun S=>{ι:=Int,μ:=fun i=>((nPorts d.1).length-i).toNat,inv:=fun i=>0<=i/\i<=(nPorts d.1).length/\(nLoop d.1≠0→∀ q∈(nPorts d.1).take i.toNat,isA (nLoop d.1) q=false),keep:=[1],slots:=fun i=>[(7,.int .i64 i)],keepN:=[32],names:=fun i=>[]})|_=>none)})
def Qbr7 (a:Node) (c:Int) :=
 c<=(Qbr2 a)/\(nLoop a≠(0:Int)-> ∀(d:Int×Int),d∈List.take c.toNat (nPorts a)->isA (nLoop a) d=false)
theorem vc_ref13_Check :
 ∀(a:Node),CT.wf cNode a/\True->True->ifP (decide (32<(Qbr5 a))) ((5:Int)=nodeV a) ((∃(b:Int),(0<=b/\b<=(Qbr2 a)/\first (portBad a) b.toNat=0)/\(0:Int)=b/\(Qbr0 a))/\ ∀(b:Int),0<=b/\b<=(Qbr2 a)/\first (portBad a) b.toNat=0->ifP (decide (b<(Qbr5 a))) (0<=b/\b<(Qbr5 a)/\0<=b/\b<(Qbr5 a)/\(∃(c:Int) (d:Bool),∃(e:Bool),(0<=c/\c<=b/\d=freshA a b.toNat c.toNat/\e=freshL a b.toNat c.toNat)/\b=b/\decide (usable (Qbr4 a b).1)=d/\decide (0<=(Qbr4 a b).2)=e/\(0:Int)=c/\(Qbr0 a))/\ ∀(c:Int) (d e:Bool),0<=c/\c<=b/\d=freshA a b.toNat c.toNat/\e=freshL a b.toNat c.toNat->ifP (decide (c<b)) (∀(f:Bool),f=d->(f->(f->f)/\True)/\(f->(f->f)/\(f->f)/\0<=c/\c<(Qbr5 a)/\True)/\(f->(f->f)/\True)/\(f->(f->f)/\True)/\(f->(f->f)/\True)/\(f->(f->f)/\(f->f)/\0<=b/\b<(Qbr5 a)/\True)/\(f->(f->f)/\True)/\(f->(f->f)/\True)/\(f->(f->f)/\(f->f)/\True)/\(f->f)/\
 ∀(g:Bool),g=e->(g->(g->g)/\True)/\(g->(g->g)/\(g->g)/\0<=c/\c<(Qbr5 a)/\True)/\(g->(g->g)/\True)/\(g->(g->g)/\True)/\(g->(g->g)/\True)/\(g->(g->g)/\(g->g)/\0<=b/\b<(Qbr5 a)/\True)/\(g->(g->g)/\True)/\(g->(g->g)/\True)/\(g->(g->g)/\(g->g)/\True)/\(g->g)/\ ∃(h:Int) (i:Bool),∃(j:Bool),(0<=h/\h<=b/\i=freshA a b.toNat h.toNat/\j=freshL a b.toNat h.toNat)/\Int.toNat (b -h)<Int.toNat (b -c)/\b=b/\(bif f then ! decide ((List.getD a.1 c.toNat default).1=(Qbr4 a b).1) else false)=i/\(bif g then ! decide ((List.getD a.1 c.toNat default).2=(Qbr4 a b).2) else false)=j/\IntKind.wrap .i64 (c+(1:Int))=h/\(Qbr0 a)) (ifP (! d) ((10:Int)=nodeV a) (ifP (! e) ((11:Int)=nodeV a) (∃(f:Int),(0<=f/\f<=(Qbr2 a)/\first (portBad a) f.toNat=0)/\Int.toNat ((Qbr2 a) -f)<Int.toNat ((Qbr2 a) -b)/\IntKind.wrap .i64 (b+(1:Int))=f/\(Qbr0 a))))) ((∃(c:Int),(0<=c/\(Qbr7 a c))/\(0:Int)=c/\(Qbr0 a))/\ ∀(c:Int),0<=c/\(Qbr7 a
 c)-> ∀(d:Bool),d=decide (c<(Qbr5 a))->(d->(d->d)/\True)/\(d->(d->d)/\True)/\(d->d)/\ifP (bif d then ! decide (a.2.1=0) else false) (0<=c/\c<(Qbr5 a)/\ifP (decide ((List.getD a.1 c.toNat default).1=a.2.1)) ((10:Int)=nodeV a) (∃(e:Int),(0<=e/\e<=(Qbr2 a)/\(nLoop a≠(0:Int)-> ∀(f:Int×Int),f∈List.take e.toNat (nPorts a)->isA (nLoop a) f=false))/\Int.toNat ((Qbr2 a) -e)<Int.toNat ((Qbr2 a) -c)/\IntKind.wrap .i64 (c+(1:Int))=e/\(Qbr0 a))) (∀(e:Bool),e= ! decide (a.2.1=0)->(e->(e->e)/\True)/\(e->(e->e)/\True)/\(e->(e->e)/\True)/\(e->e)/\ifP (bif e then ! decide (usable a.2.1) else false) ((10:Int)=nodeV a) (∀(f:Bool),f=decide (a.2.2.1<0)->((! f)->((! f)->(! f))/\True)/\((! f)->((! f)->(! f))/\True)/\(f=false->(! f))/\ ∀(g:Bool),(g=bif f then true else decide (a.2.2.2.2.2.1<1))->((! g)->((! g)->(! g))/\True)/\((! g)->((! g)->(! g))/\True)/\(g=false->(! g))/\ ∀(h:Bool),(h=bif g then true else
 decide (4<a.2.2.2.2.2.1))->((! h)->((! h)->(! h))/\True)/\((! h)->((! h)->(! h))/\True)/\((! h)->((! h)->(! h))/\True)/\ ∀(i:Bool),i=decide (a.2.2.2.2.2.1=3)->((! h&&i)->((! h&&i)->(! h&&i))/\True)/\((! h&&i)->((! h&&i)->(! h&&i))/\True)/\((! h)->((! h)->(! h))/\(i->(! h&&i))/\True)/\(h=false->(! h))/\ ∀(j:Bool),(j=bif h then true else bif i then decide (a.2.1=0) else false)->((! j)->((! j)->(! j))/\True)/\((! j)->((! j)->(! j))/\True)/\((! j)->((! j)->(! j))/\True)/\ ∀(k:Bool),k= ! decide (a.2.2.2.2.2.2.1=0)->((! j&&k)->((! j&&k)->(! j&&k))/\True)/\((! j&&k)->((! j&&k)->(! j&&k))/\True)/\((! j&&k)->((! j&&k)->(! j&&k))/\True)/\((! j)->((! j)->(! j))/\(k->(! j&&k))/\True)/\(j=false->(! j))/\ ∀(l:Bool),(l=bif j then true else bif k then ! decide (usable a.2.2.2.2.2.2.1) else false)->((! l)->((! l)->(! l))/\True)/\((! l)->((! l)->(! l))/\True)/\((! l)->((! l)->(! l))/\True)/\
 ∀(m:Bool),m=decide (a.2.2.2.2.2.1=4)->((! l&&m)->((! l&&m)->(! l&&m))/\True)/\((! l&&m)->((! l&&m)->(! l&&m))/\True)/\((! l)->((! l)->(! l))/\(m->(! l&&m))/\True)/\(l=false->(! l))/\ ∀(n:Bool),(n=bif l then true else bif m then decide (a.2.2.2.2.2.2.1=0) else false)->((! n)->((! n)->(! n))/\True)/\((! n)->((! n)->(! n))/\True)/\(n=false->(! n))/\ ∀(o:Bool),(o=bif n then true else decide (a.2.2.2.2.2.2.2.2.2.2.2.2.2.1<1))->((! o)->((! o)->(! o))/\True)/\((! o)->((! o)->(! o))/\True)/\(o=false->(! o))/\ ∀(p:Bool),(p=bif o then true else decide (255<a.2.2.2.2.2.2.2.2.2.2.2.2.2.1))->((! p)->((! p)->(! p))/\True)/\((! p)->((! p)->(! p))/\True)/\((! p)->((! p)->(! p))/\True)/\(p=false->(! p))/\ifP (bif p then true else decide ((Qbr5 a)=0)) ((13:Int)=nodeV a) (ifP (! decide (idCheck a=0)) (idCheck a=nodeV a) (ifP (! decide (bCheck a.2.2.2.2.2.2.2.2.2.2.1=0)) (bCheck
 a.2.2.2.2.2.2.2.2.2.2.1=nodeV a) (List.length (nPorts a)<=(100000:Nat)/\check a.2.2.2.2.1 (pLinks a)=nodeV a))))))):=by
  delta Qbr0 Qbr2 Qbr4 Qbr5 Qbr7
  rintro d ⟨⟨⟨hl,-⟩,-⟩,-⟩ -
  have hd:d.1=nPorts d:=rfl
  rw [hd] at hl ⊢
  simp only [maxLen] at hl
  refine ifP_split (fun h => ?_) (fun h => ?_)
  · unfold nodeV;rw [if_pos (by have:=of_decide_eq_true h;omega)]
  have h32:(nPorts d).length<=32:=by have:=of_decide_eq_false h;omega
  clear h
  refine ⟨⟨0,⟨by omega,by omega,rfl⟩,(by repeat' first|exact trivial|refine ⟨trivial,?_⟩|refine ⟨(by with_reducible rfl),?_⟩|refine ⟨w64 (by omega) (by omega),?_⟩|refine ⟨rfl,?_⟩)⟩,?_⟩
  rintro x ⟨x0,x1,hf⟩
  refine ifP_split (fun hx => ?_) (fun hx => ?_)
  · have hx:=of_decide_eq_true hx
    refine ⟨x0,hx,x0,hx,⟨0,_,_,⟨by omega,x0,?_,?_⟩,(by repeat' first|exact trivial|refine ⟨trivial,?_⟩|refine ⟨(by with_reducible rfl),?_⟩|refine ⟨w64 (by omega) (by omega),?_⟩|refine ⟨rfl,?_⟩)⟩,?_⟩
    · simp [freshA]
    · simp [freshL]
    rintro k a b ⟨k0,k1,ha,hb⟩
    refine ifP_split (fun hk => ?_) (fun hk => ?_)
    · have hk:=of_decide_eq_true hk
      have st:=take_step (l:=nPorts d) k0 (by omega)
      rintro b1 hb1
      (repeat refine ⟨(by first|(simp;done)|exact fun h=>⟨fun _=>h,fun _=>h,k0,by omega,trivial⟩|exact fun h=>⟨fun _=>h,fun _=>h,x0,by omega,trivial⟩),?_⟩)
      rintro b2 hb2
      (repeat refine ⟨(by first|(simp;done)|exact fun h=>⟨fun _=>h,fun _=>h,k0,by omega,trivial⟩|exact fun h=>⟨fun _=>h,fun _=>h,x0,by omega,trivial⟩),?_⟩)
      refine ⟨k+1,_,_,⟨by omega,by omega,?_,?_⟩,by omega,(by repeat' first|exact trivial|refine ⟨trivial,?_⟩|refine ⟨(by with_reducible rfl),?_⟩|refine ⟨w64 (by omega) (by omega),?_⟩|refine ⟨rfl,?_⟩)⟩
      · rw [hb1,ha,freshA_step st]
      · rw [hb2,hb,freshL_step st]
    · have hk:k=x:=by have:=of_decide_eq_false hk;omega
      subst hk
      have fa:a=decide (¬ (¬ usable ((nPorts d).getD k.toNat default).1∨portA d ((nPorts d).getD k.toNat default).1<k)):=by rw [ha,freshA_iff x0 hx]
      have fb:b=decide (¬ (((nPorts d).getD k.toNat default).2<0∨portL d ((nPorts d).getD k.toNat default).2<k)):=by rw [hb,freshL_iff x0 hx]
      refine ifP_split (fun h => ?_) (fun h => ?_)
      · have e:=portBad_a (x:=d) x0 (by rw [fa,not_d] at h;exact Classical.not_not.1 (of_decide_eq_true h))
        rw [← nodeV_bad h32 x0 hx hf (by rw [e];decide),e]
      have hn:=of_decide_eq_true (fa.symm.trans (by simpa using h))
      refine ifP_split (fun h => ?_) (fun h => ?_)
      · have e:=portBad_l (x:=d) x0 hn (by rw [fb,not_d] at h;exact Classical.not_not.1 (of_decide_eq_true h))
        rw [← nodeV_bad h32 x0 hx hf (by rw [e];decide),e]
      have hm:=of_decide_eq_true (fb.symm.trans (by simpa using h))
      exact ⟨k+1,⟨by omega,by omega,first_next x0 hf (portBad_n x0 hn hm)⟩,by omega,(by repeat' first|exact trivial|refine ⟨trivial,?_⟩|refine ⟨(by with_reducible rfl),?_⟩|refine ⟨w64 (by omega) (by omega),?_⟩|refine ⟨rfl,?_⟩)⟩
  have hx:=of_decide_eq_false hx
  rw [show x.toNat=(nPorts d).length by omega] at hf
  clear x1 x0
  refine ⟨⟨0,⟨by omega,by omega,by simp⟩,(by repeat' first|exact trivial|refine ⟨trivial,?_⟩|refine ⟨(by with_reducible rfl),?_⟩|refine ⟨w64 (by omega) (by omega),?_⟩|refine ⟨rfl,?_⟩)⟩,?_⟩
  rw [show d.2.1=nLoop d from rfl]
  rintro k ⟨k0,k1,hk⟩
  (repeat (intro (b_:Bool) (hb_:b_=_);(repeat refine ⟨(by first|(simp;done)|(rw [hb_];simp;done)|(rw [hb_];simp;omega)|(rw [hb_];simp;intros;omega)|(rw [hb_];simp +contextual;done)),?_⟩);subst hb_))
  rw [band_dn]
  refine ifP_split (fun h => ?_) (fun h => ?_)
  · obtain ⟨h1,h2⟩:=of_decide_eq_true h
    refine ⟨k0,h1,ifP_split (fun hm => ?_) (fun hm => ?_)⟩
    · refine nodeV_loop h32 hf ⟨h2,.inr (portA_mem ?_)⟩
      have:=of_decide_eq_true hm
      exact ⟨_,getD_mem k0 h1,this⟩
    · exact ⟨k+1,⟨by omega,by omega,fun h0=>all_next k0 h1 (hk h0) hm⟩,by omega,(by repeat' first|exact trivial|refine ⟨trivial,?_⟩|refine ⟨(by with_reducible rfl),?_⟩|refine ⟨w64 (by omega) (by omega),?_⟩|refine ⟨rfl,?_⟩)⟩
  have hend:nLoop d≠0→¬ 0<=portA d (nLoop d):=fun h0 hp=>by
    have hkl:¬ k<(nPorts d).length:=fun h1=>of_decide_eq_false h ⟨h1,h0⟩
    have hk:=hk h0
    have e : -1=portA d (nLoop d):=findI_none hkl hk
    omega
  (repeat (intro (b_:Bool) (hb_:b_=_);(repeat refine ⟨(by first|(simp;done)|(rw [hb_];simp;done)|(rw [hb_];simp;omega)|(rw [hb_];simp;intros;omega)|(rw [hb_];simp +contextual;done)),?_⟩);subst hb_))
  rw [band_nn]
  refine ifP_split (fun h => ?_) (fun h => ?_)
  · obtain ⟨h1,h2⟩:=of_decide_eq_true h
    exact nodeV_loop h32 hf ⟨h1,.inl h2⟩
  have hL:¬ loopBad d:=by
    rintro ⟨h1,h2⟩
    rcases h2 with h2|h2
    · exact of_decide_eq_false h ⟨h1,h2⟩
    · exact hend h1 h2
  have e:=nodeV_rest h32 hf hL
  have gd:True:=trivial
  intro b1 hb1
  (repeat refine ⟨(by first|(simp;done)|(simp +contextual;done)),?_⟩)
  intro b2 hb2
  (repeat refine ⟨(by first|(simp;done)|(simp +contextual;done)),?_⟩)
  intro b3 hb3
  (repeat refine ⟨(by first|(simp;done)|(simp +contextual;done)),?_⟩)
  intro b4 hb4
  (repeat refine ⟨(by first|(simp;done)|(simp +contextual;done)),?_⟩)
  intro b5 hb5
  (repeat refine ⟨(by first|(simp;done)|(simp +contextual;done)),?_⟩)
  intro b6 hb6
  (repeat refine ⟨(by first|(simp;done)|(simp +contextual;done)),?_⟩)
  intro b7 hb7
  (repeat refine ⟨(by first|(simp;done)|(simp +contextual;done)),?_⟩)
  intro b8 hb8
  (repeat refine ⟨(by first|(simp;done)|(simp +contextual;done)),?_⟩)
  intro b9 hb9
  (repeat refine ⟨(by first|(simp;done)|(simp +contextual;done)),?_⟩)
  intro b10 hb10
  (repeat refine ⟨(by first|(simp;done)|(simp +contextual;done)),?_⟩)
  intro b11 hb11
  (repeat refine ⟨(by first|(simp;done)|(simp +contextual;done)),?_⟩)
  have hF:(bif b11 then true else decide (((nPorts d).length:Int)=0))=decide (formBad d):=by
    rw [hb11,hb10,hb9,hb8,hb7,hb6,hb5,hb4,hb3,hb2,hb1]
    simp only [bor_d,band_d,band_nn]
    apply decide_eq_decide.2
    unfold formBad nOwner nSource nFixed nFirst nLoop
    by_cases hu:usable d.2.2.2.2.2.2.1 <;> simp only [hu,not_true_eq_false,not_false_eq_true,and_false,and_true,or_false,false_or,ne_eq] <;> omega
  rw [hF]
  refine ifP_split (fun h=>nodeV_form h32 hf hL (of_decide_eq_true h)) (fun h => ?_)
  rw [e (of_decide_eq_false h)]
  refine ifP_split (fun h => ?_) (fun h => ?_)
  · rw [if_pos (show idCheck d≠0 from nd_t h)]
  rw [if_neg (show ¬ idCheck d≠0 from fun k=>k (nd_f h))]
  refine ifP_split (fun h => ?_) (fun h => ?_)
  · rw [if_pos (show bCheck (nLimit d)≠0 from nd_t h)];rfl
  rw [if_neg (show ¬ bCheck (nLimit d)≠0 from fun k=>k (nd_f h))]
  exact ⟨by omega,rfl⟩
theorem ok_ref13_Check:SpecOK Tryz.prog GL 14 ct_ref13_Check.spec:=Ct.okH _ Tryz.func14 (by kernel_rfl) (withSpec_ok (withSpec_ok (withSpec_ok (withSpec_ok (withSpec_ok noSpecs_ok ok_ref01_Usable) ok_ref11_Check) ok_ref12_Check) ok_ref09_Check) ok_ref13_Links) hmix an_ref13_Check (hideMp (by kernel_rfl) vc_ref13_Check)
end Go.RS

/- Node1: what a node does with a packet: the program. -/
namespace Go.RS
open Go.SX Go.Proofs
set_option maxRecDepth 100000
set_option linter.unusedVariables false
abbrev oState:OT := .pair (.dat (.sl cRt)) (.pair cI (.pair (.row 3 cI) (.pair cTokens cI)))
abbrev oWork:OT := .pair cNode (.pair oState (.pair cI (.pair cI (.pair (.dat (.sl cU8)) cHeader))))
abbrev cOut:CT := .pair cI (.sl cU8)
abbrev Work:Type:=Node×NState×Int×Int×List Int×Header
abbrev HRes:Type:=NState×(Int×List Int)×Int
def hSrc (h:Header):Int:=h.2.2.2.2.2.1
def hDst (h:Header):Int:=h.2.2.2.2.2.2
def hID (h:Header):Int:=h.2.1
def hTTL (h:Header):Int:=h.2.2.1
def hProto (h:Header):Int:=h.2.2.2.1
def inP (x:Node) (link:Int):Int:=max (portL x link) 0
def adr (x:Node) (i:Int):Int:=if i<0∨(nPorts x).length<=i then 0 else ((nPorts x).getD i.toNat default).1
def wayB (s:NState) (a:Int):Bool:=lookB (sRoutes s) a&&decide (0<(lookR (sRoutes s) a).2.1.length)
def pickI (x:Node) (s:NState) (r:Rt) (k:Key):Int:=(choose r.2.2 (nSeed x) k (sBalanced s) r.2.1.length).1
def pickL (x:Node) (s:NState) (r:Rt) (k:Key):Int:=if r.2.1.length=1 then r.2.1.getD 0 default else r.2.1.getD (pickI x s r k).toNat default
def setBal (s:NState) (b:Int):NState:=(s.1,s.2.1,s.2.2.1,s.2.2.2.1,b)
def pickS (s:NState) (r:Rt):NState:=if r.2.1.length=1 then s else setBal s (IntKind.i64.wrap (sBalanced s+1))
def tokS (s:NState) (t:Int×Int):NState:=(s.1,s.2.1,s.2.2.1,t,s.2.2.2.2)
def bump (l:List Int) (i:Int):List Int:=if i<l.length then l.set i.toNat (IntKind.i64.wrap (l.getD i.toNat default+1)) else l
def sentS (s:NState) (i:Int):NState:=(s.1,IntKind.i64.wrap (s.2.1+1),bump s.2.2.1 i,s.2.2.2)
def srcA (x:Node) (i link:Int):Int:=if nSource x=2 then adr x (portL x link) else if nSource x=3 then nLoop x else if nSource x=4 then nFixed x else adr x i
def setS (w:Work) (s:NState):Work:=(w.1,s,w.2.2)
def setH (w:Work) (h:Header):Work:=(w.1,w.2.1,w.2.2.1,w.2.2.2.1,w.2.2.2.2.1,h)
def out0:Int×List Int:=(0,[])
def takeV (w:Work):(Int×Int)×Bool:=bTake (nLimit w.1) (sTokens w.2.1) w.2.2.2.1
def ansS (w:Work):NState:=sentS (tokS w.2.1 (takeV w).1) (inP w.1 w.2.2.1)
def ansRt (w:Work):Rt:=lookR (sRoutes w.2.1) (hSrc w.2.2.2.2.2)
def ansL (B:Int->Int->List Int) (w:Work):Int:=pickL w.1 (ansS w) (ansRt w) (keyB (B (adr w.1 (inP w.1 w.2.2.1)) 0))
def ansID (w:Work):Int:=idNext w.1 (tokS w.2.1 (takeV w).1) (inP w.1 w.2.2.1) w.2.2.2.1 (hID w.2.2.2.2.2) (hSrc w.2.2.2.2.2)
def ansF (B:Int->Int->List Int) (w:Work) (own:Int):Int:=if own=0 then srcA w.1 (inP w.1 w.2.2.1) (ansL B w) else own
def ansV (B:Int->Int->List Int) (E:Int->Int) (w:Work) (own:Int):HRes :=
  if own=0/\nSilent w.1=true then (w.2.1,out0,4)
  else if E 0≠0 then (w.2.1,out0,6)
  else if wayB w.2.1 (hSrc w.2.2.2.2.2)=false then (w.2.1,out0,8)
  else if (takeV w).2=false then (tokS w.2.1 (takeV w).1,out0,5)
  else (pickS (ansS w) (ansRt w),(ansL B w,B (ansF B w own) (ansID w)),2)
def wHostB (w:Work) (f i:Int):List Int:=hostB w.2.2.2.2.1 f i (nFirst w.1)
def wHostE (w:Work) (i:Int):Int:=hostE w.2.2.2.2.1 i (nFirst w.1)
def wErrB (w:Work) (kind code f i:Int):List Int:=errB w.2.2.2.2.1 f kind code i (nFirst w.1)
def wErrE (w:Work) (kind code i:Int):Int:=errE w.2.2.2.2.1 kind code i (nFirst w.1)
def recvV (w:Work):HRes :=
  if w.2.2.1 = -1∨wHostE w 0≠0 then (w.2.1,out0,1)
  else ansV (wHostB w) (wHostE w) w (if hProto w.2.2.2.2.2=17 then 0 else hDst w.2.2.2.2.2)
def fwdV (w:Work):HRes :=
  if w.2.2.1 ≠ -1/\nOpaque w.1=false/\hTTL w.2.2.2.2.2<2 then ansV (wErrB w 11 0) (wErrE w 11 0) w 0
  else if wayB w.2.1 (hDst w.2.2.2.2.2)=false then (if w.2.2.1 = -1 then (w.2.1,out0,8) else ansV (wErrB w 3 0) (wErrE w 3 0) w 0)
  else (pickS w.2.1 (lookR (sRoutes w.2.1) (hDst w.2.2.2.2.2)),(pickL w.1 w.2.1 (lookR (sRoutes w.2.1) (hDst w.2.2.2.2.2)) (keyB w.2.2.2.2.1),if w.2.2.1 ≠ -1/\nOpaque w.1=false then lowB w.2.2.2.2.1 else w.2.2.2.2.1),0)
def hdV (w:Work):HRes :=
  if decErr w.2.2.2.2.1≠0 then (w.2.1,out0,6)
  else if ownsA w.1 (hDst (decPkt w.2.2.2.2.1).1)=true then recvV (setH w (decPkt w.2.2.2.2.1).1)
  else if nHost w.1=true/\w.2.2.1 ≠ -1 then (w.2.1,out0,6)
  else fwdV (setH w (decPkt w.2.2.2.2.1).1)
def handleV (x:Node) (s:NState) (link at':Int) (b:List Int):HRes:=hdV (x,s,link,at',b,hdr0)
def okW (w:Work):Prop:=sortedR (sRoutes w.2.1)/\okL (sRoutes w.2.1)/\(w.2.2.2.2.1.length:Int)<=1000000
theorem choose_in {way seed:Int} {k:Key} {count n:Int} (h:1<=n):0<=(choose way seed k count n).1/\(choose way seed k count n).1<n:=by
  have h1:=hash_range seed k
  have h2:=hash_range seed (k.1,k.2.1,0,0,0)
  unfold choose
  split
  · exact ⟨Int.le_refl _,by show (0:Int)<n;omega⟩
  · rename_i hn
    dsimp only
    split
    · exact ⟨Int.tmod_nonneg _ h1.1,Int.tmod_lt_of_pos _ (by omega)⟩
    · split
      · exact ⟨Int.tmod_nonneg _ h2.1,Int.tmod_lt_of_pos _ (by omega)⟩
      · exact ⟨Int.tmod_nonneg _ (by omega),Int.tmod_lt_of_pos _ (by omega)⟩
theorem finV {r:HRes} {s:NState} {o:Int×List Int} {y:Int} (w:Work) (e:r=(s,o,y)):o=r.2.1/\y=r.2.2/\setS w s=setS w r.1:=by subst e;exact ⟨rfl,rfl,rfl⟩
theorem ansV_sil {B:Int->Int->List Int} {E:Int->Int} {w:Work} {own:Int} (h:own=0/\nSilent w.1=true):ansV B E w own=(w.2.1,out0,4):=by unfold ansV;rw [if_pos h]
theorem ansV_bad {B:Int->Int->List Int} {E:Int->Int} {w:Work} {own:Int} (h:¬ (own=0/\nSilent w.1=true)) (h1:E 0≠0):ansV B E w own=(w.2.1,out0,6):=by unfold ansV;rw [if_neg h,if_pos h1]
theorem ansV_rt {B:Int->Int->List Int} {E:Int->Int} {w:Work} {own:Int} (h:¬ (own=0/\nSilent w.1=true)) (h1:¬ E 0≠0) (h2:wayB w.2.1 (hSrc w.2.2.2.2.2)=false):ansV B E w own=(w.2.1,out0,8):=by
  unfold ansV;rw [if_neg h,if_neg h1,if_pos h2]
theorem ansV_lim {B:Int->Int->List Int} {E:Int->Int} {w:Work} {own:Int} (h:¬ (own=0/\nSilent w.1=true)) (h1:¬ E 0≠0) (h2:¬ wayB w.2.1 (hSrc w.2.2.2.2.2)=false) (h3:(takeV w).2=false):ansV B E w own=(tokS w.2.1 (takeV w).1,out0,5):=by
  unfold ansV;rw [if_neg h,if_neg h1,if_neg h2,if_pos h3]
theorem ansV_go {B:Int->Int->List Int} {E:Int->Int} {w:Work} {own:Int} (h:¬ (own=0/\nSilent w.1=true)) (h1:¬ E 0≠0) (h2:¬ wayB w.2.1 (hSrc w.2.2.2.2.2)=false) (h3:¬ (takeV w).2=false) :
    ansV B E w own=(pickS (ansS w) (ansRt w),(ansL B w,B (ansF B w own) (ansID w)),2):=by
  unfold ansV;rw [if_neg h,if_neg h1,if_neg h2,if_neg h3]
theorem way_ne {s:NState} {a:Int} (h:¬ wayB s a=false):(lookR (sRoutes s) a).2.1≠[]:=by
  intro e;apply h;unfold wayB;rw [e];simp
theorem ipEnc_len (p:Packet):((ipEnc p).length:Int)<=1500:=by
  unfold ipEnc
  split
  · rename_i h
    unfold ipErr at h
    split at h
    · cases h
    · split at h
      · cases h
      · rw [List.length_append,hdrB_len];omega
  · simp
theorem errB_len (b:List Int) (src kind code id ttl:Int):((errB b src kind code id ttl).length:Int)<=1500:=by
  unfold errB;split
  · exact ipEnc_len _
  · simp
theorem hostB_len (b:List Int) (src id ttl:Int):((hostB b src id ttl).length:Int)<=1500:=by
  unfold hostB;split
  · split
    · exact ipEnc_len _
    · split
      · exact errB_len ..
      · exact ipEnc_len _
  · simp
theorem wHostB_len (w:Work) (f i:Int):((wHostB w f i).length:Int)<=1500:=hostB_len ..
theorem wErrB_len (w:Work) (k c f i:Int):((wErrB w k c f i).length:Int)<=1500:=errB_len ..
theorem inP_nn (x:Node) (k:Int):0<=inP x k:=by unfold inP;omega
theorem bump_in {l:List Int} {i:Int} (h:i<l.length):bump l i=l.set i.toNat (IntKind.i64.wrap (l.getD i.toNat default+1)):=if_pos h
theorem bump_out {l:List Int} {i:Int} (h:¬ i<l.length):bump l i=l:=if_neg h
def ct_node_work_incoming:Ct:=⟨[.box 127 oWork],[.val cI],fun d=>[],fun d=>((inP d.1.1 d.1.2.2.1,()),(d.1,()))⟩
def an_node_work_incoming:PDs ct_node_work_incoming.ps->Anns:=(fun _=>{})
def Qbs3 (a:Node) (b:List Route) (c:Int) (d:List Int) (e f g h i:Int) (j:List Int) (k:Header) :=
 CT.wf cNode a/\((b.length<=maxLen/\ ∀(l:Route),l∈b->((0<=l.1.1/\l.1.1<=4294967295)/\R64 l.1.2)/\(l.2.1.length<=maxLen/\ ∀(m:Int),m∈l.2.1->R64 m)/\R64 l.2.2)/\R64 c/\(d.length<=maxLen/\ ∀(l:Int),l∈d->R64 l)/\(R64 e/\R64 f)/\R64 g)/\R64 h/\R64 i/\(j.length<=maxLen/\ ∀(l:Int),l∈j->0<=l/\l<=255)/\CT.wf cHeader k
def Qbs19 (a:Node) (b:List Route) (c:Int) (d:List Int) (e f g h i:Int) (j:List Int) (k:Header) :=
 (a,(b,c,d,(e,f),g),h,i,j,k)=(a,(b,c,d,(e,f),g),h,i,j,k)
theorem vc_node_work_incoming :
 ∀(a:Node) (b:List Route) (c:Int) (d:List Int) (e f g h i:Int) (j:List Int) (k:Header),(Qbs3 a b c d e f g h i j k)/\True->True->max (portL a h) (0:Int)=inP a h/\(Qbs19 a b c d e f g h i j k):=by
  delta Qbs3 Qbs19
  intros
  exact ⟨rfl,rfl⟩
theorem ok_node_work_incoming:SpecOK Tryz.prog GL 191 ct_node_work_incoming.spec:=Ct.okH _ Tryz.func191 (by kernel_rfl) (withSpec_ok noSpecs_ok ok_node_PortOf) hmix an_node_work_incoming (hideMp (by kernel_rfl) vc_node_work_incoming)
def ct_node_work_address:Ct:=⟨[.box 127 oWork,.val cI],[.val cU32],fun d=>[],fun d=>((adr d.1.1 d.2.1,()),(d.1,()))⟩
def an_node_work_address:PDs ct_node_work_address.ps->Anns:=(fun _=>{})
def Qbs4 (a:Node) (b:List Route) (c:Int) (d:List Int) (e f g h i:Int) (j:List Int) (k:Header) :=
 CT.wf cNode a/\((b.length<=maxLen/\ ∀(m:Route),m∈b->((0<=m.1.1/\m.1.1<=4294967295)/\R64 m.1.2)/\(m.2.1.length<=maxLen/\ ∀(n:Int),n∈m.2.1->R64 n)/\R64 m.2.2)/\R64 c/\(d.length<=maxLen/\ ∀(m:Int),m∈d->R64 m)/\(R64 e/\R64 f)/\R64 g)/\R64 h/\R64 i/\(j.length<=maxLen/\ ∀(m:Int),m∈j->0<=m/\m<=255)/\CT.wf cHeader k
def Qbs18 (m:Bool) :=
 (! m)->((! m)->(! m))/\True
theorem vc_node_work_address :
 ∀(a:Node) (b:List Route) (c:Int) (d:List Int) (e f g h i:Int) (j:List Int) (k:Header) (l:Int),(Qbs4 a b c d e f g h i j k)/\R64 l/\True->True-> ∀(m:Bool),m=decide (l<0)->(Qbs18 m)/\(Qbs18 m)/\(Qbs18 m)/\(Qbs18 m)/\(Qbs18 m)/\((! m)->((! m)->(! m))/\((! m)->(! m))/\True)/\(m=false->(! m))/\ifP (bif m then true else decide ((a.1.length:Int)<=l)) ((0:Int)=adr a l/\(Qbs19 a b c d e f g h i j k)) (0<=l/\l<(a.1.length:Int)/\(List.getD a.1 l.toNat default).1=adr a l/\(Qbs19 a b c d e f g h i j k)):=by
  delta Qbs4 Qbs18 Qbs19
  rintro d x x1 x2 x3 x4 x5 x6 x7 x8 h i - -
  (repeat (intro (b_:Bool) (hb_:b_=_);(repeat refine ⟨(by first|(simp;done)|(rw [hb_];simp;done)|(rw [hb_];simp;omega)|(rw [hb_];simp;intros;omega)|(rw [hb_];simp +contextual;done)),?_⟩);subst hb_))
  refine ifP_or (fun ho => ?_) (fun h1 h2 => ?_)
  · unfold adr
    rw [if_pos (by rcases ho with q|q <;> have:=of_decide_eq_true q <;> first|exact .inl this|exact .inr this)]
    exact ⟨rfl,rfl⟩
  · have h1:=of_decide_eq_false h1
    have h2:=of_decide_eq_false h2
    refine ⟨by omega,by omega,?_,rfl⟩
    unfold adr
    rw [if_neg (by rintro (q|q);exact h1 q;exact h2 q)]
    rfl
theorem ok_node_work_address:SpecOK Tryz.prog GL 192 ct_node_work_address.spec:=Ct.okH _ Tryz.func192 (by kernel_rfl) noSpecs_ok hmix an_node_work_address (hideMp (by kernel_rfl) vc_node_work_address)
def ct_node_work_choose:Ct:=⟨[.box 127 oWork,.agg cRt,.val (.sl cU8)],[.val cI],fun d=>[d.2.1.2.1≠[],(d.2.2.1.length:Int)<=1000000],fun d=>((pickL d.1.1 d.1.2.1 d.2.1 (keyB d.2.2.1),()),(setS d.1 (pickS d.1.2.1 d.2.1),()))⟩
def an_node_work_choose:PDs ct_node_work_choose.ps->Anns:=(fun _=>{})
theorem vc_node_work_choose :
 ∀(a:Node) (b:List Route) (c:Int) (d:List Int) (e f g h i:Int) (j:List Int) (k:Header) (l m:Int) (n:List Int) (o:Int) (p:List Int),(CT.wf cNode a/\((b.length<=maxLen/\ ∀(q:Route),q∈b->((0<=q.1.1/\q.1.1<=4294967295)/\R64 q.1.2)/\(q.2.1.length<=maxLen/\ ∀(r:Int),r∈q.2.1->R64 r)/\R64 q.2.2)/\R64 c/\(d.length<=maxLen/\ ∀(q:Int),q∈d->R64 q)/\(R64 e/\R64 f)/\R64 g)/\R64 h/\R64 i/\(j.length<=maxLen/\ ∀(q:Int),q∈j->0<=q/\q<=255)/\CT.wf cHeader k)/\(((0<=l/\l<=4294967295)/\R64 m)/\(n.length<=maxLen/\ ∀(q:Int),q∈n->R64 q)/\R64 o)/\(p.length<=maxLen/\ ∀(q:Int),q∈p->0<=q/\q<=255)/\True->n≠([]:List Int)/\(p.length:Int)<=1000000->ifP (decide ((n.length:Int)=1)) ((0:Int)<=0/\0<(n.length:Int)/\n.getD (Int.toNat (0:Int)) default=pickL a (b,c,d,(e,f),g) ((l,m),n,o) (keyB p)/\(a,(b,c,d,(e,f),g),h,i,j,k)=setS (a,(b,c,d,(e,f),g),h,i,j,k) (pickS (b,c,d,(e,f),g) ((l,m),n,o)))
 ((p.length:Int)<=1099511627776/\0<=(choose o a.2.2.2.2.2.2.2.2.2.2.2.2.2.2 (keyB p) g (n.length:Int)).1/\(choose o a.2.2.2.2.2.2.2.2.2.2.2.2.2.2 (keyB p) g (n.length:Int)).1<(n.length:Int)/\n.getD (Int.toNat (choose o a.2.2.2.2.2.2.2.2.2.2.2.2.2.2 (keyB p) g (n.length:Int)).1) default=pickL a (b,c,d,(e,f),g) ((l,m),n,o) (keyB p)/\(a,(b,c,d,(e,f),IntKind.wrap .i64 (g+(1:Int))),h,i,j,k)=setS (a,(b,c,d,(e,f),g),h,i,j,k) (pickS (b,c,d,(e,f),g) ((l,m),n,o))):=by
  rintro d x x1 x2 x3 x4 x5 x6 x7 x8 h r1 r2 nx bl b-⟨hn,hb⟩
  have hpos:1<=(nx.length:Int):=by cases nx with
    | nil=>exact absurd rfl hn
    | cons a l=>simp;omega
  refine ifP_split (fun h1 => ?_) (fun h1 => ?_)
  · have h1:=of_decide_eq_true h1
    have h1':nx.length=1:=by omega
    refine ⟨by omega,by omega,?_,?_⟩
    · unfold pickL;rw [if_pos h1'];rfl
    · unfold pickS;rw [if_pos h1'];rfl
  · have h1:=of_decide_eq_false h1
    have h1':¬ nx.length=1:=by omega
    have hc:=choose_in (way:=bl) (seed:=d.2.2.2.2.2.2.2.2.2.2.2.2.2.2) (k:=keyB b) (count:=x5) hpos
    refine ⟨by omega,hc.1,hc.2,?_,?_⟩
    · unfold pickL;rw [if_neg h1'];rfl
    · unfold pickS;rw [if_neg h1'];rfl
theorem ok_node_work_choose:SpecOK Tryz.prog GL 159 ct_node_work_choose.spec:=Ct.okH _ Tryz.func159 (by kernel_rfl) (withSpec_ok (withSpec_ok noSpecs_ok ok_probe_Key) ok_balance_Choose) hmix an_node_work_choose (hideMp (by kernel_rfl) vc_node_work_choose)
def ct_node_work_route:Ct:=⟨[.box 127 oWork,.val cU32],[.agg cRt,.val .bool],fun d=>[sortedR (sRoutes d.1.2.1),okL (sRoutes d.1.2.1)],fun d=>((lookR (sRoutes d.1.2.1) d.2.1,wayB d.1.2.1 d.2.1,()),(d.1,()))⟩
def an_node_work_route:PDs ct_node_work_route.ps->Anns:=(fun _=>{})
theorem vc_node_work_route :
 ∀(a:Node) (b:List Route) (c:Int) (d:List Int) (e f g h i:Int) (j:List Int) (k:Header) (l:Int),(Qbs4 a b c d e f g h i j k)/\(0<=l/\l<=4294967295)/\True->(sortedR (sRoutes (b,c,d,(e,f),g))/\((List.length (sRoutes (b,c,d,(e,f),g))):Int)<=134217728/\ ∀(m:Rt),m∈sRoutes (b,c,d,(e,f),g)->(m.2.1.length:Int)<=1099511627776)->sortedR b/\okL b/\ ∀(m:Bool),m=lookB b l->(m->(m->m)/\True)/\(m->(m->m)/\True)/\(m->(m->m)/\True)/\(m->m)/\lookR b l=lookR (sRoutes (b,c,d,(e,f),g)) l/\(bif m then decide (0<((List.length (lookR b l).2.1):Int)) else false)=wayB (b,c,d,(e,f),g) l/\(Qbs19 a b c d e f g h i j k):=by
  delta Qbs4 Qbs19
  rintro d x x1 x2 x3 x4 x5 x6 x7 x8 h a-⟨h1,h2⟩
  refine ⟨h1,h2,?_⟩
  (repeat (intro (b_:Bool) (hb_:b_=_);(repeat refine ⟨(by first|(simp;done)|(rw [hb_];simp;done)|(rw [hb_];simp;omega)|(rw [hb_];simp;intros;omega)|(rw [hb_];simp +contextual;done)),?_⟩);subst hb_))
  refine ⟨rfl,?_,rfl⟩
  show (bif lookB x a then decide (0<((lookR x a).2.1.length:Int)) else false)=(lookB x a&&decide (0<(lookR x a).2.1.length))
  cases lookB x a <;> simp
theorem ok_node_work_route:SpecOK Tryz.prog GL 158 ct_node_work_route.spec:=Ct.okH _ Tryz.func158 (by kernel_rfl) (withSpec_ok noSpecs_ok ok_fib_Lookup) hmix an_node_work_route (hideMp (by kernel_rfl) vc_node_work_route)
def ct_node_work_errors_1:Ct:=⟨[.val cU32,.val cI,.box 125 (.ref 127 oWork),.box 3 cI,.box 3 cI],[.own 5 cU8,.val cI],fun d=>[(d.2.2.1.2.2.2.2.1.length:Int)<=1000000],fun d=>((wErrB d.2.2.1 d.2.2.2.1 d.2.2.2.2.1 d.1 d.2.1,wErrE d.2.2.1 d.2.2.2.1 d.2.2.2.2.1 d.2.1,()),(d.2.2.1,d.2.2.2.1,d.2.2.2.2.1,()))⟩
def an_node_work_errors_1:PDs ct_node_work_errors_1.ps->Anns:=(fun _=>{})
theorem vc_node_work_errors_1 :
 ∀(a b:Int) (c:Node) (d:List Route) (e:Int) (f:List Int) (g h i j k:Int) (l:List Int) (m:Header) (n o:Int),(0<=a/\a<=4294967295)/\R64 b/\(CT.wf cNode c/\((d.length<=maxLen/\ ∀(p:Route),p∈d->((0<=p.1.1/\p.1.1<=4294967295)/\R64 p.1.2)/\(p.2.1.length<=maxLen/\ ∀(q:Int),q∈p.2.1->R64 q)/\R64 p.2.2)/\R64 e/\(f.length<=maxLen/\ ∀(p:Int),p∈f->R64 p)/\(R64 g/\R64 h)/\R64 i)/\R64 j/\R64 k/\(l.length<=maxLen/\ ∀(p:Int),p∈l->0<=p/\p<=255)/\CT.wf cHeader m)/\R64 n/\R64 o/\True->(l.length:Int)<=1000000->(l.length:Int)<=1099511627776/\errB l a n o b c.2.2.2.2.2.2.2.2.2.2.2.2.2.1=wErrB (c,(d,e,f,(g,h),i),j,k,l,m) n o a b/\errE l n o b c.2.2.2.2.2.2.2.2.2.2.2.2.2.1=wErrE (c,(d,e,f,(g,h),i),j,k,l,m) n o b/\(c,(d,e,f,(g,h),i),j,k,l,m)=(c,(d,e,f,(g,h),i),j,k,l,m)/\n=n/\o=o:=by
  rintro x x1 d y y1 y2 y3 y4 y5 y6 y7 b h k c-hb
  exact ⟨by omega,rfl,rfl,rfl,rfl,rfl⟩
theorem ok_node_work_errors_1:SpecOK Tryz.prog GL 196 ct_node_work_errors_1.spec:=Ct.okH _ Tryz.func196 (by kernel_rfl) (withSpec_ok noSpecs_ok ok_reply_Error) hmix an_node_work_errors_1 (hideMp (by kernel_rfl) vc_node_work_errors_1)
def ct_node_work_errors:Ct:=⟨[.box 127 oWork,.val cI,.val cI],[.fn 196 3,.box 125 .ali,.box 3 cI,.box 3 cI],fun d=>[],fun d=>(((),(),d.2.1,d.2.2.1,()),(d.1,()))⟩
def an_node_work_errors:PDs ct_node_work_errors.ps->Anns:=(fun _=>{})
def Qbs17 (n:Route) :=
 ((0<=n.1.1/\n.1.1<=4294967295)/\R64 n.1.2)/\(n.2.1.length<=maxLen/\ ∀(o:Int),o∈n.2.1->R64 o)/\R64 n.2.2
def Qbs9 (a:Node) (b:List Route) (c:Int) (d:List Int) (e f g h i:Int) (j:List Int) (k:Header) :=
 CT.wf cNode a/\((b.length<=maxLen/\ ∀(n:Route),n∈b->(Qbs17 n))/\R64 c/\(d.length<=maxLen/\ ∀(n:Int),n∈d->R64 n)/\(R64 e/\R64 f)/\R64 g)/\R64 h/\R64 i/\(j.length<=maxLen/\ ∀(n:Int),n∈j->0<=n/\n<=255)/\CT.wf cHeader k
theorem vc_node_work_errors :
 ∀(a:Node) (b:List Route) (c:Int) (d:List Int) (e f g h i:Int) (j:List Int) (k:Header) (l m:Int),(Qbs9 a b c d e f g h i j k)/\R64 l/\R64 m/\True->True->()=()/\()=()/\l=l/\m=m/\(Qbs19 a b c d e f g h i j k):=by
  delta Qbs9 Qbs17 Qbs19
  intros
  exact ⟨rfl,rfl,rfl,rfl,rfl⟩
theorem ok_node_work_errors:SpecOK Tryz.prog GL 157 ct_node_work_errors.spec:=Ct.okH _ Tryz.func157 (by kernel_rfl) noSpecs_ok hmix an_node_work_errors (hideMp (by kernel_rfl) vc_node_work_errors)
def ct_node_work_receive_1:Ct:=⟨[.val cU32,.val cI,.box 125 (.ref 127 oWork)],[.own 5 cU8,.val cI],fun d=>[(d.2.2.1.2.2.2.2.1.length:Int)<=1000000],fun d=>((wHostB d.2.2.1 d.1 d.2.1,wHostE d.2.2.1 d.2.1,()),(d.2.2.1,()))⟩
def an_node_work_receive_1:PDs ct_node_work_receive_1.ps->Anns:=(fun _=>{})
theorem vc_node_work_receive_1 :
 ∀(a b:Int) (c:Node) (d:List Route) (e:Int) (f:List Int) (g h i j k:Int) (l:List Int) (m:Header),(0<=a/\a<=4294967295)/\R64 b/\(CT.wf cNode c/\((d.length<=maxLen/\ ∀(n:Route),n∈d->(Qbs17 n))/\R64 e/\(f.length<=maxLen/\ ∀(n:Int),n∈f->R64 n)/\(R64 g/\R64 h)/\R64 i)/\R64 j/\R64 k/\(l.length<=maxLen/\ ∀(n:Int),n∈l->0<=n/\n<=255)/\CT.wf cHeader m)/\True->(l.length:Int)<=1000000->(l.length:Int)<=1099511627776/\hostB l a b c.2.2.2.2.2.2.2.2.2.2.2.2.2.1=wHostB (c,(d,e,f,(g,h),i),j,k,l,m) a b/\hostE l b c.2.2.2.2.2.2.2.2.2.2.2.2.2.1=wHostE (c,(d,e,f,(g,h),i),j,k,l,m) b/\(c,(d,e,f,(g,h),i),j,k,l,m)=(c,(d,e,f,(g,h),i),j,k,l,m):=by
  delta Qbs17
  rintro x x1 d y y1 y2 y3 y4 y5 y6 y7 b h-hb
  exact ⟨by omega,rfl,rfl,rfl⟩
theorem ok_node_work_receive_1:SpecOK Tryz.prog GL 154 ct_node_work_receive_1.spec:=Ct.okH _ Tryz.func154 (by kernel_rfl) (withSpec_ok noSpecs_ok ok_reply_Host) hmix an_node_work_receive_1 (hideMp (by kernel_rfl) vc_node_work_receive_1)
def ct_node_work_source:Ct:=⟨[.box 127 oWork,.val cI,.val cI],[.val cU32],fun d=>[],fun d=>((srcA d.1.1 d.2.1 d.2.2.1,()),(d.1,()))⟩
def an_node_work_source:PDs ct_node_work_source.ps->Anns:=(fun _=>{})
theorem vc_node_work_source :
 ∀(a:Node) (b:List Route) (c:Int) (d:List Int) (e f g h i:Int) (j:List Int) (k:Header) (l m:Int),(Qbs9 a b c d e f g h i j k)/\R64 l/\R64 m/\True->True->ifP (decide (a.2.2.2.2.2.1=2)) (adr a (portL a m)=srcA a l m/\(Qbs19 a b c d e f g h i j k)) (ifP (decide (a.2.2.2.2.2.1=3)) (a.2.1=srcA a l m/\(Qbs19 a b c d e f g h i j k)) (ifP (decide (a.2.2.2.2.2.1=4)) (a.2.2.2.2.2.2.1=srcA a l m/\(Qbs19 a b c d e f g h i j k)) (adr a l=srcA a l m/\(Qbs19 a b c d e f g h i j k)))):=by
  delta Qbs9 Qbs17 Qbs19
  rintro d x x1 x2 x3 x4 x5 x6 x7 x8 h i l - -
  unfold srcA nSource nLoop nFixed
  refine ifP_split (fun h1 => ?_) (fun h1 => ?_)
  · rw [if_pos (of_decide_eq_true h1)];exact ⟨rfl,rfl⟩
  rw [if_neg (of_decide_eq_false h1)]
  refine ifP_split (fun h2 => ?_) (fun h2 => ?_)
  · rw [if_pos (of_decide_eq_true h2)];exact ⟨rfl,rfl⟩
  rw [if_neg (of_decide_eq_false h2)]
  refine ifP_split (fun h3 => ?_) (fun h3 => ?_)
  · rw [if_pos (of_decide_eq_true h3)];exact ⟨rfl,rfl⟩
  rw [if_neg (of_decide_eq_false h3)]
  exact ⟨rfl,rfl⟩
theorem ok_node_work_source:SpecOK Tryz.prog GL 195 ct_node_work_source.spec:=Ct.okH _ Tryz.func195 (by kernel_rfl) (withSpec_ok (withSpec_ok noSpecs_ok ok_node_PortOf) ok_node_work_address) hmix an_node_work_source (hideMp (by kernel_rfl) vc_node_work_source)
def ct_AnsHost:Ct:=⟨[.box 127 oWork,.fn 154 1,.box 125 .ali,.val cU32],[.agg cOut,.val cI],fun d=>[okW d.1],fun d=>(((ansV (wHostB d.1) (wHostE d.1) d.1 d.2.2.2.1).2.1,(ansV (wHostB d.1) (wHostE d.1) d.1 d.2.2.2.1).2.2,()),(setS d.1 (ansV (wHostB d.1) (wHostE d.1) d.1 d.2.2.2.1).1,(),()))⟩
def an_AnsHost:PDs ct_AnsHost.ps->Anns:=(fun d=>{cuts:=(fun n=>match n with|17=>some (fun S=>{ι:=Int×(List Int)×(Int×Int),qn:=⟨fun k_=>∀ (k:Int) (l:(List Int)) (t:(Int×Int)),k_ (k,l,t),fun k_ h_ i=>h_ i.1 i.2.1 i.2.2,fun k_=>∃ (k:Int) (l:(List Int)) (t:(Int×Int)),k_ (k,l,t),fun k_ ⟨k,l,t,h_⟩=>⟨_,h_⟩⟩,inv:=fun i=>ansV (wHostB d.1) (wHostE d.1) d.1 d.2.2.2.1=(pickS (ansS d.1) (ansRt d.1),(ansL (wHostB d.1) d.1,(wHostB d.1) (ansF (wHostB d.1) d.1 d.2.2.2.1) (ansID d.1)),2)/\(ansRt d.1).2.1≠[]/\(sRoutes d.1.2.1,i.1,i.2.1,i.2.2,sBalanced d.1.2.1)=ansS d.1,keep:=[0,1,2,6,9,11],slots:=fun i=>[(8,.int .i64 (inP d.1.1 d.1.2.2.1)),(13,.int .i64 (ansID d.1))],keepN:=[112,192,560,1048577],names:=fun i=>[(1048576,.live (.cells 127 (flat cNode d.1.1++([.dsl cRt (sRoutes d.1.2.1),.int .i64 i.1,.own 524288 1]++(flat cTokens i.2.2++([.int .i64 (sBalanced d.1.2.1),.int .i64 d.1.2.2.1,.int .i64 d.1.2.2.2.1,.dsl cU8 d.1.2.2.2.2.1]++flat cHeader d.1.2.2.2.2.2)))))),(524288,.live (.row 3 cI i.2.1))]})|_=>none)})
def Qbs1 (a:Node) (b:List Route) (c:Int) (d:List Int) (e f g h i:Int) (j:List Int) (k:Header) (l:Int) :=
 ansV (wHostB (a,(b,c,d,(e,f),g),h,i,j,k)) (wHostE (a,(b,c,d,(e,f),g),h,i,j,k)) (a,(b,c,d,(e,f),g),h,i,j,k) l
def Qbs2 (b:List Route) (c:Int) (d:List Int) (e f g:Int) (k:Header) :=
 lookR (sRoutes (b,c,d,(e,f),g)) k.2.2.2.2.2.1
def Qbs6 (a:Node) (b:List Route) (c:Int) (d:List Int) (e f g h i:Int) (j:List Int) (k:Header) (l:Int) :=
 (pickS (ansS (a,(b,c,d,(e,f),g),h,i,j,k)) (ansRt (a,(b,c,d,(e,f),g),h,i,j,k)),(ansL (wHostB (a,(b,c,d,(e,f),g),h,i,j,k)) (a,(b,c,d,(e,f),g),h,i,j,k),wHostB (a,(b,c,d,(e,f),g),h,i,j,k) (ansF (wHostB (a,(b,c,d,(e,f),g),h,i,j,k)) (a,(b,c,d,(e,f),g),h,i,j,k) l) (ansID (a,(b,c,d,(e,f),g),h,i,j,k))),(2:Int))
def Qbs7 (a:Node) (e f i:Int) :=
 bTake a.2.2.2.2.2.2.2.2.2.2.1 (e,f) i
def Qbs8 (b:List Route) (c:Int) (d:List Int) (e f g:Int) (j:List Int) :=
 sortedR (sRoutes (b,c,d,(e,f),g))/\okL (sRoutes (b,c,d,(e,f),g))/\(j.length:Int)<=1000000
def Qbs10 :=
 ((0:Int),([]:List Int))
def Qbs13 (a:Node) (b:List Route) (c:Int) (d:List Int) (e f g h i:Int) (j:List Int) (k:Header) (l n:Int) (o:List Int) (p:Int×Int) :=
 ansV (wHostB (a,(b,c,d,(e,f),g),h,i,j,k)) (wHostE (a,(b,c,d,(e,f),g),h,i,j,k)) (a,(b,c,d,(e,f),g),h,i,j,k) l=(Qbs6 a b c d e f g h i j k l)/\(ansRt (a,(b,c,d,(e,f),g),h,i,j,k)).2.1≠([]:List Int)/\(sRoutes (b,c,d,(e,f),g),n,o,p,sBalanced (b,c,d,(e,f),g))=ansS (a,(b,c,d,(e,f),g),h,i,j,k)
theorem vc_AnsHost :
 ∀(a:Node) (b:List Route) (c:Int) (d:List Int) (e f g h i:Int) (j:List Int) (k:Header) (l:Int),(Qbs4 a b c d e f g h i j k)/\True/\True/\(0<=l/\l<=4294967295)/\True->(Qbs8 b c d e f g j)-> ∀(m:Bool),m=decide (l=0)->(m->(m->m)/\True)/\(m->(m->m)/\True)/\(m->(m->m)/\True)/\(m->(m->m)/\True)/\(m->m)/\ifP (bif m then a.2.2.2.2.2.2.2.2.2.2.2.1 else false) ((Qbs10)=(Qbs1 a b c d e f g h i j k l).2.1/\(4:Int)=(Qbs1 a b c d e f g h i j k l).2.2/\(a,(b,c,d,(e,f),g),h,i,j,k)=setS (a,(b,c,d,(e,f),g),h,i,j,k) (Qbs1 a b c d e f g h i j k l).1/\()=()) ((j.length:Int)<=1000000/\ifP (! decide (wHostE (a,(b,c,d,(e,f),g),h,i,j,k) (0:Int)=0)) ((Qbs10)=(Qbs1 a b c d e f g h i j k l).2.1/\(6:Int)=(Qbs1 a b c d e f g h i j k l).2.2/\(a,(b,c,d,(e,f),g),h,i,j,k)=setS (a,(b,c,d,(e,f),g),h,i,j,k) (Qbs1 a b c d e f g h i j k l).1/\()=()) (sortedR (sRoutes (b,c,d,(e,f),g))/\okL (sRoutes (b,c,d,(e,f),g))/\ifP (! wayB
 (b,c,d,(e,f),g) k.2.2.2.2.2.1) ((Qbs10)=(Qbs1 a b c d e f g h i j k l).2.1/\(8:Int)=(Qbs1 a b c d e f g h i j k l).2.2/\(a,(b,c,d,(e,f),g),h,i,j,k)=setS (a,(b,c,d,(e,f),g),h,i,j,k) (Qbs1 a b c d e f g h i j k l).1/\()=()) (ifP (! (Qbs7 a e f i).2) ((Qbs10)=(Qbs1 a b c d e f g h i j k l).2.1/\(5:Int)=(Qbs1 a b c d e f g h i j k l).2.2/\(a,(b,c,d,(Qbs7 a e f i).1,g),h,i,j,k)=setS (a,(b,c,d,(e,f),g),h,i,j,k) (Qbs1 a b c d e f g h i j k l).1/\()=()) (ifP (decide (inP a h<(d.length:Int))) (0<=inP a h/\inP a h<(d.length:Int)/\0<=inP a h/\inP a h<(d.length:Int)/\ ∃(n:Int) (o:List Int),∃(p:Int×Int),(Qbs13 a b c d e f g h i j k l n o p)/\l=l/\inP a h=inP a h/\idNext a (b,c,d,(Qbs7 a e f i).1,g) (inP a h) i k.2.1 k.2.2.2.2.2.1=ansID (a,(b,c,d,(e,f),g),h,i,j,k)/\(0:Int)=0/\(Qbs2 b c d e f g k).1.1=(Qbs2 b c d e f g k).1.1/\(Qbs2 b c d e f g k).1.2=(Qbs2 b c d e f g k).1.2/\(Qbs2 b c d e f g
 k).2.1=(Qbs2 b c d e f g k).2.1/\(Qbs2 b c d e f g k).2.2=(Qbs2 b c d e f g k).2.2/\wHostB (a,(b,c,d,(e,f),g),h,i,j,k) (adr a (inP a h)) (0:Int)=wHostB (a,(b,c,d,(e,f),g),h,i,j,k) (adr a (inP a h)) (0:Int)/\a.1=a.1/\a.2.1=a.2.1/\a.2.2.1=a.2.2.1/\a.2.2.2.1=a.2.2.2.1/\a.2.2.2.2.1=a.2.2.2.2.1/\a.2.2.2.2.2.1=a.2.2.2.2.2.1/\a.2.2.2.2.2.2.1=a.2.2.2.2.2.2.1/\a.2.2.2.2.2.2.2.1=a.2.2.2.2.2.2.2.1/\a.2.2.2.2.2.2.2.2.1=a.2.2.2.2.2.2.2.2.1/\a.2.2.2.2.2.2.2.2.2.1=a.2.2.2.2.2.2.2.2.2.1/\a.2.2.2.2.2.2.2.2.2.2.1.1=a.2.2.2.2.2.2.2.2.2.2.1.1/\a.2.2.2.2.2.2.2.2.2.2.1.2=a.2.2.2.2.2.2.2.2.2.2.1.2/\a.2.2.2.2.2.2.2.2.2.2.2.1=a.2.2.2.2.2.2.2.2.2.2.2.1/\a.2.2.2.2.2.2.2.2.2.2.2.2.1=a.2.2.2.2.2.2.2.2.2.2.2.2.1/\a.2.2.2.2.2.2.2.2.2.2.2.2.2.1=a.2.2.2.2.2.2.2.2.2.2.2.2.2.1/\a.2.2.2.2.2.2.2.2.2.2.2.2.2.2=a.2.2.2.2.2.2.2.2.2.2.2.2.2.2/\b=sRoutes (b,c,d,(e,f),g)/\IntKind.wrap .i64 (c+(1:Int))=n/\(Qbs7 a e f
 i).1.1=p.1/\(Qbs7 a e f i).1.2=p.2/\g=sBalanced (b,c,d,(e,f),g)/\h=h/\i=i/\j=j/\k.1=k.1/\k.2.1=k.2.1/\k.2.2.1=k.2.2.1/\k.2.2.2.1=k.2.2.2.1/\k.2.2.2.2.1=k.2.2.2.2.1/\k.2.2.2.2.2.1=k.2.2.2.2.2.1/\k.2.2.2.2.2.2=k.2.2.2.2.2.2/\List.set d (Int.toNat (inP a h)) (IntKind.wrap .i64 (d.getD (Int.toNat (inP a h)) default+(1:Int)))=o/\True) (∃(n:Int) (o:List Int),∃(p:Int×Int),(Qbs13 a b c d e f g h i j k l n o p)/\l=l/\inP a h=inP a h/\idNext a (b,c,d,(Qbs7 a e f i).1,g) (inP a h) i k.2.1 k.2.2.2.2.2.1=ansID (a,(b,c,d,(e,f),g),h,i,j,k)/\(0:Int)=0/\(Qbs2 b c d e f g k).1.1=(Qbs2 b c d e f g k).1.1/\(Qbs2 b c d e f g k).1.2=(Qbs2 b c d e f g k).1.2/\(Qbs2 b c d e f g k).2.1=(Qbs2 b c d e f g k).2.1/\(Qbs2 b c d e f g k).2.2=(Qbs2 b c d e f g k).2.2/\wHostB (a,(b,c,d,(e,f),g),h,i,j,k) (adr a (inP a h)) (0:Int)=wHostB (a,(b,c,d,(e,f),g),h,i,j,k) (adr a (inP a h))
 (0:Int)/\a.1=a.1/\a.2.1=a.2.1/\a.2.2.1=a.2.2.1/\a.2.2.2.1=a.2.2.2.1/\a.2.2.2.2.1=a.2.2.2.2.1/\a.2.2.2.2.2.1=a.2.2.2.2.2.1/\a.2.2.2.2.2.2.1=a.2.2.2.2.2.2.1/\a.2.2.2.2.2.2.2.1=a.2.2.2.2.2.2.2.1/\a.2.2.2.2.2.2.2.2.1=a.2.2.2.2.2.2.2.2.1/\a.2.2.2.2.2.2.2.2.2.1=a.2.2.2.2.2.2.2.2.2.1/\a.2.2.2.2.2.2.2.2.2.2.1.1=a.2.2.2.2.2.2.2.2.2.2.1.1/\a.2.2.2.2.2.2.2.2.2.2.1.2=a.2.2.2.2.2.2.2.2.2.2.1.2/\a.2.2.2.2.2.2.2.2.2.2.2.1=a.2.2.2.2.2.2.2.2.2.2.2.1/\a.2.2.2.2.2.2.2.2.2.2.2.2.1=a.2.2.2.2.2.2.2.2.2.2.2.2.1/\a.2.2.2.2.2.2.2.2.2.2.2.2.2.1=a.2.2.2.2.2.2.2.2.2.2.2.2.2.1/\a.2.2.2.2.2.2.2.2.2.2.2.2.2.2=a.2.2.2.2.2.2.2.2.2.2.2.2.2.2/\b=sRoutes (b,c,d,(e,f),g)/\IntKind.wrap .i64 (c+(1:Int))=n/\(Qbs7 a e f i).1.1=p.1/\(Qbs7 a e f i).1.2=p.2/\g=sBalanced
 (b,c,d,(e,f),g)/\h=h/\i=i/\j=j/\k.1=k.1/\k.2.1=k.2.1/\k.2.2.1=k.2.2.1/\k.2.2.2.1=k.2.2.2.1/\k.2.2.2.2.1=k.2.2.2.2.1/\k.2.2.2.2.2.1=k.2.2.2.2.2.1/\k.2.2.2.2.2.2=k.2.2.2.2.2.2/\d=o/\True)/\ ∀(n:Int) (o:List Int) (p:Int×Int),ansV (wHostB (a,(b,c,d,(e,f),g),h,i,j,k)) (wHostE (a,(b,c,d,(e,f),g),h,i,j,k)) (a,(b,c,d,(e,f),g),h,i,j,k) l=(Qbs6 a b c d e f g h i j k l)/\(ansRt (a,(b,c,d,(e,f),g),h,i,j,k)).2.1≠([]:List Int)/\(sRoutes (b,c,d,(e,f),g),n,o,p,sBalanced (b,c,d,(e,f),g))=ansS (a,(b,c,d,(e,f),g),h,i,j,k)->(Qbs2 b c d e f g k).2.1≠([]:List Int)/\((List.length (wHostB (a,(b,c,d,(e,f),g),h,i,j,k) (adr a (inP a h)) (0:Int))):Int)<=1000000/\ifP (decide (l=0)) ((j.length:Int)<=1000000/\(pickL a (b,n,o,p,g) (Qbs2 b c d e f g k) (keyB (wHostB (a,(b,c,d,(e,f),g),h,i,j,k) (adr a (inP a h)) (0:Int))),wHostB (a,pickS (b,n,o,p,g) (Qbs2 b c d e f g k),h,i,j,k) (srcA a (inP a h) (pickL a (b,n,o,p,g)
 (Qbs2 b c d e f g k) (keyB (wHostB (a,(b,c,d,(e,f),g),h,i,j,k) (adr a (inP a h)) (0:Int))))) (ansID (a,(b,c,d,(e,f),g),h,i,j,k)))=(Qbs1 a b c d e f g h i j k l).2.1/\(2:Int)=(Qbs1 a b c d e f g h i j k l).2.2/\(a,pickS (b,n,o,p,g) (Qbs2 b c d e f g k),h,i,j,k)=setS (a,(b,c,d,(e,f),g),h,i,j,k) (Qbs1 a b c d e f g h i j k l).1/\()=()) ((j.length:Int)<=1000000/\(pickL a (b,n,o,p,g) (Qbs2 b c d e f g k) (keyB (wHostB (a,(b,c,d,(e,f),g),h,i,j,k) (adr a (inP a h)) (0:Int))),wHostB (a,pickS (b,n,o,p,g) (Qbs2 b c d e f g k),h,i,j,k) l (ansID (a,(b,c,d,(e,f),g),h,i,j,k)))=(Qbs1 a b c d e f g h i j k l).2.1/\(2:Int)=(Qbs1 a b c d e f g h i j k l).2.2/\(a,pickS (b,n,o,p,g) (Qbs2 b c d e f g k),h,i,j,k)=setS (a,(b,c,d,(e,f),g),h,i,j,k) (Qbs1 a b c d e f g h i j k l).1/\()=()))))):=by
  delta Qbs1 Qbs2 Qbs4 Qbs6 Qbs7 Qbs8 Qbs10 Qbs13
  rintro d x x1 x2 x3 x4 x5 x6 x7 x8 h own-⟨hs,hl,hb⟩
  obtain ⟨w,hw⟩:∃ w:Work,w=(d,(x,x1,x2,(x3,x4),x5),x6,x7,x8,h):=⟨_,rfl⟩
  have e0:d.2.2.2.2.2.2.2.2.2.2.2.1=nSilent w.1:=by rw [hw];rfl
  have e2:wayB (x,x1,x2,(x3,x4),x5) h.2.2.2.2.2.1=wayB w.2.1 (hSrc w.2.2.2.2.2):=by rw [hw];rfl
  have e3:bTake d.2.2.2.2.2.2.2.2.2.2.1 (x3,x4) x7=takeV w:=by rw [hw];rfl
  rw [e0,e2,e3,← hw]
  have fin:=fun {s o y}=>finV (r:=ansV (wHostB w) (wHostE w) w own) (s:=s) (o:=o) (y:=y) w
  intro b hb0
  (repeat refine ⟨(by first|(simp;done)|(rw [hb0];simp;done)|(cases b <;> simp)),?_⟩)
  have hq:(bif b then nSilent w.1 else false)=true↔own=0/\nSilent w.1=true:=by rw [hb0];by_cases k:own=0 <;> simp [k]
  refine ifP_split (fun h0 => ?_) (fun h0 => ?_)
  · obtain ⟨f1,f2,f3⟩:=fin (ansV_sil (hq.1 h0))
    exact ⟨f1,f2,by rw [← f3,hw];rfl,rfl⟩
  have h0:¬ (own=0/\nSilent w.1=true):=fun k=>by rw [hq.2 k] at h0;cases h0
  refine ⟨hb,ifP_split (fun h1 => ?_) (fun h1 => ?_)⟩
  · obtain ⟨f1,f2,f3⟩:=fin (ansV_bad h0 (by simpa using h1))
    exact ⟨f1,f2,by rw [← f3,hw];rfl,rfl⟩
  have h1:¬ (wHostE w) 0≠0:=by simpa using h1
  refine ⟨hs,hl,ifP_split (fun h2 => ?_) (fun h2 => ?_)⟩
  · obtain ⟨f1,f2,f3⟩:=fin (ansV_rt h0 h1 (by simpa using h2))
    exact ⟨f1,f2,by rw [← f3,hw];rfl,rfl⟩
  have h2:¬ wayB w.2.1 (hSrc w.2.2.2.2.2)=false:=by simpa using h2
  refine ifP_split (fun h3 => ?_) (fun h3=>⟨?_,?_⟩)
  · obtain ⟨f1,f2,f3⟩:=fin (ansV_lim h0 h1 h2 (by simpa using h3))
    exact ⟨f1,f2,by rw [← f3,hw];rfl,rfl⟩
  · have h3:¬ (takeV w).2=false:=by simpa using h3
    have eg:=ansV_go (B:=wHostB w) h0 h1 h2 h3
    have hne:(ansRt w).2.1≠[]:=way_ne h2
    have hin:=inP_nn d x6
    have hID:idNext d (x,x1,x2,(takeV w).1,x5) (inP d x6) x7 h.2.1 h.2.2.2.2.2.1=ansID w:=by rw [← e3,hw];rfl
    have hS:ansS w=(x,IntKind.i64.wrap (x1+1),bump x2 (inP d x6),(takeV w).1,x5):=by rw [← e3,hw];rfl
    refine ifP_split (fun h4 => ?_) (fun h4 => ?_)
    · have h4:=of_decide_eq_true h4
      refine ⟨hin,h4,hin,h4,_,_,_,⟨eg,hne,?_⟩,rfl,rfl,hID,(by repeat' first|exact trivial|refine ⟨trivial,?_⟩|refine ⟨(by with_reducible rfl),?_⟩|refine ⟨w64 (by omega) (by omega),?_⟩|refine ⟨rfl,?_⟩)⟩
      rw [hS,bump_in h4];rfl
    · have h4:=of_decide_eq_false h4
      refine ⟨_,_,_,⟨eg,hne,?_⟩,rfl,rfl,hID,(by repeat' first|exact trivial|refine ⟨trivial,?_⟩|refine ⟨(by with_reducible rfl),?_⟩|refine ⟨w64 (by omega) (by omega),?_⟩|refine ⟨rfl,?_⟩)⟩
      rw [hS,bump_out h4];rfl
  · rintro k l t ⟨eg,hne,hS⟩
    have e4:lookR (sRoutes (x,x1,x2,(x3,x4),x5)) h.2.2.2.2.2.1=ansRt w:=by rw [hw];rfl
    have e5:(x,k,l,t,x5)=ansS w:=hS
    have e6:pickL d (ansS w) (ansRt w) (keyB ((wHostB w) (adr d (inP d x6)) 0))=ansL (wHostB w) w:=by rw [hw];rfl
    rw [e4,e5,e6]
    obtain ⟨f1,f2,f3⟩:=fin eg
    have hlen:=wHostB_len w (adr d (inP d x6)) 0
    refine ⟨hne,by omega,ifP_split (fun h4 => ?_) (fun h4 => ?_)⟩
    · have h4:=of_decide_eq_true h4
      refine ⟨hb,?_,f2,by rw [← f3,hw];rfl,rfl⟩
      rw [← f1];unfold ansF;rw [if_pos h4,hw];rfl
    · have h4:=of_decide_eq_false h4
      refine ⟨hb,?_,f2,by rw [← f3,hw];rfl,rfl⟩
      rw [← f1];unfold ansF;rw [if_neg h4,hw];rfl
theorem ok_AnsHost:SpecOK Tryz.prog GL 156 ct_AnsHost.spec:=Ct.okH _ Tryz.func156 (by kernel_rfl) (withSpec_ok (withSpec_ok (withSpec_ok (withSpec_ok (withSpec_ok (withSpec_ok (withSpec_ok (withSpec_ok noSpecs_ok ok_node_work_incoming) ok_node_work_address) ok_node_work_receive_1) ok_node_work_route) ok_bucket_Take) ok_identifier_Next) ok_node_work_choose) ok_node_work_source) hmix an_AnsHost (hideMp (by kernel_rfl) vc_AnsHost)
def ct_AnsErr:Ct:=⟨[.box 127 oWork,.fn 196 3,.box 125 .ali,.box 3 cI,.box 3 cI,.val cU32],[.agg cOut,.val cI],fun d=>[okW d.1],fun d=>(((ansV (wErrB d.1 d.2.2.2.1 d.2.2.2.2.1) (wErrE d.1 d.2.2.2.1 d.2.2.2.2.1) d.1 d.2.2.2.2.2.1).2.1,(ansV (wErrB d.1 d.2.2.2.1 d.2.2.2.2.1) (wErrE d.1 d.2.2.2.1 d.2.2.2.2.1) d.1 d.2.2.2.2.2.1).2.2,()),(setS d.1 (ansV (wErrB d.1 d.2.2.2.1 d.2.2.2.2.1) (wErrE d.1 d.2.2.2.1 d.2.2.2.2.1) d.1 d.2.2.2.2.2.1).1,(),d.2.2.2.1,d.2.2.2.2.1,()))⟩
def an_AnsErr:PDs ct_AnsErr.ps->Anns:=(fun d=>{cuts:=(fun n=>match n with|17=>some (fun S=>{ι:=Int×(List Int)×(Int×Int),qn:=⟨fun k_=>∀ (k:Int) (l:(List Int)) (t:(Int×Int)),k_ (k,l,t),fun k_ h_ i=>h_ i.1 i.2.1 i.2.2,fun k_=>∃ (k:Int) (l:(List Int)) (t:(Int×Int)),k_ (k,l,t),fun k_ ⟨k,l,t,h_⟩=>⟨_,h_⟩⟩,inv:=fun i=>ansV (wErrB d.1 d.2.2.2.1 d.2.2.2.2.1) (wErrE d.1 d.2.2.2.1 d.2.2.2.2.1) d.1 d.2.2.2.2.2.1=(pickS (ansS d.1) (ansRt d.1),(ansL (wErrB d.1 d.2.2.2.1 d.2.2.2.2.1) d.1,(wErrB d.1 d.2.2.2.1 d.2.2.2.2.1) (ansF (wErrB d.1 d.2.2.2.1 d.2.2.2.2.1) d.1 d.2.2.2.2.2.1) (ansID d.1)),2)/\(ansRt d.1).2.1≠[]/\(sRoutes d.1.2.1,i.1,i.2.1,i.2.2,sBalanced d.1.2.1)=ansS d.1,keep:=[0,1,2,6,9,11],slots:=fun i=>[(8,.int .i64 (inP d.1.1 d.1.2.2.1)),(13,.int .i64 (ansID d.1))],keepN:=[112,192,560,1048577,1048578,1048579],names:=fun i=>[(1048576,.live (.cells 127 (flat cNode d.1.1++([.dsl cRt (sRoutes d.1.2.1),.int .i64 i.1,.own 524288 1]++(flat cTokens i.2.2++([.int .i64 (sBalanced d.1.2.1),.int .i64 d.1.2.2.1,.int .i64 d.1.2.2.2.1,.dsl cU8 d.1.2.2.2.2.1]++flat cHeader d.1.2.2.2.2.2)))))),(524288,.live (.row 3 cI i.2.1))]})|_=>none)})
def Qbs0 (a:Node) (b:List Route) (c:Int) (d:List Int) (e f g h i:Int) (j:List Int) (k:Header) (l m n:Int) :=
 ansV (wErrB (a,(b,c,d,(e,f),g),h,i,j,k) l m) (wErrE (a,(b,c,d,(e,f),g),h,i,j,k) l m) (a,(b,c,d,(e,f),g),h,i,j,k) n
def Qbs5 (a:Node) (b:List Route) (c:Int) (d:List Int) (e f g h i:Int) (j:List Int) (k:Header) (l m n:Int) :=
 (pickS (ansS (a,(b,c,d,(e,f),g),h,i,j,k)) (ansRt (a,(b,c,d,(e,f),g),h,i,j,k)),(ansL (wErrB (a,(b,c,d,(e,f),g),h,i,j,k) l m) (a,(b,c,d,(e,f),g),h,i,j,k),wErrB (a,(b,c,d,(e,f),g),h,i,j,k) l m (ansF (wErrB (a,(b,c,d,(e,f),g),h,i,j,k) l m) (a,(b,c,d,(e,f),g),h,i,j,k) n) (ansID (a,(b,c,d,(e,f),g),h,i,j,k))),(2:Int))
def Qbs14 (a:Node) (b:List Route) (c:Int) (d:List Int) (e f g h i:Int) (j:List Int) (k:Header) (l m n p:Int) (q:List Int) (r:Int×Int) :=
 ansV (wErrB (a,(b,c,d,(e,f),g),h,i,j,k) l m) (wErrE (a,(b,c,d,(e,f),g),h,i,j,k) l m) (a,(b,c,d,(e,f),g),h,i,j,k) n=(Qbs5 a b c d e f g h i j k l m n)/\(ansRt (a,(b,c,d,(e,f),g),h,i,j,k)).2.1≠([]:List Int)/\(sRoutes (b,c,d,(e,f),g),p,q,r,sBalanced (b,c,d,(e,f),g))=ansS (a,(b,c,d,(e,f),g),h,i,j,k)
theorem vc_AnsErr :
 ∀(a:Node) (b:List Route) (c:Int) (d:List Int) (e f g h i:Int) (j:List Int) (k:Header) (l m n:Int),(CT.wf cNode a/\((b.length<=maxLen/\ ∀(o:Route),o∈b->((0<=o.1.1/\o.1.1<=4294967295)/\R64 o.1.2)/\(o.2.1.length<=maxLen/\ ∀(p:Int),p∈o.2.1->R64 p)/\R64 o.2.2)/\R64 c/\(d.length<=maxLen/\ ∀(o:Int),o∈d->R64 o)/\(R64 e/\R64 f)/\R64 g)/\R64 h/\R64 i/\(j.length<=maxLen/\ ∀(o:Int),o∈j->0<=o/\o<=255)/\CT.wf cHeader k)/\True/\True/\R64 l/\R64 m/\(0<=n/\n<=4294967295)/\True->(Qbs8 b c d e f g j)-> ∀(o:Bool),o=decide (n=0)->(o->(o->o)/\True)/\(o->(o->o)/\True)/\(o->(o->o)/\True)/\(o->(o->o)/\True)/\(o->o)/\ifP (bif o then a.2.2.2.2.2.2.2.2.2.2.2.1 else false) ((Qbs10)=(Qbs0 a b c d e f g h i j k l m n).2.1/\(4:Int)=(Qbs0 a b c d e f g h i j k l m n).2.2/\(a,(b,c,d,(e,f),g),h,i,j,k)=setS (a,(b,c,d,(e,f),g),h,i,j,k) (Qbs0 a b c d e f g h i j k l m n).1/\()=()/\l=l/\m=m) ((j.length:Int)<=1000000/\ifP (!
 decide (wErrE (a,(b,c,d,(e,f),g),h,i,j,k) l m (0:Int)=0)) ((Qbs10)=(Qbs0 a b c d e f g h i j k l m n).2.1/\(6:Int)=(Qbs0 a b c d e f g h i j k l m n).2.2/\(a,(b,c,d,(e,f),g),h,i,j,k)=setS (a,(b,c,d,(e,f),g),h,i,j,k) (Qbs0 a b c d e f g h i j k l m n).1/\()=()/\l=l/\m=m) (sortedR (sRoutes (b,c,d,(e,f),g))/\okL (sRoutes (b,c,d,(e,f),g))/\ifP (! wayB (b,c,d,(e,f),g) k.2.2.2.2.2.1) ((Qbs10)=(Qbs0 a b c d e f g h i j k l m n).2.1/\(8:Int)=(Qbs0 a b c d e f g h i j k l m n).2.2/\(a,(b,c,d,(e,f),g),h,i,j,k)=setS (a,(b,c,d,(e,f),g),h,i,j,k) (Qbs0 a b c d e f g h i j k l m n).1/\()=()/\l=l/\m=m) (ifP (! (Qbs7 a e f i).2) ((Qbs10)=(Qbs0 a b c d e f g h i j k l m n).2.1/\(5:Int)=(Qbs0 a b c d e f g h i j k l m n).2.2/\(a,(b,c,d,(Qbs7 a e f i).1,g),h,i,j,k)=setS (a,(b,c,d,(e,f),g),h,i,j,k) (Qbs0 a b c d e f g h i j k l m n).1/\()=()/\l=l/\m=m) (ifP (decide (inP a h<(d.length:Int))) (0<=inP a h/\inP
 a h<(d.length:Int)/\0<=inP a h/\inP a h<(d.length:Int)/\ ∃(p:Int) (q:List Int),∃(r:Int×Int),(Qbs14 a b c d e f g h i j k l m n p q r)/\n=n/\inP a h=inP a h/\idNext a (b,c,d,(Qbs7 a e f i).1,g) (inP a h) i k.2.1 k.2.2.2.2.2.1=ansID (a,(b,c,d,(e,f),g),h,i,j,k)/\(0:Int)=0/\(Qbs2 b c d e f g k).1.1=(Qbs2 b c d e f g k).1.1/\(Qbs2 b c d e f g k).1.2=(Qbs2 b c d e f g k).1.2/\(Qbs2 b c d e f g k).2.1=(Qbs2 b c d e f g k).2.1/\(Qbs2 b c d e f g k).2.2=(Qbs2 b c d e f g k).2.2/\wErrB (a,(b,c,d,(e,f),g),h,i,j,k) l m (adr a (inP a h)) (0:Int)=wErrB (a,(b,c,d,(e,f),g),h,i,j,k) l m (adr a (inP a h))
 (0:Int)/\l=l/\m=m/\a.1=a.1/\a.2.1=a.2.1/\a.2.2.1=a.2.2.1/\a.2.2.2.1=a.2.2.2.1/\a.2.2.2.2.1=a.2.2.2.2.1/\a.2.2.2.2.2.1=a.2.2.2.2.2.1/\a.2.2.2.2.2.2.1=a.2.2.2.2.2.2.1/\a.2.2.2.2.2.2.2.1=a.2.2.2.2.2.2.2.1/\a.2.2.2.2.2.2.2.2.1=a.2.2.2.2.2.2.2.2.1/\a.2.2.2.2.2.2.2.2.2.1=a.2.2.2.2.2.2.2.2.2.1/\a.2.2.2.2.2.2.2.2.2.2.1.1=a.2.2.2.2.2.2.2.2.2.2.1.1/\a.2.2.2.2.2.2.2.2.2.2.1.2=a.2.2.2.2.2.2.2.2.2.2.1.2/\a.2.2.2.2.2.2.2.2.2.2.2.1=a.2.2.2.2.2.2.2.2.2.2.2.1/\a.2.2.2.2.2.2.2.2.2.2.2.2.1=a.2.2.2.2.2.2.2.2.2.2.2.2.1/\a.2.2.2.2.2.2.2.2.2.2.2.2.2.1=a.2.2.2.2.2.2.2.2.2.2.2.2.2.1/\a.2.2.2.2.2.2.2.2.2.2.2.2.2.2=a.2.2.2.2.2.2.2.2.2.2.2.2.2.2/\b=sRoutes (b,c,d,(e,f),g)/\IntKind.wrap .i64 (c+(1:Int))=p/\(Qbs7 a e f i).1.1=r.1/\(Qbs7 a e f i).1.2=r.2/\g=sBalanced
 (b,c,d,(e,f),g)/\h=h/\i=i/\j=j/\k.1=k.1/\k.2.1=k.2.1/\k.2.2.1=k.2.2.1/\k.2.2.2.1=k.2.2.2.1/\k.2.2.2.2.1=k.2.2.2.2.1/\k.2.2.2.2.2.1=k.2.2.2.2.2.1/\k.2.2.2.2.2.2=k.2.2.2.2.2.2/\List.set d (Int.toNat (inP a h)) (IntKind.wrap .i64 (d.getD (Int.toNat (inP a h)) default+(1:Int)))=q/\True) (∃(p:Int) (q:List Int),∃(r:Int×Int),(Qbs14 a b c d e f g h i j k l m n p q r)/\n=n/\inP a h=inP a h/\idNext a (b,c,d,(Qbs7 a e f i).1,g) (inP a h) i k.2.1 k.2.2.2.2.2.1=ansID (a,(b,c,d,(e,f),g),h,i,j,k)/\(0:Int)=0/\(Qbs2 b c d e f g k).1.1=(Qbs2 b c d e f g k).1.1/\(Qbs2 b c d e f g k).1.2=(Qbs2 b c d e f g k).1.2/\(Qbs2 b c d e f g k).2.1=(Qbs2 b c d e f g k).2.1/\(Qbs2 b c d e f g k).2.2=(Qbs2 b c d e f g k).2.2/\wErrB (a,(b,c,d,(e,f),g),h,i,j,k) l m (adr a (inP a h)) (0:Int)=wErrB (a,(b,c,d,(e,f),g),h,i,j,k) l m (adr a (inP a h))
 (0:Int)/\l=l/\m=m/\a.1=a.1/\a.2.1=a.2.1/\a.2.2.1=a.2.2.1/\a.2.2.2.1=a.2.2.2.1/\a.2.2.2.2.1=a.2.2.2.2.1/\a.2.2.2.2.2.1=a.2.2.2.2.2.1/\a.2.2.2.2.2.2.1=a.2.2.2.2.2.2.1/\a.2.2.2.2.2.2.2.1=a.2.2.2.2.2.2.2.1/\a.2.2.2.2.2.2.2.2.1=a.2.2.2.2.2.2.2.2.1/\a.2.2.2.2.2.2.2.2.2.1=a.2.2.2.2.2.2.2.2.2.1/\a.2.2.2.2.2.2.2.2.2.2.1.1=a.2.2.2.2.2.2.2.2.2.2.1.1/\a.2.2.2.2.2.2.2.2.2.2.1.2=a.2.2.2.2.2.2.2.2.2.2.1.2/\a.2.2.2.2.2.2.2.2.2.2.2.1=a.2.2.2.2.2.2.2.2.2.2.2.1/\a.2.2.2.2.2.2.2.2.2.2.2.2.1=a.2.2.2.2.2.2.2.2.2.2.2.2.1/\a.2.2.2.2.2.2.2.2.2.2.2.2.2.1=a.2.2.2.2.2.2.2.2.2.2.2.2.2.1/\a.2.2.2.2.2.2.2.2.2.2.2.2.2.2=a.2.2.2.2.2.2.2.2.2.2.2.2.2.2/\b=sRoutes (b,c,d,(e,f),g)/\IntKind.wrap .i64 (c+(1:Int))=p/\(Qbs7 a e f i).1.1=r.1/\(Qbs7 a e f i).1.2=r.2/\g=sBalanced
 (b,c,d,(e,f),g)/\h=h/\i=i/\j=j/\k.1=k.1/\k.2.1=k.2.1/\k.2.2.1=k.2.2.1/\k.2.2.2.1=k.2.2.2.1/\k.2.2.2.2.1=k.2.2.2.2.1/\k.2.2.2.2.2.1=k.2.2.2.2.2.1/\k.2.2.2.2.2.2=k.2.2.2.2.2.2/\d=q/\True)/\ ∀(p:Int) (q:List Int) (r:Int×Int),ansV (wErrB (a,(b,c,d,(e,f),g),h,i,j,k) l m) (wErrE (a,(b,c,d,(e,f),g),h,i,j,k) l m) (a,(b,c,d,(e,f),g),h,i,j,k) n=(Qbs5 a b c d e f g h i j k l m n)/\(ansRt (a,(b,c,d,(e,f),g),h,i,j,k)).2.1≠([]:List Int)/\(sRoutes (b,c,d,(e,f),g),p,q,r,sBalanced (b,c,d,(e,f),g))=ansS (a,(b,c,d,(e,f),g),h,i,j,k)->(Qbs2 b c d e f g k).2.1≠([]:List Int)/\((List.length (wErrB (a,(b,c,d,(e,f),g),h,i,j,k) l m (adr a (inP a h)) (0:Int))):Int)<=1000000/\ifP (decide (n=0)) ((j.length:Int)<=1000000/\(pickL a (b,p,q,r,g) (Qbs2 b c d e f g k) (keyB (wErrB (a,(b,c,d,(e,f),g),h,i,j,k) l m (adr a (inP a h)) (0:Int))),wErrB (a,pickS (b,p,q,r,g) (Qbs2 b c d e f g k),h,i,j,k) l m (srcA a (inP a h)
 (pickL a (b,p,q,r,g) (Qbs2 b c d e f g k) (keyB (wErrB (a,(b,c,d,(e,f),g),h,i,j,k) l m (adr a (inP a h)) (0:Int))))) (ansID (a,(b,c,d,(e,f),g),h,i,j,k)))=(Qbs0 a b c d e f g h i j k l m n).2.1/\(2:Int)=(Qbs0 a b c d e f g h i j k l m n).2.2/\(a,pickS (b,p,q,r,g) (Qbs2 b c d e f g k),h,i,j,k)=setS (a,(b,c,d,(e,f),g),h,i,j,k) (Qbs0 a b c d e f g h i j k l m n).1/\()=()/\l=l/\m=m) ((j.length:Int)<=1000000/\(pickL a (b,p,q,r,g) (Qbs2 b c d e f g k) (keyB (wErrB (a,(b,c,d,(e,f),g),h,i,j,k) l m (adr a (inP a h)) (0:Int))),wErrB (a,pickS (b,p,q,r,g) (Qbs2 b c d e f g k),h,i,j,k) l m n (ansID (a,(b,c,d,(e,f),g),h,i,j,k)))=(Qbs0 a b c d e f g h i j k l m n).2.1/\(2:Int)=(Qbs0 a b c d e f g h i j k l m n).2.2/\(a,pickS (b,p,q,r,g) (Qbs2 b c d e f g k),h,i,j,k)=setS (a,(b,c,d,(e,f),g),h,i,j,k) (Qbs0 a b c d e f g h i j k l m n).1/\()=()/\l=l/\m=m))))):=by
  delta Qbs0 Qbs2 Qbs5 Qbs7 Qbs8 Qbs10 Qbs14
  rintro d x x1 x2 x3 x4 x5 x6 x7 x8 h ki co own-⟨hs,hl,hb⟩
  obtain ⟨w,hw⟩:∃ w:Work,w=(d,(x,x1,x2,(x3,x4),x5),x6,x7,x8,h):=⟨_,rfl⟩
  have e0:d.2.2.2.2.2.2.2.2.2.2.2.1=nSilent w.1:=by rw [hw];rfl
  have e2:wayB (x,x1,x2,(x3,x4),x5) h.2.2.2.2.2.1=wayB w.2.1 (hSrc w.2.2.2.2.2):=by rw [hw];rfl
  have e3:bTake d.2.2.2.2.2.2.2.2.2.2.1 (x3,x4) x7=takeV w:=by rw [hw];rfl
  rw [e0,e2,e3,← hw]
  have fin:=fun {s o y}=>finV (r:=ansV (wErrB w ki co) (wErrE w ki co) w own) (s:=s) (o:=o) (y:=y) w
  intro b hb0
  (repeat refine ⟨(by first|(simp;done)|(rw [hb0];simp;done)|(cases b <;> simp)),?_⟩)
  have hq:(bif b then nSilent w.1 else false)=true↔own=0/\nSilent w.1=true:=by rw [hb0];by_cases k:own=0 <;> simp [k]
  refine ifP_split (fun h0 => ?_) (fun h0 => ?_)
  · obtain ⟨f1,f2,f3⟩:=fin (ansV_sil (hq.1 h0))
    exact ⟨f1,f2,by rw [← f3,hw];rfl,rfl,rfl,rfl⟩
  have h0:¬ (own=0/\nSilent w.1=true):=fun k=>by rw [hq.2 k] at h0;cases h0
  refine ⟨hb,ifP_split (fun h1 => ?_) (fun h1 => ?_)⟩
  · obtain ⟨f1,f2,f3⟩:=fin (ansV_bad h0 (by simpa using h1))
    exact ⟨f1,f2,by rw [← f3,hw];rfl,rfl,rfl,rfl⟩
  have h1:¬ (wErrE w ki co) 0≠0:=by simpa using h1
  refine ⟨hs,hl,ifP_split (fun h2 => ?_) (fun h2 => ?_)⟩
  · obtain ⟨f1,f2,f3⟩:=fin (ansV_rt h0 h1 (by simpa using h2))
    exact ⟨f1,f2,by rw [← f3,hw];rfl,rfl,rfl,rfl⟩
  have h2:¬ wayB w.2.1 (hSrc w.2.2.2.2.2)=false:=by simpa using h2
  refine ifP_split (fun h3 => ?_) (fun h3=>⟨?_,?_⟩)
  · obtain ⟨f1,f2,f3⟩:=fin (ansV_lim h0 h1 h2 (by simpa using h3))
    exact ⟨f1,f2,by rw [← f3,hw];rfl,rfl,rfl,rfl⟩
  · have h3:¬ (takeV w).2=false:=by simpa using h3
    have eg:=ansV_go (B:=wErrB w ki co) h0 h1 h2 h3
    have hne:(ansRt w).2.1≠[]:=way_ne h2
    have hin:=inP_nn d x6
    have hID:idNext d (x,x1,x2,(takeV w).1,x5) (inP d x6) x7 h.2.1 h.2.2.2.2.2.1=ansID w:=by rw [← e3,hw];rfl
    have hS:ansS w=(x,IntKind.i64.wrap (x1+1),bump x2 (inP d x6),(takeV w).1,x5):=by rw [← e3,hw];rfl
    refine ifP_split (fun h4 => ?_) (fun h4 => ?_)
    · have h4:=of_decide_eq_true h4
      refine ⟨hin,h4,hin,h4,_,_,_,⟨eg,hne,?_⟩,rfl,rfl,hID,(by repeat' first|exact trivial|refine ⟨trivial,?_⟩|refine ⟨(by with_reducible rfl),?_⟩|refine ⟨w64 (by omega) (by omega),?_⟩|refine ⟨rfl,?_⟩)⟩
      rw [hS,bump_in h4];rfl
    · have h4:=of_decide_eq_false h4
      refine ⟨_,_,_,⟨eg,hne,?_⟩,rfl,rfl,hID,(by repeat' first|exact trivial|refine ⟨trivial,?_⟩|refine ⟨(by with_reducible rfl),?_⟩|refine ⟨w64 (by omega) (by omega),?_⟩|refine ⟨rfl,?_⟩)⟩
      rw [hS,bump_out h4];rfl
  · rintro k l t ⟨eg,hne,hS⟩
    have e4:lookR (sRoutes (x,x1,x2,(x3,x4),x5)) h.2.2.2.2.2.1=ansRt w:=by rw [hw];rfl
    have e5:(x,k,l,t,x5)=ansS w:=hS
    have e6:pickL d (ansS w) (ansRt w) (keyB ((wErrB w ki co) (adr d (inP d x6)) 0))=ansL (wErrB w ki co) w:=by rw [hw];rfl
    rw [e4,e5,e6]
    obtain ⟨f1,f2,f3⟩:=fin eg
    have hlen:=wErrB_len w ki co (adr d (inP d x6)) 0
    refine ⟨hne,by omega,ifP_split (fun h4 => ?_) (fun h4 => ?_)⟩
    · have h4:=of_decide_eq_true h4
      refine ⟨hb,?_,f2,by rw [← f3,hw];rfl,rfl,rfl,rfl⟩
      rw [← f1];unfold ansF;rw [if_pos h4,hw];rfl
    · have h4:=of_decide_eq_false h4
      refine ⟨hb,?_,f2,by rw [← f3,hw];rfl,rfl,rfl,rfl⟩
      rw [← f1];unfold ansF;rw [if_neg h4,hw];rfl
theorem ok_AnsErr:SpecOK Tryz.prog GL 156 ct_AnsErr.spec:=Ct.okH _ Tryz.func156 (by kernel_rfl) (withSpec_ok (withSpec_ok (withSpec_ok (withSpec_ok (withSpec_ok (withSpec_ok (withSpec_ok (withSpec_ok noSpecs_ok ok_node_work_incoming) ok_node_work_address) ok_node_work_errors_1) ok_node_work_route) ok_bucket_Take) ok_identifier_Next) ok_node_work_choose) ok_node_work_source) hmix an_AnsErr (hideMp (by kernel_rfl) vc_AnsErr)
def ct_node_work_receive:Ct:=⟨[.box 127 oWork],[.agg cOut,.val cI],fun d=>[okW d.1],fun d=>(((recvV d.1).2.1,(recvV d.1).2.2,()),(setS d.1 (recvV d.1).1,()))⟩
def an_node_work_receive:PDs ct_node_work_receive.ps->Anns:=(fun _=>{})
def Qbs15 (a:Node) (b:List Route) (c:Int) (d:List Int) (e f g h i:Int) (j:List Int) (k:Header) :=
 ansV (wHostB (a,(b,c,d,(e,f),g),h,i,j,k)) (wHostE (a,(b,c,d,(e,f),g),h,i,j,k)) (a,(b,c,d,(e,f),g),h,i,j,k) k.2.2.2.2.2.2
def Qbs16 (a:Node) (b:List Route) (c:Int) (d:List Int) (e f g h i:Int) (j:List Int) (k:Header) :=
 ansV (wHostB (a,(b,c,d,(e,f),g),h,i,j,k)) (wHostE (a,(b,c,d,(e,f),g),h,i,j,k)) (a,(b,c,d,(e,f),g),h,i,j,k) (0:Int)
theorem vc_node_work_receive :
 ∀(a:Node) (b:List Route) (c:Int) (d:List Int) (e f g h i:Int) (j:List Int) (k:Header),(Qbs3 a b c d e f g h i j k)/\True->(Qbs8 b c d e f g j)->(j.length:Int)<=1000000/\ ∀(l:Bool),l=decide (h= -1)->((! l)->((! l)->(! l))/\True)/\(l=false->(! l))/\ifP (bif l then true else ! decide (wHostE (a,(b,c,d,(e,f),g),h,i,j,k) (0:Int)=0)) ((Qbs10)=(recvV (a,(b,c,d,(e,f),g),h,i,j,k)).2.1/\(1:Int)=(recvV (a,(b,c,d,(e,f),g),h,i,j,k)).2.2/\(a,(b,c,d,(e,f),g),h,i,j,k)=setS (a,(b,c,d,(e,f),g),h,i,j,k) (recvV (a,(b,c,d,(e,f),g),h,i,j,k)).1) (ifP (decide (k.2.2.2.1=17)) (okW (a,(b,c,d,(e,f),g),h,i,j,k)/\(Qbs16 a b c d e f g h i j k).2.1=(recvV (a,(b,c,d,(e,f),g),h,i,j,k)).2.1/\(Qbs16 a b c d e f g h i j k).2.2=(recvV (a,(b,c,d,(e,f),g),h,i,j,k)).2.2/\(a,(Qbs16 a b c d e f g h i j k).1,h,i,j,k)=setS (a,(b,c,d,(e,f),g),h,i,j,k) (recvV (a,(b,c,d,(e,f),g),h,i,j,k)).1) (okW (a,(b,c,d,(e,f),g),h,i,j,k)/\(Qbs15 a
 b c d e f g h i j k).2.1=(recvV (a,(b,c,d,(e,f),g),h,i,j,k)).2.1/\(Qbs15 a b c d e f g h i j k).2.2=(recvV (a,(b,c,d,(e,f),g),h,i,j,k)).2.2/\(a,(Qbs15 a b c d e f g h i j k).1,h,i,j,k)=setS (a,(b,c,d,(e,f),g),h,i,j,k) (recvV (a,(b,c,d,(e,f),g),h,i,j,k)).1)):=by
  delta Qbs3 Qbs8 Qbs10 Qbs15 Qbs16
  rintro d x x1 x2 x3 x4 x5 x6 x7 x8 h-⟨hs,hl,hb⟩
  obtain ⟨w,hw⟩:∃ w:Work,w=(d,(x,x1,x2,(x3,x4),x5),x6,x7,x8,h):=⟨_,rfl⟩
  rw [← hw]
  have fin:=fun {s o y}=>finV (r:=recvV w) (s:=s) (o:=o) (y:=y) w
  have e0:w.2.2.1=x6:=by rw [hw]
  have e1:h=w.2.2.2.2.2:=by rw [hw]
  have okw:okW w:=by rw [hw];exact ⟨hs,hl,hb⟩
  refine ⟨hb,?_⟩
  (repeat (intro (b_:Bool) (hb_:b_=_);(repeat refine ⟨(by first|(simp;done)|(rw [hb_];simp;done)|(rw [hb_];simp;omega)|(rw [hb_];simp;intros;omega)|(rw [hb_];simp +contextual;done)),?_⟩);subst hb_))
  refine ifP_or (fun ho => ?_) (fun h1 h2 => ?_)
  · obtain ⟨f1,f2,f3⟩:=fin (s:=w.2.1) (o:=out0) (y:=1) (by unfold recvV;rw [if_pos];rcases ho with q|q;left;rw [e0];exact of_decide_eq_true q;right;simpa using q)
    exact ⟨f1,f2,by rw [← f3,hw];rfl⟩
  have hn:¬ (w.2.2.1 = -1∨wHostE w 0≠0):=by
    rintro (q|q)
    · rw [e0] at q;exact of_decide_eq_false h1 q
    · apply q;simpa using h2
  have er:recvV w=ansV (wHostB w) (wHostE w) w (if h.2.2.2.1=17 then 0 else h.2.2.2.2.2.2):=by unfold recvV;rw [if_neg hn,e1];rfl
  rw [er]
  refine ifP_split (fun h3 => ?_) (fun h3 => ?_)
  · rw [if_pos (of_decide_eq_true h3)]
    exact ⟨okw,rfl,rfl,by rw [hw];rfl⟩
  · rw [if_neg (of_decide_eq_false h3)]
    exact ⟨okw,rfl,rfl,by rw [hw];rfl⟩
theorem ok_node_work_receive:SpecOK Tryz.prog GL 106 ct_node_work_receive.spec:=Ct.okH _ Tryz.func106 (by kernel_rfl) (withSpec_ok (withSpec_ok noSpecs_ok ok_node_work_receive_1) ok_AnsHost) hmix an_node_work_receive (hideMp (by kernel_rfl) vc_node_work_receive)
def ct_node_work_forward:Ct:=⟨[.box 127 oWork],[.agg cOut,.val cI],fun d=>[okW d.1],fun d=>(((fwdV d.1).2.1,(fwdV d.1).2.2,()),(setS d.1 (fwdV d.1).1,()))⟩
def an_node_work_forward:PDs ct_node_work_forward.ps->Anns:=(fun _=>{})
def Qbs11 (a:Node) (b:List Route) (c:Int) (d:List Int) (e f g h i:Int) (j:List Int) (k:Header) :=
 ansV (wErrB (a,(b,c,d,(e,f),g),h,i,j,k) (11:Int) (0:Int)) (wErrE (a,(b,c,d,(e,f),g),h,i,j,k) (11:Int) (0:Int)) (a,(b,c,d,(e,f),g),h,i,j,k) (0:Int)
def Qbs12 (a:Node) (b:List Route) (c:Int) (d:List Int) (e f g h i:Int) (j:List Int) (k:Header) :=
 ansV (wErrB (a,(b,c,d,(e,f),g),h,i,j,k) (3:Int) (0:Int)) (wErrE (a,(b,c,d,(e,f),g),h,i,j,k) (3:Int) (0:Int)) (a,(b,c,d,(e,f),g),h,i,j,k) (0:Int)
def Qbs20 (a:Node) (b:List Route) (c:Int) (d:List Int) (e f g h i:Int) (j:List Int) (k:Header) :=
 (0:Int)=(fwdV (a,(b,c,d,(e,f),g),h,i,j,k)).2.2/\(a,pickS (b,c,d,(e,f),g) (lookR (sRoutes (b,c,d,(e,f),g)) k.2.2.2.2.2.2),h,i,j,k)=setS (a,(b,c,d,(e,f),g),h,i,j,k) (fwdV (a,(b,c,d,(e,f),g),h,i,j,k)).1
theorem vc_node_work_forward :
 ∀(a:Node) (b:List Route) (c:Int) (d:List Int) (e f g h i:Int) (j:List Int) (k:Header),(Qbs3 a b c d e f g h i j k)/\True->(Qbs8 b c d e f g j)-> ∀(l:Bool),l= ! decide (h= -1)->(l->(l->l)/\True)/\(l->(l->l)/\True)/\(l->(l->l)/\True)/\(l->(l->l)/\True)/\(l->(l->l)/\True)/\(l->l)/\ ∀(m:Bool),(m=bif l then ! a.2.2.2.2.2.2.2.2.2.2.2.2.1 else false)->(m->(m->m)/\True)/\(m->(m->m)/\True)/\(m->(m->m)/\True)/\(m->(m->m)/\True)/\(m->(m->m)/\True)/\(m->m)/\ifP (bif m then decide (k.2.2.1<2) else false) (okW (a,(b,c,d,(e,f),g),h,i,j,k)/\(Qbs11 a b c d e f g h i j k).2.1=(fwdV (a,(b,c,d,(e,f),g),h,i,j,k)).2.1/\(Qbs11 a b c d e f g h i j k).2.2=(fwdV (a,(b,c,d,(e,f),g),h,i,j,k)).2.2/\(a,(Qbs11 a b c d e f g h i j k).1,h,i,j,k)=setS (a,(b,c,d,(e,f),g),h,i,j,k) (fwdV (a,(b,c,d,(e,f),g),h,i,j,k)).1) (sortedR (sRoutes (b,c,d,(e,f),g))/\okL (sRoutes (b,c,d,(e,f),g))/\ ∀(n:Bool),n= ! wayB (b,c,d,(e,f),g)
 k.2.2.2.2.2.2->(n->n)/\ifP (bif n then decide (h= -1) else false) ((Qbs10)=(fwdV (a,(b,c,d,(e,f),g),h,i,j,k)).2.1/\(8:Int)=(fwdV (a,(b,c,d,(e,f),g),h,i,j,k)).2.2/\(a,(b,c,d,(e,f),g),h,i,j,k)=setS (a,(b,c,d,(e,f),g),h,i,j,k) (fwdV (a,(b,c,d,(e,f),g),h,i,j,k)).1) (ifP (! wayB (b,c,d,(e,f),g) k.2.2.2.2.2.2) (okW (a,(b,c,d,(e,f),g),h,i,j,k)/\(Qbs12 a b c d e f g h i j k).2.1=(fwdV (a,(b,c,d,(e,f),g),h,i,j,k)).2.1/\(Qbs12 a b c d e f g h i j k).2.2=(fwdV (a,(b,c,d,(e,f),g),h,i,j,k)).2.2/\(a,(Qbs12 a b c d e f g h i j k).1,h,i,j,k)=setS (a,(b,c,d,(e,f),g),h,i,j,k) (fwdV (a,(b,c,d,(e,f),g),h,i,j,k)).1) ((lookR (sRoutes (b,c,d,(e,f),g)) k.2.2.2.2.2.2).2.1≠([]:List Int)/\(j.length:Int)<=1000000/\j=j/\j=j/\(j.length:Int)<=1099511627776/\ ∀(o:Bool),o= ! decide (h= -1)->(o->(o->o)/\True)/\(o->(o->o)/\True)/\(o->(o->o)/\True)/\(o->(o->o)/\True)/\(o->(o->o)/\True)/\(o->o)/\ifP (bif o then !
 a.2.2.2.2.2.2.2.2.2.2.2.2.1 else false) ((j.length:Int)<=1099511627776/\(pickL a (b,c,d,(e,f),g) (lookR (sRoutes (b,c,d,(e,f),g)) k.2.2.2.2.2.2) (keyB j),lowB j)=(fwdV (a,(b,c,d,(e,f),g),h,i,j,k)).2.1/\(Qbs20 a b c d e f g h i j k)) ((pickL a (b,c,d,(e,f),g) (lookR (sRoutes (b,c,d,(e,f),g)) k.2.2.2.2.2.2) (keyB j),j)=(fwdV (a,(b,c,d,(e,f),g),h,i,j,k)).2.1/\(Qbs20 a b c d e f g h i j k))))):=by
  delta Qbs3 Qbs8 Qbs10 Qbs11 Qbs12 Qbs20
  rintro d x x1 x2 x3 x4 x5 x6 x7 x8 h-⟨hs,hl,hb⟩
  obtain ⟨w,hw⟩:∃ w:Work,w=(d,(x,x1,x2,(x3,x4),x5),x6,x7,x8,h):=⟨_,rfl⟩
  have e0:d.2.2.2.2.2.2.2.2.2.2.2.2.1=nOpaque w.1:=by rw [hw];rfl
  have e2:wayB (x,x1,x2,(x3,x4),x5) h.2.2.2.2.2.2=wayB w.2.1 (hDst w.2.2.2.2.2):=by rw [hw];rfl
  have e3:x6=w.2.2.1:=by rw [hw]
  have e4:h.2.2.1=hTTL w.2.2.2.2.2:=by rw [hw];rfl
  have e5:lookR (sRoutes (x,x1,x2,(x3,x4),x5)) h.2.2.2.2.2.2=lookR (sRoutes w.2.1) (hDst w.2.2.2.2.2):=by rw [hw];rfl
  have okw:okW w:=by rw [hw];exact ⟨hs,hl,hb⟩
  have fin:=fun {s o y}=>finV (r:=fwdV w) (s:=s) (o:=o) (y:=y) w
  rw [← hw,e0,e2,e4,e5]
  intro b hb0
  (repeat refine ⟨(by first|(simp;done)|(rw [hb0];simp;done)|(cases b <;> simp)),?_⟩)
  intro b1 hb1
  (repeat refine ⟨(by first|(simp;done)|(rw [hb1];simp;done)|(cases b1 <;> simp)|(cases b <;> cases b1 <;> simp)),?_⟩)
  have h1b:b1=true↔w.2.2.1 ≠ -1/\nOpaque w.1=false:=by rw [hb1,hb0,e3];by_cases k:w.2.2.1 = -1 <;> cases nOpaque w.1 <;> simp [k]
  have hq:(bif b1 then decide (hTTL w.2.2.2.2.2<2) else false)=true↔w.2.2.1 ≠ -1/\nOpaque w.1=false/\hTTL w.2.2.2.2.2<2:=by
    rw [← and_assoc,← h1b];cases b1 <;> simp
  refine ifP_split (fun k1 => ?_) (fun k1 => ?_)
  · have e:fwdV w=ansV (wErrB w 11 0) (wErrE w 11 0) w 0:=by unfold fwdV;rw [if_pos (hq.1 k1)]
    rw [e]
    exact ⟨okw,rfl,rfl,by rw [hw];rfl⟩
  have k1:¬ (w.2.2.1 ≠ -1/\nOpaque w.1=false/\hTTL w.2.2.2.2.2<2):=fun k=>by rw [hq.2 k] at k1;cases k1
  refine ⟨hs,hl,?_⟩
  intro c hc
  (repeat refine ⟨(by first|(simp;done)|(rw [hc];simp;done)|(cases c <;> simp)),?_⟩)
  refine ifP_split (fun k2 => ?_) (fun k2 => ?_)
  · have q:wayB w.2.1 (hDst w.2.2.2.2.2)=false/\w.2.2.1 = -1:=by
      rw [hc,e3] at k2
      cases hh:wayB w.2.1 (hDst w.2.2.2.2.2) with
      | true=>rw [hh] at k2;simp at k2
      | false=>rw [hh] at k2;exact ⟨rfl,by simpa using k2⟩
    obtain ⟨f1,f2,f3⟩:=fin (s:=w.2.1) (o:=out0) (y:=8) (by unfold fwdV;rw [if_neg k1,if_pos q.1,if_pos q.2])
    exact ⟨f1,f2,by rw [← f3,hw];rfl⟩
  refine ifP_split (fun k3 => ?_) (fun k3 => ?_)
  · have k3:wayB w.2.1 (hDst w.2.2.2.2.2)=false:=by simpa using k3
    have q:¬ w.2.2.1 = -1:=fun q=>by rw [hc,k3,e3,q] at k2;simp at k2
    have e:fwdV w=ansV (wErrB w 3 0) (wErrE w 3 0) w 0:=by unfold fwdV;rw [if_neg k1,if_pos k3,if_neg q]
    rw [e]
    exact ⟨okw,rfl,rfl,by rw [hw];rfl⟩
  have k3:¬ wayB w.2.1 (hDst w.2.2.2.2.2)=false:=by simpa using k3
  refine ⟨way_ne k3,hb,?_⟩
  clear h1b hq
  (repeat refine ⟨(by first|(with_reducible rfl)|trivial|omega),?_⟩)
  intro b' hb0'
  (repeat refine ⟨(by first|(simp;done)|(rw [hb0'];simp;done)|(cases b' <;> simp)),?_⟩)
  have hq:(bif b' then !nOpaque w.1 else false)=true↔w.2.2.1 ≠ -1/\nOpaque w.1=false:=by rw [hb0',e3];by_cases k:w.2.2.1 = -1 <;> cases nOpaque w.1 <;> simp [k]
  have e:fwdV w=(pickS w.2.1 (lookR (sRoutes w.2.1) (hDst w.2.2.2.2.2)),(pickL w.1 w.2.1 (lookR (sRoutes w.2.1) (hDst w.2.2.2.2.2)) (keyB w.2.2.2.2.1),if w.2.2.1 ≠ -1/\nOpaque w.1=false then lowB w.2.2.2.2.1 else w.2.2.2.2.1),0):=by unfold fwdV;rw [if_neg k1,if_neg k3]
  obtain ⟨f1,f2,f3⟩:=fin e
  refine ifP_split (fun k4 => ?_) (fun k4 => ?_)
  · refine ⟨by omega,?_,f2,by rw [← f3,hw];rfl⟩
    rw [← f1,if_pos (hq.1 k4),hw]
  · refine ⟨?_,f2,by rw [← f3,hw];rfl⟩
    rw [← f1,if_neg (fun k=>by rw [hq.2 k] at k4;cases k4),hw]
theorem ok_node_work_forward:SpecOK Tryz.prog GL 107 ct_node_work_forward.spec:=Ct.okH _ Tryz.func107 (by kernel_rfl) (withSpec_ok (withSpec_ok (withSpec_ok (withSpec_ok (withSpec_ok (withSpec_ok noSpecs_ok ok_node_work_errors) ok_AnsErr) ok_node_work_route) ok_node_work_choose) ok_ipv4_Lower) ok_slices_Clone_b979) hmix an_node_work_forward (hideMp (by kernel_rfl) vc_node_work_forward)
def ct_node_work_handle:Ct:=⟨[.box 127 oWork],[.agg cOut,.val cI],fun d=>[okW d.1],fun d=>(((hdV d.1).2.1,(hdV d.1).2.2,()),((d.1.1,(hdV d.1).1,d.1.2.2.1,d.1.2.2.2.1,d.1.2.2.2.2.1,(decPkt d.1.2.2.2.2.1).1),()))⟩
def an_node_work_handle:PDs ct_node_work_handle.ps->Anns:=(fun _=>{})
theorem vc_node_work_handle :
 ∀(a:Node) (b:List Route) (c:Int) (d:List Int) (e f g h i:Int) (j:List Int) (k:Header),(Qbs3 a b c d e f g h i j k)/\True->(Qbs8 b c d e f g j)->(j.length:Int)<=1099511627776/\ifP (! decide (decErr j=0)) ((Qbs10)=(hdV (a,(b,c,d,(e,f),g),h,i,j,k)).2.1/\(6:Int)=(hdV (a,(b,c,d,(e,f),g),h,i,j,k)).2.2/\(a,(b,c,d,(e,f),g),h,i,j,(decPkt j).1)=(a,(hdV (a,(b,c,d,(e,f),g),h,i,j,k)).1,h,i,j,(decPkt j).1)) (ifP (ownsA a (decPkt j).1.2.2.2.2.2.2) (okW (a,(b,c,d,(e,f),g),h,i,j,(decPkt j).1)/\(recvV (a,(b,c,d,(e,f),g),h,i,j,(decPkt j).1)).2.1=(hdV (a,(b,c,d,(e,f),g),h,i,j,k)).2.1/\(recvV (a,(b,c,d,(e,f),g),h,i,j,(decPkt j).1)).2.2=(hdV (a,(b,c,d,(e,f),g),h,i,j,k)).2.2/\(a,(recvV (a,(b,c,d,(e,f),g),h,i,j,(decPkt j).1)).1,h,i,j,(decPkt j).1)=(a,(hdV (a,(b,c,d,(e,f),g),h,i,j,k)).1,h,i,j,(decPkt j).1))
 (∀(l:Bool),l=a.2.2.2.1->(l->(l->l)/\True)/\(l->(l->l)/\True)/\(l->(l->l)/\True)/\(l->(l->l)/\True)/\(l->l)/\ifP (bif l then ! decide (h= -1) else false) ((Qbs10)=(hdV (a,(b,c,d,(e,f),g),h,i,j,k)).2.1/\(6:Int)=(hdV (a,(b,c,d,(e,f),g),h,i,j,k)).2.2/\(a,(b,c,d,(e,f),g),h,i,j,(decPkt j).1)=(a,(hdV (a,(b,c,d,(e,f),g),h,i,j,k)).1,h,i,j,(decPkt j).1)) (okW (a,(b,c,d,(e,f),g),h,i,j,(decPkt j).1)/\(fwdV (a,(b,c,d,(e,f),g),h,i,j,(decPkt j).1)).2.1=(hdV (a,(b,c,d,(e,f),g),h,i,j,k)).2.1/\(fwdV (a,(b,c,d,(e,f),g),h,i,j,(decPkt j).1)).2.2=(hdV (a,(b,c,d,(e,f),g),h,i,j,k)).2.2/\(a,(fwdV (a,(b,c,d,(e,f),g),h,i,j,(decPkt j).1)).1,h,i,j,(decPkt j).1)=(a,(hdV (a,(b,c,d,(e,f),g),h,i,j,k)).1,h,i,j,(decPkt j).1)))):=by
  delta Qbs3 Qbs8 Qbs10
  rintro d x x1 x2 x3 x4 x5 x6 x7 x8 h-⟨hs,hl,hb⟩
  refine ⟨by omega,ifP_split (fun h1 => ?_) (fun h1 => ?_)⟩
  · have e:hdV (d,(x,x1,x2,(x3,x4),x5),x6,x7,x8,h)=((x,x1,x2,(x3,x4),x5),out0,6):=by unfold hdV;rw [if_pos (by simpa using h1)]
    rw [e];exact ⟨rfl,rfl,rfl⟩
  have h1:¬ decErr x8≠0:=by simpa using h1
  refine ifP_split (fun h2 => ?_) (fun h2 => ?_)
  · have e:hdV (d,(x,x1,x2,(x3,x4),x5),x6,x7,x8,h)=recvV (d,(x,x1,x2,(x3,x4),x5),x6,x7,x8,(decPkt x8).1):=by unfold hdV;rw [if_neg h1];exact if_pos h2
    rw [e];exact ⟨⟨hs,hl,hb⟩,rfl,rfl,rfl⟩
  have h2:¬ ownsA d (hDst (decPkt x8).1)=true:=by show ¬ ownsA d (decPkt x8).1.2.2.2.2.2.2=true;rw [h2];simp
  intro b hb0
  (repeat refine ⟨(by first|(simp;done)|(rw [hb0];simp;done)|(cases b <;> simp)),?_⟩)
  have hq:(bif b then !decide (x6 = -1) else false)=true↔nHost d=true/\x6 ≠ -1:=by rw [hb0];show (bif d.2.2.2.1 then _ else _)=true↔d.2.2.2.1=true/\_;cases d.2.2.2.1 <;> simp
  refine ifP_split (fun h3 => ?_) (fun h3 => ?_)
  · have e:hdV (d,(x,x1,x2,(x3,x4),x5),x6,x7,x8,h)=((x,x1,x2,(x3,x4),x5),out0,6):=by unfold hdV;rw [if_neg h1,if_neg h2];exact if_pos (hq.1 h3)
    rw [e];exact ⟨rfl,rfl,rfl⟩
  · have e:hdV (d,(x,x1,x2,(x3,x4),x5),x6,x7,x8,h)=fwdV (d,(x,x1,x2,(x3,x4),x5),x6,x7,x8,(decPkt x8).1):=by unfold hdV;rw [if_neg h1,if_neg h2];exact if_neg (fun k=>by rw [hq.2 k] at h3;cases h3)
    rw [e];exact ⟨⟨hs,hl,hb⟩,rfl,rfl,rfl⟩
theorem ok_node_work_handle:SpecOK Tryz.prog GL 67 ct_node_work_handle.spec:=Ct.okH _ Tryz.func67 (by kernel_rfl) (withSpec_ok (withSpec_ok (withSpec_ok (withSpec_ok noSpecs_ok ok_ipv4_Decode) ok_node_Owns) ok_node_work_receive) ok_node_work_forward) hmix an_node_work_handle (hideMp (by kernel_rfl) vc_node_work_handle)
def ct_CloneRtN:Ct:=⟨[.val (.sl cRt)],[.own 87 cRt],fun d=>[(d.1.length:Int)<=134217728],fun d=>((d.1,()),())⟩
def an_CloneRtN:PDs ct_CloneRtN.ps->Anns:=(fun _=>{})
theorem vc_CloneRtN :
 ∀(a:List Route),(a.length<=maxLen/\ ∀(b:Route),b∈a->((0<=b.1.1/\b.1.1<=4294967295)/\R64 b.1.2)/\(b.2.1.length<=maxLen/\ ∀(c:Int),c∈b.2.1->R64 c)/\R64 b.2.2)/\True->(a.length:Int)<=134217728-> ∀(b:Bool),(b=true->a.length=(0:Nat))->ifP b (([]:List Route)=a) (((0:Nat)+a.length)*(48:Nat)<=(140737488355328:Nat)/\a=a):=by
  rintro x ⟨⟨hl,-⟩,-⟩ h b hb
  refine ifP_split (fun h1 => ?_) (fun h1=>⟨by omega,by simp⟩)
  have:=hb h1
  exact (List.eq_nil_of_length_eq_zero this).symm
theorem ok_CloneRtN:SpecOK Tryz.prog GL 105 ct_CloneRtN.spec:=Ct.okH _ Tryz.func105 (by kernel_rfl) noSpecs_ok hmix an_CloneRtN (hideMp (by kernel_rfl) vc_CloneRtN)
end Go.RS

/- Netd: networks as the laws draw them: exact. -/
namespace Go.RS
open Go.SX Go.Proofs
set_option maxRecDepth 100000
set_option linter.unusedVariables false
abbrev cLink:CT := .pair cI (.pair cI (.pair cI (.pair cI (.pair cI cI))))
abbrev cChange:CT := .pair cI (.pair cI (.pair .bool cRt))
abbrev cNet:CT := .pair (.sl cNode) (.pair (.sl cLink) (.sl cChange))
abbrev Link:Type:=Int×Int×Int×Int×Int×Int
abbrev Change:Type:=Int×Int×Bool×Rt
abbrev Net:Type:=List Node×List Link×List Change
abbrev Codes:Type:=List Int×Int
abbrev Port:Type:=Int×Int
def lA (l:Link):Int:=l.1
def lB (l:Link):Int:=l.2.1
def lDelay (l:Link):Int:=l.2.2.1
def lJitter (l:Link):Int:=l.2.2.2.1
def lLoss (l:Link):Int:=l.2.2.2.2.1
def lSeed (l:Link):Int:=l.2.2.2.2.2
theorem getD_setne {α:Type} [Inhabited α] {l:List α} {i j:Nat} {a:α} (h:i≠j):(l.set i a).getD j default=l.getD j default:=by
  rw [List.getD_eq_getElem?_getD,List.getD_eq_getElem?_getD,List.getElem?_set_ne h]
def codeAt (c:Codes):Int:=c.1.getD c.2.toNat default
def next1 (c:Codes) (n:Int):Int×Codes:=if (c.1.length:Int)<=c.2∨n<1 then (0,c) else ((codeAt c).tmod n,(c.1,c.2+1))
def nextV (c:Codes) (n:Int):Int×Codes :=
  if (c.1.length:Int)<=c.2∨n<1 then (0,c)
  else if 256<n then ((256*codeAt c+(next1 (c.1,c.2+1) 256).1).tmod n,(next1 (c.1,c.2+1) 256).2)
  else ((codeAt c).tmod n,(c.1,c.2+1))
structure okB (c:Codes):Prop where
  at':okC c
  b:∀ x∈c.1,0<=x/\x<=255
theorem okB.code {c:Codes} (h:okB c) (hb:¬ (c.1.length:Int)<=c.2):0<=codeAt c/\codeAt c<=255:=h.b _ (getD_mem h.at'.1 (by omega))
theorem next1_ok {c:Codes} (h:okB c) (n:Int):okB (next1 c n).2/\0<=(next1 c n).1/\((next1 c n).1<n∨(next1 c n).1=0):=by
  unfold next1
  split
  · exact ⟨h,by simp,.inr rfl⟩
  · rename_i hb
    have hc:=h.code (by omega)
    have ha:=h.at'
    exact ⟨⟨⟨by have:=ha.1;show 0<=c.2+1;omega,by show c.2+1<=(c.1.length:Int);omega⟩,h.b⟩,tmod_lo hc.1,.inl (tmod_hi hc.1 (by omega))⟩
theorem nextV_ok {c:Codes} (h:okB c) (n:Int):okB (nextV c n).2/\0<=(nextV c n).1/\((nextV c n).1<n∨(nextV c n).1=0):=by
  unfold nextV
  split
  · exact ⟨h,by simp,.inr rfl⟩
  · rename_i hb
    have hc:=h.code (by omega)
    have ha:=h.at'
    have h1:okB (c.1,c.2+1):=⟨⟨by have:=ha.1;show 0<=c.2+1;omega,by show c.2+1<=(c.1.length:Int);omega⟩,h.b⟩
    split
    · have k:=next1_ok h1 256
      exact ⟨k.1,tmod_lo (by omega),.inl (tmod_hi (by omega) (by omega))⟩
    · exact ⟨h1,tmod_lo hc.1,.inl (tmod_hi hc.1 (by omega))⟩
theorem nextV_lt {c:Codes} (h:okB c) {n:Int} (hn:0<n):0<=(nextV c n).1/\(nextV c n).1<n:=by
  have:=nextV_ok h n;omega
def newNode (i:Int) (host:Bool) (f sd:Int):Node:=([],0,1+i/3,host,[],1,0,0,0,0,(0,0),false,false,f,sd)
abbrev Scene:Type:=Net×Codes
def nodeS (s:Scene) (host:Bool):Scene :=
  ((s.1.1++[newNode s.1.1.length host (([64,255,128]:List Int).getD (nextV s.2 3).1.toNat default) (nextV (nextV s.2 3).2 256).1],s.1.2),(nextV (nextV s.2 3).2 256).2)
def addPort (ns:List Node) (x:Int) (p:Port):List Node:=ns.set x.toNat ((ns.getD x.toNat default).1++[p],(ns.getD x.toNat default).2)
def baseA (l:Int):Int:=167837696+4*l
def linkS (s:Scene) (a b:Int):Scene :=
  ((addPort (addPort s.1.1 a (baseA s.1.2.1.length+1,s.1.2.1.length)) b (baseA s.1.2.1.length+2,s.1.2.1.length),
    s.1.2.1++[(a,b,1+(nextV s.2 20).1,0,0,(nextV (nextV s.2 20).2 256).1)],s.1.2.2),(nextV (nextV s.2 20).2 256).2)
def insN (k:Int):List Int->List Int
  | []=>[k]
  | x::r=>if k<x then k::x::r else x::insN k r
theorem insN_none {k:Int}:∀ {l:List Int},(∀ x∈l,¬ k<x)->insN k l=l++[k]
  | [],_=>rfl
  | x::r,h=>by rw [insN,if_neg (h x List.mem_cons_self),insN_none fun y hy=>h y (List.mem_cons_of_mem _ hy)];rfl
theorem insN_some {k:Int} {m:List Int}:∀ {l:List Int},(∃ x∈l,k<x)->insN k (l++m)=insN k l++m
  | [],h=>by obtain ⟨x,hx,-⟩:=h;cases hx
  | y::r,h=>by
    rw [List.cons_append,insN,insN]
    by_cases hy:k<y
    · rw [if_pos hy,if_pos hy];rfl
    · rw [if_neg hy,if_neg hy,insN_some (l:=r)];rfl
      obtain ⟨x,hx,hk⟩:=h
      rcases List.mem_cons.1 hx with rfl|hx
      · exact absurd hk hy
      · exact ⟨x,hx,hk⟩
theorem insN_new {k x:Int}:∀ {l:List Int},(∀ y∈l,¬ k<y)->k<x->insN k (l++[x])=l++[k]++[x]
  | [],_,h=>by rw [List.nil_append,insN,if_pos h];rfl
  | y::r,h,hk=>by rw [List.cons_append,insN,if_neg (h y List.mem_cons_self),insN_new (fun z hz=>h z (List.mem_cons_of_mem _ hz)) hk];rfl
theorem insN_len (k:Int):∀ l:List Int,(insN k l).length=l.length+1
  | []=>rfl
  | x::r=>by rw [insN];split <;> simp [insN_len k r]
def rFind (l:List Rt) (p:Pfx):Nat:=l.findIdx fun r=>decide (r.1=p)
def setRoutes (x:Node) (l:List Rt):Node:=(x.1,x.2.1,x.2.2.1,x.2.2.2.1,l,x.2.2.2.2.2)
def routeL (l:List Rt) (p:Pfx) (k way:Int):List Rt :=
  if rFind l p<l.length then
    if k∈(l.getD (rFind l p) default).2.1 then l else putL l (p,insN k (l.getD (rFind l p) default).2.1,(l.getD (rFind l p) default).2.2)
  else putL l (p,[k],way)
def routeN (ns:List Node) (n:Int) (p:Pfx) (k way:Int):List Node:=ns.set n.toNat (setRoutes (ns.getD n.toNat default) (routeL (nRoutes (ns.getD n.toNat default)) p k way))
def relax (d:List Int) (l:Link):List Int :=
  (d.set (lA l).toNat (min (d.getD (lA l).toNat default) (d.getD (lB l).toNat default+1))).set (lB l).toNat (min (d.getD (lB l).toNat default) (d.getD (lA l).toNat default+1))
def distL (nn:Nat) (ls:List Link) (to:Int):List Int:=(List.range nn).foldl (fun d _=>ls.foldl relax d) ((List.replicate nn (1000:Int)).set to.toNat 0)
def stepE (d:List Int) (to:Int) (p:Pfx) (plain:Bool) (k way:Int) (ns:List Node) (a b:Int):List Node :=
  if d.getD a.toNat default≠d.getD b.toNat default+1∨(b≠to/\nHost (ns.getD b.toNat default)=true) then ns
  else if plain=true/\hasL (nRoutes (ns.getD a.toNat default)) p=true then ns else routeN ns a p k way
def stepK (ls:List Link) (d:List Int) (to:Int) (p:Pfx) (plain:Bool) (way:Int) (ns:List Node) (k:Nat):List Node :=
  stepE d to p plain k way (stepE d to p plain k way ns (lA (ls.getD k default)) (lB (ls.getD k default))) (lB (ls.getD k default)) (lA (ls.getD k default))
def stepP (ls:List Link) (d:List Int) (to:Int) (plain:Bool) (way:Int) (ns:List Node) (q:Port):List Node :=
  (List.range ls.length).foldl (stepK ls d to (q.1,32) plain way) ns
def wayC (c:Codes):Int×Codes:=if 1+(nextV c 3).1=3 then (if 0<(nextV (nextV c 3).2 3).1 then 1 else 3,(nextV (nextV c 3).2 3).2) else (1+(nextV c 3).1,(nextV c 3).2)
def stepT (ls:List Link) (plain:Bool) (s:List Node×Codes) (to:Nat):List Node×Codes :=
  ((nPorts (s.1.getD to default)).foldl (stepP ls (distL s.1.length ls to) to plain (wayC s.2).1) s.1,(wayC s.2).2)
def routesS (s:Scene) (plain:Bool):Scene :=
  let r:=(List.range s.1.1.length).foldl (stepT s.1.2.1 plain) (s.1.1,s.2)
  ((r.1,s.1.2),r.2)
def odSilent (x:Node):Node:=(x.1,x.2.1,x.2.2.1,x.2.2.2.1,x.2.2.2.2.1,x.2.2.2.2.2.1,x.2.2.2.2.2.2.1,x.2.2.2.2.2.2.2.1,x.2.2.2.2.2.2.2.2.1,x.2.2.2.2.2.2.2.2.2.1,x.2.2.2.2.2.2.2.2.2.2.1,true,x.2.2.2.2.2.2.2.2.2.2.2.2)
def odLimit (x:Node) (b:Int×Int):Node:=(x.1,x.2.1,x.2.2.1,x.2.2.2.1,x.2.2.2.2.1,x.2.2.2.2.2.1,x.2.2.2.2.2.2.1,x.2.2.2.2.2.2.2.1,x.2.2.2.2.2.2.2.2.1,x.2.2.2.2.2.2.2.2.2.1,b,x.2.2.2.2.2.2.2.2.2.2.2)
def odOpaque (x:Node) (b:Bool):Node:=(x.1,x.2.1,x.2.2.1,x.2.2.2.1,x.2.2.2.2.1,x.2.2.2.2.2.1,x.2.2.2.2.2.2.1,x.2.2.2.2.2.2.2.1,x.2.2.2.2.2.2.2.2.1,x.2.2.2.2.2.2.2.2.2.1,x.2.2.2.2.2.2.2.2.2.2.1,x.2.2.2.2.2.2.2.2.2.2.2.1,b,x.2.2.2.2.2.2.2.2.2.2.2.2.2)
def odSource (x:Node) (s:Int):Node:=(x.1,x.2.1,x.2.2.1,x.2.2.2.1,x.2.2.2.2.1,s,x.2.2.2.2.2.2)
def odLoop (x:Node) (a s:Int):Node:=(x.1,a,x.2.2.1,x.2.2.2.1,x.2.2.2.2.1,s,x.2.2.2.2.2.2)
def odFixed (x:Node) (a s:Int):Node:=(x.1,x.2.1,x.2.2.1,x.2.2.2.1,x.2.2.2.2.1,s,a,x.2.2.2.2.2.2.2)
def odIds (x:Node) (i b s:Int):Node:=(x.1,x.2.1,x.2.2.1,x.2.2.2.1,x.2.2.2.2.1,x.2.2.2.2.2.1,x.2.2.2.2.2.2.1,i,b,s,x.2.2.2.2.2.2.2.2.2.2)
def odWay (x:Node) (i:Int) (c:Codes):Node×Codes :=
  let a:=nextV c 10
  if a.1=1 then (odSilent x,a.2)
  else if a.1=2 then (odLimit x (1+(nextV a.2 3).1,1+(nextV (nextV a.2 3).2 200).1),(nextV (nextV a.2 3).2 200).2)
  else if a.1=3 then (odOpaque x (!nHost x&&decide (i%2=1)),a.2)
  else if a.1=4 then (odSource x 2,a.2)
  else if a.1=5 then (odLoop x (167903232+i) 3,a.2)
  else if a.1=6 then (odFixed x (167837696+(nextV a.2 40).1) 4,(nextV a.2 40).2)
  else (x,a.2)
def odNode (x:Node) (i:Int) (c:Codes):Node×Codes :=
  let y:=odWay x i c
  (odIds y.1 (nextV y.2 6).1 (nextV (nextV y.2 6).2 65536).1 (nextV (nextV (nextV y.2 6).2 65536).2 1000).1,(nextV (nextV (nextV y.2 6).2 65536).2 1000).2)
def odNodes (s:List Node×Codes) (i:Nat):List Node×Codes:=(s.1.set i (odNode (s.1.getD i default) i s.2).1,(odNode (s.1.getD i default) i s.2).2)
def odLink (l:Link) (c:Codes):Link×Codes :=
  let a:=nextV c 6
  if a.1=1 then ((l.1,l.2.1,l.2.2.1,(nextV a.2 10).1,l.2.2.2.2),(nextV a.2 10).2)
  else if a.1=2 then ((l.1,l.2.1,l.2.2.1,l.2.2.2.1,([65536,20000,3]:List Int).getD (nextV a.2 3).1.toNat default,l.2.2.2.2.2),(nextV a.2 3).2)
  else (l,a.2)
def odClear (ns:List Node) (l:Link):List Node :=
  if nOpaque (ns.getD (lA l).toNat default)=true/\nOpaque (ns.getD (lB l).toNat default)=true then ns.set (lB l).toNat (odOpaque (ns.getD (lB l).toNat default) false) else ns
def odLinks (s:(List Node×List Link)×Codes) (i:Nat):(List Node×List Link)×Codes :=
  let r:=odLink (s.1.2.getD i default) s.2
  ((odClear s.1.1 r.1,s.1.2.set i r.1),r.2)
def odChange (ns:List Node) (s:List Change×Int×Codes):List Change×Int×Codes :=
  let a:=nextV s.2.2 60
  let at':=s.2.1+a.1
  let w:=nextV a.2 ns.length
  let x:=ns.getD w.1.toNat default
  if (nRoutes x).length=0 then (s.1,at',w.2)
  else
    let r:=nextV w.2 (nRoutes x).length
    let p:=nextV r.2 (nPorts x).length
    let z:=nextV p.2 4
    let rt:=(nRoutes x).getD r.1.toNat default
    (s.1++[(at',w.1,false,(rt.1,if z.1=3 then [] else [((nPorts x).getD p.1.toNat default).2],rt.2.2))],at',z.2)
def oddS (s:Scene):Scene :=
  let n:=(List.range s.1.1.length).foldl odNodes (s.1.1,s.2)
  let l:=(List.range s.1.2.1.length).foldl odLinks ((n.1,s.1.2.1),n.2)
  let k:=nextV l.2 4
  let h:=(List.range k.1.toNat).foldl (fun s _=>odChange l.1.1 s) ([],0,k.2)
  ((l.1.1,l.1.2,h.1),h.2.2)
def chainS (s:Scene) (k:Nat):Scene:=linkS (nodeS s false) k (k+1)
def shortS (n:Int) (s:Scene):Scene :=
  let a:=nextV s.2 n
  let b:=nextV a.2 n
  if a.1=b.1 then (s.1,b.2) else linkS (s.1,b.2) (1+a.1) (1+b.1)
def lineS (c:Codes):Int×Scene :=
  let a:=nodeS (([],[],[]),c) true
  let m:=nextV a.2 5
  let s:=(List.range (1+m.1).toNat).foldl chainS (a.1,m.2)
  (1+m.1,linkS (nodeS s true) (1+m.1) (1+m.1+1))
def moreS (plain:Bool) (n:Int) (s:Scene):Scene :=
  let k:=nextV s.2 4
  let s1:=if 1<n/\plain=false then (List.range k.1.toNat).foldl (fun s _=>shortS n s) (s.1,k.2) else (s.1,k.2)
  if plain=true/\2<n then
    if (nextV s1.2 2).1=1 then linkS (s1.1,(nextV (nextV s1.2 2).2 (n-1)).2) (1+(nextV (nextV s1.2 2).2 (n-1)).1) n else (s1.1,(nextV s1.2 2).2)
  else s1
def netS (plain:Bool) (c:Codes):Scene :=
  let s:=routesS (moreS plain (lineS c).1 (lineS c).2) plain
  if plain then s else oddS s
def netV (plain:Bool) (c:Codes):Net:=(netS plain c).1
def netC (plain:Bool) (c:Codes):Codes:=(netS plain c).2
end Go.RS

/- Topo: networks: their errors and their parts. -/
namespace Go.RS
open Go.SX Go.Proofs
set_option maxRecDepth 100000
set_option linter.unusedVariables false
def adrs (x:Node):List Int:=pAddrs x++(if nLoop x=0 then [] else [nLoop x])
def otherV (ls:List Link) (k x:Int):Int:=if k<0∨(ls.length:Int)<=k then -1 else if x=lA (ls.getD k.toNat default) then lB (ls.getD k.toNat default) else if x=lB (ls.getD k.toNat default) then lA (ls.getD k.toNat default) else -1
def deafL (ns:List Node) (l:Link):Bool:=nOpaque (ns.getD (lA l).toNat default)&&nOpaque (ns.getD (lB l).toNat default)
def loose (n:Net) (k:Nat):Bool:=decide (portL (n.1.getD (lA (n.2.1.getD k default)).toNat default) k<0)||decide (portL (n.1.getD (lB (n.2.1.getD k default)).toNat default) k<0)
end Go.RS

/- Topod: what the errors of networks, their parts and their routes at a time are: plain. -/
namespace Go.RS
open Go.SX Go.Proofs
set_option maxRecDepth 100000
set_option linter.unusedVariables false
theorem chk_is {links:List Int}:∀ {l:List Rt} {q:Option Pfx},chk links q l=0->sortedR l/\(∀ p,q=some p→∀ r∈l,plt p r.1)∧∀ r∈l,pValid r.1=true/\rightR r links
  | [],q,_=>⟨List.Pairwise.nil,fun _ _ r hr=>(by cases hr),fun r hr=>(by cases hr)⟩
  | r::l,q,h=>by
    rw [chk] at h
    split at h
    · cases h
    rename_i h1
    split at h
    · cases h
    rename_i h2
    split at h
    · cases h
    rename_i h3
    obtain ⟨i1,i2,i3⟩:=chk_is h
    have hv:pValid r.1=true:=by cases hh:pValid r.1 <;> simp_all
    have hp:∀ p,q=some p->plt p r.1:=fun p hp=>by
      subst hp
      rw [Option.any_some] at h2
      have:¬ (0<=pcmp p r.1):=by simpa using h2
      exact pcmp_neg.1 (by omega)
    refine ⟨List.pairwise_cons.2 ⟨i2 _ rfl,i1⟩,fun p e z hz => ?_,fun z hz => ?_⟩
    · rcases List.mem_cons.1 hz with rfl|hz
      · exact hp p e
      · exact plt_trans (hp p e) (i2 _ rfl z hz)
    · rcases List.mem_cons.1 hz with rfl|hz
      · exact ⟨hv,Classical.byContradiction h3⟩
      · exact i3 z hz
theorem check_is {l:List Rt} {links:List Int} (h:check l links=0):sortedR l/\l.length<=64∧∀ r∈l,pValid r.1=true/\rightR r links:=by
  unfold check at h
  split at h
  · cases h
  · rename_i hl
    have k:=chk_is h
    exact ⟨k.1,by omega,k.2.2⟩
theorem check_okL {l:List Rt} {links:List Int} (h:check l links=0):sortedR l/\okL l:=by
  obtain ⟨h1,h2,h3⟩:=check_is h
  exact ⟨h1,by omega,fun r hr=>by have:=(h3 r hr).2.1.1;omega⟩
def hAt (c:Change):Int:=c.1
def hWho (c:Change):Int:=c.2.1
def hRem (c:Change):Bool:=c.2.2.1
def hRoute (c:Change):Rt:=c.2.2.2
def chV (l:List Rt) (c:Change):List Rt:=if hRem c=true then removeL l (hRoute c).1 else putL l (hRoute c)
theorem getD_memN {α:Type} [Inhabited α] {xs:List α} {i:Nat} (h:i<xs.length):xs.getD i default∈xs:=by
  have:=getD_mem (xs:=xs) (i:=(i:Nat)) (by omega) (by omega)
  simpa using this
def stepC (who at':Int) (l:List Rt) (c:Change):List Rt:=if hWho c=who/\hAt c<=at' then chV l c else l
def routesK (n:Net) (who at':Int) (k:Int):List Rt:=(n.2.2.take k.toNat).foldl (stepC who at') (nRoutes (n.1.getD who.toNat default))
def routesV (n:Net) (who at':Int):List Rt:=if who<0∨(n.1.length:Int)<=who then [] else routesK n who at' n.2.2.length
structure okTb (m:Nat) (l:List Rt):Prop where
  s:sortedR l
  n:l.length<=m
  x:∀ r∈l,(r.2.1.length:Int)<=1099511627776
theorem okTb.okL {m:Nat} {l:List Rt} (h:okTb m l) (hm:m<=100000):okL l:=⟨by have:=h.n;omega,h.x⟩
end Go.RS
