/- Law13: what a node does with several packets; a packet that is an answer or damaged is never answered. -/
import Derived.Test.YtfgcoeablgoccaaGreatDoorLaw12
namespace Go.RS
open Go.SX Go.Proofs
set_option maxRecDepth 100000
set_option linter.unusedVariables false
def simpleV:Node:=([(167772161,0),(167837697,1)],0,0,false,[((0,0),[1],1),((167772160,24),[0],1)],1,0,0,0,0,(0,0),false,false,64,0)
def simpleP:Probe:=(167772169,167903232,17,0,0,1)
theorem simple_ok:nodeV simpleV=0:=by decide +kernel
theorem simple_does:(handleV simpleV (startV simpleV) 0 5 (build simpleP)).2.2=2/\(handleV simpleV (startV simpleV) 0 5 (build simpleP)).2.1.1=0/\(handleV simpleV (startV simpleV) 0 5 (build simpleP)).2.1.2.length=56/\sSent (handleV simpleV (startV simpleV) 0 5 (build simpleP)).1=1:=by decide +kernel
def ct_law13_simple:Ct:=⟨[],[.agg cNode],fun _=>[],fun _=>((simpleV,()),())⟩
def an_law13_simple:PDs ct_law13_simple.ps->Anns:=(fun _=>{})
def Qcg4 :=
 (((0:Int),(0:Int)),[(1:Int)],(1:Int))
def Qcg7 :=
 ((167837697:Int),(1:Int))
def Qcg6 :=
 ((167772161:Int),(0:Int))
def Qcg3 :=
 (((167772160:Int),(24:Int)),[(0:Int)],(1:Int))
theorem vc_law13_simple :
 True->True->([(Qcg6),(Qcg7)],(0:Int),(0:Int),false,[(Qcg4),(Qcg3)],(1:Int),(0:Int),(0:Int),(0:Int),(0:Int),((0:Int),(0:Int)),false,false,(64:Int),(0:Int))=simpleV:=by
  delta Qcg3 Qcg4 Qcg6 Qcg7
  intro _ _;rfl
theorem ok_law13_simple:SpecOK Tryz.prog GL 30 ct_law13_simple.spec:=Ct.okH _ Tryz.func30 (by kernel_rfl) noSpecs_ok hmix an_law13_simple (hideMp (by kernel_rfl) vc_law13_simple)
def ct_law13_awake:Ct:=⟨[],[.val .bool],fun _=>[],fun _=>((true,()),())⟩
def an_law13_awake:PDs ct_law13_awake.ps->Anns:=(fun _=>{})
theorem vc_law13_awake :
 True->True-> ∀(a:Node),a=simpleV-> ∀(b:List Int) (c:Int),b=build ((167772169:Int),(167903232:Int),(17:Int),(0:Int),(0:Int),(1:Int))/\c=probeErr ((167772169:Int),(167903232:Int),(17:Int),(0:Int),(0:Int),(1:Int))-> ∀(d:Int),d=nodeV a->ifP (! decide (d=0)) (false=true) (okL (nRoutes a)/\((List.length (nPorts a)):Int)<=1000000/\ ∀(e:List Route) (f:Int) (g:List Int) (h i j:Int),(e,f,g,(h,i),j)=startV a->sortedR (sRoutes (e,f,g,(h,i),j))/\okL (sRoutes (e,f,g,(h,i),j))/\((List.length (sPortSent (e,f,g,(h,i),j))):Int)<=1000000/\(b.length:Int)<=1000000/\ ∀(k:List Route) (l:Int) (m:List Int) (n o p q:Int) (r:List Int) (s:Int),(k,l,m,(n,o),p)=(handleV a (e,f,g,(h,i),j) (0:Int) (5:Int) b).1/\(q,r)=(handleV a (e,f,g,(h,i),j) (0:Int) (5:Int) b).2.1/\s=(handleV a (e,f,g,(h,i),j) (0:Int) (5:Int) b).2.2-> ∀(t:Bool),t=decide (s=2)->(t->(t->t)/\True)/\(t->(t->t)/\True)/\(t->t)/\ ∀(u:Bool),(u=bif t then
 decide (q=0) else false)->(u->(u->u)/\True)/\(u->(u->u)/\True)/\(u->(u->u)/\True)/\(u->u)/\ ∀(v:Bool),(v=bif u then decide ((r.length:Int)=56) else false)->(v->(v->v)/\True)/\(v->(v->v)/\True)/\(v->v)/\(bif v then decide (l=1) else false)=true):=by
  rintro - - d hd b e ⟨rfl,-⟩ k rfl
  rw [hd]
  refine ifP_split (fun h => ?_) (fun h => ?_)
  · rw [simple_ok] at h;simp at h
  have hst:=start_ok (nodeV_ok simple_ok)
  refine ⟨(check_okL (nodeV_ok simple_ok).rt).2,by decide,?_⟩
  rintro x3 x4 x5 x6 x7 x8 h8
  rw [h8]
  refine ⟨hst.srt,hst.okl,by decide,by have:=build_len simpleP;show ((build simpleP).length:Int)<=1000000;omega,?_⟩
  rintro y1 y2 y3 y4 y5 y6 z1 z2 z3 ⟨q1,q2,q3⟩
  obtain ⟨d1,d2,d3,d4⟩:=simple_does
  have q3:z3=2:=q3.trans d1
  have q2a:z1=0:=(congrArg Prod.fst q2).trans d2
  have q2b:z2.length=56:=(congrArg List.length (congrArg Prod.snd q2)).trans d3
  have q4:y2=1:=(congrArg (fun s:NState=>s.2.1) q1).trans d4
  subst q3 q2a q4
  have q5:(z2.length:Int)=56:=by omega
  intro b1 hb1
  (repeat refine ⟨(by first|(simp;done)|(rw [hb1];simp;done)|(cases b1 <;> simp)),?_⟩)
  intro b2 hb2
  (repeat refine ⟨(by first|(simp;done)|(rw [hb2];simp;done)|(cases b2 <;> simp)),?_⟩)
  intro b3 hb3
  (repeat refine ⟨(by first|(simp;done)|(rw [hb3];simp;done)|(cases b3 <;> simp)),?_⟩)
  rw [hb3,hb2,hb1]
  simp [q5]
theorem ok_law13_awake:SpecOK Tryz.prog GL 9 ct_law13_awake.spec:=Ct.okH _ Tryz.func9 (by kernel_rfl) (withSpec_ok (withSpec_ok (withSpec_ok (withSpec_ok (withSpec_ok noSpecs_ok (Ct.named ok_law13_simple)) (Ct.named ok_ref07_Build)) (Ct.named ok_node_Check)) (Ct.named ok_node_Start)) (Ct.named ok_node_Handle)) hmix an_law13_awake (hideMp (by kernel_rfl) vc_law13_awake)
def ct_BuildD:Ct:=⟨[.agg cProbe],[.val (.sl cU8),.val cI],fun d=>[],fun d=>((build d.1,probeErr d.1,()),())⟩
def an_BuildD:PDs ct_BuildD.ps->Anns:=(fun _=>{})
theorem vc_BuildD :
 ∀(a b c d e f:Int),((0<=a/\a<=4294967295)/\(0<=b/\b<=4294967295)/\R64 c/\R64 d/\R64 e/\R64 f)/\True->True->ifP (! decide (probeErr (a,b,c,d,e,f)=0)) (([]:List Int)=build (a,b,c,d,e,f)/\probeErr (a,b,c,d,e,f)=probeErr (a,b,c,d,e,f)) (probeErr (a,b,c,d,e,f)=0/\((List.length (conP (a,b,c,d,e,f))):Int)<=1073741824/\ipEnc (((0:Int),e,f,c,true,a,b),conP (a,b,c,d,e,f))=build (a,b,c,d,e,f)/\ipErr (((0:Int),e,f,c,true,a,b),conP (a,b,c,d,e,f))=probeErr (a,b,c,d,e,f)):=by
  rintro s d pr f t l - -
  refine ifP_split (fun h => ?_) (fun h => ?_)
  · have h:¬ probeErr (s,d,pr,f,t,l)=0:=by simpa using h
    rw [build,if_neg h];exact ⟨rfl,rfl⟩
  have h:probeErr (s,d,pr,f,t,l)=0:=by simpa using h
  have e0:=ipErr0 h
  have hl:=con_len h
  refine ⟨h,by omega,?_⟩
  rw [build,if_pos h,h]
  exact ⟨rfl,e0⟩
theorem ok_BuildD:SpecOK Tryz.prog GL 29 ct_BuildD.spec:=Ct.okH _ Tryz.func29 (by kernel_rfl) (withSpec_ok (withSpec_ok (withSpec_ok noSpecs_ok ok_ref07_Check) ok_ref07_data) ok_ref05_Encode) hmix an_BuildD (hideMp (by kernel_rfl) vc_BuildD)
def TokStep (x:Node) (s s':NState) (t why:Int):Prop :=
  sRoutes s'=sRoutes s/\(sPortSent s').length=(sPortSent s).length ∧
    ((why≠2/\sSent s'=sSent s/\(sTokens s'=sTokens s∨(sTokens s'=(bTake (nLimit x) (sTokens s) t).1/\(bTake (nLimit x) (sTokens s) t).2=false))) ∨
      (why=2/\sSent s'=IntKind.i64.wrap (sSent s+1)/\sTokens s'=(bTake (nLimit x) (sTokens s) t).1/\(bTake (nLimit x) (sTokens s) t).2=true))
theorem tok_same {x:Node} {s:NState} {t why:Int} (h:why≠2):TokStep x s s t why:=⟨rfl,rfl,.inl ⟨h,rfl,.inl rfl⟩⟩
theorem bump_len (l:List Int) (i:Int):(bump l i).length=l.length:=by
  unfold bump;split
  · exact List.length_set
  · rfl
theorem ansV_tok {B:Int->Int->List Int} {F:Int->Int} {w:Work} {own:Int}:TokStep w.1 w.2.1 (ansV B F w own).1 w.2.2.2.1 (ansV B F w own).2.2:=by
  by_cases k:own=0/\nSilent w.1=true
  · rw [ansV_sil k];exact tok_same (by show (4:Int)≠2;decide)
  by_cases k1:F 0≠0
  · rw [ansV_bad k k1];exact tok_same (by show (6:Int)≠2;decide)
  by_cases k2:wayB w.2.1 (hSrc w.2.2.2.2.2)=false
  · rw [ansV_rt k k1 k2];exact tok_same (by show (8:Int)≠2;decide)
  by_cases k3:(takeV w).2=false
  · rw [ansV_lim k k1 k2 k3];exact ⟨rfl,rfl,.inl ⟨(by show (5:Int)≠2;decide),rfl,.inr ⟨rfl,k3⟩⟩⟩
  · rw [ansV_go k k1 k2 k3]
    have k4:(takeV w).2=true:=by simpa using k3
    refine ⟨?_,?_,.inr ⟨rfl,?_,?_,k4⟩⟩
    · rw [pickS_eq];rfl
    · rw [pickS_eq];exact bump_len _ _
    · rw [pickS_eq];rfl
    · rw [pickS_eq];rfl
theorem handleV_tok (x:Node) (s:NState) (lk t:Int) (b:List Int):TokStep x s (handleV x s lk t b).1 t (handleV x s lk t b).2.2:=by
  unfold handleV hdV
  split
  · exact tok_same (by show (6:Int)≠2;decide)
  split
  · unfold recvV
    split
    · exact tok_same (by show (1:Int)≠2;decide)
    · exact ansV_tok (w:=setH (x,s,lk,t,b,hdr0) (decPkt b).1)
  split
  · exact tok_same (by show (6:Int)≠2;decide)
  unfold fwdV
  split
  · exact ansV_tok (w:=setH (x,s,lk,t,b,hdr0) (decPkt b).1)
  split
  · split
    · exact tok_same (by show (8:Int)≠2;decide)
    · exact ansV_tok (w:=setH (x,s,lk,t,b,hdr0) (decPkt b).1)
  · refine ⟨?_,?_,.inl ⟨(by show (0:Int)≠2;decide),?_,.inl ?_⟩⟩ <;> (rw [pickS_eq];rfl)
def nInv (b:Int×Int) (a:Int) (t:Int×Int) (us:List Int) (j:Int):Prop :=
  (okBk b/\b≠(0,0))/\(0<=j/\j<=20)/\(us.length:Int)<=j/\(0<=t.2/\t.2<=a/\a<=120*j)/\(∀ x∈us,x<=t.2)/\uOK b us ∧
    0<=t.1/\t.1<=b.1*b.2∧∀ i (h:i<us.length),t.1+((us.length:Int)-i)*b.2<=b.1*b.2+(t.2-us[i])
theorem nInv_keep {b:Int×Int} {a:Int} {t:Int×Int} {us:List Int} {j d:Int} (h:nInv b a t us j) (hj:j<20) (hd:0<=d/\d<=120):nInv b (a+d) t us (j+1):=by
  obtain ⟨h1,h2,h3,h4,h5,h6,h7,h8,h9⟩:=h
  exact ⟨h1,by omega,by omega,by omega,h5,h6,h7,h8,h9⟩
theorem nInv_fail {b:Int×Int} {a:Int} {t:Int×Int} {us:List Int} {j d:Int} (h:nInv b a t us j) (hj:j<20) (hd:0<=d/\d<=120) (hf:(bTake b t a).2=false):nInv b (a+d) (bTake b t a).1 us (j+1):=by
  obtain ⟨⟨h1,hne⟩,h2,h3,h4,h5,h6,h7,h8,h9⟩:=h
  have hcap:=okB_cap h1 hne
  have e:=bTake_in (t:=t) (x:=a) h1 hne h7 (by omega) (by omega) (by omega) (by omega)
  by_cases hlt:min (t.1+(a-t.2)) (b.1*b.2)<b.2
  · rw [if_pos hlt] at e
    rw [e]
    refine ⟨⟨h1,hne⟩,by omega,by omega,⟨by show 0<=a;omega,by show a<=a+d;omega,by omega⟩,fun y hy => ?_,h6,?_,?_,fun i hi => ?_⟩
    · have:=h5 y hy;show y<=a;omega
    · show 0<=min (t.1+(a-t.2)) (b.1*b.2);omega
    · show min (t.1+(a-t.2)) (b.1*b.2)<=_;omega
    · have:=h9 i hi
      show min (t.1+(a-t.2)) (b.1*b.2)+_<=b.1*b.2+(a-_)
      omega
  · rw [if_neg hlt] at e
    rw [e] at hf;cases hf
theorem nInv_take {b:Int×Int} {a:Int} {t:Int×Int} {us:List Int} {j d:Int} (h:nInv b a t us j) (hj:j<20) (hd:0<=d/\d<=120) (hf:(bTake b t a).2=true):nInv b (a+d) (bTake b t a).1 (us++[a]) (j+1):=by
  obtain ⟨⟨h1,hne⟩,h2,h3,h4,h5,h6,h7,h8,h9⟩:=h
  have hcap:=okB_cap h1 hne
  have e:=bTake_in (t:=t) (x:=a) h1 hne h7 (by omega) (by omega) (by omega) (by omega)
  by_cases hlt:min (t.1+(a-t.2)) (b.1*b.2)<b.2
  · rw [if_pos hlt] at e
    rw [e] at hf;cases hf
  · rw [if_neg hlt] at e
    rw [e]
    obtain ⟨p1,p2⟩:=uOK_push (x:=a) h6 (by omega) (by omega) h5 (by omega) (by omega) (by omega) h9
    refine ⟨⟨h1,hne⟩,by omega,by rw [List.length_append,List.length_singleton];omega,⟨by show 0<=a;omega,by show a<=a+d;omega,by omega⟩,fun y hy => ?_,p1,?_,?_,p2⟩
    · rcases List.mem_append.1 hy with hy|hy
      · have:=h5 y hy;show y<=a;omega
      · have:y=a:=by simpa using hy
        show y<=a;omega
    · show 0<=min (t.1+(a-t.2)) (b.1*b.2)-b.2;omega
    · show min (t.1+(a-t.2)) (b.1*b.2)-b.2<=_;omega
def limV (b:Int×Int) (q:Bool):Node:=([(167772161,0),(167837697,1)],0,0,false,[((0,0),[1],1),((167772160,24),[0],1)],1,0,0,0,0,b,q,false,64,0)
def lpLimits:LPs:=[(false,.sl cU8),(false,cU8),(false,cU8)]
def ct_law13_NodeLimits:Ct:=lawCt lpLimits
def an_law13_NodeLimits:PDs ct_law13_NodeLimits.ps->Anns:=(fun d=>{loops:=(fun n=>match n with|11=>some (fun S=>{ι:=Int×Int×(List Int)×NState×(List Int×Int),qn:=⟨fun k_=>∀ (a:Int) (j:Int) (us:(List Int)) (s:NState) (c:(List Int×Int)),k_ (a,j,us,s,c),fun k_ h_ i=>h_ i.1 i.2.1 i.2.2.1 i.2.2.2.1 i.2.2.2.2,fun k_=>∃ (a:Int) (j:Int) (us:(List Int)) (s:NState) (c:(List Int×Int)),k_ (a,j,us,s,c),fun k_ ⟨a,j,us,s,c,h_⟩=>⟨_,h_⟩⟩,μ:=fun i=>(20-i.2.1).toNat,inv:=fun i=>nInv (nLimit (S.c cNode 144)) i.1 (sTokens i.2.2.2.1) i.2.2.1 i.2.1/\okC i.2.2.2.2/\sSent i.2.2.2.1=i.2.2.1.length/\sRoutes i.2.2.2.1=nRoutes simpleV/\(sPortSent i.2.2.2.1).length=2,keep:=[7,8,9],slots:=fun i=>[(10,.int .i64 i.1),(11,.own 524288 1),(12,.int .i64 i.2.1)],keepN:=[144],names:=fun i=>[(160,.live (.cells 51 (flat cState i.2.2.2.1))),(400,.live (.cells 96 (flat cCodes i.2.2.2.2))),(524288,.live (.row 3 cI i.2.2.1))]})|21=>some (fun S=>{ι:=Int,μ:=fun i=>((S.o cI 11).length-i).toNat,inv:=fun i=>0<=i/\i<=(S.o cI 11).length,keep:=[8,9,11],slots:=fun i=>[(19,.int .i64 i)],keepN:=[144,160,524288],names:=fun i=>[]})|24=>some (fun S=>{ι:=Int,μ:=fun i=>((S.o cI 11).length-i).toNat,inv:=fun i=>S.i 19<=i/\i<=(S.o cI 11).length,keep:=[8,9,11,19],slots:=fun i=>[(20,.int .i64 i)],keepN:=[144,160,524288],names:=fun i=>[]})|_=>none)})
def Qcg5 (c:Int) :=
 (1:Int)+IntKind.wrap .i64 c
def Qcg2 (b:Int) :=
 (1:Int)+Int.tmod (IntKind.wrap .i64 b) (4:Int)
def Qcg0 (b c d:Int) :=
 ([(Qcg6),(Qcg7)],(0:Int),(0:Int),false,[(Qcg4),(Qcg3)],(1:Int),(0:Int),(0:Int),(0:Int),(0:Int),(IntKind.wrap .i64 (Qcg2 b),IntKind.wrap .i64 (Qcg5 c)),decide (d=7),false,(64:Int),(0:Int))
def Qcg1 (b c d:Int) (i:List Int) (j:NState) :=
 [(Qcg6),(Qcg7)]=[(Qcg6),(Qcg7)]/\(0:Int)=0/\(0:Int)=0/\false=false/\[(Qcg4),(Qcg3)]=[(Qcg4),(Qcg3)]/\(1:Int)=1/\(0:Int)=0/\(0:Int)=0/\(0:Int)=0/\(0:Int)=0/\IntKind.wrap .i64 (Qcg2 b)=IntKind.wrap .i64 (Qcg2 b)/\IntKind.wrap .i64 (Qcg5 c)=IntKind.wrap .i64 (Qcg5 c)/\decide (d=7)=decide (d=7)/\false=false/\(64:Int)=64/\(0:Int)=0/\j.1=j.1/\j.2.1=j.2.1/\j.2.2.1=j.2.2.1/\j.2.2.2.1.1=j.2.2.2.1.1/\j.2.2.2.1.2=j.2.2.2.1.2/\j.2.2.2.2=j.2.2.2.2/\i=i/\True
def Qcg8 (h l o r:Int) :=
 ((167772169:Int),List.getD [(167903232:Int),(167772161:Int)] l.toNat default,o,(0:Int),h,IntKind.wrap .i64 ((1:Int)+r))
def Qcg9 (i:List Int) :=
 (i.length:Int)
theorem vc_law13_NodeLimits :
 ∀(a:List Int) (b c:Int),(a.length<=maxLen/\ ∀(d:Int),d∈a->0<=d/\d<=255)/\(0<=b/\b<=255)/\(0<=c/\c<=255)/\True->True->(0:Int)<=200/\(4:Int)≠(0:Int)/\okC (if (a.length:Int)<=200 then a else List.take (Int.toNat (200:Int)) a,(0:Int))/\ ∀(d:Int) (e:List Int) (f:Int),0<=d/\(d<8∨d=0)/\okC (e,f)->okL (nRoutes (Qcg0 b c d))/\((List.length (nPorts (Qcg0 b c d))):Int)<=1000000/\(∃(g:Int) (h:Int),∃(i:List Int) (j:NState),∃(k:List Int×Int),(nInv (nLimit (Qcg0 b c d)) g (sTokens j) i h/\okC k/\sSent j=(Qcg9 i)/\sRoutes j=nRoutes simpleV/\List.length (sPortSent j)=(2:Nat))/\(0:Int)=g/\(0:Int)=h/\[(Qcg6),(Qcg7)]=[(Qcg6),(Qcg7)]/\(0:Int)=0/\(0:Int)=0/\false=false/\[(Qcg4),(Qcg3)]=[(Qcg4),(Qcg3)]/\(1:Int)=1/\(0:Int)=0/\(0:Int)=0/\(0:Int)=0/\(0:Int)=0/\IntKind.wrap .i64 (Qcg2 b)=IntKind.wrap .i64 (Qcg2 b)/\IntKind.wrap .i64 (Qcg5 c)=IntKind.wrap .i64 (Qcg5 c)/\decide (d=7)=decide
 (d=7)/\false=false/\(64:Int)=64/\(0:Int)=0/\nRoutes (Qcg0 b c d)=j.1/\(0:Int)=j.2.1/\List.replicate (List.length (nPorts (Qcg0 b c d))) (0:Int)=j.2.2.1/\w (IntKind.wrap .i64 (Qcg2 b)*IntKind.wrap .i64 (Qcg5 c))=j.2.2.2.1.1/\(0:Int)=j.2.2.2.1.2/\(0:Int)=j.2.2.2.2/\e=k.1/\f=k.2/\i=([]:List Int)/\True)/\ ∀(g h:Int) (i:List Int) (j:NState) (k:List Int×Int),nInv (nLimit (Qcg0 b c d)) g (sTokens j) i h/\okC k/\sSent j=(Qcg9 i)/\sRoutes j=nRoutes simpleV/\List.length (sPortSent j)=(2:Nat)->ifP (decide (h<20)) (okC k/\ ∀(l:Int) (m:List Int) (n:Int),0<=l/\(l<2∨l=0)/\okC (m,n)->0<=l/\l<((List.length [(167903232:Int),(167772161:Int)]):Int)/\okC (m,n)/\ ∀(o:Int) (p:List Int) (q:Int),okC (p,q)/\(o=17∨o=1∨o=6)->okC (p,q)/\ ∀(r:Int) (s:List Int) (t:Int),0<=r/\(r<2∨r=0)/\okC (s,t)-> ∀(u:List Int) (v:Int),u=build (Qcg8 h l o r)/\v=probeErr (Qcg8 h l o r)->sortedR (sRoutes j)/\okL (sRoutes
 j)/\((List.length (sPortSent j)):Int)<=1000000/\(u.length:Int)<=1000000/\ ∀(x:List Route) (y:Int) (z:List Int) (A B C D:Int) (E:List Int) (F:Int),(x,y,z,(A,B),C)=(handleV (Qcg0 b c d) j (0:Int) g u).1/\(D,E)=(handleV (Qcg0 b c d) j (0:Int) g u).2.1/\F=(handleV (Qcg0 b c d) j (0:Int) g u).2.2->ifP (decide (F=2)) ((i.length+List.length [g])*(8:Nat)<=(140737488355328:Nat)/\okC (s,t)/\ ∀(G:Int) (H:List Int) (I:Int),0<=G/\(G<120∨G=0)/\okC (H,I)-> ∃(J:Int) (K:Int),∃(L:List Int) (M:NState),∃(N:List Int×Int),(nInv (nLimit (Qcg0 b c d)) J (sTokens M) L K/\okC N/\sSent M=(L.length:Int)/\sRoutes M=nRoutes simpleV/\List.length (sPortSent M)=(2:Nat))/\Int.toNat ((20:Int) -K)<Int.toNat ((20:Int) -h)/\IntKind.wrap .i64 (g+G)=J/\IntKind.wrap .i64
 (h+(1:Int))=K/\[(Qcg6),(Qcg7)]=[(Qcg6),(Qcg7)]/\(0:Int)=0/\(0:Int)=0/\false=false/\[(Qcg4),(Qcg3)]=[(Qcg4),(Qcg3)]/\(1:Int)=1/\(0:Int)=0/\(0:Int)=0/\(0:Int)=0/\(0:Int)=0/\IntKind.wrap .i64 (Qcg2 b)=IntKind.wrap .i64 (Qcg2 b)/\IntKind.wrap .i64 (Qcg5 c)=IntKind.wrap .i64 (Qcg5 c)/\decide (d=7)=decide (d=7)/\false=false/\(64:Int)=64/\(0:Int)=0/\x=M.1/\y=M.2.1/\z=M.2.2.1/\A=M.2.2.2.1.1/\B=M.2.2.2.1.2/\C=M.2.2.2.2/\H=N.1/\I=N.2/\i++[g]=L/\True) (okC (s,t)/\ ∀(G:Int) (H:List Int) (I:Int),0<=G/\(G<120∨G=0)/\okC (H,I)-> ∃(J:Int) (K:Int),∃(L:List Int) (M:NState),∃(N:List Int×Int),(nInv (nLimit (Qcg0 b c d)) J (sTokens M) L K/\okC N/\sSent M=(L.length:Int)/\sRoutes M=nRoutes simpleV/\List.length (sPortSent M)=(2:Nat))/\Int.toNat ((20:Int) -K)<Int.toNat ((20:Int) -h)/\IntKind.wrap .i64 (g+G)=J/\IntKind.wrap .i64
 (h+(1:Int))=K/\[(Qcg6),(Qcg7)]=[(Qcg6),(Qcg7)]/\(0:Int)=0/\(0:Int)=0/\false=false/\[(Qcg4),(Qcg3)]=[(Qcg4),(Qcg3)]/\(1:Int)=1/\(0:Int)=0/\(0:Int)=0/\(0:Int)=0/\(0:Int)=0/\IntKind.wrap .i64 (Qcg2 b)=IntKind.wrap .i64 (Qcg2 b)/\IntKind.wrap .i64 (Qcg5 c)=IntKind.wrap .i64 (Qcg5 c)/\decide (d=7)=decide (d=7)/\false=false/\(64:Int)=64/\(0:Int)=0/\x=M.1/\y=M.2.1/\z=M.2.2.1/\A=M.2.2.2.1.1/\B=M.2.2.2.1.2/\C=M.2.2.2.2/\H=N.1/\I=N.2/\i=L/\True)) ((∃(l:Int),(0<=l/\l<=(Qcg9 i))/\(0:Int)=l/\(Qcg1 b c d i j))/\ ∀(l:Int),0<=l/\l<=(Qcg9 i)->ifP (decide (l<(Qcg9 i))) ((∃(m:Int),(l<=m/\m<=(Qcg9 i))/\l=l/\l=m/\(Qcg1 b c d i j))/\ ∀(m:Int),l<=m/\m<=(Qcg9 i)->ifP (decide (m<(Qcg9 i))) (0<=m/\m<(Qcg9 i)/\0<=l/\l<(Qcg9 i)/\IntKind.wrap .i64 (Qcg2 b)≠(0:Int)/\1<=IntKind.wrap .i64 (Qcg5 c)/\ifP (decide (bMost (IntKind.wrap .i64 (Qcg2 b),IntKind.wrap .i64 (Qcg5 c)) (IntKind.wrap .i64 (i.getD m.toNat default
 -i.getD l.toNat default))<IntKind.wrap .i64 (IntKind.wrap .i64 (m -l)+(1:Int)))) (false=true) (∃(n:Int),(l<=n/\n<=(Qcg9 i))/\Int.toNat ((Qcg9 i) -n)<Int.toNat ((Qcg9 i) -m)/\l=l/\IntKind.wrap .i64 (m+(1:Int))=n/\(Qcg1 b c d i j))) (∃(n:Int),(0<=n/\n<=(Qcg9 i))/\Int.toNat ((Qcg9 i) -n)<Int.toNat ((Qcg9 i) -l)/\IntKind.wrap .i64 (l+(1:Int))=n/\(Qcg1 b c d i j))) (decide (j.2.1=(Qcg9 i))=true)):=by
  delta Qcg0 Qcg1 Qcg2 Qcg3 Qcg4 Qcg5 Qcg6 Qcg7 Qcg8 Qcg9
  rintro cl bu ev ⟨-,⟨b0,b1⟩,⟨e0,e1⟩,-⟩ -
  have hB:IntKind.wrap .i64 (1+Int.tmod (IntKind.wrap .i64 bu) 4)=1+bu%4:=by
    rw [w64 (n:=bu) (by omega) (by omega),Int.tmod_eq_emod_of_nonneg b0,w64 (by omega) (by omega)]
  have hE:IntKind.wrap .i64 (1+IntKind.wrap .i64 ev)=1+ev:=by rw [w64 (n:=ev) (by omega) (by omega),w64 (by omega) (by omega)]
  rw [hB,hE]
  clear hB hE
  obtain ⟨B,hB⟩:∃ B,B=1+bu%4:=⟨_,rfl⟩
  obtain ⟨E,hE⟩:∃ E,E=1+ev:=⟨_,rfl⟩
  rw [← hB,← hE]
  have okb:okBk (B,E) := .inr ⟨by show 1<=B;omega,by show B<=4;omega,by show 1<=E;omega,by show E<=1000;omega⟩
  have hne:(B,E)≠(0,0):=fun k=>by have:=congrArg Prod.fst k;simp only at this;omega
  have hcap:=okB_cap okb hne
  simp only at hcap
  have hsim:=check_okL (nodeV_ok simple_ok).rt
  have hst:=start_ok (nodeV_ok simple_ok)
  refine ⟨by omega,by decide,okC_new _ (by omega) cl,?_⟩
  rintro x l1 p1 ⟨-,-,hc1⟩
  generalize decide (x=7)=q
  have hfull:=bFull_in okb 0
  refine ⟨hsim.2,(by show ((2:Nat):Int)<=1000000;decide),⟨0,0,[],startV (limV (B,E) q),(l1,p1),⟨?_,hc1,rfl,rfl,rfl⟩,(by repeat' first|exact trivial|refine ⟨trivial,?_⟩|refine ⟨(by with_reducible rfl),?_⟩|refine ⟨w64 (by omega) (by omega),?_⟩|refine ⟨rfl,?_⟩)⟩,?_⟩
  · show nInv (B,E) 0 (bFull (B,E) 0) [] 0
    rw [hfull]
    exact ⟨⟨okb,hne⟩,by omega,by simp,by show 0<=(0:Int)/\(0:Int)<=0/\(0:Int)<=120*0;omega,by simp,⟨by simp,by simp,by simp,by simp⟩,by show 0<=B*E;omega,by show B*E<=B*E;omega,fun i k=>absurd k (by simp)⟩
  rintro a j us s c ⟨hI,hc,hs,hr,hp⟩
  have hI:nInv (B,E) a (sTokens s) us j:=hI
  have hu:=hI.2.2.2.2.2.1
  have hlen:=hI.2.2.1
  have hj:=hI.2.1
  have hat:=hI.2.2.2.1
  refine ifP_split (fun k => ?_) (fun k => ?_)
  · have k:=of_decide_eq_true k
    refine ⟨hc,?_⟩
    rintro i l2 p2 ⟨i0,i1,hc2⟩
    refine ⟨i0,by simp only [List.length_cons,List.length_nil];omega,hc2,?_⟩
    rintro pr l3 p3 ⟨hc3,-⟩
    refine ⟨hc3,?_⟩
    rintro tt l4 p4 ⟨-,-,hc4⟩
    rintro b e ⟨hb,-⟩
    have hbl:=build_len (167772169,List.getD [167903232,167772161] (Int.toNat i) default,pr,0,j,IntKind.wrap .i64 (1+tt))
    rw [← hb] at hbl
    clear hb
    refine ⟨by rw [hr];exact hst.srt,by rw [hr];exact hsim.2,by omega,by omega,?_⟩
    rintro z1 z2 z3 z4 z5 z6 o1 o2 why ⟨q1,q2,q3⟩
    have T:=handleV_tok (limV (B,E) q) s 0 a b
    have q1:(z1,z2,z3,(z4,z5),z6)=(handleV (limV (B,E) q) s 0 a b).1:=q1
    have q3:why=(handleV (limV (B,E) q) s 0 a b).2.2:=q3
    rw [← q1,← q3] at T
    clear q1 q2 q3
    obtain ⟨T1,T2,T3⟩:=T
    have T1:sRoutes (z1,z2,z3,(z4,z5),z6)=nRoutes simpleV:=T1.trans hr
    have T2:(sPortSent (z1,z2,z3,(z4,z5),z6)).length=2:=T2.trans hp
    have w1:IntKind.wrap IntKind.i64 (j+1)=j+1:=w64 (by omega) (by omega)
    refine ifP_split (fun k2=>⟨by simp only [List.length_singleton];omega,hc4,?_⟩) (fun k2=>⟨hc4,?_⟩)
    · have k2:=of_decide_eq_true k2
      rcases T3 with ⟨k3,-⟩|⟨-,t1,t2,t3⟩
      · exact absurd k2 k3
      rintro dt l5 p5 ⟨d0,d1,hc5⟩
      have w2:IntKind.wrap IntKind.i64 (a+dt)=a+dt:=w64 (by omega) (by omega)
      have N:=nInv_take (d:=dt) hI (by omega) ⟨by omega,by omega⟩ t3
      refine ⟨a+dt,j+1,us++[a],(z1,z2,z3,(z4,z5),z6),(l5,p5),⟨by rw [t2];exact N,hc5,?_,T1,T2⟩,by omega,w2,w1,(by repeat' first|exact trivial|refine ⟨trivial,?_⟩|refine ⟨(by with_reducible rfl),?_⟩|refine ⟨w64 (by omega) (by omega),?_⟩|refine ⟨rfl,?_⟩)⟩
      rw [t1,hs,w64 (by omega) (by omega),List.length_append,List.length_singleton];omega
    · have k2:=of_decide_eq_false k2
      rcases T3 with ⟨-,t1,t2⟩|⟨k3,-⟩
      · rintro dt l5 p5 ⟨d0,d1,hc5⟩
        have w2:IntKind.wrap IntKind.i64 (a+dt)=a+dt:=w64 (by omega) (by omega)
        refine ⟨a+dt,j+1,us,(z1,z2,z3,(z4,z5),z6),(l5,p5),⟨?_,hc5,t1.trans hs,T1,T2⟩,by omega,w2,w1,(by repeat' first|exact trivial|refine ⟨trivial,?_⟩|refine ⟨(by with_reducible rfl),?_⟩|refine ⟨w64 (by omega) (by omega),?_⟩|refine ⟨rfl,?_⟩)⟩
        rcases t2 with t2|⟨t2,t3⟩
        · rw [t2];exact nInv_keep hI (by omega) ⟨by omega,by omega⟩
        · rw [t2];exact nInv_fail (d:=dt) hI (by omega) ⟨by omega,by omega⟩ t3
      · exact absurd k3 k2
  · refine ⟨⟨0,by omega,(by repeat' first|exact trivial|refine ⟨trivial,?_⟩|refine ⟨(by with_reducible rfl),?_⟩|refine ⟨w64 (by omega) (by omega),?_⟩|refine ⟨rfl,?_⟩)⟩,?_⟩
    rintro i ⟨hi0,hi1⟩
    refine ifP_split (fun h=>⟨⟨i,by omega,(by repeat' first|exact trivial|refine ⟨trivial,?_⟩|refine ⟨(by with_reducible rfl),?_⟩|refine ⟨w64 (by omega) (by omega),?_⟩|refine ⟨rfl,?_⟩)⟩,?_⟩) (fun _=>decide_eq_true hs)
    have h:=of_decide_eq_true h
    rintro k ⟨hk0,hk1⟩
    refine ifP_split (fun hk => ?_) (fun _ => ?_)
    · have hk:=of_decide_eq_true hk
      refine ⟨by omega,hk,hi0,by omega,by omega,by omega,ifP_split (fun hm => ?_) (fun _=>⟨k+1,by omega,by omega,rfl,w64 (by omega) (by omega),(by repeat' first|exact trivial|refine ⟨trivial,?_⟩|refine ⟨(by with_reducible rfl),?_⟩|refine ⟨w64 (by omega) (by omega),?_⟩|refine ⟨rfl,?_⟩)⟩)⟩
      have hm:=of_decide_eq_true hm
      have:=most_ok okb (by show 0<B;omega) hu hi0 hk0 hk
      rw [w64 (n:=k-i) (by omega) (by omega),w64 (n:=k-i+1) (by omega) (by omega)] at hm
      simp only [w] at this
      omega
    · exact ⟨i+1,by omega,by omega,w64 (by omega) (by omega),(by repeat' first|exact trivial|refine ⟨trivial,?_⟩|refine ⟨(by with_reducible rfl),?_⟩|refine ⟨w64 (by omega) (by omega),?_⟩|refine ⟨rfl,?_⟩)⟩
theorem ok_law13_NodeLimits:SpecOK Tryz.prog GL 5 ct_law13_NodeLimits.spec:=Ct.okH _ Tryz.func5 (by kernel_rfl) (withSpec_ok (withSpec_ok (withSpec_ok (withSpec_ok (withSpec_ok (withSpec_ok (withSpec_ok (withSpec_ok (withSpec_ok noSpecs_ok ok_law13_awake) ok_draw_New) ok_law13_simple) ok_Next) ok_node_Start) ok_draw_Codes_Proto) (Ct.named ok_BuildD)) (Ct.named ok_node_Handle)) ok_ref12_Most) hmix an_law13_NodeLimits (hideMp (by kernel_rfl) vc_law13_NodeLimits)
end Go.RS
