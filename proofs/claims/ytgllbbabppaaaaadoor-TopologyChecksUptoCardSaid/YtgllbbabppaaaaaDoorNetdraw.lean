/- Netdraw: the program text that draws networks does what Netd says. -/
import Derived.Test.YtgllbbabppaaaaaDoorNetg
import Derived.Test.YtgllbbabppaaaaaDoorNodek
namespace Go.RS
open Go.SX Go.Proofs
set_option maxRecDepth 100000
set_option linter.unusedVariables false
abbrev oScene:OT := .pair (.pair (.row 54 cNode) (.pair (.row 39 cLink) (.row 70 cChange))) (.ref 57 cCodes)
def sL (s:Scene):List Link:=s.1.2.1
def smallS (s:Scene):Prop:=okC s.2/\(s.1.1.length:Int)<=1000/\(s.1.2.1.length:Int)<=1000/\(s.1.2.2.length:Int)<=1000∧∀ x∈s.1.1,(x.1.length:Int)<=1000
def inN (ns:List Node) (a:Int):Prop:=0<=a/\a<ns.length
def ct_Next1x:Ct:=⟨[.box 57 cCodes,.val cI],[.val cI],fun d=>[okC d.1,d.2.1<=256],fun d=>(((next1 d.1 d.2.1).1,()),((next1 d.1 d.2.1).2,()))⟩
def an_Next1x:PDs ct_Next1x.ps->Anns:=(fun _=>{})
theorem vc_Next1x :
 ∀(a:List Int) (b c:Int),((a.length<=maxLen/\ ∀(d:Int),d∈a->0<=d/\d<=255)/\R64 b)/\R64 c/\True->okC (a,b)/\c<=256-> ∀(d:Bool),d=decide ((a.length:Int)<=b)->((! d)->((! d)->(! d))/\True)/\(d=false->(! d))/\ifP (bif d then true else decide (c<1)) ((0:Int)=(next1 (a,b) c).1/\(a,b)=(next1 (a,b) c).2) (0<=b/\b<(a.length:Int)/\ifP (decide (256<c)) False (c≠(0:Int)/\Int.tmod (IntKind.wrap .i64 (a.getD b.toNat default)) c=(next1 (a,b) c).1/\(a,IntKind.wrap .i64 (b+(1:Int)))=(next1 (a,b) c).2)):=by
  rintro l p n ⟨⟨⟨hl,hw⟩,h0,h1⟩,⟨h2,h3⟩,-⟩ ⟨⟨hc1,hc2⟩,hn⟩
  simp only [maxLen] at hl hc1 hc2
  (repeat (intro (b_:Bool) (hb_:b_=_);(repeat refine ⟨(by first|(simp;done)|(rw [hb_];simp;done)|(rw [hb_];simp;omega)|(rw [hb_];simp;intros;omega)|(rw [hb_];simp +contextual;done)),?_⟩);subst hb_))
  refine ifP_or (fun hb => ?_) (fun hb1 hb2 => ?_)
  · have hb:(l.length:Int)<=p∨n<1:=by simpa using hb
    rw [next1,if_pos hb];exact ⟨rfl,rfl⟩
  · have hb1:=of_decide_eq_false hb1
    have hb2:=of_decide_eq_false hb2
    have hb:¬ ((l.length:Int)<=p∨n<1):=by omega
    obtain ⟨hm0,hm1⟩:=hw _ (getD_mem hc1 (show p<l.length by omega))
    refine ⟨hc1,by omega,ifP_split (fun k => ?_) (fun _=>⟨by omega,?_⟩)⟩
    · have:=of_decide_eq_true k;omega
    · rw [next1,if_neg hb,w64 (by omega) (by omega),w64 (by omega) (by omega)];exact ⟨rfl,rfl⟩
theorem ok_Next1x:SpecOK Tryd.prog GL 8 ct_Next1x.spec:=Ct.okH _ Tryd.func8 (by kernel_rfl) noSpecs_ok hmix an_Next1x (hideMp (by kernel_rfl) vc_Next1x)
def ct_Nextx:Ct:=⟨[.box 57 cCodes,.val cI],[.val cI],fun d=>[okC d.1],fun d=>(((nextV d.1 d.2.1).1,()),((nextV d.1 d.2.1).2,()))⟩
def an_Nextx:PDs ct_Nextx.ps->Anns:=(fun _=>{})
theorem vc_Nextx :
 ∀(a:List Int) (b c:Int),((a.length<=maxLen/\ ∀(d:Int),d∈a->0<=d/\d<=255)/\R64 b)/\R64 c/\True->0<=b/\b<=(a.length:Int)-> ∀(d:Bool),d=decide ((a.length:Int)<=b)->((! d)->((! d)->(! d))/\True)/\(d=false->(! d))/\ifP (bif d then true else decide (c<1)) ((0:Int)=(nextV (a,b) c).1/\(a,b)=(nextV (a,b) c).2) (0<=b/\b<(a.length:Int)/\ifP (decide (256<c)) (okC (a,IntKind.wrap .i64 (b+(1:Int)))/\(256:Int)<=256/\c≠(0:Int)/\Int.tmod (IntKind.wrap .i64 (IntKind.wrap .i64 ((256:Int)*IntKind.wrap .i64 (a.getD b.toNat default))+(next1 (a,IntKind.wrap .i64 (b+(1:Int))) (256:Int)).1)) c=(nextV (a,b) c).1/\(next1 (a,IntKind.wrap .i64 (b+(1:Int))) (256:Int)).2=(nextV (a,b) c).2) (c≠(0:Int)/\Int.tmod (IntKind.wrap .i64 (a.getD b.toNat default)) c=(nextV (a,b) c).1/\(a,IntKind.wrap .i64 (b+(1:Int)))=(nextV (a,b) c).2)):=by
  rintro l p n ⟨⟨⟨hl,hw⟩,h0,h1⟩,⟨h2,h3⟩,-⟩ ⟨hc1,hc2⟩
  simp only [maxLen] at hl hc1 hc2
  (repeat (intro (b_:Bool) (hb_:b_=_);(repeat refine ⟨(by first|(simp;done)|(rw [hb_];simp;done)|(rw [hb_];simp;omega)|(rw [hb_];simp;intros;omega)|(rw [hb_];simp +contextual;done)),?_⟩);subst hb_))
  refine ifP_or (fun hb => ?_) (fun hb1 hb2 => ?_)
  · have hb:(l.length:Int)<=p∨n<1:=by simpa using hb
    rw [nextV,if_pos hb];exact ⟨rfl,rfl⟩
  · have hb1:=of_decide_eq_false hb1
    have hb2:=of_decide_eq_false hb2
    have hb:¬ ((l.length:Int)<=p∨n<1):=by omega
    obtain ⟨hm0,hm1⟩:=hw _ (getD_mem hc1 (show p<l.length by omega))
    rw [w64 (n:=p+1) (by omega) (by omega),w64 (n:=l.getD p.toNat default) (by omega) (by omega)]
    refine ⟨hc1,by omega,ifP_split (fun k => ?_) (fun k=>⟨by omega,?_⟩)⟩
    · have k:=of_decide_eq_true k
      have hok:okB (l,p+1):=⟨⟨by show 0<=p+1;omega,by show p+1<=l.length;omega⟩,hw⟩
      have hr:=next1_ok hok 256
      refine ⟨hok.at',by omega,by omega,?_⟩
      rw [nextV,if_neg hb,if_pos k,w64 (n:=256*_) (by omega) (by omega),w64 (by omega) (by omega)]
      exact ⟨rfl,rfl⟩
    · rw [nextV,if_neg hb,if_neg (of_decide_eq_false k)];exact ⟨rfl,rfl⟩
theorem ok_Nextx:SpecOK Tryd.prog GL 8 ct_Nextx.spec:=Ct.okH _ Tryd.func8 (by kernel_rfl) (withSpec_ok noSpecs_ok ok_Next1x) hmix an_Nextx (hideMp (by kernel_rfl) vc_Nextx)
def ct_draw_scene_node:Ct:=⟨[.box 60 oScene,.val .bool],[.val cI],fun d=>[smallS d.1],fun d=>(((d.1.1.1.length:Int),()),(nodeS d.1 d.2.1,()))⟩
def an_draw_scene_node:PDs ct_draw_scene_node.ps->Anns:=(fun _=>{})
def Qbz41 (b:List Link) :=
 (b.length:Int)
def Qbz26 (a:List Node) (b:List Link) (c:List Change) (d:List Int) (e:Int) :=
 ((a.length<=maxLen/\ ∀(g:Node),g∈a->CT.wf cNode g)/\(b.length<=maxLen/\ ∀(g:Link),g∈b->CT.wf cLink g)/\c.length<=maxLen/\ ∀(g:Change),g∈c->CT.wf cChange g)/\(d.length<=maxLen/\ ∀(g:Int),g∈d->0<=g/\g<=255)/\R64 e
def Qbz49 (a:List Node) :=
 (a.length:Int)
def Qbz29 (a:List Node) (d:List Int) (e:Int) (f:Bool) :=
 (([]:List (Int×Int)),(0:Int),IntKind.wrap .i64 ((1:Int)+IntKind.wrap .i64 (Int.tdiv (Qbz49 a) (3:Int))),f,([]:List Route),(1:Int),(0:Int),(0:Int),(0:Int),(0:Int),((0:Int),(0:Int)),false,false,List.getD [(64:Int),(255:Int),(128:Int)] (Int.toNat (nextV (d,e) (3:Int)).1) default,(nextV (nextV (d,e) (3:Int)).2 (256:Int)).1)
def Qbz47 :=
 (140737488355328:Nat)
theorem vc_draw_scene_node :
 ∀(a:List Node) (b:List Link) (c:List Change) (d:List Int) (e:Int) (f:Bool),(Qbz26 a b c d e)/\True/\True->(okC (d,e)/\(Qbz49 a)<=1000/\(Qbz41 b)<=1000/\(c.length:Int)<=1000/\ ∀(g:Node),g∈a->(g.1.length:Int)<=1000)->okC (d,e)/\0<=(nextV (d,e) (3:Int)).1/\(nextV (d,e) (3:Int)).1<((List.length [(64:Int),(255:Int),(128:Int)]):Int)/\okC (nextV (d,e) (3:Int)).2/\(3:Int)≠(0:Int)/\(a.length+List.length [(Qbz29 a d e f)])*(152:Nat)<=(Qbz47)/\(Qbz49 a)=(Qbz49 a)/\((a++[(Qbz29 a d e f)],b,c),(nextV (nextV (d,e) (3:Int)).2 (256:Int)).2)=nodeS ((a,b,c),d,e) f:=by
  delta Qbz26 Qbz29 Qbz41 Qbz47 Qbz49
  rintro ns ls hs l p b ⟨⟨-,⟨hl,hw⟩,-⟩,-,-⟩ ⟨hc,h1,h2,h3,h4⟩
  have hok:okB (l,p):=⟨hc,hw⟩
  have r1:=nextV_ok hok 3
  have r2:=nextV_lt hok (n:=3) (by omega)
  have e:Int.tdiv (ns.length:Int) 3=(ns.length:Int)/3:=Int.tdiv_eq_ediv_of_nonneg (by omega)
  refine ⟨hc,r2.1,by simpa using r2.2,r1.1.at',by omega,by simp only [List.length_singleton];omega,rfl,?_⟩
  rw [e,w64 (n:=(ns.length:Int)/3) (by omega) (by omega),w64 (by omega) (by omega)]
  rfl
theorem ok_draw_scene_node:SpecOK Tryd.prog GL 13 ct_draw_scene_node.spec:=Ct.okH _ Tryd.func13 (by kernel_rfl) (withSpec_ok noSpecs_ok ok_Nextx) hmix an_draw_scene_node (hideMp (by kernel_rfl) vc_draw_scene_node)
def portsK (ns:List Node) (a b l k:Int):List Node:=if k=0 then ns else if k=1 then addPort ns a (baseA l+1,l) else addPort (addPort ns a (baseA l+1,l)) b (baseA l+2,l)
def ct_draw_scene_link:Ct:=⟨[.box 60 oScene,.val cI,.val cI],[.val cI],fun d=>[smallS d.1,inN d.1.1.1 d.2.1,inN d.1.1.1 d.2.2.1],fun d=>(((d.1.1.2.1.length:Int),()),(linkS d.1 d.2.1 d.2.2.1,()))⟩
def an_draw_scene_link:PDs ct_draw_scene_link.ps->Anns:=(fun d=>{loops:=(fun n=>match n with|5=>some (fun S=>{ι:=Int×(List Node),qn:=⟨fun k_=>∀ (k:Int) (ns:(List Node)),k_ (k,ns),fun k_ h_ i=>h_ i.1 i.2,fun k_=>∃ (k:Int) (ns:(List Node)),k_ (k,ns),fun k_ ⟨k,ns,h_⟩=>⟨_,h_⟩⟩,μ:=fun i=>(2-i.1).toNat,inv:=fun i=>0<=i.1/\i.1<=2/\i.2=portsK d.1.1.1 d.2.1 d.2.2.1 d.1.1.2.1.length i.1,keep:=[0,1,2,6,7,8],slots:=fun i=>[(9,.int .i64 i.1)],keepN:=[1048577,2097154],names:=fun i=>[(1048576,.live (.cells 60 [.own 524288 16,.own 524289 6,.own 2097154 7,.ptr 1048577 0])),(524288,.live (.row 54 cNode i.2)),(524289,.live (.row 39 cLink (sL (linkS d.1 d.2.1 d.2.2.1))))]})|_=>none)})
def Qbz23 (b:List Link) :=
 IntKind.wrap .i64 ((167837696:Int)+IntKind.wrap .i64 ((4:Int)*(Qbz41 b)))
def Qbz27 (d:List Int) (e:Int) :=
 nextV (nextV (d,e) (20:Int)).2 (256:Int)
def Qbz44 (f g h:Int) :=
 Int.toNat (List.getD [f,g] h.toNat default)
def Qbz64 (b:List Link) (h:Int) :=
 (IntKind.wrap .u32 (IntKind.wrap .u32 (IntKind.wrap .u32 (Qbz23 b)+(1:Int))+IntKind.wrap .u32 h),(Qbz41 b))
theorem vc_draw_scene_link :
 ∀(a:List Node) (b:List Link) (c:List Change) (d:List Int) (e f g:Int),(((a.length<=maxLen/\ ∀(h:Node),h∈a->CT.wf cNode h)/\(b.length<=maxLen/\ ∀(h:Link),h∈b->CT.wf cLink h)/\c.length<=maxLen/\ ∀(h:Change),h∈c->CT.wf cChange h)/\(d.length<=maxLen/\ ∀(h:Int),h∈d->0<=h/\h<=255)/\R64 e)/\R64 f/\R64 g/\True->smallS ((a,b,c),d,e)/\inN a f/\0<=g/\g<(Qbz49 a)->okC (d,e)/\okC (nextV (d,e) (20:Int)).2/\(b.length+List.length [(f,g,IntKind.wrap .i64 ((1:Int)+(nextV (d,e) (20:Int)).1),(0:Int),(0:Int),(Qbz27 d e).1)])*(48:Nat)<=(Qbz47)/\(∃(h:Int) (i:List Node),(0<=h/\h<=2/\i=portsK a f g (Qbz41 b) h)/\f=f/\g=g/\(0:Int)=0/\(Qbz41 b)=(Qbz41 b)/\IntKind.wrap .u32 (Qbz23 b)=IntKind.wrap .u32 (Qbz23 b)/\(0:Int)=h/\(Qbz27 d e).2.1=(Qbz27 d e).2.1/\(Qbz27 d e).2.2=(Qbz27 d e).2.2/\c=c/\a=i/\b++[(f,g,IntKind.wrap .i64 ((1:Int)+(nextV (d,e) (20:Int)).1),(0:Int),(0:Int),(Qbz27 d e).1)]=sL (linkS ((a,b,c),d,e) f
 g)/\True)/\ ∀(h:Int) (i:List Node),0<=h/\h<=2/\i=portsK a f g (Qbz41 b) h->ifP (decide (h<2)) (0<=h/\h<((List.length [f,g]):Int)/\0<=List.getD [f,g] h.toNat default/\List.getD [f,g] h.toNat default<(i.length:Int)/\List.length (i.getD (Qbz44 f g h) default).1*(16:Nat)<=(Qbz47)/\(List.length (i.getD (Qbz44 f g h) default).1+List.length [(Qbz64 b h)])*(16:Nat)<=(Qbz47)/\0<=List.getD [f,g] h.toNat default/\List.getD [f,g] h.toNat default<(i.length:Int)/\ ∃(j:Int) (k:List Node),(0<=j/\j<=2/\k=portsK a f g (Qbz41 b) j)/\Int.toNat ((2:Int) -j)<Int.toNat ((2:Int) -h)/\f=f/\g=g/\(0:Int)=0/\(Qbz41 b)=(Qbz41 b)/\IntKind.wrap .u32 (Qbz23 b)=IntKind.wrap .u32 (Qbz23 b)/\IntKind.wrap .i64 (h+(1:Int))=j/\(Qbz27 d e).2.1=(Qbz27 d e).2.1/\(Qbz27 d e).2.2=(Qbz27 d e).2.2/\c=c/\List.set i (Qbz44 f g h) ((i.getD (Qbz44 f g h) default).1++[(Qbz64 b h)],(i.getD (Qbz44 f g h) default).2)=k/\sL (linkS
 ((a,b,c),d,e) f g)=sL (linkS ((a,b,c),d,e) f g)/\True) ((Qbz41 b)=(Qbz41 b)/\((i,sL (linkS ((a,b,c),d,e) f g),c),(Qbz27 d e).2)=linkS ((a,b,c),d,e) f g):=by
  delta Qbz23 Qbz27 Qbz41 Qbz44 Qbz47 Qbz49 Qbz64
  rintro ns ls hs l p a b ⟨⟨-,⟨hl,hw⟩,-⟩,⟨ha1,ha2⟩,⟨hb1,hb2⟩,-⟩ ⟨⟨hc,h1,h2,h3,h4⟩,⟨a0,a1⟩,b0,b1⟩
  simp only at h1 h2 h3 h4 a1
  have hok:okB (l,p):=⟨hc,hw⟩
  have r1:=nextV_ok hok 20
  have r2:=nextV_lt hok (n:=20) (by omega)
  have e1:IntKind.i64.wrap (1+(nextV (l,p) 20).1)=1+(nextV (l,p) 20).1:=w64 (by omega) (by omega)
  rw [e1,w64 (n:=4*(ls.length:Int)) (by omega) (by omega),w64 (n:=167837696+4*(ls.length:Int)) (by omega) (by omega),wu32 (n:=167837696+4*(ls.length:Int)) (by omega) (by omega),wu32 (n:=167837696+4*(ls.length:Int)+1) (by omega) (by omega)]
  refine ⟨hc,r1.1.at',by simp only [List.length_singleton];omega,⟨0,ns,⟨by omega,by omega,by rw [portsK,if_pos rfl]⟩,?_⟩,?_⟩
  · (repeat refine ⟨(by with_reducible rfl),?_⟩)
    exact ⟨rfl,trivial⟩
  rintro k ms ⟨k0,k2,rfl⟩
  have hlen:∀ m:Int,(portsK ns a b ls.length m).length=ns.length:=fun m=>by
    unfold portsK addPort;split
    · rfl
    · split <;> simp
  refine ifP_split (fun hk => ?_) (fun hk => ?_)
  · have hk:=of_decide_eq_true hk
    rw [hlen]
    have hk':k=0∨k=1:=by omega
    have hports:∀ x:Int,0<=x->x<ns.length->((ns.getD x.toNat default).1.length:Int)<=1000:=fun x x0 x1=>h4 _ (getD_mem x0 x1)
    rcases hk' with rfl|rfl
    · have e0:portsK ns a b ls.length 0=ns:=by rw [portsK,if_pos rfl]
      rw [e0]
      have:=hports a a0 a1
      have e3:([a,b]:List Int).getD (Int.toNat 0) default=a:=rfl
      rw [e3]
      refine ⟨by omega,by simp,a0,a1,by omega,by simp only [List.length_singleton];omega,a0,a1,1,_,⟨by omega,by omega,rfl⟩,by omega,?_⟩
      (repeat refine ⟨(by with_reducible rfl),?_⟩)
      refine ⟨w64 (by omega) (by omega),?_⟩
      (repeat refine ⟨(by with_reducible rfl),?_⟩)
      refine ⟨?_,?_⟩
      · rw [portsK,if_neg (by omega),if_pos rfl]
        have:IntKind.u32.wrap (167837696+4*(ls.length:Int)+1+IntKind.u32.wrap 0)=baseA ls.length+1:=by
          rw [wu32 (n:=0) (by omega) (by omega),wu32 (by omega) (by omega)];unfold baseA;omega
        rw [this];rfl
      · exact ⟨rfl,trivial⟩
    · have e0:portsK ns a b ls.length 1=addPort ns a (baseA ls.length+1,ls.length):=by rw [portsK,if_neg (by omega),if_pos rfl]
      rw [e0]
      have e3:([a,b]:List Int).getD (Int.toNat 1) default=b:=rfl
      rw [e3]
      have hpb:(((addPort ns a (baseA ls.length+1,ls.length)).getD b.toNat default).1.length:Int)<=1001:=by
        unfold addPort
        by_cases hab:a.toNat=b.toNat
        · rw [hab,getD_set (by omega)]
          have:=hports b b0 b1
          simp only [List.length_append,List.length_singleton];omega
        · rw [getD_setne hab]
          have:=hports b b0 b1;omega
      refine ⟨by omega,by simp,b0,b1,by omega,by simp only [List.length_singleton];omega,b0,b1,2,_,⟨by omega,by omega,rfl⟩,by omega,?_⟩
      (repeat refine ⟨(by with_reducible rfl),?_⟩)
      refine ⟨w64 (by omega) (by omega),?_⟩
      (repeat refine ⟨(by with_reducible rfl),?_⟩)
      refine ⟨?_,?_⟩
      · rw [portsK,if_neg (by omega),if_neg (by omega)]
        have:IntKind.u32.wrap (167837696+4*(ls.length:Int)+1+IntKind.u32.wrap 1)=baseA ls.length+2:=by
          rw [wu32 (n:=1) (by omega) (by omega),wu32 (by omega) (by omega)];unfold baseA;omega
        rw [this];rfl
      · exact ⟨rfl,trivial⟩
  · have hk:=of_decide_eq_false hk
    have:k=2:=by omega
    subst this
    refine ⟨rfl,?_⟩
    rw [portsK,if_neg (by omega),if_neg (by omega)]
    rfl
theorem ok_draw_scene_link:SpecOK Tryd.prog GL 14 ct_draw_scene_link.spec:=Ct.okH _ Tryd.func14 (by kernel_rfl) (withSpec_ok noSpecs_ok ok_Nextx) hmix an_draw_scene_link (hideMp (by kernel_rfl) vc_draw_scene_link)
def insAt (k:Int) (done:List Int) (f:Bool) (l:List Int):Prop:=(f=false/\l=done∧∀ x∈done,¬ k<x)∨(f=true/\l=insN k done∧∃ x∈done,k<x)
def ct_draw_scene_route:Ct:=⟨[.box 60 oScene,.val cI,.agg cPfx,.val cI,.val cI],[],fun d=>[inN d.1.1.1 d.2.1,sortedR (nRoutes (d.1.1.1.getD d.2.1.toNat default)),okL (nRoutes (d.1.1.1.getD d.2.1.toNat default)),∀ r∈nRoutes (d.1.1.1.getD d.2.1.toNat default),(r.2.1.length:Int)<=1000],fun d=>((),(((routeN d.1.1.1 d.2.1 d.2.2.1 d.2.2.2.1 d.2.2.2.2.1,d.1.1.2),d.1.2),()))⟩
def an_draw_scene_route:PDs ct_draw_scene_route.ps->Anns:=(fun d=>{loops:=(fun n=>match n with|3=>some (fun S=>{ι:=Int,μ:=fun i=>((nRoutes (d.1.1.1.getD d.2.1.toNat default)).length-i).toNat,inv:=fun i=>0<=i/\i<=(nRoutes (d.1.1.1.getD d.2.1.toNat default)).length∧∀ r∈(nRoutes (d.1.1.1.getD d.2.1.toNat default)).take i.toNat,decide (r.1=d.2.2.1)=false,keep:=[0,1,3,4,7,8,9,10],slots:=fun i=>[(11,.int .i64 i)],keepN:=[1048576,1048577,2097152,2097153,2097154,128],names:=fun i=>[]})|7=>some (fun S=>{ι:=Int,μ:=fun i=>(((nRoutes (d.1.1.1.getD d.2.1.toNat default)).getD (S.i 11).toNat default).2.1.length-i).toNat,inv:=fun i=>0<=i/\i<=((nRoutes (d.1.1.1.getD d.2.1.toNat default)).getD (S.i 11).toNat default).2.1.length∧∀ x∈((nRoutes (d.1.1.1.getD d.2.1.toNat default)).getD (S.i 11).toNat default).2.1.take i.toNat,x≠d.2.2.2.1,keep:=[0,1,3,4,7,8,9,10,11],slots:=fun i=>[(12,.int .i64 i)],keepN:=[1048576,1048577,2097152,2097153,2097154,128],names:=fun i=>[]})|13=>some (fun S=>{ι:=Int×Bool×(List Int),qn:=⟨fun k_=>∀ (k:Int) (f:Bool) (l:(List Int)),k_ (k,f,l),fun k_ h_ i=>h_ i.1 i.2.1 i.2.2,fun k_=>∃ (k:Int) (f:Bool) (l:(List Int)),k_ (k,f,l),fun k_ ⟨k,f,l,h_⟩=>⟨_,h_⟩⟩,μ:=fun i=>(((nRoutes (d.1.1.1.getD d.2.1.toNat default)).getD (S.i 11).toNat default).2.1.length-i.1).toNat,inv:=fun i=>0<=i.1/\i.1<=((nRoutes (d.1.1.1.getD d.2.1.toNat default)).getD (S.i 11).toNat default).2.1.length/\insAt d.2.2.2.1 (((nRoutes (d.1.1.1.getD d.2.1.toNat default)).getD (S.i 11).toNat default).2.1.take i.1.toNat) i.2.1 i.2.2,keep:=[0,1,3,4,7,8,9,10,11,13],slots:=fun i=>[(14,.bool i.2.1),(15,.int .i64 i.1)],keepN:=[1048576,1048577,2097152,2097153,2097154,128],names:=fun i=>[(224,.live (.cells 49 [.int .u32 d.2.2.1.1,.int .i64 d.2.2.1.2,.own 524288 1,.int .i64 ((nRoutes (d.1.1.1.getD d.2.1.toNat default)).getD (S.i 11).toNat default).2.2])),(524288,.live (.row 3 cI i.2.2))]})|_=>none)})
def Qbz12 (a:List Node) (f:Int) :=
 a.getD f.toNat default
def Qbz7 (a:List Node) (f k:Int) :=
 List.getD (nRoutes (Qbz12 a f)) k.toNat default
def Qbz15 (a:List Node) (f k:Int) :=
 List.getD (Qbz12 a f).2.2.2.2.1 k.toNat default
def Qbz30 (a:List Node) (f k:Int) :=
 ((List.length (Qbz7 a f k).2.1):Int)
def Qbz33 (a:List Node) (f:Int) :=
 ((List.length (Qbz12 a f).2.2.2.2.1):Int)
def Qbz53 (a:List Node) (f:Int) :=
 ((List.length (nRoutes (Qbz12 a f))):Int)
def Qbz55 (a:List Node) (f k:Int) :=
 ((List.length (Qbz15 a f k).2.1):Int)
theorem vc_draw_scene_route :
 ∀(a:List Node) (b:List Link) (c:List Change) (d:List Int) (e f g h i j:Int),(((a.length<=maxLen/\ ∀(k:Node),k∈a->CT.wf cNode k)/\(b.length<=maxLen/\ ∀(k:Link),k∈b->CT.wf cLink k)/\c.length<=maxLen/\ ∀(k:Change),k∈c->CT.wf cChange k)/\(d.length<=maxLen/\ ∀(k:Int),k∈d->0<=k/\k<=255)/\R64 e)/\R64 f/\((0<=g/\g<=4294967295)/\R64 h)/\R64 i/\R64 j/\True->(inN a f/\sortedR (nRoutes (Qbz12 a f))/\okL (nRoutes (Qbz12 a f))/\ ∀(k:Route),k∈nRoutes (Qbz12 a f)->(k.2.1.length:Int)<=1000)->0<=f/\f<(Qbz49 a)/\(∃(k:Int),(0<=k/\k<=(Qbz53 a f)/\ ∀(l:Route),l∈List.take k.toNat (nRoutes (Qbz12 a f))->decide (l.1=(g,h))=false)/\f=f/\i=i/\j=j/\f.toNat=f.toNat/\(0:Int)=k/\d=d/\e=e/\a=a/\b=b/\c=c/\g=g/\h=h/\True)/\ ∀(k:Int),(0<=k/\k<=(Qbz53 a f)/\ ∀(l:Route),l∈List.take k.toNat (nRoutes (Qbz12 a f))->decide (l.1=(g,h))=false)->ifP (decide (k<(Qbz33 a f))) (0<=k/\k<(Qbz33 a f)/\ifP (decide ((Qbz15 a f
 k).1.1=g)&&(decide ((Qbz15 a f k).1.2=h)&&true)) ((∃(l:Int),(0<=l/\l<=(Qbz30 a f k)/\ ∀(m:Int),m∈List.take l.toNat (Qbz7 a f k).2.1->m≠i)/\f=f/\i=i/\j=j/\f.toNat=f.toNat/\k=k/\(0:Int)=l/\d=d/\e=e/\a=a/\b=b/\c=c/\g=g/\h=h/\True)/\ ∀(l:Int),(0<=l/\l<=(Qbz30 a f k)/\ ∀(m:Int),m∈List.take l.toNat (Qbz7 a f k).2.1->m≠i)->0<=k/\k<(Qbz33 a f)/\ifP (decide (l<(Qbz55 a f k))) (0<=k/\k<(Qbz33 a f)/\0<=l/\l<(Qbz55 a f k)/\ifP (decide (List.getD (Qbz15 a f k).2.1 l.toNat default=i)) (((a,b,c),d,e)=((routeN a f (g,h) i j,b,c),d,e)) (∃(m:Int),(0<=m/\m<=(Qbz30 a f k)/\ ∀(n:Int),n∈List.take m.toNat (Qbz7 a f k).2.1->n≠i)/\Int.toNat ((Qbz30 a f k) -m)<Int.toNat ((Qbz30 a f k) -l)/\f=f/\i=i/\j=j/\f.toNat=f.toNat/\k=k/\IntKind.wrap .i64 (l+(1:Int))=m/\d=d/\e=e/\a=a/\b=b/\c=c/\g=g/\h=h/\True)) (0<=k/\k<(Qbz33 a f)/\(∃(m:Int) (n:Bool),∃(o:List Int),(0<=m/\m<=(Qbz30 a f k)/\insAt i (List.take m.toNat (Qbz7 a
 f k).2.1) n o)/\f=f/\i=i/\j=j/\f.toNat=f.toNat/\k=k/\false=n/\(0:Int)=m/\d=d/\e=e/\a=a/\b=b/\c=c/\g=g/\h=h/\g=g/\h=h/\(Qbz15 a f k).2.2=(Qbz7 a f k).2.2/\o=([]:List Int)/\True)/\ ∀(m:Int) (n:Bool) (o:List Int),0<=m/\m<=(Qbz30 a f k)/\insAt i (List.take m.toNat (Qbz7 a f k).2.1) n o->0<=k/\k<(Qbz33 a f)/\ifP (decide (m<(Qbz55 a f k))) (∀(p:Bool),p= ! n->(p->(p->p)/\True)/\(p->(p->p)/\True)/\(p->(p->p)/\True)/\(p->(p->p)/\(p->p)/\0<=k/\k<(Qbz33 a f)/\True)/\(p->(p->p)/\True)/\(p->(p->p)/\True)/\(p->(p->p)/\(p->p)/\0<=m/\m<(Qbz55 a f k)/\True)/\(p->(p->p)/\True)/\(p->(p->p)/\(p->p)/\True)/\(p->p)/\ifP (bif p then decide (i<List.getD (Qbz15 a f k).2.1 m.toNat default) else false) ((o.length+List.length [i])*(8:Nat)<=(Qbz47)/\0<=k/\k<(Qbz33 a f)/\0<=m/\m<(Qbz55 a f k)/\(List.length (o++[i])+List.length [List.getD (Qbz15 a f k).2.1 m.toNat default])*(8:Nat)<=(Qbz47)/\ ∃(q:Int)
 (r:Bool),∃(s:List Int),(0<=q/\q<=(Qbz30 a f k)/\insAt i (List.take q.toNat (Qbz7 a f k).2.1) r s)/\Int.toNat ((Qbz30 a f k) -q)<Int.toNat ((Qbz30 a f k) -m)/\f=f/\i=i/\j=j/\f.toNat=f.toNat/\k=k/\true=r/\IntKind.wrap .i64 (m+(1:Int))=q/\d=d/\e=e/\a=a/\b=b/\c=c/\g=g/\h=h/\g=g/\h=h/\(Qbz7 a f k).2.2=(Qbz7 a f k).2.2/\o++[i]++[List.getD (Qbz15 a f k).2.1 m.toNat default]=s/\True) (0<=k/\k<(Qbz33 a f)/\0<=m/\m<(Qbz55 a f k)/\(o.length+List.length [List.getD (Qbz15 a f k).2.1 m.toNat default])*(8:Nat)<=(Qbz47)/\ ∃(q:Int) (r:Bool),∃(s:List Int),(0<=q/\q<=(Qbz30 a f k)/\insAt i (List.take q.toNat (Qbz7 a f k).2.1) r s)/\Int.toNat ((Qbz30 a f k) -q)<Int.toNat ((Qbz30 a f k) -m)/\f=f/\i=i/\j=j/\f.toNat=f.toNat/\k=k/\n=r/\IntKind.wrap .i64 (m+(1:Int))=q/\d=d/\e=e/\a=a/\b=b/\c=c/\g=g/\h=h/\g=g/\h=h/\(Qbz7 a f k).2.2=(Qbz7 a f k).2.2/\o++[List.getD (Qbz15 a f k).2.1 m.toNat default]=s/\True)) (ifP (!
 n) ((o.length+List.length [i])*(8:Nat)<=(Qbz47)/\sortedR (Qbz12 a f).2.2.2.2.1/\okL (Qbz12 a f).2.2.2.2.1/\((List.length (o++[i])):Int)<=1099511627776/\((List.set a f.toNat ((Qbz12 a f).1,(Qbz12 a f).2.1,(Qbz12 a f).2.2.1,(Qbz12 a f).2.2.2.1,putL (Qbz12 a f).2.2.2.2.1 ((g,h),o++[i],(Qbz7 a f k).2.2),(Qbz12 a f).2.2.2.2.2),b,c),d,e)=((routeN a f (g,h) i j,b,c),d,e)) (sortedR (Qbz12 a f).2.2.2.2.1/\okL (Qbz12 a f).2.2.2.2.1/\(o.length:Int)<=1099511627776/\((List.set a f.toNat ((Qbz12 a f).1,(Qbz12 a f).2.1,(Qbz12 a f).2.2.1,(Qbz12 a f).2.2.2.1,putL (Qbz12 a f).2.2.2.2.1 ((g,h),o,(Qbz7 a f k).2.2),(Qbz12 a f).2.2.2.2.2),b,c),d,e)=((routeN a f (g,h) i j,b,c),d,e))))) (∃(l:Int),(0<=l/\l<=(Qbz53 a f)/\ ∀(m:Route),m∈List.take l.toNat (nRoutes (Qbz12 a f))->decide (m.1=(g,h))=false)/\Int.toNat ((Qbz53 a f) -l)<Int.toNat ((Qbz53 a f) -k)/\f=f/\i=i/\j=j/\f.toNat=f.toNat/\IntKind.wrap .i64
 (k+(1:Int))=l/\d=d/\e=e/\a=a/\b=b/\c=c/\g=g/\h=h/\True)) (sortedR (Qbz12 a f).2.2.2.2.1/\okL (Qbz12 a f).2.2.2.2.1/\((List.length [i]):Int)<=1099511627776/\((List.set a f.toNat ((Qbz12 a f).1,(Qbz12 a f).2.1,(Qbz12 a f).2.2.1,(Qbz12 a f).2.2.2.1,putL (Qbz12 a f).2.2.2.2.1 ((g,h),[i],j),(Qbz12 a f).2.2.2.2.2),b,c),d,e)=((routeN a f (g,h) i j,b,c),d,e)):=by
  delta Qbz7 Qbz12 Qbz15 Qbz30 Qbz33 Qbz47 Qbz49 Qbz53 Qbz55
  rintro ns ls hs cl cp n a pl k way-⟨⟨n0,n1⟩,hsr,hol,hnx⟩
  have eR:(ns.getD n.toNat default).2.2.2.2.1=nRoutes (ns.getD n.toNat default):=rfl
  simp only [eR]
  have fin:∀ l',routeL (nRoutes (ns.getD n.toNat default)) (a,pl) k way=l'→((ns.set n.toNat ((ns.getD n.toNat default).1,(ns.getD n.toNat default).2.1,(ns.getD n.toNat default).2.2.1,(ns.getD n.toNat default).2.2.2.1,l',(ns.getD n.toNat default).2.2.2.2.2),ls,hs),cl,cp)=((routeN ns n (a,pl) k way,ls,hs),cl,cp):=by
    rintro _ rfl;rfl
  have same:routeL (nRoutes (ns.getD n.toNat default)) (a,pl) k way=nRoutes (ns.getD n.toNat default)->((ns,ls,hs),cl,cp)=((routeN ns n (a,pl) k way,ls,hs),cl,cp):=fun h=>by
    have h2:=fin _ h
    rw [← h2]
    have hn:n.toNat<ns.length:=by omega
    have e:((ns.getD n.toNat default).1,(ns.getD n.toNat default).2.1,(ns.getD n.toNat default).2.2.1,(ns.getD n.toNat default).2.2.2.1,nRoutes (ns.getD n.toNat default),(ns.getD n.toNat default).2.2.2.2.2)=ns.getD n.toNat default:=rfl
    rw [e]
    have:ns.set n.toNat (ns.getD n.toNat default)=ns:=by
      rw [List.getD_eq_getElem?_getD,List.getElem?_eq_getElem hn,Option.getD_some,List.set_getElem_self]
    rw [this]
  generalize nRoutes (ns.getD n.toNat default)=R at *
  have hlR:=hol.1
  refine ⟨n0,n1,⟨0,⟨by omega,by omega,by simp⟩,(by repeat' first|exact trivial|refine ⟨trivial,?_⟩|refine ⟨(by with_reducible rfl),?_⟩|refine ⟨w64 (by omega) (by omega),?_⟩|refine ⟨rfl,?_⟩)⟩,?_⟩
  rintro i ⟨i0,i1,hi⟩
  refine ifP_split (fun hk => ?_) (fun hk => ?_)
  rotate_left
  · have hk:=of_decide_eq_false hk
    rw [List.take_of_length_le (by omega)] at hi
    refine ⟨hsr,hol,by simp,fin _ ?_⟩
    have e:rFind R (a,pl)=R.length:=List.findIdx_eq_length_of_false hi
    rw [routeL,e,if_neg (Nat.lt_irrefl _)]
  have hk:=of_decide_eq_true hk
  refine ⟨i0,hk,ifP_split (fun hm => ?_) (fun hm => ?_)⟩
  rotate_left
  · have hf:decide ((R.getD i.toNat default).1=(a,pl))=false:=by
      refine decide_eq_false fun q => ?_
      rw [q] at hm;simp at hm
    exact ⟨i+1,⟨by omega,by omega,all_next i0 hk hi hf⟩,by omega,(by repeat' first|exact trivial|refine ⟨trivial,?_⟩|refine ⟨(by with_reducible rfl),?_⟩|refine ⟨w64 (by omega) (by omega),?_⟩|refine ⟨rfl,?_⟩)⟩
  have hm:decide ((R.getD i.toNat default).1=(a,pl))=true:=by
    generalize R.getD i.toNat default=z at hm
    obtain ⟨⟨z1,z2⟩,z3,z4⟩:=z
    simp at hm
    simp [hm]
  have hfi:i=if rFind R (a,pl)<R.length then (rFind R (a,pl):Int) else -1:=findI_at i0 hk hi hm
  have hfl:rFind R (a,pl)<R.length:=Classical.byContradiction fun q=>by rw [if_neg q] at hfi;omega
  rw [if_pos hfl] at hfi
  have hfe:rFind R (a,pl)=i.toNat:=by omega
  have hrl:=hnx _ (getD_mem i0 hk)
  have eL:routeL R (a,pl) k way=if k∈(R.getD i.toNat default).2.1 then R else putL R ((a,pl),insN k (R.getD i.toNat default).2.1,(R.getD i.toNat default).2.2):=by
    rw [routeL,if_pos hfl,hfe]
  generalize hZ:R.getD i.toNat default=Z at *
  refine ⟨⟨0,⟨by omega,by omega,by simp⟩,(by repeat' first|exact trivial|refine ⟨trivial,?_⟩|refine ⟨(by with_reducible rfl),?_⟩|refine ⟨w64 (by omega) (by omega),?_⟩|refine ⟨rfl,?_⟩)⟩,?_⟩
  rintro j ⟨j0,j1,hj⟩
  refine ⟨i0,hk,ifP_split (fun hjk => ?_) (fun hjk => ?_)⟩
  · have hjk:=of_decide_eq_true hjk
    refine ⟨i0,hk,j0,hjk,ifP_split (fun he=>same ?_) (fun he => ?_)⟩
    · have he:=of_decide_eq_true he
      rw [eL,if_pos (he▸getD_mem j0 hjk)]
    · exact ⟨j+1,⟨by omega,by omega,all_next (P:=fun x=>x≠k) j0 hjk hj (of_decide_eq_false he)⟩,by omega,(by repeat' first|exact trivial|refine ⟨trivial,?_⟩|refine ⟨(by with_reducible rfl),?_⟩|refine ⟨w64 (by omega) (by omega),?_⟩|refine ⟨rfl,?_⟩)⟩
  have hjk:=of_decide_eq_false hjk
  rw [List.take_of_length_le (by omega)] at hj
  have hnk:¬ k∈Z.2.1:=fun q=>hj k q rfl
  rw [if_neg hnk] at eL
  refine ⟨i0,hk,⟨0,false,[],⟨by omega,by omega,.inl ⟨rfl,by simp,by simp⟩⟩,(by repeat' first|exact trivial|refine ⟨trivial,?_⟩|refine ⟨(by with_reducible rfl),?_⟩|refine ⟨w64 (by omega) (by omega),?_⟩|refine ⟨rfl,?_⟩)⟩,?_⟩
  rintro m f l ⟨m0,m1,hins⟩
  have hll:(l.length:Int)<=1001:=by
    rcases hins with ⟨-,rfl,-⟩|⟨-,rfl,-⟩
    · rw [List.length_take];omega
    · rw [insN_len,List.length_take];omega
  refine ⟨i0,hk,ifP_split (fun hmk => ?_) (fun hmk => ?_)⟩
  · have hmk:=of_decide_eq_true hmk
    (repeat (intro (b_:Bool) (hb_:b_=_);(repeat refine ⟨(by first|(simp +contextual;done)|(rw [hb_];simp +contextual;done)|(rw [hb_];simp;omega)|(rw [hb_];simp;intros;omega)|(rw [hb_];simp +contextual;intros;omega)|(intros;simp_all;done)|(intros;simp_all;omega)),?_⟩)));(repeat (subst hb_))
    refine ifP_and (fun h1 h2 => ?_) (fun h1 => ?_)
    · have h1:f=false:=by simpa using h1
      have h2:=of_decide_eq_true h2
      subst h1
      rcases hins with ⟨-,rfl,hin⟩|⟨q,-⟩
      · refine ⟨by simp only [List.length_singleton];omega,i0,hk,m0,hmk,by simp only [List.length_append,List.length_singleton];omega,m+1,true,_,⟨by omega,by omega,.inr ⟨rfl,rfl,Z.2.1.getD m.toNat default,?_,h2⟩⟩,by omega,?_⟩
        · rw [take_next m0 hmk];exact List.mem_append_right _ (by simp)
        · (repeat first|refine ⟨trivial,?_⟩|refine ⟨(by with_reducible rfl),?_⟩|refine ⟨w64 (by omega) (by omega),?_⟩)
          refine ⟨?_,trivial⟩
          rw [take_next m0 hmk,insN_new hin h2]
      · cases q
    · refine ⟨i0,hk,m0,hmk,by simp only [List.length_singleton];omega,m+1,f,l++[Z.2.1.getD m.toNat default],⟨by omega,by omega,?_⟩,by omega,(by repeat' first|exact trivial|refine ⟨trivial,?_⟩|refine ⟨(by with_reducible rfl),?_⟩|refine ⟨w64 (by omega) (by omega),?_⟩|refine ⟨rfl,?_⟩)⟩
      rw [take_next m0 hmk]
      rcases hins with ⟨rfl,rfl,hin⟩|⟨rfl,rfl,hin⟩
      · refine .inl ⟨rfl,rfl,fun x hx => ?_⟩
        rcases List.mem_append.1 hx with hx|hx
        · exact hin x hx
        · rw [List.mem_singleton.1 hx]
          rcases h1 with h1|h1
          · cases h1
          · exact of_decide_eq_false h1
      · obtain ⟨x,hx,hx2⟩:=hin
        exact .inr ⟨rfl,(insN_some ⟨x,hx,hx2⟩).symm,x,List.mem_append_left _ hx,hx2⟩
  have hmk:=of_decide_eq_false hmk
  rw [List.take_of_length_le (by omega)] at hins
  refine ifP_split (fun hf => ?_) (fun hf => ?_)
  · have hf:f=false:=by simpa using hf
    rcases hins with ⟨-,rfl,hin⟩|⟨q,-⟩
    · refine ⟨by simp only [List.length_singleton];omega,hsr,hol,by simp only [List.length_append,List.length_singleton];omega,fin _ ?_⟩
      rw [eL,insN_none hin]
    · rw [hf] at q;cases q
  · have hf:f=true:=by simpa using hf
    rcases hins with ⟨q,-⟩|⟨-,rfl,hin⟩
    · rw [hf] at q;cases q
    · exact ⟨hsr,hol,by omega,fin _ eL⟩
theorem ok_draw_scene_route:SpecOK Tryd.prog GL 36 ct_draw_scene_route.spec:=Ct.okH _ Tryd.func36 (by kernel_rfl) (withSpec_ok noSpecs_ok ok_ref09_Put) hmix an_draw_scene_route (hideMp (by kernel_rfl) vc_draw_scene_route)
def dist0 (n:Nat) (to:Int):List Int:=(List.replicate n (1000:Int)).set to.toNat 0
def distK (n:Nat) (ls:List Link) (to:Int) (k:Nat):List Int:=(List.range k).foldl (fun d _=>ls.foldl relax d) (dist0 n to)
theorem rep_next {n:Nat} {i:Int} (h0:0<=i) (h1:i<n):(List.replicate i.toNat (1000:Int)++List.replicate (n-i.toNat) 0).set i.toNat 1000=List.replicate (i+1).toNat 1000++List.replicate (n-(i+1).toNat) 0:=by
  have e:(i+1).toNat=i.toNat+1:=by omega
  have e2:n-i.toNat=(n-(i.toNat+1))+1:=by omega
  rw [e,e2,List.set_append_right _ _ (by simp),List.length_replicate,Nat.sub_self,List.replicate_succ,List.set_cons_zero,List.replicate_succ',List.append_assoc]
  rfl
def okD (n:Nat) (d:List Int):Prop:=d.length=n∧∀ x∈d,0<=x/\x<=1000
theorem okD_set {n:Nat} {d:List Int} {i:Nat} {v:Int} (h:okD n d) (h0:0<=v) (h1:v<=1000):okD n (d.set i v):=by
  refine ⟨by rw [List.length_set];exact h.1,fun x hx => ?_⟩
  rcases List.mem_or_eq_of_mem_set hx with hx|rfl
  · exact h.2 x hx
  · exact ⟨h0,h1⟩
theorem okD_get {n:Nat} {d:List Int} (h:okD n d) {i:Int} (h0:0<=i) (h1:i<n):0<=d.getD i.toNat default/\d.getD i.toNat default<=1000:=h.2 _ (getD_mem h0 (by rw [h.1];exact h1))
theorem relax_ok {n:Nat} {d:List Int} {l:Link} (h:okD n d) (hl:0<=l.1/\l.1<n/\0<=l.2.1/\l.2.1<n):okD n (relax d l):=by
  have ha:=okD_get h hl.1 hl.2.1
  have hb:=okD_get h hl.2.2.1 hl.2.2.2
  unfold relax lA lB
  exact okD_set (okD_set h (by omega) (by omega)) (by omega) (by omega)
theorem relax_fold_all {n:Nat}:∀ {ls:List Link} {d:List Int},goodEnds n ls->okD n d->okD n (ls.foldl relax d)
  | [],d,_,h=>h
  | l::ls,d,hg,h=>relax_fold_all (ls:=ls) (fun x hx=>hg x (List.mem_cons_of_mem _ hx)) (relax_ok h (hg l List.mem_cons_self))
theorem relax_fold_ok {n:Nat} {ls:List Link} {d:List Int} (hg:goodEnds n ls) (h:okD n d) (j:Nat):okD n ((ls.take j).foldl relax d) :=
  relax_fold_all (fun x hx=>hg x (List.mem_of_mem_take hx)) h
theorem distK_ok (n:Nat) (ls:List Link) (to:Int) (hg:goodEnds n ls):∀ k,okD n (distK n ls to k)
  | 0=>okD_set ⟨List.length_replicate,fun x hx=>by rw [(List.mem_replicate.1 hx).2];omega⟩ (by omega) (by omega)
  | k+1=>by
    have:=relax_fold_all hg (distK_ok n ls to hg k)
    unfold distK at this ⊢
    rw [List.range_succ,List.foldl_append];exact this
def ct_draw_scene_distances:Ct:=⟨[.box 60 oScene,.val cI],[.own 3 cI],fun d=>[(d.1.1.1.length:Int)<=1000,(d.1.1.2.1.length:Int)<=1000,inN d.1.1.1 d.2.1,goodEnds d.1.1.1.length d.1.1.2.1],fun d=>((distL d.1.1.1.length d.1.1.2.1 d.2.1,()),(d.1,()))⟩
def an_draw_scene_distances:PDs ct_draw_scene_distances.ps->Anns:=(fun d=>{loops:=(fun n=>match n with|3=>some (fun S=>{ι:=Int×(List Int),qn:=⟨fun k_=>∀ (i:Int) (l:(List Int)),k_ (i,l),fun k_ h_ i=>h_ i.1 i.2,fun k_=>∃ (i:Int) (l:(List Int)),k_ (i,l),fun k_ ⟨i,l,h_⟩=>⟨_,h_⟩⟩,μ:=fun i=>(d.1.1.1.length-i.1).toNat,inv:=fun i=>0<=i.1/\i.1<=d.1.1.1.length/\i.2=List.replicate i.1.toNat 1000++List.replicate (d.1.1.1.length-i.1.toNat) 0,keep:=[0,1],slots:=fun i=>[(6,.int .i64 i.1),(5,.own 524288 1)],keepN:=[1048576,1048577,2097152,2097153,2097154],names:=fun i=>[(524288,.live (.row 3 cI i.2))]})|8=>some (fun S=>{ι:=Int×(List Int),qn:=⟨fun k_=>∀ (k:Int) (l:(List Int)),k_ (k,l),fun k_ h_ i=>h_ i.1 i.2,fun k_=>∃ (k:Int) (l:(List Int)),k_ (k,l),fun k_ ⟨k,l,h_⟩=>⟨_,h_⟩⟩,μ:=fun i=>(d.1.1.1.length-i.1).toNat,inv:=fun i=>0<=i.1/\i.1<=d.1.1.1.length/\i.2=distK d.1.1.1.length d.1.1.2.1 d.2.1 i.1.toNat,keep:=[0,1],slots:=fun i=>[(7,.int .i64 i.1),(5,.own 524288 1)],keepN:=[1048576,1048577,2097152,2097153,2097154],names:=fun i=>[(524288,.live (.row 3 cI i.2))]})|11=>some (fun S=>{ι:=Int×(List Int),qn:=⟨fun k_=>∀ (i:Int) (l:(List Int)),k_ (i,l),fun k_ h_ i=>h_ i.1 i.2,fun k_=>∃ (i:Int) (l:(List Int)),k_ (i,l),fun k_ ⟨i,l,h_⟩=>⟨_,h_⟩⟩,μ:=fun i=>(d.1.1.2.1.length-i.1).toNat,inv:=fun i=>0<=i.1/\i.1<=d.1.1.2.1.length/\i.2=(d.1.1.2.1.take i.1.toNat).foldl relax (distK d.1.1.1.length d.1.1.2.1 d.2.1 (S.i 7).toNat),keep:=[0,1,7],slots:=fun i=>[(8,.int .i64 i.1),(5,.own 524288 1)],keepN:=[1048576,1048577,2097152,2097153,2097154],names:=fun i=>[(524288,.live (.row 3 cI i.2))]})|_=>none)})
def Qbz31 (b:List Link) (k:Int) :=
 b.getD k.toNat default
def Qbz48 (b:List Link) (k:Int) (l:List Int) :=
 List.set l (Int.toNat (Qbz31 b k).1) (min (l.getD (Int.toNat (Qbz31 b k).1) default) (IntKind.wrap .i64 (l.getD (Int.toNat (Qbz31 b k).2.1) default+(1:Int))))
theorem vc_draw_scene_distances :
 ∀(a:List Node) (b:List Link) (c:List Change) (d:List Int) (e f:Int),(Qbz26 a b c d e)/\R64 f/\True->((Qbz49 a)<=1000/\(Qbz41 b)<=1000/\inN a f/\ ∀(g:Link),g∈b->0<=g.1/\g.1<(Qbz49 a)/\0<=g.2.1/\g.2.1<(Qbz49 a))->0<=(Qbz49 a)/\(Qbz49 a)<=(Qbz49 a)/\(↑(8:Nat):Int)*(Qbz49 a)<=281474976710656/\(∃(g:Int) (h:List Int),(0<=g/\g<=(Qbz49 a)/\h=List.replicate g.toNat (1000:Int)++List.replicate (a.length -g.toNat) (0:Int))/\f=f/\(0:Int)=g/\d=d/\e=e/\a=a/\b=b/\c=c/\List.replicate (Int.toNat (Qbz49 a)) (0:Int)=h/\True)/\ ∀(g:Int) (h:List Int),0<=g/\g<=(Qbz49 a)/\h=List.replicate g.toNat (1000:Int)++List.replicate (a.length -g.toNat) (0:Int)->ifP (decide (g<(h.length:Int))) (0<=g/\g<(h.length:Int)/\ ∃(i:Int) (j:List Int),(0<=i/\i<=(Qbz49 a)/\j=List.replicate i.toNat (1000:Int)++List.replicate (a.length -i.toNat) (0:Int))/\Int.toNat ((Qbz49 a) -i)<Int.toNat ((Qbz49 a) -g)/\f=f/\IntKind.wrap .i64
 (g+(1:Int))=i/\d=d/\e=e/\a=a/\b=b/\c=c/\List.set h g.toNat (1000:Int)=j/\True) (0<=f/\f<(h.length:Int)/\(∃(i:Int) (j:List Int),(0<=i/\i<=(Qbz49 a)/\j=distK a.length b f i.toNat)/\f=f/\(0:Int)=i/\d=d/\e=e/\a=a/\b=b/\c=c/\List.set h f.toNat (0:Int)=j/\True)/\ ∀(i:Int) (j:List Int),0<=i/\i<=(Qbz49 a)/\j=distK a.length b f i.toNat->ifP (decide (i<(j.length:Int))) ((∃(k:Int) (l:List Int),(0<=k/\k<=(Qbz41 b)/\l=List.foldl relax (distK a.length b f i.toNat) (List.take k.toNat b))/\f=f/\i=i/\(0:Int)=k/\d=d/\e=e/\a=a/\b=b/\c=c/\j=l/\True)/\ ∀(k:Int) (l:List Int),0<=k/\k<=(Qbz41 b)/\l=List.foldl relax (distK a.length b f i.toNat) (List.take k.toNat b)->ifP (decide (k<(Qbz41 b))) (0<=k/\k<(Qbz41 b)/\0<=(Qbz31 b k).1/\(Qbz31 b k).1<(l.length:Int)/\0<=(Qbz31 b k).2.1/\(Qbz31 b k).2.1<(l.length:Int)/\0<=(Qbz31 b k).2.1/\(Qbz31 b k).2.1<(l.length:Int)/\0<=(Qbz31 b k).1/\(Qbz31 b
 k).1<(l.length:Int)/\0<=(Qbz31 b k).1/\(Qbz31 b k).1<(l.length:Int)/\0<=(Qbz31 b k).2.1/\(Qbz31 b k).2.1<((List.length (Qbz48 b k l)):Int)/\ ∃(m:Int) (n:List Int),(0<=m/\m<=(Qbz41 b)/\n=List.foldl relax (distK a.length b f i.toNat) (List.take m.toNat b))/\Int.toNat ((Qbz41 b) -m)<Int.toNat ((Qbz41 b) -k)/\f=f/\i=i/\IntKind.wrap .i64 (k+(1:Int))=m/\d=d/\e=e/\a=a/\b=b/\c=c/\List.set (Qbz48 b k l) (Int.toNat (Qbz31 b k).2.1) (min (l.getD (Int.toNat (Qbz31 b k).2.1) default) (IntKind.wrap .i64 (l.getD (Int.toNat (Qbz31 b k).1) default+(1:Int))))=n/\True) (∃(m:Int) (n:List Int),(0<=m/\m<=(Qbz49 a)/\n=distK a.length b f m.toNat)/\Int.toNat ((Qbz49 a) -m)<Int.toNat ((Qbz49 a) -i)/\f=f/\IntKind.wrap .i64 (i+(1:Int))=m/\d=d/\e=e/\a=a/\b=b/\c=c/\l=n/\True)) (j=distL a.length b f/\((a,b,c),d,e)=((a,b,c),d,e))):=by
  delta Qbz26 Qbz31 Qbz41 Qbz48 Qbz49
  rintro ns ls hs l p to-⟨h1,h2,⟨t0,t1⟩,hg⟩
  have hn0:Int.toNat (ns.length:Int)=ns.length:=by omega
  refine ⟨by omega,by omega,by omega,⟨0,_,⟨by omega,by omega,rfl⟩,?_⟩,?_⟩
  · (repeat refine ⟨(by with_reducible rfl),?_⟩)
    refine ⟨?_,trivial⟩
    simp
  rintro i d ⟨i0,i1,rfl⟩
  have hlen:(List.replicate i.toNat (1000:Int)++List.replicate (ns.length-i.toNat) 0).length=ns.length:=by
    simp only [List.length_append,List.length_replicate];omega
  rw [hlen]
  refine ifP_split (fun hk => ?_) (fun hk => ?_)
  · have hk:=of_decide_eq_true hk
    refine ⟨i0,hk,i+1,_,⟨by omega,by omega,rfl⟩,by omega,?_⟩
    (repeat refine ⟨(by with_reducible rfl),?_⟩)
    refine ⟨w64 (by omega) (by omega),?_⟩
    (repeat refine ⟨(by with_reducible rfl),?_⟩)
    refine ⟨?_,trivial⟩
    exact rep_next i0 hk
  have hk:=of_decide_eq_false hk
  have e:i.toNat=ns.length:=by omega
  rw [e,Nat.sub_self,List.replicate_zero,List.append_nil]
  refine ⟨t0,t1,⟨0,_,⟨by omega,by omega,rfl⟩,?_⟩,?_⟩
  · (repeat refine ⟨(by with_reducible rfl),?_⟩)
    exact ⟨rfl,trivial⟩
  rintro k d ⟨k0,k1,rfl⟩
  have dl:=distK_ok (ns.length) ls to hg
  rw [(dl k.toNat).1]
  refine ifP_split (fun hk2 => ?_) (fun hk2 => ?_)
  rotate_left
  · have hk2:=of_decide_eq_false hk2
    have e:k.toNat=ns.length:=by omega
    rw [e];exact ⟨rfl,rfl⟩
  have hk2:=of_decide_eq_true hk2
  refine ⟨⟨0,_,⟨by omega,by omega,rfl⟩,?_⟩,?_⟩
  · (repeat refine ⟨(by with_reducible rfl),?_⟩)
    exact ⟨rfl,trivial⟩
  rintro j d ⟨j0,j1,rfl⟩
  have fl:=relax_fold_ok hg (dl k.toNat) j.toNat
  refine ifP_split (fun hj => ?_) (fun hj => ?_)
  rotate_left
  · have hj:=of_decide_eq_false hj
    refine ⟨k+1,_,⟨by omega,by omega,rfl⟩,by omega,?_⟩
    (repeat refine ⟨(by with_reducible rfl),?_⟩)
    refine ⟨w64 (by omega) (by omega),?_⟩
    (repeat refine ⟨(by with_reducible rfl),?_⟩)
    refine ⟨?_,trivial⟩
    rw [List.take_of_length_le (by omega),show (k+1).toNat=k.toNat+1 by omega]
    unfold distK
    rw [List.range_succ,List.foldl_append];rfl
  have hj:=of_decide_eq_true hj
  obtain ⟨g1,g2,g3,g4⟩:=hg _ (getD_mem j0 hj)
  generalize hX:List.foldl relax (distK ns.length ls to k.toNat) (ls.take j.toNat)=X at fl
  have xa:=fl.2 _ (getD_mem g1 (show _<(X.length:Int) by rw [fl.1];exact g2))
  have xb:=fl.2 _ (getD_mem g3 (show _<(X.length:Int) by rw [fl.1];exact g4))
  simp only [List.length_set]
  rw [fl.1]
  refine ⟨j0,hj,g1,g2,g3,g4,g3,g4,g1,g2,g1,g2,g3,g4,j+1,_,⟨by omega,by omega,rfl⟩,by omega,?_⟩
  (repeat first|refine ⟨trivial,?_⟩|refine ⟨(by with_reducible rfl),?_⟩|refine ⟨w64 (by omega) (by omega),?_⟩)
  refine ⟨?_,trivial⟩
  rw [w64 (by omega) (by omega),w64 (by omega) (by omega),take_next j0 hj,List.foldl_append,hX]
  rfl
theorem ok_draw_scene_distances:SpecOK Tryd.prog GL 34 ct_draw_scene_distances.spec:=Ct.okH _ Tryd.func34 (by kernel_rfl) noSpecs_ok hmix an_draw_scene_distances (hideMp (by kernel_rfl) vc_draw_scene_distances)
def ct_draw_has:Ct:=⟨[.val (.sl cRt),.agg cPfx],[.val .bool],fun d=>[okL d.1],fun d=>((hasL d.1 d.2.1,()),())⟩
def an_draw_has:PDs ct_draw_has.ps->Anns:=(fun _=>{})
theorem vc_draw_has :
 ∀(a:List Route) (b c:Int),(a.length<=maxLen/\ ∀(d:Route),d∈a->((0<=d.1.1/\d.1.1<=4294967295)/\R64 d.1.2)/\(d.2.1.length<=maxLen/\ ∀(e:Int),e∈d.2.1->R64 e)/\R64 d.2.2)/\((0<=b/\b<=4294967295)/\R64 c)/\True->((a.length:Int)<=134217728/\ ∀(d:Rt),d∈a->(d.2.1.length:Int)<=1099511627776)->okL a/\hasL a (b,c)=hasL a (b,c):=by
  rintro l a n-h
  exact ⟨h,rfl⟩
theorem ok_draw_has:SpecOK Tryd.prog GL 35 ct_draw_has.spec:=Ct.okH _ Tryd.func35 (by kernel_rfl) (withSpec_ok noSpecs_ok ok_ref09_Has) hmix an_draw_has (hideMp (by kernel_rfl) vc_draw_has)
def ct_draw_Codes_fixed:Ct:=⟨[.box 57 cCodes],[.val cU32],fun d=>[okC d.1],fun d=>((IntKind.u32.wrap (167837696+(nextV d.1 40).1),()),((nextV d.1 40).2,()))⟩
def an_draw_Codes_fixed:PDs ct_draw_Codes_fixed.ps->Anns:=(fun _=>{})
theorem vc_draw_Codes_fixed :
 ∀(a:List Int) (b:Int),((a.length<=maxLen/\ ∀(c:Int),c∈a->0<=c/\c<=255)/\R64 b)/\True->0<=b/\b<=(a.length:Int)->okC (a,b)/\IntKind.wrap .u32 (IntKind.wrap .i64 ((167837696:Int)+(nextV (a,b) (40:Int)).1))=IntKind.wrap .u32 ((167837696:Int)+(nextV (a,b) (40:Int)).1)/\(nextV (a,b) (40:Int)).2=(nextV (a,b) (40:Int)).2:=by
  rintro l p ⟨⟨⟨hl,hw⟩,-⟩,-⟩ hc
  have hok:okB (l,p):=⟨hc,hw⟩
  have r2:=nextV_lt hok (n:=40) (by omega)
  refine ⟨hc,?_,rfl⟩
  rw [w64 (n:=167837696+_) (by omega) (by omega)]
theorem ok_draw_Codes_fixed:SpecOK Tryd.prog GL 37 ct_draw_Codes_fixed.spec:=Ct.okH _ Tryd.func37 (by kernel_rfl) (withSpec_ok noSpecs_ok ok_Nextx) hmix an_draw_Codes_fixed (hideMp (by kernel_rfl) vc_draw_Codes_fixed)
def stepH (d:List Int) (to:Int) (p:Pfx) (plain:Bool) (k way:Int) (ns:List Node) (l:Link) (e:Int):List Node :=
  if e=0 then ns else if e=1 then stepE d to p plain k way ns (lA l) (lB l) else stepE d to p plain k way (stepE d to p plain k way ns (lA l) (lB l)) (lB l) (lA l)
structure preR (s:Scene):Prop where
  c:okC s.2
  n:(s.1.1.length:Int)<=1000
  l:(s.1.2.1.length:Int)<=1000
  g:goodEnds s.1.1.length s.1.2.1
  r:∀ x∈s.1.1,nRoutes x=[]
  a:((allA s.1.1).length:Int)<=100000
theorem ports_len {ns:List Node} {i:Nat} (hi:i<ns.length):(nPorts (ns.getD i default)).length<=(allA ns).length:=by
  have hx:ns.getD i default∈ns:=by
    have:=getD_mem (xs:=ns) (i:=(i:Nat)) (by omega) (by omega)
    simpa using this
  unfold allA
  generalize ns.getD i default=x at hx ⊢
  obtain ⟨u,v,e⟩:=List.append_of_mem hx
  rw [e];simp only [List.flatMap_append,List.flatMap_cons,List.length_append,List.length_map];omega
theorem RI.pre {ls:List Link} {ns0 ns:List Node} (h:RI ls (allA ns0) ns0 ns) (ha:((allA ns0).length:Int)<=100000) (hl:(ls.length:Int)<=1000) {u:Int} (u0:0<=u) (u1:u<ns0.length) :
    inN ns u/\sortedR (nRoutes (ns.getD u.toNat default))/\okL (nRoutes (ns.getD u.toNat default))∧∀ r∈nRoutes (ns.getD u.toNat default),(r.2.1.length:Int)<=1000:=by
  have t:=h.t u.toNat (by omega)
  have tl:=tabOK_len t
  have rl:∀ r∈nRoutes (ns.getD u.toNat default),(r.2.1.length:Int)<=1000:=fun r hr=>by have:=rtOK_len (t.2 r hr);omega
  refine ⟨⟨u0,by rw [h.n];exact u1⟩,t.1,⟨by omega,fun r hr => ?_⟩,rl⟩
  have:=rl r hr;omega
def ct_draw_scene_routes:Ct:=⟨[.box 60 oScene,.val .bool],[],fun d=>[preR d.1],fun d=>((),(routesS d.1 d.2.1,()))⟩
def an_draw_scene_routes:PDs ct_draw_scene_routes.ps->Anns:=(fun d=>{loops:=(fun n=>match n with|1=>some (fun S=>{ι:=Int×(List Node)×Codes,qn:=⟨fun k_=>∀ (to:Int) (ns:(List Node)) (cs:Codes),k_ (to,ns,cs),fun k_ h_ i=>h_ i.1 i.2.1 i.2.2,fun k_=>∃ (to:Int) (ns:(List Node)) (cs:Codes),k_ (to,ns,cs),fun k_ ⟨to,ns,cs,h_⟩=>⟨_,h_⟩⟩,μ:=fun i=>(d.1.1.1.length-i.1).toNat,inv:=fun i=>0<=i.1/\i.1<=d.1.1.1.length/\(i.2.1,i.2.2)=(List.range i.1.toNat).foldl (stepT d.1.1.2.1 d.2.1) (d.1.1.1,d.1.2),keep:=[0,1],slots:=fun i=>[(4,.int .i64 i.1)],names:=fun i=>[(1048576,.live (.cells 60 [.own 524288 16,.own 524289 6,.own 524290 7,.ptr 1048577 0])),(524288,.live (.row 54 cNode i.2.1)),(524289,.live (.row 39 cLink d.1.1.2.1)),(524290,.live (.row 70 cChange d.1.1.2.2)),(1048577,.live (.cells 57 (flat cCodes i.2.2)))]})|9=>some (fun S=>{ι:=Int×(List Node),qn:=⟨fun k_=>∀ (i:Int) (ns:(List Node)),k_ (i,ns),fun k_ h_ i=>h_ i.1 i.2,fun k_=>∃ (i:Int) (ns:(List Node)),k_ (i,ns),fun k_ ⟨i,ns,h_⟩=>⟨_,h_⟩⟩,μ:=fun i=>((S.l cPort 7).length-i.1).toNat,inv:=fun i=>0<=i.1/\i.1<=(S.l cPort 7).length/\i.2=((S.l cPort 7).take i.1.toNat).foldl (stepP d.1.1.2.1 (distL d.1.1.1.length d.1.1.2.1 (S.i 4)) (S.i 4) d.2.1 (S.i 6)) (S.r cNode 449),keep:=[0,1,4,5,6,7],slots:=fun i=>[(8,.int .i64 i.1)],keepN:=[448,1048577],names:=fun i=>[(1048576,.live (.cells 60 [.own 524288 16,.own 524289 6,.own 524290 7,.ptr 1048577 0])),(524288,.live (.row 54 cNode i.2)),(524289,.live (.row 39 cLink d.1.1.2.1)),(524290,.live (.row 70 cChange d.1.1.2.2))]})|13=>some (fun S=>{ι:=Int×(List Node),qn:=⟨fun k_=>∀ (k:Int) (ns:(List Node)),k_ (k,ns),fun k_ h_ i=>h_ i.1 i.2,fun k_=>∃ (k:Int) (ns:(List Node)),k_ (k,ns),fun k_ ⟨k,ns,h_⟩=>⟨_,h_⟩⟩,μ:=fun i=>(d.1.1.2.1.length-i.1).toNat,inv:=fun i=>0<=i.1/\i.1<=d.1.1.2.1.length/\i.2=(List.range i.1.toNat).foldl (stepK d.1.1.2.1 (distL d.1.1.1.length d.1.1.2.1 (S.i 4)) (S.i 4) (S.c cPfx 160) d.2.1 (S.i 6)) (S.r cNode 524288),keep:=[0,1,4,5,6,7,8,9],slots:=fun i=>[(10,.int .i64 i.1)],keepN:=[160,448,1048577],names:=fun i=>[(1048576,.live (.cells 60 [.own 524288 16,.own 524289 6,.own 524290 7,.ptr 1048577 0])),(524288,.live (.row 54 cNode i.2)),(524289,.live (.row 39 cLink d.1.1.2.1)),(524290,.live (.row 70 cChange d.1.1.2.2))]})|18=>some (fun S=>{ι:=Int×(List Node),qn:=⟨fun k_=>∀ (e:Int) (ns:(List Node)),k_ (e,ns),fun k_ h_ i=>h_ i.1 i.2,fun k_=>∃ (e:Int) (ns:(List Node)),k_ (e,ns),fun k_ ⟨e,ns,h_⟩=>⟨_,h_⟩⟩,μ:=fun i=>(2-i.1).toNat,inv:=fun i=>0<=i.1/\i.1<=2/\i.2=stepH (distL d.1.1.1.length d.1.1.2.1 (S.i 4)) (S.i 4) (S.c cPfx 160) d.2.1 (S.i 10) (S.i 6) (S.r cNode 524288) (S.c cLink 192) i.1,keep:=[0,1,4,5,6,7,8,9,10,11,12],slots:=fun i=>[(13,.int .i64 i.1)],keepN:=[160,192,448,1504,1048577],names:=fun i=>[(1048576,.live (.cells 60 [.own 524288 16,.own 524289 6,.own 524290 7,.ptr 1048577 0])),(524288,.live (.row 54 cNode i.2)),(524289,.live (.row 39 cLink d.1.1.2.1)),(524290,.live (.row 70 cChange d.1.1.2.2))]})|_=>none),cuts:=(fun n=>match n with|7=>some (fun S=>{ι:=Int×Codes,qn:=⟨fun k_=>∀ (way:Int) (cs:Codes),k_ (way,cs),fun k_ h_ i=>h_ i.1 i.2,fun k_=>∃ (way:Int) (cs:Codes),k_ (way,cs),fun k_ ⟨way,cs,h_⟩=>⟨_,h_⟩⟩,inv:=fun i=>(i.1,i.2)=wayC ((List.range (S.i 4).toNat).foldl (stepT d.1.1.2.1 d.2.1) (d.1.1.1,d.1.2)).2,keep:=[0,1,4,5],slots:=fun i=>[(6,.int .i64 i.1)],keepN:=[448,1048576,449,450,451],names:=fun i=>[(1048577,.live (.cells 57 (flat cCodes i.2)))]})|_=>none)})
def Qbz8 (b:List Link) (n:Int) :=
 b.getD n.toNat default
def Qbz39 (b:List Link) (n:Int) :=
 ((Qbz8 b n).1,(Qbz8 b n).2.1)
def Qbz40 (b:List Link) (n:Int) :=
 ((Qbz8 b n).2.1,(Qbz8 b n).1)
def Qbz4 (b:List Link) (n p:Int) :=
 List.getD [(Qbz39 b n),(Qbz40 b n)] p.toNat default
def Qbz25 (g:Int) (h:List Node) :=
 h.getD g.toNat default
def Qbz10 (g:Int) (h:List Node) (l:Int) :=
 List.getD (Qbz25 g h).1 l.toNat default
def Qbz38 (r s:Bool) :=
 (! r&&s)->((! r&&s)->(! r&&s))/\True
def Qbz46 (g:Int) (h:List Node) :=
 ((List.length (Qbz25 g h).1):Int)
def Qbz56 (g:Int) (h:List Node) (l:Int) :=
 ((Qbz10 g h l).1,(32:Int))
def Qbz62 (i:Codes) :=
 nextV (nextV i 3).2 (3:Int)
theorem vc_draw_scene_routes :
 ∀(a:List Node) (b:List Link) (c:List Change) (d:List Int) (e:Int) (f:Bool),(Qbz26 a b c d e)/\True/\True->preR ((a,b,c),d,e)->(∃(g:Int) (h:List Node),∃(i:Codes),(0<=g/\g<=(Qbz49 a)/\(h,i)=List.foldl (stepT b f) (a,d,e) (List.range g.toNat))/\f=f/\(0:Int)=g/\a=h/\b=b/\c=c/\d=i.1/\e=i.2/\True)/\ ∀(g:Int) (h:List Node) (i:Codes),0<=g/\g<=(Qbz49 a)/\(h,i)=List.foldl (stepT b f) (a,d,e) (List.range g.toNat)->ifP (decide (g<(h.length:Int))) ((h.length:Int)<=1000/\(Qbz41 b)<=1000/\inN h g/\goodEnds h.length b/\okC i/\(∀(j:Bool),j=decide (IntKind.wrap .i64 ((1:Int)+(nextV i 3).1)=3)->(j->(j->j)/\True)/\(j->(j->j)/\True)/\(j->(j->j)/\True)/\ifP j ((j->j)/\okC (nextV i 3).2/\(j->j)/\ifP (bif j then decide (0<(Qbz62 i).1) else false) (∃(k:Int) (l:Codes),(k,l)=wayC (List.foldl (stepT b f) (a,d,e) (List.range g.toNat)).2/\f=f/\g=g/\(1:Int)=k/\distL h.length b g=distL h.length b
 g/\h=h/\b=b/\c=c/\(Qbz62 i).2.1=l.1/\(Qbz62 i).2.2=l.2/\True) (∃(k:Int) (l:Codes),(k,l)=wayC (List.foldl (stepT b f) (a,d,e) (List.range g.toNat)).2/\f=f/\g=g/\IntKind.wrap .i64 ((1:Int)+(nextV i 3).1)=k/\distL h.length b g=distL h.length b g/\h=h/\b=b/\c=c/\(Qbz62 i).2.1=l.1/\(Qbz62 i).2.2=l.2/\True)) (j=false/\(j->false=true)/\ifP (bif j then false else false) (∃(k:Int) (l:Codes),(k,l)=wayC (List.foldl (stepT b f) (a,d,e) (List.range g.toNat)).2/\f=f/\g=g/\(1:Int)=k/\distL h.length b g=distL h.length b g/\h=h/\b=b/\c=c/\(nextV i 3).2.1=l.1/\(nextV i 3).2.2=l.2/\True) (∃(k:Int) (l:Codes),(k,l)=wayC (List.foldl (stepT b f) (a,d,e) (List.range g.toNat)).2/\f=f/\g=g/\IntKind.wrap .i64 ((1:Int)+(nextV i 3).1)=k/\distL h.length b g=distL h.length b g/\h=h/\b=b/\c=c/\(nextV i 3).2.1=l.1/\(nextV i 3).2.2=l.2/\True)))/\ ∀(j:Int) (k:Codes),(j,k)=wayC (List.foldl (stepT b f) (a,d,e) (List.range
 g.toNat)).2->0<=g/\g<(h.length:Int)/\(∃(l:Int) (m:List Node),(0<=l/\l<=(Qbz46 g h)/\m=List.foldl (stepP b (distL a.length b g) g f j) h (List.take l.toNat (Qbz25 g h).1))/\f=f/\g=g/\j=j/\(Qbz25 g h).1=(Qbz25 g h).1/\(0:Int)=l/\distL h.length b g=distL h.length b g/\k.1=k.1/\k.2=k.2/\h=m/\b=b/\c=c/\True)/\ ∀(l:Int) (m:List Node),0<=l/\l<=(Qbz46 g h)/\m=List.foldl (stepP b (distL a.length b g) g f j) h (List.take l.toNat (Qbz25 g h).1)->ifP (decide (l<(Qbz46 g h))) (0<=l/\l<(Qbz46 g h)/\(∃(n:Int) (o:List Node),(0<=n/\n<=(Qbz41 b)/\o=List.foldl (stepK b (distL a.length b g) g (Qbz56 g h l) f j) m (List.range n.toNat))/\f=f/\g=g/\j=j/\(Qbz25 g h).1=(Qbz25 g h).1/\l=l/\(0:Int)=n/\(Qbz10 g h l).1=(Qbz10 g h l).1/\(32:Int)=32/\distL h.length b g=distL h.length b g/\k.1=k.1/\k.2=k.2/\m=o/\b=b/\c=c/\True)/\ ∀(n:Int) (o:List Node),0<=n/\n<=(Qbz41 b)/\o=List.foldl (stepK b (distL a.length b g) g
 (Qbz56 g h l) f j) m (List.range n.toNat)->ifP (decide (n<(Qbz41 b))) (0<=n/\n<(Qbz41 b)/\(∃(p:Int) (q:List Node),(0<=p/\p<=2/\q=stepH (distL a.length b g) g (Qbz56 g h l) f n j o (Qbz8 b n) p)/\f=f/\g=g/\j=j/\(Qbz25 g h).1=(Qbz25 g h).1/\l=l/\n=n/\(0:Int)=p/\(Qbz10 g h l).1=(Qbz10 g h l).1/\(32:Int)=32/\(Qbz8 b n).1=(Qbz8 b n).1/\(Qbz8 b n).2.1=(Qbz8 b n).2.1/\(Qbz8 b n).2.2.1=(Qbz8 b n).2.2.1/\(Qbz8 b n).2.2.2.1=(Qbz8 b n).2.2.2.1/\(Qbz8 b n).2.2.2.2.1=(Qbz8 b n).2.2.2.2.1/\(Qbz8 b n).2.2.2.2.2=(Qbz8 b n).2.2.2.2.2/\distL h.length b g=distL h.length b g/\[(Qbz39 b n),(Qbz40 b n)]=[(Qbz39 b n),(Qbz40 b n)]/\k.1=k.1/\k.2=k.2/\o=q/\b=b/\c=c/\True)/\ ∀(p:Int) (q:List Node),0<=p/\p<=2/\q=stepH (distL a.length b g) g (Qbz56 g h l) f n j o (Qbz8 b n) p->ifP (decide (p<2)) (0<=p/\p<((List.length [(Qbz39 b n),(Qbz40 b n)]):Int)/\0<=(Qbz4 b n p).1/\(Qbz4 b n p).1<((List.length (distL h.length b
 g)):Int)/\0<=(Qbz4 b n p).2/\(Qbz4 b n p).2<((List.length (distL h.length b g)):Int)/\ ∀(r:Bool),r= ! decide (List.getD (distL h.length b g) (Int.toNat (Qbz4 b n p).1) default=IntKind.wrap .i64 (List.getD (distL h.length b g) (Int.toNat (Qbz4 b n p).2) default+(1:Int)))->((! r)->((! r)->(! r))/\True)/\((! r)->((! r)->(! r))/\((! r)->(! r))/\True)/\((! r)->((! r)->(! r))/\True)/\ ∀(s:Bool),s= ! decide ((Qbz4 b n p).2=g)->(Qbz38 r s)/\(Qbz38 r s)/\(Qbz38 r s)/\(Qbz38 r s)/\(Qbz38 r s)/\((! r&&s)->((! r&&s)->(! r&&s))/\((! r&&s)->(! r&&s))/\0<=(Qbz4 b n p).2/\(Qbz4 b n p).2<(q.length:Int)/\True)/\(Qbz38 r s)/\(Qbz38 r s)/\((! r)->((! r)->(! r))/\(s->(! r&&s))/\True)/\(r=false->(! r))/\ifP (bif r then true else bif s then (q.getD (Int.toNat (Qbz4 b n p).2) default).2.2.2.1 else false) (∃(t:Int) (u:List Node),(0<=t/\t<=2/\u=stepH (distL a.length b g) g (Qbz56 g h l) f n j o (Qbz8 b n)
 t)/\Int.toNat ((2:Int) -t)<Int.toNat ((2:Int) -p)/\f=f/\g=g/\j=j/\(Qbz25 g h).1=(Qbz25 g h).1/\l=l/\n=n/\IntKind.wrap .i64 (p+(1:Int))=t/\(Qbz10 g h l).1=(Qbz10 g h l).1/\(32:Int)=32/\(Qbz8 b n).1=(Qbz8 b n).1/\(Qbz8 b n).2.1=(Qbz8 b n).2.1/\(Qbz8 b n).2.2.1=(Qbz8 b n).2.2.1/\(Qbz8 b n).2.2.2.1=(Qbz8 b n).2.2.2.1/\(Qbz8 b n).2.2.2.2.1=(Qbz8 b n).2.2.2.2.1/\(Qbz8 b n).2.2.2.2.2=(Qbz8 b n).2.2.2.2.2/\distL h.length b g=distL h.length b g/\[(Qbz39 b n),(Qbz40 b n)]=[(Qbz39 b n),(Qbz40 b n)]/\k.1=k.1/\k.2=k.2/\q=u/\b=b/\c=c/\True) (∀(t:Bool),t=f->(t->(t->t)/\True)/\(t->(t->t)/\True)/\(t->(t->t)/\True)/\(t->(t->t)/\True)/\(t->(t->t)/\True)/\(t->(t->t)/\(t->t)/\0<=(Qbz4 b n p).1/\(Qbz4 b n p).1<(q.length:Int)/\True)/\(t->(t->t)/\True)/\(t->(t->t)/\True)/\(t->(t->t)/\(t->t)/\okL (q.getD (Int.toNat (Qbz4 b n p).1) default).2.2.2.2.1/\True)/\(t->t)/\ifP (bif t then hasL (q.getD (Int.toNat (Qbz4 b
 n p).1) default).2.2.2.2.1 (Qbz56 g h l) else false) (∃(u:Int) (v:List Node),(0<=u/\u<=2/\v=stepH (distL a.length b g) g (Qbz56 g h l) f n j o (Qbz8 b n) u)/\Int.toNat ((2:Int) -u)<Int.toNat ((2:Int) -p)/\f=f/\g=g/\j=j/\(Qbz25 g h).1=(Qbz25 g h).1/\l=l/\n=n/\IntKind.wrap .i64 (p+(1:Int))=u/\(Qbz10 g h l).1=(Qbz10 g h l).1/\(32:Int)=32/\(Qbz8 b n).1=(Qbz8 b n).1/\(Qbz8 b n).2.1=(Qbz8 b n).2.1/\(Qbz8 b n).2.2.1=(Qbz8 b n).2.2.1/\(Qbz8 b n).2.2.2.1=(Qbz8 b n).2.2.2.1/\(Qbz8 b n).2.2.2.2.1=(Qbz8 b n).2.2.2.2.1/\(Qbz8 b n).2.2.2.2.2=(Qbz8 b n).2.2.2.2.2/\distL h.length b g=distL h.length b g/\[(Qbz39 b n),(Qbz40 b n)]=[(Qbz39 b n),(Qbz40 b n)]/\k.1=k.1/\k.2=k.2/\q=v/\b=b/\c=c/\True) (inN q (Qbz4 b n p).1/\sortedR (nRoutes (q.getD (Int.toNat (Qbz4 b n p).1) default))/\okL (nRoutes (q.getD (Int.toNat (Qbz4 b n p).1) default))/\(∀(u:Route),u∈nRoutes (q.getD (Int.toNat (Qbz4 b n p).1)
 default)->(u.2.1.length:Int)<=1000)/\ ∃(u:Int) (v:List Node),(0<=u/\u<=2/\v=stepH (distL a.length b g) g (Qbz56 g h l) f n j o (Qbz8 b n) u)/\Int.toNat ((2:Int) -u)<Int.toNat ((2:Int) -p)/\f=f/\g=g/\j=j/\(Qbz25 g h).1=(Qbz25 g h).1/\l=l/\n=n/\IntKind.wrap .i64 (p+(1:Int))=u/\(Qbz10 g h l).1=(Qbz10 g h l).1/\(32:Int)=32/\(Qbz8 b n).1=(Qbz8 b n).1/\(Qbz8 b n).2.1=(Qbz8 b n).2.1/\(Qbz8 b n).2.2.1=(Qbz8 b n).2.2.1/\(Qbz8 b n).2.2.2.1=(Qbz8 b n).2.2.2.1/\(Qbz8 b n).2.2.2.2.1=(Qbz8 b n).2.2.2.2.1/\(Qbz8 b n).2.2.2.2.2=(Qbz8 b n).2.2.2.2.2/\distL h.length b g=distL h.length b g/\[(Qbz39 b n),(Qbz40 b n)]=[(Qbz39 b n),(Qbz40 b n)]/\k.1=k.1/\k.2=k.2/\routeN q (Qbz4 b n p).1 (Qbz56 g h l) n j=v/\b=b/\c=c/\True))) (∃(r:Int) (s:List Node),(0<=r/\r<=(Qbz41 b)/\s=List.foldl (stepK b (distL a.length b g) g (Qbz56 g h l) f j) m (List.range r.toNat))/\Int.toNat ((Qbz41 b) -r)<Int.toNat ((Qbz41 b)
 -n)/\f=f/\g=g/\j=j/\(Qbz25 g h).1=(Qbz25 g h).1/\l=l/\IntKind.wrap .i64 (n+(1:Int))=r/\(Qbz10 g h l).1=(Qbz10 g h l).1/\(32:Int)=32/\distL h.length b g=distL h.length b g/\k.1=k.1/\k.2=k.2/\q=s/\b=b/\c=c/\True)) (∃(p:Int) (q:List Node),(0<=p/\p<=(Qbz46 g h)/\q=List.foldl (stepP b (distL a.length b g) g f j) h (List.take p.toNat (Qbz25 g h).1))/\Int.toNat ((Qbz46 g h) -p)<Int.toNat ((Qbz46 g h) -l)/\f=f/\g=g/\j=j/\(Qbz25 g h).1=(Qbz25 g h).1/\IntKind.wrap .i64 (l+(1:Int))=p/\distL h.length b g=distL h.length b g/\k.1=k.1/\k.2=k.2/\o=q/\b=b/\c=c/\True)) (∃(n:Int) (o:List Node),∃(p:Codes),(0<=n/\n<=(Qbz49 a)/\(o,p)=List.foldl (stepT b f) (a,d,e) (List.range n.toNat))/\Int.toNat ((Qbz49 a) -n)<Int.toNat ((Qbz49 a) -g)/\f=f/\IntKind.wrap .i64 (g+(1:Int))=n/\m=o/\b=b/\c=c/\k.1=p.1/\k.2=p.2/\True)) (((h,b,c),i)=routesS ((a,b,c),d,e) f):=by
  delta Qbz4 Qbz8 Qbz10 Qbz25 Qbz26 Qbz38 Qbz39 Qbz40 Qbz41 Qbz46 Qbz49 Qbz56 Qbz62
  rintro ns0 ls hs l p plain ⟨⟨-,⟨hl,hw⟩,-⟩,-⟩ ⟨hc,h1,h2,hg,hr,ha⟩
  dsimp only at hc h1 h2 hg hr ha
  have hB:okB (l,p):=⟨hc,hw⟩
  have base:∀ n,n<=ns0.length->RI ls (allA ns0) ns0 ((List.range n).foldl (stepT ls plain) (ns0,(l,p))).1/\okB ((List.range n).foldl (stepT ls plain) (ns0,(l,p))).2:=fun n hn=>RI.stepTs (ns0:=ns0) (s:=(ns0,(l,p))) ⟨RI.start hr,hB⟩ hg hn
  refine ⟨⟨0,ns0,(l,p),⟨by omega,by omega,rfl⟩,(by repeat' first|exact trivial|refine ⟨trivial,?_⟩|refine ⟨(by with_reducible rfl),?_⟩|refine ⟨w64 (by omega) (by omega),?_⟩|refine ⟨rfl,?_⟩)⟩,?_⟩
  rintro to ns cs ⟨t0,t1,hF⟩
  obtain ⟨R,hcs⟩:=base to.toNat (by omega)
  have e1:=(congrArg Prod.fst hF).symm
  have e2:=(congrArg Prod.snd hF).symm
  dsimp only at e1 e2
  rw [e1] at R
  rw [e2] at hcs ⊢
  have hn:=R.n
  simp only [hn]
  refine ifP_split (fun ht => ?_) (fun ht => ?_)
  rotate_left
  · have ht:=of_decide_eq_false ht
    have e:to.toNat=ns0.length:=by omega
    rw [e] at e1 e2
    unfold routesS
    dsimp only
    rw [e1,e2]
  have ht:=of_decide_eq_true ht
  have v3:=nextV_lt hcs (n:=3) (by omega)
  have k1:=(nextV_ok hcs 3).1
  have k2:=(nextV_ok k1 3).1
  refine ⟨h1,h2,⟨t0,by rw [hn];exact ht⟩,hg,hcs.at',?_,?_⟩
  · rw [w64 (n:=1+_) (by omega) (by omega)]
    (repeat (intro (b_:Bool) (hb_:b_=_);(repeat refine ⟨(by first|(simp;done)|(rw [hb_];simp;done)|(rw [hb_];simp;omega)|(rw [hb_];simp;intros;omega)|(rw [hb_];simp +contextual;done)),?_⟩);subst hb_))
    refine ifP_split (fun kb => ?_) (fun kb => ?_)
    · simp only [kb,cond_true]
      have kb:=of_decide_eq_true kb
      refine ⟨fun h=>h,k1.at',fun h=>h,ifP_split (fun kc => ?_) (fun kc => ?_)⟩
      · have kc:=of_decide_eq_true kc
        refine ⟨1,_,?_,(by repeat' first|exact trivial|refine ⟨trivial,?_⟩|refine ⟨(by with_reducible rfl),?_⟩|refine ⟨w64 (by omega) (by omega),?_⟩|refine ⟨rfl,?_⟩)⟩
        rw [wayC,if_pos kb,if_pos kc]
      · have kc:=of_decide_eq_false kc
        refine ⟨_,_,?_,(by repeat' first|exact trivial|refine ⟨trivial,?_⟩|refine ⟨(by with_reducible rfl),?_⟩|refine ⟨w64 (by omega) (by omega),?_⟩|refine ⟨rfl,?_⟩)⟩
        rw [wayC,if_pos kb,if_neg kc,kb]
    · simp only [kb,cond_false]
      have kb:=of_decide_eq_false kb
      refine ⟨trivial,fun h=>h,?_⟩
      rw [ifP_f]
      refine ⟨_,_,?_,(by repeat' first|exact trivial|refine ⟨trivial,?_⟩|refine ⟨(by with_reducible rfl),?_⟩|refine ⟨w64 (by omega) (by omega),?_⟩|refine ⟨rfl,?_⟩)⟩
      rw [wayC,if_neg kb]
  rintro way cs' hW
  have hw3:=wayC_ok hcs
  rw [← hW] at hw3
  obtain ⟨hcs',w0,w1⟩:=hw3
  dsimp only at hcs' w0 w1
  have hD:okD ns0.length (distL ns0.length ls to):=distK_ok ns0.length ls to hg _
  generalize eD:distL ns0.length ls to=D at hD ⊢
  have hP:∀ q∈(ns.getD to.toNat default).1,q.1∈allA ns0:=fun q hq=>by
    have:nPorts (ns.getD to.toNat default)=nPorts (ns0.getD to.toNat default):=R.ports (by omega)
    refine mem_allA (i:=to.toNat) (by omega) (q:=q) ?_
    rw [← this];exact hq
  have hPl:((ns.getD to.toNat default).1.length:Int)<=100000:=by
    have:nPorts (ns.getD to.toNat default)=nPorts (ns0.getD to.toNat default):=R.ports (by omega)
    have e:(ns.getD to.toNat default).1=nPorts (ns0.getD to.toNat default):=this
    rw [e]
    have:=ports_len (ns:=ns0) (i:=to.toNat) (by omega)
    omega
  generalize eP:(ns.getD to.toNat default).1=P at hP hPl ⊢
  refine ⟨t0,ht,⟨0,ns,⟨by omega,by omega,rfl⟩,(by repeat' first|exact trivial|refine ⟨trivial,?_⟩|refine ⟨(by with_reducible rfl),?_⟩|refine ⟨w64 (by omega) (by omega),?_⟩|refine ⟨rfl,?_⟩)⟩,?_⟩
  rintro i ns1 ⟨i0,i1,hn1⟩
  have R1:RI ls (allA ns0) ns0 ns1:=by
    rw [hn1];exact R.stepPs hg w0 w1 fun q hq=>hP q (List.mem_of_mem_take hq)
  refine ifP_split (fun hi => ?_) (fun hi => ?_)
  rotate_left
  · have hi:=of_decide_eq_false hi
    refine ⟨to+1,ns1,cs',⟨by omega,by omega,?_⟩,by omega,(by repeat' first|exact trivial|refine ⟨trivial,?_⟩|refine ⟨(by with_reducible rfl),?_⟩|refine ⟨w64 (by omega) (by omega),?_⟩|refine ⟨rfl,?_⟩)⟩
    rw [show (to+1).toNat=to.toNat+1 by omega,List.range_succ,List.foldl_append,← hF,List.foldl_cons,List.foldl_nil,stepT]
    dsimp only
    rw [← hW,hn,show ((to.toNat:Nat):Int)=to by omega,eD,hn1,List.take_of_length_le (by omega),← eP]
    rfl
  have hi:=of_decide_eq_true hi
  have hq:=hP _ (getD_mem i0 hi)
  generalize eq:(P.getD i.toNat default).1=q at hq ⊢
  refine ⟨i0,hi,⟨0,ns1,⟨by omega,by omega,rfl⟩,(by repeat' first|exact trivial|refine ⟨trivial,?_⟩|refine ⟨(by with_reducible rfl),?_⟩|refine ⟨w64 (by omega) (by omega),?_⟩|refine ⟨rfl,?_⟩)⟩,?_⟩
  rintro k ns2 ⟨k0,kl,hn2⟩
  have R2:RI ls (allA ns0) ns0 ns2:=by
    rw [hn2];exact R1.stepKs (p:=(q,32)) hg rfl hq w0 w1 (by omega)
  refine ifP_split (fun hk => ?_) (fun hk => ?_)
  rotate_left
  · have hk:=of_decide_eq_false hk
    refine ⟨i+1,ns2,⟨by omega,by omega,?_⟩,by omega,(by repeat' first|exact trivial|refine ⟨trivial,?_⟩|refine ⟨(by with_reducible rfl),?_⟩|refine ⟨w64 (by omega) (by omega),?_⟩|refine ⟨rfl,?_⟩)⟩
    rw [take_next i0 hi,List.foldl_append,← hn1,List.foldl_cons,List.foldl_nil,stepP,hn2,eq,show k.toNat=ls.length by omega]
  have hk:=of_decide_eq_true hk
  have hh:=hg.at' (k:=k.toNat) (by omega)
  have la:=lnkA (ls:=ls) (k:=k.toNat) (by omega)
  have lb:=lnkB (ls:=ls) (k:=k.toNat) (by omega)
  rw [show ((k.toNat:Nat):Int)=k by omega] at la lb
  refine ⟨k0,hk,⟨0,ns2,⟨by omega,by omega,rfl⟩,(by repeat' first|exact trivial|refine ⟨trivial,?_⟩|refine ⟨(by with_reducible rfl),?_⟩|refine ⟨w64 (by omega) (by omega),?_⟩|refine ⟨rfl,?_⟩)⟩,?_⟩
  rintro e ns3 ⟨e0,el,hn3⟩
  refine ifP_split (fun he => ?_) (fun he => ?_)
  rotate_left
  · have he:=of_decide_eq_false he
    have he:e=2:=by omega
    subst he
    refine ⟨k+1,ns3,⟨by omega,by omega,?_⟩,by omega,(by repeat' first|exact trivial|refine ⟨trivial,?_⟩|refine ⟨(by with_reducible rfl),?_⟩|refine ⟨w64 (by omega) (by omega),?_⟩|refine ⟨rfl,?_⟩)⟩
    rw [show (k+1).toNat=k.toNat+1 by omega,List.range_succ,List.foldl_append,← hn2,List.foldl_cons,List.foldl_nil,stepK,hn3,stepH,if_neg (by omega),if_neg (by omega),show ((k.toNat:Nat):Int)=k by omega]
  have he:=of_decide_eq_true he
  obtain ⟨u,v,hL,hS,hu,hv,hk',R3⟩:∃ u v,([((ls.getD k.toNat default).1,(ls.getD k.toNat default).2.1),((ls.getD k.toNat default).2.1,(ls.getD k.toNat default).1)]:List (Int×Int)).getD e.toNat default=(u,v) ∧
      stepH D to (q,32) plain k way ns2 (ls.getD k.toNat default) (e+1)=stepE D to (q,32) plain k way ns3 u v/\(0<=u/\u<ns0.length)/\(0<=v/\v<ns0.length)/\lnk ls u k/\RI ls (allA ns0) ns0 ns3:=by
    rcases (show e=0∨e=1 by omega) with rfl|rfl
    · refine ⟨_,_,rfl,?_,hh.1,hh.2,la,?_⟩
      · rw [hn3,stepH,stepH,if_neg (by omega),if_pos (by omega),if_pos rfl];rfl
      · rw [hn3,stepH,if_pos rfl];exact R2
    · refine ⟨_,_,rfl,?_,hh.2,hh.1,lb,?_⟩
      · rw [hn3,stepH,stepH,if_neg (by omega),if_neg (by omega),if_neg (by omega),if_pos rfl];rfl
      · rw [hn3,stepH,if_neg (by omega),if_pos rfl]
        exact R2.step (p:=(q,32)) hh.1.1 hh.1.2 rfl hq la w0 w1
  have hn3':=R3.n
  simp only [hL,hn3',hD.1]
  have dv:=hD.2 _ (getD_mem hv.1 (show v<D.length by rw [hD.1];exact hv.2))
  rw [w64 (n:=D.getD v.toNat default+1) (by omega) (by omega)]
  have pr:=R3.pre ha h2 hu.1 hu.2
  refine ⟨e0,by simp only [List.length_cons,List.length_nil];omega,hu.1,hu.2,hv.1,hv.2,?_⟩
  intro b hb
  refine ⟨by simp,by simp,by simp,?_⟩
  intro b1 hb1
  refine ⟨by simp,by simp,by simp,by simp,by simp,fun h=>⟨fun _=>h,fun _=>h,hv.1,hv.2,trivial⟩,by simp,by simp,fun h=>⟨fun _=>h,fun h1=>by simp only [h,h1];rfl,trivial⟩,fun h=>by rw [h];rfl,?_⟩
  refine ifP_or (fun ho => ?_) (fun ho1 ho2 => ?_)
  · refine ⟨e+1,ns3,⟨by omega,by omega,?_⟩,by omega,(by repeat' first|exact trivial|refine ⟨trivial,?_⟩|refine ⟨(by with_reducible rfl),?_⟩|refine ⟨w64 (by omega) (by omega),?_⟩|refine ⟨rfl,?_⟩)⟩
    rw [hS,stepE,if_pos]
    rcases ho with ho|ho
    · rw [hb] at ho;exact .inl (nd_t ho)
    · rcases b1 with _|_
      · cases ho
      · exact .inr ⟨nd_t hb1.symm,ho⟩
  have hN:¬ (D.getD u.toNat default≠D.getD v.toNat default+1∨(v≠to/\nHost (ns3.getD v.toNat default)=true)):=by
    rw [hb] at ho1
    rintro (h|⟨h,h'⟩)
    · exact h (nd_f ho1)
    · rw [hb1,decide_eq_false h] at ho2
      rw [show nHost (ns3.getD v.toNat default)=(ns3.getD v.toNat default).2.2.2.1 from rfl] at h'
      rw [h'] at ho2;cases ho2
  intro b2 hb2
  subst hb2
  refine ⟨by simp,by simp,by simp,by simp,by simp,fun h=>⟨fun _=>h,fun _=>h,hu.1,hu.2,trivial⟩,by simp,by simp,fun h=>⟨fun _=>h,fun _=>h,pr.2.2.1,trivial⟩,fun h=>h,?_⟩
  refine ifP_and (fun ha1 ha2 => ?_) (fun hna => ?_)
  · refine ⟨e+1,ns3,⟨by omega,by omega,?_⟩,by omega,(by repeat' first|exact trivial|refine ⟨trivial,?_⟩|refine ⟨(by with_reducible rfl),?_⟩|refine ⟨w64 (by omega) (by omega),?_⟩|refine ⟨rfl,?_⟩)⟩
    rw [hS,stepE,if_neg hN,if_pos ⟨ha1,ha2⟩]
  · refine ⟨pr.1,pr.2.1,pr.2.2.1,pr.2.2.2,e+1,_,⟨by omega,by omega,?_⟩,by omega,(by repeat' first|exact trivial|refine ⟨trivial,?_⟩|refine ⟨(by with_reducible rfl),?_⟩|refine ⟨w64 (by omega) (by omega),?_⟩|refine ⟨rfl,?_⟩)⟩
    rw [hS,stepE,if_neg hN,if_neg]
    rintro ⟨x1,x2⟩
    rcases hna with h|h
    · rw [h] at x1;cases x1
    · rw [show nRoutes (ns3.getD u.toNat default)=(ns3.getD u.toNat default).2.2.2.2.1 from rfl,h] at x2;cases x2
theorem ok_draw_scene_routes:SpecOK Tryd.prog GL 15 ct_draw_scene_routes.spec:=Ct.okH _ Tryd.func15 (by kernel_rfl) (withSpec_ok (withSpec_ok (withSpec_ok (withSpec_ok noSpecs_ok ok_draw_scene_distances) ok_Nextx) ok_draw_has) ok_draw_scene_route) hmix an_draw_scene_routes (hideMp (by kernel_rfl) vc_draw_scene_routes)
structure preO (s:Scene):Prop where
  c:okC s.2
  n0:0<s.1.1.length
  n:(s.1.1.length:Int)<=1000
  l:(s.1.2.1.length:Int)<=1000
  g:goodEnds s.1.1.length s.1.2.1
  h:s.1.2.2=[]
  a:((allA s.1.1).length:Int)<=100000
  p:∀ x∈s.1.1,nRoutes x≠[]->0<(nPorts x).length/\(nPorts x).length<=1000/\(nRoutes x).length<=100000
def oN (s:Scene) (i:Int):List Node×Codes:=(List.range i.toNat).foldl odNodes (s.1.1,s.2)
def oL (s:Scene) (i:Int):(List Node×List Link)×Codes:=(List.range i.toNat).foldl odLinks (((oN s s.1.1.length).1,s.1.2.1),(oN s s.1.1.length).2)
def oC (s:Scene) (i:Nat):List Change×Int×Codes:=(List.range i).foldl (fun c _=>odChange (oL s s.1.2.1.length).1.1 c) ([],0,(nextV (oL s s.1.2.1.length).2 4).2)
def oK (s:Scene):Int:=(nextV (oL s s.1.2.1.length).2 4).1
structure AG (ns0 ns:List Node):Prop where
  n:ns.length=ns0.length
  e:∀ i:Nat,i<ns0.length->nPorts (ns.getD i default)=nPorts (ns0.getD i default)/\nRoutes (ns.getD i default)=nRoutes (ns0.getD i default)
theorem AG.set {ns0 ns:List Node} (h:AG ns0 ns) {i:Nat} (hi:i<ns0.length) {x:Node} (hx:nPorts x=nPorts (ns.getD i default)/\nRoutes x=nRoutes (ns.getD i default)):AG ns0 (ns.set i x):=by
  refine ⟨by rw [List.length_set];exact h.n,fun j hj => ?_⟩
  by_cases e:i=j
  · subst e
    rw [getD_set (by rw [h.n];exact hi)]
    exact ⟨hx.1.trans (h.e _ hj).1,hx.2.trans (h.e _ hj).2⟩
  · rw [getD_setne e];exact h.e _ hj
theorem odWay_keep (x:Node) (i:Int) (c:Codes):nPorts (odWay x i c).1=nPorts x/\nRoutes (odWay x i c).1=nRoutes x:=by
  unfold odWay
  dsimp only
  repeat' split
  all_goals exact ⟨rfl,rfl⟩
theorem odWay_ok {x:Node} {i:Int} {c:Codes} (h:okB c):okB (odWay x i c).2:=by
  unfold odWay
  dsimp only
  repeat' split
  all_goals first|exact (nextV_ok h _).1|exact (nextV_ok (nextV_ok h _).1 _).1|exact (nextV_ok (nextV_ok (nextV_ok h _).1 _).1 _).1
theorem odNode_keep (x:Node) (i:Int) (c:Codes):nPorts (odNode x i c).1=nPorts x/\nRoutes (odNode x i c).1=nRoutes x:=odWay_keep x i c
theorem odNode_ok {x:Node} {i:Int} {c:Codes} (h:okB c):okB (odNode x i c).2:=by
  have k:=odWay_ok (x:=x) (i:=i) h
  exact (nextV_ok (nextV_ok (nextV_ok k _).1 _).1 _).1
theorem oN_ok (s:Scene) (h:okB s.2) {i:Int} (hi:i<=s.1.1.length):AG s.1.1 (oN s i).1/\okB (oN s i).2:=by
  refine foldl_inv (fun c:List Node×Codes=>AG s.1.1 c.1/\okB c.2) _ ⟨⟨rfl,fun _ _=>⟨rfl,rfl⟩⟩,h⟩ fun k hk c hc => ?_
  have hk:=List.mem_range.1 hk
  exact ⟨hc.1.set (by omega) (odNode_keep _ _ _),odNode_ok hc.2⟩
theorem oN_next (s:Scene) {i:Int} (h0:0<=i):oN s (i+1)=odNodes (oN s i) i.toNat:=by
  unfold oN
  rw [show (i+1).toNat=i.toNat+1 by omega,List.range_succ,List.foldl_append];rfl
theorem odLink_ends (l:Link) (c:Codes):lA (odLink l c).1=lA l/\lB (odLink l c).1=lB l:=by
  unfold odLink
  dsimp only
  repeat' split
  all_goals exact ⟨rfl,rfl⟩
theorem odLink_ok {l:Link} {c:Codes} (h:okB c):okB (odLink l c).2:=by
  unfold odLink
  dsimp only
  repeat' split
  all_goals first|exact (nextV_ok h _).1|exact (nextV_ok (nextV_ok h _).1 _).1
theorem goodEnds.set {n:Nat} {ls:List Link} (h:goodEnds n ls) {x:Link} (hx:0<=x.1/\x.1<n/\0<=x.2.1/\x.2.1<n) (i:Nat):goodEnds n (ls.set i x):=fun y hy=>by
  rcases List.mem_or_eq_of_mem_set hy with hy|rfl
  · exact h y hy
  · exact hx
theorem goodEnds.odLink {n:Nat} {ls:List Link} (h:goodEnds n ls) {i:Nat} (hi:i<ls.length) (c:Codes):goodEnds n (ls.set i (odLink (ls.getD i default) c).1):=by
  have k:=odLink_ends (ls.getD i default) c
  have g:=h.at' hi
  refine h.set ?_ i
  show 0<=lA _/\lA _<_/\0<=lB _/\lB _<_
  rw [k.1,k.2]
  exact ⟨g.1.1,g.1.2,g.2.1,g.2.2⟩
theorem odClear_ag {ns0 ns:List Node} (h:AG ns0 ns) {l:Link} (hl:0<=lB l/\lB l<ns0.length):AG ns0 (odClear ns l):=by
  unfold odClear
  split
  · exact h.set (by omega) ⟨rfl,rfl⟩
  · exact h
theorem oL_ok (s:Scene) (h:okB s.2) (hg:goodEnds s.1.1.length s.1.2.1) {i:Int} (hi:i<=s.1.2.1.length) :
    AG s.1.1 (oL s i).1.1/\okB (oL s i).2/\goodEnds s.1.1.length (oL s i).1.2/\(oL s i).1.2.length=s.1.2.1.length:=by
  have b:=oN_ok s h (i:=s.1.1.length) (by omega)
  refine foldl_inv (fun c:(List Node×List Link)×Codes=>AG s.1.1 c.1.1/\okB c.2/\goodEnds s.1.1.length c.1.2/\c.1.2.length=s.1.2.1.length) _ ⟨b.1,b.2,hg,rfl⟩ fun k hk c hc => ?_
  have hk:=List.mem_range.1 hk
  obtain ⟨c1,c2,c3,c4⟩:=hc
  have hk2:k<c.1.2.length:=by omega
  have g:=c3.at' hk2
  have e:=odLink_ends (c.1.2.getD k default) c.2
  refine ⟨odClear_ag c1 ?_,odLink_ok c2,c3.odLink hk2 _,by simp only [odLinks,List.length_set];exact c4⟩
  rw [e.2];exact g.2
theorem oL_next (s:Scene) {i:Int} (h0:0<=i):oL s (i+1)=odLinks (oL s i) i.toNat:=by
  unfold oL
  rw [show (i+1).toNat=i.toNat+1 by omega,List.range_succ,List.foldl_append];rfl
theorem oC_next (s:Scene) (i:Nat):oC s (i+1)=odChange (oL s s.1.2.1.length).1.1 (oC s i):=by
  unfold oC
  rw [List.range_succ,List.foldl_append];rfl
theorem odChange_ok {ns:List Node} {s:List Change×Int×Codes} (h:okB s.2.2):okB (odChange ns s).2.2/\s.2.1<=(odChange ns s).2.1/\(odChange ns s).2.1<=s.2.1+60/\(odChange ns s).1.length<=s.1.length+1:=by
  have a:=nextV_lt h (n:=60) (by omega)
  have k1:=(nextV_ok h 60).1
  have k2:=(nextV_ok k1 ns.length).1
  unfold odChange
  dsimp only
  split
  · exact ⟨k2,by dsimp only;omega,by dsimp only;omega,by dsimp only;omega⟩
  · exact ⟨(nextV_ok (nextV_ok (nextV_ok k2 _).1 _).1 _).1,by dsimp only;omega,by dsimp only;omega,by simp only [List.length_append,List.length_cons,List.length_nil];omega⟩
theorem oC_ok (s:Scene) (h:okB s.2) (hg:goodEnds s.1.1.length s.1.2.1):∀ i:Nat,okB (oC s i).2.2/\0<=(oC s i).2.1/\(oC s i).2.1<=60*i/\(oC s i).1.length<=i
  | 0=>⟨(nextV_ok (oL_ok s h hg (Int.le_refl _)).2.1 4).1,Int.le_refl _,Int.le_refl _,Nat.le_refl _⟩
  | i+1=>by
    have k:=oC_ok s h hg i
    have m:=odChange_ok (ns:=(oL s s.1.2.1.length).1.1) k.1
    rw [oC_next]
    exact ⟨m.1,by omega,by omega,by omega⟩
def ct_draw_scene_odd:Ct:=⟨[.box 60 oScene],[],fun d=>[preO d.1],fun d=>((),(oddS d.1,()))⟩
def an_draw_scene_odd:PDs ct_draw_scene_odd.ps->Anns:=(fun d=>{loops:=(fun n=>match n with|2=>some (fun S=>{ι:=Int×(List Node)×Codes,qn:=⟨fun k_=>∀ (i:Int) (ns:(List Node)) (cs:Codes),k_ (i,ns,cs),fun k_ h_ i=>h_ i.1 i.2.1 i.2.2,fun k_=>∃ (i:Int) (ns:(List Node)) (cs:Codes),k_ (i,ns,cs),fun k_ ⟨i,ns,cs,h_⟩=>⟨_,h_⟩⟩,μ:=fun i=>(d.1.1.1.length-i.1).toNat,inv:=fun i=>0<=i.1/\i.1<=d.1.1.1.length/\(i.2.1,i.2.2)=oN d.1 i.1,keep:=[0,2],slots:=fun i=>[(3,.int .i64 i.1)],keepN:=[1048576,2097153,2097154],names:=fun i=>[(2097152,.live (.row 54 cNode i.2.1)),(1048577,.live (.cells 57 (flat cCodes i.2.2)))]})|20=>some (fun S=>{ι:=Int×(List Node)×(List Link)×Codes,qn:=⟨fun k_=>∀ (i:Int) (ns:(List Node)) (ls:(List Link)) (cs:Codes),k_ (i,ns,ls,cs),fun k_ h_ i=>h_ i.1 i.2.1 i.2.2.1 i.2.2.2,fun k_=>∃ (i:Int) (ns:(List Node)) (ls:(List Link)) (cs:Codes),k_ (i,ns,ls,cs),fun k_ ⟨i,ns,ls,cs,h_⟩=>⟨_,h_⟩⟩,μ:=fun i=>(d.1.1.2.1.length-i.1).toNat,inv:=fun i=>0<=i.1/\i.1<=d.1.1.2.1.length/\((i.2.1,i.2.2.1),i.2.2.2)=oL d.1 i.1,keep:=[0,2],slots:=fun i=>[(5,.int .i64 i.1)],keepN:=[1048576,2097154],names:=fun i=>[(2097152,.live (.row 54 cNode i.2.1)),(2097153,.live (.row 39 cLink i.2.2.1)),(1048577,.live (.cells 57 (flat cCodes i.2.2.2)))]})|32=>some (fun S=>{ι:=Int×Int×(List Change)×Codes,qn:=⟨fun k_=>∀ (k:Int) (a:Int) (hs:(List Change)) (cs:Codes),k_ (k,a,hs,cs),fun k_ h_ i=>h_ i.1 i.2.1 i.2.2.1 i.2.2.2,fun k_=>∃ (k:Int) (a:Int) (hs:(List Change)) (cs:Codes),k_ (k,a,hs,cs),fun k_ ⟨k,a,hs,cs,h_⟩=>⟨_,h_⟩⟩,μ:=fun i=>i.1.toNat,inv:=fun i=>0<=i.1/\i.1<=oK d.1/\(i.2.2.1,i.2.1,i.2.2.2)=oC d.1 (oK d.1-i.1).toNat,keep:=[0,2],slots:=fun i=>[(8,.int .i64 i.1),(7,.int .i64 i.2.1)],keepN:=[2097152,2097153],names:=fun i=>[(1048576,.live (.cells 60 [.own 2097152 16,.own 2097153 6,.own 524288 7,.ptr 1048577 0])),(524288,.live (.row 70 cChange i.2.2.1)),(1048577,.live (.cells 57 (flat cCodes i.2.2.2)))]})|_=>none),cuts:=(fun n=>match n with|18=>some (fun S=>{ι:=(List Node)×Codes,qn:=⟨fun k_=>∀ (ns:(List Node)) (cs:Codes),k_ (ns,cs),fun k_ h_ i=>h_ i.1 i.2,fun k_=>∃ (ns:(List Node)) (cs:Codes),k_ (ns,cs),fun k_ ⟨ns,cs,h_⟩=>⟨_,h_⟩⟩,inv:=fun i=>i.1=(oN d.1 (S.i 3)).1.set (S.i 3).toNat (odWay ((oN d.1 (S.i 3)).1.getD (S.i 3).toNat default) (S.i 3) (oN d.1 (S.i 3)).2).1/\i.2=(odWay ((oN d.1 (S.i 3)).1.getD (S.i 3).toNat default) (S.i 3) (oN d.1 (S.i 3)).2).2,keep:=[0,2,3,4],slots:=fun i=>[],keepN:=[1048576,2097153,2097154],names:=fun i=>[(2097152,.live (.row 54 cNode i.1)),(1048577,.live (.cells 57 (flat cCodes i.2)))]})|28=>some (fun S=>{ι:=(List Link)×Codes,qn:=⟨fun k_=>∀ (ls:(List Link)) (cs:Codes),k_ (ls,cs),fun k_ h_ i=>h_ i.1 i.2,fun k_=>∃ (ls:(List Link)) (cs:Codes),k_ (ls,cs),fun k_ ⟨ls,cs,h_⟩=>⟨_,h_⟩⟩,inv:=fun i=>i.1=(oL d.1 (S.i 5)).1.2.set (S.i 5).toNat (odLink ((oL d.1 (S.i 5)).1.2.getD (S.i 5).toNat default) (oL d.1 (S.i 5)).2).1/\i.2=(odLink ((oL d.1 (S.i 5)).1.2.getD (S.i 5).toNat default) (oL d.1 (S.i 5)).2).2,keep:=[0,2,5,6],slots:=fun i=>[],keepN:=[1048576,2097152,2097154],names:=fun i=>[(2097153,.live (.row 39 cLink i.1)),(1048577,.live (.cells 57 (flat cCodes i.2)))]})|_=>none)})
def Qbz3 (f:Int) (i:List Node) (j:Codes) :=
 List.set i f.toNat ((i.getD f.toNat default).1,(i.getD f.toNat default).2.1,(i.getD f.toNat default).2.2.1,(i.getD f.toNat default).2.2.2.1,(i.getD f.toNat default).2.2.2.2.1,(i.getD f.toNat default).2.2.2.2.2.1,(i.getD f.toNat default).2.2.2.2.2.2.1,(nextV j 6).1,(i.getD f.toNat default).2.2.2.2.2.2.2.2)
def Qbz36 (f:Int) (i:List Node) (j:Codes) :=
 List.getD (Qbz3 f i j) f.toNat default
def Qbz0 (f:Int) (i:List Node) (j:Codes) :=
 List.set (Qbz3 f i j) f.toNat ((Qbz36 f i j).1,(Qbz36 f i j).2.1,(Qbz36 f i j).2.2.1,(Qbz36 f i j).2.2.2.1,(Qbz36 f i j).2.2.2.2.1,(Qbz36 f i j).2.2.2.2.2.1,(Qbz36 f i j).2.2.2.2.2.2.1,(Qbz36 f i j).2.2.2.2.2.2.2.1,(nextV (nextV j 6).2 (65536:Int)).1,(Qbz36 f i j).2.2.2.2.2.2.2.2.2)
def Qbz34 (j:List Node) (p:Codes) :=
 nextV (nextV p 60).2 (j.length:Int)
def Qbz6 (j:List Node) (p:Codes) :=
 j.getD (Int.toNat (Qbz34 j p).1) default
def Qbz2 (j:List Node) (p:Codes) :=
 nextV (Qbz34 j p).2 ((List.length (Qbz6 j p).2.2.2.2.1):Int)
def Qbz11 (f:Int) (g:List Node) :=
 g.getD f.toNat default
def Qbz5 (f:Int) (g:List Node) (h:Codes) :=
 List.set g f.toNat ((Qbz11 f g).1,(Qbz11 f g).2.1,(Qbz11 f g).2.2.1,(Qbz11 f g).2.2.2.1,(Qbz11 f g).2.2.2.2.1,(Qbz11 f g).2.2.2.2.2.1,IntKind.wrap .u32 ((167837696:Int)+(nextV (nextV h 10).2 (40:Int)).1),(Qbz11 f g).2.2.2.2.2.2.2)
def Qbz9 (a:List Node) (b:List Link) (c:List Change) (d:List Int) (e f:Int) :=
 odWay (List.getD (oN ((a,b,c),d,e) f).1 f.toNat default) f (oN ((a,b,c),d,e) f).2
def Qbz13 (f:Int) (g:List Node) :=
 List.getD (List.set g f.toNat ((Qbz11 f g).1,IntKind.wrap .u32 (IntKind.wrap .i64 ((167903232:Int)+f)),(Qbz11 f g).2.2)) f.toNat default
def Qbz65 (i:Int) (m:List Link) :=
 m.getD i.toNat default
def Qbz14 (i:Int) (j:List Node) (m:List Link) :=
 j.getD (Int.toNat (Qbz65 i m).2.1) default
def Qbz19 (a:List Node) (b:List Link) (c:List Change) (d:List Int) (e i:Int) :=
 odLink (List.getD (oL ((a,b,c),d,e) i).1.2 i.toNat default) (oL ((a,b,c),d,e) i).2
def Qbz21 (j:List Node) (p:Codes) :=
 nextV (Qbz2 j p).2 ((List.length (Qbz6 j p).1):Int)
def Qbz22 (j:List Node) (p:Codes) :=
 List.getD (Qbz6 j p).2.2.2.2.1 (Int.toNat (Qbz2 j p).1) default
def Qbz32 (a:List Node) (b:List Link) (c:List Change) (d:List Int) (e f:Int) (i:List Node) (j:Codes) :=
 i=List.set (oN ((a,b,c),d,e) f).1 f.toNat (Qbz9 a b c d e f).1/\j=(Qbz9 a b c d e f).2
def Qbz35 (f:Int) (i:List Node) (j:Codes) :=
 List.getD (Qbz0 f i j) f.toNat default
def Qbz50 (j:List Node) (n:Int) (p:Codes) :=
 (IntKind.wrap .i64 (n+(nextV p 60).1),(Qbz34 j p).1,false,(Qbz22 j p).1,[(List.getD (Qbz6 j p).1 (Int.toNat (Qbz21 j p).1) default).2],(Qbz22 j p).2.2)
def Qbz51 (h j:Codes) :=
 (nextV h 10).2.1=j.1/\(nextV h 10).2.2=j.2/\True
def Qbz54 (f:Int) (g:List Node) (h:Codes) :=
 List.getD (Qbz5 f g h) f.toNat default
def Qbz59 (j:Codes) :=
 nextV (nextV (nextV j 6).2 (65536:Int)).2 (1000:Int)
def Qbz60 (i:Int) (k:List Link) :=
 k.getD i.toNat default
def Qbz61 (h:Codes) :=
 nextV (nextV h 10).2 (3:Int)
def Qbz63 (l:Codes) :=
 nextV (nextV l 6).2 (3:Int)
theorem vc_draw_scene_odd :
 ∀(a:List Node) (b:List Link) (c:List Change) (d:List Int) (e:Int),(((a.length<=maxLen/\ ∀(f:Node),f∈a->CT.wf cNode f)/\(b.length<=maxLen/\ ∀(f:Link),f∈b->CT.wf cLink f)/\c.length<=maxLen/\ ∀(f:Change),f∈c->CT.wf cChange f)/\(d.length<=maxLen/\ ∀(f:Int),f∈d->0<=f/\f<=255)/\R64 e)/\True->preO ((a,b,c),d,e)->(∃(f:Int) (g:List Node),∃(h:Codes),(0<=f/\f<=(Qbz49 a)/\(g,h)=oN ((a,b,c),d,e) f)/\(0:Int)=f/\b=b/\c=c/\a=g/\d=h.1/\e=h.2/\True)/\ ∀(f:Int) (g:List Node) (h:Codes),0<=f/\f<=(Qbz49 a)/\(g,h)=oN ((a,b,c),d,e) f->ifP (decide (f<(g.length:Int))) (0<=f/\f<(g.length:Int)/\(okC h/\ifP (decide ((nextV h 10).1=1)) (∃(i:List Node) (j:Codes),(Qbz32 a b c d e f i j)/\f=f/\f.toNat=f.toNat/\b=b/\c=c/\List.set g f.toNat ((Qbz11 f g).1,(Qbz11 f g).2.1,(Qbz11 f g).2.2.1,(Qbz11 f g).2.2.2.1,(Qbz11 f g).2.2.2.2.1,(Qbz11 f g).2.2.2.2.2.1,(Qbz11 f g).2.2.2.2.2.2.1,(Qbz11 f g).2.2.2.2.2.2.2.1,(Qbz11 f
 g).2.2.2.2.2.2.2.2.1,(Qbz11 f g).2.2.2.2.2.2.2.2.2.1,(Qbz11 f g).2.2.2.2.2.2.2.2.2.2.1,true,(Qbz11 f g).2.2.2.2.2.2.2.2.2.2.2.2)=i/\(Qbz51 h j)) (ifP (decide ((nextV h 10).1=2)) (okC (nextV h 10).2/\okC (Qbz61 h).2/\ ∃(i:List Node) (j:Codes),(Qbz32 a b c d e f i j)/\f=f/\f.toNat=f.toNat/\b=b/\c=c/\List.set g f.toNat ((Qbz11 f g).1,(Qbz11 f g).2.1,(Qbz11 f g).2.2.1,(Qbz11 f g).2.2.2.1,(Qbz11 f g).2.2.2.2.1,(Qbz11 f g).2.2.2.2.2.1,(Qbz11 f g).2.2.2.2.2.2.1,(Qbz11 f g).2.2.2.2.2.2.2.1,(Qbz11 f g).2.2.2.2.2.2.2.2.1,(Qbz11 f g).2.2.2.2.2.2.2.2.2.1,(IntKind.wrap .i64 ((1:Int)+(Qbz61 h).1),IntKind.wrap .i64 ((1:Int)+(nextV (Qbz61 h).2 (200:Int)).1)),(Qbz11 f g).2.2.2.2.2.2.2.2.2.2.2)=i/\(nextV (Qbz61 h).2 (200:Int)).2.1=j.1/\(nextV (Qbz61 h).2 (200:Int)).2.2=j.2/\True) (ifP (decide ((nextV h 10).1=3)) (∀(i:Bool),i= ! (Qbz11 f
 g).2.2.2.1->(i->(i->i)/\(2:Int)≠(0:Int)/\True)/\(i->(i->i)/\True)/\(i->i)/\ ∃(j:List Node) (k:Codes),(j=List.set (oN ((a,b,c),d,e) f).1 f.toNat (Qbz9 a b c d e f).1/\k=(Qbz9 a b c d e f).2)/\f=f/\f.toNat=f.toNat/\b=b/\c=c/\List.set g f.toNat ((Qbz11 f g).1,(Qbz11 f g).2.1,(Qbz11 f g).2.2.1,(Qbz11 f g).2.2.2.1,(Qbz11 f g).2.2.2.2.1,(Qbz11 f g).2.2.2.2.2.1,(Qbz11 f g).2.2.2.2.2.2.1,(Qbz11 f g).2.2.2.2.2.2.2.1,(Qbz11 f g).2.2.2.2.2.2.2.2.1,(Qbz11 f g).2.2.2.2.2.2.2.2.2.1,(Qbz11 f g).2.2.2.2.2.2.2.2.2.2.1,(Qbz11 f g).2.2.2.2.2.2.2.2.2.2.2.1,bif i then decide (Int.tmod f (2:Int)=1) else false,(Qbz11 f g).2.2.2.2.2.2.2.2.2.2.2.2.2)=j/\(nextV h 10).2.1=k.1/\(nextV h 10).2.2=k.2/\True) (ifP (decide ((nextV h 10).1=4)) (∃(i:List Node) (j:Codes),(Qbz32 a b c d e f i j)/\f=f/\f.toNat=f.toNat/\b=b/\c=c/\List.set g f.toNat ((Qbz11 f g).1,(Qbz11 f g).2.1,(Qbz11 f g).2.2.1,(Qbz11 f g).2.2.2.1,(Qbz11 f
 g).2.2.2.2.1,(2:Int),(Qbz11 f g).2.2.2.2.2.2)=i/\(Qbz51 h j)) (ifP (decide ((nextV h 10).1=5)) (∃(i:List Node) (j:Codes),(Qbz32 a b c d e f i j)/\f=f/\f.toNat=f.toNat/\b=b/\c=c/\List.set (List.set g f.toNat ((Qbz11 f g).1,IntKind.wrap .u32 (IntKind.wrap .i64 ((167903232:Int)+f)),(Qbz11 f g).2.2)) f.toNat ((Qbz13 f g).1,(Qbz13 f g).2.1,(Qbz13 f g).2.2.1,(Qbz13 f g).2.2.2.1,(Qbz13 f g).2.2.2.2.1,(3:Int),(Qbz13 f g).2.2.2.2.2.2)=i/\(Qbz51 h j)) (ifP (decide ((nextV h 10).1=6)) (okC (nextV h 10).2/\ ∃(i:List Node) (j:Codes),(Qbz32 a b c d e f i j)/\f=f/\f.toNat=f.toNat/\b=b/\c=c/\List.set (Qbz5 f g h) f.toNat ((Qbz54 f g h).1,(Qbz54 f g h).2.1,(Qbz54 f g h).2.2.1,(Qbz54 f g h).2.2.2.1,(Qbz54 f g h).2.2.2.2.1,(4:Int),(Qbz54 f g h).2.2.2.2.2.2)=i/\(nextV (nextV h 10).2 (40:Int)).2.1=j.1/\(nextV (nextV h 10).2 (40:Int)).2.2=j.2/\True) (∃(i:List Node) (j:Codes),(Qbz32 a b c d e f i
 j)/\f=f/\f.toNat=f.toNat/\b=b/\c=c/\g=i/\(Qbz51 h j))))))))/\ ∀(i:List Node) (j:Codes),i=List.set (oN ((a,b,c),d,e) f).1 f.toNat (Qbz9 a b c d e f).1/\j=(Qbz9 a b c d e f).2->okC j/\okC (nextV j 6).2/\okC (nextV (nextV j 6).2 (65536:Int)).2/\ ∃(k:Int) (l:List Node),∃(m:Codes),(0<=k/\k<=(Qbz49 a)/\(l,m)=oN ((a,b,c),d,e) k)/\Int.toNat ((Qbz49 a) -k)<Int.toNat ((Qbz49 a) -f)/\IntKind.wrap .i64 (f+(1:Int))=k/\b=b/\c=c/\List.set (Qbz0 f i j) f.toNat ((Qbz35 f i j).1,(Qbz35 f i j).2.1,(Qbz35 f i j).2.2.1,(Qbz35 f i j).2.2.2.1,(Qbz35 f i j).2.2.2.2.1,(Qbz35 f i j).2.2.2.2.2.1,(Qbz35 f i j).2.2.2.2.2.2.1,(Qbz35 f i j).2.2.2.2.2.2.2.1,(Qbz35 f i j).2.2.2.2.2.2.2.2.1,(Qbz59 j).1,(Qbz35 f i j).2.2.2.2.2.2.2.2.2.2)=l/\(Qbz59 j).2.1=m.1/\(Qbz59 j).2.2=m.2/\True) ((∃(i:Int) (j:List Node),∃(k:List Link) (l:Codes),(0<=i/\i<=(Qbz41 b)/\((j,k),l)=oL ((a,b,c),d,e)
 i)/\(0:Int)=i/\c=c/\g=j/\b=k/\h.1=l.1/\h.2=l.2/\True)/\ ∀(i:Int) (j:List Node) (k:List Link) (l:Codes),0<=i/\i<=(Qbz41 b)/\((j,k),l)=oL ((a,b,c),d,e) i->ifP (decide (i<(k.length:Int))) (0<=i/\i<(k.length:Int)/\(okC l/\ifP (decide ((nextV l 6).1=1)) (okC (nextV l 6).2/\ ∃(m:List Link) (n:Codes),(m=List.set (oL ((a,b,c),d,e) i).1.2 i.toNat (Qbz19 a b c d e i).1/\n=(Qbz19 a b c d e i).2)/\i=i/\i.toNat=i.toNat/\j=j/\c=c/\List.set k i.toNat ((Qbz60 i k).1,(Qbz60 i k).2.1,(Qbz60 i k).2.2.1,(nextV (nextV l 6).2 (10:Int)).1,(Qbz60 i k).2.2.2.2)=m/\(nextV (nextV l 6).2 (10:Int)).2.1=n.1/\(nextV (nextV l 6).2 (10:Int)).2.2=n.2/\True) (ifP (decide ((nextV l 6).1=2)) (okC (nextV l 6).2/\0<=(Qbz63 l).1/\(Qbz63 l).1<((List.length [(65536:Int),(20000:Int),(3:Int)]):Int)/\ ∃(m:List Link) (n:Codes),(m=List.set (oL ((a,b,c),d,e) i).1.2 i.toNat (Qbz19 a b c d e i).1/\n=(Qbz19 a b c d e
 i).2)/\i=i/\i.toNat=i.toNat/\j=j/\c=c/\List.set k i.toNat ((Qbz60 i k).1,(Qbz60 i k).2.1,(Qbz60 i k).2.2.1,(Qbz60 i k).2.2.2.1,List.getD [(65536:Int),(20000:Int),(3:Int)] (Int.toNat (Qbz63 l).1) default,(Qbz60 i k).2.2.2.2.2)=m/\(Qbz63 l).2.1=n.1/\(Qbz63 l).2.2=n.2/\True) (∃(m:List Link) (n:Codes),(m=List.set (oL ((a,b,c),d,e) i).1.2 i.toNat (Qbz19 a b c d e i).1/\n=(Qbz19 a b c d e i).2)/\i=i/\i.toNat=i.toNat/\j=j/\c=c/\k=m/\(nextV l 6).2.1=n.1/\(nextV l 6).2.2=n.2/\True)))/\ ∀(m:List Link) (n:Codes),m=List.set (oL ((a,b,c),d,e) i).1.2 i.toNat (Qbz19 a b c d e i).1/\n=(Qbz19 a b c d e i).2->0<=(Qbz65 i m).1/\(Qbz65 i m).1<(j.length:Int)/\ ∀(o:Bool),o=(j.getD (Int.toNat (Qbz65 i m).1) default).2.2.2.2.2.2.2.2.2.2.2.2.1->(o->(o->o)/\True)/\(o->(o->o)/\True)/\(o->(o->o)/\True)/\(o->(o->o)/\True)/\(o->(o->o)/\True)/\(o->(o->o)/\True)/\(o->(o->o)/\True)/\(o->(o->o)/\(o->o)/\0<=(Qbz65 i
 m).2.1/\(Qbz65 i m).2.1<(j.length:Int)/\True)/\(o->(o->o)/\True)/\(o->(o->o)/\True)/\(o->o)/\ifP (bif o then (Qbz14 i j m).2.2.2.2.2.2.2.2.2.2.2.2.1 else false) (0<=(Qbz65 i m).2.1/\(Qbz65 i m).2.1<(j.length:Int)/\ ∃(p:Int) (q:List Node),∃(r:List Link) (s:Codes),(0<=p/\p<=(Qbz41 b)/\((q,r),s)=oL ((a,b,c),d,e) p)/\Int.toNat ((Qbz41 b) -p)<Int.toNat ((Qbz41 b) -i)/\IntKind.wrap .i64 (i+(1:Int))=p/\c=c/\List.set j (Int.toNat (Qbz65 i m).2.1) ((Qbz14 i j m).1,(Qbz14 i j m).2.1,(Qbz14 i j m).2.2.1,(Qbz14 i j m).2.2.2.1,(Qbz14 i j m).2.2.2.2.1,(Qbz14 i j m).2.2.2.2.2.1,(Qbz14 i j m).2.2.2.2.2.2.1,(Qbz14 i j m).2.2.2.2.2.2.2.1,(Qbz14 i j m).2.2.2.2.2.2.2.2.1,(Qbz14 i j m).2.2.2.2.2.2.2.2.2.1,(Qbz14 i j m).2.2.2.2.2.2.2.2.2.2.1,(Qbz14 i j m).2.2.2.2.2.2.2.2.2.2.2.1,false,(Qbz14 i j m).2.2.2.2.2.2.2.2.2.2.2.2.2)=q/\m=r/\n.1=s.1/\n.2=s.2/\True) (∃(p:Int) (q:List Node),∃(r:List Link)
 (s:Codes),(0<=p/\p<=(Qbz41 b)/\((q,r),s)=oL ((a,b,c),d,e) p)/\Int.toNat ((Qbz41 b) -p)<Int.toNat ((Qbz41 b) -i)/\IntKind.wrap .i64 (i+(1:Int))=p/\c=c/\j=q/\m=r/\n.1=s.1/\n.2=s.2/\True)) (okC l/\(∃(m:Int) (n:Int),∃(o:List Change) (p:Codes),(0<=m/\m<=oK ((a,b,c),d,e)/\(o,n,p)=oC ((a,b,c),d,e) (Int.toNat (oK ((a,b,c),d,e) -m)))/\(0:Int)=n/\(nextV l 4).1=m/\j=j/\k=k/\c=o/\(nextV l 4).2.1=p.1/\(nextV l 4).2.2=p.2/\True)/\ ∀(m n:Int) (o:List Change) (p:Codes),0<=m/\m<=oK ((a,b,c),d,e)/\(o,n,p)=oC ((a,b,c),d,e) (Int.toNat (oK ((a,b,c),d,e) -m))->ifP (decide (0<m)) (okC p/\okC (nextV p 60).2/\0<=(Qbz34 j p).1/\(Qbz34 j p).1<(j.length:Int)/\ifP (decide (((List.length (Qbz6 j p).2.2.2.2.1):Int)=0)) (∃(q:Int) (r:Int),∃(s:List Change) (t:Codes),(0<=q/\q<=oK ((a,b,c),d,e)/\(s,r,t)=oC ((a,b,c),d,e) (Int.toNat (oK ((a,b,c),d,e) -q)))/\q.toNat<m.toNat/\IntKind.wrap .i64 (n+(nextV p
 60).1)=r/\IntKind.wrap .i64 (m -(1:Int))=q/\j=j/\k=k/\o=s/\(Qbz34 j p).2.1=t.1/\(Qbz34 j p).2.2=t.2/\True) (okC (Qbz34 j p).2/\0<=(Qbz2 j p).1/\(Qbz2 j p).1<((List.length (Qbz6 j p).2.2.2.2.1):Int)/\okC (Qbz2 j p).2/\0<=(Qbz21 j p).1/\(Qbz21 j p).1<((List.length (Qbz6 j p).1):Int)/\okC (Qbz21 j p).2/\ifP (decide ((nextV (Qbz21 j p).2 (4:Int)).1=3)) ((o.length+List.length [(IntKind.wrap .i64 (n+(nextV p 60).1),(Qbz34 j p).1,false,(Qbz22 j p).1,([]:List Int),(Qbz22 j p).2.2)])*(72:Nat)<=(Qbz47)/\ ∃(q:Int) (r:Int),∃(s:List Change) (t:Codes),(0<=q/\q<=oK ((a,b,c),d,e)/\(s,r,t)=oC ((a,b,c),d,e) (Int.toNat (oK ((a,b,c),d,e) -q)))/\q.toNat<m.toNat/\IntKind.wrap .i64 (n+(nextV p 60).1)=r/\IntKind.wrap .i64 (m -(1:Int))=q/\j=j/\k=k/\o++[(IntKind.wrap .i64 (n+(nextV p 60).1),(Qbz34 j p).1,false,(Qbz22 j p).1,([]:List Int),(Qbz22 j p).2.2)]=s/\(nextV (Qbz21 j p).2 (4:Int)).2.1=t.1/\(nextV (Qbz21 j
 p).2 (4:Int)).2.2=t.2/\True) ((o.length+List.length [(Qbz50 j n p)])*(72:Nat)<=(Qbz47)/\ ∃(q:Int) (r:Int),∃(s:List Change) (t:Codes),(0<=q/\q<=oK ((a,b,c),d,e)/\(s,r,t)=oC ((a,b,c),d,e) (Int.toNat (oK ((a,b,c),d,e) -q)))/\q.toNat<m.toNat/\IntKind.wrap .i64 (n+(nextV p 60).1)=r/\IntKind.wrap .i64 (m -(1:Int))=q/\j=j/\k=k/\o++[(Qbz50 j n p)]=s/\(nextV (Qbz21 j p).2 (4:Int)).2.1=t.1/\(nextV (Qbz21 j p).2 (4:Int)).2.2=t.2/\True))) (((j,k,o),p)=oddS ((a,b,c),d,e)))):=by
  delta Qbz0 Qbz2 Qbz3 Qbz5 Qbz6 Qbz9 Qbz11 Qbz13 Qbz14 Qbz19 Qbz21 Qbz22 Qbz32 Qbz34 Qbz35 Qbz36 Qbz41 Qbz47 Qbz49 Qbz50 Qbz51 Qbz54 Qbz59 Qbz60 Qbz61 Qbz63 Qbz65
  rintro ns0 ls0 hs0 l p ⟨⟨⟨hnl,hnw⟩,⟨hl,hw⟩,-⟩,-⟩ ⟨hc,n0,h1,h2,hg,hh,ha,hp⟩
  dsimp only at hc n0 h1 h2 hg hh ha hp
  subst hh
  have hB:okB (l,p):=⟨hc,hw⟩
  generalize eS:(((ns0,ls0,[]),l,p):Scene)=Z
  have z1:Z.1.1=ns0:=by rw [← eS]
  have z2:Z.1.2.1=ls0:=by rw [← eS]
  have z3:Z.2=(l,p):=by rw [← eS]
  have zB:okB Z.2:=by rw [z3];exact hB
  have zG:goodEnds Z.1.1.length Z.1.2.1:=by rw [z1,z2];exact hg
  refine ⟨⟨0,ns0,(l,p),⟨by omega,by omega,by rw [← eS];rfl⟩,(by repeat' first|exact trivial|refine ⟨trivial,?_⟩|refine ⟨(by with_reducible rfl),?_⟩|refine ⟨w64 (by omega) (by omega),?_⟩|refine ⟨rfl,?_⟩)⟩,?_⟩
  rintro i ns cs ⟨i0,il,hF⟩
  obtain ⟨A1,hcs⟩:=oN_ok Z zB (i:=i) (by rw [z1];exact il)
  rw [← hF] at A1 hcs
  dsimp only at A1 hcs
  rw [← hF]
  dsimp only
  have hn:=A1.n
  rw [z1] at hn
  refine ifP_split (fun hi => ?_) (fun hi => ?_)
  · have hi:=of_decide_eq_true hi
    have hi':i.toNat<ns.length:=by omega
    have k10:=(nextV_ok hcs 10).1
    refine ⟨i0,hi,⟨hcs.at',?_⟩,?_⟩
    · simp only [List.set_set,getD_set hi']
      refine ifP_split (fun c => ?_) (fun c1 => ?_)
      · have c:=of_decide_eq_true c
        refine ⟨_,_,⟨?_,?_⟩,(by repeat' first|exact trivial|refine ⟨trivial,?_⟩|refine ⟨(by with_reducible rfl),?_⟩|refine ⟨w64 (by omega) (by omega),?_⟩|refine ⟨rfl,?_⟩)⟩
        · rw [odWay,if_pos c];rfl
        · rw [odWay,if_pos c]
      have c1:=of_decide_eq_false c1
      refine ifP_split (fun c => ?_) (fun c2 => ?_)
      · have c:=of_decide_eq_true c
        have k3:=nextV_lt k10 (n:=3) (by omega)
        have k11:=(nextV_ok k10 3).1
        have k4:=nextV_lt k11 (n:=200) (by omega)
        refine ⟨k10.at',k11.at',_,_,⟨?_,?_⟩,(by repeat' first|exact trivial|refine ⟨trivial,?_⟩|refine ⟨(by with_reducible rfl),?_⟩|refine ⟨w64 (by omega) (by omega),?_⟩|refine ⟨rfl,?_⟩)⟩
        · rw [odWay,if_neg c1,if_pos c,w64 (n:=1+_) (by omega) (by omega),w64 (n:=1+_) (by omega) (by omega)];rfl
        · rw [odWay,if_neg c1,if_pos c]
      have c2:=of_decide_eq_false c2
      refine ifP_split (fun c => ?_) (fun c3 => ?_)
      · have c:=of_decide_eq_true c
        intro b hb
        refine ⟨by simp,by simp,by simp,_,_,⟨?_,?_⟩,(by repeat' first|exact trivial|refine ⟨trivial,?_⟩|refine ⟨(by with_reducible rfl),?_⟩|refine ⟨w64 (by omega) (by omega),?_⟩|refine ⟨rfl,?_⟩)⟩
        · have eb:(bif b then decide (i%2=1) else false)=(!nHost (ns.getD i.toNat default)&&decide (i%2=1)):=by
            rw [show b = !nHost (ns.getD i.toNat default) from hb]
            cases nHost (ns.getD i.toNat default) <;> rfl
          rw [odWay,if_neg c1,if_neg c2,if_pos c,Int.tmod_eq_emod_of_nonneg i0,eb];rfl
        · rw [odWay,if_neg c1,if_neg c2,if_pos c]
      have c3:=of_decide_eq_false c3
      refine ifP_split (fun c => ?_) (fun c4 => ?_)
      · have c:=of_decide_eq_true c
        refine ⟨_,_,⟨?_,?_⟩,(by repeat' first|exact trivial|refine ⟨trivial,?_⟩|refine ⟨(by with_reducible rfl),?_⟩|refine ⟨w64 (by omega) (by omega),?_⟩|refine ⟨rfl,?_⟩)⟩
        · rw [odWay,if_neg c1,if_neg c2,if_neg c3,if_pos c];rfl
        · rw [odWay,if_neg c1,if_neg c2,if_neg c3,if_pos c]
      have c4:=of_decide_eq_false c4
      refine ifP_split (fun c => ?_) (fun c5 => ?_)
      · have c:=of_decide_eq_true c
        refine ⟨_,_,⟨?_,?_⟩,(by repeat' first|exact trivial|refine ⟨trivial,?_⟩|refine ⟨(by with_reducible rfl),?_⟩|refine ⟨w64 (by omega) (by omega),?_⟩|refine ⟨rfl,?_⟩)⟩
        · rw [odWay,if_neg c1,if_neg c2,if_neg c3,if_neg c4,if_pos c,w64 (n:=167903232+i) (by omega) (by omega),wu32 (n:=167903232+i) (by omega) (by omega)];rfl
        · rw [odWay,if_neg c1,if_neg c2,if_neg c3,if_neg c4,if_pos c]
      have c5:=of_decide_eq_false c5
      refine ifP_split (fun c => ?_) (fun c6 => ?_)
      · have c:=of_decide_eq_true c
        have k4:=nextV_lt k10 (n:=40) (by omega)
        refine ⟨k10.at',_,_,⟨?_,?_⟩,(by repeat' first|exact trivial|refine ⟨trivial,?_⟩|refine ⟨(by with_reducible rfl),?_⟩|refine ⟨w64 (by omega) (by omega),?_⟩|refine ⟨rfl,?_⟩)⟩
        · rw [odWay,if_neg c1,if_neg c2,if_neg c3,if_neg c4,if_neg c5,if_pos c,wu32 (n:=167837696+_) (by omega) (by omega)];rfl
        · rw [odWay,if_neg c1,if_neg c2,if_neg c3,if_neg c4,if_neg c5,if_pos c]
      have c6:=of_decide_eq_false c6
      refine ⟨ns,_,⟨?_,?_⟩,(by repeat' first|exact trivial|refine ⟨trivial,?_⟩|refine ⟨(by with_reducible rfl),?_⟩|refine ⟨w64 (by omega) (by omega),?_⟩|refine ⟨rfl,?_⟩)⟩
      · rw [odWay,if_neg c1,if_neg c2,if_neg c3,if_neg c4,if_neg c5,if_neg c6]
        exact (set_getD i0 hi).symm
      · rw [odWay,if_neg c1,if_neg c2,if_neg c3,if_neg c4,if_neg c5,if_neg c6]
    · rintro nsx csx ⟨hx1,hx2⟩
      have kc:=odWay_ok (x:=ns.getD i.toNat default) (i:=i) hcs
      rw [← hx2] at kc
      have ka:=(nextV_ok kc 6).1
      have kb:=(nextV_ok ka 65536).1
      have hxl:i.toNat<nsx.length:=by rw [hx1,List.length_set];exact hi'
      simp only [List.set_set,getD_set hxl]
      refine ⟨kc.at',ka.at',kb.at',i+1,_,_,⟨by omega,by omega,?_⟩,by omega,(by repeat' first|exact trivial|refine ⟨trivial,?_⟩|refine ⟨(by with_reducible rfl),?_⟩|refine ⟨w64 (by omega) (by omega),?_⟩|refine ⟨rfl,?_⟩)⟩
      rw [oN_next Z i0,← hF]
      unfold odNodes odNode
      dsimp only
      rw [show ((i.toNat:Nat):Int)=i by omega,← hx2,hx1,getD_set hi',List.set_set]
      rfl
  have hi:=of_decide_eq_false hi
  have e:i=Z.1.1.length:=by rw [z1];omega
  subst e
  refine ⟨⟨0,ns,ls0,cs,⟨by omega,by omega,?_⟩,(by repeat' first|exact trivial|refine ⟨trivial,?_⟩|refine ⟨(by with_reducible rfl),?_⟩|refine ⟨w64 (by omega) (by omega),?_⟩|refine ⟨rfl,?_⟩)⟩,?_⟩
  · unfold oL
    rw [← hF,z2];rfl
  clear hF A1 hcs hn hi i0 il
  rintro i ns ls cs ⟨i0,il,hF⟩
  obtain ⟨A1,hcs,lg,ll⟩:=oL_ok Z zB zG (i:=i) (by rw [z2];exact il)
  rw [← hF] at A1 hcs lg ll
  dsimp only at A1 hcs lg ll
  rw [← hF]
  dsimp only
  have hn:=A1.n
  rw [z1] at hn lg
  rw [z2] at ll
  refine ifP_split (fun hi => ?_) (fun hi => ?_)
  · have hi:=of_decide_eq_true hi
    have hi':i.toNat<ls.length:=by omega
    have k6:=(nextV_ok hcs 6).1
    refine ⟨i0,hi,⟨hcs.at',?_⟩,?_⟩
    · refine ifP_split (fun c => ?_) (fun c1 => ?_)
      · have c:=of_decide_eq_true c
        refine ⟨k6.at',_,_,⟨?_,?_⟩,(by repeat' first|exact trivial|refine ⟨trivial,?_⟩|refine ⟨(by with_reducible rfl),?_⟩|refine ⟨w64 (by omega) (by omega),?_⟩|refine ⟨rfl,?_⟩)⟩
        · rw [odLink,if_pos c]
        · rw [odLink,if_pos c]
      have c1:=of_decide_eq_false c1
      refine ifP_split (fun c => ?_) (fun c2 => ?_)
      · have c:=of_decide_eq_true c
        have k3:=nextV_lt k6 (n:=3) (by omega)
        refine ⟨k6.at',k3.1,k3.2,_,_,⟨?_,?_⟩,(by repeat' first|exact trivial|refine ⟨trivial,?_⟩|refine ⟨(by with_reducible rfl),?_⟩|refine ⟨w64 (by omega) (by omega),?_⟩|refine ⟨rfl,?_⟩)⟩
        · rw [odLink,if_neg c1,if_pos c]
        · rw [odLink,if_neg c1,if_pos c]
      have c2:=of_decide_eq_false c2
      refine ⟨ls,_,⟨?_,?_⟩,(by repeat' first|exact trivial|refine ⟨trivial,?_⟩|refine ⟨(by with_reducible rfl),?_⟩|refine ⟨w64 (by omega) (by omega),?_⟩|refine ⟨rfl,?_⟩)⟩
      · rw [odLink,if_neg c1,if_neg c2]
        exact (set_getD i0 hi).symm
      · rw [odLink,if_neg c1,if_neg c2]
    · rintro lsx csx ⟨hx1,hx2⟩
      have lgx:=lg.odLink hi' cs
      rw [← hx1] at lgx
      have lxl:i.toNat<lsx.length:=by rw [hx1,List.length_set];exact hi'
      have g:=lgx.at' lxl
      have e1:(odLink (ls.getD i.toNat default) cs).1=lsx.getD i.toNat default:=by rw [hx1,getD_set hi']
      have nx:((odClear ns (lsx.getD i.toNat default),lsx),csx)=oL Z (i+1):=by
        rw [oL_next Z i0,← hF]
        unfold odLinks
        dsimp only
        rw [← hx1,← hx2,e1]
      unfold odClear at nx
      refine ⟨g.1.1,by rw [hn];exact g.1.2,?_⟩
      intro b hb
      refine ⟨by simp,by simp,by simp,by simp,by simp,by simp,by simp,fun h=>⟨fun _=>h,fun _=>h,g.2.1,by rw [hn];exact g.2.2,trivial⟩,by simp,by simp,fun h=>h,?_⟩
      refine ifP_and (fun ha1 ha2 => ?_) (fun hna => ?_)
      · refine ⟨g.2.1,by rw [hn];exact g.2.2,i+1,_,_,_,⟨by omega,by omega,?_⟩,by omega,(by repeat' first|exact trivial|refine ⟨trivial,?_⟩|refine ⟨(by with_reducible rfl),?_⟩|refine ⟨w64 (by omega) (by omega),?_⟩|refine ⟨rfl,?_⟩)⟩
        rw [← nx,if_pos ⟨hb.symm.trans ha1,ha2⟩];rfl
      · refine ⟨i+1,_,_,_,⟨by omega,by omega,?_⟩,by omega,(by repeat' first|exact trivial|refine ⟨trivial,?_⟩|refine ⟨(by with_reducible rfl),?_⟩|refine ⟨w64 (by omega) (by omega),?_⟩|refine ⟨rfl,?_⟩)⟩
        rw [← nx,if_neg]
        rintro ⟨x1,x2⟩
        rcases hna with h|h
        · rw [hb] at h
          rw [show nOpaque (ns.getD (lA (lsx.getD i.toNat default)).toNat default)=(ns.getD (lsx.getD i.toNat default).1.toNat default).2.2.2.2.2.2.2.2.2.2.2.2.1 from rfl,h] at x1
          cases x1
        · rw [show nOpaque (ns.getD (lB (lsx.getD i.toNat default)).toNat default)=(ns.getD (lsx.getD i.toNat default).2.1.toNat default).2.2.2.2.2.2.2.2.2.2.2.2.1 from rfl,h] at x2
          cases x2
  have hi:=of_decide_eq_false hi
  have e:i=Z.1.2.1.length:=by rw [z2];omega
  subst e
  have k4:=nextV_lt hcs (n:=4) (by omega)
  have eK:oK Z=(nextV cs 4).1:=by unfold oK;rw [← hF]
  refine ⟨hcs.at',⟨_,0,[],(nextV cs 4).2,⟨k4.1,by rw [eK];exact Int.le_refl _,?_⟩,(by repeat' first|exact trivial|refine ⟨trivial,?_⟩|refine ⟨(by with_reducible rfl),?_⟩|refine ⟨w64 (by omega) (by omega),?_⟩|refine ⟨rfl,?_⟩)⟩,?_⟩
  · rw [eK,Int.sub_self]
    unfold oC
    rw [← hF];rfl
  clear i0 il hi
  rintro k a hs cs2 ⟨k0,kl,hC⟩
  have cok:=oC_ok Z zB zG (oK Z-k).toNat
  rw [← hC] at cok
  dsimp only at cok
  obtain ⟨ok2,a0,al,hsl⟩:=cok
  rw [eK] at kl al hsl
  refine ifP_split (fun hk => ?_) (fun hk => ?_)
  rotate_left
  · have hk:=of_decide_eq_false hk
    have e:k=0:=by omega
    subst e
    rw [Int.sub_zero] at hC
    have:oddS Z=(((oL Z Z.1.2.1.length).1.1,(oL Z Z.1.2.1.length).1.2,(oC Z (oK Z).toNat).1),(oC Z (oK Z).toNat).2.2):=by
      unfold oddS oC oK oL oN
      rfl
    rw [this,← hC,← hF]
  have hk:=of_decide_eq_true hk
  have q1:=nextV_lt ok2 (n:=60) (by omega)
  have b1:=(nextV_ok ok2 60).1
  have q2:=nextV_lt b1 (n:=(ns.length:Int)) (by omega)
  have b2:=(nextV_ok b1 (ns.length:Int)).1
  have en:oC Z (oK Z-(k-1)).toNat=odChange ns (hs,a,cs2):=by
    rw [show (oK Z-(k-1)).toNat=(oK Z-k).toNat+1 by omega,oC_next,← hC,← hF]
  unfold odChange at en
  dsimp only at en
  generalize eW:(nextV (nextV cs2 60).2 (ns.length:Int))=W at q2 b2 en ⊢
  generalize eX:ns.getD W.1.toNat default=X at en ⊢
  have hX:nPorts X=nPorts (ns0.getD W.1.toNat default)/\nRoutes X=nRoutes (ns0.getD W.1.toNat default):=by
    have:=A1.e W.1.toNat (by rw [z1];omega)
    rw [z1,eX] at this;exact this
  have hM:ns0.getD W.1.toNat default∈ns0:=getD_mem q2.1 (by omega)
  rw [w64 (n:=a+_) (by omega) (by omega),w64 (n:=k-1) (by omega) (by omega)]
  refine ⟨ok2.at',b1.at',q2.1,q2.2,?_⟩
  refine ifP_split (fun hr => ?_) (fun hr => ?_)
  · have hr:((nRoutes X).length:Int)=0:=of_decide_eq_true hr
    refine ⟨k-1,_,_,_,⟨by omega,by omega,?_⟩,by omega,(by repeat' first|exact trivial|refine ⟨trivial,?_⟩|refine ⟨(by with_reducible rfl),?_⟩|refine ⟨w64 (by omega) (by omega),?_⟩|refine ⟨rfl,?_⟩)⟩
    rw [en,if_pos (show (nRoutes X).length=0 from by omega)]
  have hr:=of_decide_eq_false hr
  have hr':¬ (nRoutes X).length=0:=fun e=>hr (by rw [show X.2.2.2.2.1=nRoutes X from rfl,e];rfl)
  have hpp:=hp _ hM (by rw [← hX.2];exact fun e=>hr' (by rw [e];rfl))
  rw [← hX.1,← hX.2] at hpp
  have q3:=nextV_lt b2 (n:=((nRoutes X).length:Int)) (by omega)
  have b3:=(nextV_ok b2 ((nRoutes X).length:Int)).1
  have q4:=nextV_lt b3 (n:=((nPorts X).length:Int)) (by omega)
  have b4:=(nextV_ok b3 ((nPorts X).length:Int)).1
  rw [if_neg hr'] at en
  refine ⟨b2.at',q3.1,q3.2,b3.at',q4.1,q4.2,b4.at',?_⟩
  refine ifP_split (fun hz => ?_) (fun hz => ?_)
  · have hz:(nextV (nextV (nextV W.2 ((nRoutes X).length:Int)).2 ((nPorts X).length:Int)).2 4).1=3:=of_decide_eq_true hz
    refine ⟨by simp only [List.length_cons,List.length_nil];omega,k-1,_,_,_,⟨by omega,by omega,?_⟩,by omega,(by repeat' first|exact trivial|refine ⟨trivial,?_⟩|refine ⟨(by with_reducible rfl),?_⟩|refine ⟨w64 (by omega) (by omega),?_⟩|refine ⟨rfl,?_⟩)⟩
    rw [en,if_pos hz];rfl
  · have hz:¬ (nextV (nextV (nextV W.2 ((nRoutes X).length:Int)).2 ((nPorts X).length:Int)).2 4).1=3:=of_decide_eq_false hz
    refine ⟨by simp only [List.length_cons,List.length_nil];omega,k-1,_,_,_,⟨by omega,by omega,?_⟩,by omega,(by repeat' first|exact trivial|refine ⟨trivial,?_⟩|refine ⟨(by with_reducible rfl),?_⟩|refine ⟨w64 (by omega) (by omega),?_⟩|refine ⟨rfl,?_⟩)⟩
    rw [en,if_neg hz];rfl
theorem ok_draw_scene_odd:SpecOK Tryd.prog GL 16 ct_draw_scene_odd.spec:=Ct.okH _ Tryd.func16 (by kernel_rfl) (withSpec_ok (withSpec_ok noSpecs_ok ok_Nextx) ok_draw_Codes_fixed) hmix an_draw_scene_odd (hideMp (by kernel_rfl) vc_draw_scene_odd)
theorem GI.small {s:Scene} {nn nl:Nat} (h:GI s nn nl) (hn:nn<=100) (hl:nl<=100):smallS s :=
  ⟨h.c.at',by rw [h.n];omega,by rw [h.l];omega,by rw [h.h];decide,fun x hx=>by have:=h.plen x hx;omega⟩
theorem GI.inN {s:Scene} {nn nl:Nat} (h:GI s nn nl) {a:Int} (h0:0<=a) (h1:a<nn):inN s.1.1 a:=⟨h0,by rw [h.n];exact h1⟩
theorem GI.preR {s:Scene} {nn nl:Nat} (h:GI s nn nl) (hn:nn<=100) (hl:nl<=100):preR s:=by
  refine ⟨h.c.at',by rw [h.n];omega,by rw [h.l];omega,h.ends,h.routes,?_⟩
  have:=allA_len h.plen
  rw [h.n] at this
  have:=Nat.mul_le_mul hn (show 2*nl<=200 by omega)
  omega
structure RS (s:Scene) (nn nl:Nat) (r:Scene):Prop where
  g:GI s nn nl
  i:RI s.1.2.1 (allA s.1.1) s.1.1 r.1.1
  c:okB r.2
  l:r.1.2=s.1.2
theorem GI.rs {s:Scene} {nn nl:Nat} (h:GI s nn nl) (plain:Bool):RS s nn nl (routesS s plain):=by
  have:=RI.stepTs (ns0:=s.1.1) (ls:=s.1.2.1) (s:=(s.1.1,s.2)) ⟨RI.start h.routes,h.c⟩ h.ends (plain:=plain) (Nat.le_refl _)
  exact ⟨h,this.1,this.2,rfl⟩
theorem RS.ports {s r:Scene} {nn nl:Nat} (h:RS s nn nl r) {i:Nat} (hi:i<nn):nPorts (r.1.1.getD i default)=portsF i 0 s.1.2.1 :=
  (h.i.ports (by rw [h.g.n];exact hi)).trans (h.g.p i hi)
theorem RS.mem {s r:Scene} {nn nl:Nat} (h:RS s nn nl r) {x:Node} (hx:x∈r.1.1):∃ i,i<nn/\r.1.1.getD i default=x:=by
  obtain ⟨i,hi,e⟩:=List.mem_iff_getElem.1 hx
  exact ⟨i,by have:=h.i.n;have:=h.g.n;omega,by rw [List.getD_eq_getElem?_getD,List.getElem?_eq_getElem hi,e];rfl⟩
theorem RS.tab {s r:Scene} {nn nl:Nat} (h:RS s nn nl r) {i:Nat} (hi:i<nn):tabOK s.1.2.1 (allA s.1.1) i (nRoutes (r.1.1.getD i default)):=h.i.t i (by rw [h.g.n];exact hi)
theorem RS.preO {s r:Scene} {nn nl:Nat} (h:RS s nn nl r) (hn:nn<=100) (hl:nl<=100) (h0:0<nn):preO r:=by
  have pl:∀ x∈r.1.1,x.1.length<=2*nl:=fun x hx=>by
    obtain ⟨i,hi,rfl⟩:=h.mem hx
    have:=portsF_len i 0 s.1.2.1
    rw [← h.ports hi,h.g.l] at this
    exact this
  have rn:r.1.1.length=nn:=h.i.n.trans h.g.n
  have al:=allA_len h.g.plen
  rw [h.g.n] at al
  have al2:=Nat.mul_le_mul hn (show 2*nl<=200 by omega)
  refine ⟨h.c.at',by omega,by omega,?_,?_,?_,?_,fun x hx hr => ?_⟩
  · rw [h.l,h.g.l];omega
  · have:=h.g.ends
    rw [h.l,rn,← h.g.n];exact this
  · rw [h.l];exact h.g.h
  · have:=allA_len pl
    rw [rn] at this
    omega
  · have hp:=pl x hx
    obtain ⟨i,hi,rfl⟩:=h.mem hx
    have t:=h.tab hi
    have tl:=tabOK_len t
    refine ⟨?_,by have:(nPorts (r.1.1.getD i default)).length<=2*nl:=hp;omega,by omega⟩
    obtain ⟨y,ys,e⟩:=List.exists_cons_of_ne_nil hr
    have ty:=t.2 y (by rw [e];exact List.mem_cons_self)
    obtain ⟨k,ks,ek⟩:=List.exists_cons_of_ne_nil ty.ne
    obtain ⟨k0,k1,kk⟩:=ty.ln k (by rw [ek];exact List.mem_cons_self)
    rw [h.ports hi]
    rcases kk with kk|kk
    · exact List.length_pos_of_mem (mem_portsF.2 ⟨k.toNat,by omega,.inl ⟨kk,rfl⟩⟩)
    · exact List.length_pos_of_mem (mem_portsF.2 ⟨k.toNat,by omega,.inr ⟨kk,rfl⟩⟩)
def moreF (plain:Bool) (c:Codes):Scene:=moreS plain (lineS c).1 (lineS c).2
def kN (c:Codes):Int:=(nextV (lineS c).2.2 4).1
def moreK (plain:Bool) (c:Codes) (k:Int):Scene:=more1 plain (lineN c) (lineS c).2 (kN c-k).toNat
theorem app_go (l m:List Node):(List.brecOn.go (motive:=fun (x:List Node)=>List Node->List Node) l List.append._f).1 m=l++m:=by kernel_rfl
theorem moreK_next {plain:Bool} {c:Codes} {k:Int} (k0:0<k) (k1:k<=kN c) (h1:1<lineN c) (h2:plain=false):moreK plain c (k-1)=shortS (lineN c) (moreK plain c k):=by
  unfold moreK more1
  rw [if_pos ⟨h1,h2⟩,if_pos ⟨h1,h2⟩,show (kN c-(k-1)).toNat=(kN c-k).toNat+1 by omega,List.range_succ,List.foldl_append];rfl
theorem moreK_end {plain:Bool} {c:Codes} {k:Int} (h:k=0∨¬ (1<lineN c/\plain=false)):moreK plain c k=more1 plain (lineN c) (lineS c).2 (nextV (lineS c).2.2 4).1.toNat:=by
  rcases h with h|h
  · subst h
    unfold moreK kN
    rw [Int.sub_zero]
  · unfold moreK more1
    rw [if_neg h,if_neg h]
theorem moreK_ok {c:Codes} (h:okB c) (plain:Bool) (k:Int) (k0:0<=k):∃ m,m<=9/\GI (moreK plain c k) ((lineN c).toNat+2) m:=by
  have hn:=lineN_ok h
  have hl:=line_ok h
  have h4:=nextV_lt hl.c (n:=4) (by omega)
  obtain ⟨m,m0,m1,hm⟩:=more1_ok hl (plain:=plain) (n:=lineN c) hn.1 (by omega) (kN c-k).toNat
  unfold kN at m1
  exact ⟨m,by omega,hm⟩
def ct_draw_Codes_Net:Ct:=⟨[.box 57 cCodes,.val .bool],[.agg cNet],fun d=>[okC d.1],fun d=>((netV d.2.1 d.1,()),(netC d.2.1 d.1,()))⟩
def an_draw_Codes_Net:PDs ct_draw_Codes_Net.ps->Anns:=(fun d=>{loops:=(fun n=>match n with|6=>some (fun S=>{ι:=Int×Scene,qn:=⟨fun k_=>∀ (i:Int) (s:Scene),k_ (i,s),fun k_ h_ i=>h_ i.1 i.2,fun k_=>∃ (i:Int) (s:Scene),k_ (i,s),fun k_ ⟨i,s,h_⟩=>⟨_,h_⟩⟩,μ:=fun i=>(lineN d.1-i.1).toNat,inv:=fun i=>0<=i.1/\i.1<=lineN d.1/\i.2=(List.range i.1.toNat).foldl chainS (line0 d.1),keep:=[0,1,4,5],slots:=fun i=>[(7,.int .i64 (lineN d.1)),(9,.int .i64 i.1),(8,.int .i64 i.1)],keepN:=[80],names:=fun i=>[(288,.live (.cells 60 [.own 524288 16,.own 524289 6,.own 524290 7,.ptr 1048576 0])),(524288,.live (.row 54 cNode i.2.1.1)),(524289,.live (.row 39 cLink i.2.1.2.1)),(524290,.live (.row 70 cChange i.2.1.2.2)),(1048576,.live (.cells 57 (flat cCodes i.2.2)))]})|14=>some (fun S=>{ι:=Int×Scene,qn:=⟨fun k_=>∀ (k:Int) (s:Scene),k_ (k,s),fun k_ h_ i=>h_ i.1 i.2,fun k_=>∃ (k:Int) (s:Scene),k_ (k,s),fun k_ ⟨k,s,h_⟩=>⟨_,h_⟩⟩,μ:=fun i=>i.1.toNat,inv:=fun i=>0<=i.1/\i.1<=kN d.1/\i.2=moreK d.2.1 d.1 i.1,keep:=[0,1,4,5],slots:=fun i=>[(7,.int .i64 (lineN d.1)),(12,.int .i64 i.1)],keepN:=[80],names:=fun i=>[(288,.live (.cells 60 [.own 524288 16,.own 524289 6,.own 524290 7,.ptr 1048576 0])),(524288,.live (.row 54 cNode i.2.1.1)),(524289,.live (.row 39 cLink i.2.1.2.1)),(524290,.live (.row 70 cChange i.2.1.2.2)),(1048576,.live (.cells 57 (flat cCodes i.2.2)))]})|_=>none),cuts:=(fun n=>match n with|21=>some (fun S=>{ι:=Scene,inv:=fun i=>i=moreF d.2.1 d.1,keep:=[0,1,4,5],slots:=fun i=>[],keepN:=[80],names:=fun i=>[(288,.live (.cells 60 [.own 524288 16,.own 524289 6,.own 524290 7,.ptr 1048576 0])),(524288,.live (.row 54 cNode i.1.1)),(524289,.live (.row 39 cLink i.1.2.1)),(524290,.live (.row 70 cChange i.1.2.2)),(1048576,.live (.cells 57 (flat cCodes i.2)))]})|_=>none)})
def Qbz20 (c:Bool) (j:Scene) :=
 List.foldl (stepT j.1.2.1 c) (j.1.1,j.2) (List.range j.1.1.length)
def Qbz1 (c:Bool) (j:Scene) :=
 List.foldl odLinks (((List.foldl odNodes (Qbz20 c j) (List.range (List.length (Qbz20 c j).1))).1,j.1.2.1),(List.foldl odNodes (Qbz20 c j) (List.range (List.length (Qbz20 c j).1))).2) (List.range j.1.2.1.length)
def Qbz16 (e:Scene) :=
 List.getD [(64:Int),(255:Int),(128:Int)] (Int.toNat (nextV e.2 3).1) default
def Qbz17 (e:Scene) :=
 nextV (nextV e.2 3).2 (256:Int)
def Qbz18 (a:List Int) (b:Int) :=
 IntKind.wrap .i64 (lineN (a,b) -(1:Int))
def Qbz24 (a:List Int) (b:Int) (g:Scene) :=
 nextV (nextV g.2 (lineN (a,b))).2 (lineN (a,b))
def Qbz28 (e:Scene) :=
 nextV (nextV (Qbz17 e).2 (20:Int)).2 (256:Int)
def Qbz37 (c:Bool) (j:Scene) :=
 List.foldl (fun (k:List Change×Int×Codes) (l:Nat)=>odChange (Qbz1 c j).1.1 k) (([]:List Change),(0:Int),(nextV (Qbz1 c j).2 (4:Int)).2) (List.range (Int.toNat (nextV (Qbz1 c j).2 (4:Int)).1))
def Qbz42 (e:Scene) :=
 (e.1.1.length:Int)
def Qbz43 (a:List Int) (b:Int) (g:Scene) :=
 nextV (nextV g.2 2).2 (Qbz18 a b)
def Qbz45 (g:Scene) :=
 (g.1.2.1.length:Int)
def Qbz52 (a:List Int) (b:Int) :=
 nextV (nextV (a,b) (3:Int)).2 (256:Int)
def Qbz57 (e:Scene) :=
 e.1.1++[newNode (Qbz42 e) false (Qbz16 e) (Qbz17 e).1]
def Qbz58 (e:Scene) :=
 e.1.1++[newNode (Qbz42 e) true (Qbz16 e) (Qbz17 e).1]
def Qbz66 (e:Scene) :=
 (e.1.2.1.length:Int)
theorem vc_draw_Codes_Net :
 ∀(a:List Int) (b:Int) (c:Bool),((a.length<=maxLen/\ ∀(d:Int),d∈a->0<=d/\d<=255)/\R64 b)/\True/\True->0<=b/\b<=(a.length:Int)->smallS ((([]:List Node),([]:List Link),([]:List Change)),a,b)/\okC (Qbz52 a b).2/\(∃(d:Int) (e:Scene),(0<=d/\d<=lineN (a,b)/\e=List.foldl chainS (line0 (a,b)) (List.range d.toNat))/\c=c/\IntKind.wrap .i64 ((1:Int)+(nextV (Qbz52 a b).2 (5:Int)).1)=lineN (a,b)/\(↑(0:Nat):Int)=d/\(0:Int)=d/\[newNode (↑(0:Nat):Int) true (List.getD [(64:Int),(255:Int),(128:Int)] (Int.toNat (nextV (a,b) (3:Int)).1) default) (Qbz52 a b).1]=e.1.1/\([]:List Link)=e.1.2.1/\([]:List Change)=e.1.2.2/\(nextV (Qbz52 a b).2 (5:Int)).2.1=e.2.1/\(nextV (Qbz52 a b).2 (5:Int)).2.2=e.2.2/\True)/\ ∀(d:Int) (e:Scene),0<=d/\d<=lineN (a,b)/\e=List.foldl chainS (line0 (a,b)) (List.range d.toNat)->ifP (decide (d<lineN (a,b))) (smallS e/\smallS (((List.brecOn.go (motive:=fun (f:List Node)=>List Node->List
 Node) e.1.1 List.append._f).1 [newNode (Qbz42 e) false (Qbz16 e) (Qbz17 e).1],e.1.2),(Qbz17 e).2)/\inN (Qbz57 e) d/\inN (Qbz57 e) (Qbz42 e)/\ ∃(f:Int) (g:Scene),(0<=f/\f<=lineN (a,b)/\g=List.foldl chainS (line0 (a,b)) (List.range f.toNat))/\Int.toNat (lineN (a,b) -f)<Int.toNat (lineN (a,b) -d)/\c=c/\lineN (a,b)=lineN (a,b)/\(Qbz42 e)=f/\IntKind.wrap .i64 (d+(1:Int))=f/\addPort (addPort (Qbz57 e) d (baseA (Qbz66 e)+(1:Int),(Qbz66 e))) (Qbz42 e) (baseA (Qbz66 e)+(2:Int),(Qbz66 e))=g.1.1/\e.1.2.1++[(d,(Qbz42 e),(1:Int)+(nextV (Qbz17 e).2 (20:Int)).1,(0:Int),(0:Int),(Qbz28 e).1)]=g.1.2.1/\e.1.2.2=g.1.2.2/\(Qbz28 e).2.1=g.2.1/\(Qbz28 e).2.2=g.2.2/\True) (smallS e/\smallS (((List.brecOn.go (motive:=fun (f:List Node)=>List Node->List Node) e.1.1 List.append._f).1 [newNode (Qbz42 e) true (Qbz16 e) (Qbz17 e).1],e.1.2),(Qbz17 e).2)/\inN (Qbz58 e) d/\inN (Qbz58 e) (Qbz42 e)/\okC (Qbz28
 e).2/\(∃(f:Int) (g:Scene),(0<=f/\f<=kN (a,b)/\g=moreK c (a,b) f)/\c=c/\lineN (a,b)=lineN (a,b)/\(nextV (Qbz28 e).2 (4:Int)).1=f/\addPort (addPort (Qbz58 e) d (baseA (Qbz66 e)+(1:Int),(Qbz66 e))) (Qbz42 e) (baseA (Qbz66 e)+(2:Int),(Qbz66 e))=g.1.1/\e.1.2.1++[(d,(Qbz42 e),(1:Int)+(nextV (Qbz17 e).2 (20:Int)).1,(0:Int),(0:Int),(Qbz28 e).1)]=g.1.2.1/\e.1.2.2=g.1.2.2/\(nextV (Qbz28 e).2 (4:Int)).2.1=g.2.1/\(nextV (Qbz28 e).2 (4:Int)).2.2=g.2.2/\True)/\ ∀(f:Int) (g:Scene),0<=f/\f<=kN (a,b)/\g=moreK c (a,b) f-> ∀(h:Bool),h=decide (0<f)->(h->(h->h)/\True)/\(h->h)/\ ∀(i:Bool),(i=bif h then decide (1<lineN (a,b)) else false)->(i->(i->i)/\True)/\(i->i)/\ifP (bif i then ! c else false) (okC g.2/\okC (nextV g.2 (lineN (a,b))).2/\ifP (! decide (IntKind.wrap .i64 ((1:Int)+(nextV g.2 (lineN (a,b))).1)=IntKind.wrap .i64 ((1:Int)+(Qbz24 a b g).1))) (smallS (g.1,(Qbz24 a b g).2)/\inN g.1.1 (IntKind.wrap
 .i64 ((1:Int)+(nextV g.2 (lineN (a,b))).1))/\inN g.1.1 (IntKind.wrap .i64 ((1:Int)+(Qbz24 a b g).1))/\ ∃(j:Int) (k:Scene),(0<=j/\j<=kN (a,b)/\k=moreK c (a,b) j)/\j.toNat<f.toNat/\c=c/\lineN (a,b)=lineN (a,b)/\IntKind.wrap .i64 (f -(1:Int))=j/\addPort (addPort g.1.1 (IntKind.wrap .i64 ((1:Int)+(nextV g.2 (lineN (a,b))).1)) (baseA (Qbz45 g)+(1:Int),(Qbz45 g))) (IntKind.wrap .i64 ((1:Int)+(Qbz24 a b g).1)) (baseA (Qbz45 g)+(2:Int),(Qbz45 g))=k.1.1/\g.1.2.1++[(IntKind.wrap .i64 ((1:Int)+(nextV g.2 (lineN (a,b))).1),IntKind.wrap .i64 ((1:Int)+(Qbz24 a b g).1),(1:Int)+(nextV (Qbz24 a b g).2 (20:Int)).1,(0:Int),(0:Int),(nextV (nextV (Qbz24 a b g).2 (20:Int)).2 (256:Int)).1)]=k.1.2.1/\g.1.2.2=k.1.2.2/\(nextV (nextV (Qbz24 a b g).2 (20:Int)).2 (256:Int)).2.1=k.2.1/\(nextV (nextV (Qbz24 a b g).2 (20:Int)).2 (256:Int)).2.2=k.2.2/\True) (∃(j:Int) (k:Scene),(0<=j/\j<=kN (a,b)/\k=moreK c (a,b)
 j)/\j.toNat<f.toNat/\c=c/\lineN (a,b)=lineN (a,b)/\IntKind.wrap .i64 (f -(1:Int))=j/\g.1.1=k.1.1/\g.1.2.1=k.1.2.1/\g.1.2.2=k.1.2.2/\(Qbz24 a b g).2.1=k.2.1/\(Qbz24 a b g).2.2=k.2.2/\True)) ((∀(j:Bool),j=c->(j->(j->j)/\True)/\(j->j)/\ ∀(k:Bool),(k=bif j then decide (2<lineN (a,b)) else false)->ifP k ((k->k)/\okC g.2/\(k->k)/\ifP (bif k then decide ((nextV g.2 2).1=1) else false) (okC (nextV g.2 2).2/\smallS (g.1,(Qbz43 a b g).2)/\inN g.1.1 (IntKind.wrap .i64 ((1:Int)+(Qbz43 a b g).1))/\inN g.1.1 (lineN (a,b))/\ ∃(l:Scene),l=moreF c (a,b)/\c=c/\addPort (addPort g.1.1 (IntKind.wrap .i64 ((1:Int)+(Qbz43 a b g).1)) (baseA (Qbz45 g)+(1:Int),(Qbz45 g))) (lineN (a,b)) (baseA (Qbz45 g)+(2:Int),(Qbz45 g))=l.1.1/\g.1.2.1++[(IntKind.wrap .i64 ((1:Int)+(Qbz43 a b g).1),lineN (a,b),(1:Int)+(nextV (Qbz43 a b g).2 (20:Int)).1,(0:Int),(0:Int),(nextV (nextV (Qbz43 a b g).2 (20:Int)).2
 (256:Int)).1)]=l.1.2.1/\g.1.2.2=l.1.2.2/\(nextV (nextV (Qbz43 a b g).2 (20:Int)).2 (256:Int)).2.1=l.2.1/\(nextV (nextV (Qbz43 a b g).2 (20:Int)).2 (256:Int)).2.2=l.2.2/\True) (∃(l:Scene),l=moreF c (a,b)/\c=c/\g.1.1=l.1.1/\g.1.2.1=l.1.2.1/\g.1.2.2=l.1.2.2/\(nextV g.2 2).2.1=l.2.1/\(nextV g.2 2).2.2=l.2.2/\True)) (k=false/\(k->false=true)/\ifP (bif k then false else false) (okC g.2/\smallS (g.1,(nextV g.2 (Qbz18 a b)).2)/\inN g.1.1 (IntKind.wrap .i64 ((1:Int)+(nextV g.2 (Qbz18 a b)).1))/\inN g.1.1 (lineN (a,b))/\ ∃(l:Scene),l=moreF c (a,b)/\c=c/\addPort (addPort g.1.1 (IntKind.wrap .i64 ((1:Int)+(nextV g.2 (Qbz18 a b)).1)) (baseA (Qbz45 g)+(1:Int),(Qbz45 g))) (lineN (a,b)) (baseA (Qbz45 g)+(2:Int),(Qbz45 g))=l.1.1/\g.1.2.1++[(IntKind.wrap .i64 ((1:Int)+(nextV g.2 (Qbz18 a b)).1),lineN (a,b),(1:Int)+(nextV (nextV g.2 (Qbz18 a b)).2 (20:Int)).1,(0:Int),(0:Int),(nextV (nextV (nextV g.2 (Qbz18
 a b)).2 (20:Int)).2 (256:Int)).1)]=l.1.2.1/\g.1.2.2=l.1.2.2/\(nextV (nextV (nextV g.2 (Qbz18 a b)).2 (20:Int)).2 (256:Int)).2.1=l.2.1/\(nextV (nextV (nextV g.2 (Qbz18 a b)).2 (20:Int)).2 (256:Int)).2.2=l.2.2/\True) (∃(l:Scene),l=moreF c (a,b)/\c=c/\g.1.1=l.1.1/\g.1.2.1=l.1.2.1/\g.1.2.2=l.1.2.2/\g.2.1=l.2.1/\g.2.2=l.2.2/\True)))/\ ∀(j:Scene),j=moreF c (a,b)->preR j/\ifP (! c) (preO (((Qbz20 c j).1,j.1.2),(Qbz20 c j).2)/\((Qbz1 c j).1.1,(Qbz1 c j).1.2,(Qbz37 c j).1)=netV c (a,b)/\(Qbz37 c j).2.2=netC c (a,b)) (((Qbz20 c j).1,j.1.2)=netV c (a,b)/\(Qbz20 c j).2=netC c (a,b)))):=by
  delta Qbz1 Qbz16 Qbz17 Qbz18 Qbz20 Qbz24 Qbz28 Qbz37 Qbz42 Qbz43 Qbz45 Qbz52 Qbz57 Qbz58 Qbz66
  rintro l p plain ⟨⟨⟨hl,hw⟩,-⟩,-⟩ hc
  have hB:okB (l,p):=⟨hc,hw⟩
  generalize ((l,p):Codes)=c at hB hc ⊢
  have hN:=lineN_ok hB
  have g0:=GI.start hB
  have g1:=g0.node true
  have hw5:IntKind.i64.wrap (1+(nextV (nextV (nextV c 3).2 256).2 5).1)=lineN c:=w64 (n:=lineN c) (by omega) (by omega)
  rw [hw5]
  refine ⟨g0.small (by omega) (by omega),g1.c.at',⟨0,line0 c,⟨by omega,by omega,rfl⟩,(by repeat' first|exact trivial|refine ⟨trivial,?_⟩|refine ⟨(by with_reducible rfl),?_⟩|refine ⟨w64 (by omega) (by omega),?_⟩|refine ⟨rfl,?_⟩)⟩,?_⟩
  rintro i s ⟨i0,il,hs⟩
  have hg:GI s (i.toNat+1) i.toNat:=by rw [hs];exact (line0_ok hB).chain _
  have e1:(s.1.1.length:Int)=i+1:=by rw [hg.n];omega
  simp only [app_go]
  refine ifP_split (fun hi => ?_) (fun hi => ?_)
  · have hi:=of_decide_eq_true hi
    have hg2:=hg.node false
    refine ⟨hg.small (by omega) (by omega),hg2.small (by omega) (by omega),hg2.inN i0 (by omega),hg2.inN (by omega) (by omega),i+1,linkS (nodeS s false) i s.1.1.length,⟨by omega,by omega,?_⟩,by omega,?_⟩
    · rw [show (i+1).toNat=i.toNat+1 by omega,List.range_succ,List.foldl_append,← hs,List.foldl_cons,List.foldl_nil,chainS,show ((i.toNat:Nat):Int)=i by omega,e1]
    · repeat' first|exact trivial|refine ⟨trivial,?_⟩|refine ⟨(by with_reducible rfl),?_⟩|refine ⟨e1,?_⟩|refine ⟨w64 (by omega) (by omega),?_⟩|refine ⟨rfl,?_⟩
  have hi:=of_decide_eq_false hi
  have hi:i=lineN c:=by omega
  subst hi
  have hg2:=hg.node true
  have eL:linkS (nodeS s true) (lineN c) s.1.1.length=(lineS c).2:=by rw [lineS_eq,← hs,e1]
  have gL:=line_ok hB
  rw [← eL] at gL
  have h4:=nextV_lt gL.c (n:=4) (by omega)
  have eK:(nextV (linkS (nodeS s true) (lineN c) s.1.1.length).2 4).1=kN c:=by rw [eL];rfl
  refine ⟨hg.small (by omega) (by omega),hg2.small (by omega) (by omega),hg2.inN i0 (by omega),hg2.inN (by omega) (by omega),gL.c.at',⟨(nextV (linkS (nodeS s true) (lineN c) s.1.1.length).2 4).1,((linkS (nodeS s true) (lineN c) s.1.1.length).1,(nextV (linkS (nodeS s true) (lineN c) s.1.1.length).2 4).2),⟨h4.1,by omega,?_⟩,(by repeat' first|exact trivial|refine ⟨trivial,?_⟩|refine ⟨(by with_reducible rfl),?_⟩|refine ⟨w64 (by omega) (by omega),?_⟩|refine ⟨rfl,?_⟩)⟩,?_⟩
  · rw [eK]
    unfold moreK more1
    rw [Int.sub_self,← eL]
    split <;> rfl
  clear hs hg e1 hg2 eL gL h4 eK il i0
  clear s
  rintro k s ⟨k0,k1,hs⟩
  obtain ⟨m,hm,hg⟩:=moreK_ok hB plain k k0
  rw [← hs] at hg
  have hkN:kN c<=4:=by
    have:=nextV_lt (line_ok hB).c (n:=4) (by omega)
    unfold kN;omega
  have ka:=nextV_lt hg.c (n:=lineN c) (by omega)
  have ca:=(nextV_ok hg.c (lineN c)).1
  have kb:=nextV_lt ca (n:=lineN c) (by omega)
  have cb:=(nextV_ok ca (lineN c)).1
  intro b hb
  refine ⟨by simp,by simp,?_⟩
  intro b1 hb1
  refine ⟨by simp,by simp,?_⟩
  refine ifP_and (fun x1 x2 => ?_) (fun hno => ?_)
  · have hk:0<k/\1<lineN c:=by
      rw [x1] at hb1
      rcases b with _|_
      · cases hb1
      · exact ⟨of_decide_eq_true hb.symm,of_decide_eq_true hb1.symm⟩
    have hpl:plain=false:=by simpa using x2
    have nx:=moreK_next (plain:=plain) hk.1 k1 hk.2 hpl
    rw [← hs] at nx
    unfold shortS at nx
    dsimp only at nx
    rw [w64 (n:=1+(nextV s.2 (lineN c)).1) (by omega) (by omega),w64 (n:=1+(nextV (nextV s.2 (lineN c)).2 (lineN c)).1) (by omega) (by omega),w64 (n:=k-1) (by omega) (by omega)]
    refine ⟨hg.c.at',ca.at',?_⟩
    have hgc:=hg.codes cb
    refine ifP_split (fun hne => ?_) (fun hne => ?_)
    · have hne:=nd_t hne
      rw [if_neg (by omega)] at nx
      exact ⟨hgc.small (by omega) (by omega),hgc.inN (by omega) (by omega),hgc.inN (by omega) (by omega),k-1,_,⟨by omega,by omega,nx.symm⟩,by omega,(by repeat' first|exact trivial|refine ⟨trivial,?_⟩|refine ⟨(by with_reducible rfl),?_⟩|refine ⟨w64 (by omega) (by omega),?_⟩|refine ⟨rfl,?_⟩)⟩
    · have hne:=nd_f hne
      rw [if_pos (by omega)] at nx
      exact ⟨k-1,_,⟨by omega,by omega,nx.symm⟩,by omega,(by repeat' first|exact trivial|refine ⟨trivial,?_⟩|refine ⟨(by with_reducible rfl),?_⟩|refine ⟨w64 (by omega) (by omega),?_⟩|refine ⟨rfl,?_⟩)⟩
  have he:k=0∨¬ (1<lineN c/\plain=false):=by
    by_cases z:k=0
    · exact .inl z
    · refine .inr ?_
      rintro ⟨z1,z2⟩
      rw [hb,show decide (0<k)=true from decide_eq_true (by omega),show decide (1<lineN c)=true from decide_eq_true z1] at hb1
      rcases hno with h|h
      · rw [h] at hb1;cases hb1
      · rw [z2] at h;cases h
  rw [moreK_end he] at hs
  clear hno hb1 hb b1 b k0 k1 he
  have hF:=moreS_eq plain (lineN c) (lineS c).2
  dsimp only at hF
  rw [← hs] at hF
  have c2:=(nextV_ok hg.c 2).1
  refine ⟨?_,?_⟩
  · intro b hb
    (repeat refine ⟨by simp,?_⟩)
    intro b2 hb2
    refine ifP_split (fun h => ?_) (fun h => ?_)
    · have hk:plain=true/\2<lineN c:=by
        rw [h,hb] at hb2
        rcases plain with _|_
        · cases hb2
        · exact ⟨rfl,of_decide_eq_true hb2.symm⟩
      simp only [h,cond_true]
      rw [if_pos hk] at hF
      refine ⟨fun h=>h,hg.c.at',fun h=>h,ifP_split (fun h2 => ?_) (fun h2 => ?_)⟩
      · have h2:=of_decide_eq_true h2
        rw [if_pos h2] at hF
        have kd:=nextV_lt c2 (n:=lineN c-1) (by omega)
        have cd:=(nextV_ok c2 (lineN c-1)).1
        have hgc:=hg.codes cd
        rw [w64 (n:=lineN c-1) (by omega) (by omega),w64 (n:=1+(nextV (nextV s.2 2).2 (lineN c-1)).1) (by omega) (by omega)]
        exact ⟨c2.at',hgc.small (by omega) (by omega),hgc.inN (by omega) (by omega),hgc.inN (by omega) (by omega),_,hF.symm,(by repeat' first|exact trivial|refine ⟨trivial,?_⟩|refine ⟨(by with_reducible rfl),?_⟩|refine ⟨w64 (by omega) (by omega),?_⟩|refine ⟨rfl,?_⟩)⟩
      · have h2:=of_decide_eq_false h2
        rw [if_neg h2] at hF
        exact ⟨_,hF.symm,(by repeat' first|exact trivial|refine ⟨trivial,?_⟩|refine ⟨(by with_reducible rfl),?_⟩|refine ⟨w64 (by omega) (by omega),?_⟩|refine ⟨rfl,?_⟩)⟩
    · have hk:¬ (plain=true/\2<lineN c):=by
        rintro ⟨z1,z2⟩
        rw [h,hb,z1,show decide (2<lineN c)=true from decide_eq_true z2] at hb2
        cases hb2
      simp only [h,cond_false]
      rw [if_neg hk] at hF
      refine ⟨trivial,fun h=>h,?_⟩
      rw [ifP_f]
      exact ⟨s,hF.symm,(by repeat' first|exact trivial|refine ⟨trivial,?_⟩|refine ⟨(by with_reducible rfl),?_⟩|refine ⟨w64 (by omega) (by omega),?_⟩|refine ⟨rfl,?_⟩)⟩
  rintro t ht
  obtain ⟨m',-,m1,hG⟩:=net_ok hB plain
  have hG:GI t ((lineN c).toNat+2) m':=by rw [ht];exact hG
  refine ⟨hG.preR (by omega) (by omega),?_⟩
  have hR:=hG.rs plain
  have hO:=hR.preO (by omega) (by omega) (by omega)
  subst ht
  rcases plain with _|_
  · rw [show (!false)=true from rfl,ifP_t]
    exact ⟨hO,rfl,rfl⟩
  · rw [show (!true)=false from rfl,ifP_f]
    exact ⟨rfl,rfl⟩
theorem ok_draw_Codes_Net:SpecOK Tryd.prog GL 7 ct_draw_Codes_Net.spec:=Ct.okH _ Tryd.func7 (by kernel_rfl) (withSpec_ok (withSpec_ok (withSpec_ok (withSpec_ok (withSpec_ok noSpecs_ok ok_draw_scene_node) ok_Nextx) ok_draw_scene_link) ok_draw_scene_routes) ok_draw_scene_odd) hmix an_draw_Codes_Net (hideMp (by kernel_rfl) vc_draw_Codes_Net)
end Go.RS
