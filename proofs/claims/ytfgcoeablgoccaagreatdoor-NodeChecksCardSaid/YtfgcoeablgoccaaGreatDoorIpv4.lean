/- Transp: messages of three protocols. -/
import Derived.Test.YtfgcoeablgoccaaGreatDoorWire
namespace Go.RS
open Go.SX Go.Proofs
set_option maxRecDepth 100000
set_option linter.unusedVariables false
abbrev cEcho:CT := .pair .bool (.pair cI (.pair cI (.sl cU8)))
abbrev cNotice:CT := .pair cI (.pair cI (.sl cU8))
abbrev cDgram:CT := .pair cI (.pair cI (.sl cU8))
abbrev cSeg:CT := .pair cI (.pair cI (.pair cI (.pair cI (.pair cI (.pair cI (.sl cU8))))))
abbrev Echo:Type:=Bool×Int×Int×List Int
abbrev Notice:Type:=Int×Int×List Int
abbrev Dgram:Type:=Int×Int×List Int
abbrev Seg:Type:=Int×Int×Int×Int×Int×Int×List Int
def allIn (lim:Int) (l:List Int):Bool:=l.all fun n=>decide (0<=n/\n<=lim)
def w2 (n:Int):List Int:=[n/256%256,n%256]
def w4 (n:Int):List Int:=[n/16777216%256,n/65536%256,n/256%256,n%256]
def csum (b:List Int):Int:=65535-oc (sumF true b)
def setW (b:List Int) (at':Nat) (n:Int):List Int:=(b.set at' (n/256%256)).set (at'+1) (n%256)
def wordAt (b:List Int) (at':Nat):Int:=numB ((b.drop at').take 2)
def ct_transport_within_1:Ct:=⟨[.val cI,.box 3 cI],[.val .bool],fun _=>[],fun d=>((decide (d.1<0∨d.2.1<d.1),()),(d.2.1,()))⟩
def an_transport_within_1:PDs ct_transport_within_1.ps->Anns:=(fun _=>{})
theorem vc_transport_within_1 :
 ∀(a b:Int),R64 a/\R64 b/\True->True-> ∀(c:Bool),c=decide (a<0)->((! c)->((! c)->(! c))/\((! c)->(! c))/\True)/\(c=false->(! c))/\(bif c then true else decide (b<a))=decide (a<0∨b<a)/\b=b:=by
  rintro n lim - -
  rintro b rfl
  refine ⟨by simp,by simp,?_,rfl⟩
  rw [Bool.cond_eq_ite]
  by_cases h:n<0 <;> simp [h]
theorem ok_transport_within_1:SpecOK Tryz.prog GL 206 ct_transport_within_1.spec:=Ct.okH _ Tryz.func206 (by kernel_rfl) noSpecs_ok hmix an_transport_within_1 (hideMp (by kernel_rfl) vc_transport_within_1)
def ct_IndexWithin:Cn:=⟨[.val (.sl cI),.fn 206 1,.box 3 cI],[.val cI],fun _=>[],fun d y=>y.2.1=d.2.2.1 ∧ -1<=y.1.1/\(y.1.1 = -1↔allIn d.2.2.1 d.1=true),fun d h=>⟨((if allIn d.2.2.1 d.1=true then -1 else 0,()),(d.2.2.1,())),rfl,by by_cases h:allIn d.2.2.1 d.1=true <;> simp [h]⟩⟩
def an_IndexWithin:PDs ct_IndexWithin.ps->Anns:=(fun d=>{loops:=(fun n=>match n with|2=>some (fun S=>{ι:=Int,μ:=fun i=>(d.1.length-i).toNat,inv:=fun i=>0<=i/\i<=d.1.length/\allIn d.2.2.1 (d.1.take i.toNat)=true,keep:=[0,1,6,7],slots:=fun i=>[(8,.int .i64 i)],keepN:=[1048576],names:=fun i=>[]})|_=>none)})
def Qbg7 (a:List Int) :=
 (a.length:Int)
theorem vc_IndexWithin :
 ∀(a:List Int) (b:Int),(a.length<=maxLen/\ ∀(c:Int),c∈a->R64 c)/\True/\R64 b/\True->True->(∃(c:Int),(0<=c/\c<=(Qbg7 a)/\allIn b (List.take c.toNat a)=true)/\a=a/\a=a/\(Qbg7 a)=(Qbg7 a)/\(0:Int)=c/\b=b/\True)/\ ∀(c:Int),0<=c/\c<=(Qbg7 a)/\allIn b (List.take c.toNat a)=true->ifP (decide (c<(Qbg7 a))) (0<=c/\c<(Qbg7 a)/\ifP (decide (a.getD c.toNat default<0∨b<a.getD c.toNat default)) (b=b/\ -1<=c/\(c= -1↔allIn b a=true)) (∃(d:Int),(0<=d/\d<=(Qbg7 a)/\allIn b (List.take d.toNat a)=true)/\Int.toNat ((Qbg7 a) -d)<Int.toNat ((Qbg7 a) -c)/\a=a/\a=a/\(Qbg7 a)=(Qbg7 a)/\IntKind.wrap .i64 (c+(1:Int))=d/\b=b/\True)) (b=b/\(-1:Int)<= -1/\((-1:Int)= -1↔allIn b a=true)):=by
  delta Qbg7
  rintro l lim ⟨⟨hl,-⟩,-⟩ -
  simp only [maxLen] at hl
  refine ⟨⟨0,⟨by omega,by omega,by simp [allIn]⟩,(by repeat' first|exact trivial|refine ⟨trivial,?_⟩|refine ⟨(by with_reducible rfl),?_⟩|refine ⟨w64 (by omega) (by omega),?_⟩|refine ⟨rfl,?_⟩)⟩,?_⟩
  rintro j ⟨j0,j1,j2⟩
  refine ifP_split (fun hj => ?_) (fun hj => ?_)
  · have hj:=of_decide_eq_true hj
    have ht:=take_snoc j0 hj
    have hm:=getD_mem (xs:=l) j0 hj
    generalize l.getD j.toNat default=x at *
    refine ⟨j0,hj,ifP_split (fun hb => ?_) (fun hb => ?_)⟩
    · have hb:=of_decide_eq_true hb
      refine ⟨rfl,by omega,⟨fun h=>by omega,fun h => ?_⟩⟩
      unfold allIn at h
      have:=of_decide_eq_true (List.all_eq_true.1 h x hm)
      omega
    · have hb:=of_decide_eq_false hb
      refine ⟨j+1,⟨by omega,by omega,?_⟩,by omega,(by repeat' first|exact trivial|refine ⟨trivial,?_⟩|refine ⟨(by with_reducible rfl),?_⟩|refine ⟨w64 (by omega) (by omega),?_⟩|refine ⟨rfl,?_⟩)⟩
      rw [ht];unfold allIn at j2 ⊢
      rw [List.all_append,j2];simp;omega
  · have hj:=of_decide_eq_false hj
    rw [List.take_of_length_le (by omega)] at j2
    simp [j2]
theorem ok_IndexWithin:SpecOK Tryz.prog GL 216 ct_IndexWithin.spec:=Cn.okH _ Tryz.func216 (by kernel_rfl) (withSpec_ok noSpecs_ok ok_transport_within_1) hmix an_IndexWithin (hideMp (by kernel_rfl) vc_IndexWithin)
def ct_ContainsWithin:Ct:=⟨[.val (.sl cI),.fn 206 1,.box 3 cI],[.val .bool],fun _=>[],fun d=>((!allIn d.2.2.1 d.1,()),(d.2.2.1,()))⟩
def an_ContainsWithin:PDs ct_ContainsWithin.ps->Anns:=(fun _=>{})
theorem vc_ContainsWithin :
 ∀(a:List Int) (b:Int),(a.length<=maxLen/\ ∀(c:Int),c∈a->R64 c)/\True/\R64 b/\True->True-> ∀(c d:Int),d=b/\ -1<=c/\(c= -1↔allIn b a=true)->decide (0<=c)= ! allIn b a/\d=b:=by
  rintro l lim - - i b ⟨rfl,h1,h2⟩
  refine ⟨?_,rfl⟩
  cases h:allIn b l with
  | true=>rw [h2.2 h];rfl
  | false =>
    have:¬ i = -1:=fun e=>by rw [h2.1 e] at h;cases h
    simp;omega
theorem ok_ContainsWithin:SpecOK Tryz.prog GL 205 ct_ContainsWithin.spec:=Ct.okH _ Tryz.func205 (by kernel_rfl) (withSpec_ok noSpecs_ok ok_IndexWithin) hmix an_ContainsWithin (hideMp (by kernel_rfl) vc_ContainsWithin)
def ct_transport_within:Ct:=⟨[.val cI,.val (.sl cI)],[.val .bool],fun _=>[],fun d=>((allIn d.1 d.2.1,()),())⟩
def an_transport_within:PDs ct_transport_within.ps->Anns:=(fun _=>{})
theorem vc_transport_within :
 ∀(a:Int) (b:List Int),R64 a/\(b.length<=maxLen/\ ∀(c:Int),c∈b->R64 c)/\True->True->(!! allIn a b)=allIn a b:=by
  rintro lim l - -
  simp
theorem ok_transport_within:SpecOK Tryz.prog GL 174 ct_transport_within.spec:=Ct.okH _ Tryz.func174 (by kernel_rfl) (withSpec_ok noSpecs_ok ok_ContainsWithin) hmix an_transport_within (hideMp (by kernel_rfl) vc_transport_within)
theorem flat_w2 (l:List Int):(l.flatMap w2).length=2*l.length:=by
  induction l with
  | nil=>rfl
  | cons x l ih=>rw [List.flatMap_cons,List.length_append,ih,List.length_cons];simp [w2];omega
theorem beT2 (n:Int):beT n 2 2=w2 n:=by
  simp [beT,w2,List.range,List.range.loop]
theorem beT4 (n:Int):beT n 4 4=w4 n:=by
  simp [beT,w4,List.range,List.range.loop]
theorem beT1 (n:Int):beT n 1 1=[n%256]:=by
  simp [beT,List.range,List.range.loop]
theorem putB_2 {b:List Int} {n:Int} (h0:0<=n) (h1:n<=65535):putB b n 2=b++w2 n:=by
  rw [putB,if_neg,← beT2]
  · rfl
  · unfold putBad
    have:(256:Int)^(2:Int).toNat=65536:=rfl
    rw [this];omega
theorem putB_4 {b:List Int} {n:Int} (h0:0<=n) (h1:n<=4294967295):putB b n 4=b++w4 n:=by
  rw [putB,if_neg,← beT4]
  · rfl
  · unfold putBad
    have:(256:Int)^(4:Int).toNat=4294967296:=rfl
    rw [this];omega
theorem putB_1 {b:List Int} {n:Int} (h0:0<=n) (h1:n<=255):putB b n 1=b++[n]:=by
  rw [putB,if_neg,show beT n (1:Int).toNat (1:Int).toNat=[n] from by
    have:=beT1 n
    rw [Int.emod_eq_of_lt h0 (by omega)] at this
    exact this]
  unfold putBad
  have:(256:Int)^(1:Int).toNat=256:=rfl
  rw [this];omega
def ct_transport_put:Ct:=⟨[.nils,.val (.sl cI)],[.own 5 cU8],fun d=>[allIn 65535 d.2.1=true,(d.2.1.length:Int)<=1073741824],fun d=>((d.2.1.flatMap w2,()),())⟩
def an_transport_put:PDs ct_transport_put.ps->Anns:=(fun d=>{loops:=(fun n=>match n with|2=>some (fun S=>{ι:=Int×(List Int),qn:=⟨fun k_=>∀ (j:Int) (ys:(List Int)),k_ (j,ys),fun k_ h_ i=>h_ i.1 i.2,fun k_=>∃ (j:Int) (ys:(List Int)),k_ (j,ys),fun k_ ⟨j,ys,h_⟩=>⟨_,h_⟩⟩,μ:=fun i=>(d.2.1.length-i.1).toNat,inv:=fun i=>0<=i.1/\i.1<=d.2.1.length/\i.2=(d.2.1.take i.1.toNat).flatMap w2,keep:=[7,8],slots:=fun i=>[(0,.own 524288 1),(9,.int .i64 i.1)],names:=fun i=>[(524288,.live (.row 5 cU8 i.2))]})|_=>none)})
theorem vc_transport_put :
 ∀(a:List Int),True/\(a.length<=maxLen/\ ∀(b:Int),b∈a->R64 b)/\True->allIn (65535:Int) a=true/\(Qbg7 a)<=1073741824->(∃(b:Int) (c:List Int),(0<=b/\b<=(Qbg7 a)/\c=List.flatMap w2 (List.take b.toNat a))/\a=a/\(Qbg7 a)=(Qbg7 a)/\(0:Int)=b/\c=([]:List Int)/\True)/\ ∀(b:Int) (c:List Int),0<=b/\b<=(Qbg7 a)/\c=List.flatMap w2 (List.take b.toNat a)->ifP (decide (b<(Qbg7 a))) (0<=b/\b<(Qbg7 a)/\(c.length:Int)<=1099511627776/\ ∃(d:Int) (e:List Int),(0<=d/\d<=(Qbg7 a)/\e=List.flatMap w2 (List.take d.toNat a))/\Int.toNat ((Qbg7 a) -d)<Int.toNat ((Qbg7 a) -b)/\a=a/\(Qbg7 a)=(Qbg7 a)/\IntKind.wrap .i64 (b+(1:Int))=d/\putB c (a.getD b.toNat default) (2:Int)=e/\True) (c=List.flatMap w2 a):=by
  delta Qbg7
  rintro l ⟨-,⟨hl,-⟩,-⟩ ⟨ha,hk⟩
  refine ⟨⟨0,[],⟨by omega,by omega,by simp⟩,(by repeat' first|exact trivial|refine ⟨trivial,?_⟩|refine ⟨(by with_reducible rfl),?_⟩|refine ⟨w64 (by omega) (by omega),?_⟩|refine ⟨rfl,?_⟩)⟩,?_⟩
  rintro j ys ⟨j0,j1,rfl⟩
  refine ifP_split (fun hj => ?_) (fun hj => ?_)
  · have hj:=of_decide_eq_true hj
    have ht:=take_snoc j0 hj
    have hm:=getD_mem (xs:=l) j0 hj
    have hlen:((l.take j.toNat).flatMap w2).length=2*j.toNat:=by
      rw [flat_w2,List.length_take];omega
    generalize l.getD j.toNat default=x at *
    have hx:=of_decide_eq_true (List.all_eq_true.1 ha x hm)
    refine ⟨j0,hj,by omega,j+1,_,⟨by omega,by omega,rfl⟩,by omega,rfl,rfl,w64 (by omega) (by omega),?_,trivial⟩
    rw [ht,List.flatMap_append,putB_2 hx.1 hx.2];simp
  · have hj:=of_decide_eq_false hj
    rw [List.take_of_length_le (by omega)]
theorem ok_transport_put:SpecOK Tryz.prog GL 175 ct_transport_put.spec:=Ct.okH _ Tryz.func175 (by kernel_rfl) (withSpec_ok noSpecs_ok ok_wire_Put) hmix an_transport_put (hideMp (by kernel_rfl) vc_transport_put)
def ct_transport_word:Ct:=⟨[.val (.sl cU8),.val cI],[.val cI],fun d=>[0<=d.2.1,d.2.1+2<=d.1.length,(d.1.length:Int)<=1099511627776],fun d=>((wordAt d.1 d.2.1.toNat,()),())⟩
def an_transport_word:PDs ct_transport_word.ps->Anns:=(fun _=>{})
theorem vc_transport_word :
 ∀(a:List Int) (b:Int),(a.length<=maxLen/\ ∀(c:Int),c∈a->0<=c/\c<=255)/\R64 b/\True->0<=b/\b+2<=(Qbg7 a)/\(Qbg7 a)<=1099511627776->(Qbg7 a)<=1099511627776/\getV a b (2:Int)=wordAt a b.toNat:=by
  delta Qbg7
  rintro b a-⟨h0,h1,h2⟩
  refine ⟨h2,?_⟩
  rw [getV,if_neg (by omega)];rfl
theorem ok_transport_word:SpecOK Tryz.prog GL 181 ct_transport_word.spec:=Ct.okH _ Tryz.func181 (by kernel_rfl) (withSpec_ok noSpecs_ok ok_wire_Get) hmix an_transport_word (hideMp (by kernel_rfl) vc_transport_word)
theorem shr8 {n:Int} (h0:0<=n):shrI .i64 n 8=n/256:=by
  have e:=shr_pow (n:=n) (k:=1) h0 (by omega)
  exact e
def ct_transport_replaced:Ct:=⟨[.val (.sl cU8),.val cI,.val cI],[.own 5 cU8],fun d=>[0<=d.2.1,d.2.1+2<=d.1.length,(d.1.length:Int)<=1099511627776,0<=d.2.2.1,d.2.2.1<=65535],fun d=>((setW d.1 d.2.1.toNat d.2.2.1,()),())⟩
def an_transport_replaced:PDs ct_transport_replaced.ps->Anns:=(fun _=>{})
def Qbg4 (a:List Int) (b c:Int) :=
 (0:Int)<=8/\0<=b/\b<(Qbg7 a)/\0<=IntKind.wrap .i64 (b+(1:Int))/\IntKind.wrap .i64 (b+(1:Int))<((List.length (List.set a b.toNat (IntKind.wrap .u8 (shrI IntKind.i64 c (8:Int))))):Int)/\List.set (List.set a b.toNat (IntKind.wrap .u8 (shrI IntKind.i64 c (8:Int)))) (Int.toNat (IntKind.wrap .i64 (b+(1:Int)))) (IntKind.wrap .u8 c)=setW a b.toNat c
theorem vc_transport_replaced :
 ∀(a:List Int) (b c:Int),(a.length<=maxLen/\ ∀(d:Int),d∈a->0<=d/\d<=255)/\R64 b/\R64 c/\True->0<=b/\b+2<=(Qbg7 a)/\(Qbg7 a)<=1099511627776/\0<=c/\c<=65535->(Qbg7 a)<=1099511627776/\(Qbg4 a b c):=by
  delta Qbg4 Qbg7
  rintro b a n-⟨h0,h1,h2,n0,n1⟩
  rw [w64 (n:=a+1) (by omega) (by omega),shr8 n0,IntKind.wrap_u8',IntKind.wrap_u8',List.length_set]
  refine ⟨by omega,by omega,by omega,by omega,by omega,by omega,?_⟩
  rw [setW,show (a+1).toNat=a.toNat+1 from by omega]
theorem ok_transport_replaced:SpecOK Tryz.prog GL 207 ct_transport_replaced.spec:=Ct.okH _ Tryz.func207 (by kernel_rfl) (withSpec_ok noSpecs_ok ok_slices_Clone_b979) hmix an_transport_replaced (hideMp (by kernel_rfl) vc_transport_replaced)
def ct_transport_limited:Ct:=⟨[.val (.sl cU8),.val cI,.val cI],[.own 5 cU8,.val cI],fun d=>[0<=d.2.1,d.2.1+2<=d.1.length,(d.1.length:Int)<=1099511627776,0<=d.2.2.1,d.2.2.1<=65535],fun d=>((if (1480:Int)<d.1.length then [] else setW d.1 d.2.1.toNat d.2.2.1,if (1480:Int)<d.1.length then 5 else 0,()),())⟩
def an_transport_limited:PDs ct_transport_limited.ps->Anns:=(fun _=>{})
theorem vc_transport_limited :
 ∀(a:List Int) (b c:Int),(a.length<=maxLen/\ ∀(d:Int),d∈a->0<=d/\d<=255)/\R64 b/\R64 c/\True->0<=b/\b+2<=(Qbg7 a)/\(Qbg7 a)<=1099511627776/\0<=c/\c<=65535->ifP (decide (1480<(Qbg7 a))) ((([]:List Int)=if 1480<(Qbg7 a) then ([]:List Int) else setW a b.toNat c)/\(5:Int)=if 1480<(Qbg7 a) then (5:Int) else (0:Int)) (0<=b/\b+2<=(Qbg7 a)/\(Qbg7 a)<=1099511627776/\0<=c/\c<=65535/\(setW a b.toNat c=if 1480<(Qbg7 a) then ([]:List Int) else setW a b.toNat c)/\(0:Int)=if 1480<(Qbg7 a) then (5:Int) else (0:Int)):=by
  delta Qbg7
  rintro b a n-⟨h0,h1,h2,n0,n1⟩
  refine ifP_split (fun hb => ?_) (fun hb => ?_)
  · have hb:=of_decide_eq_true hb
    rw [if_pos hb,if_pos hb];exact ⟨rfl,rfl⟩
  · have hb:=of_decide_eq_false hb
    rw [if_neg hb,if_neg hb];exact ⟨h0,h1,h2,n0,n1,rfl,rfl⟩
theorem ok_transport_limited:SpecOK Tryz.prog GL 176 ct_transport_limited.spec:=Ct.okH _ Tryz.func176 (by kernel_rfl) (withSpec_ok noSpecs_ok ok_transport_replaced) hmix an_transport_limited (hideMp (by kernel_rfl) vc_transport_limited)
def ct_transport_bare:Ct:=⟨[.val (.sl cU8),.val cI],[.own 5 cU8,.val cI],fun d=>[0<=d.2.1,d.2.1+2<=d.1.length,(d.1.length:Int)<=1099511627776],fun d=>((setW d.1 d.2.1.toNat 0,wordAt d.1 d.2.1.toNat,()),())⟩
def an_transport_bare:PDs ct_transport_bare.ps->Anns:=(fun _=>{})
theorem vc_transport_bare :
 ∀(a:List Int) (b:Int),(a.length<=maxLen/\ ∀(c:Int),c∈a->0<=c/\c<=255)/\R64 b/\True->0<=b/\b+2<=(Qbg7 a)/\(Qbg7 a)<=1099511627776->0<=b/\b+2<=(Qbg7 a)/\(Qbg7 a)<=1099511627776/\(0:Int)<=0/\(0:Int)<=65535/\0<=b/\b+2<=(Qbg7 a)/\(Qbg7 a)<=1099511627776/\setW a b.toNat (0:Int)=setW a b.toNat (0:Int)/\wordAt a b.toNat=wordAt a b.toNat:=by
  delta Qbg7
  rintro b a-⟨h0,h1,h2⟩
  exact ⟨h0,h1,h2,by omega,by omega,h0,h1,h2,rfl,rfl⟩
theorem ok_transport_bare:SpecOK Tryz.prog GL 180 ct_transport_bare.spec:=Ct.okH _ Tryz.func180 (by kernel_rfl) (withSpec_ok (withSpec_ok noSpecs_ok ok_transport_replaced) ok_transport_word) hmix an_transport_bare (hideMp (by kernel_rfl) vc_transport_bare)
def ct_ref06_put:Ct:=⟨[.val (.sl cU8),.val cI,.val cI],[.own 5 cU8],fun d=>[0<=d.2.1,d.2.1+2<=d.1.length,(d.1.length:Int)<=1099511627776,0<=d.2.2.1,d.2.2.1<=65535],fun d=>((setW d.1 d.2.1.toNat d.2.2.1,()),())⟩
def an_ref06_put:PDs ct_ref06_put.ps->Anns:=(fun _=>{})
def Qbg12 :=
 (140737488355328:Nat)
theorem vc_ref06_put :
 ∀(a:List Int) (b c:Int),(a.length<=maxLen/\ ∀(d:Int),d∈a->0<=d/\d<=255)/\R64 b/\R64 c/\True->0<=b/\b+2<=(Qbg7 a)/\(Qbg7 a)<=1099511627776/\0<=c/\c<=65535->a.length*(1:Nat)<=(Qbg12)/\(Qbg4 a b c):=by
  delta Qbg4 Qbg7 Qbg12
  rintro b a n-⟨h0,h1,h2,n0,n1⟩
  rw [w64 (n:=a+1) (by omega) (by omega),shr8 n0,IntKind.wrap_u8',IntKind.wrap_u8',List.length_set]
  refine ⟨by omega,by omega,by omega,by omega,by omega,by omega,?_⟩
  rw [setW,show (a+1).toNat=a.toNat+1 from by omega]
theorem ok_ref06_put:SpecOK Tryz.prog GL 161 ct_ref06_put.spec:=Ct.okH _ Tryz.func161 (by kernel_rfl) noSpecs_ok hmix an_ref06_put (hideMp (by kernel_rfl) vc_ref06_put)
def ct_ref06_word:Ct:=⟨[.val cI],[.val .bool],fun d=>[],fun d=>((word16 d.1,()),())⟩
def an_ref06_word:PDs ct_ref06_word.ps->Anns:=(fun _=>{})
theorem vc_ref06_word :
 ∀(a:Int),R64 a/\True->True-> ∀(b:Bool),b=decide (0<=a)->(b->(b->b)/\True)/\(b->b)/\(bif b then decide (a<=65535) else false)=word16 a:=by
  rintro n - -
  (repeat (intro (b_:Bool) (hb_:b_=_);(repeat refine ⟨(by first|(simp;done)|(rw [hb_];simp;done)|(rw [hb_];simp;omega)|(rw [hb_];simp;intros;omega)|(rw [hb_];simp +contextual;done)),?_⟩);subst hb_))
  unfold word16
  by_cases h:0<=n <;> simp [h] <;> omega
theorem ok_ref06_word:SpecOK Tryz.prog GL 160 ct_ref06_word.spec:=Ct.okH _ Tryz.func160 (by kernel_rfl) noSpecs_ok hmix an_ref06_word (hideMp (by kernel_rfl) vc_ref06_word)
def ct_ref06_octet:Ct:=⟨[.val cI],[.val .bool],fun d=>[],fun d=>((decide (0<=d.1/\d.1<=255),()),())⟩
def an_ref06_octet:PDs ct_ref06_octet.ps->Anns:=(fun _=>{})
theorem vc_ref06_octet :
 ∀(a:Int),R64 a/\True->True-> ∀(b:Bool),b=decide (0<=a)->(b->(b->b)/\True)/\(b->b)/\(bif b then decide (a<=255) else false)=decide (0<=a/\a<=255):=by
  rintro n - -
  (repeat (intro (b_:Bool) (hb_:b_=_);(repeat refine ⟨(by first|(simp;done)|(rw [hb_];simp;done)|(rw [hb_];simp;omega)|(rw [hb_];simp;intros;omega)|(rw [hb_];simp +contextual;done)),?_⟩);subst hb_))
  by_cases h:0<=n <;> simp [h] <;> omega
theorem ok_ref06_octet:SpecOK Tryz.prog GL 164 ct_ref06_octet.spec:=Ct.okH _ Tryz.func164 (by kernel_rfl) noSpecs_ok hmix an_ref06_octet (hideMp (by kernel_rfl) vc_ref06_octet)
def ct_ref06_long:Ct:=⟨[.val cI],[.val .bool],fun d=>[],fun d=>((decide (0<=d.1/\d.1<=4294967295),()),())⟩
def an_ref06_long:PDs ct_ref06_long.ps->Anns:=(fun _=>{})
theorem vc_ref06_long :
 ∀(a:Int),R64 a/\True->True-> ∀(b:Bool),b=decide (0<=a)->(b->(b->b)/\True)/\(b->b)/\(bif b then decide (a<4294967296) else false)=decide (0<=a/\a<=4294967295):=by
  rintro n - -
  (repeat (intro (b_:Bool) (hb_:b_=_);(repeat refine ⟨(by first|(simp;done)|(rw [hb_];simp;done)|(rw [hb_];simp;omega)|(rw [hb_];simp;intros;omega)|(rw [hb_];simp +contextual;done)),?_⟩);subst hb_))
  by_cases h:0<=n <;> simp [h] <;> omega
theorem ok_ref06_long:SpecOK Tryz.prog GL 163 ct_ref06_long.spec:=Ct.okH _ Tryz.func163 (by kernel_rfl) noSpecs_ok hmix an_ref06_long (hideMp (by kernel_rfl) vc_ref06_long)
def echoErr (e:Echo):Int:=if ¬ (word16 e.2.1=true/\word16 e.2.2.1=true) then 1 else if (1472:Int)<e.2.2.2.length then 5 else 0
def echoBody (e:Echo):List Int:=[if e.1 then 0 else 8,0,0,0]++(w2 e.2.1++(w2 e.2.2.1++e.2.2.2))
def echoEnc (e:Echo):List Int:=if echoErr e=0 then setW (echoBody e) 2 (csum (echoBody e)) else []
def noticeErr (n:Notice):Int:=if ¬ ((n.1=3∨n.1=11)/\0<=n.2.1/\n.2.1<=255) then 1 else if (n.2.2.length:Int)<28 then 3 else if (1472:Int)<n.2.2.length then 5 else 0
def noticeBody (n:Notice):List Int:=[n.1,n.2.1,0,0,0,0,0,0]++n.2.2
def noticeEnc (n:Notice):List Int:=if noticeErr n=0 then setW (noticeBody n) 2 (csum (noticeBody n)) else []
def pseudoB (src dst proto:Int) (b:List Int):List Int:=w4 src++(w4 dst++(w2 proto++(w2 b.length++b)))
def pseudo (src dst proto:Int) (b:List Int):Int:=if ¬ (0<=proto/\proto<=255)∨(65535:Int)<b.length then 0 else csum (pseudoB src dst proto b)
def sumU (src dst:Int) (b:List Int):Int:=if pseudo src dst 17 b=0 then 65535 else pseudo src dst 17 b
def udpErr (u:Dgram):Int:=if ¬ (word16 u.1=true/\word16 u.2.1=true) then 1 else if (1472:Int)<u.2.2.length then 5 else 0
def udpBody (u:Dgram):List Int:=w2 u.1++(w2 u.2.1++(w2 (8+u.2.2.length)++([0,0]++u.2.2)))
def udpEnc (src dst:Int) (u:Dgram):List Int:=if udpErr u=0 then setW (udpBody u) 6 (sumU src dst (udpBody u)) else []
def tcpOK (s:Seg):Prop:=word16 s.1=true/\word16 s.2.1=true/\(0<=s.2.2.1/\s.2.2.1<=4294967295)/\(0<=s.2.2.2.1/\s.2.2.2.1<=4294967295)/\(0<=s.2.2.2.2.1/\s.2.2.2.2.1<=255)/\word16 s.2.2.2.2.2.1=true
instance (s:Seg):Decidable (tcpOK s):=by unfold tcpOK;infer_instance
def tcpErr (s:Seg):Int:=if ¬ tcpOK s then 1 else if (1460:Int)<s.2.2.2.2.2.2.length then 5 else 0
def tcpBody (s:Seg):List Int:=w2 s.1++(w2 s.2.1++(w4 s.2.2.1++(w4 s.2.2.2.1++([80,s.2.2.2.2.1]++(w2 s.2.2.2.2.2.1++([0,0,0,0]++s.2.2.2.2.2.2))))))
def tcpEnc (src dst:Int) (s:Seg):List Int:=if tcpErr s=0 then setW (tcpBody s) 16 (pseudo src dst 6 (tcpBody s)) else []
def bytes (l:List Int):Prop:=∀ x∈l,0<=x/\x<=255
theorem bytes_app {a b:List Int} (ha:bytes a) (hb:bytes b):bytes (a++b):=fun x h=>(List.mem_append.1 h).elim (ha x) (hb x)
theorem bytes_w2 (n:Int):bytes (w2 n):=by intro x h;simp [w2] at h;omega
theorem bytes_w4 (n:Int):bytes (w4 n):=by intro x h;simp [w4] at h;omega
theorem bytes_cons {a:Int} {l:List Int} (h0:0<=a) (h1:a<=255) (h:bytes l):bytes (a::l):=by
  intro x hx
  rcases List.mem_cons.1 hx with rfl|hx
  · exact ⟨h0,h1⟩
  · exact h x hx
theorem bytes_nil:bytes []:=by intro x h;cases h
theorem csum_range {b:List Int} (h:bytes b):0<=csum b/\csum b<=65535:=by
  have:=oc_range (sumF_range true b h).1
  unfold csum;omega
theorem lim_fin {p data B enc:List Int} {a c err:Int} (hp:p++data=B) (ha:0<=a) (h8:a+2<=p.length) (hp1:p.length<=100) (hd:(data.length:Int)<=1073741824) (c0:0<=c) (c1:c<=65535)
    (he:enc=if (1480:Int)<B.length then [] else setW B a.toNat c) (hr:err=if (1480:Int)<B.length then 5 else 0) :
    0<=a/\a+2<=((p++data).length:Int)/\((p++data).length:Int)<=1099511627776/\0<=c/\c<=65535/\(if (1480:Int)<((p++data).length:Int) then [] else setW (p++data) a.toNat c)=enc/\(if (1480:Int)<((p++data).length:Int) then (5:Int) else 0)=err:=by
  have hl:(p++data).length=p.length+data.length:=List.length_append
  rw [hp] at hl ⊢
  exact ⟨ha,by omega,by omega,c0,c1,he.symm,hr.symm⟩
theorem app_lim {p data:List Int} (hp1:p.length<=100) (hd:(data.length:Int)<=1073741824):(p.length+data.length)*1<=140737488355328/\((p++data).length:Int)<=1099511627776:=by
  rw [List.length_append];omega
theorem allIn2 (lim a b:Int):allIn lim [a,b]=true↔(0<=a/\a<=lim)/\0<=b/\b<=lim:=by simp [allIn]
theorem allIn1 (lim a:Int):allIn lim [a]=true↔0<=a/\a<=lim:=by simp [allIn]
theorem word16_iff (n:Int):word16 n=true↔0<=n/\n<=65535:=by simp [word16]
theorem echo_len (e:Echo):(echoBody e).length=8+e.2.2.2.length:=by simp [echoBody,w2];omega
theorem echo_bad {e:Echo} (h:¬ (word16 e.2.1=true/\word16 e.2.2.1=true)):[]=echoEnc e/\1=echoErr e:=by
  have:echoErr e=1:=by rw [echoErr,if_pos h]
  rw [echoEnc,this];simp
theorem echo_ok {e:Echo} (h:word16 e.2.1=true/\word16 e.2.2.1=true):(echoEnc e=if (1480:Int)<(echoBody e).length then [] else setW (echoBody e) 2 (csum (echoBody e)))/\echoErr e=if (1480:Int)<(echoBody e).length then 5 else 0:=by
  have hl:=echo_len e
  have he:echoErr e=if (1480:Int)<(echoBody e).length then 5 else 0:=by
    rw [echoErr,if_neg (fun k=>k h)]
    by_cases hd:(1472:Int)<e.2.2.2.length
    · rw [if_pos hd,if_pos (by omega)]
    · rw [if_neg hd,if_neg (by omega)]
  refine ⟨?_,he⟩
  rw [echoEnc,he]
  by_cases hd:(1480:Int)<(echoBody e).length
  · rw [if_pos hd,if_pos hd];rfl
  · rw [if_neg hd,if_neg hd];rfl
theorem echo_bytes {e:Echo} (h:bytes e.2.2.2):bytes (echoBody e):=by
  refine bytes_app (bytes_cons ?_ ?_ (bytes_cons (by omega) (by omega) (bytes_cons (by omega) (by omega) (bytes_cons (by omega) (by omega) bytes_nil)))) (bytes_app (bytes_w2 _) (bytes_app (bytes_w2 _) h))
  · split <;> omega
  · split <;> omega
theorem w2_split (n:Int) (r:List Int):w2 (n/65536)++(w2 (n%65536)++r)=w4 n++r:=by
  unfold w2 w4
  simp only [List.cons_append,List.nil_append]
  have e1:n/65536/256%256=n/16777216%256:=by omega
  have e2:n%65536/256%256=n/256%256:=by omega
  have e3:n%65536%256=n%256:=by omega
  rw [e1,e2,e3]
theorem w2_pair {t k:Int} (t0:0<=t) (t1:t<=255) (k0:0<=k) (k1:k<=255):w2 (t*256+k)=[t,k]:=by
  unfold w2
  have e1:(t*256+k)/256%256=t:=by omega
  have e2:(t*256+k)%256=k:=by omega
  rw [e1,e2]
theorem or8' {n x:Int} (h0:0<=n) (h1:n<=65535) (h2:0<=x) (h3:x<=255):bits .or .i64 (shlI .i64 n 8) x=n*256+x:=by
  have:=or8 h0 (by omega) h2 h3
  rwa [w64 (n:=x) (by omega) (by omega)] at this
theorem shr16 {n:Int} (h0:0<=n):shrI .i64 n 16=n/65536:=by
  have e:=shr_pow (n:=n) (k:=2) h0 (by omega)
  exact e
theorem shr16u {n:Int} (h0:0<=n) (h1:n<=4294967295):IntKind.wrap .i64 (shrI .u32 n 16)=n/65536:=by
  have:shrI .u32 n 16=n/65536:=by
    unfold shrI
    rw [Int.fdiv_eq_ediv_of_nonneg _ (by decide)]
    rfl
  rw [this,w64 (by omega) (by omega)]
theorem and16u {n:Int} (h0:0<=n) (h1:n<=4294967295):IntKind.wrap .i64 (bits .and .u32 n 65535)=n%65536:=by
  rw [u32_and n 65535 h0 (by omega) (by decide) (by decide)]
  have:(n.toNat &&& Int.toNat 65535)=n.toNat%65536:=Nat.and_two_pow_sub_one_eq_mod n.toNat 16
  rw [this,w64 (by omega) (by omega)];omega
theorem notice_len (e:Notice):(noticeBody e).length=8+e.2.2.length:=by simp [noticeBody];omega
theorem notice_bad {e:Notice} (h:¬ ((e.1=3∨e.1=11)/\0<=e.2.1/\e.2.1<=255)):[]=noticeEnc e/\1=noticeErr e:=by
  have:noticeErr e=1:=by rw [noticeErr,if_pos h]
  rw [noticeEnc,this];simp
theorem notice_short {e:Notice} (h:(e.1=3∨e.1=11)/\0<=e.2.1/\e.2.1<=255) (h2:(e.2.2.length:Int)<28):[]=noticeEnc e/\3=noticeErr e:=by
  have:noticeErr e=3:=by rw [noticeErr,if_neg (fun k=>k h),if_pos h2]
  rw [noticeEnc,this];simp
theorem notice_ok {e:Notice} (h:(e.1=3∨e.1=11)/\0<=e.2.1/\e.2.1<=255) (h2:¬ (e.2.2.length:Int)<28):(noticeEnc e=if (1480:Int)<(noticeBody e).length then [] else setW (noticeBody e) 2 (csum (noticeBody e)))/\noticeErr e=if (1480:Int)<(noticeBody e).length then 5 else 0:=by
  have hl:=notice_len e
  have he:noticeErr e=if (1480:Int)<(noticeBody e).length then 5 else 0:=by
    rw [noticeErr,if_neg (fun k=>k h),if_neg h2]
    by_cases hd:(1472:Int)<e.2.2.length
    · rw [if_pos hd,if_pos (by omega)]
    · rw [if_neg hd,if_neg (by omega)]
  refine ⟨?_,he⟩
  rw [noticeEnc,he]
  by_cases hd:(1480:Int)<(noticeBody e).length
  · rw [if_pos hd,if_pos hd];rfl
  · rw [if_neg hd,if_neg hd];rfl
theorem notice_bytes {e:Notice} (h:(e.1=3∨e.1=11)/\0<=e.2.1/\e.2.1<=255) (hd:bytes e.2.2):bytes (noticeBody e):=by
  refine bytes_app (bytes_cons (by omega) (by omega) (bytes_cons h.2.1 h.2.2 ?_)) hd
  intro x hx;simp at hx;omega
theorem udp_len (e:Dgram):(udpBody e).length=8+e.2.2.length:=by simp [udpBody,w2];omega
theorem udp_bad {a b:Int} {e:Dgram} (h:¬ (word16 e.1=true/\word16 e.2.1=true)):[]=udpEnc a b e/\1=udpErr e:=by
  have:udpErr e=1:=by rw [udpErr,if_pos h]
  rw [udpEnc,this];simp
theorem udp_ok {a b:Int} {e:Dgram} (h:word16 e.1=true/\word16 e.2.1=true):(udpEnc a b e=if (1480:Int)<(udpBody e).length then [] else setW (udpBody e) 6 (sumU a b (udpBody e)))/\udpErr e=if (1480:Int)<(udpBody e).length then 5 else 0:=by
  have hl:=udp_len e
  have he:udpErr e=if (1480:Int)<(udpBody e).length then 5 else 0:=by
    rw [udpErr,if_neg (fun k=>k h)]
    by_cases hd:(1472:Int)<e.2.2.length
    · rw [if_pos hd,if_pos (by omega)]
    · rw [if_neg hd,if_neg (by omega)]
  refine ⟨?_,he⟩
  rw [udpEnc,he]
  by_cases hd:(1480:Int)<(udpBody e).length
  · rw [if_pos hd,if_pos hd];rfl
  · rw [if_neg hd,if_neg hd];rfl
theorem udp_bytes {e:Dgram} (h:bytes e.2.2):bytes (udpBody e) :=
  bytes_app (bytes_w2 _) (bytes_app (bytes_w2 _) (bytes_app (bytes_w2 _) (bytes_app (bytes_cons (by omega) (by omega) (bytes_cons (by omega) (by omega) bytes_nil)) h)))
theorem tcp_len (e:Seg):(tcpBody e).length=20+e.2.2.2.2.2.2.length:=by simp [tcpBody,w2,w4];omega
theorem tcp_bad {a b:Int} {e:Seg} (h:¬ tcpOK e):[]=tcpEnc a b e/\1=tcpErr e:=by
  have:tcpErr e=1:=by rw [tcpErr,if_pos h]
  rw [tcpEnc,this];simp
theorem tcp_ok {a b:Int} {e:Seg} (h:tcpOK e):(tcpEnc a b e=if (1480:Int)<(tcpBody e).length then [] else setW (tcpBody e) 16 (pseudo a b 6 (tcpBody e)))/\tcpErr e=if (1480:Int)<(tcpBody e).length then 5 else 0:=by
  have hl:=tcp_len e
  have he:tcpErr e=if (1480:Int)<(tcpBody e).length then 5 else 0:=by
    rw [tcpErr,if_neg (fun k=>k h)]
    by_cases hd:(1460:Int)<e.2.2.2.2.2.2.length
    · rw [if_pos hd,if_pos (by omega)]
    · rw [if_neg hd,if_neg (by omega)]
  refine ⟨?_,he⟩
  rw [tcpEnc,he]
  by_cases hd:(1480:Int)<(tcpBody e).length
  · rw [if_pos hd,if_pos hd];rfl
  · rw [if_neg hd,if_neg hd];rfl
theorem tcp_bytes {e:Seg} (h:tcpOK e) (hd:bytes e.2.2.2.2.2.2):bytes (tcpBody e):=by
  obtain ⟨-,-,-,-,hf,-⟩:=h
  refine bytes_app (bytes_w2 _) (bytes_app (bytes_w2 _) (bytes_app (bytes_w4 _) (bytes_app (bytes_w4 _) (bytes_app (bytes_cons (by omega) (by omega) (bytes_cons hf.1 hf.2 bytes_nil)) (bytes_app (bytes_w2 _) (bytes_app ?_ hd))))))
  intro x hx;simp at hx;omega
theorem pseudo_bytes {a b p:Int} {l:List Int} (h:bytes l):bytes (pseudoB a b p l):=bytes_app (bytes_w4 _) (bytes_app (bytes_w4 _) (bytes_app (bytes_w2 _) (bytes_app (bytes_w2 _) h)))
theorem pseudo_range {a b p:Int} {l:List Int} (h:bytes l):0<=pseudo a b p l/\pseudo a b p l<=65535:=by
  unfold pseudo;split
  · omega
  · exact csum_range (pseudo_bytes h)
theorem sumU_range {a b:Int} {l:List Int} (h:bytes l):0<=sumU a b l/\sumU a b l<=65535:=by
  have:=pseudo_range (a:=a) (b:=b) (p:=17) h
  unfold sumU;split <;> omega
theorem low5 {err n:Int} (h:err=if (1480:Int)<n then 5 else 0) (hn:¬ (1480:Int)<n):0=err:=by rw [h,if_neg hn]
def ct_transport_EncodeEcho:Ct:=⟨[.agg cEcho],[.own 5 cU8,.val cI],fun d=>[(d.1.2.2.2.length:Int)<=1073741824],fun d=>((echoEnc d.1,echoErr d.1,()),())⟩
def an_transport_EncodeEcho:PDs ct_transport_EncodeEcho.ps->Anns:=(fun _=>{})
def Qbg2 (a:Bool) (b c:Int) (d e:List Int) :=
 (e.length+d.length)*(1:Nat)<=(Qbg12)/\((List.length (e++d)):Int)<=1099511627776/\ ∀(f:Int),f=65535 -oc (sumF true (e++d))->(0:Int)<=2/\(2:Int)+2<=((List.length (e++d)):Int)/\((List.length (e++d)):Int)<=1099511627776/\0<=f/\f<=65535/\(if 1480<((List.length (e++d)):Int) then ([]:List Int) else setW (e++d) (Int.toNat (2:Int)) f)=echoEnc (a,b,c,d)/\(if 1480<((List.length (e++d)):Int) then (5:Int) else (0:Int))=echoErr (a,b,c,d)
def Qbg13 (d:List Int) :=
 d.length<=maxLen/\ ∀(e:Int),e∈d->0<=e/\e<=255
theorem vc_transport_EncodeEcho :
 ∀(a:Bool) (b c:Int) (d:List Int),(True/\R64 b/\R64 c/\(Qbg13 d))/\True->(d.length:Int)<=1073741824->ifP (! allIn (65535:Int) [b,c]) (([]:List Int)=echoEnc (a,b,c,d)/\(1:Int)=echoErr (a,b,c,d)) (ifP a ((0:Int)<=8/\allIn (65535:Int) [shlI IntKind.i64 (0:Int) (8:Int),(0:Int),b,c]=true/\((List.length [shlI IntKind.i64 (0:Int) (8:Int),(0:Int),b,c]):Int)<=1073741824/\ ∀(e:List Int),e=List.flatMap w2 [shlI IntKind.i64 (0:Int) (8:Int),(0:Int),b,c]->(Qbg2 a b c d e)) ((0:Int)<=8/\allIn (65535:Int) [shlI IntKind.i64 (8:Int) (8:Int),(0:Int),b,c]=true/\((List.length [shlI IntKind.i64 (8:Int) (8:Int),(0:Int),b,c]):Int)<=1073741824/\ ∀(e:List Int),e=List.flatMap w2 [shlI IntKind.i64 (8:Int) (8:Int),(0:Int),b,c]->(Qbg2 a b c d e))):=by
  delta Qbg2 Qbg12 Qbg13
  rintro r i q data ⟨⟨-,-,-,-,hd⟩,-⟩ hl
  refine ifP_split (fun h => ?_) (fun h => ?_)
  · apply echo_bad
    simp only [Bool.not_eq_true',← Bool.not_eq_true,allIn2] at h
    simp only [word16_iff];exact h
  have hw:word16 i=true/\word16 q=true:=by
    simp only [Bool.not_eq_false',allIn2] at h
    simp only [word16_iff];exact h
  have hw':=hw
  simp only [word16_iff] at hw'
  obtain ⟨e1,e2⟩:=echo_ok (e:=(r,i,q,data)) hw
  have hB:=csum_range (echo_bytes (e:=(r,i,q,data)) hd)
  cases r with
  | true =>
    refine ifP_split (fun _ => ?_) (fun hr=>by cases hr)
    refine ⟨by omega,by rw [show shlI .i64 0 8=0 from by decide];simp [allIn];omega,by simp,?_⟩
    intro p hpe
    have hp8:p.length=8:=by rw [hpe];simp [w2]
    have hp:p++data=echoBody (true,i,q,data):=by
      rw [hpe,show shlI .i64 0 8=0 from by decide];simp [w2,echoBody]
    refine ⟨(app_lim (by omega) hl).1,(app_lim (by omega) hl).2,?_⟩
    intro c hc
    have hc:c=csum (echoBody (true,i,q,data)):=by rw [hc,hp];rfl
    exact lim_fin (a:=2) hp (by omega) (by omega) (by omega) hl (by rw [hc];exact hB.1) (by rw [hc];exact hB.2) (by rw [hc];exact e1) e2
  | false =>
    refine ifP_split (fun hr=>by cases hr) (fun _ => ?_)
    refine ⟨by omega,by rw [show shlI .i64 8 8=2048 from by decide];simp [allIn];omega,by simp,?_⟩
    intro p hpe
    have hp8:p.length=8:=by rw [hpe];simp [w2]
    have hp:p++data=echoBody (false,i,q,data):=by
      rw [hpe,show shlI .i64 8 8=2048 from by decide];simp [w2,echoBody]
    refine ⟨(app_lim (by omega) hl).1,(app_lim (by omega) hl).2,?_⟩
    intro c hc
    have hc:c=csum (echoBody (false,i,q,data)):=by rw [hc,hp];rfl
    exact lim_fin (a:=2) hp (by omega) (by omega) (by omega) hl (by rw [hc];exact hB.1) (by rw [hc];exact hB.2) (by rw [hc];exact e1) e2
theorem ok_transport_EncodeEcho:SpecOK Tryz.prog GL 134 ct_transport_EncodeEcho.spec:=Ct.okH _ Tryz.func134 (by kernel_rfl) (withSpec_ok (withSpec_ok (withSpec_ok (withSpec_ok noSpecs_ok ok_transport_within) (Ct.named ok_transport_put)) (Ct.named ok_wire_Checksum)) ok_transport_limited) hmix an_transport_EncodeEcho (hideMp (by kernel_rfl) vc_transport_EncodeEcho)
def ct_ref06_EncodeEcho:Ct:=⟨[.agg cEcho],[.own 5 cU8,.val cI],fun d=>[(d.1.2.2.2.length:Int)<=1073741824],fun d=>((echoEnc d.1,echoErr d.1,()),())⟩
def an_ref06_EncodeEcho:PDs ct_ref06_EncodeEcho.ps->Anns:=(fun _=>{})
def Qbg3 (a:Bool) (b c:Int) (d f:List Int) :=
 (f.length:Int)<=1099511627776/\ ∀(g:List Int),g=putB f c (2:Int)->(g.length+d.length)*(1:Nat)<=(Qbg12)/\((List.length (g++d)):Int)<=1099511627776/\ ∀(h:Int),h=65535 -oc (sumF true (g++d))->(0:Int)<=2/\(2:Int)+2<=((List.length (g++d)):Int)/\((List.length (g++d)):Int)<=1099511627776/\0<=h/\h<=65535/\setW (g++d) (Int.toNat (2:Int)) h=echoEnc (a,b,c,d)/\(0:Int)=echoErr (a,b,c,d)
def Qbg6 (e:Bool) :=
 (! e)->((! e)->(! e))/\True
theorem vc_ref06_EncodeEcho :
 ∀(a:Bool) (b c:Int) (d:List Int),(True/\R64 b/\R64 c/\(Qbg13 d))/\True->(d.length:Int)<=1073741824-> ∀(e:Bool),e= ! word16 b->(Qbg6 e)/\(Qbg6 e)/\(Qbg6 e)/\(e=false->(! e))/\ifP (bif e then true else ! word16 c) (([]:List Int)=echoEnc (a,b,c,d)/\(1:Int)=echoErr (a,b,c,d)) (ifP (decide (1480<IntKind.wrap .i64 ((d.length:Int)+(8:Int)))) (([]:List Int)=echoEnc (a,b,c,d)/\(5:Int)=echoErr (a,b,c,d)) (ifP a (((List.length [IntKind.wrap .u8 (0:Int),(0:Int),(0:Int),(0:Int)]):Int)<=1099511627776/\ ∀(f:List Int),f=putB [IntKind.wrap .u8 (0:Int),(0:Int),(0:Int),(0:Int)] b (2:Int)->(Qbg3 a b c d f)) (((List.length [IntKind.wrap .u8 (8:Int),(0:Int),(0:Int),(0:Int)]):Int)<=1099511627776/\ ∀(f:List Int),f=putB [IntKind.wrap .u8 (8:Int),(0:Int),(0:Int),(0:Int)] b (2:Int)->(Qbg3 a b c d f)))):=by
  delta Qbg3 Qbg6 Qbg12 Qbg13
  rintro r i q data ⟨⟨-,-,-,-,hd⟩,-⟩ hl
  rintro b rfl
  refine ⟨by simp,by simp,by simp,by simp,?_⟩
  rw [w64 (n:=(data.length:Int)+8) (by omega) (by omega)]
  refine ifP_split (fun h => ?_) (fun h => ?_)
  · apply echo_bad
    rintro ⟨h1,h2⟩
    simp at h1 h2
    simp [h1,h2] at h
  have hw:word16 i=true/\word16 q=true:=by
    simp [Bool.cond_eq_ite] at h;exact h
  have hw':=hw
  simp only [word16_iff] at hw'
  obtain ⟨e1,e2⟩:=echo_ok (e:=(r,i,q,data)) hw
  have hB:=csum_range (echo_bytes (e:=(r,i,q,data)) hd)
  have hbl:=echo_len (r,i,q,data)
  refine ifP_split (fun h5 => ?_) (fun h5 => ?_)
  · have h5:=of_decide_eq_true h5
    rw [e1,e2,if_pos (by simp only at hbl;omega),if_pos (by simp only at hbl;omega)];exact ⟨rfl,rfl⟩
  have h5:=of_decide_eq_false h5
  have h5:¬ (1480:Int)<(echoBody (r,i,q,data)).length:=by simp only at hbl;omega
  rw [if_neg h5] at e1
  cases r with
  | true =>
    refine ifP_split (fun _ => ?_) (fun hr=>by cases hr)
    refine ⟨by simp,?_⟩
    rintro p rfl
    rw [putB_2 hw'.1.1 hw'.1.2]
    refine ⟨by simp [w2],?_⟩
    intro p hpe
    rw [putB_2 hw'.2.1 hw'.2.2] at hpe
    have hp8:p.length=8:=by rw [hpe];simp [w2]
    have hp:p++data=echoBody (true,i,q,data):=by
      rw [hpe,show IntKind.wrap .u8 0=0 from by decide];simp [w2,echoBody]
    refine ⟨(app_lim (by omega) hl).1,(app_lim (by omega) hl).2,?_⟩
    intro c hc
    have hc:c=csum (echoBody (true,i,q,data)):=by rw [hc,hp];rfl
    rw [hp,hc]
    exact ⟨by omega,by omega,by omega,hB.1,hB.2,e1.symm,low5 e2 h5⟩
  | false =>
    refine ifP_split (fun hr=>by cases hr) (fun _ => ?_)
    refine ⟨by simp,?_⟩
    rintro p rfl
    rw [putB_2 hw'.1.1 hw'.1.2]
    refine ⟨by simp [w2],?_⟩
    intro p hpe
    rw [putB_2 hw'.2.1 hw'.2.2] at hpe
    have hp8:p.length=8:=by rw [hpe];simp [w2]
    have hp:p++data=echoBody (false,i,q,data):=by
      rw [hpe,show IntKind.wrap .u8 8=8 from by decide];simp [w2,echoBody]
    refine ⟨(app_lim (by omega) hl).1,(app_lim (by omega) hl).2,?_⟩
    intro c hc
    have hc:c=csum (echoBody (false,i,q,data)):=by rw [hc,hp];rfl
    rw [hp,hc]
    exact ⟨by omega,by omega,by omega,hB.1,hB.2,e1.symm,low5 e2 h5⟩
theorem ok_ref06_EncodeEcho:SpecOK Tryz.prog GL 110 ct_ref06_EncodeEcho.spec:=Ct.okH _ Tryz.func110 (by kernel_rfl) (withSpec_ok (withSpec_ok (withSpec_ok (withSpec_ok noSpecs_ok ok_ref06_word) (Ct.named ok_ref04_Push)) (Ct.named ok_ref04_Checksum)) ok_ref06_put) hmix an_ref06_EncodeEcho (hideMp (by kernel_rfl) vc_ref06_EncodeEcho)
def ct_transport_EncodeNotice:Ct:=⟨[.agg cNotice],[.own 5 cU8,.val cI],fun d=>[(d.1.2.2.length:Int)<=1073741824],fun d=>((noticeEnc d.1,noticeErr d.1,()),())⟩
def an_transport_EncodeNotice:PDs ct_transport_EncodeNotice.ps->Anns:=(fun _=>{})
def Qbg1 (a b:Int) (c:List Int) :=
 ifP (decide ((c.length:Int)<28)) (([]:List Int)=noticeEnc (a,b,c)/\(3:Int)=noticeErr (a,b,c)) ((0:Int)<=8/\allIn (65535:Int) [bits BinOp.or IntKind.i64 (shlI IntKind.i64 a (8:Int)) b,(0:Int),(0:Int),(0:Int)]=true/\((List.length [bits BinOp.or IntKind.i64 (shlI IntKind.i64 a (8:Int)) b,(0:Int),(0:Int),(0:Int)]):Int)<=1073741824/\ ∀(f:List Int),f=List.flatMap w2 [bits BinOp.or IntKind.i64 (shlI IntKind.i64 a (8:Int)) b,(0:Int),(0:Int),(0:Int)]->(f.length+c.length)*(1:Nat)<=(Qbg12)/\((List.length (f++c)):Int)<=1099511627776/\ ∀(g:Int),g=65535 -oc (sumF true (f++c))->(0:Int)<=2/\(2:Int)+2<=((List.length (f++c)):Int)/\((List.length (f++c)):Int)<=1099511627776/\0<=g/\g<=65535/\(if 1480<((List.length (f++c)):Int) then ([]:List Int) else setW (f++c) (Int.toNat (2:Int)) g)=noticeEnc (a,b,c)/\(if 1480<((List.length (f++c)):Int) then (5:Int) else (0:Int))=noticeErr (a,b,c))
theorem vc_transport_EncodeNotice :
 ∀(a b:Int) (c:List Int),(R64 a/\R64 b/\c.length<=maxLen/\ ∀(d:Int),d∈c->0<=d/\d<=255)/\True->(c.length:Int)<=1073741824-> ∀(d:Bool),d= ! decide (a=3)->(d->(d->d)/\True)/\(d->(d->d)/\True)/\(d->d)/\ ∀(e:Bool),(e=bif d then ! decide (a=11) else false)->(Qbg6 e)/\ifP (! e) (((! e)->(! e))/\(Qbg6 e)/\(e=false->(! e))/\ifP (bif e then true else ! allIn (255:Int) [b]) (([]:List Int)=noticeEnc (a,b,c)/\(1:Int)=noticeErr (a,b,c)) (Qbg1 a b c)) ((! e)=false/\(! e)=false/\(e=false->false=true)/\ifP (bif e then true else false) (([]:List Int)=noticeEnc (a,b,c)/\(1:Int)=noticeErr (a,b,c)) (Qbg1 a b c)):=by
  delta Qbg1 Qbg6 Qbg12
  rintro t k data ⟨⟨-,-,-,hd⟩,-⟩ hl
  rintro b rfl
  refine ⟨by simp,by simp,by simp,?_⟩
  intro b hb
  refine ⟨by simp,?_⟩
  cases b with
  | true =>
    have ht:¬ (t=3∨t=11):=by
      simp at hb;omega
    refine ifP_split (fun h=>by cases h) (fun _=>⟨rfl,rfl,by simp,ifP_split (fun _=>notice_bad (fun h=>ht h.1)) (fun h=>by cases h)⟩)
  | false =>
    have ht:t=3∨t=11:=by
      by_cases h3:t=3
      · exact .inl h3
      · simp [h3] at hb;exact .inr hb
    refine ifP_split (fun _=>⟨by simp,by simp,by simp,?_⟩) (fun h=>by cases h)
    refine ifP_split (fun h => ?_) (fun h => ?_)
    · apply notice_bad
      rintro ⟨-,h2⟩
      have:=(allIn1 255 k).2 h2
      rw [this] at h;cases h
    have hk:0<=k/\k<=255:=by
      apply (allIn1 255 k).1
      cases hx:allIn 255 [k] with
      | true=>rfl
      | false=>rw [hx] at h;cases h
    refine ifP_split (fun h2=>notice_short ⟨ht,hk⟩ (of_decide_eq_true h2)) (fun h2 => ?_)
    have h2:=of_decide_eq_false h2
    obtain ⟨e1,e2⟩:=notice_ok (e:=(t,k,data)) ⟨ht,hk⟩ h2
    have hB:=csum_range (notice_bytes (e:=(t,k,data)) ⟨ht,hk⟩ hd)
    rw [or8' (by omega) (by omega) hk.1 hk.2]
    refine ⟨by omega,by simp [allIn];omega,by simp,?_⟩
    intro p hpe
    have hp8:p.length=8:=by rw [hpe];simp [w2]
    have hp:p++data=noticeBody (t,k,data):=by
      rw [hpe]
      simp only [List.flatMap_cons,List.flatMap_nil,w2_pair (show 0<=t by omega) (show t<=255 by omega) hk.1 hk.2,show w2 0=[0,0] from rfl];rfl
    refine ⟨(app_lim (by omega) hl).1,(app_lim (by omega) hl).2,?_⟩
    intro c hc
    have hc:c=csum (noticeBody (t,k,data)):=by rw [hc,hp];rfl
    exact lim_fin (a:=2) hp (by omega) (by omega) (by omega) hl (by rw [hc];exact hB.1) (by rw [hc];exact hB.2) (by rw [hc];exact e1) e2
theorem ok_transport_EncodeNotice:SpecOK Tryz.prog GL 209 ct_transport_EncodeNotice.spec:=Ct.okH _ Tryz.func209 (by kernel_rfl) (withSpec_ok (withSpec_ok (withSpec_ok (withSpec_ok noSpecs_ok ok_transport_within) (Ct.named ok_transport_put)) (Ct.named ok_wire_Checksum)) ok_transport_limited) hmix an_transport_EncodeNotice (hideMp (by kernel_rfl) vc_transport_EncodeNotice)
def ct_transport_Pseudo:Ct:=⟨[.val cU32,.val cU32,.val cI,.val (.sl cU8)],[.val cI],fun d=>[(d.2.2.2.1.length:Int)<=1073741824],fun d=>((pseudo d.1 d.2.1 d.2.2.1 d.2.2.2.1,()),())⟩
def an_transport_Pseudo:PDs ct_transport_Pseudo.ps->Anns:=(fun _=>{})
theorem vc_transport_Pseudo :
 ∀(a b c:Int) (d:List Int),(0<=a/\a<=4294967295)/\(0<=b/\b<=4294967295)/\R64 c/\(Qbg13 d)/\True->(d.length:Int)<=1073741824-> ∀(e:Bool),e= ! allIn (255:Int) [c]->(Qbg6 e)/\(Qbg6 e)/\(e=false->(! e))/\ifP (bif e then true else decide (65535<(d.length:Int))) ((0:Int)=pseudo a b c d) ((0:Int)<=16/\(0:Int)<=16/\allIn (65535:Int) [IntKind.wrap .i64 (shrI IntKind.u32 a (16:Int)),IntKind.wrap .i64 (bits BinOp.and IntKind.u32 a (65535:Int)),IntKind.wrap .i64 (shrI IntKind.u32 b (16:Int)),IntKind.wrap .i64 (bits BinOp.and IntKind.u32 b (65535:Int)),c,(d.length:Int)]=true/\((List.length [IntKind.wrap .i64 (shrI IntKind.u32 a (16:Int)),IntKind.wrap .i64 (bits BinOp.and IntKind.u32 a (65535:Int)),IntKind.wrap .i64 (shrI IntKind.u32 b (16:Int)),IntKind.wrap .i64 (bits BinOp.and IntKind.u32 b (65535:Int)),c,(d.length:Int)]):Int)<=1073741824/\ ∀(f:List Int),f=List.flatMap w2 [IntKind.wrap .i64 (shrI
 IntKind.u32 a (16:Int)),IntKind.wrap .i64 (bits BinOp.and IntKind.u32 a (65535:Int)),IntKind.wrap .i64 (shrI IntKind.u32 b (16:Int)),IntKind.wrap .i64 (bits BinOp.and IntKind.u32 b (65535:Int)),c,(d.length:Int)]->(f.length+d.length)*(1:Nat)<=(Qbg12)/\((List.length (f++d)):Int)<=1099511627776/\ ∀(g:Int),g=65535 -oc (sumF true (f++d))->g=pseudo a b c d):=by
  delta Qbg6 Qbg12 Qbg13
  rintro a b p data ⟨⟨a0,a1⟩,⟨b0,b1⟩,-,⟨-,hd⟩,-⟩ hl
  rintro x rfl
  refine ⟨by simp,by simp,by simp,?_⟩
  refine ifP_split (fun h => ?_) (fun h => ?_)
  · rw [pseudo,if_pos]
    cases hx:allIn 255 [p] with
    | false=>exact .inl (fun k=>by rw [(allIn1 255 p).2 k] at hx;cases hx)
    | true=>rw [hx] at h;exact .inr (of_decide_eq_true h)
  have hp:0<=p/\p<=255:=by
    apply (allIn1 255 p).1
    cases hx:allIn 255 [p] with
    | true=>rfl
    | false=>rw [hx] at h;cases h
  have hn:¬ (65535:Int)<data.length:=by
    rw [(allIn1 255 p).2 hp] at h;exact of_decide_eq_false h
  rw [shr16u a0 a1,shr16u b0 b1,and16u a0 a1,and16u b0 b1]
  refine ⟨by omega,by omega,by simp [allIn];omega,by simp,?_⟩
  intro q hq
  have hp8:q.length=12:=by rw [hq];simp [w2]
  have hB:q++data=pseudoB a b p data:=by
    rw [hq]
    simp only [List.flatMap_cons,List.flatMap_nil,List.append_nil,List.append_assoc,w2_split]
    rfl
  refine ⟨(app_lim (by omega) hl).1,(app_lim (by omega) hl).2,?_⟩
  rintro c rfl
  rw [hB,pseudo,if_neg (by omega)];rfl
theorem ok_transport_Pseudo:SpecOK Tryz.prog GL 179 ct_transport_Pseudo.spec:=Ct.okH _ Tryz.func179 (by kernel_rfl) (withSpec_ok (withSpec_ok (withSpec_ok noSpecs_ok ok_transport_within) (Ct.named ok_transport_put)) (Ct.named ok_wire_Checksum)) hmix an_transport_Pseudo (hideMp (by kernel_rfl) vc_transport_Pseudo)
def ct_ref06_Pseudo:Ct:=⟨[.val cU32,.val cU32,.val cI,.val (.sl cU8)],[.val cI],fun d=>[(d.2.2.2.1.length:Int)<=1073741824],fun d=>((pseudo d.1 d.2.1 d.2.2.1 d.2.2.2.1,()),())⟩
def an_ref06_Pseudo:PDs ct_ref06_Pseudo.ps->Anns:=(fun _=>{})
theorem vc_ref06_Pseudo :
 ∀(a b c:Int) (d:List Int),(0<=a/\a<=4294967295)/\(0<=b/\b<=4294967295)/\R64 c/\(Qbg13 d)/\True->(d.length:Int)<=1073741824-> ∀(e:Bool),e= ! decide (0<=c/\c<=255)->(Qbg6 e)/\(Qbg6 e)/\(e=false->(! e))/\ifP (bif e then true else decide (65535<(d.length:Int))) ((0:Int)=pseudo a b c d) ((↑(0:Nat):Int)<=1099511627776/\ ∀(f:List Int),f=putB ([]:List Int) (IntKind.wrap .i64 a) (4:Int)->(f.length:Int)<=1099511627776/\ ∀(g:List Int),g=putB f (IntKind.wrap .i64 b) (4:Int)->(g.length:Int)<=1099511627776/\ ∀(h:List Int),h=putB g c (2:Int)->(h.length:Int)<=1099511627776/\ ∀(i:List Int),i=putB h (d.length:Int) (2:Int)->(i.length+d.length)*(1:Nat)<=(Qbg12)/\((List.length (i++d)):Int)<=1099511627776/\ ∀(j:Int),j=65535 -oc (sumF true (i++d))->j=pseudo a b c d):=by
  delta Qbg6 Qbg12 Qbg13
  rintro a b p data ⟨⟨a0,a1⟩,⟨b0,b1⟩,-,⟨-,hd⟩,-⟩ hl
  rintro x rfl
  refine ⟨by simp,by simp,by simp,?_⟩
  refine ifP_split (fun h => ?_) (fun h => ?_)
  · rw [pseudo,if_pos]
    by_cases hx:0<=p/\p<=255
    · rw [decide_eq_true hx] at h;exact .inr (of_decide_eq_true h)
    · exact .inl hx
  have hp:0<=p/\p<=255:=Classical.byContradiction fun hk=>by rw [decide_eq_false hk] at h;cases h
  have hn:¬ (65535:Int)<data.length:=by
    rw [decide_eq_true hp] at h;exact of_decide_eq_false h
  refine ⟨by simp,?_⟩
  intro q1 h1
  rw [w64 (n:=a) (by omega) (by omega),putB_4 a0 a1,List.nil_append] at h1
  refine ⟨by rw [h1];simp [w4],?_⟩
  intro q2 h2
  rw [w64 (n:=b) (by omega) (by omega),putB_4 b0 b1] at h2
  refine ⟨by rw [h2,h1];simp [w4],?_⟩
  intro q3 h3
  rw [putB_2 hp.1 (by omega)] at h3
  refine ⟨by rw [h3,h2,h1];simp [w2,w4],?_⟩
  intro q hq
  rw [putB_2 (by omega) (by omega)] at hq
  have hp8:q.length=12:=by rw [hq,h3,h2,h1];simp [w2,w4]
  have hB:q++data=pseudoB a b p data:=by
    rw [hq,h3,h2,h1]
    simp only [List.append_assoc]
    rfl
  refine ⟨(app_lim (by omega) hl).1,(app_lim (by omega) hl).2,?_⟩
  rintro c rfl
  rw [hB,pseudo,if_neg (by omega)];rfl
theorem ok_ref06_Pseudo:SpecOK Tryz.prog GL 126 ct_ref06_Pseudo.spec:=Ct.okH _ Tryz.func126 (by kernel_rfl) (withSpec_ok (withSpec_ok (withSpec_ok noSpecs_ok ok_ref06_octet) (Ct.named ok_ref04_Push)) (Ct.named ok_ref04_Checksum)) hmix an_ref06_Pseudo (hideMp (by kernel_rfl) vc_ref06_Pseudo)
def ct_transport_sumUDP:Ct:=⟨[.val cU32,.val cU32,.val (.sl cU8)],[.val cI],fun d=>[(d.2.2.1.length:Int)<=1073741824],fun d=>((sumU d.1 d.2.1 d.2.2.1,()),())⟩
def an_transport_sumUDP:PDs ct_transport_sumUDP.ps->Anns:=(fun _=>{})
theorem vc_transport_sumUDP :
 ∀(a b:Int) (c:List Int),(0<=a/\a<=4294967295)/\(0<=b/\b<=4294967295)/\(c.length<=maxLen/\ ∀(d:Int),d∈c->0<=d/\d<=255)/\True->(c.length:Int)<=1073741824->(c.length:Int)<=1073741824/\ifP (! decide (pseudo a b (17:Int) c=0)) (pseudo a b (17:Int) c=sumU a b c) ((65535:Int)=sumU a b c):=by
  rintro a b data-hl
  refine ⟨hl,ifP_split (fun h => ?_) (fun h => ?_)⟩
  · rw [sumU,if_neg];intro k;rw [decide_eq_true k] at h;cases h
  · rw [sumU,if_pos]
    exact Classical.byContradiction fun k=>by rw [decide_eq_false k] at h;cases h
theorem ok_transport_sumUDP:SpecOK Tryz.prog GL 178 ct_transport_sumUDP.spec:=Ct.okH _ Tryz.func178 (by kernel_rfl) (withSpec_ok noSpecs_ok ok_transport_Pseudo) hmix an_transport_sumUDP (hideMp (by kernel_rfl) vc_transport_sumUDP)
def ct_ref06_EncodeUDP:Ct:=⟨[.val cU32,.val cU32,.agg cDgram],[.own 5 cU8,.val cI],fun d=>[(d.2.2.1.2.2.length:Int)<=1073741824],fun d=>((udpEnc d.1 d.2.1 d.2.2.1,udpErr d.2.2.1,()),())⟩
def an_ref06_EncodeUDP:PDs ct_ref06_EncodeUDP.ps->Anns:=(fun _=>{})
def Qbg8 (e i:List Int) :=
 ((List.length (i++[(0:Int),(0:Int)]++e)):Int)
def Qbg10 (f:Bool) :=
 (! f)->((! f)->(! f))/\True
theorem vc_ref06_EncodeUDP :
 ∀(a b c d:Int) (e:List Int),(0<=a/\a<=4294967295)/\(0<=b/\b<=4294967295)/\(R64 c/\R64 d/\e.length<=maxLen/\ ∀(f:Int),f∈e->0<=f/\f<=255)/\True->(e.length:Int)<=1073741824-> ∀(f:Bool),f= ! word16 c->(Qbg10 f)/\(Qbg10 f)/\(Qbg10 f)/\(f=false->(! f))/\ifP (bif f then true else ! word16 d) (([]:List Int)=udpEnc a b (c,d,e)/\(1:Int)=udpErr (c,d,e)) (ifP (decide (1480<IntKind.wrap .i64 ((e.length:Int)+(8:Int)))) (([]:List Int)=udpEnc a b (c,d,e)/\(5:Int)=udpErr (c,d,e)) ((↑(0:Nat):Int)<=1099511627776/\ ∀(g:List Int),g=putB ([]:List Int) c (2:Int)->(g.length:Int)<=1099511627776/\ ∀(h:List Int),h=putB g d (2:Int)->(h.length:Int)<=1099511627776/\ ∀(i:List Int),i=putB h (IntKind.wrap .i64 ((e.length:Int)+(8:Int))) (2:Int)->(i.length+List.length [(0:Int),(0:Int)])*(1:Nat)<=(Qbg12)/\(List.length (i++[(0:Int),(0:Int)])+e.length)*(1:Nat)<=(Qbg12)/\(Qbg8 e i)<=1073741824/\ ∀(j:Int),j=pseudo a b (17:Int)
 (i++[(0:Int),(0:Int)]++e)->ifP (decide (j=0)) ((0:Int)<=6/\(6:Int)+2<=(Qbg8 e i)/\(Qbg8 e i)<=1099511627776/\(0:Int)<=65535/\(65535:Int)<=65535/\setW (i++[(0:Int),(0:Int)]++e) (Int.toNat (6:Int)) (65535:Int)=udpEnc a b (c,d,e)/\(0:Int)=udpErr (c,d,e)) ((0:Int)<=6/\(6:Int)+2<=(Qbg8 e i)/\(Qbg8 e i)<=1099511627776/\0<=j/\j<=65535/\setW (i++[(0:Int),(0:Int)]++e) (Int.toNat (6:Int)) j=udpEnc a b (c,d,e)/\(0:Int)=udpErr (c,d,e)))):=by
  delta Qbg8 Qbg10 Qbg12
  rintro a b sp dp data ⟨-,-,⟨-,-,-,hd⟩,-⟩ hl
  rintro x rfl
  refine ⟨by simp,by simp,by simp,by simp,?_⟩
  rw [w64 (n:=(data.length:Int)+8) (by omega) (by omega)]
  refine ifP_split (fun h => ?_) (fun h => ?_)
  · apply udp_bad
    rintro ⟨h1,h2⟩
    simp at h1 h2
    simp [h1,h2] at h
  have hw:word16 sp=true/\word16 dp=true:=by
    simp [Bool.cond_eq_ite] at h;exact h
  have hw':=hw
  simp only [word16_iff] at hw'
  obtain ⟨e1,e2⟩:=udp_ok (a:=a) (b:=b) (e:=(sp,dp,data)) hw
  have hB:=sumU_range (a:=a) (b:=b) (udp_bytes (e:=(sp,dp,data)) hd)
  have hbl:=udp_len (sp,dp,data)
  refine ifP_split (fun h5 => ?_) (fun h5 => ?_)
  · have h5:=of_decide_eq_true h5
    rw [e1,e2,if_pos (by simp only at hbl;omega),if_pos (by simp only at hbl;omega)];exact ⟨rfl,rfl⟩
  have h5:=of_decide_eq_false h5
  have h5':¬ (1480:Int)<(udpBody (sp,dp,data)).length:=by simp only at hbl;omega
  rw [if_neg h5'] at e1
  refine ⟨by simp,?_⟩
  intro q1 h1
  rw [putB_2 hw'.1.1 hw'.1.2,List.nil_append] at h1
  refine ⟨by rw [h1];simp [w2],?_⟩
  intro q2 h2
  rw [putB_2 hw'.2.1 hw'.2.2] at h2
  refine ⟨by rw [h2,h1];simp [w2],?_⟩
  intro q3 h3
  rw [putB_2 (by omega) (by omega)] at h3
  have hp8:q3.length=6:=by rw [h3,h2,h1];simp [w2]
  have hp:q3++[0,0]++data=udpBody (sp,dp,data):=by
    rw [h3,h2,h1]
    simp only [List.append_assoc,udpBody]
    rw [Int.add_comm 8]
  rw [hp]
  refine ⟨by simp only [List.length_cons,List.length_nil];omega,by simp only [List.length_append,List.length_cons,List.length_nil];omega,by simp only at hbl;omega,?_⟩
  rintro c rfl
  have hs:∀ c,c=sumU a b (udpBody (sp,dp,data))->setW (udpBody (sp,dp,data)) (Int.toNat 6) c=udpEnc a b (sp,dp,data)/\0=udpErr (sp,dp,data):=by
    rintro c rfl;exact ⟨e1.symm,low5 e2 h5'⟩
  refine ifP_split (fun hz => ?_) (fun hz => ?_)
  · have hz:=of_decide_eq_true hz
    exact ⟨by omega,by simp only at hbl;omega,by simp only at hbl;omega,by omega,by omega,hs _ (by rw [sumU,if_pos hz])⟩
  · have hz:=of_decide_eq_false hz
    have hr:=pseudo_range (a:=a) (b:=b) (p:=17) (udp_bytes (e:=(sp,dp,data)) hd)
    exact ⟨by omega,by simp only at hbl;omega,by simp only at hbl;omega,hr.1,hr.2,hs _ (by rw [sumU,if_neg hz])⟩
theorem ok_ref06_EncodeUDP:SpecOK Tryz.prog GL 127 ct_ref06_EncodeUDP.spec:=Ct.okH _ Tryz.func127 (by kernel_rfl) (withSpec_ok (withSpec_ok (withSpec_ok (withSpec_ok noSpecs_ok ok_ref06_word) (Ct.named ok_ref04_Push)) (Ct.named ok_ref06_Pseudo)) ok_ref06_put) hmix an_ref06_EncodeUDP (hideMp (by kernel_rfl) vc_ref06_EncodeUDP)
theorem or20480 {f:Int} (h0:0<=f) (h1:f<=255):bits .or .i64 20480 f=80*256+f:=by
  have:=or8' (n:=80) (x:=f) (by omega) (by omega) h0 h1
  rwa [show shlI .i64 80 8=20480 from by decide] at this
theorem w2_20480 {f:Int} (h0:0<=f) (h1:f<=255):w2 (80*256+f)=[80,f]:=w2_pair (by omega) (by omega) h0 h1
def ct_transport_EncodeTCP:Ct:=⟨[.val cU32,.val cU32,.agg cSeg],[.own 5 cU8,.val cI],fun d=>[(d.2.2.1.2.2.2.2.2.2.length:Int)<=1000000],fun d=>((tcpEnc d.1 d.2.1 d.2.2.1,tcpErr d.2.2.1,()),())⟩
def an_transport_EncodeTCP:PDs ct_transport_EncodeTCP.ps->Anns:=(fun _=>{})
def Qbg0 (a b:Int) (c:Int×Int×Int×Int×Int×Int×List Int) :=
 (0:Int)<=16/\(0:Int)<=16/\allIn (65535:Int) [c.1,c.2.1,shrI IntKind.i64 c.2.2.1 (16:Int),bits BinOp.and IntKind.i64 c.2.2.1 (65535:Int),shrI IntKind.i64 c.2.2.2.1 (16:Int),bits BinOp.and IntKind.i64 c.2.2.2.1 (65535:Int),bits BinOp.or IntKind.i64 (20480:Int) c.2.2.2.2.1,c.2.2.2.2.2.1,(0:Int),(0:Int)]=true/\((List.length [c.1,c.2.1,shrI IntKind.i64 c.2.2.1 (16:Int),bits BinOp.and IntKind.i64 c.2.2.1 (65535:Int),shrI IntKind.i64 c.2.2.2.1 (16:Int),bits BinOp.and IntKind.i64 c.2.2.2.1 (65535:Int),bits BinOp.or IntKind.i64 (20480:Int) c.2.2.2.2.1,c.2.2.2.2.2.1,(0:Int),(0:Int)]):Int)<=1073741824/\ ∀(f:List Int),f=List.flatMap w2 [c.1,c.2.1,shrI IntKind.i64 c.2.2.1 (16:Int),bits BinOp.and IntKind.i64 c.2.2.1 (65535:Int),shrI IntKind.i64 c.2.2.2.1 (16:Int),bits BinOp.and IntKind.i64 c.2.2.2.1 (65535:Int),bits BinOp.or IntKind.i64 (20480:Int)
 c.2.2.2.2.1,c.2.2.2.2.2.1,(0:Int),(0:Int)]->(f.length+c.2.2.2.2.2.2.length)*(1:Nat)<=(Qbg12)/\((List.length (f++c.2.2.2.2.2.2)):Int)<=1073741824/\ ∀(g:Int),g=pseudo a b (6:Int) (f++c.2.2.2.2.2.2)->(0:Int)<=16/\(16:Int)+2<=((List.length (f++c.2.2.2.2.2.2)):Int)/\((List.length (f++c.2.2.2.2.2.2)):Int)<=1099511627776/\0<=g/\g<=65535/\(if 1480<((List.length (f++c.2.2.2.2.2.2)):Int) then ([]:List Int) else setW (f++c.2.2.2.2.2.2) (Int.toNat (16:Int)) g)=tcpEnc a b c/\(if 1480<((List.length (f++c.2.2.2.2.2.2)):Int) then (5:Int) else (0:Int))=tcpErr c
def Qbg5 (a b:Int) (c:Int×Int×Int×Int×Int×Int×List Int) (e:Bool) :=
 (Qbg6 e)/\ifP (! e) (((! e)->(! e))/\(Qbg6 e)/\(e=false->(! e))/\ifP (bif e then true else ! allIn (255:Int) [c.2.2.2.2.1]) (([]:List Int)=tcpEnc a b c/\(1:Int)=tcpErr c) (Qbg0 a b c)) ((! e)=false/\(! e)=false/\(e=false->false=true)/\ifP (bif e then true else false) (([]:List Int)=tcpEnc a b c/\(1:Int)=tcpErr c) (Qbg0 a b c))
def Qbg11 (d:Bool) :=
 (! d)->((! d)->(! d))/\True
theorem vc_transport_EncodeTCP :
 ∀(a b:Int) (c:Int×Int×Int×Int×Int×Int×List Int),(0<=a/\a<=4294967295)/\(0<=b/\b<=4294967295)/\CT.wf cSeg c/\True->(c.2.2.2.2.2.2.length:Int)<=1000000-> ∀(d:Bool),d= ! allIn (65535:Int) [c.1,c.2.1,c.2.2.2.2.2.1]->(Qbg11 d)/\(Qbg11 d)/\ifP (! d) (((! d)->(! d))/\((! d)->(! d))/\(Qbg11 d)/\(d=false->(! d))/\ ∀(e:Bool),(e=bif d then true else ! allIn (4294967295:Int) [c.2.2.1,c.2.2.2.1])->(Qbg5 a b c e)) ((! d)=false/\(! d)=false/\(d=false->false=true)/\ ∀(e:Bool),(e=bif d then true else false)->(Qbg5 a b c e)):=by
  delta Qbg0 Qbg5 Qbg6 Qbg11 Qbg12
  rintro a b e ⟨-,-,⟨-,-,-,-,-,-,-,hd⟩,-⟩ hl
  intro b1 hb1
  refine ⟨by simp,by simp,?_⟩
  cases b1 with
  | true =>
    have hbad:¬ tcpOK e:=by
      rintro ⟨h1,h2,-,-,-,h3⟩
      rw [word16_iff] at h1 h2 h3
      rw [show allIn 65535 [e.1,e.2.1,e.2.2.2.2.2.1]=true from by simp [allIn];omega] at hb1;cases hb1
    refine ifP_split (fun h=>by cases h) (fun _=>⟨rfl,rfl,by simp,?_⟩)
    intro b2 hb2
    have hb2:b2=true:=hb2
    subst hb2
    exact ⟨by simp,ifP_split (fun h=>by cases h) (fun _=>⟨rfl,rfl,by simp,ifP_split (fun _=>tcp_bad hbad) (fun h=>by cases h)⟩)⟩
  | false =>
    have h1:(0<=e.1/\e.1<=65535)/\(0<=e.2.1/\e.2.1<=65535)/\0<=e.2.2.2.2.2.1/\e.2.2.2.2.2.1<=65535:=by
      have:allIn 65535 [e.1,e.2.1,e.2.2.2.2.2.1]=true:=by
        cases hx:allIn 65535 [e.1,e.2.1,e.2.2.2.2.2.1] with
        | true=>rfl
        | false=>rw [hx] at hb1;cases hb1
      simpa [allIn] using this
    refine ifP_split (fun _=>⟨by simp,by simp,by simp,by simp,?_⟩) (fun h=>by cases h)
    intro b2 hb2
    refine ⟨by simp,?_⟩
    cases b2 with
    | true =>
      have hbad:¬ tcpOK e:=by
        rintro ⟨-,-,h3,h4,-,-⟩
        have:allIn 4294967295 [e.2.2.1,e.2.2.2.1]=true:=(allIn2 _ _ _).2 ⟨h3,h4⟩
        rw [this] at hb2;cases hb2
      exact ifP_split (fun h=>by cases h) (fun _=>⟨rfl,rfl,by simp,ifP_split (fun _=>tcp_bad hbad) (fun h=>by cases h)⟩)
    | false =>
      have h2:(0<=e.2.2.1/\e.2.2.1<=4294967295)/\0<=e.2.2.2.1/\e.2.2.2.1<=4294967295:=by
        apply (allIn2 _ _ _).1
        cases hx:allIn 4294967295 [e.2.2.1,e.2.2.2.1] with
        | true=>rfl
        | false=>rw [hx] at hb2;cases hb2
      refine ifP_split (fun _=>⟨by simp,by simp,by simp,ifP_split (fun h => ?_) (fun h => ?_)⟩) (fun h=>by cases h)
      · apply tcp_bad
        rintro ⟨-,-,-,-,h3,-⟩
        rw [(allIn1 _ _).2 h3] at h;cases h
      have h3:0<=e.2.2.2.2.1/\e.2.2.2.2.1<=255:=by
        apply (allIn1 _ _).1
        cases hx:allIn 255 [e.2.2.2.2.1] with
        | true=>rfl
        | false=>rw [hx] at h;cases h
      have hok:tcpOK e:=⟨(word16_iff _).2 h1.1,(word16_iff _).2 h1.2.1,h2.1,h2.2,h3,(word16_iff _).2 h1.2.2⟩
      obtain ⟨e1,e2⟩:=tcp_ok (a:=a) (b:=b) hok
      have hB:=pseudo_range (a:=a) (b:=b) (p:=6) (tcp_bytes hok hd)
      have hbl:=tcp_len e
      rw [shr16 h2.1.1,shr16 h2.2.1,i64_and65535,i64_and65535,or20480 h3.1 h3.2]
      refine ⟨by omega,by omega,by simp [allIn];omega,by simp,?_⟩
      intro p hpe
      have hp8:p.length=20:=by rw [hpe];simp [w2]
      have hp:p++e.2.2.2.2.2.2=tcpBody e:=by
        rw [hpe]
        simp only [List.flatMap_cons,List.flatMap_nil,List.append_nil,List.append_assoc,w2_split,show w2 0=[0,0] from rfl,w2_20480 h3.1 h3.2]
        rfl
      refine ⟨(app_lim (by omega) (by omega)).1,by rw [List.length_append];omega,?_⟩
      intro c hc
      have hc:c=pseudo a b 6 (tcpBody e):=by rw [hc,hp]
      exact lim_fin (a:=16) hp (by omega) (by omega) (by omega) (by omega) (by rw [hc];exact hB.1) (by rw [hc];exact hB.2) (by rw [hc];exact e1) e2
theorem ok_transport_EncodeTCP:SpecOK Tryz.prog GL 138 ct_transport_EncodeTCP.spec:=Ct.okH _ Tryz.func138 (by kernel_rfl) (withSpec_ok (withSpec_ok (withSpec_ok (withSpec_ok noSpecs_ok ok_transport_within) (Ct.named ok_transport_put)) (Ct.named ok_transport_Pseudo)) ok_transport_limited) hmix an_transport_EncodeTCP (hideMp (by kernel_rfl) vc_transport_EncodeTCP)
def ct_ref06_EncodeTCP:Ct:=⟨[.val cU32,.val cU32,.agg cSeg],[.own 5 cU8,.val cI],fun d=>[(d.2.2.1.2.2.2.2.2.2.length:Int)<=1000000],fun d=>((tcpEnc d.1 d.2.1 d.2.2.1,tcpErr d.2.2.1,()),())⟩
def an_ref06_EncodeTCP:PDs ct_ref06_EncodeTCP.ps->Anns:=(fun _=>{})
def Qbg9 (c:Int×Int×Int×Int×Int×Int×List Int) (o:List Int) :=
 o++[(0:Int),(0:Int),(0:Int),(0:Int)]++c.2.2.2.2.2.2
theorem vc_ref06_EncodeTCP :
 ∀(a b:Int) (c:Int×Int×Int×Int×Int×Int×List Int),(0<=a/\a<=4294967295)/\(0<=b/\b<=4294967295)/\CT.wf cSeg c/\True->(c.2.2.2.2.2.2.length:Int)<=1000000-> ∀(d:Bool),d= ! word16 c.1->(Qbg11 d)/\(Qbg11 d)/\(Qbg11 d)/\(d=false->(! d))/\ ∀(e:Bool),(e=bif d then true else ! word16 c.2.1)->(Qbg6 e)/\(Qbg6 e)/\(Qbg6 e)/\(e=false->(! e))/\ ∀(f:Bool),(f=bif e then true else ! decide (0<=c.2.2.1/\c.2.2.1<=4294967295))->(Qbg10 f)/\(Qbg10 f)/\(Qbg10 f)/\(f=false->(! f))/\ ∀(g:Bool),(g=bif f then true else ! decide (0<=c.2.2.2.1/\c.2.2.2.1<=4294967295))->((! g)->((! g)->(! g))/\True)/\((! g)->((! g)->(! g))/\True)/\((! g)->((! g)->(! g))/\True)/\(g=false->(! g))/\ ∀(h:Bool),(h=bif g then true else ! decide (0<=c.2.2.2.2.1/\c.2.2.2.2.1<=255))->((! h)->((! h)->(! h))/\True)/\((! h)->((! h)->(! h))/\True)/\((! h)->((! h)->(! h))/\True)/\(h=false->(! h))/\ifP (bif h then true else ! word16 c.2.2.2.2.2.1)
 (([]:List Int)=tcpEnc a b c/\(1:Int)=tcpErr c) (ifP (decide (1480<IntKind.wrap .i64 ((c.2.2.2.2.2.2.length:Int)+(20:Int)))) (([]:List Int)=tcpEnc a b c/\(5:Int)=tcpErr c) ((↑(0:Nat):Int)<=1099511627776/\ ∀(i:List Int),i=putB ([]:List Int) c.1 (2:Int)->(i.length:Int)<=1099511627776/\ ∀(j:List Int),j=putB i c.2.1 (2:Int)->(j.length:Int)<=1099511627776/\ ∀(k:List Int),k=putB j c.2.2.1 (4:Int)->(k.length:Int)<=1099511627776/\ ∀(l:List Int),l=putB k c.2.2.2.1 (4:Int)->(l.length:Int)<=1099511627776/\ ∀(m:List Int),m=putB l (80:Int) (1:Int)->(m.length:Int)<=1099511627776/\ ∀(n:List Int),n=putB m c.2.2.2.2.1 (1:Int)->(n.length:Int)<=1099511627776/\ ∀(o:List Int),o=putB n c.2.2.2.2.2.1 (2:Int)->(o.length+List.length [(0:Int),(0:Int),(0:Int),(0:Int)])*(1:Nat)<=(Qbg12)/\(List.length (o++[(0:Int),(0:Int),(0:Int),(0:Int)])+c.2.2.2.2.2.2.length)*(1:Nat)<=(Qbg12)/\((List.length (Qbg9 c
 o)):Int)<=1073741824/\ ∀(p:Int),p=pseudo a b (6:Int) (Qbg9 c o)->(0:Int)<=16/\(16:Int)+2<=((List.length (Qbg9 c o)):Int)/\((List.length (Qbg9 c o)):Int)<=1099511627776/\0<=p/\p<=65535/\setW (Qbg9 c o) (Int.toNat (16:Int)) p=tcpEnc a b c/\(0:Int)=tcpErr c)):=by
  delta Qbg6 Qbg9 Qbg10 Qbg11 Qbg12
  rintro a b e ⟨-,-,⟨-,-,-,-,-,-,-,hd⟩,-⟩ hl
  intro b1 h1
  refine ⟨by simp,by simp,by simp,by simp,?_⟩
  intro b2 h2
  refine ⟨by simp,by simp,by simp,by simp,?_⟩
  intro b3 h3
  refine ⟨by simp,by simp,by simp,by simp,?_⟩
  intro b4 h4
  refine ⟨by simp,by simp,by simp,by simp,?_⟩
  intro b5 h5
  refine ⟨by simp,by simp,by simp,by simp,?_⟩
  rw [w64 (n:=(e.2.2.2.2.2.2.length:Int)+20) (by omega) (by omega)]
  have hall:(bif b5 then true else !word16 e.2.2.2.2.2.1) = !decide (tcpOK e):=by
    rw [h5,h4,h3,h2,h1]
    by_cases w1:word16 e.1=true
    all_goals by_cases w2:word16 e.2.1=true
    all_goals by_cases w3:word16 e.2.2.2.2.2.1=true
    all_goals by_cases q1:0<=e.2.2.1/\e.2.2.1<=4294967295
    all_goals by_cases q2:0<=e.2.2.2.1/\e.2.2.2.1<=4294967295
    all_goals by_cases q3:0<=e.2.2.2.2.1/\e.2.2.2.2.1<=255
    all_goals simp [tcpOK,w1,w2,w3,q1,q2,q3]
  rw [hall]
  refine ifP_split (fun h=>tcp_bad (by simpa using h)) (fun h => ?_)
  have hok:tcpOK e:=by simpa using h
  obtain ⟨e1,e2⟩:=tcp_ok (a:=a) (b:=b) hok
  have hB:=pseudo_range (a:=a) (b:=b) (p:=6) (tcp_bytes hok hd)
  have hbl:=tcp_len e
  refine ifP_split (fun h5 => ?_) (fun h5 => ?_)
  · have h5:=of_decide_eq_true h5
    rw [e1,e2,if_pos (by omega),if_pos (by omega)];exact ⟨rfl,rfl⟩
  have h5:=of_decide_eq_false h5
  have h5':¬ (1480:Int)<(tcpBody e).length:=by omega
  rw [if_neg h5'] at e1
  obtain ⟨k1,k2,k3,k4,k5,k6⟩:=hok
  rw [word16_iff] at k1 k2 k6
  refine ⟨by simp,?_⟩
  intro q1 h1
  rw [putB_2 k1.1 k1.2,List.nil_append] at h1
  have l1:q1.length=2:=by rw [h1];rfl
  refine ⟨by omega,?_⟩
  intro q2 h2
  rw [putB_2 k2.1 k2.2] at h2
  have l2:q2.length=4:=by rw [h2,List.length_append,l1];rfl
  refine ⟨by omega,?_⟩
  intro q3 h3
  rw [putB_4 k3.1 k3.2] at h3
  have l3:q3.length=8:=by rw [h3,List.length_append,l2];rfl
  refine ⟨by omega,?_⟩
  intro q4 h4
  rw [putB_4 k4.1 k4.2] at h4
  have l4:q4.length=12:=by rw [h4,List.length_append,l3];rfl
  refine ⟨by omega,?_⟩
  intro q5 h5
  rw [putB_1 (by omega) (by omega)] at h5
  have l5:q5.length=13:=by rw [h5,List.length_append,l4];rfl
  refine ⟨by omega,?_⟩
  intro q6 h6
  rw [putB_1 k5.1 k5.2] at h6
  have l6:q6.length=14:=by rw [h6,List.length_append,l5];rfl
  refine ⟨by omega,?_⟩
  intro q7 h7
  rw [putB_2 k6.1 k6.2] at h7
  have l7:q7.length=16:=by rw [h7,List.length_append,l6];rfl
  have hp:q7++[0,0,0,0]++e.2.2.2.2.2.2=tcpBody e:=by
    rw [h7,h6,h5,h4,h3,h2,h1]
    simp only [List.append_assoc]
    rfl
  rw [hp]
  refine ⟨by simp only [List.length_cons,List.length_nil];omega,by simp only [List.length_append,List.length_cons,List.length_nil];omega,by omega,?_⟩
  rintro c rfl
  exact ⟨by omega,by omega,by omega,hB.1,hB.2,e1.symm,low5 e2 h5'⟩
theorem ok_ref06_EncodeTCP:SpecOK Tryz.prog GL 114 ct_ref06_EncodeTCP.spec:=Ct.okH _ Tryz.func114 (by kernel_rfl) (withSpec_ok (withSpec_ok (withSpec_ok (withSpec_ok (withSpec_ok (withSpec_ok noSpecs_ok ok_ref06_word) ok_ref06_octet) ok_ref06_long) (Ct.named ok_ref04_Push)) (Ct.named ok_ref06_Pseudo)) ok_ref06_put) hmix an_ref06_EncodeTCP (hideMp (by kernel_rfl) vc_ref06_EncodeTCP)
end Go.RS

/- Trdec: decoding messages. -/
namespace Go.RS
open Go.SX Go.Proofs
set_option maxRecDepth 100000
set_option linter.unusedVariables false
def echoForm (b:List Int):Prop:=(b.getD (Int.toNat 0) default=8∨b.getD (Int.toNat 0) default=0)/\b.getD (Int.toNat 1) default=0
instance (b:List Int):Decidable (echoForm b):=by unfold echoForm;infer_instance
def unEchoErr (b:List Int):Int:=if (b.length:Int)<8 then 3 else if ¬ echoForm b then 2 else if (1480:Int)<b.length then 5 else if csum (setW b (Int.toNat 2) 0)≠wordAt b (Int.toNat 2) then 4 else 0
def unEcho (b:List Int):Echo:=if unEchoErr b=0 then (decide (b.getD (Int.toNat 0) default=0),wordAt b (Int.toNat 4),wordAt b (Int.toNat 6),b.drop 8) else (false,0,0,[])
def noticeForm (b:List Int):Prop:=(b.getD (Int.toNat 0) default=3∨b.getD (Int.toNat 0) default=11)/\wordAt b (Int.toNat 4)=0/\wordAt b (Int.toNat 6)=0
instance (b:List Int):Decidable (noticeForm b):=by unfold noticeForm;infer_instance
def unNoticeErr (b:List Int):Int:=if (b.length:Int)<36 then 3 else if ¬ noticeForm b then 2 else if (1480:Int)<b.length then 5 else if csum (setW b (Int.toNat 2) 0)≠wordAt b (Int.toNat 2) then 4 else 0
def unNotice (b:List Int):Notice:=if unNoticeErr b=0 then (b.getD (Int.toNat 0) default,b.getD (Int.toNat 1) default,b.drop 8) else (0,0,[])
def unUDPErr (s d:Int) (b:List Int):Int:=if (b.length:Int)<8 then 3 else if ¬ wordAt b (Int.toNat 4)=b.length then 2 else if (1480:Int)<b.length then 5 else if sumU s d (setW b (Int.toNat 6) 0)≠wordAt b (Int.toNat 6) then 4 else 0
def unUDP (s d:Int) (b:List Int):Dgram:=if unUDPErr s d b=0 then (wordAt b (Int.toNat 0),wordAt b (Int.toNat 2),b.drop 8) else (0,0,[])
def tcpForm (b:List Int):Prop:=b.getD (Int.toNat 12) default=80/\wordAt b (Int.toNat 18)=0
instance (b:List Int):Decidable (tcpForm b):=by unfold tcpForm;infer_instance
def unTCPErr (s d:Int) (b:List Int):Int:=if (b.length:Int)<20 then 3 else if ¬ tcpForm b then 2 else if (1480:Int)<b.length then 5 else if pseudo s d 6 (setW b (Int.toNat 16) 0)≠wordAt b (Int.toNat 16) then 4 else 0
def unTCP (s d:Int) (b:List Int):Seg:=if unTCPErr s d b=0 then (wordAt b (Int.toNat 0),wordAt b (Int.toNat 2),wordAt b (Int.toNat 4)*65536+wordAt b (Int.toNat 6),wordAt b (Int.toNat 8)*65536+wordAt b (Int.toNat 10),b.getD (Int.toNat 13) default,wordAt b (Int.toNat 14),b.drop 20) else (0,0,0,0,0,0,[])
theorem unEcho_err {b:List Int} {e:Int} (h:unEchoErr b=e) (he:e≠0):(false,0,0,[])=unEcho b/\e=unEchoErr b:=by
  rw [unEcho,if_neg (by rw [h];exact he),h];exact ⟨rfl,rfl⟩
theorem unUDP_err {s d:Int} {b:List Int} {e:Int} (h:unUDPErr s d b=e) (he:e≠0):(0,0,[])=unUDP s d b/\e=unUDPErr s d b:=by
  rw [unUDP,if_neg (by rw [h];exact he),h];exact ⟨rfl,rfl⟩
theorem unTCP_err {s d:Int} {b:List Int} {e:Int} (h:unTCPErr s d b=e) (he:e≠0):(0,0,0,0,0,0,[])=unTCP s d b/\e=unTCPErr s d b:=by
  rw [unTCP,if_neg (by rw [h];exact he),h];exact ⟨rfl,rfl⟩
theorem sub_drop (b:List Int) (k:Nat):subL b k (Int.toNat (b.length:Int))=b.drop k:=by unfold subL;simp
theorem wordAt_range {b:List Int} {k:Nat} (h:bytes b):0<=wordAt b k/\wordAt b k<=65535:=by
  have:=numB_bound 2 ((b.drop k).take 2) (by rw [List.length_take];omega) (fun x hx=>h x (List.mem_of_mem_drop (List.mem_of_mem_take hx)))
  have e:(256:Int)^2=65536:=rfl
  unfold wordAt;omega
theorem setW_len (b:List Int) (i:Nat) (v:Int):(setW b i v).length=b.length:=by simp [setW]
theorem or16 {n x:Int} (h0:0<=n) (h1:n<=65535) (h2:0<=x) (h3:x<=65535):bits .or .i64 (shlI .i64 n 16) x=n*65536+x:=by
  have e:shlI .i64 n 16=n*65536:=by
    show IntKind.i64.wrap (n*2^(min 16 64))=_
    rw [w64 (by simp;omega) (by simp;omega)];rfl
  rw [e]
  obtain ⟨m,rfl⟩:=Int.eq_ofNat_of_zero_le h0
  obtain ⟨y,rfl⟩:=Int.eq_ofNat_of_zero_le h2
  have:=i64_or_nat (m*65536) y (by omega) (by omega)
  rw [nat_join 16 (m*65536) y (by omega) (by omega),show ((m*65536:Nat):Int)=(m:Int)*65536 from by omega,show ((m*65536+y:Nat):Int)=(m:Int)*65536+(y:Int) from by omega] at this
  exact this
def ct_transport_DecodeEcho:Ct:=⟨[.val (.sl cU8)],[.agg cEcho,.val cI],fun d=>[(d.1.length:Int)<=1000000],fun d=>((unEcho d.1,unEchoErr d.1,()),())⟩
def an_transport_DecodeEcho:PDs ct_transport_DecodeEcho.ps->Anns:=(fun _=>{})
def Qbh2 :=
 (false,(0:Int),(0:Int),([]:List Int))
def Qbh3 (a:List Int) :=
 (a.length:Int)
theorem vc_transport_DecodeEcho :
 ∀(a:List Int),(a.length<=maxLen/\ ∀(b:Int),b∈a->0<=b/\b<=255)/\True->(Qbh3 a)<=1000000->ifP (decide ((Qbh3 a)<8)) ((Qbh2)=unEcho a/\(3:Int)=unEchoErr a) ((0:Int)<=0/\0<(Qbh3 a)/\ ∀(b:Bool),b= ! decide (a.getD (Int.toNat (0:Int)) default=8)->(b->(b->b)/\(0:Int)<=0/\0<(Qbh3 a)/\True)/\(b->(b->b)/\True)/\(b->(b->b)/\True)/\(b->b)/\ ∀(c:Bool),(c=bif b then ! decide (a.getD (Int.toNat (0:Int)) default=0) else false)->((! c)->((! c)->(! c))/\(0:Int)<=1/\1<(Qbh3 a)/\True)/\((! c)->((! c)->(! c))/\True)/\((! c)->((! c)->(! c))/\True)/\(c=false->(! c))/\ifP (bif c then true else ! decide (a.getD (Int.toNat (1:Int)) default=0)) ((Qbh2)=unEcho a/\(2:Int)=unEchoErr a) (ifP (decide (1480<(Qbh3 a))) ((Qbh2)=unEcho a/\(5:Int)=unEchoErr a) ((0:Int)<=2/\(2:Int)+2<=(Qbh3 a)/\(Qbh3 a)<=1099511627776/\ ∀(d:List Int) (e:Int),d=setW a (Int.toNat (2:Int)) (0:Int)/\e=wordAt a (Int.toNat
 (2:Int))->(d.length:Int)<=1099511627776/\ ∀(f:Int),f=65535 -oc (sumF true d)->ifP (! decide (f=e)) ((Qbh2)=unEcho a/\(4:Int)=unEchoErr a) ((0:Int)<=0/\0<(Qbh3 a)/\(0:Int)<=4/\(4:Int)+2<=(Qbh3 a)/\(Qbh3 a)<=1099511627776/\(0:Int)<=6/\(6:Int)+2<=(Qbh3 a)/\(Qbh3 a)<=1099511627776/\(0:Int)<=8/\8<=(Qbh3 a)/\(Qbh3 a)<=(Qbh3 a)/\((List.length (subL a (Int.toNat (8:Int)) (Int.toNat (Qbh3 a)))):Int)<=1099511627776/\ ∀(g:List Int),g=subL a (Int.toNat (8:Int)) (Int.toNat (Qbh3 a))->(decide (a.getD (Int.toNat (0:Int)) default=0),wordAt a (Int.toNat (4:Int)),wordAt a (Int.toNat (6:Int)),g)=unEcho a/\(0:Int)=unEchoErr a)))):=by
  delta Qbh2 Qbh3
  rintro b ⟨⟨-,hb⟩,-⟩ hl
  refine ifP_split (fun h => ?_) (fun h8 => ?_)
  · exact unEcho_err (by rw [unEchoErr,if_pos (of_decide_eq_true h)]) (by decide)
  have h8:=of_decide_eq_false h8
  refine ⟨by omega,by omega,?_⟩
  (repeat (intro (b_:Bool) (hb_:b_=_);(repeat refine ⟨(by first|(simp;done)|(rw [hb_];simp;done)|(rw [hb_];simp;omega)|(rw [hb_];simp;intros;omega)|(rw [hb_];simp +contextual;done)),?_⟩);subst hb_))
  refine ifP_split (fun h => ?_) (fun hf => ?_)
  · refine unEcho_err (by rw [unEchoErr,if_neg h8,if_pos];rintro ⟨f0,f1⟩;rw [decide_eq_true f1] at h;rcases f0 with f0|f0 <;> rw [f0] at h <;> simp at h) (by decide)
  have hf:echoForm b:=by
    unfold echoForm
    by_cases k1:b.getD (Int.toNat 1) default=0
    · by_cases k2:b.getD (Int.toNat 0) default=8
      · exact ⟨.inl k2,k1⟩
      · by_cases k3:b.getD (Int.toNat 0) default=0
        · exact ⟨.inr k3,k1⟩
        · rw [decide_eq_false k2,decide_eq_false k3] at hf;simp at hf
    · rw [decide_eq_false k1] at hf;simp [Bool.cond_eq_ite] at hf
  refine ifP_split (fun h => ?_) (fun h5 => ?_)
  · exact unEcho_err (by rw [unEchoErr,if_neg h8,if_neg (fun k=>k hf),if_pos (of_decide_eq_true h)]) (by decide)
  have h5:=of_decide_eq_false h5
  refine ⟨by omega,by omega,by omega,?_⟩
  rintro x w ⟨rfl,rfl⟩
  refine ⟨by simp [setW];omega,?_⟩
  rintro c rfl
  refine ifP_split (fun h => ?_) (fun h => ?_)
  · refine unEcho_err (by rw [unEchoErr,if_neg h8,if_neg (fun k=>k hf),if_neg h5,if_pos];intro k;rw [csum] at k;rw [decide_eq_true k] at h;cases h) (by decide)
  have h0:unEchoErr b=0:=by
    rw [unEchoErr,if_neg h8,if_neg (fun k=>k hf),if_neg h5,if_neg]
    intro k;rw [csum] at k;rw [decide_eq_false k] at h;cases h
  refine ⟨by omega,by omega,by omega,by omega,by omega,by omega,by omega,by omega,by omega,by omega,by omega,by rw [sub_drop,List.length_drop];omega,?_⟩
  rintro y rfl
  rw [unEcho,if_pos h0,h0,sub_drop];exact ⟨rfl,rfl⟩
theorem ok_transport_DecodeEcho:SpecOK Tryz.prog GL 139 ct_transport_DecodeEcho.spec:=Ct.okH _ Tryz.func139 (by kernel_rfl) (withSpec_ok (withSpec_ok (withSpec_ok (withSpec_ok noSpecs_ok (Ct.named ok_transport_bare)) (Ct.named ok_wire_Checksum)) ok_transport_word) (Ct.named ok_slices_Clone_b979)) hmix an_transport_DecodeEcho (hideMp (by kernel_rfl) vc_transport_DecodeEcho)
theorem wordAt_get {b:List Int} {k:Nat} (h:k+2<=b.length):wordAt b k=b.getD k default*256+b.getD (k+1) default:=by
  have h0:k<b.length:=by omega
  have h1:k+1<b.length:=by omega
  have e:b.drop k=b[k]::b[k+1]::b.drop (k+1+1):=by rw [List.drop_eq_getElem_cons h0,List.drop_eq_getElem_cons h1]
  unfold wordAt
  rw [e,List.getD_eq_getElem?_getD,List.getD_eq_getElem?_getD,List.getElem?_eq_getElem h0,List.getElem?_eq_getElem h1]
  generalize b.drop (k+1+1)=r
  generalize b[k]=u
  generalize b[k+1]=v
  simp [numB]
theorem form_d (p r:Prop) [Decidable p] [Decidable r]:(bif !decide p then true else !decide r) = !decide (p/\r):=by
  by_cases p <;> by_cases r <;> simp [*]
def ct_transport_DecodeUDP:Ct:=⟨[.val cU32,.val cU32,.val (.sl cU8)],[.agg cDgram,.val cI],fun d=>[(d.2.2.1.length:Int)<=1000000],fun d=>((unUDP d.1 d.2.1 d.2.2.1,unUDPErr d.1 d.2.1 d.2.2.1,()),())⟩
def an_transport_DecodeUDP:PDs ct_transport_DecodeUDP.ps->Anns:=(fun _=>{})
def Qbh0 (c:List Int) :=
 (c.length:Int)
def Qbh4 :=
 ((0:Int),(0:Int),([]:List Int))
theorem vc_transport_DecodeUDP :
 ∀(a b:Int) (c:List Int),(0<=a/\a<=4294967295)/\(0<=b/\b<=4294967295)/\(c.length<=maxLen/\ ∀(d:Int),d∈c->0<=d/\d<=255)/\True->(Qbh0 c)<=1000000->ifP (decide ((Qbh0 c)<8)) ((Qbh4)=unUDP a b c/\(3:Int)=unUDPErr a b c) ((0:Int)<=4/\(4:Int)+2<=(Qbh0 c)/\(Qbh0 c)<=1099511627776/\ifP (! decide (wordAt c (Int.toNat (4:Int))=(Qbh0 c))) ((Qbh4)=unUDP a b c/\(2:Int)=unUDPErr a b c) (ifP (decide (1480<(Qbh0 c))) ((Qbh4)=unUDP a b c/\(5:Int)=unUDPErr a b c) ((0:Int)<=6/\(6:Int)+2<=(Qbh0 c)/\(Qbh0 c)<=1099511627776/\ ∀(d:List Int) (e:Int),d=setW c (Int.toNat (6:Int)) (0:Int)/\e=wordAt c (Int.toNat (6:Int))->(d.length:Int)<=1073741824/\ ∀(f:Int),f=sumU a b d->ifP (! decide (f=e)) ((Qbh4)=unUDP a b c/\(4:Int)=unUDPErr a b c) ((0:Int)<=0/\(0:Int)+2<=(Qbh0 c)/\(Qbh0 c)<=1099511627776/\(0:Int)<=2/\(2:Int)+2<=(Qbh0 c)/\(Qbh0 c)<=1099511627776/\(0:Int)<=8/\8<=(Qbh0 c)/\(Qbh0 c)<=(Qbh0 c)/\((List.length (subL
 c (Int.toNat (8:Int)) (Int.toNat (Qbh0 c)))):Int)<=1099511627776/\ ∀(g:List Int),g=subL c (Int.toNat (8:Int)) (Int.toNat (Qbh0 c))->(wordAt c (Int.toNat (0:Int)),wordAt c (Int.toNat (2:Int)),g)=unUDP a b c/\(0:Int)=unUDPErr a b c)))):=by
  delta Qbh0 Qbh4
  rintro s d b ⟨-,-,⟨-,hb⟩,-⟩ hl
  refine ifP_split (fun h => ?_) (fun h8 => ?_)
  · exact unUDP_err (by rw [unUDPErr,if_pos (of_decide_eq_true h)]) (by decide)
  have h8:=of_decide_eq_false h8
  repeat refine ⟨by omega,?_⟩
  refine ifP_split (fun h => ?_) (fun hf => ?_)
  · exact unUDP_err (by rw [unUDPErr,if_neg h8,if_pos];simpa using h) (by decide)
  have hf:wordAt b (Int.toNat 4)=b.length:=by simpa using hf
  refine ifP_split (fun h => ?_) (fun h5 => ?_)
  · exact unUDP_err (by rw [unUDPErr,if_neg h8,if_neg (fun k=>k hf),if_pos (of_decide_eq_true h)]) (by decide)
  have h5:=of_decide_eq_false h5
  repeat refine ⟨by omega,?_⟩
  rintro x w ⟨rfl,rfl⟩
  refine ⟨by rw [setW_len];omega,?_⟩
  rintro c rfl
  refine ifP_split (fun h => ?_) (fun h => ?_)
  · refine unUDP_err (by rw [unUDPErr,if_neg h8,if_neg (fun k=>k hf),if_neg h5,if_pos];intro k;rw [decide_eq_true k] at h;cases h) (by decide)
  have h0:unUDPErr s d b=0:=by
    rw [unUDPErr,if_neg h8,if_neg (fun k=>k hf),if_neg h5,if_neg]
    intro k;rw [decide_eq_false k] at h;cases h
  rw [sub_drop]
  repeat refine ⟨by omega,?_⟩
  refine ⟨by rw [List.length_drop];omega,?_⟩
  rintro y rfl
  rw [unUDP,if_pos h0,h0];exact ⟨rfl,rfl⟩
theorem ok_transport_DecodeUDP:SpecOK Tryz.prog GL 189 ct_transport_DecodeUDP.spec:=Ct.okH _ Tryz.func189 (by kernel_rfl) (withSpec_ok (withSpec_ok (withSpec_ok (withSpec_ok noSpecs_ok (Ct.named ok_transport_bare)) (Ct.named ok_transport_sumUDP)) ok_transport_word) (Ct.named ok_slices_Clone_b979)) hmix an_transport_DecodeUDP (hideMp (by kernel_rfl) vc_transport_DecodeUDP)
def ct_transport_DecodeTCP:Ct:=⟨[.val cU32,.val cU32,.val (.sl cU8)],[.agg cSeg,.val cI],fun d=>[(d.2.2.1.length:Int)<=1000000],fun d=>((unTCP d.1 d.2.1 d.2.2.1,unTCPErr d.1 d.2.1 d.2.2.1,()),())⟩
def an_transport_DecodeTCP:PDs ct_transport_DecodeTCP.ps->Anns:=(fun _=>{})
def Qbh1 :=
 ((0:Int),(0:Int),(0:Int),(0:Int),(0:Int),(0:Int),([]:List Int))
theorem vc_transport_DecodeTCP :
 ∀(a b:Int) (c:List Int),(0<=a/\a<=4294967295)/\(0<=b/\b<=4294967295)/\(c.length<=maxLen/\ ∀(d:Int),d∈c->0<=d/\d<=255)/\True->(Qbh0 c)<=1000000->ifP (decide ((Qbh0 c)<20)) ((Qbh1)=unTCP a b c/\(3:Int)=unTCPErr a b c) ((0:Int)<=12/\12<(Qbh0 c)/\ ∀(d:Bool),d= ! decide (c.getD (Int.toNat (12:Int)) default=80)->((! d)->((! d)->(! d))/\(0:Int)<=18/\(18:Int)+2<=(Qbh0 c)/\(Qbh0 c)<=1099511627776/\True)/\((! d)->((! d)->(! d))/\True)/\(d=false->(! d))/\ifP (bif d then true else ! decide (wordAt c (Int.toNat (18:Int))=0)) ((Qbh1)=unTCP a b c/\(2:Int)=unTCPErr a b c) (ifP (decide (1480<(Qbh0 c))) ((Qbh1)=unTCP a b c/\(5:Int)=unTCPErr a b c) ((0:Int)<=16/\(16:Int)+2<=(Qbh0 c)/\(Qbh0 c)<=1099511627776/\ ∀(e:List Int) (f:Int),e=setW c (Int.toNat (16:Int)) (0:Int)/\f=wordAt c (Int.toNat (16:Int))->(e.length:Int)<=1073741824/\ ∀(g:Int),g=pseudo a b (6:Int) e->ifP (! decide (g=f)) ((Qbh1)=unTCP a b
 c/\(4:Int)=unTCPErr a b c) ((0:Int)<=0/\(0:Int)+2<=(Qbh0 c)/\(Qbh0 c)<=1099511627776/\(0:Int)<=2/\(2:Int)+2<=(Qbh0 c)/\(Qbh0 c)<=1099511627776/\(0:Int)<=4/\(4:Int)+2<=(Qbh0 c)/\(Qbh0 c)<=1099511627776/\(0:Int)<=16/\(0:Int)<=6/\(6:Int)+2<=(Qbh0 c)/\(Qbh0 c)<=1099511627776/\(0:Int)<=8/\(8:Int)+2<=(Qbh0 c)/\(Qbh0 c)<=1099511627776/\(0:Int)<=16/\(0:Int)<=10/\(10:Int)+2<=(Qbh0 c)/\(Qbh0 c)<=1099511627776/\(0:Int)<=13/\13<(Qbh0 c)/\(0:Int)<=14/\(14:Int)+2<=(Qbh0 c)/\(Qbh0 c)<=1099511627776/\(0:Int)<=20/\20<=(Qbh0 c)/\(Qbh0 c)<=(Qbh0 c)/\((List.length (subL c (Int.toNat (20:Int)) (Int.toNat (Qbh0 c)))):Int)<=1099511627776/\ ∀(h:List Int),h=subL c (Int.toNat (20:Int)) (Int.toNat (Qbh0 c))->(wordAt c (Int.toNat (0:Int)),wordAt c (Int.toNat (2:Int)),bits BinOp.or IntKind.i64 (shlI IntKind.i64 (wordAt c (Int.toNat (4:Int))) (16:Int)) (wordAt c (Int.toNat (6:Int))),bits BinOp.or IntKind.i64 (shlI
 IntKind.i64 (wordAt c (Int.toNat (8:Int))) (16:Int)) (wordAt c (Int.toNat (10:Int))),IntKind.wrap .i64 (c.getD (Int.toNat (13:Int)) default),wordAt c (Int.toNat (14:Int)),h)=unTCP a b c/\(0:Int)=unTCPErr a b c)))):=by
  delta Qbh0 Qbh1
  rintro s d b ⟨-,-,⟨-,hb⟩,-⟩ hl
  refine ifP_split (fun h => ?_) (fun h8 => ?_)
  · exact unTCP_err (by rw [unTCPErr,if_pos (of_decide_eq_true h)]) (by decide)
  have h8:=of_decide_eq_false h8
  refine ⟨by omega,by omega,?_⟩
  (repeat (intro (b_:Bool) (hb_:b_=_);(repeat refine ⟨(by first|(simp;done)|(rw [hb_];simp;done)|(rw [hb_];simp;omega)|(rw [hb_];simp;intros;omega)|(rw [hb_];simp +contextual;done)),?_⟩);subst hb_))
  rw [show (bif !decide (b.getD (Int.toNat 12) default=80) then true else !decide (wordAt b (Int.toNat 18)=0)) = !decide (tcpForm b) from (form_d _ _).trans (congrArg (fun x => !x) (decide_eq_decide.2 Iff.rfl))]
  refine ifP_split (fun h => ?_) (fun hf => ?_)
  · exact unTCP_err (by rw [unTCPErr,if_neg h8,if_pos];simpa using h) (by decide)
  have hf:tcpForm b:=by simpa using hf
  refine ifP_split (fun h => ?_) (fun h5 => ?_)
  · exact unTCP_err (by rw [unTCPErr,if_neg h8,if_neg (fun k=>k hf),if_pos (of_decide_eq_true h)]) (by decide)
  have h5:=of_decide_eq_false h5
  repeat refine ⟨by omega,?_⟩
  rintro x w ⟨rfl,rfl⟩
  refine ⟨by rw [setW_len];omega,?_⟩
  rintro c rfl
  refine ifP_split (fun h => ?_) (fun h => ?_)
  · exact unTCP_err (by rw [unTCPErr,if_neg h8,if_neg (fun k=>k hf),if_neg h5,if_pos];intro k;rw [decide_eq_true k] at h;cases h) (by decide)
  have h0:unTCPErr s d b=0:=by
    rw [unTCPErr,if_neg h8,if_neg (fun k=>k hf),if_neg h5,if_neg]
    intro k;rw [decide_eq_false k] at h;cases h
  rw [sub_drop]
  repeat refine ⟨by omega,?_⟩
  refine ⟨by rw [List.length_drop];omega,?_⟩
  rintro y rfl
  have g:=hb _ (getD_mem (xs:=b) (i:=13) (by omega) (by omega))
  have v4:=wordAt_range (k:=Int.toNat 4) hb
  have v6:=wordAt_range (k:=Int.toNat 6) hb
  have v8:=wordAt_range (k:=Int.toNat 8) hb
  have v10:=wordAt_range (k:=Int.toNat 10) hb
  rw [unTCP,if_pos h0,h0,w64 (by omega) (by omega),or16 v4.1 v4.2 v6.1 v6.2,or16 v8.1 v8.2 v10.1 v10.2];exact ⟨rfl,rfl⟩
theorem ok_transport_DecodeTCP:SpecOK Tryz.prog GL 143 ct_transport_DecodeTCP.spec:=Ct.okH _ Tryz.func143 (by kernel_rfl) (withSpec_ok (withSpec_ok (withSpec_ok (withSpec_ok noSpecs_ok (Ct.named ok_transport_bare)) (Ct.named ok_transport_Pseudo)) ok_transport_word) (Ct.named ok_slices_Clone_b979)) hmix an_transport_DecodeTCP (hideMp (by kernel_rfl) vc_transport_DecodeTCP)
end Go.RS

/- Trback: messages are decoded from their encodings; what damage does. -/
namespace Go.RS
open Go.SX Go.Proofs
set_option maxRecDepth 100000
set_option linter.unusedVariables false
def okEcho (data:List Int) (e:Echo):Prop:=(word16 e.2.1=true/\word16 e.2.2.1=true)/\e.2.2.2=data
def okDgram (data:List Int) (u:Dgram):Prop:=(word16 u.1=true/\word16 u.2.1=true)/\u.2.2=data
def okSeg (data:List Int) (s:Seg):Prop:=tcpOK s/\s.2.2.2.2.2.2=data
theorem echo_good {data:List Int} {e:Echo} (h:okEcho data e) (hl:(data.length:Int)<=1472):echoErr e=0:=by
  rw [echoErr,if_neg (fun k=>k h.1),if_neg (by rw [h.2];omega)]
theorem udp_good {data:List Int} {u:Dgram} (h:okDgram data u) (hl:(data.length:Int)<=1472):udpErr u=0:=by
  rw [udpErr,if_neg (fun k=>k h.1),if_neg (by rw [h.2];omega)]
theorem tcp_good {data:List Int} {s:Seg} (h:okSeg data s) (hl:(data.length:Int)<=1460):tcpErr s=0:=by
  rw [tcpErr,if_neg (fun k=>k h.1),if_neg (by rw [h.2];omega)]
def headP (s d p n:Int):List Int:=w4 s++(w4 d++(w2 p++w2 n))
theorem pseudo_sum (s d p:Int) (X:List Int):sumF true (pseudoB s d p X)=sumF true (headP s d p X.length)+sumF true X:=by
  have e:pseudoB s d p X=headP s d p X.length++X:=by simp [pseudoB,headP]
  have hl:(headP s d p X.length).length=12:=by simp [headP,w4,w2]
  rw [e,sumF_append,hl];rfl
theorem head_sum (s d p n:Int):sumF true (headP s d p n)=sumF true (w4 s)+sumF true (w4 d)+sumF true (w2 p)+sumF true (w2 n):=by
  have h4:∀ n r,sumF true (w4 n++r)=sumF true (w4 n)+sumF true r:=fun n r=>by rw [sumF_append,show (w4 n).length=4 from rfl];rfl
  have h2:∀ n r,sumF true (w2 n++r)=sumF true (w2 n)+sumF true r:=fun n r=>by rw [sumF_append,show (w2 n).length=2 from rfl];rfl
  rw [headP,h4,h4,h2]
  omega
theorem enc_len (e:Echo):((echoEnc e).length:Int)<=1480:=by
  unfold echoEnc
  split
  · rename_i h
    rw [setW_len,echo_len]
    unfold echoErr at h
    split at h
    · cases h
    · split at h
      · cases h
      · omega
  · simp
theorem notice_enc_len (e:Notice):((noticeEnc e).length:Int)<=1480:=by
  unfold noticeEnc
  split
  · rename_i h
    rw [setW_len,notice_len]
    unfold noticeErr at h
    split at h
    · cases h
    · split at h
      · cases h
      · split at h
        · cases h
        · omega
  · simp
theorem tcp_enc_len (s d:Int) (e:Seg):((tcpEnc s d e).length:Int)<=1480:=by
  unfold tcpEnc
  split
  · rename_i h
    rw [setW_len,tcp_len]
    unfold tcpErr at h
    split at h
    · cases h
    · split at h
      · cases h
      · omega
  · simp
theorem getD_same {l:List Int} {i:Nat} {v:Int} (h:i<l.length):(l.set i v).getD i default=v:=by
  rw [List.getD_eq_getElem?_getD,List.getElem?_set_self h,Option.getD_some]
theorem getD_ne {l:List Int} {i j:Nat} {v:Int} (h:i≠j):(l.set i v).getD j default=l.getD j default:=by
  rw [List.getD_eq_getElem?_getD,List.getElem?_set_ne h,← List.getD_eq_getElem?_getD]
theorem head_nonneg (s d p n:Int):p%256<=sumF true (headP s d p n):=by
  rw [head_sum];simp [sumF,w4,w2];omega
end Go.RS

/- Ipv4: packets without options. -/
namespace Go.RS
open Go.SX Go.Proofs
set_option maxRecDepth 100000
set_option linter.unusedVariables false
abbrev cHeader:CT := .pair cI (.pair cI (.pair cI (.pair cI (.pair .bool (.pair cU32 cU32)))))
abbrev cPacket:CT := .pair cHeader (.sl cU8)
abbrev Header:Type:=Int×Int×Int×Int×Bool×Int×Int
abbrev Packet:Type:=Header×List Int
def in8 (n:Int):Prop:=0<=n/\n<=255
instance (n:Int):Decidable (in8 n):=by unfold in8;infer_instance
def hdrOK (h:Header):Prop:=in8 h.1/\in8 h.2.2.1/\in8 h.2.2.2.1/\0<=h.2.1/\h.2.1<=65535
instance (h:Header):Decidable (hdrOK h):=by unfold hdrOK;infer_instance
def hdrErr (h:Header):Int:=if hdrOK h then 0 else 1
def hdrHead (h:Header) (n:Int):List Int:=[69,h.1]++(w2 n++(w2 h.2.1++(w2 (if h.2.2.2.2.1 then 16384 else 0)++[h.2.2.1,h.2.2.2.1])))
def hdrTail (h:Header):List Int:=w4 h.2.2.2.2.2.1++w4 h.2.2.2.2.2.2
def hdrBody (h:Header) (n:Int):List Int:=hdrHead h n++([0,0]++hdrTail h)
def hdrB (h:Header) (n:Int):List Int:=setW (hdrBody h n) 10 (csum (hdrBody h n))
def ipErr (p:Packet):Int:=if ¬ hdrOK p.1 then 1 else if (1480:Int)<p.2.length then 5 else 0
def ipEnc (p:Packet):List Int:=if ipErr p=0 then hdrB p.1 (20+p.2.length)++p.2 else []
def pkErr (b:List Int):Int :=
  if (b.length:Int)<20 then 3 else if ¬ (b.getD 0 default=69/\(wordAt b 6=0∨wordAt b 6=16384)/\20<=wordAt b 2) then 2
  else if csum (setW (b.take 20) 10 0)≠wordAt b 10 then 4 else 0
def hdr0:Header:=(0,0,0,0,false,0,0)
def pkHdrF (b:List Int):Header:=(b.getD 1 default,wordAt b 4,b.getD 8 default,b.getD 9 default,decide (wordAt b 6=16384),numB ((b.drop 12).take 4),numB ((b.drop 16).take 4))
def pkHdr (b:List Int):Header:=if pkErr b=0 then pkHdrF b else hdr0
def pkLen (b:List Int):Int:=if pkErr b=0 then wordAt b 2 else 0
def decErr (b:List Int):Int:=if pkErr b≠0 then pkErr b else if wordAt b 2≠b.length then 2 else if 1500<wordAt b 2 then 5 else 0
def decPkt (b:List Int):Packet:=if decErr b=0 then (pkHdrF b,b.drop 20) else (hdr0,[])
def lowHdr (h:Header):Header:=(h.1,h.2.1,h.2.2.1-1,h.2.2.2)
def lowErr (b:List Int):Int:=if decErr b≠0 then decErr b else if (pkHdrF b).2.2.1<2 then 7 else 0
def lowB (b:List Int):List Int:=if lowErr b=0 then ipEnc (lowHdr (pkHdrF b),b.drop 20) else []
theorem hdrBody_len (h:Header) (n:Int):(hdrBody h n).length=20:=rfl
theorem hdrB_len (h:Header) (n:Int):(hdrB h n).length=20:=by unfold hdrB;rw [setW_len];rfl
theorem hdr_bytes {h:Header} {n:Int} (hk:hdrOK h):bytes (hdrBody h n):=by
  obtain ⟨h1,h2,h3,-⟩:=hk
  exact bytes_app (bytes_app (bytes_cons (by omega) (by omega) (bytes_cons h1.1 h1.2 bytes_nil)) (bytes_app (bytes_w2 _) (bytes_app (bytes_w2 _) (bytes_app (bytes_w2 _) (bytes_cons h2.1 h2.2 (bytes_cons h3.1 h3.2 bytes_nil))))))
    (bytes_app (bytes_cons (by omega) (by omega) (bytes_cons (by omega) (by omega) bytes_nil)) (bytes_app (bytes_w4 _) (bytes_w4 _)))
theorem numB1 (a:Int):numB [a]=a:=by simp [numB]
theorem getV_in {b:List Int} {a w:Int} (h1:1<=w) (h2:w<=7) (h3:0<=a) (h4:a+w<=b.length):getV b a w=numB ((b.drop a.toNat).take w.toNat):=by
  rw [getV,if_neg (by omega)]
theorem drop_take1 {b:List Int} {i:Nat} (h:i<b.length):(b.drop i).take 1=[b.getD i default]:=by
  rw [List.drop_eq_getElem_cons h,List.getD_eq_getElem?_getD,List.getElem?_eq_getElem h];rfl
theorem gV1 {b:List Int} {a:Int} (h3:0<=a) (h4:a+1<=b.length):getV b a 1=b.getD a.toNat default:=by
  rw [getV_in (by omega) (by omega) h3 h4,show (1:Int).toNat=1 from rfl,drop_take1 (by omega),numB1]
theorem gV2 {b:List Int} {a:Int} (h3:0<=a) (h4:a+2<=b.length):getV b a 2=wordAt b a.toNat:=by
  rw [getV_in (by omega) (by omega) h3 h4];rfl
theorem gV4 {b:List Int} {a:Int} (h3:0<=a) (h4:a+4<=b.length):getV b a 4=numB ((b.drop a.toNat).take 4):=by
  rw [getV_in (by omega) (by omega) h3 h4];rfl
theorem take_get {b:List Int} {n i:Nat} (h:i<n):(b.take n).getD i default=b.getD i default:=by
  rw [List.getD_eq_getElem?_getD,List.getElem?_take,if_pos h,← List.getD_eq_getElem?_getD]
theorem take_drop_take {b:List Int} {n i k:Nat} (h:i+k<=n):((b.take n).drop i).take k=(b.drop i).take k:=by
  rw [List.drop_take,List.take_take,Nat.min_eq_left (by omega)]
theorem take_word {b:List Int} {n i:Nat} (h:i+2<=n):wordAt (b.take n) i=wordAt b i:=by
  unfold wordAt;rw [take_drop_take h]
theorem bytes_drop {b:List Int} {n:Nat} (h:bytes b):bytes (b.drop n):=fun x hx=>h x (List.mem_of_mem_drop hx)
theorem bytes_get {b:List Int} (h:bytes b) {i:Nat} (hi:i<b.length):0<=b.getD i default/\b.getD i default<=255:=by
  have:=getD_mem (xs:=b) (i:=(i:Int)) (by omega) (by omega)
  exact h _ this
theorem bytes_word {b:List Int} (h:bytes b) (i:Nat):0<=wordAt b i/\wordAt b i<=65535:=by
  have:=numB_bound 2 ((b.drop i).take 2) (by rw [List.length_take];omega) (fun x hx=>h x (List.mem_of_mem_drop (List.mem_of_mem_take hx)))
  have e:(256:Int)^2=65536:=rfl
  unfold wordAt;omega
theorem bytes_num4 {b:List Int} (h:bytes b) (i:Nat):0<=numB ((b.drop i).take 4)/\numB ((b.drop i).take 4)<=4294967295:=by
  have:=numB_bound 4 ((b.drop i).take 4) (by rw [List.length_take];omega) (fun x hx=>h x (List.mem_of_mem_drop (List.mem_of_mem_take hx)))
  have e:(256:Int)^4=4294967296:=rfl
  omega
def cutP (k:Nat):Nat:=[0,1,2,4,6,8,9,10,12,16,20].getD k 20
theorem hdr_step {h:Header} {n f k:Int} (hok:hdrOK h) (n0:0<=n) (n1:n<=65535) (s0:0<=h.2.2.2.2.2.1/\h.2.2.2.2.2.1<=4294967295) (d0:0<=h.2.2.2.2.2.2/\h.2.2.2.2.2.2<=4294967295) (hf:f=if h.2.2.2.2.1 then 16384 else 0) (k0:0<=k) (k1:k<10) :
    putB ((hdrBody h n).take (cutP k.toNat)) (pickI [69,h.1,n,h.2.1,f,h.2.2.1,h.2.2.2.1,0,h.2.2.2.2.2.1,h.2.2.2.2.2.2] k.toNat) (pickI [1,1,2,2,2,1,1,2,4,4] k.toNat)=(hdrBody h n).take (cutP (k+1).toNat):=by
  obtain ⟨h1,h2,h3,h4,h5⟩:=hok
  have hf0:0<=f/\f<=65535:=by rw [hf];split <;> omega
  have:k=0∨k=1∨k=2∨k=3∨k=4∨k=5∨k=6∨k=7∨k=8∨k=9:=by omega
  rcases this with rfl|rfl|rfl|rfl|rfl|rfl|rfl|rfl|rfl|rfl
  · exact putB_1 (b:=[]) (n:=69) (by omega) (by omega)
  · exact putB_1 (b:=[69]) h1.1 h1.2
  · exact putB_2 (b:=[69,h.1]) n0 n1
  · exact putB_2 (b:=[69,h.1]++w2 n) h4 h5
  · have:=putB_2 (b:=[69,h.1]++(w2 n++w2 h.2.1)) hf0.1 hf0.2
    rw [hf] at this ⊢;exact this
  · exact putB_1 (b:=(hdrBody h n).take 8) h2.1 h2.2
  · exact putB_1 (b:=(hdrBody h n).take 9) h3.1 h3.2
  · exact putB_2 (b:=(hdrBody h n).take 10) (n:=0) (by omega) (by omega)
  · exact putB_4 (b:=(hdrBody h n).take 12) s0.1 s0.2
  · exact putB_4 (b:=(hdrBody h n).take 16) d0.1 d0.2
theorem pk_long {b:List Int} (h:pkErr b=0):20<=b.length:=by
  unfold pkErr at h
  split at h
  · cases h
  · omega
theorem dec_pk {b:List Int} (h:decErr b=0):pkErr b=0:=by
  unfold decErr at h
  split at h
  · rename_i k;exact absurd h k
  · rename_i k;exact Decidable.not_not.1 k
theorem dec_len {b:List Int} (h:decErr b=0):(b.length:Int)<=1500/\wordAt b 2=b.length:=by
  unfold decErr at h
  split at h
  · rename_i k;exact absurd h k
  · split at h
    · cases h
    · split at h
      · cases h
      · omega
theorem dec_ok {b:List Int} (hb:bytes b) (h:pkErr b=0):hdrOK (pkHdrF b):=by
  have hl:=pk_long h
  exact ⟨bytes_get hb (by omega),bytes_get hb (by omega),bytes_get hb (by omega),bytes_word hb 4⟩
theorem low_ok {b:List Int} (hb:bytes b) (h:decErr b=0) (h2:¬ (pkHdrF b).2.2.1<2):hdrOK (lowHdr (pkHdrF b)):=by
  obtain ⟨k1,k2,k3,k4⟩:=dec_ok hb (dec_pk h)
  refine ⟨k1,?_,k3,k4⟩
  obtain ⟨k5,k6⟩:=k2
  show 0<=(pkHdrF b).2.2.1-1/\(pkHdrF b).2.2.1-1<=255
  omega
def ct_ipv4_Check_1:Ct:=⟨[.val cI],[.val .bool],fun d=>[],fun d=>((decide (in8 d.1),()),())⟩
def an_ipv4_Check_1:PDs ct_ipv4_Check_1.ps->Anns:=(fun _=>{})
theorem vc_ipv4_Check_1 :
 ∀(a:Int),R64 a/\True->True-> ∀(b:Bool),b=decide (0<=a)->(b->(b->b)/\True)/\(b->b)/\(bif b then decide (a<256) else false)=decide (in8 a):=by
  rintro n - -
  (repeat (intro (b_:Bool) (hb_:b_=_);(repeat refine ⟨(by first|(simp;done)|(rw [hb_];simp;done)|(rw [hb_];simp;omega)|(rw [hb_];simp;intros;omega)|(rw [hb_];simp +contextual;done)),?_⟩);subst hb_))
  unfold in8
  by_cases h:0<=n <;> simp [h] <;> omega
theorem ok_ipv4_Check_1:SpecOK Tryz.prog GL 172 ct_ipv4_Check_1.spec:=Ct.okH _ Tryz.func172 (by kernel_rfl) noSpecs_ok hmix an_ipv4_Check_1 (hideMp (by kernel_rfl) vc_ipv4_Check_1)
def ct_ipv4_Check:Ct:=⟨[.agg cHeader],[.val cI],fun d=>[],fun d=>((hdrErr d.1,()),())⟩
def an_ipv4_Check:PDs ct_ipv4_Check.ps->Anns:=(fun _=>{})
theorem vc_ipv4_Check :
 ∀(a:Header),CT.wf cHeader a/\True->True-> ∀(b:Bool),b= ! decide (in8 a.1)->((! b)->((! b)->(! b))/\True)/\((! b)->((! b)->(! b))/\((! b)->(! b))/\True)/\((! b)->((! b)->(! b))/\True)/\(b=false->(! b))/\ ∀(c:Bool),(c=bif b then true else ! decide (in8 a.2.2.1))->((! c)->((! c)->(! c))/\True)/\((! c)->((! c)->(! c))/\((! c)->(! c))/\True)/\((! c)->((! c)->(! c))/\True)/\(c=false->(! c))/\ ∀(d:Bool),(d=bif c then true else ! decide (in8 a.2.2.2.1))->((! d)->((! d)->(! d))/\True)/\((! d)->((! d)->(! d))/\True)/\(d=false->(! d))/\ ∀(e:Bool),(e=bif d then true else decide (a.2.1<0))->((! e)->((! e)->(! e))/\True)/\((! e)->((! e)->(! e))/\True)/\(e=false->(! e))/\ifP (bif e then true else decide (65536<=a.2.1)) ((1:Int)=hdrErr a) ((0:Int)=hdrErr a):=by
  rintro h - -
  (repeat (intro (b_:Bool) (hb_:b_=_);(repeat refine ⟨(by first|(simp;done)|(rw [hb_];simp;done)|(rw [hb_];simp;omega)|(rw [hb_];simp;intros;omega)|(rw [hb_];simp +contextual;done)),?_⟩);subst hb_))
  refine ifP_split (fun hc => ?_) (fun hc => ?_)
  · rw [hdrErr,if_neg]
    intro k;obtain ⟨k1,k2,k3,k4,k5⟩:=k
    simp [k1,k2,k3,Bool.cond_eq_ite] at hc;omega
  · rw [hdrErr,if_pos]
    simp [Bool.cond_eq_ite] at hc
    exact ⟨hc.1.1.1.1,hc.1.1.1.2,hc.1.1.2,by omega,by omega⟩
theorem ok_ipv4_Check:SpecOK Tryz.prog GL 131 ct_ipv4_Check.spec:=Ct.okH _ Tryz.func131 (by kernel_rfl) (withSpec_ok noSpecs_ok ok_ipv4_Check_1) hmix an_ipv4_Check (hideMp (by kernel_rfl) vc_ipv4_Check)
def ct_ipv4_Encode:Ct:=⟨[.agg cPacket],[.own 5 cU8,.val cI],fun d=>[(d.1.2.length:Int)<=1073741824],fun d=>((ipEnc d.1,ipErr d.1,()),())⟩
def an_ipv4_Encode:PDs ct_ipv4_Encode.ps->Anns:=(fun d=>{loops:=(fun n=>match n with|12=>some (fun S=>{ι:=Int×(List Int),qn:=⟨fun k_=>∀ (k:Int) (ys:(List Int)),k_ (k,ys),fun k_ h_ i=>h_ i.1 i.2,fun k_=>∃ (k:Int) (ys:(List Int)),k_ (k,ys),fun k_ ⟨k,ys,h_⟩=>⟨_,h_⟩⟩,μ:=fun i=>(10-i.1).toNat,inv:=fun i=>0<=i.1/\i.1<=10/\i.2=(hdrBody d.1.1 (20+d.1.2.length)).take (cutP i.1.toNat),keep:=[1,4,53],slots:=fun i=>[(7,.own 524288 1),(54,.int .i64 i.1)],keepN:=[32,80],names:=fun i=>[(524288,.live (.row 5 cU8 i.2))]})|_=>none)})
def Qbj1 (a:(Int×Int×Int×Int×Bool×Int×Int)×List Int) (b:Int) (c:List Int) :=
 (2:Int)=2/\a.1.2.2.1=a.1.2.2.1/\(1:Int)=1/\a.1.2.2.2.1=a.1.2.2.2.1/\(1:Int)=1/\(0:Int)=0/\(2:Int)=2/\IntKind.wrap .i64 a.1.2.2.2.2.2.1=IntKind.wrap .i64 a.1.2.2.2.2.2.1/\(4:Int)=4/\IntKind.wrap .i64 a.1.2.2.2.2.2.2=IntKind.wrap .i64 a.1.2.2.2.2.2.2/\(4:Int)=4/\(0:Int)=b/\a.1.1=a.1.1/\a.1.2.1=a.1.2.1/\a.1.2.2.1=a.1.2.2.1/\a.1.2.2.2.1=a.1.2.2.2.1/\a.1.2.2.2.2.1=a.1.2.2.2.2.1/\a.1.2.2.2.2.2.1=a.1.2.2.2.2.2.1/\a.1.2.2.2.2.2.2=a.1.2.2.2.2.2.2/\a.2=a.2/\a.1.1=a.1.1/\a.1.2.1=a.1.2.1/\a.1.2.2.1=a.1.2.2.1/\a.1.2.2.2.1=a.1.2.2.2.1/\a.1.2.2.2.2.1=a.1.2.2.2.2.1/\a.1.2.2.2.2.2.1=a.1.2.2.2.2.2.1/\a.1.2.2.2.2.2.2=a.1.2.2.2.2.2.2/\c=([]:List Int)/\True
def Qbj2 (a:(Int×Int×Int×Int×Bool×Int×Int)×List Int) (b:Int) (d:List Int) (f:Int) (g:List Int) :=
 (2:Int)=2/\a.1.2.2.1=a.1.2.2.1/\(1:Int)=1/\a.1.2.2.2.1=a.1.2.2.2.1/\(1:Int)=1/\(0:Int)=0/\(2:Int)=2/\IntKind.wrap .i64 a.1.2.2.2.2.2.1=IntKind.wrap .i64 a.1.2.2.2.2.2.1/\(4:Int)=4/\IntKind.wrap .i64 a.1.2.2.2.2.2.2=IntKind.wrap .i64 a.1.2.2.2.2.2.2/\(4:Int)=4/\IntKind.wrap .i64 (b+(1:Int))=f/\a.1.1=a.1.1/\a.1.2.1=a.1.2.1/\a.1.2.2.1=a.1.2.2.1/\a.1.2.2.2.1=a.1.2.2.2.1/\a.1.2.2.2.2.1=a.1.2.2.2.2.1/\a.1.2.2.2.2.2.1=a.1.2.2.2.2.2.1/\a.1.2.2.2.2.2.2=a.1.2.2.2.2.2.2/\a.2=a.2/\a.1.1=a.1.1/\a.1.2.1=a.1.2.1/\a.1.2.2.1=a.1.2.2.1/\a.1.2.2.2.1=a.1.2.2.2.1/\a.1.2.2.2.2.1=a.1.2.2.2.2.1/\a.1.2.2.2.2.2.1=a.1.2.2.2.2.2.1/\a.1.2.2.2.2.2.2=a.1.2.2.2.2.2.2/\d=g/\True
def Qbj7 (c:List Int) (d:Int) :=
 List.set c (Int.toNat (10:Int)) (IntKind.wrap .u8 (shrI IntKind.i64 d (8:Int)))
def Qbj3 (a:(Int×Int×Int×Int×Bool×Int×Int)×List Int) (c:List Int) :=
 (c.length:Int)<=1099511627776/\ ∀(d:Int),d=65535 -oc (sumF true c)->(0:Int)<=8/\(0:Int)<=10/\10<(c.length:Int)/\(0:Int)<=11/\11<((List.length (Qbj7 c d)):Int)/\(List.length (List.set (Qbj7 c d) (Int.toNat (11:Int)) (IntKind.wrap .u8 d))+a.2.length)*(1:Nat)<=(140737488355328:Nat)/\List.set (Qbj7 c d) (Int.toNat (11:Int)) (IntKind.wrap .u8 d)++a.2=ipEnc a/\(0:Int)=ipErr a
def Qbj4 (a:(Int×Int×Int×Int×Bool×Int×Int)×List Int) :=
 (20:Int)+(a.2.length:Int)
def Qbj5 (b:Int) :=
 pickI [(1:Int),(1:Int),(2:Int),(2:Int),(2:Int),(1:Int),(1:Int),(2:Int),(4:Int),(4:Int)] b.toNat
def Qbj8 (a:(Int×Int×Int×Int×Bool×Int×Int)×List Int) (b:Int) :=
 pickI [(69:Int),a.1.1,IntKind.wrap .i64 (Qbj4 a),a.1.2.1,(16384:Int),a.1.2.2.1,a.1.2.2.2.1,(0:Int),IntKind.wrap .i64 a.1.2.2.2.2.2.1,IntKind.wrap .i64 a.1.2.2.2.2.2.2] b.toNat
def Qbj9 (a:(Int×Int×Int×Int×Bool×Int×Int)×List Int) (b:Int) :=
 pickI [(69:Int),a.1.1,IntKind.wrap .i64 (Qbj4 a),a.1.2.1,(0:Int),a.1.2.2.1,a.1.2.2.2.1,(0:Int),IntKind.wrap .i64 a.1.2.2.2.2.2.1,IntKind.wrap .i64 a.1.2.2.2.2.2.2] b.toNat
theorem vc_ipv4_Encode :
 ∀(a:(Int×Int×Int×Int×Bool×Int×Int)×List Int),CT.wf cPacket a/\True->(a.2.length:Int)<=1073741824->ifP (! decide (hdrErr a.1=0)) (([]:List Int)=ipEnc a/\hdrErr a.1=ipErr a) (ifP (decide (1480<(a.2.length:Int))) (([]:List Int)=ipEnc a/\(5:Int)=ipErr a) (ifP a.1.2.2.2.2.1 ((∃(b:Int) (c:List Int),(0<=b/\b<=10/\c=List.take (cutP b.toNat) (hdrBody a.1 (Qbj4 a)))/\(69:Int)=69/\(1:Int)=1/\a.1.1=a.1.1/\(1:Int)=1/\IntKind.wrap .i64 (Qbj4 a)=IntKind.wrap .i64 (Qbj4 a)/\(2:Int)=2/\a.1.2.1=a.1.2.1/\(2:Int)=2/\(16384:Int)=16384/\(Qbj1 a b c))/\ ∀(b:Int) (c:List Int),0<=b/\b<=10/\c=List.take (cutP b.toNat) (hdrBody a.1 (Qbj4 a))->ifP (decide (b<10)) (0<=b/\b<(↑(10:Nat):Int)/\(c.length:Int)<=1099511627776/\ ∀(d:List Int) (e:Int),d=putB c (Qbj8 a b) (Qbj5 b)/\e=putE (Qbj8 a b) (Qbj5 b)-> ∃(f:Int) (g:List Int),(0<=f/\f<=10/\g=List.take (cutP f.toNat) (hdrBody a.1 (Qbj4 a)))/\Int.toNat ((10:Int)
 -f)<Int.toNat ((10:Int) -b)/\(69:Int)=69/\(1:Int)=1/\a.1.1=a.1.1/\(1:Int)=1/\IntKind.wrap .i64 (Qbj4 a)=IntKind.wrap .i64 (Qbj4 a)/\(2:Int)=2/\a.1.2.1=a.1.2.1/\(2:Int)=2/\(16384:Int)=16384/\(Qbj2 a b d f g)) (Qbj3 a c)) ((∃(b:Int) (c:List Int),(0<=b/\b<=10/\c=List.take (cutP b.toNat) (hdrBody a.1 (Qbj4 a)))/\(69:Int)=69/\(1:Int)=1/\a.1.1=a.1.1/\(1:Int)=1/\IntKind.wrap .i64 (Qbj4 a)=IntKind.wrap .i64 (Qbj4 a)/\(2:Int)=2/\a.1.2.1=a.1.2.1/\(2:Int)=2/\(0:Int)=0/\(Qbj1 a b c))/\ ∀(b:Int) (c:List Int),0<=b/\b<=10/\c=List.take (cutP b.toNat) (hdrBody a.1 (Qbj4 a))->ifP (decide (b<10)) (0<=b/\b<(↑(10:Nat):Int)/\(c.length:Int)<=1099511627776/\ ∀(d:List Int) (e:Int),d=putB c (Qbj9 a b) (Qbj5 b)/\e=putE (Qbj9 a b) (Qbj5 b)-> ∃(f:Int) (g:List Int),(0<=f/\f<=10/\g=List.take (cutP f.toNat) (hdrBody a.1 (Qbj4 a)))/\Int.toNat ((10:Int) -f)<Int.toNat ((10:Int)
 -b)/\(69:Int)=69/\(1:Int)=1/\a.1.1=a.1.1/\(1:Int)=1/\IntKind.wrap .i64 (Qbj4 a)=IntKind.wrap .i64 (Qbj4 a)/\(2:Int)=2/\a.1.2.1=a.1.2.1/\(2:Int)=2/\(0:Int)=0/\(Qbj2 a b d f g)) (Qbj3 a c)))):=by
  delta Qbj1 Qbj2 Qbj3 Qbj4 Qbj5 Qbj7 Qbj8 Qbj9
  rintro d ⟨⟨hw,-⟩,-⟩ hl
  obtain ⟨-,-,-,-,-,s0,d0⟩:=hw
  have s0:0<=d.1.2.2.2.2.2.1/\d.1.2.2.2.2.2.1<=4294967295:=s0
  have d0:0<=d.1.2.2.2.2.2.2/\d.1.2.2.2.2.2.2<=4294967295:=d0
  refine ifP_split (fun hc => ?_) (fun hc => ?_)
  · have hn:¬ hdrOK d.1:=fun k=>by rw [hdrErr,if_pos k] at hc;cases hc
    have he:ipErr d=1:=by rw [ipErr,if_pos hn]
    rw [ipEnc,he,hdrErr,if_neg hn];exact ⟨rfl,rfl⟩
  have hok:hdrOK d.1:=Classical.byContradiction fun k=>by rw [hdrErr,if_neg k] at hc;cases hc
  refine ifP_split (fun h5 => ?_) (fun h5 => ?_)
  · have h5:=of_decide_eq_true h5
    have he:ipErr d=5:=by rw [ipErr,if_neg (fun k=>k hok),if_pos h5]
    rw [ipEnc,he];exact ⟨rfl,rfl⟩
  have h5:=of_decide_eq_false h5
  have he:ipErr d=0:=by rw [ipErr,if_neg (fun k=>k hok),if_neg h5]
  have e20:IntKind.wrap .i64 (20+(d.2.length:Int))=20+d.2.length:=w64 (by omega) (by omega)
  have es:IntKind.wrap .i64 d.1.2.2.2.2.2.1=d.1.2.2.2.2.2.1:=w64 (by have:=s0.1;omega) (by have:=s0.2;omega)
  have ed:IntKind.wrap .i64 d.1.2.2.2.2.2.2=d.1.2.2.2.2.2.2:=w64 (by have:=d0.1;omega) (by have:=d0.2;omega)
  have hc:=csum_range (hdr_bytes (n:=20+d.2.length) hok)
  have hbl:=hdrBody_len d.1 (20+d.2.length)
  have step:=fun f hf k=>hdr_step (h:=d.1) (n:=20+d.2.length) (f:=f) (k:=k) hok (by omega) (by omega) s0 d0 hf
  have fin:∀ ys,ys=hdrBody d.1 (20+d.2.length)->(List.set (List.set ys (Int.toNat 10) (IntKind.wrap .u8 (shrI .i64 (65535-oc (sumF true ys)) 8))) (Int.toNat 11) (IntKind.wrap .u8 (65535-oc (sumF true ys)))++d.2=ipEnc d/\(0:Int)=ipErr d):=by
    rintro ys rfl
    have hc:0<=65535-oc (sumF true (hdrBody d.1 (20+d.2.length))):=hc.1
    rw [shr8 hc,IntKind.wrap_u8',IntKind.wrap_u8',ipEnc,he,if_pos rfl]
    exact ⟨rfl,rfl⟩
  rw [e20,es,ed]
  refine ifP_split (fun hk => ?_) (fun hk => ?_)
  · refine ⟨⟨0,[],⟨by omega,by omega,rfl⟩,(by repeat' first|exact trivial|refine ⟨trivial,?_⟩|refine ⟨(by with_reducible rfl),?_⟩|refine ⟨w64 (by omega) (by omega),?_⟩|refine ⟨rfl,?_⟩)⟩,?_⟩
    rintro k ys ⟨k0,k1,rfl⟩
    refine ifP_split (fun h => ?_) (fun h => ?_)
    · have h:=of_decide_eq_true h
      have st:=step 16384 (by rw [hk];rfl) k k0 h
      refine ⟨k0,h,by rw [List.length_take];omega,?_⟩
      rintro y _ ⟨rfl,-⟩
      exact ⟨k+1,_,⟨by omega,by omega,st⟩,by omega,(by repeat' first|exact trivial|refine ⟨trivial,?_⟩|refine ⟨(by with_reducible rfl),?_⟩|refine ⟨w64 (by omega) (by omega),?_⟩|refine ⟨rfl,?_⟩)⟩
    · have h:=of_decide_eq_false h
      have e10:k=10:=by omega
      subst e10
      have et:(hdrBody d.1 (20+d.2.length)).take (cutP (Int.toNat 10))=hdrBody d.1 (20+d.2.length):=List.take_of_length_le (by rw [hbl];decide)
      rw [et]
      refine ⟨by omega,?_⟩
      rintro c rfl
      refine ⟨by omega,by omega,by omega,by omega,by rw [List.length_set];omega,by rw [List.length_set,List.length_set];omega,fin _ rfl⟩
  · refine ⟨⟨0,[],⟨by omega,by omega,rfl⟩,(by repeat' first|exact trivial|refine ⟨trivial,?_⟩|refine ⟨(by with_reducible rfl),?_⟩|refine ⟨w64 (by omega) (by omega),?_⟩|refine ⟨rfl,?_⟩)⟩,?_⟩
    rintro k ys ⟨k0,k1,rfl⟩
    refine ifP_split (fun h => ?_) (fun h => ?_)
    · have h:=of_decide_eq_true h
      have st:=step 0 (by rw [hk];rfl) k k0 h
      refine ⟨k0,h,by rw [List.length_take];omega,?_⟩
      rintro y _ ⟨rfl,-⟩
      exact ⟨k+1,_,⟨by omega,by omega,st⟩,by omega,(by repeat' first|exact trivial|refine ⟨trivial,?_⟩|refine ⟨(by with_reducible rfl),?_⟩|refine ⟨w64 (by omega) (by omega),?_⟩|refine ⟨rfl,?_⟩)⟩
    · have h:=of_decide_eq_false h
      have e10:k=10:=by omega
      subst e10
      have et:(hdrBody d.1 (20+d.2.length)).take (cutP (Int.toNat 10))=hdrBody d.1 (20+d.2.length):=List.take_of_length_le (by rw [hbl];decide)
      rw [et]
      refine ⟨by omega,?_⟩
      rintro c rfl
      refine ⟨by omega,by omega,by omega,by omega,by rw [List.length_set];omega,by rw [List.length_set,List.length_set];omega,fin _ rfl⟩
theorem ok_ipv4_Encode:SpecOK Tryz.prog GL 83 ct_ipv4_Encode.spec:=Ct.okH _ Tryz.func83 (by kernel_rfl) (withSpec_ok (withSpec_ok (withSpec_ok noSpecs_ok ok_ipv4_Check) (Ct.named ok_wire_Put)) (Ct.named ok_wire_Checksum)) hmix an_ipv4_Encode (hideMp (by kernel_rfl) vc_ipv4_Encode)
def ct_ipv4_Peek_1:Ct:=⟨[.val cI,.box 22 (.row 5 cU8),.box 3 cI],[.val cI],fun d=>[(d.2.1.length:Int)<=100000,0<=d.1,d.1<=8,0<=d.2.2.1,d.2.2.1<=100000],fun d=>((getV d.2.1 d.2.2.1 d.1,()),(d.2.1,d.2.2.1+d.1,()))⟩
def an_ipv4_Peek_1:PDs ct_ipv4_Peek_1.ps->Anns:=(fun _=>{})
theorem vc_ipv4_Peek_1 :
 ∀(a:Int) (b:List Int) (c:Int),R64 a/\(b.length<=maxLen/\ ∀(d:Int),d∈b->0<=d/\d<=255)/\R64 c/\True->(b.length:Int)<=100000/\0<=a/\a<=8/\0<=c/\c<=100000->(b.length:Int)<=1099511627776/\getV b c a=getV b c a/\b=b/\IntKind.wrap .i64 (c+a)=c+a:=by
  rintro w b a-⟨h1,h2,h3,h4,h5⟩
  exact ⟨by omega,rfl,rfl,w64 (by omega) (by omega)⟩
theorem ok_ipv4_Peek_1:SpecOK Tryz.prog GL 171 ct_ipv4_Peek_1.spec:=Ct.okH _ Tryz.func171 (by kernel_rfl) (withSpec_ok noSpecs_ok ok_wire_Get) hmix an_ipv4_Peek_1 (hideMp (by kernel_rfl) vc_ipv4_Peek_1)
def ct_ipv4_Peek:Ct:=⟨[.val (.sl cU8)],[.agg cHeader,.val cI,.val cI],fun d=>[(d.1.length:Int)<=1099511627776],fun d=>((pkHdr d.1,pkLen d.1,pkErr d.1,()),())⟩
def an_ipv4_Peek:PDs ct_ipv4_Peek.ps->Anns:=(fun _=>{})
def Qbj6 :=
 ((0:Int),(0:Int),(0:Int),(0:Int),false,(0:Int),(0:Int))
def Qbj11 (a:List Int) :=
 subL a (Int.toNat (0:Int)) (Int.toNat (20:Int))
theorem vc_ipv4_Peek :
 ∀(a:List Int),(a.length<=maxLen/\ ∀(b:Int),b∈a->0<=b/\b<=255)/\True->(a.length:Int)<=1099511627776->ifP (decide ((a.length:Int)<20)) ((Qbj6)=pkHdr a/\(0:Int)=pkLen a/\(3:Int)=pkErr a) ((0:Int)<=0/\(0:Int)<=20/\20<=(a.length:Int)/\((List.length (Qbj11 a)):Int)<=1099511627776/\((List.length (Qbj11 a)):Int)<=100000/\(0:Int)<=1/\(1:Int)<=8/\(0:Int)<=0/\(0:Int)<=100000/\ ∀(b:Int) (c:List Int) (d:Int),b=getV (Qbj11 a) (0:Int) (1:Int)/\c=subL a (Int.toNat (0:Int)) (Int.toNat (20:Int))/\d=0+(1:Int)->(c.length:Int)<=100000/\(0:Int)<=1/\(1:Int)<=8/\0<=d/\d<=100000/\ ∀(e:Int) (f:List Int) (g:Int),e=getV c d (1:Int)/\f=c/\g=d+(1:Int)->(f.length:Int)<=100000/\(0:Int)<=2/\(2:Int)<=8/\0<=g/\g<=100000/\ ∀(h:Int) (i:List Int) (j:Int),h=getV f g (2:Int)/\i=f/\j=g+(2:Int)->(i.length:Int)<=100000/\(0:Int)<=2/\(2:Int)<=8/\0<=j/\j<=100000/\ ∀(k:Int) (l:List Int) (m:Int),k=getV i j
 (2:Int)/\l=i/\m=j+(2:Int)->(l.length:Int)<=100000/\(0:Int)<=2/\(2:Int)<=8/\0<=m/\m<=100000/\ ∀(n:Int) (o:List Int) (p:Int),n=getV l m (2:Int)/\o=l/\p=m+(2:Int)->(o.length:Int)<=100000/\(0:Int)<=1/\(1:Int)<=8/\0<=p/\p<=100000/\ ∀(q:Int) (r:List Int) (s:Int),q=getV o p (1:Int)/\r=o/\s=p+(1:Int)->(r.length:Int)<=100000/\(0:Int)<=1/\(1:Int)<=8/\0<=s/\s<=100000/\ ∀(t:Int) (u:List Int) (v:Int),t=getV r s (1:Int)/\u=r/\v=s+(1:Int)->(u.length:Int)<=100000/\(0:Int)<=2/\(2:Int)<=8/\0<=v/\v<=100000/\ ∀(w:Int) (x:List Int) (y:Int),w=getV u v (2:Int)/\x=u/\y=v+(2:Int)->(x.length:Int)<=100000/\(0:Int)<=4/\(4:Int)<=8/\0<=y/\y<=100000/\ ∀(z:Int) (A:List Int) (B:Int),z=getV x y (4:Int)/\A=x/\B=y+(4:Int)->(A.length:Int)<=100000/\(0:Int)<=4/\(4:Int)<=8/\0<=B/\B<=100000/\ ∀(C:Int) (D:List Int) (E:Int),C=getV A B (4:Int)/\D=A/\E=B+(4:Int)-> ∀(F:Bool),F= ! decide (b=69)->((! F)->((! F)->(! F))/\True)/\((!
 F)->((! F)->(! F))/\True)/\ ∀(G:Bool),G= ! decide (n=0)->((! F&&G)->((! F&&G)->(! F&&G))/\True)/\((! F&&G)->((! F&&G)->(! F&&G))/\True)/\((! F)->((! F)->(! F))/\(G->(! F&&G))/\True)/\(F=false->(! F))/\ ∀(H:Bool),(H=bif F then true else bif G then ! decide (n=16384) else false)->((! H)->((! H)->(! H))/\True)/\(H=false->(! H))/\ifP (bif H then true else decide (h<20)) ((Qbj6)=pkHdr a/\(0:Int)=pkLen a/\(2:Int)=pkErr a) ((0:Int)<=10/\10<(D.length:Int)/\(0:Int)<=11/\11<((List.length (List.set D (Int.toNat (10:Int)) (0:Int))):Int)/\((List.length (List.set (List.set D (Int.toNat (10:Int)) (0:Int)) (Int.toNat (11:Int)) (0:Int))):Int)<=1099511627776/\ ∀(I:Int),I=65535 -oc (sumF true (List.set (List.set D (Int.toNat (10:Int)) (0:Int)) (Int.toNat (11:Int)) (0:Int)))->ifP (! decide (I=w)) ((Qbj6)=pkHdr a/\(0:Int)=pkLen a/\(4:Int)=pkErr a) ((e,k,q,t,decide (n=16384),IntKind.wrap .u32 z,IntKind.wrap
 .u32 C)=pkHdr a/\h=pkLen a/\(0:Int)=pkErr a))):=by
  delta Qbj6 Qbj11
  rintro b ⟨⟨-,hb⟩,-⟩ hl
  refine ifP_split (fun h => ?_) (fun h => ?_)
  · have h:=of_decide_eq_true h
    have e:pkErr b=3:=by rw [pkErr,if_pos h]
    rw [pkHdr,pkLen,e];exact ⟨rfl,rfl,rfl⟩
  have h:=of_decide_eq_false h
  have hB:subL b (Int.toNat 0) (Int.toNat 20)=b.take 20:=rfl
  have hBl:(b.take 20).length=20:=by rw [List.length_take];omega
  rw [hB]
  refine ⟨by omega,by omega,by omega,by omega,by omega,by omega,by omega,by omega,by omega,?_⟩
  rintro v0 _ a0 ⟨e0,rfl,q0⟩
  rw [gV1 (by omega) (by omega),take_get (by decide)] at e0
  have q0:a0=1:=q0
  subst q0
  refine ⟨by omega,by omega,by omega,by omega,by omega,?_⟩
  rintro v1 _ a1 ⟨e1,rfl,q1⟩
  rw [gV1 (by omega) (by omega),take_get (by decide)] at e1
  have q1:a1=2:=q1
  subst q1
  refine ⟨by omega,by omega,by omega,by omega,by omega,?_⟩
  rintro v2 _ a2 ⟨e2,rfl,q2⟩
  rw [gV2 (by omega) (by omega),take_word (by decide)] at e2
  have q2:a2=4:=q2
  subst q2
  refine ⟨by omega,by omega,by omega,by omega,by omega,?_⟩
  rintro v3 _ a3 ⟨e3,rfl,q3⟩
  rw [gV2 (by omega) (by omega),take_word (by decide)] at e3
  have q3:a3=6:=q3
  subst q3
  refine ⟨by omega,by omega,by omega,by omega,by omega,?_⟩
  rintro v4 _ a4 ⟨e4,rfl,q4⟩
  rw [gV2 (by omega) (by omega),take_word (by decide)] at e4
  have q4:a4=8:=q4
  subst q4
  refine ⟨by omega,by omega,by omega,by omega,by omega,?_⟩
  rintro v5 _ a5 ⟨e5,rfl,q5⟩
  rw [gV1 (by omega) (by omega),take_get (by decide)] at e5
  have q5:a5=9:=q5
  subst q5
  refine ⟨by omega,by omega,by omega,by omega,by omega,?_⟩
  rintro v6 _ a6 ⟨e6,rfl,q6⟩
  rw [gV1 (by omega) (by omega),take_get (by decide)] at e6
  have q6:a6=10:=q6
  subst q6
  refine ⟨by omega,by omega,by omega,by omega,by omega,?_⟩
  rintro v7 _ a7 ⟨e7,rfl,q7⟩
  rw [gV2 (by omega) (by omega),take_word (by decide)] at e7
  have q7:a7=12:=q7
  subst q7
  refine ⟨by omega,by omega,by omega,by omega,by omega,?_⟩
  rintro v8 _ a8 ⟨e8,rfl,q8⟩
  rw [gV4 (by omega) (by omega),take_drop_take (by decide)] at e8
  have q8:a8=16:=q8
  subst q8
  refine ⟨by omega,by omega,by omega,by omega,by omega,?_⟩
  rintro v9 _ a9 ⟨e9,rfl,q9⟩
  rw [gV4 (by omega) (by omega),take_drop_take (by decide)] at e9
  have q9:a9=20:=q9
  subst q9
  subst e0 e1 e2 e3 e4 e5 e6 e7 e8 e9
  have n12:=bytes_num4 hb 12
  have n16:=bytes_num4 hb 16
  have hcs:65535-oc (sumF true (((b.take 20).set (Int.toNat 10) 0).set (Int.toNat 11) 0))=csum (setW (b.take 20) 10 0):=rfl
  (repeat (intro (b_:Bool) (hb_:b_=_);(repeat refine ⟨(by first|(simp;done)|(rw [hb_];simp;done)|(rw [hb_];simp;omega)|(rw [hb_];simp;intros;omega)|(rw [hb_];simp +contextual;done)),?_⟩);subst hb_))
  refine ifP_split (fun hc => ?_) (fun hc => ?_)
  · have e:pkErr b=2:=by
      rw [pkErr,if_neg h,if_pos]
      rintro ⟨h0,hf,h2⟩
      rw [show b.getD (Int.toNat 0) default=69 from h0] at hc
      rcases hf with hf|hf
      · rw [show wordAt b (Int.toNat 6)=0 from hf] at hc
        simp at hc
        have h2:20<=wordAt b (Int.toNat 2):=h2
        simp at h2;omega
      · rw [show wordAt b (Int.toNat 6)=16384 from hf] at hc
        simp at hc
        have h2:20<=wordAt b (Int.toNat 2):=h2
        simp at h2;omega
    rw [pkHdr,pkLen,e];exact ⟨rfl,rfl,rfl⟩
  have hg:b.getD 0 default=69/\(wordAt b 6=0∨wordAt b 6=16384)/\20<=wordAt b 2:=by
    by_cases h0:b.getD (Int.toNat 0) default=69
    · by_cases h6:wordAt b (Int.toNat 6)=0
      · simp [h0,h6] at hc
        exact ⟨h0,.inl h6,by omega⟩
      · by_cases h7:wordAt b (Int.toNat 6)=16384
        · simp [h0,h7] at hc
          exact ⟨h0,.inr h7,by omega⟩
        · exfalso
          rw [h0,decide_eq_false h6,decide_eq_false h7] at hc;simp at hc
    · exfalso
      rw [decide_eq_false h0] at hc;simp at hc
  refine ⟨by omega,by omega,by omega,by rw [List.length_set];omega,by rw [List.length_set,List.length_set];omega,?_⟩
  rw [hcs]
  rintro c rfl
  refine ifP_split (fun hc => ?_) (fun hc => ?_)
  · have e:pkErr b=4:=by
      rw [pkErr,if_neg h,if_neg (fun k=>k hg),if_pos]
      intro k
      rw [show wordAt b (Int.toNat 10)=wordAt b 10 from rfl,k] at hc;simp at hc
    rw [pkHdr,pkLen,e];exact ⟨rfl,rfl,rfl⟩
  · have e:pkErr b=0:=by
      rw [pkErr,if_neg h,if_neg (fun k=>k hg),if_neg]
      intro k
      exact k (by simpa using hc)
    rw [pkHdr,pkLen,e,if_pos rfl,if_pos rfl,show Int.toNat 12=12 from rfl,show Int.toNat 16=16 from rfl,wu32 n12.1 n12.2,wu32 n16.1 n16.2]
    exact ⟨rfl,rfl,rfl⟩
theorem ok_ipv4_Peek:SpecOK Tryz.prog GL 129 ct_ipv4_Peek.spec:=Ct.okH _ Tryz.func129 (by kernel_rfl) (withSpec_ok (withSpec_ok (withSpec_ok noSpecs_ok ok_slices_Clone_b979) (Ct.named ok_ipv4_Peek_1)) (Ct.named ok_wire_Checksum)) hmix an_ipv4_Peek (hideMp (by kernel_rfl) vc_ipv4_Peek)
def ct_ipv4_Decode:Ct:=⟨[.val (.sl cU8)],[.agg cPacket,.val cI],fun d=>[(d.1.length:Int)<=1099511627776],fun d=>((decPkt d.1,decErr d.1,()),())⟩
def an_ipv4_Decode:PDs ct_ipv4_Decode.ps->Anns:=(fun _=>{})
theorem vc_ipv4_Decode :
 ∀(a:List Int),(a.length<=maxLen/\ ∀(b:Int),b∈a->0<=b/\b<=255)/\True->(a.length:Int)<=1099511627776->(a.length:Int)<=1099511627776/\ifP (! decide (pkErr a=0)) (((Qbj6),([]:List Int))=decPkt a/\pkErr a=decErr a) (ifP (! decide (pkLen a=(a.length:Int))) (((Qbj6),([]:List Int))=decPkt a/\(2:Int)=decErr a) (ifP (decide (1500<pkLen a)) (((Qbj6),([]:List Int))=decPkt a/\(5:Int)=decErr a) ((0:Int)<=20/\20<=(a.length:Int)/\(a.length:Int)<=(a.length:Int)/\((List.length (subL a (Int.toNat (20:Int)) (Int.toNat (a.length:Int)))):Int)<=1099511627776/\(pkHdr a,subL a (Int.toNat (20:Int)) (Int.toNat (a.length:Int)))=decPkt a/\(0:Int)=decErr a))):=by
  delta Qbj6
  rintro b ⟨⟨-,hb⟩,-⟩ hl
  refine ⟨hl,ifP_split (fun hc => ?_) (fun hc => ?_)⟩
  · have hc:¬ pkErr b=0:=by simpa using hc
    have e:decErr b=pkErr b:=by rw [decErr,if_pos hc]
    rw [decPkt,e,if_neg hc];exact ⟨rfl,rfl⟩
  have hc:pkErr b=0:=by simpa using hc
  have hlen:pkLen b=wordAt b 2:=by rw [pkLen,if_pos hc]
  rw [hlen]
  refine ifP_split (fun h2 => ?_) (fun h2 => ?_)
  · have h2:¬ wordAt b 2=b.length:=by simpa using h2
    have e:decErr b=2:=by rw [decErr,if_neg (fun k=>k hc),if_pos h2]
    rw [decPkt,e];exact ⟨rfl,rfl⟩
  have h2:wordAt b 2=b.length:=by simpa using h2
  refine ifP_split (fun h5 => ?_) (fun h5 => ?_)
  · have h5:=of_decide_eq_true h5
    have e:decErr b=5:=by rw [decErr,if_neg (fun k=>k hc),if_neg (fun k=>k h2),if_pos h5]
    rw [decPkt,e];exact ⟨rfl,rfl⟩
  have h5:=of_decide_eq_false h5
  have e:decErr b=0:=by rw [decErr,if_neg (fun k=>k hc),if_neg (fun k=>k h2),if_neg h5]
  have h20:=pk_long hc
  rw [show Int.toNat 20=20 from rfl,sub_drop,decPkt,e,if_pos rfl,pkHdr,if_pos hc,List.length_drop]
  exact ⟨by omega,by omega,by omega,by omega,rfl,rfl⟩
theorem ok_ipv4_Decode:SpecOK Tryz.prog GL 82 ct_ipv4_Decode.spec:=Ct.okH _ Tryz.func82 (by kernel_rfl) (withSpec_ok (withSpec_ok noSpecs_ok ok_ipv4_Peek) ok_slices_Clone_b979) hmix an_ipv4_Decode (hideMp (by kernel_rfl) vc_ipv4_Decode)
def ct_ipv4_Lower:Ct:=⟨[.val (.sl cU8)],[.own 5 cU8,.val cI],fun d=>[(d.1.length:Int)<=1099511627776],fun d=>((lowB d.1,lowErr d.1,()),())⟩
def an_ipv4_Lower:PDs ct_ipv4_Lower.ps->Anns:=(fun _=>{})
def Qbj10 (a:List Int) :=
 (((decPkt a).1.1,(decPkt a).1.2.1,IntKind.wrap .i64 ((decPkt a).1.2.2.1 -(1:Int)),(decPkt a).1.2.2.2),(decPkt a).2)
theorem vc_ipv4_Lower :
 ∀(a:List Int),(a.length<=maxLen/\ ∀(b:Int),b∈a->0<=b/\b<=255)/\True->(a.length:Int)<=1099511627776->(a.length:Int)<=1099511627776/\ifP (! decide (decErr a=0)) (([]:List Int)=lowB a/\decErr a=lowErr a) (ifP (decide ((decPkt a).1.2.2.1<2)) (([]:List Int)=lowB a/\(7:Int)=lowErr a) (((List.length (decPkt a).2):Int)<=1073741824/\ipEnc (Qbj10 a)=lowB a/\ipErr (Qbj10 a)=lowErr a)):=by
  delta Qbj10
  rintro b ⟨⟨-,hb⟩,-⟩ hl
  refine ⟨hl,ifP_split (fun hc => ?_) (fun hc => ?_)⟩
  · have hc:¬ decErr b=0:=by simpa using hc
    have e:lowErr b=decErr b:=by rw [lowErr,if_pos hc]
    rw [lowB,e,if_neg hc];exact ⟨rfl,rfl⟩
  have hc:decErr b=0:=by simpa using hc
  have hp:decPkt b=(pkHdrF b,b.drop 20):=by rw [decPkt,if_pos hc]
  rw [hp]
  have h8:=bytes_get hb (i:=8) (by have:=pk_long (dec_pk hc);omega)
  refine ifP_split (fun h2 => ?_) (fun h2 => ?_)
  · have h2:=of_decide_eq_true h2
    have e:lowErr b=7:=by rw [lowErr,if_neg (fun k=>k hc),if_pos h2]
    rw [lowB,e];exact ⟨rfl,rfl⟩
  have h2:=of_decide_eq_false h2
  have e:lowErr b=0:=by rw [lowErr,if_neg (fun k=>k hc),if_neg h2]
  have hd:=dec_len hc
  have h82:¬ b.getD 8 default<2:=h2
  rw [lowB,e,if_pos rfl]
  have hok:=low_ok hb hc h2
  refine ⟨by rw [List.length_drop];omega,?_⟩
  have ew:IntKind.wrap .i64 ((pkHdrF b).2.2.1-1)=(pkHdrF b).2.2.1-1:=w64 (by show _<=b.getD 8 default-1;omega) (by show b.getD 8 default-1<=_;omega)
  rw [ew]
  refine ⟨rfl,?_⟩
  rw [ipErr,if_neg (fun k=>k hok),if_neg]
  simp only [List.length_drop];omega
theorem ok_ipv4_Lower:SpecOK Tryz.prog GL 36 ct_ipv4_Lower.spec:=Ct.okH _ Tryz.func36 (by kernel_rfl) (withSpec_ok (withSpec_ok noSpecs_ok ok_ipv4_Decode) ok_ipv4_Encode) hmix an_ipv4_Lower (hideMp (by kernel_rfl) vc_ipv4_Lower)
def ct_ref05_Check:Ct:=⟨[.agg cHeader],[.val cI],fun d=>[],fun d=>((hdrErr d.1,()),())⟩
def an_ref05_Check:PDs ct_ref05_Check.ps->Anns:=(fun _=>{})
theorem vc_ref05_Check :
 ∀(a:Header),CT.wf cHeader a/\True->True-> ∀(b:Bool),b=decide (a.1<0)->((! b)->((! b)->(! b))/\True)/\((! b)->((! b)->(! b))/\True)/\(b=false->(! b))/\ ∀(c:Bool),(c=bif b then true else decide (255<a.1))->((! c)->((! c)->(! c))/\True)/\((! c)->((! c)->(! c))/\True)/\(c=false->(! c))/\ ∀(d:Bool),(d=bif c then true else decide (a.2.2.1<0))->((! d)->((! d)->(! d))/\True)/\((! d)->((! d)->(! d))/\True)/\(d=false->(! d))/\ ∀(e:Bool),(e=bif d then true else decide (255<a.2.2.1))->((! e)->((! e)->(! e))/\True)/\((! e)->((! e)->(! e))/\True)/\(e=false->(! e))/\ ∀(f:Bool),(f=bif e then true else decide (a.2.2.2.1<0))->((! f)->((! f)->(! f))/\True)/\((! f)->((! f)->(! f))/\True)/\(f=false->(! f))/\ ∀(g:Bool),(g=bif f then true else decide (255<a.2.2.2.1))->((! g)->((! g)->(! g))/\True)/\((! g)->((! g)->(! g))/\True)/\(g=false->(! g))/\ ∀(h:Bool),(h=bif g then true else decide (a.2.1<0))->((! h)->((!
 h)->(! h))/\True)/\((! h)->((! h)->(! h))/\True)/\(h=false->(! h))/\ifP (bif h then true else decide (65535<a.2.1)) ((1:Int)=hdrErr a) ((0:Int)=hdrErr a):=by
  rintro h - -
  (repeat (intro (b_:Bool) (hb_:b_=_);(repeat refine ⟨(by first|(simp;done)|(rw [hb_];simp;done)|(rw [hb_];simp;omega)|(rw [hb_];simp;intros;omega)|(rw [hb_];simp +contextual;done)),?_⟩);subst hb_))
  refine ifP_split (fun hc => ?_) (fun hc => ?_)
  · rw [hdrErr,if_neg]
    intro k;obtain ⟨k1,k2,k3,k4,k5⟩:=k
    unfold in8 at k1 k2 k3
    simp [Bool.cond_eq_ite] at hc;omega
  · rw [hdrErr,if_pos]
    unfold hdrOK in8
    simp [Bool.cond_eq_ite] at hc;omega
theorem ok_ref05_Check:SpecOK Tryz.prog GL 122 ct_ref05_Check.spec:=Ct.okH _ Tryz.func122 (by kernel_rfl) noSpecs_ok hmix an_ref05_Check (hideMp (by kernel_rfl) vc_ref05_Check)
def ct_ref05_header:Ct:=⟨[.agg cHeader,.val cI],[.own 5 cU8],fun d=>[hdrOK d.1,0<=d.2.1,d.2.1<=65535],fun d=>((hdrB d.1 d.2.1,()),())⟩
def an_ref05_header:PDs ct_ref05_header.ps->Anns:=(fun _=>{})
def Qbj0 (a:Header) (b:Int) (g:List Int) :=
 (g.length:Int)<=1099511627776/\ ∀(h:List Int),h=putB g a.2.2.1 (1:Int)->(h.length:Int)<=1099511627776/\ ∀(i:List Int),i=putB h a.2.2.2.1 (1:Int)->(↑(0:Nat):Int)<=1099511627776/\ ∀(j:List Int),j=putB ([]:List Int) (IntKind.wrap .i64 a.2.2.2.2.2.1) (4:Int)->(j.length:Int)<=1099511627776/\ ∀(k:List Int),k=putB j (IntKind.wrap .i64 a.2.2.2.2.2.2) (4:Int)->i.length*(1:Nat)<=(140737488355328:Nat)/\(List.length [(0:Int),(0:Int)]+k.length)*(1:Nat)<=(140737488355328:Nat)/\(i.length+List.length ([(0:Int),(0:Int)]++k))*(1:Nat)<=(140737488355328:Nat)/\((List.length (i++([(0:Int),(0:Int)]++k))):Int)<=1099511627776/\ ∀(l:Int),l=65535 -oc (sumF true (i++([(0:Int),(0:Int)]++k)))->(i.length:Int)<=1099511627776/\ ∀(m:List Int),m=putB i l (2:Int)->(m.length+k.length)*(1:Nat)<=(140737488355328:Nat)/\m++k=hdrB a b
theorem vc_ref05_header :
 ∀(a:Header) (b:Int),CT.wf cHeader a/\R64 b/\True->hdrOK a/\0<=b/\b<=65535->ifP a.2.2.2.2.1 ((↑(0:Nat):Int)<=1099511627776/\ ∀(c:List Int),c=putB ([]:List Int) (69:Int) (1:Int)->(c.length:Int)<=1099511627776/\ ∀(d:List Int),d=putB c a.1 (1:Int)->(d.length:Int)<=1099511627776/\ ∀(e:List Int),e=putB d b (2:Int)->(e.length:Int)<=1099511627776/\ ∀(f:List Int),f=putB e a.2.1 (2:Int)->(f.length:Int)<=1099511627776/\ ∀(g:List Int),g=putB f (16384:Int) (2:Int)->(Qbj0 a b g)) ((↑(0:Nat):Int)<=1099511627776/\ ∀(c:List Int),c=putB ([]:List Int) (69:Int) (1:Int)->(c.length:Int)<=1099511627776/\ ∀(d:List Int),d=putB c a.1 (1:Int)->(d.length:Int)<=1099511627776/\ ∀(e:List Int),e=putB d b (2:Int)->(e.length:Int)<=1099511627776/\ ∀(f:List Int),f=putB e a.2.1 (2:Int)->(f.length:Int)<=1099511627776/\ ∀(g:List Int),g=putB f (0:Int) (2:Int)->(Qbj0 a b g)):=by
  delta Qbj0
  rintro h n ⟨hw,-⟩ ⟨hok,n0,n1⟩
  obtain ⟨-,-,-,-,-,s0,d0⟩:=hw
  have s0:0<=h.2.2.2.2.2.1/\h.2.2.2.2.2.1<=4294967295:=s0
  have d0:0<=h.2.2.2.2.2.2/\h.2.2.2.2.2.2<=4294967295:=d0
  have es:IntKind.wrap .i64 h.2.2.2.2.2.1=h.2.2.2.2.2.1:=w64 (by omega) (by omega)
  have ed:IntKind.wrap .i64 h.2.2.2.2.2.2=h.2.2.2.2.2.2:=w64 (by omega) (by omega)
  rw [es,ed]
  have hc:=csum_range (hdr_bytes (n:=n) hok)
  obtain ⟨h1,h2,h3,h4,h5⟩:=hok
  have key:∀ f:Int,(f=if h.2.2.2.2.1 then 16384 else 0)->0<=f->f<=65535->((0:Nat):Int)<=1099511627776∧∀ x1,x1=putB [] 69 1->(x1.length:Int)<=1099511627776∧∀ x2,x2=putB x1 h.1 1->(x2.length:Int)<=1099511627776∧∀ x3,x3=putB x2 n 2->(x3.length:Int)<=1099511627776 ∧
      ∀ x4,x4=putB x3 h.2.1 2->(x4.length:Int)<=1099511627776∧∀ x5,x5=putB x4 f 2->(x5.length:Int)<=1099511627776∧∀ x6,x6=putB x5 h.2.2.1 1->(x6.length:Int)<=1099511627776∧∀ x7,x7=putB x6 h.2.2.2.1 1->((0:Nat):Int)<=1099511627776 ∧
      ∀ x8,x8=putB [] h.2.2.2.2.2.1 4->(x8.length:Int)<=1099511627776∧∀ x9,x9=putB x8 h.2.2.2.2.2.2 4->x7.length*1<=140737488355328/\(List.length [(0:Int),0]+x9.length)*1<=140737488355328/\(x7.length+List.length ([0,0]++x9))*1<=140737488355328 ∧
      ((x7++([0,0]++x9)).length:Int)<=1099511627776∧∀ c,c=65535-oc (sumF true (x7++([0,0]++x9)))->(x7.length:Int)<=1099511627776∧∀ x11,x11=putB x7 c 2->(x11.length+x9.length)*1<=140737488355328/\x11++x9=hdrB h n:=by
    intro f hf f0 f1
    refine ⟨by omega,?_⟩
    rintro x1 e1
    rw [putB_1 (by omega) (by omega)] at e1
    refine ⟨by rw [e1];simp,?_⟩
    rintro x2 e2
    rw [putB_1 h1.1 h1.2,e1] at e2
    refine ⟨by rw [e2];simp,?_⟩
    rintro x3 e3
    rw [putB_2 n0 n1,e2] at e3
    refine ⟨by rw [e3];simp [w2],?_⟩
    rintro x4 e4
    rw [putB_2 h4 h5,e3] at e4
    refine ⟨by rw [e4];simp [w2],?_⟩
    rintro x5 e5
    rw [putB_2 f0 f1,e4] at e5
    refine ⟨by rw [e5];simp [w2],?_⟩
    rintro x6 e6
    rw [putB_1 h2.1 h2.2,e5] at e6
    refine ⟨by rw [e6];simp [w2],?_⟩
    rintro x7 e7
    rw [putB_1 h3.1 h3.2,e6] at e7
    have e7:x7=hdrHead h n:=by rw [e7,hf];simp [hdrHead]
    refine ⟨by omega,?_⟩
    rintro x8 e8
    rw [putB_4 s0.1 s0.2] at e8
    refine ⟨by rw [e8];simp [w4],?_⟩
    rintro x9 e9
    rw [putB_4 d0.1 d0.2,e8] at e9
    have e9:x9=hdrTail h:=e9
    have l7:x7.length=10:=by rw [e7];rfl
    have l9:x9.length=8:=by rw [e9];rfl
    have eb:x7++([0,0]++x9)=hdrBody h n:=by rw [e7,e9];rfl
    refine ⟨by omega,by simp [l9],by simp [l7,l9],by simp [l7,l9],?_⟩
    rw [eb]
    rintro c rfl
    refine ⟨by omega,?_⟩
    rintro x11 e11
    rw [show 65535-oc (sumF true (hdrBody h n))=csum (hdrBody h n) from rfl,putB_2 hc.1 hc.2] at e11
    refine ⟨by rw [e11,List.length_append,l7,l9];simp [w2],?_⟩
    rw [e11,e7,e9,List.append_assoc];rfl
  refine ifP_split (fun hk => ?_) (fun hk => ?_)
  · exact key 16384 (by rw [hk];rfl) (by omega) (by omega)
  · exact key 0 (by rw [hk];rfl) (by omega) (by omega)
theorem ok_ref05_header:SpecOK Tryz.prog GL 123 ct_ref05_header.spec:=Ct.okH _ Tryz.func123 (by kernel_rfl) (withSpec_ok (withSpec_ok noSpecs_ok (Ct.named ok_ref04_Push)) (Ct.named ok_ref04_Checksum)) hmix an_ref05_header (hideMp (by kernel_rfl) vc_ref05_header)
def ct_ref05_Encode:Ct:=⟨[.agg cPacket],[.own 5 cU8,.val cI],fun d=>[(d.1.2.length:Int)<=1073741824],fun d=>((ipEnc d.1,ipErr d.1,()),())⟩
def an_ref05_Encode:PDs ct_ref05_Encode.ps->Anns:=(fun _=>{})
theorem vc_ref05_Encode :
 ∀(a:(Int×Int×Int×Int×Bool×Int×Int)×List Int),CT.wf cPacket a/\True->(a.2.length:Int)<=1073741824->ifP (! decide (hdrErr a.1=0)) (([]:List Int)=ipEnc a/\hdrErr a.1=ipErr a) (ifP (decide (1500<IntKind.wrap .i64 ((a.2.length:Int)+(20:Int)))) (([]:List Int)=ipEnc a/\(5:Int)=ipErr a) (hdrOK a.1/\0<=IntKind.wrap .i64 ((a.2.length:Int)+(20:Int))/\IntKind.wrap .i64 ((a.2.length:Int)+(20:Int))<=65535/\(List.length (hdrB a.1 (IntKind.wrap .i64 ((a.2.length:Int)+(20:Int))))+a.2.length)*(1:Nat)<=(140737488355328:Nat)/\hdrB a.1 (IntKind.wrap .i64 ((a.2.length:Int)+(20:Int)))++a.2=ipEnc a/\(0:Int)=ipErr a)):=by
  rintro d ⟨⟨hw,-⟩,-⟩ hl
  refine ifP_split (fun hc => ?_) (fun hc => ?_)
  · have hn:¬ hdrOK d.1:=fun k=>by rw [hdrErr,if_pos k] at hc;cases hc
    have he:ipErr d=1:=by rw [ipErr,if_pos hn]
    rw [ipEnc,he,hdrErr,if_neg hn];exact ⟨rfl,rfl⟩
  have hok:hdrOK d.1:=Classical.byContradiction fun k=>by rw [hdrErr,if_neg k] at hc;cases hc
  have e20:IntKind.wrap .i64 ((d.2.length:Int)+20)=20+d.2.length:=by rw [w64 (by omega) (by omega)];omega
  rw [e20]
  refine ifP_split (fun h5 => ?_) (fun h5 => ?_)
  · have h5:=of_decide_eq_true h5
    have he:ipErr d=5:=by rw [ipErr,if_neg (fun k=>k hok),if_pos (by omega)]
    rw [ipEnc,he];exact ⟨rfl,rfl⟩
  have h5:=of_decide_eq_false h5
  have he:ipErr d=0:=by rw [ipErr,if_neg (fun k=>k hok),if_neg (by omega)]
  refine ⟨hok,by omega,by omega,by rw [hdrB_len];omega,?_⟩
  rw [ipEnc,he,if_pos rfl]
  exact ⟨rfl,rfl⟩
theorem ok_ref05_Encode:SpecOK Tryz.prog GL 77 ct_ref05_Encode.spec:=Ct.okH _ Tryz.func77 (by kernel_rfl) (withSpec_ok (withSpec_ok noSpecs_ok ok_ref05_Check) ok_ref05_header) hmix an_ref05_Encode (hideMp (by kernel_rfl) vc_ref05_Encode)
end Go.RS
