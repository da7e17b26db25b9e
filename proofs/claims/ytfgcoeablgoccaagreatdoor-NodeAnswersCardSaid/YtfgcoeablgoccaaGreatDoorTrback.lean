/- Transp: messages of three protocols. -/
import Derived.Test.YtfgcoeablgoccaaGreatDoorWire
namespace Go.RS
open Go.SX Go.Proofs
set_option maxRecDepth 100000
set_option linter.unusedVariables false
abbrev cEcho:CT := .pair .bool (.pair cI (.pair cI (.sl cU8)))
abbrev cNotice:CT := .pair cI (.pair cI (.sl cU8))
abbrev cDgram:CT := .pair cI (.pair cI (.sl cU8))
abbrev cSeg:CT := .pair cI (.pair cI (.pair cI (.pair cI (.pair cI (.pair cI (.sl cU8))))))
abbrev Echo:Type:=Bool×Int×Int×List Int
abbrev Notice:Type:=Int×Int×List Int
abbrev Dgram:Type:=Int×Int×List Int
abbrev Seg:Type:=Int×Int×Int×Int×Int×Int×List Int
def allIn (lim:Int) (l:List Int):Bool:=l.all fun n=>decide (0<=n/\n<=lim)
def w2 (n:Int):List Int:=[n/256%256,n%256]
def w4 (n:Int):List Int:=[n/16777216%256,n/65536%256,n/256%256,n%256]
def csum (b:List Int):Int:=65535-oc (sumF true b)
def setW (b:List Int) (at':Nat) (n:Int):List Int:=(b.set at' (n/256%256)).set (at'+1) (n%256)
def wordAt (b:List Int) (at':Nat):Int:=numB ((b.drop at').take 2)
def ct_transport_within_1:Ct:=⟨[.val cI,.box 3 cI],[.val .bool],fun _=>[],fun d=>((decide (d.1<0∨d.2.1<d.1),()),(d.2.1,()))⟩
def an_transport_within_1:PDs ct_transport_within_1.ps->Anns:=(fun _=>{})
theorem vc_transport_within_1 :
 ∀(a b:Int),R64 a/\R64 b/\True->True-> ∀(c:Bool),c=decide (a<0)->((! c)->((! c)->(! c))/\((! c)->(! c))/\True)/\(c=false->(! c))/\(bif c then true else decide (b<a))=decide (a<0∨b<a)/\b=b:=by
  rintro n lim - -
  rintro b rfl
  refine ⟨by simp,by simp,?_,rfl⟩
  rw [Bool.cond_eq_ite]
  by_cases h:n<0 <;> simp [h]
theorem ok_transport_within_1:SpecOK Tryz.prog GL 206 ct_transport_within_1.spec:=Ct.okH _ Tryz.func206 (by kernel_rfl) noSpecs_ok hmix an_transport_within_1 (hideMp (by kernel_rfl) vc_transport_within_1)
def ct_IndexWithin:Cn:=⟨[.val (.sl cI),.fn 206 1,.box 3 cI],[.val cI],fun _=>[],fun d y=>y.2.1=d.2.2.1 ∧ -1<=y.1.1/\(y.1.1 = -1↔allIn d.2.2.1 d.1=true),fun d h=>⟨((if allIn d.2.2.1 d.1=true then -1 else 0,()),(d.2.2.1,())),rfl,by by_cases h:allIn d.2.2.1 d.1=true <;> simp [h]⟩⟩
def an_IndexWithin:PDs ct_IndexWithin.ps->Anns:=(fun d=>{loops:=(fun n=>match n with|2=>some (fun S=>{ι:=Int,μ:=fun i=>(d.1.length-i).toNat,inv:=fun i=>0<=i/\i<=d.1.length/\allIn d.2.2.1 (d.1.take i.toNat)=true,keep:=[0,1,6,7],slots:=fun i=>[(8,.int .i64 i)],keepN:=[1048576],names:=fun i=>[]})|_=>none)})
def Qbf8 (a:List Int) :=
 (a.length:Int)
theorem vc_IndexWithin :
 ∀(a:List Int) (b:Int),(a.length<=maxLen/\ ∀(c:Int),c∈a->R64 c)/\True/\R64 b/\True->True->(∃(c:Int),(0<=c/\c<=(Qbf8 a)/\allIn b (List.take c.toNat a)=true)/\a=a/\a=a/\(Qbf8 a)=(Qbf8 a)/\(0:Int)=c/\b=b/\True)/\ ∀(c:Int),0<=c/\c<=(Qbf8 a)/\allIn b (List.take c.toNat a)=true->ifP (decide (c<(Qbf8 a))) (0<=c/\c<(Qbf8 a)/\ifP (decide (a.getD c.toNat default<0∨b<a.getD c.toNat default)) (b=b/\ -1<=c/\(c= -1↔allIn b a=true)) (∃(d:Int),(0<=d/\d<=(Qbf8 a)/\allIn b (List.take d.toNat a)=true)/\Int.toNat ((Qbf8 a) -d)<Int.toNat ((Qbf8 a) -c)/\a=a/\a=a/\(Qbf8 a)=(Qbf8 a)/\IntKind.wrap .i64 (c+(1:Int))=d/\b=b/\True)) (b=b/\(-1:Int)<= -1/\((-1:Int)= -1↔allIn b a=true)):=by
  delta Qbf8
  rintro l lim ⟨⟨hl,-⟩,-⟩ -
  simp only [maxLen] at hl
  refine ⟨⟨0,⟨by omega,by omega,by simp [allIn]⟩,(by repeat' first|exact trivial|refine ⟨trivial,?_⟩|refine ⟨(by with_reducible rfl),?_⟩|refine ⟨w64 (by omega) (by omega),?_⟩|refine ⟨rfl,?_⟩)⟩,?_⟩
  rintro j ⟨j0,j1,j2⟩
  refine ifP_split (fun hj => ?_) (fun hj => ?_)
  · have hj:=of_decide_eq_true hj
    have ht:=take_snoc j0 hj
    have hm:=getD_mem (xs:=l) j0 hj
    generalize l.getD j.toNat default=x at *
    refine ⟨j0,hj,ifP_split (fun hb => ?_) (fun hb => ?_)⟩
    · have hb:=of_decide_eq_true hb
      refine ⟨rfl,by omega,⟨fun h=>by omega,fun h => ?_⟩⟩
      unfold allIn at h
      have:=of_decide_eq_true (List.all_eq_true.1 h x hm)
      omega
    · have hb:=of_decide_eq_false hb
      refine ⟨j+1,⟨by omega,by omega,?_⟩,by omega,(by repeat' first|exact trivial|refine ⟨trivial,?_⟩|refine ⟨(by with_reducible rfl),?_⟩|refine ⟨w64 (by omega) (by omega),?_⟩|refine ⟨rfl,?_⟩)⟩
      rw [ht];unfold allIn at j2 ⊢
      rw [List.all_append,j2];simp;omega
  · have hj:=of_decide_eq_false hj
    rw [List.take_of_length_le (by omega)] at j2
    simp [j2]
theorem ok_IndexWithin:SpecOK Tryz.prog GL 216 ct_IndexWithin.spec:=Cn.okH _ Tryz.func216 (by kernel_rfl) (withSpec_ok noSpecs_ok ok_transport_within_1) hmix an_IndexWithin (hideMp (by kernel_rfl) vc_IndexWithin)
def ct_ContainsWithin:Ct:=⟨[.val (.sl cI),.fn 206 1,.box 3 cI],[.val .bool],fun _=>[],fun d=>((!allIn d.2.2.1 d.1,()),(d.2.2.1,()))⟩
def an_ContainsWithin:PDs ct_ContainsWithin.ps->Anns:=(fun _=>{})
theorem vc_ContainsWithin :
 ∀(a:List Int) (b:Int),(a.length<=maxLen/\ ∀(c:Int),c∈a->R64 c)/\True/\R64 b/\True->True-> ∀(c d:Int),d=b/\ -1<=c/\(c= -1↔allIn b a=true)->decide (0<=c)= ! allIn b a/\d=b:=by
  rintro l lim - - i b ⟨rfl,h1,h2⟩
  refine ⟨?_,rfl⟩
  cases h:allIn b l with
  | true=>rw [h2.2 h];rfl
  | false =>
    have:¬ i = -1:=fun e=>by rw [h2.1 e] at h;cases h
    simp;omega
theorem ok_ContainsWithin:SpecOK Tryz.prog GL 205 ct_ContainsWithin.spec:=Ct.okH _ Tryz.func205 (by kernel_rfl) (withSpec_ok noSpecs_ok ok_IndexWithin) hmix an_ContainsWithin (hideMp (by kernel_rfl) vc_ContainsWithin)
def ct_transport_within:Ct:=⟨[.val cI,.val (.sl cI)],[.val .bool],fun _=>[],fun d=>((allIn d.1 d.2.1,()),())⟩
def an_transport_within:PDs ct_transport_within.ps->Anns:=(fun _=>{})
theorem vc_transport_within :
 ∀(a:Int) (b:List Int),R64 a/\(b.length<=maxLen/\ ∀(c:Int),c∈b->R64 c)/\True->True->(!! allIn a b)=allIn a b:=by
  rintro lim l - -
  simp
theorem ok_transport_within:SpecOK Tryz.prog GL 174 ct_transport_within.spec:=Ct.okH _ Tryz.func174 (by kernel_rfl) (withSpec_ok noSpecs_ok ok_ContainsWithin) hmix an_transport_within (hideMp (by kernel_rfl) vc_transport_within)
theorem flat_w2 (l:List Int):(l.flatMap w2).length=2*l.length:=by
  induction l with
  | nil=>rfl
  | cons x l ih=>rw [List.flatMap_cons,List.length_append,ih,List.length_cons];simp [w2];omega
theorem beT2 (n:Int):beT n 2 2=w2 n:=by
  simp [beT,w2,List.range,List.range.loop]
theorem beT4 (n:Int):beT n 4 4=w4 n:=by
  simp [beT,w4,List.range,List.range.loop]
theorem beT1 (n:Int):beT n 1 1=[n%256]:=by
  simp [beT,List.range,List.range.loop]
theorem putB_2 {b:List Int} {n:Int} (h0:0<=n) (h1:n<=65535):putB b n 2=b++w2 n:=by
  rw [putB,if_neg,← beT2]
  · rfl
  · unfold putBad
    have:(256:Int)^(2:Int).toNat=65536:=rfl
    rw [this];omega
theorem putB_4 {b:List Int} {n:Int} (h0:0<=n) (h1:n<=4294967295):putB b n 4=b++w4 n:=by
  rw [putB,if_neg,← beT4]
  · rfl
  · unfold putBad
    have:(256:Int)^(4:Int).toNat=4294967296:=rfl
    rw [this];omega
theorem putB_1 {b:List Int} {n:Int} (h0:0<=n) (h1:n<=255):putB b n 1=b++[n]:=by
  rw [putB,if_neg,show beT n (1:Int).toNat (1:Int).toNat=[n] from by
    have:=beT1 n
    rw [Int.emod_eq_of_lt h0 (by omega)] at this
    exact this]
  unfold putBad
  have:(256:Int)^(1:Int).toNat=256:=rfl
  rw [this];omega
def ct_transport_put:Ct:=⟨[.nils,.val (.sl cI)],[.own 5 cU8],fun d=>[allIn 65535 d.2.1=true,(d.2.1.length:Int)<=1073741824],fun d=>((d.2.1.flatMap w2,()),())⟩
def an_transport_put:PDs ct_transport_put.ps->Anns:=(fun d=>{loops:=(fun n=>match n with|2=>some (fun S=>{ι:=Int×(List Int),qn:=⟨fun k_=>∀ (j:Int) (ys:(List Int)),k_ (j,ys),fun k_ h_ i=>h_ i.1 i.2,fun k_=>∃ (j:Int) (ys:(List Int)),k_ (j,ys),fun k_ ⟨j,ys,h_⟩=>⟨_,h_⟩⟩,μ:=fun i=>(d.2.1.length-i.1).toNat,inv:=fun i=>0<=i.1/\i.1<=d.2.1.length/\i.2=(d.2.1.take i.1.toNat).flatMap w2,keep:=[7,8],slots:=fun i=>[(0,.own 524288 1),(9,.int .i64 i.1)],names:=fun i=>[(524288,.live (.row 5 cU8 i.2))]})|_=>none)})
theorem vc_transport_put :
 ∀(a:List Int),True/\(a.length<=maxLen/\ ∀(b:Int),b∈a->R64 b)/\True->allIn (65535:Int) a=true/\(Qbf8 a)<=1073741824->(∃(b:Int) (c:List Int),(0<=b/\b<=(Qbf8 a)/\c=List.flatMap w2 (List.take b.toNat a))/\a=a/\(Qbf8 a)=(Qbf8 a)/\(0:Int)=b/\c=([]:List Int)/\True)/\ ∀(b:Int) (c:List Int),0<=b/\b<=(Qbf8 a)/\c=List.flatMap w2 (List.take b.toNat a)->ifP (decide (b<(Qbf8 a))) (0<=b/\b<(Qbf8 a)/\(c.length:Int)<=1099511627776/\ ∃(d:Int) (e:List Int),(0<=d/\d<=(Qbf8 a)/\e=List.flatMap w2 (List.take d.toNat a))/\Int.toNat ((Qbf8 a) -d)<Int.toNat ((Qbf8 a) -b)/\a=a/\(Qbf8 a)=(Qbf8 a)/\IntKind.wrap .i64 (b+(1:Int))=d/\putB c (a.getD b.toNat default) (2:Int)=e/\True) (c=List.flatMap w2 a):=by
  delta Qbf8
  rintro l ⟨-,⟨hl,-⟩,-⟩ ⟨ha,hk⟩
  refine ⟨⟨0,[],⟨by omega,by omega,by simp⟩,(by repeat' first|exact trivial|refine ⟨trivial,?_⟩|refine ⟨(by with_reducible rfl),?_⟩|refine ⟨w64 (by omega) (by omega),?_⟩|refine ⟨rfl,?_⟩)⟩,?_⟩
  rintro j ys ⟨j0,j1,rfl⟩
  refine ifP_split (fun hj => ?_) (fun hj => ?_)
  · have hj:=of_decide_eq_true hj
    have ht:=take_snoc j0 hj
    have hm:=getD_mem (xs:=l) j0 hj
    have hlen:((l.take j.toNat).flatMap w2).length=2*j.toNat:=by
      rw [flat_w2,List.length_take];omega
    generalize l.getD j.toNat default=x at *
    have hx:=of_decide_eq_true (List.all_eq_true.1 ha x hm)
    refine ⟨j0,hj,by omega,j+1,_,⟨by omega,by omega,rfl⟩,by omega,rfl,rfl,w64 (by omega) (by omega),?_,trivial⟩
    rw [ht,List.flatMap_append,putB_2 hx.1 hx.2];simp
  · have hj:=of_decide_eq_false hj
    rw [List.take_of_length_le (by omega)]
theorem ok_transport_put:SpecOK Tryz.prog GL 175 ct_transport_put.spec:=Ct.okH _ Tryz.func175 (by kernel_rfl) (withSpec_ok noSpecs_ok ok_wire_Put) hmix an_transport_put (hideMp (by kernel_rfl) vc_transport_put)
def ct_transport_word:Ct:=⟨[.val (.sl cU8),.val cI],[.val cI],fun d=>[0<=d.2.1,d.2.1+2<=d.1.length,(d.1.length:Int)<=1099511627776],fun d=>((wordAt d.1 d.2.1.toNat,()),())⟩
def an_transport_word:PDs ct_transport_word.ps->Anns:=(fun _=>{})
theorem vc_transport_word :
 ∀(a:List Int) (b:Int),(a.length<=maxLen/\ ∀(c:Int),c∈a->0<=c/\c<=255)/\R64 b/\True->0<=b/\b+2<=(Qbf8 a)/\(Qbf8 a)<=1099511627776->(Qbf8 a)<=1099511627776/\getV a b (2:Int)=wordAt a b.toNat:=by
  delta Qbf8
  rintro b a-⟨h0,h1,h2⟩
  refine ⟨h2,?_⟩
  rw [getV,if_neg (by omega)];rfl
theorem ok_transport_word:SpecOK Tryz.prog GL 181 ct_transport_word.spec:=Ct.okH _ Tryz.func181 (by kernel_rfl) (withSpec_ok noSpecs_ok ok_wire_Get) hmix an_transport_word (hideMp (by kernel_rfl) vc_transport_word)
theorem shr8 {n:Int} (h0:0<=n):shrI .i64 n 8=n/256:=by
  have e:=shr_pow (n:=n) (k:=1) h0 (by omega)
  exact e
def ct_transport_replaced:Ct:=⟨[.val (.sl cU8),.val cI,.val cI],[.own 5 cU8],fun d=>[0<=d.2.1,d.2.1+2<=d.1.length,(d.1.length:Int)<=1099511627776,0<=d.2.2.1,d.2.2.1<=65535],fun d=>((setW d.1 d.2.1.toNat d.2.2.1,()),())⟩
def an_transport_replaced:PDs ct_transport_replaced.ps->Anns:=(fun _=>{})
def Qbf5 (a:List Int) (b c:Int) :=
 (0:Int)<=8/\0<=b/\b<(Qbf8 a)/\0<=IntKind.wrap .i64 (b+(1:Int))/\IntKind.wrap .i64 (b+(1:Int))<((List.length (List.set a b.toNat (IntKind.wrap .u8 (shrI IntKind.i64 c (8:Int))))):Int)/\List.set (List.set a b.toNat (IntKind.wrap .u8 (shrI IntKind.i64 c (8:Int)))) (Int.toNat (IntKind.wrap .i64 (b+(1:Int)))) (IntKind.wrap .u8 c)=setW a b.toNat c
theorem vc_transport_replaced :
 ∀(a:List Int) (b c:Int),(a.length<=maxLen/\ ∀(d:Int),d∈a->0<=d/\d<=255)/\R64 b/\R64 c/\True->0<=b/\b+2<=(Qbf8 a)/\(Qbf8 a)<=1099511627776/\0<=c/\c<=65535->(Qbf8 a)<=1099511627776/\(Qbf5 a b c):=by
  delta Qbf5 Qbf8
  rintro b a n-⟨h0,h1,h2,n0,n1⟩
  rw [w64 (n:=a+1) (by omega) (by omega),shr8 n0,IntKind.wrap_u8',IntKind.wrap_u8',List.length_set]
  refine ⟨by omega,by omega,by omega,by omega,by omega,by omega,?_⟩
  rw [setW,show (a+1).toNat=a.toNat+1 from by omega]
theorem ok_transport_replaced:SpecOK Tryz.prog GL 207 ct_transport_replaced.spec:=Ct.okH _ Tryz.func207 (by kernel_rfl) (withSpec_ok noSpecs_ok ok_slices_Clone_b979) hmix an_transport_replaced (hideMp (by kernel_rfl) vc_transport_replaced)
def ct_transport_limited:Ct:=⟨[.val (.sl cU8),.val cI,.val cI],[.own 5 cU8,.val cI],fun d=>[0<=d.2.1,d.2.1+2<=d.1.length,(d.1.length:Int)<=1099511627776,0<=d.2.2.1,d.2.2.1<=65535],fun d=>((if (1480:Int)<d.1.length then [] else setW d.1 d.2.1.toNat d.2.2.1,if (1480:Int)<d.1.length then 5 else 0,()),())⟩
def an_transport_limited:PDs ct_transport_limited.ps->Anns:=(fun _=>{})
theorem vc_transport_limited :
 ∀(a:List Int) (b c:Int),(a.length<=maxLen/\ ∀(d:Int),d∈a->0<=d/\d<=255)/\R64 b/\R64 c/\True->0<=b/\b+2<=(Qbf8 a)/\(Qbf8 a)<=1099511627776/\0<=c/\c<=65535->ifP (decide (1480<(Qbf8 a))) ((([]:List Int)=if 1480<(Qbf8 a) then ([]:List Int) else setW a b.toNat c)/\(5:Int)=if 1480<(Qbf8 a) then (5:Int) else (0:Int)) (0<=b/\b+2<=(Qbf8 a)/\(Qbf8 a)<=1099511627776/\0<=c/\c<=65535/\(setW a b.toNat c=if 1480<(Qbf8 a) then ([]:List Int) else setW a b.toNat c)/\(0:Int)=if 1480<(Qbf8 a) then (5:Int) else (0:Int)):=by
  delta Qbf8
  rintro b a n-⟨h0,h1,h2,n0,n1⟩
  refine ifP_split (fun hb => ?_) (fun hb => ?_)
  · have hb:=of_decide_eq_true hb
    rw [if_pos hb,if_pos hb];exact ⟨rfl,rfl⟩
  · have hb:=of_decide_eq_false hb
    rw [if_neg hb,if_neg hb];exact ⟨h0,h1,h2,n0,n1,rfl,rfl⟩
theorem ok_transport_limited:SpecOK Tryz.prog GL 176 ct_transport_limited.spec:=Ct.okH _ Tryz.func176 (by kernel_rfl) (withSpec_ok noSpecs_ok ok_transport_replaced) hmix an_transport_limited (hideMp (by kernel_rfl) vc_transport_limited)
def ct_transport_bare:Ct:=⟨[.val (.sl cU8),.val cI],[.own 5 cU8,.val cI],fun d=>[0<=d.2.1,d.2.1+2<=d.1.length,(d.1.length:Int)<=1099511627776],fun d=>((setW d.1 d.2.1.toNat 0,wordAt d.1 d.2.1.toNat,()),())⟩
def an_transport_bare:PDs ct_transport_bare.ps->Anns:=(fun _=>{})
theorem vc_transport_bare :
 ∀(a:List Int) (b:Int),(a.length<=maxLen/\ ∀(c:Int),c∈a->0<=c/\c<=255)/\R64 b/\True->0<=b/\b+2<=(Qbf8 a)/\(Qbf8 a)<=1099511627776->0<=b/\b+2<=(Qbf8 a)/\(Qbf8 a)<=1099511627776/\(0:Int)<=0/\(0:Int)<=65535/\0<=b/\b+2<=(Qbf8 a)/\(Qbf8 a)<=1099511627776/\setW a b.toNat (0:Int)=setW a b.toNat (0:Int)/\wordAt a b.toNat=wordAt a b.toNat:=by
  delta Qbf8
  rintro b a-⟨h0,h1,h2⟩
  exact ⟨h0,h1,h2,by omega,by omega,h0,h1,h2,rfl,rfl⟩
theorem ok_transport_bare:SpecOK Tryz.prog GL 180 ct_transport_bare.spec:=Ct.okH _ Tryz.func180 (by kernel_rfl) (withSpec_ok (withSpec_ok noSpecs_ok ok_transport_replaced) ok_transport_word) hmix an_transport_bare (hideMp (by kernel_rfl) vc_transport_bare)
def ct_ref06_put:Ct:=⟨[.val (.sl cU8),.val cI,.val cI],[.own 5 cU8],fun d=>[0<=d.2.1,d.2.1+2<=d.1.length,(d.1.length:Int)<=1099511627776,0<=d.2.2.1,d.2.2.1<=65535],fun d=>((setW d.1 d.2.1.toNat d.2.2.1,()),())⟩
def an_ref06_put:PDs ct_ref06_put.ps->Anns:=(fun _=>{})
def Qbf13 :=
 (140737488355328:Nat)
theorem vc_ref06_put :
 ∀(a:List Int) (b c:Int),(a.length<=maxLen/\ ∀(d:Int),d∈a->0<=d/\d<=255)/\R64 b/\R64 c/\True->0<=b/\b+2<=(Qbf8 a)/\(Qbf8 a)<=1099511627776/\0<=c/\c<=65535->a.length*(1:Nat)<=(Qbf13)/\(Qbf5 a b c):=by
  delta Qbf5 Qbf8 Qbf13
  rintro b a n-⟨h0,h1,h2,n0,n1⟩
  rw [w64 (n:=a+1) (by omega) (by omega),shr8 n0,IntKind.wrap_u8',IntKind.wrap_u8',List.length_set]
  refine ⟨by omega,by omega,by omega,by omega,by omega,by omega,?_⟩
  rw [setW,show (a+1).toNat=a.toNat+1 from by omega]
theorem ok_ref06_put:SpecOK Tryz.prog GL 161 ct_ref06_put.spec:=Ct.okH _ Tryz.func161 (by kernel_rfl) noSpecs_ok hmix an_ref06_put (hideMp (by kernel_rfl) vc_ref06_put)
def ct_ref06_word:Ct:=⟨[.val cI],[.val .bool],fun d=>[],fun d=>((word16 d.1,()),())⟩
def an_ref06_word:PDs ct_ref06_word.ps->Anns:=(fun _=>{})
theorem vc_ref06_word :
 ∀(a:Int),R64 a/\True->True-> ∀(b:Bool),b=decide (0<=a)->(b->(b->b)/\True)/\(b->b)/\(bif b then decide (a<=65535) else false)=word16 a:=by
  rintro n - -
  (repeat (intro (b_:Bool) (hb_:b_=_);(repeat refine ⟨(by first|(simp;done)|(rw [hb_];simp;done)|(rw [hb_];simp;omega)|(rw [hb_];simp;intros;omega)|(rw [hb_];simp +contextual;done)),?_⟩);subst hb_))
  unfold word16
  by_cases h:0<=n <;> simp [h] <;> omega
theorem ok_ref06_word:SpecOK Tryz.prog GL 160 ct_ref06_word.spec:=Ct.okH _ Tryz.func160 (by kernel_rfl) noSpecs_ok hmix an_ref06_word (hideMp (by kernel_rfl) vc_ref06_word)
def ct_ref06_octet:Ct:=⟨[.val cI],[.val .bool],fun d=>[],fun d=>((decide (0<=d.1/\d.1<=255),()),())⟩
def an_ref06_octet:PDs ct_ref06_octet.ps->Anns:=(fun _=>{})
theorem vc_ref06_octet :
 ∀(a:Int),R64 a/\True->True-> ∀(b:Bool),b=decide (0<=a)->(b->(b->b)/\True)/\(b->b)/\(bif b then decide (a<=255) else false)=decide (0<=a/\a<=255):=by
  rintro n - -
  (repeat (intro (b_:Bool) (hb_:b_=_);(repeat refine ⟨(by first|(simp;done)|(rw [hb_];simp;done)|(rw [hb_];simp;omega)|(rw [hb_];simp;intros;omega)|(rw [hb_];simp +contextual;done)),?_⟩);subst hb_))
  by_cases h:0<=n <;> simp [h] <;> omega
theorem ok_ref06_octet:SpecOK Tryz.prog GL 164 ct_ref06_octet.spec:=Ct.okH _ Tryz.func164 (by kernel_rfl) noSpecs_ok hmix an_ref06_octet (hideMp (by kernel_rfl) vc_ref06_octet)
def ct_ref06_long:Ct:=⟨[.val cI],[.val .bool],fun d=>[],fun d=>((decide (0<=d.1/\d.1<=4294967295),()),())⟩
def an_ref06_long:PDs ct_ref06_long.ps->Anns:=(fun _=>{})
theorem vc_ref06_long :
 ∀(a:Int),R64 a/\True->True-> ∀(b:Bool),b=decide (0<=a)->(b->(b->b)/\True)/\(b->b)/\(bif b then decide (a<4294967296) else false)=decide (0<=a/\a<=4294967295):=by
  rintro n - -
  (repeat (intro (b_:Bool) (hb_:b_=_);(repeat refine ⟨(by first|(simp;done)|(rw [hb_];simp;done)|(rw [hb_];simp;omega)|(rw [hb_];simp;intros;omega)|(rw [hb_];simp +contextual;done)),?_⟩);subst hb_))
  by_cases h:0<=n <;> simp [h] <;> omega
theorem ok_ref06_long:SpecOK Tryz.prog GL 163 ct_ref06_long.spec:=Ct.okH _ Tryz.func163 (by kernel_rfl) noSpecs_ok hmix an_ref06_long (hideMp (by kernel_rfl) vc_ref06_long)
def echoErr (e:Echo):Int:=if ¬ (word16 e.2.1=true/\word16 e.2.2.1=true) then 1 else if (1472:Int)<e.2.2.2.length then 5 else 0
def echoBody (e:Echo):List Int:=[if e.1 then 0 else 8,0,0,0]++(w2 e.2.1++(w2 e.2.2.1++e.2.2.2))
def echoEnc (e:Echo):List Int:=if echoErr e=0 then setW (echoBody e) 2 (csum (echoBody e)) else []
def noticeErr (n:Notice):Int:=if ¬ ((n.1=3∨n.1=11)/\0<=n.2.1/\n.2.1<=255) then 1 else if (n.2.2.length:Int)<28 then 3 else if (1472:Int)<n.2.2.length then 5 else 0
def noticeBody (n:Notice):List Int:=[n.1,n.2.1,0,0,0,0,0,0]++n.2.2
def noticeEnc (n:Notice):List Int:=if noticeErr n=0 then setW (noticeBody n) 2 (csum (noticeBody n)) else []
def pseudoB (src dst proto:Int) (b:List Int):List Int:=w4 src++(w4 dst++(w2 proto++(w2 b.length++b)))
def pseudo (src dst proto:Int) (b:List Int):Int:=if ¬ (0<=proto/\proto<=255)∨(65535:Int)<b.length then 0 else csum (pseudoB src dst proto b)
def sumU (src dst:Int) (b:List Int):Int:=if pseudo src dst 17 b=0 then 65535 else pseudo src dst 17 b
def udpErr (u:Dgram):Int:=if ¬ (word16 u.1=true/\word16 u.2.1=true) then 1 else if (1472:Int)<u.2.2.length then 5 else 0
def udpBody (u:Dgram):List Int:=w2 u.1++(w2 u.2.1++(w2 (8+u.2.2.length)++([0,0]++u.2.2)))
def udpEnc (src dst:Int) (u:Dgram):List Int:=if udpErr u=0 then setW (udpBody u) 6 (sumU src dst (udpBody u)) else []
def tcpOK (s:Seg):Prop:=word16 s.1=true/\word16 s.2.1=true/\(0<=s.2.2.1/\s.2.2.1<=4294967295)/\(0<=s.2.2.2.1/\s.2.2.2.1<=4294967295)/\(0<=s.2.2.2.2.1/\s.2.2.2.2.1<=255)/\word16 s.2.2.2.2.2.1=true
instance (s:Seg):Decidable (tcpOK s):=by unfold tcpOK;infer_instance
def tcpErr (s:Seg):Int:=if ¬ tcpOK s then 1 else if (1460:Int)<s.2.2.2.2.2.2.length then 5 else 0
def tcpBody (s:Seg):List Int:=w2 s.1++(w2 s.2.1++(w4 s.2.2.1++(w4 s.2.2.2.1++([80,s.2.2.2.2.1]++(w2 s.2.2.2.2.2.1++([0,0,0,0]++s.2.2.2.2.2.2))))))
def tcpEnc (src dst:Int) (s:Seg):List Int:=if tcpErr s=0 then setW (tcpBody s) 16 (pseudo src dst 6 (tcpBody s)) else []
def bytes (l:List Int):Prop:=∀ x∈l,0<=x/\x<=255
theorem bytes_app {a b:List Int} (ha:bytes a) (hb:bytes b):bytes (a++b):=fun x h=>(List.mem_append.1 h).elim (ha x) (hb x)
theorem bytes_w2 (n:Int):bytes (w2 n):=by intro x h;simp [w2] at h;omega
theorem bytes_w4 (n:Int):bytes (w4 n):=by intro x h;simp [w4] at h;omega
theorem bytes_cons {a:Int} {l:List Int} (h0:0<=a) (h1:a<=255) (h:bytes l):bytes (a::l):=by
  intro x hx
  rcases List.mem_cons.1 hx with rfl|hx
  · exact ⟨h0,h1⟩
  · exact h x hx
theorem bytes_nil:bytes []:=by intro x h;cases h
theorem csum_range {b:List Int} (h:bytes b):0<=csum b/\csum b<=65535:=by
  have:=oc_range (sumF_range true b h).1
  unfold csum;omega
theorem lim_fin {p data B enc:List Int} {a c err:Int} (hp:p++data=B) (ha:0<=a) (h8:a+2<=p.length) (hp1:p.length<=100) (hd:(data.length:Int)<=1073741824) (c0:0<=c) (c1:c<=65535)
    (he:enc=if (1480:Int)<B.length then [] else setW B a.toNat c) (hr:err=if (1480:Int)<B.length then 5 else 0) :
    0<=a/\a+2<=((p++data).length:Int)/\((p++data).length:Int)<=1099511627776/\0<=c/\c<=65535/\(if (1480:Int)<((p++data).length:Int) then [] else setW (p++data) a.toNat c)=enc/\(if (1480:Int)<((p++data).length:Int) then (5:Int) else 0)=err:=by
  have hl:(p++data).length=p.length+data.length:=List.length_append
  rw [hp] at hl ⊢
  exact ⟨ha,by omega,by omega,c0,c1,he.symm,hr.symm⟩
theorem app_lim {p data:List Int} (hp1:p.length<=100) (hd:(data.length:Int)<=1073741824):(p.length+data.length)*1<=140737488355328/\((p++data).length:Int)<=1099511627776:=by
  rw [List.length_append];omega
theorem allIn2 (lim a b:Int):allIn lim [a,b]=true↔(0<=a/\a<=lim)/\0<=b/\b<=lim:=by simp [allIn]
theorem allIn1 (lim a:Int):allIn lim [a]=true↔0<=a/\a<=lim:=by simp [allIn]
theorem word16_iff (n:Int):word16 n=true↔0<=n/\n<=65535:=by simp [word16]
theorem echo_len (e:Echo):(echoBody e).length=8+e.2.2.2.length:=by simp [echoBody,w2];omega
theorem echo_bad {e:Echo} (h:¬ (word16 e.2.1=true/\word16 e.2.2.1=true)):[]=echoEnc e/\1=echoErr e:=by
  have:echoErr e=1:=by rw [echoErr,if_pos h]
  rw [echoEnc,this];simp
theorem echo_ok {e:Echo} (h:word16 e.2.1=true/\word16 e.2.2.1=true):(echoEnc e=if (1480:Int)<(echoBody e).length then [] else setW (echoBody e) 2 (csum (echoBody e)))/\echoErr e=if (1480:Int)<(echoBody e).length then 5 else 0:=by
  have hl:=echo_len e
  have he:echoErr e=if (1480:Int)<(echoBody e).length then 5 else 0:=by
    rw [echoErr,if_neg (fun k=>k h)]
    by_cases hd:(1472:Int)<e.2.2.2.length
    · rw [if_pos hd,if_pos (by omega)]
    · rw [if_neg hd,if_neg (by omega)]
  refine ⟨?_,he⟩
  rw [echoEnc,he]
  by_cases hd:(1480:Int)<(echoBody e).length
  · rw [if_pos hd,if_pos hd];rfl
  · rw [if_neg hd,if_neg hd];rfl
theorem echo_bytes {e:Echo} (h:bytes e.2.2.2):bytes (echoBody e):=by
  refine bytes_app (bytes_cons ?_ ?_ (bytes_cons (by omega) (by omega) (bytes_cons (by omega) (by omega) (bytes_cons (by omega) (by omega) bytes_nil)))) (bytes_app (bytes_w2 _) (bytes_app (bytes_w2 _) h))
  · split <;> omega
  · split <;> omega
theorem w2_split (n:Int) (r:List Int):w2 (n/65536)++(w2 (n%65536)++r)=w4 n++r:=by
  unfold w2 w4
  simp only [List.cons_append,List.nil_append]
  have e1:n/65536/256%256=n/16777216%256:=by omega
  have e2:n%65536/256%256=n/256%256:=by omega
  have e3:n%65536%256=n%256:=by omega
  rw [e1,e2,e3]
theorem w2_pair {t k:Int} (t0:0<=t) (t1:t<=255) (k0:0<=k) (k1:k<=255):w2 (t*256+k)=[t,k]:=by
  unfold w2
  have e1:(t*256+k)/256%256=t:=by omega
  have e2:(t*256+k)%256=k:=by omega
  rw [e1,e2]
theorem or8' {n x:Int} (h0:0<=n) (h1:n<=65535) (h2:0<=x) (h3:x<=255):bits .or .i64 (shlI .i64 n 8) x=n*256+x:=by
  have:=or8 h0 (by omega) h2 h3
  rwa [w64 (n:=x) (by omega) (by omega)] at this
theorem shr16 {n:Int} (h0:0<=n):shrI .i64 n 16=n/65536:=by
  have e:=shr_pow (n:=n) (k:=2) h0 (by omega)
  exact e
theorem shr16u {n:Int} (h0:0<=n) (h1:n<=4294967295):IntKind.wrap .i64 (shrI .u32 n 16)=n/65536:=by
  have:shrI .u32 n 16=n/65536:=by
    unfold shrI
    rw [Int.fdiv_eq_ediv_of_nonneg _ (by decide)]
    rfl
  rw [this,w64 (by omega) (by omega)]
theorem and16u {n:Int} (h0:0<=n) (h1:n<=4294967295):IntKind.wrap .i64 (bits .and .u32 n 65535)=n%65536:=by
  rw [u32_and n 65535 h0 (by omega) (by decide) (by decide)]
  have:(n.toNat &&& Int.toNat 65535)=n.toNat%65536:=Nat.and_two_pow_sub_one_eq_mod n.toNat 16
  rw [this,w64 (by omega) (by omega)];omega
theorem notice_len (e:Notice):(noticeBody e).length=8+e.2.2.length:=by simp [noticeBody];omega
theorem notice_bad {e:Notice} (h:¬ ((e.1=3∨e.1=11)/\0<=e.2.1/\e.2.1<=255)):[]=noticeEnc e/\1=noticeErr e:=by
  have:noticeErr e=1:=by rw [noticeErr,if_pos h]
  rw [noticeEnc,this];simp
theorem notice_short {e:Notice} (h:(e.1=3∨e.1=11)/\0<=e.2.1/\e.2.1<=255) (h2:(e.2.2.length:Int)<28):[]=noticeEnc e/\3=noticeErr e:=by
  have:noticeErr e=3:=by rw [noticeErr,if_neg (fun k=>k h),if_pos h2]
  rw [noticeEnc,this];simp
theorem notice_ok {e:Notice} (h:(e.1=3∨e.1=11)/\0<=e.2.1/\e.2.1<=255) (h2:¬ (e.2.2.length:Int)<28):(noticeEnc e=if (1480:Int)<(noticeBody e).length then [] else setW (noticeBody e) 2 (csum (noticeBody e)))/\noticeErr e=if (1480:Int)<(noticeBody e).length then 5 else 0:=by
  have hl:=notice_len e
  have he:noticeErr e=if (1480:Int)<(noticeBody e).length then 5 else 0:=by
    rw [noticeErr,if_neg (fun k=>k h),if_neg h2]
    by_cases hd:(1472:Int)<e.2.2.length
    · rw [if_pos hd,if_pos (by omega)]
    · rw [if_neg hd,if_neg (by omega)]
  refine ⟨?_,he⟩
  rw [noticeEnc,he]
  by_cases hd:(1480:Int)<(noticeBody e).length
  · rw [if_pos hd,if_pos hd];rfl
  · rw [if_neg hd,if_neg hd];rfl
theorem notice_bytes {e:Notice} (h:(e.1=3∨e.1=11)/\0<=e.2.1/\e.2.1<=255) (hd:bytes e.2.2):bytes (noticeBody e):=by
  refine bytes_app (bytes_cons (by omega) (by omega) (bytes_cons h.2.1 h.2.2 ?_)) hd
  intro x hx;simp at hx;omega
theorem udp_len (e:Dgram):(udpBody e).length=8+e.2.2.length:=by simp [udpBody,w2];omega
theorem udp_bad {a b:Int} {e:Dgram} (h:¬ (word16 e.1=true/\word16 e.2.1=true)):[]=udpEnc a b e/\1=udpErr e:=by
  have:udpErr e=1:=by rw [udpErr,if_pos h]
  rw [udpEnc,this];simp
theorem udp_ok {a b:Int} {e:Dgram} (h:word16 e.1=true/\word16 e.2.1=true):(udpEnc a b e=if (1480:Int)<(udpBody e).length then [] else setW (udpBody e) 6 (sumU a b (udpBody e)))/\udpErr e=if (1480:Int)<(udpBody e).length then 5 else 0:=by
  have hl:=udp_len e
  have he:udpErr e=if (1480:Int)<(udpBody e).length then 5 else 0:=by
    rw [udpErr,if_neg (fun k=>k h)]
    by_cases hd:(1472:Int)<e.2.2.length
    · rw [if_pos hd,if_pos (by omega)]
    · rw [if_neg hd,if_neg (by omega)]
  refine ⟨?_,he⟩
  rw [udpEnc,he]
  by_cases hd:(1480:Int)<(udpBody e).length
  · rw [if_pos hd,if_pos hd];rfl
  · rw [if_neg hd,if_neg hd];rfl
theorem udp_bytes {e:Dgram} (h:bytes e.2.2):bytes (udpBody e) :=
  bytes_app (bytes_w2 _) (bytes_app (bytes_w2 _) (bytes_app (bytes_w2 _) (bytes_app (bytes_cons (by omega) (by omega) (bytes_cons (by omega) (by omega) bytes_nil)) h)))
theorem tcp_len (e:Seg):(tcpBody e).length=20+e.2.2.2.2.2.2.length:=by simp [tcpBody,w2,w4];omega
theorem tcp_bad {a b:Int} {e:Seg} (h:¬ tcpOK e):[]=tcpEnc a b e/\1=tcpErr e:=by
  have:tcpErr e=1:=by rw [tcpErr,if_pos h]
  rw [tcpEnc,this];simp
theorem tcp_ok {a b:Int} {e:Seg} (h:tcpOK e):(tcpEnc a b e=if (1480:Int)<(tcpBody e).length then [] else setW (tcpBody e) 16 (pseudo a b 6 (tcpBody e)))/\tcpErr e=if (1480:Int)<(tcpBody e).length then 5 else 0:=by
  have hl:=tcp_len e
  have he:tcpErr e=if (1480:Int)<(tcpBody e).length then 5 else 0:=by
    rw [tcpErr,if_neg (fun k=>k h)]
    by_cases hd:(1460:Int)<e.2.2.2.2.2.2.length
    · rw [if_pos hd,if_pos (by omega)]
    · rw [if_neg hd,if_neg (by omega)]
  refine ⟨?_,he⟩
  rw [tcpEnc,he]
  by_cases hd:(1480:Int)<(tcpBody e).length
  · rw [if_pos hd,if_pos hd];rfl
  · rw [if_neg hd,if_neg hd];rfl
theorem tcp_bytes {e:Seg} (h:tcpOK e) (hd:bytes e.2.2.2.2.2.2):bytes (tcpBody e):=by
  obtain ⟨-,-,-,-,hf,-⟩:=h
  refine bytes_app (bytes_w2 _) (bytes_app (bytes_w2 _) (bytes_app (bytes_w4 _) (bytes_app (bytes_w4 _) (bytes_app (bytes_cons (by omega) (by omega) (bytes_cons hf.1 hf.2 bytes_nil)) (bytes_app (bytes_w2 _) (bytes_app ?_ hd))))))
  intro x hx;simp at hx;omega
theorem pseudo_bytes {a b p:Int} {l:List Int} (h:bytes l):bytes (pseudoB a b p l):=bytes_app (bytes_w4 _) (bytes_app (bytes_w4 _) (bytes_app (bytes_w2 _) (bytes_app (bytes_w2 _) h)))
theorem pseudo_range {a b p:Int} {l:List Int} (h:bytes l):0<=pseudo a b p l/\pseudo a b p l<=65535:=by
  unfold pseudo;split
  · omega
  · exact csum_range (pseudo_bytes h)
theorem sumU_range {a b:Int} {l:List Int} (h:bytes l):0<=sumU a b l/\sumU a b l<=65535:=by
  have:=pseudo_range (a:=a) (b:=b) (p:=17) h
  unfold sumU;split <;> omega
theorem low5 {err n:Int} (h:err=if (1480:Int)<n then 5 else 0) (hn:¬ (1480:Int)<n):0=err:=by rw [h,if_neg hn]
def ct_transport_EncodeEcho:Ct:=⟨[.agg cEcho],[.own 5 cU8,.val cI],fun d=>[(d.1.2.2.2.length:Int)<=1073741824],fun d=>((echoEnc d.1,echoErr d.1,()),())⟩
def an_transport_EncodeEcho:PDs ct_transport_EncodeEcho.ps->Anns:=(fun _=>{})
def Qbf2 (a:Bool) (b c:Int) (d e:List Int) :=
 (e.length+d.length)*(1:Nat)<=(Qbf13)/\((List.length (e++d)):Int)<=1099511627776/\ ∀(f:Int),f=65535 -oc (sumF true (e++d))->(0:Int)<=2/\(2:Int)+2<=((List.length (e++d)):Int)/\((List.length (e++d)):Int)<=1099511627776/\0<=f/\f<=65535/\(if 1480<((List.length (e++d)):Int) then ([]:List Int) else setW (e++d) (Int.toNat (2:Int)) f)=echoEnc (a,b,c,d)/\(if 1480<((List.length (e++d)):Int) then (5:Int) else (0:Int))=echoErr (a,b,c,d)
def Qbf14 (d:List Int) :=
 d.length<=maxLen/\ ∀(e:Int),e∈d->0<=e/\e<=255
theorem vc_transport_EncodeEcho :
 ∀(a:Bool) (b c:Int) (d:List Int),(True/\R64 b/\R64 c/\(Qbf14 d))/\True->(d.length:Int)<=1073741824->ifP (! allIn (65535:Int) [b,c]) (([]:List Int)=echoEnc (a,b,c,d)/\(1:Int)=echoErr (a,b,c,d)) (ifP a ((0:Int)<=8/\allIn (65535:Int) [shlI IntKind.i64 (0:Int) (8:Int),(0:Int),b,c]=true/\((List.length [shlI IntKind.i64 (0:Int) (8:Int),(0:Int),b,c]):Int)<=1073741824/\ ∀(e:List Int),e=List.flatMap w2 [shlI IntKind.i64 (0:Int) (8:Int),(0:Int),b,c]->(Qbf2 a b c d e)) ((0:Int)<=8/\allIn (65535:Int) [shlI IntKind.i64 (8:Int) (8:Int),(0:Int),b,c]=true/\((List.length [shlI IntKind.i64 (8:Int) (8:Int),(0:Int),b,c]):Int)<=1073741824/\ ∀(e:List Int),e=List.flatMap w2 [shlI IntKind.i64 (8:Int) (8:Int),(0:Int),b,c]->(Qbf2 a b c d e))):=by
  delta Qbf2 Qbf13 Qbf14
  rintro r i q data ⟨⟨-,-,-,-,hd⟩,-⟩ hl
  refine ifP_split (fun h => ?_) (fun h => ?_)
  · apply echo_bad
    simp only [Bool.not_eq_true',← Bool.not_eq_true,allIn2] at h
    simp only [word16_iff];exact h
  have hw:word16 i=true/\word16 q=true:=by
    simp only [Bool.not_eq_false',allIn2] at h
    simp only [word16_iff];exact h
  have hw':=hw
  simp only [word16_iff] at hw'
  obtain ⟨e1,e2⟩:=echo_ok (e:=(r,i,q,data)) hw
  have hB:=csum_range (echo_bytes (e:=(r,i,q,data)) hd)
  cases r with
  | true =>
    refine ifP_split (fun _ => ?_) (fun hr=>by cases hr)
    refine ⟨by omega,by rw [show shlI .i64 0 8=0 from by decide];simp [allIn];omega,by simp,?_⟩
    intro p hpe
    have hp8:p.length=8:=by rw [hpe];simp [w2]
    have hp:p++data=echoBody (true,i,q,data):=by
      rw [hpe,show shlI .i64 0 8=0 from by decide];simp [w2,echoBody]
    refine ⟨(app_lim (by omega) hl).1,(app_lim (by omega) hl).2,?_⟩
    intro c hc
    have hc:c=csum (echoBody (true,i,q,data)):=by rw [hc,hp];rfl
    exact lim_fin (a:=2) hp (by omega) (by omega) (by omega) hl (by rw [hc];exact hB.1) (by rw [hc];exact hB.2) (by rw [hc];exact e1) e2
  | false =>
    refine ifP_split (fun hr=>by cases hr) (fun _ => ?_)
    refine ⟨by omega,by rw [show shlI .i64 8 8=2048 from by decide];simp [allIn];omega,by simp,?_⟩
    intro p hpe
    have hp8:p.length=8:=by rw [hpe];simp [w2]
    have hp:p++data=echoBody (false,i,q,data):=by
      rw [hpe,show shlI .i64 8 8=2048 from by decide];simp [w2,echoBody]
    refine ⟨(app_lim (by omega) hl).1,(app_lim (by omega) hl).2,?_⟩
    intro c hc
    have hc:c=csum (echoBody (false,i,q,data)):=by rw [hc,hp];rfl
    exact lim_fin (a:=2) hp (by omega) (by omega) (by omega) hl (by rw [hc];exact hB.1) (by rw [hc];exact hB.2) (by rw [hc];exact e1) e2
theorem ok_transport_EncodeEcho:SpecOK Tryz.prog GL 134 ct_transport_EncodeEcho.spec:=Ct.okH _ Tryz.func134 (by kernel_rfl) (withSpec_ok (withSpec_ok (withSpec_ok (withSpec_ok noSpecs_ok ok_transport_within) (Ct.named ok_transport_put)) (Ct.named ok_wire_Checksum)) ok_transport_limited) hmix an_transport_EncodeEcho (hideMp (by kernel_rfl) vc_transport_EncodeEcho)
def ct_ref06_EncodeEcho:Ct:=⟨[.agg cEcho],[.own 5 cU8,.val cI],fun d=>[(d.1.2.2.2.length:Int)<=1073741824],fun d=>((echoEnc d.1,echoErr d.1,()),())⟩
def an_ref06_EncodeEcho:PDs ct_ref06_EncodeEcho.ps->Anns:=(fun _=>{})
def Qbf3 (a:Bool) (b c:Int) (d f:List Int) :=
 (f.length:Int)<=1099511627776/\ ∀(g:List Int),g=putB f c (2:Int)->(g.length+d.length)*(1:Nat)<=(Qbf13)/\((List.length (g++d)):Int)<=1099511627776/\ ∀(h:Int),h=65535 -oc (sumF true (g++d))->(0:Int)<=2/\(2:Int)+2<=((List.length (g++d)):Int)/\((List.length (g++d)):Int)<=1099511627776/\0<=h/\h<=65535/\setW (g++d) (Int.toNat (2:Int)) h=echoEnc (a,b,c,d)/\(0:Int)=echoErr (a,b,c,d)
def Qbf4 (e:Bool) :=
 (! e)->((! e)->(! e))/\True
theorem vc_ref06_EncodeEcho :
 ∀(a:Bool) (b c:Int) (d:List Int),(True/\R64 b/\R64 c/\(Qbf14 d))/\True->(d.length:Int)<=1073741824-> ∀(e:Bool),e= ! word16 b->(Qbf4 e)/\(Qbf4 e)/\(Qbf4 e)/\(e=false->(! e))/\ifP (bif e then true else ! word16 c) (([]:List Int)=echoEnc (a,b,c,d)/\(1:Int)=echoErr (a,b,c,d)) (ifP (decide (1480<IntKind.wrap .i64 ((d.length:Int)+(8:Int)))) (([]:List Int)=echoEnc (a,b,c,d)/\(5:Int)=echoErr (a,b,c,d)) (ifP a (((List.length [IntKind.wrap .u8 (0:Int),(0:Int),(0:Int),(0:Int)]):Int)<=1099511627776/\ ∀(f:List Int),f=putB [IntKind.wrap .u8 (0:Int),(0:Int),(0:Int),(0:Int)] b (2:Int)->(Qbf3 a b c d f)) (((List.length [IntKind.wrap .u8 (8:Int),(0:Int),(0:Int),(0:Int)]):Int)<=1099511627776/\ ∀(f:List Int),f=putB [IntKind.wrap .u8 (8:Int),(0:Int),(0:Int),(0:Int)] b (2:Int)->(Qbf3 a b c d f)))):=by
  delta Qbf3 Qbf4 Qbf13 Qbf14
  rintro r i q data ⟨⟨-,-,-,-,hd⟩,-⟩ hl
  rintro b rfl
  refine ⟨by simp,by simp,by simp,by simp,?_⟩
  rw [w64 (n:=(data.length:Int)+8) (by omega) (by omega)]
  refine ifP_split (fun h => ?_) (fun h => ?_)
  · apply echo_bad
    rintro ⟨h1,h2⟩
    simp at h1 h2
    simp [h1,h2] at h
  have hw:word16 i=true/\word16 q=true:=by
    simp [Bool.cond_eq_ite] at h;exact h
  have hw':=hw
  simp only [word16_iff] at hw'
  obtain ⟨e1,e2⟩:=echo_ok (e:=(r,i,q,data)) hw
  have hB:=csum_range (echo_bytes (e:=(r,i,q,data)) hd)
  have hbl:=echo_len (r,i,q,data)
  refine ifP_split (fun h5 => ?_) (fun h5 => ?_)
  · have h5:=of_decide_eq_true h5
    rw [e1,e2,if_pos (by simp only at hbl;omega),if_pos (by simp only at hbl;omega)];exact ⟨rfl,rfl⟩
  have h5:=of_decide_eq_false h5
  have h5:¬ (1480:Int)<(echoBody (r,i,q,data)).length:=by simp only at hbl;omega
  rw [if_neg h5] at e1
  cases r with
  | true =>
    refine ifP_split (fun _ => ?_) (fun hr=>by cases hr)
    refine ⟨by simp,?_⟩
    rintro p rfl
    rw [putB_2 hw'.1.1 hw'.1.2]
    refine ⟨by simp [w2],?_⟩
    intro p hpe
    rw [putB_2 hw'.2.1 hw'.2.2] at hpe
    have hp8:p.length=8:=by rw [hpe];simp [w2]
    have hp:p++data=echoBody (true,i,q,data):=by
      rw [hpe,show IntKind.wrap .u8 0=0 from by decide];simp [w2,echoBody]
    refine ⟨(app_lim (by omega) hl).1,(app_lim (by omega) hl).2,?_⟩
    intro c hc
    have hc:c=csum (echoBody (true,i,q,data)):=by rw [hc,hp];rfl
    rw [hp,hc]
    exact ⟨by omega,by omega,by omega,hB.1,hB.2,e1.symm,low5 e2 h5⟩
  | false =>
    refine ifP_split (fun hr=>by cases hr) (fun _ => ?_)
    refine ⟨by simp,?_⟩
    rintro p rfl
    rw [putB_2 hw'.1.1 hw'.1.2]
    refine ⟨by simp [w2],?_⟩
    intro p hpe
    rw [putB_2 hw'.2.1 hw'.2.2] at hpe
    have hp8:p.length=8:=by rw [hpe];simp [w2]
    have hp:p++data=echoBody (false,i,q,data):=by
      rw [hpe,show IntKind.wrap .u8 8=8 from by decide];simp [w2,echoBody]
    refine ⟨(app_lim (by omega) hl).1,(app_lim (by omega) hl).2,?_⟩
    intro c hc
    have hc:c=csum (echoBody (false,i,q,data)):=by rw [hc,hp];rfl
    rw [hp,hc]
    exact ⟨by omega,by omega,by omega,hB.1,hB.2,e1.symm,low5 e2 h5⟩
theorem ok_ref06_EncodeEcho:SpecOK Tryz.prog GL 110 ct_ref06_EncodeEcho.spec:=Ct.okH _ Tryz.func110 (by kernel_rfl) (withSpec_ok (withSpec_ok (withSpec_ok (withSpec_ok noSpecs_ok ok_ref06_word) (Ct.named ok_ref04_Push)) (Ct.named ok_ref04_Checksum)) ok_ref06_put) hmix an_ref06_EncodeEcho (hideMp (by kernel_rfl) vc_ref06_EncodeEcho)
def ct_transport_EncodeNotice:Ct:=⟨[.agg cNotice],[.own 5 cU8,.val cI],fun d=>[(d.1.2.2.length:Int)<=1073741824],fun d=>((noticeEnc d.1,noticeErr d.1,()),())⟩
def an_transport_EncodeNotice:PDs ct_transport_EncodeNotice.ps->Anns:=(fun _=>{})
def Qbf1 (a b:Int) (c:List Int) :=
 ifP (decide ((c.length:Int)<28)) (([]:List Int)=noticeEnc (a,b,c)/\(3:Int)=noticeErr (a,b,c)) ((0:Int)<=8/\allIn (65535:Int) [bits BinOp.or IntKind.i64 (shlI IntKind.i64 a (8:Int)) b,(0:Int),(0:Int),(0:Int)]=true/\((List.length [bits BinOp.or IntKind.i64 (shlI IntKind.i64 a (8:Int)) b,(0:Int),(0:Int),(0:Int)]):Int)<=1073741824/\ ∀(f:List Int),f=List.flatMap w2 [bits BinOp.or IntKind.i64 (shlI IntKind.i64 a (8:Int)) b,(0:Int),(0:Int),(0:Int)]->(f.length+c.length)*(1:Nat)<=(Qbf13)/\((List.length (f++c)):Int)<=1099511627776/\ ∀(g:Int),g=65535 -oc (sumF true (f++c))->(0:Int)<=2/\(2:Int)+2<=((List.length (f++c)):Int)/\((List.length (f++c)):Int)<=1099511627776/\0<=g/\g<=65535/\(if 1480<((List.length (f++c)):Int) then ([]:List Int) else setW (f++c) (Int.toNat (2:Int)) g)=noticeEnc (a,b,c)/\(if 1480<((List.length (f++c)):Int) then (5:Int) else (0:Int))=noticeErr (a,b,c))
theorem vc_transport_EncodeNotice :
 ∀(a b:Int) (c:List Int),(R64 a/\R64 b/\c.length<=maxLen/\ ∀(d:Int),d∈c->0<=d/\d<=255)/\True->(c.length:Int)<=1073741824-> ∀(d:Bool),d= ! decide (a=3)->(d->(d->d)/\True)/\(d->(d->d)/\True)/\(d->d)/\ ∀(e:Bool),(e=bif d then ! decide (a=11) else false)->(Qbf4 e)/\ifP (! e) (((! e)->(! e))/\(Qbf4 e)/\(e=false->(! e))/\ifP (bif e then true else ! allIn (255:Int) [b]) (([]:List Int)=noticeEnc (a,b,c)/\(1:Int)=noticeErr (a,b,c)) (Qbf1 a b c)) ((! e)=false/\(! e)=false/\(e=false->false=true)/\ifP (bif e then true else false) (([]:List Int)=noticeEnc (a,b,c)/\(1:Int)=noticeErr (a,b,c)) (Qbf1 a b c)):=by
  delta Qbf1 Qbf4 Qbf13
  rintro t k data ⟨⟨-,-,-,hd⟩,-⟩ hl
  rintro b rfl
  refine ⟨by simp,by simp,by simp,?_⟩
  intro b hb
  refine ⟨by simp,?_⟩
  cases b with
  | true =>
    have ht:¬ (t=3∨t=11):=by
      simp at hb;omega
    refine ifP_split (fun h=>by cases h) (fun _=>⟨rfl,rfl,by simp,ifP_split (fun _=>notice_bad (fun h=>ht h.1)) (fun h=>by cases h)⟩)
  | false =>
    have ht:t=3∨t=11:=by
      by_cases h3:t=3
      · exact .inl h3
      · simp [h3] at hb;exact .inr hb
    refine ifP_split (fun _=>⟨by simp,by simp,by simp,?_⟩) (fun h=>by cases h)
    refine ifP_split (fun h => ?_) (fun h => ?_)
    · apply notice_bad
      rintro ⟨-,h2⟩
      have:=(allIn1 255 k).2 h2
      rw [this] at h;cases h
    have hk:0<=k/\k<=255:=by
      apply (allIn1 255 k).1
      cases hx:allIn 255 [k] with
      | true=>rfl
      | false=>rw [hx] at h;cases h
    refine ifP_split (fun h2=>notice_short ⟨ht,hk⟩ (of_decide_eq_true h2)) (fun h2 => ?_)
    have h2:=of_decide_eq_false h2
    obtain ⟨e1,e2⟩:=notice_ok (e:=(t,k,data)) ⟨ht,hk⟩ h2
    have hB:=csum_range (notice_bytes (e:=(t,k,data)) ⟨ht,hk⟩ hd)
    rw [or8' (by omega) (by omega) hk.1 hk.2]
    refine ⟨by omega,by simp [allIn];omega,by simp,?_⟩
    intro p hpe
    have hp8:p.length=8:=by rw [hpe];simp [w2]
    have hp:p++data=noticeBody (t,k,data):=by
      rw [hpe]
      simp only [List.flatMap_cons,List.flatMap_nil,w2_pair (show 0<=t by omega) (show t<=255 by omega) hk.1 hk.2,show w2 0=[0,0] from rfl];rfl
    refine ⟨(app_lim (by omega) hl).1,(app_lim (by omega) hl).2,?_⟩
    intro c hc
    have hc:c=csum (noticeBody (t,k,data)):=by rw [hc,hp];rfl
    exact lim_fin (a:=2) hp (by omega) (by omega) (by omega) hl (by rw [hc];exact hB.1) (by rw [hc];exact hB.2) (by rw [hc];exact e1) e2
theorem ok_transport_EncodeNotice:SpecOK Tryz.prog GL 209 ct_transport_EncodeNotice.spec:=Ct.okH _ Tryz.func209 (by kernel_rfl) (withSpec_ok (withSpec_ok (withSpec_ok (withSpec_ok noSpecs_ok ok_transport_within) (Ct.named ok_transport_put)) (Ct.named ok_wire_Checksum)) ok_transport_limited) hmix an_transport_EncodeNotice (hideMp (by kernel_rfl) vc_transport_EncodeNotice)
def ct_ref06_EncodeNotice:Ct:=⟨[.agg cNotice],[.own 5 cU8,.val cI],fun d=>[(d.1.2.2.length:Int)<=1073741824],fun d=>((noticeEnc d.1,noticeErr d.1,()),())⟩
def an_ref06_EncodeNotice:PDs ct_ref06_EncodeNotice.ps->Anns:=(fun _=>{})
def Qbf6 (a b:Int) (c:List Int) :=
 [IntKind.wrap .u8 a,IntKind.wrap .u8 b,(0:Int),(0:Int),(0:Int),(0:Int),(0:Int),(0:Int)]++c
theorem vc_ref06_EncodeNotice :
 ∀(a b:Int) (c:List Int),(R64 a/\R64 b/\c.length<=maxLen/\ ∀(d:Int),d∈c->0<=d/\d<=255)/\True->(c.length:Int)<=1073741824-> ∀(d:Bool),d= ! decide (a=3)->(d->(d->d)/\True)/\(d->(d->d)/\True)/\(d->d)/\ ∀(e:Bool),(e=bif d then ! decide (a=11) else false)->(Qbf4 e)/\(Qbf4 e)/\(Qbf4 e)/\(e=false->(! e))/\ifP (bif e then true else ! decide (0<=b/\b<=255)) (([]:List Int)=noticeEnc (a,b,c)/\(1:Int)=noticeErr (a,b,c)) (ifP (decide ((c.length:Int)<28)) (([]:List Int)=noticeEnc (a,b,c)/\(3:Int)=noticeErr (a,b,c)) (ifP (decide (1480<IntKind.wrap .i64 ((c.length:Int)+(8:Int)))) (([]:List Int)=noticeEnc (a,b,c)/\(5:Int)=noticeErr (a,b,c)) ((List.length [IntKind.wrap .u8 a,IntKind.wrap .u8 b,(0:Int),(0:Int),(0:Int),(0:Int),(0:Int),(0:Int)]+c.length)*(1:Nat)<=(Qbf13)/\((List.length (Qbf6 a b c)):Int)<=1099511627776/\ ∀(f:Int),f=65535 -oc (sumF true (Qbf6 a b c))->(0:Int)<=2/\(2:Int)+2<=((List.length (Qbf6
 a b c)):Int)/\((List.length (Qbf6 a b c)):Int)<=1099511627776/\0<=f/\f<=65535/\setW (Qbf6 a b c) (Int.toNat (2:Int)) f=noticeEnc (a,b,c)/\(0:Int)=noticeErr (a,b,c)))):=by
  delta Qbf4 Qbf6 Qbf13
  rintro t k data ⟨⟨-,-,-,hd⟩,-⟩ hl
  rintro b rfl
  refine ⟨by simp,by simp,by simp,?_⟩
  intro b hb
  refine ⟨by simp,by simp,by simp,by simp,?_⟩
  rw [w64 (n:=(data.length:Int)+8) (by omega) (by omega)]
  refine ifP_split (fun h => ?_) (fun h => ?_)
  · apply notice_bad
    rintro ⟨h1,h2⟩
    have:b=false:=by rw [hb];rcases h1 with rfl|rfl <;> simp
    rw [this,decide_eq_true h2] at h;cases h
  have ht:t=3∨t=11:=by
    cases b with
    | true=>cases h
    | false =>
      by_cases h3:t=3
      · exact .inl h3
      · simp [h3] at hb;exact .inr hb
  have hk:0<=k/\k<=255:=by
    cases b with
    | true=>cases h
    | false=>exact Classical.byContradiction fun hk=>by rw [decide_eq_false hk] at h;cases h
  refine ifP_split (fun h2=>notice_short ⟨ht,hk⟩ (of_decide_eq_true h2)) (fun h2 => ?_)
  have h2:=of_decide_eq_false h2
  obtain ⟨e1,e2⟩:=notice_ok (e:=(t,k,data)) ⟨ht,hk⟩ h2
  have hB:=csum_range (notice_bytes (e:=(t,k,data)) ⟨ht,hk⟩ hd)
  have hbl:=notice_len (t,k,data)
  refine ifP_split (fun h5 => ?_) (fun h5 => ?_)
  · have h5:=of_decide_eq_true h5
    rw [e1,e2,if_pos (by simp only at hbl;omega),if_pos (by simp only at hbl;omega)];exact ⟨rfl,rfl⟩
  have h5:=of_decide_eq_false h5
  have h5:¬ (1480:Int)<(noticeBody (t,k,data)).length:=by simp only at hbl;omega
  rw [if_neg h5] at e1
  rw [wu8 (n:=t) (by omega) (by omega),wu8 hk.1 hk.2]
  have hp:[t,k,0,0,0,0,0,0]++data=noticeBody (t,k,data):=rfl
  refine ⟨(app_lim (by simp) hl).1,(app_lim (by simp) hl).2,?_⟩
  intro c hc
  have hc:c=csum (noticeBody (t,k,data)):=by rw [hc,hp];rfl
  rw [hp,hc]
  exact ⟨by omega,by omega,by omega,hB.1,hB.2,e1.symm,low5 e2 h5⟩
theorem ok_ref06_EncodeNotice:SpecOK Tryz.prog GL 128 ct_ref06_EncodeNotice.spec:=Ct.okH _ Tryz.func128 (by kernel_rfl) (withSpec_ok (withSpec_ok (withSpec_ok noSpecs_ok ok_ref06_octet) (Ct.named ok_ref04_Checksum)) ok_ref06_put) hmix an_ref06_EncodeNotice (hideMp (by kernel_rfl) vc_ref06_EncodeNotice)
def ct_transport_Pseudo:Ct:=⟨[.val cU32,.val cU32,.val cI,.val (.sl cU8)],[.val cI],fun d=>[(d.2.2.2.1.length:Int)<=1073741824],fun d=>((pseudo d.1 d.2.1 d.2.2.1 d.2.2.2.1,()),())⟩
def an_transport_Pseudo:PDs ct_transport_Pseudo.ps->Anns:=(fun _=>{})
theorem vc_transport_Pseudo :
 ∀(a b c:Int) (d:List Int),(0<=a/\a<=4294967295)/\(0<=b/\b<=4294967295)/\R64 c/\(Qbf14 d)/\True->(d.length:Int)<=1073741824-> ∀(e:Bool),e= ! allIn (255:Int) [c]->(Qbf4 e)/\(Qbf4 e)/\(e=false->(! e))/\ifP (bif e then true else decide (65535<(d.length:Int))) ((0:Int)=pseudo a b c d) ((0:Int)<=16/\(0:Int)<=16/\allIn (65535:Int) [IntKind.wrap .i64 (shrI IntKind.u32 a (16:Int)),IntKind.wrap .i64 (bits BinOp.and IntKind.u32 a (65535:Int)),IntKind.wrap .i64 (shrI IntKind.u32 b (16:Int)),IntKind.wrap .i64 (bits BinOp.and IntKind.u32 b (65535:Int)),c,(d.length:Int)]=true/\((List.length [IntKind.wrap .i64 (shrI IntKind.u32 a (16:Int)),IntKind.wrap .i64 (bits BinOp.and IntKind.u32 a (65535:Int)),IntKind.wrap .i64 (shrI IntKind.u32 b (16:Int)),IntKind.wrap .i64 (bits BinOp.and IntKind.u32 b (65535:Int)),c,(d.length:Int)]):Int)<=1073741824/\ ∀(f:List Int),f=List.flatMap w2 [IntKind.wrap .i64 (shrI
 IntKind.u32 a (16:Int)),IntKind.wrap .i64 (bits BinOp.and IntKind.u32 a (65535:Int)),IntKind.wrap .i64 (shrI IntKind.u32 b (16:Int)),IntKind.wrap .i64 (bits BinOp.and IntKind.u32 b (65535:Int)),c,(d.length:Int)]->(f.length+d.length)*(1:Nat)<=(Qbf13)/\((List.length (f++d)):Int)<=1099511627776/\ ∀(g:Int),g=65535 -oc (sumF true (f++d))->g=pseudo a b c d):=by
  delta Qbf4 Qbf13 Qbf14
  rintro a b p data ⟨⟨a0,a1⟩,⟨b0,b1⟩,-,⟨-,hd⟩,-⟩ hl
  rintro x rfl
  refine ⟨by simp,by simp,by simp,?_⟩
  refine ifP_split (fun h => ?_) (fun h => ?_)
  · rw [pseudo,if_pos]
    cases hx:allIn 255 [p] with
    | false=>exact .inl (fun k=>by rw [(allIn1 255 p).2 k] at hx;cases hx)
    | true=>rw [hx] at h;exact .inr (of_decide_eq_true h)
  have hp:0<=p/\p<=255:=by
    apply (allIn1 255 p).1
    cases hx:allIn 255 [p] with
    | true=>rfl
    | false=>rw [hx] at h;cases h
  have hn:¬ (65535:Int)<data.length:=by
    rw [(allIn1 255 p).2 hp] at h;exact of_decide_eq_false h
  rw [shr16u a0 a1,shr16u b0 b1,and16u a0 a1,and16u b0 b1]
  refine ⟨by omega,by omega,by simp [allIn];omega,by simp,?_⟩
  intro q hq
  have hp8:q.length=12:=by rw [hq];simp [w2]
  have hB:q++data=pseudoB a b p data:=by
    rw [hq]
    simp only [List.flatMap_cons,List.flatMap_nil,List.append_nil,List.append_assoc,w2_split]
    rfl
  refine ⟨(app_lim (by omega) hl).1,(app_lim (by omega) hl).2,?_⟩
  rintro c rfl
  rw [hB,pseudo,if_neg (by omega)];rfl
theorem ok_transport_Pseudo:SpecOK Tryz.prog GL 179 ct_transport_Pseudo.spec:=Ct.okH _ Tryz.func179 (by kernel_rfl) (withSpec_ok (withSpec_ok (withSpec_ok noSpecs_ok ok_transport_within) (Ct.named ok_transport_put)) (Ct.named ok_wire_Checksum)) hmix an_transport_Pseudo (hideMp (by kernel_rfl) vc_transport_Pseudo)
def ct_ref06_Pseudo:Ct:=⟨[.val cU32,.val cU32,.val cI,.val (.sl cU8)],[.val cI],fun d=>[(d.2.2.2.1.length:Int)<=1073741824],fun d=>((pseudo d.1 d.2.1 d.2.2.1 d.2.2.2.1,()),())⟩
def an_ref06_Pseudo:PDs ct_ref06_Pseudo.ps->Anns:=(fun _=>{})
theorem vc_ref06_Pseudo :
 ∀(a b c:Int) (d:List Int),(0<=a/\a<=4294967295)/\(0<=b/\b<=4294967295)/\R64 c/\(Qbf14 d)/\True->(d.length:Int)<=1073741824-> ∀(e:Bool),e= ! decide (0<=c/\c<=255)->(Qbf4 e)/\(Qbf4 e)/\(e=false->(! e))/\ifP (bif e then true else decide (65535<(d.length:Int))) ((0:Int)=pseudo a b c d) ((↑(0:Nat):Int)<=1099511627776/\ ∀(f:List Int),f=putB ([]:List Int) (IntKind.wrap .i64 a) (4:Int)->(f.length:Int)<=1099511627776/\ ∀(g:List Int),g=putB f (IntKind.wrap .i64 b) (4:Int)->(g.length:Int)<=1099511627776/\ ∀(h:List Int),h=putB g c (2:Int)->(h.length:Int)<=1099511627776/\ ∀(i:List Int),i=putB h (d.length:Int) (2:Int)->(i.length+d.length)*(1:Nat)<=(Qbf13)/\((List.length (i++d)):Int)<=1099511627776/\ ∀(j:Int),j=65535 -oc (sumF true (i++d))->j=pseudo a b c d):=by
  delta Qbf4 Qbf13 Qbf14
  rintro a b p data ⟨⟨a0,a1⟩,⟨b0,b1⟩,-,⟨-,hd⟩,-⟩ hl
  rintro x rfl
  refine ⟨by simp,by simp,by simp,?_⟩
  refine ifP_split (fun h => ?_) (fun h => ?_)
  · rw [pseudo,if_pos]
    by_cases hx:0<=p/\p<=255
    · rw [decide_eq_true hx] at h;exact .inr (of_decide_eq_true h)
    · exact .inl hx
  have hp:0<=p/\p<=255:=Classical.byContradiction fun hk=>by rw [decide_eq_false hk] at h;cases h
  have hn:¬ (65535:Int)<data.length:=by
    rw [decide_eq_true hp] at h;exact of_decide_eq_false h
  refine ⟨by simp,?_⟩
  intro q1 h1
  rw [w64 (n:=a) (by omega) (by omega),putB_4 a0 a1,List.nil_append] at h1
  refine ⟨by rw [h1];simp [w4],?_⟩
  intro q2 h2
  rw [w64 (n:=b) (by omega) (by omega),putB_4 b0 b1] at h2
  refine ⟨by rw [h2,h1];simp [w4],?_⟩
  intro q3 h3
  rw [putB_2 hp.1 (by omega)] at h3
  refine ⟨by rw [h3,h2,h1];simp [w2,w4],?_⟩
  intro q hq
  rw [putB_2 (by omega) (by omega)] at hq
  have hp8:q.length=12:=by rw [hq,h3,h2,h1];simp [w2,w4]
  have hB:q++data=pseudoB a b p data:=by
    rw [hq,h3,h2,h1]
    simp only [List.append_assoc]
    rfl
  refine ⟨(app_lim (by omega) hl).1,(app_lim (by omega) hl).2,?_⟩
  rintro c rfl
  rw [hB,pseudo,if_neg (by omega)];rfl
theorem ok_ref06_Pseudo:SpecOK Tryz.prog GL 126 ct_ref06_Pseudo.spec:=Ct.okH _ Tryz.func126 (by kernel_rfl) (withSpec_ok (withSpec_ok (withSpec_ok noSpecs_ok ok_ref06_octet) (Ct.named ok_ref04_Push)) (Ct.named ok_ref04_Checksum)) hmix an_ref06_Pseudo (hideMp (by kernel_rfl) vc_ref06_Pseudo)
def ct_transport_sumUDP:Ct:=⟨[.val cU32,.val cU32,.val (.sl cU8)],[.val cI],fun d=>[(d.2.2.1.length:Int)<=1073741824],fun d=>((sumU d.1 d.2.1 d.2.2.1,()),())⟩
def an_transport_sumUDP:PDs ct_transport_sumUDP.ps->Anns:=(fun _=>{})
theorem vc_transport_sumUDP :
 ∀(a b:Int) (c:List Int),(0<=a/\a<=4294967295)/\(0<=b/\b<=4294967295)/\(c.length<=maxLen/\ ∀(d:Int),d∈c->0<=d/\d<=255)/\True->(c.length:Int)<=1073741824->(c.length:Int)<=1073741824/\ifP (! decide (pseudo a b (17:Int) c=0)) (pseudo a b (17:Int) c=sumU a b c) ((65535:Int)=sumU a b c):=by
  rintro a b data-hl
  refine ⟨hl,ifP_split (fun h => ?_) (fun h => ?_)⟩
  · rw [sumU,if_neg];intro k;rw [decide_eq_true k] at h;cases h
  · rw [sumU,if_pos]
    exact Classical.byContradiction fun k=>by rw [decide_eq_false k] at h;cases h
theorem ok_transport_sumUDP:SpecOK Tryz.prog GL 178 ct_transport_sumUDP.spec:=Ct.okH _ Tryz.func178 (by kernel_rfl) (withSpec_ok noSpecs_ok ok_transport_Pseudo) hmix an_transport_sumUDP (hideMp (by kernel_rfl) vc_transport_sumUDP)
def ct_ref06_EncodeUDP:Ct:=⟨[.val cU32,.val cU32,.agg cDgram],[.own 5 cU8,.val cI],fun d=>[(d.2.2.1.2.2.length:Int)<=1073741824],fun d=>((udpEnc d.1 d.2.1 d.2.2.1,udpErr d.2.2.1,()),())⟩
def an_ref06_EncodeUDP:PDs ct_ref06_EncodeUDP.ps->Anns:=(fun _=>{})
def Qbf9 (e i:List Int) :=
 ((List.length (i++[(0:Int),(0:Int)]++e)):Int)
def Qbf11 (f:Bool) :=
 (! f)->((! f)->(! f))/\True
theorem vc_ref06_EncodeUDP :
 ∀(a b c d:Int) (e:List Int),(0<=a/\a<=4294967295)/\(0<=b/\b<=4294967295)/\(R64 c/\R64 d/\e.length<=maxLen/\ ∀(f:Int),f∈e->0<=f/\f<=255)/\True->(e.length:Int)<=1073741824-> ∀(f:Bool),f= ! word16 c->(Qbf11 f)/\(Qbf11 f)/\(Qbf11 f)/\(f=false->(! f))/\ifP (bif f then true else ! word16 d) (([]:List Int)=udpEnc a b (c,d,e)/\(1:Int)=udpErr (c,d,e)) (ifP (decide (1480<IntKind.wrap .i64 ((e.length:Int)+(8:Int)))) (([]:List Int)=udpEnc a b (c,d,e)/\(5:Int)=udpErr (c,d,e)) ((↑(0:Nat):Int)<=1099511627776/\ ∀(g:List Int),g=putB ([]:List Int) c (2:Int)->(g.length:Int)<=1099511627776/\ ∀(h:List Int),h=putB g d (2:Int)->(h.length:Int)<=1099511627776/\ ∀(i:List Int),i=putB h (IntKind.wrap .i64 ((e.length:Int)+(8:Int))) (2:Int)->(i.length+List.length [(0:Int),(0:Int)])*(1:Nat)<=(Qbf13)/\(List.length (i++[(0:Int),(0:Int)])+e.length)*(1:Nat)<=(Qbf13)/\(Qbf9 e i)<=1073741824/\ ∀(j:Int),j=pseudo a b (17:Int)
 (i++[(0:Int),(0:Int)]++e)->ifP (decide (j=0)) ((0:Int)<=6/\(6:Int)+2<=(Qbf9 e i)/\(Qbf9 e i)<=1099511627776/\(0:Int)<=65535/\(65535:Int)<=65535/\setW (i++[(0:Int),(0:Int)]++e) (Int.toNat (6:Int)) (65535:Int)=udpEnc a b (c,d,e)/\(0:Int)=udpErr (c,d,e)) ((0:Int)<=6/\(6:Int)+2<=(Qbf9 e i)/\(Qbf9 e i)<=1099511627776/\0<=j/\j<=65535/\setW (i++[(0:Int),(0:Int)]++e) (Int.toNat (6:Int)) j=udpEnc a b (c,d,e)/\(0:Int)=udpErr (c,d,e)))):=by
  delta Qbf9 Qbf11 Qbf13
  rintro a b sp dp data ⟨-,-,⟨-,-,-,hd⟩,-⟩ hl
  rintro x rfl
  refine ⟨by simp,by simp,by simp,by simp,?_⟩
  rw [w64 (n:=(data.length:Int)+8) (by omega) (by omega)]
  refine ifP_split (fun h => ?_) (fun h => ?_)
  · apply udp_bad
    rintro ⟨h1,h2⟩
    simp at h1 h2
    simp [h1,h2] at h
  have hw:word16 sp=true/\word16 dp=true:=by
    simp [Bool.cond_eq_ite] at h;exact h
  have hw':=hw
  simp only [word16_iff] at hw'
  obtain ⟨e1,e2⟩:=udp_ok (a:=a) (b:=b) (e:=(sp,dp,data)) hw
  have hB:=sumU_range (a:=a) (b:=b) (udp_bytes (e:=(sp,dp,data)) hd)
  have hbl:=udp_len (sp,dp,data)
  refine ifP_split (fun h5 => ?_) (fun h5 => ?_)
  · have h5:=of_decide_eq_true h5
    rw [e1,e2,if_pos (by simp only at hbl;omega),if_pos (by simp only at hbl;omega)];exact ⟨rfl,rfl⟩
  have h5:=of_decide_eq_false h5
  have h5':¬ (1480:Int)<(udpBody (sp,dp,data)).length:=by simp only at hbl;omega
  rw [if_neg h5'] at e1
  refine ⟨by simp,?_⟩
  intro q1 h1
  rw [putB_2 hw'.1.1 hw'.1.2,List.nil_append] at h1
  refine ⟨by rw [h1];simp [w2],?_⟩
  intro q2 h2
  rw [putB_2 hw'.2.1 hw'.2.2] at h2
  refine ⟨by rw [h2,h1];simp [w2],?_⟩
  intro q3 h3
  rw [putB_2 (by omega) (by omega)] at h3
  have hp8:q3.length=6:=by rw [h3,h2,h1];simp [w2]
  have hp:q3++[0,0]++data=udpBody (sp,dp,data):=by
    rw [h3,h2,h1]
    simp only [List.append_assoc,udpBody]
    rw [Int.add_comm 8]
  rw [hp]
  refine ⟨by simp only [List.length_cons,List.length_nil];omega,by simp only [List.length_append,List.length_cons,List.length_nil];omega,by simp only at hbl;omega,?_⟩
  rintro c rfl
  have hs:∀ c,c=sumU a b (udpBody (sp,dp,data))->setW (udpBody (sp,dp,data)) (Int.toNat 6) c=udpEnc a b (sp,dp,data)/\0=udpErr (sp,dp,data):=by
    rintro c rfl;exact ⟨e1.symm,low5 e2 h5'⟩
  refine ifP_split (fun hz => ?_) (fun hz => ?_)
  · have hz:=of_decide_eq_true hz
    exact ⟨by omega,by simp only at hbl;omega,by simp only at hbl;omega,by omega,by omega,hs _ (by rw [sumU,if_pos hz])⟩
  · have hz:=of_decide_eq_false hz
    have hr:=pseudo_range (a:=a) (b:=b) (p:=17) (udp_bytes (e:=(sp,dp,data)) hd)
    exact ⟨by omega,by simp only at hbl;omega,by simp only at hbl;omega,hr.1,hr.2,hs _ (by rw [sumU,if_neg hz])⟩
theorem ok_ref06_EncodeUDP:SpecOK Tryz.prog GL 127 ct_ref06_EncodeUDP.spec:=Ct.okH _ Tryz.func127 (by kernel_rfl) (withSpec_ok (withSpec_ok (withSpec_ok (withSpec_ok noSpecs_ok ok_ref06_word) (Ct.named ok_ref04_Push)) (Ct.named ok_ref06_Pseudo)) ok_ref06_put) hmix an_ref06_EncodeUDP (hideMp (by kernel_rfl) vc_ref06_EncodeUDP)
theorem or20480 {f:Int} (h0:0<=f) (h1:f<=255):bits .or .i64 20480 f=80*256+f:=by
  have:=or8' (n:=80) (x:=f) (by omega) (by omega) h0 h1
  rwa [show shlI .i64 80 8=20480 from by decide] at this
theorem w2_20480 {f:Int} (h0:0<=f) (h1:f<=255):w2 (80*256+f)=[80,f]:=w2_pair (by omega) (by omega) h0 h1
def ct_transport_EncodeTCP:Ct:=⟨[.val cU32,.val cU32,.agg cSeg],[.own 5 cU8,.val cI],fun d=>[(d.2.2.1.2.2.2.2.2.2.length:Int)<=1000000],fun d=>((tcpEnc d.1 d.2.1 d.2.2.1,tcpErr d.2.2.1,()),())⟩
def an_transport_EncodeTCP:PDs ct_transport_EncodeTCP.ps->Anns:=(fun _=>{})
def Qbf0 (a b:Int) (c:Int×Int×Int×Int×Int×Int×List Int) :=
 (0:Int)<=16/\(0:Int)<=16/\allIn (65535:Int) [c.1,c.2.1,shrI IntKind.i64 c.2.2.1 (16:Int),bits BinOp.and IntKind.i64 c.2.2.1 (65535:Int),shrI IntKind.i64 c.2.2.2.1 (16:Int),bits BinOp.and IntKind.i64 c.2.2.2.1 (65535:Int),bits BinOp.or IntKind.i64 (20480:Int) c.2.2.2.2.1,c.2.2.2.2.2.1,(0:Int),(0:Int)]=true/\((List.length [c.1,c.2.1,shrI IntKind.i64 c.2.2.1 (16:Int),bits BinOp.and IntKind.i64 c.2.2.1 (65535:Int),shrI IntKind.i64 c.2.2.2.1 (16:Int),bits BinOp.and IntKind.i64 c.2.2.2.1 (65535:Int),bits BinOp.or IntKind.i64 (20480:Int) c.2.2.2.2.1,c.2.2.2.2.2.1,(0:Int),(0:Int)]):Int)<=1073741824/\ ∀(f:List Int),f=List.flatMap w2 [c.1,c.2.1,shrI IntKind.i64 c.2.2.1 (16:Int),bits BinOp.and IntKind.i64 c.2.2.1 (65535:Int),shrI IntKind.i64 c.2.2.2.1 (16:Int),bits BinOp.and IntKind.i64 c.2.2.2.1 (65535:Int),bits BinOp.or IntKind.i64 (20480:Int)
 c.2.2.2.2.1,c.2.2.2.2.2.1,(0:Int),(0:Int)]->(f.length+c.2.2.2.2.2.2.length)*(1:Nat)<=(Qbf13)/\((List.length (f++c.2.2.2.2.2.2)):Int)<=1073741824/\ ∀(g:Int),g=pseudo a b (6:Int) (f++c.2.2.2.2.2.2)->(0:Int)<=16/\(16:Int)+2<=((List.length (f++c.2.2.2.2.2.2)):Int)/\((List.length (f++c.2.2.2.2.2.2)):Int)<=1099511627776/\0<=g/\g<=65535/\(if 1480<((List.length (f++c.2.2.2.2.2.2)):Int) then ([]:List Int) else setW (f++c.2.2.2.2.2.2) (Int.toNat (16:Int)) g)=tcpEnc a b c/\(if 1480<((List.length (f++c.2.2.2.2.2.2)):Int) then (5:Int) else (0:Int))=tcpErr c
def Qbf7 (a b:Int) (c:Int×Int×Int×Int×Int×Int×List Int) (e:Bool) :=
 (Qbf4 e)/\ifP (! e) (((! e)->(! e))/\(Qbf4 e)/\(e=false->(! e))/\ifP (bif e then true else ! allIn (255:Int) [c.2.2.2.2.1]) (([]:List Int)=tcpEnc a b c/\(1:Int)=tcpErr c) (Qbf0 a b c)) ((! e)=false/\(! e)=false/\(e=false->false=true)/\ifP (bif e then true else false) (([]:List Int)=tcpEnc a b c/\(1:Int)=tcpErr c) (Qbf0 a b c))
def Qbf12 (d:Bool) :=
 (! d)->((! d)->(! d))/\True
theorem vc_transport_EncodeTCP :
 ∀(a b:Int) (c:Int×Int×Int×Int×Int×Int×List Int),(0<=a/\a<=4294967295)/\(0<=b/\b<=4294967295)/\CT.wf cSeg c/\True->(c.2.2.2.2.2.2.length:Int)<=1000000-> ∀(d:Bool),d= ! allIn (65535:Int) [c.1,c.2.1,c.2.2.2.2.2.1]->(Qbf12 d)/\(Qbf12 d)/\ifP (! d) (((! d)->(! d))/\((! d)->(! d))/\(Qbf12 d)/\(d=false->(! d))/\ ∀(e:Bool),(e=bif d then true else ! allIn (4294967295:Int) [c.2.2.1,c.2.2.2.1])->(Qbf7 a b c e)) ((! d)=false/\(! d)=false/\(d=false->false=true)/\ ∀(e:Bool),(e=bif d then true else false)->(Qbf7 a b c e)):=by
  delta Qbf0 Qbf4 Qbf7 Qbf12 Qbf13
  rintro a b e ⟨-,-,⟨-,-,-,-,-,-,-,hd⟩,-⟩ hl
  intro b1 hb1
  refine ⟨by simp,by simp,?_⟩
  cases b1 with
  | true =>
    have hbad:¬ tcpOK e:=by
      rintro ⟨h1,h2,-,-,-,h3⟩
      rw [word16_iff] at h1 h2 h3
      rw [show allIn 65535 [e.1,e.2.1,e.2.2.2.2.2.1]=true from by simp [allIn];omega] at hb1;cases hb1
    refine ifP_split (fun h=>by cases h) (fun _=>⟨rfl,rfl,by simp,?_⟩)
    intro b2 hb2
    have hb2:b2=true:=hb2
    subst hb2
    exact ⟨by simp,ifP_split (fun h=>by cases h) (fun _=>⟨rfl,rfl,by simp,ifP_split (fun _=>tcp_bad hbad) (fun h=>by cases h)⟩)⟩
  | false =>
    have h1:(0<=e.1/\e.1<=65535)/\(0<=e.2.1/\e.2.1<=65535)/\0<=e.2.2.2.2.2.1/\e.2.2.2.2.2.1<=65535:=by
      have:allIn 65535 [e.1,e.2.1,e.2.2.2.2.2.1]=true:=by
        cases hx:allIn 65535 [e.1,e.2.1,e.2.2.2.2.2.1] with
        | true=>rfl
        | false=>rw [hx] at hb1;cases hb1
      simpa [allIn] using this
    refine ifP_split (fun _=>⟨by simp,by simp,by simp,by simp,?_⟩) (fun h=>by cases h)
    intro b2 hb2
    refine ⟨by simp,?_⟩
    cases b2 with
    | true =>
      have hbad:¬ tcpOK e:=by
        rintro ⟨-,-,h3,h4,-,-⟩
        have:allIn 4294967295 [e.2.2.1,e.2.2.2.1]=true:=(allIn2 _ _ _).2 ⟨h3,h4⟩
        rw [this] at hb2;cases hb2
      exact ifP_split (fun h=>by cases h) (fun _=>⟨rfl,rfl,by simp,ifP_split (fun _=>tcp_bad hbad) (fun h=>by cases h)⟩)
    | false =>
      have h2:(0<=e.2.2.1/\e.2.2.1<=4294967295)/\0<=e.2.2.2.1/\e.2.2.2.1<=4294967295:=by
        apply (allIn2 _ _ _).1
        cases hx:allIn 4294967295 [e.2.2.1,e.2.2.2.1] with
        | true=>rfl
        | false=>rw [hx] at hb2;cases hb2
      refine ifP_split (fun _=>⟨by simp,by simp,by simp,ifP_split (fun h => ?_) (fun h => ?_)⟩) (fun h=>by cases h)
      · apply tcp_bad
        rintro ⟨-,-,-,-,h3,-⟩
        rw [(allIn1 _ _).2 h3] at h;cases h
      have h3:0<=e.2.2.2.2.1/\e.2.2.2.2.1<=255:=by
        apply (allIn1 _ _).1
        cases hx:allIn 255 [e.2.2.2.2.1] with
        | true=>rfl
        | false=>rw [hx] at h;cases h
      have hok:tcpOK e:=⟨(word16_iff _).2 h1.1,(word16_iff _).2 h1.2.1,h2.1,h2.2,h3,(word16_iff _).2 h1.2.2⟩
      obtain ⟨e1,e2⟩:=tcp_ok (a:=a) (b:=b) hok
      have hB:=pseudo_range (a:=a) (b:=b) (p:=6) (tcp_bytes hok hd)
      have hbl:=tcp_len e
      rw [shr16 h2.1.1,shr16 h2.2.1,i64_and65535,i64_and65535,or20480 h3.1 h3.2]
      refine ⟨by omega,by omega,by simp [allIn];omega,by simp,?_⟩
      intro p hpe
      have hp8:p.length=20:=by rw [hpe];simp [w2]
      have hp:p++e.2.2.2.2.2.2=tcpBody e:=by
        rw [hpe]
        simp only [List.flatMap_cons,List.flatMap_nil,List.append_nil,List.append_assoc,w2_split,show w2 0=[0,0] from rfl,w2_20480 h3.1 h3.2]
        rfl
      refine ⟨(app_lim (by omega) (by omega)).1,by rw [List.length_append];omega,?_⟩
      intro c hc
      have hc:c=pseudo a b 6 (tcpBody e):=by rw [hc,hp]
      exact lim_fin (a:=16) hp (by omega) (by omega) (by omega) (by omega) (by rw [hc];exact hB.1) (by rw [hc];exact hB.2) (by rw [hc];exact e1) e2
theorem ok_transport_EncodeTCP:SpecOK Tryz.prog GL 138 ct_transport_EncodeTCP.spec:=Ct.okH _ Tryz.func138 (by kernel_rfl) (withSpec_ok (withSpec_ok (withSpec_ok (withSpec_ok noSpecs_ok ok_transport_within) (Ct.named ok_transport_put)) (Ct.named ok_transport_Pseudo)) ok_transport_limited) hmix an_transport_EncodeTCP (hideMp (by kernel_rfl) vc_transport_EncodeTCP)
def ct_ref06_EncodeTCP:Ct:=⟨[.val cU32,.val cU32,.agg cSeg],[.own 5 cU8,.val cI],fun d=>[(d.2.2.1.2.2.2.2.2.2.length:Int)<=1000000],fun d=>((tcpEnc d.1 d.2.1 d.2.2.1,tcpErr d.2.2.1,()),())⟩
def an_ref06_EncodeTCP:PDs ct_ref06_EncodeTCP.ps->Anns:=(fun _=>{})
def Qbf10 (c:Int×Int×Int×Int×Int×Int×List Int) (o:List Int) :=
 o++[(0:Int),(0:Int),(0:Int),(0:Int)]++c.2.2.2.2.2.2
theorem vc_ref06_EncodeTCP :
 ∀(a b:Int) (c:Int×Int×Int×Int×Int×Int×List Int),(0<=a/\a<=4294967295)/\(0<=b/\b<=4294967295)/\CT.wf cSeg c/\True->(c.2.2.2.2.2.2.length:Int)<=1000000-> ∀(d:Bool),d= ! word16 c.1->(Qbf12 d)/\(Qbf12 d)/\(Qbf12 d)/\(d=false->(! d))/\ ∀(e:Bool),(e=bif d then true else ! word16 c.2.1)->(Qbf4 e)/\(Qbf4 e)/\(Qbf4 e)/\(e=false->(! e))/\ ∀(f:Bool),(f=bif e then true else ! decide (0<=c.2.2.1/\c.2.2.1<=4294967295))->(Qbf11 f)/\(Qbf11 f)/\(Qbf11 f)/\(f=false->(! f))/\ ∀(g:Bool),(g=bif f then true else ! decide (0<=c.2.2.2.1/\c.2.2.2.1<=4294967295))->((! g)->((! g)->(! g))/\True)/\((! g)->((! g)->(! g))/\True)/\((! g)->((! g)->(! g))/\True)/\(g=false->(! g))/\ ∀(h:Bool),(h=bif g then true else ! decide (0<=c.2.2.2.2.1/\c.2.2.2.2.1<=255))->((! h)->((! h)->(! h))/\True)/\((! h)->((! h)->(! h))/\True)/\((! h)->((! h)->(! h))/\True)/\(h=false->(! h))/\ifP (bif h then true else ! word16 c.2.2.2.2.2.1)
 (([]:List Int)=tcpEnc a b c/\(1:Int)=tcpErr c) (ifP (decide (1480<IntKind.wrap .i64 ((c.2.2.2.2.2.2.length:Int)+(20:Int)))) (([]:List Int)=tcpEnc a b c/\(5:Int)=tcpErr c) ((↑(0:Nat):Int)<=1099511627776/\ ∀(i:List Int),i=putB ([]:List Int) c.1 (2:Int)->(i.length:Int)<=1099511627776/\ ∀(j:List Int),j=putB i c.2.1 (2:Int)->(j.length:Int)<=1099511627776/\ ∀(k:List Int),k=putB j c.2.2.1 (4:Int)->(k.length:Int)<=1099511627776/\ ∀(l:List Int),l=putB k c.2.2.2.1 (4:Int)->(l.length:Int)<=1099511627776/\ ∀(m:List Int),m=putB l (80:Int) (1:Int)->(m.length:Int)<=1099511627776/\ ∀(n:List Int),n=putB m c.2.2.2.2.1 (1:Int)->(n.length:Int)<=1099511627776/\ ∀(o:List Int),o=putB n c.2.2.2.2.2.1 (2:Int)->(o.length+List.length [(0:Int),(0:Int),(0:Int),(0:Int)])*(1:Nat)<=(Qbf13)/\(List.length (o++[(0:Int),(0:Int),(0:Int),(0:Int)])+c.2.2.2.2.2.2.length)*(1:Nat)<=(Qbf13)/\((List.length (Qbf10 c
 o)):Int)<=1073741824/\ ∀(p:Int),p=pseudo a b (6:Int) (Qbf10 c o)->(0:Int)<=16/\(16:Int)+2<=((List.length (Qbf10 c o)):Int)/\((List.length (Qbf10 c o)):Int)<=1099511627776/\0<=p/\p<=65535/\setW (Qbf10 c o) (Int.toNat (16:Int)) p=tcpEnc a b c/\(0:Int)=tcpErr c)):=by
  delta Qbf4 Qbf10 Qbf11 Qbf12 Qbf13
  rintro a b e ⟨-,-,⟨-,-,-,-,-,-,-,hd⟩,-⟩ hl
  intro b1 h1
  refine ⟨by simp,by simp,by simp,by simp,?_⟩
  intro b2 h2
  refine ⟨by simp,by simp,by simp,by simp,?_⟩
  intro b3 h3
  refine ⟨by simp,by simp,by simp,by simp,?_⟩
  intro b4 h4
  refine ⟨by simp,by simp,by simp,by simp,?_⟩
  intro b5 h5
  refine ⟨by simp,by simp,by simp,by simp,?_⟩
  rw [w64 (n:=(e.2.2.2.2.2.2.length:Int)+20) (by omega) (by omega)]
  have hall:(bif b5 then true else !word16 e.2.2.2.2.2.1) = !decide (tcpOK e):=by
    rw [h5,h4,h3,h2,h1]
    by_cases w1:word16 e.1=true
    all_goals by_cases w2:word16 e.2.1=true
    all_goals by_cases w3:word16 e.2.2.2.2.2.1=true
    all_goals by_cases q1:0<=e.2.2.1/\e.2.2.1<=4294967295
    all_goals by_cases q2:0<=e.2.2.2.1/\e.2.2.2.1<=4294967295
    all_goals by_cases q3:0<=e.2.2.2.2.1/\e.2.2.2.2.1<=255
    all_goals simp [tcpOK,w1,w2,w3,q1,q2,q3]
  rw [hall]
  refine ifP_split (fun h=>tcp_bad (by simpa using h)) (fun h => ?_)
  have hok:tcpOK e:=by simpa using h
  obtain ⟨e1,e2⟩:=tcp_ok (a:=a) (b:=b) hok
  have hB:=pseudo_range (a:=a) (b:=b) (p:=6) (tcp_bytes hok hd)
  have hbl:=tcp_len e
  refine ifP_split (fun h5 => ?_) (fun h5 => ?_)
  · have h5:=of_decide_eq_true h5
    rw [e1,e2,if_pos (by omega),if_pos (by omega)];exact ⟨rfl,rfl⟩
  have h5:=of_decide_eq_false h5
  have h5':¬ (1480:Int)<(tcpBody e).length:=by omega
  rw [if_neg h5'] at e1
  obtain ⟨k1,k2,k3,k4,k5,k6⟩:=hok
  rw [word16_iff] at k1 k2 k6
  refine ⟨by simp,?_⟩
  intro q1 h1
  rw [putB_2 k1.1 k1.2,List.nil_append] at h1
  have l1:q1.length=2:=by rw [h1];rfl
  refine ⟨by omega,?_⟩
  intro q2 h2
  rw [putB_2 k2.1 k2.2] at h2
  have l2:q2.length=4:=by rw [h2,List.length_append,l1];rfl
  refine ⟨by omega,?_⟩
  intro q3 h3
  rw [putB_4 k3.1 k3.2] at h3
  have l3:q3.length=8:=by rw [h3,List.length_append,l2];rfl
  refine ⟨by omega,?_⟩
  intro q4 h4
  rw [putB_4 k4.1 k4.2] at h4
  have l4:q4.length=12:=by rw [h4,List.length_append,l3];rfl
  refine ⟨by omega,?_⟩
  intro q5 h5
  rw [putB_1 (by omega) (by omega)] at h5
  have l5:q5.length=13:=by rw [h5,List.length_append,l4];rfl
  refine ⟨by omega,?_⟩
  intro q6 h6
  rw [putB_1 k5.1 k5.2] at h6
  have l6:q6.length=14:=by rw [h6,List.length_append,l5];rfl
  refine ⟨by omega,?_⟩
  intro q7 h7
  rw [putB_2 k6.1 k6.2] at h7
  have l7:q7.length=16:=by rw [h7,List.length_append,l6];rfl
  have hp:q7++[0,0,0,0]++e.2.2.2.2.2.2=tcpBody e:=by
    rw [h7,h6,h5,h4,h3,h2,h1]
    simp only [List.append_assoc]
    rfl
  rw [hp]
  refine ⟨by simp only [List.length_cons,List.length_nil];omega,by simp only [List.length_append,List.length_cons,List.length_nil];omega,by omega,?_⟩
  rintro c rfl
  exact ⟨by omega,by omega,by omega,hB.1,hB.2,e1.symm,low5 e2 h5'⟩
theorem ok_ref06_EncodeTCP:SpecOK Tryz.prog GL 114 ct_ref06_EncodeTCP.spec:=Ct.okH _ Tryz.func114 (by kernel_rfl) (withSpec_ok (withSpec_ok (withSpec_ok (withSpec_ok (withSpec_ok (withSpec_ok noSpecs_ok ok_ref06_word) ok_ref06_octet) ok_ref06_long) (Ct.named ok_ref04_Push)) (Ct.named ok_ref06_Pseudo)) ok_ref06_put) hmix an_ref06_EncodeTCP (hideMp (by kernel_rfl) vc_ref06_EncodeTCP)
end Go.RS

/- Trdec: decoding messages. -/
namespace Go.RS
open Go.SX Go.Proofs
set_option maxRecDepth 100000
set_option linter.unusedVariables false
def echoForm (b:List Int):Prop:=(b.getD (Int.toNat 0) default=8∨b.getD (Int.toNat 0) default=0)/\b.getD (Int.toNat 1) default=0
instance (b:List Int):Decidable (echoForm b):=by unfold echoForm;infer_instance
def unEchoErr (b:List Int):Int:=if (b.length:Int)<8 then 3 else if ¬ echoForm b then 2 else if (1480:Int)<b.length then 5 else if csum (setW b (Int.toNat 2) 0)≠wordAt b (Int.toNat 2) then 4 else 0
def unEcho (b:List Int):Echo:=if unEchoErr b=0 then (decide (b.getD (Int.toNat 0) default=0),wordAt b (Int.toNat 4),wordAt b (Int.toNat 6),b.drop 8) else (false,0,0,[])
def noticeForm (b:List Int):Prop:=(b.getD (Int.toNat 0) default=3∨b.getD (Int.toNat 0) default=11)/\wordAt b (Int.toNat 4)=0/\wordAt b (Int.toNat 6)=0
instance (b:List Int):Decidable (noticeForm b):=by unfold noticeForm;infer_instance
def unNoticeErr (b:List Int):Int:=if (b.length:Int)<36 then 3 else if ¬ noticeForm b then 2 else if (1480:Int)<b.length then 5 else if csum (setW b (Int.toNat 2) 0)≠wordAt b (Int.toNat 2) then 4 else 0
def unNotice (b:List Int):Notice:=if unNoticeErr b=0 then (b.getD (Int.toNat 0) default,b.getD (Int.toNat 1) default,b.drop 8) else (0,0,[])
def unUDPErr (s d:Int) (b:List Int):Int:=if (b.length:Int)<8 then 3 else if ¬ wordAt b (Int.toNat 4)=b.length then 2 else if (1480:Int)<b.length then 5 else if sumU s d (setW b (Int.toNat 6) 0)≠wordAt b (Int.toNat 6) then 4 else 0
def unUDP (s d:Int) (b:List Int):Dgram:=if unUDPErr s d b=0 then (wordAt b (Int.toNat 0),wordAt b (Int.toNat 2),b.drop 8) else (0,0,[])
def tcpForm (b:List Int):Prop:=b.getD (Int.toNat 12) default=80/\wordAt b (Int.toNat 18)=0
instance (b:List Int):Decidable (tcpForm b):=by unfold tcpForm;infer_instance
def unTCPErr (s d:Int) (b:List Int):Int:=if (b.length:Int)<20 then 3 else if ¬ tcpForm b then 2 else if (1480:Int)<b.length then 5 else if pseudo s d 6 (setW b (Int.toNat 16) 0)≠wordAt b (Int.toNat 16) then 4 else 0
def unTCP (s d:Int) (b:List Int):Seg:=if unTCPErr s d b=0 then (wordAt b (Int.toNat 0),wordAt b (Int.toNat 2),wordAt b (Int.toNat 4)*65536+wordAt b (Int.toNat 6),wordAt b (Int.toNat 8)*65536+wordAt b (Int.toNat 10),b.getD (Int.toNat 13) default,wordAt b (Int.toNat 14),b.drop 20) else (0,0,0,0,0,0,[])
theorem unEcho_err {b:List Int} {e:Int} (h:unEchoErr b=e) (he:e≠0):(false,0,0,[])=unEcho b/\e=unEchoErr b:=by
  rw [unEcho,if_neg (by rw [h];exact he),h];exact ⟨rfl,rfl⟩
theorem unNotice_err {b:List Int} {e:Int} (h:unNoticeErr b=e) (he:e≠0):(0,0,[])=unNotice b/\e=unNoticeErr b:=by
  rw [unNotice,if_neg (by rw [h];exact he),h];exact ⟨rfl,rfl⟩
theorem unUDP_err {s d:Int} {b:List Int} {e:Int} (h:unUDPErr s d b=e) (he:e≠0):(0,0,[])=unUDP s d b/\e=unUDPErr s d b:=by
  rw [unUDP,if_neg (by rw [h];exact he),h];exact ⟨rfl,rfl⟩
theorem unTCP_err {s d:Int} {b:List Int} {e:Int} (h:unTCPErr s d b=e) (he:e≠0):(0,0,0,0,0,0,[])=unTCP s d b/\e=unTCPErr s d b:=by
  rw [unTCP,if_neg (by rw [h];exact he),h];exact ⟨rfl,rfl⟩
theorem sub_drop (b:List Int) (k:Nat):subL b k (Int.toNat (b.length:Int))=b.drop k:=by unfold subL;simp
theorem len8 (l:List Int) (h:¬ (l.length:Int)<8):∃ a0 a1 a2 a3 a4 a5 a6 a7 r,l=a0::a1::a2::a3::a4::a5::a6::a7::r:=by
  match l,h with
  | a0::a1::a2::a3::a4::a5::a6::a7::r,_=>exact ⟨a0,a1,a2,a3,a4,a5,a6,a7,r,rfl⟩
  | [],h=>simp at h
  | [_],h=>simp at h
  | [_,_],h=>simp at h
  | [_,_,_],h=>simp at h
  | [_,_,_,_],h=>simp at h
  | [_,_,_,_,_],h=>simp at h
  | [_,_,_,_,_,_],h=>simp at h
  | [_,_,_,_,_,_,_],h=>simp at h
theorem getV2 (b:List Int) (k:Nat) (h:k+2<=b.length) (hk:(k:Int)<=1000000):getV b k 2=wordAt b k:=by
  rw [getV,if_neg (by omega)];rfl
theorem split_c {c a b:Int} (h0:0<=c) (h1:c<=65535) (a0:0<=a) (a1:a<=255) (b0:0<=b) (b1:b<=255):(c/256%256=a/\c%256=b)↔c=a*256+b:=by omega
theorem re_echo {b:List Int} (hb:bytes b) (h8:¬ (b.length:Int)<8) (hl:¬ (1480:Int)<b.length) (hf:echoForm b) :
    echoEnc (decide (b.getD (Int.toNat 0) default=0),getV b 4 2,getV b 6 2,b.drop (Int.toNat 8))=b↔csum (setW b (Int.toNat 2) 0)=wordAt b (Int.toNat 2):=by
  obtain ⟨a0,a1,a2,a3,a4,a5,a6,a7,r,rfl⟩:=len8 b h8
  have e4:=getV2 (a0::a1::a2::a3::a4::a5::a6::a7::r) 4 (by simp) (by omega)
  have e6:=getV2 (a0::a1::a2::a3::a4::a5::a6::a7::r) 6 (by simp) (by omega)
  have r4:wordAt (a0::a1::a2::a3::a4::a5::a6::a7::r) 4=a4*256+a5:=by simp [wordAt,numB]
  have r6:wordAt (a0::a1::a2::a3::a4::a5::a6::a7::r) 6=a6*256+a7:=by simp [wordAt,numB]
  have r2:wordAt (a0::a1::a2::a3::a4::a5::a6::a7::r) (Int.toNat 2)=a2*256+a3:=by simp [wordAt,numB]
  have q2:=hb a2 (by simp)
  have q3:=hb a3 (by simp)
  have q4:=hb a4 (by simp)
  have q5:=hb a5 (by simp)
  have q6:=hb a6 (by simp)
  have q7:=hb a7 (by simp)
  obtain ⟨f0,f1⟩:=hf
  have f0:a0=8∨a0=0:=f0
  have f1:a1=0:=f1
  subst f1
  have hbody:echoBody (decide (a0=0),a4*256+a5,a6*256+a7,r)=setW (a0::0::a2::a3::a4::a5::a6::a7::r) (Int.toNat 2) 0:=by
    unfold echoBody
    simp only [w2_pair q4.1 q4.2 q5.1 q5.2,w2_pair q6.1 q6.2 q7.1 q7.2]
    rcases f0 with rfl|rfl <;> simp [setW]
  have hs:setW (a0::0::a2::a3::a4::a5::a6::a7::r) (Int.toNat 2) 0=a0::0::0::0::a4::a5::a6::a7::r:=by simp [setW]
  have hbb:bytes (a0::0::0::0::a4::a5::a6::a7::r):=by
    intro x hx
    by_cases h0:x=0
    · omega
    · exact hb x (by simp [h0] at hx ⊢;rcases hx with h|h|h|h|h|h <;> simp [h])
  have hc:=csum_range hbb
  rw [show ((4:Nat):Int)=4 from rfl] at e4
  rw [show ((6:Nat):Int)=6 from rfl] at e6
  rw [e4,e6,r4,r6,r2]
  obtain ⟨k1,k2⟩:=echo_ok (e:=(decide (a0=0),a4*256+a5,a6*256+a7,r)) ⟨(word16_iff _).2 (by show 0<=a4*256+a5/\a4*256+a5<=65535;omega),(word16_iff _).2 (by show 0<=a6*256+a7/\a6*256+a7<=65535;omega)⟩
  have hlen:=echo_len (decide (a0=0),a4*256+a5,a6*256+a7,r)
  have hl2:¬ (1480:Int)<((8+r.length:Nat):Int):=by simp only [List.length_cons] at hl;omega
  rw [hlen] at k1
  rw [if_neg hl2,hbody,hs] at k1
  show echoEnc (decide (a0=0),a4*256+a5,a6*256+a7,r)=_↔_
  rw [k1,hs]
  generalize csum (a0::0::0::0::a4::a5::a6::a7::r)=c at hc
  rw [← split_c hc.1 hc.2 q2.1 q2.2 q3.1 q3.2]
  simp [setW]
theorem eight_bytes {a0 a1 a2 a3 a4 a5 a6 a7:Int} {r:List Int} (h:bytes (a0::a1::a2::a3::a4::a5::a6::a7::r)):(0<=a0/\a0<=255)/\(0<=a1/\a1<=255)/\(0<=a2/\a2<=255)/\(0<=a3/\a3<=255)/\(0<=a4/\a4<=255)/\(0<=a5/\a5<=255)/\(0<=a6/\a6<=255)/\(0<=a7/\a7<=255)/\bytes r :=
  ⟨h _ (by simp),h _ (by simp),h _ (by simp),h _ (by simp),h _ (by simp),h _ (by simp),h _ (by simp),h _ (by simp),fun x hx=>h x (by simp [hx])⟩
theorem bytes_set {b:List Int} {i:Nat} {v:Int} (h:bytes b) (h0:0<=v) (h1:v<=255):bytes (b.set i v):=by
  intro x hx
  rcases List.mem_or_eq_of_mem_set hx with hx|rfl
  · exact h x hx
  · exact ⟨h0,h1⟩
theorem bytes_setW {b:List Int} {i:Nat} {v:Int} (h:bytes b):bytes (setW b i v):=bytes_set (bytes_set h (by omega) (by omega)) (by omega) (by omega)
theorem wordAt_range {b:List Int} {k:Nat} (h:bytes b):0<=wordAt b k/\wordAt b k<=65535:=by
  have:=numB_bound 2 ((b.drop k).take 2) (by rw [List.length_take];omega) (fun x hx=>h x (List.mem_of_mem_drop (List.mem_of_mem_take hx)))
  have e:(256:Int)^2=65536:=rfl
  unfold wordAt;omega
theorem setW_len (b:List Int) (i:Nat) (v:Int):(setW b i v).length=b.length:=by simp [setW]
theorem re_udp {s d:Int} {b:List Int} (hb:bytes b) (h8:¬ (b.length:Int)<8) (hl:¬ (1480:Int)<b.length) (hf:wordAt b (Int.toNat 4)=b.length) :
    udpEnc s d (getV b 0 2,getV b 2 2,b.drop (Int.toNat 8))=b↔sumU s d (setW b (Int.toNat 6) 0)=wordAt b (Int.toNat 6):=by
  obtain ⟨a0,a1,a2,a3,a4,a5,a6,a7,r,rfl⟩:=len8 b (by omega)
  have hc:=sumU_range (a:=s) (b:=d) (bytes_setW (i:=Int.toNat 6) (v:=0) hb)
  obtain ⟨q0,q1,q2,q3,q4,q5,q6,q7,hr⟩:=eight_bytes hb
  have e0:=getV2 (a0::a1::a2::a3::a4::a5::a6::a7::r) 0 (by simp) (by omega)
  have e2:=getV2 (a0::a1::a2::a3::a4::a5::a6::a7::r) 2 (by simp) (by omega)
  have r0:wordAt (a0::a1::a2::a3::a4::a5::a6::a7::r) 0=a0*256+a1:=by simp [wordAt,numB]
  have r2:wordAt (a0::a1::a2::a3::a4::a5::a6::a7::r) 2=a2*256+a3:=by simp [wordAt,numB]
  have r4:wordAt (a0::a1::a2::a3::a4::a5::a6::a7::r) (Int.toNat 4)=a4*256+a5:=by simp [wordAt,numB]
  have r6:wordAt (a0::a1::a2::a3::a4::a5::a6::a7::r) (Int.toNat 6)=a6*256+a7:=by simp [wordAt,numB]
  rw [show ((0:Nat):Int)=0 from rfl] at e0
  rw [show ((2:Nat):Int)=2 from rfl] at e2
  rw [e0,e2,r0,r2]
  rw [r4] at hf
  have hlen:((a0::a1::a2::a3::a4::a5::a6::a7::r).length:Int)=8+(r.length:Int):=by simp only [List.length_cons];omega
  rw [hlen] at hf
  have hs:setW (a0::a1::a2::a3::a4::a5::a6::a7::r) (Int.toNat 6) 0=a0::a1::a2::a3::a4::a5::0::0::r:=by simp [setW]
  have hbody:udpBody (a0*256+a1,a2*256+a3,r)=a0::a1::a2::a3::a4::a5::0::0::r:=by
    unfold udpBody
    simp only [← hf,w2_pair q0.1 q0.2 q1.1 q1.2,w2_pair q2.1 q2.2 q3.1 q3.2,w2_pair q4.1 q4.2 q5.1 q5.2];rfl
  obtain ⟨k1,k2⟩:=udp_ok (a:=s) (b:=d) (e:=(a0*256+a1,a2*256+a3,r)) ⟨(word16_iff _).2 (by show 0<=a0*256+a1/\a0*256+a1<=65535;omega),(word16_iff _).2 (by show 0<=a2*256+a3/\a2*256+a3<=65535;omega)⟩
  have hl2:¬ (1480:Int)<((8+r.length:Nat):Int):=by omega
  rw [udp_len,if_neg hl2,hbody] at k1
  show udpEnc s d (a0*256+a1,a2*256+a3,r)=_↔_
  rw [k1]
  rw [hs] at hc ⊢
  rw [r6]
  generalize sumU s d (a0::a1::a2::a3::a4::a5::0::0::r)=c at hc
  rw [← split_c hc.1 hc.2 q6.1 q6.2 q7.1 q7.2]
  simp [setW]
theorem getV4 (b:List Int) (k:Nat) (h:k+4<=b.length) (hk:(k:Int)<=1000000):getV b k 4=wordAt b k*65536+wordAt b (k+2):=by
  rw [getV,if_neg (by omega)]
  have hd:∃ x y z w r,b.drop k=x::y::z::w::r:=by
    have:4<=(b.drop k).length:=by rw [List.length_drop];omega
    match b.drop k,this with
    | x::y::z::w::r,_=>exact ⟨x,y,z,w,r,rfl⟩
  obtain ⟨x,y,z,w,r,hd⟩:=hd
  have h2:b.drop (k+2)=z::w::r:=by rw [← List.drop_drop,hd];rfl
  unfold wordAt
  rw [h2,show b.drop (k:Int).toNat=b.drop k from rfl,hd]
  simp [numB];omega
theorem w4_quad {a b c d:Int} (ha:0<=a/\a<=255) (hb:0<=b/\b<=255) (hc:0<=c/\c<=255) (hd:0<=d/\d<=255):w4 ((a*256+b)*65536+(c*256+d))=[a,b,c,d]:=by
  unfold w4
  have e1:((a*256+b)*65536+(c*256+d))/16777216%256=a:=by omega
  have e2:((a*256+b)*65536+(c*256+d))/65536%256=b:=by omega
  have e3:((a*256+b)*65536+(c*256+d))/256%256=c:=by omega
  have e4:((a*256+b)*65536+(c*256+d))%256=d:=by omega
  rw [e1,e2,e3,e4]
theorem wordAt0 (x y:Int) (r:List Int):wordAt (x::y::r) 0=x*256+y:=by simp [wordAt,numB]
theorem re_tcp {s d:Int} {b:List Int} (hb:bytes b) (h8:¬ (b.length:Int)<20) (hl:¬ (1480:Int)<b.length) (hf:tcpForm b) :
    tcpEnc s d (wordAt b 0,wordAt b 2,wordAt b 4*65536+wordAt b 6,wordAt b 8*65536+wordAt b 10,b.getD (Int.toNat 13) default,wordAt b 14,b.drop (Int.toNat 20))=b↔pseudo s d 6 (setW b (Int.toNat 16) 0)=wordAt b (Int.toNat 16):=by
  obtain ⟨a0,a1,a2,a3,a4,a5,a6,a7,r,rfl⟩:=len8 b (by omega)
  obtain ⟨c0,c1,c2,c3,c4,c5,c6,c7,r,rfl⟩:=len8 r (by simp only [List.length_cons] at h8;omega)
  have h4:∃ x y z w q,r=x::y::z::w::q:=by
    have:4<=r.length:=by simp only [List.length_cons] at h8;omega
    match r,this with
    | x::y::z::w::q,_=>exact ⟨x,y,z,w,q,rfl⟩
  obtain ⟨x,y,z,w,q,rfl⟩:=h4
  have hc:=pseudo_range (a:=s) (b:=d) (p:=6) (bytes_setW (i:=Int.toNat 16) (v:=0) hb)
  obtain ⟨q0,q1,q2,q3,q4,q5,q6,q7,hr⟩:=eight_bytes hb
  obtain ⟨p0,p1,p2,p3,p4,p5,p6,p7,hr⟩:=eight_bytes hr
  have px:=hr x (by simp)
  have py:=hr y (by simp)
  have pz:=hr z (by simp)
  have pw:=hr w (by simp)
  obtain ⟨f0,f1⟩:=hf
  have f0:c4=80:=f0
  have f1:z*256+w=0:=by rw [← f1];simp [wordAt,numB]
  have z0:z=0:=by omega
  have w0:w=0:=by omega
  subst f0 z0 w0
  have hs:setW (a0::a1::a2::a3::a4::a5::a6::a7::c0::c1::c2::c3::80::c5::c6::c7::x::y::0::0::q) (Int.toNat 16) 0=a0::a1::a2::a3::a4::a5::a6::a7::c0::c1::c2::c3::80::c5::c6::c7::0::0::0::0::q:=rfl
  have hw:∀ e:Seg,e=(a0*256+a1,a2*256+a3,(a4*256+a5)*65536+(a6*256+a7),(c0*256+c1)*65536+(c2*256+c3),c5,c6*256+c7,q) →
      (tcpEnc s d e=(a0::a1::a2::a3::a4::a5::a6::a7::c0::c1::c2::c3::80::c5::c6::c7::x::y::0::0::q)↔pseudo s d 6 (setW (a0::a1::a2::a3::a4::a5::a6::a7::c0::c1::c2::c3::80::c5::c6::c7::x::y::0::0::q) (Int.toNat 16) 0)=x*256+y):=by
    rintro e rfl
    have hbody:tcpBody (a0*256+a1,a2*256+a3,(a4*256+a5)*65536+(a6*256+a7),(c0*256+c1)*65536+(c2*256+c3),c5,c6*256+c7,q)=a0::a1::a2::a3::a4::a5::a6::a7::c0::c1::c2::c3::80::c5::c6::c7::0::0::0::0::q:=by
      unfold tcpBody
      simp only [w2_pair q0.1 q0.2 q1.1 q1.2,w2_pair q2.1 q2.2 q3.1 q3.2,w4_quad q4 q5 q6 q7,w4_quad p0 p1 p2 p3,w2_pair p6.1 p6.2 p7.1 p7.2];rfl
    have hok:tcpOK (a0*256+a1,a2*256+a3,(a4*256+a5)*65536+(a6*256+a7),(c0*256+c1)*65536+(c2*256+c3),c5,c6*256+c7,q):=by
      refine ⟨(word16_iff _).2 ?_,(word16_iff _).2 ?_,?_,?_,?_,(word16_iff _).2 ?_⟩ <;> simp only <;> omega
    obtain ⟨k1,k2⟩:=tcp_ok (a:=s) (b:=d) hok
    have hl2:¬ (1480:Int)<((20+q.length:Nat):Int):=by simp only [List.length_cons] at hl;omega
    rw [tcp_len,if_neg hl2,hbody] at k1
    rw [k1]
    rw [hs] at hc ⊢
    generalize pseudo s d 6 (a0::a1::a2::a3::a4::a5::a6::a7::c0::c1::c2::c3::80::c5::c6::c7::0::0::0::0::q)=c at hc
    rw [← split_c hc.1 hc.2 px.1 px.2 py.1 py.2]
    constructor
    · intro h
      have e1:=congrArg (fun l=>l.getD 16 0) h
      have e2:=congrArg (fun l=>l.getD 17 0) h
      exact ⟨e1,e2⟩
    · rintro ⟨h1,h2⟩
      show a0::a1::a2::a3::a4::a5::a6::a7::c0::c1::c2::c3::80::c5::c6::c7::(c/256%256)::(c%256)::0::0::q=_
      rw [h1,h2]
  have hx:wordAt (a0::a1::a2::a3::a4::a5::a6::a7::c0::c1::c2::c3::80::c5::c6::c7::x::y::0::0::q) (Int.toNat 16)=x*256+y:=by simp [wordAt,numB]
  rw [hx]
  apply hw
  generalize hB:(a0::a1::a2::a3::a4::a5::a6::a7::c0::c1::c2::c3::80::c5::c6::c7::x::y::0::0::q)=B
  have i0:wordAt B 0=a0*256+a1:=by rw [← hB];exact wordAt0 _ _ _
  have i2:wordAt B 2=a2*256+a3:=by rw [← hB];exact wordAt0 _ _ _
  have i4:wordAt B 4=a4*256+a5:=by rw [← hB];exact wordAt0 _ _ _
  have i6:wordAt B 6=a6*256+a7:=by rw [← hB];exact wordAt0 _ _ _
  have i8:wordAt B 8=c0*256+c1:=by rw [← hB];exact wordAt0 _ _ _
  have i10:wordAt B 10=c2*256+c3:=by rw [← hB];exact wordAt0 _ _ _
  have i14:wordAt B 14=c6*256+c7:=by rw [← hB];exact wordAt0 _ _ _
  have i13:B.getD (Int.toNat 13) default=c5:=by rw [← hB];rfl
  have i20:B.drop (Int.toNat 20)=q:=by rw [← hB];rfl
  rw [i0,i2,i4,i6,i8,i10,i14,i13,i20]
theorem or16 {n x:Int} (h0:0<=n) (h1:n<=65535) (h2:0<=x) (h3:x<=65535):bits .or .i64 (shlI .i64 n 16) x=n*65536+x:=by
  have e:shlI .i64 n 16=n*65536:=by
    show IntKind.i64.wrap (n*2^(min 16 64))=_
    rw [w64 (by simp;omega) (by simp;omega)];rfl
  rw [e]
  obtain ⟨m,rfl⟩:=Int.eq_ofNat_of_zero_le h0
  obtain ⟨y,rfl⟩:=Int.eq_ofNat_of_zero_le h2
  have:=i64_or_nat (m*65536) y (by omega) (by omega)
  rw [nat_join 16 (m*65536) y (by omega) (by omega),show ((m*65536:Nat):Int)=(m:Int)*65536 from by omega,show ((m*65536+y:Nat):Int)=(m:Int)*65536+(y:Int) from by omega] at this
  exact this
def ct_transport_DecodeEcho:Ct:=⟨[.val (.sl cU8)],[.agg cEcho,.val cI],fun d=>[(d.1.length:Int)<=1000000],fun d=>((unEcho d.1,unEchoErr d.1,()),())⟩
def an_transport_DecodeEcho:PDs ct_transport_DecodeEcho.ps->Anns:=(fun _=>{})
def Qbg3 (a:List Int) :=
 (a.length:Int)
def Qbg9 :=
 Int.toNat (8:Int)
def Qbg10 :=
 Int.toNat (0:Int)
def Qbg6 :=
 (false,(0:Int),(0:Int),([]:List Int))
theorem vc_transport_DecodeEcho :
 ∀(a:List Int),(a.length<=maxLen/\ ∀(b:Int),b∈a->0<=b/\b<=255)/\True->(Qbg3 a)<=1000000->ifP (decide ((Qbg3 a)<8)) ((Qbg6)=unEcho a/\(3:Int)=unEchoErr a) ((0:Int)<=0/\0<(Qbg3 a)/\ ∀(b:Bool),b= ! decide (a.getD (Qbg10) default=8)->(b->(b->b)/\(0:Int)<=0/\0<(Qbg3 a)/\True)/\(b->(b->b)/\True)/\(b->(b->b)/\True)/\(b->b)/\ ∀(c:Bool),(c=bif b then ! decide (a.getD (Qbg10) default=0) else false)->((! c)->((! c)->(! c))/\(0:Int)<=1/\1<(Qbg3 a)/\True)/\((! c)->((! c)->(! c))/\True)/\((! c)->((! c)->(! c))/\True)/\(c=false->(! c))/\ifP (bif c then true else ! decide (a.getD (Int.toNat (1:Int)) default=0)) ((Qbg6)=unEcho a/\(2:Int)=unEchoErr a) (ifP (decide (1480<(Qbg3 a))) ((Qbg6)=unEcho a/\(5:Int)=unEchoErr a) ((0:Int)<=2/\(2:Int)+2<=(Qbg3 a)/\(Qbg3 a)<=1099511627776/\ ∀(d:List Int) (e:Int),d=setW a (Int.toNat (2:Int)) (0:Int)/\e=wordAt a (Int.toNat (2:Int))->(d.length:Int)<=1099511627776/\
 ∀(f:Int),f=65535 -oc (sumF true d)->ifP (! decide (f=e)) ((Qbg6)=unEcho a/\(4:Int)=unEchoErr a) ((0:Int)<=0/\0<(Qbg3 a)/\(0:Int)<=4/\(4:Int)+2<=(Qbg3 a)/\(Qbg3 a)<=1099511627776/\(0:Int)<=6/\(6:Int)+2<=(Qbg3 a)/\(Qbg3 a)<=1099511627776/\(0:Int)<=8/\8<=(Qbg3 a)/\(Qbg3 a)<=(Qbg3 a)/\((List.length (subL a (Qbg9) (Int.toNat (Qbg3 a)))):Int)<=1099511627776/\ ∀(g:List Int),g=subL a (Qbg9) (Int.toNat (Qbg3 a))->(decide (a.getD (Qbg10) default=0),wordAt a (Int.toNat (4:Int)),wordAt a (Int.toNat (6:Int)),g)=unEcho a/\(0:Int)=unEchoErr a)))):=by
  delta Qbg3 Qbg6 Qbg9 Qbg10
  rintro b ⟨⟨-,hb⟩,-⟩ hl
  refine ifP_split (fun h => ?_) (fun h8 => ?_)
  · exact unEcho_err (by rw [unEchoErr,if_pos (of_decide_eq_true h)]) (by decide)
  have h8:=of_decide_eq_false h8
  refine ⟨by omega,by omega,?_⟩
  (repeat (intro (b_:Bool) (hb_:b_=_);(repeat refine ⟨(by first|(simp;done)|(rw [hb_];simp;done)|(rw [hb_];simp;omega)|(rw [hb_];simp;intros;omega)|(rw [hb_];simp +contextual;done)),?_⟩);subst hb_))
  refine ifP_split (fun h => ?_) (fun hf => ?_)
  · refine unEcho_err (by rw [unEchoErr,if_neg h8,if_pos];rintro ⟨f0,f1⟩;rw [decide_eq_true f1] at h;rcases f0 with f0|f0 <;> rw [f0] at h <;> simp at h) (by decide)
  have hf:echoForm b:=by
    unfold echoForm
    by_cases k1:b.getD (Int.toNat 1) default=0
    · by_cases k2:b.getD (Int.toNat 0) default=8
      · exact ⟨.inl k2,k1⟩
      · by_cases k3:b.getD (Int.toNat 0) default=0
        · exact ⟨.inr k3,k1⟩
        · rw [decide_eq_false k2,decide_eq_false k3] at hf;simp at hf
    · rw [decide_eq_false k1] at hf;simp [Bool.cond_eq_ite] at hf
  refine ifP_split (fun h => ?_) (fun h5 => ?_)
  · exact unEcho_err (by rw [unEchoErr,if_neg h8,if_neg (fun k=>k hf),if_pos (of_decide_eq_true h)]) (by decide)
  have h5:=of_decide_eq_false h5
  refine ⟨by omega,by omega,by omega,?_⟩
  rintro x w ⟨rfl,rfl⟩
  refine ⟨by simp [setW];omega,?_⟩
  rintro c rfl
  refine ifP_split (fun h => ?_) (fun h => ?_)
  · refine unEcho_err (by rw [unEchoErr,if_neg h8,if_neg (fun k=>k hf),if_neg h5,if_pos];intro k;rw [csum] at k;rw [decide_eq_true k] at h;cases h) (by decide)
  have h0:unEchoErr b=0:=by
    rw [unEchoErr,if_neg h8,if_neg (fun k=>k hf),if_neg h5,if_neg]
    intro k;rw [csum] at k;rw [decide_eq_false k] at h;cases h
  refine ⟨by omega,by omega,by omega,by omega,by omega,by omega,by omega,by omega,by omega,by omega,by omega,by rw [sub_drop,List.length_drop];omega,?_⟩
  rintro y rfl
  rw [unEcho,if_pos h0,h0,sub_drop];exact ⟨rfl,rfl⟩
theorem ok_transport_DecodeEcho:SpecOK Tryz.prog GL 139 ct_transport_DecodeEcho.spec:=Ct.okH _ Tryz.func139 (by kernel_rfl) (withSpec_ok (withSpec_ok (withSpec_ok (withSpec_ok noSpecs_ok (Ct.named ok_transport_bare)) (Ct.named ok_wire_Checksum)) ok_transport_word) (Ct.named ok_slices_Clone_b979)) hmix an_transport_DecodeEcho (hideMp (by kernel_rfl) vc_transport_DecodeEcho)
def ct_ref06_DecodeEcho:Ct:=⟨[.val (.sl cU8)],[.agg cEcho,.val cI],fun d=>[(d.1.length:Int)<=1000000],fun d=>((unEcho d.1,unEchoErr d.1,()),())⟩
def an_ref06_DecodeEcho:PDs ct_ref06_DecodeEcho.ps->Anns:=(fun _=>{})
def Qbg5 (a:List Int) :=
 (decide (a.getD (Qbg10) default=0),getV a (4:Int) (2:Int),getV a (6:Int) (2:Int),subL a (Qbg9) (Int.toNat (Qbg3 a)))
theorem vc_ref06_DecodeEcho :
 ∀(a:List Int),(a.length<=maxLen/\ ∀(b:Int),b∈a->0<=b/\b<=255)/\True->(Qbg3 a)<=1000000->ifP (decide ((Qbg3 a)<8)) ((Qbg6)=unEcho a/\(3:Int)=unEchoErr a) ((0:Int)<=0/\0<(Qbg3 a)/\ ∀(b:Bool),b= ! decide (a.getD (Qbg10) default=8)->(b->(b->b)/\(0:Int)<=0/\0<(Qbg3 a)/\True)/\(b->(b->b)/\True)/\(b->(b->b)/\True)/\(b->b)/\ ∀(c:Bool),(c=bif b then ! decide (a.getD (Qbg10) default=0) else false)->((! c)->((! c)->(! c))/\(0:Int)<=1/\1<(Qbg3 a)/\True)/\((! c)->((! c)->(! c))/\True)/\((! c)->((! c)->(! c))/\True)/\(c=false->(! c))/\ifP (bif c then true else ! decide (a.getD (Int.toNat (1:Int)) default=0)) ((Qbg6)=unEcho a/\(2:Int)=unEchoErr a) (ifP (decide (1480<(Qbg3 a))) ((Qbg6)=unEcho a/\(5:Int)=unEchoErr a) ((0:Int)<=0/\0<(Qbg3 a)/\(Qbg3 a)<=1099511627776/\(Qbg3 a)<=1099511627776/\(0:Int)<=8/\8<=(Qbg3 a)/\(Qbg3 a)<=(Qbg3 a)/\List.length (subL a (Qbg9) (Int.toNat (Qbg3
 a)))*(1:Nat)<=(140737488355328:Nat)/\((List.length (subL a (Qbg9) (Int.toNat (Qbg3 a)))):Int)<=1073741824/\ ∀(d:List Int) (e:Int),d=echoEnc (Qbg5 a)/\e=echoErr (Qbg5 a)->ifP (! decide (d=a)) ((Qbg6)=unEcho a/\(4:Int)=unEchoErr a) ((Qbg5 a)=unEcho a/\(0:Int)=unEchoErr a)))):=by
  delta Qbg3 Qbg5 Qbg6 Qbg9 Qbg10
  rintro b ⟨⟨-,hb⟩,-⟩ hl
  refine ifP_split (fun h => ?_) (fun h8 => ?_)
  · exact unEcho_err (by rw [unEchoErr,if_pos (of_decide_eq_true h)]) (by decide)
  have h8:=of_decide_eq_false h8
  refine ⟨by omega,by omega,?_⟩
  (repeat (intro (b_:Bool) (hb_:b_=_);(repeat refine ⟨(by first|(simp;done)|(rw [hb_];simp;done)|(rw [hb_];simp;omega)|(rw [hb_];simp;intros;omega)|(rw [hb_];simp +contextual;done)),?_⟩);subst hb_))
  refine ifP_split (fun h => ?_) (fun hf => ?_)
  · refine unEcho_err (by rw [unEchoErr,if_neg h8,if_pos];rintro ⟨f0,f1⟩;rw [decide_eq_true f1] at h;rcases f0 with f0|f0 <;> rw [f0] at h <;> simp at h) (by decide)
  have hf:echoForm b:=by
    unfold echoForm
    by_cases k1:b.getD (Int.toNat 1) default=0
    · by_cases k2:b.getD (Int.toNat 0) default=8
      · exact ⟨.inl k2,k1⟩
      · by_cases k3:b.getD (Int.toNat 0) default=0
        · exact ⟨.inr k3,k1⟩
        · rw [decide_eq_false k2,decide_eq_false k3] at hf;simp at hf
    · rw [decide_eq_false k1] at hf;simp [Bool.cond_eq_ite] at hf
  refine ifP_split (fun h => ?_) (fun h5 => ?_)
  · exact unEcho_err (by rw [unEchoErr,if_neg h8,if_neg (fun k=>k hf),if_pos (of_decide_eq_true h)]) (by decide)
  have h5:=of_decide_eq_false h5
  rw [sub_drop]
  repeat refine ⟨by omega,?_⟩
  refine ⟨by rw [List.length_drop];omega,by rw [List.length_drop];omega,?_⟩
  rintro x e ⟨rfl,rfl⟩
  have hre:=re_echo hb h8 h5 hf
  refine ifP_split (fun h => ?_) (fun h => ?_)
  · refine unEcho_err (by rw [unEchoErr,if_neg h8,if_neg (fun k=>k hf),if_neg h5,if_pos];intro k;rw [decide_eq_true (hre.2 k)] at h;cases h) (by decide)
  have h0:unEchoErr b=0:=by
    rw [unEchoErr,if_neg h8,if_neg (fun k=>k hf),if_neg h5,if_neg]
    intro k;rw [decide_eq_false (fun q=>k (hre.1 q))] at h;cases h
  have e4:=getV2 b 4 (by omega) (by omega)
  have e6:=getV2 b 6 (by omega) (by omega)
  rw [show ((4:Nat):Int)=4 from rfl] at e4
  rw [show ((6:Nat):Int)=6 from rfl] at e6
  rw [unEcho,if_pos h0,h0,e4,e6];exact ⟨rfl,rfl⟩
theorem ok_ref06_DecodeEcho:SpecOK Tryz.prog GL 109 ct_ref06_DecodeEcho.spec:=Ct.okH _ Tryz.func109 (by kernel_rfl) (withSpec_ok (withSpec_ok (withSpec_ok noSpecs_ok ok_ref04_At) (Ct.named ok_ref06_EncodeEcho)) ok_ref04_Equal) hmix an_ref06_DecodeEcho (hideMp (by kernel_rfl) vc_ref06_DecodeEcho)
theorem form_b (p q r s:Prop) [Decidable p] [Decidable q] [Decidable r] [Decidable s]:(bif (bif (bif !decide p then !decide q else false) then true else !decide r) then true else !decide s) = !decide ((p∨q)/\r/\s):=by
  by_cases p <;> by_cases q <;> by_cases r <;> by_cases s <;> simp [*]
theorem wordAt_get {b:List Int} {k:Nat} (h:k+2<=b.length):wordAt b k=b.getD k default*256+b.getD (k+1) default:=by
  have h0:k<b.length:=by omega
  have h1:k+1<b.length:=by omega
  have e:b.drop k=b[k]::b[k+1]::b.drop (k+1+1):=by rw [List.drop_eq_getElem_cons h0,List.drop_eq_getElem_cons h1]
  unfold wordAt
  rw [e,List.getD_eq_getElem?_getD,List.getD_eq_getElem?_getD,List.getElem?_eq_getElem h0,List.getElem?_eq_getElem h1]
  generalize b.drop (k+1+1)=r
  generalize b[k]=u
  generalize b[k+1]=v
  simp [numB]
theorem form_d (p r:Prop) [Decidable p] [Decidable r]:(bif !decide p then true else !decide r) = !decide (p/\r):=by
  by_cases p <;> by_cases r <;> simp [*]
theorem form_e (p r s:Prop) [Decidable p] [Decidable r] [Decidable s]:(bif (bif !decide p then true else !decide r) then true else !decide s) = !decide (p/\r/\s):=by
  by_cases p <;> by_cases r <;> by_cases s <;> simp [*]
def ct_transport_DecodeNotice:Ct:=⟨[.val (.sl cU8)],[.agg cNotice,.val cI],fun d=>[(d.1.length:Int)<=1000000],fun d=>((unNotice d.1,unNoticeErr d.1,()),())⟩
def an_transport_DecodeNotice:PDs ct_transport_DecodeNotice.ps->Anns:=(fun _=>{})
def Qbg4 :=
 ((0:Int),(0:Int),([]:List Int))
theorem vc_transport_DecodeNotice :
 ∀(a:List Int),(a.length<=maxLen/\ ∀(b:Int),b∈a->0<=b/\b<=255)/\True->(Qbg3 a)<=1000000->ifP (decide ((Qbg3 a)<36)) ((Qbg4)=unNotice a/\(3:Int)=unNoticeErr a) ((0:Int)<=0/\0<(Qbg3 a)/\ ∀(b:Bool),b= ! decide (a.getD (Qbg10) default=3)->(b->(b->b)/\(0:Int)<=0/\0<(Qbg3 a)/\True)/\(b->(b->b)/\True)/\(b->(b->b)/\True)/\(b->b)/\ ∀(c:Bool),(c=bif b then ! decide (a.getD (Qbg10) default=11) else false)->((! c)->((! c)->(! c))/\(0:Int)<=4/\(4:Int)+2<=(Qbg3 a)/\(Qbg3 a)<=1099511627776/\True)/\((! c)->((! c)->(! c))/\True)/\(c=false->(! c))/\ ∀(d:Bool),(d=bif c then true else ! decide (wordAt a (Int.toNat (4:Int))=0))->((! d)->((! d)->(! d))/\(0:Int)<=6/\(6:Int)+2<=(Qbg3 a)/\(Qbg3 a)<=1099511627776/\True)/\((! d)->((! d)->(! d))/\True)/\(d=false->(! d))/\ifP (bif d then true else ! decide (wordAt a (Int.toNat (6:Int))=0)) ((Qbg4)=unNotice a/\(2:Int)=unNoticeErr a) (ifP (decide (1480<(Qbg3 a)))
 ((Qbg4)=unNotice a/\(5:Int)=unNoticeErr a) ((0:Int)<=2/\(2:Int)+2<=(Qbg3 a)/\(Qbg3 a)<=1099511627776/\ ∀(e:List Int) (f:Int),e=setW a (Int.toNat (2:Int)) (0:Int)/\f=wordAt a (Int.toNat (2:Int))->(e.length:Int)<=1099511627776/\ ∀(g:Int),g=65535 -oc (sumF true e)->ifP (! decide (g=f)) ((Qbg4)=unNotice a/\(4:Int)=unNoticeErr a) ((0:Int)<=0/\0<(Qbg3 a)/\(0:Int)<=1/\1<(Qbg3 a)/\(0:Int)<=8/\8<=(Qbg3 a)/\(Qbg3 a)<=(Qbg3 a)/\((List.length (subL a (Qbg9) (Int.toNat (Qbg3 a)))):Int)<=1099511627776/\ ∀(h:List Int),h=subL a (Qbg9) (Int.toNat (Qbg3 a))->(IntKind.wrap .i64 (a.getD (Qbg10) default),IntKind.wrap .i64 (a.getD (Int.toNat (1:Int)) default),h)=unNotice a/\(0:Int)=unNoticeErr a)))):=by
  delta Qbg3 Qbg4 Qbg9 Qbg10
  rintro b ⟨⟨-,hb⟩,-⟩ hl
  refine ifP_split (fun h => ?_) (fun h8 => ?_)
  · exact unNotice_err (by rw [unNoticeErr,if_pos (of_decide_eq_true h)]) (by decide)
  have h8:=of_decide_eq_false h8
  refine ⟨by omega,by omega,?_⟩
  (repeat (intro (b_:Bool) (hb_:b_=_);(repeat refine ⟨(by first|(simp;done)|(rw [hb_];simp;done)|(rw [hb_];simp;omega)|(rw [hb_];simp;intros;omega)|(rw [hb_];simp +contextual;done)),?_⟩);subst hb_))
  have hall:(bif (bif (bif !decide (b.getD (Int.toNat 0) default=3) then !decide (b.getD (Int.toNat 0) default=11) else false) then true else !decide (wordAt b (Int.toNat 4)=0)) then true else !decide (wordAt b (Int.toNat 6)=0)) = !decide (noticeForm b):=(form_b _ _ _ _).trans (congrArg (fun x => !x) (decide_eq_decide.2 Iff.rfl))
  rw [hall]
  refine ifP_split (fun h => ?_) (fun hf => ?_)
  · exact unNotice_err (by rw [unNoticeErr,if_neg h8,if_pos];simpa using h) (by decide)
  have hf:noticeForm b:=by simpa using hf
  refine ifP_split (fun h => ?_) (fun h5 => ?_)
  · exact unNotice_err (by rw [unNoticeErr,if_neg h8,if_neg (fun k=>k hf),if_pos (of_decide_eq_true h)]) (by decide)
  have h5:=of_decide_eq_false h5
  refine ⟨by omega,by omega,by omega,?_⟩
  rintro x w ⟨rfl,rfl⟩
  refine ⟨by rw [setW_len];omega,?_⟩
  rintro c rfl
  refine ifP_split (fun h => ?_) (fun h => ?_)
  · refine unNotice_err (by rw [unNoticeErr,if_neg h8,if_neg (fun k=>k hf),if_neg h5,if_pos];intro k;rw [csum] at k;rw [decide_eq_true k] at h;cases h) (by decide)
  have h0:unNoticeErr b=0:=by
    rw [unNoticeErr,if_neg h8,if_neg (fun k=>k hf),if_neg h5,if_neg]
    intro k;rw [csum] at k;rw [decide_eq_false k] at h;cases h
  rw [sub_drop]
  repeat refine ⟨by omega,?_⟩
  refine ⟨by rw [List.length_drop];omega,?_⟩
  rintro y rfl
  have g0:=hb _ (getD_mem (xs:=b) (i:=0) (by omega) (by omega))
  have g1:=hb _ (getD_mem (xs:=b) (i:=1) (by omega) (by omega))
  rw [unNotice,if_pos h0,h0,w64 (by omega) (by omega),w64 (by omega) (by omega)];exact ⟨rfl,rfl⟩
theorem ok_transport_DecodeNotice:SpecOK Tryz.prog GL 141 ct_transport_DecodeNotice.spec:=Ct.okH _ Tryz.func141 (by kernel_rfl) (withSpec_ok (withSpec_ok (withSpec_ok (withSpec_ok noSpecs_ok (Ct.named ok_transport_bare)) (Ct.named ok_wire_Checksum)) ok_transport_word) (Ct.named ok_slices_Clone_b979)) hmix an_transport_DecodeNotice (hideMp (by kernel_rfl) vc_transport_DecodeNotice)
def ct_transport_DecodeUDP:Ct:=⟨[.val cU32,.val cU32,.val (.sl cU8)],[.agg cDgram,.val cI],fun d=>[(d.2.2.1.length:Int)<=1000000],fun d=>((unUDP d.1 d.2.1 d.2.2.1,unUDPErr d.1 d.2.1 d.2.2.1,()),())⟩
def an_transport_DecodeUDP:PDs ct_transport_DecodeUDP.ps->Anns:=(fun _=>{})
def Qbg0 (c:List Int) :=
 (c.length:Int)
def Qbg8 (b:Int) (c:List Int) :=
 (0<=b/\b<=4294967295)/\(c.length<=maxLen/\ ∀(d:Int),d∈c->0<=d/\d<=255)/\True
theorem vc_transport_DecodeUDP :
 ∀(a b:Int) (c:List Int),(0<=a/\a<=4294967295)/\(Qbg8 b c)->(Qbg0 c)<=1000000->ifP (decide ((Qbg0 c)<8)) ((Qbg4)=unUDP a b c/\(3:Int)=unUDPErr a b c) ((0:Int)<=4/\(4:Int)+2<=(Qbg0 c)/\(Qbg0 c)<=1099511627776/\ifP (! decide (wordAt c (Int.toNat (4:Int))=(Qbg0 c))) ((Qbg4)=unUDP a b c/\(2:Int)=unUDPErr a b c) (ifP (decide (1480<(Qbg0 c))) ((Qbg4)=unUDP a b c/\(5:Int)=unUDPErr a b c) ((0:Int)<=6/\(6:Int)+2<=(Qbg0 c)/\(Qbg0 c)<=1099511627776/\ ∀(d:List Int) (e:Int),d=setW c (Int.toNat (6:Int)) (0:Int)/\e=wordAt c (Int.toNat (6:Int))->(d.length:Int)<=1073741824/\ ∀(f:Int),f=sumU a b d->ifP (! decide (f=e)) ((Qbg4)=unUDP a b c/\(4:Int)=unUDPErr a b c) ((0:Int)<=0/\(0:Int)+2<=(Qbg0 c)/\(Qbg0 c)<=1099511627776/\(0:Int)<=2/\(2:Int)+2<=(Qbg0 c)/\(Qbg0 c)<=1099511627776/\(0:Int)<=8/\8<=(Qbg0 c)/\(Qbg0 c)<=(Qbg0 c)/\((List.length (subL c (Qbg9) (Int.toNat (Qbg0 c)))):Int)<=1099511627776/\ ∀(g:List
 Int),g=subL c (Qbg9) (Int.toNat (Qbg0 c))->(wordAt c (Qbg10),wordAt c (Int.toNat (2:Int)),g)=unUDP a b c/\(0:Int)=unUDPErr a b c)))):=by
  delta Qbg0 Qbg4 Qbg8 Qbg9 Qbg10
  rintro s d b ⟨-,-,⟨-,hb⟩,-⟩ hl
  refine ifP_split (fun h => ?_) (fun h8 => ?_)
  · exact unUDP_err (by rw [unUDPErr,if_pos (of_decide_eq_true h)]) (by decide)
  have h8:=of_decide_eq_false h8
  repeat refine ⟨by omega,?_⟩
  refine ifP_split (fun h => ?_) (fun hf => ?_)
  · exact unUDP_err (by rw [unUDPErr,if_neg h8,if_pos];simpa using h) (by decide)
  have hf:wordAt b (Int.toNat 4)=b.length:=by simpa using hf
  refine ifP_split (fun h => ?_) (fun h5 => ?_)
  · exact unUDP_err (by rw [unUDPErr,if_neg h8,if_neg (fun k=>k hf),if_pos (of_decide_eq_true h)]) (by decide)
  have h5:=of_decide_eq_false h5
  repeat refine ⟨by omega,?_⟩
  rintro x w ⟨rfl,rfl⟩
  refine ⟨by rw [setW_len];omega,?_⟩
  rintro c rfl
  refine ifP_split (fun h => ?_) (fun h => ?_)
  · refine unUDP_err (by rw [unUDPErr,if_neg h8,if_neg (fun k=>k hf),if_neg h5,if_pos];intro k;rw [decide_eq_true k] at h;cases h) (by decide)
  have h0:unUDPErr s d b=0:=by
    rw [unUDPErr,if_neg h8,if_neg (fun k=>k hf),if_neg h5,if_neg]
    intro k;rw [decide_eq_false k] at h;cases h
  rw [sub_drop]
  repeat refine ⟨by omega,?_⟩
  refine ⟨by rw [List.length_drop];omega,?_⟩
  rintro y rfl
  rw [unUDP,if_pos h0,h0];exact ⟨rfl,rfl⟩
theorem ok_transport_DecodeUDP:SpecOK Tryz.prog GL 189 ct_transport_DecodeUDP.spec:=Ct.okH _ Tryz.func189 (by kernel_rfl) (withSpec_ok (withSpec_ok (withSpec_ok (withSpec_ok noSpecs_ok (Ct.named ok_transport_bare)) (Ct.named ok_transport_sumUDP)) ok_transport_word) (Ct.named ok_slices_Clone_b979)) hmix an_transport_DecodeUDP (hideMp (by kernel_rfl) vc_transport_DecodeUDP)
def ct_ref06_DecodeUDP:Ct:=⟨[.val cU32,.val cU32,.val (.sl cU8)],[.agg cDgram,.val cI],fun d=>[(d.2.2.1.length:Int)<=1000000],fun d=>((unUDP d.1 d.2.1 d.2.2.1,unUDPErr d.1 d.2.1 d.2.2.1,()),())⟩
def an_ref06_DecodeUDP:PDs ct_ref06_DecodeUDP.ps->Anns:=(fun _=>{})
def Qbg7 (c:List Int) :=
 (getV c (0:Int) (2:Int),getV c (2:Int) (2:Int),subL c (Qbg9) (Int.toNat (Qbg0 c)))
theorem vc_ref06_DecodeUDP :
 ∀(a b:Int) (c:List Int),(0<=a/\a<=4294967295)/\(Qbg8 b c)->(Qbg0 c)<=1000000->ifP (decide ((Qbg0 c)<8)) ((Qbg4)=unUDP a b c/\(3:Int)=unUDPErr a b c) ((Qbg0 c)<=1099511627776/\ifP (! decide (getV c (4:Int) (2:Int)=(Qbg0 c))) ((Qbg4)=unUDP a b c/\(2:Int)=unUDPErr a b c) (ifP (decide (1480<(Qbg0 c))) ((Qbg4)=unUDP a b c/\(5:Int)=unUDPErr a b c) ((Qbg0 c)<=1099511627776/\(Qbg0 c)<=1099511627776/\(0:Int)<=8/\8<=(Qbg0 c)/\(Qbg0 c)<=(Qbg0 c)/\List.length (subL c (Qbg9) (Int.toNat (Qbg0 c)))*(1:Nat)<=(140737488355328:Nat)/\((List.length (subL c (Qbg9) (Int.toNat (Qbg0 c)))):Int)<=1073741824/\ ∀(d:List Int) (e:Int),d=udpEnc a b (Qbg7 c)/\e=udpErr (Qbg7 c)->ifP (! decide (d=c)) ((Qbg4)=unUDP a b c/\(4:Int)=unUDPErr a b c) ((Qbg7 c)=unUDP a b c/\(0:Int)=unUDPErr a b c)))):=by
  delta Qbg0 Qbg4 Qbg7 Qbg8 Qbg9
  rintro s d b ⟨-,-,⟨-,hb⟩,-⟩ hl
  refine ifP_split (fun h => ?_) (fun h8 => ?_)
  · exact unUDP_err (by rw [unUDPErr,if_pos (of_decide_eq_true h)]) (by decide)
  have h8:=of_decide_eq_false h8
  have e4:=getV2 b 4 (by omega) (by omega)
  have e0:=getV2 b 0 (by omega) (by omega)
  have e2:=getV2 b 2 (by omega) (by omega)
  rw [show ((4:Nat):Int)=4 from rfl] at e4
  rw [show ((0:Nat):Int)=0 from rfl] at e0
  rw [show ((2:Nat):Int)=2 from rfl] at e2
  repeat refine ⟨by omega,?_⟩
  rw [e4]
  refine ifP_split (fun h => ?_) (fun hf => ?_)
  · exact unUDP_err (by rw [unUDPErr,if_neg h8,if_pos];simpa using h) (by decide)
  have hf:wordAt b (Int.toNat 4)=b.length:=by simpa using hf
  refine ifP_split (fun h => ?_) (fun h5 => ?_)
  · exact unUDP_err (by rw [unUDPErr,if_neg h8,if_neg (fun k=>k hf),if_pos (of_decide_eq_true h)]) (by decide)
  have h5:=of_decide_eq_false h5
  rw [sub_drop]
  repeat refine ⟨by omega,?_⟩
  refine ⟨by rw [List.length_drop];omega,by rw [List.length_drop];omega,?_⟩
  rintro x e ⟨rfl,rfl⟩
  have hre:=re_udp (s:=s) (d:=d) hb h8 h5 hf
  refine ifP_split (fun h => ?_) (fun h => ?_)
  · refine unUDP_err (by rw [unUDPErr,if_neg h8,if_neg (fun k=>k hf),if_neg h5,if_pos];intro k;rw [decide_eq_true (hre.2 k)] at h;cases h) (by decide)
  have h0:unUDPErr s d b=0:=by
    rw [unUDPErr,if_neg h8,if_neg (fun k=>k hf),if_neg h5,if_neg]
    intro k;rw [decide_eq_false (fun q=>k (hre.1 q))] at h;cases h
  rw [unUDP,if_pos h0,h0,e0,e2];exact ⟨rfl,rfl⟩
theorem ok_ref06_DecodeUDP:SpecOK Tryz.prog GL 112 ct_ref06_DecodeUDP.spec:=Ct.okH _ Tryz.func112 (by kernel_rfl) (withSpec_ok (withSpec_ok (withSpec_ok noSpecs_ok ok_ref04_At) (Ct.named ok_ref06_EncodeUDP)) ok_ref04_Equal) hmix an_ref06_DecodeUDP (hideMp (by kernel_rfl) vc_ref06_DecodeUDP)
def ct_transport_DecodeTCP:Ct:=⟨[.val cU32,.val cU32,.val (.sl cU8)],[.agg cSeg,.val cI],fun d=>[(d.2.2.1.length:Int)<=1000000],fun d=>((unTCP d.1 d.2.1 d.2.2.1,unTCPErr d.1 d.2.1 d.2.2.1,()),())⟩
def an_transport_DecodeTCP:PDs ct_transport_DecodeTCP.ps->Anns:=(fun _=>{})
def Qbg2 :=
 ((0:Int),(0:Int),(0:Int),(0:Int),(0:Int),(0:Int),([]:List Int))
theorem vc_transport_DecodeTCP :
 ∀(a b:Int) (c:List Int),(0<=a/\a<=4294967295)/\(Qbg8 b c)->(Qbg0 c)<=1000000->ifP (decide ((Qbg0 c)<20)) ((Qbg2)=unTCP a b c/\(3:Int)=unTCPErr a b c) ((0:Int)<=12/\12<(Qbg0 c)/\ ∀(d:Bool),d= ! decide (c.getD (Int.toNat (12:Int)) default=80)->((! d)->((! d)->(! d))/\(0:Int)<=18/\(18:Int)+2<=(Qbg0 c)/\(Qbg0 c)<=1099511627776/\True)/\((! d)->((! d)->(! d))/\True)/\(d=false->(! d))/\ifP (bif d then true else ! decide (wordAt c (Int.toNat (18:Int))=0)) ((Qbg2)=unTCP a b c/\(2:Int)=unTCPErr a b c) (ifP (decide (1480<(Qbg0 c))) ((Qbg2)=unTCP a b c/\(5:Int)=unTCPErr a b c) ((0:Int)<=16/\(16:Int)+2<=(Qbg0 c)/\(Qbg0 c)<=1099511627776/\ ∀(e:List Int) (f:Int),e=setW c (Int.toNat (16:Int)) (0:Int)/\f=wordAt c (Int.toNat (16:Int))->(e.length:Int)<=1073741824/\ ∀(g:Int),g=pseudo a b (6:Int) e->ifP (! decide (g=f)) ((Qbg2)=unTCP a b c/\(4:Int)=unTCPErr a b c) ((0:Int)<=0/\(0:Int)+2<=(Qbg0 c)/\(Qbg0
 c)<=1099511627776/\(0:Int)<=2/\(2:Int)+2<=(Qbg0 c)/\(Qbg0 c)<=1099511627776/\(0:Int)<=4/\(4:Int)+2<=(Qbg0 c)/\(Qbg0 c)<=1099511627776/\(0:Int)<=16/\(0:Int)<=6/\(6:Int)+2<=(Qbg0 c)/\(Qbg0 c)<=1099511627776/\(0:Int)<=8/\(8:Int)+2<=(Qbg0 c)/\(Qbg0 c)<=1099511627776/\(0:Int)<=16/\(0:Int)<=10/\(10:Int)+2<=(Qbg0 c)/\(Qbg0 c)<=1099511627776/\(0:Int)<=13/\13<(Qbg0 c)/\(0:Int)<=14/\(14:Int)+2<=(Qbg0 c)/\(Qbg0 c)<=1099511627776/\(0:Int)<=20/\20<=(Qbg0 c)/\(Qbg0 c)<=(Qbg0 c)/\((List.length (subL c (Int.toNat (20:Int)) (Int.toNat (Qbg0 c)))):Int)<=1099511627776/\ ∀(h:List Int),h=subL c (Int.toNat (20:Int)) (Int.toNat (Qbg0 c))->(wordAt c (Qbg10),wordAt c (Int.toNat (2:Int)),bits BinOp.or IntKind.i64 (shlI IntKind.i64 (wordAt c (Int.toNat (4:Int))) (16:Int)) (wordAt c (Int.toNat (6:Int))),bits BinOp.or IntKind.i64 (shlI IntKind.i64 (wordAt c (Qbg9)) (16:Int)) (wordAt c (Int.toNat
 (10:Int))),IntKind.wrap .i64 (c.getD (Int.toNat (13:Int)) default),wordAt c (Int.toNat (14:Int)),h)=unTCP a b c/\(0:Int)=unTCPErr a b c)))):=by
  delta Qbg0 Qbg2 Qbg8 Qbg9 Qbg10
  rintro s d b ⟨-,-,⟨-,hb⟩,-⟩ hl
  refine ifP_split (fun h => ?_) (fun h8 => ?_)
  · exact unTCP_err (by rw [unTCPErr,if_pos (of_decide_eq_true h)]) (by decide)
  have h8:=of_decide_eq_false h8
  refine ⟨by omega,by omega,?_⟩
  (repeat (intro (b_:Bool) (hb_:b_=_);(repeat refine ⟨(by first|(simp;done)|(rw [hb_];simp;done)|(rw [hb_];simp;omega)|(rw [hb_];simp;intros;omega)|(rw [hb_];simp +contextual;done)),?_⟩);subst hb_))
  rw [show (bif !decide (b.getD (Int.toNat 12) default=80) then true else !decide (wordAt b (Int.toNat 18)=0)) = !decide (tcpForm b) from (form_d _ _).trans (congrArg (fun x => !x) (decide_eq_decide.2 Iff.rfl))]
  refine ifP_split (fun h => ?_) (fun hf => ?_)
  · exact unTCP_err (by rw [unTCPErr,if_neg h8,if_pos];simpa using h) (by decide)
  have hf:tcpForm b:=by simpa using hf
  refine ifP_split (fun h => ?_) (fun h5 => ?_)
  · exact unTCP_err (by rw [unTCPErr,if_neg h8,if_neg (fun k=>k hf),if_pos (of_decide_eq_true h)]) (by decide)
  have h5:=of_decide_eq_false h5
  repeat refine ⟨by omega,?_⟩
  rintro x w ⟨rfl,rfl⟩
  refine ⟨by rw [setW_len];omega,?_⟩
  rintro c rfl
  refine ifP_split (fun h => ?_) (fun h => ?_)
  · exact unTCP_err (by rw [unTCPErr,if_neg h8,if_neg (fun k=>k hf),if_neg h5,if_pos];intro k;rw [decide_eq_true k] at h;cases h) (by decide)
  have h0:unTCPErr s d b=0:=by
    rw [unTCPErr,if_neg h8,if_neg (fun k=>k hf),if_neg h5,if_neg]
    intro k;rw [decide_eq_false k] at h;cases h
  rw [sub_drop]
  repeat refine ⟨by omega,?_⟩
  refine ⟨by rw [List.length_drop];omega,?_⟩
  rintro y rfl
  have g:=hb _ (getD_mem (xs:=b) (i:=13) (by omega) (by omega))
  have v4:=wordAt_range (k:=Int.toNat 4) hb
  have v6:=wordAt_range (k:=Int.toNat 6) hb
  have v8:=wordAt_range (k:=Int.toNat 8) hb
  have v10:=wordAt_range (k:=Int.toNat 10) hb
  rw [unTCP,if_pos h0,h0,w64 (by omega) (by omega),or16 v4.1 v4.2 v6.1 v6.2,or16 v8.1 v8.2 v10.1 v10.2];exact ⟨rfl,rfl⟩
theorem ok_transport_DecodeTCP:SpecOK Tryz.prog GL 143 ct_transport_DecodeTCP.spec:=Ct.okH _ Tryz.func143 (by kernel_rfl) (withSpec_ok (withSpec_ok (withSpec_ok (withSpec_ok noSpecs_ok (Ct.named ok_transport_bare)) (Ct.named ok_transport_Pseudo)) ok_transport_word) (Ct.named ok_slices_Clone_b979)) hmix an_transport_DecodeTCP (hideMp (by kernel_rfl) vc_transport_DecodeTCP)
def ct_ref06_DecodeTCP:Ct:=⟨[.val cU32,.val cU32,.val (.sl cU8)],[.agg cSeg,.val cI],fun d=>[(d.2.2.1.length:Int)<=1000000],fun d=>((unTCP d.1 d.2.1 d.2.2.1,unTCPErr d.1 d.2.1 d.2.2.1,()),())⟩
def an_ref06_DecodeTCP:PDs ct_ref06_DecodeTCP.ps->Anns:=(fun _=>{})
def Qbg1 (c:List Int) :=
 (getV c (0:Int) (2:Int),getV c (2:Int) (2:Int),getV c (4:Int) (4:Int),getV c (8:Int) (4:Int),IntKind.wrap .i64 (c.getD (Int.toNat (13:Int)) default),getV c (14:Int) (2:Int),subL c (Int.toNat (20:Int)) (Int.toNat (Qbg0 c)))
theorem vc_ref06_DecodeTCP :
 ∀(a b:Int) (c:List Int),(0<=a/\a<=4294967295)/\(Qbg8 b c)->(Qbg0 c)<=1000000->ifP (decide ((Qbg0 c)<20)) ((Qbg2)=unTCP a b c/\(3:Int)=unTCPErr a b c) ((0:Int)<=12/\12<(Qbg0 c)/\ ∀(d:Bool),d= ! decide (c.getD (Int.toNat (12:Int)) default=80)->((! d)->((! d)->(! d))/\(0:Int)<=18/\18<(Qbg0 c)/\True)/\((! d)->((! d)->(! d))/\True)/\((! d)->((! d)->(! d))/\True)/\(d=false->(! d))/\ ∀(e:Bool),(e=bif d then true else ! decide (c.getD (Int.toNat (18:Int)) default=0))->((! e)->((! e)->(! e))/\(0:Int)<=19/\19<(Qbg0 c)/\True)/\((! e)->((! e)->(! e))/\True)/\((! e)->((! e)->(! e))/\True)/\(e=false->(! e))/\ifP (bif e then true else ! decide (c.getD (Int.toNat (19:Int)) default=0)) ((Qbg2)=unTCP a b c/\(2:Int)=unTCPErr a b c) (ifP (decide (1480<(Qbg0 c))) ((Qbg2)=unTCP a b c/\(5:Int)=unTCPErr a b c) ((Qbg0 c)<=1099511627776/\(Qbg0 c)<=1099511627776/\(Qbg0 c)<=1099511627776/\(Qbg0
 c)<=1099511627776/\(0:Int)<=13/\13<(Qbg0 c)/\(Qbg0 c)<=1099511627776/\(0:Int)<=20/\20<=(Qbg0 c)/\(Qbg0 c)<=(Qbg0 c)/\List.length (subL c (Int.toNat (20:Int)) (Int.toNat (Qbg0 c)))*(1:Nat)<=(140737488355328:Nat)/\((List.length (subL c (Int.toNat (20:Int)) (Int.toNat (Qbg0 c)))):Int)<=1000000/\ ∀(f:List Int) (g:Int),f=tcpEnc a b (Qbg1 c)/\g=tcpErr (Qbg1 c)->ifP (! decide (f=c)) ((Qbg2)=unTCP a b c/\(4:Int)=unTCPErr a b c) ((Qbg1 c)=unTCP a b c/\(0:Int)=unTCPErr a b c)))):=by
  delta Qbg0 Qbg1 Qbg2 Qbg8
  rintro s d b ⟨-,-,⟨-,hb⟩,-⟩ hl
  refine ifP_split (fun h => ?_) (fun h8 => ?_)
  · exact unTCP_err (by rw [unTCPErr,if_pos (of_decide_eq_true h)]) (by decide)
  have h8:=of_decide_eq_false h8
  refine ⟨by omega,by omega,?_⟩
  (repeat (intro (b_:Bool) (hb_:b_=_);(repeat refine ⟨(by first|(simp;done)|(rw [hb_];simp;done)|(rw [hb_];simp;omega)|(rw [hb_];simp;intros;omega)|(rw [hb_];simp +contextual;done)),?_⟩);subst hb_))
  have hz:(b.getD (Int.toNat 18) default=0/\b.getD (Int.toNat 19) default=0)↔wordAt b (Int.toNat 18)=0:=by
    have g0:=hb _ (getD_mem (xs:=b) (i:=18) (by omega) (by omega))
    have g1:=hb _ (getD_mem (xs:=b) (i:=19) (by omega) (by omega))
    rw [wordAt_get (k:=Int.toNat 18) (by show 18+2<=_;omega)]
    show _↔b.getD (Int.toNat 18) default*256+b.getD (Int.toNat 19) default=0
    omega
  rw [show (bif (bif !decide (b.getD (Int.toNat 12) default=80) then true else !decide (b.getD (Int.toNat 18) default=0)) then true else !decide (b.getD (Int.toNat 19) default=0)) = !decide (tcpForm b) from (form_e _ _ _).trans (congrArg (fun x => !x) (decide_eq_decide.2 (and_congr Iff.rfl hz)))]
  refine ifP_split (fun h => ?_) (fun hf => ?_)
  · exact unTCP_err (by rw [unTCPErr,if_neg h8,if_pos];simpa using h) (by decide)
  have hf:tcpForm b:=by simpa using hf
  refine ifP_split (fun h => ?_) (fun h5 => ?_)
  · exact unTCP_err (by rw [unTCPErr,if_neg h8,if_neg (fun k=>k hf),if_pos (of_decide_eq_true h)]) (by decide)
  have h5:=of_decide_eq_false h5
  rw [sub_drop]
  repeat refine ⟨by omega,?_⟩
  refine ⟨by rw [List.length_drop];omega,by rw [List.length_drop];omega,?_⟩
  have g:=hb _ (getD_mem (xs:=b) (i:=13) (by omega) (by omega))
  have e0:=getV2 b 0 (by omega) (by omega)
  have e2:=getV2 b 2 (by omega) (by omega)
  have e4:=getV4 b 4 (by omega) (by omega)
  have e8:=getV4 b 8 (by omega) (by omega)
  have e14:=getV2 b 14 (by omega) (by omega)
  rw [show ((0:Nat):Int)=0 from rfl] at e0
  rw [show ((2:Nat):Int)=2 from rfl] at e2
  rw [show ((4:Nat):Int)=4 from rfl] at e4
  rw [show ((8:Nat):Int)=8 from rfl] at e8
  rw [show ((14:Nat):Int)=14 from rfl] at e14
  rw [e0,e2,e4,e8,e14,w64 (by omega) (by omega)]
  rintro x e ⟨rfl,rfl⟩
  have hre:=re_tcp (s:=s) (d:=d) hb h8 h5 hf
  refine ifP_split (fun h => ?_) (fun h => ?_)
  · refine unTCP_err (by rw [unTCPErr,if_neg h8,if_neg (fun k=>k hf),if_neg h5,if_pos];intro k;rw [decide_eq_true (hre.2 k)] at h;cases h) (by decide)
  have h0:unTCPErr s d b=0:=by
    rw [unTCPErr,if_neg h8,if_neg (fun k=>k hf),if_neg h5,if_neg]
    intro k;rw [decide_eq_false (fun q=>k (hre.1 q))] at h;cases h
  rw [unTCP,if_pos h0,h0];exact ⟨rfl,rfl⟩
theorem ok_ref06_DecodeTCP:SpecOK Tryz.prog GL 113 ct_ref06_DecodeTCP.spec:=Ct.okH _ Tryz.func113 (by kernel_rfl) (withSpec_ok (withSpec_ok (withSpec_ok noSpecs_ok ok_ref04_At) (Ct.named ok_ref06_EncodeTCP)) ok_ref04_Equal) hmix an_ref06_DecodeTCP (hideMp (by kernel_rfl) vc_ref06_DecodeTCP)
end Go.RS

/- Trback: messages are decoded from their encodings; what damage does. -/
namespace Go.RS
open Go.SX Go.Proofs
set_option maxRecDepth 100000
set_option linter.unusedVariables false
def okEcho (data:List Int) (e:Echo):Prop:=(word16 e.2.1=true/\word16 e.2.2.1=true)/\e.2.2.2=data
def okDgram (data:List Int) (u:Dgram):Prop:=(word16 u.1=true/\word16 u.2.1=true)/\u.2.2=data
def okSeg (data:List Int) (s:Seg):Prop:=tcpOK s/\s.2.2.2.2.2.2=data
theorem word_w2 {n:Int} (h0:0<=n) (h1:n<=65535):n/256%256*256+n%256=n:=by omega
theorem echo_shape {e:Echo} (h:echoErr e=0):echoEnc e=(if e.1 then 0 else 8)::0::(csum (echoBody e)/256%256)::(csum (echoBody e)%256)::(e.2.1/256%256)::(e.2.1%256)::(e.2.2.1/256%256)::(e.2.2.1%256)::e.2.2.2:=by
  rw [echoEnc,if_pos h];rfl
theorem echo_good {data:List Int} {e:Echo} (h:okEcho data e) (hl:(data.length:Int)<=1472):echoErr e=0:=by
  rw [echoErr,if_neg (fun k=>k h.1),if_neg (by rw [h.2];omega)]
theorem un_echo {data:List Int} {e:Echo} (h:okEcho data e) (hd:bytes data) (hl:(data.length:Int)<=1472):unEchoErr (echoEnc e)=0/\unEcho (echoEnc e)=e:=by
  have h0:=echo_good h hl
  rw [echo_shape h0]
  obtain ⟨⟨h1,h2⟩,h3⟩:=h
  rw [word16_iff] at h1 h2
  have hc:=csum_range (echo_bytes (e:=e) (by rw [h3];exact hd))
  have hb:echoBody e=(if e.1 then 0 else 8)::0::0::0::(e.2.1/256%256)::(e.2.1%256)::(e.2.2.1/256%256)::(e.2.2.1%256)::e.2.2.2:=rfl
  obtain ⟨r,i,q,l⟩:=e
  simp only at h1 h2 h3 hc hb ⊢
  subst h3
  have he:unEchoErr ((if r then 0 else 8)::0::(csum (echoBody (r,i,q,l))/256%256)::(csum (echoBody (r,i,q,l))%256)::(i/256%256)::(i%256)::(q/256%256)::(q%256)::l)=0:=by
    rw [unEchoErr,if_neg (by simp only [List.length_cons];omega),if_neg,if_neg (by simp only [List.length_cons];omega),if_neg]
    · have e2:wordAt ((if r then 0 else 8)::0::(csum (echoBody (r,i,q,l))/256%256)::(csum (echoBody (r,i,q,l))%256)::(i/256%256)::(i%256)::(q/256%256)::(q%256)::l) (Int.toNat 2)=csum (echoBody (r,i,q,l))/256%256*256+csum (echoBody (r,i,q,l))%256:=wordAt0 _ _ _
      rw [e2,word_w2 hc.1 hc.2]
      have e3:setW ((if r then 0 else 8)::0::(csum (echoBody (r,i,q,l))/256%256)::(csum (echoBody (r,i,q,l))%256)::(i/256%256)::(i%256)::(q/256%256)::(q%256)::l) (Int.toNat 2) 0=echoBody (r,i,q,l):=rfl
      rw [e3];exact fun k=>k rfl
    · intro k;apply k
      refine ⟨?_,rfl⟩
      cases r
      · exact .inl rfl
      · exact .inr rfl
  refine ⟨he,?_⟩
  rw [unEcho,if_pos he]
  have e4:wordAt ((if r then 0 else 8)::0::(csum (echoBody (r,i,q,l))/256%256)::(csum (echoBody (r,i,q,l))%256)::(i/256%256)::(i%256)::(q/256%256)::(q%256)::l) (Int.toNat 4)=i/256%256*256+i%256:=wordAt0 _ _ _
  have e6:wordAt ((if r then 0 else 8)::0::(csum (echoBody (r,i,q,l))/256%256)::(csum (echoBody (r,i,q,l))%256)::(i/256%256)::(i%256)::(q/256%256)::(q%256)::l) (Int.toNat 6)=q/256%256*256+q%256:=wordAt0 _ _ _
  rw [e4,e6,word_w2 h1.1 h1.2,word_w2 h2.1 h2.2]
  cases r <;> rfl
theorem udp_good {data:List Int} {u:Dgram} (h:okDgram data u) (hl:(data.length:Int)<=1472):udpErr u=0:=by
  rw [udpErr,if_neg (fun k=>k h.1),if_neg (by rw [h.2];omega)]
theorem un_udp {s d:Int} {data:List Int} {u:Dgram} (h:okDgram data u) (hd:bytes data) (hl:(data.length:Int)<=1472):unUDPErr s d (udpEnc s d u)=0/\unUDP s d (udpEnc s d u)=u:=by
  have h0:=udp_good h hl
  obtain ⟨⟨h1,h2⟩,h3⟩:=h
  rw [word16_iff] at h1 h2
  have hc:=sumU_range (a:=s) (b:=d) (udp_bytes (e:=u) (by rw [h3];exact hd))
  obtain ⟨sp,dp,l⟩:=u
  simp only at h1 h2 h3 hc
  subst h3
  generalize hB:udpEnc s d (sp,dp,l)=B
  have hs:B=(sp/256%256)::(sp%256)::(dp/256%256)::(dp%256)::((8+l.length:Int)/256%256)::((8+l.length:Int)%256)::(sumU s d (udpBody (sp,dp,l))/256%256)::(sumU s d (udpBody (sp,dp,l))%256)::l:=by rw [← hB,udpEnc,if_pos h0];rfl
  have i0:wordAt B (Int.toNat 0)=sp/256%256*256+sp%256:=by rw [hs];exact wordAt0 _ _ _
  have i2:wordAt B (Int.toNat 2)=dp/256%256*256+dp%256:=by rw [hs];exact wordAt0 _ _ _
  have i4:wordAt B (Int.toNat 4)=(8+l.length:Int)/256%256*256+(8+l.length:Int)%256:=by rw [hs];exact wordAt0 _ _ _
  have i6:wordAt B (Int.toNat 6)=sumU s d (udpBody (sp,dp,l))/256%256*256+sumU s d (udpBody (sp,dp,l))%256:=by rw [hs];exact wordAt0 _ _ _
  have hset:setW B (Int.toNat 6) 0=udpBody (sp,dp,l):=by rw [hs];rfl
  have hlen:(B.length:Int)=8+l.length:=by rw [hs];simp only [List.length_cons];omega
  have g8:B.drop 8=l:=by rw [hs];rfl
  have he:unUDPErr s d B=0:=by
    rw [unUDPErr,if_neg (by omega),if_neg (fun q=>q (by rw [i4];omega)),if_neg (by omega),if_neg]
    rw [hset,i6,word_w2 hc.1 hc.2];exact fun q=>q rfl
  refine ⟨he,?_⟩
  rw [unUDP,if_pos he,i0,i2,g8,word_w2 h1.1 h1.2,word_w2 h2.1 h2.2]
theorem tcp_good {data:List Int} {s:Seg} (h:okSeg data s) (hl:(data.length:Int)<=1460):tcpErr s=0:=by
  rw [tcpErr,if_neg (fun k=>k h.1),if_neg (by rw [h.2];omega)]
theorem word_w4 {n:Int} (h0:0<=n) (h1:n<=4294967295):(n/16777216%256*256+n/65536%256)*65536+(n/256%256*256+n%256)=n:=by omega
theorem un_tcp {s d:Int} {data:List Int} {u:Seg} (h:okSeg data u) (hd:bytes data) (hl:(data.length:Int)<=1460):unTCPErr s d (tcpEnc s d u)=0/\unTCP s d (tcpEnc s d u)=u:=by
  have h0:=tcp_good h hl
  obtain ⟨hok,h3⟩:=h
  have hc:=pseudo_range (a:=s) (b:=d) (p:=6) (tcp_bytes hok (by rw [h3];exact hd))
  obtain ⟨h1,h2,k3,k4,k5,k6⟩:=hok
  rw [word16_iff] at h1 h2 k6
  obtain ⟨sp,dp,sq,ak,fl,wi,l⟩:=u
  simp only at h1 h2 h3 hc k3 k4 k5 k6
  subst h3
  generalize hC:pseudo s d 6 (tcpBody (sp,dp,sq,ak,fl,wi,l))=c at hc
  generalize hB:tcpEnc s d (sp,dp,sq,ak,fl,wi,l)=B
  have hs:B=(sp/256%256)::(sp%256)::(dp/256%256)::(dp%256)::(sq/16777216%256)::(sq/65536%256)::(sq/256%256)::(sq%256)::(ak/16777216%256)::(ak/65536%256)::(ak/256%256)::(ak%256)::80::fl::(wi/256%256)::(wi%256)::(c/256%256)::(c%256)::0::0::l:=by rw [← hB,tcpEnc,if_pos h0,hC];rfl
  have i0:wordAt B (Int.toNat 0)=sp/256%256*256+sp%256:=by rw [hs];exact wordAt0 _ _ _
  have i2:wordAt B (Int.toNat 2)=dp/256%256*256+dp%256:=by rw [hs];exact wordAt0 _ _ _
  have i4:wordAt B (Int.toNat 4)=sq/16777216%256*256+sq/65536%256:=by rw [hs];exact wordAt0 _ _ _
  have i6:wordAt B (Int.toNat 6)=sq/256%256*256+sq%256:=by rw [hs];exact wordAt0 _ _ _
  have i8:wordAt B (Int.toNat 8)=ak/16777216%256*256+ak/65536%256:=by rw [hs];exact wordAt0 _ _ _
  have i10:wordAt B (Int.toNat 10)=ak/256%256*256+ak%256:=by rw [hs];exact wordAt0 _ _ _
  have i14:wordAt B (Int.toNat 14)=wi/256%256*256+wi%256:=by rw [hs];exact wordAt0 _ _ _
  have i16:wordAt B (Int.toNat 16)=c/256%256*256+c%256:=by rw [hs];exact wordAt0 _ _ _
  have i18:wordAt B (Int.toNat 18)=0:=by rw [hs];exact wordAt0 0 0 _
  have hset:setW B (Int.toNat 16) 0=tcpBody (sp,dp,sq,ak,fl,wi,l):=by rw [hs];rfl
  have hlen:(B.length:Int)=20+l.length:=by rw [hs];simp only [List.length_cons];omega
  have g12:B.getD (Int.toNat 12) default=80:=by rw [hs];rfl
  have g13:B.getD (Int.toNat 13) default=fl:=by rw [hs];rfl
  have g20:B.drop 20=l:=by rw [hs];rfl
  have he:unTCPErr s d B=0:=by
    rw [unTCPErr,if_neg (by omega),if_neg (fun q=>q ⟨g12,i18⟩),if_neg (by omega),if_neg]
    rw [hset,hC,i16,word_w2 hc.1 hc.2];exact fun q=>q rfl
  refine ⟨he,?_⟩
  rw [unTCP,if_pos he,i0,i2,i4,i6,i8,i10,g13,i14,g20,word_w2 h1.1 h1.2,word_w2 h2.1 h2.2,word_w2 k6.1 k6.2,word_w4 k3.1 k3.2,word_w4 k4.1 k4.2]
def headP (s d p n:Int):List Int:=w4 s++(w4 d++(w2 p++w2 n))
theorem pseudo_sum (s d p:Int) (X:List Int):sumF true (pseudoB s d p X)=sumF true (headP s d p X.length)+sumF true X:=by
  have e:pseudoB s d p X=headP s d p X.length++X:=by simp [pseudoB,headP]
  have hl:(headP s d p X.length).length=12:=by simp [headP,w4,w2]
  rw [e,sumF_append,hl];rfl
theorem head_sum (s d p n:Int):sumF true (headP s d p n)=sumF true (w4 s)+sumF true (w4 d)+sumF true (w2 p)+sumF true (w2 n):=by
  have h4:∀ n r,sumF true (w4 n++r)=sumF true (w4 n)+sumF true r:=fun n r=>by rw [sumF_append,show (w4 n).length=4 from rfl];rfl
  have h2:∀ n r,sumF true (w2 n++r)=sumF true (w2 n)+sumF true r:=fun n r=>by rw [sumF_append,show (w2 n).length=2 from rfl];rfl
  rw [headP,h4,h4,h2]
  omega
theorem enc_len (e:Echo):((echoEnc e).length:Int)<=1480:=by
  unfold echoEnc
  split
  · rename_i h
    rw [setW_len,echo_len]
    unfold echoErr at h
    split at h
    · cases h
    · split at h
      · cases h
      · omega
  · simp
theorem notice_enc_len (e:Notice):((noticeEnc e).length:Int)<=1480:=by
  unfold noticeEnc
  split
  · rename_i h
    rw [setW_len,notice_len]
    unfold noticeErr at h
    split at h
    · cases h
    · split at h
      · cases h
      · split at h
        · cases h
        · omega
  · simp
theorem tcp_enc_len (s d:Int) (e:Seg):((tcpEnc s d e).length:Int)<=1480:=by
  unfold tcpEnc
  split
  · rename_i h
    rw [setW_len,tcp_len]
    unfold tcpErr at h
    split at h
    · cases h
    · split at h
      · cases h
      · omega
  · simp
theorem getD_same {l:List Int} {i:Nat} {v:Int} (h:i<l.length):(l.set i v).getD i default=v:=by
  rw [List.getD_eq_getElem?_getD,List.getElem?_set_self h,Option.getD_some]
theorem getD_ne {l:List Int} {i j:Nat} {v:Int} (h:i≠j):(l.set i v).getD j default=l.getD j default:=by
  rw [List.getD_eq_getElem?_getD,List.getElem?_set_ne h,← List.getD_eq_getElem?_getD]
theorem echo_zero {b:List Int} (h:unEchoErr b=0):8<=b.length/\csum (setW b 2 0)=wordAt b 2:=by
  unfold unEchoErr at h
  split at h
  · cases h
  · split at h
    · cases h
    · split at h
      · cases h
      · split at h
        · cases h
        · rename_i h1 _ _ h4
          exact ⟨by omega,Decidable.not_not.1 h4⟩
theorem head_nonneg (s d p n:Int):p%256<=sumF true (headP s d p n):=by
  rw [head_sum];simp [sumF,w4,w2];omega
end Go.RS
