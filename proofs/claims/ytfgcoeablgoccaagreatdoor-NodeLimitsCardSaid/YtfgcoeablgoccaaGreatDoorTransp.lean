/- Draw: the choices of a law, with loose contracts: a number in its range. -/
import Derived.Test.YtfgcoeablgoccaaGreatDoorBase
import Derived.Laws.Bits64
import Derived.Laws.Bits128
import Derived.Laws.BitsAllLaws
namespace Go.RS
open Go.SX Go.Proofs
set_option maxRecDepth 100000
set_option linter.unusedVariables false
def ct_draw_New:Ct:=⟨[.val (.sl cU8),.val cI],[.box 96 cCodes],fun d=>[0<=d.2.1],fun d=>(((if (d.1.length:Int)<=d.2.1 then d.1 else d.1.take d.2.1.toNat,0),()),())⟩
def an_draw_New:PDs ct_draw_New.ps->Anns:=(fun _=>{})
theorem vc_draw_New :
 ∀(a:List Int) (b:Int),(a.length<=maxLen/\ ∀(c:Int),c∈a->0<=c/\c<=255)/\R64 b/\True->0<=b->ifP (decide (b< ↑a.length)) ((0:Int)<=0/\0<=b/\b<= ↑a.length/\(subL a (Int.toNat (0:Int)) b.toNat,(0:Int))=(if↑a.length<=b then a else List.take b.toNat a,(0:Int))) ((a,(0:Int))=(if↑a.length<=b then a else List.take b.toNat a,(0:Int))):=by
  rintro x y ⟨-,⟨h0,h1⟩,-⟩ h
  refine ifP_split (fun hb => ?_) (fun hb => ?_)
  · have hb:=of_decide_eq_true hb
    refine ⟨by omega,h,by omega,?_⟩
    rw [if_neg (by omega)]
    simp [subL]
  · have hb:=of_decide_eq_false hb
    rw [if_pos (by omega)]
theorem ok_draw_New:SpecOK Tryz.prog GL 10 ct_draw_New.spec:=Ct.okH _ Tryz.func10 (by kernel_rfl) noSpecs_ok hmix an_draw_New (hideMp (by kernel_rfl) vc_draw_New)
def ct_Next256:Cn:=⟨[.box 96 cCodes,.val cI],[.val cI],fun d=>[okC d.1,d.2.1<=256],fun d y=>0<=y.1.1/\(y.1.1<d.2.1∨y.1.1=0)/\okC y.2.1,fun d h=>⟨((0,()),(d.1,())),by simp,by simp,h.1⟩⟩
def an_Next256:PDs ct_Next256.ps->Anns:=(fun _=>{})
def Qba0 (a:List Int) (b c:Int) :=
 c≠(0:Int)/\0<=Int.tmod (IntKind.wrap .i64 (a.getD b.toNat default)) c/\(Int.tmod (IntKind.wrap .i64 (a.getD b.toNat default)) c<c∨Int.tmod (IntKind.wrap .i64 (a.getD b.toNat default)) c=0)/\okC (a,IntKind.wrap .i64 (b+(1:Int)))
theorem vc_Next256 :
 ∀(a:List Int) (b c:Int),((a.length<=maxLen/\ ∀(d:Int),d∈a->0<=d/\d<=255)/\R64 b)/\R64 c/\True->okC (a,b)/\c<=256-> ∀(d:Bool),d=decide (a.length<=b)->((! d)->((! d)->(! d))/\True)/\(d=false->(! d))/\ifP (bif d then true else decide (c<1)) ((0:Int)<=0/\(0<c∨(0:Int)=0)/\okC (a,b)) (0<=b/\b< ↑a.length/\ifP (decide (256<c)) False (Qba0 a b c)):=by
  delta Qba0
  rintro l p n ⟨⟨⟨hl,hw⟩,h0,h1⟩,⟨h2,h3⟩,-⟩ ⟨⟨hc1,hc2⟩,hn⟩
  simp only [maxLen] at hl hc1 hc2
  (repeat (intro (b_:Bool) (hb_:b_=_);(repeat refine ⟨(by first|(simp;done)|(rw [hb_];simp;done)|(rw [hb_];simp;omega)|(rw [hb_];simp;intros;omega)|(rw [hb_];simp +contextual;done)),?_⟩);subst hb_))
  refine ifP_split (fun hb => ?_) (fun hb => ?_)
  · exact ⟨by omega,by simp,hc1,hc2⟩
  · simp at hb
    obtain ⟨hb1,hb2⟩:=hb
    obtain ⟨hm0,hm1⟩:=hw _ (getD_mem hc1 hb1)
    rw [w64 (by omega) (by omega),w64 (by omega) (by omega)]
    refine ⟨hc1,hb1,ifP_split (fun hb => ?_) (fun hb => ?_)⟩
    · have:=of_decide_eq_true hb;omega
    · exact ⟨by omega,tmod_lo hm0,.inl (tmod_hi hm0 (by omega)),by simp only [okC];omega⟩
theorem ok_Next256:SpecOK Tryz.prog GL 27 ct_Next256.spec:=Cn.okH _ Tryz.func27 (by kernel_rfl) noSpecs_ok hmix an_Next256 (hideMp (by kernel_rfl) vc_Next256)
def ct_Next:Cn:=⟨[.box 96 cCodes,.val cI],[.val cI],fun d=>[okC d.1],fun d y=>0<=y.1.1/\(y.1.1<d.2.1∨y.1.1=0)/\okC y.2.1,fun d h=>⟨((0,()),(d.1,())),by simp,by simp,h.1⟩⟩
def an_Next:PDs ct_Next.ps->Anns:=(fun _=>{})
def Qba1 (a:List Int) (b e:Int) :=
 IntKind.wrap .i64 (IntKind.wrap .i64 ((256:Int)*IntKind.wrap .i64 (a.getD b.toNat default))+e)
theorem vc_Next :
 ∀(a:List Int) (b c:Int),((a.length<=maxLen/\ ∀(d:Int),d∈a->0<=d/\d<=255)/\R64 b)/\R64 c/\True->0<=b/\b<= ↑a.length-> ∀(d:Bool),d=decide (a.length<=b)->((! d)->((! d)->(! d))/\True)/\(d=false->(! d))/\ifP (bif d then true else decide (c<1)) ((0:Int)<=0/\(0<c∨(0:Int)=0)/\okC (a,b)) (0<=b/\b< ↑a.length/\ifP (decide (256<c)) (okC (a,IntKind.wrap .i64 (b+(1:Int)))/\(256:Int)<=256/\ ∀(e:Int) (f:List Int) (g:Int),0<=e/\(e<256∨e=0)/\okC (f,g)->c≠(0:Int)/\0<=Int.tmod (Qba1 a b e) c/\(Int.tmod (Qba1 a b e) c<c∨Int.tmod (Qba1 a b e) c=0)/\okC (f,g)) (Qba0 a b c)):=by
  delta Qba0 Qba1
  rintro l p n ⟨⟨⟨hl,hw⟩,h0,h1⟩,⟨h2,h3⟩,-⟩ ⟨hc1,hc2⟩
  simp only [maxLen] at hl hc1 hc2
  (repeat (intro (b_:Bool) (hb_:b_=_);(repeat refine ⟨(by first|(simp;done)|(rw [hb_];simp;done)|(rw [hb_];simp;omega)|(rw [hb_];simp;intros;omega)|(rw [hb_];simp +contextual;done)),?_⟩);subst hb_))
  refine ifP_split (fun hb => ?_) (fun hb => ?_)
  · exact ⟨by omega,by simp,hc1,hc2⟩
  · simp at hb
    obtain ⟨hb1,hb2⟩:=hb
    obtain ⟨hm0,hm1⟩:=hw _ (getD_mem hc1 hb1)
    rw [w64 (by omega) (by omega),w64 (n:=l.getD p.toNat default) (by omega) (by omega)]
    refine ⟨hc1,hb1,ifP_split (fun hb => ?_) (fun hb => ?_)⟩
    · refine ⟨by simp only [okC];omega,by omega,?_⟩
      rintro r l2 p2 ⟨hr0,hr1,hr2⟩
      rw [w64 (n:=256*_) (by omega) (by omega),w64 (by omega) (by omega)]
      exact ⟨by omega,tmod_lo (by omega),.inl (tmod_hi (by omega) (by omega)),hr2⟩
    · exact ⟨by omega,tmod_lo hm0,.inl (tmod_hi hm0 (by omega)),by simp only [okC];omega⟩
theorem ok_Next:SpecOK Tryz.prog GL 27 ct_Next.spec:=Cn.okH _ Tryz.func27 (by kernel_rfl) (withSpec_ok noSpecs_ok ok_Next256) hmix an_Next (hideMp (by kernel_rfl) vc_Next)
end Go.RS

/- Mix: the mixing of 64 bits: what it is, and that it is one to one. -/
namespace Go.RS
open Go.SX
set_option linter.unusedVariables false
def xs (k a:Nat):Nat:=a ^^^ a/2^k
def mu (c a:Nat):Nat:=a*c%18446744073709551616
def mixN (x:Nat):Nat:=xs 31 (mu 10723151780598845931 (xs 27 (mu 13787848793156543929 (xs 30 ((x+11400714819323198485)%18446744073709551616)))))
def mix (x:Int):Int:=(mixN x.toNat:Int)
theorem xs_lt {k a:Nat} (ha:a<18446744073709551616):xs k a<18446744073709551616:=by
  have h1:a<2^64:=by omega
  have h2:a/2^k<2^64:=Nat.lt_of_le_of_lt (Nat.div_le_self _ _) h1
  have h3:a ^^^ a/2^k<2^64:=Nat.xor_lt_two_pow h1 h2
  unfold xs
  omega
theorem mu_lt {c a:Nat}:mu c a<18446744073709551616:=by unfold mu;omega
theorem mixN_lt (x:Nat):mixN x<18446744073709551616:=by
  unfold mixN
  exact xs_lt mu_lt
theorem mix_lt (x:Int):0<=mix x/\mix x<=18446744073709551615:=by
  have:=mixN_lt x.toNat
  unfold mix
  omega
theorem wrap_u64_nat (n:Nat):IntKind.u64.wrap (n:Int)=((n%18446744073709551616:Nat):Int):=by
  rw [IntKind.wrap_u64,Int.natCast_emod]
  rfl
theorem shr_u64_nat (n k:Nat) (hk:k<=64):shrI .u64 (n:Int) (k:Int)=((n/2^k:Nat):Int):=by
  unfold shrI
  have:min (k:Int).toNat IntKind.u64.bits=k:=by simp only [IntKind.bits,Int.toNat_natCast];omega
  rw [this,Int.fdiv_eq_ediv_of_nonneg _ (Int.le_of_lt (Int.pow_pos (by decide))),Int.natCast_ediv,Int.natCast_pow]
  rfl
theorem xs_u64 (n k:Nat) (hk:k<=64) (hn:n<18446744073709551616):bits .xor .u64 (n:Int) (shrI .u64 (n:Int) (k:Int))=(xs k n:Int):=by
  rw [shr_u64_nat n k hk]
  exact bits_xor_u64_nat _ _ hn (Nat.lt_of_le_of_lt (Nat.div_le_self _ _) hn)
theorem mu_u64 (n c:Nat):IntKind.u64.wrap ((n:Int)*(c:Int))=(mu c n:Int):=by
  rw [← Int.natCast_mul,wrap_u64_nat];rfl
end Go.RS

/- Balance: mixing, hashing, choosing; the law's draws. -/
namespace Go.RS
open Go.SX Go.Proofs
set_option maxRecDepth 100000
set_option linter.unusedVariables false
def ct_draw_Codes_Proto:Cn:=⟨[.box 96 cCodes],[.val cI],fun d=>[okC d.1],fun d y=>okC y.2.1/\(y.1.1=17∨y.1.1=1∨y.1.1=6),fun d h=>⟨((1,()),(d.1,())),h.1,by simp⟩⟩
def an_draw_Codes_Proto:PDs ct_draw_Codes_Proto.ps->Anns:=(fun _=>{})
theorem vc_draw_Codes_Proto :
 ∀(a:List Int) (b:Int),((a.length<=maxLen/\ ∀(c:Int),c∈a->0<=c/\c<=255)/\R64 b)/\True->0<=b/\b<= ↑a.length->okC (a,b)/\ ∀(c:Int) (d:List Int) (e:Int),0<=c/\(c<3∨c=0)/\okC (d,e)->0<=c/\c< ↑(List.length [(17:Int),(1:Int),(6:Int)])/\okC (d,e)/\(List.getD [(17:Int),(1:Int),(6:Int)] c.toNat default=17∨List.getD [(17:Int),(1:Int),(6:Int)] c.toNat default=1∨List.getD [(17:Int),(1:Int),(6:Int)] c.toNat default=6):=by
  rintro l p-h
  refine ⟨h,?_⟩
  rintro r l2 p2 ⟨h1,h2,h3⟩
  refine ⟨h1,by simp;omega,h3,?_⟩
  exact getD_all (p:=fun v=>v=17∨v=1∨v=6) (by simp) h1 (by simp;omega)
theorem ok_draw_Codes_Proto:SpecOK Tryz.prog GL 31 ct_draw_Codes_Proto.spec:=Cn.okH _ Tryz.func31 (by kernel_rfl) (withSpec_ok noSpecs_ok ok_Next) hmix an_draw_Codes_Proto (hideMp (by kernel_rfl) vc_draw_Codes_Proto)
def ct_balance_Mix:Ct:=⟨[.val cU64],[.val cU64],fun _=>[],fun d=>((mix d.1,()),())⟩
def an_balance_Mix:PDs ct_balance_Mix.ps->Anns:=(fun _=>{})
def Qbc0 (a:Int) :=
 IntKind.wrap .u64 (bits BinOp.xor IntKind.u64 (IntKind.wrap .u64 (a+(11400714819323198485:Int))) (shrI IntKind.u64 (IntKind.wrap .u64 (a+(11400714819323198485:Int))) (30:Int))*(13787848793156543929:Int))
def Qbc1 (a:Int) :=
 IntKind.wrap .u64 (bits BinOp.xor IntKind.u64 (Qbc0 a) (shrI IntKind.u64 (Qbc0 a) (27:Int))*(10723151780598845931:Int))
theorem vc_balance_Mix :
 ∀(a:Int),(0<=a/\a<=18446744073709551615)/\True->True->(0:Int)<=30/\(0:Int)<=27/\(0:Int)<=31/\bits BinOp.xor IntKind.u64 (Qbc1 a) (shrI IntKind.u64 (Qbc1 a) (31:Int))=mix a:=by
  delta Qbc0 Qbc1
  rintro x ⟨⟨h0,h1⟩,-⟩ -
  refine ⟨by decide,by decide,by decide,?_⟩
  have h0:0<=x:=h0
  obtain ⟨n,rfl⟩:=Int.eq_ofNat_of_zero_le h0
  have e0:IntKind.u64.wrap ((n:Int)+11400714819323198485)=(((n+11400714819323198485)%18446744073709551616:Nat):Int):=wrap_u64_nat (n+11400714819323198485)
  have hm:(n+11400714819323198485)%18446744073709551616<18446744073709551616:=by omega
  have e1:=xs_u64 _ 30 (by decide) hm
  have e2:=mu_u64 (xs 30 ((n+11400714819323198485)%18446744073709551616)) 13787848793156543929
  have e3:=xs_u64 _ 27 (by decide) (mu_lt (c:=13787848793156543929) (a:=xs 30 ((n+11400714819323198485)%18446744073709551616)))
  have e4:=mu_u64 (xs 27 (mu 13787848793156543929 (xs 30 ((n+11400714819323198485)%18446744073709551616)))) 10723151780598845931
  have e5:=xs_u64 _ 31 (by decide) (mu_lt (c:=10723151780598845931) (a:=xs 27 (mu 13787848793156543929 (xs 30 ((n+11400714819323198485)%18446744073709551616)))))
  have c1:((30:Nat):Int)=30:=rfl
  have c2:((27:Nat):Int)=27:=rfl
  have c3:((31:Nat):Int)=31:=rfl
  have c4:((13787848793156543929:Nat):Int)=13787848793156543929:=rfl
  have c5:((10723151780598845931:Nat):Int)=10723151780598845931:=rfl
  rw [c1] at e1
  rw [c4] at e2
  rw [c2] at e3
  rw [c5] at e4
  rw [c3] at e5
  rw [e0,e1,e2,e3,e4,e5]
  unfold mix mixN
  rw [Int.toNat_natCast]
theorem ok_balance_Mix:SpecOK Tryz.prog GL 217 ct_balance_Mix.spec:=Ct.okH _ Tryz.func217 (by kernel_rfl) noSpecs_ok hmix an_balance_Mix (hideMp (by kernel_rfl) vc_balance_Mix)
abbrev Key:Type:=Int×Int×Int×Int×Int
def hstep (h x:Int):Int:=mix (bits .xor .u64 h (IntKind.wrap .u64 x))
def hash (seed:Int) (k:Key):Int:=hstep (hstep (hstep (hstep (hstep (mix (IntKind.wrap .u64 seed)) k.1) k.2.1) k.2.2.1) k.2.2.2.1) k.2.2.2.2
theorem hash_range (s:Int) (k:Key):0<=hash s k/\hash s k<=18446744073709551615:=mix_lt _
def hashAt (seed:Int) (k:Key) (j:Int):Int:=([k.1,k.2.1,k.2.2.1,k.2.2.2.1,k.2.2.2.2].take j.toNat).foldl hstep (mix (IntKind.wrap .u64 seed))
def ct_balance_Hash:Ct:=⟨[.val cI,.agg cKey],[.val cU64],fun _=>[],fun d=>((hash d.1 d.2.1,()),())⟩
def an_balance_Hash:PDs ct_balance_Hash.ps->Anns:=(fun d=>{loops:=(fun n=>match n with|3=>some (fun S=>{ι:=Int×Int,qn:=⟨fun k_=>∀ (j:Int) (h:Int),k_ (j,h),fun k_ h_ i=>h_ i.1 i.2,fun k_=>∃ (j:Int) (h:Int),k_ (j,h),fun k_ ⟨j,h,h_⟩=>⟨_,h_⟩⟩,μ:=fun i=>(5-i.1).toNat,inv:=fun i=>0<=i.1/\i.1<=5/\i.2=hashAt d.1 d.2.1 i.1,keep:=[23],slots:=fun i=>[(5,.int .u64 i.2),(24,.int .i64 i.1)],names:=fun i=>[]})|_=>none)})
theorem vc_balance_Hash :
 ∀ (x x_1 x_2 x_3 x_4 x_5:Int),R64 x/\((0<=x_1/\x_1<=4294967295)/\(0<=x_2/\x_2<=4294967295)/\R64 x_3/\R64 x_4/\R64 x_5)/\True->True->(∃ j h,(0<=j/\j<=5/\h=hashAt x (x_1,x_2,x_3,x_4,x_5) j)/\mix (IntKind.wrap .u64 x)=h/\IntKind.wrap .i64 x_1=IntKind.wrap .i64 x_1/\IntKind.wrap .i64 x_2=IntKind.wrap .i64 x_2/\x_3=x_3/\x_4=x_4/\x_5=x_5/\(0:Int)=j/\True)/\∀ (j h:Int),0<=j/\j<=5/\h=hashAt x (x_1,x_2,x_3,x_4,x_5) j->ifP (decide (j<5)) (0<=j/\j<↑(5:Nat)/\∃ j_1 h_1,(0<=j_1/\j_1<=5/\h_1=hashAt x (x_1,x_2,x_3,x_4,x_5) j_1)/\Int.toNat ((5:Int)-j_1)<Int.toNat ((5:Int)-j)/\mix (bits BinOp.xor IntKind.u64 h (IntKind.wrap .u64 (pickI [IntKind.wrap .i64 x_1,IntKind.wrap .i64 x_2,x_3,x_4,x_5] j.toNat)))=h_1/\IntKind.wrap .i64 x_1=IntKind.wrap .i64 x_1 /\
 IntKind.wrap .i64 x_2=IntKind.wrap .i64 x_2/\x_3=x_3/\x_4=x_4/\x_5=x_5/\IntKind.wrap .i64 (j+(1:Int))=j_1/\True) (h=hash x (x_1,x_2,x_3,x_4,x_5)):=by
  rintro x a b c e f ⟨-,⟨⟨a0,a1⟩,⟨b0,b1⟩,⟨c0,c1⟩,⟨e0,e1⟩,f0,f1⟩,-⟩ -
  refine ⟨⟨0,_,⟨by omega,by omega,rfl⟩,(by repeat' first|exact trivial|refine ⟨trivial,?_⟩|refine ⟨(by with_reducible rfl),?_⟩|refine ⟨w64 (by omega) (by omega),?_⟩|refine ⟨rfl,?_⟩)⟩,?_⟩
  rintro j h ⟨h0,h1,rfl⟩
  refine ifP_split (fun hj => ?_) (fun hj => ?_)
  · have hj:=of_decide_eq_true hj
    refine ⟨h0,by omega,j+1,hashAt x (a,b,c,e,f) (j+1),⟨by omega,by omega,rfl⟩,by omega,?_,rfl,rfl,rfl,rfl,rfl,w64 (by omega) (by omega),trivial⟩
    rw [w64 (n:=a) (by omega) (by omega),w64 (n:=b) (by omega) (by omega)]
    have:j=0∨j=1∨j=2∨j=3∨j=4:=by omega
    rcases this with rfl|rfl|rfl|rfl|rfl <;> rfl
  · have hj:=of_decide_eq_false hj
    have:j=5:=by omega
    subst this
    rfl
theorem ok_balance_Hash:SpecOK Tryz.prog GL 213 ct_balance_Hash.spec:=Ct.okH _ Tryz.func213 (by kernel_rfl) (withSpec_ok noSpecs_ok ok_balance_Mix) hmix an_balance_Hash (hideMp (by kernel_rfl) vc_balance_Hash)
def choose (way seed:Int) (k:Key) (count n:Int):Int×Int :=
  if n<1∨16<n∨count<0∨way<1∨3<way then (0,1) else
    (if way=1 then (hash seed k).tmod n else if way=2 then (hash seed (k.1,k.2.1,0,0,0)).tmod n else count.tmod n,0)
def ct_balance_Choose:Ct:=⟨[.val cI,.val cI,.agg cKey,.val cI,.val cI],[.val cI,.val cI],fun _=>[],fun d=>(((choose d.1 d.2.1 d.2.2.1 d.2.2.2.1 d.2.2.2.2.1).1,(choose d.1 d.2.1 d.2.2.1 d.2.2.2.1 d.2.2.2.2.1).2,()),())⟩
def an_balance_Choose:PDs ct_balance_Choose.ps->Anns:=(fun _=>{})
theorem vc_balance_Choose :
 ∀(a b c d e f g h i:Int),R64 a/\R64 b/\((0<=c/\c<=4294967295)/\(0<=d/\d<=4294967295)/\R64 e/\R64 f/\R64 g)/\R64 h/\R64 i/\True->True-> ∀(j:Bool),j=decide (i<1)->((! j)->((! j)->(! j))/\True)/\(j=false->(! j))/\ ∀(k:Bool),(k=bif j then true else decide (16<i))->((! k)->((! k)->(! k))/\True)/\(k=false->(! k))/\ifP (bif k then true else decide (h<0)) ((0:Int)=(choose a b (c,d,e,f,g) h i).1/\(1:Int)=(choose a b (c,d,e,f,g) h i).2) (ifP (decide (a=1)) (IntKind.wrap .u64 i≠(0:Int)/\IntKind.wrap .i64 (Int.tmod (hash b (c,d,e,f,g)) (IntKind.wrap .u64 i))=(choose a b (c,d,e,f,g) h i).1/\(0:Int)=(choose a b (c,d,e,f,g) h i).2) (ifP (decide (a=2)) (IntKind.wrap .u64 i≠(0:Int)/\IntKind.wrap .i64 (Int.tmod (hash b (c,d,(0:Int),(0:Int),(0:Int))) (IntKind.wrap .u64 i))=(choose a b (c,d,e,f,g) h i).1/\(0:Int)=(choose a b (c,d,e,f,g) h i).2) (ifP (decide (a=3)) (IntKind.wrap .u64 i≠(0:Int)/\IntKind.wrap
 .i64 (Int.tmod (IntKind.wrap .u64 h) (IntKind.wrap .u64 i))=(choose a b (c,d,e,f,g) h i).1/\(0:Int)=(choose a b (c,d,e,f,g) h i).2) ((0:Int)=(choose a b (c,d,e,f,g) h i).1/\(1:Int)=(choose a b (c,d,e,f,g) h i).2)))):=by
  rintro x s a b c e f cnt n ⟨-,-,-,⟨c0,c1⟩,⟨n0,n1⟩,-⟩ -
  (repeat (intro (b_:Bool) (hb_:b_=_);(repeat refine ⟨(by first|(simp;done)|(rw [hb_];simp;done)|(rw [hb_];simp;omega)|(rw [hb_];simp;intros;omega)|(rw [hb_];simp +contextual;done)),?_⟩);subst hb_))
  refine ifP_split (fun h => ?_) (fun h => ?_)
  · simp at h
    unfold choose;rw [if_pos (by omega)];exact ⟨rfl,rfl⟩
  · simp at h
    rw [wu64 (n:=n) (by omega) (by omega)]
    have hr:∀ k,0<=(hash s k).tmod n/\(hash s k).tmod n<n:=fun k=>⟨tmod_lo (hash_range _ _).1,tmod_hi (hash_range _ _).1 (by omega)⟩
    unfold choose
    refine ifP_split (fun hx => ?_) (fun hx=>ifP_split (fun hy => ?_) (fun hy=>ifP_split (fun hz => ?_) (fun hz => ?_)))
    · simp at hx
      subst hx
      have:=hr (a,b,c,e,f)
      rw [if_neg (by omega),if_pos rfl,w64 (by omega) (by omega)]
      exact ⟨by omega,rfl,rfl⟩
    · simp at hx hy
      subst hy
      have:=hr (a,b,0,0,0)
      rw [if_neg (by omega),if_neg (by omega),if_pos rfl,w64 (by omega) (by omega)]
      exact ⟨by omega,rfl,rfl⟩
    · simp at hx hy hz
      subst hz
      have q0:=tmod_lo (b:=n) (a:=cnt) (by omega)
      have q1:=tmod_hi (b:=n) (a:=cnt) (by omega) (by omega)
      rw [if_neg (by omega),if_neg (by omega),if_neg (by omega),wu64 (n:=cnt) (by omega) (by omega),w64 (by omega) (by omega)]
      exact ⟨by omega,rfl,rfl⟩
    · simp at hx hy hz
      rw [if_pos (by omega)]
      exact ⟨rfl,rfl⟩
theorem ok_balance_Choose:SpecOK Tryz.prog GL 199 ct_balance_Choose.spec:=Ct.okH _ Tryz.func199 (by kernel_rfl) (withSpec_ok noSpecs_ok ok_balance_Hash) hmix an_balance_Choose (hideMp (by kernel_rfl) vc_balance_Choose)
end Go.RS

/- Ident: identifiers of answers. -/
namespace Go.RS
open Go.SX Go.Proofs
set_option maxRecDepth 100000
set_option linter.unusedVariables false
abbrev cPort:CT := .pair cU32 cI
abbrev cPrefix:CT := .pair cU32 cI
abbrev cRoute:CT := .pair cPrefix (.pair (.sl cI) cI)
abbrev cNode:CT := .pair (.sl cPort) (.pair cU32 (.pair cI (.pair .bool (.pair (.sl cRoute) (.pair cI (.pair cU32 (.pair cI (.pair cI (.pair cI (.pair cBucket (.pair .bool (.pair .bool (.pair cI cI)))))))))))))
abbrev cState:CT := .pair (.sl cRoute) (.pair cI (.pair (.sl cI) (.pair cTokens cI)))
abbrev Prefix:Type:=Int×Int
abbrev Route:Type:=Prefix×List Int×Int
abbrev Node:Type:=List (Int×Int)×Int×Int×Bool×List Route×Int×Int×Int×Int×Int×(Int×Int)×Bool×Bool×Int×Int
abbrev NState:Type:=List Route×Int×List Int×(Int×Int)×Int
def nPorts (n:Node):=n.1
def nLoop (n:Node):=n.2.1
def nOwner (n:Node):=n.2.2.1
def nHost (n:Node):=n.2.2.2.1
def nRoutes (n:Node):=n.2.2.2.2.1
def nSource (n:Node):=n.2.2.2.2.2.1
def nFixed (n:Node):=n.2.2.2.2.2.2.1
def nID (n:Node):=n.2.2.2.2.2.2.2.1
def nBase (n:Node):=n.2.2.2.2.2.2.2.2.1
def nSpeed (n:Node):=n.2.2.2.2.2.2.2.2.2.1
def nLimit (n:Node):=n.2.2.2.2.2.2.2.2.2.2.1
def nSilent (n:Node):=n.2.2.2.2.2.2.2.2.2.2.2.1
def nOpaque (n:Node):=n.2.2.2.2.2.2.2.2.2.2.2.2.1
def nFirst (n:Node):=n.2.2.2.2.2.2.2.2.2.2.2.2.2.1
def nSeed (n:Node):=n.2.2.2.2.2.2.2.2.2.2.2.2.2.2
def sRoutes (s:NState):=s.1
def sSent (s:NState):=s.2.1
def sPortSent (s:NState):=s.2.2.1
def sTokens (s:NState):=s.2.2.2.1
def sBalanced (s:NState):=s.2.2.2.2
theorem i64_and65535 (n:Int):bits .and .i64 n 65535=n%65536:=by
  have h127:(BitVec.ofInt 64 65535).toNat=2^16-1:=by decide
  have key:(BitVec.ofInt 64 n &&& BitVec.ofInt 64 65535).toNat=(n%((2^64:Nat):Int)).toNat%2^16:=by
    rw [BitVec.toNat_and,BitVec.toNat_ofInt,h127,Nat.and_two_pow_sub_one_eq_mod]
  show IntKind.i64.wrap ((BitVec.ofInt 64 n &&& BitVec.ofInt 64 65535).toNat:Nat)=n%65536
  rw [key,IntKind.wrap_i64]
  omega
theorem u64_and65535 {n:Int} (h0:0<=n) (h1:n<=18446744073709551615):bits .and .u64 n 65535=n%65536:=by
  rw [u64_and n 65535 h0 (by omega) (by decide) (by decide)]
  have:(n.toNat &&& Int.toNat 65535)=n.toNat%65536:=Nat.and_two_pow_sub_one_eq_mod n.toNat 16
  rw [this];omega
def grown (speed a:Int):Int:=if speed<0∨1000000<speed∨a<0∨1125899906842624<a then 0 else speed*(a/1000000)+speed*(a%1000000)/1000000
theorem grown_in {speed a:Int}:0<=grown speed a/\grown speed a<=2251799813685248:=by
  unfold grown
  split
  · omega
  · rename_i h
    have a1:0<=a/1000000:=by omega
    have a2:a/1000000<=1125899907:=by omega
    have a3:0<=a%1000000:=by omega
    have a4:a%1000000<=999999:=by omega
    have b1:0<=speed*(a/1000000):=Int.mul_nonneg (by omega) a1
    have b2:speed*(a/1000000)<=1000000*1125899907:=Int.mul_le_mul (by omega) a2 a1 (by omega)
    have b3:0<=speed*(a%1000000):=Int.mul_nonneg (by omega) a3
    have b4:speed*(a%1000000)<=1000000*999999:=Int.mul_le_mul (by omega) a4 a3 (by omega)
    omega
theorem grown_wrap {x a:Int} (h:¬ (x<0∨1000000<x∨a<0∨1125899906842624<a)) :
    IntKind.wrap IntKind.i64 (IntKind.wrap IntKind.i64 (x*IntKind.wrap IntKind.i64 (Int.tdiv a 1000000))+IntKind.wrap IntKind.i64 (Int.tdiv (IntKind.wrap IntKind.i64 (x*Int.tmod a 1000000)) 1000000))=grown x a:=by
  have h2:=grown_in (speed:=x) (a:=a)
  unfold grown at h2 ⊢
  rw [if_neg h] at h2 ⊢
  have a1:0<=a/1000000:=by omega
  have a2:a/1000000<=1125899907:=by omega
  have a3:0<=a%1000000:=by omega
  have a4:a%1000000<=999999:=by omega
  have b1:0<=x*(a/1000000):=Int.mul_nonneg (by omega) a1
  have b2:x*(a/1000000)<=1000000*1125899907:=Int.mul_le_mul (by omega) a2 a1 (by omega)
  have b3:0<=x*(a%1000000):=Int.mul_nonneg (by omega) a3
  have b4:x*(a%1000000)<=1000000*999999:=Int.mul_le_mul (by omega) a4 a3 (by omega)
  rw [Int.tdiv_eq_ediv_of_nonneg (show 0<=a by omega),Int.tmod_eq_emod_of_nonneg (show 0<=a by omega),w64 (n:=a/1000000) (by omega) (by omega),w64 (n:=x*(a/1000000)) (by omega) (by omega),
    w64 (n:=x*(a%1000000)) (by omega) (by omega),Int.tdiv_eq_ediv_of_nonneg b3,w64 (n:=x*(a%1000000)/1000000) (by omega) (by omega),w64 (by omega) (by omega)]
def ct_identifier_Grown:Ct:=⟨[.val cI,.val cI],[.val cI],fun _=>[],fun d=>((grown d.1 d.2.1,()),())⟩
def an_identifier_Grown:PDs ct_identifier_Grown.ps->Anns:=(fun _=>{})
theorem vc_identifier_Grown :
 ∀(a b:Int),R64 a/\R64 b/\True->True-> ∀(c:Bool),c=decide (a<0)->((! c)->((! c)->(! c))/\True)/\(c=false->(! c))/\ ∀(d:Bool),(d=bif c then true else decide (1000000<a))->((! d)->((! d)->(! d))/\True)/\(d=false->(! d))/\ ∀(e:Bool),(e=bif d then true else decide (b<0))->((! e)->((! e)->(! e))/\True)/\(e=false->(! e))/\ifP (bif e then true else decide (1125899906842624<b)) ((0:Int)=grown a b) ((1000000:Int)≠(0:Int)/\(1000000:Int)≠(0:Int)/\(1000000:Int)≠(0:Int)/\IntKind.wrap .i64 (IntKind.wrap .i64 (a*IntKind.wrap .i64 (Int.tdiv b (1000000:Int)))+IntKind.wrap .i64 (Int.tdiv (IntKind.wrap .i64 (a*Int.tmod b (1000000:Int))) (1000000:Int)))=grown a b):=by
  rintro x a - -
  (repeat (intro (b_:Bool) (hb_:b_=_);(repeat refine ⟨(by first|(simp;done)|(rw [hb_];simp;done)|(rw [hb_];simp;omega)|(rw [hb_];simp;intros;omega)|(rw [hb_];simp +contextual;done)),?_⟩);subst hb_))
  refine ifP_split (fun h => ?_) (fun h => ?_)
  · simp at h
    unfold grown;rw [if_pos (by omega)]
  · simp at h
    refine ⟨by omega,by omega,by omega,grown_wrap (by omega)⟩
theorem ok_identifier_Grown:SpecOK Tryz.prog GL 212 ct_identifier_Grown.spec:=Ct.okH _ Tryz.func212 (by kernel_rfl) noSpecs_ok hmix an_identifier_Grown (hideMp (by kernel_rfl) vc_identifier_Grown)
def idOK (n:Node):Bool:=decide (0<=nID n/\nID n<=5/\0<=nBase n/\nBase n<=65535/\0<=nSpeed n/\nSpeed n<=1000000)
def idCheck (n:Node):Int:=if idOK n then 0 else 1
def ct_identifier_Check:Ct:=⟨[.agg cNode],[.val cI],fun _=>[],fun d=>((idCheck d.1,()),())⟩
def an_identifier_Check:PDs ct_identifier_Check.ps->Anns:=(fun _=>{})
theorem vc_identifier_Check :
 ∀(a:Node),CT.wf cNode a/\True->True-> ∀(b:Bool),b=decide (a.2.2.2.2.2.2.2.1<0)->((! b)->((! b)->(! b))/\True)/\((! b)->((! b)->(! b))/\True)/\(b=false->(! b))/\ ∀(c:Bool),(c=bif b then true else decide (5<a.2.2.2.2.2.2.2.1))->((! c)->((! c)->(! c))/\True)/\((! c)->((! c)->(! c))/\True)/\(c=false->(! c))/\ ∀(d:Bool),(d=bif c then true else decide (a.2.2.2.2.2.2.2.2.1<0))->((! d)->((! d)->(! d))/\True)/\((! d)->((! d)->(! d))/\True)/\(d=false->(! d))/\ ∀(e:Bool),(e=bif d then true else decide (65535<a.2.2.2.2.2.2.2.2.1))->((! e)->((! e)->(! e))/\True)/\((! e)->((! e)->(! e))/\True)/\(e=false->(! e))/\ ∀(f:Bool),(f=bif e then true else decide (a.2.2.2.2.2.2.2.2.2.1<0))->((! f)->((! f)->(! f))/\True)/\((! f)->((! f)->(! f))/\True)/\(f=false->(! f))/\ifP (bif f then true else decide (1000000<a.2.2.2.2.2.2.2.2.2.1)) ((1:Int)=idCheck a) ((0:Int)=idCheck a):=by
  rintro d - -
  (repeat (intro (b_:Bool) (hb_:b_=_);(repeat refine ⟨(by first|(simp;done)|(rw [hb_];simp;done)|(rw [hb_];simp;omega)|(rw [hb_];simp;intros;omega)|(rw [hb_];simp +contextual;done)),?_⟩);subst hb_))
  unfold idCheck idOK nID nBase nSpeed
  generalize d.2.2.2.2.2.2.2.1=i
  generalize d.2.2.2.2.2.2.2.2.1=b
  generalize d.2.2.2.2.2.2.2.2.2.1=s
  refine ifP_split (fun h => ?_) (fun h => ?_)
  · simp at h
    rw [if_neg (by simp;omega)]
  · simp at h
    rw [if_pos (by simp;omega)]
theorem ok_identifier_Check:SpecOK Tryz.prog GL 49 ct_identifier_Check.spec:=Ct.okH _ Tryz.func49 (by kernel_rfl) noSpecs_ok hmix an_identifier_Check (hideMp (by kernel_rfl) vc_identifier_Check)
abbrev wI (n:Int):Int:=IntKind.i64.wrap n
def idSum (n:Node) (sent a:Int):Int:=wI (wI (nBase n+sent)+grown (nSpeed n) a)
def idCount (n:Node) (sent a:Int):Int:=idSum n sent a%65536
def ct_identifier_Next_1:Ct:=⟨[.val cI,.box 30 cNode,.box 3 cI],[.val cI],fun _=>[],fun d=>((idCount d.2.1 d.1 d.2.2.1,()),(d.2.1,d.2.2.1,()))⟩
def an_identifier_Next_1:PDs ct_identifier_Next_1.ps->Anns:=(fun _=>{})
theorem vc_identifier_Next_1 :
 ∀(a:Int) (b:Node) (c:Int),R64 a/\CT.wf cNode b/\R64 c/\True->True->bits BinOp.and IntKind.i64 (IntKind.wrap .i64 (IntKind.wrap .i64 (b.2.2.2.2.2.2.2.2.1+a)+grown b.2.2.2.2.2.2.2.2.2.1 c)) (65535:Int)=idCount b a c/\b=b/\c=c:=by
  rintro x d a - -
  exact ⟨i64_and65535 _,rfl,rfl⟩
theorem ok_identifier_Next_1:SpecOK Tryz.prog GL 211 ct_identifier_Next_1.spec:=Ct.okH _ Tryz.func211 (by kernel_rfl) (withSpec_ok noSpecs_ok ok_identifier_Grown) hmix an_identifier_Next_1 (hideMp (by kernel_rfl) vc_identifier_Next_1)
def idNext (n:Node) (s:NState) (port a asked dst:Int):Int :=
  if nID n=1 then nBase n else if nID n=2 then idCount n (sSent s) a
  else if nID n=3 then (if port<0∨(sPortSent s).length<=port then idCount n 0 a else idCount n ((sPortSent s).getD port.toNat default) a)
  else if nID n=4 then asked else if nID n=5 then hash (nBase n) (0,dst,0,sSent s,0)%65536 else 0
def ct_identifier_Next:Ct:=⟨[.agg cNode,.agg cState,.val cI,.val cI,.val cI,.val cU32],[.val cI],fun _=>[],fun d=>((idNext d.1 d.2.1 d.2.2.1 d.2.2.2.1 d.2.2.2.2.1 d.2.2.2.2.2.1,()),())⟩
def an_identifier_Next:PDs ct_identifier_Next.ps->Anns:=(fun _=>{})
theorem vc_identifier_Next :
 ∀(a:Node) (b:List Route) (c:Int) (d:List Int) (e f g h i j k:Int),CT.wf cNode a/\((b.length<=maxLen/\ ∀(l:Route),l∈b->((0<=l.1.1/\l.1.1<=4294967295)/\R64 l.1.2)/\(l.2.1.length<=maxLen/\ ∀(m:Int),m∈l.2.1->R64 m)/\R64 l.2.2)/\R64 c/\(d.length<=maxLen/\ ∀(l:Int),l∈d->R64 l)/\(R64 e/\R64 f)/\R64 g)/\R64 h/\R64 i/\R64 j/\(0<=k/\k<=4294967295)/\True->True->ifP (decide (a.2.2.2.2.2.2.2.1=1)) (a.2.2.2.2.2.2.2.2.1=idNext a (b,c,d,(e,f),g) h i j k) (ifP (decide (a.2.2.2.2.2.2.2.1=2)) (idCount a c i=idNext a (b,c,d,(e,f),g) h i j k) (ifP (decide (a.2.2.2.2.2.2.2.1=3)) (∀(l:Bool),l=decide (h<0)->((! l)->((! l)->(! l))/\True)/\((! l)->((! l)->(! l))/\True)/\((! l)->((! l)->(! l))/\((! l)->(! l))/\True)/\(l=false->(! l))/\ifP (bif l then true else decide (d.length<=h)) (idCount a (0:Int) i=idNext a (b,c,d,(e,f),g) h i j k) (0<=h/\h< ↑d.length/\idCount a (d.getD h.toNat default) i=idNext a
 (b,c,d,(e,f),g) h i j k)) (ifP (decide (a.2.2.2.2.2.2.2.1=4)) (j=idNext a (b,c,d,(e,f),g) h i j k) (ifP (decide (a.2.2.2.2.2.2.2.1=5)) (IntKind.wrap .i64 (bits BinOp.and IntKind.u64 (hash a.2.2.2.2.2.2.2.2.1 ((0:Int),k,(0:Int),c,(0:Int))) (65535:Int))=idNext a (b,c,d,(e,f),g) h i j k) ((0:Int)=idNext a (b,c,d,(e,f),g) h i j k))))):=by
  rintro d r se ps t1 t2 ba port a asked dst - -
  unfold idNext nID nBase sSent sPortSent
  simp only
  refine ifP_split (fun h => ?_) (fun h => ?_)
  · rw [if_pos (of_decide_eq_true h)]
  have h1:=of_decide_eq_false h
  rw [if_neg h1]
  refine ifP_split (fun h => ?_) (fun h => ?_)
  · rw [if_pos (of_decide_eq_true h)]
  have h2:=of_decide_eq_false h
  rw [if_neg h2]
  refine ifP_split (fun h => ?_) (fun h => ?_)
  · rw [if_pos (of_decide_eq_true h)]
    (repeat (intro (b_:Bool) (hb_:b_=_);(repeat refine ⟨(by first|(simp;done)|(rw [hb_];simp;done)|(rw [hb_];simp;omega)|(rw [hb_];simp;intros;omega)|(rw [hb_];simp +contextual;done)),?_⟩);subst hb_))
    refine ifP_split (fun h => ?_) (fun h => ?_)
    · simp at h
      rw [if_pos h]
    · simp at h
      exact ⟨by omega,by omega,by rw [if_neg (by omega)]⟩
  have h3:=of_decide_eq_false h
  rw [if_neg h3]
  refine ifP_split (fun h => ?_) (fun h => ?_)
  · rw [if_pos (of_decide_eq_true h)]
  have h4:=of_decide_eq_false h
  rw [if_neg h4]
  refine ifP_split (fun h => ?_) (fun h => ?_)
  · rw [if_pos (of_decide_eq_true h)]
    have hr:=hash_range d.2.2.2.2.2.2.2.2.1 (0,dst,0,se,0)
    rw [u64_and65535 hr.1 hr.2,w64 (by omega) (by omega)]
  · rw [if_neg (of_decide_eq_false h)]
theorem ok_identifier_Next:SpecOK Tryz.prog GL 194 ct_identifier_Next.spec:=Ct.okH _ Tryz.func194 (by kernel_rfl) (withSpec_ok (withSpec_ok noSpecs_ok ok_identifier_Next_1) ok_balance_Hash) hmix an_identifier_Next (hideMp (by kernel_rfl) vc_identifier_Next)
end Go.RS

/- Wire: numbers in bytes, the Internet checksum. -/
namespace Go.RS
open Go.SX Go.Proofs
set_option maxRecDepth 100000
set_option linter.unusedVariables false
def beT (n:Int) (w k:Nat):List Int:=(List.range k).map fun j=>n/256^(w-1-j)%256
def putBad (n w:Int):Prop:=w<1∨7<w∨n<0∨256^w.toNat<=n
instance (n w:Int):Decidable (putBad n w):=by unfold putBad;infer_instance
def putB (b:List Int) (n w:Int):List Int:=if putBad n w then [] else b++beT n w.toNat w.toNat
def putE (n w:Int):Int:=if putBad n w then 1 else 0
def numB (l:List Int):Int:=l.foldl (fun n x=>n*256+x) 0
def getV (b:List Int) (at' w:Int):Int:=if w<1∨7<w∨at'<0∨b.length-w<at' then 0 else numB ((b.drop at'.toNat).take w.toNat)
def getE (b:List Int) (at' w:Int):Int:=if w<1∨7<w∨at'<0 then 1 else if b.length-w<at' then 3 else 0
def oc (n:Int):Int:=if n=0 then 0 else (n-1)%65535+1
def sumF:Bool->List Int->Int
  | _,[]=>0
  | hi,x::r=>(if hi then x*256 else x)+sumF (!hi) r
def word16 (n:Int):Bool:=decide (0<=n/\n<=65535)
theorem i64_or_nat (a b:Nat) (ha:a<9223372036854775808) (hb:b<9223372036854775808):bits .or .i64 (a:Int) (b:Int)=((a ||| b:Nat):Int):=by
  have h:a ||| b<2^63:=Nat.or_lt_two_pow (by omega) (by omega)
  have key:(BitVec.ofInt 64 (a:Int) ||| BitVec.ofInt 64 (b:Int)).toNat=a ||| b:=by
    rw [BitVec.toNat_or,BitVec.toNat_ofInt,BitVec.toNat_ofInt]
    have e1:((a:Int)%((2^64:Nat):Int)).toNat=a:=by omega
    have e2:((b:Int)%((2^64:Nat):Int)).toNat=b:=by omega
    rw [e1,e2]
  show IntKind.i64.wrap ((BitVec.ofInt 64 (a:Int) ||| BitVec.ofInt 64 (b:Int)).toNat:Nat)=_
  rw [key,w64 (by omega) (by omega)]
theorem shl8 {n:Int} (h0:0<=n) (h1:n<=36028797018963967):shlI .i64 n 8=n*256:=by
  show IntKind.i64.wrap (n*2^(min 8 64))=_
  rw [w64 (by simp;omega) (by simp;omega)];rfl
theorem or8 {n x:Int} (h0:0<=n) (h1:n<=36028797018963966) (h2:0<=x) (h3:x<=255):bits .or .i64 (shlI .i64 n 8) (IntKind.wrap .i64 x)=n*256+x:=by
  rw [shl8 h0 (by omega),w64 (n:=x) (by omega) (by omega)]
  obtain ⟨m,rfl⟩:=Int.eq_ofNat_of_zero_le h0
  obtain ⟨y,rfl⟩:=Int.eq_ofNat_of_zero_le h2
  have:=i64_or_nat (m*256) y (by omega) (by omega)
  rw [nat_join 8 (m*256) y (by omega) (by omega)] at this
  push_cast at this
  exact this
theorem shr_pow {n:Int} {k:Nat} (h0:0<=n) (hk:k<8):shrI .i64 n (8*k)=n/256^k:=by
  unfold shrI
  have hm:min ((8*(k:Int))).toNat IntKind.i64.bits=8*k:=by simp only [IntKind.bits];omega
  rw [hm,Int.fdiv_eq_ediv_of_nonneg _ (Int.le_of_lt (Int.pow_pos (by decide))),Int.pow_mul]
  rfl
theorem shl_pow {w:Int} (h0:1<=w) (h1:w<=7):shlI .i64 1 (IntKind.wrap .i64 (8*w))=256^w.toNat:=by
  have:w=1∨w=2∨w=3∨w=4∨w=5∨w=6∨w=7:=by omega
  rcases this with rfl|rfl|rfl|rfl|rfl|rfl|rfl <;> decide
theorem beT_succ (n:Int) (w k:Nat):beT n w (k+1)=beT n w k++[n/256^(w-1-k)%256]:=by
  unfold beT;rw [List.range_succ,List.map_append];rfl
theorem beT_len (n:Int) (w k:Nat):(beT n w k).length=k:=by unfold beT;simp
theorem numB_snoc (l:List Int) (x:Int):numB (l++[x])=numB l*256+x:=by unfold numB;rw [List.foldl_append];rfl
theorem numB_bound:∀ (k:Nat) (l:List Int),l.length<=k->(∀ x∈l,0<=x/\x<=255)->0<=numB l/\numB l<256^k:=by
  intro k
  induction k with
  | zero =>
    intro l hl _
    have:l=[]:=List.eq_nil_of_length_eq_zero (by omega)
    subst this;exact ⟨by decide,by decide⟩
  | succ k ih =>
    intro l hl hx
    rcases List.eq_nil_or_concat l with rfl|⟨m,x,rfl⟩
    · exact ⟨by decide,Int.pow_pos (by decide)⟩
    · rw [List.concat_eq_append] at hl hx ⊢
      have h1:=ih m (by simp at hl;omega) (fun y hy=>hx y (List.mem_append_left _ hy))
      have h2:=hx x (by simp)
      rw [numB_snoc,Int.pow_succ]
      generalize (256:Int)^k=P at h1 ⊢
      omega
theorem numB_small {l:List Int} (hl:l.length<=6) (hx:∀ x∈l,0<=x/\x<=255):0<=numB l/\numB l<=281474976710655:=by
  have:=numB_bound 6 l hl hx
  have e:(256:Int)^6=281474976710656:=by decide
  omega
theorem oc_step {n:Int} (h:65535<n):oc (n/65536+n%65536)=oc n:=by
  unfold oc
  rw [if_neg (by omega),if_neg (by omega)];omega
theorem oc_small {n:Int} (h0:0<=n) (h1:n<=65535):oc n=n:=by
  unfold oc;split
  · omega
  · omega
theorem oc_range {n:Int} (h0:0<=n):0<=oc n/\oc n<=65535:=by unfold oc;split <;> omega
theorem oc_add {m x:Int} (h0:0<=m) (h1:0<=x):oc (oc m+x)=oc (m+x):=by
  unfold oc
  by_cases h:m=0
  · simp [h]
  · rw [if_neg h,if_neg (by omega),if_neg (by omega)];omega
theorem sumF_append (hi:Bool) (a b:List Int):sumF hi (a++b)=sumF hi a+sumF (if a.length%2=0 then hi else !hi) b:=by
  induction a generalizing hi with
  | nil=>simp [sumF]
  | cons x a ih =>
    rw [List.cons_append,sumF,sumF,ih,Int.add_assoc]
    congr 3
    rw [List.length_cons]
    by_cases h:a.length%2=0
    · rw [if_pos h,if_neg (by omega)]
    · rw [if_neg h,if_pos (by omega)];simp
theorem sumF_range (hi:Bool) (l:List Int) (hx:∀ x∈l,0<=x/\x<=255):0<=sumF hi l/\sumF hi l<=65280*l.length:=by
  induction l generalizing hi with
  | nil=>simp [sumF]
  | cons x l ih =>
    have h1:=ih (!hi) (fun y hy=>hx y (List.mem_cons_of_mem _ hy))
    have h2:=hx x List.mem_cons_self
    rw [sumF,List.length_cons]
    cases hi
    · simp at h1 ⊢;omega
    · simp at h1 ⊢;omega
theorem take_snoc {l:List Int} {j:Int} (h0:0<=j) (h1:j<l.length):l.take (j+1).toNat=l.take j.toNat++[l.getD j.toNat default]:=by
  have hj:j.toNat<l.length:=by omega
  rw [show (j+1).toNat=j.toNat+1 from by omega,List.take_succ_eq_append_getElem hj,List.getD_eq_getElem?_getD,List.getElem?_eq_getElem hj,Option.getD_some]
def ct_slices_Clone_b979:Ct:=⟨[.val (.sl cU8)],[.own 5 cU8],fun d=>[(d.1.length:Int)<=1099511627776],fun d=>((d.1,()),())⟩
def an_slices_Clone_b979:PDs ct_slices_Clone_b979.ps->Anns:=(fun _=>{})
def Qbe2 (a:List Int) :=
 (a.length:Int)
def Qbe8 (a:List Int) :=
 a.length<=maxLen/\ ∀(b:Int),b∈a->0<=b/\b<=255
theorem vc_slices_Clone_b979 :
 ∀(a:List Int),(Qbe8 a)/\True->(Qbe2 a)<=1099511627776-> ∀(b:Bool),(b=true->a.length=(0:Nat))->ifP b (([]:List Int)=a) (((0:Nat)+a.length)*(1:Nat)<=(140737488355328:Nat)/\a=a):=by
  delta Qbe2 Qbe8
  rintro x ⟨⟨hl,-⟩,-⟩ h b hb
  refine ifP_split (fun h1 => ?_) (fun h1=>⟨by omega,rfl⟩)
  have:=hb h1
  exact (List.eq_nil_of_length_eq_zero this).symm
theorem ok_slices_Clone_b979:SpecOK Tryz.prog GL 130 ct_slices_Clone_b979.spec:=Ct.okH _ Tryz.func130 (by kernel_rfl) noSpecs_ok hmix an_slices_Clone_b979 (hideMp (by kernel_rfl) vc_slices_Clone_b979)
def ct_wire_Put:Ct:=⟨[.val (.sl cU8),.val cI,.val cI],[.own 5 cU8,.val cI],fun d=>[(d.1.length:Int)<=1099511627776],fun d=>((putB d.1 d.2.1 d.2.2.1,putE d.2.1 d.2.2.1,()),())⟩
def an_wire_Put:PDs ct_wire_Put.ps->Anns:=(fun d=>{loops:=(fun n=>match n with|5=>some (fun S=>{ι:=Int×(List Int),qn:=⟨fun k_=>∀ (k:Int) (ys:(List Int)),k_ (k,ys),fun k_ h_ i=>h_ i.1 i.2,fun k_=>∃ (k:Int) (ys:(List Int)),k_ (k,ys),fun k_ ⟨k,ys,h_⟩=>⟨_,h_⟩⟩,μ:=fun i=>(d.2.2.1-i.1).toNat,inv:=fun i=>0<=i.1/\i.1<=d.2.2.1/\i.2=d.1++beT d.2.1 d.2.2.1.toNat i.1.toNat,keep:=[1,2],slots:=fun i=>[(8,.own 524288 1),(9,.int .i64 (8*(d.2.2.1-1-i.1)))],names:=fun i=>[(524288,.live (.row 5 cU8 i.2))]})|_=>none)})
def Qbe4 (a:List Int) :=
 a.length<=maxLen/\ ∀(d:Int),d∈a->0<=d/\d<=255
def Qbe7 (f:Bool) :=
 (! f)->((! f)->(! f))/\((! f)->(! f))/\True
theorem vc_wire_Put :
 ∀(a:List Int) (b c:Int),(Qbe4 a)/\R64 b/\R64 c/\True->(Qbe2 a)<=1099511627776-> ∀(d:Bool),d=decide (c<1)->((! d)->((! d)->(! d))/\True)/\(d=false->(! d))/\ ∀(e:Bool),(e=bif d then true else decide (7<c))->((! e)->((! e)->(! e))/\True)/\(e=false->(! e))/\ ∀(f:Bool),(f=bif e then true else decide (b<0))->((! f)->((! f)->(! f))/\True)/\((! f)->((! f)->(! f))/\0<=IntKind.wrap .i64 ((8:Int)*c)/\True)/\(Qbe7 f)/\(f=false->(! f))/\ifP (bif f then true else decide (shlI IntKind.i64 (1:Int) (IntKind.wrap .i64 ((8:Int)*c))<=b)) (([]:List Int)=putB a b c/\(1:Int)=putE b c) ((Qbe2 a)<=1099511627776/\(∃(g:Int) (h:List Int),(0<=g/\g<=c/\h=a++beT b c.toNat g.toNat)/\b=b/\c=c/\IntKind.wrap .i64 ((8:Int)*IntKind.wrap .i64 (c -(1:Int)))=8*(c -(1:Int) -g)/\a=h/\True)/\ ∀(g:Int) (h:List Int),0<=g/\g<=c/\h=a++beT b c.toNat g.toNat->ifP (decide ((0:Int)<=8*(c -(1:Int) -g))) ((0:Int)<=8*(c -(1:Int)
 -g)/\(h.length+List.length [IntKind.wrap .u8 (shrI IntKind.i64 b ((8:Int)*(c -(1:Int) -g)))])*(1:Nat)<=(140737488355328:Nat)/\ ∃(i:Int) (j:List Int),(0<=i/\i<=c/\j=a++beT b c.toNat i.toNat)/\Int.toNat (c -i)<Int.toNat (c -g)/\b=b/\c=c/\IntKind.wrap .i64 ((8:Int)*(c -(1:Int) -g) -(8:Int))=8*(c -(1:Int) -i)/\h++[IntKind.wrap .u8 (shrI IntKind.i64 b ((8:Int)*(c -(1:Int) -g)))]=j/\True) (h=putB a b c/\(0:Int)=putE b c)):=by
  delta Qbe2 Qbe4 Qbe7
  rintro b n w ⟨-,⟨n0,n1⟩,⟨w0,w1⟩,-⟩ hl
  rintro b1 rfl
  refine ⟨by simp,by simp,?_⟩
  rintro b1 rfl
  refine ⟨by simp,by simp,?_⟩
  rintro b1 rfl
  have hpre:(!(bif (bif decide (w<1) then true else decide (7<w)) then true else decide (n<0)))=true->1<=w/\w<=7/\0<=n:=by
    simp [Bool.cond_eq_ite];omega
  refine ⟨by simp,fun h=>⟨fun _=>h,by have:=hpre h;rw [w64 (by omega) (by omega)];omega,trivial⟩,fun h=>⟨fun _=>h,fun _=>h,trivial⟩,by simp,?_⟩
  refine ifP_split (fun hc => ?_) (fun hc => ?_)
  · have hbad:putBad n w:=by
      unfold putBad
      by_cases h:1<=w/\w<=7
      · rw [shl_pow h.1 h.2] at hc
        simp [Bool.cond_eq_ite] at hc;omega
      · omega
    rw [putB,putE,if_pos hbad,if_pos hbad];exact ⟨rfl,rfl⟩
  · have hw:1<=w/\w<=7/\0<=n:=hpre (by
      cases h:(bif (bif decide (w<1) then true else decide (7<w)) then true else decide (n<0)) with
      | false=>rfl
      | true=>rw [h] at hc;simp at hc)
    obtain ⟨h1,h7,hn⟩:=hw
    rw [shl_pow h1 h7] at hc
    have hgood:¬ putBad n w:=by
      unfold putBad
      simp [Bool.cond_eq_ite] at hc;omega
    rw [putB,putE,if_neg hgood,if_neg hgood]
    refine ⟨hl,⟨0,b,⟨by omega,by omega,by simp [beT]⟩,rfl,rfl,by rw [w64 (n:=w-1) (by omega) (by omega),w64 (by omega) (by omega)];omega,rfl,trivial⟩,?_⟩
    rintro k ys ⟨k0,k1,rfl⟩
    refine ifP_split (fun hk => ?_) (fun hk => ?_)
    · have hk:=of_decide_eq_true hk
      obtain ⟨j,hj⟩:=Int.eq_ofNat_of_zero_le (show 0<=w-1-k by omega)
      rw [hj,shr_pow hn (by omega),IntKind.wrap_u8']
      have hbl:=beT_len n w.toNat k.toNat
      refine ⟨by omega,by simp only [List.length_append,List.length_singleton,hbl];omega,k+1,_,⟨by omega,by omega,rfl⟩,by omega,rfl,rfl,by rw [w64 (by omega) (by omega)];omega,?_,trivial⟩
      rw [show (k+1).toNat=k.toNat+1 from by omega,beT_succ,List.append_assoc,show w.toNat-1-k.toNat=j from by omega]
    · have hk:=of_decide_eq_false hk
      rw [show k=w from by omega];exact ⟨rfl,rfl⟩
theorem ok_wire_Put:SpecOK Tryz.prog GL 132 ct_wire_Put.spec:=Ct.okH _ Tryz.func132 (by kernel_rfl) (withSpec_ok noSpecs_ok ok_slices_Clone_b979) hmix an_wire_Put (hideMp (by kernel_rfl) vc_wire_Put)
def ct_wire_Get:Ct:=⟨[.val (.sl cU8),.val cI,.val cI],[.val cI,.val cI],fun d=>[(d.1.length:Int)<=1099511627776],fun d=>((getV d.1 d.2.1 d.2.2.1,getE d.1 d.2.1 d.2.2.1,()),())⟩
def an_wire_Get:PDs ct_wire_Get.ps->Anns:=(fun d=>{loops:=(fun n=>match n with|7=>some (fun S=>{ι:=Int×Int,qn:=⟨fun k_=>∀ (j:Int) (n:Int),k_ (j,n),fun k_ h_ i=>h_ i.1 i.2,fun k_=>∃ (j:Int) (n:Int),k_ (j,n),fun k_ ⟨j,n,h_⟩=>⟨_,h_⟩⟩,μ:=fun i=>(d.2.2.1-i.1).toNat,inv:=fun i=>0<=i.1/\i.1<=d.2.2.1/\i.2=numB (((d.1.drop d.2.1.toNat).take d.2.2.1.toNat).take i.1.toNat),keep:=[34,35],slots:=fun i=>[(8,.int .i64 i.2),(36,.int .i64 i.1)],names:=fun i=>[]})|_=>none)})
def Qbe5 (b c:Int) :=
 Int.toNat (IntKind.wrap .i64 (b+c))
def Qbe0 (a:List Int) (b c:Int) :=
 ((List.length (subL a b.toNat (Qbe5 b c))):Int)
def Qbe6 (a:List Int) (b c:Int) :=
 List.take c.toNat (List.drop b.toNat a)
theorem vc_wire_Get :
 ∀(a:List Int) (b c:Int),(Qbe4 a)/\R64 b/\R64 c/\True->(Qbe2 a)<=1099511627776-> ∀(d:Bool),d=decide (c<1)->((! d)->((! d)->(! d))/\True)/\(d=false->(! d))/\ ∀(e:Bool),(e=bif d then true else decide (7<c))->((! e)->((! e)->(! e))/\True)/\(e=false->(! e))/\ifP (bif e then true else decide (b<0)) ((0:Int)=getV a b c/\(1:Int)=getE a b c) (ifP (decide (IntKind.wrap .i64 ((Qbe2 a) -c)<b)) ((0:Int)=getV a b c/\(3:Int)=getE a b c) (0<=b/\b<=IntKind.wrap .i64 (b+c)/\IntKind.wrap .i64 (b+c)<=(Qbe2 a)/\(∃(f:Int) (g:Int),(0<=f/\f<=c/\g=numB (List.take f.toNat (Qbe6 a b c)))/\(0:Int)=g/\subL a b.toNat (Qbe5 b c)=subL a b.toNat (Qbe5 b c)/\(Qbe0 a b c)=(Qbe0 a b c)/\(0:Int)=f/\True)/\ ∀(f g:Int),0<=f/\f<=c/\g=numB (List.take f.toNat (Qbe6 a b c))->ifP (decide (f<(Qbe0 a b c))) (0<=f/\f<(Qbe0 a b c)/\(0:Int)<=8/\ ∃(h:Int) (i:Int),(0<=h/\h<=c/\i=numB (List.take h.toNat (Qbe6 a b c)))/\Int.toNat (c
 -h)<Int.toNat (c -f)/\bits BinOp.or IntKind.i64 (shlI IntKind.i64 g (8:Int)) (IntKind.wrap .i64 (List.getD (subL a b.toNat (Qbe5 b c)) f.toNat default))=i/\subL a b.toNat (Qbe5 b c)=subL a b.toNat (Qbe5 b c)/\(Qbe0 a b c)=(Qbe0 a b c)/\IntKind.wrap .i64 (f+(1:Int))=h/\True) (g=getV a b c/\(0:Int)=getE a b c))):=by
  delta Qbe0 Qbe2 Qbe4 Qbe5 Qbe6
  rintro b a w ⟨⟨hl0,hx⟩,⟨a0,a1⟩,⟨w0,w1⟩,-⟩ hl
  (repeat (intro (b_:Bool) (hb_:b_=_);(repeat refine ⟨(by first|(simp;done)|(rw [hb_];simp;done)|(rw [hb_];simp;omega)|(rw [hb_];simp;intros;omega)|(rw [hb_];simp +contextual;done)),?_⟩);subst hb_))
  unfold getV getE
  refine ifP_split (fun hc => ?_) (fun hc => ?_)
  · have h:w<1∨7<w∨a<0:=by simp [Bool.cond_eq_ite] at hc;omega
    rw [if_pos (by omega),if_pos h];exact ⟨rfl,rfl⟩
  have h:¬ (w<1∨7<w∨a<0):=by simp [Bool.cond_eq_ite] at hc;omega
  rw [w64 (n:=(b.length:Int)-w) (by omega) (by omega),if_neg h]
  refine ifP_split (fun hd => ?_) (fun hd => ?_)
  · have hd:=of_decide_eq_true hd
    rw [if_pos (by omega),if_pos hd];exact ⟨rfl,rfl⟩
  have hd:=of_decide_eq_false hd
  rw [if_neg (by omega),if_neg hd,w64 (n:=a+w) (by omega) (by omega)]
  have hsub:subL b a.toNat (a+w).toNat=(b.drop a.toNat).take w.toNat:=by
    unfold subL;rw [List.drop_take,show (a+w).toNat-a.toNat=w.toNat from by omega]
  rw [hsub]
  have hlen:((b.drop a.toNat).take w.toNat).length=w.toNat:=by rw [List.length_take,List.length_drop];omega
  have hy:∀ y∈(b.drop a.toNat).take w.toNat,0<=y/\y<=255:=fun y hy=>hx y (List.mem_of_mem_drop (List.mem_of_mem_take hy))
  generalize (b.drop a.toNat).take w.toNat=m at *
  rw [hlen]
  refine ⟨by omega,by omega,by omega,⟨0,0,⟨by omega,by omega,by simp [numB]⟩,(by repeat' first|exact trivial|refine ⟨trivial,?_⟩|refine ⟨(by with_reducible rfl),?_⟩|refine ⟨w64 (by omega) (by omega),?_⟩|refine ⟨rfl,?_⟩)⟩,?_⟩
  rintro j n ⟨j0,j1,rfl⟩
  refine ifP_split (fun hj => ?_) (fun hj => ?_)
  · have hj:=of_decide_eq_true hj
    have ht:=take_snoc (l:=m) j0 (by omega)
    obtain ⟨x0,x1⟩:=hy _ (getD_mem (xs:=m) j0 (by omega))
    have hb:=numB_small (l:=m.take j.toNat) (by rw [List.length_take];omega) (fun y h=>hy y (List.mem_of_mem_take h))
    refine ⟨j0,hj,by omega,j+1,_,⟨by omega,by omega,rfl⟩,by omega,?_,rfl,rfl,w64 (by omega) (by omega),trivial⟩
    rw [ht,numB_snoc,or8 hb.1 (by omega) x0 x1]
  · have hj:=of_decide_eq_false hj
    rw [List.take_of_length_le (by omega)];exact ⟨rfl,rfl⟩
theorem ok_wire_Get:SpecOK Tryz.prog GL 135 ct_wire_Get.spec:=Ct.okH _ Tryz.func135 (by kernel_rfl) noSpecs_ok hmix an_wire_Get (hideMp (by kernel_rfl) vc_wire_Get)
def ct_wire_fold:Ct:=⟨[.val cI],[.val cI],fun d=>[0<=d.1],fun d=>((oc d.1,()),())⟩
def an_wire_fold:PDs ct_wire_fold.ps->Anns:=(fun d=>{loops:=(fun n=>match n with|1=>some (fun S=>{ι:=Int,μ:=fun i=>i.toNat,inv:=fun i=>0<=i/\i<=9223372036854775807/\oc i=oc d.1,keep:=[],slots:=fun i=>[(0,.int .i64 i)],names:=fun i=>[]})|_=>none)})
theorem vc_wire_fold :
 ∀(a:Int),R64 a/\True->0<=a->(∃(b:Int),(0<=b/\b<=9223372036854775807/\oc b=oc a)/\a=b/\True)/\ ∀(b:Int),0<=b/\b<=9223372036854775807/\oc b=oc a->ifP (decide (65535<b)) ((0:Int)<=16/\ ∃(c:Int),(0<=c/\c<=9223372036854775807/\oc c=oc a)/\c.toNat<b.toNat/\IntKind.wrap .i64 (shrI IntKind.i64 b (16:Int)+bits BinOp.and IntKind.i64 b (65535:Int))=c/\True) (b=oc a):=by
  rintro n ⟨⟨n0,n1⟩,-⟩ h
  refine ⟨⟨n,⟨h,n1,rfl⟩,rfl,trivial⟩,?_⟩
  rintro m ⟨m0,m1,m2⟩
  refine ifP_split (fun hm => ?_) (fun hm => ?_)
  · have hm:=of_decide_eq_true hm
    have e:=shr_pow (n:=m) (k:=2) m0 (by omega)
    have e2:(8:Int)*((2:Nat):Int)=16:=rfl
    rw [e2] at e
    rw [e,i64_and65535,w64 (by omega) (by omega)]
    have e3:(256:Int)^2=65536:=rfl
    rw [e3]
    exact ⟨by omega,_,⟨by omega,by omega,by rw [oc_step hm,m2]⟩,by omega,rfl,trivial⟩
  · have hm:=of_decide_eq_false hm
    rw [← m2,oc_small m0 (by omega)]
theorem ok_wire_fold:SpecOK Tryz.prog GL 204 ct_wire_fold.spec:=Ct.okH _ Tryz.func204 (by kernel_rfl) noSpecs_ok hmix an_wire_fold (hideMp (by kernel_rfl) vc_wire_fold)
theorem bit1 {j:Int} (h0:0<=j) (h1:j<=9223372036854775807):bits .and .i64 j 1=j%2:=by
  obtain ⟨m,rfl⟩:=Int.eq_ofNat_of_zero_le h0
  have key:(BitVec.ofInt 64 (m:Int) &&& BitVec.ofInt 64 1).toNat=m%2:=by
    rw [BitVec.toNat_and,BitVec.toNat_ofInt,show (BitVec.ofInt 64 1).toNat=1 from by decide]
    have e1:((m:Int)%((2^64:Nat):Int)).toNat=m:=by omega
    rw [e1,nat_mask1]
  show IntKind.i64.wrap ((BitVec.ofInt 64 (m:Int) &&& BitVec.ofInt 64 1).toNat:Nat)=_
  rw [key,w64 (by omega) (by omega)];omega
theorem shl0 {n:Int} (h0:0<=n) (h1:n<=36028797018963967):shlI .i64 n (IntKind.wrap .i64 (8*IntKind.wrap .i64 (1-1)))=n:=by
  show IntKind.i64.wrap (n*2^(min 0 64))=_
  rw [w64 (by simp;omega) (by simp;omega)];simp
def ct_wire_Sum:Ct:=⟨[.val (.sl cU8)],[.val cI],fun d=>[(d.1.length:Int)<=1099511627776],fun d=>((oc (sumF true d.1),()),())⟩
def an_wire_Sum:PDs ct_wire_Sum.ps->Anns:=(fun d=>{loops:=(fun n=>match n with|3=>some (fun S=>{ι:=Int×Int,qn:=⟨fun k_=>∀ (j:Int) (n:Int),k_ (j,n),fun k_ h_ i=>h_ i.1 i.2,fun k_=>∃ (j:Int) (n:Int),k_ (j,n),fun k_ ⟨j,n,h_⟩=>⟨_,h_⟩⟩,μ:=fun i=>(d.1.length-i.1).toNat,inv:=fun i=>0<=i.1/\i.1<=d.1.length/\i.2=sumF true (d.1.take i.1.toNat)/\0<=i.2/\i.2<=65280*i.1,keep:=[0,6,7],slots:=fun i=>[(3,.int .i64 i.2),(8,.int .i64 i.1)],names:=fun i=>[]})|_=>none)})
theorem vc_wire_Sum :
 ∀(a:List Int),(Qbe8 a)/\True->(Qbe2 a)<=1099511627776->(∃(b:Int) (c:Int),(0<=b/\b<=(Qbe2 a)/\c=sumF true (List.take b.toNat a)/\0<=c/\c<=65280*b)/\a=a/\(0:Int)=c/\a=a/\(Qbe2 a)=(Qbe2 a)/\(0:Int)=b/\True)/\ ∀(b c:Int),0<=b/\b<=(Qbe2 a)/\c=sumF true (List.take b.toNat a)/\0<=c/\c<=65280*b->ifP (decide (b<(Qbe2 a))) (0<=b/\b<(Qbe2 a)/\0<=IntKind.wrap .i64 ((8:Int)*IntKind.wrap .i64 ((1:Int) -bits BinOp.and IntKind.i64 b (1:Int)))/\ ∃(d:Int) (e:Int),(0<=d/\d<=(Qbe2 a)/\e=sumF true (List.take d.toNat a)/\0<=e/\e<=65280*d)/\Int.toNat ((Qbe2 a) -d)<Int.toNat ((Qbe2 a) -b)/\a=a/\IntKind.wrap .i64 (c+shlI IntKind.i64 (IntKind.wrap .i64 (a.getD b.toNat default)) (IntKind.wrap .i64 ((8:Int)*IntKind.wrap .i64 ((1:Int) -bits BinOp.and IntKind.i64 b (1:Int)))))=e/\a=a/\(Qbe2 a)=(Qbe2 a)/\IntKind.wrap .i64 (b+(1:Int))=d/\True) (0<=c/\oc c=oc (sumF true a)):=by
  delta Qbe2 Qbe8
  rintro l ⟨⟨-,hx⟩,-⟩ hl
  refine ⟨⟨0,0,⟨by omega,by omega,by simp [sumF],by omega,by omega⟩,(by repeat' first|exact trivial|refine ⟨trivial,?_⟩|refine ⟨(by with_reducible rfl),?_⟩|refine ⟨w64 (by omega) (by omega),?_⟩|refine ⟨rfl,?_⟩)⟩,?_⟩
  rintro j n ⟨j0,j1,rfl,n0,n1⟩
  refine ifP_split (fun hj => ?_) (fun hj => ?_)
  · have hj:=of_decide_eq_true hj
    obtain ⟨x0,x1⟩:=hx _ (getD_mem j0 hj)
    have ht:=take_snoc j0 hj
    have hs:=sumF_append true (l.take j.toNat) [l.getD j.toNat default]
    rw [← ht] at hs
    generalize l.getD j.toNat default=x at *
    have hb:=bit1 j0 (by omega)
    rw [hb]
    have hlen:(l.take j.toNat).length=j.toNat:=by rw [List.length_take];omega
    rw [hlen] at hs
    have hv:0<=IntKind.wrap .i64 (8*IntKind.wrap .i64 (1-j%2))/\shlI .i64 (IntKind.wrap .i64 x) (IntKind.wrap .i64 (8*IntKind.wrap .i64 (1-j%2)))=(if j%2=0 then x*256 else x):=by
      rw [w64 (n:=x) (by omega) (by omega)]
      by_cases he:j%2=0
      · rw [he,if_pos rfl];exact ⟨by decide,shl8 x0 (by omega)⟩
      · rw [show j%2=1 from by omega,if_neg (by decide)]
        exact ⟨by decide,shl0 x0 (by omega)⟩
    rw [hv.2]
    refine ⟨j0,hj,hv.1,j+1,sumF true (l.take (j+1).toNat),⟨by omega,by omega,rfl,?_,?_⟩,by omega,rfl,?_,rfl,rfl,w64 (by omega) (by omega),trivial⟩
    all_goals rw [hs]
    all_goals by_cases he:j%2=0
    all_goals first
      | rw [if_pos (show j.toNat%2=0 by omega)]
      | rw [if_neg (show ¬ j.toNat%2=0 by omega)]
    all_goals simp only [sumF,he,if_true,if_false,Bool.not_true,Bool.false_eq_true]
    all_goals try omega
    all_goals rw [w64 (by omega) (by omega)]
    all_goals omega
  · have hj:=of_decide_eq_false hj
    rw [List.take_of_length_le (by omega)] at n0 ⊢
    exact ⟨n0,rfl⟩
theorem ok_wire_Sum:SpecOK Tryz.prog GL 173 ct_wire_Sum.spec:=Ct.okH _ Tryz.func173 (by kernel_rfl) (withSpec_ok noSpecs_ok ok_wire_fold) hmix an_wire_Sum (hideMp (by kernel_rfl) vc_wire_Sum)
def ct_wire_Checksum:Ct:=⟨[.val (.sl cU8)],[.val cI],fun d=>[(d.1.length:Int)<=1099511627776],fun d=>((65535-oc (sumF true d.1),()),())⟩
def an_wire_Checksum:PDs ct_wire_Checksum.ps->Anns:=(fun _=>{})
def Qbe1 (a:List Int) :=
 (Qbe8 a)/\True->(Qbe2 a)<=1099511627776->(Qbe2 a)<=1099511627776/\IntKind.wrap .i64 ((65535:Int) -oc (sumF true a))=65535 -oc (sumF true a)
theorem vc_wire_Checksum :
 ∀(a:List Int),(Qbe1 a):=by
  delta Qbe1 Qbe2 Qbe8
  rintro l ⟨⟨-,hx⟩,-⟩ hl
  have:=oc_range (sumF_range true l hx).1
  exact ⟨hl,w64 (by omega) (by omega)⟩
theorem ok_wire_Checksum:SpecOK Tryz.prog GL 133 ct_wire_Checksum.spec:=Ct.okH _ Tryz.func133 (by kernel_rfl) (withSpec_ok noSpecs_ok ok_wire_Sum) hmix an_wire_Checksum (hideMp (by kernel_rfl) vc_wire_Checksum)
def ct_ref04_Put:Ct:=⟨[.val (.sl cU8),.val cI,.val cI],[.own 5 cU8,.val cI],fun d=>[(d.1.length:Int)<=1099511627776],fun d=>((putB d.1 d.2.1 d.2.2.1,putE d.2.1 d.2.2.1,()),())⟩
def an_ref04_Put:PDs ct_ref04_Put.ps->Anns:=(fun d=>{loops:=(fun n=>match n with|5=>some (fun S=>{ι:=Int×(List Int),qn:=⟨fun k_=>∀ (k:Int) (ys:(List Int)),k_ (k,ys),fun k_ h_ i=>h_ i.1 i.2,fun k_=>∃ (k:Int) (ys:(List Int)),k_ (k,ys),fun k_ ⟨k,ys,h_⟩=>⟨_,h_⟩⟩,μ:=fun i=>(d.2.2.1-i.1).toNat,inv:=fun i=>0<=i.1/\i.1<=d.2.2.1/\i.2=d.1++beT d.2.1 d.2.2.1.toNat i.1.toNat,keep:=[1,2],slots:=fun i=>[(8,.own 524288 1),(9,.int .i64 (d.2.2.1-1-i.1))],names:=fun i=>[(524288,.live (.row 5 cU8 i.2))]})|_=>none)})
theorem vc_ref04_Put :
 ∀(a:List Int) (b c:Int),(Qbe4 a)/\R64 b/\R64 c/\True->(Qbe2 a)<=1099511627776-> ∀(d:Bool),d=decide (c<1)->((! d)->((! d)->(! d))/\True)/\(d=false->(! d))/\ ∀(e:Bool),(e=bif d then true else decide (7<c))->((! e)->((! e)->(! e))/\True)/\(e=false->(! e))/\ ∀(f:Bool),(f=bif e then true else decide (b<0))->((! f)->((! f)->(! f))/\True)/\((! f)->((! f)->(! f))/\0<=IntKind.wrap .i64 ((8:Int)*c)/\True)/\(Qbe7 f)/\(f=false->(! f))/\ifP (bif f then true else decide (shlI IntKind.i64 (1:Int) (IntKind.wrap .i64 ((8:Int)*c))<=b)) (([]:List Int)=putB a b c/\(1:Int)=putE b c) (a.length*(1:Nat)<=(140737488355328:Nat)/\(∃(g:Int) (h:List Int),(0<=g/\g<=c/\h=a++beT b c.toNat g.toNat)/\b=b/\c=c/\IntKind.wrap .i64 (c -(1:Int))=c -(1:Int) -g/\a=h/\True)/\ ∀(g:Int) (h:List Int),0<=g/\g<=c/\h=a++beT b c.toNat g.toNat->ifP (decide (0<=c -(1:Int) -g)) (0<=IntKind.wrap .i64 ((8:Int)*(c -(1:Int)
 -g))/\(h.length+List.length [IntKind.wrap .u8 (shrI IntKind.i64 b (IntKind.wrap .i64 ((8:Int)*(c -(1:Int) -g))))])*(1:Nat)<=(140737488355328:Nat)/\ ∃(i:Int) (j:List Int),(0<=i/\i<=c/\j=a++beT b c.toNat i.toNat)/\Int.toNat (c -i)<Int.toNat (c -g)/\b=b/\c=c/\IntKind.wrap .i64 (c -(1:Int) -g -(1:Int))=c -(1:Int) -i/\h++[IntKind.wrap .u8 (shrI IntKind.i64 b (IntKind.wrap .i64 ((8:Int)*(c -(1:Int) -g))))]=j/\True) (h=putB a b c/\(0:Int)=putE b c)):=by
  delta Qbe2 Qbe4 Qbe7
  rintro b n w ⟨-,⟨n0,n1⟩,⟨w0,w1⟩,-⟩ hl
  rintro b1 rfl
  refine ⟨by simp,by simp,?_⟩
  rintro b1 rfl
  refine ⟨by simp,by simp,?_⟩
  rintro b1 rfl
  have hpre:(!(bif (bif decide (w<1) then true else decide (7<w)) then true else decide (n<0)))=true->1<=w/\w<=7/\0<=n:=by
    simp [Bool.cond_eq_ite];omega
  refine ⟨by simp,fun h=>⟨fun _=>h,by have:=hpre h;rw [w64 (by omega) (by omega)];omega,trivial⟩,fun h=>⟨fun _=>h,fun _=>h,trivial⟩,by simp,?_⟩
  refine ifP_split (fun hc => ?_) (fun hc => ?_)
  · have hbad:putBad n w:=by
      unfold putBad
      by_cases h:1<=w/\w<=7
      · rw [shl_pow h.1 h.2] at hc
        simp [Bool.cond_eq_ite] at hc;omega
      · omega
    rw [putB,putE,if_pos hbad,if_pos hbad];exact ⟨rfl,rfl⟩
  · have hw:1<=w/\w<=7/\0<=n:=hpre (by
      cases h:(bif (bif decide (w<1) then true else decide (7<w)) then true else decide (n<0)) with
      | false=>rfl
      | true=>rw [h] at hc;simp at hc)
    obtain ⟨h1,h7,hn⟩:=hw
    rw [shl_pow h1 h7] at hc
    have hgood:¬ putBad n w:=by
      unfold putBad
      simp [Bool.cond_eq_ite] at hc;omega
    rw [putB,putE,if_neg hgood,if_neg hgood]
    refine ⟨by omega,⟨0,b,⟨by omega,by omega,by simp [beT]⟩,rfl,rfl,by rw [w64 (by omega) (by omega)];omega,rfl,trivial⟩,?_⟩
    rintro k ys ⟨k0,k1,rfl⟩
    refine ifP_split (fun hk => ?_) (fun hk => ?_)
    · have hk:=of_decide_eq_true hk
      rw [w64 (n:=8*(w-1-k)) (by omega) (by omega)]
      obtain ⟨j,hj⟩:=Int.eq_ofNat_of_zero_le (show 0<=w-1-k by omega)
      rw [hj,shr_pow hn (by omega),IntKind.wrap_u8']
      have hbl:=beT_len n w.toNat k.toNat
      refine ⟨by omega,by simp only [List.length_append,List.length_singleton,hbl];omega,k+1,_,⟨by omega,by omega,rfl⟩,by omega,rfl,rfl,by rw [w64 (by omega) (by omega)];omega,?_,trivial⟩
      rw [show (k+1).toNat=k.toNat+1 from by omega,beT_succ,List.append_assoc,show w.toNat-1-k.toNat=j from by omega]
    · have hk:=of_decide_eq_false hk
      rw [show k=w from by omega];exact ⟨rfl,rfl⟩
theorem ok_ref04_Put:SpecOK Tryz.prog GL 169 ct_ref04_Put.spec:=Ct.okH _ Tryz.func169 (by kernel_rfl) noSpecs_ok hmix an_ref04_Put (hideMp (by kernel_rfl) vc_ref04_Put)
def ct_ref04_Push:Ct:=⟨[.val (.sl cU8),.val cI,.val cI],[.own 5 cU8],fun d=>[(d.1.length:Int)<=1099511627776],fun d=>((putB d.1 d.2.1 d.2.2.1,()),())⟩
def an_ref04_Push:PDs ct_ref04_Push.ps->Anns:=(fun _=>{})
theorem vc_ref04_Push :
 ∀(a:List Int) (b c:Int),(Qbe4 a)/\R64 b/\R64 c/\True->(Qbe2 a)<=1099511627776->(Qbe2 a)<=1099511627776/\putB a b c=putB a b c:=by
  delta Qbe2 Qbe4
  intro b n w _ h
  exact ⟨h,rfl⟩
theorem ok_ref04_Push:SpecOK Tryz.prog GL 124 ct_ref04_Push.spec:=Ct.okH _ Tryz.func124 (by kernel_rfl) (withSpec_ok noSpecs_ok ok_ref04_Put) hmix an_ref04_Push (hideMp (by kernel_rfl) vc_ref04_Push)
def ct_ref04_Get:Ct:=⟨[.val (.sl cU8),.val cI,.val cI],[.val cI,.val cI],fun d=>[(d.1.length:Int)<=1099511627776],fun d=>((getV d.1 d.2.1 d.2.2.1,getE d.1 d.2.1 d.2.2.1,()),())⟩
def an_ref04_Get:PDs ct_ref04_Get.ps->Anns:=(fun d=>{loops:=(fun n=>match n with|7=>some (fun S=>{ι:=Int×Int,qn:=⟨fun k_=>∀ (j:Int) (n:Int),k_ (j,n),fun k_ h_ i=>h_ i.1 i.2,fun k_=>∃ (j:Int) (n:Int),k_ (j,n),fun k_ ⟨j,n,h_⟩=>⟨_,h_⟩⟩,μ:=fun i=>(d.2.2.1-i.1).toNat,inv:=fun i=>0<=i.1/\i.1<=d.2.2.1/\i.2=numB (((d.1.drop d.2.1.toNat).take d.2.2.1.toNat).take i.1.toNat),keep:=[0,1,2],slots:=fun i=>[(8,.int .i64 i.2),(9,.int .i64 i.1)],names:=fun i=>[]})|_=>none)})
theorem vc_ref04_Get :
 ∀(a:List Int) (b c:Int),(Qbe4 a)/\R64 b/\R64 c/\True->(Qbe2 a)<=1099511627776-> ∀(d:Bool),d=decide (c<1)->((! d)->((! d)->(! d))/\True)/\(d=false->(! d))/\ ∀(e:Bool),(e=bif d then true else decide (7<c))->((! e)->((! e)->(! e))/\True)/\(e=false->(! e))/\ifP (bif e then true else decide (b<0)) ((0:Int)=getV a b c/\(1:Int)=getE a b c) (∀(f:Bool),f=decide ((Qbe2 a)<b)->((! f)->((! f)->(! f))/\True)/\(Qbe7 f)/\(Qbe7 f)/\(f=false->(! f))/\ifP (bif f then true else decide (IntKind.wrap .i64 ((Qbe2 a) -b)<c)) ((0:Int)=getV a b c/\(3:Int)=getE a b c) ((∃(g:Int) (h:Int),(0<=g/\g<=c/\h=numB (List.take g.toNat (Qbe6 a b c)))/\a=a/\b=b/\c=c/\(0:Int)=h/\(0:Int)=g/\True)/\ ∀(g h:Int),0<=g/\g<=c/\h=numB (List.take g.toNat (Qbe6 a b c))->ifP (decide (g<c)) ((0:Int)<=8/\0<=IntKind.wrap .i64 (b+g)/\IntKind.wrap .i64 (b+g)<(Qbe2 a)/\ ∃(i:Int) (j:Int),(0<=i/\i<=c/\j=numB (List.take i.toNat (Qbe6 a b
 c)))/\Int.toNat (c -i)<Int.toNat (c -g)/\a=a/\b=b/\c=c/\bits BinOp.or IntKind.i64 (shlI IntKind.i64 h (8:Int)) (IntKind.wrap .i64 (a.getD (Int.toNat (IntKind.wrap .i64 (b+g))) default))=j/\IntKind.wrap .i64 (g+(1:Int))=i/\True) (h=getV a b c/\(0:Int)=getE a b c))):=by
  delta Qbe2 Qbe4 Qbe6 Qbe7
  rintro b a w ⟨⟨hl0,hx⟩,⟨a0,a1⟩,⟨w0,w1⟩,-⟩ hl
  rintro b1 rfl
  refine ⟨by simp,by simp,?_⟩
  rintro b1 rfl
  refine ⟨by simp,by simp,?_⟩
  unfold getV getE
  refine ifP_split (fun hc => ?_) (fun hc => ?_)
  · have h:w<1∨7<w∨a<0:=by simp [Bool.cond_eq_ite] at hc;omega
    rw [if_pos (by omega),if_pos h];exact ⟨rfl,rfl⟩
  have h:¬ (w<1∨7<w∨a<0):=by simp [Bool.cond_eq_ite] at hc;omega
  rintro b1 rfl
  refine ⟨by simp,by simp,by simp,by simp,?_⟩
  rw [w64 (n:=(b.length:Int)-a) (by omega) (by omega),if_neg h]
  refine ifP_split (fun hd => ?_) (fun hd => ?_)
  · have hd:b.length<a∨b.length-a<w:=by simp [Bool.cond_eq_ite] at hd;omega
    rw [if_pos (by omega),if_pos (by omega)];exact ⟨rfl,rfl⟩
  have hd:¬ (b.length<a∨b.length-a<w):=by simp [Bool.cond_eq_ite] at hd;omega
  rw [if_neg (by omega),if_neg (by omega)]
  have hlen:((b.drop a.toNat).take w.toNat).length=w.toNat:=by rw [List.length_take,List.length_drop];omega
  have hy:∀ y∈(b.drop a.toNat).take w.toNat,0<=y/\y<=255:=fun y hy=>hx y (List.mem_of_mem_drop (List.mem_of_mem_take hy))
  have hget:∀ j:Int,0<=j->j<w->b.getD (a+j).toNat default=((b.drop a.toNat).take w.toNat).getD j.toNat default:=by
    intro j j0 j1
    rw [List.getD_eq_getElem?_getD,List.getD_eq_getElem?_getD,List.getElem?_take,if_pos (by omega),List.getElem?_drop]
    congr 2;omega
  generalize (b.drop a.toNat).take w.toNat=m at *
  refine ⟨⟨0,0,⟨by omega,by omega,by simp [numB]⟩,(by repeat' first|exact trivial|refine ⟨trivial,?_⟩|refine ⟨(by with_reducible rfl),?_⟩|refine ⟨w64 (by omega) (by omega),?_⟩|refine ⟨rfl,?_⟩)⟩,?_⟩
  rintro j n ⟨j0,j1,rfl⟩
  refine ifP_split (fun hj => ?_) (fun hj => ?_)
  · have hj:=of_decide_eq_true hj
    have ht:=take_snoc (l:=m) j0 (by omega)
    obtain ⟨x0,x1⟩:=hy _ (getD_mem (xs:=m) j0 (by omega))
    have hb:=numB_small (l:=m.take j.toNat) (by rw [List.length_take];omega) (fun y h=>hy y (List.mem_of_mem_take h))
    rw [w64 (n:=a+j) (by omega) (by omega),hget j j0 hj]
    refine ⟨by omega,by omega,by omega,j+1,_,⟨by omega,by omega,rfl⟩,by omega,rfl,rfl,rfl,?_,w64 (by omega) (by omega),trivial⟩
    rw [ht,numB_snoc,or8 hb.1 (by omega) x0 x1]
  · have hj:=of_decide_eq_false hj
    rw [List.take_of_length_le (by omega)];exact ⟨rfl,rfl⟩
theorem ok_ref04_Get:SpecOK Tryz.prog GL 121 ct_ref04_Get.spec:=Ct.okH _ Tryz.func121 (by kernel_rfl) noSpecs_ok hmix an_ref04_Get (hideMp (by kernel_rfl) vc_ref04_Get)
def ct_ref04_At:Ct:=⟨[.val (.sl cU8),.val cI,.val cI],[.val cI],fun d=>[(d.1.length:Int)<=1099511627776],fun d=>((getV d.1 d.2.1 d.2.2.1,()),())⟩
def an_ref04_At:PDs ct_ref04_At.ps->Anns:=(fun _=>{})
theorem vc_ref04_At :
 ∀(a:List Int) (b c:Int),(Qbe4 a)/\R64 b/\R64 c/\True->(Qbe2 a)<=1099511627776->(Qbe2 a)<=1099511627776/\getV a b c=getV a b c:=by
  delta Qbe2 Qbe4
  intro b n w _ h
  exact ⟨h,rfl⟩
theorem ok_ref04_At:SpecOK Tryz.prog GL 75 ct_ref04_At.spec:=Ct.okH _ Tryz.func75 (by kernel_rfl) (withSpec_ok noSpecs_ok ok_ref04_Get) hmix an_ref04_At (hideMp (by kernel_rfl) vc_ref04_At)
def ct_ref04_word:Ct:=⟨[.val cI],[.val .bool],fun d=>[],fun d=>((word16 d.1,()),())⟩
def an_ref04_word:PDs ct_ref04_word.ps->Anns:=(fun _=>{})
theorem vc_ref04_word :
 ∀(a:Int),R64 a/\True->True-> ∀(b:Bool),b=decide (0<=a)->(b->(b->b)/\True)/\(b->b)/\(bif b then decide (a<=65535) else false)=word16 a:=by
  rintro n - -
  (repeat (intro (b_:Bool) (hb_:b_=_);(repeat refine ⟨(by first|(simp;done)|(rw [hb_];simp;done)|(rw [hb_];simp;omega)|(rw [hb_];simp;intros;omega)|(rw [hb_];simp +contextual;done)),?_⟩);subst hb_))
  unfold word16
  by_cases h:0<=n <;> simp [h]
theorem ok_ref04_word:SpecOK Tryz.prog GL 203 ct_ref04_word.spec:=Ct.okH _ Tryz.func203 (by kernel_rfl) noSpecs_ok hmix an_ref04_word (hideMp (by kernel_rfl) vc_ref04_word)
def ct_ref04_Add:Ct:=⟨[.val cI,.val cI],[.val cI],fun d=>[],fun d=>((if word16 d.1&&word16 d.2.1 then oc (d.1+d.2.1) else 0,()),())⟩
def an_ref04_Add:PDs ct_ref04_Add.ps->Anns:=(fun _=>{})
theorem vc_ref04_Add :
 ∀(a b:Int),R64 a/\R64 b/\True->True-> ∀(c:Bool),c= ! word16 a->((! c)->((! c)->(! c))/\True)/\((! c)->((! c)->(! c))/\True)/\(c=false->(! c))/\ifP (bif c then true else ! word16 b) ((0:Int)=if (word16 a&&word16 b)=true then oc (a+b) else (0:Int)) ((0:Int)<=16/\IntKind.wrap .i64 (bits BinOp.and IntKind.i64 (IntKind.wrap .i64 (a+b)) (65535:Int)+shrI IntKind.i64 (IntKind.wrap .i64 (a+b)) (16:Int))=if (word16 a&&word16 b)=true then oc (a+b) else (0:Int)):=by
  rintro a b - -
  (repeat (intro (b_:Bool) (hb_:b_=_);(repeat refine ⟨(by first|(simp;done)|(rw [hb_];simp;done)|(rw [hb_];simp;omega)|(rw [hb_];simp;intros;omega)|(rw [hb_];simp +contextual;done)),?_⟩);subst hb_))
  refine ifP_split (fun hc => ?_) (fun hc => ?_)
  · rw [if_neg]
    intro h;simp at h;simp [h] at hc
  · have hw:word16 a=true/\word16 b=true:=by simpa [Bool.cond_eq_ite] using hc
    rw [if_pos (by simp [hw])]
    have ha:0<=a/\a<=65535:=of_decide_eq_true hw.1
    have hb:0<=b/\b<=65535:=of_decide_eq_true hw.2
    rw [w64 (n:=a+b) (by omega) (by omega)]
    have e:=shr_pow (n:=a+b) (k:=2) (by omega) (by omega)
    have e2:(8:Int)*((2:Nat):Int)=16:=rfl
    have e3:(256:Int)^2=65536:=rfl
    rw [e2,e3] at e
    rw [e,i64_and65535,w64 (by omega) (by omega)]
    refine ⟨by omega,?_⟩
    unfold oc;split <;> omega
theorem ok_ref04_Add:SpecOK Tryz.prog GL 170 ct_ref04_Add.spec:=Ct.okH _ Tryz.func170 (by kernel_rfl) (withSpec_ok noSpecs_ok ok_ref04_word) hmix an_ref04_Add (hideMp (by kernel_rfl) vc_ref04_Add)
def ct_ref04_Sum:Ct:=⟨[.val (.sl cU8)],[.val cI],fun d=>[(d.1.length:Int)<=1099511627776],fun d=>((oc (sumF true d.1),()),())⟩
def an_ref04_Sum:PDs ct_ref04_Sum.ps->Anns:=(fun d=>{loops:=(fun n=>match n with|3=>some (fun S=>{ι:=Int×Int,qn:=⟨fun k_=>∀ (k:Int) (s:Int),k_ (k,s),fun k_ h_ i=>h_ i.1 i.2,fun k_=>∃ (k:Int) (s:Int),k_ (k,s),fun k_ ⟨k,s,h_⟩=>⟨_,h_⟩⟩,μ:=fun i=>(d.1.length+1-2*i.1).toNat,inv:=fun i=>0<=i.1/\2*i.1<=d.1.length+1/\i.2=oc (sumF true (d.1.take (2*i.1).toNat))/\0<=i.2/\i.2<=65535,keep:=[0],slots:=fun i=>[(3,.int .i64 i.2),(4,.int .i64 (2*i.1))],names:=fun i=>[]})|_=>none)})
def Qbe3 (a:List Int) (b:Int) :=
 shlI IntKind.i64 (IntKind.wrap .i64 (a.getD (Int.toNat ((2:Int)*b)) default)) (8:Int)+IntKind.wrap .i64 (a.getD (Int.toNat (IntKind.wrap .i64 ((2:Int)*b+(1:Int)))) default)
def Qbe9 (a:List Int) (d e:Int) :=
 0<=d/\(2:Int)*d<=(Qbe2 a)+(1:Int)/\e=oc (sumF true (List.take (Int.toNat ((2:Int)*d)) a))/\0<=e/\e<=65535
theorem vc_ref04_Sum :
 ∀(a:List Int),(Qbe8 a)/\True->(Qbe2 a)<=1099511627776->(∃(b:Int) (c:Int),(0<=b/\(2:Int)*b<=(Qbe2 a)+(1:Int)/\c=oc (sumF true (List.take (Int.toNat ((2:Int)*b)) a))/\0<=c/\c<=65535)/\a=a/\(0:Int)=c/\(0:Int)=2*b/\True)/\ ∀(b c:Int),0<=b/\(2:Int)*b<=(Qbe2 a)+(1:Int)/\c=oc (sumF true (List.take (Int.toNat ((2:Int)*b)) a))/\0<=c/\c<=65535->ifP (decide ((2:Int)*b<(Qbe2 a))) ((0:Int)<=2*b/\(2:Int)*b<(Qbe2 a)/\(0:Int)<=8/\ifP (decide (IntKind.wrap .i64 ((2:Int)*b+(1:Int))<(Qbe2 a))) (0<=IntKind.wrap .i64 ((2:Int)*b+(1:Int))/\IntKind.wrap .i64 ((2:Int)*b+(1:Int))<(Qbe2 a)/\ ∃(d:Int) (e:Int),(Qbe9 a d e)/\Int.toNat ((Qbe2 a)+(1:Int) -(2:Int)*d)<Int.toNat ((Qbe2 a)+(1:Int) -(2:Int)*b)/\a=a/\(if (word16 c&&word16 (IntKind.wrap .i64 (Qbe3 a b)))=true then oc (c+IntKind.wrap .i64 (Qbe3 a b)) else (0:Int))=e/\IntKind.wrap .i64 ((2:Int)*b+(2:Int))=2*d/\True) (∃(d:Int) (e:Int),(Qbe9 a d e)/\Int.toNat
 ((Qbe2 a)+(1:Int) -(2:Int)*d)<Int.toNat ((Qbe2 a)+(1:Int) -(2:Int)*b)/\a=a/\(if (word16 c&&word16 (shlI IntKind.i64 (IntKind.wrap .i64 (a.getD (Int.toNat ((2:Int)*b)) default)) (8:Int)))=true then oc (c+shlI IntKind.i64 (IntKind.wrap .i64 (a.getD (Int.toNat ((2:Int)*b)) default)) (8:Int)) else (0:Int))=e/\IntKind.wrap .i64 ((2:Int)*b+(2:Int))=2*d/\True)) (c=oc (sumF true a)):=by
  delta Qbe2 Qbe3 Qbe8 Qbe9
  rintro l ⟨⟨-,hx⟩,-⟩ hl
  refine ⟨⟨0,0,⟨by omega,by omega,by simp [sumF,oc],by omega,by omega⟩,(by repeat' first|exact trivial|refine ⟨trivial,?_⟩|refine ⟨(by with_reducible rfl),?_⟩|refine ⟨w64 (by omega) (by omega),?_⟩|refine ⟨rfl,?_⟩)⟩,?_⟩
  rintro k s ⟨k0,k1,rfl,s0,s1⟩
  have hr:=sumF_range true (l.take (2*k).toNat) (fun y h=>hx y (List.mem_of_mem_take h))
  refine ifP_split (fun hk => ?_) (fun hk => ?_)
  · have hk:=of_decide_eq_true hk
    obtain ⟨x0,x1⟩:=hx _ (getD_mem (xs:=l) (i:=2*k) (by omega) hk)
    have ht:=take_snoc (l:=l) (j:=2*k) (by omega) hk
    have hlen:(l.take (2*k).toNat).length%2=0:=by rw [List.length_take];omega
    have hs:=sumF_append true (l.take (2*k).toNat)
    rw [if_pos hlen] at hs
    rw [w64 (n:=2*k+1) (by omega) (by omega),w64 (n:=l.getD (2*k).toNat default) (by omega) (by omega),shl8 x0 (by omega),w64 (n:=2*k+2) (by omega) (by omega)]
    refine ⟨by omega,hk,by omega,ifP_split (fun hc => ?_) (fun hc => ?_)⟩
    · have hc:=of_decide_eq_true hc
      obtain ⟨y0,y1⟩:=hx _ (getD_mem (xs:=l) (i:=2*k+1) (by omega) hc)
      have ht2:=take_snoc (l:=l) (j:=2*k+1) (by omega) hc
      rw [ht,List.append_assoc] at ht2
      rw [w64 (n:=l.getD (2*k+1).toNat default) (by omega) (by omega),w64 (n:=l.getD (2*k).toNat default*256+l.getD (2*k+1).toNat default) (by omega) (by omega)]
      rw [if_pos (by simp only [word16,Bool.and_eq_true,decide_eq_true_eq];omega),oc_add hr.1 (by omega)]
      have he:sumF true (l.take (2*(k+1)).toNat)=sumF true (l.take (2*k).toNat)+(l.getD (2*k).toNat default*256+l.getD (2*k+1).toNat default):=by
        rw [show 2*(k+1)=2*k+1+1 from by omega,ht2,hs]
        simp [sumF]
      refine ⟨by omega,hc,k+1,_,⟨by omega,by omega,rfl,?_,?_⟩,by omega,rfl,by rw [he],by omega,trivial⟩
      · rw [he];exact (oc_range (by omega)).1
      · rw [he];exact (oc_range (by omega)).2
    · have hc:=of_decide_eq_false hc
      rw [if_pos (by simp only [word16,Bool.and_eq_true,decide_eq_true_eq];omega),oc_add hr.1 (by omega)]
      have he:sumF true (l.take (2*(k+1)).toNat)=sumF true (l.take (2*k).toNat)+l.getD (2*k).toNat default*256:=by
        rw [show l.take (2*(k+1)).toNat=l.take (2*k+1).toNat from by rw [List.take_of_length_le (by omega),List.take_of_length_le (by omega)],ht,hs]
        simp [sumF]
      refine ⟨k+1,_,⟨by omega,by omega,rfl,?_,?_⟩,by omega,rfl,by rw [he],by omega,trivial⟩
      · rw [he];exact (oc_range (by omega)).1
      · rw [he];exact (oc_range (by omega)).2
  · have hk:=of_decide_eq_false hk
    rw [List.take_of_length_le (by omega)]
theorem ok_ref04_Sum:SpecOK Tryz.prog GL 200 ct_ref04_Sum.spec:=Ct.okH _ Tryz.func200 (by kernel_rfl) (withSpec_ok noSpecs_ok ok_ref04_Add) hmix an_ref04_Sum (hideMp (by kernel_rfl) vc_ref04_Sum)
def ct_ref04_Checksum:Ct:=⟨[.val (.sl cU8)],[.val cI],fun d=>[(d.1.length:Int)<=1099511627776],fun d=>((65535-oc (sumF true d.1),()),())⟩
def an_ref04_Checksum:PDs ct_ref04_Checksum.ps->Anns:=(fun _=>{})
theorem vc_ref04_Checksum :
 ∀(a:List Int),(Qbe1 a):=by
  delta Qbe1 Qbe2 Qbe8
  rintro l ⟨⟨-,hx⟩,-⟩ hl
  have:=oc_range (sumF_range true l hx).1
  exact ⟨hl,w64 (by omega) (by omega)⟩
theorem ok_ref04_Checksum:SpecOK Tryz.prog GL 162 ct_ref04_Checksum.spec:=Ct.okH _ Tryz.func162 (by kernel_rfl) (withSpec_ok noSpecs_ok ok_ref04_Sum) hmix an_ref04_Checksum (hideMp (by kernel_rfl) vc_ref04_Checksum)
end Go.RS

/- Transp: messages of three protocols. -/
namespace Go.RS
open Go.SX Go.Proofs
set_option maxRecDepth 100000
set_option linter.unusedVariables false
abbrev cEcho:CT := .pair .bool (.pair cI (.pair cI (.sl cU8)))
abbrev cNotice:CT := .pair cI (.pair cI (.sl cU8))
abbrev cDgram:CT := .pair cI (.pair cI (.sl cU8))
abbrev cSeg:CT := .pair cI (.pair cI (.pair cI (.pair cI (.pair cI (.pair cI (.sl cU8))))))
abbrev Echo:Type:=Bool×Int×Int×List Int
abbrev Notice:Type:=Int×Int×List Int
abbrev Dgram:Type:=Int×Int×List Int
abbrev Seg:Type:=Int×Int×Int×Int×Int×Int×List Int
def allIn (lim:Int) (l:List Int):Bool:=l.all fun n=>decide (0<=n/\n<=lim)
def w2 (n:Int):List Int:=[n/256%256,n%256]
def w4 (n:Int):List Int:=[n/16777216%256,n/65536%256,n/256%256,n%256]
def csum (b:List Int):Int:=65535-oc (sumF true b)
def setW (b:List Int) (at':Nat) (n:Int):List Int:=(b.set at' (n/256%256)).set (at'+1) (n%256)
def wordAt (b:List Int) (at':Nat):Int:=numB ((b.drop at').take 2)
def ct_transport_within_1:Ct:=⟨[.val cI,.box 3 cI],[.val .bool],fun _=>[],fun d=>((decide (d.1<0∨d.2.1<d.1),()),(d.2.1,()))⟩
def an_transport_within_1:PDs ct_transport_within_1.ps->Anns:=(fun _=>{})
theorem vc_transport_within_1 :
 ∀(a b:Int),R64 a/\R64 b/\True->True-> ∀(c:Bool),c=decide (a<0)->((! c)->((! c)->(! c))/\((! c)->(! c))/\True)/\(c=false->(! c))/\(bif c then true else decide (b<a))=decide (a<0∨b<a)/\b=b:=by
  rintro n lim - -
  rintro b rfl
  refine ⟨by simp,by simp,?_,rfl⟩
  rw [Bool.cond_eq_ite]
  by_cases h:n<0 <;> simp [h]
theorem ok_transport_within_1:SpecOK Tryz.prog GL 206 ct_transport_within_1.spec:=Ct.okH _ Tryz.func206 (by kernel_rfl) noSpecs_ok hmix an_transport_within_1 (hideMp (by kernel_rfl) vc_transport_within_1)
def ct_IndexWithin:Cn:=⟨[.val (.sl cI),.fn 206 1,.box 3 cI],[.val cI],fun _=>[],fun d y=>y.2.1=d.2.2.1 ∧ -1<=y.1.1/\(y.1.1 = -1↔allIn d.2.2.1 d.1=true),fun d h=>⟨((if allIn d.2.2.1 d.1=true then -1 else 0,()),(d.2.2.1,())),rfl,by by_cases h:allIn d.2.2.1 d.1=true <;> simp [h]⟩⟩
def an_IndexWithin:PDs ct_IndexWithin.ps->Anns:=(fun d=>{loops:=(fun n=>match n with|2=>some (fun S=>{ι:=Int,μ:=fun i=>(d.1.length-i).toNat,inv:=fun i=>0<=i/\i<=d.1.length/\allIn d.2.2.1 (d.1.take i.toNat)=true,keep:=[0,1,6,7],slots:=fun i=>[(8,.int .i64 i)],keepN:=[1048576],names:=fun i=>[]})|_=>none)})
def Qbf7 (a:List Int) :=
 (a.length:Int)
theorem vc_IndexWithin :
 ∀(a:List Int) (b:Int),(a.length<=maxLen/\ ∀(c:Int),c∈a->R64 c)/\True/\R64 b/\True->True->(∃(c:Int),(0<=c/\c<=(Qbf7 a)/\allIn b (List.take c.toNat a)=true)/\a=a/\a=a/\(Qbf7 a)=(Qbf7 a)/\(0:Int)=c/\b=b/\True)/\ ∀(c:Int),0<=c/\c<=(Qbf7 a)/\allIn b (List.take c.toNat a)=true->ifP (decide (c<(Qbf7 a))) (0<=c/\c<(Qbf7 a)/\ifP (decide (a.getD c.toNat default<0∨b<a.getD c.toNat default)) (b=b/\ -1<=c/\(c= -1↔allIn b a=true)) (∃(d:Int),(0<=d/\d<=(Qbf7 a)/\allIn b (List.take d.toNat a)=true)/\Int.toNat ((Qbf7 a) -d)<Int.toNat ((Qbf7 a) -c)/\a=a/\a=a/\(Qbf7 a)=(Qbf7 a)/\IntKind.wrap .i64 (c+(1:Int))=d/\b=b/\True)) (b=b/\(-1:Int)<= -1/\((-1:Int)= -1↔allIn b a=true)):=by
  delta Qbf7
  rintro l lim ⟨⟨hl,-⟩,-⟩ -
  simp only [maxLen] at hl
  refine ⟨⟨0,⟨by omega,by omega,by simp [allIn]⟩,(by repeat' first|exact trivial|refine ⟨trivial,?_⟩|refine ⟨(by with_reducible rfl),?_⟩|refine ⟨w64 (by omega) (by omega),?_⟩|refine ⟨rfl,?_⟩)⟩,?_⟩
  rintro j ⟨j0,j1,j2⟩
  refine ifP_split (fun hj => ?_) (fun hj => ?_)
  · have hj:=of_decide_eq_true hj
    have ht:=take_snoc j0 hj
    have hm:=getD_mem (xs:=l) j0 hj
    generalize l.getD j.toNat default=x at *
    refine ⟨j0,hj,ifP_split (fun hb => ?_) (fun hb => ?_)⟩
    · have hb:=of_decide_eq_true hb
      refine ⟨rfl,by omega,⟨fun h=>by omega,fun h => ?_⟩⟩
      unfold allIn at h
      have:=of_decide_eq_true (List.all_eq_true.1 h x hm)
      omega
    · have hb:=of_decide_eq_false hb
      refine ⟨j+1,⟨by omega,by omega,?_⟩,by omega,(by repeat' first|exact trivial|refine ⟨trivial,?_⟩|refine ⟨(by with_reducible rfl),?_⟩|refine ⟨w64 (by omega) (by omega),?_⟩|refine ⟨rfl,?_⟩)⟩
      rw [ht];unfold allIn at j2 ⊢
      rw [List.all_append,j2];simp;omega
  · have hj:=of_decide_eq_false hj
    rw [List.take_of_length_le (by omega)] at j2
    simp [j2]
theorem ok_IndexWithin:SpecOK Tryz.prog GL 216 ct_IndexWithin.spec:=Cn.okH _ Tryz.func216 (by kernel_rfl) (withSpec_ok noSpecs_ok ok_transport_within_1) hmix an_IndexWithin (hideMp (by kernel_rfl) vc_IndexWithin)
def ct_ContainsWithin:Ct:=⟨[.val (.sl cI),.fn 206 1,.box 3 cI],[.val .bool],fun _=>[],fun d=>((!allIn d.2.2.1 d.1,()),(d.2.2.1,()))⟩
def an_ContainsWithin:PDs ct_ContainsWithin.ps->Anns:=(fun _=>{})
theorem vc_ContainsWithin :
 ∀(a:List Int) (b:Int),(a.length<=maxLen/\ ∀(c:Int),c∈a->R64 c)/\True/\R64 b/\True->True-> ∀(c d:Int),d=b/\ -1<=c/\(c= -1↔allIn b a=true)->decide (0<=c)= ! allIn b a/\d=b:=by
  rintro l lim - - i b ⟨rfl,h1,h2⟩
  refine ⟨?_,rfl⟩
  cases h:allIn b l with
  | true=>rw [h2.2 h];rfl
  | false =>
    have:¬ i = -1:=fun e=>by rw [h2.1 e] at h;cases h
    simp;omega
theorem ok_ContainsWithin:SpecOK Tryz.prog GL 205 ct_ContainsWithin.spec:=Ct.okH _ Tryz.func205 (by kernel_rfl) (withSpec_ok noSpecs_ok ok_IndexWithin) hmix an_ContainsWithin (hideMp (by kernel_rfl) vc_ContainsWithin)
def ct_transport_within:Ct:=⟨[.val cI,.val (.sl cI)],[.val .bool],fun _=>[],fun d=>((allIn d.1 d.2.1,()),())⟩
def an_transport_within:PDs ct_transport_within.ps->Anns:=(fun _=>{})
theorem vc_transport_within :
 ∀(a:Int) (b:List Int),R64 a/\(b.length<=maxLen/\ ∀(c:Int),c∈b->R64 c)/\True->True->(!! allIn a b)=allIn a b:=by
  rintro lim l - -
  simp
theorem ok_transport_within:SpecOK Tryz.prog GL 174 ct_transport_within.spec:=Ct.okH _ Tryz.func174 (by kernel_rfl) (withSpec_ok noSpecs_ok ok_ContainsWithin) hmix an_transport_within (hideMp (by kernel_rfl) vc_transport_within)
theorem flat_w2 (l:List Int):(l.flatMap w2).length=2*l.length:=by
  induction l with
  | nil=>rfl
  | cons x l ih=>rw [List.flatMap_cons,List.length_append,ih,List.length_cons];simp [w2];omega
theorem beT2 (n:Int):beT n 2 2=w2 n:=by
  simp [beT,w2,List.range,List.range.loop]
theorem beT4 (n:Int):beT n 4 4=w4 n:=by
  simp [beT,w4,List.range,List.range.loop]
theorem beT1 (n:Int):beT n 1 1=[n%256]:=by
  simp [beT,List.range,List.range.loop]
theorem putB_2 {b:List Int} {n:Int} (h0:0<=n) (h1:n<=65535):putB b n 2=b++w2 n:=by
  rw [putB,if_neg,← beT2]
  · rfl
  · unfold putBad
    have:(256:Int)^(2:Int).toNat=65536:=rfl
    rw [this];omega
theorem putB_4 {b:List Int} {n:Int} (h0:0<=n) (h1:n<=4294967295):putB b n 4=b++w4 n:=by
  rw [putB,if_neg,← beT4]
  · rfl
  · unfold putBad
    have:(256:Int)^(4:Int).toNat=4294967296:=rfl
    rw [this];omega
theorem putB_1 {b:List Int} {n:Int} (h0:0<=n) (h1:n<=255):putB b n 1=b++[n]:=by
  rw [putB,if_neg,show beT n (1:Int).toNat (1:Int).toNat=[n] from by
    have:=beT1 n
    rw [Int.emod_eq_of_lt h0 (by omega)] at this
    exact this]
  unfold putBad
  have:(256:Int)^(1:Int).toNat=256:=rfl
  rw [this];omega
def ct_transport_put:Ct:=⟨[.nils,.val (.sl cI)],[.own 5 cU8],fun d=>[allIn 65535 d.2.1=true,(d.2.1.length:Int)<=1073741824],fun d=>((d.2.1.flatMap w2,()),())⟩
def an_transport_put:PDs ct_transport_put.ps->Anns:=(fun d=>{loops:=(fun n=>match n with|2=>some (fun S=>{ι:=Int×(List Int),qn:=⟨fun k_=>∀ (j:Int) (ys:(List Int)),k_ (j,ys),fun k_ h_ i=>h_ i.1 i.2,fun k_=>∃ (j:Int) (ys:(List Int)),k_ (j,ys),fun k_ ⟨j,ys,h_⟩=>⟨_,h_⟩⟩,μ:=fun i=>(d.2.1.length-i.1).toNat,inv:=fun i=>0<=i.1/\i.1<=d.2.1.length/\i.2=(d.2.1.take i.1.toNat).flatMap w2,keep:=[7,8],slots:=fun i=>[(0,.own 524288 1),(9,.int .i64 i.1)],names:=fun i=>[(524288,.live (.row 5 cU8 i.2))]})|_=>none)})
theorem vc_transport_put :
 ∀(a:List Int),True/\(a.length<=maxLen/\ ∀(b:Int),b∈a->R64 b)/\True->allIn (65535:Int) a=true/\(Qbf7 a)<=1073741824->(∃(b:Int) (c:List Int),(0<=b/\b<=(Qbf7 a)/\c=List.flatMap w2 (List.take b.toNat a))/\a=a/\(Qbf7 a)=(Qbf7 a)/\(0:Int)=b/\c=([]:List Int)/\True)/\ ∀(b:Int) (c:List Int),0<=b/\b<=(Qbf7 a)/\c=List.flatMap w2 (List.take b.toNat a)->ifP (decide (b<(Qbf7 a))) (0<=b/\b<(Qbf7 a)/\(c.length:Int)<=1099511627776/\ ∃(d:Int) (e:List Int),(0<=d/\d<=(Qbf7 a)/\e=List.flatMap w2 (List.take d.toNat a))/\Int.toNat ((Qbf7 a) -d)<Int.toNat ((Qbf7 a) -b)/\a=a/\(Qbf7 a)=(Qbf7 a)/\IntKind.wrap .i64 (b+(1:Int))=d/\putB c (a.getD b.toNat default) (2:Int)=e/\True) (c=List.flatMap w2 a):=by
  delta Qbf7
  rintro l ⟨-,⟨hl,-⟩,-⟩ ⟨ha,hk⟩
  refine ⟨⟨0,[],⟨by omega,by omega,by simp⟩,(by repeat' first|exact trivial|refine ⟨trivial,?_⟩|refine ⟨(by with_reducible rfl),?_⟩|refine ⟨w64 (by omega) (by omega),?_⟩|refine ⟨rfl,?_⟩)⟩,?_⟩
  rintro j ys ⟨j0,j1,rfl⟩
  refine ifP_split (fun hj => ?_) (fun hj => ?_)
  · have hj:=of_decide_eq_true hj
    have ht:=take_snoc j0 hj
    have hm:=getD_mem (xs:=l) j0 hj
    have hlen:((l.take j.toNat).flatMap w2).length=2*j.toNat:=by
      rw [flat_w2,List.length_take];omega
    generalize l.getD j.toNat default=x at *
    have hx:=of_decide_eq_true (List.all_eq_true.1 ha x hm)
    refine ⟨j0,hj,by omega,j+1,_,⟨by omega,by omega,rfl⟩,by omega,rfl,rfl,w64 (by omega) (by omega),?_,trivial⟩
    rw [ht,List.flatMap_append,putB_2 hx.1 hx.2];simp
  · have hj:=of_decide_eq_false hj
    rw [List.take_of_length_le (by omega)]
theorem ok_transport_put:SpecOK Tryz.prog GL 175 ct_transport_put.spec:=Ct.okH _ Tryz.func175 (by kernel_rfl) (withSpec_ok noSpecs_ok ok_wire_Put) hmix an_transport_put (hideMp (by kernel_rfl) vc_transport_put)
def ct_transport_word:Ct:=⟨[.val (.sl cU8),.val cI],[.val cI],fun d=>[0<=d.2.1,d.2.1+2<=d.1.length,(d.1.length:Int)<=1099511627776],fun d=>((wordAt d.1 d.2.1.toNat,()),())⟩
def an_transport_word:PDs ct_transport_word.ps->Anns:=(fun _=>{})
theorem vc_transport_word :
 ∀(a:List Int) (b:Int),(a.length<=maxLen/\ ∀(c:Int),c∈a->0<=c/\c<=255)/\R64 b/\True->0<=b/\b+2<=(Qbf7 a)/\(Qbf7 a)<=1099511627776->(Qbf7 a)<=1099511627776/\getV a b (2:Int)=wordAt a b.toNat:=by
  delta Qbf7
  rintro b a-⟨h0,h1,h2⟩
  refine ⟨h2,?_⟩
  rw [getV,if_neg (by omega)];rfl
theorem ok_transport_word:SpecOK Tryz.prog GL 181 ct_transport_word.spec:=Ct.okH _ Tryz.func181 (by kernel_rfl) (withSpec_ok noSpecs_ok ok_wire_Get) hmix an_transport_word (hideMp (by kernel_rfl) vc_transport_word)
theorem shr8 {n:Int} (h0:0<=n):shrI .i64 n 8=n/256:=by
  have e:=shr_pow (n:=n) (k:=1) h0 (by omega)
  exact e
def ct_transport_replaced:Ct:=⟨[.val (.sl cU8),.val cI,.val cI],[.own 5 cU8],fun d=>[0<=d.2.1,d.2.1+2<=d.1.length,(d.1.length:Int)<=1099511627776,0<=d.2.2.1,d.2.2.1<=65535],fun d=>((setW d.1 d.2.1.toNat d.2.2.1,()),())⟩
def an_transport_replaced:PDs ct_transport_replaced.ps->Anns:=(fun _=>{})
def Qbf4 (a:List Int) (b c:Int) :=
 (0:Int)<=8/\0<=b/\b<(Qbf7 a)/\0<=IntKind.wrap .i64 (b+(1:Int))/\IntKind.wrap .i64 (b+(1:Int))<((List.length (List.set a b.toNat (IntKind.wrap .u8 (shrI IntKind.i64 c (8:Int))))):Int)/\List.set (List.set a b.toNat (IntKind.wrap .u8 (shrI IntKind.i64 c (8:Int)))) (Int.toNat (IntKind.wrap .i64 (b+(1:Int)))) (IntKind.wrap .u8 c)=setW a b.toNat c
theorem vc_transport_replaced :
 ∀(a:List Int) (b c:Int),(a.length<=maxLen/\ ∀(d:Int),d∈a->0<=d/\d<=255)/\R64 b/\R64 c/\True->0<=b/\b+2<=(Qbf7 a)/\(Qbf7 a)<=1099511627776/\0<=c/\c<=65535->(Qbf7 a)<=1099511627776/\(Qbf4 a b c):=by
  delta Qbf4 Qbf7
  rintro b a n-⟨h0,h1,h2,n0,n1⟩
  rw [w64 (n:=a+1) (by omega) (by omega),shr8 n0,IntKind.wrap_u8',IntKind.wrap_u8',List.length_set]
  refine ⟨by omega,by omega,by omega,by omega,by omega,by omega,?_⟩
  rw [setW,show (a+1).toNat=a.toNat+1 from by omega]
theorem ok_transport_replaced:SpecOK Tryz.prog GL 207 ct_transport_replaced.spec:=Ct.okH _ Tryz.func207 (by kernel_rfl) (withSpec_ok noSpecs_ok ok_slices_Clone_b979) hmix an_transport_replaced (hideMp (by kernel_rfl) vc_transport_replaced)
def ct_transport_limited:Ct:=⟨[.val (.sl cU8),.val cI,.val cI],[.own 5 cU8,.val cI],fun d=>[0<=d.2.1,d.2.1+2<=d.1.length,(d.1.length:Int)<=1099511627776,0<=d.2.2.1,d.2.2.1<=65535],fun d=>((if (1480:Int)<d.1.length then [] else setW d.1 d.2.1.toNat d.2.2.1,if (1480:Int)<d.1.length then 5 else 0,()),())⟩
def an_transport_limited:PDs ct_transport_limited.ps->Anns:=(fun _=>{})
theorem vc_transport_limited :
 ∀(a:List Int) (b c:Int),(a.length<=maxLen/\ ∀(d:Int),d∈a->0<=d/\d<=255)/\R64 b/\R64 c/\True->0<=b/\b+2<=(Qbf7 a)/\(Qbf7 a)<=1099511627776/\0<=c/\c<=65535->ifP (decide (1480<(Qbf7 a))) ((([]:List Int)=if 1480<(Qbf7 a) then ([]:List Int) else setW a b.toNat c)/\(5:Int)=if 1480<(Qbf7 a) then (5:Int) else (0:Int)) (0<=b/\b+2<=(Qbf7 a)/\(Qbf7 a)<=1099511627776/\0<=c/\c<=65535/\(setW a b.toNat c=if 1480<(Qbf7 a) then ([]:List Int) else setW a b.toNat c)/\(0:Int)=if 1480<(Qbf7 a) then (5:Int) else (0:Int)):=by
  delta Qbf7
  rintro b a n-⟨h0,h1,h2,n0,n1⟩
  refine ifP_split (fun hb => ?_) (fun hb => ?_)
  · have hb:=of_decide_eq_true hb
    rw [if_pos hb,if_pos hb];exact ⟨rfl,rfl⟩
  · have hb:=of_decide_eq_false hb
    rw [if_neg hb,if_neg hb];exact ⟨h0,h1,h2,n0,n1,rfl,rfl⟩
theorem ok_transport_limited:SpecOK Tryz.prog GL 176 ct_transport_limited.spec:=Ct.okH _ Tryz.func176 (by kernel_rfl) (withSpec_ok noSpecs_ok ok_transport_replaced) hmix an_transport_limited (hideMp (by kernel_rfl) vc_transport_limited)
def ct_transport_bare:Ct:=⟨[.val (.sl cU8),.val cI],[.own 5 cU8,.val cI],fun d=>[0<=d.2.1,d.2.1+2<=d.1.length,(d.1.length:Int)<=1099511627776],fun d=>((setW d.1 d.2.1.toNat 0,wordAt d.1 d.2.1.toNat,()),())⟩
def an_transport_bare:PDs ct_transport_bare.ps->Anns:=(fun _=>{})
theorem vc_transport_bare :
 ∀(a:List Int) (b:Int),(a.length<=maxLen/\ ∀(c:Int),c∈a->0<=c/\c<=255)/\R64 b/\True->0<=b/\b+2<=(Qbf7 a)/\(Qbf7 a)<=1099511627776->0<=b/\b+2<=(Qbf7 a)/\(Qbf7 a)<=1099511627776/\(0:Int)<=0/\(0:Int)<=65535/\0<=b/\b+2<=(Qbf7 a)/\(Qbf7 a)<=1099511627776/\setW a b.toNat (0:Int)=setW a b.toNat (0:Int)/\wordAt a b.toNat=wordAt a b.toNat:=by
  delta Qbf7
  rintro b a-⟨h0,h1,h2⟩
  exact ⟨h0,h1,h2,by omega,by omega,h0,h1,h2,rfl,rfl⟩
theorem ok_transport_bare:SpecOK Tryz.prog GL 180 ct_transport_bare.spec:=Ct.okH _ Tryz.func180 (by kernel_rfl) (withSpec_ok (withSpec_ok noSpecs_ok ok_transport_replaced) ok_transport_word) hmix an_transport_bare (hideMp (by kernel_rfl) vc_transport_bare)
def ct_ref06_put:Ct:=⟨[.val (.sl cU8),.val cI,.val cI],[.own 5 cU8],fun d=>[0<=d.2.1,d.2.1+2<=d.1.length,(d.1.length:Int)<=1099511627776,0<=d.2.2.1,d.2.2.1<=65535],fun d=>((setW d.1 d.2.1.toNat d.2.2.1,()),())⟩
def an_ref06_put:PDs ct_ref06_put.ps->Anns:=(fun _=>{})
def Qbf12 :=
 (140737488355328:Nat)
theorem vc_ref06_put :
 ∀(a:List Int) (b c:Int),(a.length<=maxLen/\ ∀(d:Int),d∈a->0<=d/\d<=255)/\R64 b/\R64 c/\True->0<=b/\b+2<=(Qbf7 a)/\(Qbf7 a)<=1099511627776/\0<=c/\c<=65535->a.length*(1:Nat)<=(Qbf12)/\(Qbf4 a b c):=by
  delta Qbf4 Qbf7 Qbf12
  rintro b a n-⟨h0,h1,h2,n0,n1⟩
  rw [w64 (n:=a+1) (by omega) (by omega),shr8 n0,IntKind.wrap_u8',IntKind.wrap_u8',List.length_set]
  refine ⟨by omega,by omega,by omega,by omega,by omega,by omega,?_⟩
  rw [setW,show (a+1).toNat=a.toNat+1 from by omega]
theorem ok_ref06_put:SpecOK Tryz.prog GL 161 ct_ref06_put.spec:=Ct.okH _ Tryz.func161 (by kernel_rfl) noSpecs_ok hmix an_ref06_put (hideMp (by kernel_rfl) vc_ref06_put)
def ct_ref06_word:Ct:=⟨[.val cI],[.val .bool],fun d=>[],fun d=>((word16 d.1,()),())⟩
def an_ref06_word:PDs ct_ref06_word.ps->Anns:=(fun _=>{})
theorem vc_ref06_word :
 ∀(a:Int),R64 a/\True->True-> ∀(b:Bool),b=decide (0<=a)->(b->(b->b)/\True)/\(b->b)/\(bif b then decide (a<=65535) else false)=word16 a:=by
  rintro n - -
  (repeat (intro (b_:Bool) (hb_:b_=_);(repeat refine ⟨(by first|(simp;done)|(rw [hb_];simp;done)|(rw [hb_];simp;omega)|(rw [hb_];simp;intros;omega)|(rw [hb_];simp +contextual;done)),?_⟩);subst hb_))
  unfold word16
  by_cases h:0<=n <;> simp [h] <;> omega
theorem ok_ref06_word:SpecOK Tryz.prog GL 160 ct_ref06_word.spec:=Ct.okH _ Tryz.func160 (by kernel_rfl) noSpecs_ok hmix an_ref06_word (hideMp (by kernel_rfl) vc_ref06_word)
def ct_ref06_octet:Ct:=⟨[.val cI],[.val .bool],fun d=>[],fun d=>((decide (0<=d.1/\d.1<=255),()),())⟩
def an_ref06_octet:PDs ct_ref06_octet.ps->Anns:=(fun _=>{})
theorem vc_ref06_octet :
 ∀(a:Int),R64 a/\True->True-> ∀(b:Bool),b=decide (0<=a)->(b->(b->b)/\True)/\(b->b)/\(bif b then decide (a<=255) else false)=decide (0<=a/\a<=255):=by
  rintro n - -
  (repeat (intro (b_:Bool) (hb_:b_=_);(repeat refine ⟨(by first|(simp;done)|(rw [hb_];simp;done)|(rw [hb_];simp;omega)|(rw [hb_];simp;intros;omega)|(rw [hb_];simp +contextual;done)),?_⟩);subst hb_))
  by_cases h:0<=n <;> simp [h] <;> omega
theorem ok_ref06_octet:SpecOK Tryz.prog GL 164 ct_ref06_octet.spec:=Ct.okH _ Tryz.func164 (by kernel_rfl) noSpecs_ok hmix an_ref06_octet (hideMp (by kernel_rfl) vc_ref06_octet)
def ct_ref06_long:Ct:=⟨[.val cI],[.val .bool],fun d=>[],fun d=>((decide (0<=d.1/\d.1<=4294967295),()),())⟩
def an_ref06_long:PDs ct_ref06_long.ps->Anns:=(fun _=>{})
theorem vc_ref06_long :
 ∀(a:Int),R64 a/\True->True-> ∀(b:Bool),b=decide (0<=a)->(b->(b->b)/\True)/\(b->b)/\(bif b then decide (a<4294967296) else false)=decide (0<=a/\a<=4294967295):=by
  rintro n - -
  (repeat (intro (b_:Bool) (hb_:b_=_);(repeat refine ⟨(by first|(simp;done)|(rw [hb_];simp;done)|(rw [hb_];simp;omega)|(rw [hb_];simp;intros;omega)|(rw [hb_];simp +contextual;done)),?_⟩);subst hb_))
  by_cases h:0<=n <;> simp [h] <;> omega
theorem ok_ref06_long:SpecOK Tryz.prog GL 163 ct_ref06_long.spec:=Ct.okH _ Tryz.func163 (by kernel_rfl) noSpecs_ok hmix an_ref06_long (hideMp (by kernel_rfl) vc_ref06_long)
def echoErr (e:Echo):Int:=if ¬ (word16 e.2.1=true/\word16 e.2.2.1=true) then 1 else if (1472:Int)<e.2.2.2.length then 5 else 0
def echoBody (e:Echo):List Int:=[if e.1 then 0 else 8,0,0,0]++(w2 e.2.1++(w2 e.2.2.1++e.2.2.2))
def echoEnc (e:Echo):List Int:=if echoErr e=0 then setW (echoBody e) 2 (csum (echoBody e)) else []
def noticeErr (n:Notice):Int:=if ¬ ((n.1=3∨n.1=11)/\0<=n.2.1/\n.2.1<=255) then 1 else if (n.2.2.length:Int)<28 then 3 else if (1472:Int)<n.2.2.length then 5 else 0
def noticeBody (n:Notice):List Int:=[n.1,n.2.1,0,0,0,0,0,0]++n.2.2
def noticeEnc (n:Notice):List Int:=if noticeErr n=0 then setW (noticeBody n) 2 (csum (noticeBody n)) else []
def pseudoB (src dst proto:Int) (b:List Int):List Int:=w4 src++(w4 dst++(w2 proto++(w2 b.length++b)))
def pseudo (src dst proto:Int) (b:List Int):Int:=if ¬ (0<=proto/\proto<=255)∨(65535:Int)<b.length then 0 else csum (pseudoB src dst proto b)
def sumU (src dst:Int) (b:List Int):Int:=if pseudo src dst 17 b=0 then 65535 else pseudo src dst 17 b
def udpErr (u:Dgram):Int:=if ¬ (word16 u.1=true/\word16 u.2.1=true) then 1 else if (1472:Int)<u.2.2.length then 5 else 0
def udpBody (u:Dgram):List Int:=w2 u.1++(w2 u.2.1++(w2 (8+u.2.2.length)++([0,0]++u.2.2)))
def udpEnc (src dst:Int) (u:Dgram):List Int:=if udpErr u=0 then setW (udpBody u) 6 (sumU src dst (udpBody u)) else []
def tcpOK (s:Seg):Prop:=word16 s.1=true/\word16 s.2.1=true/\(0<=s.2.2.1/\s.2.2.1<=4294967295)/\(0<=s.2.2.2.1/\s.2.2.2.1<=4294967295)/\(0<=s.2.2.2.2.1/\s.2.2.2.2.1<=255)/\word16 s.2.2.2.2.2.1=true
instance (s:Seg):Decidable (tcpOK s):=by unfold tcpOK;infer_instance
def tcpErr (s:Seg):Int:=if ¬ tcpOK s then 1 else if (1460:Int)<s.2.2.2.2.2.2.length then 5 else 0
def tcpBody (s:Seg):List Int:=w2 s.1++(w2 s.2.1++(w4 s.2.2.1++(w4 s.2.2.2.1++([80,s.2.2.2.2.1]++(w2 s.2.2.2.2.2.1++([0,0,0,0]++s.2.2.2.2.2.2))))))
def tcpEnc (src dst:Int) (s:Seg):List Int:=if tcpErr s=0 then setW (tcpBody s) 16 (pseudo src dst 6 (tcpBody s)) else []
def bytes (l:List Int):Prop:=∀ x∈l,0<=x/\x<=255
theorem bytes_app {a b:List Int} (ha:bytes a) (hb:bytes b):bytes (a++b):=fun x h=>(List.mem_append.1 h).elim (ha x) (hb x)
theorem bytes_w2 (n:Int):bytes (w2 n):=by intro x h;simp [w2] at h;omega
theorem bytes_w4 (n:Int):bytes (w4 n):=by intro x h;simp [w4] at h;omega
theorem bytes_cons {a:Int} {l:List Int} (h0:0<=a) (h1:a<=255) (h:bytes l):bytes (a::l):=by
  intro x hx
  rcases List.mem_cons.1 hx with rfl|hx
  · exact ⟨h0,h1⟩
  · exact h x hx
theorem bytes_nil:bytes []:=by intro x h;cases h
theorem csum_range {b:List Int} (h:bytes b):0<=csum b/\csum b<=65535:=by
  have:=oc_range (sumF_range true b h).1
  unfold csum;omega
theorem lim_fin {p data B enc:List Int} {a c err:Int} (hp:p++data=B) (ha:0<=a) (h8:a+2<=p.length) (hp1:p.length<=100) (hd:(data.length:Int)<=1073741824) (c0:0<=c) (c1:c<=65535)
    (he:enc=if (1480:Int)<B.length then [] else setW B a.toNat c) (hr:err=if (1480:Int)<B.length then 5 else 0) :
    0<=a/\a+2<=((p++data).length:Int)/\((p++data).length:Int)<=1099511627776/\0<=c/\c<=65535/\(if (1480:Int)<((p++data).length:Int) then [] else setW (p++data) a.toNat c)=enc/\(if (1480:Int)<((p++data).length:Int) then (5:Int) else 0)=err:=by
  have hl:(p++data).length=p.length+data.length:=List.length_append
  rw [hp] at hl ⊢
  exact ⟨ha,by omega,by omega,c0,c1,he.symm,hr.symm⟩
theorem app_lim {p data:List Int} (hp1:p.length<=100) (hd:(data.length:Int)<=1073741824):(p.length+data.length)*1<=140737488355328/\((p++data).length:Int)<=1099511627776:=by
  rw [List.length_append];omega
theorem allIn2 (lim a b:Int):allIn lim [a,b]=true↔(0<=a/\a<=lim)/\0<=b/\b<=lim:=by simp [allIn]
theorem allIn1 (lim a:Int):allIn lim [a]=true↔0<=a/\a<=lim:=by simp [allIn]
theorem word16_iff (n:Int):word16 n=true↔0<=n/\n<=65535:=by simp [word16]
theorem echo_len (e:Echo):(echoBody e).length=8+e.2.2.2.length:=by simp [echoBody,w2];omega
theorem echo_bad {e:Echo} (h:¬ (word16 e.2.1=true/\word16 e.2.2.1=true)):[]=echoEnc e/\1=echoErr e:=by
  have:echoErr e=1:=by rw [echoErr,if_pos h]
  rw [echoEnc,this];simp
theorem echo_ok {e:Echo} (h:word16 e.2.1=true/\word16 e.2.2.1=true):(echoEnc e=if (1480:Int)<(echoBody e).length then [] else setW (echoBody e) 2 (csum (echoBody e)))/\echoErr e=if (1480:Int)<(echoBody e).length then 5 else 0:=by
  have hl:=echo_len e
  have he:echoErr e=if (1480:Int)<(echoBody e).length then 5 else 0:=by
    rw [echoErr,if_neg (fun k=>k h)]
    by_cases hd:(1472:Int)<e.2.2.2.length
    · rw [if_pos hd,if_pos (by omega)]
    · rw [if_neg hd,if_neg (by omega)]
  refine ⟨?_,he⟩
  rw [echoEnc,he]
  by_cases hd:(1480:Int)<(echoBody e).length
  · rw [if_pos hd,if_pos hd];rfl
  · rw [if_neg hd,if_neg hd];rfl
theorem echo_bytes {e:Echo} (h:bytes e.2.2.2):bytes (echoBody e):=by
  refine bytes_app (bytes_cons ?_ ?_ (bytes_cons (by omega) (by omega) (bytes_cons (by omega) (by omega) (bytes_cons (by omega) (by omega) bytes_nil)))) (bytes_app (bytes_w2 _) (bytes_app (bytes_w2 _) h))
  · split <;> omega
  · split <;> omega
theorem w2_split (n:Int) (r:List Int):w2 (n/65536)++(w2 (n%65536)++r)=w4 n++r:=by
  unfold w2 w4
  simp only [List.cons_append,List.nil_append]
  have e1:n/65536/256%256=n/16777216%256:=by omega
  have e2:n%65536/256%256=n/256%256:=by omega
  have e3:n%65536%256=n%256:=by omega
  rw [e1,e2,e3]
theorem w2_pair {t k:Int} (t0:0<=t) (t1:t<=255) (k0:0<=k) (k1:k<=255):w2 (t*256+k)=[t,k]:=by
  unfold w2
  have e1:(t*256+k)/256%256=t:=by omega
  have e2:(t*256+k)%256=k:=by omega
  rw [e1,e2]
theorem or8' {n x:Int} (h0:0<=n) (h1:n<=65535) (h2:0<=x) (h3:x<=255):bits .or .i64 (shlI .i64 n 8) x=n*256+x:=by
  have:=or8 h0 (by omega) h2 h3
  rwa [w64 (n:=x) (by omega) (by omega)] at this
theorem shr16 {n:Int} (h0:0<=n):shrI .i64 n 16=n/65536:=by
  have e:=shr_pow (n:=n) (k:=2) h0 (by omega)
  exact e
theorem shr16u {n:Int} (h0:0<=n) (h1:n<=4294967295):IntKind.wrap .i64 (shrI .u32 n 16)=n/65536:=by
  have:shrI .u32 n 16=n/65536:=by
    unfold shrI
    rw [Int.fdiv_eq_ediv_of_nonneg _ (by decide)]
    rfl
  rw [this,w64 (by omega) (by omega)]
theorem and16u {n:Int} (h0:0<=n) (h1:n<=4294967295):IntKind.wrap .i64 (bits .and .u32 n 65535)=n%65536:=by
  rw [u32_and n 65535 h0 (by omega) (by decide) (by decide)]
  have:(n.toNat &&& Int.toNat 65535)=n.toNat%65536:=Nat.and_two_pow_sub_one_eq_mod n.toNat 16
  rw [this,w64 (by omega) (by omega)];omega
theorem notice_len (e:Notice):(noticeBody e).length=8+e.2.2.length:=by simp [noticeBody];omega
theorem notice_bad {e:Notice} (h:¬ ((e.1=3∨e.1=11)/\0<=e.2.1/\e.2.1<=255)):[]=noticeEnc e/\1=noticeErr e:=by
  have:noticeErr e=1:=by rw [noticeErr,if_pos h]
  rw [noticeEnc,this];simp
theorem notice_short {e:Notice} (h:(e.1=3∨e.1=11)/\0<=e.2.1/\e.2.1<=255) (h2:(e.2.2.length:Int)<28):[]=noticeEnc e/\3=noticeErr e:=by
  have:noticeErr e=3:=by rw [noticeErr,if_neg (fun k=>k h),if_pos h2]
  rw [noticeEnc,this];simp
theorem notice_ok {e:Notice} (h:(e.1=3∨e.1=11)/\0<=e.2.1/\e.2.1<=255) (h2:¬ (e.2.2.length:Int)<28):(noticeEnc e=if (1480:Int)<(noticeBody e).length then [] else setW (noticeBody e) 2 (csum (noticeBody e)))/\noticeErr e=if (1480:Int)<(noticeBody e).length then 5 else 0:=by
  have hl:=notice_len e
  have he:noticeErr e=if (1480:Int)<(noticeBody e).length then 5 else 0:=by
    rw [noticeErr,if_neg (fun k=>k h),if_neg h2]
    by_cases hd:(1472:Int)<e.2.2.length
    · rw [if_pos hd,if_pos (by omega)]
    · rw [if_neg hd,if_neg (by omega)]
  refine ⟨?_,he⟩
  rw [noticeEnc,he]
  by_cases hd:(1480:Int)<(noticeBody e).length
  · rw [if_pos hd,if_pos hd];rfl
  · rw [if_neg hd,if_neg hd];rfl
theorem notice_bytes {e:Notice} (h:(e.1=3∨e.1=11)/\0<=e.2.1/\e.2.1<=255) (hd:bytes e.2.2):bytes (noticeBody e):=by
  refine bytes_app (bytes_cons (by omega) (by omega) (bytes_cons h.2.1 h.2.2 ?_)) hd
  intro x hx;simp at hx;omega
theorem udp_len (e:Dgram):(udpBody e).length=8+e.2.2.length:=by simp [udpBody,w2];omega
theorem udp_bad {a b:Int} {e:Dgram} (h:¬ (word16 e.1=true/\word16 e.2.1=true)):[]=udpEnc a b e/\1=udpErr e:=by
  have:udpErr e=1:=by rw [udpErr,if_pos h]
  rw [udpEnc,this];simp
theorem udp_ok {a b:Int} {e:Dgram} (h:word16 e.1=true/\word16 e.2.1=true):(udpEnc a b e=if (1480:Int)<(udpBody e).length then [] else setW (udpBody e) 6 (sumU a b (udpBody e)))/\udpErr e=if (1480:Int)<(udpBody e).length then 5 else 0:=by
  have hl:=udp_len e
  have he:udpErr e=if (1480:Int)<(udpBody e).length then 5 else 0:=by
    rw [udpErr,if_neg (fun k=>k h)]
    by_cases hd:(1472:Int)<e.2.2.length
    · rw [if_pos hd,if_pos (by omega)]
    · rw [if_neg hd,if_neg (by omega)]
  refine ⟨?_,he⟩
  rw [udpEnc,he]
  by_cases hd:(1480:Int)<(udpBody e).length
  · rw [if_pos hd,if_pos hd];rfl
  · rw [if_neg hd,if_neg hd];rfl
theorem udp_bytes {e:Dgram} (h:bytes e.2.2):bytes (udpBody e) :=
  bytes_app (bytes_w2 _) (bytes_app (bytes_w2 _) (bytes_app (bytes_w2 _) (bytes_app (bytes_cons (by omega) (by omega) (bytes_cons (by omega) (by omega) bytes_nil)) h)))
theorem tcp_len (e:Seg):(tcpBody e).length=20+e.2.2.2.2.2.2.length:=by simp [tcpBody,w2,w4];omega
theorem tcp_bad {a b:Int} {e:Seg} (h:¬ tcpOK e):[]=tcpEnc a b e/\1=tcpErr e:=by
  have:tcpErr e=1:=by rw [tcpErr,if_pos h]
  rw [tcpEnc,this];simp
theorem tcp_ok {a b:Int} {e:Seg} (h:tcpOK e):(tcpEnc a b e=if (1480:Int)<(tcpBody e).length then [] else setW (tcpBody e) 16 (pseudo a b 6 (tcpBody e)))/\tcpErr e=if (1480:Int)<(tcpBody e).length then 5 else 0:=by
  have hl:=tcp_len e
  have he:tcpErr e=if (1480:Int)<(tcpBody e).length then 5 else 0:=by
    rw [tcpErr,if_neg (fun k=>k h)]
    by_cases hd:(1460:Int)<e.2.2.2.2.2.2.length
    · rw [if_pos hd,if_pos (by omega)]
    · rw [if_neg hd,if_neg (by omega)]
  refine ⟨?_,he⟩
  rw [tcpEnc,he]
  by_cases hd:(1480:Int)<(tcpBody e).length
  · rw [if_pos hd,if_pos hd];rfl
  · rw [if_neg hd,if_neg hd];rfl
theorem tcp_bytes {e:Seg} (h:tcpOK e) (hd:bytes e.2.2.2.2.2.2):bytes (tcpBody e):=by
  obtain ⟨-,-,-,-,hf,-⟩:=h
  refine bytes_app (bytes_w2 _) (bytes_app (bytes_w2 _) (bytes_app (bytes_w4 _) (bytes_app (bytes_w4 _) (bytes_app (bytes_cons (by omega) (by omega) (bytes_cons hf.1 hf.2 bytes_nil)) (bytes_app (bytes_w2 _) (bytes_app ?_ hd))))))
  intro x hx;simp at hx;omega
theorem pseudo_bytes {a b p:Int} {l:List Int} (h:bytes l):bytes (pseudoB a b p l):=bytes_app (bytes_w4 _) (bytes_app (bytes_w4 _) (bytes_app (bytes_w2 _) (bytes_app (bytes_w2 _) h)))
theorem pseudo_range {a b p:Int} {l:List Int} (h:bytes l):0<=pseudo a b p l/\pseudo a b p l<=65535:=by
  unfold pseudo;split
  · omega
  · exact csum_range (pseudo_bytes h)
theorem sumU_range {a b:Int} {l:List Int} (h:bytes l):0<=sumU a b l/\sumU a b l<=65535:=by
  have:=pseudo_range (a:=a) (b:=b) (p:=17) h
  unfold sumU;split <;> omega
theorem low5 {err n:Int} (h:err=if (1480:Int)<n then 5 else 0) (hn:¬ (1480:Int)<n):0=err:=by rw [h,if_neg hn]
def ct_transport_EncodeEcho:Ct:=⟨[.agg cEcho],[.own 5 cU8,.val cI],fun d=>[(d.1.2.2.2.length:Int)<=1073741824],fun d=>((echoEnc d.1,echoErr d.1,()),())⟩
def an_transport_EncodeEcho:PDs ct_transport_EncodeEcho.ps->Anns:=(fun _=>{})
def Qbf2 (a:Bool) (b c:Int) (d e:List Int) :=
 (e.length+d.length)*(1:Nat)<=(Qbf12)/\((List.length (e++d)):Int)<=1099511627776/\ ∀(f:Int),f=65535 -oc (sumF true (e++d))->(0:Int)<=2/\(2:Int)+2<=((List.length (e++d)):Int)/\((List.length (e++d)):Int)<=1099511627776/\0<=f/\f<=65535/\(if 1480<((List.length (e++d)):Int) then ([]:List Int) else setW (e++d) (Int.toNat (2:Int)) f)=echoEnc (a,b,c,d)/\(if 1480<((List.length (e++d)):Int) then (5:Int) else (0:Int))=echoErr (a,b,c,d)
def Qbf13 (d:List Int) :=
 d.length<=maxLen/\ ∀(e:Int),e∈d->0<=e/\e<=255
theorem vc_transport_EncodeEcho :
 ∀(a:Bool) (b c:Int) (d:List Int),(True/\R64 b/\R64 c/\(Qbf13 d))/\True->(d.length:Int)<=1073741824->ifP (! allIn (65535:Int) [b,c]) (([]:List Int)=echoEnc (a,b,c,d)/\(1:Int)=echoErr (a,b,c,d)) (ifP a ((0:Int)<=8/\allIn (65535:Int) [shlI IntKind.i64 (0:Int) (8:Int),(0:Int),b,c]=true/\((List.length [shlI IntKind.i64 (0:Int) (8:Int),(0:Int),b,c]):Int)<=1073741824/\ ∀(e:List Int),e=List.flatMap w2 [shlI IntKind.i64 (0:Int) (8:Int),(0:Int),b,c]->(Qbf2 a b c d e)) ((0:Int)<=8/\allIn (65535:Int) [shlI IntKind.i64 (8:Int) (8:Int),(0:Int),b,c]=true/\((List.length [shlI IntKind.i64 (8:Int) (8:Int),(0:Int),b,c]):Int)<=1073741824/\ ∀(e:List Int),e=List.flatMap w2 [shlI IntKind.i64 (8:Int) (8:Int),(0:Int),b,c]->(Qbf2 a b c d e))):=by
  delta Qbf2 Qbf12 Qbf13
  rintro r i q data ⟨⟨-,-,-,-,hd⟩,-⟩ hl
  refine ifP_split (fun h => ?_) (fun h => ?_)
  · apply echo_bad
    simp only [Bool.not_eq_true',← Bool.not_eq_true,allIn2] at h
    simp only [word16_iff];exact h
  have hw:word16 i=true/\word16 q=true:=by
    simp only [Bool.not_eq_false',allIn2] at h
    simp only [word16_iff];exact h
  have hw':=hw
  simp only [word16_iff] at hw'
  obtain ⟨e1,e2⟩:=echo_ok (e:=(r,i,q,data)) hw
  have hB:=csum_range (echo_bytes (e:=(r,i,q,data)) hd)
  cases r with
  | true =>
    refine ifP_split (fun _ => ?_) (fun hr=>by cases hr)
    refine ⟨by omega,by rw [show shlI .i64 0 8=0 from by decide];simp [allIn];omega,by simp,?_⟩
    intro p hpe
    have hp8:p.length=8:=by rw [hpe];simp [w2]
    have hp:p++data=echoBody (true,i,q,data):=by
      rw [hpe,show shlI .i64 0 8=0 from by decide];simp [w2,echoBody]
    refine ⟨(app_lim (by omega) hl).1,(app_lim (by omega) hl).2,?_⟩
    intro c hc
    have hc:c=csum (echoBody (true,i,q,data)):=by rw [hc,hp];rfl
    exact lim_fin (a:=2) hp (by omega) (by omega) (by omega) hl (by rw [hc];exact hB.1) (by rw [hc];exact hB.2) (by rw [hc];exact e1) e2
  | false =>
    refine ifP_split (fun hr=>by cases hr) (fun _ => ?_)
    refine ⟨by omega,by rw [show shlI .i64 8 8=2048 from by decide];simp [allIn];omega,by simp,?_⟩
    intro p hpe
    have hp8:p.length=8:=by rw [hpe];simp [w2]
    have hp:p++data=echoBody (false,i,q,data):=by
      rw [hpe,show shlI .i64 8 8=2048 from by decide];simp [w2,echoBody]
    refine ⟨(app_lim (by omega) hl).1,(app_lim (by omega) hl).2,?_⟩
    intro c hc
    have hc:c=csum (echoBody (false,i,q,data)):=by rw [hc,hp];rfl
    exact lim_fin (a:=2) hp (by omega) (by omega) (by omega) hl (by rw [hc];exact hB.1) (by rw [hc];exact hB.2) (by rw [hc];exact e1) e2
theorem ok_transport_EncodeEcho:SpecOK Tryz.prog GL 134 ct_transport_EncodeEcho.spec:=Ct.okH _ Tryz.func134 (by kernel_rfl) (withSpec_ok (withSpec_ok (withSpec_ok (withSpec_ok noSpecs_ok ok_transport_within) (Ct.named ok_transport_put)) (Ct.named ok_wire_Checksum)) ok_transport_limited) hmix an_transport_EncodeEcho (hideMp (by kernel_rfl) vc_transport_EncodeEcho)
def ct_ref06_EncodeEcho:Ct:=⟨[.agg cEcho],[.own 5 cU8,.val cI],fun d=>[(d.1.2.2.2.length:Int)<=1073741824],fun d=>((echoEnc d.1,echoErr d.1,()),())⟩
def an_ref06_EncodeEcho:PDs ct_ref06_EncodeEcho.ps->Anns:=(fun _=>{})
def Qbf3 (a:Bool) (b c:Int) (d f:List Int) :=
 (f.length:Int)<=1099511627776/\ ∀(g:List Int),g=putB f c (2:Int)->(g.length+d.length)*(1:Nat)<=(Qbf12)/\((List.length (g++d)):Int)<=1099511627776/\ ∀(h:Int),h=65535 -oc (sumF true (g++d))->(0:Int)<=2/\(2:Int)+2<=((List.length (g++d)):Int)/\((List.length (g++d)):Int)<=1099511627776/\0<=h/\h<=65535/\setW (g++d) (Int.toNat (2:Int)) h=echoEnc (a,b,c,d)/\(0:Int)=echoErr (a,b,c,d)
def Qbf6 (e:Bool) :=
 (! e)->((! e)->(! e))/\True
theorem vc_ref06_EncodeEcho :
 ∀(a:Bool) (b c:Int) (d:List Int),(True/\R64 b/\R64 c/\(Qbf13 d))/\True->(d.length:Int)<=1073741824-> ∀(e:Bool),e= ! word16 b->(Qbf6 e)/\(Qbf6 e)/\(Qbf6 e)/\(e=false->(! e))/\ifP (bif e then true else ! word16 c) (([]:List Int)=echoEnc (a,b,c,d)/\(1:Int)=echoErr (a,b,c,d)) (ifP (decide (1480<IntKind.wrap .i64 ((d.length:Int)+(8:Int)))) (([]:List Int)=echoEnc (a,b,c,d)/\(5:Int)=echoErr (a,b,c,d)) (ifP a (((List.length [IntKind.wrap .u8 (0:Int),(0:Int),(0:Int),(0:Int)]):Int)<=1099511627776/\ ∀(f:List Int),f=putB [IntKind.wrap .u8 (0:Int),(0:Int),(0:Int),(0:Int)] b (2:Int)->(Qbf3 a b c d f)) (((List.length [IntKind.wrap .u8 (8:Int),(0:Int),(0:Int),(0:Int)]):Int)<=1099511627776/\ ∀(f:List Int),f=putB [IntKind.wrap .u8 (8:Int),(0:Int),(0:Int),(0:Int)] b (2:Int)->(Qbf3 a b c d f)))):=by
  delta Qbf3 Qbf6 Qbf12 Qbf13
  rintro r i q data ⟨⟨-,-,-,-,hd⟩,-⟩ hl
  rintro b rfl
  refine ⟨by simp,by simp,by simp,by simp,?_⟩
  rw [w64 (n:=(data.length:Int)+8) (by omega) (by omega)]
  refine ifP_split (fun h => ?_) (fun h => ?_)
  · apply echo_bad
    rintro ⟨h1,h2⟩
    simp at h1 h2
    simp [h1,h2] at h
  have hw:word16 i=true/\word16 q=true:=by
    simp [Bool.cond_eq_ite] at h;exact h
  have hw':=hw
  simp only [word16_iff] at hw'
  obtain ⟨e1,e2⟩:=echo_ok (e:=(r,i,q,data)) hw
  have hB:=csum_range (echo_bytes (e:=(r,i,q,data)) hd)
  have hbl:=echo_len (r,i,q,data)
  refine ifP_split (fun h5 => ?_) (fun h5 => ?_)
  · have h5:=of_decide_eq_true h5
    rw [e1,e2,if_pos (by simp only at hbl;omega),if_pos (by simp only at hbl;omega)];exact ⟨rfl,rfl⟩
  have h5:=of_decide_eq_false h5
  have h5:¬ (1480:Int)<(echoBody (r,i,q,data)).length:=by simp only at hbl;omega
  rw [if_neg h5] at e1
  cases r with
  | true =>
    refine ifP_split (fun _ => ?_) (fun hr=>by cases hr)
    refine ⟨by simp,?_⟩
    rintro p rfl
    rw [putB_2 hw'.1.1 hw'.1.2]
    refine ⟨by simp [w2],?_⟩
    intro p hpe
    rw [putB_2 hw'.2.1 hw'.2.2] at hpe
    have hp8:p.length=8:=by rw [hpe];simp [w2]
    have hp:p++data=echoBody (true,i,q,data):=by
      rw [hpe,show IntKind.wrap .u8 0=0 from by decide];simp [w2,echoBody]
    refine ⟨(app_lim (by omega) hl).1,(app_lim (by omega) hl).2,?_⟩
    intro c hc
    have hc:c=csum (echoBody (true,i,q,data)):=by rw [hc,hp];rfl
    rw [hp,hc]
    exact ⟨by omega,by omega,by omega,hB.1,hB.2,e1.symm,low5 e2 h5⟩
  | false =>
    refine ifP_split (fun hr=>by cases hr) (fun _ => ?_)
    refine ⟨by simp,?_⟩
    rintro p rfl
    rw [putB_2 hw'.1.1 hw'.1.2]
    refine ⟨by simp [w2],?_⟩
    intro p hpe
    rw [putB_2 hw'.2.1 hw'.2.2] at hpe
    have hp8:p.length=8:=by rw [hpe];simp [w2]
    have hp:p++data=echoBody (false,i,q,data):=by
      rw [hpe,show IntKind.wrap .u8 8=8 from by decide];simp [w2,echoBody]
    refine ⟨(app_lim (by omega) hl).1,(app_lim (by omega) hl).2,?_⟩
    intro c hc
    have hc:c=csum (echoBody (false,i,q,data)):=by rw [hc,hp];rfl
    rw [hp,hc]
    exact ⟨by omega,by omega,by omega,hB.1,hB.2,e1.symm,low5 e2 h5⟩
theorem ok_ref06_EncodeEcho:SpecOK Tryz.prog GL 110 ct_ref06_EncodeEcho.spec:=Ct.okH _ Tryz.func110 (by kernel_rfl) (withSpec_ok (withSpec_ok (withSpec_ok (withSpec_ok noSpecs_ok ok_ref06_word) (Ct.named ok_ref04_Push)) (Ct.named ok_ref04_Checksum)) ok_ref06_put) hmix an_ref06_EncodeEcho (hideMp (by kernel_rfl) vc_ref06_EncodeEcho)
def ct_transport_EncodeNotice:Ct:=⟨[.agg cNotice],[.own 5 cU8,.val cI],fun d=>[(d.1.2.2.length:Int)<=1073741824],fun d=>((noticeEnc d.1,noticeErr d.1,()),())⟩
def an_transport_EncodeNotice:PDs ct_transport_EncodeNotice.ps->Anns:=(fun _=>{})
def Qbf1 (a b:Int) (c:List Int) :=
 ifP (decide ((c.length:Int)<28)) (([]:List Int)=noticeEnc (a,b,c)/\(3:Int)=noticeErr (a,b,c)) ((0:Int)<=8/\allIn (65535:Int) [bits BinOp.or IntKind.i64 (shlI IntKind.i64 a (8:Int)) b,(0:Int),(0:Int),(0:Int)]=true/\((List.length [bits BinOp.or IntKind.i64 (shlI IntKind.i64 a (8:Int)) b,(0:Int),(0:Int),(0:Int)]):Int)<=1073741824/\ ∀(f:List Int),f=List.flatMap w2 [bits BinOp.or IntKind.i64 (shlI IntKind.i64 a (8:Int)) b,(0:Int),(0:Int),(0:Int)]->(f.length+c.length)*(1:Nat)<=(Qbf12)/\((List.length (f++c)):Int)<=1099511627776/\ ∀(g:Int),g=65535 -oc (sumF true (f++c))->(0:Int)<=2/\(2:Int)+2<=((List.length (f++c)):Int)/\((List.length (f++c)):Int)<=1099511627776/\0<=g/\g<=65535/\(if 1480<((List.length (f++c)):Int) then ([]:List Int) else setW (f++c) (Int.toNat (2:Int)) g)=noticeEnc (a,b,c)/\(if 1480<((List.length (f++c)):Int) then (5:Int) else (0:Int))=noticeErr (a,b,c))
theorem vc_transport_EncodeNotice :
 ∀(a b:Int) (c:List Int),(R64 a/\R64 b/\c.length<=maxLen/\ ∀(d:Int),d∈c->0<=d/\d<=255)/\True->(c.length:Int)<=1073741824-> ∀(d:Bool),d= ! decide (a=3)->(d->(d->d)/\True)/\(d->(d->d)/\True)/\(d->d)/\ ∀(e:Bool),(e=bif d then ! decide (a=11) else false)->(Qbf6 e)/\ifP (! e) (((! e)->(! e))/\(Qbf6 e)/\(e=false->(! e))/\ifP (bif e then true else ! allIn (255:Int) [b]) (([]:List Int)=noticeEnc (a,b,c)/\(1:Int)=noticeErr (a,b,c)) (Qbf1 a b c)) ((! e)=false/\(! e)=false/\(e=false->false=true)/\ifP (bif e then true else false) (([]:List Int)=noticeEnc (a,b,c)/\(1:Int)=noticeErr (a,b,c)) (Qbf1 a b c)):=by
  delta Qbf1 Qbf6 Qbf12
  rintro t k data ⟨⟨-,-,-,hd⟩,-⟩ hl
  rintro b rfl
  refine ⟨by simp,by simp,by simp,?_⟩
  intro b hb
  refine ⟨by simp,?_⟩
  cases b with
  | true =>
    have ht:¬ (t=3∨t=11):=by
      simp at hb;omega
    refine ifP_split (fun h=>by cases h) (fun _=>⟨rfl,rfl,by simp,ifP_split (fun _=>notice_bad (fun h=>ht h.1)) (fun h=>by cases h)⟩)
  | false =>
    have ht:t=3∨t=11:=by
      by_cases h3:t=3
      · exact .inl h3
      · simp [h3] at hb;exact .inr hb
    refine ifP_split (fun _=>⟨by simp,by simp,by simp,?_⟩) (fun h=>by cases h)
    refine ifP_split (fun h => ?_) (fun h => ?_)
    · apply notice_bad
      rintro ⟨-,h2⟩
      have:=(allIn1 255 k).2 h2
      rw [this] at h;cases h
    have hk:0<=k/\k<=255:=by
      apply (allIn1 255 k).1
      cases hx:allIn 255 [k] with
      | true=>rfl
      | false=>rw [hx] at h;cases h
    refine ifP_split (fun h2=>notice_short ⟨ht,hk⟩ (of_decide_eq_true h2)) (fun h2 => ?_)
    have h2:=of_decide_eq_false h2
    obtain ⟨e1,e2⟩:=notice_ok (e:=(t,k,data)) ⟨ht,hk⟩ h2
    have hB:=csum_range (notice_bytes (e:=(t,k,data)) ⟨ht,hk⟩ hd)
    rw [or8' (by omega) (by omega) hk.1 hk.2]
    refine ⟨by omega,by simp [allIn];omega,by simp,?_⟩
    intro p hpe
    have hp8:p.length=8:=by rw [hpe];simp [w2]
    have hp:p++data=noticeBody (t,k,data):=by
      rw [hpe]
      simp only [List.flatMap_cons,List.flatMap_nil,w2_pair (show 0<=t by omega) (show t<=255 by omega) hk.1 hk.2,show w2 0=[0,0] from rfl];rfl
    refine ⟨(app_lim (by omega) hl).1,(app_lim (by omega) hl).2,?_⟩
    intro c hc
    have hc:c=csum (noticeBody (t,k,data)):=by rw [hc,hp];rfl
    exact lim_fin (a:=2) hp (by omega) (by omega) (by omega) hl (by rw [hc];exact hB.1) (by rw [hc];exact hB.2) (by rw [hc];exact e1) e2
theorem ok_transport_EncodeNotice:SpecOK Tryz.prog GL 209 ct_transport_EncodeNotice.spec:=Ct.okH _ Tryz.func209 (by kernel_rfl) (withSpec_ok (withSpec_ok (withSpec_ok (withSpec_ok noSpecs_ok ok_transport_within) (Ct.named ok_transport_put)) (Ct.named ok_wire_Checksum)) ok_transport_limited) hmix an_transport_EncodeNotice (hideMp (by kernel_rfl) vc_transport_EncodeNotice)
def ct_transport_Pseudo:Ct:=⟨[.val cU32,.val cU32,.val cI,.val (.sl cU8)],[.val cI],fun d=>[(d.2.2.2.1.length:Int)<=1073741824],fun d=>((pseudo d.1 d.2.1 d.2.2.1 d.2.2.2.1,()),())⟩
def an_transport_Pseudo:PDs ct_transport_Pseudo.ps->Anns:=(fun _=>{})
theorem vc_transport_Pseudo :
 ∀(a b c:Int) (d:List Int),(0<=a/\a<=4294967295)/\(0<=b/\b<=4294967295)/\R64 c/\(Qbf13 d)/\True->(d.length:Int)<=1073741824-> ∀(e:Bool),e= ! allIn (255:Int) [c]->(Qbf6 e)/\(Qbf6 e)/\(e=false->(! e))/\ifP (bif e then true else decide (65535<(d.length:Int))) ((0:Int)=pseudo a b c d) ((0:Int)<=16/\(0:Int)<=16/\allIn (65535:Int) [IntKind.wrap .i64 (shrI IntKind.u32 a (16:Int)),IntKind.wrap .i64 (bits BinOp.and IntKind.u32 a (65535:Int)),IntKind.wrap .i64 (shrI IntKind.u32 b (16:Int)),IntKind.wrap .i64 (bits BinOp.and IntKind.u32 b (65535:Int)),c,(d.length:Int)]=true/\((List.length [IntKind.wrap .i64 (shrI IntKind.u32 a (16:Int)),IntKind.wrap .i64 (bits BinOp.and IntKind.u32 a (65535:Int)),IntKind.wrap .i64 (shrI IntKind.u32 b (16:Int)),IntKind.wrap .i64 (bits BinOp.and IntKind.u32 b (65535:Int)),c,(d.length:Int)]):Int)<=1073741824/\ ∀(f:List Int),f=List.flatMap w2 [IntKind.wrap .i64 (shrI
 IntKind.u32 a (16:Int)),IntKind.wrap .i64 (bits BinOp.and IntKind.u32 a (65535:Int)),IntKind.wrap .i64 (shrI IntKind.u32 b (16:Int)),IntKind.wrap .i64 (bits BinOp.and IntKind.u32 b (65535:Int)),c,(d.length:Int)]->(f.length+d.length)*(1:Nat)<=(Qbf12)/\((List.length (f++d)):Int)<=1099511627776/\ ∀(g:Int),g=65535 -oc (sumF true (f++d))->g=pseudo a b c d):=by
  delta Qbf6 Qbf12 Qbf13
  rintro a b p data ⟨⟨a0,a1⟩,⟨b0,b1⟩,-,⟨-,hd⟩,-⟩ hl
  rintro x rfl
  refine ⟨by simp,by simp,by simp,?_⟩
  refine ifP_split (fun h => ?_) (fun h => ?_)
  · rw [pseudo,if_pos]
    cases hx:allIn 255 [p] with
    | false=>exact .inl (fun k=>by rw [(allIn1 255 p).2 k] at hx;cases hx)
    | true=>rw [hx] at h;exact .inr (of_decide_eq_true h)
  have hp:0<=p/\p<=255:=by
    apply (allIn1 255 p).1
    cases hx:allIn 255 [p] with
    | true=>rfl
    | false=>rw [hx] at h;cases h
  have hn:¬ (65535:Int)<data.length:=by
    rw [(allIn1 255 p).2 hp] at h;exact of_decide_eq_false h
  rw [shr16u a0 a1,shr16u b0 b1,and16u a0 a1,and16u b0 b1]
  refine ⟨by omega,by omega,by simp [allIn];omega,by simp,?_⟩
  intro q hq
  have hp8:q.length=12:=by rw [hq];simp [w2]
  have hB:q++data=pseudoB a b p data:=by
    rw [hq]
    simp only [List.flatMap_cons,List.flatMap_nil,List.append_nil,List.append_assoc,w2_split]
    rfl
  refine ⟨(app_lim (by omega) hl).1,(app_lim (by omega) hl).2,?_⟩
  rintro c rfl
  rw [hB,pseudo,if_neg (by omega)];rfl
theorem ok_transport_Pseudo:SpecOK Tryz.prog GL 179 ct_transport_Pseudo.spec:=Ct.okH _ Tryz.func179 (by kernel_rfl) (withSpec_ok (withSpec_ok (withSpec_ok noSpecs_ok ok_transport_within) (Ct.named ok_transport_put)) (Ct.named ok_wire_Checksum)) hmix an_transport_Pseudo (hideMp (by kernel_rfl) vc_transport_Pseudo)
def ct_ref06_Pseudo:Ct:=⟨[.val cU32,.val cU32,.val cI,.val (.sl cU8)],[.val cI],fun d=>[(d.2.2.2.1.length:Int)<=1073741824],fun d=>((pseudo d.1 d.2.1 d.2.2.1 d.2.2.2.1,()),())⟩
def an_ref06_Pseudo:PDs ct_ref06_Pseudo.ps->Anns:=(fun _=>{})
theorem vc_ref06_Pseudo :
 ∀(a b c:Int) (d:List Int),(0<=a/\a<=4294967295)/\(0<=b/\b<=4294967295)/\R64 c/\(Qbf13 d)/\True->(d.length:Int)<=1073741824-> ∀(e:Bool),e= ! decide (0<=c/\c<=255)->(Qbf6 e)/\(Qbf6 e)/\(e=false->(! e))/\ifP (bif e then true else decide (65535<(d.length:Int))) ((0:Int)=pseudo a b c d) ((↑(0:Nat):Int)<=1099511627776/\ ∀(f:List Int),f=putB ([]:List Int) (IntKind.wrap .i64 a) (4:Int)->(f.length:Int)<=1099511627776/\ ∀(g:List Int),g=putB f (IntKind.wrap .i64 b) (4:Int)->(g.length:Int)<=1099511627776/\ ∀(h:List Int),h=putB g c (2:Int)->(h.length:Int)<=1099511627776/\ ∀(i:List Int),i=putB h (d.length:Int) (2:Int)->(i.length+d.length)*(1:Nat)<=(Qbf12)/\((List.length (i++d)):Int)<=1099511627776/\ ∀(j:Int),j=65535 -oc (sumF true (i++d))->j=pseudo a b c d):=by
  delta Qbf6 Qbf12 Qbf13
  rintro a b p data ⟨⟨a0,a1⟩,⟨b0,b1⟩,-,⟨-,hd⟩,-⟩ hl
  rintro x rfl
  refine ⟨by simp,by simp,by simp,?_⟩
  refine ifP_split (fun h => ?_) (fun h => ?_)
  · rw [pseudo,if_pos]
    by_cases hx:0<=p/\p<=255
    · rw [decide_eq_true hx] at h;exact .inr (of_decide_eq_true h)
    · exact .inl hx
  have hp:0<=p/\p<=255:=Classical.byContradiction fun hk=>by rw [decide_eq_false hk] at h;cases h
  have hn:¬ (65535:Int)<data.length:=by
    rw [decide_eq_true hp] at h;exact of_decide_eq_false h
  refine ⟨by simp,?_⟩
  intro q1 h1
  rw [w64 (n:=a) (by omega) (by omega),putB_4 a0 a1,List.nil_append] at h1
  refine ⟨by rw [h1];simp [w4],?_⟩
  intro q2 h2
  rw [w64 (n:=b) (by omega) (by omega),putB_4 b0 b1] at h2
  refine ⟨by rw [h2,h1];simp [w4],?_⟩
  intro q3 h3
  rw [putB_2 hp.1 (by omega)] at h3
  refine ⟨by rw [h3,h2,h1];simp [w2,w4],?_⟩
  intro q hq
  rw [putB_2 (by omega) (by omega)] at hq
  have hp8:q.length=12:=by rw [hq,h3,h2,h1];simp [w2,w4]
  have hB:q++data=pseudoB a b p data:=by
    rw [hq,h3,h2,h1]
    simp only [List.append_assoc]
    rfl
  refine ⟨(app_lim (by omega) hl).1,(app_lim (by omega) hl).2,?_⟩
  rintro c rfl
  rw [hB,pseudo,if_neg (by omega)];rfl
theorem ok_ref06_Pseudo:SpecOK Tryz.prog GL 126 ct_ref06_Pseudo.spec:=Ct.okH _ Tryz.func126 (by kernel_rfl) (withSpec_ok (withSpec_ok (withSpec_ok noSpecs_ok ok_ref06_octet) (Ct.named ok_ref04_Push)) (Ct.named ok_ref04_Checksum)) hmix an_ref06_Pseudo (hideMp (by kernel_rfl) vc_ref06_Pseudo)
def ct_transport_sumUDP:Ct:=⟨[.val cU32,.val cU32,.val (.sl cU8)],[.val cI],fun d=>[(d.2.2.1.length:Int)<=1073741824],fun d=>((sumU d.1 d.2.1 d.2.2.1,()),())⟩
def an_transport_sumUDP:PDs ct_transport_sumUDP.ps->Anns:=(fun _=>{})
theorem vc_transport_sumUDP :
 ∀(a b:Int) (c:List Int),(0<=a/\a<=4294967295)/\(0<=b/\b<=4294967295)/\(c.length<=maxLen/\ ∀(d:Int),d∈c->0<=d/\d<=255)/\True->(c.length:Int)<=1073741824->(c.length:Int)<=1073741824/\ifP (! decide (pseudo a b (17:Int) c=0)) (pseudo a b (17:Int) c=sumU a b c) ((65535:Int)=sumU a b c):=by
  rintro a b data-hl
  refine ⟨hl,ifP_split (fun h => ?_) (fun h => ?_)⟩
  · rw [sumU,if_neg];intro k;rw [decide_eq_true k] at h;cases h
  · rw [sumU,if_pos]
    exact Classical.byContradiction fun k=>by rw [decide_eq_false k] at h;cases h
theorem ok_transport_sumUDP:SpecOK Tryz.prog GL 178 ct_transport_sumUDP.spec:=Ct.okH _ Tryz.func178 (by kernel_rfl) (withSpec_ok noSpecs_ok ok_transport_Pseudo) hmix an_transport_sumUDP (hideMp (by kernel_rfl) vc_transport_sumUDP)
def ct_ref06_EncodeUDP:Ct:=⟨[.val cU32,.val cU32,.agg cDgram],[.own 5 cU8,.val cI],fun d=>[(d.2.2.1.2.2.length:Int)<=1073741824],fun d=>((udpEnc d.1 d.2.1 d.2.2.1,udpErr d.2.2.1,()),())⟩
def an_ref06_EncodeUDP:PDs ct_ref06_EncodeUDP.ps->Anns:=(fun _=>{})
def Qbf8 (e i:List Int) :=
 ((List.length (i++[(0:Int),(0:Int)]++e)):Int)
def Qbf10 (f:Bool) :=
 (! f)->((! f)->(! f))/\True
theorem vc_ref06_EncodeUDP :
 ∀(a b c d:Int) (e:List Int),(0<=a/\a<=4294967295)/\(0<=b/\b<=4294967295)/\(R64 c/\R64 d/\e.length<=maxLen/\ ∀(f:Int),f∈e->0<=f/\f<=255)/\True->(e.length:Int)<=1073741824-> ∀(f:Bool),f= ! word16 c->(Qbf10 f)/\(Qbf10 f)/\(Qbf10 f)/\(f=false->(! f))/\ifP (bif f then true else ! word16 d) (([]:List Int)=udpEnc a b (c,d,e)/\(1:Int)=udpErr (c,d,e)) (ifP (decide (1480<IntKind.wrap .i64 ((e.length:Int)+(8:Int)))) (([]:List Int)=udpEnc a b (c,d,e)/\(5:Int)=udpErr (c,d,e)) ((↑(0:Nat):Int)<=1099511627776/\ ∀(g:List Int),g=putB ([]:List Int) c (2:Int)->(g.length:Int)<=1099511627776/\ ∀(h:List Int),h=putB g d (2:Int)->(h.length:Int)<=1099511627776/\ ∀(i:List Int),i=putB h (IntKind.wrap .i64 ((e.length:Int)+(8:Int))) (2:Int)->(i.length+List.length [(0:Int),(0:Int)])*(1:Nat)<=(Qbf12)/\(List.length (i++[(0:Int),(0:Int)])+e.length)*(1:Nat)<=(Qbf12)/\(Qbf8 e i)<=1073741824/\ ∀(j:Int),j=pseudo a b (17:Int)
 (i++[(0:Int),(0:Int)]++e)->ifP (decide (j=0)) ((0:Int)<=6/\(6:Int)+2<=(Qbf8 e i)/\(Qbf8 e i)<=1099511627776/\(0:Int)<=65535/\(65535:Int)<=65535/\setW (i++[(0:Int),(0:Int)]++e) (Int.toNat (6:Int)) (65535:Int)=udpEnc a b (c,d,e)/\(0:Int)=udpErr (c,d,e)) ((0:Int)<=6/\(6:Int)+2<=(Qbf8 e i)/\(Qbf8 e i)<=1099511627776/\0<=j/\j<=65535/\setW (i++[(0:Int),(0:Int)]++e) (Int.toNat (6:Int)) j=udpEnc a b (c,d,e)/\(0:Int)=udpErr (c,d,e)))):=by
  delta Qbf8 Qbf10 Qbf12
  rintro a b sp dp data ⟨-,-,⟨-,-,-,hd⟩,-⟩ hl
  rintro x rfl
  refine ⟨by simp,by simp,by simp,by simp,?_⟩
  rw [w64 (n:=(data.length:Int)+8) (by omega) (by omega)]
  refine ifP_split (fun h => ?_) (fun h => ?_)
  · apply udp_bad
    rintro ⟨h1,h2⟩
    simp at h1 h2
    simp [h1,h2] at h
  have hw:word16 sp=true/\word16 dp=true:=by
    simp [Bool.cond_eq_ite] at h;exact h
  have hw':=hw
  simp only [word16_iff] at hw'
  obtain ⟨e1,e2⟩:=udp_ok (a:=a) (b:=b) (e:=(sp,dp,data)) hw
  have hB:=sumU_range (a:=a) (b:=b) (udp_bytes (e:=(sp,dp,data)) hd)
  have hbl:=udp_len (sp,dp,data)
  refine ifP_split (fun h5 => ?_) (fun h5 => ?_)
  · have h5:=of_decide_eq_true h5
    rw [e1,e2,if_pos (by simp only at hbl;omega),if_pos (by simp only at hbl;omega)];exact ⟨rfl,rfl⟩
  have h5:=of_decide_eq_false h5
  have h5':¬ (1480:Int)<(udpBody (sp,dp,data)).length:=by simp only at hbl;omega
  rw [if_neg h5'] at e1
  refine ⟨by simp,?_⟩
  intro q1 h1
  rw [putB_2 hw'.1.1 hw'.1.2,List.nil_append] at h1
  refine ⟨by rw [h1];simp [w2],?_⟩
  intro q2 h2
  rw [putB_2 hw'.2.1 hw'.2.2] at h2
  refine ⟨by rw [h2,h1];simp [w2],?_⟩
  intro q3 h3
  rw [putB_2 (by omega) (by omega)] at h3
  have hp8:q3.length=6:=by rw [h3,h2,h1];simp [w2]
  have hp:q3++[0,0]++data=udpBody (sp,dp,data):=by
    rw [h3,h2,h1]
    simp only [List.append_assoc,udpBody]
    rw [Int.add_comm 8]
  rw [hp]
  refine ⟨by simp only [List.length_cons,List.length_nil];omega,by simp only [List.length_append,List.length_cons,List.length_nil];omega,by simp only at hbl;omega,?_⟩
  rintro c rfl
  have hs:∀ c,c=sumU a b (udpBody (sp,dp,data))->setW (udpBody (sp,dp,data)) (Int.toNat 6) c=udpEnc a b (sp,dp,data)/\0=udpErr (sp,dp,data):=by
    rintro c rfl;exact ⟨e1.symm,low5 e2 h5'⟩
  refine ifP_split (fun hz => ?_) (fun hz => ?_)
  · have hz:=of_decide_eq_true hz
    exact ⟨by omega,by simp only at hbl;omega,by simp only at hbl;omega,by omega,by omega,hs _ (by rw [sumU,if_pos hz])⟩
  · have hz:=of_decide_eq_false hz
    have hr:=pseudo_range (a:=a) (b:=b) (p:=17) (udp_bytes (e:=(sp,dp,data)) hd)
    exact ⟨by omega,by simp only at hbl;omega,by simp only at hbl;omega,hr.1,hr.2,hs _ (by rw [sumU,if_neg hz])⟩
theorem ok_ref06_EncodeUDP:SpecOK Tryz.prog GL 127 ct_ref06_EncodeUDP.spec:=Ct.okH _ Tryz.func127 (by kernel_rfl) (withSpec_ok (withSpec_ok (withSpec_ok (withSpec_ok noSpecs_ok ok_ref06_word) (Ct.named ok_ref04_Push)) (Ct.named ok_ref06_Pseudo)) ok_ref06_put) hmix an_ref06_EncodeUDP (hideMp (by kernel_rfl) vc_ref06_EncodeUDP)
theorem or20480 {f:Int} (h0:0<=f) (h1:f<=255):bits .or .i64 20480 f=80*256+f:=by
  have:=or8' (n:=80) (x:=f) (by omega) (by omega) h0 h1
  rwa [show shlI .i64 80 8=20480 from by decide] at this
theorem w2_20480 {f:Int} (h0:0<=f) (h1:f<=255):w2 (80*256+f)=[80,f]:=w2_pair (by omega) (by omega) h0 h1
def ct_transport_EncodeTCP:Ct:=⟨[.val cU32,.val cU32,.agg cSeg],[.own 5 cU8,.val cI],fun d=>[(d.2.2.1.2.2.2.2.2.2.length:Int)<=1000000],fun d=>((tcpEnc d.1 d.2.1 d.2.2.1,tcpErr d.2.2.1,()),())⟩
def an_transport_EncodeTCP:PDs ct_transport_EncodeTCP.ps->Anns:=(fun _=>{})
def Qbf0 (a b:Int) (c:Int×Int×Int×Int×Int×Int×List Int) :=
 (0:Int)<=16/\(0:Int)<=16/\allIn (65535:Int) [c.1,c.2.1,shrI IntKind.i64 c.2.2.1 (16:Int),bits BinOp.and IntKind.i64 c.2.2.1 (65535:Int),shrI IntKind.i64 c.2.2.2.1 (16:Int),bits BinOp.and IntKind.i64 c.2.2.2.1 (65535:Int),bits BinOp.or IntKind.i64 (20480:Int) c.2.2.2.2.1,c.2.2.2.2.2.1,(0:Int),(0:Int)]=true/\((List.length [c.1,c.2.1,shrI IntKind.i64 c.2.2.1 (16:Int),bits BinOp.and IntKind.i64 c.2.2.1 (65535:Int),shrI IntKind.i64 c.2.2.2.1 (16:Int),bits BinOp.and IntKind.i64 c.2.2.2.1 (65535:Int),bits BinOp.or IntKind.i64 (20480:Int) c.2.2.2.2.1,c.2.2.2.2.2.1,(0:Int),(0:Int)]):Int)<=1073741824/\ ∀(f:List Int),f=List.flatMap w2 [c.1,c.2.1,shrI IntKind.i64 c.2.2.1 (16:Int),bits BinOp.and IntKind.i64 c.2.2.1 (65535:Int),shrI IntKind.i64 c.2.2.2.1 (16:Int),bits BinOp.and IntKind.i64 c.2.2.2.1 (65535:Int),bits BinOp.or IntKind.i64 (20480:Int)
 c.2.2.2.2.1,c.2.2.2.2.2.1,(0:Int),(0:Int)]->(f.length+c.2.2.2.2.2.2.length)*(1:Nat)<=(Qbf12)/\((List.length (f++c.2.2.2.2.2.2)):Int)<=1073741824/\ ∀(g:Int),g=pseudo a b (6:Int) (f++c.2.2.2.2.2.2)->(0:Int)<=16/\(16:Int)+2<=((List.length (f++c.2.2.2.2.2.2)):Int)/\((List.length (f++c.2.2.2.2.2.2)):Int)<=1099511627776/\0<=g/\g<=65535/\(if 1480<((List.length (f++c.2.2.2.2.2.2)):Int) then ([]:List Int) else setW (f++c.2.2.2.2.2.2) (Int.toNat (16:Int)) g)=tcpEnc a b c/\(if 1480<((List.length (f++c.2.2.2.2.2.2)):Int) then (5:Int) else (0:Int))=tcpErr c
def Qbf5 (a b:Int) (c:Int×Int×Int×Int×Int×Int×List Int) (e:Bool) :=
 (Qbf6 e)/\ifP (! e) (((! e)->(! e))/\(Qbf6 e)/\(e=false->(! e))/\ifP (bif e then true else ! allIn (255:Int) [c.2.2.2.2.1]) (([]:List Int)=tcpEnc a b c/\(1:Int)=tcpErr c) (Qbf0 a b c)) ((! e)=false/\(! e)=false/\(e=false->false=true)/\ifP (bif e then true else false) (([]:List Int)=tcpEnc a b c/\(1:Int)=tcpErr c) (Qbf0 a b c))
def Qbf11 (d:Bool) :=
 (! d)->((! d)->(! d))/\True
theorem vc_transport_EncodeTCP :
 ∀(a b:Int) (c:Int×Int×Int×Int×Int×Int×List Int),(0<=a/\a<=4294967295)/\(0<=b/\b<=4294967295)/\CT.wf cSeg c/\True->(c.2.2.2.2.2.2.length:Int)<=1000000-> ∀(d:Bool),d= ! allIn (65535:Int) [c.1,c.2.1,c.2.2.2.2.2.1]->(Qbf11 d)/\(Qbf11 d)/\ifP (! d) (((! d)->(! d))/\((! d)->(! d))/\(Qbf11 d)/\(d=false->(! d))/\ ∀(e:Bool),(e=bif d then true else ! allIn (4294967295:Int) [c.2.2.1,c.2.2.2.1])->(Qbf5 a b c e)) ((! d)=false/\(! d)=false/\(d=false->false=true)/\ ∀(e:Bool),(e=bif d then true else false)->(Qbf5 a b c e)):=by
  delta Qbf0 Qbf5 Qbf6 Qbf11 Qbf12
  rintro a b e ⟨-,-,⟨-,-,-,-,-,-,-,hd⟩,-⟩ hl
  intro b1 hb1
  refine ⟨by simp,by simp,?_⟩
  cases b1 with
  | true =>
    have hbad:¬ tcpOK e:=by
      rintro ⟨h1,h2,-,-,-,h3⟩
      rw [word16_iff] at h1 h2 h3
      rw [show allIn 65535 [e.1,e.2.1,e.2.2.2.2.2.1]=true from by simp [allIn];omega] at hb1;cases hb1
    refine ifP_split (fun h=>by cases h) (fun _=>⟨rfl,rfl,by simp,?_⟩)
    intro b2 hb2
    have hb2:b2=true:=hb2
    subst hb2
    exact ⟨by simp,ifP_split (fun h=>by cases h) (fun _=>⟨rfl,rfl,by simp,ifP_split (fun _=>tcp_bad hbad) (fun h=>by cases h)⟩)⟩
  | false =>
    have h1:(0<=e.1/\e.1<=65535)/\(0<=e.2.1/\e.2.1<=65535)/\0<=e.2.2.2.2.2.1/\e.2.2.2.2.2.1<=65535:=by
      have:allIn 65535 [e.1,e.2.1,e.2.2.2.2.2.1]=true:=by
        cases hx:allIn 65535 [e.1,e.2.1,e.2.2.2.2.2.1] with
        | true=>rfl
        | false=>rw [hx] at hb1;cases hb1
      simpa [allIn] using this
    refine ifP_split (fun _=>⟨by simp,by simp,by simp,by simp,?_⟩) (fun h=>by cases h)
    intro b2 hb2
    refine ⟨by simp,?_⟩
    cases b2 with
    | true =>
      have hbad:¬ tcpOK e:=by
        rintro ⟨-,-,h3,h4,-,-⟩
        have:allIn 4294967295 [e.2.2.1,e.2.2.2.1]=true:=(allIn2 _ _ _).2 ⟨h3,h4⟩
        rw [this] at hb2;cases hb2
      exact ifP_split (fun h=>by cases h) (fun _=>⟨rfl,rfl,by simp,ifP_split (fun _=>tcp_bad hbad) (fun h=>by cases h)⟩)
    | false =>
      have h2:(0<=e.2.2.1/\e.2.2.1<=4294967295)/\0<=e.2.2.2.1/\e.2.2.2.1<=4294967295:=by
        apply (allIn2 _ _ _).1
        cases hx:allIn 4294967295 [e.2.2.1,e.2.2.2.1] with
        | true=>rfl
        | false=>rw [hx] at hb2;cases hb2
      refine ifP_split (fun _=>⟨by simp,by simp,by simp,ifP_split (fun h => ?_) (fun h => ?_)⟩) (fun h=>by cases h)
      · apply tcp_bad
        rintro ⟨-,-,-,-,h3,-⟩
        rw [(allIn1 _ _).2 h3] at h;cases h
      have h3:0<=e.2.2.2.2.1/\e.2.2.2.2.1<=255:=by
        apply (allIn1 _ _).1
        cases hx:allIn 255 [e.2.2.2.2.1] with
        | true=>rfl
        | false=>rw [hx] at h;cases h
      have hok:tcpOK e:=⟨(word16_iff _).2 h1.1,(word16_iff _).2 h1.2.1,h2.1,h2.2,h3,(word16_iff _).2 h1.2.2⟩
      obtain ⟨e1,e2⟩:=tcp_ok (a:=a) (b:=b) hok
      have hB:=pseudo_range (a:=a) (b:=b) (p:=6) (tcp_bytes hok hd)
      have hbl:=tcp_len e
      rw [shr16 h2.1.1,shr16 h2.2.1,i64_and65535,i64_and65535,or20480 h3.1 h3.2]
      refine ⟨by omega,by omega,by simp [allIn];omega,by simp,?_⟩
      intro p hpe
      have hp8:p.length=20:=by rw [hpe];simp [w2]
      have hp:p++e.2.2.2.2.2.2=tcpBody e:=by
        rw [hpe]
        simp only [List.flatMap_cons,List.flatMap_nil,List.append_nil,List.append_assoc,w2_split,show w2 0=[0,0] from rfl,w2_20480 h3.1 h3.2]
        rfl
      refine ⟨(app_lim (by omega) (by omega)).1,by rw [List.length_append];omega,?_⟩
      intro c hc
      have hc:c=pseudo a b 6 (tcpBody e):=by rw [hc,hp]
      exact lim_fin (a:=16) hp (by omega) (by omega) (by omega) (by omega) (by rw [hc];exact hB.1) (by rw [hc];exact hB.2) (by rw [hc];exact e1) e2
theorem ok_transport_EncodeTCP:SpecOK Tryz.prog GL 138 ct_transport_EncodeTCP.spec:=Ct.okH _ Tryz.func138 (by kernel_rfl) (withSpec_ok (withSpec_ok (withSpec_ok (withSpec_ok noSpecs_ok ok_transport_within) (Ct.named ok_transport_put)) (Ct.named ok_transport_Pseudo)) ok_transport_limited) hmix an_transport_EncodeTCP (hideMp (by kernel_rfl) vc_transport_EncodeTCP)
def ct_ref06_EncodeTCP:Ct:=⟨[.val cU32,.val cU32,.agg cSeg],[.own 5 cU8,.val cI],fun d=>[(d.2.2.1.2.2.2.2.2.2.length:Int)<=1000000],fun d=>((tcpEnc d.1 d.2.1 d.2.2.1,tcpErr d.2.2.1,()),())⟩
def an_ref06_EncodeTCP:PDs ct_ref06_EncodeTCP.ps->Anns:=(fun _=>{})
def Qbf9 (c:Int×Int×Int×Int×Int×Int×List Int) (o:List Int) :=
 o++[(0:Int),(0:Int),(0:Int),(0:Int)]++c.2.2.2.2.2.2
theorem vc_ref06_EncodeTCP :
 ∀(a b:Int) (c:Int×Int×Int×Int×Int×Int×List Int),(0<=a/\a<=4294967295)/\(0<=b/\b<=4294967295)/\CT.wf cSeg c/\True->(c.2.2.2.2.2.2.length:Int)<=1000000-> ∀(d:Bool),d= ! word16 c.1->(Qbf11 d)/\(Qbf11 d)/\(Qbf11 d)/\(d=false->(! d))/\ ∀(e:Bool),(e=bif d then true else ! word16 c.2.1)->(Qbf6 e)/\(Qbf6 e)/\(Qbf6 e)/\(e=false->(! e))/\ ∀(f:Bool),(f=bif e then true else ! decide (0<=c.2.2.1/\c.2.2.1<=4294967295))->(Qbf10 f)/\(Qbf10 f)/\(Qbf10 f)/\(f=false->(! f))/\ ∀(g:Bool),(g=bif f then true else ! decide (0<=c.2.2.2.1/\c.2.2.2.1<=4294967295))->((! g)->((! g)->(! g))/\True)/\((! g)->((! g)->(! g))/\True)/\((! g)->((! g)->(! g))/\True)/\(g=false->(! g))/\ ∀(h:Bool),(h=bif g then true else ! decide (0<=c.2.2.2.2.1/\c.2.2.2.2.1<=255))->((! h)->((! h)->(! h))/\True)/\((! h)->((! h)->(! h))/\True)/\((! h)->((! h)->(! h))/\True)/\(h=false->(! h))/\ifP (bif h then true else ! word16 c.2.2.2.2.2.1)
 (([]:List Int)=tcpEnc a b c/\(1:Int)=tcpErr c) (ifP (decide (1480<IntKind.wrap .i64 ((c.2.2.2.2.2.2.length:Int)+(20:Int)))) (([]:List Int)=tcpEnc a b c/\(5:Int)=tcpErr c) ((↑(0:Nat):Int)<=1099511627776/\ ∀(i:List Int),i=putB ([]:List Int) c.1 (2:Int)->(i.length:Int)<=1099511627776/\ ∀(j:List Int),j=putB i c.2.1 (2:Int)->(j.length:Int)<=1099511627776/\ ∀(k:List Int),k=putB j c.2.2.1 (4:Int)->(k.length:Int)<=1099511627776/\ ∀(l:List Int),l=putB k c.2.2.2.1 (4:Int)->(l.length:Int)<=1099511627776/\ ∀(m:List Int),m=putB l (80:Int) (1:Int)->(m.length:Int)<=1099511627776/\ ∀(n:List Int),n=putB m c.2.2.2.2.1 (1:Int)->(n.length:Int)<=1099511627776/\ ∀(o:List Int),o=putB n c.2.2.2.2.2.1 (2:Int)->(o.length+List.length [(0:Int),(0:Int),(0:Int),(0:Int)])*(1:Nat)<=(Qbf12)/\(List.length (o++[(0:Int),(0:Int),(0:Int),(0:Int)])+c.2.2.2.2.2.2.length)*(1:Nat)<=(Qbf12)/\((List.length (Qbf9 c
 o)):Int)<=1073741824/\ ∀(p:Int),p=pseudo a b (6:Int) (Qbf9 c o)->(0:Int)<=16/\(16:Int)+2<=((List.length (Qbf9 c o)):Int)/\((List.length (Qbf9 c o)):Int)<=1099511627776/\0<=p/\p<=65535/\setW (Qbf9 c o) (Int.toNat (16:Int)) p=tcpEnc a b c/\(0:Int)=tcpErr c)):=by
  delta Qbf6 Qbf9 Qbf10 Qbf11 Qbf12
  rintro a b e ⟨-,-,⟨-,-,-,-,-,-,-,hd⟩,-⟩ hl
  intro b1 h1
  refine ⟨by simp,by simp,by simp,by simp,?_⟩
  intro b2 h2
  refine ⟨by simp,by simp,by simp,by simp,?_⟩
  intro b3 h3
  refine ⟨by simp,by simp,by simp,by simp,?_⟩
  intro b4 h4
  refine ⟨by simp,by simp,by simp,by simp,?_⟩
  intro b5 h5
  refine ⟨by simp,by simp,by simp,by simp,?_⟩
  rw [w64 (n:=(e.2.2.2.2.2.2.length:Int)+20) (by omega) (by omega)]
  have hall:(bif b5 then true else !word16 e.2.2.2.2.2.1) = !decide (tcpOK e):=by
    rw [h5,h4,h3,h2,h1]
    by_cases w1:word16 e.1=true
    all_goals by_cases w2:word16 e.2.1=true
    all_goals by_cases w3:word16 e.2.2.2.2.2.1=true
    all_goals by_cases q1:0<=e.2.2.1/\e.2.2.1<=4294967295
    all_goals by_cases q2:0<=e.2.2.2.1/\e.2.2.2.1<=4294967295
    all_goals by_cases q3:0<=e.2.2.2.2.1/\e.2.2.2.2.1<=255
    all_goals simp [tcpOK,w1,w2,w3,q1,q2,q3]
  rw [hall]
  refine ifP_split (fun h=>tcp_bad (by simpa using h)) (fun h => ?_)
  have hok:tcpOK e:=by simpa using h
  obtain ⟨e1,e2⟩:=tcp_ok (a:=a) (b:=b) hok
  have hB:=pseudo_range (a:=a) (b:=b) (p:=6) (tcp_bytes hok hd)
  have hbl:=tcp_len e
  refine ifP_split (fun h5 => ?_) (fun h5 => ?_)
  · have h5:=of_decide_eq_true h5
    rw [e1,e2,if_pos (by omega),if_pos (by omega)];exact ⟨rfl,rfl⟩
  have h5:=of_decide_eq_false h5
  have h5':¬ (1480:Int)<(tcpBody e).length:=by omega
  rw [if_neg h5'] at e1
  obtain ⟨k1,k2,k3,k4,k5,k6⟩:=hok
  rw [word16_iff] at k1 k2 k6
  refine ⟨by simp,?_⟩
  intro q1 h1
  rw [putB_2 k1.1 k1.2,List.nil_append] at h1
  have l1:q1.length=2:=by rw [h1];rfl
  refine ⟨by omega,?_⟩
  intro q2 h2
  rw [putB_2 k2.1 k2.2] at h2
  have l2:q2.length=4:=by rw [h2,List.length_append,l1];rfl
  refine ⟨by omega,?_⟩
  intro q3 h3
  rw [putB_4 k3.1 k3.2] at h3
  have l3:q3.length=8:=by rw [h3,List.length_append,l2];rfl
  refine ⟨by omega,?_⟩
  intro q4 h4
  rw [putB_4 k4.1 k4.2] at h4
  have l4:q4.length=12:=by rw [h4,List.length_append,l3];rfl
  refine ⟨by omega,?_⟩
  intro q5 h5
  rw [putB_1 (by omega) (by omega)] at h5
  have l5:q5.length=13:=by rw [h5,List.length_append,l4];rfl
  refine ⟨by omega,?_⟩
  intro q6 h6
  rw [putB_1 k5.1 k5.2] at h6
  have l6:q6.length=14:=by rw [h6,List.length_append,l5];rfl
  refine ⟨by omega,?_⟩
  intro q7 h7
  rw [putB_2 k6.1 k6.2] at h7
  have l7:q7.length=16:=by rw [h7,List.length_append,l6];rfl
  have hp:q7++[0,0,0,0]++e.2.2.2.2.2.2=tcpBody e:=by
    rw [h7,h6,h5,h4,h3,h2,h1]
    simp only [List.append_assoc]
    rfl
  rw [hp]
  refine ⟨by simp only [List.length_cons,List.length_nil];omega,by simp only [List.length_append,List.length_cons,List.length_nil];omega,by omega,?_⟩
  rintro c rfl
  exact ⟨by omega,by omega,by omega,hB.1,hB.2,e1.symm,low5 e2 h5'⟩
theorem ok_ref06_EncodeTCP:SpecOK Tryz.prog GL 114 ct_ref06_EncodeTCP.spec:=Ct.okH _ Tryz.func114 (by kernel_rfl) (withSpec_ok (withSpec_ok (withSpec_ok (withSpec_ok (withSpec_ok (withSpec_ok noSpecs_ok ok_ref06_word) ok_ref06_octet) ok_ref06_long) (Ct.named ok_ref04_Push)) (Ct.named ok_ref06_Pseudo)) ok_ref06_put) hmix an_ref06_EncodeTCP (hideMp (by kernel_rfl) vc_ref06_EncodeTCP)
end Go.RS
