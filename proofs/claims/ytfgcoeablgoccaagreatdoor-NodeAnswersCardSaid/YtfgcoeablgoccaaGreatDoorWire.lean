/- Draw: the choices of a law, with loose contracts: a number in its range. -/
import Derived.Test.YtfgcoeablgoccaaGreatDoorBase
import Derived.Laws.Bits64
import Derived.Laws.Bits128
import Derived.Laws.BitsAllLaws
namespace Go.RS
open Go.SX Go.Proofs
set_option maxRecDepth 100000
set_option linter.unusedVariables false
def ct_draw_New:Ct:=⟨[.val (.sl cU8),.val cI],[.box 96 cCodes],fun d=>[0<=d.2.1],fun d=>(((if (d.1.length:Int)<=d.2.1 then d.1 else d.1.take d.2.1.toNat,0),()),())⟩
def an_draw_New:PDs ct_draw_New.ps->Anns:=(fun _=>{})
theorem vc_draw_New :
 ∀(a:List Int) (b:Int),(a.length<=maxLen/\ ∀(c:Int),c∈a->0<=c/\c<=255)/\R64 b/\True->0<=b->ifP (decide (b< ↑a.length)) ((0:Int)<=0/\0<=b/\b<= ↑a.length/\(subL a (Int.toNat (0:Int)) b.toNat,(0:Int))=(if↑a.length<=b then a else List.take b.toNat a,(0:Int))) ((a,(0:Int))=(if↑a.length<=b then a else List.take b.toNat a,(0:Int))):=by
  rintro x y ⟨-,⟨h0,h1⟩,-⟩ h
  refine ifP_split (fun hb => ?_) (fun hb => ?_)
  · have hb:=of_decide_eq_true hb
    refine ⟨by omega,h,by omega,?_⟩
    rw [if_neg (by omega)]
    simp [subL]
  · have hb:=of_decide_eq_false hb
    rw [if_pos (by omega)]
theorem ok_draw_New:SpecOK Tryz.prog GL 10 ct_draw_New.spec:=Ct.okH _ Tryz.func10 (by kernel_rfl) noSpecs_ok hmix an_draw_New (hideMp (by kernel_rfl) vc_draw_New)
def ct_Next256:Cn:=⟨[.box 96 cCodes,.val cI],[.val cI],fun d=>[okC d.1,d.2.1<=256],fun d y=>0<=y.1.1/\(y.1.1<d.2.1∨y.1.1=0)/\okC y.2.1,fun d h=>⟨((0,()),(d.1,())),by simp,by simp,h.1⟩⟩
def an_Next256:PDs ct_Next256.ps->Anns:=(fun _=>{})
def Qba0 (a:List Int) (b c:Int) :=
 c≠(0:Int)/\0<=Int.tmod (IntKind.wrap .i64 (a.getD b.toNat default)) c/\(Int.tmod (IntKind.wrap .i64 (a.getD b.toNat default)) c<c∨Int.tmod (IntKind.wrap .i64 (a.getD b.toNat default)) c=0)/\okC (a,IntKind.wrap .i64 (b+(1:Int)))
theorem vc_Next256 :
 ∀(a:List Int) (b c:Int),((a.length<=maxLen/\ ∀(d:Int),d∈a->0<=d/\d<=255)/\R64 b)/\R64 c/\True->okC (a,b)/\c<=256-> ∀(d:Bool),d=decide (a.length<=b)->((! d)->((! d)->(! d))/\True)/\(d=false->(! d))/\ifP (bif d then true else decide (c<1)) ((0:Int)<=0/\(0<c∨(0:Int)=0)/\okC (a,b)) (0<=b/\b< ↑a.length/\ifP (decide (256<c)) False (Qba0 a b c)):=by
  delta Qba0
  rintro l p n ⟨⟨⟨hl,hw⟩,h0,h1⟩,⟨h2,h3⟩,-⟩ ⟨⟨hc1,hc2⟩,hn⟩
  simp only [maxLen] at hl hc1 hc2
  (repeat (intro (b_:Bool) (hb_:b_=_);(repeat refine ⟨(by first|(simp;done)|(rw [hb_];simp;done)|(rw [hb_];simp;omega)|(rw [hb_];simp;intros;omega)|(rw [hb_];simp +contextual;done)),?_⟩);subst hb_))
  refine ifP_split (fun hb => ?_) (fun hb => ?_)
  · exact ⟨by omega,by simp,hc1,hc2⟩
  · simp at hb
    obtain ⟨hb1,hb2⟩:=hb
    obtain ⟨hm0,hm1⟩:=hw _ (getD_mem hc1 hb1)
    rw [w64 (by omega) (by omega),w64 (by omega) (by omega)]
    refine ⟨hc1,hb1,ifP_split (fun hb => ?_) (fun hb => ?_)⟩
    · have:=of_decide_eq_true hb;omega
    · exact ⟨by omega,tmod_lo hm0,.inl (tmod_hi hm0 (by omega)),by simp only [okC];omega⟩
theorem ok_Next256:SpecOK Tryz.prog GL 27 ct_Next256.spec:=Cn.okH _ Tryz.func27 (by kernel_rfl) noSpecs_ok hmix an_Next256 (hideMp (by kernel_rfl) vc_Next256)
def ct_Next:Cn:=⟨[.box 96 cCodes,.val cI],[.val cI],fun d=>[okC d.1],fun d y=>0<=y.1.1/\(y.1.1<d.2.1∨y.1.1=0)/\okC y.2.1,fun d h=>⟨((0,()),(d.1,())),by simp,by simp,h.1⟩⟩
def an_Next:PDs ct_Next.ps->Anns:=(fun _=>{})
def Qba1 (a:List Int) (b e:Int) :=
 IntKind.wrap .i64 (IntKind.wrap .i64 ((256:Int)*IntKind.wrap .i64 (a.getD b.toNat default))+e)
theorem vc_Next :
 ∀(a:List Int) (b c:Int),((a.length<=maxLen/\ ∀(d:Int),d∈a->0<=d/\d<=255)/\R64 b)/\R64 c/\True->0<=b/\b<= ↑a.length-> ∀(d:Bool),d=decide (a.length<=b)->((! d)->((! d)->(! d))/\True)/\(d=false->(! d))/\ifP (bif d then true else decide (c<1)) ((0:Int)<=0/\(0<c∨(0:Int)=0)/\okC (a,b)) (0<=b/\b< ↑a.length/\ifP (decide (256<c)) (okC (a,IntKind.wrap .i64 (b+(1:Int)))/\(256:Int)<=256/\ ∀(e:Int) (f:List Int) (g:Int),0<=e/\(e<256∨e=0)/\okC (f,g)->c≠(0:Int)/\0<=Int.tmod (Qba1 a b e) c/\(Int.tmod (Qba1 a b e) c<c∨Int.tmod (Qba1 a b e) c=0)/\okC (f,g)) (Qba0 a b c)):=by
  delta Qba0 Qba1
  rintro l p n ⟨⟨⟨hl,hw⟩,h0,h1⟩,⟨h2,h3⟩,-⟩ ⟨hc1,hc2⟩
  simp only [maxLen] at hl hc1 hc2
  (repeat (intro (b_:Bool) (hb_:b_=_);(repeat refine ⟨(by first|(simp;done)|(rw [hb_];simp;done)|(rw [hb_];simp;omega)|(rw [hb_];simp;intros;omega)|(rw [hb_];simp +contextual;done)),?_⟩);subst hb_))
  refine ifP_split (fun hb => ?_) (fun hb => ?_)
  · exact ⟨by omega,by simp,hc1,hc2⟩
  · simp at hb
    obtain ⟨hb1,hb2⟩:=hb
    obtain ⟨hm0,hm1⟩:=hw _ (getD_mem hc1 hb1)
    rw [w64 (by omega) (by omega),w64 (n:=l.getD p.toNat default) (by omega) (by omega)]
    refine ⟨hc1,hb1,ifP_split (fun hb => ?_) (fun hb => ?_)⟩
    · refine ⟨by simp only [okC];omega,by omega,?_⟩
      rintro r l2 p2 ⟨hr0,hr1,hr2⟩
      rw [w64 (n:=256*_) (by omega) (by omega),w64 (by omega) (by omega)]
      exact ⟨by omega,tmod_lo (by omega),.inl (tmod_hi (by omega) (by omega)),hr2⟩
    · exact ⟨by omega,tmod_lo hm0,.inl (tmod_hi hm0 (by omega)),by simp only [okC];omega⟩
theorem ok_Next:SpecOK Tryz.prog GL 27 ct_Next.spec:=Cn.okH _ Tryz.func27 (by kernel_rfl) (withSpec_ok noSpecs_ok ok_Next256) hmix an_Next (hideMp (by kernel_rfl) vc_Next)
end Go.RS

/- Mix: the mixing of 64 bits: what it is, and that it is one to one. -/
namespace Go.RS
open Go.SX
set_option linter.unusedVariables false
def xs (k a:Nat):Nat:=a ^^^ a/2^k
def mu (c a:Nat):Nat:=a*c%18446744073709551616
def mixN (x:Nat):Nat:=xs 31 (mu 10723151780598845931 (xs 27 (mu 13787848793156543929 (xs 30 ((x+11400714819323198485)%18446744073709551616)))))
def mix (x:Int):Int:=(mixN x.toNat:Int)
theorem xs_lt {k a:Nat} (ha:a<18446744073709551616):xs k a<18446744073709551616:=by
  have h1:a<2^64:=by omega
  have h2:a/2^k<2^64:=Nat.lt_of_le_of_lt (Nat.div_le_self _ _) h1
  have h3:a ^^^ a/2^k<2^64:=Nat.xor_lt_two_pow h1 h2
  unfold xs
  omega
theorem mu_lt {c a:Nat}:mu c a<18446744073709551616:=by unfold mu;omega
theorem mixN_lt (x:Nat):mixN x<18446744073709551616:=by
  unfold mixN
  exact xs_lt mu_lt
theorem mix_lt (x:Int):0<=mix x/\mix x<=18446744073709551615:=by
  have:=mixN_lt x.toNat
  unfold mix
  omega
theorem wrap_u64_nat (n:Nat):IntKind.u64.wrap (n:Int)=((n%18446744073709551616:Nat):Int):=by
  rw [IntKind.wrap_u64,Int.natCast_emod]
  rfl
theorem shr_u64_nat (n k:Nat) (hk:k<=64):shrI .u64 (n:Int) (k:Int)=((n/2^k:Nat):Int):=by
  unfold shrI
  have:min (k:Int).toNat IntKind.u64.bits=k:=by simp only [IntKind.bits,Int.toNat_natCast];omega
  rw [this,Int.fdiv_eq_ediv_of_nonneg _ (Int.le_of_lt (Int.pow_pos (by decide))),Int.natCast_ediv,Int.natCast_pow]
  rfl
theorem xs_u64 (n k:Nat) (hk:k<=64) (hn:n<18446744073709551616):bits .xor .u64 (n:Int) (shrI .u64 (n:Int) (k:Int))=(xs k n:Int):=by
  rw [shr_u64_nat n k hk]
  exact bits_xor_u64_nat _ _ hn (Nat.lt_of_le_of_lt (Nat.div_le_self _ _) hn)
theorem mu_u64 (n c:Nat):IntKind.u64.wrap ((n:Int)*(c:Int))=(mu c n:Int):=by
  rw [← Int.natCast_mul,wrap_u64_nat];rfl
end Go.RS

/- Balance: mixing, hashing, choosing; the law's draws. -/
namespace Go.RS
open Go.SX Go.Proofs
set_option maxRecDepth 100000
set_option linter.unusedVariables false
def ct_draw_Codes_Int:Cn:=⟨[.box 96 cCodes],[.val cI],fun d=>[okC d.1],fun d y=>okC y.2.1 ∧ -9223372036854775808<=y.1.1/\y.1.1<=9223372036854775807,fun d h=>⟨((0,()),(d.1,())),h.1,by simp,by simp⟩⟩
def an_draw_Codes_Int:PDs ct_draw_Codes_Int.ps->Anns:=(fun _=>{})
theorem vc_draw_Codes_Int :
 ∀(a:List Int) (b:Int),((a.length<=maxLen/\ ∀(c:Int),c∈a->0<=c/\c<=255)/\R64 b)/\True->0<=b/\b<= ↑a.length->okC (a,b)/\ ∀(c:Int) (d:List Int) (e:Int),0<=c/\(c<10∨c=0)/\okC (d,e)->ifP (decide (c=0)) (okC (d,e)/\ ∀(f:Int) (g:List Int) (h:Int),0<=f/\(f<3∨f=0)/\okC (g,h)->okC (g,h)/\ -9223372036854775808<=IntKind.wrap .i64 ((-1:Int) -f)/\IntKind.wrap .i64 ((-1:Int) -f)<=9223372036854775807) (ifP (decide (c=1)) (okC (d,e)/\ ∀(f:Int) (g:List Int) (h:Int),0<=f/\(f<14∨f=0)/\okC (g,h)->0<=f/\f< ↑(List.length [(9223372036854775807:Int),(-9223372036854775808:Int),(1125899906842624:Int),(1125899906842625:Int),(65535:Int),(65536:Int),(255:Int),(256:Int),(1023:Int),(1024:Int),(65534:Int),(65535:Int),(4294967296:Int),(4611686018427387905:Int)])/\okC (g,h)/\ -9223372036854775808<=List.getD
 [(9223372036854775807:Int),(-9223372036854775808:Int),(1125899906842624:Int),(1125899906842625:Int),(65535:Int),(65536:Int),(255:Int),(256:Int),(1023:Int),(1024:Int),(65534:Int),(65535:Int),(4294967296:Int),(4611686018427387905:Int)] f.toNat default/\List.getD [(9223372036854775807:Int),(-9223372036854775808:Int),(1125899906842624:Int),(1125899906842625:Int),(65535:Int),(65536:Int),(255:Int),(256:Int),(1023:Int),(1024:Int),(65534:Int),(65535:Int),(4294967296:Int),(4611686018427387905:Int)] f.toNat default<=9223372036854775807) (ifP (decide (c=2)) (okC (d,e)/\ ∀(f:Int) (g:List Int) (h:Int),0<=f/\(f<256∨f=0)/\okC (g,h)->okC (g,h)/\ ∀(i:Int) (j:List Int) (k:Int),0<=i/\(i<256∨i=0)/\okC (j,k)->okC (j,k)/\ -9223372036854775808<=IntKind.wrap .i64 (IntKind.wrap .i64 ((256:Int)*f)+i)/\IntKind.wrap .i64 (IntKind.wrap .i64 ((256:Int)*f)+i)<=9223372036854775807) (okC (d,e)/\ ∀(f:Int) (g:List Int)
 (h:Int),0<=f/\(f<40∨f=0)/\okC (g,h)->okC (g,h)/\R64 f))):=by
  rintro l p-h
  refine ⟨h,?_⟩
  rintro r l2 p2 ⟨h1,h2,h3⟩
  refine ifP_split (fun hb=>⟨h3,?_⟩) (fun hb=>ifP_split (fun hb=>⟨h3,?_⟩) (fun hb=>ifP_split (fun hb=>⟨h3,?_⟩) (fun hb=>⟨h3,?_⟩)))
  · rintro a l4 p4 ⟨h4,h5,h6⟩
    exact ⟨h6,ri64 _⟩
  · rintro a l4 p4 ⟨h4,h5,h6⟩
    refine ⟨h4,by simp;omega,h6,?_⟩
    exact getD_all (p:=fun v => -9223372036854775808<=v/\v<=9223372036854775807) (by simp) h4 (by simp;omega)
  · rintro a l4 p4 ⟨h4,h5,h6⟩
    refine ⟨h6,?_⟩
    rintro a l4 p4 ⟨h4,h5,h6⟩
    exact ⟨h6,ri64 _⟩
  · rintro a l4 p4 ⟨h4,h5,h6⟩
    exact ⟨h6,by omega,by omega⟩
theorem ok_draw_Codes_Int:SpecOK Tryz.prog GL 43 ct_draw_Codes_Int.spec:=Cn.okH _ Tryz.func43 (by kernel_rfl) (withSpec_ok noSpecs_ok ok_Next) hmix an_draw_Codes_Int (hideMp (by kernel_rfl) vc_draw_Codes_Int)
def ct_draw_Codes_Address:Cn:=⟨[.box 96 cCodes],[.val cU32],fun d=>[okC d.1],fun d y=>okC y.2.1/\0<=y.1.1/\y.1.1<=4294967295,fun d h=>⟨((0,()),(d.1,())),h.1,by simp,by simp⟩⟩
def an_draw_Codes_Address:PDs ct_draw_Codes_Address.ps->Anns:=(fun _=>{})
def Qbc2 (f i:Int) :=
 IntKind.wrap .i64 (IntKind.wrap .i64 ((167772160:Int)+shlI IntKind.i64 f (16:Int))+i)
theorem vc_draw_Codes_Address :
 ∀(a:List Int) (b:Int),((a.length<=maxLen/\ ∀(c:Int),c∈a->0<=c/\c<=255)/\R64 b)/\True->0<=b/\b<= ↑a.length->okC (a,b)/\ ∀(c:Int) (d:List Int) (e:Int),0<=c/\(c<12∨c=0)/\okC (d,e)->ifP (decide (c=11)) (okC (d,e)/\ ∀(f:Int) (g:List Int) (h:Int),0<=f/\(f<65536∨f=0)/\okC (g,h)->(0:Int)<=16/\okC (g,h)/\ ∀(i:Int) (j:List Int) (k:Int),0<=i/\(i<65536∨i=0)/\okC (j,k)->okC (j,k)/\0<=IntKind.wrap .u32 (IntKind.wrap .i64 (shlI IntKind.i64 f (16:Int)+i))/\IntKind.wrap .u32 (IntKind.wrap .i64 (shlI IntKind.i64 f (16:Int)+i))<=4294967295) (okC (d,e)/\ ∀(f:Int) (g:List Int) (h:Int),0<=f/\(f<3∨f=0)/\okC (g,h)->(0:Int)<=16/\okC (g,h)/\ ∀(i:Int) (j:List Int) (k:Int),0<=i/\(i<8∨i=0)/\okC (j,k)->okC (j,k)/\0<=IntKind.wrap .u32 (Qbc2 f i)/\IntKind.wrap .u32 (Qbc2 f i)<=4294967295):=by
  delta Qbc2
  rintro l p-h
  refine ⟨h,?_⟩
  rintro r l2 p2 ⟨h1,h2,h3⟩
  refine ifP_split (fun hb=>⟨h3,?_⟩) (fun hb=>⟨h3,?_⟩)
  · rintro a l4 p4 ⟨h4,h5,h6⟩
    refine ⟨by omega,h6,?_⟩
    rintro a l4 p4 ⟨h4,h5,h6⟩
    exact ⟨h6,ru32 _⟩
  · rintro a l4 p4 ⟨h4,h5,h6⟩
    refine ⟨by omega,h6,?_⟩
    rintro a l4 p4 ⟨h4,h5,h6⟩
    exact ⟨h6,ru32 _⟩
theorem ok_draw_Codes_Address:SpecOK Tryz.prog GL 44 ct_draw_Codes_Address.spec:=Cn.okH _ Tryz.func44 (by kernel_rfl) (withSpec_ok noSpecs_ok ok_Next) hmix an_draw_Codes_Address (hideMp (by kernel_rfl) vc_draw_Codes_Address)
def ct_draw_Codes_Proto:Cn:=⟨[.box 96 cCodes],[.val cI],fun d=>[okC d.1],fun d y=>okC y.2.1/\(y.1.1=17∨y.1.1=1∨y.1.1=6),fun d h=>⟨((1,()),(d.1,())),h.1,by simp⟩⟩
def an_draw_Codes_Proto:PDs ct_draw_Codes_Proto.ps->Anns:=(fun _=>{})
theorem vc_draw_Codes_Proto :
 ∀(a:List Int) (b:Int),((a.length<=maxLen/\ ∀(c:Int),c∈a->0<=c/\c<=255)/\R64 b)/\True->0<=b/\b<= ↑a.length->okC (a,b)/\ ∀(c:Int) (d:List Int) (e:Int),0<=c/\(c<3∨c=0)/\okC (d,e)->0<=c/\c< ↑(List.length [(17:Int),(1:Int),(6:Int)])/\okC (d,e)/\(List.getD [(17:Int),(1:Int),(6:Int)] c.toNat default=17∨List.getD [(17:Int),(1:Int),(6:Int)] c.toNat default=1∨List.getD [(17:Int),(1:Int),(6:Int)] c.toNat default=6):=by
  rintro l p-h
  refine ⟨h,?_⟩
  rintro r l2 p2 ⟨h1,h2,h3⟩
  refine ⟨h1,by simp;omega,h3,?_⟩
  exact getD_all (p:=fun v=>v=17∨v=1∨v=6) (by simp) h1 (by simp;omega)
theorem ok_draw_Codes_Proto:SpecOK Tryz.prog GL 31 ct_draw_Codes_Proto.spec:=Cn.okH _ Tryz.func31 (by kernel_rfl) (withSpec_ok noSpecs_ok ok_Next) hmix an_draw_Codes_Proto (hideMp (by kernel_rfl) vc_draw_Codes_Proto)
def ct_balance_Mix:Ct:=⟨[.val cU64],[.val cU64],fun _=>[],fun d=>((mix d.1,()),())⟩
def an_balance_Mix:PDs ct_balance_Mix.ps->Anns:=(fun _=>{})
def Qbc0 (a:Int) :=
 IntKind.wrap .u64 (bits BinOp.xor IntKind.u64 (IntKind.wrap .u64 (a+(11400714819323198485:Int))) (shrI IntKind.u64 (IntKind.wrap .u64 (a+(11400714819323198485:Int))) (30:Int))*(13787848793156543929:Int))
def Qbc1 (a:Int) :=
 IntKind.wrap .u64 (bits BinOp.xor IntKind.u64 (Qbc0 a) (shrI IntKind.u64 (Qbc0 a) (27:Int))*(10723151780598845931:Int))
theorem vc_balance_Mix :
 ∀(a:Int),(0<=a/\a<=18446744073709551615)/\True->True->(0:Int)<=30/\(0:Int)<=27/\(0:Int)<=31/\bits BinOp.xor IntKind.u64 (Qbc1 a) (shrI IntKind.u64 (Qbc1 a) (31:Int))=mix a:=by
  delta Qbc0 Qbc1
  rintro x ⟨⟨h0,h1⟩,-⟩ -
  refine ⟨by decide,by decide,by decide,?_⟩
  have h0:0<=x:=h0
  obtain ⟨n,rfl⟩:=Int.eq_ofNat_of_zero_le h0
  have e0:IntKind.u64.wrap ((n:Int)+11400714819323198485)=(((n+11400714819323198485)%18446744073709551616:Nat):Int):=wrap_u64_nat (n+11400714819323198485)
  have hm:(n+11400714819323198485)%18446744073709551616<18446744073709551616:=by omega
  have e1:=xs_u64 _ 30 (by decide) hm
  have e2:=mu_u64 (xs 30 ((n+11400714819323198485)%18446744073709551616)) 13787848793156543929
  have e3:=xs_u64 _ 27 (by decide) (mu_lt (c:=13787848793156543929) (a:=xs 30 ((n+11400714819323198485)%18446744073709551616)))
  have e4:=mu_u64 (xs 27 (mu 13787848793156543929 (xs 30 ((n+11400714819323198485)%18446744073709551616)))) 10723151780598845931
  have e5:=xs_u64 _ 31 (by decide) (mu_lt (c:=10723151780598845931) (a:=xs 27 (mu 13787848793156543929 (xs 30 ((n+11400714819323198485)%18446744073709551616)))))
  have c1:((30:Nat):Int)=30:=rfl
  have c2:((27:Nat):Int)=27:=rfl
  have c3:((31:Nat):Int)=31:=rfl
  have c4:((13787848793156543929:Nat):Int)=13787848793156543929:=rfl
  have c5:((10723151780598845931:Nat):Int)=10723151780598845931:=rfl
  rw [c1] at e1
  rw [c4] at e2
  rw [c2] at e3
  rw [c5] at e4
  rw [c3] at e5
  rw [e0,e1,e2,e3,e4,e5]
  unfold mix mixN
  rw [Int.toNat_natCast]
theorem ok_balance_Mix:SpecOK Tryz.prog GL 217 ct_balance_Mix.spec:=Ct.okH _ Tryz.func217 (by kernel_rfl) noSpecs_ok hmix an_balance_Mix (hideMp (by kernel_rfl) vc_balance_Mix)
abbrev Key:Type:=Int×Int×Int×Int×Int
def hstep (h x:Int):Int:=mix (bits .xor .u64 h (IntKind.wrap .u64 x))
def hash (seed:Int) (k:Key):Int:=hstep (hstep (hstep (hstep (hstep (mix (IntKind.wrap .u64 seed)) k.1) k.2.1) k.2.2.1) k.2.2.2.1) k.2.2.2.2
theorem hash_range (s:Int) (k:Key):0<=hash s k/\hash s k<=18446744073709551615:=mix_lt _
def hashAt (seed:Int) (k:Key) (j:Int):Int:=([k.1,k.2.1,k.2.2.1,k.2.2.2.1,k.2.2.2.2].take j.toNat).foldl hstep (mix (IntKind.wrap .u64 seed))
def ct_balance_Hash:Ct:=⟨[.val cI,.agg cKey],[.val cU64],fun _=>[],fun d=>((hash d.1 d.2.1,()),())⟩
def an_balance_Hash:PDs ct_balance_Hash.ps->Anns:=(fun d=>{loops:=(fun n=>match n with|3=>some (fun S=>{ι:=Int×Int,qn:=⟨fun k_=>∀ (j:Int) (h:Int),k_ (j,h),fun k_ h_ i=>h_ i.1 i.2,fun k_=>∃ (j:Int) (h:Int),k_ (j,h),fun k_ ⟨j,h,h_⟩=>⟨_,h_⟩⟩,μ:=fun i=>(5-i.1).toNat,inv:=fun i=>0<=i.1/\i.1<=5/\i.2=hashAt d.1 d.2.1 i.1,keep:=[23],slots:=fun i=>[(5,.int .u64 i.2),(24,.int .i64 i.1)],names:=fun i=>[]})|_=>none)})
theorem vc_balance_Hash :
 ∀ (x x_1 x_2 x_3 x_4 x_5:Int),R64 x/\((0<=x_1/\x_1<=4294967295)/\(0<=x_2/\x_2<=4294967295)/\R64 x_3/\R64 x_4/\R64 x_5)/\True->True->(∃ j h,(0<=j/\j<=5/\h=hashAt x (x_1,x_2,x_3,x_4,x_5) j)/\mix (IntKind.wrap .u64 x)=h/\IntKind.wrap .i64 x_1=IntKind.wrap .i64 x_1/\IntKind.wrap .i64 x_2=IntKind.wrap .i64 x_2/\x_3=x_3/\x_4=x_4/\x_5=x_5/\(0:Int)=j/\True)/\∀ (j h:Int),0<=j/\j<=5/\h=hashAt x (x_1,x_2,x_3,x_4,x_5) j->ifP (decide (j<5)) (0<=j/\j<↑(5:Nat)/\∃ j_1 h_1,(0<=j_1/\j_1<=5/\h_1=hashAt x (x_1,x_2,x_3,x_4,x_5) j_1)/\Int.toNat ((5:Int)-j_1)<Int.toNat ((5:Int)-j)/\mix (bits BinOp.xor IntKind.u64 h (IntKind.wrap .u64 (pickI [IntKind.wrap .i64 x_1,IntKind.wrap .i64 x_2,x_3,x_4,x_5] j.toNat)))=h_1/\IntKind.wrap .i64 x_1=IntKind.wrap .i64 x_1 /\
 IntKind.wrap .i64 x_2=IntKind.wrap .i64 x_2/\x_3=x_3/\x_4=x_4/\x_5=x_5/\IntKind.wrap .i64 (j+(1:Int))=j_1/\True) (h=hash x (x_1,x_2,x_3,x_4,x_5)):=by
  rintro x a b c e f ⟨-,⟨⟨a0,a1⟩,⟨b0,b1⟩,⟨c0,c1⟩,⟨e0,e1⟩,f0,f1⟩,-⟩ -
  refine ⟨⟨0,_,⟨by omega,by omega,rfl⟩,(by repeat' first|exact trivial|refine ⟨trivial,?_⟩|refine ⟨(by with_reducible rfl),?_⟩|refine ⟨w64 (by omega) (by omega),?_⟩|refine ⟨rfl,?_⟩)⟩,?_⟩
  rintro j h ⟨h0,h1,rfl⟩
  refine ifP_split (fun hj => ?_) (fun hj => ?_)
  · have hj:=of_decide_eq_true hj
    refine ⟨h0,by omega,j+1,hashAt x (a,b,c,e,f) (j+1),⟨by omega,by omega,rfl⟩,by omega,?_,rfl,rfl,rfl,rfl,rfl,w64 (by omega) (by omega),trivial⟩
    rw [w64 (n:=a) (by omega) (by omega),w64 (n:=b) (by omega) (by omega)]
    have:j=0∨j=1∨j=2∨j=3∨j=4:=by omega
    rcases this with rfl|rfl|rfl|rfl|rfl <;> rfl
  · have hj:=of_decide_eq_false hj
    have:j=5:=by omega
    subst this
    rfl
theorem ok_balance_Hash:SpecOK Tryz.prog GL 213 ct_balance_Hash.spec:=Ct.okH _ Tryz.func213 (by kernel_rfl) (withSpec_ok noSpecs_ok ok_balance_Mix) hmix an_balance_Hash (hideMp (by kernel_rfl) vc_balance_Hash)
def choose (way seed:Int) (k:Key) (count n:Int):Int×Int :=
  if n<1∨16<n∨count<0∨way<1∨3<way then (0,1) else
    (if way=1 then (hash seed k).tmod n else if way=2 then (hash seed (k.1,k.2.1,0,0,0)).tmod n else count.tmod n,0)
def ct_balance_Choose:Ct:=⟨[.val cI,.val cI,.agg cKey,.val cI,.val cI],[.val cI,.val cI],fun _=>[],fun d=>(((choose d.1 d.2.1 d.2.2.1 d.2.2.2.1 d.2.2.2.2.1).1,(choose d.1 d.2.1 d.2.2.1 d.2.2.2.1 d.2.2.2.2.1).2,()),())⟩
def an_balance_Choose:PDs ct_balance_Choose.ps->Anns:=(fun _=>{})
theorem vc_balance_Choose :
 ∀(a b c d e f g h i:Int),R64 a/\R64 b/\((0<=c/\c<=4294967295)/\(0<=d/\d<=4294967295)/\R64 e/\R64 f/\R64 g)/\R64 h/\R64 i/\True->True-> ∀(j:Bool),j=decide (i<1)->((! j)->((! j)->(! j))/\True)/\(j=false->(! j))/\ ∀(k:Bool),(k=bif j then true else decide (16<i))->((! k)->((! k)->(! k))/\True)/\(k=false->(! k))/\ifP (bif k then true else decide (h<0)) ((0:Int)=(choose a b (c,d,e,f,g) h i).1/\(1:Int)=(choose a b (c,d,e,f,g) h i).2) (ifP (decide (a=1)) (IntKind.wrap .u64 i≠(0:Int)/\IntKind.wrap .i64 (Int.tmod (hash b (c,d,e,f,g)) (IntKind.wrap .u64 i))=(choose a b (c,d,e,f,g) h i).1/\(0:Int)=(choose a b (c,d,e,f,g) h i).2) (ifP (decide (a=2)) (IntKind.wrap .u64 i≠(0:Int)/\IntKind.wrap .i64 (Int.tmod (hash b (c,d,(0:Int),(0:Int),(0:Int))) (IntKind.wrap .u64 i))=(choose a b (c,d,e,f,g) h i).1/\(0:Int)=(choose a b (c,d,e,f,g) h i).2) (ifP (decide (a=3)) (IntKind.wrap .u64 i≠(0:Int)/\IntKind.wrap
 .i64 (Int.tmod (IntKind.wrap .u64 h) (IntKind.wrap .u64 i))=(choose a b (c,d,e,f,g) h i).1/\(0:Int)=(choose a b (c,d,e,f,g) h i).2) ((0:Int)=(choose a b (c,d,e,f,g) h i).1/\(1:Int)=(choose a b (c,d,e,f,g) h i).2)))):=by
  rintro x s a b c e f cnt n ⟨-,-,-,⟨c0,c1⟩,⟨n0,n1⟩,-⟩ -
  (repeat (intro (b_:Bool) (hb_:b_=_);(repeat refine ⟨(by first|(simp;done)|(rw [hb_];simp;done)|(rw [hb_];simp;omega)|(rw [hb_];simp;intros;omega)|(rw [hb_];simp +contextual;done)),?_⟩);subst hb_))
  refine ifP_split (fun h => ?_) (fun h => ?_)
  · simp at h
    unfold choose;rw [if_pos (by omega)];exact ⟨rfl,rfl⟩
  · simp at h
    rw [wu64 (n:=n) (by omega) (by omega)]
    have hr:∀ k,0<=(hash s k).tmod n/\(hash s k).tmod n<n:=fun k=>⟨tmod_lo (hash_range _ _).1,tmod_hi (hash_range _ _).1 (by omega)⟩
    unfold choose
    refine ifP_split (fun hx => ?_) (fun hx=>ifP_split (fun hy => ?_) (fun hy=>ifP_split (fun hz => ?_) (fun hz => ?_)))
    · simp at hx
      subst hx
      have:=hr (a,b,c,e,f)
      rw [if_neg (by omega),if_pos rfl,w64 (by omega) (by omega)]
      exact ⟨by omega,rfl,rfl⟩
    · simp at hx hy
      subst hy
      have:=hr (a,b,0,0,0)
      rw [if_neg (by omega),if_neg (by omega),if_pos rfl,w64 (by omega) (by omega)]
      exact ⟨by omega,rfl,rfl⟩
    · simp at hx hy hz
      subst hz
      have q0:=tmod_lo (b:=n) (a:=cnt) (by omega)
      have q1:=tmod_hi (b:=n) (a:=cnt) (by omega) (by omega)
      rw [if_neg (by omega),if_neg (by omega),if_neg (by omega),wu64 (n:=cnt) (by omega) (by omega),w64 (by omega) (by omega)]
      exact ⟨by omega,rfl,rfl⟩
    · simp at hx hy hz
      rw [if_pos (by omega)]
      exact ⟨rfl,rfl⟩
theorem ok_balance_Choose:SpecOK Tryz.prog GL 199 ct_balance_Choose.spec:=Ct.okH _ Tryz.func199 (by kernel_rfl) (withSpec_ok noSpecs_ok ok_balance_Hash) hmix an_balance_Choose (hideMp (by kernel_rfl) vc_balance_Choose)
end Go.RS

/- Ident: identifiers of answers. -/
namespace Go.RS
open Go.SX Go.Proofs
set_option maxRecDepth 100000
set_option linter.unusedVariables false
abbrev cPort:CT := .pair cU32 cI
abbrev cPrefix:CT := .pair cU32 cI
abbrev cRoute:CT := .pair cPrefix (.pair (.sl cI) cI)
abbrev cNode:CT := .pair (.sl cPort) (.pair cU32 (.pair cI (.pair .bool (.pair (.sl cRoute) (.pair cI (.pair cU32 (.pair cI (.pair cI (.pair cI (.pair cBucket (.pair .bool (.pair .bool (.pair cI cI)))))))))))))
abbrev cState:CT := .pair (.sl cRoute) (.pair cI (.pair (.sl cI) (.pair cTokens cI)))
abbrev Prefix:Type:=Int×Int
abbrev Route:Type:=Prefix×List Int×Int
abbrev Node:Type:=List (Int×Int)×Int×Int×Bool×List Route×Int×Int×Int×Int×Int×(Int×Int)×Bool×Bool×Int×Int
abbrev NState:Type:=List Route×Int×List Int×(Int×Int)×Int
def nPorts (n:Node):=n.1
def nLoop (n:Node):=n.2.1
def nOwner (n:Node):=n.2.2.1
def nHost (n:Node):=n.2.2.2.1
def nRoutes (n:Node):=n.2.2.2.2.1
def nSource (n:Node):=n.2.2.2.2.2.1
def nFixed (n:Node):=n.2.2.2.2.2.2.1
def nID (n:Node):=n.2.2.2.2.2.2.2.1
def nBase (n:Node):=n.2.2.2.2.2.2.2.2.1
def nSpeed (n:Node):=n.2.2.2.2.2.2.2.2.2.1
def nLimit (n:Node):=n.2.2.2.2.2.2.2.2.2.2.1
def nSilent (n:Node):=n.2.2.2.2.2.2.2.2.2.2.2.1
def nOpaque (n:Node):=n.2.2.2.2.2.2.2.2.2.2.2.2.1
def nFirst (n:Node):=n.2.2.2.2.2.2.2.2.2.2.2.2.2.1
def nSeed (n:Node):=n.2.2.2.2.2.2.2.2.2.2.2.2.2.2
def sRoutes (s:NState):=s.1
def sSent (s:NState):=s.2.1
def sPortSent (s:NState):=s.2.2.1
def sTokens (s:NState):=s.2.2.2.1
def sBalanced (s:NState):=s.2.2.2.2
theorem i64_and65535 (n:Int):bits .and .i64 n 65535=n%65536:=by
  have h127:(BitVec.ofInt 64 65535).toNat=2^16-1:=by decide
  have key:(BitVec.ofInt 64 n &&& BitVec.ofInt 64 65535).toNat=(n%((2^64:Nat):Int)).toNat%2^16:=by
    rw [BitVec.toNat_and,BitVec.toNat_ofInt,h127,Nat.and_two_pow_sub_one_eq_mod]
  show IntKind.i64.wrap ((BitVec.ofInt 64 n &&& BitVec.ofInt 64 65535).toNat:Nat)=n%65536
  rw [key,IntKind.wrap_i64]
  omega
theorem u64_and65535 {n:Int} (h0:0<=n) (h1:n<=18446744073709551615):bits .and .u64 n 65535=n%65536:=by
  rw [u64_and n 65535 h0 (by omega) (by decide) (by decide)]
  have:(n.toNat &&& Int.toNat 65535)=n.toNat%65536:=Nat.and_two_pow_sub_one_eq_mod n.toNat 16
  rw [this];omega
def grown (speed a:Int):Int:=if speed<0∨1000000<speed∨a<0∨1125899906842624<a then 0 else speed*(a/1000000)+speed*(a%1000000)/1000000
theorem grown_in {speed a:Int}:0<=grown speed a/\grown speed a<=2251799813685248:=by
  unfold grown
  split
  · omega
  · rename_i h
    have a1:0<=a/1000000:=by omega
    have a2:a/1000000<=1125899907:=by omega
    have a3:0<=a%1000000:=by omega
    have a4:a%1000000<=999999:=by omega
    have b1:0<=speed*(a/1000000):=Int.mul_nonneg (by omega) a1
    have b2:speed*(a/1000000)<=1000000*1125899907:=Int.mul_le_mul (by omega) a2 a1 (by omega)
    have b3:0<=speed*(a%1000000):=Int.mul_nonneg (by omega) a3
    have b4:speed*(a%1000000)<=1000000*999999:=Int.mul_le_mul (by omega) a4 a3 (by omega)
    omega
theorem grown_wrap {x a:Int} (h:¬ (x<0∨1000000<x∨a<0∨1125899906842624<a)) :
    IntKind.wrap IntKind.i64 (IntKind.wrap IntKind.i64 (x*IntKind.wrap IntKind.i64 (Int.tdiv a 1000000))+IntKind.wrap IntKind.i64 (Int.tdiv (IntKind.wrap IntKind.i64 (x*Int.tmod a 1000000)) 1000000))=grown x a:=by
  have h2:=grown_in (speed:=x) (a:=a)
  unfold grown at h2 ⊢
  rw [if_neg h] at h2 ⊢
  have a1:0<=a/1000000:=by omega
  have a2:a/1000000<=1125899907:=by omega
  have a3:0<=a%1000000:=by omega
  have a4:a%1000000<=999999:=by omega
  have b1:0<=x*(a/1000000):=Int.mul_nonneg (by omega) a1
  have b2:x*(a/1000000)<=1000000*1125899907:=Int.mul_le_mul (by omega) a2 a1 (by omega)
  have b3:0<=x*(a%1000000):=Int.mul_nonneg (by omega) a3
  have b4:x*(a%1000000)<=1000000*999999:=Int.mul_le_mul (by omega) a4 a3 (by omega)
  rw [Int.tdiv_eq_ediv_of_nonneg (show 0<=a by omega),Int.tmod_eq_emod_of_nonneg (show 0<=a by omega),w64 (n:=a/1000000) (by omega) (by omega),w64 (n:=x*(a/1000000)) (by omega) (by omega),
    w64 (n:=x*(a%1000000)) (by omega) (by omega),Int.tdiv_eq_ediv_of_nonneg b3,w64 (n:=x*(a%1000000)/1000000) (by omega) (by omega),w64 (by omega) (by omega)]
def ct_identifier_Grown:Ct:=⟨[.val cI,.val cI],[.val cI],fun _=>[],fun d=>((grown d.1 d.2.1,()),())⟩
def an_identifier_Grown:PDs ct_identifier_Grown.ps->Anns:=(fun _=>{})
theorem vc_identifier_Grown :
 ∀(a b:Int),R64 a/\R64 b/\True->True-> ∀(c:Bool),c=decide (a<0)->((! c)->((! c)->(! c))/\True)/\(c=false->(! c))/\ ∀(d:Bool),(d=bif c then true else decide (1000000<a))->((! d)->((! d)->(! d))/\True)/\(d=false->(! d))/\ ∀(e:Bool),(e=bif d then true else decide (b<0))->((! e)->((! e)->(! e))/\True)/\(e=false->(! e))/\ifP (bif e then true else decide (1125899906842624<b)) ((0:Int)=grown a b) ((1000000:Int)≠(0:Int)/\(1000000:Int)≠(0:Int)/\(1000000:Int)≠(0:Int)/\IntKind.wrap .i64 (IntKind.wrap .i64 (a*IntKind.wrap .i64 (Int.tdiv b (1000000:Int)))+IntKind.wrap .i64 (Int.tdiv (IntKind.wrap .i64 (a*Int.tmod b (1000000:Int))) (1000000:Int)))=grown a b):=by
  rintro x a - -
  (repeat (intro (b_:Bool) (hb_:b_=_);(repeat refine ⟨(by first|(simp;done)|(rw [hb_];simp;done)|(rw [hb_];simp;omega)|(rw [hb_];simp;intros;omega)|(rw [hb_];simp +contextual;done)),?_⟩);subst hb_))
  refine ifP_split (fun h => ?_) (fun h => ?_)
  · simp at h
    unfold grown;rw [if_pos (by omega)]
  · simp at h
    refine ⟨by omega,by omega,by omega,grown_wrap (by omega)⟩
theorem ok_identifier_Grown:SpecOK Tryz.prog GL 212 ct_identifier_Grown.spec:=Ct.okH _ Tryz.func212 (by kernel_rfl) noSpecs_ok hmix an_identifier_Grown (hideMp (by kernel_rfl) vc_identifier_Grown)
def idOK (n:Node):Bool:=decide (0<=nID n/\nID n<=5/\0<=nBase n/\nBase n<=65535/\0<=nSpeed n/\nSpeed n<=1000000)
def idCheck (n:Node):Int:=if idOK n then 0 else 1
def ct_identifier_Check:Ct:=⟨[.agg cNode],[.val cI],fun _=>[],fun d=>((idCheck d.1,()),())⟩
def an_identifier_Check:PDs ct_identifier_Check.ps->Anns:=(fun _=>{})
def Qbd0 (a:Node) :=
 CT.wf cNode a/\True->True-> ∀(b:Bool),b=decide (a.2.2.2.2.2.2.2.1<0)->((! b)->((! b)->(! b))/\True)/\((! b)->((! b)->(! b))/\True)/\(b=false->(! b))/\ ∀(c:Bool),(c=bif b then true else decide (5<a.2.2.2.2.2.2.2.1))->((! c)->((! c)->(! c))/\True)/\((! c)->((! c)->(! c))/\True)/\(c=false->(! c))/\ ∀(d:Bool),(d=bif c then true else decide (a.2.2.2.2.2.2.2.2.1<0))->((! d)->((! d)->(! d))/\True)/\((! d)->((! d)->(! d))/\True)/\(d=false->(! d))/\ ∀(e:Bool),(e=bif d then true else decide (65535<a.2.2.2.2.2.2.2.2.1))->((! e)->((! e)->(! e))/\True)/\((! e)->((! e)->(! e))/\True)/\(e=false->(! e))/\ ∀(f:Bool),(f=bif e then true else decide (a.2.2.2.2.2.2.2.2.2.1<0))->((! f)->((! f)->(! f))/\True)/\((! f)->((! f)->(! f))/\True)/\(f=false->(! f))/\ifP (bif f then true else decide (1000000<a.2.2.2.2.2.2.2.2.2.1)) ((1:Int)=idCheck a) ((0:Int)=idCheck a)
theorem vc_identifier_Check :
 ∀(a:Node),(Qbd0 a):=by
  delta Qbd0
  rintro d - -
  (repeat (intro (b_:Bool) (hb_:b_=_);(repeat refine ⟨(by first|(simp;done)|(rw [hb_];simp;done)|(rw [hb_];simp;omega)|(rw [hb_];simp;intros;omega)|(rw [hb_];simp +contextual;done)),?_⟩);subst hb_))
  unfold idCheck idOK nID nBase nSpeed
  generalize d.2.2.2.2.2.2.2.1=i
  generalize d.2.2.2.2.2.2.2.2.1=b
  generalize d.2.2.2.2.2.2.2.2.2.1=s
  refine ifP_split (fun h => ?_) (fun h => ?_)
  · simp at h
    rw [if_neg (by simp;omega)]
  · simp at h
    rw [if_pos (by simp;omega)]
theorem ok_identifier_Check:SpecOK Tryz.prog GL 49 ct_identifier_Check.spec:=Ct.okH _ Tryz.func49 (by kernel_rfl) noSpecs_ok hmix an_identifier_Check (hideMp (by kernel_rfl) vc_identifier_Check)
def ct_ref11_Check:Ct:=⟨[.agg cNode],[.val cI],fun _=>[],fun d=>((idCheck d.1,()),())⟩
def an_ref11_Check:PDs ct_ref11_Check.ps->Anns:=(fun _=>{})
theorem vc_ref11_Check :
 ∀(a:Node),(Qbd0 a):=by
  delta Qbd0
  rintro d - -
  (repeat (intro (b_:Bool) (hb_:b_=_);(repeat refine ⟨(by first|(simp;done)|(rw [hb_];simp;done)|(rw [hb_];simp;omega)|(rw [hb_];simp;intros;omega)|(rw [hb_];simp +contextual;done)),?_⟩);subst hb_))
  unfold idCheck idOK nID nBase nSpeed
  generalize d.2.2.2.2.2.2.2.1=i
  generalize d.2.2.2.2.2.2.2.2.1=b
  generalize d.2.2.2.2.2.2.2.2.2.1=s
  refine ifP_split (fun h => ?_) (fun h => ?_)
  · simp at h
    rw [if_neg (by simp;omega)]
  · simp at h
    rw [if_pos (by simp;omega)]
theorem ok_ref11_Check:SpecOK Tryz.prog GL 54 ct_ref11_Check.spec:=Ct.okH _ Tryz.func54 (by kernel_rfl) noSpecs_ok hmix an_ref11_Check (hideMp (by kernel_rfl) vc_ref11_Check)
abbrev wI (n:Int):Int:=IntKind.i64.wrap n
def idSum (n:Node) (sent a:Int):Int:=wI (wI (nBase n+sent)+grown (nSpeed n) a)
def idCount (n:Node) (sent a:Int):Int:=idSum n sent a%65536
def ct_identifier_Next_1:Ct:=⟨[.val cI,.box 30 cNode,.box 3 cI],[.val cI],fun _=>[],fun d=>((idCount d.2.1 d.1 d.2.2.1,()),(d.2.1,d.2.2.1,()))⟩
def an_identifier_Next_1:PDs ct_identifier_Next_1.ps->Anns:=(fun _=>{})
theorem vc_identifier_Next_1 :
 ∀(a:Int) (b:Node) (c:Int),R64 a/\CT.wf cNode b/\R64 c/\True->True->bits BinOp.and IntKind.i64 (IntKind.wrap .i64 (IntKind.wrap .i64 (b.2.2.2.2.2.2.2.2.1+a)+grown b.2.2.2.2.2.2.2.2.2.1 c)) (65535:Int)=idCount b a c/\b=b/\c=c:=by
  rintro x d a - -
  exact ⟨i64_and65535 _,rfl,rfl⟩
theorem ok_identifier_Next_1:SpecOK Tryz.prog GL 211 ct_identifier_Next_1.spec:=Ct.okH _ Tryz.func211 (by kernel_rfl) (withSpec_ok noSpecs_ok ok_identifier_Grown) hmix an_identifier_Next_1 (hideMp (by kernel_rfl) vc_identifier_Next_1)
def idNext (n:Node) (s:NState) (port a asked dst:Int):Int :=
  if nID n=1 then nBase n else if nID n=2 then idCount n (sSent s) a
  else if nID n=3 then (if port<0∨(sPortSent s).length<=port then idCount n 0 a else idCount n ((sPortSent s).getD port.toNat default) a)
  else if nID n=4 then asked else if nID n=5 then hash (nBase n) (0,dst,0,sSent s,0)%65536 else 0
def ct_identifier_Next:Ct:=⟨[.agg cNode,.agg cState,.val cI,.val cI,.val cI,.val cU32],[.val cI],fun _=>[],fun d=>((idNext d.1 d.2.1 d.2.2.1 d.2.2.2.1 d.2.2.2.2.1 d.2.2.2.2.2.1,()),())⟩
def an_identifier_Next:PDs ct_identifier_Next.ps->Anns:=(fun _=>{})
theorem vc_identifier_Next :
 ∀(a:Node) (b:List Route) (c:Int) (d:List Int) (e f g h i j k:Int),CT.wf cNode a/\((b.length<=maxLen/\ ∀(l:Route),l∈b->((0<=l.1.1/\l.1.1<=4294967295)/\R64 l.1.2)/\(l.2.1.length<=maxLen/\ ∀(m:Int),m∈l.2.1->R64 m)/\R64 l.2.2)/\R64 c/\(d.length<=maxLen/\ ∀(l:Int),l∈d->R64 l)/\(R64 e/\R64 f)/\R64 g)/\R64 h/\R64 i/\R64 j/\(0<=k/\k<=4294967295)/\True->True->ifP (decide (a.2.2.2.2.2.2.2.1=1)) (a.2.2.2.2.2.2.2.2.1=idNext a (b,c,d,(e,f),g) h i j k) (ifP (decide (a.2.2.2.2.2.2.2.1=2)) (idCount a c i=idNext a (b,c,d,(e,f),g) h i j k) (ifP (decide (a.2.2.2.2.2.2.2.1=3)) (∀(l:Bool),l=decide (h<0)->((! l)->((! l)->(! l))/\True)/\((! l)->((! l)->(! l))/\True)/\((! l)->((! l)->(! l))/\((! l)->(! l))/\True)/\(l=false->(! l))/\ifP (bif l then true else decide (d.length<=h)) (idCount a (0:Int) i=idNext a (b,c,d,(e,f),g) h i j k) (0<=h/\h< ↑d.length/\idCount a (d.getD h.toNat default) i=idNext a
 (b,c,d,(e,f),g) h i j k)) (ifP (decide (a.2.2.2.2.2.2.2.1=4)) (j=idNext a (b,c,d,(e,f),g) h i j k) (ifP (decide (a.2.2.2.2.2.2.2.1=5)) (IntKind.wrap .i64 (bits BinOp.and IntKind.u64 (hash a.2.2.2.2.2.2.2.2.1 ((0:Int),k,(0:Int),c,(0:Int))) (65535:Int))=idNext a (b,c,d,(e,f),g) h i j k) ((0:Int)=idNext a (b,c,d,(e,f),g) h i j k))))):=by
  rintro d r se ps t1 t2 ba port a asked dst - -
  unfold idNext nID nBase sSent sPortSent
  simp only
  refine ifP_split (fun h => ?_) (fun h => ?_)
  · rw [if_pos (of_decide_eq_true h)]
  have h1:=of_decide_eq_false h
  rw [if_neg h1]
  refine ifP_split (fun h => ?_) (fun h => ?_)
  · rw [if_pos (of_decide_eq_true h)]
  have h2:=of_decide_eq_false h
  rw [if_neg h2]
  refine ifP_split (fun h => ?_) (fun h => ?_)
  · rw [if_pos (of_decide_eq_true h)]
    (repeat (intro (b_:Bool) (hb_:b_=_);(repeat refine ⟨(by first|(simp;done)|(rw [hb_];simp;done)|(rw [hb_];simp;omega)|(rw [hb_];simp;intros;omega)|(rw [hb_];simp +contextual;done)),?_⟩);subst hb_))
    refine ifP_split (fun h => ?_) (fun h => ?_)
    · simp at h
      rw [if_pos h]
    · simp at h
      exact ⟨by omega,by omega,by rw [if_neg (by omega)]⟩
  have h3:=of_decide_eq_false h
  rw [if_neg h3]
  refine ifP_split (fun h => ?_) (fun h => ?_)
  · rw [if_pos (of_decide_eq_true h)]
  have h4:=of_decide_eq_false h
  rw [if_neg h4]
  refine ifP_split (fun h => ?_) (fun h => ?_)
  · rw [if_pos (of_decide_eq_true h)]
    have hr:=hash_range d.2.2.2.2.2.2.2.2.1 (0,dst,0,se,0)
    rw [u64_and65535 hr.1 hr.2,w64 (by omega) (by omega)]
  · rw [if_neg (of_decide_eq_false h)]
theorem ok_identifier_Next:SpecOK Tryz.prog GL 194 ct_identifier_Next.spec:=Ct.okH _ Tryz.func194 (by kernel_rfl) (withSpec_ok (withSpec_ok noSpecs_ok ok_identifier_Next_1) ok_balance_Hash) hmix an_identifier_Next (hideMp (by kernel_rfl) vc_identifier_Next)
end Go.RS

/- Wire: numbers in bytes, the Internet checksum. -/
namespace Go.RS
open Go.SX Go.Proofs
set_option maxRecDepth 100000
set_option linter.unusedVariables false
def beT (n:Int) (w k:Nat):List Int:=(List.range k).map fun j=>n/256^(w-1-j)%256
def putBad (n w:Int):Prop:=w<1∨7<w∨n<0∨256^w.toNat<=n
instance (n w:Int):Decidable (putBad n w):=by unfold putBad;infer_instance
def putB (b:List Int) (n w:Int):List Int:=if putBad n w then [] else b++beT n w.toNat w.toNat
def putE (n w:Int):Int:=if putBad n w then 1 else 0
def numB (l:List Int):Int:=l.foldl (fun n x=>n*256+x) 0
def getV (b:List Int) (at' w:Int):Int:=if w<1∨7<w∨at'<0∨b.length-w<at' then 0 else numB ((b.drop at'.toNat).take w.toNat)
def getE (b:List Int) (at' w:Int):Int:=if w<1∨7<w∨at'<0 then 1 else if b.length-w<at' then 3 else 0
def oc (n:Int):Int:=if n=0 then 0 else (n-1)%65535+1
def sumF:Bool->List Int->Int
  | _,[]=>0
  | hi,x::r=>(if hi then x*256 else x)+sumF (!hi) r
def word16 (n:Int):Bool:=decide (0<=n/\n<=65535)
theorem i64_or_nat (a b:Nat) (ha:a<9223372036854775808) (hb:b<9223372036854775808):bits .or .i64 (a:Int) (b:Int)=((a ||| b:Nat):Int):=by
  have h:a ||| b<2^63:=Nat.or_lt_two_pow (by omega) (by omega)
  have key:(BitVec.ofInt 64 (a:Int) ||| BitVec.ofInt 64 (b:Int)).toNat=a ||| b:=by
    rw [BitVec.toNat_or,BitVec.toNat_ofInt,BitVec.toNat_ofInt]
    have e1:((a:Int)%((2^64:Nat):Int)).toNat=a:=by omega
    have e2:((b:Int)%((2^64:Nat):Int)).toNat=b:=by omega
    rw [e1,e2]
  show IntKind.i64.wrap ((BitVec.ofInt 64 (a:Int) ||| BitVec.ofInt 64 (b:Int)).toNat:Nat)=_
  rw [key,w64 (by omega) (by omega)]
theorem shl8 {n:Int} (h0:0<=n) (h1:n<=36028797018963967):shlI .i64 n 8=n*256:=by
  show IntKind.i64.wrap (n*2^(min 8 64))=_
  rw [w64 (by simp;omega) (by simp;omega)];rfl
theorem or8 {n x:Int} (h0:0<=n) (h1:n<=36028797018963966) (h2:0<=x) (h3:x<=255):bits .or .i64 (shlI .i64 n 8) (IntKind.wrap .i64 x)=n*256+x:=by
  rw [shl8 h0 (by omega),w64 (n:=x) (by omega) (by omega)]
  obtain ⟨m,rfl⟩:=Int.eq_ofNat_of_zero_le h0
  obtain ⟨y,rfl⟩:=Int.eq_ofNat_of_zero_le h2
  have:=i64_or_nat (m*256) y (by omega) (by omega)
  rw [nat_join 8 (m*256) y (by omega) (by omega)] at this
  push_cast at this
  exact this
theorem shr_pow {n:Int} {k:Nat} (h0:0<=n) (hk:k<8):shrI .i64 n (8*k)=n/256^k:=by
  unfold shrI
  have hm:min ((8*(k:Int))).toNat IntKind.i64.bits=8*k:=by simp only [IntKind.bits];omega
  rw [hm,Int.fdiv_eq_ediv_of_nonneg _ (Int.le_of_lt (Int.pow_pos (by decide))),Int.pow_mul]
  rfl
theorem shl_pow {w:Int} (h0:1<=w) (h1:w<=7):shlI .i64 1 (IntKind.wrap .i64 (8*w))=256^w.toNat:=by
  have:w=1∨w=2∨w=3∨w=4∨w=5∨w=6∨w=7:=by omega
  rcases this with rfl|rfl|rfl|rfl|rfl|rfl|rfl <;> decide
theorem beT_succ (n:Int) (w k:Nat):beT n w (k+1)=beT n w k++[n/256^(w-1-k)%256]:=by
  unfold beT;rw [List.range_succ,List.map_append];rfl
theorem beT_len (n:Int) (w k:Nat):(beT n w k).length=k:=by unfold beT;simp
theorem numB_snoc (l:List Int) (x:Int):numB (l++[x])=numB l*256+x:=by unfold numB;rw [List.foldl_append];rfl
theorem numB_bound:∀ (k:Nat) (l:List Int),l.length<=k->(∀ x∈l,0<=x/\x<=255)->0<=numB l/\numB l<256^k:=by
  intro k
  induction k with
  | zero =>
    intro l hl _
    have:l=[]:=List.eq_nil_of_length_eq_zero (by omega)
    subst this;exact ⟨by decide,by decide⟩
  | succ k ih =>
    intro l hl hx
    rcases List.eq_nil_or_concat l with rfl|⟨m,x,rfl⟩
    · exact ⟨by decide,Int.pow_pos (by decide)⟩
    · rw [List.concat_eq_append] at hl hx ⊢
      have h1:=ih m (by simp at hl;omega) (fun y hy=>hx y (List.mem_append_left _ hy))
      have h2:=hx x (by simp)
      rw [numB_snoc,Int.pow_succ]
      generalize (256:Int)^k=P at h1 ⊢
      omega
theorem numB_small {l:List Int} (hl:l.length<=6) (hx:∀ x∈l,0<=x/\x<=255):0<=numB l/\numB l<=281474976710655:=by
  have:=numB_bound 6 l hl hx
  have e:(256:Int)^6=281474976710656:=by decide
  omega
theorem oc_step {n:Int} (h:65535<n):oc (n/65536+n%65536)=oc n:=by
  unfold oc
  rw [if_neg (by omega),if_neg (by omega)];omega
theorem oc_small {n:Int} (h0:0<=n) (h1:n<=65535):oc n=n:=by
  unfold oc;split
  · omega
  · omega
theorem oc_range {n:Int} (h0:0<=n):0<=oc n/\oc n<=65535:=by unfold oc;split <;> omega
theorem oc_add {m x:Int} (h0:0<=m) (h1:0<=x):oc (oc m+x)=oc (m+x):=by
  unfold oc
  by_cases h:m=0
  · simp [h]
  · rw [if_neg h,if_neg (by omega),if_neg (by omega)];omega
theorem sumF_append (hi:Bool) (a b:List Int):sumF hi (a++b)=sumF hi a+sumF (if a.length%2=0 then hi else !hi) b:=by
  induction a generalizing hi with
  | nil=>simp [sumF]
  | cons x a ih =>
    rw [List.cons_append,sumF,sumF,ih,Int.add_assoc]
    congr 3
    rw [List.length_cons]
    by_cases h:a.length%2=0
    · rw [if_pos h,if_neg (by omega)]
    · rw [if_neg h,if_pos (by omega)];simp
theorem sumF_range (hi:Bool) (l:List Int) (hx:∀ x∈l,0<=x/\x<=255):0<=sumF hi l/\sumF hi l<=65280*l.length:=by
  induction l generalizing hi with
  | nil=>simp [sumF]
  | cons x l ih =>
    have h1:=ih (!hi) (fun y hy=>hx y (List.mem_cons_of_mem _ hy))
    have h2:=hx x List.mem_cons_self
    rw [sumF,List.length_cons]
    cases hi
    · simp at h1 ⊢;omega
    · simp at h1 ⊢;omega
theorem take_snoc {l:List Int} {j:Int} (h0:0<=j) (h1:j<l.length):l.take (j+1).toNat=l.take j.toNat++[l.getD j.toNat default]:=by
  have hj:j.toNat<l.length:=by omega
  rw [show (j+1).toNat=j.toNat+1 from by omega,List.take_succ_eq_append_getElem hj,List.getD_eq_getElem?_getD,List.getElem?_eq_getElem hj,Option.getD_some]
def ct_slices_Clone_b979:Ct:=⟨[.val (.sl cU8)],[.own 5 cU8],fun d=>[(d.1.length:Int)<=1099511627776],fun d=>((d.1,()),())⟩
def an_slices_Clone_b979:PDs ct_slices_Clone_b979.ps->Anns:=(fun _=>{})
def Qbe1 (a:List Int) :=
 (a.length:Int)
def Qbe8 (a:List Int) :=
 a.length<=maxLen/\ ∀(b:Int),b∈a->0<=b/\b<=255
theorem vc_slices_Clone_b979 :
 ∀(a:List Int),(Qbe8 a)/\True->(Qbe1 a)<=1099511627776-> ∀(b:Bool),(b=true->a.length=(0:Nat))->ifP b (([]:List Int)=a) (((0:Nat)+a.length)*(1:Nat)<=(140737488355328:Nat)/\a=a):=by
  delta Qbe1 Qbe8
  rintro x ⟨⟨hl,-⟩,-⟩ h b hb
  refine ifP_split (fun h1 => ?_) (fun h1=>⟨by omega,rfl⟩)
  have:=hb h1
  exact (List.eq_nil_of_length_eq_zero this).symm
theorem ok_slices_Clone_b979:SpecOK Tryz.prog GL 130 ct_slices_Clone_b979.spec:=Ct.okH _ Tryz.func130 (by kernel_rfl) noSpecs_ok hmix an_slices_Clone_b979 (hideMp (by kernel_rfl) vc_slices_Clone_b979)
def ct_wire_Put:Ct:=⟨[.val (.sl cU8),.val cI,.val cI],[.own 5 cU8,.val cI],fun d=>[(d.1.length:Int)<=1099511627776],fun d=>((putB d.1 d.2.1 d.2.2.1,putE d.2.1 d.2.2.1,()),())⟩
def an_wire_Put:PDs ct_wire_Put.ps->Anns:=(fun d=>{loops:=(fun n=>match n with|5=>some (fun S=>{ι:=Int×(List Int),qn:=⟨fun k_=>∀ (k:Int) (ys:(List Int)),k_ (k,ys),fun k_ h_ i=>h_ i.1 i.2,fun k_=>∃ (k:Int) (ys:(List Int)),k_ (k,ys),fun k_ ⟨k,ys,h_⟩=>⟨_,h_⟩⟩,μ:=fun i=>(d.2.2.1-i.1).toNat,inv:=fun i=>0<=i.1/\i.1<=d.2.2.1/\i.2=d.1++beT d.2.1 d.2.2.1.toNat i.1.toNat,keep:=[1,2],slots:=fun i=>[(8,.own 524288 1),(9,.int .i64 (8*(d.2.2.1-1-i.1)))],names:=fun i=>[(524288,.live (.row 5 cU8 i.2))]})|_=>none)})
def Qbe4 (a:List Int) :=
 a.length<=maxLen/\ ∀(d:Int),d∈a->0<=d/\d<=255
def Qbe7 (f:Bool) :=
 (! f)->((! f)->(! f))/\((! f)->(! f))/\True
theorem vc_wire_Put :
 ∀(a:List Int) (b c:Int),(Qbe4 a)/\R64 b/\R64 c/\True->(Qbe1 a)<=1099511627776-> ∀(d:Bool),d=decide (c<1)->((! d)->((! d)->(! d))/\True)/\(d=false->(! d))/\ ∀(e:Bool),(e=bif d then true else decide (7<c))->((! e)->((! e)->(! e))/\True)/\(e=false->(! e))/\ ∀(f:Bool),(f=bif e then true else decide (b<0))->((! f)->((! f)->(! f))/\True)/\((! f)->((! f)->(! f))/\0<=IntKind.wrap .i64 ((8:Int)*c)/\True)/\(Qbe7 f)/\(f=false->(! f))/\ifP (bif f then true else decide (shlI IntKind.i64 (1:Int) (IntKind.wrap .i64 ((8:Int)*c))<=b)) (([]:List Int)=putB a b c/\(1:Int)=putE b c) ((Qbe1 a)<=1099511627776/\(∃(g:Int) (h:List Int),(0<=g/\g<=c/\h=a++beT b c.toNat g.toNat)/\b=b/\c=c/\IntKind.wrap .i64 ((8:Int)*IntKind.wrap .i64 (c -(1:Int)))=8*(c -(1:Int) -g)/\a=h/\True)/\ ∀(g:Int) (h:List Int),0<=g/\g<=c/\h=a++beT b c.toNat g.toNat->ifP (decide ((0:Int)<=8*(c -(1:Int) -g))) ((0:Int)<=8*(c -(1:Int)
 -g)/\(h.length+List.length [IntKind.wrap .u8 (shrI IntKind.i64 b ((8:Int)*(c -(1:Int) -g)))])*(1:Nat)<=(140737488355328:Nat)/\ ∃(i:Int) (j:List Int),(0<=i/\i<=c/\j=a++beT b c.toNat i.toNat)/\Int.toNat (c -i)<Int.toNat (c -g)/\b=b/\c=c/\IntKind.wrap .i64 ((8:Int)*(c -(1:Int) -g) -(8:Int))=8*(c -(1:Int) -i)/\h++[IntKind.wrap .u8 (shrI IntKind.i64 b ((8:Int)*(c -(1:Int) -g)))]=j/\True) (h=putB a b c/\(0:Int)=putE b c)):=by
  delta Qbe1 Qbe4 Qbe7
  rintro b n w ⟨-,⟨n0,n1⟩,⟨w0,w1⟩,-⟩ hl
  rintro b1 rfl
  refine ⟨by simp,by simp,?_⟩
  rintro b1 rfl
  refine ⟨by simp,by simp,?_⟩
  rintro b1 rfl
  have hpre:(!(bif (bif decide (w<1) then true else decide (7<w)) then true else decide (n<0)))=true->1<=w/\w<=7/\0<=n:=by
    simp [Bool.cond_eq_ite];omega
  refine ⟨by simp,fun h=>⟨fun _=>h,by have:=hpre h;rw [w64 (by omega) (by omega)];omega,trivial⟩,fun h=>⟨fun _=>h,fun _=>h,trivial⟩,by simp,?_⟩
  refine ifP_split (fun hc => ?_) (fun hc => ?_)
  · have hbad:putBad n w:=by
      unfold putBad
      by_cases h:1<=w/\w<=7
      · rw [shl_pow h.1 h.2] at hc
        simp [Bool.cond_eq_ite] at hc;omega
      · omega
    rw [putB,putE,if_pos hbad,if_pos hbad];exact ⟨rfl,rfl⟩
  · have hw:1<=w/\w<=7/\0<=n:=hpre (by
      cases h:(bif (bif decide (w<1) then true else decide (7<w)) then true else decide (n<0)) with
      | false=>rfl
      | true=>rw [h] at hc;simp at hc)
    obtain ⟨h1,h7,hn⟩:=hw
    rw [shl_pow h1 h7] at hc
    have hgood:¬ putBad n w:=by
      unfold putBad
      simp [Bool.cond_eq_ite] at hc;omega
    rw [putB,putE,if_neg hgood,if_neg hgood]
    refine ⟨hl,⟨0,b,⟨by omega,by omega,by simp [beT]⟩,rfl,rfl,by rw [w64 (n:=w-1) (by omega) (by omega),w64 (by omega) (by omega)];omega,rfl,trivial⟩,?_⟩
    rintro k ys ⟨k0,k1,rfl⟩
    refine ifP_split (fun hk => ?_) (fun hk => ?_)
    · have hk:=of_decide_eq_true hk
      obtain ⟨j,hj⟩:=Int.eq_ofNat_of_zero_le (show 0<=w-1-k by omega)
      rw [hj,shr_pow hn (by omega),IntKind.wrap_u8']
      have hbl:=beT_len n w.toNat k.toNat
      refine ⟨by omega,by simp only [List.length_append,List.length_singleton,hbl];omega,k+1,_,⟨by omega,by omega,rfl⟩,by omega,rfl,rfl,by rw [w64 (by omega) (by omega)];omega,?_,trivial⟩
      rw [show (k+1).toNat=k.toNat+1 from by omega,beT_succ,List.append_assoc,show w.toNat-1-k.toNat=j from by omega]
    · have hk:=of_decide_eq_false hk
      rw [show k=w from by omega];exact ⟨rfl,rfl⟩
theorem ok_wire_Put:SpecOK Tryz.prog GL 132 ct_wire_Put.spec:=Ct.okH _ Tryz.func132 (by kernel_rfl) (withSpec_ok noSpecs_ok ok_slices_Clone_b979) hmix an_wire_Put (hideMp (by kernel_rfl) vc_wire_Put)
def ct_wire_Get:Ct:=⟨[.val (.sl cU8),.val cI,.val cI],[.val cI,.val cI],fun d=>[(d.1.length:Int)<=1099511627776],fun d=>((getV d.1 d.2.1 d.2.2.1,getE d.1 d.2.1 d.2.2.1,()),())⟩
def an_wire_Get:PDs ct_wire_Get.ps->Anns:=(fun d=>{loops:=(fun n=>match n with|7=>some (fun S=>{ι:=Int×Int,qn:=⟨fun k_=>∀ (j:Int) (n:Int),k_ (j,n),fun k_ h_ i=>h_ i.1 i.2,fun k_=>∃ (j:Int) (n:Int),k_ (j,n),fun k_ ⟨j,n,h_⟩=>⟨_,h_⟩⟩,μ:=fun i=>(d.2.2.1-i.1).toNat,inv:=fun i=>0<=i.1/\i.1<=d.2.2.1/\i.2=numB (((d.1.drop d.2.1.toNat).take d.2.2.1.toNat).take i.1.toNat),keep:=[34,35],slots:=fun i=>[(8,.int .i64 i.2),(36,.int .i64 i.1)],names:=fun i=>[]})|_=>none)})
def Qbe5 (b c:Int) :=
 Int.toNat (IntKind.wrap .i64 (b+c))
def Qbe0 (a:List Int) (b c:Int) :=
 ((List.length (subL a b.toNat (Qbe5 b c))):Int)
def Qbe6 (a:List Int) (b c:Int) :=
 List.take c.toNat (List.drop b.toNat a)
theorem vc_wire_Get :
 ∀(a:List Int) (b c:Int),(Qbe4 a)/\R64 b/\R64 c/\True->(Qbe1 a)<=1099511627776-> ∀(d:Bool),d=decide (c<1)->((! d)->((! d)->(! d))/\True)/\(d=false->(! d))/\ ∀(e:Bool),(e=bif d then true else decide (7<c))->((! e)->((! e)->(! e))/\True)/\(e=false->(! e))/\ifP (bif e then true else decide (b<0)) ((0:Int)=getV a b c/\(1:Int)=getE a b c) (ifP (decide (IntKind.wrap .i64 ((Qbe1 a) -c)<b)) ((0:Int)=getV a b c/\(3:Int)=getE a b c) (0<=b/\b<=IntKind.wrap .i64 (b+c)/\IntKind.wrap .i64 (b+c)<=(Qbe1 a)/\(∃(f:Int) (g:Int),(0<=f/\f<=c/\g=numB (List.take f.toNat (Qbe6 a b c)))/\(0:Int)=g/\subL a b.toNat (Qbe5 b c)=subL a b.toNat (Qbe5 b c)/\(Qbe0 a b c)=(Qbe0 a b c)/\(0:Int)=f/\True)/\ ∀(f g:Int),0<=f/\f<=c/\g=numB (List.take f.toNat (Qbe6 a b c))->ifP (decide (f<(Qbe0 a b c))) (0<=f/\f<(Qbe0 a b c)/\(0:Int)<=8/\ ∃(h:Int) (i:Int),(0<=h/\h<=c/\i=numB (List.take h.toNat (Qbe6 a b c)))/\Int.toNat (c
 -h)<Int.toNat (c -f)/\bits BinOp.or IntKind.i64 (shlI IntKind.i64 g (8:Int)) (IntKind.wrap .i64 (List.getD (subL a b.toNat (Qbe5 b c)) f.toNat default))=i/\subL a b.toNat (Qbe5 b c)=subL a b.toNat (Qbe5 b c)/\(Qbe0 a b c)=(Qbe0 a b c)/\IntKind.wrap .i64 (f+(1:Int))=h/\True) (g=getV a b c/\(0:Int)=getE a b c))):=by
  delta Qbe0 Qbe1 Qbe4 Qbe5 Qbe6
  rintro b a w ⟨⟨hl0,hx⟩,⟨a0,a1⟩,⟨w0,w1⟩,-⟩ hl
  (repeat (intro (b_:Bool) (hb_:b_=_);(repeat refine ⟨(by first|(simp;done)|(rw [hb_];simp;done)|(rw [hb_];simp;omega)|(rw [hb_];simp;intros;omega)|(rw [hb_];simp +contextual;done)),?_⟩);subst hb_))
  unfold getV getE
  refine ifP_split (fun hc => ?_) (fun hc => ?_)
  · have h:w<1∨7<w∨a<0:=by simp [Bool.cond_eq_ite] at hc;omega
    rw [if_pos (by omega),if_pos h];exact ⟨rfl,rfl⟩
  have h:¬ (w<1∨7<w∨a<0):=by simp [Bool.cond_eq_ite] at hc;omega
  rw [w64 (n:=(b.length:Int)-w) (by omega) (by omega),if_neg h]
  refine ifP_split (fun hd => ?_) (fun hd => ?_)
  · have hd:=of_decide_eq_true hd
    rw [if_pos (by omega),if_pos hd];exact ⟨rfl,rfl⟩
  have hd:=of_decide_eq_false hd
  rw [if_neg (by omega),if_neg hd,w64 (n:=a+w) (by omega) (by omega)]
  have hsub:subL b a.toNat (a+w).toNat=(b.drop a.toNat).take w.toNat:=by
    unfold subL;rw [List.drop_take,show (a+w).toNat-a.toNat=w.toNat from by omega]
  rw [hsub]
  have hlen:((b.drop a.toNat).take w.toNat).length=w.toNat:=by rw [List.length_take,List.length_drop];omega
  have hy:∀ y∈(b.drop a.toNat).take w.toNat,0<=y/\y<=255:=fun y hy=>hx y (List.mem_of_mem_drop (List.mem_of_mem_take hy))
  generalize (b.drop a.toNat).take w.toNat=m at *
  rw [hlen]
  refine ⟨by omega,by omega,by omega,⟨0,0,⟨by omega,by omega,by simp [numB]⟩,(by repeat' first|exact trivial|refine ⟨trivial,?_⟩|refine ⟨(by with_reducible rfl),?_⟩|refine ⟨w64 (by omega) (by omega),?_⟩|refine ⟨rfl,?_⟩)⟩,?_⟩
  rintro j n ⟨j0,j1,rfl⟩
  refine ifP_split (fun hj => ?_) (fun hj => ?_)
  · have hj:=of_decide_eq_true hj
    have ht:=take_snoc (l:=m) j0 (by omega)
    obtain ⟨x0,x1⟩:=hy _ (getD_mem (xs:=m) j0 (by omega))
    have hb:=numB_small (l:=m.take j.toNat) (by rw [List.length_take];omega) (fun y h=>hy y (List.mem_of_mem_take h))
    refine ⟨j0,hj,by omega,j+1,_,⟨by omega,by omega,rfl⟩,by omega,?_,rfl,rfl,w64 (by omega) (by omega),trivial⟩
    rw [ht,numB_snoc,or8 hb.1 (by omega) x0 x1]
  · have hj:=of_decide_eq_false hj
    rw [List.take_of_length_le (by omega)];exact ⟨rfl,rfl⟩
theorem ok_wire_Get:SpecOK Tryz.prog GL 135 ct_wire_Get.spec:=Ct.okH _ Tryz.func135 (by kernel_rfl) noSpecs_ok hmix an_wire_Get (hideMp (by kernel_rfl) vc_wire_Get)
def ct_wire_fold:Ct:=⟨[.val cI],[.val cI],fun d=>[0<=d.1],fun d=>((oc d.1,()),())⟩
def an_wire_fold:PDs ct_wire_fold.ps->Anns:=(fun d=>{loops:=(fun n=>match n with|1=>some (fun S=>{ι:=Int,μ:=fun i=>i.toNat,inv:=fun i=>0<=i/\i<=9223372036854775807/\oc i=oc d.1,keep:=[],slots:=fun i=>[(0,.int .i64 i)],names:=fun i=>[]})|_=>none)})
theorem vc_wire_fold :
 ∀(a:Int),R64 a/\True->0<=a->(∃(b:Int),(0<=b/\b<=9223372036854775807/\oc b=oc a)/\a=b/\True)/\ ∀(b:Int),0<=b/\b<=9223372036854775807/\oc b=oc a->ifP (decide (65535<b)) ((0:Int)<=16/\ ∃(c:Int),(0<=c/\c<=9223372036854775807/\oc c=oc a)/\c.toNat<b.toNat/\IntKind.wrap .i64 (shrI IntKind.i64 b (16:Int)+bits BinOp.and IntKind.i64 b (65535:Int))=c/\True) (b=oc a):=by
  rintro n ⟨⟨n0,n1⟩,-⟩ h
  refine ⟨⟨n,⟨h,n1,rfl⟩,rfl,trivial⟩,?_⟩
  rintro m ⟨m0,m1,m2⟩
  refine ifP_split (fun hm => ?_) (fun hm => ?_)
  · have hm:=of_decide_eq_true hm
    have e:=shr_pow (n:=m) (k:=2) m0 (by omega)
    have e2:(8:Int)*((2:Nat):Int)=16:=rfl
    rw [e2] at e
    rw [e,i64_and65535,w64 (by omega) (by omega)]
    have e3:(256:Int)^2=65536:=rfl
    rw [e3]
    exact ⟨by omega,_,⟨by omega,by omega,by rw [oc_step hm,m2]⟩,by omega,rfl,trivial⟩
  · have hm:=of_decide_eq_false hm
    rw [← m2,oc_small m0 (by omega)]
theorem ok_wire_fold:SpecOK Tryz.prog GL 204 ct_wire_fold.spec:=Ct.okH _ Tryz.func204 (by kernel_rfl) noSpecs_ok hmix an_wire_fold (hideMp (by kernel_rfl) vc_wire_fold)
theorem bit1 {j:Int} (h0:0<=j) (h1:j<=9223372036854775807):bits .and .i64 j 1=j%2:=by
  obtain ⟨m,rfl⟩:=Int.eq_ofNat_of_zero_le h0
  have key:(BitVec.ofInt 64 (m:Int) &&& BitVec.ofInt 64 1).toNat=m%2:=by
    rw [BitVec.toNat_and,BitVec.toNat_ofInt,show (BitVec.ofInt 64 1).toNat=1 from by decide]
    have e1:((m:Int)%((2^64:Nat):Int)).toNat=m:=by omega
    rw [e1,nat_mask1]
  show IntKind.i64.wrap ((BitVec.ofInt 64 (m:Int) &&& BitVec.ofInt 64 1).toNat:Nat)=_
  rw [key,w64 (by omega) (by omega)];omega
theorem shl0 {n:Int} (h0:0<=n) (h1:n<=36028797018963967):shlI .i64 n (IntKind.wrap .i64 (8*IntKind.wrap .i64 (1-1)))=n:=by
  show IntKind.i64.wrap (n*2^(min 0 64))=_
  rw [w64 (by simp;omega) (by simp;omega)];simp
def ct_wire_Sum:Ct:=⟨[.val (.sl cU8)],[.val cI],fun d=>[(d.1.length:Int)<=1099511627776],fun d=>((oc (sumF true d.1),()),())⟩
def an_wire_Sum:PDs ct_wire_Sum.ps->Anns:=(fun d=>{loops:=(fun n=>match n with|3=>some (fun S=>{ι:=Int×Int,qn:=⟨fun k_=>∀ (j:Int) (n:Int),k_ (j,n),fun k_ h_ i=>h_ i.1 i.2,fun k_=>∃ (j:Int) (n:Int),k_ (j,n),fun k_ ⟨j,n,h_⟩=>⟨_,h_⟩⟩,μ:=fun i=>(d.1.length-i.1).toNat,inv:=fun i=>0<=i.1/\i.1<=d.1.length/\i.2=sumF true (d.1.take i.1.toNat)/\0<=i.2/\i.2<=65280*i.1,keep:=[0,6,7],slots:=fun i=>[(3,.int .i64 i.2),(8,.int .i64 i.1)],names:=fun i=>[]})|_=>none)})
theorem vc_wire_Sum :
 ∀(a:List Int),(Qbe8 a)/\True->(Qbe1 a)<=1099511627776->(∃(b:Int) (c:Int),(0<=b/\b<=(Qbe1 a)/\c=sumF true (List.take b.toNat a)/\0<=c/\c<=65280*b)/\a=a/\(0:Int)=c/\a=a/\(Qbe1 a)=(Qbe1 a)/\(0:Int)=b/\True)/\ ∀(b c:Int),0<=b/\b<=(Qbe1 a)/\c=sumF true (List.take b.toNat a)/\0<=c/\c<=65280*b->ifP (decide (b<(Qbe1 a))) (0<=b/\b<(Qbe1 a)/\0<=IntKind.wrap .i64 ((8:Int)*IntKind.wrap .i64 ((1:Int) -bits BinOp.and IntKind.i64 b (1:Int)))/\ ∃(d:Int) (e:Int),(0<=d/\d<=(Qbe1 a)/\e=sumF true (List.take d.toNat a)/\0<=e/\e<=65280*d)/\Int.toNat ((Qbe1 a) -d)<Int.toNat ((Qbe1 a) -b)/\a=a/\IntKind.wrap .i64 (c+shlI IntKind.i64 (IntKind.wrap .i64 (a.getD b.toNat default)) (IntKind.wrap .i64 ((8:Int)*IntKind.wrap .i64 ((1:Int) -bits BinOp.and IntKind.i64 b (1:Int)))))=e/\a=a/\(Qbe1 a)=(Qbe1 a)/\IntKind.wrap .i64 (b+(1:Int))=d/\True) (0<=c/\oc c=oc (sumF true a)):=by
  delta Qbe1 Qbe8
  rintro l ⟨⟨-,hx⟩,-⟩ hl
  refine ⟨⟨0,0,⟨by omega,by omega,by simp [sumF],by omega,by omega⟩,(by repeat' first|exact trivial|refine ⟨trivial,?_⟩|refine ⟨(by with_reducible rfl),?_⟩|refine ⟨w64 (by omega) (by omega),?_⟩|refine ⟨rfl,?_⟩)⟩,?_⟩
  rintro j n ⟨j0,j1,rfl,n0,n1⟩
  refine ifP_split (fun hj => ?_) (fun hj => ?_)
  · have hj:=of_decide_eq_true hj
    obtain ⟨x0,x1⟩:=hx _ (getD_mem j0 hj)
    have ht:=take_snoc j0 hj
    have hs:=sumF_append true (l.take j.toNat) [l.getD j.toNat default]
    rw [← ht] at hs
    generalize l.getD j.toNat default=x at *
    have hb:=bit1 j0 (by omega)
    rw [hb]
    have hlen:(l.take j.toNat).length=j.toNat:=by rw [List.length_take];omega
    rw [hlen] at hs
    have hv:0<=IntKind.wrap .i64 (8*IntKind.wrap .i64 (1-j%2))/\shlI .i64 (IntKind.wrap .i64 x) (IntKind.wrap .i64 (8*IntKind.wrap .i64 (1-j%2)))=(if j%2=0 then x*256 else x):=by
      rw [w64 (n:=x) (by omega) (by omega)]
      by_cases he:j%2=0
      · rw [he,if_pos rfl];exact ⟨by decide,shl8 x0 (by omega)⟩
      · rw [show j%2=1 from by omega,if_neg (by decide)]
        exact ⟨by decide,shl0 x0 (by omega)⟩
    rw [hv.2]
    refine ⟨j0,hj,hv.1,j+1,sumF true (l.take (j+1).toNat),⟨by omega,by omega,rfl,?_,?_⟩,by omega,rfl,?_,rfl,rfl,w64 (by omega) (by omega),trivial⟩
    all_goals rw [hs]
    all_goals by_cases he:j%2=0
    all_goals first
      | rw [if_pos (show j.toNat%2=0 by omega)]
      | rw [if_neg (show ¬ j.toNat%2=0 by omega)]
    all_goals simp only [sumF,he,if_true,if_false,Bool.not_true,Bool.false_eq_true]
    all_goals try omega
    all_goals rw [w64 (by omega) (by omega)]
    all_goals omega
  · have hj:=of_decide_eq_false hj
    rw [List.take_of_length_le (by omega)] at n0 ⊢
    exact ⟨n0,rfl⟩
theorem ok_wire_Sum:SpecOK Tryz.prog GL 173 ct_wire_Sum.spec:=Ct.okH _ Tryz.func173 (by kernel_rfl) (withSpec_ok noSpecs_ok ok_wire_fold) hmix an_wire_Sum (hideMp (by kernel_rfl) vc_wire_Sum)
def ct_wire_Checksum:Ct:=⟨[.val (.sl cU8)],[.val cI],fun d=>[(d.1.length:Int)<=1099511627776],fun d=>((65535-oc (sumF true d.1),()),())⟩
def an_wire_Checksum:PDs ct_wire_Checksum.ps->Anns:=(fun _=>{})
def Qbe2 (a:List Int) :=
 (Qbe8 a)/\True->(Qbe1 a)<=1099511627776->(Qbe1 a)<=1099511627776/\IntKind.wrap .i64 ((65535:Int) -oc (sumF true a))=65535 -oc (sumF true a)
theorem vc_wire_Checksum :
 ∀(a:List Int),(Qbe2 a):=by
  delta Qbe1 Qbe2 Qbe8
  rintro l ⟨⟨-,hx⟩,-⟩ hl
  have:=oc_range (sumF_range true l hx).1
  exact ⟨hl,w64 (by omega) (by omega)⟩
theorem ok_wire_Checksum:SpecOK Tryz.prog GL 133 ct_wire_Checksum.spec:=Ct.okH _ Tryz.func133 (by kernel_rfl) (withSpec_ok noSpecs_ok ok_wire_Sum) hmix an_wire_Checksum (hideMp (by kernel_rfl) vc_wire_Checksum)
def ct_ref04_Put:Ct:=⟨[.val (.sl cU8),.val cI,.val cI],[.own 5 cU8,.val cI],fun d=>[(d.1.length:Int)<=1099511627776],fun d=>((putB d.1 d.2.1 d.2.2.1,putE d.2.1 d.2.2.1,()),())⟩
def an_ref04_Put:PDs ct_ref04_Put.ps->Anns:=(fun d=>{loops:=(fun n=>match n with|5=>some (fun S=>{ι:=Int×(List Int),qn:=⟨fun k_=>∀ (k:Int) (ys:(List Int)),k_ (k,ys),fun k_ h_ i=>h_ i.1 i.2,fun k_=>∃ (k:Int) (ys:(List Int)),k_ (k,ys),fun k_ ⟨k,ys,h_⟩=>⟨_,h_⟩⟩,μ:=fun i=>(d.2.2.1-i.1).toNat,inv:=fun i=>0<=i.1/\i.1<=d.2.2.1/\i.2=d.1++beT d.2.1 d.2.2.1.toNat i.1.toNat,keep:=[1,2],slots:=fun i=>[(8,.own 524288 1),(9,.int .i64 (d.2.2.1-1-i.1))],names:=fun i=>[(524288,.live (.row 5 cU8 i.2))]})|_=>none)})
theorem vc_ref04_Put :
 ∀(a:List Int) (b c:Int),(Qbe4 a)/\R64 b/\R64 c/\True->(Qbe1 a)<=1099511627776-> ∀(d:Bool),d=decide (c<1)->((! d)->((! d)->(! d))/\True)/\(d=false->(! d))/\ ∀(e:Bool),(e=bif d then true else decide (7<c))->((! e)->((! e)->(! e))/\True)/\(e=false->(! e))/\ ∀(f:Bool),(f=bif e then true else decide (b<0))->((! f)->((! f)->(! f))/\True)/\((! f)->((! f)->(! f))/\0<=IntKind.wrap .i64 ((8:Int)*c)/\True)/\(Qbe7 f)/\(f=false->(! f))/\ifP (bif f then true else decide (shlI IntKind.i64 (1:Int) (IntKind.wrap .i64 ((8:Int)*c))<=b)) (([]:List Int)=putB a b c/\(1:Int)=putE b c) (a.length*(1:Nat)<=(140737488355328:Nat)/\(∃(g:Int) (h:List Int),(0<=g/\g<=c/\h=a++beT b c.toNat g.toNat)/\b=b/\c=c/\IntKind.wrap .i64 (c -(1:Int))=c -(1:Int) -g/\a=h/\True)/\ ∀(g:Int) (h:List Int),0<=g/\g<=c/\h=a++beT b c.toNat g.toNat->ifP (decide (0<=c -(1:Int) -g)) (0<=IntKind.wrap .i64 ((8:Int)*(c -(1:Int)
 -g))/\(h.length+List.length [IntKind.wrap .u8 (shrI IntKind.i64 b (IntKind.wrap .i64 ((8:Int)*(c -(1:Int) -g))))])*(1:Nat)<=(140737488355328:Nat)/\ ∃(i:Int) (j:List Int),(0<=i/\i<=c/\j=a++beT b c.toNat i.toNat)/\Int.toNat (c -i)<Int.toNat (c -g)/\b=b/\c=c/\IntKind.wrap .i64 (c -(1:Int) -g -(1:Int))=c -(1:Int) -i/\h++[IntKind.wrap .u8 (shrI IntKind.i64 b (IntKind.wrap .i64 ((8:Int)*(c -(1:Int) -g))))]=j/\True) (h=putB a b c/\(0:Int)=putE b c)):=by
  delta Qbe1 Qbe4 Qbe7
  rintro b n w ⟨-,⟨n0,n1⟩,⟨w0,w1⟩,-⟩ hl
  rintro b1 rfl
  refine ⟨by simp,by simp,?_⟩
  rintro b1 rfl
  refine ⟨by simp,by simp,?_⟩
  rintro b1 rfl
  have hpre:(!(bif (bif decide (w<1) then true else decide (7<w)) then true else decide (n<0)))=true->1<=w/\w<=7/\0<=n:=by
    simp [Bool.cond_eq_ite];omega
  refine ⟨by simp,fun h=>⟨fun _=>h,by have:=hpre h;rw [w64 (by omega) (by omega)];omega,trivial⟩,fun h=>⟨fun _=>h,fun _=>h,trivial⟩,by simp,?_⟩
  refine ifP_split (fun hc => ?_) (fun hc => ?_)
  · have hbad:putBad n w:=by
      unfold putBad
      by_cases h:1<=w/\w<=7
      · rw [shl_pow h.1 h.2] at hc
        simp [Bool.cond_eq_ite] at hc;omega
      · omega
    rw [putB,putE,if_pos hbad,if_pos hbad];exact ⟨rfl,rfl⟩
  · have hw:1<=w/\w<=7/\0<=n:=hpre (by
      cases h:(bif (bif decide (w<1) then true else decide (7<w)) then true else decide (n<0)) with
      | false=>rfl
      | true=>rw [h] at hc;simp at hc)
    obtain ⟨h1,h7,hn⟩:=hw
    rw [shl_pow h1 h7] at hc
    have hgood:¬ putBad n w:=by
      unfold putBad
      simp [Bool.cond_eq_ite] at hc;omega
    rw [putB,putE,if_neg hgood,if_neg hgood]
    refine ⟨by omega,⟨0,b,⟨by omega,by omega,by simp [beT]⟩,rfl,rfl,by rw [w64 (by omega) (by omega)];omega,rfl,trivial⟩,?_⟩
    rintro k ys ⟨k0,k1,rfl⟩
    refine ifP_split (fun hk => ?_) (fun hk => ?_)
    · have hk:=of_decide_eq_true hk
      rw [w64 (n:=8*(w-1-k)) (by omega) (by omega)]
      obtain ⟨j,hj⟩:=Int.eq_ofNat_of_zero_le (show 0<=w-1-k by omega)
      rw [hj,shr_pow hn (by omega),IntKind.wrap_u8']
      have hbl:=beT_len n w.toNat k.toNat
      refine ⟨by omega,by simp only [List.length_append,List.length_singleton,hbl];omega,k+1,_,⟨by omega,by omega,rfl⟩,by omega,rfl,rfl,by rw [w64 (by omega) (by omega)];omega,?_,trivial⟩
      rw [show (k+1).toNat=k.toNat+1 from by omega,beT_succ,List.append_assoc,show w.toNat-1-k.toNat=j from by omega]
    · have hk:=of_decide_eq_false hk
      rw [show k=w from by omega];exact ⟨rfl,rfl⟩
theorem ok_ref04_Put:SpecOK Tryz.prog GL 169 ct_ref04_Put.spec:=Ct.okH _ Tryz.func169 (by kernel_rfl) noSpecs_ok hmix an_ref04_Put (hideMp (by kernel_rfl) vc_ref04_Put)
def ct_ref04_Push:Ct:=⟨[.val (.sl cU8),.val cI,.val cI],[.own 5 cU8],fun d=>[(d.1.length:Int)<=1099511627776],fun d=>((putB d.1 d.2.1 d.2.2.1,()),())⟩
def an_ref04_Push:PDs ct_ref04_Push.ps->Anns:=(fun _=>{})
theorem vc_ref04_Push :
 ∀(a:List Int) (b c:Int),(Qbe4 a)/\R64 b/\R64 c/\True->(Qbe1 a)<=1099511627776->(Qbe1 a)<=1099511627776/\putB a b c=putB a b c:=by
  delta Qbe1 Qbe4
  intro b n w _ h
  exact ⟨h,rfl⟩
theorem ok_ref04_Push:SpecOK Tryz.prog GL 124 ct_ref04_Push.spec:=Ct.okH _ Tryz.func124 (by kernel_rfl) (withSpec_ok noSpecs_ok ok_ref04_Put) hmix an_ref04_Push (hideMp (by kernel_rfl) vc_ref04_Push)
def ct_ref04_Get:Ct:=⟨[.val (.sl cU8),.val cI,.val cI],[.val cI,.val cI],fun d=>[(d.1.length:Int)<=1099511627776],fun d=>((getV d.1 d.2.1 d.2.2.1,getE d.1 d.2.1 d.2.2.1,()),())⟩
def an_ref04_Get:PDs ct_ref04_Get.ps->Anns:=(fun d=>{loops:=(fun n=>match n with|7=>some (fun S=>{ι:=Int×Int,qn:=⟨fun k_=>∀ (j:Int) (n:Int),k_ (j,n),fun k_ h_ i=>h_ i.1 i.2,fun k_=>∃ (j:Int) (n:Int),k_ (j,n),fun k_ ⟨j,n,h_⟩=>⟨_,h_⟩⟩,μ:=fun i=>(d.2.2.1-i.1).toNat,inv:=fun i=>0<=i.1/\i.1<=d.2.2.1/\i.2=numB (((d.1.drop d.2.1.toNat).take d.2.2.1.toNat).take i.1.toNat),keep:=[0,1,2],slots:=fun i=>[(8,.int .i64 i.2),(9,.int .i64 i.1)],names:=fun i=>[]})|_=>none)})
theorem vc_ref04_Get :
 ∀(a:List Int) (b c:Int),(Qbe4 a)/\R64 b/\R64 c/\True->(Qbe1 a)<=1099511627776-> ∀(d:Bool),d=decide (c<1)->((! d)->((! d)->(! d))/\True)/\(d=false->(! d))/\ ∀(e:Bool),(e=bif d then true else decide (7<c))->((! e)->((! e)->(! e))/\True)/\(e=false->(! e))/\ifP (bif e then true else decide (b<0)) ((0:Int)=getV a b c/\(1:Int)=getE a b c) (∀(f:Bool),f=decide ((Qbe1 a)<b)->((! f)->((! f)->(! f))/\True)/\(Qbe7 f)/\(Qbe7 f)/\(f=false->(! f))/\ifP (bif f then true else decide (IntKind.wrap .i64 ((Qbe1 a) -b)<c)) ((0:Int)=getV a b c/\(3:Int)=getE a b c) ((∃(g:Int) (h:Int),(0<=g/\g<=c/\h=numB (List.take g.toNat (Qbe6 a b c)))/\a=a/\b=b/\c=c/\(0:Int)=h/\(0:Int)=g/\True)/\ ∀(g h:Int),0<=g/\g<=c/\h=numB (List.take g.toNat (Qbe6 a b c))->ifP (decide (g<c)) ((0:Int)<=8/\0<=IntKind.wrap .i64 (b+g)/\IntKind.wrap .i64 (b+g)<(Qbe1 a)/\ ∃(i:Int) (j:Int),(0<=i/\i<=c/\j=numB (List.take i.toNat (Qbe6 a b
 c)))/\Int.toNat (c -i)<Int.toNat (c -g)/\a=a/\b=b/\c=c/\bits BinOp.or IntKind.i64 (shlI IntKind.i64 h (8:Int)) (IntKind.wrap .i64 (a.getD (Int.toNat (IntKind.wrap .i64 (b+g))) default))=j/\IntKind.wrap .i64 (g+(1:Int))=i/\True) (h=getV a b c/\(0:Int)=getE a b c))):=by
  delta Qbe1 Qbe4 Qbe6 Qbe7
  rintro b a w ⟨⟨hl0,hx⟩,⟨a0,a1⟩,⟨w0,w1⟩,-⟩ hl
  rintro b1 rfl
  refine ⟨by simp,by simp,?_⟩
  rintro b1 rfl
  refine ⟨by simp,by simp,?_⟩
  unfold getV getE
  refine ifP_split (fun hc => ?_) (fun hc => ?_)
  · have h:w<1∨7<w∨a<0:=by simp [Bool.cond_eq_ite] at hc;omega
    rw [if_pos (by omega),if_pos h];exact ⟨rfl,rfl⟩
  have h:¬ (w<1∨7<w∨a<0):=by simp [Bool.cond_eq_ite] at hc;omega
  rintro b1 rfl
  refine ⟨by simp,by simp,by simp,by simp,?_⟩
  rw [w64 (n:=(b.length:Int)-a) (by omega) (by omega),if_neg h]
  refine ifP_split (fun hd => ?_) (fun hd => ?_)
  · have hd:b.length<a∨b.length-a<w:=by simp [Bool.cond_eq_ite] at hd;omega
    rw [if_pos (by omega),if_pos (by omega)];exact ⟨rfl,rfl⟩
  have hd:¬ (b.length<a∨b.length-a<w):=by simp [Bool.cond_eq_ite] at hd;omega
  rw [if_neg (by omega),if_neg (by omega)]
  have hlen:((b.drop a.toNat).take w.toNat).length=w.toNat:=by rw [List.length_take,List.length_drop];omega
  have hy:∀ y∈(b.drop a.toNat).take w.toNat,0<=y/\y<=255:=fun y hy=>hx y (List.mem_of_mem_drop (List.mem_of_mem_take hy))
  have hget:∀ j:Int,0<=j->j<w->b.getD (a+j).toNat default=((b.drop a.toNat).take w.toNat).getD j.toNat default:=by
    intro j j0 j1
    rw [List.getD_eq_getElem?_getD,List.getD_eq_getElem?_getD,List.getElem?_take,if_pos (by omega),List.getElem?_drop]
    congr 2;omega
  generalize (b.drop a.toNat).take w.toNat=m at *
  refine ⟨⟨0,0,⟨by omega,by omega,by simp [numB]⟩,(by repeat' first|exact trivial|refine ⟨trivial,?_⟩|refine ⟨(by with_reducible rfl),?_⟩|refine ⟨w64 (by omega) (by omega),?_⟩|refine ⟨rfl,?_⟩)⟩,?_⟩
  rintro j n ⟨j0,j1,rfl⟩
  refine ifP_split (fun hj => ?_) (fun hj => ?_)
  · have hj:=of_decide_eq_true hj
    have ht:=take_snoc (l:=m) j0 (by omega)
    obtain ⟨x0,x1⟩:=hy _ (getD_mem (xs:=m) j0 (by omega))
    have hb:=numB_small (l:=m.take j.toNat) (by rw [List.length_take];omega) (fun y h=>hy y (List.mem_of_mem_take h))
    rw [w64 (n:=a+j) (by omega) (by omega),hget j j0 hj]
    refine ⟨by omega,by omega,by omega,j+1,_,⟨by omega,by omega,rfl⟩,by omega,rfl,rfl,rfl,?_,w64 (by omega) (by omega),trivial⟩
    rw [ht,numB_snoc,or8 hb.1 (by omega) x0 x1]
  · have hj:=of_decide_eq_false hj
    rw [List.take_of_length_le (by omega)];exact ⟨rfl,rfl⟩
theorem ok_ref04_Get:SpecOK Tryz.prog GL 121 ct_ref04_Get.spec:=Ct.okH _ Tryz.func121 (by kernel_rfl) noSpecs_ok hmix an_ref04_Get (hideMp (by kernel_rfl) vc_ref04_Get)
def ct_ref04_At:Ct:=⟨[.val (.sl cU8),.val cI,.val cI],[.val cI],fun d=>[(d.1.length:Int)<=1099511627776],fun d=>((getV d.1 d.2.1 d.2.2.1,()),())⟩
def an_ref04_At:PDs ct_ref04_At.ps->Anns:=(fun _=>{})
theorem vc_ref04_At :
 ∀(a:List Int) (b c:Int),(Qbe4 a)/\R64 b/\R64 c/\True->(Qbe1 a)<=1099511627776->(Qbe1 a)<=1099511627776/\getV a b c=getV a b c:=by
  delta Qbe1 Qbe4
  intro b n w _ h
  exact ⟨h,rfl⟩
theorem ok_ref04_At:SpecOK Tryz.prog GL 75 ct_ref04_At.spec:=Ct.okH _ Tryz.func75 (by kernel_rfl) (withSpec_ok noSpecs_ok ok_ref04_Get) hmix an_ref04_At (hideMp (by kernel_rfl) vc_ref04_At)
def ct_ref04_word:Ct:=⟨[.val cI],[.val .bool],fun d=>[],fun d=>((word16 d.1,()),())⟩
def an_ref04_word:PDs ct_ref04_word.ps->Anns:=(fun _=>{})
theorem vc_ref04_word :
 ∀(a:Int),R64 a/\True->True-> ∀(b:Bool),b=decide (0<=a)->(b->(b->b)/\True)/\(b->b)/\(bif b then decide (a<=65535) else false)=word16 a:=by
  rintro n - -
  (repeat (intro (b_:Bool) (hb_:b_=_);(repeat refine ⟨(by first|(simp;done)|(rw [hb_];simp;done)|(rw [hb_];simp;omega)|(rw [hb_];simp;intros;omega)|(rw [hb_];simp +contextual;done)),?_⟩);subst hb_))
  unfold word16
  by_cases h:0<=n <;> simp [h]
theorem ok_ref04_word:SpecOK Tryz.prog GL 203 ct_ref04_word.spec:=Ct.okH _ Tryz.func203 (by kernel_rfl) noSpecs_ok hmix an_ref04_word (hideMp (by kernel_rfl) vc_ref04_word)
def ct_ref04_Add:Ct:=⟨[.val cI,.val cI],[.val cI],fun d=>[],fun d=>((if word16 d.1&&word16 d.2.1 then oc (d.1+d.2.1) else 0,()),())⟩
def an_ref04_Add:PDs ct_ref04_Add.ps->Anns:=(fun _=>{})
theorem vc_ref04_Add :
 ∀(a b:Int),R64 a/\R64 b/\True->True-> ∀(c:Bool),c= ! word16 a->((! c)->((! c)->(! c))/\True)/\((! c)->((! c)->(! c))/\True)/\(c=false->(! c))/\ifP (bif c then true else ! word16 b) ((0:Int)=if (word16 a&&word16 b)=true then oc (a+b) else (0:Int)) ((0:Int)<=16/\IntKind.wrap .i64 (bits BinOp.and IntKind.i64 (IntKind.wrap .i64 (a+b)) (65535:Int)+shrI IntKind.i64 (IntKind.wrap .i64 (a+b)) (16:Int))=if (word16 a&&word16 b)=true then oc (a+b) else (0:Int)):=by
  rintro a b - -
  (repeat (intro (b_:Bool) (hb_:b_=_);(repeat refine ⟨(by first|(simp;done)|(rw [hb_];simp;done)|(rw [hb_];simp;omega)|(rw [hb_];simp;intros;omega)|(rw [hb_];simp +contextual;done)),?_⟩);subst hb_))
  refine ifP_split (fun hc => ?_) (fun hc => ?_)
  · rw [if_neg]
    intro h;simp at h;simp [h] at hc
  · have hw:word16 a=true/\word16 b=true:=by simpa [Bool.cond_eq_ite] using hc
    rw [if_pos (by simp [hw])]
    have ha:0<=a/\a<=65535:=of_decide_eq_true hw.1
    have hb:0<=b/\b<=65535:=of_decide_eq_true hw.2
    rw [w64 (n:=a+b) (by omega) (by omega)]
    have e:=shr_pow (n:=a+b) (k:=2) (by omega) (by omega)
    have e2:(8:Int)*((2:Nat):Int)=16:=rfl
    have e3:(256:Int)^2=65536:=rfl
    rw [e2,e3] at e
    rw [e,i64_and65535,w64 (by omega) (by omega)]
    refine ⟨by omega,?_⟩
    unfold oc;split <;> omega
theorem ok_ref04_Add:SpecOK Tryz.prog GL 170 ct_ref04_Add.spec:=Ct.okH _ Tryz.func170 (by kernel_rfl) (withSpec_ok noSpecs_ok ok_ref04_word) hmix an_ref04_Add (hideMp (by kernel_rfl) vc_ref04_Add)
def ct_ref04_Sum:Ct:=⟨[.val (.sl cU8)],[.val cI],fun d=>[(d.1.length:Int)<=1099511627776],fun d=>((oc (sumF true d.1),()),())⟩
def an_ref04_Sum:PDs ct_ref04_Sum.ps->Anns:=(fun d=>{loops:=(fun n=>match n with|3=>some (fun S=>{ι:=Int×Int,qn:=⟨fun k_=>∀ (k:Int) (s:Int),k_ (k,s),fun k_ h_ i=>h_ i.1 i.2,fun k_=>∃ (k:Int) (s:Int),k_ (k,s),fun k_ ⟨k,s,h_⟩=>⟨_,h_⟩⟩,μ:=fun i=>(d.1.length+1-2*i.1).toNat,inv:=fun i=>0<=i.1/\2*i.1<=d.1.length+1/\i.2=oc (sumF true (d.1.take (2*i.1).toNat))/\0<=i.2/\i.2<=65535,keep:=[0],slots:=fun i=>[(3,.int .i64 i.2),(4,.int .i64 (2*i.1))],names:=fun i=>[]})|_=>none)})
def Qbe3 (a:List Int) (b:Int) :=
 shlI IntKind.i64 (IntKind.wrap .i64 (a.getD (Int.toNat ((2:Int)*b)) default)) (8:Int)+IntKind.wrap .i64 (a.getD (Int.toNat (IntKind.wrap .i64 ((2:Int)*b+(1:Int)))) default)
def Qbe9 (a:List Int) (d e:Int) :=
 0<=d/\(2:Int)*d<=(Qbe1 a)+(1:Int)/\e=oc (sumF true (List.take (Int.toNat ((2:Int)*d)) a))/\0<=e/\e<=65535
theorem vc_ref04_Sum :
 ∀(a:List Int),(Qbe8 a)/\True->(Qbe1 a)<=1099511627776->(∃(b:Int) (c:Int),(0<=b/\(2:Int)*b<=(Qbe1 a)+(1:Int)/\c=oc (sumF true (List.take (Int.toNat ((2:Int)*b)) a))/\0<=c/\c<=65535)/\a=a/\(0:Int)=c/\(0:Int)=2*b/\True)/\ ∀(b c:Int),0<=b/\(2:Int)*b<=(Qbe1 a)+(1:Int)/\c=oc (sumF true (List.take (Int.toNat ((2:Int)*b)) a))/\0<=c/\c<=65535->ifP (decide ((2:Int)*b<(Qbe1 a))) ((0:Int)<=2*b/\(2:Int)*b<(Qbe1 a)/\(0:Int)<=8/\ifP (decide (IntKind.wrap .i64 ((2:Int)*b+(1:Int))<(Qbe1 a))) (0<=IntKind.wrap .i64 ((2:Int)*b+(1:Int))/\IntKind.wrap .i64 ((2:Int)*b+(1:Int))<(Qbe1 a)/\ ∃(d:Int) (e:Int),(Qbe9 a d e)/\Int.toNat ((Qbe1 a)+(1:Int) -(2:Int)*d)<Int.toNat ((Qbe1 a)+(1:Int) -(2:Int)*b)/\a=a/\(if (word16 c&&word16 (IntKind.wrap .i64 (Qbe3 a b)))=true then oc (c+IntKind.wrap .i64 (Qbe3 a b)) else (0:Int))=e/\IntKind.wrap .i64 ((2:Int)*b+(2:Int))=2*d/\True) (∃(d:Int) (e:Int),(Qbe9 a d e)/\Int.toNat
 ((Qbe1 a)+(1:Int) -(2:Int)*d)<Int.toNat ((Qbe1 a)+(1:Int) -(2:Int)*b)/\a=a/\(if (word16 c&&word16 (shlI IntKind.i64 (IntKind.wrap .i64 (a.getD (Int.toNat ((2:Int)*b)) default)) (8:Int)))=true then oc (c+shlI IntKind.i64 (IntKind.wrap .i64 (a.getD (Int.toNat ((2:Int)*b)) default)) (8:Int)) else (0:Int))=e/\IntKind.wrap .i64 ((2:Int)*b+(2:Int))=2*d/\True)) (c=oc (sumF true a)):=by
  delta Qbe1 Qbe3 Qbe8 Qbe9
  rintro l ⟨⟨-,hx⟩,-⟩ hl
  refine ⟨⟨0,0,⟨by omega,by omega,by simp [sumF,oc],by omega,by omega⟩,(by repeat' first|exact trivial|refine ⟨trivial,?_⟩|refine ⟨(by with_reducible rfl),?_⟩|refine ⟨w64 (by omega) (by omega),?_⟩|refine ⟨rfl,?_⟩)⟩,?_⟩
  rintro k s ⟨k0,k1,rfl,s0,s1⟩
  have hr:=sumF_range true (l.take (2*k).toNat) (fun y h=>hx y (List.mem_of_mem_take h))
  refine ifP_split (fun hk => ?_) (fun hk => ?_)
  · have hk:=of_decide_eq_true hk
    obtain ⟨x0,x1⟩:=hx _ (getD_mem (xs:=l) (i:=2*k) (by omega) hk)
    have ht:=take_snoc (l:=l) (j:=2*k) (by omega) hk
    have hlen:(l.take (2*k).toNat).length%2=0:=by rw [List.length_take];omega
    have hs:=sumF_append true (l.take (2*k).toNat)
    rw [if_pos hlen] at hs
    rw [w64 (n:=2*k+1) (by omega) (by omega),w64 (n:=l.getD (2*k).toNat default) (by omega) (by omega),shl8 x0 (by omega),w64 (n:=2*k+2) (by omega) (by omega)]
    refine ⟨by omega,hk,by omega,ifP_split (fun hc => ?_) (fun hc => ?_)⟩
    · have hc:=of_decide_eq_true hc
      obtain ⟨y0,y1⟩:=hx _ (getD_mem (xs:=l) (i:=2*k+1) (by omega) hc)
      have ht2:=take_snoc (l:=l) (j:=2*k+1) (by omega) hc
      rw [ht,List.append_assoc] at ht2
      rw [w64 (n:=l.getD (2*k+1).toNat default) (by omega) (by omega),w64 (n:=l.getD (2*k).toNat default*256+l.getD (2*k+1).toNat default) (by omega) (by omega)]
      rw [if_pos (by simp only [word16,Bool.and_eq_true,decide_eq_true_eq];omega),oc_add hr.1 (by omega)]
      have he:sumF true (l.take (2*(k+1)).toNat)=sumF true (l.take (2*k).toNat)+(l.getD (2*k).toNat default*256+l.getD (2*k+1).toNat default):=by
        rw [show 2*(k+1)=2*k+1+1 from by omega,ht2,hs]
        simp [sumF]
      refine ⟨by omega,hc,k+1,_,⟨by omega,by omega,rfl,?_,?_⟩,by omega,rfl,by rw [he],by omega,trivial⟩
      · rw [he];exact (oc_range (by omega)).1
      · rw [he];exact (oc_range (by omega)).2
    · have hc:=of_decide_eq_false hc
      rw [if_pos (by simp only [word16,Bool.and_eq_true,decide_eq_true_eq];omega),oc_add hr.1 (by omega)]
      have he:sumF true (l.take (2*(k+1)).toNat)=sumF true (l.take (2*k).toNat)+l.getD (2*k).toNat default*256:=by
        rw [show l.take (2*(k+1)).toNat=l.take (2*k+1).toNat from by rw [List.take_of_length_le (by omega),List.take_of_length_le (by omega)],ht,hs]
        simp [sumF]
      refine ⟨k+1,_,⟨by omega,by omega,rfl,?_,?_⟩,by omega,rfl,by rw [he],by omega,trivial⟩
      · rw [he];exact (oc_range (by omega)).1
      · rw [he];exact (oc_range (by omega)).2
  · have hk:=of_decide_eq_false hk
    rw [List.take_of_length_le (by omega)]
theorem ok_ref04_Sum:SpecOK Tryz.prog GL 200 ct_ref04_Sum.spec:=Ct.okH _ Tryz.func200 (by kernel_rfl) (withSpec_ok noSpecs_ok ok_ref04_Add) hmix an_ref04_Sum (hideMp (by kernel_rfl) vc_ref04_Sum)
def ct_ref04_Checksum:Ct:=⟨[.val (.sl cU8)],[.val cI],fun d=>[(d.1.length:Int)<=1099511627776],fun d=>((65535-oc (sumF true d.1),()),())⟩
def an_ref04_Checksum:PDs ct_ref04_Checksum.ps->Anns:=(fun _=>{})
theorem vc_ref04_Checksum :
 ∀(a:List Int),(Qbe2 a):=by
  delta Qbe1 Qbe2 Qbe8
  rintro l ⟨⟨-,hx⟩,-⟩ hl
  have:=oc_range (sumF_range true l hx).1
  exact ⟨hl,w64 (by omega) (by omega)⟩
theorem ok_ref04_Checksum:SpecOK Tryz.prog GL 162 ct_ref04_Checksum.spec:=Ct.okH _ Tryz.func162 (by kernel_rfl) (withSpec_ok noSpecs_ok ok_ref04_Sum) hmix an_ref04_Checksum (hideMp (by kernel_rfl) vc_ref04_Checksum)
def ct_ref04_Equal:Ct:=⟨[.val (.sl cU8),.val (.sl cU8)],[.val .bool],fun d=>[],fun d=>((decide (d.1=d.2.1),()),())⟩
def an_ref04_Equal:PDs ct_ref04_Equal.ps->Anns:=(fun d=>{loops:=(fun n=>match n with|4=>some (fun S=>{ι:=Int,μ:=fun i=>(d.1.length-i).toNat,inv:=fun i=>0<=i/\i<=d.1.length/\d.1.take i.toNat=d.2.1.take i.toNat,keep:=[0,1],slots:=fun i=>[(5,.int .i64 i)],names:=fun i=>[]})|_=>none)})
theorem vc_ref04_Equal :
 ∀(a b:List Int),(a.length<=maxLen/\ ∀(c:Int),c∈a->0<=c/\c<=255)/\(b.length<=maxLen/\ ∀(c:Int),c∈b->0<=c/\c<=255)/\True->True->ifP (! decide ((Qbe1 a)=(b.length:Int))) (false=decide (a=b)) ((∃(c:Int),(0<=c/\c<=(Qbe1 a)/\List.take c.toNat a=List.take c.toNat b)/\a=a/\b=b/\(0:Int)=c/\True)/\ ∀(c:Int),0<=c/\c<=(Qbe1 a)/\List.take c.toNat a=List.take c.toNat b->ifP (decide (c<(Qbe1 a))) (0<=c/\c<(Qbe1 a)/\0<=c/\c<(b.length:Int)/\ifP (! decide (a.getD c.toNat default=b.getD c.toNat default)) (false=decide (a=b)) (∃(d:Int),(0<=d/\d<=(Qbe1 a)/\List.take d.toNat a=List.take d.toNat b)/\Int.toNat ((Qbe1 a) -d)<Int.toNat ((Qbe1 a) -c)/\a=a/\b=b/\IntKind.wrap .i64 (c+(1:Int))=d/\True)) (true=decide (a=b))):=by
  delta Qbe1
  rintro l m ⟨⟨hl,-⟩,⟨hm,-⟩,-⟩ -
  simp only [maxLen] at hl hm
  refine ifP_split (fun hc => ?_) (fun hc => ?_)
  · symm;apply decide_eq_false
    intro h;cases h;simp at hc
  · have hc:l.length=m.length:=by simp at hc;omega
    refine ⟨⟨0,⟨by omega,by omega,by simp⟩,(by repeat' first|exact trivial|refine ⟨trivial,?_⟩|refine ⟨(by with_reducible rfl),?_⟩|refine ⟨w64 (by omega) (by omega),?_⟩|refine ⟨rfl,?_⟩)⟩,?_⟩
    rintro i ⟨h0,h1,h2⟩
    refine ifP_split (fun hi => ?_) (fun hi => ?_)
    · have hi:=of_decide_eq_true hi
      refine ⟨h0,hi,h0,by omega,ifP_split (fun hq => ?_) (fun hq => ?_)⟩
      · symm;apply decide_eq_false
        intro h;cases h;simp at hq
      · simp only [Bool.not_eq_false',decide_eq_true_eq] at hq
        refine ⟨i+1,⟨by omega,by omega,?_⟩,by omega,(by repeat' first|exact trivial|refine ⟨trivial,?_⟩|refine ⟨(by with_reducible rfl),?_⟩|refine ⟨w64 (by omega) (by omega),?_⟩|refine ⟨rfl,?_⟩)⟩
        rw [take_snoc h0 hi,take_snoc h0 (by omega),h2,hq]
    · have hi:=of_decide_eq_false hi
      rw [List.take_of_length_le (by omega),List.take_of_length_le (by omega)] at h2
      symm;apply decide_eq_true;rw [h2]
theorem ok_ref04_Equal:SpecOK Tryz.prog GL 26 ct_ref04_Equal.spec:=Ct.okH _ Tryz.func26 (by kernel_rfl) noSpecs_ok hmix an_ref04_Equal (hideMp (by kernel_rfl) vc_ref04_Equal)
end Go.RS
