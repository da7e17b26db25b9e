/- Trdec: decoding messages. -/
import Derived.Test.YtfgcoeablgoccaaGreatDoorTransp
import Derived.Laws.BitsAllLaws
namespace Go.RS
open Go.SX Go.Proofs
set_option maxRecDepth 100000
set_option linter.unusedVariables false
def echoForm (b:List Int):Prop:=(b.getD (Int.toNat 0) default=8∨b.getD (Int.toNat 0) default=0)/\b.getD (Int.toNat 1) default=0
instance (b:List Int):Decidable (echoForm b):=by unfold echoForm;infer_instance
def unEchoErr (b:List Int):Int:=if (b.length:Int)<8 then 3 else if ¬ echoForm b then 2 else if (1480:Int)<b.length then 5 else if csum (setW b (Int.toNat 2) 0)≠wordAt b (Int.toNat 2) then 4 else 0
def unEcho (b:List Int):Echo:=if unEchoErr b=0 then (decide (b.getD (Int.toNat 0) default=0),wordAt b (Int.toNat 4),wordAt b (Int.toNat 6),b.drop 8) else (false,0,0,[])
def noticeForm (b:List Int):Prop:=(b.getD (Int.toNat 0) default=3∨b.getD (Int.toNat 0) default=11)/\wordAt b (Int.toNat 4)=0/\wordAt b (Int.toNat 6)=0
instance (b:List Int):Decidable (noticeForm b):=by unfold noticeForm;infer_instance
def unNoticeErr (b:List Int):Int:=if (b.length:Int)<36 then 3 else if ¬ noticeForm b then 2 else if (1480:Int)<b.length then 5 else if csum (setW b (Int.toNat 2) 0)≠wordAt b (Int.toNat 2) then 4 else 0
def unNotice (b:List Int):Notice:=if unNoticeErr b=0 then (b.getD (Int.toNat 0) default,b.getD (Int.toNat 1) default,b.drop 8) else (0,0,[])
def unUDPErr (s d:Int) (b:List Int):Int:=if (b.length:Int)<8 then 3 else if ¬ wordAt b (Int.toNat 4)=b.length then 2 else if (1480:Int)<b.length then 5 else if sumU s d (setW b (Int.toNat 6) 0)≠wordAt b (Int.toNat 6) then 4 else 0
def unUDP (s d:Int) (b:List Int):Dgram:=if unUDPErr s d b=0 then (wordAt b (Int.toNat 0),wordAt b (Int.toNat 2),b.drop 8) else (0,0,[])
def tcpForm (b:List Int):Prop:=b.getD (Int.toNat 12) default=80/\wordAt b (Int.toNat 18)=0
instance (b:List Int):Decidable (tcpForm b):=by unfold tcpForm;infer_instance
def unTCPErr (s d:Int) (b:List Int):Int:=if (b.length:Int)<20 then 3 else if ¬ tcpForm b then 2 else if (1480:Int)<b.length then 5 else if pseudo s d 6 (setW b (Int.toNat 16) 0)≠wordAt b (Int.toNat 16) then 4 else 0
def unTCP (s d:Int) (b:List Int):Seg:=if unTCPErr s d b=0 then (wordAt b (Int.toNat 0),wordAt b (Int.toNat 2),wordAt b (Int.toNat 4)*65536+wordAt b (Int.toNat 6),wordAt b (Int.toNat 8)*65536+wordAt b (Int.toNat 10),b.getD (Int.toNat 13) default,wordAt b (Int.toNat 14),b.drop 20) else (0,0,0,0,0,0,[])
theorem unEcho_err {b:List Int} {e:Int} (h:unEchoErr b=e) (he:e≠0):(false,0,0,[])=unEcho b/\e=unEchoErr b:=by
  rw [unEcho,if_neg (by rw [h];exact he),h];exact ⟨rfl,rfl⟩
theorem unUDP_err {s d:Int} {b:List Int} {e:Int} (h:unUDPErr s d b=e) (he:e≠0):(0,0,[])=unUDP s d b/\e=unUDPErr s d b:=by
  rw [unUDP,if_neg (by rw [h];exact he),h];exact ⟨rfl,rfl⟩
theorem unTCP_err {s d:Int} {b:List Int} {e:Int} (h:unTCPErr s d b=e) (he:e≠0):(0,0,0,0,0,0,[])=unTCP s d b/\e=unTCPErr s d b:=by
  rw [unTCP,if_neg (by rw [h];exact he),h];exact ⟨rfl,rfl⟩
theorem sub_drop (b:List Int) (k:Nat):subL b k (Int.toNat (b.length:Int))=b.drop k:=by unfold subL;simp
theorem wordAt_range {b:List Int} {k:Nat} (h:bytes b):0<=wordAt b k/\wordAt b k<=65535:=by
  have:=numB_bound 2 ((b.drop k).take 2) (by rw [List.length_take];omega) (fun x hx=>h x (List.mem_of_mem_drop (List.mem_of_mem_take hx)))
  have e:(256:Int)^2=65536:=rfl
  unfold wordAt;omega
theorem setW_len (b:List Int) (i:Nat) (v:Int):(setW b i v).length=b.length:=by simp [setW]
theorem or16 {n x:Int} (h0:0<=n) (h1:n<=65535) (h2:0<=x) (h3:x<=65535):bits .or .i64 (shlI .i64 n 16) x=n*65536+x:=by
  have e:shlI .i64 n 16=n*65536:=by
    show IntKind.i64.wrap (n*2^(min 16 64))=_
    rw [w64 (by simp;omega) (by simp;omega)];rfl
  rw [e]
  obtain ⟨m,rfl⟩:=Int.eq_ofNat_of_zero_le h0
  obtain ⟨y,rfl⟩:=Int.eq_ofNat_of_zero_le h2
  have:=i64_or_nat (m*65536) y (by omega) (by omega)
  rw [nat_join 16 (m*65536) y (by omega) (by omega),show ((m*65536:Nat):Int)=(m:Int)*65536 from by omega,show ((m*65536+y:Nat):Int)=(m:Int)*65536+(y:Int) from by omega] at this
  exact this
def ct_transport_DecodeEcho:Ct:=⟨[.val (.sl cU8)],[.agg cEcho,.val cI],fun d=>[(d.1.length:Int)<=1000000],fun d=>((unEcho d.1,unEchoErr d.1,()),())⟩
def an_transport_DecodeEcho:PDs ct_transport_DecodeEcho.ps->Anns:=(fun _=>{})
def Qbg2 :=
 (false,(0:Int),(0:Int),([]:List Int))
def Qbg3 (a:List Int) :=
 (a.length:Int)
theorem vc_transport_DecodeEcho :
 ∀(a:List Int),(a.length<=maxLen/\ ∀(b:Int),b∈a->0<=b/\b<=255)/\True->(Qbg3 a)<=1000000->ifP (decide ((Qbg3 a)<8)) ((Qbg2)=unEcho a/\(3:Int)=unEchoErr a) ((0:Int)<=0/\0<(Qbg3 a)/\ ∀(b:Bool),b= ! decide (a.getD (Int.toNat (0:Int)) default=8)->(b->(b->b)/\(0:Int)<=0/\0<(Qbg3 a)/\True)/\(b->(b->b)/\True)/\(b->(b->b)/\True)/\(b->b)/\ ∀(c:Bool),(c=bif b then ! decide (a.getD (Int.toNat (0:Int)) default=0) else false)->((! c)->((! c)->(! c))/\(0:Int)<=1/\1<(Qbg3 a)/\True)/\((! c)->((! c)->(! c))/\True)/\((! c)->((! c)->(! c))/\True)/\(c=false->(! c))/\ifP (bif c then true else ! decide (a.getD (Int.toNat (1:Int)) default=0)) ((Qbg2)=unEcho a/\(2:Int)=unEchoErr a) (ifP (decide (1480<(Qbg3 a))) ((Qbg2)=unEcho a/\(5:Int)=unEchoErr a) ((0:Int)<=2/\(2:Int)+2<=(Qbg3 a)/\(Qbg3 a)<=1099511627776/\ ∀(d:List Int) (e:Int),d=setW a (Int.toNat (2:Int)) (0:Int)/\e=wordAt a (Int.toNat
 (2:Int))->(d.length:Int)<=1099511627776/\ ∀(f:Int),f=65535 -oc (sumF true d)->ifP (! decide (f=e)) ((Qbg2)=unEcho a/\(4:Int)=unEchoErr a) ((0:Int)<=0/\0<(Qbg3 a)/\(0:Int)<=4/\(4:Int)+2<=(Qbg3 a)/\(Qbg3 a)<=1099511627776/\(0:Int)<=6/\(6:Int)+2<=(Qbg3 a)/\(Qbg3 a)<=1099511627776/\(0:Int)<=8/\8<=(Qbg3 a)/\(Qbg3 a)<=(Qbg3 a)/\((List.length (subL a (Int.toNat (8:Int)) (Int.toNat (Qbg3 a)))):Int)<=1099511627776/\ ∀(g:List Int),g=subL a (Int.toNat (8:Int)) (Int.toNat (Qbg3 a))->(decide (a.getD (Int.toNat (0:Int)) default=0),wordAt a (Int.toNat (4:Int)),wordAt a (Int.toNat (6:Int)),g)=unEcho a/\(0:Int)=unEchoErr a)))):=by
  delta Qbg2 Qbg3
  rintro b ⟨⟨-,hb⟩,-⟩ hl
  refine ifP_split (fun h => ?_) (fun h8 => ?_)
  · exact unEcho_err (by rw [unEchoErr,if_pos (of_decide_eq_true h)]) (by decide)
  have h8:=of_decide_eq_false h8
  refine ⟨by omega,by omega,?_⟩
  (repeat (intro (b_:Bool) (hb_:b_=_);(repeat refine ⟨(by first|(simp;done)|(rw [hb_];simp;done)|(rw [hb_];simp;omega)|(rw [hb_];simp;intros;omega)|(rw [hb_];simp +contextual;done)),?_⟩);subst hb_))
  refine ifP_split (fun h => ?_) (fun hf => ?_)
  · refine unEcho_err (by rw [unEchoErr,if_neg h8,if_pos];rintro ⟨f0,f1⟩;rw [decide_eq_true f1] at h;rcases f0 with f0|f0 <;> rw [f0] at h <;> simp at h) (by decide)
  have hf:echoForm b:=by
    unfold echoForm
    by_cases k1:b.getD (Int.toNat 1) default=0
    · by_cases k2:b.getD (Int.toNat 0) default=8
      · exact ⟨.inl k2,k1⟩
      · by_cases k3:b.getD (Int.toNat 0) default=0
        · exact ⟨.inr k3,k1⟩
        · rw [decide_eq_false k2,decide_eq_false k3] at hf;simp at hf
    · rw [decide_eq_false k1] at hf;simp [Bool.cond_eq_ite] at hf
  refine ifP_split (fun h => ?_) (fun h5 => ?_)
  · exact unEcho_err (by rw [unEchoErr,if_neg h8,if_neg (fun k=>k hf),if_pos (of_decide_eq_true h)]) (by decide)
  have h5:=of_decide_eq_false h5
  refine ⟨by omega,by omega,by omega,?_⟩
  rintro x w ⟨rfl,rfl⟩
  refine ⟨by simp [setW];omega,?_⟩
  rintro c rfl
  refine ifP_split (fun h => ?_) (fun h => ?_)
  · refine unEcho_err (by rw [unEchoErr,if_neg h8,if_neg (fun k=>k hf),if_neg h5,if_pos];intro k;rw [csum] at k;rw [decide_eq_true k] at h;cases h) (by decide)
  have h0:unEchoErr b=0:=by
    rw [unEchoErr,if_neg h8,if_neg (fun k=>k hf),if_neg h5,if_neg]
    intro k;rw [csum] at k;rw [decide_eq_false k] at h;cases h
  refine ⟨by omega,by omega,by omega,by omega,by omega,by omega,by omega,by omega,by omega,by omega,by omega,by rw [sub_drop,List.length_drop];omega,?_⟩
  rintro y rfl
  rw [unEcho,if_pos h0,h0,sub_drop];exact ⟨rfl,rfl⟩
theorem ok_transport_DecodeEcho:SpecOK Tryz.prog GL 139 ct_transport_DecodeEcho.spec:=Ct.okH _ Tryz.func139 (by kernel_rfl) (withSpec_ok (withSpec_ok (withSpec_ok (withSpec_ok noSpecs_ok (Ct.named ok_transport_bare)) (Ct.named ok_wire_Checksum)) ok_transport_word) (Ct.named ok_slices_Clone_b979)) hmix an_transport_DecodeEcho (hideMp (by kernel_rfl) vc_transport_DecodeEcho)
theorem wordAt_get {b:List Int} {k:Nat} (h:k+2<=b.length):wordAt b k=b.getD k default*256+b.getD (k+1) default:=by
  have h0:k<b.length:=by omega
  have h1:k+1<b.length:=by omega
  have e:b.drop k=b[k]::b[k+1]::b.drop (k+1+1):=by rw [List.drop_eq_getElem_cons h0,List.drop_eq_getElem_cons h1]
  unfold wordAt
  rw [e,List.getD_eq_getElem?_getD,List.getD_eq_getElem?_getD,List.getElem?_eq_getElem h0,List.getElem?_eq_getElem h1]
  generalize b.drop (k+1+1)=r
  generalize b[k]=u
  generalize b[k+1]=v
  simp [numB]
theorem form_d (p r:Prop) [Decidable p] [Decidable r]:(bif !decide p then true else !decide r) = !decide (p/\r):=by
  by_cases p <;> by_cases r <;> simp [*]
def ct_transport_DecodeUDP:Ct:=⟨[.val cU32,.val cU32,.val (.sl cU8)],[.agg cDgram,.val cI],fun d=>[(d.2.2.1.length:Int)<=1000000],fun d=>((unUDP d.1 d.2.1 d.2.2.1,unUDPErr d.1 d.2.1 d.2.2.1,()),())⟩
def an_transport_DecodeUDP:PDs ct_transport_DecodeUDP.ps->Anns:=(fun _=>{})
def Qbg0 (c:List Int) :=
 (c.length:Int)
def Qbg4 :=
 ((0:Int),(0:Int),([]:List Int))
theorem vc_transport_DecodeUDP :
 ∀(a b:Int) (c:List Int),(0<=a/\a<=4294967295)/\(0<=b/\b<=4294967295)/\(c.length<=maxLen/\ ∀(d:Int),d∈c->0<=d/\d<=255)/\True->(Qbg0 c)<=1000000->ifP (decide ((Qbg0 c)<8)) ((Qbg4)=unUDP a b c/\(3:Int)=unUDPErr a b c) ((0:Int)<=4/\(4:Int)+2<=(Qbg0 c)/\(Qbg0 c)<=1099511627776/\ifP (! decide (wordAt c (Int.toNat (4:Int))=(Qbg0 c))) ((Qbg4)=unUDP a b c/\(2:Int)=unUDPErr a b c) (ifP (decide (1480<(Qbg0 c))) ((Qbg4)=unUDP a b c/\(5:Int)=unUDPErr a b c) ((0:Int)<=6/\(6:Int)+2<=(Qbg0 c)/\(Qbg0 c)<=1099511627776/\ ∀(d:List Int) (e:Int),d=setW c (Int.toNat (6:Int)) (0:Int)/\e=wordAt c (Int.toNat (6:Int))->(d.length:Int)<=1073741824/\ ∀(f:Int),f=sumU a b d->ifP (! decide (f=e)) ((Qbg4)=unUDP a b c/\(4:Int)=unUDPErr a b c) ((0:Int)<=0/\(0:Int)+2<=(Qbg0 c)/\(Qbg0 c)<=1099511627776/\(0:Int)<=2/\(2:Int)+2<=(Qbg0 c)/\(Qbg0 c)<=1099511627776/\(0:Int)<=8/\8<=(Qbg0 c)/\(Qbg0 c)<=(Qbg0 c)/\((List.length (subL
 c (Int.toNat (8:Int)) (Int.toNat (Qbg0 c)))):Int)<=1099511627776/\ ∀(g:List Int),g=subL c (Int.toNat (8:Int)) (Int.toNat (Qbg0 c))->(wordAt c (Int.toNat (0:Int)),wordAt c (Int.toNat (2:Int)),g)=unUDP a b c/\(0:Int)=unUDPErr a b c)))):=by
  delta Qbg0 Qbg4
  rintro s d b ⟨-,-,⟨-,hb⟩,-⟩ hl
  refine ifP_split (fun h => ?_) (fun h8 => ?_)
  · exact unUDP_err (by rw [unUDPErr,if_pos (of_decide_eq_true h)]) (by decide)
  have h8:=of_decide_eq_false h8
  repeat refine ⟨by omega,?_⟩
  refine ifP_split (fun h => ?_) (fun hf => ?_)
  · exact unUDP_err (by rw [unUDPErr,if_neg h8,if_pos];simpa using h) (by decide)
  have hf:wordAt b (Int.toNat 4)=b.length:=by simpa using hf
  refine ifP_split (fun h => ?_) (fun h5 => ?_)
  · exact unUDP_err (by rw [unUDPErr,if_neg h8,if_neg (fun k=>k hf),if_pos (of_decide_eq_true h)]) (by decide)
  have h5:=of_decide_eq_false h5
  repeat refine ⟨by omega,?_⟩
  rintro x w ⟨rfl,rfl⟩
  refine ⟨by rw [setW_len];omega,?_⟩
  rintro c rfl
  refine ifP_split (fun h => ?_) (fun h => ?_)
  · refine unUDP_err (by rw [unUDPErr,if_neg h8,if_neg (fun k=>k hf),if_neg h5,if_pos];intro k;rw [decide_eq_true k] at h;cases h) (by decide)
  have h0:unUDPErr s d b=0:=by
    rw [unUDPErr,if_neg h8,if_neg (fun k=>k hf),if_neg h5,if_neg]
    intro k;rw [decide_eq_false k] at h;cases h
  rw [sub_drop]
  repeat refine ⟨by omega,?_⟩
  refine ⟨by rw [List.length_drop];omega,?_⟩
  rintro y rfl
  rw [unUDP,if_pos h0,h0];exact ⟨rfl,rfl⟩
theorem ok_transport_DecodeUDP:SpecOK Tryz.prog GL 189 ct_transport_DecodeUDP.spec:=Ct.okH _ Tryz.func189 (by kernel_rfl) (withSpec_ok (withSpec_ok (withSpec_ok (withSpec_ok noSpecs_ok (Ct.named ok_transport_bare)) (Ct.named ok_transport_sumUDP)) ok_transport_word) (Ct.named ok_slices_Clone_b979)) hmix an_transport_DecodeUDP (hideMp (by kernel_rfl) vc_transport_DecodeUDP)
def ct_transport_DecodeTCP:Ct:=⟨[.val cU32,.val cU32,.val (.sl cU8)],[.agg cSeg,.val cI],fun d=>[(d.2.2.1.length:Int)<=1000000],fun d=>((unTCP d.1 d.2.1 d.2.2.1,unTCPErr d.1 d.2.1 d.2.2.1,()),())⟩
def an_transport_DecodeTCP:PDs ct_transport_DecodeTCP.ps->Anns:=(fun _=>{})
def Qbg1 :=
 ((0:Int),(0:Int),(0:Int),(0:Int),(0:Int),(0:Int),([]:List Int))
theorem vc_transport_DecodeTCP :
 ∀(a b:Int) (c:List Int),(0<=a/\a<=4294967295)/\(0<=b/\b<=4294967295)/\(c.length<=maxLen/\ ∀(d:Int),d∈c->0<=d/\d<=255)/\True->(Qbg0 c)<=1000000->ifP (decide ((Qbg0 c)<20)) ((Qbg1)=unTCP a b c/\(3:Int)=unTCPErr a b c) ((0:Int)<=12/\12<(Qbg0 c)/\ ∀(d:Bool),d= ! decide (c.getD (Int.toNat (12:Int)) default=80)->((! d)->((! d)->(! d))/\(0:Int)<=18/\(18:Int)+2<=(Qbg0 c)/\(Qbg0 c)<=1099511627776/\True)/\((! d)->((! d)->(! d))/\True)/\(d=false->(! d))/\ifP (bif d then true else ! decide (wordAt c (Int.toNat (18:Int))=0)) ((Qbg1)=unTCP a b c/\(2:Int)=unTCPErr a b c) (ifP (decide (1480<(Qbg0 c))) ((Qbg1)=unTCP a b c/\(5:Int)=unTCPErr a b c) ((0:Int)<=16/\(16:Int)+2<=(Qbg0 c)/\(Qbg0 c)<=1099511627776/\ ∀(e:List Int) (f:Int),e=setW c (Int.toNat (16:Int)) (0:Int)/\f=wordAt c (Int.toNat (16:Int))->(e.length:Int)<=1073741824/\ ∀(g:Int),g=pseudo a b (6:Int) e->ifP (! decide (g=f)) ((Qbg1)=unTCP a b
 c/\(4:Int)=unTCPErr a b c) ((0:Int)<=0/\(0:Int)+2<=(Qbg0 c)/\(Qbg0 c)<=1099511627776/\(0:Int)<=2/\(2:Int)+2<=(Qbg0 c)/\(Qbg0 c)<=1099511627776/\(0:Int)<=4/\(4:Int)+2<=(Qbg0 c)/\(Qbg0 c)<=1099511627776/\(0:Int)<=16/\(0:Int)<=6/\(6:Int)+2<=(Qbg0 c)/\(Qbg0 c)<=1099511627776/\(0:Int)<=8/\(8:Int)+2<=(Qbg0 c)/\(Qbg0 c)<=1099511627776/\(0:Int)<=16/\(0:Int)<=10/\(10:Int)+2<=(Qbg0 c)/\(Qbg0 c)<=1099511627776/\(0:Int)<=13/\13<(Qbg0 c)/\(0:Int)<=14/\(14:Int)+2<=(Qbg0 c)/\(Qbg0 c)<=1099511627776/\(0:Int)<=20/\20<=(Qbg0 c)/\(Qbg0 c)<=(Qbg0 c)/\((List.length (subL c (Int.toNat (20:Int)) (Int.toNat (Qbg0 c)))):Int)<=1099511627776/\ ∀(h:List Int),h=subL c (Int.toNat (20:Int)) (Int.toNat (Qbg0 c))->(wordAt c (Int.toNat (0:Int)),wordAt c (Int.toNat (2:Int)),bits BinOp.or IntKind.i64 (shlI IntKind.i64 (wordAt c (Int.toNat (4:Int))) (16:Int)) (wordAt c (Int.toNat (6:Int))),bits BinOp.or IntKind.i64 (shlI
 IntKind.i64 (wordAt c (Int.toNat (8:Int))) (16:Int)) (wordAt c (Int.toNat (10:Int))),IntKind.wrap .i64 (c.getD (Int.toNat (13:Int)) default),wordAt c (Int.toNat (14:Int)),h)=unTCP a b c/\(0:Int)=unTCPErr a b c)))):=by
  delta Qbg0 Qbg1
  rintro s d b ⟨-,-,⟨-,hb⟩,-⟩ hl
  refine ifP_split (fun h => ?_) (fun h8 => ?_)
  · exact unTCP_err (by rw [unTCPErr,if_pos (of_decide_eq_true h)]) (by decide)
  have h8:=of_decide_eq_false h8
  refine ⟨by omega,by omega,?_⟩
  (repeat (intro (b_:Bool) (hb_:b_=_);(repeat refine ⟨(by first|(simp;done)|(rw [hb_];simp;done)|(rw [hb_];simp;omega)|(rw [hb_];simp;intros;omega)|(rw [hb_];simp +contextual;done)),?_⟩);subst hb_))
  rw [show (bif !decide (b.getD (Int.toNat 12) default=80) then true else !decide (wordAt b (Int.toNat 18)=0)) = !decide (tcpForm b) from (form_d _ _).trans (congrArg (fun x => !x) (decide_eq_decide.2 Iff.rfl))]
  refine ifP_split (fun h => ?_) (fun hf => ?_)
  · exact unTCP_err (by rw [unTCPErr,if_neg h8,if_pos];simpa using h) (by decide)
  have hf:tcpForm b:=by simpa using hf
  refine ifP_split (fun h => ?_) (fun h5 => ?_)
  · exact unTCP_err (by rw [unTCPErr,if_neg h8,if_neg (fun k=>k hf),if_pos (of_decide_eq_true h)]) (by decide)
  have h5:=of_decide_eq_false h5
  repeat refine ⟨by omega,?_⟩
  rintro x w ⟨rfl,rfl⟩
  refine ⟨by rw [setW_len];omega,?_⟩
  rintro c rfl
  refine ifP_split (fun h => ?_) (fun h => ?_)
  · exact unTCP_err (by rw [unTCPErr,if_neg h8,if_neg (fun k=>k hf),if_neg h5,if_pos];intro k;rw [decide_eq_true k] at h;cases h) (by decide)
  have h0:unTCPErr s d b=0:=by
    rw [unTCPErr,if_neg h8,if_neg (fun k=>k hf),if_neg h5,if_neg]
    intro k;rw [decide_eq_false k] at h;cases h
  rw [sub_drop]
  repeat refine ⟨by omega,?_⟩
  refine ⟨by rw [List.length_drop];omega,?_⟩
  rintro y rfl
  have g:=hb _ (getD_mem (xs:=b) (i:=13) (by omega) (by omega))
  have v4:=wordAt_range (k:=Int.toNat 4) hb
  have v6:=wordAt_range (k:=Int.toNat 6) hb
  have v8:=wordAt_range (k:=Int.toNat 8) hb
  have v10:=wordAt_range (k:=Int.toNat 10) hb
  rw [unTCP,if_pos h0,h0,w64 (by omega) (by omega),or16 v4.1 v4.2 v6.1 v6.2,or16 v8.1 v8.2 v10.1 v10.2];exact ⟨rfl,rfl⟩
theorem ok_transport_DecodeTCP:SpecOK Tryz.prog GL 143 ct_transport_DecodeTCP.spec:=Ct.okH _ Tryz.func143 (by kernel_rfl) (withSpec_ok (withSpec_ok (withSpec_ok (withSpec_ok noSpecs_ok (Ct.named ok_transport_bare)) (Ct.named ok_transport_Pseudo)) ok_transport_word) (Ct.named ok_slices_Clone_b979)) hmix an_transport_DecodeTCP (hideMp (by kernel_rfl) vc_transport_DecodeTCP)
end Go.RS

/- Trback: messages are decoded from their encodings; what damage does. -/
namespace Go.RS
open Go.SX Go.Proofs
set_option maxRecDepth 100000
set_option linter.unusedVariables false
def okEcho (data:List Int) (e:Echo):Prop:=(word16 e.2.1=true/\word16 e.2.2.1=true)/\e.2.2.2=data
def okDgram (data:List Int) (u:Dgram):Prop:=(word16 u.1=true/\word16 u.2.1=true)/\u.2.2=data
def okSeg (data:List Int) (s:Seg):Prop:=tcpOK s/\s.2.2.2.2.2.2=data
theorem echo_good {data:List Int} {e:Echo} (h:okEcho data e) (hl:(data.length:Int)<=1472):echoErr e=0:=by
  rw [echoErr,if_neg (fun k=>k h.1),if_neg (by rw [h.2];omega)]
theorem udp_good {data:List Int} {u:Dgram} (h:okDgram data u) (hl:(data.length:Int)<=1472):udpErr u=0:=by
  rw [udpErr,if_neg (fun k=>k h.1),if_neg (by rw [h.2];omega)]
theorem tcp_good {data:List Int} {s:Seg} (h:okSeg data s) (hl:(data.length:Int)<=1460):tcpErr s=0:=by
  rw [tcpErr,if_neg (fun k=>k h.1),if_neg (by rw [h.2];omega)]
def headP (s d p n:Int):List Int:=w4 s++(w4 d++(w2 p++w2 n))
theorem pseudo_sum (s d p:Int) (X:List Int):sumF true (pseudoB s d p X)=sumF true (headP s d p X.length)+sumF true X:=by
  have e:pseudoB s d p X=headP s d p X.length++X:=by simp [pseudoB,headP]
  have hl:(headP s d p X.length).length=12:=by simp [headP,w4,w2]
  rw [e,sumF_append,hl];rfl
theorem head_sum (s d p n:Int):sumF true (headP s d p n)=sumF true (w4 s)+sumF true (w4 d)+sumF true (w2 p)+sumF true (w2 n):=by
  have h4:∀ n r,sumF true (w4 n++r)=sumF true (w4 n)+sumF true r:=fun n r=>by rw [sumF_append,show (w4 n).length=4 from rfl];rfl
  have h2:∀ n r,sumF true (w2 n++r)=sumF true (w2 n)+sumF true r:=fun n r=>by rw [sumF_append,show (w2 n).length=2 from rfl];rfl
  rw [headP,h4,h4,h2]
  omega
theorem enc_len (e:Echo):((echoEnc e).length:Int)<=1480:=by
  unfold echoEnc
  split
  · rename_i h
    rw [setW_len,echo_len]
    unfold echoErr at h
    split at h
    · cases h
    · split at h
      · cases h
      · omega
  · simp
theorem notice_enc_len (e:Notice):((noticeEnc e).length:Int)<=1480:=by
  unfold noticeEnc
  split
  · rename_i h
    rw [setW_len,notice_len]
    unfold noticeErr at h
    split at h
    · cases h
    · split at h
      · cases h
      · split at h
        · cases h
        · omega
  · simp
theorem tcp_enc_len (s d:Int) (e:Seg):((tcpEnc s d e).length:Int)<=1480:=by
  unfold tcpEnc
  split
  · rename_i h
    rw [setW_len,tcp_len]
    unfold tcpErr at h
    split at h
    · cases h
    · split at h
      · cases h
      · omega
  · simp
theorem getD_same {l:List Int} {i:Nat} {v:Int} (h:i<l.length):(l.set i v).getD i default=v:=by
  rw [List.getD_eq_getElem?_getD,List.getElem?_set_self h,Option.getD_some]
theorem getD_ne {l:List Int} {i j:Nat} {v:Int} (h:i≠j):(l.set i v).getD j default=l.getD j default:=by
  rw [List.getD_eq_getElem?_getD,List.getElem?_set_ne h,← List.getD_eq_getElem?_getD]
theorem head_nonneg (s d p n:Int):p%256<=sumF true (headP s d p n):=by
  rw [head_sum];simp [sumF,w4,w2];omega
end Go.RS

/- Ipv4: packets without options. -/
namespace Go.RS
open Go.SX Go.Proofs
set_option maxRecDepth 100000
set_option linter.unusedVariables false
abbrev cHeader:CT := .pair cI (.pair cI (.pair cI (.pair cI (.pair .bool (.pair cU32 cU32)))))
abbrev cPacket:CT := .pair cHeader (.sl cU8)
abbrev Header:Type:=Int×Int×Int×Int×Bool×Int×Int
abbrev Packet:Type:=Header×List Int
def in8 (n:Int):Prop:=0<=n/\n<=255
instance (n:Int):Decidable (in8 n):=by unfold in8;infer_instance
def hdrOK (h:Header):Prop:=in8 h.1/\in8 h.2.2.1/\in8 h.2.2.2.1/\0<=h.2.1/\h.2.1<=65535
instance (h:Header):Decidable (hdrOK h):=by unfold hdrOK;infer_instance
def hdrErr (h:Header):Int:=if hdrOK h then 0 else 1
def hdrHead (h:Header) (n:Int):List Int:=[69,h.1]++(w2 n++(w2 h.2.1++(w2 (if h.2.2.2.2.1 then 16384 else 0)++[h.2.2.1,h.2.2.2.1])))
def hdrTail (h:Header):List Int:=w4 h.2.2.2.2.2.1++w4 h.2.2.2.2.2.2
def hdrBody (h:Header) (n:Int):List Int:=hdrHead h n++([0,0]++hdrTail h)
def hdrB (h:Header) (n:Int):List Int:=setW (hdrBody h n) 10 (csum (hdrBody h n))
def ipErr (p:Packet):Int:=if ¬ hdrOK p.1 then 1 else if (1480:Int)<p.2.length then 5 else 0
def ipEnc (p:Packet):List Int:=if ipErr p=0 then hdrB p.1 (20+p.2.length)++p.2 else []
def pkErr (b:List Int):Int :=
  if (b.length:Int)<20 then 3 else if ¬ (b.getD 0 default=69/\(wordAt b 6=0∨wordAt b 6=16384)/\20<=wordAt b 2) then 2
  else if csum (setW (b.take 20) 10 0)≠wordAt b 10 then 4 else 0
def hdr0:Header:=(0,0,0,0,false,0,0)
def pkHdrF (b:List Int):Header:=(b.getD 1 default,wordAt b 4,b.getD 8 default,b.getD 9 default,decide (wordAt b 6=16384),numB ((b.drop 12).take 4),numB ((b.drop 16).take 4))
def pkHdr (b:List Int):Header:=if pkErr b=0 then pkHdrF b else hdr0
def pkLen (b:List Int):Int:=if pkErr b=0 then wordAt b 2 else 0
def decErr (b:List Int):Int:=if pkErr b≠0 then pkErr b else if wordAt b 2≠b.length then 2 else if 1500<wordAt b 2 then 5 else 0
def decPkt (b:List Int):Packet:=if decErr b=0 then (pkHdrF b,b.drop 20) else (hdr0,[])
def lowHdr (h:Header):Header:=(h.1,h.2.1,h.2.2.1-1,h.2.2.2)
def lowErr (b:List Int):Int:=if decErr b≠0 then decErr b else if (pkHdrF b).2.2.1<2 then 7 else 0
def lowB (b:List Int):List Int:=if lowErr b=0 then ipEnc (lowHdr (pkHdrF b),b.drop 20) else []
theorem hdrBody_len (h:Header) (n:Int):(hdrBody h n).length=20:=rfl
theorem hdrB_len (h:Header) (n:Int):(hdrB h n).length=20:=by unfold hdrB;rw [setW_len];rfl
theorem hdr_bytes {h:Header} {n:Int} (hk:hdrOK h):bytes (hdrBody h n):=by
  obtain ⟨h1,h2,h3,-⟩:=hk
  exact bytes_app (bytes_app (bytes_cons (by omega) (by omega) (bytes_cons h1.1 h1.2 bytes_nil)) (bytes_app (bytes_w2 _) (bytes_app (bytes_w2 _) (bytes_app (bytes_w2 _) (bytes_cons h2.1 h2.2 (bytes_cons h3.1 h3.2 bytes_nil))))))
    (bytes_app (bytes_cons (by omega) (by omega) (bytes_cons (by omega) (by omega) bytes_nil)) (bytes_app (bytes_w4 _) (bytes_w4 _)))
theorem numB1 (a:Int):numB [a]=a:=by simp [numB]
theorem getV_in {b:List Int} {a w:Int} (h1:1<=w) (h2:w<=7) (h3:0<=a) (h4:a+w<=b.length):getV b a w=numB ((b.drop a.toNat).take w.toNat):=by
  rw [getV,if_neg (by omega)]
theorem drop_take1 {b:List Int} {i:Nat} (h:i<b.length):(b.drop i).take 1=[b.getD i default]:=by
  rw [List.drop_eq_getElem_cons h,List.getD_eq_getElem?_getD,List.getElem?_eq_getElem h];rfl
theorem gV1 {b:List Int} {a:Int} (h3:0<=a) (h4:a+1<=b.length):getV b a 1=b.getD a.toNat default:=by
  rw [getV_in (by omega) (by omega) h3 h4,show (1:Int).toNat=1 from rfl,drop_take1 (by omega),numB1]
theorem gV2 {b:List Int} {a:Int} (h3:0<=a) (h4:a+2<=b.length):getV b a 2=wordAt b a.toNat:=by
  rw [getV_in (by omega) (by omega) h3 h4];rfl
theorem gV4 {b:List Int} {a:Int} (h3:0<=a) (h4:a+4<=b.length):getV b a 4=numB ((b.drop a.toNat).take 4):=by
  rw [getV_in (by omega) (by omega) h3 h4];rfl
theorem take_get {b:List Int} {n i:Nat} (h:i<n):(b.take n).getD i default=b.getD i default:=by
  rw [List.getD_eq_getElem?_getD,List.getElem?_take,if_pos h,← List.getD_eq_getElem?_getD]
theorem take_drop_take {b:List Int} {n i k:Nat} (h:i+k<=n):((b.take n).drop i).take k=(b.drop i).take k:=by
  rw [List.drop_take,List.take_take,Nat.min_eq_left (by omega)]
theorem take_word {b:List Int} {n i:Nat} (h:i+2<=n):wordAt (b.take n) i=wordAt b i:=by
  unfold wordAt;rw [take_drop_take h]
theorem bytes_drop {b:List Int} {n:Nat} (h:bytes b):bytes (b.drop n):=fun x hx=>h x (List.mem_of_mem_drop hx)
theorem bytes_get {b:List Int} (h:bytes b) {i:Nat} (hi:i<b.length):0<=b.getD i default/\b.getD i default<=255:=by
  have:=getD_mem (xs:=b) (i:=(i:Int)) (by omega) (by omega)
  exact h _ this
theorem bytes_word {b:List Int} (h:bytes b) (i:Nat):0<=wordAt b i/\wordAt b i<=65535:=by
  have:=numB_bound 2 ((b.drop i).take 2) (by rw [List.length_take];omega) (fun x hx=>h x (List.mem_of_mem_drop (List.mem_of_mem_take hx)))
  have e:(256:Int)^2=65536:=rfl
  unfold wordAt;omega
theorem bytes_num4 {b:List Int} (h:bytes b) (i:Nat):0<=numB ((b.drop i).take 4)/\numB ((b.drop i).take 4)<=4294967295:=by
  have:=numB_bound 4 ((b.drop i).take 4) (by rw [List.length_take];omega) (fun x hx=>h x (List.mem_of_mem_drop (List.mem_of_mem_take hx)))
  have e:(256:Int)^4=4294967296:=rfl
  omega
def cutP (k:Nat):Nat:=[0,1,2,4,6,8,9,10,12,16,20].getD k 20
theorem hdr_step {h:Header} {n f k:Int} (hok:hdrOK h) (n0:0<=n) (n1:n<=65535) (s0:0<=h.2.2.2.2.2.1/\h.2.2.2.2.2.1<=4294967295) (d0:0<=h.2.2.2.2.2.2/\h.2.2.2.2.2.2<=4294967295) (hf:f=if h.2.2.2.2.1 then 16384 else 0) (k0:0<=k) (k1:k<10) :
    putB ((hdrBody h n).take (cutP k.toNat)) (pickI [69,h.1,n,h.2.1,f,h.2.2.1,h.2.2.2.1,0,h.2.2.2.2.2.1,h.2.2.2.2.2.2] k.toNat) (pickI [1,1,2,2,2,1,1,2,4,4] k.toNat)=(hdrBody h n).take (cutP (k+1).toNat):=by
  obtain ⟨h1,h2,h3,h4,h5⟩:=hok
  have hf0:0<=f/\f<=65535:=by rw [hf];split <;> omega
  have:k=0∨k=1∨k=2∨k=3∨k=4∨k=5∨k=6∨k=7∨k=8∨k=9:=by omega
  rcases this with rfl|rfl|rfl|rfl|rfl|rfl|rfl|rfl|rfl|rfl
  · exact putB_1 (b:=[]) (n:=69) (by omega) (by omega)
  · exact putB_1 (b:=[69]) h1.1 h1.2
  · exact putB_2 (b:=[69,h.1]) n0 n1
  · exact putB_2 (b:=[69,h.1]++w2 n) h4 h5
  · have:=putB_2 (b:=[69,h.1]++(w2 n++w2 h.2.1)) hf0.1 hf0.2
    rw [hf] at this ⊢;exact this
  · exact putB_1 (b:=(hdrBody h n).take 8) h2.1 h2.2
  · exact putB_1 (b:=(hdrBody h n).take 9) h3.1 h3.2
  · exact putB_2 (b:=(hdrBody h n).take 10) (n:=0) (by omega) (by omega)
  · exact putB_4 (b:=(hdrBody h n).take 12) s0.1 s0.2
  · exact putB_4 (b:=(hdrBody h n).take 16) d0.1 d0.2
theorem pk_long {b:List Int} (h:pkErr b=0):20<=b.length:=by
  unfold pkErr at h
  split at h
  · cases h
  · omega
theorem dec_pk {b:List Int} (h:decErr b=0):pkErr b=0:=by
  unfold decErr at h
  split at h
  · rename_i k;exact absurd h k
  · rename_i k;exact Decidable.not_not.1 k
theorem dec_len {b:List Int} (h:decErr b=0):(b.length:Int)<=1500/\wordAt b 2=b.length:=by
  unfold decErr at h
  split at h
  · rename_i k;exact absurd h k
  · split at h
    · cases h
    · split at h
      · cases h
      · omega
theorem dec_ok {b:List Int} (hb:bytes b) (h:pkErr b=0):hdrOK (pkHdrF b):=by
  have hl:=pk_long h
  exact ⟨bytes_get hb (by omega),bytes_get hb (by omega),bytes_get hb (by omega),bytes_word hb 4⟩
theorem low_ok {b:List Int} (hb:bytes b) (h:decErr b=0) (h2:¬ (pkHdrF b).2.2.1<2):hdrOK (lowHdr (pkHdrF b)):=by
  obtain ⟨k1,k2,k3,k4⟩:=dec_ok hb (dec_pk h)
  refine ⟨k1,?_,k3,k4⟩
  obtain ⟨k5,k6⟩:=k2
  show 0<=(pkHdrF b).2.2.1-1/\(pkHdrF b).2.2.1-1<=255
  omega
def ct_ipv4_Check_1:Ct:=⟨[.val cI],[.val .bool],fun d=>[],fun d=>((decide (in8 d.1),()),())⟩
def an_ipv4_Check_1:PDs ct_ipv4_Check_1.ps->Anns:=(fun _=>{})
theorem vc_ipv4_Check_1 :
 ∀(a:Int),R64 a/\True->True-> ∀(b:Bool),b=decide (0<=a)->(b->(b->b)/\True)/\(b->b)/\(bif b then decide (a<256) else false)=decide (in8 a):=by
  rintro n - -
  (repeat (intro (b_:Bool) (hb_:b_=_);(repeat refine ⟨(by first|(simp;done)|(rw [hb_];simp;done)|(rw [hb_];simp;omega)|(rw [hb_];simp;intros;omega)|(rw [hb_];simp +contextual;done)),?_⟩);subst hb_))
  unfold in8
  by_cases h:0<=n <;> simp [h] <;> omega
theorem ok_ipv4_Check_1:SpecOK Tryz.prog GL 172 ct_ipv4_Check_1.spec:=Ct.okH _ Tryz.func172 (by kernel_rfl) noSpecs_ok hmix an_ipv4_Check_1 (hideMp (by kernel_rfl) vc_ipv4_Check_1)
def ct_ipv4_Check:Ct:=⟨[.agg cHeader],[.val cI],fun d=>[],fun d=>((hdrErr d.1,()),())⟩
def an_ipv4_Check:PDs ct_ipv4_Check.ps->Anns:=(fun _=>{})
theorem vc_ipv4_Check :
 ∀(a:Header),CT.wf cHeader a/\True->True-> ∀(b:Bool),b= ! decide (in8 a.1)->((! b)->((! b)->(! b))/\True)/\((! b)->((! b)->(! b))/\((! b)->(! b))/\True)/\((! b)->((! b)->(! b))/\True)/\(b=false->(! b))/\ ∀(c:Bool),(c=bif b then true else ! decide (in8 a.2.2.1))->((! c)->((! c)->(! c))/\True)/\((! c)->((! c)->(! c))/\((! c)->(! c))/\True)/\((! c)->((! c)->(! c))/\True)/\(c=false->(! c))/\ ∀(d:Bool),(d=bif c then true else ! decide (in8 a.2.2.2.1))->((! d)->((! d)->(! d))/\True)/\((! d)->((! d)->(! d))/\True)/\(d=false->(! d))/\ ∀(e:Bool),(e=bif d then true else decide (a.2.1<0))->((! e)->((! e)->(! e))/\True)/\((! e)->((! e)->(! e))/\True)/\(e=false->(! e))/\ifP (bif e then true else decide (65536<=a.2.1)) ((1:Int)=hdrErr a) ((0:Int)=hdrErr a):=by
  rintro h - -
  (repeat (intro (b_:Bool) (hb_:b_=_);(repeat refine ⟨(by first|(simp;done)|(rw [hb_];simp;done)|(rw [hb_];simp;omega)|(rw [hb_];simp;intros;omega)|(rw [hb_];simp +contextual;done)),?_⟩);subst hb_))
  refine ifP_split (fun hc => ?_) (fun hc => ?_)
  · rw [hdrErr,if_neg]
    intro k;obtain ⟨k1,k2,k3,k4,k5⟩:=k
    simp [k1,k2,k3,Bool.cond_eq_ite] at hc;omega
  · rw [hdrErr,if_pos]
    simp [Bool.cond_eq_ite] at hc
    exact ⟨hc.1.1.1.1,hc.1.1.1.2,hc.1.1.2,by omega,by omega⟩
theorem ok_ipv4_Check:SpecOK Tryz.prog GL 131 ct_ipv4_Check.spec:=Ct.okH _ Tryz.func131 (by kernel_rfl) (withSpec_ok noSpecs_ok ok_ipv4_Check_1) hmix an_ipv4_Check (hideMp (by kernel_rfl) vc_ipv4_Check)
def ct_ipv4_Encode:Ct:=⟨[.agg cPacket],[.own 5 cU8,.val cI],fun d=>[(d.1.2.length:Int)<=1073741824],fun d=>((ipEnc d.1,ipErr d.1,()),())⟩
def an_ipv4_Encode:PDs ct_ipv4_Encode.ps->Anns:=(fun d=>{loops:=(fun n=>match n with|12=>some (fun S=>{ι:=Int×(List Int),qn:=⟨fun k_=>∀ (k:Int) (ys:(List Int)),k_ (k,ys),fun k_ h_ i=>h_ i.1 i.2,fun k_=>∃ (k:Int) (ys:(List Int)),k_ (k,ys),fun k_ ⟨k,ys,h_⟩=>⟨_,h_⟩⟩,μ:=fun i=>(10-i.1).toNat,inv:=fun i=>0<=i.1/\i.1<=10/\i.2=(hdrBody d.1.1 (20+d.1.2.length)).take (cutP i.1.toNat),keep:=[1,4,53],slots:=fun i=>[(7,.own 524288 1),(54,.int .i64 i.1)],keepN:=[32,80],names:=fun i=>[(524288,.live (.row 5 cU8 i.2))]})|_=>none)})
def Qbi1 (a:(Int×Int×Int×Int×Bool×Int×Int)×List Int) (b:Int) (c:List Int) :=
 (2:Int)=2/\a.1.2.2.1=a.1.2.2.1/\(1:Int)=1/\a.1.2.2.2.1=a.1.2.2.2.1/\(1:Int)=1/\(0:Int)=0/\(2:Int)=2/\IntKind.wrap .i64 a.1.2.2.2.2.2.1=IntKind.wrap .i64 a.1.2.2.2.2.2.1/\(4:Int)=4/\IntKind.wrap .i64 a.1.2.2.2.2.2.2=IntKind.wrap .i64 a.1.2.2.2.2.2.2/\(4:Int)=4/\(0:Int)=b/\a.1.1=a.1.1/\a.1.2.1=a.1.2.1/\a.1.2.2.1=a.1.2.2.1/\a.1.2.2.2.1=a.1.2.2.2.1/\a.1.2.2.2.2.1=a.1.2.2.2.2.1/\a.1.2.2.2.2.2.1=a.1.2.2.2.2.2.1/\a.1.2.2.2.2.2.2=a.1.2.2.2.2.2.2/\a.2=a.2/\a.1.1=a.1.1/\a.1.2.1=a.1.2.1/\a.1.2.2.1=a.1.2.2.1/\a.1.2.2.2.1=a.1.2.2.2.1/\a.1.2.2.2.2.1=a.1.2.2.2.2.1/\a.1.2.2.2.2.2.1=a.1.2.2.2.2.2.1/\a.1.2.2.2.2.2.2=a.1.2.2.2.2.2.2/\c=([]:List Int)/\True
def Qbi2 (a:(Int×Int×Int×Int×Bool×Int×Int)×List Int) (b:Int) (d:List Int) (f:Int) (g:List Int) :=
 (2:Int)=2/\a.1.2.2.1=a.1.2.2.1/\(1:Int)=1/\a.1.2.2.2.1=a.1.2.2.2.1/\(1:Int)=1/\(0:Int)=0/\(2:Int)=2/\IntKind.wrap .i64 a.1.2.2.2.2.2.1=IntKind.wrap .i64 a.1.2.2.2.2.2.1/\(4:Int)=4/\IntKind.wrap .i64 a.1.2.2.2.2.2.2=IntKind.wrap .i64 a.1.2.2.2.2.2.2/\(4:Int)=4/\IntKind.wrap .i64 (b+(1:Int))=f/\a.1.1=a.1.1/\a.1.2.1=a.1.2.1/\a.1.2.2.1=a.1.2.2.1/\a.1.2.2.2.1=a.1.2.2.2.1/\a.1.2.2.2.2.1=a.1.2.2.2.2.1/\a.1.2.2.2.2.2.1=a.1.2.2.2.2.2.1/\a.1.2.2.2.2.2.2=a.1.2.2.2.2.2.2/\a.2=a.2/\a.1.1=a.1.1/\a.1.2.1=a.1.2.1/\a.1.2.2.1=a.1.2.2.1/\a.1.2.2.2.1=a.1.2.2.2.1/\a.1.2.2.2.2.1=a.1.2.2.2.2.1/\a.1.2.2.2.2.2.1=a.1.2.2.2.2.2.1/\a.1.2.2.2.2.2.2=a.1.2.2.2.2.2.2/\d=g/\True
def Qbi7 (c:List Int) (d:Int) :=
 List.set c (Int.toNat (10:Int)) (IntKind.wrap .u8 (shrI IntKind.i64 d (8:Int)))
def Qbi3 (a:(Int×Int×Int×Int×Bool×Int×Int)×List Int) (c:List Int) :=
 (c.length:Int)<=1099511627776/\ ∀(d:Int),d=65535 -oc (sumF true c)->(0:Int)<=8/\(0:Int)<=10/\10<(c.length:Int)/\(0:Int)<=11/\11<((List.length (Qbi7 c d)):Int)/\(List.length (List.set (Qbi7 c d) (Int.toNat (11:Int)) (IntKind.wrap .u8 d))+a.2.length)*(1:Nat)<=(140737488355328:Nat)/\List.set (Qbi7 c d) (Int.toNat (11:Int)) (IntKind.wrap .u8 d)++a.2=ipEnc a/\(0:Int)=ipErr a
def Qbi4 (a:(Int×Int×Int×Int×Bool×Int×Int)×List Int) :=
 (20:Int)+(a.2.length:Int)
def Qbi5 (b:Int) :=
 pickI [(1:Int),(1:Int),(2:Int),(2:Int),(2:Int),(1:Int),(1:Int),(2:Int),(4:Int),(4:Int)] b.toNat
def Qbi8 (a:(Int×Int×Int×Int×Bool×Int×Int)×List Int) (b:Int) :=
 pickI [(69:Int),a.1.1,IntKind.wrap .i64 (Qbi4 a),a.1.2.1,(16384:Int),a.1.2.2.1,a.1.2.2.2.1,(0:Int),IntKind.wrap .i64 a.1.2.2.2.2.2.1,IntKind.wrap .i64 a.1.2.2.2.2.2.2] b.toNat
def Qbi9 (a:(Int×Int×Int×Int×Bool×Int×Int)×List Int) (b:Int) :=
 pickI [(69:Int),a.1.1,IntKind.wrap .i64 (Qbi4 a),a.1.2.1,(0:Int),a.1.2.2.1,a.1.2.2.2.1,(0:Int),IntKind.wrap .i64 a.1.2.2.2.2.2.1,IntKind.wrap .i64 a.1.2.2.2.2.2.2] b.toNat
theorem vc_ipv4_Encode :
 ∀(a:(Int×Int×Int×Int×Bool×Int×Int)×List Int),CT.wf cPacket a/\True->(a.2.length:Int)<=1073741824->ifP (! decide (hdrErr a.1=0)) (([]:List Int)=ipEnc a/\hdrErr a.1=ipErr a) (ifP (decide (1480<(a.2.length:Int))) (([]:List Int)=ipEnc a/\(5:Int)=ipErr a) (ifP a.1.2.2.2.2.1 ((∃(b:Int) (c:List Int),(0<=b/\b<=10/\c=List.take (cutP b.toNat) (hdrBody a.1 (Qbi4 a)))/\(69:Int)=69/\(1:Int)=1/\a.1.1=a.1.1/\(1:Int)=1/\IntKind.wrap .i64 (Qbi4 a)=IntKind.wrap .i64 (Qbi4 a)/\(2:Int)=2/\a.1.2.1=a.1.2.1/\(2:Int)=2/\(16384:Int)=16384/\(Qbi1 a b c))/\ ∀(b:Int) (c:List Int),0<=b/\b<=10/\c=List.take (cutP b.toNat) (hdrBody a.1 (Qbi4 a))->ifP (decide (b<10)) (0<=b/\b<(↑(10:Nat):Int)/\(c.length:Int)<=1099511627776/\ ∀(d:List Int) (e:Int),d=putB c (Qbi8 a b) (Qbi5 b)/\e=putE (Qbi8 a b) (Qbi5 b)-> ∃(f:Int) (g:List Int),(0<=f/\f<=10/\g=List.take (cutP f.toNat) (hdrBody a.1 (Qbi4 a)))/\Int.toNat ((10:Int)
 -f)<Int.toNat ((10:Int) -b)/\(69:Int)=69/\(1:Int)=1/\a.1.1=a.1.1/\(1:Int)=1/\IntKind.wrap .i64 (Qbi4 a)=IntKind.wrap .i64 (Qbi4 a)/\(2:Int)=2/\a.1.2.1=a.1.2.1/\(2:Int)=2/\(16384:Int)=16384/\(Qbi2 a b d f g)) (Qbi3 a c)) ((∃(b:Int) (c:List Int),(0<=b/\b<=10/\c=List.take (cutP b.toNat) (hdrBody a.1 (Qbi4 a)))/\(69:Int)=69/\(1:Int)=1/\a.1.1=a.1.1/\(1:Int)=1/\IntKind.wrap .i64 (Qbi4 a)=IntKind.wrap .i64 (Qbi4 a)/\(2:Int)=2/\a.1.2.1=a.1.2.1/\(2:Int)=2/\(0:Int)=0/\(Qbi1 a b c))/\ ∀(b:Int) (c:List Int),0<=b/\b<=10/\c=List.take (cutP b.toNat) (hdrBody a.1 (Qbi4 a))->ifP (decide (b<10)) (0<=b/\b<(↑(10:Nat):Int)/\(c.length:Int)<=1099511627776/\ ∀(d:List Int) (e:Int),d=putB c (Qbi9 a b) (Qbi5 b)/\e=putE (Qbi9 a b) (Qbi5 b)-> ∃(f:Int) (g:List Int),(0<=f/\f<=10/\g=List.take (cutP f.toNat) (hdrBody a.1 (Qbi4 a)))/\Int.toNat ((10:Int) -f)<Int.toNat ((10:Int)
 -b)/\(69:Int)=69/\(1:Int)=1/\a.1.1=a.1.1/\(1:Int)=1/\IntKind.wrap .i64 (Qbi4 a)=IntKind.wrap .i64 (Qbi4 a)/\(2:Int)=2/\a.1.2.1=a.1.2.1/\(2:Int)=2/\(0:Int)=0/\(Qbi2 a b d f g)) (Qbi3 a c)))):=by
  delta Qbi1 Qbi2 Qbi3 Qbi4 Qbi5 Qbi7 Qbi8 Qbi9
  rintro d ⟨⟨hw,-⟩,-⟩ hl
  obtain ⟨-,-,-,-,-,s0,d0⟩:=hw
  have s0:0<=d.1.2.2.2.2.2.1/\d.1.2.2.2.2.2.1<=4294967295:=s0
  have d0:0<=d.1.2.2.2.2.2.2/\d.1.2.2.2.2.2.2<=4294967295:=d0
  refine ifP_split (fun hc => ?_) (fun hc => ?_)
  · have hn:¬ hdrOK d.1:=fun k=>by rw [hdrErr,if_pos k] at hc;cases hc
    have he:ipErr d=1:=by rw [ipErr,if_pos hn]
    rw [ipEnc,he,hdrErr,if_neg hn];exact ⟨rfl,rfl⟩
  have hok:hdrOK d.1:=Classical.byContradiction fun k=>by rw [hdrErr,if_neg k] at hc;cases hc
  refine ifP_split (fun h5 => ?_) (fun h5 => ?_)
  · have h5:=of_decide_eq_true h5
    have he:ipErr d=5:=by rw [ipErr,if_neg (fun k=>k hok),if_pos h5]
    rw [ipEnc,he];exact ⟨rfl,rfl⟩
  have h5:=of_decide_eq_false h5
  have he:ipErr d=0:=by rw [ipErr,if_neg (fun k=>k hok),if_neg h5]
  have e20:IntKind.wrap .i64 (20+(d.2.length:Int))=20+d.2.length:=w64 (by omega) (by omega)
  have es:IntKind.wrap .i64 d.1.2.2.2.2.2.1=d.1.2.2.2.2.2.1:=w64 (by have:=s0.1;omega) (by have:=s0.2;omega)
  have ed:IntKind.wrap .i64 d.1.2.2.2.2.2.2=d.1.2.2.2.2.2.2:=w64 (by have:=d0.1;omega) (by have:=d0.2;omega)
  have hc:=csum_range (hdr_bytes (n:=20+d.2.length) hok)
  have hbl:=hdrBody_len d.1 (20+d.2.length)
  have step:=fun f hf k=>hdr_step (h:=d.1) (n:=20+d.2.length) (f:=f) (k:=k) hok (by omega) (by omega) s0 d0 hf
  have fin:∀ ys,ys=hdrBody d.1 (20+d.2.length)->(List.set (List.set ys (Int.toNat 10) (IntKind.wrap .u8 (shrI .i64 (65535-oc (sumF true ys)) 8))) (Int.toNat 11) (IntKind.wrap .u8 (65535-oc (sumF true ys)))++d.2=ipEnc d/\(0:Int)=ipErr d):=by
    rintro ys rfl
    have hc:0<=65535-oc (sumF true (hdrBody d.1 (20+d.2.length))):=hc.1
    rw [shr8 hc,IntKind.wrap_u8',IntKind.wrap_u8',ipEnc,he,if_pos rfl]
    exact ⟨rfl,rfl⟩
  rw [e20,es,ed]
  refine ifP_split (fun hk => ?_) (fun hk => ?_)
  · refine ⟨⟨0,[],⟨by omega,by omega,rfl⟩,(by repeat' first|exact trivial|refine ⟨trivial,?_⟩|refine ⟨(by with_reducible rfl),?_⟩|refine ⟨w64 (by omega) (by omega),?_⟩|refine ⟨rfl,?_⟩)⟩,?_⟩
    rintro k ys ⟨k0,k1,rfl⟩
    refine ifP_split (fun h => ?_) (fun h => ?_)
    · have h:=of_decide_eq_true h
      have st:=step 16384 (by rw [hk];rfl) k k0 h
      refine ⟨k0,h,by rw [List.length_take];omega,?_⟩
      rintro y _ ⟨rfl,-⟩
      exact ⟨k+1,_,⟨by omega,by omega,st⟩,by omega,(by repeat' first|exact trivial|refine ⟨trivial,?_⟩|refine ⟨(by with_reducible rfl),?_⟩|refine ⟨w64 (by omega) (by omega),?_⟩|refine ⟨rfl,?_⟩)⟩
    · have h:=of_decide_eq_false h
      have e10:k=10:=by omega
      subst e10
      have et:(hdrBody d.1 (20+d.2.length)).take (cutP (Int.toNat 10))=hdrBody d.1 (20+d.2.length):=List.take_of_length_le (by rw [hbl];decide)
      rw [et]
      refine ⟨by omega,?_⟩
      rintro c rfl
      refine ⟨by omega,by omega,by omega,by omega,by rw [List.length_set];omega,by rw [List.length_set,List.length_set];omega,fin _ rfl⟩
  · refine ⟨⟨0,[],⟨by omega,by omega,rfl⟩,(by repeat' first|exact trivial|refine ⟨trivial,?_⟩|refine ⟨(by with_reducible rfl),?_⟩|refine ⟨w64 (by omega) (by omega),?_⟩|refine ⟨rfl,?_⟩)⟩,?_⟩
    rintro k ys ⟨k0,k1,rfl⟩
    refine ifP_split (fun h => ?_) (fun h => ?_)
    · have h:=of_decide_eq_true h
      have st:=step 0 (by rw [hk];rfl) k k0 h
      refine ⟨k0,h,by rw [List.length_take];omega,?_⟩
      rintro y _ ⟨rfl,-⟩
      exact ⟨k+1,_,⟨by omega,by omega,st⟩,by omega,(by repeat' first|exact trivial|refine ⟨trivial,?_⟩|refine ⟨(by with_reducible rfl),?_⟩|refine ⟨w64 (by omega) (by omega),?_⟩|refine ⟨rfl,?_⟩)⟩
    · have h:=of_decide_eq_false h
      have e10:k=10:=by omega
      subst e10
      have et:(hdrBody d.1 (20+d.2.length)).take (cutP (Int.toNat 10))=hdrBody d.1 (20+d.2.length):=List.take_of_length_le (by rw [hbl];decide)
      rw [et]
      refine ⟨by omega,?_⟩
      rintro c rfl
      refine ⟨by omega,by omega,by omega,by omega,by rw [List.length_set];omega,by rw [List.length_set,List.length_set];omega,fin _ rfl⟩
theorem ok_ipv4_Encode:SpecOK Tryz.prog GL 83 ct_ipv4_Encode.spec:=Ct.okH _ Tryz.func83 (by kernel_rfl) (withSpec_ok (withSpec_ok (withSpec_ok noSpecs_ok ok_ipv4_Check) (Ct.named ok_wire_Put)) (Ct.named ok_wire_Checksum)) hmix an_ipv4_Encode (hideMp (by kernel_rfl) vc_ipv4_Encode)
def ct_ipv4_Peek_1:Ct:=⟨[.val cI,.box 22 (.row 5 cU8),.box 3 cI],[.val cI],fun d=>[(d.2.1.length:Int)<=100000,0<=d.1,d.1<=8,0<=d.2.2.1,d.2.2.1<=100000],fun d=>((getV d.2.1 d.2.2.1 d.1,()),(d.2.1,d.2.2.1+d.1,()))⟩
def an_ipv4_Peek_1:PDs ct_ipv4_Peek_1.ps->Anns:=(fun _=>{})
theorem vc_ipv4_Peek_1 :
 ∀(a:Int) (b:List Int) (c:Int),R64 a/\(b.length<=maxLen/\ ∀(d:Int),d∈b->0<=d/\d<=255)/\R64 c/\True->(b.length:Int)<=100000/\0<=a/\a<=8/\0<=c/\c<=100000->(b.length:Int)<=1099511627776/\getV b c a=getV b c a/\b=b/\IntKind.wrap .i64 (c+a)=c+a:=by
  rintro w b a-⟨h1,h2,h3,h4,h5⟩
  exact ⟨by omega,rfl,rfl,w64 (by omega) (by omega)⟩
theorem ok_ipv4_Peek_1:SpecOK Tryz.prog GL 171 ct_ipv4_Peek_1.spec:=Ct.okH _ Tryz.func171 (by kernel_rfl) (withSpec_ok noSpecs_ok ok_wire_Get) hmix an_ipv4_Peek_1 (hideMp (by kernel_rfl) vc_ipv4_Peek_1)
def ct_ipv4_Peek:Ct:=⟨[.val (.sl cU8)],[.agg cHeader,.val cI,.val cI],fun d=>[(d.1.length:Int)<=1099511627776],fun d=>((pkHdr d.1,pkLen d.1,pkErr d.1,()),())⟩
def an_ipv4_Peek:PDs ct_ipv4_Peek.ps->Anns:=(fun _=>{})
def Qbi6 :=
 ((0:Int),(0:Int),(0:Int),(0:Int),false,(0:Int),(0:Int))
def Qbi11 (a:List Int) :=
 subL a (Int.toNat (0:Int)) (Int.toNat (20:Int))
theorem vc_ipv4_Peek :
 ∀(a:List Int),(a.length<=maxLen/\ ∀(b:Int),b∈a->0<=b/\b<=255)/\True->(a.length:Int)<=1099511627776->ifP (decide ((a.length:Int)<20)) ((Qbi6)=pkHdr a/\(0:Int)=pkLen a/\(3:Int)=pkErr a) ((0:Int)<=0/\(0:Int)<=20/\20<=(a.length:Int)/\((List.length (Qbi11 a)):Int)<=1099511627776/\((List.length (Qbi11 a)):Int)<=100000/\(0:Int)<=1/\(1:Int)<=8/\(0:Int)<=0/\(0:Int)<=100000/\ ∀(b:Int) (c:List Int) (d:Int),b=getV (Qbi11 a) (0:Int) (1:Int)/\c=subL a (Int.toNat (0:Int)) (Int.toNat (20:Int))/\d=0+(1:Int)->(c.length:Int)<=100000/\(0:Int)<=1/\(1:Int)<=8/\0<=d/\d<=100000/\ ∀(e:Int) (f:List Int) (g:Int),e=getV c d (1:Int)/\f=c/\g=d+(1:Int)->(f.length:Int)<=100000/\(0:Int)<=2/\(2:Int)<=8/\0<=g/\g<=100000/\ ∀(h:Int) (i:List Int) (j:Int),h=getV f g (2:Int)/\i=f/\j=g+(2:Int)->(i.length:Int)<=100000/\(0:Int)<=2/\(2:Int)<=8/\0<=j/\j<=100000/\ ∀(k:Int) (l:List Int) (m:Int),k=getV i j
 (2:Int)/\l=i/\m=j+(2:Int)->(l.length:Int)<=100000/\(0:Int)<=2/\(2:Int)<=8/\0<=m/\m<=100000/\ ∀(n:Int) (o:List Int) (p:Int),n=getV l m (2:Int)/\o=l/\p=m+(2:Int)->(o.length:Int)<=100000/\(0:Int)<=1/\(1:Int)<=8/\0<=p/\p<=100000/\ ∀(q:Int) (r:List Int) (s:Int),q=getV o p (1:Int)/\r=o/\s=p+(1:Int)->(r.length:Int)<=100000/\(0:Int)<=1/\(1:Int)<=8/\0<=s/\s<=100000/\ ∀(t:Int) (u:List Int) (v:Int),t=getV r s (1:Int)/\u=r/\v=s+(1:Int)->(u.length:Int)<=100000/\(0:Int)<=2/\(2:Int)<=8/\0<=v/\v<=100000/\ ∀(w:Int) (x:List Int) (y:Int),w=getV u v (2:Int)/\x=u/\y=v+(2:Int)->(x.length:Int)<=100000/\(0:Int)<=4/\(4:Int)<=8/\0<=y/\y<=100000/\ ∀(z:Int) (A:List Int) (B:Int),z=getV x y (4:Int)/\A=x/\B=y+(4:Int)->(A.length:Int)<=100000/\(0:Int)<=4/\(4:Int)<=8/\0<=B/\B<=100000/\ ∀(C:Int) (D:List Int) (E:Int),C=getV A B (4:Int)/\D=A/\E=B+(4:Int)-> ∀(F:Bool),F= ! decide (b=69)->((! F)->((! F)->(! F))/\True)/\((!
 F)->((! F)->(! F))/\True)/\ ∀(G:Bool),G= ! decide (n=0)->((! F&&G)->((! F&&G)->(! F&&G))/\True)/\((! F&&G)->((! F&&G)->(! F&&G))/\True)/\((! F)->((! F)->(! F))/\(G->(! F&&G))/\True)/\(F=false->(! F))/\ ∀(H:Bool),(H=bif F then true else bif G then ! decide (n=16384) else false)->((! H)->((! H)->(! H))/\True)/\(H=false->(! H))/\ifP (bif H then true else decide (h<20)) ((Qbi6)=pkHdr a/\(0:Int)=pkLen a/\(2:Int)=pkErr a) ((0:Int)<=10/\10<(D.length:Int)/\(0:Int)<=11/\11<((List.length (List.set D (Int.toNat (10:Int)) (0:Int))):Int)/\((List.length (List.set (List.set D (Int.toNat (10:Int)) (0:Int)) (Int.toNat (11:Int)) (0:Int))):Int)<=1099511627776/\ ∀(I:Int),I=65535 -oc (sumF true (List.set (List.set D (Int.toNat (10:Int)) (0:Int)) (Int.toNat (11:Int)) (0:Int)))->ifP (! decide (I=w)) ((Qbi6)=pkHdr a/\(0:Int)=pkLen a/\(4:Int)=pkErr a) ((e,k,q,t,decide (n=16384),IntKind.wrap .u32 z,IntKind.wrap
 .u32 C)=pkHdr a/\h=pkLen a/\(0:Int)=pkErr a))):=by
  delta Qbi6 Qbi11
  rintro b ⟨⟨-,hb⟩,-⟩ hl
  refine ifP_split (fun h => ?_) (fun h => ?_)
  · have h:=of_decide_eq_true h
    have e:pkErr b=3:=by rw [pkErr,if_pos h]
    rw [pkHdr,pkLen,e];exact ⟨rfl,rfl,rfl⟩
  have h:=of_decide_eq_false h
  have hB:subL b (Int.toNat 0) (Int.toNat 20)=b.take 20:=rfl
  have hBl:(b.take 20).length=20:=by rw [List.length_take];omega
  rw [hB]
  refine ⟨by omega,by omega,by omega,by omega,by omega,by omega,by omega,by omega,by omega,?_⟩
  rintro v0 _ a0 ⟨e0,rfl,q0⟩
  rw [gV1 (by omega) (by omega),take_get (by decide)] at e0
  have q0:a0=1:=q0
  subst q0
  refine ⟨by omega,by omega,by omega,by omega,by omega,?_⟩
  rintro v1 _ a1 ⟨e1,rfl,q1⟩
  rw [gV1 (by omega) (by omega),take_get (by decide)] at e1
  have q1:a1=2:=q1
  subst q1
  refine ⟨by omega,by omega,by omega,by omega,by omega,?_⟩
  rintro v2 _ a2 ⟨e2,rfl,q2⟩
  rw [gV2 (by omega) (by omega),take_word (by decide)] at e2
  have q2:a2=4:=q2
  subst q2
  refine ⟨by omega,by omega,by omega,by omega,by omega,?_⟩
  rintro v3 _ a3 ⟨e3,rfl,q3⟩
  rw [gV2 (by omega) (by omega),take_word (by decide)] at e3
  have q3:a3=6:=q3
  subst q3
  refine ⟨by omega,by omega,by omega,by omega,by omega,?_⟩
  rintro v4 _ a4 ⟨e4,rfl,q4⟩
  rw [gV2 (by omega) (by omega),take_word (by decide)] at e4
  have q4:a4=8:=q4
  subst q4
  refine ⟨by omega,by omega,by omega,by omega,by omega,?_⟩
  rintro v5 _ a5 ⟨e5,rfl,q5⟩
  rw [gV1 (by omega) (by omega),take_get (by decide)] at e5
  have q5:a5=9:=q5
  subst q5
  refine ⟨by omega,by omega,by omega,by omega,by omega,?_⟩
  rintro v6 _ a6 ⟨e6,rfl,q6⟩
  rw [gV1 (by omega) (by omega),take_get (by decide)] at e6
  have q6:a6=10:=q6
  subst q6
  refine ⟨by omega,by omega,by omega,by omega,by omega,?_⟩
  rintro v7 _ a7 ⟨e7,rfl,q7⟩
  rw [gV2 (by omega) (by omega),take_word (by decide)] at e7
  have q7:a7=12:=q7
  subst q7
  refine ⟨by omega,by omega,by omega,by omega,by omega,?_⟩
  rintro v8 _ a8 ⟨e8,rfl,q8⟩
  rw [gV4 (by omega) (by omega),take_drop_take (by decide)] at e8
  have q8:a8=16:=q8
  subst q8
  refine ⟨by omega,by omega,by omega,by omega,by omega,?_⟩
  rintro v9 _ a9 ⟨e9,rfl,q9⟩
  rw [gV4 (by omega) (by omega),take_drop_take (by decide)] at e9
  have q9:a9=20:=q9
  subst q9
  subst e0 e1 e2 e3 e4 e5 e6 e7 e8 e9
  have n12:=bytes_num4 hb 12
  have n16:=bytes_num4 hb 16
  have hcs:65535-oc (sumF true (((b.take 20).set (Int.toNat 10) 0).set (Int.toNat 11) 0))=csum (setW (b.take 20) 10 0):=rfl
  (repeat (intro (b_:Bool) (hb_:b_=_);(repeat refine ⟨(by first|(simp;done)|(rw [hb_];simp;done)|(rw [hb_];simp;omega)|(rw [hb_];simp;intros;omega)|(rw [hb_];simp +contextual;done)),?_⟩);subst hb_))
  refine ifP_split (fun hc => ?_) (fun hc => ?_)
  · have e:pkErr b=2:=by
      rw [pkErr,if_neg h,if_pos]
      rintro ⟨h0,hf,h2⟩
      rw [show b.getD (Int.toNat 0) default=69 from h0] at hc
      rcases hf with hf|hf
      · rw [show wordAt b (Int.toNat 6)=0 from hf] at hc
        simp at hc
        have h2:20<=wordAt b (Int.toNat 2):=h2
        simp at h2;omega
      · rw [show wordAt b (Int.toNat 6)=16384 from hf] at hc
        simp at hc
        have h2:20<=wordAt b (Int.toNat 2):=h2
        simp at h2;omega
    rw [pkHdr,pkLen,e];exact ⟨rfl,rfl,rfl⟩
  have hg:b.getD 0 default=69/\(wordAt b 6=0∨wordAt b 6=16384)/\20<=wordAt b 2:=by
    by_cases h0:b.getD (Int.toNat 0) default=69
    · by_cases h6:wordAt b (Int.toNat 6)=0
      · simp [h0,h6] at hc
        exact ⟨h0,.inl h6,by omega⟩
      · by_cases h7:wordAt b (Int.toNat 6)=16384
        · simp [h0,h7] at hc
          exact ⟨h0,.inr h7,by omega⟩
        · exfalso
          rw [h0,decide_eq_false h6,decide_eq_false h7] at hc;simp at hc
    · exfalso
      rw [decide_eq_false h0] at hc;simp at hc
  refine ⟨by omega,by omega,by omega,by rw [List.length_set];omega,by rw [List.length_set,List.length_set];omega,?_⟩
  rw [hcs]
  rintro c rfl
  refine ifP_split (fun hc => ?_) (fun hc => ?_)
  · have e:pkErr b=4:=by
      rw [pkErr,if_neg h,if_neg (fun k=>k hg),if_pos]
      intro k
      rw [show wordAt b (Int.toNat 10)=wordAt b 10 from rfl,k] at hc;simp at hc
    rw [pkHdr,pkLen,e];exact ⟨rfl,rfl,rfl⟩
  · have e:pkErr b=0:=by
      rw [pkErr,if_neg h,if_neg (fun k=>k hg),if_neg]
      intro k
      exact k (by simpa using hc)
    rw [pkHdr,pkLen,e,if_pos rfl,if_pos rfl,show Int.toNat 12=12 from rfl,show Int.toNat 16=16 from rfl,wu32 n12.1 n12.2,wu32 n16.1 n16.2]
    exact ⟨rfl,rfl,rfl⟩
theorem ok_ipv4_Peek:SpecOK Tryz.prog GL 129 ct_ipv4_Peek.spec:=Ct.okH _ Tryz.func129 (by kernel_rfl) (withSpec_ok (withSpec_ok (withSpec_ok noSpecs_ok ok_slices_Clone_b979) (Ct.named ok_ipv4_Peek_1)) (Ct.named ok_wire_Checksum)) hmix an_ipv4_Peek (hideMp (by kernel_rfl) vc_ipv4_Peek)
def ct_ipv4_Decode:Ct:=⟨[.val (.sl cU8)],[.agg cPacket,.val cI],fun d=>[(d.1.length:Int)<=1099511627776],fun d=>((decPkt d.1,decErr d.1,()),())⟩
def an_ipv4_Decode:PDs ct_ipv4_Decode.ps->Anns:=(fun _=>{})
theorem vc_ipv4_Decode :
 ∀(a:List Int),(a.length<=maxLen/\ ∀(b:Int),b∈a->0<=b/\b<=255)/\True->(a.length:Int)<=1099511627776->(a.length:Int)<=1099511627776/\ifP (! decide (pkErr a=0)) (((Qbi6),([]:List Int))=decPkt a/\pkErr a=decErr a) (ifP (! decide (pkLen a=(a.length:Int))) (((Qbi6),([]:List Int))=decPkt a/\(2:Int)=decErr a) (ifP (decide (1500<pkLen a)) (((Qbi6),([]:List Int))=decPkt a/\(5:Int)=decErr a) ((0:Int)<=20/\20<=(a.length:Int)/\(a.length:Int)<=(a.length:Int)/\((List.length (subL a (Int.toNat (20:Int)) (Int.toNat (a.length:Int)))):Int)<=1099511627776/\(pkHdr a,subL a (Int.toNat (20:Int)) (Int.toNat (a.length:Int)))=decPkt a/\(0:Int)=decErr a))):=by
  delta Qbi6
  rintro b ⟨⟨-,hb⟩,-⟩ hl
  refine ⟨hl,ifP_split (fun hc => ?_) (fun hc => ?_)⟩
  · have hc:¬ pkErr b=0:=by simpa using hc
    have e:decErr b=pkErr b:=by rw [decErr,if_pos hc]
    rw [decPkt,e,if_neg hc];exact ⟨rfl,rfl⟩
  have hc:pkErr b=0:=by simpa using hc
  have hlen:pkLen b=wordAt b 2:=by rw [pkLen,if_pos hc]
  rw [hlen]
  refine ifP_split (fun h2 => ?_) (fun h2 => ?_)
  · have h2:¬ wordAt b 2=b.length:=by simpa using h2
    have e:decErr b=2:=by rw [decErr,if_neg (fun k=>k hc),if_pos h2]
    rw [decPkt,e];exact ⟨rfl,rfl⟩
  have h2:wordAt b 2=b.length:=by simpa using h2
  refine ifP_split (fun h5 => ?_) (fun h5 => ?_)
  · have h5:=of_decide_eq_true h5
    have e:decErr b=5:=by rw [decErr,if_neg (fun k=>k hc),if_neg (fun k=>k h2),if_pos h5]
    rw [decPkt,e];exact ⟨rfl,rfl⟩
  have h5:=of_decide_eq_false h5
  have e:decErr b=0:=by rw [decErr,if_neg (fun k=>k hc),if_neg (fun k=>k h2),if_neg h5]
  have h20:=pk_long hc
  rw [show Int.toNat 20=20 from rfl,sub_drop,decPkt,e,if_pos rfl,pkHdr,if_pos hc,List.length_drop]
  exact ⟨by omega,by omega,by omega,by omega,rfl,rfl⟩
theorem ok_ipv4_Decode:SpecOK Tryz.prog GL 82 ct_ipv4_Decode.spec:=Ct.okH _ Tryz.func82 (by kernel_rfl) (withSpec_ok (withSpec_ok noSpecs_ok ok_ipv4_Peek) ok_slices_Clone_b979) hmix an_ipv4_Decode (hideMp (by kernel_rfl) vc_ipv4_Decode)
def ct_ipv4_Lower:Ct:=⟨[.val (.sl cU8)],[.own 5 cU8,.val cI],fun d=>[(d.1.length:Int)<=1099511627776],fun d=>((lowB d.1,lowErr d.1,()),())⟩
def an_ipv4_Lower:PDs ct_ipv4_Lower.ps->Anns:=(fun _=>{})
def Qbi10 (a:List Int) :=
 (((decPkt a).1.1,(decPkt a).1.2.1,IntKind.wrap .i64 ((decPkt a).1.2.2.1 -(1:Int)),(decPkt a).1.2.2.2),(decPkt a).2)
theorem vc_ipv4_Lower :
 ∀(a:List Int),(a.length<=maxLen/\ ∀(b:Int),b∈a->0<=b/\b<=255)/\True->(a.length:Int)<=1099511627776->(a.length:Int)<=1099511627776/\ifP (! decide (decErr a=0)) (([]:List Int)=lowB a/\decErr a=lowErr a) (ifP (decide ((decPkt a).1.2.2.1<2)) (([]:List Int)=lowB a/\(7:Int)=lowErr a) (((List.length (decPkt a).2):Int)<=1073741824/\ipEnc (Qbi10 a)=lowB a/\ipErr (Qbi10 a)=lowErr a)):=by
  delta Qbi10
  rintro b ⟨⟨-,hb⟩,-⟩ hl
  refine ⟨hl,ifP_split (fun hc => ?_) (fun hc => ?_)⟩
  · have hc:¬ decErr b=0:=by simpa using hc
    have e:lowErr b=decErr b:=by rw [lowErr,if_pos hc]
    rw [lowB,e,if_neg hc];exact ⟨rfl,rfl⟩
  have hc:decErr b=0:=by simpa using hc
  have hp:decPkt b=(pkHdrF b,b.drop 20):=by rw [decPkt,if_pos hc]
  rw [hp]
  have h8:=bytes_get hb (i:=8) (by have:=pk_long (dec_pk hc);omega)
  refine ifP_split (fun h2 => ?_) (fun h2 => ?_)
  · have h2:=of_decide_eq_true h2
    have e:lowErr b=7:=by rw [lowErr,if_neg (fun k=>k hc),if_pos h2]
    rw [lowB,e];exact ⟨rfl,rfl⟩
  have h2:=of_decide_eq_false h2
  have e:lowErr b=0:=by rw [lowErr,if_neg (fun k=>k hc),if_neg h2]
  have hd:=dec_len hc
  have h82:¬ b.getD 8 default<2:=h2
  rw [lowB,e,if_pos rfl]
  have hok:=low_ok hb hc h2
  refine ⟨by rw [List.length_drop];omega,?_⟩
  have ew:IntKind.wrap .i64 ((pkHdrF b).2.2.1-1)=(pkHdrF b).2.2.1-1:=w64 (by show _<=b.getD 8 default-1;omega) (by show b.getD 8 default-1<=_;omega)
  rw [ew]
  refine ⟨rfl,?_⟩
  rw [ipErr,if_neg (fun k=>k hok),if_neg]
  simp only [List.length_drop];omega
theorem ok_ipv4_Lower:SpecOK Tryz.prog GL 36 ct_ipv4_Lower.spec:=Ct.okH _ Tryz.func36 (by kernel_rfl) (withSpec_ok (withSpec_ok noSpecs_ok ok_ipv4_Decode) ok_ipv4_Encode) hmix an_ipv4_Lower (hideMp (by kernel_rfl) vc_ipv4_Lower)
def ct_ref05_Check:Ct:=⟨[.agg cHeader],[.val cI],fun d=>[],fun d=>((hdrErr d.1,()),())⟩
def an_ref05_Check:PDs ct_ref05_Check.ps->Anns:=(fun _=>{})
theorem vc_ref05_Check :
 ∀(a:Header),CT.wf cHeader a/\True->True-> ∀(b:Bool),b=decide (a.1<0)->((! b)->((! b)->(! b))/\True)/\((! b)->((! b)->(! b))/\True)/\(b=false->(! b))/\ ∀(c:Bool),(c=bif b then true else decide (255<a.1))->((! c)->((! c)->(! c))/\True)/\((! c)->((! c)->(! c))/\True)/\(c=false->(! c))/\ ∀(d:Bool),(d=bif c then true else decide (a.2.2.1<0))->((! d)->((! d)->(! d))/\True)/\((! d)->((! d)->(! d))/\True)/\(d=false->(! d))/\ ∀(e:Bool),(e=bif d then true else decide (255<a.2.2.1))->((! e)->((! e)->(! e))/\True)/\((! e)->((! e)->(! e))/\True)/\(e=false->(! e))/\ ∀(f:Bool),(f=bif e then true else decide (a.2.2.2.1<0))->((! f)->((! f)->(! f))/\True)/\((! f)->((! f)->(! f))/\True)/\(f=false->(! f))/\ ∀(g:Bool),(g=bif f then true else decide (255<a.2.2.2.1))->((! g)->((! g)->(! g))/\True)/\((! g)->((! g)->(! g))/\True)/\(g=false->(! g))/\ ∀(h:Bool),(h=bif g then true else decide (a.2.1<0))->((! h)->((!
 h)->(! h))/\True)/\((! h)->((! h)->(! h))/\True)/\(h=false->(! h))/\ifP (bif h then true else decide (65535<a.2.1)) ((1:Int)=hdrErr a) ((0:Int)=hdrErr a):=by
  rintro h - -
  (repeat (intro (b_:Bool) (hb_:b_=_);(repeat refine ⟨(by first|(simp;done)|(rw [hb_];simp;done)|(rw [hb_];simp;omega)|(rw [hb_];simp;intros;omega)|(rw [hb_];simp +contextual;done)),?_⟩);subst hb_))
  refine ifP_split (fun hc => ?_) (fun hc => ?_)
  · rw [hdrErr,if_neg]
    intro k;obtain ⟨k1,k2,k3,k4,k5⟩:=k
    unfold in8 at k1 k2 k3
    simp [Bool.cond_eq_ite] at hc;omega
  · rw [hdrErr,if_pos]
    unfold hdrOK in8
    simp [Bool.cond_eq_ite] at hc;omega
theorem ok_ref05_Check:SpecOK Tryz.prog GL 122 ct_ref05_Check.spec:=Ct.okH _ Tryz.func122 (by kernel_rfl) noSpecs_ok hmix an_ref05_Check (hideMp (by kernel_rfl) vc_ref05_Check)
def ct_ref05_header:Ct:=⟨[.agg cHeader,.val cI],[.own 5 cU8],fun d=>[hdrOK d.1,0<=d.2.1,d.2.1<=65535],fun d=>((hdrB d.1 d.2.1,()),())⟩
def an_ref05_header:PDs ct_ref05_header.ps->Anns:=(fun _=>{})
def Qbi0 (a:Header) (b:Int) (g:List Int) :=
 (g.length:Int)<=1099511627776/\ ∀(h:List Int),h=putB g a.2.2.1 (1:Int)->(h.length:Int)<=1099511627776/\ ∀(i:List Int),i=putB h a.2.2.2.1 (1:Int)->(↑(0:Nat):Int)<=1099511627776/\ ∀(j:List Int),j=putB ([]:List Int) (IntKind.wrap .i64 a.2.2.2.2.2.1) (4:Int)->(j.length:Int)<=1099511627776/\ ∀(k:List Int),k=putB j (IntKind.wrap .i64 a.2.2.2.2.2.2) (4:Int)->i.length*(1:Nat)<=(140737488355328:Nat)/\(List.length [(0:Int),(0:Int)]+k.length)*(1:Nat)<=(140737488355328:Nat)/\(i.length+List.length ([(0:Int),(0:Int)]++k))*(1:Nat)<=(140737488355328:Nat)/\((List.length (i++([(0:Int),(0:Int)]++k))):Int)<=1099511627776/\ ∀(l:Int),l=65535 -oc (sumF true (i++([(0:Int),(0:Int)]++k)))->(i.length:Int)<=1099511627776/\ ∀(m:List Int),m=putB i l (2:Int)->(m.length+k.length)*(1:Nat)<=(140737488355328:Nat)/\m++k=hdrB a b
theorem vc_ref05_header :
 ∀(a:Header) (b:Int),CT.wf cHeader a/\R64 b/\True->hdrOK a/\0<=b/\b<=65535->ifP a.2.2.2.2.1 ((↑(0:Nat):Int)<=1099511627776/\ ∀(c:List Int),c=putB ([]:List Int) (69:Int) (1:Int)->(c.length:Int)<=1099511627776/\ ∀(d:List Int),d=putB c a.1 (1:Int)->(d.length:Int)<=1099511627776/\ ∀(e:List Int),e=putB d b (2:Int)->(e.length:Int)<=1099511627776/\ ∀(f:List Int),f=putB e a.2.1 (2:Int)->(f.length:Int)<=1099511627776/\ ∀(g:List Int),g=putB f (16384:Int) (2:Int)->(Qbi0 a b g)) ((↑(0:Nat):Int)<=1099511627776/\ ∀(c:List Int),c=putB ([]:List Int) (69:Int) (1:Int)->(c.length:Int)<=1099511627776/\ ∀(d:List Int),d=putB c a.1 (1:Int)->(d.length:Int)<=1099511627776/\ ∀(e:List Int),e=putB d b (2:Int)->(e.length:Int)<=1099511627776/\ ∀(f:List Int),f=putB e a.2.1 (2:Int)->(f.length:Int)<=1099511627776/\ ∀(g:List Int),g=putB f (0:Int) (2:Int)->(Qbi0 a b g)):=by
  delta Qbi0
  rintro h n ⟨hw,-⟩ ⟨hok,n0,n1⟩
  obtain ⟨-,-,-,-,-,s0,d0⟩:=hw
  have s0:0<=h.2.2.2.2.2.1/\h.2.2.2.2.2.1<=4294967295:=s0
  have d0:0<=h.2.2.2.2.2.2/\h.2.2.2.2.2.2<=4294967295:=d0
  have es:IntKind.wrap .i64 h.2.2.2.2.2.1=h.2.2.2.2.2.1:=w64 (by omega) (by omega)
  have ed:IntKind.wrap .i64 h.2.2.2.2.2.2=h.2.2.2.2.2.2:=w64 (by omega) (by omega)
  rw [es,ed]
  have hc:=csum_range (hdr_bytes (n:=n) hok)
  obtain ⟨h1,h2,h3,h4,h5⟩:=hok
  have key:∀ f:Int,(f=if h.2.2.2.2.1 then 16384 else 0)->0<=f->f<=65535->((0:Nat):Int)<=1099511627776∧∀ x1,x1=putB [] 69 1->(x1.length:Int)<=1099511627776∧∀ x2,x2=putB x1 h.1 1->(x2.length:Int)<=1099511627776∧∀ x3,x3=putB x2 n 2->(x3.length:Int)<=1099511627776 ∧
      ∀ x4,x4=putB x3 h.2.1 2->(x4.length:Int)<=1099511627776∧∀ x5,x5=putB x4 f 2->(x5.length:Int)<=1099511627776∧∀ x6,x6=putB x5 h.2.2.1 1->(x6.length:Int)<=1099511627776∧∀ x7,x7=putB x6 h.2.2.2.1 1->((0:Nat):Int)<=1099511627776 ∧
      ∀ x8,x8=putB [] h.2.2.2.2.2.1 4->(x8.length:Int)<=1099511627776∧∀ x9,x9=putB x8 h.2.2.2.2.2.2 4->x7.length*1<=140737488355328/\(List.length [(0:Int),0]+x9.length)*1<=140737488355328/\(x7.length+List.length ([0,0]++x9))*1<=140737488355328 ∧
      ((x7++([0,0]++x9)).length:Int)<=1099511627776∧∀ c,c=65535-oc (sumF true (x7++([0,0]++x9)))->(x7.length:Int)<=1099511627776∧∀ x11,x11=putB x7 c 2->(x11.length+x9.length)*1<=140737488355328/\x11++x9=hdrB h n:=by
    intro f hf f0 f1
    refine ⟨by omega,?_⟩
    rintro x1 e1
    rw [putB_1 (by omega) (by omega)] at e1
    refine ⟨by rw [e1];simp,?_⟩
    rintro x2 e2
    rw [putB_1 h1.1 h1.2,e1] at e2
    refine ⟨by rw [e2];simp,?_⟩
    rintro x3 e3
    rw [putB_2 n0 n1,e2] at e3
    refine ⟨by rw [e3];simp [w2],?_⟩
    rintro x4 e4
    rw [putB_2 h4 h5,e3] at e4
    refine ⟨by rw [e4];simp [w2],?_⟩
    rintro x5 e5
    rw [putB_2 f0 f1,e4] at e5
    refine ⟨by rw [e5];simp [w2],?_⟩
    rintro x6 e6
    rw [putB_1 h2.1 h2.2,e5] at e6
    refine ⟨by rw [e6];simp [w2],?_⟩
    rintro x7 e7
    rw [putB_1 h3.1 h3.2,e6] at e7
    have e7:x7=hdrHead h n:=by rw [e7,hf];simp [hdrHead]
    refine ⟨by omega,?_⟩
    rintro x8 e8
    rw [putB_4 s0.1 s0.2] at e8
    refine ⟨by rw [e8];simp [w4],?_⟩
    rintro x9 e9
    rw [putB_4 d0.1 d0.2,e8] at e9
    have e9:x9=hdrTail h:=e9
    have l7:x7.length=10:=by rw [e7];rfl
    have l9:x9.length=8:=by rw [e9];rfl
    have eb:x7++([0,0]++x9)=hdrBody h n:=by rw [e7,e9];rfl
    refine ⟨by omega,by simp [l9],by simp [l7,l9],by simp [l7,l9],?_⟩
    rw [eb]
    rintro c rfl
    refine ⟨by omega,?_⟩
    rintro x11 e11
    rw [show 65535-oc (sumF true (hdrBody h n))=csum (hdrBody h n) from rfl,putB_2 hc.1 hc.2] at e11
    refine ⟨by rw [e11,List.length_append,l7,l9];simp [w2],?_⟩
    rw [e11,e7,e9,List.append_assoc];rfl
  refine ifP_split (fun hk => ?_) (fun hk => ?_)
  · exact key 16384 (by rw [hk];rfl) (by omega) (by omega)
  · exact key 0 (by rw [hk];rfl) (by omega) (by omega)
theorem ok_ref05_header:SpecOK Tryz.prog GL 123 ct_ref05_header.spec:=Ct.okH _ Tryz.func123 (by kernel_rfl) (withSpec_ok (withSpec_ok noSpecs_ok (Ct.named ok_ref04_Push)) (Ct.named ok_ref04_Checksum)) hmix an_ref05_header (hideMp (by kernel_rfl) vc_ref05_header)
def ct_ref05_Encode:Ct:=⟨[.agg cPacket],[.own 5 cU8,.val cI],fun d=>[(d.1.2.length:Int)<=1073741824],fun d=>((ipEnc d.1,ipErr d.1,()),())⟩
def an_ref05_Encode:PDs ct_ref05_Encode.ps->Anns:=(fun _=>{})
theorem vc_ref05_Encode :
 ∀(a:(Int×Int×Int×Int×Bool×Int×Int)×List Int),CT.wf cPacket a/\True->(a.2.length:Int)<=1073741824->ifP (! decide (hdrErr a.1=0)) (([]:List Int)=ipEnc a/\hdrErr a.1=ipErr a) (ifP (decide (1500<IntKind.wrap .i64 ((a.2.length:Int)+(20:Int)))) (([]:List Int)=ipEnc a/\(5:Int)=ipErr a) (hdrOK a.1/\0<=IntKind.wrap .i64 ((a.2.length:Int)+(20:Int))/\IntKind.wrap .i64 ((a.2.length:Int)+(20:Int))<=65535/\(List.length (hdrB a.1 (IntKind.wrap .i64 ((a.2.length:Int)+(20:Int))))+a.2.length)*(1:Nat)<=(140737488355328:Nat)/\hdrB a.1 (IntKind.wrap .i64 ((a.2.length:Int)+(20:Int)))++a.2=ipEnc a/\(0:Int)=ipErr a)):=by
  rintro d ⟨⟨hw,-⟩,-⟩ hl
  refine ifP_split (fun hc => ?_) (fun hc => ?_)
  · have hn:¬ hdrOK d.1:=fun k=>by rw [hdrErr,if_pos k] at hc;cases hc
    have he:ipErr d=1:=by rw [ipErr,if_pos hn]
    rw [ipEnc,he,hdrErr,if_neg hn];exact ⟨rfl,rfl⟩
  have hok:hdrOK d.1:=Classical.byContradiction fun k=>by rw [hdrErr,if_neg k] at hc;cases hc
  have e20:IntKind.wrap .i64 ((d.2.length:Int)+20)=20+d.2.length:=by rw [w64 (by omega) (by omega)];omega
  rw [e20]
  refine ifP_split (fun h5 => ?_) (fun h5 => ?_)
  · have h5:=of_decide_eq_true h5
    have he:ipErr d=5:=by rw [ipErr,if_neg (fun k=>k hok),if_pos (by omega)]
    rw [ipEnc,he];exact ⟨rfl,rfl⟩
  have h5:=of_decide_eq_false h5
  have he:ipErr d=0:=by rw [ipErr,if_neg (fun k=>k hok),if_neg (by omega)]
  refine ⟨hok,by omega,by omega,by rw [hdrB_len];omega,?_⟩
  rw [ipEnc,he,if_pos rfl]
  exact ⟨rfl,rfl⟩
theorem ok_ref05_Encode:SpecOK Tryz.prog GL 77 ct_ref05_Encode.spec:=Ct.okH _ Tryz.func77 (by kernel_rfl) (withSpec_ok (withSpec_ok noSpecs_ok ok_ref05_Check) ok_ref05_header) hmix an_ref05_Encode (hideMp (by kernel_rfl) vc_ref05_Encode)
end Go.RS

/- Probe: probes, their packets and keys. -/
namespace Go.RS
open Go.SX Go.Proofs
set_option maxRecDepth 100000
set_option linter.unusedVariables false
abbrev cProbe:CT := .pair cU32 (.pair cU32 (.pair cI (.pair cI (.pair cI cI))))
abbrev Probe:Type:=Int×Int×Int×Int×Int×Int
def protoOK (n:Int):Prop:=n=1∨n=6∨n=17
instance (n:Int):Decidable (protoOK n):=by unfold protoOK;infer_instance
def rangeOK (p:Probe):Prop:=(0<=p.2.2.2.1/\p.2.2.2.1<=1023)/\(0<=p.2.2.2.2.1/\p.2.2.2.2.1<=65534)/\1<=p.2.2.2.2.2/\p.2.2.2.2.2<=255
instance (p:Probe):Decidable (rangeOK p):=by unfold rangeOK;infer_instance
def probeErr (p:Probe):Int:=if ¬ protoOK p.2.2.1 then 16 else if ¬ rangeOK p then 1 else 0
def icmpN (p:Probe):Int:=oc (65535-(16384+p.2.2.2.1)+csum (echoBody (false,21075,p.2.2.2.2.1,[0,0])))
def udpX (p:Probe):Int:=oc (65535-(p.2.2.2.2.1+1)+pseudo p.1 p.2.1 17 (udpBody (20000+p.2.2.2.1,33434,[0,0])))
def udpN (p:Probe):Int:=if udpX p=0 then 65535 else udpX p
def conEcho (p:Probe):Echo:=(false,21075,p.2.2.2.2.1,w2 (icmpN p))
def conDgram (p:Probe):Dgram:=(20000+p.2.2.2.1,33434,w2 (udpN p))
def conSeg (p:Probe):Seg:=(20000+p.2.2.2.1,80,p.2.2.2.2.1,0,2,1024,[])
def conP (p:Probe):List Int:=if p.2.2.1=1 then echoEnc (conEcho p) else if p.2.2.1=17 then udpEnc p.1 p.2.1 (conDgram p) else tcpEnc p.1 p.2.1 (conSeg p)
def hdrP (p:Probe):Header:=(0,p.2.2.2.2.1,p.2.2.2.2.2,p.2.2.1,true,p.1,p.2.1)
def build (p:Probe):List Int:=if probeErr p=0 then ipEnc (hdrP p,conP p) else []
def key0:Key:=(0,0,0,0,0)
def probe0:Probe:=(0,0,0,0,0,0)
def keyPkt (x:Packet):Key:=(x.1.2.2.2.2.2.1,x.1.2.2.2.2.2.2,x.1.2.2.2.1,if protoOK x.1.2.2.2.1/\4<=x.2.length then wordAt x.2 0 else 0,if protoOK x.1.2.2.2.1/\4<=x.2.length then wordAt x.2 2 else 0)
def keyB (b:List Int):Key:=if decErr b=0 then keyPkt (decPkt b) else key0
theorem probe_ok {p:Probe}:probeErr p=0↔protoOK p.2.2.1/\rangeOK p:=by
  unfold probeErr
  constructor
  · intro h
    split at h
    · cases h
    · split at h
      · cases h
      · rename_i h1 h2;exact ⟨Decidable.not_not.1 h1,Decidable.not_not.1 h2⟩
  · rintro ⟨h1,h2⟩
    rw [if_neg (fun k=>k h1),if_neg (fun k=>k h2)]
theorem word_setW {b:List Int} {i:Nat} {c:Int} (h:i+2<=b.length) (c0:0<=c) (c1:c<=65535):wordAt (setW b i c) i=c:=by
  rw [wordAt_get (by rw [setW_len];exact h)]
  unfold setW
  rw [getD_ne (by omega),getD_same (by omega),getD_same (by rw [List.length_set];omega)]
  omega
theorem pseudo_lt {s d:Int} {p:Int} {X:List Int} (hx:bytes X) (hp:0<p%256):0<=pseudo s d p X/\pseudo s d p X<=65534:=by
  have h1:=(pseudo_range (a:=s) (b:=d) (p:=p) hx).1
  refine ⟨h1,?_⟩
  unfold pseudo at h1 ⊢
  split
  · omega
  · unfold csum
    rw [pseudo_sum]
    have h2:=head_nonneg s d p X.length
    have h3:=(sumF_range true X hx).1
    unfold oc
    rw [if_neg (by omega)];omega
theorem bytes2:bytes [0,0]:=bytes_cons (by omega) (by omega) (bytes_cons (by omega) (by omega) bytes_nil)
theorem bytes_echo0 (t:Int):bytes (echoBody (false,21075,t,[0,0])):=echo_bytes bytes2
theorem bytes_udp0 (f:Int):bytes (udpBody (20000+f,33434,[0,0])):=udp_bytes bytes2
theorem icmpN_pos {p:Probe} (h:rangeOK p):1<=icmpN p/\icmpN p<=65535:=by
  have:=csum_range (bytes_echo0 p.2.2.2.2.1)
  obtain ⟨⟨h1,h2⟩,-⟩:=h
  unfold icmpN oc
  rw [if_neg (by omega)];omega
theorem udpX_range {p:Probe} (h:rangeOK p):0<=udpX p/\udpX p<=65535:=by
  have:=pseudo_lt (s:=p.1) (d:=p.2.1) (p:=17) (bytes_udp0 p.2.2.2.1) (by decide)
  obtain ⟨-,⟨h1,h2⟩,-⟩:=h
  exact oc_range (by omega)
theorem udpN_pos {p:Probe} (h:rangeOK p):1<=udpN p/\udpN p<=65535:=by
  have:=udpX_range h
  unfold udpN;split <;> omega
theorem w2_bytes2 (n:Int):(w2 n).length=2:=rfl
theorem okEchoP {p:Probe} (h:rangeOK p):okEcho (w2 (icmpN p)) (conEcho p):=by
  obtain ⟨-,⟨h1,h2⟩,-⟩:=h
  exact ⟨⟨(word16_iff _).2 ⟨by show (0:Int)<=21075;omega,by show (21075:Int)<=_;omega⟩,(word16_iff _).2 ⟨h1,by show p.2.2.2.2.1<=_;omega⟩⟩,rfl⟩
theorem okDgramP {p:Probe} (h:rangeOK p):okDgram (w2 (udpN p)) (conDgram p):=by
  obtain ⟨⟨h1,h2⟩,-⟩:=h
  exact ⟨⟨(word16_iff _).2 ⟨by show (0:Int)<=20000+p.2.2.2.1;omega,by show 20000+p.2.2.2.1<=_;omega⟩,(word16_iff _).2 ⟨by show (0:Int)<=33434;omega,by show (33434:Int)<=_;omega⟩⟩,rfl⟩
theorem okSegP {p:Probe} (h:rangeOK p):okSeg [] (conSeg p):=by
  obtain ⟨⟨h1,h2⟩,⟨h3,h4⟩,-⟩:=h
  refine ⟨⟨(word16_iff _).2 ⟨?_,?_⟩,(word16_iff _).2 ⟨?_,?_⟩,⟨?_,?_⟩,⟨?_,?_⟩,⟨?_,?_⟩,(word16_iff _).2 ⟨?_,?_⟩⟩,rfl⟩ <;> simp only [conSeg] <;> omega
theorem echo_err0 {p:Probe} (h:rangeOK p):echoErr (conEcho p)=0:=echo_good (okEchoP h) (by rw [w2_bytes2];omega)
theorem udp_err0 {p:Probe} (h:rangeOK p):udpErr (conDgram p)=0:=udp_good (okDgramP h) (by rw [w2_bytes2];omega)
theorem tcp_err0 {p:Probe} (h:rangeOK p):tcpErr (conSeg p)=0:=tcp_good (okSegP h) (by simp)
theorem con_echo {p:Probe} (h:rangeOK p) (h1:p.2.2.1=1):conP p=setW (echoBody (conEcho p)) 2 (csum (echoBody (conEcho p))):=by
  rw [conP,if_pos h1,echoEnc,if_pos (echo_err0 h)]
theorem con_udp {p:Probe} (h:rangeOK p) (h1:p.2.2.1=17):conP p=setW (udpBody (conDgram p)) 6 (sumU p.1 p.2.1 (udpBody (conDgram p))):=by
  rw [conP,if_neg (by omega),if_pos h1,udpEnc,if_pos (udp_err0 h)]
theorem con_tcp {p:Probe} (h:rangeOK p) (h1:p.2.2.1=6):conP p=setW (tcpBody (conSeg p)) 16 (pseudo p.1 p.2.1 6 (tcpBody (conSeg p))):=by
  rw [conP,if_neg (by omega),if_neg (by omega),tcpEnc,if_pos (tcp_err0 h)]
theorem con_len {p:Probe} (h:probeErr p=0):(p.2.2.1≠6/\(conP p).length=10)∨(p.2.2.1=6/\(conP p).length=20):=by
  obtain ⟨h1|h1|h1,h2⟩:=probe_ok.1 h
  · rw [con_echo h2 h1,setW_len];exact .inl ⟨by omega,rfl⟩
  · rw [con_tcp h2 h1,setW_len];exact .inr ⟨h1,rfl⟩
  · rw [con_udp h2 h1,setW_len];exact .inl ⟨by omega,rfl⟩
theorem hdrP_ok {p:Probe} (h:probeErr p=0):hdrOK (hdrP p):=by
  obtain ⟨h1,⟨-,⟨h2,h3⟩,h4,h5⟩⟩:=probe_ok.1 h
  refine ⟨⟨?_,?_⟩,⟨?_,?_⟩,⟨?_,?_⟩,?_,?_⟩ <;> simp only [hdrP] <;> unfold protoOK at h1 <;> omega
theorem ipErr0 {p:Probe} (h:probeErr p=0):ipErr (hdrP p,conP p)=0:=by
  rw [ipErr,if_neg (fun k=>k (hdrP_ok h)),if_neg]
  rcases con_len h with h|h <;> rw [h.2] <;> simp
theorem build_eq {p:Probe} (h:probeErr p=0):build p=hdrB (hdrP p) (20+(conP p).length)++conP p:=by
  rw [build,if_pos h,ipEnc,if_pos (ipErr0 h)]
theorem build_len (p:Probe):(build p).length<=40:=by
  by_cases h:probeErr p=0
  · rw [build_eq h,List.length_append,hdrB_len]
    rcases con_len h with h|h <;> omega
  · rw [build,if_neg h];simp
def ct_ref07_Check:Ct:=⟨[.agg cProbe],[.val cI],fun d=>[],fun d=>((probeErr d.1,()),())⟩
def an_ref07_Check:PDs ct_ref07_Check.ps->Anns:=(fun _=>{})
def Qbj3 (a b c d e f:Int) :=
 (0<=a/\a<=4294967295)/\(0<=b/\b<=4294967295)/\R64 c/\R64 d/\R64 e/\R64 f
theorem vc_ref07_Check :
 ∀(a b c d e f:Int),(Qbj3 a b c d e f)/\True->True-> ∀(g:Bool),g= ! decide (c=1)->(g->(g->g)/\True)/\(g->(g->g)/\True)/\(g->g)/\ ∀(h:Bool),(h=bif g then ! decide (c=17) else false)->(h->(h->h)/\True)/\(h->(h->h)/\True)/\(h->h)/\ifP (bif h then ! decide (c=6) else false) ((16:Int)=probeErr (a,b,c,d,e,f)) (∀(i:Bool),i=decide (d<0)->((! i)->((! i)->(! i))/\True)/\((! i)->((! i)->(! i))/\True)/\(i=false->(! i))/\ ∀(j:Bool),(j=bif i then true else decide (1023<d))->((! j)->((! j)->(! j))/\True)/\((! j)->((! j)->(! j))/\True)/\(j=false->(! j))/\ ∀(k:Bool),(k=bif j then true else decide (e<0))->((! k)->((! k)->(! k))/\True)/\((! k)->((! k)->(! k))/\True)/\(k=false->(! k))/\ ∀(l:Bool),(l=bif k then true else decide (65534<e))->((! l)->((! l)->(! l))/\True)/\((! l)->((! l)->(! l))/\True)/\(l=false->(! l))/\ ∀(m:Bool),(m=bif l then true else decide (f<1))->((! m)->((! m)->(! m))/\True)/\((! m)->((!
 m)->(! m))/\True)/\(m=false->(! m))/\ifP (bif m then true else decide (255<f)) ((1:Int)=probeErr (a,b,c,d,e,f)) ((0:Int)=probeErr (a,b,c,d,e,f))):=by
  delta Qbj3
  rintro s d pr f t l - -
  (repeat (intro (b_:Bool) (hb_:b_=_);(repeat refine ⟨(by first|(simp;done)|(rw [hb_];simp;done)|(rw [hb_];simp;omega)|(rw [hb_];simp;intros;omega)|(rw [hb_];simp +contextual;done)),?_⟩);subst hb_))
  refine ifP_split (fun hc => ?_) (fun hc => ?_)
  · rw [probeErr,if_pos]
    simp only [protoOK]
    intro k
    rcases k with rfl|rfl|rfl <;> simp at hc
  have hp:protoOK pr:=by
    unfold protoOK
    by_cases h1:pr=1
    · exact .inl h1
    · by_cases h6:pr=17
      · exact .inr (.inr h6)
      · simp [h1,h6] at hc;exact .inr (.inl hc)
  have key:∀ (v:Int),(v=if rangeOK (s,d,pr,f,t,l) then 0 else 1)->v=probeErr (s,d,pr,f,t,l):=by
    intro v hv
    rw [probeErr,if_neg (fun k=>k hp),hv]
    by_cases k:rangeOK (s,d,pr,f,t,l)
    · rw [if_pos k,if_neg (fun q=>q k)]
    · rw [if_neg k,if_pos k]
  (repeat (intro (b_:Bool) (hb_:b_=_);(repeat refine ⟨(by first|(simp;done)|(rw [hb_];simp;done)|(rw [hb_];simp;omega)|(rw [hb_];simp;intros;omega)|(rw [hb_];simp +contextual;done)),?_⟩);subst hb_))
  refine ifP_split (fun h1 => ?_) (fun h1 => ?_)
  · have hn:¬ rangeOK (s,d,pr,f,t,l):=by
      rintro ⟨⟨a,b⟩,⟨a2,b2⟩,a3,b3⟩
      simp only at a b a2 b2 a3 b3
      simp [Bool.cond_eq_ite] at h1;omega
    exact key 1 (by rw [if_neg hn])
  · have hn:rangeOK (s,d,pr,f,t,l):=by
      simp [Bool.cond_eq_ite] at h1
      refine ⟨⟨?_,?_⟩,⟨?_,?_⟩,?_,?_⟩ <;> simp only <;> omega
    exact key 0 (by rw [if_pos hn])
theorem ok_ref07_Check:SpecOK Tryz.prog GL 76 ct_ref07_Check.spec:=Ct.okH _ Tryz.func76 (by kernel_rfl) noSpecs_ok hmix an_ref07_Check (hideMp (by kernel_rfl) vc_ref07_Check)
def ct_probe_Key:Ct:=⟨[.val (.sl cU8)],[.agg cKey,.val cI],fun d=>[(d.1.length:Int)<=1099511627776],fun d=>((keyB d.1,decErr d.1,()),())⟩
def an_probe_Key:PDs ct_probe_Key.ps->Anns:=(fun _=>{})
def Qbj1 (a:List Int) (b:(Int×Int×Int×Int×Bool×Int×Int)×List Int) :=
 (b.1.2.2.2.2.2.1,b.1.2.2.2.2.2.2,b.1.2.2.2.1,(0:Int),(0:Int))=keyB a/\(0:Int)=decErr a
def Qbj0 (a:List Int) (b:(Int×Int×Int×Int×Bool×Int×Int)×List Int) :=
 ifP (decide (4<=(b.2.length:Int))) ((b.2.length:Int)<=1099511627776/\(b.2.length:Int)<=1099511627776/\(b.1.2.2.2.2.2.1,b.1.2.2.2.2.2.2,b.1.2.2.2.1,getV b.2 (0:Int) (2:Int),getV b.2 (2:Int) (2:Int))=keyB a/\(0:Int)=decErr a) (Qbj1 a b)
theorem vc_probe_Key :
 ∀(a:List Int),(a.length<=maxLen/\ ∀(b:Int),b∈a->0<=b/\b<=255)/\True->(a.length:Int)<=1099511627776->(a.length:Int)<=1099511627776/\ ∀(b:(Int×Int×Int×Int×Bool×Int×Int)×List Int) (c:Int),b=decPkt a/\c=decErr a->ifP (! decide (c=0)) (((0:Int),(0:Int),(0:Int),(0:Int),(0:Int))=keyB a/\c=decErr a) (ifP (decide (b.1.2.2.2.1=1)) (ifP (decide (b.1.2.2.2.1=1)) (Qbj0 a b) (Qbj1 a b)) (ifP (decide (b.1.2.2.2.1=6)) (ifP (decide (b.1.2.2.2.1=6)) (Qbj0 a b) (Qbj1 a b)) (ifP (decide (b.1.2.2.2.1=17)) (Qbj0 a b) (Qbj1 a b)))):=by
  delta Qbj0 Qbj1
  rintro b ⟨⟨-,hb⟩,-⟩ hl
  refine ⟨hl,?_⟩
  rintro d e ⟨rfl,rfl⟩
  refine ifP_split (fun h => ?_) (fun h => ?_)
  · have h:¬ decErr b=0:=by simpa using h
    rw [keyB,if_neg h];exact ⟨rfl,rfl⟩
  have h:decErr b=0:=by simpa using h
  have hdl:=dec_len h
  have hk:keyB b=keyPkt (decPkt b):=by rw [keyB,if_pos h]
  rw [hk,h]
  have hpl:((decPkt b).2.length:Int)<=1500:=by rw [decPkt,if_pos h];simp only [List.length_drop];omega
  generalize decPkt b=x at *
  have yes:protoOK x.1.2.2.2.1->(4:Int)<=x.2.length->((x.2.length:Int)<=1099511627776/\(x.2.length:Int)<=1099511627776/\(x.1.2.2.2.2.2.1,x.1.2.2.2.2.2.2,x.1.2.2.2.1,getV x.2 0 2,getV x.2 2 2)=keyPkt x/\(0:Int)=0):=by
    intro h1 h2
    refine ⟨by omega,by omega,?_,rfl⟩
    rw [gV2 (by omega) (by omega),gV2 (by omega) (by omega),keyPkt,if_pos ⟨h1,by omega⟩,if_pos ⟨h1,by omega⟩];rfl
  have no:¬ (protoOK x.1.2.2.2.1/\(4:Int)<=x.2.length)->((x.1.2.2.2.2.2.1,x.1.2.2.2.2.2.2,x.1.2.2.2.1,(0:Int),(0:Int))=keyPkt x/\(0:Int)=0):=by
    intro h1
    rw [keyPkt,if_neg (fun k=>h1 ⟨k.1,by omega⟩),if_neg (fun k=>h1 ⟨k.1,by omega⟩)];exact ⟨rfl,rfl⟩
  refine ifP_split (fun h1 => ?_) (fun h1 => ?_)
  · refine ifP_split (fun _ => ?_) (fun k=>by rw [h1] at k;cases k)
    have h1:=of_decide_eq_true h1
    exact ifP_split (fun h4=>yes (.inl h1) (of_decide_eq_true h4)) (fun h4=>no (fun k=>(of_decide_eq_false h4) k.2))
  refine ifP_split (fun h6 => ?_) (fun h6 => ?_)
  · refine ifP_split (fun _ => ?_) (fun k=>by rw [h6] at k;cases k)
    have h6:=of_decide_eq_true h6
    exact ifP_split (fun h4=>yes (.inr (.inl h6)) (of_decide_eq_true h4)) (fun h4=>no (fun k=>(of_decide_eq_false h4) k.2))
  refine ifP_split (fun h17 => ?_) (fun h17 => ?_)
  · have h17:=of_decide_eq_true h17
    exact ifP_split (fun h4=>yes (.inr (.inr h17)) (of_decide_eq_true h4)) (fun h4=>no (fun k=>(of_decide_eq_false h4) k.2))
  · have h1:=of_decide_eq_false h1
    have h6:=of_decide_eq_false h6
    have h17:=of_decide_eq_false h17
    exact no (fun k=>by rcases k.1 with k|k|k <;> contradiction)
theorem ok_probe_Key:SpecOK Tryz.prog GL 198 ct_probe_Key.spec:=Ct.okH _ Tryz.func198 (by kernel_rfl) (withSpec_ok (withSpec_ok noSpecs_ok (Ct.named ok_ipv4_Decode)) ok_wire_Get) hmix an_probe_Key (hideMp (by kernel_rfl) vc_probe_Key)
def ct_ref07_balanced:Ct:=⟨[.val cI,.val cI],[.val cI],fun d=>[0<=d.1,d.1<=65535,0<=d.2.1,d.2.1<=65535],fun d=>((if oc (65535-d.2.1+d.1)=0 then 65535 else oc (65535-d.2.1+d.1),()),())⟩
def an_ref07_balanced:PDs ct_ref07_balanced.ps->Anns:=(fun _=>{})
def Qbj2 (a b:Int) :=
 if (word16 (IntKind.wrap .i64 ((65535:Int) -b))&&word16 a)=true then oc (IntKind.wrap .i64 ((65535:Int) -b)+a) else (0:Int)
theorem vc_ref07_balanced :
 ∀(a b:Int),R64 a/\R64 b/\True->0<=a/\a<=65535/\0<=b/\b<=65535->ifP (decide ((Qbj2 a b)=0)) ((65535:Int)=if oc ((65535:Int) -b+a)=0 then (65535:Int) else oc ((65535:Int) -b+a)) ((Qbj2 a b)=if oc ((65535:Int) -b+a)=0 then (65535:Int) else oc ((65535:Int) -b+a)):=by
  delta Qbj2
  rintro a b-⟨a0,a1,b0,b1⟩
  rw [w64 (n:=65535-b) (by omega) (by omega),if_pos (by simp only [Bool.and_eq_true,word16_iff];omega)]
  refine ifP_split (fun h => ?_) (fun h => ?_)
  · rw [if_pos (of_decide_eq_true h)]
  · rw [if_neg (of_decide_eq_false h)]
theorem ok_ref07_balanced:SpecOK Tryz.prog GL 125 ct_ref07_balanced.spec:=Ct.okH _ Tryz.func125 (by kernel_rfl) (withSpec_ok noSpecs_ok ok_ref04_Add) hmix an_ref07_balanced (hideMp (by kernel_rfl) vc_ref07_balanced)
def ct_ref07_data:Ct:=⟨[.agg cProbe],[.own 5 cU8],fun d=>[probeErr d.1=0],fun d=>((conP d.1,()),())⟩
def an_ref07_data:PDs ct_ref07_data.ps->Anns:=(fun _=>{})
theorem vc_ref07_data :
 ∀(a b c d e f:Int),(Qbj3 a b c d e f)/\True->probeErr (a,b,c,d,e,f)=0->ifP (decide (c=1)) (((List.length [(0:Int),(0:Int)]):Int)<=1073741824/\ ∀(g:List Int) (h:Int),g=echoEnc (false,(21075:Int),e,[(0:Int),(0:Int)])/\h=echoErr (false,(21075:Int),e,[(0:Int),(0:Int)])->(g.length:Int)<=1099511627776/\ ∀(i:Int),i=getV g (2:Int) (2:Int)->0<=i/\i<=65535/\0<=IntKind.wrap .i64 ((16384:Int)+d)/\IntKind.wrap .i64 ((16384:Int)+d)<=65535/\ ∀(j:Int),(j=if oc ((65535:Int) -IntKind.wrap .i64 ((16384:Int)+d)+i)=0 then (65535:Int) else oc ((65535:Int) -IntKind.wrap .i64 ((16384:Int)+d)+i))->(↑(0:Nat):Int)<=1099511627776/\ ∀(k:List Int),k=putB ([]:List Int) j (2:Int)->(k.length:Int)<=1073741824/\ ∀(l:List Int) (m:Int),l=echoEnc (false,(21075:Int),e,k)/\m=echoErr (false,(21075:Int),e,k)->l=conP (a,b,c,d,e,f)) (ifP (decide (c=17)) ((↑(0:Nat):Int)<=1099511627776/\ ∀(g:List Int),g=putB ([]:List Int)
 (IntKind.wrap .i64 ((20000:Int)+d)) (2:Int)->(g.length:Int)<=1099511627776/\ ∀(h:List Int),h=putB g (33434:Int) (2:Int)->(h.length+List.length [(0:Int),(10:Int),(0:Int),(0:Int),(0:Int),(0:Int)])*(1:Nat)<=(140737488355328:Nat)/\((List.length (h++[(0:Int),(10:Int),(0:Int),(0:Int),(0:Int),(0:Int)])):Int)<=1073741824/\ ∀(i:Int),i=pseudo a b (17:Int) (h++[(0:Int),(10:Int),(0:Int),(0:Int),(0:Int),(0:Int)])->0<=i/\i<=65535/\0<=IntKind.wrap .i64 (e+(1:Int))/\IntKind.wrap .i64 (e+(1:Int))<=65535/\ ∀(j:Int),(j=if oc ((65535:Int) -IntKind.wrap .i64 (e+(1:Int))+i)=0 then (65535:Int) else oc ((65535:Int) -IntKind.wrap .i64 (e+(1:Int))+i))->(↑(0:Nat):Int)<=1099511627776/\ ∀(k:List Int),k=putB ([]:List Int) j (2:Int)->(k.length:Int)<=1073741824/\udpEnc a b (IntKind.wrap .i64 ((20000:Int)+d),(33434:Int),k)=conP (a,b,c,d,e,f)) ((↑(0:Nat):Int)<=1000000/\tcpEnc a b (IntKind.wrap .i64
 ((20000:Int)+d),(80:Int),e,(0:Int),(2:Int),(1024:Int),([]:List Int))=conP (a,b,c,d,e,f))):=by
  delta Qbj3
  rintro s d pr f t l-he
  obtain ⟨hp,hr⟩:=probe_ok.1 he
  have hr':=hr
  obtain ⟨⟨f0,f1⟩,⟨t0,t1⟩,l0,l1⟩:=hr'
  simp only at f0 f1 t0 t1 l0 l1
  rw [w64 (n:=16384+f) (by omega) (by omega),w64 (n:=20000+f) (by omega) (by omega),w64 (n:=t+1) (by omega) (by omega)]
  refine ifP_split (fun h1 => ?_) (fun h1=>ifP_split (fun h17 => ?_) (fun h17 => ?_))
  · have h1:=of_decide_eq_true h1
    have e0:echoErr (false,21075,t,[0,0])=0:=echo_good (data:=[0,0]) ⟨⟨(word16_iff _).2 ⟨by show (0:Int)<=21075;omega,by show (21075:Int)<=_;omega⟩,(word16_iff _).2 ⟨t0,by show t<=_;omega⟩⟩,rfl⟩ (by simp)
    have hc:=csum_range (bytes_echo0 t)
    refine ⟨by simp,?_⟩
    rintro b _ ⟨rfl,-⟩
    rw [echoEnc,if_pos e0]
    have hl:(setW (echoBody (false,21075,t,[0,0])) 2 (csum (echoBody (false,21075,t,[0,0])))).length=10:=by rw [setW_len];rfl
    refine ⟨by omega,?_⟩
    rw [gV2 (by omega) (by omega),show Int.toNat 2=2 from rfl,word_setW (by show 2+2<=10;omega) hc.1 hc.2]
    rintro _ rfl
    refine ⟨hc.1,hc.2,by omega,by omega,?_⟩
    have hi:=icmpN_pos hr
    have ei:oc (65535-(16384+f)+csum (echoBody (false,21075,t,[0,0])))=icmpN (s,d,pr,f,t,l):=rfl
    rw [ei,if_neg (by omega)]
    rintro _ rfl
    refine ⟨by omega,?_⟩
    rw [putB_2 (by omega) (by omega)]
    rintro _ rfl
    refine ⟨by simp [w2],?_⟩
    rintro _ _ ⟨rfl,-⟩
    rw [conP,if_pos h1];rfl
  · have h17:=of_decide_eq_true h17
    refine ⟨by omega,?_⟩
    rw [putB_2 (by omega) (by omega)]
    rintro _ rfl
    refine ⟨by simp [w2],?_⟩
    rw [putB_2 (by omega) (by omega)]
    rintro _ rfl
    have eb:[]++w2 (20000+f)++w2 33434++[0,10,0,0,0,0]=udpBody (20000+f,33434,[0,0]):=by simp [udpBody,w2]
    rw [eb]
    refine ⟨by simp [w2],by show ((10:Nat):Int)<=_;omega,?_⟩
    have hq:=pseudo_lt (s:=s) (d:=d) (p:=17) (bytes_udp0 f) (by decide)
    rintro _ rfl
    refine ⟨hq.1,by omega,by omega,by omega,?_⟩
    have hu:=udpN_pos hr
    have eu:(if oc (65535-(t+1)+pseudo s d 17 (udpBody (20000+f,33434,[0,0])))=0 then 65535 else oc (65535-(t+1)+pseudo s d 17 (udpBody (20000+f,33434,[0,0]))))=udpN (s,d,pr,f,t,l):=rfl
    rw [eu]
    rintro _ rfl
    refine ⟨by omega,?_⟩
    rw [putB_2 (by omega) (by omega)]
    rintro _ rfl
    refine ⟨by simp [w2],?_⟩
    rw [conP,if_neg (by simp only;omega),if_pos h17];rfl
  · have h1:=of_decide_eq_false h1
    have h17:=of_decide_eq_false h17
    rw [conP,if_neg h1,if_neg h17]
    exact ⟨by omega,rfl⟩
theorem ok_ref07_data:SpecOK Tryz.prog GL 78 ct_ref07_data.spec:=Ct.okH _ Tryz.func78 (by kernel_rfl) (withSpec_ok (withSpec_ok (withSpec_ok (withSpec_ok (withSpec_ok (withSpec_ok (withSpec_ok noSpecs_ok (Ct.named ok_ref06_EncodeEcho)) (Ct.named ok_ref04_At)) (Ct.named ok_ref07_balanced)) (Ct.named ok_ref04_Push)) (Ct.named ok_ref06_Pseudo)) ok_ref06_EncodeUDP) ok_ref06_EncodeTCP) hmix an_ref07_data (hideMp (by kernel_rfl) vc_ref07_data)
def ct_ref07_Build:Ct:=⟨[.agg cProbe],[.own 5 cU8,.val cI],fun d=>[],fun d=>((build d.1,probeErr d.1,()),())⟩
def an_ref07_Build:PDs ct_ref07_Build.ps->Anns:=(fun _=>{})
theorem vc_ref07_Build :
 ∀(a b c d e f:Int),(Qbj3 a b c d e f)/\True->True->ifP (! decide (probeErr (a,b,c,d,e,f)=0)) (([]:List Int)=build (a,b,c,d,e,f)/\probeErr (a,b,c,d,e,f)=probeErr (a,b,c,d,e,f)) (probeErr (a,b,c,d,e,f)=0/\((List.length (conP (a,b,c,d,e,f))):Int)<=1073741824/\ipEnc (((0:Int),e,f,c,true,a,b),conP (a,b,c,d,e,f))=build (a,b,c,d,e,f)/\ipErr (((0:Int),e,f,c,true,a,b),conP (a,b,c,d,e,f))=probeErr (a,b,c,d,e,f)):=by
  delta Qbj3
  rintro s d pr f t l - -
  refine ifP_split (fun h => ?_) (fun h => ?_)
  · have h:¬ probeErr (s,d,pr,f,t,l)=0:=by simpa using h
    rw [build,if_neg h];exact ⟨rfl,rfl⟩
  have h:probeErr (s,d,pr,f,t,l)=0:=by simpa using h
  have e0:=ipErr0 h
  have hl:=con_len h
  refine ⟨h,by omega,?_⟩
  rw [build,if_pos h,h]
  exact ⟨rfl,e0⟩
theorem ok_ref07_Build:SpecOK Tryz.prog GL 29 ct_ref07_Build.spec:=Ct.okH _ Tryz.func29 (by kernel_rfl) (withSpec_ok (withSpec_ok (withSpec_ok noSpecs_ok ok_ref07_Check) ok_ref07_data) ok_ref05_Encode) hmix an_ref07_Build (hideMp (by kernel_rfl) vc_ref07_Build)
end Go.RS

/- Pback: probes read back from their packets. -/
namespace Go.RS
open Go.SX Go.Proofs
set_option maxRecDepth 100000
set_option linter.unusedVariables false
theorem okC_new (m:Int) (hm:0<=m) (l:List Int):okC (if (l.length:Int)<=m then l else l.take (Int.toNat m),0):=by
  split <;> simp [okC]
def u32 (n:Int):Prop:=0<=n/\n<=4294967295
end Go.RS

/- Addr: prefixes, and functions of Go's library over numbers. -/
namespace Go.RS
open Go.SX Go.Proofs
set_option maxRecDepth 100000
set_option linter.unusedVariables false
abbrev cPfx:CT := .pair cU32 cI
def icmp (a b:Int):Int:=if a<b then -1 else if b<a then 1 else 0
abbrev Pfx:Type:=Int×Int
def pcmp (p q:Pfx):Int:=if icmp p.1 q.1≠0 then icmp p.1 q.1 else icmp p.2 q.2
def firstNZ:List Int->Int
  | []=>0
  | x::xs=>if x≠0 then x else firstNZ xs
theorem drop_getD {l:List Int} {j:Int} (h0:0<=j) (h1:j<l.length):l.drop j.toNat=l.getD j.toNat default::l.drop (j+1).toNat:=by
  have hj:j.toNat<l.length:=by omega
  rw [List.drop_eq_getElem_cons hj,List.getD_eq_getElem?_getD,List.getElem?_eq_getElem hj,Option.getD_some]
  congr 2;omega
theorem mem_take_succ {α:Type} [Inhabited α] {l:List α} {j:Int} (h0:0<=j) (h1:j<l.length) {y:α} (hy:y∈l.take (j+1).toNat):y∈l.take j.toNat∨y=l.getD j.toNat default:=by
  have hj:j.toNat<l.length:=by omega
  have e:(j+1).toNat=j.toNat+1:=by omega
  rw [e,List.take_succ_eq_append_getElem hj] at hy
  rcases List.mem_append.1 hy with hy|hy
  · exact .inl hy
  · right
    simp at hy
    rw [List.getD_eq_getElem?_getD,List.getElem?_eq_getElem hj,Option.getD_some];exact hy
theorem idxOf_at {l:List Int} {v j:Int} (h0:0<=j) (h1:j<l.length) (hv:l.getD j.toNat default=v) (h2:∀ y∈l.take j.toNat,y≠v):l.idxOf v=j.toNat:=by
  have hj:j.toNat<l.length:=by omega
  rw [List.getD_eq_getElem?_getD,List.getElem?_eq_getElem hj,Option.getD_some] at hv
  have e:l=l.take j.toNat++l[j.toNat]::l.drop (j.toNat+1):=by
    rw [← List.drop_eq_getElem_cons hj,List.take_append_drop]
  rw [e,List.idxOf_append,if_neg (fun hm=>h2 v hm rfl),hv,List.idxOf_cons_self]
  simp;omega
def ct_cmp_isNaN_bef2:Ct:=⟨[.val cI],[.val .bool],fun _=>[],fun _=>((false,()),())⟩
def an_cmp_isNaN_bef2:PDs ct_cmp_isNaN_bef2.ps->Anns:=(fun _=>{})
theorem vc_cmp_isNaN_bef2 :
 ∀(a:Int),R64 a/\True->True->(! decide (a=a))=false:=by
  rintro x - -
  simp
theorem ok_cmp_isNaN_bef2:SpecOK Tryz.prog GL 184 ct_cmp_isNaN_bef2.spec:=Ct.okH _ Tryz.func184 (by kernel_rfl) noSpecs_ok hmix an_cmp_isNaN_bef2 (hideMp (by kernel_rfl) vc_cmp_isNaN_bef2)
def ct_cmp_isNaN_1748:Ct:=⟨[.val cU32],[.val .bool],fun _=>[],fun _=>((false,()),())⟩
def an_cmp_isNaN_1748:PDs ct_cmp_isNaN_1748.ps->Anns:=(fun _=>{})
theorem vc_cmp_isNaN_1748 :
 ∀(a:Int),(0<=a/\a<=4294967295)/\True->True->(! decide (a=a))=false:=by
  rintro x - -
  simp
theorem ok_cmp_isNaN_1748:SpecOK Tryz.prog GL 183 ct_cmp_isNaN_1748.spec:=Ct.okH _ Tryz.func183 (by kernel_rfl) noSpecs_ok hmix an_cmp_isNaN_1748 (hideMp (by kernel_rfl) vc_cmp_isNaN_1748)
def ct_cmp_Compare_bef2:Ct:=⟨[.val cI,.val cI],[.val cI],fun _=>[],fun d=>((icmp d.1 d.2.1,()),())⟩
def an_cmp_Compare_bef2:PDs ct_cmp_Compare_bef2.ps->Anns:=(fun _=>{})
theorem vc_cmp_Compare_bef2 :
 ∀(a b:Int),R64 a/\R64 b/\True->True->ifP (decide (a<b)) ((-1:Int)=icmp a b) (ifP (decide (b<a)) ((1:Int)=icmp a b) ((0:Int)=icmp a b)):=by
  rintro x y - -
  unfold icmp
  refine ifP_split (fun h => ?_) (fun h=>ifP_split (fun h2 => ?_) (fun h2 => ?_))
  · rw [if_pos (of_decide_eq_true h)]
  · rw [if_neg (of_decide_eq_false h),if_pos (of_decide_eq_true h2)]
  · rw [if_neg (of_decide_eq_false h),if_neg (of_decide_eq_false h2)]
theorem ok_cmp_Compare_bef2:SpecOK Tryz.prog GL 150 ct_cmp_Compare_bef2.spec:=Ct.okH _ Tryz.func150 (by kernel_rfl) (withSpec_ok noSpecs_ok ok_cmp_isNaN_bef2) hmix an_cmp_Compare_bef2 (hideMp (by kernel_rfl) vc_cmp_Compare_bef2)
def ct_cmp_Compare_1748:Ct:=⟨[.val cU32,.val cU32],[.val cI],fun _=>[],fun d=>((icmp d.1 d.2.1,()),())⟩
def an_cmp_Compare_1748:PDs ct_cmp_Compare_1748.ps->Anns:=(fun _=>{})
theorem vc_cmp_Compare_1748 :
 ∀(a b:Int),(0<=a/\a<=4294967295)/\(0<=b/\b<=4294967295)/\True->True->ifP (decide (a<b)) ((-1:Int)=icmp a b) (ifP (decide (b<a)) ((1:Int)=icmp a b) ((0:Int)=icmp a b)):=by
  rintro x y - -
  unfold icmp
  refine ifP_split (fun h => ?_) (fun h=>ifP_split (fun h2 => ?_) (fun h2 => ?_))
  · rw [if_pos (of_decide_eq_true h)]
  · rw [if_neg (of_decide_eq_false h),if_pos (of_decide_eq_true h2)]
  · rw [if_neg (of_decide_eq_false h),if_neg (of_decide_eq_false h2)]
theorem ok_cmp_Compare_1748:SpecOK Tryz.prog GL 149 ct_cmp_Compare_1748.spec:=Ct.okH _ Tryz.func149 (by kernel_rfl) (withSpec_ok noSpecs_ok ok_cmp_isNaN_1748) hmix an_cmp_Compare_1748 (hideMp (by kernel_rfl) vc_cmp_Compare_1748)
def ct_cmp_Or_bef2:Ct:=⟨[.val (.sl cI)],[.val cI],fun _=>[],fun d=>((firstNZ d.1,()),())⟩
def an_cmp_Or_bef2:PDs ct_cmp_Or_bef2.ps->Anns:=(fun d=>{loops:=(fun n=>match n with|3=>some (fun S=>{ι:=Int,μ:=fun i=>(d.1.length-i).toNat,inv:=fun i=>0<=i/\i<=d.1.length/\firstNZ d.1=firstNZ (d.1.drop i.toNat),keep:=[3,6,7],slots:=fun i=>[(8,.int .i64 i)],names:=fun i=>[]})|_=>none)})
def Qbl0 (a:List Int) :=
 (a.length:Int)
theorem vc_cmp_Or_bef2 :
 ∀(a:List Int),(a.length<=maxLen/\ ∀(b:Int),b∈a->R64 b)/\True->True->(∃(b:Int),(0<=b/\b<=(Qbl0 a)/\firstNZ a=firstNZ (List.drop b.toNat a))/\(0:Int)=0/\a=a/\(Qbl0 a)=(Qbl0 a)/\(0:Int)=b/\True)/\ ∀(b:Int),0<=b/\b<=(Qbl0 a)/\firstNZ a=firstNZ (List.drop b.toNat a)->ifP (decide (b<(Qbl0 a))) (0<=b/\b<(Qbl0 a)/\ifP (! decide (a.getD b.toNat default=0)) (a.getD b.toNat default=firstNZ a) (∃(c:Int),(0<=c/\c<=(Qbl0 a)/\firstNZ a=firstNZ (List.drop c.toNat a))/\Int.toNat ((Qbl0 a) -c)<Int.toNat ((Qbl0 a) -b)/\(0:Int)=0/\a=a/\(Qbl0 a)=(Qbl0 a)/\IntKind.wrap .i64 (b+(1:Int))=c/\True)) ((0:Int)=firstNZ a):=by
  delta Qbl0
  rintro x ⟨⟨hl,-⟩,-⟩ -
  simp only [maxLen] at hl
  refine ⟨⟨0,⟨by omega,by omega,rfl⟩,(by repeat' first|exact trivial|refine ⟨trivial,?_⟩|refine ⟨(by with_reducible rfl),?_⟩|refine ⟨w64 (by omega) (by omega),?_⟩|refine ⟨rfl,?_⟩)⟩,?_⟩
  rintro j ⟨h0,h1,h2⟩
  refine ifP_split (fun hj => ?_) (fun hj => ?_)
  · have hj:=of_decide_eq_true hj
    have e:=drop_getD (l:=x) h0 hj
    rw [e] at h2
    refine ⟨h0,hj,ifP_split (fun hz => ?_) (fun hz => ?_)⟩
    · have hz:x.getD j.toNat default≠0:=by simpa only [Bool.not_eq_true',decide_eq_false_iff_not] using hz
      rw [h2,firstNZ,if_pos hz]
    · have hz:¬ x.getD j.toNat default≠0:=by simpa only [Bool.not_eq_false',decide_eq_true_eq,ne_eq,Decidable.not_not] using hz
      rw [firstNZ,if_neg hz] at h2
      exact ⟨j+1,⟨by omega,by omega,h2⟩,by omega,(by repeat' first|exact trivial|refine ⟨trivial,?_⟩|refine ⟨(by with_reducible rfl),?_⟩|refine ⟨w64 (by omega) (by omega),?_⟩|refine ⟨rfl,?_⟩)⟩
  · have hj:=of_decide_eq_false hj
    rw [h2,List.drop_eq_nil_of_le (by omega)];rfl
theorem ok_cmp_Or_bef2:SpecOK Tryz.prog GL 148 ct_cmp_Or_bef2.spec:=Ct.okH _ Tryz.func148 (by kernel_rfl) noSpecs_ok hmix an_cmp_Or_bef2 (hideMp (by kernel_rfl) vc_cmp_Or_bef2)
def ct_address_Compare:Ct:=⟨[.agg cPfx,.agg cPfx],[.val cI],fun _=>[],fun d=>((pcmp d.1 d.2.1,()),())⟩
def an_address_Compare:PDs ct_address_Compare.ps->Anns:=(fun _=>{})
theorem vc_address_Compare :
 ∀(a b c d:Int),((0<=a/\a<=4294967295)/\R64 b)/\((0<=c/\c<=4294967295)/\R64 d)/\True->True->firstNZ [icmp a c,icmp b d]=pcmp (a,b) (c,d):=by
  rintro x y z u - -
  simp only [firstNZ,pcmp]
  split
  · rfl
  · split
    · rfl
    · rename_i h;simp at h;exact h.symm
theorem ok_address_Compare:SpecOK Tryz.prog GL 98 ct_address_Compare.spec:=Ct.okH _ Tryz.func98 (by kernel_rfl) (withSpec_ok (withSpec_ok (withSpec_ok noSpecs_ok ok_cmp_Compare_1748) ok_cmp_Compare_bef2) ok_cmp_Or_bef2) hmix an_address_Compare (hideMp (by kernel_rfl) vc_address_Compare)
def sz (n:Int):Int:=2^(32-n).toNat
def pValid (p:Pfx):Bool:=decide (0<=p.2/\p.2<=32/\p.1%sz p.2=0)
def contains (p:Pfx) (a:Int):Bool:=pValid p&&decide (p.1<=a/\a<p.1+sz p.2)
theorem sz_nat (n:Int):sz n=((2^(32-n).toNat:Nat):Int):=by unfold sz;rw [Int.natCast_pow];rfl
theorem sz_cases {n:Int} (h0:0<=n) (h1:n<=32):∃ k:Nat,k<=32/\n=32-k/\sz n=((2^k:Nat):Int):=⟨(32-n).toNat,by omega,by omega,sz_nat n⟩
theorem mask_eq {n:Int} (h0:0<=n) (h1:n<=32):shlI .u32 4294967295 (32-n)=4294967296-sz n:=by
  obtain ⟨k,hk,rfl,e⟩:=sz_cases h0 h1
  rw [e]
  have:(32:Int)-(32-(k:Int))=(k:Int):=by omega
  rw [this]
  unfold shlI
  rw [IntKind.wrap_u32]
  have hm:min ((k:Int)).toNat IntKind.u32.bits=k:=by simp only [IntKind.bits,Int.toNat_natCast];omega
  rw [hm]
  have hd:∀ k:Nat,k<=32->(4294967295*2^k:Int)%4294967296=4294967296-((2^k:Nat):Int):=by decide
  exact hd k hk
theorem mask_not {x n:Int} (h0:0<=x) (h1:x<=4294967295) (h2:0<=n) (h3:n<=32):bits .andNot .u32 x (4294967296-sz n)=x%sz n:=by
  obtain ⟨k,hk,rfl,e⟩:=sz_cases h2 h3
  have hp:(2:Nat)^k<=2^32:=Nat.pow_le_pow_right (by decide) hk
  have hp0:0<(2:Nat)^k:=Nat.two_pow_pos k
  rw [e,u32_andNot _ _ h0 (by omega) (by omega) (by omega)]
  have e1:4294967295-((4294967296:Int)-((2^k:Nat):Int)).toNat=2^k-1:=by omega
  rw [e1,Nat.and_two_pow_sub_one_eq_mod]
  obtain ⟨m,rfl⟩:=Int.eq_ofNat_of_zero_le h0
  rw [Int.toNat_natCast,Int.natCast_emod]
theorem and_high {a k:Nat} (hk:k<=32) (ha:a<4294967296):a &&& (4294967296-2^k)=a/2^k*2^k:=by
  have e:4294967296-2^k=(2^(32-k)-1) <<< k:=by
    rw [Nat.shiftLeft_eq,Nat.sub_mul,← Nat.pow_add,Nat.one_mul]
    congr 1
    rw [show 32-k+k=32 from by omega]
  rw [e,← Nat.shiftRight_eq_div_pow,← Nat.shiftLeft_eq]
  apply Nat.eq_of_testBit_eq
  intro i
  simp only [Nat.testBit_and,Nat.testBit_shiftLeft,Nat.testBit_two_pow_sub_one,Nat.testBit_shiftRight]
  by_cases hi:k<=i
  · have e2:k+(i-k)=i:=by omega
    simp only [hi,decide_true,Bool.true_and,e2]
    by_cases h32:i<32
    · have:i-k<32-k:=by omega
      simp [this]
    · have:a.testBit i=false:=Nat.testBit_lt_two_pow (Nat.lt_of_lt_of_le ha (Nat.pow_le_pow_right (show 0<2 by decide) (by omega:32<=i)))
      simp [this]
  · simp [hi]
theorem mask_and {a n x:Int} (h0:0<=a) (h1:a<=4294967295) (h2:0<=n) (h3:n<=32) (hx:0<=x) (hm:x%sz n=0) :
    (bits .and .u32 a (4294967296-sz n)=x)↔(x<=a/\a<x+sz n):=by
  obtain ⟨k,hk,rfl,e⟩:=sz_cases h2 h3
  have hp:(2:Nat)^k<=2^32:=Nat.pow_le_pow_right (by decide) hk
  have hp0:0<(2:Nat)^k:=Nat.two_pow_pos k
  rw [e] at hm ⊢
  rw [u32_and _ _ h0 (by omega) (by omega) (by omega)]
  have e1:((4294967296:Int)-((2^k:Nat):Int)).toNat=4294967296-2^k:=by omega
  rw [e1,and_high hk (by omega)]
  obtain ⟨m,rfl⟩:=Int.eq_ofNat_of_zero_le h0
  obtain ⟨y,rfl⟩:=Int.eq_ofNat_of_zero_le hx
  rw [Int.toNat_natCast]
  have hm:y%2^k=0:=by
    have:((y%2^k:Nat):Int)=0:=by rw [Int.natCast_emod];exact hm
    omega
  generalize 2^k=s at *
  have d:=Nat.div_add_mod m s
  have dl:=Nat.mod_lt m hp0
  have dy:=Nat.div_add_mod y s
  rw [hm] at dy
  rw [Nat.mul_comm] at d
  constructor
  · intro h;omega
  · rintro ⟨h,h'⟩
    have hq:m/s=y/s:=by
      apply Nat.le_antisymm
      · have:m<(y/s+1)*s:=by rw [Nat.add_mul,Nat.one_mul,Nat.mul_comm (y/s)];omega
        have:=Nat.div_lt_of_lt_mul (Nat.mul_comm _ _▸this:m<s*(y/s+1))
        omega
      · exact Nat.div_le_div_right (by omega)
    rw [hq,Nat.mul_comm];omega
def ct_address_mask:Ct:=⟨[.val cI],[.val cU32],fun d=>[0<=d.1/\d.1<=32],fun d=>((4294967296-sz d.1,()),())⟩
def an_address_mask:PDs ct_address_mask.ps->Anns:=(fun _=>{})
theorem vc_address_mask :
 ∀(a:Int),R64 a/\True->0<=a/\a<=32->0<=IntKind.wrap .i64 ((32:Int) -a)/\shlI IntKind.u32 (4294967295:Int) (IntKind.wrap .i64 ((32:Int) -a))=4294967296 -sz a:=by
  rintro x-⟨h0,h1⟩
  rw [w64 (by omega) (by omega)]
  exact ⟨by omega,mask_eq h0 h1⟩
theorem ok_address_mask:SpecOK Tryz.prog GL 147 ct_address_mask.spec:=Ct.okH _ Tryz.func147 (by kernel_rfl) noSpecs_ok hmix an_address_mask (hideMp (by kernel_rfl) vc_address_mask)
def ct_address_Valid:Ct:=⟨[.agg cPfx],[.val .bool],fun _=>[],fun d=>((pValid d.1,()),())⟩
def an_address_Valid:PDs ct_address_Valid.ps->Anns:=(fun _=>{})
theorem vc_address_Valid :
 ∀(a b:Int),((0<=a/\a<=4294967295)/\R64 b)/\True->True-> ∀(c:Bool),c=decide (0<=b)->(c->(c->c)/\True)/\(c->(c->c)/\True)/\(c->c)/\ ∀(d:Bool),(d=bif c then decide (b<=32) else false)->(d->(d->d)/\True)/\(d->(d->d)/\True)/\(d->(d->d)/\(0<=b/\b<=32)/\True)/\(d->(d->d)/\(d->d)/\True)/\(d->(d->d)/\True)/\(d->d)/\(bif d then decide (bits BinOp.andNot IntKind.u32 a ((4294967296:Int) -sz b)=0) else false)=pValid (a,b):=by
  rintro x n ⟨⟨⟨h0,h1⟩,-⟩,-⟩ -
  (repeat (intro (b_:Bool) (hb_:b_=_);(repeat refine ⟨(by first|(simp;done)|(rw [hb_];simp;done)|(rw [hb_];simp;omega)|(rw [hb_];simp;intros;omega)|(rw [hb_];simp +contextual;done)),?_⟩);subst hb_))
  by_cases hn:0<=n/\n<=32
  · have:=mask_not (n:=n) h0 h1 hn.1 hn.2
    simp [pValid,hn,this]
  · simp only [pValid]
    by_cases h2:0<=n
    · have:¬ n<=32:=fun h=>hn ⟨h2,h⟩
      simp [this]
    · simp [h2]
theorem ok_address_Valid:SpecOK Tryz.prog GL 97 ct_address_Valid.spec:=Ct.okH _ Tryz.func97 (by kernel_rfl) (withSpec_ok noSpecs_ok ok_address_mask) hmix an_address_Valid (hideMp (by kernel_rfl) vc_address_Valid)
def ct_address_Contains:Ct:=⟨[.agg cPfx,.val cU32],[.val .bool],fun _=>[],fun d=>((contains d.1 d.2.1,()),())⟩
def an_address_Contains:PDs ct_address_Contains.ps->Anns:=(fun _=>{})
theorem vc_address_Contains :
 ∀(a b c:Int),((0<=a/\a<=4294967295)/\R64 b)/\(0<=c/\c<=4294967295)/\True->True-> ∀(d:Bool),d=pValid (a,b)->(d->(d->d)/\True)/\(d->(d->d)/\(0<=b/\b<=32)/\True)/\(d->(d->d)/\(d->d)/\True)/\(d->(d->d)/\True)/\(d->(d->d)/\(d->d)/\True)/\(d->d)/\(bif d then decide (bits BinOp.and IntKind.u32 c ((4294967296:Int) -sz b)=a) else false)=contains (a,b) c:=by
  rintro x n a ⟨⟨⟨h0,h1⟩,-⟩,⟨h2,h3⟩,-⟩ -
  have hv:∀ b:Bool,b=pValid (x,n)->b=true->0<=n/\n<=32/\x%sz n=0:=by
    rintro b rfl h;simpa [pValid] using h
  rintro b hb
  have hr:=hv b hb
  refine ⟨by simp,fun h=>⟨fun _=>h,⟨(hr h).1,(hr h).2.1⟩,trivial⟩,by simp,by simp,by simp,by simp,?_⟩
  unfold contains
  rw [← hb]
  cases b with
  | false=>rfl
  | true =>
    obtain ⟨r1,r2,r3⟩:=hr rfl
    have:=mask_and (n:=n) (x:=x) h2 h3 r1 r2 h0 r3
    rw [Bool.eq_iff_iff];simpa using this
theorem ok_address_Contains:SpecOK Tryz.prog GL 146 ct_address_Contains.spec:=Ct.okH _ Tryz.func146 (by kernel_rfl) (withSpec_ok (withSpec_ok noSpecs_ok ok_address_mask) ok_address_Valid) hmix an_address_Contains (hideMp (by kernel_rfl) vc_address_Contains)
def ct_slices_Index_263e:Ct:=⟨[.val (.sl cI),.val cI],[.val cI],fun _=>[],fun d=>((if d.2.1∈d.1 then (d.1.idxOf d.2.1:Int) else -1,()),())⟩
def an_slices_Index_263e:PDs ct_slices_Index_263e.ps->Anns:=(fun d=>{loops:=(fun n=>match n with|2=>some (fun S=>{ι:=Int,μ:=fun i=>(d.1.length-i).toNat,inv:=fun i=>0<=i/\i<=d.1.length∧∀ y∈d.1.take i.toNat,y≠d.2.1,keep:=[0,1,6,7],slots:=fun i=>[(8,.int .i64 i)],names:=fun i=>[]})|_=>none)})
theorem vc_slices_Index_263e :
 ∀(a:List Int) (b:Int),(a.length<=maxLen/\ ∀(c:Int),c∈a->R64 c)/\R64 b/\True->True->(∃(c:Int),(0<=c/\c<=(Qbl0 a)/\ ∀(d:Int),d∈List.take c.toNat a->d≠b)/\a=a/\b=b/\a=a/\(Qbl0 a)=(Qbl0 a)/\(0:Int)=c/\True)/\ ∀(c:Int),(0<=c/\c<=(Qbl0 a)/\ ∀(d:Int),d∈List.take c.toNat a->d≠b)->ifP (decide (c<(Qbl0 a))) (0<=c/\c<(Qbl0 a)/\ifP (decide (b=a.getD c.toNat default)) (c=if b∈a then (↑(List.idxOf b a):Int) else (-1:Int)) (∃(d:Int),(0<=d/\d<=(Qbl0 a)/\ ∀(e:Int),e∈List.take d.toNat a->e≠b)/\Int.toNat ((Qbl0 a) -d)<Int.toNat ((Qbl0 a) -c)/\a=a/\b=b/\a=a/\(Qbl0 a)=(Qbl0 a)/\IntKind.wrap .i64 (c+(1:Int))=d/\True)) ((-1:Int)=if b∈a then (↑(List.idxOf b a):Int) else (-1:Int)):=by
  delta Qbl0
  rintro x v ⟨⟨hl,-⟩,-⟩ -
  simp only [maxLen] at hl
  refine ⟨⟨0,⟨by omega,by omega,by simp⟩,(by repeat' first|exact trivial|refine ⟨trivial,?_⟩|refine ⟨(by with_reducible rfl),?_⟩|refine ⟨w64 (by omega) (by omega),?_⟩|refine ⟨rfl,?_⟩)⟩,?_⟩
  rintro j ⟨h0,h1,h2⟩
  refine ifP_split (fun hj => ?_) (fun hj => ?_)
  · have hj:=of_decide_eq_true hj
    refine ⟨h0,hj,ifP_split (fun hz => ?_) (fun hz => ?_)⟩
    · have hz:=of_decide_eq_true hz
      have hm:v∈x:=by rw [hz];exact getD_mem h0 hj
      rw [if_pos hm]
      have:=idxOf_at (l:=x) (v:=v) h0 hj hz.symm h2
      omega
    · have hz:=of_decide_eq_false hz
      refine ⟨j+1,⟨by omega,by omega,fun y hy => ?_⟩,by omega,(by repeat' first|exact trivial|refine ⟨trivial,?_⟩|refine ⟨(by with_reducible rfl),?_⟩|refine ⟨w64 (by omega) (by omega),?_⟩|refine ⟨rfl,?_⟩)⟩
      rcases mem_take_succ h0 hj hy with hy|rfl
      · exact h2 y hy
      · exact fun e=>hz e.symm
  · have hj:=of_decide_eq_false hj
    rw [List.take_of_length_le (by omega)] at h2
    rw [if_neg (fun hm=>h2 v hm rfl)]
theorem ok_slices_Index_263e:SpecOK Tryz.prog GL 185 ct_slices_Index_263e.spec:=Ct.okH _ Tryz.func185 (by kernel_rfl) noSpecs_ok hmix an_slices_Index_263e (hideMp (by kernel_rfl) vc_slices_Index_263e)
def ct_slices_Contains_263e:Ct:=⟨[.val (.sl cI),.val cI],[.val .bool],fun _=>[],fun d=>((decide (d.2.1∈d.1),()),())⟩
def an_slices_Contains_263e:PDs ct_slices_Contains_263e.ps->Anns:=(fun _=>{})
theorem vc_slices_Contains_263e :
 ∀(a:List Int) (b:Int),(a.length<=maxLen/\ ∀(c:Int),c∈a->R64 c)/\R64 b/\True->True->decide (0<=if b∈a then (↑(List.idxOf b a):Int) else (-1:Int))=decide (b∈a):=by
  rintro x v - -
  by_cases h:v∈x
  · rw [if_pos h];simp [h];
  · rw [if_neg h];simp [h]
theorem ok_slices_Contains_263e:SpecOK Tryz.prog GL 151 ct_slices_Contains_263e.spec:=Ct.okH _ Tryz.func151 (by kernel_rfl) (withSpec_ok noSpecs_ok ok_slices_Index_263e) hmix an_slices_Contains_263e (hideMp (by kernel_rfl) vc_slices_Contains_263e)
end Go.RS
