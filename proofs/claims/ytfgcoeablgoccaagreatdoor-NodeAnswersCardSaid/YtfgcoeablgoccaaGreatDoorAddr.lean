/- Ipv4: packets without options. -/
import Derived.Test.YtfgcoeablgoccaaGreatDoorTrback
import Derived.Test.YtfgcoeablgoccaaGreatDoorWire
import Derived.Laws.BitsAllLaws
namespace Go.RS
open Go.SX Go.Proofs
set_option maxRecDepth 100000
set_option linter.unusedVariables false
abbrev cHeader:CT := .pair cI (.pair cI (.pair cI (.pair cI (.pair .bool (.pair cU32 cU32)))))
abbrev cPacket:CT := .pair cHeader (.sl cU8)
abbrev Header:Type:=Int×Int×Int×Int×Bool×Int×Int
abbrev Packet:Type:=Header×List Int
def in8 (n:Int):Prop:=0<=n/\n<=255
instance (n:Int):Decidable (in8 n):=by unfold in8;infer_instance
def hdrOK (h:Header):Prop:=in8 h.1/\in8 h.2.2.1/\in8 h.2.2.2.1/\0<=h.2.1/\h.2.1<=65535
instance (h:Header):Decidable (hdrOK h):=by unfold hdrOK;infer_instance
def hdrErr (h:Header):Int:=if hdrOK h then 0 else 1
def hdrHead (h:Header) (n:Int):List Int:=[69,h.1]++(w2 n++(w2 h.2.1++(w2 (if h.2.2.2.2.1 then 16384 else 0)++[h.2.2.1,h.2.2.2.1])))
def hdrTail (h:Header):List Int:=w4 h.2.2.2.2.2.1++w4 h.2.2.2.2.2.2
def hdrBody (h:Header) (n:Int):List Int:=hdrHead h n++([0,0]++hdrTail h)
def hdrB (h:Header) (n:Int):List Int:=setW (hdrBody h n) 10 (csum (hdrBody h n))
def ipErr (p:Packet):Int:=if ¬ hdrOK p.1 then 1 else if (1480:Int)<p.2.length then 5 else 0
def ipEnc (p:Packet):List Int:=if ipErr p=0 then hdrB p.1 (20+p.2.length)++p.2 else []
def pkErr (b:List Int):Int :=
  if (b.length:Int)<20 then 3 else if ¬ (b.getD 0 default=69/\(wordAt b 6=0∨wordAt b 6=16384)/\20<=wordAt b 2) then 2
  else if csum (setW (b.take 20) 10 0)≠wordAt b 10 then 4 else 0
def hdr0:Header:=(0,0,0,0,false,0,0)
def pkHdrF (b:List Int):Header:=(b.getD 1 default,wordAt b 4,b.getD 8 default,b.getD 9 default,decide (wordAt b 6=16384),numB ((b.drop 12).take 4),numB ((b.drop 16).take 4))
def pkHdr (b:List Int):Header:=if pkErr b=0 then pkHdrF b else hdr0
def pkLen (b:List Int):Int:=if pkErr b=0 then wordAt b 2 else 0
def decErr (b:List Int):Int:=if pkErr b≠0 then pkErr b else if wordAt b 2≠b.length then 2 else if 1500<wordAt b 2 then 5 else 0
def decPkt (b:List Int):Packet:=if decErr b=0 then (pkHdrF b,b.drop 20) else (hdr0,[])
def lowHdr (h:Header):Header:=(h.1,h.2.1,h.2.2.1-1,h.2.2.2)
def lowErr (b:List Int):Int:=if decErr b≠0 then decErr b else if (pkHdrF b).2.2.1<2 then 7 else 0
def lowB (b:List Int):List Int:=if lowErr b=0 then ipEnc (lowHdr (pkHdrF b),b.drop 20) else []
theorem hdrBody_len (h:Header) (n:Int):(hdrBody h n).length=20:=rfl
theorem hdrB_len (h:Header) (n:Int):(hdrB h n).length=20:=by unfold hdrB;rw [setW_len];rfl
theorem hdr_bytes {h:Header} {n:Int} (hk:hdrOK h):bytes (hdrBody h n):=by
  obtain ⟨h1,h2,h3,-⟩:=hk
  exact bytes_app (bytes_app (bytes_cons (by omega) (by omega) (bytes_cons h1.1 h1.2 bytes_nil)) (bytes_app (bytes_w2 _) (bytes_app (bytes_w2 _) (bytes_app (bytes_w2 _) (bytes_cons h2.1 h2.2 (bytes_cons h3.1 h3.2 bytes_nil))))))
    (bytes_app (bytes_cons (by omega) (by omega) (bytes_cons (by omega) (by omega) bytes_nil)) (bytes_app (bytes_w4 _) (bytes_w4 _)))
theorem hdrB_bytes {h:Header} {n:Int} (hk:hdrOK h):bytes (hdrB h n):=bytes_setW (hdr_bytes hk)
theorem cons_of {n:Nat} {b:List Int} (h:n+1<=b.length):∃ x r,b=x::r/\n<=r.length:=by
  cases b with
  | nil=>simp at h
  | cons x r=>exact ⟨x,r,rfl,by simpa using h⟩
theorem split20 {b:List Int} (h:20<=b.length):∃ x0 x1 x2 x3 x4 x5 x6 x7 x8 x9 x10 x11 x12 x13 x14 x15 x16 x17 x18 x19 r,b=x0::x1::x2::x3::x4::x5::x6::x7::x8::x9::x10::x11::x12::x13::x14::x15::x16::x17::x18::x19::r:=by
  obtain ⟨x0,b1,rfl,h1⟩:=cons_of (n:=19) h
  obtain ⟨x1,b2,rfl,h2⟩:=cons_of (n:=18) h1
  obtain ⟨x2,b3,rfl,h3⟩:=cons_of (n:=17) h2
  obtain ⟨x3,b4,rfl,h4⟩:=cons_of (n:=16) h3
  obtain ⟨x4,b5,rfl,h5⟩:=cons_of (n:=15) h4
  obtain ⟨x5,b6,rfl,h6⟩:=cons_of (n:=14) h5
  obtain ⟨x6,b7,rfl,h7⟩:=cons_of (n:=13) h6
  obtain ⟨x7,b8,rfl,h8⟩:=cons_of (n:=12) h7
  obtain ⟨x8,b9,rfl,h9⟩:=cons_of (n:=11) h8
  obtain ⟨x9,b10,rfl,h10⟩:=cons_of (n:=10) h9
  obtain ⟨x10,b11,rfl,h11⟩:=cons_of (n:=9) h10
  obtain ⟨x11,b12,rfl,h12⟩:=cons_of (n:=8) h11
  obtain ⟨x12,b13,rfl,h13⟩:=cons_of (n:=7) h12
  obtain ⟨x13,b14,rfl,h14⟩:=cons_of (n:=6) h13
  obtain ⟨x14,b15,rfl,h15⟩:=cons_of (n:=5) h14
  obtain ⟨x15,b16,rfl,h16⟩:=cons_of (n:=4) h15
  obtain ⟨x16,b17,rfl,h17⟩:=cons_of (n:=3) h16
  obtain ⟨x17,b18,rfl,h18⟩:=cons_of (n:=2) h17
  obtain ⟨x18,b19,rfl,h19⟩:=cons_of (n:=1) h18
  obtain ⟨x19,b20,rfl,h20⟩:=cons_of (n:=0) h19
  exact ⟨x0,x1,x2,x3,x4,x5,x6,x7,x8,x9,x10,x11,x12,x13,x14,x15,x16,x17,x18,x19,b20,rfl⟩
theorem numB1 (a:Int):numB [a]=a:=by simp [numB]
theorem numB4 (a b c d:Int):numB [a,b,c,d]=((a*256+b)*256+c)*256+d:=by simp [numB]
theorem getV_in {b:List Int} {a w:Int} (h1:1<=w) (h2:w<=7) (h3:0<=a) (h4:a+w<=b.length):getV b a w=numB ((b.drop a.toNat).take w.toNat):=by
  rw [getV,if_neg (by omega)]
theorem drop_take1 {b:List Int} {i:Nat} (h:i<b.length):(b.drop i).take 1=[b.getD i default]:=by
  rw [List.drop_eq_getElem_cons h,List.getD_eq_getElem?_getD,List.getElem?_eq_getElem h];rfl
theorem gV1 {b:List Int} {a:Int} (h3:0<=a) (h4:a+1<=b.length):getV b a 1=b.getD a.toNat default:=by
  rw [getV_in (by omega) (by omega) h3 h4,show (1:Int).toNat=1 from rfl,drop_take1 (by omega),numB1]
theorem gV2 {b:List Int} {a:Int} (h3:0<=a) (h4:a+2<=b.length):getV b a 2=wordAt b a.toNat:=by
  rw [getV_in (by omega) (by omega) h3 h4];rfl
theorem gV4 {b:List Int} {a:Int} (h3:0<=a) (h4:a+4<=b.length):getV b a 4=numB ((b.drop a.toNat).take 4):=by
  rw [getV_in (by omega) (by omega) h3 h4];rfl
theorem take_get {b:List Int} {n i:Nat} (h:i<n):(b.take n).getD i default=b.getD i default:=by
  rw [List.getD_eq_getElem?_getD,List.getElem?_take,if_pos h,← List.getD_eq_getElem?_getD]
theorem take_drop_take {b:List Int} {n i k:Nat} (h:i+k<=n):((b.take n).drop i).take k=(b.drop i).take k:=by
  rw [List.drop_take,List.take_take,Nat.min_eq_left (by omega)]
theorem take_word {b:List Int} {n i:Nat} (h:i+2<=n):wordAt (b.take n) i=wordAt b i:=by
  unfold wordAt;rw [take_drop_take h]
theorem bytes_take {b:List Int} {n:Nat} (h:bytes b):bytes (b.take n):=fun x hx=>h x (List.mem_of_mem_take hx)
theorem bytes_drop {b:List Int} {n:Nat} (h:bytes b):bytes (b.drop n):=fun x hx=>h x (List.mem_of_mem_drop hx)
theorem bytes_get {b:List Int} (h:bytes b) {i:Nat} (hi:i<b.length):0<=b.getD i default/\b.getD i default<=255:=by
  have:=getD_mem (xs:=b) (i:=(i:Int)) (by omega) (by omega)
  exact h _ this
theorem bytes_word {b:List Int} (h:bytes b) (i:Nat):0<=wordAt b i/\wordAt b i<=65535:=by
  have:=numB_bound 2 ((b.drop i).take 2) (by rw [List.length_take];omega) (fun x hx=>h x (List.mem_of_mem_drop (List.mem_of_mem_take hx)))
  have e:(256:Int)^2=65536:=rfl
  unfold wordAt;omega
theorem bytes_num4 {b:List Int} (h:bytes b) (i:Nat):0<=numB ((b.drop i).take 4)/\numB ((b.drop i).take 4)<=4294967295:=by
  have:=numB_bound 4 ((b.drop i).take 4) (by rw [List.length_take];omega) (fun x hx=>h x (List.mem_of_mem_drop (List.mem_of_mem_take hx)))
  have e:(256:Int)^4=4294967296:=rfl
  omega
theorem bytes_uncons {a:Int} {l:List Int} (h:bytes (a::l)):(0<=a/\a<=255)/\bytes l:=⟨h a List.mem_cons_self,fun x hx=>h x (List.mem_cons_of_mem _ hx)⟩
theorem w4_num {a b c d:Int} (ha:0<=a/\a<=255) (hb:0<=b/\b<=255) (hc:0<=c/\c<=255) (hd:0<=d/\d<=255):w4 (((a*256+b)*256+c)*256+d)=[a,b,c,d]:=by
  unfold w4
  have e1:(((a*256+b)*256+c)*256+d)/16777216%256=a:=by omega
  have e2:(((a*256+b)*256+c)*256+d)/65536%256=b:=by omega
  have e3:(((a*256+b)*256+c)*256+d)/256%256=c:=by omega
  have e4:(((a*256+b)*256+c)*256+d)%256=d:=by omega
  rw [e1,e2,e3,e4]
theorem hdr_body {b:List Int} (hb:bytes b) (hl:20<=b.length) (h0:b.getD 0 default=69) (hf:wordAt b 6=0∨wordAt b 6=16384) :
    hdrBody (pkHdrF b) (wordAt b 2)=setW (b.take 20) 10 0/\(hdrB (pkHdrF b) (wordAt b 2)=b.take 20↔csum (setW (b.take 20) 10 0)=wordAt b 10):=by
  obtain ⟨x0,x1,x2,x3,x4,x5,x6,x7,x8,x9,x10,x11,x12,x13,x14,x15,x16,x17,x18,x19,r,rfl⟩:=split20 hl
  have hb0:=hb
  obtain ⟨k0,hb⟩:=bytes_uncons hb
  obtain ⟨k1,hb⟩:=bytes_uncons hb
  obtain ⟨k2,hb⟩:=bytes_uncons hb
  obtain ⟨k3,hb⟩:=bytes_uncons hb
  obtain ⟨k4,hb⟩:=bytes_uncons hb
  obtain ⟨k5,hb⟩:=bytes_uncons hb
  obtain ⟨k6,hb⟩:=bytes_uncons hb
  obtain ⟨k7,hb⟩:=bytes_uncons hb
  obtain ⟨k8,hb⟩:=bytes_uncons hb
  obtain ⟨k9,hb⟩:=bytes_uncons hb
  obtain ⟨k10,hb⟩:=bytes_uncons hb
  obtain ⟨k11,hb⟩:=bytes_uncons hb
  obtain ⟨k12,hb⟩:=bytes_uncons hb
  obtain ⟨k13,hb⟩:=bytes_uncons hb
  obtain ⟨k14,hb⟩:=bytes_uncons hb
  obtain ⟨k15,hb⟩:=bytes_uncons hb
  obtain ⟨k16,hb⟩:=bytes_uncons hb
  obtain ⟨k17,hb⟩:=bytes_uncons hb
  obtain ⟨k18,hb⟩:=bytes_uncons hb
  obtain ⟨k19,hb⟩:=bytes_uncons hb
  have e2:wordAt (x0::x1::x2::x3::x4::x5::x6::x7::x8::x9::x10::x11::x12::x13::x14::x15::x16::x17::x18::x19::r) 2=x2*256+x3:=wordAt0 _ _ _
  have e4:wordAt (x0::x1::x2::x3::x4::x5::x6::x7::x8::x9::x10::x11::x12::x13::x14::x15::x16::x17::x18::x19::r) 4=x4*256+x5:=wordAt0 _ _ _
  have e6:wordAt (x0::x1::x2::x3::x4::x5::x6::x7::x8::x9::x10::x11::x12::x13::x14::x15::x16::x17::x18::x19::r) 6=x6*256+x7:=wordAt0 _ _ _
  have e10:wordAt (x0::x1::x2::x3::x4::x5::x6::x7::x8::x9::x10::x11::x12::x13::x14::x15::x16::x17::x18::x19::r) 10=x10*256+x11:=wordAt0 _ _ _
  have n12:numB (((x0::x1::x2::x3::x4::x5::x6::x7::x8::x9::x10::x11::x12::x13::x14::x15::x16::x17::x18::x19::r).drop 12).take 4)=((x12*256+x13)*256+x14)*256+x15:=numB4 _ _ _ _
  have n16:numB (((x0::x1::x2::x3::x4::x5::x6::x7::x8::x9::x10::x11::x12::x13::x14::x15::x16::x17::x18::x19::r).drop 16).take 4)=((x16*256+x17)*256+x18)*256+x19:=numB4 _ _ _ _
  have h0:x0=69:=h0
  subst h0
  rw [e6] at hf
  have hk:w2 (if decide (x6*256+x7=16384) then 16384 else 0)=[x6,x7]:=by
    rcases hf with hf|hf
    · rw [hf]
      have:x6=0/\x7=0:=by omega
      rw [this.1,this.2];rfl
    · rw [hf]
      have:x6=64/\x7=0:=by omega
      rw [this.1,this.2];rfl
  have hbody:hdrBody (pkHdrF (69::x1::x2::x3::x4::x5::x6::x7::x8::x9::x10::x11::x12::x13::x14::x15::x16::x17::x18::x19::r)) (wordAt (69::x1::x2::x3::x4::x5::x6::x7::x8::x9::x10::x11::x12::x13::x14::x15::x16::x17::x18::x19::r) 2)=setW ((69::x1::x2::x3::x4::x5::x6::x7::x8::x9::x10::x11::x12::x13::x14::x15::x16::x17::x18::x19::r).take 20) 10 0:=by
    unfold hdrBody hdrHead hdrTail pkHdrF
    simp only
    rw [e2,e4,e6,n12,n16,hk,w2_pair k2.1 k2.2 k3.1 k3.2,w2_pair k4.1 k4.2 k5.1 k5.2,w4_num k12 k13 k14 k15,w4_num k16 k17 k18 k19]
    rfl
  refine ⟨hbody,?_⟩
  rw [hdrB,hbody,e10]
  have hc:=csum_range (b:=setW ((69::x1::x2::x3::x4::x5::x6::x7::x8::x9::x10::x11::x12::x13::x14::x15::x16::x17::x18::x19::r).take 20) 10 0) (bytes_setW (fun x hx=>hb0 x (List.mem_of_mem_take hx)))
  generalize csum (setW ((69::x1::x2::x3::x4::x5::x6::x7::x8::x9::x10::x11::x12::x13::x14::x15::x16::x17::x18::x19::r).take 20) 10 0)=c at hc ⊢
  have e:setW (setW ((69::x1::x2::x3::x4::x5::x6::x7::x8::x9::x10::x11::x12::x13::x14::x15::x16::x17::x18::x19::r).take 20) 10 0) 10 c=[69,x1,x2,x3,x4,x5,x6,x7,x8,x9,c/256%256,c%256,x12,x13,x14,x15,x16,x17,x18,x19]:=rfl
  rw [e]
  have e':(69::x1::x2::x3::x4::x5::x6::x7::x8::x9::x10::x11::x12::x13::x14::x15::x16::x17::x18::x19::r).take 20=[69,x1,x2,x3,x4,x5,x6,x7,x8,x9,x10,x11,x12,x13,x14,x15,x16,x17,x18,x19]:=rfl
  rw [e']
  constructor
  · intro h
    simp only [List.cons.injEq,and_true,true_and] at h
    omega
  · intro h
    have:c/256%256=x10/\c%256=x11:=by omega
    rw [this.1,this.2]
def cutP (k:Nat):Nat:=[0,1,2,4,6,8,9,10,12,16,20].getD k 20
theorem hdr_step {h:Header} {n f k:Int} (hok:hdrOK h) (n0:0<=n) (n1:n<=65535) (s0:0<=h.2.2.2.2.2.1/\h.2.2.2.2.2.1<=4294967295) (d0:0<=h.2.2.2.2.2.2/\h.2.2.2.2.2.2<=4294967295) (hf:f=if h.2.2.2.2.1 then 16384 else 0) (k0:0<=k) (k1:k<10) :
    putB ((hdrBody h n).take (cutP k.toNat)) (pickI [69,h.1,n,h.2.1,f,h.2.2.1,h.2.2.2.1,0,h.2.2.2.2.2.1,h.2.2.2.2.2.2] k.toNat) (pickI [1,1,2,2,2,1,1,2,4,4] k.toNat)=(hdrBody h n).take (cutP (k+1).toNat):=by
  obtain ⟨h1,h2,h3,h4,h5⟩:=hok
  have hf0:0<=f/\f<=65535:=by rw [hf];split <;> omega
  have:k=0∨k=1∨k=2∨k=3∨k=4∨k=5∨k=6∨k=7∨k=8∨k=9:=by omega
  rcases this with rfl|rfl|rfl|rfl|rfl|rfl|rfl|rfl|rfl|rfl
  · exact putB_1 (b:=[]) (n:=69) (by omega) (by omega)
  · exact putB_1 (b:=[69]) h1.1 h1.2
  · exact putB_2 (b:=[69,h.1]) n0 n1
  · exact putB_2 (b:=[69,h.1]++w2 n) h4 h5
  · have:=putB_2 (b:=[69,h.1]++(w2 n++w2 h.2.1)) hf0.1 hf0.2
    rw [hf] at this ⊢;exact this
  · exact putB_1 (b:=(hdrBody h n).take 8) h2.1 h2.2
  · exact putB_1 (b:=(hdrBody h n).take 9) h3.1 h3.2
  · exact putB_2 (b:=(hdrBody h n).take 10) (n:=0) (by omega) (by omega)
  · exact putB_4 (b:=(hdrBody h n).take 12) s0.1 s0.2
  · exact putB_4 (b:=(hdrBody h n).take 16) d0.1 d0.2
theorem pk_long {b:List Int} (h:pkErr b=0):20<=b.length:=by
  unfold pkErr at h
  split at h
  · cases h
  · omega
theorem dec_pk {b:List Int} (h:decErr b=0):pkErr b=0:=by
  unfold decErr at h
  split at h
  · rename_i k;exact absurd h k
  · rename_i k;exact Decidable.not_not.1 k
theorem dec_len {b:List Int} (h:decErr b=0):(b.length:Int)<=1500/\wordAt b 2=b.length:=by
  unfold decErr at h
  split at h
  · rename_i k;exact absurd h k
  · split at h
    · cases h
    · split at h
      · cases h
      · omega
theorem dec_ok {b:List Int} (hb:bytes b) (h:pkErr b=0):hdrOK (pkHdrF b):=by
  have hl:=pk_long h
  exact ⟨bytes_get hb (by omega),bytes_get hb (by omega),bytes_get hb (by omega),bytes_word hb 4⟩
theorem low_ok {b:List Int} (hb:bytes b) (h:decErr b=0) (h2:¬ (pkHdrF b).2.2.1<2):hdrOK (lowHdr (pkHdrF b)):=by
  obtain ⟨k1,k2,k3,k4⟩:=dec_ok hb (dec_pk h)
  refine ⟨k1,?_,k3,k4⟩
  obtain ⟨k5,k6⟩:=k2
  show 0<=(pkHdrF b).2.2.1-1/\(pkHdrF b).2.2.1-1<=255
  omega
def ct_ipv4_Check_1:Ct:=⟨[.val cI],[.val .bool],fun d=>[],fun d=>((decide (in8 d.1),()),())⟩
def an_ipv4_Check_1:PDs ct_ipv4_Check_1.ps->Anns:=(fun _=>{})
theorem vc_ipv4_Check_1 :
 ∀(a:Int),R64 a/\True->True-> ∀(b:Bool),b=decide (0<=a)->(b->(b->b)/\True)/\(b->b)/\(bif b then decide (a<256) else false)=decide (in8 a):=by
  rintro n - -
  (repeat (intro (b_:Bool) (hb_:b_=_);(repeat refine ⟨(by first|(simp;done)|(rw [hb_];simp;done)|(rw [hb_];simp;omega)|(rw [hb_];simp;intros;omega)|(rw [hb_];simp +contextual;done)),?_⟩);subst hb_))
  unfold in8
  by_cases h:0<=n <;> simp [h] <;> omega
theorem ok_ipv4_Check_1:SpecOK Tryz.prog GL 172 ct_ipv4_Check_1.spec:=Ct.okH _ Tryz.func172 (by kernel_rfl) noSpecs_ok hmix an_ipv4_Check_1 (hideMp (by kernel_rfl) vc_ipv4_Check_1)
def ct_ipv4_Check:Ct:=⟨[.agg cHeader],[.val cI],fun d=>[],fun d=>((hdrErr d.1,()),())⟩
def an_ipv4_Check:PDs ct_ipv4_Check.ps->Anns:=(fun _=>{})
def Qbi15 (b:Bool) :=
 (! b)->((! b)->(! b))/\True
theorem vc_ipv4_Check :
 ∀(a:Header),CT.wf cHeader a/\True->True-> ∀(b:Bool),b= ! decide (in8 a.1)->(Qbi15 b)/\((! b)->((! b)->(! b))/\((! b)->(! b))/\True)/\(Qbi15 b)/\(b=false->(! b))/\ ∀(c:Bool),(c=bif b then true else ! decide (in8 a.2.2.1))->((! c)->((! c)->(! c))/\True)/\((! c)->((! c)->(! c))/\((! c)->(! c))/\True)/\((! c)->((! c)->(! c))/\True)/\(c=false->(! c))/\ ∀(d:Bool),(d=bif c then true else ! decide (in8 a.2.2.2.1))->((! d)->((! d)->(! d))/\True)/\((! d)->((! d)->(! d))/\True)/\(d=false->(! d))/\ ∀(e:Bool),(e=bif d then true else decide (a.2.1<0))->((! e)->((! e)->(! e))/\True)/\((! e)->((! e)->(! e))/\True)/\(e=false->(! e))/\ifP (bif e then true else decide (65536<=a.2.1)) ((1:Int)=hdrErr a) ((0:Int)=hdrErr a):=by
  delta Qbi15
  rintro h - -
  (repeat (intro (b_:Bool) (hb_:b_=_);(repeat refine ⟨(by first|(simp;done)|(rw [hb_];simp;done)|(rw [hb_];simp;omega)|(rw [hb_];simp;intros;omega)|(rw [hb_];simp +contextual;done)),?_⟩);subst hb_))
  refine ifP_split (fun hc => ?_) (fun hc => ?_)
  · rw [hdrErr,if_neg]
    intro k;obtain ⟨k1,k2,k3,k4,k5⟩:=k
    simp [k1,k2,k3,Bool.cond_eq_ite] at hc;omega
  · rw [hdrErr,if_pos]
    simp [Bool.cond_eq_ite] at hc
    exact ⟨hc.1.1.1.1,hc.1.1.1.2,hc.1.1.2,by omega,by omega⟩
theorem ok_ipv4_Check:SpecOK Tryz.prog GL 131 ct_ipv4_Check.spec:=Ct.okH _ Tryz.func131 (by kernel_rfl) (withSpec_ok noSpecs_ok ok_ipv4_Check_1) hmix an_ipv4_Check (hideMp (by kernel_rfl) vc_ipv4_Check)
def ct_ipv4_Encode:Ct:=⟨[.agg cPacket],[.own 5 cU8,.val cI],fun d=>[(d.1.2.length:Int)<=1073741824],fun d=>((ipEnc d.1,ipErr d.1,()),())⟩
def an_ipv4_Encode:PDs ct_ipv4_Encode.ps->Anns:=(fun d=>{loops:=(fun n=>match n with|12=>some (fun S=>{ι:=Int×(List Int),qn:=⟨fun k_=>∀ (k:Int) (ys:(List Int)),k_ (k,ys),fun k_ h_ i=>h_ i.1 i.2,fun k_=>∃ (k:Int) (ys:(List Int)),k_ (k,ys),fun k_ ⟨k,ys,h_⟩=>⟨_,h_⟩⟩,μ:=fun i=>(10-i.1).toNat,inv:=fun i=>0<=i.1/\i.1<=10/\i.2=(hdrBody d.1.1 (20+d.1.2.length)).take (cutP i.1.toNat),keep:=[1,4,53],slots:=fun i=>[(7,.own 524288 1),(54,.int .i64 i.1)],keepN:=[32,80],names:=fun i=>[(524288,.live (.row 5 cU8 i.2))]})|_=>none)})
def Qbi2 (a:(Int×Int×Int×Int×Bool×Int×Int)×List Int) (b:Int) (c:List Int) :=
 (2:Int)=2/\a.1.2.2.1=a.1.2.2.1/\(1:Int)=1/\a.1.2.2.2.1=a.1.2.2.2.1/\(1:Int)=1/\(0:Int)=0/\(2:Int)=2/\IntKind.wrap .i64 a.1.2.2.2.2.2.1=IntKind.wrap .i64 a.1.2.2.2.2.2.1/\(4:Int)=4/\IntKind.wrap .i64 a.1.2.2.2.2.2.2=IntKind.wrap .i64 a.1.2.2.2.2.2.2/\(4:Int)=4/\(0:Int)=b/\a.1.1=a.1.1/\a.1.2.1=a.1.2.1/\a.1.2.2.1=a.1.2.2.1/\a.1.2.2.2.1=a.1.2.2.2.1/\a.1.2.2.2.2.1=a.1.2.2.2.2.1/\a.1.2.2.2.2.2.1=a.1.2.2.2.2.2.1/\a.1.2.2.2.2.2.2=a.1.2.2.2.2.2.2/\a.2=a.2/\a.1.1=a.1.1/\a.1.2.1=a.1.2.1/\a.1.2.2.1=a.1.2.2.1/\a.1.2.2.2.1=a.1.2.2.2.1/\a.1.2.2.2.2.1=a.1.2.2.2.2.1/\a.1.2.2.2.2.2.1=a.1.2.2.2.2.2.1/\a.1.2.2.2.2.2.2=a.1.2.2.2.2.2.2/\c=([]:List Int)/\True
def Qbi3 (a:(Int×Int×Int×Int×Bool×Int×Int)×List Int) (b:Int) (d:List Int) (f:Int) (g:List Int) :=
 (2:Int)=2/\a.1.2.2.1=a.1.2.2.1/\(1:Int)=1/\a.1.2.2.2.1=a.1.2.2.2.1/\(1:Int)=1/\(0:Int)=0/\(2:Int)=2/\IntKind.wrap .i64 a.1.2.2.2.2.2.1=IntKind.wrap .i64 a.1.2.2.2.2.2.1/\(4:Int)=4/\IntKind.wrap .i64 a.1.2.2.2.2.2.2=IntKind.wrap .i64 a.1.2.2.2.2.2.2/\(4:Int)=4/\IntKind.wrap .i64 (b+(1:Int))=f/\a.1.1=a.1.1/\a.1.2.1=a.1.2.1/\a.1.2.2.1=a.1.2.2.1/\a.1.2.2.2.1=a.1.2.2.2.1/\a.1.2.2.2.2.1=a.1.2.2.2.2.1/\a.1.2.2.2.2.2.1=a.1.2.2.2.2.2.1/\a.1.2.2.2.2.2.2=a.1.2.2.2.2.2.2/\a.2=a.2/\a.1.1=a.1.1/\a.1.2.1=a.1.2.1/\a.1.2.2.1=a.1.2.2.1/\a.1.2.2.2.1=a.1.2.2.2.1/\a.1.2.2.2.2.1=a.1.2.2.2.2.1/\a.1.2.2.2.2.2.1=a.1.2.2.2.2.2.1/\a.1.2.2.2.2.2.2=a.1.2.2.2.2.2.2/\d=g/\True
def Qbi9 (c:List Int) (d:Int) :=
 List.set c (Int.toNat (10:Int)) (IntKind.wrap .u8 (shrI IntKind.i64 d (8:Int)))
def Qbi5 (a:(Int×Int×Int×Int×Bool×Int×Int)×List Int) (c:List Int) :=
 (c.length:Int)<=1099511627776/\ ∀(d:Int),d=65535 -oc (sumF true c)->(0:Int)<=8/\(0:Int)<=10/\10<(c.length:Int)/\(0:Int)<=11/\11<((List.length (Qbi9 c d)):Int)/\(List.length (List.set (Qbi9 c d) (Int.toNat (11:Int)) (IntKind.wrap .u8 d))+a.2.length)*(1:Nat)<=(140737488355328:Nat)/\List.set (Qbi9 c d) (Int.toNat (11:Int)) (IntKind.wrap .u8 d)++a.2=ipEnc a/\(0:Int)=ipErr a
def Qbi6 (a:(Int×Int×Int×Int×Bool×Int×Int)×List Int) :=
 (20:Int)+(a.2.length:Int)
def Qbi7 (b:Int) :=
 pickI [(1:Int),(1:Int),(2:Int),(2:Int),(2:Int),(1:Int),(1:Int),(2:Int),(4:Int),(4:Int)] b.toNat
def Qbi10 (a:(Int×Int×Int×Int×Bool×Int×Int)×List Int) (b:Int) :=
 pickI [(69:Int),a.1.1,IntKind.wrap .i64 (Qbi6 a),a.1.2.1,(16384:Int),a.1.2.2.1,a.1.2.2.2.1,(0:Int),IntKind.wrap .i64 a.1.2.2.2.2.2.1,IntKind.wrap .i64 a.1.2.2.2.2.2.2] b.toNat
def Qbi11 (a:(Int×Int×Int×Int×Bool×Int×Int)×List Int) (b:Int) :=
 pickI [(69:Int),a.1.1,IntKind.wrap .i64 (Qbi6 a),a.1.2.1,(0:Int),a.1.2.2.1,a.1.2.2.2.1,(0:Int),IntKind.wrap .i64 a.1.2.2.2.2.2.1,IntKind.wrap .i64 a.1.2.2.2.2.2.2] b.toNat
theorem vc_ipv4_Encode :
 ∀(a:(Int×Int×Int×Int×Bool×Int×Int)×List Int),CT.wf cPacket a/\True->(a.2.length:Int)<=1073741824->ifP (! decide (hdrErr a.1=0)) (([]:List Int)=ipEnc a/\hdrErr a.1=ipErr a) (ifP (decide (1480<(a.2.length:Int))) (([]:List Int)=ipEnc a/\(5:Int)=ipErr a) (ifP a.1.2.2.2.2.1 ((∃(b:Int) (c:List Int),(0<=b/\b<=10/\c=List.take (cutP b.toNat) (hdrBody a.1 (Qbi6 a)))/\(69:Int)=69/\(1:Int)=1/\a.1.1=a.1.1/\(1:Int)=1/\IntKind.wrap .i64 (Qbi6 a)=IntKind.wrap .i64 (Qbi6 a)/\(2:Int)=2/\a.1.2.1=a.1.2.1/\(2:Int)=2/\(16384:Int)=16384/\(Qbi2 a b c))/\ ∀(b:Int) (c:List Int),0<=b/\b<=10/\c=List.take (cutP b.toNat) (hdrBody a.1 (Qbi6 a))->ifP (decide (b<10)) (0<=b/\b<(↑(10:Nat):Int)/\(c.length:Int)<=1099511627776/\ ∀(d:List Int) (e:Int),d=putB c (Qbi10 a b) (Qbi7 b)/\e=putE (Qbi10 a b) (Qbi7 b)-> ∃(f:Int) (g:List Int),(0<=f/\f<=10/\g=List.take (cutP f.toNat) (hdrBody a.1 (Qbi6 a)))/\Int.toNat ((10:Int)
 -f)<Int.toNat ((10:Int) -b)/\(69:Int)=69/\(1:Int)=1/\a.1.1=a.1.1/\(1:Int)=1/\IntKind.wrap .i64 (Qbi6 a)=IntKind.wrap .i64 (Qbi6 a)/\(2:Int)=2/\a.1.2.1=a.1.2.1/\(2:Int)=2/\(16384:Int)=16384/\(Qbi3 a b d f g)) (Qbi5 a c)) ((∃(b:Int) (c:List Int),(0<=b/\b<=10/\c=List.take (cutP b.toNat) (hdrBody a.1 (Qbi6 a)))/\(69:Int)=69/\(1:Int)=1/\a.1.1=a.1.1/\(1:Int)=1/\IntKind.wrap .i64 (Qbi6 a)=IntKind.wrap .i64 (Qbi6 a)/\(2:Int)=2/\a.1.2.1=a.1.2.1/\(2:Int)=2/\(0:Int)=0/\(Qbi2 a b c))/\ ∀(b:Int) (c:List Int),0<=b/\b<=10/\c=List.take (cutP b.toNat) (hdrBody a.1 (Qbi6 a))->ifP (decide (b<10)) (0<=b/\b<(↑(10:Nat):Int)/\(c.length:Int)<=1099511627776/\ ∀(d:List Int) (e:Int),d=putB c (Qbi11 a b) (Qbi7 b)/\e=putE (Qbi11 a b) (Qbi7 b)-> ∃(f:Int) (g:List Int),(0<=f/\f<=10/\g=List.take (cutP f.toNat) (hdrBody a.1 (Qbi6 a)))/\Int.toNat ((10:Int) -f)<Int.toNat ((10:Int)
 -b)/\(69:Int)=69/\(1:Int)=1/\a.1.1=a.1.1/\(1:Int)=1/\IntKind.wrap .i64 (Qbi6 a)=IntKind.wrap .i64 (Qbi6 a)/\(2:Int)=2/\a.1.2.1=a.1.2.1/\(2:Int)=2/\(0:Int)=0/\(Qbi3 a b d f g)) (Qbi5 a c)))):=by
  delta Qbi2 Qbi3 Qbi5 Qbi6 Qbi7 Qbi9 Qbi10 Qbi11
  rintro d ⟨⟨hw,-⟩,-⟩ hl
  obtain ⟨-,-,-,-,-,s0,d0⟩:=hw
  have s0:0<=d.1.2.2.2.2.2.1/\d.1.2.2.2.2.2.1<=4294967295:=s0
  have d0:0<=d.1.2.2.2.2.2.2/\d.1.2.2.2.2.2.2<=4294967295:=d0
  refine ifP_split (fun hc => ?_) (fun hc => ?_)
  · have hn:¬ hdrOK d.1:=fun k=>by rw [hdrErr,if_pos k] at hc;cases hc
    have he:ipErr d=1:=by rw [ipErr,if_pos hn]
    rw [ipEnc,he,hdrErr,if_neg hn];exact ⟨rfl,rfl⟩
  have hok:hdrOK d.1:=Classical.byContradiction fun k=>by rw [hdrErr,if_neg k] at hc;cases hc
  refine ifP_split (fun h5 => ?_) (fun h5 => ?_)
  · have h5:=of_decide_eq_true h5
    have he:ipErr d=5:=by rw [ipErr,if_neg (fun k=>k hok),if_pos h5]
    rw [ipEnc,he];exact ⟨rfl,rfl⟩
  have h5:=of_decide_eq_false h5
  have he:ipErr d=0:=by rw [ipErr,if_neg (fun k=>k hok),if_neg h5]
  have e20:IntKind.wrap .i64 (20+(d.2.length:Int))=20+d.2.length:=w64 (by omega) (by omega)
  have es:IntKind.wrap .i64 d.1.2.2.2.2.2.1=d.1.2.2.2.2.2.1:=w64 (by have:=s0.1;omega) (by have:=s0.2;omega)
  have ed:IntKind.wrap .i64 d.1.2.2.2.2.2.2=d.1.2.2.2.2.2.2:=w64 (by have:=d0.1;omega) (by have:=d0.2;omega)
  have hc:=csum_range (hdr_bytes (n:=20+d.2.length) hok)
  have hbl:=hdrBody_len d.1 (20+d.2.length)
  have step:=fun f hf k=>hdr_step (h:=d.1) (n:=20+d.2.length) (f:=f) (k:=k) hok (by omega) (by omega) s0 d0 hf
  have fin:∀ ys,ys=hdrBody d.1 (20+d.2.length)->(List.set (List.set ys (Int.toNat 10) (IntKind.wrap .u8 (shrI .i64 (65535-oc (sumF true ys)) 8))) (Int.toNat 11) (IntKind.wrap .u8 (65535-oc (sumF true ys)))++d.2=ipEnc d/\(0:Int)=ipErr d):=by
    rintro ys rfl
    have hc:0<=65535-oc (sumF true (hdrBody d.1 (20+d.2.length))):=hc.1
    rw [shr8 hc,IntKind.wrap_u8',IntKind.wrap_u8',ipEnc,he,if_pos rfl]
    exact ⟨rfl,rfl⟩
  rw [e20,es,ed]
  refine ifP_split (fun hk => ?_) (fun hk => ?_)
  · refine ⟨⟨0,[],⟨by omega,by omega,rfl⟩,(by repeat' first|exact trivial|refine ⟨trivial,?_⟩|refine ⟨(by with_reducible rfl),?_⟩|refine ⟨w64 (by omega) (by omega),?_⟩|refine ⟨rfl,?_⟩)⟩,?_⟩
    rintro k ys ⟨k0,k1,rfl⟩
    refine ifP_split (fun h => ?_) (fun h => ?_)
    · have h:=of_decide_eq_true h
      have st:=step 16384 (by rw [hk];rfl) k k0 h
      refine ⟨k0,h,by rw [List.length_take];omega,?_⟩
      rintro y _ ⟨rfl,-⟩
      exact ⟨k+1,_,⟨by omega,by omega,st⟩,by omega,(by repeat' first|exact trivial|refine ⟨trivial,?_⟩|refine ⟨(by with_reducible rfl),?_⟩|refine ⟨w64 (by omega) (by omega),?_⟩|refine ⟨rfl,?_⟩)⟩
    · have h:=of_decide_eq_false h
      have e10:k=10:=by omega
      subst e10
      have et:(hdrBody d.1 (20+d.2.length)).take (cutP (Int.toNat 10))=hdrBody d.1 (20+d.2.length):=List.take_of_length_le (by rw [hbl];decide)
      rw [et]
      refine ⟨by omega,?_⟩
      rintro c rfl
      refine ⟨by omega,by omega,by omega,by omega,by rw [List.length_set];omega,by rw [List.length_set,List.length_set];omega,fin _ rfl⟩
  · refine ⟨⟨0,[],⟨by omega,by omega,rfl⟩,(by repeat' first|exact trivial|refine ⟨trivial,?_⟩|refine ⟨(by with_reducible rfl),?_⟩|refine ⟨w64 (by omega) (by omega),?_⟩|refine ⟨rfl,?_⟩)⟩,?_⟩
    rintro k ys ⟨k0,k1,rfl⟩
    refine ifP_split (fun h => ?_) (fun h => ?_)
    · have h:=of_decide_eq_true h
      have st:=step 0 (by rw [hk];rfl) k k0 h
      refine ⟨k0,h,by rw [List.length_take];omega,?_⟩
      rintro y _ ⟨rfl,-⟩
      exact ⟨k+1,_,⟨by omega,by omega,st⟩,by omega,(by repeat' first|exact trivial|refine ⟨trivial,?_⟩|refine ⟨(by with_reducible rfl),?_⟩|refine ⟨w64 (by omega) (by omega),?_⟩|refine ⟨rfl,?_⟩)⟩
    · have h:=of_decide_eq_false h
      have e10:k=10:=by omega
      subst e10
      have et:(hdrBody d.1 (20+d.2.length)).take (cutP (Int.toNat 10))=hdrBody d.1 (20+d.2.length):=List.take_of_length_le (by rw [hbl];decide)
      rw [et]
      refine ⟨by omega,?_⟩
      rintro c rfl
      refine ⟨by omega,by omega,by omega,by omega,by rw [List.length_set];omega,by rw [List.length_set,List.length_set];omega,fin _ rfl⟩
theorem ok_ipv4_Encode:SpecOK Tryz.prog GL 83 ct_ipv4_Encode.spec:=Ct.okH _ Tryz.func83 (by kernel_rfl) (withSpec_ok (withSpec_ok (withSpec_ok noSpecs_ok ok_ipv4_Check) (Ct.named ok_wire_Put)) (Ct.named ok_wire_Checksum)) hmix an_ipv4_Encode (hideMp (by kernel_rfl) vc_ipv4_Encode)
def ct_ipv4_Peek_1:Ct:=⟨[.val cI,.box 22 (.row 5 cU8),.box 3 cI],[.val cI],fun d=>[(d.2.1.length:Int)<=100000,0<=d.1,d.1<=8,0<=d.2.2.1,d.2.2.1<=100000],fun d=>((getV d.2.1 d.2.2.1 d.1,()),(d.2.1,d.2.2.1+d.1,()))⟩
def an_ipv4_Peek_1:PDs ct_ipv4_Peek_1.ps->Anns:=(fun _=>{})
theorem vc_ipv4_Peek_1 :
 ∀(a:Int) (b:List Int) (c:Int),R64 a/\(b.length<=maxLen/\ ∀(d:Int),d∈b->0<=d/\d<=255)/\R64 c/\True->(b.length:Int)<=100000/\0<=a/\a<=8/\0<=c/\c<=100000->(b.length:Int)<=1099511627776/\getV b c a=getV b c a/\b=b/\IntKind.wrap .i64 (c+a)=c+a:=by
  rintro w b a-⟨h1,h2,h3,h4,h5⟩
  exact ⟨by omega,rfl,rfl,w64 (by omega) (by omega)⟩
theorem ok_ipv4_Peek_1:SpecOK Tryz.prog GL 171 ct_ipv4_Peek_1.spec:=Ct.okH _ Tryz.func171 (by kernel_rfl) (withSpec_ok noSpecs_ok ok_wire_Get) hmix an_ipv4_Peek_1 (hideMp (by kernel_rfl) vc_ipv4_Peek_1)
def ct_ipv4_Peek:Ct:=⟨[.val (.sl cU8)],[.agg cHeader,.val cI,.val cI],fun d=>[(d.1.length:Int)<=1099511627776],fun d=>((pkHdr d.1,pkLen d.1,pkErr d.1,()),())⟩
def an_ipv4_Peek:PDs ct_ipv4_Peek.ps->Anns:=(fun _=>{})
def Qbi4 :=
 ((0:Int),(0:Int),(0:Int),(0:Int),false,(0:Int),(0:Int))
def Qbi8 (a:List Int) :=
 (a.length:Int)
def Qbi12 (a:List Int) :=
 a.length<=maxLen/\ ∀(b:Int),b∈a->0<=b/\b<=255
def Qbi14 :=
 Int.toNat (20:Int)
theorem vc_ipv4_Peek :
 ∀(a:List Int),(Qbi12 a)/\True->(Qbi8 a)<=1099511627776->ifP (decide ((Qbi8 a)<20)) ((Qbi4)=pkHdr a/\(0:Int)=pkLen a/\(3:Int)=pkErr a) ((0:Int)<=0/\(0:Int)<=20/\20<=(Qbi8 a)/\((List.length (subL a (Int.toNat (0:Int)) (Qbi14))):Int)<=1099511627776/\((List.length (subL a (Int.toNat (0:Int)) (Qbi14))):Int)<=100000/\(0:Int)<=1/\(1:Int)<=8/\(0:Int)<=0/\(0:Int)<=100000/\ ∀(b:Int) (c:List Int) (d:Int),b=getV (subL a (Int.toNat (0:Int)) (Qbi14)) (0:Int) (1:Int)/\c=subL a (Int.toNat (0:Int)) (Qbi14)/\d=0+(1:Int)->(c.length:Int)<=100000/\(0:Int)<=1/\(1:Int)<=8/\0<=d/\d<=100000/\ ∀(e:Int) (f:List Int) (g:Int),e=getV c d (1:Int)/\f=c/\g=d+(1:Int)->(f.length:Int)<=100000/\(0:Int)<=2/\(2:Int)<=8/\0<=g/\g<=100000/\ ∀(h:Int) (i:List Int) (j:Int),h=getV f g (2:Int)/\i=f/\j=g+(2:Int)->(i.length:Int)<=100000/\(0:Int)<=2/\(2:Int)<=8/\0<=j/\j<=100000/\ ∀(k:Int) (l:List Int) (m:Int),k=getV i j
 (2:Int)/\l=i/\m=j+(2:Int)->(l.length:Int)<=100000/\(0:Int)<=2/\(2:Int)<=8/\0<=m/\m<=100000/\ ∀(n:Int) (o:List Int) (p:Int),n=getV l m (2:Int)/\o=l/\p=m+(2:Int)->(o.length:Int)<=100000/\(0:Int)<=1/\(1:Int)<=8/\0<=p/\p<=100000/\ ∀(q:Int) (r:List Int) (s:Int),q=getV o p (1:Int)/\r=o/\s=p+(1:Int)->(r.length:Int)<=100000/\(0:Int)<=1/\(1:Int)<=8/\0<=s/\s<=100000/\ ∀(t:Int) (u:List Int) (v:Int),t=getV r s (1:Int)/\u=r/\v=s+(1:Int)->(u.length:Int)<=100000/\(0:Int)<=2/\(2:Int)<=8/\0<=v/\v<=100000/\ ∀(w:Int) (x:List Int) (y:Int),w=getV u v (2:Int)/\x=u/\y=v+(2:Int)->(x.length:Int)<=100000/\(0:Int)<=4/\(4:Int)<=8/\0<=y/\y<=100000/\ ∀(z:Int) (A:List Int) (B:Int),z=getV x y (4:Int)/\A=x/\B=y+(4:Int)->(A.length:Int)<=100000/\(0:Int)<=4/\(4:Int)<=8/\0<=B/\B<=100000/\ ∀(C:Int) (D:List Int) (E:Int),C=getV A B (4:Int)/\D=A/\E=B+(4:Int)-> ∀(F:Bool),F= ! decide (b=69)->((! F)->((! F)->(! F))/\True)/\((!
 F)->((! F)->(! F))/\True)/\ ∀(G:Bool),G= ! decide (n=0)->((! F&&G)->((! F&&G)->(! F&&G))/\True)/\((! F&&G)->((! F&&G)->(! F&&G))/\True)/\((! F)->((! F)->(! F))/\(G->(! F&&G))/\True)/\(F=false->(! F))/\ ∀(H:Bool),(H=bif F then true else bif G then ! decide (n=16384) else false)->((! H)->((! H)->(! H))/\True)/\(H=false->(! H))/\ifP (bif H then true else decide (h<20)) ((Qbi4)=pkHdr a/\(0:Int)=pkLen a/\(2:Int)=pkErr a) ((0:Int)<=10/\10<(D.length:Int)/\(0:Int)<=11/\11<((List.length (List.set D (Int.toNat (10:Int)) (0:Int))):Int)/\((List.length (List.set (List.set D (Int.toNat (10:Int)) (0:Int)) (Int.toNat (11:Int)) (0:Int))):Int)<=1099511627776/\ ∀(I:Int),I=65535 -oc (sumF true (List.set (List.set D (Int.toNat (10:Int)) (0:Int)) (Int.toNat (11:Int)) (0:Int)))->ifP (! decide (I=w)) ((Qbi4)=pkHdr a/\(0:Int)=pkLen a/\(4:Int)=pkErr a) ((e,k,q,t,decide (n=16384),IntKind.wrap .u32 z,IntKind.wrap
 .u32 C)=pkHdr a/\h=pkLen a/\(0:Int)=pkErr a))):=by
  delta Qbi4 Qbi8 Qbi12 Qbi14
  rintro b ⟨⟨-,hb⟩,-⟩ hl
  refine ifP_split (fun h => ?_) (fun h => ?_)
  · have h:=of_decide_eq_true h
    have e:pkErr b=3:=by rw [pkErr,if_pos h]
    rw [pkHdr,pkLen,e];exact ⟨rfl,rfl,rfl⟩
  have h:=of_decide_eq_false h
  have hB:subL b (Int.toNat 0) (Int.toNat 20)=b.take 20:=rfl
  have hBl:(b.take 20).length=20:=by rw [List.length_take];omega
  rw [hB]
  refine ⟨by omega,by omega,by omega,by omega,by omega,by omega,by omega,by omega,by omega,?_⟩
  rintro v0 _ a0 ⟨e0,rfl,q0⟩
  rw [gV1 (by omega) (by omega),take_get (by decide)] at e0
  have q0:a0=1:=q0
  subst q0
  refine ⟨by omega,by omega,by omega,by omega,by omega,?_⟩
  rintro v1 _ a1 ⟨e1,rfl,q1⟩
  rw [gV1 (by omega) (by omega),take_get (by decide)] at e1
  have q1:a1=2:=q1
  subst q1
  refine ⟨by omega,by omega,by omega,by omega,by omega,?_⟩
  rintro v2 _ a2 ⟨e2,rfl,q2⟩
  rw [gV2 (by omega) (by omega),take_word (by decide)] at e2
  have q2:a2=4:=q2
  subst q2
  refine ⟨by omega,by omega,by omega,by omega,by omega,?_⟩
  rintro v3 _ a3 ⟨e3,rfl,q3⟩
  rw [gV2 (by omega) (by omega),take_word (by decide)] at e3
  have q3:a3=6:=q3
  subst q3
  refine ⟨by omega,by omega,by omega,by omega,by omega,?_⟩
  rintro v4 _ a4 ⟨e4,rfl,q4⟩
  rw [gV2 (by omega) (by omega),take_word (by decide)] at e4
  have q4:a4=8:=q4
  subst q4
  refine ⟨by omega,by omega,by omega,by omega,by omega,?_⟩
  rintro v5 _ a5 ⟨e5,rfl,q5⟩
  rw [gV1 (by omega) (by omega),take_get (by decide)] at e5
  have q5:a5=9:=q5
  subst q5
  refine ⟨by omega,by omega,by omega,by omega,by omega,?_⟩
  rintro v6 _ a6 ⟨e6,rfl,q6⟩
  rw [gV1 (by omega) (by omega),take_get (by decide)] at e6
  have q6:a6=10:=q6
  subst q6
  refine ⟨by omega,by omega,by omega,by omega,by omega,?_⟩
  rintro v7 _ a7 ⟨e7,rfl,q7⟩
  rw [gV2 (by omega) (by omega),take_word (by decide)] at e7
  have q7:a7=12:=q7
  subst q7
  refine ⟨by omega,by omega,by omega,by omega,by omega,?_⟩
  rintro v8 _ a8 ⟨e8,rfl,q8⟩
  rw [gV4 (by omega) (by omega),take_drop_take (by decide)] at e8
  have q8:a8=16:=q8
  subst q8
  refine ⟨by omega,by omega,by omega,by omega,by omega,?_⟩
  rintro v9 _ a9 ⟨e9,rfl,q9⟩
  rw [gV4 (by omega) (by omega),take_drop_take (by decide)] at e9
  have q9:a9=20:=q9
  subst q9
  subst e0 e1 e2 e3 e4 e5 e6 e7 e8 e9
  have n12:=bytes_num4 hb 12
  have n16:=bytes_num4 hb 16
  have hcs:65535-oc (sumF true (((b.take 20).set (Int.toNat 10) 0).set (Int.toNat 11) 0))=csum (setW (b.take 20) 10 0):=rfl
  (repeat (intro (b_:Bool) (hb_:b_=_);(repeat refine ⟨(by first|(simp;done)|(rw [hb_];simp;done)|(rw [hb_];simp;omega)|(rw [hb_];simp;intros;omega)|(rw [hb_];simp +contextual;done)),?_⟩);subst hb_))
  refine ifP_split (fun hc => ?_) (fun hc => ?_)
  · have e:pkErr b=2:=by
      rw [pkErr,if_neg h,if_pos]
      rintro ⟨h0,hf,h2⟩
      rw [show b.getD (Int.toNat 0) default=69 from h0] at hc
      rcases hf with hf|hf
      · rw [show wordAt b (Int.toNat 6)=0 from hf] at hc
        simp at hc
        have h2:20<=wordAt b (Int.toNat 2):=h2
        simp at h2;omega
      · rw [show wordAt b (Int.toNat 6)=16384 from hf] at hc
        simp at hc
        have h2:20<=wordAt b (Int.toNat 2):=h2
        simp at h2;omega
    rw [pkHdr,pkLen,e];exact ⟨rfl,rfl,rfl⟩
  have hg:b.getD 0 default=69/\(wordAt b 6=0∨wordAt b 6=16384)/\20<=wordAt b 2:=by
    by_cases h0:b.getD (Int.toNat 0) default=69
    · by_cases h6:wordAt b (Int.toNat 6)=0
      · simp [h0,h6] at hc
        exact ⟨h0,.inl h6,by omega⟩
      · by_cases h7:wordAt b (Int.toNat 6)=16384
        · simp [h0,h7] at hc
          exact ⟨h0,.inr h7,by omega⟩
        · exfalso
          rw [h0,decide_eq_false h6,decide_eq_false h7] at hc;simp at hc
    · exfalso
      rw [decide_eq_false h0] at hc;simp at hc
  refine ⟨by omega,by omega,by omega,by rw [List.length_set];omega,by rw [List.length_set,List.length_set];omega,?_⟩
  rw [hcs]
  rintro c rfl
  refine ifP_split (fun hc => ?_) (fun hc => ?_)
  · have e:pkErr b=4:=by
      rw [pkErr,if_neg h,if_neg (fun k=>k hg),if_pos]
      intro k
      rw [show wordAt b (Int.toNat 10)=wordAt b 10 from rfl,k] at hc;simp at hc
    rw [pkHdr,pkLen,e];exact ⟨rfl,rfl,rfl⟩
  · have e:pkErr b=0:=by
      rw [pkErr,if_neg h,if_neg (fun k=>k hg),if_neg]
      intro k
      exact k (by simpa using hc)
    rw [pkHdr,pkLen,e,if_pos rfl,if_pos rfl,show Int.toNat 12=12 from rfl,show Int.toNat 16=16 from rfl,wu32 n12.1 n12.2,wu32 n16.1 n16.2]
    exact ⟨rfl,rfl,rfl⟩
theorem ok_ipv4_Peek:SpecOK Tryz.prog GL 129 ct_ipv4_Peek.spec:=Ct.okH _ Tryz.func129 (by kernel_rfl) (withSpec_ok (withSpec_ok (withSpec_ok noSpecs_ok ok_slices_Clone_b979) (Ct.named ok_ipv4_Peek_1)) (Ct.named ok_wire_Checksum)) hmix an_ipv4_Peek (hideMp (by kernel_rfl) vc_ipv4_Peek)
def ct_ipv4_Decode:Ct:=⟨[.val (.sl cU8)],[.agg cPacket,.val cI],fun d=>[(d.1.length:Int)<=1099511627776],fun d=>((decPkt d.1,decErr d.1,()),())⟩
def an_ipv4_Decode:PDs ct_ipv4_Decode.ps->Anns:=(fun _=>{})
def Qbi16 :=
 ((Qbi4),([]:List Int))
theorem vc_ipv4_Decode :
 ∀(a:List Int),(Qbi12 a)/\True->(Qbi8 a)<=1099511627776->(Qbi8 a)<=1099511627776/\ifP (! decide (pkErr a=0)) ((Qbi16)=decPkt a/\pkErr a=decErr a) (ifP (! decide (pkLen a=(Qbi8 a))) ((Qbi16)=decPkt a/\(2:Int)=decErr a) (ifP (decide (1500<pkLen a)) ((Qbi16)=decPkt a/\(5:Int)=decErr a) ((0:Int)<=20/\20<=(Qbi8 a)/\(Qbi8 a)<=(Qbi8 a)/\((List.length (subL a (Qbi14) (Int.toNat (Qbi8 a)))):Int)<=1099511627776/\(pkHdr a,subL a (Qbi14) (Int.toNat (Qbi8 a)))=decPkt a/\(0:Int)=decErr a))):=by
  delta Qbi4 Qbi8 Qbi12 Qbi14 Qbi16
  rintro b ⟨⟨-,hb⟩,-⟩ hl
  refine ⟨hl,ifP_split (fun hc => ?_) (fun hc => ?_)⟩
  · have hc:¬ pkErr b=0:=by simpa using hc
    have e:decErr b=pkErr b:=by rw [decErr,if_pos hc]
    rw [decPkt,e,if_neg hc];exact ⟨rfl,rfl⟩
  have hc:pkErr b=0:=by simpa using hc
  have hlen:pkLen b=wordAt b 2:=by rw [pkLen,if_pos hc]
  rw [hlen]
  refine ifP_split (fun h2 => ?_) (fun h2 => ?_)
  · have h2:¬ wordAt b 2=b.length:=by simpa using h2
    have e:decErr b=2:=by rw [decErr,if_neg (fun k=>k hc),if_pos h2]
    rw [decPkt,e];exact ⟨rfl,rfl⟩
  have h2:wordAt b 2=b.length:=by simpa using h2
  refine ifP_split (fun h5 => ?_) (fun h5 => ?_)
  · have h5:=of_decide_eq_true h5
    have e:decErr b=5:=by rw [decErr,if_neg (fun k=>k hc),if_neg (fun k=>k h2),if_pos h5]
    rw [decPkt,e];exact ⟨rfl,rfl⟩
  have h5:=of_decide_eq_false h5
  have e:decErr b=0:=by rw [decErr,if_neg (fun k=>k hc),if_neg (fun k=>k h2),if_neg h5]
  have h20:=pk_long hc
  rw [show Int.toNat 20=20 from rfl,sub_drop,decPkt,e,if_pos rfl,pkHdr,if_pos hc,List.length_drop]
  exact ⟨by omega,by omega,by omega,by omega,rfl,rfl⟩
theorem ok_ipv4_Decode:SpecOK Tryz.prog GL 82 ct_ipv4_Decode.spec:=Ct.okH _ Tryz.func82 (by kernel_rfl) (withSpec_ok (withSpec_ok noSpecs_ok ok_ipv4_Peek) ok_slices_Clone_b979) hmix an_ipv4_Decode (hideMp (by kernel_rfl) vc_ipv4_Decode)
def ct_ipv4_Lower:Ct:=⟨[.val (.sl cU8)],[.own 5 cU8,.val cI],fun d=>[(d.1.length:Int)<=1099511627776],fun d=>((lowB d.1,lowErr d.1,()),())⟩
def an_ipv4_Lower:PDs ct_ipv4_Lower.ps->Anns:=(fun _=>{})
def Qbi13 (a:List Int) :=
 (((decPkt a).1.1,(decPkt a).1.2.1,IntKind.wrap .i64 ((decPkt a).1.2.2.1 -(1:Int)),(decPkt a).1.2.2.2),(decPkt a).2)
theorem vc_ipv4_Lower :
 ∀(a:List Int),(Qbi12 a)/\True->(Qbi8 a)<=1099511627776->(Qbi8 a)<=1099511627776/\ifP (! decide (decErr a=0)) (([]:List Int)=lowB a/\decErr a=lowErr a) (ifP (decide ((decPkt a).1.2.2.1<2)) (([]:List Int)=lowB a/\(7:Int)=lowErr a) (((List.length (decPkt a).2):Int)<=1073741824/\ipEnc (Qbi13 a)=lowB a/\ipErr (Qbi13 a)=lowErr a)):=by
  delta Qbi8 Qbi12 Qbi13
  rintro b ⟨⟨-,hb⟩,-⟩ hl
  refine ⟨hl,ifP_split (fun hc => ?_) (fun hc => ?_)⟩
  · have hc:¬ decErr b=0:=by simpa using hc
    have e:lowErr b=decErr b:=by rw [lowErr,if_pos hc]
    rw [lowB,e,if_neg hc];exact ⟨rfl,rfl⟩
  have hc:decErr b=0:=by simpa using hc
  have hp:decPkt b=(pkHdrF b,b.drop 20):=by rw [decPkt,if_pos hc]
  rw [hp]
  have h8:=bytes_get hb (i:=8) (by have:=pk_long (dec_pk hc);omega)
  refine ifP_split (fun h2 => ?_) (fun h2 => ?_)
  · have h2:=of_decide_eq_true h2
    have e:lowErr b=7:=by rw [lowErr,if_neg (fun k=>k hc),if_pos h2]
    rw [lowB,e];exact ⟨rfl,rfl⟩
  have h2:=of_decide_eq_false h2
  have e:lowErr b=0:=by rw [lowErr,if_neg (fun k=>k hc),if_neg h2]
  have hd:=dec_len hc
  have h82:¬ b.getD 8 default<2:=h2
  rw [lowB,e,if_pos rfl]
  have hok:=low_ok hb hc h2
  refine ⟨by rw [List.length_drop];omega,?_⟩
  have ew:IntKind.wrap .i64 ((pkHdrF b).2.2.1-1)=(pkHdrF b).2.2.1-1:=w64 (by show _<=b.getD 8 default-1;omega) (by show b.getD 8 default-1<=_;omega)
  rw [ew]
  refine ⟨rfl,?_⟩
  rw [ipErr,if_neg (fun k=>k hok),if_neg]
  simp only [List.length_drop];omega
theorem ok_ipv4_Lower:SpecOK Tryz.prog GL 36 ct_ipv4_Lower.spec:=Ct.okH _ Tryz.func36 (by kernel_rfl) (withSpec_ok (withSpec_ok noSpecs_ok ok_ipv4_Decode) ok_ipv4_Encode) hmix an_ipv4_Lower (hideMp (by kernel_rfl) vc_ipv4_Lower)
def ct_ref05_Check:Ct:=⟨[.agg cHeader],[.val cI],fun d=>[],fun d=>((hdrErr d.1,()),())⟩
def an_ref05_Check:PDs ct_ref05_Check.ps->Anns:=(fun _=>{})
theorem vc_ref05_Check :
 ∀(a:Header),CT.wf cHeader a/\True->True-> ∀(b:Bool),b=decide (a.1<0)->(Qbi15 b)/\(Qbi15 b)/\(b=false->(! b))/\ ∀(c:Bool),(c=bif b then true else decide (255<a.1))->((! c)->((! c)->(! c))/\True)/\((! c)->((! c)->(! c))/\True)/\(c=false->(! c))/\ ∀(d:Bool),(d=bif c then true else decide (a.2.2.1<0))->((! d)->((! d)->(! d))/\True)/\((! d)->((! d)->(! d))/\True)/\(d=false->(! d))/\ ∀(e:Bool),(e=bif d then true else decide (255<a.2.2.1))->((! e)->((! e)->(! e))/\True)/\((! e)->((! e)->(! e))/\True)/\(e=false->(! e))/\ ∀(f:Bool),(f=bif e then true else decide (a.2.2.2.1<0))->((! f)->((! f)->(! f))/\True)/\((! f)->((! f)->(! f))/\True)/\(f=false->(! f))/\ ∀(g:Bool),(g=bif f then true else decide (255<a.2.2.2.1))->((! g)->((! g)->(! g))/\True)/\((! g)->((! g)->(! g))/\True)/\(g=false->(! g))/\ ∀(h:Bool),(h=bif g then true else decide (a.2.1<0))->((! h)->((! h)->(! h))/\True)/\((! h)->((! h)->(!
 h))/\True)/\(h=false->(! h))/\ifP (bif h then true else decide (65535<a.2.1)) ((1:Int)=hdrErr a) ((0:Int)=hdrErr a):=by
  delta Qbi15
  rintro h - -
  (repeat (intro (b_:Bool) (hb_:b_=_);(repeat refine ⟨(by first|(simp;done)|(rw [hb_];simp;done)|(rw [hb_];simp;omega)|(rw [hb_];simp;intros;omega)|(rw [hb_];simp +contextual;done)),?_⟩);subst hb_))
  refine ifP_split (fun hc => ?_) (fun hc => ?_)
  · rw [hdrErr,if_neg]
    intro k;obtain ⟨k1,k2,k3,k4,k5⟩:=k
    unfold in8 at k1 k2 k3
    simp [Bool.cond_eq_ite] at hc;omega
  · rw [hdrErr,if_pos]
    unfold hdrOK in8
    simp [Bool.cond_eq_ite] at hc;omega
theorem ok_ref05_Check:SpecOK Tryz.prog GL 122 ct_ref05_Check.spec:=Ct.okH _ Tryz.func122 (by kernel_rfl) noSpecs_ok hmix an_ref05_Check (hideMp (by kernel_rfl) vc_ref05_Check)
def ct_ref05_header:Ct:=⟨[.agg cHeader,.val cI],[.own 5 cU8],fun d=>[hdrOK d.1,0<=d.2.1,d.2.1<=65535],fun d=>((hdrB d.1 d.2.1,()),())⟩
def an_ref05_header:PDs ct_ref05_header.ps->Anns:=(fun _=>{})
def Qbi0 (a:Header) (b:Int) (g:List Int) :=
 (g.length:Int)<=1099511627776/\ ∀(h:List Int),h=putB g a.2.2.1 (1:Int)->(h.length:Int)<=1099511627776/\ ∀(i:List Int),i=putB h a.2.2.2.1 (1:Int)->(↑(0:Nat):Int)<=1099511627776/\ ∀(j:List Int),j=putB ([]:List Int) (IntKind.wrap .i64 a.2.2.2.2.2.1) (4:Int)->(j.length:Int)<=1099511627776/\ ∀(k:List Int),k=putB j (IntKind.wrap .i64 a.2.2.2.2.2.2) (4:Int)->i.length*(1:Nat)<=(140737488355328:Nat)/\(List.length [(0:Int),(0:Int)]+k.length)*(1:Nat)<=(140737488355328:Nat)/\(i.length+List.length ([(0:Int),(0:Int)]++k))*(1:Nat)<=(140737488355328:Nat)/\((List.length (i++([(0:Int),(0:Int)]++k))):Int)<=1099511627776/\ ∀(l:Int),l=65535 -oc (sumF true (i++([(0:Int),(0:Int)]++k)))->(i.length:Int)<=1099511627776/\ ∀(m:List Int),m=putB i l (2:Int)->(m.length+k.length)*(1:Nat)<=(140737488355328:Nat)/\m++k=hdrB a b
theorem vc_ref05_header :
 ∀(a:Header) (b:Int),CT.wf cHeader a/\R64 b/\True->hdrOK a/\0<=b/\b<=65535->ifP a.2.2.2.2.1 ((↑(0:Nat):Int)<=1099511627776/\ ∀(c:List Int),c=putB ([]:List Int) (69:Int) (1:Int)->(c.length:Int)<=1099511627776/\ ∀(d:List Int),d=putB c a.1 (1:Int)->(d.length:Int)<=1099511627776/\ ∀(e:List Int),e=putB d b (2:Int)->(e.length:Int)<=1099511627776/\ ∀(f:List Int),f=putB e a.2.1 (2:Int)->(f.length:Int)<=1099511627776/\ ∀(g:List Int),g=putB f (16384:Int) (2:Int)->(Qbi0 a b g)) ((↑(0:Nat):Int)<=1099511627776/\ ∀(c:List Int),c=putB ([]:List Int) (69:Int) (1:Int)->(c.length:Int)<=1099511627776/\ ∀(d:List Int),d=putB c a.1 (1:Int)->(d.length:Int)<=1099511627776/\ ∀(e:List Int),e=putB d b (2:Int)->(e.length:Int)<=1099511627776/\ ∀(f:List Int),f=putB e a.2.1 (2:Int)->(f.length:Int)<=1099511627776/\ ∀(g:List Int),g=putB f (0:Int) (2:Int)->(Qbi0 a b g)):=by
  delta Qbi0
  rintro h n ⟨hw,-⟩ ⟨hok,n0,n1⟩
  obtain ⟨-,-,-,-,-,s0,d0⟩:=hw
  have s0:0<=h.2.2.2.2.2.1/\h.2.2.2.2.2.1<=4294967295:=s0
  have d0:0<=h.2.2.2.2.2.2/\h.2.2.2.2.2.2<=4294967295:=d0
  have es:IntKind.wrap .i64 h.2.2.2.2.2.1=h.2.2.2.2.2.1:=w64 (by omega) (by omega)
  have ed:IntKind.wrap .i64 h.2.2.2.2.2.2=h.2.2.2.2.2.2:=w64 (by omega) (by omega)
  rw [es,ed]
  have hc:=csum_range (hdr_bytes (n:=n) hok)
  obtain ⟨h1,h2,h3,h4,h5⟩:=hok
  have key:∀ f:Int,(f=if h.2.2.2.2.1 then 16384 else 0)->0<=f->f<=65535->((0:Nat):Int)<=1099511627776∧∀ x1,x1=putB [] 69 1->(x1.length:Int)<=1099511627776∧∀ x2,x2=putB x1 h.1 1->(x2.length:Int)<=1099511627776∧∀ x3,x3=putB x2 n 2->(x3.length:Int)<=1099511627776 ∧
      ∀ x4,x4=putB x3 h.2.1 2->(x4.length:Int)<=1099511627776∧∀ x5,x5=putB x4 f 2->(x5.length:Int)<=1099511627776∧∀ x6,x6=putB x5 h.2.2.1 1->(x6.length:Int)<=1099511627776∧∀ x7,x7=putB x6 h.2.2.2.1 1->((0:Nat):Int)<=1099511627776 ∧
      ∀ x8,x8=putB [] h.2.2.2.2.2.1 4->(x8.length:Int)<=1099511627776∧∀ x9,x9=putB x8 h.2.2.2.2.2.2 4->x7.length*1<=140737488355328/\(List.length [(0:Int),0]+x9.length)*1<=140737488355328/\(x7.length+List.length ([0,0]++x9))*1<=140737488355328 ∧
      ((x7++([0,0]++x9)).length:Int)<=1099511627776∧∀ c,c=65535-oc (sumF true (x7++([0,0]++x9)))->(x7.length:Int)<=1099511627776∧∀ x11,x11=putB x7 c 2->(x11.length+x9.length)*1<=140737488355328/\x11++x9=hdrB h n:=by
    intro f hf f0 f1
    refine ⟨by omega,?_⟩
    rintro x1 e1
    rw [putB_1 (by omega) (by omega)] at e1
    refine ⟨by rw [e1];simp,?_⟩
    rintro x2 e2
    rw [putB_1 h1.1 h1.2,e1] at e2
    refine ⟨by rw [e2];simp,?_⟩
    rintro x3 e3
    rw [putB_2 n0 n1,e2] at e3
    refine ⟨by rw [e3];simp [w2],?_⟩
    rintro x4 e4
    rw [putB_2 h4 h5,e3] at e4
    refine ⟨by rw [e4];simp [w2],?_⟩
    rintro x5 e5
    rw [putB_2 f0 f1,e4] at e5
    refine ⟨by rw [e5];simp [w2],?_⟩
    rintro x6 e6
    rw [putB_1 h2.1 h2.2,e5] at e6
    refine ⟨by rw [e6];simp [w2],?_⟩
    rintro x7 e7
    rw [putB_1 h3.1 h3.2,e6] at e7
    have e7:x7=hdrHead h n:=by rw [e7,hf];simp [hdrHead]
    refine ⟨by omega,?_⟩
    rintro x8 e8
    rw [putB_4 s0.1 s0.2] at e8
    refine ⟨by rw [e8];simp [w4],?_⟩
    rintro x9 e9
    rw [putB_4 d0.1 d0.2,e8] at e9
    have e9:x9=hdrTail h:=e9
    have l7:x7.length=10:=by rw [e7];rfl
    have l9:x9.length=8:=by rw [e9];rfl
    have eb:x7++([0,0]++x9)=hdrBody h n:=by rw [e7,e9];rfl
    refine ⟨by omega,by simp [l9],by simp [l7,l9],by simp [l7,l9],?_⟩
    rw [eb]
    rintro c rfl
    refine ⟨by omega,?_⟩
    rintro x11 e11
    rw [show 65535-oc (sumF true (hdrBody h n))=csum (hdrBody h n) from rfl,putB_2 hc.1 hc.2] at e11
    refine ⟨by rw [e11,List.length_append,l7,l9];simp [w2],?_⟩
    rw [e11,e7,e9,List.append_assoc];rfl
  refine ifP_split (fun hk => ?_) (fun hk => ?_)
  · exact key 16384 (by rw [hk];rfl) (by omega) (by omega)
  · exact key 0 (by rw [hk];rfl) (by omega) (by omega)
theorem ok_ref05_header:SpecOK Tryz.prog GL 123 ct_ref05_header.spec:=Ct.okH _ Tryz.func123 (by kernel_rfl) (withSpec_ok (withSpec_ok noSpecs_ok (Ct.named ok_ref04_Push)) (Ct.named ok_ref04_Checksum)) hmix an_ref05_header (hideMp (by kernel_rfl) vc_ref05_header)
def ct_ref05_Encode:Ct:=⟨[.agg cPacket],[.own 5 cU8,.val cI],fun d=>[(d.1.2.length:Int)<=1073741824],fun d=>((ipEnc d.1,ipErr d.1,()),())⟩
def an_ref05_Encode:PDs ct_ref05_Encode.ps->Anns:=(fun _=>{})
theorem vc_ref05_Encode :
 ∀(a:(Int×Int×Int×Int×Bool×Int×Int)×List Int),CT.wf cPacket a/\True->(a.2.length:Int)<=1073741824->ifP (! decide (hdrErr a.1=0)) (([]:List Int)=ipEnc a/\hdrErr a.1=ipErr a) (ifP (decide (1500<IntKind.wrap .i64 ((a.2.length:Int)+(20:Int)))) (([]:List Int)=ipEnc a/\(5:Int)=ipErr a) (hdrOK a.1/\0<=IntKind.wrap .i64 ((a.2.length:Int)+(20:Int))/\IntKind.wrap .i64 ((a.2.length:Int)+(20:Int))<=65535/\(List.length (hdrB a.1 (IntKind.wrap .i64 ((a.2.length:Int)+(20:Int))))+a.2.length)*(1:Nat)<=(140737488355328:Nat)/\hdrB a.1 (IntKind.wrap .i64 ((a.2.length:Int)+(20:Int)))++a.2=ipEnc a/\(0:Int)=ipErr a)):=by
  rintro d ⟨⟨hw,-⟩,-⟩ hl
  refine ifP_split (fun hc => ?_) (fun hc => ?_)
  · have hn:¬ hdrOK d.1:=fun k=>by rw [hdrErr,if_pos k] at hc;cases hc
    have he:ipErr d=1:=by rw [ipErr,if_pos hn]
    rw [ipEnc,he,hdrErr,if_neg hn];exact ⟨rfl,rfl⟩
  have hok:hdrOK d.1:=Classical.byContradiction fun k=>by rw [hdrErr,if_neg k] at hc;cases hc
  have e20:IntKind.wrap .i64 ((d.2.length:Int)+20)=20+d.2.length:=by rw [w64 (by omega) (by omega)];omega
  rw [e20]
  refine ifP_split (fun h5 => ?_) (fun h5 => ?_)
  · have h5:=of_decide_eq_true h5
    have he:ipErr d=5:=by rw [ipErr,if_neg (fun k=>k hok),if_pos (by omega)]
    rw [ipEnc,he];exact ⟨rfl,rfl⟩
  have h5:=of_decide_eq_false h5
  have he:ipErr d=0:=by rw [ipErr,if_neg (fun k=>k hok),if_neg (by omega)]
  refine ⟨hok,by omega,by omega,by rw [hdrB_len];omega,?_⟩
  rw [ipEnc,he,if_pos rfl]
  exact ⟨rfl,rfl⟩
theorem ok_ref05_Encode:SpecOK Tryz.prog GL 77 ct_ref05_Encode.spec:=Ct.okH _ Tryz.func77 (by kernel_rfl) (withSpec_ok (withSpec_ok noSpecs_ok ok_ref05_Check) ok_ref05_header) hmix an_ref05_Encode (hideMp (by kernel_rfl) vc_ref05_Encode)
def ct_ref05_Peek:Ct:=⟨[.val (.sl cU8)],[.agg cHeader,.val cI,.val cI],fun d=>[(d.1.length:Int)<=1099511627776],fun d=>((pkHdr d.1,pkLen d.1,pkErr d.1,()),())⟩
def an_ref05_Peek:PDs ct_ref05_Peek.ps->Anns:=(fun _=>{})
def Qbi1 (a:List Int) :=
 (IntKind.wrap .i64 (a.getD (Int.toNat (1:Int)) default),getV a (4:Int) (2:Int),IntKind.wrap .i64 (a.getD (Int.toNat (8:Int)) default),IntKind.wrap .i64 (a.getD (Int.toNat (9:Int)) default),! decide (getV a (6:Int) (2:Int)=0),IntKind.wrap .u32 (getV a (12:Int) (4:Int)),IntKind.wrap .u32 (getV a (16:Int) (4:Int)))
theorem vc_ref05_Peek :
 ∀(a:List Int),(Qbi12 a)/\True->(Qbi8 a)<=1099511627776->ifP (decide ((Qbi8 a)<20)) ((Qbi4)=pkHdr a/\(0:Int)=pkLen a/\(3:Int)=pkErr a) ((Qbi8 a)<=1099511627776/\(Qbi8 a)<=1099511627776/\(0:Int)<=0/\0<(Qbi8 a)/\ ∀(b:Bool),b= ! decide (a.getD (Int.toNat (0:Int)) default=69)->(Qbi15 b)/\(Qbi15 b)/\ ∀(c:Bool),c= ! decide (getV a (6:Int) (2:Int)=0)->((! b&&c)->((! b&&c)->(! b&&c))/\True)/\((! b)->((! b)->(! b))/\(c->(! b&&c))/\True)/\(b=false->(! b))/\ ∀(d:Bool),(d=bif b then true else bif c then ! decide (getV a (6:Int) (2:Int)=16384) else false)->((! d)->((! d)->(! d))/\True)/\(d=false->(! d))/\ifP (bif d then true else decide (getV a (2:Int) (2:Int)<20)) ((Qbi4)=pkHdr a/\(0:Int)=pkLen a/\(2:Int)=pkErr a) ((0:Int)<=1/\1<(Qbi8 a)/\(Qbi8 a)<=1099511627776/\(0:Int)<=8/\8<(Qbi8 a)/\(0:Int)<=9/\9<(Qbi8 a)/\(Qbi8 a)<=1099511627776/\(Qbi8 a)<=1099511627776/\hdrOK (Qbi1 a)/\0<=getV a (2:Int)
 (2:Int)/\getV a (2:Int) (2:Int)<=65535/\(0:Int)<=0/\(0:Int)<=20/\20<=(Qbi8 a)/\ifP (! decide (hdrB (Qbi1 a) (getV a (2:Int) (2:Int))=subL a (Int.toNat (0:Int)) (Qbi14))) ((Qbi4)=pkHdr a/\(0:Int)=pkLen a/\(4:Int)=pkErr a) ((Qbi1 a)=pkHdr a/\getV a (2:Int) (2:Int)=pkLen a/\(0:Int)=pkErr a))):=by
  delta Qbi1 Qbi4 Qbi8 Qbi12 Qbi14 Qbi15
  rintro b ⟨⟨-,hb⟩,-⟩ hl
  refine ifP_split (fun h => ?_) (fun h => ?_)
  · have h:=of_decide_eq_true h
    have e:pkErr b=3:=by rw [pkErr,if_pos h]
    rw [pkHdr,pkLen,e];exact ⟨rfl,rfl,rfl⟩
  have h:=of_decide_eq_false h
  rw [gV2 (a:=6) (by omega) (by omega),gV2 (a:=2) (by omega) (by omega),gV2 (a:=4) (by omega) (by omega),gV4 (a:=12) (by omega) (by omega),gV4 (a:=16) (by omega) (by omega)]
  have n12:=bytes_num4 hb 12
  have n16:=bytes_num4 hb 16
  have b1:=bytes_get hb (i:=1) (by omega)
  have b8:=bytes_get hb (i:=8) (by omega)
  have b9:=bytes_get hb (i:=9) (by omega)
  have w4':=bytes_word hb 4
  have w2':=bytes_word hb 2
  rw [w64 (n:=b.getD (Int.toNat 1) default) (by have:=b1.1;simp at this ⊢;omega) (by have:=b1.2;simp at this ⊢;omega),w64 (n:=b.getD (Int.toNat 8) default) (by have:=b8.1;simp at this ⊢;omega) (by have:=b8.2;simp at this ⊢;omega),w64 (n:=b.getD (Int.toNat 9) default) (by have:=b9.1;simp at this ⊢;omega) (by have:=b9.2;simp at this ⊢;omega)]
  rw [show (Int.toNat 12)=12 from rfl,show (Int.toNat 16)=16 from rfl,wu32 n12.1 n12.2,wu32 n16.1 n16.2]
  refine ⟨by omega,by omega,by omega,by omega,?_⟩
  (repeat (intro (b_:Bool) (hb_:b_=_);(repeat refine ⟨(by first|(simp;done)|(rw [hb_];simp;done)|(rw [hb_];simp;omega)|(rw [hb_];simp;intros;omega)|(rw [hb_];simp +contextual;done)),?_⟩);subst hb_))
  refine ifP_split (fun hc => ?_) (fun hc => ?_)
  · have e:pkErr b=2:=by
      rw [pkErr,if_neg h,if_pos]
      rintro ⟨h0,hf,h2⟩
      rw [show b.getD (Int.toNat 0) default=69 from h0] at hc
      have h2:20<=wordAt b (Int.toNat 2):=h2
      rcases hf with hf|hf
      · rw [show wordAt b (Int.toNat 6)=0 from hf] at hc
        simp at hc;simp at h2;omega
      · rw [show wordAt b (Int.toNat 6)=16384 from hf] at hc
        simp at hc;simp at h2;omega
    rw [pkHdr,pkLen,e];exact ⟨rfl,rfl,rfl⟩
  have hg:b.getD 0 default=69/\(wordAt b 6=0∨wordAt b 6=16384)/\20<=wordAt b 2:=by
    by_cases h0:b.getD (Int.toNat 0) default=69
    · by_cases h6:wordAt b (Int.toNat 6)=0
      · simp [h0,h6] at hc
        exact ⟨h0,.inl h6,by omega⟩
      · by_cases h7:wordAt b (Int.toNat 6)=16384
        · simp [h0,h7] at hc
          exact ⟨h0,.inr h7,by omega⟩
        · exfalso
          rw [h0,decide_eq_false h6,decide_eq_false h7] at hc;simp at hc
    · exfalso
      rw [decide_eq_false h0] at hc;simp at hc
  have hdr:(b.getD (Int.toNat 1) default,wordAt b (Int.toNat 4),b.getD (Int.toNat 8) default,b.getD (Int.toNat 9) default,!decide (wordAt b (Int.toNat 6)=0),numB ((b.drop 12).take 4),numB ((b.drop 16).take 4))=pkHdrF b:=by
    have:(!decide (wordAt b (Int.toNat 6)=0))=decide (wordAt b 6=16384):=by
      rw [show Int.toNat 6=6 from rfl]
      rcases hg.2.1 with hf|hf <;> rw [hf] <;> rfl
    rw [this];rfl
  rw [hdr]
  obtain ⟨-,hm⟩:=hdr_body hb (by omega) hg.1 hg.2.1
  have hs:subL b (Int.toNat 0) (Int.toNat 20)=b.take 20:=rfl
  rw [hs,show Int.toNat 2=2 from rfl]
  refine ⟨by omega,by omega,by omega,by omega,by omega,by omega,by omega,by omega,by omega,⟨b1,b8,b9,w4'.1,w4'.2⟩,by omega,by omega,by omega,by omega,by omega,?_⟩
  refine ifP_split (fun hc => ?_) (fun hc => ?_)
  · have e:pkErr b=4:=by
      rw [pkErr,if_neg h,if_neg (fun k=>k hg),if_pos]
      intro k
      rw [hm.2 k] at hc;simp at hc
    rw [pkHdr,pkLen,e];exact ⟨rfl,rfl,rfl⟩
  · have hc:hdrB (pkHdrF b) (wordAt b 2)=b.take 20:=by simpa using hc
    have e:pkErr b=0:=by
      rw [pkErr,if_neg h,if_neg (fun k=>k hg),if_neg]
      intro k
      exact k (hm.1 hc)
    rw [pkHdr,pkLen,e,if_pos rfl,if_pos rfl]
    exact ⟨rfl,rfl,rfl⟩
theorem ok_ref05_Peek:SpecOK Tryz.prog GL 81 ct_ref05_Peek.spec:=Ct.okH _ Tryz.func81 (by kernel_rfl) (withSpec_ok (withSpec_ok (withSpec_ok noSpecs_ok ok_ref04_At) ok_ref05_header) ok_ref04_Equal) hmix an_ref05_Peek (hideMp (by kernel_rfl) vc_ref05_Peek)
def ct_ref05_Decode:Ct:=⟨[.val (.sl cU8)],[.agg cPacket,.val cI],fun d=>[(d.1.length:Int)<=1099511627776],fun d=>((decPkt d.1,decErr d.1,()),())⟩
def an_ref05_Decode:PDs ct_ref05_Decode.ps->Anns:=(fun _=>{})
theorem vc_ref05_Decode :
 ∀(a:List Int),(Qbi12 a)/\True->(Qbi8 a)<=1099511627776->(Qbi8 a)<=1099511627776/\ifP (! decide (pkErr a=0)) ((Qbi16)=decPkt a/\pkErr a=decErr a) (ifP (! decide (pkLen a=(Qbi8 a))) ((Qbi16)=decPkt a/\(2:Int)=decErr a) (ifP (decide (1500<pkLen a)) ((Qbi16)=decPkt a/\(5:Int)=decErr a) ((0:Int)<=20/\20<=(Qbi8 a)/\(Qbi8 a)<=(Qbi8 a)/\List.length (subL a (Qbi14) (Int.toNat (Qbi8 a)))*(1:Nat)<=(140737488355328:Nat)/\(pkHdr a,subL a (Qbi14) (Int.toNat (Qbi8 a)))=decPkt a/\(0:Int)=decErr a))):=by
  delta Qbi4 Qbi8 Qbi12 Qbi14 Qbi16
  rintro b ⟨⟨-,hb⟩,-⟩ hl
  refine ⟨hl,ifP_split (fun hc => ?_) (fun hc => ?_)⟩
  · have hc:¬ pkErr b=0:=by simpa using hc
    have e:decErr b=pkErr b:=by rw [decErr,if_pos hc]
    rw [decPkt,e,if_neg hc];exact ⟨rfl,rfl⟩
  have hc:pkErr b=0:=by simpa using hc
  have hlen:pkLen b=wordAt b 2:=by rw [pkLen,if_pos hc]
  rw [hlen]
  refine ifP_split (fun h2 => ?_) (fun h2 => ?_)
  · have h2:¬ wordAt b 2=b.length:=by simpa using h2
    have e:decErr b=2:=by rw [decErr,if_neg (fun k=>k hc),if_pos h2]
    rw [decPkt,e];exact ⟨rfl,rfl⟩
  have h2:wordAt b 2=b.length:=by simpa using h2
  refine ifP_split (fun h5 => ?_) (fun h5 => ?_)
  · have h5:=of_decide_eq_true h5
    have e:decErr b=5:=by rw [decErr,if_neg (fun k=>k hc),if_neg (fun k=>k h2),if_pos h5]
    rw [decPkt,e];exact ⟨rfl,rfl⟩
  have h5:=of_decide_eq_false h5
  have e:decErr b=0:=by rw [decErr,if_neg (fun k=>k hc),if_neg (fun k=>k h2),if_neg h5]
  have h20:=pk_long hc
  rw [show Int.toNat 20=20 from rfl,sub_drop,decPkt,e,if_pos rfl,pkHdr,if_pos hc,List.length_drop]
  exact ⟨by omega,by omega,by omega,by omega,rfl,rfl⟩
theorem ok_ref05_Decode:SpecOK Tryz.prog GL 35 ct_ref05_Decode.spec:=Ct.okH _ Tryz.func35 (by kernel_rfl) (withSpec_ok noSpecs_ok ok_ref05_Peek) hmix an_ref05_Decode (hideMp (by kernel_rfl) vc_ref05_Decode)
end Go.RS

/- Probe: probes, their packets and keys. -/
namespace Go.RS
open Go.SX Go.Proofs
set_option maxRecDepth 100000
set_option linter.unusedVariables false
abbrev cProbe:CT := .pair cU32 (.pair cU32 (.pair cI (.pair cI (.pair cI cI))))
abbrev Probe:Type:=Int×Int×Int×Int×Int×Int
def protoOK (n:Int):Prop:=n=1∨n=6∨n=17
instance (n:Int):Decidable (protoOK n):=by unfold protoOK;infer_instance
def rangeOK (p:Probe):Prop:=(0<=p.2.2.2.1/\p.2.2.2.1<=1023)/\(0<=p.2.2.2.2.1/\p.2.2.2.2.1<=65534)/\1<=p.2.2.2.2.2/\p.2.2.2.2.2<=255
instance (p:Probe):Decidable (rangeOK p):=by unfold rangeOK;infer_instance
def probeErr (p:Probe):Int:=if ¬ protoOK p.2.2.1 then 16 else if ¬ rangeOK p then 1 else 0
def icmpN (p:Probe):Int:=oc (65535-(16384+p.2.2.2.1)+csum (echoBody (false,21075,p.2.2.2.2.1,[0,0])))
def udpX (p:Probe):Int:=oc (65535-(p.2.2.2.2.1+1)+pseudo p.1 p.2.1 17 (udpBody (20000+p.2.2.2.1,33434,[0,0])))
def udpN (p:Probe):Int:=if udpX p=0 then 65535 else udpX p
def conEcho (p:Probe):Echo:=(false,21075,p.2.2.2.2.1,w2 (icmpN p))
def conDgram (p:Probe):Dgram:=(20000+p.2.2.2.1,33434,w2 (udpN p))
def conSeg (p:Probe):Seg:=(20000+p.2.2.2.1,80,p.2.2.2.2.1,0,2,1024,[])
def conP (p:Probe):List Int:=if p.2.2.1=1 then echoEnc (conEcho p) else if p.2.2.1=17 then udpEnc p.1 p.2.1 (conDgram p) else tcpEnc p.1 p.2.1 (conSeg p)
def hdrP (p:Probe):Header:=(0,p.2.2.2.2.1,p.2.2.2.2.2,p.2.2.1,true,p.1,p.2.1)
def build (p:Probe):List Int:=if probeErr p=0 then ipEnc (hdrP p,conP p) else []
def key0:Key:=(0,0,0,0,0)
def probe0:Probe:=(0,0,0,0,0,0)
def keyPkt (x:Packet):Key:=(x.1.2.2.2.2.2.1,x.1.2.2.2.2.2.2,x.1.2.2.2.1,if protoOK x.1.2.2.2.1/\4<=x.2.length then wordAt x.2 0 else 0,if protoOK x.1.2.2.2.1/\4<=x.2.length then wordAt x.2 2 else 0)
def keyB (b:List Int):Key:=if decErr b=0 then keyPkt (decPkt b) else key0
def cand (b:List Int):Probe:=((pkHdrF b).2.2.2.2.2.1,(pkHdrF b).2.2.2.2.2.2,(pkHdrF b).2.2.2.1,if (pkHdrF b).2.2.2.1=1 then (keyB b).2.2.2.2-16384 else (keyB b).2.2.2.1-20000,(pkHdrF b).2.1,(pkHdrF b).2.2.1)
def readOK (b:List Int):Prop:=decErr b=0/\probeErr (cand b)=0/\build (cand b)=b
instance (b:List Int):Decidable (readOK b):=by unfold readOK;infer_instance
def readP (b:List Int):Probe:=if readOK b then cand b else probe0
def readE (b:List Int):Int:=if readOK b then 0 else 17
theorem probe_ok {p:Probe}:probeErr p=0↔protoOK p.2.2.1/\rangeOK p:=by
  unfold probeErr
  constructor
  · intro h
    split at h
    · cases h
    · split at h
      · cases h
      · rename_i h1 h2;exact ⟨Decidable.not_not.1 h1,Decidable.not_not.1 h2⟩
  · rintro ⟨h1,h2⟩
    rw [if_neg (fun k=>k h1),if_neg (fun k=>k h2)]
theorem word_setW {b:List Int} {i:Nat} {c:Int} (h:i+2<=b.length) (c0:0<=c) (c1:c<=65535):wordAt (setW b i c) i=c:=by
  rw [wordAt_get (by rw [setW_len];exact h)]
  unfold setW
  rw [getD_ne (by omega),getD_same (by omega),getD_same (by rw [List.length_set];omega)]
  omega
theorem word_setW_ne {b:List Int} {i j:Nat} {c:Int} (h:j+2<=b.length) (hn:j+2<=i∨i+2<=j):wordAt (setW b i c) j=wordAt b j:=by
  rw [wordAt_get (by rw [setW_len];exact h),wordAt_get h]
  unfold setW
  rw [getD_ne (by omega),getD_ne (by omega),getD_ne (by omega),getD_ne (by omega)]
theorem pseudo_lt {s d:Int} {p:Int} {X:List Int} (hx:bytes X) (hp:0<p%256):0<=pseudo s d p X/\pseudo s d p X<=65534:=by
  have h1:=(pseudo_range (a:=s) (b:=d) (p:=p) hx).1
  refine ⟨h1,?_⟩
  unfold pseudo at h1 ⊢
  split
  · omega
  · unfold csum
    rw [pseudo_sum]
    have h2:=head_nonneg s d p X.length
    have h3:=(sumF_range true X hx).1
    unfold oc
    rw [if_neg (by omega)];omega
theorem bytes2:bytes [0,0]:=bytes_cons (by omega) (by omega) (bytes_cons (by omega) (by omega) bytes_nil)
theorem bytes_echo0 (t:Int):bytes (echoBody (false,21075,t,[0,0])):=echo_bytes bytes2
theorem bytes_udp0 (f:Int):bytes (udpBody (20000+f,33434,[0,0])):=udp_bytes bytes2
theorem icmpN_pos {p:Probe} (h:rangeOK p):1<=icmpN p/\icmpN p<=65535:=by
  have:=csum_range (bytes_echo0 p.2.2.2.2.1)
  obtain ⟨⟨h1,h2⟩,-⟩:=h
  unfold icmpN oc
  rw [if_neg (by omega)];omega
theorem udpX_range {p:Probe} (h:rangeOK p):0<=udpX p/\udpX p<=65535:=by
  have:=pseudo_lt (s:=p.1) (d:=p.2.1) (p:=17) (bytes_udp0 p.2.2.2.1) (by decide)
  obtain ⟨-,⟨h1,h2⟩,-⟩:=h
  exact oc_range (by omega)
theorem udpN_pos {p:Probe} (h:rangeOK p):1<=udpN p/\udpN p<=65535:=by
  have:=udpX_range h
  unfold udpN;split <;> omega
theorem w2_bytes2 (n:Int):(w2 n).length=2:=rfl
theorem okEchoP {p:Probe} (h:rangeOK p):okEcho (w2 (icmpN p)) (conEcho p):=by
  obtain ⟨-,⟨h1,h2⟩,-⟩:=h
  exact ⟨⟨(word16_iff _).2 ⟨by show (0:Int)<=21075;omega,by show (21075:Int)<=_;omega⟩,(word16_iff _).2 ⟨h1,by show p.2.2.2.2.1<=_;omega⟩⟩,rfl⟩
theorem okDgramP {p:Probe} (h:rangeOK p):okDgram (w2 (udpN p)) (conDgram p):=by
  obtain ⟨⟨h1,h2⟩,-⟩:=h
  exact ⟨⟨(word16_iff _).2 ⟨by show (0:Int)<=20000+p.2.2.2.1;omega,by show 20000+p.2.2.2.1<=_;omega⟩,(word16_iff _).2 ⟨by show (0:Int)<=33434;omega,by show (33434:Int)<=_;omega⟩⟩,rfl⟩
theorem okSegP {p:Probe} (h:rangeOK p):okSeg [] (conSeg p):=by
  obtain ⟨⟨h1,h2⟩,⟨h3,h4⟩,-⟩:=h
  refine ⟨⟨(word16_iff _).2 ⟨?_,?_⟩,(word16_iff _).2 ⟨?_,?_⟩,⟨?_,?_⟩,⟨?_,?_⟩,⟨?_,?_⟩,(word16_iff _).2 ⟨?_,?_⟩⟩,rfl⟩ <;> simp only [conSeg] <;> omega
theorem echo_err0 {p:Probe} (h:rangeOK p):echoErr (conEcho p)=0:=echo_good (okEchoP h) (by rw [w2_bytes2];omega)
theorem udp_err0 {p:Probe} (h:rangeOK p):udpErr (conDgram p)=0:=udp_good (okDgramP h) (by rw [w2_bytes2];omega)
theorem tcp_err0 {p:Probe} (h:rangeOK p):tcpErr (conSeg p)=0:=tcp_good (okSegP h) (by simp)
theorem con_echo {p:Probe} (h:rangeOK p) (h1:p.2.2.1=1):conP p=setW (echoBody (conEcho p)) 2 (csum (echoBody (conEcho p))):=by
  rw [conP,if_pos h1,echoEnc,if_pos (echo_err0 h)]
theorem con_udp {p:Probe} (h:rangeOK p) (h1:p.2.2.1=17):conP p=setW (udpBody (conDgram p)) 6 (sumU p.1 p.2.1 (udpBody (conDgram p))):=by
  rw [conP,if_neg (by omega),if_pos h1,udpEnc,if_pos (udp_err0 h)]
theorem con_tcp {p:Probe} (h:rangeOK p) (h1:p.2.2.1=6):conP p=setW (tcpBody (conSeg p)) 16 (pseudo p.1 p.2.1 6 (tcpBody (conSeg p))):=by
  rw [conP,if_neg (by omega),if_neg (by omega),tcpEnc,if_pos (tcp_err0 h)]
theorem con_len {p:Probe} (h:probeErr p=0):(p.2.2.1≠6/\(conP p).length=10)∨(p.2.2.1=6/\(conP p).length=20):=by
  obtain ⟨h1|h1|h1,h2⟩:=probe_ok.1 h
  · rw [con_echo h2 h1,setW_len];exact .inl ⟨by omega,rfl⟩
  · rw [con_tcp h2 h1,setW_len];exact .inr ⟨h1,rfl⟩
  · rw [con_udp h2 h1,setW_len];exact .inl ⟨by omega,rfl⟩
theorem con_bytes {p:Probe} (h:probeErr p=0):bytes (conP p):=by
  obtain ⟨h1|h1|h1,h2⟩:=probe_ok.1 h
  · rw [con_echo h2 h1];exact bytes_setW (echo_bytes (bytes_w2 _))
  · rw [con_tcp h2 h1];exact bytes_setW (tcp_bytes (okSegP h2).1 bytes_nil)
  · rw [con_udp h2 h1];exact bytes_setW (udp_bytes (bytes_w2 _))
theorem hdrP_ok {p:Probe} (h:probeErr p=0):hdrOK (hdrP p):=by
  obtain ⟨h1,⟨-,⟨h2,h3⟩,h4,h5⟩⟩:=probe_ok.1 h
  refine ⟨⟨?_,?_⟩,⟨?_,?_⟩,⟨?_,?_⟩,?_,?_⟩ <;> simp only [hdrP] <;> unfold protoOK at h1 <;> omega
theorem ipErr0 {p:Probe} (h:probeErr p=0):ipErr (hdrP p,conP p)=0:=by
  rw [ipErr,if_neg (fun k=>k (hdrP_ok h)),if_neg]
  rcases con_len h with h|h <;> rw [h.2] <;> simp
theorem build_eq {p:Probe} (h:probeErr p=0):build p=hdrB (hdrP p) (20+(conP p).length)++conP p:=by
  rw [build,if_pos h,ipEnc,if_pos (ipErr0 h)]
theorem build_len (p:Probe):(build p).length<=40:=by
  by_cases h:probeErr p=0
  · rw [build_eq h,List.length_append,hdrB_len]
    rcases con_len h with h|h <;> omega
  · rw [build,if_neg h];simp
theorem build_bytes (p:Probe):bytes (build p):=by
  by_cases h:probeErr p=0
  · rw [build_eq h];exact bytes_app (hdrB_bytes (hdrP_ok h)) (con_bytes h)
  · rw [build,if_neg h];exact bytes_nil
theorem read_len {b:List Int} (h:readOK b):30<=b.length:=by
  obtain ⟨h1,h2,h3⟩:=h
  rw [← h3,build_eq h2,List.length_append,hdrB_len]
  rcases con_len h2 with h|h <;> omega
theorem key_proto {b:List Int} (h:decErr b=0):keyB b=keyPkt (pkHdrF b,b.drop 20):=by rw [keyB,if_pos h,decPkt,if_pos h]
def ct_probe_Check:Ct:=⟨[.agg cProbe],[.val cI],fun d=>[],fun d=>((probeErr d.1,()),())⟩
def an_probe_Check:PDs ct_probe_Check.ps->Anns:=(fun _=>{})
def Qbj5 (a b c d e f:Int) :=
 (0<=a/\a<=4294967295)/\(0<=b/\b<=4294967295)/\R64 c/\R64 d/\R64 e/\R64 f
theorem vc_probe_Check :
 ∀(a b c d e f:Int),(Qbj5 a b c d e f)/\True->True-> ∀(g:Bool),g= ! decide (c=1)->(g->(g->g)/\True)/\(g->(g->g)/\True)/\(g->g)/\ ∀(h:Bool),(h=bif g then ! decide (c=6) else false)->(h->(h->h)/\True)/\(h->(h->h)/\True)/\(h->h)/\ifP (bif h then ! decide (c=17) else false) ((16:Int)=probeErr (a,b,c,d,e,f)) (∀(i:Bool),i=decide (d<0)->((! i)->((! i)->(! i))/\True)/\((! i)->((! i)->(! i))/\True)/\(i=false->(! i))/\ifP (bif i then true else decide (1023<d)) (ifP (bif i then true else decide (1023<d)) ((1:Int)=probeErr (a,b,c,d,e,f)) ((0:Int)=probeErr (a,b,c,d,e,f))) (∀(j:Bool),j=decide (e<0)->((! j)->((! j)->(! j))/\True)/\((! j)->((! j)->(! j))/\True)/\(j=false->(! j))/\ifP (bif j then true else decide (65534<e)) (ifP (bif j then true else decide (65534<e)) ((1:Int)=probeErr (a,b,c,d,e,f)) ((0:Int)=probeErr (a,b,c,d,e,f))) (∀(k:Bool),k=decide (f<1)->((! k)->((! k)->(! k))/\True)/\((! k)->((!
 k)->(! k))/\True)/\(k=false->(! k))/\ifP (bif k then true else decide (255<f)) ((1:Int)=probeErr (a,b,c,d,e,f)) ((0:Int)=probeErr (a,b,c,d,e,f))))):=by
  delta Qbj5
  rintro s d pr f t l - -
  (repeat (intro (b_:Bool) (hb_:b_=_);(repeat refine ⟨(by first|(simp;done)|(rw [hb_];simp;done)|(rw [hb_];simp;omega)|(rw [hb_];simp;intros;omega)|(rw [hb_];simp +contextual;done)),?_⟩);subst hb_))
  refine ifP_split (fun hc => ?_) (fun hc => ?_)
  · rw [probeErr,if_pos]
    simp only [protoOK]
    intro k
    rcases k with rfl|rfl|rfl <;> simp at hc
  have hp:protoOK pr:=by
    unfold protoOK
    by_cases h1:pr=1
    · exact .inl h1
    · by_cases h6:pr=6
      · exact .inr (.inl h6)
      · simp [h1,h6] at hc;exact .inr (.inr hc)
  have key:∀ (v:Int),(v=if rangeOK (s,d,pr,f,t,l) then 0 else 1)->v=probeErr (s,d,pr,f,t,l):=by
    intro v hv
    rw [probeErr,if_neg (fun k=>k hp),hv]
    by_cases k:rangeOK (s,d,pr,f,t,l)
    · rw [if_pos k,if_neg (fun q=>q k)]
    · rw [if_neg k,if_pos k]
  (repeat (intro (b_:Bool) (hb_:b_=_);(repeat refine ⟨(by first|(simp;done)|(rw [hb_];simp;done)|(rw [hb_];simp;omega)|(rw [hb_];simp;intros;omega)|(rw [hb_];simp +contextual;done)),?_⟩);subst hb_))
  refine ifP_split (fun h1 => ?_) (fun h1 => ?_)
  · have hn:¬ rangeOK (s,d,pr,f,t,l):=by
      rintro ⟨⟨a,b⟩,-⟩
      simp only at a b
      simp [Bool.cond_eq_ite] at h1;omega
    exact ifP_split (fun _=>key 1 (by rw [if_neg hn])) (fun h=>by rw [h] at h1;cases h1)
  (repeat (intro (b_:Bool) (hb_:b_=_);(repeat refine ⟨(by first|(simp;done)|(rw [hb_];simp;done)|(rw [hb_];simp;omega)|(rw [hb_];simp;intros;omega)|(rw [hb_];simp +contextual;done)),?_⟩);subst hb_))
  refine ifP_split (fun h2 => ?_) (fun h2 => ?_)
  · have hn:¬ rangeOK (s,d,pr,f,t,l):=by
      rintro ⟨-,⟨a,b⟩,-⟩
      simp only at a b
      simp [Bool.cond_eq_ite] at h2;omega
    exact ifP_split (fun _=>key 1 (by rw [if_neg hn])) (fun h=>by rw [h] at h2;cases h2)
  (repeat (intro (b_:Bool) (hb_:b_=_);(repeat refine ⟨(by first|(simp;done)|(rw [hb_];simp;done)|(rw [hb_];simp;omega)|(rw [hb_];simp;intros;omega)|(rw [hb_];simp +contextual;done)),?_⟩);subst hb_))
  simp [Bool.cond_eq_ite] at h1 h2
  refine ifP_split (fun h3 => ?_) (fun h3 => ?_)
  · have hn:¬ rangeOK (s,d,pr,f,t,l):=by
      rintro ⟨-,-,a,b⟩
      simp only at a b
      simp [Bool.cond_eq_ite] at h3;omega
    exact key 1 (by rw [if_neg hn])
  · have hn:rangeOK (s,d,pr,f,t,l):=by
      simp [Bool.cond_eq_ite] at h3
      refine ⟨⟨?_,?_⟩,⟨?_,?_⟩,?_,?_⟩ <;> simp only <;> omega
    exact key 0 (by rw [if_pos hn])
theorem ok_probe_Check:SpecOK Tryz.prog GL 84 ct_probe_Check.spec:=Ct.okH _ Tryz.func84 (by kernel_rfl) noSpecs_ok hmix an_probe_Check (hideMp (by kernel_rfl) vc_probe_Check)
def ct_ref07_Check:Ct:=⟨[.agg cProbe],[.val cI],fun d=>[],fun d=>((probeErr d.1,()),())⟩
def an_ref07_Check:PDs ct_ref07_Check.ps->Anns:=(fun _=>{})
theorem vc_ref07_Check :
 ∀(a b c d e f:Int),(Qbj5 a b c d e f)/\True->True-> ∀(g:Bool),g= ! decide (c=1)->(g->(g->g)/\True)/\(g->(g->g)/\True)/\(g->g)/\ ∀(h:Bool),(h=bif g then ! decide (c=17) else false)->(h->(h->h)/\True)/\(h->(h->h)/\True)/\(h->h)/\ifP (bif h then ! decide (c=6) else false) ((16:Int)=probeErr (a,b,c,d,e,f)) (∀(i:Bool),i=decide (d<0)->((! i)->((! i)->(! i))/\True)/\((! i)->((! i)->(! i))/\True)/\(i=false->(! i))/\ ∀(j:Bool),(j=bif i then true else decide (1023<d))->((! j)->((! j)->(! j))/\True)/\((! j)->((! j)->(! j))/\True)/\(j=false->(! j))/\ ∀(k:Bool),(k=bif j then true else decide (e<0))->((! k)->((! k)->(! k))/\True)/\((! k)->((! k)->(! k))/\True)/\(k=false->(! k))/\ ∀(l:Bool),(l=bif k then true else decide (65534<e))->((! l)->((! l)->(! l))/\True)/\((! l)->((! l)->(! l))/\True)/\(l=false->(! l))/\ ∀(m:Bool),(m=bif l then true else decide (f<1))->((! m)->((! m)->(! m))/\True)/\((! m)->((!
 m)->(! m))/\True)/\(m=false->(! m))/\ifP (bif m then true else decide (255<f)) ((1:Int)=probeErr (a,b,c,d,e,f)) ((0:Int)=probeErr (a,b,c,d,e,f))):=by
  delta Qbj5
  rintro s d pr f t l - -
  (repeat (intro (b_:Bool) (hb_:b_=_);(repeat refine ⟨(by first|(simp;done)|(rw [hb_];simp;done)|(rw [hb_];simp;omega)|(rw [hb_];simp;intros;omega)|(rw [hb_];simp +contextual;done)),?_⟩);subst hb_))
  refine ifP_split (fun hc => ?_) (fun hc => ?_)
  · rw [probeErr,if_pos]
    simp only [protoOK]
    intro k
    rcases k with rfl|rfl|rfl <;> simp at hc
  have hp:protoOK pr:=by
    unfold protoOK
    by_cases h1:pr=1
    · exact .inl h1
    · by_cases h6:pr=17
      · exact .inr (.inr h6)
      · simp [h1,h6] at hc;exact .inr (.inl hc)
  have key:∀ (v:Int),(v=if rangeOK (s,d,pr,f,t,l) then 0 else 1)->v=probeErr (s,d,pr,f,t,l):=by
    intro v hv
    rw [probeErr,if_neg (fun k=>k hp),hv]
    by_cases k:rangeOK (s,d,pr,f,t,l)
    · rw [if_pos k,if_neg (fun q=>q k)]
    · rw [if_neg k,if_pos k]
  (repeat (intro (b_:Bool) (hb_:b_=_);(repeat refine ⟨(by first|(simp;done)|(rw [hb_];simp;done)|(rw [hb_];simp;omega)|(rw [hb_];simp;intros;omega)|(rw [hb_];simp +contextual;done)),?_⟩);subst hb_))
  refine ifP_split (fun h1 => ?_) (fun h1 => ?_)
  · have hn:¬ rangeOK (s,d,pr,f,t,l):=by
      rintro ⟨⟨a,b⟩,⟨a2,b2⟩,a3,b3⟩
      simp only at a b a2 b2 a3 b3
      simp [Bool.cond_eq_ite] at h1;omega
    exact key 1 (by rw [if_neg hn])
  · have hn:rangeOK (s,d,pr,f,t,l):=by
      simp [Bool.cond_eq_ite] at h1
      refine ⟨⟨?_,?_⟩,⟨?_,?_⟩,?_,?_⟩ <;> simp only <;> omega
    exact key 0 (by rw [if_pos hn])
theorem ok_ref07_Check:SpecOK Tryz.prog GL 76 ct_ref07_Check.spec:=Ct.okH _ Tryz.func76 (by kernel_rfl) noSpecs_ok hmix an_ref07_Check (hideMp (by kernel_rfl) vc_ref07_Check)
def ct_probe_Key:Ct:=⟨[.val (.sl cU8)],[.agg cKey,.val cI],fun d=>[(d.1.length:Int)<=1099511627776],fun d=>((keyB d.1,decErr d.1,()),())⟩
def an_probe_Key:PDs ct_probe_Key.ps->Anns:=(fun _=>{})
def Qbj1 (a:List Int) (b:(Int×Int×Int×Int×Bool×Int×Int)×List Int) :=
 (b.1.2.2.2.2.2.1,b.1.2.2.2.2.2.2,b.1.2.2.2.1,(0:Int),(0:Int))=keyB a/\(0:Int)=decErr a
def Qbj0 (a:List Int) (b:(Int×Int×Int×Int×Bool×Int×Int)×List Int) :=
 ifP (decide (4<=(b.2.length:Int))) ((b.2.length:Int)<=1099511627776/\(b.2.length:Int)<=1099511627776/\(b.1.2.2.2.2.2.1,b.1.2.2.2.2.2.2,b.1.2.2.2.1,getV b.2 (0:Int) (2:Int),getV b.2 (2:Int) (2:Int))=keyB a/\(0:Int)=decErr a) (Qbj1 a b)
theorem vc_probe_Key :
 ∀(a:List Int),(a.length<=maxLen/\ ∀(b:Int),b∈a->0<=b/\b<=255)/\True->(a.length:Int)<=1099511627776->(a.length:Int)<=1099511627776/\ ∀(b:(Int×Int×Int×Int×Bool×Int×Int)×List Int) (c:Int),b=decPkt a/\c=decErr a->ifP (! decide (c=0)) (((0:Int),(0:Int),(0:Int),(0:Int),(0:Int))=keyB a/\c=decErr a) (ifP (decide (b.1.2.2.2.1=1)) (ifP (decide (b.1.2.2.2.1=1)) (Qbj0 a b) (Qbj1 a b)) (ifP (decide (b.1.2.2.2.1=6)) (ifP (decide (b.1.2.2.2.1=6)) (Qbj0 a b) (Qbj1 a b)) (ifP (decide (b.1.2.2.2.1=17)) (Qbj0 a b) (Qbj1 a b)))):=by
  delta Qbj0 Qbj1
  rintro b ⟨⟨-,hb⟩,-⟩ hl
  refine ⟨hl,?_⟩
  rintro d e ⟨rfl,rfl⟩
  refine ifP_split (fun h => ?_) (fun h => ?_)
  · have h:¬ decErr b=0:=by simpa using h
    rw [keyB,if_neg h];exact ⟨rfl,rfl⟩
  have h:decErr b=0:=by simpa using h
  have hdl:=dec_len h
  have hk:keyB b=keyPkt (decPkt b):=by rw [keyB,if_pos h]
  rw [hk,h]
  have hpl:((decPkt b).2.length:Int)<=1500:=by rw [decPkt,if_pos h];simp only [List.length_drop];omega
  generalize decPkt b=x at *
  have yes:protoOK x.1.2.2.2.1->(4:Int)<=x.2.length->((x.2.length:Int)<=1099511627776/\(x.2.length:Int)<=1099511627776/\(x.1.2.2.2.2.2.1,x.1.2.2.2.2.2.2,x.1.2.2.2.1,getV x.2 0 2,getV x.2 2 2)=keyPkt x/\(0:Int)=0):=by
    intro h1 h2
    refine ⟨by omega,by omega,?_,rfl⟩
    rw [gV2 (by omega) (by omega),gV2 (by omega) (by omega),keyPkt,if_pos ⟨h1,by omega⟩,if_pos ⟨h1,by omega⟩];rfl
  have no:¬ (protoOK x.1.2.2.2.1/\(4:Int)<=x.2.length)->((x.1.2.2.2.2.2.1,x.1.2.2.2.2.2.2,x.1.2.2.2.1,(0:Int),(0:Int))=keyPkt x/\(0:Int)=0):=by
    intro h1
    rw [keyPkt,if_neg (fun k=>h1 ⟨k.1,by omega⟩),if_neg (fun k=>h1 ⟨k.1,by omega⟩)];exact ⟨rfl,rfl⟩
  refine ifP_split (fun h1 => ?_) (fun h1 => ?_)
  · refine ifP_split (fun _ => ?_) (fun k=>by rw [h1] at k;cases k)
    have h1:=of_decide_eq_true h1
    exact ifP_split (fun h4=>yes (.inl h1) (of_decide_eq_true h4)) (fun h4=>no (fun k=>(of_decide_eq_false h4) k.2))
  refine ifP_split (fun h6 => ?_) (fun h6 => ?_)
  · refine ifP_split (fun _ => ?_) (fun k=>by rw [h6] at k;cases k)
    have h6:=of_decide_eq_true h6
    exact ifP_split (fun h4=>yes (.inr (.inl h6)) (of_decide_eq_true h4)) (fun h4=>no (fun k=>(of_decide_eq_false h4) k.2))
  refine ifP_split (fun h17 => ?_) (fun h17 => ?_)
  · have h17:=of_decide_eq_true h17
    exact ifP_split (fun h4=>yes (.inr (.inr h17)) (of_decide_eq_true h4)) (fun h4=>no (fun k=>(of_decide_eq_false h4) k.2))
  · have h1:=of_decide_eq_false h1
    have h6:=of_decide_eq_false h6
    have h17:=of_decide_eq_false h17
    exact no (fun k=>by rcases k.1 with k|k|k <;> contradiction)
theorem ok_probe_Key:SpecOK Tryz.prog GL 198 ct_probe_Key.spec:=Ct.okH _ Tryz.func198 (by kernel_rfl) (withSpec_ok (withSpec_ok noSpecs_ok (Ct.named ok_ipv4_Decode)) ok_wire_Get) hmix an_probe_Key (hideMp (by kernel_rfl) vc_probe_Key)
def ct_ref07_balanced:Ct:=⟨[.val cI,.val cI],[.val cI],fun d=>[0<=d.1,d.1<=65535,0<=d.2.1,d.2.1<=65535],fun d=>((if oc (65535-d.2.1+d.1)=0 then 65535 else oc (65535-d.2.1+d.1),()),())⟩
def an_ref07_balanced:PDs ct_ref07_balanced.ps->Anns:=(fun _=>{})
def Qbj6 (a b:Int) :=
 if (word16 (IntKind.wrap .i64 ((65535:Int) -b))&&word16 a)=true then oc (IntKind.wrap .i64 ((65535:Int) -b)+a) else (0:Int)
theorem vc_ref07_balanced :
 ∀(a b:Int),R64 a/\R64 b/\True->0<=a/\a<=65535/\0<=b/\b<=65535->ifP (decide ((Qbj6 a b)=0)) ((65535:Int)=if oc ((65535:Int) -b+a)=0 then (65535:Int) else oc ((65535:Int) -b+a)) ((Qbj6 a b)=if oc ((65535:Int) -b+a)=0 then (65535:Int) else oc ((65535:Int) -b+a)):=by
  delta Qbj6
  rintro a b-⟨a0,a1,b0,b1⟩
  rw [w64 (n:=65535-b) (by omega) (by omega),if_pos (by simp only [Bool.and_eq_true,word16_iff];omega)]
  refine ifP_split (fun h => ?_) (fun h => ?_)
  · rw [if_pos (of_decide_eq_true h)]
  · rw [if_neg (of_decide_eq_false h)]
theorem ok_ref07_balanced:SpecOK Tryz.prog GL 125 ct_ref07_balanced.spec:=Ct.okH _ Tryz.func125 (by kernel_rfl) (withSpec_ok noSpecs_ok ok_ref04_Add) hmix an_ref07_balanced (hideMp (by kernel_rfl) vc_ref07_balanced)
def ct_ref07_data:Ct:=⟨[.agg cProbe],[.own 5 cU8],fun d=>[probeErr d.1=0],fun d=>((conP d.1,()),())⟩
def an_ref07_data:PDs ct_ref07_data.ps->Anns:=(fun _=>{})
theorem vc_ref07_data :
 ∀(a b c d e f:Int),(Qbj5 a b c d e f)/\True->probeErr (a,b,c,d,e,f)=0->ifP (decide (c=1)) (((List.length [(0:Int),(0:Int)]):Int)<=1073741824/\ ∀(g:List Int) (h:Int),g=echoEnc (false,(21075:Int),e,[(0:Int),(0:Int)])/\h=echoErr (false,(21075:Int),e,[(0:Int),(0:Int)])->(g.length:Int)<=1099511627776/\ ∀(i:Int),i=getV g (2:Int) (2:Int)->0<=i/\i<=65535/\0<=IntKind.wrap .i64 ((16384:Int)+d)/\IntKind.wrap .i64 ((16384:Int)+d)<=65535/\ ∀(j:Int),(j=if oc ((65535:Int) -IntKind.wrap .i64 ((16384:Int)+d)+i)=0 then (65535:Int) else oc ((65535:Int) -IntKind.wrap .i64 ((16384:Int)+d)+i))->(↑(0:Nat):Int)<=1099511627776/\ ∀(k:List Int),k=putB ([]:List Int) j (2:Int)->(k.length:Int)<=1073741824/\ ∀(l:List Int) (m:Int),l=echoEnc (false,(21075:Int),e,k)/\m=echoErr (false,(21075:Int),e,k)->l=conP (a,b,c,d,e,f)) (ifP (decide (c=17)) ((↑(0:Nat):Int)<=1099511627776/\ ∀(g:List Int),g=putB ([]:List Int)
 (IntKind.wrap .i64 ((20000:Int)+d)) (2:Int)->(g.length:Int)<=1099511627776/\ ∀(h:List Int),h=putB g (33434:Int) (2:Int)->(h.length+List.length [(0:Int),(10:Int),(0:Int),(0:Int),(0:Int),(0:Int)])*(1:Nat)<=(140737488355328:Nat)/\((List.length (h++[(0:Int),(10:Int),(0:Int),(0:Int),(0:Int),(0:Int)])):Int)<=1073741824/\ ∀(i:Int),i=pseudo a b (17:Int) (h++[(0:Int),(10:Int),(0:Int),(0:Int),(0:Int),(0:Int)])->0<=i/\i<=65535/\0<=IntKind.wrap .i64 (e+(1:Int))/\IntKind.wrap .i64 (e+(1:Int))<=65535/\ ∀(j:Int),(j=if oc ((65535:Int) -IntKind.wrap .i64 (e+(1:Int))+i)=0 then (65535:Int) else oc ((65535:Int) -IntKind.wrap .i64 (e+(1:Int))+i))->(↑(0:Nat):Int)<=1099511627776/\ ∀(k:List Int),k=putB ([]:List Int) j (2:Int)->(k.length:Int)<=1073741824/\udpEnc a b (IntKind.wrap .i64 ((20000:Int)+d),(33434:Int),k)=conP (a,b,c,d,e,f)) ((↑(0:Nat):Int)<=1000000/\tcpEnc a b (IntKind.wrap .i64
 ((20000:Int)+d),(80:Int),e,(0:Int),(2:Int),(1024:Int),([]:List Int))=conP (a,b,c,d,e,f))):=by
  delta Qbj5
  rintro s d pr f t l-he
  obtain ⟨hp,hr⟩:=probe_ok.1 he
  have hr':=hr
  obtain ⟨⟨f0,f1⟩,⟨t0,t1⟩,l0,l1⟩:=hr'
  simp only at f0 f1 t0 t1 l0 l1
  rw [w64 (n:=16384+f) (by omega) (by omega),w64 (n:=20000+f) (by omega) (by omega),w64 (n:=t+1) (by omega) (by omega)]
  refine ifP_split (fun h1 => ?_) (fun h1=>ifP_split (fun h17 => ?_) (fun h17 => ?_))
  · have h1:=of_decide_eq_true h1
    have e0:echoErr (false,21075,t,[0,0])=0:=echo_good (data:=[0,0]) ⟨⟨(word16_iff _).2 ⟨by show (0:Int)<=21075;omega,by show (21075:Int)<=_;omega⟩,(word16_iff _).2 ⟨t0,by show t<=_;omega⟩⟩,rfl⟩ (by simp)
    have hc:=csum_range (bytes_echo0 t)
    refine ⟨by simp,?_⟩
    rintro b _ ⟨rfl,-⟩
    rw [echoEnc,if_pos e0]
    have hl:(setW (echoBody (false,21075,t,[0,0])) 2 (csum (echoBody (false,21075,t,[0,0])))).length=10:=by rw [setW_len];rfl
    refine ⟨by omega,?_⟩
    rw [gV2 (by omega) (by omega),show Int.toNat 2=2 from rfl,word_setW (by show 2+2<=10;omega) hc.1 hc.2]
    rintro _ rfl
    refine ⟨hc.1,hc.2,by omega,by omega,?_⟩
    have hi:=icmpN_pos hr
    have ei:oc (65535-(16384+f)+csum (echoBody (false,21075,t,[0,0])))=icmpN (s,d,pr,f,t,l):=rfl
    rw [ei,if_neg (by omega)]
    rintro _ rfl
    refine ⟨by omega,?_⟩
    rw [putB_2 (by omega) (by omega)]
    rintro _ rfl
    refine ⟨by simp [w2],?_⟩
    rintro _ _ ⟨rfl,-⟩
    rw [conP,if_pos h1];rfl
  · have h17:=of_decide_eq_true h17
    refine ⟨by omega,?_⟩
    rw [putB_2 (by omega) (by omega)]
    rintro _ rfl
    refine ⟨by simp [w2],?_⟩
    rw [putB_2 (by omega) (by omega)]
    rintro _ rfl
    have eb:[]++w2 (20000+f)++w2 33434++[0,10,0,0,0,0]=udpBody (20000+f,33434,[0,0]):=by simp [udpBody,w2]
    rw [eb]
    refine ⟨by simp [w2],by show ((10:Nat):Int)<=_;omega,?_⟩
    have hq:=pseudo_lt (s:=s) (d:=d) (p:=17) (bytes_udp0 f) (by decide)
    rintro _ rfl
    refine ⟨hq.1,by omega,by omega,by omega,?_⟩
    have hu:=udpN_pos hr
    have eu:(if oc (65535-(t+1)+pseudo s d 17 (udpBody (20000+f,33434,[0,0])))=0 then 65535 else oc (65535-(t+1)+pseudo s d 17 (udpBody (20000+f,33434,[0,0]))))=udpN (s,d,pr,f,t,l):=rfl
    rw [eu]
    rintro _ rfl
    refine ⟨by omega,?_⟩
    rw [putB_2 (by omega) (by omega)]
    rintro _ rfl
    refine ⟨by simp [w2],?_⟩
    rw [conP,if_neg (by simp only;omega),if_pos h17];rfl
  · have h1:=of_decide_eq_false h1
    have h17:=of_decide_eq_false h17
    rw [conP,if_neg h1,if_neg h17]
    exact ⟨by omega,rfl⟩
theorem ok_ref07_data:SpecOK Tryz.prog GL 78 ct_ref07_data.spec:=Ct.okH _ Tryz.func78 (by kernel_rfl) (withSpec_ok (withSpec_ok (withSpec_ok (withSpec_ok (withSpec_ok (withSpec_ok (withSpec_ok noSpecs_ok (Ct.named ok_ref06_EncodeEcho)) (Ct.named ok_ref04_At)) (Ct.named ok_ref07_balanced)) (Ct.named ok_ref04_Push)) (Ct.named ok_ref06_Pseudo)) ok_ref06_EncodeUDP) ok_ref06_EncodeTCP) hmix an_ref07_data (hideMp (by kernel_rfl) vc_ref07_data)
def ct_ref07_Build:Ct:=⟨[.agg cProbe],[.own 5 cU8,.val cI],fun d=>[],fun d=>((build d.1,probeErr d.1,()),())⟩
def an_ref07_Build:PDs ct_ref07_Build.ps->Anns:=(fun _=>{})
theorem vc_ref07_Build :
 ∀(a b c d e f:Int),(Qbj5 a b c d e f)/\True->True->ifP (! decide (probeErr (a,b,c,d,e,f)=0)) (([]:List Int)=build (a,b,c,d,e,f)/\probeErr (a,b,c,d,e,f)=probeErr (a,b,c,d,e,f)) (probeErr (a,b,c,d,e,f)=0/\((List.length (conP (a,b,c,d,e,f))):Int)<=1073741824/\ipEnc (((0:Int),e,f,c,true,a,b),conP (a,b,c,d,e,f))=build (a,b,c,d,e,f)/\ipErr (((0:Int),e,f,c,true,a,b),conP (a,b,c,d,e,f))=probeErr (a,b,c,d,e,f)):=by
  delta Qbj5
  rintro s d pr f t l - -
  refine ifP_split (fun h => ?_) (fun h => ?_)
  · have h:¬ probeErr (s,d,pr,f,t,l)=0:=by simpa using h
    rw [build,if_neg h];exact ⟨rfl,rfl⟩
  have h:probeErr (s,d,pr,f,t,l)=0:=by simpa using h
  have e0:=ipErr0 h
  have hl:=con_len h
  refine ⟨h,by omega,?_⟩
  rw [build,if_pos h,h]
  exact ⟨rfl,e0⟩
theorem ok_ref07_Build:SpecOK Tryz.prog GL 29 ct_ref07_Build.spec:=Ct.okH _ Tryz.func29 (by kernel_rfl) (withSpec_ok (withSpec_ok (withSpec_ok noSpecs_ok ok_ref07_Check) ok_ref07_data) ok_ref05_Encode) hmix an_ref07_Build (hideMp (by kernel_rfl) vc_ref07_Build)
def ct_ref07_Read:Ct:=⟨[.val (.sl cU8)],[.agg cProbe,.val cI],fun d=>[(d.1.length:Int)<=1099511627776],fun d=>((readP d.1,readE d.1,()),())⟩
def an_ref07_Read:PDs ct_ref07_Read.ps->Anns:=(fun _=>{})
def Qbj2 (a:List Int) :=
 ((0:Int),(0:Int),(0:Int),(0:Int),(0:Int),(0:Int))=readP a/\(17:Int)=readE a
def Qbj3 (b:(Int×Int×Int×Int×Bool×Int×Int)×List Int) (f:Int) :=
 (b.1.2.2.2.2.2.1,b.1.2.2.2.2.2.2,b.1.2.2.2.1,IntKind.wrap .i64 (f -(16384:Int)),b.1.2.1,b.1.2.2.1)
def Qbj4 (b:(Int×Int×Int×Int×Bool×Int×Int)×List Int) (e:Int) :=
 (b.1.2.2.2.2.2.1,b.1.2.2.2.2.2.2,b.1.2.2.2.1,IntKind.wrap .i64 (e -(20000:Int)),b.1.2.1,b.1.2.2.1)
theorem vc_ref07_Read :
 ∀(a:List Int),(a.length<=maxLen/\ ∀(b:Int),b∈a->0<=b/\b<=255)/\True->(a.length:Int)<=1099511627776->(a.length:Int)<=1099511627776/\ ∀(b:(Int×Int×Int×Int×Bool×Int×Int)×List Int) (c:Int),b=decPkt a/\c=decErr a-> ∀(d:Bool),d= ! decide (c=0)->((! d)->((! d)->(! d))/\True)/\((! d)->((! d)->(! d))/\True)/\((! d)->((! d)->(! d))/\True)/\(d=false->(! d))/\ifP (bif d then true else decide ((b.2.length:Int)<8)) (Qbj2 a) ((b.2.length:Int)<=1099511627776/\ ∀(e:Int),e=getV b.2 (0:Int) (2:Int)->ifP (decide (b.1.2.2.2.1=1)) ((b.2.length:Int)<=1099511627776/\ ∀(f:Int),f=getV b.2 (2:Int) (2:Int)-> ∀(g:Bool),g= ! decide (probeErr (Qbj3 b f)=0)->((! g)->((! g)->(! g))/\((! g)->(! g))/\True)/\((! g)->((! g)->(! g))/\True)/\(g=false->(! g))/\ifP (bif g then true else ! decide (build (Qbj3 b f)=a)) (Qbj2 a) ((Qbj3 b f)=readP a/\(0:Int)=readE a)) (∀(f:Bool),f= ! decide (probeErr (Qbj4 b e)=0)->((! f)->((!
 f)->(! f))/\((! f)->(! f))/\True)/\((! f)->((! f)->(! f))/\True)/\(f=false->(! f))/\ifP (bif f then true else ! decide (build (Qbj4 b e)=a)) (Qbj2 a) ((Qbj4 b e)=readP a/\(0:Int)=readE a))):=by
  delta Qbj2 Qbj3 Qbj4
  rintro b ⟨⟨-,hb⟩,-⟩ hl
  refine ⟨hl,?_⟩
  rintro d e ⟨rfl,rfl⟩
  (repeat (intro (b_:Bool) (hb_:b_=_);(repeat refine ⟨(by first|(simp;done)|(rw [hb_];simp;done)|(rw [hb_];simp;omega)|(rw [hb_];simp;intros;omega)|(rw [hb_];simp +contextual;done)),?_⟩);subst hb_))
  refine ifP_split (fun h => ?_) (fun h => ?_)
  · have hn:¬ readOK b:=fun k=>by
      have h30:=read_len k
      rw [k.1,decPkt,if_pos k.1] at h
      simp only [List.length_drop] at h
      simp at h;omega
    rw [readP,readE,if_neg hn,if_neg hn];exact ⟨rfl,rfl⟩
  have h0:decErr b=0:=Classical.byContradiction fun k=>by simp [k] at h
  have h8:¬ ((decPkt b).2.length:Int)<8:=by
    rw [h0] at h;simpa using h
  rw [decPkt,if_pos h0] at h8 ⊢
  simp only at h8 ⊢
  have hpk:=dec_pk h0
  have hdl:=dec_len h0
  have hr0:=bytes_word (bytes_drop (n:=20) hb) 0
  have hr2:=bytes_word (bytes_drop (n:=20) hb) 2
  have hld:(b.drop 20).length<=1500:=by rw [List.length_drop];omega
  have hk:=key_proto h0
  rw [gV2 (a:=0) (by omega) (by omega),gV2 (a:=2) (by omega) (by omega),show Int.toNat 0=0 from rfl,show Int.toNat 2=2 from rfl]
  refine ⟨by omega,?_⟩
  rintro _ rfl
  have fin:∀ q,(protoOK (pkHdrF b).2.2.2.1->q=cand b)->q.2.2.1=(pkHdrF b).2.2.2.1→∀ b0:Bool,(b0 = !decide (probeErr q=0))->ifP (bif b0 then true else !decide (build q=b)) (((0:Int),(0:Int),(0:Int),(0:Int),(0:Int),(0:Int))=readP b/\(17:Int)=readE b) (q=readP b/\(0:Int)=readE b):=by
    rintro q hq hq2 b0 rfl
    by_cases hp:protoOK (pkHdrF b).2.2.2.1
    · have hq:=hq hp
      subst hq
      refine ifP_split (fun hc => ?_) (fun hc => ?_)
      · have hn:¬ readOK b:=fun k=>by rw [k.2.1,k.2.2] at hc;simp at hc
        rw [readP,readE,if_neg hn,if_neg hn];exact ⟨rfl,rfl⟩
      · have hy:readOK b:=by
          refine ⟨h0,?_,?_⟩
          · exact Classical.byContradiction fun k=>by simp [k] at hc
          · exact Classical.byContradiction fun k=>by simp [k,Bool.cond_eq_ite] at hc
        rw [readP,readE,if_pos hy,if_pos hy];exact ⟨rfl,rfl⟩
    · have e1:probeErr q=16:=by rw [probeErr,if_pos];rw [hq2];exact hp
      have hn:¬ readOK b:=fun k=>hp (probe_ok.1 k.2.1).1
      rw [e1,readP,readE,if_neg hn,if_neg hn]
      exact ⟨rfl,rfl⟩
  have hd:(4:Nat)<=(b.drop 20).length:=by omega
  rw [w64 (n:=wordAt (b.drop 20) 0-20000) (by omega) (by omega)]
  refine ifP_split (fun h1 => ?_) (fun h1 => ?_)
  · have h1:=of_decide_eq_true h1
    refine ⟨by omega,?_⟩
    rintro _ rfl
    rw [w64 (n:=wordAt (b.drop 20) 2-16384) (by omega) (by omega)]
    have hq:protoOK (pkHdrF b).2.2.2.1->((pkHdrF b).2.2.2.2.2.1,(pkHdrF b).2.2.2.2.2.2,(pkHdrF b).2.2.2.1,wordAt (b.drop 20) 2-16384,(pkHdrF b).2.1,(pkHdrF b).2.2.1)=cand b:=fun hp=>by
      rw [cand,if_pos h1,hk,keyPkt,if_pos ⟨hp,hd⟩,if_pos ⟨hp,hd⟩]
    have:=fin _ hq rfl
    (repeat (intro (b_:Bool) (hb_:b_=_);(repeat refine ⟨(by first|(simp;done)|(rw [hb_];simp;done)|(rw [hb_];simp;omega)|(rw [hb_];simp;intros;omega)|(rw [hb_];simp +contextual;done)),?_⟩);subst hb_))
    exact this _ rfl
  · have h1:=of_decide_eq_false h1
    have hq:protoOK (pkHdrF b).2.2.2.1->((pkHdrF b).2.2.2.2.2.1,(pkHdrF b).2.2.2.2.2.2,(pkHdrF b).2.2.2.1,wordAt (b.drop 20) 0-20000,(pkHdrF b).2.1,(pkHdrF b).2.2.1)=cand b:=fun hp=>by
      rw [cand,if_neg h1,hk,keyPkt,if_pos ⟨hp,hd⟩,if_pos ⟨hp,hd⟩]
    have:=fin _ hq rfl
    (repeat (intro (b_:Bool) (hb_:b_=_);(repeat refine ⟨(by first|(simp;done)|(rw [hb_];simp;done)|(rw [hb_];simp;omega)|(rw [hb_];simp;intros;omega)|(rw [hb_];simp +contextual;done)),?_⟩);subst hb_))
    exact this _ rfl
theorem ok_ref07_Read:SpecOK Tryz.prog GL 28 ct_ref07_Read.spec:=Ct.okH _ Tryz.func28 (by kernel_rfl) (withSpec_ok (withSpec_ok (withSpec_ok (withSpec_ok noSpecs_ok (Ct.named ok_ref05_Decode)) (Ct.named ok_ref04_At)) ok_ref07_Build) ok_ref04_Equal) hmix an_ref07_Read (hideMp (by kernel_rfl) vc_ref07_Read)
end Go.RS

/- Pback: probes read back from their packets. -/
namespace Go.RS
open Go.SX Go.Proofs
set_option maxRecDepth 100000
set_option linter.unusedVariables false
theorem okC_new (m:Int) (hm:0<=m) (l:List Int):okC (if (l.length:Int)<=m then l else l.take (Int.toNat m),0):=by
  split <;> simp [okC]
def u32 (n:Int):Prop:=0<=n/\n<=4294967295
theorem pk_list (h:Header) (n:Int) (X:List Int):hdrB h n++X=69::h.1::n/256%256::n%256::h.2.1/256%256::h.2.1%256::(if h.2.2.2.2.1 then (16384:Int) else 0)/256%256::(if h.2.2.2.2.1 then (16384:Int) else 0)%256::h.2.2.1::h.2.2.2.1 ::
    csum (hdrBody h n)/256%256::csum (hdrBody h n)%256::h.2.2.2.2.2.1/16777216%256::h.2.2.2.2.2.1/65536%256::h.2.2.2.2.2.1/256%256::h.2.2.2.2.2.1%256::h.2.2.2.2.2.2/16777216%256::h.2.2.2.2.2.2/65536%256::h.2.2.2.2.2.2/256%256::h.2.2.2.2.2.2%256::X:=rfl
theorem num4_back {n:Int} (h:u32 n):((n/16777216%256*256+n/65536%256)*256+n/256%256)*256+n%256=n:=by
  obtain ⟨h0,h1⟩:=h;omega
theorem pk_back {h:Header} {X:List Int} (hk:hdrOK h) (hs:u32 h.2.2.2.2.2.1) (hd:u32 h.2.2.2.2.2.2) (hl:(X.length:Int)<=1480) (hX:bytes X) :
    pkHdrF (hdrB h (20+X.length)++X)=h/\decErr (hdrB h (20+X.length)++X)=0/\(hdrB h (20+X.length)++X).drop 20=X:=by
  have hbb:bytes (hdrB h (20+X.length)++X):=bytes_app (hdrB_bytes hk) hX
  have hlen:(hdrB h (20+X.length)++X).length=20+X.length:=by rw [List.length_append,hdrB_len]
  have hc:=csum_range (hdr_bytes (n:=20+X.length) hk)
  obtain ⟨tos,id,ttl,pr,kp,s,d⟩:=h
  obtain ⟨h1,h2,h3,h4,h5⟩:=hk
  simp only at h1 h2 h3 h4 h5 hs hd
  have E:=pk_list (tos,id,ttl,pr,kp,s,d) (20+X.length) X
  simp only at E
  have w2e:wordAt (hdrB (tos,id,ttl,pr,kp,s,d) (20+X.length)++X) 2=20+X.length:=by
    rw [E];show wordAt (_::_::_) 0=_;rw [wordAt0];exact word_w2 (by omega) (by omega)
  have w4e:wordAt (hdrB (tos,id,ttl,pr,kp,s,d) (20+X.length)++X) 4=id:=by
    rw [E];show wordAt (_::_::_) 0=_;rw [wordAt0];exact word_w2 h4 h5
  have w6e:wordAt (hdrB (tos,id,ttl,pr,kp,s,d) (20+X.length)++X) 6=if kp then 16384 else 0:=by
    rw [E];show wordAt (_::_::_) 0=_;rw [wordAt0];cases kp <;> rfl
  have w10e:wordAt (hdrB (tos,id,ttl,pr,kp,s,d) (20+X.length)++X) 10=csum (hdrBody (tos,id,ttl,pr,kp,s,d) (20+X.length)):=by
    rw [E];show wordAt (_::_::_) 0=_;rw [wordAt0];exact word_w2 hc.1 hc.2
  have hF:pkHdrF (hdrB (tos,id,ttl,pr,kp,s,d) (20+X.length)++X)=(tos,id,ttl,pr,kp,s,d):=by
    unfold pkHdrF
    rw [w4e,w6e,E]
    have e1:decide ((if kp=true then (16384:Int) else 0)=16384)=kp:=by cases kp <;> rfl
    rw [e1]
    have e2:=num4_back hs
    have e3:=num4_back hd
    show (tos,id,ttl,pr,kp,numB [_,_,_,_],numB [_,_,_,_])=_
    rw [numB4,numB4,e2,e3]
  refine ⟨hF,?_,?_⟩
  · have hb:=hdr_body hbb (by omega) (by rw [E];rfl) (by rw [w6e];cases kp <;> simp)
    rw [hF,w2e,w10e] at hb
    have ht:(hdrB (tos,id,ttl,pr,kp,s,d) (20+X.length)++X).take 20=hdrB (tos,id,ttl,pr,kp,s,d) (20+X.length):=by
      rw [List.take_append_of_le_length (by rw [hdrB_len];omega),List.take_of_length_le (by rw [hdrB_len];omega)]
    have hp:pkErr (hdrB (tos,id,ttl,pr,kp,s,d) (20+X.length)++X)=0:=by
      rw [pkErr,if_neg (by omega),if_neg,if_neg]
      · rw [Decidable.not_not,w10e,← hb.1]
      · rw [Decidable.not_not]
        refine ⟨by rw [E];rfl,by rw [w6e];cases kp <;> simp,by rw [w2e];omega⟩
    rw [decErr,if_neg (fun k=>k hp),if_neg (by rw [w2e,hlen];omega),if_neg (by rw [w2e];omega)]
  · rw [List.drop_append,hdrB_len,List.drop_of_length_le (by rw [hdrB_len];omega)];simp
theorem dec_build {p:Probe} (h:probeErr p=0) (hs:u32 p.1) (hd:u32 p.2.1):pkHdrF (build p)=hdrP p/\decErr (build p)=0/\(build p).drop 20=conP p:=by
  rw [build_eq h]
  refine pk_back (hdrP_ok h) hs hd ?_ (con_bytes h)
  rcases con_len h with h|h <;> omega
theorem sumF_echo (t n:Int):sumF true (echoBody (false,21075,t,w2 n))=sumF true (echoBody (false,21075,t,[0,0]))+(n/256%256*256+n%256):=by
  simp [echoBody,w2,sumF];omega
theorem sumF_udp (f n:Int):sumF true (udpBody (20000+f,33434,w2 n))=sumF true (udpBody (20000+f,33434,[0,0]))+(n/256%256*256+n%256):=by
  simp [udpBody,w2,sumF];omega
theorem sum_echo_pos (t:Int):2048<=sumF true (echoBody (false,21075,t,[0,0])):=by
  simp [echoBody,w2,sumF];omega
theorem echo_sum {p:Probe} (h:rangeOK p):csum (echoBody (conEcho p))=16384+p.2.2.2.1:=by
  have hn:=icmpN_pos h
  obtain ⟨⟨f0,f1⟩,-⟩:=h
  have e:icmpN p=oc (65535-(16384+p.2.2.2.1)+csum (echoBody (false,21075,p.2.2.2.2.1,[0,0]))):=rfl
  have hp:=sum_echo_pos p.2.2.2.2.1
  unfold conEcho csum
  rw [sumF_echo,word_w2 (by omega) hn.2,e]
  unfold csum
  generalize sumF true (echoBody (false,21075,p.2.2.2.2.1,[0,0]))=S at hp ⊢
  unfold oc
  rw [if_neg (by omega:¬ S=0)]
  rw [if_neg (by omega),if_neg (by omega)]
  omega
theorem udp_sum {p:Probe} (h:rangeOK p):sumU p.1 p.2.1 (udpBody (conDgram p))=p.2.2.2.2.1+1:=by
  have hn:=udpN_pos h
  obtain ⟨-,⟨t0,t1⟩,-⟩:=h
  have l0:(udpBody (20000+p.2.2.2.1,33434,[0,0])).length=10:=rfl
  have l1:(udpBody (conDgram p)).length=10:=rfl
  have eX:udpX p=oc (65535-(p.2.2.2.2.1+1)+pseudo p.1 p.2.1 17 (udpBody (20000+p.2.2.2.1,33434,[0,0]))):=rfl
  have eN:udpN p=if udpX p=0 then 65535 else udpX p:=rfl
  have hp:=head_nonneg p.1 p.2.1 17 10
  have h2:=(sumF_range true (udpBody (20000+p.2.2.2.1,33434,[0,0])) (bytes_udp0 _)).1
  have eP:pseudo p.1 p.2.1 17 (udpBody (20000+p.2.2.2.1,33434,[0,0]))=65535-oc (sumF true (headP p.1 p.2.1 17 10)+sumF true (udpBody (20000+p.2.2.2.1,33434,[0,0]))):=by
    rw [pseudo,if_neg (by rw [l0];omega),csum,pseudo_sum,l0];rfl
  have eQ:pseudo p.1 p.2.1 17 (udpBody (conDgram p))=65535-oc (sumF true (headP p.1 p.2.1 17 10)+(sumF true (udpBody (20000+p.2.2.2.1,33434,[0,0]))+udpN p)):=by
    rw [pseudo,if_neg (by rw [l1];omega),csum,pseudo_sum,l1]
    unfold conDgram
    rw [sumF_udp,word_w2 (by omega) hn.2];rfl
  rw [sumU,eQ]
  rw [eP] at eX
  generalize sumF true (headP p.1 p.2.1 17 10)=H at *
  generalize sumF true (udpBody (20000+p.2.2.2.1,33434,[0,0]))=S at *
  generalize udpN p=N at *
  generalize udpX p=X at *
  generalize p.2.2.2.2.1=t at *
  have hH:(17:Int)%256=17:=rfl
  rw [hH] at hp
  clear eP eQ l0 l1 hH
  have hN:(N-(65535-(t+1)+(65535-(H+S))))%65535=0:=by
    unfold oc at eX
    rw [if_neg (by omega:¬ H+S=0)] at eX
    split at eX <;> split at eN <;> omega
  unfold oc
  rw [if_neg (by omega:¬ H+(S+N)=0)]
  split <;> omega
def keyA (p:Probe):Int:=if p.2.2.1=1 then 2048 else 20000+p.2.2.2.1
def keyC (p:Probe):Int:=if p.2.2.1=1 then 16384+p.2.2.2.1 else if p.2.2.1=17 then 33434 else 80
theorem con_words {p:Probe} (h:probeErr p=0):wordAt (conP p) 0=keyA p/\wordAt (conP p) 2=keyC p:=by
  obtain ⟨h1|h1|h1,h2⟩:=probe_ok.1 h
  · have hs:=echo_sum h2
    have hf:=h2.1
    rw [con_echo h2 h1,keyA,keyC,if_pos h1,if_pos h1,word_setW_ne (by show 0+2<=10;omega) (by omega),word_setW (by show 2+2<=10;omega) (by omega) (by omega),hs]
    exact ⟨rfl,rfl⟩
  · have hf:=h2.1
    rw [con_tcp h2 h1,keyA,keyC,if_neg (by omega),if_neg (by omega),if_neg (by omega),word_setW_ne (by show 0+2<=20;omega) (by omega),word_setW_ne (by show 2+2<=20;omega) (by omega)]
    constructor
    · show wordAt (_::_::_) 0=_;rw [wordAt0];exact word_w2 (n:=20000+p.2.2.2.1) (by omega) (by omega)
    · rfl
  · have hf:=h2.1
    rw [con_udp h2 h1,keyA,keyC,if_neg (by omega),if_neg (by omega),if_pos h1,word_setW_ne (by show 0+2<=10;omega) (by omega),word_setW_ne (by show 2+2<=10;omega) (by omega)]
    constructor
    · show wordAt (_::_::_) 0=_;rw [wordAt0];exact word_w2 (n:=20000+p.2.2.2.1) (by omega) (by omega)
    · rfl
theorem low_build {p:Probe} (h:probeErr p=0) (hs:u32 p.1) (hd:u32 p.2.1) :
    (p.2.2.2.2.2<2->lowErr (build p)=7)/\(2<=p.2.2.2.2.2->lowErr (build p)=0/\lowB (build p)=build (p.1,p.2.1,p.2.2.1,p.2.2.2.1,p.2.2.2.2.1,p.2.2.2.2.2-1)/\probeErr (p.1,p.2.1,p.2.2.1,p.2.2.2.1,p.2.2.2.2.1,p.2.2.2.2.2-1)=0):=by
  obtain ⟨e1,e2,e3⟩:=dec_build h hs hd
  constructor
  · intro hl
    rw [lowErr,if_neg (fun k=>k e2),e1];exact if_pos hl
  · intro hl
    have l0:lowErr (build p)=0:=by rw [lowErr,if_neg (fun k=>k e2),e1,if_neg (by show ¬ p.2.2.2.2.2<2;omega)]
    have hq:probeErr (p.1,p.2.1,p.2.2.1,p.2.2.2.1,p.2.2.2.2.1,p.2.2.2.2.2-1)=0:=by
      obtain ⟨k1,k2,k3,k4,k5⟩:=probe_ok.1 h
      exact probe_ok.2 ⟨k1,k2,k3,by simp only;omega,by simp only;omega⟩
    refine ⟨l0,?_,hq⟩
    rw [lowB,if_pos l0,e1,e3,build,if_pos hq];rfl
def ct_draw_Codes_Spoilt:Cn:=⟨[.box 96 cCodes,.val (.sl cU8)],[.own 5 cU8],fun d=>[okC d.1,(d.2.1.length:Int)<=1000000],fun d y=>(y.1.1.length:Int)<=d.2.1.length+1/\okC y.2.1,fun d h=>⟨(([],()),(d.1,())),by simp;omega,h.1⟩⟩
def an_draw_Codes_Spoilt:PDs ct_draw_Codes_Spoilt.ps->Anns:=(fun _=>{})
def Qbk0 (c:List Int) :=
 (c.length:Int)
theorem vc_draw_Codes_Spoilt :
 ∀(a:List Int) (b:Int) (c:List Int),((a.length<=maxLen/\ ∀(d:Int),d∈a->0<=d/\d<=255)/\R64 b)/\(c.length<=maxLen/\ ∀(d:Int),d∈c->0<=d/\d<=255)/\True->okC (a,b)/\(Qbk0 c)<=1000000->c.length*(1:Nat)<=(140737488355328:Nat)/\ifP (decide ((Qbk0 c)=0)) (okC (a,b)/\ ∀(d:Int) (e:List Int) (f:Int),0<=d/\(d<256∨d=0)/\okC (e,f)->((List.length [IntKind.wrap .u8 d]):Int)<=(Qbk0 c)+(1:Int)/\okC (e,f)) (okC (a,b)/\ ∀(d:Int) (e:List Int) (f:Int),0<=d/\(d<(Qbk0 c)∨d=0)/\okC (e,f)->okC (e,f)/\ ∀(g:Int) (h:List Int) (i:Int),0<=g/\(g<4∨g=0)/\okC (h,i)->ifP (decide (g=0)) (0<=d/\d<=(Qbk0 c)/\0<=IntKind.wrap .i64 (d+(1:Int))/\IntKind.wrap .i64 (d+(1:Int))<=(Qbk0 c)/\(Qbk0 c)<=(Qbk0 c)/\(List.length (List.take d.toNat c)+List.length (subL c (Int.toNat (IntKind.wrap .i64 (d+(1:Int)))) (Int.toNat (Qbk0 c))))*(1:Nat)<=(140737488355328:Nat)/\((List.length (List.take d.toNat c++subL c (Int.toNat (IntKind.wrap .i64
 (d+(1:Int)))) (Int.toNat (Qbk0 c)))):Int)<=(Qbk0 c)+(1:Int)/\okC (h,i)) (ifP (decide (g=1)) (okC (h,i)/\ ∀(j:Int) (k:List Int) (l:Int),0<=j/\(j<256∨j=0)/\okC (k,l)->(c.length+List.length [IntKind.wrap .u8 j])*(1:Nat)<=(140737488355328:Nat)/\((List.length (c++[IntKind.wrap .u8 j])):Int)<=(Qbk0 c)+(1:Int)/\okC (k,l)) (0<=d/\d<(Qbk0 c)/\okC (h,i)/\ ∀(j:Int) (k:List Int) (l:Int),0<=j/\(j<255∨j=0)/\okC (k,l)->0<=d/\d<(Qbk0 c)/\((List.length (List.set c d.toNat (bits BinOp.xor IntKind.u8 (c.getD d.toNat default) (IntKind.wrap .u8 (IntKind.wrap .i64 ((1:Int)+j)))))):Int)<=(Qbk0 c)+(1:Int)/\okC (k,l)))):=by
  delta Qbk0
  rintro l p b ⟨-,⟨-,-⟩,-⟩ ⟨hc,hl⟩
  refine ⟨by omega,ifP_split (fun h=>⟨hc,?_⟩) (fun h=>⟨hc,?_⟩)⟩
  · rintro x l2 p2 ⟨-,-,h3⟩
    exact ⟨by simp only [List.length_singleton];omega,h3⟩
  have h:=of_decide_eq_false h
  rintro k l2 p2 ⟨k0,k1,hc⟩
  have hk:k<b.length:=by omega
  refine ⟨hc,?_⟩
  rintro w l3 p3 ⟨w0,w1,hc⟩
  refine ifP_split (fun _ => ?_) (fun _=>ifP_split (fun _=>⟨hc,?_⟩) (fun _=>⟨k0,hk,hc,?_⟩))
  · rw [w64 (n:=k+1) (by omega) (by omega)]
    refine ⟨k0,by omega,by omega,by omega,by omega,?_,?_,hc⟩
    · rw [sub_drop,List.length_take,List.length_drop];omega
    · rw [List.length_append,sub_drop,List.length_take,List.length_drop];omega
  · rintro x l4 p4 ⟨-,-,h4⟩
    exact ⟨by simp only [List.length_singleton];omega,by simp only [List.length_append,List.length_singleton];omega,h4⟩
  · rintro x l4 p4 ⟨-,-,h4⟩
    exact ⟨k0,hk,by rw [List.length_set];omega,h4⟩
theorem ok_draw_Codes_Spoilt:SpecOK Tryz.prog GL 65 ct_draw_Codes_Spoilt.spec:=Cn.okH _ Tryz.func65 (by kernel_rfl) (withOwn_ok (withSpec_ok noSpecs_ok ok_Next) (d:=26)) hmix an_draw_Codes_Spoilt (hideMp (by kernel_rfl) vc_draw_Codes_Spoilt)
def ct_draw_Codes_Probe:Cn:=⟨[.box 96 cCodes],[.agg cProbe],fun d=>[okC d.1],fun d y=>okC y.2.1/\u32 y.1.1.1/\u32 y.1.1.2.1,fun d h=>⟨((probe0,()),(d.1,())),h.1,by simp [u32,probe0],by simp [u32,probe0]⟩⟩
def an_draw_Codes_Probe:PDs ct_draw_Codes_Probe.ps->Anns:=(fun _=>{})
theorem vc_draw_Codes_Probe :
 ∀(a:List Int) (b:Int),((a.length<=maxLen/\ ∀(c:Int),c∈a->0<=c/\c<=255)/\R64 b)/\True->0<=b/\b<=(a.length:Int)->okC (a,b)/\ ∀(c:Int) (d:List Int) (e:Int),okC (d,e)/\0<=c/\c<=4294967295->okC (d,e)/\ ∀(f:Int) (g:List Int) (h:Int),okC (g,h)/\0<=f/\f<=4294967295->okC (g,h)/\ ∀(i:Int) (j:List Int) (k:Int),okC (j,k)/\(i=17∨i=1∨i=6)->okC (j,k)/\ ∀(l:Int) (m:List Int) (n:Int),0<=l/\(l<6∨l=0)/\okC (m,n)->okC (m,n)/\ ∀(o:Int) (p:List Int) (q:Int),0<=o/\(o<2000∨o=0)/\okC (p,q)->okC (p,q)/\ ∀(r:Int) (s:List Int) (t:Int),0<=r/\(r<6∨r=0)/\okC (s,t)->okC (s,t)/\ ∀(u:Int) (v:List Int) (w:Int),0<=u/\(u<12∨u=0)/\okC (v,w)->ifP (decide (u=8)) (okC (v,w)/\u32 c/\u32 f) (ifP (decide (u=9)) (okC (v,w)/\ ∀(x:Int) (y:List Int) (z:Int),okC (y,z)/\R64 x->okC (y,z)/\ ∀(A:Int) (B:List Int) (C:Int),okC (B,C)/\R64 A->okC (B,C)/\u32 c/\u32 f) (ifP (decide (u=10)) (okC (v,w)/\ ∀(x:Int) (y:List Int) (z:Int),okC (y,z)/\R64
 x->okC (y,z)/\u32 c/\u32 f) (ifP (decide (u=11)) (okC (v,w)/\ ∀(x:Int) (y:List Int) (z:Int),okC (y,z)/\R64 x->okC (y,z)/\u32 c/\u32 f) (okC (v,w)/\u32 c/\u32 f)))):=by
  rintro l p-h
  refine ⟨h,?_⟩
  rintro s _ _ ⟨hc,s0,s1⟩
  refine ⟨hc,?_⟩
  rintro d _ _ ⟨hc,d0,d1⟩
  refine ⟨hc,?_⟩
  rintro _ _ _ ⟨hc,-⟩
  refine ⟨hc,?_⟩
  rintro _ _ _ ⟨-,-,hc⟩
  refine ⟨hc,?_⟩
  rintro _ _ _ ⟨-,-,hc⟩
  refine ⟨hc,?_⟩
  rintro _ _ _ ⟨-,-,hc⟩
  refine ⟨hc,?_⟩
  rintro _ _ _ ⟨-,-,hc⟩
  have fin:∀ q,okC q->okC q/\u32 s/\u32 d:=fun q hq=>⟨hq,⟨s0,s1⟩,d0,d1⟩
  refine ifP_split (fun _=>fin _ hc) (fun _=>ifP_split (fun _=>⟨hc,?_⟩) (fun _=>ifP_split (fun _=>⟨hc,?_⟩) (fun _=>ifP_split (fun _=>⟨hc,?_⟩) (fun _=>fin _ hc))))
  · rintro _ _ _ ⟨hc,-⟩
    refine ⟨hc,?_⟩
    rintro _ _ _ ⟨hc,-⟩
    exact fin _ hc
  · rintro _ _ _ ⟨hc,-⟩
    exact fin _ hc
  · rintro _ _ _ ⟨hc,-⟩
    exact fin _ hc
theorem ok_draw_Codes_Probe:SpecOK Tryz.prog GL 79 ct_draw_Codes_Probe.spec:=Cn.okH _ Tryz.func79 (by kernel_rfl) (withSpec_ok (withSpec_ok (withSpec_ok (withSpec_ok noSpecs_ok ok_draw_Codes_Address) ok_draw_Codes_Proto) ok_Next) ok_draw_Codes_Int) hmix an_draw_Codes_Probe (hideMp (by kernel_rfl) vc_draw_Codes_Probe)
def ct_draw_Codes_Right:Cn:=⟨[.box 96 cCodes],[.agg cProbe],fun d=>[okC d.1],fun d y=>okC y.2.1/\u32 y.1.1.1/\u32 y.1.1.2.1/\probeErr y.1.1=0,fun d h=>⟨(((0,0,1,0,0,1),()),(d.1,())),h.1,by simp [u32],by simp [u32],rfl⟩⟩
def an_draw_Codes_Right:PDs ct_draw_Codes_Right.ps->Anns:=(fun _=>{})
theorem vc_draw_Codes_Right :
 ∀(a:List Int) (b:Int),((a.length<=maxLen/\ ∀(c:Int),c∈a->0<=c/\c<=255)/\R64 b)/\True->0<=b/\b<=(a.length:Int)->okC (a,b)/\ ∀(c d e f g h:Int) (i:List Int) (j:Int),okC (i,j)/\u32 c/\u32 d->ifP (! decide (probeErr (c,d,e,f,g,h)=0)) (okC (i,j)/\ ∀(k:Int) (l:List Int) (m:Int),okC (l,m)/\(k=17∨k=1∨k=6)->okC (l,m)/\ ∀(n:Int) (o:List Int) (p:Int),0<=n/\(n<4∨n=0)/\okC (o,p)->okC (o,p)/\ ∀(q:Int) (r:List Int) (s:Int),0<=q/\(q<100∨q=0)/\okC (r,s)->okC (r,s)/\ ∀(t:Int) (u:List Int) (v:Int),0<=t/\(t<5∨t=0)/\okC (u,v)->okC (u,v)/\u32 c/\u32 d/\probeErr (c,d,k,n,q,IntKind.wrap .i64 ((1:Int)+t))=0) (okC (i,j)/\u32 c/\u32 d/\probeErr (c,d,e,f,g,h)=0):=by
  rintro l p-h
  refine ⟨h,?_⟩
  rintro s d pr f t l _ _ ⟨hc,hs,hd⟩
  refine ifP_split (fun _=>⟨hc,?_⟩) (fun hn=>⟨hc,hs,hd,by simpa using hn⟩)
  rintro pr _ _ ⟨hc,hp⟩
  refine ⟨hc,?_⟩
  rintro f _ _ ⟨f0,f1,hc⟩
  refine ⟨hc,?_⟩
  rintro t _ _ ⟨t0,t1,hc⟩
  refine ⟨hc,?_⟩
  rintro l _ _ ⟨l0,l1,hc⟩
  rw [w64 (n:=1+l) (by omega) (by omega)]
  refine ⟨hc,hs,hd,probe_ok.2 ⟨?_,⟨?_,?_⟩,⟨?_,?_⟩,?_,?_⟩⟩ <;> simp only [protoOK] <;> omega
theorem ok_draw_Codes_Right:SpecOK Tryz.prog GL 33 ct_draw_Codes_Right.spec:=Cn.okH _ Tryz.func33 (by kernel_rfl) (withSpec_ok (withSpec_ok (withSpec_ok (withSpec_ok noSpecs_ok ok_draw_Codes_Probe) ok_ref07_Check) ok_draw_Codes_Proto) ok_Next) hmix an_draw_Codes_Right (hideMp (by kernel_rfl) vc_draw_Codes_Right)
end Go.RS

/- Addr: prefixes, and functions of Go's library over numbers. -/
namespace Go.RS
open Go.SX Go.Proofs
set_option maxRecDepth 100000
set_option linter.unusedVariables false
abbrev cPfx:CT := .pair cU32 cI
def icmp (a b:Int):Int:=if a<b then -1 else if b<a then 1 else 0
abbrev Pfx:Type:=Int×Int
def pcmp (p q:Pfx):Int:=if icmp p.1 q.1≠0 then icmp p.1 q.1 else icmp p.2 q.2
def firstNZ:List Int->Int
  | []=>0
  | x::xs=>if x≠0 then x else firstNZ xs
theorem drop_getD {l:List Int} {j:Int} (h0:0<=j) (h1:j<l.length):l.drop j.toNat=l.getD j.toNat default::l.drop (j+1).toNat:=by
  have hj:j.toNat<l.length:=by omega
  rw [List.drop_eq_getElem_cons hj,List.getD_eq_getElem?_getD,List.getElem?_eq_getElem hj,Option.getD_some]
  congr 2;omega
theorem mem_take_succ {α:Type} [Inhabited α] {l:List α} {j:Int} (h0:0<=j) (h1:j<l.length) {y:α} (hy:y∈l.take (j+1).toNat):y∈l.take j.toNat∨y=l.getD j.toNat default:=by
  have hj:j.toNat<l.length:=by omega
  have e:(j+1).toNat=j.toNat+1:=by omega
  rw [e,List.take_succ_eq_append_getElem hj] at hy
  rcases List.mem_append.1 hy with hy|hy
  · exact .inl hy
  · right
    simp at hy
    rw [List.getD_eq_getElem?_getD,List.getElem?_eq_getElem hj,Option.getD_some];exact hy
theorem idxOf_at {l:List Int} {v j:Int} (h0:0<=j) (h1:j<l.length) (hv:l.getD j.toNat default=v) (h2:∀ y∈l.take j.toNat,y≠v):l.idxOf v=j.toNat:=by
  have hj:j.toNat<l.length:=by omega
  rw [List.getD_eq_getElem?_getD,List.getElem?_eq_getElem hj,Option.getD_some] at hv
  have e:l=l.take j.toNat++l[j.toNat]::l.drop (j.toNat+1):=by
    rw [← List.drop_eq_getElem_cons hj,List.take_append_drop]
  rw [e,List.idxOf_append,if_neg (fun hm=>h2 v hm rfl),hv,List.idxOf_cons_self]
  simp;omega
def ct_cmp_isNaN_bef2:Ct:=⟨[.val cI],[.val .bool],fun _=>[],fun _=>((false,()),())⟩
def an_cmp_isNaN_bef2:PDs ct_cmp_isNaN_bef2.ps->Anns:=(fun _=>{})
theorem vc_cmp_isNaN_bef2 :
 ∀(a:Int),R64 a/\True->True->(! decide (a=a))=false:=by
  rintro x - -
  simp
theorem ok_cmp_isNaN_bef2:SpecOK Tryz.prog GL 184 ct_cmp_isNaN_bef2.spec:=Ct.okH _ Tryz.func184 (by kernel_rfl) noSpecs_ok hmix an_cmp_isNaN_bef2 (hideMp (by kernel_rfl) vc_cmp_isNaN_bef2)
def ct_cmp_isNaN_1748:Ct:=⟨[.val cU32],[.val .bool],fun _=>[],fun _=>((false,()),())⟩
def an_cmp_isNaN_1748:PDs ct_cmp_isNaN_1748.ps->Anns:=(fun _=>{})
theorem vc_cmp_isNaN_1748 :
 ∀(a:Int),(0<=a/\a<=4294967295)/\True->True->(! decide (a=a))=false:=by
  rintro x - -
  simp
theorem ok_cmp_isNaN_1748:SpecOK Tryz.prog GL 183 ct_cmp_isNaN_1748.spec:=Ct.okH _ Tryz.func183 (by kernel_rfl) noSpecs_ok hmix an_cmp_isNaN_1748 (hideMp (by kernel_rfl) vc_cmp_isNaN_1748)
def ct_cmp_Compare_bef2:Ct:=⟨[.val cI,.val cI],[.val cI],fun _=>[],fun d=>((icmp d.1 d.2.1,()),())⟩
def an_cmp_Compare_bef2:PDs ct_cmp_Compare_bef2.ps->Anns:=(fun _=>{})
def Qbl0 (a b:Int) :=
 ifP (decide (a<b)) ((-1:Int)=icmp a b) (ifP (decide (b<a)) ((1:Int)=icmp a b) ((0:Int)=icmp a b))
theorem vc_cmp_Compare_bef2 :
 ∀(a b:Int),R64 a/\R64 b/\True->True->(Qbl0 a b):=by
  delta Qbl0
  rintro x y - -
  unfold icmp
  refine ifP_split (fun h => ?_) (fun h=>ifP_split (fun h2 => ?_) (fun h2 => ?_))
  · rw [if_pos (of_decide_eq_true h)]
  · rw [if_neg (of_decide_eq_false h),if_pos (of_decide_eq_true h2)]
  · rw [if_neg (of_decide_eq_false h),if_neg (of_decide_eq_false h2)]
theorem ok_cmp_Compare_bef2:SpecOK Tryz.prog GL 150 ct_cmp_Compare_bef2.spec:=Ct.okH _ Tryz.func150 (by kernel_rfl) (withSpec_ok noSpecs_ok ok_cmp_isNaN_bef2) hmix an_cmp_Compare_bef2 (hideMp (by kernel_rfl) vc_cmp_Compare_bef2)
def ct_cmp_Compare_1748:Ct:=⟨[.val cU32,.val cU32],[.val cI],fun _=>[],fun d=>((icmp d.1 d.2.1,()),())⟩
def an_cmp_Compare_1748:PDs ct_cmp_Compare_1748.ps->Anns:=(fun _=>{})
theorem vc_cmp_Compare_1748 :
 ∀(a b:Int),(0<=a/\a<=4294967295)/\(0<=b/\b<=4294967295)/\True->True->(Qbl0 a b):=by
  delta Qbl0
  rintro x y - -
  unfold icmp
  refine ifP_split (fun h => ?_) (fun h=>ifP_split (fun h2 => ?_) (fun h2 => ?_))
  · rw [if_pos (of_decide_eq_true h)]
  · rw [if_neg (of_decide_eq_false h),if_pos (of_decide_eq_true h2)]
  · rw [if_neg (of_decide_eq_false h),if_neg (of_decide_eq_false h2)]
theorem ok_cmp_Compare_1748:SpecOK Tryz.prog GL 149 ct_cmp_Compare_1748.spec:=Ct.okH _ Tryz.func149 (by kernel_rfl) (withSpec_ok noSpecs_ok ok_cmp_isNaN_1748) hmix an_cmp_Compare_1748 (hideMp (by kernel_rfl) vc_cmp_Compare_1748)
def ct_cmp_Or_bef2:Ct:=⟨[.val (.sl cI)],[.val cI],fun _=>[],fun d=>((firstNZ d.1,()),())⟩
def an_cmp_Or_bef2:PDs ct_cmp_Or_bef2.ps->Anns:=(fun d=>{loops:=(fun n=>match n with|3=>some (fun S=>{ι:=Int,μ:=fun i=>(d.1.length-i).toNat,inv:=fun i=>0<=i/\i<=d.1.length/\firstNZ d.1=firstNZ (d.1.drop i.toNat),keep:=[3,6,7],slots:=fun i=>[(8,.int .i64 i)],names:=fun i=>[]})|_=>none)})
def Qbl1 (a:List Int) :=
 (a.length:Int)
theorem vc_cmp_Or_bef2 :
 ∀(a:List Int),(a.length<=maxLen/\ ∀(b:Int),b∈a->R64 b)/\True->True->(∃(b:Int),(0<=b/\b<=(Qbl1 a)/\firstNZ a=firstNZ (List.drop b.toNat a))/\(0:Int)=0/\a=a/\(Qbl1 a)=(Qbl1 a)/\(0:Int)=b/\True)/\ ∀(b:Int),0<=b/\b<=(Qbl1 a)/\firstNZ a=firstNZ (List.drop b.toNat a)->ifP (decide (b<(Qbl1 a))) (0<=b/\b<(Qbl1 a)/\ifP (! decide (a.getD b.toNat default=0)) (a.getD b.toNat default=firstNZ a) (∃(c:Int),(0<=c/\c<=(Qbl1 a)/\firstNZ a=firstNZ (List.drop c.toNat a))/\Int.toNat ((Qbl1 a) -c)<Int.toNat ((Qbl1 a) -b)/\(0:Int)=0/\a=a/\(Qbl1 a)=(Qbl1 a)/\IntKind.wrap .i64 (b+(1:Int))=c/\True)) ((0:Int)=firstNZ a):=by
  delta Qbl1
  rintro x ⟨⟨hl,-⟩,-⟩ -
  simp only [maxLen] at hl
  refine ⟨⟨0,⟨by omega,by omega,rfl⟩,(by repeat' first|exact trivial|refine ⟨trivial,?_⟩|refine ⟨(by with_reducible rfl),?_⟩|refine ⟨w64 (by omega) (by omega),?_⟩|refine ⟨rfl,?_⟩)⟩,?_⟩
  rintro j ⟨h0,h1,h2⟩
  refine ifP_split (fun hj => ?_) (fun hj => ?_)
  · have hj:=of_decide_eq_true hj
    have e:=drop_getD (l:=x) h0 hj
    rw [e] at h2
    refine ⟨h0,hj,ifP_split (fun hz => ?_) (fun hz => ?_)⟩
    · have hz:x.getD j.toNat default≠0:=by simpa only [Bool.not_eq_true',decide_eq_false_iff_not] using hz
      rw [h2,firstNZ,if_pos hz]
    · have hz:¬ x.getD j.toNat default≠0:=by simpa only [Bool.not_eq_false',decide_eq_true_eq,ne_eq,Decidable.not_not] using hz
      rw [firstNZ,if_neg hz] at h2
      exact ⟨j+1,⟨by omega,by omega,h2⟩,by omega,(by repeat' first|exact trivial|refine ⟨trivial,?_⟩|refine ⟨(by with_reducible rfl),?_⟩|refine ⟨w64 (by omega) (by omega),?_⟩|refine ⟨rfl,?_⟩)⟩
  · have hj:=of_decide_eq_false hj
    rw [h2,List.drop_eq_nil_of_le (by omega)];rfl
theorem ok_cmp_Or_bef2:SpecOK Tryz.prog GL 148 ct_cmp_Or_bef2.spec:=Ct.okH _ Tryz.func148 (by kernel_rfl) noSpecs_ok hmix an_cmp_Or_bef2 (hideMp (by kernel_rfl) vc_cmp_Or_bef2)
def ct_address_Compare:Ct:=⟨[.agg cPfx,.agg cPfx],[.val cI],fun _=>[],fun d=>((pcmp d.1 d.2.1,()),())⟩
def an_address_Compare:PDs ct_address_Compare.ps->Anns:=(fun _=>{})
theorem vc_address_Compare :
 ∀(a b c d:Int),((0<=a/\a<=4294967295)/\R64 b)/\((0<=c/\c<=4294967295)/\R64 d)/\True->True->firstNZ [icmp a c,icmp b d]=pcmp (a,b) (c,d):=by
  rintro x y z u - -
  simp only [firstNZ,pcmp]
  split
  · rfl
  · split
    · rfl
    · rename_i h;simp at h;exact h.symm
theorem ok_address_Compare:SpecOK Tryz.prog GL 98 ct_address_Compare.spec:=Ct.okH _ Tryz.func98 (by kernel_rfl) (withSpec_ok (withSpec_ok (withSpec_ok noSpecs_ok ok_cmp_Compare_1748) ok_cmp_Compare_bef2) ok_cmp_Or_bef2) hmix an_address_Compare (hideMp (by kernel_rfl) vc_address_Compare)
def ct_ref01_Order:Ct:=⟨[.val cI,.val cI],[.val cI],fun _=>[],fun d=>((icmp d.1 d.2.1,()),())⟩
def an_ref01_Order:PDs ct_ref01_Order.ps->Anns:=(fun _=>{})
theorem vc_ref01_Order :
 ∀(a b:Int),R64 a/\R64 b/\True->True->(Qbl0 a b):=by
  delta Qbl0
  rintro x y - -
  unfold icmp
  refine ifP_split (fun h => ?_) (fun h=>ifP_split (fun h2 => ?_) (fun h2 => ?_))
  · rw [if_pos (of_decide_eq_true h)]
  · rw [if_neg (of_decide_eq_false h),if_pos (of_decide_eq_true h2)]
  · rw [if_neg (of_decide_eq_false h),if_neg (of_decide_eq_false h2)]
theorem ok_ref01_Order:SpecOK Tryz.prog GL 153 ct_ref01_Order.spec:=Ct.okH _ Tryz.func153 (by kernel_rfl) noSpecs_ok hmix an_ref01_Order (hideMp (by kernel_rfl) vc_ref01_Order)
def ct_ref01_Compare:Ct:=⟨[.agg cPfx,.agg cPfx],[.val cI],fun _=>[],fun d=>((pcmp d.1 d.2.1,()),())⟩
def an_ref01_Compare:PDs ct_ref01_Compare.ps->Anns:=(fun _=>{})
theorem vc_ref01_Compare :
 ∀(a b c d:Int),((0<=a/\a<=4294967295)/\R64 b)/\((0<=c/\c<=4294967295)/\R64 d)/\True->True->ifP (! decide (a=c)) (icmp (IntKind.wrap .i64 a) (IntKind.wrap .i64 c)=pcmp (a,b) (c,d)) (icmp b d=pcmp (a,b) (c,d)):=by
  rintro x y z u ⟨⟨⟨h0,h1⟩,-⟩,⟨⟨h2,h3⟩,-⟩,-⟩ -
  unfold pcmp
  refine ifP_split (fun h => ?_) (fun h => ?_)
  · simp at h
    rw [w64 (by omega) (by omega),w64 (by omega) (by omega),if_pos (by simp only [icmp];split <;> first|omega|(split <;> omega))]
  · simp at h
    subst h
    rw [if_neg (by simp [icmp])]
theorem ok_ref01_Compare:SpecOK Tryz.prog GL 102 ct_ref01_Compare.spec:=Ct.okH _ Tryz.func102 (by kernel_rfl) (withSpec_ok noSpecs_ok ok_ref01_Order) hmix an_ref01_Compare (hideMp (by kernel_rfl) vc_ref01_Compare)
def sz (n:Int):Int:=2^(32-n).toNat
def pValid (p:Pfx):Bool:=decide (0<=p.2/\p.2<=32/\p.1%sz p.2=0)
def contains (p:Pfx) (a:Int):Bool:=pValid p&&decide (p.1<=a/\a<p.1+sz p.2)
theorem sz_pos (n:Int):0<sz n:=Int.pow_pos (by decide)
theorem sz_nat (n:Int):sz n=((2^(32-n).toNat:Nat):Int):=by unfold sz;rw [Int.natCast_pow];rfl
theorem sz_cases {n:Int} (h0:0<=n) (h1:n<=32):∃ k:Nat,k<=32/\n=32-k/\sz n=((2^k:Nat):Int):=⟨(32-n).toNat,by omega,by omega,sz_nat n⟩
theorem mask_eq {n:Int} (h0:0<=n) (h1:n<=32):shlI .u32 4294967295 (32-n)=4294967296-sz n:=by
  obtain ⟨k,hk,rfl,e⟩:=sz_cases h0 h1
  rw [e]
  have:(32:Int)-(32-(k:Int))=(k:Int):=by omega
  rw [this]
  unfold shlI
  rw [IntKind.wrap_u32]
  have hm:min ((k:Int)).toNat IntKind.u32.bits=k:=by simp only [IntKind.bits,Int.toNat_natCast];omega
  rw [hm]
  have hd:∀ k:Nat,k<=32->(4294967295*2^k:Int)%4294967296=4294967296-((2^k:Nat):Int):=by decide
  exact hd k hk
theorem size_eq {n:Int} (h0:0<=n) (h1:n<=32):shlI .i64 1 (32-n)=sz n:=by
  obtain ⟨k,hk,rfl,e⟩:=sz_cases h0 h1
  rw [e]
  have:(32:Int)-(32-(k:Int))=(k:Int):=by omega
  rw [this]
  unfold shlI
  have hm:min ((k:Int)).toNat IntKind.i64.bits=k:=by simp only [IntKind.bits,Int.toNat_natCast];omega
  rw [hm,Int.one_mul]
  have e2:((2:Int)^k)=((2^k:Nat):Int):=by rw [Int.natCast_pow];rfl
  have:(2:Nat)^k<=2^32:=Nat.pow_le_pow_right (by decide) hk
  rw [e2]
  generalize 2^k=s at this ⊢
  exact w64 (by omega) (by omega)
theorem mask_not {x n:Int} (h0:0<=x) (h1:x<=4294967295) (h2:0<=n) (h3:n<=32):bits .andNot .u32 x (4294967296-sz n)=x%sz n:=by
  obtain ⟨k,hk,rfl,e⟩:=sz_cases h2 h3
  have hp:(2:Nat)^k<=2^32:=Nat.pow_le_pow_right (by decide) hk
  have hp0:0<(2:Nat)^k:=Nat.two_pow_pos k
  rw [e,u32_andNot _ _ h0 (by omega) (by omega) (by omega)]
  have e1:4294967295-((4294967296:Int)-((2^k:Nat):Int)).toNat=2^k-1:=by omega
  rw [e1,Nat.and_two_pow_sub_one_eq_mod]
  obtain ⟨m,rfl⟩:=Int.eq_ofNat_of_zero_le h0
  rw [Int.toNat_natCast,Int.natCast_emod]
theorem and_high {a k:Nat} (hk:k<=32) (ha:a<4294967296):a &&& (4294967296-2^k)=a/2^k*2^k:=by
  have e:4294967296-2^k=(2^(32-k)-1) <<< k:=by
    rw [Nat.shiftLeft_eq,Nat.sub_mul,← Nat.pow_add,Nat.one_mul]
    congr 1
    rw [show 32-k+k=32 from by omega]
  rw [e,← Nat.shiftRight_eq_div_pow,← Nat.shiftLeft_eq]
  apply Nat.eq_of_testBit_eq
  intro i
  simp only [Nat.testBit_and,Nat.testBit_shiftLeft,Nat.testBit_two_pow_sub_one,Nat.testBit_shiftRight]
  by_cases hi:k<=i
  · have e2:k+(i-k)=i:=by omega
    simp only [hi,decide_true,Bool.true_and,e2]
    by_cases h32:i<32
    · have:i-k<32-k:=by omega
      simp [this]
    · have:a.testBit i=false:=Nat.testBit_lt_two_pow (Nat.lt_of_lt_of_le ha (Nat.pow_le_pow_right (show 0<2 by decide) (by omega:32<=i)))
      simp [this]
  · simp [hi]
theorem mask_and {a n x:Int} (h0:0<=a) (h1:a<=4294967295) (h2:0<=n) (h3:n<=32) (hx:0<=x) (hm:x%sz n=0) :
    (bits .and .u32 a (4294967296-sz n)=x)↔(x<=a/\a<x+sz n):=by
  obtain ⟨k,hk,rfl,e⟩:=sz_cases h2 h3
  have hp:(2:Nat)^k<=2^32:=Nat.pow_le_pow_right (by decide) hk
  have hp0:0<(2:Nat)^k:=Nat.two_pow_pos k
  rw [e] at hm ⊢
  rw [u32_and _ _ h0 (by omega) (by omega) (by omega)]
  have e1:((4294967296:Int)-((2^k:Nat):Int)).toNat=4294967296-2^k:=by omega
  rw [e1,and_high hk (by omega)]
  obtain ⟨m,rfl⟩:=Int.eq_ofNat_of_zero_le h0
  obtain ⟨y,rfl⟩:=Int.eq_ofNat_of_zero_le hx
  rw [Int.toNat_natCast]
  have hm:y%2^k=0:=by
    have:((y%2^k:Nat):Int)=0:=by rw [Int.natCast_emod];exact hm
    omega
  generalize 2^k=s at *
  have d:=Nat.div_add_mod m s
  have dl:=Nat.mod_lt m hp0
  have dy:=Nat.div_add_mod y s
  rw [hm] at dy
  rw [Nat.mul_comm] at d
  constructor
  · intro h;omega
  · rintro ⟨h,h'⟩
    have hq:m/s=y/s:=by
      apply Nat.le_antisymm
      · have:m<(y/s+1)*s:=by rw [Nat.add_mul,Nat.one_mul,Nat.mul_comm (y/s)];omega
        have:=Nat.div_lt_of_lt_mul (Nat.mul_comm _ _▸this:m<s*(y/s+1))
        omega
      · exact Nat.div_le_div_right (by omega)
    rw [hq,Nat.mul_comm];omega
def ct_address_mask:Ct:=⟨[.val cI],[.val cU32],fun d=>[0<=d.1/\d.1<=32],fun d=>((4294967296-sz d.1,()),())⟩
def an_address_mask:PDs ct_address_mask.ps->Anns:=(fun _=>{})
theorem vc_address_mask :
 ∀(a:Int),R64 a/\True->0<=a/\a<=32->0<=IntKind.wrap .i64 ((32:Int) -a)/\shlI IntKind.u32 (4294967295:Int) (IntKind.wrap .i64 ((32:Int) -a))=4294967296 -sz a:=by
  rintro x-⟨h0,h1⟩
  rw [w64 (by omega) (by omega)]
  exact ⟨by omega,mask_eq h0 h1⟩
theorem ok_address_mask:SpecOK Tryz.prog GL 147 ct_address_mask.spec:=Ct.okH _ Tryz.func147 (by kernel_rfl) noSpecs_ok hmix an_address_mask (hideMp (by kernel_rfl) vc_address_mask)
def ct_address_Valid:Ct:=⟨[.agg cPfx],[.val .bool],fun _=>[],fun d=>((pValid d.1,()),())⟩
def an_address_Valid:PDs ct_address_Valid.ps->Anns:=(fun _=>{})
theorem vc_address_Valid :
 ∀(a b:Int),((0<=a/\a<=4294967295)/\R64 b)/\True->True-> ∀(c:Bool),c=decide (0<=b)->(c->(c->c)/\True)/\(c->(c->c)/\True)/\(c->c)/\ ∀(d:Bool),(d=bif c then decide (b<=32) else false)->(d->(d->d)/\True)/\(d->(d->d)/\True)/\(d->(d->d)/\(0<=b/\b<=32)/\True)/\(d->(d->d)/\(d->d)/\True)/\(d->(d->d)/\True)/\(d->d)/\(bif d then decide (bits BinOp.andNot IntKind.u32 a ((4294967296:Int) -sz b)=0) else false)=pValid (a,b):=by
  rintro x n ⟨⟨⟨h0,h1⟩,-⟩,-⟩ -
  (repeat (intro (b_:Bool) (hb_:b_=_);(repeat refine ⟨(by first|(simp;done)|(rw [hb_];simp;done)|(rw [hb_];simp;omega)|(rw [hb_];simp;intros;omega)|(rw [hb_];simp +contextual;done)),?_⟩);subst hb_))
  by_cases hn:0<=n/\n<=32
  · have:=mask_not (n:=n) h0 h1 hn.1 hn.2
    simp [pValid,hn,this]
  · simp only [pValid]
    by_cases h2:0<=n
    · have:¬ n<=32:=fun h=>hn ⟨h2,h⟩
      simp [this]
    · simp [h2]
theorem ok_address_Valid:SpecOK Tryz.prog GL 97 ct_address_Valid.spec:=Ct.okH _ Tryz.func97 (by kernel_rfl) (withSpec_ok noSpecs_ok ok_address_mask) hmix an_address_Valid (hideMp (by kernel_rfl) vc_address_Valid)
def ct_address_Contains:Ct:=⟨[.agg cPfx,.val cU32],[.val .bool],fun _=>[],fun d=>((contains d.1 d.2.1,()),())⟩
def an_address_Contains:PDs ct_address_Contains.ps->Anns:=(fun _=>{})
theorem vc_address_Contains :
 ∀(a b c:Int),((0<=a/\a<=4294967295)/\R64 b)/\(0<=c/\c<=4294967295)/\True->True-> ∀(d:Bool),d=pValid (a,b)->(d->(d->d)/\True)/\(d->(d->d)/\(0<=b/\b<=32)/\True)/\(d->(d->d)/\(d->d)/\True)/\(d->(d->d)/\True)/\(d->(d->d)/\(d->d)/\True)/\(d->d)/\(bif d then decide (bits BinOp.and IntKind.u32 c ((4294967296:Int) -sz b)=a) else false)=contains (a,b) c:=by
  rintro x n a ⟨⟨⟨h0,h1⟩,-⟩,⟨h2,h3⟩,-⟩ -
  have hv:∀ b:Bool,b=pValid (x,n)->b=true->0<=n/\n<=32/\x%sz n=0:=by
    rintro b rfl h;simpa [pValid] using h
  rintro b hb
  have hr:=hv b hb
  refine ⟨by simp,fun h=>⟨fun _=>h,⟨(hr h).1,(hr h).2.1⟩,trivial⟩,by simp,by simp,by simp,by simp,?_⟩
  unfold contains
  rw [← hb]
  cases b with
  | false=>rfl
  | true =>
    obtain ⟨r1,r2,r3⟩:=hr rfl
    have:=mask_and (n:=n) (x:=x) h2 h3 r1 r2 h0 r3
    rw [Bool.eq_iff_iff];simpa using this
theorem ok_address_Contains:SpecOK Tryz.prog GL 146 ct_address_Contains.spec:=Ct.okH _ Tryz.func146 (by kernel_rfl) (withSpec_ok (withSpec_ok noSpecs_ok ok_address_mask) ok_address_Valid) hmix an_address_Contains (hideMp (by kernel_rfl) vc_address_Contains)
def ct_ref01_size:Ct:=⟨[.val cI],[.val cI],fun d=>[0<=d.1/\d.1<=32],fun d=>((sz d.1,()),())⟩
def an_ref01_size:PDs ct_ref01_size.ps->Anns:=(fun _=>{})
theorem vc_ref01_size :
 ∀(a:Int),R64 a/\True->0<=a/\a<=32->0<=IntKind.wrap .i64 ((32:Int) -a)/\shlI IntKind.i64 (1:Int) (IntKind.wrap .i64 ((32:Int) -a))=sz a:=by
  rintro x-⟨h0,h1⟩
  rw [w64 (by omega) (by omega)]
  exact ⟨by omega,size_eq h0 h1⟩
theorem ok_ref01_size:SpecOK Tryz.prog GL 152 ct_ref01_size.spec:=Ct.okH _ Tryz.func152 (by kernel_rfl) noSpecs_ok hmix an_ref01_size (hideMp (by kernel_rfl) vc_ref01_size)
def ct_ref01_Valid:Ct:=⟨[.agg cPfx],[.val .bool],fun _=>[],fun d=>((pValid d.1,()),())⟩
def an_ref01_Valid:PDs ct_ref01_Valid.ps->Anns:=(fun _=>{})
theorem vc_ref01_Valid :
 ∀(a b:Int),((0<=a/\a<=4294967295)/\R64 b)/\True->True-> ∀(c:Bool),c=decide (0<=b)->(c->(c->c)/\True)/\(c->(c->c)/\True)/\(c->c)/\ ∀(d:Bool),(d=bif c then decide (b<=32) else false)->(d->(d->d)/\True)/\(d->(d->d)/\True)/\(d->(d->d)/\True)/\(d->(d->d)/\(0<=b/\b<=32)/\True)/\(d->(d->d)/\(d->d)/\sz b≠(0:Int)/\True)/\(d->(d->d)/\True)/\(d->d)/\(bif d then decide (Int.tmod (IntKind.wrap .i64 a) (sz b)=0) else false)=pValid (a,b):=by
  rintro x n ⟨⟨⟨h0,h1⟩,-⟩,-⟩ -
  have hp:=sz_pos n
  (repeat (intro (b_:Bool) (hb_:b_=_);(repeat refine ⟨(by first|(simp;done)|(rw [hb_];simp;done)|(rw [hb_];simp;omega)|(rw [hb_];simp;intros;omega)|(rw [hb_];simp +contextual;done)),?_⟩);subst hb_))
  rw [w64 (by omega) (by omega),Int.tmod_eq_emod_of_nonneg h0]
  simp only [pValid]
  by_cases h2:0<=n
  · by_cases h3:n<=32
    · simp [h2,h3]
    · simp [h2,h3]
  · simp [h2]
theorem ok_ref01_Valid:SpecOK Tryz.prog GL 101 ct_ref01_Valid.spec:=Ct.okH _ Tryz.func101 (by kernel_rfl) (withSpec_ok noSpecs_ok ok_ref01_size) hmix an_ref01_Valid (hideMp (by kernel_rfl) vc_ref01_Valid)
def ct_slices_Index_263e:Ct:=⟨[.val (.sl cI),.val cI],[.val cI],fun _=>[],fun d=>((if d.2.1∈d.1 then (d.1.idxOf d.2.1:Int) else -1,()),())⟩
def an_slices_Index_263e:PDs ct_slices_Index_263e.ps->Anns:=(fun d=>{loops:=(fun n=>match n with|2=>some (fun S=>{ι:=Int,μ:=fun i=>(d.1.length-i).toNat,inv:=fun i=>0<=i/\i<=d.1.length∧∀ y∈d.1.take i.toNat,y≠d.2.1,keep:=[0,1,6,7],slots:=fun i=>[(8,.int .i64 i)],names:=fun i=>[]})|_=>none)})
theorem vc_slices_Index_263e :
 ∀(a:List Int) (b:Int),(a.length<=maxLen/\ ∀(c:Int),c∈a->R64 c)/\R64 b/\True->True->(∃(c:Int),(0<=c/\c<=(Qbl1 a)/\ ∀(d:Int),d∈List.take c.toNat a->d≠b)/\a=a/\b=b/\a=a/\(Qbl1 a)=(Qbl1 a)/\(0:Int)=c/\True)/\ ∀(c:Int),(0<=c/\c<=(Qbl1 a)/\ ∀(d:Int),d∈List.take c.toNat a->d≠b)->ifP (decide (c<(Qbl1 a))) (0<=c/\c<(Qbl1 a)/\ifP (decide (b=a.getD c.toNat default)) (c=if b∈a then (↑(List.idxOf b a):Int) else (-1:Int)) (∃(d:Int),(0<=d/\d<=(Qbl1 a)/\ ∀(e:Int),e∈List.take d.toNat a->e≠b)/\Int.toNat ((Qbl1 a) -d)<Int.toNat ((Qbl1 a) -c)/\a=a/\b=b/\a=a/\(Qbl1 a)=(Qbl1 a)/\IntKind.wrap .i64 (c+(1:Int))=d/\True)) ((-1:Int)=if b∈a then (↑(List.idxOf b a):Int) else (-1:Int)):=by
  delta Qbl1
  rintro x v ⟨⟨hl,-⟩,-⟩ -
  simp only [maxLen] at hl
  refine ⟨⟨0,⟨by omega,by omega,by simp⟩,(by repeat' first|exact trivial|refine ⟨trivial,?_⟩|refine ⟨(by with_reducible rfl),?_⟩|refine ⟨w64 (by omega) (by omega),?_⟩|refine ⟨rfl,?_⟩)⟩,?_⟩
  rintro j ⟨h0,h1,h2⟩
  refine ifP_split (fun hj => ?_) (fun hj => ?_)
  · have hj:=of_decide_eq_true hj
    refine ⟨h0,hj,ifP_split (fun hz => ?_) (fun hz => ?_)⟩
    · have hz:=of_decide_eq_true hz
      have hm:v∈x:=by rw [hz];exact getD_mem h0 hj
      rw [if_pos hm]
      have:=idxOf_at (l:=x) (v:=v) h0 hj hz.symm h2
      omega
    · have hz:=of_decide_eq_false hz
      refine ⟨j+1,⟨by omega,by omega,fun y hy => ?_⟩,by omega,(by repeat' first|exact trivial|refine ⟨trivial,?_⟩|refine ⟨(by with_reducible rfl),?_⟩|refine ⟨w64 (by omega) (by omega),?_⟩|refine ⟨rfl,?_⟩)⟩
      rcases mem_take_succ h0 hj hy with hy|rfl
      · exact h2 y hy
      · exact fun e=>hz e.symm
  · have hj:=of_decide_eq_false hj
    rw [List.take_of_length_le (by omega)] at h2
    rw [if_neg (fun hm=>h2 v hm rfl)]
theorem ok_slices_Index_263e:SpecOK Tryz.prog GL 185 ct_slices_Index_263e.spec:=Ct.okH _ Tryz.func185 (by kernel_rfl) noSpecs_ok hmix an_slices_Index_263e (hideMp (by kernel_rfl) vc_slices_Index_263e)
def ct_slices_Contains_263e:Ct:=⟨[.val (.sl cI),.val cI],[.val .bool],fun _=>[],fun d=>((decide (d.2.1∈d.1),()),())⟩
def an_slices_Contains_263e:PDs ct_slices_Contains_263e.ps->Anns:=(fun _=>{})
theorem vc_slices_Contains_263e :
 ∀(a:List Int) (b:Int),(a.length<=maxLen/\ ∀(c:Int),c∈a->R64 c)/\R64 b/\True->True->decide (0<=if b∈a then (↑(List.idxOf b a):Int) else (-1:Int))=decide (b∈a):=by
  rintro x v - -
  by_cases h:v∈x
  · rw [if_pos h];simp [h];
  · rw [if_neg h];simp [h]
theorem ok_slices_Contains_263e:SpecOK Tryz.prog GL 151 ct_slices_Contains_263e.spec:=Ct.okH _ Tryz.func151 (by kernel_rfl) (withSpec_ok noSpecs_ok ok_slices_Index_263e) hmix an_slices_Contains_263e (hideMp (by kernel_rfl) vc_slices_Contains_263e)
end Go.RS
