/- Jr1: results as bytes, segments, journals: in plain terms. -/
import Derived.Test.YtgcnlmckfpcgpaaGreatDoorSch
import Derived.Test.YtgcnlmckfpcgpaaGreatDoorAddr
import Derived.Test.YtgcnlmckfpcgpaaGreatDoorIdent
set_option maxRecDepth 100000
set_option linter.all false
open Int (toNat)
open List (length take set replicate range)
open Bool renaming and_eq_true_iff->cd0,false->bZ6,true->bZ3
open ByteArray renaming mk->cF9
open Decidable renaming decide->bZ2
open Go renaming Code->ck1,Program->ca7,Value->ca2,maxLen->cb2
open Go.BinOp renaming and->cc6,or->ck2,xor->cd6
open Go.Func renaming ntmps->cy0
open Go.IntKind renaming i64->bZ4,u32->bZ7,u64->ca1,u8->cc4,wrap->bZ5
open Go.World renaming putObj_heap_other->cd5,putObj_heap_same->ck4
open Inhabited renaming default->Sk
open Int renaming ediv_ediv_of_nonneg->cr2,ediv_one->ck8,emod_eq_of_lt->cg3,le_trans->cl4,mul_ediv_add_emod->ct6,pow_succ->cC0,toNat->it,toNat_natCast->cb6
open List renaming IsPrefix->cm7,drop_left->cl3,drop_zero->cm3,flatMap_append->cu7,flatMap_cons->ch7,flatten->cc9,flatten_append->cj1,foldl_cons->ce5,getD->Om,getElem_mem->cc3,length->be,length_nil->cb8,length_range->cn3,nil_prefix->cy9,not_mem_nil->ci5,take_left->cp2,take_left'->cy8,take_length->cg7
open Nat renaming sub_self->cp7
open Sigma renaming mk->cE3
namespace Go.RS
open Go.SX Go.Proofs
abbrev jt:Type:=Int×Int×Int×ad
def fT(r:av):oE:=r.2.2.2.2.2.2.2.2.2.2.2
def nP(r:av):Int:=if r.2.2.2.2.2.2.2.2.1=bZ3 then 1 else 0
def iZ(r:av):Int:=nP r+(if r.2.2.2.2.2.2.2.2.2.1=bZ3 then 2 else 0)
def nM(r:av):List bY5:=[(r.1,1),(r.2.1,1),(r.2.2.1,2),(r.2.2.2.1,7),(r.2.2.2.2.1,4),(r.2.2.2.2.2.1,1),(r.2.2.2.2.2.2.1,2),(r.2.2.2.2.2.2.2.1,1),(iZ r,1),(r.2.2.2.2.2.2.2.2.2.2.1,7),((fT r).1,4),((fT r).2.1,1),((fT r).2.2.1,1),((fT r).2.2.2.1,1),((fT r).2.2.2.2.1,2),((fT r).2.2.2.2.2,1)]
def i7:List bY5->ad
 | []=>[]
 | p::l=>iJ p.1 p.2 p.2++i7 l
def lN:List bY5->Nat
 | []=>0
 | p::l=>p.2+lN l
def fits(p:bY5):Prop:=1<=p.2/\p.2<=7/\0<=p.1/\p.1<256^p.2
def fP(r:av):ad:=i7 (nM r)
structure mo (r:av):Prop where
 v:0<=r.1/\r.1<=15
 u:0<=r.2.1/\r.2.1<=63
 n:0<=r.2.2.1/\r.2.2.1<=999
 t:0<=r.2.2.2.1/\r.2.2.2.1<=r.2.2.2.2.2.2.2.2.2.2.1/\r.2.2.2.2.2.2.2.2.2.2.1<=2251799813685248
 d:0<=r.2.2.2.2.1/\r.2.2.2.2.1<=4294967295
 p:r.2.2.2.2.2.1=1∨r.2.2.2.2.2.1=6∨r.2.2.2.2.2.1=17
 f:0<=r.2.2.2.2.2.2.1/\r.2.2.2.2.2.2.1<=1023
 l:1<=r.2.2.2.2.2.2.2.1/\r.2.2.2.2.2.2.2.1<=255
 a0:r.2.2.2.2.2.2.2.2.1=bZ6->r.2.2.2.2.2.2.2.2.2.1=bZ6/\fT r=AE
 af:0<=(fT r).1/\(fT r).1<=4294967295
 ak:r.2.2.2.2.2.2.2.2.1=bZ3->1<=(fT r).2.1/\(fT r).2.1<=5
 an:(0<=(fT r).2.2.1/\(fT r).2.2.1<=255)/\(0<=(fT r).2.2.2.1/\(fT r).2.2.2.1<=255)/\(0<=(fT r).2.2.2.2.1/\(fT r).2.2.2.2.1<=65535)/\(0<=(fT r).2.2.2.2.2/\(fT r).2.2.2.2.2<=255)
theorem zQ:∀ l,be (i7 l)=lN l
 | []=>rfl
 | p::l=>by rw[i7,bM,K8,zQ l];rfl
theorem P9:∀ a b,i7 (a++b)=i7 a++i7 b
 | [],b=>rfl
 | p::a,b=>by rw[kO,i7,P9 a b,i7,fV]
theorem UP(n:Int)(w:Nat):∀ k:Nat,k<=w->gP (iJ n w k)=n/256^(w-k)%256^k
 | 0,_=>by simp[iJ,gP]
 | k+1,h=>by
  rw[Ub,QK,UP n w k ab,show w-k=(w-(k+1))+1 by omega,show w-1-k=w-(k+1) by omega,cC0,← cr2 (Int.pow_nonneg aB),cC0];generalize n/256^(w-(k+1))=m;have hP:(0:Int)<256^k:=Int.pow_pos aB;generalize (256:Int)^k=P at hP;have e1:=ct6 m (256*P);have e2:=ct6 (m/256) P;have e3:m/256/P=m/(256*P):=cr2 aB;rw[e3] at e2;rw[Int.mul_assoc] at e1;rw[Int.mul_comm P 256];generalize P*(m/(256*P))=X at e1 e2;generalize m%(256*P)=Y at *;omega
theorem X4{l:List bY5}(h:∀ p∈l,fits p){k:Nat}(hk:k<be l)(s:ad):bI (i7 l++s) (lN (l.take k)) (Om l k Sk).2=(Om l k Sk).1/\jT (i7 l++s) (lN (l.take k)) (Om l k Sk).2=0/\lN (l.take k)+(Om l k Sk).2<=be (i7 l):=by
 have e:l=l.take k++l[k]::l.drop (k+1):=by rw[← s9 hk,kP]
 have hf:=h _ (cc3 hk)
 rw[cq,cG hk,iA]
 generalize l[k]=p at *
 generalize l.drop (k+1)=c at *
 have ea:=zQ (l.take k)
 generalize l.take k=a at *
 rw[e,P9,i7]
 have ⟨h1,h2,h3,h4⟩:=hf
 have hb:=K8 p.1 p.2 p.2
 have q:((i7 a++(iJ p.1 p.2 p.2++i7 c)++s).drop (it (lN a:Int))).take (it (p.2:Int))=iJ p.1 p.2 p.2:=by
  rw[cb6,cb6,fV,← ea,cl3,fV];exact cy8 hb
 have ln:be (i7 a++(iJ p.1 p.2 p.2++i7 c)++s)=lN a+(p.2+(be (i7 c)+be s)):=by
  simp only[bM,hb,ea];omega
 refine⟨?_,?_,by simp only[bM,hb,ea];omega⟩
 .unfold bI;rw[ah ab,q,UP _ _ _ (dq _),cp7,Int.pow_zero,ck8,cg3 h3 h4]
 .unfold jT;rw[ah ab,ah ab]
theorem mq{n m:Int}{w:Nat}(h:0<=n/\n<=m)(hw:1<=w/\w<=7)(hm:m<256^w):fits (n,w):=⟨hw.1,hw.2,h.1,Int.lt_of_le_of_lt h.2 hm⟩
theorem mo.fits{r:av}(h:mo r):∀ p∈nM r,fits p:=by
 have ⟨v,u,n,t,d,p,f,l,a0,af,ak,⟨n1,n2,n3,n4⟩⟩:=h
 have hk:0<=(fT r).2.1/\(fT r).2.1<=255:=by
  cases e:r.2.2.2.2.2.2.2.2.1 with
  | true=>have:=ak e;omega
  | false=>rw[(a0 e).2];exact⟨aB,aB⟩
 have hg:0<=iZ r/\iZ r<=255:=by unfold iZ nP;split <;> split <;> omega
 intro q hq
 simp only[nM,dO,ci5,or_false] at hq
 obtain rfl|rfl|rfl|rfl|rfl|rfl|rfl|rfl|rfl|rfl|rfl|rfl|rfl|rfl|rfl|rfl:=hq
 .exact mq v aB aB
 .exact mq u aB aB
 .exact mq n aB aB
 .exact mq ⟨t.1,cl4 t.2.1 t.2.2⟩ aB aB
 .exact mq d aB aB
 .exact mq (m:=17) ab aB aB
 .exact mq f aB aB
 .exact mq (m:=255) ab aB aB
 .exact mq hg aB aB
 .exact mq ⟨cl4 t.1 t.2.1,t.2.2⟩ aB aB
 .exact mq af aB aB
 .exact mq hk aB aB
 .exact mq n1 aB aB
 .exact mq n2 aB aB
 .exact mq n3 aB aB
 .exact mq n4 aB aB
theorem P5(r:av):be (fP r)=37:=zQ _
theorem TA{l:List bY5}:(∀ p∈l,fits p)→∀ b:ad,l.foldl (λb p=>putB b p.1 p.2) b=b++i7 l:=by
 induction l with
 | nil=>exact λ_ b=>(iX b).symm
 | cons p l ih =>
  intro h b;have ⟨h1,h2,h3,h4⟩:=h p eV;rw[ce5,ih (λq hq=>h q (fu _ hq)),i7,← fV];congr 1;unfold putB;rw[ah,cb6];unfold tY;rw[cb6];omega
theorem ab6(r:av):bits .and .i64 (iZ r) 1=if r.2.2.2.2.2.2.2.2.1=bZ3 then 1 else 0:=by
 unfold iZ nP;cases r.2.2.2.2.2.2.2.2.1 <;> cases r.2.2.2.2.2.2.2.2.2.1 <;> rfl
theorem aX8(r:av):bits .and .i64 (iZ r) 2=if r.2.2.2.2.2.2.2.2.2.1=bZ3 then 2 else 0:=by
 unfold iZ nP;cases r.2.2.2.2.2.2.2.2.1 <;> cases r.2.2.2.2.2.2.2.2.2.1 <;> rfl
def EH(r:av)(k:Nat):Int×Nat:=Om (nM r) k Sk
def gz(r:av)(k:Nat):ad:=i7 ((nM r).take k)
theorem Ze{r:av}(h:mo r){k:Nat}(hk:k<16):putB (gz r k) (EH r k).1 (EH r k).2=gz r (k+1):=by
 have hk:=hk
 have e:=TA (l:=[EH r k]) (λp hp=>by rw[kY.1 hp];unfold EH;rw[cq,cG hk];exact h.fits _ (cc3 hk)) (gz r k)
 refine e.trans ?_
 unfold gz EH
 rw[zu hk,P9,cq,cG hk];rfl
theorem a39(l:List bY5):∀ k,lN (l.take k)<=lN l:=by
 induction l with
 | nil=>exact λk=>by rw[List.take_nil];exact dq _
 | cons p l ih =>
  intro k;cases k with
  | zero=>exact Nat.zero_le _
  | succ k=>have:=ih k;simp only[List.take_succ_cons,lN];omega
theorem aK4(r:av)(k:Nat):(be (gz r k):Int)<=1000000:=by
 unfold gz
 rw[zQ]
 have:=a39 (nM r) k
 have:lN (nM r)=37:=rfl
 omega
def o7(b:ad)(k:Nat):Int:=bI b (lN ((nM Sk).take k)) (Om (nM Sk) k Sk).2
def u9(b:ad):av:=(o7 b 0,o7 b 1,o7 b 2,o7 b 3,o7 b 4,o7 b 5,o7 b 6,o7 b 7,bZ2 (bits .and .i64 (o7 b 8) 1=1),bZ2 (bits .and .i64 (o7 b 8) 2=2),o7 b 9,o7 b 10,o7 b 11,o7 b 12,o7 b 13,o7 b 14,o7 b 15)
theorem oI{r:av}(h:mo r){k:Nat}(hk:k<16):o7 (fP r) k=(Om (nM r) k Sk).1/\jT (fP r) (lN ((nM Sk).take k)) (Om (nM Sk) k Sk).2=0:=by
 have e:=X4 h.fits (k:=k) hk []
 rw[iX] at e
 have e1:lN ((nM r).take k)=lN ((nM Sk).take k):=by
  have:∀ k,k<16->lN ((nM r).take k)=lN ((nM Sk).take k):=by
   intro k hk;have:k=0∨k=1∨k=2∨k=3∨k=4∨k=5∨k=6∨k=7∨k=8∨k=9∨k=10∨k=11∨k=12∨k=13∨k=14∨k=15:=ab;obtain rfl|rfl|rfl|rfl|rfl|rfl|rfl|rfl|rfl|rfl|rfl|rfl|rfl|rfl|rfl|rfl:=this <;> rfl
  exact this k hk
 have e2:(Om (nM r) k Sk).2=(Om (nM Sk) k Sk).2:=by
  have:k=0∨k=1∨k=2∨k=3∨k=4∨k=5∨k=6∨k=7∨k=8∨k=9∨k=10∨k=11∨k=12∨k=13∨k=14∨k=15:=ab;obtain rfl|rfl|rfl|rfl|rfl|rfl|rfl|rfl|rfl|rfl|rfl|rfl|rfl|rfl|rfl|rfl:=this <;> rfl
 rw[e1,e2] at e
 exact⟨e.1,e.2.1⟩
theorem Uf{r:av}(h:mo r):u9 (fP r)=r:=by
 unfold u9
 rw[(oI h (k:=0) aB).1,(oI h (k:=1) aB).1,(oI h (k:=2) aB).1,(oI h (k:=3) aB).1,(oI h (k:=4) aB).1,(oI h (k:=5) aB).1,(oI h (k:=6) aB).1,(oI h (k:=7) aB).1,(oI h (k:=8) aB).1,(oI h (k:=9) aB).1,(oI h (k:=10) aB).1,(oI h (k:=11) aB).1,(oI h (k:=12) aB).1,(oI h (k:=13) aB).1,(oI h (k:=14) aB).1,(oI h (k:=15) aB).1]
 have e1:=ab6 r
 have e2:=aX8 r
 have e3:(Om (nM r) 8 Sk).1=iZ r:=rfl
 rw[e3,e1,e2]
 have ⟨a,b,c,d,e,f,g,i,x,y,z⟩:=r
 cases x <;> cases y <;> rfl
def az3:Ct:=⟨[.nils,.val cI],[.own 5 bm],λd=>[0<=d.2.1,d.2.1<=1073741824],λd=>(([],()),())⟩
theorem as0:
 ∀(a:Int),True/\ai (aq a)->0<=a/\a<=1073741824->ar (dH a) False (ar (ax 0 (uX a)) (bp 0 0 (0<=uX a) (uX a*(↑((1:Nat)):Int)<=140737488355328/\am 0 (0<=ac (replicate (it (uX a)) (0:Int))) (take (it 0) (replicate (it (uX a)) (0:Int))=([]:ad)))) (fw [])):= by
  delta ac ao aq aK bp am ai dH uX ax bn fw
  rintro x-⟨h0,h1⟩
  rw[aG (n:=(0:Int)-0) ab ab,aG ab ab]
  refine aw (λhb=>?_) (λhb=>aw (λhb=>?_) (λhb=>rfl))
  .have:=aX hb;omega
  .refine⟨rfl,rfl,ab,ab,ab,by simp only[vU];omega,az⟩
theorem bQ4:aC 205 az3.spec:=aF Tryz.func205 (Gx aD (d:=25)) aU as0
def Tq:Ct:=⟨[.val (.sl (.sl bm))],[.own 5 bm],λd=>[(be d.1.flatten:Int)<=1073741824],λd=>((d.1.flatten,()),())⟩
def bG8:bw Tq.ps->bL:=(λd=>{loops:=(bu 3 (λS=>{ι:=Int×Int,qn:=fH,μ:=λi=>it (be d.1-i.1),inv:=λi=>0<=i.1/\i.1<=be d.1/\i.2=((d.1.take (it i.1)).flatten.length:Int),keep:=[0,9,10],slots:=λi=>[(3,.int .i64 i.2),(11,.int .i64 i.1)]}) (bu 11 (λS=>{ι:=Int×ad,qn:=fH,μ:=λi=>it (be d.1-i.1),inv:=λi=>0<=i.1/\i.1<=be d.1/\i.2=(d.1.take (it i.1)).flatten,keep:=[25,26],slots:=λi=>[(6,.own 524288 1),(27,.int .i64 i.1)],names:=λi=>[(524288,.live (.row 5 bm i.2))]}) cC))})
def Aa(a:Int)(b:bY0)(c:ad):=am a (a<=ac b) (c=cc9 (take (it a) b))
def Lv(a:Int)(b:bY0)(c:Int):=am a (a<=ac b) (c=ac (cc9 (take (it a) b)))
theorem bD1:
 ∀(a:bY0),ai (be a<=cb2/\ ∀(b:ad),b∈a->aQ b)->fA (cc9 a)->(∃(b c:Int),Lv b a c/\a=a/\0=c/\a=a/\ac a=ac a/\ai (0=b))/\ ∀(b c:Int),Lv b a c->ar (ax b (ac a)) (am b (b<ac a) (ar (dH (ao (c+ac (ae a b)))) False (∃(d e:Int),Lv d a e/\bj (ac a) d b/\a=a/\ao (c+ac (ae a b))=e/\a=a/\ac a=ac a/\ai (bf b d)))) (bt c 1073741824 (∃(d:Int) (e:ad),Aa d a e/\a=a/\ac a=ac a/\0=d/\ai (fw e)) (∀(d:Int)(e:ad),Aa d a e->ar (ax d (ac a)) (bJ d (ac a) (gp e (ae a d)) (∃(f:Int) (g:ad),Aa f a g/\bj (ac a) f d/\a=a/\ac a=ac a/\bf d f/\ai (e++ae a d=g))) (e=cc9 a))):= by
  delta ae ac ao aQ bj gp am bP fA bt ai bf Aa cN bJ dH ax Lv fw
  rintro x ⟨⟨hl,-⟩,-⟩ ht
  simp only[cb2] at hl
  refine⟨⟨0,0,⟨ab,ab,az⟩,aI⟩,?_⟩
  rintro j s ⟨h0,h1,h2⟩
  have hle:=C8 x (it j)
  refine aw (λhb=>?_) (λhb=>?_)
  .have hb:=aX hb
   have e:=I0 h0 hb
   have hle2:=C8 x (it (j+1))
   have el:((x.take (it (j+1))).flatten.length:Int)=s+be (Om x (it j) Sk):=by rw[e,bM];omega
   rw[aG (n:=s+_) ab ab]
   refine⟨h0,hb,ci (λhc=>?_) (λhc=>?_)⟩
   .have:=hc;omega
   .exact⟨j+1,_,⟨ab,ab,el.symm⟩,ab,aI⟩
  .refine⟨ab,ab,⟨0,[],⟨ab,ab,az⟩,aI⟩,?_⟩
   rintro k ys ⟨k0,k1,rfl⟩
   refine ci (λhb=>?_) (λhb=>?_)
   .have e:=I0 k0 hb
    have hle2:=C8 x (it (k+1))
    refine⟨k0,hb,?_,k+1,_,⟨ab,ab,e.symm⟩,ab,aI⟩
    rw[← bM,← e];omega
   .rw[gN ab]
theorem ZC:aC 150 Tq.spec:=aF Tryz.func150 (ap aD bQ4) bG8 bD1
end Go.RS
namespace Go.SX
def Ic(fn:Func):Array Tmp×ck1×ck1:=(jy (oO fn)).headD (#[],.skip,.skip)
def Dl.setV(u:SV):Dl->Dl
 | .det l v up => .det l u up
 | .nd X qn l R inh v up => .nd X qn l R inh (λ_=>u) up
def AV(s:Spec):Spec:=λbase svs=>(s base svs).bind λd=>.ret (d.setV (.bool bZ3))
def pT:List SV->List Nat->List SV->List SV
 | sl,t::ts,v::vs=>pT (sl.set t v) ts vs
 | sl,_,_=>sl
def Kg(ps:List PK)(d:bw ps)(n:Nat)(ts:List Nat):St:=⟨pT (p9 [] n) ts (g9 ps d 0 0),qk ps d 0 0++tA ps d 0⟩
def Po(l:List Nat):List Nat->Bool
 | []=>bZ3
 | t::ts => !qP t l&&Po l ts
def R0(P:ca7)(ps:List PK)(rs:List RK)(post:jp rs×gk ps->Prop):Ex->St->Prop:=λe S=>match e with
 | .normal=>match S.noY with
  | true=>AI P ps rs [] post .normal S
  | false=>False
 | _=>False
def fW(P:ca7)(sp:fe)(an:bL)(ps:List PK)(rs:List RK)(post:jp rs×gk ps->Prop)(x:Array Tmp×ck1×ck1):Ex->St->Prop:=λe S=>match e with
 | .normal=>match S.noY with
  | true=>sx P sp an x.2.2 (R0 P ps rs post) S
  | false=>False
 | _=>False
def vcR(P:ca7)(sp:fe)(an:bL)(ps:List PK)(rs:List RK)(d:bw ps)(post:jp rs×gk ps->Prop)(x:Array Tmp×ck1×ck1)(n:Nat)(ts:List Nat):Prop :=
 match Po x.1.toList ts,Nat.beq (be (g9 ps d 0 0)) (x.1.size+be ts) with
 | true,bZ3=>xm (Kg ps d n (x.1.toList++ts)) (sx P sp an x.2.1 (fW P sp an ps rs post x))
 | _,_=>False
def Ct.vcR(P:ca7)(sp:fe)(c:Ct)(x:Array Tmp×ck1×ck1)(n:Nat)(ts:List Nat)(an:bw c.ps->bL):Prop :=
 yU c.ps λd=>vD c.ps d->qD (c.pre d)->SX.vcR P sp (an d) c.ps c.rs d (λy=>qD (yR c.rs y.1 (c.out d).1++qc c.ps y.2 (c.out d).2)) x n ts
def Cn.vcR(P:ca7)(sp:fe)(c:Cn)(x:Array Tmp×ck1×ck1)(n:Nat)(ts:List Nat)(an:bw c.ps->bL):Prop :=
 yU c.ps λd=>vD c.ps d->qD (c.pre d)->SX.vcR P sp (an d) c.ps c.rs d (c.post d) x n ts
section
variable {P:ca7} {sp:fe} {A:Nat->Prop} {env:bi} {w:World}
theorem Xf{l:List Nat}:∀{ts:List Nat},Po l ts=bZ3→∀ t∈ts,t ∉ l
 | t::ts,h,q,hq=>by
  obtain⟨h1,h2⟩:=cd0.1 h;obtain rfl|hq:=dO.1 hq
  .intro hm;rw[AC.2 hm] at h1;cases h1
  .exact Xf h2 q hq
theorem XS:∀{ts:List Nat}{vs:List SV}{sl:List SV},be (pT sl ts vs)=be sl
 | [],_,_=>by simp[pT]
 | _::_,[],_=>by simp[pT]
 | t::ts,v::vs,sl=>by simp[pT,XS (ts:=ts)]
theorem S7:∀(ts:List Nat)(ss:List SV)(vs:List ca2)(sl:List SV)(tm:Array ca2),sl.length<=tm.size->aM A env w ss vs->(∀ i,aA A env w (d9 sl i) (tm.getD i undef)) →
  ∀ i,aA A env w (d9 (pT sl ts ss) i) (((ts.zip vs).foldl (λtm p=>tm.setIfInBounds p.1 p.2) tm).getD i undef)
 | [],_,_,_,_,_,_,h,i=>by simpa[pT] using h i
 | _::_,[],vs,_,_,_,hd,h,i=>by simp only[aM] at hd;subst hd;simpa[pT] using h i
 | t::ts,s::ss,vs,sl,tm,hl,hd,h,i=>by
  simp only[aM] at hd;obtain⟨v,r,rfl,hv,hr⟩:=hd;refine S7 ts ss r (sl.set t s) (tm.setIfInBounds t v) (by simpa using hl) hr (λi=>?_) i;rw[Ke];split
  next q=>obtain⟨rfl,q⟩:=q;rw[sQ,Array.getElem?_setIfInBounds_self_of_lt ab];exact hv
  .rename_i q;by_cases e:i=t
   .subst e;have:¬ i<sl.length:=λhlt=>q ⟨rfl,hlt⟩;have:d9 sl i = .junk:=by unfold d9;rw[xu,AH ab]
    rw[this];simp only[aA]
   .rw[sQ,FM (Ne.symm e),← sQ];exact h i
theorem YC:∀(ts:List Nat)(ss:List SV)(sl:List SV)(tm:Array ca2),aM A env w ss (ts.map λt=>tm.getD t undef)->(∀ i,aA A env w (d9 sl i) (tm.getD i undef)) →
  ∀ i,aA A env w (d9 (pT sl ts ss) i) (tm.getD i undef)
 | [],_,_,_,_,h,i=>by simpa[pT] using h i
 | _::_,[],_,_,_,h,i=>by simpa[pT] using h i
 | t::ts,s::ss,sl,tm,hd,h,i=>by
  simp only[aM,fF] at hd;obtain⟨v,r,e,hv,hr⟩:=hd;cases e;refine YC ts ss (sl.set t s) tm hr (λi=>?_) i;rw[Ke];split
  next q=>rw[q.1];exact hv
  .exact h i
theorem VY:∀{ps:List Nat}{ts:List Nat}{ss rs:List SV}{sl:List SV},be ss=be ps->pT sl (ps++ts) (ss++rs)=pT (pT sl ps ss) ts rs
 | [],_,[],_,_,_=>by simp[pT]
 | p::ps,ts,s::ss,rs,sl,h=>by simp only[kO,pT];exact VY (by simpa using h)
theorem Td{t:Nat}:∀{l:List (Nat×ca2)}{tm:Array ca2},(∀ p∈l,p.1≠t)->((l.foldl (λtm p=>tm.setIfInBounds p.1 p.2) tm).getD t undef)=tm.getD t undef
 | [],_,_=>rfl
 | p::l,tm,h=>by
  rw[ce5,Td λq hq=>h q (fu _ hq),sQ,FM (h p (eV ..)),← sQ]
theorem Yq:∀{l:List (Nat×ca2)}{tm:Array ca2},(l.foldl (λtm p=>tm.setIfInBounds p.1 p.2) tm).size=tm.size
 | [],_=>rfl
 | p::l,tm=>by rw[ce5,Yq,Array.size_setIfInBounds]
theorem rE.base{w0 wb w:World}(h:wb.heap.size=w0.heap.size):∀{ds:List Deferred},rE w0 w ds->rE wb w ds
 | [],_=>trivial
 | _::_,⟨D,h1,h2,h3,h4,h5⟩=>⟨D,h1,ab,h3,h4,h5.base h⟩
theorem R6{ps:List PK}{rs:List RK}(post:jp rs×gk ps->Prop){x:Array Tmp×ck1×ck1}{n:Nat}{ts:List Nat}{r:Loop}(hr:vf n x r)(hs:je P sp)(ir:P.follows .mixedOrders=bZ3)(an:bL)(hx:(jy x.2.1,jy x.2.2)=([],[]))
  {base:Nat} {svs:List SV} {h:bZ} {dd:bw ps} {fz:List (Nat×Nm)} {bx:List Nat} {cx:List (Option Nat)} {q1:List Nat} (e1:(gX none ps svs).run h=some ((dd,fz,bx,cx),q1)) (hnm:AL fz bx cx=bZ3)
  (hun:∀ i,i<gW rs+jB ps->h (base+i) = .un) (vc:vD ps dd->vcR P sp an ps rs dd post x n ts)
  {w0:World} {N0:fI} {A:Nat->Prop} {env:bi} {w:World} {vs:List ca2} {l:Nat} (hG:N0.g=sp.gl) (m:Mod w0 N0 A env h w) (hl:w.heap[l]? = some (.loop r)) (hd:aM A env w svs (vs++ts.map λt=>r.tmps.getD t undef)) :
  vs.length=r.params.size/\RoundIn Fence.wide 0 P l r.fn ((r.params.zip vs.toArray).foldl (λtmps (t,a)=>tmps.setIfInBounds t a) r.tmps) r.assign r.body w λe w'=>e = .returned (.bool bZ3)∧∃ y,post y ∧
   ∃ (A':Nat->Prop) (env':bi),Mod w0 N0 A' env' (dJ (vl ps rs y base fz bx cx) h) w'∧dM A env w A' env' w':=by
 have ⟨a4,Nc,Ac,envc,hNg,hNn,mc,dargs,fin⟩:=WB e1 hnm hun m hd
 have vc:=vc a4
 unfold vcR at vc
 split at vc
 next hdj hlen=>
  rw[HK] at vc;have hdj:=Xf hdj;have hlen:=bK hlen;have hvl:=jb dargs;simp only[bM,kW] at hvl;have hsz:vs.length=x.1.size:=ab;have hrs:=hr.ln;refine⟨by rw[hr.ps];exact hsz,?_⟩;have hrw:(r.params.zip vs.toArray).foldl (λtmps (t,a)=>tmps.setIfInBounds t a) r.tmps=(x.1.toList.zip vs).foldl (λtm p=>tm.setIfInBounds p.1 p.2) r.tmps:=by
   rw[hr.ps,← Array.foldl_toList];simp
  rw[hrw,hr.as,hr.bd];generalize hT:(x.1.toList.zip vs).foldl (λtm p=>tm.setIfInBounds p.1 p.2) r.tmps=T;have hTs:T.size=r.tmps.size:=by rw[← hT];exact Yq
  have hlt:=(Array.getElem?_eq_some_iff.1 hl).1;have hNl:¬ Nc.n l:=λhn=>by
   have ⟨q,b,k,h1,h2⟩:=hNn l hn;exact (m.live_blk h1 h2).1.norec.1 _ hl
  have hF:∀ i,aA Ac envc w (d9 (Kg ps dd n (x.1.toList++ts)).sl i) (T.getD i undef):=by
   have h1:=A7 x.1.size dargs;have h2:=B8 x.1.size dargs;rw[cy8 hsz] at h1;rw[List.drop_left' hsz] at h2;have hal:((g9 ps dd 0 0).take x.1.size).length=x.1.toList.length:=by simp;omega
   have:=VY (ps:=x.1.toList) (ts:=ts) (ss:=(g9 ps dd 0 0).take x.1.size) (rs:=(g9 ps dd 0 0).drop x.1.size) (sl:=p9 [] n) hal;rw[kP] at this;simp only[Kg,this];refine YC ts _ _ T ?_ ?_
   .have:(ts.map λt=>T.getD t undef)=ts.map λt=>r.tmps.getD t undef:=List.map_congr_left λt ht=>by
     rw[← hT];refine Td λp hp e=>hdj t ht ?_;rw[← e];exact (List.of_mem_zip hp).1
    rw[this];exact h2
   .rw[← hT];refine S7 x.1.toList _ vs _ _ (by rw[Fl];exact hrs) h1 λi=>?_;obtain hj|⟨s,hs,_⟩:=KP (l:=[]) (n:=n) (i:=i)
    .rw[hj];simp only[aA]
    .simp at hs
  refine roundIn_of_wpIn trivial (n:=0) ?_;refine Na (ro:=some l) (N0:=Nc) ⟨hs,hNg.trans hG⟩ ir x.2.1 (λy hy=>by rw[show jy x.2.1=[] from dP Prod.fst hx] at hy;cases hy) _ _ _ Ac envc _ w vc ⟨mc,?_,hF,aP⟩ ?_
  .simp only[St.fs,Kg,XS,Fl,hTs];exact hrs
  intro e S1 A1 env1 a1 w1 hK t1 x1;cases e with
  | exit i=>exact hK.elim
  | ret=>exact hK.elim
  | normal =>
  simp only[fW] at hK;split at hK
  .rename_i hY;have ⟨y1,y2⟩:=cd0.1 hY;have hl1:=(t1.m.fr l hlt hNl).trans hl;refine⟨_,run_beginRound hl1 hr.st,?_⟩;have p1:=Du (A:=A1) (env:=env1) (o' := .loop {r with state := .busy}) hl1 rfl rfl;have m2:=t1.m.putB hl1 rfl rfl (o' := .loop {r with state := .busy}) (.inr (Dd y2)) (wb:=w.putObj l (.loop {r with state := .busy})) rfl rfl rfl rfl az (λj hj=>cd5 hj) (λ_=>ck4 hlt);have t2:gR (w.putObj l (.loop {r with state := .busy})) Nc A1 env1 S1.fs a1 (w1.putObj l (.loop {r with state := .busy})) :=
    ⟨m2,t1.len,λi=>DE p1 _ _ (.inr (Qf y1 i)) (t1.f i),rE.mono (λk hk=>by
     rw[cd5 (by rintro rfl;rw[hl1] at hk;cases hk)];exact hk) (t1.dfr.base az)⟩
   refine Na (ro:=some l) (N0:=Nc) ⟨hs,hNg.trans hG⟩ ir x.2.2 (λy hy=>by rw[show jy x.2.2=[] from dP Prod.snd hx] at hy;cases hy) _ _ _ A1 env1 _ _ hK t2 ?_;intro e S3 A3 env3 a3 w3 hK t3 x3;cases e with
   | exit i=>exact hK.elim
   | ret=>exact hK.elim
   | normal =>
   simp only[R0] at hK;split at hK
   .rename_i hY3;have ⟨z1,z2⟩:=cd0.1 hY3;unfold AI at hK;simp only[yP] at hK;split at hK
    .rename_i y f1 ow z f2 ow2 h1 h2;split at hK
     .rename_i h3 h4;have hl3:=(t3.m.fr l (by simpa using hlt) hNl).trans (ck4 hlt);refine⟨_,_,run_endRound none hl3,rfl,(y,z),hK,?_⟩;have hrr:({({r with state := .busy}:Loop) with state:=if (none:Option ck1).isNone then .ready else .done,pending:=none}:Loop)=r:=by
       have a:=hr.st;have b:=hr.pe;cases r;simp only at a b;subst a b;rfl
      rw[hrr];have p3:=Du (A:=A3) (env:=env3) (o' := .loop r) hl3 rfl rfl;have m4:=t3.m.putB hl3 rfl rfl (o' := .loop r) (.inr (Dd z2)) (wb:=w) rfl rfl rfl rfl az (λj hj=>(cd5 hj).symm) (λ_=>hl);have ⟨A',env',k1,k2,_⟩:=fin S3 A3 env3 _ m4 (((x1.trans p1.ext0).trans x3).trans p3.ext0) [] [] y f1 ow z f2 ow2 (by simp only[aM]) h1 h2 h3 h4;exact⟨A',env',k1,k2⟩
     .exact hK.elim
    .exact hK.elim
   .exact hK.elim
  .exact hK.elim
 .exact vc.elim
theorem Ct.okR(c:Ct){x:Array Tmp×ck1×ck1}{n:Nat}{ts:List Nat}(hx:(jy x.2.1,jy x.2.2)=([],[]))(hs:je P sp)(ir:P.follows .mixedOrders=bZ3)(an:bw c.ps->bL)(vc:Bg (Ct.vcR P sp c x n ts an)){r:Loop}(hr:vf n x r):Bw P sp.gl r ts (AV c.spec):=by
 intro base svs h d q e hp w0 N0 A env w vs l hG m hl hd
 obtain⟨d0,r1,r2,e0,e3,rfl⟩:=Q.run_bind _ _ _ e
 cases cA e3
 unfold Ct.spec at e0
 obtain⟨⟨dd,fz,bx,cx⟩,q1,q2,e1,e2,rfl⟩:=Q.run_bind _ _ _ e0
 split at e2
 case h_2=>cases e2
 rename_i hnm
 obtain⟨rfl,hun⟩:=Cq e2
 have ⟨h1,h2⟩:=R6 (λy=>qD (yR c.rs y.1 (c.out dd).1++qc c.ps y.2 (c.out dd).2)) hr hs ir (an dd) hx e1 hnm hun (λhw=>E4.1 vc.out dd hw (yD.2 hp)) hG m hl hd
 refine⟨h1,h2.mono ?_⟩
 rintro e' w' ⟨rfl,y,hy,A',env',k1,k2⟩
 have ⟨hy1,hy2⟩:=sJ.1 (yD.1 hy)
 have:y=c.out dd:=Prod.ext (PD hy1) (vy hy2)
 subst this
 exact⟨_,rfl,(),A',env',aP,k1,k2,by simp only[Dl.val,Dl.setV,aA]⟩
theorem Cn.okR(c:Cn){x:Array Tmp×ck1×ck1}{n:Nat}{ts:List Nat}(hx:(jy x.2.1,jy x.2.2)=([],[]))(hs:je P sp)(ir:P.follows .mixedOrders=bZ3)(an:bw c.ps->bL)(vc:Bg (Cn.vcR P sp c x n ts an)){r:Loop}(hr:vf n x r):Bw P sp.gl r ts (AV c.spec):=by
 intro base svs h d q e hp w0 N0 A env w vs l hG m hl hd
 obtain⟨d0,r1,r2,e0,e3,rfl⟩:=Q.run_bind _ _ _ e
 cases cA e3
 unfold Cn.spec at e0
 obtain⟨⟨dd,fz,bx,cx⟩,q1,q2,e1,e2,rfl⟩:=Q.run_bind _ _ _ e0
 split at e2
 case h_2=>cases e2
 rename_i hnm
 obtain⟨rfl,hun⟩:=Cq e2
 have ⟨h1,h2⟩:=R6 (c.post dd) hr hs ir (an dd) hx e1 hnm hun (λhw=>E4.1 vc.out dd hw (yD.2 hp)) hG m hl hd
 refine⟨h1,h2.mono ?_⟩
 rintro e' w' ⟨rfl,y,hy,A',env',k1,k2⟩
 refine⟨_,rfl,y,A',env',hy,?_,k2,by simp only[Dl.val,Dl.setV,aA]⟩
 show Mod w0 N0 A' env' (dJ ((BM c.ps c.rs base fz bx cx).map λp=>(p.1,p.2 y)) h) w'
 rw[MY];exact k1
end
end Go.SX
namespace Go.RS
open Go.SX Go.Proofs
abbrev kA:Type:=Int×Int×Int×Int×Int×Int×Int×Int
def U8(k:Int):Int:=bits .and .u64 (ca1.wrap k) 31
def Jt(x k:Int):Int:=bits .or .u32 (fX .u32 x (U8 k)) (eZ .u32 x (ca1.wrap (32-U8 k)))
def m6(x n:Int):Int:=Jt x (bZ4.wrap (0-n))
def aC2:Ct:=⟨[.val dw,.val cI],[.val dw],λ_=>[],λd=>((Jt d.1 d.2.1,()),())⟩
theorem am0:
 ∀(a b:Int),aO a/\ai (aq b)->True->am (bits cc6 ca1 (bZ5 ca1 b) 31) (0<=bZ5 ca1 (32 -bits cc6 ca1 (bZ5 ca1 b) 31)) (bits ck2 bZ7 (fX bZ7 a (bits cc6 ca1 (bZ5 ca1 b) 31)) (eZ bZ7 a (bZ5 ca1 (32 -bits cc6 ca1 (bZ5 ca1 b) 31)))=Jt a b):= by
  delta aq aK aO am ai
  intro x k _ _
  refine⟨(MB _ .u64 _ _).1,?_,rfl⟩
  rw[IntKind.wrap_u64];omega
theorem aw5:aC 248 aC2.spec:=aF Tryz.func248 aD aU am0
def aT4:Ct:=⟨[.val dw,.val cI],[.val dw],λ_=>[],λd=>((m6 d.1 d.2.1,()),())⟩
theorem aM0:
 ∀(a b:Int),aO a/\ai (aq b)->True->Jt a (ao (0 -b))=m6 a b:= by
  delta ao aq aK aO ai
  exact λ_ _ _ _=>rfl
theorem Tt:aC 204 aT4.spec:=aF Tryz.func204 (ap aD aw5) aU aM0
def FW(i:Int)(w l:ad):ad:=l.foldl (λw x=>w.set (it i) (bits .or .u32 (fX .u32 (Om w (it i) Sk) 8) (bZ7.wrap x))) w
def sU(b:ad):Nat->ad
 | 0=>replicate 64 0
 | k+1=>FW k (sU b k) (bY b (4*k) (4*k+4))
def Mt(w:ad)(i:Int):Int:=bZ7.wrap (bZ7.wrap (bZ7.wrap (Om w (it (bZ4.wrap (i-16))) 0+bits .xor .u32 (bits .xor .u32 (m6 (Om w (it (bZ4.wrap (i-15))) 0) 7) (m6 (Om w (it (bZ4.wrap (i-15))) 0) 18)) (eZ .u32 (Om w (it (bZ4.wrap (i-15))) 0) 3))+Om w (it (bZ4.wrap (i-7))) 0)+bits .xor .u32 (bits .xor .u32 (m6 (Om w (it (bZ4.wrap (i-2))) 0) 17) (m6 (Om w (it (bZ4.wrap (i-2))) 0) 19)) (eZ .u32 (Om w (it (bZ4.wrap (i-2))) 0) 10))
def zo(w:ad):Nat->ad
 | 0=>w
 | k+1=>(zo w k).set (16+k) (Mt (zo w k) ((16+k:Nat):Int))
theorem bb1{w:ad}{i:Int}(h:16<=i):zo w (it (i+1-16))=(zo w (it (i-16))).set (it i) (Mt (zo w (it (i-16))) i):=by
 obtain⟨k,rfl⟩:∃ k,i=((16+k:Nat):Int):=⟨it (i-16),ab⟩
 rw[show it (((16+k:Nat):Int)+1-16)=k+1 by omega,show it (((16+k:Nat):Int)-16)=k by omega]
 rfl
theorem bk8{b:ad}{i:Int}(h:0<=i):sU b (it (i+1))=FW i (sU b (it i)) (bY b (it (4*i)) (it (4*i+4))):=by
 obtain⟨k,rfl⟩:=rx h
 rw[show it ((k:Int)+1)=k+1 by omega,show it (4*(k:Int))=4*k by omega,show it (4*(k:Int)+4)=4*k+4 by omega]
 rfl
def tP(b:ad):ad:=zo (sU b 16) (be b-16)
def Uj:Ct:=⟨[.val (.sl bm)],[.arr .u32 64],λd=>[be d.1=64],λd=>((tP d.1,()),())⟩
def be2:bw Uj.ps->bL:=(λd=>{loops:=(bu 3 (λS=>{ι:=Int×ad,qn:=fH,μ:=λi=>it (16-i.1),inv:=λi=>0<=i.1/\i.1<=16/\i.2=sU d.1 (it i.1),keep:=[0,2,3],slots:=λi=>[(12,.int .i64 i.1)],keepN:=[48],names:=λi=>[(64,.live (.ary 318 .u32 64 i.2))]}) (bu 6 (λS=>{ι:=Int×ad×ad,qn:=oB,μ:=λi=>it (4-i.1),inv:=λi=>0<=i.1/\i.1<=4/\i.2.1=bY d.1 (it (4*S.i 12)) (it (4*S.i 12+4))/\i.2.2=FW (S.i 12) (sU d.1 (it (S.i 12))) (i.2.1.take (it i.1)),keep:=[0,2,3,4,12],slots:=λi=>[(21,.dsl bm i.2.1),(22,.int .i64 4),(23,.int .i64 i.1)],keepN:=[48],names:=λi=>[(64,.live (.ary 318 .u32 64 i.2.2))]}) (bu 12 (λS=>{ι:=Int×ad,qn:=fH,μ:=λi=>it (64-i.1),inv:=λi=>16<=i.1/\i.1<=64/\i.2=zo (sU d.1 16) (it (i.1-16)),keep:=[2,3],slots:=λi=>[(7,.int .i64 i.1)],keepN:=[48],names:=λi=>[(64,.live (.ary 318 .u32 64 i.2))]}) cC)))})
def KI(a:Int)(b c:ad)(d:Int)(e:ad):=bt a 4 (b=fU c (4*d) (4*d+4)) (e=FW d (sU c (it d)) (take (it a) b))
def Bx(a b:ad):=replicate 64 (0:Int)=replicate 64 (0:Int)/\ai (a=b)
def Ho(a:Int)(b c:ad):=16<=a/\a<=64/\b=zo (sU c 16) (it (a -16))
theorem an5:
 ∀(a:ad),ai (aQ a)->be a=64->(∃(b:Int) (c:ad),am b (b<=16) (c=sU a (it b))/\a=a/\0=b/\Bx (replicate 64 0) c)/\ ∀(b:Int)(c:ad),am b (b<=16) (c=sU a (it b))->ar (ax b 16) (bt (ao (4*b)) (ao (ao (4*b)+4)) (ao (ao (4*b)+4)<=ac a) ((∃(d:Int) (e f:ad),KI d e a b f/\a=a/\bp b b (mR a (ao (4*b)) 4=e) (ac (mR a (ao (4*b)) 4)=4/\0=d/\Bx c f))/\ ∀(d:Int)(e f:ad),KI d e a b f->ar (ax d 4) (am d (d<ac e) (bJ b (↑((64:Nat)):Int) (it b<64) (am 8 (0<=b) (b<(↑((64:Nat)):Int)/\it b<64/\ ∃(g:Int) (h i:ad),KI g h a b i/\bj 4 g d/\a=a/\bp b b (e=h) ((4:Int)=(4:Int)/\bf d g/\Bx (set f (it b) (bits ck2 bZ7 (fX bZ7 (Om f (it b) 0) 8) (bZ5 bZ7 (ae e d)))) i))))) (∃(g:Int) (h:ad),am g (g<=16) (h=sU a (it g))/\bj 16 g b/\a=a/\bf
 b g/\Bx f h))) ((∃(d:Int) (e:ad),Ho d e a/\16=d/\Bx c e)/\ ∀(d:Int)(e:ad),Ho d e a->ar (ax d 64) (bJ (ao (d -15)) (↑((64:Nat)):Int) (jL (d -15)<64) (bJ (ao (d -2)) (↑((64:Nat)):Int) (jL (d -2)<64) (am 3 ((0:Int)<=(10:Int)) (bJ (ao (d -16)) (↑((64:Nat)):Int) (jL (d -16)<64) (bJ (ao (d -7)) (↑((64:Nat)):Int) (jL (d -7)<64) (bJ d (↑((64:Nat)):Int) (it d<64) (∃(f:Int) (g:ad),Ho f g a/\bj 64 f d/\bf d f/\Bx (set e (it d) (bZ5 bZ7 (bZ5 bZ7 (bZ5 bZ7 (Om e (jL (d -16)) 0+bits cd6 bZ7 (bits cd6 bZ7 (m6 (Om e (jL (d -15)) 0) 7) (m6 (Om e (jL (d -15)) 0) 18)) (eZ bZ7 (Om e (jL (d -15)) 0) 3))+Om e (jL (d -7)) 0)+bits cd6 bZ7 (bits cd6 bZ7 (m6 (Om e (jL (d -2))
 0) 17) (m6 (Om e (jL (d -2)) 0) 19)) (eZ bZ7 (Om e (jL (d -2)) 0) 10)))) g))))))) (e=tP a)):= by
  delta ae ac ao aQ bp bj am fU bt ai bf cN KI bJ Bx jL mR ax Ho bn
  rintro x-hx
  have hx:=hx
  refine⟨⟨0,_,⟨ab,ab,rfl⟩,aI⟩,?_⟩
  rintro i w ⟨i0,i1,rfl⟩
  refine ci (λh=>?_) (λh=>?_)
  .rw[aG (n:=4*i) ab ab,aG (n:=4*i+4) ab ab]
   have hl:be (bY x (it (4*i)) (it (4*i+4)))=4:=by simp[bY];omega
   refine⟨ab,ab,ab,⟨0,_,_,⟨ab,ab,rfl,rfl⟩,?_⟩,?_⟩
   .rw[hl];exact aI
   rintro j b w ⟨j0,j1,rfl,rfl⟩
   refine ci (λk=>?_) (λk=>?_)
   .refine⟨ab,ab,ab,ab,ab,ab,ab,ab,ab,j+1,_,_,⟨ab,ab,rfl,rfl⟩,ab,?_⟩
    (repeat refine ik ?_)
    refine⟨?_,aP⟩
    rw[qZ j0 ab]
    unfold FW
    rw[lT];rfl
   .refine⟨i+1,_,⟨ab,ab,rfl⟩,ab,?_⟩
    (repeat refine ik ?_)
    refine⟨?_,aP⟩
    rw[gN ab,bk8 i0]
  .have e:it i=16:=ab
   refine⟨⟨16,_,⟨ab,ab,rfl⟩,?_⟩,?_⟩
   .rw[e];exact aI
   rintro i w ⟨i0,i1,rfl⟩
   refine ci (λh=>?_) (λh=>?_)
   .have e:=bb1 (w:=sU x 16) i0
    unfold Mt at e
    have e16:bZ4.wrap (i-16)=i-16:=aG ab ab
    have e15:bZ4.wrap (i-15)=i-15:=aG ab ab
    have e2:bZ4.wrap (i-2)=i-2:=aG ab ab
    have e7:bZ4.wrap (i-7)=i-7:=aG ab ab
    refine⟨ab,ab,ab,ab,ab,ab,ab,ab,ab,ab,ab,ab,ab,ab,ab,ab,ab,i+1,_,⟨ab,ab,rfl⟩,ab,?_⟩
    (repeat refine ik ?_)
    exact⟨e.symm,aP⟩
   .unfold tP;rw[show it (i-16)=be x-16 by omega]
theorem aA8:aC 203 Uj.spec:=aF Tryz.func203 (ap aD Tt) be2 an5
def YZ(k w:Int)(x:kA):Int:=bZ7.wrap (bZ7.wrap (bZ7.wrap (bZ7.wrap (x.2.2.2.2.2.2.2+bits .xor .u32 (bits .xor .u32 (m6 x.2.2.2.2.1 6) (m6 x.2.2.2.2.1 11)) (m6 x.2.2.2.2.1 25))+bits .xor .u32 (bits .and .u32 x.2.2.2.2.1 x.2.2.2.2.2.1) (bits .and .u32 (F2 .u32 x.2.2.2.2.1) x.2.2.2.2.2.2.1))+k)+w)
def cpR(k w:Int)(x:kA):kA:=(bZ7.wrap (YZ k w x+bZ7.wrap (bits .xor .u32 (bits .xor .u32 (m6 x.1 2) (m6 x.1 13)) (m6 x.1 22)+bits .xor .u32 (bits .xor .u32 (bits .and .u32 x.1 x.2.1) (bits .and .u32 x.1 x.2.2.1)) (bits .and .u32 x.2.1 x.2.2.1))),x.1,x.2.1,x.2.2.1,bZ7.wrap (x.2.2.2.1+YZ k w x),x.2.2.2.2.1,x.2.2.2.2.2.1,x.2.2.2.2.2.2.1)
def Cw(w:ad)(s:kA):Nat->kA
 | 0=>s
 | i+1=>cpR (pickI (ints cKeys keysV) i) (Om w i 0) (Cw w s i)
def aM2(s x:kA):kA:=(bZ7.wrap (s.1+x.1),bZ7.wrap (s.2.1+x.2.1),bZ7.wrap (s.2.2.1+x.2.2.1),bZ7.wrap (s.2.2.2.1+x.2.2.2.1),bZ7.wrap (s.2.2.2.2.1+x.2.2.2.2.1),bZ7.wrap (s.2.2.2.2.2.1+x.2.2.2.2.2.1),bZ7.wrap (s.2.2.2.2.2.2.1+x.2.2.2.2.2.2.1),bZ7.wrap (s.2.2.2.2.2.2.2+x.2.2.2.2.2.2.2))
def AX(s:kA)(b:ad):kA:=aM2 s (Cw (tP b) s (be b))
def Y3:Ct:=⟨[.agg cSt8,.val (.sl bm)],[.agg cSt8],λd=>[be d.2.1=64],λd=>((AX d.1 d.2.1,()),())⟩
def br2:bw Y3.ps->bL:=(λd=>{loops:=(bu 4 (λS=>{ι:=Int×ad×bY6,qn:=oB,μ:=λi=>it (64-i.1),inv:=λi=>0<=i.1/\i.1<=64/\i.2.1=tP d.2.1/\i.2.2=Cw (tP d.2.1) d.1 (it i.1),keep:=[2,4,5,6,17],slots:=λi=>[(18,.int .i64 i.1)],keepN:=[48,80],names:=λi=>[(96,.live (.ary 318 .u32 64 i.2.1)),(112,.live (.cells 257 (cF cSt8 i.2.2)))]}) cC),unr:=λn=>match n with|12=>9|_=>0,nms:=[11]})
def Eo:=ints (Sigma.fst (cE3 cKeys keysV)) (Sigma.snd (cE3 cKeys keysV))
theorem bq9:
 ∀(a:kA)(b:ad),CT.wf cSt8 a/\ai (aQ b)->be b=64->be b=64/\ ∀(c:ad),c=tP b->(∃(d:Int) (e:ad) (f:kA),bt d 64 (e=tP b) (f=Cw (tP b) a (it d))/\Eo=Eo/\0=d/\aZ a.1 a.2.1 a.2.2.1 a.2.2.2.1 (a.2.2.2.2.1=a.2.2.2.2.1) (aZ a.2.2.2.2.2.1 a.2.2.2.2.2.2.1 a.2.2.2.2.2.2.2 0 ((0:Int)=(0:Int)) (aZ 0 0 0 0 ((0:Int)=(0:Int)) ((0:Int)=(0:Int)/\c=e/\bn a.1 f.1 a.2.1 f.2.1 (a.2.2.1=f.2.2.1) (bn a.2.2.2.1 f.2.2.2.1 a.2.2.2.2.1 f.2.2.2.2.1 (a.2.2.2.2.2.1=f.2.2.2.2.2.1) (a.2.2.2.2.2.2.1=f.2.2.2.2.2.2.1/\ai (a.2.2.2.2.2.2.2=f.2.2.2.2.2.2.2)))))))/\ ∀(d:Int)(e:ad)(f:kA),bt d 64 (e=tP b) (f=Cw (tP b) a (it d))->ar (ax d 64) (am d (d<(↑((64:Nat)):Int)) (bJ d (↑((64:Nat)):Int) (it d<64) (∀(g:Int),g=bZ5 bZ7 (bZ5 bZ7 (bZ5 bZ7 (bZ5 bZ7
 (f.2.2.2.2.2.2.2+bits cd6 bZ7 (bits cd6 bZ7 (m6 f.2.2.2.2.1 6) (m6 f.2.2.2.2.1 11)) (m6 f.2.2.2.2.1 25))+bits cd6 bZ7 (bits cc6 bZ7 f.2.2.2.2.1 f.2.2.2.2.2.1) (bits cc6 bZ7 (F2 bZ7 f.2.2.2.2.1) f.2.2.2.2.2.2.1))+SX.pickI Eo (it d))+Om e (it d) 0)-> ∃(h:Int) (i:ad) (j:kA),bt h 64 (i=tP b) (j=Cw (tP b) a (it h))/\bj 64 h d/\Eo=Eo/\bf d h/\aZ a.1 a.2.1 a.2.2.1 a.2.2.2.1 (a.2.2.2.2.1=a.2.2.2.2.1) (aZ a.2.2.2.2.2.1 a.2.2.2.2.2.2.1 a.2.2.2.2.2.2.2 0 ((0:Int)=(0:Int)) (aZ 0 0 0 0 ((0:Int)=(0:Int)) ((0:Int)=(0:Int)/\e=i/\bn (bZ5 bZ7 (g+bZ5 bZ7 (bits cd6 bZ7 (bits cd6 bZ7 (m6 f.1 2) (m6 f.1 13)) (m6 f.1 22)+bits cd6 bZ7 (bits cd6 bZ7 (bits cc6 bZ7 f.1
 f.2.1) (bits cc6 bZ7 f.1 f.2.2.1)) (bits cc6 bZ7 f.2.1 f.2.2.1)))) j.1 f.1 j.2.1 (f.2.1=j.2.2.1) (bn f.2.2.1 j.2.2.2.1 (bZ5 bZ7 (f.2.2.2.1+g)) j.2.2.2.2.1 (f.2.2.2.2.1=j.2.2.2.2.2.1) (f.2.2.2.2.2.1=j.2.2.2.2.2.2.1/\ai (f.2.2.2.2.2.2.1=j.2.2.2.2.2.2.2))))))))) ((bZ5 bZ7 (a.1+f.1),bZ5 bZ7 (a.2.1+f.2.1),bZ5 bZ7 (a.2.2.1+f.2.2.1),bZ5 bZ7 (a.2.2.2.1+f.2.2.2.1),bZ5 bZ7 (a.2.2.2.2.1+f.2.2.2.2.1),bZ5 bZ7 (a.2.2.2.2.2.1+f.2.2.2.2.2.1),bZ5 bZ7 (a.2.2.2.2.2.2.1+f.2.2.2.2.2.2.1),bZ5 bZ7 (a.2.2.2.2.2.2.2+f.2.2.2.2.2.2.2))=AX a b):= by
  delta ao aZ bN aQ bp bj am bt ai bf cN Eo bJ ax bn
  rintro d x-hx
  refine⟨hx,λw hw=>⟨⟨0,w,d,⟨ab,ab,hw,rfl⟩,aI⟩,?_⟩⟩
  rintro i w y ⟨i0,i1,rfl,hy⟩
  refine ci (λh=>?_) (λh=>?_)
  .refine⟨i0,h,i0,h,ab,λt ht=>⟨i+1,_,_,⟨ab,ab,rfl,rfl⟩,ab,rfl,aG ab ab,rfl,?_⟩⟩
   rw[show it (i+1)=it i+1 by omega,Cw,← hy]
   subst ht
   exact aI
  .rw[show it i=be x by have hx:=hx;omega] at hy
   rw[hy];rfl
theorem bJ3:aC 145 Y3.spec:=aF Tryz.func145 (ap (ap aD Tt) (Ct.named aA8)) br2 bq9
def yS(b:ad)(s:kA):Nat->kA
 | 0=>s
 | k+1=>AX (yS b s k) (bY b (64*k) (64*k+64))
def ai4:Ct:=⟨[.val (.sl bm),.val cI],[.fn 202 2,.box 22 (.dat (.sl bm)),.box 3 cI],λd=>[1<=d.2.1],λd=>(((),d.1,d.2.1,()),())⟩
theorem aJ7:
 ∀(a:ad)(b:Int),aQ a/\ai (aq b)->1<=b->ar (ax b 1) False (()=()/\a=a/\b=b):= by
  delta aq aK aQ ai ax
  rintro x n-h
  exact aw (λk=>by have k:=aX k;omega) (λ_=>⟨rfl,rfl,rfl⟩)
theorem bD3:aC 144 ai4.spec:=aF Tryz.func144 aD aU aJ7
def HQ:Cn:=⟨[.val (.sl bm),.box 257 cSt8],[],λd=>[be d.1=64],λd y=>y.2.1=AX d.2.1 d.1,λd _=>⟨((),AX d.2.1 d.1,()),rfl⟩⟩
def CV(r:Loop):Prop:=Bw Tryz.prog GL r [5] (AV HQ.spec)
theorem bW4:
 ∀(a:ad)(b:kA),aQ a/\ai (CT.wf cSt8 b)->be a=64->be a=64/\ ∀(c:kA),c=AX b a->c=AX b a:= by
  delta aQ ai
  exact λx d _ h=>⟨h,λ_ e=>e⟩
theorem ZV{r:Loop}(hr:vf (cy0 Tryz.f76) (Ic Tryz.f76) r):CV r:=Cn.okR HQ oS (ap aD (Ct.named bJ3)) ir aU (BG oS bW4) hr
def T3:Cn:=⟨[.yld [5] 1,.box 257 cSt8,.box 22 (.dat (.sl bm)),.box 3 cI],[],λd=>[CV d.1,be d.2.2.1%64=0,d.2.2.2.1=64],λd y=>y.2.1=yS d.2.2.1 d.2.1 (be d.2.2.1/64),λd _=>⟨((),yS d.2.2.1 d.2.1 (be d.2.2.1/64),d.2.2.1,d.2.2.2.1,()),rfl⟩⟩
def ae9:bw T3.ps->bL:=(λd=>{loops:=(bu 1 (λS=>{ι:=Int×bY6,qn:=fH,μ:=λi=>it (be d.2.2.1-i.1),inv:=λi=>0<=i.1/\i.1<=be d.2.2.1/\i.1%64=0/\i.2=yS d.2.2.1 d.2.1 (it i.1/64),keep:=[0,1,2],slots:=λi=>[(4,.int .i64 i.1)],keepN:=[1048577,1048578],names:=λi=>[(1048576,.live (.cells 257 (cF cSt8 i.2)))]}) cC)})
def IF(a:Int)(b:ad)(c d:kA):=bt a (ac b) (a%64=0) (c=yS b d (it a/64))
def CD(a:Int)(b:ad)(c:Int):=min a (ac (fU b c (ac b)))
theorem bn5:
 ∀(a:Go.Loop)(b:kA)(c:ad)(d:Int),True/\CT.wf cSt8 b/\aQ c/\ai (aq d)->CV a/\be c%64=0/\d=64->(∃(e:Int) (f:kA),IF e c f b/\a=a/\0=e/\gv c d (b.1=f.1) (bn b.2.1 f.2.1 b.2.2.1 f.2.2.1 (b.2.2.2.1=f.2.2.2.1) (bn b.2.2.2.2.1 f.2.2.2.2.1 b.2.2.2.2.2.1 f.2.2.2.2.2.1 (b.2.2.2.2.2.2.1=f.2.2.2.2.2.2.1) (ai (b.2.2.2.2.2.2.2=f.2.2.2.2.2.2.2)))))/\ ∀(e:Int)(f:kA),IF e c f b->ar (ax e (ac c)) (bt e (ac c) (ph c) (bt e (ao (e+CD d c e)) (kK (e+CD d c e)) (ao (e+CD d c e)<=ac c/\Bw Tryz.prog GL a [5] (AV (Cn.spec HQ))/\be (mR c e (CD d c e))=64/\ ∀(g:kA),g=AX f (mR c e (CD d c e))-> ∃(h:Int) (i:kA),IF h c i b/\bj (ac c) h e/\a=a/\ao (e+d)=h/\gv c d (g.1=i.1) (bn g.2.1 i.2.1 g.2.2.1 i.2.2.1 (g.2.2.2.1=i.2.2.2.1) (bn g.2.2.2.2.1 i.2.2.2.2.1 g.2.2.2.2.2.1 i.2.2.2.2.2.1
 (g.2.2.2.2.2.2.1=i.2.2.2.2.2.2.1) (ai (g.2.2.2.2.2.2.2=i.2.2.2.2.2.2.2))))))) (f=yS c b (be c/64)):= by
  delta ac ao aq aK aQ bj am fU bt ai gv kK cN mR ax bn IF CD ph
  rintro r d x n ⟨-,-,⟨hl,-⟩,-⟩⟨hr,hm,rfl⟩
  simp only[cb2] at hl
  refine⟨⟨0,d,⟨ab,ab,ab,rfl⟩,aI⟩,?_⟩
  rintro i e ⟨h0,h1,h2,he⟩
  refine ci (λk=>?_) (λk=>?_)
  .have q:min (64:Int) (be (bY x (it i) (it (be x:Int))):Int)=64:=by
    have:be (bY x (it i) (it (be x:Int)))=be x-it i:=by simp[bY]
    omega
   rw[q,aG (n:=i+64) ab ab]
   refine⟨h0,h1,ab,h0,ab,rfl,ab,hr,by simp[bY];omega,λf hf=>⟨i+64,f,⟨ab,ab,ab,?_⟩,ab,aI⟩⟩
   have hf:=hf
   rw[show it (i+64)/64=it i/64+1 by omega,yS,← he,show 64*(it i/64)=it i by omega,show it i+64=it (i+64) by omega]
   exact hf
  .rw[show it i=be x by omega] at he
   exact he
theorem aY7:aC 202 T3.spec:=lL Tryz.func202 (S8 (s:=AV HQ.spec) aD) ae9 bn5
def AA(b:ad):ad:=b++128::replicate (it ((55-(be b:Int))%64)) 0
def Cv(n:Int)(k:Nat):ad:=(range k).map λ(j:Nat)=>cc4.wrap (eZ .u64 (fX .u64 (ca1.wrap n) 3) (56-8*(j:Int)))
def Fp(b:ad):ad:=AA b++Cv (be b) 8
def yI(s:kA):Nat->ad
 | 0=>[]
 | k+1=>yI s k++[cc4.wrap (eZ .u32 (pickI (ints cSt8 s) k) 24),cc4.wrap (eZ .u32 (pickI (ints cSt8 s) k) 16),cc4.wrap (eZ .u32 (pickI (ints cSt8 s) k) 8),cc4.wrap (pickI (ints cSt8 s) k)]
def Bm(b:ad):kA:=yS (Fp b) startV8 (be (Fp b)/64)
def oG(b:ad):ad:=yI (Bm b) (8+be b-be b)
theorem PS(s:kA):∀ k,be (yI s k)=4*k
 | 0=>rfl
 | k+1=>by rw[yI,bM,PS s k];rfl
theorem Hu(b:ad):be (oG b)=32:=by unfold oG;rw[PS];omega
theorem YM(n:Int)(k:Nat):be (Cv n k)=k:=by unfold Cv;rw[kW,cn3]
theorem aN9(b:ad):(be (AA b):Int)=be b+1+(55-(be b:Int))%64:=by
 unfold AA;rw[bM,cX,vU];omega
def Wl:Ct:=⟨[.val (.sl bm)],[.own 5 bm],λd=>[(be d.1:Int)<=1099511627776],λd=>((oG d.1,()),())⟩
noncomputable def aN6:bw Wl.ps->bL:=(λd=>{loops:=(λn=>match n with|2=>some (λS=>{ι:=ad,μ:=λi=>it ((56-(be i:Int))%64),inv:=λi=>be d.1<be i/\i=d.1++128::replicate (be i-be d.1-1) 0/\(be i:Int)+(56-(be i:Int))%64=(be d.1:Int)+1+(55-(be d.1:Int))%64,keep:=[0,1,2],slots:=λi=>[(3,.own 524288 1)],names:=λi=>[(524288,.live (.row 5 bm i))]})|5=>some (λS=>{ι:=Int×ad,qn:=⟨λk_=>∀(i:Int)(ys:ad),k_ (i,ys),λk_ h_ i=>h_ i.1 i.2,λk_=>∃ (i:Int) (ys:ad),k_ (i,ys),λk_ ⟨i,ys,h_⟩=>⟨_,h_⟩⟩,μ:=λi=>it (i.1+8),inv:=λi => -8<=i.1/\i.1<=56/\i.1%8=0/\i.2=AA d.1++Cv (be d.1) (it ((56-i.1)/8)),keep:=[0,1,2],slots:=λi=>[(3,.own 524288 1),(4,.int .i64 i.1)],names:=λi=>[(524288,.live (.row 5 bm i.2))]})|14=>some (λS=>{ι:=Int×ad,qn:=⟨λk_=>∀(i:Int)(ys:ad),k_ (i,ys),λk_ h_ i=>h_ i.1 i.2,λk_=>∃ (i:Int) (ys:ad),k_ (i,ys),λk_ ⟨i,ys,h_⟩=>⟨_,h_⟩⟩,μ:=λi=>it (8-i.1),inv:=λi=>0<=i.1/\i.1<=8/\i.2=yI (Bm d.1) (it i.1),keep:=[0,1,2,42],slots:=λi=>[(7,.own 524288 1),(43,.int .i64 i.1)],names:=λi=>[(524288,.live (.row 5 bm i.2))]})|_=>none),ys:=[5],ln:=cy0 Tryz.f76,lo:=CV})
def H5(a b:ad):=be a<be b/\b=a++128::replicate (be b -be a -1) 0/\ac b+(56 -ac b)%64=ac a+1+(55 -ac a)%64
def J4(a:Int)(b c:ad):=(-8)<=a/\a<=56/\a%8=0/\b=AA c++Cv (ac c) (it ((56 -a)/8))
def LS(a b c d e:Int)(f:ad)(g:Int):=bZ5 cc4 (eZ bZ7 (SX.pickI (kD a b c d e f) (it g)) 8)::bz (bZ5 cc4 (SX.pickI (kD a b c d e f) (it g)))
theorem bi7:
 ∀(a:ad),sM a (aT a) (gp a (bz 128)/\(∃(b:ad),H5 a b/\a=a/\ai (a++bz 128=b))/\ ∀(b:ad),H5 a b->(64:Int)≠(0:Int)/\ar (cP (Int.tmod (ac b) 64) 56) (gp b (bz 0)/\ ∃(c:ad),H5 a c/\cN ((56 -ac c)%64) ((56 -ac b)%64)/\a=a/\ai (b++bz 0=c)) ((∃(c:Int) (d:ad),J4 c d a/\a=a/\56=c/\ai (b=d))/\ ∀(c:Int)(d:ad),J4 c d a->ar (fp c) (am 3 (0<=c) (gp d (bz (bZ5 cc4 (eZ ca1 (fX ca1 (bZ5 ca1 (ac a)) 3) c)))/\ ∃(e:Int) (f:ad),J4 e f a/\cN (e+8) (c+8)/\a=a/\ao (c -8)=e/\ai (d++bz (bZ5 cc4 (eZ ca1 (fX ca1 (bZ5 ca1 (ac a)) 3) c))=f))) ((1:Int)<=(64:Int)/\ ∀(e:Go.Loop),CV e->CV e/\be d%64=0/\(64:Int)=(64:Int)/\ ∀(f:kA)(g:ad)(h:Int),f=yS d
 (1779033703,3144134277,1013904242,2773480762,1359893119,2600822924,528734635,1541459225) (be d/64)->(∃(i:Int) (j:ad),am i (i<=8) (j=yI (Bm a) (it i))/\a=a/\aZ f.1 f.2.1 f.2.2.1 f.2.2.2.1 (f.2.2.2.2.1=f.2.2.2.2.1) (bN f.2.2.2.2.2.1 f.2.2.2.2.2.2.1 f.2.2.2.2.2.2.2 (0=i) (ai (j=[]))))/\ ∀(i:Int)(j:ad),am i (i<=8) (j=yI (Bm a) (it i))->ar (ax i 8) (am i (i<(↑((8:Nat)):Int)) (am 24 ((0:Int)<=(16:Int)) (am 8 (gp j (bZ5 cc4 (eZ bZ7 (SX.pickI (kD f.1 f.2.1 f.2.2.1 f.2.2.2.1 f.2.2.2.2.1 (f.2.2.2.2.2.1::f.2.2.2.2.2.2.1::bz f.2.2.2.2.2.2.2)) (it i)) 24)::bZ5 cc4 (eZ bZ7 (SX.pickI (kD f.1 f.2.1 f.2.2.1 f.2.2.2.1 f.2.2.2.2.1 (f.2.2.2.2.2.1::f.2.2.2.2.2.2.1::bz f.2.2.2.2.2.2.2)) (it i)) 16)::LS f.1 f.2.1 f.2.2.1 f.2.2.2.1 f.2.2.2.2.1 (f.2.2.2.2.2.1::f.2.2.2.2.2.2.1::bz f.2.2.2.2.2.2.2)
 i)) (∃(k:Int) (l:ad),am k (k<=8) (l=yI (Bm a) (it k))/\bj 8 k i/\a=a/\aZ f.1 f.2.1 f.2.2.1 f.2.2.2.1 (f.2.2.2.2.1=f.2.2.2.2.1) (bN f.2.2.2.2.2.1 f.2.2.2.2.2.2.1 f.2.2.2.2.2.2.2 (bf i k) (ai (j++bZ5 cc4 (eZ bZ7 (SX.pickI (kD f.1 f.2.1 f.2.2.1 f.2.2.2.1 f.2.2.2.2.1 (f.2.2.2.2.2.1::f.2.2.2.2.2.2.1::bz f.2.2.2.2.2.2.2)) (it i)) 24)::bZ5 cc4 (eZ bZ7 (SX.pickI (kD f.1 f.2.1 f.2.2.1 f.2.2.2.1 f.2.2.2.2.1 (f.2.2.2.2.2.1::f.2.2.2.2.2.2.1::bz f.2.2.2.2.2.2.2)) (it i)) 16)::LS f.1 f.2.1 f.2.2.1 f.2.2.2.1 f.2.2.2.2.1 (f.2.2.2.2.2.1::f.2.2.2.2.2.2.1::bz f.2.2.2.2.2.2.2) i=l))))))) (j=oG a)))):= by
  delta ac ao aZ bN aQ bp aT bj gp am bP bz ai H5 bf kD cN fp cP J4 ax LS bn sM
  rintro x ⟨⟨hl,-⟩,-⟩ h
  have hP:=aN9 x
  refine⟨h,by simp only[eI];omega,⟨x++[128],⟨?_,?_,?_⟩,aI⟩,?_⟩
  .simp only[bM,eI];omega
  .simp only[bM,eI,nI,cp7,List.replicate_zero]
  .simp only[bM,eI];omega
  rintro y ⟨h0,h1,h2⟩
  rw[Ce ab]
  refine⟨ab,aw (λk=>?_) (λk=>?_)⟩
  .have k:=jC k
   refine⟨by simp only[eI];omega,y++[0],⟨?_,?_,?_⟩,?_,aI⟩
   .simp only[bM,eI];omega
   .rw[bM,eI,show be y+1-be x-1=(be y-be x-1)+1 by omega,List.replicate_succ',← kO,← fV,← h1]
   .simp only[bM,eI];omega
   .simp only[bM,eI];omega
  have k:=jx k
  have hy:y=AA x:=by
   rw[h1];unfold AA
   rw[show be y-be x-1=it ((55-(be x:Int))%64) by omega]
  subst hy
  refine⟨⟨56,_,⟨ab,ab,ab,(iX _).symm⟩,aI⟩,?_⟩
  rintro i y ⟨i0,i1,i2,rfl⟩
  refine aw (λk=>?_) (λk=>?_)
  .have k:=aX k
   have hn:=YM (be x) (it ((56-i)/8))
   refine⟨ab,k,by simp only[bM,eI,hn];omega,i-8,_,⟨ab,ab,ab,rfl⟩,ab,rfl,aG ab ab,?_,aP⟩
   rw[show it ((56-(i-8))/8)=it ((56-i)/8)+1 by omega,fV]
   congr 1
   unfold Cv
   rw[mZ,kJ,List.map_singleton,show (56:Int)-8*(it ((56-i)/8):Int)=i by omega]
  have k:=bg k
  have e:it ((56-i)/8)=8:=ab
  rw[e,show AA x++Cv (be x) 8=Fp x from rfl]
  have hv:be (Fp x)%64=0:=by unfold Fp;rw[bM,YM];omega
  refine⟨ab,λr hr=>⟨hr,hv,rfl,λs _ _ hs=>⟨⟨0,[],⟨ab,ab,rfl⟩,aI⟩,?_⟩⟩⟩
  have hs:s=Bm x:=hs
  rintro j z ⟨j0,j1,rfl⟩
  have hz:=PS (Bm x) (it j)
  refine ci (λk=>?_) (λk=>?_)
  .refine⟨j0,k,ab,ab,ab,?_,j+1,_,⟨ab,ab,rfl⟩,ab,?_⟩
   .simp only[cX,cb8];omega
   (repeat refine ik ?_)
   rw[show it (j+1)=it j+1 by omega,yI,← hs]
   exact⟨rfl,aP⟩
  .unfold oG
   rw[show it j=8+be x-be x by omega]
theorem IK:aC 76 Wl.spec:=Ct.okY _ Tryz.func76 (x:=Ic Tryz.f76) oS (ap (ap (ap aD tj) bD3) aY7) ir aN6 (λ_ _ hr=>ZV hr) (BG oS bi7)
def uW(k:ad)(c:Int):ad:=(range 64).map λi=>bits .xor .u8 (if i<be k then Om k i Sk else 0) c
def qW(k b:ad):ad:=oG (uW k 92++oG (uW k 54++b))
theorem PL(k:ad)(c:Int):be (uW k c)=64:=by unfold uW;rw[kW,cn3]
theorem S5(k b:ad):be (qW k b)=32:=Hu _
theorem K3{a k:ad}{c v i:Int}(h0:0<=i)(h1:i<be a)(h2:i<64)(h:a.take (it i)=(uW k c).take (it i))(hv:v=bits .xor .u8 (if it i<be k then Om k (it i) Sk else 0) c):(a.set (it i) v).take (it (i+1))=(uW k c).take (it (i+1)):=by
 have hl:=PL k c
 have h2':it i<64:=ab
 rw[qZ h0 (by rw[gd];exact h1),qZ h0 ab,List.take_set_of_le (dq _),h,lH ab,hv]
 congr 2
 unfold uW
 simp[List.getElem?_range h2',cq]
def X6:Ct:=⟨[.val (.sl bm),.val (.sl bm)],[.own 5 bm],λd=>[be d.1<=64,(be d.2.1:Int)<=1000000000],λd=>((qW d.1 d.2.1,()),())⟩
def by8:bw X6.ps->bL:=(λd=>{loops:=(bu 5 (λS=>{ι:=Int×ad×ad,qn:=oB,μ:=λi=>it (64-i.1),inv:=λi=>0<=i.1/\i.1<=64/\be i.2.1=64/\be i.2.2=64/\i.2.1.take (it i.1)=(uW d.1 54).take (it i.1)/\i.2.2.take (it i.1)=(uW d.1 92).take (it i.1),keep:=[0,1,2,3,4,5,6],slots:=λi=>[(14,.int .i64 i.1)],names:=λi=>[(96,.live (.ary 268 .u8 64 i.2.1)),(112,.live (.ary 268 .u8 64 i.2.2))]}) cC)})
def DR(a b:ad)(c:Int)(d:ad):=be a=64/\be b=64/\take (it c) a=take (it c) (uW d 54)/\take (it c) b=take (it c) (uW d 92)
def BT(a b:ad):=cc9 [a,b]
def QW(a b c d:ad):=fA (BT a b)/\aT (BT a b)/\ ∀(e:ad),e=oG (BT a b)->fA (BT c e)/\aT (BT c e)/\ ∀(f:ad),f=oG (BT c e)->f=qW d b
def O1(a:Int)(b:ad)(c d:Prop)(e f:ad):=bJ a (↑((64:Nat)):Int) (it a<64) (bJ a (↑((64:Nat)):Int) (it a<64) (∃(g:Int) (h i:ad),am g (g<=64) (DR h i g b)/\bj 64 g a/\c/\d/\bf a g/\e=h/\ai (f=i)))
def mb(a:ad):=be a<=64
theorem bo8:
 ∀(a b:ad),aQ a/\ai (aQ b)->mb a/\ac b<=1000000000->ar (ax 64 (ac a)) (aT a/\ ∀(c:ad),c=oG a->(∃(d:Int) (e f:ad),am d (d<=64) (DR e f d a)/\b=b/\0=d/\replicate 64 0=e/\replicate 64 0=f/\False)/\ ∀(d:Int)(e f:ad),am d (d<=64) (DR e f d a)->ar (ax d 64) False (QW e b f a)) ((∃(c:Int) (d e:ad),am c (c<=64) (DR d e c a)/\a=a/\b=b/\0=c/\replicate 64 0=d/\ai (replicate 64 0=e))/\ ∀(c:Int)(d e:ad),am c (c<=64) (DR d e c a)->ar (ax c 64) (ar (ax c (ac a)) (am c (c<ac a) (O1 c a (a=a) (b=b) (set d (it c) (bits cd6 cc4 (ae a c) 54)) (set e (it c) (bits cd6 cc4 (ae a c) 92)))) (O1 c a (a=a) (b=b) (set d (it c) (bits cd6 cc4 0 54)) (set e (it c) (bits cd6 cc4 0 92)))) (QW d b e a)):= by
  delta ae ac ao aQ aT bj am DR fA ai QW bf O1 cN bJ ax mb BT
  rintro x y-⟨h1,h2⟩
  refine aw (λk=>by have k:=aX k;omega) (λ_=>⟨⟨0,_,_,⟨ab,ab,vU ..,vU ..,rfl,rfl⟩,aI⟩,?_⟩)
  rintro i a b ⟨i0,i1,ha,hb,ta,tb⟩
  refine ci (λk=>?_) (λk=>?_)
  .refine ci (λm=>?_) (λm=>?_)
   .have ea:=K3 i0 ab ab ta (v:=bits .xor .u8 (Om x (it i) Sk) 54) (by rw[aj ab])
    have eb:=K3 i0 ab ab tb (v:=bits .xor .u8 (Om x (it i) Sk) 92) (by rw[aj ab])
    exact⟨i0,m,i0,k,ab,i0,k,ab,i+1,_,_,⟨ab,ab,(gd ..).trans ha,(gd ..).trans hb,ea,eb⟩,ab,rfl,rfl,aG ab ab,rfl,rfl,aP⟩
   .have ea:=K3 i0 ab ab ta (v:=bits .xor .u8 (0) 54) (by rw[ah ab])
    have eb:=K3 i0 ab ab tb (v:=bits .xor .u8 (0) 92) (by rw[ah ab])
    exact⟨i0,k,ab,i0,k,ab,i+1,_,_,⟨ab,ab,(gd ..).trans ha,(gd ..).trans hb,ea,eb⟩,ab,rfl,rfl,aG ab ab,rfl,rfl,aP⟩
  .have la:=PL x 54
   have lb:=PL x 92
   rw[gN ab,gN ab] at ta tb
   subst ta tb
   simp only[List.flatten_cons,List.flatten_nil,iX,bM]
   refine⟨ab,ab,?_⟩
   rintro z rfl
   have:=Hu (uW x 54++y)
   refine⟨ab,ab,?_⟩
   rintro u rfl
   rfl
theorem UO:aC 81 X6.spec:=aF Tryz.func81 (ap (ap aD (Ct.named IK)) ZC) by8 bo8
abbrev u4:CT := .pair cI (.pair cI (.pair cI (.sl bm)))
abbrev Wc:CT := .pair cI (.pair cI (.pair cI (.pair cI (.pair (.sl bm) (.sl cU)))))
abbrev X3:CT := .pair (.sl bm) (.pair cI cI)
theorem MG{b:ad}{n w:Int}:(be (putB b n w):Int)<=be b+it w:=by
 unfold putB
 split
 .simp only[cb8];omega
 .rw[bM,K8];omega
def aY4:Ct:=⟨[.val cI,.val cI],[.val .bool],λ_=>[],λd=>((bZ2 (0<=d.1)&&bZ2 (d.1<=d.2.1),()),())⟩
theorem bK0:
 ∀(a b:Int),dV a b->True-> ∀(c:Bool),c=fp a->(c->dA c)/\(c->c)/\br c (bZ2 (a<=b))=(fp a&&bZ2 (a<=b)):= by
  delta aq aK aJ br ai dV dA fp
  rintro x y - -
  (repeat (refine cL ?_;repeat refine cK ?_))
  cases bZ2 (0<=x) <;> rfl
theorem TX:aC 141 aY4.spec:=aF Tryz.func141 aD aU bK0
def aZ8:Ct:=⟨[.val cI,.val cI],[.val .bool],λ_=>[],λd=>((bZ2 (0<=d.1)&&bZ2 (d.1<=15)&&(bZ2 (0<=d.2.1)&&bZ2 (d.2.1<=63)),()),())⟩
def wM(a b:Int):=fp a&&bZ2 (a<=15)&&(fp b&&bZ2 (b<=63))
theorem aL3:
 ∀(a b:Int),dV a b->True->wR (fp a&&bZ2 (a<=15)) (fp b&&bZ2 (b<=63)) (wM a b):= by
  delta aq aK aJ br ai wM wR dV fp
  rintro x y - -
  (repeat (refine cL ?_;repeat refine cK ?_))
  cases bZ2 (0<=x)&&bZ2 (x<=15) <;> rfl
theorem OC:aC 74 aZ8.spec:=aF Tryz.func74 (ap aD TX) aU aL3
theorem Aj{a x b:Int}(h:a<=x/\x<=b):(!(bZ2 (a<=x)&&bZ2 (x<=b)))=false:=by rw[ft h.1,ft h.2];rfl
def VU:Ct:=⟨[.agg cU],[.val cI],λd=>[mo d.1],λ_=>((0,()),())⟩
def aK0:bw VU.ps->bL:=(λd=>{cuts:=(bu 9 (λS=>{ι:=Unit,inv:=λi=>True,keep:=[1,2,3],slots:=λi=>[(6,.bool bZ6)],keepN:=[32,64]}) (bu 14 (λS=>{ι:=Unit,inv:=λi=>True,keep:=[1,2,3],slots:=λi=>[(56,.bool bZ6)],keepN:=[32,64]}) cC))})
def xj(a b c d e f g:Int):=aZ a b c d (e=e) (aZ f g b c (d=d) (bp e f (g=g) True))
def Fy(a:Int):=!(fp a&&bZ2 (a<=2251799813685248))
def xc(a:Bool)(b c d e:Int)(f g:Prop):=l5 ((0:Int)=(0:Int)/\a=bZ6/\aZ b c d e f g)
def H0(a b:Bool)(c:Int):=a=bq b ( !(fp c&&bZ2 (c<=255)))
theorem bl3:
 ∀(a:av),ai (CT.wf cU a)->mo a->ar ( !wM a.1 a.2.1) (xc ( !wM a.1 a.2.1) a.1 a.2.1 a.2.2.1 a.2.2.2.1 (a.2.2.2.2.1=a.2.2.2.2.1) (bN a.2.2.2.2.2.1 a.2.2.2.2.2.2.1 a.2.2.2.2.2.2.2.1 (a.2.2.2.2.2.2.2.2.1=a.2.2.2.2.2.2.2.2.1) (a.2.2.2.2.2.2.2.2.2.1=a.2.2.2.2.2.2.2.2.2.1/\xj a.2.2.2.2.2.2.2.2.2.2.1 a.2.2.2.2.2.2.2.2.2.2.2.1 a.2.2.2.2.2.2.2.2.2.2.2.2.1 a.2.2.2.2.2.2.2.2.2.2.2.2.2.1 a.2.2.2.2.2.2.2.2.2.2.2.2.2.2.1 a.2.2.2.2.2.2.2.2.2.2.2.2.2.2.2.1 a.2.2.2.2.2.2.2.2.2.2.2.2.2.2.2.2))) (ar ( !(fp a.2.2.1&&bZ2 (a.2.2.1<=999))) (xc ( !(fp a.2.2.1&&bZ2 (a.2.2.1<=999))) a.1 a.2.1 a.2.2.1 a.2.2.2.1 (a.2.2.2.2.1=a.2.2.2.2.1) (bN a.2.2.2.2.2.1 a.2.2.2.2.2.2.1 a.2.2.2.2.2.2.2.1 (a.2.2.2.2.2.2.2.2.1=a.2.2.2.2.2.2.2.2.1) (a.2.2.2.2.2.2.2.2.2.1=a.2.2.2.2.2.2.2.2.2.1/\xj a.2.2.2.2.2.2.2.2.2.2.1 a.2.2.2.2.2.2.2.2.2.2.2.1 a.2.2.2.2.2.2.2.2.2.2.2.2.1
 a.2.2.2.2.2.2.2.2.2.2.2.2.2.1 a.2.2.2.2.2.2.2.2.2.2.2.2.2.2.1 a.2.2.2.2.2.2.2.2.2.2.2.2.2.2.2.1 a.2.2.2.2.2.2.2.2.2.2.2.2.2.2.2.2))) (ar (Fy a.2.2.2.1) (xc (Fy a.2.2.2.1) a.1 a.2.1 a.2.2.1 a.2.2.2.1 (a.2.2.2.2.1=a.2.2.2.2.1) (bN a.2.2.2.2.2.1 a.2.2.2.2.2.2.1 a.2.2.2.2.2.2.2.1 (a.2.2.2.2.2.2.2.2.1=a.2.2.2.2.2.2.2.2.1) (a.2.2.2.2.2.2.2.2.2.1=a.2.2.2.2.2.2.2.2.2.1/\xj a.2.2.2.2.2.2.2.2.2.2.1 a.2.2.2.2.2.2.2.2.2.2.2.1 a.2.2.2.2.2.2.2.2.2.2.2.2.1 a.2.2.2.2.2.2.2.2.2.2.2.2.2.1 a.2.2.2.2.2.2.2.2.2.2.2.2.2.2.1 a.2.2.2.2.2.2.2.2.2.2.2.2.2.2.2.1 a.2.2.2.2.2.2.2.2.2.2.2.2.2.2.2.2))) (ar (Fy a.2.2.2.2.2.2.2.2.2.2.1) (xc (Fy a.2.2.2.2.2.2.2.2.2.2.1) a.1 a.2.1 a.2.2.1 a.2.2.2.1 (a.2.2.2.2.1=a.2.2.2.2.1) (bN a.2.2.2.2.2.1 a.2.2.2.2.2.2.1 a.2.2.2.2.2.2.2.1 (a.2.2.2.2.2.2.2.2.1=a.2.2.2.2.2.2.2.2.1) (a.2.2.2.2.2.2.2.2.2.1=a.2.2.2.2.2.2.2.2.2.1/\xj a.2.2.2.2.2.2.2.2.2.2.1
 a.2.2.2.2.2.2.2.2.2.2.2.1 a.2.2.2.2.2.2.2.2.2.2.2.2.1 a.2.2.2.2.2.2.2.2.2.2.2.2.2.1 a.2.2.2.2.2.2.2.2.2.2.2.2.2.2.1 a.2.2.2.2.2.2.2.2.2.2.2.2.2.2.2.1 a.2.2.2.2.2.2.2.2.2.2.2.2.2.2.2.2))) (ar (ax a.2.2.2.2.2.2.2.2.2.2.1 a.2.2.2.1) (xc (ax a.2.2.2.2.2.2.2.2.2.2.1 a.2.2.2.1) a.1 a.2.1 a.2.2.1 a.2.2.2.1 (a.2.2.2.2.1=a.2.2.2.2.1) (bN a.2.2.2.2.2.1 a.2.2.2.2.2.2.1 a.2.2.2.2.2.2.2.1 (a.2.2.2.2.2.2.2.2.1=a.2.2.2.2.2.2.2.2.1) (a.2.2.2.2.2.2.2.2.2.1=a.2.2.2.2.2.2.2.2.2.1/\xj a.2.2.2.2.2.2.2.2.2.2.1 a.2.2.2.2.2.2.2.2.2.2.2.1 a.2.2.2.2.2.2.2.2.2.2.2.2.1 a.2.2.2.2.2.2.2.2.2.2.2.2.2.1 a.2.2.2.2.2.2.2.2.2.2.2.2.2.2.1 a.2.2.2.2.2.2.2.2.2.2.2.2.2.2.2.1 a.2.2.2.2.2.2.2.2.2.2.2.2.2.2.2.2))) (ar ( !(fp a.2.2.2.2.2.2.1&&bZ2 (a.2.2.2.2.2.2.1<=1023))) (xc ( !(fp a.2.2.2.2.2.2.1&&bZ2 (a.2.2.2.2.2.2.1<=1023))) a.1 a.2.1 a.2.2.1 a.2.2.2.1 (a.2.2.2.2.1=a.2.2.2.2.1) (bN a.2.2.2.2.2.1
 a.2.2.2.2.2.2.1 a.2.2.2.2.2.2.2.1 (a.2.2.2.2.2.2.2.2.1=a.2.2.2.2.2.2.2.2.1) (a.2.2.2.2.2.2.2.2.2.1=a.2.2.2.2.2.2.2.2.2.1/\xj a.2.2.2.2.2.2.2.2.2.2.1 a.2.2.2.2.2.2.2.2.2.2.2.1 a.2.2.2.2.2.2.2.2.2.2.2.2.1 a.2.2.2.2.2.2.2.2.2.2.2.2.2.1 a.2.2.2.2.2.2.2.2.2.2.2.2.2.2.1 a.2.2.2.2.2.2.2.2.2.2.2.2.2.2.2.1 a.2.2.2.2.2.2.2.2.2.2.2.2.2.2.2.2))) (∀(b:Bool),b=ax a.2.2.2.2.2.2.2.1 1->cV b (bv b) (xc (bq b (ax 255 a.2.2.2.2.2.2.2.1)) a.1 a.2.1 a.2.2.1 a.2.2.2.1 (a.2.2.2.2.1=a.2.2.2.2.1) (bN a.2.2.2.2.2.1 a.2.2.2.2.2.2.1 a.2.2.2.2.2.2.2.1 (a.2.2.2.2.2.2.2.2.1=a.2.2.2.2.2.2.2.2.1) (a.2.2.2.2.2.2.2.2.2.1=a.2.2.2.2.2.2.2.2.2.1/\xj a.2.2.2.2.2.2.2.2.2.2.1 a.2.2.2.2.2.2.2.2.2.2.2.1 a.2.2.2.2.2.2.2.2.2.2.2.2.1 a.2.2.2.2.2.2.2.2.2.2.2.2.2.1 a.2.2.2.2.2.2.2.2.2.2.2.2.2.2.1 a.2.2.2.2.2.2.2.2.2.2.2.2.2.2.2.1 a.2.2.2.2.2.2.2.2.2.2.2.2.2.2.2.2)))))))))/\ ∀(b:Unit),CS a.2.2.2.2.2.1 (cP
 a.2.2.2.2.2.1 6) (cP a.2.2.2.2.2.1 17) ((16:Int)=(0:Int)) ((∀(c:Bool),c=a.2.2.2.2.2.2.2.2.2.1->uc c c (br c ( !a.2.2.2.2.2.2.2.2.1)) (xc (br c ( !a.2.2.2.2.2.2.2.2.1)) a.1 a.2.1 a.2.2.1 a.2.2.2.1 (a.2.2.2.2.1=a.2.2.2.2.1) (bN a.2.2.2.2.2.1 a.2.2.2.2.2.2.1 a.2.2.2.2.2.2.2.1 (a.2.2.2.2.2.2.2.2.1=a.2.2.2.2.2.2.2.2.1) (a.2.2.2.2.2.2.2.2.2.1=a.2.2.2.2.2.2.2.2.2.1/\xj a.2.2.2.2.2.2.2.2.2.2.1 a.2.2.2.2.2.2.2.2.2.2.2.1 a.2.2.2.2.2.2.2.2.2.2.2.2.1 a.2.2.2.2.2.2.2.2.2.2.2.2.2.1 a.2.2.2.2.2.2.2.2.2.2.2.2.2.2.1 a.2.2.2.2.2.2.2.2.2.2.2.2.2.2.2.1 a.2.2.2.2.2.2.2.2.2.2.2.2.2.2.2.2))) (∀(d:Bool),d=( !a.2.2.2.2.2.2.2.2.1)->(d->dA d)/\(d->d)/\xc (br d ( !(aV a.2.2.2.2.2.2.2.2.2.2.2.1&&(aV a.2.2.2.2.2.2.2.2.2.2.2.2.1&&(aV a.2.2.2.2.2.2.2.2.2.2.2.2.2.1&&(aV a.2.2.2.2.2.2.2.2.2.2.2.2.2.2.1&&(aV a.2.2.2.2.2.2.2.2.2.2.2.2.2.2.2.1&&(aV
 a.2.2.2.2.2.2.2.2.2.2.2.2.2.2.2.2&&bZ3)))))))) a.1 a.2.1 a.2.2.1 a.2.2.2.1 (a.2.2.2.2.1=a.2.2.2.2.1) (bN a.2.2.2.2.2.1 a.2.2.2.2.2.2.1 a.2.2.2.2.2.2.2.1 (a.2.2.2.2.2.2.2.2.1=a.2.2.2.2.2.2.2.2.1) (a.2.2.2.2.2.2.2.2.2.1=a.2.2.2.2.2.2.2.2.2.1/\xj a.2.2.2.2.2.2.2.2.2.2.1 a.2.2.2.2.2.2.2.2.2.2.2.1 a.2.2.2.2.2.2.2.2.2.2.2.2.1 a.2.2.2.2.2.2.2.2.2.2.2.2.2.1 a.2.2.2.2.2.2.2.2.2.2.2.2.2.2.1 a.2.2.2.2.2.2.2.2.2.2.2.2.2.2.2.1 a.2.2.2.2.2.2.2.2.2.2.2.2.2.2.2.2))))/\pt (∀(c:Bool),c=a.2.2.2.2.2.2.2.2.1->cj c c (aJ c) (c->aJ c) (∀(d:Bool),d=ax a.2.2.2.2.2.2.2.2.2.2.2.2.1 1->cj (c&& !d) (c&& !d) (aJ (c&& !d)) (ui c d) ((c->aJ c)/\ ∀(e:Bool),e=bq d (ax 5 a.2.2.2.2.2.2.2.2.2.2.2.2.1)->fq (c&& !e) (c&& !e) (aJ (c&& !e)) (ui c e) ((c->aJ c)/\ ∀(f:Bool),H0 f e a.2.2.2.2.2.2.2.2.2.2.2.2.2.1->fq (c&& !f) (c&& !f) (aJ (c&& !f)) (ui c f) ((c->aJ c)/\
 ∀(g:Bool),H0 g f a.2.2.2.2.2.2.2.2.2.2.2.2.2.2.1->fq (c&& !g) (c&& !g) (aJ (c&& !g)) (ui c g) ((c->aJ c)/\ ∀(h:Bool),H0 h g a.2.2.2.2.2.2.2.2.2.2.2.2.2.2.2.2->fq (c&& !h) (c&& !h) (aJ (c&& !h)) (ui c h) ((c->c)/\ar (br c (bq h ( !(fp a.2.2.2.2.2.2.2.2.2.2.2.2.2.2.2.1&&bZ2 (a.2.2.2.2.2.2.2.2.2.2.2.2.2.2.2.1<=65535))))) ((1:Int)=(0:Int)) ((0:Int)=(0:Int)))))))))):= by
  delta aZ bN bR bp aJ cj bq br cV bv aV xj fq ai wM l5 ui CS dA Fy fp cP xc uc pt ax bn H0
  rintro r-h
  have n1:(!(bZ2 (0<=r.1)&&bZ2 (r.1<=15)&&(bZ2 (0<=r.2.1)&&bZ2 (r.2.1<=63))))=false:=by have:=h.v;have:=h.u;simp;omega
  have n2:=Aj h.n
  have n3:=Aj (x:=r.2.2.2.1) ⟨h.t.1,cl4 h.t.2.1 h.t.2.2⟩
  have n4:=Aj (x:=r.2.2.2.2.2.2.2.2.2.2.1) ⟨cl4 h.t.1 h.t.2.1,h.t.2.2⟩
  have n5:=Aj h.f
  have n6:bZ2 (r.2.2.2.2.2.2.2.2.2.2.1<r.2.2.2.1)=false:=eT (by have:=h.t;omega)
  rw[n1,n2,n3,n4,n5,n6]
  refine⟨?_,λ_ _=>?_⟩
  ·(repeat (refine cL ?_;repeat refine cK ?_))
   rw[eT (by have:=h.l;omega),eT (by have:=h.l;omega)]
   exact⟨(),aP,aI⟩
  (repeat (refine cL ?_;repeat refine cK ?_))
  refine aw (λq=>?_) (λ_=>⟨?_,λ_ _=>?_⟩)
  .have:=h.p;simp at q;omega
  ·(repeat (refine cL ?_;repeat refine cK ?_))
   refine aw (λq=>?_) (λ_=>?_)
   .exfalso
    cases e:r.2.2.2.2.2.2.2.2.1 with
    | true=>rw[e] at q;revert q;cases r.2.2.2.2.2.2.2.2.2.1 <;> decide
    | false=>rw[(h.a0 e).1] at q;cases q
   ·(repeat (refine cL ?_;repeat refine cK ?_))
    cases e:r.2.2.2.2.2.2.2.2.1 with
    | true=>exact⟨(),aP,aI⟩
    | false =>
     have:=(h.a0 e).2
     obtain⟨e1,e2,e3,e4,e5,e6⟩:r.2.2.2.2.2.2.2.2.2.2.2.1=0/\r.2.2.2.2.2.2.2.2.2.2.2.2.1=0/\r.2.2.2.2.2.2.2.2.2.2.2.2.2.1=0/\r.2.2.2.2.2.2.2.2.2.2.2.2.2.2.1=0/\r.2.2.2.2.2.2.2.2.2.2.2.2.2.2.2.1=0/\r.2.2.2.2.2.2.2.2.2.2.2.2.2.2.2.2=0:=by
      unfold fT at this;rw[this];exact⟨rfl,rfl,rfl,rfl,rfl,rfl⟩
     rw[e1,e2,e3,e4,e5,e6]
     exact⟨(),aP,aI⟩
  .have m1:=Aj h.an.1
   have m2:=Aj h.an.2.1
   have m3:=Aj h.an.2.2.2
   have m4:=Aj h.an.2.2.1
   unfold fT at m1 m2 m3 m4
   rw[m1,m2,m3,m4]
   cases e:r.2.2.2.2.2.2.2.2.1 with
   | true =>
    have k:=h.ak e
    unfold fT at k
    rw[eT ab,eT ab]
    (repeat (refine cL ?_;repeat refine cK ?_))
    exact rfl
   | false =>
    (repeat (refine cL ?_;repeat refine cK ?_))
    exact rfl
theorem SQ:aC 77 VU.spec:=aF Tryz.func77 (ap (ap aD OC) TX) aK0 bl3
def bI5:Ct:=⟨[.box 252 (.row 5 bm),.val cI,.val cI],[],λd=>[(be d.1:Int)<=1000000],λd=>((),(putB d.1 d.2.1 d.2.2.1,()))⟩
theorem bI7:
 ∀(a:ad)(b c:Int),aQ a/\dV b c->bV a->aT a/\putB a b c=putB a b c:= by
  delta ac aq aK aQ aT bV ai dV
  rintro x n w-h
  exact⟨ab,rfl⟩
theorem SN:aC 142 bI5.spec:=aF Tryz.func142 (ap aD Pa) aU bI7
def Sq:Ct:=⟨[.agg cU],[.own 5 bm,.val cI],λd=>[mo d.1],λd=>((fP d.1,0,()),())⟩
def aJ1:bw Sq.ps->bL:=(λd=>{cuts:=(bu 7 (λS=>{ι:=Unit,inv:=λi=>True,keep:=[1,2,3,4],slots:=λi=>[(5,.int .i64 (nP d.1))],keepN:=[32]}) (bu 9 (λS=>{ι:=Unit,inv:=λi=>True,keep:=[1,2,3,4],slots:=λi=>[(5,.int .i64 (iZ d.1))],keepN:=[32]}) (bu 15 (λS=>{ι:=ad,inv:=λi=>i=gz d.1 (it (S.i 75+1)),keep:=[2,3,7,74,75],slots:=λi=>[],names:=λi=>[(128,.live (.cells 252 [.own 524288 1])),(524288,.live (.row 5 bm i))]}) cC))),unr:=λn=>match n with|12=>17|_=>0})
def pG(a b c d:Int)(e f:Prop):=aZ 7 (ao a) 4 b ((1:Int)=(1:Int)) (aZ c 1 d 1 e f)
def pS(a b c d:Int)(e f:Prop):=aZ 0 a 1 b ((1:Int)=(1:Int)) (aZ c 2 d 7 e f)
def qg(a b c d:Int)(e f:Prop):=aZ 4 a 1 b ((2:Int)=(2:Int)) (aZ c 1 d 1 e f)
theorem a06:
 ∀(a:av),ai (CT.wf cU a)->mo a->mo a/\ar a.2.2.2.2.2.2.2.2.1 (l5 (bp 0 0 (1=nP a) (aZ a.1 a.2.1 a.2.2.1 a.2.2.2.1 (a.2.2.2.2.1=a.2.2.2.2.1) (bN a.2.2.2.2.2.1 a.2.2.2.2.2.2.1 a.2.2.2.2.2.2.2.1 (a.2.2.2.2.2.2.2.2.1=a.2.2.2.2.2.2.2.2.1) (a.2.2.2.2.2.2.2.2.2.1=a.2.2.2.2.2.2.2.2.2.1/\aZ a.2.2.2.2.2.2.2.2.2.2.1 a.2.2.2.2.2.2.2.2.2.2.2.1 a.2.2.2.2.2.2.2.2.2.2.2.2.1 a.2.2.2.2.2.2.2.2.2.2.2.2.2.1 (a.2.2.2.2.2.2.2.2.2.2.2.2.2.2.1=a.2.2.2.2.2.2.2.2.2.2.2.2.2.2.1) (m5 a.2.2.2.2.2.2.2.2.2.2.2.2.2.2.2.1 a.2.2.2.2.2.2.2.2.2.2.2.2.2.2.2.2)))))) (l5 (bp 0 0 (0=nP a) (aZ a.1 a.2.1 a.2.2.1 a.2.2.2.1 (a.2.2.2.2.1=a.2.2.2.2.1) (bN a.2.2.2.2.2.1 a.2.2.2.2.2.2.1 a.2.2.2.2.2.2.2.1 (a.2.2.2.2.2.2.2.2.1=a.2.2.2.2.2.2.2.2.1) (a.2.2.2.2.2.2.2.2.2.1=a.2.2.2.2.2.2.2.2.2.1/\aZ a.2.2.2.2.2.2.2.2.2.2.1 a.2.2.2.2.2.2.2.2.2.2.2.1 a.2.2.2.2.2.2.2.2.2.2.2.2.1 a.2.2.2.2.2.2.2.2.2.2.2.2.2.1
 (a.2.2.2.2.2.2.2.2.2.2.2.2.2.2.1=a.2.2.2.2.2.2.2.2.2.2.2.2.2.2.1) (m5 a.2.2.2.2.2.2.2.2.2.2.2.2.2.2.2.1 a.2.2.2.2.2.2.2.2.2.2.2.2.2.2.2.2))))))/\pt (ar a.2.2.2.2.2.2.2.2.2.1 (l5 (bp 0 0 (ao (nP a+2)=iZ a) (aZ a.1 a.2.1 a.2.2.1 a.2.2.2.1 (a.2.2.2.2.1=a.2.2.2.2.1) (bN a.2.2.2.2.2.1 a.2.2.2.2.2.2.1 a.2.2.2.2.2.2.2.1 (a.2.2.2.2.2.2.2.2.1=a.2.2.2.2.2.2.2.2.1) (a.2.2.2.2.2.2.2.2.2.1=a.2.2.2.2.2.2.2.2.2.1/\aZ a.2.2.2.2.2.2.2.2.2.2.1 a.2.2.2.2.2.2.2.2.2.2.2.1 a.2.2.2.2.2.2.2.2.2.2.2.2.1 a.2.2.2.2.2.2.2.2.2.2.2.2.2.1 (a.2.2.2.2.2.2.2.2.2.2.2.2.2.2.1=a.2.2.2.2.2.2.2.2.2.2.2.2.2.2.1) (m5 a.2.2.2.2.2.2.2.2.2.2.2.2.2.2.2.1 a.2.2.2.2.2.2.2.2.2.2.2.2.2.2.2.2)))))) (l5 (bp 0 0 (nP a=iZ a) (aZ a.1 a.2.1 a.2.2.1 a.2.2.2.1 (a.2.2.2.2.1=a.2.2.2.2.1) (bN a.2.2.2.2.2.1 a.2.2.2.2.2.2.1 a.2.2.2.2.2.2.2.1 (a.2.2.2.2.2.2.2.2.1=a.2.2.2.2.2.2.2.2.1)
 (a.2.2.2.2.2.2.2.2.2.1=a.2.2.2.2.2.2.2.2.2.1/\aZ a.2.2.2.2.2.2.2.2.2.2.1 a.2.2.2.2.2.2.2.2.2.2.2.1 a.2.2.2.2.2.2.2.2.2.2.2.2.1 a.2.2.2.2.2.2.2.2.2.2.2.2.2.1 (a.2.2.2.2.2.2.2.2.2.2.2.2.2.2.1=a.2.2.2.2.2.2.2.2.2.2.2.2.2.2.1) (m5 a.2.2.2.2.2.2.2.2.2.2.2.2.2.2.2.1 a.2.2.2.2.2.2.2.2.2.2.2.2.2.2.2.2))))))/\pt (((↑((0:Nat)):Int)<=1000000/\ ∃(b:ad),b=gz a 1/\pS a.1 a.2.1 a.2.2.1 a.2.2.2.1 (kK a.2.2.2.2.1) (qg a.2.2.2.2.2.1 a.2.2.2.2.2.2.1 a.2.2.2.2.2.2.2.1 (iZ a) (a.2.2.2.2.2.2.2.2.2.2.1=a.2.2.2.2.2.2.2.2.2.2.1) (pG a.2.2.2.2.2.2.2.2.2.2.2.1 a.2.2.2.2.2.2.2.2.2.2.2.2.1 a.2.2.2.2.2.2.2.2.2.2.2.2.2.1 a.2.2.2.2.2.2.2.2.2.2.2.2.2.2.1 (a.2.2.2.2.2.2.2.2.2.2.2.2.2.2.2.1=a.2.2.2.2.2.2.2.2.2.2.2.2.2.2.2.1) (aZ 2 a.2.2.2.2.2.2.2.2.2.2.2.2.2.2.2.2 1 0 (putB [] a.1 1=b) True))))/\ ∀(b:ad),b=gz a 1->(bV b/\ ∃(c:ad),c=gz a 2/\pS a.1 a.2.1 a.2.2.1 a.2.2.2.1
 (kK a.2.2.2.2.1) (qg a.2.2.2.2.2.1 a.2.2.2.2.2.2.1 a.2.2.2.2.2.2.2.1 (iZ a) (a.2.2.2.2.2.2.2.2.2.2.1=a.2.2.2.2.2.2.2.2.2.2.1) (pG a.2.2.2.2.2.2.2.2.2.2.2.1 a.2.2.2.2.2.2.2.2.2.2.2.2.1 a.2.2.2.2.2.2.2.2.2.2.2.2.2.1 a.2.2.2.2.2.2.2.2.2.2.2.2.2.2.1 (a.2.2.2.2.2.2.2.2.2.2.2.2.2.2.2.1=a.2.2.2.2.2.2.2.2.2.2.2.2.2.2.2.1) (aZ 2 a.2.2.2.2.2.2.2.2.2.2.2.2.2.2.2.2 1 1 (putB b a.2.1 1=c) True))))/\ ∀(c:ad),c=gz a 2->(bV c/\ ∃(d:ad),d=gz a 3/\pS a.1 a.2.1 a.2.2.1 a.2.2.2.1 (kK a.2.2.2.2.1) (qg a.2.2.2.2.2.1 a.2.2.2.2.2.2.1 a.2.2.2.2.2.2.2.1 (iZ a) (a.2.2.2.2.2.2.2.2.2.2.1=a.2.2.2.2.2.2.2.2.2.2.1) (pG a.2.2.2.2.2.2.2.2.2.2.2.1 a.2.2.2.2.2.2.2.2.2.2.2.2.1 a.2.2.2.2.2.2.2.2.2.2.2.2.2.1 a.2.2.2.2.2.2.2.2.2.2.2.2.2.2.1 (a.2.2.2.2.2.2.2.2.2.2.2.2.2.2.2.1=a.2.2.2.2.2.2.2.2.2.2.2.2.2.2.2.1) (aZ 2 a.2.2.2.2.2.2.2.2.2.2.2.2.2.2.2.2 1 2 (putB c a.2.2.1 2=d)
 True))))/\ ∀(d:ad),d=gz a 3->(bV d/\ ∃(e:ad),e=gz a 4/\pS a.1 a.2.1 a.2.2.1 a.2.2.2.1 (kK a.2.2.2.2.1) (qg a.2.2.2.2.2.1 a.2.2.2.2.2.2.1 a.2.2.2.2.2.2.2.1 (iZ a) (a.2.2.2.2.2.2.2.2.2.2.1=a.2.2.2.2.2.2.2.2.2.2.1) (pG a.2.2.2.2.2.2.2.2.2.2.2.1 a.2.2.2.2.2.2.2.2.2.2.2.2.1 a.2.2.2.2.2.2.2.2.2.2.2.2.2.1 a.2.2.2.2.2.2.2.2.2.2.2.2.2.2.1 (a.2.2.2.2.2.2.2.2.2.2.2.2.2.2.2.1=a.2.2.2.2.2.2.2.2.2.2.2.2.2.2.2.1) (aZ 2 a.2.2.2.2.2.2.2.2.2.2.2.2.2.2.2.2 1 3 (putB d a.2.2.2.1 7=e) True))))/\ ∀(e:ad),e=gz a 4->(bV e/\ ∃(f:ad),f=gz a 5/\pS a.1 a.2.1 a.2.2.1 a.2.2.2.1 (kK a.2.2.2.2.1) (qg a.2.2.2.2.2.1 a.2.2.2.2.2.2.1 a.2.2.2.2.2.2.2.1 (iZ a) (a.2.2.2.2.2.2.2.2.2.2.1=a.2.2.2.2.2.2.2.2.2.2.1) (pG a.2.2.2.2.2.2.2.2.2.2.2.1 a.2.2.2.2.2.2.2.2.2.2.2.2.1 a.2.2.2.2.2.2.2.2.2.2.2.2.2.1 a.2.2.2.2.2.2.2.2.2.2.2.2.2.2.1
 (a.2.2.2.2.2.2.2.2.2.2.2.2.2.2.2.1=a.2.2.2.2.2.2.2.2.2.2.2.2.2.2.2.1) (aZ 2 a.2.2.2.2.2.2.2.2.2.2.2.2.2.2.2.2 1 4 (putB e (ao a.2.2.2.2.1) 4=f) True))))/\ ∀(f:ad),f=gz a 5->(bV f/\ ∃(g:ad),g=gz a 6/\pS a.1 a.2.1 a.2.2.1 a.2.2.2.1 (kK a.2.2.2.2.1) (qg a.2.2.2.2.2.1 a.2.2.2.2.2.2.1 a.2.2.2.2.2.2.2.1 (iZ a) (a.2.2.2.2.2.2.2.2.2.2.1=a.2.2.2.2.2.2.2.2.2.2.1) (pG a.2.2.2.2.2.2.2.2.2.2.2.1 a.2.2.2.2.2.2.2.2.2.2.2.2.1 a.2.2.2.2.2.2.2.2.2.2.2.2.2.1 a.2.2.2.2.2.2.2.2.2.2.2.2.2.2.1 (a.2.2.2.2.2.2.2.2.2.2.2.2.2.2.2.1=a.2.2.2.2.2.2.2.2.2.2.2.2.2.2.2.1) (aZ 2 a.2.2.2.2.2.2.2.2.2.2.2.2.2.2.2.2 1 5 (putB f a.2.2.2.2.2.1 1=g) True))))/\ ∀(g:ad),g=gz a 6->(bV g/\ ∃(h:ad),h=gz a 7/\pS a.1 a.2.1 a.2.2.1 a.2.2.2.1 (kK a.2.2.2.2.1) (qg a.2.2.2.2.2.1 a.2.2.2.2.2.2.1 a.2.2.2.2.2.2.2.1 (iZ a) (a.2.2.2.2.2.2.2.2.2.2.1=a.2.2.2.2.2.2.2.2.2.2.1)
 (pG a.2.2.2.2.2.2.2.2.2.2.2.1 a.2.2.2.2.2.2.2.2.2.2.2.2.1 a.2.2.2.2.2.2.2.2.2.2.2.2.2.1 a.2.2.2.2.2.2.2.2.2.2.2.2.2.2.1 (a.2.2.2.2.2.2.2.2.2.2.2.2.2.2.2.1=a.2.2.2.2.2.2.2.2.2.2.2.2.2.2.2.1) (aZ 2 a.2.2.2.2.2.2.2.2.2.2.2.2.2.2.2.2 1 6 (putB g a.2.2.2.2.2.2.1 2=h) True))))/\ ∀(h:ad),h=gz a 7->(bV h/\ ∃(i:ad),i=gz a 8/\pS a.1 a.2.1 a.2.2.1 a.2.2.2.1 (kK a.2.2.2.2.1) (qg a.2.2.2.2.2.1 a.2.2.2.2.2.2.1 a.2.2.2.2.2.2.2.1 (iZ a) (a.2.2.2.2.2.2.2.2.2.2.1=a.2.2.2.2.2.2.2.2.2.2.1) (pG a.2.2.2.2.2.2.2.2.2.2.2.1 a.2.2.2.2.2.2.2.2.2.2.2.2.1 a.2.2.2.2.2.2.2.2.2.2.2.2.2.1 a.2.2.2.2.2.2.2.2.2.2.2.2.2.2.1 (a.2.2.2.2.2.2.2.2.2.2.2.2.2.2.2.1=a.2.2.2.2.2.2.2.2.2.2.2.2.2.2.2.1) (aZ 2 a.2.2.2.2.2.2.2.2.2.2.2.2.2.2.2.2 1 7 (putB h a.2.2.2.2.2.2.2.1 1=i) True))))/\ ∀(i:ad),i=gz a 8->(bV i/\ ∃(j:ad),j=gz a 9/\pS a.1 a.2.1 a.2.2.1 a.2.2.2.1 (kK
 a.2.2.2.2.1) (qg a.2.2.2.2.2.1 a.2.2.2.2.2.2.1 a.2.2.2.2.2.2.2.1 (iZ a) (a.2.2.2.2.2.2.2.2.2.2.1=a.2.2.2.2.2.2.2.2.2.2.1) (pG a.2.2.2.2.2.2.2.2.2.2.2.1 a.2.2.2.2.2.2.2.2.2.2.2.2.1 a.2.2.2.2.2.2.2.2.2.2.2.2.2.1 a.2.2.2.2.2.2.2.2.2.2.2.2.2.2.1 (a.2.2.2.2.2.2.2.2.2.2.2.2.2.2.2.1=a.2.2.2.2.2.2.2.2.2.2.2.2.2.2.2.1) (aZ 2 a.2.2.2.2.2.2.2.2.2.2.2.2.2.2.2.2 1 8 (putB i (iZ a) 1=j) True))))/\ ∀(j:ad),j=gz a 9->(bV j/\ ∃(k:ad),k=gz a 10/\pS a.1 a.2.1 a.2.2.1 a.2.2.2.1 (kK a.2.2.2.2.1) (qg a.2.2.2.2.2.1 a.2.2.2.2.2.2.1 a.2.2.2.2.2.2.2.1 (iZ a) (a.2.2.2.2.2.2.2.2.2.2.1=a.2.2.2.2.2.2.2.2.2.2.1) (pG a.2.2.2.2.2.2.2.2.2.2.2.1 a.2.2.2.2.2.2.2.2.2.2.2.2.1 a.2.2.2.2.2.2.2.2.2.2.2.2.2.1 a.2.2.2.2.2.2.2.2.2.2.2.2.2.2.1 (a.2.2.2.2.2.2.2.2.2.2.2.2.2.2.2.1=a.2.2.2.2.2.2.2.2.2.2.2.2.2.2.2.1) (aZ 2 a.2.2.2.2.2.2.2.2.2.2.2.2.2.2.2.2 1 9 (putB j
 a.2.2.2.2.2.2.2.2.2.2.1 7=k) True))))/\ ∀(k:ad),k=gz a 10->(bV k/\ ∃(l:ad),l=gz a 11/\pS a.1 a.2.1 a.2.2.1 a.2.2.2.1 (kK a.2.2.2.2.1) (qg a.2.2.2.2.2.1 a.2.2.2.2.2.2.1 a.2.2.2.2.2.2.2.1 (iZ a) (a.2.2.2.2.2.2.2.2.2.2.1=a.2.2.2.2.2.2.2.2.2.2.1) (pG a.2.2.2.2.2.2.2.2.2.2.2.1 a.2.2.2.2.2.2.2.2.2.2.2.2.1 a.2.2.2.2.2.2.2.2.2.2.2.2.2.1 a.2.2.2.2.2.2.2.2.2.2.2.2.2.2.1 (a.2.2.2.2.2.2.2.2.2.2.2.2.2.2.2.1=a.2.2.2.2.2.2.2.2.2.2.2.2.2.2.2.1) (aZ 2 a.2.2.2.2.2.2.2.2.2.2.2.2.2.2.2.2 1 10 (putB k (ao a.2.2.2.2.2.2.2.2.2.2.2.1) 4=l) True))))/\ ∀(l:ad),l=gz a 11->(bV l/\ ∃(m:ad),m=gz a 12/\pS a.1 a.2.1 a.2.2.1 a.2.2.2.1 (kK a.2.2.2.2.1) (qg a.2.2.2.2.2.1 a.2.2.2.2.2.2.1 a.2.2.2.2.2.2.2.1 (iZ a) (a.2.2.2.2.2.2.2.2.2.2.1=a.2.2.2.2.2.2.2.2.2.2.1) (pG a.2.2.2.2.2.2.2.2.2.2.2.1 a.2.2.2.2.2.2.2.2.2.2.2.2.1 a.2.2.2.2.2.2.2.2.2.2.2.2.2.1
 a.2.2.2.2.2.2.2.2.2.2.2.2.2.2.1 (a.2.2.2.2.2.2.2.2.2.2.2.2.2.2.2.1=a.2.2.2.2.2.2.2.2.2.2.2.2.2.2.2.1) (aZ 2 a.2.2.2.2.2.2.2.2.2.2.2.2.2.2.2.2 1 11 (putB l a.2.2.2.2.2.2.2.2.2.2.2.2.1 1=m) True))))/\ ∀(m:ad),m=gz a 12->(bV m/\ ∃(n:ad),n=gz a 13/\pS a.1 a.2.1 a.2.2.1 a.2.2.2.1 (kK a.2.2.2.2.1) (qg a.2.2.2.2.2.1 a.2.2.2.2.2.2.1 a.2.2.2.2.2.2.2.1 (iZ a) (a.2.2.2.2.2.2.2.2.2.2.1=a.2.2.2.2.2.2.2.2.2.2.1) (pG a.2.2.2.2.2.2.2.2.2.2.2.1 a.2.2.2.2.2.2.2.2.2.2.2.2.1 a.2.2.2.2.2.2.2.2.2.2.2.2.2.1 a.2.2.2.2.2.2.2.2.2.2.2.2.2.2.1 (a.2.2.2.2.2.2.2.2.2.2.2.2.2.2.2.1=a.2.2.2.2.2.2.2.2.2.2.2.2.2.2.2.1) (aZ 2 a.2.2.2.2.2.2.2.2.2.2.2.2.2.2.2.2 1 12 (putB m a.2.2.2.2.2.2.2.2.2.2.2.2.2.1 1=n) True))))/\ ∀(n:ad),n=gz a 13->(bV n/\ ∃(o:ad),o=gz a 14/\pS a.1 a.2.1 a.2.2.1 a.2.2.2.1 (kK a.2.2.2.2.1) (qg a.2.2.2.2.2.1 a.2.2.2.2.2.2.1 a.2.2.2.2.2.2.2.1
 (iZ a) (a.2.2.2.2.2.2.2.2.2.2.1=a.2.2.2.2.2.2.2.2.2.2.1) (pG a.2.2.2.2.2.2.2.2.2.2.2.1 a.2.2.2.2.2.2.2.2.2.2.2.2.1 a.2.2.2.2.2.2.2.2.2.2.2.2.2.1 a.2.2.2.2.2.2.2.2.2.2.2.2.2.2.1 (a.2.2.2.2.2.2.2.2.2.2.2.2.2.2.2.1=a.2.2.2.2.2.2.2.2.2.2.2.2.2.2.2.1) (aZ 2 a.2.2.2.2.2.2.2.2.2.2.2.2.2.2.2.2 1 13 (putB n a.2.2.2.2.2.2.2.2.2.2.2.2.2.2.1 1=o) True))))/\ ∀(o:ad),o=gz a 14->(bV o/\ ∃(p:ad),p=gz a 15/\pS a.1 a.2.1 a.2.2.1 a.2.2.2.1 (kK a.2.2.2.2.1) (qg a.2.2.2.2.2.1 a.2.2.2.2.2.2.1 a.2.2.2.2.2.2.2.1 (iZ a) (a.2.2.2.2.2.2.2.2.2.2.1=a.2.2.2.2.2.2.2.2.2.2.1) (pG a.2.2.2.2.2.2.2.2.2.2.2.1 a.2.2.2.2.2.2.2.2.2.2.2.2.1 a.2.2.2.2.2.2.2.2.2.2.2.2.2.1 a.2.2.2.2.2.2.2.2.2.2.2.2.2.2.1 (a.2.2.2.2.2.2.2.2.2.2.2.2.2.2.2.1=a.2.2.2.2.2.2.2.2.2.2.2.2.2.2.2.1) (aZ 2 a.2.2.2.2.2.2.2.2.2.2.2.2.2.2.2.2 1 14 (putB o a.2.2.2.2.2.2.2.2.2.2.2.2.2.2.2.1 2=p) True))))/\ ∀(p:List
 Int),p=gz a 15->(bV p/\ ∃(q:ad),q=gz a 16/\pS a.1 a.2.1 a.2.2.1 a.2.2.2.1 (kK a.2.2.2.2.1) (qg a.2.2.2.2.2.1 a.2.2.2.2.2.2.1 a.2.2.2.2.2.2.2.1 (iZ a) (a.2.2.2.2.2.2.2.2.2.2.1=a.2.2.2.2.2.2.2.2.2.2.1) (pG a.2.2.2.2.2.2.2.2.2.2.2.1 a.2.2.2.2.2.2.2.2.2.2.2.2.1 a.2.2.2.2.2.2.2.2.2.2.2.2.2.1 a.2.2.2.2.2.2.2.2.2.2.2.2.2.2.1 (a.2.2.2.2.2.2.2.2.2.2.2.2.2.2.2.1=a.2.2.2.2.2.2.2.2.2.2.2.2.2.2.2.1) (aZ 2 a.2.2.2.2.2.2.2.2.2.2.2.2.2.2.2.2 1 15 (putB p a.2.2.2.2.2.2.2.2.2.2.2.2.2.2.2.2 1=q) True))))/\ ∀(q:ad),q=gz a 16->q=fP a/\(0:Int)=(0:Int))):= by
  delta ac ao aZ bN bp bV ai pG l5 pS qg m5 kK pt bn
  rintro r-h
  have e4:bZ4.wrap r.2.2.2.2.1=r.2.2.2.2.1:=aG (by have:=h.d;omega) (by have:=h.d;omega)
  have e10:bZ4.wrap r.2.2.2.2.2.2.2.2.2.2.2.1=r.2.2.2.2.2.2.2.2.2.2.2.1:=aG (by have:0<=r.2.2.2.2.2.2.2.2.2.2.2.1:=h.af.1;omega) (by have:r.2.2.2.2.2.2.2.2.2.2.2.1<=4294967295:=h.af.2;omega)
  rw[e4,e10]
  have g1:(1:Int)=nP r∨(0:Int)=nP r:=by unfold nP;split <;> simp
  have g2:bZ4.wrap (nP r+2)=nP r+2:=aG ab ab
  rw[g2]
  refine⟨h,⟨aw (λq=>?_) (λq=>?_),λ_ _=>⟨aw (λq=>?_) (λq=>?_),λ_ _=>?_⟩⟩⟩
  .rw[show nP r=1 by unfold nP;rw[aj q]];exact⟨(),aP,aI⟩
  .rw[show nP r=0 by unfold nP;rw[q];rfl];exact⟨(),aP,aI⟩
  .rw[show iZ r=nP r+2 by unfold iZ;rw[aj q]];exact⟨(),aP,aI⟩
  .rw[show iZ r=nP r by unfold iZ;rw[q];exact Int.add_zero _];exact⟨(),aP,aI⟩
  rw[show putB [] r.1 1=gz r 1 from Ze h (k:=0) aB]
  refine⟨⟨aB,_,rfl,aI⟩,?_⟩
  rintro _ rfl
  iterate 15
   refine⟨⟨aK4 r _,_,rfl,?_⟩,?_⟩
   ·(repeat' apply And.intro) <;> first|exact Ze h aB|rfl|trivial
   rintro _ rfl
  exact⟨rfl,rfl⟩
theorem Wx:aC 143 Sq.spec:=aF Tryz.func143 (Xl (ap (ap aD SQ) SN) (d:=77)) aJ1 a06
def ag1:Ct:=⟨[.box 264 X3,.val cI],[.val cI],λd=>[(d.1.2.1:Int)<=1000000,0<=d.1.2.1,1<=d.2.1,d.2.1<=7],λd=>((bI d.1.1 d.1.2.1 d.2.1,()),((d.1.1,d.1.2.1+d.2.1,if d.1.2.2=0 then jT d.1.1 d.1.2.1 d.2.1 else d.1.2.2),()))⟩
def sO(a b:Int):=if a=0 then b else a
def sw(a:Int)(b c:Prop):=a<=1000000/\am a b c
theorem aH3:
 ∀(a:ad)(b c d:Int),(aQ a/\aq b/\aq c)/\ai (aq d)->sw b (1<=d) (d<=7)->aK (ac a)/\ar (aV c) (bI a b d=bI a b d/\(a,ao (b+d),jT a b d)=(a,b+d,sO c (jT a b d))) (bI a b d=bI a b d/\(a,ao (b+d),c)=(a,b+d,sO c (jT a b d))):= by
  delta ac ao aq aK aQ am aV ai sO sw
  rintro b k e w ⟨⟨⟨hl,-⟩,-⟩,-⟩⟨h1,h0,h2,h3⟩
  simp only[cb2] at hl
  rw[aG (n:=k+w) ab ab]
  refine⟨ab,aw (λq=>⟨rfl,by rw[aj (aX q)]⟩) (λq=>⟨rfl,by rw[ah (bg q)]⟩)⟩
theorem Xe:aC 146 ag1.spec:=aF Tryz.func146 (ap aD Dg) aU aH3
def ae0:Ct:=⟨[.box 264 X3,.val cI],[.own 5 bm],λd=>[0<=d.1.2.1,0<=d.2.1,d.2.1<=1000,d.1.2.1+d.2.1<=be d.1.1,(be d.1.1:Int)<=1000000],λd=>((bY d.1.1 (it d.1.2.1) (it (d.1.2.1+d.2.1)),()),((d.1.1,d.1.2.1+d.2.1,d.1.2.2),()))⟩
theorem ag5:
 ∀(a:ad)(b c d:Int),(aQ a/\aq b/\aq c)/\ai (aq d)->am b (0<=d) (d<=1000/\b+d<=ac a/\bV a)->ar (ax (ao (ac a -d)) b) (ar (aV c) (fw (fU a b (b+d))/\(a,b,(3:Int))=(a,b+d,c)) (fw (fU a b (b+d))/\(a,b,c)=(a,b+d,c))) (bt (ao (ao (b+d) -d)) (ao (b+d)) (ao (b+d)<=ac a) (aT (fU a (ao (ao (b+d) -d)) (ao (b+d)))/\fU a (ao (ao (b+d) -d)) (ao (b+d))=fU a b (b+d)/\(a,ao (b+d),c)=(a,b+d,c))):= by
  delta ac ao aq aK aQ aT am aV fU bV bt ai ax fw
  rintro b k e n-⟨k0,n0,n1,h,hl⟩
  rw[aG (n:=(be b:Int)-n) ab ab,aG (n:=k+n) ab ab,aG (n:=k+n-n) ab ab,show k+n-n=k by omega]
  refine aw (λq=>by have q:=aX q;omega) (λ_=>⟨k0,ab,h,by simp[bY];omega,rfl,rfl⟩)
theorem bf8:aC 147 ae0.spec:=aF Tryz.func147 (ap aD tj) aU ag5
def bM2:Ct:=⟨[.val (.sl bm)],[.agg cU,.val cI],λd=>[∃ r,mo r/\d.1=fP r],λd=>((u9 d.1,0,()),())⟩
def um(a:Int)(b:ad)(c:Int)(d:ad)(e f g:Int):=a=bI b c 1/\(d,e,f)=(b,c+1,sO g (jT b c 1))
def uG(a b:Int)(c d:ad×Int×Int)(e:Int)(f g:Prop):=a=b/\c=d->sw e f g
theorem bE6:
 ∀(a:ad),ai (aQ a)->(∃(b:av),mo b/\a=fP b)->am 1000000 ((0:Int)<=(0:Int)) ((1:Int)<=(1:Int)/\(1:Int)<=(7:Int)/\ ∀(b:Int)(c:ad)(d e:Int),uG b (bI a 0 1) (c,d,e) (a,0+1,if (0:Int)=(0:Int) then jT a 0 1 else 0) d ((1:Int)<=(1:Int)) ((1:Int)<=(7:Int)/\ ∀(f:Int)(g:ad)(h i:Int),um f c d g h i e->sw h ((1:Int)<=(2:Int)) ((2:Int)<=(7:Int)/\ ∀(j:Int)(k:ad)(l m:Int),uG j (bI g h 2) (k,l,m) (g,h+2,sO i (jT g h 2)) l ((1:Int)<=(7:Int)) ((7:Int)<=(7:Int)/\ ∀(n:Int)(o:ad)(p q:Int),uG n (bI k l 7) (o,p,q) (k,l+7,sO m (jT k l 7)) p ((1:Int)<=(4:Int)) ((4:Int)<=(7:Int)/\ ∀(r:Int)(s:ad)(t u:Int),uG r (bI o p 4) (s,t,u) (o,p+4,sO q (jT o p 4)) t ((1:Int)<=(1:Int)) ((1:Int)<=(7:Int)/\ ∀(v:Int)(w:ad)(x y:Int),um v s t w x y u->sw x ((1:Int)<=(2:Int)) ((2:Int)<=(7:Int)/\ ∀(z:Int)(A:ad)(B C:Int),uG z
 (bI w x 2) (A,B,C) (w,x+2,sO y (jT w x 2)) B ((1:Int)<=(1:Int)) ((1:Int)<=(7:Int)/\ ∀(D:Int)(E:ad)(F G:Int),um D A B E F G C->sw F ((1:Int)<=(1:Int)) ((1:Int)<=(7:Int)/\ ∀(H:Int)(I:ad)(J K:Int),um H E F I J K G->sw J ((1:Int)<=(7:Int)) ((7:Int)<=(7:Int)/\ ∀(L:Int)(M:ad)(N O:Int),uG L (bI I J 7) (M,N,O) (I,J+7,sO K (jT I J 7)) N ((1:Int)<=(4:Int)) ((4:Int)<=(7:Int)/\ ∀(P:Int)(Q:ad)(R S:Int),uG P (bI M N 4) (Q,R,S) (M,N+4,sO O (jT M N 4)) R ((1:Int)<=(1:Int)) ((1:Int)<=(7:Int)/\ ∀(T:Int)(U:ad)(V W:Int),um T Q R U V W S->sw V ((1:Int)<=(1:Int)) ((1:Int)<=(7:Int)/\ ∀(X:Int)(Y:ad)(Z a1:Int),um X U V Y Z a1 W->sw Z ((1:Int)<=(1:Int)) ((1:Int)<=(7:Int)/\ ∀(b1:Int)(c1:ad)(d1 e1:Int),um b1 Y Z c1 d1 e1 a1->sw d1 ((1:Int)<=(2:Int)) ((2:Int)<=(7:Int)/\ ∀(f1:Int)(g1:ad)(h1 i1:Int),uG f1 (bI c1 d1
 2) (g1,h1,i1) (c1,d1+2,sO e1 (jT c1 d1 2)) h1 ((1:Int)<=(1:Int)) ((1:Int)<=(7:Int)/\ ∀(j1:Int)(k1:ad)(l1 m1:Int),um j1 g1 h1 k1 l1 m1 i1->ar ( !aV m1) ((0,0,0,0,0,0,0,0,bZ6,bZ6,0,nA)=u9 a/\(3:Int)=(0:Int)) (mo (b,f,j,n,bZ5 bZ7 r,v,z,D,iN (bits cc6 bZ4 H 1),bZ2 (bits cc6 bZ4 H 2=2),L,bZ5 bZ7 P,T,X,b1,f1,j1)/\ ∀(n1:Bool),n1=( !bZ2 ((0:Int)=(0:Int)))->gq n1/\jE n1 (bq n1 ( !bZ2 (fP (b,f,j,n,bZ5 bZ7 r,v,z,D,iN (bits cc6 bZ4 H 1),bZ2 (bits cc6 bZ4 H 2=2),L,bZ5 bZ7 P,T,X,b1,f1,j1)=a))) ((0,0,0,0,0,0,0,0,bZ6,bZ6,0,nA)=u9 a/\(2:Int)=(0:Int)) ((b,f,j,n,bZ5 bZ7 r,v,z,D,iN (bits cc6 bZ4 H 1),bZ2 (bits cc6 bZ4 H 2=2),L,bZ5 bZ7 P,T,X,b1,f1,j1)=u9
 a/\(0:Int)=(0:Int))))))))))))))))))):= by
  delta aQ bR aJ bq am bv gq aV um ai uG jE nA dA sO sw iN
  rintro _-⟨r,h,rfl⟩
  have st:∀{o w x:Int}{b:ad}{j e:Int},(∃ k,k<16/\o=((lN ((nM Sk).take k):Nat):Int)/\w=((Om (nM Sk) k Sk).2:Nat))->x=bI (fP r) o w/\(b,j,e)=(fP r,o+w,if (0:Int)=0 then jT (fP r) o w else 0)->x=bI (fP r) o w/\b=fP r/\j=o+w/\e=0:=by
   rintro o w x b j e ⟨k,hk,rfl,rfl⟩⟨h1,h2⟩
   rw[aj rfl,(oI h hk).2] at h2
   cases h2
   exact⟨h1,rfl,rfl,rfl⟩
  iterate 16
   refine⟨aB,aB,aB,aB,?_⟩
   rintro _ _ _ _ q
   obtain⟨rfl,rfl,rfl,rfl⟩:=st aB q
   clear q
  have e4:bZ7.wrap (bI (fP r) (0+1+1+2+7) 4)=bI (fP r) (0+1+1+2+7) 4:=by
   have f:bI (fP r) (0+1+1+2+7) 4=r.2.2.2.2.1:=(oI h (k:=4) aB).1
   rw[f];exact ug h.d.1 h.d.2
  have e10:bZ7.wrap (bI (fP r) (0+1+1+2+7+4+1+2+1+1+7) 4)=bI (fP r) (0+1+1+2+7+4+1+2+1+1+7) 4:=by
   have f:bI (fP r) (0+1+1+2+7+4+1+2+1+1+7) 4=(fT r).1:=(oI h (k:=10) aB).1
   rw[f];exact ug h.af.1 h.af.2
  rw[e4,e10]
  have hT:=Uf h
  refine iu.2 ⟨show mo (u9 (fP r)) by rw[hT];exact h,?_⟩
  (repeat (refine cL ?_;repeat refine cK ?_))
  refine aw (λq=>?_) (λ_=>⟨rfl,rfl⟩)
  have q:(!bZ2 (fP (u9 (fP r))=fP r))=true:=q
  rw[hT,ft rfl] at q;cases q
theorem aj9:aC 148 bM2.spec:=aF Tryz.func148 (ap (ap (ap aD (Ct.named Xe)) Wx) MZ) aU bE6
def Ut:ad:=[82,83,74,49]
def kX(i r e n:Int):List bY5:=[(82,1),(83,1),(74,1),(49,1),(i,1),(r,1),(e,2),(n,1)]
def pn(i r e:Int)(w:ad)(l:List av):ad:=i7 (kX i r e (be l))++(w++l.flatMap fP)
def dG(i r e:Int)(w:ad)(l:List av)(k:ad):ad:=pn i r e w l++qW k (pn i r e w l)
structure iz (i r e:Int) (w:ad) (l:List av):Prop where
 i:0<=i/\i<=15
 r:0<=r/\r<=63
 e:0<=e/\e<=1000
 w:be w=32
 n:be l<=64
 ok:∀ x∈l,mo x
theorem yY{l:List av}:be (l.flatMap fP)=37*be l:=by
 induction l with
 | nil=>rfl
 | cons x l ih=>rw[ch7,bM,P5,ih,cX];omega
theorem iz.lenB{i r e:Int}{w:ad}{l:List av}(h:iz i r e w l):be (pn i r e w l)=41+37*be l:=by
 unfold pn
 rw[bM,bM,yY,h.w,zQ]
 have:lN (kX i r e (be l))=9:=rfl
 omega
theorem iz.len{i r e:Int}{w k:ad}{l:List av}(h:iz i r e w l):be (dG i r e w l k)=73+37*be l:=by
 unfold dG
 rw[bM,h.lenB,S5];omega
theorem iz.fits{i r e:Int}{w:ad}{l:List av}(h:iz i r e w l):∀ p∈kX i r e (be l),fits p:=by
 have hn:=h.n
 intro q hq
 simp only[kX,dO,ci5,or_false] at hq
 obtain rfl|rfl|rfl|rfl|rfl|rfl|rfl|rfl:=hq
 .exact mq (m:=82) ab aB aB
 .exact mq (m:=83) ab aB aB
 .exact mq (m:=74) ab aB aB
 .exact mq (m:=49) ab aB aB
 .exact mq h.i aB aB
 .exact mq h.r aB aB
 .exact mq h.e aB aB
 .exact mq (m:=64) ab aB aB
theorem iz.get{i r e:Int}{w:ad}{l:List av}(h:iz i r e w l)(k:ad){j:Nat}(hj:j<8):bI (dG i r e w l k) (lN ((kX 0 0 0 0).take j)) (Om (kX 0 0 0 0) j Sk).2=(Om (kX i r e (be l)) j Sk).1/\jT (dG i r e w l k) (lN ((kX 0 0 0 0).take j)) (Om (kX 0 0 0 0) j Sk).2=0:=by
 have q:=X4 h.fits (k:=j) hj (w++l.flatMap fP++qW k (pn i r e w l))
 have e0:i7 (kX i r e (be l))++(w++l.flatMap fP++qW k (pn i r e w l))=dG i r e w l k:=(fV ..).symm
 have e1:lN ((kX i r e (be l)).take j)=lN ((kX 0 0 0 0).take j)/\(Om (kX i r e (be l)) j Sk).2=(Om (kX 0 0 0 0) j Sk).2:=by
  have:j=0∨j=1∨j=2∨j=3∨j=4∨j=5∨j=6∨j=7:=ab;obtain rfl|rfl|rfl|rfl|rfl|rfl|rfl|rfl:=this <;> exact⟨rfl,rfl⟩
 rw[e0,e1.1,e1.2] at q
 exact⟨q.1,q.2.1⟩
theorem Vs{a b c:ad}:bY (a++(b++c)) (be a) (be a+be b)=b:=by
 unfold bY
 rw[← fV,← bM,cp2,cl3]
theorem iz.bef{i r e:Int}{w:ad}{l:List av}(h:iz i r e w l)(k:ad):bY (dG i r e w l k) 9 41=w:=by
 have q:=Vs (a:=i7 (kX i r e (be l))) (b:=w) (c:=l.flatMap fP++qW k (pn i r e w l))
 rw[zQ,h.w,show lN (kX i r e (be l))=9 from rfl] at q
 refine Eq.trans (dP (λx=>bY x 9 41) ?_) q
 unfold dG pn
 simp only[fV]
theorem iz.res{i r e:Int}{w:ad}{l:List av}(h:iz i r e w l)(k:ad){j:Int}(h0:0<=j)(hj:j<be l):bY (dG i r e w l k) (it (41+37*j)) (it (41+37*j+37))=fP (Om l (it j) Sk):=by
 obtain⟨n,rfl⟩:=rx h0
 have hn:n<be l:=ab
 have el:l=l.take n++l[n]::l.drop (n+1):=by rw[← s9 hn,kP]
 rw[cb6,cq,cG hn,iA]
 have q:=Vs (a:=i7 (kX i r e (be l))++(w++(l.take n).flatMap fP)) (b:=fP l[n]) (c:=(l.drop (n+1)).flatMap fP++qW k (pn i r e w l))
 have ln:be (i7 (kX i r e (be l))++(w++(l.take n).flatMap fP))=41+37*n:=by
  rw[bM,bM,yY,h.w,zQ,eM,show lN (kX i r e (be l))=9 from rfl];omega
 rw[ln,P5] at q
 rw[show it (41+37*(n:Int))=41+37*n by omega,show it (41+37*(n:Int)+37)=41+37*n+37 by omega]
 refine Eq.trans (dP (λx=>bY x _ _) ?_) q
 unfold dG
 generalize qW k _=M
 unfold pn
 rw[show l.flatMap fP=(l.take n).flatMap fP++(fP l[n]++(l.drop (n+1)).flatMap fP) by rw[← ch7,← cu7,← el]]
 simp only[fV]
abbrev Wp:Type:=Int×Int×Int×Int×ad×List av
def vt(b:ad)(n:Nat):List av:=(range n).map λ(j:Nat)=>u9 (bY b (41+37*j) (41+37*j+37))
theorem bc0{b:ad}{j:Int}(h:0<=j):vt b (it (j+1))=vt b (it j)++[u9 (bY b (it (41+37*j)) (it (41+37*j+37)))]:=by
 obtain⟨n,rfl⟩:=rx h
 rw[show it ((n:Int)+1)=n+1 by omega,show it (41+37*(n:Int))=41+37*n by omega,show it (41+37*(n:Int)+37)=41+37*n+37 by omega,cb6]
 unfold vt
 rw[mZ,kJ];rfl
def sY(b:ad):Wp:=(bI b 4 1,bI b 5 1,bI b 6 2,bI b 8 1,bY b 9 41,vt b (it (bI b 8 1)))
theorem iz.parts{i r e:Int}{w:ad}{l:List av}(h:iz i r e w l)(k:ad):sY (dG i r e w l k)=(i,r,e,(be l:Int),w,l):=by
 unfold sY
 have g4:bI (dG i r e w l k) 4 1=i:=(h.get k (j:=4) aB).1
 have g5:bI (dG i r e w l k) 5 1=r:=(h.get k (j:=5) aB).1
 have g6:bI (dG i r e w l k) 6 2=e:=(h.get k (j:=6) aB).1
 have g8:bI (dG i r e w l k) 8 1=(be l:Int):=(h.get k (j:=7) aB).1
 rw[g4,g5,g6,g8,h.bef k,cb6]
 congr 5
 unfold vt
 apply List.ext_getElem
 .simp
 intro j h1 h2
 rw[List.getElem_map,List.getElem_range]
 have q:=h.res k (j:=(j:Int)) ab ab
 rw[show it (41+37*(j:Int))=41+37*j by omega,show it (41+37*(j:Int)+37)=41+37*j+37 by omega,cb6,cq,cG h2,iA] at q
 rw[q,Uf (h.ok _ (cc3 h2))]
def oW(b:ad):Int:=if be b<41 then 3 else if b.take 4≠Ut∨64<Om b 8 Sk then 2 else 0
def su(b:ad):Int:=if oW b=0 then 41+37*Om b 8 Sk+32 else 0
theorem iz.hd{i r e:Int}{w:ad}{l:List av}(h:iz i r e w l)(k:ad):∃ t,dG i r e w l k=82::83::74::49::i::r::e/256%256::e%256::(be l:Int)::t:=by
 refine⟨w++l.flatMap fP++qW k (pn i r e w l),?_⟩
 have hn:=h.n
 have hi:=h.i
 have hr:=h.r
 have e1:iJ i 1 1=[i]:=by show [i/1%256]=_;rw[ck8,cg3 ab ab]
 have e2:iJ r 1 1=[r]:=by show [r/1%256]=_;rw[ck8,cg3 ab ab]
 have e3:iJ (be l:Int) 1 1=[(be l:Int)]:=by show [(be l:Int)/1%256]=_;rw[ck8,cg3 ab ab]
 have e4:iJ e 2 2=[e/256%256,e%256]:=by show [e/256^1%256,e/1%256]=_;rw[ck8,Int.pow_one]
 have e5:i7 (kX i r e (be l))=[82,83,74,49,i,r,e/256%256,e%256,(be l:Int)]:=by
  show iJ 82 1 1++(iJ 83 1 1++(iJ 74 1 1++(iJ 49 1 1++(iJ i 1 1++(iJ r 1 1++(iJ e 2 2++(iJ (be l) 1 1++[])))))))=_;rw[e1,e2,e3,e4];rfl
 show i7 (kX i r e (be l))++(w++l.flatMap fP)++qW k (pn i r e w l)=_
 rw[e5,fV];rfl
theorem iz.first{i r e:Int}{w:ad}{l:List av}(h:iz i r e w l)(k:ad){b t:ad}(hb:b <+: dG i r e w l k++t)(h0:oW b=0):su b=be (dG i r e w l k)/\(su b<=be b->b.take (be (dG i r e w l k))=dG i r e w l k/\b.drop (be (dG i r e w l k)) <+: t):=by
 have hl:=h.len (k:=k)
 have h9:41<=be b:=by
  unfold oW at h0;split at h0
  .cases h0
  .omega
 have ⟨s,hs⟩:=hb
 have ⟨u,hu⟩:=h.hd k
 have e8:Om b 8 Sk=(be l:Int):=by
  have:(b++s)[8]? = some (be l:Int):=by rw[hs,hu];rfl
  rw[mC ab] at this;rw[cq,this];rfl
 have e1:su b=be (dG i r e w l k):=by unfold su;rw[aj h0,e8,hl];omega
 refine⟨e1,λh2=>?_⟩
 have h3:be (dG i r e w l k)<=be b:=ab
 have e2:b.take (be (dG i r e w l k))=dG i r e w l k:=by
  have:=dP (take (be (dG i r e w l k))) hs
  rwa [List.take_append_of_le_length h3,cp2] at this
 refine⟨e2,s,?_⟩
 have:=dP (List.drop (be (dG i r e w l k))) hs
 rwa [List.drop_append_of_le_length h3,cl3] at this
theorem iz.lnE0{i r e:Int}{w:ad}{l:List av}(h:iz i r e w l)(k:ad):oW (dG i r e w l k)=0:=by
 have hl:=h.len (k:=k)
 have ⟨u,hu⟩:=h.hd k
 have hn:=h.n
 unfold oW
 rw[ah ab,ah]
 rw[hu]
 rintro (q|q)
 .exact q rfl
 .have q:64<(be l:Int):=q;omega
def vQ(c:jt)(l:List av)(k:ad):jt:=(c.1,c.2.1,c.2.2.1+be l,oG (dG c.1 c.2.1 c.2.2.1 c.2.2.2 l k))
def EO:ad:=replicate 32 0
def vX(i r:Int)(k:ad):ad:=dG i r 0 EO [] k
def z7(i r:Int)(k:ad):jt:=(i,r,0,oG (vX i r k))
def sR(k:ad):jt->List (List av)->List ad
 | _,[]=>[]
 | c,l::ls=>dG c.1 c.2.1 c.2.2.1 c.2.2.2 l k::sR k (vQ c l k) ls
structure AJ (c:jt) (l:List av):Prop where
 s:iz c.1 c.2.1 c.2.2.1 c.2.2.2 l
 n1:1<=be l
 n2:c.2.2.1+be l<=1000
 f:∀ j:Nat,j<be l->(Om l j Sk).1=c.1/\(Om l j Sk).2.1=c.2.1/\(Om l j Sk).2.2.1=c.2.2.1+j
def B5(k:ad):jt->List (List av)->Prop
 | _,[]=>True
 | c,l::ls=>AJ c l/\B5 k (vQ c l k) ls
def GO(c:jt)(i r e:Int)(w:ad)(l:List av):Prop:=(c=(0,0,0,[])/\e=0/\l=[]/\w=EO)∨(c.2.2.2=w/\(c.1,c.2.1,c.2.2.1)=(i,r,e)/\AJ c l)
theorem HE{i r:Int}(hi:0<=i/\i<=15)(hr:0<=r/\r<=63):iz i r 0 EO []:=⟨hi,hr,aB,rfl,aB,λx hx=>(by cases hx)⟩
structure vw (b k:ad) (i r:Int) (ls:List (List av)):Prop where
 hi:0<=i/\i<=15
 hr:0<=r/\r<=63
 ok:B5 k (z7 i r k) ls
 b:b <+: vX i r k++(sR k (z7 i r k) ls).flatten
structure Cp (b k:ad) (ls:List (List av)) (o:Int) (l:List av) (c:jt):Prop where
 ho:0<=o/\o<=be b
 hl:37*(be l:Int)<=o
 s:(o=0/\c=(0,0,0,[])/\l=[])∨∃ l1 l2,ls=l1++l2/\l=l1.flatten/\B5 k c l2/\b.drop (it o) <+: (sR k c l2).flatten
theorem Cp.pre{b k:ad}{ls:List (List av)}{o:Int}{l:List av}{c:jt}(h:Cp b k ls o l c):l <+: ls.flatten:=by
 obtain⟨-,-,rfl⟩|⟨l1,l2,rfl,rfl,-⟩:=h.s
 .exact cy9
 .rw[cj1];exact List.prefix_append ..
theorem Cp.step{b k:ad}{i r o:Int}{ls:List (List av)}{l:List av}{c:jt}(hp:vw b k i r ls)(h:Cp b k ls o l c){n:Int}(hv:n=su (b.drop (it o)))(he:oW (b.drop (it o))=0)(hn:o+n<=be b) :
  ∃ i e w x,∃ r,iz i r e w x/\bY b (it o) (it (o+n))=dG i r e w x k/\GO c i r e w x/\1<=n/\Cp b k ls (o+n) (l++x) (i,r,c.2.2.1+be x,oG (dG i r e w x k)):=by
 have ⟨o0,o1⟩:=h.ho
 have hd:be (b.drop (it o))=be b-it o:=gw
 have sub:∀{m:Nat},n=m->bY b (it o) (it (o+n))=(b.drop (it o)).take m:=λ{m} e=>by
  unfold bY;rw[List.drop_take];congr 1;omega
 have key:∀{i r e:Int}{w:ad}{x:List av}{t:ad},iz i r e w x->b.drop (it o) <+: dG i r e w x k++t->bY b (it o) (it (o+n))=dG i r e w x k/\1<=n/\37*(be x:Int)<=n/\b.drop (it (o+n)) <+: t:=by
  intro i r e w x t hs hb;have hl:=hs.len (k:=k);have ⟨f1,f2⟩:=hs.first k hb he;have ⟨f3,f4⟩:=f2 ab;have f1:=hv.trans f1;refine⟨(sub f1).trans f3,ab,ab,?_⟩;rw[List.drop_drop] at f4
  rwa [show it (o+n)=it o+be (dG i r e w x k) by omega]
 have hl:=h.hl
 obtain⟨rfl,rfl,rfl⟩|⟨l1,l2,rfl,rfl,ho,hb⟩:=h.s
 .have ⟨q1,q2,q3,q4⟩:=key (HE hp.hi hp.hr) hp.b;exact⟨i,0,EO,[],r,HE hp.hi hp.hr,q1,.inl ⟨rfl,rfl,rfl,rfl⟩,q2,⟨ab,hn⟩,by show 37*(0:Int)<=_;omega,.inr ⟨[],ls,rfl,rfl,hp.ok,q4⟩⟩
 .cases l2 with
  | nil =>
   have:b.drop (it o)=[]:=List.prefix_nil.1 hb;rw[this] at he;cases he
  | cons x l2 =>
   have ⟨hs,ho⟩:=ho;have ⟨q1,q2,q3,q4⟩:=key hs.s hb;refine⟨c.1,c.2.2.1,c.2.2.2,x,c.2.1,hs.s,q1,.inr ⟨rfl,rfl,hs⟩,q2,⟨ab,hn⟩,by rw[bM];omega,.inr ⟨l1++[x],l2,by rw[fV];rfl,by rw[cj1];simp,ho,q4⟩⟩
def Y5:Ct:=⟨[.agg u4,.val (.sl bm),.val (.sl cU),.val (.sl bm)],[.own 5 bm],λd=>[iz d.1.1 d.1.2.1 d.1.2.2.1 d.2.1 d.2.2.1,be d.2.2.2.1<=64],λd=>((dG d.1.1 d.1.2.1 d.1.2.2.1 d.2.1 d.2.2.1 d.2.2.2.1,()),())⟩
def bK2:bw Y5.ps->bL:=(λd=>{loops:=(bu 8 (λS=>{ι:=Int×ad,qn:=fH,μ:=λi=>it (be d.2.2.1-i.1),inv:=λi=>0<=i.1/\i.1<=be d.2.2.1/\i.2=i7 (kX d.1.1 d.1.2.1 d.1.2.2.1 (be d.2.2.1))++(d.2.1++(d.2.2.1.take (it i.1)).flatMap fP),keep:=[2,3,9,31,32],slots:=λi=>[(33,.int .i64 i.1)],names:=λi=>[(160,.live (.cells 252 [.own 524288 1])),(524288,.live (.row 5 bm i.2))]}) cC)})
def nJ(a:List av):=be a<=cb2/\ ∀(b:av),b∈a->CT.wf cU b
def AU:=(82:Int)::(83:Int)::(74:Int)::bz 49
def JP(a:Int)(b:List av)(c:ad)(d e f:Int)(g:ad):=am a (a<=ac b) (c=i7 (kX d e f (ac b))++(g++List.flatMap fP (take (it a) b)))
theorem br6:
 ∀(a b c:Int)(d e:ad)(f:List av)(g:ad),bG a b (aq c) (aQ d)/\aQ e/\nJ f/\ai (aQ g)->iz a b c e f/\mb g->1<=be AU/\bV AU/\bV (putB AU a 1)/\bV (putB (putB AU a 1) b 1)/\bV (putB (putB (putB AU a 1) b 1) c 2)/\gp (putB (putB (putB (putB AU a 1) b 1) c 2) (ac f) 1) e/\(∃(h:Int) (i:ad),JP h f i a b c e/\f=f/\g=g/\f=f/\ac f=ac f/\0=h/\ai (putB (putB (putB (putB AU a 1) b 1) c 2) (ac f) 1++e=i))/\ ∀(h:Int)(i:ad),JP h f i a b c e->fh h (ac f) (h<ac f) (mo (ae f h)/\gp i (fP (ae f h))/\ ∃(j:Int) (k:ad),JP j f k a b c e/\bj (ac f) j h/\f=f/\g=g/\f=f/\ac f=ac f/\bf h j/\ai (i++fP (ae f h)=k)) (mb g) (ac i<=1000000000/\gp i (qW g i)/\i++qW g i=dG a b c e f g):= by
  delta ae ac ao aq aK aQ bG bj gp am bP bV fh nJ bz ai bf cN AU JP ax mb
  rintro i r e dg w l k ⟨-,-,⟨hl,-⟩,-⟩⟨h,hk⟩
  have hn:=h.n
  have hw:=h.w
  have p0:putB (putB (putB (putB [82,83,74,49] i 1) r 1) e 2) (be l) 1=i7 (kX i r e (be l)) :=
   TA (λq hq=>h.fits q (jv [(82,1),(83,1),(74,1),(49,1)] hq)) [82,83,74,49]
  have p1:=MG (b:=[82,83,74,49]) (n:=i) (w:=1)
  have p2:=MG (b:=putB [82,83,74,49] i 1) (n:=r) (w:=1)
  have p3:=MG (b:=putB (putB [82,83,74,49] i 1) r 1) (n:=e) (w:=2)
  rw[p0]
  have l9:be (i7 (kX i r e (be l)))=9:=zQ _
  simp only[cX,cb8] at *
  refine⟨ab,ab,ab,ab,ab,ab,⟨0,_,⟨ab,ab,by rw[show it (0:Int)=0 from rfl,List.take_zero,List.flatMap_nil,iX]⟩,aI⟩,?_⟩
  rintro j b ⟨j0,j1,rfl⟩
  have lt:be (l.take (it j))<=64:=by rw[eM];omega
  have lf:=yY (l:=l.take (it j))
  refine ci (λq=>?_) (λq=>?_)
  .refine⟨j0,q,h.ok _ (dm j0 q),by simp only[bM,lf,P5,l9,hw];omega,j+1,_,⟨ab,ab,rfl⟩,ab,?_⟩
   rw[qZ j0 q,cu7,List.flatMap_singleton,← fV,← fV,← fV]
   (repeat refine ik ?_)
   trivial
  .rw[gN ab] at *
   have lb:=h.lenB
   rw[show i7 (kX i r e (be l))++(w++l.flatMap fP)=pn i r e w l from rfl,S5]
   exact⟨hk,ab,ab,rfl⟩
theorem UX:aC 75 Y5.spec:=aF Tryz.func75 (ap (ap (ap aD SN) Wx) UO) bK2 br6
def as8:Ct:=⟨[.val cI,.val cI,.val (.sl bm)],[.agg u4,.val (.sl bm),.val cI],λd=>[0<=d.1,d.1<=15,0<=d.2.1,d.2.1<=63,be d.2.2.1<=64],λd=>((z7 d.1 d.2.1 d.2.2.1,vX d.1 d.2.1 d.2.2.1,0,()),())⟩
def uT(a:Int):=a<=281474976710656
theorem aM4:
 ∀(a b:Int)(c:ad),bG a b (aQ c) True->am a (a<=15) (am b (b<=63) (mb c))->ar ( !wM a b) ((0,0,fL)=z7 a b c/\fw (vX a b c)/\(1:Int)=(0:Int)) (bt 32 32 (uT ((↑((1:Nat)):Int)*32)) (iz a b 0 (replicate 32 0) []/\mb c/\ ∀(d:ad),d=dG a b 0 (replicate 32 0) [] c->aT d/\(a,b,0,oG d)=z7 a b c/\d=vX a b c/\(0:Int)=(0:Int))):= by
  delta ac aq aK aQ bG aT am bt wM fL fp mb fw uT
  rintro i r k-⟨a,b,c,d,hk⟩
  have h:=HE ⟨a,b⟩ ⟨c,d⟩
  have hl:=h.len (k:=k)
  refine aw (λq=>by simp[a,b,c,d] at q) (λ_=>⟨aB,aB,aB,h,hk,?_⟩)
  rintro _ rfl
  exact⟨by show (be (dG i r 0 EO [] k):Int)<=_;rw[hl];decide,rfl,rfl,rfl⟩
theorem bL4:aC 35 as8.spec:=aF Tryz.func35 (ap (ap (ap aD OC) (Ct.named UX)) IK) aU aM4
def ad8:Ct:=⟨[.agg u4,.val cI,.agg cU],[.val .bool],λd=>[d.2.2.1.1=d.1.1,d.2.2.1.2.1=d.1.2.1,d.2.2.1.2.2.1=d.1.2.2.1+d.2.1],λ_=>((bZ3,()),())⟩
theorem ah8:
 ∀(a b c:Int)(d:ad)(e:Int)(f:av),bG a b (aq c) (aQ d)/\aq e/\ai (CT.wf cU f)->f.1=a/\f.2.1=b/\f.2.2.1=c+e-> ∀(g:Bool),g=bZ2 (f.1=a)->fq g g (dA g) (g->g) (∀(h:Bool),h=jm g f.2.1 b->fq h h (dA h) (h->dA h) ((h->h)/\jm h f.2.2.1 (ao (c+e)))):= by
  delta ao aq aK aQ aJ bG cj br fq ai dA jm
  rintro i r e dg j x ⟨⟨-,-,⟨e0,e1⟩,-⟩,⟨j0,j1⟩,⟨-,-,⟨n0,a⟩,-⟩,-⟩⟨h1,h2,h3⟩
  have n0 : -9223372036854775808<=x.2.2.1:=n0
  have a:x.2.2.1<=9223372036854775807:=a
  rw[aG ab ab,h1,h2,h3]
  simp_all
theorem XK:aC 78 ad8.spec:=aF Tryz.func78 aD aU ah8
def SR:Ct:=⟨[.agg u4,.val (.sl cU),.val (.sl bm)],[.agg u4,.val (.sl bm),.val cI],λd=>[AJ d.1 d.2.1,be d.2.2.1<=64],λd=>((vQ d.1 d.2.1 d.2.2.1,dG d.1.1 d.1.2.1 d.1.2.2.1 d.1.2.2.2 d.2.1 d.2.2.1,0,()),())⟩
def af2:bw SR.ps->bL:=(λd=>{loops:=(bu 4 (λS=>{ι:=Int,μ:=λi=>it (be d.2.1-i),inv:=λi=>0<=i/\i<=be d.2.1,keep:=[1,2,3,6,30,31],slots:=λi=>[(32,.int .i64 i)],keepN:=[64,112]}) cC)})
def CR(a b:Bool)(c d:Prop):=∀(e:Bool),e=a->cV e (bR e) (gq e/\bv e/\ar (bq e b) c d)
def LH:=bp 0 0 ((0:Int)=(0:Int)) True
theorem a23:
 ∀(a b c:Int)(d:ad)(e:List av)(f:ad),bG a b (aq c) (aQ d)/\nJ e/\ai (aQ f)->AJ (a,b,c,d) e/\mb f-> ∀(g:Bool),g=ax (ac e) 1->cV g (bv g) (CR (bq g (ax 64 (ac e))) (ax (ao (1000 -ac e)) c) ((0,0,fL)=vQ (a,b,c,d) e f/\fw (dG a b c d e f)/\(5:Int)=(0:Int)) ((∃(h:Int),(0<=h/\h<=ac e)/\e=e/\f=f/\e=e/\ac e=ac e/\0=h/\bN a b c (d=d) LH)/\ ∀(h:Int),0<=h/\h<=ac e->fh h (ac e) (h<ac e) (mo (ae e h)/\bn (ae e h).1 a (ae e h).2.1 b ((ae e h).2.2.1=c+h) (∃(i:Int),rN i (ac e) h (e=e) (f=f/\e=e/\ac e=ac e/\bf h i/\bN a b c (d=d) LH))) (iz a b c d e) (mb f/\ ∀(i:ad),i=dG a b c d e f->aT i/\(a,b,ao (c+ac e),oG i)=vQ (a,b,c,d) e f/\i=dG a b c d e f/\(0:Int)=(0:Int)))):= by
  delta ae ac ao aq aK bN aQ bR bp aJ bG aT bq bj cV am bv gq fh nJ ai fL bf rN dA cN CR ax bn mb fw LH
  rintro i r e dg l k ⟨-,⟨hl,-⟩,-⟩⟨h,hk⟩
  have ⟨a,n1,n2,d⟩:=h
  simp only at a n1 n2 d
  have he:=a.e
  have hn:=a.n
  have hS:=a.len (k:=k)
  rw[aG ab ab,aG ab ab,eT ab,eT ab,eT ab]
  (repeat (intro (b_:Bool) (c:b_=_);(repeat refine⟨(by first|(simp;done)),?_⟩);subst c))
  refine iu.2 ⟨⟨0,⟨ab,ab⟩,aI⟩,?_⟩
  rintro j ⟨f,j1⟩
  refine ci (λq=>?_) (λq=>?_)
  .have ⟨f1,f2,f3⟩:=d (it j) ab
   refine⟨f,q,a.ok _ (dm f q),f1,f2,by rw[f3];omega,j+1,⟨ab,ab⟩,ab,?_⟩
   (repeat refine ik ?_)
   trivial
  .refine⟨a,hk,?_⟩
   rintro _ rfl
   exact⟨ab,rfl,rfl,rfl⟩
theorem bU2:aC 36 SR.spec:=aF Tryz.func36 (ap (ap (ap (ap aD SQ) XK) (Ct.named UX)) IK) af2 a23
def ac9:Ct:=⟨[.val (.sl bm)],[.val cI,.val cI],λ_=>[],λd=>((su d.1,oW d.1,()),())⟩
theorem al6:
 ∀(a:ad),dW (aQ a) (ar (ax (ac a) 41) (0=su a/\3=oW a) (am 8 (8<ac a) (bt 0 4 (4<=ac a) (t9 ( !bZ2 (strOfNums (bY a 0 4)=cF9 (List.toArray [(82:UInt8),(83:UInt8),(74:UInt8),(49:UInt8)]))) (ax 64 (ao (iK a 8))) (0=su a/\2=oW a) (ao (ao (41+ao (37*ao (iK a 8)))+32)=su a/\0=oW a))))):= by
  delta iK ac ao aQ bR aJ bq am bv bt ai jE dW t9 ax
  rintro b ⟨⟨hl,a⟩,-⟩ -
  refine aw (λq=>?_) (λq=>?_)
  .have q:=aX q
   have e:oW b=3:=by unfold oW;rw[aj ab]
   exact⟨by unfold su;rw[e];rfl,e.symm⟩
  have q:=bg q
  have h8:0<=Om b 8 Sk/\Om b 8 Sk<=255:=a _ (dm (i:=8) aB ab)
  have e4:bY b 0 4=b.take 4:=cm3
  have es:(strOfNums (b.take 4)=⟨#[82,83,74,49]⟩)↔b.take 4=Ut:=⟨λh=>Vh (λx hx=>a x (rX hx)) aB (h.trans aB),λh=>by rw[h];decide⟩
  rw[e4,decide_eq_decide.2 es,aG ab ab,aG (n:=37*_) ab ab,aG (n:=41+_) ab ab,aG ab ab]
  refine⟨aB,ab,aB,aB,ab,?_⟩
  (repeat (refine cL ?_;repeat refine cK ?_))
  rw[Xs]
  refine ci (λk=>?_) (λk=>?_)
  .have e:oW b=2:=by unfold oW;rw[ah ab,aj k]
   exact⟨by unfold su;rw[e];rfl,e.symm⟩
  .have e:oW b=0:=by unfold oW;rw[ah ab,ah k]
   exact⟨by unfold su;rw[aj e],e.symm⟩
theorem Tj:aC 37 ac9.spec:=aF Tryz.func37 aD aU al6
def VK:Ct:=⟨[.val (.sl bm)],[.agg Wc,.val cI],λd=>[∃ i r e w l k,iz i r e w l/\d.1=dG i r e w l k],λd=>((sY d.1,0,()),())⟩
def aH0:bw VK.ps->bL:=(λd=>{loops:=(bu 5 (λS=>{ι:=Int×(List av)×Int,qn:=oB,μ:=λi=>it (bI d.1 8 1-i.1),inv:=λi=>0<=i.1/\i.1<=bI d.1 8 1/\i.2.2=41+37*i.1/\i.2.1=vt d.1 (it i.1),keep:=[2,3,4,5,24],slots:=λi=>[(25,.int .i64 i.1)],keepN:=[48],names:=λi=>[(176,.live (.cells 264 [.dsl bm d.1,.int .i64 i.2.2,.int .i64 0])),(96,.live (.cells 192 [.int .i64 (bI d.1 4 1),.int .i64 (bI d.1 5 1),.int .i64 (bI d.1 6 2),.int .i64 (bI d.1 8 1),.own 524289 1,.own 524288 17])),(524289,.live (.row 5 bm (bY d.1 9 41))),(524288,.live (.row 56 cU i.2.1))]}) cC)})
def J5(a:ad):=∃(b c d:Int) (e:ad) (f:List av) (g:ad),iz b c d e f/\a=dG b c d e f g
def JG(a:Int)(b:ad)(c:Int)(d:List av):=bt a (bI b 8 1) (c=41+37*a) (d=vt b (it a))
theorem bx7:
 ∀(a:ad),ai (aQ a)->J5 a->sw 4 ((1:Int)<=(1:Int)) ((1:Int)<=(7:Int)/\ ∀(b:Int)(c:ad)(d e:Int),uG b (bI a 4 1) (c,d,e) (a,4+1,if (0:Int)=(0:Int) then jT a 4 1 else 0) d ((1:Int)<=(1:Int)) ((1:Int)<=(7:Int)/\ ∀(f:Int)(g:ad)(h i:Int),um f c d g h i e->sw h ((1:Int)<=(2:Int)) ((2:Int)<=(7:Int)/\ ∀(j:Int)(k:ad)(l m:Int),uG j (bI g h 2) (k,l,m) (g,h+2,sO i (jT g h 2)) l ((1:Int)<=(1:Int)) ((1:Int)<=(7:Int)/\ ∀(n:Int)(o:ad)(p q:Int),um n k l o p q m->am p ((0:Int)<=(32:Int)) ((32:Int)<=(1000:Int)/\p+32<=ac o/\bV o/\(∃(r:Int) (s:List av) (t:Int),JG r a t s/\bp 0 n (0=r) (aZ 0 0 0 0 (o=a) (bn (p+32) t q 0 (b=bI a 4 1) (bn f (bI a 5 1) j (bI a 6 2) (n=bI a 8 1) (fU o p (p+32)=bY a 9 41/\ai (s=[]))))))/\ ∀(r:Int)(s:List av)(t:Int),JG r a t s->ar (ax r n) (am t ((0:Int)<=(37:Int))
 ((37:Int)<=(1000:Int)/\t+37<=ac a/\bV a/\(∃(u:av),mo u/\fU a t (t+37)=fP u)/\ ∀(u:av),pI (u=u9 (fU a t (t+37))) 0 ((0,0,0,0,[],[])=sY a/\(2:Int)=(0:Int)) (wY s [u]/\ ∃(v:Int) (w:List av) (x:Int),JG v a x w/\bj (bI a 8 1) v r/\bp 0 n (bf r v) (aZ 0 0 0 0 (a=a) (t+37=x/\aZ 0 (bI a 4 1) (bI a 5 1) (bI a 6 2) (bI a 8 1=bI a 8 1) (bY a 9 41=bY a 9 41/\ai (s++[u]=w))))))) ((bI a 4 1,bI a 5 1,bI a 6 2,bI a 8 1,bY a 9 41,s)=sY a/\(0:Int)=(0:Int))))))):= by
  delta ac ao aZ bN aQ bp bj am bP aV fU bV um bt ai uG bf cN sO J5 pI sw ax bn wY JG
  rintro _-⟨i,r,e,w,l,k,h,rfl⟩
  have hl:=h.len (k:=k)
  have hn:=h.n
  have hP:=h.parts k
  have g8:bI (dG i r e w l k) 8 1=(be l:Int):=(h.get k (j:=7) aB).1
  have st:∀{o n x j c:Int}{b:ad},jT (dG i r e w l k) o n=0->x=bI (dG i r e w l k) o n/\(b,j,c)=(dG i r e w l k,o+n,if (0:Int)=0 then jT (dG i r e w l k) o n else 0)->x=bI (dG i r e w l k) o n/\b=dG i r e w l k/\j=o+n/\c=0:=by
   rintro o n x j c b h0 ⟨h1,h2⟩
   rw[aj rfl,h0] at h2
   cases h2
   exact⟨h1,rfl,rfl,rfl⟩
  refine⟨aB,aB,aB,aB,?_⟩
  rintro _ _ _ _ q
  obtain⟨rfl,rfl,rfl,rfl⟩:=st (o:=4) (n:=1) (h.get k (j:=4) aB).2 q
  clear q
  refine⟨aB,aB,aB,aB,?_⟩
  rintro _ _ _ _ q
  obtain⟨rfl,rfl,rfl,rfl⟩:=st (o:=5) (n:=1) (h.get k (j:=5) aB).2 q
  clear q
  refine⟨aB,aB,aB,aB,?_⟩
  rintro _ _ _ _ q
  obtain⟨rfl,rfl,rfl,rfl⟩:=st (o:=6) (n:=2) (h.get k (j:=6) aB).2 q
  clear q
  refine⟨aB,aB,aB,aB,?_⟩
  rintro _ _ _ _ q
  obtain⟨rfl,rfl,rfl,rfl⟩:=st (o:=8) (n:=1) (h.get k (j:=7) aB).2 q
  clear q
  rw[g8]
  refine⟨aB,aB,aB,ab,ab,⟨0,[],41,⟨ab,ab,aB,rfl⟩,?_⟩,?_⟩
  .exact aI
  rintro j z o ⟨j0,j1,rfl,rfl⟩
  refine ci (λq=>?_) (λq=>?_)
  .have rs:=h.res k j0 q
   refine⟨ab,aB,aB,ab,ab,⟨_,h.ok _ (dm j0 q),rs⟩,?_⟩
   rintro y c ⟨hy,rfl⟩
   have hy:=hy
   refine iu.2 ⟨?_,j+1,_,_,⟨ab,ab,rfl,rfl⟩,ab,?_⟩
   .simp only[eI,vt,kW,cn3];omega
   rw[bc0 j0,← hy,show 41+37*j+37=41+37*(j+1) by omega]
   (repeat refine ik ?_)
   trivial
  .rw[show it j=be l by omega]
   refine⟨?_,rfl⟩
   have:=hP
   unfold sY at this ⊢
   rw[g8];rfl
theorem aY8:aC 79 VK.spec:=aF Tryz.func79 (ap (ap (ap aD (Ct.named Xe)) bf8) (Ct.named aj9)) aH0 bx7
def bq5:Ct:=⟨[.agg u4],[.val .bool],λ_=>[],λd=>((bZ2 (d.1.1=0/\d.1.2.1=0/\d.1.2.2.1=0/\be d.1.2.2.2=0),()),())⟩
theorem a97:
 ∀(a b c:Int)(d:ad),dW (bG a b (aq c) (aQ d)) (∀(e:Bool),e=aV a->cj e e (aJ e) (e->e) (∀(f:Bool),f=br e (aV b)->cj f f (aJ f) (f->f) (∀(g:Bool),g=br f (aV c)->fq g g (aJ g) (g->g) (br g (aV (ac d))=bZ2 (a=0/\b=0/\c=0/\be d=0))))):= by
  delta ac aq aK aQ aJ bG cj br aV fq ai dW
  rintro a b c d - -
  (repeat (refine cL ?_;repeat refine cK ?_))
  rw[zV,zV,zV]
  exact decide_eq_decide.2 ab
theorem au0:aC 151 bq5.spec:=aF Tryz.func151 aD aU a97
def UD:Ct:=⟨[.agg u4,.agg Wc],[.val .bool],λd=>[∃ i r e w l,iz i r e w l/\d.2.1=(i,r,e,(be l:Int),w,l)/\GO d.1 i r e w l],λ_=>((bZ3,()),())⟩
def bh2:bw UD.ps->bL:=(λd=>{loops:=(bu 6 (λS=>{ι:=Int,μ:=λi=>it (be d.2.1.2.2.2.2.2-i),inv:=λi=>0<=i/\i<=be d.2.1.2.2.2.2.2,keep:=[2,3,71,72],slots:=λi=>[(73,.int .i64 i)],keepN:=[48,64]}) cC)})
def Hr(a:Wp)(b:jt):=∃(c d e:Int) (f:ad) (g:List av),iz c d e f g/\a=(c,d,e,ac g,f,g)/\GO b c d e f g
def zH(a b c:Bool)(d e:Prop):=a=bq b c->cV a (gq a) (d/\e)
theorem af0:
 ∀(a b c:Int)(d:ad)(e f g h:Int)(i:ad)(j:List av),bG a b (aq c) (aQ d)/\ai (bG e f (aq g) (aq h/\aQ i/\xK j))->Hr (e,f,g,h,i,j) (a,b,c,d)->ar (bZ2 (a=0/\b=0/\c=0/\be d=0)) (∀(k:Bool),k=aV g->cj k k (aJ k) (k->k) (∀(l:Bool),l=br k (aV h)->(l->aJ l)/\ar l (bt 32 32 (uT ((↑((1:Nat)):Int)*32)) ((l->aJ l)/\(l->l)/\ ∀(m:Bool),m=br l (bZ2 (i=replicate 32 0))->fq m m (dA m) (m->m) (br m (wM e f)))) (l=bZ6/\(l->bZ6)/\ ∀(m:Bool),m=br l bZ6->fq m m (dA m) (m->m) (br m (wM e f))))) (∀(k:Bool),k=aV h->cV k (gq k) (bv k/\ ∀(l:Bool),zH l k (cP e a) (bv l) (∀(m:Bool),zH m l (cP f b) (bv m) (∀(n:Bool),zH n m (cP g c) (bR n) (bv n/\CR (bq n ( !bZ2 (i=d))) (ax (ao (1000 -h)) c) bZ6 ((∃(o:Int),(0<=o/\o<=ac j)/\j=j/\ac j=ac j/\0=o/\bN a b c (d=d) (aZ e f g h
 (i=i) (ai (j=j))))/\ ∀(o:Int),0<=o/\o<=ac j->ar (ax o (ac j)) (bJ o (ac j) ((ae j o).1=a) ((ae j o).2.1=b/\(ae j o).2.2.1=c+o/\ ∃(p:Int),rN p (ac j) o (j=j) (ac j=ac j/\bf o p/\bN a b c (d=d) (aZ e f g h (i=i) (ai (j=j)))))) bZ3)))))):= by
  delta ae ac ao aq aK aZ bN aQ bR bp aJ xK aO bG cj bq bj br cV am bv gq aV fq bt ai wM bf rN dA cN fp cP bJ CR Hr ax bn zH uT
  rintro a b c d i r e n w l ⟨⟨-,-,⟨c0,c1⟩,-⟩,-⟩⟨i,r,e,w,l,h,hp,hk⟩
  cases hp
  obtain⟨hc,rfl,rfl,rfl⟩|⟨h1,h2,hs⟩:=hk
  .cases hc
   have h0:=h.i
   have h3:=h.r
   rw[ft (⟨rfl,rfl,rfl,rfl⟩:(0:Int)=0/\(0:Int)=0/\(0:Int)=0/\be ([]:ad)=0),ft h0.1,ft h0.2,ft h3.1,ft h3.2]
   refine Mj.2 ?_
   (repeat (intro (b_:Bool) (hb_:b_=_);(repeat refine⟨(by first|(simp;done)|(rw[hb_];simp;done)|(rw[hb_];simp;omega)|(rw[hb_];simp;intros;omega)|(rw[hb_];simp +contextual;done)),?_⟩);subst hb_))
   refine aw (λ_=>⟨aB,aB,aB,?_⟩) (λq=>absurd q aB)
   (repeat (refine cL ?_;repeat refine cK ?_))
   decide
  .have h1:d=w:=h1
   cases h2
   subst h1
   have hw:=h.w
   have hn:=h.n
   obtain⟨-,n1,n2,hf⟩:=hs
   simp only at n1 n2 hf
   have he:=h.e
   rw[eT ab,aG (n:=1000-(be l:Int)) ab ab,eT (show ¬ (be l:Int)=0 by omega),eT (show ¬ 1000-(be l:Int)<c by omega)]
   simp only[decide_true,Bool.not_true]
   refine iu.2 ?_
   (repeat (intro (b_:Bool) (hb_:b_=_);(repeat refine⟨(by first|(simp;done)|(rw[hb_];simp;done)|(rw[hb_];simp;omega)|(rw[hb_];simp;intros;omega)|(rw[hb_];simp +contextual;done)),?_⟩);subst hb_))
   refine iu.2 ⟨⟨0,⟨ab,ab⟩,aI⟩,?_⟩
   rintro j ⟨j0,j1⟩
   refine aw (λq=>?_) (λ_=>trivial)
   have q:=aX q
   have ⟨f1,f2,f3⟩:=hf (it j) ab
   refine⟨j0,q,f1,f2,by rw[f3];omega,j+1,⟨ab,ab⟩,ab,?_⟩
   (repeat refine ik ?_)
   trivial
theorem an1:aC 82 UD.spec:=aF Tryz.func82 (ap (ap (ap (ap aD au0) MZ) OC) XK) bh2 af0
def aW3:Ct:=⟨[.agg u4,.val (.sl bm),.val (.sl bm)],[.agg u4,.val (.sl cU),.val cI],λd=>[∃ i r e w l,iz i r e w l/\d.2.1=dG i r e w l d.2.2.1/\GO d.1 i r e w l,be d.2.2.1<=64],λd=>(((((sY d.2.1).1,(sY d.2.1).2.1,d.1.2.2.1+(sY d.2.1).2.2.2.1,oG d.2.1):jt),(sY d.2.1).2.2.2.2.2,0,()),())⟩
def FG(a:ad)(b:Int):=(bI a 4 1,bI a 5 1,b+bI a 8 1,oG a)
def DC(a:ad)(b:Int):=(0,0,fL)=FG a b
def Dj(a:ad):=[]=vt a (it (bI a 8 1))
def HR(a b:ad)(c:jt):=∃(d e f:Int) (g:ad) (h:List av),iz d e f g h/\a=dG d e f g h b/\GO c d e f g h
theorem bF8:
 ∀(a b c:Int)(d e f:ad),bG a b (aq c) (aQ d)/\aQ e/\ai (aQ f)->HR e f (a,b,c,d)/\mb f-> ∀(g h:Int),g=su e/\h=oW e->lY (aV h) (DC e c) (Dj e/\h=0) (ax (ac e) g) (DC e c/\Dj e/\(3:Int)=(0:Int)) (ar (ax g (ac e)) (DC e c/\Dj e/\(2:Int)=(0:Int)) (J5 e/\ ∀(i j k l:Int)(m:ad)(n:List av),pI ((i,j,k,l,m,n)=sY e) 0 (DC e c/\Dj e/\(2:Int)=(0:Int)) (bt (ao (g -32)) (ac e) (ph e) (bt 0 (ao (g -32)) (ao (g -32)<=ac e) (mb f/\ac (bY e 0 (jL (g -32)))<=1000000000/\ ∀(o:ad),o=qW f (bY e 0 (jL (g -32)))->ar ( !bZ2 (fU e (ao (g -32)) (ac e)=o)) (DC e c/\Dj e/\(19:Int)=(0:Int)) (Hr (i,j,k,l,m,n) (a,b,c,d)/\aT e/\(i,j,ao (c+l),oG e)=FG e c/\n=vt e (it (bI e 8 1))/\(0:Int)=(0:Int))))))):= by
  delta ac ao aq aK aQ bG aT am aV fU bt ai fL DC FG Dj jL J5 pI Hr ax HR mb lY ph
  rintro a b c d x k-⟨⟨i,r,e,w,l,h,rfl,hk⟩,k64⟩
  have hP:=h.parts k
  have hl:=h.len (k:=k)
  have h0:=h.lnE0 k
  have hV:=(h.first k (b:=dG i r e w l k) (t:=[]) (by rw[iX];exact List.prefix_rfl) h0).1
  have hn:=h.n
  have e1:bY (dG i r e w l k) 0 (be (pn i r e w l))=pn i r e w l:=by unfold bY dG;rw[cp2,cm3]
  have e2:bY (dG i r e w l k) (be (pn i r e w l)) (be (dG i r e w l k))=qW k (pn i r e w l):=by unfold bY;rw[cg7];unfold dG;rw[cl3]
  have lb:=h.lenB
  rintro n y ⟨hn',hy⟩
  have hn':=hn'.trans hV
  have hy:=hy.trans h0
  subst hn' hy
  refine iu.2 (aw (λq=>by have q:=aX q;omega) (λ_=>aw (λq=>by have q:=aX q;omega) (λ_=>⟨⟨i,r,e,w,l,k,h,rfl⟩,?_⟩)))
  rintro i' r' e' n' w' l' y ⟨hp,hy⟩
  have hy:=hy
  subst hy
  have hp:=hp.trans hP
  cases hp
  rw[aG (n:=(be (dG i r e w l k):Int)-32) ab ab,show it ((be (dG i r e w l k):Int)-32)=be (pn i r e w l) by omega,e1,cb6,e2]
  refine iu.2 ⟨ab,ab,ab,ab,ab,ab,k64,ab,?_⟩
  rintro _ rfl
  rw[ft rfl]
  unfold sY at hP
  have g1:=dP (λx=>x.1) hP
  have g2:=dP (λx=>x.2.1) hP
  have g4:=dP (λx=>x.2.2.2.1) hP
  have g6:=dP (λx=>x.2.2.2.2.2) hP
  simp only at g1 g2 g4 g6
  rw[g4] at g6 ⊢
  rw[g1,g2,g6]
  refine iu.2 ⟨⟨i,r,e,w,l,h,rfl,hk⟩,ab,?_,rfl,rfl⟩
  have:c+(be l:Int)<=2000/\0<=c:=by
   obtain⟨hc,-⟩|⟨-,h2,hs⟩:=hk
   .cases hc;omega
   .cases h2;have:=hs.n2;have:=h.e;simp only at *;omega
  rw[aG (n:=c+_) ab ab]
theorem a74:aC 38 aW3.spec:=aF Tryz.func38 (ap (ap (ap (ap (ap (ap aD (Ct.named Tj)) (Ct.named aY8)) (Ct.named UO)) MZ) an1) IK) aU bF8
def Wd(b k:ad)(l:List av):Prop:=∀ i r ls,vw b k i r ls->l <+: ls.flatten
def Wk:Cn:=⟨[.val (.sl bm),.val (.sl bm)],[.agg u4,.val (.sl cU),.val cI],λd=>[∃ i r ls,vw d.1 d.2.1 i r ls,(be d.1:Int)<=1000000,be d.2.1<=64],λd y=>Wd d.1 d.2.1 y.1.2.1,λ_ _=>⟨((((0,0,0,[]):jt),[],0,()),()),λ_ _ _ _=>cy9⟩⟩
def bt9:bw Wk.ps->bL:=(λd=>{loops:=(bu 4 (λS=>{ι:=Int×(List av)×bY4,qn:=oB,μ:=λi=>it (be d.1-i.1),inv:=λi=>(0<=i.1/\i.1<=be d.1/\37*(be i.2.1:Int)<=i.1)∧∀ p q m,vw d.1 d.2.1 p q m->Cp d.1 d.2.1 m i.1 i.2.1 i.2.2,keep:=[0,1,4,7],slots:=λi=>[(8,.own 524288 17),(9,.int .i64 i.1)],keepN:=[80],names:=λi=>[(128,.live (.cells 61 (cF u4 i.2.2))),(524288,.live (.row 56 cU i.2.1))]}) cC)})
def KL(a:Int)(b:ad)(c:List av)(d:ad)(e:jt):=am a (a<=ac b) (37*ac c<=a)/\ ∀(f g:Int)(h:List (List av)),vw b d f g h->Cp b d h a c e
def Hi(a b:Bool)(c d:Prop):=∀(e:Bool),e=a->bR e/\gq e/\gq e/\bv e/\ar (bq e b) c d
theorem aa7:
 ∀(a b:ad),aQ a/\ai (aQ b)->(∃(c d:Int) (e:List (List av)),vw a b c d e)/\bV a/\mb b->(∃(c:Int) (d:List av) (e:jt),KL c a d b e/\a=a/\b=b/\0=c/\bN 0 0 0 (0=e.1) (bn 0 e.2.1 0 e.2.2.1 (e.2.2.2=[]) (ai (d=[]))))/\ ∀(c:Int)(d:List av)(e:jt),KL c a d b e->bt c (ac a) (ph a) (∀(f g:Int),f=su (fU a c (ac a))/\g=oW (fU a c (ac a))->Hi ( !aV g) (ax (ao (ac a -c)) f) (∀(h i:Int)(j:List (List av)),vw a b h i j->cm7 d (cc9 j)) (bt c (ao (c+f)) (ao (c+f)<=ac a) (HR (mR a c f) b e/\mb b/\ ∀(h i j:Int)(k:ad)(l:List av)(m:Int),(h,i,j,k)=FG (mR a c f) e.2.2.1/\l=vt (mR a c f) (it (bI (mR a c f) 8 1))/\m=0->ar ( !aV m) (∀(n o:Int)(p:List (List av)),vw a b n o p->cm7 d (cc9 p)) (wY d l/\ ∃(n:Int) (o:List av) (p:jt),KL n a o b p/\bj (ac a) n
 c/\a=a/\b=b/\ao (c+f)=n/\bN 0 0 0 (h=p.1) (bn i p.2.1 j p.2.2.1 (k=p.2.2.2) (ai (d++l=o))))))):= by
  delta ac ao bN aQ bR bp aJ bq bj am bP bv gq aV fU bV bt ai dA FG KL cN mR Hi ax HR bn wY mb ph
  rintro b k-⟨⟨i0,r0,ls0,hp0⟩,hb,hk⟩
  refine⟨⟨0,[],(0,0,0,[]),⟨⟨ab,ab,aB⟩,λp q m _=>⟨⟨ab,ab⟩,aB,.inl ⟨rfl,rfl,rfl⟩⟩⟩,aI⟩,?_⟩
  rintro o l c ⟨⟨o0,o1,o2⟩,hR⟩
  have e:bY b (it o) (it (be b:Int))=b.drop (it o):=by unfold bY;rw[cb6,cg7]
  rw[e,aG (n:=(be b:Int)-o) ab ab]
  refine⟨o0,o1,io _,?_⟩
  rintro n y ⟨hn,hy⟩
  have hn:=hn
  have hy:=hy
  (repeat (refine cL ?_;repeat refine cK ?_))
  rw[Xs]
  refine aw (λq=>λi r ls hp=>(hR i r ls hp).pre) (λq=>?_)
  have q:=bg q
  have y0:oW (b.drop (it o))=0:=ab
  have hn2:o+n<=be b:=ab
  have st:=λp q m (hp:vw b k p q m)=>(hR p q m hp).step hp hn y0 hn2
  have ⟨i,e',w,x,r,hs,hsub,hlk,n1,hR'⟩:=st _ _ _ hp0
  have h1:=hR'.hl
  rw[bM] at h1
  rw[aG (n:=o+n) ab ab]
  refine⟨o0,ab,hn2,⟨i,r,e',w,x,hs,hsub,hlk⟩,hk,?_⟩
  rintro c1 c2 c3 c4 z u ⟨hc,hz,rfl⟩
  have all:∀ {i r e w x},iz i r e w x->bY b (it o) (it (o+n))=dG i r e w x k->(c1,c2,c3,c4)=(i,r,c.2.2.1+(be x:Int),oG (dG i r e w x k))/\z=x:=by
   intro i r e w x hs hsub
   have hP:=hs.parts k
   unfold sY at hP
   have g1:=dP (λx=>x.1) hP
   have g2:=dP (λx=>x.2.1) hP
   have g4:=dP (λx=>x.2.2.2.1) hP
   have g6:=dP (λx=>x.2.2.2.2.2) hP
   simp only at g1 g2 g4 g6
   rw[g4] at g6
   rw[hsub,g1,g2,g4] at hc
   rw[hsub,g4,g6] at hz
   exact⟨hc,hz⟩
  have hzx:=(all hs hsub).2
  subst hzx
  refine iu.2 ⟨ab,o+n,l++z,(c1,c2,c3,c4),⟨⟨ab,hn2,by rw[bM];omega⟩,λp q m hp=>?_⟩,ab,aI⟩
  have ⟨i,e',w,x,r,hs,hsub,hlk,n1,hR'⟩:=st _ _ _ hp
  obtain⟨a1,rfl⟩:=all hs hsub
  rw[a1]
  exact hR'
theorem bV4:aC 11 Wk.spec:=lL Tryz.func11 (ap (ap aD (Ct.named Tj)) (Ct.named a74)) bt9 aa7
def first(f:Nat->Int):Nat->Int
 | 0=>0
 | n+1=>if first f n≠0 then first f n else f n
theorem Hm{f:Nat->Int}{i:Int}(h0:0<=i)(h:first f (it i)=0)(hf:f (it i)=0):first f (it (i+1))=0:=by
 rw[show it (i+1)=it i+1 by omega,first,ah (by simp[h]),hf]
theorem NL{f:Nat->Int}{a:Nat}(h:first f a≠0):∀ k,first f (a+k)=first f a
 | 0=>rfl
 | k+1=>by rw[← gG,first,aj (by rw[NL h k];exact h),NL h k]
theorem O0{f:Nat->Int}{i:Int}{n:Nat}(h0:0<=i)(h1:i<n)(h:first f (it i)=0)(hf:f (it i)≠0):f (it i)=first f n:=by
 have e:first f (it i+1)=f (it i):=by rw[first,ah (by simp[h])]
 have k:=NL (a:=it i+1) (by rw[e];exact hf) (n-(it i+1))
 rw[show it i+1+(n-(it i+1))=n by omega] at k
 rw[k,e]
theorem zi{f:Nat->Int}:∀{n:Nat},first f n=0→∀ i,i<n->f i=0
 | 0,_,i,hi=>ab
 | n+1,h,i,hi=>by
  by_cases k:first f n=0
  .rw[first,ah (by simp[k])] at h;by_cases e:i=n
   .rw[e];exact h
   .exact zi k i ab
  .rw[first,aj k] at h;exact absurd h k
theorem KE{f:Nat->Int}:∀{n:Nat},(∀ i,i<n->f i=0)->first f n=0
 | 0,_=>rfl
 | n+1,h=>by rw[first,ah (by rw[KE λi hi=>h i ab];simp),h n ab]
def lu(x:au)(i:Nat):Int :=
 if ¬ ga (Om (aS x) i Sk).1∨pi x (Om (aS x) i Sk).1<i then 10
 else if (Om (aS x) i Sk).2<0∨fS x (Om (aS x) i Sk).2<i then 11 else 0
def tR(x:au):Prop:=kL x≠0/\(¬ ga (kL x)∨0<=pi x (kL x))
instance (x:au):Decidable (tR x):=by unfold tR;infer_instance
def rD(x:au):Prop:=UE x<0∨(oQ x<1∨4<oQ x)∨(oQ x=3/\kL x=0)∨(uV x≠0∧¬ ga (uV x))∨(oQ x=4/\uV x=0)∨(lK x<1∨255<lK x)∨be (aS x)=0
instance (x:au):Decidable (rD x):=by unfold rD;infer_instance
def ix(x:au):Int :=
 if 32<be (aS x) then 5
 else if first (lu x) (be (aS x))≠0 then first (lu x) (be (aS x))
 else if tR x then 10
 else if rD x then 13
 else if qr x≠0 then qr x
 else if jj (mX x)≠0 then jj (mX x)
 else jq (bW x) (de x)
theorem CI{c:Bool}{y n m:Prop}(hy:c=bZ3->y)(hm:c=bZ6->m):ar c (ar c y n) m:=by
 cases c with
 | true=>exact hy rfl
 | false=>exact hm rfl
theorem TC{x:au}(h:be (aS x)<=32){i:Int}(h0:0<=i)(h1:i<be (aS x))(hf:first (lu x) (it i)=0)(hb:lu x (it i)≠0):lu x (it i)=ix x:=by
 have e:=O0 h0 h1 hf hb
 unfold ix
 rw[ah ab,← e,aj hb]
theorem aa3{x:au}(h:be (aS x)<=32)(hf:first (lu x) (be (aS x))=0)(hl:tR x):10=ix x:=by
 unfold ix
 rw[ah ab,ah (by simp[hf]),aj hl]
theorem by6{x:au}(h:be (aS x)<=32)(hf:first (lu x) (be (aS x))=0)(hl:¬ tR x)(hb:rD x):13=ix x:=by
 unfold ix
 rw[ah ab,ah (by simp[hf]),ah hl,aj hb]
theorem Yv{x:au}(h:be (aS x)<=32)(hf:first (lu x) (be (aS x))=0)(hl:¬ tR x)(hb:¬ rD x):ix x=if qr x≠0 then qr x else if jj (mX x)≠0 then jj (mX x) else jq (bW x) (de x):=by
 unfold ix
 rw[ah ab,ah (by simp[hf]),ah hl,ah hb]
theorem ba7{x:au}{i:Int}(h0:0<=i)(h:¬ ga (Om (aS x) (it i) Sk).1∨pi x (Om (aS x) (it i) Sk).1<i):lu x (it i)=10:=by
 unfold lu
 rw[show ((it i:Nat):Int)=i by omega,aj h]
theorem aA6{x:au}{i:Int}(h0:0<=i)(h:¬ (¬ ga (Om (aS x) (it i) Sk).1∨pi x (Om (aS x) (it i) Sk).1<i))(k:(Om (aS x) (it i) Sk).2<0∨fS x (Om (aS x) (it i) Sk).2<i):lu x (it i)=11:=by
 unfold lu
 rw[show ((it i:Nat):Int)=i by omega,ah h,aj k]
theorem a71{x:au}{i:Int}(h0:0<=i)(h:¬ (¬ ga (Om (aS x) (it i) Sk).1∨pi x (Om (aS x) (it i) Sk).1<i))(k:¬ ((Om (aS x) (it i) Sk).2<0∨fS x (Om (aS x) (it i) Sk).2<i)):lu x (it i)=0:=by
 unfold lu
 rw[show ((it i:Nat):Int)=i by omega,ah h,ah k]
def RV:Ct:=⟨[.agg eh],[.val cI],λd=>[],λd=>((ix d.1,()),())⟩
def aP0:bw RV.ps->bL:=(λd=>{loops:=(bu 4 (λS=>{ι:=Int,μ:=λi=>it (be (aS d.1)-i),inv:=λi=>0<=i/\i<=be (aS d.1)/\first (lu d.1) (it i)=0,keep:=[1,12,13],slots:=λi=>[(14,.int .i64 i)],keepN:=[32]}) cC),cuts:=(bu 21 (λS=>{ι:=Unit,inv:=λi=>be (aS d.1)<=32/\first (lu d.1) (be (aS d.1))=0∧¬ tR d.1∧¬ rD d.1,keep:=[1],slots:=λi=>[],keepN:=[32]}) cC),unr:=λn=>match n with|22=>4|_=>0})
def Pt(a:au):=be (aS a)<=32/\first (lu a) (be (aS a))=0/\ ¬tR a/\ ¬rD a
def xQ(a b:Int)(c d:Bool)(e f:Int):=lp a b c (d=d) (m5 e f)
def xU(a:au)(b:bg8)(c:List cz):=qr a::jj b::bz (jq c (de a))
def JW(a:Int)(b:au):=am a (a<=ac (aS b)) (first (lu b) (it a)=0)
def zY(a:au)(b:bX8)(c d:Int)(e:Bool)(f g:Prop):=∃(h:Unit),Pt a/\b=b/\lp c d e f g
theorem bk4:
 ∀(a:au),dW (CT.wf eh a) (ar (ax 32 (ac a.1)) (5=ix a) ((∃(b:Int),JW b a/\a.1=a.1/\bn (ac a.1) (ac a.1) 0 b (a.1=a.1) (lp a.2.1 a.2.2.1 a.2.2.2.1 (a.2.2.2.2.1=a.2.2.2.2.1) (aZ a.2.2.2.2.2.1 a.2.2.2.2.2.2.1 a.2.2.2.2.2.2.2.1 a.2.2.2.2.2.2.2.2.1 (a.2.2.2.2.2.2.2.2.2.1=a.2.2.2.2.2.2.2.2.2.1) (xQ a.2.2.2.2.2.2.2.2.2.2.1.1 a.2.2.2.2.2.2.2.2.2.2.1.2 a.2.2.2.2.2.2.2.2.2.2.2.1 a.2.2.2.2.2.2.2.2.2.2.2.2.1 a.2.2.2.2.2.2.2.2.2.2.2.2.2.1 a.2.2.2.2.2.2.2.2.2.2.2.2.2.2))))/\ ∀(b:Int),JW b a->ar (ax b (ac a.1)) (am b (b<ac a.1) (Hi ( !bZ2 (ga (ae a.1 b).1)) (ax (pi a (ae a.1 b).1) b) (10=ix a) (Hi (dH (ae a.1 b).2) (ax (fS a (ae a.1 b).2) b) (11=ix a) (∃(c:Int),JW c a/\Cu a c b a.1 (a.1=a.1) (lp a.2.1 a.2.2.1 a.2.2.2.1 (a.2.2.2.2.1=a.2.2.2.2.1) (aZ a.2.2.2.2.2.1 a.2.2.2.2.2.2.1 a.2.2.2.2.2.2.2.1 a.2.2.2.2.2.2.2.2.1
 (a.2.2.2.2.2.2.2.2.2.1=a.2.2.2.2.2.2.2.2.2.1) (xQ a.2.2.2.2.2.2.2.2.2.2.1.1 a.2.2.2.2.2.2.2.2.2.2.1.2 a.2.2.2.2.2.2.2.2.2.2.2.1 a.2.2.2.2.2.2.2.2.2.2.2.2.1 a.2.2.2.2.2.2.2.2.2.2.2.2.2.1 a.2.2.2.2.2.2.2.2.2.2.2.2.2.2))))))) (∀(c:Bool),c=( !aV a.2.1)->fq c c (aJ c) (c->aJ c) (∀(d:Bool),d=( !bZ2 (ga a.2.1))->cj (c&& !d) (c&& !d) (dA (c&& !d)) (c&& !d->aJ (c&& !d)) (ui c d/\(c->c)/\ar (br c (bq d (fp (pi a a.2.1)))) (10=ix a) (ar (dH a.2.2.1) (ar (dH a.2.2.1) (13=ix a) (zY a a.1 a.2.1 a.2.2.1 a.2.2.2.1 (a.2.2.2.2.1=a.2.2.2.2.1) (aZ a.2.2.2.2.2.1 a.2.2.2.2.2.2.1 a.2.2.2.2.2.2.2.1 a.2.2.2.2.2.2.2.2.1 (a.2.2.2.2.2.2.2.2.2.1=a.2.2.2.2.2.2.2.2.2.1) (xQ a.2.2.2.2.2.2.2.2.2.2.1.1 a.2.2.2.2.2.2.2.2.2.2.1.2 a.2.2.2.2.2.2.2.2.2.2.2.1 a.2.2.2.2.2.2.2.2.2.2.2.2.1 a.2.2.2.2.2.2.2.2.2.2.2.2.2.1 a.2.2.2.2.2.2.2.2.2.2.2.2.2.2)))) (u6 (ax
 a.2.2.2.2.2.1 1) (ax 4 a.2.2.2.2.2.1) (13=ix a) (zY a a.1 a.2.1 a.2.2.1 a.2.2.2.1 (a.2.2.2.2.1=a.2.2.2.2.1) (aZ a.2.2.2.2.2.1 a.2.2.2.2.2.2.1 a.2.2.2.2.2.2.2.1 a.2.2.2.2.2.2.2.2.1 (a.2.2.2.2.2.2.2.2.2.1=a.2.2.2.2.2.2.2.2.2.1) (xQ a.2.2.2.2.2.2.2.2.2.2.1.1 a.2.2.2.2.2.2.2.2.2.2.1.2 a.2.2.2.2.2.2.2.2.2.2.2.1 a.2.2.2.2.2.2.2.2.2.2.2.2.1 a.2.2.2.2.2.2.2.2.2.2.2.2.2.1 a.2.2.2.2.2.2.2.2.2.2.2.2.2.2))) (∀(e:Bool),e=bZ2 (a.2.2.2.2.2.1=3)->uc e e (br e (aV a.2.1)) (ar (br e (aV a.2.1)) (13=ix a) (zY a a.1 a.2.1 a.2.2.1 a.2.2.2.1 (a.2.2.2.2.1=a.2.2.2.2.1) (aZ a.2.2.2.2.2.1 a.2.2.2.2.2.2.1 a.2.2.2.2.2.2.2.1 a.2.2.2.2.2.2.2.2.1 (a.2.2.2.2.2.2.2.2.2.1=a.2.2.2.2.2.2.2.2.2.1) (xQ a.2.2.2.2.2.2.2.2.2.2.1.1 a.2.2.2.2.2.2.2.2.2.2.1.2 a.2.2.2.2.2.2.2.2.2.2.2.1 a.2.2.2.2.2.2.2.2.2.2.2.2.1 a.2.2.2.2.2.2.2.2.2.2.2.2.2.1 a.2.2.2.2.2.2.2.2.2.2.2.2.2.2)))) (∀(f:Bool),f=(
 !aV a.2.2.2.2.2.2.1)->fq f f (aJ f) (f->f) (ar (br f ( !bZ2 (ga a.2.2.2.2.2.2.1))) (ar (br f ( !bZ2 (ga a.2.2.2.2.2.2.1))) (13=ix a) (zY a a.1 a.2.1 a.2.2.1 a.2.2.2.1 (a.2.2.2.2.1=a.2.2.2.2.1) (aZ a.2.2.2.2.2.1 a.2.2.2.2.2.2.1 a.2.2.2.2.2.2.2.1 a.2.2.2.2.2.2.2.2.1 (a.2.2.2.2.2.2.2.2.2.1=a.2.2.2.2.2.2.2.2.2.1) (xQ a.2.2.2.2.2.2.2.2.2.2.1.1 a.2.2.2.2.2.2.2.2.2.2.1.2 a.2.2.2.2.2.2.2.2.2.2.2.1 a.2.2.2.2.2.2.2.2.2.2.2.2.1 a.2.2.2.2.2.2.2.2.2.2.2.2.2.1 a.2.2.2.2.2.2.2.2.2.2.2.2.2.2)))) (∀(g:Bool),g=bZ2 (a.2.2.2.2.2.1=4)->uc g g (br g (aV a.2.2.2.2.2.2.1)) (ar (br g (aV a.2.2.2.2.2.2.1)) (13=ix a) (zY a a.1 a.2.1 a.2.2.1 a.2.2.2.1 (a.2.2.2.2.1=a.2.2.2.2.1) (aZ a.2.2.2.2.2.1 a.2.2.2.2.2.2.1 a.2.2.2.2.2.2.2.1 a.2.2.2.2.2.2.2.2.1 (a.2.2.2.2.2.2.2.2.2.1=a.2.2.2.2.2.2.2.2.2.1) (xQ a.2.2.2.2.2.2.2.2.2.2.1.1 a.2.2.2.2.2.2.2.2.2.2.1.2
 a.2.2.2.2.2.2.2.2.2.2.2.1 a.2.2.2.2.2.2.2.2.2.2.2.2.1 a.2.2.2.2.2.2.2.2.2.2.2.2.2.1 a.2.2.2.2.2.2.2.2.2.2.2.2.2.2)))) (u6 (ax a.2.2.2.2.2.2.2.2.2.2.2.2.2.1 1) (ax 255 a.2.2.2.2.2.2.2.2.2.2.2.2.2.1) (13=ix a) (zY a a.1 a.2.1 a.2.2.1 a.2.2.2.1 (a.2.2.2.2.1=a.2.2.2.2.1) (aZ a.2.2.2.2.2.1 a.2.2.2.2.2.2.1 a.2.2.2.2.2.2.2.1 a.2.2.2.2.2.2.2.2.1 (a.2.2.2.2.2.2.2.2.2.1=a.2.2.2.2.2.2.2.2.2.1) (xQ a.2.2.2.2.2.2.2.2.2.2.1.1 a.2.2.2.2.2.2.2.2.2.2.1.2 a.2.2.2.2.2.2.2.2.2.2.2.1 a.2.2.2.2.2.2.2.2.2.2.2.2.1 a.2.2.2.2.2.2.2.2.2.2.2.2.2.1 a.2.2.2.2.2.2.2.2.2.2.2.2.2.2))) (ar (aV (ac a.1)) (13=ix a) (zY a a.1 a.2.1 a.2.2.1 a.2.2.2.1 (a.2.2.2.2.1=a.2.2.2.2.1) (aZ a.2.2.2.2.2.1 a.2.2.2.2.2.2.1 a.2.2.2.2.2.2.2.1 a.2.2.2.2.2.2.2.2.1 (a.2.2.2.2.2.2.2.2.2.1=a.2.2.2.2.2.2.2.2.2.1) (xQ a.2.2.2.2.2.2.2.2.2.2.1.1 a.2.2.2.2.2.2.2.2.2.2.1.2 a.2.2.2.2.2.2.2.2.2.2.2.1
 a.2.2.2.2.2.2.2.2.2.2.2.2.1 a.2.2.2.2.2.2.2.2.2.2.2.2.2.1 a.2.2.2.2.2.2.2.2.2.2.2.2.2.2))))))))))/\ ∀(e:Unit),Pt a->qO (aS a)/\am 0 (0<ac (xU a a.2.2.2.2.2.2.2.2.2.2.1 a.2.2.2.2.1)) (ar ( !aV (ae (xU a a.2.2.2.2.2.2.2.2.2.2.1 a.2.2.2.2.1) 0)) (ae (xU a a.2.2.2.2.2.2.2.2.2.2.1 a.2.2.2.2.1) 0=ix a) (am (ao (0+1)) (ao (0+1)<ac (xU a a.2.2.2.2.2.2.2.2.2.2.1 a.2.2.2.2.1)) (ar ( !aV (ae (xU a a.2.2.2.2.2.2.2.2.2.2.1 a.2.2.2.2.1) (ao (0+1)))) (ae (xU a a.2.2.2.2.2.2.2.2.2.2.1 a.2.2.2.2.1) (ao (0+1))=ix a) (am zn (zn<ac (xU a a.2.2.2.2.2.2.2.2.2.2.1 a.2.2.2.2.1)) (ar ( !aV (ae (xU a a.2.2.2.2.2.2.2.2.2.2.1 a.2.2.2.2.1) zn)) (ae (xU a a.2.2.2.2.2.2.2.2.2.2.1 a.2.2.2.2.1) zn=ix a) (0=ix a)))))))))))):= by
  delta ae ac ao aZ bN bR bp aJ cj bq bj br cV am bv gq aV Pt bz u6 fq ai ui bf xQ xU m5 dA lp cN fp dH uc dW Hi JW ax bn zn zY qO Cu
  rintro d - -
  have hd:d.1=aS d:=rfl
  rw[hd]
  refine aw (λh=>?_) (λh=>?_)
  .unfold ix;rw[aj (by have:=aX h;omega)]
  have h32:be (aS d)<=32:=by have:=bg h;omega
  clear h
  refine⟨⟨0,⟨ab,ab,rfl⟩,aI⟩,?_⟩
  rintro x ⟨x0,x1,hf⟩
  refine aw (λhx=>?_) (λhx=>?_)
  .have hx:=aX hx
   refine⟨x0,hx,?_⟩
   (repeat (refine cL ?_;repeat refine cK ?_))
   refine uH (λho=>?_) (λh1 h2=>?_)
   .have e:=ba7 (x:=d) x0 (ho.imp jC aX)
    rw[← TC h32 x0 hx hf (by rw[e];decide),e]
   have hn:¬ (¬ ga (Om (aS d) (it x) Sk).1∨pi d (Om (aS d) (it x) Sk).1<x):=by
    rintro (k|k)
    .exact k (jx h1)
    .exact bg h2 k
   (repeat (refine cL ?_;repeat refine cK ?_))
   refine uH (λho=>?_) (λh1 h2=>?_)
   .have e:=aA6 (x:=d) x0 hn (ho.imp aX aX)
    rw[← TC h32 x0 hx hf (by rw[e];decide),e]
   .have e:=a71 (x:=d) x0 hn (by
     rintro (k|k)
     .exact bg h1 k
     .exact bg h2 k)
    exact⟨x+1,⟨ab,ab,Hm x0 hf e⟩,ab,aI⟩
  have hx:=bg hx
  rw[show it x=be (aS d) by omega] at hf
  rw[show d.2.1=kL d from rfl]
  intro b hb
  refine⟨az,az,az,az,?_⟩
  intro b1 hb1
  (repeat refine⟨(by cases b <;> cases b1 <;> simp),?_⟩)
  have hL:(bif b then bif b1 then bZ3 else bZ2 (0<=pi d (kL d)) else bZ6)=bZ2 (tR d):=by
   rw[hb,hb1]
   unfold tR
   by_cases k1:kL d=0 <;> by_cases k2:ga (kL d) <;> by_cases k3:0<=pi d (kL d) <;> simp[k1,k2,k3]
  rw[hL]
  refine aw (λh=>aa3 h32 hf (aX h)) (λhl=>?_)
  have hl:=bg hl
  clear hL hb hb1
  refine⟨?_,?_⟩
  .have bad:=λh=>by6 (x:=d) h32 hf hl h
   refine CI (λh=>bad (.inl (aX h))) (λc1=>?_)
   (repeat (refine cL ?_;repeat refine cK ?_))
   rw[M6]
   refine CI (λh=>bad (.inr (.inl (aX h)))) (λc2=>?_)
   (repeat (refine cL ?_;repeat refine cK ?_))
   rw[zV]
   refine CI (λh=>bad (.inr (.inr (.inl (aX h))))) (λc3=>?_)
   (repeat (refine cL ?_;repeat refine cK ?_))
   rw[bV7]
   refine CI (λh=>bad (.inr (.inr (.inr (.inl (aX h)))))) (λc4=>?_)
   (repeat (refine cL ?_;repeat refine cK ?_))
   rw[zV]
   refine CI (λh=>bad (.inr (.inr (.inr (.inr (.inl (aX h))))))) (λc5=>?_)
   (repeat (refine cL ?_;repeat refine cK ?_))
   rw[M6]
   refine CI (λh=>bad (.inr (.inr (.inr (.inr (.inr (.inl (aX h)))))))) (λc6=>?_)
   refine aw (λh=>bad (.inr (.inr (.inr (.inr (.inr (.inr ?_))))))) (λc7=>?_)
   .have:=aX h;omega
   refine⟨(),⟨h32,hf,hl,?_⟩,aI⟩
   rintro (k|k|k|k|k|k|k)
   .exact bg c1 k
   .exact bg c2 k
   .exact bg c3 k
   .exact bg c4 k
   .exact bg c5 k
   .exact bg c6 k
   .have:=bg c7;omega
  rintro-⟨-,-,-,hb⟩
  have e:=Yv h32 hf hl hb
  rw[show bZ5 bZ4 (bZ5 bZ4 ((0:Int)+1)+1)=2 by decide,show bZ5 bZ4 ((0:Int)+1)=1 by decide,e]
  refine⟨ab,ab,az,aw (λh=>?_) (λh=>?_)⟩
  .rw[aj (show qr d≠0 from jC h)];rfl
  rw[ah (λk=>k (jx h))]
  refine⟨ab,az,aw (λh=>?_) (λh=>?_)⟩
  .rw[aj (show jj (mX d)≠0 from jC h)];rfl
  rw[ah (λk=>k (jx h))]
  refine⟨ab,az,aw (λh=>?_) (λh=>?_)⟩
  .rfl
  .exact (jx h).symm
theorem a48:aC 169 RV.spec:=aF Tryz.func169 (ap (ap (ap (ap (ap (ap (ap aD bc1) XF) KW) a00) UF) SB) at9) aP0 bk4
abbrev rG:CT := .pair cI (.pair cI (.pair cI (.pair cI (.pair cI cI))))
abbrev nD:CT := .pair cI (.pair cI (.pair .bool fm))
abbrev l7:CT := .pair (.sl eh) (.pair (.sl rG) (.sl nD))
abbrev ck:Type:=Int×Int×Int×Int×Int×Int
abbrev cH:Type:=Int×Int×Bool×Rt
abbrev Net:Type:=List au×List ck×List cH
abbrev bh:Type:=ad×Int
abbrev sK:Type:=Int×Int
def lA(l:ck):Int:=l.1
def lB(l:ck):Int:=l.2.1
def qI(l:ck):Int:=l.2.2.1
def mI(l:ck):Int:=l.2.2.2.1
def vN(l:ck):Int:=l.2.2.2.2.1
def Am(l:ck):Int:=l.2.2.2.2.2
theorem pZ{α:Type} [Inhabited α] {l:List α} {i j:Nat} {a:α} (h:i≠j):Om (l.set i a) j Sk=Om l j default:=by
 rw[cq,cq,List.getElem?_set_ne h]
def FQ(c:bh):Int:=Om c.1 (it c.2) Sk
def o8(c:bh)(n:Int):Int×bh:=if (be c.1:Int)<=c.2∨n<1 then (0,c) else ((FQ c).tmod n,(c.1,c.2+1))
def ay(c:bh)(n:Int):Int×bh :=
 if (be c.1:Int)<=c.2∨n<1 then (0,c)
 else if 256<n then ((256*FQ c+(o8 (c.1,c.2+1) 256).1).tmod n,(o8 (c.1,c.2+1) 256).2)
 else ((FQ c).tmod n,(c.1,c.2+1))
structure aY (c:bh):Prop where
 at':f6 c
 b:∀ x∈c.1,0<=x/\x<=255
theorem aY.code{c:bh}(h:aY c)(hb:¬ (be c.1:Int)<=c.2):0<=FQ c/\FQ c<=255:=h.b _ (dm h.at'.1 ab)
theorem Pq{c:bh}(h:aY c)(n:Int):aY (o8 c n).2/\0<=(o8 c n).1/\((o8 c n).1<n∨(o8 c n).1=0):=by
 unfold o8
 split
 .exact⟨h,az,.inr rfl⟩
 next hb=>have hc:=h.code ab;have ha:=h.at';exact⟨⟨⟨by have:=ha.1;show 0<=c.2+1;omega,by show c.2+1<=(be c.1:Int);omega⟩,h.b⟩,AD hc.1,.inl (zq hc.1 ab)⟩
theorem d7{c:bh}(h:aY c)(n:Int):aY (ay c n).2/\0<=(ay c n).1/\((ay c n).1<n∨(ay c n).1=0):=by
 unfold ay
 split
 .exact⟨h,az,.inr rfl⟩
 next hb=>
  have hc:=h.code ab;have ha:=h.at';have h1:aY (c.1,c.2+1):=⟨⟨by have:=ha.1;show 0<=c.2+1;omega,by show c.2+1<=(be c.1:Int);omega⟩,h.b⟩
  split
  .have k:=Pq h1 256;exact⟨k.1,AD ab,.inl (zq ab ab)⟩
  .exact⟨h1,AD hc.1,.inl (zq hc.1 ab)⟩
theorem fZ{c:bh}(h:aY c){n:Int}(hn:0<n):0<=(ay c n).1/\(ay c n).1<n:=by
 have:=d7 h n;omega
def wU(i:Int)(host:Bool)(f sd:Int):au:=([],0,1+i/3,host,[],1,0,0,0,0,(0,0),bZ6,bZ6,f,sd)
abbrev bU:Type:=Net×bh
def mS(s:bU)(host:Bool):bU :=
 ((s.1.1++[wU (be s.1.1) host (Om ([64,255,128]:ad) (ay s.2 3).1.toNat Sk) (ay (ay s.2 3).2 256).1],s.1.2),(ay (ay s.2 3).2 256).2)
def mz(ns:List au)(x:Int)(p:sK):List au:=ns.set (it x) ((Om ns (it x) Sk).1++[p],(Om ns (it x) Sk).2)
def ib(l:Int):Int:=167837696+4*l
def kM(s:bU)(a b:Int):bU :=
 ((mz (mz s.1.1 a (ib (be s.1.2.1)+1,be s.1.2.1)) b (ib (be s.1.2.1)+2,be s.1.2.1),
   s.1.2.1++[(a,b,1+(ay s.2 20).1,0,0,(ay (ay s.2 20).2 256).1)],s.1.2.2),(ay (ay s.2 20).2 256).2)
def m8(k:Int):ad->ad
 | []=>[k]
 | x::r=>if k<x then k::x::r else x::m8 k r
theorem YG{k:Int}:∀{l:ad},(∀ x∈l,¬ k<x)->m8 k l=l++[k]
 | [],_=>rfl
 | x::r,h=>by rw[m8,ah (h x eV),YG λy hy=>h y (fu _ hy)];rfl
theorem Ve{k:Int}{m:ad}:∀{l:ad},(∃ x∈l,k<x)->m8 k (l++m)=m8 k l++m
 | [],h=>by obtain⟨x,hx,-⟩:=h;cases hx
 | y::r,h=>by
  rw[kO,m8,m8];by_cases hy:k<y
  .rw[aj hy,aj hy];rfl
  .rw[ah hy,ah hy,Ve (l:=r)];rfl;have ⟨x,hx,hk⟩:=h;obtain rfl|hx:=dO.1 hx
   .exact absurd hk hy
   .exact⟨x,hx,hk⟩
theorem SI{k x:Int}:∀{l:ad},(∀ y∈l,¬ k<y)->k<x->m8 k (l++[x])=l++[k]++[x]
 | [],_,h=>by rw[yv,m8,aj h];rfl
 | y::r,h,hk=>by rw[kO,m8,ah (h y eV),SI (λz hz=>h z (fu _ hz)) hk];rfl
theorem QG(k:Int):∀ l,be (m8 k l)=be l+1
 | []=>rfl
 | x::r=>by rw[m8];split <;> simp[QG k r]
def wD(l:List Rt)(p:fB):Nat:=l.findIdx λr=>bZ2 (r.1=p)
def Cz(x:au)(l:List Rt):au:=(x.1,x.2.1,x.2.2.1,x.2.2.2.1,l,x.2.2.2.2.2)
def zg(l:List Rt)(p:fB)(k way:Int):List Rt :=
 if wD l p<be l then
  if k∈(Om l (wD l p) Sk).2.1 then l else ie l (p,m8 k (Om l (wD l p) Sk).2.1,(Om l (wD l p) Sk).2.2)
 else ie l (p,[k],way)
def vm(ns:List au)(n:Int)(p:fB)(k way:Int):List au:=ns.set (it n) (Cz (Om ns (it n) Sk) (zg (bW (Om ns (it n) Sk)) p k way))
def yi(d:ad)(l:ck):ad :=
 (d.set (it (lA l)) (min (Om d (it (lA l)) Sk) (Om d (it (lB l)) Sk+1))).set (it (lB l)) (min (Om d (it (lB l)) Sk) (Om d (it (lA l)) Sk+1))
def lM(nn:Nat)(ls:List ck)(to:Int):ad:=(range nn).foldl (λd _=>ls.foldl yi d) ((replicate nn (1000:Int)).set (it to) 0)
def vZ(d:ad)(to:Int)(p:fB)(plain:Bool)(k way:Int)(ns:List au)(a b:Int):List au :=
 if Om d (it a) Sk≠Om d (it b) Sk+1∨(b≠to/\qf (Om ns (it b) Sk)=bZ3) then ns
 else if plain=bZ3/\sa (bW (Om ns (it a) Sk)) p=bZ3 then ns else vm ns a p k way
def stepK(ls:List ck)(d:ad)(to:Int)(p:fB)(plain:Bool)(way:Int)(ns:List au)(k:Nat):List au :=
 vZ d to p plain k way (vZ d to p plain k way ns (lA (Om ls k Sk)) (lB (Om ls k Sk))) (lB (Om ls k Sk)) (lA (Om ls k Sk))
def stepP(ls:List ck)(d:ad)(to:Int)(plain:Bool)(way:Int)(ns:List au)(q:sK):List au :=
 (range (be ls)).foldl (stepK ls d to (q.1,32) plain way) ns
def ru(c:bh):Int×bh:=if 1+(ay c 3).1=3 then (if 0<(ay (ay c 3).2 3).1 then 1 else 3,(ay (ay c 3).2 3).2) else (1+(ay c 3).1,(ay c 3).2)
def stepT(ls:List ck)(plain:Bool)(s:List au×bh)(to:Nat):List au×bh :=
 ((aS (s.1.getD to Sk)).foldl (stepP ls (lM (be s.1) ls to) to plain (ru s.2).1) s.1,(ru s.2).2)
def E5(s:bU)(plain:Bool):bU :=
 let r:=(range (be s.1.1)).foldl (stepT s.1.2.1 plain) (s.1.1,s.2)
 ((r.1,s.1.2),r.2)
def bp3(x:au):au:=(x.1,x.2.1,x.2.2.1,x.2.2.2.1,x.2.2.2.2.1,x.2.2.2.2.2.1,x.2.2.2.2.2.2.1,x.2.2.2.2.2.2.2.1,x.2.2.2.2.2.2.2.2.1,x.2.2.2.2.2.2.2.2.2.1,x.2.2.2.2.2.2.2.2.2.2.1,bZ3,x.2.2.2.2.2.2.2.2.2.2.2.2)
def bC2(x:au)(b:bg8):au:=(x.1,x.2.1,x.2.2.1,x.2.2.2.1,x.2.2.2.2.1,x.2.2.2.2.2.1,x.2.2.2.2.2.2.1,x.2.2.2.2.2.2.2.1,x.2.2.2.2.2.2.2.2.1,x.2.2.2.2.2.2.2.2.2.1,b,x.2.2.2.2.2.2.2.2.2.2.2)
def Lt(x:au)(b:Bool):au:=(x.1,x.2.1,x.2.2.1,x.2.2.2.1,x.2.2.2.2.1,x.2.2.2.2.2.1,x.2.2.2.2.2.2.1,x.2.2.2.2.2.2.2.1,x.2.2.2.2.2.2.2.2.1,x.2.2.2.2.2.2.2.2.2.1,x.2.2.2.2.2.2.2.2.2.2.1,x.2.2.2.2.2.2.2.2.2.2.2.1,b,x.2.2.2.2.2.2.2.2.2.2.2.2.2)
def bv4(x:au)(s:Int):au:=(x.1,x.2.1,x.2.2.1,x.2.2.2.1,x.2.2.2.2.1,s,x.2.2.2.2.2.2)
def bK1(x:au)(a s:Int):au:=(x.1,a,x.2.2.1,x.2.2.2.1,x.2.2.2.2.1,s,x.2.2.2.2.2.2)
def aB4(x:au)(a s:Int):au:=(x.1,x.2.1,x.2.2.1,x.2.2.2.1,x.2.2.2.2.1,s,a,x.2.2.2.2.2.2.2)
def ao8(x:au)(i b s:Int):au:=(x.1,x.2.1,x.2.2.1,x.2.2.2.1,x.2.2.2.2.1,x.2.2.2.2.2.1,x.2.2.2.2.2.2.1,i,b,s,x.2.2.2.2.2.2.2.2.2.2)
def ji(x:au)(i:Int)(c:bh):au×bh :=
 let a:=ay c 10
 if a.1=1 then (bp3 x,a.2)
 else if a.1=2 then (bC2 x (1+(ay a.2 3).1,1+(ay (ay a.2 3).2 200).1),(ay (ay a.2 3).2 200).2)
 else if a.1=3 then (Lt x (!qf x&&bZ2 (i%2=1)),a.2)
 else if a.1=4 then (bv4 x 2,a.2)
 else if a.1=5 then (bK1 x (167903232+i) 3,a.2)
 else if a.1=6 then (aB4 x (167837696+(ay a.2 40).1) 4,(ay a.2 40).2)
 else (x,a.2)
def BQ(x:au)(i:Int)(c:bh):au×bh :=
 let y:=ji x i c
 (ao8 y.1 (ay y.2 6).1 (ay (ay y.2 6).2 65536).1 (ay (ay (ay y.2 6).2 65536).2 1000).1,(ay (ay (ay y.2 6).2 65536).2 1000).2)
def BO(s:List au×bh)(i:Nat):List au×bh:=(s.1.set i (BQ (Om s.1 i Sk) i s.2).1,(BQ (Om s.1 i Sk) i s.2).2)
def odLink(l:ck)(c:bh):ck×bh :=
 let a:=ay c 6
 if a.1=1 then ((l.1,l.2.1,l.2.2.1,(ay a.2 10).1,l.2.2.2.2),(ay a.2 10).2)
 else if a.1=2 then ((l.1,l.2.1,l.2.2.1,l.2.2.2.1,Om ([65536,20000,3]:ad) (ay a.2 3).1.toNat Sk,l.2.2.2.2.2),(ay a.2 3).2)
 else (l,a.2)
def vF(ns:List au)(l:ck):List au :=
 if gB (Om ns (it (lA l)) Sk)=bZ3/\gB (Om ns (it (lB l)) Sk)=bZ3 then ns.set (it (lB l)) (Lt (Om ns (it (lB l)) Sk) bZ6) else ns
def xz(s:(List au×List ck)×bh)(i:Nat):(List au×List ck)×bh :=
 let r:=odLink (Om s.1.2 i Sk) s.2
 ((vF s.1.1 r.1,s.1.2.set i r.1),r.2)
def tV(ns:List au)(s:List cH×Int×bh):List cH×Int×bh :=
 let a:=ay s.2.2 60
 let at':=s.2.1+a.1
 let w:=ay a.2 (be ns)
 let x:=Om ns (it w.1) Sk
 if be (bW x)=0 then (s.1,at',w.2)
 else
  let r:=ay w.2 (be (bW x))
  let p:=ay r.2 (be (aS x))
  let z:=ay p.2 4
  let rt:=Om (bW x) (it r.1) Sk
  (s.1++[(at',w.1,bZ6,(rt.1,if z.1=3 then [] else [(Om (aS x) (it p.1) Sk).2],rt.2.2))],at',z.2)
def rZ(s:bU):bU :=
 let n:=(range (be s.1.1)).foldl BO (s.1.1,s.2)
 let l:=(range (be s.1.2.1)).foldl xz ((n.1,s.1.2.1),n.2)
 let k:=ay l.2 4
 let h:=(range (it k.1)).foldl (λs _=>tV l.1.1 s) ([],0,k.2)
 ((l.1.1,l.1.2,h.1),h.2.2)
def vG(s:bU)(k:Nat):bU:=kM (mS s bZ6) k (k+1)
def xE(n:Int)(s:bU):bU :=
 let a:=ay s.2 n
 let b:=ay a.2 n
 if a.1=b.1 then (s.1,b.2) else kM (s.1,b.2) (1+a.1) (1+b.1)
def qG(c:bh):Int×bU :=
 let a:=mS (([],[],[]),c) bZ3
 let m:=ay a.2 5
 let s:=(range (it (1+m.1))).foldl vG (a.1,m.2)
 (1+m.1,kM (mS s bZ3) (1+m.1) (1+m.1+1))
def DF(plain:Bool)(n:Int)(s:bU):bU :=
 let k:=ay s.2 4
 let s1:=if 1<n/\plain=bZ6 then (range (it k.1)).foldl (λs _=>xE n s) (s.1,k.2) else (s.1,k.2)
 if plain=bZ3/\2<n then
  if (ay s1.2 2).1=1 then kM (s1.1,(ay (ay s1.2 2).2 (n-1)).2) (1+(ay (ay s1.2 2).2 (n-1)).1) n else (s1.1,(ay s1.2 2).2)
 else s1
def FT(plain:Bool)(c:bh):bU :=
 let s:=E5 (DF plain (qG c).1 (qG c).2) plain
 if plain then s else rZ s
def tI(plain:Bool)(c:bh):Net:=(FT plain c).1
def Bh(plain:Bool)(c:bh):bh:=(FT plain c).2
end Go.RS
