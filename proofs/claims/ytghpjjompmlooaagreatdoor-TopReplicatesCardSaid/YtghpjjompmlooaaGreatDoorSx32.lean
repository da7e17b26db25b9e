/- Transp: messages of three protocols. -/
import Derived.Test.YtghpjjompmlooaaGreatDoorWire
import Derived.Laws.BitsAllLaws
set_option maxRecDepth 100000
set_option linter.all false
open Int (toNat)
open List (length take set replicate range drop)
open BitVec renaming ofInt->cw8
open Bool renaming and_eq_true_iff->cw4,false->ct2,not_eq_true->cS7,true->cs8
open Decidable renaming decide->cs7
open Go renaming Code->cE3,Program->cu2,Value->ct8,maxLen->cu5
open Go.BinOp renaming and->cw3,or->cH6
open Go.IntKind renaming bits->cC3,i64->ct0,u32->ct3,u64->ct9,u8->cw0,wrap->ct1,wrap_i64->cw6,wrap_u8'->cy9
open Go.World renaming putObj_heap_other->cx0,putObj_heap_same->cG6
open Inhabited renaming default->cs5
open Int renaming default_eq_zero->cz3,ediv_ediv_of_nonneg->cN9,emod_eq_of_lt->cD3,le_trans->cJ4,lt_trichotomy->cS8,mul_ediv_add_emod->cQ1,natAbs->cS0,natCast_emod->cT2,ofNat->cG5,pow_succ->cW9,tmod->cx2,toNat->M,toNat_natCast->cv6
open List renaming drop_drop->cA1,drop_eq_nil_of_le->cA3,filter->cz9,filter_cons->cB1,filter_eq_nil_iff->cz5,filter_eq_self->cx3,findIdx->cW2,flatMap->cy8,flatMap_cons->cz0,flatMap_nil->cK4,flatten->cw2,flatten_append->cI5,foldl_cons->cx7,getD->T,getD_eq_getElem?_getD->cy0,getElem_append_left->cB7,getElem_drop->cK2,getElem_mem->cv2,idxOf->cR5,length->V,length_filter_le->cD1,map->cA6,map_congr_left->cE4,mem_filter->cx9,mem_iff_getElem->cv8,pairwise_append->cw9,pairwise_cons->cu1,range->cR4,take_append_of_le_length->cK8,take_left'->cH5
open List.Pairwise renaming drop->cL4,filter->cI1
open Nat renaming div_add_mod->cU1,mul_comm->cD4,pow_le_pow_right->cH9,shiftLeft_eq->cT3,two_pow_pos->cU0
open Option renaming none->ct4,some->cs6
open Prod renaming snd->cJ3
open UInt8 renaming ofNat->cW1
namespace Go.RS
open Go.SX Go.Proofs
abbrev Ut:CT := .pair .bool (.pair cI (.pair cI (.sl bc)))
abbrev YY:CT := .pair cI (.pair cI (.sl bc))
abbrev Q4:CT := .pair cI (.pair cI (.sl bc))
abbrev TI:CT := .pair cI (.pair cI (.pair cI (.pair cI (.pair cI (.pair cI (.sl bc))))))
abbrev rQ:Type:=Bool×Int×Int×Z
abbrev cO:Type:=Int×Int×Z
abbrev vC:Type:=Int×Int×Z
abbrev ny:Type:=Int×Int×Int×Int×Int×Int×Z
def fP(lim:Int)(l:Z):Bool:=l.all λn=>cs7 (0<=n/\n<=lim)
def w2(n:Int):Z:=[n/256%256,n%256]
def w4(n:Int):Z:=[n/16777216%256,n/65536%256,n/256%256,n%256]
def eJ(b:Z):Int:=65535-oc (dS cs8 b)
def dR(b:Z)(at':Nat)(n:Int):Z:=(b.set at' (n/256%256)).set (at'+1) (n%256)
def aW(b:Z)(at':Nat):Int:=gk ((b.drop at').take 2)
def a23:Ct:=⟨[.val cI,.box 3 cI],[.val .bool],λ_=>[],λd=>((cs7 (d.1<0∨d.2.1<d.1),()),(d.2.1,()))⟩
theorem bJ9:
 ∀ a b,dP a b->True-> ∀ c,c=da a->gv c/\bw c/\br c (av b a)=cs7 (a<0∨b<a)/\b=b:= by
  delta aq aH aK br bw gv J dP dE da av
  simp_all
theorem b28:aB 296 a23.spec:=aG Tryz.func296 aC aS bJ9
def WZ:Cn:=⟨[.val (.sl cI),.fn 296 1,.box 3 cI],[.val cI],λ_=>[],λd y=>y.2.1=d.2.2.1 ∧ -1<=y.1.1/\(y.1.1 = -1↔fP d.2.2.1 d.1=cs8),λd h=>⟨((if fP d.2.2.1 d.1=cs8 then -1 else 0,()),(d.2.2.1,())),rfl,by by_cases h:fP d.2.2.1 d.1=cs8 <;> simp[h]⟩⟩
def bl2:bG WZ.ps->bL:=(λd=>{loops:=(bz 2 (λS=>{ι:=Int,μ:=λi=>M (V d.1-i),inv:=λi=>0<=i/\i<=V d.1/\fP d.2.2.1 (d.1.take (M i))=cs8,keep:=[0,1,6,7],slots:=λi=>[(8,.int .i64 i)],keepN:=[1048576]}) cm)})
def Ky(a:Int)(b:Z)(c:Int):=am a (a<=O b) (fP c (take (M a) b))
theorem aY4:
 ∀ a b,cU a/\True/\J (aq b)->True->(∃ c,Ky c a b/\a=a/\a=a/\ou a/\0=c/\J (b=b))/\ ∀ c,Ky c a b->eh c (O a) (c<O a) (au (cs7 (N a c<0∨b<N a c)) (b=b/\(-1)<=c/\(c=(-1)↔fP b a)) (∃ d,Ky d a b/\bi (O a) d c/\a=a/\a=a/\ou a/\aA c=d/\J (b=b))) (b=b) ((-1:Int)<=(-1:Int)/\((-1:Int)=(-1:Int)↔fP b a)):= by
  delta N O ap aq aH cU bi bZ am eh aA J av ou Ky
  rintro l lim ⟨⟨hl,-⟩,-⟩ -
  simp only[cu5] at hl
  refine⟨⟨0,⟨Y,Y,by simp[fP]⟩,aI⟩,?_⟩
  rintro j ⟨b,j1,c⟩
  refine bT (λa=>?_) (λa=>?_)
  .have ht:=LL b a
   have hm:=cW b a
   generalize T l (M j) cs5=x at *
   refine⟨b,a,bT (λhb=>?_) (λhb=>?_)⟩
   .refine⟨rfl,Y,⟨λh=>Y,λh=>?_⟩⟩
    unfold fP at h
    grind
   .refine⟨j+1,⟨Y,Y,?_⟩,Y,aI⟩
    unfold fP at c ⊢
    simp_all
  .rw[gE Y] at c
   simp[c]
theorem bC1:aB 322 WZ.spec:=jV Tryz.func322 (C aC b28) bl2 aY4
def b84:Ct:=⟨[.val (.sl cI),.fn 296 1,.box 3 cI],[.val .bool],λ_=>[],λd=>((!fP d.2.2.1 d.1,()),(d.2.2.1,()))⟩
theorem aM0:
 ∀ a b,cU a/\True/\J (aq b)->True-> ∀ c d,d=b/\(-1)<=c/\(c=(-1)↔fP b a)->fH c=( !fP b a)/\d=b:= by
  delta aq aH cU J fH
  grind
theorem bY5:aB 295 b84.spec:=aG Tryz.func295 (C aC bC1) aS aM0
def a77:Ct:=⟨[.val cI,.val (.sl cI)],[.val .bool],λ_=>[],λd=>((fP d.1 d.2.1,()),())⟩
theorem cm7:
 ∀ a b,aq a/\J (cU b)->True->( !( !fP a b))=fP a b:= by
  delta aq aH cU J
  simp
theorem Hi:aB 259 a77.spec:=aG Tryz.func259 (C aC bY5) aS cm7
theorem a06(l):V (l.flatMap w2)=2*V l:=by
 induction l with
 | nil=>rfl
 | cons x l ih=>rw[cz0,cw,ih,fa];simp[w2];omega
theorem bU5(n):fu n 2 2=w2 n:=by
 simp[fu,w2,range,cR4.loop]
theorem aO3(n):fu n 4 4=w4 n:=by
 simp[fu,w4,range,cR4.loop]
theorem bu5(n):fu n 1 1=[n%256]:=by
 simp[fu,range,cR4.loop]
variable{b:Z}{n:Int}
theorem H6(h0:0<=n)(h1:n<=65535):putB b n 2=b++w2 n:=by
 rw[putB,I,← bU5]
 .rfl
 .unfold wB;grind
theorem an8(h0:0<=n)(h1:n<=4294967295):putB b n 4=b++w4 n:=by
 rw[putB,I,← aO3]
 .rfl
 .unfold wB;grind
theorem Ke(h0:0<=n)(h1:n<=255):putB b n 1=b++[n]:=by
 rw[putB,I,show fu n (M (1:Int)) (M (1:Int))=[n] from by
  have:=bu5 n;rw[cD3 h0 Y] at this;exact this]
 unfold wB
 grind
def Xw:Ct:=⟨[.nils,.val (.sl cI)],[.own 5 bc],λd=>[fP 65535 d.2.1=cs8,(V d.2.1:Int)<=1073741824],λd=>((d.2.1.flatMap w2,()),())⟩
def bJ4:bG Xw.ps->bL:=(λd=>{loops:=(bz 2 (λS=>{ι:=Int×Z,qn:=fE,μ:=λi=>M (V d.2.1-i.1),inv:=λi=>0<=i.1/\i.1<=V d.2.1/\i.2=(d.2.1.take (M i.1)).flatMap w2,keep:=[7,8],slots:=λi=>[(0,.own 524288 1),(9,.int .i64 i.1)],names:=λi=>[(524288,.live (.row 5 bc i.2))]}) cm)})
def fy(a:Z):=O a<=1073741824
theorem ch2:
 ∀ a,True/\J (cU a)->fP 65535 a/\fy a->(∃ b c,f9 b (O a) c (cy8 w2 (take (M b) a))/\a=a/\ou a/\0=b/\J (c=[]))/\ ∀ b c,f9 b (O a) c (cy8 w2 (take (M b) a))->au (av b (O a)) (bP b (O a) (aR c) (∃ d e,f9 d (O a) e (cy8 w2 (take (M d) a))/\bi (O a) d b/\a=a/\ou a/\aA b=d/\J (putB c (N a b) 2=e))) (c=cy8 w2 a):= by
  delta N O ap aq aH cU aR bi bZ am aA J fy av bP f9 ou
  rintro l ⟨-,⟨hl,-⟩,-⟩⟨ha,hk⟩
  refine⟨⟨0,[],⟨Y,Y,aw⟩,aI⟩,?_⟩
  rintro j ys ⟨b,j1,rfl⟩
  refine bT (λa=>?_) (λa=>?_)
  .have ht:=LL b a
   have hm:=cW b a
   have hlen:V ((l.take (M j)).flatMap w2)=2*M j:=by
    rw[a06,fF];omega
   generalize T l (M j) cs5=x at *
   have c:=aX (List.all_eq_true.1 ha x hm)
   refine⟨b,a,Y,j+1,_,⟨Y,Y,rfl⟩,Y,rfl,rfl,aJ Y Y,?_,aQ⟩
   rw[ht,List.flatMap_append,H6 c.1 c.2];simp
  .rw[gE Y]
theorem GW:aB 260 Xw.spec:=aG Tryz.func260 (C aC RE) bJ4 ch2
def aB9:Ct:=⟨[.val (.sl bc),.val cI],[.val cI],λd=>[0<=d.2.1,d.2.1+2<=V d.1,(V d.1:Int)<=1099511627776],λd=>((aW d.1 (M d.2.1),()),())⟩
theorem a22:
 ∀ a b,aM a/\J (aq b)->am b (b+2<=O a) (aR a)->aH (O a)/\bM a b 2=aW a (M b):= by
  delta O aq aH aM aR am J aF
  rintro b a-⟨h0,h1,h2⟩
  refine⟨Y,?_⟩
  rw[bM,I Y];rfl
theorem HZ:aB 294 aB9.spec:=aG Tryz.func294 (C aC CL) aS a22
theorem PS(h0:0<=n):fm .i64 n 8=n/256:=by
 have e:=Fp (n:=n) (k:=1) h0 (by omega)
 exact e
def ce3:Ct:=⟨[.val (.sl bc),.val cI,.val cI],[.own 5 bc],λd=>[0<=d.2.1,d.2.1+2<=V d.1,(V d.1:Int)<=1099511627776,0<=d.2.2.1,d.2.2.1<=65535],λd=>((dR d.1 (M d.2.1) d.2.2.1,()),())⟩
def ug(a:Int):=ct1 cw0 (fm ct0 a 8)
theorem aI9:
 ∀ a b c,aM a/\dP b c->am b (b+2<=O a) (aR a/\aF c 65535)->aR a/\am 8 (0<=b) (b<O a/\am (aA b) (aA b<O (set a (M b) (ug c))) (set (set a (M b) (ug c)) (M (aA b)) (ct1 cw0 c)=dR a (M b) c)):= by
  delta O ap aq aH aM aR am aA J dP ug aF
  rintro b a n-⟨h0,h1,h2,n0,n1⟩
  rw[aJ Y Y,PS n0,cy9,cy9,f5]
  refine⟨Y,Y,Y,Y,Y,Y,?_⟩
  rw[dR,show M (a+1)=M a+1 from by omega]
theorem X4:aB 297 ce3.spec:=aG Tryz.func297 (C aC po) aS aI9
def ch7:Ct:=⟨[.val (.sl bc),.val cI,.val cI],[.own 5 bc,.val cI],λd=>[0<=d.2.1,d.2.1+2<=V d.1,(V d.1:Int)<=1099511627776,0<=d.2.2.1,d.2.2.1<=65535],λd=>((if (1480:Int)<V d.1 then [] else dR d.1 (M d.2.1) d.2.2.1,if (1480:Int)<V d.1 then 5 else 0,()),())⟩
def ym(a:Z):=if 1480<O a then (5:Int) else (0:Int)
def yA(a:Int)(b:Z):=if 1480<a then ([]:Z) else b
theorem aW5:
 ∀ a b c,aM a/\dP b c->am b (b+2<=O a) (aR a/\aF c 65535)->au (av 1480 (O a)) (fL (yA (O a) (dR a (M b) c))/\5=ym a) (am b (b+2<=O a) (aR a/\bo c 65535 (dR a (M b) c=yA (O a) (dR a (M b) c)) (0=ym a))):= by
  delta O aq aH aM aR am bo J dP av ym aF yA fL
  rintro b a n-⟨h0,h1,h2,n0,n1⟩
  refine bT (λhb=>?_) (λhb=>?_)
  .simp_all
  .grind
theorem Kc:aB 261 ch7.spec:=aG Tryz.func261 (C aC X4) aS aW5
def bg9:Ct:=⟨[.val (.sl bc),.val cI],[.own 5 bc,.val cI],λd=>[0<=d.2.1,d.2.1+2<=V d.1,(V d.1:Int)<=1099511627776],λd=>((dR d.1 (M d.2.1) 0,aW d.1 (M d.2.1),()),())⟩
theorem ay0:
 ∀ a b,aM a/\J (aq b)->am b (b+2<=O a) (aR a)->am b (b+2<=O a) (aR a/\am 0 ((0:Int)<=(65535:Int)) (am b (b+2<=O a) (aR a/\dR a (M b) 0=dR a (M b) 0/\aW a (M b)=aW a (M b)))):= by
  delta O aq aH aM aR am J aF
  simp_all
theorem KH:aB 293 bg9.spec:=aG Tryz.func293 (C (C aC X4) HZ) aS ay0
def aZ6:Ct:=⟨[.val cI],[.val .bool],λd=>[],λd=>((fI d.1,()),())⟩
theorem bp0:
 EJ:= by
 delta aq aH aK bq J Bn dN fH EJ zj
 unfold fI
 simp_all
theorem at2:aB 177 aZ6.spec:=aG Tryz.func177 aC aS bp0
def aZ0:Ct:=⟨[.val cI],[.val .bool],λd=>[],λd=>((cs7 (0<=d.1/\d.1<=255),()),())⟩
theorem b94:
 ∀ a,Bn a (cs7 (a<=255)) (cs7 (0<=a/\a<=255)):= by
  delta aq aH aK bq J Bn dN fH zj
  simp_all
theorem bB2:aB 182 aZ0.spec:=aG Tryz.func182 aC aS b94
def oM(e:rQ):Int:=if ¬ (fI e.2.1=cs8/\fI e.2.2.1=cs8) then 1 else if (1472:Int)<V e.2.2.2 then 5 else 0
def fc(e:rQ):Z:=[if e.1 then 0 else 8,0,0,0]++(w2 e.2.1++(w2 e.2.2.1++e.2.2.2))
def gY(e:rQ):Z:=if oM e=0 then dR (fc e) 2 (eJ (fc e)) else []
def mi(n:cO):Int:=if ¬ ((n.1=3∨n.1=11)/\0<=n.2.1/\n.2.1<=255) then 1 else if (V n.2.2:Int)<28 then 3 else if (1472:Int)<V n.2.2 then 5 else 0
def qC(n:cO):Z:=[n.1,n.2.1,0,0,0,0,0,0]++n.2.2
def kP(n:cO):Z:=if mi n=0 then dR (qC n) 2 (eJ (qC n)) else []
def F8(src dst proto:Int)(b:Z):Z:=w4 src++(w4 dst++(w2 proto++(w2 (V b)++b)))
def jc(src dst proto:Int)(b:Z):Int:=if ¬ (0<=proto/\proto<=255)∨(65535:Int)<V b then 0 else eJ (F8 src dst proto b)
def nf(src dst:Int)(b:Z):Int:=if jc src dst 17 b=0 then 65535 else jc src dst 17 b
def qR(u:vC):Int:=if ¬ (fI u.1=cs8/\fI u.2.1=cs8) then 1 else if (1472:Int)<V u.2.2 then 5 else 0
def iJ(u:vC):Z:=w2 u.1++(w2 u.2.1++(w2 (8+V u.2.2)++([0,0]++u.2.2)))
def py(src dst:Int)(u:vC):Z:=if qR u=0 then dR (iJ u) 6 (nf src dst (iJ u)) else []
def yR(s:ny):Prop:=fI s.1=cs8/\fI s.2.1=cs8/\(0<=s.2.2.1/\s.2.2.1<=4294967295)/\(0<=s.2.2.2.1/\s.2.2.2.1<=4294967295)/\(0<=s.2.2.2.2.1/\s.2.2.2.2.1<=255)/\fI s.2.2.2.2.2.1=cs8
instance (s:ny):Decidable (yR s):=by unfold yR;infer_instance
def pQ(s:ny):Int:=if ¬ yR s then 1 else if (1460:Int)<V s.2.2.2.2.2.2 then 5 else 0
def pg(s:ny):Z:=w2 s.1++(w2 s.2.1++(w4 s.2.2.1++(w4 s.2.2.2.1++([80,s.2.2.2.2.1]++(w2 s.2.2.2.2.2.1++([0,0,0,0]++s.2.2.2.2.2.2))))))
def io(src dst:Int)(s:ny):Z:=if pQ s=0 then dR (pg s) 16 (jc src dst 6 (pg s)) else []
def bytes(l:Z):Prop:=∀ x∈l,0<=x/\x<=255
theorem j4{a}(ha:bytes a)(hb:bytes b):bytes (a++b):=λx h=>(dX.1 h).elim (ha x) (hb x)
theorem px(n):bytes (w2 n):=by intro x h;simp[w2] at h;omega
theorem Gk(n):bytes (w4 n):=by intro x h;simp[w4] at h;omega
variable{a:Int}{l:Z}
theorem pU(h0:0<=a)(h1:a<=255)(h:bytes l):bytes (a::l):=by
 intro x b
 obtain rfl|b:=dm.1 b
 .exact⟨h0,h1⟩
 .exact h x b
theorem rT:bytes []:=by intro x h;cases h
theorem xL(h:bytes b):0<=eJ b/\eJ b<=65535:=by
 have:=ME (M8 cs8 b h).1
 unfold eJ;omega
variable{data:Z}{c d:Int}
theorem bf0{p B}(hp:p++data=B)(ha:0<=a)(h8:a+2<=V p)(hp1:V p<=100)(hd:(V data:Int)<=1073741824)(c0:0<=c)(c1:c<=65535)
  (he:b=if (1480:Int)<V B then [] else dR B (M a) c) (hr:d=if (1480:Int)<V B then 5 else 0) :
  0<=a/\a+2<=(V (p++data):Int)/\(V (p++data):Int)<=1099511627776/\0<=c/\c<=65535/\(if (1480:Int)<(V (p++data):Int) then [] else dR (p++data) (M a) c)=b/\(if (1480:Int)<(V (p++data):Int) then (5:Int) else 0)=d:=by
 grind
theorem yq{p}(hp1:V p<=100)(hd:(V data:Int)<=1073741824):(V p+V data)*1<=140737488355328/\(V (p++data):Int)<=1099511627776:=by
 grind
theorem Gs(lim a b):fP lim [a,b]=cs8↔(0<=a/\a<=lim)/\0<=b/\b<=lim:=by simp[fP]
theorem EC(lim a):fP lim [a]=cs8↔0<=a/\a<=lim:=by simp[fP]
theorem jP(n):fI n=cs8↔0<=n/\n<=65535:=by simp[fI]
theorem R6(e):V (fc e)=8+V e.2.2.2:=by simp[fc,w2];omega
variable{e:rQ}
theorem aE8(h:¬ (fI e.2.1=cs8/\fI e.2.2.1=cs8)):[]=gY e/\1=oM e:=by
 have:oM e=1:=by rw[oM,ao h]
 rw[gY,this];simp
theorem bn9(h:fI e.2.1=cs8/\fI e.2.2.1=cs8):(gY e=if (1480:Int)<V (fc e) then [] else dR (fc e) 2 (eJ (fc e)))/\oM e=if (1480:Int)<V (fc e) then 5 else 0:=by
 have hl:=R6 e
 have he:oM e=if (1480:Int)<V (fc e) then 5 else 0:=by
  rw[oM,I (λk=>k h)];grind
 rw[gY,he]
 grind
theorem EB(h:bytes e.2.2.2):bytes (fc e):=by
 refine j4 (pU ?_ ?_ (pU Y Y (pU Y Y (pU Y Y rT)))) (j4 (px _) (j4 (px _) h))
 .omega
 .omega
theorem Ua(n)(r):w2 (n/65536)++(w2 (n%65536)++r)=w4 n++r:=by
 unfold w2 w4
 have e1:n/65536/256%256=n/16777216%256:=Y
 grind
variable{t:Int}
theorem Mj{k}(t0:0<=t)(t1:t<=255)(k0:0<=k)(k1:k<=255):w2 (t*256+k)=[t,k]:=by
 unfold w2
 grind
variable{x:Int}
theorem V6(h0:0<=n)(h1:n<=65535)(h2:0<=x)(h3:x<=255):bits .or .i64 (gd .i64 n 8) x=n*256+x:=by
 have:=Wv h0 Y h2 h3
 rwa [aJ Y Y] at this
theorem Ww(h0:0<=n):fm .i64 n 16=n/65536:=by
 have e:=Fp (n:=n) (k:=2) h0 (by omega)
 exact e
theorem ad4(h0:0<=n)(h1:n<=4294967295):ct1 .i64 (fm .u32 n 16)=n/65536:=by
 have:fm .u32 n 16=n/65536:=by
  unfold fm;rw[F4 _ aD];rfl
 rw[this,aJ Y Y]
theorem W5(h0:0<=n)(h1:n<=4294967295):ct1 .i64 (bits .and .u32 n 65535)=n%65536:=by
 rw[u32_and n 65535 h0 Y aD aD]
 have:(M n &&& M 65535)=M n%65536:=H8 (M n) 16
 rw[this,aJ Y Y];omega
theorem T1(e):V (qC e)=8+V e.2.2:=by simp[qC];omega
variable{e:cO}
theorem aa6(h:¬ ((e.1=3∨e.1=11)/\0<=e.2.1/\e.2.1<=255)):[]=kP e/\1=mi e:=by
 have:mi e=1:=by rw[mi,ao h]
 rw[kP,this];simp
theorem bZ6(h:(e.1=3∨e.1=11)/\0<=e.2.1/\e.2.1<=255)(h2:(V e.2.2:Int)<28):[]=kP e/\3=mi e:=by
 have:mi e=3:=by rw[mi,I (λk=>k h),ao h2]
 rw[kP,this];simp
theorem aZ9(h:(e.1=3∨e.1=11)/\0<=e.2.1/\e.2.1<=255)(h2:¬ (V e.2.2:Int)<28):(kP e=if (1480:Int)<V (qC e) then [] else dR (qC e) 2 (eJ (qC e)))/\mi e=if (1480:Int)<V (qC e) then 5 else 0:=by
 have hl:=T1 e
 have he:mi e=if (1480:Int)<V (qC e) then 5 else 0:=by
  rw[mi,I (λk=>k h),I h2];grind
 rw[kP,he]
 grind
theorem Qg(h:(e.1=3∨e.1=11)/\0<=e.2.1/\e.2.1<=255)(hd:bytes e.2.2):bytes (qC e):=by
 refine j4 (pU Y Y (pU h.2.1 h.2.2 ?_)) hd
 intro x hx;simp at hx;omega
theorem Vy(e):V (iJ e)=8+V e.2.2:=by simp[iJ,w2];omega
variable{b:Int}{e:vC}
theorem bv4(h:¬ (fI e.1=cs8/\fI e.2.1=cs8)):[]=py a b e/\1=qR e:=by
 have:qR e=1:=by rw[qR,ao h]
 rw[py,this];simp
theorem bo5(h:fI e.1=cs8/\fI e.2.1=cs8):(py a b e=if (1480:Int)<V (iJ e) then [] else dR (iJ e) 6 (nf a b (iJ e)))/\qR e=if (1480:Int)<V (iJ e) then 5 else 0:=by
 have hl:=Vy e
 have he:qR e=if (1480:Int)<V (iJ e) then 5 else 0:=by
  rw[qR,I (λk=>k h)];grind
 rw[py,he]
 grind
theorem Nz(h:bytes e.2.2):bytes (iJ e) :=
 j4 (px _) (j4 (px _) (j4 (px _) (j4 (pU Y Y (pU Y Y rT)) h)))
theorem JP(e):V (pg e)=20+V e.2.2.2.2.2.2:=by simp[pg,w2,w4];omega
variable{e:ny}
theorem Pb(h:¬ yR e):[]=io a b e/\1=pQ e:=by
 have:pQ e=1:=by rw[pQ,ao h]
 rw[io,this];simp
theorem a39(h:yR e):(io a b e=if (1480:Int)<V (pg e) then [] else dR (pg e) 16 (jc a b 6 (pg e)))/\pQ e=if (1480:Int)<V (pg e) then 5 else 0:=by
 have hl:=JP e
 have he:pQ e=if (1480:Int)<V (pg e) then 5 else 0:=by
  rw[pQ,I (λk=>k h)];grind
 rw[io,he]
 grind
theorem H4(h:yR e)(hd:bytes e.2.2.2.2.2.2):bytes (pg e):=by
 obtain⟨-,-,-,-,a,-⟩:=h
 refine j4 (px _) (j4 (px _) (j4 (Gk _) (j4 (Gk _) (j4 (pU Y Y (pU a.1 a.2 rT)) (j4 (px _) (j4 ?_ hd))))))
 intro x hx;simp at hx;omega
variable{p:Int}
theorem cf9(h:bytes l):bytes (F8 a b p l):=j4 (Gk _) (j4 (Gk _) (j4 (px _) (j4 (px _) h)))
theorem Mu(h:bytes l):0<=jc a b p l/\jc a b p l<=65535:=by
 unfold jc;split
 .omega
 .exact xL (cf9 h)
theorem Sg(h:bytes l):0<=nf a b l/\nf a b l<=65535:=by
 have:=Mu (a:=a) (b:=b) (p:=17) h
 unfold nf;split <;> omega
def aP3:Ct:=⟨[.agg Ut],[.own 5 bc,.val cI],λd=>[(V d.1.2.2.2:Int)<=1073741824],λd=>((gY d.1,oM d.1,()),())⟩
def IG(a b c:Z)(d:Int)(e:Nat)(f:Z)(g:Int):=fy a/\ ∀(h:Z),h=b->gb h c/\aR (h++c)/\ ∀(i:Int),i=sZ (h++c)->am 2 (d<=O (h++c)) (aR (h++c)/\bo i 65535 (yA (O (h++c)) (dR (h++c) e i)=f) (ym (h++c)=g))
def iq(a b:Int)(c:Z):=aq a/\aq b/\aM c
theorem bS9:
 ∀ a b c d,J (True/\iq b c d)->fy d->au ( !fP 65535 (b::bI c)) (fL (gY (a,b,c,d))/\1=oM (a,b,c,d)) (au a (am 8 (fP 65535 (gd ct0 0 8::0::b::bI c)) (IG (gd ct0 0 8::0::b::bI c) (cy8 w2 (gd ct0 0 8::0::b::bI c)) d (2+2) (M 2) (gY (a,b,c,d)) (oM (a,b,c,d)))) (am 8 (fP 65535 (gd ct0 8 8::0::b::bI c)) (IG (gd ct0 8 8::0::b::bI c) (cy8 w2 (gd ct0 8 8::0::b::bI c)) d (2+2) (M 2) (gY (a,b,c,d)) (oM (a,b,c,d))))):= by
  delta O aq aH aM aR am gb bR IG bo J fy bI iq sZ ym aF yA fL
  rintro r i q data ⟨⟨-,-,-,-,hd⟩,-⟩ hl
  refine ay (λh=>?_) (λh=>?_)
  .apply aE8
   simp only[sS,← cS7,Gs] at h
   simp only[jP];exact h
  have f:fI i=cs8/\fI q=true:=by
   simp only[BE,Gs] at h
   simp only[jP];exact h
  have hw':=f
  simp only[jP] at hw'
  have ⟨e1,e2⟩:=bn9 (e:=(r,i,q,data)) f
  have hB:=xL (EB (e:=(r,i,q,data)) hd)
  cases r with
  | true =>
   refine⟨Y,by rw[show gd .i64 0 8=0 from by decide];simp[fP];omega,aw,?_⟩
   intro p a
   have b:V p=8:=by rw[a];simp[w2]
   have d:p++data=fc (cs8,i,q,data):=by
    rw[a,show gd .i64 0 8=0 from by decide];simp[w2,fc]
   refine⟨(yq Y hl).1,(yq Y hl).2,?_⟩
   intro c hc
   have hc:c=eJ (fc (cs8,i,q,data)):=by rw[hc,d];rfl
   grind
  | false =>
   refine⟨Y,by rw[show gd .i64 8 8=2048 from by decide];simp[fP];omega,aw,?_⟩
   intro p a
   have b:V p=8:=by rw[a];simp[w2]
   have d:p++data=fc (ct2,i,q,data):=by
    rw[a,show gd .i64 8 8=2048 from by decide];simp[w2,fc]
   refine⟨(yq Y hl).1,(yq Y hl).2,?_⟩
   intro c hc
   have hc:c=eJ (fc (ct2,i,q,data)):=by rw[hc,d];rfl
   grind
theorem UN:aB 210 aP3.spec:=aG Tryz.func210 (C (C (C (C aC Hi) (Ct.named GW)) (Ct.named Dh)) Kc) aS bS9
def cc1:Ct:=⟨[.agg YY],[.own 5 bc,.val cI],λd=>[(V d.1.2.2:Int)<=1073741824],λd=>((kP d.1,mi d.1,()),())⟩
def cB(a:Bool)(b c d e:Prop):=(a->aK b)/\(b->c)/\d/\e
def ld:=(0:Int)::bI 0
def ai6(a:Z)(b c:Int):=au (av (O a) 28) (fL (kP (b,c,a))/\3=mi (b,c,a)) (am 8 (fP 65535 (bits cH6 ct0 (gd ct0 b 8) c::0::ld)) (IG (bits cH6 ct0 (gd ct0 b 8) c::0::ld) (cy8 w2 (bits cH6 ct0 (gd ct0 b 8) c::0::ld)) a (2+2) (M 2) (kP (b,c,a)) (mi (b,c,a))))
def pK(a:Bool)(b c d e f:Prop):=au a ((b->b)/\c/\d) (a=ct2/\e/\f)
def GM(a b:Bool)(c d e:Prop):=∀(f:Bool),f=a->bN f/\pK ( !f) ( !f) (bN f) (bw f/\au (br f b) c d) (( !f)=ct2) ((f=ct2->e)/\au (br f ct2) c d)
def db(a b:Int):=!cs7 (a=b)
theorem cj2:
 ∀ a b c,J (iq a b c)->fy c-> ∀ d,d=db a 3->cB d d (aK d) (d->d) (GM (bq d (db a 11)) ( !fP 255 (bI b)) (fL (kP (a,b,c))/\1=mi (a,b,c)) (ai6 c a b) ct2):= by
  delta O aq aH aM bN aK aR cB br bq am gb bw bR IG bo ld J fy bI ai6 GM pK av db iq sZ ym aF yA fL
  rintro t k data ⟨⟨-,-,-,hd⟩,-⟩ hl
  rintro b rfl
  refine⟨aw,aw,aw,?_⟩
  intro b hb
  refine⟨aw,?_⟩
  cases b with
  | true =>
   have f:¬ (t=3∨t=11):=by
    simp at hb;omega
   refine ay (λh=>by cases h) (λ_=>⟨rfl,rfl,aw,ay (λ_=>aa6 (λh=>f h.1)) (λh=>by cases h)⟩)
  | false =>
   have f:t=3∨t=11:=by
    grind
   refine ay (λ_=>⟨aw,aw,aw,?_⟩) (λh=>by cases h)
   refine ay (λh=>?_) (λh=>?_)
   .apply aa6
    rintro⟨-,a⟩
    have:=(EC 255 k).2 a
    rw[this] at h;cases h
   have d:0<=k/\k<=255:=by
    apply (EC 255 k).1
    simp_all
   refine ay (λa=>bZ6 ⟨f,d⟩ (aX a)) (λa=>?_)
   have a:=bg a
   have ⟨e1,e2⟩:=aZ9 (e:=(t,k,data)) ⟨f,d⟩ a
   have hB:=xL (Qg (e:=(t,k,data)) ⟨f,d⟩ hd)
   rw[V6 Y Y d.1 d.2]
   refine⟨Y,by simp[fP];omega,aw,?_⟩
   intro p hpe
   have hp8:V p=8:=by rw[hpe];simp[w2]
   have hp:p++data=qC (t,k,data):=by
    rw[hpe]
    simp only[cz0,cK4,Mj Y (show t<=255 by omega) d.1 d.2,show w2 0=[0,0] from rfl];rfl
   refine⟨(yq Y hl).1,(yq Y hl).2,?_⟩
   intro c g
   have g:c=eJ (qC (t,k,data)):=by rw[g,hp];rfl
   grind
theorem bN6:aB 325 cc1.spec:=aG Tryz.func325 (C (C (C (C aC Hi) (Ct.named GW)) (Ct.named Dh)) Kc) aS cj2
def aw0:Ct:=⟨[.val dB,.val dB,.val cI,.val (.sl bc)],[.val cI],λd=>[(V d.2.2.2.1:Int)<=1073741824],λd=>((jc d.1 d.2.1 d.2.2.1 d.2.2.2.1,()),())⟩
def MP(a b c:Int)(d:Z):=ap (fm ct3 a 16)::ap (bits cw3 ct3 a 65535)::ap (fm ct3 b 16)::ap (bits cw3 ct3 b 65535)::c::bI (O d)
theorem bg0:
 ∀ a b c d,aT a/\aT b/\aq c/\J (aM d)->fy d->lO ( !fP 255 (bI c)) (av 65535 (O d)) (0=jc a b c d) (am 16 ((0:Int)<=(16:Int)) (fP 65535 (MP a b c d)/\fy (MP a b c d)/\ ∀ e,e=cy8 w2 (MP a b c d)->gb e d/\aR (e++d)/\ ∀ f,f=sZ (e++d)->f=jc a b c d)):= by
  delta O ap aq aH aM bN aK aT aR br am cQ gb bw bR lO J fy bI MP av sZ aF
  rintro a b p data ⟨⟨e,f⟩,⟨b0,g⟩,-,⟨-,hd⟩,-⟩ hl
  rintro x rfl
  refine⟨aw,aw,aw,?_⟩
  refine ay (λh=>?_) (λh=>?_)
  .rw[jc,ao]
   cases d:fP 255 [p] with
   | false=>exact .inl (λk=>by rw[(EC 255 p).2 k] at d;cases d)
   | true=>rw[d] at h;exact .inr (aX h)
  have hp:0<=p/\p<=255:=by
   apply (EC 255 p).1
   simp_all
  have hn:¬ (65535:Int)<V data:=by
   simp_all
  rw[ad4 e f,ad4 b0 g,W5 e f,W5 b0 g]
  refine⟨Y,Y,by simp[fP];omega,aw,?_⟩
  intro q hq
  have hp8:V q=12:=by rw[hq];simp[w2]
  have hB:q++data=F8 a b p data:=by
   rw[hq]
   simp only[cz0,cK4,js,gI,Ua]
   rfl
  refine⟨(yq Y hl).1,(yq Y hl).2,?_⟩
  rintro c rfl
  rw[hB,jc,I Y];rfl
theorem PQ:aB 264 aw0.spec:=aG Tryz.func264 (C (C (C aC Hi) (Ct.named GW)) (Ct.named Dh)) aS bg0
def aP7:Ct:=⟨[.val dB,.val dB,.val (.sl bc)],[.val cI],λd=>[(V d.2.2.1:Int)<=1073741824],λd=>((nf d.1 d.2.1 d.2.2.1,()),())⟩
theorem bk0:
 ∀ a b c,aT a/\aT b/\J (aM c)->fy c->fy c/\au ( !aY (jc a b 17 c)) (jc a b 17 c=nf a b c) (65535=nf a b c):= by
  delta O aM aT aY J fy aF
  rintro a b data-hl
  refine⟨hl,ay (λh=>?_) (λh=>?_)⟩
  .rw[nf,I];intro k;rw[f7 k] at h;cases h
  .rw[nf,ao]
   simp_all
theorem XD:aB 263 aP7.spec:=aG Tryz.func263 (C aC PQ) aS bk0
def bT5:Ct:=⟨[.val dB,.val dB,.agg Q4],[.own 5 bc,.val cI],λd=>[(V d.2.2.1.2.2:Int)<=1073741824],λd=>((py d.1 d.2.1 d.2.2.1,qR d.2.2.1,()),())⟩
theorem bt4:
 ∀ a b c d e,aT a/\aT b/\J (iq c d e)->fy e->au ( !fP 65535 (c::bI d)) (fL (py a b (c,d,e))/\1=qR (c,d,e)) (au (av 1472 (O e)) (fL (py a b (c,d,e))/\5=qR (c,d,e)) (fP 65535 (c::d::ap (8+O e)::bI 0)/\fy (c::d::ap (8+O e)::bI 0)/\ ∀ f,f=cy8 w2 (c::d::ap (8+O e)::bI 0)->gb f e/\fy (f++e)/\ ∀ g,g=nf a b (f++e)->am 6 (6+2<=O (f++e)) (aR (f++e)/\bo g 65535 (yA (O (f++e)) (dR (f++e) (M 6) g)=py a b (c,d,e)) (ym (f++e)=qR (c,d,e))))):= by
  delta O ap aq aH aM aT aR am gb bR bo J fy bI av iq ym aF yA fL
  rintro a b sp c data ⟨-,-,⟨-,-,-,hd⟩,-⟩ hl
  refine ay (λh=>?_) (λh=>?_)
  .apply bv4
   simp only[sS,← cS7,Gs] at h
   simp only[jP];exact h
  have g:fI sp=cs8/\fI c=true:=by
   simp only[BE,Gs] at h
   simp only[jP];exact h
  have d:=g
  simp only[jP] at d
  have ⟨e1,e2⟩:=bo5 (a:=a) (b:=b) (e:=(sp,c,data)) g
  have hB:=Sg (a:=a) (b:=b) (Nz (e:=(sp,c,data)) hd)
  have hbl:=Vy (sp,c,data)
  refine ay (λf=>?_) (λf=>?_)
  .grind
  have f:=bg f
  rw[aJ Y Y]
  refine⟨by simp[fP];omega,aw,?_⟩
  intro p hpe
  have hp8:V p=8:=by rw[hpe];simp[w2]
  have hp:p++data=iJ (sp,c,data):=by
   rw[hpe]
   rfl
  refine⟨(yq Y hl).1,by rw[cw];omega,?_⟩
  grind
theorem aD5:aB 213 bT5.spec:=aG Tryz.func213 (C (C (C (C aC Hi) (Ct.named GW)) (Ct.named XD)) Kc) aS bt4
variable{f:Int}
theorem a54(h0:0<=f)(h1:f<=255):bits .or .i64 20480 f=80*256+f:=by
 have:=V6 (n:=80) Y Y h0 h1
 rwa [show gd .i64 80 8=20480 from by decide] at this
theorem ce2(h0:0<=f)(h1:f<=255):w2 (80*256+f)=[80,f]:=Mj (by omega) (by omega) h0 h1
def at5:Ct:=⟨[.val dB,.val dB,.agg TI],[.own 5 bc,.val cI],λd=>[(V d.2.2.1.2.2.2.2.2.2:Int)<=1000000],λd=>((io d.1 d.2.1 d.2.2.1,pQ d.2.2.1,()),())⟩
def NI(a:ny):=a.1::a.2.1::fm ct0 a.2.2.1 16::bits cw3 ct0 a.2.2.1 65535::fm ct0 a.2.2.2.1 16::bits cw3 ct0 a.2.2.2.1 65535::bits cH6 ct0 20480 a.2.2.2.2.1::a.2.2.2.2.2.1::ld
def OC(a:ny)(b c:Int):=am 16 ((0:Int)<=(16:Int)) (fP 65535 (NI a)/\fy (NI a)/\ ∀(d:Z),d=cy8 w2 (NI a)->gb d a.2.2.2.2.2.2/\fy (d++a.2.2.2.2.2.2)/\ ∀(e:Int),e=jc b c 6 (d++a.2.2.2.2.2.2)->am 16 (16+2<=O (d++a.2.2.2.2.2.2)) (aR (d++a.2.2.2.2.2.2)/\bo e 65535 (yA (O (d++a.2.2.2.2.2.2)) (dR (d++a.2.2.2.2.2.2) (M 16) e)=io b c a) (ym (d++a.2.2.2.2.2.2)=pQ a)))
def bV(a:Z):=O a<=1000000
theorem bh1:
 ∀(a b:Int)(c:ny),aT a/\aT b/\J (CT.wf TI c)->bV c.2.2.2.2.2.2-> ∀(d:Bool),d=( !fP 65535 (c.1::c.2.1::bI c.2.2.2.2.2.1))->bN d/\bN d/\pK ( !d) ( !d) ( !d-> !d) (bN d/\bw d/\GM (br d ( !fP 4294967295 (c.2.2.1::bI c.2.2.2.1))) ( !fP 255 (bI c.2.2.2.2.1)) (fL (io a b c)/\1=pQ c) (OC c a b) ct2) (( !d)=ct2) ((d=ct2->ct2)/\GM (br d ct2) ( !fP 255 (bI c.2.2.2.2.1)) (fL (io a b c)/\1=pQ c) (OC c a b) ct2):= by
  delta O bN aK aT OC aR br am gb bw bR bV bo NI ld J fy bI GM pK ym aF yA fL
  rintro a b e ⟨-,-,⟨-,-,-,-,-,-,-,hd⟩,-⟩ hl
  intro b1 hb1
  refine⟨aw,aw,?_⟩
  cases b1 with
  | true =>
   have f:¬ yR e:=by
    rintro⟨j,i,-,-,-,g⟩
    rw[jP] at j i g
    rw[show fP 65535 [e.1,e.2.1,e.2.2.2.2.2.1]=cs8 from by simp[fP];omega] at hb1;cases hb1
   refine ay (λh=>by cases h) (λ_=>⟨rfl,rfl,aw,?_⟩)
   intro m hb2
   subst hb2
   exact⟨aw,ay (λh=>by cases h) (λ_=>⟨rfl,rfl,aw,ay (λ_=>Pb f) (λh=>by cases h)⟩)⟩
  | false =>
   have j:(0<=e.1/\e.1<=65535)/\(0<=e.2.1/\e.2.1<=65535)/\0<=e.2.2.2.2.2.1/\e.2.2.2.2.2.1<=65535:=by
    have:fP 65535 [e.1,e.2.1,e.2.2.2.2.2.1]=true:=by
     simp_all
    simpa[fP] using this
   refine ay (λ_=>⟨aw,aw,aw,aw,?_⟩) (λh=>by cases h)
   intro m hb2
   refine⟨aw,?_⟩
   cases m with
   | true =>
    have f:¬ yR e:=by
     rintro⟨-,-,g,h4,-,-⟩
     have:fP 4294967295 [e.2.2.1,e.2.2.2.1]=true:=(Gs _ _ _).2 ⟨g,h4⟩
     rw[this] at hb2;cases hb2
    exact ay (λh=>by cases h) (λ_=>⟨rfl,rfl,aw,ay (λ_=>Pb f) (λh=>by cases h)⟩)
   | false =>
    have i:(0<=e.2.2.1/\e.2.2.1<=4294967295)/\0<=e.2.2.2.1/\e.2.2.2.1<=4294967295:=by
     apply (Gs _ _ _).1
     grind
    refine ay (λ_=>⟨aw,aw,aw,ay (λh=>?_) (λh=>?_)⟩) (λh=>by cases h)
    .apply Pb
     rintro⟨-,-,-,-,g,-⟩
     rw[(EC _ _).2 g] at h;cases h
    have g:0<=e.2.2.2.2.1/\e.2.2.2.2.1<=255:=by
     apply (EC _ _).1
     grind
    have k:yR e:=⟨(jP _).2 j.1,(jP _).2 j.2.1,i.1,i.2,g,(jP _).2 j.2.2⟩
    obtain⟨e1,e2⟩:=a39 k
    have n:=Mu (a:=a) (b:=b) (p:=6) (H4 k hd)
    rw[Ww i.1.1,Ww i.2.1,It,It,a54 g.1 g.2]
    refine⟨Y,Y,by simp[fP];omega,aw,?_⟩
    intro p hpe
    have hp8:V p=20:=by rw[hpe];simp[w2]
    have o:p++e.2.2.2.2.2.2=pg e:=by
     rw[hpe]
     simp only[cz0,cK4,js,gI,Ua,show w2 0=[0,0] from rfl,ce2 g.1 g.2]
     rfl
    refine⟨(yq Y Y).1,by rw[cw];omega,?_⟩
    intro c l
    have l:c=jc a b 6 (pg e):=by rw[l,o]
    exact bf0 o Y Y Y Y (by rw[l];exact n.1) (by rw[l];exact n.2) (by rw[l];exact e1) e2
theorem Wn:aB 214 at5.spec:=aG Tryz.func214 (C (C (C (C aC Hi) (Ct.named GW)) (Ct.named PQ)) Kc) aS bh1
def Hx(b:Z):Prop:=(T b (M 0) cs5=8∨T b (M 0) cs5=0)/\T b (M 1) cs5=0
instance (b:Z):Decidable (Hx b):=by unfold Hx;infer_instance
def lT(b:Z):Int:=if (V b:Int)<8 then 3 else if ¬ Hx b then 2 else if (1480:Int)<V b then 5 else if eJ (dR b (M 2) 0)≠aW b (M 2) then 4 else 0
def ip(b:Z):rQ:=if lT b=0 then (cs7 (T b (M 0) cs5=0),aW b (M 4),aW b (M 6),b.drop 8) else (ct2,0,0,[])
def Ih(b:Z):Prop:=(T b (M 0) cs5=3∨T b (M 0) cs5=11)/\aW b (M 4)=0/\aW b (M 6)=0
instance (b:Z):Decidable (Ih b):=by unfold Ih;infer_instance
def nQ(b:Z):Int:=if (V b:Int)<36 then 3 else if ¬ Ih b then 2 else if (1480:Int)<V b then 5 else if eJ (dR b (M 2) 0)≠aW b (M 2) then 4 else 0
def nj(b:Z):cO:=if nQ b=0 then (T b (M 0) cs5,T b (M 1) cs5,b.drop 8) else (0,0,[])
def mR(s d:Int)(b:Z):Int:=if (V b:Int)<8 then 3 else if ¬ aW b (M 4)=V b then 2 else if (1480:Int)<V b then 5 else if nf s d (dR b (M 6) 0)≠aW b (M 6) then 4 else 0
def vP(s d:Int)(b:Z):vC:=if mR s d b=0 then (aW b (M 0),aW b (M 2),b.drop 8) else (0,0,[])
def Hw(b:Z):Prop:=T b (M 12) cs5=80/\aW b (M 18)=0
instance (b:Z):Decidable (Hw b):=by unfold Hw;infer_instance
def lM(s d:Int)(b:Z):Int:=if (V b:Int)<20 then 3 else if ¬ Hw b then 2 else if (1480:Int)<V b then 5 else if jc s d 6 (dR b (M 16) 0)≠aW b (M 16) then 4 else 0
def gG(s d:Int)(b:Z):ny:=if lM s d b=0 then (aW b (M 0),aW b (M 2),aW b (M 4)*65536+aW b (M 6),aW b (M 8)*65536+aW b (M 10),T b (M 13) cs5,aW b (M 14),b.drop 20) else (0,0,0,0,0,0,[])
variable{b:Z}{e:Int}
theorem Na(h:lT b=e)(he:e≠0):(ct2,0,0,[])=ip b/\e=lT b:=by
 rw[ip,I (by rw[h];exact he),h];exact⟨rfl,rfl⟩
theorem Ki(h:nQ b=e)(he:e≠0):(0,0,[])=nj b/\e=nQ b:=by
 rw[nj,I (by rw[h];exact he),h];exact⟨rfl,rfl⟩
variable{s:Int}
theorem MD(h:mR s d b=e)(he:e≠0):(0,0,[])=vP s d b/\e=mR s d b:=by
 rw[vP,I (by rw[h];exact he),h];exact⟨rfl,rfl⟩
theorem Lx(h:lM s d b=e)(he:e≠0):(0,0,0,0,0,0,[])=gG s d b/\e=lM s d b:=by
 rw[gG,I (by rw[h];exact he),h];exact⟨rfl,rfl⟩
theorem Dm(b:Z)(k):cZ b k (M (V b:Int))=b.drop k:=by unfold cZ;simp
variable{i:Nat}{v:Int}
theorem Xb(h:bytes b)(h0:0<=v)(h1:v<=255):bytes (b.set i v):=by
 intro x a
 obtain a|rfl:=AL a
 .exact h x a
 .exact⟨h0,h1⟩
theorem zA(h:bytes b):bytes (dR b i v):=Xb (Xb h Y Y) Y Y
variable{k:Nat}
theorem MZ(h:bytes b):0<=aW b k/\aW b k<=65535:=by
 have:=Ln 2 ((b.drop k).take 2) (by rw[fF];omega) (λx hx=>h x (zo (te hx)))
 unfold aW;omega
theorem oJ(b)(i)(v):V (dR b i v)=V b:=by simp[dR]
theorem jG(x y)(r):aW (x::y::r) 0=x*256+y:=by simp[aW,gk]
theorem Xr(h0:0<=n)(h1:n<=65535)(h2:0<=x)(h3:x<=65535):bits .or .i64 (gd .i64 n 16) x=n*65536+x:=by
 have e:gd .i64 n 16=n*65536:=by
  show ct0.wrap (n*2^(min 16 64))=_;rw[aJ (by simp;omega) (by simp;omega)];rfl
 rw[e]
 obtain⟨m,rfl⟩:=tj h0
 obtain⟨y,rfl⟩:=tj h2
 have:=ah3 (m*65536) y Y Y
 rw[nat_join 16 (m*65536) y Y Y,show ((m*65536:Nat):Int)=(m:Int)*65536 from by omega,show ((m*65536+y:Nat):Int)=(m:Int)*65536+(y:Int) from by omega] at this
 exact this
def aS6:Ct:=⟨[.val (.sl bc)],[.agg Ut,.val cI],λd=>[(V d.1:Int)<=1000000],λd=>((ip d.1,lT d.1,()),())⟩
def fA:=((0:Int),([]:Z))
def C8(a:Prop)(b:Int)(c:Prop)(d:Int)(e f:Prop):=∀(g:Int),a/\g=b->c/\ ∀(h:Int),h=d->au (db h g) e f
def Mf(a:Z)(b c:Prop):=∀(d:Z),C8 (d=dR a (M 2) 0) (aW a (M 2)) (aR d) (sZ d) b c
def um(a:Bool)(b:Int):=(a->a)/\am 0 (0<b) True
def pR(a:Z):=O a<=O a
theorem br7:
 ∀ a,J (aM a)->bV a->au (av (O a) 8) ((ct2,0,fA)=ip a/\3=lT a) (am 0 (0<O a) (∀ b,b=db (N a 0) 8->(b->um b (O a))/\cB b b (aK b) (b->b) (∀ c,c=bq b ( !aY (N a 0))->( !c->( !c-> !c)/\am 1 (1<O a) True)/\cQ c (bw c) (au (br c ( !aY (N a 1))) ((ct2,0,fA)=ip a/\2=lT a) (au (av 1480 (O a)) ((ct2,0,fA)=ip a/\5=lT a) (am 2 (2+2<=O a) (aR a/\Mf a ((ct2,0,fA)=ip a/\4=lT a) (am 0 (0<O a) (am 4 (4+2<=O a) (aR a/\am 6 (6+2<=O a) (aR a/\bo 8 (O a) (pR a) (aR (fN a 8 (O a))/\ ∀ d,d=fN a 8 (O a)->(aY (N a 0),aW a (M 4),aW a (M 6),d)=ip a/\0=lT a)))))))))))):= by
  delta N O aM bN aK aR cB br bq am cQ bw aY bV bo fN J fA av Mf C8 db sZ um aF pR
  rintro b ⟨⟨-,hb⟩,-⟩ hl
  refine ay (λh=>?_) (λa=>?_)
  .exact Na (by rw[lT,ao (aX h)]) aD
  have a:=bg a
  refine⟨Y,Y,?_⟩
  (repeat (refine cG ?_;repeat refine cH ?_))
  refine ay (λh=>?_) (λd=>?_)
  .refine Na (by rw[lT,I a,ao];rintro⟨e,f1⟩;rw[f7 f1] at h;obtain e|e:=e <;> rw[e] at h <;> simp at h) aD
  have d:Hx b:=by
   unfold Hx
   grind
  refine ay (λh=>?_) (λf=>?_)
  .exact Na (by rw[lT,I a,I (λk=>k d),ao (aX h)]) aD
  have f:=bg f
  refine⟨Y,Y,Y,?_⟩
  rintro x w ⟨rfl,rfl⟩
  refine⟨by simp[dR];omega,?_⟩
  rintro c rfl
  refine ay (λh=>?_) (λh=>?_)
  .refine Na (by rw[lT,I a,I (λk=>k d),I f,ao];intro k;rw[eJ] at k;rw[f7 k] at h;cases h) aD
  have g:lT b=0:=by
   rw[lT,I a,I (λk=>k d),I f,I]
   intro k;rw[eJ] at k;rw[gH k] at h;cases h
  refine⟨Y,Y,Y,Y,Y,Y,Y,Y,Y,Y,Y,by rw[Dm,gR];omega,?_⟩
  rintro y rfl
  rw[ip,ao g,g,Dm];exact⟨rfl,rfl⟩
theorem ah8:aB 254 aS6.spec:=aG Tryz.func254 (C (C (C (C aC (Ct.named KH)) (Ct.named Dh)) HZ) (Ct.named po)) aS br7
theorem bx7(p q r s:Prop) [Decidable p] [Decidable q] [Decidable r] [Decidable s]:(bif (bif (bif !decide p then !decide q else ct2) then cs8 else !decide r) then cs8 else !decide s) = !cs7 ((p∨q)/\r/\s):=by
 grind
theorem RW(h:k+2<=V b):aW b k=T b k cs5*256+T b (k+1) default:=by
 have a:k<V b:=Y
 have c:k+1<V b:=Y
 have e:b.drop k=b[k]::b[k+1]::b.drop (k+1+1):=by rw[sM a,sM c]
 unfold aW
 rw[e,cK,cK,cT a,cT c]
 generalize b.drop (k+1+1)=r
 simp[gk]
theorem b69(p r:Prop) [Decidable p] [Decidable r]:(bif !decide p then cs8 else !decide r) = !cs7 (p/\r):=by
 simp_all
def bu1:Ct:=⟨[.val (.sl bc)],[.agg YY,.val cI],λd=>[(V d.1:Int)<=1000000],λd=>((nj d.1,nQ d.1,()),())⟩
def Eo(a:Bool)(b:Prop)(c:Bool)(d e:Prop):=∀(f:Bool),f=a->( !f->( !f-> !f)/\b)/\kx f (br f c) d e
theorem bP0:
 ∀ a,J (aM a)->bV a->au (av (O a) 36) ((0,fA)=nj a/\3=nQ a) (am 0 (0<O a) (∀ b,b=db (N a 0) 3->(b->um b (O a))/\cB b b (aK b) (b->b) (∀ c,c=bq b (db (N a 0) 11)->( !c->( !c-> !c)/\am 4 (4+2<=O a) (J (aR a)))/\bN c/\bw c/\Eo (br c ( !aY (aW a (M 4)))) (am 6 (6+2<=O a) (J (aR a))) ( !aY (aW a (M 6))) ((0,fA)=nj a/\2=nQ a) (au (av 1480 (O a)) ((0,fA)=nj a/\5=nQ a) (am 2 (2+2<=O a) (aR a/\Mf a ((0,fA)=nj a/\4=nQ a) (am 0 (0<O a) (am 1 (1<O a) (bo 8 (O a) (pR a) (aR (fN a 8 (O a))/\ ∀ d,d=fN a 8 (O a)->(ap (N a 0),ap (N a 1),d)=nj a/\0=nQ a)))))))))):= by
  delta N O ap aM bN aK aR cB br bq am bw aY bV bo fN J fA av Mf C8 db kx sZ um Eo aF pR
  rintro b ⟨⟨-,g⟩,-⟩ hl
  refine ay (λh=>?_) (λa=>?_)
  .exact Ki (by rw[nQ,ao (aX h)]) aD
  have a:=bg a
  refine⟨Y,Y,?_⟩
  (repeat (refine cG ?_;repeat refine cH ?_))
  have d:(bif (bif (bif !cs7 (T b (M 0) cs5=3) then !cs7 (T b (M 0) cs5=11) else ct2) then cs8 else !cs7 (aW b (M 4)=0)) then cs8 else !cs7 (aW b (M 6)=0)) = !cs7 (Ih b):=(bx7 _ _ _ _).trans (dL (λx => !x) (decide_eq_decide.2 tZ))
  rw[d]
  refine ay (λh=>?_) (λe=>?_)
  .exact Ki (by rw[nQ,I a,ao];simpa using h) aD
  have e:Ih b:=by simpa using e
  refine ay (λh=>?_) (λf=>?_)
  .exact Ki (by rw[nQ,I a,I (λk=>k e),ao (aX h)]) aD
  have f:=bg f
  refine⟨Y,Y,Y,?_⟩
  rintro x w ⟨rfl,rfl⟩
  refine⟨by rw[oJ];omega,?_⟩
  rintro c rfl
  refine ay (λh=>?_) (λh=>?_)
  .refine Ki (by rw[nQ,I a,I (λk=>k e),I f,ao];intro k;rw[eJ] at k;rw[f7 k] at h;cases h) aD
  have j:nQ b=0:=by
   rw[nQ,I a,I (λk=>k e),I f,I]
   intro k;rw[eJ] at k;rw[gH k] at h;cases h
  rw[Dm]
  repeat refine⟨Y,?_⟩
  refine⟨by rw[gR];omega,?_⟩
  rintro y rfl
  have g0:=g _ (cW (i:=0) Y Y)
  have g1:=g _ (cW (i:=1) Y Y)
  rw[nj,ao j,j,aJ Y Y,aJ Y Y];exact⟨rfl,rfl⟩
theorem aM8:aB 256 bu1.spec:=aG Tryz.func256 (C (C (C (C aC (Ct.named KH)) (Ct.named Dh)) HZ) (Ct.named po)) aS bP0
def aN2:Ct:=⟨[.val dB,.val dB,.val (.sl bc)],[.agg Q4,.val cI],λd=>[(V d.2.2.1:Int)<=1000000],λd=>((vP d.1 d.2.1 d.2.2.1,mR d.1 d.2.1 d.2.2.1,()),())⟩
theorem bz0:
 ∀ a b c,aT a/\aT b/\J (aM c)->bV c->au (av (O c) 8) ((0,fA)=vP a b c/\3=mR a b c) (am 4 (4+2<=O c) (aR c/\au (db (aW c (M 4)) (O c)) ((0,fA)=vP a b c/\2=mR a b c) (au (av 1480 (O c)) ((0,fA)=vP a b c/\5=mR a b c) (am 6 (6+2<=O c) (aR c/\ ∀ d,C8 (d=dR c (M 6) 0) (aW c (M 6)) (fy d) (nf a b d) ((0,fA)=vP a b c/\4=mR a b c) (am 0 (0+2<=O c) (aR c/\am 2 (2+2<=O c) (aR c/\bo 8 (O c) (pR c) (aR (fN c 8 (O c))/\ ∀ e,e=fN c 8 (O c)->(aW c (M 0),aW c (M 2),e)=vP a b c/\0=mR a b c))))))))):= by
  delta O aM aT aR am bV bo fN J fy fA av C8 db aF pR
  rintro s d b ⟨-,-,⟨-,hb⟩,-⟩ hl
  refine ay (λh=>?_) (λa=>?_)
  .exact MD (by rw[mR,ao (aX h)]) aD
  have a:=bg a
  repeat refine⟨Y,?_⟩
  refine ay (λh=>?_) (λe=>?_)
  .exact MD (by rw[mR,I a,ao];simpa using h) aD
  have e:aW b (M 4)=V b:=by simpa using e
  refine ay (λh=>?_) (λf=>?_)
  .exact MD (by rw[mR,I a,I (λk=>k e),ao (aX h)]) aD
  have f:=bg f
  repeat refine⟨Y,?_⟩
  rintro x w ⟨rfl,rfl⟩
  refine⟨by rw[oJ];omega,?_⟩
  rintro c rfl
  refine ay (λh=>?_) (λh=>?_)
  .refine MD (by rw[mR,I a,I (λk=>k e),I f,ao];intro k;rw[f7 k] at h;cases h) aD
  have g:mR s d b=0:=by
   rw[mR,I a,I (λk=>k e),I f,I]
   simp_all
  rw[Dm]
  repeat refine⟨Y,?_⟩
  refine⟨by rw[gR];omega,?_⟩
  rintro y rfl
  rw[vP,ao g,g];exact⟨rfl,rfl⟩
theorem b60:aB 312 aN2.spec:=aG Tryz.func312 (C (C (C (C aC (Ct.named KH)) (Ct.named XD)) HZ) (Ct.named po)) aS bz0
def bk8:Ct:=⟨[.val dB,.val dB,.val (.sl bc)],[.agg TI,.val cI],λd=>[(V d.2.2.1:Int)<=1000000],λd=>((gG d.1 d.2.1 d.2.2.1,lM d.1 d.2.1 d.2.2.1,()),())⟩
def kg(a:Z):=fN a 20 (O a)
theorem aw1:
 ∀ a b c,aT a/\aT b/\J (aM c)->bV c->au (av (O c) 20) ((0,0,0,0,0,fA)=gG a b c/\3=lM a b c) (am 12 (12<O c) (Eo (db (N c 12) 80) (am 18 (18+2<=O c) (J (aR c))) ( !aY (aW c (M 18))) ((0,0,0,0,0,fA)=gG a b c/\2=lM a b c) (au (av 1480 (O c)) ((0,0,0,0,0,fA)=gG a b c/\5=lM a b c) (am 16 (16+2<=O c) (aR c/\ ∀ d,C8 (d=dR c (M 16) 0) (aW c (M 16)) (fy d) (jc a b 6 d) ((0,0,0,0,0,fA)=gG a b c/\4=lM a b c) (am 0 (0+2<=O c) (aR c/\am 2 (2+2<=O c) (aR c/\am 4 (4+2<=O c) (aR c/\am 16 ((0:Int)<=(6:Int)) (6+2<=O c/\aR c/\am 8 (8+2<=O c) (aR c/\am 16 ((0:Int)<=(10:Int)) (10+2<=O c/\aR c/\am 13 (13<O c) (am 14 (14+2<=O c) (aR c/\bo 20 (O c) (pR c) (aR (kg c)/\ ∀ e,e=kg
 c->(aW c (M 0),aW c (M 2),bits cH6 ct0 (gd ct0 (aW c (M 4)) 16) (aW c (M 6)),bits cH6 ct0 (gd ct0 (aW c (M 8)) 16) (aW c (M 10)),ap (N c 13),aW c (M 14),e)=gG a b c/\0=lM a b c))))))))))))))):= by
  delta N O ap aM bN aK aT aR br am kg bw aY bV bo fN J fy fA av C8 db kx Eo aF pR
  rintro s d b ⟨-,-,⟨-,e⟩,-⟩ hl
  refine ay (λh=>?_) (λa=>?_)
  .exact Lx (by rw[lM,ao (aX h)]) aD
  have a:=bg a
  refine⟨Y,Y,?_⟩
  (repeat (refine cG ?_;repeat refine cH ?_))
  rw[show (bif !cs7 (T b (M 12) cs5=80) then cs8 else !cs7 (aW b (M 18)=0)) = !cs7 (Hw b) from (b69 _ _).trans (dL (λx => !x) (decide_eq_decide.2 tZ))]
  refine ay (λh=>?_) (λf=>?_)
  .exact Lx (by rw[lM,I a,ao];simpa using h) aD
  have f:Hw b:=by simpa using f
  refine ay (λh=>?_) (λl=>?_)
  .exact Lx (by rw[lM,I a,I (λk=>k f),ao (aX h)]) aD
  have l:=bg l
  repeat refine⟨Y,?_⟩
  rintro x w ⟨rfl,rfl⟩
  refine⟨by rw[oJ];omega,?_⟩
  rintro c rfl
  refine ay (λh=>?_) (λh=>?_)
  .exact Lx (by rw[lM,I a,I (λk=>k f),I l,ao];intro k;rw[f7 k] at h;cases h) aD
  have m:lM s d b=0:=by
   rw[lM,I a,I (λk=>k f),I l,I]
   simp_all
  rw[Dm]
  repeat refine⟨Y,?_⟩
  refine⟨by rw[gR];omega,?_⟩
  rintro y rfl
  have g:=e _ (cW (i:=13) Y Y)
  have n:=MZ (k:=M 4) e
  have o:=MZ (k:=M 6) e
  have p:=MZ (k:=M 8) e
  have j:=MZ (k:=M 10) e
  rw[gG,ao m,m,aJ Y Y,Xr n.1 n.2 o.1 o.2,Xr p.1 p.2 j.1 j.2];exact⟨rfl,rfl⟩
theorem af1:aB 258 bk8.spec:=aG Tryz.func258 (C (C (C (C aC (Ct.named KH)) (Ct.named PQ)) HZ) (Ct.named po)) aS aw1
def N3(data:Z)(e:rQ):Prop:=(fI e.2.1=cs8/\fI e.2.2.1=cs8)/\e.2.2.2=data
def SF(data:Z)(u:vC):Prop:=(fI u.1=cs8/\fI u.2.1=cs8)/\u.2.2=data
def N1(data:Z)(s:ny):Prop:=yR s/\s.2.2.2.2.2.2=data
theorem rr(h0:0<=n)(h1:n<=65535):n/256%256*256+n%256=n:=by omega
variable{e:rQ}
theorem bm5(h:oM e=0):gY e=(if e.1 then 0 else 8)::0::(eJ (fc e)/256%256)::(eJ (fc e)%256)::(e.2.1/256%256)::(e.2.1%256)::(e.2.2.1/256%256)::(e.2.2.1%256)::e.2.2.2:=by
 rw[gY,ao h];rfl
theorem KE(h:N3 data e)(hl:(V data:Int)<=1472):oM e=0:=by
 rw[oM,I (λk=>k h.1),I (by rw[h.2];omega)]
theorem VP(h:N3 data e)(hd:bytes data)(hl:(V data:Int)<=1472):lT (gY e)=0/\ip (gY e)=e:=by
 have h0:=KE h hl
 rw[bm5 h0]
 have ⟨⟨h1,h2⟩,h3⟩:=h
 rw[jP] at h1 h2
 have hc:=xL (EB (e:=e) (by rw[h3];exact hd))
 have hb:fc e=(if e.1 then 0 else 8)::0::0::0::(e.2.1/256%256)::(e.2.1%256)::(e.2.2.1/256%256)::(e.2.2.1%256)::e.2.2.2:=rfl
 have ⟨r,i,q,l⟩:=e
 simp only at h1 h2 h3 hc hb ⊢
 subst h3
 have he:lT ((if r then 0 else 8)::0::(eJ (fc (r,i,q,l))/256%256)::(eJ (fc (r,i,q,l))%256)::(i/256%256)::(i%256)::(q/256%256)::(q%256)::l)=0:=by
  rw[lT,I (by simp only[fa];omega),I,I (by simp only[fa];omega),I]
  .have e2:aW ((if r then 0 else 8)::0::(eJ (fc (r,i,q,l))/256%256)::(eJ (fc (r,i,q,l))%256)::(i/256%256)::(i%256)::(q/256%256)::(q%256)::l) (M 2)=eJ (fc (r,i,q,l))/256%256*256+eJ (fc (r,i,q,l))%256:=jG _ _ _;rw[e2,rr hc.1 hc.2];have e3:dR ((if r then 0 else 8)::0::(eJ (fc (r,i,q,l))/256%256)::(eJ (fc (r,i,q,l))%256)::(i/256%256)::(i%256)::(q/256%256)::(q%256)::l) (M 2) 0=fc (r,i,q,l):=rfl;rw[e3];exact λk=>k rfl
  .intro k;apply k;refine⟨?_,rfl⟩;simp_all
 refine⟨he,?_⟩
 rw[ip,ao he]
 have e4:aW ((if r then 0 else 8)::0::(eJ (fc (r,i,q,l))/256%256)::(eJ (fc (r,i,q,l))%256)::(i/256%256)::(i%256)::(q/256%256)::(q%256)::l) (M 4)=i/256%256*256+i%256:=jG _ _ _
 have e6:aW ((if r then 0 else 8)::0::(eJ (fc (r,i,q,l))/256%256)::(eJ (fc (r,i,q,l))%256)::(i/256%256)::(i%256)::(q/256%256)::(q%256)::l) (M 6)=q/256%256*256+q%256:=jG _ _ _
 rw[e4,e6,rr h1.1 h1.2,rr h2.1 h2.2]
 cases r <;> rfl
theorem P8{u}(h:SF data u)(hl:(V data:Int)<=1472):qR u=0:=by
 rw[qR,I (λk=>k h.1),I (by rw[h.2];omega)]
theorem as8{u}(h:SF data u)(hd:bytes data)(hl:(V data:Int)<=1472):mR s d (py s d u)=0/\vP s d (py s d u)=u:=by
 have h0:=P8 h hl
 have ⟨⟨f,g⟩,i⟩:=h
 rw[jP] at f g
 have hc:=Sg (a:=s) (b:=d) (Nz (by rw[i];exact hd))
 have ⟨sp,c,l⟩:=u
 simp only at f g i hc
 subst i
 generalize hB:py s d (sp,c,l)=B
 have e:B=(sp/256%256)::(sp%256)::(c/256%256)::(c%256)::((8+V l:Int)/256%256)::((8+V l:Int)%256)::(nf s d (iJ (sp,c,l))/256%256)::(nf s d (iJ (sp,c,l))%256)::l:=by rw[← hB,py,ao h0];rfl
 have i0:aW B (M 0)=sp/256%256*256+sp%256:=by rw[e];exact jG _ _ _
 have i2:aW B (M 2)=c/256%256*256+c%256:=by rw[e];exact jG _ _ _
 have i4:aW B (M 4)=(8+V l:Int)/256%256*256+(8+V l:Int)%256:=by rw[e];exact jG _ _ _
 have i6:aW B (M 6)=nf s d (iJ (sp,c,l))/256%256*256+nf s d (iJ (sp,c,l))%256:=by rw[e];exact jG _ _ _
 have hset:dR B (M 6) 0=iJ (sp,c,l):=by rw[e];rfl
 have hlen:(V B:Int)=8+V l:=by rw[e];simp;omega
 have g8:B.drop 8=l:=by rw[e];rfl
 have j:mR s d B=0:=by
  rw[mR,I Y,I (λq=>q (by rw[i4];omega)),I Y,I];grind
 refine⟨j,?_⟩
 rw[vP,ao j,i0,i2,g8,rr f.1 f.2,rr g.1 g.2]
theorem QC{s}(h:N1 data s)(hl:(V data:Int)<=1460):pQ s=0:=by
 rw[pQ,I (λk=>k h.1),I (by rw[h.2];omega)]
theorem ap7(h0:0<=n)(h1:n<=4294967295):(n/16777216%256*256+n/65536%256)*65536+(n/256%256*256+n%256)=n:=Y
variable{s:Int}
theorem an0{u}(h:N1 data u)(hd:bytes data)(hl:(V data:Int)<=1460):lM s d (io s d u)=0/\gG s d (io s d u)=u:=by
 have h0:=QC h hl
 have ⟨k,t⟩:=h
 have E:=Mu (a:=s) (b:=d) (p:=6) (H4 k (by rw[t];exact hd))
 have ⟨n,o,v,w,k5,r⟩:=k
 rw[jP] at n o r
 obtain⟨sp,i,f,g,m,j,l⟩:=u
 simp only at n o t E v w k5 r
 subst t
 generalize hC:jc s d 6 (pg (sp,i,f,g,m,j,l))=c at E
 generalize hB:io s d (sp,i,f,g,m,j,l)=B
 have e:B=(sp/256%256)::(sp%256)::(i/256%256)::(i%256)::(f/16777216%256)::(f/65536%256)::(f/256%256)::(f%256)::(g/16777216%256)::(g/65536%256)::(g/256%256)::(g%256)::80::m::(j/256%256)::(j%256)::(c/256%256)::(c%256)::0::0::l:=by rw[← hB,io,ao h0,hC];rfl
 have i0:aW B (M 0)=sp/256%256*256+sp%256:=by rw[e];exact jG _ _ _
 have i2:aW B (M 2)=i/256%256*256+i%256:=by rw[e];exact jG _ _ _
 have i4:aW B (M 4)=f/16777216%256*256+f/65536%256:=by rw[e];exact jG _ _ _
 have i6:aW B (M 6)=f/256%256*256+f%256:=by rw[e];exact jG _ _ _
 have i8:aW B (M 8)=g/16777216%256*256+g/65536%256:=by rw[e];exact jG _ _ _
 have x:aW B (M 10)=g/256%256*256+g%256:=by rw[e];exact jG _ _ _
 have y:aW B (M 14)=j/256%256*256+j%256:=by rw[e];exact jG _ _ _
 have i16:aW B (M 16)=c/256%256*256+c%256:=by rw[e];exact jG _ _ _
 have z:aW B (M 18)=0:=by rw[e];exact jG 0 0 _
 have hset:dR B (M 16) 0=pg (sp,i,f,g,m,j,l):=by rw[e];rfl
 have hlen:(V B:Int)=20+V l:=by rw[e];simp;omega
 have A:T B (M 12) cs5=80:=by rw[e];rfl
 have S:T B (M 13) cs5=m:=by rw[e];rfl
 have D:B.drop 20=l:=by rw[e];rfl
 have F:lM s d B=0:=by
  rw[lM,I Y,I (λq=>q ⟨A,z⟩),I Y,I];grind
 refine⟨F,?_⟩
 rw[gG,ao F,i0,i2,i4,i6,i8,x,S,y,D,rr n.1 n.2,rr o.1 o.2,rr r.1 r.2,ap7 v.1 v.2,ap7 w.1 w.2]
def xm(s d p n:Int):Z:=w4 s++(w4 d++(w2 p++w2 n))
theorem Rl(s d p)(X):dS cs8 (F8 s d p X)=dS cs8 (xm s d p (V X))+dS cs8 X:=by
 have e:F8 s d p X=xm s d p (V X)++X:=by simp[F8,xm]
 have hl:V (xm s d p (V X))=12:=by simp[xm,w4,w2]
 rw[e,KT,hl];rfl
theorem aP1(s d p n):dS cs8 (xm s d p n)=dS cs8 (w4 s)+dS cs8 (w4 d)+dS cs8 (w2 p)+dS cs8 (w2 n):=by
 have a:∀ n r,dS cs8 (w4 n++r)=dS cs8 (w4 n)+dS cs8 r:=λn r=>by rw[KT,show V (w4 n)=4 from rfl];rfl
 have h2:∀ n r,dS cs8 (w2 n++r)=dS cs8 (w2 n)+dS cs8 r:=λn r=>by rw[KT,show V (w2 n)=2 from rfl];rfl
 rw[xm,a,a,h2]
 omega
theorem aV4(e):(V (gY e):Int)<=1480:=by
 unfold gY
 split
 next h=>rw[oJ,R6];unfold oM at h;omega
 .simp
theorem RP(e):(V (kP e):Int)<=1480:=by
 unfold kP
 split
 next h=>rw[oJ,T1];unfold mi at h;omega
 .simp
theorem ci4(s d)(e):(V (io s d e):Int)<=1480:=by
 unfold io
 split
 next h=>rw[oJ,JP];unfold pQ at h;omega
 .simp
theorem cq6(h:i<V l):T (l.set i v) i cs5=v:=by
 simp_all
variable{j:Nat}
theorem cr1(h:i≠j):T (l.set i v) j cs5=T l j default:=by
 simp_all
theorem bR9(h:lT b=0):8<=V b/\eJ (dR b 2 0)=aW b 2:=by
 unfold lT at h
 grind
theorem XH(s d p n):p%256<=dS cs8 (xm s d p n):=by
 rw[aP1];simp[dS,w4,w2];omega
theorem aa4{x y}(hx:∀ n∈x,0<=n/\n<=255)(hy:∀ n∈y,0<=n/\n<=255)(h:strOfNums x=strOfNums y):x=y:=by
 have h':(x.map λn=>cW1 n.toNat)=y.map λn=>cW1 n.toNat:=by
  have:=dL (λs:ByteArray=>s.data.toList) h;simpa[strOfNums_data] using this
 clear h
 revert h' hx hy
 induction x generalizing y with
 | nil=>intro hx hy h;cases y with
  | nil=>rfl
  | cons b y=>cases h
 | cons a x ih =>
  intro hx hy h;cases y with
  | nil=>cases h
  | cons b y =>
   simp only[f6,List.cons.injEq] at h;have ha:=hx a dU;have hb:=hy b dU;have e:=dL UInt8.toNat h.1;simp only[UInt8.toNat_ofNat'] at e;rw[ih (y:=y) (λn hn=>hx n (eZ _ hn)) (λn hn=>hy n (eZ _ hn)) h.2];congr 1;omega
def cd9:Ct:=⟨[.val (.sl bc),.val (.sl bc)],[.val .bool],λd=>[],λd=>((cs7 (d.1=d.2.1),()),())⟩
theorem aM1:
 ∀ a b,aM a/\J (aM b)->True->cs7 (strOfNums a=strOfNums b)=cs7 (a=b):= by
  delta aM J aF
  rintro x y ⟨⟨-,hx⟩,⟨-,hy⟩,-⟩ -
  by_cases h:x=y
  .rw[h,f7 rfl,f7 rfl]
  .rw[gH h,gH λk=>h (aa4 hx hy k)]
theorem ax6:aB 174 cd9.spec:=aG Tryz.func174 aC aS aM1
def bZ8:Ct:=⟨[.val (.sl bc),.val (.sl bc)],[.val .bool],λd=>[],λd=>((cs7 (d.1=d.2.1),()),())⟩
theorem cg2:
 ∀ a b,aM a/\J (aM b)->True->cs7 (a=b)=cs7 (a=b):= by
  delta aM J aF
  intro x y _ _;rfl
theorem Sb:aB 97 bZ8.spec:=aG Tryz.func97 (C aC ax6) aS cg2
abbrev qh:CT := .pair cI (.pair cI (.pair cI (.pair cI (.pair .bool (.pair dB dB)))))
abbrev FP:CT := .pair qh (.sl bc)
abbrev cX:Type:=Int×Int×Int×Int×Bool×Int×Int
abbrev iM:Type:=cX×Z
def tI(n:Int):Prop:=0<=n/\n<=255
instance (n:Int):Decidable (tI n):=by unfold tI;infer_instance
def nX(h:cX):Prop:=tI h.1/\tI h.2.2.1/\tI h.2.2.2.1/\0<=h.2.1/\h.2.1<=65535
instance (h:cX):Decidable (nX h):=by unfold nX;infer_instance
def qt(h:cX):Int:=if nX h then 0 else 1
def YC(h:cX)(n:Int):Z:=[69,h.1]++(w2 n++(w2 h.2.1++(w2 (if h.2.2.2.2.1 then 16384 else 0)++[h.2.2.1,h.2.2.2.1])))
def ab5(h:cX):Z:=w4 h.2.2.2.2.2.1++w4 h.2.2.2.2.2.2
def pd(h:cX)(n:Int):Z:=YC h n++([0,0]++ab5 h)
def nU(h:cX)(n:Int):Z:=dR (pd h n) 10 (eJ (pd h n))
def jB(p:iM):Int:=if ¬ nX p.1 then 1 else if (1480:Int)<V p.2 then 5 else 0
def gW(p:iM):Z:=if jB p=0 then nU p.1 (20+V p.2)++p.2 else []
def jh(b:Z):Int :=
 if (V b:Int)<20 then 3 else if ¬ (T b 0 cs5=69/\(aW b 6=0∨aW b 6=16384)/\20<=aW b 2) then 2
 else if eJ (dR (b.take 20) 10 0)≠aW b 10 then 4 else 0
def yz:cX:=(0,0,0,0,ct2,0,0)
def cC(b:Z):cX:=(T b 1 cs5,aW b 4,T b 8 cs5,T b 9 cs5,cs7 (aW b 6=16384),gk ((b.drop 12).take 4),gk ((b.drop 16).take 4))
def tC(b:Z):cX:=if jh b=0 then cC b else yz
def sH(b:Z):Int:=if jh b=0 then aW b 2 else 0
def eO(b:Z):Int:=if jh b≠0 then jh b else if aW b 2≠V b then 2 else if 1500<aW b 2 then 5 else 0
def cN(b:Z):iM:=if eO b=0 then (cC b,b.drop 20) else (yz,[])
def FR(h:cX):cX:=(h.1,h.2.1,h.2.2.1-1,h.2.2.2)
def kT(b:Z):Int:=if eO b≠0 then eO b else if (cC b).2.2.1<2 then 7 else 0
def mg(b:Z):Z:=if kT b=0 then gW (FR (cC b),b.drop 20) else []
theorem bN1(h)(n):V (pd h n)=20:=rfl
theorem zc(h)(n):V (nU h n)=20:=by unfold nU;rw[oJ];rfl
variable{h:cX}
theorem Rh(hk:nX h):bytes (pd h n):=by
 obtain⟨a,b,c,-⟩:=hk
 exact j4 (j4 (pU Y Y (pU a.1 a.2 rT)) (j4 (px _) (j4 (px _) (j4 (px _) (pU b.1 b.2 (pU c.1 c.2 rT))))))
  (j4 (pU Y Y (pU Y Y rT)) (j4 (Gk _) (Gk _)))
theorem O9(hk:nX h):bytes (nU h n):=zA (Rh hk)
variable{n:Nat}
theorem pi(h:n+1<=V b):∃ x r,b=x::r/\n<=V r:=by
 cases b with
 | nil=>simp at h
 | cons x r=>exact⟨x,r,rfl,by simpa using h⟩
theorem aZ3(h:20<=V b):∃ x y z A B S D E F G a c d e f g i j k l r,b=x::y::z::A::B::S::D::E::F::G::a::c::d::e::f::g::i::j::k::l::r:=by
 obtain⟨x,b1,rfl,h1⟩:=pi h
 obtain⟨y,b2,rfl,h2⟩:=pi h1
 obtain⟨z,b3,rfl,h3⟩:=pi h2
 obtain⟨A,b4,rfl,h4⟩:=pi h3
 obtain⟨B,b5,rfl,h5⟩:=pi h4
 obtain⟨S,b6,rfl,h6⟩:=pi h5
 obtain⟨D,b7,rfl,h7⟩:=pi h6
 obtain⟨E,b8,rfl,h8⟩:=pi h7
 obtain⟨F,b9,rfl,h9⟩:=pi h8
 obtain⟨G,b10,rfl,m⟩:=pi h9
 obtain⟨a,b11,rfl,n⟩:=pi m
 obtain⟨c,b12,rfl,o⟩:=pi n
 obtain⟨d,b13,rfl,p⟩:=pi o
 obtain⟨e,b14,rfl,q⟩:=pi p
 obtain⟨f,b15,rfl,s⟩:=pi q
 obtain⟨g,b16,rfl,t⟩:=pi s
 obtain⟨i,b17,rfl,u⟩:=pi t
 obtain⟨j,b18,rfl,v⟩:=pi u
 obtain⟨k,b19,rfl,w⟩:=pi v
 obtain⟨l,b20,rfl,h20⟩:=pi w
 grind
theorem bY8(a):gk [a]=a:=by simp[gk]
theorem I8(a b c d):gk [a,b,c,d]=((a*256+b)*256+c)*256+d:=by simp[gk]
theorem OG{w}(h1:1<=w)(h2:w<=7)(h3:0<=a)(h4:a+w<=V b):bM b a w=gk ((b.drop (M a)).take (M w)):=by
 rw[bM,I Y]
theorem cl0(h:i<V b):(b.drop i).take 1=[T b i cs5]:=by
 rw[sM h,cK,cT h];rfl
theorem NF(h3:0<=a)(h4:a+1<=V b):bM b a 1=T b (M a) default:=by
 rw[OG Y Y h3 h4,show M (1:Int)=1 from rfl,cl0 Y,bY8]
theorem u5(h3:0<=a)(h4:a+2<=V b):bM b a 2=aW b (M a):=by
 rw[OG Y Y h3 h4];rfl
theorem RY(h3:0<=a)(h4:a+4<=V b):bM b a 4=gk ((b.drop (M a)).take 4):=by
 rw[OG Y Y h3 h4];rfl
theorem Ch(h:i<n):T (b.take n) i cs5=T b i default:=by
 simp_all
theorem Fs(h:i+k<=n):((b.take n).drop i).take k=(b.drop i).take k:=by
 rw[List.drop_take,List.take_take,Nat.min_eq_left Y]
theorem wP(h:i+2<=n):aW (b.take n) i=aW b i:=by
 unfold aW;rw[Fs h]
theorem TE(h:bytes b):bytes (b.take n):=λx hx=>h x (te hx)
theorem zL(h:bytes b):bytes (b.drop n):=λx hx=>h x (zo hx)
theorem IN(h:bytes b)(hi:i<V b):0<=T b i cs5/\T b i cs5<=255:=by
 have:=cW (xs:=b) (i:=(i:Int)) Y Y
 exact h _ this
theorem tu(h:bytes b)(i):0<=aW b i/\aW b i<=65535:=by
 have:=Ln 2 ((b.drop i).take 2) (by rw[fF];omega) (λx hx=>h x (zo (te hx)))
 unfold aW;omega
theorem AX(h:bytes b)(i):0<=gk ((b.drop i).take 4)/\gk ((b.drop i).take 4)<=4294967295:=by
 have:=Ln 4 ((b.drop i).take 4) (by rw[fF];omega) (λx hx=>h x (zo (te hx)))
 omega
theorem oP(h:bytes (a::l)):(0<=a/\a<=255)/\bytes l:=⟨h a dU,λx hx=>h x (eZ _ hx)⟩
theorem Uw{b}(ha:0<=a/\a<=255)(hb:0<=b/\b<=255)(hc:0<=c/\c<=255)(hd:0<=d/\d<=255):w4 (((a*256+b)*256+c)*256+d)=[a,b,c,d]:=by
 unfold w4
 grind
variable{b:Z}
theorem bo6(a:bytes b)(hl:20<=V b)(h0:T b 0 cs5=69)(w:aW b 6=0∨aW b 6=16384) :
  pd (cC b) (aW b 2)=dR (b.take 20) 10 0/\(nU (cC b) (aW b 2)=b.take 20↔eJ (dR (b.take 20) 10 0)=aW b 10):=by
 obtain⟨y,t,o,p,q,s,x6,n,u,v,d,f,g,x13,i,j,k,l,m,x19,r,rfl⟩:=aZ3 hl
 have hb0:=a
 have ⟨k0,a⟩:=oP a
 have ⟨k1,a⟩:=oP a
 have ⟨K,a⟩:=oP a
 have ⟨L,a⟩:=oP a
 have ⟨R,a⟩:=oP a
 have ⟨U,a⟩:=oP a
 have ⟨k6,a⟩:=oP a
 have ⟨k7,a⟩:=oP a
 have ⟨k8,a⟩:=oP a
 have ⟨k9,a⟩:=oP a
 have ⟨k10,a⟩:=oP a
 have ⟨k11,a⟩:=oP a
 have ⟨z,a⟩:=oP a
 have ⟨A,a⟩:=oP a
 have ⟨B,a⟩:=oP a
 have ⟨S,a⟩:=oP a
 have ⟨D,a⟩:=oP a
 have ⟨E,a⟩:=oP a
 have ⟨F,a⟩:=oP a
 have ⟨G,a⟩:=oP a
 have e2:aW (y::t::o::p::q::s::x6::n::u::v::d::f::g::x13::i::j::k::l::m::x19::r) 2=o*256+p:=jG _ _ _
 have e4:aW (y::t::o::p::q::s::x6::n::u::v::d::f::g::x13::i::j::k::l::m::x19::r) 4=q*256+s:=jG _ _ _
 have e6:aW (y::t::o::p::q::s::x6::n::u::v::d::f::g::x13::i::j::k::l::m::x19::r) 6=x6*256+n:=jG _ _ _
 have H:aW (y::t::o::p::q::s::x6::n::u::v::d::f::g::x13::i::j::k::l::m::x19::r) 10=d*256+f:=jG _ _ _
 have P:gk (((y::t::o::p::q::s::x6::n::u::v::d::f::g::x13::i::j::k::l::m::x19::r).drop 12).take 4)=((g*256+x13)*256+i)*256+j:=I8 _ _ _ _
 have Q:gk (((y::t::o::p::q::s::x6::n::u::v::d::f::g::x13::i::j::k::l::m::x19::r).drop 16).take 4)=((k*256+l)*256+m)*256+x19:=I8 _ _ _ _
 subst h0
 rw[e6] at w
 have hk:w2 (if cs7 (x6*256+n=16384) then 16384 else 0)=[x6,n]:=by
  obtain w|w:=w
  .rw[w];have:x6=0/\n=0:=Y;rw[this.1,this.2];rfl
  .rw[w];have:x6=64/\n=0:=Y;rw[this.1,this.2];rfl
 have hbody:pd (cC (69::t::o::p::q::s::x6::n::u::v::d::f::g::x13::i::j::k::l::m::x19::r)) (aW (69::t::o::p::q::s::x6::n::u::v::d::f::g::x13::i::j::k::l::m::x19::r) 2)=dR ((69::t::o::p::q::s::x6::n::u::v::d::f::g::x13::i::j::k::l::m::x19::r).take 20) 10 0:=by
  unfold pd YC ab5 cC;rw[e2,e4,e6,P,Q,hk,Mj K.1 K.2 L.1 L.2,Mj R.1 R.2 U.1 U.2,Uw z A B S,Uw D E F G];rfl
 refine⟨hbody,?_⟩
 rw[nU,hbody,H]
 have hc:=xL (b:=dR ((69::t::o::p::q::s::x6::n::u::v::d::f::g::x13::i::j::k::l::m::x19::r).take 20) 10 0) (zA (λx hx=>hb0 x (te hx)))
 generalize eJ (dR ((69::t::o::p::q::s::x6::n::u::v::d::f::g::x13::i::j::k::l::m::x19::r).take 20) 10 0)=c at hc ⊢
 have e:dR (dR ((69::t::o::p::q::s::x6::n::u::v::d::f::g::x13::i::j::k::l::m::x19::r).take 20) 10 0) 10 c=[69,t,o,p,q,s,x6,n,u,v,c/256%256,c%256,g,x13,i,j,k,l,m,x19]:=rfl
 rw[e]
 have e':(69::t::o::p::q::s::x6::n::u::v::d::f::g::x13::i::j::k::l::m::x19::r).take 20=[69,t,o,p,q,s,x6,n,u,v,d,f,g,x13,i,j,k,l,m,x19]:=rfl
 rw[e']
 constructor
 .grind
 .intro h;have:c/256%256=d/\c%256=f:=Y;rw[this.1,this.2]
def En(k:Nat):Nat:=[0,1,2,4,6,8,9,10,12,16,20].getD k 20
variable{n:Int}
theorem bQ4{k}(c:nX h)(n0:0<=n)(n1:n<=65535)(d:0<=h.2.2.2.2.2.1/\h.2.2.2.2.2.1<=4294967295)(e:0<=h.2.2.2.2.2.2/\h.2.2.2.2.2.2<=4294967295)(g:f=if h.2.2.2.2.1 then 16384 else 0)(k0:0<=k)(k1:k<10) :
  putB ((pd h n).take (En (M k))) (pickI [69,h.1,n,h.2.1,f,h.2.2.1,h.2.2.2.1,0,h.2.2.2.2.2.1,h.2.2.2.2.2.2] (M k)) (pickI [1,1,2,2,2,1,1,2,4,4] (M k))=(pd h n).take (En (M (k+1))):=by
 have ⟨i,j,l,h4,h5⟩:=c
 have a:0<=f/\f<=65535:=by rw[g];split <;> omega
 have:k=0∨k=1∨k=2∨k=3∨k=4∨k=5∨k=6∨k=7∨k=8∨k=9:=Y
 obtain rfl|rfl|rfl|rfl|rfl|rfl|rfl|rfl|rfl|rfl:=this
 .exact Ke (n:=69) Y Y
 .exact Ke i.1 i.2
 .exact H6 n0 n1
 .exact H6 h4 h5
 .have:=H6 (b:=[69,h.1]++(w2 n++w2 h.2.1)) a.1 a.2;rw[g] at this ⊢;exact this
 .exact Ke j.1 j.2
 .exact Ke l.1 l.2
 .exact H6 (n:=0) Y Y
 .exact an8 d.1 d.2
 .exact an8 e.1 e.2
theorem NM(h:jh b=0):20<=V b:=by
 unfold jh at h
 split at h
 .cases h
 .omega
theorem L0(h:eO b=0):jh b=0:=by
 unfold eO at h
 grind
theorem ER(h:eO b=0):(V b:Int)<=1500/\aW b 2=V b:=by
 unfold eO at h
 omega
theorem bq4(a:bytes b)(h:jh b=0):nX (cC b):=by
 have hl:=NM h
 exact⟨IN a Y,IN a Y,IN a Y,tu a 4⟩
theorem a70(hb:bytes b)(h:eO b=0)(h2:¬ (cC b).2.2.1<2):nX (FR (cC b)):=by
 have ⟨k1,k2,k3,k4⟩:=bq4 hb (L0 h)
 refine⟨k1,?_,k3,k4⟩
 have ⟨k5,k6⟩:=k2
 show 0<=(cC b).2.2.1-1/\(cC b).2.2.1-1<=255
 omega
def bn6:Ct:=⟨[.val cI],[.val .bool],λd=>[],λd=>((fI d.1,()),())⟩
theorem av0:
 EJ:= by
 delta aq aH aK bq J Bn dN fH EJ zj
 unfold fI
 simp_all
theorem b27:aB 298 bn6.spec:=aG Tryz.func298 aC aS av0
def bB4:Ct:=⟨[.val cI,.val cI],[.val cI],λd=>[],λd=>((if fI d.1&&fI d.2.1 then oc (d.1+d.2.1) else 0,()),())⟩
theorem b56:
 ∀ a b,dP a b->True->lO ( !fI a) ( !fI b) ((0:Int)=(if fI a&&fI b then oc (a+b) else (0:Int))) (0<=ap (a+b)/\oc (ap (a+b))=(if fI a&&fI b then oc (a+b) else 0)):= by
  delta ap aq aH bN aK br cQ bw lO J dP
  rintro a b - -
  (repeat (intro (b_:Bool) (c:b_=_);(repeat refine⟨(by first|(simp;done)),?_⟩);subst c))
  refine ay (λe=>?_) (λe=>?_)
  .grind
  .have d:fI a=cs8/\fI b=true:=by simpa[lY] using e
   rw[ao (by simp[d])]
   have ha:=aX d.1
   have hb:=aX d.2
   rw[aJ Y Y]
   omega
theorem aR3:aB 262 bB4.spec:=aG Tryz.func262 (C (C aC b27) Um) aS b56
def bZ9:Ct:=⟨[.val cI],[.val .bool],λd=>[],λd=>((cs7 (tI d.1),()),())⟩
theorem aV1:
 ∀ a,Bn a (av a 256) (cs7 (tI a)):= by
  delta aq aH aK bq J Bn av dN fH zj
  unfold tI
  grind
theorem aT6:aB 265 bZ9.spec:=aG Tryz.func265 aC aS aV1
def aH3:Ct:=⟨[.agg qh],[.val cI],λd=>[],λd=>((qt d.1,()),())⟩
theorem bG0:
 ∀ a,dN (CT.wf qh a) (∀ b,b=( !cs7 (tI a.1))->bN b/\gv b/\bN b/\bw b/\ ∀ c,ry c b ( !cs7 (tI a.2.2.1)) (gv c) (bN c/\bw c/\ ∀ d,d=br c ( !cs7 (tI a.2.2.2.1))->cQ d (bw d) (lO (br d (da a.2.1)) (cs7 (65536<=a.2.1)) (1=qt a) (0=qt a)))):= by
  delta bN aK br cQ bw gv ry lO J dE da av dN
  rintro h - -
  (repeat (refine cG ?_;repeat refine cH ?_))
  refine ay (λa=>?_) (λa=>?_)
  .rw[qt,I]
   intro k;have ⟨k1,k2,k3,k4,k5⟩:=k
   grind
  .rw[qt,ao]
   simp[lY] at a
   exact⟨a.1.1.1.1,a.1.1.1.2,a.1.1.2,Y,Y⟩
theorem cf6:aB 215 aH3.spec:=aG Tryz.func215 (C aC aT6) aS bG0
def ap3:Ct:=⟨[.agg FP],[.own 5 bc,.val cI],λd=>[(V d.1.2:Int)<=1073741824],λd=>((gW d.1,jB d.1,()),())⟩
def a25:bG ap3.ps->bL:=(λd=>{loops:=(bz 12 (λS=>{ι:=Int×Z,qn:=fE,μ:=λi=>M (10-i.1),inv:=λi=>0<=i.1/\i.1<=10/\i.2=(pd d.1.1 (20+V d.1.2)).take (En (M i.1)),keep:=[1,4,53],slots:=λi=>[(7,.own 524288 1),(54,.int .i64 i.1)],keepN:=[32,80],names:=λi=>[(524288,.live (.row 5 bc i.2))]}) cm)})
def ab7(a:iM)(b:Prop):=a.1.2.2.2.2.1=a.1.2.2.2.2.1/\bp a.1.2.2.2.2.2.1 a.1.2.2.2.2.2.2 (a.2=a.2) (bh a.1.1 a.1.2.1 a.1.2.2.1 (a.1.2.2.2.1=a.1.2.2.2.1) (a.1.2.2.2.2.1=a.1.2.2.2.2.1/\bp a.1.2.2.2.2.2.1 a.1.2.2.2.2.2.2 b True))
def Q5(a:Z)(b:iM):=∀(c:Int),c=sZ a->am 8 ((0:Int)<=(10:Int)) (10<O a/\bP 11 (O (set a (M 10) (ug c))) (gb (set (set a (M 10) (ug c)) (M 11) (ct1 cw0 c)) b.2) (set (set a (M 10) (ug c)) (M 11) (ct1 cw0 c)++b.2=gW b/\0=jB b))
def DP(a:Int)(b:Z)(c:iM):=f9 a 10 b (take (En (M a)) (pd c.1 (20+O c.2)))
def GU(a:iM):=a.1.2.2.1::a.1.2.2.2.1::(0:Int)::ap a.1.2.2.2.2.2.1::bI (ap a.1.2.2.2.2.2.2)
def I4(a:iM)(b c:Prop):=bh a.1.2.2.2.1 1 0 ((2:Int)=(2:Int)) (bh (ap a.1.2.2.2.2.2.1) 4 (ap a.1.2.2.2.2.2.2) ((4:Int)=(4:Int)) (b/\c))
def H5(a:Int):=SX.pickI (1::1::2::2::2::1::1::2::4::bI 4) (M a)
def HK(a:iM)(b:Prop):=bh a.1.1 a.1.2.1 a.1.2.2.1 (a.1.2.2.2.1=a.1.2.2.2.1) (ab7 a b)
def HH(a:iM)(b:Int)(c:Z)(d:Int):=SX.pickI (69::a.1.1::ap b::a.1.2.1::c) (M d)
def IV(a:iM)(b:Int)(c d:Prop):=bh 69 1 a.1.1 ((1:Int)=(1:Int)) (bh b 2 a.1.2.1 c d)
def uc(a:Prop)(b:Int)(c:Prop):=∀(d:Int),a/\d=b->c
theorem aU5:
 ∀(a:iM),J (CT.wf FP a)->fy a.2->au ( !aY (qt a.1)) (fL (gW a)/\qt a.1=jB a) (au (av 1480 (O a.2)) (fL (gW a)/\5=jB a) (au a.1.2.2.2.2.1 ((∃(b:Int) (c:Z),DP b c a/\IV a (ap (20+O a.2)) ((2:Int)=(2:Int)) (bh 16384 2 a.1.2.2.1 ((1:Int)=(1:Int)) (I4 a (0=b) (HK a (c=[])))))/\ ∀(b:Int)(c:Z),DP b c a->eh b 10 (b<(↑((10:Nat)):Int)) (aR c/\ ∀(d:Z),uc (d=putB c (HH a (20+O a.2) (16384::GU a) b) (H5 b)) (DJ (HH a (20+O a.2) (16384::GU a) b) (H5 b)) (∃(e:Int) (f:Z),DP e f a/\bi 10 e b/\IV a (ap (20+O a.2)) ((2:Int)=(2:Int)) (bh 16384 2 a.1.2.2.1 ((1:Int)=(1:Int)) (I4 a (aA b=e) (HK a (d=f)))))) (aR c) (Q5 c a)) ((∃(b:Int) (c:Z),DP b c a/\IV a (ap (20+O a.2)) ((2:Int)=(2:Int)) (bh 0 2 a.1.2.2.1 ((1:Int)=(1:Int)) (I4 a (0=b)
 (HK a (c=[])))))/\ ∀(b:Int)(c:Z),DP b c a->eh b 10 (b<(↑((10:Nat)):Int)) (aR c/\ ∀(d:Z),uc (d=putB c (HH a (20+O a.2) (0::GU a) b) (H5 b)) (DJ (HH a (20+O a.2) (0::GU a) b) (H5 b)) (∃(e:Int) (f:Z),DP e f a/\bi 10 e b/\IV a (ap (20+O a.2)) ((2:Int)=(2:Int)) (bh 0 2 a.1.2.2.1 ((1:Int)=(1:Int)) (I4 a (aA b=e) (HK a (d=f)))))) (aR c) (Q5 c a)))):= by
  delta O ap bh bp aR bi bZ am gb bR ab7 aY eh aA J fy bI Q5 DP GU I4 H5 HK av bP f9 HH sZ ug IV uc fL
  rintro d ⟨⟨hw,-⟩,-⟩ hl
  obtain⟨-,-,-,-,-,i,j⟩:=hw
  have i:0<=d.1.2.2.2.2.2.1/\d.1.2.2.2.2.2.1<=4294967295:=i
  have j:0<=d.1.2.2.2.2.2.2/\d.1.2.2.2.2.2.2<=4294967295:=j
  refine ay (λa=>?_) (λa=>?_)
  .have t:¬ nX d.1:=λk=>by rw[qt,ao k] at a;cases a
   have l:jB d=1:=by rw[jB,ao t]
   rw[gW,l,qt,I t];exact⟨rfl,rfl⟩
  have b:=jW λk=>by rw[qt,I k] at a;cases a
  refine ay (λe=>?_) (λe=>?_)
  .have e:=aX e
   have l:jB d=5:=by rw[jB,I (λk=>k b),ao e]
   rw[gW,l];exact⟨rfl,rfl⟩
  have e:=bg e
  have l:jB d=0:=by rw[jB,I (λk=>k b),I e]
  have p:ct1 .i64 (20+(V d.2:Int))=20+V d.2:=aJ Y Y
  have es:ct1 .i64 d.1.2.2.2.2.2.1=d.1.2.2.2.2.2.1:=aJ (by have:=i.1;omega) (by have:=i.2;omega)
  have ed:ct1 .i64 d.1.2.2.2.2.2.2=d.1.2.2.2.2.2.2:=aJ (by have:=j.1;omega) (by have:=j.2;omega)
  have a:=xL (Rh (n:=20+V d.2) b)
  have m:=bN1 d.1 (20+V d.2)
  have c:=λf hf k=>bQ4 (n:=20+V d.2) (f:=f) (k:=k) b Y Y i j hf
  have fin:∀ ys,ys=pd d.1 (20+V d.2)->(set (set ys (M 10) (ct1 .u8 (fm .i64 (65535-oc (dS cs8 ys)) 8))) (M 11) (ct1 .u8 (65535-oc (dS cs8 ys)))++d.2=gW d/\(0:Int)=jB d):=by
   rintro ys rfl
   have a:0<=65535-oc (dS cs8 (pd d.1 (20+V d.2))):=a.1
   rw[PS a,cy9,cy9,gW,l,ao rfl]
   exact⟨rfl,rfl⟩
  rw[p,es,ed]
  refine ay (λq=>?_) (λq=>?_)
  .refine⟨⟨0,[],⟨Y,Y,rfl⟩,aI⟩,?_⟩
   rintro k ys ⟨o,k1,rfl⟩
   refine bT (λh=>?_) (λh=>?_)
   .have r:=c 16384 (by rw[q];rfl) k o h
    refine⟨o,h,by rw[fF];omega,?_⟩
    rintro y _ ⟨rfl,-⟩
    exact⟨k+1,_,⟨Y,Y,r⟩,Y,aI⟩
   .have g:k=10:=Y
    subst g
    have s:(pd d.1 (20+V d.2)).take (En (M 10))=pd d.1 (20+V d.2):=gE (by rw[m];decide)
    rw[s]
    refine⟨Y,?_⟩
    grind
  .refine⟨⟨0,[],⟨Y,Y,rfl⟩,aI⟩,?_⟩
   rintro k ys ⟨o,k1,rfl⟩
   refine bT (λh=>?_) (λh=>?_)
   .have r:=c 0 (by rw[q];rfl) k o h
    refine⟨o,h,by rw[fF];omega,?_⟩
    rintro y _ ⟨rfl,-⟩
    exact⟨k+1,_,⟨Y,Y,r⟩,Y,aI⟩
   .have g:k=10:=Y
    subst g
    have s:(pd d.1 (20+V d.2)).take (En (M 10))=pd d.1 (20+V d.2):=gE (by rw[m];decide)
    rw[s]
    refine⟨Y,?_⟩
    grind
theorem Ol:aB 148 ap3.spec:=aG Tryz.func148 (C (C (C aC cf6) (Ct.named RE)) (Ct.named Dh)) a25 aU5
def bK3:Ct:=⟨[.val cI,.box 22 (.row 5 bc),.box 3 cI],[.val cI],λd=>[(V d.2.1:Int)<=100000,0<=d.1,d.1<=8,0<=d.2.2.1,d.2.2.1<=100000],λd=>((bM d.2.1 d.2.2.1 d.1,()),(d.2.1,d.2.2.1+d.1,()))⟩
def ve(a:Z):=O a<=100000
theorem b70:
 ∀ a b c,aq a/\aM b/\J (aq c)->ve b/\bo a 8 (0<=c) (c<=100000)->aH (O b)/\bM b c a=bM b c a/\b=b/\ap (c+a)=c+a:= by
  delta O ap aq aH aM am bo J ve aF
  rintro w b a-⟨h1,h2,h3,h4,h5⟩
  exact⟨Y,rfl,rfl,aJ Y Y⟩
theorem aV5:aB 292 bK3.spec:=aG Tryz.func292 (C aC CL) aS b70
def bj7:Ct:=⟨[.val (.sl bc)],[.agg qh,.val cI,.val cI],λd=>[(V d.1:Int)<=1099511627776],λd=>((tC d.1,sH d.1,jh d.1,()),())⟩
def sA:=((0:Int),(0:Int),(0:Int),(0:Int),ct2,(0:Int),(0:Int))
def BD(a b:Bool):=!a->( !a-> !a)/\J (b-> !a&&b)
theorem ay8:
 ∀ a,J (aM a)->aR a->au (av (O a) 20) (sA=tC a/\0=sH a/\3=jh a) (bo 0 20 (20<=O a) (aR (fN a 0 20)/\ve (fN a 0 20)/\am 1 ((1:Int)<=(8:Int)) (am 0 ((0:Int)<=(100000:Int)) (∀ b c d,b=bM (fN a 0 20) 0 1/\c=fN a 0 20/\d=0+1->ve c/\am 1 ((1:Int)<=(8:Int)) (am d (d<=100000) (∀ e f g,e=bM c d 1/\f=c/\g=d+1->ve f/\am 2 ((2:Int)<=(8:Int)) (am g (g<=100000) (∀ h i j,h=bM f g 2/\i=f/\j=g+2->ve i/\am 2 ((2:Int)<=(8:Int)) (am j (j<=100000) (∀ k l m,k=bM i j 2/\l=i/\m=j+2->ve l/\am 2 ((2:Int)<=(8:Int)) (am m (m<=100000) (∀ n o p,n=bM l m 2/\o=l/\p=m+2->ve o/\am 1 ((1:Int)<=(8:Int)) (am p (p<=100000) (∀ q r s,q=bM o p 1/\r=o/\s=p+1->ve r/\am 1 ((1:Int)<=(8:Int)) (am s
 (s<=100000) (∀ t u v,t=bM r s 1/\u=r/\v=s+1->ve u/\am 2 ((2:Int)<=(8:Int)) (am v (v<=100000) (∀ w x y,w=bM u v 2/\x=u/\y=v+2->ve x/\am 4 ((4:Int)<=(8:Int)) (am y (y<=100000) (∀ z A B,z=bM x y 4/\A=x/\B=y+4->ve A/\am 4 ((4:Int)<=(8:Int)) (am B (B<=100000) (∀ S D E,S=bM A B 4/\D=A/\E=B+4-> ∀ F,F=db b 69->bN F/\bN F/\ ∀ G,G=( !aY n)->cB ( !F&&G) ( !F&&G) (aK ( !F&&G)) (BD F G) (bw F/\yY F (bq G (db n 16384)) (av h 20) (sA=tC a/\0=sH a/\2=jh a) (am 10 (10<O D) (bP 11 (O (set D (M 10) 0)) (aR (set (set D (M 10) 0) (M 11) 0)) (∀ H,H=sZ (set (set D (M 10) 0) (M 11) 0)->au (db H w) (sA=tC a/\0=sH a/\4=jh a) ((e,k,q,t,decide
 (n=16384),ct1 ct3 z,ct1 ct3 S)=tC a/\h=sH a/\0=jh a))))))))))))))))))))))))))):= by
  delta O aM bN aK aR cB br bq am bw aY ry bo fN J sA av bP db BD yY sZ ve aF
  rintro b ⟨⟨-,hb⟩,-⟩ hl
  refine ay (λh=>?_) (λh=>?_)
  .have h:=aX h
   have e:jh b=3:=by rw[jh,ao h]
   rw[tC,sH,e];exact⟨rfl,rfl,rfl⟩
  have h:=bg h
  have hB:cZ b (M 0) (M 20)=b.take 20:=rfl
  have hBl:V (b.take 20)=20:=by rw[fF];omega
  rw[hB]
  refine⟨Y,Y,Y,Y,Y,Y,Y,Y,Y,?_⟩
  rintro v0 _ a0 ⟨e0,rfl,q0⟩
  rw[NF Y Y,Ch aD] at e0
  have q0:=q0
  subst q0
  refine⟨Y,Y,Y,Y,Y,?_⟩
  rintro v1 _ a1 ⟨e1,rfl,q1⟩
  rw[NF Y Y,Ch aD] at e1
  have q1:=q1
  subst q1
  refine⟨Y,Y,Y,Y,Y,?_⟩
  rintro v2 _ a2 ⟨e2,rfl,q2⟩
  rw[u5 Y Y,wP aD] at e2
  have q2:=q2
  subst q2
  refine⟨Y,Y,Y,Y,Y,?_⟩
  rintro v3 _ a3 ⟨e3,rfl,q3⟩
  rw[u5 Y Y,wP aD] at e3
  have q3:a3=6:=q3
  subst q3
  refine⟨Y,Y,Y,Y,Y,?_⟩
  rintro v4 _ a4 ⟨e4,rfl,q4⟩
  rw[u5 Y Y,wP aD] at e4
  have q4:=q4
  subst q4
  refine⟨Y,Y,Y,Y,Y,?_⟩
  rintro v5 _ a5 ⟨e5,rfl,q5⟩
  rw[NF Y Y,Ch aD] at e5
  have q5:=q5
  subst q5
  refine⟨Y,Y,Y,Y,Y,?_⟩
  rintro v6 _ a6 ⟨e6,rfl,q6⟩
  rw[NF Y Y,Ch aD] at e6
  have q6:a6=10:=q6
  subst q6
  refine⟨Y,Y,Y,Y,Y,?_⟩
  rintro v7 _ a7 ⟨e7,rfl,q7⟩
  rw[u5 Y Y,wP aD] at e7
  have q7:a7=12:=q7
  subst q7
  refine⟨Y,Y,Y,Y,Y,?_⟩
  rintro v8 _ a8 ⟨e8,rfl,q8⟩
  rw[RY Y Y,Fs aD] at e8
  have q8:a8=16:=q8
  subst q8
  refine⟨Y,Y,Y,Y,Y,?_⟩
  rintro v9 _ a9 ⟨e9,rfl,q9⟩
  rw[RY Y Y,Fs aD] at e9
  have q9:=q9
  subst q9
  subst e0 e1 e2 e3 e4 e5 e6 e7 e8 e9
  have n12:=AX hb 12
  have n16:=AX hb 16
  have hcs:65535-oc (dS cs8 (((b.take 20).set (M 10) 0).set (M 11) 0))=eJ (dR (b.take 20) 10 0):=rfl
  (repeat (refine cG ?_;repeat refine cH ?_))
  refine ay (λhc=>?_) (λhc=>?_)
  .have e:jh b=2:=by
    rw[jh,I h,ao]
    rintro⟨h0,hf,h2⟩
    rw[show T b (M 0) cs5=69 from h0] at hc
    obtain hf|hf:=hf
    .rw[show aW b (M 6)=0 from hf] at hc
     simp at hc
     have h2:20<=aW b (M 2):=h2
     simp at h2;omega
    .rw[show aW b (M 6)=16384 from hf] at hc
     simp at hc
     have h2:20<=aW b (M 2):=h2
     simp at h2;omega
   rw[tC,sH,e];exact⟨rfl,rfl,rfl⟩
  have hg:T b 0 cs5=69/\(aW b 6=0∨aW b 6=16384)/\20<=aW b 2:=by
   by_cases h0:T b (M 0) cs5=69
   .by_cases h6:aW b (M 6)=0
    .simp[h0,h6] at hc
     exact⟨h0,.inl h6,Y⟩
    .by_cases h7:aW b (M 6)=16384
     .simp[h0,h7] at hc
      exact⟨h0,.inr h7,Y⟩
     .exfalso
      rw[h0,gH h6,gH h7] at hc;simp at hc
   .exfalso
    rw[gH h0] at hc;simp at hc
  refine⟨Y,Y,Y,by rw[f5];omega,by rw[f5,f5];omega,?_⟩
  rw[hcs]
  rintro c rfl
  refine ay (λhc=>?_) (λhc=>?_)
  .have e:jh b=4:=by
    rw[jh,I h,I (λk=>k hg),ao]
    intro k
    rw[show aW b (M 10)=aW b 10 from rfl,k] at hc;simp at hc
   rw[tC,sH,e];exact⟨rfl,rfl,rfl⟩
  .have e:jh b=0:=by
    rw[jh,I h,I (λk=>k hg),I]
    intro k
    exact k (by simpa using hc)
   rw[tC,sH,e,ao rfl,ao rfl,show M 12=12 from rfl,show M 16=16 from rfl,vX n12.1 n12.2,vX n16.1 n16.2]
   exact⟨rfl,rfl,rfl⟩
theorem ZD:aB 253 bj7.spec:=aG Tryz.func253 (C (C (C aC po) (Ct.named aV5)) (Ct.named Dh)) aS ay8
def a35:Ct:=⟨[.val (.sl bc)],[.agg FP,.val cI],λd=>[(V d.1:Int)<=1099511627776],λd=>((cN d.1,eO d.1,()),())⟩
theorem aA0:
 ∀ a,tW a (aR a) (au ( !aY (jh a)) ((sA,[])=cN a/\jh a=eO a) (au (db (sH a) (O a)) ((sA,[])=cN a/\2=eO a) (au (av 1500 (sH a)) ((sA,[])=cN a/\5=eO a) (bo 20 (O a) (pR a) (aR (kg a)/\(tC a,kg a)=cN a/\0=eO a))))):= by
  delta O aM aR am kg aY bo fN J sA av db tW aF pR
  rintro b ⟨⟨-,hb⟩,-⟩ hl
  refine⟨hl,ay (λhc=>?_) (λhc=>?_)⟩
  .have hc:¬ jh b=0:=by simpa using hc
   have e:eO b=jh b:=by rw[eO,ao hc]
   rw[cN,e,I hc];exact⟨rfl,rfl⟩
  have hc:jh b=0:=by simpa using hc
  have hlen:sH b=aW b 2:=by rw[sH,ao hc]
  rw[hlen]
  refine ay (λh2=>?_) (λh2=>?_)
  .have h2:¬ aW b 2=V b:=by simpa using h2
   have e:eO b=2:=by rw[eO,I (λk=>k hc),ao h2]
   rw[cN,e];exact⟨rfl,rfl⟩
  have h2:aW b 2=V b:=by simpa using h2
  refine ay (λh5=>?_) (λh5=>?_)
  .have h5:=aX h5
   have e:eO b=5:=by rw[eO,I (λk=>k hc),I (λk=>k h2),ao h5]
   rw[cN,e];exact⟨rfl,rfl⟩
  have h5:=bg h5
  have e:eO b=0:=by rw[eO,I (λk=>k hc),I (λk=>k h2),I h5]
  have h20:=NM hc
  rw[show M 20=20 from rfl,Dm,cN,e,ao rfl,tC,ao hc,gR]
  exact⟨Y,Y,Y,Y,rfl,rfl⟩
theorem G4:aB 206 a35.spec:=aG Tryz.func206 (C (C aC ZD) po) aS aA0
def bZ1:Ct:=⟨[.val (.sl bc)],[.own 5 bc,.val cI],λd=>[(V d.1:Int)<=1099511627776],λd=>((mg d.1,kT d.1,()),())⟩
def Oo(a:Z):=(((cN a).1.1,(cN a).1.2.1,ap ((cN a).1.2.2.1 -1),(cN a).1.2.2.2),(cN a).2)
theorem bi1:
 ∀ a,tW a (aR a) (au ( !aY (eO a)) (fL (mg a)/\eO a=kT a) (au (av (cN a).1.2.2.1 2) (fL (mg a)/\7=kT a) (fy (cN a).2/\gW (Oo a)=mg a/\jB (Oo a)=kT a))):= by
  delta O ap aM aR aY J fy av Oo tW aF fL
  rintro b ⟨⟨-,hb⟩,-⟩ hl
  refine⟨hl,ay (λhc=>?_) (λhc=>?_)⟩
  .have hc:¬ eO b=0:=by simpa using hc
   have e:kT b=eO b:=by rw[kT,ao hc]
   rw[mg,e,I hc];exact⟨rfl,rfl⟩
  have hc:eO b=0:=by simpa using hc
  have hp:cN b=(cC b,b.drop 20):=by rw[cN,ao hc]
  rw[hp]
  have h8:=IN hb (i:=8) (by have:=NM (L0 hc);omega)
  refine ay (λh2=>?_) (λh2=>?_)
  .have h2:=aX h2
   have e:kT b=7:=by rw[kT,I (λk=>k hc),ao h2]
   rw[mg,e];exact⟨rfl,rfl⟩
  have h2:=bg h2
  have e:kT b=0:=by rw[kT,I (λk=>k hc),I h2]
  have hd:=ER hc
  have h82:=h2
  rw[mg,e,ao rfl]
  have hok:=a70 hb hc h2
  refine⟨by rw[gR];omega,?_⟩
  have ew:ct1 .i64 ((cC b).2.2.1-1)=(cC b).2.2.1-1:=aJ (by show _<=T b 8 cs5-1;omega) (by show T b 8 cs5-1<=_;omega)
  rw[ew]
  refine⟨rfl,?_⟩
  rw[jB,I (λk=>k hok),I]
  simp only[gR];omega
theorem bU2:aB 290 bZ1.spec:=aG Tryz.func290 (C (C aC G4) Ol) aS bi1
def co9:Ct:=⟨[.agg qh],[.val cI],λd=>[],λd=>((qt d.1,()),())⟩
theorem au5:
 ∀ a,dN (CT.wf qh a) (∀ b,b=da a.1->cQ b (bw b) (∀ c,c=br b (av 255 a.1)->cQ c (bw c) (∀ d,d=br c (da a.2.2.1)->cQ d (bw d) (EA (br d (av 255 a.2.2.1)) (da a.2.2.2.1) (av 255 a.2.2.2.1) (da a.2.1) (av 65535 a.2.1) (1=qt a) (0=qt a))))):= by
  delta bN aK br cQ bw lO J EA EY da av dN
  rintro h - -
  (repeat (refine cG ?_;repeat refine cH ?_))
  refine ay (λhc=>?_) (λhc=>?_)
  .rw[qt,I]
   intro k;have ⟨k1,k2,k3,k4,k5⟩:=k
   unfold tI at k1 k2 k3
   simp[lY] at hc;omega
  .rw[qt,ao]
   unfold nX tI
   simp[lY] at hc;omega
theorem ch6:aB 100 co9.spec:=aG Tryz.func100 aC aS au5
abbrev tY:CT := .pair dB (.pair dB (.pair cI (.pair cI (.pair cI cI))))
abbrev bu:Type:=Int×Int×Int×Int×Int×Int
def rU(n:Int):Prop:=n=1∨n=6∨n=17
instance (n:Int):Decidable (rU n):=by unfold rU;infer_instance
def kJ(p:bu):Prop:=(0<=p.2.2.2.1/\p.2.2.2.1<=1023)/\(0<=p.2.2.2.2.1/\p.2.2.2.2.1<=65534)/\1<=p.2.2.2.2.2/\p.2.2.2.2.2<=255
instance (p:bu):Decidable (kJ p):=by unfold kJ;infer_instance
def dJ(p:bu):Int:=if ¬ rU p.2.2.1 then 16 else if ¬ kJ p then 1 else 0
def z5(p:bu):Int:=oc (65535-(16384+p.2.2.2.1)+eJ (fc (ct2,21075,p.2.2.2.2.1,[0,0])))
def AQ(p:bu):Int:=oc (65535-(p.2.2.2.2.1+1)+jc p.1 p.2.1 17 (iJ (20000+p.2.2.2.1,33434,[0,0])))
def zk(p:bu):Int:=if AQ p=0 then 65535 else AQ p
def ph(p:bu):rQ:=(ct2,21075,p.2.2.2.2.1,w2 (z5 p))
def wM(p:bu):vC:=(20000+p.2.2.2.1,33434,w2 (zk p))
def qL(p:bu):ny:=(20000+p.2.2.2.1,80,p.2.2.2.2.1,0,2,1024,[])
def ib(p:bu):Z:=if p.2.2.1=1 then gY (ph p) else if p.2.2.1=17 then py p.1 p.2.1 (wM p) else io p.1 p.2.1 (qL p)
def yK(p:bu):cX:=(0,p.2.2.2.2.1,p.2.2.2.2.2,p.2.2.1,cs8,p.1,p.2.1)
def build(p:bu):Z:=if dJ p=0 then gW (yK p,ib p) else []
def aX1:lZ:=(0,0,0,0,0)
def OV:bu:=(0,0,0,0,0,0)
def GE(x:iM):lZ:=(x.1.2.2.2.2.2.1,x.1.2.2.2.2.2.2,x.1.2.2.2.1,if rU x.1.2.2.2.1/\4<=V x.2 then aW x.2 0 else 0,if rU x.1.2.2.2.1/\4<=V x.2 then aW x.2 2 else 0)
def jY(b:Z):lZ:=if eO b=0 then GE (cN b) else aX1
theorem qM{p}:dJ p=0↔rU p.2.2.1/\kJ p:=by
 unfold dJ
 grind
theorem IK(h:i+2<=V b)(c0:0<=c)(c1:c<=65535):aW (dR b i c) i=c:=by
 rw[RW (by rw[oJ];exact h)]
 unfold dR
 grind
theorem Cv(h:j+2<=V b)(hn:j+2<=i∨i+2<=j):aW (dR b i c) j=aW b j:=by
 rw[RW (by rw[oJ];exact h),RW h]
 unfold dR
 grind
variable{X:Z}
theorem K5{p}(c:bytes X)(hp:0<p%256):0<=jc s d p X/\jc s d p X<=65534:=by
 have h1:=(Mu (a:=s) (b:=d) (p:=p) c).1
 unfold jc at h1 ⊢
 split
 .omega
 .unfold eJ;rw[Rl];have h2:=XH s d p (V X);have h3:=(M8 cs8 X c).1;unfold oc;omega
theorem ZO:bytes [0,0]:=pU (by omega) (by omega) (pU (by omega) (by omega) rT)
theorem Zn(t):bytes (fc (ct2,21075,t,[0,0])):=EB ZO
theorem Fe(f):bytes (iJ (20000+f,33434,[0,0])):=Nz ZO
variable{p:bu}
theorem ck8(h:kJ p):1<=z5 p/\z5 p<=65535:=by
 have:=xL (Zn p.2.2.2.2.1)
 obtain⟨⟨h1,h2⟩,-⟩:=h
 unfold z5 oc
 omega
theorem aD9(h:kJ p):0<=AQ p/\AQ p<=65535:=by
 have:=K5 (s:=p.1) (d:=p.2.1) (p:=17) (Fe p.2.2.2.1) aD
 obtain⟨-,⟨h1,h2⟩,-⟩:=h
 exact ME Y
theorem bh2(h:kJ p):1<=zk p/\zk p<=65535:=by
 have:=aD9 h
 unfold zk;split <;> omega
theorem aL5(h:kJ p):oc (65535-cx2 (p.2.2.2.2.1+1) 65535+jc p.1 p.2.1 17 (iJ (20000+p.2.2.2.1,33434,[0,0])))=zk p:=by
 have hs:=K5 (s:=p.1) (d:=p.2.1) (p:=17) (Fe p.2.2.2.1) aD
 obtain⟨-,⟨h1,h2⟩,-⟩:=h
 unfold zk AQ
 generalize jc p.1 p.2.1 17 (iJ (20000+p.2.2.2.1,33434,[0,0]))=s at hs
 rw[Hn Y]
 by_cases ht:p.2.2.2.2.1=65534
 .rw[ht];unfold oc;omega
 .have e:(p.2.2.2.2.1+1)%65535=p.2.2.2.2.1+1:=cD3 Y Y;rw[e];have:1<=oc (65535-(p.2.2.2.2.1+1)+s):=by unfold oc;omega
  rw[I Y]
theorem bS5(hx:bytes X):cx2 (nf s d X) 65535=jc s d 17 X:=by
 have h:=K5 (s:=s) (d:=d) (p:=17) hx aD
 unfold nf
 grind
theorem BB(n):V (w2 n)=2:=rfl
theorem SD(h:kJ p):N3 (w2 (z5 p)) (ph p):=by
 obtain⟨-,⟨h1,h2⟩,-⟩:=h
 exact⟨⟨(jP _).2 ⟨by show (0:Int)<=21075;omega,by show (21075:Int)<=_;omega⟩,(jP _).2 ⟨h1,by show p.2.2.2.2.1<=_;omega⟩⟩,rfl⟩
theorem UT(h:kJ p):SF (w2 (zk p)) (wM p):=by
 obtain⟨⟨h1,h2⟩,-⟩:=h
 exact⟨⟨(jP _).2 ⟨by show (0:Int)<=20000+p.2.2.2.1;omega,by show 20000+p.2.2.2.1<=_;omega⟩,(jP _).2 ⟨by show (0:Int)<=33434;omega,by show (33434:Int)<=_;omega⟩⟩,rfl⟩
theorem Rv(h:kJ p):N1 [] (qL p):=by
 obtain⟨⟨h1,h2⟩,⟨h3,h4⟩,-⟩:=h
 refine⟨⟨(jP _).2 ⟨?_,?_⟩,(jP _).2 ⟨?_,?_⟩,⟨?_,?_⟩,⟨?_,?_⟩,⟨?_,?_⟩,(jP _).2 ⟨?_,?_⟩⟩,rfl⟩ <;> simp only[qL] <;> omega
theorem Si(h:kJ p):oM (ph p)=0:=KE (SD h) (by rw[BB];omega)
theorem S9(h:kJ p):qR (wM p)=0:=P8 (UT h) (by rw[BB];omega)
theorem Sw(h:kJ p):pQ (qL p)=0:=QC (Rv h) (by simp)
theorem Fu(h:kJ p)(h1:p.2.2.1=1):ib p=dR (fc (ph p)) 2 (eJ (fc (ph p))):=by
 rw[ib,ao h1,gY,ao (Si h)]
theorem IT(h:kJ p)(h1:p.2.2.1=17):ib p=dR (iJ (wM p)) 6 (nf p.1 p.2.1 (iJ (wM p))):=by
 rw[ib,I Y,ao h1,py,ao (S9 h)]
theorem Gx(h:kJ p)(h1:p.2.2.1=6):ib p=dR (pg (qL p)) 16 (jc p.1 p.2.1 6 (pg (qL p))):=by
 rw[ib,I Y,I Y,io,ao (Sw h)]
theorem Jd(h:dJ p=0):(p.2.2.1≠6/\V (ib p)=10)∨(p.2.2.1=6/\V (ib p)=20):=by
 obtain⟨a|a|a,b⟩:=qM.1 h
 .rw[Fu b a,oJ];exact .inl ⟨Y,rfl⟩
 .rw[Gx b a,oJ];exact .inr ⟨a,rfl⟩
 .rw[IT b a,oJ];exact .inl ⟨Y,rfl⟩
theorem Vk(h:dJ p=0):bytes (ib p):=by
 obtain⟨a|a|a,b⟩:=qM.1 h
 .rw[Fu b a];exact zA (EB (px _))
 .rw[Gx b a];exact zA (H4 (Rv b).1 rT)
 .rw[IT b a];exact zA (Nz (px _))
theorem OM(h:dJ p=0):nX (yK p):=by
 obtain⟨h1,⟨-,⟨h2,h3⟩,h4,h5⟩⟩:=qM.1 h
 refine⟨⟨?_,?_⟩,⟨?_,?_⟩,⟨?_,?_⟩,?_,?_⟩ <;> simp only[yK] <;> unfold rU at h1 <;> omega
theorem WT(h:dJ p=0):jB (yK p,ib p)=0:=by
 rw[jB,I (λk=>k (OM h)),I]
 obtain h|h:=Jd h <;> rw[h.2] <;> simp
theorem NO(h:dJ p=0):build p=nU (yK p) (20+V (ib p))++ib p:=by
 rw[build,ao h,gW,ao (WT h)]
theorem cm9(p):V (build p)<=40:=by
 by_cases h:dJ p=0
 .rw[NO h,cw,zc];obtain h|h:=Jd h <;> omega
 .rw[build,I h];simp
theorem Wp(p):bytes (build p):=by
 by_cases h:dJ p=0
 .rw[NO h];exact j4 (O9 (OM h)) (Vk h)
 .rw[build,I h];exact rT
def bn0:Ct:=⟨[.agg tY],[.val cI],λd=>[],λd=>((dJ d.1,()),())⟩
def vO(a b:Bool)(c d e:Prop):=∀(f:Bool),f=a->cQ f (bw f) (au (br f b) (au (br f b) c d) e)
def wt(a:Bool)(b:Prop)(c:Bool)(d e:Prop):=cB a a (aK b) (b->b) (au c d e)
def Ey(a:Int)(b c:Bool)(d e:Prop):=True-> ∀(f:Bool),f=db a 1->cB f f (aK f) (f->f) (∀(g:Bool),g=bq f b->wt g g (bq g c) d e)
def rm(a b c d e f:Int):=J (aT a/\aT b/\bJ c d (aq e) (aq f))
theorem aL8:
 ∀ a b c d e f,rm a b c d e f->Ey c (db c 6) (db c 17) (16=dJ (a,b,c,d,e,f)) (vO (da d) (av 1023 d) (1=dJ (a,b,c,d,e,f)) (0=dJ (a,b,c,d,e,f)) (vO (da e) (av 65534 e) (1=dJ (a,b,c,d,e,f)) (0=dJ (a,b,c,d,e,f)) (lO (av f 1) (av 255 f) (1=dJ (a,b,c,d,e,f)) (0=dJ (a,b,c,d,e,f))))):= by
  delta aq aH bN aK aT cB br bq cQ bw bJ lO vO J Ey rm da av wt db aF
  rintro s d c f t l - -
  (repeat (refine cG ?_;repeat refine cH ?_))
  refine ay (λhc=>?_) (λhc=>?_)
  .rw[dJ,ao]
   simp only[rU]
   simp_all
  have hp:rU c:=by
   unfold rU
   grind
  have e:∀(v:Int),(v=if kJ (s,d,c,f,t,l) then 0 else 1)->v=dJ (s,d,c,f,t,l):=by
   intro v hv
   rw[dJ,I (λk=>k hp),hv]
   simp_all
  (repeat (refine cG ?_;repeat refine cH ?_))
  refine ay (λi=>?_) (λi=>?_)
  .have g:¬ kJ (s,d,c,f,t,l):=by
    rintro⟨⟨a,b⟩,-⟩
    grind
   exact ay (λ_=>e 1 (by rw[I g])) (λh=>by rw[h] at i;cases i)
  (repeat (refine cG ?_;repeat refine cH ?_))
  refine ay (λj=>?_) (λj=>?_)
  .have g:¬ kJ (s,d,c,f,t,l):=by
    rintro⟨-,⟨a,b⟩,-⟩
    grind
   exact ay (λ_=>e 1 (by rw[I g])) (λh=>by rw[h] at j;cases j)
  (repeat (refine cG ?_;repeat refine cH ?_))
  simp[lY] at i j
  refine ay (λm=>?_) (λm=>?_)
  .have g:¬ kJ (s,d,c,f,t,l):=by
    rintro⟨-,-,a,b⟩
    grind
   simp_all
  .have g:kJ (s,d,c,f,t,l):=by
    simp[lY] at m
    refine⟨⟨?_,?_⟩,⟨?_,?_⟩,?_,?_⟩ <;> simp only <;> omega
   simp_all
theorem Ks:aB 70 bn0.spec:=aG Tryz.func70 aC aS aL8
def bT2:Ct:=⟨[.agg tY],[.val cI],λd=>[],λd=>((dJ d.1,()),())⟩
theorem ax4:
 ∀ a b c d e f,rm a b c d e f->Ey c (db c 17) (db c 6) (16=dJ (a,b,c,d,e,f)) (∀ g,g=da d->cQ g (bw g) (EA (br g (av 1023 d)) (da e) (av 65534 e) (av f 1) (av 255 f) (1=dJ (a,b,c,d,e,f)) (0=dJ (a,b,c,d,e,f)))):= by
  delta aq aH bN aK aT cB br bq cQ bw bJ lO J Ey EA EY rm da av wt db aF
  rintro s d c f t l - -
  (repeat (refine cG ?_;repeat refine cH ?_))
  refine ay (λhc=>?_) (λhc=>?_)
  .rw[dJ,ao]
   simp only[rU]
   simp_all
  have hp:rU c:=by
   unfold rU
   grind
  have key:∀(v:Int),(v=if kJ (s,d,c,f,t,l) then 0 else 1)->v=dJ (s,d,c,f,t,l):=by
   intro v hv
   rw[dJ,I (λk=>k hp),hv]
   simp_all
  (repeat (refine cG ?_;repeat refine cH ?_))
  refine ay (λe=>?_) (λe=>?_)
  .have hn:¬ kJ (s,d,c,f,t,l):=by
    rintro⟨⟨a,b⟩,⟨a2,b2⟩,a3,b3⟩
    grind
   simp_all
  .have hn:kJ (s,d,c,f,t,l):=by
    simp[lY] at e
    refine⟨⟨?_,?_⟩,⟨?_,?_⟩,?_,?_⟩ <;> simp only <;> omega
   simp_all
theorem aU1:aB 50 bT2.spec:=aG Tryz.func50 aC aS ax4
def b91:Ct:=⟨[.val cI,.val cI],[.own 5 bc],λd=>[0<=d.1,d.1<=65535,0<=d.2.1,d.2.1<=65535],λd=>((w2 (oc (65535-d.2.1+d.1)),()),())⟩
def PA(a b:Int):=if fI (ap (65535 -a))&&fI b then oc (ap (65535 -a)+b) else (0:Int)
theorem aU9:
 ∀ a b,dP a b->bo a 65535 (0<=b) (b<=65535)->(0:Int)<=(8:Int)/\ug (PA b a)::bI (ct1 cw0 (PA b a))=w2 (oc (65535 -b+a)):= by
  delta ap aq aH am bo J bI dP ug PA
  rintro a b-⟨a0,a1,b0,b1⟩
  rw[aJ Y Y,ao (by simp only[fB,jP];omega)]
  have:=ME (n:=65535-b+a) Y
  rw[PS this.1,cy9,cy9]
  exact⟨Y,rfl⟩
theorem bD7:aB 212 b91.spec:=aG Tryz.func212 (C aC aR3) aS aU9
def bx8:Ct:=⟨[.agg tY],[.own 5 bc,.val cI],λd=>[dJ d.1=0],λd=>((ib d.1,0,()),())⟩
def pm(a:Int)(b c:Prop):=a<=1000000/\b/\c
theorem bX0:
 ∀ a b c d e f,rm a b c d e f->dJ (a,b,c,d,e,f)=0->au (gO c) (fy ld/\ ∀ g,uc (g=gY (ct2,21075,e,ld)) (oM (ct2,21075,e,ld)) (aH (O g)/\ ∀ h,uc (h=bM g 2 2) (lS g 2 2) (am h (h<=65535) (am (ap (16384+d)) (ap (16384+d)<=65535) (∀ i,i=w2 (oc (65535 -ap (16384+d)+h))->fy i/\ ∀ j k,j=gY (ct2,21075,e,i)/\k=oM (ct2,21075,e,i)->j=ib (a,b,c,d,e,f)/\k=0))))) (au (cs7 (c=17)) (fy ld/\ ∀ g,uc (g=py a b (ap (20000+d),33434,ld)) (qR (ap (20000+d),33434,ld)) (aH (O g)/\ ∀ h,uc (h=bM g 6 2) (lS g 6 2) ((65535:Int)≠(0:Int)/\(65535:Int)≠(0:Int)/\am (cx2 h 65535) (cx2 h 65535<=65535) (am (cx2 (aA e) 65535) (cx2 (aA e) 65535<=65535) (∀ i,i=w2 (oc (65535 -cx2 (aA e) 65535+cx2 h
 65535))->fy i/\ ∀ j k,j=py a b (ap (20000+d),33434,i)/\k=qR (ap (20000+d),33434,i)->j=ib (a,b,c,d,e,f)/\k=0))))) (pm (↑((0:Nat)):Int) (io a b (ap (20000+d),80,e,0,2,1024,[])=ib (a,b,c,d,e,f)) (pQ (ap (20000+d),80,e,0,2,1024,[])=0))):= by
  delta O ap aq aH aT am bJ aA ld J fy bI rm gO pm uc aF
  rintro s d pr f t l-he
  have ⟨hp,h⟩:=qM.1 he
  have j:=h
  have ⟨⟨f0,f1⟩,⟨m,t1⟩,l0,l1⟩:=j
  simp only at f0 f1 m t1 l0 l1
  rw[aJ Y Y,aJ Y Y,aJ Y Y]
  refine ay (λe=>?_) (λe=>ay (λc=>?_) (λc=>?_))
  .have e:=aX e
   have k:oM (ct2,21075,t,[0,0])=0:=KE ⟨⟨(jP _).2 ⟨by show (0:Int)<=21075;omega,by show (21075:Int)<=_;omega⟩,(jP _).2 ⟨m,by show t<=_;omega⟩⟩,rfl⟩ aw
   have g:=xL (Zn t)
   refine⟨aw,?_⟩
   rintro b _ ⟨rfl,-⟩
   rw[gY,ao k]
   have hl:V (dR (fc (ct2,21075,t,[0,0])) 2 (eJ (fc (ct2,21075,t,[0,0]))))=10:=by rw[oJ];rfl
   refine⟨Y,?_⟩
   rw[u5 Y Y,show M 2=2 from rfl,IK (by show 2+2<=10;omega) g.1 g.2]
   rintro _ _ ⟨rfl,-⟩
   refine⟨g.1,g.2,Y,Y,?_⟩
   rintro _ rfl
   refine⟨by rw[BB];omega,?_⟩
   rintro _ _ ⟨rfl,rfl⟩
   have i:=Si h
   rw[ib,ao e]
   exact⟨rfl,i⟩
  .have c:=aX c
   have k:qR (20000+f,33434,[0,0])=0:=P8 ⟨⟨(jP _).2 ⟨by show (0:Int)<=20000+f;omega,by show 20000+f<=_;omega⟩,(jP _).2 ⟨by show (0:Int)<=33434;omega,by show (33434:Int)<=_;omega⟩⟩,rfl⟩ aw
   have g:=Sg (a:=s) (b:=d) (Fe f)
   have hm:=bS5 (s:=s) (d:=d) (Fe f)
   have hq:=K5 (s:=s) (d:=d) (p:=17) (Fe f) aD
   refine⟨aw,?_⟩
   rintro b _ ⟨rfl,-⟩
   rw[py,ao k]
   have hl:V (dR (iJ (20000+f,33434,[0,0])) 6 (nf s d (iJ (20000+f,33434,[0,0]))))=10:=by rw[oJ];rfl
   refine⟨Y,?_⟩
   rw[u5 Y Y,show M 6=6 from rfl,IK (by show 6+2<=10;omega) g.1 g.2]
   rintro _ _ ⟨rfl,-⟩
   rw[hm]
   have m0:=xz (a:=t+1) (b:=65535) Y
   have m1:=xV (a:=t+1) (b:=65535) Y Y
   refine⟨Y,Y,hq.1,Y,m0,Y,?_⟩
   have hu:=aL5 h
   rw[hu]
   rintro _ rfl
   refine⟨by rw[BB];omega,?_⟩
   rintro _ _ ⟨rfl,rfl⟩
   have i:=S9 h
   rw[ib,I (by simp only;omega),ao c]
   exact⟨rfl,i⟩
  .have e:=bg e
   have c:=bg c
   have i:=Sw h
   rw[ib,I e,I c]
   exact⟨Y,rfl,i⟩
theorem bu6:aB 147 bx8.spec:=aG Tryz.func147 (C (C (C (C (C aC (Ct.named UN)) (Ct.named CL)) (Ct.named bD7)) (Ct.named aD5)) Wn) aS bX0
def aG1:Ct:=⟨[.agg tY],[.own 5 bc,.val cI],λd=>[],λd=>((build d.1,dJ d.1,()),())⟩
theorem aJ7:
 ∀ a b c d e f,rm a b c d e f->True->au ( !aY (dJ (a,b,c,d,e,f))) (fL (build (a,b,c,d,e,f))/\dJ (a,b,c,d,e,f)=dJ (a,b,c,d,e,f)) (dJ (a,b,c,d,e,f)=0/\fy (ib (a,b,c,d,e,f))/\gW ((0,e,f,c,cs8,a,b),ib (a,b,c,d,e,f))=build (a,b,c,d,e,f)/\jB ((0,e,f,c,cs8,a,b),ib (a,b,c,d,e,f))=dJ (a,b,c,d,e,f)):= by
  delta O aq aH aT bJ aY J fy rm aF fL
  rintro s d a f t l - -
  refine ay (λh=>?_) (λh=>?_)
  .have h:¬ dJ (s,d,a,f,t,l)=0:=by simpa using h
   rw[build,I h];exact⟨rfl,rfl⟩
  have h:dJ (s,d,a,f,t,l)=0:=by simpa using h
  have e0:=WT h
  have hl:=Jd h
  refine⟨h,Y,?_⟩
  rw[build,ao h,h]
  exact⟨rfl,e0⟩
theorem bY2:aB 74 aG1.spec:=aG Tryz.func74 (C (C (C aC Ks) bu6) Ol) aS aJ7
def ck6:Ct:=⟨[.val (.sl bc)],[.agg Rc,.val cI],λd=>[(V d.1:Int)<=1099511627776],λd=>((jY d.1,eO d.1,()),())⟩
def ES(a:iM)(b:aq4)(c:Z):=(a.1.2.2.2.2.2.1,a.1.2.2.2.2.2.2,a.1.2.2.2.1,b)=jY c/\0=eO c
def Mn(a:iM)(b:Z):=au (cs7 (4<=O a.2)) (aH (O a.2)/\aH (O a.2)/\ES a (bM a.2 0 2,bM a.2 2 2) b) (ES a (0,0) b)
def Av(a:iM):=cs7 (a.1.2.2.2.1=6)
theorem bH1:
 ∀ a,tW a (aR a) (∀ b c,b=cN a/\c=eO a->au ( !aY c) ((0,0,0,0,0)=jY a/\c=eO a) (au (gO b.1.2.2.2.1) (au (gO b.1.2.2.2.1) (Mn b a) (ES b (0,0) a)) (au (Av b) (au (Av b) (Mn b a) (ES b (0,0) a)) (au (cs7 (b.1.2.2.2.1=17)) (Mn b a) (ES b (0,0) a))))):= by
  delta O aH aM aR aY Mn ES J gO tW aF Av
  rintro b ⟨⟨-,hb⟩,-⟩ hl
  refine⟨hl,?_⟩
  rintro d e ⟨rfl,rfl⟩
  refine ay (λh=>?_) (λh=>?_)
  .have h:¬ eO b=0:=by simpa using h
   rw[jY,I h];exact⟨rfl,rfl⟩
  have h:eO b=0:=by simpa using h
  have hdl:=ER h
  have hk:jY b=GE (cN b):=by rw[jY,ao h]
  rw[hk,h]
  have hpl:((cN b).2.length:Int)<=1500:=by rw[cN,ao h];simp;omega
  generalize cN b=x at *
  have f:rU x.1.2.2.2.1->(4:Int)<=V x.2->((V x.2:Int)<=9223372036854775807/\(V x.2:Int)<=9223372036854775807/\(x.1.2.2.2.2.2.1,x.1.2.2.2.2.2.2,x.1.2.2.2.1,bM x.2 0 2,bM x.2 2 2)=GE x/\(0:Int)=0):=by
   intro a h2
   refine⟨Y,Y,?_,rfl⟩
   rw[u5 Y Y,u5 Y Y,GE,ao ⟨a,Y⟩,ao ⟨a,Y⟩];rfl
  have j:¬ (rU x.1.2.2.2.1/\(4:Int)<=V x.2)->((x.1.2.2.2.2.2.1,x.1.2.2.2.2.2.2,x.1.2.2.2.1,(0:Int),(0:Int))=GE x/\(0:Int)=0):=by
   intro a
   rw[GE,I (λk=>a ⟨k.1,Y⟩),I (λk=>a ⟨k.1,Y⟩)];exact⟨rfl,rfl⟩
  refine ay (λa=>?_) (λa=>?_)
  .refine ay (λ_=>?_) (λk=>by rw[a] at k;cases k)
   have a:=aX a
   exact ay (λc=>f (.inl a) (aX c)) (λc=>j (λk=>(bg c) k.2))
  refine ay (λg=>?_) (λg=>?_)
  .refine ay (λ_=>?_) (λk=>by rw[g] at k;cases k)
   have g:=aX g
   exact ay (λc=>f (.inr (.inl g)) (aX c)) (λc=>j (λk=>(bg c) k.2))
  refine bT (λi=>?_) (λi=>?_)
  .exact ay (λc=>f (.inr (.inr i)) (aX c)) (λc=>j (λk=>(bg c) k.2))
  .have a:=bg a
   have g:=bg g
   exact j (λk=>by obtain k|k|k:=k.1 <;> contradiction)
theorem b06:aB 320 ck6.spec:=aG Tryz.func320 (C (C aC (Ct.named G4)) CL) aS bH1
def u32(n:Int):Prop:=0<=n/\n<=4294967295
theorem bh4(h)(n)(X):nU h n++X=69::h.1::n/256%256::n%256::h.2.1/256%256::h.2.1%256::(if h.2.2.2.2.1 then (16384:Int) else 0)/256%256::(if h.2.2.2.2.1 then (16384:Int) else 0)%256::h.2.2.1::h.2.2.2.1 ::
  eJ (pd h n)/256%256::eJ (pd h n)%256::h.2.2.2.2.2.1/16777216%256::h.2.2.2.2.2.1/65536%256::h.2.2.2.2.2.1/256%256::h.2.2.2.2.2.1%256::h.2.2.2.2.2.2/16777216%256::h.2.2.2.2.2.2/65536%256::h.2.2.2.2.2.2/256%256::h.2.2.2.2.2.2%256::X:=rfl
theorem Qv(h:u32 n):((n/16777216%256*256+n/65536%256)*256+n/256%256)*256+n%256=n:=by
 have ⟨h0,h1⟩:=h;omega
theorem TF(hk:nX h)(hs:u32 h.2.2.2.2.2.1)(hd:u32 h.2.2.2.2.2.2)(hl:(V X:Int)<=1480)(hX:bytes X) :
  cC (nU h (20+V X)++X)=h/\eO (nU h (20+V X)++X)=0/\(nU h (20+V X)++X).drop 20=X:=by
 have hbb:bytes (nU h (20+V X)++X):=j4 (O9 hk) hX
 have hlen:V (nU h (20+V X)++X)=20+V X:=by rw[cw,zc]
 have hc:=xL (Rh (n:=20+V X) hk)
 have ⟨tos,id,ttl,pr,kp,s,d⟩:=h
 have ⟨h1,h2,h3,h4,h5⟩:=hk
 simp only at h1 h2 h3 h4 h5 hs hd
 have E:=bh4 (tos,id,ttl,pr,kp,s,d) (20+V X) X
 simp only at E
 have w2e:aW (nU (tos,id,ttl,pr,kp,s,d) (20+V X)++X) 2=20+V X:=by
  rw[E];show aW (_::_::_) 0=_;rw[jG];exact rr Y Y
 have w4e:aW (nU (tos,id,ttl,pr,kp,s,d) (20+V X)++X) 4=id:=by
  rw[E];show aW (_::_::_) 0=_;rw[jG];exact rr h4 h5
 have w6e:aW (nU (tos,id,ttl,pr,kp,s,d) (20+V X)++X) 6=if kp then 16384 else 0:=by
  rw[E];show aW (_::_::_) 0=_;rw[jG];cases kp <;> rfl
 have w10e:aW (nU (tos,id,ttl,pr,kp,s,d) (20+V X)++X) 10=eJ (pd (tos,id,ttl,pr,kp,s,d) (20+V X)):=by
  rw[E];show aW (_::_::_) 0=_;rw[jG];exact rr hc.1 hc.2
 have hF:cC (nU (tos,id,ttl,pr,kp,s,d) (20+V X)++X)=(tos,id,ttl,pr,kp,s,d):=by
  unfold cC;rw[w4e,w6e,E];have e1:cs7 ((if kp=cs8 then (16384:Int) else 0)=16384)=kp:=by cases kp <;> rfl
  rw[e1];have e2:=Qv hs;have e3:=Qv hd;show (tos,id,ttl,pr,kp,gk [_,_,_,_],gk [_,_,_,_])=_;rw[I8,I8,e2,e3]
 refine⟨hF,?_,?_⟩
 .have hb:=bo6 hbb Y (by rw[E];rfl) (by rw[w6e];cases kp <;> simp);rw[hF,w2e,w10e] at hb;have ht:(nU (tos,id,ttl,pr,kp,s,d) (20+V X)++X).take 20=nU (tos,id,ttl,pr,kp,s,d) (20+V X):=by
   rw[cK8 (by rw[zc];omega),gE (by rw[zc];omega)]
  have hp:jh (nU (tos,id,ttl,pr,kp,s,d) (20+V X)++X)=0:=by
   rw[jh,I Y,I,I]
   .rw[Az,w10e,← hb.1]
   .rw[Az];refine⟨by rw[E];rfl,by rw[w6e];cases kp <;> simp,by rw[w2e];omega⟩
  rw[eO,I (λk=>k hp),I (by rw[w2e,hlen];omega),I (by rw[w2e];omega)]
 .rw[List.drop_append,zc,List.drop_of_length_le (by rw[zc];omega)];simp
theorem Vl(h:dJ p=0)(hs:u32 p.1)(hd:u32 p.2.1):cC (build p)=yK p/\eO (build p)=0/\(build p).drop 20=ib p:=by
 rw[NO h]
 refine TF (OM h) hs hd ?_ (Vk h)
 obtain h|h:=Jd h <;> omega
theorem bp5(t n):dS cs8 (fc (ct2,21075,t,w2 n))=dS cs8 (fc (ct2,21075,t,[0,0]))+(n/256%256*256+n%256):=by
 simp[fc,w2,dS];omega
theorem b98(f n):dS cs8 (iJ (20000+f,33434,w2 n))=dS cs8 (iJ (20000+f,33434,[0,0]))+(n/256%256*256+n%256):=by
 simp[iJ,w2,dS];omega
theorem a84(t):2048<=dS cs8 (fc (ct2,21075,t,[0,0])):=by
 simp[fc,w2,dS];omega
theorem Yb(h:kJ p):eJ (fc (ph p))=16384+p.2.2.2.1:=by
 have hn:=ck8 h
 obtain⟨⟨f0,f1⟩,-⟩:=h
 have e:z5 p=oc (65535-(16384+p.2.2.2.1)+eJ (fc (ct2,21075,p.2.2.2.2.1,[0,0]))):=rfl
 have hp:=a84 p.2.2.2.2.1
 unfold ph eJ
 rw[bp5,rr Y hn.2,e]
 unfold eJ
 generalize dS cs8 (fc (ct2,21075,p.2.2.2.2.1,[0,0]))=S at hp ⊢
 unfold oc
 rw[I (by omega:¬ S=0)]
 rw[I Y,I Y]
 omega
theorem bt0(h:kJ p):nf p.1 p.2.1 (iJ (wM p))=p.2.2.2.2.1+1:=by
 have hn:=bh2 h
 obtain⟨-,⟨t0,t1⟩,-⟩:=h
 have l0:V (iJ (20000+p.2.2.2.1,33434,[0,0]))=10:=rfl
 have l1:V (iJ (wM p))=10:=rfl
 have eX:AQ p=oc (65535-(p.2.2.2.2.1+1)+jc p.1 p.2.1 17 (iJ (20000+p.2.2.2.1,33434,[0,0]))):=rfl
 have eN:zk p=if AQ p=0 then 65535 else AQ p:=rfl
 have hp:=XH p.1 p.2.1 17 10
 have h2:=(M8 cs8 (iJ (20000+p.2.2.2.1,33434,[0,0])) (Fe _)).1
 have eP:jc p.1 p.2.1 17 (iJ (20000+p.2.2.2.1,33434,[0,0]))=65535-oc (dS cs8 (xm p.1 p.2.1 17 10)+dS cs8 (iJ (20000+p.2.2.2.1,33434,[0,0]))):=by
  rw[jc,I (by rw[l0];omega),eJ,Rl,l0];rfl
 have eQ:jc p.1 p.2.1 17 (iJ (wM p))=65535-oc (dS cs8 (xm p.1 p.2.1 17 10)+(dS cs8 (iJ (20000+p.2.2.2.1,33434,[0,0]))+zk p)):=by
  rw[jc,I (by rw[l1];omega),eJ,Rl,l1];unfold wM;rw[b98,rr Y hn.2];rfl
 rw[nf,eQ]
 rw[eP] at eX
 generalize dS cs8 (xm p.1 p.2.1 17 10)=H at *
 generalize dS cs8 (iJ (20000+p.2.2.2.1,33434,[0,0]))=S at *
 generalize zk p=A at *
 generalize AQ p=X at *
 generalize p.2.2.2.2.1=t at *
 have hH:(17:Int)%256=17:=rfl
 rw[hH] at hp
 clear eP eQ l0 l1 hH
 have hN:(A-(65535-(t+1)+(65535-(H+S))))%65535=0:=by
  unfold oc at eX;rw[I (by omega:¬ H+S=0)] at eX;split at eX <;> split at eN <;> omega
 unfold oc
 rw[I (by omega:¬ H+(S+A)=0)]
 split <;> omega
def FL(p:bu):Int:=if p.2.2.1=1 then 2048 else 20000+p.2.2.2.1
def DK(p:bu):Int:=if p.2.2.1=1 then 16384+p.2.2.2.1 else if p.2.2.1=17 then 33434 else 80
theorem bQ7(h:dJ p=0):aW (ib p) 0=FL p/\aW (ib p) 2=DK p:=by
 obtain⟨h1|h1|h1,h2⟩:=qM.1 h
 .have hs:=Yb h2;have hf:=h2.1;rw[Fu h2 h1,FL,DK,ao h1,ao h1,Cv (by show 0+2<=10;omega) Y,IK (by show 2+2<=10;omega) Y Y,hs];exact⟨rfl,rfl⟩
 .have hf:=h2.1;rw[Gx h2 h1,FL,DK,I Y,I Y,I Y,Cv (by show 0+2<=20;omega) Y,Cv (by show 2+2<=20;omega) Y];constructor
  .show aW (_::_::_) 0=_;rw[jG];exact rr (n:=20000+p.2.2.2.1) Y Y
  .rfl
 .have hf:=h2.1;rw[IT h2 h1,FL,DK,I Y,I Y,ao h1,Cv (by show 0+2<=10;omega) Y,Cv (by show 2+2<=10;omega) Y];constructor
  .show aW (_::_::_) 0=_;rw[jG];exact rr (n:=20000+p.2.2.2.1) Y Y
  .rfl
abbrev qF:CT := .pair dB cI
def c9(a b:Int):Int:=if a<b then -1 else if b<a then 1 else 0
abbrev fM:Type:=Int×Int
def jg(p q:fM):Int:=if c9 p.1 q.1≠0 then c9 p.1 q.1 else c9 p.2 q.2
def pD:Z->Int
 | []=>0
 | x::xs=>if x≠0 then x else pD xs
variable{j:Int}
theorem au1(h0:0<=j)(h1:j<V l):l.drop (M j)=T l (M j) cs5::l.drop (M (j+1)):=by
 have hj:M j<V l:=Y
 rw[sM hj,cK,cT hj,jb]
 congr 2;omega
variable{α:Type}
theorem VZ [Inhabited α] {l} (h0:0<=j) (h1:j<V l) {y:α} (hy:y∈l.take (M (j+1))):y∈l.take (M j)∨y=T l (M j) default:=by
 have hj:M j<V l:=Y
 have e:M (j+1)=M j+1:=Y
 rw[e,Df hj] at hy
 obtain hy|hy:=dX.1 hy
 .exact .inl hy
 .right;simp at hy;rw[cK,cT hj,jb];exact hy
theorem aX4{l}(h0:0<=j)(h1:j<V l)(hv:T l (M j) cs5=v)(h2:∀ y∈l.take (M j),y≠v):l.idxOf v=M j:=by
 have hj:M j<V l:=Y
 rw[cK,cT hj,jb] at hv
 have e:l=l.take (M j)++l[M j]::l.drop (M j+1):=by
  rw[← sM hj,mj]
 rw[e,List.idxOf_append,I (λhm=>h2 v hm rfl),hv,List.idxOf_cons_self]
 simp;omega
def bb1:Ct:=⟨[.val cI],[.val .bool],λ_=>[],λ_=>((ct2,()),())⟩
theorem bv5:
 ∀ a,dN (aq a) (db a a=ct2):= by
  delta aq aH J dN db
  rintro x - -
  simp
theorem bN7:aB 218 bb1.spec:=aG Tryz.func218 aC aS bv5
def cb7:Ct:=⟨[.val dB],[.val .bool],λ_=>[],λ_=>((ct2,()),())⟩
theorem bA2:
 ∀ a,dN (aT a) (db a a=ct2):= by
  delta aT J dN db aF
  rintro x - -
  simp
theorem co2:aB 303 cb7.spec:=aG Tryz.func303 aC aS bA2
def bB6:Ct:=⟨[.val cI,.val cI],[.val cI],λ_=>[],λd=>((c9 d.1 d.2.1,()),())⟩
def Fh(a b:Int):=True->au (av a b) ((-1)=c9 a b) (au (av b a) (1=c9 a b) (0=c9 a b))
theorem b73:
 ∀ a b,dP a b->Fh a b:= by
  delta aq aH J dP Fh av
  rintro x y - -
  unfold c9
  refine ay (λh=>?_) (λh=>ay (λh2=>?_) (λh2=>?_))
  .rw[ao (aX h)]
  .rw[I (bg h),ao (aX h2)]
  .rw[I (bg h),I (bg h2)]
theorem GZ:aB 152 bB6.spec:=aG Tryz.func152 (C aC bN7) aS b73
def bP1:Ct:=⟨[.val dB,.val dB],[.val cI],λ_=>[],λd=>((c9 d.1 d.2.1,()),())⟩
theorem ax8:
 ∀ a b,aT a/\J (aT b)->Fh a b:= by
  delta aT J Fh av aF
  rintro x y - -
  unfold c9
  refine ay (λh=>?_) (λh=>ay (λh2=>?_) (λh2=>?_))
  .rw[ao (aX h)]
  .rw[I (bg h),ao (aX h2)]
  .rw[I (bg h),I (bg h2)]
theorem bt9:aB 273 bP1.spec:=aG Tryz.func273 (C aC co2) aS ax8
def am9:Ct:=⟨[.val (.sl cI)],[.val cI],λ_=>[],λd=>((pD d.1,()),())⟩
def b02:bG am9.ps->bL:=(λd=>{loops:=(bz 3 (λS=>{ι:=Int,μ:=λi=>M (V d.1-i),inv:=λi=>0<=i/\i<=V d.1/\pD d.1=pD (d.1.drop (M i)),keep:=[3,6,7],slots:=λi=>[(8,.int .i64 i)]}) cm)})
def Lk(a:Int)(b:Z):=am a (a<=O b) (pD b=pD (drop (M a) b))
def uf(a b:Int)(c d:Prop)(e:Int):=au (av a b) (am a c d) (0=e)
theorem b33:
 ∀ a,dN (cU a) ((∃ b,Lk b a/\(0:Int)=(0:Int)/\a=a/\ou a/\J (0=b))/\ ∀ b,Lk b a->uf b (O a) (b<O a) (au ( !aY (N a b)) (N a b=pD a) (∃ c,Lk c a/\bi (O a) c b/\(0:Int)=(0:Int)/\a=a/\ou a/\J (aA b=c))) (pD a)):= by
  delta N O ap aq aH cU bi bZ am aY aA J av dN Lk ou uf
  rintro x ⟨⟨hl,-⟩,-⟩ -
  simp only[cu5] at hl
  refine⟨⟨0,⟨Y,Y,rfl⟩,aI⟩,?_⟩
  rintro j ⟨h0,h1,h2⟩
  refine bT (λhj=>?_) (λhj=>?_)
  .have e:=au1 (l:=x) h0 hj
   rw[e] at h2
   refine⟨h0,hj,ay (λhz=>?_) (λhz=>?_)⟩
   .have hz:T x (M j) cs5≠0:=by simpa only[sS,xZ] using hz
    rw[h2,pD,ao hz]
   .have hz:¬ T x (M j) cs5≠0:=by simpa only[BE,pJ,ne_eq,Az] using hz
    rw[pD,I hz] at h2
    exact⟨j+1,⟨Y,Y,h2⟩,Y,aI⟩
  .rw[h2,cA3 Y];rfl
theorem KI:aB 151 am9.spec:=aG Tryz.func151 aC b02 b33
def bw7:Ct:=⟨[.agg qF,.agg qF],[.val cI],λ_=>[],λd=>((jg d.1 d.2.1,()),())⟩
theorem bJ8:
 ∀ a b c d,(aT a/\aq b)/\J (aT c/\aq d)->True->pD (c9 a c::bI (c9 b d))=jg (a,b) (c,d):= by
  delta aq aH aT J bI aF
  rintro x y z u - -
  simp only[pD,jg]
  split
  .rfl
  .split
   .rfl
   next h=>simp at h;exact h.symm
theorem Yn:aB 241 bw7.spec:=aG Tryz.func241 (C (C (C aC bt9) GZ) KI) aS bJ8
def b89:Ct:=⟨[.val cI,.val cI],[.val cI],λ_=>[],λd=>((c9 d.1 d.2.1,()),())⟩
theorem a78:
 ∀ a b,dP a b->Fh a b:= by
  delta aq aH J dP Fh av
  rintro x y - -
  unfold c9
  refine ay (λh=>?_) (λh=>ay (λh2=>?_) (λh2=>?_))
  .rw[ao (aX h)]
  .rw[I (bg h),ao (aX h2)]
  .rw[I (bg h),I (bg h2)]
theorem aC7:aB 232 b89.spec:=aG Tryz.func232 aC aS a78
def bC8:Ct:=⟨[.agg qF,.agg qF],[.val cI],λ_=>[],λd=>((jg d.1 d.2.1,()),())⟩
theorem bm0:
 ∀ a b c d,(aT a/\aq b)/\J (aT c/\aq d)->True->au (db a c) (c9 (ap a) (ap c)=jg (a,b) (c,d)) (c9 b d=jg (a,b) (c,d)):= by
  delta ap aq aH aT J db aF
  rintro x y z u ⟨⟨⟨h0,h1⟩,-⟩,⟨⟨h2,h3⟩,-⟩,-⟩ -
  unfold jg
  refine ay (λh=>?_) (λh=>?_)
  .simp at h
   rw[aJ Y Y,aJ Y Y,ao (by simp only[c9];split <;> first|omega|(split <;> omega))]
  .simp at h
   subst h
   rw[I (by simp[c9])]
theorem a61:aB 185 bC8.spec:=aG Tryz.func185 (C aC aC7) aS bm0
def sz(n:Int):Int:=2^M (32-n)
def oF(p:fM):Bool:=cs7 (0<=p.2/\p.2<=32/\p.1%sz p.2=0)
def contains(p:fM)(a:Int):Bool:=oF p&&cs7 (p.1<=a/\a<p.1+sz p.2)
theorem bF9(n):sz n=((2^M (32-n):Nat):Int):=by unfold sz;rw[Int.natCast_pow];rfl
theorem Py(h0:0<=n)(h1:n<=32):∃ k:Nat,k<=32/\n=32-k/\sz n=((2^k:Nat):Int):=⟨M (32-n),Y,Y,bF9 n⟩
theorem ci8(h0:0<=n)(h1:n<=32):gd .u32 4294967295 (32-n)=4294967296-sz n:=by
 obtain⟨k,hk,rfl,e⟩:=Py h0 h1
 rw[e]
 have:(32:Int)-(32-(k:Int))=(k:Int):=Y
 rw[this]
 unfold gd
 rw[IntKind.wrap_u32]
 have hm:min (M ((k:Int))) ct3.bits=k:=by simp only[cC3,cv6];omega
 rw[hm]
 have hd:∀ k,k<=32->(4294967295*2^k:Int)%4294967296=4294967296-((2^k:Nat):Int):=aD
 exact hd k hk
variable{x:Int}
theorem br1(h0:0<=x)(h1:x<=4294967295)(h2:0<=n)(h3:n<=32):bits .andNot .u32 x (4294967296-sz n)=x%sz n:=by
 obtain⟨k,hk,rfl,e⟩:=Py h2 h3
 have hp:(2:Nat)^k<=2^32:=cH9 aD hk
 have hp0:=cU0 k
 rw[e,u32_andNot _ _ h0 Y Y Y]
 have e1:4294967295-M ((4294967296:Int)-((2^k:Nat):Int))=2^k-1:=Y
 rw[e1,H8]
 obtain⟨m,rfl⟩:=tj h0
 rw[cv6,cT2]
theorem b32{a k}(hk:k<=32)(ha:a<4294967296):a &&& (4294967296-2^k)=a/2^k*2^k:=by
 have e:4294967296-2^k=(2^(32-k)-1) <<< k:=by
  rw[cT3,Nat.sub_mul,← Nat.pow_add,qS];congr 1;rw[show 32-k+k=32 from by omega]
 rw[e,← Nat.shiftRight_eq_div_pow,← cT3]
 apply Nat.eq_of_testBit_eq
 intro i
 simp only[Nat.testBit_and,Nat.testBit_shiftLeft,Nat.testBit_two_pow_sub_one,Nat.testBit_shiftRight]
 by_cases hi:k<=i
 .have e2:k+(i-k)=i:=Y;simp only[hi,decide_true,Bool.true_and,e2];by_cases h32:i<32
  .have:i-k<32-k:=Y;simp[this]
  .have:a.testBit i=false:=Nat.testBit_lt_two_pow (Nat.lt_of_lt_of_le ha (cH9 (show 0<2 by decide) (by omega:32<=i)));simp[this]
 .simp[hi]
variable{a:Int}
theorem bs2(h0:0<=a)(h1:a<=4294967295)(h2:0<=n)(h3:n<=32)(hx:0<=x)(hm:x%sz n=0) :
  (bits .and .u32 a (4294967296-sz n)=x)↔(x<=a/\a<x+sz n):=by
 obtain⟨k,hk,rfl,e⟩:=Py h2 h3
 have hp:(2:Nat)^k<=2^32:=cH9 aD hk
 have hp0:=cU0 k
 rw[e] at hm ⊢
 rw[u32_and _ _ h0 Y Y Y]
 have e1:M ((4294967296:Int)-((2^k:Nat):Int))=4294967296-2^k:=Y
 rw[e1,b32 hk Y]
 obtain⟨m,rfl⟩:=tj h0
 obtain⟨y,rfl⟩:=tj hx
 rw[cv6]
 have hm:y%2^k=0:=by
  have:((y%2^k:Nat):Int)=0:=by rw[cT2];exact hm
  omega
 generalize 2^k=s at *
 have d:=cU1 m s
 have dl:=Nat.mod_lt m hp0
 have dy:=cU1 y s
 rw[hm] at dy
 rw[cD4] at d
 constructor
 .intro h;omega
 .rintro⟨h,h'⟩;have hq:m/s=y/s:=by
   apply Nat.le_antisymm
   .have:m<(y/s+1)*s:=by rw[gA,qS,cD4 (y/s)];omega
    have:=Nat.div_lt_of_lt_mul (cD4 _ _▸this:m<s*(y/s+1));omega
   .exact Nat.div_le_div_right Y
  rw[hq,cD4];omega
def bY6:Ct:=⟨[.val cI],[.val dB],λd=>[0<=d.1/\d.1<=32],λd=>((4294967296-sz d.1,()),())⟩
theorem ax7:
 ∀ a,J (aq a)->aF a 32->0<=ap (32 -a)/\gd ct3 4294967295 (ap (32 -a))=4294967296 -sz a:= by
  delta ap aq aH J aF
  rintro x-⟨h0,h1⟩
  rw[aJ Y Y]
  exact⟨Y,ci8 h0 h1⟩
theorem YQ:aB 243 bY6.spec:=aG Tryz.func243 aC aS ax7
def cm1:Ct:=⟨[.agg qF],[.val .bool],λ_=>[],λd=>((oF d.1,()),())⟩
def fp(a:Bool)(b c d e:Prop):=cB a a (aK b) (b->c) (d/\e)
theorem bc6:
 ∀ a b,dN (aT a/\aq b) (∀ c,c=fH b->cB c c (aK c) (c->c) (∀ d,d=bq c (cs7 (b<=32))->fp d d ((d->d)/\J (aF b 32)) (d->dE d) ((d->aK d)/\(d->d)/\bq d (aY (bits BinOp.andNot ct3 a (4294967296 -sz b)))=oF (a,b)))):= by
  delta aq aH aK aT cB bq aY fp J dE dN fH aF
  rintro x n ⟨⟨⟨h0,h1⟩,-⟩,-⟩ -
  (repeat (refine cG ?_;repeat refine cH ?_))
  by_cases hn:0<=n/\n<=32
  .have:=br1 (n:=n) h0 h1 hn.1 hn.2
   simp[oF,hn,this]
  .simp only[oF]
   by_cases h2:0<=n
   .have:¬ n<=32:=λh=>hn ⟨h2,h⟩
    simp[this]
   .simp[h2]
theorem UK:aB 240 cm1.spec:=aG Tryz.func240 (C aC YQ) aS bc6
def be2:Ct:=⟨[.agg qF,.val dB],[.val .bool],λ_=>[],λd=>((contains d.1 d.2.1,()),())⟩
def lW(a:Bool)(b c:Int):=bq a (cs7 (b=c))
theorem cm4:
 ∀ a b c,(aT a/\aq b)/\J (aT c)->True-> ∀ d,d=oF (a,b)->cB d d ((d->d)/\J (aF b 32)) (d->dE d) (cB d d (dE d) (d->d) (lW d (bits cw3 ct3 c (4294967296 -sz b)) a=contains (a,b) c)):= by
  delta aq aH aK aT cB bq J dE lW aF
  rintro x n a ⟨⟨⟨h0,h1⟩,-⟩,⟨h2,h3⟩,-⟩ -
  have hv:∀ b,b=oF (x,n)->b=cs8->0<=n/\n<=32/\x%sz n=0:=by
   rintro b rfl h;simpa[oF] using h
  rintro b hb
  have hr:=hv b hb
  refine⟨aw,λh=>⟨λ_=>h,⟨(hr h).1,(hr h).2.1⟩,aQ⟩,aw,aw,aw,aw,?_⟩
  unfold contains
  rw[← hb]
  cases b with
  | false=>rfl
  | true =>
   have ⟨r1,r2,r3⟩:=hr rfl
   have:=bs2 (n:=n) (x:=x) h2 h3 r1 r2 h0 r3
   rw[AR];simpa using this
theorem Z6:aB 197 be2.spec:=aG Tryz.func197 (C (C aC YQ) UK) aS cm4
def WC:Ct:=⟨[.val (.sl cI),.val cI],[.val cI],λ_=>[],λd=>((if d.2.1∈d.1 then (d.1.idxOf d.2.1:Int) else -1,()),())⟩
def bo2:bG WC.ps->bL:=(λd=>{loops:=(bz 2 (λS=>{ι:=Int,μ:=λi=>M (V d.1-i),inv:=λi=>0<=i/\i<=V d.1∧∀ y∈d.1.take (M i),y≠d.2.1,keep:=[0,1,6,7],slots:=λi=>[(8,.int .i64 i)]}) cm)})
def B0(a:Int)(b c:Z)(d:Int):=am a (a<=O b) (∀(e:Int),e∈c->e≠d)
theorem bD0:
 ∀ a b,cU a/\J (aq b)->True->(∃ c,B0 c a (take (M c) a) b/\a=a/\b=b/\a=a/\ou a/\J (0=c))/\ ∀ c,B0 c a (take (M c) a) b->au (av c (O a)) (gP c (O a) (cs7 (b=N a c)) (c=(if b∈a then (cR5 b a:Int) else (-1))) (∃ d,B0 d a (take (M d) a) b/\bi (O a) d c/\a=a/\b=b/\a=a/\ou a/\J (aA c=d))) ((-1:Int)=(if b∈a then (cR5 b a:Int) else (-1:Int))):= by
  delta N O ap aq aH cU bi bZ am aA J av B0 ou gP
  rintro x v ⟨⟨hl,-⟩,-⟩ -
  simp only[cu5] at hl
  refine⟨⟨0,⟨Y,Y,aw⟩,aI⟩,?_⟩
  rintro j ⟨h0,h1,h2⟩
  refine bT (λhj=>?_) (λhj=>?_)
  .refine⟨h0,hj,bT (λhz=>?_) (λhz=>?_)⟩
   .have hm:v∈x:=by rw[hz];exact cW h0 hj
    rw[ao hm]
    have:=aX4 (l:=x) (v:=v) h0 hj hz.symm h2
    omega
   .refine⟨j+1,⟨Y,Y,λy hy=>?_⟩,Y,aI⟩
    obtain hy|rfl:=VZ h0 hj hy
    .exact h2 y hy
    .exact λe=>hz e.symm
  .rw[gE Y] at h2
   rw[I (λhm=>h2 v hm rfl)]
theorem ax5:aB 166 WC.spec:=aG Tryz.func166 aC bo2 bD0
def at4:Ct:=⟨[.val (.sl cI),.val cI],[.val .bool],λ_=>[],λd=>((cs7 (d.2.1∈d.1),()),())⟩
theorem aR8:
 ∀ a b,cU a/\J (aq b)->True->fH (if b∈a then (cR5 b a:Int) else (-1))=cs7 (b∈a):= by
  delta aq aH cU J fH
  rintro x v - -
  by_cases h:v∈x
  .rw[ao h];simp[h];
  .rw[I h];simp[h]
theorem Wg:aB 91 at4.spec:=aG Tryz.func91 (C aC ax5) aS aR8
abbrev Gm:CT := .pair dB (.pair cI (.pair cI (.pair cI (.pair cI cI))))
abbrev oI:Type:=Int×Int×Int×Int×Int×Int
def Bh:oI:=(0,0,0,0,0,0)
def jy(a:Int):Int :=
 if a/16777216=0 then 1 else if a/16777216=127 then 2
 else if a/16777216=10∨(a/16777216=172/\16<=a/65536%256/\a/65536%256<32)∨(a/16777216=192/\a/65536%256=168) then 3
 else if a/16777216=169/\a/65536%256=254 then 4
 else if 224<=a/16777216/\a/16777216<240 then 5 else if 240<=a/16777216 then 6 else 0
def gm(a:Int):Prop:=jy a=0∨jy a=3
instance (a:Int):Decidable (gm a):=by unfold gm;infer_instance
def Pm(x:iM):Int:=x.1.2.2.2.1
def Px(x:iM):Prop:=8<=V x.2/\(x.1.2.2.2.1=1->T x.2 0 cs5=8)/\(x.1.2.2.2.1=6->14<=V x.2->bits .and .u8 (T x.2 13 cs5) 4=0)/\gm x.1.2.2.2.2.2.1
instance (x:iM):Decidable (Px x):=by unfold Px;infer_instance
def fV(b:Z):Prop:=eO b=0/\Px (cN b)
instance (b:Z):Decidable (fV b):=by unfold fV;infer_instance
def FC(b:Z):Prop:=eO b=0/\8<=(cN b).2.length/\(Pm (cN b)=1->(cN b).2.getD 0 cs5=8)/\(Pm (cN b)=6->14<=(cN b).2.length->bits .and .u8 ((cN b).2.getD 13 cs5) 4=0)
instance (b:Z):Decidable (FC b):=by unfold FC;infer_instance
def yb(b:Z):iM:=if FC b then cN b else (yz,[])
def lF(id ttl:Int):Prop:=(0<=id/\id<=65535)/\0<=ttl/\ttl<=255
instance (i t:Int):Decidable (lF i t):=by unfold lF;infer_instance
def lK(src dst proto id ttl:Int)(data:Z):iM:=((0,id,ttl,proto,ct2,src,dst),data)
def dI(b:Z):Int:=(cC b).2.2.2.2.2.1
def iw(b:Z):Int:=(cC b).2.2.2.2.2.2
def fw(b:Z):Int:=(cC b).2.2.2.1
def Bj(kind code id ttl:Int):Prop:=(kind=11∨kind=3)/\(0<=code/\code<=255)/\lF id ttl
instance (k c i t:Int):Decidable (Bj k c i t):=by unfold Bj;infer_instance
def jf(b:Z)(kind code id ttl:Int):Int:=if ¬ Bj kind code id ttl then 1 else if fV b then 0 else 17
def lH(b:Z)(src kind code id ttl:Int):Z:=if jf b kind code id ttl=0 then gW (lK src (dI b) 1 id ttl (kP (kind,code,b.take 28))) else []
def pB(s:ny):ny:=(s.2.1,s.1,0,(s.2.2.1+1)%4294967296,20,0,[])
def CQ(b:Z):Prop:=fV b/\((fw b=1/\lT (b.drop 20)=0)∨(fw b=17/\mR (dI b) (iw b) (b.drop 20)=0) ∨
 (fw b=6/\lM (dI b) (iw b) (b.drop 20)=0/\bits .and .i64 (gG (dI b) (iw b) (b.drop 20)).2.2.2.2.1 2≠0/\bits .and .i64 (gG (dI b) (iw b) (b.drop 20)).2.2.2.2.1 4=0))
instance (b:Z):Decidable (CQ b):=by unfold CQ;infer_instance
def jE(b:Z)(id ttl:Int):Int:=if ¬ lF id ttl then 1 else if CQ b then 0 else 17
def md(b:Z)(src id ttl:Int):Z :=
 if jE b id ttl=0 then
  if fw b=1 then gW (lK src (dI b) 1 id ttl (gY (cs8,(ip (b.drop 20)).2)))
  else if fw b=17 then lH b src 3 3 id ttl
  else gW (lK src (dI b) 6 id ttl (io src (dI b) (pB (gG (dI b) (iw b) (b.drop 20)))))
 else []
def HC(b:Z):Prop:=jh b=0/\V b=28/\(cC b).1=0/\(cC b).2.2.2.2.1=cs8
instance (b:Z):Decidable (HC b):=by unfold HC;infer_instance
def DV(b:Z):Int:=if fw b=1 then aW b 22-16384 else if fw b=17∨fw b=6 then aW b 20-20000 else 0
def vD(b:Z):bu:=(dI b,iw b,fw b,DV b,(cC b).2.1,(cC b).2.2.1)
def uM(b:Z):Prop :=
 (fw b=1/\aW b 2=30/\aW b 20=2048/\aW b 24=21075/\aW b 26=(cC b).2.1) ∨
 (fw b=17/\aW b 2=30/\aW b 22=33434/\aW b 24=aW b 2-20/\aW b 26=(cC b).2.1+1) ∨
 (fw b=6/\aW b 2=40/\aW b 22=80/\gk ((b.drop 24).take 4)=(cC b).2.1)
instance (b:Z):Decidable (uM b):=by unfold uM;infer_instance
def ox(b:Z):bu×Bool:=if HC b then (vD b,cs7 (uM b/\dJ (vD b)=0)) else (OV,ct2)
def wc(p:bu)(t:Int):bu:=(p.1,p.2.1,p.2.2.1,p.2.2.2.1,p.2.2.2.2.1,t)
def xN(ty code:Int):Int:=if ty=11 then 1 else if code=3 then 3 else 5
abbrev Hz:Type:=bu×oI×Bool
def EZ:Hz:=(OV,Bh,ct2)
def uC(dst:Int)(b:Z):Hz :=
 if nQ b=0 then (wc (ox (nj b).2.2).1 0,(0,xN (nj b).1 (nj b).2.1,(nj b).2.1,0,0,(ox (nj b).2.2).1.2.2.2.2.2),(ox (nj b).2.2).2&&cs7 ((ox (nj b).2.2).1.1=dst)) else EZ
def Jf(b:Z):Prop:=lT b=0/\(ip b).1=cs8/\(ip b).2.1=21075/\(ip b).2.2.2.length=2
instance (b:Z):Decidable (Jf b):=by unfold Jf;infer_instance
def wT(src dst:Int)(b:Z):Hz:=if Jf b then ((dst,src,1,aW b 2-18432,(ip b).2.2.1,0),(0,2,0,0,0,0),cs8) else EZ
def Ji(src dst:Int)(b:Z):Prop:=lM src dst b=0/\(gG src dst b).1=80/\(gG src dst b).2.2.1=0/\(gG src dst b).2.2.2.2.1=20/\(gG src dst b).2.2.2.2.2.1=0/\(gG src dst b).2.2.2.2.2.2=[]
instance (s d:Int) (b:Z):Decidable (Ji s d b):=by unfold Ji;infer_instance
def wW(src dst:Int)(b:Z):Hz:=if Ji src dst b then ((dst,src,6,(gG src dst b).2.1-20000,(gG src dst b).2.2.2.1-1,0),(0,4,0,0,0,0),cs8) else EZ
def kF(b:Z):Hz :=
 if fw b=1/\0<V (b.drop 20)/\T (b.drop 20) 0 cs5=0 then wT (dI b) (iw b) (b.drop 20)
 else if fw b=1 then uC (iw b) (b.drop 20) else if fw b=6 then wW (dI b) (iw b) (b.drop 20) else EZ
def Eg(b:Z):Prop:=eO b=0/\(kF b).2.2=cs8/\dJ (wc (kF b).1 1)=0
instance (b:Z):Decidable (Eg b):=by unfold Eg;infer_instance
def gu(b:Z):bu×oI:=if Eg b then ((kF b).1,(dI b,(kF b).2.1.2.1,(kF b).2.1.2.2.1,(cC b).2.2.1,(cC b).2.1,(kF b).2.1.2.2.2.2.2)) else (OV,Bh)
def rH(b:Z):Int:=if Eg b then 0 else 17
theorem b75(n):bits .and .i64 n 4294967295=n%4294967296:=by
 have a:(cw8 64 4294967295).toNat=2^32-1:=aD
 have b:(cw8 64 n &&& cw8 64 4294967295).toNat=(n%((2^64:Nat):Int)).toNat%2^32:=by
  rw[BitVec.toNat_and,BitVec.toNat_ofInt,a,H8]
 show ct0.wrap ((cw8 64 n &&& cw8 64 4294967295).toNat:Nat)=n%4294967296
 rw[b,cw6]
 omega
theorem Bf{p}(hs:sz n=s)(hn:0<=n/\n<=32)(hp:p%s=0):contains (p,n) a=cs7 (p<=a/\a<p+s):=by
 unfold contains oF
 simp_all
theorem Oq:fV b↔FC b/\gm (cN b).1.2.2.2.2.2.1:=⟨λh=>⟨⟨h.1,h.2.1,h.2.2.1,h.2.2.2.1⟩,h.2.2.2.2⟩,λh=>⟨h.1.1,h.1.2.1,h.1.2.2.1,h.1.2.2.2,h.2⟩⟩
theorem ag1(h:fV b):yb b=(cC b,b.drop 20):=by rw[yb,ao (Oq.1 h).1,cN,ao h.1]
theorem wz(h:fV b):eO b=0/\28<=V b/\(fw b=1->T (b.drop 20) 0 cs5=8)/\(fw b=6->14<=V (b.drop 20)->bits .and .u8 (T (b.drop 20) 13 cs5) 4=0)/\gm (dI b):=by
 have ⟨a,c⟩:=h
 rw[cN,ao a] at c
 have ⟨k1,k2,k3,k4⟩:=c
 simp at k1
 exact⟨a,Y,k2,k3,k4⟩
theorem bG2(a:eO b=0)(h2:28<=V b)(h3:fw b=1->T (b.drop 20) 0 cs5=8)(h4:fw b=6->14<=V (b.drop 20)->bits .and .u8 (T (b.drop 20) 13 cs5) 4=0)(h5:gm (dI b)):fV b:=by
 refine⟨a,?_⟩
 rw[cN,ao a]
 exact⟨by simp;omega,h3,h4,h5⟩
variable{src id:Int}
theorem EL{dst proto e}(hn:lF id e)(hp:0<=proto/\proto<=255)(hl:(V data:Int)<=1480):jB (lK src dst proto id e data)=0:=by
 have ⟨⟨a,b⟩,c,d⟩:=hn
 rw[jB,I,I (by simp only[lK];omega)]
 rw[Az]
 exact⟨⟨fJ _,by simp only[lK];omega⟩,⟨c,d⟩,hp,a,b⟩
variable{kind code:Int}
theorem Nt(c:Bj kind code id a)(d:fV b) :
  jf b kind code id a=0/\lH b src kind code id a=gW (lK src (dI b) 1 id a (kP (kind,code,b.take 28)))/\mi (kind,code,b.take 28)=0/\jB (lK src (dI b) 1 id a (kP (kind,code,b.take 28)))=0:=by
 have e:jf b kind code id a=0:=by rw[jf,I (λk=>k c),ao d]
 obtain⟨-,hl,-⟩:=wz d
 have ⟨h1,h2,h3⟩:=c
 refine⟨e,by rw[lH,ao e],?_,EL h3 Y (RP _)⟩
 have ht:V (b.take 28)=28:=by rw[fF];omega
 rw[mi,I,I,I]
 .simp only;omega
 .simp only;omega
 .grind
theorem bF5(hg:¬ Bj kind code id a):([]:Z)=lH b src kind code id a/\1=jf b kind code id a:=by
 have he:jf b kind code id a=1:=by rw[jf,ao hg]
 rw[lH,he];exact⟨rfl,rfl⟩
theorem cp7(hg:Bj kind code id a)(ha:¬ fV b):([]:Z)=lH b src kind code id a/\17=jf b kind code id a:=by
 have he:jf b kind code id a=17:=by rw[jf,I (λk=>k hg),I ha]
 rw[lH,he];exact⟨rfl,rfl⟩
theorem bl6(b:Z):cZ b (M 0) (M 28)=b.take 28:=by
 show cZ b 0 28=_
 simp[cZ]
theorem bS1(hn:¬ lF id a):([]:Z)=md b src id a/\1=jE b id a:=by
 have he:jE b id a=1:=by rw[jE,ao hn]
 rw[md,he];exact⟨rfl,rfl⟩
theorem Ja(hn:lF id a)(ha:¬ CQ b):([]:Z)=md b src id a/\17=jE b id a:=by
 have he:jE b id a=17:=by rw[jE,I (λk=>k hn),I ha]
 rw[md,he];exact⟨rfl,rfl⟩
theorem Hp(hn:lF id a)(ha:CQ b):jE b id a=0:=by rw[jE,I (λk=>k hn),ao ha]
theorem L8(hn:lF id a)(ha:fV b)(h:fw b=1)(he:lT (b.drop 20)=0) :
  md b src id a=gW (lK src (dI b) 1 id a (gY (cs8,(ip (b.drop 20)).2)))/\jE b id a=0:=by
 have c:=Hp hn ⟨ha,.inl ⟨h,he⟩⟩
 rw[md,ao c,ao h];exact⟨rfl,c⟩
theorem LW(hn:lF id a)(ha:fV b)(h:fw b=17)(he:mR (dI b) (iw b) (b.drop 20)=0) :
  md b src id a=lH b src 3 3 id a/\jE b id a=0:=by
 have c:=Hp hn ⟨ha,.inr (.inl ⟨h,he⟩)⟩
 rw[md,ao c,I Y,ao h];exact⟨rfl,c⟩
theorem Jv(hn:lF id a)(ha:fV b)(h:fw b=6)(he:lM (dI b) (iw b) (b.drop 20)=0)
  (h2:bits .and .i64 (gG (dI b) (iw b) (b.drop 20)).2.2.2.2.1 2≠0) (h4:bits .and .i64 (gG (dI b) (iw b) (b.drop 20)).2.2.2.2.1 4=0) :
  md b src id a=gW (lK src (dI b) 6 id a (io src (dI b) (pB (gG (dI b) (iw b) (b.drop 20)))))/\jE b id a=0:=by
 have c:=Hp hn ⟨ha,.inr (.inr ⟨h,he,h2,h4⟩)⟩
 rw[md,ao c,I Y,I Y];exact⟨rfl,c⟩
theorem Se(hn:lF id a)(ha:fV b):jf b 3 3 id a=0:=by
 rw[jf,I (λk=>k ⟨.inr rfl,⟨Y,Y⟩,hn⟩),ao ha]
theorem Xq(b):(ip b).2.2.2.length<=V b:=by
 unfold ip;split
 .simp_all
 .simp
theorem bj1(b):(nj b).2.2.length<=V b:=by
 unfold nj;split
 .simp_all
 .simp
theorem X3(a:bytes b):(0<=(gG s d b).2.1/\(gG s d b).2.1<=65535)/\(0<=(gG s d b).2.2.1/\(gG s d b).2.2.1<=4294967295)/\0<=(gG s d b).2.2.2.1/\(gG s d b).2.2.2.1<=4294967295:=by
 unfold gG;split
 .have h1:=tu a (M 2);have h2:=tu a (M 4);have h3:=tu a (M 6);have h4:=tu a (M 8);have h5:=tu a (M 10);simp only;omega
 .simp
def yW(k:Int):fM:=T ([(0,8),(2130706432,8),(167772160,8),(2886729728,12),(3232235520,16),(2851995648,16),(3758096384,4),(4026531840,4)]:List fM) (M k) (0,0)
def YA:Ct:=⟨[.val dB],[.val cI],λd=>[],λd=>((jy d.1,()),())⟩
def cc9:bG YA.ps->bL:=(λd=>{cuts:=(bz 6 (λS=>{ι:=Unit,inv:=λi=>contains (yW (S.i 6)) d.1=ct2,keep:=[0,5,6],slots:=λi=>[]}) cm),unr:=λn=>match n with|2=>9|_=>0})
def IR:=cS0 (2^cC3 ct0)
def O0(a:Nat)(b:Int):=((a+1)%cS0 b+1)%IR
def QP(a b c:Nat):=O0 (a%b) (2^c)
def XJ(a b c:Nat):=QP (a%b+1) (cS0 (2^c)) (cC3 ct0)
def ad0(a:Int)(b c:Prop):=bh a 0 8 ((1:Int)=(1:Int)) (bh 2130706432 8 2 ((167772160:Int)=(167772160:Int)) (bh 8 3 2886729728 ((12:Int)=(12:Int)) (bh 3 3232235520 16 ((3:Int)=(3:Int)) (bh 2851995648 16 4 ((3758096384:Int)=(3758096384:Int)) (bh 4 5 4026531840 ((4:Int)=(4:Int)) (b/\c))))))
def Mp(a:Int):=aA (aA (ap a))
def Ik(a:Int):=Mp (ap a+1)
def zQ(a b c:Int):=∃(d:Unit),contains (yW a) b=ct2/\ad0 b ((6:Int)=(6:Int)) (J (c=c))
def G9(a:fM)(b:Int)(c:Bool)(d e f:Prop):=∀(g:Unit),contains a b=ct2->au c d e/\ ∀(h:Unit),f
def AH(a:Nat):=cG5 (XJ (a+1) IR (cC3 ct0))
def H0:=QP (0+1) IR (cC3 ct0)
def Ip:=O0 0 (2^cC3 ct0)
def I7:=(0+1)%IR
theorem bD8:
 ∀ a,dN (aT a) (au (contains (0,8) a) (1=jy a) (zQ 0 a 0)/\G9 (yW 0) a (contains (2130706432,8) a) (2=jy a) (zQ (cG5 I7) a (aA 0)) (contains (yW (cG5 I7)) a=ct2->au (contains (167772160,8) a) (3=jy a) (zQ (cG5 Ip) a (aA (aA 0)))/\G9 (yW (cG5 Ip)) a (contains (2886729728,12) a) (3=jy a) (zQ (cG5 H0) a (Mp (0+1))) (contains (yW (cG5 H0)) a=ct2->au (contains (3232235520,16) a) (3=jy a) (zQ (AH 0) a (Ik (0+1)))/\G9 (yW (AH 0)) a (contains (2851995648,16) a) (4=jy a) (zQ (AH I7) a (Ik (aA 0+1))) (contains (yW (AH I7)) a=ct2->au (contains (3758096384,4) a) (5=jy a) (zQ (AH Ip) a (Ik (aA (aA 0)+1)))/\G9 (yW (AH Ip)) a (contains (4026531840,4) a) (6=jy a) (zQ (AH H0) a (Ik
 (Mp (0+1)+1))) (contains (yW (AH H0)) a=ct2->0=jy a))))):= by
  delta ap bh aT bp XJ QP ad0 O0 Ik Mp aA J zQ IR G9 dN AH H0 Ip aF I7
  rintro a ⟨⟨a0,a1⟩,-⟩ -
  have b:=Bf (p:=0) (n:=8) (a:=a) (s:=16777216) rfl Y Y
  have c:=Bf (p:=2130706432) (n:=8) (a:=a) (s:=16777216) rfl Y Y
  have d:=Bf (p:=167772160) (n:=8) (a:=a) (s:=16777216) rfl Y Y
  have e:=Bf (p:=2886729728) (n:=12) (a:=a) (s:=1048576) rfl Y Y
  have f:=Bf (p:=3232235520) (n:=16) (a:=a) (s:=65536) rfl Y Y
  have g:=Bf (p:=2851995648) (n:=16) (a:=a) (s:=65536) rfl Y Y
  have i:=Bf (p:=3758096384) (n:=4) (a:=a) (s:=268435456) rfl Y Y
  have j:=Bf (p:=4026531840) (n:=4) (a:=a) (s:=268435456) rfl Y Y
  refine⟨ay (λh=>?_) (λh=>⟨(),h,aI⟩),?_⟩
  .rw[b] at h
   have h:=aX h
   unfold jy;rw[ao Y]
  rintro-h
  have h:contains (0,8) a=false:=h
  rw[b] at h
  have h0:=bg h
  refine⟨ay (λh=>?_) (λh=>⟨(),h,aI⟩),?_⟩
  .rw[c] at h
   have h:=aX h
   unfold jy;rw[I Y,ao Y]
  rintro-h
  have h:contains (2130706432,8) a=false:=h
  rw[c] at h
  have h1:=bg h
  refine⟨ay (λh=>?_) (λh=>⟨(),h,aI⟩),?_⟩
  .rw[d] at h
   have h:=aX h
   unfold jy;rw[I Y,I Y,ao Y]
  rintro-h
  have h:contains (167772160,8) a=false:=h
  rw[d] at h
  have h2:=bg h
  refine⟨ay (λh=>?_) (λh=>⟨(),h,aI⟩),?_⟩
  .rw[e] at h
   have h:=aX h
   unfold jy;rw[I Y,I Y,ao Y]
  rintro-h
  have h:contains (2886729728,12) a=false:=h
  rw[e] at h
  have h3:=bg h
  refine⟨ay (λh=>?_) (λh=>⟨(),h,aI⟩),?_⟩
  .rw[f] at h
   have h:=aX h
   unfold jy;rw[I Y,I Y,ao Y]
  rintro-h
  have h:contains (3232235520,16) a=false:=h
  rw[f] at h
  have h4:=bg h
  refine⟨ay (λh=>?_) (λh=>⟨(),h,aI⟩),?_⟩
  .rw[g] at h
   have h:=aX h
   unfold jy;rw[I Y,I Y,I Y,ao Y]
  rintro-h
  have h:contains (2851995648,16) a=false:=h
  rw[g] at h
  have h5:=bg h
  refine⟨ay (λh=>?_) (λh=>⟨(),h,aI⟩),?_⟩
  .rw[i] at h
   have h:=aX h
   unfold jy;rw[I Y,I Y,I Y,I Y,ao Y]
  rintro-h
  have h:contains (3758096384,4) a=false:=h
  rw[i] at h
  have h6:=bg h
  refine⟨ay (λh=>?_) (λh=>⟨(),h,aI⟩),?_⟩
  .rw[j] at h
   have h:=aX h
   unfold jy;rw[I Y,I Y,I Y,I Y,I Y,ao Y]
  rintro-h
  have h:contains (4026531840,4) a=false:=h
  rw[j] at h
  have h7:=bg h
  unfold jy;rw[I Y,I Y,I Y,I Y,I Y,I Y]
theorem KJ:aB 126 YA.spec:=aG Tryz.func126 (Wj (C aC Z6) (d:=8)) cc9 bD8
def by1:Ct:=⟨[.val (.sl bc)],[.agg FP,.val .bool],λd=>[(V d.1:Int)<=1099511627776],λd=>((yb d.1,cs7 (fV d.1),()),())⟩
def sJ(a b:Bool)(c d:Prop):=∀(e:Bool),e=a->cQ e (bN e) (bw e/\au (br e b) c d)
def J0(a:iM)(b:Z):=∀(c:Bool),c=aY (jy a.1.2.2.2.2.2.1)->bN c/\bw c/\a=yb b/\br c (cs7 (jy a.1.2.2.2.2.2.1=3))=cs7 (fV b)
def Oe(a:Z):=(sA,[])=yb a/\ct2=cs7 (fV a)
theorem be6:
 ∀ a,tW a (aR a) (∀ b c,b=cN a/\c=eO a->sJ ( !aY c) (av (O b.2) 8) (Oe a) (au (gO b.1.2.2.2.1) (gP 0 (O b.2) (db (N b.2 0) 8) (Oe a) (J0 b a)) (au (Av b) (∀ d,d=av 13 (O b.2)->cB d d ((d->d)/\am 13 (13<O b.2) True) (d->aK d) (wt d d (bq d ( !aY (bits cw3 cw0 (N b.2 13) 4))) (Oe a) (J0 b a))) (J0 b a)))):= by
  delta N O aM bN aK aR cB br bq am cQ bw aY J sJ J0 sA av wt db gO Oe tW aF gP Av
  rintro b ⟨⟨-,hb⟩,-⟩ hl
  refine⟨hl,?_⟩
  rintro d e ⟨rfl,rfl⟩
  have f:¬ FC b->(((0,0,0,0,ct2,0,0),[]):iM)=yb b/\ct2=cs7 (fV b):=λh=>by rw[yb,I h,gH (λk=>h (Oq.1 k).1)];exact⟨rfl,rfl⟩
  have a:FC b->cN b=yb b/\(bif cs7 (jy (cN b).1.2.2.2.2.2.1=0) then cs8 else cs7 (jy (cN b).1.2.2.2.2.2.1=3))=cs7 (fV b):=by
   intro h
   refine⟨by rw[yb,ao h],?_⟩
   rw[AR,uq,Oq]
   simp[h,gm,lY]
  (repeat (refine cG ?_;repeat refine cH ?_))
  refine ay (λh=>?_) (λh=>?_)
  .refine f (λk=>?_)
   obtain⟨k1,k2,-⟩:=k
   grind
  have j:eO b=0:=by
   simp_all
  have l:8<=(cN b).2.length:=by
   grind
  refine ay (λc=>?_) (λc=>?_)
  .have c:Pm (cN b)=1:=aX c
   refine⟨Y,Y,ay (λi=>?_) (λi=>?_)⟩
   .refine f (λk=>?_)
    have:=k.2.2.1 c
    simp_all
   ·(repeat (refine cG ?_;repeat refine cH ?_))
    exact a ⟨j,l,λ_=>by simpa using i,λk=>Y⟩
  have c:=bg c
  refine bT (λg=>?_) (λg=>?_)
  .have g:=g
   (repeat (refine cG ?_;repeat refine cH ?_))
   refine ay (λi=>?_) (λi=>?_)
   .refine f (λk=>?_)
    have:=k.2.2.2 g
    grind
   ·(repeat (refine cG ?_;repeat refine cH ?_))
    refine a ⟨j,l,λk=>absurd k c,λ_ hk=>?_⟩
    grind
  .have g:=g
   (repeat (refine cG ?_;repeat refine cH ?_))
   exact a ⟨j,l,λk=>absurd k c,λk=>absurd k g⟩
theorem Vz:aB 310 by1.spec:=aG Tryz.func310 (C (C aC (Ct.named G4)) KJ) aS be6
def cf7:Ct:=⟨[.val cI,.val cI],[.val .bool],λd=>[],λd=>((cs7 (lF d.1 d.2.1),()),())⟩
theorem ca2:
 ∀ a b,dP a b->True-> ∀ c,c=fH a->(c->aK c)/\(c->c)/\ ∀ d,d=bq c (cs7 (a<=65535))->(d->aK d)/\(d->d)/\zj (bq d (fH b)) (cs7 (b<=255)) (cs7 (lF a b)):= by
  delta aq aH aK bq J dP fH zj
  rintro id ttl - -
  (repeat (refine cG ?_;repeat refine cH ?_))
  rw[AR];simp[lF,lY,and_assoc]
theorem WM:aB 309 cf7.spec:=aG Tryz.func309 aC aS ca2
def bQ6:Ct:=⟨[.val dB,.val dB,.val cI,.val cI,.val cI,.val (.sl bc)],[.own 5 bc,.val cI],λd=>[(V d.2.2.2.2.2.1:Int)<=1073741824],λd=>((gW (lK d.1 d.2.1 d.2.2.1 d.2.2.2.1 d.2.2.2.2.1 d.2.2.2.2.2.1),jB (lK d.1 d.2.1 d.2.2.1 d.2.2.2.1 d.2.2.2.2.1 d.2.2.2.2.2.1),()),())⟩
theorem bz5:
 ∀ a b c d e f,aT a/\aT b/\bJ c d (aq e) (J (aM f))->fy f->fy f/\gW ((0,d,e,c,ct2,a,b),f)=gW (lK a b c d e f)/\jB ((0,d,e,c,ct2,a,b),f)=jB (lK a b c d e f):= by
  delta O aq aH aM aT bJ J fy aF
  rintro s d p i t data-hl
  exact⟨hl,rfl,rfl⟩
theorem Zb:aB 311 bQ6.spec:=aG Tryz.func311 (C aC Ol) aS bz5
def a72:Ct:=⟨[.val (.sl bc),.val dB,.val cI,.val cI,.val cI,.val cI],[.own 5 bc,.val cI],λd=>[(V d.1:Int)<=1099511627776],λd=>((lH d.1 d.2.1 d.2.2.1 d.2.2.2.1 d.2.2.2.2.1 d.2.2.2.2.2.1,jf d.1 d.2.2.1 d.2.2.2.1 d.2.2.2.2.1 d.2.2.2.2.2.1,()),())⟩
theorem bh0:
 ∀ a b c d e f,aM a/\aT b/\bJ c d (aq e) (J (aq f))->aR a-> ∀ g,g=db c 11->(g->aK g)/\(g->g)/\ ∀ h,h=bq g (db c 3)->bN h/\bw h/\ ∀ i,ry i h (da d) (bw i) (∀ j,j=br i (av 255 d)->gv j/\kx j (br j ( !cs7 (lF e f))) (fL (lH a b c d e f)/\1=jf a c d e f) (aR a/\ ∀ k l,k=yb a/\l=cs7 (fV a)->au ( !l) (fL (lH a b c d e f)/\17=jf a c d e f) (bo 0 28 (28<=O a) (fy (fN a 0 28)/\ ∀ m n,m=kP (c,d,fN a 0 28)/\n=mi (c,d,fN a 0 28)->au ( !aY n) (fL (lH a b c d e f)/\n=jf a c d e f) (fy m/\gW (lK b k.1.2.2.2.2.2.1 1 e f m)=lH a b c d e f/\jB (lK b k.1.2.2.2.2.2.1 1 e f m)=jf a c d e f))))):= by
  delta O aq aH aM bN aK aT aR br bq am bw bJ gv aY ry bo fN J fy dE da av db kx aF fL
  rintro b src kind code id ttl ⟨⟨-,hb⟩,-⟩ hl
  (repeat (refine cG ?_;repeat refine cH ?_))
  by_cases c:Bj kind code id ttl
  rotate_left
  .refine ay (λ_=>bF5 c) (λh=>absurd ?_ c)
   by_cases i:lF id ttl
   .rw[f7 i] at h
    refine⟨?_,?_,i⟩ <;> simp[lY] at h <;> omega
   .simp_all
  have f:=c
  have ⟨g1,g2,g3⟩:=f
  refine ay (λh=>?_) (λ_=>⟨hl,?_⟩)
  .grind
  rintro d e ⟨rfl,rfl⟩
  refine ay (λh=>cp7 c (by simpa using h)) (λh=>?_)
  have g:fV b:=by simpa using h
  have a:=Nt (src:=src) c g
  obtain⟨-,h28,-⟩:=wz g
  rw[ag1 g,bl6]
  refine⟨Y,Y,Y,by rw[fF];omega,?_⟩
  rintro n e ⟨rfl,rfl⟩
  rw[a.2.2.1]
  have:=RP (kind,code,b.take 28)
  refine⟨Y,a.2.1.symm,?_⟩
  rw[a.1];exact a.2.2.2
theorem aq2:aB 313 a72.spec:=aG Tryz.func313 (C (C (C (C aC WM) (Ct.named Vz)) (Ct.named bN6)) Zb) aS bh0
def a08:Ct:=⟨[.val (.sl bc),.val dB,.val cI,.val cI],[.own 5 bc,.val cI],λd=>[(V d.1:Int)<=1099511627776],λd=>((md d.1 d.2.1 d.2.2.1 d.2.2.2.1,jE d.1 d.2.2.1 d.2.2.2.1,()),())⟩
def Rs(a:Z)(b:Int)(c:iM)(d e:Int)(f:Z):=fy a/\gW (lK b c.1.2.2.2.2.2.1 c.1.2.2.2.1 d e a)=md f b d e/\jB (lK b c.1.2.2.2.2.2.1 c.1.2.2.2.1 d e a)=jE f d e
def F1(a:Z)(b c d:Int):=fL (md a b c d)/\17=jE a c d
def tX(a:Prop)(b:Int)(c d:Prop):=∀(e:Int),a/\e=b->au ( !aY e) c d
theorem aQ6:
 ∀ a b c d,aM a/\aT b/\dP c d->aR a->au ( !cs7 (lF c d)) (fL (md a b c d)/\1=jE a c d) (aR a/\ ∀ e f,e=yb a/\f=cs7 (fV a)->au ( !f) (F1 a b c d) (au (gO e.1.2.2.2.1) (bV e.2/\ ∀ g h i j,tX ((g,h,i,j)=ip e.2) (lT e.2) (F1 a b c d) (fy j/\ ∀ k,uc (k=gY (cs8,h,i,j)) (oM (cs8,h,i,j)) (Rs k b e c d a))) (au (cs7 (e.1.2.2.2.1=17)) (bV e.2/\ ∀ g h i,tX ((g,h,i)=vP e.1.2.2.2.2.2.1 e.1.2.2.2.2.2.2 e.2) (mR e.1.2.2.2.2.2.1 e.1.2.2.2.2.2.2 e.2) (F1 a b c d) (aR a/\lH a b 3 3 c d=md a b c d/\jf a 3 3 c d=jE a c d)) (au (Av e) (bV e.2/\ ∀ g h,g=gG e.1.2.2.2.2.2.1 e.1.2.2.2.2.2.2 e.2/\h=lM e.1.2.2.2.2.2.1 e.1.2.2.2.2.2.2 e.2-> ∀ i,i=( !aY h)->cQ i (bN i) (bw i/\sJ (br i
 (aY (bits cw3 ct0 g.2.2.2.2.1 2))) ( !aY (bits cw3 ct0 g.2.2.2.2.1 4)) (F1 a b c d) ((↑((0:Nat)):Int)<=1000000/\ ∀ j,uc (j=io b e.1.2.2.2.2.2.1 (g.2.1,g.1,0,bits cw3 ct0 (aA g.2.2.1) 4294967295,20,fA)) (pQ (g.2.1,g.1,0,bits cw3 ct0 (aA g.2.2.1) 4294967295,20,fA)) (Rs j b e c d a)))) (F1 a b c d))))):= by
  delta O ap aq aH aM bN aK aT aR br cQ bw aY bV aA J fy fA sJ dP Rs F1 tX gO uc aF fL Av
  rintro b src id ttl ⟨⟨-,hb⟩,-⟩ y
  by_cases c:lF id ttl
  rotate_left
  .exact ay (λ_=>bS1 c) (λh=>absurd (by simpa using h) c)
  refine ay (λh=>by simp[c] at h) (λ_=>⟨y,?_⟩)
  rintro _ _ ⟨rfl,rfl⟩
  refine ay (λh=>Ja c (λk=>?_)) (λh=>?_)
  .have:=k.1;simp[this] at h
  have l:fV b:=by simpa using h
  obtain⟨u,h28,hp1,hp6,-⟩:=wz l
  have hdl:=ER u
  rw[ag1 l]
  have v:bytes (b.drop 20):=zL hb
  have hdr:V (b.drop 20)<=1480:=by rw[gR];omega
  refine ay (λf=>?_) (λf=>ay (λa=>?_) (λa=>ay (λg=>?_) (λg=>?_)))
  .have f:fw b=1:=aX f
   refine⟨by show (V (b.drop 20):Int)<=_;omega,?_⟩
   rintro r i q n e ⟨z,rfl⟩
   refine ay (λh=>?_) (λh=>?_)
   .refine Ja c (λk=>?_)
    obtain⟨-,⟨-,k⟩|⟨k,-⟩|⟨k,-⟩⟩:=k
    .simp[k] at h
    .omega
    .omega
   have h:lT (b.drop 20)=0:=by simpa using h
   have hh:=L8 (src:=src) c l f h
   have hlen:=Xq (b.drop 20)
   have A:(i,q,n)=(ip (b.drop 20)).2:=dL cJ3 z
   have e3:n=(ip (b.drop 20)).2.2.2:=by rw[← A]
   refine⟨by rw[e3];omega,?_⟩
   rintro o e ⟨rfl,rfl⟩
   rw[show ((cs8,i,q,n):rQ)=(cs8,(i,q,n)) from rfl,A]
   have j:=aV4 (cs8,(ip (b.drop 20)).2)
   refine⟨Y,?_,?_⟩
   .rw[hh.1,← f];rfl
   .rw[hh.2];exact EL c (by have:=f;unfold fw at this;simp only;omega) j
  .have f:=bg f
   have a:fw b=17:=aX a
   refine⟨by show (V (b.drop 20):Int)<=_;omega,?_⟩
   rintro sp dp n e ⟨z,rfl⟩
   refine ay (λh=>?_) (λh=>?_)
   .refine Ja c (λk=>?_)
    obtain⟨-,⟨k,-⟩|⟨-,k⟩|⟨k,-⟩⟩:=k
    .omega
    .have k:mR (cC b).2.2.2.2.2.1 (cC b).2.2.2.2.2.2 (b.drop 20)=0:=k
     simp[k] at h
    .omega
   have h:mR (dI b) (iw b) (b.drop 20)=0:=by
    have:mR (cC b).2.2.2.2.2.1 (cC b).2.2.2.2.2.2 (b.drop 20)=0:=by simpa using h
    exact this
   have hh:=LW (src:=src) c l a h
   exact⟨y,hh.1.symm,by rw[hh.2,Se c l]⟩
  .have f:=bg f
   have g:fw b=6:=aX g
   refine⟨by show (V (b.drop 20):Int)<=_;omega,?_⟩
   rintro t e ⟨m,rfl⟩
   have m:t=gG (dI b) (iw b) (b.drop 20):=m
   have hr:=X3 (s:=dI b) (d:=iw b) v
   rw[← m] at hr
   have ee:lM (cC b).2.2.2.2.2.1 (cC b).2.2.2.2.2.2 (b.drop 20)=lM (dI b) (iw b) (b.drop 20):=rfl
   rw[ee]
   (repeat (refine cG ?_;repeat refine cH ?_))
   refine ay (λh=>?_) (λh=>?_)
   .refine Ja c (λk=>?_)
    obtain⟨-,⟨k,-⟩|⟨k,-⟩|⟨-,p,w,B⟩⟩:=k
    .omega
    .omega
    .simp_all
   have p:lM (dI b) (iw b) (b.drop 20)=0:=jW λk=>by simp[k] at h
   have w:bits .and .i64 t.2.2.2.2.1 2≠0:=λk=>by simp[p,k] at h
   have B:bits .and .i64 t.2.2.2.2.1 4=0:=jW λk=>by simp[p,w,k] at h
   have hh:=Jv (src:=src) c l g p (by rw[← m];exact w) (by rw[← m];exact B)
   refine⟨aw,?_⟩
   rintro o e ⟨rfl,rfl⟩
   rw[aJ Y Y,b75]
   have j:=ci4 src (dI b) (pB t)
   refine⟨by show (V (io src (dI b) (pB t)):Int)<=_;omega,?_,?_⟩
   .rw[hh.1,← m,← g];rfl
   .rw[hh.2];exact EL c (by have:=g;unfold fw at this;simp only;omega) j
  .have f:=bg f
   have a:=bg a
   have g:=bg g
   refine Ja c (λk=>?_)
   obtain⟨-,⟨k,-⟩|⟨k,-⟩|⟨k,-⟩⟩:=k
   .exact f k
   .exact a k
   .exact g k
theorem b88:aB 285 a08.spec:=aG Tryz.func285 (C (C (C (C (C (C (C (C (C aC WM) (Ct.named Vz)) (Ct.named ah8)) (Ct.named UN)) (Ct.named b60)) (Ct.named af1)) (Ct.named Wn)) aq2) Zb) aS aQ6
def bI1:Ct:=⟨[.val (.sl bc),.val cI,.val cI],[.val cI],λd=>[(V d.1:Int)<=1099511627776],λd=>((bM d.1 d.2.1 d.2.2.1,()),())⟩
theorem bN3:
 ∀ a b c,aM a/\dP b c->aR a->aH (O a)/\bM a b c=bM a b c:= by
  delta O aq aH aM aR J dP aF
  grind
theorem aj5:aB 255 bI1.spec:=aG Tryz.func255 (C aC CL) aS bN3
def cf2:Ct:=⟨[.val (.sl bc)],[.agg tY,.val .bool],λd=>[(V d.1:Int)<=1000000],λd=>(((ox d.1).1,(ox d.1).2,()),())⟩
def I9(a:cX)(b:Int):=(a.2.2.2.2.2.2,a.2.2.2.1,ap b,a.2.1,a.2.2.1)
def MQ(a:cX)(b:Int)(c:Z)(d:Bool)(e:lZ):=(a.2.2.2.2.2.1,I9 a b)=(ox c).1/\bq d (aY (dJ (a.2.2.2.2.2.1,e)))=(ox c).2
def H9(a:Bool)(b:cX)(c:Int)(d:Z):=cB a a (aK a) (a->a) (MQ b (c -20000) d a (I9 b (c -20000)))
def T2(a:Bool)(b:Z)(c:cX)(d:Int):=au a ((a->a)/\aR (kg b)/\ ∀(e:Int),e=bM (kg b) 6 2->cB a a (aK a) (a->a) (∀(f:Bool),f=lW a e c.2.1->cB f f (aK f) (f->f) (MQ c (d -16384) b f (I9 c (d -16384))))) ((a->aK a)/\a=ct2/\(a->ct2)/\ ∀(e:Bool),e=bq a ct2->cB e e (aK e) (e->e) (MQ c (d -16384) b e (I9 c (d -16384))))
def SQ(a:Bool)(b:Z)(c:cX)(d:Int):=au a ((a->a)/\aR (kg b)/\ ∀(e:Int),e=bM (kg b) 6 2->fp a a (aK a) (a->a) (∀(f:Bool),f=lW a e (aA c.2.1)->H9 f c d b)) (cB a a (aK a) (a=ct2) ((a->ct2)/\ ∀(e:Bool),e=bq a ct2->H9 e c d b))
def Tv(a:Bool)(b:Z)(c:cX)(d:Int):=au a ((a->a)/\aR (kg b)/\ ∀(e:Int),e=bM (kg b) 4 4->cB a a (aK a) (a->a) (∀(f:Bool),f=lW a e c.2.1->H9 f c d b)) ((a->aK a)/\a=ct2/\(a->ct2)/\ ∀(e:Bool),e=bq a ct2->H9 e c d b)
def QF(a:Bool)(b:Z)(c:Int)(d:cX)(e:Int):=au a ((a->a)/\aR (kg b)/\ ∀(f:Int),f=bM (kg b) 4 2->cB a a (aK a) (a->a) (∀(g:Bool),g=lW a f (ap (c -20))->SQ g b d e)) ((a->aK a)/\a=ct2/\(a->ct2)/\ ∀(f:Bool),f=bq a ct2->SQ f b d e)
def Pe(a:Bool)(b:Z)(c:cX)(d:Int):=pK a a (aR (kg b)) (∀(e:Int),e=bM (kg b) 4 2->(a->a)/\ ∀(f:Bool),f=lW a e 21075->T2 f b c d) (a->ct2) (∀(e:Bool),e=bq a ct2->T2 e b c d)
def oz:=((0:Int),(0:Int),(0:Int),(0:Int),(0:Int),(0:Int))
def Ql(a:cX):=(a.2.2.2.2.2.1,a.2.2.2.2.2.2,a.2.2.2.1,(0:Int),a.2.1,a.2.2.1)
theorem bb9:
 ∀ a,J (aM a)->bV a->aR a/\ ∀ b c d,b=tC a/\c=sH a/\d=jh a->EY ( !aY d) (db (O a) 28) ( !aY b.1) ( !b.2.2.2.2.1) (oz=(ox a).1/\ct2=(ox a).2) (bo 20 (O a) (pR a) (au (gO b.2.2.2.1) (aR (kg a)/\ ∀ e,e=bM (kg a) 2 2-> ∀ f,f=cs7 (c=30)->pK f f (aR (kg a)) (∀ g,g=bM (kg a) 0 2->(f->f)/\ ∀ h,h=lW f g 2048->Pe h a b e) (f->ct2) (∀ g,g=bq f ct2->Pe g a b e)) (au (cs7 (b.2.2.2.1=17)) (aR (kg a)/\ ∀ e,e=bM (kg a) 0 2-> ∀ f,f=cs7 (c=30)->pK f f (aR (kg a)) (∀ g,g=bM (kg a) 2 2->(f->f)/\ ∀ h,h=lW f g 33434->QF h a c b e) (f->ct2) (∀ g,g=bq f ct2->QF g a c b e)) (au (cs7 (b.2.2.2.1=6)) (aR (kg a)/\ ∀ e,e=bM (kg a) 0 2-> ∀ f,f=cs7 (c=40)->pK f f (aR (kg a))
 (∀ g,g=bM (kg a) 2 2->(f->f)/\ ∀ h,h=lW f g 80->Tv h a b e) (f->ct2) (∀ g,g=bq f ct2->Tv g a b e)) (∀ e,e=ct2->fp e e e (Ql b=(ox a).1) (bq e (aY (dJ (Ql b)))=(ox a).2)))))):= by
  delta O ap aM bN aK H9 MQ aR cB br bq I9 T2 am kg cQ bw aY bV SQ bo lO fN aA fp J Tv QF EY Pe pK oz db gO lW aF Ql pR
  rintro b ⟨⟨-,hb⟩,-⟩ hl
  refine⟨Y,?_⟩
  rintro d n e ⟨rfl,rfl,rfl⟩
  (repeat (refine cG ?_;repeat refine cH ?_))
  refine ay (λh=>?_) (λh=>?_)
  .rw[ox,I]
   .exact⟨rfl,rfl⟩
   rintro⟨k1,k2,k3,k4⟩
   rw[tC,ao k1] at h;simp[k1,k2,k3,k4] at h
  have k1:jh b=0:=jW λk=>by simp[k] at h
  rw[tC,ao k1] at h ⊢
  have hq:HC b:=by
   simp[lY,k1] at h
   exact⟨k1,by have:=h.1.1;omega,h.1.2,h.2⟩
  clear h
  obtain⟨-,h28,-,-⟩:=id hq
  have hs:cZ b (M 20) (M (V b:Int))=b.drop 20:=Dm b 20
  have hdl:(V (b.drop 20):Int)=8:=by rw[gR];omega
  have wd:∀ i,aW (b.drop 20) i=aW b (20+i):=λi=>by unfold aW;rw[cA1]
  have g0:bM (b.drop 20) 0 2=aW b 20:=by rw[u5 Y Y,wd];rfl
  have g2:bM (b.drop 20) 2 2=aW b 22:=by rw[u5 Y Y,wd];rfl
  have g4:bM (b.drop 20) 4 2=aW b 24:=by rw[u5 Y Y,wd];rfl
  have g6:bM (b.drop 20) 6 2=aW b 26:=by rw[u5 Y Y,wd];rfl
  have g44:bM (b.drop 20) 4 4=gk ((b.drop 24).take 4):=by rw[RY Y Y,cA1];rfl
  have w20:=tu hb 20
  have w22:=tu hb 22
  have hid:=tu hb 4
  have hlen:=tu hb 2
  have eid:(cC b).2.1=aW b 4:=rfl
  rw[ox,ao hq,hs,sH,ao k1,g0,g2,g4,g6,g44]
  have le1:(V (b.drop 20):Int)<=1099511627776:=Y
  have e22:ct0.wrap (aW b 22-16384)=aW b 22-16384:=aJ Y Y
  have e20:ct0.wrap (aW b 20-20000)=aW b 20-20000:=aJ Y Y
  have e2:ct0.wrap (aW b 2-20)=aW b 2-20:=aJ Y Y
  have e1:ct0.wrap ((cC b).2.1+1)=(cC b).2.1+1:=aJ (by rw[eid];omega) (by rw[eid];omega)
  refine⟨Y,Y,Y,?_⟩
  have ep:(cC b).2.2.2.1=fw b:=rfl
  rw[ep]
  refine ay (λh1=>?_) (λh1=>ay (λh17=>?_) (λh17=>ay (λh6=>?_) (λh6=>?_)))
  .have h1:=aX h1
   have eP:vD b=((cC b).2.2.2.2.2.1,(cC b).2.2.2.2.2.2,fw b,aW b 22-16384,(cC b).2.1,(cC b).2.2.1):=by
    rw[vD,DV,ao h1];rfl
   have eR:uM b↔(aW b 2=30/\aW b 20=2048/\aW b 24=21075/\aW b 26=(cC b).2.1):=by
    unfold uM;simp[h1]
   refine⟨le1,?_⟩
   rintro _ rfl
   rw[eP,e22]
   simp only[eR]
   by_cases c1:aW b 2=30 <;> by_cases c2:aW b 20=2048 <;> by_cases c3:aW b 24=21075 <;> by_cases c4:aW b 26=(cC b).2.1 <;> simp[au,c1,c2,c3,c4,h28]
  .have h1:=bg h1
   have h17:=aX h17
   have eP:vD b=((cC b).2.2.2.2.2.1,(cC b).2.2.2.2.2.2,fw b,aW b 20-20000,(cC b).2.1,(cC b).2.2.1):=by
    rw[vD,DV,I h1,ao (.inl h17)];rfl
   have eR:uM b↔(aW b 2=30/\aW b 22=33434/\aW b 24=aW b 2-20/\aW b 26=(cC b).2.1+1):=by
    unfold uM;simp[h17]
   refine⟨le1,?_⟩
   rintro _ rfl
   rw[eP,e20]
   simp only[eR]
   by_cases c1:aW b 2=30 <;> by_cases c2:aW b 22=33434 <;> by_cases c3:aW b 24=10 <;> by_cases c4:aW b 26=(cC b).2.1+1 <;> simp[au,c1,c2,c3,c4,h28,e1,e2,show ct0.wrap 10=10 from rfl]
  .have h1:=bg h1
   have h17:=bg h17
   have h6:=aX h6
   have eP:vD b=((cC b).2.2.2.2.2.1,(cC b).2.2.2.2.2.2,fw b,aW b 20-20000,(cC b).2.1,(cC b).2.2.1):=by
    rw[vD,DV,I h1,ao (.inr h6)];rfl
   have eR:uM b↔(aW b 2=40/\aW b 22=80/\gk ((b.drop 24).take 4)=(cC b).2.1):=by
    unfold uM;simp[h6]
   refine⟨le1,?_⟩
   rintro _ rfl
   rw[eP,e20]
   simp only[eR]
   by_cases c1:aW b 2=40 <;> by_cases c2:aW b 22=80 <;> by_cases c3:gk ((b.drop 24).take 4)=(cC b).2.1 <;> simp[au,c1,c2,c3,h28]
  .have h1:=bg h1
   have h17:=bg h17
   have h6:=bg h6
   have eP:vD b=((cC b).2.2.2.2.2.1,(cC b).2.2.2.2.2.2,fw b,0,(cC b).2.1,(cC b).2.2.1):=by
    rw[vD,DV,I h1,I Y];rfl
   have eR:¬ uM b:=by
    unfold uM;simp[h1,h17,h6]
   rw[eP]
   simp[eR]
theorem bn5:aB 257 cf2.spec:=aG Tryz.func257 (C (C (C aC (Ct.named ZD)) (Ct.named aj5)) Ks) aS bb9
def bj4:Ct:=⟨[.agg qh,.val (.sl bc)],[.agg tY,.agg Gm,.val .bool],λd=>[(V d.2.1:Int)<=1000000],λd=>(((uC d.1.2.2.2.2.2.2 d.2.1).1,(uC d.1.2.2.2.2.2.2 d.2.1).2.1,(uC d.1.2.2.2.2.2.2 d.2.1).2.2,()),())⟩
def uP(a:cX)(b:Z):=uC a.2.2.2.2.2.2 b
def KO(a:Bool)(b c:Prop)(d:Int)(e:cX)(f:Bool):=∀(g:Bool),g=a->fp g g (dE g) (g->g) (b/\c/\lW g d e.2.2.2.2.2.2=f)
theorem ar8:
 ∀ a b,CT.wf qh a/\J (aM b)->bV b->bV b/\ ∀ c d e,tX ((c,d,e)=nj b) (nQ b) (oz=(uP a b).1/\oz=(uP a b).2.1/\ct2=(uP a b).2.2) (bV e/\ ∀ f g h i j k l,(f,g,h,i,j,k)=(ox e).1/\l=(ox e).2->au (cs7 (c=11)) (KO l ((f,g,h,i,j,0)=(uP a b).1) ((0,1,d,0,0,k)=(uP a b).2.1) f a (uP a b).2.2) (au (cs7 (d=3)) (KO l ((f,g,h,i,j,0)=(uP a b).1) ((0,3,d,0,0,k)=(uP a b).2.1) f a (uP a b).2.2) (KO l ((f,g,h,i,j,0)=(uP a b).1) ((0,5,d,0,0,k)=(uP a b).2.1) f a (uP a b).2.2))):= by
  delta O aM aK cB bq aY bV fp J dE oz tX uP lW KO aF
  rintro h b ⟨-,⟨-,hb⟩,-⟩ hl
  refine⟨hl,?_⟩
  rintro ty code q e ⟨g,rfl⟩
  refine ay (λc=>?_) (λc=>?_)
  .have c:¬ nQ b=0:=by simpa using c
   rw[uC,I c];exact⟨rfl,rfl,rfl⟩
  have c:nQ b=0:=by simpa using c
  have a:=bj1 b
  rw[uC,ao c,← g]
  rw[← g] at a
  refine⟨by simp only at a;omega,?_⟩
  rintro s d p f t l ok ⟨hp,rfl⟩
  rw[← hp]
  simp only[wc,xN]
  refine ay (λh1=>?_) (λh1=>ay (λh3=>?_) (λh3=>?_))
  .simp_all
  .simp_all
  .simp_all
theorem ci3:aB 208 bj4.spec:=aG Tryz.func208 (C (C aC (Ct.named aM8)) (Ct.named bn5)) aS ar8
def aO6:Ct:=⟨[.agg qh,.val (.sl bc)],[.agg tY,.agg Gm,.val .bool],λd=>[(V d.2.1:Int)<=1000000],λd=>(((wT d.1.2.2.2.2.2.1 d.1.2.2.2.2.2.2 d.2.1).1,(wT d.1.2.2.2.2.2.1 d.1.2.2.2.2.2.2 d.2.1).2.1,(wT d.1.2.2.2.2.2.1 d.1.2.2.2.2.2.2 d.2.1).2.2,()),())⟩
def Dj(a:cX)(b:Z):=wT a.2.2.2.2.2.1 a.2.2.2.2.2.2 b
theorem az3:
 ∀ a b,CT.wf qh a/\J (aM b)->bV b->bV b/\ ∀ c d e f g,(c,d,e,f)=ip b/\g=lT b-> ∀ h,h=( !aY g)->cQ h (bw h) (∀ i,i=br h ( !c)->cQ i (bw i) (sJ (br i (db d 21075)) (db (O f) 2) (oz=(Dj a b).1/\oz=(Dj a b).2.1/\ct2=(Dj a b).2.2) (aR b/\ ∀ j,j=bM b 2 2->(a.2.2.2.2.2.2,a.2.2.2.2.2.1,1,ap (j -18432),e,0)=(Dj a b).1/\(0,2,0,0,0,0)=(Dj a b).2.1/\cs8=(Dj a b).2.2))):= by
  delta O ap aM bN aK aR br cQ bw aY bV J sJ oz Dj db aF
  rintro h b ⟨-,⟨-,hb⟩,-⟩ hl
  refine⟨hl,?_⟩
  rintro r i q dt e ⟨c,rfl⟩
  (repeat (intro (b_:Bool) (a:b_=_);(repeat refine⟨(by first|(simp +contextual;done)|(rw[a];omega)),?_⟩)));subst_vars
  refine ay (λk=>?_) (λk=>?_)
  .rw[wT,I]
   .exact⟨rfl,rfl,rfl⟩
   .rintro⟨k1,k2,k3,k4⟩
    grind
  .have f:Jf b:=by
    simp[lY] at k
    refine⟨k.1.1.1,?_,?_,?_⟩ <;> rw[← c] <;> simp only
    .exact k.1.1.2
    .exact k.1.2
    .omega
   have h8:=(bR9 f.1).1
   have hw:=tu hb 2
   refine⟨Y,?_⟩
   rintro _ rfl
   rw[u5 Y Y,show M 2=2 from rfl,aJ Y Y,wT,ao f,← c]
   exact⟨rfl,rfl,rfl⟩
theorem bi7:aB 207 aO6.spec:=aG Tryz.func207 (C (C aC (Ct.named ah8)) (Ct.named aj5)) aS az3
def aw3:Ct:=⟨[.agg qh,.val (.sl bc)],[.agg tY,.agg Gm,.val .bool],λd=>[(V d.2.1:Int)<=1000000],λd=>(((wW d.1.2.2.2.2.2.1 d.1.2.2.2.2.2.2 d.2.1).1,(wW d.1.2.2.2.2.2.1 d.1.2.2.2.2.2.2 d.2.1).2.1,(wW d.1.2.2.2.2.2.1 d.1.2.2.2.2.2.2 d.2.1).2.2,()),())⟩
def CV(a:cX)(b:Z):=wW a.2.2.2.2.2.1 a.2.2.2.2.2.2 b
theorem aW2:
 ∀ a b,CT.wf qh a/\J (aM b)->bV b->bV b/\ ∀ c d,c=gG a.2.2.2.2.2.1 a.2.2.2.2.2.2 b/\d=lM a.2.2.2.2.2.1 a.2.2.2.2.2.2 b-> ∀ e,e=( !aY d)->cQ e (bw e) (∀ f,f=br e (db c.1 80)->cQ f (bw f) (∀ g,g=br f ( !aY c.2.2.1)->cQ g (bw g) (∀ h,h=br g (db c.2.2.2.2.1 20)->cQ h (bw h) (sJ (br h ( !aY c.2.2.2.2.2.1)) (av 0 (O c.2.2.2.2.2.2)) (oz=(CV a b).1/\oz=(CV a b).2.1/\ct2=(CV a b).2.2) ((a.2.2.2.2.2.2,a.2.2.2.2.2.1,6,ap (c.2.1 -20000),ap (c.2.2.2.1 -1),0)=(CV a b).1/\(0,4,0,0,0,0)=(CV a b).2.1/\cs8=(CV a b).2.2))))):= by
  delta O ap aM bN aK br cQ bw aY bV J sJ av oz CV db aF
  rintro h b ⟨-,⟨-,hb⟩,-⟩ hl
  refine⟨hl,?_⟩
  rintro t e ⟨ht,rfl⟩
  (repeat (intro (b_:Bool) (a:b_=_);(repeat refine⟨(by first|(simp +contextual;done)|(rw[a];omega)),?_⟩)));subst_vars
  refine ay (λk=>?_) (λk=>?_)
  .rw[wW,I]
   .exact⟨rfl,rfl,rfl⟩
   .rintro⟨k1,k2,k3,k4,k5,k6⟩
    simp_all
  .have hg:Ji h.2.2.2.2.2.1 h.2.2.2.2.2.2 b:=by
    simp[lY] at k
    exact⟨k.1.1.1.1.1,k.1.1.1.1.2,k.1.1.1.2,k.1.1.2,k.1.2,k.2⟩
   have hr:=X3 (s:=h.2.2.2.2.2.1) (d:=h.2.2.2.2.2.2) hb
   rw[aJ Y Y,aJ Y Y,wW,ao hg]
   exact⟨rfl,rfl,rfl⟩
theorem cp4:aB 209 aw3.spec:=aG Tryz.func209 (C aC (Ct.named af1)) aS aW2
def bq2:Ct:=⟨[.val (.sl bc)],[.agg tY,.agg Gm,.val cI],λd=>[(V d.1:Int)<=1000000],λd=>(((gu d.1).1,(gu d.1).2,rH d.1,()),())⟩
def Gg(a:Z):=oz=(gu a).1/\oz=(gu a).2/\17=rH a
def OO(a:iM)(b c d:Int)(e:Z):=(a.1.2.2.2.2.2.1,b,c,a.1.2.2.1,a.1.2.1,d)=(gu e).2/\0=rH e
def Ls(a:iM)(b:bu)(c:oI)(d:Bool)(e:Prop)(f:bu)(g:Z):=bV a.2/\ ∀(h i j k l m n o p q r s:Int)(t:Bool),(h,i,j,k,l,m)=b/\(n,o,p,q,r,s)=c/\t=d->lO ( !t) ( !aY (dJ (h,i,j,k,l,1))) e ((h,i,j,k,l,m)=f/\OO a o p s g)
def KF(a:iM):=wT a.1.2.2.2.2.2.1 a.1.2.2.2.2.2.2 a.2
def Lq(a:iM):=wW a.1.2.2.2.2.2.1 a.1.2.2.2.2.2.2 a.2
theorem bN2:
 ∀ a,J (aM a)->bV a->aR a/\ ∀ b,tX (b=cN a) (eO a) (Gg a) (∀ c,c=gO b.1.2.2.2.1->fp c c (aK c) (c->c) (∀ d,d=bq c (av 0 (O b.2))->cB d d (um d (O b.2)) (d->aK d) ((d->aK d)/\(d->d)/\au (bq d (aY (N b.2 0))) (Ls b (KF b).1 (KF b).2.1 (KF b).2.2 (Gg a) (gu a).1 a) (au (gO b.1.2.2.2.1) (Ls b (uC b.1.2.2.2.2.2.2 b.2).1 (uC b.1.2.2.2.2.2.2 b.2).2.1 (uC b.1.2.2.2.2.2.2 b.2).2.2 (Gg a) (gu a).1 a) (au (Av b) (Ls b (Lq b).1 (Lq b).2.1 (Lq b).2.2 (Gg a) (gu a).1 a) (lO ( !ct2) ( !cs7 (dJ (0,0,0,0,0,1)=0)) (Gg a) (oz=(gu a).1/\OO b 0 0 0 a))))))):= by
  delta N O aM bN aK aR cB br bq am cQ bw aY bV lO fp J Gg av oz tX OO gO um Ls KF Lq aF Av
  rintro b ⟨⟨-,hb⟩,-⟩ hl
  refine⟨Y,?_⟩
  rintro d e ⟨rfl,rfl⟩
  have A:¬ Eg b->((0,0,0,0,0,0):bu)=(gu b).1/\((0,0,0,0,0,0):oI)=(gu b).2/\(17:Int)=rH b:=λk=>by
   rw[gu,rH,I k,I k];exact⟨rfl,rfl,rfl⟩
  refine ay (λh=>A (λk=>?_)) (λh=>?_)
  .simp[k.1] at h
  have h:eO b=0:=by simpa using h
  rw[cN,ao h]
  have v:(V (b.drop 20):Int)<=1000000:=by rw[gR];omega
  have S:(cC b).2.2.2.1=fw b:=rfl
  have D:(cC b).2.2.2.2.2.1=dI b:=rfl
  have E:(cC b).2.2.2.2.2.2=iw b:=rfl
  simp only[S,D,E]
  have m:∀ r,r=kF b→∀(a c f i j n s o p t u q:Int)(ok:Bool),(a,c,f,i,j,n)=r.1/\(s,o,p,t,u,q)=r.2.1/\ok=r.2.2 →
    au (bif !ok then cs8 else !cs7 (dJ (a,c,f,i,j,1)=0)) (((0,0,0,0,0,0):bu)=(gu b).1/\((0,0,0,0,0,0):oI)=(gu b).2/\(17:Int)=rH b)
     (((a,c,f,i,j,n):bu)=(gu b).1/\((dI b,o,p,(cC b).2.2.1,(cC b).2.1,q):oI)=(gu b).2/\(0:Int)=rH b):=by
   rintro r rfl a c f i j n s o p t u q ok ⟨hp,ha,rfl⟩
   have F:wc (kF b).1 1=(a,c,f,i,j,1):=by rw[← hp];rfl
   refine ay (λk=>A (λg=>?_)) (λk=>?_)
   .have G:=g.2.2
    rw[F] at G
    simp[g.2.1,G] at k
   .have g:Eg b:=by
     simp[lY] at k
     exact⟨h,k.1,by rw[F];exact k.2⟩
    rw[gu,rH,ao g,ao g]
    grind
  (repeat (refine cG ?_;repeat refine cH ?_))
  refine ay (λB=>?_) (λB=>?_)
  .have c3:=jW λk=>by
    have k:¬ T (b.drop 20) (M 0) cs5=0:=k
    rw[gH k] at B;simp at B
   simp[lY] at B
   have w:wT (dI b) (iw b) (b.drop 20)=kF b:=by
    rw[kF,ao]
    grind
   refine⟨v,?_⟩
   rintro a c f i j n s o p t u q ok hh
   have:=m _ w a c f i j n s o p t u q ok hh
   (repeat (refine cG ?_;repeat refine cH ?_))
   exact this
  have y:¬ (fw b=1/\0<V (b.drop 20)/\T (b.drop 20) 0 cs5=0):=by
   grind
  refine ay (λl=>?_) (λl=>ay (λz=>?_) (λz=>?_))
  .have l:=aX l
   have w:uC (iw b) (b.drop 20)=kF b:=by
    rw[kF,I y,ao l]
   refine⟨v,?_⟩
   rintro a c f i j n s o p t u q ok hh
   have:=m _ w a c f i j n s o p t u q ok hh
   (repeat (refine cG ?_;repeat refine cH ?_))
   exact this
  .have l:=bg l
   have z:=aX z
   have w:wW (dI b) (iw b) (b.drop 20)=kF b:=by
    rw[kF,I y,I l,ao z]
   refine⟨v,?_⟩
   rintro a c f i j n s o p t u q ok hh
   have:=m _ w a c f i j n s o p t u q ok hh
   (repeat (refine cG ?_;repeat refine cH ?_))
   exact this
  .have l:=bg l
   have z:=bg z
   have w:EZ=kF b:=by rw[kF,I y,I l,I z]
   have:=m _ w 0 0 0 0 0 0 0 0 0 0 0 0 ct2 ⟨rfl,rfl,rfl⟩
   (repeat (refine cG ?_;repeat refine cH ?_))
   exact this
theorem br5:aB 141 bq2.spec:=aG Tryz.func141 (C (C (C (C (C aC (Ct.named G4)) (Ct.named bi7)) (Ct.named ci3)) (Ct.named cp4)) Ks) aS bN2
abbrev sP:CT := .pair tY (.pair cI (.pair cI (.pair .bool (.pair .bool (.pair cI Gm)))))
abbrev j9:CT := .pair cI (.pair cI (.pair cI (.pair cI (.pair dB (.pair cI (.pair cI (.pair cI (.pair .bool (.pair .bool (.pair cI Gm))))))))))
abbrev ky:CT := .pair cI (.pair cI (.pair cI (.pair dB (.pair cI (.pair (.sl sP) (.sl j9))))))
abbrev dF:Type:=bu×Int×Int×Bool×Bool×Int×oI
abbrev bv:Type:=Int×Int×Int×Int×Int×Int×Int×Int×Bool×Bool×Int×oI
abbrev bS:Type:=Int×Int×Int×Int×Int×List dF×List bv
def bj9:bS:=(0,0,0,0,0,[],[])
def Mc(v:bS):Int:=v.2.2.2.1
def vT(v:bS):Int:=v.2.2.2.2.1
def vW(v:bS):List dF:=v.2.2.2.2.2.1
def vR(v:bS):List bv:=v.2.2.2.2.2.2
def lL(x:dF):Int:=x.2.2.1
def nY(v:bS)(x:dF):bv:=(v.1,v.2.1,x.2.1,x.2.2.1,x.1.2.1,x.1.2.2.1,x.1.2.2.2.1,x.1.2.2.2.2.2,x.2.2.2.1,x.2.2.2.2.1,if x.2.2.2.1 then x.2.2.2.2.2.1 else ct0.wrap (x.2.2.1+v.2.2.2.2.1),x.2.2.2.2.2.2)
def oW(t at':Int)(x:dF):Bool:=cs7 (ct0.wrap (x.2.2.1+t)<=at')
def OF(v:bS)(w:List dF)(r:List bv):bS:=(v.1,v.2.1,v.2.2.1,v.2.2.2.1,v.2.2.2.2.1,w,r)
def EM(v:bS)(o:dF->Bool):bS:=OF v ((vW v).filter λx => !o x) (vR v++((vW v).filter o).map (nY v))
def i9(v:bS)(at':Int):bS:=EM v (oW (vT v) at')
def yu(v:bS):bS:=EM v (λ_=>cs8)
def Ee(id run t:Int):Prop:=(0<=id/\id<16)/\(0<=run/\run<64)/\1<=t/\t<=1073741824
instance (i r t:Int):Decidable (Ee i r t):=by unfold Ee;infer_instance
def pZ(id run a t:Int):Int:=if ¬ Ee id run t then 1 else if ¬ gm a then 10 else 0
def td(id run a t:Int):bS:=if pZ id run a t=0 then (id,run,0,a,t,[],[]) else bj9
def AW(run n:Int):Int:=ct0.wrap (ct0.wrap (run*1000)+n)
def xJ(v:bS)(dst proto flow ttl tag:Int):bu:=(Mc v,dst,proto,flow,tag,ttl)
def oV(v:bS)(at' dst proto flow ttl:Int):Int :=
 if dJ (xJ v dst proto flow ttl 0)≠0 then dJ (xJ v dst proto flow ttl 0) else if ¬ gm dst then 10
 else if 1000<=v.2.2.1∨256<=V (vW (i9 v at')) then 5 else dJ (xJ v dst proto flow ttl (AW v.2.1 v.2.2.1))
def W0(v:bS)(x:dF):bS:=(v.1,v.2.1,v.2.2.1+1,v.2.2.2.1,v.2.2.2.2.1,vW v++[x],vR v)
def nL(v:bS)(at' dst proto flow ttl:Int):bS :=
 if oV v at' dst proto flow ttl=0 then W0 (i9 v at') (xJ v dst proto flow ttl (AW v.2.1 v.2.2.1),v.2.2.1,at',ct2,ct2,0,Bh) else v
def uW(v:bS)(at' dst proto flow ttl:Int):Z:=if oV v at' dst proto flow ttl=0 then build (xJ v dst proto flow ttl (AW v.2.1 v.2.2.1)) else []
def wu(p:bu)(x:dF):Bool:=cs7 (wc x.1 p.2.2.2.2.2=p)
def nS(at':Int)(a:oI)(x:dF):dF :=
 if x.2.2.2.1=ct2 then (x.1,x.2.1,x.2.2.1,cs8,x.2.2.2.2.1,at',a) else if x.2.2.2.2.2.2≠a then (x.1,x.2.1,x.2.2.1,x.2.2.2.1,cs8,x.2.2.2.2.2.1,x.2.2.2.2.2.2) else x
def zY(w:bS)(p:bu):Nat:=(vW w).findIdx (wu p)
def qX(v:bS)(at':Int)(b:Z):Int :=
 if rH b≠0∨(gu b).1.1≠Mc v then 17 else if zY (i9 v at') (gu b).1<V (vW (i9 v at')) then 0 else 8
def nF(v:bS)(at':Int)(b:Z):bS :=
 if qX v at' b=0 then OF (i9 v at') ((vW (i9 v at')).set (zY (i9 v at') (gu b).1) (nS at' (gu b).2 (T (vW (i9 v at')) (zY (i9 v at') (gu b).1) cs5))) (vR (i9 v at')) else i9 v at'
theorem ZH{α:Type}(o):∀(l:List α),(∀ i j (d:j<V l) (h:i<=j),o l[j]=cs8->o (l[i]'Y)=cs8)→∃ k,k<=V l/\l.filter o=l.take k/\(l.filter λx => !o x)=l.drop k/\(∀ i (b:i<V l),k<=i->o l[i]=ct2)
 | [],_=>⟨0,aw,rfl,rfl,λi b=>by simp at b⟩
 | a::l,h=>by
  cases e:o a with
  | true =>
   obtain⟨k,k0,k1,k2,k3⟩:=ZH o l (λi j d hij hh=>by
    have:=h (i+1) (j+1) (by simpa using d) Y (by simpa using hh);simpa using this)
   refine⟨k+1,by simpa using k0,by simp[e,k1],by simp[e,k2],λi b hki=>?_⟩;grind
  | false =>
   have c:∀ i (b:i<V (a::l)),o (a::l)[i]=false:=λi b=>by
    cases hh:o (a::l)[i] with
    | false=>rfl
    | true =>
     have:=h 0 i b Y hh;simp_all
   have allm:∀ x∈a::l,o x=false:=λx hx=>by
    obtain⟨i,b,rfl⟩:=cv8.1 hx;exact c i b
   refine⟨0,Y,?_,?_,λi b _=>c i b⟩
   .simp_all
   .simp_all
theorem N4 [Inhabited α] {l} {k:Int} (h0:0<=k) (h1:k<V l) (o:α->Bool) :
  (l.take (M (k+1))).filter o=(l.take (M k)).filter o++(if o (T l (M k) cs5)=cs8 then [T l (M k) cs5] else []):=by
 rw[nq h0 h1,Bl]
 grind
structure kZ (v:bS) (L:List dF) (m:Nat) (at':Int):Prop where
 w:vW v=L.drop m
 r:vR v=(L.take m).map (nY v)
 m:m<=V L
 next:v.2.2.1=V L
 t:1<=vT v/\vT v<=1073741824
 now:0<=at'∧at'<=1000000000
 at0:∀ x∈L,0<=lL x/\lL x<=at'
 srt:∀ i j (hj:j<V L) (h:i<=j),lL (L[i]'(by omega))<=lL L[j]
 num:∀ i (hi:i<V L),L[i].2.1=i
 back:∀ x∈L,(x.2.2.2.1=cs8->lL x<=x.2.2.2.2.2.1/\x.2.2.2.2.2.1<lL x+vT v)
variable{at':Int}
theorem ap4{x}(ht:1<=t/\t<=1073741824)(hx:0<=lL x/\lL x<=1000000000):oW t at' x=cs7 (lL x+t<=at'):=by
 unfold oW lL at *
 rw[aJ Y Y]
variable{v:bS}
theorem Q2{a}(h1:a.1=v.1)(h2:a.2.1=v.2.1)(h3:vT a=vT v)(x):nY a x=nY v x:=by
 unfold nY vT at *;rw[h1,h2,h3]
variable{a:Int}{L:List dF}{m:Nat}
theorem kZ.expire(h:kZ v L m at')(h2:at'<=a)(h3:a<=1000000000) :
  ∃ d,kZ (i9 v a) L d a∧∀ i (hi:i<V L),d<=i->a<lL L[i]+vT v:=by
 have hm:=h.m
 have b:∀ x∈L,0<=lL x/\lL x<=1000000000:=λx c=>by have:=h.at0 x c;omega
 have ⟨k,k0,k1,k2,k3⟩:=ZH (oW (vT v) a) (L.drop m) (λi j hj hij hh=>by
  simp at hj;rw[cK2] at hh ⊢;rw[ap4 h.t (b _ (cv2 _))] at hh ⊢;have:=h.srt (m+i) (m+j) Y Y;have:=aX hh;exact f7 Y)
 simp at k0
 refine⟨m+k,⟨?_,?_,Y,h.next,h.t,⟨by have:=h.now;omega,h3⟩,λx c=>by have:=h.at0 x c;omega,h.srt,h.num,h.back⟩,?_⟩
 .show (vW v).filter _=_;rw[h.w,k2,cA1]
 .show vR v++((vW v).filter _).map (nY v)=_;rw[h.r,h.w,k1,← kV];have:L.take (m+k)=L.take m++(L.drop m).take k:=by rw[List.take_add]
  rw[this];exact cE4 λx _=>(Q2 rfl rfl rfl x).symm
 .intro i hi hmi;have:=k3 (i-m) (by simp;omega) Y;rw[cK2,ap4 h.t (b _ (cv2 _))] at this;grind
theorem kZ.finish(h:kZ v L m at'):vW (yu v)=[]/\vR (yu v)=L.map (nY v):=by
 constructor
 .show (vW v).filter (λx => !cs8)=[]
  simp
 .show vR v++((vW v).filter λ_=>cs8).map (nY v)=_;rw[h.r,h.w,cx3.2 (λ_ _=>rfl),← kV,mj]
theorem kZ.later(h:kZ v L m at')(h2:at'<=a)(h3:a<=1000000000):kZ v L m a :=
 ⟨h.w,h.r,h.m,h.next,h.t,⟨by have:=h.now;omega,h3⟩,λx hx=>by have:=h.at0 x hx;omega,h.srt,h.num,h.back⟩
def VB(L L':List dF):Prop:=V L'=V L∧∀ i (h:i<V L) (h':i<V L'),L'[i].1=L[i].1/\lL L'[i]=lL L[i]
theorem bO0(L):VB L L:=⟨rfl,λi h h'=>⟨rfl,rfl⟩⟩
theorem Vq(at')(a)(x):(nS at' a x).1=x.1/\lL (nS at' a x)=lL x/\(nS at' a x).2.1=x.2.1:=by
 unfold nS lL;split
 .exact⟨rfl,rfl,rfl⟩
 .grind
theorem aS2{a x}(h0:lL x<=at')(h1:at'<lL x+t)(h:x.2.2.2.1=cs8->lL x<=x.2.2.2.2.2.1/\x.2.2.2.2.2.1<lL x+t) :
  (nS at' a x).2.2.2.1=cs8->lL (nS at' a x)<=(nS at' a x).2.2.2.2.2.1/\(nS at' a x).2.2.2.2.2.1<lL (nS at' a x)+t:=by
 rw[(Vq at' a x).2.1]
 unfold nS
 grind
variable{a:Int}
theorem kZ.recv(h:kZ v L m at')(h2:at'<=a)(h3:a<=1000000000) :
  ∃ u c,kZ (nF v a b) u c a/\VB L u:=by
 have ⟨c,d,p⟩:=h.expire h2 h3
 unfold nF
 split
 next q=>
  have g:zY (i9 v a) (gu b).1<V (vW (i9 v a)):=by
   unfold qX at q;grind
  have y:vT (i9 v a)=vT v:=rfl;generalize zY (i9 v a) (gu b).1=i at g ⊢;generalize i9 v a=w at d g y ⊢;rw[d.w] at g ⊢;simp at g;have l:T (L.drop c) i cs5=L[c+i]:=by
   simp_all
  rw[l];have z:=Vq a (gu b).2 L[c+i];have f:∀ j (o:j<V L),(L.set (c+i) (nS a (gu b).2 L[c+i]))[j]'(by rw[f5];exact o)=if c+i=j then nS a (gu b).2 L[c+i] else L[j]:=λj o=>List.getElem_set _;refine⟨L.set (c+i) (nS a (gu b).2 L[c+i]),c,⟨?_,?_,by rw[f5];exact d.m,by rw[f5];exact d.next,d.t,d.now,?_,?_,?_,?_⟩,?_⟩
  .show (L.drop c).set i _=_;rw[List.drop_set,I Y];congr 1;omega
  .show vR w=_;rw[d.r,List.take_set_of_le Y];exact cE4 λx _=>Q2 rfl rfl rfl x
  .intro x l;obtain l|rfl:=AL l
   .exact d.at0 x l
   .rw[z.2.1];exact d.at0 _ (cv2 _)
  .intro j k hk hjk;rw[f5] at hk;have e:∀ n (s:n<V L),lL ((L.set (c+i) (nS a (gu b).2 L[c+i]))[n]'(by rw[f5];exact s))=lL L[n]:=λn s=>by
    rw[f n s];split
    .simp_all
    .rfl
   rw[e j Y,e k hk];exact d.srt j k hk hjk
  .intro j o;rw[f5] at o;rw[f j o];split
   next e=>subst e;rw[z.2.2];exact d.num _ o
   .exact d.num j o
  .intro x l;obtain l|rfl:=AL l
   .exact d.back x l
   .have ht:vT (OF w ((L.drop c).set i (nS a (gu b).2 L[c+i])) (vR w))=vT w:=rfl;rw[ht];have ho:=p (c+i) Y Y;have q:=d.at0 _ (cv2 (show c+i<V L by omega));have A:=d.back _ (cv2 (show c+i<V L by omega));rw[y] at A ⊢;exact aS2 q.2 ho A
  .refine⟨by rw[f5],λj o hj'=>?_⟩;rw[f j o];split
   .simp_all
   .exact⟨rfl,rfl⟩
 .exact⟨L,c,d,bO0 L⟩
theorem kZ.add(h:kZ v L m at'){p} :
  kZ (W0 v (p,v.2.2.1,at',ct2,ct2,0,Bh)) (L++[(p,v.2.2.1,at',ct2,ct2,0,Bh)]) m at':=by
 have d:=h.m
 have b:V (L++[(p,v.2.2.1,at',ct2,ct2,0,Bh)])=V L+1:=aw
 refine⟨?_,?_,Y,?_,h.t,h.now,?_,?_,?_,?_⟩
 .show vW v++_=_;rw[h.w,List.drop_append_of_le_length d]
 .show vR v=_;rw[h.r,cK8 d];exact cE4 λx _=>Q2 rfl rfl rfl x
 .rw[b];show v.2.2.1+1=_;rw[h.next];omega
 .intro x a;obtain a|a:=dX.1 a
  .exact h.at0 x a
  .simp at a;subst a;exact⟨h.now.1,fJ _⟩
 .intro i j hj hij;by_cases c:j<V L
  .rw[cB7 c,cB7 Y];exact h.srt i j c hij
  .have e:j=V L:=Y;subst e;simp;by_cases h2:i<V L
   .rw[cB7 h2];exact (h.at0 _ (cv2 _)).2
   .simp_all
 .intro i hi;by_cases c:i<V L
  .rw[cB7 c];exact h.num i c
  .have e:i=V L:=Y;subst e;rw[List.getElem_append_right Y];simp;exact h.next
 .intro x a;obtain a|a:=dX.1 a
  .exact h.back x a
  .simp_all
abbrev J4:OT := .pair cI (.pair cI (.pair cI (.pair dB (.pair cI (.pair (.row 182 sP) (.row 84 j9))))))
def nM(v:bS):Prop:=(V (vW v):Int)<=100000/\(V (vR v):Int)<=100000
def aM5:Ct:=⟨[.val dB],[.val .bool],λd=>[],λd=>((cs7 (gm d.1),()),())⟩
def NH:=∀(a:Int),dN (aT a) (∀(b:Bool),b=aY (jy a)->bN b/\bw b/\br b (cs7 (jy a=3))=cs7 (gm a))
theorem aA8:
 NH:= by
 delta bN aK aT br bw aY J dN NH aF
 unfold gm
 grind
theorem Xk:aB 60 aM5.spec:=aG Tryz.func60 (C aC KJ) aS aA8
def aG0:Ct:=⟨[.val cI,.val cI,.val dB,.val cI],[.agg ky,.val cI],λd=>[],λd=>((td d.1 d.2.1 d.2.2.1 d.2.2.2.1,pZ d.1 d.2.1 d.2.2.1 d.2.2.2.1,()),())⟩
def Le(a b c d:Int):=au ( !cs7 (gm a)) ((0,0,0,0,0,[],[])=td b c a d/\10=pZ b c a d) ((b,c,0,a,d,[],[])=td b c a d/\0=pZ b c a d)
def N2(a b c d:Int):=(0,0,0,0,0,[],[])=td a b c d/\1=pZ a b c d
theorem bO3:
 ∀ a b c d,bJ a b (aT c) (J (aq d))->True-> ∀ e,e=da a->kx e (br e (cs7 (16<=a))) (au (br e (cs7 (16<=a))) (N2 a b c d) (Le c a b d)) (∀ f,f=da b->kx f (br f (cs7 (64<=b))) (au (br f (cs7 (64<=b))) (N2 a b c d) (Le c a b d)) (nG (av d 1) (av 1073741824 d) (N2 a b c d) (Le c a b d))):= by
  delta aq aH bN aK aT br bw bJ J Le nG da av N2 kx aF
  intro x x_1 x_2 x_3 _ _
  have bad:pZ x x_1 x_2 x_3≠0->((0,0,0,0,0,[],[]):bS)=td x x_1 x_2 x_3:=λh=>by rw[td,I h];rfl
  have l:¬ Ee x x_1 x_3->((0,0,0,0,0,[],[]):bS)=td x x_1 x_2 x_3/\(1:Int)=pZ x x_1 x_2 x_3:=λh=>by
   have e:pZ x x_1 x_2 x_3=1:=by rw[pZ,ao h]
   simp_all
  have b2:Ee x x_1 x_3→¬ gm x_2->((0,0,0,0,0,[],[]):bS)=td x x_1 x_2 x_3/\(10:Int)=pZ x x_1 x_2 x_3:=λh k=>by
   have e:pZ x x_1 x_2 x_3=10:=by rw[pZ,I (λq=>q h),ao k]
   simp_all
  have b3:Ee x x_1 x_3->gm x_2->((x,x_1,0,x_2,x_3,[],[]):bS)=td x x_1 x_2 x_3/\(0:Int)=pZ x x_1 x_2 x_3:=λh k=>by
   have e:pZ x x_1 x_2 x_3=0:=by rw[pZ,I (λq=>q h),I (λq=>q k)]
   exact⟨by rw[td,ao e],e.symm⟩
  have c:∀{a b:Bool}{y n:Prop},((a=cs8∨b=cs8)->y)->(a=ct2->b=ct2->n)->au (bif a then cs8 else b) y n:=λ{a b y n} hy hn=>by
   cases a <;> cases b <;> simp_all[au]
  (repeat (intro (f:Bool) (d:f=_);(repeat refine⟨(by first|(simp;done)),?_⟩);subst d))
  refine c (λg=>?_) (λg o=>?_)
  .refine c (λ_=>l (λq=>?_)) (λk1 k2=>?_)
   .have ⟨p,r,s⟩:=q;simp at g;omega
   .simp_all
  (repeat (intro (f:Bool) (d:f=_);(repeat refine⟨(by first|(simp;done)),?_⟩);subst d))
  refine c (λi=>?_) (λi t=>?_)
  .refine c (λ_=>l (λq=>?_)) (λk1 k2=>?_)
   .have ⟨p,r,s⟩:=q;simp at i;omega
   .simp_all
  (repeat (intro (f:Bool) (d:f=_);(repeat refine⟨(by first|(simp;done)),?_⟩);subst d))
  refine c (λj=>l (λq=>?_)) (λj u=>?_)
  .have ⟨p,r,s⟩:=q;simp at j;omega
  .have v:Ee x x_1 x_3:=by
    simp at g o i t j u
    exact⟨⟨g,o⟩,⟨i,t⟩,j,u⟩
   refine ay (λm=>b2 v (by simpa using m)) (λm=>b3 v (by simpa using m))
theorem a36:aB 29 aG0.spec:=aG Tryz.func29 (C aC Xk) aS bO3
def b29:Ct:=⟨[.val cI,.val cI],[.val cI],λd=>[],λd=>((AW d.1 d.2.1,()),())⟩
theorem by9:
 ∀ a b,dP a b->True->ap (ap (a*1000)+b)=AW a b:= by
  delta ap aq aH J dP
  intro x x_1 _ _
  rfl
theorem bJ2:aB 73 b29.spec:=aG Tryz.func73 aC aS by9
def bi4:Ct:=⟨[.val (.sl sP)],[.own 182 sP],λd=>[(V d.1:Int)<=100000],λd=>((d.1,()),())⟩
def K9(a:List dF):=V a<=cu5/\ ∀(b:dF),b∈a->(aT b.1.1/\aT b.1.2.1/\bJ b.1.2.2.1 b.1.2.2.2.1 (aq b.1.2.2.2.2.1) (aq b.1.2.2.2.2.2))/\bJ b.2.1 b.2.2.1 True (True/\aq b.2.2.2.2.2.1/\aT b.2.2.2.2.2.2.1/\bJ b.2.2.2.2.2.2.2.1 b.2.2.2.2.2.2.2.2.1 (aq b.2.2.2.2.2.2.2.2.2.1) (aq b.2.2.2.2.2.2.2.2.2.2.1/\aq b.2.2.2.2.2.2.2.2.2.2.2))
theorem bu0:
 ∀ a,J (K9 a)->O a<=100000->kw (V a=0) ([]=a) (bR ((0+V a)*120)/\a=a):= by
  delta O aq aH aT bR bJ J K9 kw aF
  rintro x ⟨⟨hl,-⟩,-⟩ h b hb
  refine ay (λh1=>?_) (λh1=>⟨Y,rfl⟩)
  simp_all
theorem cl9:aB 144 bi4.spec:=aG Tryz.func144 aC aS bu0
def bS8:Ct:=⟨[.val (.sl j9)],[.own 84 j9],λd=>[(V d.1:Int)<=100000],λd=>((d.1,()),())⟩
def L4(a:List bv):=V a<=cu5/\ ∀(b:bv),b∈a->bJ b.1 b.2.1 (aq b.2.2.1) (aq b.2.2.2.1/\aT b.2.2.2.2.1/\bJ b.2.2.2.2.2.1 b.2.2.2.2.2.2.1 (aq b.2.2.2.2.2.2.2.1) (True/\True/\aq b.2.2.2.2.2.2.2.2.2.2.1/\aT b.2.2.2.2.2.2.2.2.2.2.2.1/\bJ b.2.2.2.2.2.2.2.2.2.2.2.2.1 b.2.2.2.2.2.2.2.2.2.2.2.2.2.1 (aq b.2.2.2.2.2.2.2.2.2.2.2.2.2.2.1) (aq b.2.2.2.2.2.2.2.2.2.2.2.2.2.2.2.1/\aq b.2.2.2.2.2.2.2.2.2.2.2.2.2.2.2.2)))
theorem bq7:
 ∀ a,J (L4 a)->O a<=100000->kw (V a=0) ([]=a) (bR ((0+V a)*128)/\a=a):= by
  delta O aq aH aT bR bJ L4 J kw aF
  rintro x ⟨⟨hl,-⟩,-⟩ h b hb
  refine ay (λh1=>?_) (λh1=>⟨Y,rfl⟩)
  simp_all
theorem bF6:aB 145 bS8.spec:=aG Tryz.func145 aC aS bq7
def bu4:Ct:=⟨[.agg ky],[.agg J4],λd=>[nM d.1],λd=>((d.1,()),())⟩
def yV(a:bS):=O (vW a)<=100000/\O (vR a)<=100000
def qi(a:bS):=O a.2.2.2.2.2.1
theorem bb3:
 ∀ a,J (CT.wf ky a)->yV a->qi a<=100000/\O a.2.2.2.2.2.2<=100000/\a=a:= by
  delta O J yV qi
  intro d _ h
  exact⟨h.1,h.2,rfl⟩
theorem Qs:aB 71 bu4.spec:=aG Tryz.func71 (C (C aC cl9) bF6) aS bb3
def b08:Ct:=⟨[.agg ky,.agg sP],[.agg j9],λd=>[],λd=>((nY d.1 d.2.1,()),())⟩
theorem bC6:
 ∀ a b,CT.wf ky a/\J (CT.wf sP b)->True->au ( !b.2.2.2.1) ((a.1,a.2.1,b.2.1,b.2.2.1,b.1.2.1,b.1.2.2.1,b.1.2.2.2.1,b.1.2.2.2.2.2,b.2.2.2.1,b.2.2.2.2.1,ap (b.2.2.1+a.2.2.2.2.1),b.2.2.2.2.2.2)=nY a b) ((a.1,a.2.1,b.2.1,b.2.2.1,b.1.2.1,b.1.2.2.1,b.1.2.2.2.1,b.1.2.2.2.2.2,b.2.2.2)=nY a b):= by
  delta ap J
  intro d x _ _
  unfold nY
  refine ay (λh=>?_) (λh=>?_)
  .simp_all
  .grind
theorem Zg:aB 154 b08.spec:=aG Tryz.func154 aC aS bC6
def aN3:Ct:=⟨[.agg sP,.box 96 ky,.box 3 cI],[.val .bool],λd=>[],λd=>((oW (vT d.2.1) d.2.2.1 d.1,()),(d.2.1,d.2.2.1,()))⟩
theorem bK0:
 ∀ a b c,CT.wf sP a/\CT.wf ky b/\J (aq c)->True->cs7 (ap (a.2.2.1+b.2.2.2.2.1)<=c)=oW (vT b) c a/\b=b/\c=c:= by
  delta ap aq aH J
  intro d v x _ _
  exact⟨rfl,rfl,rfl⟩
theorem bC2:aB 146 aN3.spec:=aG Tryz.func146 aC aS bK0
def bw4:Ct:=⟨[.agg sP],[.val .bool],λd=>[],λd=>((cs8,()),())⟩
theorem bi2:
 ∀ a,dN (CT.wf sP a) true:= by
  delta J dN
  intro d _ _
  rfl
theorem cb5:aB 77 bw4.spec:=aG Tryz.func77 aC aS bi2
def Wz:Ct:=⟨[.agg ky,.fn 146 2,.box 96 ky,.box 3 cI],[.agg J4],λd=>[nM d.1],λd=>((EM d.1 (oW (vT d.2.2.1) d.2.2.2.1),()),(d.2.2.1,d.2.2.2.1,()))⟩
def cm6:bG Wz.ps->bL:=(λd=>{loops:=(bz 4 (λS=>{ι:=Int×(List dF)×(List bv),qn:=ot,μ:=λi=>M (V (vW d.1)-i.1),inv:=λi=>0<=i.1/\i.1<=V (vW d.1)/\i.2.1=((vW d.1).take (M i.1)).filter (λx => !(oW (vT d.2.2.1) d.2.2.2.1) x)/\i.2.2=vR d.1++(((vW d.1).take (M i.1)).filter (oW (vT d.2.2.1) d.2.2.2.1)).map (nY d.1),keep:=[1,2,4,11,12],slots:=λi=>[(13,.int .i64 i.1),(5,.own 524288 17)],keepN:=[160,80,1048576,1048577],names:=λi=>[(48,.live (.cells 96 [.int .i64 d.1.1,.int .i64 d.1.2.1,.int .i64 d.1.2.2.1,.int .u32 d.1.2.2.2.1,.int .i64 d.1.2.2.2.2.1,.own 160 17,.own 524289 17])),(524288,.live (.row 182 sP i.2.1)),(524289,.live (.row 84 j9 i.2.2))]}) cm)})
def rK(a:bS)(b:Int):=N a.2.2.2.2.2.1 b
def Ep(a:bS)(b:Int):=[(a.1,a.2.1,(rK a b).2.1,(rK a b).2.2.1,(rK a b).1.2.1,(rK a b).1.2.2.1,(rK a b).1.2.2.2.1,(rK a b).1.2.2.2.2.2,(rK a b).2.2.2.1,(rK a b).2.2.2.2.1,if (rK a b).2.2.2.1 then (rK a b).2.2.2.2.2.1 else ap ((rK a b).2.2.1+a.2.2.2.2.1),(rK a b).2.2.2.2.2.2)]
def Iq(a:bS)(b c:Prop):=bh 0 0 0 ((0:Int)=(0:Int)) (bh 0 a.1 a.2.1 (a.2.2.1=a.2.2.1) (bp a.2.2.2.1 a.2.2.2.2.1 b c))
def FN(a:bS):=a.2.2.2.2.2.1=a.2.2.2.2.2.1
def NQ(a b:bS)(c:Int)(d e:Prop):=FN a/\Iq b (FN b) (b.2.2.2.2.2.2=b.2.2.2.2.2.2/\bh c a.1 a.2.1 (a.2.2.1=a.2.2.1) (bp a.2.2.2.1 a.2.2.2.2.1 d e))
def GP(a:Int)(b:bS)(c:List dF)(d:bS)(e:Int)(f:List bv):=bo a (O (vW b)) (c=cz9 (λ(g:dF)=> !oW (vT d) e g) (take (M a) (vW b))) (f=vR b++cA6 (nY b) (cz9 (oW (vT d) e) (take (M a) (vW b))))
def Bg(a:bS)(b:List dF×List bv):=(a.1,a.2.1,a.2.2.1,a.2.2.2.1,a.2.2.2.2.1,b)
theorem bj2:
 ∀ a b c,CT.wf ky a/\True/\CT.wf ky b/\J (aq c)->yV a->nM a/\(∃ d e f,GP d a e b c f/\qi a=qi a/\0=d/\NQ a b c (e=[]) (J (a.2.2.2.2.2.2=f)))/\ ∀ d e f,GP d a e b c f->eh d (qi a) (d<qi a) (au (oW (vT b) c (N a.2.2.2.2.2.1 d)) (bR ((V f+V (Ep a d))*128)/\ ∃ g h i,GP g a h b c i/\bi (O (vW a)) g d/\qi a=qi a/\aA d=g/\NQ a b c (e=h) (J (f++Ep a d=i))) (bR ((V e+V [rK a d])*120)/\ ∃ g h i,GP g a h b c i/\bi (O (vW a)) g d/\qi a=qi a/\aA d=g/\NQ a b c (e++[rK a d]=h) (J (f=i)))) (Bg a (e,f)=EM a (oW (vT b) c)) (b=b/\c=c):= by
  delta N O ap aq aH bh bp bi Ep bZ am bR bo NQ eh aA J GP Iq yV av qi rK Bg FN
  rintro d v x ⟨-,-,-,-,-⟩⟨hw,hr⟩
  refine⟨⟨hw,hr⟩,⟨0,[],vR d,⟨Y,Y,aw,aw⟩,aI⟩,?_⟩
  rintro k ls rs ⟨c,k1,rfl,rfl⟩
  have eW:d.2.2.2.2.2.1=vW d:=rfl
  rw[eW]
  refine bT (λa=>?_) (λa=>?_)
  .have f:=N4 c a (oW (vT v) x)
   have g:=N4 c a (λy => !oW (vT v) x y)
   have l1:=cD1 (oW (vT v) x) ((vW d).take (M k))
   have l2:=cD1 (λy => !oW (vT v) x y) ((vW d).take (M k))
   have l3:V ((vW d).take (M k))<=V (vW d):=by rw[fF];omega
   refine⟨c,a,ay (λb=>?_) (λb=>?_)⟩
   .rw[b] at f
    rw[show (!oW (vT v) x (T (vW d) (M k) cs5))=ct2 by rw[b];rfl] at g
    refine⟨by simp;omega,k+1,_,_,⟨Y,Y,rfl,rfl⟩,Y,rfl,aJ Y Y,?_⟩
    (repeat refine wD ?_)
    refine⟨?_,?_,aQ⟩
    .rw[g];simp
    .rw[f];simp;rfl
   .rw[b] at f
    refine⟨by simp;omega,k+1,_,_,⟨Y,Y,rfl,rfl⟩,Y,rfl,aJ Y Y,?_⟩
    simp_all
  .have e:(vW d).take (M k)=vW d:=gE Y
   rw[e]
   exact⟨rfl,rfl,rfl⟩
theorem a94:aB 76 Wz.spec:=aG Tryz.func76 (C (C (C aC Qs) bC2) Zg) cm6 bj2
def ZZ:Ct:=⟨[.agg ky,.fn 77 0],[.agg J4],λd=>[nM d.1],λd=>((EM d.1 (λ_=>cs8),()),())⟩
def bg2:bG ZZ.ps->bL:=(λd=>{loops:=(bz 4 (λS=>{ι:=Int×(List dF)×(List bv),qn:=ot,μ:=λi=>M (V (vW d.1)-i.1),inv:=λi=>0<=i.1/\i.1<=V (vW d.1)/\i.2.1=((vW d.1).take (M i.1)).filter (λx => !(λ_=>cs8) x)/\i.2.2=vR d.1++(((vW d.1).take (M i.1)).filter (λ_=>cs8)).map (nY d.1),keep:=[1,2,4,11,12],slots:=λi=>[(13,.int .i64 i.1),(5,.own 524288 17)],keepN:=[160,80],names:=λi=>[(48,.live (.cells 96 [.int .i64 d.1.1,.int .i64 d.1.2.1,.int .i64 d.1.2.2.1,.int .u32 d.1.2.2.2.1,.int .i64 d.1.2.2.2.2.1,.own 160 17,.own 524289 17])),(524288,.live (.row 182 sP i.2.1)),(524289,.live (.row 84 j9 i.2.2))]}) cm)})
def Ll(a:Int)(b:bS)(c:List dF)(d:List bv):=bo a (O (vW b)) (c=cz9 (λ(e:dF)=> !cs8) (take (M a) (vW b))) (d=vR b++cA6 (nY b) (cz9 (λ(e:dF)=>cs8) (take (M a) (vW b))))
theorem ba7:
 ∀ a,CT.wf ky a/\J True->yV a->nM a/\(∃ b c d,Ll b a c d/\qi a=qi a/\0=b/\FN a/\Iq a (c=[]) (J (a.2.2.2.2.2.2=d)))/\ ∀ b c d,Ll b a c d->au (av b (qi a)) (bP b (qi a) (bR ((V d+V (Ep a b))*128)) (∃ e f g,Ll e a f g/\bi (O (vW a)) e b/\qi a=qi a/\aA b=e/\FN a/\Iq a (c=f) (J (d++Ep a b=g)))) (Bg a (c,d)=EM a (λe=>cs8)):= by
  delta N O ap bh bp bi Ep bZ am bR bo aA J Ll Iq yV av bP qi rK Bg FN
  rintro d-⟨hw,hr⟩
  refine⟨⟨hw,hr⟩,⟨0,[],vR d,⟨Y,Y,aw,aw⟩,aI⟩,?_⟩
  rintro k ls rs ⟨b,k1,rfl,rfl⟩
  have eW:d.2.2.2.2.2.1=vW d:=rfl
  rw[eW]
  refine bT (λa=>?_) (λa=>?_)
  .have f1:=N4 b a (λ_=>cs8)
   have f2:=N4 b a (λ_ => !cs8)
   have l1:=cD1 (λ_=>cs8) ((vW d).take (M k))
   have l3:V ((vW d).take (M k))<=V (vW d):=by rw[fF];omega
   refine⟨b,a,?_⟩
   refine⟨by simp;omega,k+1,_,_,⟨Y,Y,rfl,rfl⟩,Y,rfl,aJ Y Y,?_⟩
   (repeat refine wD ?_)
   refine⟨?_,?_,aQ⟩
   .rw[f2];simp
   .rw[f1];simp;rfl
  .have e:(vW d).take (M k)=vW d:=gE Y
   rw[e]
   rfl
theorem cd5:aB 76 ZZ.spec:=aG Tryz.func76 (C (C (C aC Qs) cb5) Zg) bg2 ba7
def ca8:Ct:=⟨[.agg ky,.val cI],[.agg J4],λd=>[nM d.1],λd=>((i9 d.1 d.2.1,()),())⟩
theorem a79:
 ∀ a b,CT.wf ky a/\J (aq b)->yV a->nM a/\Bg a (cz9 (λc=> !oW (vT a) b c) (vW a),vR a++cA6 (nY a) (cz9 (oW (vT a) b) (vW a)))=i9 a b:= by
  delta O aq aH J yV Bg
  rintro d x-⟨hw,hr⟩
  exact⟨⟨hw,hr⟩,rfl⟩
theorem Yh:aB 72 ca8.spec:=aG Tryz.func72 (C aC a94) aS a79
def bW5:Ct:=⟨[.agg ky],[.agg ky],λd=>[nM d.1],λd=>((yu d.1,()),())⟩
theorem aX9:
 ∀ a,J (CT.wf ky a)->yV a->nM a/\Bg a (cz9 (λb=> !cs8) (vW a),vR a++cA6 (nY a) (cz9 (λb=>cs8) (vW a)))=yu a:= by
  delta O J yV Bg
  rintro d-⟨hw,hr⟩
  exact⟨⟨hw,hr⟩,rfl⟩
theorem bE8:aB 36 bW5.spec:=aG Tryz.func36 (C aC cd5) aS aX9
def bv6:Ct:=⟨[.agg ky,.val cI,.val dB,.val cI,.val cI,.val cI],[.agg ky,.own 5 bc,.val cI],λd=>[nM d.1,0<=d.1.2.2.1],λd=>((nL d.1 d.2.1 d.2.2.1 d.2.2.2.1 d.2.2.2.2.1 d.2.2.2.2.2.1,uW d.1 d.2.1 d.2.2.1 d.2.2.2.1 d.2.2.2.2.1 d.2.2.2.2.2.1,oV d.1 d.2.1 d.2.2.1 d.2.2.2.1 d.2.2.2.2.1 d.2.2.2.2.2.1,()),())⟩
def SC(a:bS)(b c d e f:Int)(g:Int×Int×Int×Int):=nM a/\a=nL a b c d e f/\fL (uW a b c d e f)/\dJ (a.2.2.2.1,c,g)=oV a b c d e f
def Ie(a:bS)(b c d e:Int):=(a.2.2.2.1,b,c,d,AW a.2.1 a.2.2.1,e)
theorem a76:
 ∀(a:bS)(b c d e f:Int),CT.wf ky a/\aq b/\aT c/\bJ d e (aq f) True->nM a/\0<=a.2.2.1->au ( !aY (dJ (a.2.2.2.1,c,d,e,0,f))) (SC a b c d e f (d,e,0,f)) (au ( !cs7 (gm c)) (nM a/\a=nL a b c d e f/\fL (uW a b c d e f)/\10=oV a b c d e f) (nM a/\ ∀(g h i j k:Int)(l:List dF)(m:List bv),(g,h,i,j,k,l,m)=i9 a b->sJ (cs7 (1000<=a.2.2.1)) (cs7 (256<=O l)) (nM a/\a=nL a b c d e f/\fL (uW a b c d e f)/\5=oV a b c d e f) (au ( !aY (dJ (Ie a c d e f))) (SC a b c d e f (d,e,AW a.2.1 a.2.2.1,f)) (bR ((V l+V [(Ie a c d e f,a.2.2.1,b,ct2,ct2,(0:Int),oz)])*120)/\(g,h,aA i,j,k,l++[(Ie a c d e f,a.2.2.1,b,ct2,ct2,0,oz)],m)=nL a b c d e f/\build (Ie a c d e f)=uW a b c d e f/\0=oV a b c d e f)))):= by
  delta O ap aq aH bN aK aT br cQ bw bR bJ aY aA J sJ oz SC Ie aF fL
  rintro d x dst c f a ⟨-,-,-,-,-,-,-⟩⟨⟨hw,hr⟩,hn⟩
  have j:nM d:=⟨hw,hr⟩
  have l:oV d x dst c f a≠0->d=nL d x dst c f a/\([]:Z)=uW d x dst c f a:=λh=>by
   rw[nL,uW,I h,I h];exact⟨rfl,rfl⟩
  refine ay (λh=>⟨j,?_⟩) (λh=>?_)
  .have h:¬ dJ (xJ d dst c f a 0)=0:=lz h
   have e:oV d x dst c f a=dJ (xJ d dst c f a 0):=by rw[oV,ao h]
   have ⟨n,o⟩:=l (by rw[e];exact h)
   exact⟨n,o,e.symm⟩
  have h:=lq h
  refine ay (λg=>⟨j,?_⟩) (λg=>⟨j,?_⟩)
  .have g:¬ gm dst:=by simpa using g
   have e:oV d x dst c f a=10:=by rw[oV,I (λk=>k h),ao g]
   grind
  have g:gm dst:=by simpa using g
  rintro a1 a2 p a4 a5 a6 a7 ha
  have t:p=d.2.2.1:=dL (λq:bS=>q.2.2.1) ha
  have e6:a6=vW (i9 d x):=dL (λq:bS=>q.2.2.2.2.2.1) ha
  (repeat (intro (b_:Bool) (r:b_=_);(repeat refine⟨(by first|(simp;done)),?_⟩);subst r))
  refine ay (λm=>⟨j,?_⟩) (λm=>?_)
  .have m:1000<=d.2.2.1∨256<=V (vW (i9 d x)):=by
    grind
   have e:oV d x dst c f a=5:=by rw[oV,I (λk=>k h),I (λk=>k g),ao m]
   grind
  have m:¬ (1000<=d.2.2.1∨256<=V (vW (i9 d x))):=by
   grind
  have s:oV d x dst c f a=dJ (xJ d dst c f a (AW d.2.1 d.2.2.1)):=by rw[oV,I (λk=>k h),I (λk=>k g),I m]
  refine ay (λi=>⟨j,?_⟩) (λi=>⟨?_,?_⟩)
  .have i:=lz i
   have ⟨n,o⟩:=l (by rw[s];exact i)
   exact⟨n,o,s.symm⟩
  .grind
  .have i:=lq i
   have e:=s.trans i
   refine⟨?_,by rw[uW,ao e];rfl,e.symm⟩
   rw[nL,ao e,← ha]
   have:ct0.wrap (p+1)=p+1:=aJ (by rw[t];omega) (by rw[t];omega)
   rw[this]
   rfl
theorem b67:aB 34 bv6.spec:=aG Tryz.func34 (C (C (C (C (C (C aC Ks) Qs) Xk) (Ct.named Yh)) bJ2) bY2) aS a76
def bk7:Ct:=⟨[.agg sP,.box 80 tY],[.val .bool],λd=>[],λd=>((wu d.2.1 d.1,()),(d.2.1,()))⟩
def vt(a b c d:Int)(e f:Bool):=cs7 (a=b)&&(cs7 (c=d)&&(e&&f))
theorem aC8:
 ∀ a b c d e f g,CT.wf sP a/\rm b c d e f g->True->vt a.1.1 b a.1.2.1 c (cs7 (a.1.2.2.1=d)) (vt a.1.2.2.2.1 e a.1.2.2.2.2.1 f (cs7 (g=g)) cs8)=wu (b,c,d,e,f,g) a/\(b,c,d,e,f,g)=(b,c,d,e,f,g):= by
  delta aq aH aT bJ J vt rm aF
  unfold wu wc
  simp_all
theorem bh8:aB 143 bk7.spec:=aG Tryz.func143 aC aS aC8
def Ze:Ct:=⟨[.val (.sl sP),.fn 143 1,.box 80 tY],[.val cI],λd=>[],λd=>((if d.1.findIdx (wu d.2.2.1)<V d.1 then (d.1.findIdx (wu d.2.2.1):Int) else -1,()),(d.2.2.1,()))⟩
def bG5:bG Ze.ps->bL:=(λd=>{loops:=(bz 2 (λS=>{ι:=Int,μ:=λi=>M (V d.1-i),inv:=λi=>0<=i/\i<=V d.1∧∀ x∈d.1.take (M i),wu d.2.2.1 x=ct2,keep:=[0,1,6,7],slots:=λi=>[(8,.int .i64 i)],keepN:=[1048576]}) cm)})
def I6(a b c d e f:Int)(g:List dF):=if cW2 (wu (a,b,c,d,e,f)) g<V g then (cW2 (wu (a,b,c,d,e,f)) g:Int) else (-1:Int)
def MM(a:Int)(b:List dF)(c d:Int)(e:Int×Int×Int×Int):=am a (a<=O b) (∀(f:dF),f∈take (M a) b->wu (c,d,e) f=ct2)
def qK(a b:Int):=a=a/\J (b=b)
theorem a14:
 ∀ a b c d e f g,K9 a/\True/\rm b c d e f g->True->(∃ h,MM h a b c (d,e,f,g)/\a=a/\a=a/\O a=O a/\0=h/\bh b c d (e=e) (qK f g))/\ ∀ h,MM h a b c (d,e,f,g)->eh h (O a) (h<O a) (au (wu (b,c,d,e,f,g) (N a h)) (h=I6 b c d e f g a/\(b,c,d,e,f,g)=(b,c,d,e,f,g)) (∃ i,MM i a b c (d,e,f,g)/\bi (O a) i h/\a=a/\a=a/\O a=O a/\aA h=i/\bh b c d (e=e) (qK f g))) ((-1)=I6 b c d e f g a) ((b,c,d,e,f,g)=(b,c,d,e,f,g)):= by
  delta N O ap aq aH bh aT bp bi bZ am bJ eh aA J K9 rm av I6 MM qK aF
  rintro l a b c e f g ⟨⟨hl,-⟩,-⟩ -
  simp only[cu5] at hl
  refine⟨⟨0,⟨Y,Y,aw⟩,aI⟩,?_⟩
  rintro j ⟨h,j1,i⟩
  refine bT (λd=>?_) (λd=>?_)
  .refine⟨h,d,ay (λk=>?_) (λk=>?_)⟩
   .exact⟨F0 h d i k,rfl⟩
   .exact⟨j+1,⟨Y,Y,yD h d i k⟩,Y,rfl,rfl,rfl,aJ Y Y,aI⟩
  .exact⟨Ii d i,rfl⟩
theorem cb6:aB 142 Ze.spec:=aG Tryz.func142 (C aC bh8) bG5 a14
def cc2:Ct:=⟨[.agg ky,.val cI,.val (.sl bc)],[.agg ky,.val cI],λd=>[nM d.1,(V d.2.2.1:Int)<=1000000],λd=>((nF d.1 d.2.1 d.2.2.1,qX d.1 d.2.1 d.2.2.1,()),())⟩
def Cu(a:List dF)(b:Int):=set a (M b) ((N a b).1,(N a b).2.1,(N a b).2.2.1,cs8,(N a b).2.2.2.2)
def ak6(a:List dF)(b c:Int):=((N (Cu a b) b).1,(N (Cu a b) b).2.1,(N (Cu a b) b).2.2.1,(N (Cu a b) b).2.2.2.1,(N (Cu a b) b).2.2.2.2.1,c,(N (Cu a b) b).2.2.2.2.2.2)
def Br(a:List dF)(b c:Int):=set (Cu a b) (M b) (ak6 a b c)
theorem b41:
 ∀ a b c,CT.wf ky a/\aq b/\J (aM c)->nM a/\bV c->nM a/\ ∀ d e f g h i j,(d,e,f,g,h,i,j)=i9 a b->bV c/\ ∀ k l m n o p q r s t u v w,(k,l,m,n,o,p)=(gu c).1/\(q,r,s,t,u,v)=(gu c).2/\w=rH c-> ∀ x,x=( !aY w)->cQ x (gv x) (bw x/\au (br x (db k g)) ((d,e,f,g,h,i,j)=nF a b c/\17=qX a b c) (∀ y z A B S D E,y=I6 k l m n o p i/\(z,A,B,S,D,E)=(k,l,m,n,o,p)->au (da y) ((d,e,f,g,h,i,j)=nF a b c/\8=qX a b c) (gP y (O i) ( !(N i y).2.2.2.1) ((d,e,f,g,h,set (Br i y b) (M y) ((N (Br i y b) y).1,(N (Br i y b) y).2.1,(N (Br i y b) y).2.2.1,(N (Br i y b) y).2.2.2.1,(N (Br i y b) y).2.2.2.2.1,(N (Br i y b) y).2.2.2.2.2.1,q,r,s,t,u,v),j)=nF a b c/\0=qX a b c) (au ( !vt (N i y).2.2.2.2.2.2.1 q (N i y).2.2.2.2.2.2.2.1 r (cs7 ((N i
 y).2.2.2.2.2.2.2.2.1=s)) (vt (N i y).2.2.2.2.2.2.2.2.2.1 t (N i y).2.2.2.2.2.2.2.2.2.2.1 u (cs7 ((N i y).2.2.2.2.2.2.2.2.2.2.2=v)) cs8)) ((d,e,f,g,h,set i (M y) ((N i y).1,(N i y).2.1,(N i y).2.2.1,(N i y).2.2.2.1,cs8,(N i y).2.2.2.2.2),j)=nF a b c/\0=qX a b c) ((d,e,f,g,h,i,j)=nF a b c/\0=qX a b c))))):= by
  delta N O aq aH aM bN aK Br ak6 Cu br am cQ bw gv aY bV J vt dE da av I6 db aF gP
  rintro d x b ⟨-,-,-,-⟩⟨hs,hl⟩
  refine⟨hs,?_⟩
  rintro a1 a2 a3 a4 a5 a6 a7 ha
  have e4:a4=Mc d:=dL (λq:bS=>q.2.2.2.1) ha
  have e6:a6=vW (i9 d x):=dL (λq:bS=>q.2.2.2.2.2.1) ha
  refine⟨hl,?_⟩
  rintro p1 p2 p3 p4 p5 p6 c1 c2 c3 c4 c5 c6 e ⟨hp,hc,rfl⟩
  have ep1:=dL (λq:bu=>q.1) hp
  (repeat (intro (b_:Bool) (hb_:b_=_);(repeat refine⟨(by first|(simp;done)|(rw[hb_];simp +contextual;done)),?_⟩);subst hb_))
  have bad:qX d x b≠0->(a1,a2,a3,a4,a5,a6,a7)=nF d x b:=λh=>by rw[nF,I h];exact ha
  refine rI (λh=>?_) (λh1 h2=>?_)
  .have e:qX d x b=17:=by
    rw[qX,ao]
    simp_all
   simp_all
  have h1:=lq h1
  have h2:=lq h2
  have hno:¬ (rH b≠0∨(gu b).1.1≠Mc d):=by rw[← ep1,← e4];exact λk=>k.elim (λk=>k h1) (λk=>k h2)
  rintro i q1 q2 q3 q4 q5 q6 ⟨hi,-⟩
  rw[hp] at hi
  have er:a6.findIdx (wu (gu b).1)=zY (i9 d x) (gu b).1:=by rw[e6];rfl
  rw[er] at hi
  refine ay (λh=>?_) (λh=>?_)
  .have h:=aX h
   have hlt:¬ zY (i9 d x) (gu b).1<V a6:=λk=>by rw[ao k] at hi;omega
   have e:qX d x b=8:=by rw[qX,I hno,I (by rw[← e6];exact hlt)]
   simp_all
  have h:=bg h
  have hlt:=jW λk=>by rw[I k] at hi;omega
  have hin:M i=zY (i9 d x) (gu b).1:=Y
  have e:qX d x b=0:=by rw[qX,I hno,ao (by rw[← e6];exact hlt)]
  have ev:nF d x b=(a1,a2,a3,a4,a5,a6.set (M i) (nS x (gu b).2 (T a6 (M i) cs5)),a7):=by
   rw[nF,ao e,hin,← ha];rfl
  refine⟨Y,Y,?_⟩
  rw[ev,e,← hc]
  have hil:M i<V a6:=Y
  generalize M i=n at hil
  simp only[List.set_set,kW hil]
  have self:a6.set n (T a6 n cs5)=a6:=by
   simp_all
  generalize hy:T a6 n cs5=y at *
  refine ay (λh=>⟨?_,aQ⟩) (λh=>ay (λh2=>⟨?_,aQ⟩) (λh2=>⟨?_,aQ⟩))
  .have h:y.2.2.2.1=false:=by simpa only[sS] using h
   rw[nS,ao h]
  .have h:y.2.2.2.1=true:=by simpa only[BE] using h
   rw[nS,I (by rw[h];decide),ao]
   grind
  .have h:y.2.2.2.1=true:=by simpa only[BE] using h
   have k:y.2.2.2.2.2.2=(c1,c2,c3,c4,c5,c6):=by
    simp at h2
    have ⟨k1,k2,k3,k4,k5,k6⟩:=h2
    simp only[Prod.ext_iff]
    exact⟨k1,k2,k3,k4,k5,k6⟩
   rw[nS,I (by rw[h];decide),I (λq=>q k),self]
theorem bj3:aB 69 cc2.spec:=aG Tryz.func69 (C (C (C aC (Ct.named Yh)) (Ct.named br5)) (Ct.named cb6)) aS b41
abbrev fD:CT := .pair qF (.pair (.sl cI) cI)
abbrev Rt:Type:=fM×Z×Int
def cM(p q:fM):Prop:=p.1<q.1∨p.1=q.1/\p.2<q.2
instance (p q:fM):Decidable (cM p q):=by unfold cM;infer_instance
variable{b:Int}
theorem Vg(h:a<b):c9 a b = -1:=by unfold c9;rw[ao h]
theorem ak0(h:b<a):c9 a b=1:=by unfold c9;rw[I (by omega),ao h]
theorem Q7(a):c9 a a=0:=by unfold c9;simp
theorem Pd(p q):(cM p q/\jg p q = -1)∨(p=q/\jg p q=0)∨(cM q p/\jg p q=1):=by
 have ⟨a,b⟩:=p;have ⟨c,e⟩:=q
 unfold jg cM
 obtain h|rfl|h:=cS8 a c
 .simp[Vg h,h]
 .obtain h|rfl|h:=cS8 b e
  .simp[Q7,Vg h,h]
  .simp[Q7]
  .simp[Q7,ak0 h,h]
 .simp[ak0 h,h]
theorem wv(p):¬ cM p p:=by unfold cM;omega
variable{p q:fM}
theorem IH{r}(h:cM p q)(k:cM q r):cM p r:=by unfold cM at *;omega
theorem Ec(h:cM p q):¬ cM q p:=by unfold cM at *;omega
theorem Lm(h:¬ cM p q):p=q∨cM q p:=by rcases Pd p q with⟨k,-⟩|⟨k,-⟩|⟨k,-⟩ <;> simp_all
theorem aq7{r}(h:¬ cM p q)(k:cM p r):¬ cM r q:=λe=>h (IH k e)
theorem IF:jg p q<0↔cM p q:=by
 obtain⟨h,e⟩|⟨rfl,e⟩|⟨h,e⟩:=Pd p q <;> rw[e]
 .simp[h]
 .simp[wv]
 .simp[Ec h]
theorem JU:jg p q=0↔p=q:=by
 obtain⟨h,e⟩|⟨h,e⟩|⟨h,e⟩:=Pd p q <;> rw[e]
 .simp;rintro rfl;exact wv _ h
 .simp[h]
 .simp;rintro rfl;exact wv _ h
theorem TS:0<=jg p q↔¬ cM p q:=by rw[← IF];omega
def dY(l:List Rt):Prop:=l.Pairwise λa b=>cM a.1 b.1
variable{l:List Rt}{h:Int}
theorem aM2(hs:dY l)(h0:0<=h)(h1:h<V l)(a:cM (T l (M h) cs5).1 p):∀ y∈l.take (M (h+1)),cM y.1 p:=by
 intro y b
 have c:M h<V l:=Y
 obtain b|rfl:=VZ h0 h1 b
 .obtain⟨k,hk,rfl⟩:=cv8.1 b;rw[cK,cT c,jb] at a;simp at hk ⊢;exact IH (List.pairwise_iff_getElem.1 hs k (M h) Y c Y) a
 .exact a
theorem aZ1(hs:dY l)(h0:0<=h)(h1:h<V l)(d:¬ cM (T l (M h) cs5).1 p):∀ y∈l.drop (M h),¬ cM y.1 p:=by
 intro y c
 have e:M h<V l:=Y
 rw[cK,cT e,jb] at d
 rw[sM e] at c
 obtain rfl|c:=dm.1 c
 .exact d
 .have f:((l.drop (M h))).Pairwise λa b=>cM a.1 b.1:=cL4 hs;rw[sM e] at f;exact aq7 d (List.rel_of_pairwise_cons f c)
def bR1:Ct:=⟨[.val (.sl cI)],[.own 3 cI],λd=>[(V d.1:Int)<=1099511627776],λd=>((d.1,()),())⟩
theorem aS0:
 ∀ a,J (cU a)->aR a->kw (V a=0) (fL a) (bR ((0+V a)*8)/\a=a):= by
  delta O aq aH cU aR bR J kw fL
  rintro x ⟨⟨hl,-⟩,-⟩ h b hb
  refine ay (λh1=>?_) (λh1=>⟨by simp;omega,by simp⟩)
  simp_all
theorem F2:aB 123 bR1.spec:=aG Tryz.func123 aC aS aS0
def b24:Ct:=⟨[.agg fD],[.agg fD],λd=>[(V d.1.2.1:Int)<=1099511627776],λd=>((d.1,()),())⟩
theorem bw1:
 ∀ a b c d,J (dC a b c d)->aR c->aR c/\((a,b),c,d)=((a,b),c,d):= by
  delta O aq aH dC cU aT aR J aF
  simp_all
theorem Vx:aB 252 b24.spec:=aG Tryz.func252 (C aC F2) aS bw1
def cg9:Ct:=⟨[.agg fD],[.agg fD],λd=>[(V d.1.2.1:Int)<=1099511627776],λd=>((d.1,()),())⟩
theorem aF7:
 ∀ a b c d,J (dC a b c d)->aR c->bR (V c*8)/\((a,b),c,d)=((a,b),c,d):= by
  delta O aq aH dC cU aT aR bR J aF
  grind
theorem WQ:aB 186 cg9.spec:=aG Tryz.func186 aC aS aF7
def b40:Ct:=⟨[.agg fD,.agg qF],[.val cI],λ_=>[],λd=>((jg d.1.1 d.2.1,()),())⟩
theorem cg7:
 ∀ a b c d e f,dC a b c d/\J (aT e/\aq f)->True->jg (a,b) (e,f)=jg (a,b) (e,f):= by
  delta aq aH dC cU aT J aF
  intros;trivial
theorem aZ2:aB 250 b40.spec:=aG Tryz.func250 (C aC Yn) aS cg7
variable{i:Int}
theorem Kw(h0:0<=i)(h1:i<=j)(h2:j<=9223372036854775807):ct1 ct0 (fm ct9 (ct1 ct9 (ct1 ct0 (i+j))) (1:Int))=(i+j)/2:=by
 have hw:ct1 ct9 (ct1 ct0 (i+j))=i+j:=by
  rw[cw6,IntKind.wrap_u64];omega
 rw[hw]
 have:fm ct9 (i+j) 1=(i+j)/2:=by
  unfold fm;rw[F4 _ aD];rfl
 rw[this,aJ Y Y]
theorem ad6(l)(p):∃ k:Int,0<=k/\k<=V l/\(dY l->(∀ z∈l.take (M k),cM z.1 p)∧∀ z∈l.drop (M k),¬ cM z.1 p):=by
 induction l with
 | nil=>exact⟨0,aw,aw,aw⟩
 | cons a l ih =>
  have ⟨k,h0,h1,h2⟩:=ih;by_cases d:cM a.1 p
  .refine⟨k+1,Y,by simp;omega,λb=>?_⟩;have ⟨q1,q2⟩:=h2 (cu1.1 b).2;have e:M (k+1)=M k+1:=Y;grind
  .refine⟨0,Y,by simp;omega,λb=>⟨aw,λz c=>?_⟩⟩;obtain rfl|c:=dm.1 c
   .exact d
   .exact aq7 d ((cu1.1 b).1 z c)
def Ve:Cn:=⟨[.val (.sl fD),.agg qF,.fn 250 0],[.val cI,.val .bool],λ_=>[],λd y=>0<=y.1.1/\y.1.1<=V d.1/\(dY d.1->(∀ z∈d.1.take (M y.1.1),cM z.1 d.2.1)∧∀ z∈d.1.drop (M y.1.1),¬ cM z.1 d.2.1)/\y.1.2.1=cs7 (y.1.1<V d.1/\(T d.1 (M y.1.1) cs5).1=d.2.1),λd h=>let ⟨k,h0,h1,h2⟩:=ad6 d.1 d.2.1;⟨((k,cs7 (k<V d.1/\(T d.1 (M k) cs5).1=d.2.1),()),()),h0,h1,h2,rfl⟩⟩
def aI1:bG Ve.ps->bL:=(λd=>{loops:=(bz 3 (λS=>{ι:=Int×Int,qn:=fE,μ:=λi=>M (i.2-i.1),inv:=λi=>0<=i.1/\i.1<=i.2/\i.2<=V d.1/\(dY d.1->(∀ z∈d.1.take (M i.1),cM z.1 d.2.1)∧∀ z∈d.1.drop (M i.2),¬ cM z.1 d.2.1),keep:=[0,2,4,8],slots:=λi=>[(9,.int .i64 i.1),(10,.int .i64 i.2)],keepN:=[80]}) cm)})
def Ei(a b:List cF)(c:aq4)(d:List cF):=dY a->(∀(e:cF),e∈b->cM e.1 c)/\ ∀(e:cF),e∈d-> ¬cM e.1 c
def mI(a b:Int):=ap (fm ct9 (ct1 ct9 (ap (a+b))) 1)
def AY(a:Int)(b:List cF)(c d:Int)(e:Bool):=bo a (O b) (Ei b (take (M a) b) (c,d) (drop (M a) b)) (e=cs7 (a<O b/\(N b a).1=(c,d)))
def iW(a:Bool)(b:Prop)(c:Int)(d:Prop):=(a->a)/\(b->b)/\am c d True
def GN(a b:Int)(c:List cF)(d e:Int):=bo a b (b<=O c) (Ei c (take (M a) c) (d,e) (drop (M b) c))
def qP(a:List cF):=O a=O a
theorem aR2:
 ∀ a b c,dh a/\(aT b/\aq c)/\J True->True->(∃ d e,GN d e a b c/\a=a/\qP a/\0=d/\O a=e/\qK b c)/\ ∀ d e,GN d e a b c->au (av d e) (am 1 (0<=mI d e) (mI d e<O a/\au (da (jg (N a (mI d e)).1 (b,c))) (∃ f g,GN f g a b c/\bZ (g -f) (e -d)/\a=a/\qP a/\aA (mI d e)=f/\e=g/\qK b c) (∃ f g,GN f g a b c/\bZ (g -f) (e -d)/\a=a/\qP a/\d=f/\mI d e=g/\qK b c))) (∀ f,f=av d (O a)->(f->iW f f d (d<O a))/\cB f f ((f->f)/\dE f) (f->aK f) ((f->f)/\AY d a b c (bq f (aY (jg (N a d).1 (b,c)))))):= by
  delta N O ap aq aH dh dC aK cU aT cB bq bZ am aY Ei bo mI aA J AY iW dE GN da av qK aF qP
  rintro x p q ⟨⟨hl,-⟩,-⟩ -
  simp only[cu5] at hl
  refine⟨⟨0,V x,⟨Y,Y,Y,λ_=>aw⟩,aI⟩,?_⟩
  rintro i j ⟨d,h1,f,e⟩
  refine bT (λhb=>?_) (λhb=>?_)
  .rw[Kw d h1 Y]
   refine⟨Y,Y,Y,bT (λa=>?_) (λa=>?_)⟩
   .have a:=IF.1 a
    refine⟨(i+j)/2+1,j,⟨Y,Y,f,λc=>⟨aM2 c Y Y a,(e c).2⟩⟩,Y,aI⟩
   .have a:¬ cM _ _:=λh=>absurd (IF.2 h) a
    refine⟨i,(i+j)/2,⟨d,Y,Y,λc=>⟨(e c).1,aZ1 c Y Y a⟩⟩,Y,aI⟩
  .have:i=j:=Y
   subst this
   (repeat (refine cG ?_;repeat refine cH ?_))
   refine⟨d,f,e,?_⟩
   by_cases h:i<V x <;> simp[h,JU]
theorem ay9:aB 249 Ve.spec:=jV Tryz.func249 (C aC aZ2) aI1 aR2
def bH9:Ct:=⟨[.nils,.val cI],[.own 156 fD],λd=>[0<=d.2.1,d.2.1<=1073741824],λd=>(([],()),())⟩
def wa(a:Int):=ap (a -ap (0 -0))
theorem bq6:
 ∀ a,True/\J (aq a)->aF a 1073741824->au (da a) False (au (av 0 (wa a)) (bp 0 0 (0<=wa a) (wa a*(↑((48:Nat)):Int)<=140737488355328/\am 0 (0<=O (replicate (M (wa a)) (((0:Int),(0:Int)),([]:Z),(0:Int)))) (take (M 0) (replicate (M (wa a)) (((0:Int),(0:Int)),([]:Z),(0:Int)))=([]:List cF)))) (([]:List cF)=([]:List cF))):= by
  delta O ap aq aH bp am J da av wa aF
  rintro x-⟨h0,h1⟩
  rw[aJ (n:=(0:Int)-0) Y Y,aJ Y Y]
  refine ay (λa=>?_) (λa=>ay (λa=>?_) (λa=>rfl))
  .grind
  .grind
theorem bl9:aB 291 bH9.spec:=aG Tryz.func291 (JW aC (d:=25)) aS bq6
theorem JI{l:List (List α)}(h0:0<=j)(h1:j<V l):(l.take (M (j+1))).flatten=(l.take (M j)).flatten++T l (M j) default:=by
 have a:M j<V l:=Y
 have e:M (j+1)=M j+1:=Y
 rw[e,Df a,cI5,cK,cT a,jb]
 simp
theorem FU(l:List (List α))(k):(l.take k).flatten.length<=V l.flatten:=by
 conv=>rhs;rw[← mj k l,cI5,cw]
 omega
def T5:Ct:=⟨[.val (.sl (.sl fD))],[.own 156 fD],λd=>[(V d.1.flatten:Int)<=1073741824],λd=>((d.1.flatten,()),())⟩
def bb4:bG T5.ps->bL:=(λd=>{loops:=(bz 3 (λS=>{ι:=Int×Int,qn:=fE,μ:=λi=>M (V d.1-i.1),inv:=λi=>0<=i.1/\i.1<=V d.1/\i.2=((d.1.take (M i.1)).flatten.length:Int),keep:=[0,9,10],slots:=λi=>[(3,.int .i64 i.2),(11,.int .i64 i.1)]}) (bz 11 (λS=>{ι:=Int×(List Rt),qn:=fE,μ:=λi=>M (V d.1-i.1),inv:=λi=>0<=i.1/\i.1<=V d.1/\i.2=(d.1.take (M i.1)).flatten,keep:=[25,26],slots:=λi=>[(6,.own 524288 4),(27,.int .i64 i.1)],names:=λi=>[(524288,.live (.row 156 fD i.2))]}) cm))})
def zV(a:List Rt)(b:List cF):=bR ((V a+V b)*48)
def NC(a:Int)(b:List (List cF))(c:Int):=am a (a<=O b) (c=O (cw2 (take (M a) b)))
theorem ba8:
 ∀ a,J (V a<=cu5/\ ∀ b,b∈a->dh b)->O (cw2 a)<=1073741824->(∃ b c,NC b a c/\a=a/\0=c/\a=a/\O a=O a/\J (0=b))/\ ∀ b c,NC b a c->au (av b (O a)) (gP b (O a) (da (ap (c+O (N a b)))) False (∃ d e,NC d a e/\bi (O a) d b/\a=a/\ap (c+O (N a b))=e/\a=a/\O a=O a/\J (aA b=d))) (bo c 1073741824 (∃ d e,am d (d<=O a) (e=cw2 (take (M d) a))/\a=a/\O a=O a/\0=d/\J ([]=e)) (∀ d e,am d (d<=O a) (e=cw2 (take (M d) a))->au (av d (O a)) (bP d (O a) (zV e (N a d)) (∃ f g,am f (f<=O a) (g=cw2 (take (M f) a))/\bi (O a) f d/\a=a/\O a=O a/\aA d=f/\J (e++N a d=g))) (e=cw2 a))):= by
  delta N O ap aq aH dh dC cU aT bi bZ am bR bo aA J da av bP zV NC aF gP
  rintro x ⟨⟨hl,-⟩,-⟩ ht
  simp only[cu5] at hl
  refine⟨⟨0,0,⟨Y,Y,aw⟩,aI⟩,?_⟩
  rintro j s ⟨c,h1,h2⟩
  have hle:=FU x (M j)
  refine bT (λa=>?_) (λa=>?_)
  .have e:=JI c a
   have b:=FU x (M (j+1))
   have el:((x.take (M (j+1))).flatten.length:Int)=s+V (T x (M j) cs5):=by rw[e,cw];omega
   rw[aJ Y Y]
   refine⟨c,a,bT (λhc=>?_) (λhc=>?_)⟩
   .omega
   .exact⟨j+1,_,⟨Y,Y,el.symm⟩,Y,aI⟩
  .refine⟨Y,Y,⟨0,[],⟨Y,Y,aw⟩,aI⟩,?_⟩
   rintro k ys ⟨d,k1,rfl⟩
   refine bT (λa=>?_) (λa=>?_)
   .have e:=JI d a
    have b:=FU x (M (k+1))
    refine⟨d,a,?_,k+1,_,⟨Y,Y,e.symm⟩,Y,aI⟩
    grind
   .rw[gE Y]
theorem co5:aB 251 T5.spec:=aG Tryz.func251 (C aC bl9) bb4 ba8
theorem ze [Inhabited α] {l:List α} (h0:0<=j) (h1:j<V l):l.set (M j) (T l (M j) cs5)=l:=by
 simp_all
def Wy:Ct:=⟨[.val (.sl fD),.val cI,.val cI,.val (.sl fD)],[.own 156 fD],λd=>[0<=d.2.1,d.2.1<=V d.1,0<=d.2.2.1,d.2.2.1<=V d.1,(V d.1:Int)<=134217728,(V d.2.2.2.1:Int)<=134217728,∀ y∈d.1,(V y.2.1:Int)<=1099511627776,∀ y∈d.2.2.2.1,(V y.2.1:Int)<=1099511627776],λd=>((d.1.take (M d.2.1)++(d.2.2.2.1++d.1.drop (M d.2.2.1)),()),())⟩
def cl8:bG Wy.ps->bL:=(λd=>{loops:=(bz 3 (λS=>{ι:=Int,μ:=λi=>M ((V (d.1.take (M d.2.1)++(d.2.2.2.1++d.1.drop (M d.2.2.1))):Int)-i),inv:=λi=>0<=i/\i<=(V (d.1.take (M d.2.1)++(d.2.2.2.1++d.1.drop (M d.2.2.1))):Int),keep:=[9,20,21],slots:=λi=>[(22,.int .i64 i)],keepN:=[320]}) cm)})
def tU(a:List cF)(b:Int)(c:List cF)(d:Int):=cw2 [cZ a (M 0) (M b),c,cZ a (M d) (M (O a))]
def rW(a b c:Int)(d e:Prop):=aF a b/\bi b a c/\d/\e
def rC(a b:Int)(c:Prop)(d:Int)(e:Prop):=∃(f:Int),rW f a b c (d=f/\e)
def sa(a:Int)(b c:Prop):=∃(d:Int),aF d a/\b/\0=d/\c
def xH(a:List cF):=∀(b:cF),b∈a->aR b.2.1
def B8(a:Int)(b c:List cF)(d:Int):=take (M a) b++(c++drop (M d) b)
theorem aX2:
 ∀ a b c d,dh a/\bJ b c (dh d) True->am b (b<=O a) (bo c (O a) (O a<=134217728) (O d<=134217728/\xH a/\xH d))->bo 0 b (b<=O a) (bo c (O a) (O a<=O a) (O (tU a b d c)<=1073741824/\sa (O (B8 b a d c)) (qP (tU a b d c)) (J (tU a b d c=tU a b d c))/\ ∀ e,aF e (O (B8 b a d c))->au (av e (O (tU a b d c))) (bP e (O (tU a b d c)) (aR (N (tU a b d c) e).2.1) (am e (e<O (tU a b d c)) (rC (O (B8 b a d c)) e (qP (tU a b d c)) (aA e) (J (set (tU a b d c) (M e) (N (tU a b d c) e)=tU a b d c))))) (tU a b d c=B8 b a d c))):= by
  delta N O ap aq aH dh dC cU aT aR bi bZ am tU bJ bo aA J rC sa xH av bP B8 rW aF qP
  rintro l a b m-⟨h0,h1,h2,h3,h4,h5,h6,h7⟩
  have e:cw2 [cZ l (M (0:Int)) (M a),m,cZ l (M b) (M (V l:Int))]=l.take (M a)++(m++l.drop (M b)):=by
   simp[cZ]
  rw[e]
  have d:∀ y∈l.take (M a)++(m++l.drop (M b)),(V y.2.1:Int)<=1099511627776:=by
   grind
  have hlen:V (l.take (M a)++(m++l.drop (M b)))<=V l+(V m+V l):=by
   grind
  refine⟨Y,h0,h1,h2,h3,Y,Y,⟨0,⟨Y,Y⟩,aI⟩,?_⟩
  rintro j ⟨f,j1⟩
  refine ay (λc=>?_) (λc=>rfl)
  have c:=aX c
  refine⟨f,c,d _ (cW f c),f,c,j+1,⟨Y,Y⟩,Y,rfl,aJ Y Y,ze f c,aQ⟩
theorem Vt:aB 205 Wy.spec:=aG Tryz.func205 (C (C aC co5) Vx) cl8 aX2
def bz3:Cn:=⟨[.val (.sl fD),.agg qF],[.val cI,.val .bool],λ_=>[],λd y=>0<=y.1.1/\y.1.1<=V d.1/\(dY d.1->(∀ z∈d.1.take (M y.1.1),cM z.1 d.2.1)∧∀ z∈d.1.drop (M y.1.1),¬ cM z.1 d.2.1)/\y.1.2.1=cs7 (y.1.1<V d.1/\(T d.1 (M y.1.1) cs5).1=d.2.1),λd h=>let ⟨k,h0,h1,h2⟩:=ad6 d.1 d.2.1;⟨((k,cs7 (k<V d.1/\(T d.1 (M k) cs5).1=d.2.1),()),()),h0,h1,h2,rfl⟩⟩
theorem a02:
 ∀ a b c,dh a/\J (aT b/\aq c)->True-> ∀ d e,AY d a b c e->AY d a b c e:= by
  delta N O aq aH dh dC cU aT am Ei bo J AY aF
  grind
theorem SU:aB 204 bz3.spec:=jV Tryz.func204 (C aC ay9) aS a02
def gC(l:List Rt)(r:Rt):List Rt:=l.filter (λa=>cs7 (cM a.1 r.1))++r::l.filter (λa=>cs7 (cM r.1 a.1))
def mn(l:List Rt)(p:fM):List Rt:=l.filter (λa=>cs7 (a.1≠p))
def okL(l:List Rt):Prop:=(V l:Int)<=134217728∧∀ y∈l,(V y.2.1:Int)<=1099511627776
def BI(a:Int)(b:Option Rt)(r:Rt):Option Rt:=if contains r.1 a then match b with|none=>cs6 r|some q=>if q.1.2<r.1.2 then cs6 r else cs6 q else b
def tv(l:List Rt)(a:Int):Option Rt:=l.foldl (BI a) ct4
def cD(l:List Rt)(a:Int):Rt:=match tv l a with|none=>((0,0),[],0)|some r=>r
def ur(l:List Rt)(a:Int):Bool:=(tv l a).isSome
variable{l:List Rt}{k:Nat}
theorem Zr(h1:∀ z∈l.take k,cM z.1 p)(h2:∀ z∈l.drop k,¬ cM z.1 p):l.take k=l.filter (λa=>cs7 (cM a.1 p)):=by
 conv=>rhs;rw[← mj k l]
 rw[Bl,cx3.2 (by simpa using h1),cz5.2 (by simpa using h2),js]
theorem ZK(h0:0<=i)(h1:i<V l):l=l.take (M i)++T l (M i) cs5::l.drop (M (i+1)):=by
 have a:M i<V l:=Y
 rw[cK,cT a,jb,show M (i+1)=M i+1 from by omega,← sM a,mj]
theorem Ub(hs:dY l)(h0:0<=i)(hl:i<V l)(f:∀ z∈l.take (M i),cM z.1 p)(g:(T l (M i) cs5).1=p):l.drop (M (i+1))=l.filter (λa=>cs7 (cM p a.1))/\l.take (M i)++l.drop (M (i+1))=mn l p:=by
 have d:=ZK h0 hl
 have hp:(T l (M i) cs5::l.drop (M (i+1))).Pairwise λa b=>cM a.1 b.1:=by
  have:=hs;rw[d] at this;exact (cw9.1 this).2.1
 have h:∀ z∈l.drop (M (i+1)),cM p z.1:=λz c=>by rw[← g];exact (cu1.1 hp).1 z c
 generalize T l (M i) cs5=r at *
 generalize l.take (M i)=A at *
 generalize l.drop (M (i+1))=B at *
 subst d
 subst g
 constructor
 .rw[Bl,cB1,I (by simp[wv]),cz5.2 (by simpa using λz c=>Ec (f z c)),x9,cx3.2 (by simpa using h)]
 .rw[mn,Bl,cB1,I aw,cx3.2 (λz c=>f7 (λ(e:z.1=r.1)=>wv _ (e▸f z c))),cx3.2 (λz c=>f7 (λ(e:z.1=r.1)=>wv _ (e▸h z c)))]
theorem W4(hs:dY l)(h0:0<=i)(j:∀ z∈l.take (M i),cM z.1 p)(g:∀ z∈l.drop (M i),¬ cM z.1 p)(he:¬ (i<V l/\(T l (M i) cs5).1=p)):l.drop (M i)=l.filter (λa=>cs7 (cM p a.1))/\l=mn l p:=by
 have h3:∀ z∈l.drop (M i),cM p z.1:=by
  intro z c;obtain e|h:=Lm (g z c)
  .exfalso;by_cases hl:i<V l
   .have k:M i<V l:=Y;have d:(T l (M i) cs5).1≠p:=λe=>he ⟨hl,e⟩;rw[cK,cT k,jb] at d;have m:(l.drop (M i)).Pairwise λa b=>cM a.1 b.1:=cL4 hs;rw[sM k] at c m g;obtain rfl|c:=dm.1 c
    .exact d e
    .exact g _ (dU) (e▸(cu1.1 m).1 z c)
   .rw[cA3 Y] at c;simp at c
  .exact h
 have f:=mj (M i) l
 constructor
 .conv=>rhs;rw[← f]
  rw[Bl,cz5.2 (by simpa using λz c=>Ec (j z c)),x9,cx3.2 (by simpa using h3)]
 .symm;apply cx3.2;intro z c;rw[← f] at c;apply f7;obtain c|c:=dX.1 c
  .exact λe=>wv _ (e▸j z c)
  .grind
def bA6:Ct:=⟨[.val (.sl fD),.agg fD],[.own 156 fD],λd=>[dY d.1,okL d.1,(V d.2.1.2.1:Int)<=1099511627776],λd=>((gC d.1 d.2.1,()),())⟩
def Nd(a:Bool)(b:Int)(c:List cF)(d:Int)(e f g:Prop):=au a (am b (b<=O c) (bo (aA b) (O c) (O c<=134217728) (d<=134217728/\e/\f))) (am b (b<=O c) (bo b (O c) (O c<=134217728) (d<=134217728/\e/\g)))
def o9(a:cF):=[a]
theorem a48:
 ∀ a b c d e,dh a/\J (dC b c d e)->dY a/\okL a/\aR d-> ∀ f g,AY f a b c g->Nd g f a (O (o9 ((b,c),d,e))) (xH a) (xH (o9 ((b,c),d,e))/\B8 f a (o9 ((b,c),d,e)) (aA f)=gC a ((b,c),d,e)) (xH (o9 ((b,c),d,e))/\B8 f a (o9 ((b,c),d,e)) f=gC a ((b,c),d,e)):= by
  delta N O ap aq aH dh dC cU aT aR am Ei bo aA J AY xH Nd o9 B8 aF
  rintro l a n nx b-⟨e,⟨k,m⟩,o⟩ i f ⟨d,g,c,rfl⟩
  have ⟨c,h⟩:=c e
  refine bT (λj=>?_) (λj=>?_)
  .have ⟨f1,f2⟩:=j
   rw[aJ Y Y]
   refine⟨d,g,Y,Y,k,aw,m,by simpa using o,?_⟩
   rw[(Ub e d f1 c f2).1,Zr c h];rfl
  .refine⟨d,g,d,g,k,aw,m,by simpa using o,?_⟩
   rw[(W4 e d c h j).1,Zr c h];rfl
theorem Yt:aB 140 bA6.spec:=aG Tryz.func140 (C (C aC SU) Vt) aS a48
def b22:Ct:=⟨[.val (.sl fD),.agg qF],[.own 156 fD],λd=>[dY d.1,okL d.1],λd=>((mn d.1 d.2.1,()),())⟩
def xA(a:List cF):=O a<=134217728/\ ∀(b:Rt),b∈a->aR b.2.1
theorem ck4:
 ∀ a b c,dh a/\J (aT b/\aq c)->dY a/\xA a-> ∀ d e,AY d a b c e->Nd e d a (↑((0:Nat)):Int) (xH a) (xH []/\take (M d) a++drop (M (aA d)) a=mn a (b,c)) (xH []/\take (M d) a++drop (M d) a=mn a (b,c)):= by
  delta N O ap aq aH dh dC cU aT aR am Ei bo aA J AY xA xH Nd aF
  rintro l a n-⟨d,h,j⟩ i f ⟨b,e,c,rfl⟩
  have ⟨c,h3⟩:=c d
  refine bT (λg=>?_) (λg=>?_)
  .have ⟨f1,f2⟩:=g
   rw[aJ Y Y]
   exact⟨b,e,Y,Y,h,aw,j,aw,(Ub d b f1 c f2).2⟩
  .refine⟨b,e,b,e,h,aw,j,aw,?_⟩
   rw[mj];exact (W4 d b c h3 g).2
theorem Vm:aB 139 b22.spec:=aG Tryz.func139 (C (C aC SU) Vt) aS ck4
theorem bo7(h0:0<=i)(h1:i<V l):tv (l.take (M (i+1))) a=BI a (tv (l.take (M i)) a) (T l (M i) cs5):=by
 have b:M i<V l:=Y
 rw[show M (i+1)=M i+1 from by omega,Df b,tv,lr,cK,cT b,jb]
 rfl
theorem bl7(h0:0<=i)(h1:i<V l)(h:tv (l.take (M i)) a=if b<0 then ct4 else cs6 (T l (M b) cs5))(c)
  (hc:c=(bif contains (T l (M i) cs5).1 a then bif cs7 (b<0) then cs8 else cs7 ((T l (M b) cs5).1.2<(T l (M i) cs5).1.2) else ct2)) :
  tv (l.take (M (i+1))) a=if (if c then i else b)<0 then ct4 else cs6 (T l (M (if c then i else b)) cs5):=by
 rw[bo7 h0 h1,h]
 unfold BI
 grind
theorem a50(h:∀ z∈l.drop k,contains z.1 a=ct2):tv l a=tv (l.take k) a:=by
 conv=>lhs;rw[← mj k l]
 unfold tv
 rw[lr]
 generalize List.foldl (BI a) ct4 (l.take k)=s
 generalize l.drop k=m at h
 induction m generalizing s with
 | nil=>rfl
 | cons z r ih =>
  rw[cx7,show BI a s z=s from by rw[BI.eq_def,I (by simp[h z dU])]];simp_all
theorem be3(h:¬ cM p (a,33)):contains p a=false:=by
 unfold contains oF
 unfold cM at h
 grind
def Zj:Ct:=⟨[.val (.sl fD),.val dB],[.agg fD,.val .bool],λd=>[dY d.1,okL d.1],λd=>((cD d.1 d.2.1,ur d.1 d.2.1,()),())⟩
def bv0:bG Zj.ps->bL:=(λd=>{loops:=(bz 4 (λS=>{ι:=Int×Int×Int,qn:=ot,μ:=λi=>M (i.2.2-i.1),inv:=λi=>0<=i.1/\i.1<=i.2.2/\i.2.2<=V d.1 ∧ -1<=i.2.1/\i.2.1<i.1/\tv (d.1.take (M i.1)) d.2.1=(if i.2.1<0 then ct4 else cs6 (T d.1 (M i.2.1) cs5))/\(dY d.1→∀ z∈d.1.drop (M i.2.2),¬ cM z.1 (d.2.1,33)),keep:=[0,1,4],slots:=λi=>[(8,.int .i64 i.2.1),(17,.int .i64 i.2.2),(18,.int .i64 i.1)],keepN:=[80]}) cm)})
def Pz(a:List cF)(b j k l:Int) :=
 0<=j/\j<=l/\l<=(O a)/\ -1<=k/\k<j/\(tv (take (M j) a) b=if k<0 then ct4 else cs6 (N a k))/\(dY a-> ∀(m:cF),m∈drop (M l) a-> ¬cM m.1 (b,(33:Int)))
def Rg(a:List cF)(b e f g:Int) :=
 e<=g/\g<=(O a)/\ -1<=f/\f<e/\(tv (take (M e) a) b=if f<0 then ct4 else cs6 (N a f))/\(dY a-> ∀(h:cF),h∈drop (M g) a-> ¬cM h.1 (b,(33:Int)))
def M2 :=
 (0:Int)=0/\(0:Int)=0/\(0:Int)=0/\True
theorem bB5 :
 ∀ a b,(V a<=cu5/\ ∀ c,c∈a->((0<=c.1.1/\c.1.1<=4294967295)/\N9 c.1.2)/\(V c.2.1<=cu5/\ ∀ d,d∈c.2.1->N9 d)/\N9 c.2.2)/\(0<=b/\b<=4294967295)/\True->(dY a/\(O a)<=134217728/\ ∀ c,c∈a->(O c.2.1)<=1099511627776)-> ∀ c d,0<=c/\c<=(O a)/\(dY a->(∀ e,e∈take (M c) a->cM e.1 (b,(33:Int)))/\ ∀ e,e∈drop (M c) a-> ¬cM e.1 (b,(33:Int)))/\d=cs7 (c<(O a)/\(N a c).1=(b,(33:Int)))->(∃ e f,∃ g,(0<=e/\(Rg a b e f g))/\a=a/\b=b/\-1=f/\c=g/\0=e/\(M2))/\ ∀ e f g,0<=e/\(Rg a b e f g)->au (cs7 (e<g)) (0<=e/\e<(O a)/\ ∀ h,h=contains (N a e).1 b->(vh h)/\(vh h)/\ ∀ i,i=cs7 (f<0)->((h&& ! i)->(sD (h&& ! i))/\(sD (h&& ! i))/\0<=e/\e<(O a)/\True)/\(vh (h&& ! i))/\(vh (h&& ! i))/\(vh (h&& ! i))/\((h&& ! i)->(sD (h&& ! i))/\(sD (h&& !
 i))/\0<=f/\f<(O a)/\True)/\(vh (h&& ! i))/\(vh (h&& ! i))/\(vh (h&& ! i))/\((h&& ! i)->(sD (h&& ! i))/\(sD (h&& ! i))/\True)/\(h->(sD h)/\(i=ct2->(h&& ! i))/\True)/\(sD h)/\au (bif h then bif i then cs8 else cs7 ((N a f).1.2<(N a e).1.2) else ct2) (∃ j k,∃ l,(Pz a b j k l)/\M (l -j)<M (g -e)/\a=a/\b=b/\e=k/\g=l/\ap (e+1)=j/\(M2)) (∃ j k,∃ l,(Pz a b j k l)/\M (l -j)<M (g -e)/\a=a/\b=b/\f=k/\g=l/\ap (e+1)=j/\(M2))) (au (cs7 (f<0)) ((((0:Int),(0:Int)),([]:Z),(0:Int))=cD a b/\ct2=ur a b) (0<=f/\f<(O a)/\((V (N a f).2.1):Int)<=1099511627776/\N a f=cD a b/\cs8=ur a b)):=by
  delta Pz Rg M2 vh sD ap N O;rintro l a ⟨⟨hl,-⟩,-⟩⟨k,hk,hx⟩ n f ⟨n0,n1,n2,-⟩;refine⟨⟨0,-1,n,⟨Y,Y,Y,Y,Y,by simp[tv],λ_=>(n2 k).2⟩,aI⟩,?_⟩;rintro i b n ⟨m,h1,o,h3,h4,p,g⟩;refine bT (λhi=>?_) (λhi=>?_)
  .have d:=bl7 m Y p;refine⟨m,Y,?_⟩
   (repeat (refine cG ?_;repeat refine cH ?_));refine ay (λh=>?_) (λh=>?_)
   .have d:=d cs8 h.symm;refine⟨i+1,i,n,⟨Y,Y,o,Y,Y,by simpa using d,g⟩,Y,aI⟩
   .have d:=d ct2 h.symm;refine⟨i+1,b,n,⟨Y,Y,o,Y,Y,by simpa using d,g⟩,Y,aI⟩
  .have e:i=n:=Y;subst e;have c:=a50 (λz hz=>be3 (g k z hz));rw[p] at c;refine bT (λj=>?_) (λj=>?_)
   .rw[ao j] at c;simp[cD,ur,c]
   .rw[I j] at c;refine⟨Y,Y,hx _ (cW Y Y),?_,?_⟩
    .rw[cD,c]
    .rw[ur,c];rfl
theorem b53:aB 319 Zj.spec:=aG Tryz.func319 (C (C (C aC SU) Vx) Z6) bv0 bB5
def yc(l links:Z)(j:Nat):Prop:=(0<j->T l (j-1) cs5<T l j cs5)/\T l j cs5∈links
instance (l links:Z) (j:Nat):Decidable (yc l links j):=by unfold yc;infer_instance
def P9(l links:Z):Prop:=V l<=16∧∀ j:Nat,j<V l->yc l links j
instance (l links:Z):Decidable (P9 l links):=by unfold P9;infer_instance
def pO(r:Rt)(links:Z):Prop:=P9 r.2.1 links/\1<=r.2.2/\r.2.2<=3
instance (r:Rt) (links:Z):Decidable (pO r links):=by unfold pO;infer_instance
def chk(links:Z):Option fM->List Rt->Int
 | _,[]=>0
 | q,r::rs=>if oF r.1=ct2 then 10 else if q.any (λq=>cs7 (0<=jg q r.1)) then 6 else if ¬ pO r links then 12 else chk links (cs6 r.1) rs
def jH(l:List Rt)(links:Z):Int:=if (64:Int)<V l then 5 else chk links ct4 l
def G0(l:List Rt)(i:Int):Option fM:=if i=0 then ct4 else cs6 (T l (M (i-1)) cs5).1
variable{a:Z}
theorem bI0{l}(h0:0<=i)(h:0<i->T l (M i-1) cs5<T l (M i) cs5)(h2:T l (M i) cs5∈a):yc l a (M i) :=
 ⟨λhi=>h Y,h2⟩
theorem av4{l}(h0:0<=i)(h:∀ j:Nat,(j:Int)<i->yc l a j)(h2:yc l a (M i)):∀ j:Nat,(j:Int)<i+1->yc l a j:=by
 grind
variable{l:List Rt}
theorem aE1{q}(h0:0<=i)(h1:i<V l):chk a q (l.drop (M i))=if oF (T l (M i) cs5).1=ct2 then 10 else if q.any (λq=>cs7 (0<=jg q (T l (M i) cs5).1)) then 6 else if ¬ pO (T l (M i) cs5) a then 12 else chk a (cs6 (T l (M i) cs5).1) (l.drop (M (i+1))):=by
 have b:M i<V l:=Y
 have e:M (i+1)=M i+1:=Y
 rw[sM b,chk,cK,cT b,jb,e]
def Zq:Ct:=⟨[.agg fD,.val (.sl cI)],[.val .bool],λ_=>[],λd=>((cs7 (pO d.1 d.2.1),()),())⟩
def a97:bG Zq.ps->bL:=(λd=>{loops:=(bz 4 (λS=>{ι:=Int,μ:=λi=>M (V d.1.2.1-i),inv:=λi=>0<=i/\i<=V d.1.2.1∧∀ j:Nat,(j:Int)<i->yc d.1.2.1 d.2.1 j,keep:=[1,2,22,23],slots:=λi=>[(24,.int .i64 i)],keepN:=[48]}) cm)})
def oq(a:Bool)(b c d e f:Prop):=cB a a (aK b) (b->c) (cB a b d e f)
def Mo(a:Int)(b c:Z):=am a (a<=O b) (∀(d:Nat),(d:Int)<a->yc b c d)
theorem cp8:
 ∀ a b c d e,dC a b c d/\J (cU e)->True-> ∀ f,f=av 16 (O c)->cQ f (bw f) (lO (br f (av d 1)) (av 3 d) (ct2=cs7 (pO ((a,b),c,d) e)) ((∃ g,Mo g c e/\e=e/\c=c/\ou c/\0=g/\bp a b (c=c) (J (d=d)))/\ ∀ g,Mo g c e->au (av g (O c)) (am g (g<O c) (∀ h,h=av 0 g->oq h h (iW h h (ap (g -1)) (ap (g -1)<O c)) (dE h) (h->h) (∀ i,i=bq h (cs7 (N c g<=N c (ap (g -1))))->gv i/\kx i (br i ( !cs7 (N c g∈e))) (ct2=cs7 (pO ((a,b),c,d) e)) (∃ j,Mo j c e/\bi (O c) j g/\e=e/\c=c/\ou c/\aA g=j/\bp a b (c=c) (J (d=d)))))) (cs8=cs7 (pO ((a,b),c,d) e)))):= by
  delta N O ap aq aH dC bN aK cU aT bp cB br bi bq bZ am cQ bw gv lO aA J iW dE av oq kx Mo ou aF
  rintro a n l b ks ⟨⟨⟨-,-⟩,⟨hl,-⟩,-⟩,-⟩ -
  (repeat (refine cG ?_;repeat refine cH ?_))
  refine ay (λc=>?_) (λc=>?_)
  .have c:¬ (V l<=16/\1<=b/\b<=3):=by simp[-cy0,-cz3,lY] at c;omega
   symm;apply gH
   rintro⟨⟨g,-⟩,e⟩;exact c ⟨g,e⟩
  .have c:V l<=16/\1<=b/\b<=3:=by simp[-cy0,-cz3,lY] at c;omega
   refine⟨⟨0,⟨Y,Y,Y⟩,aI⟩,?_⟩
   rintro i ⟨f,g,e⟩
   refine bT (λhi=>?_) (λhi=>?_)
   .refine⟨f,hi,?_⟩
    rw[aJ Y Y]
    (repeat (refine cG ?_;repeat refine cH ?_))
    refine ay (λd=>?_) (λd=>?_)
    .have d:¬ yc l ks (M i):=by
      rintro⟨k1,k2⟩
      simp[-cy0,-cz3,lY,k2] at d
      omega
     symm;apply gH
     rintro⟨⟨-,h3⟩,-⟩;exact d (h3 _ (show M i<V l by omega))
    .have d:yc l ks (M i):=by
      simp[-cy0,-cz3,lY] at d
      refine bI0 f (λhp=>?_) d.2
      omega
     exact⟨i+1,⟨Y,Y,av4 f e d⟩,Y,rfl,rfl,rfl,aJ Y Y,aI⟩
   .symm;apply f7
    exact⟨⟨c.1,λj hj=>e j (by simp only at hj;omega)⟩,c.2⟩
theorem bR3:aB 242 Zq.spec:=aG Tryz.func242 (C aC Wg) a97 cp8
def XQ:Ct:=⟨[.val (.sl fD),.val (.sl cI)],[.val cI],λ_=>[],λd=>((jH d.1 d.2.1,()),())⟩
def bU7:bG XQ.ps->bL:=(λd=>{loops:=(bz 4 (λS=>{ι:=Int,μ:=λi=>M (V d.1-i),inv:=λi=>0<=i/\i<=V d.1/\jH d.1 d.2.1=chk d.2.1 (G0 d.1 i) (d.1.drop (M i)),keep:=[0,1,10,11],slots:=λi=>[(12,.int .i64 i)]}) cm)})
def Jr(a:Int)(b:List cF)(c:Z):=am a (a<=O b) (jH b c=chk c (G0 b a) (drop (M a) b))
def xw(a:List cF)(b c:Int)(d e:Prop):=bi (O a) b c/\a=a/\d/\e
theorem bG9:
 ∀ a b,dh a/\J (cU b)->True->au (av 64 (O a)) (5=jH a b) ((∃ c,Jr c a b/\a=a/\b=b/\a=a/\qP a/\J (0=c))/\ ∀ c,Jr c a b->uf c (O a) (c<O a) (au ( !oF (N a c).1) (10=jH a b) (∀ d,d=av 0 c->cB d d (iW d d (ap (c -1)) (ap (c -1)<O a)) (d->aK d) (fp d d (dE d) (d->aK d) ((d->d)/\au (bq d (fH (jg (N a (ap (c -1))).1 (N a c).1))) (6=jH a b) (au ( !cs7 (pO (N a c) b)) (12=jH a b) (∃ e,Jr e a b/\xw a e c (b=b) (a=a/\qP a/\J (aA c=e)))))))) (jH a b)):= by
  delta N O ap aq aH dh dC aK cU aT cB bi bq bZ am aA fp J iW dE av fH Jr uf aF xw qP
  rintro l ks ⟨⟨hl,-⟩,-⟩ -
  refine bT (λa=>?_) (λa=>?_)
  .rw[jH,ao a]
  .refine⟨⟨0,⟨Y,Y,by rw[jH,I a];rfl⟩,aI⟩,?_⟩
   rintro i ⟨g,h1,h2⟩
   rw[h2]
   refine bT (λhi=>?_) (λhi=>?_)
   .rw[aE1 g hi,aJ Y Y]
    refine⟨g,hi,ay (λc=>?_) (λc=>?_)⟩
    .simp_all
    .simp only[BE] at c
     rw[I (by simp[-cy0,-cz3,c])]
     (repeat (refine cG ?_;repeat refine cH ?_))
     have he:(Option.any (λq=>cs7 (0<=jg q (T l (M i) cs5).1)) (G0 l i))=(bif cs7 (0<i) then cs7 (0<=jg (T l (M (i-1)) cs5).1 (T l (M i) cs5).1) else ct2):=by
      unfold G0
      by_cases e:i=0
      .simp[e]
      .rw[I e,Option.any_some];simp[show 0<i from by omega]
     rw[he]
     refine ay (λd=>?_) (λd=>?_)
     .rw[ao d]
     .rw[I (by rw[d];decide)]
      refine ay (λf=>?_) (λf=>?_)
      .simp_all
      .simp at f
       rw[I (λh=>h f)]
       refine⟨i+1,⟨Y,Y,?_⟩,Y,aI⟩
       rw[G0,I Y,show i+1-1=i from by omega]
   .rw[cA3 Y,chk]
theorem UR:aB 195 XQ.spec:=aG Tryz.func195 (C (C (C aC bR3) UK) Yn) bU7 bG9
theorem YU(h0:0<=i)(h1:i<V l):l.take (M (i+1))=l.take (M i)++[T l (M i) cs5]:=by
 have hj:M i<V l:=Y
 rw[show M (i+1)=M i+1 from by omega,Df hj,cK,cT hj,jb]
variable{m:List Rt}{r:Rt}
theorem SN(h:∀ z∈m,cM z.1 r.1):gC m r=m++[r]:=by
 rw[gC,cx3.2 (λz hz=>f7 (h z hz)),cz5.2 (λz hz=>by simpa using Ec (h z hz))]
variable{e:Rt}
theorem RG(h:cM r.1 e.1):gC (m++[e]) r=gC m r++[e]:=by
 rw[gC,gC,Bl,Bl,cB1,I (by simpa using Ec h),cB1,ao (by simpa using h)]
 simp
theorem WI(h:∀ z∈m,cM z.1 r.1)(he:e.1=r.1):gC (m++[e]) r=m++[r]:=by
 have hi:¬ cM e.1 r.1:=by rw[he];exact wv _
 have hj:¬ cM r.1 e.1:=by rw[he];exact wv _
 have f1:=cx3.2 (λz hz=>f7 (h z hz))
 have f2:m.filter (λa=>cs7 (cM r.1 a.1))=[]:=cz5.2 (λz hz=>by simpa using Ec (h z hz))
 simp[gC,f1,f2,hi,hj]
theorem later(hs:dY l)(h0:0<=i)(h1:i<V l){z}(hz:z∈l.take (M i))(hp:¬ cM z.1 p):cM p (T l (M i) cs5).1:=by
 have hsp:=ZK h0 h1
 unfold dY at hs
 rw[hsp] at hs
 have:=(cw9.1 hs).2.2 z hz _ dU
 obtain e|h:=Lm hp
 .rw[← e];exact this
 .exact IH h this
def ao3:Ct:=⟨[.val (.sl fD),.agg fD],[.own 156 fD],λd=>[dY d.1,okL d.1,(V d.2.1.2.1:Int)<=1099511627776],λd=>((gC d.1 d.2.1,()),())⟩
def cn5:bG ao3.ps->bL:=(λd=>{loops:=(bz 4 (λS=>{ι:=Int×Bool×(List Rt),qn:=ot,μ:=λi=>M (V d.1-i.1),inv:=λi=>0<=i.1/\i.1<=V d.1/\(V i.2.2:Int)<=i.1+1/\(i.2.1=ct2->(∀ z∈d.1.take (M i.1),cM z.1 d.2.1.1)/\i.2.2=d.1.take (M i.1))/\(i.2.1=cs8->(∃ z∈d.1.take (M i.1),¬ cM z.1 d.2.1.1)/\i.2.2=gC (d.1.take (M i.1)) d.2.1),keep:=[0,3],slots:=λi=>[(5,.own 524288 4),(6,.bool i.2.1),(7,.int .i64 i.1)],keepN:=[64],names:=λi=>[(524288,.live (.row 156 fD i.2.2))]}) cm)})
def Ds(a:Bool)(b:List cF)(c:aq4)(d e:List Rt):=(a=ct2->(∀(f:cF),f∈b->cM f.1 c)/\d=b)/\(a->(∃(f:cF),f∈b/\ ¬cM f.1 c)/\d=e)
def AS(a b:Bool)(c d:Prop):=∀(e:Bool),e=a->(e->aK e)/\(e->e)/\au (bq e b) c d
theorem ci1:
 ∀ a b c d e,dh a/\J (dC b c d e)->dY a/\okL a/\aR d->(∃ f g h,bo f (O a) (O h<=f+1) (Ds g (take (M f) a) (b,c) h (gC (take (M f) a) ((b,c),d,e)))/\a=a/\ct2=g/\0=f/\bp b c (d=d) (e=e/\J (h=[])))/\ ∀ f g h,bo f (O a) (O h<=f+1) (Ds g (take (M f) a) (b,c) h (gC (take (M f) a) ((b,c),d,e)))->au (av f (O a)) (am f (f<O a) (AS (fH (jg (N a f).1 (b,c))) ( !g) (aR d/\zV h (o9 ((b,c),d,e))/\au ( !aY (jg (N a f).1 (b,c))) (bP f (O a) (aR (N a f).2.1) (zV (h++o9 ((b,c),d,e)) (o9 (N a f))/\ ∃ i j k,bo i (O a) (O k<=i+1) (Ds j (take (M i) a) (b,c) k (gC (take (M i) a) ((b,c),d,e)))/\xw a i f (cs8=j) (aA f=i/\bp b c (d=d) (e=e/\J (h++o9
 ((b,c),d,e)++o9 (N a f)=k))))) (∃ i j k,bo i (O a) (O k<=i+1) (Ds j (take (M i) a) (b,c) k (gC (take (M i) a) ((b,c),d,e)))/\xw a i f (cs8=j) (aA f=i/\bp b c (d=d) (e=e/\J (h++o9 ((b,c),d,e)=k))))) (au ( !aY (jg (N a f).1 (b,c))) (bP f (O a) (aR (N a f).2.1) (zV h (o9 (N a f))/\ ∃ i j k,bo i (O a) (O k<=i+1) (Ds j (take (M i) a) (b,c) k (gC (take (M i) a) ((b,c),d,e)))/\xw a i f (g=j) (aA f=i/\bp b c (d=d) (e=e/\J (h++o9 (N a f)=k))))) (∃ i j k,bo i (O a) (O k<=i+1) (Ds j (take (M i) a) (b,c) k (gC (take (M i) a) ((b,c),d,e)))/\xw a i f (g=j) (aA f=i/\bp b c (d=d) (e=e/\J (h=k))))))) (au ( !g) (aR d/\zV h (o9 ((b,c),d,e))/\h++o9 ((b,c),d,e)=gC a ((b,c),d,e))
 (h=gC a ((b,c),d,e))):= by
  delta N O ap aq aH dh dC aK cU aT bp aR bi bq bZ am bR aY bo Ds aA J AS av bP fH zV o9 aF xw
  rintro l a n nx b ⟨⟨hl0,-⟩,-⟩⟨hs,⟨hl,hx⟩,hn⟩
  refine⟨⟨0,ct2,[],⟨Y,Y,aw,λ_=>aw,λh=>by simp at h⟩,aI⟩,?_⟩
  rintro i dn ys ⟨h0,h1,h2,h3,h4⟩
  refine bT (λhi=>?_) (λhi=>?_)
  .have ht:=YU h0 hi
   have hxi:=hx _ (cW h0 hi)
   have hlt:∀(z:Rt),z∈l.take (M i)->z∈l.take (M (i+1)):=λz hz=>by rw[ht];exact gq _ hz
   have hsi:T l (M i) cs5∈l.take (M (i+1)):=by rw[ht];simp[-cy0,-cz3]
   have hlater:=λz hz hp=>later (p:=(a,n)) (z:=z) hs h0 hi hz hp
   generalize T l (M i) cs5=e at *
   refine⟨h0,hi,?_⟩
   (repeat (refine cG ?_;repeat refine cH ?_))
   refine ay (λhc=>?_) (λhc=>?_)
   .have hq:¬ cM e.1 (a,n)/\dn=false:=by rw[← TS];simpa[lY] using hc
    clear hc
    obtain⟨hc,rfl⟩:=hq
    obtain⟨k1,rfl⟩:=h3 rfl
    refine⟨hn,by simp only[fq];omega,ay (λhz=>?_) (λhz=>?_)⟩
    .have hz:¬ jg e.1 (a,n)=0:=by simpa using hz
     have hgt:cM (a,n) e.1:=by
      obtain h|h:=Lm hc
      .exact absurd (JU.2 h) hz
      .exact h
     refine⟨h0,hi,hxi,by simp only[cw,fq];omega,i+1,cs8,_,⟨Y,Y,?_,aw,λ_=>⟨⟨e,hsi,hc⟩,rfl⟩⟩,Y,rfl,rfl,aJ Y Y,rfl,rfl,rfl,rfl,?_,aQ⟩
     .rw[ht,RG hgt,SN k1];simp only[cw,fq,fF];omega
     .rw[ht,RG hgt,SN k1]
    .have hz:jg e.1 (a,n)=0:=by simpa using hz
     have hz:=JU.1 hz
     refine⟨i+1,cs8,_,⟨Y,Y,?_,aw,λ_=>⟨⟨e,hsi,hc⟩,rfl⟩⟩,Y,rfl,rfl,aJ Y Y,rfl,rfl,rfl,rfl,?_,aQ⟩
     .rw[ht,WI k1 hz];simp only[cw,fq,fF];omega
     .rw[ht,WI k1 hz]
   .have hc:¬ (¬ cM e.1 (a,n)/\dn=ct2):=by rw[← TS];simpa[lY] using hc
    cases dn with
    | false =>
     have hc:=jW λh=>hc ⟨h,rfl⟩
     obtain⟨k1,rfl⟩:=h3 rfl
     have hz:¬ jg e.1 (a,n)=0:=by have:=IF.2 hc;omega
     rw[gH hz]
     refine⟨h0,hi,hxi,by simp only[fq];omega,i+1,ct2,_,⟨Y,Y,?_,λ_=>⟨?_,rfl⟩,aw⟩,Y,rfl,rfl,aJ Y Y,rfl,rfl,rfl,rfl,ht.symm,aQ⟩
     .simp only[fF];omega
     .rw[ht];intro z hz
      obtain hz|hz:=dX.1 hz
      .exact k1 z hz
      .rw[iV.1 hz];exact hc
    | true =>
     obtain⟨⟨z,z1,z2⟩,rfl⟩:=h4 rfl
     have hgt:=hlater z z1 z2
     have hz:¬ jg e.1 (a,n)=0:=λh=>by have h:=JU.1 h;rw[h] at hgt;exact wv _ hgt
     rw[gH hz]
     have hp:=RG (m:=l.take (M i)) (r:=((a,n),nx,b)) hgt
     refine⟨h0,hi,hxi,by simp only[fq];omega,i+1,cs8,_,⟨Y,Y,?_,aw,λ_=>⟨⟨z,hlt z z1,z2⟩,rfl⟩⟩,Y,rfl,rfl,aJ Y Y,rfl,rfl,rfl,rfl,?_,aQ⟩
     .rw[ht,hp,cw,fq];omega
     .rw[ht,hp]
  .rw[gE Y] at h3 h4
   refine ay (λhd=>?_) (λhd=>?_)
   .obtain⟨k1,rfl⟩:=h3 (by simpa using hd)
    exact⟨hn,by simp only[fq];omega,(SN k1).symm⟩
   .exact (h4 (by simpa using hd)).2
theorem co4:aB 110 ao3.spec:=aG Tryz.func110 (C (C aC WQ) a61) cn5 ci1
theorem Xd:mn (m++[e]) p=mn m p++(if e.1=p then [] else [e]):=by
 rw[mn,mn,Bl,cB1,List.filter_nil]
 by_cases h:e.1=p <;> simp[h]
theorem aq9(m)(p):V (mn m p)<=V m:=cD1 _ _
def Vv:Ct:=⟨[.val (.sl fD),.agg qF],[.own 156 fD],λd=>[okL d.1],λd=>((mn d.1 d.2.1,()),())⟩
def ci0:bG Vv.ps->bL:=(λd=>{loops:=(bz 3 (λS=>{ι:=Int×(List Rt),qn:=fE,μ:=λi=>M (V d.1-i.1),inv:=λi=>0<=i.1/\i.1<=V d.1/\i.2=mn (d.1.take (M i.1)) d.2.1,keep:=[0,3],slots:=λi=>[(5,.own 524288 4),(6,.int .i64 i.1)],keepN:=[64],names:=λi=>[(524288,.live (.row 156 fD i.2))]}) cm)})
def SO(a:Int)(b:List cF)(c d e:Int)(f:List Rt):=∃(g:List Rt),am a (a<=O b) (g=mn (take (M a) b) (c,d))/\xw b a e (aA e=a) (bp c d (f=g) True)
theorem aJ4:
 ∀ a b c,dh a/\J (aT b/\aq c)->xA a->(∃ d e,am d (d<=O a) (e=mn (take (M d) a) (b,c))/\a=a/\0=d/\bp b c (e=[]) True)/\ ∀ d e,am d (d<=O a) (e=mn (take (M d) a) (b,c))->au (av d (O a)) (gP d (O a) ( !(cs7 ((N a d).1.1=b)&&(cs7 ((N a d).1.2=c)&&cs8))) (bP d (O a) (aR (N a d).2.1) (zV e (o9 (N a d))/\ ∃ f,SO f a b c d (e++o9 (N a d)))) (∃ f,SO f a b c d e)) (e=mn a (b,c)):= by
  delta N O ap aq aH dh dC cU aT bp aR bi bZ am bR aA J xA av bP SO zV o9 aF gP xw
  rintro l a n ⟨⟨hl0,-⟩,-⟩⟨hl,hx⟩
  refine⟨⟨0,[],⟨Y,Y,by simp[mn]⟩,aI⟩,?_⟩
  rintro i ys ⟨h0,h1,rfl⟩
  refine bT (λhi=>?_) (λhi=>?_)
  .have ht:=YU h0 hi
   have hxi:=hx _ (cW h0 hi)
   have hle:=aq9 (l.take (M i)) (a,n)
   have hle2:V (l.take (M i))<=V l:=by simp only[fF];omega
   generalize T l (M i) cs5=e at *
   have ⟨⟨c,f⟩,g⟩:=e
   refine⟨h0,hi,ay (λhc=>?_) (λhc=>?_)⟩
   .have hc:¬ (c,f)=(a,n):=by
     intro h;cases h;simp at hc
    refine⟨h0,hi,hxi,by simp only[fq];omega,i+1,_,⟨Y,Y,rfl⟩,Y,rfl,aJ Y Y,rfl,rfl,?_,aQ⟩
    rw[ht,Xd,I hc]
   .have hc:(c,f)=(a,n):=by
     simp at hc;rw[hc.1,hc.2]
    refine⟨i+1,_,⟨Y,Y,rfl⟩,Y,rfl,aJ Y Y,rfl,rfl,?_,aQ⟩
    rw[ht,Xd,ao hc,js]
  .rw[gE Y]
theorem cq1:aB 184 Vv.spec:=aG Tryz.func184 (C aC WQ) ci0 aJ4
def tP(l:List Rt)(p:fM):Bool:=cs7 (V (mn l p)<V l)
def aG7:Ct:=⟨[.val (.sl fD),.agg qF],[.val .bool],λd=>[okL d.1],λd=>((tP d.1 d.2.1,()),())⟩
theorem bS4:
 ∀ a b c,dh a/\J (aT b/\aq c)->xA a->okL a/\av (O (mn a (b,c))) (O a)=tP a (b,c):= by
  delta O aq aH dh dC cU aT aR J xA av aF
  rintro l a n-h
  exact⟨h,decide_eq_decide.2 Int.ofNat_lt⟩
theorem bu9:aB 109 aG7.spec:=aG Tryz.func109 (C aC cq1) aS bS4
theorem Xm{z}:z∈gC l r↔z=r∨(z∈l/\z.1≠r.1):=by
 unfold gC
 simp only[dX,dm,cx9,pJ]
 constructor
 .rintro (⟨h,k⟩|h|⟨h,k⟩)
  .exact .inr ⟨h,λe=>wv _ (e▸k)⟩
  .exact .inl h
  .exact .inr ⟨h,λe=>wv _ (e▸k)⟩
 .rintro (h|⟨h,k⟩)
  .exact .inr (.inl h)
  .by_cases hp:cM z.1 r.1
   .exact .inl ⟨h,hp⟩
   .obtain e|e:=Lm hp
    .exact absurd e k
    .exact .inr (.inr ⟨h,e⟩)
theorem TJ(hs:dY l):dY (gC l r):=by
 unfold dY gC
 refine cw9.2 ⟨cI1 _ hs,cu1.2 ⟨λz hz=>?_,cI1 _ hs⟩,λx hx y hy=>?_⟩
 .simpa using (cx9.1 hz).2
 .have hx:cM x.1 r.1:=by simpa using (cx9.1 hx).2
  obtain rfl|hy:=dm.1 hy
  .exact hx
  .exact IH hx (by simpa using (cx9.1 hy).2)
theorem U7(l)(r):V (gC l r)<=V l+1:=by
 unfold gC
 rw[cw,fa]
 suffices h:V (l.filter (λa=>cs7 (cM a.1 r.1)))+V (l.filter (λa=>cs7 (cM r.1 a.1)))<=V l by omega
 induction l with
 | nil=>simp
 | cons a l ih =>
  simp only[cB1];by_cases h1:cM a.1 r.1
  .have h2:=Ec h1;simp only[h1,h2,decide_true,decide_false,if_true,fa];simp;omega
  .by_cases h2:cM r.1 a.1
   .simp[h1,h2];omega
   .simp[h1,h2];omega
theorem aE5(l)(p):tP l p=cs7 (∃ z∈l,z.1=p):=by
 unfold tP mn
 apply decide_eq_decide.2
 rw[List.length_filter_lt_length_iff_exists]
 simp
abbrev w(n:Int):Int:=ct0.wrap n
def Bq(b:aq4)(at':Int):Int×Int:=(w (b.1*b.2),at')
def zH(b t:aq4)(at':Int):Int:=min (w (t.1+w (at'-t.2))) (w (b.1*b.2))
def lx(b t:aq4)(at':Int):aq4×Bool :=
 if b=(0,0) then ((0,max at' t.2),cs8) else
  if zH b t (max at' t.2)<b.2 then ((zH b t (max at' t.2),max at' t.2),ct2) else ((w (zH b t (max at' t.2)-b.2),max at' t.2),cs8)
def bU3:Ct:=⟨[.agg yw],[.val .bool],λ_=>[],λd=>((cs7 (d.1=(0,0)),()),())⟩
theorem aV2:
 ∀ a b,dN (aq a/\aq b) ((aY a&&(aY b&&cs8))=cs7 ((a,b)=((0:Int),(0:Int)))):= by
  delta aq aH aY J dN
  rintro x y - -
  simp
theorem V2:aB 127 bU3.spec:=aG Tryz.func127 aC aS aV2
def b62:Ct:=⟨[.agg yw,.agg AE,.val cI],[.val cI],λ_=>[],λd=>((zH d.1 d.2.1 d.2.2.1,()),())⟩
theorem bp1:
 ∀ a b c d e,(aq a/\aq b)/\(aq c/\aq d)/\J (aq e)->True->min (ap (c+ap (e -d))) (ap (a*b))=zH (a,b) (c,d) e:= by
  delta ap aq aH J
  rintro x y a b c - -
  rfl
theorem bO1:aB 200 b62.spec:=aG Tryz.func200 aC aS bp1
def aC2:Ct:=⟨[.agg yw,.val cI],[.agg AE],λ_=>[],λd=>((Bq d.1 d.2.1,()),())⟩
theorem bv8:
 ∀ a b c,(aq a/\aq b)/\J (aq c)->True->(ap (a*b),c)=(w (a*b),c):= by
  delta ap aq aH J
  rintro x y a - -
  rfl
theorem Zv:aB 124 aC2.spec:=aG Tryz.func124 aC aS bv8
def bp7:Ct:=⟨[.agg yw,.agg AE,.val cI],[.agg AE,.val .bool],λ_=>[],λd=>(((lx d.1 d.2.1 d.2.2.1).1,(lx d.1 d.2.1 d.2.2.1).2,()),())⟩
theorem b35:
 ∀ a b c d e,(aq a/\aq b)/\(aq c/\aq d)/\J (aq e)->True->au (cs7 ((a,b)=((0:Int),(0:Int)))) ((0,max e d)=(lx (a,b) (c,d) e).1/\cs8=(lx (a,b) (c,d) e).2) (au (av (zH (a,b) (c,d) (max e d)) b) ((zH (a,b) (c,d) (max e d),max e d)=(lx (a,b) (c,d) e).1/\ct2=(lx (a,b) (c,d) e).2) ((ap (zH (a,b) (c,d) (max e d) -b),max e d)=(lx (a,b) (c,d) e).1/\cs8=(lx (a,b) (c,d) e).2)):= by
  delta ap aq aH J av
  rintro x y a b c - -
  simp only[lx]
  refine bT (λhb=>?_) (λhb=>?_)
  .rw[ao hb];exact⟨rfl,rfl⟩
  .rw[I hb]
   refine bT (λh=>?_) (λh=>?_)
   .rw[ao h];exact⟨rfl,rfl⟩
   .rw[I h];exact⟨rfl,rfl⟩
theorem Qw:aB 131 bp7.spec:=aG Tryz.func131 (C (C aC V2) bO1) aS b35
def LN(b:aq4):Prop:=b=(0,0)∨(1<=b.1/\b.1<=4/\1<=b.2/\b.2<=1000)
def jJ(b:aq4):Int:=if b=(0,0)∨(1<=b.1/\b.1<=65536/\1<=b.2/\b.2<=1073741824) then 0 else 1
def dc(x:ar):Z:=(aV x).map (·.2)
def vq(x:ar):Z:=(aV x).map (·.1)
def kC(q:Int×Int->Bool)(l:cq7):Int:=if l.findIdx q<V l then (l.findIdx q:Int) else -1
def qb(a:Int)(p:aq4):Bool:=cs7 (p.1=a)
def nN(k:Int)(p:aq4):Bool:=cs7 (p.2=k)
def pT(x:ar)(a:Int):Int:=kC (qb a) (aV x)
def f8(x:ar)(k:Int):Int:=kC (nN k) (aV x)
def qw(x:ar)(a:Int):Bool:=cs7 (0<=pT x a)||(!cs7 (kX x=0)&&cs7 (kX x=a))
theorem KW [Inhabited α] {l:List α} {k:Int} (h0:0<=k) (h1:k<V l):l.take (M (k+1))=l.take (M k)++[T l (M k) cs5]:=by
 rw[show M (k+1)=M k+1 by omega,List.take_add_one,cT Y,cK,cT Y];rfl
def bT8:Ct:=⟨[.agg yw],[.val cI],λ_=>[],λd=>((jJ d.1,()),())⟩
def wC(a b:Bool):=a->(a->a)/\J (b=ct2->a&& !b)
theorem bf5:
 ∀ a b,dN (aq a/\aq b) (∀ c,c=( !cs7 ((a,b)=((0:Int),(0:Int))))->cB c c (aK c) (c->aK c) (∀ d,d=av a 1->cB (c&& !d) (c&& !d) (aK (c&& !d)) (wC c d) ((c->aK c)/\ ∀ e,e=br d (av 65536 a)->cB (c&& !e) (c&& !e) (aK (c&& !e)) (wC c e) ((c->aK c)/\ ∀ f,f=br e (av b 1)->cB (c&& !f) (c&& !f) (aK (c&& !f)) (wC c f) ((c->c)/\au (bq c (br f (av 1073741824 b))) (1=jJ (a,b)) (0=jJ (a,b))))))):= by
  delta aq aH aK cB br bq J wC av dN
  rintro a b - -
  (repeat (refine cG ?_;repeat refine cH ?_))
  unfold jJ
  refine ay (λh=>?_) (λh=>?_)
  .simp at h
   rw[I (by simp;omega)]
  .simp at h
   rw[ao (by simp;omega)]
theorem ad5:aB 62 bT8.spec:=aG Tryz.func62 (C aC V2) aS bf5
def cm2:Ct:=⟨[.val dB],[.val .bool],λd=>[],λd=>((cs7 (gm d.1),()),())⟩
theorem a17:
 NH:= by
 delta bN aK aT br bw aY J dN NH aF
 rintro a - -
 (repeat (refine cG ?_;repeat refine cH ?_))
 rw[AR,uq];simp[gm,lY]
theorem av5:aB 233 cm2.spec:=aG Tryz.func233 (C aC KJ) aS a17
def bB9:Ct:=⟨[.agg yB,.box 72 dB],[.val .bool],λd=>[],λd=>((qb d.2.1 d.1,()),(d.2.1,()))⟩
theorem ci5:
 ∀ a b c,(aT a/\aq b)/\J (aT c)->True->cs7 (a=c)=qb c (a,b)/\c=c:= by
  delta aq aH aT J aF
  rintro a b c - -
  exact⟨rfl,rfl⟩
theorem aB8:aB 272 bB9.spec:=aG Tryz.func272 aC aS ci5
def ck1:Ct:=⟨[.agg yB,.box 3 cI],[.val .bool],λd=>[],λd=>((nN d.2.1 d.1,()),(d.2.1,()))⟩
theorem a63:
 ∀ a b c,(aT a/\aq b)/\J (aq c)->True->cs7 (b=c)=nN c (a,b)/\c=c:= by
  delta aq aH aT J aF
  rintro a b c - -
  exact⟨rfl,rfl⟩
theorem bQ0:aB 238 ck1.spec:=aG Tryz.func238 aC aS a63
def VC:Ct:=⟨[.val (.sl yB),.fn 272 1,.box 72 dB],[.val cI],λd=>[],λd=>((kC (qb d.2.2.1) d.1,()),(d.2.2.1,()))⟩
def a83:bG VC.ps->bL:=(λd=>{loops:=(bz 2 (λS=>{ι:=Int,μ:=λi=>M (V d.1-i),inv:=λi=>0<=i/\i<=V d.1∧∀ x∈d.1.take (M i),qb d.2.2.1 x=ct2,keep:=[0,1,6,7],slots:=λi=>[(8,.int .i64 i)],keepN:=[1048576]}) cm)})
def kL(a:cq7):=V a<=cu5/\ ∀(b:aq4),b∈a->aT b.1/\aq b.2
def Nr(a:Int)(b:cq7)(c:Int):=am a (a<=O b) (∀(d:aq4),d∈take (M a) b->qb c d=ct2)
def LY(a:cq7)(b c d:Int):=bi (O a) b c/\a=a/\a=a/\O a=O a/\aA c=b/\J (d=d)
theorem bz2:
 ∀ a b,kL a/\True/\J (aT b)->True->(∃ c,Nr c a b/\a=a/\a=a/\O a=O a/\0=c/\J (b=b))/\ ∀ c,Nr c a b->eh c (O a) (c<O a) (au (qb b (N a c)) (c=kC (qb b) a/\b=b) (∃ d,Nr d a b/\LY a d c b)) ((-1)=kC (qb b) a) (b=b):= by
  delta N O ap aq aH aT bi bZ am eh aA J kL av Nr LY aF
  rintro l a ⟨⟨hl,-⟩,-⟩ -
  simp only[cu5] at hl
  refine⟨⟨0,⟨Y,Y,aw⟩,aI⟩,?_⟩
  rintro j ⟨j0,j1,hj⟩
  refine bT (λhk=>?_) (λhk=>?_)
  .refine⟨j0,hk,ay (λhm=>?_) (λhm=>?_)⟩
   .exact⟨F0 j0 hk hj hm,rfl⟩
   .exact⟨j+1,⟨Y,Y,yD j0 hk hj hm⟩,Y,aI⟩
  .exact⟨Ii hk hj,rfl⟩
theorem ck7:aB 237 VC.spec:=aG Tryz.func237 (C aC aB8) a83 bz2
def Ym:Ct:=⟨[.val (.sl yB),.fn 238 1,.box 3 cI],[.val cI],λd=>[],λd=>((kC (nN d.2.2.1) d.1,()),(d.2.2.1,()))⟩
def be5:bG Ym.ps->bL:=(λd=>{loops:=(bz 2 (λS=>{ι:=Int,μ:=λi=>M (V d.1-i),inv:=λi=>0<=i/\i<=V d.1∧∀ x∈d.1.take (M i),nN d.2.2.1 x=ct2,keep:=[0,1,6,7],slots:=λi=>[(8,.int .i64 i)],keepN:=[1048576]}) cm)})
def NJ(a:Int)(b:cq7)(c:Int):=am a (a<=O b) (∀(d:aq4),d∈take (M a) b->nN c d=ct2)
theorem ca3:
 ∀ a b,kL a/\True/\J (aq b)->True->(∃ c,NJ c a b/\a=a/\a=a/\O a=O a/\0=c/\J (b=b))/\ ∀ c,NJ c a b->eh c (O a) (c<O a) (au (nN b (N a c)) (c=kC (nN b) a/\b=b) (∃ d,NJ d a b/\LY a d c b)) ((-1)=kC (nN b) a) (b=b):= by
  delta N O ap aq aH aT bi bZ am eh aA J kL av NJ LY aF
  rintro l a ⟨⟨hl,-⟩,-⟩ -
  simp only[cu5] at hl
  refine⟨⟨0,⟨Y,Y,aw⟩,aI⟩,?_⟩
  rintro j ⟨j0,j1,hj⟩
  refine bT (λhk=>?_) (λhk=>?_)
  .refine⟨j0,hk,ay (λhm=>?_) (λhm=>?_)⟩
   .exact⟨F0 j0 hk hj hm,rfl⟩
   .exact⟨j+1,⟨Y,Y,yD j0 hk hj hm⟩,Y,aI⟩
  .exact⟨Ii hk hj,rfl⟩
theorem aO8:aB 237 Ym.spec:=aG Tryz.func237 (C aC bQ0) be5 ca3
def bU6:Ct:=⟨[.agg eM,.val dB],[.val cI],λd=>[],λd=>((pT d.1 d.2.1,()),())⟩
theorem aD6:
 ∀ a b,CT.wf eM a/\J (aT b)->True->kC (qb b) a.1=pT a b:= by
  delta aT J aF
  rintro d x - -
  rfl
theorem ag2:aB 234 bU6.spec:=aG Tryz.func234 (C aC ck7) aS aD6
def bl4:Ct:=⟨[.agg eM,.val cI],[.val cI],λd=>[],λd=>((f8 d.1 d.2.1,()),())⟩
theorem a33:
 ∀ a b,CT.wf eM a/\J (aq b)->True->kC (nN b) a.1=f8 a b:= by
  delta aq aH J
  rintro d x - -
  rfl
theorem JD:aB 190 bl4.spec:=aG Tryz.func190 (C aC aO8) aS a33
def aJ3:Ct:=⟨[.agg eM,.val dB],[.val .bool],λd=>[],λd=>((qw d.1 d.2.1,()),())⟩
theorem bs5:
 ∀ a b,CT.wf eM a/\J (aT b)->True-> ∀ c,c=pT a b-> ∀ d,d=fH c->cQ d (bN d) (∀ e,e=( !aY a.2.1)->cB ( !d&&e) ( !d&&e) (dE ( !d&&e)) (BD d e) (bw d/\br d (lW e a.2.1 b)=qw a b)):= by
  delta bN aK aT cB br bq cQ bw aY J dE fH BD lW aF
  rintro d x - - q hq
  unfold qw
  rw[show kX d=d.2.1 from rfl,← hq]
  generalize d.2.1=z
  intro b hb
  refine⟨aw,aw,aw,?_⟩
  intro b1 hb1
  (repeat refine⟨(by cases b <;> cases b1 <;> simp),?_⟩)
  rw[hb,hb1]
  cases cs7 (0<=q) <;> cases cs7 (z=0) <;> cases cs7 (z=x) <;> rfl
theorem aT0:aB 246 aJ3.spec:=aG Tryz.func246 (C aC (Ct.named ag2)) aS bs5
def Vd:Ct:=⟨[.agg eM],[.own 3 cI],λd=>[V (aV d.1)<=100000],λd=>((dc d.1,()),())⟩
def aP0:bG Vd.ps->bL:=(λd=>{loops:=(bz 3 (λS=>{ι:=Int×Z,qn:=fE,μ:=λi=>M (V (aV d.1)-i.1),inv:=λi=>0<=i.1/\i.1<=V (aV d.1)/\i.2=(dc d.1).take (M i.1),keep:=[1,7,8],slots:=λi=>[(3,.own 524288 1),(9,.int .i64 i.1)],keepN:=[32],names:=λi=>[(524288,.live (.row 3 cI i.2))]}) cm)})
def D0(a:ar)(b c:Prop):=bh a.2.2.2.2.2.2.2.2.1 a.2.2.2.2.2.2.2.2.2.1 a.2.2.2.2.2.2.2.2.2.2.1.1 (a.2.2.2.2.2.2.2.2.2.2.1.2=a.2.2.2.2.2.2.2.2.2.2.1.2) (a.2.2.2.2.2.2.2.2.2.2.2.1=a.2.2.2.2.2.2.2.2.2.2.2.1/\a.2.2.2.2.2.2.2.2.2.2.2.2.1=a.2.2.2.2.2.2.2.2.2.2.2.2.1/\b/\c)
def yS(a:ar)(b c:Prop):=bp a.2.1 a.2.2.1 (a.2.2.2.1=a.2.2.2.1) (a.2.2.2.2.1=a.2.2.2.2.1/\bp a.2.2.2.2.2.1 a.2.2.2.2.2.2.1 (a.2.2.2.2.2.2.2.1=a.2.2.2.2.2.2.2.1) (D0 a b c))
def yJ(a:ar):=a.2.2.2.2.2.2.2.2.2.2.2.2.2.1=a.2.2.2.2.2.2.2.2.2.2.2.2.2.1
def t9(a:ar):=a.2.2.2.2.2.2.2.2.2.2.2.2.2.2=a.2.2.2.2.2.2.2.2.2.2.2.2.2.2
def vJ(a b:Z):=bR ((V a+V b)*8)
def AM(a:ar)(b c:Prop):=a.1=a.1/\yS a (yJ a) (b/\c)
def Hv(a:ar)(b c:Int)(d e:Z):=bi (O (aV a)) b c/\a.1=a.1/\O a.1=O a.1/\aA c=b/\AM a (t9 a) (J (d=e))
def sr(a:cq7):=V a<=100000
def LU(a:ar):=J (CT.wf eM a)->sr (aV a)->(∃(b:Int) (c:Z),f9 b (O (aV a)) c (take (M b) (dc a))/\a.1=a.1/\O a.1=O a.1/\0=b/\AM a (t9 a) (J (c=[])))/\ ∀(b:Int)(c:Z),f9 b (O (aV a)) c (take (M b) (dc a))->au (av b (O a.1)) (bP b (O a.1) (vJ c (bI (N a.1 b).2)) (∃(d:Int) (e:Z),f9 d (O (aV a)) e (take (M d) (dc a))/\Hv a d b (c++bI (N a.1 b).2) e)) (c=dc a)
theorem aL2:
 ∀ a,LU a:= by
  delta N O ap D0 bh bp yS bi bZ am yJ t9 bR LU aA J bI av bP f9 vJ AM Hv sr
  rintro d-hl
  have hlen:V (dc d)=V (aV d):=by simp[dc]
  refine⟨⟨0,[],⟨Y,Y,rfl⟩,aI⟩,?_⟩
  rintro j l ⟨j0,j1,rfl⟩
  have hd:d.1=aV d:=rfl
  rw[hd]
  refine bT (λhk=>?_) (λhk=>?_)
  .refine⟨j0,hk,by simp only[fF,fa,List.length_nil];omega,j+1,_,⟨Y,Y,rfl⟩,Y,?_⟩
   (repeat refine g9 ?_)
   refine⟨?_,aQ⟩
   rw[KW j0 (by rw[hlen];exact hk)]
   unfold dc
   rw[cK,cK,List.getElem?_map,cT Y]
   rfl
  .rw[gE Y]
theorem as3:aB 236 Vd.spec:=aG Tryz.func236 aC aP0 aL2
abbrev DW:CT := .pair dB (.pair cI (.pair cI (.pair cI (.pair cI (.pair cI cI)))))
abbrev ja:CT := .pair (.sl DW) yw
abbrev wg:CT := .pair cI (.pair cI cI)
def sf(t:DW.D):Prop:=t.1/16777216=10/\(t.2.1=1∨t.2.1=6∨t.2.1=17)/\(0<=t.2.2.1/\t.2.2.1<=9)/\(1<=t.2.2.2.1/\t.2.2.2.1<=9)/\(0<=t.2.2.2.2.1/\t.2.2.2.2.1<=199)/\(1<=t.2.2.2.2.2.1/\t.2.2.2.2.2.1<=99)/\1<=t.2.2.2.2.2.2/\t.2.2.2.2.2.2<=9
def mT(p:ja.D):Prop:=V p.1<=24/\(∀ t∈p.1,sf t)/\jJ p.2=0
def VH:Ct:=⟨[.agg DW],[.val cI],λd=>[sf d.1],λ_=>((0,()),())⟩
def aT4:bG VH.ps->bL:=(λd=>{cuts:=(bz 6 (λS=>{ι:=Unit,inv:=λi=>True,keep:=[1,2],slots:=λi=>[],keepN:=[32]}) (bz 13 (λS=>{ι:=Unit,inv:=λi=>True,keep:=[1,2],slots:=λi=>[],keepN:=[32]}) cm))})
def vK(a:Prop):=∃(b:Unit),True/\a
def yT(a:Int×bu):=vK (bh 0 a.1 a.2.1 (a.2.2.1=a.2.2.1) (bh a.2.2.2.1 a.2.2.2.2.1 a.2.2.2.2.2.1 (a.2.2.2.2.2.2=a.2.2.2.2.2.2) True))
theorem ay7:
 ∀(a:Int×bu),J (CT.wf DW a)->a.1/16777216=10/\(a.2.1=1∨a.2.1=6∨a.2.1=17)/\aF a.2.2.1 9/\(1<=a.2.2.2.1/\a.2.2.2.1<=9)/\aF a.2.2.2.2.1 199/\(1<=a.2.2.2.2.2.1/\a.2.2.2.2.2.1<=99)/\1<=a.2.2.2.2.2.2/\a.2.2.2.2.2.2<=9->au (gO a.2.1) (au (gO a.2.1) (yT a) ((16:Int)=(0:Int))) (au (cs7 (a.2.1=6)) (au (cs7 (a.2.1=6)) (yT a) ((16:Int)=(0:Int))) (au (cs7 (a.2.1=17)) (yT a) ((16:Int)=(0:Int))))/\ ∀(b:Unit),True->vO (da a.2.2.1) (av 1023 a.2.2.1) ((1:Int)=(0:Int)) (yT a) (vO (av a.2.2.2.1 1) (av 255 a.2.2.2.1) ((1:Int)=(0:Int)) (yT a) (vO (da a.2.2.2.2.1) (wR a.2.2.2.2.1) ((1:Int)=(0:Int)) (yT a) (vO (av a.2.2.2.2.2.1 1) (av 1099511627776 a.2.2.2.2.2.1) ((1:Int)=(0:Int)) (yT a) (vO (av a.2.2.2.2.2.2 1) (av 1000 a.2.2.2.2.2.2) ((1:Int)=(0:Int)) (yT a) (au (wR (ap (a.2.2.2.2.1+ap (ap (a.2.2.2.2.2.2
 -1)*a.2.2.2.2.2.1)))) ((1:Int)=(0:Int)) (yT a))))))/\ ∀(c:Unit),True->AS ( !aY (jy a.1)) (db (jy a.1) 3) ((10:Int)=(0:Int)) ((0:Int)=(0:Int)):= by
  delta ap bN aK bh bp br bq yT cQ bw aY vO J AS da av db gO wR aF vK
  rintro d-⟨h1,h2,⟨f0,f1⟩,⟨l0,l1⟩,⟨s0,s1⟩,⟨e0,e1⟩,c0,c1⟩
  refine⟨?_,λ_ _=>⟨?_,λ_ _=>?_⟩⟩
  .refine ay (λk=>ay (λ_=>⟨(),aQ,aI⟩) (λq=>by rw[k] at q;cases q)) (λk1=>ay (λk=>ay (λ_=>⟨(),aQ,aI⟩) (λq=>by rw[k] at q;cases q)) (λk2=>ay (λ_=>⟨(),aQ,aI⟩) (λk3=>?_)))
   have:=bg k1
   have:=bg k2
   have:=bg k3
   omega
  .iterate 5 ((repeat (refine cG ?_;repeat refine cH ?_));refine ay (λq=>by rw[gH Y,gH Y] at q;cases q) (λ_=>?_))
   have p:=Int.mul_le_mul (show d.2.2.2.2.2.2-1<=8 by omega) e1 Y Y
   have p0:=Int.mul_nonneg (show 0<=d.2.2.2.2.2.2-1 by omega) (show 0<=d.2.2.2.2.2.1 by omega)
   rw[aJ (n:=d.2.2.2.2.2.2-1) Y Y,aJ (n:=(d.2.2.2.2.2.2-1)*_) Y Y,aJ Y Y]
   exact ay (λq=>by rw[gH Y] at q;cases q) (λ_=>⟨(),aQ,aI⟩)
  .have e:jy d.1=3:=by unfold jy;rw[I Y,I Y,ao (.inl h1)]
   rw[e]
   (repeat (refine cG ?_;repeat refine cH ?_))
   exact ay (λq=>absurd q aD) (λ_=>rfl)
theorem a13:aB 61 VH.spec:=aG Tryz.func61 (C aC KJ) aT4 ay7
def Xx:Ct:=⟨[.agg ja],[.val cI],λd=>[V d.1.1<=24,∀ t∈d.1.1,sf t,jJ d.1.2=0],λ_=>((0,()),())⟩
def aH9:bG Xx.ps->bL:=(λd=>{loops:=(bz 4 (λS=>{ι:=Int,μ:=λi=>M (V d.1.1-i),inv:=λi=>0<=i/\i<=V d.1.1,keep:=[1,2,11,12],slots:=λi=>[(13,.int .i64 i)],keepN:=[32]}) cm)})
def sj(a:List (Int×bu))(b c:Int):=(V a<=cu5/\ ∀(d:Int×bu),d∈a->aT d.1/\bJ d.2.1 d.2.2.1 (aq d.2.2.2.1) (aq d.2.2.2.2.1/\aq d.2.2.2.2.2.1/\aq d.2.2.2.2.2.2))/\aq b/\aq c
def wq(a:List (Int×bu))(b c:Int):=V a<=24/\(∀(d:Int×bu),d∈a->sf d)/\jJ (b,c)=0
theorem bV7:
 ∀ a b c,J (sj a b c)->wq a b c->au (av 64 (O a)) ((5:Int)=(0:Int)) ((∃ d,aF d (O a)/\(0:Int)=(0:Int)/\a=a/\O a=O a/\0=d/\a=a/\qK b c)/\ ∀ d,aF d (O a)->au (av d (O a)) (bP d (O a) (sf (N a d)) (∃ e,rW e (O a) d ((0:Int)=(0:Int)) (a=a/\O a=O a/\aA d=e/\a=a/\qK b c))) (jJ (b,c)=0)):= by
  delta N O ap aq aH aT bi bZ am sj bJ aA J wq av bP qK rW aF
  rintro x u v-⟨h1,h2,h3⟩
  refine ay (λk=>by have k:=aX k;omega) (λ_=>⟨⟨0,⟨Y,Y⟩,aI⟩,?_⟩)
  rintro i ⟨i0,i1⟩
  refine ay (λk=>?_) (λ_=>h3)
  have k:=aX k
  exact⟨i0,k,h2 _ (cW i0 k),i+1,⟨Y,Y⟩,Y,rfl,rfl,rfl,aJ Y Y,aI⟩
theorem bS2:aB 30 Xx.spec:=aG Tryz.func30 (C (C aC a13) ad5) aH9 bV7
abbrev jn:Type:=Int×Int×Int×Z
def jj(r:bv):oI:=r.2.2.2.2.2.2.2.2.2.2.2
def oZ(r:bv):Int:=if r.2.2.2.2.2.2.2.2.1=cs8 then 1 else 0
def qq(r:bv):Int:=oZ r+(if r.2.2.2.2.2.2.2.2.2.1=cs8 then 2 else 0)
def oE(r:bv):List cr8:=[(r.1,1),(r.2.1,1),(r.2.2.1,2),(r.2.2.2.1,7),(r.2.2.2.2.1,4),(r.2.2.2.2.2.1,1),(r.2.2.2.2.2.2.1,2),(r.2.2.2.2.2.2.2.1,1),(qq r,1),(r.2.2.2.2.2.2.2.2.2.2.1,7),((jj r).1,4),((jj r).2.1,1),((jj r).2.2.1,1),((jj r).2.2.2.1,1),((jj r).2.2.2.2.1,2),((jj r).2.2.2.2.2,1)]
def jq:List cr8->Z
 | []=>[]
 | p::l=>fu p.1 p.2 p.2++jq l
def mz:List cr8->Nat
 | []=>0
 | p::l=>p.2+mz l
def fits(p:cr8):Prop:=1<=p.2/\p.2<=7/\0<=p.1/\p.1<256^p.2
def fX(r:bv):Z:=jq (oE r)
structure oa (r:bv):Prop where
 v:0<=r.1/\r.1<=15
 u:0<=r.2.1/\r.2.1<=63
 n:0<=r.2.2.1/\r.2.2.1<=999
 t:0<=r.2.2.2.1/\r.2.2.2.1<=r.2.2.2.2.2.2.2.2.2.2.1/\r.2.2.2.2.2.2.2.2.2.2.1<=2251799813685248
 d:0<=r.2.2.2.2.1/\r.2.2.2.2.1<=4294967295
 p:r.2.2.2.2.2.1=1∨r.2.2.2.2.2.1=6∨r.2.2.2.2.2.1=17
 f:0<=r.2.2.2.2.2.2.1/\r.2.2.2.2.2.2.1<=1023
 l:1<=r.2.2.2.2.2.2.2.1/\r.2.2.2.2.2.2.2.1<=255
 a0:r.2.2.2.2.2.2.2.2.1=ct2->r.2.2.2.2.2.2.2.2.2.1=ct2/\jj r=Bh
 af:0<=(jj r).1/\(jj r).1<=4294967295
 ak:r.2.2.2.2.2.2.2.2.1=cs8->1<=(jj r).2.1/\(jj r).2.1<=5
 an:(0<=(jj r).2.2.1/\(jj r).2.2.1<=255)/\(0<=(jj r).2.2.2.1/\(jj r).2.2.2.1<=255)/\(0<=(jj r).2.2.2.2.1/\(jj r).2.2.2.2.1<=65535)/\(0<=(jj r).2.2.2.2.2/\(jj r).2.2.2.2.2<=255)
theorem A5:∀ l,V (jq l)=mz l
 | []=>rfl
 | p::l=>by rw[jq,cw,Ay,A5 l];rfl
theorem OA:∀ a b,jq (a++b)=jq a++jq b
 | [],b=>rfl
 | p::a,b=>by rw[kQ,jq,OA a b,jq,gI]
theorem al9(n)(w):∀ k,k<=w->gk (fu n w k)=n/256^(w-k)%256^k
 | 0,_=>by simp[fu,gk]
 | k+1,h=>by
  rw[ah9,RQ,al9 n w k Y,show w-k=(w-(k+1))+1 by omega,show w-1-k=w-(k+1) by omega,cW9,← cN9 (Int.pow_nonneg aD),cW9];generalize n/256^(w-(k+1))=m;have hP:(0:Int)<256^k:=Int.pow_pos aD;generalize (256:Int)^k=P at hP;have e1:=cQ1 m (256*P);have e2:=cQ1 (m/256) P;have e3:m/256/P=m/(256*P):=cN9 aD;rw[e3] at e2;rw[Int.mul_assoc] at e1;rw[Int.mul_comm P 256];generalize P*(m/(256*P))=X at e1 e2;generalize m%(256*P)=S at *;omega
variable{l:List cr8}{k:Nat}
theorem VD(h:∀ p∈l,fits p)(hk:k<V l)(s):bM (jq l++s) (mz (l.take k)) (T l k cs5).2=(T l k cs5).1/\lS (jq l++s) (mz (l.take k)) (T l k cs5).2=0/\mz (l.take k)+(T l k cs5).2<=V (jq l):=by
 have e:l=l.take k++l[k]::l.drop (k+1):=by rw[← sM hk,mj]
 have hf:=h _ (cv2 hk)
 rw[cK,cT hk,jb]
 generalize l[k]=p at *
 generalize l.drop (k+1)=c at *
 have ea:=A5 (l.take k)
 generalize l.take k=a at *
 rw[e,OA,jq]
 have ⟨h1,h2,h3,h4⟩:=hf
 have hb:=Ay p.1 p.2 p.2
 have q:((jq a++(fu p.1 p.2 p.2++jq c)++s).drop (M (mz a:Int))).take (M (p.2:Int))=fu p.1 p.2 p.2:=by
  rw[cv6,cv6,gI,← ea,List.drop_left,gI];exact cH5 hb
 have ln:V (jq a++(fu p.1 p.2 p.2++jq c)++s)=mz a+(p.2+(V (jq c)+V s)):=by
  simp only[cw,hb,ea];omega
 refine⟨?_,?_,by simp only[cw,hb,ea];omega⟩
 .unfold bM;rw[I Y,q,al9 _ _ _ (dq _),Nat.sub_self,Int.pow_zero,Int.ediv_one,cD3 h3 h4]
 .unfold lS;rw[I Y,I Y]
theorem mN{m w}(h:0<=n/\n<=m)(hw:1<=w/\w<=7)(hm:m<256^w):fits (n,w):=⟨hw.1,hw.2,h.1,Int.lt_of_le_of_lt h.2 hm⟩
variable{r:bv}
theorem oa.fits(h:oa r):∀ p∈oE r,fits p:=by
 have ⟨v,u,n,t,d,p,f,l,a0,af,ak,⟨n1,n2,n3,n4⟩⟩:=h
 have hk:0<=(jj r).2.1/\(jj r).2.1<=255:=by
  cases e:r.2.2.2.2.2.2.2.2.1 with
  | true=>have:=ak e;omega
  | false=>rw[(a0 e).2];exact⟨aD,aD⟩
 have hg:0<=qq r/\qq r<=255:=by unfold qq oZ;split <;> split <;> omega
 intro q hq
 simp only[oE,dm,List.not_mem_nil,or_false] at hq
 obtain rfl|rfl|rfl|rfl|rfl|rfl|rfl|rfl|rfl|rfl|rfl|rfl|rfl|rfl|rfl|rfl:=hq
 .exact mN v aD aD
 .exact mN u aD aD
 .exact mN n aD aD
 .exact mN ⟨t.1,cJ4 t.2.1 t.2.2⟩ aD aD
 .exact mN d aD aD
 .exact mN (m:=17) Y aD aD
 .exact mN f aD aD
 .exact mN (m:=255) Y aD aD
 .exact mN hg aD aD
 .exact mN ⟨cJ4 t.1 t.2.1,t.2.2⟩ aD aD
 .exact mN af aD aD
 .exact mN hk aD aD
 .exact mN n1 aD aD
 .exact mN n2 aD aD
 .exact mN n3 aD aD
 .exact mN n4 aD aD
theorem Sd(r):V (fX r)=37:=A5 _
theorem ab4:(∀ p∈l,fits p)→∀ b,l.foldl (λb p=>putB b p.1 p.2) b=b++jq l:=by
 induction l with
 | nil=>exact λ_ b=>(js b).symm
 | cons p l ih =>
  intro h b;have ⟨h1,h2,h3,h4⟩:=h p dU;rw[cx7,ih (λq hq=>h q (eZ _ hq)),jq,← gI];congr 1;unfold putB;rw[I,cv6];unfold wB;rw[cv6];omega
theorem bY1(r):bits .and .i64 (qq r) 1=if r.2.2.2.2.2.2.2.2.1=cs8 then 1 else 0:=by
 unfold qq oZ;cases r.2.2.2.2.2.2.2.2.1 <;> cases r.2.2.2.2.2.2.2.2.2.1 <;> rfl
theorem br9(r):bits .and .i64 (qq r) 2=if r.2.2.2.2.2.2.2.2.2.1=cs8 then 2 else 0:=by
 unfold qq oZ;cases r.2.2.2.2.2.2.2.2.1 <;> cases r.2.2.2.2.2.2.2.2.2.1 <;> rfl
def HA(r:bv)(k:Nat):Int×Nat:=T (oE r) k cs5
def gM(r:bv)(k:Nat):Z:=jq ((oE r).take k)
theorem X9(h:oa r)(hk:k<16):putB (gM r k) (HA r k).1 (HA r k).2=gM r (k+1):=by
 have hk:=hk
 have e:=ab4 (l:=[HA r k]) (λp hp=>by rw[iV.1 hp];unfold HA;rw[cK,cT hk];exact h.fits _ (cv2 hk)) (gM r k)
 refine e.trans ?_
 unfold gM HA
 rw[Df hk,OA,cK,cT hk];rfl
theorem bE2(l):∀ k,mz (l.take k)<=mz l:=by
 induction l with
 | nil=>exact λk=>by rw[List.take_nil];exact dq _
 | cons p l ih =>
  intro k;cases k with
  | zero=>exact Nat.zero_le _
  | succ k=>have:=ih k;simp only[List.take_succ_cons,mz];omega
theorem au4(r)(k):(V (gM r k):Int)<=1000000:=by
 unfold gM
 rw[A5]
 have:=bE2 (oE r) k
 have:mz (oE r)=37:=rfl
 omega
def pN(b:Z)(k:Nat):Int:=bM b (mz ((oE cs5).take k)) (T (oE cs5) k cs5).2
def xX(b:Z):bv:=(pN b 0,pN b 1,pN b 2,pN b 3,pN b 4,pN b 5,pN b 6,pN b 7,cs7 (bits .and .i64 (pN b 8) 1=1),cs7 (bits .and .i64 (pN b 8) 2=2),pN b 9,pN b 10,pN b 11,pN b 12,pN b 13,pN b 14,pN b 15)
theorem pC(h:oa r)(hk:k<16):pN (fX r) k=(T (oE r) k cs5).1/\lS (fX r) (mz ((oE cs5).take k)) (T (oE cs5) k cs5).2=0:=by
 have e:=VD h.fits (k:=k) hk []
 rw[js] at e
 have e1:mz ((oE r).take k)=mz ((oE cs5).take k):=by
  have:∀ k,k<16->mz ((oE r).take k)=mz ((oE cs5).take k):=by
   intro k hk;have:k=0∨k=1∨k=2∨k=3∨k=4∨k=5∨k=6∨k=7∨k=8∨k=9∨k=10∨k=11∨k=12∨k=13∨k=14∨k=15:=Y;obtain rfl|rfl|rfl|rfl|rfl|rfl|rfl|rfl|rfl|rfl|rfl|rfl|rfl|rfl|rfl|rfl:=this <;> rfl
  exact this k hk
 have e2:(T (oE r) k cs5).2=(T (oE cs5) k cs5).2:=by
  have:k=0∨k=1∨k=2∨k=3∨k=4∨k=5∨k=6∨k=7∨k=8∨k=9∨k=10∨k=11∨k=12∨k=13∨k=14∨k=15:=Y;obtain rfl|rfl|rfl|rfl|rfl|rfl|rfl|rfl|rfl|rfl|rfl|rfl|rfl|rfl|rfl|rfl:=this <;> rfl
 rw[e1,e2] at e
 exact⟨e.1,e.2.1⟩
theorem Z8(h:oa r):xX (fX r)=r:=by
 unfold xX
 rw[(pC h (k:=0) aD).1,(pC h (k:=1) aD).1,(pC h (k:=2) aD).1,(pC h (k:=3) aD).1,(pC h (k:=4) aD).1,(pC h (k:=5) aD).1,(pC h (k:=6) aD).1,(pC h (k:=7) aD).1,(pC h (k:=8) aD).1,(pC h (k:=9) aD).1,(pC h (k:=10) aD).1,(pC h (k:=11) aD).1,(pC h (k:=12) aD).1,(pC h (k:=13) aD).1,(pC h (k:=14) aD).1,(pC h (k:=15) aD).1]
 have e1:=bY1 r
 have e2:=br9 r
 have e3:(T (oE r) 8 cs5).1=qq r:=rfl
 rw[e3,e1,e2]
 have ⟨a,b,c,d,e,f,g,i,x,y,z⟩:=r
 cases x <;> cases y <;> rfl
def cj6:Ct:=⟨[.nils,.val cI],[.own 5 bc],λd=>[0<=d.2.1,d.2.1<=1073741824],λd=>(([],()),())⟩
theorem aD3:
 ∀ a,True/\J (aq a)->aF a 1073741824->au (da a) False (au (av 0 (wa a)) (bp 0 0 (0<=wa a) (wa a*(↑((1:Nat)):Int)<=140737488355328/\f9 0 (O (replicate (M (wa a)) (0:Int))) (take (M 0) (replicate (M (wa a)) 0)) [])) (fL [])):= by
  delta O ap aq aH bp am J da av f9 wa aF fL
  rintro x-⟨h0,h1⟩
  rw[aJ (n:=(0:Int)-0) Y Y,aJ Y Y]
  refine ay (λhb=>?_) (λhb=>ay (λhb=>?_) (λhb=>rfl))
  .have:=aX hb;omega
  .refine⟨rfl,rfl,Y,Y,Y,by simp only[wU];omega,aw⟩
theorem at9:aB 229 cj6.spec:=aG Tryz.func229 (JW aC (d:=25)) aS aD3
def VX:Ct:=⟨[.val (.sl (.sl bc))],[.own 5 bc],λd=>[(V d.1.flatten:Int)<=1073741824],λd=>((d.1.flatten,()),())⟩
def aU7:bG VX.ps->bL:=(λd=>{loops:=(bz 3 (λS=>{ι:=Int×Int,qn:=fE,μ:=λi=>M (V d.1-i.1),inv:=λi=>0<=i.1/\i.1<=V d.1/\i.2=((d.1.take (M i.1)).flatten.length:Int),keep:=[0,9,10],slots:=λi=>[(3,.int .i64 i.2),(11,.int .i64 i.1)]}) (bz 11 (λS=>{ι:=Int×Z,qn:=fE,μ:=λi=>M (V d.1-i.1),inv:=λi=>0<=i.1/\i.1<=V d.1/\i.2=(d.1.take (M i.1)).flatten,keep:=[25,26],slots:=λi=>[(6,.own 524288 1),(27,.int .i64 i.1)],names:=λi=>[(524288,.live (.row 5 bc i.2))]}) cm))})
def uk(a:bg4):=V a<=cu5/\ ∀(b:Z),b∈a->aM b
def K2(a:Int)(b:bg4)(c:Int):=am a (a<=O b) (c=O (cw2 (take (M a) b)))
theorem cm8:
 ∀ a,J (uk a)->fy (cw2 a)->(∃ b c,K2 b a c/\a=a/\0=c/\a=a/\O a=O a/\J (0=b))/\ ∀ b c,K2 b a c->au (av b (O a)) (gP b (O a) (da (ap (c+O (N a b)))) False (∃ d e,K2 d a e/\bi (O a) d b/\a=a/\ap (c+O (N a b))=e/\a=a/\O a=O a/\J (aA b=d))) (bo c 1073741824 (∃ d e,f9 d (O a) e (cw2 (take (M d) a))/\a=a/\O a=O a/\0=d/\J (fL e)) (∀ d e,f9 d (O a) e (cw2 (take (M d) a))->au (av d (O a)) (bP d (O a) (gb e (N a d)) (∃ f g,f9 f (O a) g (cw2 (take (M f) a))/\bi (O a) f d/\a=a/\O a=O a/\aA d=f/\J (e++N a d=g))) (e=cw2 a))):= by
  delta N O ap aM bi bZ am gb bR bo aA J fy uk da av bP f9 K2 aF gP fL
  rintro x ⟨⟨hl,-⟩,-⟩ ht
  simp only[cu5] at hl
  refine⟨⟨0,0,⟨Y,Y,aw⟩,aI⟩,?_⟩
  rintro j s ⟨h0,h1,h2⟩
  have hle:=FU x (M j)
  refine ay (λhb=>?_) (λhb=>?_)
  .have hb:=aX hb
   have e:=JI h0 hb
   have hle2:=FU x (M (j+1))
   have el:((x.take (M (j+1))).flatten.length:Int)=s+V (T x (M j) cs5):=by rw[e,cw];omega
   rw[aJ (n:=s+_) Y Y]
   refine⟨h0,hb,bT (λhc=>?_) (λhc=>?_)⟩
   .have:=hc;omega
   .exact⟨j+1,_,⟨Y,Y,el.symm⟩,Y,aI⟩
  .refine⟨Y,Y,⟨0,[],⟨Y,Y,aw⟩,aI⟩,?_⟩
   rintro k ys ⟨k0,k1,rfl⟩
   refine bT (λhb=>?_) (λhb=>?_)
   .have e:=JI k0 hb
    have hle2:=FU x (M (k+1))
    refine⟨k0,hb,?_,k+1,_,⟨Y,Y,e.symm⟩,Y,aI⟩
    rw[← cw,← e];omega
   .rw[gE Y]
theorem XY:aB 170 VX.spec:=aG Tryz.func170 (C aC at9) aU7 cm8
end Go.RS
namespace Go.SX
def Jx(fn:Func):Array Tmp×cE3×cE3:=(jD (mC fn)).headD (#[],.skip,.skip)
def Dl.setV(u:SV):Dl->Dl
 | .det l v up => .det l u up
 | .nd X qn l R inh v up => .nd X qn l R inh (λ_=>u) up
def Cx(s:Spec):Spec:=λbase svs=>(s base svs).bind λd=>.ret (d.setV (.bool cs8))
def qG:List SV->List Nat->List SV->List SV
 | sl,t::ts,v::vs=>qG (sl.set t v) ts vs
 | sl,_,_=>sl
def MN(ps:List PK)(d:bG ps)(n:Nat)(ts:List Nat):St:=⟨qG (pS [] n) ts (iK ps d 0 0),rA ps d 0 0++(uD ps d 0++vS (mr ps))⟩
def PG(l:List Nat):List Nat->Bool
 | []=>cs8
 | t::ts => !rp t l&&PG l ts
def an2(P:cu2)(ps:List PK)(rs:List RK)(post:jK rs×gz ps->Prop):Ex->St->Prop:=λe S=>match e with
 | .normal=>match S.noY with
  | true=>BV P ps rs [] post .normal S
  | false=>False
 | _=>False
def gc(P:cu2)(sp:d8)(an:bL)(ps:List PK)(rs:List RK)(post:jK rs×gz ps->Prop)(x:Array Tmp×cE3×cE3):Ex->St->Prop:=λe S=>match e with
 | .normal=>match S.noY with
  | true=>sx P sp an x.2.2 (an2 P ps rs post) S
  | false=>False
 | _=>False
def vcR(P:cu2)(sp:d8)(an:bL)(ps:List PK)(rs:List RK)(d:bG ps)(post:jK rs×gz ps->Prop)(x:Array Tmp×cE3×cE3)(n:Nat)(ts:List Nat):Prop :=
 match PG x.1.toList ts,Nat.beq (V (iK ps d 0 0)) (x.1.size+V ts) with
 | true,cs8=>xo (MN ps d n (x.1.toList++ts)) (sx P sp an x.2.1 (gc P sp an ps rs post x))
 | _,_=>False
def Ct.vcR(P:cu2)(sp:d8)(c:Ct)(x:Array Tmp×cE3×cE3)(n:Nat)(ts:List Nat)(an:bG c.ps->bL):Prop :=
 Af c.ps λd=>xO c.ps d->qf (c.pre d)->SX.vcR P sp (an d) c.ps c.rs d (λy=>qf (Ax c.rs y.1 (c.out d).1++qE c.ps y.2 (c.out d).2)) x n ts
def Cn.vcR(P:cu2)(sp:d8)(c:Cn)(x:Array Tmp×cE3×cE3)(n:Nat)(ts:List Nat)(an:bG c.ps->bL):Prop :=
 Af c.ps λd=>xO c.ps d->qf (c.pre d)->SX.vcR P sp (an d) c.ps c.rs d (c.post d) x n ts
section
variable {P:cu2} {sp:d8} {A:Nat->Prop} {env:bt} {w:World}
theorem VV{l}:∀{ts:List Nat},PG l ts=cs8→∀ t∈ts,t ∉ l
 | t::ts,h,q,hq=>by
  obtain⟨h1,h2⟩:=cw4.1 h;obtain rfl|hq:=dm.1 hq
  .intro hm;rw[Bd.2 hm] at h1;cases h1
  .exact VV h2 q hq
theorem ap5:∀{ts:List Nat}{vs:List SV}{sl:List SV},V (qG sl ts vs)=V sl
 | [],_,_=>by simp[qG]
 | _::_,[],_=>by simp[qG]
 | t::ts,v::vs,sl=>by simp[qG,ap5 (ts:=ts)]
theorem Vn:∀ ts ss vs sl(tm:Array ct8),sl.length<=tm.size->aL A env w ss vs->(∀ i,ax A env w (d7 sl i) (tm.getD i undef)) →
  ∀ i,ax A env w (d7 (qG sl ts ss) i) (((ts.zip vs).foldl (λtm p=>tm.setIfInBounds p.1 p.2) tm).getD i undef)
 | [],_,_,_,_,_,_,h,i=>by simpa[qG] using h i
 | _::_,[],vs,_,_,_,hd,h,i=>by simp only[aL] at hd;subst hd;simpa[qG] using h i
 | t::ts,s::ss,vs,sl,tm,hl,hd,h,i=>by
  simp only[aL] at hd;obtain⟨v,r,rfl,hv,hr⟩:=hd;refine Vn ts ss r (sl.set t s) (tm.setIfInBounds t v) (by simpa using hl) hr (λi=>?_) i;rw[JR];split
  next q=>obtain⟨rfl,q⟩:=q;rw[sK,Array.getElem?_setIfInBounds_self_of_lt Y];exact hv
  .rename_i q;by_cases e:i=t
   .subst e;have:¬ i<sl.length:=λhlt=>q ⟨rfl,hlt⟩;have:d7 sl i = .junk:=by unfold d7;rw[yi,xQ Y]
    rw[this];simp only[ax]
   .rw[sK,Je (Ne.symm e),← sK];exact h i
theorem ag9:∀ ts ss sl(tm:Array ct8),aL A env w ss (ts.map λt=>tm.getD t undef)->(∀ i,ax A env w (d7 sl i) (tm.getD i undef)) →
  ∀ i,ax A env w (d7 (qG sl ts ss) i) (tm.getD i undef)
 | [],_,_,_,_,h,i=>by simpa[qG] using h i
 | _::_,[],_,_,_,h,i=>by simpa[qG] using h i
 | t::ts,s::ss,sl,tm,hd,h,i=>by
  simp only[aL,f6] at hd;obtain⟨v,r,e,hv,hr⟩:=hd;cases e;refine ag9 ts ss (sl.set t s) tm hr (λi=>?_) i;rw[JR];split
  next q=>rw[q.1];exact hv
  .exact h i
theorem Uu:∀{ps:List Nat}{ts:List Nat}{ss rs:List SV}{sl:List SV},V ss=V ps->qG sl (ps++ts) (ss++rs)=qG (qG sl ps ss) ts rs
 | [],_,[],_,_,_=>by simp[qG]
 | p::ps,ts,s::ss,rs,sl,h=>by simp only[kQ,qG];exact Uu (by simpa using h)
theorem Xo{t}:∀{l:List (Nat×ct8)}{tm:Array ct8},(∀ p∈l,p.1≠t)->((l.foldl (λtm p=>tm.setIfInBounds p.1 p.2) tm).getD t undef)=tm.getD t undef
 | [],_,_=>rfl
 | p::l,tm,h=>by
  rw[cx7,Xo λq hq=>h q (eZ _ hq),sK,Je (h p (dU ..)),← sK]
theorem VM:∀{l:List (Nat×ct8)}{tm:Array ct8},(l.foldl (λtm p=>tm.setIfInBounds p.1 p.2) tm).size=tm.size
 | [],_=>rfl
 | p::l,tm=>by rw[cx7,VM,Array.size_setIfInBounds]
variable{w0:World}
theorem sX.base{wb w}(h:wb.heap.size=w0.heap.size):∀{ds:List Deferred},sX w0 w ds->sX wb w ds
 | [],_=>trivial
 | _::_,⟨D,h1,h2,h3,h4,h5⟩=>⟨D,h1,Y,h3,h4,h5.base h⟩
variable{x:Array Tmp×cE3×cE3}{n:Nat}{ts:List Nat}{r:Loop}
theorem Ul{ps rs}(post)(hr:xp n x r)(hs:iF P sp)(ik:P.follows .mixedOrders=cs8)(an)(hx:(jD x.2.1,jD x.2.2)=([],[]))
  {base} {svs} {h} {dd} {fz} {bx} {cx} {q1} (e1:(iC ct4 ps svs).run h=cs6 ((dd,fz,bx,cx),q1)) (hnm:CC ps rs fz bx cx=cs8)
  (hun:∀ i,i<iy rs+jZ ps->h (base+i) = .un) (vc:xO ps dd->vcR P sp an ps rs dd post x n ts)
  {N0} {A} {env} {w} {vs} {l} (hG:N0.g=sp.gl) (m:Mod w0 N0 A env h w) (hl:w.heap[l]? = cs6 (.loop r)) (hd:aL A env w svs (vs++ts.map λt=>r.tmps.getD t undef)) :
  vs.length=r.params.size/\RoundIn Fence.wide 0 P l r.fn ((r.params.zip vs.toArray).foldl (λtmps (t,a)=>tmps.setIfInBounds t a) r.tmps) r.assign r.body w λe w'=>e = .returned (.bool cs8)∧∃ y,post y ∧
   ∃ A' env',Mod w0 N0 A' env' (dM (w9 ps rs y base fz bx cx) h) w'∧dQ A env w A' env' w':=by
 have ⟨a4,Nc,Ac,envc,hNg,hNn,mc,dargs,fin⟩:=VT e1 hnm hun m hd
 have vc:=vc a4
 unfold vcR at vc
 split at vc
 next hdj hlen=>
  rw[IW] at vc;have hdj:=VV hdj;have hlen:=bH hlen;have hvl:=kr dargs;simp only[cw,nT] at hvl;have hsz:vs.length=x.1.size:=Y;have hrs:=hr.ln;refine⟨by rw[hr.ps];exact hsz,?_⟩;have hrw:(r.params.zip vs.toArray).foldl (λtmps (t,a)=>tmps.setIfInBounds t a) r.tmps=(x.1.toList.zip vs).foldl (λtm p=>tm.setIfInBounds p.1 p.2) r.tmps:=by
   rw[hr.ps,← Array.foldl_toList];simp
  rw[hrw,hr.sg,hr.bd];generalize hT:(x.1.toList.zip vs).foldl (λtm p=>tm.setIfInBounds p.1 p.2) r.tmps=S;have hTs:S.size=r.tmps.size:=by rw[← hT];exact VM
  have hlt:=(Array.getElem?_eq_some_iff.1 hl).1;have hNl:¬ Nc.n l:=λhn=>by
   have ⟨q,b,k,h1,h2⟩:=hNn l hn;exact (m.live_blk h1 h2).1.norec.1 _ hl
  have hF:∀ i,ax Ac envc w (d7 (MN ps dd n (x.1.toList++ts)).sl i) (S.getD i undef):=by
   have h1:=Eb x.1.size dargs;have h2:=Eh x.1.size dargs;rw[cH5 hsz] at h1;rw[List.drop_left' hsz] at h2;have hal:((iK ps dd 0 0).take x.1.size).length=x.1.toList.length:=by simp;omega
   have:=Uu (ps:=x.1.toList) (ts:=ts) (ss:=(iK ps dd 0 0).take x.1.size) (rs:=(iK ps dd 0 0).drop x.1.size) (sl:=pS [] n) hal;rw[mj] at this;simp only[MN,this];refine ag9 ts _ _ S ?_ ?_
   .have:(ts.map λt=>S.getD t undef)=ts.map λt=>r.tmps.getD t undef:=cE4 λt ht=>by
     rw[← hT];refine Xo λp hp e=>hdj t ht ?_;rw[← e];exact (List.of_mem_zip hp).1
    rw[this];exact h2
   .rw[← hT];refine Vn x.1.toList _ vs _ _ (by rw[Ft];exact hrs) h1 λi=>?_;obtain hj|⟨s,hs,_⟩:=H1 (l:=[]) (n:=n) (i:=i)
    .rw[hj];simp only[ax]
    .simp at hs
  refine roundIn_of_wpIn trivial (n:=0) ?_;refine Nw (ro:=cs6 l) (N0:=Nc) ⟨hs,hNg.trans hG⟩ ik x.2.1 (λy hy=>by rw[show jD x.2.1=[] from dL Prod.fst hx] at hy;cases hy) _ _ _ Ac envc _ w vc ⟨mc,?_,hF,aQ⟩ ?_
  .simp only[St.fs,MN,ap5,Ft,hTs];exact hrs
  intro e S1 A1 env1 a1 w1 hK t1 x1;cases e with
  | exit i=>exact hK.elim
  | ret=>exact hK.elim
  | normal =>
  simp only[gc] at hK;split at hK
  .rename_i hY;have ⟨y1,y2⟩:=cw4.1 hY;have hl1:=(t1.m.fr l hlt hNl).trans hl;refine⟨_,run_beginRound hl1 hr.st,?_⟩;have p1:=E4 (A:=A1) (env:=env1) (o' := .loop {r with state := .busy}) hl1 rfl rfl;have m2:=t1.m.putB hl1 rfl rfl (o' := .loop {r with state := .busy}) (.inr (Fr y2)) (wb:=w.putObj l (.loop {r with state := .busy})) rfl rfl rfl rfl aw (λj hj=>cx0 hj) (λ_=>cG6 hlt);have t2:ia (w.putObj l (.loop {r with state := .busy})) Nc A1 env1 S1.fs a1 (w1.putObj l (.loop {r with state := .busy})) :=
    ⟨m2,t1.len,λi=>Ga p1 _ _ (.inr (O5 y1 i)) (t1.f i),sX.mono (λk hk=>by
     rw[cx0 (by rintro rfl;rw[hl1] at hk;cases hk)];exact hk) (t1.dfr.base aw)⟩
   refine Nw (ro:=cs6 l) (N0:=Nc) ⟨hs,hNg.trans hG⟩ ik x.2.2 (λy hy=>by rw[show jD x.2.2=[] from dL cJ3 hx] at hy;cases hy) _ _ _ A1 env1 _ _ hK t2 ?_;intro e S3 A3 env3 a3 w3 hK t3 x3;cases e with
   | exit i=>exact hK.elim
   | ret=>exact hK.elim
   | normal =>
   simp only[an2] at hK;split at hK
   .rename_i hY3;have ⟨z1,z2⟩:=cw4.1 hY3;unfold BV at hK;simp only[xT] at hK;split at hK
    .rename_i y f1 ow z f2 ow2 h1 h2;split at hK
     .rename_i h3 h4;have hl3:=(t3.m.fr l (by simpa using hlt) hNl).trans (cG6 hlt);refine⟨_,_,run_endRound ct4 hl3,rfl,(y,z),hK,?_⟩;have hrr:({({r with state := .busy}:Loop) with state:=if (ct4:Option cE3).isNone then .ready else .done,pending:=ct4}:Loop)=r:=by
       have a:=hr.st;have b:=hr.pe;cases r;simp only at a b;subst a b;rfl
      rw[hrr];have p3:=E4 (A:=A3) (env:=env3) (o' := .loop r) hl3 rfl rfl;have m4:=t3.m.putB hl3 rfl rfl (o' := .loop r) (.inr (Fr z2)) (wb:=w) rfl rfl rfl rfl aw (λj hj=>(cx0 hj).symm) (λ_=>hl);have ⟨A',env',k1,k2,_⟩:=fin S3 A3 env3 _ m4 (((x1.trans p1.ext0).trans x3).trans p3.ext0) [] [] y f1 ow z f2 ow2 (by simp only[aL]) h1 h2 h3 h4;exact⟨A',env',k1,k2⟩
     .exact hK.elim
    .exact hK.elim
   .exact hK.elim
  .exact hK.elim
 .exact vc.elim
theorem Ct.okR(c)(hx:(jD x.2.1,jD x.2.2)=([],[]))(hs:iF P sp)(ik:P.follows .mixedOrders=cs8)(an)(vc:Cc (Ct.vcR P sp c x n ts an))(hr:xp n x r):Dr P sp.gl r ts (Cx c.spec):=by
 intro base svs h d q e hp w0 N0 A env w vs l hG m hl hd
 obtain⟨d0,r1,r2,e0,e3,rfl⟩:=Q.run_bind _ _ _ e
 cases cE e3
 unfold Ct.spec at e0
 obtain⟨⟨dd,fz,bx,cx⟩,q1,q2,e1,e2,rfl⟩:=Q.run_bind _ _ _ e0
 split at e2
 case h_2=>cases e2
 rename_i hnm
 obtain⟨rfl,hun⟩:=EE e2
 have ⟨h1,h2⟩:=Ul (λy=>qf (Ax c.rs y.1 (c.out dd).1++qE c.ps y.2 (c.out dd).2)) hr hs ik (an dd) hx e1 hnm hun (λhw=>H2.1 vc.out dd hw (zl.2 hp)) hG m hl hd
 refine⟨h1,h2.mono ?_⟩
 rintro e' w' ⟨rfl,y,hy,A',env',k1,k2⟩
 have ⟨hy1,hy2⟩:=tf.1 (zl.1 hy)
 have:y=c.out dd:=Prod.ext (PC hy1) (xY hy2)
 subst this
 exact⟨_,rfl,(),A',env',aQ,k1,k2,by simp only[Dl.val,Dl.setV,ax]⟩
theorem Cn.okR(c)(hx:(jD x.2.1,jD x.2.2)=([],[]))(hs:iF P sp)(ik:P.follows .mixedOrders=cs8)(an)(vc:Cc (Cn.vcR P sp c x n ts an))(hr:xp n x r):Dr P sp.gl r ts (Cx c.spec):=by
 intro base svs h d q e hp w0 N0 A env w vs l hG m hl hd
 obtain⟨d0,r1,r2,e0,e3,rfl⟩:=Q.run_bind _ _ _ e
 cases cE e3
 unfold Cn.spec at e0
 obtain⟨⟨dd,fz,bx,cx⟩,q1,q2,e1,e2,rfl⟩:=Q.run_bind _ _ _ e0
 split at e2
 case h_2=>cases e2
 rename_i hnm
 obtain⟨rfl,hun⟩:=EE e2
 have ⟨h1,h2⟩:=Ul (c.post dd) hr hs ik (an dd) hx e1 hnm hun (λhw=>H2.1 vc.out dd hw (zl.2 hp)) hG m hl hd
 refine⟨h1,h2.mono ?_⟩
 rintro e' w' ⟨rfl,y,hy,A',env',k1,k2⟩
 refine⟨_,rfl,y,A',env',hy,?_,k2,by simp only[Dl.val,Dl.setV,ax]⟩
 show Mod w0 N0 A' env' (dM ((DD c.ps c.rs base fz bx cx).map λp=>(p.1,p.2 y)) h) w'
 rw[RN];exact k1
end
end Go.SX
