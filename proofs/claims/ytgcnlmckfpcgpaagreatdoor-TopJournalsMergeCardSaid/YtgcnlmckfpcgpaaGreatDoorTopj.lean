/- Topj: journals and ledgers of several runs. -/
import Derived.Test.YtgcnlmckfpcgpaaGreatDoorR22
set_option maxRecDepth 100000
set_option linter.all false
open List (length take set)
open Bool renaming false->bZ6
open Inhabited renaming default->Sk
open Int renaming tmod->cd8,toNat->it
open List renaming IsPrefix->cm7,flatten->cc9,flatten_append->cj1,flatten_cons->cj7,getD->Om,length->be,mem_flatten->ci1,mem_iff_getElem->cb5,take_length->cg7
open List.Pairwise renaming nil->ce6
open Nat renaming sub_self->cp7
namespace Go.RS
open Go.SX Go.Proofs
def ze(i:Int)(r:av):av:=(i/2,i%2,r.2.2)
theorem bj8{i:Int}(h0:0<=i)(h3:i<3){r:av}(h:mo r):mo (ze i r):=⟨by show 0<=i/2/\i/2<=15;omega,by show 0<=i%2/\i%2<=63;omega,h.n,h.t,h.d,h.p,h.f,h.l,h.a0,h.af,h.ak,h.an⟩
theorem QP{α β:Type} [Inhabited α] [Inhabited β] (f:α->β) {l:List α} {j:Nat} (h:j<be l):Om (l.map f) j Sk=f (Om l j Sk):=by
 rw[cq,cq,List.getElem?_map,cG h];rfl
theorem ac1{l:List av}(h:LM l){i:Int}(h0:0<=i)(h3:i<3):wc (l.map (ze i)):=by
 refine⟨by rw[kW];exact h.n,λr hr=>?_,λj hj=>?_⟩
 .obtain⟨x,hx,rfl⟩:=List.mem_map.1 hr;exact bj8 h0 h3 (h.ok x hx)
 .rw[kW] at hj;unfold iL rL;rw[QP _ hj,QP _ ab];exact⟨rfl,rfl,(h.i j hj).2.2⟩
def M7(i:Int)(l:List av):Prop:=be l<=216∧∀ m:Nat,m<be l->rz (Om l m Sk)=(i/2,i%2,(m:Int))
theorem ab3{l g:List av}(h:LM l){i:Int}(hp:g <+: l.map (ze i)):M7 i g:=by
 have ⟨t,e⟩:=hp
 have hl:=dP be e
 rw[bM,kW] at hl
 have hn:=h.n
 refine⟨ab,λm hm=>?_⟩
 have q:Om g m Sk=Om (l.map (ze i)) m default:=by
  rw[← e,cq,cq,mC hm]
 rw[q,QP _ ab]
 unfold rz
 rw[show (ze i (Om l m Sk)).2.2.1=(Om l m Sk).2.2.1 from rfl,(h.i m ab).2.2];rfl
structure vL (ps:List (List av)) (n:Int):Prop where
 n:(be ps:Int)=n
 p:∀ j:Nat,j<be ps->M7 j (Om ps j Sk)
theorem vL.add{ps:List (List av)}{n:Int}(h:vL ps n){l:List av}(hl:M7 n l):vL (ps++[l]) (n+1):=by
 have hn:=h.n
 refine⟨by rw[bM,eI];omega,λj hj=>?_⟩
 rw[bM,eI] at hj
 by_cases q:j<be ps
 .rw[cq,mC q,← cq];exact h.p j q
 .have e:j=be ps:=ab;subst e;rw[cq,List.getElem?_concat_length,hn];exact hl
theorem vL.one{ps:List (List av)}(h:vL ps 3):pv ps.flatten:=by
 have key:∀ x∈ps.flatten,∃ j m,j<3/\x=Om (Om ps j Sk) m Sk/\rz x=((j:Int)/2,(j:Int)%2,(m:Int)):=by
  intro x hx;have ⟨p,hp,hx⟩:=ci1.1 hx;obtain⟨j,hj,rfl⟩:=cb5.1 hp;obtain⟨m,hm,rfl⟩:=cb5.1 hx;have hn:=h.n;have q:=(h.p j hj).2 m;have e:Om ps j Sk=ps[j]:=by rw[cq,cG hj];rfl
  rw[e] at q;have e2:ps[j].getD m Sk=ps[j][m]:=by rw[cq,cG hm];rfl
  have q:=q hm;rw[e2] at q;exact⟨j,m,ab,by rw[e,e2],q⟩
 intro a ha b hb e
 obtain⟨j,m,hj,rfl,q⟩:=key a ha
 obtain⟨j',m',hj',rfl,q'⟩:=key b hb
 rw[q,q',cy,cy] at e
 have e1:j=j':=ab
 have e2:m=m':=ab
 rw[e1,e2]
theorem Wu{α:Type}{n:Nat}:∀{ps:List (List α)},(∀ p∈ps,be p<=n)->be ps.flatten<=n*be ps
 | [],_=>Nat.zero_le _
 | p::ps,h=>by
  have:=Wu (n:=n) (ps:=ps) λq hq=>h q (fu _ hq);have:=h p eV;rw[cj7,bM,cX,Nat.mul_succ];omega
theorem vL.get{ps:List (List av)}{n:Int}(h:vL ps n){j:Int}(h0:0<=j)(hj:j<be ps):be (Om ps (it j) Sk)<=216∧∀ x∈Om ps (it j) Sk,x∈ps.flatten:=by
 refine⟨(h.p (it j) ab).1,λx hx=>ci1.2 ⟨_,?_,hx⟩⟩
 exact dm h0 hj
theorem pv.sub{l m:List av}(h:pv m)(k:∀ x∈l,x∈m):pv l:=λa ha b hb e=>h a (k a ha) b (k b hb) e
theorem Tr{k:ad}:∀{ls:List (List av)}{c:jt},B5 k c ls->(sR k c ls).flatten.length=73*be ls+37*be ls.flatten
 | [],_,_=>rfl
 | l::ls,c,h=>by
  have:=Tr h.2;rw[sR,cj7,bM,h.1.s.len,this,cX,cj7,bM];omega
theorem zU.pre{k b:ad}{l:List av}{sg:bY0}(h:zU k l sg)(hR:wc l)(hb:b <+: sg.flatten):∃ ls,vw b k (iL l) (rL l) ls/\ls.flatten=l:=by
 have ⟨x,ls,w⟩:=h
 have ⟨r1,r2⟩:=hR.rng
 have e:=w.tk
 rw[cg7] at e
 exact⟨ls,⟨r1,r2,w.jr,by rw[w.gs] at hb;exact hb⟩,e.symm⟩
theorem zU.len{k:ad}{l:List av}{sg:bY0}(h:zU k l sg)(hR:wc l):be sg<=217/\be sg.flatten<=30000:=by
 have ⟨x,ls,w⟩:=h
 have ⟨r1,r2⟩:=hR.rng
 have e:=w.tk
 rw[cg7] at e
 have h1:=Tr w.jr
 have h2:=w.ml
 have hn:=hR.n
 have hl:∀(c:jt)(ls:List (List av)),be (sR k c ls)=be ls:=by
  intro c ls
  induction ls generalizing c with
  | nil=>rfl
  | cons a ls ih=>rw[sR,cX,ih,cX]
 have hb:=(HE r1 r2).len (k:=k)
 rw[← e] at h1
 rw[w.gs,cX,hl,cj7,bM,h1]
 have:be (vX (iL l) (rL l) k)=73:=hb
 omega
theorem a41:f8 []=[]:=by unfold f8 dY;rw[List.mergeSort_nil];rfl
theorem an2(a b:List av):f8 (f8 a++b)=f8 (a++b):=a63 λx=>by rw[dI,dI,ym]
def qt(i k:Int)(l:List av):List av:=(l.take (it k)).map (ze i)++l.drop (it k)
theorem Uh(i k:Int)(l:List av):be (qt i k l)=be l:=by
 unfold qt
 rw[bM,kW,← bM,kP]
theorem a66{i k:Int}{l:List av}(h:(be l:Int)<=k):qt i k l=l.map (ze i):=by
 unfold qt
 rw[gN ab,List.drop_eq_nil_of_le ab,iX]
theorem aG5{i k:Int}{l:List av}(h0:0<=i)(h3:i<3)(k0:0<=k)(hk:k<be l){m:List av}(hm:m=qt i k l){a:Int}(ha:a=i/2) :
  (m.set (it k) (a,(Om m (it k) Sk).2)).set (it k) ((Om (m.set (it k) (a,(Om m (it k) Sk).2)) (it k) Sk).1,cd8 i 2,(Om (m.set (it k) (a,(Om m (it k) Sk).2)) (it k) Sk).2.2)=qt i (k+1) l:=by
 have hl:it k<be m:=by rw[hm,Uh];omega
 have e1:Om (m.set (it k) (a,(Om m (it k) Sk).2)) (it k) Sk=(a,(Om m (it k) Sk).2):=by
  rw[cq,List.getElem?_set_self hl];rfl
 rw[e1,List.set_set,ha,Ce h0]
 show m.set (it k) (ze i (Om m (it k) Sk))=_
 have hlt:be (l.take (it k))=it k:=by rw[eM];omega
 have e2:Om m (it k) Sk=Om l (it k) default:=by
  rw[hm];unfold qt;rw[cq,nX (by rw[kW,hlt];exact dq _),kW,hlt,cp7,wp,kf,← cq]
 rw[e2,hm]
 unfold qt
 rw[qZ k0 hk,BK k0 hk,kJ,fV]
 have e3:it k=be ((l.take (it k)).map (ze i)):=by rw[kW,hlt]
 generalize Om l (it k) Sk=y
 conv=>lhs;rw[List.set_append_right _ _ (by rw[← e3];exact dq _),← e3,cp7]
 rfl
structure yC (ps:List (List av)) (k:Int) (o:List av×List (Int×Int×Int×List av)):Prop where
 c:o.2=[]
 s:Hf o.1
 n:(be o.1:Int)<=216*k
 m:∀ x∈o.1,x∈ps.flatten
theorem yC.add{ps:List (List av)}{k:Int}{o:List av×List (Int×Int×Int×List av)}(h:yC ps k o){p:List av}(hp:be p<=216∧∀ x∈p,x∈ps.flatten):yC ps (k+1) (f8 (o.1++p),[]):=by
 refine⟨rfl,GN _,?_,λx hx=>?_⟩
 .have h1:=FL (o.1++p);rw[bM] at h1;have:=h.n;show (be (f8 _):Int)<=_;omega
 .obtain hx|hx:=dI.1 (ym.1 hx)
  .exact h.m x hx
  .exact hp.2 x hx
theorem Zf{α:Type}{l:List (List α)}{k:Int}(h0:0<=k)(h1:k<be l):(l.take (it (k+1))).flatten=(l.take (it k)).flatten++Om l (it k) default:=by
 rw[qZ h0 h1,cj1];simp
theorem PG{α:Type}(l:List (List α))(k:Nat):(l.take k).flatten.length<=be l.flatten:=by
 have:(l.take k).flatten++(l.drop k).flatten=l.flatten:=by rw[← cj1,kP]
 rw[← this,bM];omega
def WA:Ct:=⟨[.val (.sl cU),.val (.sl cU)],[.val .bool],λd=>[d.1=d.2.1],λd=>((true,()),())⟩
def bO0:bw WA.ps->bL:=(λd=>{loops:=(bu 4 (λS=>{ι:=Int,μ:=λi=>it (be d.1-i),inv:=λi=>0<=i/\i<=be d.1,keep:=[0,1,2,3],slots:=λi=>[(5,.int .i64 i)]}) cC)})
theorem al0:
 ∀(a b:List av),HV a b:= by
  delta ae ac ao HV QF P1 Pn MP Qv P8 bj Oc M5 Qp am qw nJ ai bf rN cN cP Kj GW By ax A9
  rintro l m ⟨⟨hl,-⟩,-⟩ h
  have h:=h
  subst h
  simp only[maxLen] at hl
  rw[ft rfl]
  refine iu.2 ⟨⟨0,⟨ab,ab⟩,aI⟩,?_⟩
  rintro i ⟨i0,i1⟩
  refine aw (λhi=>?_) (λ_=>rfl)
  have hi:=aX hi
  refine⟨i0,hi,i0,hi,?_⟩
  simp only[decide_true,beq_self_eq_true,Bool.and_self,Bool.not_true]
  exact iu.2 ⟨i+1,⟨ab,ab⟩,ab,aI⟩
theorem bk3:aC 12 WA.spec:=aF Tryz.func12 aD bO0 al0
def aJ2:tc:=[(bZ6,.sl bm),(bZ6,.sl bm)]
def WK:Ct:=EM aJ2
def af3:bw WK.ps->bL:=(λd=>{loops:=(bu 8 (λS=>{ι:=Int×bY1×bY1×(List (List av)),qn:=Q2,μ:=λi=>it (3-i.1),inv:=λi=>0<=i.1/\i.1<=3/\aY i.2.1/\aY i.2.2.1/\vL i.2.2.2 i.1,keep:=[5,6,7],slots:=λi=>[(8,.own 524288 1),(9,.int .i64 i.1)],names:=λi=>[(560,.live (.cells 83 (cF jw i.2.1))),(592,.live (.cells 83 (cF jw i.2.2.1))),(524288,.live (.row 34 (.sl cU) i.2.2.2))]}) (bu 16 (λS=>{ι:=Int×(List av),qn:=fH,μ:=λi=>it ((S.c zj 192).1.length-i.1),inv:=λi=>0<=i.1/\i.1<=(S.c zj 192).1.length/\i.2=qt (S.i 9) i.1 (S.c zj 192).1,keep:=[5,6,7,8,9,11,12],slots:=λi=>[(13,.int .i64 i.1)],keepN:=[560,592,192,524288],names:=λi=>[(944,.live (.row 56 cU i.2))]}) (bu 24 (λS=>{ι:=Int×ad,qn:=fH,μ:=λi=>it (be (S.l (.sl bm) 14)-i.1),inv:=λi=>0<=i.1/\i.1<=be (S.l (.sl bm) 14)/\i.2=((S.l (.sl bm) 14).take (it i.1)).flatten,keep:=[5,6,7,8,9,12,14],slots:=λi=>[(16,.own 524289 1),(17,.int .i64 i.1)],keepN:=[560,592,524288,944],names:=λi=>[(524289,.live (.row 5 bm i.2))]}) (bu 36 (λS=>{ι:=Int×(List av)×(List av×List (Int×Int×Int×List av)),qn:=oB,μ:=λi=>it (3-i.1),inv:=λi=>0<=i.1/\i.1<=3/\i.2.1=((S.o (.sl cU) 8).take (it i.1)).flatten/\i.2.2=(f8 i.2.1,[]),keep:=[6,8,22],slots:=λi=>[(21,.own 524289 17),(23,.int .i64 i.1)],keepN:=[592,524288],names:=λi=>[(368,.live (.cells 67 (cF uU i.2.2))),(524289,.live (.row 56 cU i.2.1))]}) (bu 45 (λS=>{ι:=Int×bY1×(List av×List (Int×Int×Int×List av)),qn:=oB,μ:=λi=>it (6-i.1),inv:=λi=>0<=i.1/\i.1<=6/\aY i.2.1/\yC (S.o (.sl cU) 8) i.1 i.2.2,keep:=[6,8,21,22,26],slots:=λi=>[(27,.int .i64 i.1)],keepN:=[524288,524289,368],names:=λi=>[(592,.live (.cells 83 (cF jw i.2.1))),(432,.live (.cells 67 (cF uU i.2.2)))]}) (bu 52 (λS=>{ι:=Int×(List av×List (Int×Int×Int×List av)),qn:=fH,μ:=λi=>it (i.1+1),inv:=λi => -1<=i.1/\i.1<=2/\yC (S.o (.sl cU) 8) (8-i.1) i.2∧∀ j:Nat,i.1<j->j<3→∀ x∈Om (S.o (.sl cU) 8) j Sk,x∈i.2.1,keep:=[8,21,22,26],slots:=λi=>[(30,.int .i64 i.1)],keepN:=[524288,524289,368],names:=λi=>[(432,.live (.cells 67 (cF uU i.2)))]}) cC)))))),cuts:=(bu 17 (λS=>{ι:=(List av),inv:=λi=>i=qt (S.i 9) (S.i 13+1) (S.c zj 192).1,keep:=[5,6,7,8,9,11,12,13],slots:=λi=>[],keepN:=[560,592,192,524288],names:=λi=>[(944,.live (.row 56 cU i))]}) (bu 29 (λS=>{ι:=bY1×ad,qn:=fH,inv:=λi=>aY i.1/\i.2 <+: S.o bm 16,keep:=[5,6,7,8,9,12],slots:=λi=>[(16,.own 524290 1)],keepN:=[560,524288,944],names:=λi=>[(592,.live (.cells 83 (cF jw i.1))),(524290,.live (.row 5 bm i.2))]}) cC))})
def oX:=(107:Int)::(101:Int)::bz 121
def H3(a:Int)(b:List (List av))(c:List av×List (Int×Int×Int×List av))(d:List av):=(-1)<=a/\a<=2/\yC b (8 -a) c/\ ∀(e:Nat),a<(e:Int)->e<3-> ∀(f:av),f∈iK b e->f∈d
def Gg(a:List av)(b c:Int):=set a (it b) (ao (Int.tdiv c 2),(ae a b).2)
theorem bo1:
 ∀(a b:ad),aQ a/\ai (aQ b)->True->(0:Int)<=(700:Int)/\ ∀(c:ad)(d:Int),(c,d)=(if ac a<=700 then a else take 700 a,(0:Int))->(0:Int)<=(40:Int)/\ ∀(e:ad)(f:Int),(e,f)=(if ac b<=40 then b else take 40 b,(0:Int))->1<=be oX/\(∃(g:Int) (h i:bh) (j:List (List av)),bt g 3 (aY h) (aY i/\vL j g)/\oX=oX/\0=g/\c=h.1/\d=h.2/\e=i.1/\f=i.2/\ai (j=[]))/\ ∀(g:Int)(h i:bh)(j:List (List av)),bt g 3 (aY h) (aY i/\vL j g)->ar (ax g 3) (aY h/\ ∀(k:Int)(l:ad)(m:Int),am k (k<2∨k=0) (aY (l,m))->f6 (l,m)/\ ∀(n:List au)(o:List bo)(p:List cH)(q:ad)(r:Int),(n,o,p)=tI (aV k) (l,m)/\(q,r)=Bh (aV k) (l,m)->aY (q,r)/\(i5 (n,o,p)).2/16777216=10/\ ∀(s:List fM)(t u:Int)(v:ad)(w:Int),lV (s,t,u)/\aY (v,w)->vq (n,o,p)/\lV (s,t,u)/\(1:Int)<=(500:Int)/\(500:Int)<=(20000:Int)/\ ∀(x:List
 bn0×ad×af1×Bool),x=qz (n,o,p) (s,t,u) 500->ar ( !x.2.2.2) bZ6 (bP (be x.1*128)/\(∃(y:Int) (z:List av),am y (y<=ac x.1) (z=qt g y x.1)/\gv oX g (0=y) (gv v w (i.1=i.1) (i.2=i.2/\x.1=x.1/\x.2.1=x.2.1/\dX x.2.2.1.1.1 x.2.2.1.1.2.1 (x.2.2.1.1.2.2=x.2.2.1.1.2.2) (bN x.2.2.1.2.1 x.2.2.1.2.2.1 x.2.2.1.2.2.2.1 (x.2.2.1.2.2.2.2.1=x.2.2.1.2.2.2.2.1) (uC x.2.2.1.2.2.2.2.2.1 x.2.2.1.2.2.2.2.2.2.1 x.2.2.1.2.2.2.2.2.2.2.1
 (x.2.2.1.2.2.2.2.2.2.2.2=x.2.2.1.2.2.2.2.2.2.2.2) (x.2.2.2=x.2.2.2/\j=j/\ai (x.1=z)))))))/\ ∀(y:Int)(z:List av),am y (y<=ac x.1) (z=qt g y x.1)->ar (ax y (ac z)) (((2:Int)≠(0:Int)/\(2:Int)≠(0:Int)/\am y (y<ac z) (am y (y<ac (Gg z y g)) (∃(A:List av),A=qt g (y+1) x.1/\oX=oX/\bp g y (v=v) (w=w/\gv i.1 i.2 (x.1=x.1) (x.2.1=x.2.1/\dX x.2.2.1.1.1 x.2.2.1.1.2.1 (x.2.2.1.1.2.2=x.2.2.1.1.2.2) (bN x.2.2.1.2.1 x.2.2.1.2.2.1 x.2.2.1.2.2.2.1 (x.2.2.1.2.2.2.2.1=x.2.2.1.2.2.2.2.1) (uC x.2.2.1.2.2.2.2.2.1 x.2.2.1.2.2.2.2.2.2.1 x.2.2.1.2.2.2.2.2.2.2.1 (x.2.2.1.2.2.2.2.2.2.2.2=x.2.2.1.2.2.2.2.2.2.2.2) (x.2.2.2=x.2.2.2/\j=j/\ai (set (Gg z y g) (it y) ((ae (Gg z y g) y).1,cd8 g 2,(ae (Gg z y g) y).2.2)=A)))))))))/\ ∀(A:List av),A=qt g (y+1) x.1-> ∃(B:Int) (C:List av),am B (B<=ac x.1) (C=qt g B x.1)/\bj (ac x.1) B y/\gv oX g
 (bf y B) (gv v w (i.1=i.1) (i.2=i.2/\x.1=x.1/\x.2.1=x.2.1/\dX x.2.2.1.1.1 x.2.2.1.1.2.1 (x.2.2.1.1.2.2=x.2.2.1.1.2.2) (bN x.2.2.1.2.1 x.2.2.1.2.2.1 x.2.2.1.2.2.2.1 (x.2.2.1.2.2.2.2.1=x.2.2.1.2.2.2.2.1) (uC x.2.2.1.2.2.2.2.2.1 x.2.2.1.2.2.2.2.2.2.1 x.2.2.1.2.2.2.2.2.2.2.1 (x.2.2.1.2.2.2.2.2.2.2.2=x.2.2.1.2.2.2.2.2.2.2.2) (x.2.2.2=x.2.2.2/\j=j/\ai (A=C))))))) (aY (v,w)/\wc z/\mb oX/\ ∀(A:bY0)(B:Bool)(C:ad)(D:Int),zU oX z A/\B/\aY (C,D)->ar ( !B) bZ6 ((∃(E:Int) (F:ad),Aa E A F/\gv oX g (A=A) (0=E/\gv C D (i.1=i.1) (i.2=i.2/\j=j/\z=z/\ai (F=[]))))/\ ∀(E:Int)(F:ad),Aa E A F->fh E (ac A) (E<ac A) (gp F (ae A E)/\ ∃(G:Int) (H:ad),Aa G A H/\bj (ac A) G E/\gv oX g (A=A) (bf E G/\gv C D (i.1=i.1) (i.2=i.2/\j=j/\z=z/\ai (F++ae A E=H)))) (aY i/\ ∀(G:Int)(H:ad)(I:Int),vM G H
 I->ar (aV G) (aY (H,I)/\ ∀(J:Int)(K:ad)(L:Int),am J (J<ao (ac F+1)∨J=0) (aY (K,L))->am J (J<=ac F) (∃(M:bh) (N:ad),(aY M/\cm7 N F)/\gv oX g (C=C) (D=D/\j=j/\z=z/\K=M.1/\L=M.2/\ai (take (it J) F=N)))) (∃(J:bh) (K:ad),(aY J/\cm7 K F)/\gv oX g (C=C) (D=D/\j=j/\z=z/\H=J.1/\I=J.2/\ai (F=K)))) (∀(G:bh)(H:ad),aY G/\cm7 H F->(∃(I J:Int) (K:List (List av)),vw H oX I J K)/\bV H/\mb oX/\ ∀(I J K:Int)(L:ad)(M:List av)(N:Int),Wd H oX M-> ∀(O:Bool),O=ax (ac z) (ac M)->bR O/\( !O->( !O-> !O)/\( !O-> !O)/\bt 0 (ac M) (ac M<=ac z) True)/\( !O->( !O-> !O)/\( !O-> !O)/\ai (M=bY z 0 (it (ac M))))/\jE O (bq O ( !true)) bZ6 (bP ((be j+be [M])*24)/\ ∃(P:Int) (Q R:bh) (S:List (List av)),bt P 3 (aY Q) (aY R/\vL S P)/\bj 3 P
 g/\oX=oX/\bf g P/\C=Q.1/\D=Q.2/\G.1=R.1/\G.2=R.2/\ai (j++[M]=S))))))) ((∃(k:Int) (l:List av) (m:List av×List (Int×Int×Int×List av)),bt k 3 (l=cc9 (take (it k) j)) (m=(f8 l,[]))/\0=k/\gv i.1 i.2 (j=j) (m.1=[]/\m.2=[]/\ai (l=[])))/\ ∀(k:Int)(l:List av)(m:List av×List (Int×Int×Int×List av)),bt k 3 (l=cc9 (take (it k) j)) (m=(f8 l,[]))->fh k (ac j) (k<ac j) (bP (tg l (ae j k)*128)/\bJ k (ac j) (m.2=[]) (pv (m.1++ae j k)/\tg m.1 (ae j k)<=16000/\ ∀(n:List av)(o:List (Int×Int×Int×List av)),pI ((n,o)=(f8 (m.1++ae j k),([]:List (Int×Int×Int×List av)))) 0 bZ6 (∃(p:Int) (q:List av) (r:List av×List (Int×Int×Int×List av)),bt p 3 (q=cc9 (take (it p) j)) (r=(f8 q,[]))/\bj 3 p k/\bf k p/\gv i.1 i.2 (j=j) (n=r.1/\o=r.2/\ai (l++ae j k=q))))) (∃(n:Int) (o:bh) (p:List
 av×List (Int×Int×Int×List av)),bt n 6 (aY o) (yC j n p)/\0=n/\j=j/\l=l/\m.1=m.1/\m.2=m.2/\i.1=o.1/\i.2=o.2/\p.1=[]/\ai (p.2=[])) (∀(n:Int)(o:bh)(p:List av×List (Int×Int×Int×List av)),bt n 6 (aY o) (yC j n p)->ar (ax n 6) (aY o/\ ∀(q:Int)(r:ad)(s:Int),vM q r s->(3:Int)≠(0:Int)/\bJ (cd8 (ao (2+ao (n*q))) 3) (ac j) (p.2=[]) (pv (p.1++ae j (cd8 (ao (2+ao (n*q))) 3))/\tg p.1 (ae j (cd8 (ao (2+ao (n*q))) 3))<=16000/\ ∀(t:List av)(u:List (Int×Int×Int×List av)),pI ((t,u)=(f8 (p.1++ae j (cd8 (ao (2+ao (n*q))) 3)),([]:List (Int×Int×Int×List av)))) 0 bZ6 (∃(v:Int) (w:bh) (x:List av×List (Int×Int×Int×List av)),bt v 6 (aY w) (yC j v x)/\bj 6 v n/\bf n v/\j=j/\l=l/\m.1=m.1/\m.2=m.2/\r=w.1/\s=w.2/\t=x.1/\ai (u=x.2)))) ((∃(q:Int) (r:List av×List (Int×Int×Int×List av)),H3 q j r r.1/\ao
 (ac j -1)=q/\j=j/\l=l/\m.1=m.1/\m.2=m.2/\p.1=r.1/\ai (p.2=r.2))/\ ∀(q:Int)(r:List av×List (Int×Int×Int×List av)),H3 q j r r.1->ar (fp q) (bJ q (ac j) (r.2=[]) (pv (r.1++ae j q)/\tg r.1 (ae j q)<=16000/\ ∀(s:List av)(t:List (Int×Int×Int×List av)),qp ((s,t)=(f8 (r.1++ae j q),([]:List (Int×Int×Int×List av)))) 0 (∃(u:Int) (v:List av×List (Int×Int×Int×List av)),H3 u j v v.1/\cN (u+1) (q+1)/\ao (q -1)=u/\j=j/\l=l/\m.1=m.1/\m.2=m.2/\s=v.1/\ai (t=v.2)))) (m.1=r.1/\m.2=[]/\r.2=[]/\ ∀(s:Bool),s->pg s s (pv l) (ac l<100000/\ ∀(t:List av)(u:List (Int×Int×Int×List av)),(t,u)=(f8 l,([]:List (Int×Int×Int×List av)))->(s->(s->s)/\m.1=t/\m.2=[]/\ai (u=[]))/\(s->s)/\ ∀(v:Bool),v=bq s bZ6->fq v v (aJ v) (v->v) (br v (aV (ac m.2)))) (s->bZ6) (∀(t:Bool),t=br s bZ6->fq t t (aJ t) (t->t) (br t (aV (ac m.2)))))))):= by
  delta ae iK ac ao bN aQ bR bp aJ cj bq bj br gp am bP bv aV oX bV fh bz fq bt ai dX gv jE bf pg H3 Aa cN fp bJ tg pI vM Gg ax bn mb qp uC
  rintro cl cu ⟨⟨-,hcw⟩,⟨-,huw⟩,-⟩ -
  refine⟨aB,?_⟩
  rintro l0 p0 hc
  have hB:aY (l0,p0):=by rw[hc];exact Wr hcw
  clear hc
  refine⟨aB,?_⟩
  rintro l1 p1 hc
  have hD:aY (l1,p1):=by rw[hc];exact Wr huw
  clear hc
  refine⟨aB,⟨0,(l0,p0),(l1,p1),[],⟨ab,ab,hB,hD,rfl,λj hj=>by cases hj⟩,aI⟩,?_⟩
  clear hB hD
  rintro i c e ps ⟨i0,i3,hB,hD,hP⟩
  refine ci (λq=>?_) (λq=>?_)
  .refine⟨hB,?_⟩
   rintro x l p ⟨-,-,hB⟩
   have hdn:=QH hB (decide (x=0))
   have hports:=λj=>RY hB (decide (x=0)) (i:=j)
   have hcB:=aK7 hB (decide (x=0))
   refine⟨hB.at',?_⟩
   rintro ns ls hs l p ⟨hnet,hcod⟩
   rw[← hnet] at hdn hports
   rw[← hcod] at hcB
   clear hnet hcod
   have hN:vq (ns,ls,hs):=⟨hdn,hports⟩
   refine⟨hcB,W8 hN,?_⟩
   rintro ts b1 b2 l p ⟨hpl,hB⟩
   refine⟨hN,hpl,aB,aB,?_⟩
   rintro d hd
   have hu:∀ x∈ts,0<=x.1/\x.1<=4294967295:=λx hx=>by have h:x.1/16777216=10:=(hpl.2.1 x hx).1;omega
   have ⟨m1,m2⟩:=af8 hN hpl hu (t:=500) ⟨aB,aB⟩
   rw[← hd] at m1 m2
   clear hd
   refine aw (λz=>by rw[m1] at z;cases z) (λ_=>?_)
   have hn:=m2.n
   refine⟨ab,⟨0,d.1,⟨ab,ab,rfl⟩,aI⟩,?_⟩
   rintro k l ⟨k0,k1,hl⟩
   have hll:(be l:Int)=be d.1:=by rw[hl,Uh]
   refine ci (λz=>?_) (λz=>?_)
   .rw[aG (n:=Int.tdiv i 2) (by rw[z9 i0];omega) (by rw[z9 i0];omega),aG (n:=k+1) ab ab]
    refine⟨⟨aB,aB,k0,z,k0,by rw[gd];exact z,qt i (k+1) d.1,rfl,?_⟩,?_⟩
    .have:=aG5 i0 q k0 ab hl (z9 i0)
     simp only[this]
     exact aI
    .rintro x rfl
     exact⟨k+1,_,⟨ab,ab,rfl⟩,ab,aI⟩
   .have e1:=hl.trans (a66 ab)
    have hR:=ac1 m2 i0 q
    rw[← e1] at hR
    refine⟨hB,hR,aB,?_⟩
    rintro sg ok u p ⟨hW,rfl,hB⟩
    have ⟨s1,s2⟩:=hW.len hR
    refine iu.2 ⟨⟨0,[],⟨ab,ab,rfl⟩,aI⟩,?_⟩
    rintro k b ⟨k0,k1,hb⟩
    have hbl:=PG sg (it k)
    rw[← hb] at hbl
    refine ci (λz=>?_) (λz=>?_)
    .have nx:=Zf k0 z
     have h2:=PG sg (it (k+1))
     rw[nx,← hb,bM] at h2
     rw[aG (n:=k+1) ab ab]
     exact⟨k0,z,ab,k+1,_,⟨ab,ab,by rw[nx,← hb]⟩,ab,aI⟩
    .rw[gN ab] at hb
     refine⟨⟨hD,?_⟩,?_⟩
     .rintro x u p ⟨x0,x1,hD⟩
      refine aw (λ_=>⟨hD,?_⟩) (λ_=>⟨(u,p),b,⟨hD,List.prefix_rfl⟩,aI⟩)
      rintro y u p ⟨y0,y1,hD⟩
      rw[aG (n:=(be b:Int)+1) ab ab] at y1
      exact⟨y0,ab,(u,p),_,⟨hD,List.take_prefix ..⟩,aI⟩
     rintro e b1 ⟨hD,hb1⟩
     have ⟨js,hJ,hls⟩:=hW.pre hR (hb▸hb1)
     have hbl:=hb1.length_le
     refine⟨⟨_,_,js,hJ⟩,ab,aB,?_⟩
     rintro a1 a2 a3 a4 got y hrec
     have hpre:got <+: l:=by rw[← hls];exact hrec _ _ _ hJ
     have hlen:=hpre.length_le
     have e2:got=bY l 0 (it ((be got:Int))):=by
      have:=List.prefix_iff_eq_take.1 hpre
      rw[Int.toNat_natCast]
      exact this
     rintro b hb
     have hb:=hb.trans (eT ab)
     subst hb
     (repeat refine⟨λ_=>(by first|rfl|exact⟨λ_=>rfl,aP⟩|exact⟨λ_=>rfl,λ_=>rfl,aP⟩|exact⟨λ_=>rfl,λ_=>rfl,aB,ab,ab,aP⟩|exact⟨λ_=>rfl,λ_=>rfl,e2,aP⟩|exact⟨λ_=>rfl,aB,ab,ab,aP⟩|exact⟨λ_=>rfl,e2,aP⟩),?_⟩)
     rw[aG (n:=i+1) ab ab]
     have hpn:=hP.n
     exact iu.2 ⟨by rw[eI];omega,i+1,(_,_),e,ps++[got],⟨ab,ab,hB,hD,hP.add (ab3 m2 (by rw[← e1];exact hpre))⟩,ab,aI⟩
  .have i3:i=3:=ab
   subst i3
   have hps:=hP.n
   have hone:=hP.one
   have hfl:be ps.flatten<=648:=by
    have:=Wu (n:=216) (ps:=ps) λp hp=>by
     obtain⟨j,hj,rfl⟩:=cb5.1 hp
     have:=(hP.p j hj).1
     rwa [cq,cG hj] at this
    omega
   refine⟨⟨0,[],([],[]),⟨ab,ab,rfl,by rw[a41]⟩,aI⟩,?_⟩
   rintro j a o ⟨j0,j3,ha,rfl⟩
   have hal:=PG ps (it j)
   rw[← ha] at hal
   have hll:=FL a
   refine aw (λz=>?_) (λz=>?_)
   .have z:=aX z
    have ⟨g1,g2⟩:=hP.get j0 z
    have nx:=Zf j0 z
    rw[← ha] at nx
    rw[aG (n:=j+1) ab ab]
    refine⟨j0,z,ab,j0,z,rfl,hone.sub λx hx=>?_,by show be (f8 a)+_<=_;omega,?_⟩
    .obtain hx|hx:=dI.1 hx
     .have hx:=ym.1 hx
      rw[ha] at hx
      have ⟨p,hp,hx⟩:=ci1.1 hx
      exact ci1.2 ⟨p,rX hp,hx⟩
     .exact g2 x hx
    rintro x y z ⟨hxy,rfl⟩
    exact iu.2 ⟨j+1,_,(x,y),⟨ab,ab,nx.symm,by rw[hxy];exact dP (·,[]) (an2 a _)⟩,ab,aI⟩
   .have z:=bg z
    rw[gN ab] at ha
    subst ha
    refine⟨⟨0,e,([],[]),⟨ab,ab,hD,rfl,ce6,aB,λx hx=>by cases hx⟩,aI⟩,?_⟩
    rintro k e2 o ⟨k0,k6,hD,hO⟩
    have hon:=hO.n
    refine ci (λz=>?_) (λz=>?_)
    .refine⟨hD,?_⟩
     rintro x u p ⟨x0,x1,hD⟩
     have hkx:0<=k*x/\k*x<=12:=by
      have:x=0∨x=1∨x=2:=ab
      obtain rfl|rfl|rfl:=this <;> omega
     rw[aG (n:=k*x) ab ab,aG (n:=2+k*x) ab ab,aG (n:=k+1) ab ab,Ce ab]
     generalize hm:(2+k*x)%3=m
     have m0:0<=m:=ab
     have m1:m<be ps:=ab
     have g:=hP.get m0 m1
     refine⟨aB,m0,m1,hO.c,hone.sub λx hx=>(dI.1 hx).elim (hO.m x) (g.2 x),ab,?_⟩
     rintro a b c ⟨hxy,rfl⟩
     exact iu.2 ⟨k+1,(u,p),(a,b),⟨ab,ab,hD,by rw[hxy];exact hO.add g⟩,ab,aI⟩
    .have k6:k=6:=ab
     subst k6
     rw[aG (n:=(be ps:Int)-1) ab ab]
     refine⟨⟨2,o,⟨ab,ab,hO,λj h1 h2=>ab⟩,ab,aI⟩,?_⟩
     clear hO hon
     rintro i o2 ⟨i0,i2,hO,hA⟩
     have hon:=hO.n
     refine ci (λz=>?_) (λz=>?_)
     .have z2:i<be ps:=ab
      have g:=hP.get z z2
      rw[aG (n:=i-1) ab ab]
      refine⟨z,z2,hO.c,hone.sub λx hx=>(dI.1 hx).elim (hO.m x) (g.2 x),ab,?_⟩
      rintro x y w ⟨hxy,-⟩
      have ha:=hO.add g
      rw[← hxy,show 8-i+1=8-(i-1) by omega] at ha
      refine⟨i-1,(x,y),⟨ab,ab,ha,λj h1 h2 v hv=>?_⟩,ab,aI⟩
      have hx:x=f8 (o2.1++Om ps (it i) Sk):=dP Prod.fst hxy
      show v∈x
      rw[hx,ym,dI]
      by_cases k:i<j
      .exact .inl (hA j k h2 v hv)
      .right
       rwa [show it i=j by omega]
     .have he:o2.1=f8 ps.flatten:=NY hO.s (GN _) λx=>by
       rw[ym]
       refine⟨hO.m x,λhx=>?_⟩
       have ⟨p,hp,hx⟩:=ci1.1 hx
       obtain⟨j,hj,rfl⟩:=cb5.1 hp
       exact hA j ab ab x (by rwa [cq,cG hj])
      refine⟨he.symm,rfl,hO.c,?_⟩
      rintro b rfl
      refine Mj.2 ⟨λ_=>rfl,hone,ab,?_⟩
      rintro x y hxy
      cases hxy
      refine⟨λ_=>⟨λ_=>rfl,rfl,rfl,rfl,aP⟩,λ_=>rfl,?_⟩
      (repeat (refine cL ?_;repeat refine cK ?_))
      rfl
theorem ok_top_TopJournalsMerge:aC 3 WK.spec:=aF Tryz.func3 (a24 (Gx (ap (ap (ap (ap (ap (ap (ap (ap (ap (ap (ap (ap aD aF9) (Ct.named Se)) Bu) (Ct.named Vm)) bv5) (Ct.named Yt)) bs7) bV4) bk3) (Ct.named at7)) (Ct.named bD9)) ZM) (d:=107)) (d:=7)) af3 bo1
end Go.RS
