/- Xw2: the program's exchange: messages are sent and taken, they arrive; a tick. -/
import Derived.Test.YtghpjjompmlooaaGreatDoorSx30
import Derived.Test.YtghpjjompmlooaaGreatDoorWire
set_option maxRecDepth 100000
set_option linter.all false
open Int (toNat)
open List (length take drop)
open Bool renaming false->ct2,true->cs8
open Decidable renaming decide->cs7
open Go renaming maxLen->cu5
open Go.IntKind renaming u8->cw0,wrap->ct1
open Inhabited renaming default->cs5
open Int renaming ediv_le_self->cT4,ediv_nonneg->cU5,le_trans->cJ4,tdiv->cB9,toNat->M,toNat_natCast->cv6,toNat_of_nonneg->cF2
open List renaming Pairwise->cy1,all_eq_true->cz6,any->cW4,cons_prefix_cons->cP6,dropWhile_cons->cI8,drop_eq_nil_of_le->cA3,flatMap_cons->cz0,getD->T,getD_cons_succ->cB8,length->V,mem_filter->cx9,mem_flatMap->cG7,pairwise_cons->cu1,takeWhile_cons->cI7,takeWhile_cons_of_neg->cB3,takeWhile_cons_of_pos->cF4,take_length->cz4
namespace Go.RS
open Go.SX Go.Proofs
def yd(a b:bU):Prop:=a.1<b.1∨a.1=b.1/\a.2.1<b.2.1
def tq(x y:bU):Int:=if c9 x.1 y.1≠0 then c9 x.1 y.1 else c9 x.2.1 y.2.1
instance (a b:bU):Decidable (yd a b):=by unfold yd;infer_instance
def bC0:Ct:=⟨[.agg ji,.agg ji],[.val cI],λ_=>[],λd=>((tq d.1 d.2.1,()),())⟩
theorem aF8:
 ∀ a b c d e f,iq a b c/\J (iq d e f)->True->pD (c9 a d::bI (c9 b e))=tq (a,b,c) (d,e,f):= by
  delta aq aH aM J bI iq aF
  rintro a c a3 b d b3 - -
  have e:tq (a,c,a3) (b,d,b3)=if c9 a b≠0 then c9 a b else c9 c d:=rfl
  simp only[pD]
  grind
theorem ax0:aB 168 bC0.spec:=aG Tryz.func168 (C (C aC GZ) KI) aS aF8
variable{α:Type}
def tR(p:α->Bool)(l:List α):Int:=(V (l.takeWhile p):Int)
theorem Fl(p)(l:List α):0<=tR p l/\tR p l<=V l:=by
 unfold tR
 have:=dL V (oR (p:=p) (l:=l))
 grind
theorem ai3{α} [Inhabited α] {p:α->Bool} {R:α->α->Prop} (hR:∀ a b,R a b->p b=cs8->p a=cs8):∀{l:List α}{h:Nat},l.Pairwise R->h<V l->(p (T l h cs5)=cs8↔(h:Int)<tR p l)
 | a::l,h,hs,hh=>by
  obtain⟨s1,s2⟩:=cu1.1 hs;by_cases c:p a=cs8
  .have e:tR p (a::l)=tR p l+1:=by unfold tR;rw[cF4 c,fa];omega
   cases h with
   | zero =>
    have:=Fl p l;grind
   | succ h =>
    simp only[cB8];rw[ai3 hR s2 (by simpa using hh),e];omega
  .have e:tR p (a::l)=0:=by unfold tR;rw[cB3 c];rfl
   grind
variable{h:Int}
theorem Zp [Inhabited α] {p} {R} (hR:∀ a b,R a b->p b=cs8->p a=cs8) {l:List α} (hs:l.Pairwise R) (h0:0<=h) (h1:h<V l):p (T l (M h) cs5)=cs8↔h<tR p l:=by
 rw[ai3 hR hs Y]
 rw[cF2 h0]
theorem Wb(p)(l:List α):l.take (M (tR p l))=l.takeWhile p/\l.drop (M (tR p l))=l.dropWhile p:=by
 have k:=oR (p:=p) (l:=l)
 have t1:∀ A B,A++B=l->l.take (V A)=A/\l.drop (V A)=B:=by
  grind
 exact t1 _ _ k
theorem VG{x y}:tq x y<0↔yd x y:=by
 unfold tq c9 yd
 grind
abbrev qO(l:List bU)(t:bU):Int:=tR (λx=>cs7 (tq x t<0)) l
variable{l:List bU}
theorem UW{t}(hs:l.Pairwise yd)(h0:0<=h)(h1:h<V l):tq (T l (M h) cs5) t<0↔h<qO l t:=by
 rw[← Zp (λa b hab hb=>?_) hs h0 h1,pJ]
 simp only[pJ,VG] at hb ⊢
 unfold yd at *;omega
def ah7:Ct:=⟨[.val (.sl ji),.agg ji,.fn 168 0],[.val cI,.val .bool],λd=>[d.1.Pairwise yd],λd=>((qO d.1 d.2.1,(bif cs7 (qO d.1 d.2.1<V d.1) then cs7 (tq (T d.1 (M (qO d.1 d.2.1)) cs5) d.2.1=0) else ct2),()),())⟩
def bU4:bG ah7.ps->bL:=(λd=>{loops:=(bz 3 (λS=>{ι:=Int×Int,qn:=fE,μ:=λi=>M (i.2-i.1),inv:=λi=>0<=i.1/\i.1<=qO d.1 d.2.1/\qO d.1 d.2.1<=i.2/\i.2<=V d.1,keep:=[0,2,4,8],slots:=λi=>[(9,.int .i64 i.1),(10,.int .i64 i.2)],keepN:=[80]}) cm)})
def IZ(a:Int)(b:List cO)(c d:Int)(e:Z)(f:Int):=bo a (qO b (c,d,e)) (qO b (c,d,e)<=f) (f<=O b)
theorem cn9:
 ∀ a b c d,kR a/\iq b c d/\J True->cy1 yd a->(∃ e f,IZ e a b c d f/\a=a/\O a=O a/\0=e/\O a=f/\bp b c (d=d) True)/\ ∀ e f,IZ e a b c d f->au (av e f) (am 1 (0<=mI e f) (mI e f<O a/\au (da (tq (N a (mI e f)) (b,c,d))) (∃ g h,IZ g a b c d h/\bZ (h -g) (f -e)/\a=a/\O a=O a/\aA (mI e f)=g/\f=h/\bp b c (d=d) True) (∃ g h,IZ g a b c d h/\bZ (h -g) (f -e)/\a=a/\O a=O a/\e=g/\mI e f=h/\bp b c (d=d) True))) (EW e (O a) (e<O a) (e=qO a (b,c,d)) (aY (tq (N a e) (b,c,d))) (bq (av (qO a (b,c,d)) (O a)) (aY (tq (N a (qO a (b,c,d))) (b,c,d))))):= by
  delta N O ap aq aH aM aK bp cB bq bZ am kR aY bo mI aA J iW dE EW da av IZ iq aF
  rintro x c d e ⟨⟨hl,-⟩,-⟩ hs
  simp only[cu5] at hl
  have ⟨q0,q1⟩:=Fl (λy=>cs7 (tq y (c,d,e)<0)) x
  refine⟨⟨0,V x,⟨Y,q0,q1,Y⟩,aI⟩,?_⟩
  rintro i j ⟨f,h1,h2,h3⟩
  refine bT (λhb=>?_) (λhb=>?_)
  .rw[Kw f Y Y]
   refine⟨Y,Y,Y,bT (λa=>?_) (λa=>?_)⟩
   .have a:=(UW hs Y Y).1 a
    exact⟨(i+j)/2+1,j,⟨Y,Y,h2,h3⟩,Y,aI⟩
   .have a:¬ (i+j)/2<qO x (c,d,e):=λh=>absurd ((UW hs Y Y).2 h) a
    exact⟨i,(i+j)/2,⟨f,h1,Y,Y⟩,Y,aI⟩
  .grind
theorem az5:aB 167 ah7.spec:=aG Tryz.func167 (C aC ax0) bU4 cn9
abbrev Y3:OT := .pair cI (.pair cI (.pair (.hole 0) (.pair (.hole 1) (.pair (.hole 2) (.pair (.hole 3) (.pair (.hole 4) (.pair (.hole 5) (.hole 6))))))))
def nH(now ord:Int)(l:List bU):Prop:=(0<=now/\now<=2000000000000)/\(0<=ord/\ord<=1000000000000000)/\l.Pairwise yd/\(∀ x∈l,x.2.1<ord)/\V l<=4096
theorem Oj{α:Type}{p q}:∀{l:List α},(∀ x∈l,p x=q x)->l.takeWhile p=l.takeWhile q/\l.dropWhile p=l.dropWhile q
 | [],_=>⟨rfl,rfl⟩
 | a::l,h=>by
  obtain⟨h1,h2⟩:=Oj λx hx=>h x (eZ _ hx);have ha:=h a (dU ..);rw[cI7,cI7,cI8,cI8,ha,h1,h2];exact⟨rfl,rfl⟩
theorem a68{t:bU}(ht:∀ x∈l,x.2.1<t.2.1):l.take (M (qO l t))++([t]++l.drop (M (qO l t)))=pG l t:=by
 have ⟨e1,e2⟩:=Oj (p:=λx=>cs7 (tq x t<0)) (q:=λx=>cs7 (x.1<=t.1)) (l:=l) λx hx=>by
  have:=ht x hx;apply decide_eq_decide.2;rw[VG];unfold yd;omega
 have ⟨t2,t3⟩:=Wb (λx=>cs7 (tq x t<0)) l
 rw[t2,t3,e1,e2]
 rfl
theorem aS9(now d)(b):∀ n k{s:Int×List bU},¬ V s.2<4096->mh now d b n k s=s
 | 0,k,s,h=>rfl
 | n+1,k,s,h=>by rw[mh,I h]
variable{now o a:Int}
theorem nH.next{ys b}(h:nH now o ys)(h1:o<1000000000000000)(hl:V ys<4096):nH now (o+1) (pG ys (a,o,b)):=by
 have ⟨h2,h3,h4,d,h6⟩:=h
 refine⟨h2,Y,ak4 h4 d,λx c=>?_,by rw[RA];omega⟩
 obtain rfl|c:=Bb.1 c
 .show o<o+1;omega
 .have:=d x c;omega
def UI:Ct:=⟨[.box 56 Y3,.own 279 ji,.val (.sl bc),.val (.sl tA),.val cI],[.own 279 ji],λd=>[nH d.1.1 d.1.2.1 d.2.1,d.1.2.1<=900000000000000,Cg (mb d.2.2.2.1 (M d.2.2.2.2.1)),0<=d.2.2.2.2.1,(V d.2.2.1:Int)<=1000000],λd=>(((iB d.1.1 d.2.2.1 (mb d.2.2.2.1 (M d.2.2.2.2.1)) (d.1.2.1,d.2.1)).2,()),((d.1.1,(iB d.1.1 d.2.2.1 (mb d.2.2.2.1 (M d.2.2.2.2.1)) (d.1.2.1,d.2.1)).1,d.1.2.2),()))⟩
def aE3:bG UI.ps->bL:=(λd=>{loops:=(bz 7 (λS=>{ι:=Int×Int×(List bU),qn:=ot,μ:=λi=>M ((mb d.2.2.2.1 (M d.2.2.2.2.1)).2.2+1-i.1),inv:=λi=>0<=i.1/\i.1<=(mb d.2.2.2.1 (M d.2.2.2.2.1)).2.2+1/\nH d.1.1 i.2.1 i.2.2/\i.2.1<=d.1.2.1+i.1/\mh d.1.1 (mb d.2.2.2.1 (M d.2.2.2.2.1)).2.1 d.2.2.1 (M ((mb d.2.2.2.1 (M d.2.2.2.2.1)).2.2+1-i.1)) i.1 (i.2.1,i.2.2)=iB d.1.1 d.2.2.1 (mb d.2.2.2.1 (M d.2.2.2.2.1)) (d.1.2.1,d.2.1),keep:=[0,2,11],slots:=λi=>[(1,.own 524288 3),(12,.int .i64 i.1)],keepN:=[192],names:=λi=>[(1048576,.live (.cells 56 (qZ Y3 (d.1.1,i.2.1,d.1.2.2) 1 0))),(524288,.live (.row 279 ji i.2.2)),(1572864,.dead),(1572865,.dead),(1572866,.dead),(1572867,.dead),(1572868,.dead),(1572869,.dead),(1572870,.dead)]}) cm),cuts:=(bz 4 (λS=>{ι:=fC,inv:=λi=>i=mb d.2.2.2.1 (M d.2.2.2.2.1),keep:=[0,1,2,11],slots:=λi=>[],keepN:=[1048576,2097152],names:=λi=>[(1572864,.dead),(1572865,.dead),(1572866,.dead),(1572867,.dead),(1572868,.dead),(1572869,.dead),(1572870,.dead),(192,.live (.cells 127 [.bool i.1,.int .i64 i.2.1,.int .i64 i.2.2]))]}) cm)})
def mX(a b c:Go.SX.SV)(d e:Prop):=a=a/\b=b/\c=c/\d/\e
def rg(a:bh5):=V a<=cu5/\ ∀(b:cr3),b∈a->True/\aq b.2.1/\aq b.2.2
def xy(a:Prop):=True/\True/\True/\a
def jS(a:bh5)(b:Int):=mb a (M b)
theorem aB1:
 ∀ a b c d e f g h i j k l m,bJ a b True (xy (True/\J True))/\kR j/\aM k/\rg l/\J (aq m)->nH a b j/\b<=900000000000000/\Cg (jS l m)/\0<=m/\bV k->au (av m (O l)) (am m (m<O l) (∃ n,n=jS l m/\k=k/\bp a b (c=c) (mX d e f (g=g) (h=h/\i=i/\j=j/\(N l m).1=n.1/\(N l m).2.1=n.2.1/\J ((N l m).2.2=n.2.2))))) (∃ n,n=jS l m/\k=k/\bp a b (c=c) (mX d e f (g=g) (h=h/\i=i/\j=j/\ct2=n.1/\0=n.2.1/\J (0=n.2.2))))/\ ∀ n,n=jS l m->au n.1 (j=(iB a k (jS l m) (b,j)).2/\(a,b,c,d,e,f,g,h,i)=(a,(iB a k (jS l m) (b,j)).1,c,d,e,f,g,h,i)) ((∃ o p q,bo o ((jS l m).2.2+1) (nH a p q) (p<=b+o/\mh a (jS l m).2.1 k (M ((jS l m).2.2+1 -o)) o (p,q)=iB a k (jS l m) (b,j))/\k=k/\0=o/\n.1=n.1/\bh n.2.1 n.2.2 a
 (b=p) (mX c d e (f=f) (mX g h i (j=q) True)))/\ ∀ o p q,bo o ((jS l m).2.2+1) (nH a p q) (p<=b+o/\mh a (jS l m).2.1 k (M ((jS l m).2.2+1 -o)) o (p,q)=iB a k (jS l m) (b,j))-> ∀ r,r=cs7 (o<=n.2.2)->wt r r (bq r (av (O q) 4096)) (aR k/\cy1 yd q/\V [(ap (ap (aA a+n.2.1)+o),p,k)]=1/\bo (qO q (ap (ap (aA a+n.2.1)+o),p,k)) (O q) (bR ((V q+1)*40)) (∃ s t u,bo s ((jS l m).2.2+1) (nH a t u) (t<=b+s/\mh a (jS l m).2.1 k (M ((jS l m).2.2+1 -s)) s (t,u)=iB a k (jS l m) (b,j))/\bi ((jS l m).2.2+1) s o/\k=k/\aA o=s/\n.1=n.1/\bh n.2.1 n.2.2 a (aA p=t) (mX c d e (f=f) (mX g h i (take (M (qO q (ap (ap (aA a+n.2.1)+o),p,k))) q++([(ap (ap (aA a+n.2.1)+o),p,k)]++drop (M (qO q (ap (ap
 (aA a+n.2.1)+o),p,k))) q)=u) True)))) (q=(iB a k (jS l m) (b,j)).2/\(a,p,c,d,e,f,g,h,i)=(a,(iB a k (jS l m) (b,j)).1,c,d,e,f,g,h,i))):= by
  delta N O ap aq aH aM aK bh bp aR cB bi bq bZ am bR kR bJ bV bo mX rg aA J xy av wt jS iq aF
  rintro now c s0 s1 s2 s3 s4 s5 s6 l b fs i-⟨g,hor,j,hi,hb⟩
  refine⟨bT (λh=>?_) (λh=>?_),?_⟩
  .exact⟨hi,h,_,rfl,aI⟩
  .have e:mb fs (M i)=(ct2,0,0):=by unfold mb;rw[cK,xQ Y];rfl
   simp_all
  rintro F hF
  rw[← hF] at j ⊢
  have ⟨hf1,hf2⟩:=j
  refine ay (λh=>?_) (λh=>?_)
  .unfold iB
   simp_all
  have eF:iB now b F (c,l)=mh now F.2.1 b (M (F.2.2+1)) 0 (c,l):=by unfold iB;rw[I (by rw[h];simp)]
  rw[eF]
  have d:=g
  obtain⟨n0,o0,-,-,hl0⟩:=d
  refine⟨⟨0,c,l,⟨Y,Y,g,Y,by rw[Int.sub_zero]⟩,aI⟩,?_⟩
  rintro k o ys ⟨k0,k1,m,ho2,he⟩
  have f:=m
  obtain⟨-,o1,o2,o3,o4⟩:=f
  (repeat (refine cG ?_;repeat refine cH ?_))
  refine uZ (λa p=>?_) (λa=>?_)
  .have a:=aX a
   have p:=aX p
   obtain⟨n,hn⟩:∃ n,M (F.2.2+1-k)=n+1:=⟨M (F.2.2-k),Y⟩
   rw[aJ (n:=now+1) Y Y,aJ (n:=now+1+F.2.1) Y Y,aJ Y Y]
   have ⟨q0,q1⟩:=Fl (λx=>cs7 (tq x (now+1+F.2.1+k,o,b)<0)) ys
   refine⟨Y,o2,rfl,q0,q1,Y,k+1,o+1,pG ys (now+1+F.2.1+k,o,b),⟨Y,Y,m.next Y Y,Y,?_⟩,Y,?_⟩
   .rw[← he,hn,show M (F.2.2+1-(k+1))=n by omega]
    rw[mh,ao (by show V ys<4096;omega)]
   ·(repeat refine g9 ?_)
    exact⟨a68 o3,aQ⟩
  .have hz:mh now F.2.1 b (M (F.2.2+1-k)) k (o,ys)=(o,ys):=by
    obtain a|a:=a
    .have a:=bg a
     rw[show M (F.2.2+1-k)=0 by omega];rfl
    .have a:=bg a
     exact aS9 _ _ _ _ _ (by show ¬ V ys<4096;omega)
   simp_all
theorem al6:aB 92 UI.spec:=aG Tryz.func92 (C (C (C aC po) az5) a42) aE3 aB1
abbrev lu(l:List dO)(i:Int):Int:=tR (λx=>cs7 (c9 x.1 i<0)) l
theorem Sr{b}:c9 a b<0↔a<b:=by
 unfold c9
 grind
variable{l:List dO}
theorem L5{t:Int}(hs:l.Pairwise λa b=>a.1<b.1)(h0:0<=h)(h1:h<V l):c9 (T l (M h) cs5).1 t<0↔h<lu l t:=by
 rw[← Zp (λa b hab hb=>?_) hs h0 h1,pJ]
 simp only[pJ,Sr] at hb ⊢
 omega
def bk9:Ct:=⟨[.agg tz,.val cI],[.val cI],λ_=>[],λd=>((c9 d.1.1 d.2.1,()),())⟩
theorem bZ3:
 ∀ a b c,(aq a/\aM b)/\J (aq c)->True->c9 a c=c9 a c:= by
  delta aq aH aM J aF
  intros;rfl
theorem bn1:aB 225 bk9.spec:=aG Tryz.func225 (C aC GZ) aS bZ3
def YV:Ct:=⟨[.val (.sl tz),.val cI,.fn 225 0],[.val cI,.val .bool],λd=>[d.1.Pairwise λa b=>a.1<b.1],λd=>((lu d.1 d.2.1,(bif cs7 (lu d.1 d.2.1<V d.1) then cs7 (c9 (T d.1 (M (lu d.1 d.2.1)) cs5).1 d.2.1=0) else ct2),()),())⟩
def cb1:bG YV.ps->bL:=(λd=>{loops:=(bz 3 (λS=>{ι:=Int×Int,qn:=fE,μ:=λi=>M (i.2-i.1),inv:=λi=>0<=i.1/\i.1<=lu d.1 d.2.1/\lu d.1 d.2.1<=i.2/\i.2<=V d.1,keep:=[0,1,2,8],slots:=λi=>[(9,.int .i64 i.1),(10,.int .i64 i.2)]}) cm)})
def HR(a:Int)(b:cr6)(c d:Int):=bo a (lu b c) (lu b c<=d) (d<=O b)
theorem bs8:
 ∀ a b,yG a/\aq b/\J True->cy1 (λc d=>c.1<d.1) a->(∃ c d,HR c a b d/\a=a/\bp b (O a) (0=c) (J (O a=d)))/\ ∀ c d,HR c a b d->au (av c d) (am 1 (0<=mI c d) (mI c d<O a/\au (da (c9 (N a (mI c d)).1 b)) (∃ e f,HR e a b f/\bZ (f -e) (d -c)/\a=a/\bp b (O a) (aA (mI c d)=e) (J (d=f))) (∃ e f,HR e a b f/\bZ (f -e) (d -c)/\a=a/\bp b (O a) (c=e) (J (mI c d=f))))) (EW c (O a) (c<O a) (c=lu a b) (aY (c9 (N a c).1 b)) (bq (av (lu a b) (O a)) (aY (c9 (N a (lu a b)).1 b)))):= by
  delta N O ap aq aH aM aK bp cB bq bZ am aY bo mI aA J iW yG dE EW da av HR aF
  rintro x p ⟨⟨hl,-⟩,-⟩ hs
  simp only[cu5] at hl
  have ⟨q0,q1⟩:=Fl (λy:dO=>cs7 (c9 y.1 p<0)) x
  refine⟨⟨0,V x,⟨Y,q0,q1,Y⟩,aI⟩,?_⟩
  rintro i j ⟨d,h1,h2,h3⟩
  refine bT (λhb=>?_) (λhb=>?_)
  .rw[Kw d Y Y]
   refine⟨Y,Y,Y,bT (λc=>?_) (λc=>?_)⟩
   .have c:=(L5 hs Y Y).1 c
    exact⟨(i+j)/2+1,j,⟨Y,Y,h2,h3⟩,Y,aI⟩
   .have c:¬ (i+j)/2<lu x p:=λh=>absurd ((L5 hs Y Y).2 h) c
    exact⟨i,(i+j)/2,⟨d,h1,Y,Y⟩,Y,aI⟩
  .grind
theorem bL7:aB 224 YV.spec:=aG Tryz.func224 (C aC bn1) cb1 bs8
abbrev ce7:OT := .pair (.hole 0) (.pair (.hole 1) (.pair cI (.pair (.hole 2) (.pair cI (.pair (.row 22 (.sl bc)) (.pair (.row 196 tz) (.pair (.hole 3) (.hole 4))))))))
def M3(kn w:Int)(g:bg4)(e:List dO):Prop:=(0<=kn/\kn<=100000)/\(0<=w/\w<=100000)/\V g<=100000/\V e<=100000/\e.Pairwise λa b=>a.1<b.1
theorem a05{i:Int}(c:l.Pairwise λa b=>a.1<b.1):(bif cs7 (lu l i<V l) then cs7 (c9 (T l (M (lu l i)) cs5).1 i=0) else ct2)=l.any λx=>cs7 (x.1=i):=by
 have ⟨d,q1⟩:=Fl (λx=>cs7 (c9 x.1 i<0)) l
 have d:0<=lu l i:=d
 apply AR.2
 rw[List.any_eq_true,Dt,pJ]
 have ez:∀ a,c9 a i=0↔a=i:=λa=>by
  unfold c9;omega
 constructor
 .grind
 .rintro⟨x,hx,h⟩;have h:=aX h;obtain⟨j,hj,rfl⟩:=List.mem_iff_getElem.1 hx;have g:∀ k,(e:k<V l)->T l k cs5=l[k]:=λk e=>by rw[cK,cT e];rfl
  have k1:¬ (j:Int)<lu l i:=λk=>by
   have:=(L5 c Y Y).2 k;grind
  have f:lu l i<V l:=Y;refine⟨f,(ez _).2 ?_⟩;have k3:¬ c9 (T l (M (lu l i)) cs5).1 i<0:=λk=>absurd ((L5 c d f).1 k) Y;rw[Sr,g _ Y] at k3;rw[g _ Y];by_cases hq:M (lu l i)=j
  .simp only[hq,h]
  .have:=List.pairwise_iff_getElem.1 c (M (lu l i)) j Y hj Y;omega
theorem cp5{x}:l.take (M (lu l x.1))++([x]++l.drop (M (lu l x.1)))=DO l x:=by
 have ⟨e1,e2⟩:=Oj (p:=λy:dO=>cs7 (c9 y.1 x.1<0)) (q:=λy=>cs7 (y.1<x.1)) (l:=l) λy hy=>by
  apply decide_eq_decide.2;exact Sr
 have ⟨t2,t3⟩:=Wb (λy:dO=>cs7 (c9 y.1 x.1<0)) l
 rw[t2,t3,e1,e2]
 rfl
variable{e:List dO}{g:bg4}
theorem aA3(h:e=[]∨(T e 0 cs5).1≠V g):sV e g=(g,e):=by
 cases e with
 | nil=>rfl
 | cons x r =>
  obtain h|h:=h
  .cases h
  .rw[sV,I (show ¬ x.1=_ from h)]
def Un:Ct:=⟨[.box 56 ce7,.val cI,.val (.sl bc)],[],λd=>[M3 d.1.2.2.2.2.1 d.1.2.2.1 d.1.2.2.2.2.2.1 d.1.2.2.2.2.2.2.1],λd=>((),((d.1.1,d.1.2.1,d.1.2.2.1,d.1.2.2.2.1,d.1.2.2.2.2.1,(ng (d.1.2.2.2.2.1+d.1.2.2.1) (d.1.2.2.2.2.2.1,d.1.2.2.2.2.2.2.1) d.2.1 d.2.2.1).1,(ng (d.1.2.2.2.2.1+d.1.2.2.1) (d.1.2.2.2.2.2.1,d.1.2.2.2.2.2.2.1) d.2.1 d.2.2.1).2,d.1.2.2.2.2.2.2.2),()))⟩
def bY0:bG Un.ps->bL:=(λd=>{loops:=(bz 3 (λS=>{ι:=bg4×(List dO),qn:=fE,μ:=λi=>V i.2,inv:=λi=>sV i.2 i.1=sV d.1.2.2.2.2.2.2.1 (d.1.2.2.2.2.2.1++[d.2.2.1])/\V i.1+V i.2<=300000,keep:=[0],slots:=λi=>[],names:=λi=>[(1048576,.live (.cells 56 [.hv 1572864 d.1.1,.hv 1572865 d.1.2.1,.int .i64 d.1.2.2.1,.hv 1572866 d.1.2.2.2.1,.int .i64 d.1.2.2.2.2.1,.own 524288 1,.own 524289 2,.hv 1572867 d.1.2.2.2.2.2.2.2.1,.hv 1572868 d.1.2.2.2.2.2.2.2.2])),(524288,.live (.row 22 (.sl bc) i.1)),(524289,.live (.row 196 tz i.2)),(1572864,.dead),(1572865,.dead),(1572866,.dead),(1572867,.dead),(1572868,.dead)]}) cm)})
def LD(a:List dO)(b:bg4)(c:cr6)(d e:bg4):=sV a b=sV c (d++e)/\V b+V a<=300000
theorem bw2:
 ∀(a b:Go.SX.SV)c(d:Go.SX.SV)e f g(h i:Go.SX.SV)j k,(True/\True/\aq c/\True/\aq e/\uk f/\yG g/\J True)/\aq j/\J (aM k)->aF e 100000/\aF c 100000/\V f<=100000/\V g<=100000/\cy1 (λl m=>l.1<m.1) g->cy1 (λl m=>l.1<m.1) g/\au (cs7 (j=O f)) (D5 f k/\(∃ l m,LD m l g f (nR k)/\a=a/\b=b/\c=c/\d=d/\e=e/\h=h/\i=i/\f++nR k=l/\J (g=m))/\ ∀ l m,LD m l g f (nR k)-> ∀ n,n=av 0 (O m)->fp n n (aK n) (n->um n (O m)) (cB n n (aK n) (n->aK n) (fp n n (aK n) (n->dE n) ((n->n)/\au (lW n (N m 0).1 (O l)) (bP 0 (O m) (D5 l (N m 0).2) (am 1 (1<=O m) (∃ o p,LD p o g f (nR
 k)/\V p<V m/\a=a/\b=b/\c=c/\d=d/\e=e/\h=h/\i=i/\l++nR (N m 0).2=o/\J (drop (M 1) m=p)))) ((a,b,c,d,e,l,m,h,i)=(a,b,c,d,e,(ng (e+c) (f,g) j k).1,(ng (e+c) (f,g) j k).2,h,i)))))) (∀ l,l=av (O f) j->(l->aK l)/\(l->l)/\ ∀ m,m=bq l ( !bq (av (lu g j) (O g)) (aY (c9 (N g (lu g j)).1 j)))->cB m m (aK m) (m->aK m) (fp m m (aK m) (m->dE m) ((m->dE m)/\(m->m)/\au (bq m (av j (ap (e+c)))) (V [(j,k)]=1/\bo (lu g j) (O g) (bR ((V g+1)*32)) ((a,b,c,d,e,f,take (M (lu g j)) g++([(j,k)]++drop (M (lu g j)) g),h,i)=(a,b,c,d,e,(ng (e+c) (f,g) j k).1,(ng (e+c) (f,g) j k).2,h,i))) ((a,b,c,d,e,f,g,h,i)=(a,b,c,d,e,(ng (e+c) (f,g) j k).1,(ng (e+c) (f,g) j k).2,h,i))))):= by
  delta N O ap aq aH aM aK cB bq am bR aY bo fp J uk yG dE av bP nR um lW aF D5 LD
  rintro s0 s1 w s2 k g e s3 s4 i f-⟨hkn,hw,hg,he,m⟩
  refine⟨m,bT (λh=>?_) (λh=>?_)⟩
  .have eA:ng (k+w) (g,e) i f=sV e (g++[f]):=ao h
   rw[eA]
   refine⟨by simp;omega,⟨_,_,⟨rfl,by rw[cw,fq];omega⟩,aI⟩,?_⟩
   rintro j l ⟨n,hb⟩
   (repeat (refine cG ?_;repeat refine cH ?_))
   refine uZ (λc d=>?_) (λc=>?_)
   .have c:=aX c
    have d:=aX d
    cases l with
    | nil=>simp at c
    | cons x r =>
     have d:x.1=(V j:Int):=d
     have hb':V j+(V r+1)<=300000:=hb
     refine⟨Y,c,by simp;omega,Y,by simp;omega,j++[x.2],r,⟨?_,by rw[cw,fq];omega⟩,aw,aI⟩
     rw[← n,sV,ao d]
   .have hz:sV l j=(j,l):=by
     refine aA3 ?_
     simp_all
    rw[← n,hz]
  .rw[a05 m,aJ Y Y]
   have eB:ng (k+w) (g,e) i f=if i<V g∨k+w<=i∨(e.any λx=>cs7 (x.1=i))=cs8 then (g,e) else (g,DO e (i,f)):=I h
   rw[eB]
   (repeat (refine cG ?_;repeat refine cH ?_))
   have ⟨q0,q1⟩:=Fl (λy:dO=>cs7 (c9 y.1 i<0)) e
   cases hany:(e.any λx=>cs7 (x.1=i)) with
   | true =>
    rw[ao (.inr (.inr rfl))]
    simp
    trivial
   | false =>
    refine uZ (λc d=>?_) (λc=>?_)
    .have d:=aX d
     have c:(V g:Int)<i:=by simpa[lY] using c
     rw[I (by simp;omega)]
     exact⟨rfl,q0,q1,Y,by rw[cp5 (x:=(i,f))]⟩
    .grind
theorem aw6:aB 163 Un.spec:=aG Tryz.func163 (JW (C (C aC bL7) bQ3) (d:=77)) bY0 bw2
variable{l:List bU}
theorem YH{n:Int}(h0:0<=n)(h1:n<=V l)(h2:∀ x∈l.take (M n),x.1<=now)(a:¬ n<V l∨¬ (T l (M n) cs5).1<=now):M n=V (cP now l):=by
 have e:cP now l=l.take (M n):=by
  unfold cP
  conv=>lhs;rw[← mj (M n) l]
  rw[List.takeWhile_append_of_pos (λx hx=>by simpa using h2 x hx)];obtain a|a:=a
  .rw[cA3 Y];simp
  .by_cases hn:n<V l
   .rw[sM Y];rw[cK,cT Y] at a;rw[cB3 (by simpa using a),js]
   .rw[cA3 Y];simp
 simp_all
abbrev b66:OT := .pair cI (.pair (.hole 0) (.pair (.hole 1) (.pair (.hole 2) (.pair (.hole 3) (.pair (.hole 4) (.pair (.hole 5) (.pair (.row 279 ji) (.hole 6))))))))
abbrev aQ3:OT := .pair cI (.pair (.hole 0) (.pair (.hole 1) (.pair (.hole 2) (.pair (.hole 3) (.pair (.hole 4) (.pair (.hole 5) (.pair (.rowg 279 ji) (.hole 6))))))))
def an6:Cp:=⟨56,b66,aQ3,7,279,ji,λd=>d.2.2.2.2.2.2.2.1,λ_=>[],λd=>(d.1,d.2.1,d.2.2.1,d.2.2.2.1,d.2.2.2.2.1,d.2.2.2.2.2.1,d.2.2.2.2.2.2.1,(),d.2.2.2.2.2.2.2.2),λd=>V (cP d.1 d.2.2.2.2.2.2.2.1)⟩
def cp2:an6.o.D->bL:=(λd=>{loops:=(bz 2 (λS=>{ι:=Int,μ:=λi=>M (V d.2.2.2.2.2.2.2.1-i),inv:=λi=>0<=i/\i<=V d.2.2.2.2.2.2.2.1∧∀ x∈d.2.2.2.2.2.2.2.1.take (M i),x.1<=d.1,keep:=[0,1],slots:=λi=>[(5,.int .i64 i)],keepN:=[1048576,2097152],names:=λi=>[(1572864,.dead),(1572865,.dead),(1572866,.dead),(1572867,.dead),(1572868,.dead),(1572869,.dead),(1572870,.dead)]}) cm)})
def mQ(a:Int)(b:List cO):=V (cP a b)
def Cj(a:Int)(b:List cO)(c:Int):=am a (a<=O b) (∀(d:cO),d∈take (M a) b->d.1<=c)
def L3(a:Int)(b:List cO)(c:Int)(d e:Nat)(f g:Prop):=bo 0 a (a<=O b) (bo a (O b) (O b<=O b) (M 0=0/\M a -M 0=mQ c b/\b=b/\d=e/\f/\g))
def Jo(a b:Int)(c:Prop)(d:Bool)(e f:Prop):=∀(g:Bool),g=av a b->oq g g (iW g g a c) (aK g) (g->aK g) (fp g g (dE g) (g->g) (au (bq g d) e f))
theorem aS3:
 ∀ a(b c d e f g:Go.SX.SV)h i,aq a/\xy (xy (J (kR h)))->True->(∃ j,Cj j h a/\0=j/\a=a/\mX b c d (e=e) (mX f g i (h=h) True))/\ ∀ j,Cj j h a->Jo j (O h) (j<O h) (cs7 ((N h j).1<=a)) (∃ k,Cj k h a/\bi (O h) k j/\aA j=k/\a=a/\mX b c d (e=e) (mX f g i (h=h) True)) (L3 j h a (M j) (mQ a h) (M (O h) -M j=V h -mQ a h) ((a,b,c,d,e,f,g,(),i)=(a,b,c,d,e,f,g,(),i))):= by
  delta N O ap aq aH aM aK cB bi bq bZ am kR bo mX aA fp mQ J iW Cj dE xy av oq L3 iq Jo aF
  rintro now s0 s1 s2 s3 s4 s5 l s6 ⟨-,-,-,-,-,-,-,⟨hl,-⟩,-⟩ -
  simp only[cu5] at hl
  refine⟨⟨0,⟨Y,Y,aw⟩,aI⟩,?_⟩
  rintro n ⟨n0,n1,hn⟩
  (repeat (refine cG ?_;repeat refine cH ?_))
  refine uZ (λa h2=>?_) (λa=>?_)
  .have a:=aX a
   refine⟨n+1,⟨Y,Y,λx hx=>?_⟩,Y,aI⟩
   rw[nq n0 a] at hx
   grind
  .have e:=YH n0 n1 hn (a.imp bg bg)
   simp_all
theorem bV0:aB 162 an6.spec:=Cp.okH _ Tryz.func162 oO (Mz (Mz aC (d:=33)) (d:=39)) ik rfl rfl rfl rfl (λ_=>rfl) cp2 (Bi oO aS3)
abbrev bN0:OT := .pair cI (.pair (.hole 0) (.pair (.hole 1) (.pair (.hole 2) (.pair (.hole 3) (.pair (.hole 4) (.pair (.hole 5) (.pair (.hole 6) (.row 279 ji))))))))
abbrev aJ1:OT := .pair cI (.pair (.hole 0) (.pair (.hole 1) (.pair (.hole 2) (.pair (.hole 3) (.pair (.hole 4) (.pair (.hole 5) (.pair (.hole 6) (.rowg 279 ji))))))))
def ac1:Cp:=⟨56,bN0,aJ1,8,279,ji,λd=>d.2.2.2.2.2.2.2.2,λ_=>[],λd=>(d.1,d.2.1,d.2.2.1,d.2.2.2.1,d.2.2.2.2.1,d.2.2.2.2.2.1,d.2.2.2.2.2.2.1,d.2.2.2.2.2.2.2.1,()),λd=>V (cP d.1 d.2.2.2.2.2.2.2.2)⟩
def cq4:ac1.o.D->bL:=(λd=>{loops:=(bz 2 (λS=>{ι:=Int,μ:=λi=>M (V d.2.2.2.2.2.2.2.2-i),inv:=λi=>0<=i/\i<=V d.2.2.2.2.2.2.2.2∧∀ x∈d.2.2.2.2.2.2.2.2.take (M i),x.1<=d.1,keep:=[0,1],slots:=λi=>[(5,.int .i64 i)],keepN:=[1048576,2097152],names:=λi=>[(1572864,.dead),(1572865,.dead),(1572866,.dead),(1572867,.dead),(1572868,.dead),(1572869,.dead),(1572870,.dead)]}) cm)})
theorem bD9:
 ∀ a(b c d e f g h:Go.SX.SV)i,aq a/\xy (xy (True/\kR i))->True->(∃ j,Cj j i a/\0=j/\a=a/\mX b c d (e=e) (mX f g h (i=i) True))/\ ∀ j,Cj j i a->Jo j (O i) (j<O i) (cs7 ((N i j).1<=a)) (∃ k,Cj k i a/\bi (O i) k j/\aA j=k/\a=a/\mX b c d (e=e) (mX f g h (i=i) True)) (L3 j i a (M j) (mQ a i) (M (O i) -M j=V i -mQ a i) ((a,b,c,d,e,f,g,h,())=(a,b,c,d,e,f,g,h,()))):= by
  delta N O ap aq aH aM aK cB bi bq bZ am kR bo mX aA fp mQ J iW Cj dE xy av oq L3 iq Jo aF
  rintro now s0 s1 s2 s3 s4 s5 s6 l ⟨-,-,-,-,-,-,-,-,hl,-⟩ -
  simp only[cu5] at hl
  refine⟨⟨0,⟨Y,Y,aw⟩,aI⟩,?_⟩
  rintro n ⟨n0,n1,hn⟩
  (repeat (refine cG ?_;repeat refine cH ?_))
  refine uZ (λa h2=>?_) (λa=>?_)
  .have a:=aX a
   refine⟨n+1,⟨Y,Y,λx hx=>?_⟩,Y,aI⟩
   rw[nq n0 a] at hx
   grind
  .have e:=YH n0 n1 hn (a.imp bg bg)
   simp_all
theorem aH5:aB 162 ac1.spec:=Cp.okH _ Tryz.func162 oO (Mz (Mz aC (d:=33)) (d:=39)) ik rfl rfl rfl rfl (λ_=>rfl) cq4 (Bi oO bD9)
variable{c:cA}
theorem XI.runs(h:XI c):∀ n,XI (fZ n c)/\bW (fZ n c)=bW c+n/\ct (fZ n c)=ct c/\fh (fZ n c)=fh c/\V (gn c)<=V (gn (fZ n c))/\gJ c<=gJ (fZ n c)/\ke (fZ n c)<=ke c+585*n
 | 0=>⟨h,by show bW c=bW c+0;omega,rfl,rfl,dq _,fJ _,by show ke c<=_;omega⟩
 | n+1=>by
  obtain⟨a,b,d,e,f,g,o⟩:=h.runs n;rw[zP];have ⟨t1,t2,t3,t4⟩:=a.tick sQ sQ;exact⟨t1,by show bW (fZ n c)+1=_;omega,d,e,Y,Y,Y⟩
theorem M1(now)(b)(j)(o)(l):iB now b (mb [] j) (o,l)=if V l<4096 then (o+1,pG l (now+1+0+0,o,b)) else (o,l):=by
 have e:mb [] j=(ct2,0,0):=by unfold mb;simp
 rw[e]
 unfold iB
 rw[I aw]
 show mh now 0 b 1 0 (o,l)=_
 rw[mh]
 rfl
theorem R8{now}:∀{l:List bU},(∀ t∈l,t.1<=now)→∀ m,cP now (l++m)=l++cP now m/\iR now (l++m)=iR now m
 | [],_,m=>⟨rfl,rfl⟩
 | t::r,h,m=>by
  obtain⟨a,b⟩:=R8 (l:=r) (λx hx=>h x (eZ _ hx)) m;have ht:=h t dU;constructor
  .show List.takeWhile _ (t::(r++m))=_;rw[cF4 (by simpa using ht)];exact dL (t :: ·) a
  .show List.dropWhile _ (t::(r++m))=_;rw[List.dropWhile_cons_of_pos (by simpa using ht)];exact b
theorem I2(h:∀ t∈l,t.1<=now):cP now l=l/\iR now l=[]:=by
 have ⟨a,b⟩:=R8 h []
 rw[js] at a b
 exact⟨a.trans (js l),b⟩
variable{t:bU}
theorem bO4(h:∀ x∈l,x.1<=t.1):pG l t=l++[t]:=by
 have ⟨a,b⟩:=I2 h
 unfold pG
 show cP t.1 l++t::iR t.1 l=_
 rw[a,b]
def Jt(lim:Int)(c:cA):Prop:=(∀ t∈iI c,t.1<=lim∨t.1=bW c+1)∧∀ t∈ju c,t.1<=lim∨t.1=bW c+1
theorem MW{now log}:∀ todo j{o:Int}{l:List bU},∀ t∈(lD now log [] todo j (o,l)).2,t∈l∨t.1=now+1
 | [],j,o,l,t,ht => .inl ht
 | i::r,j,o,l,t,ht=>by
  rw[lD,M1] at ht;split at ht
  .obtain q|q:=MW r (j+1) t ht
   .obtain rfl|q:=Bb.1 q
    .exact .inr (by show now+1+0+0=_;omega)
    .exact .inl q
   .exact .inr q
  .exact MW r (j+1) t ht
variable{up:List fC}
theorem as7(h:XI c)(hu:p8 up):n8 (bW c) (fG c up).1 (fG c up).2:=by
 unfold fG
 split
 .exact h.up
 .exact (MG ⟨Y,Y⟩ (FQ hu 0) h.ord h.up).1
theorem ca0{lim}(h:XI c)(hn:Jt lim c):Jt lim (fR c [] []):=by
 constructor
 .intro t ht;have ht:=ht;obtain q|q:=MW _ _ t ht
  .have ⟨a,b⟩:=(Hr h.dn).1 q;obtain k|k:=hn.1 t a
   .exact .inl k
   .omega
  .exact .inr q
 .intro t ht;have ht:=ht;have ⟨a,b⟩:=(Hr (as7 h sQ)).1 ht;have k:t∈ju c∨t.1=bW c+1+1:=by
   unfold fG at a;split at a
   .exact .inl a
   .rw[M1] at a;split at a
    .obtain rfl|a:=Bb.1 a
     .exact .inr (by show bW c+1+1+0+0=_;omega)
     .exact .inl a
    .exact .inl a
  obtain k|k:=k
  .obtain q|q:=hn.2 t k
   .exact .inl q
   .omega
  .exact .inr k
theorem XC{lim c}(h:XI c)(hn:Jt lim c):∀ n,Jt lim (fZ n c)
 | 0=>hn
 | n+1=>by rw[zP];exact ca0 (h.runs n).1 (XC h hn n)
def IX(c:cA):Prop:=(∀ t∈iI c,t.1=bW c+1)∧∀ t∈ju c,t.1=bW c+1
variable{n:Nat}
theorem ak8(h:XI c)(hn:2000<=n):IX (fZ n c):=by
 have k:=XC (lim:=bW c+2000) h ⟨λt ht=>.inl (h.dn.r t ht).1.2,λt ht=>.inl (h.up.r t ht).1.2⟩ n
 obtain⟨a,b,-⟩:=h.runs n
 constructor
 .intro t ht;have:=(a.dn.r t ht).1.1;obtain q|q:=k.1 t ht
  .omega
  .exact q
 .intro t ht;have:=(a.up.r t ht).1.1;obtain q|q:=k.2 t ht
  .omega
  .exact q
theorem O4{now log}:∀ todo j{o:Int}{l:List bU},V l+V todo<=4096 →
  (∀ t∈l,t∈(lD now log [] todo j (o,l)).2)∧∀ i∈todo,∃ t∈(lD now log [] todo j (o,l)).2,t.2.2=mA i (T log (M i) cs5)
 | [],j,o,l,_=>⟨λt ht=>ht,λi hi=>(by cases hi)⟩
 | i::r,j,o,l,h=>by
  rw[fa] at h;rw[lD,M1,ao Y];obtain⟨a,b⟩:=O4 r (j+1) (o:=o+1) (l:=pG l (now+1+0+0,o,mA i (T log (M i) cs5))) (by rw[RA];omega);refine⟨λt ht=>a t (Bb.2 (.inr ht)),λx hx=>?_⟩;obtain rfl|hx:=dm.1 hx
  .exact⟨_,a _ (Bb.2 (.inl rfl)),rfl⟩
  .exact b x hx
def ya(c:cA):bU:=(bW c+1+1+0+0,ke c,my ((ga c).1.length:Int) ((ga c).2.map (·.1)))
theorem Ng(h:XI c)(f:IX c):tN c []=ju c/\iR (bW c+1) (fG c []).2=if iI c≠[]/\V (ju c)<4096 then [ya c] else []:=by
 have hu:∀ t∈ju c,t.1<=bW c+1:=λt ht=>by rw[f.2 t ht];exact fJ _
 have hd:=(I2 λt ht=>by rw[f.1 t ht];exact fJ _).1
 unfold tN fG
 rw[hd]
 split
 next k=>rw[I (λq=>q.1 k)];exact I2 hu
 next k=>
  rw[M1];split
  .rename_i q;rw[ao ⟨k,q⟩];have e:pG (ju c) (bW c+1+1+0+0,ke c,my ((ga c).1.length:Int) ((ga c).2.map (·.1)))=ju c++[ya c]:=bO4 λx hx=>by
    have:=hu x hx;show x.1<=bW c+1+1+0+0;omega
   show cP (bW c+1) (pG _ _)=_/\iR (bW c+1) (pG _ _)=_;rw[e];have ⟨a,b⟩:=R8 hu [ya c];have n1:¬ (ya c).1<=bW c+1:=by show ¬ bW c+1+1+0+0<=_;omega
   have a2:cP (bW c+1) [ya c]=[]:=cB3 (by simpa using n1);have b2:iR (bW c+1) [ya c]=[ya c]:=List.dropWhile_cons_of_neg (by simpa using n1);rw[a,b,a2,b2,js];exact⟨rfl,rfl⟩
  next q=>rw[I (λz=>q z.2)];exact I2 hu
theorem Rr:∀{l:List bU}{k:Int},k<=mY k l∧∀ t∈l,gF t.2.2 1<=mY k l
 | [],k=>⟨fJ _,λt ht=>(by cases ht)⟩
 | t::r,k=>by
  obtain⟨a,b⟩:=Rr (l:=r) (k:=max k (gF t.2.2 1));show k<=mY (max k (gF t.2.2 1)) r∧∀ x∈t::r,gF x.2.2 1<=mY (max k (gF t.2.2 1)) r;refine⟨Y,λx hx=>?_⟩;obtain rfl|hx:=dm.1 hx
  .omega
  .exact b x hx
variable{log:bg4}{s:List Z×List dO}
theorem U9(hl:V log<=1024)(h:wG log s t):∀ e∈qD (t.2.2.drop 3),tO s e/\gF t.2.2 1<e:=by
 obtain⟨g,es,e1,hg,-,h4⟩:=h
 intro e he
 by_cases h0:es=[]
 .rw[e1,VU,h0] at he;cases he
 rw[e1,VU,al7 λx hx=>by have:=(h4 x hx).1;exact⟨Y,Y⟩] at he
 have hx:=(h4 e he).1
 rw[e1,O2 ⟨Y,Y⟩]
 exact⟨(h4 e he).2,hx.1⟩
structure G1 (c:cA):Prop where
 x:XI c
 f:IX c
 cov:∀ i:Int,gJ c<=i->i<V (ct c)->i<gJ c+fh c->tO (gn c,oT c) i∨∃ t∈iI c,t.2.2=mA i (T (ct c) (M i) cs5)
 un:V (ju c)<=1
 ua:∀ t∈ju c,gF t.2.2 1=V (gn c)
theorem ac5(h:XI c)(up)(hk:gJ c<=fb c up):V (rZ c up)<=64:=by
 have h1:V (rZ c up)<=V (rX (fb c up) (min (V (ct c):Int) (fb c up+fh c))):=List.length_filter_le _ _
 have h2:V (rX (fb c up) (min (V (ct c):Int) (fb c up+fh c)))=M (min (V (ct c):Int) (fb c up+fh c)-fb c up):=by unfold rX;rw[nT,List.length_range]
 have:=h.win
 omega
theorem Ms(f:IX c):iR (bW c+1) (iI c)=[]/\cP (bW c+1) (iI c)=iI c:=by
 have ⟨a,b⟩:=I2 (now:=bW c+1) (l:=iI c) λt ht=>by rw[f.1 t ht];exact fJ _
 exact⟨b,a⟩
theorem Qr(h:XI c)(f:IX c):G1 (fR c [] []):=by
 obtain⟨k1,k2,k3,-⟩:=h.tick sQ sQ
 have ⟨u1,u2⟩:=Ng h f
 have ⟨f1,f2⟩:=Ms f
 have hlog:=h.log
 have hwin:=h.win
 have hkn:=h.kn
 have ⟨r1,r2,r3,r4⟩:=GD h.log (l:=cP (bW c+1) (iI c)) h.rc λt ht=>h.dd t (CR ht).1
 have hT:=ac5 h [] k3
 have eD:iI (fR c [] [])=(lD (bW c+1) (ct c) [] (rZ c []) 0 ((fG c []).1,[])).2:=by
  show (lD _ _ _ _ _ ((fG c []).1,iR (bW c+1) (iI c))).2=_;rw[f1]
 have eU:ju (fR c [] [])=if iI c≠[]/\V (ju c)<4096 then [ya c] else []:=u2
 obtain⟨-,sall⟩:=O4 (now:=bW c+1) (log:=ct c) (rZ c []) 0 (o:=(fG c []).1) (l:=[]) (by simp;omega)
 have hgl:=k1.rc.n
 have hgl:(ga c).1.length<=V (ct c):=hgl
 refine⟨k1,⟨λt ht=>?_,λt ht=>?_⟩,λi i0 i1 i2=>?_,?_,λt ht=>?_⟩
 .rw[eD] at ht;obtain q|q:=MW _ _ t ht
  .cases q
  .exact q
 .rw[eU] at ht;split at ht
  .rw[iV.1 ht];show bW c+1+1+0+0=bW c+1+1;omega
  .cases ht
 .by_cases hn:i∈om (tN c [])
  .left;unfold om at hn;have ⟨t,ht,hi⟩:=cG7.1 hn;rw[u1] at ht;exact r3 i (U9 hlog (h.ud t ht) i hi).1
  .right;rw[eD];refine sall i (cx9.2 ⟨mem_range.2 ⟨i0,?_⟩,?_⟩)
   .have i1:i<V (ct c):=i1;have i2:i<fb c []+fh c:=i2;omega
   .simpa using hn
 .rw[eU];split <;> simp
 .rw[eU] at ht;split at ht
  .rw[iV.1 ht];show gF (my ((ga c).1.length:Int) ((ga c).2.map (·.1))) 1=((ga c).1.length:Int)
   exact O2 ⟨Y,Y⟩ _
  .cases ht
theorem G1.busy(h:G1 c)(hk:gJ (fR c [] [])<V (ct c)):iI (fR c [] [])≠[]:=by
 obtain⟨k1,k2,k3,-⟩:=h.x.tick sQ sQ
 obtain⟨u1,-⟩:=Ng h.x h.f
 have ⟨f1,f2⟩:=Ms h.f
 have hT:=ac5 h.x [] k3
 have hwin:=h.x.win
 have hg:=Rr (l:=ju c) (k:=gJ c)
 have eK:fb c []=mY (gJ c) (ju c):=by unfold fb;rw[u1]
 have hk:fb c []<V (ct c):=hk
 obtain⟨-,sall⟩:=O4 (now:=bW c+1) (log:=ct c) (rZ c []) 0 (o:=(fG c []).1) (l:=[]) (by simp;omega)
 have hm:fb c []∈rZ c []:=by
  refine cx9.2 ⟨mem_range.2 ⟨fJ _,Y⟩,?_⟩;have hn:fb c [] ∉ om (tN c []):=by
   intro hn;unfold om at hn;have ⟨t,ht,hi⟩:=cG7.1 hn;rw[u1] at ht;have h1:=(U9 h.x.log (h.x.ud t ht) _ hi).2;have e1:ju c=[t]:=by
    have:=h.un
    match hU:ju c,ht with
    | [a],ht=>rw[iV.1 ht]
    | a::b::r,_=>rw[hU] at this;simp at this
   have e2:fb c []=max (gJ c) (gF t.2.2 1):=by rw[eK,e1];rfl
   have e3:=h.ua t ht;have e4:=h.x.kn;omega
  simpa using hn
 obtain⟨t,ht,-⟩:=sall _ hm
 have eD:iI (fR c [] [])=(lD (bW c+1) (ct c) [] (rZ c []) 0 ((fG c []).1,[])).2:=by
  show (lD _ _ _ _ _ ((fG c []).1,iR (bW c+1) (iI c))).2=_;rw[f1]
 rw[eD]
 intro e
 rw[e] at ht
 cases ht
theorem G1.got(h:G1 c):min (V (ct c):Int) (gJ c+fh c)<=V (gn (fR c [] [])):=by
 obtain⟨k1,k2,k3,-⟩:=h.x.tick sQ sQ
 have ⟨f1,f2⟩:=Ms h.f
 have ⟨r1,r2,r3,r4⟩:=GD h.x.log (l:=cP (bW c+1) (iI c)) h.x.rc λt ht=>h.x.dd t (CR ht).1
 rw[f2] at r1 r2 r3 r4
 have eG:ga c=oH (gJ c+fh c) (iI c) (gn c,oT c):=by unfold ga;rw[f2]
 rw[← eG] at r1 r2 r3 r4
 have hlog:=h.x.log
 have hkn:=h.x.kn
 show _<=((ga c).1.length:Int)
 have r2:V (gn c)<=(ga c).1.length:=r2
 by_cases hh:min (V (ct c):Int) (gJ c+fh c)<=((ga c).1.length:Int)
 .exact hh
 exfalso
 have cov:tO (ga c) ((ga c).1.length:Int):=by
  rcases h.cov ((ga c).1.length:Int) Y Y Y with q|⟨t,ht,q⟩
  .exact r3 _ q
  .have em:gF t.2.2 1=((ga c).1.length:Int):=by rw[q];exact Zt ⟨Y,Y⟩ _
   have:=r4 t ht Y;rw[em] at this;exact this
 obtain q|⟨x,hx,q⟩:=cov
 .omega
 .have:=(r1.e.r x hx).1.1;omega
theorem G1.two{b}(hb:G1 b):min (V (ct b):Int) (gJ (fR b [] [])+fh b)<=gJ (fR (fR (fR b [] []) [] []) [] []):=by
 have hc:=Qr hb.x hb.f
 have hc2:=Qr hc.x hc.f
 obtain⟨-,-,m1,-⟩:=hc.x.tick sQ sQ
 obtain⟨-,-,m2,-⟩:=hc2.x.tick sQ sQ
 by_cases hk:gJ (fR b [] [])<V (ct b)
 .have hd:=hb.busy hk;have hg:=hc.got;have eL:ct (fR b [] [])=ct b:=rfl;have eW:fh (fR b [] [])=fh b:=rfl;rw[← eL,← eW];clear eL eW;generalize fR b [] []=c at *;have hl:V (ju c)<4096:=by have:=hc.un;omega
  obtain⟨-,u2⟩:=Ng hc.x hc.f;rw[ao ⟨hd,hl⟩] at u2;have eU:ju (fR c [] [])=[ya c]:=u2;obtain⟨v1,-⟩:=Ng hc2.x hc2.f;have eK:gJ (fR (fR c [] []) [] [])=mY (gJ (fR c [] [])) (ju (fR c [] [])):=by
   show mY (gJ (fR c [] [])) (tN (fR c [] []) [])=_;rw[v1]
  have h1:=(Rr (l:=ju (fR c [] [])) (k:=gJ (fR c [] []))).2 (ya c) (by rw[eU];exact iV.2 rfl);have h2:=hc2.ua (ya c) (by rw[eU];exact iV.2 rfl);rw[← eK] at h1;omega
 .omega
theorem bl5(h:XI c)(k):G1 (fZ (2001+k) c):=by
 have f:=ak8 h (n:=2000+k) Y
 have e:fZ (2001+k) c=fR (fZ (2000+k) c) [] []:=by rw[show 2001+k=(2000+k)+1 by omega,zP]
 rw[e]
 exact Qr (h.runs _).1 f
theorem YG{c}(h:XI c):∀ m:Nat,min (V (ct c):Int) ((m:Int)*fh c)<=gJ (fZ (2002+2*m) c)
 | 0=>by
  have:=(h.runs 2002).1.kn.1;show min _ (0*fh c)<=gJ (fZ 2002 c);rw[Int.zero_mul];omega
 | m+1=>by
  have ih:=YG h m;have t:=(bl5 h (2*m)).two;obtain⟨-,-,eL,eW,-⟩:=h.runs (2001+2*m);rw[eL,eW,← zP,← zP,← zP] at t;rw[show 2001+2*m+1=2002+2*m by omega,show 2002+2*m+1+1=2002+2*(m+1) by omega] at t;have e:((m+1:Nat):Int)*fh c=(m:Int)*fh c+fh c:=by rw[Int.natCast_succ,Int.add_mul,Int.one_mul]
  rw[e];generalize (m:Int)*fh c=z at *;have:=h.win;omega
theorem aa9(h:XI c){m:Nat}(hm:(V (ct c):Int)<=(m:Int)*fh c)(hn:2002+2*m<=n) :
  ED (fZ n c)=cs8/\iI (fZ n c)=[]/\gn (fZ n c)=ct (fZ n c):=by
 have g:=YG h m
 obtain⟨a,-,eL,eW,-⟩:=h.runs (2002+2*m)
 obtain⟨b,-,eL2,eW2,-,b6,-⟩:=a.runs (n-(2002+2*m))
 rw[Vc,show 2002+2*m+(n-(2002+2*m))=n by omega] at b eL2 eW2 b6
 have b1:=b.kn
 have b2:V (gn (fZ n c))<=V (ct (fZ n c)):=b.rc.n
 have eLn:V (ct (fZ n c))=V (ct c):=by rw[eL2,eL]
 have hK:gJ (fZ n c)=V (ct (fZ n c)):=Y
 have hG:V (gn (fZ n c))=V (ct (fZ n c)):=Y
 refine⟨?_,?_,?_⟩
 .unfold ED;rw[f7 hG,f7 hK];rfl
 .have en:fZ n c=fR (fZ (n-1) c) [] []:=by rw[← zP,show n-1+1=n by omega]
  have f:=ak8 h (n:=n-1) Y;rw[en] at hK ⊢;have f1:=(Ms f).1;generalize fZ (n-1) c=v at *;have hK:fb v []=V (ct v):=hK;have eT:rZ v []=[]:=by
   unfold rZ;rw[hK,List.filter_eq_nil_iff.2];intro i hi;have:=mem_range.1 hi;omega
  show (lD (bW v+1) (ct v) [] (rZ v []) 0 ((fG v []).1,iR (bW v+1) (iI v))).2=[]
  rw[eT,f1];rfl
 .have g:=b.rc.g;have g:gn (fZ n c)=(ct (fZ n c)).take (V (gn (fZ n c))):=g;rw[g,hG,cz4]
def yN(w:Int):Int:=if w<1∨64<w then 1 else 0
def Nl:cA:=(0,0,0,[],0,[],[],[],[])
def Gu(w:Int):cA:=if yN w=0 then G7 w else Nl
def BK(n w:Int):Int:=if n<0∨1024<n∨w<1∨64<w then 0 else 4*(n/w+2)+2000
def yh(c:cA)(it:Z):Int:=if 1024<=V (ct c)∨(6000:Int)<V it then 5 else 0
def Ai(c:cA)(it:Z):cA:=if yh c it=0 then Ce c it else Nl
def ra(f:fC):Bool:=cs7 (0<=f.2.1/\f.2.1<=1000/\0<=f.2.2/\f.2.2<=8)
def qc(l:List fC):Bool:=l.all ra
theorem JE{l}:qc l=cs8↔p8 l:=by
 unfold qc p8
 rw[cz6]
 constructor
 .intro h f hf;have:=h f hf;unfold ra at this;have:=aX this;exact⟨⟨this.1,this.2.1⟩,this.2.2⟩
 .intro h f hf;have:=h f hf;exact f7 ⟨this.1.1,this.1.2,this.2⟩
def sF(c:cA)(ds us:List fC):Int:=if (qc ds&&qc us)=ct2 then 1 else if 1099511627776<=bW c then 5 else 0
def zN(c:cA)(ds us:List fC):cA:=if sF c ds us=0 then fR c ds us else Nl
def tV(c:cA)(n:Int):Int:=if n<0∨100000<n then 1 else if 0<n/\1099511627776<bW c+n then 5 else 0
def AT(c:cA)(n:Int):cA:=if tV c n=0 then fZ (M n) c else Nl
def XR(c:cA):Prop:=XI c/\ke c<=585*bW c
theorem XR.tick(h:XR c){ds us}(hd:p8 ds)(hu:p8 us):XR (fR c ds us):=by
 have ⟨h1,h2⟩:=h
 obtain⟨k1,-,-,k2⟩:=h1.tick hd hu
 refine⟨k1,?_⟩
 show _<=585*(bW c+1)
 omega
theorem XR.push(h:XR c){it}(hl:V (ct c)<1024)(hi:(V it:Int)<=6000):XR (Ce c it):=⟨h.1.push hl hi,h.2⟩
theorem XR.new{w}(h0:1<=w)(h1:w<=64):XR (G7 w):=⟨XI.new h0 h1,by show (0:Int)<=585*0;omega⟩
theorem XR.runs(h:XR c)(n):XR (fZ n c):=by
 obtain⟨k1,k2,-,-,-,-,k3⟩:=h.1.runs n
 have h2:=h.2
 exact⟨k1,Y⟩
abbrev bL6:OT := .pair cI (.pair cI (.pair cI (.pair (.hole 0) (.pair cI (.pair (.row 22 (.sl bc)) (.pair (.row 196 tz) (.pair (.row 279 ji) (.row 279 ji))))))))
def j7(now lim:Int)(dn:List bU)(g:bg4)(e:List dO):List Z×List dO:=oH lim (cP now dn) (g,e)
def pv(now ord:Int)(G:List Z×List dO)(dn up:List bU)(fs:List fC):Int×List bU:=if cP now dn=[] then (ord,up) else iB now (my (V G.1:Int) (G.2.map (·.1))) (mb fs 0) (ord,up)
structure JZ (now ord win kn:Int) (g:bg4) (e:List dO) (dn up:List bU) (fs:List fC) (log:bg4):Prop where
 rc:Bw log (kn+win) (g,e)
 ln:V log<=1024
 it:∀ b∈log,(V b:Int)<=6000
 dd:∀ t∈dn,D4 log t
 kn:0<=kn/\kn<=1024
 wn:1<=win/\win<=64
 so:nH now ord up
 oo:ord<=900000000000000
 ff:Cg (mb fs 0)
 dl:V dn<=4096
theorem aq6(now)(l):V (cP now l)<=V l/\l.drop (V (cP now l))=iR now l/\(∀ k,k<V (cP now l)->T l k cs5=T (cP now l) k cs5)∧∀ t∈cP now l,t∈l:=by
 have e:cP now l++iR now l=l:=oR
 grind
theorem UP:∀{l:List dO}{lo hi:Int},l.Pairwise (λa b=>a.1<b.1)->(∀ x∈l,lo<=x.1/\x.1<hi)->(V l:Int)<=max 0 (hi-lo)
 | [],lo,hi,_,_=>by simp;omega
 | x::r,lo,hi,hs,c=>by
  obtain⟨s1,s2⟩:=cu1.1 hs;have hx:=c x dU;have:=UP (lo:=x.1+1) s2 λy d=>⟨by have:=s1 y d;omega,(c y (eZ _ d)).2⟩
  rw[fa];omega
theorem Ui{d c}(h:Bw log (d+c) (g,e))(hl:V log<=1024)(hk:0<=d/\d<=1024)(hw:1<=c/\c<=64):M3 d c g e/\V g<=1024/\V e<=1024∧∀ x∈e,0<=x.1/\x.1<1024:=by
 have h1:V g<=V log:=h.n
 have f:e.Pairwise λa b=>a.1<b.1:=h.e.s
 have i:∀ x∈e,0<=x.1/\x.1<1024:=λx hx=>by
  obtain⟨⟨k1,k2⟩,-⟩:=h.e.r x hx;omega
 have h3:=UP f i
 exact⟨⟨Y,Y,Y,Y,f⟩,Y,Y,i⟩
theorem Uz(h:D4 log t)(hi:∀ b∈log,(V b:Int)<=6000):3<=V t.2.2/\(V t.2.2:Int)<=6003:=by
 have ⟨i,a,h2⟩:=h
 have h3:=hi _ (cW a.1 a.2)
 rw[h2,Qp];omega
theorem bg5(lim)(l)(t)(s):oH lim (l++[t]) s=ng lim (oH lim l s) (gF t.2.2 1) (t.2.2.drop 3):=by
 unfold oH;rw[lr];rfl
theorem ag8:∀ b i,t5 (b++[i])=t5 b++fu i 2 2
 | [],i=>by simp[t5]
 | a::r,i=>by rw[kQ,t5,t5,ag8 r i,gI]
theorem bL1(g)(a)(i):my g a++fu i 2 2=my g (a++[i]):=by
 unfold my;rw[ag8,kQ,gI]
def Z3:Ct:=⟨[.box 56 bL6,.val (.sl tA)],[],λd=>[∃ log,JZ d.1.1 d.1.2.1 d.1.2.2.1 d.1.2.2.2.2.1 d.1.2.2.2.2.2.1 d.1.2.2.2.2.2.2.1 d.1.2.2.2.2.2.2.2.1 d.1.2.2.2.2.2.2.2.2 d.2.1 log],λd=>((),((d.1.1,(pv d.1.1 d.1.2.1 (j7 d.1.1 (d.1.2.2.2.2.1+d.1.2.2.1) d.1.2.2.2.2.2.2.2.1 d.1.2.2.2.2.2.1 d.1.2.2.2.2.2.2.1) d.1.2.2.2.2.2.2.2.1 d.1.2.2.2.2.2.2.2.2 d.2.1).1,d.1.2.2.1,d.1.2.2.2.1,d.1.2.2.2.2.1,(j7 d.1.1 (d.1.2.2.2.2.1+d.1.2.2.1) d.1.2.2.2.2.2.2.2.1 d.1.2.2.2.2.2.1 d.1.2.2.2.2.2.2.1).1,(j7 d.1.1 (d.1.2.2.2.2.1+d.1.2.2.1) d.1.2.2.2.2.2.2.2.1 d.1.2.2.2.2.2.1 d.1.2.2.2.2.2.2.1).2,iR d.1.1 d.1.2.2.2.2.2.2.2.1,(pv d.1.1 d.1.2.1 (j7 d.1.1 (d.1.2.2.2.2.1+d.1.2.2.1) d.1.2.2.2.2.2.2.2.1 d.1.2.2.2.2.2.1 d.1.2.2.2.2.2.2.1) d.1.2.2.2.2.2.2.2.1 d.1.2.2.2.2.2.2.2.2 d.2.1).2),()))⟩
def as0:bG Z3.ps->bL:=(λd=>{loops:=(bz 2 (λS=>{ι:=Int×bg4×(List dO),qn:=ot,μ:=λi=>M (V (cP d.1.1 d.1.2.2.2.2.2.2.2.1)-i.1),inv:=λi=>0<=i.1/\i.1<=V (cP d.1.1 d.1.2.2.2.2.2.2.2.1)/\(i.2.1,i.2.2)=oH (d.1.2.2.2.2.1+d.1.2.2.1) ((cP d.1.1 d.1.2.2.2.2.2.2.2.1).take (M i.1)) (d.1.2.2.2.2.2.1,d.1.2.2.2.2.2.2.1),keep:=[0,1,4,15,16],slots:=λi=>[(17,.int .i64 i.1)],keepN:=[240,2097155],names:=λi=>[(1048576,.live (.cells 56 [.int .i64 d.1.1,.int .i64 d.1.2.1,.int .i64 d.1.2.2.1,.hv 1572864 d.1.2.2.2.1,.int .i64 d.1.2.2.2.2.1,.own 524288 1,.own 524289 2,.part 240 3 (V (cP d.1.1 d.1.2.2.2.2.2.2.2.1)) (V d.1.2.2.2.2.2.2.2.1-V (cP d.1.1 d.1.2.2.2.2.2.2.2.1)),.own 2097155 3])),(524288,.live (.row 22 (.sl bc) i.2.1)),(524289,.live (.row 196 tz i.2.2)),(1572864,.dead)]}) (bz 9 (λS=>{ι:=Int×Z,qn:=fE,μ:=λi=>M ((j7 d.1.1 (d.1.2.2.2.2.1+d.1.2.2.1) d.1.2.2.2.2.2.2.2.1 d.1.2.2.2.2.2.1 d.1.2.2.2.2.2.2.1).2.length-i.1),inv:=λi=>0<=i.1/\i.1<=(j7 d.1.1 (d.1.2.2.2.2.1+d.1.2.2.1) d.1.2.2.2.2.2.2.2.1 d.1.2.2.2.2.2.1 d.1.2.2.2.2.2.2.1).2.length/\i.2=my ((j7 d.1.1 (d.1.2.2.2.2.1+d.1.2.2.1) d.1.2.2.2.2.2.2.2.1 d.1.2.2.2.2.2.1 d.1.2.2.2.2.2.2.1).1.length:Int) (((j7 d.1.1 (d.1.2.2.2.2.1+d.1.2.2.1) d.1.2.2.2.2.2.2.2.1 d.1.2.2.2.2.2.1 d.1.2.2.2.2.2.2.1).2.map (·.1)).take (M i.1)),keep:=[0,1,45,46],slots:=λi=>[(47,.int .i64 i.1),(7,.own 524290 1)],keepN:=[1048576,524288,524289,544,2097155],names:=λi=>[(524290,.live (.row 5 bc i.2)),(1572864,.dead)]}) cm))})
def kS(a:List cO)(b:Int):=(rk a (0+M b)).2.2
def sk(a:Int)(b:List cO):=mQ a b=mQ a b
def D2(a:List cO)(b:Int):=V a -mQ b a=V a -mQ b a
def K3(a b c:Int)(d:List cO)(e:bg4)(f:cr6)(g:Int):=my (O (j7 a (b+c) d e f).1) (take (M g) (List.map (λ(h:dO)=>h.1) (j7 a (b+c) d e f).2))
theorem bX9:
 ∀ a b c(d:Go.SX.SV)e f g h i j,bJ a b (aq c) (True/\aq e/\uk f/\yG g/\kR h/\kR i)/\J (rg j)->(∃ k,JZ a b c e f g h i j k)->(∃ k l m,am k (k<=O (cP a h)) ((l,m)=oH (e+c) (take (M k) (cP a h)) (f,g))/\j=j/\(0:Nat)=(0:Nat)/\sk a h/\(0:Nat)=(0:Nat)/\sk a h/\O (cP a h)=O (cP a h)/\0=k/\h=h/\i=i/\bh a b c (d=d) (e=e/\sk a h/\D2 h a/\f=l/\J (g=m)))/\ ∀ k l m,am k (k<=O (cP a h)) ((l,m)=oH (e+c) (take (M k) (cP a h)) (f,g))->eh k (O (cP a h)) (k<O (cP a h)) (aH (O (kS h k))/\bo 3 (O (kS h k)) (pR (kS h k)) (aR (fN (kS h k) 3 (O (kS h k)))/\M3 e c l m/\ ∃ n o p,am n (n<=O
 (cP a h)) ((o,p)=oH (e+c) (take (M n) (cP a h)) (f,g))/\bi (O (cP a h)) n k/\j=j/\(0:Nat)=(0:Nat)/\sk a h/\(0:Nat)=(0:Nat)/\sk a h/\O (cP a h)=O (cP a h)/\aA k=n/\h=h/\i=i/\bh a b c (d=d) (e=e/\sk a h/\D2 h a/\(ng (e+c) (l,m) (gF (kS h k) 1) (fN (kS h k) 3 (O (kS h k)))).1=o/\J ((ng (e+c) (l,m) (gF (kS h k) 1) (fN (kS h k) 3 (O (kS h k)))).2=p)))) (mQ a h+(V h -mQ a h)=V h) (au (aY (O (cP a h))) ((a,b,c,d,e,l,m,drop (mQ a h) h,i)=(a,(pv a b (j7 a (e+c) h f g) h i j).1,c,d,e,(j7 a (e+c) h f g).1,(j7 a (e+c) h f g).2,iR a h,(pv a b (j7 a (e+c) h f g) h i j).2)) (am (O l) (gb (bI 65) (fu (O l) 2 2)) ((∃ n o,f9 n (O (j7 a (e+c) h f g).2) o (K3 a e c h f g n)/\j=j/\O m=O m/\0=n/\bh a b c (d=d) (e=e/\l=l/\m=m/\drop (mQ a h)
 h=drop (mQ a h) h/\i=i/\J (bI 65++fu (O l) 2 2=o)))/\ ∀ n o,f9 n (O (j7 a (e+c) h f g).2) o (K3 a e c h f g n)->eh n (O m) (n<O m) (am (N m n).1 (gb o (fu (N m n).1 2 2)) (∃ p q,f9 p (O (j7 a (e+c) h f g).2) q (K3 a e c h f g p)/\bi (O (j7 a (e+c) h f g).2) p n/\j=j/\O m=O m/\aA n=p/\bh a b c (d=d) (e=e/\l=l/\m=m/\drop (mQ a h) h=drop (mQ a h) h/\i=i/\J (o++fu (N m n).1 2 2=q)))) (nH a b i) (b<=900000000000000/\Cg (jS j 0)/\am 0 (bV o) ((a,(iB a o (jS j 0) (b,i)).1,c,d,e,l,m,drop (mQ a h) h,(iB a o (jS j 0) (b,i)).2)=(a,(pv a b (j7 a (e+c) h f g) h i j).1,c,d,e,(j7 a (e+c) h f g).1,(j7 a (e+c) h f g).2,iR a h,(pv a b (j7 a (e+c) h f g) h i j).2)))))):= by
  delta N rk O ap aq aH aM bh bp aR bi bZ am gb bR kR bJ aY bV bo kS rg eh fN aA sk mQ J bI uk yG D2 av K3 jS f9 iq aF pR
  rintro now k win s f a c d r fs-⟨log,h⟩
  have ⟨q1,q2,q3,q4⟩:=aq6 now d
  have o:=h.ln
  have hdl:=h.dl
  have eG:j7 now (f+win) d a c=oH (f+win) (cP now d) (a,c):=rfl
  have eU:pv now k (j7 now (f+win) d a c) d r fs=if cP now d=[] then (k,r) else iB now (my ((j7 now (f+win) d a c).1.length:Int) ((j7 now (f+win) d a c).2.map (·.1))) (mb fs 0) (k,r):=rfl
  rw[eU,← q2,eG]
  have A:∀ t∈cP now d,D4 log t:=λt p=>h.dd t (q4 t p)
  generalize cP now d=L at *
  have u:∀ n,∀(g:bg4)(e:List dO),(g,e)=oH (f+win) (L.take n) (a,c)->M3 f win g e/\V g<=1024/\V e<=1024∧∀ x∈e,0<=x.1/\x.1<1024:=λn g e m=>by
   obtain⟨B,-⟩:=GD o h.rc λt p=>A t (te p)
   rw[← m] at B
   exact Ui B o h.kn h.wn
  refine⟨⟨0,a,c,⟨Y,Y,rfl⟩,aI⟩,?_⟩
  rintro j g e ⟨v,j1,m⟩
  have ⟨t1,t2,t3,t4⟩:=u _ _ _ m
  refine bT (λw=>?_) (λw=>?_)
  .have ed:T d (0+M j) cs5=T L (M j) default:=by rw[gD];exact q3 _ Y
   have q:=cW v w
   rw[ed]
   have ⟨d1,d2⟩:=Uz (A _ q) h.it
   have p:=nq v w
   generalize T L (M j) cs5=D at *
   have es:cZ D.2.2 (M 3) (M (V D.2.2:Int))=D.2.2.drop 3:=by
    unfold cZ;rw[cv6,cz4];rfl
   rw[es]
   refine⟨v,Y,Y,Y,Y,Y,by rw[gR];omega,t1,j+1,(ng (f+win) (g,e) (gF D.2.2 1) (D.2.2.drop 3)).1,(ng (f+win) (g,e) (gF D.2.2 1) (D.2.2.drop 3)).2,⟨Y,Y,?_⟩,Y,aI⟩
   rw[p,bg5,← m]
  .have ej:M j=V L:=Y
   rw[ej,cz4] at m
   rw[← m]
   refine⟨Y,bT (λS=>?_) (λS=>?_)⟩
   .simp_all
   .rw[I (λhL=>S (by rw[hL];rfl))]
    refine⟨Y,by rw[Ay];simp only[fq];omega,⟨0,my (V g:Int) [],⟨Y,Y,aw⟩,?_⟩,?_⟩
    ·(repeat refine g9 ?_)
     exact⟨by simp[my,t5],aQ⟩
    .rintro i b ⟨y,i1,z⟩
     have z:b=my (V g:Int) ((e.map (·.1)).take (M i)):=z
     subst z
     have hbl:V (my (V g:Int) ((e.map (·.1)).take (M i)))<=3+2*1024:=by
      rw[Qz,fF,nT];omega
     refine bT (λhi=>?_) (λhi=>?_)
     .have hx:=t4 _ (cW y hi)
      have hn:=nq (l:=e.map (·.1)) y (by rw[nT];exact hi)
      have em:T (e.map (·.1)) (M i) cs5=(T e (M i) cs5).1:=by
       simp_all
      refine⟨y,hi,hx.1,by rw[Ay];omega,i+1,my (V g:Int) ((e.map (·.1)).take (M (i+1))),⟨Y,by show i+1<=(V e:Int);omega,rfl⟩,by show M ((V e:Int)-(i+1))<M ((V e:Int)-i);omega,?_⟩
      (repeat refine g9 ?_)
      exact⟨by rw[bL1,hn,em],aQ⟩
     .refine⟨h.so,h.oo,h.ff,Y,Y,?_⟩
      have ei:(e.map (·.1)).take (M i)=e.map (·.1):=gE (by rw[nT];omega)
      rw[ei]
      rfl
theorem bg6:aB 89 Z3.spec:=aG Tryz.func89 (am5 (C (C (C (C (C (C aC bV0) ao5) po) aw6) Ys) al6) (d:=33) (p:=1048576) (off:=7)) as0 bX9
abbrev a80:OT := .pair cI (.pair (.hole 0) (.pair (.hole 1) (.pair (.hole 2) (.pair cI (.pair (.hole 3) (.pair (.hole 4) (.pair (.hole 5) (.row 279 ji))))))))
theorem SY:∀ n,∀ l,V l<=n->V (qD l)=V l/2
 | 0,[],_=>rfl
 | n+1,[],_=>rfl
 | n+1,[a],_=>by simp[qD]
 | n+1,a::b::r,h=>by
  rw[qD,fa,SY n r (by simp at h;omega)];grind
theorem ap1:∀ q{l:Z},2*q+2<=V l->qD (l.take (2*q+2))=qD (l.take (2*q))++[T l (2*q) 0*256+T l (2*q+1) 0]
 | 0,a::b::r,h=>rfl
 | q+1,a::b::r,h=>by
  have e:=ap1 q (by simp at h;omega);rw[show 2*(q+1)+2=(2*q+2)+1+1 by omega,show 2*(q+1)=2*q+1+1 by omega];simp only[List.take_succ_cons,qD,kQ,cB8];rw[e]
theorem aw2{b}(h:n+2<=V b):gF b n=T (b.drop n) 0 0*256+T (b.drop n) 1 0:=by
 rw[Tf h]
 match a:b.drop n with
 | x::y::r=>exact ao7 x y
 | []=>have:=dL V a;simp at this;omega
 | [x]=>have:=dL V a;simp at this;omega
theorem bm6(l)(t):om (l++[t])=om l++qD (t.2.2.drop 3):=by
 unfold om;simp
theorem bs7(k)(l)(t):mY k (l++[t])=max (mY k l) (gF t.2.2 1):=by
 unfold mY;rw[lr];rfl
theorem am2:∀{l:List bU},(∀ t∈l,∃ m,V t.2.2=3+2*m/\m<=2000)->V (om l)<=2000*V l
 | [],_=>dq _
 | t::r,h=>by
  obtain⟨m,h1,h2⟩:=h t dU;have h3:=am2 λx hx=>h x (eZ _ hx);show V (qD (t.2.2.drop 3)++om r)<=_;rw[cw,SY _ _ (dq _),gR,fa];omega
def Xa:Ct:=⟨[.box 56 a80],[.own 3 cI],λd=>[V d.1.2.2.2.2.2.2.2.2<=4096,∀ t∈d.1.2.2.2.2.2.2.2.2,∃ m:Nat,V t.2.2=3+2*m/\m<=2000],λd=>((om (cP d.1.1 d.1.2.2.2.2.2.2.2.2),()),((d.1.1,d.1.2.1,d.1.2.2.1,d.1.2.2.2.1,mY d.1.2.2.2.2.1 (cP d.1.1 d.1.2.2.2.2.2.2.2.2),d.1.2.2.2.2.2.1,d.1.2.2.2.2.2.2.1,d.1.2.2.2.2.2.2.2.1,iR d.1.1 d.1.2.2.2.2.2.2.2.2),()))⟩
def cj1:bG Xa.ps->bL:=(λd=>{loops:=(bz 3 (λS=>{ι:=Int×Int×Z,qn:=ot,μ:=λi=>M (V (cP d.1.1 d.1.2.2.2.2.2.2.2.2)-i.1),inv:=λi=>0<=i.1/\i.1<=V (cP d.1.1 d.1.2.2.2.2.2.2.2.2)/\i.2.1=mY d.1.2.2.2.2.1 ((cP d.1.1 d.1.2.2.2.2.2.2.2.2).take (M i.1))/\i.2.2=om ((cP d.1.1 d.1.2.2.2.2.2.2.2.2).take (M i.1)),keep:=[0,11,12],slots:=λi=>[(13,.int .i64 i.1),(3,.own 524288 1)],keepN:=[192],names:=λi=>[(1048576,.live (.cells 56 [.int .i64 d.1.1,.hv 1572864 d.1.2.1,.hv 1572865 d.1.2.2.1,.hv 1572866 d.1.2.2.2.1,.int .i64 i.2.1,.hv 1572867 d.1.2.2.2.2.2.1,.hv 1572868 d.1.2.2.2.2.2.2.1,.hv 1572869 d.1.2.2.2.2.2.2.2.1,.part 192 3 (V (cP d.1.1 d.1.2.2.2.2.2.2.2.2)) (V d.1.2.2.2.2.2.2.2.2-V (cP d.1.1 d.1.2.2.2.2.2.2.2.2))])),(524288,.live (.row 3 cI i.2.2)),(1572864,.dead),(1572865,.dead),(1572866,.dead),(1572867,.dead),(1572868,.dead),(1572869,.dead)]}) (bz 7 (λS=>{ι:=Int×Z,qn:=fE,μ:=λi=>M ((S.c ji 96).2.2.length-i.1),inv:=λi=>3<=i.1/\i.1<=(S.c ji 96).2.2.length/\(i.1-3)%2=0/\i.2=S.o cI 3++qD (((S.c ji 96).2.2.drop 3).take (M (i.1-3))),keep:=[0,5,11,12,13],slots:=λi=>[(6,.int .i64 i.1),(3,.own 524289 1)],keepN:=[1048576,96,192],names:=λi=>[(524289,.live (.row 3 cI i.2)),(1572864,.dead),(1572865,.dead),(1572866,.dead),(1572867,.dead),(1572868,.dead),(1572869,.dead)]}) cm))})
def Nu(a:Int)(b:List cO)(c:Int)(d e:Z):=3<=a/\a<=O (kS b c)/\(a -3)%2=0/\d=e++qD (take (M (a -3)) (drop 3 (kS b c)))
def J8(a b:Int)(c:List cO)(d e:Int)(f:Z):=bo a (O (cP b c)) (d=mY e (take (M a) (cP b c))) (f=om (take (M a) (cP b c)))
def Qx(a:List cO)(b:Int)(c:Nat)(d:Int)(e f:Z):=D2 a b/\bp (rk a (0+c)).1 (rk a (0+c)).2.1 (kS a d=kS a d) (a=a/\J (e=f))
theorem bt8:
 ∀ a b c d e f g h i,J (aq a/\xy (aq e/\xy (kR i)))->(V i<=4096/\ ∀ j,j∈i-> ∃ k,V j.2.2=3+2*k/\k<=2000)->(∃ j k l,J8 j a i k e l/\(0:Nat)=(0:Nat)/\sk a i/\O (cP a i)=O (cP a i)/\0=j/\i=i/\a=a/\mX b c d (e=k) (mX f g h (sk a i) (D2 i a/\J (l=[]))))/\ ∀ j k l,J8 j a i k e l->eh j (O (cP a i)) (j<O (cP a i)) (aH (O (kS i j))/\(∃ m n,Nu m i j n l/\3=m/\(0:Nat)=(0:Nat)/\sk a i/\bh (O (cP a i)) j a (b=b) (c=c/\d=d/\max k (gF (kS i j) 1)=max k (gF (kS i j) 1)/\mX f g h (sk a i) (Qx i a (M j) j l n)))/\ ∀ m n,Nu m i j n l->au (av m (O (kS i j))) (aH (O (kS i j))/\vJ n (bI (gF (kS i j) m))/\ ∃ o p,Nu o i j p l/\bi (O (kS i j)) o
 m/\ap (m+2)=o/\(0:Nat)=(0:Nat)/\sk a i/\bh (O (cP a i)) j a (b=b) (c=c/\d=d/\max k (gF (kS i j) 1)=max k (gF (kS i j) 1)/\mX f g h (sk a i) (Qx i a (M j) j (n++bI (gF (kS i j) m)) p))) (∃ o p q,J8 o a i p e q/\bi (O (cP a i)) o j/\(0:Nat)=(0:Nat)/\sk a i/\O (cP a i)=O (cP a i)/\aA j=o/\i=i/\a=a/\mX b c d (max k (gF (kS i j) 1)=p) (mX f g h (sk a i) (D2 i a/\J (n=q))))) (mQ a i+(V i -mQ a i)=V i) (l=om (cP a i)/\(a,b,c,d,k,f,g,h,drop (mQ a i) i)=(a,b,c,d,mY e (cP a i),f,g,h,iR a i)):= by
  delta rk O ap aq aH aM bh bp bi bZ am bR kR bo kS mX eh aA sk mQ J bI D2 Nu xy av J8 vJ iq aF Qx
  rintro now s0 s1 s2 kn s3 s4 s5 up-⟨hn,hm⟩
  have ⟨q1,q2,q3,q4⟩:=aq6 now up
  rw[← q2]
  generalize cP now up=L at *
  have hmL:∀ t∈L,∃ m,V t.2.2=3+2*m/\m<=2000:=λt ht=>hm t (q4 t ht)
  refine⟨⟨0,kn,[],⟨Y,Y,rfl,rfl⟩,aI⟩,?_⟩
  rintro j k nt ⟨j0,j1,rfl,rfl⟩
  refine bT (λhj=>?_) (λhj=>?_)
  .have e:T up (0+M j) cs5=T L (M j) default:=by rw[gD];exact q3 _ Y
   have hmem:=cW (xs:=L) j0 hj
   rw[e]
   have ⟨m,hl,hm2⟩:=hmL _ hmem
   have ht:=nq (l:=L) j0 hj
   generalize T L (M j) cs5=S at *
   refine⟨j0,Y,Y,⟨3,_,⟨Y,Y,rfl,rfl⟩,?_⟩,?_⟩
   ·(repeat refine g9 ?_)
    exact⟨by simp[qD],aQ⟩
   rintro a nt2 ⟨a0,a1,a2,rfl⟩
   have hh:=am2 (l:=L.take (M j)) λt ht=>hmL t (te ht)
   have hlt:V (L.take (M j))<=V L:=by rw[fF];omega
   refine bT (λha=>?_) (λha=>?_)
   .obtain⟨q,hq⟩:∃ q:Nat,a=3+2*(q:Int):=⟨M ((a-3)/2),Y⟩
    subst hq
    have hp:=SY _ ((S.2.2.drop 3).take (M (3+2*(q:Int)-3))) (dq _)
    have e1:M (3+2*(q:Int)-3)=2*q:=Y
    have e2:M (3+2*(q:Int)+2-3)=2*q+2:=Y
    have e3:(3+2*(q:Int))=((3+2*q:Nat):Int):=Y
    have e4:gF S.2.2 (3+2*(q:Int))=T (S.2.2.drop 3) (2*q) 0*256+T (S.2.2.drop 3) (2*q+1) 0:=by
     rw[e3,aw2 Y,← List.drop_drop]
     simp only[cK,Ca,kz]
    refine⟨Y,?_,3+2*(q:Int)+2,_,⟨Y,Y,Y,rfl⟩,Y,?_⟩
    .rw[cw,hp,fq,fF,gR];omega
    ·(repeat refine g9 ?_)
     exact⟨by rw[e1,e2,e4,ap1 q (by rw[gR];omega),gI],aQ⟩
   .have w1:max (mY kn (L.take (M j))) (gF S.2.2 1)=mY kn (L.take (M (j+1))):=by rw[ht,bs7]
    have w2:om (L.take (M j))++qD ((S.2.2.drop 3).take (M (a-3)))=om (L.take (M (j+1))):=by rw[ht,bm6,gE (l:=S.2.2.drop 3) (by rw[gR];omega)]
    rw[w1,w2]
    exact⟨j+1,_,_,⟨Y,Y,rfl,rfl⟩,Y,aI⟩
  .have e:M j=V L:=Y
   rw[e,cz4]
   exact⟨Y,rfl,rfl⟩
theorem cg0:aB 90 Xa.spec:=aG Tryz.func90 (am5 (C (C aC aH5) ao5) (d:=43) (p:=1048576) (off:=8)) cj1 bt8
def B4(c:cA)(up:List fC)(x:Int):Z:=(rX x (min (V (ct c):Int) (fb c up+fh c))).filter λi => !(om (tN c up)).contains i
theorem an7{now d b}:∀(n:Nat)k{o:Int}{l:List bU},nH now o l->o+n<=1000000000000000->nH now (mh now d b n k (o,l)).1 (mh now d b n k (o,l)).2/\(mh now d b n k (o,l)).1<=o+n
 | 0,k,o,l,h,_=>⟨h,by show o<=_;omega⟩
 | n+1,k,o,l,h,hb=>by
  rw[mh];dsimp only;split
  next hl=>obtain⟨k1,k2⟩:=an7 (now:=now) (d:=d) (b:=b) n (k+1) (o:=o+1) (l:=pG l (now+1+d+k,o,b)) (h.next Y hl) Y;exact⟨k1,Y⟩
  .exact⟨h,by show o<=_;omega⟩
variable{l:List bU}
theorem bu7{b f}(hf:Cg f)(h:nH now o l)(ho:o<=900000000000000):nH now (iB now b f (o,l)).1 (iB now b f (o,l)).2/\(iB now b f (o,l)).1<=o+9:=by
 unfold iB
 have ⟨f1,f2⟩:=hf
 split
 .exact⟨h,by show o<=_;omega⟩
 .have ⟨k1,k2⟩:=an7 (now:=now) (d:=f.2.1) (b:=b) (M (f.2.2+1)) 0 h Y;exact⟨k1,Y⟩
variable{x b:Int}
theorem aE2(h:x<b):rX x b=x::rX (x+1) b:=by
 unfold rX
 obtain⟨n,hn⟩:∃ n,M (b-x)=n+1:=⟨M (b-x)-1,Y⟩
 rw[hn,show M (b-(x+1))=n by omega,List.range_succ_eq_map,f6,List.map_map]
 congr 1
 .simp
 .apply List.map_congr_left;intro k _;simp only[Function.comp_apply,Nat.succ_eq_add_one];omega
theorem bS6(h:¬ x<b):rX x b=[]:=by
 unfold rX
 rw[show M (b-x)=0 by omega];rfl
theorem Y5:∀{l:Z}{lo hi:Int},l.Pairwise (λa b=>a<b)->(∀ x∈l,lo<=x/\x<hi)->(V l:Int)<=max 0 (hi-lo)
 | [],lo,hi,_,_=>by simp;omega
 | x::r,lo,hi,hs,hb=>by
  obtain⟨s1,s2⟩:=cu1.1 hs;have hx:=hb x dU;have:=Y5 (l:=r) (lo:=x+1) (hi:=hi) s2 λy hy=>⟨by have:=s1 y hy;omega,(hb y (eZ _ hy)).2⟩
  rw[fa];omega
theorem Vi(h:wG log s t)(hl:V log<=1024):∃ m,V t.2.2=3+2*m/\m<=2000:=by
 have ⟨g,es,h1,h2,h3,h4⟩:=h
 refine⟨V es,by rw[h1,Qz],?_⟩
 have:=Y5 (lo:=0) (hi:=1024) h3 λx hx=>by have:=(h4 x hx).1;omega
 omega
theorem n8.so{n1 ord}(h:n8 now ord l)(h1:0<=n1/\n1<=2000000000000)(h2:0<=ord/\ord<=1000000000000000):nH n1 ord l:=⟨h1,h2,h.s,λx hx=>(h.r x hx).2.2,h.n⟩
theorem XI.parts{c}(h:XI c)(hu:p8 up):(n8 (bW c) (fG c up).1 (fG c up).2/\ke c<=(fG c up).1/\(fG c up).1<=ke c+9∧∀ t∈(fG c up).2,wG (ct c) (ga c) t)/\0<=fb c up/\fb c up<=1024:=by
 have ⟨r1,r2,r3,r4⟩:=GD h.log (l:=cP (bW c+1) (iI c)) h.rc λt ht=>h.dd t (CR ht).1
 have eG:ga c=oH (gJ c+fh c) (cP (bW c+1) (iI c)) (gn c,oT c):=rfl
 rw[← eG] at r1 r2 r3 r4
 have r2:V (gn c)<=(ga c).1.length:=r2
 have hgl:=r1.n
 have hlog:=h.log
 have hkn:=h.kn
 have aU:n8 (bW c) (fG c up).1 (fG c up).2/\ke c<=(fG c up).1/\(fG c up).1<=ke c+9∧∀ t∈(fG c up).2,wG (ct c) (ga c) t:=by
  have old:∀ t∈ju c,wG (ct c) (ga c) t:=λt ht=>(h.ud t ht).more r2 r3;unfold fG;split
  .exact⟨h.up,fJ _,by show ke c<=_;omega,old⟩
  .obtain⟨k1,k2,k3,k4,-⟩:=MG (n0:=bW c) (now:=bW c+1) (b:=my ((ga c).1.length:Int) ((ga c).2.map (·.1))) ⟨Y,Y⟩ (FQ hu 0) h.ord h.up;refine⟨k1,k2,k3,λt ht=>?_⟩;obtain q|q:=k4 t ht
   .exact old t q
   .refine⟨_,_,q,⟨Y,fJ _⟩,?_,λe he=>?_⟩
    .rw[List.pairwise_map];exact r1.e.s
    .obtain⟨x,hx,rfl⟩:=List.mem_map.1 he;exact⟨(r1.e.r x hx).1,.inr ⟨x,hx,rfl⟩⟩
 have ⟨n1,n2⟩:=RX (log:=ct c) (s:=ga c) Y (l:=tN c up) (k:=gJ c) hkn.1 Y λt ht=>aU.2.2.2 t (CR ht).1
 have n1:gJ c<=fb c up:=n1
 have n2:fb c up<=(ga c).1.length:=n2
 exact⟨aU,Y,Y⟩
def X6:Ct:=⟨[.box 56 YE,.val (.sl tA),.val (.sl tA)],[],λd=>[XR d.1,bW d.1<1099511627776,p8 d.2.1,p8 d.2.2.1],λd=>((),(fR d.1 d.2.1 d.2.2.1,()))⟩
def br3:bG X6.ps->bL:=(λd=>{loops:=(bz 5 (λS=>{ι:=Int×Int×Int×(List bU),qn:=HW,μ:=λi=>M (fb d.1 d.2.2.1+fh d.1-i.1),inv:=λi=>fb d.1 d.2.2.1<=i.1/\0<=i.2.1/\i.2.1<=i.1-fb d.1 d.2.2.1/\nH (bW d.1+1) i.2.2.1 i.2.2.2/\i.2.2.1<=(fG d.1 d.2.2.1).1+9*i.2.1/\i.1<=fb d.1 d.2.2.1+fh d.1/\lD (bW d.1+1) (ct d.1) d.2.1 (B4 d.1 d.2.2.1 i.1) (M i.2.1) (i.2.2.1,i.2.2.2)=pP d.1 d.2.1 d.2.2.1,keep:=[0,1,6],slots:=λi=>[(8,.int .i64 i.1),(7,.int .i64 i.2.1)],keepN:=[2097152,304,305,337,336],names:=λi=>[(1048576,.live (.cells 56 [.int .i64 (bW d.1+1),.int .i64 i.2.2.1,.int .i64 (fh d.1),.own 2097152 1,.int .i64 (fb d.1 d.2.2.1),.own 304 1,.own 305 2,.own 524288 3,.own 337 3])),(524288,.live (.row 279 ji i.2.2.2))]}) cm)})
def Bc(a b c:Int)(d:bg4)(e:Int)(f:List Z×List dO×List bU×List bU)(g:bh5):=fb (a,b,c,d,e,f) g+fh (a,b,c,d,e,f)
def kG(a b c:Int)(d:List cO)(e:bg4)(f:cr6):=j7 (aA a) (b+c) d e f
def MF(a b c:Int)(d:List Z×List dO)(e f:List cO)(g:bh5):=om (cP (aA a) (pv b c d e f g).2)=om (cP (aA a) (pv b c d e f g).2)
def Oa(a b c:Int)(d:List Z×List dO)(e f:List cO)(g:bh5):=iR (aA a) (pv b c d e f g).2=iR (aA a) (pv b c d e f g).2
def qd(a:Int)(b:Int×Int×List Z×Int×List Z×List dO×List bU×List bU):=bW (a,b)+1
theorem ca9:
 ∀ a b c d e f g h i j k,bJ a b (aq c) (uk d/\aq e/\uk f/\yG g/\kR h/\kR i)/\rg j/\J (rg k)->(XR (a,b,c,d,e,f,g,h,i)/\bW (a,b,c,d,e,f,g,h,i)<1099511627776/\p8 j/\ ∀ l,l∈k->aF l.2.1 1000/\aF l.2.2 8)->(∃ l,JZ (aA a) b c e f g h i k l)/\V (pv (aA a) b (kG a e c h f g) h i k).2<=4096/\(∀ l,l∈(pv (aA a) b (kG a e c h f g) h i k).2-> ∃ m,V l.2.2=3+2*m/\m<=2000)/\(∃ l m n o,(fb (a,b,c,d,e,f,g,h,i) k<=l/\bo m (l -fb (a,b,c,d,e,f,g,h,i) k) (nH (qd a (b,c,d,e,f,g,h,i)) n o) (n<=(fG (a,b,c,d,e,f,g,h,i) k).1+9*m/\l<=Bc a b c d e (f,g,h,i) k/\lD (qd a (b,c,d,e,f,g,h,i)) (ct (a,b,c,d,e,f,g,h,i)) j (B4 (a,b,c,d,e,f,g,h,i) k l) (M m) (n,o)=pP
 (a,b,c,d,e,f,g,h,i) j k))/\j=j/\0=m/\mY e (cP (aA a) (pv (aA a) b (kG a e c h f g) h i k).2)=l/\d=d/\(kG a e c h f g).1=(kG a e c h f g).1/\(kG a e c h f g).2=(kG a e c h f g).2/\Oa a (aA a) b (kG a e c h f g) h i k/\MF a (aA a) b (kG a e c h f g) h i k/\aA a=qd a (b,c,d,e,f,g,h,i)/\(pv (aA a) b (kG a e c h f g) h i k).1=n/\c=fh (a,b,c,d,e,f,g,h,i)/\mY e (cP (aA a) (pv (aA a) b (kG a e c h f g) h i k).2)=fb (a,b,c,d,e,f,g,h,i) k/\J (iR (aA a) h=o))/\ ∀ l m n o,fb (a,b,c,d,e,f,g,h,i) k<=l/\bo m (l -fb (a,b,c,d,e,f,g,h,i) k) (nH (qd a (b,c,d,e,f,g,h,i)) n o) (n<=(fG (a,b,c,d,e,f,g,h,i) k).1+9*m/\l<=Bc a b c d e (f,g,h,i) k/\lD (qd a (b,c,d,e,f,g,h,i)) (ct (a,b,c,d,e,f,g,h,i)) j (B4 (a,b,c,d,e,f,g,h,i) k l) (M m) (n,o)=pP (a,b,c,d,e,f,g,h,i) j k)->au (av
 l (min (O d) (ap (Bc a b c d e (f,g,h,i) k)))) (au (cs7 (l∈om (cP (aA a) (pv (aA a) b (kG a e c h f g) h i k).2))) (∃ p q r s,(fb (a,b,c,d,e,f,g,h,i) k<=p/\bo q (p -fb (a,b,c,d,e,f,g,h,i) k) (nH (qd a (b,c,d,e,f,g,h,i)) r s) (r<=(fG (a,b,c,d,e,f,g,h,i) k).1+9*q/\p<=Bc a b c d e (f,g,h,i) k/\lD (qd a (b,c,d,e,f,g,h,i)) (ct (a,b,c,d,e,f,g,h,i)) j (B4 (a,b,c,d,e,f,g,h,i) k p) (M q) (r,s)=pP (a,b,c,d,e,f,g,h,i) j k))/\bi (Bc a b c d e (f,g,h,i) k) p l/\j=j/\m=q/\aA l=p/\d=d/\(kG a e c h f g).1=(kG a e c h f g).1/\(kG a e c h f g).2=(kG a e c h f g).2/\Oa a (aA a) b (kG a e c h f g) h i k/\MF a (aA a) b (kG a e c h f g) h i k/\qd a (b,c,d,e,f,g,h,i)=qd a (b,c,d,e,f,g,h,i)/\n=r/\bp (fh (a,b,c,d,e,f,g,h,i)) (fb (a,b,c,d,e,f,g,h,i) k) (o=s) True) (am l (l<O d) (am l
 (bV (N d l)) (nH (qd a (b,c,d,e,f,g,h,i)) n o/\n<=900000000000000/\Cg (jS j m)/\am m (bV (mA l (N d l))) (∃ p q r s,(fb (a,b,c,d,e,f,g,h,i) k<=p/\bo q (p -fb (a,b,c,d,e,f,g,h,i) k) (nH (qd a (b,c,d,e,f,g,h,i)) r s) (r<=(fG (a,b,c,d,e,f,g,h,i) k).1+9*q/\p<=Bc a b c d e (f,g,h,i) k/\lD (qd a (b,c,d,e,f,g,h,i)) (ct (a,b,c,d,e,f,g,h,i)) j (B4 (a,b,c,d,e,f,g,h,i) k p) (M q) (r,s)=pP (a,b,c,d,e,f,g,h,i) j k))/\bi (Bc a b c d e (f,g,h,i) k) p l/\j=j/\aA m=q/\aA l=p/\d=d/\(kG a e c h f g).1=(kG a e c h f g).1/\(kG a e c h f g).2=(kG a e c h f g).2/\Oa a (aA a) b (kG a e c h f g) h i k/\MF a (aA a) b (kG a e c h f g) h i k/\qd a (b,c,d,e,f,g,h,i)=qd a (b,c,d,e,f,g,h,i)/\(iB (qd a (b,c,d,e,f,g,h,i)) (mA l (N d l)) (jS j m) (n,o)).1=r/\bp (fh (a,b,c,d,e,f,g,h,i)) (fb
 (a,b,c,d,e,f,g,h,i) k) ((iB (qd a (b,c,d,e,f,g,h,i)) (mA l (N d l)) (jS j m) (n,o)).2=s) True))))) ((qd a (b,c,d,e,f,g,h,i),n,fh (a,b,c,d,e,f,g,h,i),d,fb (a,b,c,d,e,f,g,h,i) k,(kG a e c h f g).1,(kG a e c h f g).2,o,iR (aA a) (pv (aA a) b (kG a e c h f g) h i k).2)=fR (a,b,c,d,e,f,g,h,i) j k):= by
  delta N O ap aq aH aM bp bi bZ am kR bJ bV bo rg aA J uk yG av Bc jS kG MF iq Oa aF qd
  rintro now ord win log kn got ear dn up ds us-⟨⟨hx,hor⟩,hnow,hd,hu⟩
  have hu:=hu
  have ⟨⟨pu1,pu2,pu3,pu4⟩,pk1,pk2⟩:=hx.parts hu
  have n0:=hx.now
  have hnow:now<1099511627776:=hnow
  have o0:=hx.ord
  have hor:ord<=585*now:=hor
  have hwin:=hx.win
  have hlog:V log<=1024:=hx.log
  have hkn:0<=kn/\kn<=V got:=hx.kn
  have hgl:V got<=V log:=hx.rc.n
  have pu2:=pu2
  have pu3:(fG (now,ord,win,log,kn,got,ear,dn,up) us).1<=ord+9:=pu3
  rw[aJ (n:=now+1) Y Y]
  have eG:j7 (now+1) (kn+win) dn got ear=ga (now,ord,win,log,kn,got,ear,dn,up):=rfl
  have eU:pv (now+1) ord (j7 (now+1) (kn+win) dn got ear) dn up us=fG (now,ord,win,log,kn,got,ear,dn,up) us:=rfl
  rw[eU,eG]
  have eH:cP (now+1) (fG (now,ord,win,log,kn,got,ear,dn,up) us).2=tN (now,ord,win,log,kn,got,ear,dn,up) us:=rfl
  have eK:mY kn (tN (now,ord,win,log,kn,got,ear,dn,up) us)=fb (now,ord,win,log,kn,got,ear,dn,up) us:=rfl
  rw[eH,eK]
  have eW:fh (now,ord,win,log,kn,got,ear,dn,up)=win:=rfl
  have eN:bW (now,ord,win,log,kn,got,ear,dn,up)=now:=rfl
  have eL:ct (now,ord,win,log,kn,got,ear,dn,up)=log:=rfl
  rw[eW,eN,eL]
  have hfin:∀ o dn',(o,dn')=pP (now,ord,win,log,kn,got,ear,dn,up) ds us->((now+1,o,win,log,fb (now,ord,win,log,kn,got,ear,dn,up) us,(ga (now,ord,win,log,kn,got,ear,dn,up)).1,(ga (now,ord,win,log,kn,got,ear,dn,up)).2,dn',iR (now+1) (fG (now,ord,win,log,kn,got,ear,dn,up) us).2):cA)=fR (now,ord,win,log,kn,got,ear,dn,up) ds us:=λo dn' he=>by
   show _=((now+1,(pP (now,ord,win,log,kn,got,ear,dn,up) ds us).1,win,log,fb (now,ord,win,log,kn,got,ear,dn,up) us,(ga (now,ord,win,log,kn,got,ear,dn,up)).1,(ga (now,ord,win,log,kn,got,ear,dn,up)).2,(pP (now,ord,win,log,kn,got,ear,dn,up) ds us).2,iR (now+1) (fG (now,ord,win,log,kn,got,ear,dn,up) us).2):cA)
   rw[← he]
  have hD:lD (now+1) log ds (B4 (now,ord,win,log,kn,got,ear,dn,up) us (fb (now,ord,win,log,kn,got,ear,dn,up) us)) 0 ((fG (now,ord,win,log,kn,got,ear,dn,up) us).1,iR (now+1) dn)=pP (now,ord,win,log,kn,got,ear,dn,up) ds us:=rfl
  have hR:∀ x,B4 (now,ord,win,log,kn,got,ear,dn,up) us x=(rX x (min (V log:Int) (fb (now,ord,win,log,kn,got,ear,dn,up) us+win))).filter λi => !(om (tN (now,ord,win,log,kn,got,ear,dn,up) us)).contains i:=λx=>rfl
  have hdn0:=(SI (now:=now+1) (by rw[eN];omega) hx.dn).more pu2
  have hdn0:=hdn0
  have hrc:JZ (now+1) ord win kn got ear dn up us log:=⟨hx.rc,hlog,hx.it,hx.dd,Y,hwin,hx.up.so Y ⟨o0,by show ord<=_;omega⟩,Y,FQ hu 0,hx.dn.n⟩
  have hit:=hx.it
  rw[eL] at hit
  have hodd:∀ t∈(fG (now,ord,win,log,kn,got,ear,dn,up) us).2,∃ m,V t.2.2=3+2*m/\m<=2000:=λt ht=>Vi (pu4 t ht) hlog
  have hun:=pu1.n
  generalize fG (now,ord,win,log,kn,got,ear,dn,up) us=U at *
  generalize tN (now,ord,win,log,kn,got,ear,dn,up) us=H at *
  generalize fb (now,ord,win,log,kn,got,ear,dn,up) us=K at *
  generalize B4 (now,ord,win,log,kn,got,ear,dn,up) us=R at *
  generalize pP (now,ord,win,log,kn,got,ear,dn,up) ds us=D at *
  refine⟨⟨log,hrc⟩,hun,hodd,⟨K,0,U.1,iR (now+1) dn,⟨Y,Y,Y,hdn0.so Y Y,Y,Y,hD⟩,aI⟩,?_⟩
  rintro x i o dn' ⟨x0,i0,i1,hs,ho,x1,he⟩
  rw[aJ (n:=K+win) Y Y]
  refine bT (λhb=>?_) (λhb=>?_)
  .have hlt:x<V log:=Y
   have hcons:=aE2 hb
   refine bT (λhm=>?_) (λhm=>?_)
   .refine⟨x+1,i,o,dn',⟨Y,i0,Y,hs,ho,Y,?_⟩,Y,aI⟩
    rw[← he,hR,hR,hcons,List.filter_cons_of_neg (by simpa using hm)]
   .have hf:=FQ hd (M i)
    have hil:=hit _ (cW (xs:=log) (i:=x) Y hlt)
    have ⟨s1,s2⟩:=bu7 (b:=mA x (T log (M x) cs5)) hf hs Y
    refine⟨Y,hlt,Y,Y,hs,Y,hf,i0,by rw[Qp];omega,x+1,i+1,(iB (now+1) (mA x (T log (M x) cs5)) (mb ds (M i)) (o,dn')).1,(iB (now+1) (mA x (T log (M x) cs5)) (mb ds (M i)) (o,dn')).2,⟨Y,Y,Y,s1,Y,Y,?_⟩,Y,aI⟩
    rw[← he,hR x,hR,hcons,List.filter_cons_of_pos (by simpa using hm),show M (i+1)=M i+1 by omega]
    rfl
  .refine hfin o dn' ?_
   rw[← he,hR,bS6 hb]
   rfl
theorem Zk:aB 46 X6.spec:=aG Tryz.func46 (C (C (C (C (C aC bg6) cg0) Wg) aQ4) al6) br3 ca9
def Gw(q:α->Bool)(l:List α):Int:=if l.findIdx q<V l then (l.findIdx q:Int) else -1
theorem bO5{q}{l:List α}:cs7 (0<=Gw q l)=l.any q:=by
 unfold Gw
 grind
def aR7:Ct:=⟨[.val cI],[.agg qW,.val cI],λ_=>[],λd=>((Gu d.1,yN d.1,()),())⟩
def yf:=(([]:List Z),(0:Int),([]:List Z),([]:List bL9),([]:List cO),([]:List cO))
theorem bL3:
 ∀ a,dN (aq a) (nG (av a 1) (av 64 a) ((0,0,0,yf)=Gu a/\1=yN a) ((0,0,a,yf)=Gu a/\0=yN a)):= by
  delta aq aH bN aK br bw J nG yf av dN kx
  rintro w - -
  (repeat (refine cG ?_;repeat refine cH ?_))
  refine rI (λh=>?_) (λa c=>?_)
  .have e:yN w=1:=by unfold yN;rw[ao (by rcases h with q|q;exact .inl (aX q);exact .inr (aX q))]
   unfold Gu
   rw[e]
   exact⟨rfl,rfl⟩
  .have a:=bg a
   have c:=bg c
   have e:yN w=0:=by unfold yN;rw[I Y]
   unfold Gu
   rw[e]
   exact⟨rfl,rfl⟩
theorem bG8:aB 11 aR7.spec:=aG Tryz.func11 aC aS bL3
def aM7:Ct:=⟨[.val cI,.val cI],[.val cI],λ_=>[],λd=>((BK d.1 d.2.1,()),())⟩
theorem aH6:
 ∀ a b,dP a b->True-> ∀ c,c=da a->bN c/\bw c/\ ∀ d,ry d c (av 1024 a) (bw d) (yY d (av b 1) (av 64 b) (0=BK a b) (b≠0/\ap (ap (4*ap (ap (cB9 a b)+2))+2000)=BK a b)):= by
  delta ap aq aH bN aK br bw ry J dP da av yY
  rintro n w - -
  (repeat (refine cG ?_;repeat refine cH ?_))
  refine ay (λh=>?_) (λh=>?_)
  .have h:n<0∨1024<n∨w<1∨64<w:=by
    grind
   unfold BK
   rw[ao h]
  .have h:¬ (n<0∨1024<n∨w<1∨64<w):=by
    simp_all
   have hq:0<=n/w/\n/w<=n:=⟨cU5 Y Y,cT4 _ Y⟩
   have ht:cB9 n w=n/w:=FJ Y
   refine⟨Y,?_⟩
   unfold BK
   rw[I h,ht,aJ (n:=n/w) Y Y,aJ (n:=n/w+2) Y Y,aJ (n:=4*(n/w+2)) Y Y,aJ Y Y]
theorem aY1:aB 19 aM7.spec:=aG Tryz.func19 aC aS aH6
def bh6:Ct:=⟨[.agg qW],[.val .bool],λ_=>[],λd=>((ED d.1,()),())⟩
theorem bA0:
 ∀ a,dN (CT.wf qW a) (∀ b,b=cs7 (O a.2.2.2.2.2.1=O a.2.2.2.1)->fp b b (aK b) (b->dE b) ((b->b)/\lW b a.2.2.2.2.1 (O a.2.2.2.1)=ED a)):= by
  delta O aK cB bq fp J dE dN lW
  rintro c - -
  have e:ED c=(cs7 (V c.2.2.2.2.2.1=V c.2.2.2.1)&&cs7 (c.2.2.2.2.1=(V c.2.2.2.1:Int))):=rfl
  grind
theorem a60:aB 20 bh6.spec:=aG Tryz.func20 aC aS bA0
def a58:Ct:=⟨[.agg tA],[.val .bool],λ_=>[],λd=>((!ra d.1,()),())⟩
theorem as6:
 ∀ a b c,dN (True/\aq b/\aq c) (∀ d,d=da b->cQ d (bw d) (∀ e,e=br d (av 1000 b)->cQ e (bw e) (∀ f,f=br e (da c)->cQ f (bw f) (br f (av 8 c)=( !ra (a,b,c)))))):= by
  delta aq aH bN aK br cQ bw J da av dN
  rintro a x y - -
  have e:ra (a,x,y)=cs7 (0<=x/\x<=1000/\0<=y/\y<=8):=rfl
  grind
theorem cp1:aB 88 a58.spec:=aG Tryz.func88 aC aS as6
def Zl:Ct:=⟨[.val (.sl tA),.fn 88 0],[.val cI],λ_=>[],λd=>((Gw (λf => !ra f) d.1,()),())⟩
def av7:bG Zl.ps->bL:=(λd=>{loops:=(bz 2 (λS=>{ι:=Int,μ:=λi=>M (V d.1-i),inv:=λi=>0<=i/\i<=V d.1∧∀ x∈d.1.take (M i),(!ra x)=ct2,keep:=[0,1,6,7],slots:=λi=>[(8,.int .i64 i)]}) cm)})
def Nv(a:Int)(b:bh5):=am a (a<=O b) (∀(c:cr3),c∈take (M a) b->( !ra c)=ct2)
theorem aO9:
 ∀ a,rg a/\J True->True->(∃ b,Nv b a/\a=a/\a=a/\O a=O a/\J (0=b))/\ ∀ b,Nv b a->au (av b (O a)) (gP b (O a) ( !ra (N a b)) (b=Gw (λc=> !ra c) a) (∃ c,Nv c a/\bi (O a) c b/\a=a/\a=a/\O a=O a/\J (aA b=c))) ((-1)=Gw (λc=> !ra c) a):= by
  delta N O ap aq aH bi bZ am rg aA J av Nv gP
  rintro l ⟨⟨hl,-⟩,-⟩ -
  simp only[cu5] at hl
  refine⟨⟨0,⟨Y,Y,aw⟩,aI⟩,?_⟩
  rintro j ⟨b,j1,c⟩
  refine bT (λa=>?_) (λa=>?_)
  .refine⟨b,a,ay (λd=>?_) (λd=>?_)⟩
   .exact F0 b a c d
   .exact⟨j+1,⟨Y,Y,yD b a c d⟩,Y,aI⟩
  .exact Ii a c
theorem bC7:aB 161 Zl.spec:=aG Tryz.func161 (C aC cp1) av7 aO9
def bn2:Ct:=⟨[.val (.sl tA),.fn 88 0],[.val .bool],λ_=>[],λd=>((d.1.any (λf => !ra f),()),())⟩
theorem aX6:
 ∀ a,rg a/\J True->True->fH (Gw (λb=> !ra b) a)=cW4 a (λb=> !ra b):= by
  delta aq aH rg J fH
  rintro l - -
  exact bO5
theorem bq1:aB 87 bn2.spec:=aG Tryz.func87 (C aC bC7) aS aX6
def a75:Ct:=⟨[.val (.sl tA)],[.val .bool],λ_=>[],λd=>((qc d.1,()),())⟩
theorem aG2:
 ∀ a,dN (rg a) (( !cW4 a (λb=> !ra b))=qc a):= by
  delta aq aH rg J dN
  unfold qc
  grind
theorem bd9:aB 45 a75.spec:=aG Tryz.func45 (C aC bq1) aS aG2
theorem XI.cp{c}(h:XI c):IY c:=by
 have d:=h.log
 have hi:=h.it
 have hn:V (gn c)<=V (ct c):=h.rc.n
 have hg:gn c=(ct c).take (V (gn c)):=h.rc.g
 have hr:=(Ui h.rc d ⟨h.kn.1,by have:=h.kn.2;omega⟩ h.win).2
 refine⟨⟨Y,λb f=>by have:=hi b f;omega⟩,⟨Y,λb f=>?_⟩,⟨Y,λx hx=>?_⟩,⟨by have:=h.dn.n;omega,λt a=>?_⟩,⟨by have:=h.up.n;omega,λt a=>?_⟩⟩
 .grind
 .have ⟨⟨k1,k2⟩,k3,k4⟩:=h.rc.e.r x hx;grind
 .have:=(Uz (h.dd t a) hi).2;omega
 .have ⟨m,h1,h2⟩:=Vi (h.ud t a) d;omega
def aH8:Ct:=⟨[.agg qW,.val (.sl bc)],[.agg qW,.val cI],λd=>[XR d.1],λd=>((Ai d.1 d.2.1,yh d.1 d.2.1,()),())⟩
theorem bT4:
 ∀ a b,CT.wf qW a/\J (aM b)->XI a/\ke a<=585*bW a->lO (cs7 (1024<=O a.2.2.2.1)) (av 6000 (O b)) ((0,0,0,yf)=Ai a b/\5=yh a b) (IY a/\aR b/\D5 a.2.2.2.1 b/\(a.1,a.2.1,a.2.2.1,a.2.2.2.1++nR b,a.2.2.2.2)=Ai a b/\0=yh a b):= by
  delta O aM bN aK aR br cQ bw bR lO J yf av nR aF D5
  rintro c b ⟨⟨-,-,-,⟨hl,-⟩,-⟩,⟨hb,-⟩,-⟩⟨hx,ho⟩
  (repeat (refine cG ?_;repeat refine cH ?_))
  refine rI (λh=>?_) (λa f=>?_)
  .have e:yh c b=5:=by
    refine ao ?_
    obtain q|q:=h
    .have:=aX q
     exact .inl (by show 1024<=V c.2.2.2.1;omega)
    .simp_all
   unfold Ai
   rw[e]
   exact⟨rfl,rfl⟩
  .have a:=bg a
   have f:=bg f
   have e:yh c b=0:=by
    refine I ?_
    rintro (q|q)
    .have q:1024<=V c.2.2.2.1:=q
     omega
    .omega
   unfold Ai
   rw[e]
   refine⟨hx.cp,Y,by simp;omega,?_,rfl⟩
   rfl
theorem aN5:aB 13 aH8.spec:=aG Tryz.func13 (C (C aC P2) po) aS bT4
def bI5:Ct:=⟨[.agg qW,.val (.sl tA),.val (.sl tA)],[.agg qW,.val cI],λd=>[XR d.1],λd=>((zN d.1 d.2.1 d.2.2.1,sF d.1 d.2.1 d.2.2.1,()),())⟩
theorem aJ6:
 ∀ a b c,CT.wf qW a/\rg b/\J (rg c)->XI a/\ke a<=585*bW a->lO ( !qc b) ( !qc c) ((0,0,0,yf)=zN a b c/\1=sF a b c) (IY a/\au (cs7 (1099511627776<=a.1)) ((0,0,0,yf)=zN a b c/\5=sF a b c) (XR a/\bW a<1099511627776/\p8 b/\p8 c/\(bW a+1,(pP a b c).1,fh a,ct a,fb a c,(ga a).1,(ga a).2,(pP a b c).2,iR (bW a+1) (fG a c).2)=zN a b c/\0=sF a b c)):= by
  delta aq aH bN aK br cQ bw lO rg J yf
  rintro c ds us-⟨i,ho⟩
  (repeat (refine cG ?_;repeat refine cH ?_))
  refine rI (λh=>?_) (λa g=>⟨i.cp,ay (λf=>?_) (λf=>?_)⟩)
  .have e:sF c ds us=1:=by
    unfold sF
    grind
   unfold zN
   rw[e]
   exact⟨rfl,rfl⟩
  .have a:qc ds=true:=by simpa using a
   have f:1099511627776<=bW c:=aX f
   have e:sF c ds us=5:=by
    unfold sF
    simp_all
   unfold zN
   rw[e]
   exact⟨rfl,rfl⟩
  .have a:qc ds=true:=by simpa using a
   have g:qc us=true:=by simpa using g
   have f:¬ 1099511627776<=bW c:=bg f
   have e:sF c ds us=0:=by
    unfold sF
    simp_all
   unfold zN
   rw[e]
   exact⟨⟨i,ho⟩,Y,JE.1 a,JE.1 g,rfl,rfl⟩
theorem cd2:aB 14 bI5.spec:=aG Tryz.func14 (C (C (C aC bd9) P2) Zk) aS aJ6
def ao0:Ct:=⟨[.agg qW,.val cI],[.agg qW,.val cI],λd=>[XR d.1],λd=>((AT d.1 d.2.1,tV d.1 d.2.1,()),())⟩
def cf0:bG ao0.ps->bL:=(λd=>{loops:=(bz 4 (λS=>{ι:=Int×cA,qn:=fE,μ:=λi=>M i.1,inv:=λi=>0<=i.1/\i.1<=max 0 d.2.1/\(i.1<d.2.1->bW d.1+(d.2.1-i.1)<=1099511627776)/\i.2=fZ (M (max 0 d.2.1-i.1)) d.1,keep:=[2,4,5],slots:=λi=>[(1,.int .i64 i.1)],keepN:=[80],names:=λi=>[(48,.live (.cells 56 [.int .i64 (bW i.2),.int .i64 (ke i.2),.int .i64 (fh i.2),.own 524288 1,.int .i64 (gJ i.2),.own 524289 1,.own 524290 2,.own 524291 3,.own 524292 3])),(524288,.live (.row 22 (.sl bc) (ct i.2))),(524289,.live (.row 22 (.sl bc) (gn i.2))),(524290,.live (.row 196 tz (oT i.2))),(524291,.live (.row 279 ji (iI i.2))),(524292,.live (.row 279 ji (ju i.2)))]}) cm)})
def HB(a:cA):=(bW a,ke a,fh a,ct a,gJ a,gn a,oT a,iI a,ju a)
def M5(a b:Int)(c:Int×Int×Int×List Z×Int×List Z×List bL9×List cO×List cO)(d:cA):=bo a (max 0 b) (a<b->bW c+(b -a)<=1099511627776) (d=fZ (M (max 0 b -a)) c)
theorem b82:
 ∀ a b,CT.wf qW a/\J (aq b)->XI a/\ke a<=585*bW a->nG (da b) (av 100000 b) ((0,0,0,yf)=AT a b/\1=tV a b) (IY a/\(∃ c d,M5 c b a d/\b=c/\uK ((0:Int)=(0:Int)) (a.1=bW d/\a.2.1=ke d/\a.2.2.1=fh d/\a.2.2.2.2.1=gJ d/\a.2.2.2.1=ct d/\a.2.2.2.2.2.1=gn d/\a.2.2.2.2.2.2.1=oT d/\a.2.2.2.2.2.2.2.1=iI d/\J (a.2.2.2.2.2.2.2.2=ju d)))/\ ∀ c d,M5 c b a d->au (av 0 c) (au (cs7 (1099511627776<=bW d)) ((0,0,0,yf)=AT a b/\5=tV a b) (XR (HB d)/\bW (HB d)<1099511627776/\p8 []/\p8 []/\ ∀ e f g h i j k l m,(e,f,g,h,i,j,k,l,m)=fR (HB d) [] []-> ∃ n o,M5 n b a o/\bZ n c/\ap (c -1)=n/\uK
 ((0:Int)=(0:Int)) (e=bW o/\f=ke o/\g=fh o/\i=gJ o/\h=ct o/\j=gn o/\k=oT o/\l=iI o/\J (m=ju o)))) (HB d=AT a b/\0=tV a b)):= by
  delta ap aq aH bN aK bh bp br bZ am bw bo J nG yf HB da M5 av kx uK
  rintro c n-⟨g,ho⟩
  (repeat (refine cG ?_;repeat refine cH ?_))
  refine rI (λh=>?_) (λl m=>⟨g.cp,?_⟩)
  .have e:tV c n=1:=by
    unfold tV
    simp_all
   unfold AT
   rw[e]
   exact⟨rfl,rfl⟩
  .have l:=bg l
   have m:=bg m
   refine⟨⟨n,c,⟨Y,Y,Y,?_⟩,aI⟩,?_⟩
   .rw[show max 0 n-n=0 by omega];rfl
   rintro r b ⟨r0,r1,r2,rfl⟩
   obtain⟨hb,hnow,-⟩:=g.runs (M (max 0 n-r))
   have i:=XR.runs ⟨g,ho⟩ (M (max 0 n-r))
   generalize f:fZ (M (max 0 n-r)) c=b at *
   refine ay (λa=>ay (λj=>?_) (λj=>?_)) (λa=>?_)
   .have a:=aX a
    have e:tV c n=5:=by
     unfold tV
     grind
    unfold AT
    rw[e]
    exact⟨rfl,rfl⟩
   .have a:=aX a
    have j:=bg j
    refine⟨i,by show bW b<_;omega,sQ,sQ,?_⟩
    rintro o p q s t u v w y k
    have k:((o,p,q,s,t,u,v,w,y):cA)=fR b [] []:=k
    have e2:fZ (M (max 0 n-(r-1))) c=fR b [] []:=by
     rw[← f,show M (max 0 n-(r-1))=M (max 0 n-r)+1 by omega,zP]
    refine⟨r-1,(o,p,q,s,t,u,v,w,y),⟨Y,Y,Y,?_⟩,Y,aI⟩
    rw[e2,k]
   .have a:=bg a
    have hr:r=0:=Y
    subst hr
    have e:tV c n=0:=by
     unfold tV
     grind
    unfold AT
    rw[e,ao rfl]
    refine⟨?_,rfl⟩
    rw[← f,show M (max 0 n-0)=M n by omega]
    rfl
theorem aL9:aB 18 ao0.spec:=aG Tryz.func18 (C (C aC P2) (Ct.named Zk)) cf0 b82
def T8:Cn:=⟨[.box 86 iA,.val cI],[.own 127 tA],λd=>[bX d.1,0<=d.2.1,d.2.1<=1000],λd y=>bX y.2.1/\(V y.1.1:Int)<=d.2.1∧∀ f∈y.1.1,0<=f.2.2/\f.2.2<=1,λd h=>⟨(([],()),(d.1,())),h.1,by simp;exact h.2.1,by simp⟩⟩
def aC0:bG T8.ps->bL:=(λd=>{loops:=(bz 3 (λS=>{ι:=Int×cr4×(List fC),qn:=ot,μ:=λi=>M i.1,inv:=λi=>0<=i.1/\bX i.2.1/\V i.2.2+i.1<=d.2.1∧∀ f∈i.2.2,0<=f.2.2/\f.2.2<=1,keep:=[0,4],slots:=λi=>[(5,.own 524288 3),(6,.int .i64 i.1)],names:=λi=>[(1048576,.live (.cells 86 (cS iA i.2.1))),(524288,.live (.row 127 tA i.2.2))]}) cm)})
def EI(a:List fC):=∀(b:fC),b∈a->aF b.2.2 1
def Hy(a b c:Int):=[(cs7 (a=3),b,ap (cB9 c 6))]
def Sn(a:Nat)(b c d:Int)(e:Z)(f:Int)(g:List fC):=bR (a*24)/\ ∃(h:Int) (i:bj) (j:List fC),am h (bX i) (O j+h<=b/\EI j)/\bZ h c/\d=h/\e=i.1/\f=i.2/\J (g=j)
theorem bi8:
 ∀ a b c,rB a b c->bX (a,b)/\aF c 1000->bX (a,b)/\ ∀ d e f,am d (d<aA c∨d=0) (bX (e,f))->(∃ g h i,am g (bX h) (O i+g<=c/\EI i)/\d=g/\e=h.1/\f=h.2/\J (i=[]))/\ ∀ g h i,am g (bX h) (O i+g<=c/\EI i)->au (av 0 g) (bX h/\ ∀ j,BU j (j<4∨j=0) (∀ k,BU k (k<4∨k=0) (∀ l m n,am l (l<8∨l=0) (bX (m,n))->(6:Int)≠(0:Int)/\bX (m,n)/\ ∀ o p q,am o (o<40∨o=0) (bX (p,q))->au (cs7 (o=39)) (bX (p,q)/\ ∀ r s t,bX (s,t)/\aq r->Sn (V i+V (Hy j r l)) c g (ap (g -1)) s t (i++Hy j r l)) (Sn (V i+V (Hy j k l)) c g (ap (g -1)) p q (i++Hy j k l))))) (bX h/\O i<=c/\ ∀ j,j∈i->aF j.2.2 1):= by
  delta O ap aq aH aM bZ am bR aA J BU EI av Hy rB Sn aF
  rintro l p n-⟨hc,n0,n1⟩
  refine⟨hc,?_⟩
  rintro k l2 p2 ⟨k0,k1,hc2⟩
  rw[aJ Y Y] at k1
  refine⟨⟨k,(l2,p2),[],⟨k0,hc2,by simp only[List.length_nil];omega,aw⟩,aI⟩,?_⟩
  rintro k c b ⟨k0,hc,hb,hf⟩
  refine ay (λh=>⟨hc,?_⟩) (λh=>⟨hc,Y,hf⟩)
  have h:=aX h
  rintro x l3 p3 ⟨-,-,hc3⟩
  refine⟨hc3,?_⟩
  rintro y l4 p4 ⟨-,-,hc4⟩
  refine⟨hc4,?_⟩
  rintro z l5 p5 ⟨z0,z1,hc5⟩
  refine⟨aD,hc5,?_⟩
  rintro u l6 p6 ⟨-,-,hc6⟩
  have ez:cB9 z 6=z/6:=FJ z0
  rw[ez,aJ (n:=z/6) Y Y]
  have hf':∀ d,∀ f∈b++[(cs7 (x=3),d,z/6)],0<=f.2.2/\f.2.2<=1:=λd f hff=>by
   obtain q|q:=dX.1 hff
   .exact hf f q
   .rw[iV.1 q];show 0<=z/6/\z/6<=1;omega
  refine ay (λ_=>⟨hc6,?_⟩) (λ_=>?_)
  .rintro w l7 p7 ⟨hc7,-⟩
   exact⟨by simp only[fq];omega,k-1,(l7,p7),_,⟨Y,hc7,by rw[cw,fq];omega,hf' _⟩,Y,aI⟩
  .exact⟨by simp only[fq];omega,k-1,(l6,p6),_,⟨Y,hc6,by rw[cw,fq];omega,hf' _⟩,Y,aI⟩
theorem b64:aB 47 T8.spec:=jV Tryz.func47 (C (C aC QX) aS7) aC0 bi8
def U4:Cn:=⟨[.box 86 iA,.val cI],[.val (.sl tA)],λd=>[bX d.1,0<=d.2.1,d.2.1<=1000],λd y=>bX y.2.1/\(V y.1.1:Int)<=d.2.1/\qc y.1.1=cs8,λd h=>⟨(([],()),(d.1,())),h.1,by simp;exact h.2.1,rfl⟩⟩
def bL5:bG U4.ps->bL:=(λd=>{loops:=(bz 3 (λS=>{ι:=Int×(List fC),qn:=fE,μ:=λi=>M (1000-i.1),inv:=λi=>0<=i.1/\i.1<=V i.2/\(V i.2:Int)<=d.2.1/\(∀ f∈i.2,0<=f.2.2/\f.2.2<=1)∧∀ f∈i.2.take (M i.1),ra f=cs8,keep:=[0,4],slots:=λi=>[(5,.own 524288 3),(6,.int .i64 i.1)],keepN:=[1048576],names:=λi=>[(524288,.live (.row 127 tA i.2))]}) cm)})
def J7(a:Int)(b:List fC)(c:Int):=bo a (O b) (O b<=c) (EI b/\ ∀(d:fC),d∈take (M a) b->ra d)
theorem aW1:
 ∀ a b c,rB a b c->bX (a,b)/\aF c 1000->bX (a,b)/\am c (c<=1000) (∀ d e f,(bX (e,f)/\O d<=c/\ ∀ g,g∈d->aF g.2.2 1)->(∃ g h,J7 g h c/\0=g/\e=e/\f=f/\J (d=h))/\ ∀ g h,J7 g h c->eh g (O h) (g<O h) ((6:Int)≠(0:Int)/\am g (g<O h) (∃ i j,J7 i j c/\bi 1000 i g/\aA g=i/\e=e/\f=f/\J (List.set h (M g) ((N h g).1,Ar (N h g).2.1 6,(N h g).2.2)=j))) (bX (e,f)) (O h<=c/\qc h)):= by
  delta N O ap aq aH aM bi bZ am bo eh aA J EI av J7 rB aF
  rintro l p n-⟨hc,n0,n1⟩
  refine⟨hc,n0,n1,?_⟩
  rintro fs l2 p2 ⟨hc2,hl,hf⟩
  refine⟨⟨0,fs,⟨Y,Y,hl,hf,aw⟩,aI⟩,?_⟩
  rintro i l ⟨i0,i1,hl,hf,hk⟩
  refine bT (λh=>?_) (λh=>?_)
  .have hg:=hf _ (cW (xs:=l) i0 h)
   have hm:0<=Ar (T l (M i) cs5).2.1 6/\Ar (T l (M i) cs5).2.1 6<=5:=by
    unfold Ar
    generalize (T l (M i) cs5).2.1=x
    have h1 : -6<x.tmod 6/\x.tmod 6<6:=⟨by have:=Int.lt_tmod_of_pos x (show (0:Int)<6 by omega);omega,Int.tmod_lt_of_pos x Y⟩
    rw[aJ Y Y,Hn Y]
    omega
   have hset:∀ f∈l.set (M i) ((T l (M i) cs5).1,Ar (T l (M i) cs5).2.1 6,(T l (M i) cs5).2.2),f∈l∨f=((T l (M i) cs5).1,Ar (T l (M i) cs5).2.1 6,(T l (M i) cs5).2.2):=λf hff=>AL hff
   refine⟨i0,h,aD,i0,h,i+1,l.set (M i) ((T l (M i) cs5).1,Ar (T l (M i) cs5).2.1 6,(T l (M i) cs5).2.2),⟨Y,by rw[f5];omega,by rw[f5];exact hl,λf hff=>?_,λf hff=>?_⟩,Y,aI⟩
   .obtain q|q:=hset f hff
    .exact hf f q
    .rw[q];exact hg
   .rw[nq i0 (by rw[f5];exact h),kW Y,List.take_set_of_le (dq _)] at hff
    obtain q|q:=dX.1 hff
    .exact hk f q
    .rw[iV.1 q]
     exact f7 ⟨hm.1,cJ4 hm.2 aD,hg.1,cJ4 hg.2 aD⟩
  .rw[gE Y] at hk
   exact⟨hc2,hl,cz6.2 hk⟩
theorem a26:aB 15 U4.spec:=jV Tryz.func15 (C (C aC b64) co6) bL5 aW1
def o6(g:bg4):List bv:=g.flatMap λb=>(rV b).2.2.2.2.2
def wZ(g:bg4)(k:Z)(j:Int)(c:jn):Prop :=
 (j=0/\c=(0,0,0,[])∧∃ i r ls,(0<=i/\i<=15)/\(0<=r/\r<=63)/\za k (zf i r k) ls/\g <+: uu i r k::pW k (zf i r k) ls)∨∃ ls,za k c ls/\g.drop (M j) <+: pW k c ls
variable{j:Int}
theorem UQ(h0:0<=j)(hj:j<V g):g.drop (M j)=T g (M j) cs5::g.drop (M (j+1)):=by
 have h:M j<V g:=Y
 rw[sM h,cK,cT h,show M (j+1)=M j+1 by omega];rfl
variable{k:Z}
theorem wZ.step{c}(h:wZ g k j c)(d:0<=j)(f:j<V g) :
  ∃ i r e w l,iT i r e w l/\T g (M j) cs5=dH i r e w l k/\Fv c i r e w l/\wZ g k (j+1) (i,r,c.2.2.1+V l,pA (dH i r e w l k)):=by
 obtain⟨rfl,rfl,i,r,ls,hi,hr,b,a⟩|⟨ls,b,a⟩:=h
 .have e:=UQ d f;rw[show g.drop (M (0:Int))=g from rfl] at e;rw[e,cP6] at a;exact⟨i,r,0,FY,[],EF hi hr,a.1,.inl ⟨rfl,rfl,rfl,rfl⟩,.inr ⟨ls,b,a.2⟩⟩
 .rw[UQ d f] at a;cases ls with
  | nil=>cases List.prefix_nil.1 a
  | cons l ls =>
   rw[pW,cP6] at a;exact⟨c.1,c.2.1,c.2.2.1,c.2.2.2,l,b.1.s,a.1,.inr ⟨rfl,rfl,b.1⟩,.inr ⟨ls,b.2,a.2⟩⟩
theorem bk5(h0:0<=j)(hj:j<V g):o6 (g.take (M (j+1)))=o6 (g.take (M j))++(rV (T g (M j) cs5)).2.2.2.2.2:=by
 unfold o6
 rw[nq h0 hj,List.flatMap_append,List.flatMap_singleton]
theorem af8{k}:∀{ls:List (List bv)}{c:jn},za k c ls->o6 (pW k c ls)=ls.flatten
 | [],_,_=>rfl
 | l::ls,c,h=>by
  have:=af8 h.2;unfold o6 at this ⊢;rw[pW,cz0,this,h.1.s.parts k,List.flatten_cons]
variable{l:List bv}{a:bg4}
theorem Bp.rd(h:Bp k l a)(hR:wV l)(b:g <+: a):wZ g k 0 (0,0,0,[])/\o6 g <+: l/\(V g=V a->o6 g=l):=by
 have ⟨x,ls,w⟩:=h
 have ⟨c,r2⟩:=hR.rng
 have e:=w.tk
 rw[cz4] at e
 have d:o6 a=l:=by
  have q:=af8 w.jr;rw[w.gs];unfold o6 at q ⊢;rw[cz0,q,show (rV (uu (iL l) (rL l) k)).2.2.2.2.2=[] from dL (λx=>x.2.2.2.2.2) ((EF c r2).parts k)];exact e.symm
 refine⟨.inl ⟨rfl,rfl,_,_,ls,c,r2,w.jr,by rw[w.gs] at b;exact b⟩,?_,λhl=>by rw[b.eq_of_length hl,d]⟩
 obtain⟨t,rfl⟩:=b
 rw[← d]
 unfold o6
 simp_all
theorem V9{k}:∀{ls:List (List bv)}{c:jn},za k c ls→∀ b∈pW k c ls,V b<=2441
 | l::ls,c,h,b,a=>by
  rcases dm.1 a with rfl|a
  .have:=h.1.s.len (k:=k);have:=h.1.s.n;omega
  .exact V9 h.2 b a
theorem Bp.each{e}(h:Bp k l e)(f:wV l):V e<=217∧∀ b∈e,V b<=2441:=by
 have ⟨x,ls,w⟩:=h
 have ⟨r1,r2⟩:=f.rng
 have h2:=w.ml
 have hn:=f.n
 have hl:∀(c:jn)(ls:List (List bv)),V (pW k c ls)=V ls:=by
  intro c ls
  induction ls generalizing c with
  | nil=>rfl
  | cons a ls ih=>rw[pW,fa,ih,fa]
 refine⟨by rw[w.gs,fa,hl];omega,λb d=>?_⟩
 rw[w.gs] at d
 obtain rfl|d:=dm.1 d
 .have:V (uu (iL l) (rL l) k)=73:=(EF r1 r2).len;omega
 .exact V9 w.jr b d
theorem Qu.i0(h:Qu l):wV l:=by
 refine⟨h.n,h.ok,λj hj=>?_⟩
 have ⟨a,b,c⟩:=h.i j hj
 obtain⟨a0,b0,-⟩:=h.i 0 Y
 exact⟨by unfold iL;rw[a,a0],by unfold rL;rw[b,b0],c⟩
theorem XI.pre{c}(h:XI c)(hl:ct c <+: a):gn c <+: a:=by
 have g:=h.rc.g
 grind
def XO:Cn:=⟨[.box 86 iA,.val cI],[.val (.sl bc)],λd=>[bf d.1,0<=d.2.1,d.2.1<=64],λd y=>bf y.2.1/\(V y.1.1:Int)<=d.2.1,λd h=>⟨(([],()),(d.1,())),h.1,by simp;exact h.2.1⟩⟩
def a00:bG XO.ps->bL:=(λd=>{loops:=(bz 3 (λS=>{ι:=Int×cr4×Z,qn:=ot,μ:=λi=>M i.1,inv:=λi=>0<=i.1/\bf i.2.1/\V i.2.2+i.1<=d.2.1,keep:=[0,4],slots:=λi=>[(5,.own 524288 1),(6,.int .i64 i.1)],names:=λi=>[(1048576,.live (.cells 86 (cS iA i.2.1))),(524288,.live (.row 5 bc i.2.2))]}) cm)})
theorem b38:
 ∀ a b c,rB a b c->bf (a,b)/\aF c 64->bf (a,b)/\ ∀ d e f,am d (d<aA c∨d=0) (bf (e,f))->(∃(g:Int) (h:bj) (i:Z),am g (bf h) (O i+g<=c)/\d=g/\e=h.1/\f=h.2/\J (i=[]))/\ ∀ g h i,am g (bf h) (O i+g<=c)->au (av 0 g) (bf h/\ ∀ j k l,am j (j<256∨j=0) (bf (k,l))->gb i (bI (ct1 cw0 j))/\ ∃ m n o,am m (bf n) (O o+m<=c)/\bZ m g/\ap (g -1)=m/\k=n.1/\l=n.2/\J (i++bI (ct1 cw0 j)=o)) (bf h/\O i<=c):= by
  delta O ap aq aH aM bZ am gb bR aA J bI av rB aF
  rintro l p n-⟨a,n0,n1⟩
  refine⟨a,?_⟩
  rintro k l2 p2 ⟨f,k1,d⟩
  rw[aJ Y Y] at k1
  refine⟨⟨k,(l2,p2),[],⟨f,d,by simp;omega⟩,aI⟩,?_⟩
  rintro k c b ⟨f,a,hb⟩
  refine ay (λh=>⟨a,?_⟩) (λh=>⟨a,Y⟩)
  have h:=aX h
  rintro x l3 p3 ⟨-,-,e⟩
  exact⟨by simp;omega,k-1,(l3,p3),b++[ct1 cw0 x],⟨Y,e,by rw[cw,fq];omega⟩,Y,aI⟩
theorem aP8:aB 9 XO.spec:=jV Tryz.func9 (C aC CS) a00 b38
def XG:Ct:=⟨[.val (.sl j9),.val (.sl j9)],[.val .bool],λd=>[d.1=d.2.1],λd=>((cs8,()),())⟩
def bL8:bG XG.ps->bL:=(λd=>{loops:=(bz 4 (λS=>{ι:=Int,μ:=λi=>M (V d.1-i),inv:=λi=>0<=i/\i<=V d.1,keep:=[0,1,2,3],slots:=λi=>[(5,.int .i64 i)]}) cm)})
theorem cb4:
 ∀ a b,vZ a/\J (vZ b)->a=b->au (db (O a) (O b)) ct2 ((∃ c,aF c (O a)/\a=a/\b=b/\J (0=c))/\ ∀ c,aF c (O a)->au (av c (O a)) (am c (c<O a) (gP c (O b) ( !vt (N a c).1 (N b c).1 (N a c).2.1 (N b c).2.1 (cs7 ((N a c).2.2.1=(N b c).2.2.1)) (vt (N a c).2.2.2.1 (N b c).2.2.2.1 (N a c).2.2.2.2.1 (N b c).2.2.2.2.1 (cs7 ((N a c).2.2.2.2.2.1=(N b c).2.2.2.2.2.1)) (vt (N a c).2.2.2.2.2.2.1 (N b c).2.2.2.2.2.2.1 (N a c).2.2.2.2.2.2.2.1 (N b c).2.2.2.2.2.2.2.1 (BEq.beq (N a c).2.2.2.2.2.2.2.2.1 (N b c).2.2.2.2.2.2.2.2.1) (BEq.beq (N a c).2.2.2.2.2.2.2.2.2.1 (N b c).2.2.2.2.2.2.2.2.2.1&&(cs7 ((N a c).2.2.2.2.2.2.2.2.2.2.1=(N b c).2.2.2.2.2.2.2.2.2.2.1)&&(vt (N a c).2.2.2.2.2.2.2.2.2.2.2.1 (N b c).2.2.2.2.2.2.2.2.2.2.2.1 (N a c).2.2.2.2.2.2.2.2.2.2.2.2.1 (N b
 c).2.2.2.2.2.2.2.2.2.2.2.2.1 (cs7 ((N a c).2.2.2.2.2.2.2.2.2.2.2.2.2.1=(N b c).2.2.2.2.2.2.2.2.2.2.2.2.2.1)) (vt (N a c).2.2.2.2.2.2.2.2.2.2.2.2.2.2.1 (N b c).2.2.2.2.2.2.2.2.2.2.2.2.2.2.1 (N a c).2.2.2.2.2.2.2.2.2.2.2.2.2.2.2.1 (N b c).2.2.2.2.2.2.2.2.2.2.2.2.2.2.2.1 (cs7 ((N a c).2.2.2.2.2.2.2.2.2.2.2.2.2.2.2.2=(N b c).2.2.2.2.2.2.2.2.2.2.2.2.2.2.2.2)) cs8)&&cs8)))))) ct2 (∃ d,rW d (O a) c (a=a) (b=b/\J (aA c=d))))) cs8):= by
  delta N O ap bi bZ am aA J vt vZ av db rW aF gP
  rintro l m ⟨⟨hl,-⟩,-⟩ h
  subst h
  simp only[cu5] at hl
  rw[f7 rfl]
  refine lP.2 ⟨⟨0,⟨Y,Y⟩,aI⟩,?_⟩
  rintro i ⟨a,i1⟩
  refine ay (λhi=>?_) (λ_=>rfl)
  have hi:=aX hi
  refine⟨a,hi,a,hi,?_⟩
  simp only[decide_true,beq_self_eq_true,Bool.and_self,Bool.not_true]
  exact lP.2 ⟨i+1,⟨Y,Y⟩,Y,aI⟩
theorem Yw:aB 21 XG.spec:=aG Tryz.func21 aC bL8 cb4
def a27:Ct:=⟨[.val (.sl j9),.val (.sl j9)],[.val .bool],λd=>[d.1 <+: d.2.1],λd=>((cs8,()),())⟩
theorem be9:
 ∀ a b,vZ a/\J (vZ b)->(∃ c,a++c=b)-> ∀ c,c=cs7 (O a<=O b)->cB c c ((c->c)/\(c->c)/\bo 0 (O a) (O a<=O b) True) (c->(c->c)/\(c->c)/\J (a=cZ b 0 (M (O a)))) ((c->c)/\br c ct2):= by
  delta O aK cB br am bo J vZ
  rintro l m ⟨⟨hl,-⟩,⟨hm,-⟩,-⟩ h
  have h2:l=cZ m 0 (M ((V l:Int))):=by rw[cv6];exact List.prefix_iff_eq_take.1 h
  grind
theorem bq5:aB 16 a27.spec:=aG Tryz.func16 (C aC Yw) aS be9
def aq8:Ct:=⟨[.val (.sl (.sl bc)),.val (.sl bc)],[.val (.sl j9)],λd=>[wZ d.1 d.2.1 0 (0,0,0,[]),V d.1<=1024,V d.2.1<=64],λd=>((o6 d.1,()),())⟩
def aL1:bG aq8.ps->bL:=(λd=>{loops:=(bz 4 (λS=>{ι:=Int×(List bv)×cr7,qn:=ot,μ:=λi=>M (V d.1-i.1),inv:=λi=>0<=i.1/\i.1<=V d.1/\wZ d.1 d.2.1 i.1 i.2.2/\i.2.1=o6 (d.1.take (M i.1))/\(V i.2.1:Int)<=64*i.1,keep:=[0,1,5],slots:=λi=>[(6,.own 524288 17),(7,.int .i64 i.1)],names:=λi=>[(96,.live (.cells 117 (cS wX i.2.2))),(524288,.live (.row 84 j9 i.2.1))]}) cm)})
def NB(a:Int)(b:bg4)(c:Z)(d:jn)(e:List bv):=bo a (O b) (wZ b c a d) (e=o6 (take (M a) b)/\O e<=64*a)
theorem aA7:
 ∀ a b,uk a/\J (aM b)->wZ a b 0 (0,0,fA)/\V a<=1024/\me b->(∃ c d e,NB c a b e d/\a=a/\b=b/\0=c/\0=e.1/\0=e.2.1/\0=e.2.2.1/\e.2.2.2=[]/\J (d=[]))/\ ∀ c d e,NB c a b e d->au (av c (O a)) (bP c (O a) (NK (N a c) b e) (me b/\ ∀ f g h i j k,(f,g,h,i)=HU (N a c) e.2.2.1/\j=wS (N a c) (M (bM (N a c) 8 1))/\k=0->au ( !aY k) (d=o6 a) (bR ((V d+V j)*128)/\ ∃ l m n,NB l a b n m/\bi (O a) l c/\a=a/\b=b/\aA c=l/\f=n.1/\g=n.2.1/\h=n.2.2.1/\i=n.2.2.2/\J (d++j=m)))) (d=o6 a):= by
  delta N O ap aM bi bZ am bR aY bo aA J fA uk HU av bP me NK NB aF
  rintro g key ⟨⟨-,-⟩,-⟩⟨h0,hl,hk⟩
  refine⟨⟨0,[],(0,0,0,[]),⟨Y,Y,h0,rfl,aD⟩,aI⟩,?_⟩
  rintro i l c ⟨d,i1,hR,rfl,hn⟩
  refine bT (λq=>?_) (λq=>?_)
  .have ⟨a,r,e,w,x,f,o,h,j⟩:=hR.step d q
   have k:=bk5 d q
   have b:=f.parts key
   rw[o] at k
   rw[o]
   refine⟨d,q,⟨a,r,e,w,x,f,rfl,h⟩,hk,?_⟩
   rintro c1 c2 c3 c4 z y ⟨p,m,rfl⟩
   rw[b] at k
   unfold rV at b
   have s:=dL (λx=>x.1) b
   have t:=dL (λx=>x.2.1) b
   have u:=dL (λx=>x.2.2.2.1) b
   have v:=dL (λx=>x.2.2.2.2.2) b
   simp only at s t u v
   rw[s,t,u] at p
   have m:=m.trans v
   subst m
   have hx:=f.n
   refine lP.2 ⟨Y,i+1,o6 (g.take (M i))++z,(c1,c2,c3,c4),⟨Y,Y,by rw[p];exact j,k.symm,by rw[cw];omega⟩,Y,aI⟩
  .rw[gE Y]
theorem bM1:aB 17 aq8.spec:=aG Tryz.func17 (C aC (Ct.named aX5)) aL1 aA7
def Z1:Ct:=Ho [(ct2,.sl bc)]
def bY3:bG Z1.ps->bL:=(λd=>{loops:=(bz 13 (λS=>{ι:=Int×Int×cr4×cA,qn:=HW,μ:=λi=>M (40-i.1),inv:=λi=>0<=i.1/\i.1<=40/\0<=i.2.1/\i.2.1<=V (S.l (.sl bc) 7)/\bX i.2.2.1/\XR i.2.2.2/\bW i.2.2.2<=i.1/\ct i.2.2.2=(S.l (.sl bc) 7).take (M i.2.1),keep:=[3,5,6,7,9],slots:=λi=>[(10,.int .i64 0),(11,.int .i64 i.2.1),(12,.int .i64 i.1)],keepN:=[96],names:=λi=>[(288,.live (.cells 86 (cS iA i.2.2.1))),(160,.live (.cells 56 (cS qW i.2.2.2)))]}) (bz 21 (λS=>{ι:=Int×cA,qn:=fE,μ:=λi=>M (V (S.l (.sl bc) 7)-i.1),inv:=λi=>0<=i.1/\i.1<=V (S.l (.sl bc) 7)/\XR i.2/\bW i.2<=40/\ct i.2=(S.l (.sl bc) 7).take (M i.1),keep:=[5,6,7,9],slots:=λi=>[(10,.int .i64 0),(11,.int .i64 i.1)],keepN:=[96],names:=λi=>[(160,.live (.cells 56 (cS qW i.2)))]}) cm)),cuts:=(bz 19 (λS=>{ι:=Int×Int×cr4×cA,qn:=HW,inv:=λi=>i.2.1=0/\0<=i.1/\i.1<=V (S.l (.sl bc) 7)/\bX i.2.2.1/\XR i.2.2.2/\bW i.2.2.2<=S.i 12+1/\ct i.2.2.2=(S.l (.sl bc) 7).take (M i.1),keep:=[3,5,6,7,9,12],slots:=λi=>[(10,.int .i64 i.2.1),(11,.int .i64 i.1)],keepN:=[96],names:=λi=>[(288,.live (.cells 86 (cS iA i.2.2.1))),(160,.live (.cells 56 (cS qW i.2.2.2)))]}) cm)})
def aj9(a:ar2)(b c:Prop):=a.2.2.1.1.2.2=a.2.2.1.1.2.2/\bh a.2.2.1.2.1 a.2.2.1.2.2.1 a.2.2.1.2.2.2.1 (a.2.2.1.2.2.2.2.1=a.2.2.1.2.2.2.2.1) (a.2.2.1.2.2.2.2.2.1=a.2.2.1.2.2.2.2.2.1/\a.2.2.1.2.2.2.2.2.2.1=a.2.2.1.2.2.2.2.2.2.1/\a.2.2.1.2.2.2.2.2.2.2.1=a.2.2.1.2.2.2.2.2.2.2.1/\a.2.2.1.2.2.2.2.2.2.2.2=a.2.2.1.2.2.2.2.2.2.2.2/\b/\c)
def Fw(a:Int×Int×Int×List Z×Int×List Z×List bL9×List cO×List cO)(b:cA):=a.1=b.1/\a.2.1=b.2.1/\a.2.2.1=b.2.2.1/\a.2.2.2.1=b.2.2.2.1/\a.2.2.2.2.1=b.2.2.2.2.1/\a.2.2.2.2.2.1=b.2.2.2.2.2.1/\a.2.2.2.2.2.2.1=b.2.2.2.2.2.2.1/\a.2.2.2.2.2.2.2.1=b.2.2.2.2.2.2.2.1/\J (a.2.2.2.2.2.2.2.2=b.2.2.2.2.2.2.2.2)
def Nx(a:ar2)(b c:Prop):=a.1=a.1/\a.2.1=a.2.1/\a.2.2.1.1.1=a.2.2.1.1.1/\a.2.2.1.1.2.1=a.2.2.1.1.2.1/\aj9 a b c
def GK(a b:Int)(c:bg4)(d:bj)(e:cA)(f:Int):=a=0/\bo b (O c) (bX d) (XR e/\bW e<=f+1/\ct e=take (M b) c)
def EK(a:ar2)(b c:Prop):=Nx a (a.2.2.2=a.2.2.2) (b/\c)
def TX(a:cA)(b:bg4)(c:Int)(d:Z)(e:Int)(f:ar2):=am 5 ((5:Int)<=(1000:Int)) (∀(g:bh5)(h:Z)(i:Int),bX (h,i)/\O g<=5/\qc g->bX (h,i)/\am 2 ((2:Int)<=(1000:Int)) (∀(j:bh5)(k:Z)(l:Int),bX (k,l)/\O j<=2/\qc j->XR a/\ ∀(m:Int×Int×Int×List Z×Int×List Z×List bL9×List cO×List cO)(n:Int),m=zN a g j/\n=sF a g j-> ∃(o p:Int) (q:bj) (r:cA),GK p o b q r c/\d=d/\b=b/\n=p/\e=o/\c=c/\EK f (k=q.1) (l=q.2/\Fw m r)))
def OK(a b:cA):=a.1=b.1/\a.2.1=b.2.1/\a.2.2.1=b.2.2.1/\a.2.2.2.1=b.2.2.2.1/\a.2.2.2.2.1=b.2.2.2.2.1/\a.2.2.2.2.2.1=b.2.2.2.2.2.1/\a.2.2.2.2.2.2.1=b.2.2.2.2.2.2.1/\a.2.2.2.2.2.2.2.1=b.2.2.2.2.2.2.2.1/\J (a.2.2.2.2.2.2.2.2=b.2.2.2.2.2.2.2.2)
def Mi(a b:Int)(c:bg4)(d:bj)(e:cA):=am a (a<=40) (bo b (O c) (bX d) (XR e/\bW e<=a/\ct e=take (M b) c))
def Jy(a:Int)(b:bg4)(c:cA):=bo a (O b) (XR c) (bW c<=40/\ct c=take (M a) b)
theorem co3:
 ∀(a:Z),dN (aM a) ((0:Int)<=(700:Int)/\ ∀(b:Z)(c:Int),(b,c)=(if O a<=700 then a else take 700 a,(0:Int))->bX (b,c)/\ ∀(d:List ar)(e:List bu)(f:List cJ)(g:Z)(h:Int),(d,e,f)=vl cs8 (b,c)/\(g,h)=DE cs8 (b,c)->bf (g,h)/\(jp (d,e,f)).2/16777216=10/\ ∀(i:List fW)(j k:Int)(l:Z)(m:Int),mT (i,j,k)/\bf (l,m)->xM (d,e,f)/\mT (i,j,k)/\(1:Int)<=(500:Int)/\(500:Int)<=(20000:Int)/\ ∀(n:List cr2×Z×(cf4×Int×Int×Int×List cs3×Z×List (Int×Int×Int×Int×Int×Z)×List (Int×Int×Z)×List
 (Int×Int×Int×Int×Int))×Bool),n=rx (d,e,f) (i,j,k) 500->bf (l,m)/\am 6 ((6:Int)<=(64:Int)) (∀(o p:Z)(q:Int),bf (p,q)/\O o<=6->bf (p,q)/\wV n.1/\me o/\ ∀(r:bg4)(s:Bool)(t:Z)(u:Int),Bp o n.1 r/\s/\bf (t,u)->nG ( !n.2.2.2) ( !s) ct2 (bX (t,u)/\ ∀(v:Int)(w:Z)(x:Int),am v (v<5∨v=0) (bX (w,x))-> ∀(y:Int×Int×Int×List Z×Int×List Z×List bL9×List cO×List cO)(z:Int),y=Gu (ap (1+v))/\z=yN (ap (1+v))->(∃(A B:Int) (S:bj) (D:cA),Mi A B r S D/\o=o/\r=r/\z=0/\0=B/\0=A/\EK n (w=S.1) (x=S.2/\Fw y D))/\ ∀(A B:Int)(S:bj)(D:cA),Mi A B r S D->AS (av A 40) (cs7 ((0:Int)=(0:Int))) ((∀(E:Bool),E=av B (O r)->pK E E (bX S) (∀(F:Int)(G:Z)(H:Int),am F (F<2∨F=0) (bX (G,H))->(E->E)/\au (bq E (aY F)) (bP B (O r) (XR D) (∀(P:Int×Int×Int×List (List
 Int)×Int×List Z×List bL9×List cO×List cO)(Q:Int),P=Ai D (N r B)/\Q=yh D (N r B)-> ∃(K L:Int) (R:bj) (U:cA),GK L K r R U A/\o=o/\r=r/\Q=L/\aA B=K/\A=A/\EK n (G=R.1) (H=R.2/\Fw P U))) (bX (G,H)/\TX D r A o B n)) (E->ct2) (au (bq E ct2) (bP B (O r) (XR D) (∀(F:Int×Int×Int×List Z×Int×List Z×List bL9×List cO×List cO)(G:Int),F=Ai D (N r B)/\G=yh D (N r B)-> ∃(H P:Int) (Q:bj) (K:cA),GK P H r Q K A/\o=o/\r=r/\G=P/\aA B=H/\A=A/\EK n (S.1=Q.1) (S.2=Q.2/\Fw F K))) (bX S/\TX D r A o B n)))/\ ∀(E F:Int)(G:bj)(H:cA),GK F E r G H A-> ∀(P:Bool),P=( !aY F)->bN P/\( !P->( !P-> !P)/\( !P-> !P)/\wZ H.2.2.2.2.2.1 o 0 (0,0,fA)/\V H.2.2.2.2.2.1<=1024/\J (me o))/\bN P/\( !P->( !P-> !P)/\( !P-> !P)/\J (List.IsPrefix (o6 H.2.2.2.2.2.1)
 n.1))/\kx P (br P ( !cs8)) ct2 (∃(Q K:Int) (L:bj) (R:cA),Mi Q K r L R/\bi 40 Q A/\o=o/\r=r/\F=0/\E=K/\aA A=Q/\EK n (G.1=L.1) (G.2=L.2/\OK H R))) ((∃(E:Int) (F:cA),Jy E r F/\o=o/\r=r/\(0:Int)=(0:Int)/\B=E/\Nx n (n.2.2.2=n.2.2.2) (OK D F))/\ ∀(E:Int)(F:cA),Jy E r F->AS (av E (O r)) (cs7 ((0:Int)=(0:Int))) (bP E (O r) (XR F) (∀(G:Int×Int×Int×List Z×Int×List Z×List bL9×List cO×List cO)(H:Int),G=Ai F (N r E)/\H=yh F (N r E)-> ∃(P:Int) (Q:cA),Jy P r Q/\bi (O r) P E/\o=o/\r=r/\H=0/\aA E=P/\Nx n (n.2.2.2=n.2.2.2) (Fw G Q))) (XR F/\ ∀(G:Int×Int×Int×List Z×Int×List Z×List bL9×List cO×List cO)(H:Int),G=AT F (BK (O r) F.2.2.1)/\H=tV F (BK (O r) F.2.2.1)-> ∀(P:Bool),P=cs7 ((0:Int)=(0:Int))->(P->aK P)/\(P->P)/\
 ∀(Q:Bool),Q=bq P (aY H)->(Q->aK Q)/\(Q->Q)/\ ∀(K:Bool),K=bq Q (ED G)->cB K K ((K->K)/\(K->K)/\wZ G.2.2.2.2.2.1 o 0 (0,0,fA)/\V G.2.2.2.2.2.1<=1024/\J (me o)) (K->aK K) ((K->(K->K)/\(K->K)/\J (o6 G.2.2.2.2.2.1=n.1))/\(K->K)/\br K ct2)))))):= by
  delta N O ap aM bN aK bh bp aj9 cB br bi bq bZ Fw am bw Nx aY bo aA J TX nG fA OK AS pK GK av bP dN Mi kx me Jy EK aF
  rintro cl ⟨⟨-,hcw⟩,-⟩ -
  refine⟨aD,?_⟩
  rintro l0 p0 hc
  have hB:bf (l0,p0):=by rw[hc];exact bP2 hcw
  clear hc
  refine⟨hB.at',?_⟩
  have hdn:=PF hB cs8
  have hports:=λj=>YS hB cs8 (i:=j)
  have hcB:=bb5 hB cs8
  rintro ns ls hs l p ⟨hnet,hcod⟩
  rw[← hnet] at hdn hports
  rw[← hcod] at hcB
  clear hnet hcod
  have hN:xM (ns,ls,hs):=⟨hdn,hports⟩
  refine⟨hcB,Ye hN,?_⟩
  rintro ts b1 b2 l p ⟨hpl,hB⟩
  refine⟨hN,hpl,aD,aD,?_⟩
  rintro d hd
  have hu:∀ x∈ts,0<=x.1/\x.1<=4294967295:=λx hx=>by have h:x.1/16777216=10:=(hpl.2.1 x hx).1;omega
  have ⟨m1,m2⟩:=bf2 hN hpl hu (t:=500) ⟨aD,aD⟩
  rw[← hd] at m1 m2
  clear hd
  refine⟨hB,aD,aD,?_⟩
  rintro key l p ⟨hB,hk⟩
  have hR:=m2.i0
  refine⟨hB,hR,Y,?_⟩
  rintro sg ok u v ⟨hW,rfl,hB⟩
  have hC:=hB.at'
  have ⟨s1,s2⟩:=hW.each hR
  rintro q hq
  have hq:q=false:=by rw[hq,m1];rfl
  subst hq
  refine⟨λ_=>⟨λ_=>rfl,aQ⟩,λ_=>rfl,lP.2 ⟨hC,?_⟩⟩
  clear hC
  rintro a l3 p3 ⟨a0,a1,hC⟩
  rw[aJ (n:=1+a) Y Y]
  rintro h e ⟨hh,he⟩
  have hw:yN (1+a)=0:=I Y
  have hh:h=G7 (1+a):=by rw[hh];exact ao hw
  have he:=he.trans hw
  subst hh he
  refine⟨⟨0,0,(l3,p3),G7 (1+a),⟨Y,Y,Y,Y,hC,XR.new Y Y,fJ _,rfl⟩,aI⟩,?_⟩
  clear hC
  have push:∀{p:Int}{b:cA},0<=p->p<V sg->XR b->ct b=sg.take (M p)->yh b (T sg (M p) cs5)=0/\Ai b (T sg (M p) cs5)=Ce b (T sg (M p) cs5)/\XR (Ce b (T sg (M p) cs5))/\ct (Ce b (T sg (M p) cs5))=sg.take (M (p+1)):=by
   intro p b h0 h1 hx hl
   have hll:=dL V hl
   rw[fF] at hll
   have hi:=s2 _ (cW (xs:=sg) h0 h1)
   have e:yh b (T sg (M p) cs5)=0:=I Y
   exact⟨e,ao e,hx.push Y Y,by rw[nq h0 h1,← hl];rfl⟩
  have tick:∀{b:cA}{x y:List fC},XR b->bW b<=40->qc x=cs8->qc y=cs8->sF b x y=0/\zN b x y=fR b x y/\XR (fR b x y):=by
   intro b x y hx hn h1 h2
   have e:sF b x y=0:=by unfold sF;rw[h1,h2,I aD,I Y]
   exact⟨e,ao e,hx.tick (JE.1 h1) (JE.1 h2)⟩
  have rd:∀{b:cA},XR b->ct b <+: sg->wZ (gn b) key 0 (0,0,0,[])/\V (gn b)<=1024/\o6 (gn b) <+: d.1/\(V (gn b)=V sg->o6 (gn b)=d.1):=by
   intro b hx hl
   have hg:=hx.1.pre hl
   have ⟨r1,r2,r3⟩:=hW.rd hR hg
   have:=hg.length_le
   exact⟨r1,Y,r2,r3⟩
  rintro k p c b ⟨k0,k1,p0,p1,hC,hx,hn,hlg⟩
  rintro q hq
  refine⟨λz=>⟨λ_=>z,aQ⟩,λz=>z,?_⟩
  have e0:(bif q then cs7 ((0:Int)=0) else ct2)=q:=by cases q <;> rfl
  rw[e0]
  subst hq
  refine ay (λz=>?_) (λz=>?_)
  .have z:=aX z
   refine⟨?_,?_⟩
   .rintro y rfl
    refine ay (λhp=>⟨λ_=>hp,hC,?_⟩) (λhp=>⟨hp,λw=>(by rw[hp] at w;cases w),?_⟩)
    .have hp':=aX hp
     have ⟨f1,f2,f3,f4⟩:=push p0 hp' hx hlg
     rintro x u v ⟨x0,x1,hC⟩
     refine⟨λw=>w,ay (λ_=>⟨p0,hp',hx,?_⟩) (λ_=>⟨hC,aD,aD,?_⟩)⟩
     .rintro d2 e2 ⟨h1,h2⟩
      rw[f2] at h1
      rw[f1] at h2
      subst h1 h2
      exact⟨p+1,0,(u,v),Ce b (T sg (M p) cs5),⟨rfl,Y,Y,hC,f3,by show bW b<=k+1;omega,f4⟩,aI⟩
     .rintro xs u1 v1 ⟨hC,-,g1⟩
      refine⟨hC,aD,aD,?_⟩
      rintro ys u2 v2 ⟨hC,-,g2⟩
      refine⟨hx,?_⟩
      rintro d2 e2 ⟨h1,h2⟩
      have ⟨t1,t2,t3⟩:=tick hx Y g1 g2
      rw[t2] at h1
      rw[t1] at h2
      subst h1 h2
      exact⟨p,0,(u2,v2),fR b xs ys,⟨rfl,p0,p1,hC,t3,by show bW b+1<=k+1;omega,hlg⟩,aI⟩
    .rw[hp]
     refine lP.2 ⟨hC,aD,aD,?_⟩
     rintro xs u1 v1 ⟨hC,-,g1⟩
     refine⟨hC,aD,aD,?_⟩
     rintro ys u2 v2 ⟨hC,-,g2⟩
     refine⟨hx,?_⟩
     rintro d2 e2 ⟨h1,h2⟩
     have ⟨t1,t2,t3⟩:=tick hx Y g1 g2
     rw[t2] at h1
     rw[t1] at h2
     subst h1 h2
     exact⟨p,0,(u2,v2),fR b xs ys,⟨rfl,p0,p1,hC,t3,by show bW b+1<=k+1;omega,hlg⟩,aI⟩
   .rintro p e c y ⟨rfl,q0,q1,hC,hy,hyn,hyl⟩
    rintro r hr
    have hr:r=false:=hr.trans aD
    subst hr
    obtain⟨r1,r2,r3,-⟩:=rd hy (by rw[hyl];exact List.take_prefix ..)
    refine⟨λ_=>⟨λ_=>rfl,aQ⟩,λ_=>⟨λ_=>rfl,λ_=>rfl,r1,r2,Y,aQ⟩,λ_=>⟨λ_=>rfl,aQ⟩,λ_=>⟨λ_=>rfl,λ_=>rfl,r3,aQ⟩,λ_=>⟨λ_=>rfl,aQ⟩,λ_=>rfl,lP.2 ?_⟩
    exact⟨k+1,p,c,y,⟨Y,Y,q0,q1,hC,hy,hyn,hyl⟩,Y,aI⟩
  .have z:=bg z
   refine⟨⟨p,b,⟨p0,p1,hx,Y,hlg⟩,aI⟩,?_⟩
   clear hx hlg
   rintro p y ⟨p0,p1,hy,hyn,hyl⟩
   rintro q hq
   refine⟨λz=>⟨λ_=>z,aQ⟩,λz=>z,?_⟩
   have e1:(bif q then cs7 ((0:Int)=0) else ct2)=q:=by cases q <;> rfl
   rw[e1]
   subst hq
   refine bT (λz=>?_) (λz=>?_)
   .have ⟨f1,f2,f3,f4⟩:=push p0 z hy hyl
    refine⟨p0,z,hy,?_⟩
    rintro d2 e2 ⟨h1,h2⟩
    rw[f2] at h1
    rw[f1] at h2
    subst h1 h2
    exact⟨p+1,Ce y (T sg (M p) cs5),⟨Y,Y,f3,hyn,f4⟩,Y,aI⟩
   .have hl:ct y=sg:=by rw[hyl,gE Y]
    have hwin:=hy.1.win
    have hB:BK (V sg:Int) y.2.2.1=4*((V sg:Int)/fh y+2)+2000:=I (by show ¬ ((V sg:Int)<0∨1024<(V sg:Int)∨fh y<1∨64<fh y);omega)
    rw[hB]
    have q0:0<=(V sg:Int)/fh y:=cU5 Y Y
    have q1:(V sg:Int)/fh y<=V sg:=cT4 _ Y
    have q2:=Int.lt_ediv_add_one_mul_self (V sg:Int) (show 0<fh y by omega)
    generalize (V sg:Int)/fh y=q at *
    have hr:tV y (4*(q+2)+2000)=0:=by
     unfold tV
     rw[I Y,I Y]
    have hR2:AT y (4*(q+2)+2000)=fZ (M (4*(q+2)+2000)) y:=ao hr
    refine⟨hy,?_⟩
    rintro d2 e2 ⟨h1,h2⟩
    rw[hR2] at h1
    rw[hr] at h2
    subst h2
    have hm:(V (ct y):Int)<=((M (q+1):Nat):Int)*fh y:=by
     rw[cF2 Y,hl];omega
    obtain⟨r1,-,r3⟩:=aa9 hy.1 (n:=M (4*(q+2)+2000)) (m:=M (q+1)) hm Y
    obtain⟨-,-,xl,-⟩:=hy.1.runs (M (4*(q+2)+2000))
    have hxr:=hy.runs (M (4*(q+2)+2000))
    rw[← h1] at r1 r3 xl hxr
    obtain⟨w1,w2,-,w4⟩:=rd hxr (by rw[xl,hl];exact List.prefix_rfl)
    have w4:=w4 (by rw[r3,xl,hl])
    rintro b hb
    have hb:b=true:=hb.trans aD
    subst hb
    refine⟨λ_=>⟨λ_=>rfl,aQ⟩,λ_=>rfl,?_⟩
    rintro b hb
    have hb:b=true:=hb.trans aD
    subst hb
    refine⟨λ_=>⟨λ_=>rfl,aQ⟩,λ_=>rfl,?_⟩
    rintro b hb
    have hb:b=true:=by rw[hb,r1];rfl
    subst hb
    exact⟨λ_=>⟨λ_=>rfl,aQ⟩,λ_=>⟨λ_=>rfl,λ_=>rfl,w1,w2,Y,aQ⟩,λ_=>⟨λ_=>rfl,aQ⟩,λ_=>⟨λ_=>rfl,λ_=>rfl,w4,aQ⟩,λ_=>rfl,rfl⟩
theorem ok_top_TopReplicates:aB 3 Z1.spec:=aG Tryz.func3 (C (C (C (C (C (C (C (C (C (C (C (C (C (C (C (C (C (C aC bs3) (Ct.named VY)) QX) (Ct.named Xl)) cn0) (Ct.named ak2)) aP8) bj6) (Ct.named bG8)) (Ct.named aN5)) a26) (Ct.named cd2)) bM1) bq5) aY1) (Ct.named aL9)) a60) Yw) bY3 co3
end Go.RS
