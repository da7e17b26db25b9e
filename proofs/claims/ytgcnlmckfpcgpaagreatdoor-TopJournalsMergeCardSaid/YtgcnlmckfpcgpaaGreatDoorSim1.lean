/- Drawn: what holds of drawn networks: their nodes, links, routes and changes. -/
import Derived.Test.YtgcnlmckfpcgpaaGreatDoorNetdraw
import Derived.Test.YtgcnlmckfpcgpaaGreatDoorNetd
import Derived.Test.YtgcnlmckfpcgpaaGreatDoorSch
set_option maxRecDepth 100000
set_option linter.all false
open Int (toNat)
open List (length set replicate range)
open Bool renaming false->bZ6,true->bZ3
open Decidable renaming decide->bZ2
open Go.IntKind renaming i64->bZ4,wrap->bZ5
open Inhabited renaming default->Sk
open Int renaming tmod_lt_of_pos->cm8,tmod_nonneg->cl6,toNat->it,toNat_natCast->cb6
open List renaming all_eq_true->ci6,any_eq_true->cc5,drop_drop->cj8,findIdx_lt_length_of_exists->cn4,getD->Om,getD_cons_succ->cm4,getD_cons_zero->cu8,length->be,length_pos_of_mem->ch8,mem_flatMap->cy1,mem_iff_getElem->cb5,mem_map->cc1,mem_range->cd3,pairwise_append->cf0,pairwise_cons->ca4,pairwise_iff_getElem->cp8
open List.Pairwise renaming nil->ce6
namespace Go.RS
open Go.SX Go.Proofs
structure NP (i:Int) (x:au):Prop where
 own:UE x=1+i/3
 loop:kL x=0∨kL x=167903232+i
 src:(oQ x=1∨oQ x=2)∨(oQ x=3/\kL x=167903232+i)∨(oQ x=4/\167837696<=uV x)
 fix:uV x=0∨(167837696<=uV x/\uV x<167837736)
 id:(0<=vA x/\vA x<=5)/\(0<=p8 x/\p8 x<=65535)/\0<=Ef x/\Ef x<=1000000
 lim:mX x=(0,0)∨(1<=(mX x).1/\(mX x).1<=3/\1<=(mX x).2/\(mX x).2<=200)
 first:lK x=64∨lK x=255∨lK x=128
 seed:0<=I5 x/\I5 x<=255
theorem NP.new{i:Int}{host:Bool}{f sd:Int}(hf:f=64∨f=255∨f=128)(h0:0<=sd)(h1:sd<=255):NP i (wU i host f sd) :=
 ⟨rfl,.inl rfl,.inl (.inl rfl),.inl rfl,⟨⟨by show (0:Int)<=0;decide,by show (0:Int)<=5;decide⟩,⟨by show (0:Int)<=0;decide,by show (0:Int)<=65535;decide⟩,by show (0:Int)<=0;decide,by show (0:Int)<=1000000;decide⟩,.inl rfl,hf,h0,h1⟩
theorem NP.same{i:Int}{x y:au}(h:NP i x)(e:x.2=y.2):NP i y:=by
 have ⟨p,x⟩:=x
 have ⟨q,y⟩:=y
 cases e
 exact⟨h.own,h.loop,h.src,h.fix,h.id,h.lim,h.first,h.seed⟩
theorem NP.routes{i:Int}{x y:au}(h:NP i x)(e:Cz x []=Cz y []):NP i y:=by
 have k:NP i (Cz x []):=⟨h.own,h.loop,h.src,h.fix,h.id,h.lim,h.first,h.seed⟩
 rw[e] at k
 exact⟨k.own,k.loop,k.src,k.fix,k.id,k.lim,k.first,k.seed⟩
theorem NP.way{i:Int}{x:au}(h:NP i x){c:bh}(hc:aY c):NP i (ji x i c).1:=by
 have a:=fZ hc (n:=10) ab
 have ca:=(d7 hc 10).1
 have b:=fZ ca (n:=3) ab
 have cb:=(d7 ca 3).1
 have e:=fZ cb (n:=200) ab
 have f:=fZ ca (n:=40) ab
 unfold ji
 dsimp only
 split
 .exact⟨h.own,h.loop,h.src,h.fix,h.id,h.lim,h.first,h.seed⟩
 split
 .refine⟨h.own,h.loop,h.src,h.fix,h.id,.inr ?_,h.first,h.seed⟩;show 1<=1+_/\1+_<=(3:Int)/\1<=1+_/\1+_<=(200:Int)
  omega
 split
 .exact⟨h.own,h.loop,h.src,h.fix,h.id,h.lim,h.first,h.seed⟩
 split
 .exact⟨h.own,h.loop,.inl (.inr rfl),h.fix,h.id,h.lim,h.first,h.seed⟩
 split
 .exact⟨h.own,.inr rfl,.inr (.inl ⟨rfl,rfl⟩),h.fix,h.id,h.lim,h.first,h.seed⟩
 split
 .refine⟨h.own,h.loop,.inr (.inr ⟨rfl,?_⟩),.inr ⟨?_,?_⟩,h.id,h.lim,h.first,h.seed⟩
  .show 167837696<=167837696+_;omega
  .show 167837696<=167837696+_;omega
  .show 167837696+_<167837736;omega
 .exact h
theorem NP.od{i:Int}{x:au}(h:NP i x){c:bh}(hc:aY c):NP i (BQ x i c).1:=by
 have k:=h.way hc
 have kc:=Qd (x:=x) (i:=i) hc
 have a:=fZ kc (n:=6) ab
 have ca:=(d7 kc 6).1
 have b:=fZ ca (n:=65536) ab
 have cb:=(d7 ca 65536).1
 have e:=fZ cb (n:=1000) ab
 refine⟨k.own,k.loop,k.src,k.fix,?_,k.lim,k.first,k.seed⟩
 show (0<=(ay (ji x i c).2 6).1/\(ay (ji x i c).2 6).1<=5)/\(0<=(ay (ay (ji x i c).2 6).2 65536).1/\(ay (ay (ji x i c).2 6).2 65536).1<=65535)/\0<=(ay (ay (ay (ji x i c).2 6).2 65536).2 1000).1/\(ay (ay (ay (ji x i c).2 6).2 65536).2 1000).1<=1000000
 omega
theorem NP.opq{i:Int}{x:au}(h:NP i x)(b:Bool):NP i (Lt x b):=⟨h.own,h.loop,h.src,h.fix,h.id,h.lim,h.first,h.seed⟩
def wt(ns:List au):Prop:=∀ i:Nat,i<be ns->NP i (Om ns i Sk)
theorem wt.set{ns:List au}(h:wt ns){i:Nat}{x:au}(hx:i<be ns->NP i x):wt (ns.set i x):=λj hj=>by
 rw[gd] at hj
 by_cases e:i=j
 .subst e;rw[lH hj];exact hx hj
 .rw[pZ e];exact h j hj
structure LK (l0 l:ck):Prop where
 a:lA l=lA l0
 b:lB l=lB l0
 d:qI l=qI l0
 s:Am l=Am l0
 j:0<=mI l/\mI l<=9
 o:0<=vN l/\vN l<=65536
theorem LK.od{l0 l:ck}(h:LK l0 l){c:bh}(hc:aY c):LK l0 (odLink l c).1:=by
 have a:=fZ hc (n:=6) ab
 have ca:=(d7 hc 6).1
 have b:=fZ ca (n:=10) ab
 have e:=fZ ca (n:=3) ab
 unfold odLink
 dsimp only
 split
 .refine⟨h.a,h.b,h.d,h.s,?_,h.o⟩;show 0<=(ay (ay c 6).2 10).1/\(ay (ay c 6).2 10).1<=9;omega
 split
 .refine⟨h.a,h.b,h.d,h.s,h.j,?_⟩;show 0<=Om ([65536,20000,3]:ad) (ay (ay c 6).2 3).1.toNat Sk/\Om ([65536,20000,3]:ad) (ay (ay c 6).2 3).1.toNat Sk<=65536;obtain e|e|e:=(show (ay (ay c 6).2 3).1=0∨(ay (ay c 6).2 3).1=1∨(ay (ay c 6).2 3).1=2 by omega) <;> rw[e] <;> decide
 .exact h
structure sV (ls0 ls:List ck):Prop where
 n:be ls=be ls0
 k:∀ i:Nat,i<be ls0->LK (Om ls0 i Sk) (Om ls i Sk)
theorem sV.set{ls0 ls:List ck}(h:sV ls0 ls){i:Nat}{x:ck}(hx:i<be ls0->LK (Om ls0 i Sk) x):sV ls0 (ls.set i x):=by
 refine⟨by rw[gd];exact h.n,λj hj=>?_⟩
 by_cases e:i=j
 .subst e;rw[lH (by rw[h.n];exact hj)];exact hx hj
 .rw[pZ e];exact h.k j hj
theorem sV.mem{ls0 ls:List ck}(h:sV ls0 ls){l:ck}(hl:l∈ls):∃ l0∈ls0,LK l0 l:=by
 have ⟨i,hi,e⟩:=cb5.1 hl
 have:=h.k i (by rw[← h.n];exact hi)
 rw[cq (l:=ls),cG hi,e] at this
 exact⟨_,rP (by rw[← h.n];exact hi),this⟩
theorem sV.lnk{ls0 ls:List ck}(h:sV ls0 ls){i k:Int}(hk:lnk ls0 i k):lnk ls i k:=by
 have ⟨k0,k1,k2⟩:=hk
 have e:=h.k (it k) ab
 exact⟨k0,by rw[h.n];exact k1,by rw[e.a,e.b];exact k2⟩
theorem V9(i:Int):∀(k:Nat)(ls ls':List ck),be ls'=be ls->(∀ j:Nat,j<be ls->lA (Om ls' j Sk)=lA (Om ls j Sk)/\lB (Om ls' j Sk)=lB (Om ls j Sk))->portsF i k ls'=portsF i k ls
 | k,[],[],_,_=>rfl
 | k,x::r,[],h,_=>by cases h
 | k,[],x::r,h,_=>by cases h
 | k,x::r,y::t,h,e=>by
  have e0:=e 0 az;rw[cu8,cu8] at e0;rw[portsF,portsF,tT,tT,e0.1,e0.2,V9 i (k+1) r t (by simpa using h) λj hj=>by
   have:=e (j+1) (by simp;omega);rw[cm4,cm4] at this;exact this]
theorem sV.portsF{ls0 ls:List ck}(h:sV ls0 ls)(i:Int)(k:Nat):portsF i k ls=Go.RS.portsF i k ls0 :=
 V9 i k ls0 ls h.n λj hj=>⟨(h.k j hj).a,(h.k j hj).b⟩
theorem qq.lk{ls0 ls:List ck}(h:sV ls0 ls){aa:ad}{i:Int}{t:List Rt}(k:qq ls0 aa i t):qq ls aa i t :=
 ⟨k.1,λr hr=>by
  have q:=k.2 r hr;exact⟨q.len,q.mem,q.ne,q.pw,λx hx=>h.lnk (q.ln x hx),q.w0,q.w1⟩⟩
structure CH (ns:List au) (c:cH):Prop where
 at':0<=jU c/\jU c<=180
 w:0<=c8 c/\c8 c<be ns
 r:xX c=bZ6
 p:∃ r∈bW (Om ns (it (c8 c)) Sk),(gK c).1=r.1/\(gK c).2.2=r.2.2
 x:(gK c).2.1=[]∨∃ q∈aS (Om ns (it (c8 c)) Sk),(gK c).2.1=[q.2]
def HX:ad:=(range 10).flatMap λ(k:Nat)=>[ib k+1,ib k+2]
theorem T8{a:Int}{k:Nat}(hk:k<10)(h:a=ib k+1∨a=ib k+2):a∈HX:=by
 refine cy1.2 ⟨k,cd3.2 hk,?_⟩
 obtain h|h:=h <;> rw[h] <;> simp
theorem qq.sub{ls:List ck}{aa bb:ad}{i:Int}{t:List Rt}(h:qq ls aa i t)(hs:∀ a∈aa,a∈bb):qq ls bb i t :=
 ⟨h.1,λr hr=>by
  have q:=h.2 r hr;exact⟨q.len,hs _ q.mem,q.ne,q.pw,q.ln,q.w0,q.w1⟩⟩
structure DN (n:Net):Prop where
 n3:3<=be n.1
 n7:be n.1<=7
 l2:2<=be n.2.1
 l10:be n.2.1<=10
 h3:be n.2.2<=3
 g:∀ x∈n.2.1,(0<=lA x/\lA x<be n.1)/\(0<=lB x/\lB x<be n.1)/\lA x≠lB x/\(1<=qI x/\qI x<=20)/\(0<=mI x/\mI x<=9)/\(0<=vN x/\vN x<=65536)/\0<=Am x/\Am x<=255
 p:∀ i:Nat,i<be n.1->aS (Om n.1 i Sk)=portsF i 0 n.2.1
 d:wt n.1
 t:∀ i:Nat,i<be n.1->qq n.2.1 HX i (bW (Om n.1 i Sk))
 o:∀ x∈n.2.1,nV n.1 x=bZ6
 c:∀ x∈n.2.2,CH n.1 x
 s:n.2.2.Pairwise λa b=>jU a<=jU b
theorem RU{s:bU}(h:wt s.1.1)(hc:aY s.2):∀{i:Nat},i<=be s.1.1->wt (oN s i).1
 | 0,_=>h
 | i+1,hi=>by
  have k:=RU h hc (i:=i) ab;have b:=(N1 s hc (i:=i) ab).2;rw[show ((i+1:Nat):Int)=(i:Int)+1 by omega,VM s ab];unfold BO;refine k.set λhl=>?_;have e:(it (i:Int):Nat)=i:=ab;rw[e] at hl ⊢;exact (k i hl).od b
theorem bL9{ns:List au}(h:wt ns){l:ck}(hl:0<=lB l):wt (vF ns l):=by
 unfold vF
 split
 .exact h.set λhi=>(h _ hi).opq _
 .exact h
theorem aN4{ns:List au}{l:ck}(hb:0<=lB l/\lB l<be ns):nV (vF ns l) l=false:=by
 unfold vF
 split
 .unfold nV;rw[lH ab];exact Bool.and_false _
 next h=>unfold nV;cases h1:gB (Om ns (it (lA l)) Sk) <;> cases h2:gB (Om ns (it (lB l)) Sk) <;> simp_all
theorem bF7{ns:List au}{l m:ck}(h:nV ns m=bZ6):nV (vF ns l) m=false:=by
 unfold vF
 split
 .have set_op:∀(i j:Nat),gB (Om ns j Sk)=bZ6->gB (Om (ns.set i (Lt (Om ns i Sk) bZ6)) j Sk)=false:=λi j hj=>by
   by_cases e:i=j
   .subst e;by_cases hl:i<be ns
    .rw[lH hl];rfl
    .rw[List.set_eq_of_length_le ab];exact hj
   .rw[pZ e];exact hj
  unfold nV at h ⊢;rw[Bool.and_eq_false_iff] at h ⊢;exact h.imp (set_op _ _) (set_op _ _)
 .exact h
theorem Yx{ns:List au}{l m:ck}(ha:lA l=lA m)(hb:lB l=lB m):nV ns l=nV ns m:=by unfold nV;rw[ha,hb]
structure Wn (s:bU) (i:Nat):Prop where
 np:wt (oL s i).1.1
 lk:sV s.1.2.1 (oL s i).1.2
 df:∀ k:Nat,k<i->nV (oL s i).1.1 (Om s.1.2.1 k Sk)=bZ6
theorem LV{s:bU}(h:wt s.1.1)(hc:aY s.2)(hg:jV (be s.1.1) s.1.2.1)(hl:sV s.1.2.1 s.1.2.1):∀{i:Nat},i<=be s.1.2.1->Wn s i
 | 0,_=>⟨RU h hc (dq _),hl,λk hk=>ab⟩
 | i+1,hi=>by
  have k:=LV h hc hg hl (i:=i) ab;have ⟨ag,cb,ge,ll⟩:=BV s hc hg (i:=i) ab;have hb:=hg.at' (k:=i) ab;have e:(it (i:Int):Nat)=i:=ab;have lk1:=(k.lk.k i ab).od cb;have hn:=ag.n;have step:oL s ((i+1:Nat):Int)=xz (oL s i) i:=by
   rw[show ((i+1:Nat):Int)=(i:Int)+1 by omega,RH s ab,e]
  have fin:Wn s (i+1):=by
   refine⟨?_,?_,λj hj=>?_⟩
   .rw[step];unfold xz;dsimp only;refine bL9 k.np ?_;rw[lk1.b];exact hb.2.1
   .rw[step];unfold xz;dsimp only;exact k.lk.set λ_=>lk1
   .rw[step];unfold xz;dsimp only;by_cases q:j=i
    .subst q;rw[← Yx (l:=(odLink ((oL s j).1.2.getD j Sk) (oL s j).2).1) lk1.a lk1.b];refine aN4 ?_;rw[lk1.b,hn];exact hb.2
    .exact bF7 (k.df j ab)
  exact fin
structure Jc (ns:List au) (m:Nat) (x:List cH×Int×bh):Prop where
 c:aY x.2.2
 a:0<=x.2.1/\x.2.1<=60*m
 n:be x.1<=m
 h:∀ y∈x.1,CH ns y/\jU y<=x.2.1
 s:x.1.Pairwise λa b=>jU a<=jU b
theorem Jc.next{ns:List au}{m:Nat}{x:List cH×Int×bh}(h:Jc ns m x)(hm:m<3)(h0:0<be ns)(hp:∀ x∈ns,bW x≠[]->0<be (aS x)):Jc ns (m+1) (tV ns x):=by
 have a:=fZ h.c (n:=60) ab
 have k1:=(d7 h.c 60).1
 have w:=fZ k1 (n:=(be ns:Int)) ab
 have k2:=(d7 k1 (be ns:Int)).1
 have ha:=h.a
 have hn:=h.n
 unfold tV
 dsimp only
 have hX:=dm (xs:=ns) w.1 w.2
 generalize eX:Om ns (ay (ay x.2.2 60).2 (be ns:Int)).1.toNat Sk=X at hX ⊢
 split
 .refine⟨k2,?_,?_,λy hy=>⟨(h.h y hy).1,?_⟩,h.s⟩
  .show 0<=x.2.1+_/\x.2.1+_<=60*((m+1:Nat):Int);omega
  .show (be x.1)<=m+1;omega
  .have:=(h.h y hy).2;show jU y<=x.2.1+_;omega
 next hr=>
  have hr':bW X≠[]:=λe=>hr (by rw[e];rfl);have q3:=fZ k2 (n:=(be (bW X):Int)) ab;have b3:=(d7 k2 (be (bW X):Int)).1;have hpp:=hp X hX hr';have q4:=fZ b3 (n:=(be (aS X):Int)) ab;have b4:=(d7 b3 (be (aS X):Int)).1;have b5:=(d7 b4 4).1;refine⟨b5,?_,?_,λy hy=>?_,?_⟩
  .show 0<=x.2.1+_/\x.2.1+_<=60*((m+1:Nat):Int);omega
  .show (be (x.1++[_]))<=m+1;rw[bM,eI];omega
  .obtain hy|hy:=dI.1 hy
   .refine⟨(h.h y hy).1,?_⟩;have:=(h.h y hy).2;show jU y<=x.2.1+_;omega
   .rw[kY.1 hy];refine⟨⟨?_,w,rfl,?_,?_⟩,io _⟩
    .show 0<=x.2.1+_/\x.2.1+_<=180;omega
    .refine⟨Om (bW X) (ay (ay (ay x.2.2 60).2 (be ns:Int)).2 (be (bW X):Int)).1.toNat Sk,?_,rfl,rfl⟩;show _∈bW (Om ns (ay (ay x.2.2 60).2 (be ns:Int)).1.toNat Sk);rw[eX];exact dm q3.1 q3.2
    .by_cases hz:(ay (ay (ay (ay (ay x.2.2 60).2 (be ns:Int)).2 (be (bW X):Int)).2 (be (aS X):Int)).2 4).1=3
     .exact .inl (aj hz)
     .refine .inr ⟨Om (aS X) (ay (ay (ay (ay x.2.2 60).2 (be ns:Int)).2 (be (bW X):Int)).2 (be (aS X):Int)).1.toNat Sk,?_,ah hz⟩;show _∈aS (Om ns (ay (ay x.2.2 60).2 (be ns:Int)).1.toNat Sk);rw[eX];exact dm q4.1 q4.2
  .refine cf0.2 ⟨h.s,List.pairwise_singleton _ _,λy hy z hz=>?_⟩;have:=(h.h y hy).2;rw[kY.1 hz];show jU y<=x.2.1+_;omega
theorem FK{α:Type} [Inhabited α] {l:List α} {x:α} (h:x∈l):∃ i:Nat,i<be l/\Om l i Sk=x:=by
 have ⟨i,hi,e⟩:=cb5.1 h
 exact⟨i,hi,by rw[cq,cG hi,e];rfl⟩
theorem RS.np{s r:bU}{nn nl:Nat}(h:RS s nn nl r):wt r.1.1:=λi hi=>by
 have hi':i<nn:=by have:=h.i.n;have:=h.g.n;omega
 have ⟨host,f,sd,hd,hf,h0,h1⟩:=h.g.d i hi'
 have e:=h.i.e i (by rw[h.g.n];exact hi')
 exact NP.routes (NP.same (NP.new (host:=host) hf h0 h1) hd.symm) e.symm
theorem RS.opq{s r:bU}{nn nl:Nat}(h:RS s nn nl r){i:Nat}(hi:i<nn):gB (Om r.1.1 i Sk)=false:=by
 obtain⟨host,f,sd,hd,-⟩:=h.g.d i hi
 have e:=dP gB (h.i.e i (by rw[h.g.n];exact hi))
 have e2:=dP (λz=>gB (([]:List bg8),z)) hd
 exact e.trans e2
theorem RS.adr{s r:bU}{nn nl:Nat}(h:RS s nn nl r)(hl:nl<=10):∀ a∈kg s.1.1,a∈HX:=λa ha=>by
 unfold kg at ha
 have ⟨x,hx,ha⟩:=cy1.1 ha
 obtain⟨q,hq,rfl⟩:=cc1.1 ha
 obtain⟨i,hi,rfl⟩:=FK hx
 rw[h.g.p i (by rw[← h.g.n];exact hi)] at hq
 have ⟨j,hj,e⟩:=ER.1 hq
 rw[h.g.l] at hj
 rw[gJ] at e
 obtain⟨-,rfl⟩|⟨-,rfl⟩:=e
 .exact T8 (k:=j) ab (.inl rfl)
 .exact T8 (k:=j) ab (.inr rfl)
theorem RS.links{s r:bU}{nn nl:Nat}(h:RS s nn nl r):r.1.2.1=s.1.2.1:=dP Prod.fst h.l
theorem RS.lk{s r:bU}{nn nl:Nat}(h:RS s nn nl r):sV r.1.2.1 r.1.2.1:=⟨rfl,λi hi=>by
 rw[h.links] at hi ⊢
 have:=h.g.g _ (rP hi)
 exact⟨rfl,rfl,rfl,rfl,ab,ab⟩⟩
theorem RS.dn{s r:bU}{nn nl:Nat}(h:RS s nn nl r)(n3:3<=nn)(n7:nn<=7)(l2:2<=nl)(l10:nl<=10):DN r.1:=by
 have rn:=h.i.n.trans h.g.n
 have rl:=h.links
 have rh:=(dP Prod.snd h.l).trans h.g.h
 refine⟨ab,ab,by rw[rl,h.g.l];exact l2,by rw[rl,h.g.l];exact l10,by rw[rh];exact Nat.zero_le _,λx hx=>?_,λi hi=>?_,h.np,λi hi=>?_,λx hx=>?_,λx hx=>?_,?_⟩
 .rw[rl] at hx;have:=h.g.g x hx;rw[rn];omega
 .rw[rl];exact h.ports ab
 .rw[rl];exact (h.tab ab).sub (h.adr l10)
 .rw[rl] at hx;have g:=h.g.g x hx;unfold nV;rw[h.opq (i:=it (lA x)) ab];rfl
 .rw[rh] at hx;cases hx
 .rw[rh];exact ce6
theorem Vw{s:bU}(h:aY s.2)(hg:jV (be s.1.1) s.1.2.1)(h0:0<be s.1.1)(hp:∀ x∈(oL s (be s.1.2.1)).1.1,bW x≠[]->0<be (aS x)):∀ i,i<=3->Jc (oL s (be s.1.2.1)).1.1 i (oC s i)
 | 0,_=>⟨(d7 (BV s h hg (io _)).2.1 4).1,⟨io _,io _⟩,dq _,λy hy=>(by cases hy),ce6⟩
 | i+1,hi=>by
  rw[Ms];exact (Vw h hg h0 hp i ab).next ab (by rw[(BV s h hg (io _)).1.n];exact h0) hp
theorem RS.odd{s r:bU}{nn nl:Nat}(h:RS s nn nl r)(n3:3<=nn)(n7:nn<=7)(l2:2<=nl)(l10:nl<=10):DN (rZ r).1:=by
 have rn:=h.i.n.trans h.g.n
 have rl:=h.links
 have pre:=h.preO ab ab ab
 have ok:=BV r h.c pre.g (i:=be r.1.2.1) (io _)
 have inv:=LV h.np h.c pre.g h.lk (i:=be r.1.2.1) (dq _)
 have ag:=ok.1
 have e:(rZ r).1=((oL r (be r.1.2.1)).1.1,(oL r (be r.1.2.1)).1.2,(oC r (it (oK r))).1):=by
  unfold rZ oC oK oL oN;rfl
 have kk:=fZ ok.2.1 (n:=4) ab
 have hp:∀ x∈(oL r (be r.1.2.1)).1.1,bW x≠[]->0<be (aS x):=λx hx hr=>by
  obtain⟨i,hi,rfl⟩:=FK hx;have q:=ag.e i (by rw[← ag.n];exact hi);rw[q.1];rw[q.2] at hr;exact (pre.p _ (rP (by rw[← ag.n];exact hi)) hr).1
 have oc:=Vw h.c pre.g pre.n0 hp (it (oK r)) (by unfold oK;omega)
 rw[e]
 have ln:=ag.n.trans rn
 have ll:(oL r (be r.1.2.1)).1.2.length=nl:=by rw[inv.lk.n,rl,h.g.l]
 refine⟨by rw[ln];exact n3,by rw[ln];exact n7,by rw[ll];exact l2,by rw[ll];exact l10,?_,λx hx=>?_,λi hi=>?_,inv.np,λi hi=>?_,λx hx=>?_,λx hx=>(oc.h x hx).1,oc.s⟩
 .have:=oc.n;have:it (oK r)<=3:=by unfold oK;omega
  dsimp only;omega
 .have ⟨l0,hl0,k⟩:=inv.lk.mem hx;rw[rl] at hl0;have g:=h.g.g l0 hl0;have ka:=k.a;have kb:=k.b;have kd:=k.d;have ks:=k.s;have kj:=k.j;have ko:=k.o;rw[ln,ka,kb,kd,ks];omega
 .dsimp only at hi ⊢;rw[(ag.e i ab).1,h.ports ab,inv.lk.portsF,rl]
 .dsimp only at hi ⊢;rw[(ag.e i ab).2];refine qq.sub (qq.lk inv.lk ?_) (h.adr l10);rw[rl];exact h.tab ab
 .dsimp only at hx ⊢;obtain⟨i,hi,rfl⟩:=FK hx;have hi':i<be r.1.2.1:=by rw[← inv.lk.n];exact hi
  have k:=inv.lk.k i hi';rw[Yx k.a k.b];exact inv.df i hi'
theorem QH{c:bh}(h:aY c)(plain:Bool):DN (tI plain c):=by
 have hn:=Av h
 have ⟨m,m2,m10,G⟩:=If h plain
 have R:=G.rs plain
 unfold tI FT
 cases plain with
 | true=>exact R.dn ab ab m2 m10
 | false=>exact R.odd ab ab m2 m10
theorem aK7{c:bh}(h:aY c)(plain:Bool):aY (Bh plain c):=by
 have ⟨m,m2,m10,G⟩:=If h plain
 have R:=G.rs plain
 unfold Bh FT
 cases plain with
 | true=>exact R.c
 | false =>
  have hn:=Av h;have pre:=R.preO ab ab ab;exact (O7 _ R.c pre.g _).1
theorem Wr{l:ad}{m:Int}(h:∀ x∈l,0<=x/\x<=255):aY (if (be l:Int)<=m then l else l.take (it m),0):=by
 refine⟨⟨io _,by dsimp only;omega⟩,λx hx=>?_⟩
 dsimp only at hx
 split at hx
 .exact h x hx
 .exact h x (rX hx)
theorem DN.port{n:Net}(h:DN n){i:Nat}(hi:i<be n.1){q:sK}:q∈aS (Om n.1 i Sk)↔∃ j:Nat,j<be n.2.1/\((lA (Om n.2.1 j Sk)=i/\q=(ib j+1,(j:Int)))∨(lB (Om n.2.1 j Sk)=i/\q=(ib j+2,(j:Int)))):=by
 rw[h.p i hi,ER];simp only[gJ]
theorem DN.links{n:Net}(h:DN n){i:Nat}(hi:i<be n.1){k:Int}:k∈de (Om n.1 i Sk)↔lnk n.2.1 i k:=by
 unfold de lnk
 rw[cc1]
 constructor
 .rintro⟨q,hq,rfl⟩;have ⟨j,hj,e⟩:=(h.port hi).1 hq;obtain⟨e,rfl⟩|⟨e,rfl⟩:=e
  .exact⟨by dsimp only;omega,by dsimp only;omega,.inl (by simpa using e)⟩
  .exact⟨by dsimp only;omega,by dsimp only;omega,.inr (by simpa using e)⟩
 .rintro⟨k0,k1,e⟩;have ek:((it k:Nat):Int)=k:=ab;obtain e|e:=e
  .exact⟨_,(h.port hi).2 ⟨it k,ab,.inl ⟨e,rfl⟩⟩,ek⟩
  .exact⟨_,(h.port hi).2 ⟨it k,ab,.inr ⟨e,rfl⟩⟩,ek⟩
theorem DN.uniq{n:Net}(h:DN n){i j:Nat}(hi:i<be n.1)(hj:j<be n.1){q p:sK}(hq:q∈aS (Om n.1 i Sk))(hp:p∈aS (Om n.1 j Sk))(e:q.1=p.1):i=j/\q.2=p.2:=by
 have ⟨a,ha,ea⟩:=(h.port hi).1 hq
 have ⟨b,hb,eb⟩:=(h.port hj).1 hp
 unfold ib at ea eb
 obtain⟨ea,rfl⟩|⟨ea,rfl⟩:=ea <;> obtain⟨eb,rfl⟩|⟨eb,rfl⟩:=eb <;> dsimp only at e ⊢
 .have:a=b:=ab;subst this;omega
 .omega
 .omega
 .have:a=b:=ab;subst this;omega
theorem DN.padr{n:Net}(h:DN n){i:Nat}(hi:i<be n.1){a:Int}(ha:a∈wV (Om n.1 i Sk)):167837697<=a/\a<=167837734:=by
 obtain⟨q,hq,rfl⟩:=cc1.1 ha
 have ⟨b,hb,eb⟩:=(h.port hi).1 hq
 have:=h.l10
 unfold ib at eb
 obtain⟨eb,rfl⟩|⟨eb,rfl⟩:=eb <;> dsimp only <;> omega
theorem DN.loop{n:Net}(h:DN n){i:Nat}(hi:i<be n.1):kL (Om n.1 i Sk)=0∨kL (Om n.1 i Sk)=167903232+i:=(h.d i hi).loop
theorem Z1{x:au}{a:Int}:a∈f7 x↔a∈wV x∨(kL x≠0/\a=kL x):=by
 unfold f7
 rw[dI]
 by_cases e:kL x=0
 .rw[aj e];simp[e]
 .rw[ah e];simp[e]
theorem DN.apart{n:Net}(h:DN n){i j:Nat}(hi:i<be n.1)(hj:j<be n.1){a:Int}(ha:a∈f7 (Om n.1 i Sk))(hb:a∈f7 (Om n.1 j Sk)):i=j:=by
 rw[Z1] at ha hb
 have li:=h.loop hi
 have lj:=h.loop hj
 obtain ha|ha:=ha <;> obtain hb|hb:=hb
 .have ⟨q,hq,e⟩:=cc1.1 ha;have ⟨p,hp,e2⟩:=cc1.1 hb;exact (h.uniq hi hj hq hp (e.trans e2.symm)).1
 .have:=h.padr hi ha;omega
 .have:=h.padr hj hb;omega
 .omega
theorem YH{ls:List ck}{i:Int}{t:List Rt}(h:qq ls HX i t):be t<=20:=L4 h
theorem a98{ls:List ck}{k:Int}(k0:0<=k)(k1:k<be ls):ku ls k (lA (Om ls (it k) Sk))=lB (Om ls (it k) Sk):=by
 unfold ku;rw[ah ab,aj rfl]
theorem bJ4{ls:List ck}{k:Int}(k0:0<=k)(k1:k<be ls)(hn:lA (Om ls (it k) Sk)≠lB (Om ls (it k) Sk)):ku ls k (lB (Om ls (it k) Sk))=lA (Om ls (it k) Sk):=by
 unfold ku;rw[ah ab,ah (λe=>hn e.symm),aj rfl]
theorem aH6{l:List Rt}{c:cH}{r:Rt}(h:r∈jI l c):r=gK c∨r∈l:=by
 unfold jI at h
 split at h
 .exact .inr (List.mem_filter.1 h).1
 .obtain h|h:=Zb.1 h
  .exact .inl h
  .exact .inr h.1
theorem as4{n:Net}{who at':Int}(w0:0<=who)(w1:who<be n.1){P:Rt->Prop}(h0:∀ r∈bW (Om n.1 (it who) Sk),P r)(hc:∀ c∈n.2.2,c8 c=who->P (gK c)):∀ r∈NO n who at',P r:=by
 unfold NO U2
 rw[ah ab]
 have e:∀(l:List cH)(t:List Rt),(∀ c∈l,c8 c=who->P (gK c))->(∀ r∈t,P r)→∀ r∈l.foldl (L3 who at') t,P r:=by
  intro l
  induction l with
  | nil=>intro t _ h;exact h
  | cons c l ih =>
   intro t hl ht;rw[List.foldl_cons];refine ih _ (λx hx=>hl x (fu _ hx)) λr hr=>?_;unfold L3 at hr;split at hr
   .rename_i q;obtain rfl|hr:=aH6 hr
    .exact hl c eV q.1
    .exact ht r hr
   .exact ht r hr
 exact e _ _ (λc hc'=>hc c (rX hc')) h0
theorem DN.next{n:Net}(h:DN n){who at':Int}(w0:0<=who)(w1:who<be n.1):∀ r∈NO n who at',∀ k∈r.2.1,lnk n.2.1 who k:=by
 have ew:((it who:Nat):Int)=who:=ab
 refine as4 w0 w1 (λr hr k hk=>?_) (λc hc hw k hk=>?_)
 .have:=((h.t (it who) ab).2 r hr).ln k hk;rw[ew] at this;exact this
 .have q:=(h.c c hc).x;rw[hw] at q;obtain e|⟨q,hq,e⟩:=q
  .rw[e] at hk;cases hk
  .rw[e] at hk;rw[kY.1 hk];have:=(h.links (i:=it who) ab).1 (cc1.2 ⟨q,hq,rfl⟩);rw[ew] at this;exact this
theorem DN.other{n:Net}(h:DN n){who k:Int}(hk:lnk n.2.1 who k):0<=ku n.2.1 k who/\ku n.2.1 k who<be n.1:=by
 have ⟨k0,k1,e⟩:=hk
 have g:=h.g _ (dm k0 k1)
 obtain e|e:=e
 .rw[← e,a98 k0 k1];exact g.2.1
 .rw[← e,bJ4 k0 k1 g.2.2.1];exact g.1
def m9(ls:List ck)(i:Int):Prop:=∃ l∈ls,lA l=i∨lB l=i
theorem m9.app{ls:List ck}{i:Int}(h:m9 ls i)(m:List ck):m9 (ls++m) i:=by
 have ⟨l,hl,e⟩:=h
 exact⟨l,ip _ hl,e⟩
theorem m9.link{s:bU}{i:Int}(h:m9 s.1.2.1 i)(a b:Int):m9 (kM s a b).1.2.1 i:=h.app _
theorem Xo(s:bU)(a b:Int):m9 (kM s a b).1.2.1 a:=⟨_,jv _ eV,.inl rfl⟩
theorem aL5(s:bU)(a b:Int):m9 (kM s a b).1.2.1 b:=⟨_,jv _ eV,.inr rfl⟩
theorem Ym(s:bU):∀ k j:Nat,j<k->m9 ((range k).foldl vG s).1.2.1 j
 | 0,j,h=>absurd h (Nat.not_lt_zero _)
 | k+1,j,h=>by
  rw[mZ,lT];by_cases e:j<k
  .exact (Ym s k j e).link (s:=mS ((range k).foldl vG s) bZ6) _ _
  .have:j=k:=ab;subst this;exact Xo _ _ _
theorem bC5{c:bh}(h:aY c){j:Nat}(hj:j<it (cM c)+2):m9 (qG c).2.1.2.1 j:=by
 have hn:=Av h
 rw[QZ]
 by_cases e:j<it (cM c)
 .exact (Ym _ _ _ e).link (s:=mS ((range (it (cM c))).foldl vG (An c)) bZ3) _ _
 by_cases e2:j=it (cM c)
 .rw[show ((j:Nat):Int)=cM c by omega];exact Xo _ _ _
 .rw[show ((j:Nat):Int)=cM c+1 by omega];exact aL5 _ _ _
theorem bS0{s:bU}{i:Int}(h:m9 s.1.2.1 i)(n:Int):m9 (xE n s).1.2.1 i:=by
 unfold xE
 dsimp only
 split
 .exact h
 .exact m9.app h _
theorem Vd{n i:Int}:∀(k:Nat){s:bU},m9 s.1.2.1 i->m9 ((range k).foldl (λs _=>xE n s) s).1.2.1 i
 | 0,s,h=>h
 | k+1,s,h=>by
  rw[mZ,lT];exact bS0 (Vd k h) n
theorem aD7{s:bU}{i:Int}(h:m9 s.1.2.1 i)(plain:Bool)(n:Int):m9 (DF plain n s).1.2.1 i:=by
 rw[OF]
 dsimp only
 have h1:m9 (uK plain n s (ay s.2 4).1.toNat).1.2.1 i:=by
  unfold uK;split
  .exact Vd _ h
  .exact h
 generalize uK plain n s (ay s.2 4).1.toNat=t at h1 ⊢
 split
 .split
  .exact m9.app h1 _
  .exact h1
 .exact h1
theorem bl5{s r:bU}{nn nl:Nat}(h:RS s nn nl r)(n3:3<=nn)(n7:nn<=7)(l10:nl<=10){i:Int}(ht:m9 r.1.2.1 i):m9 (rZ r).1.2.1 i:=by
 have pre:=h.preO ab ab ab
 have inv:=LV h.np h.c pre.g h.lk (i:=be r.1.2.1) (dq _)
 have e:(rZ r).1.2.1=(oL r (be r.1.2.1)).1.2:=by
  unfold rZ oL oN;rfl
 rw[e]
 have ⟨l,hl,q⟩:=ht
 obtain⟨j,hj,rfl⟩:=FK hl
 have k:=inv.lk.k j hj
 refine⟨_,rP (by rw[inv.lk.n];exact hj),?_⟩
 rw[k.a,k.b];exact q
theorem a46{s r:bU}{nn nl:Nat}(h:RS s nn nl r)(n3:3<=nn)(n7:nn<=7)(l10:nl<=10):(rZ r).1.1.length=be r.1.1:=by
 have pre:=h.preO ab ab ab
 have ok:=BV r h.c pre.g (i:=be r.1.2.1) (io _)
 have e:(rZ r).1.1=(oL r (be r.1.2.1)).1.1:=by
  unfold rZ oL oN;rfl
 rw[e]
 exact ok.1.n
theorem aU9{c:bh}(h:aY c)(plain:Bool){i:Nat}(hi:i<(tI plain c).1.length):m9 (tI plain c).2.1 i:=by
 have hn:=Av h
 have ⟨m,m2,m10,G⟩:=If h plain
 have R:=G.rs plain
 have rn:=R.i.n.trans R.g.n
 have t:=λj=>λ(hj:j<it (cM c)+2)=>aD7 (bC5 h hj) plain (qG c).1
 unfold tI FT at hi ⊢
 dsimp only at hi ⊢
 cases plain with
 | true =>
  rw[aj rfl] at hi ⊢;rw[R.links];exact t i (by rw[← rn];exact hi)
 | false =>
  rw[ah aB] at hi ⊢;have ol:=a46 R ab ab m10;refine bl5 R ab ab m10 ?_;rw[R.links];exact t i (by rw[← rn];omega)
theorem RY{c:bh}(h:aY c)(plain:Bool){i:Nat}(hi:i<(tI plain c).1.length):0<be (aS ((tI plain c).1.getD i Sk)):=by
 have D:=QH h plain
 have ⟨l,hl,q⟩:=aU9 h plain hi
 obtain⟨j,hj,rfl⟩:=FK hl
 obtain q|q:=q
 .exact ch8 ((D.port hi).2 ⟨j,hj,.inl ⟨q,rfl⟩⟩)
 .exact ch8 ((D.port hi).2 ⟨j,hj,.inr ⟨q,rfl⟩⟩)
theorem RP(i:Int):∀(k:Nat)(ls:List ck),(∀ l∈ls,lA l≠lB l)->(portsF i k ls).Pairwise (λa b=>a.2<b.2/\a.1<b.1)∧∀ q∈portsF i k ls,(k:Int)<=q.2/\ib k<q.1
 | _,[],_=>by simp[portsF]
 | k,l::r,h=>by
  obtain⟨h1,h2⟩:=RP i (k+1) r (λx hx=>h x (fu _ hx));have hl:=h l eV;have e:tT i k l=[]∨∃ a,(a=1∨a=2)/\tT i k l=[(ib k+a,(k:Int))]:=by
   unfold tT;by_cases ha:lA l=i
   .rw[aj ha,ah ab];exact .inr ⟨1,.inl rfl,rfl⟩
   .rw[ah ha];by_cases hb:lB l=i
    .rw[aj hb];exact .inr ⟨2,.inr rfl,rfl⟩
    .rw[ah hb];exact .inl rfl
  rw[portsF];unfold ib at *;obtain e|⟨a,ha,e⟩:=e <;> rw[e]
  .rw[yv];exact⟨h1,λq hq=>by have:=h2 q hq;omega⟩
  .rw[List.singleton_append];refine⟨ca4.2 ⟨λq hq=>?_,h1⟩,λq hq=>?_⟩
   .have:=h2 q hq;simp only;omega
   .obtain rfl|hq:=dO.1 hq
    .simp only;omega
    .have:=h2 q hq;omega
theorem Wa{l:List sK}{q:sK->Bool}{i:Nat}(hi:i<be l)(hq:q (Om l i Sk)=bZ3)(hn:∀ j:Nat,j<i->q (Om l j Sk)=bZ6):j4 q l=i:=by
 have e:l.findIdx q=i:=by
  rw[List.findIdx_eq hi];refine⟨by rwa [cq,cG hi,iA] at hq,λj hj=>?_⟩;have:=hn j hj
  rwa [cq,cG ab,iA] at this
 unfold j4
 rw[e,aj hi]
theorem aE0{q:Int×Int->Bool}{l:bX8}{y:bg8}(hy:y∈l)(hq:q y=bZ3):0<=j4 q l:=by
 have hlt:=cn4 ⟨y,hy,hq⟩
 unfold j4;rw[aj hlt];omega
theorem RF{α:Type} [Inhabited α] {R:α->α->Prop} {l:List α} (h:l.Pairwise R) {k j:Nat} (hk:k<j) (hj:j<be l):R (Om l k Sk) (Om l j Sk):=by
 rw[cq,cq,cG hj,cG ab,iA,iA]
 exact cp8.1 h _ _ _ _ hk
theorem Ht{a:Int}(h:167837696<=a/\a<=167903300):ga a:=by
 right
 unfold jg
 have:a/16777216=10:=ab
 rw[ah ab,ah ab,aj (.inl this)]
theorem ba1{a n:Int}(h:n=32):nH (a,n)=true:=by
 subst h
 unfold nH
 have:sz 32=1:=aB
 rw[this]
 simp only[rF]
 omega
theorem R8{links:ad}:∀{l:List Rt}{q:Option fB},dU l->(∀ p,q=some p→∀ r∈l,cO p r.1)->(∀ r∈l,nH r.1=bZ3/\pm r links)->chk links q l=0
 | [],_,_,_,_=>rfl
 | r::rs,q,hs,hq,hr=>by
  obtain⟨v,w⟩:=hr r eV;have ⟨s1,s2⟩:=ca4.1 hs;rw[chk,ah (by rw[v];simp)];have e:q.any (λq=>bZ2 (0<=ja q r.1))=false:=by
   cases q with
   | none=>rfl
   | some p =>
    have:=hq p rfl r eV;simp only[Option.any_some,sr];rw[Oz];exact λk=>k this
  rw[ah (by rw[e];simp),ah (by simpa using w)];exact R8 s2 (λp hp x hx=>by cases hp;exact s1 x hx) (λx hx=>hr x (fu _ hx))
structure GT (m:Nat) (links:ad) (l:List Rt):Prop where
 s:dU l
 n:be l<=m
 r:∀ r∈l,nH r.1=bZ3/\pm r links
theorem GT.ok{m:Nat}{links:ad}{l:List Rt}(h:GT m links l)(hm:m<=64):jq l links=0:=by
 have:=h.n
 unfold jq
 rw[ah ab]
 exact R8 h.s (λp hp=>by cases hp) h.r
theorem DN.gt{n:Net}(h:DN n){i:Nat}(hi:i<be n.1):GT 20 (de (Om n.1 i Sk)) (bW (Om n.1 i Sk)):=by
 have t:=h.t i hi
 refine⟨t.1,YH t,λr hr=>?_⟩
 have k:=t.2 r hr
 have l10:=h.l10
 have hl:=M0 k
 refine⟨ba1 k.len,⟨ab,λj hj=>⟨λh0=>?_,?_⟩⟩,k.w0,k.w1⟩
 .rw[cq,cq,cG hj,cG ab,iA,iA];exact cp8.1 k.pw _ _ _ _ ab
 .rw[(h.links hi)];rw[cq,cG hj,iA];exact k.ln _ (List.getElem_mem hj)
theorem DN.pw{n:Net}(h:DN n){i:Nat}(hi:i<be n.1):(aS (Om n.1 i Sk)).Pairwise (λa b=>a.2<b.2/\a.1<b.1):=by
 rw[h.p i hi]
 exact (RP i 0 n.2.1 λl hl=>(h.g l hl).2.2.1).1
theorem DN.node{n:Net}(h:DN n){i:Nat}(hi:i<be n.1)(hp:0<be (aS (Om n.1 i Sk))):ix (Om n.1 i Sk)=0:=by
 have pw:=h.pw hi
 have d:=h.d i hi
 have n7:=h.n7
 have l10:=h.l10
 have hlen:be (aS (Om n.1 i Sk))<=20:=by
  rw[h.p i hi];have:=Fc i 0 n.2.1;omega
 have gt:=h.gt hi
 have ports:∀ j,j<be (aS (Om n.1 i Sk))->lu (Om n.1 i Sk) j=0:=λj hj=>by
  have hm:=rP hj;have hadr:=h.padr hi (zb (f:=(·.1)) hm);have hlnk:=(h.links hi).1 (zb (f:=(·.2)) hm);have ne:∀ k,k<j->(Om (aS (Om n.1 i Sk)) k Sk).2<(Om (aS (Om n.1 i Sk)) j Sk).2/\(Om (aS (Om n.1 i Sk)) k Sk).1<(Om (aS (Om n.1 i Sk)) j Sk).1:=λk hk=>RF pw hk hj;have ea:pi (Om n.1 i Sk) (Om (aS (Om n.1 i Sk)) j Sk).1=j:=Wa hj (by simp[pc]) (λk hk=>by have:=ne k hk;simp only[pc,sr];omega);have el:fS (Om n.1 i Sk) (Om (aS (Om n.1 i Sk)) j Sk).2=j:=Wa hj (by simp[mM]) (λk hk=>by have:=ne k hk;simp only[mM,sr];omega);have hu:ga (Om (aS (Om n.1 i Sk)) j Sk).1:=Ht ab;unfold lu;have:=hlnk.1;rw[ea,el,ah (by rintro (k|k);exact k hu;omega),ah ab]
 have hloop:¬ tR (Om n.1 i Sk):=by
  rintro⟨k0,k⟩;have hl:=d.loop.resolve_left k0;obtain k|k:=k
  .exact k (Ht ab)
  .have:=h.padr hi (ae1.1 k);omega
 have hform:¬ rD (Om n.1 i Sk):=by
  have o:=d.own;have f:=d.first;unfold rD;rintro (k|k|⟨k1,k2⟩|⟨k1,k2⟩|⟨k1,k2⟩|k|k)
  .omega
  .obtain s|⟨s,-⟩|⟨s,-⟩:=d.src <;> omega
  .obtain s|⟨s,s2⟩|⟨s,-⟩:=d.src <;> omega
  .have:=d.fix.resolve_left k1;exact k2 (Ht ab)
  .obtain s|⟨s,s2⟩|⟨s,s2⟩:=d.src <;> omega
  .omega
  .omega
 have hid:qr (Om n.1 i Sk)=0:=by
  unfold qr;rw[aj];have ⟨⟨a,b⟩,⟨c,e⟩,f,g⟩:=d.id;exact ft ⟨a,b,c,e,f,g⟩
 have hb:jj (mX (Om n.1 i Sk))=0:=by
  unfold jj;rw[aj];obtain k|k:=d.lim
  .exact .inl k
  .right;omega
 rw[Yv ab (KE ports) hloop hform,ah (λk=>k hid),ah (λk=>k hb)]
 exact gt.ok ab
theorem RD(ns:List au)(a:Int):∀ k:Nat,iM a (j8 ns k)=bZ3↔∃ j:Nat,j<k/\a∈f7 (Om ns j Sk)
 | 0=>by simp[j8,iM]
 | k+1=>by
  have e:j8 ns (k+1)=tH k (f7 (Om ns k Sk)) (j8 ns k):=by unfold j8;rw[mZ,lT];rfl
  rw[e,Qi.1,sS,sC,RD ns a k];constructor
  .rintro (h|⟨j,hj,h⟩)
   .exact⟨k,ab,h⟩
   .exact⟨j,ab,h⟩
  .rintro⟨j,hj,h⟩;by_cases e:j=k
   .subst e;exact .inl h
   .exact .inr ⟨j,ab,h⟩
theorem DN.tabs{n:Net}(h:DN n):∀ i:Nat,i<=be n.2.2→∀ k:Nat,k<be n.1->GT (20+i) (de (Om n.1 k Sk)) (Om (gc n i) k Sk)
 | 0,_,k,hk=>by
  rw[gc,G8 hk];exact h.gt hk
 | i+1,hi,k,hk=>by
  have ih:=h.tabs i ab;have hc:=h.c _ (rP (i:=i) (xs:=n.2.2) ab);rw[gc];by_cases e:it (c8 (Om n.2.2 i Sk))=k
  .rw[e,lH (by rw[vh];omega)];have g:=ih k hk;have ⟨r,hr,p1,p2⟩:=hc.p;rw[e] at hr;have gr:=(h.gt hk).r r hr;have hx:=hc.x;rw[e] at hx;refine⟨?_,?_,λx hx'=>?_⟩
   .unfold jI;rw[ah (by rw[hc.r];simp)];exact OZ g.s
   .unfold jI;rw[ah (by rw[hc.r];simp)];have:=Wj (Om (gc n i) k Sk) (gK (Om n.2.2 i Sk));have:=g.n;omega
   .unfold jI at hx';rw[ah (by rw[hc.r];simp)] at hx';obtain rfl|hx':=VE hx'
    .refine⟨by rw[p1];exact gr.1,⟨?_,by rw[p2];exact gr.2.2⟩⟩;obtain q|⟨y,hy,q⟩:=hx <;> rw[q]
     .exact⟨az,λj hj=>absurd hj az⟩
     .refine⟨az,λj hj=>?_⟩;have:j=0:=by simpa using hj
      subst this;exact⟨λk=>absurd k ab,zb (f:=(·.2)) hy⟩
    .exact g.r x hx'
  .have g:=ih k hk;have e2:Om ((gc n i).set (it (c8 (Om n.2.2 i Sk))) (jI (Om (gc n i) (it (c8 (Om n.2.2 i Sk))) Sk) (Om n.2.2 i Sk))) k Sk=Om (gc n i) k default:=by
    exact pZ e
   rw[e2];exact⟨g.s,by have:=g.n;omega,g.r⟩
theorem DN.right{n:Net}(h:DN n)(hp:∀ i:Nat,i<be n.1->0<be (aS (Om n.1 i Sk))):iR n=0:=by
 have n3:=h.n3
 have n7:=h.n7
 have l10:=h.l10
 have h3:=h.h3
 have e1:uv n=0:=by unfold uv;rw[ah ab]
 have e2:rq n=0:=by
  unfold rq;rw[aj];rw[ci6];intro l hl;have ⟨a,b,c,d,e,f,g⟩:=h.g l hl;refine ft ?_;unfold oM;omega
 have e3:rA n=0:=KE λi hi=>by
  unfold sc;rw[ah (λk=>k (h.node hi (hp i hi))),ah];rw[cc5];rintro⟨k,hk,hs⟩;have ⟨a,b,c⟩:=(h.links hi).1 hk;unfold wT at hs;simp only[sS,qE,rF,Bool.or_eq_false_iff,sr] at hs;obtain hs|⟨s1,s2⟩:=hs
  .omega
  .obtain c|c:=c
   .exact s1 c
   .exact s2 c
 have e4:t5 n=0:=by
  unfold t5;rw[ah];rw[cc5];rintro⟨k,hk,hs⟩;have hk:=cd3.1 hk;obtain⟨⟨a0,a1⟩,⟨b0,b1⟩,-⟩:=h.g _ (rP hk);unfold xg at hs;simp only[sS,rF] at hs;have key:∀ i:Int,0<=i->i<be n.1->(lA (Om n.2.1 k Sk)=i∨lB (Om n.2.1 k Sk)=i)→¬ fS (Om n.1 (it i) Sk) k<0:=λi i0 i1 hq hlt=>by
   have hi:it i<be n.1:=ab;have:(k:Int)∈de (Om n.1 (it i) Sk):=(h.links hi).2 ⟨ab,ab,by rw[cb6];obtain q|q:=hq;left;omega;right;omega⟩;have ⟨y,hy,e⟩:=cc1.1 this;have:=aE0 (q:=mM k) hy (by simp[mM,e]);have e5:fS (Om n.1 (it i) Sk) k=j4 (mM k) (aS (Om n.1 (it i) Sk)):=rfl;omega
  obtain hs|hs:=hs
  .exact key _ a0 a1 (.inl rfl) hs
  .exact key _ b0 b1 (.inr rfl) hs
 have e5:xT n=0:=by
  unfold xT;rw[ah];unfold YW;rw[cc5];rintro⟨i,hi,hs⟩;have hi:=cd3.1 hi;have ⟨a,ha,hm⟩:=cc5.1 hs;have ⟨j,hj,hb⟩:=(RD n.1 a i).1 hm;have:=h.apart (i:=i) (j:=j) hi ab ha hb;omega
 have e6:wj n=0:=by
  unfold wj;rw[ah];rw[cc5];rintro⟨l,hl,hs⟩;rw[h.o l hl] at hs;cases hs
 have e7:tK n=0:=KE λi hi=>by
  have hc:=h.c _ (rP (i:=i) (xs:=n.2.2) hi);have ha:=hc.at';have hw:=hc.w;have hk:it (c8 (Om n.2.2 i Sk))<be n.1:=ab;have hs:0<i->jU (Om n.2.2 (i-1) Sk)<=jU (Om n.2.2 i Sk):=λh0=>RF h.s ab hi;have g:=h.tabs (i+1) ab _ hk;rw[gc,lH (by rw[vh];omega)] at g;unfold nZ sX;rw[ah ab,ah (by rintro⟨k0,k1⟩;have:=hs k0;omega),ah ab,ah (by rintro⟨k0,-⟩;rw[hc.r] at k0;cases k0)];exact g.ok ab
 unfold iR tN
 simp[e1,e2,e3,e4,e5,e6,e7]
def zR(ns:List au)(i:Int):Int:=(Om (aS (Om ns (it i) Sk)) 0 Sk).1
def qL(ns:List au):Nat->Int
 | 0=>0
 | i+1=>if qf (Om ns (i+1) Sk)=bZ3/\0<be (aS (Om ns (i+1) Sk)) then ((i+1:Nat):Int) else qL ns i
def i5(n:Net):Int×Int:=if be n.1=0∨be (aS (Om n.1 0 Sk))=0 then (0,0) else (zR n.1 0,zR n.1 (qL n.1 (be n.1-1)))
def T1:Ct:=⟨[.agg l7],[.val dw,.val dw],λ_=>[],λd=>(((i5 d.1).1,(i5 d.1).2,()),())⟩
def bg6:bw T1.ps->bL:=(λd=>{loops:=(bu 4 (λS=>{ι:=Int,μ:=λi=>it i,inv:=λi=>0<=i/\i+1<=be d.1.1/\qL d.1.1 (be d.1.1-1)=qL d.1.1 (it i),keep:=[1],slots:=λi=>[(4,.int .i64 i)],keepN:=[32]}) cC)})
def IA(a:Int)(b:List au):=am a (a+1<=ac b) (qL b (be b -1)=qL b (it a))
theorem ba2:
 ∀(a:List au)(b:List bo)(c:List cH),dW (gA a b c) (∀(d:Bool),d=aV (ac a)->bR d/\( !d->qJ ( !d) (ac a))/\cV d (bR d) (jE d (bq d (aV (ac (ae a 0).1))) (0=(i5 (a,b,c)).1/\0=(i5 (a,b,c)).2) ((∃(e:Int),IA e a/\ao (ac a -1)=e/\a=a/\jZ b c)/\ ∀(e:Int),IA e a->ar (ax 0 e) (am e (e<ac a) (∀(f:Bool),f=(ae a e).2.2.2.1->cj f f (iP f f e (e<ac a)) (f->aJ f) (fq f f (aJ f) (f->f) (ar (br f (ax 0 (ac (ae a e).1))) (am 0 (0<ac a) (am 0 (0<ac (ae a 0).1) (am e (e<ac a) (bJ 0 (ac (ae a e).1) ((ae (ae a 0).1 0).1=(i5 (a,b,c)).1) ((ae (ae a e).1 0).1=(i5 (a,b,c)).2))))) (∃(g:Int),IA g a/\cN g e/\ao (e -1)=g/\a=a/\jZ b c))))) (am 0 (0<ac a) (am 0 (0<ac (ae a 0).1) (am 0 (0<ac a) (bJ 0 (ac (ae a 0).1) ((ae (ae a 0).1 0).1=(i5 (a,b,c)).1) ((ae (ae a 0).1 0).1=(i5
 (a,b,c)).2)))))))):= by
  delta ae ac ao aq aK bR aJ gA mP c9 dB aO cS jH bG cj bq br cV am bv aV fq ai iP jE kx cN bJ jZ IA dW mw qJ ax
  rintro ns ls hs ⟨⟨⟨hnl,-⟩,-⟩,-⟩ -
  simp only[maxLen] at hnl
  intro b hb
  (repeat refine⟨λh_=>(by first|exact⟨λ_=>h_,ab,by rw[hb] at h_;have:=jC h_;omega,aP⟩|(simp;done)|(simp[h_];done)|(simp_all;done)),?_⟩)
  rw[hb,M6,show it (0:Int)=0 from rfl]
  rw[show (Om ns 0 Sk).1=aS (Om ns 0 Sk) from rfl]
  refine aw (λh=>?_) (λh=>?_)
  .have h:=aX h
   unfold i5
   rw[aj (by dsimp only;omega)];exact⟨rfl,rfl⟩
  have h:=bg h
  have eH:i5 (ns,ls,hs)=(zR ns 0,zR ns (qL ns (be ns-1))):=by
   unfold i5;rw[ah (by dsimp only;omega)]
  rw[eH,aG (n:=(be ns:Int)-1) ab ab]
  refine⟨⟨(be ns:Int)-1,⟨ab,ab,by rw[show it ((be ns:Int)-1)=be ns-1 by omega]⟩,aI⟩,?_⟩
  rintro i ⟨i0,i1,hI⟩
  refine ci (λhi=>?_) (λhi=>?_)
  .have ei:it i=(it i-1)+1:=ab
   have e2:(((it i-1+1:Nat)):Int)=i:=ab
   refine⟨i0,ab,?_⟩
   intro b2 hb2
   (repeat refine⟨λh_=>(by first|exact⟨λ_=>h_,λ_=>h_,i0,ab,aP⟩|(simp;done)|(simp[h_];done)|(simp_all;done)),?_⟩)
   have hI2:=hI
   rw[ei,qL,← ei] at hI2
   rw[show (Om ns (it i) Sk).1=aS (Om ns (it i) Sk) from rfl]
   refine AM (λh1 h2=>?_) (λh1=>?_)
   .have h1:=hb2.symm.trans h1
    have h2:=aX h2
    rw[aj ⟨h1,ab⟩,show ((it i:Nat):Int)=i by omega] at hI2
    rw[hI2]
    exact⟨ab,ab,ab,ab,i0,ab,ab,h2,rfl,rfl⟩
   .rw[ah] at hI2
    .exact⟨i-1,⟨ab,ab,by rw[hI2,show it (i-1)=it i-1 by omega]⟩,ab,aI⟩
    .rintro⟨k1,k2⟩
     obtain h1|h1:=h1
     .rw[hb2,show (Om ns (it i) Sk).2.2.2.1=qf (Om ns (it i) Sk) from rfl,k1] at h1;cases h1
     .have:=bg h1;omega
  .rw[show it i=0 by omega,qL] at hI
   rw[hI]
   exact⟨ab,ab,ab,ab,ab,ab,ab,ab,rfl,rfl⟩
theorem NM:aC 16 T1.spec:=aF Tryz.func16 aD bg6 ba2
abbrev bg4:OT := .pair (.dat (.sl fm)) (.pair cI (.pair (.row 3 cI) (.pair yT cI)))
abbrev tC:OT := .pair eh (.pair bg4 (.pair cI (.pair cI (.pair (.dat (.sl bm)) pC))))
abbrev Bs:CT := .pair cI (.sl bm)
abbrev fK:Type:=au×NState×Int×Int×ad×dK
abbrev rm:Type:=NState×bY9×Int
def o3(h:dK):Int:=h.2.2.2.2.2.1
def me(h:dK):Int:=h.2.2.2.2.2.2
def vJ(h:dK):Int:=h.2.1
def DM(h:dK):Int:=h.2.2.1
def Fu(h:dK):Int:=h.2.2.2.1
def dS(x:au)(link:Int):Int:=max (fS x link) 0
def adr(x:au)(i:Int):Int:=if i<0∨be (aS x)<=i then 0 else (Om (aS x) (it i) Sk).1
def iw(s:NState)(a:Int):Bool:=tE (cW s) a&&bZ2 (0<(cR (cW s) a).2.1.length)
def pickI(x:au)(s:NState)(r:Rt)(k:lD):Int:=(qA r.2.2 (I5 x) k (o5 s) (be r.2.1)).1
def mr(x:au)(s:NState)(r:Rt)(k:lD):Int:=if be r.2.1=1 then Om r.2.1 0 Sk else Om r.2.1 (it (pickI x s r k)) Sk
def V8(s:NState)(b:Int):NState:=(s.1,s.2.1,s.2.2.1,s.2.2.2.1,b)
def jk(s:NState)(r:Rt):NState:=if be r.2.1=1 then s else V8 s (bZ4.wrap (o5 s+1))
def F3(s:NState)(t:bg8):NState:=(s.1,s.2.1,s.2.2.1,t,s.2.2.2.2)
def tZ(l:ad)(i:Int):ad:=if i<be l then l.set (it i) (bZ4.wrap (Om l (it i) Sk+1)) else l
def Q7(s:NState)(i:Int):NState:=(s.1,bZ4.wrap (s.2.1+1),tZ s.2.2.1 i,s.2.2.2)
def nU(x:au)(i link:Int):Int:=if oQ x=2 then adr x (fS x link) else if oQ x=3 then kL x else if oQ x=4 then uV x else adr x i
def jM(w:fK)(s:NState):fK:=(w.1,s,w.2.2)
def AT(w:fK)(h:dK):fK:=(w.1,w.2.1,w.2.2.1,w.2.2.2.1,w.2.2.2.2.1,h)
def lJ:Int×ad:=(0,[])
def ot(w:fK):bg8×Bool:=gh (mX w.1) (xd w.2.1) w.2.2.2.1
def om(w:fK):NState:=Q7 (F3 w.2.1 (ot w).1) (dS w.1 w.2.2.1)
def po(w:fK):Rt:=cR (cW w.2.1) (o3 w.2.2.2.2.2)
def mh(B:Int->Int->ad)(w:fK):Int:=mr w.1 (om w) (po w) (iF (B (adr w.1 (dS w.1 w.2.2.1)) 0))
def jf(w:fK):Int:=oD w.1 (F3 w.2.1 (ot w).1) (dS w.1 w.2.2.1) w.2.2.2.1 (vJ w.2.2.2.2.2) (o3 w.2.2.2.2.2)
def ly(B:Int->Int->ad)(w:fK)(own:Int):Int:=if own=0 then nU w.1 (dS w.1 w.2.2.1) (mh B w) else own
def fO(B:Int->Int->ad)(E:Int->Int)(w:fK)(own:Int):rm :=
 if own=0/\oA w.1=bZ3 then (w.2.1,lJ,4)
 else if E 0≠0 then (w.2.1,lJ,6)
 else if iw w.2.1 (o3 w.2.2.2.2.2)=bZ6 then (w.2.1,lJ,8)
 else if (ot w).2=bZ6 then (F3 w.2.1 (ot w).1,lJ,5)
 else (jk (om w) (po w),(mh B w,B (ly B w own) (jf w)),2)
def jJ(w:fK)(f i:Int):ad:=lS w.2.2.2.2.1 f i (lK w.1)
def pd(w:fK)(i:Int):Int:=jd w.2.2.2.2.1 i (lK w.1)
def gI(w:fK)(kind code f i:Int):ad:=kU w.2.2.2.2.1 f kind code i (lK w.1)
def pf(w:fK)(kind code i:Int):Int:=iW w.2.2.2.2.1 kind code i (lK w.1)
def kF(w:fK):rm :=
 if w.2.2.1 = -1∨pd w 0≠0 then (w.2.1,lJ,1)
 else fO (jJ w) (pd w) w (if Fu w.2.2.2.2.2=17 then 0 else me w.2.2.2.2.2)
def gE(w:fK):rm :=
 if w.2.2.1 ≠ -1/\gB w.1=bZ6/\DM w.2.2.2.2.2<2 then fO (gI w 11 0) (pf w 11 0) w 0
 else if iw w.2.1 (me w.2.2.2.2.2)=bZ6 then (if w.2.2.1 = -1 then (w.2.1,lJ,8) else fO (gI w 3 0) (pf w 3 0) w 0)
 else (jk w.2.1 (cR (cW w.2.1) (me w.2.2.2.2.2)),(mr w.1 w.2.1 (cR (cW w.2.1) (me w.2.2.2.2.2)) (iF w.2.2.2.2.1),if w.2.2.1 ≠ -1/\gB w.1=bZ6 then lE w.2.2.2.2.1 else w.2.2.2.2.1),0)
def ia(w:fK):rm :=
 if dN w.2.2.2.2.1≠0 then (w.2.1,lJ,6)
 else if oZ w.1 (me (cJ w.2.2.2.2.1).1)=bZ3 then kF (AT w (cJ w.2.2.2.2.1).1)
 else if qf w.1=bZ3/\w.2.2.1 ≠ -1 then (w.2.1,lJ,6)
 else gE (AT w (cJ w.2.2.2.2.1).1)
def gH(x:au)(s:NState)(link at':Int)(b:ad):rm:=ia (x,s,link,at',b,tM)
def sD(w:fK):Prop:=dU (cW w.2.1)/\okL (cW w.2.1)/\(be w.2.2.2.2.1:Int)<=1000000
theorem YN{way seed:Int}{k:lD}{count n:Int}(h:1<=n):0<=(qA way seed k count n).1/\(qA way seed k count n).1<n:=by
 have h1:=GU seed k
 have h2:=GU seed (k.1,k.2.1,0,0,0)
 unfold qA
 split
 .exact⟨io _,by show (0:Int)<n;omega⟩
 next hn=>
  dsimp only;split
  .exact⟨cl6 _ h1.1,cm8 _ ab⟩
  .split
   .exact⟨cl6 _ h2.1,cm8 _ ab⟩
   .exact⟨cl6 _ ab,cm8 _ ab⟩
theorem Kw{r:rm}{s:NState}{o:bY9}{y:Int}(w:fK)(e:r=(s,o,y)):o=r.2.1/\y=r.2.2/\jM w s=jM w r.1:=by subst e;exact⟨rfl,rfl,rfl⟩
theorem A5{B:Int->Int->ad}{E:Int->Int}{w:fK}{own:Int}(h:own=0/\oA w.1=bZ3):fO B E w own=(w.2.1,lJ,4):=by unfold fO;rw[aj h]
theorem BA{B:Int->Int->ad}{E:Int->Int}{w:fK}{own:Int}(h:¬ (own=0/\oA w.1=bZ3))(h1:E 0≠0):fO B E w own=(w.2.1,lJ,6):=by unfold fO;rw[ah h,aj h1]
theorem CE{B:Int->Int->ad}{E:Int->Int}{w:fK}{own:Int}(h:¬ (own=0/\oA w.1=bZ3))(h1:¬ E 0≠0)(h2:iw w.2.1 (o3 w.2.2.2.2.2)=bZ6):fO B E w own=(w.2.1,lJ,8):=by
 unfold fO;rw[ah h,ah h1,aj h2]
theorem D9{B:Int->Int->ad}{E:Int->Int}{w:fK}{own:Int}(h:¬ (own=0/\oA w.1=bZ3))(h1:¬ E 0≠0)(h2:¬ iw w.2.1 (o3 w.2.2.2.2.2)=bZ6)(h3:(ot w).2=bZ6):fO B E w own=(F3 w.2.1 (ot w).1,lJ,5):=by
 unfold fO;rw[ah h,ah h1,ah h2,aj h3]
theorem Dn{B:Int->Int->ad}{E:Int->Int}{w:fK}{own:Int}(h:¬ (own=0/\oA w.1=bZ3))(h1:¬ E 0≠0)(h2:¬ iw w.2.1 (o3 w.2.2.2.2.2)=bZ6)(h3:¬ (ot w).2=bZ6) :
  fO B E w own=(jk (om w) (po w),(mh B w,B (ly B w own) (jf w)),2):=by
 unfold fO;rw[ah h,ah h1,ah h2,ah h3]
theorem Gi{s:NState}{a:Int}(h:¬ iw s a=bZ6):(cR (cW s) a).2.1≠[]:=by
 intro e;apply h;unfold iw;rw[e];simp
theorem OO(p:ny):(be (gM p):Int)<=1500:=by
 unfold gM
 split
 next h=>
  unfold jh at h;split at h
  .cases h
  .split at h
   .cases h
   .rw[bM,wH];omega
 .simp
theorem X7(b:ad)(src kind code id ttl:Int):(be (kU b src kind code id ttl):Int)<=1500:=by
 unfold kU;split
 .exact OO _
 .simp
theorem aC3(b:ad)(src id ttl:Int):(be (lS b src id ttl):Int)<=1500:=by
 unfold lS;split
 .split
  .exact OO _
  .split
   .exact X7 ..
   .exact OO _
 .simp
theorem Ue(w:fK)(f i:Int):(be (jJ w f i):Int)<=1500:=aC3 ..
theorem PX(w:fK)(k c f i:Int):(be (gI w k c f i):Int)<=1500:=X7 ..
theorem J1(x:au)(k:Int):0<=dS x k:=by unfold dS;omega
theorem Ob{l:ad}{i:Int}(h:i<be l):tZ l i=l.set (it i) (bZ4.wrap (Om l (it i) Sk+1)):=aj h
theorem Te{l:ad}{i:Int}(h:¬ i<be l):tZ l i=l:=ah h
def bV6:Ct:=⟨[.box 300 tC],[.val cI],λd=>[],λd=>((dS d.1.1 d.1.2.2.1,()),(d.1,()))⟩
def oY(a:au)(b:List cz)(c:Int)(d:ad×bg8×Int)(e f:Int)(g:ad×dK):=(a,(b,c,d),e,f,g)=(a,(b,c,d),e,f,g)
def ld(a b:Int)(c:ad)(d:dK):=bG a b (aQ c) (CT.wf pC d)
theorem aK2:
 ∀(a:au)(b:List cz)(c:Int)(d:ad)(e f g h i:Int)(j:ad)(k:dK),dW (CT.wf eh a/\gY b c d e f g/\ld h i j k) (max (fS a h) 0=dS a h/\oY a b c (d,(e,f),g) h i (j,k)):= by
  delta aq aK aQ c9 dB aO cS bG gY ai oY dW ld
  intros
  exact⟨rfl,rfl⟩
theorem Zc:aC 302 bV6.spec:=aF Tryz.func302 (ap aD KW) aU aK2
def bP2:Ct:=⟨[.box 300 tC,.val cI],[.val dw],λd=>[],λd=>((adr d.1.1 d.2.1,()),(d.1,()))⟩
theorem ah1:
 ∀(a:au)(b:List cz)(c:Int)(d:ad)(e f g h i:Int)(j:ad)(k:dK)(l:Int),(CT.wf eh a/\gY b c d e f g/\ld h i j k)/\ai (aq l)->True-> ∀(m:Bool),m=dH l->cV m (bR m) (cV m (gq m) (bv m/\ar (bq m (bZ2 (ac a.1<=l))) (0=adr a l/\oY a b c (d,(e,f),g) h i (j,k)) (bJ l (ac a.1) ((ae a.1 l).1=adr a l) (oY a b c (d,(e,f),g) h i (j,k))))):= by
  delta ae ac aq aK aQ bR aJ c9 dB aO cS bG bq cV am bv gq gY ai dA oY bJ dH ax ld
  rintro d x x1 x2 x3 x4 x5 x6 x7 x8 h i - -
  (repeat (refine cL ?_;repeat refine cK ?_))
  refine uH (λho=>?_) (λh1 h2=>?_)
  .unfold adr
   rw[aj (by obtain q|q:=ho <;> have:=aX q <;> first|exact .inl this|exact .inr this)]
   exact⟨rfl,rfl⟩
  .have h1:=bg h1
   have h2:=bg h2
   refine⟨ab,ab,?_,rfl⟩
   unfold adr
   rw[ah (by rintro (q|q);exact h1 q;exact h2 q)]
   rfl
theorem Qh:aC 303 bP2.spec:=aF Tryz.func303 aD aU ah1
def am2:Ct:=⟨[.box 300 tC,.agg fm,.val (.sl bm)],[.val cI],λd=>[d.2.1.2.1≠[],(be d.2.2.1:Int)<=1000000],λd=>((mr d.1.1 d.1.2.1 d.2.1 (iF d.2.2.1),()),(jM d.1 (jk d.1.2.1 d.2.1),()))⟩
theorem ak3:
 ∀(a:au)(b:List cz)(c:Int)(d:ad)(e f g h i:Int)(j:ad)(k:dK)(l m:Int)(n:ad)(o:Int)(p:ad),(CT.wf eh a/\gY b c d e f g/\ld h i j k)/\dB l m n o/\ai (aQ p)->n≠[]/\bV p->ar (iN (ac n)) (bJ 0 (ac n) (ae n 0=mr a (b,c,d,(e,f),g) ((l,m),n,o) (iF p)) ((a,(b,c,d,(e,f),g),h,i,j,k)=jM (a,(b,c,d,(e,f),g),h,i,j,k) (jk (b,c,d,(e,f),g) ((l,m),n,o)))) (aT p/\bJ (qA o a.2.2.2.2.2.2.2.2.2.2.2.2.2.2 (iF p) g (ac n)).1 (ac n) (ae n (qA o a.2.2.2.2.2.2.2.2.2.2.2.2.2.2 (iF p) g (ac n)).1=mr a (b,c,d,(e,f),g) ((l,m),n,o) (iF p)) ((a,(b,c,d,(e,f),ao (g+1)),h,i,j,k)=jM (a,(b,c,d,(e,f),g),h,i,j,k) (jk (b,c,d,(e,f),g) ((l,m),n,o)))):= by
  delta ae ac ao aq aK aQ c9 dB aO cS bG aT am bV gY ai bJ iN ld
  rintro d x x1 x2 x3 x4 x5 x6 x7 x8 h r1 r2 nx bl b-⟨hn,hb⟩
  have hpos:1<=(be nx:Int):=by cases nx with
   | nil=>exact absurd rfl hn
   | cons a l=>simp;omega
  refine ci (λh1=>?_) (λh1=>?_)
  .have h1':be nx=1:=ab
   refine⟨ab,ab,?_,?_⟩
   .unfold mr;rw[aj h1'];rfl
   .unfold jk;rw[aj h1'];rfl
  .have h1':¬ be nx=1:=ab
   have hc:=YN (way:=bl) (seed:=d.2.2.2.2.2.2.2.2.2.2.2.2.2.2) (k:=iF b) (count:=x5) hpos
   refine⟨ab,hc.1,hc.2,?_,?_⟩
   .unfold mr;rw[ah h1'];rfl
   .unfold jk;rw[ah h1'];rfl
theorem OG:aC 276 am2.spec:=aF Tryz.func276 (ap (ap aD aq0) ak4) aU ak3
def au5:Ct:=⟨[.box 300 tC,.val dw],[.agg fm,.val .bool],λd=>[dU (cW d.1.2.1),okL (cW d.1.2.1)],λd=>((cR (cW d.1.2.1) d.2.1,iw d.1.2.1 d.2.1,()),(d.1,()))⟩
def gO(a:List cz)(b:Int)(c:ad)(d e f g:Int):=cR (cW (a,b,c,(d,e),f)) g
theorem aJ3:
 ∀(a:au)(b:List cz)(c:Int)(d:ad)(e f g h i:Int)(j:ad)(k:dK)(l:Int),(CT.wf eh a/\gY b c d e f g/\ld h i j k)/\ai (aO l)->(dU (cW (b,c,d,(e,f),g))/\ac (cW (b,c,d,(e,f),g))<=134217728/\ ∀(m:Rt),m∈cW (b,c,d,(e,f),g)->aT m.2.1)->dU b/\okL b/\ ∀(m:Bool),m=tE b l->fq m m (aJ m) (m->m) (cR b l=gO b c d e f g l/\br m (ax 0 (ac (cR b l).2.1))=iw (b,c,d,(e,f),g) l/\oY a b c (d,(e,f),g) h i (j,k)):= by
  delta ac aq aK aQ aJ c9 dB aO cS bG aT cj br gY fq ai gO oY ax ld
  rintro d x x1 x2 x3 x4 x5 x6 x7 x8 h a-⟨h1,h2⟩
  refine⟨h1,h2,?_⟩
  (repeat (refine cL ?_;repeat refine cK ?_))
  refine⟨rfl,?_,rfl⟩
  show (bif tE x a then bZ2 (0<((cR x a).2.1.length:Int)) else bZ6)=(tE x a&&bZ2 (0<(cR x a).2.1.length))
  cases tE x a <;> simp
theorem Pm:aC 275 au5.spec:=aF Tryz.func275 (ap aD ak0) aU aJ3
def bj2:Ct:=⟨[.val dw,.val cI,.box 298 (.ref 300 tC),.box 3 cI,.box 3 cI],[.own 5 bm,.val cI],λd=>[(be d.2.2.1.2.2.2.2.1:Int)<=1000000],λd=>((gI d.2.2.1 d.2.2.2.1 d.2.2.2.2.1 d.1 d.2.1,pf d.2.2.1 d.2.2.2.1 d.2.2.2.2.1 d.2.1,()),(d.2.2.1,d.2.2.2.1,d.2.2.2.2.1,()))⟩
theorem bB6:
 ∀(a b:Int)(c:au)(d:List cz)(e:Int)(f:ad)(g h i j k:Int)(l:ad)(m:dK)(n o:Int),aO a/\aq b/\(CT.wf eh c/\gY d e f g h i/\ld j k l m)/\dV n o->bV l->aT l/\kU l a n o b c.2.2.2.2.2.2.2.2.2.2.2.2.2.1=gI (c,(d,e,f,(g,h),i),j,k,l,m) n o a b/\iW l n o b c.2.2.2.2.2.2.2.2.2.2.2.2.2.1=pf (c,(d,e,f,(g,h),i),j,k,l,m) n o b/\oY c d e (f,(g,h),i) j k (l,m)/\n=n/\o=o:= by
  delta ac aq aK aQ c9 dB aO cS bG aT bV gY ai dV oY ld
  rintro x x1 d y y1 y2 y3 y4 y5 y6 y7 b h k c-hb
  exact⟨ab,rfl,rfl,rfl,rfl,rfl⟩
theorem aZ0:aC 306 bj2.spec:=aF Tryz.func306 (ap aD UY) aU bB6
def ai9:Ct:=⟨[.box 300 tC,.val cI,.val cI],[.fn 306 3,.box 298 .ali,.box 3 cI,.box 3 cI],λd=>[],λd=>(((),(),d.2.1,d.2.2.1,()),(d.1,()))⟩
theorem bD6:
 ∀(a:au)(b:List cz)(c:Int)(d:ad)(e f g h i:Int)(j:ad)(k:dK)(l m:Int),(CT.wf eh a/\gY b c d e f g/\ld h i j k)/\dV l m->True->()=()/\()=()/\l=l/\m=m/\oY a b c (d,(e,f),g) h i (j,k):= by
  delta aq aK aQ c9 dB aO cS bG gY ai dV oY ld
  intros
  exact⟨rfl,rfl,rfl,rfl,rfl⟩
theorem aw1:aC 274 ai9.spec:=aF Tryz.func274 aD aU bD6
def au1:Ct:=⟨[.val dw,.val cI,.box 298 (.ref 300 tC)],[.own 5 bm,.val cI],λd=>[(be d.2.2.1.2.2.2.2.1:Int)<=1000000],λd=>((jJ d.2.2.1 d.1 d.2.1,pd d.2.2.1 d.2.1,()),(d.2.2.1,()))⟩
theorem ZS:
 ∀(a b:Int)(c:au)(d:List cz)(e:Int)(f:ad)(g h i j k:Int)(l:ad)(m:dK),aO a/\aq b/\ai (CT.wf eh c/\gY d e f g h i/\ld j k l m)->bV l->aT l/\lS l a b c.2.2.2.2.2.2.2.2.2.2.2.2.2.1=jJ (c,(d,e,f,(g,h),i),j,k,l,m) a b/\jd l b c.2.2.2.2.2.2.2.2.2.2.2.2.2.1=pd (c,(d,e,f,(g,h),i),j,k,l,m) b/\oY c d e (f,(g,h),i) j k (l,m):= by
  delta ac aq aK aQ c9 dB aO cS bG aT bV gY ai oY ld
  rintro x x1 d y y1 y2 y3 y4 y5 y6 y7 b h-hb
  exact⟨ab,rfl,rfl,rfl⟩
theorem WR:aC 271 au1.spec:=aF Tryz.func271 (ap aD bO7) aU ZS
def aW2:Ct:=⟨[.box 300 tC,.val cI,.val cI],[.val dw],λd=>[],λd=>((nU d.1.1 d.2.1 d.2.2.1,()),(d.1,()))⟩
theorem bz1:
 ∀(a:au)(b:List cz)(c:Int)(d:ad)(e f g h i:Int)(j:ad)(k:dK)(l m:Int),(CT.wf eh a/\gY b c d e f g/\ld h i j k)/\dV l m->True->ar (bZ2 (a.2.2.2.2.2.1=2)) (adr a (fS a m)=nU a l m/\oY a b c (d,(e,f),g) h i (j,k)) (ar (bZ2 (a.2.2.2.2.2.1=3)) (a.2.1=nU a l m/\oY a b c (d,(e,f),g) h i (j,k)) (ar (bZ2 (a.2.2.2.2.2.1=4)) (a.2.2.2.2.2.2.1=nU a l m/\oY a b c (d,(e,f),g) h i (j,k)) (adr a l=nU a l m/\oY a b c (d,(e,f),g) h i (j,k)))):= by
  delta aq aK aQ c9 dB aO cS bG gY ai dV oY ld
  rintro d x x1 x2 x3 x4 x5 x6 x7 x8 h i l - -
  unfold nU oQ kL uV
  refine aw (λh1=>?_) (λh1=>?_)
  .rw[aj (aX h1)];exact⟨rfl,rfl⟩
  rw[ah (bg h1)]
  refine aw (λh2=>?_) (λh2=>?_)
  .rw[aj (aX h2)];exact⟨rfl,rfl⟩
  rw[ah (bg h2)]
  refine aw (λh3=>?_) (λh3=>?_)
  .rw[aj (aX h3)];exact⟨rfl,rfl⟩
  rw[ah (bg h3)]
  exact⟨rfl,rfl⟩
theorem Tk:aC 305 aW2.spec:=aF Tryz.func305 (ap (ap aD KW) Qh) aU bz1
def VV:Ct:=⟨[.box 300 tC,.fn 271 1,.box 298 .ali,.val dw],[.agg Bs,.val cI],λd=>[sD d.1],λd=>(((fO (jJ d.1) (pd d.1) d.1 d.2.2.2.1).2.1,(fO (jJ d.1) (pd d.1) d.1 d.2.2.2.1).2.2,()),(jM d.1 (fO (jJ d.1) (pd d.1) d.1 d.2.2.2.1).1,(),()))⟩
def az2:bw VV.ps->bL:=(λd=>{cuts:=(bu 17 (λS=>{ι:=Int×ad×bg8,qn:=oB,inv:=λi=>fO (jJ d.1) (pd d.1) d.1 d.2.2.2.1=(jk (om d.1) (po d.1),(mh (jJ d.1) d.1,(jJ d.1) (ly (jJ d.1) d.1 d.2.2.2.1) (jf d.1)),2)/\(po d.1).2.1≠[]/\(cW d.1.2.1,i.1,i.2.1,i.2.2,o5 d.1.2.1)=om d.1,keep:=[0,1,2,6,9,11],slots:=λi=>[(8,.int .i64 (dS d.1.1 d.1.2.2.1)),(13,.int .i64 (jf d.1))],keepN:=[112,192,560,1048577],names:=λi=>[(1048576,.live (.cells 300 (cF eh d.1.1++([.dsl fm (cW d.1.2.1),.int .i64 i.1,.own 524288 1]++(cF yT i.2.2++([.int .i64 (o5 d.1.2.1),.int .i64 d.1.2.2.1,.int .i64 d.1.2.2.2.1,.dsl bm d.1.2.2.2.2.1]++cF pC d.1.2.2.2.2.2)))))),(524288,.live (.row 3 cI i.2.1))]}) cC)})
def jK(a:au)(b:NState×Int×Int×ad×dK)(c:List cz×Int×ad×bg8×Int)(d:Int×Int×ad×dK)(e:Int):=fO (jJ (a,b)) (pd (a,b)) (a,c,d) e
def px(a:ad)(b:Int):=set a (it b) (ao (ae a b+1))
def xP(a:List cz)(b:Int)(c:ad)(d e f:Int)(g:ad):=dU (cW (a,b,c,(d,e),f))/\okL (cW (a,b,c,(d,e),f))/\bV g
def x9(a:au)(b:List cz)(c:bZ0)(d:Int)(e:Int×ad×dK):=jJ (a,(b,c),d,e) (adr a (dS a d)) 0
def zA(a:au)(b:List cz)(c:bZ0)(d:Int)(e:Int×ad×dK):=jk (om (a,(b,c),d,e)) (po (a,(b,c),d,e))
def DA(a b:Bool)(c d:Prop):=∀(e:Bool),e=a->fq e e (aJ e) (e->aJ e) ((e->e)/\ar (br e b) c d)
def Dh(a:List cz)(b:Int)(c:ad)(d e f g:Int):=(gO a b c d e f g).2.1=(gO a b c d e f g).2.1
def Ec(a:List cz)(b:Int)(c:ad)(d e f g:Int):=(gO a b c d e f g).2.2=(gO a b c d e f g).2.2
def AK(a:au×NState×Int×Int×ad×dK)(b:List cz×Int×ad×bg8×Int)(c:Int)(d:ad×bg8×Int)(e:au)(f:NState×Int×Int×ad×dK):=(po a).2.1≠[]/\(cW b,c,d)=om (e,f)
def Kv(a:au)(b:NState×Int×Int×ad×dK)(c:List cz×Int×ad×bg8×Int)(d:Int×Int×ad×dK)(e:au×NState×Int×Int×ad×dK)(f:Int):=((mh (jJ (a,b)) (a,c,d),jJ (a,c,d) (ly (jJ e) (a,b) f) (jf (a,b))),(2:Int))
theorem ah5:
 ∀(a:au)(b:List cz)(c:Int)(d:ad)(e f g h i:Int)(j:ad)(k:dK)(l:Int),(CT.wf eh a/\gY b c d e f g/\ld h i j k)/\True/\True/\ai (aO l)->xP b c d e f g j->DA (aV l) a.2.2.2.2.2.2.2.2.2.2.2.1 (fL=(jK a ((b,c,d,(e,f),g),h,i,j,k) (b,c,d,(e,f),g) (h,i,j,k) l).2.1/\4=(jK a ((b,c,d,(e,f),g),h,i,j,k) (b,c,d,(e,f),g) (h,i,j,k) l).2.2/\(a,(b,c,d,(e,f),g),h,i,j,k)=jM (a,(b,c,d,(e,f),g),h,i,j,k) (jK a ((b,c,d,(e,f),g),h,i,j,k) (b,c,d,(e,f),g) (h,i,j,k) l).1/\()=()) (bV j/\ar ( !aV (pd (a,(b,c,d,(e,f),g),h,i,j,k) 0)) (fL=(jK a ((b,c,d,(e,f),g),h,i,j,k) (b,c,d,(e,f),g) (h,i,j,k) l).2.1/\6=(jK a ((b,c,d,(e,f),g),h,i,j,k) (b,c,d,(e,f),g) (h,i,j,k) l).2.2/\(a,(b,c,d,(e,f),g),h,i,j,k)=jM (a,(b,c,d,(e,f),g),h,i,j,k) (jK a ((b,c,d,(e,f),g),h,i,j,k) (b,c,d,(e,f),g) (h,i,j,k) l).1/\()=()) (dU (cW (b,c,d,(e,f),g))/\okL (cW
 (b,c,d,(e,f),g))/\lY (iw (b,c,d,(e,f),g) k.2.2.2.2.2.1) (fL=(jK a ((b,c,d,(e,f),g),h,i,j,k) (b,c,d,(e,f),g) (h,i,j,k) l).2.1) (8=(jK a ((b,c,d,(e,f),g),h,i,j,k) (b,c,d,(e,f),g) (h,i,j,k) l).2.2/\(a,(b,c,d,(e,f),g),h,i,j,k)=jM (a,(b,c,d,(e,f),g),h,i,j,k) (jK a ((b,c,d,(e,f),g),h,i,j,k) (b,c,d,(e,f),g) (h,i,j,k) l).1/\()=()) ( !(gh a.2.2.2.2.2.2.2.2.2.2.1 (e,f) i).2) (fL=(jK a ((b,c,d,(e,f),g),h,i,j,k) (b,c,d,(e,f),g) (h,i,j,k) l).2.1/\5=(jK a ((b,c,d,(e,f),g),h,i,j,k) (b,c,d,(e,f),g) (h,i,j,k) l).2.2/\(a,(b,c,d,(gh a.2.2.2.2.2.2.2.2.2.2.1 (e,f) i).1,g),h,i,j,k)=jM (a,(b,c,d,(e,f),g),h,i,j,k) (jK a ((b,c,d,(e,f),g),h,i,j,k) (b,c,d,(e,f),g) (h,i,j,k) l).1/\()=()) (ar (ax (dS a h) (ac d)) (am (dS a h) (dS a h<ac d) (am (dS a h) (dS a h<ac d) (∃(m:Int) (n:ad) (o:bg8),(jK a ((b,c,d,(e,f),g),h,i,j,k) (b,c,d,(e,f),g) (h,i,j,k) l=(zA
 a b (c,d,(e,f),g) h (i,j,k),Kv a ((b,c,d,(e,f),g),h,i,j,k) (b,c,d,(e,f),g) (h,i,j,k) (a,(b,c,d,(e,f),g),h,i,j,k) l)/\AK (a,(b,c,d,(e,f),g),h,i,j,k) (b,c,d,(e,f),g) m (n,o,o5 (b,c,d,(e,f),g)) a ((b,c,d,(e,f),g),h,i,j,k))/\bp l (dS a h) (oD a (b,c,d,(gh a.2.2.2.2.2.2.2.2.2.2.1 (e,f) i).1,g) (dS a h) i k.2.1 k.2.2.2.2.2.1=jf (a,(b,c,d,(e,f),g),h,i,j,k)) (bN 0 (gO b c d e f g k.2.2.2.2.2.1).1.1 (gO b c d e f g k.2.2.2.2.2.1).1.2 (Dh b c d e f g k.2.2.2.2.2.1) (Ec b c d e f g k.2.2.2.2.2.1/\x9 a b (c,d,(e,f),g) h (i,j,k)=x9 a b (c,d,(e,f),g) h (i,j,k)/\a.1=a.1/\lp a.2.1 a.2.2.1 a.2.2.2.1 (a.2.2.2.2.1=a.2.2.2.2.1) (aZ a.2.2.2.2.2.1 a.2.2.2.2.2.2.1 a.2.2.2.2.2.2.2.1 a.2.2.2.2.2.2.2.2.1 (a.2.2.2.2.2.2.2.2.2.1=a.2.2.2.2.2.2.2.2.2.1) (lp a.2.2.2.2.2.2.2.2.2.2.1.1 a.2.2.2.2.2.2.2.2.2.2.1.2 a.2.2.2.2.2.2.2.2.2.2.2.1
 (a.2.2.2.2.2.2.2.2.2.2.2.2.1=a.2.2.2.2.2.2.2.2.2.2.2.2.1) (bp a.2.2.2.2.2.2.2.2.2.2.2.2.2.1 a.2.2.2.2.2.2.2.2.2.2.2.2.2.2 (b=cW (b,c,d,(e,f),g)) (bf c m/\bn (gh a.2.2.2.2.2.2.2.2.2.2.1 (e,f) i).1.1 o.1 (gh a.2.2.2.2.2.2.2.2.2.2.1 (e,f) i).1.2 o.2 (g=o5 (b,c,d,(e,f),g)) (bp h i (j=j) (aZ k.1 k.2.1 k.2.2.1 k.2.2.2.1 (k.2.2.2.2.1=k.2.2.2.2.1) (bp k.2.2.2.2.2.1 k.2.2.2.2.2.2 (px d (dS a h)=n) True)))))))))))) (∃(m:Int) (n:ad) (o:bg8),(jK a ((b,c,d,(e,f),g),h,i,j,k) (b,c,d,(e,f),g) (h,i,j,k) l=(zA a b (c,d,(e,f),g) h (i,j,k),Kv a ((b,c,d,(e,f),g),h,i,j,k) (b,c,d,(e,f),g) (h,i,j,k) (a,(b,c,d,(e,f),g),h,i,j,k) l)/\AK (a,(b,c,d,(e,f),g),h,i,j,k) (b,c,d,(e,f),g) m (n,o,o5 (b,c,d,(e,f),g)) a ((b,c,d,(e,f),g),h,i,j,k))/\bp l (dS a h) (oD a (b,c,d,(gh a.2.2.2.2.2.2.2.2.2.2.1 (e,f) i).1,g) (dS a h) i k.2.1 k.2.2.2.2.2.1=jf
 (a,(b,c,d,(e,f),g),h,i,j,k)) (bN 0 (gO b c d e f g k.2.2.2.2.2.1).1.1 (gO b c d e f g k.2.2.2.2.2.1).1.2 (Dh b c d e f g k.2.2.2.2.2.1) (Ec b c d e f g k.2.2.2.2.2.1/\x9 a b (c,d,(e,f),g) h (i,j,k)=x9 a b (c,d,(e,f),g) h (i,j,k)/\a.1=a.1/\lp a.2.1 a.2.2.1 a.2.2.2.1 (a.2.2.2.2.1=a.2.2.2.2.1) (aZ a.2.2.2.2.2.1 a.2.2.2.2.2.2.1 a.2.2.2.2.2.2.2.1 a.2.2.2.2.2.2.2.2.1 (a.2.2.2.2.2.2.2.2.2.1=a.2.2.2.2.2.2.2.2.2.1) (lp a.2.2.2.2.2.2.2.2.2.2.1.1 a.2.2.2.2.2.2.2.2.2.2.1.2 a.2.2.2.2.2.2.2.2.2.2.2.1 (a.2.2.2.2.2.2.2.2.2.2.2.2.1=a.2.2.2.2.2.2.2.2.2.2.2.2.1) (bp a.2.2.2.2.2.2.2.2.2.2.2.2.2.1 a.2.2.2.2.2.2.2.2.2.2.2.2.2.2 (b=cW (b,c,d,(e,f),g)) (bf c m/\bn (gh a.2.2.2.2.2.2.2.2.2.2.1 (e,f) i).1.1 o.1 (gh a.2.2.2.2.2.2.2.2.2.2.1 (e,f) i).1.2 o.2 (g=o5 (b,c,d,(e,f),g)) (bp h i (j=j) (aZ k.1 k.2.1 k.2.2.1 k.2.2.2.1 (k.2.2.2.2.1=k.2.2.2.2.1) (bp
 k.2.2.2.2.2.1 k.2.2.2.2.2.2 (d=n) True))))))))))/\ ∀(m:Int)(n:ad)(o:bg8),jK a ((b,c,d,(e,f),g),h,i,j,k) (b,c,d,(e,f),g) (h,i,j,k) l=(zA a b (c,d,(e,f),g) h (i,j,k),Kv a ((b,c,d,(e,f),g),h,i,j,k) (b,c,d,(e,f),g) (h,i,j,k) (a,(b,c,d,(e,f),g),h,i,j,k) l)/\AK (a,(b,c,d,(e,f),g),h,i,j,k) (b,c,d,(e,f),g) m (n,o,o5 (b,c,d,(e,f),g)) a ((b,c,d,(e,f),g),h,i,j,k)->(gO b c d e f g k.2.2.2.2.2.1).2.1≠[]/\bV (x9 a b (c,d,(e,f),g) h (i,j,k))/\ar (aV l) (bV j/\(mr a (b,m,n,o,g) (gO b c d e f g k.2.2.2.2.2.1) (iF (x9 a b (c,d,(e,f),g) h (i,j,k))),jJ (a,jk (b,m,n,o,g) (gO b c d e f g k.2.2.2.2.2.1),h,i,j,k) (nU a (dS a h) (mr a (b,m,n,o,g) (gO b c d e f g k.2.2.2.2.2.1) (iF (x9 a b (c,d,(e,f),g) h (i,j,k))))) (jf (a,(b,c,d,(e,f),g),h,i,j,k)))=(jK a ((b,c,d,(e,f),g),h,i,j,k) (b,c,d,(e,f),g) (h,i,j,k) l).2.1/\2=(jK a
 ((b,c,d,(e,f),g),h,i,j,k) (b,c,d,(e,f),g) (h,i,j,k) l).2.2/\(a,jk (b,m,n,o,g) (gO b c d e f g k.2.2.2.2.2.1),h,i,j,k)=jM (a,(b,c,d,(e,f),g),h,i,j,k) (jK a ((b,c,d,(e,f),g),h,i,j,k) (b,c,d,(e,f),g) (h,i,j,k) l).1/\()=()) (bV j/\(mr a (b,m,n,o,g) (gO b c d e f g k.2.2.2.2.2.1) (iF (x9 a b (c,d,(e,f),g) h (i,j,k))),jJ (a,jk (b,m,n,o,g) (gO b c d e f g k.2.2.2.2.2.1),h,i,j,k) l (jf (a,(b,c,d,(e,f),g),h,i,j,k)))=(jK a ((b,c,d,(e,f),g),h,i,j,k) (b,c,d,(e,f),g) (h,i,j,k) l).2.1/\2=(jK a ((b,c,d,(e,f),g),h,i,j,k) (b,c,d,(e,f),g) (h,i,j,k) l).2.2/\(a,jk (b,m,n,o,g) (gO b c d e f g k.2.2.2.2.2.1),h,i,j,k)=jM (a,(b,c,d,(e,f),g),h,i,j,k) (jK a ((b,c,d,(e,f),g),h,i,j,k) (b,c,d,(e,f),g) (h,i,j,k) l).1/\()=())))):= by
  delta ae ac ao aq aK aZ bN aQ bp aJ c9 dB aO cS bG cj br am aV bV jK gY fq px ai gO fL bf lp xP x9 zA DA Dh Ec AK ax bn ld Kv lY
  rintro d x x1 x2 x3 x4 x5 x6 x7 x8 h own-⟨hs,hl,hb⟩
  obtain⟨w,hw⟩:∃ w,w=(d,(x,x1,x2,(x3,x4),x5),x6,x7,x8,h):=⟨_,rfl⟩
  have e0:d.2.2.2.2.2.2.2.2.2.2.2.1=oA w.1:=by rw[hw];rfl
  have e2:iw (x,x1,x2,(x3,x4),x5) h.2.2.2.2.2.1=iw w.2.1 (o3 w.2.2.2.2.2):=by rw[hw];rfl
  have e3:gh d.2.2.2.2.2.2.2.2.2.2.1 (x3,x4) x7=ot w:=by rw[hw];rfl
  rw[e0,e2,e3,← hw]
  have fin:=λ{s o y}=>Kw (r:=fO (jJ w) (pd w) w own) (s:=s) (o:=o) (y:=y) w
  intro b hb0
  (repeat refine⟨(by first|(simp;done)|(rw[hb0];simp;done)|(cases b <;> simp)),?_⟩)
  have hq:(bif b then oA w.1 else bZ6)=bZ3↔own=0/\oA w.1=true:=by rw[hb0];by_cases k:own=0 <;> simp[k]
  refine aw (λh0=>?_) (λh0=>?_)
  .have ⟨f1,f2,f3⟩:=fin (A5 (hq.1 h0))
   exact⟨f1,f2,by rw[← f3,hw];rfl,rfl⟩
  have h0:¬ (own=0/\oA w.1=bZ3):=λk=>by rw[hq.2 k] at h0;cases h0
  refine⟨hb,aw (λh1=>?_) (λh1=>?_)⟩
  .have ⟨f1,f2,f3⟩:=fin (BA h0 (by simpa using h1))
   exact⟨f1,f2,by rw[← f3,hw];rfl,rfl⟩
  have h1:¬ (pd w) 0≠0:=by simpa using h1
  refine⟨hs,hl,aw (λh2=>?_) (λh2=>?_)⟩
  .have ⟨f1,f2,f3⟩:=fin (CE h0 h1 (by simpa using h2))
   exact⟨f1,f2,by rw[← f3,hw];rfl,rfl⟩
  have h2:¬ iw w.2.1 (o3 w.2.2.2.2.2)=false:=by simpa using h2
  refine aw (λh3=>?_) (λh3=>⟨?_,?_⟩)
  .have ⟨f1,f2,f3⟩:=fin (D9 h0 h1 h2 (by simpa using h3))
   exact⟨f1,f2,by rw[← f3,hw];rfl,rfl⟩
  .have h3:¬ (ot w).2=false:=by simpa using h3
   have eg:=Dn (B:=jJ w) h0 h1 h2 h3
   have hne:=Gi h2
   have hin:=J1 d x6
   have vJ:oD d (x,x1,x2,(ot w).1,x5) (dS d x6) x7 h.2.1 h.2.2.2.2.2.1=jf w:=by rw[← e3,hw];rfl
   have hS:om w=(x,bZ4.wrap (x1+1),tZ x2 (dS d x6),(ot w).1,x5):=by rw[← e3,hw];rfl
   refine ci (λh4=>?_) (λh4=>?_)
   .refine⟨hin,h4,hin,h4,_,_,_,⟨eg,hne,?_⟩,rfl,rfl,vJ,aI⟩
    rw[hS,Ob h4];rfl
   .refine⟨_,_,_,⟨eg,hne,?_⟩,rfl,rfl,vJ,aI⟩
    rw[hS,Te h4];rfl
  .rintro k l t ⟨eg,hne,hS⟩
   have e4:cR (cW (x,x1,x2,(x3,x4),x5)) h.2.2.2.2.2.1=po w:=by rw[hw];rfl
   have e5:(x,k,l,t,x5)=om w:=hS
   have e6:mr d (om w) (po w) (iF ((jJ w) (adr d (dS d x6)) 0))=mh (jJ w) w:=by rw[hw];rfl
   rw[e4,e5,e6]
   have ⟨f1,f2,f3⟩:=fin eg
   have hlen:=Ue w (adr d (dS d x6)) 0
   refine⟨hne,ab,ci (λh4=>?_) (λh4=>?_)⟩
   .refine⟨hb,?_,f2,by rw[← f3,hw];rfl,rfl⟩
    rw[← f1];unfold ly;rw[aj h4,hw];rfl
   .refine⟨hb,?_,f2,by rw[← f3,hw];rfl,rfl⟩
    rw[← f1];unfold ly;rw[ah h4,hw];rfl
theorem bT2:aC 273 VV.spec:=aF Tryz.func273 (ap (ap (ap (ap (ap (ap (ap (ap aD Zc) Qh) WR) Pm) Ow) X5) OG) Tk) az2 ah5
def WE:Ct:=⟨[.box 300 tC,.fn 306 3,.box 298 .ali,.box 3 cI,.box 3 cI,.val dw],[.agg Bs,.val cI],λd=>[sD d.1],λd=>(((fO (gI d.1 d.2.2.2.1 d.2.2.2.2.1) (pf d.1 d.2.2.2.1 d.2.2.2.2.1) d.1 d.2.2.2.2.2.1).2.1,(fO (gI d.1 d.2.2.2.1 d.2.2.2.2.1) (pf d.1 d.2.2.2.1 d.2.2.2.2.1) d.1 d.2.2.2.2.2.1).2.2,()),(jM d.1 (fO (gI d.1 d.2.2.2.1 d.2.2.2.2.1) (pf d.1 d.2.2.2.1 d.2.2.2.2.1) d.1 d.2.2.2.2.2.1).1,(),d.2.2.2.1,d.2.2.2.2.1,()))⟩
def bt4:bw WE.ps->bL:=(λd=>{cuts:=(bu 17 (λS=>{ι:=Int×ad×bg8,qn:=oB,inv:=λi=>fO (gI d.1 d.2.2.2.1 d.2.2.2.2.1) (pf d.1 d.2.2.2.1 d.2.2.2.2.1) d.1 d.2.2.2.2.2.1=(jk (om d.1) (po d.1),(mh (gI d.1 d.2.2.2.1 d.2.2.2.2.1) d.1,(gI d.1 d.2.2.2.1 d.2.2.2.2.1) (ly (gI d.1 d.2.2.2.1 d.2.2.2.2.1) d.1 d.2.2.2.2.2.1) (jf d.1)),2)/\(po d.1).2.1≠[]/\(cW d.1.2.1,i.1,i.2.1,i.2.2,o5 d.1.2.1)=om d.1,keep:=[0,1,2,6,9,11],slots:=λi=>[(8,.int .i64 (dS d.1.1 d.1.2.2.1)),(13,.int .i64 (jf d.1))],keepN:=[112,192,560,1048577,1048578,1048579],names:=λi=>[(1048576,.live (.cells 300 (cF eh d.1.1++([.dsl fm (cW d.1.2.1),.int .i64 i.1,.own 524288 1]++(cF yT i.2.2++([.int .i64 (o5 d.1.2.1),.int .i64 d.1.2.2.1,.int .i64 d.1.2.2.2.1,.dsl bm d.1.2.2.2.2.1]++cF pC d.1.2.2.2.2.2)))))),(524288,.live (.row 3 cI i.2.1))]}) cC)})
def jQ(a:au)(b:NState×Int×Int×ad×dK)(c d:Int)(e:List cz×Int×ad×bg8×Int)(f:Int×Int×ad×dK)(g:Int):=fO (gI (a,b) c d) (pf (a,b) c d) (a,e,f) g
def yE(a:au)(b:List cz)(c:bZ0)(d:Int)(e:Int×ad×dK)(f g:Int):=gI (a,(b,c),d,e) f g (adr a (dS a d)) 0
def Bd(a b:Int):=()=()/\a=a/\b=b
theorem aG3:
 ∀(a:au)(b:List cz)(c:Int)(d:ad)(e f g h i:Int)(j:ad)(k:dK)(l m n:Int),(CT.wf eh a/\gY b c d e f g/\ld h i j k)/\True/\True/\bG l m (aO n) True->xP b c d e f g j->DA (aV n) a.2.2.2.2.2.2.2.2.2.2.2.1 (fL=(jQ a ((b,c,d,(e,f),g),h,i,j,k) l m (b,c,d,(e,f),g) (h,i,j,k) n).2.1/\4=(jQ a ((b,c,d,(e,f),g),h,i,j,k) l m (b,c,d,(e,f),g) (h,i,j,k) n).2.2/\(a,(b,c,d,(e,f),g),h,i,j,k)=jM (a,(b,c,d,(e,f),g),h,i,j,k) (jQ a ((b,c,d,(e,f),g),h,i,j,k) l m (b,c,d,(e,f),g) (h,i,j,k) n).1/\Bd l m) (bV j/\ar ( !aV (pf (a,(b,c,d,(e,f),g),h,i,j,k) l m 0)) (fL=(jQ a ((b,c,d,(e,f),g),h,i,j,k) l m (b,c,d,(e,f),g) (h,i,j,k) n).2.1/\6=(jQ a ((b,c,d,(e,f),g),h,i,j,k) l m (b,c,d,(e,f),g) (h,i,j,k) n).2.2/\(a,(b,c,d,(e,f),g),h,i,j,k)=jM (a,(b,c,d,(e,f),g),h,i,j,k) (jQ a ((b,c,d,(e,f),g),h,i,j,k) l m (b,c,d,(e,f),g) (h,i,j,k) n).1/\Bd l m) (dU
 (cW (b,c,d,(e,f),g))/\okL (cW (b,c,d,(e,f),g))/\lY (iw (b,c,d,(e,f),g) k.2.2.2.2.2.1) (fL=(jQ a ((b,c,d,(e,f),g),h,i,j,k) l m (b,c,d,(e,f),g) (h,i,j,k) n).2.1) (8=(jQ a ((b,c,d,(e,f),g),h,i,j,k) l m (b,c,d,(e,f),g) (h,i,j,k) n).2.2/\(a,(b,c,d,(e,f),g),h,i,j,k)=jM (a,(b,c,d,(e,f),g),h,i,j,k) (jQ a ((b,c,d,(e,f),g),h,i,j,k) l m (b,c,d,(e,f),g) (h,i,j,k) n).1/\Bd l m) ( !(gh a.2.2.2.2.2.2.2.2.2.2.1 (e,f) i).2) (fL=(jQ a ((b,c,d,(e,f),g),h,i,j,k) l m (b,c,d,(e,f),g) (h,i,j,k) n).2.1/\5=(jQ a ((b,c,d,(e,f),g),h,i,j,k) l m (b,c,d,(e,f),g) (h,i,j,k) n).2.2/\(a,(b,c,d,(gh a.2.2.2.2.2.2.2.2.2.2.1 (e,f) i).1,g),h,i,j,k)=jM (a,(b,c,d,(e,f),g),h,i,j,k) (jQ a ((b,c,d,(e,f),g),h,i,j,k) l m (b,c,d,(e,f),g) (h,i,j,k) n).1/\Bd l m) (ar (ax (dS a h) (ac d)) (am (dS a h) (dS a h<ac d) (am (dS a h) (dS a h<ac d) (∃(o:Int) (p:ad)
 (q:bg8),(jQ a ((b,c,d,(e,f),g),h,i,j,k) l m (b,c,d,(e,f),g) (h,i,j,k) n=(zA a b (c,d,(e,f),g) h (i,j,k),(mh (gI (a,(b,c,d,(e,f),g),h,i,j,k) l m) (a,(b,c,d,(e,f),g),h,i,j,k),gI (a,(b,c,d,(e,f),g),h,i,j,k) l m (ly (gI (a,(b,c,d,(e,f),g),h,i,j,k) l m) (a,(b,c,d,(e,f),g),h,i,j,k) n) (jf (a,(b,c,d,(e,f),g),h,i,j,k))),2)/\AK (a,(b,c,d,(e,f),g),h,i,j,k) (b,c,d,(e,f),g) o (p,q,o5 (b,c,d,(e,f),g)) a ((b,c,d,(e,f),g),h,i,j,k))/\bp n (dS a h) (oD a (b,c,d,(gh a.2.2.2.2.2.2.2.2.2.2.1 (e,f) i).1,g) (dS a h) i k.2.1 k.2.2.2.2.2.1=jf (a,(b,c,d,(e,f),g),h,i,j,k)) (bN 0 (gO b c d e f g k.2.2.2.2.2.1).1.1 (gO b c d e f g k.2.2.2.2.2.1).1.2 (Dh b c d e f g k.2.2.2.2.2.1) (Ec b c d e f g k.2.2.2.2.2.1/\yE a b (c,d,(e,f),g) h (i,j,k) l m=yE a b (c,d,(e,f),g) h (i,j,k) l m/\bp l m (a.1=a.1) (lp a.2.1 a.2.2.1 a.2.2.2.1
 (a.2.2.2.2.1=a.2.2.2.2.1) (aZ a.2.2.2.2.2.1 a.2.2.2.2.2.2.1 a.2.2.2.2.2.2.2.1 a.2.2.2.2.2.2.2.2.1 (a.2.2.2.2.2.2.2.2.2.1=a.2.2.2.2.2.2.2.2.2.1) (lp a.2.2.2.2.2.2.2.2.2.2.1.1 a.2.2.2.2.2.2.2.2.2.2.1.2 a.2.2.2.2.2.2.2.2.2.2.2.1 (a.2.2.2.2.2.2.2.2.2.2.2.2.1=a.2.2.2.2.2.2.2.2.2.2.2.2.1) (bp a.2.2.2.2.2.2.2.2.2.2.2.2.2.1 a.2.2.2.2.2.2.2.2.2.2.2.2.2.2 (b=cW (b,c,d,(e,f),g)) (bf c o/\bn (gh a.2.2.2.2.2.2.2.2.2.2.1 (e,f) i).1.1 q.1 (gh a.2.2.2.2.2.2.2.2.2.2.1 (e,f) i).1.2 q.2 (g=o5 (b,c,d,(e,f),g)) (bp h i (j=j) (aZ k.1 k.2.1 k.2.2.1 k.2.2.2.1 (k.2.2.2.2.1=k.2.2.2.2.1) (bp k.2.2.2.2.2.1 k.2.2.2.2.2.2 (px d (dS a h)=p) True))))))))))))) (∃(o:Int) (p:ad) (q:bg8),(jQ a ((b,c,d,(e,f),g),h,i,j,k) l m (b,c,d,(e,f),g) (h,i,j,k) n=(zA a b (c,d,(e,f),g) h (i,j,k),(mh (gI (a,(b,c,d,(e,f),g),h,i,j,k) l m) (a,(b,c,d,(e,f),g),h,i,j,k),gI
 (a,(b,c,d,(e,f),g),h,i,j,k) l m (ly (gI (a,(b,c,d,(e,f),g),h,i,j,k) l m) (a,(b,c,d,(e,f),g),h,i,j,k) n) (jf (a,(b,c,d,(e,f),g),h,i,j,k))),2)/\AK (a,(b,c,d,(e,f),g),h,i,j,k) (b,c,d,(e,f),g) o (p,q,o5 (b,c,d,(e,f),g)) a ((b,c,d,(e,f),g),h,i,j,k))/\bp n (dS a h) (oD a (b,c,d,(gh a.2.2.2.2.2.2.2.2.2.2.1 (e,f) i).1,g) (dS a h) i k.2.1 k.2.2.2.2.2.1=jf (a,(b,c,d,(e,f),g),h,i,j,k)) (bN 0 (gO b c d e f g k.2.2.2.2.2.1).1.1 (gO b c d e f g k.2.2.2.2.2.1).1.2 (Dh b c d e f g k.2.2.2.2.2.1) (Ec b c d e f g k.2.2.2.2.2.1/\yE a b (c,d,(e,f),g) h (i,j,k) l m=yE a b (c,d,(e,f),g) h (i,j,k) l m/\bp l m (a.1=a.1) (lp a.2.1 a.2.2.1 a.2.2.2.1 (a.2.2.2.2.1=a.2.2.2.2.1) (aZ a.2.2.2.2.2.1 a.2.2.2.2.2.2.1 a.2.2.2.2.2.2.2.1 a.2.2.2.2.2.2.2.2.1 (a.2.2.2.2.2.2.2.2.2.1=a.2.2.2.2.2.2.2.2.2.1) (lp a.2.2.2.2.2.2.2.2.2.2.1.1 a.2.2.2.2.2.2.2.2.2.2.1.2
 a.2.2.2.2.2.2.2.2.2.2.2.1 (a.2.2.2.2.2.2.2.2.2.2.2.2.1=a.2.2.2.2.2.2.2.2.2.2.2.2.1) (bp a.2.2.2.2.2.2.2.2.2.2.2.2.2.1 a.2.2.2.2.2.2.2.2.2.2.2.2.2.2 (b=cW (b,c,d,(e,f),g)) (bf c o/\bn (gh a.2.2.2.2.2.2.2.2.2.2.1 (e,f) i).1.1 q.1 (gh a.2.2.2.2.2.2.2.2.2.2.1 (e,f) i).1.2 q.2 (g=o5 (b,c,d,(e,f),g)) (bp h i (j=j) (aZ k.1 k.2.1 k.2.2.1 k.2.2.2.1 (k.2.2.2.2.1=k.2.2.2.2.1) (bp k.2.2.2.2.2.1 k.2.2.2.2.2.2 (d=p) True)))))))))))/\ ∀(o:Int)(p:ad)(q:bg8),jQ a ((b,c,d,(e,f),g),h,i,j,k) l m (b,c,d,(e,f),g) (h,i,j,k) n=(zA a b (c,d,(e,f),g) h (i,j,k),(mh (gI (a,(b,c,d,(e,f),g),h,i,j,k) l m) (a,(b,c,d,(e,f),g),h,i,j,k),gI (a,(b,c,d,(e,f),g),h,i,j,k) l m (ly (gI (a,(b,c,d,(e,f),g),h,i,j,k) l m) (a,(b,c,d,(e,f),g),h,i,j,k) n) (jf (a,(b,c,d,(e,f),g),h,i,j,k))),2)/\AK (a,(b,c,d,(e,f),g),h,i,j,k) (b,c,d,(e,f),g) o (p,q,o5 (b,c,d,(e,f),g))
 a ((b,c,d,(e,f),g),h,i,j,k)->(gO b c d e f g k.2.2.2.2.2.1).2.1≠[]/\bV (yE a b (c,d,(e,f),g) h (i,j,k) l m)/\ar (aV n) (bV j/\(mr a (b,o,p,q,g) (gO b c d e f g k.2.2.2.2.2.1) (iF (yE a b (c,d,(e,f),g) h (i,j,k) l m)),gI (a,jk (b,o,p,q,g) (gO b c d e f g k.2.2.2.2.2.1),h,i,j,k) l m (nU a (dS a h) (mr a (b,o,p,q,g) (gO b c d e f g k.2.2.2.2.2.1) (iF (yE a b (c,d,(e,f),g) h (i,j,k) l m)))) (jf (a,(b,c,d,(e,f),g),h,i,j,k)))=(jQ a ((b,c,d,(e,f),g),h,i,j,k) l m (b,c,d,(e,f),g) (h,i,j,k) n).2.1/\2=(jQ a ((b,c,d,(e,f),g),h,i,j,k) l m (b,c,d,(e,f),g) (h,i,j,k) n).2.2/\(a,jk (b,o,p,q,g) (gO b c d e f g k.2.2.2.2.2.1),h,i,j,k)=jM (a,(b,c,d,(e,f),g),h,i,j,k) (jQ a ((b,c,d,(e,f),g),h,i,j,k) l m (b,c,d,(e,f),g) (h,i,j,k) n).1/\Bd l m) (bV j/\(mr a (b,o,p,q,g) (gO b c d e f g k.2.2.2.2.2.1) (iF (yE a b (c,d,(e,f),g) h
 (i,j,k) l m)),gI (a,jk (b,o,p,q,g) (gO b c d e f g k.2.2.2.2.2.1),h,i,j,k) l m n (jf (a,(b,c,d,(e,f),g),h,i,j,k)))=(jQ a ((b,c,d,(e,f),g),h,i,j,k) l m (b,c,d,(e,f),g) (h,i,j,k) n).2.1/\2=(jQ a ((b,c,d,(e,f),g),h,i,j,k) l m (b,c,d,(e,f),g) (h,i,j,k) n).2.2/\(a,jk (b,o,p,q,g) (gO b c d e f g k.2.2.2.2.2.1),h,i,j,k)=jM (a,(b,c,d,(e,f),g),h,i,j,k) (jQ a ((b,c,d,(e,f),g),h,i,j,k) l m (b,c,d,(e,f),g) (h,i,j,k) n).1/\Bd l m)))):= by
  delta ae ac ao aq aK aZ bN aQ bp aJ c9 dB aO cS bG cj br am aV jQ bV gY fq px ai gO fL bf lp xP yE zA DA Dh Ec AK ax bn ld Bd lY
  rintro d x x1 x2 x3 x4 x5 x6 x7 x8 h ki co own-⟨hs,hl,hb⟩
  obtain⟨w,hw⟩:∃ w,w=(d,(x,x1,x2,(x3,x4),x5),x6,x7,x8,h):=⟨_,rfl⟩
  have e0:d.2.2.2.2.2.2.2.2.2.2.2.1=oA w.1:=by rw[hw];rfl
  have e2:iw (x,x1,x2,(x3,x4),x5) h.2.2.2.2.2.1=iw w.2.1 (o3 w.2.2.2.2.2):=by rw[hw];rfl
  have e3:gh d.2.2.2.2.2.2.2.2.2.2.1 (x3,x4) x7=ot w:=by rw[hw];rfl
  rw[e0,e2,e3,← hw]
  have fin:=λ{s o y}=>Kw (r:=fO (gI w ki co) (pf w ki co) w own) (s:=s) (o:=o) (y:=y) w
  intro b hb0
  (repeat refine⟨(by first|(simp;done)|(rw[hb0];simp;done)|(cases b <;> simp)),?_⟩)
  have hq:(bif b then oA w.1 else bZ6)=bZ3↔own=0/\oA w.1=true:=by rw[hb0];by_cases k:own=0 <;> simp[k]
  refine aw (λh0=>?_) (λh0=>?_)
  .have ⟨f1,f2,f3⟩:=fin (A5 (hq.1 h0))
   exact⟨f1,f2,by rw[← f3,hw];rfl,rfl,rfl,rfl⟩
  have h0:¬ (own=0/\oA w.1=bZ3):=λk=>by rw[hq.2 k] at h0;cases h0
  refine⟨hb,aw (λh1=>?_) (λh1=>?_)⟩
  .have ⟨f1,f2,f3⟩:=fin (BA h0 (by simpa using h1))
   exact⟨f1,f2,by rw[← f3,hw];rfl,rfl,rfl,rfl⟩
  have h1:¬ (pf w ki co) 0≠0:=by simpa using h1
  refine⟨hs,hl,aw (λh2=>?_) (λh2=>?_)⟩
  .have ⟨f1,f2,f3⟩:=fin (CE h0 h1 (by simpa using h2))
   exact⟨f1,f2,by rw[← f3,hw];rfl,rfl,rfl,rfl⟩
  have h2:¬ iw w.2.1 (o3 w.2.2.2.2.2)=false:=by simpa using h2
  refine aw (λh3=>?_) (λh3=>⟨?_,?_⟩)
  .have ⟨f1,f2,f3⟩:=fin (D9 h0 h1 h2 (by simpa using h3))
   exact⟨f1,f2,by rw[← f3,hw];rfl,rfl,rfl,rfl⟩
  .have h3:¬ (ot w).2=false:=by simpa using h3
   have eg:=Dn (B:=gI w ki co) h0 h1 h2 h3
   have hne:=Gi h2
   have hin:=J1 d x6
   have vJ:oD d (x,x1,x2,(ot w).1,x5) (dS d x6) x7 h.2.1 h.2.2.2.2.2.1=jf w:=by rw[← e3,hw];rfl
   have hS:om w=(x,bZ4.wrap (x1+1),tZ x2 (dS d x6),(ot w).1,x5):=by rw[← e3,hw];rfl
   refine ci (λh4=>?_) (λh4=>?_)
   .refine⟨hin,h4,hin,h4,_,_,_,⟨eg,hne,?_⟩,rfl,rfl,vJ,aI⟩
    rw[hS,Ob h4];rfl
   .refine⟨_,_,_,⟨eg,hne,?_⟩,rfl,rfl,vJ,aI⟩
    rw[hS,Te h4];rfl
  .rintro k l t ⟨eg,hne,hS⟩
   have e4:cR (cW (x,x1,x2,(x3,x4),x5)) h.2.2.2.2.2.1=po w:=by rw[hw];rfl
   have e5:(x,k,l,t,x5)=om w:=hS
   have e6:mr d (om w) (po w) (iF ((gI w ki co) (adr d (dS d x6)) 0))=mh (gI w ki co) w:=by rw[hw];rfl
   rw[e4,e5,e6]
   have ⟨f1,f2,f3⟩:=fin eg
   have hlen:=PX w ki co (adr d (dS d x6)) 0
   refine⟨hne,ab,ci (λh4=>?_) (λh4=>?_)⟩
   .refine⟨hb,?_,f2,by rw[← f3,hw];rfl,rfl,rfl,rfl⟩
    rw[← f1];unfold ly;rw[aj h4,hw];rfl
   .refine⟨hb,?_,f2,by rw[← f3,hw];rfl,rfl,rfl,rfl⟩
    rw[← f1];unfold ly;rw[ah h4,hw];rfl
theorem aq6:aC 273 WE.spec:=aF Tryz.func273 (ap (ap (ap (ap (ap (ap (ap (ap aD Zc) Qh) aZ0) Pm) Ow) X5) OG) Tk) bt4 aG3
def a96:Ct:=⟨[.box 300 tC],[.agg Bs,.val cI],λd=>[sD d.1],λd=>(((kF d.1).2.1,(kF d.1).2.2,()),(jM d.1 (kF d.1).1,()))⟩
theorem bN7:
 ∀(a:au)(b:List cz)(c:Int)(d:ad)(e f g h i:Int)(j:ad)(k:dK),ai (CT.wf eh a/\gY b c d e f g/\ld h i j k)->xP b c d e f g j->bV j/\t9 (bZ2 (h=(-1))) ( !aV (pd (a,(b,c,d,(e,f),g),h,i,j,k) 0)) (fL=(kF (a,(b,c,d,(e,f),g),h,i,j,k)).2.1/\1=(kF (a,(b,c,d,(e,f),g),h,i,j,k)).2.2/\(a,(b,c,d,(e,f),g),h,i,j,k)=jM (a,(b,c,d,(e,f),g),h,i,j,k) (kF (a,(b,c,d,(e,f),g),h,i,j,k)).1) (ar (bZ2 (k.2.2.2.1=17)) (sD (a,(b,c,d,(e,f),g),h,i,j,k)/\(jK a ((b,c,d,(e,f),g),h,i,j,k) (b,c,d,(e,f),g) (h,i,j,k) 0).2.1=(kF (a,(b,c,d,(e,f),g),h,i,j,k)).2.1/\(jK a ((b,c,d,(e,f),g),h,i,j,k) (b,c,d,(e,f),g) (h,i,j,k) 0).2.2=(kF (a,(b,c,d,(e,f),g),h,i,j,k)).2.2/\(a,(jK a ((b,c,d,(e,f),g),h,i,j,k) (b,c,d,(e,f),g) (h,i,j,k) 0).1,h,i,j,k)=jM (a,(b,c,d,(e,f),g),h,i,j,k) (kF (a,(b,c,d,(e,f),g),h,i,j,k)).1) (sD (a,(b,c,d,(e,f),g),h,i,j,k)/\(jK a
 ((b,c,d,(e,f),g),h,i,j,k) (b,c,d,(e,f),g) (h,i,j,k) k.2.2.2.2.2.2).2.1=(kF (a,(b,c,d,(e,f),g),h,i,j,k)).2.1/\(jK a ((b,c,d,(e,f),g),h,i,j,k) (b,c,d,(e,f),g) (h,i,j,k) k.2.2.2.2.2.2).2.2=(kF (a,(b,c,d,(e,f),g),h,i,j,k)).2.2/\(a,(jK a ((b,c,d,(e,f),g),h,i,j,k) (b,c,d,(e,f),g) (h,i,j,k) k.2.2.2.2.2.2).1,h,i,j,k)=jM (a,(b,c,d,(e,f),g),h,i,j,k) (kF (a,(b,c,d,(e,f),g),h,i,j,k)).1)):= by
  delta ac aq aK aQ bR aJ c9 dB aO cS bG bq bv aV bV jK gY ai fL jE xP t9 ld
  rintro d x x1 x2 x3 x4 x5 x6 x7 x8 h-⟨hs,hl,hb⟩
  obtain⟨w,hw⟩:∃ w,w=(d,(x,x1,x2,(x3,x4),x5),x6,x7,x8,h):=⟨_,rfl⟩
  rw[← hw]
  have fin:=λ{s o y}=>Kw (r:=kF w) (s:=s) (o:=o) (y:=y) w
  have e0:w.2.2.1=x6:=by rw[hw]
  have e1:h=w.2.2.2.2.2:=by rw[hw]
  have okw:sD w:=by rw[hw];exact⟨hs,hl,hb⟩
  refine⟨hb,?_⟩
  (repeat (refine cL ?_;repeat refine cK ?_))
  refine uH (λho=>?_) (λh1 h2=>?_)
  .have ⟨f1,f2,f3⟩:=fin (s:=w.2.1) (o:=lJ) (y:=1) (by unfold kF;rw[aj];obtain q|q:=ho;left;rw[e0];exact aX q;right;simpa using q)
   exact⟨f1,f2,by rw[← f3,hw];rfl⟩
  have hn:¬ (w.2.2.1 = -1∨pd w 0≠0):=by
   rintro (q|q)
   .rw[e0] at q;exact bg h1 q
   .apply q;simpa using h2
  have er:kF w=fO (jJ w) (pd w) w (if h.2.2.2.1=17 then 0 else h.2.2.2.2.2.2):=by unfold kF;rw[ah hn,e1];rfl
  rw[er]
  refine ci (λh3=>?_) (λh3=>?_)
  .rw[aj h3]
   exact⟨okw,rfl,rfl,by rw[hw];rfl⟩
  .rw[ah h3]
   exact⟨okw,rfl,rfl,by rw[hw];rfl⟩
theorem a19:aC 227 a96.spec:=aF Tryz.func227 (ap (ap aD WR) bT2) aU bN7
def aW6:Ct:=⟨[.box 300 tC],[.agg Bs,.val cI],λd=>[sD d.1],λd=>(((gE d.1).2.1,(gE d.1).2.2,()),(jM d.1 (gE d.1).1,()))⟩
theorem bF0:
 ∀(a:au)(b:List cz)(c:Int)(d:ad)(e f g h i:Int)(j:ad)(k:dK),ai (CT.wf eh a/\gY b c d e f g/\ld h i j k)->xP b c d e f g j-> ∀(l:Bool),l=cP h (-1)->wy l l (aJ l) (l->l) (∀(m:Bool),m=br l ( !a.2.2.2.2.2.2.2.2.2.2.2.2.1)->wy m m (aJ m) (m->m) (ar (br m (ax k.2.2.1 2)) (sD (a,(b,c,d,(e,f),g),h,i,j,k)/\(jQ a ((b,c,d,(e,f),g),h,i,j,k) 11 0 (b,c,d,(e,f),g) (h,i,j,k) 0).2.1=(gE (a,(b,c,d,(e,f),g),h,i,j,k)).2.1/\(jQ a ((b,c,d,(e,f),g),h,i,j,k) 11 0 (b,c,d,(e,f),g) (h,i,j,k) 0).2.2=(gE (a,(b,c,d,(e,f),g),h,i,j,k)).2.2/\(a,(jQ a ((b,c,d,(e,f),g),h,i,j,k) 11 0 (b,c,d,(e,f),g) (h,i,j,k) 0).1,h,i,j,k)=jM (a,(b,c,d,(e,f),g),h,i,j,k) (gE (a,(b,c,d,(e,f),g),h,i,j,k)).1) (dU (cW (b,c,d,(e,f),g))/\okL (cW (b,c,d,(e,f),g))/\ ∀(n:Bool),n=( !iw (b,c,d,(e,f),g) k.2.2.2.2.2.2)->(n->n)/\ar (jm n h (-1)) (fL=(gE
 (a,(b,c,d,(e,f),g),h,i,j,k)).2.1/\8=(gE (a,(b,c,d,(e,f),g),h,i,j,k)).2.2/\(a,(b,c,d,(e,f),g),h,i,j,k)=jM (a,(b,c,d,(e,f),g),h,i,j,k) (gE (a,(b,c,d,(e,f),g),h,i,j,k)).1) (ar ( !iw (b,c,d,(e,f),g) k.2.2.2.2.2.2) (sD (a,(b,c,d,(e,f),g),h,i,j,k)/\(jQ a ((b,c,d,(e,f),g),h,i,j,k) 3 0 (b,c,d,(e,f),g) (h,i,j,k) 0).2.1=(gE (a,(b,c,d,(e,f),g),h,i,j,k)).2.1/\(jQ a ((b,c,d,(e,f),g),h,i,j,k) 3 0 (b,c,d,(e,f),g) (h,i,j,k) 0).2.2=(gE (a,(b,c,d,(e,f),g),h,i,j,k)).2.2/\(a,(jQ a ((b,c,d,(e,f),g),h,i,j,k) 3 0 (b,c,d,(e,f),g) (h,i,j,k) 0).1,h,i,j,k)=jM (a,(b,c,d,(e,f),g),h,i,j,k) (gE (a,(b,c,d,(e,f),g),h,i,j,k)).1) ((gO b c d e f g k.2.2.2.2.2.2).2.1≠[]/\bV j/\j=j/\j=j/\aT j/\ ∀(o:Bool),o=cP h (-1)->wy o o (aJ o) (o->o) (ar (br o ( !a.2.2.2.2.2.2.2.2.2.2.2.2.1)) (aT j/\(mr a (b,c,d,(e,f),g) (gO b c d e f g k.2.2.2.2.2.2) (iF j),lE j)=(gE
 (a,(b,c,d,(e,f),g),h,i,j,k)).2.1/\0=(gE (a,(b,c,d,(e,f),g),h,i,j,k)).2.2/\(a,jk (b,c,d,(e,f),g) (gO b c d e f g k.2.2.2.2.2.2),h,i,j,k)=jM (a,(b,c,d,(e,f),g),h,i,j,k) (gE (a,(b,c,d,(e,f),g),h,i,j,k)).1) ((mr a (b,c,d,(e,f),g) (gO b c d e f g k.2.2.2.2.2.2) (iF j),j)=(gE (a,(b,c,d,(e,f),g),h,i,j,k)).2.1/\0=(gE (a,(b,c,d,(e,f),g),h,i,j,k)).2.2/\(a,jk (b,c,d,(e,f),g) (gO b c d e f g k.2.2.2.2.2.2),h,i,j,k)=jM (a,(b,c,d,(e,f),g),h,i,j,k) (gE (a,(b,c,d,(e,f),g),h,i,j,k)).1))))))):= by
  delta ac aq aK aQ aJ c9 dB aO cS bG aT cj br jQ bV gY ai gO fL xP cP wy jm ax ld
  rintro d x x1 x2 x3 x4 x5 x6 x7 x8 h-⟨hs,hl,hb⟩
  obtain⟨w,hw⟩:∃ w,w=(d,(x,x1,x2,(x3,x4),x5),x6,x7,x8,h):=⟨_,rfl⟩
  have e0:d.2.2.2.2.2.2.2.2.2.2.2.2.1=gB w.1:=by rw[hw];rfl
  have e2:iw (x,x1,x2,(x3,x4),x5) h.2.2.2.2.2.2=iw w.2.1 (me w.2.2.2.2.2):=by rw[hw];rfl
  have e3:x6=w.2.2.1:=by rw[hw]
  have e4:h.2.2.1=DM w.2.2.2.2.2:=by rw[hw];rfl
  have e5:cR (cW (x,x1,x2,(x3,x4),x5)) h.2.2.2.2.2.2=cR (cW w.2.1) (me w.2.2.2.2.2):=by rw[hw];rfl
  have okw:sD w:=by rw[hw];exact⟨hs,hl,hb⟩
  have fin:=λ{s o y}=>Kw (r:=gE w) (s:=s) (o:=o) (y:=y) w
  rw[← hw,e0,e2,e4,e5]
  intro b hb0
  (repeat refine⟨(by first|(simp;done)|(rw[hb0];simp;done)|(cases b <;> simp)),?_⟩)
  intro b1 hb1
  (repeat refine⟨(by first|(simp;done)|(rw[hb1];simp;done)|(cases b1 <;> simp)|(cases b <;> cases b1 <;> simp)),?_⟩)
  have h1b:b1=bZ3↔w.2.2.1 ≠ -1/\gB w.1=false:=by rw[hb1,hb0,e3];by_cases k:w.2.2.1 = -1 <;> cases gB w.1 <;> simp[k]
  have hq:(bif b1 then bZ2 (DM w.2.2.2.2.2<2) else bZ6)=bZ3↔w.2.2.1 ≠ -1/\gB w.1=bZ6/\DM w.2.2.2.2.2<2:=by
   rw[← and_assoc,← h1b];cases b1 <;> simp
  refine aw (λk1=>?_) (λk1=>?_)
  .have e:gE w=fO (gI w 11 0) (pf w 11 0) w 0:=by unfold gE;rw[aj (hq.1 k1)]
   rw[e]
   exact⟨okw,rfl,rfl,by rw[hw];rfl⟩
  have k1:¬ (w.2.2.1 ≠ -1/\gB w.1=bZ6/\DM w.2.2.2.2.2<2):=λk=>by rw[hq.2 k] at k1;cases k1
  refine⟨hs,hl,?_⟩
  intro c hc
  (repeat refine⟨(by first|(simp;done)|(rw[hc];simp;done)|(cases c <;> simp)),?_⟩)
  refine aw (λk2=>?_) (λk2=>?_)
  .have q:iw w.2.1 (me w.2.2.2.2.2)=bZ6/\w.2.2.1 = -1:=by
    rw[hc,e3] at k2
    cases hh:iw w.2.1 (me w.2.2.2.2.2) with
    | true=>rw[hh] at k2;simp at k2
    | false=>rw[hh] at k2;exact⟨rfl,by simpa using k2⟩
   have ⟨f1,f2,f3⟩:=fin (s:=w.2.1) (o:=lJ) (y:=8) (by unfold gE;rw[ah k1,aj q.1,aj q.2])
   exact⟨f1,f2,by rw[← f3,hw];rfl⟩
  refine aw (λk3=>?_) (λk3=>?_)
  .have k3:iw w.2.1 (me w.2.2.2.2.2)=false:=by simpa using k3
   have q:¬ w.2.2.1 = -1:=λq=>by rw[hc,k3,e3,q] at k2;simp at k2
   have e:gE w=fO (gI w 3 0) (pf w 3 0) w 0:=by unfold gE;rw[ah k1,aj k3,ah q]
   rw[e]
   exact⟨okw,rfl,rfl,by rw[hw];rfl⟩
  have k3:¬ iw w.2.1 (me w.2.2.2.2.2)=false:=by simpa using k3
  refine⟨Gi k3,hb,?_⟩
  clear h1b hq
  (repeat refine⟨(by first|(with_reducible rfl)|trivial|omega),?_⟩)
  intro b' hb0'
  (repeat refine⟨(by first|(simp;done)|(rw[hb0'];simp;done)|(cases b' <;> simp)),?_⟩)
  have hq:(bif b' then !gB w.1 else bZ6)=bZ3↔w.2.2.1 ≠ -1/\gB w.1=false:=by rw[hb0',e3];by_cases k:w.2.2.1 = -1 <;> cases gB w.1 <;> simp[k]
  have e:gE w=(jk w.2.1 (cR (cW w.2.1) (me w.2.2.2.2.2)),(mr w.1 w.2.1 (cR (cW w.2.1) (me w.2.2.2.2.2)) (iF w.2.2.2.2.1),if w.2.2.1 ≠ -1/\gB w.1=bZ6 then lE w.2.2.2.2.1 else w.2.2.2.2.1),0):=by unfold gE;rw[ah k1,ah k3]
  have ⟨f1,f2,f3⟩:=fin e
  refine aw (λk4=>?_) (λk4=>?_)
  .refine⟨ab,?_,f2,by rw[← f3,hw];rfl⟩
   rw[← f1,aj (hq.1 k4),hw]
  .refine⟨?_,f2,by rw[← f3,hw];rfl⟩
   rw[← f1,ah (λk=>by rw[hq.2 k] at k4;cases k4),hw]
theorem ZI:aC 228 aW6.spec:=aF Tryz.func228 (ap (ap (ap (ap (ap (ap aD aw1) aq6) Pm) OG) aX4) tj) aU bF0
def bx3:Ct:=⟨[.box 300 tC],[.agg Bs,.val cI],λd=>[sD d.1],λd=>(((ia d.1).2.1,(ia d.1).2.2,()),((d.1.1,(ia d.1).1,d.1.2.2.1,d.1.2.2.2.1,d.1.2.2.2.2.1,(cJ d.1.2.2.2.2.1).1),()))⟩
def pK(a:ad):=(a,(cJ a).1)
theorem ay9:
 ∀(a:au)(b:List cz)(c:Int)(d:ad)(e f g h i:Int)(j:ad)(k:dK),ai (CT.wf eh a/\gY b c d e f g/\ld h i j k)->xP b c d e f g j->aT j/\lY (aV (dN j)) (fL=(ia (a,(b,c,d,(e,f),g),h,i,j,k)).2.1) (6=(ia (a,(b,c,d,(e,f),g),h,i,j,k)).2.2/\(a,(b,c,d,(e,f),g),h,i,pK j)=(a,(ia (a,(b,c,d,(e,f),g),h,i,j,k)).1,h,i,pK j)) (oZ a (cJ j).1.2.2.2.2.2.2) (sD (a,(b,c,d,(e,f),g),h,i,pK j)/\(kF (a,(b,c,d,(e,f),g),h,i,pK j)).2.1=(ia (a,(b,c,d,(e,f),g),h,i,j,k)).2.1/\(kF (a,(b,c,d,(e,f),g),h,i,pK j)).2.2=(ia (a,(b,c,d,(e,f),g),h,i,j,k)).2.2/\(a,(kF (a,(b,c,d,(e,f),g),h,i,pK j)).1,h,i,pK j)=(a,(ia (a,(b,c,d,(e,f),g),h,i,j,k)).1,h,i,pK j)) (DA a.2.2.2.1 (cP h (-1)) (fL=(ia (a,(b,c,d,(e,f),g),h,i,j,k)).2.1/\6=(ia (a,(b,c,d,(e,f),g),h,i,j,k)).2.2/\(a,(b,c,d,(e,f),g),h,i,pK j)=(a,(ia
 (a,(b,c,d,(e,f),g),h,i,j,k)).1,h,i,pK j)) (sD (a,(b,c,d,(e,f),g),h,i,pK j)/\(gE (a,(b,c,d,(e,f),g),h,i,pK j)).2.1=(ia (a,(b,c,d,(e,f),g),h,i,j,k)).2.1/\(gE (a,(b,c,d,(e,f),g),h,i,pK j)).2.2=(ia (a,(b,c,d,(e,f),g),h,i,j,k)).2.2/\(a,(gE (a,(b,c,d,(e,f),g),h,i,pK j)).1,h,i,pK j)=(a,(ia (a,(b,c,d,(e,f),g),h,i,j,k)).1,h,i,pK j))):= by
  delta ac aq aK aQ aJ c9 dB aO cS bG aT cj br aV bV gY fq ai fL xP cP pK DA ld lY
  rintro d x x1 x2 x3 x4 x5 x6 x7 x8 h-⟨hs,hl,hb⟩
  refine⟨ab,aw (λh1=>?_) (λh1=>?_)⟩
  .have e:ia (d,(x,x1,x2,(x3,x4),x5),x6,x7,x8,h)=((x,x1,x2,(x3,x4),x5),lJ,6):=by unfold ia;rw[aj (by simpa using h1)]
   rw[e];exact⟨rfl,rfl,rfl⟩
  have h1:¬ dN x8≠0:=by simpa using h1
  refine aw (λh2=>?_) (λh2=>?_)
  .have e:ia (d,(x,x1,x2,(x3,x4),x5),x6,x7,x8,h)=kF (d,(x,x1,x2,(x3,x4),x5),x6,x7,x8,(cJ x8).1):=by unfold ia;rw[ah h1];exact aj h2
   rw[e];exact⟨⟨hs,hl,hb⟩,rfl,rfl,rfl⟩
  have h2:¬ oZ d (me (cJ x8).1)=true:=by show ¬ oZ d (cJ x8).1.2.2.2.2.2.2=bZ3;rw[h2];simp
  intro b hb0
  (repeat refine⟨(by first|(simp;done)|(rw[hb0];simp;done)|(cases b <;> simp)),?_⟩)
  have hq:(bif b then !bZ2 (x6 = -1) else bZ6)=bZ3↔qf d=bZ3/\x6 ≠ -1:=by rw[hb0];show (bif d.2.2.2.1 then _ else _)=bZ3↔d.2.2.2.1=bZ3/\_;cases d.2.2.2.1 <;> simp
  refine aw (λh3=>?_) (λh3=>?_)
  .have e:ia (d,(x,x1,x2,(x3,x4),x5),x6,x7,x8,h)=((x,x1,x2,(x3,x4),x5),lJ,6):=by unfold ia;rw[ah h1,ah h2];exact aj (hq.1 h3)
   rw[e];exact⟨rfl,rfl,rfl⟩
  .have e:ia (d,(x,x1,x2,(x3,x4),x5),x6,x7,x8,h)=gE (d,(x,x1,x2,(x3,x4),x5),x6,x7,x8,(cJ x8).1):=by unfold ia;rw[ah h1,ah h2];exact ah (λk=>by rw[hq.2 k] at h3;cases h3)
   rw[e];exact⟨⟨hs,hl,hb⟩,rfl,rfl,rfl⟩
theorem aq4:aC 182 bx3.spec:=aF Tryz.func182 (ap (ap (ap (ap aD GZ) bs5) a19) ZI) aU ay9
def be8:Ct:=⟨[.val (.sl fm)],[.own 153 fm],λd=>[(be d.1:Int)<=134217728],λd=>((d.1,()),())⟩
theorem an7:
 ∀(a:List cz),ai (c9 a)->ac a<=134217728->lq (be a=0) ([]=a) (bP ((0+be a)*48)/\a=a):= by
  delta ac aq aK c9 dB aO cS bP ai lq
  rintro x ⟨⟨hl,-⟩,-⟩ h b hb
  refine aw (λh1=>?_) (λh1=>⟨ab,az⟩)
  have:=hb h1
  exact (yu this).symm
theorem YT:aC 177 be8.spec:=aF Tryz.func177 aD aU an7
def sZ(x:au):NState:=(bW x,0,replicate (be (aS x)) 0,zC (mX x) 0,0)
def DT(b t:bg8):Prop:=(0<=t.2/\t.2<=1125899906842624)/\(b=(0,0)->t.1=0)/\(b≠(0,0)->0<=t.1/\t.1<=b.1*b.2)
structure jO (x:au) (s:NState) (K:Int):Prop where
 srt:dU (cW s)
 okl:okL (cW s)
 rt:∀ r∈cW s,pm r (de x)
 ps:be (nL s)=be (aS x)
 tk:DT (mX x) (xd s)
 cn:0<=tQ s/\tQ s<=K
 cp:∀ y∈nL s,0<=y/\y<=K
def KS(x:au)(s:NState)(link at':Int)(b:ad):fK:=(x,s,link,at',b,(cJ b).1)
def kB(kind:Int)(w:fK)(f i:Int):ad:=if kind=2 then gI w 11 0 f i else if kind=3 then gI w 3 0 f i else jJ w f i
def kE(kind:Int)(w:fK)(i:Int):Int:=if kind=2 then pf w 11 0 i else if kind=3 then pf w 3 0 i else pd w i
def sP(kind:Int)(w:fK):Int:=if kind=0 then me w.2.2.2.2.2 else 0
def wJ(w:fK)(kind:Int):rm:=fO (kB kind w) (kE kind w) w (sP kind w)
theorem Ju{b:bg8}(h:jj b=0):b=(0,0)∨(1<=b.1/\b.1<=65536/\1<=b.2/\b.2<=1073741824/\b.2<=b.1*b.2/\b.1*b.2<=70368744177664):=by
 unfold jj at h
 split at h
 next hh=>
  obtain hh|⟨h1,h2,h3,h4⟩:=hh
  .exact .inl hh
  .refine .inr ⟨h1,h2,h3,h4,?_,?_⟩
   .have:=Int.mul_le_mul_of_nonneg_right (a:=1) (b:=b.1) (c:=b.2) h1 ab;omega
   .have:=Int.mul_le_mul (a:=b.1) (b:=b.2) (c:=65536) (d:=1073741824) h2 h4 ab ab;omega
 .cases h
theorem bS3{b:bg8}(h:jj b=0)(x:Int):zC b x=(b.1*b.2,x):=by
 obtain rfl|hh:=Ju h
 .rfl
 .unfold zC w;rw[aG ab ab]
theorem aH2{b t:bg8}{x:Int}(h:jj b=0)(hb:b≠(0,0))(ht:DT b t)(hx:0<=x/\x<=1125899906842624) :
  gh b t x=if min (t.1+(max x t.2-t.2)) (b.1*b.2)<b.2 then ((min (t.1+(max x t.2-t.2)) (b.1*b.2),max x t.2),bZ6) else ((min (t.1+(max x t.2-t.2)) (b.1*b.2)-b.2,max x t.2),bZ3):=by
 obtain⟨h1,-,h3⟩:=ht
 have h3:=h3 hb
 have hc:=(Ju h).resolve_left hb
 have e:wS b t (max x t.2)=min (t.1+(max x t.2-t.2)) (b.1*b.2):=by
  unfold wS w;rw[aG (n:=max x t.2-t.2) ab ab,aG ab ab,aG ab ab]
 unfold gh w
 rw[ah hb,e]
 split
 .rfl
 .rw[aG ab ab]
theorem aE5{b t:bg8}{x:Int}(h:jj b=0)(ht:DT b t)(hx:0<=x/\x<=1125899906842624):DT b (gh b t x).1/\(gh b t x).1.2=max x t.2:=by
 have h1:=ht.1
 by_cases hb:b=(0,0)
 .subst hb;rw[show gh (0,0) t x=((0,max x t.2),bZ3) by simp[gh]];exact⟨⟨⟨by show 0<=max x t.2;omega,by show max x t.2<=_;omega⟩,λ_=>rfl,λk=>absurd rfl k⟩,rfl⟩
 .have hc:=(Ju h).resolve_left hb;have h3:=ht.2.2 hb;rw[aH2 h hb ht hx];split
  .exact⟨⟨⟨by show 0<=max x t.2;omega,by show max x t.2<=_;omega⟩,λk=>absurd k hb,λ_=>⟨by show 0<=min _ _;omega,by show min _ _<=_;omega⟩⟩,rfl⟩
  .exact⟨⟨⟨by show 0<=max x t.2;omega,by show max x t.2<=_;omega⟩,λk=>absurd k hb,λ_=>⟨by show 0<=min _ _-_;omega,by show min _ _-_<=_;omega⟩⟩,rfl⟩
structure ua (x:au):Prop where
 n1:1<=be (aS x)
 n32:be (aS x)<=32
 id:qr x=0
 bk:jj (mX x)=0
 rt:jq (bW x) (de x)=0
 loop:¬ tR x
 ports:∀ i,i<be (aS x)->lu x i=0
 form:¬ rD x
theorem VF{x:au}(h:ix x=0):ua x:=by
 unfold ix at h
 split at h
 .cases h
 rename_i a1
 split at h
 next k=>exact absurd h k
 rename_i a2
 split at h
 .cases h
 rename_i a3
 split at h
 .cases h
 rename_i a4
 split at h
 next k=>exact absurd h k
 rename_i a5
 split at h
 next k=>exact absurd h k
 rename_i a6
 refine⟨?_,ab,by simpa using a5,by simpa using a6,h,a3,zi (by simpa using a2),a4⟩
 by_cases k:be (aS x)=0
 .exact absurd (.inr (.inr (.inr (.inr (.inr (.inr k)))))) a4
 .omega
theorem aM9{a:Int}(h:ga a):a≠0:=by
 rintro rfl
 revert h
 unfold ga
 decide
theorem yr{q:Int×Int->Bool}{l:bX8}(h:0<=j4 q l):j4 q l<be l/\q (Om l (it (j4 q l)) Sk)=true:=by
 unfold j4 at h ⊢
 split at h
 next hlt=>rw[aj hlt];refine⟨ab,?_⟩;rw[cb6,cq,cG hlt,iA];exact List.findIdx_getElem (w:=hlt)
 .omega
theorem UQ{q:Int×Int->Bool}{l:bX8}{y:bg8}(hy:y∈l)(hq:q y=bZ3):0<=j4 q l:=by
 have hlt:=cn4 ⟨y,hy,hq⟩
 unfold j4;rw[aj hlt];omega
theorem Yd{x:au}{i:Nat}(h:lu x i=0):ga (Om (aS x) i Sk).1∧¬ (Om (aS x) i Sk).2<0:=by
 unfold lu at h
 split at h
 .cases h
 next k=>
  split at h
  .cases h
  next k2=>exact⟨uj.1 λq=>k (.inl q),λq=>k2 (.inl q)⟩
theorem aQ0{x:au}(h:ua x){a:Int}(ha:oZ x a=bZ3):a≠0:=by
 rintro rfl
 unfold oZ at ha
 simp only[sS,rF,fx,qE,sr] at ha
 obtain ha|⟨h1,h2⟩:=ha
 .have ha:0<=j4 (pc 0) (aS x):=ha;have ⟨k1,k2⟩:=yr (q:=pc 0) (l:=aS x) ha;have:=(Yd (h.ports (it (j4 (pc 0) (aS x))) ab)).1;have e:=aX k2;rw[e] at this;exact aM9 this rfl
 .exact h1 h2
theorem bu2{x:au}(h:ua x)(k:Int):dS x k<be (aS x):=by
 have:=h.n1
 unfold dS
 by_cases hk:0<=fS x k
 .have:=(yr hk).1;have e:fS x k=j4 (mM k) (aS x):=rfl;omega
 .omega
theorem Uz{x:au}{i:Int}(h0:0<=i)(h1:i<be (aS x)):adr x i=(Om (aS x) (it i) Sk).1:=by
 unfold adr;rw[ah ab]
theorem ay1{l:List Rt}{a:Int}(h:tE l a=bZ3):cR l a∈l:=by
 have key:∀(l:List Rt)(b:Option Rt)(r:Rt),l.foldl (A0 a) b=some r->r∈l∨b=some r:=by
  intro l
  induction l with
  | nil=>intro b r e;exact .inr e
  | cons y l ih =>
   intro b r e;obtain h1|h1:=ih _ _ e
   .exact .inl (fu _ h1)
   .unfold A0 at h1;split at h1
    .split at h1
     .cases h1;exact .inl eV
     .split at h1
      .cases h1;exact .inl eV
      .exact .inr h1
    .exact .inr h1
 unfold tE at h
 unfold cR
 cases hl:rO l a with
 | none=>rw[hl] at h;cases h
 | some r =>
  obtain k|k:=key l none r hl
  .exact k
  .cases k
theorem XL{s:NState}{a:Int}(h:¬ iw s a=bZ6):cR (cW s) a∈cW s:=by
 refine ay1 ?_
 unfold iw at h
 cases hb:tE (cW s) a with
 | true=>rfl
 | false=>rw[hb] at h;simp at h
theorem VX{x:au}{s:NState}{r:Rt}{k:lD}(h:r.2.1≠[]):mr x s r k∈r.2.1:=by
 have hpos:1<=(be r.2.1:Int):=by cases hh:r.2.1 with
  | nil=>exact absurd hh h
  | cons a l=>simp;omega
 unfold mr
 split
 .exact dm (i:=0) ab ab
 .have hc:=YN (way:=r.2.2) (seed:=I5 x) (k:=k) (count:=o5 s) hpos;exact dm hc.1 hc.2
theorem Uu{r:Rt}{links:ad}(h:pm r links):∀ y∈r.2.1,y∈links:=by
 intro y hy
 obtain⟨i,hi,rfl⟩:=cb5.1 hy
 have:=(h.1.2 i hi).2
 rwa [cq,cG hi,iA] at this
theorem Qz{x:au}{k:Int}(h:k∈de x):0<=fS x k:=by
 obtain⟨y,hy,rfl⟩:=cc1.1 h
 exact UQ hy (by simp[mM])
theorem bb3{x:au}{s:NState}{K:Int}(hs:jO x s K){a:Int}(hw:¬ iw s a=bZ6)(s':NState)(k:lD):0<=fS x (mr x s' (cR (cW s) a) k) :=
 Qz (Uu (hs.rt _ (XL hw)) _ (VX (Gi hw)))
theorem bO1{l:ad}{K i:Int}(h:∀ y∈l,0<=y/\y<=K)(hK:0<=K/\K<=2199023255552)(h0:0<=i):be (tZ l i)=be l∧∀ y∈tZ l i,0<=y/\y<=K+1:=by
 unfold tZ
 split
 next hi=>
  refine⟨gd,λy hy=>?_⟩;obtain hy|rfl:=Ae hy
  .have:=h y hy;omega
  .have:=h _ (dm h0 hi);rw[aG ab ab];omega
 .exact⟨rfl,λy hy=>by have:=h y hy;omega⟩
theorem jO.more{x:au}{s:NState}{K K':Int}(h:jO x s K)(hk:K<=K'):jO x s K' :=
 ⟨h.srt,h.okl,h.rt,h.ps,h.tk,by have:=h.cn;omega,λy hy=>by have:=h.cp y hy;omega⟩
theorem jO.tok{x:au}{s:NState}{K:Int}(h:jO x s K){t:bg8}(ht:DT (mX x) t):jO x (F3 s t) K:=⟨h.srt,h.okl,h.rt,h.ps,ht,h.cn,h.cp⟩
theorem jO.bal{x:au}{s:NState}{K:Int}(h:jO x s K)(b:Int):jO x (V8 s b) K:=⟨h.srt,h.okl,h.rt,h.ps,h.tk,h.cn,h.cp⟩
theorem jO.pick{x:au}{s:NState}{K:Int}(h:jO x s K)(r:Rt):jO x (jk s r) K:=by
 unfold jk;split
 .exact h
 .exact h.bal _
theorem jO.sent{x:au}{s:NState}{K i:Int}(h:jO x s K)(hK:0<=K/\K<=2199023255552)(h0:0<=i):jO x (Q7 s i) (K+1):=by
 have ⟨b1,b2⟩:=bO1 h.cp hK h0
 refine⟨h.srt,h.okl,h.rt,b1.trans h.ps,h.tk,?_,b2⟩
 have:=h.cn
 show 0<=bZ4.wrap (tQ s+1)/\bZ4.wrap (tQ s+1)<=K+1
 rw[aG ab ab];omega
theorem Qu{B:Int->Int->ad}{E:Int->Int}{w:fK}{own:Int}{K:Int}(hx:ua w.1)(hs:jO w.1 w.2.1 K)(hK:0<=K/\K<=2199023255552)(ha:0<=w.2.2.2.1/\w.2.2.2.1<=1125899906842624) :
  jO w.1 (fO B E w own).1 (K+1):=by
 have ht:=aE5 hx.bk hs.tk ha
 unfold fO
 split
 .exact hs.more ab
 split
 .exact hs.more ab
 split
 .exact hs.more ab
 split
 .exact (hs.tok ht.1).more ab
 .exact ((hs.tok ht.1).sent hK (J1 _ _)).pick _
theorem ar9{x:au}{s:NState}{link at':Int}{b:ad}{K:Int}(hx:ua x)(hs:jO x s K)(hK:0<=K/\K<=2199023255552)(ha:0<=at'∧at'<=1125899906842624):jO x (gH x s link at' b).1 (K+1):=by
 have m:jO x s (K+1):=hs.more ab
 unfold gH ia
 split
 .exact m
 split
 .unfold kF;split
  .exact m
  .exact Qu (w:=AT (x,s,link,at',b,tM) (cJ b).1) hx hs hK ha
 split
 .exact m
 .unfold gE;split
  .exact Qu (w:=AT (x,s,link,at',b,tM) (cJ b).1) hx hs hK ha
  split
  .split
   .exact m
   .exact Qu (w:=AT (x,s,link,at',b,tM) (cJ b).1) hx hs hK ha
  .exact m.pick _
theorem UZ{x:au}(hx:ua x):jO x (sZ x) 0:=by
 have ⟨h1,h2⟩:=BE hx.rt
 obtain⟨-,-,h3⟩:=GG hx.rt
 refine⟨h1,h2,λr hr=>(h3 r hr).2,vU,?_,⟨io _,io _⟩,λy hy=>by rw[List.eq_of_mem_replicate hy];exact⟨io _,io _⟩⟩
 show DT (mX x) (zC (mX x) 0)
 rw[bS3 hx.bk]
 refine⟨⟨az,az⟩,λk=>by rw[k];rfl,λk=>?_⟩
 have:=(Ju hx.bk).resolve_left k
 exact⟨by show 0<=_*_;omega,io _⟩
def V7:Ct:=⟨[.val (.sl fm)],[.own 153 fm],λd=>[okL d.1],λd=>((d.1,()),())⟩
def aP6:bw V7.ps->bL:=(λd=>{loops:=(bu 3 (λS=>{ι:=Int,μ:=λi=>it (be d.1-i),inv:=λi=>0<=i/\i<=be d.1,keep:=[3,8,9],slots:=λi=>[(10,.int .i64 i)],keepN:=[128]}) cC)})
def Ka(a:List cz):=ai (c9 a)->vE a->ac a<=134217728/\ub (ac a) (ac a=ac a) (ai (a=a))/\ ∀(b:Int),0<=b/\b<=ac a->ar (ax b (ac a)) (bJ b (ac a) (aT (ae a b).2.1) (am b (b<ac a) (uE (ac a) b (ac a=ac a) (ai (set a (it b) (ae a b)=a))))) (a=a)
theorem a75:
 ∀(a:List cz),Ka a:= by
  delta ae ac ao aq aK c9 dB aO cS aT bj am Ka ai vE bf uE rN cN ub bJ ax
  rintro l ⟨⟨hl,-⟩,-⟩⟨h1,h2⟩
  simp only[maxLen] at hl
  refine⟨h1,⟨0,⟨ab,ab⟩,aI⟩,?_⟩
  rintro j ⟨j0,j1⟩
  refine ci (λhj=>?_) (λhj=>?_)
  .refine⟨j0,hj,h2 _ (dm j0 hj),j0,hj,j+1,⟨ab,ab⟩,ab,?_⟩
   (repeat refine ik ?_)
   exact⟨zX j0 hj,aP⟩
  .rfl
theorem SJ:aC 112 V7.spec:=aF Tryz.func112 (ap (ap aD YT) D8) aP6 a75
def aD1:Ct:=⟨[.agg eh],[.agg tv],λd=>[okL (bW d.1),(be (aS d.1):Int)<=1000000],λd=>((sZ d.1,()),())⟩
theorem bv7:
 ∀(a:au),ai (CT.wf eh a)->okL (bW a)/\ac (aS a)<=1000000->bt (ac a.1) (ac a.1) (uT ((↑((8:Nat)):Int)*ac a.1)) (okL a.2.2.2.2.1/\(a.2.2.2.2.1,0,replicate (it (ac a.1)) 0,(w (a.2.2.2.2.2.2.2.2.2.2.1.1*a.2.2.2.2.2.2.2.2.2.2.1.2),0),0)=sZ a):= by
  delta ac am bt ai uT
  rintro d-⟨h,hl⟩
  have hl:(be d.1:Int)<=1000000:=hl
  exact⟨ab,ab,ab,h,rfl⟩
theorem aI2:aC 53 aD1.spec:=aF Tryz.func53 (ap (ap aD VO) SJ) aU bv7
def a03:Ct:=⟨[.agg eh,.agg tv,.val cI,.val cI,.val (.sl bm)],[.agg tv,.agg Bs,.val cI],λd=>[dU (cW d.2.1),okL (cW d.2.1),(be (nL d.2.1):Int)<=1000000,(be d.2.2.2.2.1:Int)<=1000000],λd=>(((gH d.1 d.2.1 d.2.2.1 d.2.2.2.1 d.2.2.2.2.1).1,(gH d.1 d.2.1 d.2.2.1 d.2.2.2.1 d.2.2.2.2.1).2.1,(gH d.1 d.2.1 d.2.2.1 d.2.2.2.1 d.2.2.2.2.1).2.2,()),())⟩
theorem aV2:
 ∀(a:au)(b:List cz)(c:Int)(d:ad)(e f g h i:Int)(j:ad),CT.wf eh a/\gY b c d e f g/\bG h i (aQ j) True->dU (cW (b,c,d,(e,f),g))/\okL (cW (b,c,d,(e,f),g))/\bV (nL (b,c,d,(e,f),g))/\bV j->aT d/\okL b/\sD (a,(b,c,d,(e,f),g),h,i,j,rp)/\(ia (a,(b,c,d,(e,f),g),h,i,j,rp)).1=(gH a (b,c,d,(e,f),g) h i j).1/\(ia (a,(b,c,d,(e,f),g),h,i,j,rp)).2.1=(gH a (b,c,d,(e,f),g) h i j).2.1/\(ia (a,(b,c,d,(e,f),g),h,i,j,rp)).2.2=(gH a (b,c,d,(e,f),g) h i j).2.2:= by
  delta ac aq aK aQ c9 dB aO cS bG aT bV gY rp
  rintro d x x1 x2 x3 x4 x5 x6 x7 x8-⟨hs,hl,hp,hb⟩
  have e2:nL (x,x1,x2,(x3,x4),x5)=x2:=rfl
  rw[e2] at hp
  exact⟨ab,hl,⟨hs,hl,hb⟩,rfl,rfl,rfl⟩
theorem aY6:aC 123 a03.spec:=aF Tryz.func123 (ap (ap (ap aD D8) SJ) aq4) aU aV2
theorem Dr(s:NState)(r:Rt):jk s r=(s.1,s.2.1,s.2.2.1,s.2.2.2.1,o5 (jk s r)):=by unfold jk;split <;> rfl
theorem bM5(k:Int)(w:fK)(f i:Int):(be (kB k w f i):Int)<=1500:=by
 unfold kB;split
 .exact PX ..
 .split
  .exact PX ..
  .exact Ue ..
theorem a89(w:fK):wJ w 0=fO (jJ w) (pd w) w (me w.2.2.2.2.2):=rfl
theorem bR6(w:fK):wJ w 1=fO (jJ w) (pd w) w 0:=rfl
theorem bT6(w:fK):wJ w 2=fO (gI w 11 0) (pf w 11 0) w 0:=rfl
theorem bF4(w:fK):wJ w 3=fO (gI w 3 0) (pf w 3 0) w 0:=rfl
theorem aA2{n:kQ}(h0:lF n=0)(hb:bytes n.2.2):nh (j9 n)=0/\mB (j9 n)=n:=by
 have h1:=jn λk=>by rw[lF,aj k] at h0;cases h0
 have h2:¬ (be n.2.2:Int)<28:=λk=>by rw[lF,ah (λq=>q h1),aj k] at h0;cases h0
 have h3:¬ (1472:Int)<be n.2.2:=λk=>by rw[lF,ah (λq=>q h1),ah h2,aj k] at h0;cases h0
 have hc:=vd (Qm (e:=n) h1 hb)
 have ⟨t,k,l⟩:=n
 simp only at h1 h3 hb hc h2
 generalize hB:j9 (t,k,l)=B
 have hs:B=t::k::(eG (pP (t,k,l))/256%256)::(eG (pP (t,k,l))%256)::0::0::0::0::l:=by rw[← hB,j9,aj h0];rfl
 have i2:aR B (it 2)=eG (pP (t,k,l))/256%256*256+eG (pP (t,k,l))%256:=by rw[hs];exact jo _ _ _
 have i4:aR B (it 4)=0:=by rw[hs];exact (jo 0 0 _)
 have i6:aR B (it 6)=0:=by rw[hs];exact (jo 0 0 _)
 have hset:dL B (it 2) 0=pP (t,k,l):=by rw[hs];rfl
 have hlen:(be B:Int)=8+be l:=by rw[hs];simp only[cX];omega
 have g0:Om B (it 0) Sk=t:=by rw[hs];rfl
 have g1:Om B (it 1) Sk=k:=by rw[hs];rfl
 have g8:B.drop 8=l:=by rw[hs];rfl
 have he:nh B=0:=by
  rw[nh,ah ab,ah (λq=>q ⟨by rw[g0];exact h1.1,i4,i6⟩),ah ab,ah];rw[hset,i2,oP hc.1 hc.2];exact λq=>q rfl
 refine⟨he,?_⟩
 rw[mB,aj he,g0,g1,g8]
theorem SZ{n:kQ}(h0:lF n=0):Om (j9 n) 0 Sk=n.1/\be (j9 n)=8+be n.2.2:=by
 rw[j9,aj h0];exact⟨rfl,by rw[oa,L8]⟩
theorem MH{n:kQ}(h0:lF n=0)(hb:bytes n.2.2):bytes (j9 n):=by
 have h1:=jn λk=>by rw[lF,aj k] at h0;cases h0
 rw[j9,aj h0];exact xF (Qm h1 hb)
structure fb (p:bo):Prop where
 ok:cT p=0
 s:u32 p.1
 d:u32 p.2.1
theorem fb.dec{p:bo}(g:fb p):cB (build p)=xw p/\dN (build p)=0/\(build p).drop 20=gF p:=U1 g.ok g.s g.d
theorem fb.len{p:bo}(g:fb p):((p.2.2.1≠6/\be (build p)=30)∨(p.2.2.1=6/\be (build p)=40)):=by
 rw[Jw g.ok,bM,wH]
 obtain h|h:=FX g.ok
 .exact .inl ⟨h.1,by rw[h.2]⟩
 .exact .inr ⟨h.1,by rw[h.2]⟩
theorem VA{p:bo}(g:fb p):(p.2.2.1=1->Om (gF p) 0 Sk=8)/\(p.2.2.1=6->Om (gF p) 13 Sk=2):=by
 have hr:=(pV.1 g.ok).2
 constructor
 .intro h;rw[Ds hr h];rfl
 .intro h;rw[Do hr h];rfl
theorem No{p:bo}(g:fb p):fJ (build p)↔ga p.1:=by
 have ⟨e1,e2,e3⟩:=g.dec
 have hs:dF (build p)=p.1:=by rw[dF,e1];rfl
 constructor
 .intro h;rw[← hs];exact (ur h).2.2.2.2
 .intro hu;refine ap1 e2 (by obtain h|h:=g.len <;> omega) ?_ ?_ (by rw[hs];exact hu)
  .rw[e3];intro h;exact (VA g).1 (by rw[fi,e1] at h;exact h)
  .rw[e3];intro h _;rw[(VA g).2 (by rw[fi,e1] at h;exact h)];decide
theorem bd4{p:bo}(g:fb p):(p.2.2.1=1->aR (gF p) 4=21075/\aR (gF p) 6=p.2.2.2.2.1)/\(p.2.2.1=17->aR (gF p) 4=10/\aR (gF p) 6=p.2.2.2.2.1+1)/\(p.2.2.1=6->gP (((gF p).drop 4).take 4)=p.2.2.2.2.1):=by
 have hr:=(pV.1 g.ok).2
 obtain⟨hf,ht,-⟩:=id hr
 refine⟨λh=>?_,λh=>?_,λh=>?_⟩
 .rw[Ds hr h,zT (by show 4+2<=10;omega) ab,zT (by show 6+2<=10;omega) ab];refine⟨rfl,?_⟩;show aR (_::_::_) 0=_;rw[jo];exact oP (n:=p.2.2.2.2.1) ab ab
 .have hs:=aM5 hr;rw[Gb hr h,zT (by show 4+2<=10;omega) ab,EL (by show 6+2<=10;omega) ab ab];refine⟨?_,hs⟩;show aR (_::_::_) 0=10;rw[jo];have:((vj p).2.2.length:Int)=2:=rfl;rw[this];decide
 .rw[Do hr h];show gP [_,_,_,_]=_;rw[GH];exact Ot (n:=p.2.2.2.2.1) ⟨ab,ab⟩
theorem az5{p:bo}(g:fb p):be ((build p).take 28)=28/\bytes ((build p).take 28)/\oR ((build p).take 28)=(p,bZ3):=by
 have ⟨e1,e2,e3⟩:=g.dec
 have hl28:be ((build p).take 28)=28:=by rw[eM];obtain h|h:=g.len <;> omega
 refine⟨hl28,QO (TR p),?_⟩
 have hF:cB ((build p).take 28)=xw p:=by
  rw[← e1];unfold cB;rw[AQ ab,AQ ab,AQ ab,vp ab,vp ab,Ea ab,Ea ab]
 have hpk:iT ((build p).take 28)=0:=by
  have h0:=Jd e2;have hlen:20<=be (build p):=by obtain h|h:=g.len <;> omega
  rw[iT,ah ab] at h0 ⊢;rw[AQ ab,vp ab,vp ab,vp ab,List.take_take];exact h0
 have wq:∀ i,i+2<=8->aR ((build p).take 28) (20+i)=aR (gF p) i:=λi hi=>by
  rw[vp ab,← e3];unfold aR;rw[cj8]
 have w0:=wq 0 ab
 have w2:=wq 2 ab
 have w4:=wq 4 ab
 have w6:=wq 6 ab
 have n4:gP ((((build p).take 28).drop 24).take 4)=gP (((gF p).drop 4).take 4):=by rw[Ea ab,← e3,cj8]
 have cw:=a90 g.ok
 have cm:=bd4 g
 have hlw:aR ((build p).take 28) 2=be (build p):=by rw[vp ab,(DB e2).2]
 have hq:Gt ((build p).take 28):=⟨hpk,hl28,by rw[hF];rfl,by rw[hF];rfl⟩
 have hpr:fi ((build p).take 28)=p.2.2.1:=by rw[fi,hF];rfl
 have hfl:Bb ((build p).take 28)=p.2.2.2.1:=by
  rw[Bb,hpr];have w0:=w0;rw[w2,w0,cw.1,cw.2];obtain h|h|h:=(pV.1 g.ok).1 <;> simp[h,DS,B9] <;> omega
 have hP:uO ((build p).take 28)=p:=by
  rw[uO,hfl,hpr,dF,gV,hF];rfl
 rw[oR,aj hq,hP]
 have hR:tG ((build p).take 28):=by
  unfold tG;rw[hpr,hF];have w0:=w0;rw[w0,w2,w4,w6,n4,cw.1,cw.2,hlw];obtain h|h|h:=(pV.1 g.ok).1
  .refine .inl ⟨h,?_,by rw[DS,aj h],(cm.1 h).1,(cm.1 h).2⟩;obtain k|k:=g.len <;> omega
  .refine .inr (.inr ⟨h,?_,by rw[B9,ah ab,ah ab],cm.2.2 h⟩);obtain k|k:=g.len <;> omega
  .refine .inr (.inl ⟨h,?_,by rw[B9,ah ab,aj h],?_,(cm.2.1 h).2⟩)
   .obtain k|k:=g.len <;> omega
   .rw[(cm.2.1 h).1];obtain k|k:=g.len <;> omega
 rw[ft ⟨hR,g.ok⟩]
theorem Ep{src dst proto id ttl:Int}{data:ad}(hn:lv id ttl)(hp:0<=proto/\proto<=255)(hs:u32 src)(hd:u32 dst)(hl:(be data:Int)<=1480)(hb:bytes data) :
  dN (gM (kR src dst proto id ttl data))=0/\cB (gM (kR src dst proto id ttl data))=(0,id,ttl,proto,bZ6,src,dst)/\(gM (kR src dst proto id ttl data)).drop 20=data/\be (gM (kR src dst proto id ttl data))=20+be data:=by
 have h0:=Eg (src:=src) (dst:=dst) hn hp hl
 have ⟨⟨a,b⟩,c,d⟩:=hn
 rw[gM,aj h0]
 have:=NG (h:=(0,id,ttl,proto,bZ6,src,dst)) (X:=data) ⟨⟨io _,by simp only;omega⟩,⟨c,d⟩,hp,a,b⟩ hs hd hl hb
 refine⟨this.2.1,this.1,this.2.2,?_⟩
 show be (ng _ _++data)=_
 rw[bM,wH]
structure Fb (p:bo) (a:oE) (x:ad):Prop where
 no:¬ fJ x
 rd:fN x=(tX p 0,a)
 re:oU x=0
 len:be x<=1500
theorem fb.t1{p:bo}(g:fb p)(t:Int)(h:1<=t/\t<=255):cT (tX p t)=0:=by
 obtain⟨h1,h2,h3,-⟩:=pV.1 g.ok
 exact pV.2 ⟨h1,h2,h3,h⟩
theorem NW{p:bo}{a:oE}{x:ad}(g:fb p)(hd:dN x=0)(hr:kr x=(tX p 0,(0,a.2.1,a.2.2.1,0,0,a.2.2.2.2.2),bZ3))(ha:a.1=dF x)(hl:a.2.2.2.1=(cB x).2.2.1)(hi:a.2.2.2.2.1=(cB x).2.1)(hn:¬ fJ x):Fb p a x:=by
 have hg:BJ x:=⟨hd,by rw[hr],by rw[hr];exact g.t1 1 ab⟩
 have:=DB hd
 refine⟨hn,?_,by rw[oU,aj hg],ab⟩
 rw[fN,aj hg,hr,← ha,← hl,← hi]
theorem K4{p:bo}(g:fb p)(hu:ga p.1){from' kind code id ttl:Int}(hf:u32 from')(hg:yM kind code id ttl) :
  iW (build p) kind code id ttl=0/\Fb p (from',vP kind code,code,ttl,id,p.2.2.2.2.2) (kU (build p) from' kind code id ttl)/\be (kU (build p) from' kind code id ttl)=56:=by
 have ha:=(No g).2 hu
 obtain⟨e0,eB,en,-⟩:=Ij (src:=from') hg ha
 obtain⟨e1,-,-⟩:=g.dec
 have ⟨ql,qb,qv⟩:=az5 g
 have hs:dF (build p)=p.1:=by rw[dF,e1];rfl
 have hk:=hg.1
 refine⟨e0,?_⟩
 rw[eB,hs]
 generalize hD:j9 (kind,code,(build p).take 28)=D
 have un:=aA2 en qb
 have nf:=SZ en
 have nb:=MH en qb
 rw[hD] at un nf nb
 rw[ql] at nf
 have sb:=Ep (src:=from') (dst:=p.1) (proto:=1) (data:=D) hg.2.2 ab hf g.s ab nb
 generalize gM (kR from' p.1 1 id ttl D)=x at sb
 have ⟨s1,s2,s3,s4⟩:=sb
 have hp1:fi x=1:=by rw[fi,s2]
 have hns:¬ Om D 0 Sk=8:=by rw[nf.1];simp only;omega
 refine⟨NW g s1 ?_ (by rw[dF,s2]) (by rw[s2]) (by rw[s2]) (λk=>?_),by rw[s4,nf.2]⟩
 .rw[kr,ah,aj hp1,s3,lW,aj un.1,un.2]
  .simp only;rw[qv];simp[gV,s2,tX]
  .rw[s3];rintro⟨-,-,k⟩;rw[nf.1] at k;simp only at k;omega
 .exact hns (by have:=(ur k).2.2.1 hp1;rw[s3] at this;exact this)
theorem bn9(t n:Int):dQ bZ3 (eJ (bZ3,21075,t,w2 n))=dQ bZ3 (eJ (bZ6,21075,t,w2 n))-2048:=by
 simp[eJ,w2,dQ];omega
theorem bs2(t n:Int):23000<=dQ bZ3 (eJ (bZ6,21075,t,w2 n)):=by
 simp[eJ,w2,dQ];omega
def xV(p:bo)(id ttl:Int):oE:=if p.2.2.1=6 then (p.2.1,4,0,ttl,id,0) else if p.2.2.1=17 then (p.2.1,3,3,ttl,id,p.2.2.2.2.2) else (p.2.1,2,0,ttl,id,0)
theorem RO{p:bo}(g:fb p)(hu:ga p.1){id ttl:Int}(hn:lv id ttl) :
  jd (build p) id ttl=0/\Fb p (xV p id ttl) (lS (build p) p.2.1 id ttl):=by
 have ha:=(No g).2 hu
 have ⟨e1,e2,e3⟩:=g.dec
 have hs:dF (build p)=p.1:=by rw[dF,e1];rfl
 have hd:gV (build p)=p.2.1:=by rw[gV,e1];rfl
 have hpr:fi (build p)=p.2.2.1:=by rw[fi,e1];rfl
 have hr:=(pV.1 g.ok).2
 have hr':=hr
 obtain⟨hf,ht,-⟩:=hr'
 obtain h|h|h:=(pV.1 g.ok).1
 .have eE:gF p=gD (oq p):=by rw[Ds hr h,gD,aj (Nd hr)]
  have u:=Ru (M1 hr) (oV _) (by rw[Aw];omega);have hh:=J2 (src:=p.2.1) hn ha (by rw[hpr];exact h) (by rw[e3,eE];exact u.1);refine⟨hh.2,?_⟩;rw[hh.1,hs,e3,eE,u.2];have ok2:Jq (w2 (wv p)) (bZ3,(oq p).2):=⟨(M1 hr).1,rfl⟩
  have u2:=Ru ok2 (oV _) (by rw[Aw];omega);have eg:=J8 ok2 (by rw[Aw];omega);have esh:gD (bZ3,(oq p).2)=dL (eJ (bZ3,(oq p).2)) 2 (eG (eJ (bZ3,(oq p).2))):=by rw[gD,aj eg]
  have bb:bytes (eJ (bZ3,(oq p).2)):=DJ (oV _);have hcs:=vd bb;have ecs:eG (eJ (bZ3,(oq p).2))=18432+p.2.2.2.1:=by
   have h1:=Xh hr;have h2:=bn9 p.2.2.2.2.1 (wv p);have h3:=bs2 p.2.2.2.2.1 (wv p);unfold eG at h1 ⊢;have k1:oq p=(bZ6,21075,p.2.2.2.2.1,w2 (wv p)):=rfl;rw[k1] at h1 ⊢;simp only;rw[h2];generalize dQ bZ3 (eJ (bZ6,21075,p.2.2.2.2.1,w2 (wv p)))=S at h1 h3 ⊢;unfold oc at h1 ⊢;rw[ah ab] at h1 ⊢;omega
  have w2c:aR (gD (bZ3,(oq p).2)) 2=18432+p.2.2.2.1:=by
   rw[esh,EL (by show 2+2<=10;omega) hcs.1 hcs.2,ecs]
  have hl10:be (gD (bZ3,(oq p).2))=10:=by rw[esh,oa];rfl
  have hb:bytes (gD (bZ3,(oq p).2)):=by rw[esh];exact xF bb
  have h0:Om (gD (bZ3,(oq p).2)) 0 Sk=0:=by rw[esh];rfl
  generalize hD:gD (bZ3,(oq p).2)=D at *;have sb:=Ep (src:=p.2.1) (dst:=p.1) (proto:=1) (data:=D) hn ab g.d g.s ab hb;generalize gM (kR p.2.1 p.1 1 id ttl D)=x at sb;have ⟨s1,s2,s3,s4⟩:=sb;have hp1:fi x=1:=by rw[fi,s2]
  have hx:gV x=p.1:=by rw[gV,s2]
  have hy:dF x=p.2.1:=by rw[dF,s2]
  rw[xV,ah ab,ah ab];refine NW g s1 ?_ hy.symm (by rw[s2]) (by rw[s2]) (λk=>?_)
  .have eg2:E0 D:=⟨u2.1,by rw[u2.2],by rw[u2.2];rfl,by rw[u2.2];rfl⟩
   rw[kr,aj ⟨hp1,by rw[s3];omega,by rw[s3];exact h0⟩,s3,o4,aj eg2,hx,hy,w2c,u2.2];have e9:18432+p.2.2.2.1-18432=p.2.2.2.1:=ab;rw[e9,tX,h];rfl
  .have:=(ur k).2.2.1 hp1;rw[s3,h0] at this;cases this
 .have eE:gF p=gQ p.1 p.2.1 (pD p):=by rw[Do hr h,gQ,aj (Np hr)]
  have u:=VN (s:=p.1) (d:=p.2.1) (ND hr) qi az;have hun:gn (dF (build p)) (gV (build p)) ((build p).drop 20)=pD p:=by rw[hs,hd,e3,eE];exact u.2
  have hh:=Ki (src:=p.2.1) hn ha (by rw[hpr];exact h) (by rw[hs,hd,e3,eE];exact u.1) (by rw[hun];show bits .and .i64 2 2≠0;decide) (by rw[hun];show bits .and .i64 2 4=0;decide);refine⟨hh.2,?_⟩;rw[hh.1,hun,hs];have eY:ou (pD p)=(80,20000+p.2.2.2.1,0,p.2.2.2.2.1+1,20,0,[]):=by
   have:(p.2.2.2.2.1+1)%4294967296=p.2.2.2.2.1+1:=ab;show (80,20000+p.2.2.2.1,0,(p.2.2.2.2.1+1)%4294967296,20,0,[])=_;rw[this]
  have okY:KF [] (ou (pD p)):=by
   rw[eY];refine⟨⟨(jA _).2 ⟨?_,?_⟩,(jA _).2 ⟨?_,?_⟩,⟨?_,?_⟩,⟨?_,?_⟩,⟨?_,?_⟩,(jA _).2 ⟨?_,?_⟩⟩,rfl⟩ <;> simp only <;> omega
  have u2:=VN (s:=p.2.1) (d:=p.1) okY qi az;have eg:=M9 okY az;have esh:gQ p.2.1 p.1 (ou (pD p))=dL (nS (ou (pD p))) 16 (iC p.2.1 p.1 6 (nS (ou (pD p)))):=by rw[gQ,aj eg]
  have hb:bytes (gQ p.2.1 p.1 (ou (pD p))):=by rw[esh];exact xF (G0 okY.1 qi)
  have hl20:be (gQ p.2.1 p.1 (ou (pD p)))=20:=by rw[esh,oa];rfl
  have h13:Om (gQ p.2.1 p.1 (ou (pD p))) 13 Sk=20:=by rw[esh];rfl
  rw[eY] at u2;generalize hD:gQ p.2.1 p.1 (ou (pD p))=D at *;rw[← eY,hD] at u2;have sb:=Ep (src:=p.2.1) (dst:=p.1) (proto:=6) (data:=D) hn ab g.d g.s ab hb;generalize gM (kR p.2.1 p.1 6 id ttl D)=x at sb;have ⟨s1,s2,s3,s4⟩:=sb;have hp1:fi x=6:=by rw[fi,s2]
  have hx:gV x=p.1:=by rw[gV,s2]
  have hy:dF x=p.2.1:=by rw[dF,s2]
  rw[eY] at u2;rw[xV,aj h];refine NW g s1 ?_ hy.symm (by rw[s2]) (by rw[s2]) (λk=>?_)
  .have eg2:Fw p.2.1 p.1 D:=⟨u2.1,by rw[u2.2],by rw[u2.2],by rw[u2.2],by rw[u2.2],by rw[u2.2]⟩
   rw[kr,ah (by rw[hp1];omega),ah ab,aj hp1,s3,hx,hy,pz,aj eg2,u2.2];have e9:20000+p.2.2.2.1-20000=p.2.2.2.1:=ab;have e8:p.2.2.2.2.1+1-1=p.2.2.2.2.1:=ab;simp only;rw[e9,e8,tX,h]
  .have:=(ur k).2.2.2.1 hp1 (by rw[s3];omega);rw[s3,h13] at this;exact absurd this aB
 .have eE:gF p=oH p.1 p.2.1 (vj p):=by rw[Gb hr h,oH,aj (On hr)]
  have u:=bD2 (s:=p.1) (d:=p.2.1) (Ww hr) (oV _) (by rw[Aw];omega);have hh:=IH (src:=p.2.1) hn ha (by rw[hpr];exact h) (by rw[hs,hd,e3,eE];exact u.1);refine⟨hh.2,?_⟩;rw[hh.1,xV,ah ab,aj h];exact (K4 g hu g.d (kind:=3) (code:=3) ⟨.inr rfl,ab,hn⟩).2.1
def Rc(p:bo)(x:ad):Prop:=(¬ ga p.1->x=[])/\(ga p.1→∃ a:oE,0<a.2.1/\Fb p a x)
def B3(x:au):Prop:=(∀ y∈aS x,u32 y.1)/\u32 (kL x)/\u32 (uV x)
theorem ak7{n:Net}(h:DN n){i:Nat}(hi:i<be n.1):B3 (Om n.1 i Sk):=by
 have d:=h.d i hi
 have l10:=h.l10
 have n7:=h.n7
 refine⟨λy hy=>?_,?_,?_⟩
 .have ⟨j,hj,q⟩:=(h.port hi).1 hy;unfold ib at q;obtain⟨-,rfl⟩|⟨-,rfl⟩:=q <;> (constructor <;> simp only <;> omega)
 .obtain q|q:=d.loop <;> (rw[q];constructor <;> omega)
 .obtain q|q:=d.fix
  .rw[q];constructor <;> omega
  .constructor <;> omega
theorem Ws{B:Int->Int->ad}{F:Int->Int}{w:fK}{own:Int}(h:F 0≠0):(fO B F w own).2.2≠2:=by
 by_cases k:own=0/\oA w.1=bZ3
 .rw[A5 k];show (4:Int)≠2;decide
 .rw[BA k h];show (6:Int)≠2;decide
theorem Jb{b:ad}(h:¬ fJ b)(k c i t:Int):iW b k c i t≠0:=by
 unfold iW
 by_cases g:yM k c i t
 .rw[ah (by simpa using g),ah h];decide
 .rw[aj g];decide
theorem YQ{b:ad}(h:¬ fJ b)(i t:Int):jd b i t≠0:=by
 unfold jd
 by_cases g:lv i t
 .rw[ah (by simpa using g),ah (λk=>h k.1)];decide
 .rw[aj g];decide
theorem aj5{x:au}{s:NState}{lk t:Int}{b:ad}(h:¬ fJ b):(gH x s lk t b).2.2≠2:=by
 unfold gH ia
 split
 .show (6:Int)≠2;decide
 split
 .unfold kF;rw[aj (.inr (by exact YQ h _ _))];show (1:Int)≠2;decide
 split
 .show (6:Int)≠2;decide
 unfold gE
 split
 .exact Ws (Jb h _ _ _ _)
 split
 .split
  .show (8:Int)≠2;decide
  .exact Ws (Jb h _ _ _ _)
 .show (0:Int)≠2;decide
theorem LI{B:Int->Int->ad}{F:Int->Int}{w:fK}{own:Int}:(fO B F w own).2.2≠0/\(fO B F w own).2.2≠1:=by
 by_cases k:own=0/\oA w.1=bZ3
 .rw[A5 k];exact⟨(by show (4:Int)≠0;decide),(by show (4:Int)≠1;decide)⟩
 by_cases k1:F 0≠0
 .rw[BA k k1];exact⟨(by show (6:Int)≠0;decide),(by show (6:Int)≠1;decide)⟩
 by_cases k2:iw w.2.1 (o3 w.2.2.2.2.2)=bZ6
 .rw[CE k k1 k2];exact⟨(by show (8:Int)≠0;decide),(by show (8:Int)≠1;decide)⟩
 by_cases k3:(ot w).2=bZ6
 .rw[D9 k k1 k2 k3];exact⟨(by show (5:Int)≠0;decide),(by show (5:Int)≠1;decide)⟩
 .rw[Dn k k1 k2 k3];exact⟨(by show (2:Int)≠0;decide),(by show (2:Int)≠1;decide)⟩
structure RX (x:au) (s:NState) (lk:Int) (b:ad):Prop where
 dec:dN b=0
 own:¬ oZ x (me (cJ b).1)=bZ3
 host:¬ (qf x=bZ3/\lk ≠ -1)
 ttl:¬ (lk ≠ -1/\gB x=bZ6/\DM (cJ b).1<2)
 way:¬ iw s (me (cJ b).1)=bZ6
def IQ(s:NState)(b:ad):Rt:=cR (cW s) (me (cJ b).1)
theorem Ni{x:au}{s:NState}{lk t:Int}{b:ad}(h:RX x s lk b):gH x s lk t b=(jk s (IQ s b),(mr x s (IQ s b) (iF b),if lk ≠ -1/\gB x=bZ6 then lE b else b),0):=by
 show ia (x,s,lk,t,b,tM)=_
 unfold ia
 rw[ah (by simpa using h.dec),ah h.own,ah h.host]
 have e:∀ w,w.1=x->w.2.1=s->w.2.2.1=lk->w.2.2.2.2.1=b->w.2.2.2.2.2=(cJ b).1->gE w=(jk s (IQ s b),(mr x s (IQ s b) (iF b),if lk ≠ -1/\gB x=bZ6 then lE b else b),0):=by
  intro w e1 e2 e3 e4 e5;unfold gE;rw[e1,e2,e3,e4,e5,ah h.ttl,ah h.way];rfl
 exact e _ rfl rfl rfl rfl rfl
theorem Og{x:au}{s:NState}{lk t:Int}{b:ad}(h:(gH x s lk t b).2.2=0):RX x s lk b:=by
 have h:(ia (x,s,lk,t,b,tM)).2.2=0:=h
 unfold ia at h
 by_cases k1:dN b≠0
 .rw[aj k1] at h;exact absurd h (by show (6:Int)≠0;decide)
 rw[ah k1] at h
 by_cases k2:oZ x (me (cJ b).1)=bZ3
 .rw[aj k2] at h;unfold kF at h;split at h
  .exact absurd h (by show (1:Int)≠0;decide)
  .exact absurd h LI.1
 rw[ah k2] at h
 by_cases k4:qf x=bZ3/\lk ≠ -1
 .rw[aj k4] at h;exact absurd h (by show (6:Int)≠0;decide)
 rw[ah k4] at h
 unfold gE at h
 split at h
 .exact absurd h LI.1
 rename_i k5
 split at h
 .split at h
  .exact absurd h (by show (8:Int)≠0;decide)
  .exact absurd h LI.1
 rename_i k6
 exact⟨by simpa using k1,k2,k4,k5,k6⟩
theorem aE2{p:bo}(g:fb p):dN (build p)=0/\(cJ (build p)).1=xw p:=by
 have h:=U1 g.ok g.s g.d
 exact⟨h.2.1,by rw[cJ,aj h.2.1];exact h.1⟩
def QX(x:au)(s s':NState)(t why:Int):Prop :=
 cW s'=cW s/\be (nL s')=be (nL s) ∧
  ((why≠2/\tQ s'=tQ s/\(xd s'=xd s∨(xd s'=(gh (mX x) (xd s) t).1/\(gh (mX x) (xd s) t).2=bZ6))) ∨
    (why=2/\tQ s'=bZ4.wrap (tQ s+1)/\xd s'=(gh (mX x) (xd s) t).1/\(gh (mX x) (xd s) t).2=bZ3))
theorem BN{x:au}{s:NState}{t why:Int}(h:why≠2):QX x s s t why:=⟨rfl,rfl,.inl ⟨h,rfl,.inl rfl⟩⟩
theorem aD4(l:ad)(i:Int):be (tZ l i)=be l:=by
 unfold tZ;split
 .exact gd
 .rfl
theorem Nv{B:Int->Int->ad}{F:Int->Int}{w:fK}{own:Int}:QX w.1 w.2.1 (fO B F w own).1 w.2.2.2.1 (fO B F w own).2.2:=by
 by_cases k:own=0/\oA w.1=bZ3
 .rw[A5 k];exact BN (by show (4:Int)≠2;decide)
 by_cases k1:F 0≠0
 .rw[BA k k1];exact BN (by show (6:Int)≠2;decide)
 by_cases k2:iw w.2.1 (o3 w.2.2.2.2.2)=bZ6
 .rw[CE k k1 k2];exact BN (by show (8:Int)≠2;decide)
 by_cases k3:(ot w).2=bZ6
 .rw[D9 k k1 k2 k3];exact⟨rfl,rfl,.inl ⟨(by show (5:Int)≠2;decide),rfl,.inr ⟨rfl,k3⟩⟩⟩
 .rw[Dn k k1 k2 k3];have k4:(ot w).2=true:=by simpa using k3
  refine⟨?_,?_,.inr ⟨rfl,?_,?_,k4⟩⟩
  .rw[Dr];rfl
  .rw[Dr];exact aD4 _ _
  .rw[Dr];rfl
  .rw[Dr];rfl
theorem X0(x:au)(s:NState)(lk t:Int)(b:ad):QX x s (gH x s lk t b).1 t (gH x s lk t b).2.2:=by
 unfold gH ia
 split
 .exact BN (by show (6:Int)≠2;decide)
 split
 .unfold kF;split
  .exact BN (by show (1:Int)≠2;decide)
  .exact Nv (w:=AT (x,s,lk,t,b,tM) (cJ b).1)
 split
 .exact BN (by show (6:Int)≠2;decide)
 unfold gE
 split
 .exact Nv (w:=AT (x,s,lk,t,b,tM) (cJ b).1)
 split
 .split
  .exact BN (by show (8:Int)≠2;decide)
  .exact Nv (w:=AT (x,s,lk,t,b,tM) (cJ b).1)
 .refine⟨?_,?_,.inl ⟨(by show (0:Int)≠2;decide),?_,.inl ?_⟩⟩ <;> (rw[Dr];rfl)
theorem Vc{n:au}{s:NState}{port a asked dst:Int}(hb:0<=p8 n/\p8 n<=65535)(ha:0<=asked/\asked<=65535):0<=oD n s port a asked dst/\oD n s port a asked dst<=65535:=by
 have hc:∀ x,0<=vY n x a/\vY n x a<=65535:=λx=>by unfold vY;omega
 have hh:0<=sA (p8 n) (0,dst,0,tQ s,0)%65536/\sA (p8 n) (0,dst,0,tQ s,0)%65536<=65535:=ab
 unfold oD
 split
 .exact hb
 split
 .exact hc _
 split
 .split <;> exact hc _
 split
 .exact ha
 split
 .exact hh
 .omega
theorem Ji{x:au}(A:B3 x){i:Int}(h0:0<=i)(h1:i<be (aS x)):u32 (adr x i)/\oZ x (adr x i)=true:=by
 have hm:=dm h0 h1
 rw[Uz h0 h1]
 refine⟨A.1 _ hm,?_⟩
 have:0<=pi x (Om (aS x) (it i) Sk).1:=UQ hm (by simp[pc])
 unfold oZ
 rw[ft this];rfl
theorem a91{x:au}{lk L:Int}(N:ua x)(A:B3 x)(hi:0<=fS x lk)(hL:0<=fS x L) :
  u32 (nU x (dS x lk) L)/\(oZ x (nU x (dS x lk) L)=bZ3∨(oQ x=4/\nU x (dS x lk) L=uV x))/\(oQ x=1->nU x (dS x lk) L=(Om (aS x) (it (fS x lk)) Sk).1):=by
 have e:dS x lk=fS x lk:=by unfold dS;omega
 have i1:=(yr hi).1
 have l1:=(yr hL).1
 rw[e]
 unfold nU
 by_cases s2:oQ x=2
 .rw[aj s2];have k:=Ji A hL l1;exact⟨k.1,.inl k.2,λq=>ab⟩
 rw[ah s2]
 by_cases s3:oQ x=3
 .rw[aj s3];have hne:kL x≠0:=λq=>N.form (.inr (.inr (.inl ⟨s3,q⟩)));refine⟨A.2.1,.inl ?_,λq=>ab⟩;unfold oZ;simp[hne]
 rw[ah s3]
 by_cases s4:oQ x=4
 .rw[aj s4];exact⟨A.2.2,.inr ⟨s4,rfl⟩,λq=>ab⟩
 rw[ah s4]
 have k:=Ji A hi i1
 exact⟨k.1,.inl k.2,λ_=>Uz hi i1⟩
theorem Md{B:Int->Int->ad}{F:Int->Int}{w:fK}{own:Int}(h:(fO B F w own).2.2=2) :
  F 0=0∧¬ iw w.2.1 (o3 w.2.2.2.2.2)=bZ6/\fO B F w own=(jk (om w) (po w),(mh B w,B (ly B w own) (jf w)),2):=by
 by_cases k:own=0/\oA w.1=bZ3
 .rw[A5 k] at h;exact absurd h (by show (4:Int)≠2;decide)
 by_cases k1:F 0≠0
 .rw[BA k k1] at h;exact absurd h (by show (6:Int)≠2;decide)
 by_cases k2:iw w.2.1 (o3 w.2.2.2.2.2)=bZ6
 .rw[CE k k1 k2] at h;exact absurd h (by show (8:Int)≠2;decide)
 by_cases k3:(ot w).2=bZ6
 .rw[D9 k k1 k2 k3] at h;exact absurd h (by show (5:Int)≠2;decide)
 .exact⟨by simpa using k1,k2,Dn k k1 k2 k3⟩
theorem OI{x:au}{s:NState}{lk t:Int}{b:ad}(h:(gH x s lk t b).2.2=2) :
  ∃ ki,gH x s lk t b=wJ (KS x s lk t b) ki/\((ki=0/\oZ x (me (cJ b).1)=bZ3/\Fu (cJ b).1≠17)∨(ki=1/\Fu (cJ b).1=17)∨ki=2∨ki=3):=by
 have e0:gH x s lk t b=ia (x,s,lk,t,b,tM):=rfl
 rw[e0] at h ⊢
 unfold ia at h ⊢
 by_cases k1:dN b≠0
 .rw[aj k1] at h;exact absurd h (by show (6:Int)≠2;decide)
 rw[ah k1] at h ⊢
 by_cases k2:oZ x (me (cJ b).1)=bZ3
 .rw[aj k2] at h ⊢;unfold kF at h ⊢;split at h
  .exact absurd h (by show (1:Int)≠2;decide)
  rename_i k3;rw[ah k3];by_cases k4:Fu (cJ b).1=17
  .exact⟨1,by rw[bR6];exact dP (fO _ _ _) (aj k4),.inr (.inl ⟨rfl,k4⟩)⟩
  .exact⟨0,by rw[a89];exact dP (fO _ _ _) (ah k4),.inl ⟨rfl,k2,k4⟩⟩
 rw[ah k2] at h ⊢
 by_cases k4:qf x=bZ3/\lk ≠ -1
 .rw[aj k4] at h;exact absurd h (by show (6:Int)≠2;decide)
 rw[ah k4] at h ⊢
 unfold gE at h ⊢
 split at h
 next k5=>exact⟨2,by rw[aj k5,bT6];rfl,.inr (.inr (.inl rfl))⟩
 rename_i k5
 rw[ah k5]
 split at h
 next k6=>
  rw[aj k6];split at h
  .exact absurd h (by show (8:Int)≠2;decide)
  rename_i k7;exact⟨3,by rw[ah k7,bF4];rfl,.inr (.inr (.inr rfl))⟩
 .exact absurd h (by show (0:Int)≠2;decide)
theorem NN{w:fK}{ki:Int}(h:kE ki w 0=0):fJ w.2.2.2.2.1:=jn λk=>by
 unfold kE at h
 split at h
 .exact Jb k _ _ _ _ h
 split at h
 .exact Jb k _ _ _ _ h
 .exact YQ k _ _ h
structure aF3 (x:au) (lk:Int) (p:bo) (a:oE) (r:rm):Prop where
 is:Fb p a r.2.1.2
 left:a.2.2.2.1=lK x
 quoted:a.2.2.2.2.2=0∨a.2.2.2.2.2=p.2.2.2.2.2
 out:0<=fS x r.2.1.1
 exc:a.2.1=1->oQ x=1->a.1=(Om (aS x) (it (fS x lk)) Sk).1
 own:oZ x a.1=bZ3∨(oQ x=4/\a.1=uV x)
 cnt:Om (nL r.1) (it (fS x lk)) Sk=1
theorem MC{x:au}{lk:Int}{p:bo}(N:ua x)(A:B3 x)(g:fb p)(hlk:lk∈de x)(h:(gH x (sZ x) lk 0 (build p)).2.2=2):∃ a,aF3 x lk p a (gH x (sZ x) lk 0 (build p)):=by
 have st:=UZ N
 have ⟨ki,e,hk⟩:=OI h
 rw[e] at h ⊢
 have ⟨d1,d2⟩:=aE2 g
 obtain⟨w,hw⟩:∃ w,w=KS x (sZ x) lk 0 (build p):=⟨_,rfl⟩
 rw[← hw] at h ⊢
 have ⟨a1,a2,a3⟩:=Md h
 have w1:w.1=x:=by rw[hw];rfl
 have w2:w.2.1=sZ x:=by rw[hw];rfl
 have w3:w.2.2.1=lk:=by rw[hw];rfl
 have w5:w.2.2.2.2.1=build p:=by rw[hw];rfl
 have w6:w.2.2.2.2.2=xw p:=by rw[hw];exact d2
 have hu:ga p.1:=by
  have:=NN a1;rw[w5] at this;exact (No g).1 this
 have hi:=Qz hlk
 have hin:dS x lk=fS x lk:=by unfold dS;omega
 have i1:fS x lk<be (aS x):=(yr hi).1
 have hL:0<=fS x (mh (kB ki w) w):=by
  have:=bb3 st (a:=o3 w.2.2.2.2.2) (by rw[← w2];exact a2) (om w) (iF (kB ki w (adr w.1 (dS w.1 w.2.2.1)) 0));unfold mh po;rw[w1,w2];rw[w1] at this;exact this
 have ⟨s1,s2,s3⟩:=a91 N A hi hL
 have hr:=(pV.1 g.ok).2
 obtain⟨hf,ht,-⟩:=id hr
 have hb:0<=p8 x/\p8 x<=65535:=by
  have h:=N.id;unfold qr at h;split at h
  next k=>have:=aX k;omega
  .cases h
 have hid:lv (jf w) (lK x):=by
  have f:=N.form;unfold rD at f;refine⟨?_,ab,ab⟩;unfold jf;rw[w1,w6];exact Vc hb ⟨by show 0<=p.2.2.2.2.1;omega,by show p.2.2.2.2.1<=65535;omega⟩
 have hc:Om (nL (wJ w ki).1) (it (fS x lk)) Sk=1:=by
  have e1:(wJ w ki).1=jk (om w) (po w):=dP (λr:rm=>r.1) a3;have e2:nL (wJ w ki).1=tZ (replicate (be (aS x)) 0) (fS x lk):=by
   rw[e1,Dr];show tZ (nL w.2.1) (dS w.1 w.2.2.1)=_;rw[w1,w2,w3,hin];rfl
  rw[e2,Ob (by rw[vU];exact i1)];have:it (fS x lk)<be (replicate (be (aS x)) (0:Int)):=by rw[vU];omega
  rw[cq,List.getElem?_set_self this,iA,cq,cG this,iA,List.getElem_replicate];decide
 have ho:(wJ w ki).2.1=(mh (kB ki w) w,kB ki w (ly (kB ki w) w (sP ki w)) (jf w)):=dP (λr:rm=>r.2.1) a3
 have hsrc:nU w.1 (dS w.1 w.2.2.1) (mh (kB ki w) w)=nU x (dS x lk) (mh (kB ki w) w):=by rw[w1,w3]
 have hF:sP ki w=0->ly (kB ki w) w (sP ki w)=nU x (dS x lk) (mh (kB ki w) w):=λq=>by unfold ly;rw[aj q,hsrc]
 generalize hid2:jf w=id at hid ho
 generalize hLL:mh (kB ki w) w=L at hL s1 s2 s3 ho hF
 generalize nU x (dS x lk) L=F at s1 s2 s3 hF
 have hp17:Fu (cJ (build p)).1=p.2.2.1:=by rw[d2];rfl
 obtain⟨rfl,q1,q2⟩|⟨rfl,q1⟩|rfl|rfl:=hk
 .have hd:me (cJ (build p)).1=p.2.1:=by rw[d2];rfl
  have ko:sP 0 w=p.2.1:=by show me w.2.2.2.2.2=_;rw[w6];rfl
  rw[hd] at q1;have hne:=aQ0 N q1;have ef:ly (kB 0 w) w (sP 0 w)=p.2.1:=by unfold ly;rw[ko,ah hne]
  rw[ef] at ho;have eB:kB 0 w p.2.1 id=lS (build p) p.2.1 id (lK x):=by show jJ w _ _=_;unfold jJ;rw[w5,w1]
  rw[eB] at ho;have I:=(RO g hu hid).2;refine⟨xV p id (lK x),by rw[ho];exact I,?_,?_,by rw[ho];exact hL,?_,.inl ?_,hc⟩
  .unfold xV;split
   .rfl
   .split <;> rfl
  .unfold xV;split
   .exact .inl rfl
   .split
    .exact .inr rfl
    .exact .inl rfl
  .intro k;exfalso;unfold xV at k;split at k
   .exact absurd k (by show (4:Int)≠1;decide)
   .split at k
    .exact absurd k (by show (3:Int)≠1;decide)
    .exact absurd k (by show (2:Int)≠1;decide)
  .have:(xV p id (lK x)).1=p.2.1:=by unfold xV;split;rfl;split <;> rfl
   rw[this];exact q1
 .rw[hF rfl] at ho;rw[hp17] at q1;have hpr:fi (build p)=17:=by rw[fi,g.dec.1];exact q1
  have eB:kB 1 w F id=kU (build p) F 3 3 id (lK x):=by
   show jJ w _ _=_;unfold jJ lS;rw[w5,w1,aj (RO g hu hid).1,ah (by rw[hpr];decide),aj hpr]
  rw[eB] at ho;have I:=(K4 g hu s1 (kind:=3) (code:=3) ⟨.inr rfl,ab,hid⟩).2.1;exact⟨(F,vP 3 3,3,lK x,id,p.2.2.2.2.2),by rw[ho];exact I,rfl,.inr rfl,by rw[ho];exact hL,λk=>absurd k (by show vP 3 3≠1;decide),s2,hc⟩
 .rw[hF rfl] at ho;have eB:kB 2 w F id=kU (build p) F 11 0 id (lK x):=by show gI w 11 0 _ _=_;unfold gI;rw[w5,w1]
  rw[eB] at ho;have I:=(K4 g hu s1 (kind:=11) (code:=0) ⟨.inl rfl,ab,hid⟩).2.1;exact⟨(F,vP 11 0,0,lK x,id,p.2.2.2.2.2),by rw[ho];exact I,rfl,.inr rfl,by rw[ho];exact hL,λ_ k=>s3 k,s2,hc⟩
 .rw[hF rfl] at ho;have eB:kB 3 w F id=kU (build p) F 3 0 id (lK x):=by show gI w 3 0 _ _=_;unfold gI;rw[w5,w1]
  rw[eB] at ho;have I:=(K4 g hu s1 (kind:=3) (code:=0) ⟨.inr rfl,ab,hid⟩).2.1;exact⟨(F,vP 3 0,0,lK x,id,p.2.2.2.2.2),by rw[ho];exact I,rfl,.inr rfl,by rw[ho];exact hL,λk=>absurd k (by show vP 3 0≠1;decide),s2,hc⟩
theorem Oi{B:Int->Int->ad}{F:Int->Int}{w:fK}{own:Int}(h:(fO B F w own).2.2≠2):(fO B F w own).2.1=lJ:=by
 by_cases k:own=0/\oA w.1=bZ3
 .rw[A5 k]
 by_cases k1:F 0≠0
 .rw[BA k k1]
 by_cases k2:iw w.2.1 (o3 w.2.2.2.2.2)=bZ6
 .rw[CE k k1 k2]
 by_cases k3:(ot w).2=bZ6
 .rw[D9 k k1 k2 k3]
 .rw[Dn k k1 k2 k3] at h;exact absurd rfl h
theorem aP5{x:au}{s:NState}{lk t:Int}{b:ad}(h:(gH x s lk t b).2.2≠2)(h0:(gH x s lk t b).2.2≠0):(gH x s lk t b).2.1=lJ:=by
 unfold gH ia at h h0 ⊢
 split at h
 next k=>rw[aj k]
 rename_i k1
 rw[ah k1] at h0 ⊢
 split at h
 next k2=>
  rw[aj k2];unfold kF at h ⊢;split at h
  next k=>rw[aj k]
  next k=>rw[ah k];exact Oi h
 rename_i k2
 rw[ah k2] at h0 ⊢
 split at h
 next k=>rw[aj k]
 rename_i k3
 rw[ah k3] at h0 ⊢
 unfold gE at h h0 ⊢
 split at h
 next k=>rw[aj k];exact Oi h
 rename_i k4
 rw[ah k4] at h0 ⊢
 split at h
 next k=>
  rw[aj k];split at h
  next k=>rw[aj k]
  next k=>rw[ah k];exact Oi h
 rename_i k5
 rw[ah k5] at h0
 exact absurd rfl h0
theorem Js{p:ny}(h:jh p=0):be (gM p)=20+be p.2/\(bytes p.2->bytes (gM p)):=by
 rw[gM,aj h]
 refine⟨by rw[bM,wH],λhb=>jY (MN ?_) hb⟩
 exact jn λk=>by rw[jh,aj k] at h;cases h
theorem CO{b:ad}(hb:bytes b)(h:dN b=0):nj (cB b)/\20<=be b/\be b<=1500:=by
 have hp:=Jd h
 have hl:=Hv hp
 have hd:=DB h
 have w:=rI hb 4
 have g:∀ i,0<=Om b i Sk/\Om b i Sk<=255:=λi=>by
  by_cases k:i<be b
  .have:=hb _ (dm (i:=(i:Int)) ab ab);simpa using this
  .rw[cq,AH ab];decide
 exact⟨⟨g 1,g 8,g 9,w.1,w.2⟩,ab,ab⟩
theorem bo7{b:ad}(hb:bytes b)(h:j5 b=0):be (lE b)=be b/\bytes (lE b):=by
 have hd:=jn λk=>by rw[j5,aj k] at h;exact k h
 have ht:¬ (cB b).2.2.1<2:=λk=>by rw[j5,ah (λq=>q hd),aj k] at h;cases h
 have ⟨⟨h1,⟨h2,h2'⟩,h3,h4,h5⟩,l1,l2⟩:=CO hb hd
 have e:jh (CF (cB b),b.drop 20)=0:=by
  rw[jh,ah,ah (by simp only[gw];omega)];rw[uj];exact⟨h1,⟨by show 0<=(cB b).2.2.1-1;omega,by show (cB b).2.2.1-1<=255;omega⟩,h3,h4,h5⟩
 have k:=Js e
 rw[lE,aj h]
 refine⟨?_,k.2 (yx hb)⟩
 rw[k.1];simp only[gw];omega
theorem MO{b:ad}{f kind code id ttl:Int}(hb:bytes b)(h:iW b kind code id ttl=0):0<be (kU b f kind code id ttl)/\bytes (kU b f kind code id ttl):=by
 have hg:=jn λk=>by rw[iW,aj k] at h;cases h
 have ha:=jn λk=>by rw[iW,ah (λq=>q hg),ah k] at h;cases h
 obtain⟨-,e,en,ei⟩:=Ij (src:=f) hg ha
 have k:=Js ei
 rw[e]
 exact⟨by rw[k.1];omega,k.2 (MH en (QO hb))⟩
theorem YI{e:qN}(h:bytes e.2.2.2)(hl:(be e.2.2.2:Int)<=1472):(be (gD e):Int)<=1480/\bytes (gD e):=by
 unfold gD
 split
 .exact⟨by rw[oa,Ps];omega,xF (DJ h)⟩
 .exact⟨az,qi⟩
theorem Uy{s d:Int}{e:mJ}(h:e.2.2.2.2.2.2=[]):(be (gQ s d e):Int)<=1480/\bytes (gQ s d e):=by
 unfold gQ
 split
 next k=>
  have ok:=jn λq=>by rw[pA,aj q] at k;cases k
  exact⟨by rw[oa,JH,h];simp,xF (G0 ok (by rw[h];exact qi))⟩
 .exact⟨az,qi⟩
theorem a01{b:ad}{f id ttl:Int}(hb:bytes b)(h:jd b id ttl=0):0<be (lS b f id ttl)/\bytes (lS b f id ttl):=by
 have hn:=jn λk=>by rw[jd,aj k] at h;cases h
 have hg:=jn λk=>by rw[jd,ah (λq=>q hn),ah k] at h;cases h
 obtain⟨-,l1,l2⟩:=CO hb hg.1.1
 have hd:=yx (n:=20) hb
 obtain⟨ha,⟨g1,g2⟩|⟨g1,g2⟩|⟨g1,g2,g3,g4⟩⟩:=hg
 .rw[(J2 (src:=f) hn ha g1 g2).1];have hl:=Xc (b.drop 20);have hE:(be (gD (bZ3,(gT (b.drop 20)).2)):Int)<=1480/\bytes (gD (bZ3,(gT (b.drop 20)).2)):=by
   have e:(gT (b.drop 20)).2.2.2=(b.drop 20).drop 8:=by unfold gT;rw[aj g2]
   refine YI ?_ ?_
   .show bytes (gT (b.drop 20)).2.2.2;rw[e];exact yx hd
   .show ((gT (b.drop 20)).2.2.2.length:Int)<=1472;rw[e];simp only[gw];omega
  have k:=Js (Eg (src:=f) (dst:=dF b) hn (proto:=1) ab hE.1);exact⟨by rw[k.1];omega,k.2 hE.2⟩
 .rw[(IH (src:=f) hn ha g1 g2).1];exact MO hb (NK hn ha)
 .rw[(Ki (src:=f) hn ha g1 g2 g3 g4).1];have hE:(be (gQ f (dF b) (ou (gn (dF b) (gV b) (b.drop 20)))):Int)<=1480/\bytes (gQ f (dF b) (ou (gn (dF b) (gV b) (b.drop 20)))):=Uy rfl;have k:=Js (Eg (src:=f) (dst:=dF b) hn (proto:=6) ab hE.1);exact⟨by rw[k.1];omega,k.2 hE.2⟩
theorem aP7{ki:Int}{w:fK}{f id:Int}(hb:bytes w.2.2.2.2.1)(hn:lv id (lK w.1))(h:kE ki w 0=0):0<be (kB ki w f id)/\bytes (kB ki w f id):=by
 have ha:=NN h
 unfold kB
 split
 .exact MO hb (by rw[iW,ah (λk=>k ⟨.inl rfl,ab,hn⟩),aj ha])
 split
 .exact MO hb (by rw[iW,ah (λk=>k ⟨.inr rfl,ab,hn⟩),aj ha])
 next k2 k3=>
  have h:jd w.2.2.2.2.1 0 (lK w.1)=0:=by
   unfold kE at h;rw[ah k2,ah k3] at h;exact h
  have hg:Cx w.2.2.2.2.1:=jn λq=>by
   rw[jd] at h;split at h
   .cases h
   .cases h
  exact a01 hb (G2 hn hg)
structure TJ (x:au) (s:NState) (r:rm):Prop where
 some:r.2.2=0∨r.2.2=2->0<be r.2.1.2/\be r.2.1.2<=1500/\0<=fS x r.2.1.1
 none:r.2.2≠0->r.2.2≠2->r.2.1=lJ
 byt:bytes r.2.1.2
 rt:cW r.1=cW s
theorem W6{w:fK}(hid:qr w.1=0)(hf:¬ rD w.1)(hI:0<=vJ w.2.2.2.2.2/\vJ w.2.2.2.2.2<=65535):lv (jf w) (lK w.1):=by
 have hb:0<=p8 w.1/\p8 w.1<=65535:=by
  unfold qr at hid;split at hid
  next k=>have:=aX k;omega
  .cases hid
 unfold rD at hf
 refine⟨?_,ab,ab⟩
 unfold jf
 exact Vc hb hI
theorem P0{x:au}{s:NState}(hrt:∀ r∈cW s,pm r (de x)){a:Int}(hw:¬ iw s a=bZ6)(s':NState)(k:lD):0<=fS x (mr x s' (cR (cW s) a) k) :=
 Qz (Uu (hrt _ (XL hw)) _ (VX (Gi hw)))
theorem Nl{x:au}{s:NState}{lk t:Int}{b:ad}(N:ua x)(hs:∀ r∈cW s,pm r (de x))(hb:bytes b):TJ x s (gH x s lk t b):=by
 have T:=(X0 x s lk t b).1
 by_cases h0:(gH x s lk t b).2.2=0
 .have F:=Og h0;have e:=Ni (t:=t) F;obtain⟨-,l1,l2⟩:=CO hb F.dec;have hlow:lk ≠ -1/\gB x=bZ6->j5 b=0:=λk=>by
   have ht:=F.ttl;have e1:(cJ b).1=cB b:=by rw[cJ,aj F.dec]
   rw[e1] at ht;rw[j5,ah (λq=>q F.dec)];exact ah (λq=>ht ⟨k.1,k.2,q⟩)
  have key:be (if lk ≠ -1/\gB x=bZ6 then lE b else b)=be b/\bytes (if lk ≠ -1/\gB x=bZ6 then lE b else b):=by
   split
   next k=>exact bo7 hb (hlow k)
   .exact⟨rfl,hb⟩
  refine⟨λ_=>?_,λk=>absurd h0 k,?_,T⟩
  .rw[e];exact⟨by show 0<be _;rw[key.1];omega,by show be _<=1500;rw[key.1];omega,P0 hs F.way _ _⟩
  .rw[e];exact key.2
 by_cases h2:(gH x s lk t b).2.2=2
 .have ⟨ki,e,hk⟩:=OI h2;rw[e] at h2;obtain⟨w,hw⟩:∃ w,w=KS x s lk t b:=⟨_,rfl⟩
  rw[← hw] at h2 e;have ⟨a1,a2,a3⟩:=Md h2;have w1:w.1=x:=by rw[hw];rfl
  have w2:w.2.1=s:=by rw[hw];rfl
  have w5:w.2.2.2.2.1=b:=by rw[hw];rfl
  have hI:0<=vJ w.2.2.2.2.2/\vJ w.2.2.2.2.2<=65535:=by
   have:w.2.2.2.2.2=(cJ b).1:=by rw[hw];rfl
   rw[this];unfold cJ;split
   .exact rI hb 4
   .exact⟨by show (0:Int)<=0;omega,by show (0:Int)<=65535;omega⟩
  have hn:=W6 (w:=w) (by rw[w1];exact N.id) (by rw[w1];exact N.form) hI;have ho:(gH x s lk t b).2.1=(mh (kB ki w) w,kB ki w (ly (kB ki w) w (sP ki w)) (jf w)):=by rw[e];exact dP (λr:rm=>r.2.1) a3
  have k:=aP7 (f:=ly (kB ki w) w (sP ki w)) (by rw[w5];exact hb) hn a1;have kl:=bM5 ki w (ly (kB ki w) w (sP ki w)) (jf w);have hL:0<=fS x (mh (kB ki w) w):=by
   have:=P0 hs (a:=o3 w.2.2.2.2.2) (by rw[← w2];exact a2) (om w) (iF (kB ki w (adr w.1 (dS w.1 w.2.2.1)) 0));unfold mh po;rw[w1,w2];rw[w1] at this;exact this
  refine⟨λ_=>?_,λ_ q=>absurd (by rw[e];exact h2) q,?_,T⟩
  .rw[ho];exact⟨k.1,by have:(be (kB ki w (ly (kB ki w) w (sP ki w)) (jf w)):Int)<=1500:=kl;show be (kB ki w (ly (kB ki w) w (sP ki w)) (jf w))<=1500;omega,hL⟩
  .rw[ho];exact k.2
 .have e:=aP5 h2 h0;refine⟨λk=>?_,λ_ _=>e,by rw[e];exact qi,T⟩;obtain k|k:=k
  .exact absurd k h0
  .exact absurd k h2
abbrev qe:CT := .pair cI (.pair cI (.pair cI (.pair cI (.pair cI (.sl bm)))))
abbrev Flight:Type:=Int×Int×Int×Int×Int×ad
abbrev Bf:CT := .pair cI (.pair cI (.sl bm))
abbrev Del:Type:=Int×Int×ad
abbrev Bz:CT := .pair cI (.pair cI (.pair cI (.pair cI cI)))
abbrev EndR:Type:=Int×Int×Int×Int×Int
abbrev qV:CT := .pair l7 (.pair cI (.pair cI (.pair cI (.pair (.sl tv) (.pair (.sl cI) (.pair (.sl qe) (.pair (.sl Bf) (.sl Bz))))))))
abbrev aN:Type:=Net×Int×Int×Int×List NState×ad×List Flight×List Del×List EndR
def aW(f:Flight):Int:=f.1
def pO(f:Flight):Int:=f.2.1
def bX(f:Flight):Int:=f.2.2.1
def ju(f:Flight):Int:=f.2.2.2.1
def qB(f:Flight):Int:=f.2.2.2.2.1
def gS(f:Flight):ad:=f.2.2.2.2.2
def aH(w:aN):Net:=w.1
def ce(w:aN):Int:=w.2.1
def dc(w:aN):Int:=w.2.2.1
def d8(w:aN):Int:=w.2.2.2.1
def dD(w:aN):List NState:=w.2.2.2.2.1
def iD(w:aN):ad:=w.2.2.2.2.2.1
def aL(w:aN):List Flight:=w.2.2.2.2.2.2.1
def bO(w:aN):List Del:=w.2.2.2.2.2.2.2.1
def dZ(w:aN):List EndR:=w.2.2.2.2.2.2.2.2
def cQ(w:aN)(t:Int):aN:=(w.1,t,w.2.2)
def jP(w:aN)(l:List NState):aN:=(w.1,w.2.1,w.2.2.1,w.2.2.2.1,l,w.2.2.2.2.2)
def te(w:aN)(k:Int):aN:=(w.1,w.2.1,w.2.2.1,k,w.2.2.2.2)
def xW(w:aN)(l:ad):aN:=(w.1,w.2.1,w.2.2.1,w.2.2.2.1,w.2.2.2.2.1,l,w.2.2.2.2.2.2)
def gu(w:aN)(l:List Flight):aN:=(w.1,w.2.1,w.2.2.1,w.2.2.2.1,w.2.2.2.2.1,w.2.2.2.2.2.1,l,w.2.2.2.2.2.2.2)
def zL(w:aN)(l:List Del):aN:=(w.1,w.2.1,w.2.2.1,w.2.2.2.1,w.2.2.2.2.1,w.2.2.2.2.2.1,w.2.2.2.2.2.2.1,l,w.2.2.2.2.2.2.2.2)
def Q0(w:aN)(l:List EndR):aN:=(w.1,w.2.1,w.2.2.1,w.2.2.2.1,w.2.2.2.2.1,w.2.2.2.2.2.1,w.2.2.2.2.2.2.1,w.2.2.2.2.2.2.2.1,l)
def Um(w:aN)(k:Int):aN:=(w.1,w.2.1,k,w.2.2.2)
def PC(s:NState)(l:List Rt):NState:=(l,s.2)
def iV(l:List Flight)(f:Flight):List Flight:=(l.takeWhile λx=>bZ2 (aW x<=aW f))++f::l.dropWhile λx=>bZ2 (aW x<=aW f)
def DY(w:aN)(f:Flight):aN:=gu (Um w (bZ4.wrap (dc w+1))) (iV (aL w) (aW f,dc w,f.2.2))
def lZ(w:aN):cH:=(aH w).2.2.getD (it (d8 w)) Sk
def nR(w:aN):Bool:=bZ2 (d8 w<(aH w).2.2.length)&&bZ2 (jU (lZ w)<=ce w)
def jN(w:aN):aN :=
 te (jP w ((dD w).set (it (c8 (lZ w))) (PC (Om (dD w) (it (c8 (lZ w))) Sk) (jI (cW (Om (dD w) (it (c8 (lZ w))) Sk)) (lZ w))))) (bZ4.wrap (d8 w+1))
def fc:Nat->aN->aN
 | 0,w=>w
 | n+1,w=>if nR w=bZ3 then fc n (jN w) else w
def dh(w:aN):aN:=fc ((aH w).2.2.length-it (d8 w)) w
def qF(w:aN)(f:Flight)(link why:Int):aN:=Q0 w (dZ w++[(qB f,aW f,bX f,link,why)])
def xl(l:ck)(c:Int):Int:=oJ (bits .xor .u64 (oJ (bZ5 .u64 (Am l))) (bZ5 .u64 c))
def fQ(w:aN)(k:Int):ck:=(aH w).2.1.getD (it k) Sk
def pW(w:aN)(k:Int):Int:=Om (iD w) (it k) Sk
def Fo(w:aN)(k:Int):Int:=bZ4.wrap (Int.tmod (Int.tdiv (xl (fQ w k) (pW w k)) 65536) (bZ5 .u64 (bZ4.wrap (mI (fQ w k)+1))))
def qu(w:aN)(k:Int):Int:=bZ4.wrap (bZ4.wrap (ce w+qI (fQ w k))+Fo w k)
def ig(w:aN)(f:Flight)(out:bY9):aN :=
 let v:=xW w ((iD w).set (it out.1) (bZ4.wrap (pW w out.1+1)))
 if Int.tmod (xl (fQ w out.1) (pW w out.1)) 65536<bZ5 .u64 (vN (fQ w out.1)) then qF v f out.1 3
 else if 1125899906842624<qu w out.1∨(4096:Int)<=be (aL w) then qF v f out.1 7
 else DY v (qu w out.1,0,ku (aH w).2.1 out.1 (bX f),out.1,qB f,out.2)
def bT(w:aN)(f:Flight):rm:=gH ((aH w).1.getD (it (bX f)) Sk) (Om (dD w) (it (bX f)) Sk) (ju f) (aW f) (gS f)
def jS(w:aN)(f:Flight):aN :=
 let r:=bT w f
 let a:=jP w ((dD w).set (it (bX f)) r.1)
 let b:=if r.2.2=1 then zL a (bO a++[(aW f,bX f,gS f)]) else a
 let c:=if r.2.2≠0 then qF b f (ju f) r.2.2 else b
 if 0<be r.2.1.2 then ig c f r.2.1 else c
def eO(w:aN):aN:=jS (dh (cQ (gu w (aL w).tail) (aW ((aL w).headD Sk)))) ((aL w).headD Sk)
def fE(w:aN)(to:Int):Bool:=match aL w with
 | []=>bZ6
 | f::_=>bZ2 (aW f<=to)
def jD:Nat->aN->Int->aN
 | 0,w,_=>w
 | n+1,w,to=>if fE w to=bZ3 then jD n (eO w) to else w
def gm(to:Int)(l:List Flight):Nat:=(l.map λf=>it (to+1-aW f)).sum
def pB(w:aN)(to:Int):aN:=dh (cQ (jD (gm to (aL w)) w to) to)
theorem JC{l:List Flight}{f x:Flight}:x∈iV l f↔x=f∨x∈l:=by
 unfold iV
 rw[dI,dO]
 have e:=yz (p:=λx=>bZ2 (aW x<=aW f)) (l:=l)
 constructor
 .rintro (h|h|h)
  .right;rw[← e];exact ip _ h
  .exact .inl h
  .right;rw[← e];exact jv _ h
 .rintro (h|h)
  .exact .inr (.inl h)
  .rw[← e] at h;obtain h|h:=dI.1 h
   .exact .inl h
   .exact .inr (.inr h)
theorem FE(l:List Flight)(f:Flight):be (iV l f)=be l+1:=by
 have e:=dP be (yz (p:=λx=>bZ2 (aW x<=aW f)) (l:=l))
 rw[bM] at e
 unfold iV
 rw[bM,cX];omega
theorem Sm(to:Int)(l:List Flight)(f:Flight):gm to (iV l f)=gm to l+it (to+1-aW f):=by
 have e:gm to l=gm to ((l.takeWhile λx=>bZ2 (aW x<=aW f))++(l.dropWhile λx=>bZ2 (aW x<=aW f))):=by rw[yz]
 rw[e]
 unfold gm iV
 simp only[kJ,fF,List.sum_append,List.sum_cons]
 omega
def iS(a b:Flight):Prop:=aW a<aW b∨aW a=aW b/\pO a<pO b
theorem Rb{l:List Flight}{f:Flight}(h:l.Pairwise iS)(hn:∀ x∈l,pO x<pO f):(iV l f).Pairwise iS:=by
 have e:=yz (p:=λx=>bZ2 (aW x<=aW f)) (l:=l)
 have h2:=h
 rw[← e] at h2
 have ⟨a,b,c⟩:=cf0.1 h2
 have hd:∀ x∈l.dropWhile (λx=>bZ2 (aW x<=aW f)),aW f<aW x:=by
  intro x hx;cases hh:l.dropWhile (λx=>bZ2 (aW x<=aW f)) with
  | nil=>rw[hh] at hx;cases hx
  | cons y r =>
   have hy:¬ aW y<=aW f:=by
    have:=List.head_dropWhile_not (p:=λx=>bZ2 (aW x<=aW f)) (l:=l) (by rw[hh];simp);simp only[hh,List.head_cons] at this;simpa using this
   rw[hh] at hx b;obtain rfl|hx:=dO.1 hx
   .omega
   .obtain k|k:=(ca4.1 b).1 x hx <;> omega
 unfold iV
 refine cf0.2 ⟨a,ca4.2 ⟨λx hx=>.inl (hd x hx),b⟩,λx hx y hy=>?_⟩
 have hxl:x∈l:=by rw[← e];exact ip _ hx
 have hxf:aW x<=aW f:=by
  have:=ci6.1 (List.all_takeWhile (p:=λx=>bZ2 (aW x<=aW f)) (l:=l)) x hx;simpa using this
 obtain rfl|hy:=dO.1 hy
 .have:=hn x hxl;unfold iS;omega
 .exact .inl (by have:=hd y hy;omega)
end Go.RS
