/- SX, part 10: append, slicing, an array's element: soundness. -/
import Derived.Test.YtgcnlmckfpcgpaaGreatDoorSx9
import Derived.Lib.AppendZeros
import Derived.Laws.BytesArg
import Derived.Laws.StructEq
import Derived.MapKept
import Derived.Carry
import Derived.TacticsIn
import Derived.OrdersIn
import Derived.Sort.LoopGhostIn
import Derived.RangeFuncRecord
import Derived.Orders
set_option linter.all false
open List (replicate)
open And renaming intro->cu4
open Array renaming empty_append->cu6,ext'->cu2,map->cC6,size_append->cn1,toList_map->cf1
open Bool renaming false->bZ6,true->bZ3
open Decidable renaming decide->bZ2
open Go renaming Deferred->cE1,IntKind->cb7,MapEntry->cs7,Operand->cb3,Program->ca7,TypeId->bZ8,Value->ca2,World->ca8,cell_of_row->cm9,eqGuard_at_string->cA9,execOp->cb0,grownCap_ge->cw4,grownCap_le_maxLen->cl2,growslice_fits->cD7,maxLen->cb2,run_append_grow->cC5,run_convert_bytes_arg->cx3
open Go.Addr renaming add_lit->cd4
open Go.Builtin renaming append_->cc0,firstCells->cs5,lenOf->co7,zeroCells->ca9
open Go.ByteArray renaming toList_eq->cF5
open Go.Deferred renaming ofValue->ct1
open Go.Fence renaming wide->ci3
open Go.Instr renaming findNow->cp5,index->cs8,indexAt->cz1,loadAt->cq7,mapUpdate->cx5,sameNow->cz2,slice->cs6,sliceAt->cm0,sliceBounds->cj3,storeAt->cz3,sureAddr->ce0
open Go.IntKind renaming i64->bZ4
open Go.MapKept renaming IsKey->cx4,run_checkKey->ck7,run_findKey->ck9,run_getObj_map->ck0,run_setObj_map->cp6
open Go.Op renaming stringOp->cD8
open Go.Oper renaming semAt_eq->cp9
open Go.Region renaming wanted->ch9
open Go.Result renaming andThen_ok->ca3
open Go.Sem renaming run_bind->ca6,run_ite->cu3,run_pure->cb1
open Go.Value renaming cells->cn9,int->ch1,oneCell'->cy4,slice->cj5
open Go.World renaming freeze->cm6,shape?->cc7,size_drew->co3
open Int renaming toNat->it
open List renaming cons->cj0,ext_getElem?->cw5,getD->Om,getElem?_append->ce1,getElem?_eq_some_iff->ca5,getElem?_map->ce9,getElem?_toArray->ci2,getElem_mem->cc3,length->be,length_nil->cb8,map->cg4,map_nil->cn8,map_toArray->cx2
open Nat renaming beq->ca0,ble->cd9,ble_eq->cD9,mul_one->co5,sub_zero->cn6,zero_mul->cB7
open Option renaming map->ch6,none->bZ9,some->bZ1
namespace Go.SX
section
variable {P:ca7} {w0:ca8} {N0:fI} {A:Nat->Prop} {env:bi} {h:bZ} {w:ca8} {o:Oper} {a:Act} {ρ:Nat->SV} {d:Dl} {r:List Nat}
theorem Jh{t:CT}{cv:Nat->Option ca2}:∀(ys:List t.D)(off:Nat),(∀ i (c:i<be ys),Rd A w t cv (off+i*t.size) ys[i]) →
  ∃ news:List ca2,be news=be ys*t.size/\(∀ j,j<be news->cv (off+j)=news[j]?)∧∀ u∈news,u.oneCell'=bZ3
 | [],off,_=>⟨[],az,az,az⟩
 | y::ys,off,d=>by
  obtain⟨us,hl,hc,hd⟩:=yX (env:=λ_=>.un) t y cv off (by have:=d 0 az;simpa only[cB7,kf,List.getElem_cons_zero] using this);obtain⟨news,b,hc2,h1⟩:=Jh ys (off+t.size) (λi c=>by
   have:=d (i+1) (by simpa using c);rw[show off+t.size+i*t.size=off+(i+1)*t.size from by rw[fY,mv];omega];exact this)
  refine⟨us++news,by simp[hl,b,fY];omega,λj hj=>?_,?_⟩
  .grind
  .intro u a;obtain a|a:=dI.1 a
   .exact EN hd (Lj _ _) u a
   .exact h1 u a
theorem S4{t:CT}{v:ca2}{ys:List t.D}(hs:uF A w t v ys):∃ p c,v = .slice p (be ys) c/\be ys<=cb2 ∧
  (be ys=0∨∃ b off,p=bZ1 ⟨b,off,bZ9⟩∧∀ i (hi:i<be ys),Rd A w t (λo=>w.cell? ⟨b,o,bZ9⟩) (off+i*t.size) ys[i]):=by
 obtain⟨hl,⟨⟨p,rfl⟩,rfl⟩|⟨b,off,cap,rfl,h1,h2,h3,h4⟩⟩:=hs
 .simp_all
 .grind
theorem O2(m:Mod w0 N0 A env h w){t:CT}{x:SV}{v:ca2}{ys:List t.D}(e:(yk t x).run h=bZ1 (ys,r))(y:aA A env w x v) :
  ∃ p c,v = .slice p (be ys) c/\be ys<=cb2 ∧
  (be ys=0∨∃ b off,p=bZ1 ⟨b,off,bZ9⟩∧∀ i (z:i<be ys),Rd A w t (λo=>w.cell? ⟨b,o,bZ9⟩) (off+i*t.size) ys[i]):=by
 unfold yk at e
 split at e
 next u zs=>
  split at e
  next f hc=>obtain⟨rfl,_⟩:=e;have ⟨j,k⟩:=kC hc;subst j;subst k;exact S4 y
  .cases e
 next u zs=>
  split at e
  next f hc=>obtain⟨rfl,_⟩:=e;have ⟨j,k⟩:=kC hc;subst j;subst k;exact S4 y.1
  .cases e
 .simp only[Q.run,cE,cy] at e;simp only[aA] at y;simp_all
 next n sz=>
  simp only[Q.run] at e;split at e
  .rename_i p q hk;simp at e;obtain⟨rfl,rfl⟩:=e;have l:∀{g:bZ8}{u:CT}{zs:List u.D},(h n = .live (.row g u zs)∨h n = .live (.frz g u zs))->iq u t zs=bZ1 p →
     ∃ C c,v = .slice C (be p) c/\be p<=cb2 ∧
     (be p=0∨∃ b off,C=bZ1 ⟨b,off,bZ9⟩∧∀ i (z:i<be p),Rd A w t (λo=>w.cell? ⟨b,o,bZ9⟩) (off+i*t.size) p[i]):=by
    intro g u zs a hc;have ⟨j,k⟩:=kC hc;subst j;subst k;obtain⟨hnil,pp,ev⟩|⟨b,len,E2,c,B,_,ev⟩:=y
    .have hx:be p=0:=by
      have:=m.nm n;obtain a|a:=a <;> rw[a] at this <;> obtain⟨k',l',he',_⟩|⟨_,E3,t3,B⟩:=this
      .simp_all
      .grind
      .simp_all
      .grind
     simp_all
    .have d:rJ A w b len g u p:=by
      obtain a|a:=a
      .exact (m.live_blk a B).1
      .exact (m.live_blk a B).1.2
     have s:be p=len.2/\len.2<=cb2:=by
      have ⟨vs,cap,_,_,h2,h3,h4,_⟩:=d;omega
     refine⟨_,_,by rw[s.1];exact ev,ab,.inr ⟨b,len.1,rfl,λi z=>?_⟩⟩;have:=D2 d (i:=i) ab;rw[NZ z] at this;exact this
   split at hk
   .rename_i g u zs a;split at hk
    next f h1 hc=>obtain⟨rfl,_⟩:=hk;exact l (.inl a) hc
    .cases hk
   .rename_i g u zs a;split at hk
    next f h1 hc=>obtain⟨rfl,_⟩:=hk;exact l (.inr a) hc
    .cases hk
   .cases hk
  .cases e
 .cases e
theorem pH(m:Mod w0 N0 A env h w){nm:Nat}(F:h nm = .un)(a:List Nat)(o:∀ n∈a,∃ b,h n = .live b/\b.mut=bZ3){E:bZ8}{t:CT}{zs:List t.D}{v:ca2}{w':ca8}
  {pre:List Prop} {W:Nat->Prop} {ev:Ev} (c:cZ w w' W) (hW:∀ k,W k→∃ n l,n∈a/\env n = .blk k l) (hne:ev ≠ .un)
  (r:∀ k len,ev = .blk k len->w.heap.size<=k∨∃ n l,n∈a/\env n = .blk k l)
  (H:dM A env w A (env.set nm ev) w'→(ev = .nil/\zs=[]∧∃ p,v = .slice p 0 0)∨∃ k len c,ev = .blk k len/\rJ A w' k len E t zs/\w'.shape? k=bZ1 (E,c)/\v = .slice (bZ1 ⟨k,len.1,bZ9⟩) len.2 ((c-len.1)/t.size)) :
  fb w0 N0 A env h w (.det pre (.own nm t.size) ((nm,.live (.row E t zs))::a.map λn=>(n,.dead))) v w':=by
 have I:env nm = .un:=by have:=m.nm nm;rw[F] at this;exact this
 have z:∀ k,W k→∃ G b l,G∈a/\h G = .live b/\b.mut=bZ3/\env G = .blk k l:=by
  grind
 have x:dM A env w A (env.set nm ev) w':=m.xt c (λk J=>let ⟨n,b,l,_,h1⟩:=z k J;⟨n,b,l,h1⟩) λn hn=>bi.set_other _ _ λe=>hn (e▸I)
 have j:∀ n,n≠nm->n ∉ a->dJ ((nm,.live (.row E t zs))::a.map λn=>(n,.dead)) h n=h n:=by
  intro n h1 i;refine qo ?_;grind
 have d:dJ ((nm,.live (.row E t zs))::a.map λn=>(n,.dead)) h nm = .live (.row E t zs):=by simp[dJ]
 have f:∀ n,n≠nm->n∈a->dJ ((nm,.live (.row E t zs))::a.map λn=>(n,.dead)) h n = .dead:=by
  intro n h1 i;simp only[dJ];rw[bZ.set_other _ _ h1];clear o hW r z j d
  induction a with
  | nil=>simp at i
  | cons q a ih =>
   simp only[fF,dJ];by_cases hq:n=q
   .subst hq;simp
   .rw[bZ.set_other _ _ hq];exact ih (by simpa[hq] using i)
 have u:lP (λn=>n=nm∨n∈a) W A env h w A (env.set nm ev) (dJ ((nm,.live (.row E t zs))::a.map λn=>(n,.dead)) h) w':=by
  refine⟨c,λk J=>?_,λ_ h=>h,λ_ h=>.inl h,λn hn=>bi.set_other _ _ (λe=>hn (.inl e)),λn hn=>?_,λn hn=>j n (λe=>hn (.inl e)) (λe=>hn (.inr e)),?_,?_,?_⟩
  .grind
  .exact bi.set_other _ _ (λe=>hn (e▸I))
  .rintro n hn;by_cases hnm:n=nm
   .subst hnm;rw[d];obtain⟨h1,i,_⟩|⟨k,len,K,h1,i,_⟩:=H x
    .exact .inr ⟨by rw[bi.set_same];exact h1,E,t,.inl (by rw[i])⟩
    .refine .inl ⟨k,len,by rw[bi.set_same];exact h1,i,λ_ L=>?_⟩;obtain h3|⟨B,l,g,C⟩:=r k len h1
     .have:=m.Alt k L;omega
     .have ⟨b,s,y⟩:=o B g;exact (m.live_blk s C).2 y L
   .rw[f n hnm (hn.resolve_left hnm)];trivial
  .intro n b k l hn hl hm C;by_cases hnm:n=nm
   .subst hnm;rw[bi.set_same] at C;obtain h3|⟨B,M,g,he'⟩:=r k l C
    .exact .inl h3
    .have ⟨b',s,y⟩:=o B g;exact .inr ⟨B,b',M,.inr g,s,y,he'⟩
   .grind
  .intro n B b c k l M hn g hl hl' _ _ _ _;by_cases hnm:n=nm
   .grind
   .rw[f n hnm (hn.resolve_left hnm)] at hl;cases hl
 refine⟨(),A,env.set nm ev,aP,m.upd u,m.ext u,?_⟩
 obtain⟨h1,i,h3⟩|⟨k,len,K,h1,i,h3,h4⟩:=H x
 .exact .inl ⟨by rw[bi.set_same];exact h1,h3⟩
 .exact .inr ⟨k,len,E,K,by rw[bi.set_same];exact h1,h3,h4⟩
theorem UC{t e ty:bZ8}(d:P.underlying t=bZ1 (.slice e)){f:Nat}(a:f9 P e=bZ1 f)(p q:Option Addr)(n cap c:Nat)(g:n<=cap) :
  (cc0 #[t,t] ty #[.slice p n cap,.slice q 0 c]).run P w = .ok (.slice p n cap) w:=by
 have h:(cs5 f 0 (.slice q 0 c)).run P w = .ok #[] w:=by
  cases q <;> simp[cs5,loadCells,loadCellsFrom]
 cases p with
 | none=>simp[cc0,run_underlying d,kT a,co7,g,h]
 | some b=>simp[cc0,run_underlying d,kT a,co7,g,h,storeCells]
theorem xN{t:CT}{cv c:Nat->Option ca2}{o f:Nat}{d:t.D}(h:Rd A w t cv o d)(e:∀ j,j<t.size->c (f+j)=cv (o+j)):Rd A w t c f d:=by
 have key:∀(t:CT)(cv c:Nat->Option ca2)(o f:Nat)(d:t.D),Rd A w t cv o d->(∀ j,j<t.size->c (f+j)=cv (o+j))->Rd A w t c f d:=by
  intro t
  induction t with
  | pair a b g i =>
   intro cv c o f d h e;refine⟨g _ _ _ _ _ h.1 (λj hj=>e j (by simp only[CT.size];omega)),i _ _ _ _ _ h.2 (λj hj=>?_)⟩;have:=e (a.size+j) (by simp only[CT.size];omega);grind
  | int k=>intro cv c o f d h e;have:=e 0 (by simp[CT.size]);simp at this;simp only[Rd] at h ⊢;rw[this];exact h
  | bool=>intro cv c o f d h e;have:=e 0 (by simp[CT.size]);simp at this;simp only[Rd] at h ⊢;rw[this];exact h
  | str=>intro cv c o f d h e;have:=e 0 (by simp[CT.size]);simp at this;simp only[Rd] at h ⊢;rw[this];exact h
  | sl t ih=>intro cv c o f d h e;have:=e 0 (by simp[CT.size]);simp at this;simp only[Rd] at h ⊢;rw[this];exact h
 grind
theorem Mu{t:CT}{xs ys:List t.D}{olds news rest:List ca2}(ho:be olds=be xs*t.size)(hn:be news=be ys*t.size)
  (hx:∀ i (b:i<be xs),Rd A w t (λj=>olds[j]?) (i*t.size) xs[i]) (hy:∀ i (b:i<be ys),Rd A w t (λj=>news[j]?) (i*t.size) ys[i]) :
  ∀ i (b:i<be (xs++ys)),Rd A w t (λj=>(olds++news++rest).toArray[j]?) (i*t.size) (xs++ys)[i]:=by
 intro i b
 simp only[ci2]
 by_cases a:i<be xs
 .rw[List.getElem_append_left a];refine xN (hx i a) λj hj=>?_;have:(i+1)*t.size<=be xs*t.size:=lw _ ab;grind
 .rw[List.getElem_append_right ab];have c:i-be xs<be ys:=by simp at b;omega
  refine xN (hy _ c) λj hj=>?_;have e1:i*t.size=be xs*t.size+(i-be xs)*t.size:=by rw[← fY];congr 1;omega
  have:(i-be xs+1)*t.size<=be ys*t.size:=lw _ ab;rw[fY,mv] at this;rw[fV,nX ab,mC ab];congr 1;omega
end
end Go.SX
namespace Go.SX
theorem aN1{P:ca7}{q:Prop}(w:ca8)(t ty e:bZ8)(i:TypeInfo)(ht:P.underlying t=bZ1 (.slice e))(hi:P.info? e=bZ1 i)
  (g off rM zd:Nat) (cur:Array ca2) (hg:Hc q w g cur e)
  (a:Addr) (m c:Nat) (news:List ca2) (hl:be news=m*i.size) (hnews:∀ j u,news[j]? = bZ1 u->w.cell? (a.add j)=bZ1 u) (h1:∀ u∈news,u.oneCell'=bZ3)
  (hroom:rM+m<=zd) (hfit:off+rM*i.size+be news<=cur.size) :
  (cc0 #[t,t] ty #[.slice (bZ1 ⟨g,off,bZ9⟩) rM zd,.slice (bZ1 a) m c]).run P w =
   .ok (.slice (bZ1 ⟨g,off,bZ9⟩) (rM+m) zd) (w.setRow g (cur.toList.take (off+rM*i.size)++news++cur.toList.drop (off+rM*i.size+be news)).toArray):=by
 have hf:=run_firstCells_some (P:=P) w i.size m a m c news hl hnews
 have hst:=QR (P:=P) g (off+rM*i.size) e news 0 cur w hg (by simpa using hfit) h1
 simp only[kf] at hst
 simp[cc0,run_underlying ht,sizeOf,typeInfo,hi,co7,hroom,hf,cd4,hst]
section
variable {P:ca7} {w0:ca8} {N0:fI} {A:Nat->Prop} {env:bi} {h:bZ} {w:ca8} {o:Oper} {a:Act} {ρ:Nat->SV} {d:Dl} {r:List Nat}
theorem bA6(l:List ca2)(z:Array ca2):l.toArray++z=(l++z.toList).toArray:=by apply cu2;simp
theorem bo3(l m:List ca2)(z:Array ca2):l.toArray++m.toArray++z=(l++m++z.toList).toArray:=by apply cu2;simp
theorem PT(m:Mod w0 N0 A env h w){t e ty:bZ8}{sz nm:Nat}{i:TypeInfo}{z:ca2}{u:CT}{ys:List u.D}{p q:Option Addr}{c:Nat}{pre:List Prop}
  (ht:P.underlying t=bZ1 (.slice e)) (hsz:f9 P e=bZ1 sz) (hi:P.info? e=bZ1 i) (hz:i.zero=bZ1 z) (hzs:z.cells.size=sz) (hb1:1<=i.bytes) (hu:sz=u.size) (hun:h nm = .un)
  (dn:List Nat) (hdn:∀ n∈dn,∃ b,h n = .live b/\b.mut=bZ3)
  (hl:be ys<=cb2) (hby:be ys*i.bytes<=140737488355328)
  (hsrc:be ys=0∨∃ b off,q=bZ1 ⟨b,off,bZ9⟩∧∀ i (hi:i<be ys),Rd A w u (λo=>w.cell? ⟨b,o,bZ9⟩) (off+i*u.size) ys[i]) :
  ∃ v w',(cc0 #[t,t] ty #[.slice p 0 0,.slice q (be ys) c]).run P w = .ok v w' ∧
   fb w0 N0 A env h w (.det pre (.own nm sz) ((nm,.live (.row e u ys))::dn.map λn=>(n,.dead))) v w':=by
 subst hu
 by_cases h0:be ys=0
 .refine⟨.slice p 0 0,w,by rw[h0];exact UC ht hsz p q 0 0 c (dq _),?_⟩;have:ys=[]:=yu h0;subst this;exact pH m hun dn hdn (W:=λ_=>False) (ev := .nil) (cZ.refl w _) (λ_ h=>h.elim) az (λk l e=>by cases e) (λ_=>.inl ⟨rfl,rfl,p,rfl⟩)
 .obtain⟨b,off,rfl,hrd⟩:=hsrc.resolve_left h0;have ⟨news,hnl,hnc,hn1⟩:=Jh ys off hrd;have hisz:i.size=u.size:=by unfold f9 at hsz;rw[hi] at hsz;simpa using hsz
  have hnews:∀ j v,news[j]? = bZ1 v->w.cell? ((⟨b,off,bZ9⟩:Addr).add j)=bZ1 v:=by
   intro j v hj;rw[cd4,hnc j (ca5.1 hj).1];exact hj
  have hrdn:∀ i (hi:i<be ys),Rd A w u (λj=>news[j]?) (i*u.size) ys[i]:=λi hi =>
   xN (hrd i hi) λj hj=>by
    have:(i+1)*u.size<=be ys*u.size:=lw _ ab;rw[fY,mv] at this;rw[← hnc _ ab,gG]
  have h63:((be ys:Nat):Int)<=9223372036854775807:=by simp only[cb2] at hl;omega
  have fin:∀ v w' cap,be ys<=cap->cap<=cb2->v = .slice (bZ1 ⟨w.heap.size,0,bZ9⟩) (be ys) cap->w'=w.drew.alloc (.cells (news.toArray++ca9 z.cells (cap-be ys)) e) →
    fb w0 N0 A env h w (.det pre (.own nm u.size) ((nm,.live (.row e u ys))::dn.map λn=>(n,.dead))) v w':=by
   rintro v w' cap hc1 hc2 rfl rfl;have cg:cZ w (w.drew.alloc (.cells (news.toArray++ca9 z.cells (cap-be ys)) e)) λ_=>False:=(cZ.drew w _).trans (cZ.alloc w.drew _ _);have hsize:(news.toArray++ca9 z.cells (cap-be ys)).size=cap*u.size:=by
    simp only[cn1,qU,hnl,size_zeroCells,hzs,← fY];congr 1;omega
   refine pH m hun dn hdn (W:=λ_=>False) (ev := .blk w.heap.size (0,be ys)) cg (λ_ h=>h.elim) az (λk l e=>by cases e;exact .inl (dq _)) (λx=>.inr ⟨w.heap.size,(0,be ys),cap*u.size,rfl,?_,?_,?_⟩)
   .refine⟨_,cap,.of (heap_alloc_new w.drew _),by rw[hsize,gJ],rfl,hc1,hc2,λi hi=>?_⟩;rw[gJ];have:=Mu (A:=A) (w:=w) (xs:=([]:List u.D)) (ys:=ys) (olds:=[]) (news:=news) (rest:=(ca9 z.cells (cap-be ys)).toList) az hnl az hrdn i (by simpa using hi);refine iQ (λ_ h=>h) x.keep u _ _ _ _ (λj _=>?_) this;rw[bA6];rfl
   .unfold cc7;have hh:=heap_alloc_new w.drew (.cells (news.toArray++ca9 z.cells (cap-be ys)) e);simp only[co3] at hh;rw[hh];simp only[hsize]
   .show _=cj5 _ _ ((cap*u.size-0)/u.size);rw[cn6,tx _ u.size_pos]
  have hge:=cw4 w (be ys) 0 e;have hcm:=cl2 w (be ys) 0 e hl;cases p with
  | none =>
   exact⟨_,_,run_append_nil (P:=P) w t ty e i z ht hi hz ⟨b,off,bZ9⟩ (be ys) c news (by rw[hnl,hisz]) hnews ab h63 ab,fin _ _ _ hge hcm rfl rfl⟩
  | some pa =>
   have hr:=cC5 (P:=P) w t ty e i z ht hi hz pa 0 0 [] az az ⟨b,off,bZ9⟩ (be ys) c news (by rw[hnl,hisz]) hnews ab (by simpa using h63) (cD7 ab (by simpa using hby));simp only[gJ] at hr;exact⟨_,_,hr,fin _ _ _ hge hcm rfl az⟩
def EU(P:ca7)(t t':bZ8):Bool:=ca0 t t'||match P.underlying t,P.underlying t' with
 | some (.slice e),bZ1 (.slice e')=>ca0 e e'
 | _,_=>bZ6
theorem bf6{t t' ty:bZ8}{s x:ca2}(h:EU P t t'=bZ3):(cc0 #[t,t'] ty #[s,x]).run P w=(cc0 #[t,t] ty #[s,x]).run P w:=by
 unfold EU at h
 obtain h|h:=Bool.or_eq_true_iff.1 h
 .rw[bK h]
 .split at h
  next e1 e2=>cases s <;> simp[cc0,ca6,run_underlying e1,run_underlying e2]
  .cases h
theorem Ye(m:Mod w0 N0 A env h w)(f:FD A env w ρ a){t t':bZ8}{nm:Nat}{s x:cb3}(hts:EU P t t'=bZ3)(ho:o.op = .call {callee := .builtin .append,args := #[s,x],argTypes := #[t,t']})
  (e:(ES P t nm (bc ρ s) (bc ρ x)).run h=bZ1 (d,r)) (hp:bQ d.pre):bH P o a w0 N0 A env h w d:=by
 have ds:=dC f s
 have dx:=dC f x
 have exe:∀{v:ca2}{w':ca8},(cc0 #[t,t] o.type #[a.eval s,a.eval x]).run P w = .ok v w'→(cb0 a.eval o).run P w = .ok (.value v) w':=by
  intro v w' hr;unfold cb0;rw[ho];simp only[resolve,invoke,builtin,ca6,cb1,ca3,cx2,fF,cn8,bf6 hts,hr]
 unfold ES at e
 split at e
 next E sz he=>
  have ⟨hu,hsz⟩:=Ag he;split at e
  .rename_i i hi;split at e
   .rename_i z hb1 hz;have hb1:=md hb1;split at e
    .rename_i hzs;have hzs:=bK hzs;have hisz:i.size=sz:=by unfold f9 at hsz;rw[hi] at hsz;simpa using hsz
     split at e
     .rename_i n sz' hs;rw[hs] at ds;simp only[aA] at ds;simp only[Q.run] at e;split at e
      .rename_i p q hk;simp only[cE,cy] at e;obtain⟨rfl,rfl⟩:=e;split at hk
       .rename_i E' u xs hl;split at hk
        .rename_i hE h1 h2;have hE:=bK hE;have h1:=bK h1;have h2:=bK h2;subst hE;obtain⟨ys,q1,q2,e1,e2,rfl⟩:=Q.run_bind _ _ _ hk;simp only[Q.run] at e2;split at e2
         .rename_i p' q' hk';simp only[cE,cy] at e2;obtain⟨rfl,rfl⟩:=e2;split at hk'
          .rename_i hun;cases cA hk';simp only[Dl.pre,bQ,g7] at hp;have ⟨pq,c,ev,hyl,hsrc⟩:=O2 m e1 dx;have hdn:∀ n'∈[n],∃ b,h n' = .live b/\b.mut=true:=by simp[hl,kG.mut]
           obtain⟨hnil,pa,es⟩|⟨b,len,E2,cc,hb,hsh,es⟩:=ds
           .have hx:xs=[]:=by
             have:=m.nm n;rw[hl] at this;obtain⟨k',l',he',_⟩|⟨_,E3,t3,hb⟩:=this
             .rw[hnil] at he';cases he'
             .obtain hb|hb:=hb <;> cases hb;rfl
            subst hx;simp only[cb8,gJ] at hp;have ⟨v,w',hr,g⟩:=PT (P:=P) (ty:=o.type) (p:=pa) (q:=pq) (c:=c) (pre:=[(be ([]:List u.D)+be ys)*i.bytes<=140737488355328]) m hu hsz hi hz hzs hb1 h1 hun [n] hdn hyl hp hsrc;refine⟨v,w',.inl (exe (by rw[es,ev];exact hr)),?_⟩;simpa using g
           .have ⟨β,len⟩:=len;have ⟨cur,cap,hh,hcs,hxl,hlc,hcm,hrd⟩:=(m.live_blk hl hb).1;simp only at hcs hxl hlc hrd es;have hcc:cc=cur.size:=by
             rw[hh.shape] at hsh;simp only[cE,cy] at hsh;exact hsh.2.symm
            have hcap:(cc-β)/sz'=cap:=by rw[hcc,hcs,h2,nI];exact tx _ u.size_pos
            rw[hcap] at es;have hne:nm≠n:=λe'=>by rw[e',hl] at hun;cases hun
            have hnA:=(m.live_blk hl hb).2 rfl;subst h1;by_cases h0:be ys=0
            .have:ys=[]:=yu h0;subst this;refine⟨.slice (bZ1 ⟨b,β,bZ9⟩) len cap,w,.inl (exe (by rw[es,ev];exact UC hu hsz _ _ _ _ _ hlc)),?_⟩;have g:=pH (pre:=[(be xs+be ([]:List u.D))*i.bytes<=140737488355328]) (v := .slice (bZ1 ⟨b,β,bZ9⟩) len cap) (E:=E') (t:=u) (zs:=xs++[]) m hun [n] hdn (W:=λ_=>False) (ev := .blk b (β,len)) (cZ.refl w _) (λ_ h=>h.elim) az
              (λk l e=>by cases e;exact .inr ⟨n,(β,len),az,hb⟩) (λx=>.inr ⟨b,(β,len),cc,rfl,by rw[iX];exact (m.live_blk hl hb).1,by rw[hsh];rw[hh.shape] at hsh;cases hsh;rfl,by rw[← h2,hcap]⟩)
             simpa using g
            .obtain⟨bb,off,rfl,hrdy⟩:=hsrc.resolve_left h0;have ⟨news,hnl,hnc,hn1⟩:=Jh ys off hrdy;have hnews:∀ j v,news[j]? = bZ1 v->w.cell? ((⟨bb,off,bZ9⟩:Addr).add j)=bZ1 v:=by
              intro j v hj;rw[cd4,hnc j (ca5.1 hj).1];exact hj
             have hrdn:∀ i (hi:i<be ys),Rd A w u (λj=>news[j]?) (i*u.size) ys[i]:=λi hi =>
              xN (hrdy i hi) λj hj=>by
               have:(i+1)*u.size<=be ys*u.size:=lw _ ab;rw[fY,mv] at this;rw[← hnc _ ab,gG]
             have holds:∀ i (hi:i<be xs),Rd A w u (λj=>((cur.toList.drop β).take (len*u.size))[j]?) (i*u.size) xs[i]:=λi hi =>
              xN (hrd i hi) λj hj=>by
               have:(i+1)*u.size<=len*u.size:=lw _ ab;rw[fY,mv] at this;rw[wE,aj ab,wp,mO,gG]
             have hlec:len*u.size<=cap*u.size:=lw _ hlc;have hol:be ((cur.toList.drop β).take (len*u.size))=be xs*u.size:=by rw[eM,gw,fC,hxl];omega
             have hlen:be (xs++ys)=len+be ys:=by rw[bM,hxl]
             have hsum:len+be ys<=cb2:=by
              have:(len+be ys)*1<=(be xs+be ys)*i.bytes:=by rw[hxl];exact Nat.mul_le_mul_left _ hb1
              simp only[cb2];omega
             by_cases hroom:len+be ys<=cap
             .have hfit:β+len*u.size+be news<=cur.size:=by
               have:(len+be ys)*u.size<=cap*u.size:=lw _ hroom;rw[fY] at this;rw[hnl,hcs];omega
              have hr:=aN1 (P:=P) w t o.type E' i hu hi b β len cap cur hh ⟨bb,off,bZ9⟩ (be ys) c news (by rw[hnl,hisz]) hnews hn1 hroom (by rw[hisz];exact hfit);rw[hisz] at hr;refine⟨_,_,.inl (exe (by rw[es,ev];exact hr)),?_⟩;have hsize:(cur.toList.take (β+len*u.size)++news++cur.toList.drop (β+len*u.size+be news)).toArray.size=cur.size:=by
               simp only[qU,bM,eM,gw,fC];omega
              have cg:=cZ.setRow w b cur _ E' hh hsize;refine pH m hun [n] hdn (W:=λj=>j=b) (ev := .blk b (β,len+be ys)) cg (λk hk=>⟨n,(β,len),az,hk▸hb⟩) az (λk l e=>by cases e;exact .inr ⟨n,(β,len),az,hb⟩) (λx=>.inr ⟨b,(β,len+be ys),β+cap*u.size,rfl,?_,?_,?_⟩)
              .refine⟨_,cap,hh.setRow hsize,by rw[hsize,hcs],hlen,hroom,hcm,λi hi=>?_⟩;refine iQ (λ_ h=>h) x.keep u _ _ _ _ (λj _=>rfl) (xN (Mu (rest:=cur.toList.drop (β+len*u.size+be news)) hol hnl holds hrdn i hi) λj hj=>?_);simp only[ci2];rw[List.take_add,fV,fV,nX (by rw[eM,fC];omega),fV];congr 1;rw[eM,fC];omega
              .rw[(hh.setRow hsize).shape,hsize,hcs]
              .show _=cj5 _ _ ((β+cap*u.size-β)/u.size);rw[nI,tx _ u.size_pos]
             .have holdsc:∀ j v,((cur.toList.drop β).take (len*u.size))[j]? = bZ1 v->w.cell? ((⟨b,β,bZ9⟩:Addr).add j)=bZ1 v:=by
               intro j v hj;rw[cd4,hh.cell];rw[wE] at hj;split at hj
               .rwa [wp,mO] at hj
               .cases hj
              have hr:=cC5 (P:=P) w t o.type E' i z hu hi hz ⟨b,β,bZ9⟩ len cap ((cur.toList.drop β).take (len*u.size)) (by rw[hol,hxl,hisz]) holdsc ⟨bb,off,bZ9⟩ (be ys) c news (by rw[hnl,hisz]) hnews ab
               (by simp only[cb2] at hsum;omega) (cD7 ab (by rw[← hxl];exact hp))
              refine⟨_,_,.inl (exe (by rw[es,ev];exact hr)),?_⟩;have hge:=cw4 w (len+be ys) cap E';have hcm':=cl2 w (len+be ys) cap E' hsum;generalize grownCap w (len+be ys) cap E'=cap' at *;have hsize:(((cur.toList.drop β).take (len*u.size)).toArray++news.toArray++ca9 z.cells (cap'-(len+be ys))).size=cap'*u.size:=by
               simp only[cn1,qU,hol,hnl,size_zeroCells,hzs,← fY];congr 1;omega
              have cg:cZ w (w.drew.alloc (.cells (((cur.toList.drop β).take (len*u.size)).toArray++news.toArray++ca9 z.cells (cap'-(len+be ys))) E')) λ_=>False:=(cZ.drew w _).trans (cZ.alloc w.drew _ _);refine pH m hun [n] hdn (W:=λ_=>False) (ev := .blk w.heap.size (0,len+be ys)) cg (λ_ h=>h.elim) az (λk l e=>by cases e;exact .inl (dq _)) (λx=>.inr ⟨w.heap.size,(0,len+be ys),cap'*u.size,rfl,?_,?_,?_⟩)
              .refine⟨_,cap',.of (heap_alloc_new w.drew _),by rw[hsize,gJ],hlen,hge,hcm',λi hi=>?_⟩;have:=Mu (A:=A) (w:=w) (rest:=(ca9 z.cells (cap'-(len+be ys))).toList) hol hnl holds hrdn i hi;rw[gJ];refine iQ (λ_ h=>h) x.keep u _ _ _ _ (λj _=>?_) this;rw[bo3]
              .unfold cc7;have hh':=heap_alloc_new w.drew (.cells (((cur.toList.drop β).take (len*u.size)).toArray++news.toArray++ca9 z.cells (cap'-(len+be ys))) E');simp only[co3] at hh';rw[hh'];simp only[hsize]
              .show _=cj5 _ _ ((cap'*u.size-0)/u.size);rw[cn6,tx _ u.size_pos]
          .cases hk'
         .cases e2
        .cases hk
       .cases hk
      .cases e
     .rename_i hs;rw[hs] at ds;simp only[aA] at ds;split at e
      .rename_i u hct;split at e
       .rename_i h1;have h1:=bK h1;obtain⟨ys,q1,q2,e1,e2,rfl⟩:=Q.run_bind _ _ _ e;simp only[Q.run] at e2;split at e2
        .rename_i p' q' hk';simp only[cE,cy] at e2;obtain⟨rfl,rfl⟩:=e2;split at hk'
         next hun=>cases cA hk';simp only[Dl.pre,bQ,g7] at hp;have ⟨pq,c,ev,hyl,hsrc⟩:=O2 m e1 dx;have ⟨v,w',hr,g⟩:=PT (P:=P) (ty:=o.type) (p:=bZ9) (q:=pq) (c:=c) (pre:=[be ys*i.bytes<=140737488355328]) m hu hsz hi hz hzs hb1 h1 hun [] az hyl hp hsrc;exact⟨v,w',.inl (exe (by rw[ds,ev];exact hr)),g⟩
         .cases hk'
        .cases e2
       .cases e
      .cases e
     .rename_i u xs hs;rw[hs] at ds;simp only[aA] at ds;split at e
      .rename_i h1;have h1:=bK h1;obtain⟨ys,q1,q2,e1,e2,rfl⟩:=Q.run_bind _ _ _ e;simp only[Q.run] at e2;split at e2
       .rename_i p' q' hk';simp only[cE,cy] at e2;obtain⟨rfl,rfl⟩:=e2;split at hk'
        next hun=>cases cA hk';simp only[Dl.pre,bQ,g7] at hp;obtain⟨hp1,rfl⟩:=hp;have ⟨_,pa,es⟩:=ds;have ⟨pq,c,ev,hyl,hsrc⟩:=O2 m e1 dx;simp only[cb8,gJ] at hp1;have ⟨v,w',hr,g⟩:=PT (P:=P) (ty:=o.type) (p:=pa) (q:=pq) (c:=c) (pre:=[(be ([]:List u.D)+be ys)*i.bytes<=140737488355328,([]:List u.D)=[]]) m hu hsz hi hz hzs hb1 h1 hun [] az hyl hp1 hsrc;exact⟨v,w',.inl (exe (by rw[es,ev];exact hr)),g⟩
        .cases hk'
       .cases e2
      .cases e
     .cases e
    .cases e
   .cases e
  .cases e
 .cases e
end
end Go.SX
namespace Go.SX
section
variable {P:ca7} {w0:ca8} {N0:fI} {A:Nat->Prop} {env:bi} {h:bZ} {w:ca8} {o:Oper} {a:Act} {ρ:Nat->SV} {d:Dl} {r:List Nat}
theorem OR(len cap:Nat)(lo hi a:Option ca2)(l hh m:Nat)
  (hm:(a=bZ9/\m=cap)∨∃ k i,a=bZ1 (.int k i)/\0<=i/\i<=cap/\m=it i)
  (b:(hi=bZ9/\a=bZ9/\hh=len)∨∃ k i,hi=bZ1 (.int k i)/\0<=i/\i<=m/\hh=it i)
  (c:(lo=bZ9/\l=0)∨∃ k i,lo=bZ1 (.int k i)/\0<=i/\i<=hh/\l=it i) :
  (cj3 bZ3 len cap lo hi a).run P w = .ok (l,hh,m) w:=by
 obtain⟨rfl,rfl⟩|⟨km,im,rfl,m0,m1,rfl⟩:=hm <;> obtain⟨rfl,e,rfl⟩|⟨kh,ih,rfl,h0,h1,rfl⟩:=b <;> obtain⟨rfl,rfl⟩|⟨kl,il,rfl,l0,l1,rfl⟩:=c <;>
  first
  | (cases e;done)
  | (simp[cj3,run_sliceBound, *,-Int.ofNat_toNat])
theorem Dc{x:Option cb3}{b v:Int}(f:FD A env w ρ a)(e:rU (x.map (bc ρ)) b=bZ1 v) :
  (x=bZ9/\v=b)∨∃ k y,x=bZ1 y/\a.eval y = .int k v:=by
 cases x with
 | none=>simp at e;cases e;exact .inl ⟨rfl,rfl⟩
 | some y =>
  have c:=dC f y;simp only[ch6] at e;unfold rU at e;split at e
  next hh=>cases hh
  next k n hh=>simp at hh;rw[hh] at c;simp only[aA] at c;simp_all
  .cases e
theorem Nr{t:CT}{v:ca2}{xs:List t.D}(hs:uF A w t v xs){l hh:Nat}(h1:l<=hh)(g:hh<=be xs) :
  ∃ p cap,v = .slice p (be xs) cap/\be xs<=cap/\cap<=cb2∧∀ m,hh<=m->m<=cap →
   uF A w t (.slice (if m=l then p else p.map (·.add (l*t.size))) (hh-l) (m-l)) (bY xs l hh):=by
 have a:be (bY xs l hh)=hh-l:=by simp[bY];omega
 obtain⟨hl,⟨⟨p,rfl⟩,rfl⟩|⟨b,off,cap,rfl,c1,c2,c3,c4⟩⟩:=hs
 .refine⟨p,0,rfl,dq _,az,λm hm c=>?_⟩;have:m=0:=ab;subst this;have d:l=0:=by simp at g;omega
  have e:hh=0:=by simpa using g
  subst d;subst e;exact⟨by simp[bY],.inl ⟨⟨p,az⟩,by simp[bY]⟩⟩
 .refine⟨_,cap,rfl,c1,c2,λm hm c=>⟨ab,?_⟩⟩;by_cases f:m=l
  .simp_all
  .rw[ah f];refine .inr ⟨b,off+l*t.size,m-l,by rw[a];simp[cd4],ab,ab,c3,λi hi=>?_⟩;have eg:(bY xs l hh)[i]=xs[l+i]:=by simp[bY]
   grind
theorem bx6(m:Mod w0 N0 A env h w)(f:FD A env w ρ a){t:bZ8}{x:cb3}{lo hi mx:Option cb3}(ho:o.op = .slice t x lo hi mx)
  (e:(Of P t (bc ρ x) (lo.map (bc ρ)) (hi.map (bc ρ)) (mx.map (bc ρ))).run h=bZ1 (d,r)) (hp:bQ d.pre):bH P o a w0 N0 A env h w d:=by
 have dx:=dC f x
 unfold Of at e
 split at e
 next E sz he=>
  have ⟨hu,hsz⟩:=Ag he;have exe:∀{p:Option Addr}{len cap l hh m:Nat},a.eval x = .slice p len cap →
    ((mx=bZ9/\m=cap)∨∃ y k i,mx=bZ1 y/\a.eval y = .int k i/\0<=i/\i<=cap/\m=it i) →
    ((hi=bZ9/\mx=bZ9/\hh=len)∨∃ y k i,hi=bZ1 y/\a.eval y = .int k i/\0<=i/\i<=m/\hh=it i) →
    ((lo=bZ9/\l=0)∨∃ y k i,lo=bZ1 y/\a.eval y = .int k i/\0<=i/\i<=hh/\l=it i) →
    (cb0 a.eval o).run P w = .ok (.value (.slice (if m=l then p else p.map (·.add (l*sz))) (hh-l) (m-l))) w:=by
   intro p len cap l hh m ev hm hhi hlo;unfold cb0;rw[ho];have hb:=OR (P:=P) (w:=w) len cap (lo.map a.eval) (hi.map a.eval) (mx.map a.eval) l hh m
    (by obtain⟨rfl,rfl⟩|⟨y,k,i,rfl,e1,e2⟩:=hm;exact .inl ⟨rfl,rfl⟩;exact .inr ⟨k,i,by simp[e1],e2⟩)
    (by obtain⟨rfl,rfl,rfl⟩|⟨y,k,i,rfl,e1,e2⟩:=hhi;exact .inl ⟨rfl,rfl,rfl⟩;exact .inr ⟨k,i,by simp[e1],e2⟩)
    (by obtain⟨rfl,rfl⟩|⟨y,k,i,rfl,e1,e2⟩:=hlo;exact .inl ⟨rfl,rfl⟩;exact .inr ⟨k,i,by simp[e1],e2⟩)
   simp only[cm0,cs6,ca6,run_underlying hu,ca3,ev,hb,kT hsz,cb1]
  have loF:∀{l hh:Int}{len:Nat},rU (lo.map (bc ρ)) 0=bZ1 l->0<=l->l<=hh->((lo=bZ9/\it l=0)∨∃ y k i,lo=bZ1 y/\a.eval y = .int k i/\0<=i/\i<=it hh/\it l=it i):=by
   intro l hh len hb h0 h1;obtain⟨rfl,rfl⟩|⟨k,y,rfl,e1⟩:=Dc f hb
   .exact .inl ⟨rfl,rfl⟩
   .grind
  split at e
  .rename_i u xs hx;rw[hx] at dx;simp only[aA] at dx;split at e
   .rename_i l hh hs1 hb1 hb2;have hs1:=bK hs1;subst hs1;split at e
    .rename_i hmx;cases cA e;simp only[Dl.pre,bQ,g7] at hp;have hmx':mx=none:=by cases mx <;> simp_all
     have ⟨p,cap,ev,c1,c2,c3⟩:=Nr dx (l:=it l) (hh:=it hh) ab ab;refine bH.pure m (exe ev (.inl ⟨hmx',rfl⟩) ?_ (loF (len:=0) hb1 hp.1 hp.2.1)) (by simp only[aA];exact c3 cap ab (dq _));obtain⟨rfl,rfl⟩|⟨k,y,rfl,e1⟩:=Dc f hb2
     .simp_all
     .grind
    .rename_i km mm hmx;split at e
     case h_2=>cases e
     rename_i ys hhi;cases cA e;simp only[Dl.pre,bQ,g7] at hp;have ⟨hp1,hp2,hp3,hp4⟩:=hp;cases mx with
     | none=>cases hmx
     | some y =>
      have dy:=dC f y;simp only[ch6,cE] at hmx;rw[hmx] at dy;simp only[aA] at dy;have ⟨p,cap,ev,c1,c2,c3⟩:=Nr dx (l:=it l) (hh:=it hh) ab ab;refine bH.pure m (exe ev (.inr ⟨y,km,mm,rfl,dy.1,ab,ab,rfl⟩) ?_ (loF (len:=0) hb1 hp1 hp2)) ?_
      .obtain⟨rfl,rfl⟩|⟨k,y',rfl,e1⟩:=Dc f hb2
       .cases hhi
       .exact .inr ⟨y',k,hh,rfl,e1,ab,ab,rfl⟩
      .simp only[aA];have hlen:be (bY xs (it l) (it hh))=it hh-it l:=by simp[bY];omega
       exact⟨c3 (it mm) ab ab,_,by rw[hlen];congr 1;omega⟩
    .cases e
   .cases e
  .rename_i n sz' hx;rw[hx] at dx;simp only[aA] at dx;split at e
   .rename_i hmx;have hmx':mx=none:=by cases mx <;> simp_all
    simp only[Q.run] at e;split at e
    .rename_i p q hk;simp only[cE,cy] at e;obtain⟨rfl,rfl⟩:=e;have fin:∀{E':bZ8}{u:CT}{xs:List u.D}{l hh:Int}{A':Nat->Prop}{h':bZ},Mod w0 N0 A' env h' w->dM A env w A' env w->(h n = .live (.row E' u xs)∨h n = .live (.frz E' u xs)) →
       h' n = .live (.frz E' u xs)->sz=u.size->sz'=u.size →
       rU (lo.map (bc ρ)) 0=bZ1 l->rU (hi.map (bc ρ)) (be xs)=bZ1 hh->0<=l->l<=hh->hh<=be xs →
       ∃ v,(cb0 a.eval o).run P w = .ok (.value v) w/\aA A' env w (.dsl u (bY xs (it l) (it hh))) v:=by
      intro E' u xs l hh A' h' m' x' hl hl' h1 h2 hb1 hb2 p1 p2 p3;have hrs:uF A' w u (a.eval x) xs:=by
       obtain⟨hnil,pa,ev⟩|⟨b,len,E2,c,hb,hsh,ev⟩:=dx
       .have hx0:xs=[]:=by
         have:=m'.nm n;rw[hl'] at this;obtain⟨k',l',he',_⟩|⟨_,E3,t3,hb⟩:=this
         .rw[hnil] at he';cases he'
         .obtain hb|hb:=hb <;> cases hb;rfl
        subst hx0;exact⟨az,.inl ⟨⟨pa,ev⟩,rfl⟩⟩
       .have hbd:=(m'.live_blk hl' hb).1;rw[ev,h2];exact HB (λ_ h=>h) hbd.2 hbd.1 hsh
      subst h1;have ⟨p,cap,ev,c1,c2,c3⟩:=Nr hrs (l:=it l) (hh:=it hh) ab ab;refine⟨_,exe ev (.inl ⟨hmx',rfl⟩) ?_ (loF (len:=0) hb1 p1 p2),by simp only[aA];exact c3 cap ab (dq _)⟩;obtain⟨rfl,rfl⟩|⟨k,y,rfl,e1⟩:=Dc f hb2
      .exact .inl ⟨rfl,hmx',az⟩
      .exact .inr ⟨y,k,hh,rfl,e1,ab,ab,rfl⟩
     split at hk
     .rename_i E' u xs hl;split at hk
      .rename_i l hh h1 h2 hb1 hb2;cases cA hk;simp only[Dl.pre,bQ,g7] at hp;have ok:pJ h [(n,.live (.frz E' u xs))]:=by
        intro n' b hb;simp only[kY,cy] at hb;obtain⟨rfl,rfl⟩:=hb;exact⟨E',u,xs,hl,rfl⟩
       have ⟨m2,x2⟩:=m.freeze ok;have ⟨v,hr,hd⟩:=fin m2 x2 (.inl hl) (by simp[dJ]) (bK h1) (bK h2) hb1 hb2 hp.1 hp.2.1 hp.2.2;exact⟨v,w,.inl hr,(),_,env,aP,m2,x2,hd⟩
      .cases hk
     .rename_i E' u xs hl;split at hk
      next l hh h1 h2 hb1 hb2=>cases cA hk;simp only[Dl.pre,bQ,g7] at hp;have ⟨v,hr,hd⟩:=fin m dM.refl (.inr hl) hl (bK h1) (bK h2) hb1 hb2 hp.1 hp.2.1 hp.2.2;exact bH.pure m hr hd
      .cases hk
     .cases hk
    .cases e
   .cases e
  .rename_i hx;rw[hx] at dx;simp only[aA] at dx;split at e
   .rename_i l hh hb1 hb2 hmx;have hmx':mx=none:=by cases mx <;> simp_all
    cases cA e;simp only[Dl.pre,bQ,g7] at hp;obtain⟨rfl,rfl⟩:=hp;have hr:=exe (l:=0) (hh:=0) (m:=0) dx (.inl ⟨hmx',rfl⟩) (by
     obtain⟨rfl,_⟩|⟨k,y,rfl,e1⟩:=Dc f hb2
     .exact .inl ⟨rfl,hmx',rfl⟩
     .exact .inr ⟨y,k,0,rfl,e1,ab,ab,rfl⟩) (by
     obtain⟨rfl,_⟩|⟨k,y,rfl,e1⟩:=Dc f hb1
     .exact .inl ⟨rfl,rfl⟩
     .exact .inr ⟨y,k,0,rfl,e1,ab,ab,rfl⟩)
    exact bH.pure m hr (by simp[aA])
   .cases e
  .cases e
 .cases e
def Od(P:ca7)(t:bZ8)(nm:Nat)(x:SV)(lo hi mx:Option SV):Q Dl:=match wg P t,lo,hi,mx with
 | some (_,sz),bZ9,bZ1 (.int _ hh),bZ9=>match x with
  | .own n sz' => .ask n fun
   | .live (.row E u xs)=>match ca0 sz u.size,ca0 sz' u.size with
    | true,bZ3 => .ask nm fun
     | .un => .ret (.det [0<=hh,hh<=be xs] (.own nm sz) [(nm,.live (.row E u (xs.take (it hh)))),(n,.dead)])
     | _ => .fail
    | _,_ => .fail
   | _ => .fail
  | _ => .fail
 | some (_,sz),bZ1 (.int _ l),bZ9,bZ9=>match x with
  | .own n sz' => .ask n fun
   | .live (.row E u xs)=>match ca0 sz u.size,ca0 sz' u.size with
    | true,bZ3 => .ask nm fun
     | .un => .ret (.det [0<=l,l<=be xs] (.own nm sz) [(nm,.live (.row E u (xs.drop (it l)))),(n,.dead)])
     | _ => .fail
    | _,_ => .fail
   | _ => .fail
  | _ => .fail
 | _,_,_,_ => .fail
def OA(P:ca7)(t tn:bZ8)(nm:Nat)(s x:SV):Q Dl:=match wg P t,s,x,P.underlying tn with
 | some (e,sz),.nilsl,.int _ n,bZ1 (.int _)=>match Ck P 8 e,zeroCells P e,P.info? e with
  | some u,bZ1 z,bZ1 i=>match ca0 u.size sz,ca0 (be z) sz,cd9 1 i.bytes,kS u z with
   | true,bZ3,bZ3,.ret (d,_,[]) => .ask nm fun
    | .un => .ret (.det [0<=n,n*(i.bytes:Int)<=140737488355328] (.own nm sz) [(nm,.live (.row e u (replicate (it n) d)))])
    | _ => .fail
   | _,_,_,_ => .fail
  | _,_,_ => .fail
 | _,_,_,_ => .fail
def zd(P:ca7)(t:bZ8)(x:SV):Q Dl:=match P.underlying t,x with
 | some (.slice _),.nilsl=>cY (.int .i64 0)
 | _,_ => .fail
theorem bz9(m:Mod w0 N0 A env h w)(f:FD A env w ρ a){t:bZ8}{x:cb3}(ho:o.op = .call {callee := .builtin .cap,args := #[x],argTypes := #[t]})
  (e:(zd P t (bc ρ x)).run h=bZ1 (d,r)):bH P o a w0 N0 A env h w d:=by
 have b:=dC f x
 unfold zd at e
 split at e
 next E hu hx=>rw[hx] at b;simp only[aA] at b;cases cA e;refine bH.pure m (v := .int .i64 0) ?_ (by simp only[aA];exact⟨aP,Sj aB⟩);unfold cb0;rw[ho];simp[resolve,invoke,builtin,Builtin.cap_,run_underlying hu,b,goInt]
 .cases e
theorem bu1(m:Mod w0 N0 A env h w)(f:FD A env w ρ a){t:bZ8}{nm:Nat}{x:cb3}{lo hi mx:Option cb3}(ho:o.op = .slice t x lo hi mx)
  (e:(Od P t nm (bc ρ x) (lo.map (bc ρ)) (hi.map (bc ρ)) (mx.map (bc ρ))).run h=bZ1 (d,r)) (hp:bQ d.pre):bH P o a w0 N0 A env h w d:=by
 have dx:=dC f x
 unfold Od at e
 split at e
 case h_3=>cases e
 next E sz kh hh he hlo hhi hmx=>
  have ⟨hu,hsz⟩:=Ag he;have hlo':lo=none:=by cases lo <;> simp_all
  have hmx':mx=none:=by cases mx <;> simp_all
  subst hlo' hmx';cases hi with
  | none=>cases hhi
  | some y =>
  simp only[ch6,cE] at hhi;have dy:=dC f y;rw[hhi] at dy;simp only[aA] at dy;split at e
  case h_2=>cases e
  rename_i n sz' hx;rw[hx] at dx;simp only[aA] at dx;simp only[Q.run] at e;split at e
  case h_2=>cases e
  rename_i p q hk;simp only[cE,cy] at e;obtain⟨rfl,rfl⟩:=e;split at hk
  case h_2=>cases hk
  rename_i E' u xs hl;split at hk
  case h_2=>cases hk
  rename_i hs1 hs2;have hs1:=bK hs1;have hs2:=bK hs2;subst hs1;simp only[Q.run] at hk;split at hk
  case h_2=>cases hk
  rename_i p' q' hk';simp only[cE,cy] at hk;obtain⟨rfl,rfl⟩:=hk;split at hk'
  case h_2=>cases hk'
  rename_i hun;cases cA hk';simp only[Dl.pre,bQ,g7] at hp;have exe:∀{p:Option Addr}{len cap:Nat},a.eval x = .slice p len cap->it hh<=cap->(cb0 a.eval o).run P w = .ok (.value (.slice p (it hh) cap)) w:=by
   intro p len cap ev hc;unfold cb0;rw[ho];have hb:=OR (P:=P) (w:=w) len cap bZ9 (bZ1 (a.eval y)) bZ9 0 (it hh) cap (.inl ⟨rfl,rfl⟩) (.inr ⟨kh,hh,by rw[dy.1],hp.1,ab,rfl⟩) (.inl ⟨rfl,rfl⟩);simp only[ch6,cm0,cs6,ca6,run_underlying hu,ca3,ev,hb,kT hsz,cb1,cB7,cn6];congr 3;split
   .rfl
   .cases p <;> simp[Addr.add]
  have hdn:∀ n'∈[n],∃ b,h n' = .live b/\b.mut=true:=by simp[hl,kG.mut]
  obtain⟨hnil,pa,es⟩|⟨b,len,E2,cc,hb,hsh,es⟩:=dx
  .have hx:xs=[]:=by
    have:=m.nm n;rw[hl] at this;obtain⟨k',l',he',_⟩|⟨_,E3,t3,hb⟩:=this
    .simp_all
    .grind
   subst hx;have h0:it hh=0:=by simp at hp;omega
   have g:=pH (pre:=[0<=hh,hh<=be ([]:List u.D)]) (v := .slice pa 0 0) (E:=E') (t:=u) (zs:=([]:List u.D).take (it hh)) m hun [n] hdn (W:=λ_=>False) (ev := .nil) (cZ.refl w _) (λ_ h=>h.elim) az
    (λk l e=>by cases e) (λ_=>.inl ⟨rfl,az,pa,rfl⟩)
   exact⟨_,w,.inl (exe es ab),by rw[h0];simpa using g⟩
  .have ⟨β,len⟩:=len;have ⟨cur,cap,hhp,hcs,hxl,hlc,hcm,hrd⟩:=(m.live_blk hl hb).1;simp only at hcs hxl hlc hrd es;have hcc:cc=cur.size:=by
    rw[hhp.shape] at hsh;simp_all
   have hcap:(cc-β)/sz'=cap:=by rw[hcc,hcs,hs2,nI];exact tx _ u.size_pos
   rw[hcap] at es;have hle:it hh<=be xs:=ab;have g:=pH (pre:=[0<=hh,hh<=be xs]) (v := .slice (bZ1 ⟨b,β,bZ9⟩) (it hh) cap) (E:=E') (t:=u) (zs:=xs.take (it hh)) m hun [n] hdn (W:=λ_=>False) (ev := .blk b (β,it hh)) (cZ.refl w _) (λ_ h=>h.elim) az
    (λk l e=>by cases e;exact .inr ⟨n,(β,len),by simp,hb⟩) (λx=>.inr ⟨b,(β,it hh),cc,rfl,⟨cur,cap,hhp,hcs,by simp;omega,ab,hcm,λi hi=>?_⟩,by rw[hsh];rw[hhp.shape] at hsh;cases hsh;rfl,by rw[← hs2,hcap]⟩)
   .exact⟨_,w,.inl (exe es ab),by simpa using g⟩
   .grind
 next E sz kl l he hlo hhi hmx=>
  have ⟨hu,hsz⟩:=Ag he;have hhi':hi=none:=by cases hi <;> simp_all
  have hmx':mx=none:=by cases mx <;> simp_all
  subst hhi' hmx';cases lo with
  | none=>cases hlo
  | some y =>
  simp only[ch6,cE] at hlo;have dy:=dC f y;rw[hlo] at dy;simp only[aA] at dy;split at e
  case h_2=>cases e
  rename_i n sz' hx;rw[hx] at dx;simp only[aA] at dx;simp only[Q.run] at e;split at e
  case h_2=>cases e
  rename_i p q hk;simp only[cE,cy] at e;obtain⟨rfl,rfl⟩:=e;split at hk
  case h_2=>cases hk
  rename_i E' u xs hl;split at hk
  case h_2=>cases hk
  rename_i hs1 hs2;have hs1:=bK hs1;have hs2:=bK hs2;subst hs1;simp only[Q.run] at hk;split at hk
  case h_2=>cases hk
  rename_i p' q' hk';simp only[cE,cy] at hk;obtain⟨rfl,rfl⟩:=hk;split at hk'
  case h_2=>cases hk'
  rename_i hun;cases cA hk';simp only[Dl.pre,bQ,g7] at hp;have exe:∀{p:Option Addr}{len cap:Nat},a.eval x = .slice p len cap->it l<=len->(cb0 a.eval o).run P w = .ok (.value (.slice (if cap=it l then p else p.map (·.add (it l*u.size))) (len-it l) (cap-it l))) w:=by
   intro p len cap ev hc;unfold cb0;rw[ho];have hb:=OR (P:=P) (w:=w) len cap (bZ1 (a.eval y)) bZ9 bZ9 (it l) len cap (.inl ⟨rfl,rfl⟩) (.inl ⟨rfl,rfl,rfl⟩) (.inr ⟨kl,l,by rw[dy.1],hp.1,ab,rfl⟩);simp only[ch6,cm0,cs6,ca6,run_underlying hu,ca3,ev,hb,kT hsz,cb1]
  have hdn:∀ n'∈[n],∃ b,h n' = .live b/\b.mut=true:=by simp[hl,kG.mut]
  obtain⟨hnil,pa,es⟩|⟨b,len,E2,cc,hb,hsh,es⟩:=dx
  .have hx:xs=[]:=by
    have:=m.nm n;rw[hl] at this;obtain⟨k',l',he',_⟩|⟨_,E3,t3,hb⟩:=this
    .simp_all
    .grind
   subst hx;have h0:it l=0:=by simp at hp;omega
   have g:=pH (pre:=[0<=l,l<=be ([]:List u.D)]) (v := .slice pa 0 0) (E:=E') (t:=u) (zs:=([]:List u.D).drop (it l)) m hun [n] hdn (W:=λ_=>False) (ev := .nil) (cZ.refl w _) (λ_ h=>h.elim) az
    (λk l e=>by cases e) (λ_=>.inl ⟨rfl,az,pa,rfl⟩)
   have ex:=exe es ab;rw[h0] at ex;exact⟨_,w,.inl ex,by simpa[h0] using g⟩
  .have ⟨β,len⟩:=len;have ⟨cur,cap,hhp,hcs,hxl,hlc,hcm,hrd⟩:=(m.live_blk hl hb).1;simp only at hcs hxl hlc hrd es;have hcc:cc=cur.size:=by
    rw[hhp.shape] at hsh;simp_all
   have hcap:(cc-β)/sz'=cap:=by rw[hcc,hcs,hs2,nI];exact tx _ u.size_pos
   rw[hcap] at es;have hle:it l<=be xs:=ab;have ex:=exe es ab;by_cases hfull:cap=it l
   .rw[aj hfull] at ex;have hz:xs.drop (it l)=[]:=List.drop_eq_nil_of_le ab;have g:=pH (pre:=[0<=l,l<=be xs]) (v := .slice (bZ1 ⟨b,β,bZ9⟩) 0 0) (E:=E') (t:=u) (zs:=xs.drop (it l)) m hun [n] hdn (W:=λ_=>False) (ev := .nil) (cZ.refl w _) (λ_ h=>h.elim) az
     (λk l e=>by cases e) (λ_=>.inl ⟨rfl,hz,_,rfl⟩)
    rw[show len-it l=0 by omega,show cap-it l=0 by omega] at ex;exact⟨_,w,.inl ex,by simpa using g⟩
   .rw[ah hfull] at ex;have hmul:it l*u.size+(cap-it l)*u.size=cap*u.size:=by rw[← fY];congr 1;omega
    have g:=pH (pre:=[0<=l,l<=be xs]) (v := .slice (bZ1 ⟨b,β+it l*u.size,bZ9⟩) (len-it l) (cap-it l)) (E:=E') (t:=u) (zs:=xs.drop (it l)) m hun [n] hdn (W:=λ_=>False) (ev := .blk b (β+it l*u.size,len-it l)) (cZ.refl w _) (λ_ h=>h.elim) az
     (λk l e=>by cases e;exact .inr ⟨n,(β,len),az,hb⟩) (λx=>.inr ⟨b,(β+it l*u.size,len-it l),cc,rfl,⟨cur,cap-it l,hhp,by rw[hcs,gG,hmul],by simp only[gw];omega,ab,ab,λi hi=>?_⟩,by rw[hsh];rw[hhp.shape] at hsh;cases hsh;rfl,by
      show _=cj5 _ _ ((cc-(β+it l*u.size))/u.size);rw[hcc,hcs,show β+cap*u.size-(β+it l*u.size)=(cap-it l)*u.size by rw[← hmul];omega,tx _ u.size_pos]⟩)
    .exact⟨_,w,.inl ex,by simpa only[ch6,cd4,fF,cn8] using g⟩
    .have hi':i+it l<be xs:=by simp at hi;omega
     rw[List.getElem_drop];have:=hrd (it l+i) ab;rw[show β+(it l+i)*u.size=β+it l*u.size+i*u.size by rw[fY];omega] at this;exact this
theorem QD(z:Array ca2)(n:Nat)(hz:0<z.size):(ca9 z n).toList=mi z.toList n:=by
 apply cw5
 intro i
 by_cases hi:i<n*z.size
 .rw[CN _ _ _ (by simpa using hi)];unfold ca9;have hm:i%z.size<z.size:=Nat.mod_lt _ hz;simp_all
 .rw[AH (by simp[ca9];omega),AH (by rw[GD];simp;omega)]
theorem aq1(m:Mod w0 N0 A env h w)(f:FD A env w ρ a){t tn:bZ8}{nm:Nat}{s x:cb3}(ho:o.op = .call {callee := .builtin .append,args := #[s,x],argTypes := #[t,tn]})
  (e:(OA P t tn nm (bc ρ s) (bc ρ x)).run h=bZ1 (d,r)) (hp:bQ d.pre):bH P o a w0 N0 A env h w d:=by
 have ds:=dC f s
 have dx:=dC f x
 have exe:∀{v:ca2}{w':ca8},(cc0 #[t,tn] o.type #[a.eval s,a.eval x]).run P w = .ok v w'→(cb0 a.eval o).run P w = .ok (.value v) w':=by
  intro v w' hr;unfold cb0;rw[ho];simp only[resolve,invoke,builtin,ca6,cb1,ca3,cx2,fF,cn8,hr]
 unfold OA at e
 split at e
 case h_2=>cases e
 rename_i E sz kn n kt he hs hx hut
 have ⟨hu,hsz⟩:=Ag he
 rw[hs] at ds;rw[hx] at dx
 simp only[aA] at ds dx
 split at e
 case h_2=>cases e
 rename_i u z i hct hz hi
 split at e
 case h_2=>cases e
 rename_i dd rest hb1 hb2 hb3 hpz
 have hb1:=bK hb1
 have hb2:=bK hb2
 have hb3:=md hb3
 subst hb1
 simp only[Q.run] at e
 split at e
 case h_2=>cases e
 rename_i p q hk
 simp only[cE,cy] at e
 obtain⟨rfl,rfl⟩:=e
 split at hk
 case h_2=>cases hk
 rename_i hun
 cases cA hk
 simp only[Dl.pre,bQ,g7] at hp
 have ⟨h0,hby⟩:=hp
 have ⟨i',zv,hi',hzv,dz,_⟩:=Bj (A:=A) (env:=env) (w:=w) hz
 rw[hi] at hi';cases hi'
 have hzl:zv.cells.size=u.size:=by rw[← fC,jb dz,hb2]
 have hisz:i.size=u.size:=by
  unfold f9 at hsz;rw[hi] at hsz;simpa using hsz
 obtain⟨k,rfl⟩:=rx h0
 have hkb:k*i.bytes<=140737488355328:=by
  have:((k*i.bytes:Nat):Int)<=140737488355328:=by rw[Int.natCast_mul];exact hby
  omega
 have hk1:k<=k*i.bytes:=Nat.le_mul_of_pos_right k ab
 by_cases hk0:k=0
 .subst hk0;have hr:(cc0 #[t,tn] o.type #[a.eval s,a.eval x]).run P w = .ok (.slice bZ9 0 0) w:=by
   rw[ds,dx.1];have hw:bZ4.wrap ((0:Nat):Int)=0:=aB;have hut':=hut;have hai:(asIntOf (ch1 kn 0)).run P w = .ok (kn,0) w:=by simp[asIntOf]
   unfold cc0;simp[run_underlying hu,run_underlying hut',kT hsz,typeInfo,hi,asInt,hai,show bZ4.wrap 0=0 from by decide]
  refine⟨_,w,.inl (exe hr),?_⟩;have g:=pH (pre:=[0<=((0:Nat):Int),((0:Nat):Int)*(i.bytes:Int)<=140737488355328]) (v := .slice bZ9 0 0) (E:=E) (t:=u) (zs:=replicate (it (((0:Nat):Int))) dd) m hun [] az (W:=λ_=>False) (ev := .nil) (cZ.refl w _) (λ_ h=>h.elim) az
   (λk l e=>by cases e) (λ_=>.inl ⟨rfl,az,bZ9,rfl⟩)
  simpa using g
 .have hr:=Go.Lib.run_append_nil_zeros (P:=P) w t tn o.type E i zv kn kt hu hut hi hzv k ab (by rw[hisz];exact u.size_pos) ab ab;rw[← ds,← dx.1] at hr;refine⟨_,_,.inl (exe hr),?_⟩;have hge:=cw4 w k 0 E;have hcm:=cl2 w k 0 E (by simp only[cb2];omega);generalize grownCap w k 0 E=cap at *;have hproj:=wA m u z zv.cells.toList dd rest [] [] (by rw[hpz];rfl) dz (A':=A) (λ_ hb=>hb) (λk ⟨n,b,l,hh,_⟩=>by simp at hh);have hall:(ca9 zv.cells k++ca9 zv.cells (cap-k)).toList=mi zv.cells.toList cap:=by
   rw[Array.toList_append,QD _ _ (by rw[hzl];exact u.size_pos),QD _ _ (by rw[hzl];exact u.size_pos)];have radd:∀(l:List ca2)(a b:Nat),mi l a++mi l b=mi l (a+b):=by
    intro l a b
    induction a with
    | zero=>simp[mi]
    | succ a ih=>rw[Nat.succ_add];simp only[mi,fV,ih]
   rw[radd];congr 1;omega
  have hsize:(ca9 zv.cells k++ca9 zv.cells (cap-k)).size=cap*u.size:=by
   rw[← fC,hall,GD,fC,hzl]
  have cg:cZ w (w.drew.alloc (.cells (ca9 zv.cells k++ca9 zv.cells (cap-k)) E)) λ_=>False:=(cZ.drew w _).trans (cZ.alloc w.drew _ _);have g:=pH (pre:=[0<=((k:Nat):Int),((k:Nat):Int)*(i.bytes:Int)<=140737488355328]) (v := .slice (bZ1 ⟨w.heap.size,0,bZ9⟩) k cap) (E:=E) (t:=u) (zs:=replicate (it ((k:Nat):Int)) dd) m hun [] az (W:=λ_=>False) (ev := .blk w.heap.size (0,k)) cg (λ_ h=>h.elim) az
   (λk l e=>by cases e;exact .inl (dq _)) (λx=>.inr ⟨w.heap.size,(0,k),cap*u.size,rfl,⟨_,cap,.of (heap_alloc_new w.drew _),by rw[hsize,gJ],az,hge,hcm,λj hj=>?_⟩,?_,?_⟩)
  .simpa using g
  .simp only[vU,Int.toNat_natCast] at hj;rw[List.getElem_replicate];have sh:=B7 hproj.2.2.2.1 (j*u.size);rw[gJ] at sh;rw[gJ];refine iQ (λ_ h=>h) x.keep u _ _ _ _ (λq hq=>?_) sh;have hlt:j*u.size+q<cap*u.size:=by
    have:(j+1)*u.size<=cap*u.size:=lw _ ab;rw[fY,mv] at this;omega
   rw[← mO,hall,CN _ _ _ (by simpa[hzl] using hlt)];congr 1;simp only[fC,hzl];rw[yO,Nat.add_mul_mod_self_right,Nat.mod_eq_of_lt hq];omega
  .unfold cc7;have hh:=heap_alloc_new w.drew (.cells (ca9 zv.cells k++ca9 zv.cells (cap-k)) E);simp only[co3] at hh;rw[hh];simp only[hsize]
  .show _=cj5 _ _ ((cap*u.size-0)/u.size);rw[cn6,tx _ u.size_pos]
theorem Le{xs:ad}{v:ca2}(h:uF A w (.int .u8) v xs){src e:bZ8}(d:P.underlying src=bZ1 (.slice e))(f:P.underlying e=bZ1 (.int .u8)){dst:bZ8}(g:P.underlying dst=bZ1 .string) :
  (convert src dst v).run P w = .ok (.string (strOfNums xs)) w:=by
 obtain⟨hl,⟨⟨a,rfl⟩,c⟩|⟨b,off,cap,rfl,h1,h2,h3,h4⟩⟩:=h
 .have c:=c;subst c;rw[run_convert_bytes_string w src dst e _ 0 0 d f g];cases a <;> simp[Conv.bytesToString,loadCells]
  all_goals rfl
 .refine cx3 w src e d f b off (be xs) cap xs rfl (λi hi=>?_) dst g;have:=(h4 i hi).1;simp only[CT.size,co5] at this;simp_all
theorem ak1{xs:ad}{k c:Nat}{len:Nat×Nat}{E:bZ8}(h:rJ A w k len E (.int .u8) xs){src e:bZ8}(hs:P.underlying src=bZ1 (.slice e))(he:P.underlying e=bZ1 (.int .u8)){dst:bZ8}(hd:P.underlying dst=bZ1 .string) :
  (convert src dst (.slice (bZ1 ⟨k,len.1,bZ9⟩) len.2 c)).run P w = .ok (.string (strOfNums xs)) w:=by
 have ⟨vs,cap,h0,h1,h2,h3,h4,h5⟩:=h
 refine cx3 (P:=P) w src e hs he k len.1 len.2 c xs h2 (λi hi=>?_) dst hd
 have hi':i<be xs:=ab
 have:=(h5 i hi').1
 simp only[CT.size,co5] at this
 rw[h0.cell,this,cq,cG hi',iA]
def N6(P:ca7)(src:bZ8)(x:SV):Q Dl:=match P.underlying src with
 | some (.slice e)=>match P.underlying e with
  | some (.int .u8)=>match x with
   | .dsl t xs=>match iq t (.int .u8) xs with
    | some ys=>cY (.str (strOfNums ys))
    | none => .fail
   | .dsx t xs=>match iq t (.int .u8) xs with
    | some ys=>cY (.str (strOfNums ys))
    | none => .fail
   | .nilsl=>cY (.str (strOfNums []))
   | .own n sz => .ask n fun
    | .live (.row _ t xs)=>match iq t (.int .u8) xs with
     | some ys=>cY (.str (strOfNums ys))
     | none => .fail
    | .live (.frz _ t xs)=>match iq t (.int .u8) xs with
     | some ys=>cY (.str (strOfNums ys))
     | none => .fail
    | _ => .fail
   | _ => .fail
  | _ => .fail
 | _ => .fail
theorem Gu{xs:ad}{v:ca2}(hl:be xs<=cb2):aA A env w (.str (strOfNums xs)) (.string (strOfNums xs)):=by
 simp only[aA];exact⟨aP,by rw[strOfNums_size];exact hl⟩
theorem ak9(m:Mod w0 N0 A env h w)(f:FD A env w ρ a){s t:bZ8}{x:cb3}(ho:o.op = .convert s t x)(C:P.underlying t=bZ1 .string)
  (e:(N6 P s (bc ρ x)).run h=bZ1 (d,r)):bH P o a w0 N0 A env h w d:=by
 have i:=dC f x
 have D:∀{v:ca2},(convert s t (a.eval x)).run P w = .ok v w->(cb0 a.eval o).run P w = .ok (.value v) w:=by
  unfold cb0;simp_all
 unfold N6 at e
 split at e
 next el hs=>
  split at e
  .rename_i F;split at e
   .rename_i u xs l;rw[l] at i;split at e
    next ys hc=>have ⟨y,z⟩:=kC hc;subst y;subst z;cases cA e;exact bH.pure m (D (Le i hs F C)) (Gu (v:=a.eval x) i.1)
    .cases e
   .rename_i u xs l;rw[l] at i;split at e
    next ys hc=>have ⟨y,z⟩:=kC hc;subst y;subst z;cases cA e;exact bH.pure m (D (Le i.1 hs F C)) (Gu (v:=a.eval x) i.1.1)
    .cases e
   next l=>rw[l] at i;cases cA e;refine bH.pure m (D ?_) (Gu (v:=a.eval x) az);rw[i];exact Le (A:=A) ⟨az,.inl ⟨⟨_,rfl⟩,rfl⟩⟩ hs F C
   .rename_i n sz l;rw[l] at i;simp only[Q.run] at e;split at e
    .rename_i p q hk;obtain⟨rfl,rfl⟩:=e;have G:∀{E:bZ8}{ys:ad}{fz:Bool},h n = .live (match fz with|true => .frz E (.int .u8) ys|false => .row E (.int .u8) ys)->bH P o a w0 N0 A env h w (.det [] (.str (strOfNums ys)) []):=by
      intro E ys fz hl;have H:=m.nm n;rw[hl] at H;obtain⟨j,a0,ev⟩|⟨b,len,E',c,j,_,ev⟩:=i
      .obtain⟨k,len,g,_⟩|⟨_,E2,t2,B⟩:=H
       .rw[j] at g;cases g
       .have:ys=[]:=by cases fz <;> (obtain B|B:=B <;> cases B) <;> rfl
        subst this;refine bH.pure m (D ?_) (Gu (v:=a.eval x) az);rw[ev];exact Le (A:=A) ⟨az,.inl ⟨⟨_,rfl⟩,rfl⟩⟩ hs F C
      .obtain⟨k,len',g,B,_⟩|⟨g,_⟩:=H
       .rw[j] at g;cases g;have I:rJ A w b len E (.int .u8) ys:=by
         cases fz with
         | true=>exact B.2
         | false=>exact B
        refine bH.pure m (D ?_) (Gu (v:=a.eval x) ?_)
        .rw[ev];exact ak1 I hs F C
        .have ⟨vs,cap,_,_,h2,h3,h4,_⟩:=I;omega
       .rw[j] at g;cases g
     split at hk
     .rename_i E u xs hl;split at hk
      next ys hc=>have ⟨y,z⟩:=kC hc;subst y;subst z;cases cA hk;exact G (fz:=false) hl
      .cases hk
     .rename_i E u xs hl;split at hk
      next ys hc=>have ⟨y,z⟩:=kC hc;subst y;subst z;cases cA hk;exact G (fz:=true) hl
      .cases hk
     .cases hk
    .cases e
   .cases e
  .cases e
 .cases e
def HP:SV->Option ByteArray
 | .str s=>bZ1 s
 | .cv (.string s)=>bZ1 s
 | _=>bZ9
def NH(op:BinOp)(x y:SV):Q Dl:=match HP x,HP y,op with
 | some a,bZ1 b,.eql=>cY (.bool (bZ2 (a=b)))
 | some a,bZ1 b,.neq=>cY (.bool (!bZ2 (a=b)))
 | _,_,_ => .fail
theorem Il{x:SV}{v:ca2}{s:ByteArray}(e:HP x=bZ1 s)(a:aA A env w x v):v = .string s:=by
 unfold HP at e
 split at e
 .cases e;exact a.1
 .cases e;exact a
 .cases e
theorem av4(m:Mod w0 N0 A env h w)(f:FD A env w ρ a){c:BinOp}{t yt:bZ8}{x y:cb3}(ho:o.op = .binOp c t x y yt)(ht:P.underlying t=bZ1 .string)
  (e:(NH c (bc ρ x) (bc ρ y)).run h=bZ1 (d,r)):bH P o a w0 N0 A env h w d:=by
 have k:=dC f x
 have l:=dC f y
 have g:∀(v:ca2),((do eqGuard c t x y (a.eval x) (a.eval y);binOp c t (a.eval x) (a.eval y):Sem ca2).run P w) = .ok v w →
   (cb0 a.eval o).run P w = .ok (.value v) w:=by
  intro v hv;unfold cb0;rw[ho];simp only[ca6,cb1] at hv ⊢;rw[hv];rfl
 have b:∀ u v:ByteArray,(u.toList == v.toList)=bZ2 (u=v):=λu v=>by
  rw[yq];simp only[cF5,beq_iff_eq,rF];exact⟨λh=>by cases u;simp_all,λh=>by rw[h]⟩
 unfold NH at e
 split at e
 next u v hx hy=>have i:=Il hx k;have j:=Il hy l;rw[i,j] at g;cases cA e;refine bH.pure m (g _ ?_) (v := .bool (bZ2 (u=v))) (by simp only[aA]);rw[cA9];simp[binOp,cD8,b]
 next u v hx hy=>have i:=Il hx k;have j:=Il hy l;rw[i,j] at g;cases cA e;refine bH.pure m (g _ ?_) (v := .bool (!bZ2 (u=v))) (by simp only[aA]);rw[cA9];simp[binOp,cD8,b]
 .cases e
def Hl(P:ca7)(t:bZ8)(x i:SV):Q Dl:=match i,P.underlying t with
 | .int _ i,bZ1 (.array len e)=>match f9 P e,bZ2 (0<=i)&&bZ2 (i<len)&&bZ2 (2<=len) with
  | some (n+1),bZ3=>match x with
   | .ptr m o=>cY (.ptr m (o+it i*(n+1)))
   | .eptr m s j o=>cY (.eptr m s j (o+it i*(n+1)))
   | .dptr u d o=>cY (.dptr u d (o+it i*(n+1)))
   | _ => .fail
  | _,_ => .fail
 | _,_ => .fail
theorem TZ(m:Mod w0 N0 A env h w)(f:FD A env w ρ a){t:bZ8}{x i:cb3}(φ:cb3->SV)(c:aA A env w (φ x) (a.eval x))(ho:o.op = .indexAddr t x i)
  (e:(Hl P t (φ x) (bc ρ i)).run h=bZ1 (d,r)):bH P o a w0 N0 A env h w d:=by
 have s:=dC f i
 unfold Hl at e
 split at e
 next k iv len E hi hu=>
  rw[hi] at s;split at e
  .rename_i n hn hb;simp at hb;have ⟨⟨h0,h1⟩,h2⟩:=hb;have g:∀{b off:Nat},a.eval x = .pointer (bZ1 ⟨b,off,bZ9⟩)->(cb0 a.eval o).run P w = .ok (.value (.pointer (bZ1 ⟨b,off+it iv*(n+1),bZ9⟩))) w:=by
    intro b off ev;unfold cb0;rw[ho];simp[cz1,ce0,ev,s.1,asIntOf,run_underlying hu,kT hn,h0,h1,cd4]
   split at e
   next q o' hx=>rw[hx] at c;have ⟨b,l,p,ev⟩:=c;cases cA e;exact bH.pure m (g ev) (by simp only[aA];exact⟨b,l,p,rfl⟩)
   next q sz j o' hx=>rw[hx] at c;have ⟨b,l,p,hj,ev⟩:=c;cases cA e;exact bH.pure m (g ev) (by simp only[aA];exact⟨b,l,p,hj,by rw[gG,gG]⟩)
   next u dd o' hx=>rw[hx] at c;have ⟨b,off,ev,hA,hr⟩:=c;cases cA e;exact bH.pure m (g ev) (by simp only[aA];exact⟨b,off,by rw[gG],hA,hr⟩)
   .cases e
  .cases e
 .cases e
def iM(i:Int):List (Int×Int)->Bool
 | []=>bZ6
 | p::r=>bif bZ2 (i=p.1) then bZ3 else iM i r
def nK(i:Int):List (Int×Int)->Int
 | []=>0
 | p::r=>bif bZ2 (i=p.1) then p.2 else nK i r
def my(i v:Int):List (Int×Int)->List (Int×Int)
 | []=>[(i,v)]
 | p::r=>bif bZ2 (i=p.1) then (i,v)::r else p::my i v r
def uD(i:Int):List (Int×Int)->Nat
 | []=>0
 | p::r=>bif bZ2 (i=p.1) then 0 else uD i r+1
def GB(P:ca7)(t:bZ8):Option (bZ8×cb7×bZ8×cb7):=match P.underlying t with
 | some (.map k e)=>match P.underlying k,P.underlying e with
  | some (.int kk),bZ1 (.int vk)=>bZ1 (k,kk,e,vk)
  | _,_=>bZ9
 | _=>bZ9
def NU(P:ca7)(e:bZ8)(vk:cb7):Bool:=match P.info? e with
 | some j=>match j.zero with
  | some (.int k n)=>jW k vk&&bZ2 (n=0)
  | _=>bZ6
 | none=>bZ6
def QJ(P:ca7)(t:bZ8)(nm:Nat):Q Dl:=match GB P t with
 | some (_,kk,_,vk) => .ask nm fun
  | .un => .ret (.det [] (.mapp nm) [(nm,.live (.mp kk vk []))])
  | _ => .fail
 | none => .fail
def Pr(P:ca7)(t:bZ8)(x i:SV):Q Dl:=match GB P t,x,i with
 | some (_,kk,e,vk),.mapp n,.int k i => .ask n fun
  | .live (.mp kk' vk' l)=>match jW kk kk',jW vk vk',jW k kk,NU P e vk with
   | true,bZ3,bZ3,bZ3=>cY (.tup [.int vk (nK i l),.bool (iM i l)])
   | _,_,_,_ => .fail
  | _ => .fail
 | _,_,_ => .fail
def Pb(P:ca7)(t:bZ8)(x i y:SV):Q Dl:=match GB P t,x,i,y with
 | some (_,kk,_,vk),.mapp n,.int k i,.int k' v => .ask n fun
  | .live (.mp kk' vk' l)=>match jW kk kk',jW vk vk',jW k kk,jW k' vk with
   | true,bZ3,bZ3,bZ3 => .ret (.det [] (.cv undef) [(n,.live (.mp kk vk (my i v l)))])
   | _,_,_,_ => .fail
  | _ => .fail
 | _,_,_,_ => .fail
theorem XO{t k e:bZ8}{a b:cb7}(h:GB P t=bZ1 (k,a,e,b)):P.underlying t=bZ1 (.map k e)/\P.underlying k=bZ1 (.int a)/\P.underlying e=bZ1 (.int b):=by
 unfold GB at h
 grind
theorem aD0{e:bZ8}{a:cb7}(h:NU P e a=bZ3):(zeroValue e).run P w = .ok (.int a 0) w:=by
 unfold NU at h
 split at h
 next j hj=>
  split at h
  next k n b=>simp at h;cases j6 h.1;rw[h.2] at b;simp[zeroValue,typeInfo,hj,b]
  .cases h
 .cases h
def wz(kk vk:cb7)(l:List (Int×Int)):List (ca2×ca2):=l.map λp=>(ch1 kk p.1,ch1 vk p.2)
theorem QT{a g:cb7}{i:Int}:∀{d:List cs7}{l:List (Int×Int)}{n:Nat},d.map (λe=>(e.key,e.val))=wz a g l →
  cp5 (.int a) (.int a i) d n=bZ1 (bif iM i l then bZ1 (n+uD i l,.int g (nK i l)) else bZ9)
 | [],[],n,_=>rfl
 | e::d,p::l,n,h=>by
  simp only[wz,fF,cj0.injEq,cy] at h;obtain⟨⟨h1,h2⟩,h3⟩:=h;have b:cz2 (.int a) (.int a i) e.key=bZ1 (i == p.1):=by rw[h1];simp[cz2]
  by_cases c:i=p.1
  .have f:(i == p.1)=true:=by simp[c]
   rw[f] at b;simp only[cp5,b,h2,iM,nK,uD,ft c,cond_true,kf]
  .have f:(i == p.1)=false:=by simp[c]
   rw[f] at b;simp only[cp5,b,iM,nK,uD,eT c,sy];rw[QT h3,show n+1+uD i l=n+(uD i l+1) by omega]
theorem Rr{i:Int}:∀{l:List (Int×Int)},iM i l=bZ6->nK i l=0
 | [],_=>rfl
 | p::l,h=>by
  simp only[iM] at h;cases a:bZ2 (i=p.1) with
  | true=>rw[a] at h;cases h
  | false =>
   rw[a,sy] at h;simp only[nK,a,sy];exact Rr h
theorem WH{b:cb7}{i v:Int}(c:b.has v):∀{l:List (Int×Int)},(∀ p∈l,b.has p.2)→∀ p∈my i v l,b.has p.2
 | [],_,p,a=>by simp only[my,kY] at a;rw[a];exact c
 | q::l,h,p,a=>by
  simp only[my] at a;cases hd:bZ2 (i=q.1) with
  | true =>
   grind
  | false =>
   rw[hd,sy] at a;obtain rfl|a:=dO.1 a
   .simp_all
   .exact WH c (λp a=>h p (fu _ a)) p a
theorem TF{a:cb7}{i:Int}(b:a.has 0):∀{l:List (Int×Int)},(∀ p∈l,a.has p.2)->a.has (nK i l)
 | [],_=>b
 | q::l,h=>by
  simp only[nK];cases bZ2 (i=q.1) with
  | true=>exact h _ eV
  | false=>exact TF b λp hp=>h p (fu _ hp)
theorem Wi{b d:cb7}{i v:Int}:∀{c:List cs7}{l:List (Int×Int)},c.map (λe=>(e.key,e.val))=wz b d l->iM i l=bZ3 →
  (c.modify (uD i l) λe=>{e with key := .int b i,val := .int d v}).map (λe=>(e.key,e.val))=wz b d (my i v l)∧∃ e,c[uD i l]? = bZ1 e/\e.key = .int b i
 | [],[],_,a=>by cases a
 | e::c,p::l,h,a=>by
  simp only[wz,fF,cj0.injEq,cy] at h;have ⟨⟨h1,h2⟩,h3⟩:=h;simp only[iM] at a;cases f:bZ2 (i=p.1) with
  | true =>
   simp only[my,uD,f,cond_true,wz,fF];simp_all
  | false =>
   rw[f,sy] at a;obtain⟨k1,k2⟩:=Wi h3 a;simp only[my,uD,f,sy,wz,fF];refine⟨?_,by simpa using k2⟩;simp only[List.modify_succ_cons,fF,h1,h2,cj0.injEq,true_and];exact k1
theorem Yk{a b:cb7}{i v:Int}:∀{l:List (Int×Int)},iM i l=bZ6->wz a b (my i v l)=wz a b l++[(ch1 a i,ch1 b v)]
 | [],_=>rfl
 | p::l,h=>by
  simp only[iM] at h;cases c:bZ2 (i=p.1) with
  | true=>rw[c] at h;cases h
  | false =>
   rw[c,sy] at h;simp only[my,c,sy,wz,fF,kO];exact dP _ (Yk h)
theorem a95(m:Mod w0 N0 A env h w){t:bZ8}{nm:Nat}(ho:o.op = .makeMap t bZ9)
  (e:(QJ P t nm).run h=bZ1 (d,r)):bH P o a w0 N0 A env h w d:=by
 unfold QJ at e
 split at e
 .simp only[Q.run] at e;split at e
  .rename_i p q hk;obtain⟨rfl,rfl⟩:=e;split at hk
   .rename_i c;cases cA hk;have b:(cb0 a.eval o).run P w = .ok (.value (.map (bZ1 w.heap.size))) (w.alloc (.map #[] 0)):=by
     unfold cb0;rw[ho];rfl
    refine⟨_,_,.inl b,fb.fresh m c (len:=(0,0)) rfl w.heap.size (dq _) (cZ.alloc w _ _) (λx=>⟨#[],0,heap_alloc_new w _,rfl,λp hp=>by cases hp⟩) ?_⟩;simp only[aA];simp_all
   .cases hk
  .cases e
 .cases e
theorem PR(kk:cb7)(i:Int):cx4 (.int kk) (.int kk i):=by simp[cx4]
theorem at1(m:Mod w0 N0 A env h w)(f:FD A env w ρ a){t:bZ8}{x i:cb3}(ho:o.op = .lookup t x i bZ3)
  (e:(Pr P t (bc ρ x) (bc ρ i)).run h=bZ1 (d,r)):bH P o a w0 N0 A env h w d:=by
 have j:=dC f x
 have s:=dC f i
 unfold Pr at e
 split at e
 next kt kk et vk n k i hm hx hi=>
  rw[hx] at j;rw[hi] at s;have ⟨b,len,he,ev⟩:=j;have ⟨hu,c,hue⟩:=XO hm;simp only[Q.run] at e;split at e
  .rename_i p q hk;obtain⟨rfl,rfl⟩:=e;split at hk
   .rename_i kk' vk' l hl;split at hk
    .rename_i q1 q2 q3 q4;cases j6 q1;cases j6 q2;cases j6 q3;cases cA hk;have ⟨⟨es,clk,hb,g,hh⟩,_⟩:=m.live_blk hl he;have hf:=QT (i:=i) (n:=0) g;have h0:vk.has 0:=by
      have:=IntKind.wrap_has vk 0;have e0:vk.wrap 0=0:=by cases vk <;> rfl
      rw[e0] at this;exact this
     refine bH.pure m (v := .tuple #[.int vk (nK i l),.bool (iM i l)]) ?_ ?_
     .unfold cb0;rw[ho];simp only[ev,s.1,Instr.lookup,ca6,run_underlying hu,ca3,ck0 hb,cb1,ck7 c (PR kk i),ck9 c hf];cases hq:iM i l with
      | true=>simp
      | false =>
       simp[aD0 q4,Rr hq]
     .simp only[aA];exact⟨_,rfl,⟨_,_,rfl,⟨rfl,TF h0 hh⟩,_,_,rfl,rfl,rfl⟩⟩
    .cases hk
   .cases hk
  .cases e
 .cases e
theorem cZ.setMap{w:ca8}{b:Nat}{es:Array cs7}{c:Nat}(hb:w.heap[b]? = bZ1 (.map es c))(es':Array cs7)(c':Nat) :
  cZ w {w with heap:=w.heap.setIfInBounds b (.map es' c')} λj=>j=b:=by
 refine⟨rfl,rfl,rfl,dq _,az,λk hk hw=>?_,λk s hs=>?_⟩
 .exact FM (λe=>hw e.symm)
 .by_cases e:k=b
  .subst e;unfold cc7 at hs;rw[hb] at hs;cases hs
  .unfold cc7 at hs ⊢;have:({w with heap:=w.heap.setIfInBounds b (.map es' c')}:ca8).heap[k]? = w.heap[k]? := FM (λh=>e h.symm);rw[this];exact hs
theorem aV3(m:Mod w0 N0 A env h w)(f:FD A env w ρ a){t:bZ8}{x i y:cb3}(ho:o.op = .mapUpdate t x i y)
  (e:(Pb P t (bc ρ x) (bc ρ i) (bc ρ y)).run h=bZ1 (d,r)):bH P o a w0 N0 A env h w d:=by
 have dx:=dC f x
 have di:=dC f i
 have H:=dC f y
 unfold Pb at e
 split at e
 next kt j et C n k i k' v hm hx hi hy=>
  rw[hx] at dx;rw[hi] at di;rw[hy] at H;have ⟨b,len,he,ev⟩:=dx;have ⟨hu,g,hue⟩:=XO hm;simp only[Q.run] at e;split at e
  .rename_i p q hk;obtain⟨rfl,rfl⟩:=e;split at hk
   .rename_i kk' vk' l hl;split at hk
    .rename_i q1 q2 q3 q4;cases j6 q1;cases j6 q2;cases j6 q3;cases j6 q4;cases cA hk;have ⟨⟨es,s,B,z,hh⟩,_⟩:=m.live_blk hl he;have I:=QT (i:=i) (n:=0) z;have D:∀(c:Array cs7)(J:Nat),(cb0 a.eval o).run P w = .ok .skip {w with heap:=w.heap.setIfInBounds b (.map c J)}->c.toList.map (λe=>(e.key,e.val))=wz j C (my i v l) →
       bH P o a w0 N0 A env h w (.det [] (.cv undef) [(n,.live (.mp j C (my i v l)))]):=by
      intro c J E F;have hlt:=(Array.getElem?_eq_some_iff.1 B).1;have u:=lP.write (b' := .mp j C (my i v l)) m hl rfl he (cZ.setMap B c J) ⟨c,J,by simp[hlt],F,WH H.2 hh⟩ rfl;exact⟨undef,_,.inr ⟨E,rfl⟩,(),A,env,aP,m.upd u,m.ext u,by simp only[Dl.val,aA]⟩
     cases K:iM i l with
     | true =>
      rw[K,cond_true] at I;obtain⟨k1,e0,k2,k3⟩:=Wi z K;refine D (es.modify (uD i l) λe=>{e with key := .int j i,val := .int C v}) s ?_ (by rw[Array.toList_modify];exact k1);have G:es[uD i l]? = bZ1 e0:=by rw[← mO];exact k2
      unfold cb0;rw[ho];simp only[ev,di.1,H.1,cx5,ca6,run_underlying hu,ca3,ck0 B,cb1,ck7 g (PR j i),ck9 g I,gJ,G,Option.map_some,iA,k3,Instr.keyThatStays,Instr.sameBits,beq_self_eq_true,Bool.and_self,if_true,cp6 _ B]
     | false =>
      rw[K,sy] at I;refine D (es.push {key := .int j i,val := .int C v,born:=s}) (s+1) ?_ (by rw[Array.toList_push,kJ,z,Yk K];rfl);unfold cb0;rw[ho];simp only[ev,di.1,H.1,cx5,ca6,run_underlying hu,ca3,ck0 B,cb1,ck7 g (PR j i),ck9 g I,cp6 _ B]
    .cases hk
   .cases hk
  .cases e
 .cases e
end
end Go.SX
namespace Go.SX
def al1:SV->Bool
 | .own _ _=>bZ3
 | _=>bZ6
def OQ(P:ca7)(ty:bZ8)(x:SV):Q Dl:=match x with
 | .eptr n sz i off => .ask n fun
  | .live (.opn _ t _ j cs)=>match ca0 sz t.size,mU P ty cs off with
   | true,bZ1 v => .ret (.det [i=j] v [])
   | _,_ => .fail
  | _=>xY P ty (.eptr n sz i off)
 | x=>xY P ty x
def LR(P:ca7)(ty:bZ8)(x y:SV):Q Dl:=match x with
 | .eptr n sz i off => .ask n fun
  | .live (.opn E t xs j cs)=>match Ap y,f9 P ty with
   | some vs,bZ1 k=>match ca0 k (be vs),ca0 sz t.size,cd9 (off+be vs) t.size with
    | true,bZ3,bZ3 => .ret (.det [i=j] (.cv undef) [(n,.live (.opn E t xs j (qQ cs off vs)))])
    | _,_,_ => .fail
   | _,_ => .fail
  | .live (.row E t xs)=>match Ap y,f9 P ty with
   | some vs,bZ1 k=>match vs.any al1 with
    | true=>match ca0 k (be vs),ca0 sz t.size,cd9 (off+be vs) t.size with
     | true,bZ3,bZ3 => .ret (.det [] (.cv undef) [(n,.live (.opn E t xs i (qQ (cF t (nB t xs i)) off vs)))])
     | _,_,_ => .fail
    | false=>BR P ty (.eptr n sz i off) y
   | _,_ => .fail
  | _=>BR P ty (.eptr n sz i off) y
 | x=>BR P ty x y
def CX:List SV->Q (List (Nat×Nm))
 | [] => .ret []
 | .own n _::r => .ask n fun
  | .live (.opn E t xs i cs)=>(kS t cs).bind λp=>match p.2.1,AF n p.2.2 with
   | [],bZ3 => .ret ((n,.live (.row E t (xs.set i p.1)))::p.2.2)
   | _,_ => .fail
  | _=>CX r
 | _::r=>CX r
def LY(P:ca7)(ty:bZ8)(x:SV):Q Dl:=match x with
 | .ptr n off => .ask n fun
  | .live (.cells _ cs)=>match mU P ty cs off with
   | some v=>(CX cs).bind λu=>.ret (.det [] v u)
   | none => .fail
  | _ => .fail
 | _ => .fail
section
variable {P:ca7} {w0:ca8} {N0:fI} {A:Nat->Prop} {env:bi} {h:bZ} {w:ca8} {o:Oper} {a:Act} {ρ:Nat->SV} {d:Dl} {r:List Nat}
theorem M2{i n k:Nat}(h:i<n):i*k+k<=n*k:=by
 have:(i+1)*k<=n*k:=lw _ ab
 grind
theorem bP0{k:Nat}{len:Nat×Nat}{E:bZ8}{t:CT}{xs:List t.D}(hr:rJ A w k len E t xs){i:Nat}(hi:i<len.2) :
  kv A env w k len (.opn E t xs i (cF t (nB t xs i))):=by
 have ⟨vs,hl,hc,hd⟩:=yX (env:=env) t (nB t xs i) _ _ (D2 hr hi)
 have ⟨us,cap,hh,h1,h2,h3,h4,h5⟩:=hr
 refine⟨us,cap,vs,hh,h1,h2,h3,h4,hi,hl,λq hq=>?_,hd,λj hj _=>h5 j hj⟩
 have:=hc q hq
 rw[hh.cell] at this
 exact this
theorem aj8{A':Nat->Prop}(hA:∀ b,A b->A' b){k:Nat}{len:Nat×Nat}{E:bZ8}{t:CT}{xs:List t.D}{i:Nat}{cs:List SV}(hb:kv A env w k len (.opn E t xs i cs)){d:t.D}
  (hd:∀ a:List ca2,be a=t.size->aM A env w cs a->Rd A' w t (λj=>a[j]?) 0 d):rJ A' w k len E t (xs.set i d):=by
 have ⟨us,cap,a,hh,h1,h2,h3,h4,h5,h6,h7,h8,h9⟩:=hb
 refine⟨us,cap,hh,h1,by simpa using h2,h3,h4,λj hj=>?_⟩
 have c:j<be xs:=by simpa using hj
 rw[List.getElem_set]
 split
 next e=>subst e;have:=B7 (hd a h6 h8) (len.1+i*t.size);rw[gJ] at this;refine iQ (λ_ h=>h) (λ_ _ _=>rfl) t _ _ _ _ (λq hq=>?_) this;simp_all
 next e=>exact iQ hA (λ_ _ _=>rfl) t _ _ _ _ (λ_ _=>rfl) (h9 j c (λh=>e h.symm))
theorem aM1(m:Mod w0 N0 A env h w){ty:bZ8}{x:cb3}(φ:cb3->SV)(dx:aA A env w (φ x) (a.eval x))(ho:o.op = .load ty x)
  (e:(OQ P ty (φ x)).run h=bZ1 (d,r)) (hp:bQ d.pre):bH P o a w0 N0 A env h w d:=by
 have go:∀{b off:Nat}{v:ca2},a.eval x = .pointer (bZ1 ⟨b,off,bZ9⟩)->(loadVar ty ⟨b,off,bZ9⟩).run P w = .ok v w->(cb0 a.eval o).run P w = .ok (.value v) w:=by
  intro b off v ev hr;unfold cb0;rw[ho];simp only[ev,cq7,ce0,ca6,cb1,ca3,hr]
 unfold OQ at e
 split at e
 next n sz i off hx=>
  have dx':=dx;rw[hx] at dx;simp only[aA] at dx;have ⟨b,l,he,hil,ev⟩:=dx;simp only[Q.run] at e;split at e
  .rename_i p q hk;simp only[cE,cy] at e;obtain⟨rfl,rfl⟩:=e;split at hk
   .rename_i E t xs j cs hl;split at hk
    next v hsz e1=>have hsz:=bK hsz;subst hsz;cases cA hk;have hij:=hp.1;subst hij;have ⟨us,cap,es,hh,h1,h2,h3,h4,h5,h6,h7,h8,h9⟩:=(m.live_blk hl he).1;have ⟨v,hr,hv⟩:=Be (o:=l.1+i*t.size) (k:=b) e1 h8 (λj hj=>by rw[hh.cell];exact h7 j ab);rw[gG] at hr;exact bH.pure m (go ev hr) hv
    .cases hk
   .exact Ej m φ dx' ho (by rw[hx];exact hk)
  .cases e
 .exact Ej m φ dx ho e
theorem W0(m:Mod w0 N0 A env h w){b0:kG}{mm b:Nat}{l:Nat×Nat}(hl:h mm = .live b0)(hm0:b0.mut=bZ3)(he:env mm = .blk b l){E:bZ8}{t:CT}{xs:List t.D}{i off:Nat}{cs vs:List SV}
  (hb:kv A env w b l (.opn E t xs i cs)) {ty:bZ8} {v:ca2} (dv:aM A env w vs v.cells.toList) (h1:∀ u∈v.cells.toList,u.oneCell'=bZ3) (hsz:f9 P ty=bZ1 v.cells.size) (hle:off+be vs<=t.size) :
  ∃ w',(storeVar ty ⟨b,l.1+i*t.size+off,bZ9⟩ v).run P w = .ok () w'∧fb w0 N0 A env h w (.det [] (.cv undef) [(mm,.live (.opn E t xs i (qQ cs off vs)))]) undef w':=by
 have ⟨us,cap,es,hh,hus,hxl,hlc,hcm,hi,hes,hec,hed,hrd⟩:=hb
 have hlv:=jb dv
 have hsv:v.cells.size=be vs:=by rw[← fC,hlv]
 have hpos:l.1+i*t.size+t.size<=us.size:=by
  rw[hus];have:=M2 (k:=t.size) (Nat.lt_of_lt_of_le hi hlc);omega
 have hfit:l.1+i*t.size+off+v.cells.size<=us.size:=ab
 have hrun:=Hs hh hsz hfit h1
 refine⟨_,hrun,?_⟩
 have c:=cZ.setRow w b us (us.toList.take (l.1+i*t.size+off)++v.cells.toList++us.toList.drop (l.1+i*t.size+off+v.cells.size)).toArray E hh
  (by simp only[qU,bM,eM,gw,fC];omega)
 have x:dM A env w A env (w.setRow b (us.toList.take (l.1+i*t.size+off)++v.cells.toList++us.toList.drop (l.1+i*t.size+off+v.cells.size)).toArray) :=
  m.xt c (λk hk=>⟨_,_,_,hl,hm0,hk▸he⟩) λ_ _=>rfl
 have cellAt:∀ p,(us.toList.take (l.1+i*t.size+off)++v.cells.toList++us.toList.drop (l.1+i*t.size+off+v.cells.size)).toArray[p]? =
   if p<l.1+i*t.size+off then us[p]? else if p<l.1+i*t.size+off+be vs then v.cells[p-(l.1+i*t.size+off)]? else us[p]? := by
  intro p;rw[ci2,fV,ce1];simp only[eM,fC];rw[show min (l.1+i*t.size+off) us.size=l.1+i*t.size+off from by omega];split
  next hp=>rw[wE,aj hp,mO]
  .rename_i hp;rw[ce1];simp only[fC,hsv];by_cases h2:p<l.1+i*t.size+off+be vs
   .rw[aj ab,aj h2,mO]
   .rw[ah ab,ah h2,wp,mO];congr 1;omega
 have hblk:kv A env (w.setRow b (us.toList.take (l.1+i*t.size+off)++v.cells.toList++us.toList.drop (l.1+i*t.size+off+v.cells.size)).toArray) b l (.opn E t xs i (qQ cs off vs)):=by
  refine⟨_,cap,es.take off++(v.cells.toList++es.drop (off+be v.cells.toList)),hh.setRow (by simp only[qU,bM,eM,gw,fC];omega),?_,hxl,hlc,hcm,hi,?_,λq hq=>?_,BL x _ _ (Fv hed dv),λj hj hij=>?_⟩
  .simp only[qU,bM,eM,gw,fC];omega
  .simp only[bM,eM,gw,fC];omega
  .rw[cellAt];have hecq:=hec q hq;rw[ce1];simp only[eM,hes];rw[show min off t.size=off from by omega];by_cases c1:q<off
   .rw[aj ab,aj c1,wE,aj c1,hecq]
   .rw[ah ab,ah c1,ce1];simp only[fC,hsv];by_cases c2:q<off+be vs
    .rw[aj ab,aj ab,mO];congr 1;omega
    .rw[ah ab,ah ab,wp,hecq];congr 1;omega
  .refine iQ (λ_ h=>h) x.keep t _ _ _ _ (λq hq=>?_) (hrd j hj hij);rw[cellAt];obtain hlt|hlt:=Nat.lt_or_gt_of_ne hij
   .have:=M2 (k:=t.size) hlt;rw[aj ab]
   .have:=M2 (k:=t.size) hlt;rw[ah ab,ah ab]
 have u:=lP.write (b' := .opn E t xs i (qQ cs off vs)) m hl hm0 he c hblk rfl
 exact⟨(),A,env,aP,m.upd u,m.ext u,by simp only[Dl.val,aA]⟩
theorem af6(m:Mod w0 N0 A env h w)(f:FD A env w ρ a){ty:bZ8}{x y:cb3}(G:o.op = .store ty x y)
  (e:(LR P ty (bc ρ x) (bc ρ y)).run h=bZ1 (d,r)) (hp:bQ d.pre):bH P o a w0 N0 A env h w d:=by
 have M:=dC f x
 have N:=dC f y
 have O:∀{b off:Nat}{v:ca8},a.eval x = .pointer (bZ1 ⟨b,off,bZ9⟩)->(storeVar ty ⟨b,off,bZ9⟩ (a.eval y)).run P w = .ok () v->(cb0 a.eval o).run P w = .ok .skip v:=by
  intro b off v ev D;unfold cb0;rw[G];simp only[ev,cz3,ce0,ca6,cb1,ca3,D]
 unfold LR at e
 split at e
 next n sz i off hx=>
  rw[hx] at M;have ⟨b,l,H,I,ev⟩:=M;rw[← gG] at ev;simp only[Q.run] at e;split at e
  .rename_i p q hk;obtain⟨rfl,rfl⟩:=e;split at hk
   .rename_i E t xs j cs hl;split at hk
    .rename_i vs k hc J;have ⟨F,K⟩:=Gc hc N;have z:=jb F;split at hk
     .rename_i B c s;have B:=bK B;have c:=bK c;have s:=md s;subst c;cases cA hk;have L:=hp.1;subst L;have C:f9 P ty=bZ1 (a.eval y).cells.size:=by rw[J,B,← z,fC]
      have ⟨v,D,g⟩:=W0 m hl rfl H (m.live_blk hl H).1 F K C s;have ⟨u,A',env',q1,q2,q3,q4⟩:=g;exact⟨undef,v,.inr ⟨O ev D,rfl⟩,u,A',env',q1,q2,q3,q4⟩
     .cases hk
    .cases hk
   .rename_i E t xs hl;split at hk
    .rename_i vs k hc J;split at hk
     .have ⟨F,K⟩:=Gc hc N;have z:=jb F;split at hk
      .rename_i B c s;have B:=bK B;have c:=bK c;have s:=md s;subst c;cases cA hk;have C:f9 P ty=bZ1 (a.eval y).cells.size:=by rw[J,B,← z,fC]
       have ⟨v,D,g⟩:=W0 m hl rfl H (bP0 (m.live_blk hl H).1 I) F K C s;exact⟨undef,v,.inr ⟨O ev D,rfl⟩,g⟩
      .cases hk
     .exact He m f G (by rw[hx];exact hk)
    .cases hk
   .exact He m f G (by rw[hx];exact hk)
  .cases e
 .exact He m f G e
theorem H7(m:Mod w0 N0 A env h w):∀(cs:List SV){u:List (Nat×Nm)}{r:List Nat},(CX cs).run h=bZ1 (u,r)→∃ A',Mod w0 N0 A' env (dJ u h) w/\dM A env w A' env w
 | [],u,r,e=>by
  obtain⟨rfl,rfl⟩:=e;exact⟨A,m,dM.refl⟩
 | s::cs,u,r,e=>by
  unfold CX at e;split at e
  next hh=>cases hh
  .rename_i n sz rr hh;cases hh;simp only[Q.run] at e;split at e
   .rename_i p q hk;obtain⟨rfl,rfl⟩:=e;split at hk
    .rename_i E t xs i es hl;obtain⟨⟨j,rest,fz⟩,B,r2,C,o,rfl⟩:=Q.run_bind _ _ _ hk;simp only at o;split at o
     .rename_i hr c;obtain⟨rfl,rfl⟩:=o;have c:=DO c;have f:=m.nm n;rw[hl] at f;obtain⟨k,l,he,a,hA⟩|⟨_,E',t',a⟩:=f
      .have ⟨us,cap,ws,hh,hus,hxl,hlc,hcm,hi,hes,hec,v,hrd⟩:=id a;have ⟨ok,_⟩:=wA m t _ _ j [] fz B C v (A':=jc A env fz) (λb a=>.inl a) (λk d=>.inr d);have ⟨x,x2⟩:=m.freeze ok;have y:dJ fz h n = .live (.opn E t xs i es):=by rw[qo c];exact hl
       have g:=aj8 (λb a=>.inl a) a (λvs hvs z =>
        (wA m t _ _ j [] fz B C z (A':=jc A env fz) (λb a=>.inl a) (λk d=>.inr d)).2.2.2.1)
       have u:=lP.write (b' := .row E t (xs.set i j)) x y rfl he (cZ.refl w _) g rfl;exact⟨jc A env fz,x.upd u,x2.trans (x.ext u)⟩
      .simp_all
     .cases o
    .exact H7 m cs hk
   .cases e
  next hh=>cases hh;exact H7 m cs e
theorem bp8(m:Mod w0 N0 A env h w){ty:bZ8}{x:cb3}(φ:cb3->SV)(f:aA A env w (φ x) (a.eval x))(ho:o.op = .load ty x)
  (e:(LY P ty (φ x)).run h=bZ1 (d,r)):bH P o a w0 N0 A env h w d:=by
 have go:∀{b off:Nat}{v:ca2},a.eval x = .pointer (bZ1 ⟨b,off,bZ9⟩)->(loadVar ty ⟨b,off,bZ9⟩).run P w = .ok v w->(cb0 a.eval o).run P w = .ok (.value v) w:=by
  intro b off v ev c;unfold cb0;rw[ho];simp only[ev,cq7,ce0,ca6,cb1,ca3,c]
 unfold LY at e
 split at e
 next n off hx=>
  rw[hx] at f;have ⟨b,l,he,ev⟩:=f;simp only[Q.run] at e;split at e
  .rename_i p q hk;obtain⟨rfl,rfl⟩:=e;split at hk
   .rename_i E cs hl;split at hk
    next s e1=>obtain⟨u,r1,r2,e2,e3,rfl⟩:=Q.run_bind _ _ _ hk;cases cA e3;have ⟨⟨vs,hh,hd⟩,_⟩:=m.live_blk hl he;obtain⟨v,c,hv⟩:=Be (o:=0) e1 hd (λj hj=>by rw[cm9 w b _ vs E (0,0) hh];simp);rw[gJ] at c;have ⟨A',m',g⟩:=H7 m cs e2;exact⟨v,w,.inl (go ev c),(),A',env,aP,m',g,Dy g _ _ hv⟩
    .cases hk
   .cases hk
  .cases e
 .cases e
end
end Go.SX
namespace Go.SX
def EC(P:ca7)(E:bZ8):Option (cb7×Nat):=match P.underlying E with
 | some (.array n e)=>match P.underlying e,f9 P e,cd9 16 n with
  | some (.int k),bZ1 1,bZ3=>bZ1 (k,n)
  | _,_,_=>bZ9
 | _=>bZ9
def KQ(k:cb7):List SV->Nat->Bool
 | [],0=>bZ3
 | .int k' z::r,n+1=>jW k k'&&bZ2 (z=0)&&KQ k r n
 | _,_=>bZ6
def ints:(t:CT)->t.D->ad
 | .int _,n=>[n]
 | .pair a b,d=>ints a d.1++ints b d.2
 | _,_=>[]
def IB(k:cb7):CT->Bool
 | .int k'=>jW k k'
 | .pair a b=>IB k a&&IB k b
 | _=>bZ6
def Qw(P:ca7)(E:bZ8)(nm:Nat):Q Dl:=match EC P E,zeroCells P E with
 | some (k,n),bZ1 cs=>match KQ k cs n with
  | true => .ask nm fun
   | .un => .ret (.det [] (.ptr nm 0) [(nm,.live (.ary E k n (replicate n 0)))])
   | _ => .fail
  | false => .fail
 | _,cs=>DX E nm cs
def Pu(P:ca7)(t:bZ8)(x i:SV):Q Dl:=match x,i,EC P t with
 | .ptr m 0,.int _ iv,bZ1 (_,n) => .ask m fun
  | .live (.ary ..) => .ret (.det [0<=iv,iv<n] (.ptr m (it iv)) [])
  | _=>Hl P t x i
 | _,_,_=>Hl P t x i
def P6(P:ca7)(ty:bZ8)(off:Nat)(k:cb7)(n:Nat)(xs:ad):Q Dl:=match P.underlying ty with
 | some (.int _) => .ret (.det [off<n] (.int k (Om xs off 0)) [])
 | some (.array _ _)=>match off,f9 P ty with
  | 0,bZ1 m=>match ca0 m n with
   | true=>cY (.arr k n xs)
   | false => .fail
  | _,_ => .fail
 | _ => .fail
def LW(P:ca7)(ty:bZ8)(x:SV):Q Dl:=match x with
 | .ptr n off => .ask n fun
  | .live (.ary E k n xs)=>P6 P ty off k n xs
  | _=>xY P ty (.ptr n off)
 | .dptr t d off=>match EC P ty,off with
  | some (k,n),0=>match IB k t,f9 P ty with
   | true,bZ1 m=>match ca0 m t.size with
    | true=>cY (.arr k t.size (ints t d))
    | false => .fail
   | _,_ => .fail
  | _,_=>xY P ty (.dptr t d off)
 | x=>xY P ty x
def Kh(k:cb7):List SV->Option ad
 | []=>bZ1 []
 | .int k' n::r=>match jW k k',Kh k r with
  | true,bZ1 l=>bZ1 (n::l)
  | _,_=>bZ9
 | _=>bZ9
def LU(k:cb7)(y:SV):SV:=match y with
 | .agg cs=>match Kh k cs with
  | some ys => .arr k (be ys) ys
  | none=>y
 | y=>y
def OY(P:ca7)(ty:bZ8)(x y:SV):Q Dl:=match x with
 | .ptr n off => .ask n fun
  | .live (.ary E k l xs)=>match LU k y,f9 P ty with
   | .int k' v,bZ1 1=>match jW k k' with
    | true => .ret (.det [off<l] (.cv undef) [(n,.live (.ary E k l (xs.set off v)))])
    | false => .fail
   | .arr k' l' ys,bZ1 m=>match jW k k',off,ca0 l l',ca0 l m with
    | true,0,bZ3,bZ3 => .ret (.det [] (.cv undef) [(n,.live (.ary E k l ys))])
    | _,_,_,_ => .fail
   | _,_ => .fail
  | _=>BR P ty (.ptr n off) y
 | x=>BR P ty x y
def QM(P:ca7)(t:bZ8)(x i:SV):Q Dl:=match x,i,P.underlying t with
 | .arr k n xs,.int _ i,bZ1 (.array len e)=>match P.underlying e,f9 P e,ca0 n len with
  | some (.int _),bZ1 1,bZ3 => .ret (.det [0<=i,i<len] (.int k (pickI xs (it i))) [])
  | _,_,_ => .fail
 | x,i,_=>O8 P t x i
def OK(P:ca7)(t:bZ8)(x:SV)(lo hi mx:Option SV):Q Dl:=match x,lo,hi,mx,EC P t with
 | .ptr n 0,bZ9,bZ9,bZ9,bZ1 (k,len) => .ask n fun
  | .live (.ary E k' l xs)=>match ca0 l len,cd9 len cb2 with
   | true,bZ3 => .ret (.det [] (.dsl (.int k') xs) [(n,.live (.frz E (.int k') xs))])
   | _,_ => .fail
  | _ => .fail
 | x,lo,hi,mx,_=>Of P t x lo hi mx
section
variable {P:ca7} {w0:ca8} {N0:fI} {A:Nat->Prop} {env:bi} {h:bZ} {w:ca8} {o:Oper} {a:Act} {ρ:Nat->SV} {d:Dl} {r:List Nat}
theorem Qk{E:bZ8}{k:cb7}{n:Nat}(e:EC P E=bZ1 (k,n)):∃ u,P.underlying E=bZ1 (.array n u)/\P.underlying u=bZ1 (.int k)/\f9 P u=bZ1 1:=by
 unfold EC at e
 grind
theorem V5{k:cb7}:∀{cs:List SV}{n:Nat},KQ k cs n=bZ3->cs=(replicate n (0:Int)).map (.int k)
 | [],0,_=>rfl
 | .int k' z::r,n+1,h=>by
  simp only[KQ,fx,rF] at h;obtain⟨⟨a,rfl⟩,h2⟩:=h;have a:=j6 a;subst a;rw[List.replicate_succ,fF,← V5 h2]
theorem Hy{k:cb7}:∀{t:CT}{d:t.D},IB k t=bZ3->cF t d=(ints t d).map (.int k)
 | .int k',d,h=>by simp only[cF,ints,cg4];rw[j6 h]
 | .pair a b,d,h=>by
  obtain⟨h1,h2⟩:=Bool.and_eq_true_iff.1 h;simp only[cF,ints,kJ,Hy h1,Hy h2]
theorem yA{k:cb7}:∀{xs:ad}{vs:List ca2},aM A env w (xs.map (.int k)) vs->vs=xs.map (ch1 k)∧∀ x∈xs,k.has x
 | [],vs,h=>⟨h,az⟩
 | x::xs,vs,h=>by
  obtain⟨v,r,rfl,⟨rfl,h1⟩,h2⟩:=h;obtain⟨rfl,h3⟩:=yA h2;simp_all
theorem NA{k:cb7}:∀{xs:ad},(∀ x∈xs,k.has x)->aM A env w (xs.map (.int k)) (xs.map (ch1 k))
 | [],_=>rfl
 | x::xs,h=>⟨_,_,rfl,by simp only[aA];exact⟨aP,h x (eV ..)⟩,NA λy hy=>h y (fu _ hy)⟩
theorem Gf{n:Nat}{k:Nm->Q Dl}(e:(Q.ask n k).run h=bZ1 (d,r)):∃ q,(k (h n)).run h=bZ1 (d,q):=by
 simp only[Q.run] at e
 grind
theorem aL1(m:Mod w0 N0 A env h w){E:bZ8}{nm:Nat}(f:o.op = .alloc E)(e:(Qw P E nm).run h=bZ1 (d,r)):bH P o a w0 N0 A env h w d:=by
 unfold Qw at e
 split at e
 next k n cs ha hc=>
  split at e
  .rename_i hz;have ⟨q,e⟩:=Gf e;split at e
   .rename_i b;cases cA e;obtain⟨i,z,hi,c,g,h2⟩:=Bj hc;rw[V5 hz] at g;refine⟨_,_,.inl ?_,fb.fresh m b (v := .pointer (bZ1 ⟨w.heap.size,0,bZ9⟩)) (w':=w.alloc (.cells z.cells E)) rfl w.heap.size (dq _) (cZ.alloc w _ _) (λx=>⟨rfl,az,_,heap_alloc_new w _,BL x _ _ g⟩) ?_⟩
    .unfold cb0;rw[f];simp[Instr.alloc,zeroValue,typeInfo,hi,c,newVar,newRow]
    .exact⟨_,_,bi.set_same _ _ _,rfl⟩
   .cases e
  .cases e
 next cs hn=>exact bF6 m f e
theorem bo6(m:Mod w0 N0 A env h w)(f:FD A env w ρ a){t:bZ8}{x i:cb3}(φ:cb3->SV)(c:aA A env w (φ x) (a.eval x))(g:o.op = .indexAddr t x i)
  (e:(Pu P t (φ x) (bc ρ i)).run h=bZ1 (d,r)) (j:bQ d.pre):bH P o a w0 N0 A env h w d:=by
 have p:=dC f i
 unfold Pu at e
 split at e
 next m' k iv k' n hx hi ha=>
  have ⟨q,e⟩:=Gf e;split at e
  .cases cA e;have ⟨u,hu,_,hs⟩:=Qk ha;rw[hx] at c;rw[hi] at p;simp only[Dl.pre,bQ,g7] at j;have ⟨b,l,he,ev⟩:=c;refine bH.pure m ?_ (by simp only[aA];exact⟨b,l,he,rfl⟩);unfold cb0;rw[g];simp[cz1,ce0,ev,p.1,asIntOf,run_underlying hu,kT hs,j.1,j.2,cd4]
  .exact TZ m f φ c g e
 .exact TZ m f φ c g e
theorem aW8{k:cb7}{xs:ad}{off:Nat}(h:off<be xs):pj (xs.map (SV.int k)) off=bZ1 (.int k (Om xs off 0)):=by
 rw[xu,ce9,cG h,cq,cG h];rfl
theorem a54{ty:bZ8}{off:Nat}{k:cb7}{n:Nat}{xs:ad}(hn:be xs=n)(e:(P6 P ty off k n xs).run h=bZ1 (d,r))(hp:bQ d.pre):∃ s b,d = .det (d.pre) s []/\mU P ty (xs.map (.int k)) off=bZ1 b∧∀ v,aA A env w b v->aA A env w s v:=by
 unfold P6 at e
 split at e
 next c=>cases cA e;simp only[Dl.pre,bQ,g7] at hp;exact⟨_,_,rfl,by unfold mU sG;rw[c];exact aW8 ab,λv h=>h⟩
 next n u c=>
  split at e
  .rename_i mm hs;split at e
   case h_2=>cases e
   rename_i a;have a:=bK a;cases cA e;refine⟨_,.agg (xs.map (.int k)),rfl,?_,λv f=>?_⟩
   .unfold mU sG;have:cd9 (0+mm) (be (xs.map (SV.int k)))=true:=by rw[cD9];simp;omega
    grind
   .simp only[aA] at f ⊢;obtain⟨vs,rfl,hd⟩:=f;have ⟨h1,h2⟩:=yA hd;exact⟨by rw[← h1],hn,h2⟩
  .cases e
 .cases e
theorem aQ6(m:Mod w0 N0 A env h w){ty:bZ8}{x:cb3}(φ:cb3->SV)(c:aA A env w (φ x) (a.eval x))(i:o.op = .load ty x)
  (e:(LW P ty (φ x)).run h=bZ1 (d,r)) (hp:bQ d.pre):bH P o a w0 N0 A env h w d:=by
 have go:∀{b off:Nat}{v:ca2},a.eval x = .pointer (bZ1 ⟨b,off,bZ9⟩)->(loadVar ty ⟨b,off,bZ9⟩).run P w = .ok v w->(cb0 a.eval o).run P w = .ok (.value v) w:=by
  intro b off v ev f;unfold cb0;rw[i];simp only[ev,cq7,ce0,ca6,cb1,ca3,f]
 unfold LW at e
 split at e
 next n off hx=>
  have ⟨q,e⟩:=Gf e;split at e
  next E k n xs hl=>rw[hx] at c;have ⟨b,l,he,ev⟩:=c;have ⟨⟨_,hn,vs,hh,g⟩,_⟩:=m.live_blk hl he;obtain⟨s,s',y,z,h3⟩:=a54 hn e hp;obtain⟨v,f,hv⟩:=Be (o:=0) z g (λj hj=>by rw[cm9 w b _ vs E (0,0) hh];simp);rw[gJ] at f;rw[y];exact bH.pure m (go ev f) (h3 v hv)
  .exact Ej m φ c i (by rw[hx];exact e)
 next t p off hx=>
  split at e
  .rename_i k n ha;split at e
   .rename_i C ht hs;split at e
    .rename_i B;cases cA e;have ⟨u,hu,hk,hs1⟩:=Qk ha;have B:=bK B;have hlen:be (cF t p)=C:=by rw[yY,B]
     have e2:(xY P ty (φ x)).run h=bZ1 (.det [] (.agg (cF t p)) [],[]):=by
      rw[hx];unfold xY mU sG;rw[hu];simp only[hs];have:cd9 (0+C) (be (cF t p))=true:=by rw[cD9];omega
      rw[this];simp;rw[gN ab];rfl
     have ⟨v,w',f,x0,A',env',hR,m',x',g⟩:=Ej m φ c i e2;refine⟨v,w',f,(),A',env',aP,m',x',?_⟩;obtain⟨vs,rfl,g⟩:=g;rw[Hy ht] at g;have ⟨y,z⟩:=yA g;exact⟨by rw[← y],by rw[← yY t p,Hy ht];simp,z⟩
    .cases e
   .cases e
  .exact Ej m φ c i (by rw[hx];exact e)
 .exact Ej m φ c i e
theorem bS9{k:cb7}{xs:ad}{off:Nat}{v:Int}(h:off<be xs):qQ (xs.map (SV.int k)) off [.int k v]=(xs.set off v).map (.int k):=by
 rw[List.map_set,List.set_eq_take_append_cons_drop,aj (by simpa using h)]
 rfl
theorem Mod.re(m:Mod w0 N0 A env h w){n:Nat}{b b':kG}(d:h n = .live b)(hm:b.mut=bZ3)(a:b'.mut=bZ3)(hn:env n ≠ .nil)(hb:∀ k len,kv A env w k len b->kv A env w k len b'):Mod w0 N0 A env (h.set n (.live b')) w:=by
 have:=m.nm n
 rw[d] at this
 obtain⟨k,l,c,hk,hA⟩|⟨c,_⟩:=this
 .exact m.upd (lP.write m d hm c (cZ.refl w _) (hb k l hk) a)
 .exact absurd c hn
theorem set_set(h:bZ)(n:Nat)(x y:Nm):(h.set n x).set n y=h.set n y:=by
 funext q;unfold bZ.set;split <;> rfl
theorem Xv{k:cb7}:∀{cs:List SV}{ys:ad},Kh k cs=bZ1 ys->cs=ys.map (.int k)
 | [],ys,e=>by cases e;rfl
 | c::r,ys,e=>by
  unfold Kh at e;split at e
  next h=>cases h
  .rename_i k' n r' h;cases h;split at e
   next l h1 h2=>cases e;rw[Xv h2,j6 h1];rfl
   .cases e
  .cases e
theorem ag4{k:cb7}{y:SV}{v:ca2}(d:aA A env w y v):aA A env w (LU k y) v:=by
 unfold LU
 split
 .split
  next cs ys e=>rw[Xv e] at d;simp only[aA] at d ⊢;obtain⟨vs,rfl,d⟩:=d;have ⟨h1,h2⟩:=yA d;exact⟨by rw[← h1],aP,h2⟩
  .exact d
 .exact d
theorem a83(m:Mod w0 N0 A env h w)(f:FD A env w ρ a){ty:bZ8}{x y:cb3}(ho:o.op = .store ty x y)
  (e:(OY P ty (bc ρ x) (bc ρ y)).run h=bZ1 (d,r)) (hp:bQ d.pre):bH P o a w0 N0 A env h w d:=by
 unfold OY at e
 split at e
 next n off hx=>
  have ⟨q,e⟩:=Gf e;split at e
  .rename_i E k len xs hl;have dx:=dC f x;have dy:=ag4 (k:=k) (dC f y);rw[hx] at dx;simp only[aA] at dx;have ⟨b,l,he,ev⟩:=dx;have ⟨⟨hlen,hxl,us,hh,hd⟩,_⟩:=m.live_blk hl he;have hlu:=jb hd;have key:∀(vs:List SV)(zs:ad),aM A env w vs (a.eval y).cells.toList->(∀ v∈(a.eval y).cells.toList,v.oneCell'=bZ3)->f9 P ty=bZ1 (be vs)->off+be vs<=be xs->qQ (xs.map (SV.int k)) off vs=zs.map (.int k)->be zs=be xs →
     bH P o a w0 N0 A env h w (.det d.pre (.cv undef) [(n,.live (.ary E k len zs))]):=by
    intro vs zs dv h1 hs hle hset hz;have hlv:=jb dv;have hsz:f9 P ty=bZ1 (a.eval y).cells.size:=by rw[hs,← hlv,fC]
    have hfit:off+(a.eval y).cells.size<=us.size:=by rw[← fC,hlv,← fC,hlu];simpa using hle
    have hrun:=Hs (.of (q:=True) hh) hsz hfit h1;have hdR:=Fv (off:=off) hd dv;rw[hset] at hdR;have c:=cZ.setRow w b us (us.toList.take off++(a.eval y).cells.toList++us.toList.drop (off+(a.eval y).cells.size)).toArray E (.of (q:=True) hh)
     (by simp only[qU,bM,eM,gw,fC];omega)
    have x:dM A env w A env (w.setRow b (us.toList.take off++(a.eval y).cells.toList++us.toList.drop (off+(a.eval y).cells.size)).toArray) :=
     m.xt c (λk hk=>⟨_,_,_,hl,rfl,hk▸he⟩) λ_ _=>rfl
    have u:=lP.write (b' := .ary E k len zs) m hl rfl he c ⟨hlen,hz.trans hxl,_,setRow_heap w b us _ E _ hh,by
     have:=BL x _ _ hdR;simpa[fV] using this⟩ rfl
    refine⟨undef,_,.inr ⟨?_,rfl⟩,(),A,env,aP,m.upd u,m.ext u,by simp only[Dl.val,aA]⟩;unfold cb0;rw[ho];simp only[ev,cz3,ce0,ca6,cb1,ca3,hrun]
   split at e
   .rename_i k' v hy hs;split at e
    next hk=>have hk:=j6 hk;subst hk;cases cA e;simp only[Dl.pre,bQ,g7] at hp;rw[hy] at dy;simp only[aA] at dy;refine key [.int k v] (xs.set off v) (by rw[dy.1];simp only[cn9,aM,aA];exact⟨_,_,rfl,⟨rfl,dy.2⟩,rfl⟩) (by rw[dy.1];simp[cn9,cy4]) hs (by simp;omega) (bS9 ab) az
    .cases e
   .rename_i k' len' ys mm hy hs;split at e
    next hk h1 h2 _=>have hk:=j6 hk;have h1:=bK h1;have h2:=bK h2;subst hk;cases cA e;simp only[Dl.pre,bQ,g7] at hp;rw[hy] at dy;simp only[aA] at dy;refine key (ys.map (.int k)) ys (by rw[dy.1];simpa[cn9] using NA dy.2.2) (by rw[dy.1];simp[cn9,cy4]) (by rw[hs];simp[dy.2.1];omega) (by simp;omega) ?_ ab;unfold qQ;simp;omega
    .cases e
   .cases e
  .exact He m f ho (by rw[hx];exact e)
 .exact He m f ho e
theorem bN8(m:Mod w0 N0 A env h w)(f:FD A env w ρ a){t:bZ8}{x:cb3}{y g z:Option cb3}(G:o.op = .slice t x y g z)
  (e:(OK P t (bc ρ x) (y.map (bc ρ)) (g.map (bc ρ)) (z.map (bc ρ))).run h=bZ1 (d,r)) (hp:bQ d.pre):bH P o a w0 N0 A env h w d:=by
 unfold OK at e
 split at e
 next n k len hx H I J ha=>
  have ⟨q,e⟩:=Gf e;split at e
  .rename_i E k' l' xs hl;split at e
   case h_2=>cases e
   rename_i p c;cases cA e;have p:=bK p;have c:=md c;have H:y=none:=by cases y <;> simp_all
   have I:g=none:=by cases g <;> simp_all
   have J:z=none:=by cases z <;> simp_all
   subst H I J;have K:=dC f x;rw[hx] at K;have ⟨b,l,B,ev⟩:=K;have ⟨⟨hlen,s,us,hh,C⟩,_⟩:=m.live_blk hl B;rw[p] at s;have ⟨e1,e2⟩:=yA C;have ⟨u,hu,_,hs⟩:=Qk ha;have m1:=m.re (b' := .row E (.int k') xs) hl rfl rfl (by rw[B];simp) λj ln hb=>by
    have ⟨D,_,vs,hv,C⟩:=hb;subst D;have ⟨L,e4⟩:=yA C;refine⟨vs,be xs,.of hv,by rw[← fC,L];simp[CT.size],ab,by simp;omega,ab,λi g=>?_⟩;simp only[Rd,CT.size];refine⟨?_,e4 _ (cc3 g)⟩;rw[gJ,co5,← mO,L,ce9,cG g];rfl
   have fz:pJ (h.set n (.live (.row E (.int k') xs))) [(n,.live (.frz E (.int k') xs))]:=λq bb hq=>by
    simp_all
   have ⟨M,x2⟩:=m1.freeze fz;have v:dJ [(n,.live (.frz E (.int k') xs))] (h.set n (.live (.row E (.int k') xs)))=h.set n (.live (.frz E (.int k') xs)):=by
    simp only[dJ,set_set]
   rw[v] at M;refine⟨.slice (bZ1 ⟨b,0,bZ9⟩) len len,w,.inl ?_,(),_,env,aP,M,x2,?_⟩
   .unfold cb0;rw[G];have F:(cj3 bZ6 len len bZ9 bZ9 bZ9).run P w = .ok (0,len,len) w:=by
     simp[cj3,cb1]
    simp only[cm0,ca6,run_underlying hu,ca3,ev,ce0,cb1,ch6,F,kT hs];by_cases q:len=0
    .simp[q]
    .simp[q,cd4]
   .simp only[Dl.val,aA];refine⟨ab,.inr ⟨b,0,len,by rw[s],ab,c,.inr ⟨n,_,_,kY.2 rfl,B⟩,λi g=>?_⟩⟩;simp only[Rd,CT.size];refine⟨?_,e2 _ (cc3 g)⟩;rw[cm9 w b _ us E (0,0) hh,gJ,co5,← mO,e1,ce9,cG g];rfl
  .cases e
 .exact bx6 m f G e hp
theorem Hc.freeze{w:ca8}{k:Nat}{vs:Array ca2}{E:bZ8}(h:Hc True w k vs E):Hc True (w.freeze ⟨k,vs.size,bZ9⟩ 1) k vs E:=by
 have ⟨⟨a,b⟩,h,hq⟩:=h
 refine⟨if a == b then (vs.size,vs.size+1) else (min a vs.size,max b (vs.size+1)),?_,.inr ⟨aP,?_⟩⟩
 .unfold cm6;grind
 .grind
def ML(P:ca7)(s t e:bZ8)(v:SV):Q Dl:=match v with
 | .own n sz => .ask n λb=>match b with
  | .live (.row E (.int .u8) xs)=>match ca0 s t,P.underlying e with
   | true,bZ1 (.int .u8) => .ret (.det [1<=be xs] (.own n sz) [(n,.live (.row E (.int .u8) xs))])
   | _,_ => .fail
  | _ => .fail
 | _ => .fail
theorem bt3(m:Mod w0 N0 A env h w)(f:FD A env w ρ a){s t D:bZ8}{x:cb3}(ho:o.op = .convert s t x)(ht:P.underlying t=bZ1 (.slice D))
  (e:(ML P s t D (bc ρ x)).run h=bZ1 (d,r)) (F:bQ d.pre):bH P o a w0 N0 A env h w d:=by
 have G:=dC f x
 unfold ML at e
 split at e
 case h_2=>cases e
 rename_i n sz hx
 rw[hx] at G
 simp only[Q.run] at e
 split at e
 case h_2=>cases e
 rename_i p q y
 obtain⟨rfl,rfl⟩:=e
 split at y
 case h_2=>cases y
 rename_i E xs C
 split at y
 case h_2=>cases y
 rename_i z he
 cases cA y
 have z:=bK z
 subst z
 simp only[Dl.pre,bQ,g7] at F
 obtain⟨hnil,_⟩|⟨k,l,E2,c,v,hsh,ev⟩:=G
 .have:=m.nm n;rw[C] at this;obtain⟨k',l',he',_⟩|⟨_,E3,t3,v⟩:=this
  .simp_all
  .obtain v|v:=v <;> cases v;simp at F
 have ⟨vs,cap,hh,h1,h2,h3,h4,h5⟩:=(m.live_blk C v).1
 have hh:Hc True w k vs E:=let ⟨f,g,q⟩:=hh;⟨f,g,q.imp id λq=>⟨aP,q.2⟩⟩
 have H:=hh.freeze
 have b:∀ j,(w.freeze ⟨k,vs.size,bZ9⟩ 1).shape? j=w.shape? j:=λj=>by
  by_cases I:j=k
  .subst I;rw[H.shape,hh.shape]
  .unfold cc7 cm6;grind
 have c:cZ w (w.freeze ⟨k,vs.size,bZ9⟩ 1) λj=>j=k:=by
  refine⟨rfl,rfl,rfl,dq _,by unfold cm6;simp,λj _ I=>?_,λj s hs=>by rw[b];exact hs⟩;unfold cm6;grind
 have xx:=m.xt c (λk y=>⟨_,_,_,C,rfl,y▸v⟩) λ_ _=>rfl
 have u:=lP.write (b' := .row E (.int .u8) xs) m C rfl v c ⟨vs,cap,let ⟨f,g,q⟩:=H;⟨f,g,q.imp id λq=>⟨rfl,q.2⟩⟩,h1,h2,h3,h4,λi hi=>iQ (λ_ h=>h) xx.keep _ _ _ _ _ (λ_ _=>rfl) (h5 i hi)⟩ rfl
 refine⟨a.eval x,_,.inl ?_,(),A,env,aP,m.upd u,m.ext u,?_⟩
 .unfold cb0;rw[ho];have B:=hh.shape;simp[convert,ev,run_underlying ht,run_underlying he,markStringish,B]
 .simp only[Dl.val,aA,b];grind
end
end Go.SX
namespace Go.SX
section
variable {P:ca7} {w0:ca8} {N0:fI} {A:Nat->Prop} {env:bi} {h:bZ} {w:ca8} {o:Oper} {a:Act} {ρ:Nat->SV} {d:Dl} {r:List Nat}
theorem EK{k:cb7}{a:Nat}(b:1<=a):∀(cs:List SV)(vs:List ca2)(s:Nat)(l:ad),wZ k a cs s=bZ1 l->aM A env w cs vs →
  ∀ j,s+j*a<be vs->vs[s+j*a]? = bZ1 (.int k (pickI l j))/\k.has (pickI l j)
 | c::cs,vs,0,l,e,f,j,d=>by
  obtain⟨v,r,rfl,hv,g⟩:=f;cases c with
  | int k' n =>
   simp only[wZ] at e;split at e
   .rename_i l' hk hl;cases e;cases j6 hk;cases j with
    | zero=>simp[pickI,hv.1,hv.2]
    | succ j =>
     have:=EK b cs r (a-1) l' hl g j (by simp at d;rw[fY] at d;omega);have e1:0+(j+1)*a=(a-1+j*a)+1:=by rw[fY];omega
     rw[e1,List.getElem?_cons_succ];simpa[pickI] using this
   .cases e
  | _=>simp[wZ] at e
 | c::cs,vs,s+1,l,e,f,j,d=>by
  obtain⟨v,r,rfl,hv,g⟩:=f;have e':wZ k a cs s=bZ1 l:=by cases c <;> simpa[wZ] using e
  have:=EK b cs r s l e' g j (by simp at d;omega);grind
theorem a84(m:Mod w0 N0 A env h w)(f:FD A env w ρ a){t:bZ8}{x i:cb3}(ho:o.op = .index t x i)
  (e:(O8 P t (bc ρ x) (bc ρ i)).run h=bZ1 (d,r)) (hp:bQ d.pre):bH P o a w0 N0 A env h w d:=by
 have u:=dC f x
 have y:=dC f i
 unfold O8 at e
 split at e
 next cs ki b len E hx hi hu=>
  rw[hx] at u;rw[hi] at y;have ⟨vs,ev,j⟩:=u;have hvl:=jb j;have c:∀{v:ca2}{n:Nat},f9 P E=bZ1 n->0<=b->b<len->(part E vs (it b*n)).run P w = .ok v w->(cb0 a.eval o).run P w = .ok (.value v) w:=by
   intro v n hn h0 h1 hr;unfold cb0;rw[ho];simp only[cs8,y.1,ev,asIntOf,ca6,cb1,ca3,run_underlying hu,cu3,aj (cu4 h0 h1),kT hn,hr]
  split at e
  .rename_i k hE hsz;split at e
   .rename_i l hc g;have g:=bK g;cases cA e;simp only[Dl.pre,bQ,g7] at hp;have ⟨z,c2⟩:=EK (dq 1) cs vs.toList 0 l hc j (it b) ab;refine bH.pure m (c hsz hp.1 hp.2 (v := .int k (pickI l (it b))) ?_) (by simp only[aA];exact⟨aP,c2⟩);have p:sG P E=bZ1 false:=by unfold sG;rw[hE]
    have q:vs[it b]? = bZ1 (.int k (pickI l (it b))):=by rw[← mO];simpa using z
    unfold part;simp[ca6,Es p w,q]
   .cases e
  .rename_i E2 hE hsz;split at e
   .rename_i k hE2 hsz2;split at e
    .rename_i B l2 hc1 hc2 g;have g:=bK g;cases cA e;simp only[Dl.pre,bQ,g7] at hp;have ⟨z,c2⟩:=EK aB cs vs.toList 0 B hc1 j (it b) ab;have ⟨c3,c4⟩:=EK aB cs vs.toList 1 l2 hc2 j (it b) ab;have p:sG P E=bZ1 true:=by unfold sG;rw[hE]
     refine bH.pure m (c hsz hp.1 hp.2 (v := .agg (vs.extract (it b*2) (it b*2+2))) ?_) ?_
     .unfold part;simp[ca6,Es p w,kT hsz w]
     .simp only[aA,aM];have s:(vs.extract (it b*2) (it b*2+2)).toList=[.int k (pickI B (it b)),.int k (pickI l2 (it b))]:=by
       apply cw5;grind
      exact⟨_,rfl,_,_,s,⟨rfl,c2⟩,_,_,rfl,⟨rfl,c4⟩,rfl⟩
    .cases e
   .cases e
  .cases e
 .cases e
theorem bB8(m:Mod w0 N0 A env h w)(f:FD A env w ρ a){g:FuncId}{b:Array cb3}(ho:o.op = .makeFunc (.func g) #[] b){pre:List Prop} :
  bH P o a w0 N0 A env h w (.det pre (.fn g (b.toList.map (bc ρ))) []):=by
 refine bH.pure m (v := .func (.func g) #[] (b.map a.eval)) ?_ ?_
 .unfold cb0;rw[ho];simp[Instr.makeFunc]
 .simp only[aA];refine⟨_,rfl,?_⟩;rw[cf1];generalize b.toList=l
  induction l with
  | nil=>simp[aM]
  | cons p l ih=>simp;exact⟨_,_,rfl,dC f p,ih⟩
theorem YS(m:Mod w0 N0 A env h w)(f:FD A env w ρ a){x:cb3}(b:o.op = .move x∨o.op = .assign x){pre:List Prop} :
  bH P o a w0 N0 A env h w (.det pre (bc ρ x) []):=by
 refine bH.pure m ?_ (dC f x)
 unfold cb0
 obtain b|b:=b <;> rw[b] <;> rfl
theorem ai3(m:Mod w0 N0 A env h w)(f:FD A env w ρ a){t:bZ8}{x i:cb3}(ho:o.op = .index t x i)
  (e:(QM P t (bc ρ x) (bc ρ i)).run h=bZ1 (d,r)) (hp:bQ d.pre):bH P o a w0 N0 A env h w d:=by
 unfold QM at e
 split at e
 next k n xs ki iv len E hx hi hu=>
  split at e
  .rename_i k2 hE hs hn;have hn:=bK hn;cases cA e;have dx:=dC f x;have di:=dC f i;rw[hx] at dx;rw[hi] at di;simp only[aA] at dx di;simp only[Dl.pre,bQ,g7] at hp;have ⟨ev,hxl,hk⟩:=dx;have hl:it iv<be xs:=ab;have hv:(xs.map (ch1 k))[it iv]? = bZ1 (.int k (pickI xs (it iv))):=by
    rw[ce9,cG hl];simp[pickI,hl]
   refine bH.pure m (v := .int k (pickI xs (it iv))) ?_ (by simp only[aA];exact⟨aP,by unfold pickI;rw[cq,cG hl];exact hk _ (cc3 hl)⟩);have ha:sG P E=bZ1 false:=by unfold sG;rw[hE]
   unfold cb0;rw[ho];simp only[cs8,di.1,ev,asIntOf,ca6,cb1,ca3,run_underlying hu,cu3,aj (cu4 hp.1 hp.2),kT hs];unfold part;simp[ca6,Es ha w,hv]
  .cases e
 .exact a84 m f ho e hp
end
abbrev Spec:=Nat->List SV->Q Dl
def mH(P:ca7)(G:sH)(f:FuncId)(s:Spec):Prop :=
 ∀(base:Nat)(svs:List SV)(h:bZ)(d:Dl)(r:List Nat),(s base svs).run h=bZ1 (d,r)->bQ d.pre →
  ∀(w0:ca8)(N0:fI)(A:Nat->Prop)(env:bi)(w:ca8)(vs:List ca2),N0.g=G->Mod w0 N0 A env h w->aM A env w svs vs →
   Calls P f vs.toArray w (λe w'=>∃ v,e = .returned v/\fb w0 N0 A env h w d v w')
def Ig(P:ca7)(f:FuncId):Bool:=match P.funcs[f]? with
 | some fn => !(fn.name == "runtime.NumGoroutine") && fn.body.isSome
 | none=>bZ6
structure fe where
 fn:FuncId->Option Spec
 gl:sH
 yl:Option Spec
def je(P:ca7)(sp:fe):Prop:=∀ f s,sp.fn f=bZ1 s->mH P sp.gl f s
def Bw(P:ca7)(G:sH)(r:Loop)(ts:List Nat)(s:Spec):Prop :=
 ∀(base:Nat)(svs:List SV)(h:bZ)(d:Dl)(q:List Nat),(s base svs).run h=bZ1 (d,q)->bQ d.pre →
  ∀(w0:ca8)(N0:fI)(A:Nat->Prop)(env:bi)(w:ca8)(vs:List ca2)(l:Nat),N0.g=G->Mod w0 N0 A env h w->w.heap[l]? = bZ1 (.loop r)->aM A env w svs (vs++ts.map λt=>r.tmps.getD t undef) →
   vs.length=r.params.size/\RoundIn ci3 0 P l r.fn ((r.params.zip vs.toArray).foldl (λtmps (t,a)=>tmps.setIfInBounds t a) r.tmps) r.assign r.body w (λe w'=>∃ v,e = .returned v/\fb w0 N0 A env h w d v w')
def Dl.addPre(p:Prop):Dl->Dl
 | .det l v u => .det (p::l) v u
 | .nd X qn l R inh v u => .nd X qn (p::l) R (λh=>inh h.2) v u
theorem bJ0{p:Prop}{d:Dl}(h:bQ (d.addPre p).pre):p/\bQ d.pre:=by cases d <;> exact h
theorem U9{P:ca7}{p:Prop}{w0:ca8}{N0:fI}{A:Nat->Prop}{env:bi}{h:bZ}{w:ca8}{d:Dl}{v:ca2}{w':ca8}(g:fb w0 N0 A env h w d v w'):fb w0 N0 A env h w (d.addPre p) v w':=by cases d <;> exact g
def OM(P:ca7)(sp:fe)(base:Nat)(f:SV)(args:List SV):Q Dl:=match f with
 | .fn g caps=>match Ig P g,sp.fn g with
  | true,bZ1 s=>s base (args++caps)
  | _,_ => .fail
 | .yld r ts caps=>match sp.yl with
  | some s=>(s base (args++caps)).bind λd=>.ret (d.addPre (Bw P sp.gl r ts s))
  | none => .fail
 | _ => .fail
def ZD(dst:Option Tmp):Nat:=match dst with
 | some d=>(d+1)*16
 | none=>0
def Ro(P:ca7)(dst:Option Tmp)(b:Builtin)(args:List SV)(ts:List bZ8):Q Dl:=match b,args,ts with
 | .len,[x],[t]=>rM P t x
 | .append,[s,x],[t,t']=>match EU P t t',dst with
  | true,bZ1 d=>ES P t ((d+1)*16) s x
  | false,bZ1 d=>OA P t t' ((d+1)*16) s x
  | _,bZ9 => .fail
 | .cap,[x],[t]=>zd P t x
 | .min,[x,y],_=>QI x y
 | .max,[x,y],_=>OW x y
 | _,_,_ => .fail
def bT3(sp:fe):Option Tmp->Option Nat
 | some d=>match sp.fn (4000000000+d) with
  | some _=>bZ1 d
  | none=>bZ9
 | none=>bZ9
def bP7(sp:fe):Option Tmp->Bool
 | some d=>match sp.fn (4100000000+d) with
  | some _=>bZ3
  | none=>bZ6
 | none=>bZ6
def RQ(sp:fe):Bool:=match sp.fn 4200000000 with
 | some _=>bZ3
 | none=>bZ6
def bg3(sp:fe):Option Tmp->Bool
 | some d=>match sp.fn (4300000000+d) with
  | some _=>bZ3
  | none=>bZ6
 | none=>bZ6
def a70(sp:fe):Option Tmp->Option Nat
 | some d=>match sp.fn (4400000000+d) with
  | some s=>match s 0 [] with
   | .ask n _=>bZ1 n
   | _=>bZ9
  | none=>bZ9
 | none=>bZ9
def av9(n:Nat)(x:SV):Q Dl:=(CX [.own n 0]).bind λu=>.ret (.det [] x u)
def T2(sp:fe):Option Tmp->Bool
 | some d=>match sp.fn (4500000000+d) with
  | some _=>bZ3
  | none=>bZ6
 | none=>bZ6
def IX(x:SV):Q Dl:=match x with
 | .own n sz => .ask n fun
  | .live (.row E u xs)=>match ca0 sz u.size with
   | true => .ret (.det [] (.dsl u xs) [(n,.live (.frz E u xs))])
   | false => .fail
  | _ => .fail
 | .dsl t xs=>cY (.dsl t xs)
 | _ => .fail
def pL(sp:fe)(ρ:Nat->SV)(x:cb3):SV:=match x with
 | .global g=>match sp.gl g with
  | some y => .dptr y.1 y.2 0
  | none => .gl g
 | x=>bc ρ x
def Qx(P:ca7)(t:bZ8)(x i:SV):Q Dl:=match x,i,P.underlying t with
 | .agg cs,.int _ i,bZ1 (.array len e)=>match f9 P e,bZ2 (0<=i)&&bZ2 (i<len) with
  | some n,bZ3=>Ay (mU P e cs (it i*n))
  | _,_ => .fail
 | _,_,_ => .fail
def B2(P:ca7)(sp:fe)(o:Oper)(ρ:Nat->SV):Q Dl :=
 match o.op with
 | .move x=>match T2 sp o.dst with
  | true=>IX (bc ρ x)
  | false=>cY (bc ρ x)
 | .assign x=>match a70 sp o.dst with
  | some n=>av9 n (bc ρ x)
  | none=>match T2 sp o.dst with
   | true=>IX (bc ρ x)
   | false=>cY (bc ρ x)
 | .pick c x y=>Pd (bc ρ c) (bc ρ x) (bc ρ y)
 | .alloc E=>match o.dst with
  | some d=>Qw P E ((d+1)*16)
  | none => .fail
 | .box E x=>match o.dst with
  | some d=>DX E ((d+1)*16) (Ap (bc ρ x))
  | none => .fail
 | .build t ps=>Qt P t (ps.toList.map λp=>(p.1,bc ρ p.2))
 | .buildSlice t n ps=>match o.dst with
  | some d=>Ml P t n ((d+1)*16) (ps.toList.map λp=>(p.1,bc ρ p.2))
  | none => .fail
 | .load t x=>match RQ sp,bg3 sp o.dst with
  | true,bZ3=>LY P t (pL sp ρ x)
  | true,bZ6=>OQ P t (pL sp ρ x)
  | false,_=>LW P t (pL sp ρ x)
 | .store t x y=>match RQ sp with
  | true=>LR P t (bc ρ x) (bc ρ y)
  | false=>OY P t (bc ρ x) (bc ρ y)
 | .nilCheck x=>Ov (bc ρ x)
 | .binOp op t x y _=>match P.underlying t with
  | some .string=>NH op (bc ρ x) (bc ρ y)
  | _=>Nz P op t (bc ρ x) (bc ρ y)
 | .unOp op _ x=>PU op (bc ρ x)
 | .convert s t x=>match P.underlying t with
  | some .string=>N6 P s (bc ρ x)
  | some (.slice e)=>ML P s t e (bc ρ x)
  | _=>PM P s t (bc ρ x)
 | .makeFunc (.func g) fs caps=>match fs.isEmpty with
  | true=>cY (.fn g (caps.toList.map (bc ρ)))
  | false => .fail
 | .makeSlice t l c=>match o.dst with
  | some d=>P3 P t ((d+1)*16) (bc ρ l) (bc ρ c)
  | none => .fail
 | .slice t x lo hi mx=>match bT3 sp o.dst with
  | some d=>Od P t ((d+1)*16) (bc ρ x) (lo.map (bc ρ)) (hi.map (bc ρ)) (mx.map (bc ρ))
  | none=>OK P t (bc ρ x) (lo.map (bc ρ)) (hi.map (bc ρ)) (mx.map (bc ρ))
 | .fieldAddr s x f=>OX P s f (bc ρ x)
 | .field s x f=>Qj P s f (bc ρ x)
 | .indexAddr t x i=>match P.underlying t with
  | some (.array _ _)=>Pu P t (pL sp ρ x) (bc ρ i)
  | _=>Pv P t (bc ρ x) (bc ρ i)
 | .index t x i=>match bP7 sp o.dst with
  | true=>Qx P t (bc ρ x) (bc ρ i)
  | false=>QM P t (bc ρ x) (bc ρ i)
 | .extract x i=>PJ i (bc ρ x)
 | .makeMap t bZ9=>match o.dst with
  | some d=>QJ P t ((d+1)*16)
  | none => .fail
 | .lookup t x i bZ3=>Pr P t (bc ρ x) (bc ρ i)
 | .mapUpdate t x i y=>Pb P t (bc ρ x) (bc ρ i) (bc ρ y)
 | .call {callee := .builtin b,args,argTypes}=>Ro P o.dst b (args.toList.map (bc ρ)) argTypes.toList
 | .call {callee := .value f,args,..}=>OM P sp (ZD o.dst) (bc ρ f) (args.toList.map (bc ρ))
 | _ => .fail
section
variable {P:ca7} {sp:fe} {w0:ca8} {N0:fI} {A:Nat->Prop} {env:bi} {h:bZ} {w:ca8} {o:Oper} {a:Act} {ρ:Nat->SV} {d:Dl} {r:List Nat}
abbrev wf(ro:Option Nat):Fence:={ci3 with round:=ro}
def GC(P:ca7)(o:Oper)(a:Act)(w0:ca8)(N0:fI)(A:Nat->Prop)(env:bi)(h:bZ)(w:ca8)(d:Dl):Prop :=
 ∀(ro:Option Nat)(K:Act->ca8->Prop)(Q':Exit->Act->ca8->Prop),(∀ v w',fb w0 N0 A env h w d v w'→K (a.put o.dst v) w')->o.wpIn (wf ro) 0 P a w K Q'
theorem ab9{v:ca2}{w':ca8}(h:(cb0 a.eval o).run P w = .ok (.value v) w'∨((cb0 a.eval o).run P w = .ok .skip w'∧v=undef))(c:Call):o.op ≠ .defer c:=by
 intro e
 unfold cb0 at h
 rw[e] at h
 simp only[ca6] at h
 cases hr:(resolve a.eval c o.type).run P w <;> simp[hr,Result.andThen,cb1] at h
theorem bH.steps(y:bH P o a w0 N0 A env h w d):GC P o a w0 N0 A env h w d:=by
 intro ro K Q' hK
 have ⟨v,w',hr,g⟩:=y
 refine⟨λ_ _=>trivial,?_⟩
 rw[cp9 _ _ _ (ab9 hr)]
 obtain hr|⟨hr,rfl⟩:=hr <;> rw[hr]
 .exact hK _ _ g
 .exact hK _ _ g
theorem Vx(f:FD A env w ρ a)(xs:Array cb3):aM A env w (xs.toList.map (bc ρ)) (xs.map a.eval).toList:=by
 rw[cf1]
 generalize xs.toList=l
 induction l with
 | nil=>simp[aM]
 | cons p l ih=>simp;exact⟨_,_,rfl,dC f p,ih⟩
theorem Je(hg:N0.g=sp.gl)(m:Mod w0 N0 A env h w)(f:FD A env w ρ a)(x:cb3):aA A env w (pL sp ρ x) (a.eval x):=by
 cases x with
 | global g =>
  simp only[pL];cases hy:sp.gl g with
  | none=>simp only[aA,Act.eval]
  | some y =>
   have ⟨h1,h2⟩:=m.gl g y (by rw[hg];exact hy);exact⟨g,0,rfl,h1,h2⟩
 | tmp t=>simp only[pL];exact dC f _
 | const v=>simp only[pL];exact dC f (.const v)
 | func v=>simp only[pL];exact dC f (.func v)
theorem Sw(m:Mod w0 N0 A env h w)(f:FD A env w ρ a){x:cb3}(ho:o.op = .move x∨o.op = .assign x)(e:(IX (bc ρ x)).run h=bZ1 (d,r)):bH P o a w0 N0 A env h w d:=by
 have dx:=dC f x
 have exe:(cb0 a.eval o).run P w = .ok (.value (a.eval x)) w:=by unfold cb0;obtain ho|ho:=ho <;> rw[ho] <;> rfl
 unfold IX at e
 split at e
 next n sz hx=>
  rw[hx] at dx;simp only[aA] at dx;simp only[Q.run] at e;split at e
  .rename_i p q hk;simp only[cE,cy] at e;obtain⟨rfl,rfl⟩:=e;split at hk
   .rename_i E u xs hl;split at hk
    .rename_i h1;have h1:=bK h1;cases cA hk;have ok:pJ h [(n,.live (.frz E u xs))]:=by
      intro n' b hb;simp only[kY,cy] at hb;obtain⟨rfl,rfl⟩:=hb;exact⟨E,u,xs,hl,rfl⟩
     have ⟨m2,x2⟩:=m.freeze ok;refine⟨a.eval x,w,.inl exe,(),_,env,aP,m2,x2,?_⟩;show aA _ env w (.dsl u xs) (a.eval x);simp only[aA];obtain⟨hnil,pa,ev⟩|⟨b,len,E2,c,hb,hsh,ev⟩:=dx
     .have hx0:xs=[]:=by
       have:=m.nm n;rw[hl] at this;obtain⟨k',l',he',_⟩|⟨_,E3,t3,hb⟩:=this
       .rw[hnil] at he';cases he'
       .obtain hb|hb:=hb <;> cases hb;rfl
      subst hx0;exact⟨az,.inl ⟨⟨pa,ev⟩,rfl⟩⟩
     .have hs:dJ [(n,Nm.live (kG.frz E u xs))] h n = .live (.frz E u xs):=by simp[dJ]
      have hbd:=(m2.live_blk hs hb).1;rw[ev,h1];exact HB (λ_ h=>h) hbd.2 hbd.1 hsh
    .cases hk
   .cases hk
  .cases e
 next t xs hx=>rw[hx] at dx;unfold cY at e;cases cA e;exact bH.pure m exe dx
 .cases e
theorem bA8(m:Mod w0 N0 A env h w)(f:FD A env w ρ a){t:bZ8}{x i:cb3}(ho:o.op = .index t x i)
  (e:(Qx P t (bc ρ x) (bc ρ i)).run h=bZ1 (d,r)):bH P o a w0 N0 A env h w d:=by
 have c:=dC f x
 have g:=dC f i
 unfold Qx at e
 split at e
 next cs ki iv len E hx hi hu=>
  rw[hx] at c;rw[hi] at g;have ⟨vs,ev,dv⟩:=c;split at e
  next n hn b=>simp at b;obtain⟨sv,e1,rfl⟩:=Br e;have ⟨v,hr,hd⟩:=J3 e1 dv;refine bH.pure m ?_ hd;unfold cb0;rw[ho];simp only[cs8,g.1,ev,asIntOf,ca6,cb1,ca3,run_underlying hu,cu3,aj (cu4 b.1 b.2),kT hn,hr]
  .cases e
 .cases e
theorem bG0(hs:je P sp/\N0.g=sp.gl)(m:Mod w0 N0 A env h w)(f:FD A env w ρ a){g:cb3}{args:Array cb3}{ts:Array bZ8}{base:Nat}(ho:o.op = .call {callee := .value g,args,argTypes:=ts})
  (e:(OM P sp base (bc ρ g) (args.toList.map (bc ρ))).run h=bZ1 (d,r)) (hp:bQ d.pre):(∃ v w',fb w0 N0 A env h w d v w')/\GC P o a w0 N0 A env h w d:=by
 have dg:=dC f g
 unfold OM at e
 split at e
 next gi caps hg=>
  split at e
  .rename_i s hb hsp;rw[hg] at dg;simp only[aA] at dg;have ⟨vs,ev,dv⟩:=dg;have hcall:=hs.1 gi s hsp base _ h d r e hp w0 N0 A env w _ hs.2 m (tF (Vx f args) dv);refine⟨?_,λro K Q' hK=>?_⟩
   .have ⟨e',w',fr,⟨v,_,g⟩,_⟩:=hcall [];exact⟨v,w',g⟩
   refine⟨λ_ _=>trivial,?_⟩;rw[cp9 _ _ _ (λc=>by rw[ho];simp)];unfold cb0;rw[ho];unfold Ig at hb;split at hb
   .rename_i fn hfn;simp only[fx,qE] at hb;have hbody:fn.body.isNone=false:=by cases hfb:fn.body <;> simp_all
    simp only[resolve,ct1,ev,ca6,cb1,ca3,invoke,callFunc,run_program,hfn,hb.1,hbody,F1,if_false,cu6,Oper.uponIn];have hargs:((cC6 a.eval args).toList++vs.toList).toArray=cC6 a.eval args++vs:=by apply cu2;simp
    rw[hargs] at hcall;refine⟨λq=>by simp[ci3] at q,CallsIn.mono (callsIn_wide.2 hcall:CallsIn ci3 0 P _ _ _ _) ?_⟩;rintro e' w' ⟨v,rfl,g⟩;exact hK _ _ g
   .cases hb
  .cases e
 next r ts caps hg=>
  split at e
  .rename_i s hsp;obtain⟨d',r1,r2,e1,e2,rfl⟩:=Q.run_bind _ _ _ e;cases cA e2;rw[hg] at dg;simp only[aA] at dg;have ⟨l,ev,hl,dv⟩:=dg;have ⟨hy,hp⟩:=bJ0 hp;have ⟨hlen,hR⟩:=hy base _ h d' _ e1 hp w0 N0 A env w _ l hs.2 m hl (tF (Vx f args) dv);refine⟨?_,λro K Q' hK=>?_⟩
   .have ⟨e',w',⟨v,_,g⟩,_⟩:=hR.2 default [] (room_wide _);exact⟨v,w',U9 (P:=P) g⟩
   refine⟨λ_ _=>trivial,?_⟩;rw[cp9 _ _ _ (λc=>by rw[ho];simp)];unfold cb0;rw[ho];simp only[resolve,ct1,ev,ca6,cb1,ca3,invoke,cu6];rw[run_yield hl (by simpa using hlen)];refine⟨λq=>by simp[ci3] at q,RoundIn.mono (F:=ci3) (Array.toArray_toList (xs:=args.map a.eval)▸hR) ?_⟩;rintro e' w' ⟨v,rfl,g⟩;exact hK _ _ (U9 (P:=P) g)
  .cases e
 .cases e
theorem D6{v:SV}(e:(cY v).run h=bZ1 (d,r)):d = .det [] v []:=(cA e).symm
theorem WG(hs:je P sp/\N0.g=sp.gl)(m:Mod w0 N0 A env h w)(f:FD A env w ρ a)
  (e:(B2 P sp o ρ).run h=bZ1 (d,r)) (hp:bQ d.pre):(∃ v w',fb w0 N0 A env h w d v w')/\GC P o a w0 N0 A env h w d:=by
 have ofY:bH P o a w0 N0 A env h w d->(∃ v w',fb w0 N0 A env h w d v w')/\GC P o a w0 N0 A env h w d:=λy=>by
  have y':=y;have ⟨v,w',hr,g⟩:=y';exact⟨⟨v,w',g⟩,y.steps⟩
 unfold B2 at e
 split at e
 next x ho=>
  split at e
  .exact ofY (Sw m f (.inl ho) e)
  .rw[D6 e];rw[D6 e] at ofY;exact ofY (YS m f (.inl ho))
 next x ho=>
  split at e
  .obtain⟨u,r1,r2,e2,e3,rfl⟩:=Q.run_bind _ _ _ e;cases cA e3;have ⟨A',m',x'⟩:=H7 m _ e2;refine ofY ⟨a.eval x,w,.inl ?_,(),A',env,aP,m',x',Dy x' _ _ (dC f x)⟩;unfold cb0;rw[ho];rfl
  .split at e
   .exact ofY (Sw m f (.inr ho) e)
   .rw[D6 e];rw[D6 e] at ofY;exact ofY (YS m f (.inr ho))
 next c x y ho=>exact ofY (bc9 m f ho e hp)
 next E ho=>
  split at e
  .exact ofY (aL1 m ho e)
  .cases e
 next E x ho=>
  split at e
  .exact ofY (bN4 m f ho e)
  .cases e
 next t ps ho=>exact ofY (aG7 m f ho e)
 next t n ps ho=>
  split at e
  .exact ofY (ax8 m f ho e)
  .cases e
 next t x ho=>
  split at e
  .exact ofY (bp8 m (pL sp ρ) (Je hs.2 m f x) ho e)
  .exact ofY (aM1 m (pL sp ρ) (Je hs.2 m f x) ho e hp)
  .exact ofY (aQ6 m (pL sp ρ) (Je hs.2 m f x) ho e hp)
 next t x y ho=>
  split at e
  .exact ofY (af6 m f ho e hp)
  .exact ofY (a83 m f ho e hp)
 next x ho=>exact ofY (ac7 m f ho e)
 next op t x y yt ho=>
  split at e
  next ht=>exact ofY (av4 m f ho ht e)
  .exact ofY (bM0 m f ho e hp)
 next op t x ho=>exact ofY (bX0 m f ho e hp)
 next s t x ho=>
  split at e
  next ht=>exact ofY (ak9 m f ho ht e)
  next ht=>exact ofY (bt3 m f ho ht e hp)
  .exact ofY (bt5 m f ho e hp)
 next g fs caps ho=>
  split at e
  .rename_i hfs;have:fs = #[]:=by simpa using hfs
   subst this;rw[D6 e];rw[D6 e] at ofY;exact ofY (bB8 m f ho)
  .cases e
 next t l c ho=>
  split at e
  .exact ofY (ax0 m f ho e hp)
  .cases e
 next t x lo hi mx ho=>
  split at e
  .exact ofY (bu1 m f ho e hp)
  .exact ofY (bN8 m f ho e hp)
 next s x i ho=>exact ofY (aH5 m f ho e)
 next s x i ho=>exact ofY (Zw m f ho e)
 next t x i ho=>
  split at e
  .exact ofY (bo6 m f (pL sp ρ) (Je hs.2 m f x) ho e hp)
  .exact ofY (bN1 m f ho e hp)
 next t x i ho=>
  split at e
  .exact ofY (bA8 m f ho e)
  .exact ofY (ai3 m f ho e hp)
 next x i ho=>exact ofY (ar2 m f ho e)
 next t ho=>
  split at e
  .exact ofY (a95 m ho e)
  .cases e
 next t x i ho=>exact ofY (at1 m f ho e)
 next t x i y ho=>exact ofY (aV3 m f ho e)
 next b args ts ho=>
  have ⟨al⟩:=args;have ⟨tl⟩:=ts;have e':=e;clear e;cases b
  case len =>
   match al,tl with
   | [x1],[t1]=>exact ofY (bl6 m f ho e')
   | [],_=>cases e'
   | _::_::_,_=>cases e'
   | [_],[]=>cases e'
   | [_],_::_::_=>cases e'
  case cap =>
   match al,tl with
   | [x1],[t1]=>exact ofY (bz9 m f ho e')
   | [],_=>cases e'
   | _::_::_,_=>cases e'
   | [_],[]=>cases e'
   | [_],_::_::_=>cases e'
  case append =>
   match al,tl with
   | [x1,x2],[t1,t2] =>
    simp only[cg4,Ro] at e';split at e'
    next dd hb _=>exact ofY (Ye m f hb ho e' hp)
    .exact ofY (aq1 m f ho e' hp)
    .cases e'
   | [],_=>cases e'
   | [_],_=>cases e'
   | _::_::_::_,_=>cases e'
   | [_,_],[]=>cases e'
   | [_,_],[_]=>cases e'
   | [_,_],_::_::_::_=>cases e'
  case min =>
   match al with
   | [x1,x2]=>exact ofY (ao6 m f ho e')
   | []=>cases e'
   | [_]=>cases e'
   | _::_::_::_=>cases e'
  case max =>
   match al with
   | [x1,x2]=>exact ofY (ZJ m f ho e')
   | []=>cases e'
   | [_]=>cases e'
   | _::_::_::_=>cases e'
  all_goals (cases e')
 next g args ts ho=>exact bG0 hs m f ho e hp
 .cases e
end
end Go.SX
namespace Go.SX
def d9(sl:List SV)(i:Nat):SV:=match pj sl i with
 | some v=>v
 | none => .junk
structure FS where
 sl:List SV
 h:bZ
def II:SV->SV
 | .opt _ v=>v
 | v=>v
def N4(g:Bool):SV->List Prop
 | .opt b _=>[g=bZ3->b=bZ3]
 | _=>[]
def yJ:List cb3->List Nat
 | []=>[]
 | .tmp t::r=>t::yJ r
 | _::r=>yJ r
def qP(n:Nat):List Nat->Bool
 | []=>bZ6
 | m::r=>ca0 n m||qP n r
theorem AC{n:Nat}:∀{l:List Nat},qP n l=bZ3↔n∈l
 | []=>by simp[qP]
 | m::r=>by simp[qP,AC (l:=r)]
def yL(o:Oper):List Nat:=match o.op with
 | .pick (.tmp c) _ _=>[c]
 | .pick _ _ _=>[]
 | op=>yJ op.operands.toList
inductive GV where
 | always
 | cond (g:Bool)
 | unknown
abbrev SH(b want:Bool):Bool:=match want with
 | true=>b
 | false => !b
def Cg(ops:List Oper)(sl:List SV):Option (Nat×Bool)->GV
 | none => .always
 | some (j,want)=>match pj ops j with
  | some oj=>match oj.dst with
   | some d=>match d9 sl d with
    | .bool b => .cond (SH b want)
    | .opt g (.bool b) => .cond (g&&SH b want)
    | v=>match KC v with
     | true => .cond bZ6
     | false => .unknown
   | none => .unknown
  | none => .unknown
inductive kq:Type 1 where
 | go (d:Dl)
 | split (g:Bool) (d:Dl)
def ul(g:Bool)(sl:List SV):List Nat->List Prop
 | []=>[]
 | i::r=>N4 g (d9 sl i)++ul g sl r
def Gm:List Prop->Bool->List Prop
 | [],_=>[]
 | l,g=>[g=bZ3->bQ l]
def Rk(g:Bool)(pu:List Prop)(d:Dl):Q kq:=match d with
 | .det pre v [] => .ret (.go (.det (Gm (pu++pre) g) (.opt g v) []))
 | .det pre v upd => .ret (.split g (.det (pu++pre) v upd))
 | .nd X qn pre R inh v upd => .ret (.split g (.nd X qn (pu++pre) R (λh=>inh (sJ.1 h).2) v upd))
def ET(sl:List SV):List Nat->Bool
 | []=>bZ6
 | i::r=>KC (d9 sl i)||ET sl r
def pX(P:ca7)(sp:fe)(ops:List Oper)(o:Oper)(sl:List SV):Q kq:=match Cg ops sl o.guard with
 | .always=>(B2 P sp o (d9 sl)).bind λd=>.ret (.go d)
 | .cond g=>match ET sl (yL o) with
  | true => .ret (.go (.det [g=bZ6] (.cv undef) []))
  | false=>(B2 P sp o (λi=>match qP i (yL o) with|true=>II (d9 sl i)|false=>d9 sl i)).bind (Rk g (ul g sl (yL o)))
 | .unknown => .fail
def mg(sl:List SV)(dst:Option Tmp)(v:SV):List SV:=match dst with
 | some d=>sl.set d v
 | none=>sl
def FS.app(F:FS)(dst:Option Tmp)(d:Dl)(x:d.X):FS:=⟨mg F.sl dst (d.val x),d.hp x F.h⟩
def FS.skip(F:FS)(dst:Option Tmp):FS:=⟨mg F.sl dst (.cv undef),F.h⟩
def nC(st:kq)(dst:Option Tmp)(F F':FS):Prop:=match st with
 | .go d=>∃ x,d.R x/\F'=F.app dst d x
 | .split g d=>(g=bZ3∧∃ x,d.R x/\F'=F.app dst d x)∨(g=bZ6/\F'=F.skip dst)
def kq.pre:kq->Prop
 | .go d=>bQ d.pre
 | .split g d=>g=bZ3->bQ d.pre
def kq.wr:kq->List Nat
 | .go d=>d.wr
 | .split _ d=>d.wr
def rE(w0 w:ca8):List cE1->Prop
 | []=>True
 | d::r=>∃ D,d={target := .collected D,args := #[]}/\w0.heap.size<=D/\w.heap[D]? = bZ1 (.deferred (bZ1 []))/\(∀ e∈r,e.target ≠ .collected D)/\rE w0 w r
theorem rE.mono{a w w':ca8}(x:∀ k:Nat,w.heap[k]? = bZ1 (.deferred (bZ1 []))->w'.heap[k]? = bZ1 (.deferred (bZ1 []))):∀{b:List cE1},rE a w b->rE a w' b
 | [],_=>trivial
 | _::_,⟨D,h1,h2,h3,h4,h5⟩=>⟨D,h1,h2,x _ h3,h4,h5.mono x⟩
theorem rE.lt{w0 w:ca8}:∀{b:List cE1},rE w0 w b→∀ e∈b,∃ D,e.target = .collected D/\D<w.heap.size
 | _::_,⟨D,h1,_,h3,_,h5⟩,e,a=>by
  obtain rfl|a:=dO.1 a
  .grind
  .exact h5.lt e a
structure gR (w0:ca8) (N0:fI) (A:Nat->Prop) (env:bi) (F:FS) (a:Act) (w:ca8):Prop where
 m:Mod w0 N0 A env F.h w
 len:be F.sl<=a.tmps.size
 f:FD A env w (d9 F.sl) a
 dfr:rE w0 w a.defers
section
variable {P:ca7} {sp:fe} {w0:ca8} {N0:fI} {A:Nat->Prop} {env:bi} {F F':FS} {w:ca8} {o:Oper} {a:Act} {st:kq} {r:List Nat}
theorem Ke{a:List SV}{d i:Nat}{v:SV}:d9 (a.set d v) i=if i=d/\d<be a then v else d9 a i:=by
 unfold d9
 simp only[xu,List.getElem?_set]
 grind
theorem YU{A':Nat->Prop}{env':bi}{e:ca8}{c:List SV}{v:SV}{u:ca2}(len:be c<=a.tmps.size)(f:FD A env w (d9 c) a)(x:dM A env w A' env' e)(b:Option Tmp)
  (hd:aA A' env' e v u):FD A' env' e (d9 (mg c b v)) (a.put b u):=by
 intro i
 cases b with
 | none=>exact Dy x _ _ (f i)
 | some d =>
  simp only[mg,Act.put];rw[Ke];split
  next h=>have hi:i<a.tmps.size:=ab;simp_all
  .rename_i h;by_cases g:i=d
   .subst g;have:d9 c i = .junk:=by unfold d9;rw[xu,AH ab]
    rw[this];simp only[aA]
   .have h2:=Dy x _ _ (f i);simp at h2 ⊢;grind
theorem RR(a:Act)(dst:Option Tmp)(v:ca2):(a.put dst v).tmps.size=a.tmps.size:=by cases dst <;> simp[Act.put]
theorem Yp(a:Act)(dst:Option Tmp)(v:ca2):(a.put dst v).defers=a.defers:=by cases dst <;> rfl
theorem XR(sl:List SV)(dst:Option Tmp)(v:SV):be (mg sl dst v)=be sl:=by cases dst <;> simp[mg]
theorem gR.app(t:gR w0 N0 A env F a w){d:Dl}{v:ca2}{w':ca8}(g:fb w0 N0 A env F.h w d v w')(dst:Option Tmp) :
  ∃ x A' env',d.R x/\gR w0 N0 A' env' (F.app dst d x) (a.put dst v) w'∧dM A env w A' env' w':=by
 have ⟨x,A',env',hR,m',b,hd⟩:=g
 exact⟨x,A',env',hR,⟨m',by simp only[FS.app,XR,RR];exact t.len,YU t.len t.f b dst hd,by rw[Yp];exact t.dfr.mono b.dfo⟩,b⟩
theorem gR.skip(t:gR w0 N0 A env F a w)(b:Option Tmp):gR w0 N0 A env (F.skip b) (a.put b undef) w :=
 ⟨t.m,by simp only[FS.skip,XR,RR];exact t.len,YU t.len t.f dM.refl b (by simp only[aA]),by rw[Yp];exact t.dfr⟩
theorem ag3(a:Act){ops:Array Oper}(h:o.guard=bZ9):ch9 o (yielded ops a.tmps)=true:=by simp[ch9,h]
theorem bz2(t:gR w0 N0 A env F a w){ops:Array Oper}{g:Bool}(e:Cg ops.toList F.sl o.guard = .cond g) :
  ch9 o (yielded ops a.tmps)=g:=by
 unfold Cg at e
 split at e
 .cases e
 next j want hg=>
  have hw:ch9 o (yielded ops a.tmps)=(yielded ops a.tmps j == bZ1 want):=by simp[ch9,hg]
  split at e
  .rename_i oj hj;split at e
   .rename_i d hd;have k:ops[j]? = bZ1 oj:=by rw[xu,mO] at hj;exact hj
    have hy:yielded ops a.tmps j=match a.tmps[d]? with|some (.bool b)=>bZ1 b|_=>none:=by
     unfold yielded;rw[k];simp only[Option.bind_some,hd];rfl
    have c:=t.f d;have h:∀{v:ca2},a.tmps.getD d undef=v->v≠undef->a.tmps[d]? = bZ1 v:=by
     intro v hv hne;rw[sQ] at hv;grind
    rw[hw,hy];split at e
    next b hb=>cases e;rw[hb] at c;rw[h c (by simp[undef])];grind
    .rename_i g' b hb;cases e;rw[hb] at c;cases g' with
     | true =>
      rw[h c (by simp[undef])];grind
     | false =>
      rw[sQ] at c;cases hx:a.tmps[d]? with
      | none=>rfl
      | some u=>rw[hx] at c;subst c;rfl
    .rename_i hv1 hv2;split at e
     .rename_i l;have i:∃ vs,d9 F.sl d = .cv (.tuple vs)/\vs.isEmpty=true:=by
       unfold KC at l;grind
      have ⟨vs,h1,h2⟩:=i;rw[h1] at c;simp only[aA] at c;rw[sQ] at c;grind
     .cases e
   .cases e
  .cases e
theorem RW{g:Bool}{b:List SV}:∀{l:List Nat},bQ (ul g b l)→∀ i∈l,bQ (N4 g (d9 b i))
 | j::r,h,i,a=>by
  simp only[ul,sJ] at h;obtain rfl|a:=dO.1 a
  .exact h.1
  .exact RW h.2 i a
theorem bb0(f:FD A env w (d9 F.sl) a){l:List Nat}(hp:bQ (ul bZ3 F.sl l)) :
  FD A env w (λi=>match qP i l with|true=>II (d9 F.sl i)|false=>d9 F.sl i) a:=by
 intro i
 show aA A env w (match qP i l with|true=>II (d9 F.sl i)|false=>d9 F.sl i) _
 cases hm:qP i l with
 | false=>exact f i
 | true =>
  have:=RW hp i (AC.1 hm);have c:=f i;generalize d9 F.sl i=v at *;cases v with
  | opt b v =>
   have hb:b=true:=by simpa[N4,bQ] using this
   subst hb;simpa only[II,aA] using c
  | _=>exact c
theorem bb5{l:List Prop}{g:Bool}(h:bQ (Gm l g))(hg:g=bZ3):bQ l:=by
 cases l with
 | nil=>trivial
 | cons p l=>simp only[Gm,bQ,g7] at h;exact h hg
theorem M4(hs:je P sp/\N0.g=sp.gl)(t:gR w0 N0 A env F a w){ops:Array Oper}(e:(pX P sp ops.toList o F.sl).run F.h=bZ1 (st,r))(D:st.pre) :
  (∃ k,nC st o.dst F k∧∃ A' env' y w',gR w0 N0 A' env' k y w'∧dM A env w A' env' w') ∧
  ∀(ro:Option Nat)(K:Act->ca8->Prop)(j:Exit->Act->ca8->Prop),(∀ k A' env' y w',nC st o.dst F k->gR w0 N0 A' env' k y w'→dM A env w A' env' w'→K y w') →
   if ch9 o (yielded ops a.tmps) then o.wpIn (wf ro) 0 P a w K j else (∀ f,o.about P w a.eval=bZ1 f->(wf ro).fn f)/\K (a.put o.dst undef) w:=by
 unfold pX at e
 split at e
 next hg=>
  obtain⟨d,r1,r2,e1,B,rfl⟩:=Q.run_bind _ _ _ e;obtain⟨rfl,rfl⟩:=B;have ⟨⟨v,w',g⟩,l⟩:=WG hs t.m t.f e1 D;have hgn:o.guard=none:=by
   unfold Cg at hg;grind
  refine⟨?_,λro K j n=>?_⟩
  .have ⟨x,A',env',i,t',b⟩:=t.app g o.dst;exact⟨_,⟨x,i,rfl⟩,A',env',_,_,t',b⟩
  .rw[ag3 a hgn];refine (l ro K j λv w' g=>?_);have ⟨x,A',env',i,t',b⟩:=t.app g o.dst;exact n _ _ _ _ _ ⟨x,i,rfl⟩ t' b
 next g hg=>
  have p:=bz2 t hg;split at e
  .simp only[Q.run,cE,cy] at e;obtain⟨rfl,rfl⟩:=e;simp only[kq.pre,Dl.pre,bQ,g7] at D;rw[p];subst D;have q:fb w0 N0 A env F.h w (.det [bZ6=bZ6] (.cv undef) []) undef w :=
    ⟨(),A,env,aP,t.m,dM.refl,by simp only[Dl.val,aA]⟩
   have ⟨x,A',env',i,t',b⟩:=t.app q o.dst;refine⟨⟨_,⟨x,i,rfl⟩,A',env',_,_,t',b⟩,λro K j n=>?_⟩;exact⟨λ_ _=>trivial,n _ _ _ _ _ ⟨x,i,rfl⟩ t' b⟩
  obtain⟨d,r1,r2,e1,B,rfl⟩:=Q.run_bind _ _ _ e;rw[p];have E:g=bZ3->bQ (ul g F.sl (yL o))->bQ d.pre->(∃ v w',fb w0 N0 A env F.h w d v w')/\GC P o a w0 N0 A env F.h w d:=by
   rintro rfl z h2;exact WG hs t.m (bb0 t.f z) e1 h2
  have c:∀ G,st = .split g G->G.X=d.X->(∀(z:bQ G.pre),bQ (ul g F.sl (yL o))/\bQ d.pre) →
    (∀ v w',fb w0 N0 A env F.h w d v w'→fb w0 N0 A env F.h w G v w') →
    (∃ k,nC st o.dst F k∧∃ A' env' y w',gR w0 N0 A' env' k y w'∧dM A env w A' env' w') ∧
    ∀(ro:Option Nat)(K:Act->ca8->Prop)(j:Exit->Act->ca8->Prop),(∀ k A' env' y w',nC st o.dst F k->gR w0 N0 A' env' k y w'→dM A env w A' env' w'→K y w') →
     if g=bZ3 then o.wpIn (wf ro) 0 P a w K j else (∀ f,o.about P w a.eval=bZ1 f->(wf ro).fn f)/\K (a.put o.dst undef) w:=by
   rintro G rfl _ hpre s;cases g with
   | true =>
    have ⟨z,h2⟩:=hpre (D rfl);have ⟨⟨v,w',q⟩,l⟩:=E rfl z h2;refine⟨?_,λro K j n=>?_⟩
    .have ⟨x,A',env',i,t',b⟩:=t.app (s _ _ q) o.dst;exact⟨_,.inl ⟨rfl,x,i,rfl⟩,A',env',_,_,t',b⟩
    .rw[aj rfl];refine (l ro K j λv w' q=>?_);have ⟨x,A',env',i,t',b⟩:=t.app (s _ _ q) o.dst;exact n _ _ _ _ _ (.inl ⟨rfl,x,i,rfl⟩) t' b
   | false =>
    refine⟨⟨_,.inr ⟨rfl,rfl⟩,A,env,_,_,t.skip o.dst,dM.refl⟩,λro K j n=>?_⟩;exact⟨λ_ _=>trivial,n _ _ _ _ _ (.inr ⟨rfl,rfl⟩) (t.skip o.dst) dM.refl⟩
  unfold Rk at B;split at B
  .rename_i pre v;obtain⟨rfl,rfl⟩:=B;cases g with
   | true =>
    have C:=bb5 D rfl;rw[sJ] at C;have ⟨⟨u,w',q⟩,l⟩:=E rfl C.1 C.2;have conv:∀ u w',fb w0 N0 A env F.h w (.det pre v []) u w'→fb w0 N0 A env F.h w (.det (Gm (ul bZ3 F.sl (yL o)++pre) bZ3) (.opt bZ3 v) []) u w':=by
     rintro u w' ⟨x,A',env',i,m',b,hd⟩;exact⟨(),A',env',aP,m',b,by simpa only[Dl.val,aA] using hd⟩
    refine⟨?_,λro K j n=>?_⟩
    .have ⟨x,A',env',i,t',b⟩:=t.app (conv _ _ q) o.dst;exact⟨_,⟨x,i,rfl⟩,A',env',_,_,t',b⟩
    .rw[aj rfl];refine (l ro K j λv w' q=>?_);have ⟨x,A',env',i,t',b⟩:=t.app (conv _ _ q) o.dst;exact n _ _ _ _ _ ⟨x,i,rfl⟩ t' b
   | false =>
    have q:fb w0 N0 A env F.h w (.det (Gm (ul bZ6 F.sl (yL o)++pre) bZ6) (.opt bZ6 v) []) undef w :=
     ⟨(),A,env,aP,t.m,dM.refl,by simp only[Dl.val,aA]⟩
    have ⟨x,A',env',i,t',b⟩:=t.app q o.dst;refine⟨⟨_,⟨x,i,rfl⟩,A',env',_,_,t',b⟩,λro K j n=>?_⟩;exact⟨λ_ _=>trivial,n _ _ _ _ _ ⟨x,i,rfl⟩ t' b⟩
  next pre v upd _=>obtain⟨rfl,rfl⟩:=B;exact c _ rfl rfl (λz=>by simpa only[Dl.pre,sJ] using z) (λu w' ⟨x,A',env',i,m',b,hd⟩=>⟨(),A',env',aP,m',b,hd⟩)
  next X pre R inh v upd=>obtain⟨rfl,rfl⟩:=B;exact c _ rfl rfl (λz=>by simpa only[Dl.pre,sJ] using z) (λu w' ⟨x,A',env',i,m',b,hd⟩=>⟨x,A',env',i,m',b,hd⟩)
 .cases e
end
end Go.SX
