/- SX, part 10: append, slicing, an array's element: soundness. -/
import Derived.Test.YtehpghlieehlbaaGreatDoorSx9
import Derived.Lib.AppendZeros
import Derived.Laws.BytesArg
import Derived.Laws.StructEq
import Derived.MapKept
import Derived.Carry
import Derived.Orders
set_option linter.unusedVariables false
open List (replicate)
namespace Go.SX
section
variable {P:Program} {w0:World} {N0:fY} {A:Nat->Prop} {env:bc} {h:bR} {w:World} {o:Oper} {a:Act} {ρ:Nat->SV} {d:Dl} {r:List Nat}
theorem Cz{t:CT}{cv:Nat->Option Value}:∀(ys:List t.D)(off:Nat),(∀ i (hi:i<ys.length),Rd A w t cv (off+i*t.size) ys[i]) →
  ∃ news:List Value,news.length=ys.length*t.size/\(∀ j,j<news.length->cv (off+j)=news[j]?)∧∀ u∈news,u.oneCell'=true
 | [],off,_=>⟨[],by simp,by simp,by simp⟩
 | y::ys,off,hr=>by
  obtain⟨us,hl,hc,hd⟩:=uD (env:=λ_=>.un) t y cv off (by have:=hr 0 (by simp);simpa only[Nat.zero_mul,iL,List.getElem_cons_zero] using this);obtain⟨news,hl2,hc2,h1⟩:=Cz ys (off+t.size) (λi hi=>by
   have:=hr (i+1) (by simpa using hi);simp only[List.getElem_cons_succ] at this;rw[show off+t.size+i*t.size=off+(i+1)*t.size from by rw[fN,jH];omega];exact this)
  refine⟨us++news,by simp[hl,hl2,fN];omega,λj hj=>?_,?_⟩
  .by_cases hlt:j<t.size
   .rw[hc j hlt,kA (by omega)]
   .rw[kr (by omega),hl];simp only[cD] at hj;have:=hc2 (j-t.size) (by omega);rw[show off+t.size+(j-t.size)=off+j from by omega] at this;exact this
  .intro u hu;rcases dH.1 hu with hu|hu
   .exact BR hd (Dg _ _) u hu
   .exact h1 u hu
theorem Of{t:CT}{v:Value}{ys:List t.D}(hs:qa A w t v ys):∃ p c,v = .slice p ys.length c/\ys.length<=maxLen ∧
  (ys.length=0∨∃ b off,p=some ⟨b,off,none⟩∧∀ i (hi:i<ys.length),Rd A w t (λo=>w.cell? ⟨b,o,none⟩) (off+i*t.size) ys[i]):=by
 obtain⟨hl,⟨⟨p,rfl⟩,rfl⟩|⟨b,off,cap,rfl,h1,h2,h3,h4⟩⟩:=hs
 .exact⟨p,0,rfl,hl,.inl rfl⟩
 .exact⟨_,cap,rfl,hl,.inr ⟨b,off,rfl,h4⟩⟩
theorem GE(m:Mod w0 N0 A env h w){t:CT}{x:SV}{v:Value}{ys:List t.D}(e:(uw t x).run h=some (ys,r))(hd:aB A env w x v) :
  ∃ p c,v = .slice p ys.length c/\ys.length<=maxLen ∧
  (ys.length=0∨∃ b off,p=some ⟨b,off,none⟩∧∀ i (hi:i<ys.length),Rd A w t (λo=>w.cell? ⟨b,o,none⟩) (off+i*t.size) ys[i]):=by
 unfold uw at e
 split at e
 next u zs=>
  split at e
  next zs' hc=>simp only[Q.run,bp,br] at e;obtain⟨rfl,_⟩:=e;obtain⟨et,ey⟩:=jC hc;subst et;simp only at ey;subst ey;simp only[aB] at hd;exact Of hd
  .cases e
 next u zs=>
  split at e
  next zs' hc=>simp only[Q.run,bp,br] at e;obtain⟨rfl,_⟩:=e;obtain⟨et,ey⟩:=jC hc;subst et;simp only at ey;subst ey;simp only[aB] at hd;exact Of hd.1
  .cases e
 .simp only[Q.run,bp,br] at e;obtain⟨rfl,_⟩:=e;simp only[aB] at hd;exact⟨none,0,by rw[hd];rfl,by simp,.inl rfl⟩
 next n sz=>
  simp only[aB] at hd;simp only[Q.run] at e;split at e
  .rename_i p q hk;simp only[bp,br] at e;obtain⟨rfl,rfl⟩:=e;have fin:∀{E':TypeId}{u:CT}{zs:List u.D},(h n = .live (.row E' u zs)∨h n = .live (.frz E' u zs))->hY u t zs=some p →
     ∃ p' c,v = .slice p' p.length c/\p.length<=maxLen ∧
     (p.length=0∨∃ b off,p'=some ⟨b,off,none⟩∧∀ i (hi:i<p.length),Rd A w t (λo=>w.cell? ⟨b,o,none⟩) (off+i*t.size) p[i]):=by
    intro E' u zs hl hc;obtain⟨et,ey⟩:=jC hc;subst et;simp only at ey;subst ey;rcases hd with⟨hnil,pp,ev⟩|⟨b,len,E2,c,hb,_,ev⟩
    .have hx:p.length=0:=by
      have:=m.nm n;rcases hl with hl|hl <;> rw[hl] at this <;> rcases this with⟨k',l',he',_⟩|⟨_,E3,t3,hb⟩
      .rw[hnil] at he';cases he'
      .rcases hb with hb|hb <;> cases hb;rfl
      .rw[hnil] at he';cases he'
      .rcases hb with hb|hb <;> cases hb;rfl
     exact⟨pp,0,by rw[hx];exact ev,by omega,.inl hx⟩
    .have hrow:nk A w b len E' u p:=by
      rcases hl with hl|hl
      .exact (m.live_blk hl hb).1
      .exact (m.live_blk hl hb).1.2
     have hlen:p.length=len.2/\len.2<=maxLen:=by
      obtain⟨vs,cap,_,_,h2,h3,h4,_⟩:=hrow;exact⟨h2,by omega⟩
     refine⟨_,_,by rw[hlen.1];exact ev,by omega,.inr ⟨b,len.1,rfl,λi hi=>?_⟩⟩;have:=ye hrow (i:=i) (by omega);rw[Gm hi] at this;exact this
   split at hk
   .rename_i E' u zs hl;split at hk
    next zs' h1 hc=>simp only[Q.run,bp,br] at hk;obtain⟨rfl,_⟩:=hk;exact fin (.inl hl) hc
    .cases hk
   .rename_i E' u zs hl;split at hk
    next zs' h1 hc=>simp only[Q.run,bp,br] at hk;obtain⟨rfl,_⟩:=hk;exact fin (.inr hl) hc
    .cases hk
   .cases hk
  .cases e
 .cases e
theorem oO(m:Mod w0 N0 A env h w){nm:Nat}(hun:h nm = .un)(dn:List Nat)(hdn:∀ n∈dn,∃ b,h n = .live b/\b.mut=true){E:TypeId}{t:CT}{zs:List t.D}{v:Value}{w':World}
  {pre:List Prop} {W:Nat->Prop} {ev:Ev} (c:cS w w' W) (hW:∀ k,W k→∃ n l,n∈dn/\env n = .blk k l) (hne:ev ≠ .un)
  (hev:∀ k len,ev = .blk k len->w.heap.size<=k∨∃ n l,n∈dn/\env n = .blk k l)
  (hb:dh A env w A (env.set nm ev) w'→(ev = .nil/\zs=[]∧∃ p,v = .slice p 0 0)∨∃ k len c,ev = .blk k len/\nk A w' k len E t zs/\w'.shape? k=some (E,c)/\v = .slice (some ⟨k,len.1,none⟩) len.2 ((c-len.1)/t.size)) :
  eO w0 N0 A env h w (.det pre (.own nm t.size) ((nm,.live (.row E t zs))::dn.map λn=>(n,.dead))) v w':=by
 have hu:env nm = .un:=by have:=m.nm nm;rw[hun] at this;exact this
 have hlv:∀ k,W k→∃ mm b l,mm∈dn/\h mm = .live b/\b.mut=true/\env mm = .blk k l:=by
  intro k hk;obtain⟨n,l,hn,he⟩:=hW k hk;obtain⟨b,hb1,hb2⟩:=hdn n hn;exact⟨n,b,l,hn,hb1,hb2,he⟩
 have x:dh A env w A (env.set nm ev) w':=by
  refine⟨λ_ h=>h,λn b l e=>?_,λn e=>?_,λb o hb=>?_,c.shape⟩
  .rw[bc.set_other];exact e;intro e';rw[e'] at e;rw[hu] at e;cases e
  .rw[bc.set_other];exact e;intro e';rw[e'] at e;rw[hu] at e;cases e
  .refine World.cell?_of_block (a:=⟨b,o,none⟩) (c.blk b (m.Alt b hb) (λhw=>?_));obtain⟨mm,bb,l,_,hl,hm,he⟩:=hlv b hw;exact (m.live_blk hl he).2 hm hb
 have hset:∀ n,n≠nm->n ∉ dn->cT ((nm,.live (.row E t zs))::dn.map λn=>(n,.dead)) h n=h n:=by
  intro n h1 h2;refine nJ ?_;simp only[fK,List.map_map,dj,List.mem_map,Function.comp_apply,not_or];exact⟨h1,λ⟨q,hq,e⟩=>h2 (e▸hq)⟩
 have hsetn:cT ((nm,.live (.row E t zs))::dn.map λn=>(n,.dead)) h nm = .live (.row E t zs):=by simp[cT]
 have hsetd:∀ n,n≠nm->n∈dn->cT ((nm,.live (.row E t zs))::dn.map λn=>(n,.dead)) h n = .dead:=by
  intro n h1 h2;simp only[cT];rw[bR.set_other _ _ h1];clear hdn hW hev hlv hset hsetn
  induction dn with
  | nil=>simp at h2
  | cons q dn ih =>
   simp only[fK,cT];by_cases hq:n=q
   .subst hq;simp
   .rw[bR.set_other _ _ hq];exact ih (by simpa[hq] using h2)
 have u:mb (λn=>n=nm∨n∈dn) W A env h w A (env.set nm ev) (cT ((nm,.live (.row E t zs))::dn.map λn=>(n,.dead)) h) w':=by
  refine⟨c,λk hk=>?_,λ_ h=>h,λ_ h=>.inl h,λn hn=>bc.set_other _ _ (λe=>hn (.inl e)),λn hn=>?_,λn hn=>hset n (λe=>hn (.inl e)) (λe=>hn (.inr e)),?_,?_,?_⟩
  .obtain⟨mm,b,l,h1,h2,h3,h4⟩:=hlv k hk;exact⟨mm,b,l,.inr h1,h2,h3,h4⟩
  .exact bc.set_other _ _ (λe=>hn (e▸hu))
  .rintro n hn;by_cases hnm:n=nm
   .subst hnm;rw[hsetn];rcases hb x with⟨h1,h2,_⟩|⟨k,len,c',h1,h2,_⟩
    .exact .inr ⟨by rw[bc.set_same];exact h1,E,t,.inl (by rw[h2])⟩
    .refine .inl ⟨k,len,by rw[bc.set_same];exact h1,h2,λ_ hA=>?_⟩;rcases hev k len h1 with h3|⟨n',l,hn',he⟩
     .have:=m.Alt k hA;omega
     .obtain⟨b,hb1,hb2⟩:=hdn n' hn';exact (m.live_blk hb1 he).2 hb2 hA
   .rw[hsetd n hnm (hn.resolve_left hnm)];trivial
  .intro n b k l hn hl hm he;by_cases hnm:n=nm
   .subst hnm;rw[bc.set_same] at he;rcases hev k l he with h3|⟨n',l',hn',he'⟩
    .exact .inl h3
    .obtain⟨b',hb1,hb2⟩:=hdn n' hn';exact .inr ⟨n',b',l',.inr hn',hb1,hb2,he'⟩
   .rw[hsetd n hnm (hn.resolve_left hnm)] at hl;cases hl
  .intro n n' b c k l l' hn hn' hl hl' _ _ _ _;by_cases hnm:n=nm
   .by_cases hnm':n'=nm
    .rw[hnm,hnm']
    .rw[hsetd n' hnm' (hn'.resolve_left hnm')] at hl';cases hl'
   .rw[hsetd n hnm (hn.resolve_left hnm)] at hl;cases hl
 refine⟨(),A,env.set nm ev,trivial,m.upd u,m.ext u,?_⟩
 simp only[Dl.val,aB]
 rcases hb x with⟨h1,h2,h3⟩|⟨k,len,c',h1,h2,h3,h4⟩
 .exact .inl ⟨by rw[bc.set_same];exact h1,h3⟩
 .exact .inr ⟨k,len,E,c',by rw[bc.set_same];exact h1,h3,h4⟩
theorem KQ{t e ty:TypeId}(ht:P.underlying t=some (.slice e)){sz:Nat}(hsz:gX P e=some sz)(p q:Option Addr)(n cap c:Nat)(hn:n<=cap) :
  (Builtin.append_ #[t,t] ty #[.slice p n cap,.slice q 0 c]).run P w = .ok (.slice p n cap) w:=by
 have hf:(Builtin.firstCells sz 0 (.slice q 0 c)).run P w = .ok #[] w:=by
  cases q <;> simp[Builtin.firstCells,loadCells,loadCellsFrom]
 cases p with
 | none=>simp[Builtin.append_,run_underlying ht,kP hsz,Builtin.lenOf,hn,hf]
 | some b=>simp[Builtin.append_,run_underlying ht,kP hsz,Builtin.lenOf,hn,hf,storeCells]
theorem sW{t:CT}{cv cv':Nat->Option Value}{o o':Nat}{d:t.D}(h:Rd A w t cv o d)(hc:∀ j,j<t.size->cv' (o'+j)=cv (o+j)):Rd A w t cv' o' d:=by
 have key:∀(t:CT)(cv cv':Nat->Option Value)(o o':Nat)(d:t.D),Rd A w t cv o d->(∀ j,j<t.size->cv' (o'+j)=cv (o+j))->Rd A w t cv' o' d:=by
  intro t
  induction t with
  | pair a b iha ihb =>
   intro cv cv' o o' d h hc;refine⟨iha _ _ _ _ _ h.1 (λj hj=>hc j (by simp only[CT.size];omega)),ihb _ _ _ _ _ h.2 (λj hj=>?_)⟩;have:=hc (a.size+j) (by simp only[CT.size];omega);simpa[gW] using this
  | int k=>intro cv cv' o o' d h hc;have:=hc 0 (by simp[CT.size]);simp only[iL] at this;simp only[Rd] at h ⊢;rw[this];exact h
  | bool=>intro cv cv' o o' d h hc;have:=hc 0 (by simp[CT.size]);simp only[iL] at this;simp only[Rd] at h ⊢;rw[this];exact h
  | str=>intro cv cv' o o' d h hc;have:=hc 0 (by simp[CT.size]);simp only[iL] at this;simp only[Rd] at h ⊢;rw[this];exact h
  | sl t ih=>intro cv cv' o o' d h hc;have:=hc 0 (by simp[CT.size]);simp only[iL] at this;simp only[Rd] at h ⊢;rw[this];exact h
 exact key t cv cv' o o' d h hc
theorem Jd{t:CT}{xs ys:List t.D}{olds news rest:List Value}(ho:olds.length=xs.length*t.size)(hn:news.length=ys.length*t.size)
  (hx:∀ i (hi:i<xs.length),Rd A w t (λj=>olds[j]?) (i*t.size) xs[i]) (hy:∀ i (hi:i<ys.length),Rd A w t (λj=>news[j]?) (i*t.size) ys[i]) :
  ∀ i (hi:i<(xs++ys).length),Rd A w t (λj=>(olds++news++rest).toArray[j]?) (i*t.size) (xs++ys)[i]:=by
 intro i hi
 simp only[List.getElem?_toArray]
 by_cases hlt:i<xs.length
 .rw[List.getElem_append_left hlt];refine sW (hx i hlt) λj hj=>?_;have:(i+1)*t.size<=xs.length*t.size:=lZ _ (by omega);rw[fN,jH] at this;rw[iN,kA (by omega)]
 .rw[List.getElem_append_right (by omega)];have hi':i-xs.length<ys.length:=by simp at hi;omega
  refine sW (hy _ hi') λj hj=>?_;have e1:i*t.size=xs.length*t.size+(i-xs.length)*t.size:=by rw[← fN];congr 1;omega
  have:(i-xs.length+1)*t.size<=ys.length*t.size:=lZ _ (by omega);rw[fN,jH] at this;rw[iN,kr (by omega),kA (by omega)];congr 1;omega
end
end Go.SX
namespace Go.SX
theorem at6{P:Program}(w:World)(t ty e:TypeId)(i:TypeInfo)(ht:P.underlying t=some (.slice e))(hi:P.info? e=some i)
  (g off nS ut:Nat) (cur:Array Value) (hg:w.heap[g]? = some (.cells cur e (0,0)))
  (a:Addr) (m c:Nat) (news:List Value) (hl:news.length=m*i.size) (hnews:∀ j u,news[j]? = some u->w.cell? (a.add j)=some u) (h1:∀ u∈news,u.oneCell'=true)
  (hroom:nS+m<=ut) (hfit:off+nS*i.size+news.length<=cur.size) :
  (Builtin.append_ #[t,t] ty #[.slice (some ⟨g,off,none⟩) nS ut,.slice (some a) m c]).run P w =
   .ok (.slice (some ⟨g,off,none⟩) (nS+m) ut) (w.setRow g (cur.toList.take (off+nS*i.size)++news++cur.toList.drop (off+nS*i.size+news.length)).toArray):=by
 have hf:=run_firstCells_some (P:=P) w i.size m a m c news hl hnews
 have hst:=run_storeCells_at P g (off+nS*i.size) e news 0 cur w hg (by simpa using hfit) h1
 simp only[iL] at hst
 simp[Builtin.append_,run_underlying ht,sizeOf,typeInfo,hi,Builtin.lenOf,hroom,hf,Addr.add_lit,hst]
section
variable {P:Program} {w0:World} {N0:fY} {A:Nat->Prop} {env:bc} {h:bR} {w:World} {o:Oper} {a:Act} {ρ:Nat->SV} {d:Dl} {r:List Nat}
theorem aH0(l:List Value)(z:Array Value):l.toArray++z=(l++z.toList).toArray:=by apply Array.ext';simp
theorem Xs(l m:List Value)(z:Array Value):l.toArray++m.toArray++z=(l++m++z.toList).toArray:=by apply Array.ext';simp
theorem GO(m:Mod w0 N0 A env h w){t e ty:TypeId}{sz nm:Nat}{i:TypeInfo}{z:Value}{u:CT}{ys:List u.D}{p q:Option Addr}{c:Nat}{pre:List Prop}
  (ht:P.underlying t=some (.slice e)) (hsz:gX P e=some sz) (hi:P.info? e=some i) (hz:i.zero=some z) (hzs:z.cells.size=sz) (hb1:1<=i.bytes) (hu:sz=u.size) (hun:h nm = .un)
  (dn:List Nat) (hdn:∀ n∈dn,∃ b,h n = .live b/\b.mut=true)
  (hl:ys.length<=maxLen) (hby:ys.length*i.bytes<=140737488355328)
  (hsrc:ys.length=0∨∃ b off,q=some ⟨b,off,none⟩∧∀ i (hi:i<ys.length),Rd A w u (λo=>w.cell? ⟨b,o,none⟩) (off+i*u.size) ys[i]) :
  ∃ v w',(Builtin.append_ #[t,t] ty #[.slice p 0 0,.slice q ys.length c]).run P w = .ok v w' ∧
   eO w0 N0 A env h w (.det pre (.own nm sz) ((nm,.live (.row e u ys))::dn.map λn=>(n,.dead))) v w':=by
 subst hu
 by_cases h0:ys.length=0
 .refine⟨.slice p 0 0,w,by rw[h0];exact KQ ht hsz p q 0 0 c (eZ _),?_⟩;have:ys=[]:=nI h0;subst this;exact oO m hun dn hdn (W:=λ_=>False) (ev := .nil) (cS.refl w _) (λ_ h=>h.elim) (by simp) (λk l e=>by cases e) (λ_=>.inl ⟨rfl,rfl,p,rfl⟩)
 .obtain⟨b,off,rfl,hrd⟩:=hsrc.resolve_left h0;obtain⟨news,hnl,hnc,hn1⟩:=Cz ys off hrd;have hisz:i.size=u.size:=by unfold gX at hsz;rw[hi] at hsz;simpa using hsz
  have hnews:∀ j v,news[j]? = some v->w.cell? ((⟨b,off,none⟩:Addr).add j)=some v:=by
   intro j v hj;rw[Addr.add_lit,hnc j (List.getElem?_eq_some_iff.1 hj).1];exact hj
  have hrdn:∀ i (hi:i<ys.length),Rd A w u (λj=>news[j]?) (i*u.size) ys[i]:=λi hi =>
   sW (hrd i hi) λj hj=>by
    have:(i+1)*u.size<=ys.length*u.size:=lZ _ (by omega);rw[fN,jH] at this;rw[← hnc _ (by omega),gW]
  have h63:((ys.length:Nat):Int)<=9223372036854775807:=by simp only[maxLen] at hl;omega
  have fin:∀ v w' cap,ys.length<=cap->cap<=maxLen->v = .slice (some ⟨w.heap.size,0,none⟩) ys.length cap->w'=w.drew.alloc (.cells (news.toArray++Builtin.zeroCells z.cells (cap-ys.length)) e) →
    eO w0 N0 A env h w (.det pre (.own nm u.size) ((nm,.live (.row e u ys))::dn.map λn=>(n,.dead))) v w':=by
   rintro v w' cap hc1 hc2 rfl rfl;have cg:cS w (w.drew.alloc (.cells (news.toArray++Builtin.zeroCells z.cells (cap-ys.length)) e)) λ_=>False:=(cS.drew w _).trans (cS.alloc w.drew _ _);have hsize:(news.toArray++Builtin.zeroCells z.cells (cap-ys.length)).size=cap*u.size:=by
    simp only[Array.size_append,pP,hnl,size_zeroCells,hzs,← fN];congr 1;omega
   refine oO m hun dn hdn (W:=λ_=>False) (ev := .blk w.heap.size (0,ys.length)) cg (λ_ h=>h.elim) (by simp) (λk l e=>by cases e;exact .inl (eZ _)) (λx=>.inr ⟨w.heap.size,(0,ys.length),cap*u.size,rfl,?_,?_,?_⟩)
   .refine⟨_,cap,heap_alloc_new w.drew _,by rw[hsize,gz],rfl,hc1,hc2,λi hi=>?_⟩;rw[gz];have:=Jd (A:=A) (w:=w) (xs:=([]:List u.D)) (ys:=ys) (olds:=[]) (news:=news) (rest:=(Builtin.zeroCells z.cells (cap-ys.length)).toList) (by simp) hnl (by simp) hrdn i (by simpa using hi);refine iC (λ_ h=>h) x.keep u _ _ _ _ (λj _=>?_) this;rw[aH0];rfl
   .unfold World.shape?;have hh:=heap_alloc_new w.drew (.cells (news.toArray++Builtin.zeroCells z.cells (cap-ys.length)) e);simp only[World.size_drew] at hh;rw[hh];simp only[hsize]
   .show _=Value.slice _ _ ((cap*u.size-0)/u.size);rw[Nat.sub_zero,qq _ u.size_pos]
  have hge:=grownCap_ge w ys.length 0 e;have hcm:=grownCap_le_maxLen w ys.length 0 e hl;cases p with
  | none =>
   exact⟨_,_,run_append_nil (P:=P) w t ty e i z ht hi hz ⟨b,off,none⟩ ys.length c news (by rw[hnl,hisz]) hnews (by omega) h63 (by omega),fin _ _ _ hge hcm rfl rfl⟩
  | some pa =>
   have hr:=run_append_grow (P:=P) w t ty e i z ht hi hz pa 0 0 [] (by simp) (by simp) ⟨b,off,none⟩ ys.length c news (by rw[hnl,hisz]) hnews (by omega) (by simpa using h63) (growslice_fits (by omega) (by simpa using hby));simp only[gz] at hr;exact⟨_,_,hr,fin _ _ _ hge hcm rfl (by simp)⟩
theorem Lw(m:Mod w0 N0 A env h w)(f:FD A env w ρ a){t:TypeId}{nm:Nat}{s x:Operand}(ho:o.op = .call {callee := .builtin .append,args := #[s,x],argTypes := #[t,t]})
  (e:(Al P t nm (aX ρ s) (aX ρ x)).run h=some (d,r)) (hp:bU d.pre):bo P o a w0 N0 A env h w d:=by
 have ds:=cY f s
 have dx:=cY f x
 have exe:∀{v:Value}{w':World},(Builtin.append_ #[t,t] o.type #[a.eval s,a.eval x]).run P w = .ok v w'→(execOp a.eval o).run P w = .ok (.value v) w':=by
  intro v w' hr;unfold execOp;rw[ho];simp only[resolve,invoke,builtin,Sem.run_bind,Sem.run_pure,Result.andThen_ok,List.map_toArray,fK,List.map_nil,hr]
 unfold Al at e
 split at e
 next E sz he=>
  obtain⟨hu,hsz⟩:=vD he;split at e
  .rename_i i hi;split at e
   .rename_i z hb1 hz;have hb1:1<=i.bytes:=kT hb1;split at e
    .rename_i hzs;have hzs:z.cells.size=sz:=bJ hzs;have hisz:i.size=sz:=by unfold gX at hsz;rw[hi] at hsz;simpa using hsz
     split at e
     .rename_i n sz' hs;rw[hs] at ds;simp only[aB] at ds;simp only[Q.run] at e;split at e
      .rename_i p q hk;simp only[bp,br] at e;obtain⟨rfl,rfl⟩:=e;split at hk
       .rename_i E' u xs hl;split at hk
        .rename_i hE h1 h2;have hE:E'=E:=bJ hE;have h1:sz=u.size:=bJ h1;have h2:sz'=u.size:=bJ h2;subst hE;obtain⟨ys,q1,q2,e1,e2,rfl⟩:=Q.run_bind _ _ _ hk;simp only[Q.run] at e2;split at e2
         .rename_i p' q' hk';simp only[bp,br] at e2;obtain⟨rfl,rfl⟩:=e2;split at hk'
          .rename_i hun;cases ck hk';simp only[Dl.pre,bU,iD] at hp;obtain⟨pq,c,ev,hyl,hsrc⟩:=GE m e1 dx;have hdn:∀ n'∈[n],∃ b,h n' = .live b/\b.mut=true:=by simp[hl,kJ.mut]
           rcases ds with⟨hnil,pa,es⟩|⟨b,len,E2,cc,hb,hsh,es⟩
           .have hx:xs=[]:=by
             have:=m.nm n;rw[hl] at this;rcases this with⟨k',l',he',_⟩|⟨_,E3,t3,hb⟩
             .rw[hnil] at he';cases he'
             .rcases hb with hb|hb <;> cases hb;rfl
            subst hx;simp only[List.length_nil,gz] at hp;obtain⟨v,w',hr,g⟩:=GO (P:=P) (ty:=o.type) (p:=pa) (q:=pq) (c:=c) (pre:=[(([]:List u.D).length+ys.length)*i.bytes<=140737488355328]) m hu hsz hi hz hzs hb1 h1 hun [n] hdn hyl hp hsrc;refine⟨v,w',.inl (exe (by rw[es,ev];exact hr)),?_⟩;simpa using g
           .obtain⟨β,len⟩:=len;obtain⟨cur,cap,hh,hcs,hxl,hlc,hcm,hrd⟩:=(m.live_blk hl hb).1;simp only at hcs hxl hlc hrd es;have hcc:cc=cur.size:=by
             unfold World.shape? at hsh;rw[hh] at hsh;simp only[bp,br] at hsh;exact hsh.2.symm
            have hcap:(cc-β)/sz'=cap:=by rw[hcc,hcs,h2,kL];exact qq _ u.size_pos
            rw[hcap] at es;have hne:nm≠n:=λe'=>by rw[e',hl] at hun;cases hun
            have hnA:=(m.live_blk hl hb).2 rfl;subst h1;by_cases h0:ys.length=0
            .have:ys=[]:=nI h0;subst this;refine⟨.slice (some ⟨b,β,none⟩) len cap,w,.inl (exe (by rw[es,ev];exact KQ hu hsz _ _ _ _ _ hlc)),?_⟩;have g:=oO (pre:=[(xs.length+([]:List u.D).length)*i.bytes<=140737488355328]) (v := .slice (some ⟨b,β,none⟩) len cap) (E:=E') (t:=u) (zs:=xs++[]) m hun [n] hdn (W:=λ_=>False) (ev := .blk b (β,len)) (cS.refl w _) (λ_ h=>h.elim) (by simp)
              (λk l e=>by cases e;exact .inr ⟨n,(β,len),by simp,hb⟩) (λx=>.inr ⟨b,(β,len),cc,rfl,by rw[ke];exact (m.live_blk hl hb).1,by rw[hsh];unfold World.shape? at hsh;rw[hh] at hsh;cases hsh;rfl,by rw[← h2,hcap]⟩)
             simpa using g
            .obtain⟨bb,off,rfl,hrdy⟩:=hsrc.resolve_left h0;obtain⟨news,hnl,hnc,hn1⟩:=Cz ys off hrdy;have hnews:∀ j v,news[j]? = some v->w.cell? ((⟨bb,off,none⟩:Addr).add j)=some v:=by
              intro j v hj;rw[Addr.add_lit,hnc j (List.getElem?_eq_some_iff.1 hj).1];exact hj
             have hrdn:∀ i (hi:i<ys.length),Rd A w u (λj=>news[j]?) (i*u.size) ys[i]:=λi hi =>
              sW (hrdy i hi) λj hj=>by
               have:(i+1)*u.size<=ys.length*u.size:=lZ _ (by omega);rw[fN,jH] at this;rw[← hnc _ (by omega),gW]
             have holds:∀ i (hi:i<xs.length),Rd A w u (λj=>((cur.toList.drop β).take (len*u.size))[j]?) (i*u.size) xs[i]:=λi hi =>
              sW (hrd i hi) λj hj=>by
               have:(i+1)*u.size<=len*u.size:=lZ _ (by omega);rw[fN,jH] at this;rw[ot,am (by omega),pD,j7,gW]
             have hlec:len*u.size<=cap*u.size:=lZ _ hlc;have hol:((cur.toList.drop β).take (len*u.size)).length=xs.length*u.size:=by rw[cW,dR,gg,hxl];omega
             have hlen:(xs++ys).length=len+ys.length:=by rw[cD,hxl]
             have hsum:len+ys.length<=maxLen:=by
              have:(len+ys.length)*1<=(xs.length+ys.length)*i.bytes:=by rw[hxl];exact Nat.mul_le_mul_left _ hb1
              simp only[maxLen];omega
             by_cases hroom:len+ys.length<=cap
             .have hfit:β+len*u.size+news.length<=cur.size:=by
               have:(len+ys.length)*u.size<=cap*u.size:=lZ _ hroom;rw[fN] at this;rw[hnl,hcs];omega
              have hr:=at6 (P:=P) w t o.type E' i hu hi b β len cap cur hh ⟨bb,off,none⟩ ys.length c news (by rw[hnl,hisz]) hnews hn1 hroom (by rw[hisz];exact hfit);rw[hisz] at hr;refine⟨_,_,.inl (exe (by rw[es,ev];exact hr)),?_⟩;have hsize:(cur.toList.take (β+len*u.size)++news++cur.toList.drop (β+len*u.size+news.length)).toArray.size=cur.size:=by
               simp only[pP,cD,cW,dR,gg];omega
              have cg:=cS.setRow w b cur _ E' hh hsize;refine oO m hun [n] hdn (W:=λj=>j=b) (ev := .blk b (β,len+ys.length)) cg (λk hk=>⟨n,(β,len),by simp,hk▸hb⟩) (by simp) (λk l e=>by cases e;exact .inr ⟨n,(β,len),by simp,hb⟩) (λx=>.inr ⟨b,(β,len+ys.length),β+cap*u.size,rfl,?_,?_,?_⟩)
              .refine⟨_,cap,setRow_heap w b cur _ E' _ hh,by rw[hsize,hcs],hlen,hroom,hcm,λi hi=>?_⟩;refine iC (λ_ h=>h) x.keep u _ _ _ _ (λj _=>rfl) (sW (Jd (rest:=cur.toList.drop (β+len*u.size+news.length)) hol hnl holds hrdn i hi) λj hj=>?_);simp only[List.getElem?_toArray];rw[List.take_add,iN,iN,kr (by rw[cW,gg];omega),iN];congr 1;rw[cW,gg];omega
              .unfold World.shape?;rw[setRow_heap w b cur _ E' _ hh];simp only[hsize,hcs]
              .show _=Value.slice _ _ ((β+cap*u.size-β)/u.size);rw[kL,qq _ u.size_pos]
             .have holdsc:∀ j v,((cur.toList.drop β).take (len*u.size))[j]? = some v->w.cell? ((⟨b,β,none⟩:Addr).add j)=some v:=by
               intro j v hj;rw[Addr.add_lit,cell_of_row w b _ cur E' (0,0) hh];rw[ot] at hj;split at hj
               .rwa [pD,j7] at hj
               .cases hj
              have hr:=run_append_grow (P:=P) w t o.type E' i z hu hi hz ⟨b,β,none⟩ len cap ((cur.toList.drop β).take (len*u.size)) (by rw[hol,hxl,hisz]) holdsc ⟨bb,off,none⟩ ys.length c news (by rw[hnl,hisz]) hnews (by omega)
               (by simp only[maxLen] at hsum;omega) (growslice_fits (by omega) (by rw[← hxl];exact hp))
              refine⟨_,_,.inl (exe (by rw[es,ev];exact hr)),?_⟩;have hge:=grownCap_ge w (len+ys.length) cap E';have hcm':=grownCap_le_maxLen w (len+ys.length) cap E' hsum;generalize grownCap w (len+ys.length) cap E'=cap' at *;have hsize:(((cur.toList.drop β).take (len*u.size)).toArray++news.toArray++Builtin.zeroCells z.cells (cap'-(len+ys.length))).size=cap'*u.size:=by
               simp only[Array.size_append,pP,hol,hnl,size_zeroCells,hzs,← fN];congr 1;omega
              have cg:cS w (w.drew.alloc (.cells (((cur.toList.drop β).take (len*u.size)).toArray++news.toArray++Builtin.zeroCells z.cells (cap'-(len+ys.length))) E')) λ_=>False:=(cS.drew w _).trans (cS.alloc w.drew _ _);refine oO m hun [n] hdn (W:=λ_=>False) (ev := .blk w.heap.size (0,len+ys.length)) cg (λ_ h=>h.elim) (by simp) (λk l e=>by cases e;exact .inl (eZ _)) (λx=>.inr ⟨w.heap.size,(0,len+ys.length),cap'*u.size,rfl,?_,?_,?_⟩)
              .refine⟨_,cap',heap_alloc_new w.drew _,by rw[hsize,gz],hlen,hge,hcm',λi hi=>?_⟩;have:=Jd (A:=A) (w:=w) (rest:=(Builtin.zeroCells z.cells (cap'-(len+ys.length))).toList) hol hnl holds hrdn i hi;rw[gz];refine iC (λ_ h=>h) x.keep u _ _ _ _ (λj _=>?_) this;rw[Xs]
              .unfold World.shape?;have hh':=heap_alloc_new w.drew (.cells (((cur.toList.drop β).take (len*u.size)).toArray++news.toArray++Builtin.zeroCells z.cells (cap'-(len+ys.length))) E');simp only[World.size_drew] at hh';rw[hh'];simp only[hsize]
              .show _=Value.slice _ _ ((cap'*u.size-0)/u.size);rw[Nat.sub_zero,qq _ u.size_pos]
          .cases hk'
         .cases e2
        .cases hk
       .cases hk
      .cases e
     .rename_i hs;rw[hs] at ds;simp only[aB] at ds;split at e
      .rename_i u hct;split at e
       .rename_i h1;have h1:sz=u.size:=bJ h1;obtain⟨ys,q1,q2,e1,e2,rfl⟩:=Q.run_bind _ _ _ e;simp only[Q.run] at e2;split at e2
        .rename_i p' q' hk';simp only[bp,br] at e2;obtain⟨rfl,rfl⟩:=e2;split at hk'
         next hun=>cases ck hk';simp only[Dl.pre,bU,iD] at hp;obtain⟨pq,c,ev,hyl,hsrc⟩:=GE m e1 dx;obtain⟨v,w',hr,g⟩:=GO (P:=P) (ty:=o.type) (p:=none) (q:=pq) (c:=c) (pre:=[ys.length*i.bytes<=140737488355328]) m hu hsz hi hz hzs hb1 h1 hun [] (by simp) hyl hp hsrc;exact⟨v,w',.inl (exe (by rw[ds,ev];exact hr)),g⟩
         .cases hk'
        .cases e2
       .cases e
      .cases e
     .rename_i u xs hs;rw[hs] at ds;simp only[aB] at ds;split at e
      .rename_i h1;have h1:sz=u.size:=bJ h1;obtain⟨ys,q1,q2,e1,e2,rfl⟩:=Q.run_bind _ _ _ e;simp only[Q.run] at e2;split at e2
       .rename_i p' q' hk';simp only[bp,br] at e2;obtain⟨rfl,rfl⟩:=e2;split at hk'
        next hun=>cases ck hk';simp only[Dl.pre,bU,iD] at hp;obtain⟨hp1,rfl⟩:=hp;obtain⟨_,pa,es⟩:=ds;obtain⟨pq,c,ev,hyl,hsrc⟩:=GE m e1 dx;simp only[List.length_nil,gz] at hp1;obtain⟨v,w',hr,g⟩:=GO (P:=P) (ty:=o.type) (p:=pa) (q:=pq) (c:=c) (pre:=[(([]:List u.D).length+ys.length)*i.bytes<=140737488355328,([]:List u.D)=[]]) m hu hsz hi hz hzs hb1 h1 hun [] (by simp) hyl hp1 hsrc;exact⟨v,w',.inl (exe (by rw[es,ev];exact hr)),g⟩
        .cases hk'
       .cases e2
      .cases e
     .cases e
    .cases e
   .cases e
  .cases e
 .cases e
end
end Go.SX
namespace Go.SX
section
variable {P:Program} {w0:World} {N0:fY} {A:Nat->Prop} {env:bc} {h:bR} {w:World} {o:Oper} {a:Act} {ρ:Nat->SV} {d:Dl} {r:List Nat}
theorem GN(len cap:Nat)(lo hi a:Option Value)(l hh m:Nat)
  (hm:(a=none/\m=cap)∨∃ k i,a=some (.int k i)/\0<=i/\i<=cap/\m=i.toNat)
  (b:(hi=none/\a=none/\hh=len)∨∃ k i,hi=some (.int k i)/\0<=i/\i<=m/\hh=i.toNat)
  (c:(lo=none/\l=0)∨∃ k i,lo=some (.int k i)/\0<=i/\i<=hh/\l=i.toNat) :
  (Instr.sliceBounds true len cap lo hi a).run P w = .ok (l,hh,m) w:=by
 rcases hm with⟨rfl,rfl⟩|⟨km,im,rfl,m0,m1,rfl⟩ <;> rcases b with⟨rfl,e,rfl⟩|⟨kh,ih,rfl,h0,h1,rfl⟩ <;> rcases c with⟨rfl,rfl⟩|⟨kl,il,rfl,l0,l1,rfl⟩ <;>
  first
  | (cases e;done)
  | (simp[Instr.sliceBounds,run_sliceBound, *,-Int.ofNat_toNat])
theorem zu{x:Option Operand}{b v:Int}(f:FD A env w ρ a)(e:oq (x.map (aX ρ)) b=some v) :
  (x=none/\v=b)∨∃ k y,x=some y/\a.eval y = .int k v:=by
 cases x with
 | none=>simp at e;cases e;exact .inl ⟨rfl,rfl⟩
 | some y =>
  have c:=cY f y;simp only[Option.map] at e;unfold oq at e;split at e
  next hh=>cases hh
  next k n hh=>simp at hh;rw[hh] at c;simp only[aB] at c;simp_all
  .cases e
theorem Gu{t:CT}{v:Value}{xs:List t.D}(hs:qa A w t v xs){l hh:Nat}(h1:l<=hh)(g:hh<=xs.length) :
  ∃ p cap,v = .slice p xs.length cap/\xs.length<=cap/\cap<=maxLen∧∀ m,hh<=m->m<=cap →
   qa A w t (.slice (if m=l then p else p.map (·.add (l*t.size))) (hh-l) (m-l)) (cA xs l hh):=by
 have a:(cA xs l hh).length=hh-l:=by simp[cA];omega
 obtain⟨hl,⟨⟨p,rfl⟩,rfl⟩|⟨b,off,cap,rfl,c1,c2,c3,c4⟩⟩:=hs
 .refine⟨p,0,rfl,eZ _,by simp,λm hm c=>?_⟩;have:m=0:=by omega
  subst this;have d:l=0:=by simp at g;omega
  have e:hh=0:=by simpa using g
  subst d;subst e;exact⟨by simp[cA],.inl ⟨⟨p,by simp⟩,by simp[cA]⟩⟩
 .refine⟨_,cap,rfl,c1,c2,λm hm c=>⟨by omega,?_⟩⟩;by_cases f:m=l
  .simp_all
  .rw[af f];refine .inr ⟨b,off+l*t.size,m-l,by rw[a];simp[Addr.add_lit],by omega,by omega,c3,λi hi=>?_⟩;have eg:(cA xs l hh)[i]=xs[l+i]:=by simp[cA]
   grind
theorem aB4(m:Mod w0 N0 A env h w)(f:FD A env w ρ a){t:TypeId}{x:Operand}{lo hi mx:Option Operand}(ho:o.op = .slice t x lo hi mx)
  (e:(HD P t (aX ρ x) (lo.map (aX ρ)) (hi.map (aX ρ)) (mx.map (aX ρ))).run h=some (d,r)) (hp:bU d.pre):bo P o a w0 N0 A env h w d:=by
 have dx:=cY f x
 unfold HD at e
 split at e
 next E sz he=>
  obtain⟨hu,hsz⟩:=vD he;have exe:∀{p:Option Addr}{len cap l hh m:Nat},a.eval x = .slice p len cap →
    ((mx=none/\m=cap)∨∃ y k i,mx=some y/\a.eval y = .int k i/\0<=i/\i<=cap/\m=i.toNat) →
    ((hi=none/\mx=none/\hh=len)∨∃ y k i,hi=some y/\a.eval y = .int k i/\0<=i/\i<=m/\hh=i.toNat) →
    ((lo=none/\l=0)∨∃ y k i,lo=some y/\a.eval y = .int k i/\0<=i/\i<=hh/\l=i.toNat) →
    (execOp a.eval o).run P w = .ok (.value (.slice (if m=l then p else p.map (·.add (l*sz))) (hh-l) (m-l))) w:=by
   intro p len cap l hh m ev hm hhi hlo;unfold execOp;rw[ho];have hb:=GN (P:=P) (w:=w) len cap (lo.map a.eval) (hi.map a.eval) (mx.map a.eval) l hh m
    (by rcases hm with⟨rfl,rfl⟩|⟨y,k,i,rfl,e1,e2⟩;exact .inl ⟨rfl,rfl⟩;exact .inr ⟨k,i,by simp[e1],e2⟩)
    (by rcases hhi with⟨rfl,rfl,rfl⟩|⟨y,k,i,rfl,e1,e2⟩;exact .inl ⟨rfl,rfl,rfl⟩;exact .inr ⟨k,i,by simp[e1],e2⟩)
    (by rcases hlo with⟨rfl,rfl⟩|⟨y,k,i,rfl,e1,e2⟩;exact .inl ⟨rfl,rfl⟩;exact .inr ⟨k,i,by simp[e1],e2⟩)
   simp only[Instr.sliceAt,Instr.slice,Sem.run_bind,run_underlying hu,Result.andThen_ok,ev,hb,kP hsz,Sem.run_pure]
  have loF:∀{l hh:Int}{len:Nat},oq (lo.map (aX ρ)) 0=some l->0<=l->l<=hh->((lo=none/\l.toNat=0)∨∃ y k i,lo=some y/\a.eval y = .int k i/\0<=i/\i<=hh.toNat/\l.toNat=i.toNat):=by
   intro l hh len hb h0 h1;rcases zu f hb with⟨rfl,rfl⟩|⟨k,y,rfl,e1⟩
   .exact .inl ⟨rfl,rfl⟩
   .exact .inr ⟨y,k,l,rfl,e1,h0,by omega,rfl⟩
  split at e
  .rename_i u xs hx;rw[hx] at dx;simp only[aB] at dx;split at e
   .rename_i l hh hs1 hb1 hb2;have hs1:sz=u.size:=bJ hs1;subst hs1;split at e
    .rename_i hmx;cases ck e;simp only[Dl.pre,bU,iD] at hp;have hmx':mx=none:=by cases mx <;> simp_all
     obtain⟨p,cap,ev,c1,c2,c3⟩:=Gu dx (l:=l.toNat) (hh:=hh.toNat) (by omega) (by omega);refine bo.pure m (exe ev (.inl ⟨hmx',rfl⟩) ?_ (loF (len:=0) hb1 hp.1 hp.2.1)) (by simp only[aB];exact c3 cap (by omega) (eZ _));rcases zu f hb2 with⟨rfl,rfl⟩|⟨k,y,rfl,e1⟩
     .exact .inl ⟨rfl,hmx',by simp⟩
     .exact .inr ⟨y,k,hh,rfl,e1,by omega,by omega,rfl⟩
    .rename_i km mm hmx;split at e
     case h_2=>cases e
     rename_i ys hhi;cases ck e;simp only[Dl.pre,bU,iD] at hp;obtain⟨hp1,hp2,hp3,hp4⟩:=hp;cases mx with
     | none=>cases hmx
     | some y =>
      have dy:=cY f y;simp only[Option.map,bp] at hmx;rw[hmx] at dy;simp only[aB] at dy;obtain⟨p,cap,ev,c1,c2,c3⟩:=Gu dx (l:=l.toNat) (hh:=hh.toNat) (by omega) (by omega);refine bo.pure m (exe ev (.inr ⟨y,km,mm,rfl,dy.1,by omega,by omega,rfl⟩) ?_ (loF (len:=0) hb1 hp1 hp2)) ?_
      .rcases zu f hb2 with⟨rfl,rfl⟩|⟨k,y',rfl,e1⟩
       .cases hhi
       .exact .inr ⟨y',k,hh,rfl,e1,by omega,by omega,rfl⟩
      .simp only[aB];have hlen:(cA xs l.toNat hh.toNat).length=hh.toNat-l.toNat:=by simp[cA];omega
       exact⟨c3 mm.toNat (by omega) (by omega),_,by rw[hlen];congr 1;omega⟩
    .cases e
   .cases e
  .rename_i n sz' hx;rw[hx] at dx;simp only[aB] at dx;split at e
   .rename_i hmx;have hmx':mx=none:=by cases mx <;> simp_all
    simp only[Q.run] at e;split at e
    .rename_i p q hk;simp only[bp,br] at e;obtain⟨rfl,rfl⟩:=e;have fin:∀{E':TypeId}{u:CT}{xs:List u.D}{l hh:Int}{A':Nat->Prop}{h':bR},Mod w0 N0 A' env h' w->dh A env w A' env w->(h n = .live (.row E' u xs)∨h n = .live (.frz E' u xs)) →
       h' n = .live (.frz E' u xs)->sz=u.size->sz'=u.size →
       oq (lo.map (aX ρ)) 0=some l->oq (hi.map (aX ρ)) xs.length=some hh->0<=l->l<=hh->hh<=xs.length →
       ∃ v,(execOp a.eval o).run P w = .ok (.value v) w/\aB A' env w (.dsl u (cA xs l.toNat hh.toNat)) v:=by
      intro E' u xs l hh A' h' m' x' hl hl' h1 h2 hb1 hb2 p1 p2 p3;have hrs:qa A' w u (a.eval x) xs:=by
       rcases dx with⟨hnil,pa,ev⟩|⟨b,len,E2,c,hb,hsh,ev⟩
       .have hx0:xs=[]:=by
         have:=m'.nm n;rw[hl'] at this;rcases this with⟨k',l',he',_⟩|⟨_,E3,t3,hb⟩
         .rw[hnil] at he';cases he'
         .rcases hb with hb|hb <;> cases hb;rfl
        subst hx0;exact⟨by simp,.inl ⟨⟨pa,ev⟩,rfl⟩⟩
       .have hbd:=(m'.live_blk hl' hb).1;rw[ev,h2];exact CG (λ_ h=>h) hbd.2 hbd.1 hsh
      subst h1;obtain⟨p,cap,ev,c1,c2,c3⟩:=Gu hrs (l:=l.toNat) (hh:=hh.toNat) (by omega) (by omega);refine⟨_,exe ev (.inl ⟨hmx',rfl⟩) ?_ (loF (len:=0) hb1 p1 p2),by simp only[aB];exact c3 cap (by omega) (eZ _)⟩;rcases zu f hb2 with⟨rfl,rfl⟩|⟨k,y,rfl,e1⟩
      .exact .inl ⟨rfl,hmx',by simp⟩
      .exact .inr ⟨y,k,hh,rfl,e1,by omega,by omega,rfl⟩
     split at hk
     .rename_i E' u xs hl;split at hk
      .rename_i l hh h1 h2 hb1 hb2;cases ck hk;simp only[Dl.pre,bU,iD] at hp;have ok:nu h [(n,.live (.frz E' u xs))]:=by
        intro n' b hb;simp only[jR,br] at hb;obtain⟨rfl,rfl⟩:=hb;exact⟨E',u,xs,hl,rfl⟩
       obtain⟨m2,x2⟩:=m.freeze ok;obtain⟨v,hr,hd⟩:=fin m2 x2 (.inl hl) (by simp[cT]) (bJ h1) (bJ h2) hb1 hb2 hp.1 hp.2.1 hp.2.2;exact⟨v,w,.inl hr,(),_,env,trivial,m2,x2,hd⟩
      .cases hk
     .rename_i E' u xs hl;split at hk
      next l hh h1 h2 hb1 hb2=>cases ck hk;simp only[Dl.pre,bU,iD] at hp;obtain⟨v,hr,hd⟩:=fin m dh.refl (.inr hl) hl (bJ h1) (bJ h2) hb1 hb2 hp.1 hp.2.1 hp.2.2;exact bo.pure m hr hd
      .cases hk
     .cases hk
    .cases e
   .cases e
  .rename_i hx;rw[hx] at dx;simp only[aB] at dx;split at e
   .rename_i l hh hb1 hb2 hmx;have hmx':mx=none:=by cases mx <;> simp_all
    cases ck e;simp only[Dl.pre,bU,iD] at hp;obtain⟨rfl,rfl⟩:=hp;have hr:=exe (l:=0) (hh:=0) (m:=0) dx (.inl ⟨hmx',rfl⟩) (by
     rcases zu f hb2 with⟨rfl,_⟩|⟨k,y,rfl,e1⟩
     .exact .inl ⟨rfl,hmx',rfl⟩
     .exact .inr ⟨y,k,0,rfl,e1,by omega,by omega,rfl⟩) (by
     rcases zu f hb1 with⟨rfl,_⟩|⟨k,y,rfl,e1⟩
     .exact .inl ⟨rfl,rfl⟩
     .exact .inr ⟨y,k,0,rfl,e1,by omega,by omega,rfl⟩)
    exact bo.pure m hr (by simp[aB])
   .cases e
  .cases e
 .cases e
def GC(P:Program)(t:TypeId)(nm:Nat)(x:SV)(lo hi mx:Option SV):Q Dl:=match qW P t,lo,hi,mx with
 | some (_,sz),none,some (.int _ hh),none=>match x with
  | .own n sz' => .ask n fun
   | .live (.row E u xs)=>match Nat.beq sz u.size,Nat.beq sz' u.size with
    | true,true => .ask nm fun
     | .un => .ret (.det [0<=hh,hh<=xs.length] (.own nm sz) [(nm,.live (.row E u (xs.take hh.toNat))),(n,.dead)])
     | _ => .fail
    | _,_ => .fail
   | _ => .fail
  | _ => .fail
 | some (_,sz),some (.int _ l),none,none=>match x with
  | .own n sz' => .ask n fun
   | .live (.row E u xs)=>match Nat.beq sz u.size,Nat.beq sz' u.size with
    | true,true => .ask nm fun
     | .un => .ret (.det [0<=l,l<=xs.length] (.own nm sz) [(nm,.live (.row E u (xs.drop l.toNat))),(n,.dead)])
     | _ => .fail
    | _,_ => .fail
   | _ => .fail
  | _ => .fail
 | _,_,_,_ => .fail
def IF(P:Program)(t tn:TypeId)(nm:Nat)(s x:SV):Q Dl:=match qW P t,s,x,P.underlying tn with
 | some (e,sz),.nilsl,.int _ n,some (.int _)=>match xp P 8 e,zeroCells P e,P.info? e with
  | some u,some z,some i=>match Nat.beq u.size sz,Nat.beq z.length sz,Nat.ble 1 i.bytes,jw u z with
   | true,true,true,.ret (d,_,[]) => .ask nm fun
    | .un => .ret (.det [0<=n,n*(i.bytes:Int)<=140737488355328] (.own nm sz) [(nm,.live (.row e u (replicate n.toNat d)))])
    | _ => .fail
   | _,_,_,_ => .fail
  | _,_,_ => .fail
 | _,_,_,_ => .fail
def ut(P:Program)(t:TypeId)(x:SV):Q Dl:=match P.underlying t,x with
 | some (.slice _),.nilsl=>bZ (.int .i64 0)
 | _,_ => .fail
theorem We(m:Mod w0 N0 A env h w)(f:FD A env w ρ a){t:TypeId}{x:Operand}(ho:o.op = .call {callee := .builtin .cap,args := #[x],argTypes := #[t]})
  (e:(ut P t (aX ρ x)).run h=some (d,r)):bo P o a w0 N0 A env h w d:=by
 have dx:=cY f x
 unfold ut at e
 split at e
 next E hu hx=>rw[hx] at dx;simp only[aB] at dx;unfold bZ at e;cases ck e;refine bo.pure m (v := .int .i64 0) ?_ (by simp only[aB];exact⟨trivial,KS (by decide)⟩);unfold execOp;rw[ho];simp[resolve,invoke,builtin,Builtin.cap_,run_underlying hu,dx,goInt]
 .cases e
theorem ai4(m:Mod w0 N0 A env h w)(f:FD A env w ρ a){t:TypeId}{nm:Nat}{x:Operand}{lo hi mx:Option Operand}(ho:o.op = .slice t x lo hi mx)
  (e:(GC P t nm (aX ρ x) (lo.map (aX ρ)) (hi.map (aX ρ)) (mx.map (aX ρ))).run h=some (d,r)) (hp:bU d.pre):bo P o a w0 N0 A env h w d:=by
 have dx:=cY f x
 unfold GC at e
 split at e
 case h_3=>cases e
 next E sz kh hh he hlo hhi hmx=>
  obtain⟨hu,hsz⟩:=vD he;have hlo':lo=none:=by cases lo <;> simp_all
  have hmx':mx=none:=by cases mx <;> simp_all
  subst hlo' hmx';cases hi with
  | none=>cases hhi
  | some y =>
  simp only[Option.map,bp] at hhi;have dy:=cY f y;rw[hhi] at dy;simp only[aB] at dy;split at e
  case h_2=>cases e
  rename_i n sz' hx;rw[hx] at dx;simp only[aB] at dx;simp only[Q.run] at e;split at e
  case h_2=>cases e
  rename_i p q hk;simp only[bp,br] at e;obtain⟨rfl,rfl⟩:=e;split at hk
  case h_2=>cases hk
  rename_i E' u xs hl;split at hk
  case h_2=>cases hk
  rename_i hs1 hs2;have hs1:sz=u.size:=bJ hs1;have hs2:sz'=u.size:=bJ hs2;subst hs1;simp only[Q.run] at hk;split at hk
  case h_2=>cases hk
  rename_i p' q' hk';simp only[bp,br] at hk;obtain⟨rfl,rfl⟩:=hk;split at hk'
  case h_2=>cases hk'
  rename_i hun;cases ck hk';simp only[Dl.pre,bU,iD] at hp;have exe:∀{p:Option Addr}{len cap:Nat},a.eval x = .slice p len cap->hh.toNat<=cap->(execOp a.eval o).run P w = .ok (.value (.slice p hh.toNat cap)) w:=by
   intro p len cap ev hc;unfold execOp;rw[ho];have hb:=GN (P:=P) (w:=w) len cap none (some (a.eval y)) none 0 hh.toNat cap (.inl ⟨rfl,rfl⟩) (.inr ⟨kh,hh,by rw[dy.1],hp.1,by omega,rfl⟩) (.inl ⟨rfl,rfl⟩);simp only[Option.map,Instr.sliceAt,Instr.slice,Sem.run_bind,run_underlying hu,Result.andThen_ok,ev,hb,kP hsz,Sem.run_pure,Nat.zero_mul,Nat.sub_zero];congr 3;split
   .rfl
   .cases p <;> simp[Addr.add]
  have hdn:∀ n'∈[n],∃ b,h n' = .live b/\b.mut=true:=by simp[hl,kJ.mut]
  rcases dx with⟨hnil,pa,es⟩|⟨b,len,E2,cc,hb,hsh,es⟩
  .have hx:xs=[]:=by
    have:=m.nm n;rw[hl] at this;rcases this with⟨k',l',he',_⟩|⟨_,E3,t3,hb⟩
    .rw[hnil] at he';cases he'
    .rcases hb with hb|hb <;> cases hb;rfl
   subst hx;have h0:hh.toNat=0:=by simp at hp;omega
   have g:=oO (pre:=[0<=hh,hh<=([]:List u.D).length]) (v := .slice pa 0 0) (E:=E') (t:=u) (zs:=([]:List u.D).take hh.toNat) m hun [n] hdn (W:=λ_=>False) (ev := .nil) (cS.refl w _) (λ_ h=>h.elim) (by simp)
    (λk l e=>by cases e) (λ_=>.inl ⟨rfl,by simp,pa,rfl⟩)
   exact⟨_,w,.inl (exe es (by omega)),by rw[h0];simpa using g⟩
  .obtain⟨β,len⟩:=len;obtain⟨cur,cap,hhp,hcs,hxl,hlc,hcm,hrd⟩:=(m.live_blk hl hb).1;simp only at hcs hxl hlc hrd es;have hcc:cc=cur.size:=by
    unfold World.shape? at hsh;rw[hhp] at hsh;simp only[bp,br] at hsh;exact hsh.2.symm
   have hcap:(cc-β)/sz'=cap:=by rw[hcc,hcs,hs2,kL];exact qq _ u.size_pos
   rw[hcap] at es;have hle:hh.toNat<=xs.length:=by omega
   have g:=oO (pre:=[0<=hh,hh<=xs.length]) (v := .slice (some ⟨b,β,none⟩) hh.toNat cap) (E:=E') (t:=u) (zs:=xs.take hh.toNat) m hun [n] hdn (W:=λ_=>False) (ev := .blk b (β,hh.toNat)) (cS.refl w _) (λ_ h=>h.elim) (by simp)
    (λk l e=>by cases e;exact .inr ⟨n,(β,len),by simp,hb⟩) (λx=>.inr ⟨b,(β,hh.toNat),cc,rfl,⟨cur,cap,hhp,hcs,by simp;omega,by omega,hcm,λi hi=>?_⟩,by rw[hsh];unfold World.shape? at hsh;rw[hhp] at hsh;cases hsh;rfl,by rw[← hs2,hcap]⟩)
   .exact⟨_,w,.inl (exe es (by omega)),by simpa using g⟩
   .have hi':i<xs.length:=by simp at hi;omega
    rw[List.getElem_take];exact hrd i hi'
 next E sz kl l he hlo hhi hmx=>
  obtain⟨hu,hsz⟩:=vD he;have hhi':hi=none:=by cases hi <;> simp_all
  have hmx':mx=none:=by cases mx <;> simp_all
  subst hhi' hmx';cases lo with
  | none=>cases hlo
  | some y =>
  simp only[Option.map,bp] at hlo;have dy:=cY f y;rw[hlo] at dy;simp only[aB] at dy;split at e
  case h_2=>cases e
  rename_i n sz' hx;rw[hx] at dx;simp only[aB] at dx;simp only[Q.run] at e;split at e
  case h_2=>cases e
  rename_i p q hk;simp only[bp,br] at e;obtain⟨rfl,rfl⟩:=e;split at hk
  case h_2=>cases hk
  rename_i E' u xs hl;split at hk
  case h_2=>cases hk
  rename_i hs1 hs2;have hs1:sz=u.size:=bJ hs1;have hs2:sz'=u.size:=bJ hs2;subst hs1;simp only[Q.run] at hk;split at hk
  case h_2=>cases hk
  rename_i p' q' hk';simp only[bp,br] at hk;obtain⟨rfl,rfl⟩:=hk;split at hk'
  case h_2=>cases hk'
  rename_i hun;cases ck hk';simp only[Dl.pre,bU,iD] at hp;have exe:∀{p:Option Addr}{len cap:Nat},a.eval x = .slice p len cap->l.toNat<=len->(execOp a.eval o).run P w = .ok (.value (.slice (if cap=l.toNat then p else p.map (·.add (l.toNat*u.size))) (len-l.toNat) (cap-l.toNat))) w:=by
   intro p len cap ev hc;unfold execOp;rw[ho];have hb:=GN (P:=P) (w:=w) len cap (some (a.eval y)) none none l.toNat len cap (.inl ⟨rfl,rfl⟩) (.inl ⟨rfl,rfl,rfl⟩) (.inr ⟨kl,l,by rw[dy.1],hp.1,by omega,rfl⟩);simp only[Option.map,Instr.sliceAt,Instr.slice,Sem.run_bind,run_underlying hu,Result.andThen_ok,ev,hb,kP hsz,Sem.run_pure]
  have hdn:∀ n'∈[n],∃ b,h n' = .live b/\b.mut=true:=by simp[hl,kJ.mut]
  rcases dx with⟨hnil,pa,es⟩|⟨b,len,E2,cc,hb,hsh,es⟩
  .have hx:xs=[]:=by
    have:=m.nm n;rw[hl] at this;rcases this with⟨k',l',he',_⟩|⟨_,E3,t3,hb⟩
    .rw[hnil] at he';cases he'
    .rcases hb with hb|hb <;> cases hb;rfl
   subst hx;have h0:l.toNat=0:=by simp at hp;omega
   have g:=oO (pre:=[0<=l,l<=([]:List u.D).length]) (v := .slice pa 0 0) (E:=E') (t:=u) (zs:=([]:List u.D).drop l.toNat) m hun [n] hdn (W:=λ_=>False) (ev := .nil) (cS.refl w _) (λ_ h=>h.elim) (by simp)
    (λk l e=>by cases e) (λ_=>.inl ⟨rfl,by simp,pa,rfl⟩)
   have ex:=exe es (by omega);rw[h0] at ex;exact⟨_,w,.inl ex,by simpa[h0] using g⟩
  .obtain⟨β,len⟩:=len;obtain⟨cur,cap,hhp,hcs,hxl,hlc,hcm,hrd⟩:=(m.live_blk hl hb).1;simp only at hcs hxl hlc hrd es;have hcc:cc=cur.size:=by
    unfold World.shape? at hsh;rw[hhp] at hsh;simp only[bp,br] at hsh;exact hsh.2.symm
   have hcap:(cc-β)/sz'=cap:=by rw[hcc,hcs,hs2,kL];exact qq _ u.size_pos
   rw[hcap] at es;have hle:l.toNat<=xs.length:=by omega
   have ex:=exe es (by omega);by_cases hfull:cap=l.toNat
   .rw[am hfull] at ex;have hz:xs.drop l.toNat=[]:=List.drop_eq_nil_of_le (by omega);have g:=oO (pre:=[0<=l,l<=xs.length]) (v := .slice (some ⟨b,β,none⟩) 0 0) (E:=E') (t:=u) (zs:=xs.drop l.toNat) m hun [n] hdn (W:=λ_=>False) (ev := .nil) (cS.refl w _) (λ_ h=>h.elim) (by simp)
     (λk l e=>by cases e) (λ_=>.inl ⟨rfl,hz,_,rfl⟩)
    rw[show len-l.toNat=0 by omega,show cap-l.toNat=0 by omega] at ex;exact⟨_,w,.inl ex,by simpa using g⟩
   .rw[af hfull] at ex;have hmul:l.toNat*u.size+(cap-l.toNat)*u.size=cap*u.size:=by rw[← fN];congr 1;omega
    have g:=oO (pre:=[0<=l,l<=xs.length]) (v := .slice (some ⟨b,β+l.toNat*u.size,none⟩) (len-l.toNat) (cap-l.toNat)) (E:=E') (t:=u) (zs:=xs.drop l.toNat) m hun [n] hdn (W:=λ_=>False) (ev := .blk b (β+l.toNat*u.size,len-l.toNat)) (cS.refl w _) (λ_ h=>h.elim) (by simp)
     (λk l e=>by cases e;exact .inr ⟨n,(β,len),by simp,hb⟩) (λx=>.inr ⟨b,(β+l.toNat*u.size,len-l.toNat),cc,rfl,⟨cur,cap-l.toNat,hhp,by rw[hcs,gW,hmul],by simp only[dR];omega,by omega,by omega,λi hi=>?_⟩,by rw[hsh];unfold World.shape? at hsh;rw[hhp] at hsh;cases hsh;rfl,by
      show _=Value.slice _ _ ((cc-(β+l.toNat*u.size))/u.size);rw[hcc,hcs,show β+cap*u.size-(β+l.toNat*u.size)=(cap-l.toNat)*u.size by rw[← hmul];omega,qq _ u.size_pos]⟩)
    .exact⟨_,w,.inl ex,by simpa only[Option.map,Addr.add_lit,fK,List.map_nil] using g⟩
    .have hi':i+l.toNat<xs.length:=by simp at hi;omega
     rw[List.getElem_drop];have:=hrd (l.toNat+i) (by omega);rw[show β+(l.toNat+i)*u.size=β+l.toNat*u.size+i*u.size by rw[fN];omega] at this;exact this
theorem Mw(z:Array Value)(n:Nat)(hz:0<z.size):(Builtin.zeroCells z n).toList=jP z.toList n:=by
 apply List.ext_getElem?
 intro i
 by_cases hi:i<n*z.size
 .rw[Bj _ _ _ (by simpa using hi)];unfold Builtin.zeroCells;have hm:i%z.size<z.size:=Nat.mod_lt _ hz;rw[j7,Array.getElem?_map,Array.getElem?_range,am hi];simp[hm]
 .rw[xk (by simp[Builtin.zeroCells];omega),xk (by rw[Ds];simp;omega)]
theorem aD1(m:Mod w0 N0 A env h w)(f:FD A env w ρ a){t tn:TypeId}{nm:Nat}{s x:Operand}(ho:o.op = .call {callee := .builtin .append,args := #[s,x],argTypes := #[t,tn]})
  (e:(IF P t tn nm (aX ρ s) (aX ρ x)).run h=some (d,r)) (hp:bU d.pre):bo P o a w0 N0 A env h w d:=by
 have ds:=cY f s
 have dx:=cY f x
 have exe:∀{v:Value}{w':World},(Builtin.append_ #[t,tn] o.type #[a.eval s,a.eval x]).run P w = .ok v w'→(execOp a.eval o).run P w = .ok (.value v) w':=by
  intro v w' hr;unfold execOp;rw[ho];simp only[resolve,invoke,builtin,Sem.run_bind,Sem.run_pure,Result.andThen_ok,List.map_toArray,fK,List.map_nil,hr]
 unfold IF at e
 split at e
 case h_2=>cases e
 rename_i E sz kn n kt he hs hx hut
 obtain⟨hu,hsz⟩:=vD he
 rw[hs] at ds;rw[hx] at dx
 simp only[aB] at ds dx
 split at e
 case h_2=>cases e
 rename_i u z i hct hz hi
 split at e
 case h_2=>cases e
 rename_i dd rest hb1 hb2 hb3 hpz
 have hb1:u.size=sz:=bJ hb1
 have hb2:z.length=sz:=bJ hb2
 have hb3:1<=i.bytes:=kT hb3
 subst hb1
 simp only[Q.run] at e
 split at e
 case h_2=>cases e
 rename_i p q hk
 simp only[bp,br] at e
 obtain⟨rfl,rfl⟩:=e
 split at hk
 case h_2=>cases hk
 rename_i hun
 cases ck hk
 simp only[Dl.pre,bU,iD] at hp
 obtain⟨h0,hby⟩:=hp
 obtain⟨i',zv,hi',hzv,dz,_⟩:=zb (A:=A) (env:=env) (w:=w) hz
 rw[hi] at hi';cases hi'
 have hzl:zv.cells.size=u.size:=by rw[← gg,jg dz,hb2]
 have hisz:i.size=u.size:=by
  unfold gX at hsz;rw[hi] at hsz;simpa using hsz
 obtain⟨k,rfl⟩:=nH h0
 have hkb:k*i.bytes<=140737488355328:=by
  have:((k*i.bytes:Nat):Int)<=140737488355328:=by rw[Int.natCast_mul];exact hby
  omega
 have hk1:k<=k*i.bytes:=Nat.le_mul_of_pos_right k (by omega)
 by_cases hk0:k=0
 .subst hk0;have hr:(Builtin.append_ #[t,tn] o.type #[a.eval s,a.eval x]).run P w = .ok (.slice none 0 0) w:=by
   rw[ds,dx.1];have hw:IntKind.i64.wrap ((0:Nat):Int)=0:=by decide
   have hut':P.underlying tn=some (.int kt):=hut;have hai:(asIntOf (Value.int kn 0)).run P w = .ok (kn,0) w:=by simp[asIntOf]
   unfold Builtin.append_;simp[run_underlying hu,run_underlying hut',kP hsz,typeInfo,hi,asInt,hai,show IntKind.i64.wrap 0=0 from by decide]
  refine⟨_,w,.inl (exe hr),?_⟩;have g:=oO (pre:=[0<=((0:Nat):Int),((0:Nat):Int)*(i.bytes:Int)<=140737488355328]) (v := .slice none 0 0) (E:=E) (t:=u) (zs:=replicate (((0:Nat):Int)).toNat dd) m hun [] (by simp) (W:=λ_=>False) (ev := .nil) (cS.refl w _) (λ_ h=>h.elim) (by simp)
   (λk l e=>by cases e) (λ_=>.inl ⟨rfl,by simp,none,rfl⟩)
  simpa using g
 .have hr:=Go.Lib.run_append_nil_zeros (P:=P) w t tn o.type E i zv kn kt hu hut hi hzv k (by omega) (by rw[hisz];exact u.size_pos) (by omega) (by omega);rw[← ds,← dx.1] at hr;refine⟨_,_,.inl (exe hr),?_⟩;have hge:=grownCap_ge w k 0 E;have hcm:=grownCap_le_maxLen w k 0 E (by simp only[maxLen];omega);generalize grownCap w k 0 E=cap at *;have hproj:=qN m u z zv.cells.toList dd rest [] [] (by rw[hpz];rfl) dz (A':=A) (λ_ hb=>hb) (λk ⟨n,b,l,hh,_⟩=>by simp at hh);have hall:(Builtin.zeroCells zv.cells k++Builtin.zeroCells zv.cells (cap-k)).toList=jP zv.cells.toList cap:=by
   rw[Array.toList_append,Mw _ _ (by rw[hzl];exact u.size_pos),Mw _ _ (by rw[hzl];exact u.size_pos)];have radd:∀(l:List Value)(a b:Nat),jP l a++jP l b=jP l (a+b):=by
    intro l a b
    induction a with
    | zero=>simp[jP]
    | succ a ih=>rw[Nat.succ_add];simp only[jP,iN,ih]
   rw[radd];congr 1;omega
  have hsize:(Builtin.zeroCells zv.cells k++Builtin.zeroCells zv.cells (cap-k)).size=cap*u.size:=by
   rw[← gg,hall,Ds,gg,hzl]
  have cg:cS w (w.drew.alloc (.cells (Builtin.zeroCells zv.cells k++Builtin.zeroCells zv.cells (cap-k)) E)) λ_=>False:=(cS.drew w _).trans (cS.alloc w.drew _ _);have g:=oO (pre:=[0<=((k:Nat):Int),((k:Nat):Int)*(i.bytes:Int)<=140737488355328]) (v := .slice (some ⟨w.heap.size,0,none⟩) k cap) (E:=E) (t:=u) (zs:=replicate ((k:Nat):Int).toNat dd) m hun [] (by simp) (W:=λ_=>False) (ev := .blk w.heap.size (0,k)) cg (λ_ h=>h.elim) (by simp)
   (λk l e=>by cases e;exact .inl (eZ _)) (λx=>.inr ⟨w.heap.size,(0,k),cap*u.size,rfl,⟨_,cap,heap_alloc_new w.drew _,by rw[hsize,gz],by simp,hge,hcm,λj hj=>?_⟩,?_,?_⟩)
  .simpa using g
  .simp only[qT,Int.toNat_natCast] at hj;rw[List.getElem_replicate];have sh:=wW hproj.2.2.2.1 (j*u.size);rw[gz] at sh;rw[gz];refine iC (λ_ h=>h) x.keep u _ _ _ _ (λq hq=>?_) sh;have hlt:j*u.size+q<cap*u.size:=by
    have:(j+1)*u.size<=cap*u.size:=lZ _ (by omega);rw[fN,jH] at this;omega
   rw[← j7,hall,Bj _ _ _ (by simpa[hzl] using hlt)];congr 1;simp only[gg,hzl];rw[uB,Nat.add_mul_mod_self_right,Nat.mod_eq_of_lt hq];omega
  .unfold World.shape?;have hh:=heap_alloc_new w.drew (.cells (Builtin.zeroCells zv.cells k++Builtin.zeroCells zv.cells (cap-k)) E);simp only[World.size_drew] at hh;rw[hh];simp only[hsize]
  .show _=Value.slice _ _ ((cap*u.size-0)/u.size);rw[Nat.sub_zero,qq _ u.size_pos]
theorem CJ{xs:ad}{v:Value}(h:qa A w (.int .u8) v xs){src e:TypeId}(hs:P.underlying src=some (.slice e))(he:P.underlying e=some (.int .u8)){dst:TypeId}(hd:P.underlying dst=some .string) :
  (convert src dst v).run P w = .ok (.string (strOfNums xs)) w:=by
 obtain⟨hl,⟨⟨a,rfl⟩,hx⟩|⟨b,off,cap,rfl,h1,h2,h3,h4⟩⟩:=h
 .have hx:xs=[]:=hx;subst hx;rw[run_convert_bytes_string w src dst e _ 0 0 hs he hd];cases a <;> simp[Conv.bytesToString,loadCells]
  all_goals rfl
 .refine run_convert_bytes_arg (P:=P) w src e hs he b off xs.length cap xs rfl (λi hi=>?_) dst hd;have:=(h4 i hi).1;simp only[CT.size,Nat.mul_one] at this;rw[this,ce,cF hi,fu]
theorem aQ8{xs:ad}{k c:Nat}{len:Nat×Nat}{E:TypeId}(h:nk A w k len E (.int .u8) xs){src e:TypeId}(hs:P.underlying src=some (.slice e))(he:P.underlying e=some (.int .u8)){dst:TypeId}(hd:P.underlying dst=some .string) :
  (convert src dst (.slice (some ⟨k,len.1,none⟩) len.2 c)).run P w = .ok (.string (strOfNums xs)) w:=by
 obtain⟨vs,cap,h0,h1,h2,h3,h4,h5⟩:=h
 refine run_convert_bytes_arg (P:=P) w src e hs he k len.1 len.2 c xs h2 (λi hi=>?_) dst hd
 have hi':i<xs.length:=by omega
 have:=(h5 i hi').1
 simp only[CT.size,Nat.mul_one] at this
 rw[cell_of_row w k _ vs E (0,0) h0,this,ce,cF hi',fu]
def Gc(P:Program)(src:TypeId)(x:SV):Q Dl:=match P.underlying src with
 | some (.slice e)=>match P.underlying e with
  | some (.int .u8)=>match x with
   | .dsl t xs=>match hY t (.int .u8) xs with
    | some ys=>bZ (.str (strOfNums ys))
    | none => .fail
   | .dsx t xs=>match hY t (.int .u8) xs with
    | some ys=>bZ (.str (strOfNums ys))
    | none => .fail
   | .nilsl=>bZ (.str (strOfNums []))
   | .own n sz => .ask n fun
    | .live (.row _ t xs)=>match hY t (.int .u8) xs with
     | some ys=>bZ (.str (strOfNums ys))
     | none => .fail
    | .live (.frz _ t xs)=>match hY t (.int .u8) xs with
     | some ys=>bZ (.str (strOfNums ys))
     | none => .fail
    | _ => .fail
   | _ => .fail
  | _ => .fail
 | _ => .fail
theorem zW{xs:ad}{v:Value}(hl:xs.length<=maxLen):aB A env w (.str (strOfNums xs)) (.string (strOfNums xs)):=by
 simp only[aB];exact⟨trivial,by rw[strOfNums_size];exact hl⟩
theorem aM5(m:Mod w0 N0 A env h w)(f:FD A env w ρ a){s t:TypeId}{x:Operand}(ho:o.op = .convert s t x)(ht:P.underlying t=some .string)
  (e:(Gc P s (aX ρ x)).run h=some (d,r)):bo P o a w0 N0 A env h w d:=by
 have dx:=cY f x
 have go:∀{v:Value},(convert s t (a.eval x)).run P w = .ok v w->(execOp a.eval o).run P w = .ok (.value v) w:=by
  intro v hr;unfold execOp;rw[ho];simp only[Sem.run_bind,hr,Result.andThen_ok,Sem.run_pure]
 unfold Gc at e
 split at e
 next el hs=>
  split at e
  .rename_i he;split at e
   .rename_i u xs hx;rw[hx] at dx;simp only[aB] at dx;split at e
    next ys hc=>obtain⟨et,ez⟩:=jC hc;subst et;simp only at ez;subst ez;unfold bZ at e;cases ck e;exact bo.pure m (go (CJ dx hs he ht)) (zW (v:=a.eval x) dx.1)
    .cases e
   .rename_i u xs hx;rw[hx] at dx;simp only[aB] at dx;split at e
    next ys hc=>obtain⟨et,ez⟩:=jC hc;subst et;simp only at ez;subst ez;unfold bZ at e;cases ck e;exact bo.pure m (go (CJ dx.1 hs he ht)) (zW (v:=a.eval x) dx.1.1)
    .cases e
   next hx=>rw[hx] at dx;simp only[aB] at dx;unfold bZ at e;cases ck e;refine bo.pure m (go ?_) (zW (v:=a.eval x) (by simp));rw[dx];exact CJ (A:=A) (xs:=[]) ⟨by simp,.inl ⟨⟨_,rfl⟩,rfl⟩⟩ hs he ht
   .rename_i n sz hx;rw[hx] at dx;simp only[aB] at dx;simp only[Q.run] at e;split at e
    .rename_i p q hk;simp only[bp,br] at e;obtain⟨rfl,rfl⟩:=e;have fin:∀{E:TypeId}{ys:ad}{fz:Bool},h n = .live (match fz with|true => .frz E (.int .u8) ys|false => .row E (.int .u8) ys)->bo P o a w0 N0 A env h w (.det [] (.str (strOfNums ys)) []):=by
      intro E ys fz hl;have hm:=m.nm n;rw[hl] at hm;rcases dx with⟨hen,a0,ev⟩|⟨b,len,E',c,hen,_,ev⟩
      .rcases hm with⟨k,len,hek,_⟩|⟨_,E2,t2,hb⟩
       .rw[hen] at hek;cases hek
       .have:ys=[]:=by cases fz <;> (rcases hb with hb|hb <;> cases hb) <;> rfl
        subst this;refine bo.pure m (go ?_) (zW (v:=a.eval x) (by simp));rw[ev];exact CJ (A:=A) (xs:=[]) ⟨by simp,.inl ⟨⟨_,rfl⟩,rfl⟩⟩ hs he ht
      .rcases hm with⟨k,len',hek,hb,_⟩|⟨hek,_⟩
       .rw[hen] at hek;cases hek;have hr:nk A w b len E (.int .u8) ys:=by
         cases fz with
         | true=>exact hb.2
         | false=>exact hb
        refine bo.pure m (go ?_) (zW (v:=a.eval x) ?_)
        .rw[ev];exact aQ8 hr hs he ht
        .obtain⟨vs,cap,_,_,h2,h3,h4,_⟩:=hr;omega
       .rw[hen] at hek;cases hek
     split at hk
     .rename_i E u xs hl;split at hk
      next ys hc=>obtain⟨et,ez⟩:=jC hc;subst et;simp only at ez;subst ez;unfold bZ at hk;cases ck hk;exact fin (fz:=false) hl
      .cases hk
     .rename_i E u xs hl;split at hk
      next ys hc=>obtain⟨et,ez⟩:=jC hc;subst et;simp only at ez;subst ez;unfold bZ at hk;cases ck hk;exact fin (fz:=true) hl
      .cases hk
     .cases hk
    .cases e
   .cases e
  .cases e
 .cases e
def EO:SV->Option ByteArray
 | .str s=>some s
 | .cv (.string s)=>some s
 | _=>none
def Fh(op:BinOp)(x y:SV):Q Dl:=match EO x,EO y,op with
 | some a,some b,.eql=>bZ (.bool (decide (a=b)))
 | some a,some b,.neq=>bZ (.bool (!decide (a=b)))
 | _,_,_ => .fail
theorem Cl{x:SV}{v:Value}{s:ByteArray}(e:EO x=some s)(hd:aB A env w x v):v = .string s:=by
 unfold EO at e
 split at e
 .cases e;simp only[aB] at hd;exact hd.1
 .cases e;simp only[aB] at hd;exact hd
 .cases e
theorem aN7(m:Mod w0 N0 A env h w)(f:FD A env w ρ a){op:BinOp}{t yt:TypeId}{x y:Operand}(ho:o.op = .binOp op t x y yt)(ht:P.underlying t=some .string)
  (e:(Fh op (aX ρ x) (aX ρ y)).run h=some (d,r)):bo P o a w0 N0 A env h w d:=by
 have dx:=cY f x
 have dy:=cY f y
 have go:∀(v:Value),((do eqGuard op t x y (a.eval x) (a.eval y);binOp op t (a.eval x) (a.eval y):Sem Value).run P w) = .ok v w →
   (execOp a.eval o).run P w = .ok (.value v) w:=by
  intro v hv;unfold execOp;rw[ho];simp only[Sem.run_bind,Sem.run_pure] at hv ⊢;rw[hv];rfl
 have eqb:∀ u v:ByteArray,(u.toList == v.toList)=decide (u=v):=λu v=>by
  rw[sY];simp only[ByteArray.toList_eq,beq_iff_eq,jz];exact⟨λh=>by cases u;cases v;simp_all,λh=>by rw[h]⟩
 unfold Fh at e
 split at e
 next u v hx hy=>have ex:=Cl hx dx;have ey:=Cl hy dy;rw[ex,ey] at go;unfold bZ at e;cases ck e;refine bo.pure m (go _ ?_) (s := .bool (decide (u=v))) (v := .bool (decide (u=v))) (by simp only[aB]);rw[eqGuard_at_string];simp[binOp,Op.stringOp,eqb]
 next u v hx hy=>have ex:=Cl hx dx;have ey:=Cl hy dy;rw[ex,ey] at go;unfold bZ at e;cases ck e;refine bo.pure m (go _ ?_) (s := .bool (!decide (u=v))) (v := .bool (!decide (u=v))) (by simp only[aB]);rw[eqGuard_at_string];simp[binOp,Op.stringOp,eqb]
 .cases e
def Gb(P:Program)(t:TypeId)(x i:SV):Q Dl:=match i,P.underlying t with
 | .int _ i,some (.array len e)=>match gX P e,decide (0<=i)&&decide (i<len)&&decide (2<=len) with
  | some (n+1),true=>match x with
   | .ptr m o=>bZ (.ptr m (o+i.toNat*(n+1)))
   | .eptr m s j o=>bZ (.eptr m s j (o+i.toNat*(n+1)))
   | .dptr u d o=>bZ (.dptr u d (o+i.toNat*(n+1)))
   | _ => .fail
  | _,_ => .fail
 | _,_ => .fail
theorem ax7(m:Mod w0 N0 A env h w)(f:FD A env w ρ a){t:TypeId}{x i:Operand}(φ:Operand->SV)(dx:aB A env w (φ x) (a.eval x))(ho:o.op = .indexAddr t x i)
  (e:(Gb P t (φ x) (aX ρ i)).run h=some (d,r)):bo P o a w0 N0 A env h w d:=by
 have di:=cY f i
 unfold Gb at e
 split at e
 next k iv len E hi hu=>
  rw[hi] at di;simp only[aB] at di;split at e
  .rename_i n hn hb;simp only[dr,jz] at hb;obtain⟨⟨h0,h1⟩,h2⟩:=hb;have go:∀{b off:Nat},a.eval x = .pointer (some ⟨b,off,none⟩)->(execOp a.eval o).run P w = .ok (.value (.pointer (some ⟨b,off+iv.toNat*(n+1),none⟩))) w:=by
    intro b off ev;unfold execOp;rw[ho];simp[Instr.indexAt,Instr.sureAddr,ev,di.1,asIntOf,run_underlying hu,kP hn,h0,h1,Addr.add_lit]
   split at e
   next q o' hx=>rw[hx] at dx;simp only[aB] at dx;obtain⟨b,l,he,ev⟩:=dx;unfold bZ at e;cases ck e;exact bo.pure m (go ev) (by simp only[aB];exact⟨b,l,he,rfl⟩)
   next q sz j o' hx=>rw[hx] at dx;simp only[aB] at dx;obtain⟨b,l,he,hj,ev⟩:=dx;unfold bZ at e;cases ck e;exact bo.pure m (go ev) (by simp only[aB];exact⟨b,l,he,hj,by rw[gW,gW]⟩)
   next u dd o' hx=>rw[hx] at dx;simp only[aB] at dx;obtain⟨b,off,ev,hA,hr⟩:=dx;unfold bZ at e;cases ck e;exact bo.pure m (go ev) (by simp only[aB];exact⟨b,off,by rw[gW],hA,hr⟩)
   .cases e
  .cases e
 .cases e
def gq(i:Int):List (Int×Int)->Bool
 | []=>false
 | p::r=>bif decide (i=p.1) then true else gq i r
def lp(i:Int):List (Int×Int)->Int
 | []=>0
 | p::r=>bif decide (i=p.1) then p.2 else lp i r
def jZ(i v:Int):List (Int×Int)->List (Int×Int)
 | []=>[(i,v)]
 | p::r=>bif decide (i=p.1) then (i,v)::r else p::jZ i v r
def pY(i:Int):List (Int×Int)->Nat
 | []=>0
 | p::r=>bif decide (i=p.1) then 0 else pY i r+1
def AA(P:Program)(t:TypeId):Option (TypeId×IntKind×TypeId×IntKind):=match P.underlying t with
 | some (.map k e)=>match P.underlying k,P.underlying e with
  | some (.int kk),some (.int vk)=>some (k,kk,e,vk)
  | _,_=>none
 | _=>none
def Ip(P:Program)(e:TypeId)(vk:IntKind):Bool:=match P.info? e with
 | some j=>match j.zero with
  | some (.int k n)=>lf k vk&&decide (n=0)
  | _=>false
 | none=>false
def FW(P:Program)(t:TypeId)(nm:Nat):Q Dl:=match AA P t with
 | some (_,kk,_,vk) => .ask nm fun
  | .un => .ret (.det [] (.mapp nm) [(nm,.live (.mp kk vk []))])
  | _ => .fail
 | none => .fail
def FG(P:Program)(t:TypeId)(x i:SV):Q Dl:=match AA P t,x,i with
 | some (_,kk,e,vk),.mapp n,.int k i => .ask n fun
  | .live (.mp kk' vk' l)=>match lf kk kk',lf vk vk',lf k kk,Ip P e vk with
   | true,true,true,true=>bZ (.tup [.int vk (lp i l),.bool (gq i l)])
   | _,_,_,_ => .fail
  | _ => .fail
 | _,_,_ => .fail
def Gy(P:Program)(t:TypeId)(x i y:SV):Q Dl:=match AA P t,x,i,y with
 | some (_,kk,_,vk),.mapp n,.int k i,.int k' v => .ask n fun
  | .live (.mp kk' vk' l)=>match lf kk kk',lf vk vk',lf k kk,lf k' vk with
   | true,true,true,true => .ret (.det [] (.cv undef) [(n,.live (.mp kk vk (jZ i v l)))])
   | _,_,_,_ => .fail
  | _ => .fail
 | _,_,_,_ => .fail
theorem Rx{t k e:TypeId}{kk vk:IntKind}(h:AA P t=some (k,kk,e,vk)):P.underlying t=some (.map k e)/\P.underlying k=some (.int kk)/\P.underlying e=some (.int vk):=by
 unfold AA at h
 split at h
 next hu=>
  split at h
  next h1 h2=>cases h;exact⟨hu,h1,h2⟩
  .cases h
 .cases h
theorem V6{e:TypeId}{vk:IntKind}(h:Ip P e vk=true):(zeroValue e).run P w = .ok (.int vk 0) w:=by
 unfold Ip at h
 split at h
 next j hj=>
  split at h
  next k n hz=>simp only[dr,jz] at h;cases lM h.1;rw[h.2] at hz;simp[zeroValue,typeInfo,hj,hz]
  .cases h
 .cases h
def nO(kk vk:IntKind)(l:List (Int×Int)):List (Value×Value):=l.map λp=>(Value.int kk p.1,Value.int vk p.2)
theorem Hm{kk vk:IntKind}{i:Int}:∀{es:List MapEntry}{l:List (Int×Int)}{n:Nat},es.map (λe=>(e.key,e.val))=nO kk vk l →
  Instr.findNow (.int kk) (.int kk i) es n=some (bif gq i l then some (n+pY i l,.int vk (lp i l)) else none)
 | [],[],n,_=>rfl
 | e::es,p::l,n,h=>by
  simp only[nO,fK,List.cons.injEq,br] at h;obtain⟨⟨h1,h2⟩,h3⟩:=h;have hs:Instr.sameNow (.int kk) (.int kk i) e.key=some (i == p.1):=by rw[h1];simp[Instr.sameNow]
  by_cases hi:i=p.1
  .have hb:(i == p.1)=true:=by simp[hi]
   rw[hb] at hs;simp only[Instr.findNow,hs,h2,gq,lp,pY,dM hi,cond_true,iL]
  .have hb:(i == p.1)=false:=by simp[hi]
   rw[hb] at hs;simp only[Instr.findNow,hs,gq,lp,pY,dw hi,nP];rw[Hm (l:=l) h3,show n+1+pY i l=n+(pY i l+1) by omega]
 | [],_::_,_,h=>by simp[nO] at h
 | _::_,[],_,h=>by simp[nO] at h
theorem Pu{i:Int}:∀{l:List (Int×Int)},gq i l=false->lp i l=0
 | [],_=>rfl
 | p::l,h=>by
  simp only[gq] at h;cases hd:decide (i=p.1) with
  | true=>rw[hd] at h;cases h
  | false =>
   rw[hd,nP] at h;simp only[lp,hd,nP];exact Pu h
theorem Ru{vk:IntKind}{i v:Int}(hv:vk.has v):∀{l:List (Int×Int)},(∀ p∈l,vk.has p.2)→∀ p∈jZ i v l,vk.has p.2
 | [],_,p,hp=>by simp only[jZ,jR] at hp;rw[hp];exact hv
 | q::l,h,p,hp=>by
  simp only[jZ] at hp;cases hd:decide (i=q.1) with
  | true =>
   rw[hd,cond_true] at hp;rcases dj.1 hp with rfl|hp
   .exact hv
   .exact h p (fw _ hp)
  | false =>
   rw[hd,nP] at hp;rcases dj.1 hp with rfl|hp
   .exact h _ fF
   .exact Ru hv (λp hp=>h p (fw _ hp)) p hp
theorem RP{vk:IntKind}{i:Int}(h0:vk.has 0):∀{l:List (Int×Int)},(∀ p∈l,vk.has p.2)->vk.has (lp i l)
 | [],_=>h0
 | q::l,h=>by
  simp only[lp];cases decide (i=q.1) with
  | true=>exact h _ fF
  | false=>exact RP h0 λp hp=>h p (fw _ hp)
theorem Ll{kk vk:IntKind}{i v:Int}:∀{es:List MapEntry}{l:List (Int×Int)},es.map (λe=>(e.key,e.val))=nO kk vk l->gq i l=true →
  (es.modify (pY i l) λe=>{e with key := .int kk i,val := .int vk v}).map (λe=>(e.key,e.val))=nO kk vk (jZ i v l)∧∃ e,es[pY i l]? = some e/\e.key = .int kk i
 | [],[],_,hm=>by cases hm
 | e::es,p::l,h,hm=>by
  simp only[nO,fK,List.cons.injEq,br] at h;obtain⟨⟨h1,h2⟩,h3⟩:=h;simp only[gq] at hm;cases hd:decide (i=p.1) with
  | true =>
   simp only[jZ,pY,hd,cond_true,nO,fK];refine⟨?_,e,rfl,?_⟩
   .simp[h3]
   .rw[h1,aL hd]
  | false =>
   rw[hd,nP] at hm;obtain⟨k1,k2⟩:=Ll (v:=v) h3 hm;simp only[jZ,pY,hd,nP,nO,fK];refine⟨?_,by simpa using k2⟩;simp only[List.modify_succ_cons,fK,h1,h2,List.cons.injEq,true_and];exact k1
 | [],_::_,h,_=>by simp[nO] at h
 | _::_,[],h,_=>by simp[nO] at h
theorem Oj{kk vk:IntKind}{i v:Int}:∀{l:List (Int×Int)},gq i l=false->nO kk vk (jZ i v l)=nO kk vk l++[(Value.int kk i,Value.int vk v)]
 | [],_=>rfl
 | p::l,h=>by
  simp only[gq] at h;cases hd:decide (i=p.1) with
  | true=>rw[hd] at h;cases h
  | false =>
   rw[hd,nP] at h;simp only[jZ,hd,nP,nO,fK,jS];exact iB _ (Oj h)
theorem aO4(m:Mod w0 N0 A env h w){t:TypeId}{nm:Nat}(ho:o.op = .makeMap t none)
  (e:(FW P t nm).run h=some (d,r)):bo P o a w0 N0 A env h w d:=by
 unfold FW at e
 split at e
 .simp only[Q.run] at e;split at e
  .rename_i p q hk;simp only[bp,br] at e;obtain⟨rfl,rfl⟩:=e;split at hk
   .rename_i hun;cases ck hk;have hrun:(execOp a.eval o).run P w = .ok (.value (.map (some w.heap.size))) (w.alloc (.map #[] 0)):=by
     unfold execOp;rw[ho];rfl
    refine⟨_,_,.inl hrun,eO.fresh m hun (len:=(0,0)) rfl w.heap.size (eZ _) (cS.alloc w _ _) (λx=>⟨#[],0,heap_alloc_new w _,rfl,λp hp=>by cases hp⟩) ?_⟩;simp only[aB];exact⟨_,(0,0),bc.set_same _ _ _,rfl⟩
   .cases hk
  .cases e
 .cases e
theorem JO(kk:IntKind)(i:Int):MapKept.IsKey (.int kk) (.int kk i):=by simp[MapKept.IsKey]
theorem aX3(m:Mod w0 N0 A env h w)(f:FD A env w ρ a){t:TypeId}{x i:Operand}(ho:o.op = .lookup t x i true)
  (e:(FG P t (aX ρ x) (aX ρ i)).run h=some (d,r)):bo P o a w0 N0 A env h w d:=by
 have dx:=cY f x
 have di:=cY f i
 unfold FG at e
 split at e
 next kt kk et vk n k i hm hx hi=>
  rw[hx] at dx;rw[hi] at di;simp only[aB] at dx di;obtain⟨b,len,he,ev⟩:=dx;obtain⟨hu,huk,hue⟩:=Rx hm;simp only[Q.run] at e;split at e
  .rename_i p q hk;simp only[bp,br] at e;obtain⟨rfl,rfl⟩:=e;split at hk
   .rename_i kk' vk' l hl;split at hk
    .rename_i q1 q2 q3 q4;cases lM q1;cases lM q2;cases lM q3;unfold bZ at hk;cases ck hk;obtain⟨⟨es,clk,hb,hes,hh⟩,_⟩:=m.live_blk hl he;have hf:=Hm (i:=i) (n:=0) hes;have h0:vk.has 0:=by
      have:=IntKind.wrap_has vk 0;have e0:vk.wrap 0=0:=by cases vk <;> rfl
      rw[e0] at this;exact this
     refine bo.pure m (v := .tuple #[.int vk (lp i l),.bool (gq i l)]) ?_ ?_
     .unfold execOp;rw[ho];simp only[ev,di.1,Instr.lookup,Sem.run_bind,run_underlying hu,Result.andThen_ok,MapKept.run_getObj_map hb,Sem.run_pure,MapKept.run_checkKey huk (JO kk i),MapKept.run_findKey huk hf];cases hq:gq i l with
      | true=>simp
      | false =>
       simp[V6 q4,Pu hq]
     .simp only[aB];refine⟨_,rfl,?_⟩;simp only[aS,aB];exact⟨_,_,rfl,⟨rfl,RP h0 hh⟩,_,_,rfl,rfl,rfl⟩
    .cases hk
   .cases hk
  .cases e
 .cases e
theorem cS.setMap{w:World}{b:Nat}{es:Array MapEntry}{c:Nat}(hb:w.heap[b]? = some (.map es c))(es':Array MapEntry)(c':Nat) :
  cS w {w with heap:=w.heap.setIfInBounds b (.map es' c')} λj=>j=b:=by
 refine⟨rfl,rfl,rfl,by simp,λk hk hw=>?_,λk s hs=>?_⟩
 .exact zS (λe=>hw e.symm)
 .by_cases e:k=b
  .subst e;unfold World.shape? at hs;rw[hb] at hs;cases hs
  .unfold World.shape? at hs ⊢;have:({w with heap:=w.heap.setIfInBounds b (.map es' c')}:World).heap[k]? = w.heap[k]? := zS (λh=>e h.symm);rw[this];exact hs
theorem Zn(m:Mod w0 N0 A env h w)(f:FD A env w ρ a){t:TypeId}{x i y:Operand}(ho:o.op = .mapUpdate t x i y)
  (e:(Gy P t (aX ρ x) (aX ρ i) (aX ρ y)).run h=some (d,r)):bo P o a w0 N0 A env h w d:=by
 have dx:=cY f x
 have di:=cY f i
 have dy:=cY f y
 unfold Gy at e
 split at e
 next kt kk et vk n k i k' v hm hx hi hy=>
  rw[hx] at dx;rw[hi] at di;rw[hy] at dy;simp only[aB] at dx di dy;obtain⟨b,len,he,ev⟩:=dx;obtain⟨hu,huk,hue⟩:=Rx hm;simp only[Q.run] at e;split at e
  .rename_i p q hk;simp only[bp,br] at e;obtain⟨rfl,rfl⟩:=e;split at hk
   .rename_i kk' vk' l hl;split at hk
    .rename_i q1 q2 q3 q4;cases lM q1;cases lM q2;cases lM q3;cases lM q4;cases ck hk;obtain⟨⟨es,clk,hb,hes,hh⟩,_⟩:=m.live_blk hl he;have hf:=Hm (i:=i) (n:=0) hes;have fin:∀(es':Array MapEntry)(c':Nat),(execOp a.eval o).run P w = .ok .skip {w with heap:=w.heap.setIfInBounds b (.map es' c')}->es'.toList.map (λe=>(e.key,e.val))=nO kk vk (jZ i v l) →
       bo P o a w0 N0 A env h w (.det [] (.cv undef) [(n,.live (.mp kk vk (jZ i v l)))]):=by
      intro es' c' hrun hes';have hlt:b<w.heap.size:=(Array.getElem?_eq_some_iff.1 hb).1;have u:=mb.write (b' := .mp kk vk (jZ i v l)) m hl rfl he (cS.setMap hb es' c') ⟨es',c',by simp[hlt],hes',Ru dy.2 hh⟩ rfl;exact⟨undef,_,.inr ⟨hrun,rfl⟩,(),A,env,trivial,m.upd u,m.ext u,by simp only[Dl.val,aB]⟩
     cases hq:gq i l with
     | true =>
      rw[hq,cond_true] at hf;obtain⟨k1,e0,k2,k3⟩:=Ll (v:=v) hes hq;refine fin (es.modify (pY i l) λe=>{e with key := .int kk i,val := .int vk v}) clk ?_ (by rw[Array.toList_modify];exact k1);have hget:es[pY i l]? = some e0:=by rw[← j7];exact k2
      unfold execOp;rw[ho];simp only[ev,di.1,dy.1,Instr.mapUpdate,Sem.run_bind,run_underlying hu,Result.andThen_ok,MapKept.run_getObj_map hb,Sem.run_pure,MapKept.run_checkKey huk (JO kk i),MapKept.run_findKey huk hf,gz,hget,Option.map_some,fu,k3,Instr.keyThatStays,Instr.sameBits,beq_self_eq_true,Bool.and_self,if_true,MapKept.run_setObj_map _ hb]
      try rfl
     | false =>
      rw[hq,nP] at hf;refine fin (es.push {key := .int kk i,val := .int vk v,born:=clk}) (clk+1) ?_ (by rw[Array.toList_push,lr,hes,Oj hq];rfl);unfold execOp;rw[ho];simp only[ev,di.1,dy.1,Instr.mapUpdate,Sem.run_bind,run_underlying hu,Result.andThen_ok,MapKept.run_getObj_map hb,Sem.run_pure,MapKept.run_checkKey huk (JO kk i),MapKept.run_findKey huk hf,MapKept.run_setObj_map _ hb]
      try rfl
    .cases hk
   .cases hk
  .cases e
 .cases e
end
end Go.SX
namespace Go.SX
def ah4:SV->Bool
 | .own _ _=>true
 | _=>false
def Gp(P:Program)(ty:TypeId)(x:SV):Q Dl:=match x with
 | .eptr n sz i off => .ask n fun
  | .live (.opn _ t _ j cs)=>match Nat.beq sz t.size,nt P ty cs off with
   | true,some v => .ret (.det [i=j] v [])
   | _,_ => .fail
  | _=>z7 P ty (.eptr n sz i off)
 | x=>z7 P ty x
def Io(P:Program)(ty:TypeId)(x y:SV):Q Dl:=match x with
 | .eptr n sz i off => .ask n fun
  | .live (.opn E t xs j cs)=>match vK y,gX P ty with
   | some vs,some k=>match Nat.beq k vs.length,Nat.beq sz t.size,Nat.ble (off+vs.length) t.size with
    | true,true,true => .ret (.det [i=j] (.cv undef) [(n,.live (.opn E t xs j (pQ cs off vs)))])
    | _,_,_ => .fail
   | _,_ => .fail
  | .live (.row E t xs)=>match vK y,gX P ty with
   | some vs,some k=>match vs.any ah4 with
    | true=>match Nat.beq k vs.length,Nat.beq sz t.size,Nat.ble (off+vs.length) t.size with
     | true,true,true => .ret (.det [] (.cv undef) [(n,.live (.opn E t xs i (pQ (cR t (kg t xs i)) off vs)))])
     | _,_,_ => .fail
    | false=>y9 P ty (.eptr n sz i off) y
   | _,_ => .fail
  | _=>y9 P ty (.eptr n sz i off) y
 | x=>y9 P ty x y
def wj:List SV->Q (List (Nat×Nm))
 | [] => .ret []
 | .own n _::r => .ask n fun
  | .live (.opn E t xs i cs)=>(jw t cs).bind λp=>match p.2.1,vT n p.2.2 with
   | [],true => .ret ((n,.live (.row E t (xs.set i p.1)))::p.2.2)
   | _,_ => .fail
  | _=>wj r
 | _::r=>wj r
def Hb(P:Program)(ty:TypeId)(x:SV):Q Dl:=match x with
 | .ptr n off => .ask n fun
  | .live (.cells _ cs)=>match nt P ty cs off with
   | some v=>(wj cs).bind λu=>.ret (.det [] v u)
   | none => .fail
  | _ => .fail
 | _ => .fail
section
variable {P:Program} {w0:World} {N0:fY} {A:Nat->Prop} {env:bc} {h:bR} {w:World} {o:Oper} {a:Act} {ρ:Nat->SV} {d:Dl} {r:List Nat}
theorem Hy{i n k:Nat}(h:i<n):i*k+k<=n*k:=by
 have:(i+1)*k<=n*k:=lZ _ (by omega)
 rw[fN,jH] at this;exact this
theorem Z9{k:Nat}{len:Nat×Nat}{E:TypeId}{t:CT}{xs:List t.D}(hr:nk A w k len E t xs){i:Nat}(hi:i<len.2) :
  jK A env w k len (.opn E t xs i (cR t (kg t xs i))):=by
 obtain⟨vs,hl,hc,hd⟩:=uD (env:=env) t (kg t xs i) _ _ (ye hr hi)
 obtain⟨us,cap,hh,h1,h2,h3,h4,h5⟩:=hr
 refine⟨us,cap,vs,hh,h1,h2,h3,h4,hi,hl,λq hq=>?_,hd,λj hj _=>h5 j hj⟩
 have:=hc q hq
 rw[cell_of_row w k _ us E (0,0) hh] at this
 exact this
theorem aO0{A':Nat->Prop}(hA:∀ b,A b->A' b){k:Nat}{len:Nat×Nat}{E:TypeId}{t:CT}{xs:List t.D}{i:Nat}{cs:List SV}(hb:jK A env w k len (.opn E t xs i cs)){d:t.D}
  (hd:∀ es:List Value,es.length=t.size->aS A env w cs es->Rd A' w t (λj=>es[j]?) 0 d):nk A' w k len E t (xs.set i d):=by
 obtain⟨us,cap,es,hh,h1,h2,h3,h4,h5,h6,h7,h8,h9⟩:=hb
 refine⟨us,cap,hh,h1,by simpa using h2,h3,h4,λj hj=>?_⟩
 have hj':j<xs.length:=by simpa using hj
 rw[List.getElem_set]
 split
 next e=>subst e;have:=wW (hd es h6 h8) (len.1+i*t.size);rw[gz] at this;refine iC (λ_ h=>h) (λ_ _ _=>rfl) t _ _ _ _ (λq hq=>?_) this;show us[len.1+i*t.size+q]? = es[len.1+i*t.size+q-(len.1+i*t.size)]?;rw[h7 q hq];congr 1;omega
 next e=>exact iC hA (λ_ _ _=>rfl) t _ _ _ _ (λ_ _=>rfl) (h9 j hj' (λh=>e h.symm))
theorem an5(m:Mod w0 N0 A env h w){ty:TypeId}{x:Operand}(φ:Operand->SV)(dx:aB A env w (φ x) (a.eval x))(ho:o.op = .load ty x)
  (e:(Gp P ty (φ x)).run h=some (d,r)) (hp:bU d.pre):bo P o a w0 N0 A env h w d:=by
 have go:∀{b off:Nat}{v:Value},a.eval x = .pointer (some ⟨b,off,none⟩)->(loadVar ty ⟨b,off,none⟩).run P w = .ok v w->(execOp a.eval o).run P w = .ok (.value v) w:=by
  intro b off v ev hr;unfold execOp;rw[ho];simp only[ev,Instr.loadAt,Instr.sureAddr,Sem.run_bind,Sem.run_pure,Result.andThen_ok,hr]
 unfold Gp at e
 split at e
 next n sz i off hx=>
  have dx':=dx;rw[hx] at dx;simp only[aB] at dx;obtain⟨b,l,he,hil,ev⟩:=dx;simp only[Q.run] at e;split at e
  .rename_i p q hk;simp only[bp,br] at e;obtain⟨rfl,rfl⟩:=e;split at hk
   .rename_i E t xs j cs hl;split at hk
    next v hsz e1=>have hsz:sz=t.size:=bJ hsz;subst hsz;cases ck hk;have hij:i=j:=hp.1;subst hij;obtain⟨us,cap,es,hh,h1,h2,h3,h4,h5,h6,h7,h8,h9⟩:=(m.live_blk hl he).1;obtain⟨v,hr,hv⟩:=BD (o:=l.1+i*t.size) (k:=b) e1 h8 (λj hj=>by rw[cell_of_row w b _ us E (0,0) hh];exact h7 j (by omega));rw[gW] at hr;exact bo.pure m (go ev hr) hv
    .cases hk
   .exact Iv m φ dx' ho (by rw[hx];exact hk)
  .cases e
 .exact Iv m φ dx ho e
theorem LF(m:Mod w0 N0 A env h w){b0:kJ}{mm b:Nat}{l:Nat×Nat}(hl:h mm = .live b0)(hm0:b0.mut=true)(he:env mm = .blk b l){E:TypeId}{t:CT}{xs:List t.D}{i off:Nat}{cs vs:List SV}
  (hb:jK A env w b l (.opn E t xs i cs)) {ty:TypeId} {v:Value} (dv:aS A env w vs v.cells.toList) (h1:∀ u∈v.cells.toList,u.oneCell'=true) (hsz:gX P ty=some v.cells.size) (hle:off+vs.length<=t.size) :
  ∃ w',(storeVar ty ⟨b,l.1+i*t.size+off,none⟩ v).run P w = .ok () w'∧eO w0 N0 A env h w (.det [] (.cv undef) [(mm,.live (.opn E t xs i (pQ cs off vs)))]) undef w':=by
 obtain⟨us,cap,es,hh,hus,hxl,hlc,hcm,hi,hes,hec,hed,hrd⟩:=hb
 have hlv:=jg dv
 have hsv:v.cells.size=vs.length:=by rw[← gg,hlv]
 have hpos:l.1+i*t.size+t.size<=us.size:=by
  rw[hus];have:=Hy (k:=t.size) (Nat.lt_of_lt_of_le hi hlc);omega
 have hfit:l.1+i*t.size+off+v.cells.size<=us.size:=by omega
 have hrun:=H3 hh hsz hfit h1
 refine⟨_,hrun,?_⟩
 have c:=cS.setRow w b us (us.toList.take (l.1+i*t.size+off)++v.cells.toList++us.toList.drop (l.1+i*t.size+off+v.cells.size)).toArray E hh
  (by simp only[pP,cD,cW,dR,gg];omega)
 have x:dh A env w A env (w.setRow b (us.toList.take (l.1+i*t.size+off)++v.cells.toList++us.toList.drop (l.1+i*t.size+off+v.cells.size)).toArray) :=
  ⟨λ_ h=>h,λ_ _ _ h=>h,λ_ h=>h,λb' o' hb'=>World.cell?_of_block (a:=⟨b',o',none⟩) (c.blk b' (m.Alt b' hb') (λe'=>(m.live_blk hl he).2 hm0 (e'▸hb'))),c.shape⟩
 have cellAt:∀ p,(us.toList.take (l.1+i*t.size+off)++v.cells.toList++us.toList.drop (l.1+i*t.size+off+v.cells.size)).toArray[p]? =
   if p<l.1+i*t.size+off then us[p]? else if p<l.1+i*t.size+off+vs.length then v.cells[p-(l.1+i*t.size+off)]? else us[p]? := by
  intro p;rw[List.getElem?_toArray,iN,List.getElem?_append];simp only[cW,gg];rw[show min (l.1+i*t.size+off) us.size=l.1+i*t.size+off from by omega];split
  next hp=>rw[ot,am hp,j7]
  .rename_i hp;rw[List.getElem?_append];simp only[gg,hsv];by_cases h2:p<l.1+i*t.size+off+vs.length
   .rw[am (by omega),am h2,j7]
   .rw[af (by omega),af h2,pD,j7];congr 1;omega
 have hblk:jK A env (w.setRow b (us.toList.take (l.1+i*t.size+off)++v.cells.toList++us.toList.drop (l.1+i*t.size+off+v.cells.size)).toArray) b l (.opn E t xs i (pQ cs off vs)):=by
  refine⟨_,cap,es.take off++(v.cells.toList++es.drop (off+v.cells.toList.length)),setRow_heap w b us _ E _ hh,?_,hxl,hlc,hcm,hi,?_,λq hq=>?_,tp x _ _ (Dw hed dv),λj hj hij=>?_⟩
  .simp only[pP,cD,cW,dR,gg];omega
  .simp only[cD,cW,dR,gg];omega
  .rw[cellAt];have hecq:=hec q hq;rw[List.getElem?_append];simp only[cW,hes];rw[show min off t.size=off from by omega];by_cases c1:q<off
   .rw[am (by omega),am c1,ot,am c1,hecq]
   .rw[af (by omega),af c1,List.getElem?_append];simp only[gg,hsv];by_cases c2:q<off+vs.length
    .rw[am (by omega),am (by omega),j7];congr 1;omega
    .rw[af (by omega),af (by omega),pD,hecq];congr 1;omega
  .refine iC (λ_ h=>h) x.keep t _ _ _ _ (λq hq=>?_) (hrd j hj hij);rw[cellAt];rcases Nat.lt_or_gt_of_ne hij with hlt|hlt
   .have:=Hy (k:=t.size) hlt;rw[am (by omega)]
   .have:=Hy (k:=t.size) hlt;rw[af (by omega),af (by omega)]
 have u:=mb.write (b' := .opn E t xs i (pQ cs off vs)) m hl hm0 he c hblk rfl
 exact⟨(),A,env,trivial,m.upd u,m.ext u,by simp only[Dl.val,aB]⟩
theorem av9(m:Mod w0 N0 A env h w)(f:FD A env w ρ a){ty:TypeId}{x y:Operand}(ho:o.op = .store ty x y)
  (e:(Io P ty (aX ρ x) (aX ρ y)).run h=some (d,r)) (hp:bU d.pre):bo P o a w0 N0 A env h w d:=by
 have dx:=cY f x
 have dy:=cY f y
 have go:∀{b off:Nat}{w':World},a.eval x = .pointer (some ⟨b,off,none⟩)->(storeVar ty ⟨b,off,none⟩ (a.eval y)).run P w = .ok () w'→(execOp a.eval o).run P w = .ok .skip w':=by
  intro b off w' ev hr;unfold execOp;rw[ho];simp only[ev,Instr.storeAt,Instr.sureAddr,Sem.run_bind,Sem.run_pure,Result.andThen_ok,hr]
 unfold Io at e
 split at e
 next n sz i off hx=>
  rw[hx] at dx;simp only[aB] at dx;obtain⟨b,l,he,hil,ev⟩:=dx;rw[← gW] at ev;simp only[Q.run] at e;split at e
  .rename_i p q hk;simp only[bp,br] at e;obtain⟨rfl,rfl⟩:=e;split at hk
   .rename_i E t xs j cs hl;split at hk
    .rename_i vs k hc hn;obtain⟨dv,h1⟩:=AE hc dy;have hlv:=jg dv;split at hk
     .rename_i hb hs1 hle;have hb:k=vs.length:=bJ hb;have hs1:sz=t.size:=bJ hs1;have hle:off+vs.length<=t.size:=kT hle;subst hs1;cases ck hk;have hij:i=j:=hp.1;subst hij;have hsz:gX P ty=some (a.eval y).cells.size:=by rw[hn,hb,← hlv,gg]
      obtain⟨w',hr,g⟩:=LF m hl rfl he (m.live_blk hl he).1 dv h1 hsz hle;obtain⟨u,A',env',q1,q2,q3,q4⟩:=g;exact⟨undef,w',.inr ⟨go ev hr,rfl⟩,u,A',env',q1,q2,q3,q4⟩
     .cases hk
    .cases hk
   .rename_i E t xs hl;split at hk
    .rename_i vs k hc hn;split at hk
     .obtain⟨dv,h1⟩:=AE hc dy;have hlv:=jg dv;split at hk
      .rename_i hb hs1 hle;have hb:k=vs.length:=bJ hb;have hs1:sz=t.size:=bJ hs1;have hle:off+vs.length<=t.size:=kT hle;subst hs1;cases ck hk;have hsz:gX P ty=some (a.eval y).cells.size:=by rw[hn,hb,← hlv,gg]
       obtain⟨w',hr,g⟩:=LF m hl rfl he (Z9 (m.live_blk hl he).1 hil) dv h1 hsz hle;exact⟨undef,w',.inr ⟨go ev hr,rfl⟩,g⟩
      .cases hk
     .exact Ce m f ho (by rw[hx];exact hk)
    .cases hk
   .exact Ce m f ho (by rw[hx];exact hk)
  .cases e
 .exact Ce m f ho e
theorem E6(m:Mod w0 N0 A env h w):∀(cs:List SV){u:List (Nat×Nm)}{r:List Nat},(wj cs).run h=some (u,r)→∃ A',Mod w0 N0 A' env (cT u h) w/\dh A env w A' env w
 | [],u,r,e=>by
  simp only[wj,Q.run,bp,br] at e;obtain⟨rfl,rfl⟩:=e;exact⟨A,m,dh.refl⟩
 | s::cs,u,r,e=>by
  unfold wj at e;split at e
  next hh=>cases hh
  .rename_i n sz rr hh;cases hh;simp only[Q.run] at e;split at e
   .rename_i p q hk;simp only[bp,br] at e;obtain⟨rfl,rfl⟩:=e;split at hk
    .rename_i E t xs i es hl;obtain⟨⟨d',rest,fz⟩,r1,r2,e1,e2,rfl⟩:=Q.run_bind _ _ _ hk;simp only at e2;split at e2
     .rename_i hr hni;simp only[Q.run,bp,br] at e2;obtain⟨rfl,rfl⟩:=e2;have hni:=zR hni;have hnm:=m.nm n;rw[hl] at hnm;rcases hnm with⟨k,l,he,hb,hA⟩|⟨_,E',t',hb⟩
      .obtain⟨us,cap,ws,hh,hus,hxl,hlc,hcm,hi,hes,hec,hed,hrd⟩:=id hb;obtain⟨ok,_⟩:=qN m t _ _ d' [] fz r1 e1 hed (A':=hV A env fz) (λb hb=>.inl hb) (λk hk'=>.inr hk');obtain⟨m2,x2⟩:=m.freeze ok;have hl2:cT fz h n = .live (.opn E t xs i es):=by rw[nJ hni];exact hl
       have hrow:nk (hV A env fz) w k l E t (xs.set i d'):=aO0 (λb hb=>.inl hb) hb (λvs hvs hdv =>
        (qN m t _ _ d' [] fz r1 e1 hdv (A':=hV A env fz) (λb hb=>.inl hb) (λk hk'=>.inr hk')).2.2.2.1)
       have u:=mb.write (b' := .row E t (xs.set i d')) m2 hl2 rfl he (cS.refl w _) hrow rfl;exact⟨hV A env fz,m2.upd u,x2.trans (m2.ext u)⟩
      .rcases hb with hb|hb <;> cases hb
     .cases e2
    .exact E6 m cs hk
   .cases e
  next hh=>cases hh;exact E6 m cs e
theorem ag3(m:Mod w0 N0 A env h w){ty:TypeId}{x:Operand}(φ:Operand->SV)(dx:aB A env w (φ x) (a.eval x))(ho:o.op = .load ty x)
  (e:(Hb P ty (φ x)).run h=some (d,r)):bo P o a w0 N0 A env h w d:=by
 have go:∀{b off:Nat}{v:Value},a.eval x = .pointer (some ⟨b,off,none⟩)->(loadVar ty ⟨b,off,none⟩).run P w = .ok v w->(execOp a.eval o).run P w = .ok (.value v) w:=by
  intro b off v ev hr;unfold execOp;rw[ho];simp only[ev,Instr.loadAt,Instr.sureAddr,Sem.run_bind,Sem.run_pure,Result.andThen_ok,hr]
 unfold Hb at e
 split at e
 next n off hx=>
  rw[hx] at dx;simp only[aB] at dx;obtain⟨b,l,he,ev⟩:=dx;simp only[Q.run] at e;split at e
  .rename_i p q hk;simp only[bp,br] at e;obtain⟨rfl,rfl⟩:=e;split at hk
   .rename_i E cs hl;split at hk
    next s e1=>obtain⟨u,r1,r2,e2,e3,rfl⟩:=Q.run_bind _ _ _ hk;cases ck e3;obtain⟨⟨vs,hh,hd⟩,_⟩:=m.live_blk hl he;obtain⟨v,hr,hv⟩:=BD (o:=0) (k:=b) e1 hd (λj hj=>by rw[cell_of_row w b _ vs E (0,0) hh];simp);rw[gz] at hr;obtain⟨A',m',x'⟩:=E6 m cs e2;exact⟨v,w,.inl (go ev hr),(),A',env,trivial,m',x',xu x' _ _ hv⟩
    .cases hk
   .cases hk
  .cases e
 .cases e
end
end Go.SX
namespace Go.SX
section
variable {P:Program} {w0:World} {N0:fY} {A:Nat->Prop} {env:bc} {h:bR} {w:World} {o:Oper} {a:Act} {ρ:Nat->SV} {d:Dl} {r:List Nat}
theorem An{k:IntKind}{a:Nat}(b:1<=a):∀(cs:List SV)(vs:List Value)(s:Nat)(l:ad),tm k a cs s=some l->aS A env w cs vs →
  ∀ j,s+j*a<vs.length->vs[s+j*a]? = some (.int k (lK l j))/\k.has (lK l j)
 | c::cs,vs,0,l,e,f,j,d=>by
  obtain⟨v,r,rfl,hv,g⟩:=f;cases c with
  | int k' n =>
   simp only[tm] at e;split at e
   .rename_i l' hk hl;cases e;cases lM hk;cases j with
    | zero=>simp[lK,hv.1,hv.2]
    | succ j =>
     have:=An b cs r (a-1) l' hl g j (by simp at d;rw[fN] at d;omega);have e1:0+(j+1)*a=(a-1+j*a)+1:=by rw[fN];omega
     rw[e1,List.getElem?_cons_succ];simpa[lK] using this
   .cases e
  | _=>simp[tm] at e
 | c::cs,vs,s+1,l,e,f,j,d=>by
  obtain⟨v,r,rfl,hv,g⟩:=f;have e':tm k a cs s=some l:=by cases c <;> simpa[tm] using e
  have:=An b cs r s l e' g j (by simp at d;omega);grind
theorem Xo(m:Mod w0 N0 A env h w)(f:FD A env w ρ a){t:TypeId}{x i:Operand}(ho:o.op = .index t x i)
  (e:(Jk P t (aX ρ x) (aX ρ i)).run h=some (d,r)) (hp:bU d.pre):bo P o a w0 N0 A env h w d:=by
 have u:=cY f x
 have y:=cY f i
 unfold Jk at e
 split at e
 next cs ki b len E hx hi hu=>
  rw[hx] at u;rw[hi] at y;obtain⟨vs,ev,j⟩:=u;have hvl:=jg j;have c:∀{v:Value}{n:Nat},gX P E=some n->0<=b->b<len->(part E vs (b.toNat*n)).run P w = .ok v w->(execOp a.eval o).run P w = .ok (.value v) w:=by
   intro v n hn h0 h1 hr;unfold execOp;rw[ho];simp only[Instr.index,y.1,ev,asIntOf,Sem.run_bind,Sem.run_pure,Result.andThen_ok,run_underlying hu,Sem.run_ite,am (And.intro h0 h1),kP hn,hr]
  split at e
  .rename_i k hE hsz;split at e
   .rename_i l hc g;have g:cs.length=len:=bJ g;cases ck e;simp only[Dl.pre,bU,iD] at hp;obtain⟨z,c2⟩:=An (eZ 1) cs vs.toList 0 l hc j b.toNat (by omega)
    refine bo.pure m (c hsz hp.1 hp.2 (v := .int k (lK l b.toNat)) ?_) (by simp only[aB];exact⟨trivial,c2⟩);have p:vz P E=some false:=by unfold vz;rw[hE]
    have q:vs[b.toNat]? = some (.int k (lK l b.toNat)):=by rw[← j7];simpa using z
    unfold part;simp[Sem.run_bind,BO p w,q]
   .cases e
  .rename_i E2 hE hsz;split at e
   .rename_i k hE2 hsz2;split at e
    .rename_i B l2 hc1 hc2 g;have g:cs.length=len*2:=bJ g;cases ck e;simp only[Dl.pre,bU,iD] at hp;obtain⟨z,c2⟩:=An (by decide) cs vs.toList 0 B hc1 j b.toNat (by omega)
     obtain⟨c3,c4⟩:=An (by decide) cs vs.toList 1 l2 hc2 j b.toNat (by omega)
     have p:vz P E=some true:=by unfold vz;rw[hE]
     refine bo.pure m (c hsz hp.1 hp.2 (v := .agg (vs.extract (b.toNat*2) (b.toNat*2+2))) ?_) ?_
     .unfold part;simp[Sem.run_bind,BO p w,kP hsz w]
     .simp only[aB,aS];have s:(vs.extract (b.toNat*2) (b.toNat*2+2)).toList=[.int k (lK B b.toNat),.int k (lK l2 b.toNat)]:=by
       apply List.ext_getElem?;grind
      exact⟨_,rfl,_,_,s,⟨rfl,c2⟩,_,_,rfl,⟨rfl,c4⟩,rfl⟩
    .cases e
   .cases e
  .cases e
 .cases e
theorem Wc(m:Mod w0 N0 A env h w)(f:FD A env w ρ a){g:FuncId}{b:Array Operand}(ho:o.op = .makeFunc (.func g) #[] b){pre:List Prop} :
  bo P o a w0 N0 A env h w (.det pre (.fn g (b.toList.map (aX ρ))) []):=by
 refine bo.pure m (v := .func (.func g) #[] (b.map a.eval)) ?_ ?_
 .unfold execOp;rw[ho];simp[Instr.makeFunc]
 .simp only[aB];refine⟨_,rfl,?_⟩;rw[Array.toList_map];generalize b.toList=l
  induction l with
  | nil=>simp[aS]
  | cons p l ih=>simp;exact⟨_,_,rfl,cY f p,ih⟩
theorem MW(m:Mod w0 N0 A env h w)(f:FD A env w ρ a){x:Operand}(b:o.op = .move x∨o.op = .assign x){pre:List Prop} :
  bo P o a w0 N0 A env h w (.det pre (aX ρ x) []):=by
 refine bo.pure m ?_ (cY f x)
 unfold execOp
 rcases b with b|b <;> rw[b] <;> rfl
end
abbrev Spec:=Nat->List SV->Q Dl
def nN(P:Program)(G:tG)(f:FuncId)(s:Spec):Prop :=
 ∀(base:Nat)(svs:List SV)(h:bR)(d:Dl)(r:List Nat),(s base svs).run h=some (d,r)->bU d.pre →
  ∀(w0:World)(N0:fY)(A:Nat->Prop)(env:bc)(w:World)(vs:List Value),N0.g=G->Mod w0 N0 A env h w->aS A env w svs vs →
   Calls P f vs.toArray w (λe w'=>∃ v,e = .returned v/\eO w0 N0 A env h w d v w')
def O0(P:Program)(f:FuncId):Bool:=match P.funcs[f]? with
 | some fn => !(fn.name == "runtime.NumGoroutine") && fn.body.isSome
 | none=>false
structure d6 where
 fn:FuncId->Option Spec
 gl:tG
def iQ(P:Program)(sp:d6):Prop:=∀ f s,sp.fn f=some s->nN P sp.gl f s
def FP(P:Program)(sp:d6)(base:Nat)(f:SV)(args:List SV):Q Dl:=match f with
 | .fn g caps=>match O0 P g,sp.fn g with
  | true,some s=>s base (args++caps)
  | _,_ => .fail
 | _ => .fail
def VW(dst:Option Tmp):Nat:=match dst with
 | some d=>(d+1)*16
 | none=>0
def Hl(P:Program)(dst:Option Tmp)(b:Builtin)(args:List SV)(ts:List TypeId):Q Dl:=match b,args,ts with
 | .len,[x],[t]=>nS P t x
 | .append,[s,x],[t,t']=>match Nat.beq t t',dst with
  | true,some d=>Al P t ((d+1)*16) s x
  | false,some d=>IF P t t' ((d+1)*16) s x
  | _,none => .fail
 | .cap,[x],[t]=>ut P t x
 | .min,[x,y],_=>Ia x y
 | .max,[x,y],_=>F3 x y
 | _,_,_ => .fail
def ai0(sp:d6):Option Tmp->Option Nat
 | some d=>match sp.fn (4000000000+d) with
  | some _=>some d
  | none=>none
 | none=>none
def Zu(sp:d6):Option Tmp->Bool
 | some d=>match sp.fn (4100000000+d) with
  | some _=>true
  | none=>false
 | none=>false
def LX(sp:d6):Bool:=match sp.fn 4200000000 with
 | some _=>true
 | none=>false
def ap2(sp:d6):Option Tmp->Bool
 | some d=>match sp.fn (4300000000+d) with
  | some _=>true
  | none=>false
 | none=>false
def WX(sp:d6):Option Tmp->Option Nat
 | some d=>match sp.fn (4400000000+d) with
  | some s=>match s 0 [] with
   | .ask n _=>some n
   | _=>none
  | none=>none
 | none=>none
def aL7(n:Nat)(x:SV):Q Dl:=(wj [.own n 0]).bind λu=>.ret (.det [] x u)
def TF(sp:d6):Option Tmp->Bool
 | some d=>match sp.fn (4500000000+d) with
  | some _=>true
  | none=>false
 | none=>false
def H1(x:SV):Q Dl:=match x with
 | .own n sz => .ask n fun
  | .live (.row E u xs)=>match Nat.beq sz u.size with
   | true => .ret (.det [] (.dsl u xs) [(n,.live (.frz E u xs))])
   | false => .fail
  | _ => .fail
 | .dsl t xs=>bZ (.dsl t xs)
 | _ => .fail
def na(sp:d6)(ρ:Nat->SV)(x:Operand):SV:=match x with
 | .global g=>match sp.gl g with
  | some y => .dptr y.1 y.2 0
  | none => .gl g
 | x=>aX ρ x
def Ix(P:Program)(t:TypeId)(x i:SV):Q Dl:=match x,i,P.underlying t with
 | .agg cs,.int _ i,some (.array len e)=>match gX P e,decide (0<=i)&&decide (i<len) with
  | some n,true=>va (nt P e cs (i.toNat*n))
  | _,_ => .fail
 | _,_,_ => .fail
def ww(P:Program)(sp:d6)(o:Oper)(ρ:Nat->SV):Q Dl :=
 match o.op with
 | .move x=>match TF sp o.dst with
  | true=>H1 (aX ρ x)
  | false=>bZ (aX ρ x)
 | .assign x=>match WX sp o.dst with
  | some n=>aL7 n (aX ρ x)
  | none=>bZ (aX ρ x)
 | .pick c x y=>FN (aX ρ c) (aX ρ x) (aX ρ y)
 | .alloc E=>match o.dst with
  | some d=>yY E ((d+1)*16) (zeroCells P E)
  | none => .fail
 | .box E x=>match o.dst with
  | some d=>yY E ((d+1)*16) (vK (aX ρ x))
  | none => .fail
 | .build t ps=>GQ P t (ps.toList.map λp=>(p.1,aX ρ p.2))
 | .buildSlice t n ps=>match o.dst with
  | some d=>IW P t n ((d+1)*16) (ps.toList.map λp=>(p.1,aX ρ p.2))
  | none => .fail
 | .load t x=>match LX sp,ap2 sp o.dst with
  | true,true=>Hb P t (na sp ρ x)
  | true,false=>Gp P t (na sp ρ x)
  | false,_=>z7 P t (na sp ρ x)
 | .store t x y=>match LX sp with
  | true=>Io P t (aX ρ x) (aX ρ y)
  | false=>y9 P t (aX ρ x) (aX ρ y)
 | .nilCheck x=>F9 (aX ρ x)
 | .binOp op t x y _=>match P.underlying t with
  | some .string=>Fh op (aX ρ x) (aX ρ y)
  | _=>FF P op t (aX ρ x) (aX ρ y)
 | .unOp op _ x=>I5 op (aX ρ x)
 | .convert s t x=>match P.underlying t with
  | some .string=>Gc P s (aX ρ x)
  | _=>Ht P s t (aX ρ x)
 | .makeFunc (.func g) fs caps=>match fs.isEmpty with
  | true=>bZ (.fn g (caps.toList.map (aX ρ)))
  | false => .fail
 | .makeSlice t l c=>match o.dst with
  | some d=>Jq P t ((d+1)*16) (aX ρ l) (aX ρ c)
  | none => .fail
 | .slice t x lo hi mx=>match ai0 sp o.dst with
  | some d=>GC P t ((d+1)*16) (aX ρ x) (lo.map (aX ρ)) (hi.map (aX ρ)) (mx.map (aX ρ))
  | none=>HD P t (aX ρ x) (lo.map (aX ρ)) (hi.map (aX ρ)) (mx.map (aX ρ))
 | .fieldAddr s x f=>Jv P s f (aX ρ x)
 | .field s x f=>Ie P s f (aX ρ x)
 | .indexAddr t x i=>match P.underlying t with
  | some (.array _ _)=>Gb P t (na sp ρ x) (aX ρ i)
  | _=>Fp P t (aX ρ x) (aX ρ i)
 | .index t x i=>match Zu sp o.dst with
  | true=>Ix P t (aX ρ x) (aX ρ i)
  | false=>Jk P t (aX ρ x) (aX ρ i)
 | .extract x i=>Gt i (aX ρ x)
 | .makeMap t none=>match o.dst with
  | some d=>FW P t ((d+1)*16)
  | none => .fail
 | .lookup t x i true=>FG P t (aX ρ x) (aX ρ i)
 | .mapUpdate t x i y=>Gy P t (aX ρ x) (aX ρ i) (aX ρ y)
 | .call {callee := .builtin b,args,argTypes}=>Hl P o.dst b (args.toList.map (aX ρ)) argTypes.toList
 | .call {callee := .value f,args,..}=>FP P sp (VW o.dst) (aX ρ f) (args.toList.map (aX ρ))
 | _ => .fail
section
variable {P:Program} {sp:d6} {w0:World} {N0:fY} {A:Nat->Prop} {env:bc} {h:bR} {w:World} {o:Oper} {a:Act} {ρ:Nat->SV} {d:Dl} {r:List Nat}
def Az(P:Program)(o:Oper)(a:Act)(w0:World)(N0:fY)(A:Nat->Prop)(env:bc)(h:bR)(w:World)(d:Dl):Prop :=
 ∀(K:Act->World->Prop)(Q':Exit->Act->World->Prop),(∀ v w',eO w0 N0 A env h w d v w'→K (a.put o.dst v) w')->o.wp P a w K Q'
theorem bo.steps(y:bo P o a w0 N0 A env h w d):Az P o a w0 N0 A env h w d:=by
 intro K Q' hK
 obtain⟨v,w',b,g⟩:=y
 unfold Oper.wp
 rcases b with b|⟨b,rfl⟩ <;> rw[b]
 .exact hK _ _ g
 .exact hK _ _ g
theorem at5(f:FD A env w ρ a)(xs:Array Operand):aS A env w (xs.toList.map (aX ρ)) (xs.map a.eval).toList:=by
 rw[Array.toList_map]
 generalize xs.toList=l
 induction l with
 | nil=>simp[aS]
 | cons p l ih=>simp;exact⟨_,_,rfl,cY f p,ih⟩
theorem DS(hg:N0.g=sp.gl)(m:Mod w0 N0 A env h w)(f:FD A env w ρ a)(x:Operand):aB A env w (na sp ρ x) (a.eval x):=by
 cases x with
 | global g =>
  simp only[na];cases hy:sp.gl g with
  | none=>simp only[aB,Act.eval]
  | some y =>
   obtain⟨h1,h2⟩:=m.gl g y (by rw[hg];exact hy);exact⟨g,0,rfl,h1,h2⟩
 | tmp t=>simp only[na];exact cY f _
 | const v=>simp only[na];exact cY f (.const v)
 | func v=>simp only[na];exact cY f (.func v)
theorem ab6(m:Mod w0 N0 A env h w)(f:FD A env w ρ a){x:Operand}(ho:o.op = .move x)(e:(H1 (aX ρ x)).run h=some (d,r)):bo P o a w0 N0 A env h w d:=by
 have j:=cY f x
 have g:(execOp a.eval o).run P w = .ok (.value (a.eval x)) w:=by unfold execOp;rw[ho];rfl
 unfold H1 at e
 split at e
 next n sz hx=>
  rw[hx] at j;simp only[Q.run] at e;split at e
  .rename_i p q hk;obtain⟨rfl,rfl⟩:=e;split at hk
   .rename_i E u xs hl;split at hk
    .rename_i k;have k:=bJ k;cases ck hk;have ok:nu h [(n,.live (.frz E u xs))]:=by
      intro n' b l;simp_all
     obtain⟨y,x2⟩:=m.freeze ok;refine⟨a.eval x,w,.inl g,(),_,env,trivial,y,x2,?_⟩;rcases j with⟨hnil,pa,ev⟩|⟨b,len,E2,c,l,s,ev⟩
     .have v:xs=[]:=by
       have:=m.nm n;rw[hl] at this;rcases this with⟨k',l',he',_⟩|⟨_,E3,t3,l⟩
       .simp_all
       .grind
      subst v;exact⟨by simp,.inl ⟨⟨pa,ev⟩,rfl⟩⟩
     .have hs:cT [(n,Nm.live (kJ.frz E u xs))] h n = .live (.frz E u xs):=by simp[cT]
      have i:=(y.live_blk hs l).1;rw[ev,k];exact CG (λ_ h=>h) i.2 i.1 s
    .cases hk
   .cases hk
  .cases e
 next t xs hx=>rw[hx] at j;cases ck e;exact bo.pure m g j
 .cases e
theorem Ze(m:Mod w0 N0 A env h w)(f:FD A env w ρ a){t:TypeId}{x i:Operand}(ho:o.op = .index t x i)
  (e:(Ix P t (aX ρ x) (aX ρ i)).run h=some (d,r)):bo P o a w0 N0 A env h w d:=by
 have c:=cY f x
 have g:=cY f i
 unfold Ix at e
 split at e
 next cs ki iv len E hx hi hu=>
  rw[hx] at c;rw[hi] at g;obtain⟨vs,ev,dv⟩:=c;split at e
  next n hn b=>simp at b;obtain⟨sv,e1,rfl⟩:=wQ e;obtain⟨v,hr,hd⟩:=C7 e1 dv;refine bo.pure m ?_ hd;unfold execOp;rw[ho];simp only[Instr.index,g.1,ev,asIntOf,Sem.run_bind,Sem.run_pure,Result.andThen_ok,run_underlying hu,Sem.run_ite,am (And.intro b.1 b.2),kP hn,hr]
  .cases e
 .cases e
theorem T1(p:iQ P sp/\N0.g=sp.gl)(m:Mod w0 N0 A env h w)(f:FD A env w ρ a){g:Operand}{args:Array Operand}{ts:Array TypeId}{c:Nat}(ho:o.op = .call {callee := .value g,args,argTypes:=ts})
  (e:(FP P sp c (aX ρ g) (args.toList.map (aX ρ))).run h=some (d,r)) (hp:bU d.pre):(∃ v l,eO w0 N0 A env h w d v l)/\Az P o a w0 N0 A env h w d:=by
 have q:=cY f g
 unfold FP at e
 split at e
 next gi caps hg=>
  split at e
  .rename_i s k hsp;rw[hg] at q;obtain⟨vs,ev,dv⟩:=q;have b:=p.1 gi s hsp c _ h d r e hp w0 N0 A env w _ p.2 m (tC (at5 f args) dv);refine⟨?_,λK Q' hK=>?_⟩
   .obtain⟨e',l,fr,⟨v,_,g⟩,_⟩:=b [];exact⟨v,l,g⟩
   unfold Oper.wp execOp;rw[ho];unfold O0 at k;split at k
   .rename_i t n;simp only[dr,oX] at k;have i:t.body.isNone=false:=by cases hfb:t.body <;> simp_all
    simp only[resolve,Deferred.ofValue,ev,Sem.run_bind,Sem.run_pure,Result.andThen_ok,invoke,callFunc,run_program,n,k.1,i,AL,if_false,Array.empty_append,Oper.upon];have j:((Array.map a.eval args).toList++vs.toList).toArray=Array.map a.eval args++vs:=by apply Array.ext';simp
    rw[j] at b;refine b.mono ?_;simp_all
   .cases k
  .cases e
 .cases e
theorem zh{v:SV}(e:(bZ v).run h=some (d,r)):d = .det [] v []:=(ck e).symm
theorem RU(q:iQ P sp/\N0.g=sp.gl)(m:Mod w0 N0 A env h w)(f:FD A env w ρ a)
  (e:(ww P sp o ρ).run h=some (d,r)) (k:bU d.pre):(∃ v z,eO w0 N0 A env h w d v z)/\Az P o a w0 N0 A env h w d:=by
 have j:bo P o a w0 N0 A env h w d->(∃ v z,eO w0 N0 A env h w d v z)/\Az P o a w0 N0 A env h w d:=λy=>by
  have y':=y;obtain⟨v,z,hr,g⟩:=y';exact⟨⟨v,z,g⟩,y.steps⟩
 unfold ww at e
 split at e
 next x ho=>
  split at e
  .exact j (ab6 m f ho e)
  .rw[zh e];rw[zh e] at j;exact j (MW m f (.inl ho))
 next x ho=>
  split at e
  .obtain⟨u,r1,r2,e2,e3,rfl⟩:=Q.run_bind _ _ _ e;cases ck e3;obtain⟨A',m',I⟩:=E6 m _ e2;refine j ⟨a.eval x,w,.inl ?_,(),A',env,trivial,m',I,xu I _ _ (cY f x)⟩;unfold execOp;rw[ho];rfl
  .rw[zh e];rw[zh e] at j;exact j (MW m f (.inr ho))
 next c x y ho=>exact j (VJ m f ho e k)
 next E ho=>
  split at e
  .exact j (XA m ho e)
  .cases e
 next E x ho=>
  split at e
  .exact j (YO m f ho e)
  .cases e
 next t ps ho=>exact j (aG8 m f ho e)
 next t n ps ho=>
  split at e
  .exact j (VT m f ho e)
  .cases e
 next t x ho=>
  split at e
  .exact j (ag3 m (na sp ρ) (DS q.2 m f x) ho e)
  .exact j (an5 m (na sp ρ) (DS q.2 m f x) ho e k)
  .exact j (Iv m (na sp ρ) (DS q.2 m f x) ho e)
 next t x y ho=>
  split at e
  .exact j (av9 m f ho e k)
  .exact j (Ce m f ho e)
 next x ho=>exact j (aj4 m f ho e)
 next op t x y yt ho=>
  split at e
  next D=>exact j (aN7 m f ho D e)
  .exact j (WG m f ho e k)
 next op t x ho=>exact j (T7 m f ho e k)
 next s t x ho=>
  split at e
  next D=>exact j (aM5 m f ho D e)
  .exact j (aN8 m f ho e k)
 next g fs caps ho=>
  split at e
  .rename_i F;have:fs = #[]:=by simpa using F
   subst this;rw[zh e];rw[zh e] at j;exact j (Wc m f ho)
  .cases e
 next t l c ho=>
  split at e
  .exact j (XV m f ho e k)
  .cases e
 next t x lo hi mx ho=>
  split at e
  .exact j (ai4 m f ho e k)
  .exact j (aB4 m f ho e k)
 next s x i ho=>exact j (S6 m f ho e)
 next s x i ho=>exact j (aV0 m f ho e)
 next t x i ho=>
  split at e
  .exact j (ax7 m f (na sp ρ) (DS q.2 m f x) ho e)
  .exact j (Y5 m f ho e k)
 next t x i ho=>
  split at e
  .exact j (Ze m f ho e)
  .exact j (Xo m f ho e k)
 next x i ho=>exact j (aa4 m f ho e)
 next t ho=>
  split at e
  .exact j (aO4 m ho e)
  .cases e
 next t x i ho=>exact j (aX3 m f ho e)
 next t x i y ho=>exact j (Zn m f ho e)
 next b args ts ho=>
  obtain⟨al⟩:=args;obtain⟨B⟩:=ts;have p:(Hl P o.dst b (al.map (aX ρ)) B).run h=some (d,r):=e;cases b
  case len =>
   match al,B with
   | [C],[G]=>exact j (WY m f ho p)
  case cap =>
   match al,B with
   | [C],[G]=>exact j (We m f ho p)
  case append =>
   match al,B with
   | [C,J],[G,t2] =>
    simp only[List.map,Hl] at p;split at p
    next dd H _=>have H:G=t2:=bJ H;subst H;exact j (Lw m f ho p k)
    .exact j (aD1 m f ho p k)
    .cases p
  case min =>
   match al with
   | [C,J]=>exact j (aW4 m f ho p)
  case max =>
   match al with
   | [C,J]=>exact j (aI9 m f ho p)
  all_goals (cases p)
 next g args ts ho=>exact T1 q m f ho e k
 .cases e
end
end Go.SX
namespace Go.SX
def dU(sl:List SV)(i:Nat):SV:=match mQ sl i with
 | some v=>v
 | none => .junk
structure FS where
 sl:List SV
 h:bR
def BV:SV->SV
 | .opt _ v=>v
 | v=>v
def Hf(g:Bool):SV->List Prop
 | .opt b _=>[g=true->b=true]
 | _=>[]
def ul:List Operand->List Nat
 | []=>[]
 | .tmp t::r=>t::ul r
 | _::r=>ul r
def n6(n:Nat):List Nat->Bool
 | []=>false
 | m::r=>Nat.beq n m||n6 n r
theorem wU{n:Nat}:∀{l:List Nat},n6 n l=true↔n∈l
 | []=>by simp[n6]
 | m::r=>by simp[n6,wU (l:=r)]
def uu(o:Oper):List Nat:=match o.op with
 | .pick (.tmp c) _ _=>[c]
 | .pick _ _ _=>[]
 | op=>ul op.operands.toList
inductive GV where
 | always
 | cond (g:Bool)
 | unknown
abbrev PG(b want:Bool):Bool:=match want with
 | true=>b
 | false => !b
def wA(ops:List Oper)(sl:List SV):Option (Nat×Bool)->GV
 | none => .always
 | some (j,want)=>match mQ ops j with
  | some oj=>match oj.dst with
   | some d=>match dU sl d with
    | .bool b => .cond (PG b want)
    | .opt g (.bool b) => .cond (g&&PG b want)
    | v=>match CY v with
     | true => .cond false
     | false => .unknown
   | none => .unknown
  | none => .unknown
inductive iP:Type 1 where
 | go (d:Dl)
 | split (g:Bool) (d:Dl)
def pU(g:Bool)(sl:List SV):List Nat->List Prop
 | []=>[]
 | i::r=>Hf g (dU sl i)++pU g sl r
def Ag:List Prop->Bool->List Prop
 | [],_=>[]
 | l,g=>[g=true->bU l]
def Oe(g:Bool)(pu:List Prop)(d:Dl):Q iP:=match d with
 | .det pre v [] => .ret (.go (.det (Ag (pu++pre) g) (.opt g v) []))
 | .det pre v upd => .ret (.split g (.det (pu++pre) v upd))
 | .nd X qn pre R inh v upd => .ret (.split g (.nd X qn (pu++pre) R (λh=>inh (pb.1 h).2) v upd))
def A5(sl:List SV):List Nat->Bool
 | []=>false
 | i::r=>CY (dU sl i)||A5 sl r
def mE(P:Program)(sp:d6)(ops:List Oper)(o:Oper)(sl:List SV):Q iP:=match wA ops sl o.guard with
 | .always=>(ww P sp o (dU sl)).bind λd=>.ret (.go d)
 | .cond g=>match A5 sl (uu o) with
  | true => .ret (.go (.det [g=false] (.cv undef) []))
  | false=>(ww P sp o (λi=>match n6 i (uu o) with|true=>BV (dU sl i)|false=>dU sl i)).bind (Oe g (pU g sl (uu o)))
 | .unknown => .fail
def jr(sl:List SV)(dst:Option Tmp)(v:SV):List SV:=match dst with
 | some d=>sl.set d v
 | none=>sl
def FS.app(F:FS)(dst:Option Tmp)(d:Dl)(x:d.X):FS:=⟨jr F.sl dst (d.val x),d.hp x F.h⟩
def FS.skip(F:FS)(dst:Option Tmp):FS:=⟨jr F.sl dst (.cv undef),F.h⟩
def kZ(st:iP)(dst:Option Tmp)(F F':FS):Prop:=match st with
 | .go d=>∃ x,d.R x/\F'=F.app dst d x
 | .split g d=>(g=true∧∃ x,d.R x/\F'=F.app dst d x)∨(g=false/\F'=F.skip dst)
def iP.pre:iP->Prop
 | .go d=>bU d.pre
 | .split g d=>g=true->bU d.pre
def iP.wr:iP->List Nat
 | .go d=>d.wr
 | .split _ d=>d.wr
structure iz (w0:World) (N0:fY) (A:Nat->Prop) (env:bc) (F:FS) (a:Act) (w:World):Prop where
 m:Mod w0 N0 A env F.h w
 len:F.sl.length<=a.tmps.size
 f:FD A env w (dU F.sl) a
 dfr:a.defers=[]
section
variable {P:Program} {sp:d6} {w0:World} {N0:fY} {A:Nat->Prop} {env:bc} {F F':FS} {w:World} {o:Oper} {a:Act} {st:iP} {r:List Nat}
theorem Sd{sl:List SV}{d i:Nat}{v:SV}:dU (sl.set d v) i=if i=d/\d<sl.length then v else dU sl i:=by
 unfold dU
 simp only[vh,List.getElem?_set]
 by_cases h:d=i
 .subst h;by_cases h2:d<sl.length
  .simp[h2]
  .simp[h2]
 .have:¬ i=d:=λe=>h e.symm;simp[h,this]
theorem O4{A':Nat->Prop}{env':bc}{w':World}{sl:List SV}{v:SV}{u:Value}(len:sl.length<=a.tmps.size)(f:FD A env w (dU sl) a)(x:dh A env w A' env' w')(dst:Option Tmp)
  (hd:aB A' env' w' v u):FD A' env' w' (dU (jr sl dst v)) (a.put dst u):=by
 intro i
 cases dst with
 | none=>exact xu x _ _ (f i)
 | some d =>
  simp only[jr,Act.put];rw[Sd];split
  .rename_i h;obtain⟨rfl,h⟩:=h;have hi:i<a.tmps.size:=by omega
   simp only[qj,Array.getElem?_setIfInBounds_self_of_lt hi,fu];exact hd
  .rename_i h;by_cases hid:i=d
   .subst hid;have:¬ i<sl.length:=λhh=>h ⟨rfl,hh⟩;have:dU sl i = .junk:=by unfold dU;rw[vh,xk (by omega)]
    rw[this];simp only[aB]
   .have h2:=xu x _ _ (f i);simp only[qj] at h2 ⊢;rw[zS (λe=>hid e.symm)];exact h2
theorem Lu(a:Act)(dst:Option Tmp)(v:Value):(a.put dst v).tmps.size=a.tmps.size:=by cases dst <;> simp[Act.put]
theorem LV(a:Act)(dst:Option Tmp)(v:Value):(a.put dst v).defers=a.defers:=by cases dst <;> rfl
theorem O1(sl:List SV)(dst:Option Tmp)(v:SV):(jr sl dst v).length=sl.length:=by cases dst <;> simp[jr]
theorem iz.app(t:iz w0 N0 A env F a w){d:Dl}{v:Value}{w':World}(g:eO w0 N0 A env F.h w d v w')(dst:Option Tmp) :
  ∃ x A' env',d.R x/\iz w0 N0 A' env' (F.app dst d x) (a.put dst v) w'∧dh A env w A' env' w':=by
 obtain⟨x,A',env',hR,m',e',hd⟩:=g
 exact⟨x,A',env',hR,⟨m',by simp only[FS.app,O1,Lu];exact t.len,O4 t.len t.f e' dst hd,by rw[LV];exact t.dfr⟩,e'⟩
theorem iz.skip(t:iz w0 N0 A env F a w)(dst:Option Tmp):iz w0 N0 A env (F.skip dst) (a.put dst undef) w :=
 ⟨t.m,by simp only[FS.skip,O1,Lu];exact t.len,O4 t.len t.f dh.refl dst (by simp only[aB]),by rw[LV];exact t.dfr⟩
theorem Yb(a:Act){ops:Array Oper}(h:o.guard=none):Region.wanted o (yielded ops a.tmps)=true:=by simp[Region.wanted,h]
theorem aQ5(t:iz w0 N0 A env F a w){ops:Array Oper}{g:Bool}(e:wA ops.toList F.sl o.guard = .cond g) :
  Region.wanted o (yielded ops a.tmps)=g:=by
 unfold wA at e
 split at e
 .cases e
 next j want hg=>
  have hw:Region.wanted o (yielded ops a.tmps)=(yielded ops a.tmps j == some want):=by simp[Region.wanted,hg]
  split at e
  .rename_i oj hj;split at e
   .rename_i d hd;have hj':ops[j]? = some oj:=by rw[vh,j7] at hj;exact hj
    have hy:yielded ops a.tmps j=match a.tmps[d]? with|some (.bool b)=>some b|_=>none:=by
     unfold yielded;rw[hj'];simp only[Option.bind_some,hd];rfl
    have hfd:=t.f d;have getIt:∀{v:Value},a.tmps.getD d undef=v->v≠undef->a.tmps[d]? = some v:=by
     intro v hv hne;rw[qj] at hv;cases hx:a.tmps[d]? with
     | none=>rw[hx] at hv;exact absurd hv.symm hne
     | some u=>rw[hx] at hv;simp only[fu] at hv;rw[hv]
    rw[hw,hy];split at e
    next b hb=>cases e;rw[hb] at hfd;simp only[aB] at hfd;rw[getIt hfd (by simp[undef])];cases b <;> cases want <;> rfl
    .rename_i g' b hb;cases e;rw[hb] at hfd;cases g' with
     | true =>
      simp only[aB] at hfd;rw[getIt hfd (by simp[undef])];cases b <;> cases want <;> rfl
     | false =>
      simp only[aB] at hfd;rw[qj] at hfd;cases hx:a.tmps[d]? with
      | none=>rfl
      | some u=>rw[hx] at hfd;simp only[fu] at hfd;subst hfd;rfl
    .rename_i hv1 hv2;split at e
     .rename_i hun;cases e;have hun':∃ vs,dU F.sl d = .cv (.tuple vs)/\vs.isEmpty=true:=by
       generalize dU F.sl d=v at hun;unfold CY at hun;split at hun
       next vs=>exact⟨vs,rfl,hun⟩
       .cases hun
      obtain⟨vs,h1,h2⟩:=hun';rw[h1] at hfd;simp only[aB] at hfd;rw[qj] at hfd;cases hx:a.tmps[d]? with
      | none=>rfl
      | some u=>rw[hx] at hfd;simp only[fu] at hfd;subst hfd;rfl
     .cases e
   .cases e
  .cases e
theorem Li{g:Bool}{sl:List SV}:∀{l:List Nat},bU (pU g sl l)→∀ i∈l,bU (Hf g (dU sl i))
 | [],_,i,hi=>by simp at hi
 | j::r,h,i,hi=>by
  simp only[pU,pb] at h;rcases dj.1 hi with rfl|hi
  .exact h.1
  .exact Li h.2 i hi
theorem VI(f:FD A env w (dU F.sl) a){l:List Nat}(hp:bU (pU true F.sl l)) :
  FD A env w (λi=>match n6 i l with|true=>BV (dU F.sl i)|false=>dU F.sl i) a:=by
 intro i
 show aB A env w (match n6 i l with|true=>BV (dU F.sl i)|false=>dU F.sl i) _
 cases hm:n6 i l with
 | false=>exact f i
 | true =>
  have:=Li hp i (wU.1 hm);have hf:=f i;show aB A env w (BV (dU F.sl i)) _;generalize dU F.sl i=v at *;cases v with
  | opt b v =>
   have hb:b=true:=by simpa[Hf,bU] using this
   subst hb;simpa only[BV,aB] using hf
  | _=>exact hf
theorem XX{l:List Prop}{g:Bool}(h:bU (Ag l g))(hg:g=true):bU l:=by
 cases l with
 | nil=>trivial
 | cons p l=>simp only[Ag,bU,iD] at h;exact h hg
theorem Fm(hs:iQ P sp/\N0.g=sp.gl)(t:iz w0 N0 A env F a w){ops:Array Oper}(e:(mE P sp ops.toList o F.sl).run F.h=some (st,r))(hp:st.pre) :
  (∃ F',kZ st o.dst F F'∧∃ A' env' a' w',iz w0 N0 A' env' F' a' w'∧dh A env w A' env' w') ∧
  ∀(K:Act->World->Prop)(Q':Exit->Act->World->Prop),(∀ F' A' env' a' w',kZ st o.dst F F'→iz w0 N0 A' env' F' a' w'→dh A env w A' env' w'→K a' w') →
   if Region.wanted o (yielded ops a.tmps) then o.wp P a w K Q'∨(o.asks P a w/\LetsOut Q') else K (a.put o.dst undef) w:=by
 unfold mE at e
 split at e
 next hg=>
  obtain⟨d,r1,r2,e1,e2,rfl⟩:=Q.run_bind _ _ _ e;simp only[Q.run,bp,br] at e2;obtain⟨rfl,rfl⟩:=e2;obtain⟨⟨v,w',g⟩,hst⟩:=RU hs t.m t.f e1 hp;have hgn:o.guard=none:=by
   unfold wA at hg;split at hg
   .assumption
   .split at hg
    .split at hg
     .split at hg
      .cases hg
      .cases hg
      .split at hg <;> cases hg
     .cases hg
    .cases hg
  refine⟨?_,λK Q' hK=>?_⟩
  .obtain⟨x,A',env',hR,t',x'⟩:=t.app g o.dst;exact⟨_,⟨x,hR,rfl⟩,A',env',_,_,t',x'⟩
  .rw[Yb a hgn];refine .inl (hst K Q' λv w' g=>?_);obtain⟨x,A',env',hR,t',x'⟩:=t.app g o.dst;exact hK _ _ _ _ _ ⟨x,hR,rfl⟩ t' x'
 next g hg=>
  have hwant:=aQ5 t hg;split at e
  .simp only[Q.run,bp,br] at e;obtain⟨rfl,rfl⟩:=e;simp only[iP.pre,Dl.pre,bU,iD] at hp;rw[hwant];subst hp;have gd:eO w0 N0 A env F.h w (.det [false=false] (.cv undef) []) undef w :=
    ⟨(),A,env,trivial,t.m,dh.refl,by simp only[Dl.val,aB]⟩
   obtain⟨x,A',env',hR,t',x'⟩:=t.app gd o.dst;refine⟨⟨_,⟨x,hR,rfl⟩,A',env',_,_,t',x'⟩,λK Q' hK=>?_⟩;rw[af (by simp)];exact hK _ _ _ _ _ ⟨x,hR,rfl⟩ t' x'
  obtain⟨d,r1,r2,e1,e2,rfl⟩:=Q.run_bind _ _ _ e;rw[hwant];have yes:g=true->bU (pU g F.sl (uu o))->bU d.pre->(∃ v w',eO w0 N0 A env F.h w d v w')/\Az P o a w0 N0 A env F.h w d:=by
   rintro rfl h1 h2;exact RU hs t.m (VI t.f h1) e1 h2
  have splitCase:∀ d',st = .split g d'→d'.X=d.X->(∀(h1:bU d'.pre),bU (pU g F.sl (uu o))/\bU d.pre) →
    (∀ v w',eO w0 N0 A env F.h w d v w'→eO w0 N0 A env F.h w d' v w') →
    (∃ F',kZ st o.dst F F'∧∃ A' env' a' w',iz w0 N0 A' env' F' a' w'∧dh A env w A' env' w') ∧
    ∀(K:Act->World->Prop)(Q':Exit->Act->World->Prop),(∀ F' A' env' a' w',kZ st o.dst F F'→iz w0 N0 A' env' F' a' w'→dh A env w A' env' w'→K a' w') →
     if g=true then o.wp P a w K Q'∨(o.asks P a w/\LetsOut Q') else K (a.put o.dst undef) w:=by
   rintro d' rfl _ hpre hgood;cases g with
   | true =>
    obtain⟨h1,h2⟩:=hpre (hp rfl);obtain⟨⟨v,w',gd⟩,hst⟩:=yes rfl h1 h2;refine⟨?_,λK Q' hK=>?_⟩
    .obtain⟨x,A',env',hR,t',x'⟩:=t.app (hgood _ _ gd) o.dst;exact⟨_,.inl ⟨rfl,x,hR,rfl⟩,A',env',_,_,t',x'⟩
    .rw[am rfl];refine .inl (hst K Q' λv w' gd=>?_);obtain⟨x,A',env',hR,t',x'⟩:=t.app (hgood _ _ gd) o.dst;exact hK _ _ _ _ _ (.inl ⟨rfl,x,hR,rfl⟩) t' x'
   | false =>
    refine⟨⟨_,.inr ⟨rfl,rfl⟩,A,env,_,_,t.skip o.dst,dh.refl⟩,λK Q' hK=>?_⟩;rw[af (by simp)];exact hK _ _ _ _ _ (.inr ⟨rfl,rfl⟩) (t.skip o.dst) dh.refl
  unfold Oe at e2;split at e2
  .rename_i pre v;simp only[Q.run,bp,br] at e2;obtain⟨rfl,rfl⟩:=e2;simp only[iP.pre,Dl.pre] at hp;cases g with
   | true =>
    have h12:=XX hp rfl;rw[pb] at h12;obtain⟨⟨u,w',gd⟩,hst⟩:=yes rfl h12.1 h12.2;have conv:∀ u w',eO w0 N0 A env F.h w (.det pre v []) u w'→eO w0 N0 A env F.h w (.det (Ag (pU true F.sl (uu o)++pre) true) (.opt true v) []) u w':=by
     rintro u w' ⟨x,A',env',hR,m',x',hd⟩;exact⟨(),A',env',trivial,m',x',by simpa only[Dl.val,aB] using hd⟩
    refine⟨?_,λK Q' hK=>?_⟩
    .obtain⟨x,A',env',hR,t',x'⟩:=t.app (conv _ _ gd) o.dst;exact⟨_,⟨x,hR,rfl⟩,A',env',_,_,t',x'⟩
    .rw[am rfl];refine .inl (hst K Q' λv w' gd=>?_);obtain⟨x,A',env',hR,t',x'⟩:=t.app (conv _ _ gd) o.dst;exact hK _ _ _ _ _ ⟨x,hR,rfl⟩ t' x'
   | false =>
    have gd:eO w0 N0 A env F.h w (.det (Ag (pU false F.sl (uu o)++pre) false) (.opt false v) []) undef w :=
     ⟨(),A,env,trivial,t.m,dh.refl,by simp only[Dl.val,aB]⟩
    obtain⟨x,A',env',hR,t',x'⟩:=t.app gd o.dst;refine⟨⟨_,⟨x,hR,rfl⟩,A',env',_,_,t',x'⟩,λK Q' hK=>?_⟩;rw[af (by simp)];exact hK _ _ _ _ _ ⟨x,hR,rfl⟩ t' x'
  next pre v upd _=>simp only[Q.run,bp,br] at e2;obtain⟨rfl,rfl⟩:=e2;exact splitCase _ rfl rfl (λh1=>by simpa only[Dl.pre,pb] using h1) (λu w' ⟨x,A',env',hR,m',x',hd⟩=>⟨(),A',env',trivial,m',x',hd⟩)
  next X pre R inh v upd=>simp only[Q.run,bp,br] at e2;obtain⟨rfl,rfl⟩:=e2;exact splitCase _ rfl rfl (λh1=>by simpa only[Dl.pre,pb] using h1) (λu w' ⟨x,A',env',hR,m',x',hd⟩=>⟨x,A',env',hR,m',x',hd⟩)
 .cases e
end
end Go.SX
namespace Go.SX
def uX:Option Tmp->List Nat
 | some d=>[d]
 | none=>[]
def tI(wr:List Nat)(h:bR):bR:=λn=>match n6 n wr with
 | true=>h n
 | false => .un
theorem YP{wr:List Nat}{h:bR}{n:Nat}(hn:n∈wr):tI wr h n=h n:=by unfold tI;rw[wU.2 hn]
theorem Xc{wr:List Nat}{h h':bR}(e:∀ n∈wr,h' n=h n):tI wr h'=tI wr h:=by
 funext n
 unfold tI
 split
 next hm=>exact e n (wU.1 hm)
 .rfl
structure nw where
 rd:List Nat
 wr:List Nat
 srd:List Nat
 swr:List Nat
 q:Q iP
 st:iP
 old:bR
def jh(P:Program)(sp:d6)(ops:Array Oper)(o:Oper)(st:iP)(r:List Nat)(F:FS):nw:=⟨r,st.wr,o.looksAt ops,uX o.dst,mE P sp ops.toList o F.sl,st,tI st.wr F.h⟩
def n8:List Nat->List Nat->Bool
 | [],_=>true
 | a::r,l => !n6 a l&&n8 r l
theorem pt:∀{l m:List Nat},n8 l m=true→∀ n∈l,n ∉ m
 | [],m,_,n,hn=>by simp at hn
 | a::r,m,h,n,hn=>by
  simp only[n8,dr,oX] at h;rcases dj.1 hn with rfl|hn
  .intro hm;rw[wU.2 hm] at h;exact absurd h.1 (by simp)
  .exact pt h.2 n hn
def Hq(s t:nw):Bool:=n8 s.wr t.rd&&n8 s.wr t.wr&&n8 t.wr s.rd&&n8 s.swr t.srd&&n8 s.swr t.swr&&n8 t.swr s.srd
def Gl(s t:nw):Prop:=∃ pre v u,s.st = .go (.det pre v u)/\(∀ n∈t.rd,n∈s.wr)/\t.q.run s.old=some (t.st,t.rd)/\t.q.run (cT u s.old)=some (t.st,t.rd)
structure r7 (s t:nw):Prop where
 a:(∀ n∈s.wr,n ∉ t.rd)∨Gl s t
 b:∀ n∈s.wr,n ∉ t.wr
 c:(∀ n∈t.wr,n ∉ s.rd)∨Gl t s
 d:∀ n∈s.swr,n ∉ t.srd
 e:∀ n∈s.swr,n ∉ t.swr
 f:∀ n∈t.swr,n ∉ s.srd
theorem r7.symm{s t:nw}(h:r7 s t):r7 t s:=⟨h.c,λn hn hm=>h.b n hm hn,h.a,h.f,λn hn hm=>h.e n hm hn,h.d⟩
theorem Z2{s t:nw}(h:Hq s t=true):r7 s t:=by
 simp only[Hq,dr] at h
 obtain⟨⟨⟨⟨⟨h1,h2⟩,h3⟩,h4⟩,h5⟩,h6⟩:=h
 exact⟨.inl (pt h1),pt h2,.inl (pt h3),pt h4,pt h5,pt h6⟩
def sI:List Nat->Nat->Nat
 | [],_=>0
 | m::_,0=>m
 | _::r,n+1=>sI r n
theorem JG:∀(l:List Nat)(n:Nat),sI l n=l.getD n 0
 | [],n=>by simp[sI]
 | m::r,0=>rfl
 | m::r,n+1=>by simp[sI,JG r n]
def yl(tbl:List Nat):List Edge->Nat
 | []=>0
 | e::r=>match Region.binds .any e with
  | true=>(1 <<< e.on) ||| (sI tbl e.on ||| yl tbl r)
  | false=>yl tbl r
def Cq:List Oper->List Nat->List Nat
 | [],tbl=>tbl
 | o::r,tbl=>Cq r (tbl++[yl tbl o.after.toList])
def xK(msk:List Nat)(i j:Nat):Bool:=(sI msk j).testBit i
inductive rq (ops:Array Oper):Nat->Nat->Prop where
 | edge {i j:Nat} {o:Oper} {e:Edge} (ho:ops[j]? = some o) (he:e∈o.after) (hb:Region.binds .any e=true) (hi:e.on=i):rq ops i j
 | step {i j:Nat} {o:Oper} {e:Edge} (ho:ops[j]? = some o) (he:e∈o.after) (hb:Region.binds .any e=true) (h:rq ops i e.on):rq ops i j
theorem aQ2(n i:Nat)(h:(1 <<< n).testBit i=true):i=n:=by
 rw[Nat.testBit_shiftLeft] at h
 simp only[dr,jz] at h
 have h2:=h.2
 by_cases hz:i-n=0
 .omega
 .have:Nat.testBit 1 (i-n)=false:=by
   cases hk:i-n with
   | zero=>exact absurd hk hz
   | succ k=>simp[Nat.testBit_succ]
  rw[this] at h2;cases h2
theorem Gq{ops:Array Oper}{tbl:List Nat}{j i:Nat}{o:Oper}(ho:ops[j]? = some o)(ht:∀ k,(sI tbl k).testBit i=true->rq ops i k) :
  ∀(es:List Edge),(∀ e∈es,e∈o.after)->(yl tbl es).testBit i=true->rq ops i j
 | [],_,h=>by simp[yl] at h
 | e::r,hm,h=>by
  simp only[yl] at h;split at h
  .rename_i hb;simp only[Nat.testBit_or,oo] at h;rcases h with h|h|h
   .exact .edge ho (hm e (by simp)) hb (aQ2 _ _ h).symm
   .exact .step ho (hm e (by simp)) hb (ht _ h)
   .exact Gq ho ht r (λe he=>hm e (fw _ he)) h
  .exact Gq ho ht r (λe he=>hm e (fw _ he)) h
theorem Mp{ops:Array Oper}:∀(l:List Oper)(k:Nat)(tbl:List Nat),(∀ j,l[j]? = ops[k+j]?)->tbl.length=k->(∀ i j,(sI tbl j).testBit i=true->rq ops i j) →
  ∀ i j,(sI (Cq l tbl) j).testBit i=true->rq ops i j
 | [],k,tbl,_,_,h=>h
 | o::l,k,tbl,hl,ht,h=>by
  have h0:ops[k]? = some o:=by simpa using (hl 0).symm
  refine Mp l (k+1) _ (λj=>by have:=hl (j+1);simpa[gW,uB 1 j] using this) (by simp[ht]) ?_;intro i j hb;rw[JG,ce] at hb;by_cases hj:j<tbl.length
  .rw[kA hj,← ce,← JG] at hb;exact h i j hb
  .by_cases hj2:j=tbl.length
   .subst hj2;simp only[kr (eZ _),Nat.sub_self,List.getElem?_cons_zero,fu] at hb;exact Gq (ht▸h0) (λk hk=>h i k hk) _ (λe he=>by simpa using he) hb
   .rw[kr (by omega),xk (by simp;omega)] at hb;simp at hb
abbrev oJ:=List (Nat×nw)
def B9(msk:List Nat)(i:Nat)(t:nw)(l:oJ):Prop:=∀ p∈l,xK msk p.1 i=true∨r7 p.2 t
section
variable (P:Program) (sp:d6) (ops:Array Oper) (msk:List Nat)
def qR(i:Nat)(log:oJ)(K:oJ->FS->Prop)(F:FS):Prop :=
 match ops[i]? with
 | none=>K log F
 | some o=>∃ st r,(mE P sp ops.toList o F.sl).run F.h=some (st,r)/\st.pre/\B9 msk i (jh P sp ops o st r F) log ∧
   ∀ F',kZ st o.dst F F'→K ((i,jh P sp ops o st r F)::log) F'
def vN(K:FS->Prop):Nat->Array Bool->oJ->FS->Prop
 | 0,listed,log,F=>Region.ready .any ops listed=[]/\K F
 | n+1,listed,log,F=>(Region.ready .any ops listed=[]->K F) ∧
   ∀ i∈Region.ready .any ops listed,qR P sp ops msk i log (λlog' F'=>vN K n (listed.setIfInBounds i true) log' F') F
def u7(K:FS->Prop):List Oper->Nat->oJ->FS->Prop
 | [],_,_,F=>K F
 | _::l,k,log,F=>qR P sp ops msk k log (λlog' F'=>u7 K l (k+1) log' F') F
end
section
variable {P:Program} {sp:d6} {ops:Array Oper} {msk:List Nat} {w0:World} {N0:fY} {K:FS->Prop}
theorem G0:∀(n:Nat)(listed:Array Bool)(log log':oJ)(F:FS),(∀ p,p∈log'↔p∈log)->vN P sp ops msk K n listed log F->vN P sp ops msk K n listed log' F
 | 0,_,_,_,_,_,h=>h
 | n+1,listed,log,log',F,hl,h=>by
  refine⟨h.1,λi hi=>?_⟩;have:=h.2 i hi;unfold qR at this ⊢;split
  next ho=>rw[ho] at this;exact G0 n _ _ _ _ hl this
  next o ho=>rw[ho] at this;obtain⟨st,r,h1,h2,h3,h4⟩:=this;refine⟨st,r,h1,h2,λp hp=>h3 p ((hl p).1 hp),λF' hF=>G0 n _ _ _ _ (λp=>?_) (h4 F' hF)⟩;simp[hl p]
theorem N4{st:iP}(hp:st.pre)(dst:Option Tmp)(F:FS):∃ F',kZ st dst F F':=by
 cases st with
 | go d=>obtain⟨x,hx⟩:=d.ne hp;exact⟨_,x,hx,rfl⟩
 | split g d =>
  cases g with
  | true=>obtain⟨x,hx⟩:=d.ne (hp rfl);exact⟨_,.inl ⟨rfl,x,hx,rfl⟩⟩
  | false=>exact⟨_,.inr ⟨rfl,rfl⟩⟩
theorem N2{ρ ρ':Nat->SV}{x:Operand}(h:∀ t,x = .tmp t->ρ t=ρ' t):aX ρ x=aX ρ' x:=by
 cases x with
 | tmp t=>exact h t rfl
 | _=>rfl
theorem Rk{o:Oper}{ρ ρ':Nat->SV}(h:∀ x∈o.op.operands,aX ρ x=aX ρ' x):ww P sp o ρ=ww P sp o ρ':=by
 have hmap:∀ xs:Array Operand,(∀ x∈xs,aX ρ x=aX ρ' x)->xs.toList.map (aX ρ)=xs.toList.map (aX ρ'):=λxs hx =>
  List.map_congr_left λx hm=>hx x (by simpa using hm)
 have hpairs:∀ ps:Array (Nat×Operand),(∀ x∈(ps.toList.map (·.2)).toArray,aX ρ x=aX ρ' x) →
   ps.toList.map (λp=>(p.1,aX ρ p.2))=ps.toList.map (λp=>(p.1,aX ρ' p.2)):=λps hx =>
  List.map_congr_left λp hm=>by
   rw[hx p.2 (by
    simp only[List.mem_toArray,List.mem_map];exact⟨p,hm,rfl⟩)]
 have hopt:∀ x:Option Operand,(∀ y,x=some y->aX ρ y=aX ρ' y)->x.map (aX ρ)=x.map (aX ρ'):=λx hx=>by
  cases x with
  | none=>rfl
  | some y=>simp[hx y rfl]
 obtain⟨dst,op,ty,pos,after,guard⟩:=o
 simp only at h
 unfold ww
 cases op <;> simp only[Op.operands] at h <;> simp only
 case move x=>rw[h x (by simp)]
 case assign x=>rw[h x (by simp)]
 case pick c x y=>rw[h c (by simp),h x (by simp),h y (by simp)]
 case box E x=>rw[h x (by simp)]
 case build t ps=>rw[hpairs ps h]
 case buildSlice t n ps=>rw[hpairs ps h]
 case load t x=>rw[show na sp ρ x=na sp ρ' x from by (cases x with|tmp s=>exact h (.tmp s) (by simp)|_=>rfl)]
 case store t x y=>rw[h x (by simp),h y (by simp)]
 case nilCheck x=>rw[h x (by simp)]
 case binOp op t x y yt=>rw[h x (by simp),h y (by simp)]
 case unOp op t x=>rw[h x (by simp)]
 case convert s t x=>rw[h x (by simp)]
 case makeFunc fn fs caps=>cases fn <;> simp only;rw[hmap caps λx hx=>h x (by simp[hx])]
 case makeSlice t l c=>rw[h l (by simp),h c (by simp)]
 case slice t x lo hi mx =>
  rw[h x (by simp),hopt lo λy hy=>h y (by simp[hy]),hopt hi λy hy=>h y (by simp[hy]),hopt mx λy hy=>h y (by simp[hy])]
 case fieldAddr s x f=>rw[h x (by simp)]
 case field s x f=>rw[h x (by simp)]
 case indexAddr t x i=>rw[h x (by simp),h i (by simp),show na sp ρ x=na sp ρ' x from (by cases x with|tmp s=>exact h (.tmp s) (by simp)|_=>rfl)]
 case index t x i=>rw[h x (by simp),h i (by simp)]
 case extract x i=>rw[h x (by simp)]
 case makeMap t r=>cases r <;> rfl
 case lookup t x i ok=>cases ok <;> simp only[h x (by simp),h i (by simp)]
 case mapUpdate t x i y=>rw[h x (by simp),h i (by simp),h y (by simp)]
 case call c =>
  obtain⟨callee,args,ts⟩:=c;cases callee with
  | value g=>simp only;rw[h g (by simp[Call.operands]),hmap args λx hx=>h x (by simp[Call.operands,hx])]
  | builtin b=>simp only;rw[hmap args λx hx=>h x (by simp[Call.operands,hx])]
  | invoke rc m=>rfl
theorem Av{t:Nat}:∀{l:List Operand},t∈ul l↔Operand.tmp t∈l
 | []=>by simp[ul]
 | .tmp s::r=>by simp[ul,Av (l:=r)]
 | .const v::r=>by simp[ul,Av (l:=r)]
 | .global g::r=>by simp[ul,Av (l:=r)]
 | .func f::r=>by simp[ul,Av (l:=r)]
theorem Ca{o:Oper}{t:Nat}(h:Operand.tmp t∈o.op.operands):t∈o.looksAt ops:=by
 unfold Oper.looksAt
 refine g7 _ (List.mem_filterMap.2 ⟨.tmp t,by simpa using h,rfl⟩)
theorem Ri{o:Oper}{t:Nat}(h:t∈uu o):t∈o.looksAt ops:=by
 unfold uu at h
 split at h
 next c x y ho=>simp only[jR] at h;subst h;exact Ca (by rw[ho];simp[Op.operands])
 .simp at h
 .exact Ca (by simpa using Av.1 h)
theorem VL{o:Oper}{sl sl':List SV}(h:∀ t∈o.looksAt ops,dU sl' t=dU sl t):mE P sp ops.toList o sl'=mE P sp ops.toList o sl:=by
 have hg:wA ops.toList sl' o.guard=wA ops.toList sl o.guard:=by
  unfold wA;cases hgd:o.guard with
  | none=>rfl
  | some p =>
   obtain⟨j,want⟩:=p;simp only;cases hj:mQ ops.toList j with
   | none=>rfl
   | some oj =>
    simp only;cases hd:oj.dst with
    | none=>rfl
    | some d =>
     simp only;rw[h d ?_];unfold Oper.looksAt;refine jd _ ?_;rw[hgd];rw[vh,j7] at hj;simp[hj,hd]
 have hpre:∀(g:Bool)(l:List Nat),(∀ t∈l,t∈o.looksAt ops)->pU g sl' l=pU g sl l:=by
  intro g l
  induction l with
  | nil=>intro _;rfl
  | cons t l ih=>intro hl;simp only[pU];rw[h t (hl t (by simp)),ih λs hs=>hl s (fw _ hs)]
 unfold mE
 rw[hg]
 split
 .rw[Rk λx hx=>N2 λt ht=>h t (Ca (ht▸hx))]
 next g _=>
  rw[hpre g _ λt ht=>Ri ht];have hany:∀(l:List Nat),(∀ t∈l,t∈o.looksAt ops)->A5 sl' l=A5 sl l:=by
   intro l
   induction l with
   | nil=>intro _;rfl
   | cons t l ih=>intro hl;simp only[A5];rw[h t (hl t (by simp)),ih λs hs=>hl s (fw _ hs)]
  rw[hany _ λt ht=>Ri ht];split
  .rfl
  congr 1;exact Rk λx hx=>N2 λt ht=>by simp only[h t (Ca (ht▸hx))]
 .rfl
theorem Zb{sl:List SV}{dst:Option Tmp}{v:SV}{t:Nat}(h:∀ d,dst=some d->t≠d):dU (jr sl dst v) t=dU sl t:=by
 cases dst with
 | none=>rfl
 | some d=>simp only[jr];rw[Sd,af (λhh=>h d rfl hh.1)]
theorem IH{st:iP}{dst:Option Tmp}{F F':FS}(h:kZ st dst F F'):∃ v u,F'.sl=jr F.sl dst v/\F'.h=cT u F.h∧∀ p∈u,p.1∈st.wr:=by
 have mk:∀(d:Dl)(x:d.X),∃ v u,(F.app dst d x).sl=jr F.sl dst v/\(F.app dst d x).h=cT u F.h∧∀ p∈u,p.1∈d.wr:=λd x =>
  ⟨d.val x,d.upd x,rfl,rfl,λp hp=>by rw[← Dl.wr_upd d x];exact qM hp⟩
 cases st with
 | go d=>obtain⟨x,_,rfl⟩:=h;exact mk d x
 | split g d =>
  rcases h with⟨_,x,_,rfl⟩|⟨_,rfl⟩
  .exact mk d x
  .exact⟨.cv undef,[],rfl,rfl,by simp⟩
theorem DP{n:Nat}:∀(u:List (Nat×Nm))(h1 h2:bR),n∈u.map (·.1)->cT u h1 n=cT u h2 n
 | [],_,_,hn=>by simp at hn
 | p::u,h1,h2,hn=>by
  simp only[cT];by_cases hpn:n=p.1
  .subst hpn;simp
  .rw[bR.set_other _ _ hpn,bR.set_other _ _ hpn];exact DP u h1 h2 (by simpa[hpn] using hn)
theorem P0{i j:Oper}{sti:iP}{F F':FS}(hd:∀ n∈uX i.dst,n ∉ j.looksAt ops)(hi:kZ sti i.dst F F'):mE P sp ops.toList j F'.sl=mE P sp ops.toList j F.sl:=by
 obtain⟨v,u,hsl,hh,hw⟩:=IH hi
 refine VL λt ht=>?_
 rw[hsl]
 exact Zb λd hdd e=>hd d (by simp[uX,hdd]) (e▸ht)
theorem P7{i j:Oper}{sti stj:iP}{rj:List Nat}{F F':FS}(hb:∀ n∈sti.wr,n ∉ stj.wr)(hd:∀ n∈uX i.dst,n ∉ j.looksAt ops)(hi:kZ sti i.dst F F') :
  jh P sp ops j stj rj F'=jh P sp ops j stj rj F:=by
 obtain⟨v,u,hsl,hh,hw⟩:=IH hi
 have e:tI stj.wr F'.h=tI stj.wr F.h:=Xc λn hn=>by
  rw[hh];refine nJ λhm=>?_;obtain⟨p,hp,rfl⟩:=List.mem_map.1 hm;exact hb _ (hw p hp) hn
 unfold jh
 rw[P0 hd hi,e]
theorem Fe{i j:Oper}{sti stj:iP}{ri rj:List Nat}{F F':FS}(ap:r7 (jh P sp ops i sti ri F) (jh P sp ops j stj rj F))(hi:kZ sti i.dst F F') :
  ((mE P sp ops.toList j F'.sl).run F'.h=some (stj,rj)↔(mE P sp ops.toList j F.sl).run F.h=some (stj,rj)):=by
 rw[P0 ap.d hi]
 rcases ap.a with ha|⟨pre,v,u,hst,hsub,h1,h2⟩
 .obtain⟨v,u,hsl,hh,hw⟩:=IH hi;have hq:∀ n∈rj,F'.h n=F.h n:=λn hn=>by
   rw[hh];refine nJ λhm=>?_;obtain⟨p,hp,rfl⟩:=List.mem_map.1 hm;exact ha _ (hw p hp) hn
  exact⟨λe=>Q.run_local _ e λn hn=>(hq n hn).symm,λe=>Q.run_local _ e hq⟩
 .simp only[jh] at hst hsub h1 h2;subst hst;obtain⟨x,_,rfl⟩:=hi;refine⟨λ_=>Q.run_local _ h1 λn hn=>(YP (hsub n hn)).symm,λ_=>Q.run_local _ h2 λn hn=>?_⟩;exact DP u _ _ (hsub n hn)
theorem Sz{u v:List (Nat×Nm)}(h:∀ p∈u,∀ q∈v,p.1≠q.1)(hp:bR):cT u (cT v hp)=cT v (cT u hp):=by
 funext n
 by_cases hu:n∈u.map (·.1)
 .have hv:n ∉ v.map (·.1):=λhv=>by
   obtain⟨p,hp1,rfl⟩:=List.mem_map.1 hu;obtain⟨q,hq1,hq2⟩:=List.mem_map.1 hv;exact h p hp1 q hq1 hq2.symm
  rw[nJ hv];exact DP u _ _ hu
 .rw[nJ hu];by_cases hv:n∈v.map (·.1)
  .exact DP v _ _ hv
  .rw[nJ hv,nJ hv,nJ hu]
theorem Y2{sl:List SV}{x y:Option Tmp}{v u:SV}(h:∀ d,x=some d->y≠some d):jr (jr sl x v) y u=jr (jr sl y u) x v:=by
 cases x with
 | none=>rfl
 | some d =>
  cases y with
  | none=>rfl
  | some e =>
   have hne:d≠e:=λhe=>h d rfl (he▸rfl);simp only[jr];exact List.set_comm _ _ hne
theorem aN0{i j:Oper}{sti stj:iP}{ri rj:List Nat}{F Fj Fji:FS}(ap:r7 (jh P sp ops i sti ri F) (jh P sp ops j stj rj F))(hj:kZ stj j.dst F Fj)(hi:kZ sti i.dst Fj Fji) :
  ∃ Fi,kZ sti i.dst F Fi/\kZ stj j.dst Fi Fji:=by
 have hdst:∀ d,i.dst=some d->j.dst≠some d:=λd hd hd'=>ap.e d (by simp[jh,uX,hd]) (by simp[jh,uX,hd'])
 have hdst':∀ d,j.dst=some d->i.dst≠some d:=λd hd hd'=>hdst d hd' hd
 have rep:∀{st:iP}{dst:Option Tmp}{F F':FS},kZ st dst F F'→∃ v u,(∀ p∈u,p.1∈st.wr)/\F'=⟨jr F.sl dst v,cT u F.h⟩∧∀ G:FS,kZ st dst G ⟨jr G.sl dst v,cT u G.h⟩:=by
  intro st dst F F' h;cases st with
  | go d=>obtain⟨x,hx,rfl⟩:=h;exact⟨d.val x,d.upd x,λp hp=>by rw[iP.wr,← Dl.wr_upd d x];exact qM hp,rfl,λG=>⟨x,hx,rfl⟩⟩
  | split g d =>
   rcases h with⟨hg,x,hx,rfl⟩|⟨hg,rfl⟩
   .exact⟨d.val x,d.upd x,λp hp=>by rw[iP.wr,← Dl.wr_upd d x];exact qM hp,rfl,λG=>.inl ⟨hg,x,hx,rfl⟩⟩
   .exact⟨.cv undef,[],by simp,rfl,λG=>.inr ⟨hg,rfl⟩⟩
 obtain⟨vj,uj,hwj,rfl,gj⟩:=rep hj
 obtain⟨vi,ui,hwi,rfl,gi⟩:=rep hi
 refine⟨_,gi F,?_⟩
 have e1:jr (jr F.sl j.dst vj) i.dst vi=jr (jr F.sl i.dst vi) j.dst vj:=Y2 hdst'
 have e2:cT ui (cT uj F.h)=cT uj (cT ui F.h):=Sz (λp hp q hq e=>ap.b p.1 (hwi p hp) (e▸hwj q hq)) F.h
 simp only[e1,e2]
 exact gj ⟨jr F.sl i.dst vi,cT ui F.h⟩
def C5(ops:Array Oper)(listed:Array Bool):Prop:=∀ j o,ops[j]? = some o->listed.getD j false=true→∀ e∈o.after,Region.binds .any e=true->listed.getD e.on false=true
theorem ay3{listed:Array Bool}(hd:C5 ops listed){i j:Nat}(hj:j∈Region.ready .any ops listed)(h:rq ops i j):listed.getD i false=true:=by
 obtain⟨hun,oj,hoj,hall⟩:=mem_ready.1 hj
 have key:∀{i k:Nat},rq ops i k->listed.getD k false=true->listed.getD i false=true:=by
  intro i k h
  induction h with
  | edge ho he hb hi=>intro hk;rw[← hi];exact hd _ _ ho hk _ he hb
  | step ho he hb _ ih=>intro hk;exact ih (hd _ _ ho hk _ he hb)
 cases h with
 | edge ho he hb hi =>
  rw[hoj] at ho;cases ho;rw[← hi];exact hall _ he hb
 | step ho he hb h =>
  rw[hoj] at ho;cases ho;exact key h (hall _ he hb)
theorem au4{listed:Array Bool}(hd:C5 ops listed){i:Nat}(hi:i∈Region.ready .any ops listed):C5 ops (listed.setIfInBounds i true):=by
 obtain⟨hun,oi,hoi,hall⟩:=mem_ready.1 hi
 have mono:∀ k,listed.getD k false=true->(listed.setIfInBounds i true).getD k false=true:=by
  intro k hk;rw[qj] at hk ⊢;by_cases h:i=k
  .subst h;by_cases h2:i<listed.size
   .rw[Array.getElem?_setIfInBounds_self_of_lt h2];rfl
   .rw[Array.getElem?_eq_none (by omega)] at hk;simp at hk
  .rw[zS h];exact hk
 intro j o ho hj e he hb
 by_cases hij:i=j
 .subst hij;rw[hoi] at ho;cases ho;exact mono _ (hall e he hb)
 .refine mono _ (hd j o ho ?_ e he hb);rw[qj] at hj ⊢
  rwa [zS hij] at hj
theorem aM0(hmsk:∀ i j,xK msk i j=true->rq ops i j){i:Nat}{oi:Oper}{st:iP}{r:List Nat}(hi:ops[i]? = some oi)(hpre:st.pre) :
  ∀(fuel:Nat)(listed:Array Bool)(log:oJ)(F:FS),C5 ops listed->i∈Region.ready .any ops listed->(mE P sp ops.toList oi F.sl).run F.h=some (st,r) →
   B9 msk i (jh P sp ops oi st r F) log →
   (∀ F',kZ st oi.dst F F'→vN P sp ops msk K fuel (listed.setIfInBounds i true) ((i,jh P sp ops oi st r F)::log) F')->vN P sp ops msk K (fuel+1) listed log F:=by
 intro fuel
 induction fuel with
 | zero =>
  intro listed log F hd hr hrun hlog H;refine⟨λh=>(by rw[h] at hr;cases hr),λj hj=>?_⟩;by_cases hji:j=i
  .subst hji;unfold qR;rw[hi];exact⟨st,r,hrun,hpre,hlog,H⟩
  .obtain⟨F',hF'⟩:=N4 hpre oi.dst F;have:=ready_mono hj hji;rw[(H F' hF').1] at this;cases this
 | succ fuel ih =>
  intro listed log F hd hr hrun hlog H;refine⟨λh=>(by rw[h] at hr;cases hr),λj hj=>?_⟩;by_cases hji:j=i
  .subst hji;unfold qR;rw[hi];exact⟨st,r,hrun,hpre,hlog,H⟩
  .obtain⟨hjun,oj,hoj,hall⟩:=mem_ready.1 hj;have Hj:∀ F',kZ st oi.dst F F'→∃ stj rj,(mE P sp ops.toList oj F'.sl).run F'.h=some (stj,rj)/\stj.pre/\B9 msk j (jh P sp ops oj stj rj F') ((i,jh P sp ops oi st r F)::log) ∧
     ∀ F'',kZ stj oj.dst F' F''→vN P sp ops msk K fuel ((listed.setIfInBounds i true).setIfInBounds j true) ((j,jh P sp ops oj stj rj F')::(i,jh P sp ops oi st r F)::log) F'':=by
    intro F' hF';have:=(H F' hF').2 j (ready_mono hj hji);unfold qR at this;rw[hoj] at this;exact this
   obtain⟨F1,hF1⟩:=N4 hpre oi.dst F;obtain⟨stj,rj,hrj,hpj,hlj,_⟩:=Hj F1 hF1;have hnot:xK msk i j=false:=by
    cases hb:xK msk i j with
    | false=>rfl
    | true =>
     have h1:=ay3 hd hj (hmsk i j hb);have h0:=(mem_ready.1 hr).1;rw[qj] at h0 h1;cases hx:listed[i]? with
     | none=>rw[hx] at h1;simp at h1
     | some b=>rw[hx] at h0 h1;simp at h0 h1;rw[h0] at h1;cases h1
   have ap1:r7 (jh P sp ops oi st r F) (jh P sp ops oj stj rj F1):=by
    rcases hlj (i,jh P sp ops oi st r F) (by simp) with h|h
    .simp only at h;rw[hnot] at h;cases h
    .exact h
   have tj:∀ F',kZ st oi.dst F F'→jh P sp ops oj stj rj F'=jh P sp ops oj stj rj F:=λF' hF'=>P7 ap1.b ap1.d hF';rw[tj F1 hF1] at hlj;have ap:r7 (jh P sp ops oi st r F) (jh P sp ops oj stj rj F):=by rw[← tj F1 hF1];exact ap1
   have hrun_j:(mE P sp ops.toList oj F.sl).run F.h=some (stj,rj):=(Fe ap hF1).1 hrj;unfold qR;rw[hoj];refine⟨stj,rj,hrun_j,hpj,λp hp=>hlj p (fw _ hp),λFj hFj=>?_⟩;have ti:jh P sp ops oi st r Fj=jh P sp ops oi st r F:=P7 (λn hn hm=>ap.b n hm hn) ap.f hFj;refine ih (listed.setIfInBounds j true) _ Fj (au4 hd hj) (ready_mono hr (Ne.symm hji)) ((Fe ap.symm hFj).2 hrun) (λp hp=>?_) λFji hFji=>?_
   .rw[ti];rcases dj.1 hp with rfl|hp
    .exact .inr ap.symm
    .exact hlog p hp
   .rw[ti];obtain⟨Fi,hFi,hFij⟩:=aN0 ap hFj hFji;obtain⟨stj',rj',hrj',hpj',hlj',hK⟩:=Hj Fi hFi;have e1:some (stj',rj')=some (stj,rj):=by rw[← hrj',← (Fe ap hFi).2 hrun_j]
    simp only[bp,br] at e1;obtain⟨rfl,rfl⟩:=e1;have:=hK Fji hFij;rw[tj Fi hFi] at this;rw[Array.setIfInBounds_comm _ _ hji];refine G0 _ _ _ _ _ (λp=>?_) this;simp only[dj];exact⟨λh=>by rcases h with h|h|h <;> simp[h],λh=>by rcases h with h|h|h <;> simp[h]⟩
end
end Go.SX
