/- SX, part 10: append, slicing, an array's element: soundness. -/
import Derived.Test.YtpdpkobkpacbnaaGreatDoorSx9
import Derived.Lib.AppendZeros
import Derived.Laws.BytesArg
import Derived.Laws.StructEq
import Derived.MapKept
import Derived.Carry
import Derived.Orders
set_option linter.unusedVariables false
open List (replicate)
namespace Go.SX
section
variable {P:Program} {w0:World} {N0:f5} {A:Nat->Prop} {env:aZ} {h:bP} {w:World} {o:Oper} {a:Act} {ρ:Nat->SV} {d:Dl} {r:List Nat}
theorem EF{t:CT}{cv:Nat->Option Value}:∀(ys:List t.D)(off:Nat),(∀ i (hi:i<ys.length),Rd A w t cv (off+i*t.size) ys[i]) →
  ∃ news:List Value,news.length=ys.length*t.size/\(∀ j,j<news.length->cv (off+j)=news[j]?)∧∀ u∈news,u.oneCell'=true
 | [],off,_=>⟨[],by simp,by simp,by simp⟩
 | y::ys,off,hr=>by
  obtain⟨us,hl,hc,hd⟩:=u7 (env:=λ_=>.un) t y cv off (by have:=hr 0 (by simp);simpa only[Nat.zero_mul,ip,List.getElem_cons_zero] using this);obtain⟨news,hl2,hc2,h1⟩:=EF ys (off+t.size) (λi hi=>by
   have:=hr (i+1) (by simpa using hi);simp only[List.getElem_cons_succ] at this;rw[show off+t.size+i*t.size=off+(i+1)*t.size from by rw[fS,kr];omega];exact this)
  refine⟨us++news,by simp[hl,hl2,fS];omega,λj hj=>?_,?_⟩
  .by_cases hlt:j<t.size
   .rw[hc j hlt,lF (by omega)]
   .rw[kw (by omega),hl];simp only[cA] at hj;have:=hc2 (j-t.size) (by omega);rw[show off+t.size+(j-t.size)=off+j from by omega] at this;exact this
  .intro u hu;rcases dB.1 hu with hu|hu
   .exact AY hd (FQ _ _) u hu
   .exact h1 u hu
theorem MN{t:CT}{v:Value}{ys:List t.D}(hs:qu A w t v ys):∃ p c,v = .slice p ys.length c/\ys.length<=maxLen ∧
  (ys.length=0∨∃ b off,p=some ⟨b,off,none⟩∧∀ i (hi:i<ys.length),Rd A w t (λo=>w.cell? ⟨b,o,none⟩) (off+i*t.size) ys[i]):=by
 obtain⟨hl,⟨⟨p,rfl⟩,rfl⟩|⟨b,off,cap,rfl,h1,h2,h3,h4⟩⟩:=hs
 .exact⟨p,0,rfl,hl,.inl rfl⟩
 .exact⟨_,cap,rfl,hl,.inr ⟨b,off,rfl,h4⟩⟩
theorem Gw(m:Mod w0 N0 A env h w){t:CT}{x:SV}{v:Value}{ys:List t.D}(e:(vn t x).run h=some (ys,r))(hd:az A env w x v) :
  ∃ p c,v = .slice p ys.length c/\ys.length<=maxLen ∧
  (ys.length=0∨∃ b off,p=some ⟨b,off,none⟩∧∀ i (hi:i<ys.length),Rd A w t (λo=>w.cell? ⟨b,o,none⟩) (off+i*t.size) ys[i]):=by
 unfold vn at e
 split at e
 next u zs=>
  split at e
  next zs' hc=>simp only[Q.run,bq,br] at e;obtain⟨rfl,_⟩:=e;obtain⟨et,ey⟩:=jN hc;subst et;simp only at ey;subst ey;simp only[az] at hd;exact MN hd
  .cases e
 next u zs=>
  split at e
  next zs' hc=>simp only[Q.run,bq,br] at e;obtain⟨rfl,_⟩:=e;obtain⟨et,ey⟩:=jN hc;subst et;simp only at ey;subst ey;simp only[az] at hd;exact MN hd.1
  .cases e
 .simp only[Q.run,bq,br] at e;obtain⟨rfl,_⟩:=e;simp only[az] at hd;exact⟨none,0,by rw[hd];rfl,by simp,.inl rfl⟩
 next n sz=>
  simp only[az] at hd;simp only[Q.run] at e;split at e
  .rename_i p q hk;simp only[bq,br] at e;obtain⟨rfl,rfl⟩:=e;have fin:∀{E':TypeId}{u:CT}{zs:List u.D},(h n = .live (.row E' u zs)∨h n = .live (.frz E' u zs))->hY u t zs=some p →
     ∃ p' c,v = .slice p' p.length c/\p.length<=maxLen ∧
     (p.length=0∨∃ b off,p'=some ⟨b,off,none⟩∧∀ i (hi:i<p.length),Rd A w t (λo=>w.cell? ⟨b,o,none⟩) (off+i*t.size) p[i]):=by
    intro E' u zs hl hc;obtain⟨et,ey⟩:=jN hc;subst et;simp only at ey;subst ey;rcases hd with⟨hnil,pp,ev⟩|⟨b,len,E2,c,hb,_,ev⟩
    .have hx:p.length=0:=by
      have:=m.nm n;rcases hl with hl|hl <;> rw[hl] at this <;> rcases this with⟨k',l',he',_⟩|⟨_,E3,t3,hb⟩
      .rw[hnil] at he';cases he'
      .rcases hb with hb|hb <;> cases hb;rfl
      .rw[hnil] at he';cases he'
      .rcases hb with hb|hb <;> cases hb;rfl
     exact⟨pp,0,by rw[hx];exact ev,by omega,.inl hx⟩
    .have hrow:nX A w b len E' u p:=by
      rcases hl with hl|hl
      .exact (m.live_blk hl hb).1
      .exact (m.live_blk hl hb).1.2
     have hlen:p.length=len.2/\len.2<=maxLen:=by
      obtain⟨vs,cap,_,_,h2,h3,h4,_⟩:=hrow;exact⟨h2,by omega⟩
     refine⟨_,_,by rw[hlen.1];exact ev,by omega,.inr ⟨b,len.1,rfl,λi hi=>?_⟩⟩;have:=zc hrow (i:=i) (by omega);rw[Jv hi] at this;exact this
   split at hk
   .rename_i E' u zs hl;split at hk
    next zs' h1 hc=>simp only[Q.run,bq,br] at hk;obtain⟨rfl,_⟩:=hk;exact fin (.inl hl) hc
    .cases hk
   .rename_i E' u zs hl;split at hk
    next zs' h1 hc=>simp only[Q.run,bq,br] at hk;obtain⟨rfl,_⟩:=hk;exact fin (.inr hl) hc
    .cases hk
   .cases hk
  .cases e
 .cases e
theorem pg(m:Mod w0 N0 A env h w){nm:Nat}(hun:h nm = .un)(dn:List Nat)(hdn:∀ n∈dn,∃ b,h n = .live b/\b.mut=true){E:TypeId}{t:CT}{zs:List t.D}{v:Value}{w':World}
  {pre:List Prop} {W:Nat->Prop} {ev:Ev} (c:cY w w' W) (hW:∀ k,W k→∃ n l,n∈dn/\env n = .blk k l) (hne:ev ≠ .un)
  (hev:∀ k len,ev = .blk k len->w.heap.size<=k∨∃ n l,n∈dn/\env n = .blk k l)
  (hb:dw A env w A (env.set nm ev) w'→(ev = .nil/\zs=[]∧∃ p,v = .slice p 0 0)∨∃ k len c,ev = .blk k len/\nX A w' k len E t zs/\w'.shape? k=some (E,c)/\v = .slice (some ⟨k,len.1,none⟩) len.2 ((c-len.1)/t.size)) :
  da w0 N0 A env h w (.det pre (.own nm t.size) ((nm,.live (.row E t zs))::dn.map λn=>(n,.dead))) v w':=by
 have hu:env nm = .un:=by have:=m.nm nm;rw[hun] at this;exact this
 have hlv:∀ k,W k→∃ mm b l,mm∈dn/\h mm = .live b/\b.mut=true/\env mm = .blk k l:=by
  intro k hk;obtain⟨n,l,hn,he⟩:=hW k hk;obtain⟨b,hb1,hb2⟩:=hdn n hn;exact⟨n,b,l,hn,hb1,hb2,he⟩
 have x:dw A env w A (env.set nm ev) w':=by
  refine⟨λ_ h=>h,λn b l e=>?_,λn e=>?_,λb o hb=>?_,c.shape⟩
  .rw[aZ.set_other];exact e;intro e';rw[e'] at e;rw[hu] at e;cases e
  .rw[aZ.set_other];exact e;intro e';rw[e'] at e;rw[hu] at e;cases e
  .refine World.cell?_of_block (a:=⟨b,o,none⟩) (c.blk b (m.Alt b hb) (λhw=>?_));obtain⟨mm,bb,l,_,hl,hm,he⟩:=hlv b hw;exact (m.live_blk hl he).2 hm hb
 have hset:∀ n,n≠nm->n ∉ dn->cZ ((nm,.live (.row E t zs))::dn.map λn=>(n,.dead)) h n=h n:=by
  intro n h1 h2;refine nY ?_;simp only[fF,List.map_map,dK,List.mem_map,Function.comp_apply,not_or];exact⟨h1,λ⟨q,hq,e⟩=>h2 (e▸hq)⟩
 have hsetn:cZ ((nm,.live (.row E t zs))::dn.map λn=>(n,.dead)) h nm = .live (.row E t zs):=by simp[cZ]
 have hsetd:∀ n,n≠nm->n∈dn->cZ ((nm,.live (.row E t zs))::dn.map λn=>(n,.dead)) h n = .dead:=by
  intro n h1 h2;simp only[cZ];rw[bP.set_other _ _ h1];clear hdn hW hev hlv hset hsetn
  induction dn with
  | nil=>simp at h2
  | cons q dn ih =>
   simp only[fF,cZ];by_cases hq:n=q
   .subst hq;simp
   .rw[bP.set_other _ _ hq];exact ih (by simpa[hq] using h2)
 have u:mK (λn=>n=nm∨n∈dn) W A env h w A (env.set nm ev) (cZ ((nm,.live (.row E t zs))::dn.map λn=>(n,.dead)) h) w':=by
  refine⟨c,λk hk=>?_,λ_ h=>h,λ_ h=>.inl h,λn hn=>aZ.set_other _ _ (λe=>hn (.inl e)),λn hn=>?_,λn hn=>hset n (λe=>hn (.inl e)) (λe=>hn (.inr e)),?_,?_,?_⟩
  .obtain⟨mm,b,l,h1,h2,h3,h4⟩:=hlv k hk;exact⟨mm,b,l,.inr h1,h2,h3,h4⟩
  .exact aZ.set_other _ _ (λe=>hn (e▸hu))
  .rintro n hn;by_cases hnm:n=nm
   .subst hnm;rw[hsetn];rcases hb x with⟨h1,h2,_⟩|⟨k,len,c',h1,h2,_⟩
    .exact .inr ⟨by rw[aZ.set_same];exact h1,E,t,.inl (by rw[h2])⟩
    .refine .inl ⟨k,len,by rw[aZ.set_same];exact h1,h2,λ_ hA=>?_⟩;rcases hev k len h1 with h3|⟨n',l,hn',he⟩
     .have:=m.Alt k hA;omega
     .obtain⟨b,hb1,hb2⟩:=hdn n' hn';exact (m.live_blk hb1 he).2 hb2 hA
   .rw[hsetd n hnm (hn.resolve_left hnm)];trivial
  .intro n b k l hn hl hm he;by_cases hnm:n=nm
   .subst hnm;rw[aZ.set_same] at he;rcases hev k l he with h3|⟨n',l',hn',he'⟩
    .exact .inl h3
    .obtain⟨b',hb1,hb2⟩:=hdn n' hn';exact .inr ⟨n',b',l',.inr hn',hb1,hb2,he'⟩
   .rw[hsetd n hnm (hn.resolve_left hnm)] at hl;cases hl
  .intro n n' b c k l l' hn hn' hl hl' _ _ _ _;by_cases hnm:n=nm
   .by_cases hnm':n'=nm
    .rw[hnm,hnm']
    .rw[hsetd n' hnm' (hn'.resolve_left hnm')] at hl';cases hl'
   .rw[hsetd n hnm (hn.resolve_left hnm)] at hl;cases hl
 refine⟨(),A,env.set nm ev,trivial,m.upd u,m.ext u,?_⟩
 simp only[Dl.val,az]
 rcases hb x with⟨h1,h2,h3⟩|⟨k,len,c',h1,h2,h3,h4⟩
 .exact .inl ⟨by rw[aZ.set_same];exact h1,h3⟩
 .exact .inr ⟨k,len,E,c',by rw[aZ.set_same];exact h1,h3,h4⟩
theorem MJ{t e ty:TypeId}(ht:P.underlying t=some (.slice e)){sz:Nat}(hsz:gI P e=some sz)(p q:Option Addr)(n cap c:Nat)(hn:n<=cap) :
  (Builtin.append_ #[t,t] ty #[.slice p n cap,.slice q 0 c]).run P w = .ok (.slice p n cap) w:=by
 have hf:(Builtin.firstCells sz 0 (.slice q 0 c)).run P w = .ok #[] w:=by
  cases q <;> simp[Builtin.firstCells,loadCells,loadCellsFrom]
 cases p with
 | none=>simp[Builtin.append_,run_underlying ht,kU hsz,Builtin.lenOf,hn,hf]
 | some b=>simp[Builtin.append_,run_underlying ht,kU hsz,Builtin.lenOf,hn,hf,storeCells]
theorem tu{t:CT}{cv cv':Nat->Option Value}{o o':Nat}{d:t.D}(h:Rd A w t cv o d)(hc:∀ j,j<t.size->cv' (o'+j)=cv (o+j)):Rd A w t cv' o' d:=by
 have key:∀(t:CT)(cv cv':Nat->Option Value)(o o':Nat)(d:t.D),Rd A w t cv o d->(∀ j,j<t.size->cv' (o'+j)=cv (o+j))->Rd A w t cv' o' d:=by
  intro t
  induction t with
  | pair a b iha ihb =>
   intro cv cv' o o' d h hc;refine⟨iha _ _ _ _ _ h.1 (λj hj=>hc j (by simp only[CT.size];omega)),ihb _ _ _ _ _ h.2 (λj hj=>?_)⟩;have:=hc (a.size+j) (by simp only[CT.size];omega);simpa[gN] using this
  | int k=>intro cv cv' o o' d h hc;have:=hc 0 (by simp[CT.size]);simp only[ip] at this;simp only[Rd] at h ⊢;rw[this];exact h
  | bool=>intro cv cv' o o' d h hc;have:=hc 0 (by simp[CT.size]);simp only[ip] at this;simp only[Rd] at h ⊢;rw[this];exact h
  | str=>intro cv cv' o o' d h hc;have:=hc 0 (by simp[CT.size]);simp only[ip] at this;simp only[Rd] at h ⊢;rw[this];exact h
  | sl t ih=>intro cv cv' o o' d h hc;have:=hc 0 (by simp[CT.size]);simp only[ip] at this;simp only[Rd] at h ⊢;rw[this];exact h
 exact key t cv cv' o o' d h hc
theorem IQ{t:CT}{xs ys:List t.D}{olds news rest:List Value}(ho:olds.length=xs.length*t.size)(hn:news.length=ys.length*t.size)
  (hx:∀ i (hi:i<xs.length),Rd A w t (λj=>olds[j]?) (i*t.size) xs[i]) (hy:∀ i (hi:i<ys.length),Rd A w t (λj=>news[j]?) (i*t.size) ys[i]) :
  ∀ i (hi:i<(xs++ys).length),Rd A w t (λj=>(olds++news++rest).toArray[j]?) (i*t.size) (xs++ys)[i]:=by
 intro i hi
 simp only[List.getElem?_toArray]
 by_cases hlt:i<xs.length
 .rw[List.getElem_append_left hlt];refine tu (hx i hlt) λj hj=>?_;have:(i+1)*t.size<=xs.length*t.size:=mM _ (by omega);rw[fS,kr] at this;rw[iL,lF (by omega)]
 .rw[List.getElem_append_right (by omega)];have hi':i-xs.length<ys.length:=by simp at hi;omega
  refine tu (hy _ hi') λj hj=>?_;have e1:i*t.size=xs.length*t.size+(i-xs.length)*t.size:=by rw[← fS];congr 1;omega
  have:(i-xs.length+1)*t.size<=ys.length*t.size:=mM _ (by omega);rw[fS,kr] at this;rw[iL,kw (by omega),lF (by omega)];congr 1;omega
end
end Go.SX
namespace Go.SX
theorem SW{P:Program}(w:World)(t ty e:TypeId)(i:TypeInfo)(ht:P.underlying t=some (.slice e))(hi:P.info? e=some i)
  (g off oU uH:Nat) (cur:Array Value) (hg:w.heap[g]? = some (.cells cur e (0,0)))
  (a:Addr) (m c:Nat) (news:List Value) (hl:news.length=m*i.size) (hnews:∀ j u,news[j]? = some u->w.cell? (a.add j)=some u) (h1:∀ u∈news,u.oneCell'=true)
  (hroom:oU+m<=uH) (hfit:off+oU*i.size+news.length<=cur.size) :
  (Builtin.append_ #[t,t] ty #[.slice (some ⟨g,off,none⟩) oU uH,.slice (some a) m c]).run P w =
   .ok (.slice (some ⟨g,off,none⟩) (oU+m) uH) (w.setRow g (cur.toList.take (off+oU*i.size)++news++cur.toList.drop (off+oU*i.size+news.length)).toArray):=by
 have hf:=run_firstCells_some (P:=P) w i.size m a m c news hl hnews
 have hst:=run_storeCells_at P g (off+oU*i.size) e news 0 cur w hg (by simpa using hfit) h1
 simp only[ip] at hst
 simp[Builtin.append_,run_underlying ht,sizeOf,typeInfo,hi,Builtin.lenOf,hroom,hf,Addr.add_lit,hst]
section
variable {P:Program} {w0:World} {N0:f5} {A:Nat->Prop} {env:aZ} {h:bP} {w:World} {o:Oper} {a:Act} {ρ:Nat->SV} {d:Dl} {r:List Nat}
theorem aI6(l:List Value)(z:Array Value):l.toArray++z=(l++z.toList).toArray:=by apply Array.ext';simp
theorem ao6(l m:List Value)(z:Array Value):l.toArray++m.toArray++z=(l++m++z.toList).toArray:=by apply Array.ext';simp
theorem HJ(m:Mod w0 N0 A env h w){t e ty:TypeId}{sz nm:Nat}{i:TypeInfo}{z:Value}{u:CT}{ys:List u.D}{p q:Option Addr}{c:Nat}{pre:List Prop}
  (ht:P.underlying t=some (.slice e)) (hsz:gI P e=some sz) (hi:P.info? e=some i) (hz:i.zero=some z) (hzs:z.cells.size=sz) (hb1:1<=i.bytes) (hu:sz=u.size) (hun:h nm = .un)
  (dn:List Nat) (hdn:∀ n∈dn,∃ b,h n = .live b/\b.mut=true)
  (hl:ys.length<=maxLen) (hby:ys.length*i.bytes<=140737488355328)
  (hsrc:ys.length=0∨∃ b off,q=some ⟨b,off,none⟩∧∀ i (hi:i<ys.length),Rd A w u (λo=>w.cell? ⟨b,o,none⟩) (off+i*u.size) ys[i]) :
  ∃ v w',(Builtin.append_ #[t,t] ty #[.slice p 0 0,.slice q ys.length c]).run P w = .ok v w' ∧
   da w0 N0 A env h w (.det pre (.own nm sz) ((nm,.live (.row e u ys))::dn.map λn=>(n,.dead))) v w':=by
 subst hu
 by_cases h0:ys.length=0
 .refine⟨.slice p 0 0,w,by rw[h0];exact MJ ht hsz p q 0 0 c (ir _),?_⟩;have:ys=[]:=oV h0;subst this;exact pg m hun dn hdn (W:=λ_=>False) (ev := .nil) (cY.refl w _) (λ_ h=>h.elim) (by simp) (λk l e=>by cases e) (λ_=>.inl ⟨rfl,rfl,p,rfl⟩)
 .obtain⟨b,off,rfl,hrd⟩:=hsrc.resolve_left h0;obtain⟨news,hnl,hnc,hn1⟩:=EF ys off hrd;have hisz:i.size=u.size:=by unfold gI at hsz;rw[hi] at hsz;simpa using hsz
  have hnews:∀ j v,news[j]? = some v->w.cell? ((⟨b,off,none⟩:Addr).add j)=some v:=by
   intro j v hj;rw[Addr.add_lit,hnc j (List.getElem?_eq_some_iff.1 hj).1];exact hj
  have hrdn:∀ i (hi:i<ys.length),Rd A w u (λj=>news[j]?) (i*u.size) ys[i]:=λi hi =>
   tu (hrd i hi) λj hj=>by
    have:(i+1)*u.size<=ys.length*u.size:=mM _ (by omega);rw[fS,kr] at this;rw[← hnc _ (by omega),gN]
  have h63:((ys.length:Nat):Int)<=9223372036854775807:=by simp only[maxLen] at hl;omega
  have fin:∀ v w' cap,ys.length<=cap->cap<=maxLen->v = .slice (some ⟨w.heap.size,0,none⟩) ys.length cap->w'=w.drew.alloc (.cells (news.toArray++Builtin.zeroCells z.cells (cap-ys.length)) e) →
    da w0 N0 A env h w (.det pre (.own nm u.size) ((nm,.live (.row e u ys))::dn.map λn=>(n,.dead))) v w':=by
   rintro v w' cap hc1 hc2 rfl rfl;have cg:cY w (w.drew.alloc (.cells (news.toArray++Builtin.zeroCells z.cells (cap-ys.length)) e)) λ_=>False:=(cY.drew w _).trans (cY.alloc w.drew _ _);have hsize:(news.toArray++Builtin.zeroCells z.cells (cap-ys.length)).size=cap*u.size:=by
    simp only[Array.size_append,qY,hnl,size_zeroCells,hzs,← fS];congr 1;omega
   refine pg m hun dn hdn (W:=λ_=>False) (ev := .blk w.heap.size (0,ys.length)) cg (λ_ h=>h.elim) (by simp) (λk l e=>by cases e;exact .inl (ir _)) (λx=>.inr ⟨w.heap.size,(0,ys.length),cap*u.size,rfl,?_,?_,?_⟩)
   .refine⟨_,cap,heap_alloc_new w.drew _,by rw[hsize,gh],rfl,hc1,hc2,λi hi=>?_⟩;rw[gh];have:=IQ (A:=A) (w:=w) (xs:=([]:List u.D)) (ys:=ys) (olds:=[]) (news:=news) (rest:=(Builtin.zeroCells z.cells (cap-ys.length)).toList) (by simp) hnl (by simp) hrdn i (by simpa using hi);refine ik (λ_ h=>h) x.keep u _ _ _ _ (λj _=>?_) this;rw[aI6];rfl
   .unfold World.shape?;have hh:=heap_alloc_new w.drew (.cells (news.toArray++Builtin.zeroCells z.cells (cap-ys.length)) e);simp only[World.size_drew] at hh;rw[hh];simp only[hsize]
   .show _=Value.slice _ _ ((cap*u.size-0)/u.size);rw[Nat.sub_zero,qL _ u.size_pos]
  have hge:=grownCap_ge w ys.length 0 e;have hcm:=grownCap_le_maxLen w ys.length 0 e hl;cases p with
  | none =>
   exact⟨_,_,run_append_nil (P:=P) w t ty e i z ht hi hz ⟨b,off,none⟩ ys.length c news (by rw[hnl,hisz]) hnews (by omega) h63 (by omega),fin _ _ _ hge hcm rfl rfl⟩
  | some pa =>
   have hr:=run_append_grow (P:=P) w t ty e i z ht hi hz pa 0 0 [] (by simp) (by simp) ⟨b,off,none⟩ ys.length c news (by rw[hnl,hisz]) hnews (by omega) (by simpa using h63) (growslice_fits (by omega) (by simpa using hby));simp only[gh] at hr;exact⟨_,_,hr,fin _ _ _ hge hcm rfl (by simp)⟩
theorem Ro(m:Mod w0 N0 A env h w)(f:FD A env w ρ a){t:TypeId}{nm:Nat}{s x:Operand}(ho:o.op = .call {callee := .builtin .append,args := #[s,x],argTypes := #[t,t]})
  (e:(Be P t nm (aW ρ s) (aW ρ x)).run h=some (d,r)) (hp:bV d.pre):bj P o a w0 N0 A env h w d:=by
 have ds:=dg f s
 have dx:=dg f x
 have exe:∀{v:Value}{w':World},(Builtin.append_ #[t,t] o.type #[a.eval s,a.eval x]).run P w = .ok v w'→(execOp a.eval o).run P w = .ok (.value v) w':=by
  intro v w' hr;unfold execOp;rw[ho];simp only[resolve,invoke,builtin,Sem.run_bind,Sem.run_pure,Result.andThen_ok,List.map_toArray,fF,List.map_nil,hr]
 unfold Be at e
 split at e
 next E sz he=>
  obtain⟨hu,hsz⟩:=vD he;split at e
  .rename_i i hi;split at e
   .rename_i z hb1 hz;have hb1:1<=i.bytes:=kO hb1;split at e
    .rename_i hzs;have hzs:z.cells.size=sz:=bG hzs;have hisz:i.size=sz:=by unfold gI at hsz;rw[hi] at hsz;simpa using hsz
     split at e
     .rename_i n sz' hs;rw[hs] at ds;simp only[az] at ds;simp only[Q.run] at e;split at e
      .rename_i p q hk;simp only[bq,br] at e;obtain⟨rfl,rfl⟩:=e;split at hk
       .rename_i E' u xs hl;split at hk
        .rename_i hE h1 h2;have hE:E'=E:=bG hE;have h1:sz=u.size:=bG h1;have h2:sz'=u.size:=bG h2;subst hE;obtain⟨ys,q1,q2,e1,e2,rfl⟩:=Q.run_bind _ _ _ hk;simp only[Q.run] at e2;split at e2
         .rename_i p' q' hk';simp only[bq,br] at e2;obtain⟨rfl,rfl⟩:=e2;split at hk'
          .rename_i hun;cases cz hk';simp only[Dl.pre,bV,iu] at hp;obtain⟨pq,c,ev,hyl,hsrc⟩:=Gw m e1 dx;have hdn:∀ n'∈[n],∃ b,h n' = .live b/\b.mut=true:=by simp[hl,lD.mut]
           rcases ds with⟨hnil,pa,es⟩|⟨b,len,E2,cc,hb,hsh,es⟩
           .have hx:xs=[]:=by
             have:=m.nm n;rw[hl] at this;rcases this with⟨k',l',he',_⟩|⟨_,E3,t3,hb⟩
             .rw[hnil] at he';cases he'
             .rcases hb with hb|hb <;> cases hb;rfl
            subst hx;simp only[List.length_nil,gh] at hp;obtain⟨v,w',hr,g⟩:=HJ (P:=P) (ty:=o.type) (p:=pa) (q:=pq) (c:=c) (pre:=[(([]:List u.D).length+ys.length)*i.bytes<=140737488355328]) m hu hsz hi hz hzs hb1 h1 hun [n] hdn hyl hp hsrc;refine⟨v,w',.inl (exe (by rw[es,ev];exact hr)),?_⟩;simpa using g
           .obtain⟨β,len⟩:=len;obtain⟨cur,cap,hh,hcs,hxl,hlc,hcm,hrd⟩:=(m.live_blk hl hb).1;simp only at hcs hxl hlc hrd es;have hcc:cc=cur.size:=by
             unfold World.shape? at hsh;rw[hh] at hsh;simp only[bq,br] at hsh;exact hsh.2.symm
            have hcap:(cc-β)/sz'=cap:=by rw[hcc,hcs,h2,lu];exact qL _ u.size_pos
            rw[hcap] at es;have hne:nm≠n:=λe'=>by rw[e',hl] at hun;cases hun
            have hnA:=(m.live_blk hl hb).2 rfl;subst h1;by_cases h0:ys.length=0
            .have:ys=[]:=oV h0;subst this;refine⟨.slice (some ⟨b,β,none⟩) len cap,w,.inl (exe (by rw[es,ev];exact MJ hu hsz _ _ _ _ _ hlc)),?_⟩;have g:=pg (pre:=[(xs.length+([]:List u.D).length)*i.bytes<=140737488355328]) (v := .slice (some ⟨b,β,none⟩) len cap) (E:=E') (t:=u) (zs:=xs++[]) m hun [n] hdn (W:=λ_=>False) (ev := .blk b (β,len)) (cY.refl w _) (λ_ h=>h.elim) (by simp)
              (λk l e=>by cases e;exact .inr ⟨n,(β,len),by simp,hb⟩) (λx=>.inr ⟨b,(β,len),cc,rfl,by rw[jx];exact (m.live_blk hl hb).1,by rw[hsh];unfold World.shape? at hsh;rw[hh] at hsh;cases hsh;rfl,by rw[← h2,hcap]⟩)
             simpa using g
            .obtain⟨bb,off,rfl,hrdy⟩:=hsrc.resolve_left h0;obtain⟨news,hnl,hnc,hn1⟩:=EF ys off hrdy;have hnews:∀ j v,news[j]? = some v->w.cell? ((⟨bb,off,none⟩:Addr).add j)=some v:=by
              intro j v hj;rw[Addr.add_lit,hnc j (List.getElem?_eq_some_iff.1 hj).1];exact hj
             have hrdn:∀ i (hi:i<ys.length),Rd A w u (λj=>news[j]?) (i*u.size) ys[i]:=λi hi =>
              tu (hrdy i hi) λj hj=>by
               have:(i+1)*u.size<=ys.length*u.size:=mM _ (by omega);rw[fS,kr] at this;rw[← hnc _ (by omega),gN]
             have holds:∀ i (hi:i<xs.length),Rd A w u (λj=>((cur.toList.drop β).take (len*u.size))[j]?) (i*u.size) xs[i]:=λi hi =>
              tu (hrd i hi) λj hj=>by
               have:(i+1)*u.size<=len*u.size:=mM _ (by omega);rw[fS,kr] at this;rw[qi,am (by omega),pV,lK,gN]
             have hlec:len*u.size<=cap*u.size:=mM _ hlc;have hol:((cur.toList.drop β).take (len*u.size)).length=xs.length*u.size:=by rw[dA,fy,ga,hxl];omega
             have hlen:(xs++ys).length=len+ys.length:=by rw[cA,hxl]
             have hsum:len+ys.length<=maxLen:=by
              have:(len+ys.length)*1<=(xs.length+ys.length)*i.bytes:=by rw[hxl];exact Nat.mul_le_mul_left _ hb1
              simp only[maxLen];omega
             by_cases hroom:len+ys.length<=cap
             .have hfit:β+len*u.size+news.length<=cur.size:=by
               have:(len+ys.length)*u.size<=cap*u.size:=mM _ hroom;rw[fS] at this;rw[hnl,hcs];omega
              have hr:=SW (P:=P) w t o.type E' i hu hi b β len cap cur hh ⟨bb,off,none⟩ ys.length c news (by rw[hnl,hisz]) hnews hn1 hroom (by rw[hisz];exact hfit);rw[hisz] at hr;refine⟨_,_,.inl (exe (by rw[es,ev];exact hr)),?_⟩;have hsize:(cur.toList.take (β+len*u.size)++news++cur.toList.drop (β+len*u.size+news.length)).toArray.size=cur.size:=by
               simp only[qY,cA,dA,fy,ga];omega
              have cg:=cY.setRow w b cur _ E' hh hsize;refine pg m hun [n] hdn (W:=λj=>j=b) (ev := .blk b (β,len+ys.length)) cg (λk hk=>⟨n,(β,len),by simp,hk▸hb⟩) (by simp) (λk l e=>by cases e;exact .inr ⟨n,(β,len),by simp,hb⟩) (λx=>.inr ⟨b,(β,len+ys.length),β+cap*u.size,rfl,?_,?_,?_⟩)
              .refine⟨_,cap,setRow_heap w b cur _ E' _ hh,by rw[hsize,hcs],hlen,hroom,hcm,λi hi=>?_⟩;refine ik (λ_ h=>h) x.keep u _ _ _ _ (λj _=>rfl) (tu (IQ (rest:=cur.toList.drop (β+len*u.size+news.length)) hol hnl holds hrdn i hi) λj hj=>?_);simp only[List.getElem?_toArray];rw[List.take_add,iL,iL,kw (by rw[dA,ga];omega),iL];congr 1;rw[dA,ga];omega
              .unfold World.shape?;rw[setRow_heap w b cur _ E' _ hh];simp only[hsize,hcs]
              .show _=Value.slice _ _ ((β+cap*u.size-β)/u.size);rw[lu,qL _ u.size_pos]
             .have holdsc:∀ j v,((cur.toList.drop β).take (len*u.size))[j]? = some v->w.cell? ((⟨b,β,none⟩:Addr).add j)=some v:=by
               intro j v hj;rw[Addr.add_lit,cell_of_row w b _ cur E' (0,0) hh];rw[qi] at hj;split at hj
               .rwa [pV,lK] at hj
               .cases hj
              have hr:=run_append_grow (P:=P) w t o.type E' i z hu hi hz ⟨b,β,none⟩ len cap ((cur.toList.drop β).take (len*u.size)) (by rw[hol,hxl,hisz]) holdsc ⟨bb,off,none⟩ ys.length c news (by rw[hnl,hisz]) hnews (by omega)
               (by simp only[maxLen] at hsum;omega) (growslice_fits (by omega) (by rw[← hxl];exact hp))
              refine⟨_,_,.inl (exe (by rw[es,ev];exact hr)),?_⟩;have hge:=grownCap_ge w (len+ys.length) cap E';have hcm':=grownCap_le_maxLen w (len+ys.length) cap E' hsum;generalize grownCap w (len+ys.length) cap E'=cap' at *;have hsize:(((cur.toList.drop β).take (len*u.size)).toArray++news.toArray++Builtin.zeroCells z.cells (cap'-(len+ys.length))).size=cap'*u.size:=by
               simp only[Array.size_append,qY,hol,hnl,size_zeroCells,hzs,← fS];congr 1;omega
              have cg:cY w (w.drew.alloc (.cells (((cur.toList.drop β).take (len*u.size)).toArray++news.toArray++Builtin.zeroCells z.cells (cap'-(len+ys.length))) E')) λ_=>False:=(cY.drew w _).trans (cY.alloc w.drew _ _);refine pg m hun [n] hdn (W:=λ_=>False) (ev := .blk w.heap.size (0,len+ys.length)) cg (λ_ h=>h.elim) (by simp) (λk l e=>by cases e;exact .inl (ir _)) (λx=>.inr ⟨w.heap.size,(0,len+ys.length),cap'*u.size,rfl,?_,?_,?_⟩)
              .refine⟨_,cap',heap_alloc_new w.drew _,by rw[hsize,gh],hlen,hge,hcm',λi hi=>?_⟩;have:=IQ (A:=A) (w:=w) (rest:=(Builtin.zeroCells z.cells (cap'-(len+ys.length))).toList) hol hnl holds hrdn i hi;rw[gh];refine ik (λ_ h=>h) x.keep u _ _ _ _ (λj _=>?_) this;rw[ao6]
              .unfold World.shape?;have hh':=heap_alloc_new w.drew (.cells (((cur.toList.drop β).take (len*u.size)).toArray++news.toArray++Builtin.zeroCells z.cells (cap'-(len+ys.length))) E');simp only[World.size_drew] at hh';rw[hh'];simp only[hsize]
              .show _=Value.slice _ _ ((cap'*u.size-0)/u.size);rw[Nat.sub_zero,qL _ u.size_pos]
          .cases hk'
         .cases e2
        .cases hk
       .cases hk
      .cases e
     .rename_i hs;rw[hs] at ds;simp only[az] at ds;split at e
      .rename_i u hct;split at e
       .rename_i h1;have h1:sz=u.size:=bG h1;obtain⟨ys,q1,q2,e1,e2,rfl⟩:=Q.run_bind _ _ _ e;simp only[Q.run] at e2;split at e2
        .rename_i p' q' hk';simp only[bq,br] at e2;obtain⟨rfl,rfl⟩:=e2;split at hk'
         next hun=>cases cz hk';simp only[Dl.pre,bV,iu] at hp;obtain⟨pq,c,ev,hyl,hsrc⟩:=Gw m e1 dx;obtain⟨v,w',hr,g⟩:=HJ (P:=P) (ty:=o.type) (p:=none) (q:=pq) (c:=c) (pre:=[ys.length*i.bytes<=140737488355328]) m hu hsz hi hz hzs hb1 h1 hun [] (by simp) hyl hp hsrc;exact⟨v,w',.inl (exe (by rw[ds,ev];exact hr)),g⟩
         .cases hk'
        .cases e2
       .cases e
      .cases e
     .rename_i u xs hs;rw[hs] at ds;simp only[az] at ds;split at e
      .rename_i h1;have h1:sz=u.size:=bG h1;obtain⟨ys,q1,q2,e1,e2,rfl⟩:=Q.run_bind _ _ _ e;simp only[Q.run] at e2;split at e2
       .rename_i p' q' hk';simp only[bq,br] at e2;obtain⟨rfl,rfl⟩:=e2;split at hk'
        next hun=>cases cz hk';simp only[Dl.pre,bV,iu] at hp;obtain⟨hp1,rfl⟩:=hp;obtain⟨_,pa,es⟩:=ds;obtain⟨pq,c,ev,hyl,hsrc⟩:=Gw m e1 dx;simp only[List.length_nil,gh] at hp1;obtain⟨v,w',hr,g⟩:=HJ (P:=P) (ty:=o.type) (p:=pa) (q:=pq) (c:=c) (pre:=[(([]:List u.D).length+ys.length)*i.bytes<=140737488355328,([]:List u.D)=[]]) m hu hsz hi hz hzs hb1 h1 hun [] (by simp) hyl hp1 hsrc;exact⟨v,w',.inl (exe (by rw[es,ev];exact hr)),g⟩
        .cases hk'
       .cases e2
      .cases e
     .cases e
    .cases e
   .cases e
  .cases e
 .cases e
end
end Go.SX
namespace Go.SX
section
variable {P:Program} {w0:World} {N0:f5} {A:Nat->Prop} {env:aZ} {h:bP} {w:World} {o:Oper} {a:Act} {ρ:Nat->SV} {d:Dl} {r:List Nat}
theorem F9(len cap:Nat)(lo hi a:Option Value)(l hh m:Nat)
  (hm:(a=none/\m=cap)∨∃ k i,a=some (.int k i)/\0<=i/\i<=cap/\m=i.toNat)
  (b:(hi=none/\a=none/\hh=len)∨∃ k i,hi=some (.int k i)/\0<=i/\i<=m/\hh=i.toNat)
  (c:(lo=none/\l=0)∨∃ k i,lo=some (.int k i)/\0<=i/\i<=hh/\l=i.toNat) :
  (Instr.sliceBounds true len cap lo hi a).run P w = .ok (l,hh,m) w:=by
 rcases hm with⟨rfl,rfl⟩|⟨km,im,rfl,m0,m1,rfl⟩ <;> rcases b with⟨rfl,e,rfl⟩|⟨kh,ih,rfl,h0,h1,rfl⟩ <;> rcases c with⟨rfl,rfl⟩|⟨kl,il,rfl,l0,l1,rfl⟩ <;>
  first
  | (cases e;done)
  | (simp[Instr.sliceBounds,run_sliceBound, *,-Int.ofNat_toNat])
theorem za{x:Option Operand}{b v:Int}(f:FD A env w ρ a)(e:oZ (x.map (aW ρ)) b=some v) :
  (x=none/\v=b)∨∃ k y,x=some y/\a.eval y = .int k v:=by
 cases x with
 | none=>simp at e;cases e;exact .inl ⟨rfl,rfl⟩
 | some y =>
  have c:=dg f y;simp only[Option.map] at e;unfold oZ at e;split at e
  next hh=>cases hh
  next k n hh=>simp at hh;rw[hh] at c;simp only[az] at c;simp_all
  .cases e
theorem HC{t:CT}{v:Value}{xs:List t.D}(hs:qu A w t v xs){l hh:Nat}(h1:l<=hh)(g:hh<=xs.length) :
  ∃ p cap,v = .slice p xs.length cap/\xs.length<=cap/\cap<=maxLen∧∀ m,hh<=m->m<=cap →
   qu A w t (.slice (if m=l then p else p.map (·.add (l*t.size))) (hh-l) (m-l)) (cL xs l hh):=by
 have a:(cL xs l hh).length=hh-l:=by simp[cL];omega
 obtain⟨hl,⟨⟨p,rfl⟩,rfl⟩|⟨b,off,cap,rfl,c1,c2,c3,c4⟩⟩:=hs
 .refine⟨p,0,rfl,ir _,by simp,λm hm c=>?_⟩;have:m=0:=by omega
  subst this;have d:l=0:=by simp at g;omega
  have e:hh=0:=by simpa using g
  subst d;subst e;exact⟨by simp[cL],.inl ⟨⟨p,by simp⟩,by simp[cL]⟩⟩
 .refine⟨_,cap,rfl,c1,c2,λm hm c=>⟨by omega,?_⟩⟩;by_cases f:m=l
  .simp_all
  .rw[af f];refine .inr ⟨b,off+l*t.size,m-l,by rw[a];simp[Addr.add_lit],by omega,by omega,c3,λi hi=>?_⟩;have eg:(cL xs l hh)[i]=xs[l+i]:=by simp[cL]
   grind
theorem ZG(m:Mod w0 N0 A env h w)(f:FD A env w ρ a){t:TypeId}{x:Operand}{lo hi mx:Option Operand}(ho:o.op = .slice t x lo hi mx)
  (e:(J6 P t (aW ρ x) (lo.map (aW ρ)) (hi.map (aW ρ)) (mx.map (aW ρ))).run h=some (d,r)) (hp:bV d.pre):bj P o a w0 N0 A env h w d:=by
 have dx:=dg f x
 unfold J6 at e
 split at e
 next E sz he=>
  obtain⟨hu,hsz⟩:=vD he;have exe:∀{p:Option Addr}{len cap l hh m:Nat},a.eval x = .slice p len cap →
    ((mx=none/\m=cap)∨∃ y k i,mx=some y/\a.eval y = .int k i/\0<=i/\i<=cap/\m=i.toNat) →
    ((hi=none/\mx=none/\hh=len)∨∃ y k i,hi=some y/\a.eval y = .int k i/\0<=i/\i<=m/\hh=i.toNat) →
    ((lo=none/\l=0)∨∃ y k i,lo=some y/\a.eval y = .int k i/\0<=i/\i<=hh/\l=i.toNat) →
    (execOp a.eval o).run P w = .ok (.value (.slice (if m=l then p else p.map (·.add (l*sz))) (hh-l) (m-l))) w:=by
   intro p len cap l hh m ev hm hhi hlo;unfold execOp;rw[ho];have hb:=F9 (P:=P) (w:=w) len cap (lo.map a.eval) (hi.map a.eval) (mx.map a.eval) l hh m
    (by rcases hm with⟨rfl,rfl⟩|⟨y,k,i,rfl,e1,e2⟩;exact .inl ⟨rfl,rfl⟩;exact .inr ⟨k,i,by simp[e1],e2⟩)
    (by rcases hhi with⟨rfl,rfl,rfl⟩|⟨y,k,i,rfl,e1,e2⟩;exact .inl ⟨rfl,rfl,rfl⟩;exact .inr ⟨k,i,by simp[e1],e2⟩)
    (by rcases hlo with⟨rfl,rfl⟩|⟨y,k,i,rfl,e1,e2⟩;exact .inl ⟨rfl,rfl⟩;exact .inr ⟨k,i,by simp[e1],e2⟩)
   simp only[Instr.sliceAt,Instr.slice,Sem.run_bind,run_underlying hu,Result.andThen_ok,ev,hb,kU hsz,Sem.run_pure]
  have loF:∀{l hh:Int}{len:Nat},oZ (lo.map (aW ρ)) 0=some l->0<=l->l<=hh->((lo=none/\l.toNat=0)∨∃ y k i,lo=some y/\a.eval y = .int k i/\0<=i/\i<=hh.toNat/\l.toNat=i.toNat):=by
   intro l hh len hb h0 h1;rcases za f hb with⟨rfl,rfl⟩|⟨k,y,rfl,e1⟩
   .exact .inl ⟨rfl,rfl⟩
   .exact .inr ⟨y,k,l,rfl,e1,h0,by omega,rfl⟩
  split at e
  .rename_i u xs hx;rw[hx] at dx;simp only[az] at dx;split at e
   .rename_i l hh hs1 hb1 hb2;have hs1:sz=u.size:=bG hs1;subst hs1;split at e
    .rename_i hmx;cases cz e;simp only[Dl.pre,bV,iu] at hp;have hmx':mx=none:=by cases mx <;> simp_all
     obtain⟨p,cap,ev,c1,c2,c3⟩:=HC dx (l:=l.toNat) (hh:=hh.toNat) (by omega) (by omega);refine bj.pure m (exe ev (.inl ⟨hmx',rfl⟩) ?_ (loF (len:=0) hb1 hp.1 hp.2.1)) (by simp only[az];exact c3 cap (by omega) (ir _));rcases za f hb2 with⟨rfl,rfl⟩|⟨k,y,rfl,e1⟩
     .exact .inl ⟨rfl,hmx',by simp⟩
     .exact .inr ⟨y,k,hh,rfl,e1,by omega,by omega,rfl⟩
    .rename_i km mm hmx;split at e
     case h_2=>cases e
     rename_i ys hhi;cases cz e;simp only[Dl.pre,bV,iu] at hp;obtain⟨hp1,hp2,hp3,hp4⟩:=hp;cases mx with
     | none=>cases hmx
     | some y =>
      have dy:=dg f y;simp only[Option.map,bq] at hmx;rw[hmx] at dy;simp only[az] at dy;obtain⟨p,cap,ev,c1,c2,c3⟩:=HC dx (l:=l.toNat) (hh:=hh.toNat) (by omega) (by omega);refine bj.pure m (exe ev (.inr ⟨y,km,mm,rfl,dy.1,by omega,by omega,rfl⟩) ?_ (loF (len:=0) hb1 hp1 hp2)) ?_
      .rcases za f hb2 with⟨rfl,rfl⟩|⟨k,y',rfl,e1⟩
       .cases hhi
       .exact .inr ⟨y',k,hh,rfl,e1,by omega,by omega,rfl⟩
      .simp only[az];have hlen:(cL xs l.toNat hh.toNat).length=hh.toNat-l.toNat:=by simp[cL];omega
       exact⟨c3 mm.toNat (by omega) (by omega),_,by rw[hlen];congr 1;omega⟩
    .cases e
   .cases e
  .rename_i n sz' hx;rw[hx] at dx;simp only[az] at dx;split at e
   .rename_i hmx;have hmx':mx=none:=by cases mx <;> simp_all
    simp only[Q.run] at e;split at e
    .rename_i p q hk;simp only[bq,br] at e;obtain⟨rfl,rfl⟩:=e;have fin:∀{E':TypeId}{u:CT}{xs:List u.D}{l hh:Int}{A':Nat->Prop}{h':bP},Mod w0 N0 A' env h' w->dw A env w A' env w->(h n = .live (.row E' u xs)∨h n = .live (.frz E' u xs)) →
       h' n = .live (.frz E' u xs)->sz=u.size->sz'=u.size →
       oZ (lo.map (aW ρ)) 0=some l->oZ (hi.map (aW ρ)) xs.length=some hh->0<=l->l<=hh->hh<=xs.length →
       ∃ v,(execOp a.eval o).run P w = .ok (.value v) w/\az A' env w (.dsl u (cL xs l.toNat hh.toNat)) v:=by
      intro E' u xs l hh A' h' m' x' hl hl' h1 h2 hb1 hb2 p1 p2 p3;have hrs:qu A' w u (a.eval x) xs:=by
       rcases dx with⟨hnil,pa,ev⟩|⟨b,len,E2,c,hb,hsh,ev⟩
       .have hx0:xs=[]:=by
         have:=m'.nm n;rw[hl'] at this;rcases this with⟨k',l',he',_⟩|⟨_,E3,t3,hb⟩
         .rw[hnil] at he';cases he'
         .rcases hb with hb|hb <;> cases hb;rfl
        subst hx0;exact⟨by simp,.inl ⟨⟨pa,ev⟩,rfl⟩⟩
       .have hbd:=(m'.live_blk hl' hb).1;rw[ev,h2];exact D4 (λ_ h=>h) hbd.2 hbd.1 hsh
      subst h1;obtain⟨p,cap,ev,c1,c2,c3⟩:=HC hrs (l:=l.toNat) (hh:=hh.toNat) (by omega) (by omega);refine⟨_,exe ev (.inl ⟨hmx',rfl⟩) ?_ (loF (len:=0) hb1 p1 p2),by simp only[az];exact c3 cap (by omega) (ir _)⟩;rcases za f hb2 with⟨rfl,rfl⟩|⟨k,y,rfl,e1⟩
      .exact .inl ⟨rfl,hmx',by simp⟩
      .exact .inr ⟨y,k,hh,rfl,e1,by omega,by omega,rfl⟩
     split at hk
     .rename_i E' u xs hl;split at hk
      .rename_i l hh h1 h2 hb1 hb2;cases cz hk;simp only[Dl.pre,bV,iu] at hp;have ok:nQ h [(n,.live (.frz E' u xs))]:=by
        intro n' b hb;simp only[iI,br] at hb;obtain⟨rfl,rfl⟩:=hb;exact⟨E',u,xs,hl,rfl⟩
       obtain⟨m2,x2⟩:=m.freeze ok;obtain⟨v,hr,hd⟩:=fin m2 x2 (.inl hl) (by simp[cZ]) (bG h1) (bG h2) hb1 hb2 hp.1 hp.2.1 hp.2.2;exact⟨v,w,.inl hr,(),_,env,trivial,m2,x2,hd⟩
      .cases hk
     .rename_i E' u xs hl;split at hk
      next l hh h1 h2 hb1 hb2=>cases cz hk;simp only[Dl.pre,bV,iu] at hp;obtain⟨v,hr,hd⟩:=fin m dw.refl (.inr hl) hl (bG h1) (bG h2) hb1 hb2 hp.1 hp.2.1 hp.2.2;exact bj.pure m hr hd
      .cases hk
     .cases hk
    .cases e
   .cases e
  .rename_i hx;rw[hx] at dx;simp only[az] at dx;split at e
   .rename_i l hh hb1 hb2 hmx;have hmx':mx=none:=by cases mx <;> simp_all
    cases cz e;simp only[Dl.pre,bV,iu] at hp;obtain⟨rfl,rfl⟩:=hp;have hr:=exe (l:=0) (hh:=0) (m:=0) dx (.inl ⟨hmx',rfl⟩) (by
     rcases za f hb2 with⟨rfl,_⟩|⟨k,y,rfl,e1⟩
     .exact .inl ⟨rfl,hmx',rfl⟩
     .exact .inr ⟨y,k,0,rfl,e1,by omega,by omega,rfl⟩) (by
     rcases za f hb1 with⟨rfl,_⟩|⟨k,y,rfl,e1⟩
     .exact .inl ⟨rfl,rfl⟩
     .exact .inr ⟨y,k,0,rfl,e1,by omega,by omega,rfl⟩)
    exact bj.pure m hr (by simp[az])
   .cases e
  .cases e
 .cases e
def HN(P:Program)(t:TypeId)(nm:Nat)(x:SV)(lo hi mx:Option SV):Q Dl:=match su P t,lo,hi,mx with
 | some (_,sz),none,some (.int _ hh),none=>match x with
  | .own n sz' => .ask n fun
   | .live (.row E u xs)=>match Nat.beq sz u.size,Nat.beq sz' u.size with
    | true,true => .ask nm fun
     | .un => .ret (.det [0<=hh,hh<=xs.length] (.own nm sz) [(nm,.live (.row E u (xs.take hh.toNat))),(n,.dead)])
     | _ => .fail
    | _,_ => .fail
   | _ => .fail
  | _ => .fail
 | some (_,sz),some (.int _ l),none,none=>match x with
  | .own n sz' => .ask n fun
   | .live (.row E u xs)=>match Nat.beq sz u.size,Nat.beq sz' u.size with
    | true,true => .ask nm fun
     | .un => .ret (.det [0<=l,l<=xs.length] (.own nm sz) [(nm,.live (.row E u (xs.drop l.toNat))),(n,.dead)])
     | _ => .fail
    | _,_ => .fail
   | _ => .fail
  | _ => .fail
 | _,_,_,_ => .fail
def Jn(P:Program)(t tn:TypeId)(nm:Nat)(s x:SV):Q Dl:=match su P t,s,x,P.underlying tn with
 | some (e,sz),.nilsl,.int _ n,some (.int _)=>match w9 P 8 e,zeroCells P e,P.info? e with
  | some u,some z,some i=>match Nat.beq u.size sz,Nat.beq z.length sz,Nat.ble 1 i.bytes,jz u z with
   | true,true,true,.ret (d,_,[]) => .ask nm fun
    | .un => .ret (.det [0<=n,n*(i.bytes:Int)<=140737488355328] (.own nm sz) [(nm,.live (.row e u (replicate n.toNat d)))])
    | _ => .fail
   | _,_,_,_ => .fail
  | _,_,_ => .fail
 | _,_,_,_ => .fail
def uH(P:Program)(t:TypeId)(x:SV):Q Dl:=match P.underlying t,x with
 | some (.slice _),.nilsl=>ci (.int .i64 0)
 | _,_ => .fail
theorem U0(m:Mod w0 N0 A env h w)(f:FD A env w ρ a){t:TypeId}{x:Operand}(ho:o.op = .call {callee := .builtin .cap,args := #[x],argTypes := #[t]})
  (e:(uH P t (aW ρ x)).run h=some (d,r)):bj P o a w0 N0 A env h w d:=by
 have dx:=dg f x
 unfold uH at e
 split at e
 next E hu hx=>rw[hx] at dx;simp only[az] at dx;unfold ci at e;cases cz e;refine bj.pure m (v := .int .i64 0) ?_ (by simp only[az];exact⟨trivial,Q6 (by decide)⟩);unfold execOp;rw[ho];simp[resolve,invoke,builtin,Builtin.cap_,run_underlying hu,dx,goInt]
 .cases e
theorem aq9(m:Mod w0 N0 A env h w)(f:FD A env w ρ a){t:TypeId}{nm:Nat}{x:Operand}{lo hi mx:Option Operand}(ho:o.op = .slice t x lo hi mx)
  (e:(HN P t nm (aW ρ x) (lo.map (aW ρ)) (hi.map (aW ρ)) (mx.map (aW ρ))).run h=some (d,r)) (hp:bV d.pre):bj P o a w0 N0 A env h w d:=by
 have dx:=dg f x
 unfold HN at e
 split at e
 case h_3=>cases e
 next E sz kh hh he hlo hhi hmx=>
  obtain⟨hu,hsz⟩:=vD he;have hlo':lo=none:=by cases lo <;> simp_all
  have hmx':mx=none:=by cases mx <;> simp_all
  subst hlo' hmx';cases hi with
  | none=>cases hhi
  | some y =>
  simp only[Option.map,bq] at hhi;have dy:=dg f y;rw[hhi] at dy;simp only[az] at dy;split at e
  case h_2=>cases e
  rename_i n sz' hx;rw[hx] at dx;simp only[az] at dx;simp only[Q.run] at e;split at e
  case h_2=>cases e
  rename_i p q hk;simp only[bq,br] at e;obtain⟨rfl,rfl⟩:=e;split at hk
  case h_2=>cases hk
  rename_i E' u xs hl;split at hk
  case h_2=>cases hk
  rename_i hs1 hs2;have hs1:sz=u.size:=bG hs1;have hs2:sz'=u.size:=bG hs2;subst hs1;simp only[Q.run] at hk;split at hk
  case h_2=>cases hk
  rename_i p' q' hk';simp only[bq,br] at hk;obtain⟨rfl,rfl⟩:=hk;split at hk'
  case h_2=>cases hk'
  rename_i hun;cases cz hk';simp only[Dl.pre,bV,iu] at hp;have exe:∀{p:Option Addr}{len cap:Nat},a.eval x = .slice p len cap->hh.toNat<=cap->(execOp a.eval o).run P w = .ok (.value (.slice p hh.toNat cap)) w:=by
   intro p len cap ev hc;unfold execOp;rw[ho];have hb:=F9 (P:=P) (w:=w) len cap none (some (a.eval y)) none 0 hh.toNat cap (.inl ⟨rfl,rfl⟩) (.inr ⟨kh,hh,by rw[dy.1],hp.1,by omega,rfl⟩) (.inl ⟨rfl,rfl⟩);simp only[Option.map,Instr.sliceAt,Instr.slice,Sem.run_bind,run_underlying hu,Result.andThen_ok,ev,hb,kU hsz,Sem.run_pure,Nat.zero_mul,Nat.sub_zero];congr 3;split
   .rfl
   .cases p <;> simp[Addr.add]
  have hdn:∀ n'∈[n],∃ b,h n' = .live b/\b.mut=true:=by simp[hl,lD.mut]
  rcases dx with⟨hnil,pa,es⟩|⟨b,len,E2,cc,hb,hsh,es⟩
  .have hx:xs=[]:=by
    have:=m.nm n;rw[hl] at this;rcases this with⟨k',l',he',_⟩|⟨_,E3,t3,hb⟩
    .rw[hnil] at he';cases he'
    .rcases hb with hb|hb <;> cases hb;rfl
   subst hx;have h0:hh.toNat=0:=by simp at hp;omega
   have g:=pg (pre:=[0<=hh,hh<=([]:List u.D).length]) (v := .slice pa 0 0) (E:=E') (t:=u) (zs:=([]:List u.D).take hh.toNat) m hun [n] hdn (W:=λ_=>False) (ev := .nil) (cY.refl w _) (λ_ h=>h.elim) (by simp)
    (λk l e=>by cases e) (λ_=>.inl ⟨rfl,by simp,pa,rfl⟩)
   exact⟨_,w,.inl (exe es (by omega)),by rw[h0];simpa using g⟩
  .obtain⟨β,len⟩:=len;obtain⟨cur,cap,hhp,hcs,hxl,hlc,hcm,hrd⟩:=(m.live_blk hl hb).1;simp only at hcs hxl hlc hrd es;have hcc:cc=cur.size:=by
    unfold World.shape? at hsh;rw[hhp] at hsh;simp only[bq,br] at hsh;exact hsh.2.symm
   have hcap:(cc-β)/sz'=cap:=by rw[hcc,hcs,hs2,lu];exact qL _ u.size_pos
   rw[hcap] at es;have hle:hh.toNat<=xs.length:=by omega
   have g:=pg (pre:=[0<=hh,hh<=xs.length]) (v := .slice (some ⟨b,β,none⟩) hh.toNat cap) (E:=E') (t:=u) (zs:=xs.take hh.toNat) m hun [n] hdn (W:=λ_=>False) (ev := .blk b (β,hh.toNat)) (cY.refl w _) (λ_ h=>h.elim) (by simp)
    (λk l e=>by cases e;exact .inr ⟨n,(β,len),by simp,hb⟩) (λx=>.inr ⟨b,(β,hh.toNat),cc,rfl,⟨cur,cap,hhp,hcs,by simp;omega,by omega,hcm,λi hi=>?_⟩,by rw[hsh];unfold World.shape? at hsh;rw[hhp] at hsh;cases hsh;rfl,by rw[← hs2,hcap]⟩)
   .exact⟨_,w,.inl (exe es (by omega)),by simpa using g⟩
   .have hi':i<xs.length:=by simp at hi;omega
    rw[List.getElem_take];exact hrd i hi'
 next E sz kl l he hlo hhi hmx=>
  obtain⟨hu,hsz⟩:=vD he;have hhi':hi=none:=by cases hi <;> simp_all
  have hmx':mx=none:=by cases mx <;> simp_all
  subst hhi' hmx';cases lo with
  | none=>cases hlo
  | some y =>
  simp only[Option.map,bq] at hlo;have dy:=dg f y;rw[hlo] at dy;simp only[az] at dy;split at e
  case h_2=>cases e
  rename_i n sz' hx;rw[hx] at dx;simp only[az] at dx;simp only[Q.run] at e;split at e
  case h_2=>cases e
  rename_i p q hk;simp only[bq,br] at e;obtain⟨rfl,rfl⟩:=e;split at hk
  case h_2=>cases hk
  rename_i E' u xs hl;split at hk
  case h_2=>cases hk
  rename_i hs1 hs2;have hs1:sz=u.size:=bG hs1;have hs2:sz'=u.size:=bG hs2;subst hs1;simp only[Q.run] at hk;split at hk
  case h_2=>cases hk
  rename_i p' q' hk';simp only[bq,br] at hk;obtain⟨rfl,rfl⟩:=hk;split at hk'
  case h_2=>cases hk'
  rename_i hun;cases cz hk';simp only[Dl.pre,bV,iu] at hp;have exe:∀{p:Option Addr}{len cap:Nat},a.eval x = .slice p len cap->l.toNat<=len->(execOp a.eval o).run P w = .ok (.value (.slice (if cap=l.toNat then p else p.map (·.add (l.toNat*u.size))) (len-l.toNat) (cap-l.toNat))) w:=by
   intro p len cap ev hc;unfold execOp;rw[ho];have hb:=F9 (P:=P) (w:=w) len cap (some (a.eval y)) none none l.toNat len cap (.inl ⟨rfl,rfl⟩) (.inl ⟨rfl,rfl,rfl⟩) (.inr ⟨kl,l,by rw[dy.1],hp.1,by omega,rfl⟩);simp only[Option.map,Instr.sliceAt,Instr.slice,Sem.run_bind,run_underlying hu,Result.andThen_ok,ev,hb,kU hsz,Sem.run_pure]
  have hdn:∀ n'∈[n],∃ b,h n' = .live b/\b.mut=true:=by simp[hl,lD.mut]
  rcases dx with⟨hnil,pa,es⟩|⟨b,len,E2,cc,hb,hsh,es⟩
  .have hx:xs=[]:=by
    have:=m.nm n;rw[hl] at this;rcases this with⟨k',l',he',_⟩|⟨_,E3,t3,hb⟩
    .rw[hnil] at he';cases he'
    .rcases hb with hb|hb <;> cases hb;rfl
   subst hx;have h0:l.toNat=0:=by simp at hp;omega
   have g:=pg (pre:=[0<=l,l<=([]:List u.D).length]) (v := .slice pa 0 0) (E:=E') (t:=u) (zs:=([]:List u.D).drop l.toNat) m hun [n] hdn (W:=λ_=>False) (ev := .nil) (cY.refl w _) (λ_ h=>h.elim) (by simp)
    (λk l e=>by cases e) (λ_=>.inl ⟨rfl,by simp,pa,rfl⟩)
   have ex:=exe es (by omega);rw[h0] at ex;exact⟨_,w,.inl ex,by simpa[h0] using g⟩
  .obtain⟨β,len⟩:=len;obtain⟨cur,cap,hhp,hcs,hxl,hlc,hcm,hrd⟩:=(m.live_blk hl hb).1;simp only at hcs hxl hlc hrd es;have hcc:cc=cur.size:=by
    unfold World.shape? at hsh;rw[hhp] at hsh;simp only[bq,br] at hsh;exact hsh.2.symm
   have hcap:(cc-β)/sz'=cap:=by rw[hcc,hcs,hs2,lu];exact qL _ u.size_pos
   rw[hcap] at es;have hle:l.toNat<=xs.length:=by omega
   have ex:=exe es (by omega);by_cases hfull:cap=l.toNat
   .rw[am hfull] at ex;have hz:xs.drop l.toNat=[]:=List.drop_eq_nil_of_le (by omega);have g:=pg (pre:=[0<=l,l<=xs.length]) (v := .slice (some ⟨b,β,none⟩) 0 0) (E:=E') (t:=u) (zs:=xs.drop l.toNat) m hun [n] hdn (W:=λ_=>False) (ev := .nil) (cY.refl w _) (λ_ h=>h.elim) (by simp)
     (λk l e=>by cases e) (λ_=>.inl ⟨rfl,hz,_,rfl⟩)
    rw[show len-l.toNat=0 by omega,show cap-l.toNat=0 by omega] at ex;exact⟨_,w,.inl ex,by simpa using g⟩
   .rw[af hfull] at ex;have hmul:l.toNat*u.size+(cap-l.toNat)*u.size=cap*u.size:=by rw[← fS];congr 1;omega
    have g:=pg (pre:=[0<=l,l<=xs.length]) (v := .slice (some ⟨b,β+l.toNat*u.size,none⟩) (len-l.toNat) (cap-l.toNat)) (E:=E') (t:=u) (zs:=xs.drop l.toNat) m hun [n] hdn (W:=λ_=>False) (ev := .blk b (β+l.toNat*u.size,len-l.toNat)) (cY.refl w _) (λ_ h=>h.elim) (by simp)
     (λk l e=>by cases e;exact .inr ⟨n,(β,len),by simp,hb⟩) (λx=>.inr ⟨b,(β+l.toNat*u.size,len-l.toNat),cc,rfl,⟨cur,cap-l.toNat,hhp,by rw[hcs,gN,hmul],by simp only[fy];omega,by omega,by omega,λi hi=>?_⟩,by rw[hsh];unfold World.shape? at hsh;rw[hhp] at hsh;cases hsh;rfl,by
      show _=Value.slice _ _ ((cc-(β+l.toNat*u.size))/u.size);rw[hcc,hcs,show β+cap*u.size-(β+l.toNat*u.size)=(cap-l.toNat)*u.size by rw[← hmul];omega,qL _ u.size_pos]⟩)
    .exact⟨_,w,.inl ex,by simpa only[Option.map,Addr.add_lit,fF,List.map_nil] using g⟩
    .have hi':i+l.toNat<xs.length:=by simp at hi;omega
     rw[List.getElem_drop];have:=hrd (l.toNat+i) (by omega);rw[show β+(l.toNat+i)*u.size=β+l.toNat*u.size+i*u.size by rw[fS];omega] at this;exact this
theorem KL(z:Array Value)(n:Nat)(hz:0<z.size):(Builtin.zeroCells z n).toList=j5 z.toList n:=by
 apply List.ext_getElem?
 intro i
 by_cases hi:i<n*z.size
 .rw[BC _ _ _ (by simpa using hi)];unfold Builtin.zeroCells;have hm:i%z.size<z.size:=Nat.mod_lt _ hz;rw[lK,Array.getElem?_map,Array.getElem?_range,am hi];simp[hm]
 .rw[yb (by simp[Builtin.zeroCells];omega),yb (by rw[FB];simp;omega)]
theorem VB(m:Mod w0 N0 A env h w)(f:FD A env w ρ a){t tn:TypeId}{nm:Nat}{s x:Operand}(ho:o.op = .call {callee := .builtin .append,args := #[s,x],argTypes := #[t,tn]})
  (e:(Jn P t tn nm (aW ρ s) (aW ρ x)).run h=some (d,r)) (hp:bV d.pre):bj P o a w0 N0 A env h w d:=by
 have ds:=dg f s
 have dx:=dg f x
 have exe:∀{v:Value}{w':World},(Builtin.append_ #[t,tn] o.type #[a.eval s,a.eval x]).run P w = .ok v w'→(execOp a.eval o).run P w = .ok (.value v) w':=by
  intro v w' hr;unfold execOp;rw[ho];simp only[resolve,invoke,builtin,Sem.run_bind,Sem.run_pure,Result.andThen_ok,List.map_toArray,fF,List.map_nil,hr]
 unfold Jn at e
 split at e
 case h_2=>cases e
 rename_i E sz kn n kt he hs hx hut
 obtain⟨hu,hsz⟩:=vD he
 rw[hs] at ds;rw[hx] at dx
 simp only[az] at ds dx
 split at e
 case h_2=>cases e
 rename_i u z i hct hz hi
 split at e
 case h_2=>cases e
 rename_i dd rest hb1 hb2 hb3 hpz
 have hb1:u.size=sz:=bG hb1
 have hb2:z.length=sz:=bG hb2
 have hb3:1<=i.bytes:=kO hb3
 subst hb1
 simp only[Q.run] at e
 split at e
 case h_2=>cases e
 rename_i p q hk
 simp only[bq,br] at e
 obtain⟨rfl,rfl⟩:=e
 split at hk
 case h_2=>cases hk
 rename_i hun
 cases cz hk
 simp only[Dl.pre,bV,iu] at hp
 obtain⟨h0,hby⟩:=hp
 obtain⟨i',zv,hi',hzv,dz,_⟩:=zl (A:=A) (env:=env) (w:=w) hz
 rw[hi] at hi';cases hi'
 have hzl:zv.cells.size=u.size:=by rw[← ga,je dz,hb2]
 have hisz:i.size=u.size:=by
  unfold gI at hsz;rw[hi] at hsz;simpa using hsz
 obtain⟨k,rfl⟩:=pE h0
 have hkb:k*i.bytes<=140737488355328:=by
  have:((k*i.bytes:Nat):Int)<=140737488355328:=by rw[Int.natCast_mul];exact hby
  omega
 have hk1:k<=k*i.bytes:=Nat.le_mul_of_pos_right k (by omega)
 by_cases hk0:k=0
 .subst hk0;have hr:(Builtin.append_ #[t,tn] o.type #[a.eval s,a.eval x]).run P w = .ok (.slice none 0 0) w:=by
   rw[ds,dx.1];have hw:IntKind.i64.wrap ((0:Nat):Int)=0:=by decide
   have hut':P.underlying tn=some (.int kt):=hut;have hai:(asIntOf (Value.int kn 0)).run P w = .ok (kn,0) w:=by simp[asIntOf]
   unfold Builtin.append_;simp[run_underlying hu,run_underlying hut',kU hsz,typeInfo,hi,asInt,hai,show IntKind.i64.wrap 0=0 from by decide]
  refine⟨_,w,.inl (exe hr),?_⟩;have g:=pg (pre:=[0<=((0:Nat):Int),((0:Nat):Int)*(i.bytes:Int)<=140737488355328]) (v := .slice none 0 0) (E:=E) (t:=u) (zs:=replicate (((0:Nat):Int)).toNat dd) m hun [] (by simp) (W:=λ_=>False) (ev := .nil) (cY.refl w _) (λ_ h=>h.elim) (by simp)
   (λk l e=>by cases e) (λ_=>.inl ⟨rfl,by simp,none,rfl⟩)
  simpa using g
 .have hr:=Go.Lib.run_append_nil_zeros (P:=P) w t tn o.type E i zv kn kt hu hut hi hzv k (by omega) (by rw[hisz];exact u.size_pos) (by omega) (by omega);rw[← ds,← dx.1] at hr;refine⟨_,_,.inl (exe hr),?_⟩;have hge:=grownCap_ge w k 0 E;have hcm:=grownCap_le_maxLen w k 0 E (by simp only[maxLen];omega);generalize grownCap w k 0 E=cap at *;have hproj:=sC m u z zv.cells.toList dd rest [] [] (by rw[hpz];rfl) dz (A':=A) (λ_ hb=>hb) (λk ⟨n,b,l,hh,_⟩=>by simp at hh);have hall:(Builtin.zeroCells zv.cells k++Builtin.zeroCells zv.cells (cap-k)).toList=j5 zv.cells.toList cap:=by
   rw[Array.toList_append,KL _ _ (by rw[hzl];exact u.size_pos),KL _ _ (by rw[hzl];exact u.size_pos)];have radd:∀(l:List Value)(a b:Nat),j5 l a++j5 l b=j5 l (a+b):=by
    intro l a b
    induction a with
    | zero=>simp[j5]
    | succ a ih=>rw[Nat.succ_add];simp only[j5,iL,ih]
   rw[radd];congr 1;omega
  have hsize:(Builtin.zeroCells zv.cells k++Builtin.zeroCells zv.cells (cap-k)).size=cap*u.size:=by
   rw[← ga,hall,FB,ga,hzl]
  have cg:cY w (w.drew.alloc (.cells (Builtin.zeroCells zv.cells k++Builtin.zeroCells zv.cells (cap-k)) E)) λ_=>False:=(cY.drew w _).trans (cY.alloc w.drew _ _);have g:=pg (pre:=[0<=((k:Nat):Int),((k:Nat):Int)*(i.bytes:Int)<=140737488355328]) (v := .slice (some ⟨w.heap.size,0,none⟩) k cap) (E:=E) (t:=u) (zs:=replicate ((k:Nat):Int).toNat dd) m hun [] (by simp) (W:=λ_=>False) (ev := .blk w.heap.size (0,k)) cg (λ_ h=>h.elim) (by simp)
   (λk l e=>by cases e;exact .inl (ir _)) (λx=>.inr ⟨w.heap.size,(0,k),cap*u.size,rfl,⟨_,cap,heap_alloc_new w.drew _,by rw[hsize,gh],by simp,hge,hcm,λj hj=>?_⟩,?_,?_⟩)
  .simpa using g
  .simp only[uh,Int.toNat_natCast] at hj;rw[List.getElem_replicate];have sh:=yo hproj.2.2.2.1 (j*u.size);rw[gh] at sh;rw[gh];refine ik (λ_ h=>h) x.keep u _ _ _ _ (λq hq=>?_) sh;have hlt:j*u.size+q<cap*u.size:=by
    have:(j+1)*u.size<=cap*u.size:=mM _ (by omega);rw[fS,kr] at this;omega
   rw[← lK,hall,BC _ _ _ (by simpa[hzl] using hlt)];congr 1;simp only[ga,hzl];rw[uP,Nat.add_mul_mod_self_right,Nat.mod_eq_of_lt hq];omega
  .unfold World.shape?;have hh:=heap_alloc_new w.drew (.cells (Builtin.zeroCells zv.cells k++Builtin.zeroCells zv.cells (cap-k)) E);simp only[World.size_drew] at hh;rw[hh];simp only[hsize]
  .show _=Value.slice _ _ ((cap*u.size-0)/u.size);rw[Nat.sub_zero,qL _ u.size_pos]
theorem EM{xs:ae}{v:Value}(h:qu A w (.int .u8) v xs){src e:TypeId}(hs:P.underlying src=some (.slice e))(he:P.underlying e=some (.int .u8)){dst:TypeId}(hd:P.underlying dst=some .string) :
  (convert src dst v).run P w = .ok (.string (strOfNums xs)) w:=by
 obtain⟨hl,⟨⟨a,rfl⟩,hx⟩|⟨b,off,cap,rfl,h1,h2,h3,h4⟩⟩:=h
 .have hx:xs=[]:=hx;subst hx;rw[run_convert_bytes_string w src dst e _ 0 0 hs he hd];cases a <;> simp[Conv.bytesToString,loadCells]
  all_goals rfl
 .refine run_convert_bytes_arg (P:=P) w src e hs he b off xs.length cap xs rfl (λi hi=>?_) dst hd;have:=(h4 i hi).1;simp only[CT.size,Nat.mul_one] at this;rw[this,bJ,cK hi,f9]
theorem WH{xs:ae}{k c:Nat}{len:Nat×Nat}{E:TypeId}(h:nX A w k len E (.int .u8) xs){src e:TypeId}(hs:P.underlying src=some (.slice e))(he:P.underlying e=some (.int .u8)){dst:TypeId}(hd:P.underlying dst=some .string) :
  (convert src dst (.slice (some ⟨k,len.1,none⟩) len.2 c)).run P w = .ok (.string (strOfNums xs)) w:=by
 obtain⟨vs,cap,h0,h1,h2,h3,h4,h5⟩:=h
 refine run_convert_bytes_arg (P:=P) w src e hs he k len.1 len.2 c xs h2 (λi hi=>?_) dst hd
 have hi':i<xs.length:=by omega
 have:=(h5 i hi').1
 simp only[CT.size,Nat.mul_one] at this
 rw[cell_of_row w k _ vs E (0,0) h0,this,bJ,cK hi',f9]
def Gb(P:Program)(src:TypeId)(x:SV):Q Dl:=match P.underlying src with
 | some (.slice e)=>match P.underlying e with
  | some (.int .u8)=>match x with
   | .dsl t xs=>match hY t (.int .u8) xs with
    | some ys=>ci (.str (strOfNums ys))
    | none => .fail
   | .dsx t xs=>match hY t (.int .u8) xs with
    | some ys=>ci (.str (strOfNums ys))
    | none => .fail
   | .nilsl=>ci (.str (strOfNums []))
   | .own n sz => .ask n fun
    | .live (.row _ t xs)=>match hY t (.int .u8) xs with
     | some ys=>ci (.str (strOfNums ys))
     | none => .fail
    | .live (.frz _ t xs)=>match hY t (.int .u8) xs with
     | some ys=>ci (.str (strOfNums ys))
     | none => .fail
    | _ => .fail
   | _ => .fail
  | _ => .fail
 | _ => .fail
theorem Bh{xs:ae}{v:Value}(hl:xs.length<=maxLen):az A env w (.str (strOfNums xs)) (.string (strOfNums xs)):=by
 simp only[az];exact⟨trivial,by rw[strOfNums_size];exact hl⟩
theorem UQ(m:Mod w0 N0 A env h w)(f:FD A env w ρ a){s t:TypeId}{x:Operand}(ho:o.op = .convert s t x)(ht:P.underlying t=some .string)
  (e:(Gb P s (aW ρ x)).run h=some (d,r)):bj P o a w0 N0 A env h w d:=by
 have dx:=dg f x
 have go:∀{v:Value},(convert s t (a.eval x)).run P w = .ok v w->(execOp a.eval o).run P w = .ok (.value v) w:=by
  intro v hr;unfold execOp;rw[ho];simp only[Sem.run_bind,hr,Result.andThen_ok,Sem.run_pure]
 unfold Gb at e
 split at e
 next el hs=>
  split at e
  .rename_i he;split at e
   .rename_i u xs hx;rw[hx] at dx;simp only[az] at dx;split at e
    next ys hc=>obtain⟨et,ez⟩:=jN hc;subst et;simp only at ez;subst ez;unfold ci at e;cases cz e;exact bj.pure m (go (EM dx hs he ht)) (Bh (v:=a.eval x) dx.1)
    .cases e
   .rename_i u xs hx;rw[hx] at dx;simp only[az] at dx;split at e
    next ys hc=>obtain⟨et,ez⟩:=jN hc;subst et;simp only at ez;subst ez;unfold ci at e;cases cz e;exact bj.pure m (go (EM dx.1 hs he ht)) (Bh (v:=a.eval x) dx.1.1)
    .cases e
   next hx=>rw[hx] at dx;simp only[az] at dx;unfold ci at e;cases cz e;refine bj.pure m (go ?_) (Bh (v:=a.eval x) (by simp));rw[dx];exact EM (A:=A) (xs:=[]) ⟨by simp,.inl ⟨⟨_,rfl⟩,rfl⟩⟩ hs he ht
   .rename_i n sz hx;rw[hx] at dx;simp only[az] at dx;simp only[Q.run] at e;split at e
    .rename_i p q hk;simp only[bq,br] at e;obtain⟨rfl,rfl⟩:=e;have fin:∀{E:TypeId}{ys:ae}{fz:Bool},h n = .live (match fz with|true => .frz E (.int .u8) ys|false => .row E (.int .u8) ys)->bj P o a w0 N0 A env h w (.det [] (.str (strOfNums ys)) []):=by
      intro E ys fz hl;have hm:=m.nm n;rw[hl] at hm;rcases dx with⟨hen,a0,ev⟩|⟨b,len,E',c,hen,_,ev⟩
      .rcases hm with⟨k,len,hek,_⟩|⟨_,E2,t2,hb⟩
       .rw[hen] at hek;cases hek
       .have:ys=[]:=by cases fz <;> (rcases hb with hb|hb <;> cases hb) <;> rfl
        subst this;refine bj.pure m (go ?_) (Bh (v:=a.eval x) (by simp));rw[ev];exact EM (A:=A) (xs:=[]) ⟨by simp,.inl ⟨⟨_,rfl⟩,rfl⟩⟩ hs he ht
      .rcases hm with⟨k,len',hek,hb,_⟩|⟨hek,_⟩
       .rw[hen] at hek;cases hek;have hr:nX A w b len E (.int .u8) ys:=by
         cases fz with
         | true=>exact hb.2
         | false=>exact hb
        refine bj.pure m (go ?_) (Bh (v:=a.eval x) ?_)
        .rw[ev];exact WH hr hs he ht
        .obtain⟨vs,cap,_,_,h2,h3,h4,_⟩:=hr;omega
       .rw[hen] at hek;cases hek
     split at hk
     .rename_i E u xs hl;split at hk
      next ys hc=>obtain⟨et,ez⟩:=jN hc;subst et;simp only at ez;subst ez;unfold ci at hk;cases cz hk;exact fin (fz:=false) hl
      .cases hk
     .rename_i E u xs hl;split at hk
      next ys hc=>obtain⟨et,ez⟩:=jN hc;subst et;simp only at ez;subst ez;unfold ci at hk;cases cz hk;exact fin (fz:=true) hl
      .cases hk
     .cases hk
    .cases e
   .cases e
  .cases e
 .cases e
def FM:SV->Option ByteArray
 | .str s=>some s
 | .cv (.string s)=>some s
 | _=>none
def GM(op:BinOp)(x y:SV):Q Dl:=match FM x,FM y,op with
 | some a,some b,.eql=>ci (.bool (decide (a=b)))
 | some a,some b,.neq=>ci (.bool (!decide (a=b)))
 | _,_,_ => .fail
theorem ES{x:SV}{v:Value}{s:ByteArray}(e:FM x=some s)(hd:az A env w x v):v = .string s:=by
 unfold FM at e
 split at e
 .cases e;simp only[az] at hd;exact hd.1
 .cases e;simp only[az] at hd;exact hd
 .cases e
theorem SJ(m:Mod w0 N0 A env h w)(f:FD A env w ρ a){op:BinOp}{t yt:TypeId}{x y:Operand}(ho:o.op = .binOp op t x y yt)(ht:P.underlying t=some .string)
  (e:(GM op (aW ρ x) (aW ρ y)).run h=some (d,r)):bj P o a w0 N0 A env h w d:=by
 have dx:=dg f x
 have dy:=dg f y
 have go:∀(v:Value),((do eqGuard op t x y (a.eval x) (a.eval y);binOp op t (a.eval x) (a.eval y):Sem Value).run P w) = .ok v w →
   (execOp a.eval o).run P w = .ok (.value v) w:=by
  intro v hv;unfold execOp;rw[ho];simp only[Sem.run_bind,Sem.run_pure] at hv ⊢;rw[hv];rfl
 have eqb:∀ u v:ByteArray,(u.toList == v.toList)=decide (u=v):=λu v=>by
  rw[ut];simp only[ByteArray.toList_eq,beq_iff_eq,mh];exact⟨λh=>by cases u;cases v;simp_all,λh=>by rw[h]⟩
 unfold GM at e
 split at e
 next u v hx hy=>have ex:=ES hx dx;have ey:=ES hy dy;rw[ex,ey] at go;unfold ci at e;cases cz e;refine bj.pure m (go _ ?_) (s := .bool (decide (u=v))) (v := .bool (decide (u=v))) (by simp only[az]);rw[eqGuard_at_string];simp[binOp,Op.stringOp,eqb]
 next u v hx hy=>have ex:=ES hx dx;have ey:=ES hy dy;rw[ex,ey] at go;unfold ci at e;cases cz e;refine bj.pure m (go _ ?_) (s := .bool (!decide (u=v))) (v := .bool (!decide (u=v))) (by simp only[az]);rw[eqGuard_at_string];simp[binOp,Op.stringOp,eqb]
 .cases e
def Jp(P:Program)(t:TypeId)(x i:SV):Q Dl:=match i,P.underlying t with
 | .int _ i,some (.array len e)=>match gI P e,decide (0<=i)&&decide (i<len)&&decide (2<=len) with
  | some (n+1),true=>match x with
   | .ptr m o=>ci (.ptr m (o+i.toNat*(n+1)))
   | .eptr m s j o=>ci (.eptr m s j (o+i.toNat*(n+1)))
   | .dptr u d o=>ci (.dptr u d (o+i.toNat*(n+1)))
   | _ => .fail
  | _,_ => .fail
 | _,_ => .fail
theorem Y3(m:Mod w0 N0 A env h w)(f:FD A env w ρ a){t:TypeId}{x i:Operand}(φ:Operand->SV)(dx:az A env w (φ x) (a.eval x))(ho:o.op = .indexAddr t x i)
  (e:(Jp P t (φ x) (aW ρ i)).run h=some (d,r)):bj P o a w0 N0 A env h w d:=by
 have di:=dg f i
 unfold Jp at e
 split at e
 next k iv len E hi hu=>
  rw[hi] at di;simp only[az] at di;split at e
  .rename_i n hn hb;simp only[dM,mh] at hb;obtain⟨⟨h0,h1⟩,h2⟩:=hb;have go:∀{b off:Nat},a.eval x = .pointer (some ⟨b,off,none⟩)->(execOp a.eval o).run P w = .ok (.value (.pointer (some ⟨b,off+iv.toNat*(n+1),none⟩))) w:=by
    intro b off ev;unfold execOp;rw[ho];simp[Instr.indexAt,Instr.sureAddr,ev,di.1,asIntOf,run_underlying hu,kU hn,h0,h1,Addr.add_lit]
   split at e
   next q o' hx=>rw[hx] at dx;simp only[az] at dx;obtain⟨b,l,he,ev⟩:=dx;unfold ci at e;cases cz e;exact bj.pure m (go ev) (by simp only[az];exact⟨b,l,he,rfl⟩)
   next q sz j o' hx=>rw[hx] at dx;simp only[az] at dx;obtain⟨b,l,he,hj,ev⟩:=dx;unfold ci at e;cases cz e;exact bj.pure m (go ev) (by simp only[az];exact⟨b,l,he,hj,by rw[gN,gN]⟩)
   next u dd o' hx=>rw[hx] at dx;simp only[az] at dx;obtain⟨b,off,ev,hA,hr⟩:=dx;unfold ci at e;cases cz e;exact bj.pure m (go ev) (by simp only[az];exact⟨b,off,by rw[gN],hA,hr⟩)
   .cases e
  .cases e
 .cases e
def gk(i:Int):List (Int×Int)->Bool
 | []=>false
 | p::r=>bif decide (i=p.1) then true else gk i r
def lS(i:Int):List (Int×Int)->Int
 | []=>0
 | p::r=>bif decide (i=p.1) then p.2 else lS i r
def kK(i v:Int):List (Int×Int)->List (Int×Int)
 | []=>[(i,v)]
 | p::r=>bif decide (i=p.1) then (i,v)::r else p::kK i v r
def rE(i:Int):List (Int×Int)->Nat
 | []=>0
 | p::r=>bif decide (i=p.1) then 0 else rE i r+1
def Br(P:Program)(t:TypeId):Option (TypeId×IntKind×TypeId×IntKind):=match P.underlying t with
 | some (.map k e)=>match P.underlying k,P.underlying e with
  | some (.int kk),some (.int vk)=>some (k,kk,e,vk)
  | _,_=>none
 | _=>none
def JW(P:Program)(e:TypeId)(vk:IntKind):Bool:=match P.info? e with
 | some j=>match j.zero with
  | some (.int k n)=>lO k vk&&decide (n=0)
  | _=>false
 | none=>false
def IY(P:Program)(t:TypeId)(nm:Nat):Q Dl:=match Br P t with
 | some (_,kk,_,vk) => .ask nm fun
  | .un => .ret (.det [] (.mapp nm) [(nm,.live (.mp kk vk []))])
  | _ => .fail
 | none => .fail
def GZ(P:Program)(t:TypeId)(x i:SV):Q Dl:=match Br P t,x,i with
 | some (_,kk,e,vk),.mapp n,.int k i => .ask n fun
  | .live (.mp kk' vk' l)=>match lO kk kk',lO vk vk',lO k kk,JW P e vk with
   | true,true,true,true=>ci (.tup [.int vk (lS i l),.bool (gk i l)])
   | _,_,_,_ => .fail
  | _ => .fail
 | _,_,_ => .fail
def GJ(P:Program)(t:TypeId)(x i y:SV):Q Dl:=match Br P t,x,i,y with
 | some (_,kk,_,vk),.mapp n,.int k i,.int k' v => .ask n fun
  | .live (.mp kk' vk' l)=>match lO kk kk',lO vk vk',lO k kk,lO k' vk with
   | true,true,true,true => .ret (.det [] (.cv undef) [(n,.live (.mp kk vk (kK i v l)))])
   | _,_,_,_ => .fail
  | _ => .fail
 | _,_,_,_ => .fail
theorem OQ{t k e:TypeId}{kk vk:IntKind}(h:Br P t=some (k,kk,e,vk)):P.underlying t=some (.map k e)/\P.underlying k=some (.int kk)/\P.underlying e=some (.int vk):=by
 unfold Br at h
 split at h
 next hu=>
  split at h
  next h1 h2=>cases h;exact⟨hu,h1,h2⟩
  .cases h
 .cases h
theorem ZI{e:TypeId}{vk:IntKind}(h:JW P e vk=true):(zeroValue e).run P w = .ok (.int vk 0) w:=by
 unfold JW at h
 split at h
 next j hj=>
  split at h
  next k n hz=>simp only[dM,mh] at h;cases lY h.1;rw[h.2] at hz;simp[zeroValue,typeInfo,hj,hz]
  .cases h
 .cases h
def oX(kk vk:IntKind)(l:List (Int×Int)):List (Value×Value):=l.map λp=>(Value.int kk p.1,Value.int vk p.2)
theorem F8{kk vk:IntKind}{i:Int}:∀{es:List MapEntry}{l:List (Int×Int)}{n:Nat},es.map (λe=>(e.key,e.val))=oX kk vk l →
  Instr.findNow (.int kk) (.int kk i) es n=some (bif gk i l then some (n+rE i l,.int vk (lS i l)) else none)
 | [],[],n,_=>rfl
 | e::es,p::l,n,h=>by
  simp only[oX,fF,List.cons.injEq,br] at h;obtain⟨⟨h1,h2⟩,h3⟩:=h;have hs:Instr.sameNow (.int kk) (.int kk i) e.key=some (i == p.1):=by rw[h1];simp[Instr.sameNow]
  by_cases hi:i=p.1
  .have hb:(i == p.1)=true:=by simp[hi]
   rw[hb] at hs;simp only[Instr.findNow,hs,h2,gk,lS,rE,cM hi,cond_true,ip]
  .have hb:(i == p.1)=false:=by simp[hi]
   rw[hb] at hs;simp only[Instr.findNow,hs,gk,lS,rE,dP hi,oR];rw[F8 (l:=l) h3,show n+1+rE i l=n+(rE i l+1) by omega]
 | [],_::_,_,h=>by simp[oX] at h
 | _::_,[],_,h=>by simp[oX] at h
theorem Q3{i:Int}:∀{l:List (Int×Int)},gk i l=false->lS i l=0
 | [],_=>rfl
 | p::l,h=>by
  simp only[gk] at h;cases hd:decide (i=p.1) with
  | true=>rw[hd] at h;cases h
  | false =>
   rw[hd,oR] at h;simp only[lS,hd,oR];exact Q3 h
theorem K8{vk:IntKind}{i v:Int}(hv:vk.has v):∀{l:List (Int×Int)},(∀ p∈l,vk.has p.2)→∀ p∈kK i v l,vk.has p.2
 | [],_,p,hp=>by simp only[kK,iI] at hp;rw[hp];exact hv
 | q::l,h,p,hp=>by
  simp only[kK] at hp;cases hd:decide (i=q.1) with
  | true =>
   rw[hd,cond_true] at hp;rcases dK.1 hp with rfl|hp
   .exact hv
   .exact h p (fM _ hp)
  | false =>
   rw[hd,oR] at hp;rcases dK.1 hp with rfl|hp
   .exact h _ fY
   .exact K8 hv (λp hp=>h p (fM _ hp)) p hp
theorem O9{vk:IntKind}{i:Int}(h0:vk.has 0):∀{l:List (Int×Int)},(∀ p∈l,vk.has p.2)->vk.has (lS i l)
 | [],_=>h0
 | q::l,h=>by
  simp only[lS];cases decide (i=q.1) with
  | true=>exact h _ fY
  | false=>exact O9 h0 λp hp=>h p (fM _ hp)
theorem RG{kk vk:IntKind}{i v:Int}:∀{es:List MapEntry}{l:List (Int×Int)},es.map (λe=>(e.key,e.val))=oX kk vk l->gk i l=true →
  (es.modify (rE i l) λe=>{e with key := .int kk i,val := .int vk v}).map (λe=>(e.key,e.val))=oX kk vk (kK i v l)∧∃ e,es[rE i l]? = some e/\e.key = .int kk i
 | [],[],_,hm=>by cases hm
 | e::es,p::l,h,hm=>by
  simp only[oX,fF,List.cons.injEq,br] at h;obtain⟨⟨h1,h2⟩,h3⟩:=h;simp only[gk] at hm;cases hd:decide (i=p.1) with
  | true =>
   simp only[kK,rE,hd,cond_true,oX,fF];refine⟨?_,e,rfl,?_⟩
   .simp[h3]
   .rw[h1,aI hd]
  | false =>
   rw[hd,oR] at hm;obtain⟨k1,k2⟩:=RG (v:=v) h3 hm;simp only[kK,rE,hd,oR,oX,fF];refine⟨?_,by simpa using k2⟩;simp only[List.modify_succ_cons,fF,h1,h2,List.cons.injEq,true_and];exact k1
 | [],_::_,h,_=>by simp[oX] at h
 | _::_,[],h,_=>by simp[oX] at h
theorem LC{kk vk:IntKind}{i v:Int}:∀{l:List (Int×Int)},gk i l=false->oX kk vk (kK i v l)=oX kk vk l++[(Value.int kk i,Value.int vk v)]
 | [],_=>rfl
 | p::l,h=>by
  simp only[gk] at h;cases hd:decide (i=p.1) with
  | true=>rw[hd] at h;cases h
  | false =>
   rw[hd,oR] at h;simp only[kK,hd,oR,oX,fF,mF];exact jn _ (LC h)
theorem as6(m:Mod w0 N0 A env h w){t:TypeId}{nm:Nat}(ho:o.op = .makeMap t none)
  (e:(IY P t nm).run h=some (d,r)):bj P o a w0 N0 A env h w d:=by
 unfold IY at e
 split at e
 .simp only[Q.run] at e;split at e
  .rename_i p q hk;simp only[bq,br] at e;obtain⟨rfl,rfl⟩:=e;split at hk
   .rename_i hun;cases cz hk;have hrun:(execOp a.eval o).run P w = .ok (.value (.map (some w.heap.size))) (w.alloc (.map #[] 0)):=by
     unfold execOp;rw[ho];rfl
    refine⟨_,_,.inl hrun,da.fresh m hun (len:=(0,0)) rfl w.heap.size (ir _) (cY.alloc w _ _) (λx=>⟨#[],0,heap_alloc_new w _,rfl,λp hp=>by cases hp⟩) ?_⟩;simp only[az];exact⟨_,(0,0),aZ.set_same _ _ _,rfl⟩
   .cases hk
  .cases e
 .cases e
theorem JG(kk:IntKind)(i:Int):MapKept.IsKey (.int kk) (.int kk i):=by simp[MapKept.IsKey]
theorem aJ8(m:Mod w0 N0 A env h w)(f:FD A env w ρ a){t:TypeId}{x i:Operand}(ho:o.op = .lookup t x i true)
  (e:(GZ P t (aW ρ x) (aW ρ i)).run h=some (d,r)):bj P o a w0 N0 A env h w d:=by
 have dx:=dg f x
 have di:=dg f i
 unfold GZ at e
 split at e
 next kt kk et vk n k i hm hx hi=>
  rw[hx] at dx;rw[hi] at di;simp only[az] at dx di;obtain⟨b,len,he,ev⟩:=dx;obtain⟨hu,huk,hue⟩:=OQ hm;simp only[Q.run] at e;split at e
  .rename_i p q hk;simp only[bq,br] at e;obtain⟨rfl,rfl⟩:=e;split at hk
   .rename_i kk' vk' l hl;split at hk
    .rename_i q1 q2 q3 q4;cases lY q1;cases lY q2;cases lY q3;unfold ci at hk;cases cz hk;obtain⟨⟨es,clk,hb,hes,hh⟩,_⟩:=m.live_blk hl he;have hf:=F8 (i:=i) (n:=0) hes;have h0:vk.has 0:=by
      have:=IntKind.wrap_has vk 0;have e0:vk.wrap 0=0:=by cases vk <;> rfl
      rw[e0] at this;exact this
     refine bj.pure m (v := .tuple #[.int vk (lS i l),.bool (gk i l)]) ?_ ?_
     .unfold execOp;rw[ho];simp only[ev,di.1,Instr.lookup,Sem.run_bind,run_underlying hu,Result.andThen_ok,MapKept.run_getObj_map hb,Sem.run_pure,MapKept.run_checkKey huk (JG kk i),MapKept.run_findKey huk hf];cases hq:gk i l with
      | true=>simp
      | false =>
       simp[ZI q4,Q3 hq]
     .simp only[az];refine⟨_,rfl,?_⟩;simp only[aR,az];exact⟨_,_,rfl,⟨rfl,O9 h0 hh⟩,_,_,rfl,rfl,rfl⟩
    .cases hk
   .cases hk
  .cases e
 .cases e
theorem cY.setMap{w:World}{b:Nat}{es:Array MapEntry}{c:Nat}(hb:w.heap[b]? = some (.map es c))(es':Array MapEntry)(c':Nat) :
  cY w {w with heap:=w.heap.setIfInBounds b (.map es' c')} λj=>j=b:=by
 refine⟨rfl,rfl,rfl,by simp,λk hk hw=>?_,λk s hs=>?_⟩
 .exact yP (λe=>hw e.symm)
 .by_cases e:k=b
  .subst e;unfold World.shape? at hs;rw[hb] at hs;cases hs
  .unfold World.shape? at hs ⊢;have:({w with heap:=w.heap.setIfInBounds b (.map es' c')}:World).heap[k]? = w.heap[k]? := yP (λh=>e h.symm);rw[this];exact hs
theorem WU(m:Mod w0 N0 A env h w)(f:FD A env w ρ a){t:TypeId}{x i y:Operand}(ho:o.op = .mapUpdate t x i y)
  (e:(GJ P t (aW ρ x) (aW ρ i) (aW ρ y)).run h=some (d,r)):bj P o a w0 N0 A env h w d:=by
 have dx:=dg f x
 have di:=dg f i
 have dy:=dg f y
 unfold GJ at e
 split at e
 next kt kk et vk n k i k' v hm hx hi hy=>
  rw[hx] at dx;rw[hi] at di;rw[hy] at dy;simp only[az] at dx di dy;obtain⟨b,len,he,ev⟩:=dx;obtain⟨hu,huk,hue⟩:=OQ hm;simp only[Q.run] at e;split at e
  .rename_i p q hk;simp only[bq,br] at e;obtain⟨rfl,rfl⟩:=e;split at hk
   .rename_i kk' vk' l hl;split at hk
    .rename_i q1 q2 q3 q4;cases lY q1;cases lY q2;cases lY q3;cases lY q4;cases cz hk;obtain⟨⟨es,clk,hb,hes,hh⟩,_⟩:=m.live_blk hl he;have hf:=F8 (i:=i) (n:=0) hes;have fin:∀(es':Array MapEntry)(c':Nat),(execOp a.eval o).run P w = .ok .skip {w with heap:=w.heap.setIfInBounds b (.map es' c')}->es'.toList.map (λe=>(e.key,e.val))=oX kk vk (kK i v l) →
       bj P o a w0 N0 A env h w (.det [] (.cv undef) [(n,.live (.mp kk vk (kK i v l)))]):=by
      intro es' c' hrun hes';have hlt:b<w.heap.size:=(Array.getElem?_eq_some_iff.1 hb).1;have u:=mK.write (b' := .mp kk vk (kK i v l)) m hl rfl he (cY.setMap hb es' c') ⟨es',c',by simp[hlt],hes',K8 dy.2 hh⟩ rfl;exact⟨undef,_,.inr ⟨hrun,rfl⟩,(),A,env,trivial,m.upd u,m.ext u,by simp only[Dl.val,az]⟩
     cases hq:gk i l with
     | true =>
      rw[hq,cond_true] at hf;obtain⟨k1,e0,k2,k3⟩:=RG (v:=v) hes hq;refine fin (es.modify (rE i l) λe=>{e with key := .int kk i,val := .int vk v}) clk ?_ (by rw[Array.toList_modify];exact k1);have hget:es[rE i l]? = some e0:=by rw[← lK];exact k2
      unfold execOp;rw[ho];simp only[ev,di.1,dy.1,Instr.mapUpdate,Sem.run_bind,run_underlying hu,Result.andThen_ok,MapKept.run_getObj_map hb,Sem.run_pure,MapKept.run_checkKey huk (JG kk i),MapKept.run_findKey huk hf,gh,hget,Option.map_some,f9,k3,Instr.keyThatStays,Instr.sameBits,beq_self_eq_true,Bool.and_self,if_true,MapKept.run_setObj_map _ hb]
      try rfl
     | false =>
      rw[hq,oR] at hf;refine fin (es.push {key := .int kk i,val := .int vk v,born:=clk}) (clk+1) ?_ (by rw[Array.toList_push,lG,hes,LC hq];rfl);unfold execOp;rw[ho];simp only[ev,di.1,dy.1,Instr.mapUpdate,Sem.run_bind,run_underlying hu,Result.andThen_ok,MapKept.run_getObj_map hb,Sem.run_pure,MapKept.run_checkKey huk (JG kk i),MapKept.run_findKey huk hf,MapKept.run_setObj_map _ hb]
      try rfl
    .cases hk
   .cases hk
  .cases e
 .cases e
end
end Go.SX
namespace Go.SX
def Vl:SV->Bool
 | .own _ _=>true
 | _=>false
def GY(P:Program)(ty:TypeId)(x:SV):Q Dl:=match x with
 | .eptr n sz i off => .ask n fun
  | .live (.opn _ t _ j cs)=>match Nat.beq sz t.size,nR P ty cs off with
   | true,some v => .ret (.det [i=j] v [])
   | _,_ => .fail
  | _=>B3 P ty (.eptr n sz i off)
 | x=>B3 P ty x
def J1(P:Program)(ty:TypeId)(x y:SV):Q Dl:=match x with
 | .eptr n sz i off => .ask n fun
  | .live (.opn E t xs j cs)=>match wt y,gI P ty with
   | some vs,some k=>match Nat.beq k vs.length,Nat.beq sz t.size,Nat.ble (off+vs.length) t.size with
    | true,true,true => .ret (.det [i=j] (.cv undef) [(n,.live (.opn E t xs j (qz cs off vs)))])
    | _,_,_ => .fail
   | _,_ => .fail
  | .live (.row E t xs)=>match wt y,gI P ty with
   | some vs,some k=>match vs.any Vl with
    | true=>match Nat.beq k vs.length,Nat.beq sz t.size,Nat.ble (off+vs.length) t.size with
     | true,true,true => .ret (.det [] (.cv undef) [(n,.live (.opn E t xs i (qz (dU t (lx t xs i)) off vs)))])
     | _,_,_ => .fail
    | false=>Ax P ty (.eptr n sz i off) y
   | _,_ => .fail
  | _=>Ax P ty (.eptr n sz i off) y
 | x=>Ax P ty x y
def xB:List SV->Q (List (Nat×Nm))
 | [] => .ret []
 | .own n _::r => .ask n fun
  | .live (.opn E t xs i cs)=>(jz t cs).bind λp=>match p.2.1,vG n p.2.2 with
   | [],true => .ret ((n,.live (.row E t (xs.set i p.1)))::p.2.2)
   | _,_ => .fail
  | _=>xB r
 | _::r=>xB r
def H8(P:Program)(ty:TypeId)(x:SV):Q Dl:=match x with
 | .ptr n off => .ask n fun
  | .live (.cells _ cs)=>match nR P ty cs off with
   | some v=>(xB cs).bind λu=>.ret (.det [] v u)
   | none => .fail
  | _ => .fail
 | _ => .fail
section
variable {P:Program} {w0:World} {N0:f5} {A:Nat->Prop} {env:aZ} {h:bP} {w:World} {o:Oper} {a:Act} {ρ:Nat->SV} {d:Dl} {r:List Nat}
theorem Ga{i n k:Nat}(h:i<n):i*k+k<=n*k:=by
 have:(i+1)*k<=n*k:=mM _ (by omega)
 rw[fS,kr] at this;exact this
theorem S8{k:Nat}{len:Nat×Nat}{E:TypeId}{t:CT}{xs:List t.D}(hr:nX A w k len E t xs){i:Nat}(hi:i<len.2) :
  jX A env w k len (.opn E t xs i (dU t (lx t xs i))):=by
 obtain⟨vs,hl,hc,hd⟩:=u7 (env:=env) t (lx t xs i) _ _ (zc hr hi)
 obtain⟨us,cap,hh,h1,h2,h3,h4,h5⟩:=hr
 refine⟨us,cap,vs,hh,h1,h2,h3,h4,hi,hl,λq hq=>?_,hd,λj hj _=>h5 j hj⟩
 have:=hc q hq
 rw[cell_of_row w k _ us E (0,0) hh] at this
 exact this
theorem YS{A':Nat->Prop}(hA:∀ b,A b->A' b){k:Nat}{len:Nat×Nat}{E:TypeId}{t:CT}{xs:List t.D}{i:Nat}{cs:List SV}(hb:jX A env w k len (.opn E t xs i cs)){d:t.D}
  (hd:∀ es:List Value,es.length=t.size->aR A env w cs es->Rd A' w t (λj=>es[j]?) 0 d):nX A' w k len E t (xs.set i d):=by
 obtain⟨us,cap,es,hh,h1,h2,h3,h4,h5,h6,h7,h8,h9⟩:=hb
 refine⟨us,cap,hh,h1,by simpa using h2,h3,h4,λj hj=>?_⟩
 have hj':j<xs.length:=by simpa using hj
 rw[List.getElem_set]
 split
 next e=>subst e;have:=yo (hd es h6 h8) (len.1+i*t.size);rw[gh] at this;refine ik (λ_ h=>h) (λ_ _ _=>rfl) t _ _ _ _ (λq hq=>?_) this;show us[len.1+i*t.size+q]? = es[len.1+i*t.size+q-(len.1+i*t.size)]?;rw[h7 q hq];congr 1;omega
 next e=>exact ik hA (λ_ _ _=>rfl) t _ _ _ _ (λ_ _=>rfl) (h9 j hj' (λh=>e h.symm))
theorem VH(m:Mod w0 N0 A env h w){ty:TypeId}{x:Operand}(φ:Operand->SV)(dx:az A env w (φ x) (a.eval x))(ho:o.op = .load ty x)
  (e:(GY P ty (φ x)).run h=some (d,r)) (hp:bV d.pre):bj P o a w0 N0 A env h w d:=by
 have go:∀{b off:Nat}{v:Value},a.eval x = .pointer (some ⟨b,off,none⟩)->(loadVar ty ⟨b,off,none⟩).run P w = .ok v w->(execOp a.eval o).run P w = .ok (.value v) w:=by
  intro b off v ev hr;unfold execOp;rw[ho];simp only[ev,Instr.loadAt,Instr.sureAddr,Sem.run_bind,Sem.run_pure,Result.andThen_ok,hr]
 unfold GY at e
 split at e
 next n sz i off hx=>
  have dx':=dx;rw[hx] at dx;simp only[az] at dx;obtain⟨b,l,he,hil,ev⟩:=dx;simp only[Q.run] at e;split at e
  .rename_i p q hk;simp only[bq,br] at e;obtain⟨rfl,rfl⟩:=e;split at hk
   .rename_i E t xs j cs hl;split at hk
    next v hsz e1=>have hsz:sz=t.size:=bG hsz;subst hsz;cases cz hk;have hij:i=j:=hp.1;subst hij;obtain⟨us,cap,es,hh,h1,h2,h3,h4,h5,h6,h7,h8,h9⟩:=(m.live_blk hl he).1;obtain⟨v,hr,hv⟩:=Bx (o:=l.1+i*t.size) (k:=b) e1 h8 (λj hj=>by rw[cell_of_row w b _ us E (0,0) hh];exact h7 j (by omega));rw[gN] at hr;exact bj.pure m (go ev hr) hv
    .cases hk
   .exact G9 m φ dx' ho (by rw[hx];exact hk)
  .cases e
 .exact G9 m φ dx ho e
theorem QJ(m:Mod w0 N0 A env h w){b0:lD}{mm b:Nat}{l:Nat×Nat}(hl:h mm = .live b0)(hm0:b0.mut=true)(he:env mm = .blk b l){E:TypeId}{t:CT}{xs:List t.D}{i off:Nat}{cs vs:List SV}
  (hb:jX A env w b l (.opn E t xs i cs)) {ty:TypeId} {v:Value} (dv:aR A env w vs v.cells.toList) (h1:∀ u∈v.cells.toList,u.oneCell'=true) (hsz:gI P ty=some v.cells.size) (hle:off+vs.length<=t.size) :
  ∃ w',(storeVar ty ⟨b,l.1+i*t.size+off,none⟩ v).run P w = .ok () w'∧da w0 N0 A env h w (.det [] (.cv undef) [(mm,.live (.opn E t xs i (qz cs off vs)))]) undef w':=by
 obtain⟨us,cap,es,hh,hus,hxl,hlc,hcm,hi,hes,hec,hed,hrd⟩:=hb
 have hlv:=je dv
 have hsv:v.cells.size=vs.length:=by rw[← ga,hlv]
 have hpos:l.1+i*t.size+t.size<=us.size:=by
  rw[hus];have:=Ga (k:=t.size) (Nat.lt_of_lt_of_le hi hlc);omega
 have hfit:l.1+i*t.size+off+v.cells.size<=us.size:=by omega
 have hrun:=Hc hh hsz hfit h1
 refine⟨_,hrun,?_⟩
 have c:=cY.setRow w b us (us.toList.take (l.1+i*t.size+off)++v.cells.toList++us.toList.drop (l.1+i*t.size+off+v.cells.size)).toArray E hh
  (by simp only[qY,cA,dA,fy,ga];omega)
 have x:dw A env w A env (w.setRow b (us.toList.take (l.1+i*t.size+off)++v.cells.toList++us.toList.drop (l.1+i*t.size+off+v.cells.size)).toArray) :=
  ⟨λ_ h=>h,λ_ _ _ h=>h,λ_ h=>h,λb' o' hb'=>World.cell?_of_block (a:=⟨b',o',none⟩) (c.blk b' (m.Alt b' hb') (λe'=>(m.live_blk hl he).2 hm0 (e'▸hb'))),c.shape⟩
 have cellAt:∀ p,(us.toList.take (l.1+i*t.size+off)++v.cells.toList++us.toList.drop (l.1+i*t.size+off+v.cells.size)).toArray[p]? =
   if p<l.1+i*t.size+off then us[p]? else if p<l.1+i*t.size+off+vs.length then v.cells[p-(l.1+i*t.size+off)]? else us[p]? := by
  intro p;rw[List.getElem?_toArray,iL,List.getElem?_append];simp only[dA,ga];rw[show min (l.1+i*t.size+off) us.size=l.1+i*t.size+off from by omega];split
  next hp=>rw[qi,am hp,lK]
  .rename_i hp;rw[List.getElem?_append];simp only[ga,hsv];by_cases h2:p<l.1+i*t.size+off+vs.length
   .rw[am (by omega),am h2,lK]
   .rw[af (by omega),af h2,pV,lK];congr 1;omega
 have hblk:jX A env (w.setRow b (us.toList.take (l.1+i*t.size+off)++v.cells.toList++us.toList.drop (l.1+i*t.size+off+v.cells.size)).toArray) b l (.opn E t xs i (qz cs off vs)):=by
  refine⟨_,cap,es.take off++(v.cells.toList++es.drop (off+v.cells.toList.length)),setRow_heap w b us _ E _ hh,?_,hxl,hlc,hcm,hi,?_,λq hq=>?_,tP x _ _ (Ez hed dv),λj hj hij=>?_⟩
  .simp only[qY,cA,dA,fy,ga];omega
  .simp only[cA,dA,fy,ga];omega
  .rw[cellAt];have hecq:=hec q hq;rw[List.getElem?_append];simp only[dA,hes];rw[show min off t.size=off from by omega];by_cases c1:q<off
   .rw[am (by omega),am c1,qi,am c1,hecq]
   .rw[af (by omega),af c1,List.getElem?_append];simp only[ga,hsv];by_cases c2:q<off+vs.length
    .rw[am (by omega),am (by omega),lK];congr 1;omega
    .rw[af (by omega),af (by omega),pV,hecq];congr 1;omega
  .refine ik (λ_ h=>h) x.keep t _ _ _ _ (λq hq=>?_) (hrd j hj hij);rw[cellAt];rcases Nat.lt_or_gt_of_ne hij with hlt|hlt
   .have:=Ga (k:=t.size) hlt;rw[am (by omega)]
   .have:=Ga (k:=t.size) hlt;rw[af (by omega),af (by omega)]
 have u:=mK.write (b' := .opn E t xs i (qz cs off vs)) m hl hm0 he c hblk rfl
 exact⟨(),A,env,trivial,m.upd u,m.ext u,by simp only[Dl.val,az]⟩
theorem am3(m:Mod w0 N0 A env h w)(f:FD A env w ρ a){ty:TypeId}{x y:Operand}(ho:o.op = .store ty x y)
  (e:(J1 P ty (aW ρ x) (aW ρ y)).run h=some (d,r)) (hp:bV d.pre):bj P o a w0 N0 A env h w d:=by
 have dx:=dg f x
 have dy:=dg f y
 have go:∀{b off:Nat}{w':World},a.eval x = .pointer (some ⟨b,off,none⟩)->(storeVar ty ⟨b,off,none⟩ (a.eval y)).run P w = .ok () w'→(execOp a.eval o).run P w = .ok .skip w':=by
  intro b off w' ev hr;unfold execOp;rw[ho];simp only[ev,Instr.storeAt,Instr.sureAddr,Sem.run_bind,Sem.run_pure,Result.andThen_ok,hr]
 unfold J1 at e
 split at e
 next n sz i off hx=>
  rw[hx] at dx;simp only[az] at dx;obtain⟨b,l,he,hil,ev⟩:=dx;rw[← gN] at ev;simp only[Q.run] at e;split at e
  .rename_i p q hk;simp only[bq,br] at e;obtain⟨rfl,rfl⟩:=e;split at hk
   .rename_i E t xs j cs hl;split at hk
    .rename_i vs k hc hn;obtain⟨dv,h1⟩:=Cc hc dy;have hlv:=je dv;split at hk
     .rename_i hb hs1 hle;have hb:k=vs.length:=bG hb;have hs1:sz=t.size:=bG hs1;have hle:off+vs.length<=t.size:=kO hle;subst hs1;cases cz hk;have hij:i=j:=hp.1;subst hij;have hsz:gI P ty=some (a.eval y).cells.size:=by rw[hn,hb,← hlv,ga]
      obtain⟨w',hr,g⟩:=QJ m hl rfl he (m.live_blk hl he).1 dv h1 hsz hle;obtain⟨u,A',env',q1,q2,q3,q4⟩:=g;exact⟨undef,w',.inr ⟨go ev hr,rfl⟩,u,A',env',q1,q2,q3,q4⟩
     .cases hk
    .cases hk
   .rename_i E t xs hl;split at hk
    .rename_i vs k hc hn;split at hk
     .obtain⟨dv,h1⟩:=Cc hc dy;have hlv:=je dv;split at hk
      .rename_i hb hs1 hle;have hb:k=vs.length:=bG hb;have hs1:sz=t.size:=bG hs1;have hle:off+vs.length<=t.size:=kO hle;subst hs1;cases cz hk;have hsz:gI P ty=some (a.eval y).cells.size:=by rw[hn,hb,← hlv,ga]
       obtain⟨w',hr,g⟩:=QJ m hl rfl he (S8 (m.live_blk hl he).1 hil) dv h1 hsz hle;exact⟨undef,w',.inr ⟨go ev hr,rfl⟩,g⟩
      .cases hk
     .exact DE m f ho (by rw[hx];exact hk)
    .cases hk
   .exact DE m f ho (by rw[hx];exact hk)
  .cases e
 .exact DE m f ho e
theorem EH(m:Mod w0 N0 A env h w):∀(cs:List SV){u:List (Nat×Nm)}{r:List Nat},(xB cs).run h=some (u,r)→∃ A',Mod w0 N0 A' env (cZ u h) w/\dw A env w A' env w
 | [],u,r,e=>by
  simp only[xB,Q.run,bq,br] at e;obtain⟨rfl,rfl⟩:=e;exact⟨A,m,dw.refl⟩
 | s::cs,u,r,e=>by
  unfold xB at e;split at e
  next hh=>cases hh
  .rename_i n sz rr hh;cases hh;simp only[Q.run] at e;split at e
   .rename_i p q hk;simp only[bq,br] at e;obtain⟨rfl,rfl⟩:=e;split at hk
    .rename_i E t xs i es hl;obtain⟨⟨d',rest,fz⟩,r1,r2,e1,e2,rfl⟩:=Q.run_bind _ _ _ hk;simp only at e2;split at e2
     .rename_i hr hni;simp only[Q.run,bq,br] at e2;obtain⟨rfl,rfl⟩:=e2;have hni:=Aj hni;have hnm:=m.nm n;rw[hl] at hnm;rcases hnm with⟨k,l,he,hb,hA⟩|⟨_,E',t',hb⟩
      .obtain⟨us,cap,ws,hh,hus,hxl,hlc,hcm,hi,hes,hec,hed,hrd⟩:=id hb;obtain⟨ok,_⟩:=sC m t _ _ d' [] fz r1 e1 hed (A':=gV A env fz) (λb hb=>.inl hb) (λk hk'=>.inr hk');obtain⟨m2,x2⟩:=m.freeze ok;have hl2:cZ fz h n = .live (.opn E t xs i es):=by rw[nY hni];exact hl
       have hrow:nX (gV A env fz) w k l E t (xs.set i d'):=YS (λb hb=>.inl hb) hb (λvs hvs hdv =>
        (sC m t _ _ d' [] fz r1 e1 hdv (A':=gV A env fz) (λb hb=>.inl hb) (λk hk'=>.inr hk')).2.2.2.1)
       have u:=mK.write (b' := .row E t (xs.set i d')) m2 hl2 rfl he (cY.refl w _) hrow rfl;exact⟨gV A env fz,m2.upd u,x2.trans (m2.ext u)⟩
      .rcases hb with hb|hb <;> cases hb
     .cases e2
    .exact EH m cs hk
   .cases e
  next hh=>cases hh;exact EH m cs e
theorem YI(m:Mod w0 N0 A env h w){ty:TypeId}{x:Operand}(φ:Operand->SV)(dx:az A env w (φ x) (a.eval x))(ho:o.op = .load ty x)
  (e:(H8 P ty (φ x)).run h=some (d,r)):bj P o a w0 N0 A env h w d:=by
 have go:∀{b off:Nat}{v:Value},a.eval x = .pointer (some ⟨b,off,none⟩)->(loadVar ty ⟨b,off,none⟩).run P w = .ok v w->(execOp a.eval o).run P w = .ok (.value v) w:=by
  intro b off v ev hr;unfold execOp;rw[ho];simp only[ev,Instr.loadAt,Instr.sureAddr,Sem.run_bind,Sem.run_pure,Result.andThen_ok,hr]
 unfold H8 at e
 split at e
 next n off hx=>
  rw[hx] at dx;simp only[az] at dx;obtain⟨b,l,he,ev⟩:=dx;simp only[Q.run] at e;split at e
  .rename_i p q hk;simp only[bq,br] at e;obtain⟨rfl,rfl⟩:=e;split at hk
   .rename_i E cs hl;split at hk
    next s e1=>obtain⟨u,r1,r2,e2,e3,rfl⟩:=Q.run_bind _ _ _ hk;cases cz e3;obtain⟨⟨vs,hh,hd⟩,_⟩:=m.live_blk hl he;obtain⟨v,hr,hv⟩:=Bx (o:=0) (k:=b) e1 hd (λj hj=>by rw[cell_of_row w b _ vs E (0,0) hh];simp);rw[gh] at hr;obtain⟨A',m',x'⟩:=EH m cs e2;exact⟨v,w,.inl (go ev hr),(),A',env,trivial,m',x',yi x' _ _ hv⟩
    .cases hk
   .cases hk
  .cases e
 .cases e
end
end Go.SX
namespace Go.SX
section
variable {P:Program} {w0:World} {N0:f5} {A:Nat->Prop} {env:aZ} {h:bP} {w:World} {o:Oper} {a:Act} {ρ:Nat->SV} {d:Dl} {r:List Nat}
theorem Bf{k:IntKind}{a:Nat}(b:1<=a):∀(cs:List SV)(vs:List Value)(s:Nat)(l:ae),sW k a cs s=some l->aR A env w cs vs →
  ∀ j,s+j*a<vs.length->vs[s+j*a]? = some (.int k (lP l j))/\k.has (lP l j)
 | c::cs,vs,0,l,e,f,j,d=>by
  obtain⟨v,r,rfl,hv,g⟩:=f;cases c with
  | int k' n =>
   simp only[sW] at e;split at e
   .rename_i l' hk hl;cases e;cases lY hk;cases j with
    | zero=>simp[lP,hv.1,hv.2]
    | succ j =>
     have:=Bf b cs r (a-1) l' hl g j (by simp at d;rw[fS] at d;omega);have e1:0+(j+1)*a=(a-1+j*a)+1:=by rw[fS];omega
     rw[e1,List.getElem?_cons_succ];simpa[lP] using this
   .cases e
  | _=>simp[sW] at e
 | c::cs,vs,s+1,l,e,f,j,d=>by
  obtain⟨v,r,rfl,hv,g⟩:=f;have e':sW k a cs s=some l:=by cases c <;> simpa[sW] using e
  have:=Bf b cs r s l e' g j (by simp at d;omega);grind
theorem aa0(m:Mod w0 N0 A env h w)(f:FD A env w ρ a){t:TypeId}{x i:Operand}(ho:o.op = .index t x i)
  (e:(IV P t (aW ρ x) (aW ρ i)).run h=some (d,r)) (hp:bV d.pre):bj P o a w0 N0 A env h w d:=by
 have u:=dg f x
 have y:=dg f i
 unfold IV at e
 split at e
 next cs ki b len E hx hi hu=>
  rw[hx] at u;rw[hi] at y;obtain⟨vs,ev,j⟩:=u;have hvl:=je j;have c:∀{v:Value}{n:Nat},gI P E=some n->0<=b->b<len->(part E vs (b.toNat*n)).run P w = .ok v w->(execOp a.eval o).run P w = .ok (.value v) w:=by
   intro v n hn h0 h1 hr;unfold execOp;rw[ho];simp only[Instr.index,y.1,ev,asIntOf,Sem.run_bind,Sem.run_pure,Result.andThen_ok,run_underlying hu,Sem.run_ite,am (And.intro h0 h1),kU hn,hr]
  split at e
  .rename_i k hE hsz;split at e
   .rename_i l hc g;have g:cs.length=len:=bG g;cases cz e;simp only[Dl.pre,bV,iu] at hp;obtain⟨z,c2⟩:=Bf (ir 1) cs vs.toList 0 l hc j b.toNat (by omega)
    refine bj.pure m (c hsz hp.1 hp.2 (v := .int k (lP l b.toNat)) ?_) (by simp only[az];exact⟨trivial,c2⟩);have p:vI P E=some false:=by unfold vI;rw[hE]
    have q:vs[b.toNat]? = some (.int k (lP l b.toNat)):=by rw[← lK];simpa using z
    unfold part;simp[Sem.run_bind,Bi p w,q]
   .cases e
  .rename_i E2 hE hsz;split at e
   .rename_i k hE2 hsz2;split at e
    .rename_i B l2 hc1 hc2 g;have g:cs.length=len*2:=bG g;cases cz e;simp only[Dl.pre,bV,iu] at hp;obtain⟨z,c2⟩:=Bf (by decide) cs vs.toList 0 B hc1 j b.toNat (by omega)
     obtain⟨c3,c4⟩:=Bf (by decide) cs vs.toList 1 l2 hc2 j b.toNat (by omega)
     have p:vI P E=some true:=by unfold vI;rw[hE]
     refine bj.pure m (c hsz hp.1 hp.2 (v := .agg (vs.extract (b.toNat*2) (b.toNat*2+2))) ?_) ?_
     .unfold part;simp[Sem.run_bind,Bi p w,kU hsz w]
     .simp only[az,aR];have s:(vs.extract (b.toNat*2) (b.toNat*2+2)).toList=[.int k (lP B b.toNat),.int k (lP l2 b.toNat)]:=by
       apply List.ext_getElem?;grind
      exact⟨_,rfl,_,_,s,⟨rfl,c2⟩,_,_,rfl,⟨rfl,c4⟩,rfl⟩
    .cases e
   .cases e
  .cases e
 .cases e
theorem as1(m:Mod w0 N0 A env h w)(f:FD A env w ρ a){g:FuncId}{b:Array Operand}(ho:o.op = .makeFunc (.func g) #[] b){pre:List Prop} :
  bj P o a w0 N0 A env h w (.det pre (.fn g (b.toList.map (aW ρ))) []):=by
 refine bj.pure m (v := .func (.func g) #[] (b.map a.eval)) ?_ ?_
 .unfold execOp;rw[ho];simp[Instr.makeFunc]
 .simp only[az];refine⟨_,rfl,?_⟩;rw[Array.toList_map];generalize b.toList=l
  induction l with
  | nil=>simp[aR]
  | cons p l ih=>simp;exact⟨_,_,rfl,dg f p,ih⟩
theorem Nz(m:Mod w0 N0 A env h w)(f:FD A env w ρ a){x:Operand}(b:o.op = .move x∨o.op = .assign x){pre:List Prop} :
  bj P o a w0 N0 A env h w (.det pre (aW ρ x) []):=by
 refine bj.pure m ?_ (dg f x)
 unfold execOp
 rcases b with b|b <;> rw[b] <;> rfl
end
abbrev Spec:=Nat->List SV->Q Dl
def oT(P:Program)(G:tx)(f:FuncId)(s:Spec):Prop :=
 ∀(base:Nat)(svs:List SV)(h:bP)(d:Dl)(r:List Nat),(s base svs).run h=some (d,r)->bV d.pre →
  ∀(w0:World)(N0:f5)(A:Nat->Prop)(env:aZ)(w:World)(vs:List Value),N0.g=G->Mod w0 N0 A env h w->aR A env w svs vs →
   Calls P f vs.toArray w (λe w'=>∃ v,e = .returned v/\da w0 N0 A env h w d v w')
def Qk(P:Program)(f:FuncId):Bool:=match P.funcs[f]? with
 | some fn => !(fn.name == "runtime.NumGoroutine") && fn.body.isSome
 | none=>false
structure fi where
 fn:FuncId->Option Spec
 gl:tx
def jm(P:Program)(sp:fi):Prop:=∀ f s,sp.fn f=some s->oT P sp.gl f s
def IZ(P:Program)(sp:fi)(base:Nat)(f:SV)(args:List SV):Q Dl:=match f with
 | .fn g caps=>match Qk P g,sp.fn g with
  | true,some s=>s base (args++caps)
  | _,_ => .fail
 | _ => .fail
def YA(dst:Option Tmp):Nat:=match dst with
 | some d=>(d+1)*16
 | none=>0
def I3(P:Program)(dst:Option Tmp)(b:Builtin)(args:List SV)(ts:List TypeId):Q Dl:=match b,args,ts with
 | .len,[x],[t]=>oU P t x
 | .append,[s,x],[t,t']=>match Nat.beq t t',dst with
  | true,some d=>Be P t ((d+1)*16) s x
  | false,some d=>Jn P t t' ((d+1)*16) s x
  | _,none => .fail
 | .cap,[x],[t]=>uH P t x
 | .min,[x,y],_=>G0 x y
 | .max,[x,y],_=>G7 x y
 | _,_,_ => .fail
def aJ5(sp:fi):Option Tmp->Option Nat
 | some d=>match sp.fn (4000000000+d) with
  | some _=>some d
  | none=>none
 | none=>none
def Zq(sp:fi):Option Tmp->Bool
 | some d=>match sp.fn (4100000000+d) with
  | some _=>true
  | none=>false
 | none=>false
def OJ(sp:fi):Bool:=match sp.fn 4200000000 with
 | some _=>true
 | none=>false
def aM2(sp:fi):Option Tmp->Bool
 | some d=>match sp.fn (4300000000+d) with
  | some _=>true
  | none=>false
 | none=>false
def aH4(sp:fi):Option Tmp->Option Nat
 | some d=>match sp.fn (4400000000+d) with
  | some s=>match s 0 [] with
   | .ask n _=>some n
   | _=>none
  | none=>none
 | none=>none
def Zk(n:Nat)(x:SV):Q Dl:=(xB [.own n 0]).bind λu=>.ret (.det [] x u)
def X2(sp:fi):Option Tmp->Bool
 | some d=>match sp.fn (4500000000+d) with
  | some _=>true
  | none=>false
 | none=>false
def F7(x:SV):Q Dl:=match x with
 | .own n sz => .ask n fun
  | .live (.row E u xs)=>match Nat.beq sz u.size with
   | true => .ret (.det [] (.dsl u xs) [(n,.live (.frz E u xs))])
   | false => .fail
  | _ => .fail
 | .dsl t xs=>ci (.dsl t xs)
 | _ => .fail
def nC(sp:fi)(ρ:Nat->SV)(x:Operand):SV:=match x with
 | .global g=>match sp.gl g with
  | some y => .dptr y.1 y.2 0
  | none => .gl g
 | x=>aW ρ x
def Hb(P:Program)(t:TypeId)(x i:SV):Q Dl:=match x,i,P.underlying t with
 | .agg cs,.int _ i,some (.array len e)=>match gI P e,decide (0<=i)&&decide (i<len) with
  | some n,true=>vL (nR P e cs (i.toNat*n))
  | _,_ => .fail
 | _,_,_ => .fail
def yp(P:Program)(sp:fi)(o:Oper)(ρ:Nat->SV):Q Dl :=
 match o.op with
 | .move x=>match X2 sp o.dst with
  | true=>F7 (aW ρ x)
  | false=>ci (aW ρ x)
 | .assign x=>match aH4 sp o.dst with
  | some n=>Zk n (aW ρ x)
  | none=>ci (aW ρ x)
 | .pick c x y=>Iv (aW ρ c) (aW ρ x) (aW ρ y)
 | .alloc E=>match o.dst with
  | some d=>yW E ((d+1)*16) (zeroCells P E)
  | none => .fail
 | .box E x=>match o.dst with
  | some d=>yW E ((d+1)*16) (wt (aW ρ x))
  | none => .fail
 | .build t ps=>I8 P t (ps.toList.map λp=>(p.1,aW ρ p.2))
 | .buildSlice t n ps=>match o.dst with
  | some d=>G2 P t n ((d+1)*16) (ps.toList.map λp=>(p.1,aW ρ p.2))
  | none => .fail
 | .load t x=>match OJ sp,aM2 sp o.dst with
  | true,true=>H8 P t (nC sp ρ x)
  | true,false=>GY P t (nC sp ρ x)
  | false,_=>B3 P t (nC sp ρ x)
 | .store t x y=>match OJ sp with
  | true=>J1 P t (aW ρ x) (aW ρ y)
  | false=>Ax P t (aW ρ x) (aW ρ y)
 | .nilCheck x=>IP (aW ρ x)
 | .binOp op t x y _=>match P.underlying t with
  | some .string=>GM op (aW ρ x) (aW ρ y)
  | _=>Jo P op t (aW ρ x) (aW ρ y)
 | .unOp op _ x=>IU op (aW ρ x)
 | .convert s t x=>match P.underlying t with
  | some .string=>Gb P s (aW ρ x)
  | _=>GO P s t (aW ρ x)
 | .makeFunc (.func g) fs caps=>match fs.isEmpty with
  | true=>ci (.fn g (caps.toList.map (aW ρ)))
  | false => .fail
 | .makeSlice t l c=>match o.dst with
  | some d=>In P t ((d+1)*16) (aW ρ l) (aW ρ c)
  | none => .fail
 | .slice t x lo hi mx=>match aJ5 sp o.dst with
  | some d=>HN P t ((d+1)*16) (aW ρ x) (lo.map (aW ρ)) (hi.map (aW ρ)) (mx.map (aW ρ))
  | none=>J6 P t (aW ρ x) (lo.map (aW ρ)) (hi.map (aW ρ)) (mx.map (aW ρ))
 | .fieldAddr s x f=>GW P s f (aW ρ x)
 | .field s x f=>JM P s f (aW ρ x)
 | .indexAddr t x i=>match P.underlying t with
  | some (.array _ _)=>Jp P t (nC sp ρ x) (aW ρ i)
  | _=>Gp P t (aW ρ x) (aW ρ i)
 | .index t x i=>match Zq sp o.dst with
  | true=>Hb P t (aW ρ x) (aW ρ i)
  | false=>IV P t (aW ρ x) (aW ρ i)
 | .extract x i=>Jq i (aW ρ x)
 | .makeMap t none=>match o.dst with
  | some d=>IY P t ((d+1)*16)
  | none => .fail
 | .lookup t x i true=>GZ P t (aW ρ x) (aW ρ i)
 | .mapUpdate t x i y=>GJ P t (aW ρ x) (aW ρ i) (aW ρ y)
 | .call {callee := .builtin b,args,argTypes}=>I3 P o.dst b (args.toList.map (aW ρ)) argTypes.toList
 | .call {callee := .value f,args,..}=>IZ P sp (YA o.dst) (aW ρ f) (args.toList.map (aW ρ))
 | _ => .fail
section
variable {P:Program} {sp:fi} {w0:World} {N0:f5} {A:Nat->Prop} {env:aZ} {h:bP} {w:World} {o:Oper} {a:Act} {ρ:Nat->SV} {d:Dl} {r:List Nat}
def BX(P:Program)(o:Oper)(a:Act)(w0:World)(N0:f5)(A:Nat->Prop)(env:aZ)(h:bP)(w:World)(d:Dl):Prop :=
 ∀(K:Act->World->Prop)(Q':Exit->Act->World->Prop),(∀ v w',da w0 N0 A env h w d v w'→K (a.put o.dst v) w')->o.wp P a w K Q'
theorem bj.steps(y:bj P o a w0 N0 A env h w d):BX P o a w0 N0 A env h w d:=by
 intro K Q' hK
 obtain⟨v,w',b,g⟩:=y
 unfold Oper.wp
 rcases b with b|⟨b,rfl⟩ <;> rw[b]
 .exact hK _ _ g
 .exact hK _ _ g
theorem WO(f:FD A env w ρ a)(xs:Array Operand):aR A env w (xs.toList.map (aW ρ)) (xs.map a.eval).toList:=by
 rw[Array.toList_map]
 generalize xs.toList=l
 induction l with
 | nil=>simp[aR]
 | cons p l ih=>simp;exact⟨_,_,rfl,dg f p,ih⟩
theorem Di(hg:N0.g=sp.gl)(m:Mod w0 N0 A env h w)(f:FD A env w ρ a)(x:Operand):az A env w (nC sp ρ x) (a.eval x):=by
 cases x with
 | global g =>
  simp only[nC];cases hy:sp.gl g with
  | none=>simp only[az,Act.eval]
  | some y =>
   obtain⟨h1,h2⟩:=m.gl g y (by rw[hg];exact hy);exact⟨g,0,rfl,h1,h2⟩
 | tmp t=>simp only[nC];exact dg f _
 | const v=>simp only[nC];exact dg f (.const v)
 | func v=>simp only[nC];exact dg f (.func v)
theorem aH6(m:Mod w0 N0 A env h w)(f:FD A env w ρ a){x:Operand}(ho:o.op = .move x)(e:(F7 (aW ρ x)).run h=some (d,r)):bj P o a w0 N0 A env h w d:=by
 have j:=dg f x
 have g:(execOp a.eval o).run P w = .ok (.value (a.eval x)) w:=by unfold execOp;rw[ho];rfl
 unfold F7 at e
 split at e
 next n sz hx=>
  rw[hx] at j;simp only[Q.run] at e;split at e
  .rename_i p q hk;obtain⟨rfl,rfl⟩:=e;split at hk
   .rename_i E u xs hl;split at hk
    .rename_i k;have k:=bG k;cases cz hk;have ok:nQ h [(n,.live (.frz E u xs))]:=by
      intro n' b l;simp_all
     obtain⟨y,x2⟩:=m.freeze ok;refine⟨a.eval x,w,.inl g,(),_,env,trivial,y,x2,?_⟩;rcases j with⟨hnil,pa,ev⟩|⟨b,len,E2,c,l,s,ev⟩
     .have v:xs=[]:=by
       have:=m.nm n;rw[hl] at this;rcases this with⟨k',l',he',_⟩|⟨_,E3,t3,l⟩
       .simp_all
       .grind
      subst v;exact⟨by simp,.inl ⟨⟨pa,ev⟩,rfl⟩⟩
     .have hs:cZ [(n,Nm.live (lD.frz E u xs))] h n = .live (.frz E u xs):=by simp[cZ]
      have i:=(y.live_blk hs l).1;rw[ev,k];exact D4 (λ_ h=>h) i.2 i.1 s
    .cases hk
   .cases hk
  .cases e
 next t xs hx=>rw[hx] at j;cases cz e;exact bj.pure m g j
 .cases e
theorem UH(m:Mod w0 N0 A env h w)(f:FD A env w ρ a){t:TypeId}{x i:Operand}(ho:o.op = .index t x i)
  (e:(Hb P t (aW ρ x) (aW ρ i)).run h=some (d,r)):bj P o a w0 N0 A env h w d:=by
 have c:=dg f x
 have g:=dg f i
 unfold Hb at e
 split at e
 next cs ki iv len E hx hi hu=>
  rw[hx] at c;rw[hi] at g;obtain⟨vs,ev,dv⟩:=c;split at e
  next n hn b=>simp at b;obtain⟨sv,e1,rfl⟩:=xu e;obtain⟨v,hr,hd⟩:=CN e1 dv;refine bj.pure m ?_ hd;unfold execOp;rw[ho];simp only[Instr.index,g.1,ev,asIntOf,Sem.run_bind,Sem.run_pure,Result.andThen_ok,run_underlying hu,Sem.run_ite,am (And.intro b.1 b.2),kU hn,hr]
  .cases e
 .cases e
theorem ZA(p:jm P sp/\N0.g=sp.gl)(m:Mod w0 N0 A env h w)(f:FD A env w ρ a){g:Operand}{args:Array Operand}{ts:Array TypeId}{c:Nat}(ho:o.op = .call {callee := .value g,args,argTypes:=ts})
  (e:(IZ P sp c (aW ρ g) (args.toList.map (aW ρ))).run h=some (d,r)) (hp:bV d.pre):(∃ v l,da w0 N0 A env h w d v l)/\BX P o a w0 N0 A env h w d:=by
 have q:=dg f g
 unfold IZ at e
 split at e
 next gi caps hg=>
  split at e
  .rename_i s k hsp;rw[hg] at q;obtain⟨vs,ev,dv⟩:=q;have b:=p.1 gi s hsp c _ h d r e hp w0 N0 A env w _ p.2 m (tB (WO f args) dv);refine⟨?_,λK Q' hK=>?_⟩
   .obtain⟨e',l,fr,⟨v,_,g⟩,_⟩:=b [];exact⟨v,l,g⟩
   unfold Oper.wp execOp;rw[ho];unfold Qk at k;split at k
   .rename_i t n;simp only[dM,rP] at k;have i:t.body.isNone=false:=by cases hfb:t.body <;> simp_all
    simp only[resolve,Deferred.ofValue,ev,Sem.run_bind,Sem.run_pure,Result.andThen_ok,invoke,callFunc,run_program,n,k.1,i,BN,if_false,Array.empty_append,Oper.upon];have j:((Array.map a.eval args).toList++vs.toList).toArray=Array.map a.eval args++vs:=by apply Array.ext';simp
    rw[j] at b;refine b.mono ?_;simp_all
   .cases k
  .cases e
 .cases e
theorem AH{v:SV}(e:(ci v).run h=some (d,r)):d = .det [] v []:=(cz e).symm
theorem Po(q:jm P sp/\N0.g=sp.gl)(m:Mod w0 N0 A env h w)(f:FD A env w ρ a)
  (e:(yp P sp o ρ).run h=some (d,r)) (k:bV d.pre):(∃ v z,da w0 N0 A env h w d v z)/\BX P o a w0 N0 A env h w d:=by
 have j:bj P o a w0 N0 A env h w d->(∃ v z,da w0 N0 A env h w d v z)/\BX P o a w0 N0 A env h w d:=λy=>by
  have y':=y;obtain⟨v,z,hr,g⟩:=y';exact⟨⟨v,z,g⟩,y.steps⟩
 unfold yp at e
 split at e
 next x ho=>
  split at e
  .exact j (aH6 m f ho e)
  .rw[AH e];rw[AH e] at j;exact j (Nz m f (.inl ho))
 next x ho=>
  split at e
  .obtain⟨u,r1,r2,e2,e3,rfl⟩:=Q.run_bind _ _ _ e;cases cz e3;obtain⟨A',m',I⟩:=EH m _ e2;refine j ⟨a.eval x,w,.inl ?_,(),A',env,trivial,m',I,yi I _ _ (dg f x)⟩;unfold execOp;rw[ho];rfl
  .rw[AH e];rw[AH e] at j;exact j (Nz m f (.inr ho))
 next c x y ho=>exact j (Yz m f ho e k)
 next E ho=>
  split at e
  .exact j (Vi m ho e)
  .cases e
 next E x ho=>
  split at e
  .exact j (Ti m f ho e)
  .cases e
 next t ps ho=>exact j (Vo m f ho e)
 next t n ps ho=>
  split at e
  .exact j (XV m f ho e)
  .cases e
 next t x ho=>
  split at e
  .exact j (YI m (nC sp ρ) (Di q.2 m f x) ho e)
  .exact j (VH m (nC sp ρ) (Di q.2 m f x) ho e k)
  .exact j (G9 m (nC sp ρ) (Di q.2 m f x) ho e)
 next t x y ho=>
  split at e
  .exact j (am3 m f ho e k)
  .exact j (DE m f ho e)
 next x ho=>exact j (VR m f ho e)
 next op t x y yt ho=>
  split at e
  next D=>exact j (SJ m f ho D e)
  .exact j (Zx m f ho e k)
 next op t x ho=>exact j (Xe m f ho e k)
 next s t x ho=>
  split at e
  next D=>exact j (UQ m f ho D e)
  .exact j (aE5 m f ho e k)
 next g fs caps ho=>
  split at e
  .rename_i F;have:fs = #[]:=by simpa using F
   subst this;rw[AH e];rw[AH e] at j;exact j (as1 m f ho)
  .cases e
 next t l c ho=>
  split at e
  .exact j (ap0 m f ho e k)
  .cases e
 next t x lo hi mx ho=>
  split at e
  .exact j (aq9 m f ho e k)
  .exact j (ZG m f ho e k)
 next s x i ho=>exact j (Wz m f ho e)
 next s x i ho=>exact j (an2 m f ho e)
 next t x i ho=>
  split at e
  .exact j (Y3 m f (nC sp ρ) (Di q.2 m f x) ho e)
  .exact j (aC2 m f ho e k)
 next t x i ho=>
  split at e
  .exact j (UH m f ho e)
  .exact j (aa0 m f ho e k)
 next x i ho=>exact j (af7 m f ho e)
 next t ho=>
  split at e
  .exact j (as6 m ho e)
  .cases e
 next t x i ho=>exact j (aJ8 m f ho e)
 next t x i y ho=>exact j (WU m f ho e)
 next b args ts ho=>
  obtain⟨al⟩:=args;obtain⟨B⟩:=ts;have p:(I3 P o.dst b (al.map (aW ρ)) B).run h=some (d,r):=e;cases b
  case len =>
   match al,B with
   | [C],[G]=>exact j (Tt m f ho p)
  case cap =>
   match al,B with
   | [C],[G]=>exact j (U0 m f ho p)
  case append =>
   match al,B with
   | [C,J],[G,t2] =>
    simp only[List.map,I3] at p;split at p
    next dd H _=>have H:G=t2:=bG H;subst H;exact j (Ro m f ho p k)
    .exact j (VB m f ho p k)
    .cases p
  case min =>
   match al with
   | [C,J]=>exact j (aw8 m f ho p)
  case max =>
   match al with
   | [C,J]=>exact j (YW m f ho p)
  all_goals (cases p)
 next g args ts ho=>exact ZA q m f ho e k
 .cases e
end
end Go.SX
namespace Go.SX
def dX(sl:List SV)(i:Nat):SV:=match nA sl i with
 | some v=>v
 | none => .junk
structure FS where
 sl:List SV
 h:bP
def Cp:SV->SV
 | .opt _ v=>v
 | v=>v
def JL(g:Bool):SV->List Prop
 | .opt b _=>[g=true->b=true]
 | _=>[]
def uF:List Operand->List Nat
 | []=>[]
 | .tmp t::r=>t::uF r
 | _::r=>uF r
def oM(n:Nat):List Nat->Bool
 | []=>false
 | m::r=>Nat.beq n m||oM n r
theorem wQ{n:Nat}:∀{l:List Nat},oM n l=true↔n∈l
 | []=>by simp[oM]
 | m::r=>by simp[oM,wQ (l:=r)]
def uO(o:Oper):List Nat:=match o.op with
 | .pick (.tmp c) _ _=>[c]
 | .pick _ _ _=>[]
 | op=>uF op.operands.toList
inductive GV where
 | always
 | cond (g:Bool)
 | unknown
abbrev Ln(b want:Bool):Bool:=match want with
 | true=>b
 | false => !b
def xn(ops:List Oper)(sl:List SV):Option (Nat×Bool)->GV
 | none => .always
 | some (j,want)=>match nA ops j with
  | some oj=>match oj.dst with
   | some d=>match dX sl d with
    | .bool b => .cond (Ln b want)
    | .opt g (.bool b) => .cond (g&&Ln b want)
    | v=>match Et v with
     | true => .cond false
     | false => .unknown
   | none => .unknown
  | none => .unknown
inductive iV:Type 1 where
 | go (d:Dl)
 | split (g:Bool) (d:Dl)
def rA(g:Bool)(sl:List SV):List Nat->List Prop
 | []=>[]
 | i::r=>JL g (dX sl i)++rA g sl r
def Cb:List Prop->Bool->List Prop
 | [],_=>[]
 | l,g=>[g=true->bV l]
def O5(g:Bool)(pu:List Prop)(d:Dl):Q iV:=match d with
 | .det pre v [] => .ret (.go (.det (Cb (pu++pre) g) (.opt g v) []))
 | .det pre v upd => .ret (.split g (.det (pu++pre) v upd))
 | .nd X qn pre R inh v upd => .ret (.split g (.nd X qn (pu++pre) R (λh=>inh (qm.1 h).2) v upd))
def BZ(sl:List SV):List Nat->Bool
 | []=>false
 | i::r=>Et (dX sl i)||BZ sl r
def m3(P:Program)(sp:fi)(ops:List Oper)(o:Oper)(sl:List SV):Q iV:=match xn ops sl o.guard with
 | .always=>(yp P sp o (dX sl)).bind λd=>.ret (.go d)
 | .cond g=>match BZ sl (uO o) with
  | true => .ret (.go (.det [g=false] (.cv undef) []))
  | false=>(yp P sp o (λi=>match oM i (uO o) with|true=>Cp (dX sl i)|false=>dX sl i)).bind (O5 g (rA g sl (uO o)))
 | .unknown => .fail
def jH(sl:List SV)(dst:Option Tmp)(v:SV):List SV:=match dst with
 | some d=>sl.set d v
 | none=>sl
def FS.app(F:FS)(dst:Option Tmp)(d:Dl)(x:d.X):FS:=⟨jH F.sl dst (d.val x),d.hp x F.h⟩
def FS.skip(F:FS)(dst:Option Tmp):FS:=⟨jH F.sl dst (.cv undef),F.h⟩
def lM(st:iV)(dst:Option Tmp)(F F':FS):Prop:=match st with
 | .go d=>∃ x,d.R x/\F'=F.app dst d x
 | .split g d=>(g=true∧∃ x,d.R x/\F'=F.app dst d x)∨(g=false/\F'=F.skip dst)
def iV.pre:iV->Prop
 | .go d=>bV d.pre
 | .split g d=>g=true->bV d.pre
def iV.wr:iV->List Nat
 | .go d=>d.wr
 | .split _ d=>d.wr
structure ij (w0:World) (N0:f5) (A:Nat->Prop) (env:aZ) (F:FS) (a:Act) (w:World):Prop where
 m:Mod w0 N0 A env F.h w
 len:F.sl.length<=a.tmps.size
 f:FD A env w (dX F.sl) a
 dfr:a.defers=[]
section
variable {P:Program} {sp:fi} {w0:World} {N0:f5} {A:Nat->Prop} {env:aZ} {F F':FS} {w:World} {o:Oper} {a:Act} {st:iV} {r:List Nat}
theorem Lu{sl:List SV}{d i:Nat}{v:SV}:dX (sl.set d v) i=if i=d/\d<sl.length then v else dX sl i:=by
 unfold dX
 simp only[vR,List.getElem?_set]
 by_cases h:d=i
 .subst h;by_cases h2:d<sl.length
  .simp[h2]
  .simp[h2]
 .have:¬ i=d:=λe=>h e.symm;simp[h,this]
theorem MX{A':Nat->Prop}{env':aZ}{w':World}{sl:List SV}{v:SV}{u:Value}(len:sl.length<=a.tmps.size)(f:FD A env w (dX sl) a)(x:dw A env w A' env' w')(dst:Option Tmp)
  (hd:az A' env' w' v u):FD A' env' w' (dX (jH sl dst v)) (a.put dst u):=by
 intro i
 cases dst with
 | none=>exact yi x _ _ (f i)
 | some d =>
  simp only[jH,Act.put];rw[Lu];split
  .rename_i h;obtain⟨rfl,h⟩:=h;have hi:i<a.tmps.size:=by omega
   simp only[qJ,Array.getElem?_setIfInBounds_self_of_lt hi,f9];exact hd
  .rename_i h;by_cases hid:i=d
   .subst hid;have:¬ i<sl.length:=λhh=>h ⟨rfl,hh⟩;have:dX sl i = .junk:=by unfold dX;rw[vR,yb (by omega)]
    rw[this];simp only[az]
   .have h2:=yi x _ _ (f i);simp only[qJ] at h2 ⊢;rw[yP (λe=>hid e.symm)];exact h2
theorem Ol(a:Act)(dst:Option Tmp)(v:Value):(a.put dst v).tmps.size=a.tmps.size:=by cases dst <;> simp[Act.put]
theorem O1(a:Act)(dst:Option Tmp)(v:Value):(a.put dst v).defers=a.defers:=by cases dst <;> rfl
theorem O7(sl:List SV)(dst:Option Tmp)(v:SV):(jH sl dst v).length=sl.length:=by cases dst <;> simp[jH]
theorem ij.app(t:ij w0 N0 A env F a w){d:Dl}{v:Value}{w':World}(g:da w0 N0 A env F.h w d v w')(dst:Option Tmp) :
  ∃ x A' env',d.R x/\ij w0 N0 A' env' (F.app dst d x) (a.put dst v) w'∧dw A env w A' env' w':=by
 obtain⟨x,A',env',hR,m',e',hd⟩:=g
 exact⟨x,A',env',hR,⟨m',by simp only[FS.app,O7,Ol];exact t.len,MX t.len t.f e' dst hd,by rw[O1];exact t.dfr⟩,e'⟩
theorem ij.skip(t:ij w0 N0 A env F a w)(dst:Option Tmp):ij w0 N0 A env (F.skip dst) (a.put dst undef) w :=
 ⟨t.m,by simp only[FS.skip,O7,Ol];exact t.len,MX t.len t.f dw.refl dst (by simp only[az]),by rw[O1];exact t.dfr⟩
theorem aL5(a:Act){ops:Array Oper}(h:o.guard=none):Region.wanted o (yielded ops a.tmps)=true:=by simp[Region.wanted,h]
theorem aD3(t:ij w0 N0 A env F a w){ops:Array Oper}{g:Bool}(e:xn ops.toList F.sl o.guard = .cond g) :
  Region.wanted o (yielded ops a.tmps)=g:=by
 unfold xn at e
 split at e
 .cases e
 next j want hg=>
  have hw:Region.wanted o (yielded ops a.tmps)=(yielded ops a.tmps j == some want):=by simp[Region.wanted,hg]
  split at e
  .rename_i oj hj;split at e
   .rename_i d hd;have hj':ops[j]? = some oj:=by rw[vR,lK] at hj;exact hj
    have hy:yielded ops a.tmps j=match a.tmps[d]? with|some (.bool b)=>some b|_=>none:=by
     unfold yielded;rw[hj'];simp only[Option.bind_some,hd];rfl
    have hfd:=t.f d;have getIt:∀{v:Value},a.tmps.getD d undef=v->v≠undef->a.tmps[d]? = some v:=by
     intro v hv hne;rw[qJ] at hv;cases hx:a.tmps[d]? with
     | none=>rw[hx] at hv;exact absurd hv.symm hne
     | some u=>rw[hx] at hv;simp only[f9] at hv;rw[hv]
    rw[hw,hy];split at e
    next b hb=>cases e;rw[hb] at hfd;simp only[az] at hfd;rw[getIt hfd (by simp[undef])];cases b <;> cases want <;> rfl
    .rename_i g' b hb;cases e;rw[hb] at hfd;cases g' with
     | true =>
      simp only[az] at hfd;rw[getIt hfd (by simp[undef])];cases b <;> cases want <;> rfl
     | false =>
      simp only[az] at hfd;rw[qJ] at hfd;cases hx:a.tmps[d]? with
      | none=>rfl
      | some u=>rw[hx] at hfd;simp only[f9] at hfd;subst hfd;rfl
    .rename_i hv1 hv2;split at e
     .rename_i hun;cases e;have hun':∃ vs,dX F.sl d = .cv (.tuple vs)/\vs.isEmpty=true:=by
       generalize dX F.sl d=v at hun;unfold Et at hun;split at hun
       next vs=>exact⟨vs,rfl,hun⟩
       .cases hun
      obtain⟨vs,h1,h2⟩:=hun';rw[h1] at hfd;simp only[az] at hfd;rw[qJ] at hfd;cases hx:a.tmps[d]? with
      | none=>rfl
      | some u=>rw[hx] at hfd;simp only[f9] at hfd;subst hfd;rfl
     .cases e
   .cases e
  .cases e
theorem Se{g:Bool}{sl:List SV}:∀{l:List Nat},bV (rA g sl l)→∀ i∈l,bV (JL g (dX sl i))
 | [],_,i,hi=>by simp at hi
 | j::r,h,i,hi=>by
  simp only[rA,qm] at h;rcases dK.1 hi with rfl|hi
  .exact h.1
  .exact Se h.2 i hi
theorem Vs(f:FD A env w (dX F.sl) a){l:List Nat}(hp:bV (rA true F.sl l)) :
  FD A env w (λi=>match oM i l with|true=>Cp (dX F.sl i)|false=>dX F.sl i) a:=by
 intro i
 show az A env w (match oM i l with|true=>Cp (dX F.sl i)|false=>dX F.sl i) _
 cases hm:oM i l with
 | false=>exact f i
 | true =>
  have:=Se hp i (wQ.1 hm);have hf:=f i;show az A env w (Cp (dX F.sl i)) _;generalize dX F.sl i=v at *;cases v with
  | opt b v =>
   have hb:b=true:=by simpa[JL,bV] using this
   subst hb;simpa only[Cp,az] using hf
  | _=>exact hf
theorem ag2{l:List Prop}{g:Bool}(h:bV (Cb l g))(hg:g=true):bV l:=by
 cases l with
 | nil=>trivial
 | cons p l=>simp only[Cb,bV,iu] at h;exact h hg
theorem HP(hs:jm P sp/\N0.g=sp.gl)(t:ij w0 N0 A env F a w){ops:Array Oper}(e:(m3 P sp ops.toList o F.sl).run F.h=some (st,r))(hp:st.pre) :
  (∃ F',lM st o.dst F F'∧∃ A' env' a' w',ij w0 N0 A' env' F' a' w'∧dw A env w A' env' w') ∧
  ∀(K:Act->World->Prop)(Q':Exit->Act->World->Prop),(∀ F' A' env' a' w',lM st o.dst F F'→ij w0 N0 A' env' F' a' w'→dw A env w A' env' w'→K a' w') →
   if Region.wanted o (yielded ops a.tmps) then o.wp P a w K Q'∨(o.asks P a w/\LetsOut Q') else K (a.put o.dst undef) w:=by
 unfold m3 at e
 split at e
 next hg=>
  obtain⟨d,r1,r2,e1,e2,rfl⟩:=Q.run_bind _ _ _ e;simp only[Q.run,bq,br] at e2;obtain⟨rfl,rfl⟩:=e2;obtain⟨⟨v,w',g⟩,hst⟩:=Po hs t.m t.f e1 hp;have hgn:o.guard=none:=by
   unfold xn at hg;split at hg
   .assumption
   .split at hg
    .split at hg
     .split at hg
      .cases hg
      .cases hg
      .split at hg <;> cases hg
     .cases hg
    .cases hg
  refine⟨?_,λK Q' hK=>?_⟩
  .obtain⟨x,A',env',hR,t',x'⟩:=t.app g o.dst;exact⟨_,⟨x,hR,rfl⟩,A',env',_,_,t',x'⟩
  .rw[aL5 a hgn];refine .inl (hst K Q' λv w' g=>?_);obtain⟨x,A',env',hR,t',x'⟩:=t.app g o.dst;exact hK _ _ _ _ _ ⟨x,hR,rfl⟩ t' x'
 next g hg=>
  have hwant:=aD3 t hg;split at e
  .simp only[Q.run,bq,br] at e;obtain⟨rfl,rfl⟩:=e;simp only[iV.pre,Dl.pre,bV,iu] at hp;rw[hwant];subst hp;have gd:da w0 N0 A env F.h w (.det [false=false] (.cv undef) []) undef w :=
    ⟨(),A,env,trivial,t.m,dw.refl,by simp only[Dl.val,az]⟩
   obtain⟨x,A',env',hR,t',x'⟩:=t.app gd o.dst;refine⟨⟨_,⟨x,hR,rfl⟩,A',env',_,_,t',x'⟩,λK Q' hK=>?_⟩;rw[af (by simp)];exact hK _ _ _ _ _ ⟨x,hR,rfl⟩ t' x'
  obtain⟨d,r1,r2,e1,e2,rfl⟩:=Q.run_bind _ _ _ e;rw[hwant];have yes:g=true->bV (rA g F.sl (uO o))->bV d.pre->(∃ v w',da w0 N0 A env F.h w d v w')/\BX P o a w0 N0 A env F.h w d:=by
   rintro rfl h1 h2;exact Po hs t.m (Vs t.f h1) e1 h2
  have splitCase:∀ d',st = .split g d'→d'.X=d.X->(∀(h1:bV d'.pre),bV (rA g F.sl (uO o))/\bV d.pre) →
    (∀ v w',da w0 N0 A env F.h w d v w'→da w0 N0 A env F.h w d' v w') →
    (∃ F',lM st o.dst F F'∧∃ A' env' a' w',ij w0 N0 A' env' F' a' w'∧dw A env w A' env' w') ∧
    ∀(K:Act->World->Prop)(Q':Exit->Act->World->Prop),(∀ F' A' env' a' w',lM st o.dst F F'→ij w0 N0 A' env' F' a' w'→dw A env w A' env' w'→K a' w') →
     if g=true then o.wp P a w K Q'∨(o.asks P a w/\LetsOut Q') else K (a.put o.dst undef) w:=by
   rintro d' rfl _ hpre hgood;cases g with
   | true =>
    obtain⟨h1,h2⟩:=hpre (hp rfl);obtain⟨⟨v,w',gd⟩,hst⟩:=yes rfl h1 h2;refine⟨?_,λK Q' hK=>?_⟩
    .obtain⟨x,A',env',hR,t',x'⟩:=t.app (hgood _ _ gd) o.dst;exact⟨_,.inl ⟨rfl,x,hR,rfl⟩,A',env',_,_,t',x'⟩
    .rw[am rfl];refine .inl (hst K Q' λv w' gd=>?_);obtain⟨x,A',env',hR,t',x'⟩:=t.app (hgood _ _ gd) o.dst;exact hK _ _ _ _ _ (.inl ⟨rfl,x,hR,rfl⟩) t' x'
   | false =>
    refine⟨⟨_,.inr ⟨rfl,rfl⟩,A,env,_,_,t.skip o.dst,dw.refl⟩,λK Q' hK=>?_⟩;rw[af (by simp)];exact hK _ _ _ _ _ (.inr ⟨rfl,rfl⟩) (t.skip o.dst) dw.refl
  unfold O5 at e2;split at e2
  .rename_i pre v;simp only[Q.run,bq,br] at e2;obtain⟨rfl,rfl⟩:=e2;simp only[iV.pre,Dl.pre] at hp;cases g with
   | true =>
    have h12:=ag2 hp rfl;rw[qm] at h12;obtain⟨⟨u,w',gd⟩,hst⟩:=yes rfl h12.1 h12.2;have conv:∀ u w',da w0 N0 A env F.h w (.det pre v []) u w'→da w0 N0 A env F.h w (.det (Cb (rA true F.sl (uO o)++pre) true) (.opt true v) []) u w':=by
     rintro u w' ⟨x,A',env',hR,m',x',hd⟩;exact⟨(),A',env',trivial,m',x',by simpa only[Dl.val,az] using hd⟩
    refine⟨?_,λK Q' hK=>?_⟩
    .obtain⟨x,A',env',hR,t',x'⟩:=t.app (conv _ _ gd) o.dst;exact⟨_,⟨x,hR,rfl⟩,A',env',_,_,t',x'⟩
    .rw[am rfl];refine .inl (hst K Q' λv w' gd=>?_);obtain⟨x,A',env',hR,t',x'⟩:=t.app (conv _ _ gd) o.dst;exact hK _ _ _ _ _ ⟨x,hR,rfl⟩ t' x'
   | false =>
    have gd:da w0 N0 A env F.h w (.det (Cb (rA false F.sl (uO o)++pre) false) (.opt false v) []) undef w :=
     ⟨(),A,env,trivial,t.m,dw.refl,by simp only[Dl.val,az]⟩
    obtain⟨x,A',env',hR,t',x'⟩:=t.app gd o.dst;refine⟨⟨_,⟨x,hR,rfl⟩,A',env',_,_,t',x'⟩,λK Q' hK=>?_⟩;rw[af (by simp)];exact hK _ _ _ _ _ ⟨x,hR,rfl⟩ t' x'
  next pre v upd _=>simp only[Q.run,bq,br] at e2;obtain⟨rfl,rfl⟩:=e2;exact splitCase _ rfl rfl (λh1=>by simpa only[Dl.pre,qm] using h1) (λu w' ⟨x,A',env',hR,m',x',hd⟩=>⟨(),A',env',trivial,m',x',hd⟩)
  next X pre R inh v upd=>simp only[Q.run,bq,br] at e2;obtain⟨rfl,rfl⟩:=e2;exact splitCase _ rfl rfl (λh1=>by simpa only[Dl.pre,qm] using h1) (λu w' ⟨x,A',env',hR,m',x',hd⟩=>⟨x,A',env',hR,m',x',hd⟩)
 .cases e
end
end Go.SX
namespace Go.SX
def we:Option Tmp->List Nat
 | some d=>[d]
 | none=>[]
def tz(wr:List Nat)(h:bP):bP:=λn=>match oM n wr with
 | true=>h n
 | false => .un
theorem at5{wr:List Nat}{h:bP}{n:Nat}(hn:n∈wr):tz wr h n=h n:=by unfold tz;rw[wQ.2 hn]
theorem XS{wr:List Nat}{h h':bP}(e:∀ n∈wr,h' n=h n):tz wr h'=tz wr h:=by
 funext n
 unfold tz
 split
 next hm=>exact e n (wQ.1 hm)
 .rfl
structure nW where
 rd:List Nat
 wr:List Nat
 srd:List Nat
 swr:List Nat
 q:Q iV
 st:iV
 old:bP
def jl(P:Program)(sp:fi)(ops:Array Oper)(o:Oper)(st:iV)(r:List Nat)(F:FS):nW:=⟨r,st.wr,o.looksAt ops,we o.dst,m3 P sp ops.toList o F.sl,st,tz st.wr F.h⟩
def oJ:List Nat->List Nat->Bool
 | [],_=>true
 | a::r,l => !oM a l&&oJ r l
theorem qk:∀{l m:List Nat},oJ l m=true→∀ n∈l,n ∉ m
 | [],m,_,n,hn=>by simp at hn
 | a::r,m,h,n,hn=>by
  simp only[oJ,dM,rP] at h;rcases dK.1 hn with rfl|hn
  .intro hm;rw[wQ.2 hm] at h;exact absurd h.1 (by simp)
  .exact qk h.2 n hn
def H9(s t:nW):Bool:=oJ s.wr t.rd&&oJ s.wr t.wr&&oJ t.wr s.rd&&oJ s.swr t.srd&&oJ s.swr t.swr&&oJ t.swr s.srd
def Kl(s t:nW):Prop:=∃ pre v u,s.st = .go (.det pre v u)/\(∀ n∈t.rd,n∈s.wr)/\t.q.run s.old=some (t.st,t.rd)/\t.q.run (cZ u s.old)=some (t.st,t.rd)
structure tM (s t:nW):Prop where
 a:(∀ n∈s.wr,n ∉ t.rd)∨Kl s t
 b:∀ n∈s.wr,n ∉ t.wr
 c:(∀ n∈t.wr,n ∉ s.rd)∨Kl t s
 d:∀ n∈s.swr,n ∉ t.srd
 e:∀ n∈s.swr,n ∉ t.swr
 f:∀ n∈t.swr,n ∉ s.srd
theorem tM.symm{s t:nW}(h:tM s t):tM t s:=⟨h.c,λn hn hm=>h.b n hm hn,h.a,h.f,λn hn hm=>h.e n hm hn,h.d⟩
theorem aj9{s t:nW}(h:H9 s t=true):tM s t:=by
 simp only[H9,dM] at h
 obtain⟨⟨⟨⟨⟨h1,h2⟩,h3⟩,h4⟩,h5⟩,h6⟩:=h
 exact⟨.inl (qk h1),qk h2,.inl (qk h3),qk h4,qk h5,qk h6⟩
def tc:List Nat->Nat->Nat
 | [],_=>0
 | m::_,0=>m
 | _::r,n+1=>tc r n
theorem IT:∀(l:List Nat)(n:Nat),tc l n=l.getD n 0
 | [],n=>by simp[tc]
 | m::r,0=>rfl
 | m::r,n+1=>by simp[tc,IT r n]
def zA(tbl:List Nat):List Edge->Nat
 | []=>0
 | e::r=>match Region.binds .any e with
  | true=>(1 <<< e.on) ||| (tc tbl e.on ||| zA tbl r)
  | false=>zA tbl r
def D2:List Oper->List Nat->List Nat
 | [],tbl=>tbl
 | o::r,tbl=>D2 r (tbl++[zA tbl o.after.toList])
def Ai(msk:List Nat)(i j:Nat):Bool:=(tc msk j).testBit i
inductive r6 (ops:Array Oper):Nat->Nat->Prop where
 | edge {i j:Nat} {o:Oper} {e:Edge} (ho:ops[j]? = some o) (he:e∈o.after) (hb:Region.binds .any e=true) (hi:e.on=i):r6 ops i j
 | step {i j:Nat} {o:Oper} {e:Edge} (ho:ops[j]? = some o) (he:e∈o.after) (hb:Region.binds .any e=true) (h:r6 ops i e.on):r6 ops i j
theorem YG(n i:Nat)(h:(1 <<< n).testBit i=true):i=n:=by
 rw[Nat.testBit_shiftLeft] at h
 simp only[dM,mh] at h
 have h2:=h.2
 by_cases hz:i-n=0
 .omega
 .have:Nat.testBit 1 (i-n)=false:=by
   cases hk:i-n with
   | zero=>exact absurd hk hz
   | succ k=>simp[Nat.testBit_succ]
  rw[this] at h2;cases h2
theorem FV{ops:Array Oper}{tbl:List Nat}{j i:Nat}{o:Oper}(ho:ops[j]? = some o)(ht:∀ k,(tc tbl k).testBit i=true->r6 ops i k) :
  ∀(es:List Edge),(∀ e∈es,e∈o.after)->(zA tbl es).testBit i=true->r6 ops i j
 | [],_,h=>by simp[zA] at h
 | e::r,hm,h=>by
  simp only[zA] at h;split at h
  .rename_i hb;simp only[Nat.testBit_or,px] at h;rcases h with h|h|h
   .exact .edge ho (hm e (by simp)) hb (YG _ _ h).symm
   .exact .step ho (hm e (by simp)) hb (ht _ h)
   .exact FV ho ht r (λe he=>hm e (fM _ he)) h
  .exact FV ho ht r (λe he=>hm e (fM _ he)) h
theorem Qr{ops:Array Oper}:∀(l:List Oper)(k:Nat)(tbl:List Nat),(∀ j,l[j]? = ops[k+j]?)->tbl.length=k->(∀ i j,(tc tbl j).testBit i=true->r6 ops i j) →
  ∀ i j,(tc (D2 l tbl) j).testBit i=true->r6 ops i j
 | [],k,tbl,_,_,h=>h
 | o::l,k,tbl,hl,ht,h=>by
  have h0:ops[k]? = some o:=by simpa using (hl 0).symm
  refine Qr l (k+1) _ (λj=>by have:=hl (j+1);simpa[gN,uP 1 j] using this) (by simp[ht]) ?_;intro i j hb;rw[IT,bJ] at hb;by_cases hj:j<tbl.length
  .rw[lF hj,← bJ,← IT] at hb;exact h i j hb
  .by_cases hj2:j=tbl.length
   .subst hj2;simp only[kw (ir _),Nat.sub_self,List.getElem?_cons_zero,f9] at hb;exact FV (ht▸h0) (λk hk=>h i k hk) _ (λe he=>by simpa using he) hb
   .rw[kw (by omega),yb (by simp;omega)] at hb;simp at hb
abbrev pB:=List (Nat×nW)
def Fb(msk:List Nat)(i:Nat)(t:nW)(l:pB):Prop:=∀ p∈l,Ai msk p.1 i=true∨tM p.2 t
section
variable (P:Program) (sp:fi) (ops:Array Oper) (msk:List Nat)
def rR(i:Nat)(log:pB)(K:pB->FS->Prop)(F:FS):Prop :=
 match ops[i]? with
 | none=>K log F
 | some o=>∃ st r,(m3 P sp ops.toList o F.sl).run F.h=some (st,r)/\st.pre/\Fb msk i (jl P sp ops o st r F) log ∧
   ∀ F',lM st o.dst F F'→K ((i,jl P sp ops o st r F)::log) F'
def vF(K:FS->Prop):Nat->Array Bool->pB->FS->Prop
 | 0,listed,log,F=>Region.ready .any ops listed=[]/\K F
 | n+1,listed,log,F=>(Region.ready .any ops listed=[]->K F) ∧
   ∀ i∈Region.ready .any ops listed,rR P sp ops msk i log (λlog' F'=>vF K n (listed.setIfInBounds i true) log' F') F
def vV(K:FS->Prop):List Oper->Nat->pB->FS->Prop
 | [],_,_,F=>K F
 | _::l,k,log,F=>rR P sp ops msk k log (λlog' F'=>vV K l (k+1) log' F') F
end
section
variable {P:Program} {sp:fi} {ops:Array Oper} {msk:List Nat} {w0:World} {N0:f5} {K:FS->Prop}
theorem JA:∀(n:Nat)(listed:Array Bool)(log log':pB)(F:FS),(∀ p,p∈log'↔p∈log)->vF P sp ops msk K n listed log F->vF P sp ops msk K n listed log' F
 | 0,_,_,_,_,_,h=>h
 | n+1,listed,log,log',F,hl,h=>by
  refine⟨h.1,λi hi=>?_⟩;have:=h.2 i hi;unfold rR at this ⊢;split
  next ho=>rw[ho] at this;exact JA n _ _ _ _ hl this
  next o ho=>rw[ho] at this;obtain⟨st,r,h1,h2,h3,h4⟩:=this;refine⟨st,r,h1,h2,λp hp=>h3 p ((hl p).1 hp),λF' hF=>JA n _ _ _ _ (λp=>?_) (h4 F' hF)⟩;simp[hl p]
theorem P1{st:iV}(hp:st.pre)(dst:Option Tmp)(F:FS):∃ F',lM st dst F F':=by
 cases st with
 | go d=>obtain⟨x,hx⟩:=d.ne hp;exact⟨_,x,hx,rfl⟩
 | split g d =>
  cases g with
  | true=>obtain⟨x,hx⟩:=d.ne (hp rfl);exact⟨_,.inl ⟨rfl,x,hx,rfl⟩⟩
  | false=>exact⟨_,.inr ⟨rfl,rfl⟩⟩
theorem KK{ρ ρ':Nat->SV}{x:Operand}(h:∀ t,x = .tmp t->ρ t=ρ' t):aW ρ x=aW ρ' x:=by
 cases x with
 | tmp t=>exact h t rfl
 | _=>rfl
theorem PX{o:Oper}{ρ ρ':Nat->SV}(h:∀ x∈o.op.operands,aW ρ x=aW ρ' x):yp P sp o ρ=yp P sp o ρ':=by
 have hmap:∀ xs:Array Operand,(∀ x∈xs,aW ρ x=aW ρ' x)->xs.toList.map (aW ρ)=xs.toList.map (aW ρ'):=λxs hx =>
  List.map_congr_left λx hm=>hx x (by simpa using hm)
 have hpairs:∀ ps:Array (Nat×Operand),(∀ x∈(ps.toList.map (·.2)).toArray,aW ρ x=aW ρ' x) →
   ps.toList.map (λp=>(p.1,aW ρ p.2))=ps.toList.map (λp=>(p.1,aW ρ' p.2)):=λps hx =>
  List.map_congr_left λp hm=>by
   rw[hx p.2 (by
    simp only[List.mem_toArray,List.mem_map];exact⟨p,hm,rfl⟩)]
 have hopt:∀ x:Option Operand,(∀ y,x=some y->aW ρ y=aW ρ' y)->x.map (aW ρ)=x.map (aW ρ'):=λx hx=>by
  cases x with
  | none=>rfl
  | some y=>simp[hx y rfl]
 obtain⟨dst,op,ty,pos,after,guard⟩:=o
 simp only at h
 unfold yp
 cases op <;> simp only[Op.operands] at h <;> simp only
 case move x=>rw[h x (by simp)]
 case assign x=>rw[h x (by simp)]
 case pick c x y=>rw[h c (by simp),h x (by simp),h y (by simp)]
 case box E x=>rw[h x (by simp)]
 case build t ps=>rw[hpairs ps h]
 case buildSlice t n ps=>rw[hpairs ps h]
 case load t x=>rw[show nC sp ρ x=nC sp ρ' x from by (cases x with|tmp s=>exact h (.tmp s) (by simp)|_=>rfl)]
 case store t x y=>rw[h x (by simp),h y (by simp)]
 case nilCheck x=>rw[h x (by simp)]
 case binOp op t x y yt=>rw[h x (by simp),h y (by simp)]
 case unOp op t x=>rw[h x (by simp)]
 case convert s t x=>rw[h x (by simp)]
 case makeFunc fn fs caps=>cases fn <;> simp only;rw[hmap caps λx hx=>h x (by simp[hx])]
 case makeSlice t l c=>rw[h l (by simp),h c (by simp)]
 case slice t x lo hi mx =>
  rw[h x (by simp),hopt lo λy hy=>h y (by simp[hy]),hopt hi λy hy=>h y (by simp[hy]),hopt mx λy hy=>h y (by simp[hy])]
 case fieldAddr s x f=>rw[h x (by simp)]
 case field s x f=>rw[h x (by simp)]
 case indexAddr t x i=>rw[h x (by simp),h i (by simp),show nC sp ρ x=nC sp ρ' x from (by cases x with|tmp s=>exact h (.tmp s) (by simp)|_=>rfl)]
 case index t x i=>rw[h x (by simp),h i (by simp)]
 case extract x i=>rw[h x (by simp)]
 case makeMap t r=>cases r <;> rfl
 case lookup t x i ok=>cases ok <;> simp only[h x (by simp),h i (by simp)]
 case mapUpdate t x i y=>rw[h x (by simp),h i (by simp),h y (by simp)]
 case call c =>
  obtain⟨callee,args,ts⟩:=c;cases callee with
  | value g=>simp only;rw[h g (by simp[Call.operands]),hmap args λx hx=>h x (by simp[Call.operands,hx])]
  | builtin b=>simp only;rw[hmap args λx hx=>h x (by simp[Call.operands,hx])]
  | invoke rc m=>rfl
theorem Bb{t:Nat}:∀{l:List Operand},t∈uF l↔Operand.tmp t∈l
 | []=>by simp[uF]
 | .tmp s::r=>by simp[uF,Bb (l:=r)]
 | .const v::r=>by simp[uF,Bb (l:=r)]
 | .global g::r=>by simp[uF,Bb (l:=r)]
 | .func f::r=>by simp[uF,Bb (l:=r)]
theorem Ej{o:Oper}{t:Nat}(h:Operand.tmp t∈o.op.operands):t∈o.looksAt ops:=by
 unfold Oper.looksAt
 refine gu _ (List.mem_filterMap.2 ⟨.tmp t,by simpa using h,rfl⟩)
theorem PP{o:Oper}{t:Nat}(h:t∈uO o):t∈o.looksAt ops:=by
 unfold uO at h
 split at h
 next c x y ho=>simp only[iI] at h;subst h;exact Ej (by rw[ho];simp[Op.operands])
 .simp at h
 .exact Ej (by simpa using Bb.1 h)
theorem af8{o:Oper}{sl sl':List SV}(h:∀ t∈o.looksAt ops,dX sl' t=dX sl t):m3 P sp ops.toList o sl'=m3 P sp ops.toList o sl:=by
 have hg:xn ops.toList sl' o.guard=xn ops.toList sl o.guard:=by
  unfold xn;cases hgd:o.guard with
  | none=>rfl
  | some p =>
   obtain⟨j,want⟩:=p;simp only;cases hj:nA ops.toList j with
   | none=>rfl
   | some oj =>
    simp only;cases hd:oj.dst with
    | none=>rfl
    | some d =>
     simp only;rw[h d ?_];unfold Oper.looksAt;refine jd _ ?_;rw[hgd];rw[vR,lK] at hj;simp[hj,hd]
 have hpre:∀(g:Bool)(l:List Nat),(∀ t∈l,t∈o.looksAt ops)->rA g sl' l=rA g sl l:=by
  intro g l
  induction l with
  | nil=>intro _;rfl
  | cons t l ih=>intro hl;simp only[rA];rw[h t (hl t (by simp)),ih λs hs=>hl s (fM _ hs)]
 unfold m3
 rw[hg]
 split
 .rw[PX λx hx=>KK λt ht=>h t (Ej (ht▸hx))]
 next g _=>
  rw[hpre g _ λt ht=>PP ht];have hany:∀(l:List Nat),(∀ t∈l,t∈o.looksAt ops)->BZ sl' l=BZ sl l:=by
   intro l
   induction l with
   | nil=>intro _;rfl
   | cons t l ih=>intro hl;simp only[BZ];rw[h t (hl t (by simp)),ih λs hs=>hl s (fM _ hs)]
  rw[hany _ λt ht=>PP ht];split
  .rfl
  congr 1;exact PX λx hx=>KK λt ht=>by simp only[h t (Ej (ht▸hx))]
 .rfl
theorem ZC{sl:List SV}{dst:Option Tmp}{v:SV}{t:Nat}(h:∀ d,dst=some d->t≠d):dX (jH sl dst v) t=dX sl t:=by
 cases dst with
 | none=>rfl
 | some d=>simp only[jH];rw[Lu,af (λhh=>h d rfl hh.1)]
theorem II{st:iV}{dst:Option Tmp}{F F':FS}(h:lM st dst F F'):∃ v u,F'.sl=jH F.sl dst v/\F'.h=cZ u F.h∧∀ p∈u,p.1∈st.wr:=by
 have mk:∀(d:Dl)(x:d.X),∃ v u,(F.app dst d x).sl=jH F.sl dst v/\(F.app dst d x).h=cZ u F.h∧∀ p∈u,p.1∈d.wr:=λd x =>
  ⟨d.val x,d.upd x,rfl,rfl,λp hp=>by rw[← Dl.wr_upd d x];exact sr hp⟩
 cases st with
 | go d=>obtain⟨x,_,rfl⟩:=h;exact mk d x
 | split g d =>
  rcases h with⟨_,x,_,rfl⟩|⟨_,rfl⟩
  .exact mk d x
  .exact⟨.cv undef,[],rfl,rfl,by simp⟩
theorem EP{n:Nat}:∀(u:List (Nat×Nm))(h1 h2:bP),n∈u.map (·.1)->cZ u h1 n=cZ u h2 n
 | [],_,_,hn=>by simp at hn
 | p::u,h1,h2,hn=>by
  simp only[cZ];by_cases hpn:n=p.1
  .subst hpn;simp
  .rw[bP.set_other _ _ hpn,bP.set_other _ _ hpn];exact EP u h1 h2 (by simpa[hpn] using hn)
theorem Rw{i j:Oper}{sti:iV}{F F':FS}(hd:∀ n∈we i.dst,n ∉ j.looksAt ops)(hi:lM sti i.dst F F'):m3 P sp ops.toList j F'.sl=m3 P sp ops.toList j F.sl:=by
 obtain⟨v,u,hsl,hh,hw⟩:=II hi
 refine af8 λt ht=>?_
 rw[hsl]
 exact ZC λd hdd e=>hd d (by simp[we,hdd]) (e▸ht)
theorem Lz{i j:Oper}{sti stj:iV}{rj:List Nat}{F F':FS}(hb:∀ n∈sti.wr,n ∉ stj.wr)(hd:∀ n∈we i.dst,n ∉ j.looksAt ops)(hi:lM sti i.dst F F') :
  jl P sp ops j stj rj F'=jl P sp ops j stj rj F:=by
 obtain⟨v,u,hsl,hh,hw⟩:=II hi
 have e:tz stj.wr F'.h=tz stj.wr F.h:=XS λn hn=>by
  rw[hh];refine nY λhm=>?_;obtain⟨p,hp,rfl⟩:=List.mem_map.1 hm;exact hb _ (hw p hp) hn
 unfold jl
 rw[Rw hd hi,e]
theorem I4{i j:Oper}{sti stj:iV}{ri rj:List Nat}{F F':FS}(ap:tM (jl P sp ops i sti ri F) (jl P sp ops j stj rj F))(hi:lM sti i.dst F F') :
  ((m3 P sp ops.toList j F'.sl).run F'.h=some (stj,rj)↔(m3 P sp ops.toList j F.sl).run F.h=some (stj,rj)):=by
 rw[Rw ap.d hi]
 rcases ap.a with ha|⟨pre,v,u,hst,hsub,h1,h2⟩
 .obtain⟨v,u,hsl,hh,hw⟩:=II hi;have hq:∀ n∈rj,F'.h n=F.h n:=λn hn=>by
   rw[hh];refine nY λhm=>?_;obtain⟨p,hp,rfl⟩:=List.mem_map.1 hm;exact ha _ (hw p hp) hn
  exact⟨λe=>Q.run_local _ e λn hn=>(hq n hn).symm,λe=>Q.run_local _ e hq⟩
 .simp only[jl] at hst hsub h1 h2;subst hst;obtain⟨x,_,rfl⟩:=hi;refine⟨λ_=>Q.run_local _ h1 λn hn=>(at5 (hsub n hn)).symm,λ_=>Q.run_local _ h2 λn hn=>?_⟩;exact EP u _ _ (hsub n hn)
theorem aG6{u v:List (Nat×Nm)}(h:∀ p∈u,∀ q∈v,p.1≠q.1)(hp:bP):cZ u (cZ v hp)=cZ v (cZ u hp):=by
 funext n
 by_cases hu:n∈u.map (·.1)
 .have hv:n ∉ v.map (·.1):=λhv=>by
   obtain⟨p,hp1,rfl⟩:=List.mem_map.1 hu;obtain⟨q,hq1,hq2⟩:=List.mem_map.1 hv;exact h p hp1 q hq1 hq2.symm
  rw[nY hv];exact EP u _ _ hu
 .rw[nY hu];by_cases hv:n∈v.map (·.1)
  .exact EP v _ _ hv
  .rw[nY hv,nY hv,nY hu]
theorem aG0{sl:List SV}{x y:Option Tmp}{v u:SV}(h:∀ d,x=some d->y≠some d):jH (jH sl x v) y u=jH (jH sl y u) x v:=by
 cases x with
 | none=>rfl
 | some d =>
  cases y with
  | none=>rfl
  | some e =>
   have hne:d≠e:=λhe=>h d rfl (he▸rfl);simp only[jH];exact List.set_comm _ _ hne
theorem ac6{i j:Oper}{sti stj:iV}{ri rj:List Nat}{F Fj Fji:FS}(ap:tM (jl P sp ops i sti ri F) (jl P sp ops j stj rj F))(hj:lM stj j.dst F Fj)(hi:lM sti i.dst Fj Fji) :
  ∃ Fi,lM sti i.dst F Fi/\lM stj j.dst Fi Fji:=by
 have hdst:∀ d,i.dst=some d->j.dst≠some d:=λd hd hd'=>ap.e d (by simp[jl,we,hd]) (by simp[jl,we,hd'])
 have hdst':∀ d,j.dst=some d->i.dst≠some d:=λd hd hd'=>hdst d hd' hd
 have rep:∀{st:iV}{dst:Option Tmp}{F F':FS},lM st dst F F'→∃ v u,(∀ p∈u,p.1∈st.wr)/\F'=⟨jH F.sl dst v,cZ u F.h⟩∧∀ G:FS,lM st dst G ⟨jH G.sl dst v,cZ u G.h⟩:=by
  intro st dst F F' h;cases st with
  | go d=>obtain⟨x,hx,rfl⟩:=h;exact⟨d.val x,d.upd x,λp hp=>by rw[iV.wr,← Dl.wr_upd d x];exact sr hp,rfl,λG=>⟨x,hx,rfl⟩⟩
  | split g d =>
   rcases h with⟨hg,x,hx,rfl⟩|⟨hg,rfl⟩
   .exact⟨d.val x,d.upd x,λp hp=>by rw[iV.wr,← Dl.wr_upd d x];exact sr hp,rfl,λG=>.inl ⟨hg,x,hx,rfl⟩⟩
   .exact⟨.cv undef,[],by simp,rfl,λG=>.inr ⟨hg,rfl⟩⟩
 obtain⟨vj,uj,hwj,rfl,gj⟩:=rep hj
 obtain⟨vi,ui,hwi,rfl,gi⟩:=rep hi
 refine⟨_,gi F,?_⟩
 have e1:jH (jH F.sl j.dst vj) i.dst vi=jH (jH F.sl i.dst vi) j.dst vj:=aG0 hdst'
 have e2:cZ ui (cZ uj F.h)=cZ uj (cZ ui F.h):=aG6 (λp hp q hq e=>ap.b p.1 (hwi p hp) (e▸hwj q hq)) F.h
 simp only[e1,e2]
 exact gj ⟨jH F.sl i.dst vi,cZ ui F.h⟩
def CR(ops:Array Oper)(listed:Array Bool):Prop:=∀ j o,ops[j]? = some o->listed.getD j false=true→∀ e∈o.after,Region.binds .any e=true->listed.getD e.on false=true
theorem aB2{listed:Array Bool}(hd:CR ops listed){i j:Nat}(hj:j∈Region.ready .any ops listed)(h:r6 ops i j):listed.getD i false=true:=by
 obtain⟨hun,oj,hoj,hall⟩:=mem_ready.1 hj
 have key:∀{i k:Nat},r6 ops i k->listed.getD k false=true->listed.getD i false=true:=by
  intro i k h
  induction h with
  | edge ho he hb hi=>intro hk;rw[← hi];exact hd _ _ ho hk _ he hb
  | step ho he hb _ ih=>intro hk;exact ih (hd _ _ ho hk _ he hb)
 cases h with
 | edge ho he hb hi =>
  rw[hoj] at ho;cases ho;rw[← hi];exact hall _ he hb
 | step ho he hb h =>
  rw[hoj] at ho;cases ho;exact key h (hall _ he hb)
theorem aM4{listed:Array Bool}(hd:CR ops listed){i:Nat}(hi:i∈Region.ready .any ops listed):CR ops (listed.setIfInBounds i true):=by
 obtain⟨hun,oi,hoi,hall⟩:=mem_ready.1 hi
 have mono:∀ k,listed.getD k false=true->(listed.setIfInBounds i true).getD k false=true:=by
  intro k hk;rw[qJ] at hk ⊢;by_cases h:i=k
  .subst h;by_cases h2:i<listed.size
   .rw[Array.getElem?_setIfInBounds_self_of_lt h2];rfl
   .rw[Array.getElem?_eq_none (by omega)] at hk;simp at hk
  .rw[yP h];exact hk
 intro j o ho hj e he hb
 by_cases hij:i=j
 .subst hij;rw[hoi] at ho;cases ho;exact mono _ (hall e he hb)
 .refine mono _ (hd j o ho ?_ e he hb);rw[qJ] at hj ⊢
  rwa [yP hij] at hj
theorem ad5(hmsk:∀ i j,Ai msk i j=true->r6 ops i j){i:Nat}{oi:Oper}{st:iV}{r:List Nat}(hi:ops[i]? = some oi)(hpre:st.pre) :
  ∀(fuel:Nat)(listed:Array Bool)(log:pB)(F:FS),CR ops listed->i∈Region.ready .any ops listed->(m3 P sp ops.toList oi F.sl).run F.h=some (st,r) →
   Fb msk i (jl P sp ops oi st r F) log →
   (∀ F',lM st oi.dst F F'→vF P sp ops msk K fuel (listed.setIfInBounds i true) ((i,jl P sp ops oi st r F)::log) F')->vF P sp ops msk K (fuel+1) listed log F:=by
 intro fuel
 induction fuel with
 | zero =>
  intro listed log F hd hr hrun hlog H;refine⟨λh=>(by rw[h] at hr;cases hr),λj hj=>?_⟩;by_cases hji:j=i
  .subst hji;unfold rR;rw[hi];exact⟨st,r,hrun,hpre,hlog,H⟩
  .obtain⟨F',hF'⟩:=P1 hpre oi.dst F;have:=ready_mono hj hji;rw[(H F' hF').1] at this;cases this
 | succ fuel ih =>
  intro listed log F hd hr hrun hlog H;refine⟨λh=>(by rw[h] at hr;cases hr),λj hj=>?_⟩;by_cases hji:j=i
  .subst hji;unfold rR;rw[hi];exact⟨st,r,hrun,hpre,hlog,H⟩
  .obtain⟨hjun,oj,hoj,hall⟩:=mem_ready.1 hj;have Hj:∀ F',lM st oi.dst F F'→∃ stj rj,(m3 P sp ops.toList oj F'.sl).run F'.h=some (stj,rj)/\stj.pre/\Fb msk j (jl P sp ops oj stj rj F') ((i,jl P sp ops oi st r F)::log) ∧
     ∀ F'',lM stj oj.dst F' F''→vF P sp ops msk K fuel ((listed.setIfInBounds i true).setIfInBounds j true) ((j,jl P sp ops oj stj rj F')::(i,jl P sp ops oi st r F)::log) F'':=by
    intro F' hF';have:=(H F' hF').2 j (ready_mono hj hji);unfold rR at this;rw[hoj] at this;exact this
   obtain⟨F1,hF1⟩:=P1 hpre oi.dst F;obtain⟨stj,rj,hrj,hpj,hlj,_⟩:=Hj F1 hF1;have hnot:Ai msk i j=false:=by
    cases hb:Ai msk i j with
    | false=>rfl
    | true =>
     have h1:=aB2 hd hj (hmsk i j hb);have h0:=(mem_ready.1 hr).1;rw[qJ] at h0 h1;cases hx:listed[i]? with
     | none=>rw[hx] at h1;simp at h1
     | some b=>rw[hx] at h0 h1;simp at h0 h1;rw[h0] at h1;cases h1
   have ap1:tM (jl P sp ops oi st r F) (jl P sp ops oj stj rj F1):=by
    rcases hlj (i,jl P sp ops oi st r F) (by simp) with h|h
    .simp only at h;rw[hnot] at h;cases h
    .exact h
   have tj:∀ F',lM st oi.dst F F'→jl P sp ops oj stj rj F'=jl P sp ops oj stj rj F:=λF' hF'=>Lz ap1.b ap1.d hF';rw[tj F1 hF1] at hlj;have ap:tM (jl P sp ops oi st r F) (jl P sp ops oj stj rj F):=by rw[← tj F1 hF1];exact ap1
   have hrun_j:(m3 P sp ops.toList oj F.sl).run F.h=some (stj,rj):=(I4 ap hF1).1 hrj;unfold rR;rw[hoj];refine⟨stj,rj,hrun_j,hpj,λp hp=>hlj p (fM _ hp),λFj hFj=>?_⟩;have ti:jl P sp ops oi st r Fj=jl P sp ops oi st r F:=Lz (λn hn hm=>ap.b n hm hn) ap.f hFj;refine ih (listed.setIfInBounds j true) _ Fj (aM4 hd hj) (ready_mono hr (Ne.symm hji)) ((I4 ap.symm hFj).2 hrun) (λp hp=>?_) λFji hFji=>?_
   .rw[ti];rcases dK.1 hp with rfl|hp
    .exact .inr ap.symm
    .exact hlog p hp
   .rw[ti];obtain⟨Fi,hFi,hFij⟩:=ac6 ap hFj hFji;obtain⟨stj',rj',hrj',hpj',hlj',hK⟩:=Hj Fi hFi;have e1:some (stj',rj')=some (stj,rj):=by rw[← hrj',← (I4 ap hFi).2 hrun_j]
    simp only[bq,br] at e1;obtain⟨rfl,rfl⟩:=e1;have:=hK Fji hFij;rw[tj Fi hFi] at this;rw[Array.setIfInBounds_comm _ _ hji];refine JA _ _ _ _ _ (λp=>?_) this;simp only[dK];exact⟨λh=>by rcases h with h|h|h <;> simp[h],λh=>by rcases h with h|h|h <;> simp[h]⟩
end
end Go.SX
