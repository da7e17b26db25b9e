/- SX, part 10: append, slicing, an array's element: soundness. -/
import Derived.Test.YtpdpkobkpacbnaaGreatDoorSx9
import Derived.Lib.AppendZeros
import Derived.Laws.BytesArg
import Derived.Laws.StructEq
import Derived.MapKept
import Derived.Carry
import Derived.Orders
set_option linter.unusedVariables false
open List (replicate)
namespace Go.SX
section
variable {P:Program} {w0:World} {N0:f5} {A:Nat->Prop} {env:aZ} {h:bN} {w:World} {o:Oper} {a:Act} {ρ:Nat->SV} {d:Dl} {r:List Nat}
theorem DJ{t:CT}{cv:Nat->Option Value}:∀(ys:List t.D)(off:Nat),(∀ i (hi:i<ys.length),Rd A w t cv (off+i*t.size) ys[i]) →
  ∃ news:List Value,news.length=ys.length*t.size/\(∀ j,j<news.length->cv (off+j)=news[j]?)∧∀ u∈news,u.oneCell'=true
 | [],off,_=>⟨[],by simp,by simp,by simp⟩
 | y::ys,off,hr=>by
  obtain⟨us,hl,hc,hd⟩:=u7 (env:=λ_=>.un) t y cv off (by have:=hr 0 (by simp);simpa only[Nat.zero_mul,ix,List.getElem_cons_zero] using this);obtain⟨news,hl2,hc2,h1⟩:=DJ ys (off+t.size) (λi hi=>by
   have:=hr (i+1) (by simpa using hi);simp only[List.getElem_cons_succ] at this;rw[show off+t.size+i*t.size=off+(i+1)*t.size from by rw[fP,jZ];omega];exact this)
  refine⟨us++news,by simp[hl,hl2,fP];omega,λj hj=>?_,?_⟩
  .by_cases hlt:j<t.size
   .rw[hc j hlt,kP (by omega)]
   .rw[jU (by omega),hl];simp only[cu] at hj;have:=hc2 (j-t.size) (by omega);rw[show off+t.size+(j-t.size)=off+j from by omega] at this;exact this
  .intro u hu;rcases dw.1 hu with hu|hu
   .exact Cq hd (Fg _ _) u hu
   .exact h1 u hu
theorem NK{t:CT}{v:Value}{ys:List t.D}(hs:qM A w t v ys):∃ p c,v = .slice p ys.length c/\ys.length<=maxLen ∧
  (ys.length=0∨∃ b off,p=some ⟨b,off,none⟩∧∀ i (hi:i<ys.length),Rd A w t (λo=>w.cell? ⟨b,o,none⟩) (off+i*t.size) ys[i]):=by
 obtain⟨hl,⟨⟨p,rfl⟩,rfl⟩|⟨b,off,cap,rfl,h1,h2,h3,h4⟩⟩:=hs
 .exact⟨p,0,rfl,hl,.inl rfl⟩
 .exact⟨_,cap,rfl,hl,.inr ⟨b,off,rfl,h4⟩⟩
theorem GB(m:Mod w0 N0 A env h w){t:CT}{x:SV}{v:Value}{ys:List t.D}(e:(vn t x).run h=some (ys,r))(hd:az A env w x v) :
  ∃ p c,v = .slice p ys.length c/\ys.length<=maxLen ∧
  (ys.length=0∨∃ b off,p=some ⟨b,off,none⟩∧∀ i (hi:i<ys.length),Rd A w t (λo=>w.cell? ⟨b,o,none⟩) (off+i*t.size) ys[i]):=by
 unfold vn at e
 split at e
 next u zs=>
  split at e
  next zs' hc=>simp only[Q.run,bp,br] at e;obtain⟨rfl,_⟩:=e;obtain⟨et,ey⟩:=jR hc;subst et;simp only at ey;subst ey;simp only[az] at hd;exact NK hd
  .cases e
 next u zs=>
  split at e
  next zs' hc=>simp only[Q.run,bp,br] at e;obtain⟨rfl,_⟩:=e;obtain⟨et,ey⟩:=jR hc;subst et;simp only at ey;subst ey;simp only[az] at hd;exact NK hd.1
  .cases e
 .simp only[Q.run,bp,br] at e;obtain⟨rfl,_⟩:=e;simp only[az] at hd;exact⟨none,0,by rw[hd];rfl,by simp,.inl rfl⟩
 next n sz=>
  simp only[az] at hd;simp only[Q.run] at e;split at e
  .rename_i p q hk;simp only[bp,br] at e;obtain⟨rfl,rfl⟩:=e;have fin:∀{E':TypeId}{u:CT}{zs:List u.D},(h n = .live (.row E' u zs)∨h n = .live (.frz E' u zs))->gX u t zs=some p →
     ∃ p' c,v = .slice p' p.length c/\p.length<=maxLen ∧
     (p.length=0∨∃ b off,p'=some ⟨b,off,none⟩∧∀ i (hi:i<p.length),Rd A w t (λo=>w.cell? ⟨b,o,none⟩) (off+i*t.size) p[i]):=by
    intro E' u zs hl hc;obtain⟨et,ey⟩:=jR hc;subst et;simp only at ey;subst ey;rcases hd with⟨hnil,pp,ev⟩|⟨b,len,E2,c,hb,_,ev⟩
    .have hx:p.length=0:=by
      have:=m.nm n;rcases hl with hl|hl <;> rw[hl] at this <;> rcases this with⟨k',l',he',_⟩|⟨_,E3,t3,hb⟩
      .rw[hnil] at he';cases he'
      .rcases hb with hb|hb <;> cases hb;rfl
      .rw[hnil] at he';cases he'
      .rcases hb with hb|hb <;> cases hb;rfl
     exact⟨pp,0,by rw[hx];exact ev,by omega,.inl hx⟩
    .have hrow:nS A w b len E' u p:=by
      rcases hl with hl|hl
      .exact (m.live_blk hl hb).1
      .exact (m.live_blk hl hb).1.2
     have hlen:p.length=len.2/\len.2<=maxLen:=by
      obtain⟨vs,cap,_,_,h2,h3,h4,_⟩:=hrow;exact⟨h2,by omega⟩
     refine⟨_,_,by rw[hlen.1];exact ev,by omega,.inr ⟨b,len.1,rfl,λi hi=>?_⟩⟩;have:=yF hrow (i:=i) (by omega);rw[Kt hi] at this;exact this
   split at hk
   .rename_i E' u zs hl;split at hk
    next zs' h1 hc=>simp only[Q.run,bp,br] at hk;obtain⟨rfl,_⟩:=hk;exact fin (.inl hl) hc
    .cases hk
   .rename_i E' u zs hl;split at hk
    next zs' h1 hc=>simp only[Q.run,bp,br] at hk;obtain⟨rfl,_⟩:=hk;exact fin (.inr hl) hc
    .cases hk
   .cases hk
  .cases e
 .cases e
theorem pA(m:Mod w0 N0 A env h w){nm:Nat}(hun:h nm = .un)(dn:List Nat)(hdn:∀ n∈dn,∃ b,h n = .live b/\b.mut=true){E:TypeId}{t:CT}{zs:List t.D}{v:Value}{w':World}
  {pre:List Prop} {W:Nat->Prop} {ev:Ev} (c:cY w w' W) (hW:∀ k,W k→∃ n l,n∈dn/\env n = .blk k l) (hne:ev ≠ .un)
  (hev:∀ k len,ev = .blk k len->w.heap.size<=k∨∃ n l,n∈dn/\env n = .blk k l)
  (hb:dB A env w A (env.set nm ev) w'→(ev = .nil/\zs=[]∧∃ p,v = .slice p 0 0)∨∃ k len c,ev = .blk k len/\nS A w' k len E t zs/\w'.shape? k=some (E,c)/\v = .slice (some ⟨k,len.1,none⟩) len.2 ((c-len.1)/t.size)) :
  da w0 N0 A env h w (.det pre (.own nm t.size) ((nm,.live (.row E t zs))::dn.map λn=>(n,.dead))) v w':=by
 have hu:env nm = .un:=by have:=m.nm nm;rw[hun] at this;exact this
 have hlv:∀ k,W k→∃ mm b l,mm∈dn/\h mm = .live b/\b.mut=true/\env mm = .blk k l:=by
  intro k hk;obtain⟨n,l,hn,he⟩:=hW k hk;obtain⟨b,hb1,hb2⟩:=hdn n hn;exact⟨n,b,l,hn,hb1,hb2,he⟩
 have x:dB A env w A (env.set nm ev) w':=by
  refine⟨λ_ h=>h,λn b l e=>?_,λn e=>?_,λb o hb=>?_,c.shape⟩
  .rw[aZ.set_other];exact e;intro e';rw[e'] at e;rw[hu] at e;cases e
  .rw[aZ.set_other];exact e;intro e';rw[e'] at e;rw[hu] at e;cases e
  .refine World.cell?_of_block (a:=⟨b,o,none⟩) (c.blk b (m.Alt b hb) (λhw=>?_));obtain⟨mm,bb,l,_,hl,hm,he⟩:=hlv b hw;exact (m.live_blk hl he).2 hm hb
 have hset:∀ n,n≠nm->n ∉ dn->cZ ((nm,.live (.row E t zs))::dn.map λn=>(n,.dead)) h n=h n:=by
  intro n h1 h2;refine nN ?_;simp only[fF,List.map_map,dL,List.mem_map,Function.comp_apply,not_or];exact⟨h1,λ⟨q,hq,e⟩=>h2 (e▸hq)⟩
 have hsetn:cZ ((nm,.live (.row E t zs))::dn.map λn=>(n,.dead)) h nm = .live (.row E t zs):=by simp[cZ]
 have hsetd:∀ n,n≠nm->n∈dn->cZ ((nm,.live (.row E t zs))::dn.map λn=>(n,.dead)) h n = .dead:=by
  intro n h1 h2;simp only[cZ];rw[bN.set_other _ _ h1];clear hdn hW hev hlv hset hsetn
  induction dn with
  | nil=>simp at h2
  | cons q dn ih =>
   simp only[fF,cZ];by_cases hq:n=q
   .subst hq;simp
   .rw[bN.set_other _ _ hq];exact ih (by simpa[hq] using h2)
 have u:mB (λn=>n=nm∨n∈dn) W A env h w A (env.set nm ev) (cZ ((nm,.live (.row E t zs))::dn.map λn=>(n,.dead)) h) w':=by
  refine⟨c,λk hk=>?_,λ_ h=>h,λ_ h=>.inl h,λn hn=>aZ.set_other _ _ (λe=>hn (.inl e)),λn hn=>?_,λn hn=>hset n (λe=>hn (.inl e)) (λe=>hn (.inr e)),?_,?_,?_⟩
  .obtain⟨mm,b,l,h1,h2,h3,h4⟩:=hlv k hk;exact⟨mm,b,l,.inr h1,h2,h3,h4⟩
  .exact aZ.set_other _ _ (λe=>hn (e▸hu))
  .rintro n hn;by_cases hnm:n=nm
   .subst hnm;rw[hsetn];rcases hb x with⟨h1,h2,_⟩|⟨k,len,c',h1,h2,_⟩
    .exact .inr ⟨by rw[aZ.set_same];exact h1,E,t,.inl (by rw[h2])⟩
    .refine .inl ⟨k,len,by rw[aZ.set_same];exact h1,h2,λ_ hA=>?_⟩;rcases hev k len h1 with h3|⟨n',l,hn',he⟩
     .have:=m.Alt k hA;omega
     .obtain⟨b,hb1,hb2⟩:=hdn n' hn';exact (m.live_blk hb1 he).2 hb2 hA
   .rw[hsetd n hnm (hn.resolve_left hnm)];trivial
  .intro n b k l hn hl hm he;by_cases hnm:n=nm
   .subst hnm;rw[aZ.set_same] at he;rcases hev k l he with h3|⟨n',l',hn',he'⟩
    .exact .inl h3
    .obtain⟨b',hb1,hb2⟩:=hdn n' hn';exact .inr ⟨n',b',l',.inr hn',hb1,hb2,he'⟩
   .rw[hsetd n hnm (hn.resolve_left hnm)] at hl;cases hl
  .intro n n' b c k l l' hn hn' hl hl' _ _ _ _;by_cases hnm:n=nm
   .by_cases hnm':n'=nm
    .rw[hnm,hnm']
    .rw[hsetd n' hnm' (hn'.resolve_left hnm')] at hl';cases hl'
   .rw[hsetd n hnm (hn.resolve_left hnm)] at hl;cases hl
 refine⟨(),A,env.set nm ev,trivial,m.upd u,m.ext u,?_⟩
 simp only[Dl.val,az]
 rcases hb x with⟨h1,h2,h3⟩|⟨k,len,c',h1,h2,h3,h4⟩
 .exact .inl ⟨by rw[aZ.set_same];exact h1,h3⟩
 .exact .inr ⟨k,len,E,c',by rw[aZ.set_same];exact h1,h3,h4⟩
theorem Rm{t e ty:TypeId}(ht:P.underlying t=some (.slice e)){sz:Nat}(hsz:gK P e=some sz)(p q:Option Addr)(n cap c:Nat)(hn:n<=cap) :
  (Builtin.append_ #[t,t] ty #[.slice p n cap,.slice q 0 c]).run P w = .ok (.slice p n cap) w:=by
 have hf:(Builtin.firstCells sz 0 (.slice q 0 c)).run P w = .ok #[] w:=by
  cases q <;> simp[Builtin.firstCells,loadCells,loadCellsFrom]
 cases p with
 | none=>simp[Builtin.append_,run_underlying ht,kS hsz,Builtin.lenOf,hn,hf]
 | some b=>simp[Builtin.append_,run_underlying ht,kS hsz,Builtin.lenOf,hn,hf,storeCells]
theorem tL{t:CT}{cv cv':Nat->Option Value}{o o':Nat}{d:t.D}(h:Rd A w t cv o d)(hc:∀ j,j<t.size->cv' (o'+j)=cv (o+j)):Rd A w t cv' o' d:=by
 have key:∀(t:CT)(cv cv':Nat->Option Value)(o o':Nat)(d:t.D),Rd A w t cv o d->(∀ j,j<t.size->cv' (o'+j)=cv (o+j))->Rd A w t cv' o' d:=by
  intro t
  induction t with
  | pair a b iha ihb =>
   intro cv cv' o o' d h hc;refine⟨iha _ _ _ _ _ h.1 (λj hj=>hc j (by simp only[CT.size];omega)),ihb _ _ _ _ _ h.2 (λj hj=>?_)⟩;have:=hc (a.size+j) (by simp only[CT.size];omega);simpa[gP] using this
  | int k=>intro cv cv' o o' d h hc;have:=hc 0 (by simp[CT.size]);simp only[ix] at this;simp only[Rd] at h ⊢;rw[this];exact h
  | bool=>intro cv cv' o o' d h hc;have:=hc 0 (by simp[CT.size]);simp only[ix] at this;simp only[Rd] at h ⊢;rw[this];exact h
  | str=>intro cv cv' o o' d h hc;have:=hc 0 (by simp[CT.size]);simp only[ix] at this;simp only[Rd] at h ⊢;rw[this];exact h
  | sl t ih=>intro cv cv' o o' d h hc;have:=hc 0 (by simp[CT.size]);simp only[ix] at this;simp only[Rd] at h ⊢;rw[this];exact h
 exact key t cv cv' o o' d h hc
theorem Hs{t:CT}{xs ys:List t.D}{olds news rest:List Value}(ho:olds.length=xs.length*t.size)(hn:news.length=ys.length*t.size)
  (hx:∀ i (hi:i<xs.length),Rd A w t (λj=>olds[j]?) (i*t.size) xs[i]) (hy:∀ i (hi:i<ys.length),Rd A w t (λj=>news[j]?) (i*t.size) ys[i]) :
  ∀ i (hi:i<(xs++ys).length),Rd A w t (λj=>(olds++news++rest).toArray[j]?) (i*t.size) (xs++ys)[i]:=by
 intro i hi
 simp only[List.getElem?_toArray]
 by_cases hlt:i<xs.length
 .rw[List.getElem_append_left hlt];refine tL (hx i hlt) λj hj=>?_;have:(i+1)*t.size<=xs.length*t.size:=mz _ (by omega);rw[fP,jZ] at this;rw[ia,kP (by omega)]
 .rw[List.getElem_append_right (by omega)];have hi':i-xs.length<ys.length:=by simp at hi;omega
  refine tL (hy _ hi') λj hj=>?_;have e1:i*t.size=xs.length*t.size+(i-xs.length)*t.size:=by rw[← fP];congr 1;omega
  have:(i-xs.length+1)*t.size<=ys.length*t.size:=mz _ (by omega);rw[fP,jZ] at this;rw[ia,jU (by omega),kP (by omega)];congr 1;omega
end
end Go.SX
namespace Go.SX
theorem U5{P:Program}(w:World)(t ty e:TypeId)(i:TypeInfo)(ht:P.underlying t=some (.slice e))(hi:P.info? e=some i)
  (g off oE vg:Nat) (cur:Array Value) (hg:w.heap[g]? = some (.cells cur e (0,0)))
  (a:Addr) (m c:Nat) (news:List Value) (hl:news.length=m*i.size) (hnews:∀ j u,news[j]? = some u->w.cell? (a.add j)=some u) (h1:∀ u∈news,u.oneCell'=true)
  (hroom:oE+m<=vg) (hfit:off+oE*i.size+news.length<=cur.size) :
  (Builtin.append_ #[t,t] ty #[.slice (some ⟨g,off,none⟩) oE vg,.slice (some a) m c]).run P w =
   .ok (.slice (some ⟨g,off,none⟩) (oE+m) vg) (w.setRow g (cur.toList.take (off+oE*i.size)++news++cur.toList.drop (off+oE*i.size+news.length)).toArray):=by
 have hf:=run_firstCells_some (P:=P) w i.size m a m c news hl hnews
 have hst:=run_storeCells_at P g (off+oE*i.size) e news 0 cur w hg (by simpa using hfit) h1
 simp only[ix] at hst
 simp[Builtin.append_,run_underlying ht,sizeOf,typeInfo,hi,Builtin.lenOf,hroom,hf,Addr.add_lit,hst]
section
variable {P:Program} {w0:World} {N0:f5} {A:Nat->Prop} {env:aZ} {h:bN} {w:World} {o:Oper} {a:Act} {ρ:Nat->SV} {d:Dl} {r:List Nat}
theorem U0(l:List Value)(z:Array Value):l.toArray++z=(l++z.toList).toArray:=by apply Array.ext';simp
theorem T8(l m:List Value)(z:Array Value):l.toArray++m.toArray++z=(l++m++z.toList).toArray:=by apply Array.ext';simp
theorem IH(m:Mod w0 N0 A env h w){t e ty:TypeId}{sz nm:Nat}{i:TypeInfo}{z:Value}{u:CT}{ys:List u.D}{p q:Option Addr}{c:Nat}{pre:List Prop}
  (ht:P.underlying t=some (.slice e)) (hsz:gK P e=some sz) (hi:P.info? e=some i) (hz:i.zero=some z) (hzs:z.cells.size=sz) (hb1:1<=i.bytes) (hu:sz=u.size) (hun:h nm = .un)
  (dn:List Nat) (hdn:∀ n∈dn,∃ b,h n = .live b/\b.mut=true)
  (hl:ys.length<=maxLen) (hby:ys.length*i.bytes<=140737488355328)
  (hsrc:ys.length=0∨∃ b off,q=some ⟨b,off,none⟩∧∀ i (hi:i<ys.length),Rd A w u (λo=>w.cell? ⟨b,o,none⟩) (off+i*u.size) ys[i]) :
  ∃ v w',(Builtin.append_ #[t,t] ty #[.slice p 0 0,.slice q ys.length c]).run P w = .ok v w' ∧
   da w0 N0 A env h w (.det pre (.own nm sz) ((nm,.live (.row e u ys))::dn.map λn=>(n,.dead))) v w':=by
 subst hu
 by_cases h0:ys.length=0
 .refine⟨.slice p 0 0,w,by rw[h0];exact Rm ht hsz p q 0 0 c (iq _),?_⟩;have:ys=[]:=oW h0;subst this;exact pA m hun dn hdn (W:=λ_=>False) (ev := .nil) (cY.refl w _) (λ_ h=>h.elim) (by simp) (λk l e=>by cases e) (λ_=>.inl ⟨rfl,rfl,p,rfl⟩)
 .obtain⟨b,off,rfl,hrd⟩:=hsrc.resolve_left h0;obtain⟨news,hnl,hnc,hn1⟩:=DJ ys off hrd;have hisz:i.size=u.size:=by unfold gK at hsz;rw[hi] at hsz;simpa using hsz
  have hnews:∀ j v,news[j]? = some v->w.cell? ((⟨b,off,none⟩:Addr).add j)=some v:=by
   intro j v hj;rw[Addr.add_lit,hnc j (List.getElem?_eq_some_iff.1 hj).1];exact hj
  have hrdn:∀ i (hi:i<ys.length),Rd A w u (λj=>news[j]?) (i*u.size) ys[i]:=λi hi =>
   tL (hrd i hi) λj hj=>by
    have:(i+1)*u.size<=ys.length*u.size:=mz _ (by omega);rw[fP,jZ] at this;rw[← hnc _ (by omega),gP]
  have h63:((ys.length:Nat):Int)<=9223372036854775807:=by simp only[maxLen] at hl;omega
  have fin:∀ v w' cap,ys.length<=cap->cap<=maxLen->v = .slice (some ⟨w.heap.size,0,none⟩) ys.length cap->w'=w.drew.alloc (.cells (news.toArray++Builtin.zeroCells z.cells (cap-ys.length)) e) →
    da w0 N0 A env h w (.det pre (.own nm u.size) ((nm,.live (.row e u ys))::dn.map λn=>(n,.dead))) v w':=by
   rintro v w' cap hc1 hc2 rfl rfl;have cg:cY w (w.drew.alloc (.cells (news.toArray++Builtin.zeroCells z.cells (cap-ys.length)) e)) λ_=>False:=(cY.drew w _).trans (cY.alloc w.drew _ _);have hsize:(news.toArray++Builtin.zeroCells z.cells (cap-ys.length)).size=cap*u.size:=by
    simp only[Array.size_append,rq,hnl,size_zeroCells,hzs,← fP];congr 1;omega
   refine pA m hun dn hdn (W:=λ_=>False) (ev := .blk w.heap.size (0,ys.length)) cg (λ_ h=>h.elim) (by simp) (λk l e=>by cases e;exact .inl (iq _)) (λx=>.inr ⟨w.heap.size,(0,ys.length),cap*u.size,rfl,?_,?_,?_⟩)
   .refine⟨_,cap,heap_alloc_new w.drew _,by rw[hsize,gk],rfl,hc1,hc2,λi hi=>?_⟩;rw[gk];have:=Hs (A:=A) (w:=w) (xs:=([]:List u.D)) (ys:=ys) (olds:=[]) (news:=news) (rest:=(Builtin.zeroCells z.cells (cap-ys.length)).toList) (by simp) hnl (by simp) hrdn i (by simpa using hi);refine iA (λ_ h=>h) x.keep u _ _ _ _ (λj _=>?_) this;rw[U0];rfl
   .unfold World.shape?;have hh:=heap_alloc_new w.drew (.cells (news.toArray++Builtin.zeroCells z.cells (cap-ys.length)) e);simp only[World.size_drew] at hh;rw[hh];simp only[hsize]
   .show _=Value.slice _ _ ((cap*u.size-0)/u.size);rw[Nat.sub_zero,qE _ u.size_pos]
  have hge:=grownCap_ge w ys.length 0 e;have hcm:=grownCap_le_maxLen w ys.length 0 e hl;cases p with
  | none =>
   exact⟨_,_,run_append_nil (P:=P) w t ty e i z ht hi hz ⟨b,off,none⟩ ys.length c news (by rw[hnl,hisz]) hnews (by omega) h63 (by omega),fin _ _ _ hge hcm rfl rfl⟩
  | some pa =>
   have hr:=run_append_grow (P:=P) w t ty e i z ht hi hz pa 0 0 [] (by simp) (by simp) ⟨b,off,none⟩ ys.length c news (by rw[hnl,hisz]) hnews (by omega) (by simpa using h63) (growslice_fits (by omega) (by simpa using hby));simp only[gk] at hr;exact⟨_,_,hr,fin _ _ _ hge hcm rfl (by simp)⟩
theorem Oy(m:Mod w0 N0 A env h w)(f:FD A env w ρ a){t:TypeId}{nm:Nat}{s x:Operand}(ho:o.op = .call {callee := .builtin .append,args := #[s,x],argTypes := #[t,t]})
  (e:(Cm P t nm (aW ρ s) (aW ρ x)).run h=some (d,r)) (hp:bV d.pre):bo P o a w0 N0 A env h w d:=by
 have ds:=de f s
 have dx:=de f x
 have exe:∀{v:Value}{w':World},(Builtin.append_ #[t,t] o.type #[a.eval s,a.eval x]).run P w = .ok v w'→(execOp a.eval o).run P w = .ok (.value v) w':=by
  intro v w' hr;unfold execOp;rw[ho];simp only[resolve,invoke,builtin,Sem.run_bind,Sem.run_pure,Result.andThen_ok,List.map_toArray,fF,List.map_nil,hr]
 unfold Cm at e
 split at e
 next E sz he=>
  obtain⟨hu,hsz⟩:=vG he;split at e
  .rename_i i hi;split at e
   .rename_i z hb1 hz;have hb1:1<=i.bytes:=lG hb1;split at e
    .rename_i hzs;have hzs:z.cells.size=sz:=bG hzs;have hisz:i.size=sz:=by unfold gK at hsz;rw[hi] at hsz;simpa using hsz
     split at e
     .rename_i n sz' hs;rw[hs] at ds;simp only[az] at ds;simp only[Q.run] at e;split at e
      .rename_i p q hk;simp only[bp,br] at e;obtain⟨rfl,rfl⟩:=e;split at hk
       .rename_i E' u xs hl;split at hk
        .rename_i hE h1 h2;have hE:E'=E:=bG hE;have h1:sz=u.size:=bG h1;have h2:sz'=u.size:=bG h2;subst hE;obtain⟨ys,q1,q2,e1,e2,rfl⟩:=Q.run_bind _ _ _ hk;simp only[Q.run] at e2;split at e2
         .rename_i p' q' hk';simp only[bp,br] at e2;obtain⟨rfl,rfl⟩:=e2;split at hk'
          .rename_i hun;cases cA hk';simp only[Dl.pre,bV,io] at hp;obtain⟨pq,c,ev,hyl,hsrc⟩:=GB m e1 dx;have hdn:∀ n'∈[n],∃ b,h n' = .live b/\b.mut=true:=by simp[hl,kZ.mut]
           rcases ds with⟨hnil,pa,es⟩|⟨b,len,E2,cc,hb,hsh,es⟩
           .have hx:xs=[]:=by
             have:=m.nm n;rw[hl] at this;rcases this with⟨k',l',he',_⟩|⟨_,E3,t3,hb⟩
             .rw[hnil] at he';cases he'
             .rcases hb with hb|hb <;> cases hb;rfl
            subst hx;simp only[List.length_nil,gk] at hp;obtain⟨v,w',hr,g⟩:=IH (P:=P) (ty:=o.type) (p:=pa) (q:=pq) (c:=c) (pre:=[(([]:List u.D).length+ys.length)*i.bytes<=140737488355328]) m hu hsz hi hz hzs hb1 h1 hun [n] hdn hyl hp hsrc;refine⟨v,w',.inl (exe (by rw[es,ev];exact hr)),?_⟩;simpa using g
           .obtain⟨β,len⟩:=len;obtain⟨cur,cap,hh,hcs,hxl,hlc,hcm,hrd⟩:=(m.live_blk hl hb).1;simp only at hcs hxl hlc hrd es;have hcc:cc=cur.size:=by
             unfold World.shape? at hsh;rw[hh] at hsh;simp only[bp,br] at hsh;exact hsh.2.symm
            have hcap:(cc-β)/sz'=cap:=by rw[hcc,hcs,h2,lC];exact qE _ u.size_pos
            rw[hcap] at es;have hne:nm≠n:=λe'=>by rw[e',hl] at hun;cases hun
            have hnA:=(m.live_blk hl hb).2 rfl;subst h1;by_cases h0:ys.length=0
            .have:ys=[]:=oW h0;subst this;refine⟨.slice (some ⟨b,β,none⟩) len cap,w,.inl (exe (by rw[es,ev];exact Rm hu hsz _ _ _ _ _ hlc)),?_⟩;have g:=pA (pre:=[(xs.length+([]:List u.D).length)*i.bytes<=140737488355328]) (v := .slice (some ⟨b,β,none⟩) len cap) (E:=E') (t:=u) (zs:=xs++[]) m hun [n] hdn (W:=λ_=>False) (ev := .blk b (β,len)) (cY.refl w _) (λ_ h=>h.elim) (by simp)
              (λk l e=>by cases e;exact .inr ⟨n,(β,len),by simp,hb⟩) (λx=>.inr ⟨b,(β,len),cc,rfl,by rw[jG];exact (m.live_blk hl hb).1,by rw[hsh];unfold World.shape? at hsh;rw[hh] at hsh;cases hsh;rfl,by rw[← h2,hcap]⟩)
             simpa using g
            .obtain⟨bb,off,rfl,hrdy⟩:=hsrc.resolve_left h0;obtain⟨news,hnl,hnc,hn1⟩:=DJ ys off hrdy;have hnews:∀ j v,news[j]? = some v->w.cell? ((⟨bb,off,none⟩:Addr).add j)=some v:=by
              intro j v hj;rw[Addr.add_lit,hnc j (List.getElem?_eq_some_iff.1 hj).1];exact hj
             have hrdn:∀ i (hi:i<ys.length),Rd A w u (λj=>news[j]?) (i*u.size) ys[i]:=λi hi =>
              tL (hrdy i hi) λj hj=>by
               have:(i+1)*u.size<=ys.length*u.size:=mz _ (by omega);rw[fP,jZ] at this;rw[← hnc _ (by omega),gP]
             have holds:∀ i (hi:i<xs.length),Rd A w u (λj=>((cur.toList.drop β).take (len*u.size))[j]?) (i*u.size) xs[i]:=λi hi =>
              tL (hrd i hi) λj hj=>by
               have:(i+1)*u.size<=len*u.size:=mz _ (by omega);rw[fP,jZ] at this;rw[pE,am (by omega),pd,kI,gP]
             have hlec:len*u.size<=cap*u.size:=mz _ hlc;have hol:((cur.toList.drop β).take (len*u.size)).length=xs.length*u.size:=by rw[dA,fv,gg,hxl];omega
             have hlen:(xs++ys).length=len+ys.length:=by rw[cu,hxl]
             have hsum:len+ys.length<=maxLen:=by
              have:(len+ys.length)*1<=(xs.length+ys.length)*i.bytes:=by rw[hxl];exact Nat.mul_le_mul_left _ hb1
              simp only[maxLen];omega
             by_cases hroom:len+ys.length<=cap
             .have hfit:β+len*u.size+news.length<=cur.size:=by
               have:(len+ys.length)*u.size<=cap*u.size:=mz _ hroom;rw[fP] at this;rw[hnl,hcs];omega
              have hr:=U5 (P:=P) w t o.type E' i hu hi b β len cap cur hh ⟨bb,off,none⟩ ys.length c news (by rw[hnl,hisz]) hnews hn1 hroom (by rw[hisz];exact hfit);rw[hisz] at hr;refine⟨_,_,.inl (exe (by rw[es,ev];exact hr)),?_⟩;have hsize:(cur.toList.take (β+len*u.size)++news++cur.toList.drop (β+len*u.size+news.length)).toArray.size=cur.size:=by
               simp only[rq,cu,dA,fv,gg];omega
              have cg:=cY.setRow w b cur _ E' hh hsize;refine pA m hun [n] hdn (W:=λj=>j=b) (ev := .blk b (β,len+ys.length)) cg (λk hk=>⟨n,(β,len),by simp,hk▸hb⟩) (by simp) (λk l e=>by cases e;exact .inr ⟨n,(β,len),by simp,hb⟩) (λx=>.inr ⟨b,(β,len+ys.length),β+cap*u.size,rfl,?_,?_,?_⟩)
              .refine⟨_,cap,setRow_heap w b cur _ E' _ hh,by rw[hsize,hcs],hlen,hroom,hcm,λi hi=>?_⟩;refine iA (λ_ h=>h) x.keep u _ _ _ _ (λj _=>rfl) (tL (Hs (rest:=cur.toList.drop (β+len*u.size+news.length)) hol hnl holds hrdn i hi) λj hj=>?_);simp only[List.getElem?_toArray];rw[List.take_add,ia,ia,jU (by rw[dA,gg];omega),ia];congr 1;rw[dA,gg];omega
              .unfold World.shape?;rw[setRow_heap w b cur _ E' _ hh];simp only[hsize,hcs]
              .show _=Value.slice _ _ ((β+cap*u.size-β)/u.size);rw[lC,qE _ u.size_pos]
             .have holdsc:∀ j v,((cur.toList.drop β).take (len*u.size))[j]? = some v->w.cell? ((⟨b,β,none⟩:Addr).add j)=some v:=by
               intro j v hj;rw[Addr.add_lit,cell_of_row w b _ cur E' (0,0) hh];rw[pE] at hj;split at hj
               .rwa [pd,kI] at hj
               .cases hj
              have hr:=run_append_grow (P:=P) w t o.type E' i z hu hi hz ⟨b,β,none⟩ len cap ((cur.toList.drop β).take (len*u.size)) (by rw[hol,hxl,hisz]) holdsc ⟨bb,off,none⟩ ys.length c news (by rw[hnl,hisz]) hnews (by omega)
               (by simp only[maxLen] at hsum;omega) (growslice_fits (by omega) (by rw[← hxl];exact hp))
              refine⟨_,_,.inl (exe (by rw[es,ev];exact hr)),?_⟩;have hge:=grownCap_ge w (len+ys.length) cap E';have hcm':=grownCap_le_maxLen w (len+ys.length) cap E' hsum;generalize grownCap w (len+ys.length) cap E'=cap' at *;have hsize:(((cur.toList.drop β).take (len*u.size)).toArray++news.toArray++Builtin.zeroCells z.cells (cap'-(len+ys.length))).size=cap'*u.size:=by
               simp only[Array.size_append,rq,hol,hnl,size_zeroCells,hzs,← fP];congr 1;omega
              have cg:cY w (w.drew.alloc (.cells (((cur.toList.drop β).take (len*u.size)).toArray++news.toArray++Builtin.zeroCells z.cells (cap'-(len+ys.length))) E')) λ_=>False:=(cY.drew w _).trans (cY.alloc w.drew _ _);refine pA m hun [n] hdn (W:=λ_=>False) (ev := .blk w.heap.size (0,len+ys.length)) cg (λ_ h=>h.elim) (by simp) (λk l e=>by cases e;exact .inl (iq _)) (λx=>.inr ⟨w.heap.size,(0,len+ys.length),cap'*u.size,rfl,?_,?_,?_⟩)
              .refine⟨_,cap',heap_alloc_new w.drew _,by rw[hsize,gk],hlen,hge,hcm',λi hi=>?_⟩;have:=Hs (A:=A) (w:=w) (rest:=(Builtin.zeroCells z.cells (cap'-(len+ys.length))).toList) hol hnl holds hrdn i hi;rw[gk];refine iA (λ_ h=>h) x.keep u _ _ _ _ (λj _=>?_) this;rw[T8]
              .unfold World.shape?;have hh':=heap_alloc_new w.drew (.cells (((cur.toList.drop β).take (len*u.size)).toArray++news.toArray++Builtin.zeroCells z.cells (cap'-(len+ys.length))) E');simp only[World.size_drew] at hh';rw[hh'];simp only[hsize]
              .show _=Value.slice _ _ ((cap'*u.size-0)/u.size);rw[Nat.sub_zero,qE _ u.size_pos]
          .cases hk'
         .cases e2
        .cases hk
       .cases hk
      .cases e
     .rename_i hs;rw[hs] at ds;simp only[az] at ds;split at e
      .rename_i u hct;split at e
       .rename_i h1;have h1:sz=u.size:=bG h1;obtain⟨ys,q1,q2,e1,e2,rfl⟩:=Q.run_bind _ _ _ e;simp only[Q.run] at e2;split at e2
        .rename_i p' q' hk';simp only[bp,br] at e2;obtain⟨rfl,rfl⟩:=e2;split at hk'
         next hun=>cases cA hk';simp only[Dl.pre,bV,io] at hp;obtain⟨pq,c,ev,hyl,hsrc⟩:=GB m e1 dx;obtain⟨v,w',hr,g⟩:=IH (P:=P) (ty:=o.type) (p:=none) (q:=pq) (c:=c) (pre:=[ys.length*i.bytes<=140737488355328]) m hu hsz hi hz hzs hb1 h1 hun [] (by simp) hyl hp hsrc;exact⟨v,w',.inl (exe (by rw[ds,ev];exact hr)),g⟩
         .cases hk'
        .cases e2
       .cases e
      .cases e
     .rename_i u xs hs;rw[hs] at ds;simp only[az] at ds;split at e
      .rename_i h1;have h1:sz=u.size:=bG h1;obtain⟨ys,q1,q2,e1,e2,rfl⟩:=Q.run_bind _ _ _ e;simp only[Q.run] at e2;split at e2
       .rename_i p' q' hk';simp only[bp,br] at e2;obtain⟨rfl,rfl⟩:=e2;split at hk'
        next hun=>cases cA hk';simp only[Dl.pre,bV,io] at hp;obtain⟨hp1,rfl⟩:=hp;obtain⟨_,pa,es⟩:=ds;obtain⟨pq,c,ev,hyl,hsrc⟩:=GB m e1 dx;simp only[List.length_nil,gk] at hp1;obtain⟨v,w',hr,g⟩:=IH (P:=P) (ty:=o.type) (p:=pa) (q:=pq) (c:=c) (pre:=[(([]:List u.D).length+ys.length)*i.bytes<=140737488355328,([]:List u.D)=[]]) m hu hsz hi hz hzs hb1 h1 hun [] (by simp) hyl hp1 hsrc;exact⟨v,w',.inl (exe (by rw[es,ev];exact hr)),g⟩
        .cases hk'
       .cases e2
      .cases e
     .cases e
    .cases e
   .cases e
  .cases e
 .cases e
end
end Go.SX
namespace Go.SX
section
variable {P:Program} {w0:World} {N0:f5} {A:Nat->Prop} {env:aZ} {h:bN} {w:World} {o:Oper} {a:Act} {ρ:Nat->SV} {d:Dl} {r:List Nat}
theorem Gv(len cap:Nat)(lo hi a:Option Value)(l hh m:Nat)
  (hm:(a=none/\m=cap)∨∃ k i,a=some (.int k i)/\0<=i/\i<=cap/\m=i.toNat)
  (b:(hi=none/\a=none/\hh=len)∨∃ k i,hi=some (.int k i)/\0<=i/\i<=m/\hh=i.toNat)
  (c:(lo=none/\l=0)∨∃ k i,lo=some (.int k i)/\0<=i/\i<=hh/\l=i.toNat) :
  (Instr.sliceBounds true len cap lo hi a).run P w = .ok (l,hh,m) w:=by
 rcases hm with⟨rfl,rfl⟩|⟨km,im,rfl,m0,m1,rfl⟩ <;> rcases b with⟨rfl,e,rfl⟩|⟨kh,ih,rfl,h0,h1,rfl⟩ <;> rcases c with⟨rfl,rfl⟩|⟨kl,il,rfl,l0,l1,rfl⟩ <;>
  first
  | (cases e;done)
  | (simp[Instr.sliceBounds,run_sliceBound, *,-Int.ofNat_toNat])
theorem zV{x:Option Operand}{b v:Int}(f:FD A env w ρ a)(e:o5 (x.map (aW ρ)) b=some v) :
  (x=none/\v=b)∨∃ k y,x=some y/\a.eval y = .int k v:=by
 cases x with
 | none=>simp at e;cases e;exact .inl ⟨rfl,rfl⟩
 | some y =>
  have c:=de f y;simp only[Option.map] at e;unfold o5 at e;split at e
  next hh=>cases hh
  next k n hh=>simp at hh;rw[hh] at c;simp only[az] at c;simp_all
  .cases e
theorem Kk{t:CT}{v:Value}{xs:List t.D}(hs:qM A w t v xs){l hh:Nat}(h1:l<=hh)(g:hh<=xs.length) :
  ∃ p cap,v = .slice p xs.length cap/\xs.length<=cap/\cap<=maxLen∧∀ m,hh<=m->m<=cap →
   qM A w t (.slice (if m=l then p else p.map (·.add (l*t.size))) (hh-l) (m-l)) (cO xs l hh):=by
 have a:(cO xs l hh).length=hh-l:=by simp[cO];omega
 obtain⟨hl,⟨⟨p,rfl⟩,rfl⟩|⟨b,off,cap,rfl,c1,c2,c3,c4⟩⟩:=hs
 .refine⟨p,0,rfl,iq _,by simp,λm hm c=>?_⟩;have:m=0:=by omega
  subst this;have d:l=0:=by simp at g;omega
  have e:hh=0:=by simpa using g
  subst d;subst e;exact⟨by simp[cO],.inl ⟨⟨p,by simp⟩,by simp[cO]⟩⟩
 .refine⟨_,cap,rfl,c1,c2,λm hm c=>⟨by omega,?_⟩⟩;by_cases f:m=l
  .simp_all
  .rw[af f];refine .inr ⟨b,off+l*t.size,m-l,by rw[a];simp[Addr.add_lit],by omega,by omega,c3,λi hi=>?_⟩;have eg:(cO xs l hh)[i]=xs[l+i]:=by simp[cO]
   grind
theorem Tm(m:Mod w0 N0 A env h w)(f:FD A env w ρ a){t:TypeId}{x:Operand}{lo hi mx:Option Operand}(ho:o.op = .slice t x lo hi mx)
  (e:(Ip P t (aW ρ x) (lo.map (aW ρ)) (hi.map (aW ρ)) (mx.map (aW ρ))).run h=some (d,r)) (hp:bV d.pre):bo P o a w0 N0 A env h w d:=by
 have dx:=de f x
 unfold Ip at e
 split at e
 next E sz he=>
  obtain⟨hu,hsz⟩:=vG he;have exe:∀{p:Option Addr}{len cap l hh m:Nat},a.eval x = .slice p len cap →
    ((mx=none/\m=cap)∨∃ y k i,mx=some y/\a.eval y = .int k i/\0<=i/\i<=cap/\m=i.toNat) →
    ((hi=none/\mx=none/\hh=len)∨∃ y k i,hi=some y/\a.eval y = .int k i/\0<=i/\i<=m/\hh=i.toNat) →
    ((lo=none/\l=0)∨∃ y k i,lo=some y/\a.eval y = .int k i/\0<=i/\i<=hh/\l=i.toNat) →
    (execOp a.eval o).run P w = .ok (.value (.slice (if m=l then p else p.map (·.add (l*sz))) (hh-l) (m-l))) w:=by
   intro p len cap l hh m ev hm hhi hlo;unfold execOp;rw[ho];have hb:=Gv (P:=P) (w:=w) len cap (lo.map a.eval) (hi.map a.eval) (mx.map a.eval) l hh m
    (by rcases hm with⟨rfl,rfl⟩|⟨y,k,i,rfl,e1,e2⟩;exact .inl ⟨rfl,rfl⟩;exact .inr ⟨k,i,by simp[e1],e2⟩)
    (by rcases hhi with⟨rfl,rfl,rfl⟩|⟨y,k,i,rfl,e1,e2⟩;exact .inl ⟨rfl,rfl,rfl⟩;exact .inr ⟨k,i,by simp[e1],e2⟩)
    (by rcases hlo with⟨rfl,rfl⟩|⟨y,k,i,rfl,e1,e2⟩;exact .inl ⟨rfl,rfl⟩;exact .inr ⟨k,i,by simp[e1],e2⟩)
   simp only[Instr.sliceAt,Instr.slice,Sem.run_bind,run_underlying hu,Result.andThen_ok,ev,hb,kS hsz,Sem.run_pure]
  have loF:∀{l hh:Int}{len:Nat},o5 (lo.map (aW ρ)) 0=some l->0<=l->l<=hh->((lo=none/\l.toNat=0)∨∃ y k i,lo=some y/\a.eval y = .int k i/\0<=i/\i<=hh.toNat/\l.toNat=i.toNat):=by
   intro l hh len hb h0 h1;rcases zV f hb with⟨rfl,rfl⟩|⟨k,y,rfl,e1⟩
   .exact .inl ⟨rfl,rfl⟩
   .exact .inr ⟨y,k,l,rfl,e1,h0,by omega,rfl⟩
  split at e
  .rename_i u xs hx;rw[hx] at dx;simp only[az] at dx;split at e
   .rename_i l hh hs1 hb1 hb2;have hs1:sz=u.size:=bG hs1;subst hs1;split at e
    .rename_i hmx;cases cA e;simp only[Dl.pre,bV,io] at hp;have hmx':mx=none:=by cases mx <;> simp_all
     obtain⟨p,cap,ev,c1,c2,c3⟩:=Kk dx (l:=l.toNat) (hh:=hh.toNat) (by omega) (by omega);refine bo.pure m (exe ev (.inl ⟨hmx',rfl⟩) ?_ (loF (len:=0) hb1 hp.1 hp.2.1)) (by simp only[az];exact c3 cap (by omega) (iq _));rcases zV f hb2 with⟨rfl,rfl⟩|⟨k,y,rfl,e1⟩
     .exact .inl ⟨rfl,hmx',by simp⟩
     .exact .inr ⟨y,k,hh,rfl,e1,by omega,by omega,rfl⟩
    .rename_i km mm hmx;split at e
     case h_2=>cases e
     rename_i ys hhi;cases cA e;simp only[Dl.pre,bV,io] at hp;obtain⟨hp1,hp2,hp3,hp4⟩:=hp;cases mx with
     | none=>cases hmx
     | some y =>
      have dy:=de f y;simp only[Option.map,bp] at hmx;rw[hmx] at dy;simp only[az] at dy;obtain⟨p,cap,ev,c1,c2,c3⟩:=Kk dx (l:=l.toNat) (hh:=hh.toNat) (by omega) (by omega);refine bo.pure m (exe ev (.inr ⟨y,km,mm,rfl,dy.1,by omega,by omega,rfl⟩) ?_ (loF (len:=0) hb1 hp1 hp2)) ?_
      .rcases zV f hb2 with⟨rfl,rfl⟩|⟨k,y',rfl,e1⟩
       .cases hhi
       .exact .inr ⟨y',k,hh,rfl,e1,by omega,by omega,rfl⟩
      .simp only[az];have hlen:(cO xs l.toNat hh.toNat).length=hh.toNat-l.toNat:=by simp[cO];omega
       exact⟨c3 mm.toNat (by omega) (by omega),_,by rw[hlen];congr 1;omega⟩
    .cases e
   .cases e
  .rename_i n sz' hx;rw[hx] at dx;simp only[az] at dx;split at e
   .rename_i hmx;have hmx':mx=none:=by cases mx <;> simp_all
    simp only[Q.run] at e;split at e
    .rename_i p q hk;simp only[bp,br] at e;obtain⟨rfl,rfl⟩:=e;have fin:∀{E':TypeId}{u:CT}{xs:List u.D}{l hh:Int}{A':Nat->Prop}{h':bN},Mod w0 N0 A' env h' w->dB A env w A' env w->(h n = .live (.row E' u xs)∨h n = .live (.frz E' u xs)) →
       h' n = .live (.frz E' u xs)->sz=u.size->sz'=u.size →
       o5 (lo.map (aW ρ)) 0=some l->o5 (hi.map (aW ρ)) xs.length=some hh->0<=l->l<=hh->hh<=xs.length →
       ∃ v,(execOp a.eval o).run P w = .ok (.value v) w/\az A' env w (.dsl u (cO xs l.toNat hh.toNat)) v:=by
      intro E' u xs l hh A' h' m' x' hl hl' h1 h2 hb1 hb2 p1 p2 p3;have hrs:qM A' w u (a.eval x) xs:=by
       rcases dx with⟨hnil,pa,ev⟩|⟨b,len,E2,c,hb,hsh,ev⟩
       .have hx0:xs=[]:=by
         have:=m'.nm n;rw[hl'] at this;rcases this with⟨k',l',he',_⟩|⟨_,E3,t3,hb⟩
         .rw[hnil] at he';cases he'
         .rcases hb with hb|hb <;> cases hb;rfl
        subst hx0;exact⟨by simp,.inl ⟨⟨pa,ev⟩,rfl⟩⟩
       .have hbd:=(m'.live_blk hl' hb).1;rw[ev,h2];exact D9 (λ_ h=>h) hbd.2 hbd.1 hsh
      subst h1;obtain⟨p,cap,ev,c1,c2,c3⟩:=Kk hrs (l:=l.toNat) (hh:=hh.toNat) (by omega) (by omega);refine⟨_,exe ev (.inl ⟨hmx',rfl⟩) ?_ (loF (len:=0) hb1 p1 p2),by simp only[az];exact c3 cap (by omega) (iq _)⟩;rcases zV f hb2 with⟨rfl,rfl⟩|⟨k,y,rfl,e1⟩
      .exact .inl ⟨rfl,hmx',by simp⟩
      .exact .inr ⟨y,k,hh,rfl,e1,by omega,by omega,rfl⟩
     split at hk
     .rename_i E' u xs hl;split at hk
      .rename_i l hh h1 h2 hb1 hb2;cases cA hk;simp only[Dl.pre,bV,io] at hp;have ok:oe h [(n,.live (.frz E' u xs))]:=by
        intro n' b hb;simp only[iP,br] at hb;obtain⟨rfl,rfl⟩:=hb;exact⟨E',u,xs,hl,rfl⟩
       obtain⟨m2,x2⟩:=m.freeze ok;obtain⟨v,hr,hd⟩:=fin m2 x2 (.inl hl) (by simp[cZ]) (bG h1) (bG h2) hb1 hb2 hp.1 hp.2.1 hp.2.2;exact⟨v,w,.inl hr,(),_,env,trivial,m2,x2,hd⟩
      .cases hk
     .rename_i E' u xs hl;split at hk
      next l hh h1 h2 hb1 hb2=>cases cA hk;simp only[Dl.pre,bV,io] at hp;obtain⟨v,hr,hd⟩:=fin m dB.refl (.inr hl) hl (bG h1) (bG h2) hb1 hb2 hp.1 hp.2.1 hp.2.2;exact bo.pure m hr hd
      .cases hk
     .cases hk
    .cases e
   .cases e
  .rename_i hx;rw[hx] at dx;simp only[az] at dx;split at e
   .rename_i l hh hb1 hb2 hmx;have hmx':mx=none:=by cases mx <;> simp_all
    cases cA e;simp only[Dl.pre,bV,io] at hp;obtain⟨rfl,rfl⟩:=hp;have hr:=exe (l:=0) (hh:=0) (m:=0) dx (.inl ⟨hmx',rfl⟩) (by
     rcases zV f hb2 with⟨rfl,_⟩|⟨k,y,rfl,e1⟩
     .exact .inl ⟨rfl,hmx',rfl⟩
     .exact .inr ⟨y,k,0,rfl,e1,by omega,by omega,rfl⟩) (by
     rcases zV f hb1 with⟨rfl,_⟩|⟨k,y,rfl,e1⟩
     .exact .inl ⟨rfl,rfl⟩
     .exact .inr ⟨y,k,0,rfl,e1,by omega,by omega,rfl⟩)
    exact bo.pure m hr (by simp[az])
   .cases e
  .cases e
 .cases e
def FV(P:Program)(t:TypeId)(nm:Nat)(x:SV)(lo hi mx:Option SV):Q Dl:=match rL P t,lo,hi,mx with
 | some (_,sz),none,some (.int _ hh),none=>match x with
  | .own n sz' => .ask n fun
   | .live (.row E u xs)=>match Nat.beq sz u.size,Nat.beq sz' u.size with
    | true,true => .ask nm fun
     | .un => .ret (.det [0<=hh,hh<=xs.length] (.own nm sz) [(nm,.live (.row E u (xs.take hh.toNat))),(n,.dead)])
     | _ => .fail
    | _,_ => .fail
   | _ => .fail
  | _ => .fail
 | some (_,sz),some (.int _ l),none,none=>match x with
  | .own n sz' => .ask n fun
   | .live (.row E u xs)=>match Nat.beq sz u.size,Nat.beq sz' u.size with
    | true,true => .ask nm fun
     | .un => .ret (.det [0<=l,l<=xs.length] (.own nm sz) [(nm,.live (.row E u (xs.drop l.toNat))),(n,.dead)])
     | _ => .fail
    | _,_ => .fail
   | _ => .fail
  | _ => .fail
 | _,_,_,_ => .fail
def Hi(P:Program)(t tn:TypeId)(nm:Nat)(s x:SV):Q Dl:=match rL P t,s,x,P.underlying tn with
 | some (e,sz),.nilsl,.int _ n,some (.int _)=>match xS P 8 e,zeroCells P e,P.info? e with
  | some u,some z,some i=>match Nat.beq u.size sz,Nat.beq z.length sz,Nat.ble 1 i.bytes,jH u z with
   | true,true,true,.ret (d,_,[]) => .ask nm fun
    | .un => .ret (.det [0<=n,n*(i.bytes:Int)<=140737488355328] (.own nm sz) [(nm,.live (.row e u (replicate n.toNat d)))])
    | _ => .fail
   | _,_,_,_ => .fail
  | _,_,_ => .fail
 | _,_,_,_ => .fail
def vg(P:Program)(t:TypeId)(x:SV):Q Dl:=match P.underlying t,x with
 | some (.slice _),.nilsl=>cj (.int .i64 0)
 | _,_ => .fail
theorem aH0(m:Mod w0 N0 A env h w)(f:FD A env w ρ a){t:TypeId}{x:Operand}(ho:o.op = .call {callee := .builtin .cap,args := #[x],argTypes := #[t]})
  (e:(vg P t (aW ρ x)).run h=some (d,r)):bo P o a w0 N0 A env h w d:=by
 have dx:=de f x
 unfold vg at e
 split at e
 next E hu hx=>rw[hx] at dx;simp only[az] at dx;unfold cj at e;cases cA e;refine bo.pure m (v := .int .i64 0) ?_ (by simp only[az];exact⟨trivial,K3 (by decide)⟩);unfold execOp;rw[ho];simp[resolve,invoke,builtin,Builtin.cap_,run_underlying hu,dx,goInt]
 .cases e
theorem Wr(m:Mod w0 N0 A env h w)(f:FD A env w ρ a){t:TypeId}{nm:Nat}{x:Operand}{lo hi mx:Option Operand}(ho:o.op = .slice t x lo hi mx)
  (e:(FV P t nm (aW ρ x) (lo.map (aW ρ)) (hi.map (aW ρ)) (mx.map (aW ρ))).run h=some (d,r)) (hp:bV d.pre):bo P o a w0 N0 A env h w d:=by
 have dx:=de f x
 unfold FV at e
 split at e
 case h_3=>cases e
 next E sz kh hh he hlo hhi hmx=>
  obtain⟨hu,hsz⟩:=vG he;have hlo':lo=none:=by cases lo <;> simp_all
  have hmx':mx=none:=by cases mx <;> simp_all
  subst hlo' hmx';cases hi with
  | none=>cases hhi
  | some y =>
  simp only[Option.map,bp] at hhi;have dy:=de f y;rw[hhi] at dy;simp only[az] at dy;split at e
  case h_2=>cases e
  rename_i n sz' hx;rw[hx] at dx;simp only[az] at dx;simp only[Q.run] at e;split at e
  case h_2=>cases e
  rename_i p q hk;simp only[bp,br] at e;obtain⟨rfl,rfl⟩:=e;split at hk
  case h_2=>cases hk
  rename_i E' u xs hl;split at hk
  case h_2=>cases hk
  rename_i hs1 hs2;have hs1:sz=u.size:=bG hs1;have hs2:sz'=u.size:=bG hs2;subst hs1;simp only[Q.run] at hk;split at hk
  case h_2=>cases hk
  rename_i p' q' hk';simp only[bp,br] at hk;obtain⟨rfl,rfl⟩:=hk;split at hk'
  case h_2=>cases hk'
  rename_i hun;cases cA hk';simp only[Dl.pre,bV,io] at hp;have exe:∀{p:Option Addr}{len cap:Nat},a.eval x = .slice p len cap->hh.toNat<=cap->(execOp a.eval o).run P w = .ok (.value (.slice p hh.toNat cap)) w:=by
   intro p len cap ev hc;unfold execOp;rw[ho];have hb:=Gv (P:=P) (w:=w) len cap none (some (a.eval y)) none 0 hh.toNat cap (.inl ⟨rfl,rfl⟩) (.inr ⟨kh,hh,by rw[dy.1],hp.1,by omega,rfl⟩) (.inl ⟨rfl,rfl⟩);simp only[Option.map,Instr.sliceAt,Instr.slice,Sem.run_bind,run_underlying hu,Result.andThen_ok,ev,hb,kS hsz,Sem.run_pure,Nat.zero_mul,Nat.sub_zero];congr 3;split
   .rfl
   .cases p <;> simp[Addr.add]
  have hdn:∀ n'∈[n],∃ b,h n' = .live b/\b.mut=true:=by simp[hl,kZ.mut]
  rcases dx with⟨hnil,pa,es⟩|⟨b,len,E2,cc,hb,hsh,es⟩
  .have hx:xs=[]:=by
    have:=m.nm n;rw[hl] at this;rcases this with⟨k',l',he',_⟩|⟨_,E3,t3,hb⟩
    .rw[hnil] at he';cases he'
    .rcases hb with hb|hb <;> cases hb;rfl
   subst hx;have h0:hh.toNat=0:=by simp at hp;omega
   have g:=pA (pre:=[0<=hh,hh<=([]:List u.D).length]) (v := .slice pa 0 0) (E:=E') (t:=u) (zs:=([]:List u.D).take hh.toNat) m hun [n] hdn (W:=λ_=>False) (ev := .nil) (cY.refl w _) (λ_ h=>h.elim) (by simp)
    (λk l e=>by cases e) (λ_=>.inl ⟨rfl,by simp,pa,rfl⟩)
   exact⟨_,w,.inl (exe es (by omega)),by rw[h0];simpa using g⟩
  .obtain⟨β,len⟩:=len;obtain⟨cur,cap,hhp,hcs,hxl,hlc,hcm,hrd⟩:=(m.live_blk hl hb).1;simp only at hcs hxl hlc hrd es;have hcc:cc=cur.size:=by
    unfold World.shape? at hsh;rw[hhp] at hsh;simp only[bp,br] at hsh;exact hsh.2.symm
   have hcap:(cc-β)/sz'=cap:=by rw[hcc,hcs,hs2,lC];exact qE _ u.size_pos
   rw[hcap] at es;have hle:hh.toNat<=xs.length:=by omega
   have g:=pA (pre:=[0<=hh,hh<=xs.length]) (v := .slice (some ⟨b,β,none⟩) hh.toNat cap) (E:=E') (t:=u) (zs:=xs.take hh.toNat) m hun [n] hdn (W:=λ_=>False) (ev := .blk b (β,hh.toNat)) (cY.refl w _) (λ_ h=>h.elim) (by simp)
    (λk l e=>by cases e;exact .inr ⟨n,(β,len),by simp,hb⟩) (λx=>.inr ⟨b,(β,hh.toNat),cc,rfl,⟨cur,cap,hhp,hcs,by simp;omega,by omega,hcm,λi hi=>?_⟩,by rw[hsh];unfold World.shape? at hsh;rw[hhp] at hsh;cases hsh;rfl,by rw[← hs2,hcap]⟩)
   .exact⟨_,w,.inl (exe es (by omega)),by simpa using g⟩
   .have hi':i<xs.length:=by simp at hi;omega
    rw[List.getElem_take];exact hrd i hi'
 next E sz kl l he hlo hhi hmx=>
  obtain⟨hu,hsz⟩:=vG he;have hhi':hi=none:=by cases hi <;> simp_all
  have hmx':mx=none:=by cases mx <;> simp_all
  subst hhi' hmx';cases lo with
  | none=>cases hlo
  | some y =>
  simp only[Option.map,bp] at hlo;have dy:=de f y;rw[hlo] at dy;simp only[az] at dy;split at e
  case h_2=>cases e
  rename_i n sz' hx;rw[hx] at dx;simp only[az] at dx;simp only[Q.run] at e;split at e
  case h_2=>cases e
  rename_i p q hk;simp only[bp,br] at e;obtain⟨rfl,rfl⟩:=e;split at hk
  case h_2=>cases hk
  rename_i E' u xs hl;split at hk
  case h_2=>cases hk
  rename_i hs1 hs2;have hs1:sz=u.size:=bG hs1;have hs2:sz'=u.size:=bG hs2;subst hs1;simp only[Q.run] at hk;split at hk
  case h_2=>cases hk
  rename_i p' q' hk';simp only[bp,br] at hk;obtain⟨rfl,rfl⟩:=hk;split at hk'
  case h_2=>cases hk'
  rename_i hun;cases cA hk';simp only[Dl.pre,bV,io] at hp;have exe:∀{p:Option Addr}{len cap:Nat},a.eval x = .slice p len cap->l.toNat<=len->(execOp a.eval o).run P w = .ok (.value (.slice (if cap=l.toNat then p else p.map (·.add (l.toNat*u.size))) (len-l.toNat) (cap-l.toNat))) w:=by
   intro p len cap ev hc;unfold execOp;rw[ho];have hb:=Gv (P:=P) (w:=w) len cap (some (a.eval y)) none none l.toNat len cap (.inl ⟨rfl,rfl⟩) (.inl ⟨rfl,rfl,rfl⟩) (.inr ⟨kl,l,by rw[dy.1],hp.1,by omega,rfl⟩);simp only[Option.map,Instr.sliceAt,Instr.slice,Sem.run_bind,run_underlying hu,Result.andThen_ok,ev,hb,kS hsz,Sem.run_pure]
  have hdn:∀ n'∈[n],∃ b,h n' = .live b/\b.mut=true:=by simp[hl,kZ.mut]
  rcases dx with⟨hnil,pa,es⟩|⟨b,len,E2,cc,hb,hsh,es⟩
  .have hx:xs=[]:=by
    have:=m.nm n;rw[hl] at this;rcases this with⟨k',l',he',_⟩|⟨_,E3,t3,hb⟩
    .rw[hnil] at he';cases he'
    .rcases hb with hb|hb <;> cases hb;rfl
   subst hx;have h0:l.toNat=0:=by simp at hp;omega
   have g:=pA (pre:=[0<=l,l<=([]:List u.D).length]) (v := .slice pa 0 0) (E:=E') (t:=u) (zs:=([]:List u.D).drop l.toNat) m hun [n] hdn (W:=λ_=>False) (ev := .nil) (cY.refl w _) (λ_ h=>h.elim) (by simp)
    (λk l e=>by cases e) (λ_=>.inl ⟨rfl,by simp,pa,rfl⟩)
   have ex:=exe es (by omega);rw[h0] at ex;exact⟨_,w,.inl ex,by simpa[h0] using g⟩
  .obtain⟨β,len⟩:=len;obtain⟨cur,cap,hhp,hcs,hxl,hlc,hcm,hrd⟩:=(m.live_blk hl hb).1;simp only at hcs hxl hlc hrd es;have hcc:cc=cur.size:=by
    unfold World.shape? at hsh;rw[hhp] at hsh;simp only[bp,br] at hsh;exact hsh.2.symm
   have hcap:(cc-β)/sz'=cap:=by rw[hcc,hcs,hs2,lC];exact qE _ u.size_pos
   rw[hcap] at es;have hle:l.toNat<=xs.length:=by omega
   have ex:=exe es (by omega);by_cases hfull:cap=l.toNat
   .rw[am hfull] at ex;have hz:xs.drop l.toNat=[]:=List.drop_eq_nil_of_le (by omega);have g:=pA (pre:=[0<=l,l<=xs.length]) (v := .slice (some ⟨b,β,none⟩) 0 0) (E:=E') (t:=u) (zs:=xs.drop l.toNat) m hun [n] hdn (W:=λ_=>False) (ev := .nil) (cY.refl w _) (λ_ h=>h.elim) (by simp)
     (λk l e=>by cases e) (λ_=>.inl ⟨rfl,hz,_,rfl⟩)
    rw[show len-l.toNat=0 by omega,show cap-l.toNat=0 by omega] at ex;exact⟨_,w,.inl ex,by simpa using g⟩
   .rw[af hfull] at ex;have hmul:l.toNat*u.size+(cap-l.toNat)*u.size=cap*u.size:=by rw[← fP];congr 1;omega
    have g:=pA (pre:=[0<=l,l<=xs.length]) (v := .slice (some ⟨b,β+l.toNat*u.size,none⟩) (len-l.toNat) (cap-l.toNat)) (E:=E') (t:=u) (zs:=xs.drop l.toNat) m hun [n] hdn (W:=λ_=>False) (ev := .blk b (β+l.toNat*u.size,len-l.toNat)) (cY.refl w _) (λ_ h=>h.elim) (by simp)
     (λk l e=>by cases e;exact .inr ⟨n,(β,len),by simp,hb⟩) (λx=>.inr ⟨b,(β+l.toNat*u.size,len-l.toNat),cc,rfl,⟨cur,cap-l.toNat,hhp,by rw[hcs,gP,hmul],by simp only[fv];omega,by omega,by omega,λi hi=>?_⟩,by rw[hsh];unfold World.shape? at hsh;rw[hhp] at hsh;cases hsh;rfl,by
      show _=Value.slice _ _ ((cc-(β+l.toNat*u.size))/u.size);rw[hcc,hcs,show β+cap*u.size-(β+l.toNat*u.size)=(cap-l.toNat)*u.size by rw[← hmul];omega,qE _ u.size_pos]⟩)
    .exact⟨_,w,.inl ex,by simpa only[Option.map,Addr.add_lit,fF,List.map_nil] using g⟩
    .have hi':i+l.toNat<xs.length:=by simp at hi;omega
     rw[List.getElem_drop];have:=hrd (l.toNat+i) (by omega);rw[show β+(l.toNat+i)*u.size=β+l.toNat*u.size+i*u.size by rw[fP];omega] at this;exact this
theorem K1(z:Array Value)(n:Nat)(hz:0<z.size):(Builtin.zeroCells z n).toList=j4 z.toList n:=by
 apply List.ext_getElem?
 intro i
 by_cases hi:i<n*z.size
 .rw[A4 _ _ _ (by simpa using hi)];unfold Builtin.zeroCells;have hm:i%z.size<z.size:=Nat.mod_lt _ hz;rw[kI,Array.getElem?_map,Array.getElem?_range,am hi];simp[hm]
 .rw[yv (by simp[Builtin.zeroCells];omega),yv (by rw[Eg];simp;omega)]
theorem V2(m:Mod w0 N0 A env h w)(f:FD A env w ρ a){t tn:TypeId}{nm:Nat}{s x:Operand}(ho:o.op = .call {callee := .builtin .append,args := #[s,x],argTypes := #[t,tn]})
  (e:(Hi P t tn nm (aW ρ s) (aW ρ x)).run h=some (d,r)) (hp:bV d.pre):bo P o a w0 N0 A env h w d:=by
 have ds:=de f s
 have dx:=de f x
 have exe:∀{v:Value}{w':World},(Builtin.append_ #[t,tn] o.type #[a.eval s,a.eval x]).run P w = .ok v w'→(execOp a.eval o).run P w = .ok (.value v) w':=by
  intro v w' hr;unfold execOp;rw[ho];simp only[resolve,invoke,builtin,Sem.run_bind,Sem.run_pure,Result.andThen_ok,List.map_toArray,fF,List.map_nil,hr]
 unfold Hi at e
 split at e
 case h_2=>cases e
 rename_i E sz kn n kt he hs hx hut
 obtain⟨hu,hsz⟩:=vG he
 rw[hs] at ds;rw[hx] at dx
 simp only[az] at ds dx
 split at e
 case h_2=>cases e
 rename_i u z i hct hz hi
 split at e
 case h_2=>cases e
 rename_i dd rest hb1 hb2 hb3 hpz
 have hb1:u.size=sz:=bG hb1
 have hb2:z.length=sz:=bG hb2
 have hb3:1<=i.bytes:=lG hb3
 subst hb1
 simp only[Q.run] at e
 split at e
 case h_2=>cases e
 rename_i p q hk
 simp only[bp,br] at e
 obtain⟨rfl,rfl⟩:=e
 split at hk
 case h_2=>cases hk
 rename_i hun
 cases cA hk
 simp only[Dl.pre,bV,io] at hp
 obtain⟨h0,hby⟩:=hp
 obtain⟨i',zv,hi',hzv,dz,_⟩:=yR (A:=A) (env:=env) (w:=w) hz
 rw[hi] at hi';cases hi'
 have hzl:zv.cells.size=u.size:=by rw[← gg,jf dz,hb2]
 have hisz:i.size=u.size:=by
  unfold gK at hsz;rw[hi] at hsz;simpa using hsz
 obtain⟨k,rfl⟩:=pS h0
 have hkb:k*i.bytes<=140737488355328:=by
  have:((k*i.bytes:Nat):Int)<=140737488355328:=by rw[Int.natCast_mul];exact hby
  omega
 have hk1:k<=k*i.bytes:=Nat.le_mul_of_pos_right k (by omega)
 by_cases hk0:k=0
 .subst hk0;have hr:(Builtin.append_ #[t,tn] o.type #[a.eval s,a.eval x]).run P w = .ok (.slice none 0 0) w:=by
   rw[ds,dx.1];have hw:IntKind.i64.wrap ((0:Nat):Int)=0:=by decide
   have hut':P.underlying tn=some (.int kt):=hut;have hai:(asIntOf (Value.int kn 0)).run P w = .ok (kn,0) w:=by simp[asIntOf]
   unfold Builtin.append_;simp[run_underlying hu,run_underlying hut',kS hsz,typeInfo,hi,asInt,hai,show IntKind.i64.wrap 0=0 from by decide]
  refine⟨_,w,.inl (exe hr),?_⟩;have g:=pA (pre:=[0<=((0:Nat):Int),((0:Nat):Int)*(i.bytes:Int)<=140737488355328]) (v := .slice none 0 0) (E:=E) (t:=u) (zs:=replicate (((0:Nat):Int)).toNat dd) m hun [] (by simp) (W:=λ_=>False) (ev := .nil) (cY.refl w _) (λ_ h=>h.elim) (by simp)
   (λk l e=>by cases e) (λ_=>.inl ⟨rfl,by simp,none,rfl⟩)
  simpa using g
 .have hr:=Go.Lib.run_append_nil_zeros (P:=P) w t tn o.type E i zv kn kt hu hut hi hzv k (by omega) (by rw[hisz];exact u.size_pos) (by omega) (by omega);rw[← ds,← dx.1] at hr;refine⟨_,_,.inl (exe hr),?_⟩;have hge:=grownCap_ge w k 0 E;have hcm:=grownCap_le_maxLen w k 0 E (by simp only[maxLen];omega);generalize grownCap w k 0 E=cap at *;have hproj:=sr m u z zv.cells.toList dd rest [] [] (by rw[hpz];rfl) dz (A':=A) (λ_ hb=>hb) (λk ⟨n,b,l,hh,_⟩=>by simp at hh);have hall:(Builtin.zeroCells zv.cells k++Builtin.zeroCells zv.cells (cap-k)).toList=j4 zv.cells.toList cap:=by
   rw[Array.toList_append,K1 _ _ (by rw[hzl];exact u.size_pos),K1 _ _ (by rw[hzl];exact u.size_pos)];have radd:∀(l:List Value)(a b:Nat),j4 l a++j4 l b=j4 l (a+b):=by
    intro l a b
    induction a with
    | zero=>simp[j4]
    | succ a ih=>rw[Nat.succ_add];simp only[j4,ia,ih]
   rw[radd];congr 1;omega
  have hsize:(Builtin.zeroCells zv.cells k++Builtin.zeroCells zv.cells (cap-k)).size=cap*u.size:=by
   rw[← gg,hall,Eg,gg,hzl]
  have cg:cY w (w.drew.alloc (.cells (Builtin.zeroCells zv.cells k++Builtin.zeroCells zv.cells (cap-k)) E)) λ_=>False:=(cY.drew w _).trans (cY.alloc w.drew _ _);have g:=pA (pre:=[0<=((k:Nat):Int),((k:Nat):Int)*(i.bytes:Int)<=140737488355328]) (v := .slice (some ⟨w.heap.size,0,none⟩) k cap) (E:=E) (t:=u) (zs:=replicate ((k:Nat):Int).toNat dd) m hun [] (by simp) (W:=λ_=>False) (ev := .blk w.heap.size (0,k)) cg (λ_ h=>h.elim) (by simp)
   (λk l e=>by cases e;exact .inl (iq _)) (λx=>.inr ⟨w.heap.size,(0,k),cap*u.size,rfl,⟨_,cap,heap_alloc_new w.drew _,by rw[hsize,gk],by simp,hge,hcm,λj hj=>?_⟩,?_,?_⟩)
  .simpa using g
  .simp only[ue,Int.toNat_natCast] at hj;rw[List.getElem_replicate];have sh:=wZ hproj.2.2.2.1 (j*u.size);rw[gk] at sh;rw[gk];refine iA (λ_ h=>h) x.keep u _ _ _ _ (λq hq=>?_) sh;have hlt:j*u.size+q<cap*u.size:=by
    have:(j+1)*u.size<=cap*u.size:=mz _ (by omega);rw[fP,jZ] at this;omega
   rw[← kI,hall,A4 _ _ _ (by simpa[hzl] using hlt)];congr 1;simp only[gg,hzl];rw[uz,Nat.add_mul_mod_self_right,Nat.mod_eq_of_lt hq];omega
  .unfold World.shape?;have hh:=heap_alloc_new w.drew (.cells (Builtin.zeroCells zv.cells k++Builtin.zeroCells zv.cells (cap-k)) E);simp only[World.size_drew] at hh;rw[hh];simp only[hsize]
  .show _=Value.slice _ _ ((cap*u.size-0)/u.size);rw[Nat.sub_zero,qE _ u.size_pos]
theorem CD{xs:ae}{v:Value}(h:qM A w (.int .u8) v xs){src e:TypeId}(hs:P.underlying src=some (.slice e))(he:P.underlying e=some (.int .u8)){dst:TypeId}(hd:P.underlying dst=some .string) :
  (convert src dst v).run P w = .ok (.string (strOfNums xs)) w:=by
 obtain⟨hl,⟨⟨a,rfl⟩,hx⟩|⟨b,off,cap,rfl,h1,h2,h3,h4⟩⟩:=h
 .have hx:xs=[]:=hx;subst hx;rw[run_convert_bytes_string w src dst e _ 0 0 hs he hd];cases a <;> simp[Conv.bytesToString,loadCells]
  all_goals rfl
 .refine run_convert_bytes_arg (P:=P) w src e hs he b off xs.length cap xs rfl (λi hi=>?_) dst hd;have:=(h4 i hi).1;simp only[CT.size,Nat.mul_one] at this;rw[this,bL,cK hi,fZ]
theorem ZP{xs:ae}{k c:Nat}{len:Nat×Nat}{E:TypeId}(h:nS A w k len E (.int .u8) xs){src e:TypeId}(hs:P.underlying src=some (.slice e))(he:P.underlying e=some (.int .u8)){dst:TypeId}(hd:P.underlying dst=some .string) :
  (convert src dst (.slice (some ⟨k,len.1,none⟩) len.2 c)).run P w = .ok (.string (strOfNums xs)) w:=by
 obtain⟨vs,cap,h0,h1,h2,h3,h4,h5⟩:=h
 refine run_convert_bytes_arg (P:=P) w src e hs he k len.1 len.2 c xs h2 (λi hi=>?_) dst hd
 have hi':i<xs.length:=by omega
 have:=(h5 i hi').1
 simp only[CT.size,Nat.mul_one] at this
 rw[cell_of_row w k _ vs E (0,0) h0,this,bL,cK hi',fZ]
def GR(P:Program)(src:TypeId)(x:SV):Q Dl:=match P.underlying src with
 | some (.slice e)=>match P.underlying e with
  | some (.int .u8)=>match x with
   | .dsl t xs=>match gX t (.int .u8) xs with
    | some ys=>cj (.str (strOfNums ys))
    | none => .fail
   | .dsx t xs=>match gX t (.int .u8) xs with
    | some ys=>cj (.str (strOfNums ys))
    | none => .fail
   | .nilsl=>cj (.str (strOfNums []))
   | .own n sz => .ask n fun
    | .live (.row _ t xs)=>match gX t (.int .u8) xs with
     | some ys=>cj (.str (strOfNums ys))
     | none => .fail
    | .live (.frz _ t xs)=>match gX t (.int .u8) xs with
     | some ys=>cj (.str (strOfNums ys))
     | none => .fail
    | _ => .fail
   | _ => .fail
  | _ => .fail
 | _ => .fail
theorem B5{xs:ae}{v:Value}(hl:xs.length<=maxLen):az A env w (.str (strOfNums xs)) (.string (strOfNums xs)):=by
 simp only[az];exact⟨trivial,by rw[strOfNums_size];exact hl⟩
theorem ZU(m:Mod w0 N0 A env h w)(f:FD A env w ρ a){s t:TypeId}{x:Operand}(ho:o.op = .convert s t x)(ht:P.underlying t=some .string)
  (e:(GR P s (aW ρ x)).run h=some (d,r)):bo P o a w0 N0 A env h w d:=by
 have dx:=de f x
 have go:∀{v:Value},(convert s t (a.eval x)).run P w = .ok v w->(execOp a.eval o).run P w = .ok (.value v) w:=by
  intro v hr;unfold execOp;rw[ho];simp only[Sem.run_bind,hr,Result.andThen_ok,Sem.run_pure]
 unfold GR at e
 split at e
 next el hs=>
  split at e
  .rename_i he;split at e
   .rename_i u xs hx;rw[hx] at dx;simp only[az] at dx;split at e
    next ys hc=>obtain⟨et,ez⟩:=jR hc;subst et;simp only at ez;subst ez;unfold cj at e;cases cA e;exact bo.pure m (go (CD dx hs he ht)) (B5 (v:=a.eval x) dx.1)
    .cases e
   .rename_i u xs hx;rw[hx] at dx;simp only[az] at dx;split at e
    next ys hc=>obtain⟨et,ez⟩:=jR hc;subst et;simp only at ez;subst ez;unfold cj at e;cases cA e;exact bo.pure m (go (CD dx.1 hs he ht)) (B5 (v:=a.eval x) dx.1.1)
    .cases e
   next hx=>rw[hx] at dx;simp only[az] at dx;unfold cj at e;cases cA e;refine bo.pure m (go ?_) (B5 (v:=a.eval x) (by simp));rw[dx];exact CD (A:=A) (xs:=[]) ⟨by simp,.inl ⟨⟨_,rfl⟩,rfl⟩⟩ hs he ht
   .rename_i n sz hx;rw[hx] at dx;simp only[az] at dx;simp only[Q.run] at e;split at e
    .rename_i p q hk;simp only[bp,br] at e;obtain⟨rfl,rfl⟩:=e;have fin:∀{E:TypeId}{ys:ae}{fz:Bool},h n = .live (match fz with|true => .frz E (.int .u8) ys|false => .row E (.int .u8) ys)->bo P o a w0 N0 A env h w (.det [] (.str (strOfNums ys)) []):=by
      intro E ys fz hl;have hm:=m.nm n;rw[hl] at hm;rcases dx with⟨hen,a0,ev⟩|⟨b,len,E',c,hen,_,ev⟩
      .rcases hm with⟨k,len,hek,_⟩|⟨_,E2,t2,hb⟩
       .rw[hen] at hek;cases hek
       .have:ys=[]:=by cases fz <;> (rcases hb with hb|hb <;> cases hb) <;> rfl
        subst this;refine bo.pure m (go ?_) (B5 (v:=a.eval x) (by simp));rw[ev];exact CD (A:=A) (xs:=[]) ⟨by simp,.inl ⟨⟨_,rfl⟩,rfl⟩⟩ hs he ht
      .rcases hm with⟨k,len',hek,hb,_⟩|⟨hek,_⟩
       .rw[hen] at hek;cases hek;have hr:nS A w b len E (.int .u8) ys:=by
         cases fz with
         | true=>exact hb.2
         | false=>exact hb
        refine bo.pure m (go ?_) (B5 (v:=a.eval x) ?_)
        .rw[ev];exact ZP hr hs he ht
        .obtain⟨vs,cap,_,_,h2,h3,h4,_⟩:=hr;omega
       .rw[hen] at hek;cases hek
     split at hk
     .rename_i E u xs hl;split at hk
      next ys hc=>obtain⟨et,ez⟩:=jR hc;subst et;simp only at ez;subst ez;unfold cj at hk;cases cA hk;exact fin (fz:=false) hl
      .cases hk
     .rename_i E u xs hl;split at hk
      next ys hc=>obtain⟨et,ez⟩:=jR hc;subst et;simp only at ez;subst ez;unfold cj at hk;cases cA hk;exact fin (fz:=true) hl
      .cases hk
     .cases hk
    .cases e
   .cases e
  .cases e
 .cases e
def Eb:SV->Option ByteArray
 | .str s=>some s
 | .cv (.string s)=>some s
 | _=>none
def JT(op:BinOp)(x y:SV):Q Dl:=match Eb x,Eb y,op with
 | some a,some b,.eql=>cj (.bool (decide (a=b)))
 | some a,some b,.neq=>cj (.bool (!decide (a=b)))
 | _,_,_ => .fail
theorem EO{x:SV}{v:Value}{s:ByteArray}(e:Eb x=some s)(hd:az A env w x v):v = .string s:=by
 unfold Eb at e
 split at e
 .cases e;simp only[az] at hd;exact hd.1
 .cases e;simp only[az] at hd;exact hd
 .cases e
theorem ad8(m:Mod w0 N0 A env h w)(f:FD A env w ρ a){op:BinOp}{t yt:TypeId}{x y:Operand}(ho:o.op = .binOp op t x y yt)(ht:P.underlying t=some .string)
  (e:(JT op (aW ρ x) (aW ρ y)).run h=some (d,r)):bo P o a w0 N0 A env h w d:=by
 have dx:=de f x
 have dy:=de f y
 have go:∀(v:Value),((do eqGuard op t x y (a.eval x) (a.eval y);binOp op t (a.eval x) (a.eval y):Sem Value).run P w) = .ok v w →
   (execOp a.eval o).run P w = .ok (.value v) w:=by
  intro v hv;unfold execOp;rw[ho];simp only[Sem.run_bind,Sem.run_pure] at hv ⊢;rw[hv];rfl
 have eqb:∀ u v:ByteArray,(u.toList == v.toList)=decide (u=v):=λu v=>by
  rw[u3];simp only[ByteArray.toList_eq,beq_iff_eq,lU];exact⟨λh=>by cases u;cases v;simp_all,λh=>by rw[h]⟩
 unfold JT at e
 split at e
 next u v hx hy=>have ex:=EO hx dx;have ey:=EO hy dy;rw[ex,ey] at go;unfold cj at e;cases cA e;refine bo.pure m (go _ ?_) (s := .bool (decide (u=v))) (v := .bool (decide (u=v))) (by simp only[az]);rw[eqGuard_at_string];simp[binOp,Op.stringOp,eqb]
 next u v hx hy=>have ex:=EO hx dx;have ey:=EO hy dy;rw[ex,ey] at go;unfold cj at e;cases cA e;refine bo.pure m (go _ ?_) (s := .bool (!decide (u=v))) (v := .bool (!decide (u=v))) (by simp only[az]);rw[eqGuard_at_string];simp[binOp,Op.stringOp,eqb]
 .cases e
def Kp(P:Program)(t:TypeId)(x i:SV):Q Dl:=match i,P.underlying t with
 | .int _ i,some (.array len e)=>match gK P e,decide (0<=i)&&decide (i<len)&&decide (2<=len) with
  | some (n+1),true=>match x with
   | .ptr m o=>cj (.ptr m (o+i.toNat*(n+1)))
   | .eptr m s j o=>cj (.eptr m s j (o+i.toNat*(n+1)))
   | .dptr u d o=>cj (.dptr u d (o+i.toNat*(n+1)))
   | _ => .fail
  | _,_ => .fail
 | _,_ => .fail
theorem XF(m:Mod w0 N0 A env h w)(f:FD A env w ρ a){t:TypeId}{x i:Operand}(φ:Operand->SV)(dx:az A env w (φ x) (a.eval x))(ho:o.op = .indexAddr t x i)
  (e:(Kp P t (φ x) (aW ρ i)).run h=some (d,r)):bo P o a w0 N0 A env h w d:=by
 have di:=de f i
 unfold Kp at e
 split at e
 next k iv len E hi hu=>
  rw[hi] at di;simp only[az] at di;split at e
  .rename_i n hn hb;simp only[dK,lU] at hb;obtain⟨⟨h0,h1⟩,h2⟩:=hb;have go:∀{b off:Nat},a.eval x = .pointer (some ⟨b,off,none⟩)->(execOp a.eval o).run P w = .ok (.value (.pointer (some ⟨b,off+iv.toNat*(n+1),none⟩))) w:=by
    intro b off ev;unfold execOp;rw[ho];simp[Instr.indexAt,Instr.sureAddr,ev,di.1,asIntOf,run_underlying hu,kS hn,h0,h1,Addr.add_lit]
   split at e
   next q o' hx=>rw[hx] at dx;simp only[az] at dx;obtain⟨b,l,he,ev⟩:=dx;unfold cj at e;cases cA e;exact bo.pure m (go ev) (by simp only[az];exact⟨b,l,he,rfl⟩)
   next q sz j o' hx=>rw[hx] at dx;simp only[az] at dx;obtain⟨b,l,he,hj,ev⟩:=dx;unfold cj at e;cases cA e;exact bo.pure m (go ev) (by simp only[az];exact⟨b,l,he,hj,by rw[gP,gP]⟩)
   next u dd o' hx=>rw[hx] at dx;simp only[az] at dx;obtain⟨b,off,ev,hA,hr⟩:=dx;unfold cj at e;cases cA e;exact bo.pure m (go ev) (by simp only[az];exact⟨b,off,by rw[gP],hA,hr⟩)
   .cases e
  .cases e
 .cases e
def gm(i:Int):List (Int×Int)->Bool
 | []=>false
 | p::r=>bif decide (i=p.1) then true else gm i r
def lI(i:Int):List (Int×Int)->Int
 | []=>0
 | p::r=>bif decide (i=p.1) then p.2 else lI i r
def kM(i v:Int):List (Int×Int)->List (Int×Int)
 | []=>[(i,v)]
 | p::r=>bif decide (i=p.1) then (i,v)::r else p::kM i v r
def qR(i:Int):List (Int×Int)->Nat
 | []=>0
 | p::r=>bif decide (i=p.1) then 0 else qR i r+1
def BL(P:Program)(t:TypeId):Option (TypeId×IntKind×TypeId×IntKind):=match P.underlying t with
 | some (.map k e)=>match P.underlying k,P.underlying e with
  | some (.int kk),some (.int vk)=>some (k,kk,e,vk)
  | _,_=>none
 | _=>none
def Jk(P:Program)(e:TypeId)(vk:IntKind):Bool:=match P.info? e with
 | some j=>match j.zero with
  | some (.int k n)=>lH k vk&&decide (n=0)
  | _=>false
 | none=>false
def JY(P:Program)(t:TypeId)(nm:Nat):Q Dl:=match BL P t with
 | some (_,kk,_,vk) => .ask nm fun
  | .un => .ret (.det [] (.mapp nm) [(nm,.live (.mp kk vk []))])
  | _ => .fail
 | none => .fail
def Gg(P:Program)(t:TypeId)(x i:SV):Q Dl:=match BL P t,x,i with
 | some (_,kk,e,vk),.mapp n,.int k i => .ask n fun
  | .live (.mp kk' vk' l)=>match lH kk kk',lH vk vk',lH k kk,Jk P e vk with
   | true,true,true,true=>cj (.tup [.int vk (lI i l),.bool (gm i l)])
   | _,_,_,_ => .fail
  | _ => .fail
 | _,_,_ => .fail
def FZ(P:Program)(t:TypeId)(x i y:SV):Q Dl:=match BL P t,x,i,y with
 | some (_,kk,_,vk),.mapp n,.int k i,.int k' v => .ask n fun
  | .live (.mp kk' vk' l)=>match lH kk kk',lH vk vk',lH k kk,lH k' vk with
   | true,true,true,true => .ret (.det [] (.cv undef) [(n,.live (.mp kk vk (kM i v l)))])
   | _,_,_,_ => .fail
  | _ => .fail
 | _,_,_,_ => .fail
theorem RD{t k e:TypeId}{kk vk:IntKind}(h:BL P t=some (k,kk,e,vk)):P.underlying t=some (.map k e)/\P.underlying k=some (.int kk)/\P.underlying e=some (.int vk):=by
 unfold BL at h
 split at h
 next hu=>
  split at h
  next h1 h2=>cases h;exact⟨hu,h1,h2⟩
  .cases h
 .cases h
theorem aU8{e:TypeId}{vk:IntKind}(h:Jk P e vk=true):(zeroValue e).run P w = .ok (.int vk 0) w:=by
 unfold Jk at h
 split at h
 next j hj=>
  split at h
  next k n hz=>simp only[dK,lU] at h;cases mo h.1;rw[h.2] at hz;simp[zeroValue,typeInfo,hj,hz]
  .cases h
 .cases h
def oV(kk vk:IntKind)(l:List (Int×Int)):List (Value×Value):=l.map λp=>(Value.int kk p.1,Value.int vk p.2)
theorem HK{kk vk:IntKind}{i:Int}:∀{es:List MapEntry}{l:List (Int×Int)}{n:Nat},es.map (λe=>(e.key,e.val))=oV kk vk l →
  Instr.findNow (.int kk) (.int kk i) es n=some (bif gm i l then some (n+qR i l,.int vk (lI i l)) else none)
 | [],[],n,_=>rfl
 | e::es,p::l,n,h=>by
  simp only[oV,fF,List.cons.injEq,br] at h;obtain⟨⟨h1,h2⟩,h3⟩:=h;have hs:Instr.sameNow (.int kk) (.int kk i) e.key=some (i == p.1):=by rw[h1];simp[Instr.sameNow]
  by_cases hi:i=p.1
  .have hb:(i == p.1)=true:=by simp[hi]
   rw[hb] at hs;simp only[Instr.findNow,hs,h2,gm,lI,qR,cM hi,cond_true,ix]
  .have hb:(i == p.1)=false:=by simp[hi]
   rw[hb] at hs;simp only[Instr.findNow,hs,gm,lI,qR,dO hi,oM];rw[HK (l:=l) h3,show n+1+qR i l=n+(qR i l+1) by omega]
 | [],_::_,_,h=>by simp[oV] at h
 | _::_,[],_,h=>by simp[oV] at h
theorem Nq{i:Int}:∀{l:List (Int×Int)},gm i l=false->lI i l=0
 | [],_=>rfl
 | p::l,h=>by
  simp only[gm] at h;cases hd:decide (i=p.1) with
  | true=>rw[hd] at h;cases h
  | false =>
   rw[hd,oM] at h;simp only[lI,hd,oM];exact Nq h
theorem Pu{vk:IntKind}{i v:Int}(hv:vk.has v):∀{l:List (Int×Int)},(∀ p∈l,vk.has p.2)→∀ p∈kM i v l,vk.has p.2
 | [],_,p,hp=>by simp only[kM,iP] at hp;rw[hp];exact hv
 | q::l,h,p,hp=>by
  simp only[kM] at hp;cases hd:decide (i=q.1) with
  | true =>
   rw[hd,cond_true] at hp;rcases dL.1 hp with rfl|hp
   .exact hv
   .exact h p (fL _ hp)
  | false =>
   rw[hd,oM] at hp;rcases dL.1 hp with rfl|hp
   .exact h _ fW
   .exact Pu hv (λp hp=>h p (fL _ hp)) p hp
theorem O5{vk:IntKind}{i:Int}(h0:vk.has 0):∀{l:List (Int×Int)},(∀ p∈l,vk.has p.2)->vk.has (lI i l)
 | [],_=>h0
 | q::l,h=>by
  simp only[lI];cases decide (i=q.1) with
  | true=>exact h _ fW
  | false=>exact O5 h0 λp hp=>h p (fL _ hp)
theorem Qe{kk vk:IntKind}{i v:Int}:∀{es:List MapEntry}{l:List (Int×Int)},es.map (λe=>(e.key,e.val))=oV kk vk l->gm i l=true →
  (es.modify (qR i l) λe=>{e with key := .int kk i,val := .int vk v}).map (λe=>(e.key,e.val))=oV kk vk (kM i v l)∧∃ e,es[qR i l]? = some e/\e.key = .int kk i
 | [],[],_,hm=>by cases hm
 | e::es,p::l,h,hm=>by
  simp only[oV,fF,List.cons.injEq,br] at h;obtain⟨⟨h1,h2⟩,h3⟩:=h;simp only[gm] at hm;cases hd:decide (i=p.1) with
  | true =>
   simp only[kM,qR,hd,cond_true,oV,fF];refine⟨?_,e,rfl,?_⟩
   .simp[h3]
   .rw[h1,aI hd]
  | false =>
   rw[hd,oM] at hm;obtain⟨k1,k2⟩:=Qe (v:=v) h3 hm;simp only[kM,qR,hd,oM,oV,fF];refine⟨?_,by simpa using k2⟩;simp only[List.modify_succ_cons,fF,h1,h2,List.cons.injEq,true_and];exact k1
 | [],_::_,h,_=>by simp[oV] at h
 | _::_,[],h,_=>by simp[oV] at h
theorem Qo{kk vk:IntKind}{i v:Int}:∀{l:List (Int×Int)},gm i l=false->oV kk vk (kM i v l)=oV kk vk l++[(Value.int kk i,Value.int vk v)]
 | [],_=>rfl
 | p::l,h=>by
  simp only[gm] at h;cases hd:decide (i=p.1) with
  | true=>rw[hd] at h;cases h
  | false =>
   rw[hd,oM] at h;simp only[kM,hd,oM,oV,fF,me];exact jt _ (Qo h)
theorem ax8(m:Mod w0 N0 A env h w){t:TypeId}{nm:Nat}(ho:o.op = .makeMap t none)
  (e:(JY P t nm).run h=some (d,r)):bo P o a w0 N0 A env h w d:=by
 unfold JY at e
 split at e
 .simp only[Q.run] at e;split at e
  .rename_i p q hk;simp only[bp,br] at e;obtain⟨rfl,rfl⟩:=e;split at hk
   .rename_i hun;cases cA hk;have hrun:(execOp a.eval o).run P w = .ok (.value (.map (some w.heap.size))) (w.alloc (.map #[] 0)):=by
     unfold execOp;rw[ho];rfl
    refine⟨_,_,.inl hrun,da.fresh m hun (len:=(0,0)) rfl w.heap.size (iq _) (cY.alloc w _ _) (λx=>⟨#[],0,heap_alloc_new w _,rfl,λp hp=>by cases hp⟩) ?_⟩;simp only[az];exact⟨_,(0,0),aZ.set_same _ _ _,rfl⟩
   .cases hk
  .cases e
 .cases e
theorem Ks(kk:IntKind)(i:Int):MapKept.IsKey (.int kk) (.int kk i):=by simp[MapKept.IsKey]
theorem ag9(m:Mod w0 N0 A env h w)(f:FD A env w ρ a){t:TypeId}{x i:Operand}(ho:o.op = .lookup t x i true)
  (e:(Gg P t (aW ρ x) (aW ρ i)).run h=some (d,r)):bo P o a w0 N0 A env h w d:=by
 have dx:=de f x
 have di:=de f i
 unfold Gg at e
 split at e
 next kt kk et vk n k i hm hx hi=>
  rw[hx] at dx;rw[hi] at di;simp only[az] at dx di;obtain⟨b,len,he,ev⟩:=dx;obtain⟨hu,huk,hue⟩:=RD hm;simp only[Q.run] at e;split at e
  .rename_i p q hk;simp only[bp,br] at e;obtain⟨rfl,rfl⟩:=e;split at hk
   .rename_i kk' vk' l hl;split at hk
    .rename_i q1 q2 q3 q4;cases mo q1;cases mo q2;cases mo q3;unfold cj at hk;cases cA hk;obtain⟨⟨es,clk,hb,hes,hh⟩,_⟩:=m.live_blk hl he;have hf:=HK (i:=i) (n:=0) hes;have h0:vk.has 0:=by
      have:=IntKind.wrap_has vk 0;have e0:vk.wrap 0=0:=by cases vk <;> rfl
      rw[e0] at this;exact this
     refine bo.pure m (v := .tuple #[.int vk (lI i l),.bool (gm i l)]) ?_ ?_
     .unfold execOp;rw[ho];simp only[ev,di.1,Instr.lookup,Sem.run_bind,run_underlying hu,Result.andThen_ok,MapKept.run_getObj_map hb,Sem.run_pure,MapKept.run_checkKey huk (Ks kk i),MapKept.run_findKey huk hf];cases hq:gm i l with
      | true=>simp
      | false =>
       simp[aU8 q4,Nq hq]
     .simp only[az];refine⟨_,rfl,?_⟩;simp only[aR,az];exact⟨_,_,rfl,⟨rfl,O5 h0 hh⟩,_,_,rfl,rfl,rfl⟩
    .cases hk
   .cases hk
  .cases e
 .cases e
theorem cY.setMap{w:World}{b:Nat}{es:Array MapEntry}{c:Nat}(hb:w.heap[b]? = some (.map es c))(es':Array MapEntry)(c':Nat) :
  cY w {w with heap:=w.heap.setIfInBounds b (.map es' c')} λj=>j=b:=by
 refine⟨rfl,rfl,rfl,by simp,λk hk hw=>?_,λk s hs=>?_⟩
 .exact Af (λe=>hw e.symm)
 .by_cases e:k=b
  .subst e;unfold World.shape? at hs;rw[hb] at hs;cases hs
  .unfold World.shape? at hs ⊢;have:({w with heap:=w.heap.setIfInBounds b (.map es' c')}:World).heap[k]? = w.heap[k]? := Af (λh=>e h.symm);rw[this];exact hs
theorem Sw(m:Mod w0 N0 A env h w)(f:FD A env w ρ a){t:TypeId}{x i y:Operand}(ho:o.op = .mapUpdate t x i y)
  (e:(FZ P t (aW ρ x) (aW ρ i) (aW ρ y)).run h=some (d,r)):bo P o a w0 N0 A env h w d:=by
 have dx:=de f x
 have di:=de f i
 have dy:=de f y
 unfold FZ at e
 split at e
 next kt kk et vk n k i k' v hm hx hi hy=>
  rw[hx] at dx;rw[hi] at di;rw[hy] at dy;simp only[az] at dx di dy;obtain⟨b,len,he,ev⟩:=dx;obtain⟨hu,huk,hue⟩:=RD hm;simp only[Q.run] at e;split at e
  .rename_i p q hk;simp only[bp,br] at e;obtain⟨rfl,rfl⟩:=e;split at hk
   .rename_i kk' vk' l hl;split at hk
    .rename_i q1 q2 q3 q4;cases mo q1;cases mo q2;cases mo q3;cases mo q4;cases cA hk;obtain⟨⟨es,clk,hb,hes,hh⟩,_⟩:=m.live_blk hl he;have hf:=HK (i:=i) (n:=0) hes;have fin:∀(es':Array MapEntry)(c':Nat),(execOp a.eval o).run P w = .ok .skip {w with heap:=w.heap.setIfInBounds b (.map es' c')}->es'.toList.map (λe=>(e.key,e.val))=oV kk vk (kM i v l) →
       bo P o a w0 N0 A env h w (.det [] (.cv undef) [(n,.live (.mp kk vk (kM i v l)))]):=by
      intro es' c' hrun hes';have hlt:b<w.heap.size:=(Array.getElem?_eq_some_iff.1 hb).1;have u:=mB.write (b' := .mp kk vk (kM i v l)) m hl rfl he (cY.setMap hb es' c') ⟨es',c',by simp[hlt],hes',Pu dy.2 hh⟩ rfl;exact⟨undef,_,.inr ⟨hrun,rfl⟩,(),A,env,trivial,m.upd u,m.ext u,by simp only[Dl.val,az]⟩
     cases hq:gm i l with
     | true =>
      rw[hq,cond_true] at hf;obtain⟨k1,e0,k2,k3⟩:=Qe (v:=v) hes hq;refine fin (es.modify (qR i l) λe=>{e with key := .int kk i,val := .int vk v}) clk ?_ (by rw[Array.toList_modify];exact k1);have hget:es[qR i l]? = some e0:=by rw[← kI];exact k2
      unfold execOp;rw[ho];simp only[ev,di.1,dy.1,Instr.mapUpdate,Sem.run_bind,run_underlying hu,Result.andThen_ok,MapKept.run_getObj_map hb,Sem.run_pure,MapKept.run_checkKey huk (Ks kk i),MapKept.run_findKey huk hf,gk,hget,Option.map_some,fZ,k3,Instr.keyThatStays,Instr.sameBits,beq_self_eq_true,Bool.and_self,if_true,MapKept.run_setObj_map _ hb]
      try rfl
     | false =>
      rw[hq,oM] at hf;refine fin (es.push {key := .int kk i,val := .int vk v,born:=clk}) (clk+1) ?_ (by rw[Array.toList_push,lL,hes,Qo hq];rfl);unfold execOp;rw[ho];simp only[ev,di.1,dy.1,Instr.mapUpdate,Sem.run_bind,run_underlying hu,Result.andThen_ok,MapKept.run_getObj_map hb,Sem.run_pure,MapKept.run_checkKey huk (Ks kk i),MapKept.run_findKey huk hf,MapKept.run_setObj_map _ hb]
      try rfl
    .cases hk
   .cases hk
  .cases e
 .cases e
end
end Go.SX
namespace Go.SX
def ah5:SV->Bool
 | .own _ _=>true
 | _=>false
def Gn(P:Program)(ty:TypeId)(x:SV):Q Dl:=match x with
 | .eptr n sz i off => .ask n fun
  | .live (.opn _ t _ j cs)=>match Nat.beq sz t.size,n8 P ty cs off with
   | true,some v => .ret (.det [i=j] v [])
   | _,_ => .fail
  | _=>AZ P ty (.eptr n sz i off)
 | x=>AZ P ty x
def IG(P:Program)(ty:TypeId)(x y:SV):Q Dl:=match x with
 | .eptr n sz i off => .ask n fun
  | .live (.opn E t xs j cs)=>match vz y,gK P ty with
   | some vs,some k=>match Nat.beq k vs.length,Nat.beq sz t.size,Nat.ble (off+vs.length) t.size with
    | true,true,true => .ret (.det [i=j] (.cv undef) [(n,.live (.opn E t xs j (qu cs off vs)))])
    | _,_,_ => .fail
   | _,_ => .fail
  | .live (.row E t xs)=>match vz y,gK P ty with
   | some vs,some k=>match vs.any ah5 with
    | true=>match Nat.beq k vs.length,Nat.beq sz t.size,Nat.ble (off+vs.length) t.size with
     | true,true,true => .ret (.det [] (.cv undef) [(n,.live (.opn E t xs i (qu (dU t (kW t xs i)) off vs)))])
     | _,_,_ => .fail
    | false=>zb P ty (.eptr n sz i off) y
   | _,_ => .fail
  | _=>zb P ty (.eptr n sz i off) y
 | x=>zb P ty x y
def yA:List SV->Q (List (Nat×Nm))
 | [] => .ret []
 | .own n _::r => .ask n fun
  | .live (.opn E t xs i cs)=>(jH t cs).bind λp=>match p.2.1,vY n p.2.2 with
   | [],true => .ret ((n,.live (.row E t (xs.set i p.1)))::p.2.2)
   | _,_ => .fail
  | _=>yA r
 | _::r=>yA r
def Ki(P:Program)(ty:TypeId)(x:SV):Q Dl:=match x with
 | .ptr n off => .ask n fun
  | .live (.cells _ cs)=>match n8 P ty cs off with
   | some v=>(yA cs).bind λu=>.ret (.det [] v u)
   | none => .fail
  | _ => .fail
 | _ => .fail
section
variable {P:Program} {w0:World} {N0:f5} {A:Nat->Prop} {env:aZ} {h:bN} {w:World} {o:Oper} {a:Act} {ρ:Nat->SV} {d:Dl} {r:List Nat}
theorem IZ{i n k:Nat}(h:i<n):i*k+k<=n*k:=by
 have:(i+1)*k<=n*k:=mz _ (by omega)
 rw[fP,jZ] at this;exact this
theorem aw6{k:Nat}{len:Nat×Nat}{E:TypeId}{t:CT}{xs:List t.D}(hr:nS A w k len E t xs){i:Nat}(hi:i<len.2) :
  j9 A env w k len (.opn E t xs i (dU t (kW t xs i))):=by
 obtain⟨vs,hl,hc,hd⟩:=u7 (env:=env) t (kW t xs i) _ _ (yF hr hi)
 obtain⟨us,cap,hh,h1,h2,h3,h4,h5⟩:=hr
 refine⟨us,cap,vs,hh,h1,h2,h3,h4,hi,hl,λq hq=>?_,hd,λj hj _=>h5 j hj⟩
 have:=hc q hq
 rw[cell_of_row w k _ us E (0,0) hh] at this
 exact this
theorem aL1{A':Nat->Prop}(hA:∀ b,A b->A' b){k:Nat}{len:Nat×Nat}{E:TypeId}{t:CT}{xs:List t.D}{i:Nat}{cs:List SV}(hb:j9 A env w k len (.opn E t xs i cs)){d:t.D}
  (hd:∀ es:List Value,es.length=t.size->aR A env w cs es->Rd A' w t (λj=>es[j]?) 0 d):nS A' w k len E t (xs.set i d):=by
 obtain⟨us,cap,es,hh,h1,h2,h3,h4,h5,h6,h7,h8,h9⟩:=hb
 refine⟨us,cap,hh,h1,by simpa using h2,h3,h4,λj hj=>?_⟩
 have hj':j<xs.length:=by simpa using hj
 rw[List.getElem_set]
 split
 next e=>subst e;have:=wZ (hd es h6 h8) (len.1+i*t.size);rw[gk] at this;refine iA (λ_ h=>h) (λ_ _ _=>rfl) t _ _ _ _ (λq hq=>?_) this;show us[len.1+i*t.size+q]? = es[len.1+i*t.size+q-(len.1+i*t.size)]?;rw[h7 q hq];congr 1;omega
 next e=>exact iA hA (λ_ _ _=>rfl) t _ _ _ _ (λ_ _=>rfl) (h9 j hj' (λh=>e h.symm))
theorem an3(m:Mod w0 N0 A env h w){ty:TypeId}{x:Operand}(φ:Operand->SV)(dx:az A env w (φ x) (a.eval x))(ho:o.op = .load ty x)
  (e:(Gn P ty (φ x)).run h=some (d,r)) (hp:bV d.pre):bo P o a w0 N0 A env h w d:=by
 have go:∀{b off:Nat}{v:Value},a.eval x = .pointer (some ⟨b,off,none⟩)->(loadVar ty ⟨b,off,none⟩).run P w = .ok v w->(execOp a.eval o).run P w = .ok (.value v) w:=by
  intro b off v ev hr;unfold execOp;rw[ho];simp only[ev,Instr.loadAt,Instr.sureAddr,Sem.run_bind,Sem.run_pure,Result.andThen_ok,hr]
 unfold Gn at e
 split at e
 next n sz i off hx=>
  have dx':=dx;rw[hx] at dx;simp only[az] at dx;obtain⟨b,l,he,hil,ev⟩:=dx;simp only[Q.run] at e;split at e
  .rename_i p q hk;simp only[bp,br] at e;obtain⟨rfl,rfl⟩:=e;split at hk
   .rename_i E t xs j cs hl;split at hk
    next v hsz e1=>have hsz:sz=t.size:=bG hsz;subst hsz;cases cA hk;have hij:i=j:=hp.1;subst hij;obtain⟨us,cap,es,hh,h1,h2,h3,h4,h5,h6,h7,h8,h9⟩:=(m.live_blk hl he).1;obtain⟨v,hr,hv⟩:=BV (o:=l.1+i*t.size) (k:=b) e1 h8 (λj hj=>by rw[cell_of_row w b _ us E (0,0) hh];exact h7 j (by omega));rw[gP] at hr;exact bo.pure m (go ev hr) hv
    .cases hk
   .exact J7 m φ dx' ho (by rw[hx];exact hk)
  .cases e
 .exact J7 m φ dx ho e
theorem MP(m:Mod w0 N0 A env h w){b0:kZ}{mm b:Nat}{l:Nat×Nat}(hl:h mm = .live b0)(hm0:b0.mut=true)(he:env mm = .blk b l){E:TypeId}{t:CT}{xs:List t.D}{i off:Nat}{cs vs:List SV}
  (hb:j9 A env w b l (.opn E t xs i cs)) {ty:TypeId} {v:Value} (dv:aR A env w vs v.cells.toList) (h1:∀ u∈v.cells.toList,u.oneCell'=true) (hsz:gK P ty=some v.cells.size) (hle:off+vs.length<=t.size) :
  ∃ w',(storeVar ty ⟨b,l.1+i*t.size+off,none⟩ v).run P w = .ok () w'∧da w0 N0 A env h w (.det [] (.cv undef) [(mm,.live (.opn E t xs i (qu cs off vs)))]) undef w':=by
 obtain⟨us,cap,es,hh,hus,hxl,hlc,hcm,hi,hes,hec,hed,hrd⟩:=hb
 have hlv:=jf dv
 have hsv:v.cells.size=vs.length:=by rw[← gg,hlv]
 have hpos:l.1+i*t.size+t.size<=us.size:=by
  rw[hus];have:=IZ (k:=t.size) (Nat.lt_of_lt_of_le hi hlc);omega
 have hfit:l.1+i*t.size+off+v.cells.size<=us.size:=by omega
 have hrun:=JI hh hsz hfit h1
 refine⟨_,hrun,?_⟩
 have c:=cY.setRow w b us (us.toList.take (l.1+i*t.size+off)++v.cells.toList++us.toList.drop (l.1+i*t.size+off+v.cells.size)).toArray E hh
  (by simp only[rq,cu,dA,fv,gg];omega)
 have x:dB A env w A env (w.setRow b (us.toList.take (l.1+i*t.size+off)++v.cells.toList++us.toList.drop (l.1+i*t.size+off+v.cells.size)).toArray) :=
  ⟨λ_ h=>h,λ_ _ _ h=>h,λ_ h=>h,λb' o' hb'=>World.cell?_of_block (a:=⟨b',o',none⟩) (c.blk b' (m.Alt b' hb') (λe'=>(m.live_blk hl he).2 hm0 (e'▸hb'))),c.shape⟩
 have cellAt:∀ p,(us.toList.take (l.1+i*t.size+off)++v.cells.toList++us.toList.drop (l.1+i*t.size+off+v.cells.size)).toArray[p]? =
   if p<l.1+i*t.size+off then us[p]? else if p<l.1+i*t.size+off+vs.length then v.cells[p-(l.1+i*t.size+off)]? else us[p]? := by
  intro p;rw[List.getElem?_toArray,ia,List.getElem?_append];simp only[dA,gg];rw[show min (l.1+i*t.size+off) us.size=l.1+i*t.size+off from by omega];split
  next hp=>rw[pE,am hp,kI]
  .rename_i hp;rw[List.getElem?_append];simp only[gg,hsv];by_cases h2:p<l.1+i*t.size+off+vs.length
   .rw[am (by omega),am h2,kI]
   .rw[af (by omega),af h2,pd,kI];congr 1;omega
 have hblk:j9 A env (w.setRow b (us.toList.take (l.1+i*t.size+off)++v.cells.toList++us.toList.drop (l.1+i*t.size+off+v.cells.size)).toArray) b l (.opn E t xs i (qu cs off vs)):=by
  refine⟨_,cap,es.take off++(v.cells.toList++es.drop (off+v.cells.toList.length)),setRow_heap w b us _ E _ hh,?_,hxl,hlc,hcm,hi,?_,λq hq=>?_,sV x _ _ (Fb hed dv),λj hj hij=>?_⟩
  .simp only[rq,cu,dA,fv,gg];omega
  .simp only[cu,dA,fv,gg];omega
  .rw[cellAt];have hecq:=hec q hq;rw[List.getElem?_append];simp only[dA,hes];rw[show min off t.size=off from by omega];by_cases c1:q<off
   .rw[am (by omega),am c1,pE,am c1,hecq]
   .rw[af (by omega),af c1,List.getElem?_append];simp only[gg,hsv];by_cases c2:q<off+vs.length
    .rw[am (by omega),am (by omega),kI];congr 1;omega
    .rw[af (by omega),af (by omega),pd,hecq];congr 1;omega
  .refine iA (λ_ h=>h) x.keep t _ _ _ _ (λq hq=>?_) (hrd j hj hij);rw[cellAt];rcases Nat.lt_or_gt_of_ne hij with hlt|hlt
   .have:=IZ (k:=t.size) hlt;rw[am (by omega)]
   .have:=IZ (k:=t.size) hlt;rw[af (by omega),af (by omega)]
 have u:=mB.write (b' := .opn E t xs i (qu cs off vs)) m hl hm0 he c hblk rfl
 exact⟨(),A,env,trivial,m.upd u,m.ext u,by simp only[Dl.val,az]⟩
theorem aW3(m:Mod w0 N0 A env h w)(f:FD A env w ρ a){ty:TypeId}{x y:Operand}(ho:o.op = .store ty x y)
  (e:(IG P ty (aW ρ x) (aW ρ y)).run h=some (d,r)) (hp:bV d.pre):bo P o a w0 N0 A env h w d:=by
 have dx:=de f x
 have dy:=de f y
 have go:∀{b off:Nat}{w':World},a.eval x = .pointer (some ⟨b,off,none⟩)->(storeVar ty ⟨b,off,none⟩ (a.eval y)).run P w = .ok () w'→(execOp a.eval o).run P w = .ok .skip w':=by
  intro b off w' ev hr;unfold execOp;rw[ho];simp only[ev,Instr.storeAt,Instr.sureAddr,Sem.run_bind,Sem.run_pure,Result.andThen_ok,hr]
 unfold IG at e
 split at e
 next n sz i off hx=>
  rw[hx] at dx;simp only[az] at dx;obtain⟨b,l,he,hil,ev⟩:=dx;rw[← gP] at ev;simp only[Q.run] at e;split at e
  .rename_i p q hk;simp only[bp,br] at e;obtain⟨rfl,rfl⟩:=e;split at hk
   .rename_i E t xs j cs hl;split at hk
    .rename_i vs k hc hn;obtain⟨dv,h1⟩:=Bw hc dy;have hlv:=jf dv;split at hk
     .rename_i hb hs1 hle;have hb:k=vs.length:=bG hb;have hs1:sz=t.size:=bG hs1;have hle:off+vs.length<=t.size:=lG hle;subst hs1;cases cA hk;have hij:i=j:=hp.1;subst hij;have hsz:gK P ty=some (a.eval y).cells.size:=by rw[hn,hb,← hlv,gg]
      obtain⟨w',hr,g⟩:=MP m hl rfl he (m.live_blk hl he).1 dv h1 hsz hle;obtain⟨u,A',env',q1,q2,q3,q4⟩:=g;exact⟨undef,w',.inr ⟨go ev hr,rfl⟩,u,A',env',q1,q2,q3,q4⟩
     .cases hk
    .cases hk
   .rename_i E t xs hl;split at hk
    .rename_i vs k hc hn;split at hk
     .obtain⟨dv,h1⟩:=Bw hc dy;have hlv:=jf dv;split at hk
      .rename_i hb hs1 hle;have hb:k=vs.length:=bG hb;have hs1:sz=t.size:=bG hs1;have hle:off+vs.length<=t.size:=lG hle;subst hs1;cases cA hk;have hsz:gK P ty=some (a.eval y).cells.size:=by rw[hn,hb,← hlv,gg]
       obtain⟨w',hr,g⟩:=MP m hl rfl he (aw6 (m.live_blk hl he).1 hil) dv h1 hsz hle;exact⟨undef,w',.inr ⟨go ev hr,rfl⟩,g⟩
      .cases hk
     .exact D2 m f ho (by rw[hx];exact hk)
    .cases hk
   .exact D2 m f ho (by rw[hx];exact hk)
  .cases e
 .exact D2 m f ho e
theorem Ds(m:Mod w0 N0 A env h w):∀(cs:List SV){u:List (Nat×Nm)}{r:List Nat},(yA cs).run h=some (u,r)→∃ A',Mod w0 N0 A' env (cZ u h) w/\dB A env w A' env w
 | [],u,r,e=>by
  simp only[yA,Q.run,bp,br] at e;obtain⟨rfl,rfl⟩:=e;exact⟨A,m,dB.refl⟩
 | s::cs,u,r,e=>by
  unfold yA at e;split at e
  next hh=>cases hh
  .rename_i n sz rr hh;cases hh;simp only[Q.run] at e;split at e
   .rename_i p q hk;simp only[bp,br] at e;obtain⟨rfl,rfl⟩:=e;split at hk
    .rename_i E t xs i es hl;obtain⟨⟨d',rest,fz⟩,r1,r2,e1,e2,rfl⟩:=Q.run_bind _ _ _ hk;simp only at e2;split at e2
     .rename_i hr hni;simp only[Q.run,bp,br] at e2;obtain⟨rfl,rfl⟩:=e2;have hni:=zF hni;have hnm:=m.nm n;rw[hl] at hnm;rcases hnm with⟨k,l,he,hb,hA⟩|⟨_,E',t',hb⟩
      .obtain⟨us,cap,ws,hh,hus,hxl,hlc,hcm,hi,hes,hec,hed,hrd⟩:=id hb;obtain⟨ok,_⟩:=sr m t _ _ d' [] fz r1 e1 hed (A':=g9 A env fz) (λb hb=>.inl hb) (λk hk'=>.inr hk');obtain⟨m2,x2⟩:=m.freeze ok;have hl2:cZ fz h n = .live (.opn E t xs i es):=by rw[nN hni];exact hl
       have hrow:nS (g9 A env fz) w k l E t (xs.set i d'):=aL1 (λb hb=>.inl hb) hb (λvs hvs hdv =>
        (sr m t _ _ d' [] fz r1 e1 hdv (A':=g9 A env fz) (λb hb=>.inl hb) (λk hk'=>.inr hk')).2.2.2.1)
       have u:=mB.write (b' := .row E t (xs.set i d')) m2 hl2 rfl he (cY.refl w _) hrow rfl;exact⟨g9 A env fz,m2.upd u,x2.trans (m2.ext u)⟩
      .rcases hb with hb|hb <;> cases hb
     .cases e2
    .exact Ds m cs hk
   .cases e
  next hh=>cases hh;exact Ds m cs e
theorem SW(m:Mod w0 N0 A env h w){ty:TypeId}{x:Operand}(φ:Operand->SV)(dx:az A env w (φ x) (a.eval x))(ho:o.op = .load ty x)
  (e:(Ki P ty (φ x)).run h=some (d,r)):bo P o a w0 N0 A env h w d:=by
 have go:∀{b off:Nat}{v:Value},a.eval x = .pointer (some ⟨b,off,none⟩)->(loadVar ty ⟨b,off,none⟩).run P w = .ok v w->(execOp a.eval o).run P w = .ok (.value v) w:=by
  intro b off v ev hr;unfold execOp;rw[ho];simp only[ev,Instr.loadAt,Instr.sureAddr,Sem.run_bind,Sem.run_pure,Result.andThen_ok,hr]
 unfold Ki at e
 split at e
 next n off hx=>
  rw[hx] at dx;simp only[az] at dx;obtain⟨b,l,he,ev⟩:=dx;simp only[Q.run] at e;split at e
  .rename_i p q hk;simp only[bp,br] at e;obtain⟨rfl,rfl⟩:=e;split at hk
   .rename_i E cs hl;split at hk
    next s e1=>obtain⟨u,r1,r2,e2,e3,rfl⟩:=Q.run_bind _ _ _ hk;cases cA e3;obtain⟨⟨vs,hh,hd⟩,_⟩:=m.live_blk hl he;obtain⟨v,hr,hv⟩:=BV (o:=0) (k:=b) e1 hd (λj hj=>by rw[cell_of_row w b _ vs E (0,0) hh];simp);rw[gk] at hr;obtain⟨A',m',x'⟩:=Ds m cs e2;exact⟨v,w,.inl (go ev hr),(),A',env,trivial,m',x',yl x' _ _ hv⟩
    .cases hk
   .cases hk
  .cases e
 .cases e
end
end Go.SX
namespace Go.SX
section
variable {P:Program} {w0:World} {N0:f5} {A:Nat->Prop} {env:aZ} {h:bN} {w:World} {o:Oper} {a:Act} {ρ:Nat->SV} {d:Dl} {r:List Nat}
theorem Bc{k:IntKind}{a:Nat}(b:1<=a):∀(cs:List SV)(vs:List Value)(s:Nat)(l:ae),uf k a cs s=some l->aR A env w cs vs →
  ∀ j,s+j*a<vs.length->vs[s+j*a]? = some (.int k (lO l j))/\k.has (lO l j)
 | c::cs,vs,0,l,e,f,j,d=>by
  obtain⟨v,r,rfl,hv,g⟩:=f;cases c with
  | int k' n =>
   simp only[uf] at e;split at e
   .rename_i l' hk hl;cases e;cases mo hk;cases j with
    | zero=>simp[lO,hv.1,hv.2]
    | succ j =>
     have:=Bc b cs r (a-1) l' hl g j (by simp at d;rw[fP] at d;omega);have e1:0+(j+1)*a=(a-1+j*a)+1:=by rw[fP];omega
     rw[e1,List.getElem?_cons_succ];simpa[lO] using this
   .cases e
  | _=>simp[uf] at e
 | c::cs,vs,s+1,l,e,f,j,d=>by
  obtain⟨v,r,rfl,hv,g⟩:=f;have e':uf k a cs s=some l:=by cases c <;> simpa[uf] using e
  have:=Bc b cs r s l e' g j (by simp at d;omega);grind
theorem aB9(m:Mod w0 N0 A env h w)(f:FD A env w ρ a){t:TypeId}{x i:Operand}(ho:o.op = .index t x i)
  (e:(J2 P t (aW ρ x) (aW ρ i)).run h=some (d,r)) (hp:bV d.pre):bo P o a w0 N0 A env h w d:=by
 have u:=de f x
 have y:=de f i
 unfold J2 at e
 split at e
 next cs ki b len E hx hi hu=>
  rw[hx] at u;rw[hi] at y;obtain⟨vs,ev,j⟩:=u;have hvl:=jf j;have c:∀{v:Value}{n:Nat},gK P E=some n->0<=b->b<len->(part E vs (b.toNat*n)).run P w = .ok v w->(execOp a.eval o).run P w = .ok (.value v) w:=by
   intro v n hn h0 h1 hr;unfold execOp;rw[ho];simp only[Instr.index,y.1,ev,asIntOf,Sem.run_bind,Sem.run_pure,Result.andThen_ok,run_underlying hu,Sem.run_ite,am (And.intro h0 h1),kS hn,hr]
  split at e
  .rename_i k hE hsz;split at e
   .rename_i l hc g;have g:cs.length=len:=bG g;cases cA e;simp only[Dl.pre,bV,io] at hp;obtain⟨z,c2⟩:=Bc (iq 1) cs vs.toList 0 l hc j b.toNat (by omega)
    refine bo.pure m (c hsz hp.1 hp.2 (v := .int k (lO l b.toNat)) ?_) (by simp only[az];exact⟨trivial,c2⟩);have p:vL P E=some false:=by unfold vL;rw[hE]
    have q:vs[b.toNat]? = some (.int k (lO l b.toNat)):=by rw[← kI];simpa using z
    unfold part;simp[Sem.run_bind,BU p w,q]
   .cases e
  .rename_i E2 hE hsz;split at e
   .rename_i k hE2 hsz2;split at e
    .rename_i B l2 hc1 hc2 g;have g:cs.length=len*2:=bG g;cases cA e;simp only[Dl.pre,bV,io] at hp;obtain⟨z,c2⟩:=Bc (by decide) cs vs.toList 0 B hc1 j b.toNat (by omega)
     obtain⟨c3,c4⟩:=Bc (by decide) cs vs.toList 1 l2 hc2 j b.toNat (by omega)
     have p:vL P E=some true:=by unfold vL;rw[hE]
     refine bo.pure m (c hsz hp.1 hp.2 (v := .agg (vs.extract (b.toNat*2) (b.toNat*2+2))) ?_) ?_
     .unfold part;simp[Sem.run_bind,BU p w,kS hsz w]
     .simp only[az,aR];have s:(vs.extract (b.toNat*2) (b.toNat*2+2)).toList=[.int k (lO B b.toNat),.int k (lO l2 b.toNat)]:=by
       apply List.ext_getElem?;grind
      exact⟨_,rfl,_,_,s,⟨rfl,c2⟩,_,_,rfl,⟨rfl,c4⟩,rfl⟩
    .cases e
   .cases e
  .cases e
 .cases e
theorem aj1(m:Mod w0 N0 A env h w)(f:FD A env w ρ a){g:FuncId}{b:Array Operand}(ho:o.op = .makeFunc (.func g) #[] b){pre:List Prop} :
  bo P o a w0 N0 A env h w (.det pre (.fn g (b.toList.map (aW ρ))) []):=by
 refine bo.pure m (v := .func (.func g) #[] (b.map a.eval)) ?_ ?_
 .unfold execOp;rw[ho];simp[Instr.makeFunc]
 .simp only[az];refine⟨_,rfl,?_⟩;rw[Array.toList_map];generalize b.toList=l
  induction l with
  | nil=>simp[aR]
  | cons p l ih=>simp;exact⟨_,_,rfl,de f p,ih⟩
theorem Mv(m:Mod w0 N0 A env h w)(f:FD A env w ρ a){x:Operand}(b:o.op = .move x∨o.op = .assign x){pre:List Prop} :
  bo P o a w0 N0 A env h w (.det pre (aW ρ x) []):=by
 refine bo.pure m ?_ (de f x)
 unfold execOp
 rcases b with b|b <;> rw[b] <;> rfl
end
abbrev Spec:=Nat->List SV->Q Dl
def oQ(P:Program)(G:tM)(f:FuncId)(s:Spec):Prop :=
 ∀(base:Nat)(svs:List SV)(h:bN)(d:Dl)(r:List Nat),(s base svs).run h=some (d,r)->bV d.pre →
  ∀(w0:World)(N0:f5)(A:Nat->Prop)(env:aZ)(w:World)(vs:List Value),N0.g=G->Mod w0 N0 A env h w->aR A env w svs vs →
   Calls P f vs.toArray w (λe w'=>∃ v,e = .returned v/\da w0 N0 A env h w d v w')
def MO(P:Program)(f:FuncId):Bool:=match P.funcs[f]? with
 | some fn => !(fn.name == "runtime.NumGoroutine") && fn.body.isSome
 | none=>false
structure fh where
 fn:FuncId->Option Spec
 gl:tM
def jo(P:Program)(sp:fh):Prop:=∀ f s,sp.fn f=some s->oQ P sp.gl f s
def H1(P:Program)(sp:fh)(base:Nat)(f:SV)(args:List SV):Q Dl:=match f with
 | .fn g caps=>match MO P g,sp.fn g with
  | true,some s=>s base (args++caps)
  | _,_ => .fail
 | _ => .fail
def Zy(dst:Option Tmp):Nat:=match dst with
 | some d=>(d+1)*16
 | none=>0
def GO(P:Program)(dst:Option Tmp)(b:Builtin)(args:List SV)(ts:List TypeId):Q Dl:=match b,args,ts with
 | .len,[x],[t]=>oE P t x
 | .append,[s,x],[t,t']=>match Nat.beq t t',dst with
  | true,some d=>Cm P t ((d+1)*16) s x
  | false,some d=>Hi P t t' ((d+1)*16) s x
  | _,none => .fail
 | .cap,[x],[t]=>vg P t x
 | .min,[x,y],_=>Gd x y
 | .max,[x,y],_=>HV x y
 | _,_,_ => .fail
def au3(sp:fh):Option Tmp->Option Nat
 | some d=>match sp.fn (4000000000+d) with
  | some _=>some d
  | none=>none
 | none=>none
def S0(sp:fh):Option Tmp->Bool
 | some d=>match sp.fn (4100000000+d) with
  | some _=>true
  | none=>false
 | none=>false
def Od(sp:fh):Bool:=match sp.fn 4200000000 with
 | some _=>true
 | none=>false
def YY(sp:fh):Option Tmp->Bool
 | some d=>match sp.fn (4300000000+d) with
  | some _=>true
  | none=>false
 | none=>false
def VU(sp:fh):Option Tmp->Option Nat
 | some d=>match sp.fn (4400000000+d) with
  | some s=>match s 0 [] with
   | .ask n _=>some n
   | _=>none
  | none=>none
 | none=>none
def Yd(n:Nat)(x:SV):Q Dl:=(yA [.own n 0]).bind λu=>.ret (.det [] x u)
def Yo(sp:fh):Option Tmp->Bool
 | some d=>match sp.fn (4500000000+d) with
  | some _=>true
  | none=>false
 | none=>false
def H6(x:SV):Q Dl:=match x with
 | .own n sz => .ask n fun
  | .live (.row E u xs)=>match Nat.beq sz u.size with
   | true => .ret (.det [] (.dsl u xs) [(n,.live (.frz E u xs))])
   | false => .fail
  | _ => .fail
 | .dsl t xs=>cj (.dsl t xs)
 | _ => .fail
def nD(sp:fh)(ρ:Nat->SV)(x:Operand):SV:=match x with
 | .global g=>match sp.gl g with
  | some y => .dptr y.1 y.2 0
  | none => .gl g
 | x=>aW ρ x
def IJ(P:Program)(t:TypeId)(x i:SV):Q Dl:=match x,i,P.underlying t with
 | .agg cs,.int _ i,some (.array len e)=>match gK P e,decide (0<=i)&&decide (i<len) with
  | some n,true=>vE (n8 P e cs (i.toNat*n))
  | _,_ => .fail
 | _,_,_ => .fail
def xG(P:Program)(sp:fh)(o:Oper)(ρ:Nat->SV):Q Dl :=
 match o.op with
 | .move x=>match Yo sp o.dst with
  | true=>H6 (aW ρ x)
  | false=>cj (aW ρ x)
 | .assign x=>match VU sp o.dst with
  | some n=>Yd n (aW ρ x)
  | none=>cj (aW ρ x)
 | .pick c x y=>IA (aW ρ c) (aW ρ x) (aW ρ y)
 | .alloc E=>match o.dst with
  | some d=>z9 E ((d+1)*16) (zeroCells P E)
  | none => .fail
 | .box E x=>match o.dst with
  | some d=>z9 E ((d+1)*16) (vz (aW ρ x))
  | none => .fail
 | .build t ps=>G3 P t (ps.toList.map λp=>(p.1,aW ρ p.2))
 | .buildSlice t n ps=>match o.dst with
  | some d=>G0 P t n ((d+1)*16) (ps.toList.map λp=>(p.1,aW ρ p.2))
  | none => .fail
 | .load t x=>match Od sp,YY sp o.dst with
  | true,true=>Ki P t (nD sp ρ x)
  | true,false=>Gn P t (nD sp ρ x)
  | false,_=>AZ P t (nD sp ρ x)
 | .store t x y=>match Od sp with
  | true=>IG P t (aW ρ x) (aW ρ y)
  | false=>zb P t (aW ρ x) (aW ρ y)
 | .nilCheck x=>Hr (aW ρ x)
 | .binOp op t x y _=>match P.underlying t with
  | some .string=>JT op (aW ρ x) (aW ρ y)
  | _=>JH P op t (aW ρ x) (aW ρ y)
 | .unOp op _ x=>Hf op (aW ρ x)
 | .convert s t x=>match P.underlying t with
  | some .string=>GR P s (aW ρ x)
  | _=>J9 P s t (aW ρ x)
 | .makeFunc (.func g) fs caps=>match fs.isEmpty with
  | true=>cj (.fn g (caps.toList.map (aW ρ)))
  | false => .fail
 | .makeSlice t l c=>match o.dst with
  | some d=>G9 P t ((d+1)*16) (aW ρ l) (aW ρ c)
  | none => .fail
 | .slice t x lo hi mx=>match au3 sp o.dst with
  | some d=>FV P t ((d+1)*16) (aW ρ x) (lo.map (aW ρ)) (hi.map (aW ρ)) (mx.map (aW ρ))
  | none=>Ip P t (aW ρ x) (lo.map (aW ρ)) (hi.map (aW ρ)) (mx.map (aW ρ))
 | .fieldAddr s x f=>H4 P s f (aW ρ x)
 | .field s x f=>IT P s f (aW ρ x)
 | .indexAddr t x i=>match P.underlying t with
  | some (.array _ _)=>Kp P t (nD sp ρ x) (aW ρ i)
  | _=>HQ P t (aW ρ x) (aW ρ i)
 | .index t x i=>match S0 sp o.dst with
  | true=>IJ P t (aW ρ x) (aW ρ i)
  | false=>J2 P t (aW ρ x) (aW ρ i)
 | .extract x i=>Ho i (aW ρ x)
 | .makeMap t none=>match o.dst with
  | some d=>JY P t ((d+1)*16)
  | none => .fail
 | .lookup t x i true=>Gg P t (aW ρ x) (aW ρ i)
 | .mapUpdate t x i y=>FZ P t (aW ρ x) (aW ρ i) (aW ρ y)
 | .call {callee := .builtin b,args,argTypes}=>GO P o.dst b (args.toList.map (aW ρ)) argTypes.toList
 | .call {callee := .value f,args,..}=>H1 P sp (Zy o.dst) (aW ρ f) (args.toList.map (aW ρ))
 | _ => .fail
section
variable {P:Program} {sp:fh} {w0:World} {N0:f5} {A:Nat->Prop} {env:aZ} {h:bN} {w:World} {o:Oper} {a:Act} {ρ:Nat->SV} {d:Dl} {r:List Nat}
def A7(P:Program)(o:Oper)(a:Act)(w0:World)(N0:f5)(A:Nat->Prop)(env:aZ)(h:bN)(w:World)(d:Dl):Prop :=
 ∀(K:Act->World->Prop)(Q':Exit->Act->World->Prop),(∀ v w',da w0 N0 A env h w d v w'→K (a.put o.dst v) w')->o.wp P a w K Q'
theorem bo.steps(y:bo P o a w0 N0 A env h w d):A7 P o a w0 N0 A env h w d:=by
 intro K Q' hK
 obtain⟨v,w',b,g⟩:=y
 unfold Oper.wp
 rcases b with b|⟨b,rfl⟩ <;> rw[b]
 .exact hK _ _ g
 .exact hK _ _ g
theorem an0(f:FD A env w ρ a)(xs:Array Operand):aR A env w (xs.toList.map (aW ρ)) (xs.map a.eval).toList:=by
 rw[Array.toList_map]
 generalize xs.toList=l
 induction l with
 | nil=>simp[aR]
 | cons p l ih=>simp;exact⟨_,_,rfl,de f p,ih⟩
theorem EH(hg:N0.g=sp.gl)(m:Mod w0 N0 A env h w)(f:FD A env w ρ a)(x:Operand):az A env w (nD sp ρ x) (a.eval x):=by
 cases x with
 | global g =>
  simp only[nD];cases hy:sp.gl g with
  | none=>simp only[az,Act.eval]
  | some y =>
   obtain⟨h1,h2⟩:=m.gl g y (by rw[hg];exact hy);exact⟨g,0,rfl,h1,h2⟩
 | tmp t=>simp only[nD];exact de f _
 | const v=>simp only[nD];exact de f (.const v)
 | func v=>simp only[nD];exact de f (.func v)
theorem ax1(m:Mod w0 N0 A env h w)(f:FD A env w ρ a){x:Operand}(ho:o.op = .move x)(e:(H6 (aW ρ x)).run h=some (d,r)):bo P o a w0 N0 A env h w d:=by
 have j:=de f x
 have g:(execOp a.eval o).run P w = .ok (.value (a.eval x)) w:=by unfold execOp;rw[ho];rfl
 unfold H6 at e
 split at e
 next n sz hx=>
  rw[hx] at j;simp only[Q.run] at e;split at e
  .rename_i p q hk;obtain⟨rfl,rfl⟩:=e;split at hk
   .rename_i E u xs hl;split at hk
    .rename_i k;have k:=bG k;cases cA hk;have ok:oe h [(n,.live (.frz E u xs))]:=by
      intro n' b l;simp_all
     obtain⟨y,x2⟩:=m.freeze ok;refine⟨a.eval x,w,.inl g,(),_,env,trivial,y,x2,?_⟩;rcases j with⟨hnil,pa,ev⟩|⟨b,len,E2,c,l,s,ev⟩
     .have v:xs=[]:=by
       have:=m.nm n;rw[hl] at this;rcases this with⟨k',l',he',_⟩|⟨_,E3,t3,l⟩
       .simp_all
       .grind
      subst v;exact⟨by simp,.inl ⟨⟨pa,ev⟩,rfl⟩⟩
     .have hs:cZ [(n,Nm.live (kZ.frz E u xs))] h n = .live (.frz E u xs):=by simp[cZ]
      have i:=(y.live_blk hs l).1;rw[ev,k];exact D9 (λ_ h=>h) i.2 i.1 s
    .cases hk
   .cases hk
  .cases e
 next t xs hx=>rw[hx] at j;cases cA e;exact bo.pure m g j
 .cases e
theorem aG1(m:Mod w0 N0 A env h w)(f:FD A env w ρ a){t:TypeId}{x i:Operand}(ho:o.op = .index t x i)
  (e:(IJ P t (aW ρ x) (aW ρ i)).run h=some (d,r)):bo P o a w0 N0 A env h w d:=by
 have c:=de f x
 have g:=de f i
 unfold IJ at e
 split at e
 next cs ki iv len E hx hi hu=>
  rw[hx] at c;rw[hi] at g;obtain⟨vs,ev,dv⟩:=c;split at e
  next n hn b=>simp at b;obtain⟨sv,e1,rfl⟩:=yy e;obtain⟨v,hr,hd⟩:=Ew e1 dv;refine bo.pure m ?_ hd;unfold execOp;rw[ho];simp only[Instr.index,g.1,ev,asIntOf,Sem.run_bind,Sem.run_pure,Result.andThen_ok,run_underlying hu,Sem.run_ite,am (And.intro b.1 b.2),kS hn,hr]
  .cases e
 .cases e
theorem av3(p:jo P sp/\N0.g=sp.gl)(m:Mod w0 N0 A env h w)(f:FD A env w ρ a){g:Operand}{args:Array Operand}{ts:Array TypeId}{c:Nat}(ho:o.op = .call {callee := .value g,args,argTypes:=ts})
  (e:(H1 P sp c (aW ρ g) (args.toList.map (aW ρ))).run h=some (d,r)) (hp:bV d.pre):(∃ v l,da w0 N0 A env h w d v l)/\A7 P o a w0 N0 A env h w d:=by
 have q:=de f g
 unfold H1 at e
 split at e
 next gi caps hg=>
  split at e
  .rename_i s k hsp;rw[hg] at q;obtain⟨vs,ev,dv⟩:=q;have b:=p.1 gi s hsp c _ h d r e hp w0 N0 A env w _ p.2 m (uh (an0 f args) dv);refine⟨?_,λK Q' hK=>?_⟩
   .obtain⟨e',l,fr,⟨v,_,g⟩,_⟩:=b [];exact⟨v,l,g⟩
   unfold Oper.wp execOp;rw[ho];unfold MO at k;split at k
   .rename_i t n;simp only[dK,sa] at k;have i:t.body.isNone=false:=by cases hfb:t.body <;> simp_all
    simp only[resolve,Deferred.ofValue,ev,Sem.run_bind,Sem.run_pure,Result.andThen_ok,invoke,callFunc,run_program,n,k.1,i,BK,if_false,Array.empty_append,Oper.upon];have j:((Array.map a.eval args).toList++vs.toList).toArray=Array.map a.eval args++vs:=by apply Array.ext';simp
    rw[j] at b;refine b.mono ?_;simp_all
   .cases k
  .cases e
 .cases e
theorem zP{v:SV}(e:(cj v).run h=some (d,r)):d = .det [] v []:=(cA e).symm
theorem ML(q:jo P sp/\N0.g=sp.gl)(m:Mod w0 N0 A env h w)(f:FD A env w ρ a)
  (e:(xG P sp o ρ).run h=some (d,r)) (k:bV d.pre):(∃ v z,da w0 N0 A env h w d v z)/\A7 P o a w0 N0 A env h w d:=by
 have j:bo P o a w0 N0 A env h w d->(∃ v z,da w0 N0 A env h w d v z)/\A7 P o a w0 N0 A env h w d:=λy=>by
  have y':=y;obtain⟨v,z,hr,g⟩:=y';exact⟨⟨v,z,g⟩,y.steps⟩
 unfold xG at e
 split at e
 next x ho=>
  split at e
  .exact j (ax1 m f ho e)
  .rw[zP e];rw[zP e] at j;exact j (Mv m f (.inl ho))
 next x ho=>
  split at e
  .obtain⟨u,r1,r2,e2,e3,rfl⟩:=Q.run_bind _ _ _ e;cases cA e3;obtain⟨A',m',I⟩:=Ds m _ e2;refine j ⟨a.eval x,w,.inl ?_,(),A',env,trivial,m',I,yl I _ _ (de f x)⟩;unfold execOp;rw[ho];rfl
  .rw[zP e];rw[zP e] at j;exact j (Mv m f (.inr ho))
 next c x y ho=>exact j (ar8 m f ho e k)
 next E ho=>
  split at e
  .exact j (aX2 m ho e)
  .cases e
 next E x ho=>
  split at e
  .exact j (Uv m f ho e)
  .cases e
 next t ps ho=>exact j (Yk m f ho e)
 next t n ps ho=>
  split at e
  .exact j (ZB m f ho e)
  .cases e
 next t x ho=>
  split at e
  .exact j (SW m (nD sp ρ) (EH q.2 m f x) ho e)
  .exact j (an3 m (nD sp ρ) (EH q.2 m f x) ho e k)
  .exact j (J7 m (nD sp ρ) (EH q.2 m f x) ho e)
 next t x y ho=>
  split at e
  .exact j (aW3 m f ho e k)
  .exact j (D2 m f ho e)
 next x ho=>exact j (ah7 m f ho e)
 next op t x y yt ho=>
  split at e
  next D=>exact j (ad8 m f ho D e)
  .exact j (al4 m f ho e k)
 next op t x ho=>exact j (aC2 m f ho e k)
 next s t x ho=>
  split at e
  next D=>exact j (ZU m f ho D e)
  .exact j (X9 m f ho e k)
 next g fs caps ho=>
  split at e
  .rename_i F;have:fs = #[]:=by simpa using F
   subst this;rw[zP e];rw[zP e] at j;exact j (aj1 m f ho)
  .cases e
 next t l c ho=>
  split at e
  .exact j (Z1 m f ho e k)
  .cases e
 next t x lo hi mx ho=>
  split at e
  .exact j (Wr m f ho e k)
  .exact j (Tm m f ho e k)
 next s x i ho=>exact j (W0 m f ho e)
 next s x i ho=>exact j (aX4 m f ho e)
 next t x i ho=>
  split at e
  .exact j (XF m f (nD sp ρ) (EH q.2 m f x) ho e)
  .exact j (aq5 m f ho e k)
 next t x i ho=>
  split at e
  .exact j (aG1 m f ho e)
  .exact j (aB9 m f ho e k)
 next x i ho=>exact j (ag7 m f ho e)
 next t ho=>
  split at e
  .exact j (ax8 m ho e)
  .cases e
 next t x i ho=>exact j (ag9 m f ho e)
 next t x i y ho=>exact j (Sw m f ho e)
 next b args ts ho=>
  obtain⟨al⟩:=args;obtain⟨B⟩:=ts;have p:(GO P o.dst b (al.map (aW ρ)) B).run h=some (d,r):=e;cases b
  case len =>
   match al,B with
   | [C],[G]=>exact j (X3 m f ho p)
  case cap =>
   match al,B with
   | [C],[G]=>exact j (aH0 m f ho p)
  case append =>
   match al,B with
   | [C,J],[G,t2] =>
    simp only[List.map,GO] at p;split at p
    next dd H _=>have H:G=t2:=bG H;subst H;exact j (Oy m f ho p k)
    .exact j (V2 m f ho p k)
    .cases p
  case min =>
   match al with
   | [C,J]=>exact j (Zx m f ho p)
  case max =>
   match al with
   | [C,J]=>exact j (az7 m f ho p)
  all_goals (cases p)
 next g args ts ho=>exact av3 q m f ho e k
 .cases e
end
end Go.SX
namespace Go.SX
def dV(sl:List SV)(i:Nat):SV:=match nK sl i with
 | some v=>v
 | none => .junk
structure FS where
 sl:List SV
 h:bN
def BR:SV->SV
 | .opt _ v=>v
 | v=>v
def Kz(g:Bool):SV->List Prop
 | .opt b _=>[g=true->b=true]
 | _=>[]
def uH:List Operand->List Nat
 | []=>[]
 | .tmp t::r=>t::uH r
 | _::r=>uH r
def oG(n:Nat):List Nat->Bool
 | []=>false
 | m::r=>Nat.beq n m||oG n r
theorem xU{n:Nat}:∀{l:List Nat},oG n l=true↔n∈l
 | []=>by simp[oG]
 | m::r=>by simp[oG,xU (l:=r)]
def vd(o:Oper):List Nat:=match o.op with
 | .pick (.tmp c) _ _=>[c]
 | .pick _ _ _=>[]
 | op=>uH op.operands.toList
inductive GV where
 | always
 | cond (g:Bool)
 | unknown
abbrev RC(b want:Bool):Bool:=match want with
 | true=>b
 | false => !b
def wY(ops:List Oper)(sl:List SV):Option (Nat×Bool)->GV
 | none => .always
 | some (j,want)=>match nK ops j with
  | some oj=>match oj.dst with
   | some d=>match dV sl d with
    | .bool b => .cond (RC b want)
    | .opt g (.bool b) => .cond (g&&RC b want)
    | v=>match Ff v with
     | true => .cond false
     | false => .unknown
   | none => .unknown
  | none => .unknown
inductive iU:Type 1 where
 | go (d:Dl)
 | split (g:Bool) (d:Dl)
def ra(g:Bool)(sl:List SV):List Nat->List Prop
 | []=>[]
 | i::r=>Kz g (dV sl i)++ra g sl r
def Cj:List Prop->Bool->List Prop
 | [],_=>[]
 | l,g=>[g=true->bV l]
def O4(g:Bool)(pu:List Prop)(d:Dl):Q iU:=match d with
 | .det pre v [] => .ret (.go (.det (Cj (pu++pre) g) (.opt g v) []))
 | .det pre v upd => .ret (.split g (.det (pu++pre) v upd))
 | .nd X qn pre R inh v upd => .ret (.split g (.nd X qn (pu++pre) R (λh=>inh (pO.1 h).2) v upd))
def BY(sl:List SV):List Nat->Bool
 | []=>false
 | i::r=>Ff (dV sl i)||BY sl r
def ng(P:Program)(sp:fh)(ops:List Oper)(o:Oper)(sl:List SV):Q iU:=match wY ops sl o.guard with
 | .always=>(xG P sp o (dV sl)).bind λd=>.ret (.go d)
 | .cond g=>match BY sl (vd o) with
  | true => .ret (.go (.det [g=false] (.cv undef) []))
  | false=>(xG P sp o (λi=>match oG i (vd o) with|true=>BR (dV sl i)|false=>dV sl i)).bind (O4 g (ra g sl (vd o)))
 | .unknown => .fail
def jB(sl:List SV)(dst:Option Tmp)(v:SV):List SV:=match dst with
 | some d=>sl.set d v
 | none=>sl
def FS.app(F:FS)(dst:Option Tmp)(d:Dl)(x:d.X):FS:=⟨jB F.sl dst (d.val x),d.hp x F.h⟩
def FS.skip(F:FS)(dst:Option Tmp):FS:=⟨jB F.sl dst (.cv undef),F.h⟩
def lQ(st:iU)(dst:Option Tmp)(F F':FS):Prop:=match st with
 | .go d=>∃ x,d.R x/\F'=F.app dst d x
 | .split g d=>(g=true∧∃ x,d.R x/\F'=F.app dst d x)∨(g=false/\F'=F.skip dst)
def iU.pre:iU->Prop
 | .go d=>bV d.pre
 | .split g d=>g=true->bV d.pre
def iU.wr:iU->List Nat
 | .go d=>d.wr
 | .split _ d=>d.wr
structure ij (w0:World) (N0:f5) (A:Nat->Prop) (env:aZ) (F:FS) (a:Act) (w:World):Prop where
 m:Mod w0 N0 A env F.h w
 len:F.sl.length<=a.tmps.size
 f:FD A env w (dV F.sl) a
 dfr:a.defers=[]
section
variable {P:Program} {sp:fh} {w0:World} {N0:f5} {A:Nat->Prop} {env:aZ} {F F':FS} {w:World} {o:Oper} {a:Act} {st:iU} {r:List Nat}
theorem Oa{sl:List SV}{d i:Nat}{v:SV}:dV (sl.set d v) i=if i=d/\d<sl.length then v else dV sl i:=by
 unfold dV
 simp only[vD,List.getElem?_set]
 by_cases h:d=i
 .subst h;by_cases h2:d<sl.length
  .simp[h2]
  .simp[h2]
 .have:¬ i=d:=λe=>h e.symm;simp[h,this]
theorem M8{A':Nat->Prop}{env':aZ}{w':World}{sl:List SV}{v:SV}{u:Value}(len:sl.length<=a.tmps.size)(f:FD A env w (dV sl) a)(x:dB A env w A' env' w')(dst:Option Tmp)
  (hd:az A' env' w' v u):FD A' env' w' (dV (jB sl dst v)) (a.put dst u):=by
 intro i
 cases dst with
 | none=>exact yl x _ _ (f i)
 | some d =>
  simp only[jB,Act.put];rw[Oa];split
  .rename_i h;obtain⟨rfl,h⟩:=h;have hi:i<a.tmps.size:=by omega
   simp only[qH,Array.getElem?_setIfInBounds_self_of_lt hi,fZ];exact hd
  .rename_i h;by_cases hid:i=d
   .subst hid;have:¬ i<sl.length:=λhh=>h ⟨rfl,hh⟩;have:dV sl i = .junk:=by unfold dV;rw[vD,yv (by omega)]
    rw[this];simp only[az]
   .have h2:=yl x _ _ (f i);simp only[qH] at h2 ⊢;rw[Af (λe=>hid e.symm)];exact h2
theorem L3(a:Act)(dst:Option Tmp)(v:Value):(a.put dst v).tmps.size=a.tmps.size:=by cases dst <;> simp[Act.put]
theorem Lk(a:Act)(dst:Option Tmp)(v:Value):(a.put dst v).defers=a.defers:=by cases dst <;> rfl
theorem Pc(sl:List SV)(dst:Option Tmp)(v:SV):(jB sl dst v).length=sl.length:=by cases dst <;> simp[jB]
theorem ij.app(t:ij w0 N0 A env F a w){d:Dl}{v:Value}{w':World}(g:da w0 N0 A env F.h w d v w')(dst:Option Tmp) :
  ∃ x A' env',d.R x/\ij w0 N0 A' env' (F.app dst d x) (a.put dst v) w'∧dB A env w A' env' w':=by
 obtain⟨x,A',env',hR,m',e',hd⟩:=g
 exact⟨x,A',env',hR,⟨m',by simp only[FS.app,Pc,L3];exact t.len,M8 t.len t.f e' dst hd,by rw[Lk];exact t.dfr⟩,e'⟩
theorem ij.skip(t:ij w0 N0 A env F a w)(dst:Option Tmp):ij w0 N0 A env (F.skip dst) (a.put dst undef) w :=
 ⟨t.m,by simp only[FS.skip,Pc,L3];exact t.len,M8 t.len t.f dB.refl dst (by simp only[az]),by rw[Lk];exact t.dfr⟩
theorem TK(a:Act){ops:Array Oper}(h:o.guard=none):Region.wanted o (yielded ops a.tmps)=true:=by simp[Region.wanted,h]
theorem ZL(t:ij w0 N0 A env F a w){ops:Array Oper}{g:Bool}(e:wY ops.toList F.sl o.guard = .cond g) :
  Region.wanted o (yielded ops a.tmps)=g:=by
 unfold wY at e
 split at e
 .cases e
 next j want hg=>
  have hw:Region.wanted o (yielded ops a.tmps)=(yielded ops a.tmps j == some want):=by simp[Region.wanted,hg]
  split at e
  .rename_i oj hj;split at e
   .rename_i d hd;have hj':ops[j]? = some oj:=by rw[vD,kI] at hj;exact hj
    have hy:yielded ops a.tmps j=match a.tmps[d]? with|some (.bool b)=>some b|_=>none:=by
     unfold yielded;rw[hj'];simp only[Option.bind_some,hd];rfl
    have hfd:=t.f d;have getIt:∀{v:Value},a.tmps.getD d undef=v->v≠undef->a.tmps[d]? = some v:=by
     intro v hv hne;rw[qH] at hv;cases hx:a.tmps[d]? with
     | none=>rw[hx] at hv;exact absurd hv.symm hne
     | some u=>rw[hx] at hv;simp only[fZ] at hv;rw[hv]
    rw[hw,hy];split at e
    next b hb=>cases e;rw[hb] at hfd;simp only[az] at hfd;rw[getIt hfd (by simp[undef])];cases b <;> cases want <;> rfl
    .rename_i g' b hb;cases e;rw[hb] at hfd;cases g' with
     | true =>
      simp only[az] at hfd;rw[getIt hfd (by simp[undef])];cases b <;> cases want <;> rfl
     | false =>
      simp only[az] at hfd;rw[qH] at hfd;cases hx:a.tmps[d]? with
      | none=>rfl
      | some u=>rw[hx] at hfd;simp only[fZ] at hfd;subst hfd;rfl
    .rename_i hv1 hv2;split at e
     .rename_i hun;cases e;have hun':∃ vs,dV F.sl d = .cv (.tuple vs)/\vs.isEmpty=true:=by
       generalize dV F.sl d=v at hun;unfold Ff at hun;split at hun
       next vs=>exact⟨vs,rfl,hun⟩
       .cases hun
      obtain⟨vs,h1,h2⟩:=hun';rw[h1] at hfd;simp only[az] at hfd;rw[qH] at hfd;cases hx:a.tmps[d]? with
      | none=>rfl
      | some u=>rw[hx] at hfd;simp only[fZ] at hfd;subst hfd;rfl
     .cases e
   .cases e
  .cases e
theorem Rj{g:Bool}{sl:List SV}:∀{l:List Nat},bV (ra g sl l)→∀ i∈l,bV (Kz g (dV sl i))
 | [],_,i,hi=>by simp at hi
 | j::r,h,i,hi=>by
  simp only[ra,pO] at h;rcases dL.1 hi with rfl|hi
  .exact h.1
  .exact Rj h.2 i hi
theorem aQ2(f:FD A env w (dV F.sl) a){l:List Nat}(hp:bV (ra true F.sl l)) :
  FD A env w (λi=>match oG i l with|true=>BR (dV F.sl i)|false=>dV F.sl i) a:=by
 intro i
 show az A env w (match oG i l with|true=>BR (dV F.sl i)|false=>dV F.sl i) _
 cases hm:oG i l with
 | false=>exact f i
 | true =>
  have:=Rj hp i (xU.1 hm);have hf:=f i;show az A env w (BR (dV F.sl i)) _;generalize dV F.sl i=v at *;cases v with
  | opt b v =>
   have hb:b=true:=by simpa[Kz,bV] using this
   subst hb;simpa only[BR,az] using hf
  | _=>exact hf
theorem aF5{l:List Prop}{g:Bool}(h:bV (Cj l g))(hg:g=true):bV l:=by
 cases l with
 | nil=>trivial
 | cons p l=>simp only[Cj,bV,io] at h;exact h hg
theorem Hq(hs:jo P sp/\N0.g=sp.gl)(t:ij w0 N0 A env F a w){ops:Array Oper}(e:(ng P sp ops.toList o F.sl).run F.h=some (st,r))(hp:st.pre) :
  (∃ F',lQ st o.dst F F'∧∃ A' env' a' w',ij w0 N0 A' env' F' a' w'∧dB A env w A' env' w') ∧
  ∀(K:Act->World->Prop)(Q':Exit->Act->World->Prop),(∀ F' A' env' a' w',lQ st o.dst F F'→ij w0 N0 A' env' F' a' w'→dB A env w A' env' w'→K a' w') →
   if Region.wanted o (yielded ops a.tmps) then o.wp P a w K Q'∨(o.asks P a w/\LetsOut Q') else K (a.put o.dst undef) w:=by
 unfold ng at e
 split at e
 next hg=>
  obtain⟨d,r1,r2,e1,e2,rfl⟩:=Q.run_bind _ _ _ e;simp only[Q.run,bp,br] at e2;obtain⟨rfl,rfl⟩:=e2;obtain⟨⟨v,w',g⟩,hst⟩:=ML hs t.m t.f e1 hp;have hgn:o.guard=none:=by
   unfold wY at hg;split at hg
   .assumption
   .split at hg
    .split at hg
     .split at hg
      .cases hg
      .cases hg
      .split at hg <;> cases hg
     .cases hg
    .cases hg
  refine⟨?_,λK Q' hK=>?_⟩
  .obtain⟨x,A',env',hR,t',x'⟩:=t.app g o.dst;exact⟨_,⟨x,hR,rfl⟩,A',env',_,_,t',x'⟩
  .rw[TK a hgn];refine .inl (hst K Q' λv w' g=>?_);obtain⟨x,A',env',hR,t',x'⟩:=t.app g o.dst;exact hK _ _ _ _ _ ⟨x,hR,rfl⟩ t' x'
 next g hg=>
  have hwant:=ZL t hg;split at e
  .simp only[Q.run,bp,br] at e;obtain⟨rfl,rfl⟩:=e;simp only[iU.pre,Dl.pre,bV,io] at hp;rw[hwant];subst hp;have gd:da w0 N0 A env F.h w (.det [false=false] (.cv undef) []) undef w :=
    ⟨(),A,env,trivial,t.m,dB.refl,by simp only[Dl.val,az]⟩
   obtain⟨x,A',env',hR,t',x'⟩:=t.app gd o.dst;refine⟨⟨_,⟨x,hR,rfl⟩,A',env',_,_,t',x'⟩,λK Q' hK=>?_⟩;rw[af (by simp)];exact hK _ _ _ _ _ ⟨x,hR,rfl⟩ t' x'
  obtain⟨d,r1,r2,e1,e2,rfl⟩:=Q.run_bind _ _ _ e;rw[hwant];have yes:g=true->bV (ra g F.sl (vd o))->bV d.pre->(∃ v w',da w0 N0 A env F.h w d v w')/\A7 P o a w0 N0 A env F.h w d:=by
   rintro rfl h1 h2;exact ML hs t.m (aQ2 t.f h1) e1 h2
  have splitCase:∀ d',st = .split g d'→d'.X=d.X->(∀(h1:bV d'.pre),bV (ra g F.sl (vd o))/\bV d.pre) →
    (∀ v w',da w0 N0 A env F.h w d v w'→da w0 N0 A env F.h w d' v w') →
    (∃ F',lQ st o.dst F F'∧∃ A' env' a' w',ij w0 N0 A' env' F' a' w'∧dB A env w A' env' w') ∧
    ∀(K:Act->World->Prop)(Q':Exit->Act->World->Prop),(∀ F' A' env' a' w',lQ st o.dst F F'→ij w0 N0 A' env' F' a' w'→dB A env w A' env' w'→K a' w') →
     if g=true then o.wp P a w K Q'∨(o.asks P a w/\LetsOut Q') else K (a.put o.dst undef) w:=by
   rintro d' rfl _ hpre hgood;cases g with
   | true =>
    obtain⟨h1,h2⟩:=hpre (hp rfl);obtain⟨⟨v,w',gd⟩,hst⟩:=yes rfl h1 h2;refine⟨?_,λK Q' hK=>?_⟩
    .obtain⟨x,A',env',hR,t',x'⟩:=t.app (hgood _ _ gd) o.dst;exact⟨_,.inl ⟨rfl,x,hR,rfl⟩,A',env',_,_,t',x'⟩
    .rw[am rfl];refine .inl (hst K Q' λv w' gd=>?_);obtain⟨x,A',env',hR,t',x'⟩:=t.app (hgood _ _ gd) o.dst;exact hK _ _ _ _ _ (.inl ⟨rfl,x,hR,rfl⟩) t' x'
   | false =>
    refine⟨⟨_,.inr ⟨rfl,rfl⟩,A,env,_,_,t.skip o.dst,dB.refl⟩,λK Q' hK=>?_⟩;rw[af (by simp)];exact hK _ _ _ _ _ (.inr ⟨rfl,rfl⟩) (t.skip o.dst) dB.refl
  unfold O4 at e2;split at e2
  .rename_i pre v;simp only[Q.run,bp,br] at e2;obtain⟨rfl,rfl⟩:=e2;simp only[iU.pre,Dl.pre] at hp;cases g with
   | true =>
    have h12:=aF5 hp rfl;rw[pO] at h12;obtain⟨⟨u,w',gd⟩,hst⟩:=yes rfl h12.1 h12.2;have conv:∀ u w',da w0 N0 A env F.h w (.det pre v []) u w'→da w0 N0 A env F.h w (.det (Cj (ra true F.sl (vd o)++pre) true) (.opt true v) []) u w':=by
     rintro u w' ⟨x,A',env',hR,m',x',hd⟩;exact⟨(),A',env',trivial,m',x',by simpa only[Dl.val,az] using hd⟩
    refine⟨?_,λK Q' hK=>?_⟩
    .obtain⟨x,A',env',hR,t',x'⟩:=t.app (conv _ _ gd) o.dst;exact⟨_,⟨x,hR,rfl⟩,A',env',_,_,t',x'⟩
    .rw[am rfl];refine .inl (hst K Q' λv w' gd=>?_);obtain⟨x,A',env',hR,t',x'⟩:=t.app (conv _ _ gd) o.dst;exact hK _ _ _ _ _ ⟨x,hR,rfl⟩ t' x'
   | false =>
    have gd:da w0 N0 A env F.h w (.det (Cj (ra false F.sl (vd o)++pre) false) (.opt false v) []) undef w :=
     ⟨(),A,env,trivial,t.m,dB.refl,by simp only[Dl.val,az]⟩
    obtain⟨x,A',env',hR,t',x'⟩:=t.app gd o.dst;refine⟨⟨_,⟨x,hR,rfl⟩,A',env',_,_,t',x'⟩,λK Q' hK=>?_⟩;rw[af (by simp)];exact hK _ _ _ _ _ ⟨x,hR,rfl⟩ t' x'
  next pre v upd _=>simp only[Q.run,bp,br] at e2;obtain⟨rfl,rfl⟩:=e2;exact splitCase _ rfl rfl (λh1=>by simpa only[Dl.pre,pO] using h1) (λu w' ⟨x,A',env',hR,m',x',hd⟩=>⟨(),A',env',trivial,m',x',hd⟩)
  next X pre R inh v upd=>simp only[Q.run,bp,br] at e2;obtain⟨rfl,rfl⟩:=e2;exact splitCase _ rfl rfl (λh1=>by simpa only[Dl.pre,pO] using h1) (λu w' ⟨x,A',env',hR,m',x',hd⟩=>⟨x,A',env',hR,m',x',hd⟩)
 .cases e
end
end Go.SX
namespace Go.SX
def vv:Option Tmp->List Nat
 | some d=>[d]
 | none=>[]
def tc(wr:List Nat)(h:bN):bN:=λn=>match oG n wr with
 | true=>h n
 | false => .un
theorem ak4{wr:List Nat}{h:bN}{n:Nat}(hn:n∈wr):tc wr h n=h n:=by unfold tc;rw[xU.2 hn]
theorem aC4{wr:List Nat}{h h':bN}(e:∀ n∈wr,h' n=h n):tc wr h'=tc wr h:=by
 funext n
 unfold tc
 split
 next hm=>exact e n (xU.1 hm)
 .rfl
structure nY where
 rd:List Nat
 wr:List Nat
 srd:List Nat
 swr:List Nat
 q:Q iU
 st:iU
 old:bN
def jp(P:Program)(sp:fh)(ops:Array Oper)(o:Oper)(st:iU)(r:List Nat)(F:FS):nY:=⟨r,st.wr,o.looksAt ops,vv o.dst,ng P sp ops.toList o F.sl,st,tc st.wr F.h⟩
def oR:List Nat->List Nat->Bool
 | [],_=>true
 | a::r,l => !oG a l&&oR r l
theorem pN:∀{l m:List Nat},oR l m=true→∀ n∈l,n ∉ m
 | [],m,_,n,hn=>by simp at hn
 | a::r,m,h,n,hn=>by
  simp only[oR,dK,sa] at h;rcases dL.1 hn with rfl|hn
  .intro hm;rw[xU.2 hm] at h;exact absurd h.1 (by simp)
  .exact pN h.2 n hn
def F0(s t:nY):Bool:=oR s.wr t.rd&&oR s.wr t.wr&&oR t.wr s.rd&&oR s.swr t.srd&&oR s.swr t.swr&&oR t.swr s.srd
def GU(s t:nY):Prop:=∃ pre v u,s.st = .go (.det pre v u)/\(∀ n∈t.rd,n∈s.wr)/\t.q.run s.old=some (t.st,t.rd)/\t.q.run (cZ u s.old)=some (t.st,t.rd)
structure tB (s t:nY):Prop where
 a:(∀ n∈s.wr,n ∉ t.rd)∨GU s t
 b:∀ n∈s.wr,n ∉ t.wr
 c:(∀ n∈t.wr,n ∉ s.rd)∨GU t s
 d:∀ n∈s.swr,n ∉ t.srd
 e:∀ n∈s.swr,n ∉ t.swr
 f:∀ n∈t.swr,n ∉ s.srd
theorem tB.symm{s t:nY}(h:tB s t):tB t s:=⟨h.c,λn hn hm=>h.b n hm hn,h.a,h.f,λn hn hm=>h.e n hm hn,h.d⟩
theorem Tt{s t:nY}(h:F0 s t=true):tB s t:=by
 simp only[F0,dK] at h
 obtain⟨⟨⟨⟨⟨h1,h2⟩,h3⟩,h4⟩,h5⟩,h6⟩:=h
 exact⟨.inl (pN h1),pN h2,.inl (pN h3),pN h4,pN h5,pN h6⟩
def te:List Nat->Nat->Nat
 | [],_=>0
 | m::_,0=>m
 | _::r,n+1=>te r n
theorem HR:∀(l:List Nat)(n:Nat),te l n=l.getD n 0
 | [],n=>by simp[te]
 | m::r,0=>rfl
 | m::r,n+1=>by simp[te,HR r n]
def AI(tbl:List Nat):List Edge->Nat
 | []=>0
 | e::r=>match Region.binds .any e with
  | true=>(1 <<< e.on) ||| (te tbl e.on ||| AI tbl r)
  | false=>AI tbl r
def Es:List Oper->List Nat->List Nat
 | [],tbl=>tbl
 | o::r,tbl=>Es r (tbl++[AI tbl o.after.toList])
def yU(msk:List Nat)(i j:Nat):Bool:=(te msk j).testBit i
inductive rP (ops:Array Oper):Nat->Nat->Prop where
 | edge {i j:Nat} {o:Oper} {e:Edge} (ho:ops[j]? = some o) (he:e∈o.after) (hb:Region.binds .any e=true) (hi:e.on=i):rP ops i j
 | step {i j:Nat} {o:Oper} {e:Edge} (ho:ops[j]? = some o) (he:e∈o.after) (hb:Region.binds .any e=true) (h:rP ops i e.on):rP ops i j
theorem UP(n i:Nat)(h:(1 <<< n).testBit i=true):i=n:=by
 rw[Nat.testBit_shiftLeft] at h
 simp only[dK,lU] at h
 have h2:=h.2
 by_cases hz:i-n=0
 .omega
 .have:Nat.testBit 1 (i-n)=false:=by
   cases hk:i-n with
   | zero=>exact absurd hk hz
   | succ k=>simp[Nat.testBit_succ]
  rw[this] at h2;cases h2
theorem JK{ops:Array Oper}{tbl:List Nat}{j i:Nat}{o:Oper}(ho:ops[j]? = some o)(ht:∀ k,(te tbl k).testBit i=true->rP ops i k) :
  ∀(es:List Edge),(∀ e∈es,e∈o.after)->(AI tbl es).testBit i=true->rP ops i j
 | [],_,h=>by simp[AI] at h
 | e::r,hm,h=>by
  simp only[AI] at h;split at h
  .rename_i hb;simp only[Nat.testBit_or,pb] at h;rcases h with h|h|h
   .exact .edge ho (hm e (by simp)) hb (UP _ _ h).symm
   .exact .step ho (hm e (by simp)) hb (ht _ h)
   .exact JK ho ht r (λe he=>hm e (fL _ he)) h
  .exact JK ho ht r (λe he=>hm e (fL _ he)) h
theorem Qz{ops:Array Oper}:∀(l:List Oper)(k:Nat)(tbl:List Nat),(∀ j,l[j]? = ops[k+j]?)->tbl.length=k->(∀ i j,(te tbl j).testBit i=true->rP ops i j) →
  ∀ i j,(te (Es l tbl) j).testBit i=true->rP ops i j
 | [],k,tbl,_,_,h=>h
 | o::l,k,tbl,hl,ht,h=>by
  have h0:ops[k]? = some o:=by simpa using (hl 0).symm
  refine Qz l (k+1) _ (λj=>by have:=hl (j+1);simpa[gP,uz 1 j] using this) (by simp[ht]) ?_;intro i j hb;rw[HR,bL] at hb;by_cases hj:j<tbl.length
  .rw[kP hj,← bL,← HR] at hb;exact h i j hb
  .by_cases hj2:j=tbl.length
   .subst hj2;simp only[jU (iq _),Nat.sub_self,List.getElem?_cons_zero,fZ] at hb;exact JK (ht▸h0) (λk hk=>h i k hk) _ (λe he=>by simpa using he) hb
   .rw[jU (by omega),yv (by simp;omega)] at hb;simp at hb
abbrev pf:=List (Nat×nY)
def ER(msk:List Nat)(i:Nat)(t:nY)(l:pf):Prop:=∀ p∈l,yU msk p.1 i=true∨tB p.2 t
section
variable (P:Program) (sp:fh) (ops:Array Oper) (msk:List Nat)
def sm(i:Nat)(log:pf)(K:pf->FS->Prop)(F:FS):Prop :=
 match ops[i]? with
 | none=>K log F
 | some o=>∃ st r,(ng P sp ops.toList o F.sl).run F.h=some (st,r)/\st.pre/\ER msk i (jp P sp ops o st r F) log ∧
   ∀ F',lQ st o.dst F F'→K ((i,jp P sp ops o st r F)::log) F'
def wa(K:FS->Prop):Nat->Array Bool->pf->FS->Prop
 | 0,listed,log,F=>Region.ready .any ops listed=[]/\K F
 | n+1,listed,log,F=>(Region.ready .any ops listed=[]->K F) ∧
   ∀ i∈Region.ready .any ops listed,sm P sp ops msk i log (λlog' F'=>wa K n (listed.setIfInBounds i true) log' F') F
def vx(K:FS->Prop):List Oper->Nat->pf->FS->Prop
 | [],_,_,F=>K F
 | _::l,k,log,F=>sm P sp ops msk k log (λlog' F'=>vx K l (k+1) log' F') F
end
section
variable {P:Program} {sp:fh} {ops:Array Oper} {msk:List Nat} {w0:World} {N0:f5} {K:FS->Prop}
theorem Gk:∀(n:Nat)(listed:Array Bool)(log log':pf)(F:FS),(∀ p,p∈log'↔p∈log)->wa P sp ops msk K n listed log F->wa P sp ops msk K n listed log' F
 | 0,_,_,_,_,_,h=>h
 | n+1,listed,log,log',F,hl,h=>by
  refine⟨h.1,λi hi=>?_⟩;have:=h.2 i hi;unfold sm at this ⊢;split
  next ho=>rw[ho] at this;exact Gk n _ _ _ _ hl this
  next o ho=>rw[ho] at this;obtain⟨st,r,h1,h2,h3,h4⟩:=this;refine⟨st,r,h1,h2,λp hp=>h3 p ((hl p).1 hp),λF' hF=>Gk n _ _ _ _ (λp=>?_) (h4 F' hF)⟩;simp[hl p]
theorem LZ{st:iU}(hp:st.pre)(dst:Option Tmp)(F:FS):∃ F',lQ st dst F F':=by
 cases st with
 | go d=>obtain⟨x,hx⟩:=d.ne hp;exact⟨_,x,hx,rfl⟩
 | split g d =>
  cases g with
  | true=>obtain⟨x,hx⟩:=d.ne (hp rfl);exact⟨_,.inl ⟨rfl,x,hx,rfl⟩⟩
  | false=>exact⟨_,.inr ⟨rfl,rfl⟩⟩
theorem LI{ρ ρ':Nat->SV}{x:Operand}(h:∀ t,x = .tmp t->ρ t=ρ' t):aW ρ x=aW ρ' x:=by
 cases x with
 | tmp t=>exact h t rfl
 | _=>rfl
theorem MN{o:Oper}{ρ ρ':Nat->SV}(h:∀ x∈o.op.operands,aW ρ x=aW ρ' x):xG P sp o ρ=xG P sp o ρ':=by
 have hmap:∀ xs:Array Operand,(∀ x∈xs,aW ρ x=aW ρ' x)->xs.toList.map (aW ρ)=xs.toList.map (aW ρ'):=λxs hx =>
  List.map_congr_left λx hm=>hx x (by simpa using hm)
 have hpairs:∀ ps:Array (Nat×Operand),(∀ x∈(ps.toList.map (·.2)).toArray,aW ρ x=aW ρ' x) →
   ps.toList.map (λp=>(p.1,aW ρ p.2))=ps.toList.map (λp=>(p.1,aW ρ' p.2)):=λps hx =>
  List.map_congr_left λp hm=>by
   rw[hx p.2 (by
    simp only[List.mem_toArray,List.mem_map];exact⟨p,hm,rfl⟩)]
 have hopt:∀ x:Option Operand,(∀ y,x=some y->aW ρ y=aW ρ' y)->x.map (aW ρ)=x.map (aW ρ'):=λx hx=>by
  cases x with
  | none=>rfl
  | some y=>simp[hx y rfl]
 obtain⟨dst,op,ty,pos,after,guard⟩:=o
 simp only at h
 unfold xG
 cases op <;> simp only[Op.operands] at h <;> simp only
 case move x=>rw[h x (by simp)]
 case assign x=>rw[h x (by simp)]
 case pick c x y=>rw[h c (by simp),h x (by simp),h y (by simp)]
 case box E x=>rw[h x (by simp)]
 case build t ps=>rw[hpairs ps h]
 case buildSlice t n ps=>rw[hpairs ps h]
 case load t x=>rw[show nD sp ρ x=nD sp ρ' x from by (cases x with|tmp s=>exact h (.tmp s) (by simp)|_=>rfl)]
 case store t x y=>rw[h x (by simp),h y (by simp)]
 case nilCheck x=>rw[h x (by simp)]
 case binOp op t x y yt=>rw[h x (by simp),h y (by simp)]
 case unOp op t x=>rw[h x (by simp)]
 case convert s t x=>rw[h x (by simp)]
 case makeFunc fn fs caps=>cases fn <;> simp only;rw[hmap caps λx hx=>h x (by simp[hx])]
 case makeSlice t l c=>rw[h l (by simp),h c (by simp)]
 case slice t x lo hi mx =>
  rw[h x (by simp),hopt lo λy hy=>h y (by simp[hy]),hopt hi λy hy=>h y (by simp[hy]),hopt mx λy hy=>h y (by simp[hy])]
 case fieldAddr s x f=>rw[h x (by simp)]
 case field s x f=>rw[h x (by simp)]
 case indexAddr t x i=>rw[h x (by simp),h i (by simp),show nD sp ρ x=nD sp ρ' x from (by cases x with|tmp s=>exact h (.tmp s) (by simp)|_=>rfl)]
 case index t x i=>rw[h x (by simp),h i (by simp)]
 case extract x i=>rw[h x (by simp)]
 case makeMap t r=>cases r <;> rfl
 case lookup t x i ok=>cases ok <;> simp only[h x (by simp),h i (by simp)]
 case mapUpdate t x i y=>rw[h x (by simp),h i (by simp),h y (by simp)]
 case call c =>
  obtain⟨callee,args,ts⟩:=c;cases callee with
  | value g=>simp only;rw[h g (by simp[Call.operands]),hmap args λx hx=>h x (by simp[Call.operands,hx])]
  | builtin b=>simp only;rw[hmap args λx hx=>h x (by simp[Call.operands,hx])]
  | invoke rc m=>rfl
theorem Bf{t:Nat}:∀{l:List Operand},t∈uH l↔Operand.tmp t∈l
 | []=>by simp[uH]
 | .tmp s::r=>by simp[uH,Bf (l:=r)]
 | .const v::r=>by simp[uH,Bf (l:=r)]
 | .global g::r=>by simp[uH,Bf (l:=r)]
 | .func f::r=>by simp[uH,Bf (l:=r)]
theorem EJ{o:Oper}{t:Nat}(h:Operand.tmp t∈o.op.operands):t∈o.looksAt ops:=by
 unfold Oper.looksAt
 refine gv _ (List.mem_filterMap.2 ⟨.tmp t,by simpa using h,rfl⟩)
theorem KZ{o:Oper}{t:Nat}(h:t∈vd o):t∈o.looksAt ops:=by
 unfold vd at h
 split at h
 next c x y ho=>simp only[iP] at h;subst h;exact EJ (by rw[ho];simp[Op.operands])
 .simp at h
 .exact EJ (by simpa using Bf.1 h)
theorem az4{o:Oper}{sl sl':List SV}(h:∀ t∈o.looksAt ops,dV sl' t=dV sl t):ng P sp ops.toList o sl'=ng P sp ops.toList o sl:=by
 have hg:wY ops.toList sl' o.guard=wY ops.toList sl o.guard:=by
  unfold wY;cases hgd:o.guard with
  | none=>rfl
  | some p =>
   obtain⟨j,want⟩:=p;simp only;cases hj:nK ops.toList j with
   | none=>rfl
   | some oj =>
    simp only;cases hd:oj.dst with
    | none=>rfl
    | some d =>
     simp only;rw[h d ?_];unfold Oper.looksAt;refine i5 _ ?_;rw[hgd];rw[vD,kI] at hj;simp[hj,hd]
 have hpre:∀(g:Bool)(l:List Nat),(∀ t∈l,t∈o.looksAt ops)->ra g sl' l=ra g sl l:=by
  intro g l
  induction l with
  | nil=>intro _;rfl
  | cons t l ih=>intro hl;simp only[ra];rw[h t (hl t (by simp)),ih λs hs=>hl s (fL _ hs)]
 unfold ng
 rw[hg]
 split
 .rw[MN λx hx=>LI λt ht=>h t (EJ (ht▸hx))]
 next g _=>
  rw[hpre g _ λt ht=>KZ ht];have hany:∀(l:List Nat),(∀ t∈l,t∈o.looksAt ops)->BY sl' l=BY sl l:=by
   intro l
   induction l with
   | nil=>intro _;rfl
   | cons t l ih=>intro hl;simp only[BY];rw[h t (hl t (by simp)),ih λs hs=>hl s (fL _ hs)]
  rw[hany _ λt ht=>KZ ht];split
  .rfl
  congr 1;exact MN λx hx=>LI λt ht=>by simp only[h t (EJ (ht▸hx))]
 .rfl
theorem VD{sl:List SV}{dst:Option Tmp}{v:SV}{t:Nat}(h:∀ d,dst=some d->t≠d):dV (jB sl dst v) t=dV sl t:=by
 cases dst with
 | none=>rfl
 | some d=>simp only[jB];rw[Oa,af (λhh=>h d rfl hh.1)]
theorem Im{st:iU}{dst:Option Tmp}{F F':FS}(h:lQ st dst F F'):∃ v u,F'.sl=jB F.sl dst v/\F'.h=cZ u F.h∧∀ p∈u,p.1∈st.wr:=by
 have mk:∀(d:Dl)(x:d.X),∃ v u,(F.app dst d x).sl=jB F.sl dst v/\(F.app dst d x).h=cZ u F.h∧∀ p∈u,p.1∈d.wr:=λd x =>
  ⟨d.val x,d.upd x,rfl,rfl,λp hp=>by rw[← Dl.wr_upd d x];exact sk hp⟩
 cases st with
 | go d=>obtain⟨x,_,rfl⟩:=h;exact mk d x
 | split g d =>
  rcases h with⟨_,x,_,rfl⟩|⟨_,rfl⟩
  .exact mk d x
  .exact⟨.cv undef,[],rfl,rfl,by simp⟩
theorem C8{n:Nat}:∀(u:List (Nat×Nm))(h1 h2:bN),n∈u.map (·.1)->cZ u h1 n=cZ u h2 n
 | [],_,_,hn=>by simp at hn
 | p::u,h1,h2,hn=>by
  simp only[cZ];by_cases hpn:n=p.1
  .subst hpn;simp
  .rw[bN.set_other _ _ hpn,bN.set_other _ _ hpn];exact C8 u h1 h2 (by simpa[hpn] using hn)
theorem PX{i j:Oper}{sti:iU}{F F':FS}(hd:∀ n∈vv i.dst,n ∉ j.looksAt ops)(hi:lQ sti i.dst F F'):ng P sp ops.toList j F'.sl=ng P sp ops.toList j F.sl:=by
 obtain⟨v,u,hsl,hh,hw⟩:=Im hi
 refine az4 λt ht=>?_
 rw[hsl]
 exact VD λd hdd e=>hd d (by simp[vv,hdd]) (e▸ht)
theorem Qg{i j:Oper}{sti stj:iU}{rj:List Nat}{F F':FS}(hb:∀ n∈sti.wr,n ∉ stj.wr)(hd:∀ n∈vv i.dst,n ∉ j.looksAt ops)(hi:lQ sti i.dst F F') :
  jp P sp ops j stj rj F'=jp P sp ops j stj rj F:=by
 obtain⟨v,u,hsl,hh,hw⟩:=Im hi
 have e:tc stj.wr F'.h=tc stj.wr F.h:=aC4 λn hn=>by
  rw[hh];refine nN λhm=>?_;obtain⟨p,hp,rfl⟩:=List.mem_map.1 hm;exact hb _ (hw p hp) hn
 unfold jp
 rw[PX hd hi,e]
theorem Jq{i j:Oper}{sti stj:iU}{ri rj:List Nat}{F F':FS}(ap:tB (jp P sp ops i sti ri F) (jp P sp ops j stj rj F))(hi:lQ sti i.dst F F') :
  ((ng P sp ops.toList j F'.sl).run F'.h=some (stj,rj)↔(ng P sp ops.toList j F.sl).run F.h=some (stj,rj)):=by
 rw[PX ap.d hi]
 rcases ap.a with ha|⟨pre,v,u,hst,hsub,h1,h2⟩
 .obtain⟨v,u,hsl,hh,hw⟩:=Im hi;have hq:∀ n∈rj,F'.h n=F.h n:=λn hn=>by
   rw[hh];refine nN λhm=>?_;obtain⟨p,hp,rfl⟩:=List.mem_map.1 hm;exact ha _ (hw p hp) hn
  exact⟨λe=>Q.run_local _ e λn hn=>(hq n hn).symm,λe=>Q.run_local _ e hq⟩
 .simp only[jp] at hst hsub h1 h2;subst hst;obtain⟨x,_,rfl⟩:=hi;refine⟨λ_=>Q.run_local _ h1 λn hn=>(ak4 (hsub n hn)).symm,λ_=>Q.run_local _ h2 λn hn=>?_⟩;exact C8 u _ _ (hsub n hn)
theorem az2{u v:List (Nat×Nm)}(h:∀ p∈u,∀ q∈v,p.1≠q.1)(hp:bN):cZ u (cZ v hp)=cZ v (cZ u hp):=by
 funext n
 by_cases hu:n∈u.map (·.1)
 .have hv:n ∉ v.map (·.1):=λhv=>by
   obtain⟨p,hp1,rfl⟩:=List.mem_map.1 hu;obtain⟨q,hq1,hq2⟩:=List.mem_map.1 hv;exact h p hp1 q hq1 hq2.symm
  rw[nN hv];exact C8 u _ _ hu
 .rw[nN hu];by_cases hv:n∈v.map (·.1)
  .exact C8 v _ _ hv
  .rw[nN hv,nN hv,nN hu]
theorem TO{sl:List SV}{x y:Option Tmp}{v u:SV}(h:∀ d,x=some d->y≠some d):jB (jB sl x v) y u=jB (jB sl y u) x v:=by
 cases x with
 | none=>rfl
 | some d =>
  cases y with
  | none=>rfl
  | some e =>
   have hne:d≠e:=λhe=>h d rfl (he▸rfl);simp only[jB];exact List.set_comm _ _ hne
theorem V1{i j:Oper}{sti stj:iU}{ri rj:List Nat}{F Fj Fji:FS}(ap:tB (jp P sp ops i sti ri F) (jp P sp ops j stj rj F))(hj:lQ stj j.dst F Fj)(hi:lQ sti i.dst Fj Fji) :
  ∃ Fi,lQ sti i.dst F Fi/\lQ stj j.dst Fi Fji:=by
 have hdst:∀ d,i.dst=some d->j.dst≠some d:=λd hd hd'=>ap.e d (by simp[jp,vv,hd]) (by simp[jp,vv,hd'])
 have hdst':∀ d,j.dst=some d->i.dst≠some d:=λd hd hd'=>hdst d hd' hd
 have rep:∀{st:iU}{dst:Option Tmp}{F F':FS},lQ st dst F F'→∃ v u,(∀ p∈u,p.1∈st.wr)/\F'=⟨jB F.sl dst v,cZ u F.h⟩∧∀ G:FS,lQ st dst G ⟨jB G.sl dst v,cZ u G.h⟩:=by
  intro st dst F F' h;cases st with
  | go d=>obtain⟨x,hx,rfl⟩:=h;exact⟨d.val x,d.upd x,λp hp=>by rw[iU.wr,← Dl.wr_upd d x];exact sk hp,rfl,λG=>⟨x,hx,rfl⟩⟩
  | split g d =>
   rcases h with⟨hg,x,hx,rfl⟩|⟨hg,rfl⟩
   .exact⟨d.val x,d.upd x,λp hp=>by rw[iU.wr,← Dl.wr_upd d x];exact sk hp,rfl,λG=>.inl ⟨hg,x,hx,rfl⟩⟩
   .exact⟨.cv undef,[],by simp,rfl,λG=>.inr ⟨hg,rfl⟩⟩
 obtain⟨vj,uj,hwj,rfl,gj⟩:=rep hj
 obtain⟨vi,ui,hwi,rfl,gi⟩:=rep hi
 refine⟨_,gi F,?_⟩
 have e1:jB (jB F.sl j.dst vj) i.dst vi=jB (jB F.sl i.dst vi) j.dst vj:=TO hdst'
 have e2:cZ ui (cZ uj F.h)=cZ uj (cZ ui F.h):=az2 (λp hp q hq e=>ap.b p.1 (hwi p hp) (e▸hwj q hq)) F.h
 simp only[e1,e2]
 exact gj ⟨jB F.sl i.dst vi,cZ ui F.h⟩
def EU(ops:Array Oper)(listed:Array Bool):Prop:=∀ j o,ops[j]? = some o->listed.getD j false=true→∀ e∈o.after,Region.binds .any e=true->listed.getD e.on false=true
theorem am0{listed:Array Bool}(hd:EU ops listed){i j:Nat}(hj:j∈Region.ready .any ops listed)(h:rP ops i j):listed.getD i false=true:=by
 obtain⟨hun,oj,hoj,hall⟩:=mem_ready.1 hj
 have key:∀{i k:Nat},rP ops i k->listed.getD k false=true->listed.getD i false=true:=by
  intro i k h
  induction h with
  | edge ho he hb hi=>intro hk;rw[← hi];exact hd _ _ ho hk _ he hb
  | step ho he hb _ ih=>intro hk;exact ih (hd _ _ ho hk _ he hb)
 cases h with
 | edge ho he hb hi =>
  rw[hoj] at ho;cases ho;rw[← hi];exact hall _ he hb
 | step ho he hb h =>
  rw[hoj] at ho;cases ho;exact key h (hall _ he hb)
theorem af8{listed:Array Bool}(hd:EU ops listed){i:Nat}(hi:i∈Region.ready .any ops listed):EU ops (listed.setIfInBounds i true):=by
 obtain⟨hun,oi,hoi,hall⟩:=mem_ready.1 hi
 have mono:∀ k,listed.getD k false=true->(listed.setIfInBounds i true).getD k false=true:=by
  intro k hk;rw[qH] at hk ⊢;by_cases h:i=k
  .subst h;by_cases h2:i<listed.size
   .rw[Array.getElem?_setIfInBounds_self_of_lt h2];rfl
   .rw[Array.getElem?_eq_none (by omega)] at hk;simp at hk
  .rw[Af h];exact hk
 intro j o ho hj e he hb
 by_cases hij:i=j
 .subst hij;rw[hoi] at ho;cases ho;exact mono _ (hall e he hb)
 .refine mono _ (hd j o ho ?_ e he hb);rw[qH] at hj ⊢
  rwa [Af hij] at hj
theorem aa4(hmsk:∀ i j,yU msk i j=true->rP ops i j){i:Nat}{oi:Oper}{st:iU}{r:List Nat}(hi:ops[i]? = some oi)(hpre:st.pre) :
  ∀(fuel:Nat)(listed:Array Bool)(log:pf)(F:FS),EU ops listed->i∈Region.ready .any ops listed->(ng P sp ops.toList oi F.sl).run F.h=some (st,r) →
   ER msk i (jp P sp ops oi st r F) log →
   (∀ F',lQ st oi.dst F F'→wa P sp ops msk K fuel (listed.setIfInBounds i true) ((i,jp P sp ops oi st r F)::log) F')->wa P sp ops msk K (fuel+1) listed log F:=by
 intro fuel
 induction fuel with
 | zero =>
  intro listed log F hd hr hrun hlog H;refine⟨λh=>(by rw[h] at hr;cases hr),λj hj=>?_⟩;by_cases hji:j=i
  .subst hji;unfold sm;rw[hi];exact⟨st,r,hrun,hpre,hlog,H⟩
  .obtain⟨F',hF'⟩:=LZ hpre oi.dst F;have:=ready_mono hj hji;rw[(H F' hF').1] at this;cases this
 | succ fuel ih =>
  intro listed log F hd hr hrun hlog H;refine⟨λh=>(by rw[h] at hr;cases hr),λj hj=>?_⟩;by_cases hji:j=i
  .subst hji;unfold sm;rw[hi];exact⟨st,r,hrun,hpre,hlog,H⟩
  .obtain⟨hjun,oj,hoj,hall⟩:=mem_ready.1 hj;have Hj:∀ F',lQ st oi.dst F F'→∃ stj rj,(ng P sp ops.toList oj F'.sl).run F'.h=some (stj,rj)/\stj.pre/\ER msk j (jp P sp ops oj stj rj F') ((i,jp P sp ops oi st r F)::log) ∧
     ∀ F'',lQ stj oj.dst F' F''→wa P sp ops msk K fuel ((listed.setIfInBounds i true).setIfInBounds j true) ((j,jp P sp ops oj stj rj F')::(i,jp P sp ops oi st r F)::log) F'':=by
    intro F' hF';have:=(H F' hF').2 j (ready_mono hj hji);unfold sm at this;rw[hoj] at this;exact this
   obtain⟨F1,hF1⟩:=LZ hpre oi.dst F;obtain⟨stj,rj,hrj,hpj,hlj,_⟩:=Hj F1 hF1;have hnot:yU msk i j=false:=by
    cases hb:yU msk i j with
    | false=>rfl
    | true =>
     have h1:=am0 hd hj (hmsk i j hb);have h0:=(mem_ready.1 hr).1;rw[qH] at h0 h1;cases hx:listed[i]? with
     | none=>rw[hx] at h1;simp at h1
     | some b=>rw[hx] at h0 h1;simp at h0 h1;rw[h0] at h1;cases h1
   have ap1:tB (jp P sp ops oi st r F) (jp P sp ops oj stj rj F1):=by
    rcases hlj (i,jp P sp ops oi st r F) (by simp) with h|h
    .simp only at h;rw[hnot] at h;cases h
    .exact h
   have tj:∀ F',lQ st oi.dst F F'→jp P sp ops oj stj rj F'=jp P sp ops oj stj rj F:=λF' hF'=>Qg ap1.b ap1.d hF';rw[tj F1 hF1] at hlj;have ap:tB (jp P sp ops oi st r F) (jp P sp ops oj stj rj F):=by rw[← tj F1 hF1];exact ap1
   have hrun_j:(ng P sp ops.toList oj F.sl).run F.h=some (stj,rj):=(Jq ap hF1).1 hrj;unfold sm;rw[hoj];refine⟨stj,rj,hrun_j,hpj,λp hp=>hlj p (fL _ hp),λFj hFj=>?_⟩;have ti:jp P sp ops oi st r Fj=jp P sp ops oi st r F:=Qg (λn hn hm=>ap.b n hm hn) ap.f hFj;refine ih (listed.setIfInBounds j true) _ Fj (af8 hd hj) (ready_mono hr (Ne.symm hji)) ((Jq ap.symm hFj).2 hrun) (λp hp=>?_) λFji hFji=>?_
   .rw[ti];rcases dL.1 hp with rfl|hp
    .exact .inr ap.symm
    .exact hlog p hp
   .rw[ti];obtain⟨Fi,hFi,hFij⟩:=V1 ap hFj hFji;obtain⟨stj',rj',hrj',hpj',hlj',hK⟩:=Hj Fi hFi;have e1:some (stj',rj')=some (stj,rj):=by rw[← hrj',← (Jq ap hFi).2 hrun_j]
    simp only[bp,br] at e1;obtain⟨rfl,rfl⟩:=e1;have:=hK Fji hFij;rw[tj Fi hFi] at this;rw[Array.setIfInBounds_comm _ _ hji];refine Gk _ _ _ _ _ (λp=>?_) this;simp only[dL];exact⟨λh=>by rcases h with h|h|h <;> simp[h],λh=>by rcases h with h|h|h <;> simp[h]⟩
end
end Go.SX
