/- SX, part 10: append, slicing, an array's element: soundness. -/
import Derived.Test.YtoipogagjfkjlaaGreatDoorSx9
import Derived.Lib.AppendZeros
import Derived.Laws.BytesArg
import Derived.Laws.StructEq
import Derived.MapKept
import Derived.Carry
import Derived.TacticsIn
import Derived.OrdersIn
import Derived.Sort.LoopGhostIn
import Derived.RangeFuncRecord
import Derived.Orders
set_option linter.unusedVariables false
open List (replicate)
namespace Go.SX
section
variable {P:Program} {w0:World} {N0:fK} {A:Nat->Prop} {env:bj} {h:bX} {w:World} {o:Oper} {a:Act} {ρ:Nat->SV} {d:Dl} {r:List Nat}
theorem Io{t:CT}{cv:Nat->Option Value}:∀(ys:List t.D)(off:Nat),(∀ i (c:i<ys.length),Rd A w t cv (off+i*t.size) ys[i]) →
  ∃ news:List Value,news.length=ys.length*t.size/\(∀ j,j<news.length->cv (off+j)=news[j]?)∧∀ u∈news,u.oneCell'=true
 | [],off,_=>⟨[],aw,aw,aw⟩
 | y::ys,off,d=>by
  obtain⟨us,hl,hc,hd⟩:=xC (env:=λ_=>.un) t y cv off (by have:=d 0 aw;simpa only[Nat.zero_mul,kP,List.getElem_cons_zero] using this);obtain⟨news,b,hc2,h1⟩:=Io ys (off+t.size) (λi c=>by
   have:=d (i+1) (by simpa using c);rw[show off+t.size+i*t.size=off+(i+1)*t.size from by rw[gY,nA];omega];exact this)
  refine⟨us++news,by simp[hl,b,gY];omega,λj hj=>?_,?_⟩
  .grind
  .intro u a;rcases fC.1 a with a|a
   .exact Fy hd (GP _ _) u a
   .exact h1 u a
theorem Ri{t:CT}{v:Value}{ys:List t.D}(hs:tP A w t v ys):∃ p c,v = .slice p ys.length c/\ys.length<=maxLen ∧
  (ys.length=0∨∃ b off,p=some ⟨b,off,none⟩∧∀ i (hi:i<ys.length),Rd A w t (λo=>w.cell? ⟨b,o,none⟩) (off+i*t.size) ys[i]):=by
 obtain⟨hl,⟨⟨p,rfl⟩,rfl⟩|⟨b,off,cap,rfl,h1,h2,h3,h4⟩⟩:=hs
 .simp_all
 .grind
theorem KY(m:Mod w0 N0 A env h w){t:CT}{x:SV}{v:Value}{ys:List t.D}(e:(xQ t x).run h=some (ys,r))(y:az A env w x v) :
  ∃ p c,v = .slice p ys.length c/\ys.length<=maxLen ∧
  (ys.length=0∨∃ b off,p=some ⟨b,off,none⟩∧∀ i (z:i<ys.length),Rd A w t (λo=>w.cell? ⟨b,o,none⟩) (off+i*t.size) ys[i]):=by
 unfold xQ at e
 split at e
 next u zs=>
  split at e
  next f hc=>obtain⟨rfl,_⟩:=e;obtain⟨j,k⟩:=lq hc;subst j;subst k;exact Ri y
  .cases e
 next u zs=>
  split at e
  next f hc=>obtain⟨rfl,_⟩:=e;obtain⟨j,k⟩:=lq hc;subst j;subst k;exact Ri y.1
  .cases e
 .simp only[Q.run,cE,cC] at e;simp only[az] at y;simp_all
 next n sz=>
  simp only[Q.run] at e;split at e
  .rename_i p q hk;simp at e;obtain⟨rfl,rfl⟩:=e;have l:∀{g:TypeId}{u:CT}{zs:List u.D},(h n = .live (.row g u zs)∨h n = .live (.frz g u zs))->iK u t zs=some p →
     ∃ C c,v = .slice C p.length c/\p.length<=maxLen ∧
     (p.length=0∨∃ b off,C=some ⟨b,off,none⟩∧∀ i (z:i<p.length),Rd A w t (λo=>w.cell? ⟨b,o,none⟩) (off+i*t.size) p[i]):=by
    intro g u zs a hc;obtain⟨j,k⟩:=lq hc;subst j;subst k;rcases y with⟨hnil,pp,ev⟩|⟨b,len,E2,c,B,_,ev⟩
    .have hx:p.length=0:=by
      have:=m.nm n;rcases a with a|a <;> rw[a] at this <;> rcases this with⟨k',l',he',_⟩|⟨_,E3,t3,B⟩
      .simp_all
      .grind
      .simp_all
      .grind
     simp_all
    .have d:qG A w b len g u p:=by
      rcases a with a|a
      .exact (m.live_blk a B).1
      .exact (m.live_blk a B).1.2
     have s:p.length=len.2/\len.2<=maxLen:=by
      obtain⟨vs,cap,_,_,h2,h3,h4,_⟩:=d;omega
     refine⟨_,_,by rw[s.1];exact ev,ab,.inr ⟨b,len.1,rfl,λi z=>?_⟩⟩;have:=Dv d (i:=i) ab;rw[Nv z] at this;exact this
   split at hk
   .rename_i g u zs a;split at hk
    next f h1 hc=>obtain⟨rfl,_⟩:=hk;exact l (.inl a) hc
    .cases hk
   .rename_i g u zs a;split at hk
    next f h1 hc=>obtain⟨rfl,_⟩:=hk;exact l (.inr a) hc
    .cases hk
   .cases hk
  .cases e
 .cases e
theorem r6(m:Mod w0 N0 A env h w){nm:Nat}(hun:h nm = .un)(dn:List Nat)(hdn:∀ n∈dn,∃ b,h n = .live b/\b.mut=true){E:TypeId}{t:CT}{zs:List t.D}{v:Value}{w':World}
  {pre:List Prop} {W:Nat->Prop} {ev:Ev} (c:da w w' W) (hW:∀ k,W k→∃ n l,n∈dn/\env n = .blk k l) (hne:ev ≠ .un)
  (hev:∀ k len,ev = .blk k len->w.heap.size<=k∨∃ n l,n∈dn/\env n = .blk k l)
  (hb:dH A env w A (env.set nm ev) w'→(ev = .nil/\zs=[]∧∃ p,v = .slice p 0 0)∨∃ k len c,ev = .blk k len/\qG A w' k len E t zs/\w'.shape? k=some (E,c)/\v = .slice (some ⟨k,len.1,none⟩) len.2 ((c-len.1)/t.size)) :
  fb w0 N0 A env h w (.det pre (.own nm t.size) ((nm,.live (.row E t zs))::dn.map λn=>(n,.dead))) v w':=by
 have hu:env nm = .un:=by have:=m.nm nm;rw[hun] at this;exact this
 have hlv:∀ k,W k→∃ mm b l,mm∈dn/\h mm = .live b/\b.mut=true/\env mm = .blk k l:=by
  intro k hk;obtain⟨n,l,hn,he⟩:=hW k hk;obtain⟨b,hb1,hb2⟩:=hdn n hn;exact⟨n,b,l,hn,hb1,hb2,he⟩
 have x:dH A env w A (env.set nm ev) w':=m.xt c (λk hk=>let ⟨n,b,l,_,h1⟩:=hlv k hk;⟨n,b,l,h1⟩) λn hn=>bj.set_other _ _ λe=>hn (e▸hu)
 have hset:∀ n,n≠nm->n ∉ dn->dA ((nm,.live (.row E t zs))::dn.map λn=>(n,.dead)) h n=h n:=by
  intro n h1 h2;refine qH ?_;simp only[fV,List.map_map,eZ,List.mem_map,Function.comp_apply,not_or];exact⟨h1,λ⟨q,hq,e⟩=>h2 (e▸hq)⟩
 have hsetn:dA ((nm,.live (.row E t zs))::dn.map λn=>(n,.dead)) h nm = .live (.row E t zs):=by simp[dA]
 have hsetd:∀ n,n≠nm->n∈dn->dA ((nm,.live (.row E t zs))::dn.map λn=>(n,.dead)) h n = .dead:=by
  intro n h1 h2;simp only[dA];rw[bX.set_other _ _ h1];clear hdn hW hev hlv hset hsetn
  induction dn with
  | nil=>simp at h2
  | cons q dn ih =>
   simp only[fV,dA];by_cases hq:n=q
   .subst hq;simp
   .rw[bX.set_other _ _ hq];exact ih (by simpa[hq] using h2)
 have u:lG (λn=>n=nm∨n∈dn) W A env h w A (env.set nm ev) (dA ((nm,.live (.row E t zs))::dn.map λn=>(n,.dead)) h) w':=by
  refine⟨c,λk hk=>?_,λ_ h=>h,λ_ h=>.inl h,λn hn=>bj.set_other _ _ (λe=>hn (.inl e)),λn hn=>?_,λn hn=>hset n (λe=>hn (.inl e)) (λe=>hn (.inr e)),?_,?_,?_⟩
  .obtain⟨mm,b,l,h1,h2,h3,h4⟩:=hlv k hk;exact⟨mm,b,l,.inr h1,h2,h3,h4⟩
  .exact bj.set_other _ _ (λe=>hn (e▸hu))
  .rintro n hn;by_cases hnm:n=nm
   .subst hnm;rw[hsetn];rcases hb x with⟨h1,h2,_⟩|⟨k,len,c',h1,h2,_⟩
    .exact .inr ⟨by rw[bj.set_same];exact h1,E,t,.inl (by rw[h2])⟩
    .refine .inl ⟨k,len,by rw[bj.set_same];exact h1,h2,λ_ hA=>?_⟩;rcases hev k len h1 with h3|⟨n',l,hn',he⟩
     .have:=m.Alt k hA;omega
     .obtain⟨b,hb1,hb2⟩:=hdn n' hn';exact (m.live_blk hb1 he).2 hb2 hA
   .rw[hsetd n hnm (hn.resolve_left hnm)];trivial
  .intro n b k l hn hl hm he;by_cases hnm:n=nm
   .subst hnm;rw[bj.set_same] at he;rcases hev k l he with h3|⟨n',l',hn',he'⟩
    .exact .inl h3
    .obtain⟨b',hb1,hb2⟩:=hdn n' hn';exact .inr ⟨n',b',l',.inr hn',hb1,hb2,he'⟩
   .rw[hsetd n hnm (hn.resolve_left hnm)] at hl;cases hl
  .intro n n' b c k l l' hn hn' hl hl' _ _ _ _;by_cases hnm:n=nm
   .by_cases hnm':n'=nm
    .rw[hnm,hnm']
    .rw[hsetd n' hnm' (hn'.resolve_left hnm')] at hl';cases hl'
   .rw[hsetd n hnm (hn.resolve_left hnm)] at hl;cases hl
 refine⟨(),A,env.set nm ev,trivial,m.upd u,m.ext u,?_⟩
 simp only[Dl.val,az]
 rcases hb x with⟨h1,h2,h3⟩|⟨k,len,c',h1,h2,h3,h4⟩
 .exact .inl ⟨by rw[bj.set_same];exact h1,h3⟩
 .exact .inr ⟨k,len,E,c',by rw[bj.set_same];exact h1,h3,h4⟩
theorem QB{t e ty:TypeId}(d:P.underlying t=some (.slice e)){f:Nat}(a:f8 P e=some f)(p q:Option Addr)(n cap c:Nat)(g:n<=cap) :
  (Builtin.append_ #[t,t] ty #[.slice p n cap,.slice q 0 c]).run P w = .ok (.slice p n cap) w:=by
 have h:(Builtin.firstCells f 0 (.slice q 0 c)).run P w = .ok #[] w:=by
  cases q <;> simp[Builtin.firstCells,loadCells,loadCellsFrom]
 cases p with
 | none=>simp[Builtin.append_,run_underlying d,lU a,Builtin.lenOf,g,h]
 | some b=>simp[Builtin.append_,run_underlying d,lU a,Builtin.lenOf,g,h,storeCells]
theorem xi{t:CT}{cv c:Nat->Option Value}{o f:Nat}{d:t.D}(h:Rd A w t cv o d)(e:∀ j,j<t.size->c (f+j)=cv (o+j)):Rd A w t c f d:=by
 have key:∀(t:CT)(cv c:Nat->Option Value)(o f:Nat)(d:t.D),Rd A w t cv o d->(∀ j,j<t.size->c (f+j)=cv (o+j))->Rd A w t c f d:=by
  intro t
  induction t with
  | pair a b g i =>
   intro cv c o f d h e;refine⟨g _ _ _ _ _ h.1 (λj hj=>e j (by simp only[CT.size];omega)),i _ _ _ _ _ h.2 (λj hj=>?_)⟩;have:=e (a.size+j) (by simp only[CT.size];omega);grind
  | int k=>intro cv c o f d h e;have:=e 0 (by simp[CT.size]);simp at this;simp only[Rd] at h ⊢;rw[this];exact h
  | bool=>intro cv c o f d h e;have:=e 0 (by simp[CT.size]);simp at this;simp only[Rd] at h ⊢;rw[this];exact h
  | str=>intro cv c o f d h e;have:=e 0 (by simp[CT.size]);simp at this;simp only[Rd] at h ⊢;rw[this];exact h
  | sl t ih=>intro cv c o f d h e;have:=e 0 (by simp[CT.size]);simp at this;simp only[Rd] at h ⊢;rw[this];exact h
 grind
theorem M1{t:CT}{xs ys:List t.D}{olds news rest:List Value}(ho:olds.length=xs.length*t.size)(hn:news.length=ys.length*t.size)
  (hx:∀ i (b:i<xs.length),Rd A w t (λj=>olds[j]?) (i*t.size) xs[i]) (hy:∀ i (b:i<ys.length),Rd A w t (λj=>news[j]?) (i*t.size) ys[i]) :
  ∀ i (b:i<(xs++ys).length),Rd A w t (λj=>(olds++news++rest).toArray[j]?) (i*t.size) (xs++ys)[i]:=by
 intro i b
 simp only[List.getElem?_toArray]
 by_cases a:i<xs.length
 .rw[List.getElem_append_left a];refine xi (hx i a) λj hj=>?_;have:(i+1)*t.size<=xs.length*t.size:=mQ _ ab;grind
 .rw[List.getElem_append_right ab];have c:i-xs.length<ys.length:=by simp at b;omega
  refine xi (hy _ c) λj hj=>?_;have e1:i*t.size=xs.length*t.size+(i-xs.length)*t.size:=by rw[← gY];congr 1;omega
  have:(i-xs.length+1)*t.size<=ys.length*t.size:=mQ _ ab;rw[gY,nA] at this;rw[je,nD ab,nV ab];congr 1;omega
end
end Go.SX
namespace Go.SX
theorem ay7{P:Program}{q:Prop}(w:World)(t ty e:TypeId)(i:TypeInfo)(ht:P.underlying t=some (.slice e))(hi:P.info? e=some i)
  (g off qK ym:Nat) (cur:Array Value) (hg:Hc q w g cur e)
  (a:Addr) (m c:Nat) (news:List Value) (hl:news.length=m*i.size) (hnews:∀ j u,news[j]? = some u->w.cell? (a.add j)=some u) (h1:∀ u∈news,u.oneCell'=true)
  (hroom:qK+m<=ym) (hfit:off+qK*i.size+news.length<=cur.size) :
  (Builtin.append_ #[t,t] ty #[.slice (some ⟨g,off,none⟩) qK ym,.slice (some a) m c]).run P w =
   .ok (.slice (some ⟨g,off,none⟩) (qK+m) ym) (w.setRow g (cur.toList.take (off+qK*i.size)++news++cur.toList.drop (off+qK*i.size+news.length)).toArray):=by
 have hf:=run_firstCells_some (P:=P) w i.size m a m c news hl hnews
 have hst:=PD (P:=P) g (off+qK*i.size) e news 0 cur w hg (by simpa using hfit) h1
 simp only[kP] at hst
 simp[Builtin.append_,run_underlying ht,sizeOf,typeInfo,hi,Builtin.lenOf,hroom,hf,Addr.add_lit,hst]
section
variable {P:Program} {w0:World} {N0:fK} {A:Nat->Prop} {env:bj} {h:bX} {w:World} {o:Oper} {a:Act} {ρ:Nat->SV} {d:Dl} {r:List Nat}
theorem a51(l:List Value)(z:Array Value):l.toArray++z=(l++z.toList).toArray:=by apply Array.ext';simp
theorem av4(l m:List Value)(z:Array Value):l.toArray++m.toArray++z=(l++m++z.toList).toArray:=by apply Array.ext';simp
theorem Ls(m:Mod w0 N0 A env h w){t e ty:TypeId}{sz nm:Nat}{i:TypeInfo}{z:Value}{u:CT}{ys:List u.D}{p q:Option Addr}{c:Nat}{pre:List Prop}
  (ht:P.underlying t=some (.slice e)) (hsz:f8 P e=some sz) (hi:P.info? e=some i) (hz:i.zero=some z) (hzs:z.cells.size=sz) (hb1:1<=i.bytes) (hu:sz=u.size) (hun:h nm = .un)
  (dn:List Nat) (hdn:∀ n∈dn,∃ b,h n = .live b/\b.mut=true)
  (hl:ys.length<=maxLen) (hby:ys.length*i.bytes<=140737488355328)
  (hsrc:ys.length=0∨∃ b off,q=some ⟨b,off,none⟩∧∀ i (hi:i<ys.length),Rd A w u (λo=>w.cell? ⟨b,o,none⟩) (off+i*u.size) ys[i]) :
  ∃ v w',(Builtin.append_ #[t,t] ty #[.slice p 0 0,.slice q ys.length c]).run P w = .ok v w' ∧
   fb w0 N0 A env h w (.det pre (.own nm sz) ((nm,.live (.row e u ys))::dn.map λn=>(n,.dead))) v w':=by
 subst hu
 by_cases h0:ys.length=0
 .refine⟨.slice p 0 0,w,by rw[h0];exact QB ht hsz p q 0 0 c (eT _),?_⟩;have:ys=[]:=BC h0;subst this;exact r6 m hun dn hdn (W:=λ_=>False) (ev := .nil) (da.refl w _) (λ_ h=>h.elim) (by simp) (λk l e=>by cases e) (λ_=>.inl ⟨rfl,rfl,p,rfl⟩)
 .obtain⟨b,off,rfl,hrd⟩:=hsrc.resolve_left h0;obtain⟨news,hnl,hnc,hn1⟩:=Io ys off hrd;have hisz:i.size=u.size:=by unfold f8 at hsz;rw[hi] at hsz;simpa using hsz
  have hnews:∀ j v,news[j]? = some v->w.cell? ((⟨b,off,none⟩:Addr).add j)=some v:=by
   intro j v hj;rw[Addr.add_lit,hnc j (List.getElem?_eq_some_iff.1 hj).1];exact hj
  have hrdn:∀ i (hi:i<ys.length),Rd A w u (λj=>news[j]?) (i*u.size) ys[i]:=λi hi =>
   xi (hrd i hi) λj hj=>by
    have:(i+1)*u.size<=ys.length*u.size:=mQ _ (by omega);rw[gY,nA] at this;rw[← hnc _ (by omega),iz]
  have h63:((ys.length:Nat):Int)<=9223372036854775807:=by simp only[maxLen] at hl;omega
  have fin:∀ v w' cap,ys.length<=cap->cap<=maxLen->v = .slice (some ⟨w.heap.size,0,none⟩) ys.length cap->w'=w.drew.alloc (.cells (news.toArray++Builtin.zeroCells z.cells (cap-ys.length)) e) →
    fb w0 N0 A env h w (.det pre (.own nm u.size) ((nm,.live (.row e u ys))::dn.map λn=>(n,.dead))) v w':=by
   rintro v w' cap hc1 hc2 rfl rfl;have cg:da w (w.drew.alloc (.cells (news.toArray++Builtin.zeroCells z.cells (cap-ys.length)) e)) λ_=>False:=(da.drew w _).trans (da.alloc w.drew _ _);have hsize:(news.toArray++Builtin.zeroCells z.cells (cap-ys.length)).size=cap*u.size:=by
    simp only[Array.size_append,rT,hnl,size_zeroCells,hzs,← gY];congr 1;omega
   refine r6 m hun dn hdn (W:=λ_=>False) (ev := .blk w.heap.size (0,ys.length)) cg (λ_ h=>h.elim) (by simp) (λk l e=>by cases e;exact .inl (eT _)) (λx=>.inr ⟨w.heap.size,(0,ys.length),cap*u.size,rfl,?_,?_,?_⟩)
   .refine⟨_,cap,.of (heap_alloc_new w.drew _),by rw[hsize,gI],rfl,hc1,hc2,λi hi=>?_⟩;rw[gI];have:=M1 (A:=A) (w:=w) (xs:=([]:List u.D)) (ys:=ys) (olds:=[]) (news:=news) (rest:=(Builtin.zeroCells z.cells (cap-ys.length)).toList) (by simp) hnl (by simp) hrdn i (by simpa using hi);refine iL (λ_ h=>h) x.keep u _ _ _ _ (λj _=>?_) this;rw[a51];rfl
   .unfold World.shape?;have hh:=heap_alloc_new w.drew (.cells (news.toArray++Builtin.zeroCells z.cells (cap-ys.length)) e);simp only[World.size_drew] at hh;rw[hh];simp only[hsize]
   .show _=Value.slice _ _ ((cap*u.size-0)/u.size);rw[Nat.sub_zero,uw _ u.size_pos]
  have hge:=grownCap_ge w ys.length 0 e;have hcm:=grownCap_le_maxLen w ys.length 0 e hl;cases p with
  | none =>
   exact⟨_,_,run_append_nil (P:=P) w t ty e i z ht hi hz ⟨b,off,none⟩ ys.length c news (by rw[hnl,hisz]) hnews (by omega) h63 (by omega),fin _ _ _ hge hcm rfl rfl⟩
  | some pa =>
   have hr:=run_append_grow (P:=P) w t ty e i z ht hi hz pa 0 0 [] (by simp) (by simp) ⟨b,off,none⟩ ys.length c news (by rw[hnl,hisz]) hnews (by omega) (by simpa using h63) (growslice_fits (by omega) (by simpa using hby));simp only[gI] at hr;exact⟨_,_,hr,fin _ _ _ hge hcm rfl (by simp)⟩
def Gg(P:Program)(t t':TypeId):Bool:=Nat.beq t t'||match P.underlying t,P.underlying t' with
 | some (.slice e),some (.slice e')=>Nat.beq e e'
 | _,_=>false
theorem a56{t t' ty:TypeId}{s x:Value}(h:Gg P t t'=true):(Builtin.append_ #[t,t'] ty #[s,x]).run P w=(Builtin.append_ #[t,t] ty #[s,x]).run P w:=by
 unfold Gg at h
 rcases Bool.or_eq_true_iff.1 h with h|h
 .rw[bK h]
 .split at h
  next e1 e2=>cases s <;> simp[Builtin.append_,Sem.run_bind,run_underlying e1,run_underlying e2]
  .cases h
theorem UP(m:Mod w0 N0 A env h w)(f:FD A env w ρ a){t t':TypeId}{nm:Nat}{s x:Operand}(hts:Gg P t t'=true)(ho:o.op = .call {callee := .builtin .append,args := #[s,x],argTypes := #[t,t']})
  (e:(Ek P t nm (bg ρ s) (bg ρ x)).run h=some (d,r)) (hp:bS d.pre):bz P o a w0 N0 A env h w d:=by
 have ds:=dh f s
 have dx:=dh f x
 have exe:∀{v:Value}{w':World},(Builtin.append_ #[t,t] o.type #[a.eval s,a.eval x]).run P w = .ok v w'→(execOp a.eval o).run P w = .ok (.value v) w':=by
  intro v w' hr;unfold execOp;rw[ho];simp only[resolve,invoke,builtin,Sem.run_bind,Sem.run_pure,Result.andThen_ok,List.map_toArray,fV,List.map_nil,a56 hts,hr]
 unfold Ek at e
 split at e
 next E sz he=>
  obtain⟨hu,hsz⟩:=Ak he;split at e
  .rename_i i hi;split at e
   .rename_i z hb1 hz;have hb1:1<=i.bytes:=lZ hb1;split at e
    .rename_i hzs;have hzs:z.cells.size=sz:=bK hzs;have hisz:i.size=sz:=by unfold f8 at hsz;rw[hi] at hsz;simpa using hsz
     split at e
     .rename_i n sz' hs;rw[hs] at ds;simp only[az] at ds;simp only[Q.run] at e;split at e
      .rename_i p q hk;simp only[cE,cC] at e;obtain⟨rfl,rfl⟩:=e;split at hk
       .rename_i E' u xs hl;split at hk
        .rename_i hE h1 h2;have hE:E'=E:=bK hE;have h1:sz=u.size:=bK h1;have h2:sz'=u.size:=bK h2;subst hE;obtain⟨ys,q1,q2,e1,e2,rfl⟩:=Q.run_bind _ _ _ hk;simp only[Q.run] at e2;split at e2
         .rename_i p' q' hk';simp only[cE,cC] at e2;obtain⟨rfl,rfl⟩:=e2;split at hk'
          .rename_i hun;cases cz hk';simp only[Dl.pre,bS,iC] at hp;obtain⟨pq,c,ev,hyl,hsrc⟩:=KY m e1 dx;have hdn:∀ n'∈[n],∃ b,h n' = .live b/\b.mut=true:=by simp[hl,lC.mut]
           rcases ds with⟨hnil,pa,es⟩|⟨b,len,E2,cc,hb,hsh,es⟩
           .have hx:xs=[]:=by
             have:=m.nm n;rw[hl] at this;rcases this with⟨k',l',he',_⟩|⟨_,E3,t3,hb⟩
             .rw[hnil] at he';cases he'
             .rcases hb with hb|hb <;> cases hb;rfl
            subst hx;simp only[List.length_nil,gI] at hp;obtain⟨v,w',hr,g⟩:=Ls (P:=P) (ty:=o.type) (p:=pa) (q:=pq) (c:=c) (pre:=[(([]:List u.D).length+ys.length)*i.bytes<=140737488355328]) m hu hsz hi hz hzs hb1 h1 hun [n] hdn hyl hp hsrc;refine⟨v,w',.inl (exe (by rw[es,ev];exact hr)),?_⟩;simpa using g
           .obtain⟨β,len⟩:=len;obtain⟨cur,cap,hh,hcs,hxl,hlc,hcm,hrd⟩:=(m.live_blk hl hb).1;simp only at hcs hxl hlc hrd es;have hcc:cc=cur.size:=by
             rw[hh.shape] at hsh;simp only[cE,cC] at hsh;exact hsh.2.symm
            have hcap:(cc-β)/sz'=cap:=by rw[hcc,hcs,h2,ot];exact uw _ u.size_pos
            rw[hcap] at es;have hne:nm≠n:=λe'=>by rw[e',hl] at hun;cases hun
            have hnA:=(m.live_blk hl hb).2 rfl;subst h1;by_cases h0:ys.length=0
            .have:ys=[]:=BC h0;subst this;refine⟨.slice (some ⟨b,β,none⟩) len cap,w,.inl (exe (by rw[es,ev];exact QB hu hsz _ _ _ _ _ hlc)),?_⟩;have g:=r6 (pre:=[(xs.length+([]:List u.D).length)*i.bytes<=140737488355328]) (v := .slice (some ⟨b,β,none⟩) len cap) (E:=E') (t:=u) (zs:=xs++[]) m hun [n] hdn (W:=λ_=>False) (ev := .blk b (β,len)) (da.refl w _) (λ_ h=>h.elim) (by simp)
              (λk l e=>by cases e;exact .inr ⟨n,(β,len),by simp,hb⟩) (λx=>.inr ⟨b,(β,len),cc,rfl,by rw[kY];exact (m.live_blk hl hb).1,by rw[hsh];rw[hh.shape] at hsh;cases hsh;rfl,by rw[← h2,hcap]⟩)
             simpa using g
            .obtain⟨bb,off,rfl,hrdy⟩:=hsrc.resolve_left h0;obtain⟨news,hnl,hnc,hn1⟩:=Io ys off hrdy;have hnews:∀ j v,news[j]? = some v->w.cell? ((⟨bb,off,none⟩:Addr).add j)=some v:=by
              intro j v hj;rw[Addr.add_lit,hnc j (List.getElem?_eq_some_iff.1 hj).1];exact hj
             have hrdn:∀ i (hi:i<ys.length),Rd A w u (λj=>news[j]?) (i*u.size) ys[i]:=λi hi =>
              xi (hrdy i hi) λj hj=>by
               have:(i+1)*u.size<=ys.length*u.size:=mQ _ (by omega);rw[gY,nA] at this;rw[← hnc _ (by omega),iz]
             have holds:∀ i (hi:i<xs.length),Rd A w u (λj=>((cur.toList.drop β).take (len*u.size))[j]?) (i*u.size) xs[i]:=λi hi =>
              xi (hrd i hi) λj hj=>by
               have:(i+1)*u.size<=len*u.size:=mQ _ (by omega);rw[gY,nA] at this;rw[vw,aj (by omega),wH,mr,iz]
             have hlec:len*u.size<=cap*u.size:=mQ _ hlc;have hol:((cur.toList.drop β).take (len*u.size)).length=xs.length*u.size:=by rw[dG,ib,fQ,hxl];omega
             have hlen:(xs++ys).length=len+ys.length:=by rw[cL,hxl]
             have hsum:len+ys.length<=maxLen:=by
              have:(len+ys.length)*1<=(xs.length+ys.length)*i.bytes:=by rw[hxl];exact Nat.mul_le_mul_left _ hb1
              simp only[maxLen];omega
             by_cases hroom:len+ys.length<=cap
             .have hfit:β+len*u.size+news.length<=cur.size:=by
               have:(len+ys.length)*u.size<=cap*u.size:=mQ _ hroom;rw[gY] at this;rw[hnl,hcs];omega
              have hr:=ay7 (P:=P) w t o.type E' i hu hi b β len cap cur hh ⟨bb,off,none⟩ ys.length c news (by rw[hnl,hisz]) hnews hn1 hroom (by rw[hisz];exact hfit);rw[hisz] at hr;refine⟨_,_,.inl (exe (by rw[es,ev];exact hr)),?_⟩;have hsize:(cur.toList.take (β+len*u.size)++news++cur.toList.drop (β+len*u.size+news.length)).toArray.size=cur.size:=by
               simp only[rT,cL,dG,ib,fQ];omega
              have cg:=da.setRow w b cur _ E' hh hsize;refine r6 m hun [n] hdn (W:=λj=>j=b) (ev := .blk b (β,len+ys.length)) cg (λk hk=>⟨n,(β,len),by simp,hk▸hb⟩) (by simp) (λk l e=>by cases e;exact .inr ⟨n,(β,len),by simp,hb⟩) (λx=>.inr ⟨b,(β,len+ys.length),β+cap*u.size,rfl,?_,?_,?_⟩)
              .refine⟨_,cap,hh.setRow hsize,by rw[hsize,hcs],hlen,hroom,hcm,λi hi=>?_⟩;refine iL (λ_ h=>h) x.keep u _ _ _ _ (λj _=>rfl) (xi (M1 (rest:=cur.toList.drop (β+len*u.size+news.length)) hol hnl holds hrdn i hi) λj hj=>?_);simp only[List.getElem?_toArray];rw[List.take_add,je,je,nD (by rw[dG,fQ];omega),je];congr 1;rw[dG,fQ];omega
              .rw[(hh.setRow hsize).shape,hsize,hcs]
              .show _=Value.slice _ _ ((β+cap*u.size-β)/u.size);rw[ot,uw _ u.size_pos]
             .have holdsc:∀ j v,((cur.toList.drop β).take (len*u.size))[j]? = some v->w.cell? ((⟨b,β,none⟩:Addr).add j)=some v:=by
               intro j v hj;rw[Addr.add_lit,hh.cell];rw[vw] at hj;split at hj
               .rwa [wH,mr] at hj
               .cases hj
              have hr:=run_append_grow (P:=P) w t o.type E' i z hu hi hz ⟨b,β,none⟩ len cap ((cur.toList.drop β).take (len*u.size)) (by rw[hol,hxl,hisz]) holdsc ⟨bb,off,none⟩ ys.length c news (by rw[hnl,hisz]) hnews (by omega)
               (by simp only[maxLen] at hsum;omega) (growslice_fits (by omega) (by rw[← hxl];exact hp))
              refine⟨_,_,.inl (exe (by rw[es,ev];exact hr)),?_⟩;have hge:=grownCap_ge w (len+ys.length) cap E';have hcm':=grownCap_le_maxLen w (len+ys.length) cap E' hsum;generalize grownCap w (len+ys.length) cap E'=cap' at *;have hsize:(((cur.toList.drop β).take (len*u.size)).toArray++news.toArray++Builtin.zeroCells z.cells (cap'-(len+ys.length))).size=cap'*u.size:=by
               simp only[Array.size_append,rT,hol,hnl,size_zeroCells,hzs,← gY];congr 1;omega
              have cg:da w (w.drew.alloc (.cells (((cur.toList.drop β).take (len*u.size)).toArray++news.toArray++Builtin.zeroCells z.cells (cap'-(len+ys.length))) E')) λ_=>False:=(da.drew w _).trans (da.alloc w.drew _ _);refine r6 m hun [n] hdn (W:=λ_=>False) (ev := .blk w.heap.size (0,len+ys.length)) cg (λ_ h=>h.elim) (by simp) (λk l e=>by cases e;exact .inl (eT _)) (λx=>.inr ⟨w.heap.size,(0,len+ys.length),cap'*u.size,rfl,?_,?_,?_⟩)
              .refine⟨_,cap',.of (heap_alloc_new w.drew _),by rw[hsize,gI],hlen,hge,hcm',λi hi=>?_⟩;have:=M1 (A:=A) (w:=w) (rest:=(Builtin.zeroCells z.cells (cap'-(len+ys.length))).toList) hol hnl holds hrdn i hi;rw[gI];refine iL (λ_ h=>h) x.keep u _ _ _ _ (λj _=>?_) this;rw[av4]
              .unfold World.shape?;have hh':=heap_alloc_new w.drew (.cells (((cur.toList.drop β).take (len*u.size)).toArray++news.toArray++Builtin.zeroCells z.cells (cap'-(len+ys.length))) E');simp only[World.size_drew] at hh';rw[hh'];simp only[hsize]
              .show _=Value.slice _ _ ((cap'*u.size-0)/u.size);rw[Nat.sub_zero,uw _ u.size_pos]
          .cases hk'
         .cases e2
        .cases hk
       .cases hk
      .cases e
     .rename_i hs;rw[hs] at ds;simp only[az] at ds;split at e
      .rename_i u hct;split at e
       .rename_i h1;have h1:sz=u.size:=bK h1;obtain⟨ys,q1,q2,e1,e2,rfl⟩:=Q.run_bind _ _ _ e;simp only[Q.run] at e2;split at e2
        .rename_i p' q' hk';simp only[cE,cC] at e2;obtain⟨rfl,rfl⟩:=e2;split at hk'
         next hun=>cases cz hk';simp only[Dl.pre,bS,iC] at hp;obtain⟨pq,c,ev,hyl,hsrc⟩:=KY m e1 dx;obtain⟨v,w',hr,g⟩:=Ls (P:=P) (ty:=o.type) (p:=none) (q:=pq) (c:=c) (pre:=[ys.length*i.bytes<=140737488355328]) m hu hsz hi hz hzs hb1 h1 hun [] (by simp) hyl hp hsrc;exact⟨v,w',.inl (exe (by rw[ds,ev];exact hr)),g⟩
         .cases hk'
        .cases e2
       .cases e
      .cases e
     .rename_i u xs hs;rw[hs] at ds;simp only[az] at ds;split at e
      .rename_i h1;have h1:sz=u.size:=bK h1;obtain⟨ys,q1,q2,e1,e2,rfl⟩:=Q.run_bind _ _ _ e;simp only[Q.run] at e2;split at e2
       .rename_i p' q' hk';simp only[cE,cC] at e2;obtain⟨rfl,rfl⟩:=e2;split at hk'
        next hun=>cases cz hk';simp only[Dl.pre,bS,iC] at hp;obtain⟨hp1,rfl⟩:=hp;obtain⟨_,pa,es⟩:=ds;obtain⟨pq,c,ev,hyl,hsrc⟩:=KY m e1 dx;simp only[List.length_nil,gI] at hp1;obtain⟨v,w',hr,g⟩:=Ls (P:=P) (ty:=o.type) (p:=pa) (q:=pq) (c:=c) (pre:=[(([]:List u.D).length+ys.length)*i.bytes<=140737488355328,([]:List u.D)=[]]) m hu hsz hi hz hzs hb1 h1 hun [] (by simp) hyl hp1 hsrc;exact⟨v,w',.inl (exe (by rw[es,ev];exact hr)),g⟩
        .cases hk'
       .cases e2
      .cases e
     .cases e
    .cases e
   .cases e
  .cases e
 .cases e
end
end Go.SX
namespace Go.SX
section
variable {P:Program} {w0:World} {N0:fK} {A:Nat->Prop} {env:bj} {h:bX} {w:World} {o:Oper} {a:Act} {ρ:Nat->SV} {d:Dl} {r:List Nat}
theorem Nf(len cap:Nat)(lo hi a:Option Value)(l hh m:Nat)
  (hm:(a=none/\m=cap)∨∃ k i,a=some (.int k i)/\0<=i/\i<=cap/\m=i.toNat)
  (b:(hi=none/\a=none/\hh=len)∨∃ k i,hi=some (.int k i)/\0<=i/\i<=m/\hh=i.toNat)
  (c:(lo=none/\l=0)∨∃ k i,lo=some (.int k i)/\0<=i/\i<=hh/\l=i.toNat) :
  (Instr.sliceBounds true len cap lo hi a).run P w = .ok (l,hh,m) w:=by
 rcases hm with⟨rfl,rfl⟩|⟨km,im,rfl,m0,m1,rfl⟩ <;> rcases b with⟨rfl,e,rfl⟩|⟨kh,ih,rfl,h0,h1,rfl⟩ <;> rcases c with⟨rfl,rfl⟩|⟨kl,il,rfl,l0,l1,rfl⟩ <;>
  first
  | (cases e;done)
  | (simp[Instr.sliceBounds,run_sliceBound, *,-Int.ofNat_toNat])
theorem Dn{x:Option Operand}{b v:Int}(f:FD A env w ρ a)(e:r9 (x.map (bg ρ)) b=some v) :
  (x=none/\v=b)∨∃ k y,x=some y/\a.eval y = .int k v:=by
 cases x with
 | none=>simp at e;cases e;exact .inl ⟨rfl,rfl⟩
 | some y =>
  have c:=dh f y;simp only[Option.map] at e;unfold r9 at e;split at e
  next hh=>cases hh
  next k n hh=>simp at hh;rw[hh] at c;simp only[az] at c;simp_all
  .cases e
theorem Oy{t:CT}{v:Value}{xs:List t.D}(hs:tP A w t v xs){l hh:Nat}(h1:l<=hh)(g:hh<=xs.length) :
  ∃ p cap,v = .slice p xs.length cap/\xs.length<=cap/\cap<=maxLen∧∀ m,hh<=m->m<=cap →
   tP A w t (.slice (if m=l then p else p.map (·.add (l*t.size))) (hh-l) (m-l)) (fA xs l hh):=by
 have a:(fA xs l hh).length=hh-l:=by simp[fA];omega
 obtain⟨hl,⟨⟨p,rfl⟩,rfl⟩|⟨b,off,cap,rfl,c1,c2,c3,c4⟩⟩:=hs
 .refine⟨p,0,rfl,eT _,aw,λm hm c=>?_⟩;have:m=0:=ab;subst this;have d:l=0:=by simp at g;omega
  have e:hh=0:=by simpa using g
  subst d;subst e;exact⟨by simp[fA],.inl ⟨⟨p,aw⟩,by simp[fA]⟩⟩
 .refine⟨_,cap,rfl,c1,c2,λm hm c=>⟨ab,?_⟩⟩;by_cases f:m=l
  .simp_all
  .rw[ah f];refine .inr ⟨b,off+l*t.size,m-l,by rw[a];simp[Addr.add_lit],ab,ab,c3,λi hi=>?_⟩;have eg:(fA xs l hh)[i]=xs[l+i]:=by simp[fA]
   grind
theorem af6(m:Mod w0 N0 A env h w)(f:FD A env w ρ a){t:TypeId}{x:Operand}{lo hi mx:Option Operand}(ho:o.op = .slice t x lo hi mx)
  (e:(Nx P t (bg ρ x) (lo.map (bg ρ)) (hi.map (bg ρ)) (mx.map (bg ρ))).run h=some (d,r)) (hp:bS d.pre):bz P o a w0 N0 A env h w d:=by
 have dx:=dh f x
 unfold Nx at e
 split at e
 next E sz he=>
  obtain⟨hu,hsz⟩:=Ak he;have exe:∀{p:Option Addr}{len cap l hh m:Nat},a.eval x = .slice p len cap →
    ((mx=none/\m=cap)∨∃ y k i,mx=some y/\a.eval y = .int k i/\0<=i/\i<=cap/\m=i.toNat) →
    ((hi=none/\mx=none/\hh=len)∨∃ y k i,hi=some y/\a.eval y = .int k i/\0<=i/\i<=m/\hh=i.toNat) →
    ((lo=none/\l=0)∨∃ y k i,lo=some y/\a.eval y = .int k i/\0<=i/\i<=hh/\l=i.toNat) →
    (execOp a.eval o).run P w = .ok (.value (.slice (if m=l then p else p.map (·.add (l*sz))) (hh-l) (m-l))) w:=by
   intro p len cap l hh m ev hm hhi hlo;unfold execOp;rw[ho];have hb:=Nf (P:=P) (w:=w) len cap (lo.map a.eval) (hi.map a.eval) (mx.map a.eval) l hh m
    (by rcases hm with⟨rfl,rfl⟩|⟨y,k,i,rfl,e1,e2⟩;exact .inl ⟨rfl,rfl⟩;exact .inr ⟨k,i,by simp[e1],e2⟩)
    (by rcases hhi with⟨rfl,rfl,rfl⟩|⟨y,k,i,rfl,e1,e2⟩;exact .inl ⟨rfl,rfl,rfl⟩;exact .inr ⟨k,i,by simp[e1],e2⟩)
    (by rcases hlo with⟨rfl,rfl⟩|⟨y,k,i,rfl,e1,e2⟩;exact .inl ⟨rfl,rfl⟩;exact .inr ⟨k,i,by simp[e1],e2⟩)
   simp only[Instr.sliceAt,Instr.slice,Sem.run_bind,run_underlying hu,Result.andThen_ok,ev,hb,lU hsz,Sem.run_pure]
  have loF:∀{l hh:Int}{len:Nat},r9 (lo.map (bg ρ)) 0=some l->0<=l->l<=hh->((lo=none/\l.toNat=0)∨∃ y k i,lo=some y/\a.eval y = .int k i/\0<=i/\i<=hh.toNat/\l.toNat=i.toNat):=by
   intro l hh len hb h0 h1;rcases Dn f hb with⟨rfl,rfl⟩|⟨k,y,rfl,e1⟩
   .exact .inl ⟨rfl,rfl⟩
   .grind
  split at e
  .rename_i u xs hx;rw[hx] at dx;simp only[az] at dx;split at e
   .rename_i l hh hs1 hb1 hb2;have hs1:sz=u.size:=bK hs1;subst hs1;split at e
    .rename_i hmx;cases cz e;simp only[Dl.pre,bS,iC] at hp;have hmx':mx=none:=by cases mx <;> simp_all
     obtain⟨p,cap,ev,c1,c2,c3⟩:=Oy dx (l:=l.toNat) (hh:=hh.toNat) ab ab;refine bz.pure m (exe ev (.inl ⟨hmx',rfl⟩) ?_ (loF (len:=0) hb1 hp.1 hp.2.1)) (by simp only[az];exact c3 cap ab (eT _));rcases Dn f hb2 with⟨rfl,rfl⟩|⟨k,y,rfl,e1⟩
     .simp_all
     .grind
    .rename_i km mm hmx;split at e
     case h_2=>cases e
     rename_i ys hhi;cases cz e;simp only[Dl.pre,bS,iC] at hp;obtain⟨hp1,hp2,hp3,hp4⟩:=hp;cases mx with
     | none=>cases hmx
     | some y =>
      have dy:=dh f y;simp only[Option.map,cE] at hmx;rw[hmx] at dy;simp only[az] at dy;obtain⟨p,cap,ev,c1,c2,c3⟩:=Oy dx (l:=l.toNat) (hh:=hh.toNat) ab ab;refine bz.pure m (exe ev (.inr ⟨y,km,mm,rfl,dy.1,ab,ab,rfl⟩) ?_ (loF (len:=0) hb1 hp1 hp2)) ?_
      .rcases Dn f hb2 with⟨rfl,rfl⟩|⟨k,y',rfl,e1⟩
       .cases hhi
       .exact .inr ⟨y',k,hh,rfl,e1,ab,ab,rfl⟩
      .simp only[az];have hlen:(fA xs l.toNat hh.toNat).length=hh.toNat-l.toNat:=by simp[fA];omega
       exact⟨c3 mm.toNat ab ab,_,by rw[hlen];congr 1;omega⟩
    .cases e
   .cases e
  .rename_i n sz' hx;rw[hx] at dx;simp only[az] at dx;split at e
   .rename_i hmx;have hmx':mx=none:=by cases mx <;> simp_all
    simp only[Q.run] at e;split at e
    .rename_i p q hk;simp only[cE,cC] at e;obtain⟨rfl,rfl⟩:=e;have fin:∀{E':TypeId}{u:CT}{xs:List u.D}{l hh:Int}{A':Nat->Prop}{h':bX},Mod w0 N0 A' env h' w->dH A env w A' env w->(h n = .live (.row E' u xs)∨h n = .live (.frz E' u xs)) →
       h' n = .live (.frz E' u xs)->sz=u.size->sz'=u.size →
       r9 (lo.map (bg ρ)) 0=some l->r9 (hi.map (bg ρ)) xs.length=some hh->0<=l->l<=hh->hh<=xs.length →
       ∃ v,(execOp a.eval o).run P w = .ok (.value v) w/\az A' env w (.dsl u (fA xs l.toNat hh.toNat)) v:=by
      intro E' u xs l hh A' h' m' x' hl hl' h1 h2 hb1 hb2 p1 p2 p3;have hrs:tP A' w u (a.eval x) xs:=by
       rcases dx with⟨hnil,pa,ev⟩|⟨b,len,E2,c,hb,hsh,ev⟩
       .have hx0:xs=[]:=by
         have:=m'.nm n;rw[hl'] at this;rcases this with⟨k',l',he',_⟩|⟨_,E3,t3,hb⟩
         .rw[hnil] at he';cases he'
         .rcases hb with hb|hb <;> cases hb;rfl
        subst hx0;exact⟨aw,.inl ⟨⟨pa,ev⟩,rfl⟩⟩
       .have hbd:=(m'.live_blk hl' hb).1;rw[ev,h2];exact J4 (λ_ h=>h) hbd.2 hbd.1 hsh
      subst h1;obtain⟨p,cap,ev,c1,c2,c3⟩:=Oy hrs (l:=l.toNat) (hh:=hh.toNat) ab ab;refine⟨_,exe ev (.inl ⟨hmx',rfl⟩) ?_ (loF (len:=0) hb1 p1 p2),by simp only[az];exact c3 cap ab (eT _)⟩;rcases Dn f hb2 with⟨rfl,rfl⟩|⟨k,y,rfl,e1⟩
      .exact .inl ⟨rfl,hmx',aw⟩
      .exact .inr ⟨y,k,hh,rfl,e1,ab,ab,rfl⟩
     split at hk
     .rename_i E' u xs hl;split at hk
      .rename_i l hh h1 h2 hb1 hb2;cases cz hk;simp only[Dl.pre,bS,iC] at hp;have ok:pV h [(n,.live (.frz E' u xs))]:=by
        intro n' b hb;simp only[nz,cC] at hb;obtain⟨rfl,rfl⟩:=hb;exact⟨E',u,xs,hl,rfl⟩
       obtain⟨m2,x2⟩:=m.freeze ok;obtain⟨v,hr,hd⟩:=fin m2 x2 (.inl hl) (by simp[dA]) (bK h1) (bK h2) hb1 hb2 hp.1 hp.2.1 hp.2.2;exact⟨v,w,.inl hr,(),_,env,aN,m2,x2,hd⟩
      .cases hk
     .rename_i E' u xs hl;split at hk
      next l hh h1 h2 hb1 hb2=>cases cz hk;simp only[Dl.pre,bS,iC] at hp;obtain⟨v,hr,hd⟩:=fin m dH.refl (.inr hl) hl (bK h1) (bK h2) hb1 hb2 hp.1 hp.2.1 hp.2.2;exact bz.pure m hr hd
      .cases hk
     .cases hk
    .cases e
   .cases e
  .rename_i hx;rw[hx] at dx;simp only[az] at dx;split at e
   .rename_i l hh hb1 hb2 hmx;have hmx':mx=none:=by cases mx <;> simp_all
    cases cz e;simp only[Dl.pre,bS,iC] at hp;obtain⟨rfl,rfl⟩:=hp;have hr:=exe (l:=0) (hh:=0) (m:=0) dx (.inl ⟨hmx',rfl⟩) (by
     rcases Dn f hb2 with⟨rfl,_⟩|⟨k,y,rfl,e1⟩
     .exact .inl ⟨rfl,hmx',rfl⟩
     .exact .inr ⟨y,k,0,rfl,e1,ab,ab,rfl⟩) (by
     rcases Dn f hb1 with⟨rfl,_⟩|⟨k,y,rfl,e1⟩
     .exact .inl ⟨rfl,rfl⟩
     .exact .inr ⟨y,k,0,rfl,e1,ab,ab,rfl⟩)
    exact bz.pure m hr (by simp[az])
   .cases e
  .cases e
 .cases e
def NT(P:Program)(t:TypeId)(nm:Nat)(x:SV)(lo hi mx:Option SV):Q Dl:=match uT P t,lo,hi,mx with
 | some (_,sz),none,some (.int _ hh),none=>match x with
  | .own n sz' => .ask n fun
   | .live (.row E u xs)=>match Nat.beq sz u.size,Nat.beq sz' u.size with
    | true,true => .ask nm fun
     | .un => .ret (.det [0<=hh,hh<=xs.length] (.own nm sz) [(nm,.live (.row E u (xs.take hh.toNat))),(n,.dead)])
     | _ => .fail
    | _,_ => .fail
   | _ => .fail
  | _ => .fail
 | some (_,sz),some (.int _ l),none,none=>match x with
  | .own n sz' => .ask n fun
   | .live (.row E u xs)=>match Nat.beq sz u.size,Nat.beq sz' u.size with
    | true,true => .ask nm fun
     | .un => .ret (.det [0<=l,l<=xs.length] (.own nm sz) [(nm,.live (.row E u (xs.drop l.toNat))),(n,.dead)])
     | _ => .fail
    | _,_ => .fail
   | _ => .fail
  | _ => .fail
 | _,_,_,_ => .fail
def P1(P:Program)(t tn:TypeId)(nm:Nat)(s x:SV):Q Dl:=match uT P t,s,x,P.underlying tn with
 | some (e,sz),.nilsl,.int _ n,some (.int _)=>match AV P 8 e,zeroCells P e,P.info? e with
  | some u,some z,some i=>match Nat.beq u.size sz,Nat.beq z.length sz,Nat.ble 1 i.bytes,kW u z with
   | true,true,true,.ret (d,_,[]) => .ask nm fun
    | .un => .ret (.det [0<=n,n*(i.bytes:Int)<=140737488355328] (.own nm sz) [(nm,.live (.row e u (replicate n.toNat d)))])
    | _ => .fail
   | _,_,_,_ => .fail
  | _,_,_ => .fail
 | _,_,_,_ => .fail
def ym(P:Program)(t:TypeId)(x:SV):Q Dl:=match P.underlying t,x with
 | some (.slice _),.nilsl=>c9 (.int .i64 0)
 | _,_ => .fail
theorem bk2(m:Mod w0 N0 A env h w)(f:FD A env w ρ a){t:TypeId}{x:Operand}(ho:o.op = .call {callee := .builtin .cap,args := #[x],argTypes := #[t]})
  (e:(ym P t (bg ρ x)).run h=some (d,r)):bz P o a w0 N0 A env h w d:=by
 have b:=dh f x
 unfold ym at e
 split at e
 next E hu hx=>rw[hx] at b;simp only[az] at b;cases cz e;refine bz.pure m (v := .int .i64 0) ?_ (by simp only[az];exact⟨aN,RF bo⟩);unfold execOp;rw[ho];simp[resolve,invoke,builtin,Builtin.cap_,run_underlying hu,b,goInt]
 .cases e
theorem be8(m:Mod w0 N0 A env h w)(f:FD A env w ρ a){t:TypeId}{nm:Nat}{x:Operand}{lo hi mx:Option Operand}(ho:o.op = .slice t x lo hi mx)
  (e:(NT P t nm (bg ρ x) (lo.map (bg ρ)) (hi.map (bg ρ)) (mx.map (bg ρ))).run h=some (d,r)) (hp:bS d.pre):bz P o a w0 N0 A env h w d:=by
 have dx:=dh f x
 unfold NT at e
 split at e
 case h_3=>cases e
 next E sz kh hh he hlo hhi hmx=>
  obtain⟨hu,hsz⟩:=Ak he;have hlo':lo=none:=by cases lo <;> simp_all
  have hmx':mx=none:=by cases mx <;> simp_all
  subst hlo' hmx';cases hi with
  | none=>cases hhi
  | some y =>
  simp only[Option.map,cE] at hhi;have dy:=dh f y;rw[hhi] at dy;simp only[az] at dy;split at e
  case h_2=>cases e
  rename_i n sz' hx;rw[hx] at dx;simp only[az] at dx;simp only[Q.run] at e;split at e
  case h_2=>cases e
  rename_i p q hk;simp only[cE,cC] at e;obtain⟨rfl,rfl⟩:=e;split at hk
  case h_2=>cases hk
  rename_i E' u xs hl;split at hk
  case h_2=>cases hk
  rename_i hs1 hs2;have hs1:sz=u.size:=bK hs1;have hs2:sz'=u.size:=bK hs2;subst hs1;simp only[Q.run] at hk;split at hk
  case h_2=>cases hk
  rename_i p' q' hk';simp only[cE,cC] at hk;obtain⟨rfl,rfl⟩:=hk;split at hk'
  case h_2=>cases hk'
  rename_i hun;cases cz hk';simp only[Dl.pre,bS,iC] at hp;have exe:∀{p:Option Addr}{len cap:Nat},a.eval x = .slice p len cap->hh.toNat<=cap->(execOp a.eval o).run P w = .ok (.value (.slice p hh.toNat cap)) w:=by
   intro p len cap ev hc;unfold execOp;rw[ho];have hb:=Nf (P:=P) (w:=w) len cap none (some (a.eval y)) none 0 hh.toNat cap (.inl ⟨rfl,rfl⟩) (.inr ⟨kh,hh,by rw[dy.1],hp.1,ab,rfl⟩) (.inl ⟨rfl,rfl⟩);simp only[Option.map,Instr.sliceAt,Instr.slice,Sem.run_bind,run_underlying hu,Result.andThen_ok,ev,hb,lU hsz,Sem.run_pure,Nat.zero_mul,Nat.sub_zero];congr 3;split
   .rfl
   .cases p <;> simp[Addr.add]
  have hdn:∀ n'∈[n],∃ b,h n' = .live b/\b.mut=true:=by simp[hl,lC.mut]
  rcases dx with⟨hnil,pa,es⟩|⟨b,len,E2,cc,hb,hsh,es⟩
  .have hx:xs=[]:=by
    have:=m.nm n;rw[hl] at this;rcases this with⟨k',l',he',_⟩|⟨_,E3,t3,hb⟩
    .simp_all
    .grind
   subst hx;have h0:hh.toNat=0:=by simp at hp;omega
   have g:=r6 (pre:=[0<=hh,hh<=([]:List u.D).length]) (v := .slice pa 0 0) (E:=E') (t:=u) (zs:=([]:List u.D).take hh.toNat) m hun [n] hdn (W:=λ_=>False) (ev := .nil) (da.refl w _) (λ_ h=>h.elim) aw
    (λk l e=>by cases e) (λ_=>.inl ⟨rfl,aw,pa,rfl⟩)
   exact⟨_,w,.inl (exe es ab),by rw[h0];simpa using g⟩
  .obtain⟨β,len⟩:=len;obtain⟨cur,cap,hhp,hcs,hxl,hlc,hcm,hrd⟩:=(m.live_blk hl hb).1;simp only at hcs hxl hlc hrd es;have hcc:cc=cur.size:=by
    rw[hhp.shape] at hsh;simp_all
   have hcap:(cc-β)/sz'=cap:=by rw[hcc,hcs,hs2,ot];exact uw _ u.size_pos
   rw[hcap] at es;have hle:hh.toNat<=xs.length:=ab;have g:=r6 (pre:=[0<=hh,hh<=xs.length]) (v := .slice (some ⟨b,β,none⟩) hh.toNat cap) (E:=E') (t:=u) (zs:=xs.take hh.toNat) m hun [n] hdn (W:=λ_=>False) (ev := .blk b (β,hh.toNat)) (da.refl w _) (λ_ h=>h.elim) aw
    (λk l e=>by cases e;exact .inr ⟨n,(β,len),by simp,hb⟩) (λx=>.inr ⟨b,(β,hh.toNat),cc,rfl,⟨cur,cap,hhp,hcs,by simp;omega,ab,hcm,λi hi=>?_⟩,by rw[hsh];rw[hhp.shape] at hsh;cases hsh;rfl,by rw[← hs2,hcap]⟩)
   .exact⟨_,w,.inl (exe es ab),by simpa using g⟩
   .grind
 next E sz kl l he hlo hhi hmx=>
  obtain⟨hu,hsz⟩:=Ak he;have hhi':hi=none:=by cases hi <;> simp_all
  have hmx':mx=none:=by cases mx <;> simp_all
  subst hhi' hmx';cases lo with
  | none=>cases hlo
  | some y =>
  simp only[Option.map,cE] at hlo;have dy:=dh f y;rw[hlo] at dy;simp only[az] at dy;split at e
  case h_2=>cases e
  rename_i n sz' hx;rw[hx] at dx;simp only[az] at dx;simp only[Q.run] at e;split at e
  case h_2=>cases e
  rename_i p q hk;simp only[cE,cC] at e;obtain⟨rfl,rfl⟩:=e;split at hk
  case h_2=>cases hk
  rename_i E' u xs hl;split at hk
  case h_2=>cases hk
  rename_i hs1 hs2;have hs1:sz=u.size:=bK hs1;have hs2:sz'=u.size:=bK hs2;subst hs1;simp only[Q.run] at hk;split at hk
  case h_2=>cases hk
  rename_i p' q' hk';simp only[cE,cC] at hk;obtain⟨rfl,rfl⟩:=hk;split at hk'
  case h_2=>cases hk'
  rename_i hun;cases cz hk';simp only[Dl.pre,bS,iC] at hp;have exe:∀{p:Option Addr}{len cap:Nat},a.eval x = .slice p len cap->l.toNat<=len->(execOp a.eval o).run P w = .ok (.value (.slice (if cap=l.toNat then p else p.map (·.add (l.toNat*u.size))) (len-l.toNat) (cap-l.toNat))) w:=by
   intro p len cap ev hc;unfold execOp;rw[ho];have hb:=Nf (P:=P) (w:=w) len cap (some (a.eval y)) none none l.toNat len cap (.inl ⟨rfl,rfl⟩) (.inl ⟨rfl,rfl,rfl⟩) (.inr ⟨kl,l,by rw[dy.1],hp.1,ab,rfl⟩);simp only[Option.map,Instr.sliceAt,Instr.slice,Sem.run_bind,run_underlying hu,Result.andThen_ok,ev,hb,lU hsz,Sem.run_pure]
  have hdn:∀ n'∈[n],∃ b,h n' = .live b/\b.mut=true:=by simp[hl,lC.mut]
  rcases dx with⟨hnil,pa,es⟩|⟨b,len,E2,cc,hb,hsh,es⟩
  .have hx:xs=[]:=by
    have:=m.nm n;rw[hl] at this;rcases this with⟨k',l',he',_⟩|⟨_,E3,t3,hb⟩
    .simp_all
    .grind
   subst hx;have h0:l.toNat=0:=by simp at hp;omega
   have g:=r6 (pre:=[0<=l,l<=([]:List u.D).length]) (v := .slice pa 0 0) (E:=E') (t:=u) (zs:=([]:List u.D).drop l.toNat) m hun [n] hdn (W:=λ_=>False) (ev := .nil) (da.refl w _) (λ_ h=>h.elim) aw
    (λk l e=>by cases e) (λ_=>.inl ⟨rfl,aw,pa,rfl⟩)
   have ex:=exe es ab;rw[h0] at ex;exact⟨_,w,.inl ex,by simpa[h0] using g⟩
  .obtain⟨β,len⟩:=len;obtain⟨cur,cap,hhp,hcs,hxl,hlc,hcm,hrd⟩:=(m.live_blk hl hb).1;simp only at hcs hxl hlc hrd es;have hcc:cc=cur.size:=by
    rw[hhp.shape] at hsh;simp_all
   have hcap:(cc-β)/sz'=cap:=by rw[hcc,hcs,hs2,ot];exact uw _ u.size_pos
   rw[hcap] at es;have hle:l.toNat<=xs.length:=ab;have ex:=exe es ab;by_cases hfull:cap=l.toNat
   .rw[aj hfull] at ex;have hz:xs.drop l.toNat=[]:=List.drop_eq_nil_of_le ab;have g:=r6 (pre:=[0<=l,l<=xs.length]) (v := .slice (some ⟨b,β,none⟩) 0 0) (E:=E') (t:=u) (zs:=xs.drop l.toNat) m hun [n] hdn (W:=λ_=>False) (ev := .nil) (da.refl w _) (λ_ h=>h.elim) aw
     (λk l e=>by cases e) (λ_=>.inl ⟨rfl,hz,_,rfl⟩)
    rw[show len-l.toNat=0 by omega,show cap-l.toNat=0 by omega] at ex;exact⟨_,w,.inl ex,by simpa using g⟩
   .rw[ah hfull] at ex;have hmul:l.toNat*u.size+(cap-l.toNat)*u.size=cap*u.size:=by rw[← gY];congr 1;omega
    have g:=r6 (pre:=[0<=l,l<=xs.length]) (v := .slice (some ⟨b,β+l.toNat*u.size,none⟩) (len-l.toNat) (cap-l.toNat)) (E:=E') (t:=u) (zs:=xs.drop l.toNat) m hun [n] hdn (W:=λ_=>False) (ev := .blk b (β+l.toNat*u.size,len-l.toNat)) (da.refl w _) (λ_ h=>h.elim) aw
     (λk l e=>by cases e;exact .inr ⟨n,(β,len),aw,hb⟩) (λx=>.inr ⟨b,(β+l.toNat*u.size,len-l.toNat),cc,rfl,⟨cur,cap-l.toNat,hhp,by rw[hcs,iz,hmul],by simp only[ib];omega,ab,ab,λi hi=>?_⟩,by rw[hsh];rw[hhp.shape] at hsh;cases hsh;rfl,by
      show _=Value.slice _ _ ((cc-(β+l.toNat*u.size))/u.size);rw[hcc,hcs,show β+cap*u.size-(β+l.toNat*u.size)=(cap-l.toNat)*u.size by rw[← hmul];omega,uw _ u.size_pos]⟩)
    .exact⟨_,w,.inl ex,by simpa only[Option.map,Addr.add_lit,fV,List.map_nil] using g⟩
    .have hi':i+l.toNat<xs.length:=by simp at hi;omega
     rw[List.getElem_drop];have:=hrd (l.toNat+i) ab;rw[show β+(l.toNat+i)*u.size=β+l.toNat*u.size+i*u.size by rw[gY];omega] at this;exact this
theorem Ug(z:Array Value)(n:Nat)(hz:0<z.size):(Builtin.zeroCells z n).toList=mb z.toList n:=by
 apply List.ext_getElem?
 intro i
 by_cases hi:i<n*z.size
 .rw[Gv _ _ _ (by simpa using hi)];unfold Builtin.zeroCells;have hm:i%z.size<z.size:=Nat.mod_lt _ hz;simp_all
 .rw[AS (by simp[Builtin.zeroCells];omega),AS (by rw[I2];simp;omega)]
theorem a89(m:Mod w0 N0 A env h w)(f:FD A env w ρ a){t tn:TypeId}{nm:Nat}{s x:Operand}(ho:o.op = .call {callee := .builtin .append,args := #[s,x],argTypes := #[t,tn]})
  (e:(P1 P t tn nm (bg ρ s) (bg ρ x)).run h=some (d,r)) (hp:bS d.pre):bz P o a w0 N0 A env h w d:=by
 have ds:=dh f s
 have dx:=dh f x
 have exe:∀{v:Value}{w':World},(Builtin.append_ #[t,tn] o.type #[a.eval s,a.eval x]).run P w = .ok v w'→(execOp a.eval o).run P w = .ok (.value v) w':=by
  intro v w' hr;unfold execOp;rw[ho];simp only[resolve,invoke,builtin,Sem.run_bind,Sem.run_pure,Result.andThen_ok,List.map_toArray,fV,List.map_nil,hr]
 unfold P1 at e
 split at e
 case h_2=>cases e
 rename_i E sz kn n kt he hs hx hut
 obtain⟨hu,hsz⟩:=Ak he
 rw[hs] at ds;rw[hx] at dx
 simp only[az] at ds dx
 split at e
 case h_2=>cases e
 rename_i u z i hct hz hi
 split at e
 case h_2=>cases e
 rename_i dd rest hb1 hb2 hb3 hpz
 have hb1:u.size=sz:=bK hb1
 have hb2:z.length=sz:=bK hb2
 have hb3:1<=i.bytes:=lZ hb3
 subst hb1
 simp only[Q.run] at e
 split at e
 case h_2=>cases e
 rename_i p q hk
 simp only[cE,cC] at e
 obtain⟨rfl,rfl⟩:=e
 split at hk
 case h_2=>cases hk
 rename_i hun
 cases cz hk
 simp only[Dl.pre,bS,iC] at hp
 obtain⟨h0,hby⟩:=hp
 obtain⟨i',zv,hi',hzv,dz,_⟩:=Bf (A:=A) (env:=env) (w:=w) hz
 rw[hi] at hi';cases hi'
 have hzl:zv.cells.size=u.size:=by rw[← fQ,jl dz,hb2]
 have hisz:i.size=u.size:=by
  unfold f8 at hsz;rw[hi] at hsz;simpa using hsz
 obtain⟨k,rfl⟩:=sC h0
 have hkb:k*i.bytes<=140737488355328:=by
  have:((k*i.bytes:Nat):Int)<=140737488355328:=by rw[Int.natCast_mul];exact hby
  omega
 have hk1:k<=k*i.bytes:=Nat.le_mul_of_pos_right k ab
 by_cases hk0:k=0
 .subst hk0;have hr:(Builtin.append_ #[t,tn] o.type #[a.eval s,a.eval x]).run P w = .ok (.slice none 0 0) w:=by
   rw[ds,dx.1];have hw:IntKind.i64.wrap ((0:Nat):Int)=0:=bo;have hut':P.underlying tn=some (.int kt):=hut;have hai:(asIntOf (Value.int kn 0)).run P w = .ok (kn,0) w:=by simp[asIntOf]
   unfold Builtin.append_;simp[run_underlying hu,run_underlying hut',lU hsz,typeInfo,hi,asInt,hai,show IntKind.i64.wrap 0=0 from by decide]
  refine⟨_,w,.inl (exe hr),?_⟩;have g:=r6 (pre:=[0<=((0:Nat):Int),((0:Nat):Int)*(i.bytes:Int)<=140737488355328]) (v := .slice none 0 0) (E:=E) (t:=u) (zs:=replicate (((0:Nat):Int)).toNat dd) m hun [] aw (W:=λ_=>False) (ev := .nil) (da.refl w _) (λ_ h=>h.elim) aw
   (λk l e=>by cases e) (λ_=>.inl ⟨rfl,aw,none,rfl⟩)
  simpa using g
 .have hr:=Go.Lib.run_append_nil_zeros (P:=P) w t tn o.type E i zv kn kt hu hut hi hzv k ab (by rw[hisz];exact u.size_pos) ab ab;rw[← ds,← dx.1] at hr;refine⟨_,_,.inl (exe hr),?_⟩;have hge:=grownCap_ge w k 0 E;have hcm:=grownCap_le_maxLen w k 0 E (by simp only[maxLen];omega);generalize grownCap w k 0 E=cap at *;have hproj:=u9 m u z zv.cells.toList dd rest [] [] (by rw[hpz];rfl) dz (A':=A) (λ_ hb=>hb) (λk ⟨n,b,l,hh,_⟩=>by simp at hh);have hall:(Builtin.zeroCells zv.cells k++Builtin.zeroCells zv.cells (cap-k)).toList=mb zv.cells.toList cap:=by
   rw[Array.toList_append,Ug _ _ (by rw[hzl];exact u.size_pos),Ug _ _ (by rw[hzl];exact u.size_pos)];have radd:∀(l:List Value)(a b:Nat),mb l a++mb l b=mb l (a+b):=by
    intro l a b
    induction a with
    | zero=>simp[mb]
    | succ a ih=>rw[Nat.succ_add];simp only[mb,je,ih]
   rw[radd];congr 1;omega
  have hsize:(Builtin.zeroCells zv.cells k++Builtin.zeroCells zv.cells (cap-k)).size=cap*u.size:=by
   rw[← fQ,hall,I2,fQ,hzl]
  have cg:da w (w.drew.alloc (.cells (Builtin.zeroCells zv.cells k++Builtin.zeroCells zv.cells (cap-k)) E)) λ_=>False:=(da.drew w _).trans (da.alloc w.drew _ _);have g:=r6 (pre:=[0<=((k:Nat):Int),((k:Nat):Int)*(i.bytes:Int)<=140737488355328]) (v := .slice (some ⟨w.heap.size,0,none⟩) k cap) (E:=E) (t:=u) (zs:=replicate ((k:Nat):Int).toNat dd) m hun [] aw (W:=λ_=>False) (ev := .blk w.heap.size (0,k)) cg (λ_ h=>h.elim) aw
   (λk l e=>by cases e;exact .inl (eT _)) (λx=>.inr ⟨w.heap.size,(0,k),cap*u.size,rfl,⟨_,cap,.of (heap_alloc_new w.drew _),by rw[hsize,gI],aw,hge,hcm,λj hj=>?_⟩,?_,?_⟩)
  .simpa using g
  .simp only[wa,Int.toNat_natCast] at hj;rw[List.getElem_replicate];have sh:=AC hproj.2.2.2.1 (j*u.size);rw[gI] at sh;rw[gI];refine iL (λ_ h=>h) x.keep u _ _ _ _ (λq hq=>?_) sh;have hlt:j*u.size+q<cap*u.size:=by
    have:(j+1)*u.size<=cap*u.size:=mQ _ ab;rw[gY,nA] at this;omega
   rw[← mr,hall,Gv _ _ _ (by simpa[hzl] using hlt)];congr 1;simp only[fQ,hzl];rw[wF,Nat.add_mul_mod_self_right,Nat.mod_eq_of_lt hq];omega
  .unfold World.shape?;have hh:=heap_alloc_new w.drew (.cells (Builtin.zeroCells zv.cells k++Builtin.zeroCells zv.cells (cap-k)) E);simp only[World.size_drew] at hh;rw[hh];simp only[hsize]
  .show _=Value.slice _ _ ((cap*u.size-0)/u.size);rw[Nat.sub_zero,uw _ u.size_pos]
theorem Ky{xs:ac}{v:Value}(h:tP A w (.int .u8) v xs){src e:TypeId}(d:P.underlying src=some (.slice e))(f:P.underlying e=some (.int .u8)){dst:TypeId}(g:P.underlying dst=some .string) :
  (convert src dst v).run P w = .ok (.string (strOfNums xs)) w:=by
 obtain⟨hl,⟨⟨a,rfl⟩,c⟩|⟨b,off,cap,rfl,h1,h2,h3,h4⟩⟩:=h
 .have c:xs=[]:=c;subst c;rw[run_convert_bytes_string w src dst e _ 0 0 d f g];cases a <;> simp[Conv.bytesToString,loadCells]
  all_goals rfl
 .refine run_convert_bytes_arg w src e d f b off xs.length cap xs rfl (λi hi=>?_) dst g;have:=(h4 i hi).1;simp only[CT.size,Nat.mul_one] at this;simp_all
theorem aT6{xs:ac}{k c:Nat}{len:Nat×Nat}{E:TypeId}(h:qG A w k len E (.int .u8) xs){src e:TypeId}(hs:P.underlying src=some (.slice e))(he:P.underlying e=some (.int .u8)){dst:TypeId}(hd:P.underlying dst=some .string) :
  (convert src dst (.slice (some ⟨k,len.1,none⟩) len.2 c)).run P w = .ok (.string (strOfNums xs)) w:=by
 obtain⟨vs,cap,h0,h1,h2,h3,h4,h5⟩:=h
 refine run_convert_bytes_arg (P:=P) w src e hs he k len.1 len.2 c xs h2 (λi hi=>?_) dst hd
 have hi':i<xs.length:=ab
 have:=(h5 i hi').1
 simp only[CT.size,Nat.mul_one] at this
 rw[h0.cell,this,ct,cM hi',jo]
def PT(P:Program)(src:TypeId)(x:SV):Q Dl:=match P.underlying src with
 | some (.slice e)=>match P.underlying e with
  | some (.int .u8)=>match x with
   | .dsl t xs=>match iK t (.int .u8) xs with
    | some ys=>c9 (.str (strOfNums ys))
    | none => .fail
   | .dsx t xs=>match iK t (.int .u8) xs with
    | some ys=>c9 (.str (strOfNums ys))
    | none => .fail
   | .nilsl=>c9 (.str (strOfNums []))
   | .own n sz => .ask n fun
    | .live (.row _ t xs)=>match iK t (.int .u8) xs with
     | some ys=>c9 (.str (strOfNums ys))
     | none => .fail
    | .live (.frz _ t xs)=>match iK t (.int .u8) xs with
     | some ys=>c9 (.str (strOfNums ys))
     | none => .fail
    | _ => .fail
   | _ => .fail
  | _ => .fail
 | _ => .fail
theorem GF{xs:ac}{v:Value}(hl:xs.length<=maxLen):az A env w (.str (strOfNums xs)) (.string (strOfNums xs)):=by
 simp only[az];exact⟨aN,by rw[strOfNums_size];exact hl⟩
theorem aU7(m:Mod w0 N0 A env h w)(f:FD A env w ρ a){s t:TypeId}{x:Operand}(ho:o.op = .convert s t x)(C:P.underlying t=some .string)
  (e:(PT P s (bg ρ x)).run h=some (d,r)):bz P o a w0 N0 A env h w d:=by
 have i:=dh f x
 have D:∀{v:Value},(convert s t (a.eval x)).run P w = .ok v w->(execOp a.eval o).run P w = .ok (.value v) w:=by
  unfold execOp;simp_all
 unfold PT at e
 split at e
 next el hs=>
  split at e
  .rename_i F;split at e
   .rename_i u xs l;rw[l] at i;split at e
    next ys hc=>obtain⟨y,z⟩:=lq hc;subst y;subst z;cases cz e;exact bz.pure m (D (Ky i hs F C)) (GF (v:=a.eval x) i.1)
    .cases e
   .rename_i u xs l;rw[l] at i;split at e
    next ys hc=>obtain⟨y,z⟩:=lq hc;subst y;subst z;cases cz e;exact bz.pure m (D (Ky i.1 hs F C)) (GF (v:=a.eval x) i.1.1)
    .cases e
   next l=>rw[l] at i;cases cz e;refine bz.pure m (D ?_) (GF (v:=a.eval x) aw);rw[i];exact Ky (A:=A) ⟨aw,.inl ⟨⟨_,rfl⟩,rfl⟩⟩ hs F C
   .rename_i n sz l;rw[l] at i;simp only[Q.run] at e;split at e
    .rename_i p q hk;obtain⟨rfl,rfl⟩:=e;have G:∀{E:TypeId}{ys:ac}{fz:Bool},h n = .live (match fz with|true => .frz E (.int .u8) ys|false => .row E (.int .u8) ys)->bz P o a w0 N0 A env h w (.det [] (.str (strOfNums ys)) []):=by
      intro E ys fz hl;have H:=m.nm n;rw[hl] at H;rcases i with⟨j,a0,ev⟩|⟨b,len,E',c,j,_,ev⟩
      .rcases H with⟨k,len,g,_⟩|⟨_,E2,t2,B⟩
       .rw[j] at g;cases g
       .have:ys=[]:=by cases fz <;> (rcases B with B|B <;> cases B) <;> rfl
        subst this;refine bz.pure m (D ?_) (GF (v:=a.eval x) aw);rw[ev];exact Ky (A:=A) ⟨aw,.inl ⟨⟨_,rfl⟩,rfl⟩⟩ hs F C
      .rcases H with⟨k,len',g,B,_⟩|⟨g,_⟩
       .rw[j] at g;cases g;have I:qG A w b len E (.int .u8) ys:=by
         cases fz with
         | true=>exact B.2
         | false=>exact B
        refine bz.pure m (D ?_) (GF (v:=a.eval x) ?_)
        .rw[ev];exact aT6 I hs F C
        .obtain⟨vs,cap,_,_,h2,h3,h4,_⟩:=I;omega
       .rw[j] at g;cases g
     split at hk
     .rename_i E u xs hl;split at hk
      next ys hc=>obtain⟨y,z⟩:=lq hc;subst y;subst z;cases cz hk;exact G (fz:=false) hl
      .cases hk
     .rename_i E u xs hl;split at hk
      next ys hc=>obtain⟨y,z⟩:=lq hc;subst y;subst z;cases cz hk;exact G (fz:=true) hl
      .cases hk
     .cases hk
    .cases e
   .cases e
  .cases e
 .cases e
def Kq:SV->Option ByteArray
 | .str s=>some s
 | .cv (.string s)=>some s
 | _=>none
def Nl(op:BinOp)(x y:SV):Q Dl:=match Kq x,Kq y,op with
 | some a,some b,.eql=>c9 (.bool (decide (a=b)))
 | some a,some b,.neq=>c9 (.bool (!decide (a=b)))
 | _,_,_ => .fail
theorem Kt{x:SV}{v:Value}{s:ByteArray}(e:Kq x=some s)(a:az A env w x v):v = .string s:=by
 unfold Kq at e
 split at e
 .cases e;exact a.1
 .cases e;exact a
 .cases e
theorem aS7(m:Mod w0 N0 A env h w)(f:FD A env w ρ a){c:BinOp}{t yt:TypeId}{x y:Operand}(ho:o.op = .binOp c t x y yt)(ht:P.underlying t=some .string)
  (e:(Nl c (bg ρ x) (bg ρ y)).run h=some (d,r)):bz P o a w0 N0 A env h w d:=by
 have k:=dh f x
 have l:=dh f y
 have g:∀(v:Value),((do eqGuard c t x y (a.eval x) (a.eval y);binOp c t (a.eval x) (a.eval y):Sem Value).run P w) = .ok v w →
   (execOp a.eval o).run P w = .ok (.value v) w:=by
  intro v hv;unfold execOp;rw[ho];simp only[Sem.run_bind,Sem.run_pure] at hv ⊢;rw[hv];rfl
 have b:∀ u v:ByteArray,(u.toList == v.toList)=decide (u=v):=λu v=>by
  rw[yG];simp only[ByteArray.toList_eq,beq_iff_eq,pD];exact⟨λh=>by cases u;simp_all,λh=>by rw[h]⟩
 unfold Nl at e
 split at e
 next u v hx hy=>have i:=Kt hx k;have j:=Kt hy l;rw[i,j] at g;cases cz e;refine bz.pure m (g _ ?_) (v := .bool (decide (u=v))) (by simp only[az]);rw[eqGuard_at_string];simp[binOp,Op.stringOp,b]
 next u v hx hy=>have i:=Kt hx k;have j:=Kt hy l;rw[i,j] at g;cases cz e;refine bz.pure m (g _ ?_) (v := .bool (!decide (u=v))) (by simp only[az]);rw[eqGuard_at_string];simp[binOp,Op.stringOp,b]
 .cases e
def GS(P:Program)(t:TypeId)(x i:SV):Q Dl:=match i,P.underlying t with
 | .int _ i,some (.array len e)=>match f8 P e,decide (0<=i)&&decide (i<len)&&decide (2<=len) with
  | some (n+1),true=>match x with
   | .ptr m o=>c9 (.ptr m (o+i.toNat*(n+1)))
   | .eptr m s j o=>c9 (.eptr m s j (o+i.toNat*(n+1)))
   | .dptr u d o=>c9 (.dptr u d (o+i.toNat*(n+1)))
   | _ => .fail
  | _,_ => .fail
 | _,_ => .fail
theorem Rk(m:Mod w0 N0 A env h w)(f:FD A env w ρ a){t:TypeId}{x i:Operand}(φ:Operand->SV)(c:az A env w (φ x) (a.eval x))(ho:o.op = .indexAddr t x i)
  (e:(GS P t (φ x) (bg ρ i)).run h=some (d,r)):bz P o a w0 N0 A env h w d:=by
 have s:=dh f i
 unfold GS at e
 split at e
 next k iv len E hi hu=>
  rw[hi] at s;split at e
  .rename_i n hn hb;simp at hb;obtain⟨⟨h0,h1⟩,h2⟩:=hb;have g:∀{b off:Nat},a.eval x = .pointer (some ⟨b,off,none⟩)->(execOp a.eval o).run P w = .ok (.value (.pointer (some ⟨b,off+iv.toNat*(n+1),none⟩))) w:=by
    intro b off ev;unfold execOp;rw[ho];simp[Instr.indexAt,Instr.sureAddr,ev,s.1,asIntOf,run_underlying hu,lU hn,h0,h1,Addr.add_lit]
   split at e
   next q o' hx=>rw[hx] at c;obtain⟨b,l,p,ev⟩:=c;cases cz e;exact bz.pure m (g ev) (by simp only[az];exact⟨b,l,p,rfl⟩)
   next q sz j o' hx=>rw[hx] at c;obtain⟨b,l,p,hj,ev⟩:=c;cases cz e;exact bz.pure m (g ev) (by simp only[az];exact⟨b,l,p,hj,by rw[iz,iz]⟩)
   next u dd o' hx=>rw[hx] at c;obtain⟨b,off,ev,hA,hr⟩:=c;cases cz e;exact bz.pure m (g ev) (by simp only[az];exact⟨b,off,by rw[iz],hA,hr⟩)
   .cases e
  .cases e
 .cases e
def iU(i:Int):List (Int×Int)->Bool
 | []=>false
 | p::r=>bif decide (i=p.1) then true else iU i r
def nC(i:Int):List (Int×Int)->Int
 | []=>0
 | p::r=>bif decide (i=p.1) then p.2 else nC i r
def mH(i v:Int):List (Int×Int)->List (Int×Int)
 | []=>[(i,v)]
 | p::r=>bif decide (i=p.1) then (i,v)::r else p::mH i v r
def ut(i:Int):List (Int×Int)->Nat
 | []=>0
 | p::r=>bif decide (i=p.1) then 0 else ut i r+1
def Gw(P:Program)(t:TypeId):Option (TypeId×IntKind×TypeId×IntKind):=match P.underlying t with
 | some (.map k e)=>match P.underlying k,P.underlying e with
  | some (.int kk),some (.int vk)=>some (k,kk,e,vk)
  | _,_=>none
 | _=>none
def MI(P:Program)(e:TypeId)(vk:IntKind):Bool:=match P.info? e with
 | some j=>match j.zero with
  | some (.int k n)=>j8 k vk&&decide (n=0)
  | _=>false
 | none=>false
def MQ(P:Program)(t:TypeId)(nm:Nat):Q Dl:=match Gw P t with
 | some (_,kk,_,vk) => .ask nm fun
  | .un => .ret (.det [] (.mapp nm) [(nm,.live (.mp kk vk []))])
  | _ => .fail
 | none => .fail
def No(P:Program)(t:TypeId)(x i:SV):Q Dl:=match Gw P t,x,i with
 | some (_,kk,e,vk),.mapp n,.int k i => .ask n fun
  | .live (.mp kk' vk' l)=>match j8 kk kk',j8 vk vk',j8 k kk,MI P e vk with
   | true,true,true,true=>c9 (.tup [.int vk (nC i l),.bool (iU i l)])
   | _,_,_,_ => .fail
  | _ => .fail
 | _,_,_ => .fail
def Ld(P:Program)(t:TypeId)(x i y:SV):Q Dl:=match Gw P t,x,i,y with
 | some (_,kk,_,vk),.mapp n,.int k i,.int k' v => .ask n fun
  | .live (.mp kk' vk' l)=>match j8 kk kk',j8 vk vk',j8 k kk,j8 k' vk with
   | true,true,true,true => .ret (.det [] (.cv undef) [(n,.live (.mp kk vk (mH i v l)))])
   | _,_,_,_ => .fail
  | _ => .fail
 | _,_,_,_ => .fail
theorem Q9{t k e:TypeId}{a b:IntKind}(h:Gw P t=some (k,a,e,b)):P.underlying t=some (.map k e)/\P.underlying k=some (.int a)/\P.underlying e=some (.int b):=by
 unfold Gw at h
 grind
theorem bz5{e:TypeId}{a:IntKind}(h:MI P e a=true):(zeroValue e).run P w = .ok (.int a 0) w:=by
 unfold MI at h
 split at h
 next j hj=>
  split at h
  next k n b=>simp at h;cases kK h.1;rw[h.2] at b;simp[zeroValue,typeInfo,hj,b]
  .cases h
 .cases h
def uB(kk vk:IntKind)(l:List (Int×Int)):List (Value×Value):=l.map λp=>(Value.int kk p.1,Value.int vk p.2)
theorem Lf{a g:IntKind}{i:Int}:∀{d:List MapEntry}{l:List (Int×Int)}{n:Nat},d.map (λe=>(e.key,e.val))=uB a g l →
  Instr.findNow (.int a) (.int a i) d n=some (bif iU i l then some (n+ut i l,.int g (nC i l)) else none)
 | [],[],n,_=>rfl
 | e::d,p::l,n,h=>by
  simp only[uB,fV,List.cons.injEq,cC] at h;obtain⟨⟨h1,h2⟩,h3⟩:=h;have b:Instr.sameNow (.int a) (.int a i) e.key=some (i == p.1):=by rw[h1];simp[Instr.sameNow]
  by_cases c:i=p.1
  .have f:(i == p.1)=true:=by simp[c]
   rw[f] at b;simp only[Instr.findNow,b,h2,iU,nC,ut,fm c,cond_true,kP]
  .have f:(i == p.1)=false:=by simp[c]
   rw[f] at b;simp only[Instr.findNow,b,iU,nC,ut,fh c,sg];rw[Lf h3,show n+1+ut i l=n+(ut i l+1) by omega]
theorem UL{i:Int}:∀{l:List (Int×Int)},iU i l=false->nC i l=0
 | [],_=>rfl
 | p::l,h=>by
  simp only[iU] at h;cases a:decide (i=p.1) with
  | true=>rw[a] at h;cases h
  | false =>
   rw[a,sg] at h;simp only[nC,a,sg];exact UL h
theorem T1{b:IntKind}{i v:Int}(c:b.has v):∀{l:List (Int×Int)},(∀ p∈l,b.has p.2)→∀ p∈mH i v l,b.has p.2
 | [],_,p,a=>by simp only[mH,nz] at a;rw[a];exact c
 | q::l,h,p,a=>by
  simp only[mH] at a;cases hd:decide (i=q.1) with
  | true =>
   grind
  | false =>
   rw[hd,sg] at a;rcases eZ.1 a with rfl|a
   .simp_all
   .exact T1 c (λp a=>h p (fu _ a)) p a
theorem Sv{a:IntKind}{i:Int}(b:a.has 0):∀{l:List (Int×Int)},(∀ p∈l,a.has p.2)->a.has (nC i l)
 | [],_=>b
 | q::l,h=>by
  simp only[nC];cases decide (i=q.1) with
  | true=>exact h _ fp
  | false=>exact Sv b λp hp=>h p (fu _ hp)
theorem Su{b d:IntKind}{i v:Int}:∀{c:List MapEntry}{l:List (Int×Int)},c.map (λe=>(e.key,e.val))=uB b d l->iU i l=true →
  (c.modify (ut i l) λe=>{e with key := .int b i,val := .int d v}).map (λe=>(e.key,e.val))=uB b d (mH i v l)∧∃ e,c[ut i l]? = some e/\e.key = .int b i
 | [],[],_,a=>by cases a
 | e::c,p::l,h,a=>by
  simp only[uB,fV,List.cons.injEq,cC] at h;obtain⟨⟨h1,h2⟩,h3⟩:=h;simp only[iU] at a;cases f:decide (i=p.1) with
  | true =>
   simp only[mH,ut,f,cond_true,uB,fV];simp_all
  | false =>
   rw[f,sg] at a;obtain⟨k1,k2⟩:=Su h3 a;simp only[mH,ut,f,sg,uB,fV];refine⟨?_,by simpa using k2⟩;simp only[List.modify_succ_cons,fV,h1,h2,List.cons.injEq,true_and];exact k1
theorem WK{a b:IntKind}{i v:Int}:∀{l:List (Int×Int)},iU i l=false->uB a b (mH i v l)=uB a b l++[(Value.int a i,Value.int b v)]
 | [],_=>rfl
 | p::l,h=>by
  simp only[iU] at h;cases c:decide (i=p.1) with
  | true=>rw[c] at h;cases h
  | false =>
   rw[c,sg] at h;simp only[mH,c,sg,uB,fV,nO];exact fj _ (WK h)
theorem aO6(m:Mod w0 N0 A env h w){t:TypeId}{nm:Nat}(ho:o.op = .makeMap t none)
  (e:(MQ P t nm).run h=some (d,r)):bz P o a w0 N0 A env h w d:=by
 unfold MQ at e
 split at e
 .simp only[Q.run] at e;split at e
  .rename_i p q hk;obtain⟨rfl,rfl⟩:=e;split at hk
   .rename_i c;cases cz hk;have b:(execOp a.eval o).run P w = .ok (.value (.map (some w.heap.size))) (w.alloc (.map #[] 0)):=by
     unfold execOp;rw[ho];rfl
    refine⟨_,_,.inl b,fb.fresh m c (len:=(0,0)) rfl w.heap.size (eT _) (da.alloc w _ _) (λx=>⟨#[],0,heap_alloc_new w _,rfl,λp hp=>by cases hp⟩) ?_⟩;simp only[az];simp_all
   .cases hk
  .cases e
 .cases e
theorem P4(kk:IntKind)(i:Int):MapKept.IsKey (.int kk) (.int kk i):=by simp[MapKept.IsKey]
theorem bn8(m:Mod w0 N0 A env h w)(f:FD A env w ρ a){t:TypeId}{x i:Operand}(ho:o.op = .lookup t x i true)
  (e:(No P t (bg ρ x) (bg ρ i)).run h=some (d,r)):bz P o a w0 N0 A env h w d:=by
 have j:=dh f x
 have s:=dh f i
 unfold No at e
 split at e
 next kt kk et vk n k i hm hx hi=>
  rw[hx] at j;rw[hi] at s;obtain⟨b,len,he,ev⟩:=j;obtain⟨hu,c,hue⟩:=Q9 hm;simp only[Q.run] at e;split at e
  .rename_i p q hk;obtain⟨rfl,rfl⟩:=e;split at hk
   .rename_i kk' vk' l hl;split at hk
    .rename_i q1 q2 q3 q4;cases kK q1;cases kK q2;cases kK q3;cases cz hk;obtain⟨⟨es,clk,hb,g,hh⟩,_⟩:=m.live_blk hl he;have hf:=Lf (i:=i) (n:=0) g;have h0:vk.has 0:=by
      have:=IntKind.wrap_has vk 0;have e0:vk.wrap 0=0:=by cases vk <;> rfl
      rw[e0] at this;exact this
     refine bz.pure m (v := .tuple #[.int vk (nC i l),.bool (iU i l)]) ?_ ?_
     .unfold execOp;rw[ho];simp only[ev,s.1,Instr.lookup,Sem.run_bind,run_underlying hu,Result.andThen_ok,MapKept.run_getObj_map hb,Sem.run_pure,MapKept.run_checkKey c (P4 kk i),MapKept.run_findKey c hf];cases hq:iU i l with
      | true=>simp
      | false =>
       simp[bz5 q4,UL hq]
     .simp only[az];refine⟨_,rfl,?_⟩;exact⟨_,_,rfl,⟨rfl,Sv h0 hh⟩,_,_,rfl,rfl,rfl⟩
    .cases hk
   .cases hk
  .cases e
 .cases e
theorem da.setMap{w:World}{b:Nat}{es:Array MapEntry}{c:Nat}(hb:w.heap[b]? = some (.map es c))(es':Array MapEntry)(c':Nat) :
  da w {w with heap:=w.heap.setIfInBounds b (.map es' c')} λj=>j=b:=by
 refine⟨rfl,rfl,rfl,eT _,aw,λk hk hw=>?_,λk s hs=>?_⟩
 .exact EP (λe=>hw e.symm)
 .by_cases e:k=b
  .subst e;unfold World.shape? at hs;rw[hb] at hs;cases hs
  .unfold World.shape? at hs ⊢;have:({w with heap:=w.heap.setIfInBounds b (.map es' c')}:World).heap[k]? = w.heap[k]? := EP (λh=>e h.symm);rw[this];exact hs
theorem bu8(m:Mod w0 N0 A env h w)(f:FD A env w ρ a){t:TypeId}{x i y:Operand}(ho:o.op = .mapUpdate t x i y)
  (e:(Ld P t (bg ρ x) (bg ρ i) (bg ρ y)).run h=some (d,r)):bz P o a w0 N0 A env h w d:=by
 have dx:=dh f x
 have di:=dh f i
 have H:=dh f y
 unfold Ld at e
 split at e
 next kt j et C n k i k' v hm hx hi hy=>
  rw[hx] at dx;rw[hi] at di;rw[hy] at H;obtain⟨b,len,he,ev⟩:=dx;obtain⟨hu,g,hue⟩:=Q9 hm;simp only[Q.run] at e;split at e
  .rename_i p q hk;obtain⟨rfl,rfl⟩:=e;split at hk
   .rename_i kk' vk' l hl;split at hk
    .rename_i q1 q2 q3 q4;cases kK q1;cases kK q2;cases kK q3;cases kK q4;cases cz hk;obtain⟨⟨es,s,B,z,hh⟩,_⟩:=m.live_blk hl he;have I:=Lf (i:=i) (n:=0) z;have D:∀(c:Array MapEntry)(J:Nat),(execOp a.eval o).run P w = .ok .skip {w with heap:=w.heap.setIfInBounds b (.map c J)}->c.toList.map (λe=>(e.key,e.val))=uB j C (mH i v l) →
       bz P o a w0 N0 A env h w (.det [] (.cv undef) [(n,.live (.mp j C (mH i v l)))]):=by
      intro c J E F;have hlt:b<w.heap.size:=(Array.getElem?_eq_some_iff.1 B).1;have u:=lG.write (b' := .mp j C (mH i v l)) m hl rfl he (da.setMap B c J) ⟨c,J,by simp[hlt],F,T1 H.2 hh⟩ rfl;exact⟨undef,_,.inr ⟨E,rfl⟩,(),A,env,aN,m.upd u,m.ext u,by simp only[Dl.val,az]⟩
     cases K:iU i l with
     | true =>
      rw[K,cond_true] at I;obtain⟨k1,e0,k2,k3⟩:=Su z K;refine D (es.modify (ut i l) λe=>{e with key := .int j i,val := .int C v}) s ?_ (by rw[Array.toList_modify];exact k1);have G:es[ut i l]? = some e0:=by rw[← mr];exact k2
      unfold execOp;rw[ho];simp only[ev,di.1,H.1,Instr.mapUpdate,Sem.run_bind,run_underlying hu,Result.andThen_ok,MapKept.run_getObj_map B,Sem.run_pure,MapKept.run_checkKey g (P4 j i),MapKept.run_findKey g I,gI,G,Option.map_some,jo,k3,Instr.keyThatStays,Instr.sameBits,beq_self_eq_true,Bool.and_self,if_true,MapKept.run_setObj_map _ B]
     | false =>
      rw[K,sg] at I;refine D (es.push {key := .int j i,val := .int C v,born:=s}) (s+1) ?_ (by rw[Array.toList_push,lx,z,WK K];rfl);unfold execOp;rw[ho];simp only[ev,di.1,H.1,Instr.mapUpdate,Sem.run_bind,run_underlying hu,Result.andThen_ok,MapKept.run_getObj_map B,Sem.run_pure,MapKept.run_checkKey g (P4 j i),MapKept.run_findKey g I,MapKept.run_setObj_map _ B]
    .cases hk
   .cases hk
  .cases e
 .cases e
end
end Go.SX
namespace Go.SX
def bg9:SV->Bool
 | .own _ _=>true
 | _=>false
def LC(P:Program)(ty:TypeId)(x:SV):Q Dl:=match x with
 | .eptr n sz i off => .ask n fun
  | .live (.opn _ t _ j cs)=>match Nat.beq sz t.size,mJ P ty cs off with
   | true,some v => .ret (.det [i=j] v [])
   | _,_ => .fail
  | _=>yf P ty (.eptr n sz i off)
 | x=>yf P ty x
def Li(P:Program)(ty:TypeId)(x y:SV):Q Dl:=match x with
 | .eptr n sz i off => .ask n fun
  | .live (.opn E t xs j cs)=>match zV y,f8 P ty with
   | some vs,some k=>match Nat.beq k vs.length,Nat.beq sz t.size,Nat.ble (off+vs.length) t.size with
    | true,true,true => .ret (.det [i=j] (.cv undef) [(n,.live (.opn E t xs j (qQ cs off vs)))])
    | _,_,_ => .fail
   | _,_ => .fail
  | .live (.row E t xs)=>match zV y,f8 P ty with
   | some vs,some k=>match vs.any bg9 with
    | true=>match Nat.beq k vs.length,Nat.beq sz t.size,Nat.ble (off+vs.length) t.size with
     | true,true,true => .ret (.det [] (.cv undef) [(n,.live (.opn E t xs i (qQ (cQ t (mL t xs i)) off vs)))])
     | _,_,_ => .fail
    | false=>Bd P ty (.eptr n sz i off) y
   | _,_ => .fail
  | _=>Bd P ty (.eptr n sz i off) y
 | x=>Bd P ty x y
def CY:List SV->Q (List (Nat×Nm))
 | [] => .ret []
 | .own n _::r => .ask n fun
  | .live (.opn E t xs i cs)=>(kW t cs).bind λp=>match p.2.1,zT n p.2.2 with
   | [],true => .ret ((n,.live (.row E t (xs.set i p.1)))::p.2.2)
   | _,_ => .fail
  | _=>CY r
 | _::r=>CY r
def OK(P:Program)(ty:TypeId)(x:SV):Q Dl:=match x with
 | .ptr n off => .ask n fun
  | .live (.cells _ cs)=>match mJ P ty cs off with
   | some v=>(CY cs).bind λu=>.ret (.det [] v u)
   | none => .fail
  | _ => .fail
 | _ => .fail
section
variable {P:Program} {w0:World} {N0:fK} {A:Nat->Prop} {env:bj} {h:bX} {w:World} {o:Oper} {a:Act} {ρ:Nat->SV} {d:Dl} {r:List Nat}
theorem LN{i n k:Nat}(h:i<n):i*k+k<=n*k:=by
 have:(i+1)*k<=n*k:=mQ _ ab
 grind
theorem a55{k:Nat}{len:Nat×Nat}{E:TypeId}{t:CT}{xs:List t.D}(hr:qG A w k len E t xs){i:Nat}(hi:i<len.2) :
  kg A env w k len (.opn E t xs i (cQ t (mL t xs i))):=by
 obtain⟨vs,hl,hc,hd⟩:=xC (env:=env) t (mL t xs i) _ _ (Dv hr hi)
 obtain⟨us,cap,hh,h1,h2,h3,h4,h5⟩:=hr
 refine⟨us,cap,vs,hh,h1,h2,h3,h4,hi,hl,λq hq=>?_,hd,λj hj _=>h5 j hj⟩
 have:=hc q hq
 rw[hh.cell] at this
 exact this
theorem ah3{A':Nat->Prop}(hA:∀ b,A b->A' b){k:Nat}{len:Nat×Nat}{E:TypeId}{t:CT}{xs:List t.D}{i:Nat}{cs:List SV}(hb:kg A env w k len (.opn E t xs i cs)){d:t.D}
  (hd:∀ a:List Value,a.length=t.size->aO A env w cs a->Rd A' w t (λj=>a[j]?) 0 d):qG A' w k len E t (xs.set i d):=by
 obtain⟨us,cap,a,hh,h1,h2,h3,h4,h5,h6,h7,h8,h9⟩:=hb
 refine⟨us,cap,hh,h1,by simpa using h2,h3,h4,λj hj=>?_⟩
 have c:j<xs.length:=by simpa using hj
 rw[List.getElem_set]
 split
 next e=>subst e;have:=AC (hd a h6 h8) (len.1+i*t.size);rw[gI] at this;refine iL (λ_ h=>h) (λ_ _ _=>rfl) t _ _ _ _ (λq hq=>?_) this;simp_all
 next e=>exact iL hA (λ_ _ _=>rfl) t _ _ _ _ (λ_ _=>rfl) (h9 j c (λh=>e h.symm))
theorem a43(m:Mod w0 N0 A env h w){ty:TypeId}{x:Operand}(φ:Operand->SV)(dx:az A env w (φ x) (a.eval x))(ho:o.op = .load ty x)
  (e:(LC P ty (φ x)).run h=some (d,r)) (hp:bS d.pre):bz P o a w0 N0 A env h w d:=by
 have go:∀{b off:Nat}{v:Value},a.eval x = .pointer (some ⟨b,off,none⟩)->(loadVar ty ⟨b,off,none⟩).run P w = .ok v w->(execOp a.eval o).run P w = .ok (.value v) w:=by
  intro b off v ev hr;unfold execOp;rw[ho];simp only[ev,Instr.loadAt,Instr.sureAddr,Sem.run_bind,Sem.run_pure,Result.andThen_ok,hr]
 unfold LC at e
 split at e
 next n sz i off hx=>
  have dx':=dx;rw[hx] at dx;simp only[az] at dx;obtain⟨b,l,he,hil,ev⟩:=dx;simp only[Q.run] at e;split at e
  .rename_i p q hk;simp only[cE,cC] at e;obtain⟨rfl,rfl⟩:=e;split at hk
   .rename_i E t xs j cs hl;split at hk
    next v hsz e1=>have hsz:sz=t.size:=bK hsz;subst hsz;cases cz hk;have hij:i=j:=hp.1;subst hij;obtain⟨us,cap,es,hh,h1,h2,h3,h4,h5,h6,h7,h8,h9⟩:=(m.live_blk hl he).1;obtain⟨v,hr,hv⟩:=A7 (o:=l.1+i*t.size) (k:=b) e1 h8 (λj hj=>by rw[hh.cell];exact h7 j (by omega));rw[iz] at hr;exact bz.pure m (go ev hr) hv
    .cases hk
   .exact DL m φ dx' ho (by rw[hx];exact hk)
  .cases e
 .exact DL m φ dx ho e
theorem WS(m:Mod w0 N0 A env h w){b0:lC}{mm b:Nat}{l:Nat×Nat}(hl:h mm = .live b0)(hm0:b0.mut=true)(he:env mm = .blk b l){E:TypeId}{t:CT}{xs:List t.D}{i off:Nat}{cs vs:List SV}
  (hb:kg A env w b l (.opn E t xs i cs)) {ty:TypeId} {v:Value} (dv:aO A env w vs v.cells.toList) (h1:∀ u∈v.cells.toList,u.oneCell'=true) (hsz:f8 P ty=some v.cells.size) (hle:off+vs.length<=t.size) :
  ∃ w',(storeVar ty ⟨b,l.1+i*t.size+off,none⟩ v).run P w = .ok () w'∧fb w0 N0 A env h w (.det [] (.cv undef) [(mm,.live (.opn E t xs i (qQ cs off vs)))]) undef w':=by
 obtain⟨us,cap,es,hh,hus,hxl,hlc,hcm,hi,hes,hec,hed,hrd⟩:=hb
 have hlv:=jl dv
 have hsv:v.cells.size=vs.length:=by rw[← fQ,hlv]
 have hpos:l.1+i*t.size+t.size<=us.size:=by
  rw[hus];have:=LN (k:=t.size) (Nat.lt_of_lt_of_le hi hlc);omega
 have hfit:l.1+i*t.size+off+v.cells.size<=us.size:=by omega
 have hrun:=IZ hh hsz hfit h1
 refine⟨_,hrun,?_⟩
 have c:=da.setRow w b us (us.toList.take (l.1+i*t.size+off)++v.cells.toList++us.toList.drop (l.1+i*t.size+off+v.cells.size)).toArray E hh
  (by simp only[rT,cL,dG,ib,fQ];omega)
 have x:dH A env w A env (w.setRow b (us.toList.take (l.1+i*t.size+off)++v.cells.toList++us.toList.drop (l.1+i*t.size+off+v.cells.size)).toArray) :=
  m.xt c (λk hk=>⟨_,_,_,hl,hm0,hk▸he⟩) λ_ _=>rfl
 have cellAt:∀ p,(us.toList.take (l.1+i*t.size+off)++v.cells.toList++us.toList.drop (l.1+i*t.size+off+v.cells.size)).toArray[p]? =
   if p<l.1+i*t.size+off then us[p]? else if p<l.1+i*t.size+off+vs.length then v.cells[p-(l.1+i*t.size+off)]? else us[p]? := by
  intro p;rw[List.getElem?_toArray,je,List.getElem?_append];simp only[dG,fQ];rw[show min (l.1+i*t.size+off) us.size=l.1+i*t.size+off from by omega];split
  next hp=>rw[vw,aj hp,mr]
  .rename_i hp;rw[List.getElem?_append];simp only[fQ,hsv];by_cases h2:p<l.1+i*t.size+off+vs.length
   .rw[aj (by omega),aj h2,mr]
   .rw[ah (by omega),ah h2,wH,mr];congr 1;omega
 have hblk:kg A env (w.setRow b (us.toList.take (l.1+i*t.size+off)++v.cells.toList++us.toList.drop (l.1+i*t.size+off+v.cells.size)).toArray) b l (.opn E t xs i (qQ cs off vs)):=by
  refine⟨_,cap,es.take off++(v.cells.toList++es.drop (off+v.cells.toList.length)),hh.setRow (by simp only[rT,cL,dG,ib,fQ];omega),?_,hxl,hlc,hcm,hi,?_,λq hq=>?_,Bk x _ _ (D6 hed dv),λj hj hij=>?_⟩
  .simp only[rT,cL,dG,ib,fQ];omega
  .simp only[cL,dG,ib,fQ];omega
  .rw[cellAt];have hecq:=hec q hq;rw[List.getElem?_append];simp only[dG,hes];rw[show min off t.size=off from by omega];by_cases c1:q<off
   .rw[aj (by omega),aj c1,vw,aj c1,hecq]
   .rw[ah (by omega),ah c1,List.getElem?_append];simp only[fQ,hsv];by_cases c2:q<off+vs.length
    .rw[aj (by omega),aj (by omega),mr];congr 1;omega
    .rw[ah (by omega),ah (by omega),wH,hecq];congr 1;omega
  .refine iL (λ_ h=>h) x.keep t _ _ _ _ (λq hq=>?_) (hrd j hj hij);rw[cellAt];rcases Nat.lt_or_gt_of_ne hij with hlt|hlt
   .have:=LN (k:=t.size) hlt;rw[aj (by omega)]
   .have:=LN (k:=t.size) hlt;rw[ah (by omega),ah (by omega)]
 have u:=lG.write (b' := .opn E t xs i (qQ cs off vs)) m hl hm0 he c hblk rfl
 exact⟨(),A,env,trivial,m.upd u,m.ext u,by simp only[Dl.val,az]⟩
theorem aV6(m:Mod w0 N0 A env h w)(f:FD A env w ρ a){ty:TypeId}{x y:Operand}(G:o.op = .store ty x y)
  (e:(Li P ty (bg ρ x) (bg ρ y)).run h=some (d,r)) (hp:bS d.pre):bz P o a w0 N0 A env h w d:=by
 have M:=dh f x
 have N:=dh f y
 have O:∀{b off:Nat}{v:World},a.eval x = .pointer (some ⟨b,off,none⟩)->(storeVar ty ⟨b,off,none⟩ (a.eval y)).run P w = .ok () v->(execOp a.eval o).run P w = .ok .skip v:=by
  intro b off v ev D;unfold execOp;rw[G];simp only[ev,Instr.storeAt,Instr.sureAddr,Sem.run_bind,Sem.run_pure,Result.andThen_ok,D]
 unfold Li at e
 split at e
 next n sz i off hx=>
  rw[hx] at M;obtain⟨b,l,H,I,ev⟩:=M;rw[← iz] at ev;simp only[Q.run] at e;split at e
  .rename_i p q hk;obtain⟨rfl,rfl⟩:=e;split at hk
   .rename_i E t xs j cs hl;split at hk
    .rename_i vs k hc J;obtain⟨F,K⟩:=FW hc N;have z:=jl F;split at hk
     .rename_i B c s;have B:k=vs.length:=bK B;have c:sz=t.size:=bK c;have s:off+vs.length<=t.size:=lZ s;subst c;cases cz hk;have L:i=j:=hp.1;subst L;have C:f8 P ty=some (a.eval y).cells.size:=by rw[J,B,← z,fQ]
      obtain⟨v,D,g⟩:=WS m hl rfl H (m.live_blk hl H).1 F K C s;obtain⟨u,A',env',q1,q2,q3,q4⟩:=g;exact⟨undef,v,.inr ⟨O ev D,rfl⟩,u,A',env',q1,q2,q3,q4⟩
     .cases hk
    .cases hk
   .rename_i E t xs hl;split at hk
    .rename_i vs k hc J;split at hk
     .obtain⟨F,K⟩:=FW hc N;have z:=jl F;split at hk
      .rename_i B c s;have B:k=vs.length:=bK B;have c:sz=t.size:=bK c;have s:off+vs.length<=t.size:=lZ s;subst c;cases cz hk;have C:f8 P ty=some (a.eval y).cells.size:=by rw[J,B,← z,fQ]
       obtain⟨v,D,g⟩:=WS m hl rfl H (a55 (m.live_blk hl H).1 I) F K C s;exact⟨undef,v,.inr ⟨O ev D,rfl⟩,g⟩
      .cases hk
     .exact FN m f G (by rw[hx];exact hk)
    .cases hk
   .exact FN m f G (by rw[hx];exact hk)
  .cases e
 .exact FN m f G e
theorem It(m:Mod w0 N0 A env h w):∀(cs:List SV){u:List (Nat×Nm)}{r:List Nat},(CY cs).run h=some (u,r)→∃ A',Mod w0 N0 A' env (dA u h) w/\dH A env w A' env w
 | [],u,r,e=>by
  obtain⟨rfl,rfl⟩:=e;exact⟨A,m,dH.refl⟩
 | s::cs,u,r,e=>by
  unfold CY at e;split at e
  next hh=>cases hh
  .rename_i n sz rr hh;cases hh;simp only[Q.run] at e;split at e
   .rename_i p q hk;obtain⟨rfl,rfl⟩:=e;split at hk
    .rename_i E t xs i es hl;obtain⟨⟨j,rest,fz⟩,B,r2,C,o,rfl⟩:=Q.run_bind _ _ _ hk;simp only at o;split at o
     .rename_i hr c;obtain⟨rfl,rfl⟩:=o;have c:=DF c;have f:=m.nm n;rw[hl] at f;rcases f with⟨k,l,he,a,hA⟩|⟨_,E',t',a⟩
      .obtain⟨us,cap,ws,hh,hus,hxl,hlc,hcm,hi,hes,hec,v,hrd⟩:=id a;obtain⟨ok,_⟩:=u9 m t _ _ j [] fz B C v (A':=jd A env fz) (λb a=>.inl a) (λk d=>.inr d);obtain⟨x,x2⟩:=m.freeze ok;have y:dA fz h n = .live (.opn E t xs i es):=by rw[qH c];exact hl
       have g:qG (jd A env fz) w k l E t (xs.set i j):=ah3 (λb a=>.inl a) a (λvs hvs z =>
        (u9 m t _ _ j [] fz B C z (A':=jd A env fz) (λb a=>.inl a) (λk d=>.inr d)).2.2.2.1)
       have u:=lG.write (b' := .row E t (xs.set i j)) x y rfl he (da.refl w _) g rfl;exact⟨jd A env fz,x.upd u,x2.trans (x.ext u)⟩
      .simp_all
     .cases o
    .exact It m cs hk
   .cases e
  next hh=>cases hh;exact It m cs e
theorem bB1(m:Mod w0 N0 A env h w){ty:TypeId}{x:Operand}(φ:Operand->SV)(f:az A env w (φ x) (a.eval x))(ho:o.op = .load ty x)
  (e:(OK P ty (φ x)).run h=some (d,r)):bz P o a w0 N0 A env h w d:=by
 have go:∀{b off:Nat}{v:Value},a.eval x = .pointer (some ⟨b,off,none⟩)->(loadVar ty ⟨b,off,none⟩).run P w = .ok v w->(execOp a.eval o).run P w = .ok (.value v) w:=by
  intro b off v ev c;unfold execOp;rw[ho];simp only[ev,Instr.loadAt,Instr.sureAddr,Sem.run_bind,Sem.run_pure,Result.andThen_ok,c]
 unfold OK at e
 split at e
 next n off hx=>
  rw[hx] at f;obtain⟨b,l,he,ev⟩:=f;simp only[Q.run] at e;split at e
  .rename_i p q hk;obtain⟨rfl,rfl⟩:=e;split at hk
   .rename_i E cs hl;split at hk
    next s e1=>obtain⟨u,r1,r2,e2,e3,rfl⟩:=Q.run_bind _ _ _ hk;cases cz e3;obtain⟨⟨vs,hh,hd⟩,_⟩:=m.live_blk hl he;obtain⟨v,c,hv⟩:=A7 (o:=0) e1 hd (λj hj=>by rw[cell_of_row w b _ vs E (0,0) hh];simp);rw[gI] at c;obtain⟨A',m',g⟩:=It m cs e2;exact⟨v,w,.inl (go ev c),(),A',env,aN,m',g,DQ g _ _ hv⟩
    .cases hk
   .cases hk
  .cases e
 .cases e
end
end Go.SX
namespace Go.SX
def Dh(P:Program)(E:TypeId):Option (IntKind×Nat):=match P.underlying E with
 | some (.array n e)=>match P.underlying e,f8 P e,Nat.ble 16 n with
  | some (.int k),some 1,true=>some (k,n)
  | _,_,_=>none
 | _=>none
def I7(k:IntKind):List SV->Nat->Bool
 | [],0=>true
 | .int k' z::r,n+1=>j8 k k'&&decide (z=0)&&I7 k r n
 | _,_=>false
def ints:(t:CT)->t.D->ac
 | .int _,n=>[n]
 | .pair a b,d=>ints a d.1++ints b d.2
 | _,_=>[]
def GY(k:IntKind):CT->Bool
 | .int k'=>j8 k k'
 | .pair a b=>GY k a&&GY k b
 | _=>false
def LW(P:Program)(E:TypeId)(nm:Nat):Q Dl:=match Dh P E,zeroCells P E with
 | some (k,n),some cs=>match I7 k cs n with
  | true => .ask nm fun
   | .un => .ret (.det [] (.ptr nm 0) [(nm,.live (.ary E k n (replicate n 0)))])
   | _ => .fail
  | false => .fail
 | _,cs=>B3 E nm cs
def Nw(P:Program)(t:TypeId)(x i:SV):Q Dl:=match x,i,Dh P t with
 | .ptr m 0,.int _ iv,some (_,n) => .ask m fun
  | .live (.ary ..) => .ret (.det [0<=iv,iv<n] (.ptr m iv.toNat) [])
  | _=>GS P t x i
 | _,_,_=>GS P t x i
def Pv(P:Program)(ty:TypeId)(off:Nat)(k:IntKind)(n:Nat)(xs:ac):Q Dl:=match P.underlying ty with
 | some (.int _) => .ret (.det [off<n] (.int k (xs.getD off 0)) [])
 | some (.array _ _)=>match off,f8 P ty with
  | 0,some m=>match Nat.beq m n with
   | true=>c9 (.arr k n xs)
   | false => .fail
  | _,_ => .fail
 | _ => .fail
def OH(P:Program)(ty:TypeId)(x:SV):Q Dl:=match x with
 | .ptr n off => .ask n fun
  | .live (.ary E k n xs)=>Pv P ty off k n xs
  | _=>yf P ty (.ptr n off)
 | .dptr t d off=>match Dh P ty,off with
  | some (k,n),0=>match GY k t,f8 P ty with
   | true,some m=>match Nat.beq m t.size with
    | true=>c9 (.arr k t.size (ints t d))
    | false => .fail
   | _,_ => .fail
  | _,_=>yf P ty (.dptr t d off)
 | x=>yf P ty x
def Mz(P:Program)(ty:TypeId)(x y:SV):Q Dl:=match x with
 | .ptr n off => .ask n fun
  | .live (.ary E k l xs)=>match y,f8 P ty with
   | .int k' v,some 1=>match j8 k k' with
    | true => .ret (.det [off<l] (.cv undef) [(n,.live (.ary E k l (xs.set off v)))])
    | false => .fail
   | .arr k' l' ys,some m=>match j8 k k',off,Nat.beq l l',Nat.beq l m with
    | true,0,true,true => .ret (.det [] (.cv undef) [(n,.live (.ary E k l ys))])
    | _,_,_,_ => .fail
   | _,_ => .fail
  | _=>Bd P ty (.ptr n off) y
 | x=>Bd P ty x y
def Pg(P:Program)(t:TypeId)(x i:SV):Q Dl:=match x,i,P.underlying t with
 | .arr k n xs,.int _ i,some (.array len e)=>match P.underlying e,f8 P e,Nat.beq n len with
  | some (.int _),some 1,true => .ret (.det [0<=i,i<len] (.int k (pickI xs i.toNat)) [])
  | _,_,_ => .fail
 | x,i,_=>Ow P t x i
def NG(P:Program)(t:TypeId)(x:SV)(lo hi mx:Option SV):Q Dl:=match x,lo,hi,mx,Dh P t with
 | .ptr n 0,none,none,none,some (k,len) => .ask n fun
  | .live (.ary E k' l xs)=>match Nat.beq l len,Nat.ble len maxLen with
   | true,true => .ret (.det [] (.dsl (.int k') xs) [(n,.live (.frz E (.int k') xs))])
   | _,_ => .fail
  | _ => .fail
 | x,lo,hi,mx,_=>Nx P t x lo hi mx
section
variable {P:Program} {w0:World} {N0:fK} {A:Nat->Prop} {env:bj} {h:bX} {w:World} {o:Oper} {a:Act} {ρ:Nat->SV} {d:Dl} {r:List Nat}
theorem MZ{E:TypeId}{k:IntKind}{n:Nat}(e:Dh P E=some (k,n)):∃ u,P.underlying E=some (.array n u)/\P.underlying u=some (.int k)/\f8 P u=some 1:=by
 unfold Dh at e
 grind
theorem Tf{k:IntKind}:∀{cs:List SV}{n:Nat},I7 k cs n=true->cs=(replicate n (0:Int)).map (.int k)
 | [],0,_=>rfl
 | .int k' z::r,n+1,h=>by
  simp only[I7,fe,pD] at h;obtain⟨⟨a,rfl⟩,h2⟩:=h;have a:=kK a;subst a;rw[List.replicate_succ,fV,← Tf h2]
theorem IG{k:IntKind}:∀{t:CT}{d:t.D},GY k t=true->cQ t d=(ints t d).map (.int k)
 | .int k',d,h=>by simp only[cQ,ints,List.map];rw[kK h]
 | .pair a b,d,h=>by
  obtain⟨h1,h2⟩:=Bool.and_eq_true_iff.1 h;simp only[cQ,ints,lx,IG h1,IG h2]
theorem zx{k:IntKind}:∀{xs:ac}{vs:List Value},aO A env w (xs.map (.int k)) vs->vs=xs.map (Value.int k)∧∀ x∈xs,k.has x
 | [],vs,h=>⟨h,aw⟩
 | x::xs,vs,h=>by
  obtain⟨v,r,rfl,⟨rfl,h1⟩,h2⟩:=h;obtain⟨rfl,h3⟩:=zx h2;simp_all
theorem Mc{k:IntKind}:∀{xs:ac},(∀ x∈xs,k.has x)->aO A env w (xs.map (.int k)) (xs.map (Value.int k))
 | [],_=>rfl
 | x::xs,h=>⟨_,_,rfl,by simp only[az];exact⟨aN,h x (fp ..)⟩,Mc λy hy=>h y (fu _ hy)⟩
theorem Ee{n:Nat}{k:Nm->Q Dl}(e:(Q.ask n k).run h=some (d,r)):∃ q,(k (h n)).run h=some (d,q):=by
 simp only[Q.run] at e
 grind
theorem bH1(m:Mod w0 N0 A env h w){E:TypeId}{nm:Nat}(f:o.op = .alloc E)(e:(LW P E nm).run h=some (d,r)):bz P o a w0 N0 A env h w d:=by
 unfold LW at e
 split at e
 next k n cs ha hc=>
  split at e
  .rename_i hz;obtain⟨q,e⟩:=Ee e;split at e
   .rename_i b;cases cz e;obtain⟨i,z,hi,c,g,h2⟩:=Bf hc;rw[Tf hz] at g;refine⟨_,_,.inl ?_,fb.fresh m b (v := .pointer (some ⟨w.heap.size,0,none⟩)) (w':=w.alloc (.cells z.cells E)) rfl w.heap.size (eT _) (da.alloc w _ _) (λx=>⟨rfl,aw,_,heap_alloc_new w _,Bk x _ _ g⟩) ?_⟩
    .unfold execOp;rw[f];simp[Instr.alloc,zeroValue,typeInfo,hi,c,newVar,newRow]
    .exact⟨_,_,bj.set_same _ _ _,rfl⟩
   .cases e
  .cases e
 next cs hn=>exact ac3 m f e
theorem bC0(m:Mod w0 N0 A env h w)(f:FD A env w ρ a){t:TypeId}{x i:Operand}(φ:Operand->SV)(c:az A env w (φ x) (a.eval x))(g:o.op = .indexAddr t x i)
  (e:(Nw P t (φ x) (bg ρ i)).run h=some (d,r)) (j:bS d.pre):bz P o a w0 N0 A env h w d:=by
 have p:=dh f i
 unfold Nw at e
 split at e
 next m' k iv k' n hx hi ha=>
  obtain⟨q,e⟩:=Ee e;split at e
  .cases cz e;obtain⟨u,hu,_,hs⟩:=MZ ha;rw[hx] at c;rw[hi] at p;simp only[Dl.pre,bS,iC] at j;obtain⟨b,l,he,ev⟩:=c;refine bz.pure m ?_ (by simp only[az];exact⟨b,l,he,rfl⟩);unfold execOp;rw[g];simp[Instr.indexAt,Instr.sureAddr,ev,p.1,asIntOf,run_underlying hu,lU hs,j.1,j.2,Addr.add_lit]
  .exact Rk m f φ c g e
 .exact Rk m f φ c g e
theorem am9{k:IntKind}{xs:ac}{off:Nat}(h:off<xs.length):oX (xs.map (SV.int k)) off=some (.int k (xs.getD off 0)):=by
 rw[wc,List.getElem?_map,cM h,ct,cM h];rfl
theorem bG8{ty:TypeId}{off:Nat}{k:IntKind}{n:Nat}{xs:ac}(hn:xs.length=n)(e:(Pv P ty off k n xs).run h=some (d,r))(hp:bS d.pre):∃ s b,d = .det (d.pre) s []/\mJ P ty (xs.map (.int k)) off=some b∧∀ v,az A env w b v->az A env w s v:=by
 unfold Pv at e
 split at e
 next c=>cases cz e;simp only[Dl.pre,bS,iC] at hp;exact⟨_,_,rfl,by unfold mJ rD;rw[c];exact am9 ab,λv h=>h⟩
 next n u c=>
  split at e
  .rename_i mm hs;split at e
   case h_2=>cases e
   rename_i a;have a:=bK a;cases cz e;refine⟨_,.agg (xs.map (.int k)),rfl,?_,λv f=>?_⟩
   .unfold mJ rD;have:Nat.ble (0+mm) (xs.map (SV.int k)).length=true:=by rw[Nat.ble_eq];simp;omega
    grind
   .simp only[az] at f ⊢;obtain⟨vs,rfl,hd⟩:=f;obtain⟨h1,h2⟩:=zx hd;exact⟨by rw[← h1],hn,h2⟩
  .cases e
 .cases e
theorem bw2(m:Mod w0 N0 A env h w){ty:TypeId}{x:Operand}(φ:Operand->SV)(c:az A env w (φ x) (a.eval x))(i:o.op = .load ty x)
  (e:(OH P ty (φ x)).run h=some (d,r)) (hp:bS d.pre):bz P o a w0 N0 A env h w d:=by
 have go:∀{b off:Nat}{v:Value},a.eval x = .pointer (some ⟨b,off,none⟩)->(loadVar ty ⟨b,off,none⟩).run P w = .ok v w->(execOp a.eval o).run P w = .ok (.value v) w:=by
  intro b off v ev f;unfold execOp;rw[i];simp only[ev,Instr.loadAt,Instr.sureAddr,Sem.run_bind,Sem.run_pure,Result.andThen_ok,f]
 unfold OH at e
 split at e
 next n off hx=>
  obtain⟨q,e⟩:=Ee e;split at e
  next E k n xs hl=>rw[hx] at c;obtain⟨b,l,he,ev⟩:=c;obtain⟨⟨_,hn,vs,hh,g⟩,_⟩:=m.live_blk hl he;obtain⟨s,s',y,z,h3⟩:=bG8 hn e hp;obtain⟨v,f,hv⟩:=A7 (o:=0) z g (λj hj=>by rw[cell_of_row w b _ vs E (0,0) hh];simp);rw[gI] at f;rw[y];exact bz.pure m (go ev f) (h3 v hv)
  .exact DL m φ c i (by rw[hx];exact e)
 next t p off hx=>
  split at e
  .rename_i k n ha;split at e
   .rename_i C ht hs;split at e
    .rename_i B;cases cz e;obtain⟨u,hu,hk,hs1⟩:=MZ ha;have B:=bK B;have hlen:(cQ t p).length=C:=by rw[ED,B]
     have e2:(yf P ty (φ x)).run h=some (.det [] (.agg (cQ t p)) [],[]):=by
      rw[hx];unfold yf mJ rD;rw[hu];simp only[hs];have:Nat.ble (0+C) (cQ t p).length=true:=by rw[Nat.ble_eq];omega
      rw[this];simp;rw[fH ab];rfl
     obtain⟨v,w',f,x0,A',env',hR,m',x',g⟩:=DL m φ c i e2;refine⟨v,w',f,(),A',env',aN,m',x',?_⟩;obtain⟨vs,rfl,g⟩:=g;rw[IG ht] at g;obtain⟨y,z⟩:=zx g;exact⟨by rw[← y],by rw[← ED t p,IG ht];simp,z⟩
    .cases e
   .cases e
  .exact DL m φ c i (by rw[hx];exact e)
 .exact DL m φ c i e
theorem bh2{k:IntKind}{xs:ac}{off:Nat}{v:Int}(h:off<xs.length):qQ (xs.map (SV.int k)) off [.int k v]=(xs.set off v).map (.int k):=by
 rw[List.map_set,List.set_eq_take_append_cons_drop,aj (by simpa using h)]
 rfl
theorem Mod.re(m:Mod w0 N0 A env h w){n:Nat}{b b':lC}(d:h n = .live b)(hm:b.mut=true)(a:b'.mut=true)(hn:env n ≠ .nil)(hb:∀ k len,kg A env w k len b->kg A env w k len b'):Mod w0 N0 A env (h.set n (.live b')) w:=by
 have:=m.nm n
 rw[d] at this
 rcases this with⟨k,l,c,hk,hA⟩|⟨c,_⟩
 .exact m.upd (lG.write m d hm c (da.refl w _) (hb k l hk) a)
 .exact absurd c hn
theorem set_set(h:bX)(n:Nat)(x y:Nm):(h.set n x).set n y=h.set n y:=by
 funext q;unfold bX.set;split <;> rfl
theorem aF7(m:Mod w0 N0 A env h w)(f:FD A env w ρ a){ty:TypeId}{x y:Operand}(G:o.op = .store ty x y)
  (e:(Mz P ty (bg ρ x) (bg ρ y)).run h=some (d,r)) (hp:bS d.pre):bz P o a w0 N0 A env h w d:=by
 unfold Mz at e
 split at e
 next n off hx=>
  obtain⟨q,e⟩:=Ee e;split at e
  .rename_i E k len xs H;have M:=dh f x;have g:=dh f y;rw[hx] at M;obtain⟨b,l,I,ev⟩:=M;obtain⟨⟨p,J,j,hh,N⟩,_⟩:=m.live_blk H I;have K:=jl N;have s:∀(vs:List SV)(zs:ac),aO A env w vs (a.eval y).cells.toList->(∀ v∈(a.eval y).cells.toList,v.oneCell'=true)->f8 P ty=some vs.length->off+vs.length<=xs.length->qQ (xs.map (SV.int k)) off vs=zs.map (.int k)->zs.length=xs.length →
     bz P o a w0 N0 A env h w (.det d.pre (.cv undef) [(n,.live (.ary E k len zs))]):=by
    intro vs zs dv F t hle hset hz;have z:=jl dv;have L:f8 P ty=some (a.eval y).cells.size:=by rw[t,← z,fQ]
    have B:off+(a.eval y).cells.size<=j.size:=by rw[← fQ,z,← fQ,K];simpa using hle
    have C:=IZ (.of (q:=True) hh) L B F;have D:=D6 (off:=off) N dv;rw[hset] at D;have c:=da.setRow w b j (j.toList.take off++(a.eval y).cells.toList++j.toList.drop (off+(a.eval y).cells.size)).toArray E (.of (q:=True) hh)
     (by simp;omega)
    have x:dH A env w A env (w.setRow b (j.toList.take off++(a.eval y).cells.toList++j.toList.drop (off+(a.eval y).cells.size)).toArray) :=
     m.xt c (λk i=>⟨_,_,_,H,rfl,i▸I⟩) λ_ _=>rfl
    have u:=lG.write (b' := .ary E k len zs) m H rfl I c ⟨p,hz.trans J,_,setRow_heap w b j _ E _ hh,by
     have:=Bk x _ _ D;simpa[je] using this⟩ rfl
    refine⟨undef,_,.inr ⟨?_,rfl⟩,(),A,env,aN,m.upd u,m.ext u,by simp only[Dl.val,az]⟩;unfold execOp;rw[G];simp only[ev,Instr.storeAt,Instr.sureAddr,Sem.run_bind,Sem.run_pure,Result.andThen_ok,C]
   split at e
   .rename_i k' v hy t;split at e
    next i=>have i:=kK i;subst i;cases cz e;simp only[Dl.pre,bS,iC] at hp;rw[hy] at g;refine s [.int k v] (xs.set off v) (by rw[g.1];exact⟨_,_,rfl,⟨rfl,g.2⟩,rfl⟩) (by rw[g.1];simp[Value.cells,Value.oneCell']) t (by simp;omega) (bh2 ab) aw
    .cases e
   .rename_i k' len' ys mm hy t;split at e
    next i F O _=>have i:=kK i;have F:=bK F;have O:=bK O;subst i;cases cz e;rw[hy] at g;simp only[az] at g;refine s (ys.map (.int k)) ys (by rw[g.1];simpa[Value.cells] using Mc g.2.2) (by rw[g.1];simp[Value.cells,Value.oneCell']) (by rw[t];simp[g.2.1];omega) (by simp;omega) ?_ ab;unfold qQ;simp;omega
    .cases e
   .cases e
  .exact FN m f G (by rw[hx];exact e)
 .exact FN m f G e
theorem bu3(m:Mod w0 N0 A env h w)(f:FD A env w ρ a){t:TypeId}{x:Operand}{y g z:Option Operand}(G:o.op = .slice t x y g z)
  (e:(NG P t (bg ρ x) (y.map (bg ρ)) (g.map (bg ρ)) (z.map (bg ρ))).run h=some (d,r)) (hp:bS d.pre):bz P o a w0 N0 A env h w d:=by
 unfold NG at e
 split at e
 next n k len hx H I J ha=>
  obtain⟨q,e⟩:=Ee e;split at e
  .rename_i E k' l' xs hl;split at e
   case h_2=>cases e
   rename_i p c;cases cz e;have p:=bK p;have c:=lZ c;have H:y=none:=by cases y <;> simp_all
   have I:g=none:=by cases g <;> simp_all
   have J:z=none:=by cases z <;> simp_all
   subst H I J;have K:=dh f x;rw[hx] at K;obtain⟨b,l,B,ev⟩:=K;obtain⟨⟨hlen,s,us,hh,C⟩,_⟩:=m.live_blk hl B;rw[p] at s;obtain⟨e1,e2⟩:=zx C;obtain⟨u,hu,_,hs⟩:=MZ ha;have m1:=m.re (b' := .row E (.int k') xs) hl rfl rfl (by rw[B];simp) λj ln hb=>by
    obtain⟨D,_,vs,hv,C⟩:=hb;subst D;obtain⟨L,e4⟩:=zx C;refine⟨vs,xs.length,.of hv,by rw[← fQ,L];simp[CT.size],ab,by simp;omega,ab,λi g=>?_⟩;simp only[Rd,CT.size];refine⟨?_,e4 _ (List.getElem_mem g)⟩;rw[gI,Nat.mul_one,← mr,L,List.getElem?_map,cM g];rfl
   have fz:pV (h.set n (.live (.row E (.int k') xs))) [(n,.live (.frz E (.int k') xs))]:=λq bb hq=>by
    simp_all
   obtain⟨M,x2⟩:=m1.freeze fz;have v:dA [(n,.live (.frz E (.int k') xs))] (h.set n (.live (.row E (.int k') xs)))=h.set n (.live (.frz E (.int k') xs)):=by
    simp only[dA,set_set]
   rw[v] at M;refine⟨.slice (some ⟨b,0,none⟩) len len,w,.inl ?_,(),_,env,aN,M,x2,?_⟩
   .unfold execOp;rw[G];have F:(Instr.sliceBounds false len len none none none).run P w = .ok (0,len,len) w:=by
     simp[Instr.sliceBounds,Sem.run_pure]
    simp only[Instr.sliceAt,Sem.run_bind,run_underlying hu,Result.andThen_ok,ev,Instr.sureAddr,Sem.run_pure,Option.map,F,lU hs];by_cases q:len=0
    .simp[q]
    .simp[q,Addr.add_lit]
   .simp only[Dl.val,az];refine⟨ab,.inr ⟨b,0,len,by rw[s],ab,c,.inr ⟨n,_,_,nz.2 rfl,B⟩,λi g=>?_⟩⟩;simp only[Rd,CT.size];refine⟨?_,e2 _ (List.getElem_mem g)⟩;rw[cell_of_row w b _ us E (0,0) hh,gI,Nat.mul_one,← mr,e1,List.getElem?_map,cM g];rfl
  .cases e
 .exact af6 m f G e hp
theorem Hc.freeze{w:World}{k:Nat}{vs:Array Value}{E:TypeId}(h:Hc True w k vs E):Hc True (w.freeze ⟨k,vs.size,none⟩ 1) k vs E:=by
 obtain⟨⟨a,b⟩,h,hq⟩:=h
 refine⟨if a == b then (vs.size,vs.size+1) else (min a vs.size,max b (vs.size+1)),?_,.inr ⟨aN,?_⟩⟩
 .unfold World.freeze;grind
 .grind
def Ps(P:Program)(s t e:TypeId)(v:SV):Q Dl:=match v with
 | .own n sz => .ask n λb=>match b with
  | .live (.row E (.int .u8) xs)=>match Nat.beq s t,P.underlying e with
   | true,some (.int .u8) => .ret (.det [1<=xs.length] (.own n sz) [(n,.live (.row E (.int .u8) xs))])
   | _,_ => .fail
  | _ => .fail
 | _ => .fail
theorem by2(m:Mod w0 N0 A env h w)(f:FD A env w ρ a){s t D:TypeId}{x:Operand}(ho:o.op = .convert s t x)(ht:P.underlying t=some (.slice D))
  (e:(Ps P s t D (bg ρ x)).run h=some (d,r)) (F:bS d.pre):bz P o a w0 N0 A env h w d:=by
 have G:=dh f x
 unfold Ps at e
 split at e
 case h_2=>cases e
 rename_i n sz hx
 rw[hx] at G
 simp only[Q.run] at e
 split at e
 case h_2=>cases e
 rename_i p q y
 obtain⟨rfl,rfl⟩:=e
 split at y
 case h_2=>cases y
 rename_i E xs C
 split at y
 case h_2=>cases y
 rename_i z he
 cases cz y
 have z:=bK z
 subst z
 simp only[Dl.pre,bS,iC] at F
 rcases G with⟨hnil,_⟩|⟨k,l,E2,c,v,hsh,ev⟩
 .have:=m.nm n;rw[C] at this;rcases this with⟨k',l',he',_⟩|⟨_,E3,t3,v⟩
  .simp_all
  .rcases v with v|v <;> cases v;simp at F
 obtain⟨vs,cap,hh,h1,h2,h3,h4,h5⟩:=(m.live_blk C v).1
 have hh:Hc True w k vs E:=let ⟨f,g,q⟩:=hh;⟨f,g,q.imp id λq=>⟨aN,q.2⟩⟩
 have H:=hh.freeze
 have b:∀ j,(w.freeze ⟨k,vs.size,none⟩ 1).shape? j=w.shape? j:=λj=>by
  by_cases I:j=k
  .subst I;rw[H.shape,hh.shape]
  .unfold World.shape? World.freeze;grind
 have c:da w (w.freeze ⟨k,vs.size,none⟩ 1) λj=>j=k:=by
  refine⟨rfl,rfl,rfl,eT _,by unfold World.freeze;simp,λj _ I=>?_,λj s hs=>by rw[b];exact hs⟩;unfold World.freeze;grind
 have xx:dH A env w A env (w.freeze ⟨k,vs.size,none⟩ 1):=m.xt c (λk y=>⟨_,_,_,C,rfl,y▸v⟩) λ_ _=>rfl
 have u:=lG.write (b' := .row E (.int .u8) xs) m C rfl v c ⟨vs,cap,let ⟨f,g,q⟩:=H;⟨f,g,q.imp id λq=>⟨rfl,q.2⟩⟩,h1,h2,h3,h4,λi hi=>iL (λ_ h=>h) xx.keep _ _ _ _ _ (λ_ _=>rfl) (h5 i hi)⟩ rfl
 refine⟨a.eval x,_,.inl ?_,(),A,env,aN,m.upd u,m.ext u,?_⟩
 .unfold execOp;rw[ho];have B:w.shape? k=some (E,vs.size):=hh.shape;simp[convert,ev,run_underlying ht,run_underlying he,markStringish,B]
 .simp only[Dl.val,az,b];grind
end
end Go.SX
namespace Go.SX
section
variable {P:Program} {w0:World} {N0:fK} {A:Nat->Prop} {env:bj} {h:bX} {w:World} {o:Oper} {a:Act} {ρ:Nat->SV} {d:Dl} {r:List Nat}
theorem EX{k:IntKind}{a:Nat}(b:1<=a):∀(cs:List SV)(vs:List Value)(s:Nat)(l:ac),wW k a cs s=some l->aO A env w cs vs →
  ∀ j,s+j*a<vs.length->vs[s+j*a]? = some (.int k (pickI l j))/\k.has (pickI l j)
 | c::cs,vs,0,l,e,f,j,d=>by
  obtain⟨v,r,rfl,hv,g⟩:=f;cases c with
  | int k' n =>
   simp only[wW] at e;split at e
   .rename_i l' hk hl;cases e;cases kK hk;cases j with
    | zero=>simp[pickI,hv.1,hv.2]
    | succ j =>
     have:=EX b cs r (a-1) l' hl g j (by simp at d;rw[gY] at d;omega);have e1:0+(j+1)*a=(a-1+j*a)+1:=by rw[gY];omega
     rw[e1,List.getElem?_cons_succ];simpa[pickI] using this
   .cases e
  | _=>simp[wW] at e
 | c::cs,vs,s+1,l,e,f,j,d=>by
  obtain⟨v,r,rfl,hv,g⟩:=f;have e':wW k a cs s=some l:=by cases c <;> simpa[wW] using e
  have:=EX b cs r s l e' g j (by simp at d;omega);grind
theorem bF0(m:Mod w0 N0 A env h w)(f:FD A env w ρ a){t:TypeId}{x i:Operand}(ho:o.op = .index t x i)
  (e:(Ow P t (bg ρ x) (bg ρ i)).run h=some (d,r)) (hp:bS d.pre):bz P o a w0 N0 A env h w d:=by
 have u:=dh f x
 have y:=dh f i
 unfold Ow at e
 split at e
 next cs ki b len E hx hi hu=>
  rw[hx] at u;rw[hi] at y;obtain⟨vs,ev,j⟩:=u;have hvl:=jl j;have c:∀{v:Value}{n:Nat},f8 P E=some n->0<=b->b<len->(part E vs (b.toNat*n)).run P w = .ok v w->(execOp a.eval o).run P w = .ok (.value v) w:=by
   intro v n hn h0 h1 hr;unfold execOp;rw[ho];simp only[Instr.index,y.1,ev,asIntOf,Sem.run_bind,Sem.run_pure,Result.andThen_ok,run_underlying hu,Sem.run_ite,aj (And.intro h0 h1),lU hn,hr]
  split at e
  .rename_i k hE hsz;split at e
   .rename_i l hc g;have g:cs.length=len:=bK g;cases cz e;simp only[Dl.pre,bS,iC] at hp;obtain⟨z,c2⟩:=EX (eT 1) cs vs.toList 0 l hc j b.toNat ab;refine bz.pure m (c hsz hp.1 hp.2 (v := .int k (pickI l b.toNat)) ?_) (by simp only[az];exact⟨aN,c2⟩);have p:rD P E=some false:=by unfold rD;rw[hE]
    have q:vs[b.toNat]? = some (.int k (pickI l b.toNat)):=by rw[← mr];simpa using z
    unfold part;simp[Sem.run_bind,Cp p w,q]
   .cases e
  .rename_i E2 hE hsz;split at e
   .rename_i k hE2 hsz2;split at e
    .rename_i B l2 hc1 hc2 g;have g:cs.length=len*2:=bK g;cases cz e;simp only[Dl.pre,bS,iC] at hp;obtain⟨z,c2⟩:=EX bo cs vs.toList 0 B hc1 j b.toNat ab;obtain⟨c3,c4⟩:=EX bo cs vs.toList 1 l2 hc2 j b.toNat ab;have p:rD P E=some true:=by unfold rD;rw[hE]
     refine bz.pure m (c hsz hp.1 hp.2 (v := .agg (vs.extract (b.toNat*2) (b.toNat*2+2))) ?_) ?_
     .unfold part;simp[Sem.run_bind,Cp p w,lU hsz w]
     .simp only[az,aO];have s:(vs.extract (b.toNat*2) (b.toNat*2+2)).toList=[.int k (pickI B b.toNat),.int k (pickI l2 b.toNat)]:=by
       apply List.ext_getElem?;grind
      exact⟨_,rfl,_,_,s,⟨rfl,c2⟩,_,_,rfl,⟨rfl,c4⟩,rfl⟩
    .cases e
   .cases e
  .cases e
 .cases e
theorem bu9(m:Mod w0 N0 A env h w)(f:FD A env w ρ a){g:FuncId}{b:Array Operand}(ho:o.op = .makeFunc (.func g) #[] b){pre:List Prop} :
  bz P o a w0 N0 A env h w (.det pre (.fn g (b.toList.map (bg ρ))) []):=by
 refine bz.pure m (v := .func (.func g) #[] (b.map a.eval)) ?_ ?_
 .unfold execOp;rw[ho];simp[Instr.makeFunc]
 .simp only[az];refine⟨_,rfl,?_⟩;rw[Array.toList_map];generalize b.toList=l
  induction l with
  | nil=>simp[aO]
  | cons p l ih=>simp;exact⟨_,_,rfl,dh f p,ih⟩
theorem TV(m:Mod w0 N0 A env h w)(f:FD A env w ρ a){x:Operand}(b:o.op = .move x∨o.op = .assign x){pre:List Prop} :
  bz P o a w0 N0 A env h w (.det pre (bg ρ x) []):=by
 refine bz.pure m ?_ (dh f x)
 unfold execOp
 rcases b with b|b <;> rw[b] <;> rfl
theorem bj4(m:Mod w0 N0 A env h w)(f:FD A env w ρ a){t:TypeId}{x i:Operand}(ho:o.op = .index t x i)
  (e:(Pg P t (bg ρ x) (bg ρ i)).run h=some (d,r)) (hp:bS d.pre):bz P o a w0 N0 A env h w d:=by
 unfold Pg at e
 split at e
 next k n xs ki iv len E hx hi hu=>
  split at e
  .rename_i k2 hE hs hn;have hn:=bK hn;cases cz e;have dx:=dh f x;have di:=dh f i;rw[hx] at dx;rw[hi] at di;simp only[az] at dx di;simp only[Dl.pre,bS,iC] at hp;obtain⟨ev,hxl,hk⟩:=dx;have hl:iv.toNat<xs.length:=ab;have hv:(xs.map (Value.int k))[iv.toNat]? = some (.int k (pickI xs iv.toNat)):=by
    rw[List.getElem?_map,cM hl];simp[pickI,hl]
   refine bz.pure m (v := .int k (pickI xs iv.toNat)) ?_ (by simp only[az];exact⟨aN,by unfold pickI;rw[ct,cM hl];exact hk _ (List.getElem_mem hl)⟩);have ha:rD P E=some false:=by unfold rD;rw[hE]
   unfold execOp;rw[ho];simp only[Instr.index,di.1,ev,asIntOf,Sem.run_bind,Sem.run_pure,Result.andThen_ok,run_underlying hu,Sem.run_ite,aj (And.intro hp.1 hp.2),lU hs];unfold part;simp[Sem.run_bind,Cp ha w,hv]
  .cases e
 .exact bF0 m f ho e hp
end
abbrev Spec:=Nat->List SV->Q Dl
def m9(P:Program)(G:sN)(f:FuncId)(s:Spec):Prop :=
 ∀(base:Nat)(svs:List SV)(h:bX)(d:Dl)(r:List Nat),(s base svs).run h=some (d,r)->bS d.pre →
  ∀(w0:World)(N0:fK)(A:Nat->Prop)(env:bj)(w:World)(vs:List Value),N0.g=G->Mod w0 N0 A env h w->aO A env w svs vs →
   Calls P f vs.toArray w (λe w'=>∃ v,e = .returned v/\fb w0 N0 A env h w d v w')
def Ha(P:Program)(f:FuncId):Bool:=match P.funcs[f]? with
 | some fn => !(fn.name == "runtime.NumGoroutine") && fn.body.isSome
 | none=>false
structure fx where
 fn:FuncId->Option Spec
 gl:sN
 yl:Option Spec
def jF(P:Program)(sp:fx):Prop:=∀ f s,sp.fn f=some s->m9 P sp.gl f s
def BI(P:Program)(G:sN)(r:Loop)(ts:List Nat)(s:Spec):Prop :=
 ∀(base:Nat)(svs:List SV)(h:bX)(d:Dl)(q:List Nat),(s base svs).run h=some (d,q)->bS d.pre →
  ∀(w0:World)(N0:fK)(A:Nat->Prop)(env:bj)(w:World)(vs:List Value)(l:Nat),N0.g=G->Mod w0 N0 A env h w->w.heap[l]? = some (.loop r)->aO A env w svs (vs++ts.map λt=>r.tmps.getD t undef) →
   vs.length=r.params.size/\RoundIn Fence.wide 0 P l r.fn ((r.params.zip vs.toArray).foldl (λtmps (t,a)=>tmps.setIfInBounds t a) r.tmps) r.assign r.body w (λe w'=>∃ v,e = .returned v/\fb w0 N0 A env h w d v w')
def Dl.addPre(p:Prop):Dl->Dl
 | .det l v u => .det (p::l) v u
 | .nd X qn l R inh v u => .nd X qn (p::l) R (λh=>inh h.2) v u
theorem bw9{p:Prop}{d:Dl}(h:bS (d.addPre p).pre):p/\bS d.pre:=by cases d <;> exact h
theorem Tx{P:Program}{p:Prop}{w0:World}{N0:fK}{A:Nat->Prop}{env:bj}{h:bX}{w:World}{d:Dl}{v:Value}{w':World}(g:fb w0 N0 A env h w d v w'):fb w0 N0 A env h w (d.addPre p) v w':=by cases d <;> exact g
def Px(P:Program)(sp:fx)(base:Nat)(f:SV)(args:List SV):Q Dl:=match f with
 | .fn g caps=>match Ha P g,sp.fn g with
  | true,some s=>s base (args++caps)
  | _,_ => .fail
 | .yld r ts caps=>match sp.yl with
  | some s=>(s base (args++caps)).bind λd=>.ret (d.addPre (BI P sp.gl r ts s))
  | none => .fail
 | _ => .fail
def ad2(dst:Option Tmp):Nat:=match dst with
 | some d=>(d+1)*16
 | none=>0
def Nh(P:Program)(dst:Option Tmp)(b:Builtin)(args:List SV)(ts:List TypeId):Q Dl:=match b,args,ts with
 | .len,[x],[t]=>qK P t x
 | .append,[s,x],[t,t']=>match Gg P t t',dst with
  | true,some d=>Ek P t ((d+1)*16) s x
  | false,some d=>P1 P t t' ((d+1)*16) s x
  | _,none => .fail
 | .cap,[x],[t]=>ym P t x
 | .min,[x,y],_=>OZ x y
 | .max,[x,y],_=>NW x y
 | _,_,_ => .fail
def aE2(sp:fx):Option Tmp->Option Nat
 | some d=>match sp.fn (4000000000+d) with
  | some _=>some d
  | none=>none
 | none=>none
def bE6(sp:fx):Option Tmp->Bool
 | some d=>match sp.fn (4100000000+d) with
  | some _=>true
  | none=>false
 | none=>false
def QV(sp:fx):Bool:=match sp.fn 4200000000 with
 | some _=>true
 | none=>false
def be3(sp:fx):Option Tmp->Bool
 | some d=>match sp.fn (4300000000+d) with
  | some _=>true
  | none=>false
 | none=>false
def aj4(sp:fx):Option Tmp->Option Nat
 | some d=>match sp.fn (4400000000+d) with
  | some s=>match s 0 [] with
   | .ask n _=>some n
   | _=>none
  | none=>none
 | none=>none
def a60(n:Nat)(x:SV):Q Dl:=(CY [.own n 0]).bind λu=>.ret (.det [] x u)
def aQ9(sp:fx):Option Tmp->Bool
 | some d=>match sp.fn (4500000000+d) with
  | some _=>true
  | none=>false
 | none=>false
def PV(x:SV):Q Dl:=match x with
 | .own n sz => .ask n fun
  | .live (.row E u xs)=>match Nat.beq sz u.size with
   | true => .ret (.det [] (.dsl u xs) [(n,.live (.frz E u xs))])
   | false => .fail
  | _ => .fail
 | .dsl t xs=>c9 (.dsl t xs)
 | _ => .fail
def pW(sp:fx)(ρ:Nat->SV)(x:Operand):SV:=match x with
 | .global g=>match sp.gl g with
  | some y => .dptr y.1 y.2 0
  | none => .gl g
 | x=>bg ρ x
def K2(P:Program)(t:TypeId)(x i:SV):Q Dl:=match x,i,P.underlying t with
 | .agg cs,.int _ i,some (.array len e)=>match f8 P e,decide (0<=i)&&decide (i<len) with
  | some n,true=>yP (mJ P e cs (i.toNat*n))
  | _,_ => .fail
 | _,_,_ => .fail
def BG(P:Program)(sp:fx)(o:Oper)(ρ:Nat->SV):Q Dl :=
 match o.op with
 | .move x=>match aQ9 sp o.dst with
  | true=>PV (bg ρ x)
  | false=>c9 (bg ρ x)
 | .assign x=>match aj4 sp o.dst with
  | some n=>a60 n (bg ρ x)
  | none=>c9 (bg ρ x)
 | .pick c x y=>N5 (bg ρ c) (bg ρ x) (bg ρ y)
 | .alloc E=>match o.dst with
  | some d=>LW P E ((d+1)*16)
  | none => .fail
 | .box E x=>match o.dst with
  | some d=>B3 E ((d+1)*16) (zV (bg ρ x))
  | none => .fail
 | .build t ps=>P7 P t (ps.toList.map λp=>(p.1,bg ρ p.2))
 | .buildSlice t n ps=>match o.dst with
  | some d=>Ll P t n ((d+1)*16) (ps.toList.map λp=>(p.1,bg ρ p.2))
  | none => .fail
 | .load t x=>match QV sp,be3 sp o.dst with
  | true,true=>OK P t (pW sp ρ x)
  | true,false=>LC P t (pW sp ρ x)
  | false,_=>OH P t (pW sp ρ x)
 | .store t x y=>match QV sp with
  | true=>Li P t (bg ρ x) (bg ρ y)
  | false=>Mz P t (bg ρ x) (bg ρ y)
 | .nilCheck x=>NR (bg ρ x)
 | .binOp op t x y _=>match P.underlying t with
  | some .string=>Nl op (bg ρ x) (bg ρ y)
  | _=>Pu P op t (bg ρ x) (bg ρ y)
 | .unOp op _ x=>Ok op (bg ρ x)
 | .convert s t x=>match P.underlying t with
  | some .string=>PT P s (bg ρ x)
  | some (.slice e)=>Ps P s t e (bg ρ x)
  | _=>L4 P s t (bg ρ x)
 | .makeFunc (.func g) fs caps=>match fs.isEmpty with
  | true=>c9 (.fn g (caps.toList.map (bg ρ)))
  | false => .fail
 | .makeSlice t l c=>match o.dst with
  | some d=>Ou P t ((d+1)*16) (bg ρ l) (bg ρ c)
  | none => .fail
 | .slice t x lo hi mx=>match aE2 sp o.dst with
  | some d=>NT P t ((d+1)*16) (bg ρ x) (lo.map (bg ρ)) (hi.map (bg ρ)) (mx.map (bg ρ))
  | none=>NG P t (bg ρ x) (lo.map (bg ρ)) (hi.map (bg ρ)) (mx.map (bg ρ))
 | .fieldAddr s x f=>Nk P s f (bg ρ x)
 | .field s x f=>Pz P s f (bg ρ x)
 | .indexAddr t x i=>match P.underlying t with
  | some (.array _ _)=>Nw P t (pW sp ρ x) (bg ρ i)
  | _=>Pt P t (bg ρ x) (bg ρ i)
 | .index t x i=>match bE6 sp o.dst with
  | true=>K2 P t (bg ρ x) (bg ρ i)
  | false=>Pg P t (bg ρ x) (bg ρ i)
 | .extract x i=>Ot i (bg ρ x)
 | .makeMap t none=>match o.dst with
  | some d=>MQ P t ((d+1)*16)
  | none => .fail
 | .lookup t x i true=>No P t (bg ρ x) (bg ρ i)
 | .mapUpdate t x i y=>Ld P t (bg ρ x) (bg ρ i) (bg ρ y)
 | .call {callee := .builtin b,args,argTypes}=>Nh P o.dst b (args.toList.map (bg ρ)) argTypes.toList
 | .call {callee := .value f,args,..}=>Px P sp (ad2 o.dst) (bg ρ f) (args.toList.map (bg ρ))
 | _ => .fail
section
variable {P:Program} {sp:fx} {w0:World} {N0:fK} {A:Nat->Prop} {env:bj} {h:bX} {w:World} {o:Oper} {a:Act} {ρ:Nat->SV} {d:Dl} {r:List Nat}
abbrev wf(ro:Option Nat):Fence:={Fence.wide with round:=ro}
def Gh(P:Program)(o:Oper)(a:Act)(w0:World)(N0:fK)(A:Nat->Prop)(env:bj)(h:bX)(w:World)(d:Dl):Prop :=
 ∀(ro:Option Nat)(K:Act->World->Prop)(Q':Exit->Act->World->Prop),(∀ v w',fb w0 N0 A env h w d v w'→K (a.put o.dst v) w')->o.wpIn (wf ro) 0 P a w K Q'
theorem ZT{v:Value}{w':World}(h:(execOp a.eval o).run P w = .ok (.value v) w'∨((execOp a.eval o).run P w = .ok .skip w'∧v=undef))(c:Call):o.op ≠ .defer c:=by
 intro e
 unfold execOp at h
 rw[e] at h
 simp only[Sem.run_bind] at h
 cases hr:(resolve a.eval c o.type).run P w <;> simp[hr,Result.andThen,Sem.run_pure] at h
theorem bz.steps(y:bz P o a w0 N0 A env h w d):Gh P o a w0 N0 A env h w d:=by
 intro ro K Q' hK
 obtain⟨v,w',hr,g⟩:=y
 refine⟨λ_ _=>trivial,?_⟩
 rw[Oper.semAt_eq _ _ _ (ZT hr)]
 rcases hr with hr|⟨hr,rfl⟩ <;> rw[hr]
 .exact hK _ _ g
 .exact hK _ _ g
theorem U0(f:FD A env w ρ a)(xs:Array Operand):aO A env w (xs.toList.map (bg ρ)) (xs.map a.eval).toList:=by
 rw[Array.toList_map]
 generalize xs.toList=l
 induction l with
 | nil=>simp[aO]
 | cons p l ih=>simp;exact⟨_,_,rfl,dh f p,ih⟩
theorem Hi(hg:N0.g=sp.gl)(m:Mod w0 N0 A env h w)(f:FD A env w ρ a)(x:Operand):az A env w (pW sp ρ x) (a.eval x):=by
 cases x with
 | global g =>
  simp only[pW];cases hy:sp.gl g with
  | none=>simp only[az,Act.eval]
  | some y =>
   obtain⟨h1,h2⟩:=m.gl g y (by rw[hg];exact hy);exact⟨g,0,rfl,h1,h2⟩
 | tmp t=>simp only[pW];exact dh f _
 | const v=>simp only[pW];exact dh f (.const v)
 | func v=>simp only[pW];exact dh f (.func v)
theorem az1(m:Mod w0 N0 A env h w)(f:FD A env w ρ a){x:Operand}(ho:o.op = .move x)(e:(PV (bg ρ x)).run h=some (d,r)):bz P o a w0 N0 A env h w d:=by
 have j:=dh f x
 have g:(execOp a.eval o).run P w = .ok (.value (a.eval x)) w:=by unfold execOp;rw[ho];rfl
 unfold PV at e
 split at e
 next n sz hx=>
  rw[hx] at j;simp only[Q.run] at e;split at e
  .rename_i p q hk;obtain⟨rfl,rfl⟩:=e;split at hk
   .rename_i E u xs hl;split at hk
    .rename_i k;have k:=bK k;cases cz hk;have ok:pV h [(n,.live (.frz E u xs))]:=by
      intro n' b l;simp_all
     obtain⟨y,x2⟩:=m.freeze ok;refine⟨a.eval x,w,.inl g,(),_,env,aN,y,x2,?_⟩;rcases j with⟨hnil,pa,ev⟩|⟨b,len,E2,c,l,s,ev⟩
     .have v:xs=[]:=by
       have:=m.nm n;rw[hl] at this;rcases this with⟨k',l',he',_⟩|⟨_,E3,t3,l⟩
       .simp_all
       .grind
      subst v;exact⟨aw,.inl ⟨⟨pa,ev⟩,rfl⟩⟩
     .have hs:dA [(n,Nm.live (lC.frz E u xs))] h n = .live (.frz E u xs):=by simp[dA]
      have i:=(y.live_blk hs l).1;rw[ev,k];exact J4 (λ_ h=>h) i.2 i.1 s
    .cases hk
   .cases hk
  .cases e
 next t xs hx=>rw[hx] at j;cases cz e;exact bz.pure m g j
 .cases e
theorem ao5(m:Mod w0 N0 A env h w)(f:FD A env w ρ a){t:TypeId}{x i:Operand}(ho:o.op = .index t x i)
  (e:(K2 P t (bg ρ x) (bg ρ i)).run h=some (d,r)):bz P o a w0 N0 A env h w d:=by
 have c:=dh f x
 have g:=dh f i
 unfold K2 at e
 split at e
 next cs ki iv len E hx hi hu=>
  rw[hx] at c;rw[hi] at g;obtain⟨vs,ev,dv⟩:=c;split at e
  next n hn b=>simp at b;obtain⟨sv,e1,rfl⟩:=BH e;obtain⟨v,hr,hd⟩:=KB e1 dv;refine bz.pure m ?_ hd;unfold execOp;rw[ho];simp only[Instr.index,g.1,ev,asIntOf,Sem.run_bind,Sem.run_pure,Result.andThen_ok,run_underlying hu,Sem.run_ite,aj (And.intro b.1 b.2),lU hn,hr]
  .cases e
 .cases e
theorem a96(hs:jF P sp/\N0.g=sp.gl)(m:Mod w0 N0 A env h w)(f:FD A env w ρ a){g:Operand}{args:Array Operand}{ts:Array TypeId}{base:Nat}(ho:o.op = .call {callee := .value g,args,argTypes:=ts})
  (e:(Px P sp base (bg ρ g) (args.toList.map (bg ρ))).run h=some (d,r)) (hp:bS d.pre):(∃ v w',fb w0 N0 A env h w d v w')/\Gh P o a w0 N0 A env h w d:=by
 have dg:=dh f g
 unfold Px at e
 split at e
 next gi caps hg=>
  split at e
  .rename_i s hb hsp;rw[hg] at dg;simp only[az] at dg;obtain⟨vs,ev,dv⟩:=dg;have hcall:=hs.1 gi s hsp base _ h d r e hp w0 N0 A env w _ hs.2 m (su (U0 f args) dv);refine⟨?_,λro K Q' hK=>?_⟩
   .obtain⟨e',w',fr,⟨v,_,g⟩,_⟩:=hcall [];exact⟨v,w',g⟩
   refine⟨λ_ _=>trivial,?_⟩;rw[Oper.semAt_eq _ _ _ (λc=>by rw[ho];simp)];unfold execOp;rw[ho];unfold Ha at hb;split at hb
   .rename_i fn hfn;simp only[fe,pF] at hb;have hbody:fn.body.isNone=false:=by cases hfb:fn.body <;> simp_all
    simp only[resolve,Deferred.ofValue,ev,Sem.run_bind,Sem.run_pure,Result.andThen_ok,invoke,callFunc,run_program,hfn,hb.1,hbody,GC,if_false,Array.empty_append,Oper.uponIn];have hargs:((Array.map a.eval args).toList++vs.toList).toArray=Array.map a.eval args++vs:=by apply Array.ext';simp
    rw[hargs] at hcall;refine⟨λq=>by simp[Fence.wide] at q,CallsIn.mono (callsIn_wide.2 hcall:CallsIn Fence.wide 0 P _ _ _ _) ?_⟩;rintro e' w' ⟨v,rfl,g⟩;exact hK _ _ g
   .cases hb
  .cases e
 next r ts caps hg=>
  split at e
  .rename_i s hsp;obtain⟨d',r1,r2,e1,e2,rfl⟩:=Q.run_bind _ _ _ e;cases cz e2;rw[hg] at dg;simp only[az] at dg;obtain⟨l,ev,hl,dv⟩:=dg;obtain⟨hy,hp⟩:=bw9 hp;obtain⟨hlen,hR⟩:=hy base _ h d' _ e1 hp w0 N0 A env w _ l hs.2 m hl (su (U0 f args) dv);refine⟨?_,λro K Q' hK=>?_⟩
   .obtain⟨e',w',⟨v,_,g⟩,_⟩:=hR.2 default [] (room_wide _);exact⟨v,w',Tx (P:=P) g⟩
   refine⟨λ_ _=>trivial,?_⟩;rw[Oper.semAt_eq _ _ _ (λc=>by rw[ho];simp)];unfold execOp;rw[ho];simp only[resolve,Deferred.ofValue,ev,Sem.run_bind,Sem.run_pure,Result.andThen_ok,invoke,Array.empty_append];rw[run_yield hl (by simpa using hlen)];refine⟨λq=>by simp[Fence.wide] at q,RoundIn.mono (F:=Fence.wide) (Array.toArray_toList (xs:=args.map a.eval)▸hR) ?_⟩;rintro e' w' ⟨v,rfl,g⟩;exact hK _ _ (Tx (P:=P) g)
  .cases e
 .cases e
theorem Db{v:SV}(e:(c9 v).run h=some (d,r)):d = .det [] v []:=(cz e).symm
theorem VU(hs:jF P sp/\N0.g=sp.gl)(m:Mod w0 N0 A env h w)(f:FD A env w ρ a)
  (e:(BG P sp o ρ).run h=some (d,r)) (hp:bS d.pre):(∃ v w',fb w0 N0 A env h w d v w')/\Gh P o a w0 N0 A env h w d:=by
 have ofY:bz P o a w0 N0 A env h w d->(∃ v w',fb w0 N0 A env h w d v w')/\Gh P o a w0 N0 A env h w d:=λy=>by
  have y':=y;obtain⟨v,w',hr,g⟩:=y';exact⟨⟨v,w',g⟩,y.steps⟩
 unfold BG at e
 split at e
 next x ho=>
  split at e
  .exact ofY (az1 m f ho e)
  .rw[Db e];rw[Db e] at ofY;exact ofY (TV m f (.inl ho))
 next x ho=>
  split at e
  .obtain⟨u,r1,r2,e2,e3,rfl⟩:=Q.run_bind _ _ _ e;cases cz e3;obtain⟨A',m',x'⟩:=It m _ e2;refine ofY ⟨a.eval x,w,.inl ?_,(),A',env,aN,m',x',DQ x' _ _ (dh f x)⟩;unfold execOp;rw[ho];rfl
  .rw[Db e];rw[Db e] at ofY;exact ofY (TV m f (.inr ho))
 next c x y ho=>exact ofY (bB0 m f ho e hp)
 next E ho=>
  split at e
  .exact ofY (bH1 m ho e)
  .cases e
 next E x ho=>
  split at e
  .exact ofY (bv2 m f ho e)
  .cases e
 next t ps ho=>exact ofY (at9 m f ho e)
 next t n ps ho=>
  split at e
  .exact ofY (ap1 m f ho e)
  .cases e
 next t x ho=>
  split at e
  .exact ofY (bB1 m (pW sp ρ) (Hi hs.2 m f x) ho e)
  .exact ofY (a43 m (pW sp ρ) (Hi hs.2 m f x) ho e hp)
  .exact ofY (bw2 m (pW sp ρ) (Hi hs.2 m f x) ho e hp)
 next t x y ho=>
  split at e
  .exact ofY (aV6 m f ho e hp)
  .exact ofY (aF7 m f ho e hp)
 next x ho=>exact ofY (aQ3 m f ho e)
 next op t x y yt ho=>
  split at e
  next ht=>exact ofY (aS7 m f ho ht e)
  .exact ofY (a13 m f ho e hp)
 next op t x ho=>exact ofY (bO6 m f ho e hp)
 next s t x ho=>
  split at e
  next ht=>exact ofY (aU7 m f ho ht e)
  next ht=>exact ofY (by2 m f ho ht e hp)
  .exact ofY (bI2 m f ho e hp)
 next g fs caps ho=>
  split at e
  .rename_i hfs;have:fs = #[]:=by simpa using hfs
   subst this;rw[Db e];rw[Db e] at ofY;exact ofY (bu9 m f ho)
  .cases e
 next t l c ho=>
  split at e
  .exact ofY (bq2 m f ho e hp)
  .cases e
 next t x lo hi mx ho=>
  split at e
  .exact ofY (be8 m f ho e hp)
  .exact ofY (bu3 m f ho e hp)
 next s x i ho=>exact ofY (bL5 m f ho e)
 next s x i ho=>exact ofY (ag6 m f ho e)
 next t x i ho=>
  split at e
  .exact ofY (bC0 m f (pW sp ρ) (Hi hs.2 m f x) ho e hp)
  .exact ofY (YQ m f ho e hp)
 next t x i ho=>
  split at e
  .exact ofY (ao5 m f ho e)
  .exact ofY (bj4 m f ho e hp)
 next x i ho=>exact ofY (aQ2 m f ho e)
 next t ho=>
  split at e
  .exact ofY (aO6 m ho e)
  .cases e
 next t x i ho=>exact ofY (bn8 m f ho e)
 next t x i y ho=>exact ofY (bu8 m f ho e)
 next b args ts ho=>
  obtain⟨al⟩:=args;obtain⟨tl⟩:=ts;have e':(Nh P o.dst b (al.map (bg ρ)) tl).run h=some (d,r):=e;clear e;cases b
  case len =>
   match al,tl with
   | [x1],[t1]=>exact ofY (bz6 m f ho e')
   | [],_=>cases e'
   | _::_::_,_=>cases e'
   | [_],[]=>cases e'
   | [_],_::_::_=>cases e'
  case cap =>
   match al,tl with
   | [x1],[t1]=>exact ofY (bk2 m f ho e')
   | [],_=>cases e'
   | _::_::_,_=>cases e'
   | [_],[]=>cases e'
   | [_],_::_::_=>cases e'
  case append =>
   match al,tl with
   | [x1,x2],[t1,t2] =>
    simp only[List.map,Nh] at e';split at e'
    next dd hb _=>exact ofY (UP m f hb ho e' hp)
    .exact ofY (a89 m f ho e' hp)
    .cases e'
   | [],_=>cases e'
   | [_],_=>cases e'
   | _::_::_::_,_=>cases e'
   | [_,_],[]=>cases e'
   | [_,_],[_]=>cases e'
   | [_,_],_::_::_::_=>cases e'
  case min =>
   match al with
   | [x1,x2]=>exact ofY (br4 m f ho e')
   | []=>cases e'
   | [_]=>cases e'
   | _::_::_::_=>cases e'
  case max =>
   match al with
   | [x1,x2]=>exact ofY (Y2 m f ho e')
   | []=>cases e'
   | [_]=>cases e'
   | _::_::_::_=>cases e'
  all_goals (cases e')
 next g args ts ho=>exact a96 hs m f ho e hp
 .cases e
end
end Go.SX
namespace Go.SX
def dW(sl:List SV)(i:Nat):SV:=match oX sl i with
 | some v=>v
 | none => .junk
structure FS where
 sl:List SV
 h:bX
def Kb:SV->SV
 | .opt _ v=>v
 | v=>v
def Mm(g:Bool):SV->List Prop
 | .opt b _=>[g=true->b=true]
 | _=>[]
def yA:List Operand->List Nat
 | []=>[]
 | .tmp t::r=>t::yA r
 | _::r=>yA r
def qy(n:Nat):List Nat->Bool
 | []=>false
 | m::r=>Nat.beq n m||qy n r
theorem zX{n:Nat}:∀{l:List Nat},qy n l=true↔n∈l
 | []=>by simp[qy]
 | m::r=>by simp[qy,zX (l:=r)]
def xD(o:Oper):List Nat:=match o.op with
 | .pick (.tmp c) _ _=>[c]
 | .pick _ _ _=>[]
 | op=>yA op.operands.toList
inductive GV where
 | always
 | cond (g:Bool)
 | unknown
abbrev Ub(b want:Bool):Bool:=match want with
 | true=>b
 | false => !b
def AD(ops:List Oper)(sl:List SV):Option (Nat×Bool)->GV
 | none => .always
 | some (j,want)=>match oX ops j with
  | some oj=>match oj.dst with
   | some d=>match dW sl d with
    | .bool b => .cond (Ub b want)
    | .opt g (.bool b) => .cond (g&&Ub b want)
    | v=>match Hf v with
     | true => .cond false
     | false => .unknown
   | none => .unknown
  | none => .unknown
inductive jR:Type 1 where
 | go (d:Dl)
 | split (g:Bool) (d:Dl)
def tU(g:Bool)(sl:List SV):List Nat->List Prop
 | []=>[]
 | i::r=>Mm g (dW sl i)++tU g sl r
def FI:List Prop->Bool->List Prop
 | [],_=>[]
 | l,g=>[g=true->bS l]
def Rz(g:Bool)(pu:List Prop)(d:Dl):Q jR:=match d with
 | .det pre v [] => .ret (.go (.det (FI (pu++pre) g) (.opt g v) []))
 | .det pre v upd => .ret (.split g (.det (pu++pre) v upd))
 | .nd X qn pre R inh v upd => .ret (.split g (.nd X qn (pu++pre) R (λh=>inh (rQ.1 h).2) v upd))
def Gd(sl:List SV):List Nat->Bool
 | []=>false
 | i::r=>Hf (dW sl i)||Gd sl r
def pb(P:Program)(sp:fx)(ops:List Oper)(o:Oper)(sl:List SV):Q jR:=match AD ops sl o.guard with
 | .always=>(BG P sp o (dW sl)).bind λd=>.ret (.go d)
 | .cond g=>match Gd sl (xD o) with
  | true => .ret (.go (.det [g=false] (.cv undef) []))
  | false=>(BG P sp o (λi=>match qy i (xD o) with|true=>Kb (dW sl i)|false=>dW sl i)).bind (Rz g (tU g sl (xD o)))
 | .unknown => .fail
def ma(sl:List SV)(dst:Option Tmp)(v:SV):List SV:=match dst with
 | some d=>sl.set d v
 | none=>sl
def FS.app(F:FS)(dst:Option Tmp)(d:Dl)(x:d.X):FS:=⟨ma F.sl dst (d.val x),d.hp x F.h⟩
def FS.skip(F:FS)(dst:Option Tmp):FS:=⟨ma F.sl dst (.cv undef),F.h⟩
def ny(st:jR)(dst:Option Tmp)(F F':FS):Prop:=match st with
 | .go d=>∃ x,d.R x/\F'=F.app dst d x
 | .split g d=>(g=true∧∃ x,d.R x/\F'=F.app dst d x)∨(g=false/\F'=F.skip dst)
def jR.pre:jR->Prop
 | .go d=>bS d.pre
 | .split g d=>g=true->bS d.pre
def jR.wr:jR->List Nat
 | .go d=>d.wr
 | .split _ d=>d.wr
def rm(w0 w:World):List Deferred->Prop
 | []=>True
 | d::r=>∃ D,d={target := .collected D,args := #[]}/\w0.heap.size<=D/\w.heap[D]? = some (.deferred (some []))/\(∀ e∈r,e.target ≠ .collected D)/\rm w0 w r
theorem rm.mono{w0 w w':World}(x:∀ k:Nat,w.heap[k]? = some (.deferred (some []))->w'.heap[k]? = some (.deferred (some []))):∀{ds:List Deferred},rm w0 w ds->rm w0 w' ds
 | [],_=>trivial
 | _::_,⟨D,h1,h2,h3,h4,h5⟩=>⟨D,h1,h2,x _ h3,h4,h5.mono x⟩
theorem rm.lt{w0 w:World}:∀{ds:List Deferred},rm w0 w ds→∀ e∈ds,∃ D,e.target = .collected D/\D<w.heap.size
 | _::_,⟨D,h1,_,h3,_,h5⟩,e,he=>by
  rcases eZ.1 he with rfl|he
  .exact⟨D,by rw[h1],(Array.getElem?_eq_some_iff.1 h3).1⟩
  .exact h5.lt e he
structure hV (w0:World) (N0:fK) (A:Nat->Prop) (env:bj) (F:FS) (a:Act) (w:World):Prop where
 m:Mod w0 N0 A env F.h w
 len:F.sl.length<=a.tmps.size
 f:FD A env w (dW F.sl) a
 dfr:rm w0 w a.defers
section
variable {P:Program} {sp:fx} {w0:World} {N0:fK} {A:Nat->Prop} {env:bj} {F F':FS} {w:World} {o:Oper} {a:Act} {st:jR} {r:List Nat}
theorem Hz{a:List SV}{d i:Nat}{v:SV}:dW (a.set d v) i=if i=d/\d<a.length then v else dW a i:=by
 unfold dW
 simp only[wc,List.getElem?_set]
 grind
theorem Rh{A':Nat->Prop}{env':bj}{e:World}{c:List SV}{v:SV}{u:Value}(len:c.length<=a.tmps.size)(f:FD A env w (dW c) a)(x:dH A env w A' env' e)(b:Option Tmp)
  (hd:az A' env' e v u):FD A' env' e (dW (ma c b v)) (a.put b u):=by
 intro i
 cases b with
 | none=>exact DQ x _ _ (f i)
 | some d =>
  simp only[ma,Act.put];rw[Hz];split
  next h=>have hi:i<a.tmps.size:=ab;simp_all
  .rename_i h;by_cases g:i=d
   .subst g;have:dW c i = .junk:=by unfold dW;rw[wc,AS ab]
    rw[this];simp only[az]
   .have h2:=DQ x _ _ (f i);simp at h2 ⊢;grind
theorem XV(a:Act)(dst:Option Tmp)(v:Value):(a.put dst v).tmps.size=a.tmps.size:=by cases dst <;> simp[Act.put]
theorem Vd(a:Act)(dst:Option Tmp)(v:Value):(a.put dst v).defers=a.defers:=by cases dst <;> rfl
theorem RN(sl:List SV)(dst:Option Tmp)(v:SV):(ma sl dst v).length=sl.length:=by cases dst <;> simp[ma]
theorem hV.app(t:hV w0 N0 A env F a w){d:Dl}{v:Value}{w':World}(g:fb w0 N0 A env F.h w d v w')(dst:Option Tmp) :
  ∃ x A' env',d.R x/\hV w0 N0 A' env' (F.app dst d x) (a.put dst v) w'∧dH A env w A' env' w':=by
 obtain⟨x,A',env',hR,m',e',hd⟩:=g
 exact⟨x,A',env',hR,⟨m',by simp only[FS.app,RN,XV];exact t.len,Rh t.len t.f e' dst hd,by rw[Vd];exact t.dfr.mono e'.dfo⟩,e'⟩
theorem hV.skip(t:hV w0 N0 A env F a w)(b:Option Tmp):hV w0 N0 A env (F.skip b) (a.put b undef) w :=
 ⟨t.m,by simp only[FS.skip,RN,XV];exact t.len,Rh t.len t.f dH.refl b (by simp only[az]),by rw[Vd];exact t.dfr⟩
theorem aS8(a:Act){ops:Array Oper}(h:o.guard=none):Region.wanted o (yielded ops a.tmps)=true:=by simp[Region.wanted,h]
theorem bv9(t:hV w0 N0 A env F a w){ops:Array Oper}{g:Bool}(e:AD ops.toList F.sl o.guard = .cond g) :
  Region.wanted o (yielded ops a.tmps)=g:=by
 unfold AD at e
 split at e
 .cases e
 next j want hg=>
  have hw:Region.wanted o (yielded ops a.tmps)=(yielded ops a.tmps j == some want):=by simp[Region.wanted,hg]
  split at e
  .rename_i oj hj;split at e
   .rename_i d hd;have k:ops[j]? = some oj:=by rw[wc,mr] at hj;exact hj
    have hy:yielded ops a.tmps j=match a.tmps[d]? with|some (.bool b)=>some b|_=>none:=by
     unfold yielded;rw[k];simp only[Option.bind_some,hd];rfl
    have c:=t.f d;have h:∀{v:Value},a.tmps.getD d undef=v->v≠undef->a.tmps[d]? = some v:=by
     intro v hv hne;rw[rF] at hv;grind
    rw[hw,hy];split at e
    next b hb=>cases e;rw[hb] at c;rw[h c (by simp[undef])];grind
    .rename_i g' b hb;cases e;rw[hb] at c;cases g' with
     | true =>
      rw[h c (by simp[undef])];grind
     | false =>
      rw[rF] at c;cases hx:a.tmps[d]? with
      | none=>rfl
      | some u=>rw[hx] at c;subst c;rfl
    .rename_i hv1 hv2;split at e
     .rename_i l;have i:∃ vs,dW F.sl d = .cv (.tuple vs)/\vs.isEmpty=true:=by
       unfold Hf at l;grind
      obtain⟨vs,h1,h2⟩:=i;rw[h1] at c;simp only[az] at c;rw[rF] at c;grind
     .cases e
   .cases e
  .cases e
theorem SP{g:Bool}{b:List SV}:∀{l:List Nat},bS (tU g b l)→∀ i∈l,bS (Mm g (dW b i))
 | j::r,h,i,a=>by
  simp only[tU,rQ] at h;rcases eZ.1 a with rfl|a
  .exact h.1
  .exact SP h.2 i a
theorem bc1(f:FD A env w (dW F.sl) a){l:List Nat}(hp:bS (tU true F.sl l)) :
  FD A env w (λi=>match qy i l with|true=>Kb (dW F.sl i)|false=>dW F.sl i) a:=by
 intro i
 show az A env w (match qy i l with|true=>Kb (dW F.sl i)|false=>dW F.sl i) _
 cases hm:qy i l with
 | false=>exact f i
 | true =>
  have:=SP hp i (zX.1 hm);have c:=f i;generalize dW F.sl i=v at *;cases v with
  | opt b v =>
   have hb:b=true:=by simpa[Mm,bS] using this
   subst hb;simpa only[Kb,az] using c
  | _=>exact c
theorem aI6{l:List Prop}{g:Bool}(h:bS (FI l g))(hg:g=true):bS l:=by
 cases l with
 | nil=>trivial
 | cons p l=>simp only[FI,bS,iC] at h;exact h hg
theorem OM(hs:jF P sp/\N0.g=sp.gl)(t:hV w0 N0 A env F a w){ops:Array Oper}(e:(pb P sp ops.toList o F.sl).run F.h=some (st,r))(hp:st.pre) :
  (∃ F',ny st o.dst F F'∧∃ A' env' a' w',hV w0 N0 A' env' F' a' w'∧dH A env w A' env' w') ∧
  ∀(ro:Option Nat)(K:Act->World->Prop)(Q':Exit->Act->World->Prop),(∀ F' A' env' a' w',ny st o.dst F F'→hV w0 N0 A' env' F' a' w'→dH A env w A' env' w'→K a' w') →
   if Region.wanted o (yielded ops a.tmps) then o.wpIn (wf ro) 0 P a w K Q' else (∀ f,o.about P w a.eval=some f->(wf ro).fn f)/\K (a.put o.dst undef) w:=by
 unfold pb at e
 split at e
 next hg=>
  obtain⟨d,r1,r2,e1,e2,rfl⟩:=Q.run_bind _ _ _ e;simp only[Q.run,cE,cC] at e2;obtain⟨rfl,rfl⟩:=e2;obtain⟨⟨v,w',g⟩,hst⟩:=VU hs t.m t.f e1 hp;have hgn:o.guard=none:=by
   unfold AD at hg;split at hg
   .assumption
   .split at hg
    .split at hg
     .split at hg
      .cases hg
      .cases hg
      .split at hg <;> cases hg
     .cases hg
    .cases hg
  refine⟨?_,λro K Q' hK=>?_⟩
  .obtain⟨x,A',env',hR,t',x'⟩:=t.app g o.dst;exact⟨_,⟨x,hR,rfl⟩,A',env',_,_,t',x'⟩
  .rw[aS8 a hgn];refine (hst ro K Q' λv w' g=>?_);obtain⟨x,A',env',hR,t',x'⟩:=t.app g o.dst;exact hK _ _ _ _ _ ⟨x,hR,rfl⟩ t' x'
 next g hg=>
  have hwant:=bv9 t hg;split at e
  .simp only[Q.run,cE,cC] at e;obtain⟨rfl,rfl⟩:=e;simp only[jR.pre,Dl.pre,bS,iC] at hp;rw[hwant];subst hp;have gd:fb w0 N0 A env F.h w (.det [false=false] (.cv undef) []) undef w :=
    ⟨(),A,env,aN,t.m,dH.refl,by simp only[Dl.val,az]⟩
   obtain⟨x,A',env',hR,t',x'⟩:=t.app gd o.dst;refine⟨⟨_,⟨x,hR,rfl⟩,A',env',_,_,t',x'⟩,λro K Q' hK=>?_⟩;rw[ah aw];refine⟨λ_ _=>trivial,?_⟩;exact hK _ _ _ _ _ ⟨x,hR,rfl⟩ t' x'
  obtain⟨d,r1,r2,e1,e2,rfl⟩:=Q.run_bind _ _ _ e;rw[hwant];have yes:g=true->bS (tU g F.sl (xD o))->bS d.pre->(∃ v w',fb w0 N0 A env F.h w d v w')/\Gh P o a w0 N0 A env F.h w d:=by
   rintro rfl h1 h2;exact VU hs t.m (bc1 t.f h1) e1 h2
  have splitCase:∀ d',st = .split g d'→d'.X=d.X->(∀(h1:bS d'.pre),bS (tU g F.sl (xD o))/\bS d.pre) →
    (∀ v w',fb w0 N0 A env F.h w d v w'→fb w0 N0 A env F.h w d' v w') →
    (∃ F',ny st o.dst F F'∧∃ A' env' a' w',hV w0 N0 A' env' F' a' w'∧dH A env w A' env' w') ∧
    ∀(ro:Option Nat)(K:Act->World->Prop)(Q':Exit->Act->World->Prop),(∀ F' A' env' a' w',ny st o.dst F F'→hV w0 N0 A' env' F' a' w'→dH A env w A' env' w'→K a' w') →
     if g=true then o.wpIn (wf ro) 0 P a w K Q' else (∀ f,o.about P w a.eval=some f->(wf ro).fn f)/\K (a.put o.dst undef) w:=by
   rintro d' rfl _ hpre hgood;cases g with
   | true =>
    obtain⟨h1,h2⟩:=hpre (hp rfl);obtain⟨⟨v,w',gd⟩,hst⟩:=yes rfl h1 h2;refine⟨?_,λro K Q' hK=>?_⟩
    .obtain⟨x,A',env',hR,t',x'⟩:=t.app (hgood _ _ gd) o.dst;exact⟨_,.inl ⟨rfl,x,hR,rfl⟩,A',env',_,_,t',x'⟩
    .rw[aj rfl];refine (hst ro K Q' λv w' gd=>?_);obtain⟨x,A',env',hR,t',x'⟩:=t.app (hgood _ _ gd) o.dst;exact hK _ _ _ _ _ (.inl ⟨rfl,x,hR,rfl⟩) t' x'
   | false =>
    refine⟨⟨_,.inr ⟨rfl,rfl⟩,A,env,_,_,t.skip o.dst,dH.refl⟩,λro K Q' hK=>?_⟩;rw[ah aw];refine⟨λ_ _=>trivial,?_⟩;exact hK _ _ _ _ _ (.inr ⟨rfl,rfl⟩) (t.skip o.dst) dH.refl
  unfold Rz at e2;split at e2
  .rename_i pre v;simp only[Q.run,cE,cC] at e2;obtain⟨rfl,rfl⟩:=e2;simp only[jR.pre,Dl.pre] at hp;cases g with
   | true =>
    have h12:=aI6 hp rfl;rw[rQ] at h12;obtain⟨⟨u,w',gd⟩,hst⟩:=yes rfl h12.1 h12.2;have conv:∀ u w',fb w0 N0 A env F.h w (.det pre v []) u w'→fb w0 N0 A env F.h w (.det (FI (tU true F.sl (xD o)++pre) true) (.opt true v) []) u w':=by
     rintro u w' ⟨x,A',env',hR,m',x',hd⟩;exact⟨(),A',env',aN,m',x',by simpa only[Dl.val,az] using hd⟩
    refine⟨?_,λro K Q' hK=>?_⟩
    .obtain⟨x,A',env',hR,t',x'⟩:=t.app (conv _ _ gd) o.dst;exact⟨_,⟨x,hR,rfl⟩,A',env',_,_,t',x'⟩
    .rw[aj rfl];refine (hst ro K Q' λv w' gd=>?_);obtain⟨x,A',env',hR,t',x'⟩:=t.app (conv _ _ gd) o.dst;exact hK _ _ _ _ _ ⟨x,hR,rfl⟩ t' x'
   | false =>
    have gd:fb w0 N0 A env F.h w (.det (FI (tU false F.sl (xD o)++pre) false) (.opt false v) []) undef w :=
     ⟨(),A,env,aN,t.m,dH.refl,by simp only[Dl.val,az]⟩
    obtain⟨x,A',env',hR,t',x'⟩:=t.app gd o.dst;refine⟨⟨_,⟨x,hR,rfl⟩,A',env',_,_,t',x'⟩,λro K Q' hK=>?_⟩;rw[ah aw];refine⟨λ_ _=>trivial,?_⟩;exact hK _ _ _ _ _ ⟨x,hR,rfl⟩ t' x'
  next pre v upd _=>simp only[Q.run,cE,cC] at e2;obtain⟨rfl,rfl⟩:=e2;exact splitCase _ rfl rfl (λh1=>by simpa only[Dl.pre,rQ] using h1) (λu w' ⟨x,A',env',hR,m',x',hd⟩=>⟨(),A',env',aN,m',x',hd⟩)
  next X pre R inh v upd=>simp only[Q.run,cE,cC] at e2;obtain⟨rfl,rfl⟩:=e2;exact splitCase _ rfl rfl (λh1=>by simpa only[Dl.pre,rQ] using h1) (λu w' ⟨x,A',env',hR,m',x',hd⟩=>⟨x,A',env',hR,m',x',hd⟩)
 .cases e
end
end Go.SX
