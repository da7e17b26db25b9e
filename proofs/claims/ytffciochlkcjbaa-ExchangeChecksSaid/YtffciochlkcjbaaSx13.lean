/- SX, part 10: append, slicing, an array's element: soundness. -/
import Derived.Test.YtffciochlkcjbaaSx9
import Derived.Lib.AppendZeros
import Derived.Laws.BytesArg
import Derived.Laws.StructEq
import Derived.MapKept
import Derived.Carry
namespace Go.SX
set_option linter.unusedVariables false
section
variable {P:Program} {w0:World} {N0:bv} {A:Nat->Prop} {env:ai} {h:aI} {w:World} {o:Oper} {a:Act} {ρ:Nat->SV} {d:Dl} {r:List Nat}
theorem kQ{t:CT}{cv:Nat->Option Value}:∀(ys:List t.D)(off:Nat),(∀ i (hi:i<ys.length),Rd A w t cv (off+i*t.size) ys[i]) →
  ∃ news:List Value,news.length=ys.length*t.size/\(∀ j,j<news.length->cv (off+j)=news[j]?)∧∀ u∈news,u.oneCell'=true
 | [],off,_=>⟨[],by simp,by simp,by simp⟩
 | y::ys,off,hr=>by
  obtain⟨us,hl,hc,hd⟩:=io (env:=fun _=>.un) t y cv off (by have:=hr 0 (by simp);simpa only[Nat.zero_mul,Nat.add_zero,List.getElem_cons_zero] using this)
  obtain⟨news,hl2,hc2,h1⟩:=kQ ys (off+t.size) (fun i hi=>by
   have:=hr (i+1) (by simpa using hi)
   simp only[List.getElem_cons_succ] at this
   rw[show off+t.size+i*t.size=off+(i+1)*t.size from by rw[Nat.add_mul,Nat.one_mul];omega]
   exact this)
  refine⟨us++news,by simp[hl,hl2,Nat.add_mul];omega,fun j hj=>?_,?_⟩
  ·by_cases hlt:j<t.size
   ·rw[hc j hlt,List.getElem?_append_left (by omega)]
   ·rw[List.getElem?_append_right (by omega),hl]
    simp only[List.length_append] at hj
    have:=hc2 (j-t.size) (by omega)
    rw[show off+t.size+(j-t.size)=off+j from by omega] at this
    exact this
  ·intro u hu
   rcases List.mem_append.1 hu with hu|hu
   ·exact ly hd (oq _ _) u hu
   ·exact h1 u hu
theorem wh{t:CT}{v:Value}{ys:List t.D}(hs:ep A w t v ys):∃ p c,v = .slice p ys.length c/\ys.length<=maxLen ∧
  (ys.length=0∨∃ b off,p=some ⟨b,off,none⟩∧∀ i (hi:i<ys.length),Rd A w t (fun o=>w.cell? ⟨b,o,none⟩) (off+i*t.size) ys[i]):=by
 obtain⟨hl,⟨⟨p,rfl⟩,rfl⟩|⟨b,off,cap,rfl,h1,h2,h3,h4⟩⟩:=hs
 ·exact⟨p,0,rfl,hl,.inl rfl⟩
 ·exact⟨_,cap,rfl,hl,.inr ⟨b,off,rfl,h4⟩⟩
theorem nE(m:aw w0 N0 A env h w){t:CT}{x:SV}{v:Value}{ys:List t.D}(e:(g9 t x).run h=some (ys,r))(hd:aa A env w x v) :
  ∃ p c,v = .slice p ys.length c/\ys.length<=maxLen ∧
  (ys.length=0∨∃ b off,p=some ⟨b,off,none⟩∧∀ i (hi:i<ys.length),Rd A w t (fun o=>w.cell? ⟨b,o,none⟩) (off+i*t.size) ys[i]):=by
 unfold g9 at e
 split at e
 ·rename_i u zs
  split at e
  ·rename_i zs' hc
   simp only[Q.run,Option.some.injEq,Prod.mk.injEq] at e
   obtain⟨rfl,_⟩:=e
   obtain⟨et,ey⟩:=cD hc
   subst et
   simp only at ey
   subst ey
   simp only[aa] at hd
   exact wh hd
  ·cases e
 ·rename_i u zs
  split at e
  ·rename_i zs' hc
   simp only[Q.run,Option.some.injEq,Prod.mk.injEq] at e
   obtain⟨rfl,_⟩:=e
   obtain⟨et,ey⟩:=cD hc
   subst et
   simp only at ey
   subst ey
   simp only[aa] at hd
   exact wh hd.1
  ·cases e
 ·simp only[Q.run,Option.some.injEq,Prod.mk.injEq] at e
  obtain⟨rfl,_⟩:=e
  simp only[aa] at hd
  exact⟨none,0,by rw[hd];rfl,by simp,.inl rfl⟩
 ·rename_i n sz
  simp only[aa] at hd
  simp only[Q.run] at e
  split at e
  ·rename_i p q hk
   simp only[Option.some.injEq,Prod.mk.injEq] at e
   obtain⟨rfl,rfl⟩:=e
   have fin:∀{E':TypeId}{u:CT}{zs:List u.D},(h n = .live (.row E' u zs)∨h n = .live (.frz E' u zs))->bQ u t zs=some p →
     ∃ p' c,v = .slice p' p.length c/\p.length<=maxLen ∧
     (p.length=0∨∃ b off,p'=some ⟨b,off,none⟩∧∀ i (hi:i<p.length),Rd A w t (fun o=>w.cell? ⟨b,o,none⟩) (off+i*t.size) p[i]):=by
    intro E' u zs hl hc
    obtain⟨et,ey⟩:=cD hc
    subst et
    simp only at ey
    subst ey
    rcases hd with⟨hnil,pp,ev⟩|⟨b,len,E2,c,hb,_,ev⟩
    ·have hx:p.length=0:=by
      have:=m.nm n
      rcases hl with hl|hl <;> rw[hl] at this <;> rcases this with⟨k',l',he',_⟩|⟨_,E3,t3,hb⟩
      ·rw[hnil] at he';cases he'
      ·rcases hb with hb|hb <;> cases hb;rfl
      ·rw[hnil] at he';cases he'
      ·rcases hb with hb|hb <;> cases hb;rfl
     exact⟨pp,0,by rw[hx];exact ev,by omega,.inl hx⟩
    ·have hrow:ef A w b len E' u p:=by
      rcases hl with hl|hl
      ·exact (m.live_blk hl hb).1
      ·exact (m.live_blk hl hb).1.2
     have hlen:p.length=len.2/\len.2<=maxLen:=by
      obtain⟨vs,cap,_,_,h2,h3,h4,_⟩:=hrow
      exact⟨h2,by omega⟩
     refine⟨_,_,by rw[hlen.1];exact ev,by omega,.inr ⟨b,len.1,rfl,fun i hi=>?_⟩⟩
     have:=kj hrow (i:=i) (by omega)
     rw[pv hi] at this
     exact this
   split at hk
   ·rename_i E' u zs hl
    split at hk
    ·rename_i zs' h1 hc
     simp only[Q.run,Option.some.injEq,Prod.mk.injEq] at hk
     obtain⟨rfl,_⟩:=hk
     exact fin (.inl hl) hc
    ·cases hk
   ·rename_i E' u zs hl
    split at hk
    ·rename_i zs' h1 hc
     simp only[Q.run,Option.some.injEq,Prod.mk.injEq] at hk
     obtain⟨rfl,_⟩:=hk
     exact fin (.inr hl) hc
    ·cases hk
   ·cases hk
  ·cases e
 ·cases e
theorem dP(m:aw w0 N0 A env h w){nm:Nat}(hun:h nm = .un)(dn:List Nat)(hdn:∀ n∈dn,∃ b,h n = .live b/\b.mut=true){E:TypeId}{t:CT}{zs:List t.D}{v:Value}{w':World}
  {pre:List Prop} {W:Nat->Prop} {ev:Ev} (c:aR w w' W) (hW:∀ k,W k→∃ n l,n∈dn/\env n = .blk k l) (hne:ev ≠ .un)
  (hev:∀ k len,ev = .blk k len->w.heap.size<=k∨∃ n l,n∈dn/\env n = .blk k l)
  (hb:aW A env w A (env.set nm ev) w'→(ev = .nil/\zs=[]∧∃ p,v = .slice p 0 0)∨∃ k len c,ev = .blk k len/\ef A w' k len E t zs/\w'.shape? k=some (E,c)/\v = .slice (some ⟨k,len.1,none⟩) len.2 ((c-len.1)/t.size)) :
  bp w0 N0 A env h w (.det pre (.own nm t.size) ((nm,.live (.row E t zs))::dn.map fun n=>(n,.dead))) v w':=by
 have hu:env nm = .un:=by have:=m.nm nm;rw[hun] at this;exact this
 have hlv:∀ k,W k→∃ mm b l,mm∈dn/\h mm = .live b/\b.mut=true/\env mm = .blk k l:=by
  intro k hk
  obtain⟨n,l,hn,he⟩:=hW k hk
  obtain⟨b,hb1,hb2⟩:=hdn n hn
  exact⟨n,b,l,hn,hb1,hb2,he⟩
 have x:aW A env w A (env.set nm ev) w':=by
  refine⟨fun _ h=>h,fun n b l e=>?_,fun n e=>?_,fun n v s e=>?_,fun b o hb=>?_,c.shape⟩
  ·rw[ai.set_other];exact e;intro e';rw[e'] at e;rw[hu] at e;cases e
  ·rw[ai.set_other];exact e;intro e';rw[e'] at e;rw[hu] at e;cases e
  ·rw[ai.set_other];exact e;intro e';rw[e'] at e;rw[hu] at e;cases e
  ·refine World.cell?_of_block (a:=⟨b,o,none⟩) (c.blk b (m.Alt b hb) (fun hw=>?_))
   obtain⟨mm,bb,l,_,hl,hm,he⟩:=hlv b hw
   exact (m.live_blk hl he).2 hm hb
 have hset:∀ n,n≠nm->n ∉ dn->aM ((nm,.live (.row E t zs))::dn.map fun n=>(n,.dead)) h n=h n:=by
  intro n h1 h2
  refine c7 ?_
  simp only[List.map_cons,List.map_map,List.mem_cons,List.mem_map,Function.comp_apply,not_or]
  exact⟨h1,fun ⟨q,hq,e⟩=>h2 (e▸hq)⟩
 have hsetn:aM ((nm,.live (.row E t zs))::dn.map fun n=>(n,.dead)) h nm = .live (.row E t zs):=by simp[aM]
 have hsetd:∀ n,n≠nm->n∈dn->aM ((nm,.live (.row E t zs))::dn.map fun n=>(n,.dead)) h n = .dead:=by
  intro n h1 h2
  simp only[aM]
  rw[aI.set_other _ _ h1]
  clear hdn hW hev hlv hset hsetn
  induction dn with
  | nil=>simp at h2
  | cons q dn ih =>
   simp only[List.map_cons,aM]
   by_cases hq:n=q
   ·subst hq;simp
   ·rw[aI.set_other _ _ hq];exact ih (by simpa[hq] using h2)
 have u:cN (fun n=>n=nm∨n∈dn) W A env h w A (env.set nm ev) (aM ((nm,.live (.row E t zs))::dn.map fun n=>(n,.dead)) h) w':=by
  refine⟨c,fun k hk=>?_,fun _ h=>h,fun _ h=>.inl h,fun n hn=>ai.set_other _ _ (fun e=>hn (.inl e)),fun n hn=>?_,fun n hn=>hset n (fun e=>hn (.inl e)) (fun e=>hn (.inr e)),?_,?_,?_⟩
  ·obtain⟨mm,b,l,h1,h2,h3,h4⟩:=hlv k hk
   exact⟨mm,b,l,.inr h1,h2,h3,h4⟩
  ·exact ai.set_other _ _ (fun e=>hn (e▸hu))
  ·rintro n hn
   by_cases hnm:n=nm
   ·subst hnm
    rw[hsetn]
    rcases hb x with⟨h1,h2,_⟩|⟨k,len,c',h1,h2,_⟩
    ·exact .inr ⟨by rw[ai.set_same];exact h1,E,t,.inl (by rw[h2])⟩
    ·refine .inl ⟨k,len,by rw[ai.set_same];exact h1,h2,fun _ hA=>?_⟩
     rcases hev k len h1 with h3|⟨n',l,hn',he⟩
     ·have:=m.Alt k hA;omega
     ·obtain⟨b,hb1,hb2⟩:=hdn n' hn'
      exact (m.live_blk hb1 he).2 hb2 hA
   ·rw[hsetd n hnm (hn.resolve_left hnm)];trivial
  ·intro n b k l hn hl hm he
   by_cases hnm:n=nm
   ·subst hnm
    rw[ai.set_same] at he
    rcases hev k l he with h3|⟨n',l',hn',he'⟩
    ·exact .inl h3
    ·obtain⟨b',hb1,hb2⟩:=hdn n' hn'
     exact .inr ⟨n',b',l',.inr hn',hb1,hb2,he'⟩
   ·rw[hsetd n hnm (hn.resolve_left hnm)] at hl;cases hl
  ·intro n n' b c k l l' hn hn' hl hl' _ _ _ _
   by_cases hnm:n=nm
   ·by_cases hnm':n'=nm
    ·rw[hnm,hnm']
    ·rw[hsetd n' hnm' (hn'.resolve_left hnm')] at hl';cases hl'
   ·rw[hsetd n hnm (hn.resolve_left hnm)] at hl;cases hl
 refine⟨(),A,env.set nm ev,trivial,m.upd u,m.ext u,?_⟩
 simp only[Dl.val,aa]
 rcases hb x with⟨h1,h2,h3⟩|⟨k,len,c',h1,h2,h3,h4⟩
 ·exact .inl ⟨by rw[ai.set_same];exact h1,h3⟩
 ·exact .inr ⟨k,len,E,c',by rw[ai.set_same];exact h1,h3,h4⟩
theorem qp{t e ty:TypeId}(ht:P.underlying t=some (.slice e)){sz:Nat}(hsz:bL P e=some sz)(p q:Option Addr)(n cap c:Nat)(hn:n<=cap) :
  (Builtin.append_ #[t,t] ty #[.slice p n cap,.slice q 0 c]).run P w = .ok (.slice p n cap) w:=by
 have hf:(Builtin.firstCells sz 0 (.slice q 0 c)).run P w = .ok #[] w:=by
  cases q <;> simp[Builtin.firstCells,loadCells,loadCellsFrom]
 cases p with
 | none=>simp[Builtin.append_,run_underlying ht,cz hsz,Builtin.lenOf,hn,hf]
 | some b=>simp[Builtin.append_,run_underlying ht,cz hsz,Builtin.lenOf,hn,hf,storeCells]
theorem fO{t:CT}{cv cv':Nat->Option Value}{o o':Nat}{d:t.D}(h:Rd A w t cv o d)(hc:∀ j,j<t.size->cv' (o'+j)=cv (o+j)):Rd A w t cv' o' d:=by
 have key:∀(t:CT)(cv cv':Nat->Option Value)(o o':Nat)(d:t.D),Rd A w t cv o d->(∀ j,j<t.size->cv' (o'+j)=cv (o+j))->Rd A w t cv' o' d:=by
  intro t
  induction t with
  | pair a b iha ihb =>
   intro cv cv' o o' d h hc
   refine⟨iha _ _ _ _ _ h.1 (fun j hj=>hc j (by simp only[CT.size];omega)),ihb _ _ _ _ _ h.2 (fun j hj=>?_)⟩
   have:=hc (a.size+j) (by simp only[CT.size];omega)
   simpa[Nat.add_assoc] using this
  | int k=>intro cv cv' o o' d h hc;have:=hc 0 (by simp[CT.size]);simp only[Nat.add_zero] at this;simp only[Rd] at h ⊢;rw[this];exact h
  | bool=>intro cv cv' o o' d h hc;have:=hc 0 (by simp[CT.size]);simp only[Nat.add_zero] at this;simp only[Rd] at h ⊢;rw[this];exact h
  | str=>intro cv cv' o o' d h hc;have:=hc 0 (by simp[CT.size]);simp only[Nat.add_zero] at this;simp only[Rd] at h ⊢;rw[this];exact h
  | sl t ih=>intro cv cv' o o' d h hc;have:=hc 0 (by simp[CT.size]);simp only[Nat.add_zero] at this;simp only[Rd] at h ⊢;rw[this];exact h
 exact key t cv cv' o o' d h hc
theorem mZ{t:CT}{xs ys:List t.D}{olds news rest:List Value}(ho:olds.length=xs.length*t.size)(hn:news.length=ys.length*t.size)
  (hx:∀ i (hi:i<xs.length),Rd A w t (fun j=>olds[j]?) (i*t.size) xs[i]) (hy:∀ i (hi:i<ys.length),Rd A w t (fun j=>news[j]?) (i*t.size) ys[i]) :
  ∀ i (hi:i<(xs++ys).length),Rd A w t (fun j=>(olds++news++rest).toArray[j]?) (i*t.size) (xs++ys)[i]:=by
 intro i hi
 simp only[List.getElem?_toArray]
 by_cases hlt:i<xs.length
 ·rw[List.getElem_append_left hlt]
  refine fO (hx i hlt) fun j hj=>?_
  have:(i+1)*t.size<=xs.length*t.size:=Nat.mul_le_mul_right _ (by omega)
  rw[Nat.add_mul,Nat.one_mul] at this
  rw[List.append_assoc,List.getElem?_append_left (by omega)]
 ·rw[List.getElem_append_right (by omega)]
  have hi':i-xs.length<ys.length:=by simp at hi;omega
  refine fO (hy _ hi') fun j hj=>?_
  have e1:i*t.size=xs.length*t.size+(i-xs.length)*t.size:=by rw[← Nat.add_mul];congr 1;omega
  have:(i-xs.length+1)*t.size<=ys.length*t.size:=Nat.mul_le_mul_right _ (by omega)
  rw[Nat.add_mul,Nat.one_mul] at this
  rw[List.append_assoc,List.getElem?_append_right (by omega),List.getElem?_append_left (by omega)]
  congr 1;omega
end
end Go.SX

/- SX, part 11: append, slicing, an array's element: soundness. -/
namespace Go.SX
set_option linter.unusedVariables false
theorem EN{P:Program}(w:World)(t ty e:TypeId)(i:TypeInfo)(ht:P.underlying t=some (.slice e))(hi:P.info? e=some i)
  (g off eQ iB:Nat) (cur:Array Value) (hg:w.heap[g]? = some (.cells cur e (0,0)))
  (a:Addr) (m c:Nat) (news:List Value) (hl:news.length=m*i.size) (hnews:∀ j u,news[j]? = some u->w.cell? (a.add j)=some u) (h1:∀ u∈news,u.oneCell'=true)
  (hroom:eQ+m<=iB) (hfit:off+eQ*i.size+news.length<=cur.size) :
  (Builtin.append_ #[t,t] ty #[.slice (some ⟨g,off,none⟩) eQ iB,.slice (some a) m c]).run P w =
   .ok (.slice (some ⟨g,off,none⟩) (eQ+m) iB) (w.setRow g (cur.toList.take (off+eQ*i.size)++news++cur.toList.drop (off+eQ*i.size+news.length)).toArray):=by
 have hf:=run_firstCells_some (P:=P) w i.size m a m c news hl hnews
 have hst:=run_storeCells_at P g (off+eQ*i.size) e news 0 cur w hg (by simpa using hfit) h1
 simp only[Nat.add_zero] at hst
 simp[Builtin.append_,run_underlying ht,sizeOf,typeInfo,hi,Builtin.lenOf,hroom,hf,Addr.add_lit,hst]
section
variable {P:Program} {w0:World} {N0:bv} {A:Nat->Prop} {env:ai} {h:aI} {w:World} {o:Oper} {a:Act} {ρ:Nat->SV} {d:Dl} {r:List Nat}
theorem zL(l:List Value)(z:Array Value):l.toArray++z=(l++z.toList).toArray:=by apply Array.ext';simp
theorem sQ(l m:List Value)(z:Array Value):l.toArray++m.toArray++z=(l++m++z.toList).toArray:=by apply Array.ext';simp
theorem og(m:aw w0 N0 A env h w){t e ty:TypeId}{sz nm:Nat}{i:TypeInfo}{z:Value}{u:CT}{ys:List u.D}{p q:Option Addr}{c:Nat}{pre:List Prop}
  (ht:P.underlying t=some (.slice e)) (hsz:bL P e=some sz) (hi:P.info? e=some i) (hz:i.zero=some z) (hzs:z.cells.size=sz) (hb1:1<=i.bytes) (hu:sz=u.size) (hun:h nm = .un)
  (dn:List Nat) (hdn:∀ n∈dn,∃ b,h n = .live b/\b.mut=true)
  (hl:ys.length<=maxLen) (hby:ys.length*i.bytes<=140737488355328)
  (hsrc:ys.length=0∨∃ b off,q=some ⟨b,off,none⟩∧∀ i (hi:i<ys.length),Rd A w u (fun o=>w.cell? ⟨b,o,none⟩) (off+i*u.size) ys[i]) :
  ∃ v w',(Builtin.append_ #[t,t] ty #[.slice p 0 0,.slice q ys.length c]).run P w = .ok v w' ∧
   bp w0 N0 A env h w (.det pre (.own nm sz) ((nm,.live (.row e u ys))::dn.map fun n=>(n,.dead))) v w':=by
 subst hu
 by_cases h0:ys.length=0
 ·refine⟨.slice p 0 0,w,by rw[h0];exact qp ht hsz p q 0 0 c (Nat.le_refl _),?_⟩
  have:ys=[]:=List.eq_nil_of_length_eq_zero h0
  subst this
  exact dP m hun dn hdn (W:=fun _=>False) (ev := .nil) (aR.refl w _) (fun _ h=>h.elim) (by simp) (fun k l e=>by cases e) (fun _=>.inl ⟨rfl,rfl,p,rfl⟩)
 ·obtain⟨b,off,rfl,hrd⟩:=hsrc.resolve_left h0
  obtain⟨news,hnl,hnc,hn1⟩:=kQ ys off hrd
  have hisz:i.size=u.size:=by unfold bL at hsz;rw[hi] at hsz;simpa using hsz
  have hnews:∀ j v,news[j]? = some v->w.cell? ((⟨b,off,none⟩:Addr).add j)=some v:=by
   intro j v hj
   rw[Addr.add_lit,hnc j (List.getElem?_eq_some_iff.1 hj).1];exact hj
  have hrdn:∀ i (hi:i<ys.length),Rd A w u (fun j=>news[j]?) (i*u.size) ys[i]:=fun i hi =>
   fO (hrd i hi) fun j hj=>by
    have:(i+1)*u.size<=ys.length*u.size:=Nat.mul_le_mul_right _ (by omega)
    rw[Nat.add_mul,Nat.one_mul] at this
    rw[← hnc _ (by omega),Nat.add_assoc]
  have h63:((ys.length:Nat):Int)<=9223372036854775807:=by simp only[maxLen] at hl;omega
  have fin:∀ v w' cap,ys.length<=cap->cap<=maxLen->v = .slice (some ⟨w.heap.size,0,none⟩) ys.length cap->w'=w.drew.alloc (.cells (news.toArray++Builtin.zeroCells z.cells (cap-ys.length)) e) →
    bp w0 N0 A env h w (.det pre (.own nm u.size) ((nm,.live (.row e u ys))::dn.map fun n=>(n,.dead))) v w':=by
   rintro v w' cap hc1 hc2 rfl rfl
   have cg:aR w (w.drew.alloc (.cells (news.toArray++Builtin.zeroCells z.cells (cap-ys.length)) e)) fun _=>False:=(aR.drew w _).trans (aR.alloc w.drew _ _)
   have hsize:(news.toArray++Builtin.zeroCells z.cells (cap-ys.length)).size=cap*u.size:=by
    simp only[Array.size_append,List.size_toArray,hnl,size_zeroCells,hzs,← Nat.add_mul];congr 1;omega
   refine dP m hun dn hdn (W:=fun _=>False) (ev := .blk w.heap.size (0,ys.length)) cg (fun _ h=>h.elim) (by simp) (fun k l e=>by cases e;exact .inl (Nat.le_refl _)) (fun x=>.inr ⟨w.heap.size,(0,ys.length),cap*u.size,rfl,?_,?_,?_⟩)
   ·refine⟨_,cap,heap_alloc_new w.drew _,by rw[hsize,Nat.zero_add],rfl,hc1,hc2,fun i hi=>?_⟩
    rw[Nat.zero_add]
    have:=mZ (A:=A) (w:=w) (xs:=([]:List u.D)) (ys:=ys) (olds:=[]) (news:=news) (rest:=(Builtin.zeroCells z.cells (cap-ys.length)).toList) (by simp) hnl (by simp) hrdn i (by simpa using hi)
    refine bR (fun _ h=>h) x.keep u _ _ _ _ (fun j _=>?_) this
    rw[zL];rfl
   ·unfold World.shape?
    have hh:=heap_alloc_new w.drew (.cells (news.toArray++Builtin.zeroCells z.cells (cap-ys.length)) e)
    simp only[World.size_drew] at hh
    rw[hh];simp only[hsize]
   ·show _=Value.slice _ _ ((cap*u.size-0)/u.size)
    rw[Nat.sub_zero,Nat.mul_div_cancel _ u.size_pos]
  have hge:=grownCap_ge w ys.length 0 e
  have hcm:=grownCap_le_maxLen w ys.length 0 e hl
  cases p with
  | none =>
   exact⟨_,_,run_append_nil (P:=P) w t ty e i z ht hi hz ⟨b,off,none⟩ ys.length c news (by rw[hnl,hisz]) hnews (by omega) h63 (by omega),fin _ _ _ hge hcm rfl rfl⟩
  | some pa =>
   have hr:=run_append_grow (P:=P) w t ty e i z ht hi hz pa 0 0 [] (by simp) (by simp) ⟨b,off,none⟩ ys.length c news (by rw[hnl,hisz]) hnews (by omega) (by simpa using h63) (growslice_fits (by omega) (by simpa using hby))
   simp only[Nat.zero_add] at hr
   exact⟨_,_,hr,fin _ _ _ hge hcm rfl (by simp)⟩
theorem qG(m:aw w0 N0 A env h w)(f:FD A env w ρ a){t:TypeId}{nm:Nat}{s x:Operand}(ho:o.op = .call {callee := .builtin .append,args := #[s,x],argTypes := #[t,t]})
  (e:(kL P t nm (ag ρ s) (ag ρ x)).run h=some (d,r)) (hp:aB d.pre):av P o a w0 N0 A env h w d:=by
 have ds:=aT f s
 have dx:=aT f x
 have exe:∀{v:Value}{w':World},(Builtin.append_ #[t,t] o.type #[a.eval s,a.eval x]).run P w = .ok v w'→(execOp a.eval o).run P w = .ok (.value v) w':=by
  intro v w' hr
  unfold execOp;rw[ho]
  simp only[resolve,invoke,builtin,Sem.run_bind,Sem.run_pure,Result.andThen_ok,List.map_toArray,List.map_cons,List.map_nil,hr]
 unfold kL at e
 split at e
 ·rename_i E sz he
  obtain⟨hu,hsz⟩:=gr he
  split at e
  ·rename_i i hi
   split at e
   ·rename_i z hb1 hz
    have hb1:1<=i.bytes:=Nat.le_of_ble_eq_true hb1
    split at e
    ·rename_i hzs
     have hzs:z.cells.size=sz:=Nat.eq_of_beq_eq_true hzs
     have hisz:i.size=sz:=by unfold bL at hsz;rw[hi] at hsz;simpa using hsz
     split at e
     ·rename_i n sz' hs
      rw[hs] at ds;simp only[aa] at ds
      simp only[Q.run] at e
      split at e
      ·rename_i p q hk
       simp only[Option.some.injEq,Prod.mk.injEq] at e
       obtain⟨rfl,rfl⟩:=e
       split at hk
       ·rename_i E' u xs hl
        split at hk
        ·rename_i hE h1 h2
         have hE:E'=E:=Nat.eq_of_beq_eq_true hE
         have h1:sz=u.size:=Nat.eq_of_beq_eq_true h1
         have h2:sz'=u.size:=Nat.eq_of_beq_eq_true h2
         subst hE
         obtain⟨ys,q1,q2,e1,e2,rfl⟩:=Q.run_bind _ _ _ hk
         simp only[Q.run] at e2
         split at e2
         ·rename_i p' q' hk'
          simp only[Option.some.injEq,Prod.mk.injEq] at e2
          obtain⟨rfl,rfl⟩:=e2
          split at hk'
          ·rename_i hun
           cases aK hk'
           simp only[Dl.pre,aB,and_true] at hp
           obtain⟨pq,c,ev,hyl,hsrc⟩:=nE m e1 dx
           have hdn:∀ n'∈[n],∃ b,h n' = .live b/\b.mut=true:=by simp[hl,cU.mut]
           rcases ds with⟨hnil,pa,es⟩|⟨b,len,E2,cc,hb,hsh,es⟩
           ·have hx:xs=[]:=by
             have:=m.nm n
             rw[hl] at this
             rcases this with⟨k',l',he',_⟩|⟨_,E3,t3,hb⟩
             ·rw[hnil] at he';cases he'
             ·rcases hb with hb|hb <;> cases hb;rfl
            subst hx
            simp only[List.length_nil,Nat.zero_add] at hp
            obtain⟨v,w',hr,g⟩:=og (P:=P) (ty:=o.type) (p:=pa) (q:=pq) (c:=c) (pre:=[(([]:List u.D).length+ys.length)*i.bytes<=140737488355328]) m hu hsz hi hz hzs hb1 h1 hun [n] hdn hyl hp hsrc
            refine⟨v,w',.inl (exe (by rw[es,ev];exact hr)),?_⟩
            simpa using g
           ·obtain⟨β,len⟩:=len
            obtain⟨cur,cap,hh,hcs,hxl,hlc,hcm,hrd⟩:=(m.live_blk hl hb).1
            simp only at hcs hxl hlc hrd es
            have hcc:cc=cur.size:=by
             unfold World.shape? at hsh;rw[hh] at hsh
             simp only[Option.some.injEq,Prod.mk.injEq] at hsh;exact hsh.2.symm
            have hcap:(cc-β)/sz'=cap:=by rw[hcc,hcs,h2,Nat.add_sub_cancel_left];exact Nat.mul_div_cancel _ u.size_pos
            rw[hcap] at es
            have hne:nm≠n:=fun e'=>by rw[e',hl] at hun;cases hun
            have hnA:=(m.live_blk hl hb).2 rfl
            subst h1
            by_cases h0:ys.length=0
            ·have:ys=[]:=List.eq_nil_of_length_eq_zero h0
             subst this
             refine⟨.slice (some ⟨b,β,none⟩) len cap,w,.inl (exe (by rw[es,ev];exact qp hu hsz _ _ _ _ _ hlc)),?_⟩
             have g:=dP (pre:=[(xs.length+([]:List u.D).length)*i.bytes<=140737488355328]) (v := .slice (some ⟨b,β,none⟩) len cap) (E:=E') (t:=u) (zs:=xs++[]) m hun [n] hdn (W:=fun _=>False) (ev := .blk b (β,len)) (aR.refl w _) (fun _ h=>h.elim) (by simp)
              (fun k l e=>by cases e;exact .inr ⟨n,(β,len),by simp,hb⟩) (fun x=>.inr ⟨b,(β,len),cc,rfl,by rw[List.append_nil];exact (m.live_blk hl hb).1,by rw[hsh];unfold World.shape? at hsh;rw[hh] at hsh;cases hsh;rfl,by rw[← h2,hcap]⟩)
             simpa using g
            ·obtain⟨bb,off,rfl,hrdy⟩:=hsrc.resolve_left h0
             obtain⟨news,hnl,hnc,hn1⟩:=kQ ys off hrdy
             have hnews:∀ j v,news[j]? = some v->w.cell? ((⟨bb,off,none⟩:Addr).add j)=some v:=by
              intro j v hj
              rw[Addr.add_lit,hnc j (List.getElem?_eq_some_iff.1 hj).1];exact hj
             have hrdn:∀ i (hi:i<ys.length),Rd A w u (fun j=>news[j]?) (i*u.size) ys[i]:=fun i hi =>
              fO (hrdy i hi) fun j hj=>by
               have:(i+1)*u.size<=ys.length*u.size:=Nat.mul_le_mul_right _ (by omega)
               rw[Nat.add_mul,Nat.one_mul] at this
               rw[← hnc _ (by omega),Nat.add_assoc]
             have holds:∀ i (hi:i<xs.length),Rd A w u (fun j=>((cur.toList.drop β).take (len*u.size))[j]?) (i*u.size) xs[i]:=fun i hi =>
              fO (hrd i hi) fun j hj=>by
               have:(i+1)*u.size<=len*u.size:=Nat.mul_le_mul_right _ (by omega)
               rw[Nat.add_mul,Nat.one_mul] at this
               rw[List.getElem?_take,if_pos (by omega),List.getElem?_drop,Array.getElem?_toList,Nat.add_assoc]
             have hlec:len*u.size<=cap*u.size:=Nat.mul_le_mul_right _ hlc
             have hol:((cur.toList.drop β).take (len*u.size)).length=xs.length*u.size:=by rw[List.length_take,List.length_drop,Array.length_toList,hxl];omega
             have hlen:(xs++ys).length=len+ys.length:=by rw[List.length_append,hxl]
             have hsum:len+ys.length<=maxLen:=by
              have:(len+ys.length)*1<=(xs.length+ys.length)*i.bytes:=by rw[hxl];exact Nat.mul_le_mul_left _ hb1
              simp only[maxLen];omega
             by_cases hroom:len+ys.length<=cap
             ·have hfit:β+len*u.size+news.length<=cur.size:=by
               have:(len+ys.length)*u.size<=cap*u.size:=Nat.mul_le_mul_right _ hroom
               rw[Nat.add_mul] at this
               rw[hnl,hcs];omega
              have hr:=EN (P:=P) w t o.type E' i hu hi b β len cap cur hh ⟨bb,off,none⟩ ys.length c news (by rw[hnl,hisz]) hnews hn1 hroom (by rw[hisz];exact hfit)
              rw[hisz] at hr
              refine⟨_,_,.inl (exe (by rw[es,ev];exact hr)),?_⟩
              have hsize:(cur.toList.take (β+len*u.size)++news++cur.toList.drop (β+len*u.size+news.length)).toArray.size=cur.size:=by
               simp only[List.size_toArray,List.length_append,List.length_take,List.length_drop,Array.length_toList];omega
              have cg:=aR.setRow w b cur _ E' hh hsize
              refine dP m hun [n] hdn (W:=fun j=>j=b) (ev := .blk b (β,len+ys.length)) cg (fun k hk=>⟨n,(β,len),by simp,hk▸hb⟩) (by simp) (fun k l e=>by cases e;exact .inr ⟨n,(β,len),by simp,hb⟩) (fun x=>.inr ⟨b,(β,len+ys.length),β+cap*u.size,rfl,?_,?_,?_⟩)
              ·refine⟨_,cap,setRow_heap w b cur _ E' _ hh,by rw[hsize,hcs],hlen,hroom,hcm,fun i hi=>?_⟩
               refine bR (fun _ h=>h) x.keep u _ _ _ _ (fun j _=>rfl) (fO (mZ (rest:=cur.toList.drop (β+len*u.size+news.length)) hol hnl holds hrdn i hi) fun j hj=>?_)
               simp only[List.getElem?_toArray]
               rw[List.take_add,List.append_assoc,List.append_assoc,List.getElem?_append_right (by rw[List.length_take,Array.length_toList];omega),List.append_assoc]
               congr 1
               rw[List.length_take,Array.length_toList];omega
              ·unfold World.shape?;rw[setRow_heap w b cur _ E' _ hh];simp only[hsize,hcs]
              ·show _=Value.slice _ _ ((β+cap*u.size-β)/u.size)
               rw[Nat.add_sub_cancel_left,Nat.mul_div_cancel _ u.size_pos]
             ·have holdsc:∀ j v,((cur.toList.drop β).take (len*u.size))[j]? = some v->w.cell? ((⟨b,β,none⟩:Addr).add j)=some v:=by
               intro j v hj
               rw[Addr.add_lit,cell_of_row w b _ cur E' (0,0) hh]
               rw[List.getElem?_take] at hj
               split at hj
               ·rwa [List.getElem?_drop,Array.getElem?_toList] at hj
               ·cases hj
              have hr:=run_append_grow (P:=P) w t o.type E' i z hu hi hz ⟨b,β,none⟩ len cap ((cur.toList.drop β).take (len*u.size)) (by rw[hol,hxl,hisz]) holdsc ⟨bb,off,none⟩ ys.length c news (by rw[hnl,hisz]) hnews (by omega)
               (by simp only[maxLen] at hsum;omega) (growslice_fits (by omega) (by rw[← hxl];exact hp))
              refine⟨_,_,.inl (exe (by rw[es,ev];exact hr)),?_⟩
              have hge:=grownCap_ge w (len+ys.length) cap E'
              have hcm':=grownCap_le_maxLen w (len+ys.length) cap E' hsum
              generalize grownCap w (len+ys.length) cap E'=cap' at *
              have hsize:(((cur.toList.drop β).take (len*u.size)).toArray++news.toArray++Builtin.zeroCells z.cells (cap'-(len+ys.length))).size=cap'*u.size:=by
               simp only[Array.size_append,List.size_toArray,hol,hnl,size_zeroCells,hzs,← Nat.add_mul];congr 1;omega
              have cg:aR w (w.drew.alloc (.cells (((cur.toList.drop β).take (len*u.size)).toArray++news.toArray++Builtin.zeroCells z.cells (cap'-(len+ys.length))) E')) fun _=>False:=(aR.drew w _).trans (aR.alloc w.drew _ _)
              refine dP m hun [n] hdn (W:=fun _=>False) (ev := .blk w.heap.size (0,len+ys.length)) cg (fun _ h=>h.elim) (by simp) (fun k l e=>by cases e;exact .inl (Nat.le_refl _)) (fun x=>.inr ⟨w.heap.size,(0,len+ys.length),cap'*u.size,rfl,?_,?_,?_⟩)
              ·refine⟨_,cap',heap_alloc_new w.drew _,by rw[hsize,Nat.zero_add],hlen,hge,hcm',fun i hi=>?_⟩
               have:=mZ (A:=A) (w:=w) (rest:=(Builtin.zeroCells z.cells (cap'-(len+ys.length))).toList) hol hnl holds hrdn i hi
               rw[Nat.zero_add]
               refine bR (fun _ h=>h) x.keep u _ _ _ _ (fun j _=>?_) this
               rw[sQ]
              ·unfold World.shape?
               have hh':=heap_alloc_new w.drew (.cells (((cur.toList.drop β).take (len*u.size)).toArray++news.toArray++Builtin.zeroCells z.cells (cap'-(len+ys.length))) E')
               simp only[World.size_drew] at hh'
               rw[hh'];simp only[hsize]
              ·show _=Value.slice _ _ ((cap'*u.size-0)/u.size)
               rw[Nat.sub_zero,Nat.mul_div_cancel _ u.size_pos]
          ·cases hk'
         ·cases e2
        ·cases hk
       ·cases hk
      ·cases e
     ·rename_i hs
      rw[hs] at ds;simp only[aa] at ds
      split at e
      ·rename_i u hct
       split at e
       ·rename_i h1
        have h1:sz=u.size:=Nat.eq_of_beq_eq_true h1
        obtain⟨ys,q1,q2,e1,e2,rfl⟩:=Q.run_bind _ _ _ e
        simp only[Q.run] at e2
        split at e2
        ·rename_i p' q' hk'
         simp only[Option.some.injEq,Prod.mk.injEq] at e2
         obtain⟨rfl,rfl⟩:=e2
         split at hk'
         ·rename_i hun
          cases aK hk'
          simp only[Dl.pre,aB,and_true] at hp
          obtain⟨pq,c,ev,hyl,hsrc⟩:=nE m e1 dx
          obtain⟨v,w',hr,g⟩:=og (P:=P) (ty:=o.type) (p:=none) (q:=pq) (c:=c) (pre:=[ys.length*i.bytes<=140737488355328]) m hu hsz hi hz hzs hb1 h1 hun [] (by simp) hyl hp hsrc
          exact⟨v,w',.inl (exe (by rw[ds,ev];exact hr)),g⟩
         ·cases hk'
        ·cases e2
       ·cases e
      ·cases e
     ·rename_i u xs hs
      rw[hs] at ds;simp only[aa] at ds
      split at e
      ·rename_i h1
       have h1:sz=u.size:=Nat.eq_of_beq_eq_true h1
       obtain⟨ys,q1,q2,e1,e2,rfl⟩:=Q.run_bind _ _ _ e
       simp only[Q.run] at e2
       split at e2
       ·rename_i p' q' hk'
        simp only[Option.some.injEq,Prod.mk.injEq] at e2
        obtain⟨rfl,rfl⟩:=e2
        split at hk'
        ·rename_i hun
         cases aK hk'
         simp only[Dl.pre,aB,and_true] at hp
         obtain⟨hp1,rfl⟩:=hp
         obtain⟨_,pa,es⟩:=ds
         obtain⟨pq,c,ev,hyl,hsrc⟩:=nE m e1 dx
         simp only[List.length_nil,Nat.zero_add] at hp1
         obtain⟨v,w',hr,g⟩:=og (P:=P) (ty:=o.type) (p:=pa) (q:=pq) (c:=c) (pre:=[(([]:List u.D).length+ys.length)*i.bytes<=140737488355328,([]:List u.D)=[]]) m hu hsz hi hz hzs hb1 h1 hun [] (by simp) hyl hp1 hsrc
         exact⟨v,w',.inl (exe (by rw[es,ev];exact hr)),g⟩
        ·cases hk'
       ·cases e2
      ·cases e
     ·cases e
    ·cases e
   ·cases e
  ·cases e
 ·cases e
end
end Go.SX

/- SX, part 12: slicing, an array's element: soundness. -/
namespace Go.SX
set_option linter.unusedVariables false
section
variable {P:Program} {w0:World} {N0:bv} {A:Nat->Prop} {env:ai} {h:aI} {w:World} {o:Oper} {a:Act} {ρ:Nat->SV} {d:Dl} {r:List Nat}
theorem ot(len cap:Nat)(lo hi mx:Option Value)(l hh m:Nat)
  (hm:(mx=none/\m=cap)∨∃ k i,mx=some (.int k i)/\0<=i/\i<=cap/\m=i.toNat)
  (hhi:(hi=none/\mx=none/\hh=len)∨∃ k i,hi=some (.int k i)/\0<=i/\i<=m/\hh=i.toNat)
  (hlo:(lo=none/\l=0)∨∃ k i,lo=some (.int k i)/\0<=i/\i<=hh/\l=i.toNat) :
  (Instr.sliceBounds true len cap lo hi mx).run P w = .ok (l,hh,m) w:=by
 rcases hm with⟨rfl,rfl⟩|⟨km,im,rfl,m0,m1,rfl⟩ <;> rcases hhi with⟨rfl,e,rfl⟩|⟨kh,ih,rfl,h0,h1,rfl⟩ <;> rcases hlo with⟨rfl,rfl⟩|⟨kl,il,rfl,l0,l1,rfl⟩ <;>
  first
  | (cases e;done)
  | (simp[Instr.sliceBounds,run_sliceBound, *,-Int.ofNat_toNat])
theorem jp{x:Option Operand}{dflt v:Int}(f:FD A env w ρ a)(e:dZ (x.map (ag ρ)) dflt=some v) :
  (x=none/\v=dflt)∨∃ k y,x=some y/\a.eval y = .int k v:=by
 cases x with
 | none=>simp only[Option.map,dZ] at e;cases e;exact .inl ⟨rfl,rfl⟩
 | some y =>
  have dy:=aT f y
  simp only[Option.map] at e
  unfold dZ at e
  split at e
  ·rename_i hh;cases hh
  ·rename_i k n hh
   cases e
   simp only[Option.some.injEq] at hh
   rw[hh] at dy;simp only[aa] at dy
   exact .inr ⟨k,y,rfl,dy.1⟩
  ·cases e
theorem pP{t:CT}{v:Value}{xs:List t.D}(hs:ep A w t v xs){l hh:Nat}(h1:l<=hh)(h2:hh<=xs.length) :
  ∃ p cap,v = .slice p xs.length cap/\xs.length<=cap/\cap<=maxLen∧∀ m,hh<=m->m<=cap →
   ep A w t (.slice (if m=l then p else p.map (·.add (l*t.size))) (hh-l) (m-l)) (bf xs l hh):=by
 have hlen:(bf xs l hh).length=hh-l:=by simp[bf];omega
 obtain⟨hl,⟨⟨p,rfl⟩,rfl⟩|⟨b,off,cap,rfl,c1,c2,c3,c4⟩⟩:=hs
 ·refine⟨p,0,rfl,Nat.le_refl _,by simp,fun m hm hm'=>?_⟩
  have:m=0:=by omega
  subst this
  have hl0:l=0:=by simp at h2;omega
  have hh0:hh=0:=by simpa using h2
  subst hl0;subst hh0
  exact⟨by simp[bf],.inl ⟨⟨p,by simp⟩,by simp[bf]⟩⟩
 ·refine⟨_,cap,rfl,c1,c2,fun m hm hm'=>⟨by omega,?_⟩⟩
  by_cases hml:m=l
  ·rw[if_pos hml]
   have:hh-l=0:=by omega
   refine .inl ⟨⟨some ⟨b,off,none⟩,by rw[this,hml];simp⟩,?_⟩
   exact List.eq_nil_of_length_eq_zero (by omega)
  ·rw[if_neg hml]
   refine .inr ⟨b,off+l*t.size,m-l,by rw[hlen];simp[Addr.add_lit],by omega,by omega,c3,fun i hi=>?_⟩
   have hi':i<hh-l:=by omega
   have:=c4 (l+i) (by omega)
   have eg:(bf xs l hh)[i]=xs[l+i]:=by simp[bf]
   rw[eg]
   rw[show off+l*t.size+i*t.size=off+(l+i)*t.size from by rw[Nat.add_mul];omega]
   exact this
theorem Bi(m:aw w0 N0 A env h w)(f:FD A env w ρ a){t:TypeId}{x:Operand}{lo hi mx:Option Operand}(ho:o.op = .slice t x lo hi mx)
  (e:(rS P t (ag ρ x) (lo.map (ag ρ)) (hi.map (ag ρ)) (mx.map (ag ρ))).run h=some (d,r)) (hp:aB d.pre):av P o a w0 N0 A env h w d:=by
 have dx:=aT f x
 unfold rS at e
 split at e
 ·rename_i E sz he
  obtain⟨hu,hsz⟩:=gr he
  have exe:∀{p:Option Addr}{len cap l hh m:Nat},a.eval x = .slice p len cap →
    ((mx=none/\m=cap)∨∃ y k i,mx=some y/\a.eval y = .int k i/\0<=i/\i<=cap/\m=i.toNat) →
    ((hi=none/\mx=none/\hh=len)∨∃ y k i,hi=some y/\a.eval y = .int k i/\0<=i/\i<=m/\hh=i.toNat) →
    ((lo=none/\l=0)∨∃ y k i,lo=some y/\a.eval y = .int k i/\0<=i/\i<=hh/\l=i.toNat) →
    (execOp a.eval o).run P w = .ok (.value (.slice (if m=l then p else p.map (·.add (l*sz))) (hh-l) (m-l))) w:=by
   intro p len cap l hh m ev hm hhi hlo
   unfold execOp;rw[ho]
   have hb:=ot (P:=P) (w:=w) len cap (lo.map a.eval) (hi.map a.eval) (mx.map a.eval) l hh m
    (by rcases hm with⟨rfl,rfl⟩|⟨y,k,i,rfl,e1,e2⟩;exact .inl ⟨rfl,rfl⟩;exact .inr ⟨k,i,by simp[e1],e2⟩)
    (by rcases hhi with⟨rfl,rfl,rfl⟩|⟨y,k,i,rfl,e1,e2⟩;exact .inl ⟨rfl,rfl,rfl⟩;exact .inr ⟨k,i,by simp[e1],e2⟩)
    (by rcases hlo with⟨rfl,rfl⟩|⟨y,k,i,rfl,e1,e2⟩;exact .inl ⟨rfl,rfl⟩;exact .inr ⟨k,i,by simp[e1],e2⟩)
   simp only[Instr.sliceAt,Instr.slice,Sem.run_bind,run_underlying hu,Result.andThen_ok,ev,hb,cz hsz,Sem.run_pure]
  have loF:∀{l hh:Int}{len:Nat},dZ (lo.map (ag ρ)) 0=some l->0<=l->l<=hh->((lo=none/\l.toNat=0)∨∃ y k i,lo=some y/\a.eval y = .int k i/\0<=i/\i<=hh.toNat/\l.toNat=i.toNat):=by
   intro l hh len hb h0 h1
   rcases jp f hb with⟨rfl,rfl⟩|⟨k,y,rfl,e1⟩
   ·exact .inl ⟨rfl,rfl⟩
   ·exact .inr ⟨y,k,l,rfl,e1,h0,by omega,rfl⟩
  split at e
  ·rename_i u xs hx
   rw[hx] at dx;simp only[aa] at dx
   split at e
   ·rename_i l hh hs1 hb1 hb2
    have hs1:sz=u.size:=Nat.eq_of_beq_eq_true hs1
    subst hs1
    split at e
    ·rename_i hmx
     cases aK e
     simp only[Dl.pre,aB,and_true] at hp
     have hmx':mx=none:=by cases mx <;> simp_all
     obtain⟨p,cap,ev,c1,c2,c3⟩:=pP dx (l:=l.toNat) (hh:=hh.toNat) (by omega) (by omega)
     refine av.pure m (exe ev (.inl ⟨hmx',rfl⟩) ?_ (loF (len:=0) hb1 hp.1 hp.2.1)) (by simp only[aa];exact c3 cap (by omega) (Nat.le_refl _))
     rcases jp f hb2 with⟨rfl,rfl⟩|⟨k,y,rfl,e1⟩
     ·exact .inl ⟨rfl,hmx',by simp⟩
     ·exact .inr ⟨y,k,hh,rfl,e1,by omega,by omega,rfl⟩
    ·rename_i km mm hmx
     split at e
     case h_2=>cases e
     rename_i ys hhi
     cases aK e
     simp only[Dl.pre,aB,and_true] at hp
     obtain⟨hp1,hp2,hp3,hp4⟩:=hp
     cases mx with
     | none=>cases hmx
     | some y =>
      have dy:=aT f y
      simp only[Option.map,Option.some.injEq] at hmx
      rw[hmx] at dy;simp only[aa] at dy
      obtain⟨p,cap,ev,c1,c2,c3⟩:=pP dx (l:=l.toNat) (hh:=hh.toNat) (by omega) (by omega)
      refine av.pure m (exe ev (.inr ⟨y,km,mm,rfl,dy.1,by omega,by omega,rfl⟩) ?_ (loF (len:=0) hb1 hp1 hp2)) ?_
      ·rcases jp f hb2 with⟨rfl,rfl⟩|⟨k,y',rfl,e1⟩
       ·cases hhi
       ·exact .inr ⟨y',k,hh,rfl,e1,by omega,by omega,rfl⟩
      ·simp only[aa]
       have hlen:(bf xs l.toNat hh.toNat).length=hh.toNat-l.toNat:=by simp[bf];omega
       exact⟨c3 mm.toNat (by omega) (by omega),_,by rw[hlen];congr 1;omega⟩
    ·cases e
   ·cases e
  ·rename_i n sz' hx
   rw[hx] at dx;simp only[aa] at dx
   split at e
   ·rename_i hmx
    have hmx':mx=none:=by cases mx <;> simp_all
    simp only[Q.run] at e
    split at e
    ·rename_i p q hk
     simp only[Option.some.injEq,Prod.mk.injEq] at e
     obtain⟨rfl,rfl⟩:=e
     have fin:∀{E':TypeId}{u:CT}{xs:List u.D}{l hh:Int}{A':Nat->Prop}{h':aI},aw w0 N0 A' env h' w->aW A env w A' env w->(h n = .live (.row E' u xs)∨h n = .live (.frz E' u xs)) →
       h' n = .live (.frz E' u xs)->sz=u.size->sz'=u.size →
       dZ (lo.map (ag ρ)) 0=some l->dZ (hi.map (ag ρ)) xs.length=some hh->0<=l->l<=hh->hh<=xs.length →
       ∃ v,(execOp a.eval o).run P w = .ok (.value v) w/\aa A' env w (.dsl u (bf xs l.toNat hh.toNat)) v:=by
      intro E' u xs l hh A' h' m' x' hl hl' h1 h2 hb1 hb2 p1 p2 p3
      have hrs:ep A' w u (a.eval x) xs:=by
       rcases dx with⟨hnil,pa,ev⟩|⟨b,len,E2,c,hb,hsh,ev⟩
       ·have hx0:xs=[]:=by
         have:=m'.nm n
         rw[hl'] at this
         rcases this with⟨k',l',he',_⟩|⟨_,E3,t3,hb⟩
         ·rw[hnil] at he';cases he'
         ·rcases hb with hb|hb <;> cases hb;rfl
        subst hx0
        exact⟨by simp,.inl ⟨⟨pa,ev⟩,rfl⟩⟩
       ·have hbd:=(m'.live_blk hl' hb).1
        rw[ev,h2]
        exact lV (fun _ h=>h) hbd.2 hbd.1 hsh
      subst h1
      obtain⟨p,cap,ev,c1,c2,c3⟩:=pP hrs (l:=l.toNat) (hh:=hh.toNat) (by omega) (by omega)
      refine⟨_,exe ev (.inl ⟨hmx',rfl⟩) ?_ (loF (len:=0) hb1 p1 p2),by simp only[aa];exact c3 cap (by omega) (Nat.le_refl _)⟩
      rcases jp f hb2 with⟨rfl,rfl⟩|⟨k,y,rfl,e1⟩
      ·exact .inl ⟨rfl,hmx',by simp⟩
      ·exact .inr ⟨y,k,hh,rfl,e1,by omega,by omega,rfl⟩
     split at hk
     ·rename_i E' u xs hl
      split at hk
      ·rename_i l hh h1 h2 hb1 hb2
       cases aK hk
       simp only[Dl.pre,aB,and_true] at hp
       have ok:dW h [(n,.live (.frz E' u xs))]:=by
        intro n' b hb
        simp only[List.mem_singleton,Prod.mk.injEq] at hb
        obtain⟨rfl,rfl⟩:=hb
        exact⟨E',u,xs,hl,rfl⟩
       obtain⟨m2,x2⟩:=m.freeze ok
       obtain⟨v,hr,hd⟩:=fin m2 x2 (.inl hl) (by simp[aM]) (Nat.eq_of_beq_eq_true h1) (Nat.eq_of_beq_eq_true h2) hb1 hb2 hp.1 hp.2.1 hp.2.2
       exact⟨v,w,.inl hr,(),_,env,trivial,m2,x2,hd⟩
      ·cases hk
     ·rename_i E' u xs hl
      split at hk
      ·rename_i l hh h1 h2 hb1 hb2
       cases aK hk
       simp only[Dl.pre,aB,and_true] at hp
       obtain⟨v,hr,hd⟩:=fin m aW.refl (.inr hl) hl (Nat.eq_of_beq_eq_true h1) (Nat.eq_of_beq_eq_true h2) hb1 hb2 hp.1 hp.2.1 hp.2.2
       exact av.pure m hr hd
      ·cases hk
     ·cases hk
    ·cases e
   ·cases e
  ·rename_i hx
   rw[hx] at dx;simp only[aa] at dx
   split at e
   ·rename_i l hh hb1 hb2 hmx
    have hmx':mx=none:=by cases mx <;> simp_all
    cases aK e
    simp only[Dl.pre,aB,and_true] at hp
    obtain⟨rfl,rfl⟩:=hp
    have hr:=exe (l:=0) (hh:=0) (m:=0) dx (.inl ⟨hmx',rfl⟩) (by
     rcases jp f hb2 with⟨rfl,_⟩|⟨k,y,rfl,e1⟩
     ·exact .inl ⟨rfl,hmx',rfl⟩
     ·exact .inr ⟨y,k,0,rfl,e1,by omega,by omega,rfl⟩) (by
     rcases jp f hb1 with⟨rfl,_⟩|⟨k,y,rfl,e1⟩
     ·exact .inl ⟨rfl,rfl⟩
     ·exact .inr ⟨y,k,0,rfl,e1,by omega,by omega,rfl⟩)
    exact av.pure m hr (by simp[aa])
   ·cases e
  ·cases e
 ·cases e
def qQ(P:Program)(t:TypeId)(nm:Nat)(x:SV)(lo hi mx:Option SV):Q Dl:=match fK P t,lo,hi,mx with
 | some (_,sz),none,some (.int _ hh),none=>match x with
  | .own n sz' => .ask n fun
   | .live (.row E u xs)=>match Nat.beq sz u.size,Nat.beq sz' u.size with
    | true,true => .ask nm fun
     | .un => .ret (.det [0<=hh,hh<=xs.length] (.own nm sz) [(nm,.live (.row E u (xs.take hh.toNat))),(n,.dead)])
     | _ => .fail
    | _,_ => .fail
   | _ => .fail
  | _ => .fail
 | some (_,sz),some (.int _ l),none,none=>match x with
  | .own n sz' => .ask n fun
   | .live (.row E u xs)=>match Nat.beq sz u.size,Nat.beq sz' u.size with
    | true,true => .ask nm fun
     | .un => .ret (.det [0<=l,l<=xs.length] (.own nm sz) [(nm,.live (.row E u (xs.drop l.toNat))),(n,.dead)])
     | _ => .fail
    | _,_ => .fail
   | _ => .fail
  | _ => .fail
 | _,_,_,_ => .fail
def rQ(P:Program)(t tn:TypeId)(nm:Nat)(s x:SV):Q Dl:=match fK P t,s,x,P.underlying tn with
 | some (e,sz),.nilsl,.int _ n,some (.int _)=>match j3 P 8 e,zeroCells P e,P.info? e with
  | some u,some z,some i=>match Nat.beq u.size sz,Nat.beq z.length sz,Nat.ble 1 i.bytes,cC u z with
   | true,true,true,.ret (d,_,[]) => .ask nm fun
    | .un => .ret (.det [0<=n,n*(i.bytes:Int)<=140737488355328] (.own nm sz) [(nm,.live (.row e u (List.replicate n.toNat d)))])
    | _ => .fail
   | _,_,_,_ => .fail
  | _,_,_ => .fail
 | _,_,_,_ => .fail
def iB(P:Program)(t:TypeId)(x:SV):Q Dl:=match P.underlying t,x with
 | some (.slice _),.nilsl=>aL (.int .i64 0)
 | _,_ => .fail
theorem zD(m:aw w0 N0 A env h w)(f:FD A env w ρ a){t:TypeId}{x:Operand}(ho:o.op = .call {callee := .builtin .cap,args := #[x],argTypes := #[t]})
  (e:(iB P t (ag ρ x)).run h=some (d,r)):av P o a w0 N0 A env h w d:=by
 have dx:=aT f x
 unfold iB at e
 split at e
 ·rename_i E hu hx
  rw[hx] at dx;simp only[aa] at dx
  unfold aL at e
  cases aK e
  refine av.pure m (v := .int .i64 0) ?_ (by simp only[aa];exact⟨trivial,vh (by decide)⟩)
  unfold execOp;rw[ho]
  simp[resolve,invoke,builtin,Builtin.cap_,run_underlying hu,dx,goInt]
 ·cases e
theorem DE(m:aw w0 N0 A env h w)(f:FD A env w ρ a){t:TypeId}{nm:Nat}{x:Operand}{lo hi mx:Option Operand}(ho:o.op = .slice t x lo hi mx)
  (e:(qQ P t nm (ag ρ x) (lo.map (ag ρ)) (hi.map (ag ρ)) (mx.map (ag ρ))).run h=some (d,r)) (hp:aB d.pre):av P o a w0 N0 A env h w d:=by
 have dx:=aT f x
 unfold qQ at e
 split at e
 case h_3=>cases e
 ·rename_i E sz kh hh he hlo hhi hmx
  obtain⟨hu,hsz⟩:=gr he
  have hlo':lo=none:=by cases lo <;> simp_all
  have hmx':mx=none:=by cases mx <;> simp_all
  subst hlo' hmx'
  cases hi with
  | none=>cases hhi
  | some y =>
  simp only[Option.map,Option.some.injEq] at hhi
  have dy:=aT f y
  rw[hhi] at dy;simp only[aa] at dy
  split at e
  case h_2=>cases e
  rename_i n sz' hx
  rw[hx] at dx;simp only[aa] at dx
  simp only[Q.run] at e
  split at e
  case h_2=>cases e
  rename_i p q hk
  simp only[Option.some.injEq,Prod.mk.injEq] at e
  obtain⟨rfl,rfl⟩:=e
  split at hk
  case h_2=>cases hk
  rename_i E' u xs hl
  split at hk
  case h_2=>cases hk
  rename_i hs1 hs2
  have hs1:sz=u.size:=Nat.eq_of_beq_eq_true hs1
  have hs2:sz'=u.size:=Nat.eq_of_beq_eq_true hs2
  subst hs1
  simp only[Q.run] at hk
  split at hk
  case h_2=>cases hk
  rename_i p' q' hk'
  simp only[Option.some.injEq,Prod.mk.injEq] at hk
  obtain⟨rfl,rfl⟩:=hk
  split at hk'
  case h_2=>cases hk'
  rename_i hun
  cases aK hk'
  simp only[Dl.pre,aB,and_true] at hp
  have exe:∀{p:Option Addr}{len cap:Nat},a.eval x = .slice p len cap->hh.toNat<=cap->(execOp a.eval o).run P w = .ok (.value (.slice p hh.toNat cap)) w:=by
   intro p len cap ev hc
   unfold execOp;rw[ho]
   have hb:=ot (P:=P) (w:=w) len cap none (some (a.eval y)) none 0 hh.toNat cap (.inl ⟨rfl,rfl⟩) (.inr ⟨kh,hh,by rw[dy.1],hp.1,by omega,rfl⟩) (.inl ⟨rfl,rfl⟩)
   simp only[Option.map,Instr.sliceAt,Instr.slice,Sem.run_bind,run_underlying hu,Result.andThen_ok,ev,hb,cz hsz,Sem.run_pure,Nat.zero_mul,Nat.sub_zero]
   congr 3
   split
   ·rfl
   ·cases p <;> simp[Addr.add]
  have hdn:∀ n'∈[n],∃ b,h n' = .live b/\b.mut=true:=by simp[hl,cU.mut]
  rcases dx with⟨hnil,pa,es⟩|⟨b,len,E2,cc,hb,hsh,es⟩
  ·have hx:xs=[]:=by
    have:=m.nm n
    rw[hl] at this
    rcases this with⟨k',l',he',_⟩|⟨_,E3,t3,hb⟩
    ·rw[hnil] at he';cases he'
    ·rcases hb with hb|hb <;> cases hb;rfl
   subst hx
   have h0:hh.toNat=0:=by simp at hp;omega
   have g:=dP (pre:=[0<=hh,hh<=([]:List u.D).length]) (v := .slice pa 0 0) (E:=E') (t:=u) (zs:=([]:List u.D).take hh.toNat) m hun [n] hdn (W:=fun _=>False) (ev := .nil) (aR.refl w _) (fun _ h=>h.elim) (by simp)
    (fun k l e=>by cases e) (fun _=>.inl ⟨rfl,by simp,pa,rfl⟩)
   exact⟨_,w,.inl (exe es (by omega)),by rw[h0];simpa using g⟩
  ·obtain⟨β,len⟩:=len
   obtain⟨cur,cap,hhp,hcs,hxl,hlc,hcm,hrd⟩:=(m.live_blk hl hb).1
   simp only at hcs hxl hlc hrd es
   have hcc:cc=cur.size:=by
    unfold World.shape? at hsh;rw[hhp] at hsh
    simp only[Option.some.injEq,Prod.mk.injEq] at hsh;exact hsh.2.symm
   have hcap:(cc-β)/sz'=cap:=by rw[hcc,hcs,hs2,Nat.add_sub_cancel_left];exact Nat.mul_div_cancel _ u.size_pos
   rw[hcap] at es
   have hle:hh.toNat<=xs.length:=by omega
   have g:=dP (pre:=[0<=hh,hh<=xs.length]) (v := .slice (some ⟨b,β,none⟩) hh.toNat cap) (E:=E') (t:=u) (zs:=xs.take hh.toNat) m hun [n] hdn (W:=fun _=>False) (ev := .blk b (β,hh.toNat)) (aR.refl w _) (fun _ h=>h.elim) (by simp)
    (fun k l e=>by cases e;exact .inr ⟨n,(β,len),by simp,hb⟩) (fun x=>.inr ⟨b,(β,hh.toNat),cc,rfl,⟨cur,cap,hhp,hcs,by simp;omega,by omega,hcm,fun i hi=>?_⟩,by rw[hsh];unfold World.shape? at hsh;rw[hhp] at hsh;cases hsh;rfl,by rw[← hs2,hcap]⟩)
   ·exact⟨_,w,.inl (exe es (by omega)),by simpa using g⟩
   ·have hi':i<xs.length:=by simp at hi;omega
    rw[List.getElem_take]
    exact hrd i hi'
 ·rename_i E sz kl l he hlo hhi hmx
  obtain⟨hu,hsz⟩:=gr he
  have hhi':hi=none:=by cases hi <;> simp_all
  have hmx':mx=none:=by cases mx <;> simp_all
  subst hhi' hmx'
  cases lo with
  | none=>cases hlo
  | some y =>
  simp only[Option.map,Option.some.injEq] at hlo
  have dy:=aT f y
  rw[hlo] at dy;simp only[aa] at dy
  split at e
  case h_2=>cases e
  rename_i n sz' hx
  rw[hx] at dx;simp only[aa] at dx
  simp only[Q.run] at e
  split at e
  case h_2=>cases e
  rename_i p q hk
  simp only[Option.some.injEq,Prod.mk.injEq] at e
  obtain⟨rfl,rfl⟩:=e
  split at hk
  case h_2=>cases hk
  rename_i E' u xs hl
  split at hk
  case h_2=>cases hk
  rename_i hs1 hs2
  have hs1:sz=u.size:=Nat.eq_of_beq_eq_true hs1
  have hs2:sz'=u.size:=Nat.eq_of_beq_eq_true hs2
  subst hs1
  simp only[Q.run] at hk
  split at hk
  case h_2=>cases hk
  rename_i p' q' hk'
  simp only[Option.some.injEq,Prod.mk.injEq] at hk
  obtain⟨rfl,rfl⟩:=hk
  split at hk'
  case h_2=>cases hk'
  rename_i hun
  cases aK hk'
  simp only[Dl.pre,aB,and_true] at hp
  have exe:∀{p:Option Addr}{len cap:Nat},a.eval x = .slice p len cap->l.toNat<=len->(execOp a.eval o).run P w = .ok (.value (.slice (if cap=l.toNat then p else p.map (·.add (l.toNat*u.size))) (len-l.toNat) (cap-l.toNat))) w:=by
   intro p len cap ev hc
   unfold execOp;rw[ho]
   have hb:=ot (P:=P) (w:=w) len cap (some (a.eval y)) none none l.toNat len cap (.inl ⟨rfl,rfl⟩) (.inl ⟨rfl,rfl,rfl⟩) (.inr ⟨kl,l,by rw[dy.1],hp.1,by omega,rfl⟩)
   simp only[Option.map,Instr.sliceAt,Instr.slice,Sem.run_bind,run_underlying hu,Result.andThen_ok,ev,hb,cz hsz,Sem.run_pure]
  have hdn:∀ n'∈[n],∃ b,h n' = .live b/\b.mut=true:=by simp[hl,cU.mut]
  rcases dx with⟨hnil,pa,es⟩|⟨b,len,E2,cc,hb,hsh,es⟩
  ·have hx:xs=[]:=by
    have:=m.nm n
    rw[hl] at this
    rcases this with⟨k',l',he',_⟩|⟨_,E3,t3,hb⟩
    ·rw[hnil] at he';cases he'
    ·rcases hb with hb|hb <;> cases hb;rfl
   subst hx
   have h0:l.toNat=0:=by simp at hp;omega
   have g:=dP (pre:=[0<=l,l<=([]:List u.D).length]) (v := .slice pa 0 0) (E:=E') (t:=u) (zs:=([]:List u.D).drop l.toNat) m hun [n] hdn (W:=fun _=>False) (ev := .nil) (aR.refl w _) (fun _ h=>h.elim) (by simp)
    (fun k l e=>by cases e) (fun _=>.inl ⟨rfl,by simp,pa,rfl⟩)
   have ex:=exe es (by omega)
   rw[h0] at ex
   exact⟨_,w,.inl ex,by simpa[h0] using g⟩
  ·obtain⟨β,len⟩:=len
   obtain⟨cur,cap,hhp,hcs,hxl,hlc,hcm,hrd⟩:=(m.live_blk hl hb).1
   simp only at hcs hxl hlc hrd es
   have hcc:cc=cur.size:=by
    unfold World.shape? at hsh;rw[hhp] at hsh
    simp only[Option.some.injEq,Prod.mk.injEq] at hsh;exact hsh.2.symm
   have hcap:(cc-β)/sz'=cap:=by rw[hcc,hcs,hs2,Nat.add_sub_cancel_left];exact Nat.mul_div_cancel _ u.size_pos
   rw[hcap] at es
   have hle:l.toNat<=xs.length:=by omega
   have ex:=exe es (by omega)
   by_cases hfull:cap=l.toNat
   ·rw[if_pos hfull] at ex
    have hz:xs.drop l.toNat=[]:=List.drop_eq_nil_of_le (by omega)
    have g:=dP (pre:=[0<=l,l<=xs.length]) (v := .slice (some ⟨b,β,none⟩) 0 0) (E:=E') (t:=u) (zs:=xs.drop l.toNat) m hun [n] hdn (W:=fun _=>False) (ev := .nil) (aR.refl w _) (fun _ h=>h.elim) (by simp)
     (fun k l e=>by cases e) (fun _=>.inl ⟨rfl,hz,_,rfl⟩)
    rw[show len-l.toNat=0 by omega,show cap-l.toNat=0 by omega] at ex
    exact⟨_,w,.inl ex,by simpa using g⟩
   ·rw[if_neg hfull] at ex
    have hmul:l.toNat*u.size+(cap-l.toNat)*u.size=cap*u.size:=by rw[← Nat.add_mul];congr 1;omega
    have g:=dP (pre:=[0<=l,l<=xs.length]) (v := .slice (some ⟨b,β+l.toNat*u.size,none⟩) (len-l.toNat) (cap-l.toNat)) (E:=E') (t:=u) (zs:=xs.drop l.toNat) m hun [n] hdn (W:=fun _=>False) (ev := .blk b (β+l.toNat*u.size,len-l.toNat)) (aR.refl w _) (fun _ h=>h.elim) (by simp)
     (fun k l e=>by cases e;exact .inr ⟨n,(β,len),by simp,hb⟩) (fun x=>.inr ⟨b,(β+l.toNat*u.size,len-l.toNat),cc,rfl,⟨cur,cap-l.toNat,hhp,by rw[hcs,Nat.add_assoc,hmul],by simp only[List.length_drop];omega,by omega,by omega,fun i hi=>?_⟩,by rw[hsh];unfold World.shape? at hsh;rw[hhp] at hsh;cases hsh;rfl,by
      show _=Value.slice _ _ ((cc-(β+l.toNat*u.size))/u.size)
      rw[hcc,hcs,show β+cap*u.size-(β+l.toNat*u.size)=(cap-l.toNat)*u.size by rw[← hmul];omega,Nat.mul_div_cancel _ u.size_pos]⟩)
    ·exact⟨_,w,.inl ex,by simpa only[Option.map,Addr.add_lit,List.map_cons,List.map_nil] using g⟩
    ·have hi':i+l.toNat<xs.length:=by simp at hi;omega
     rw[List.getElem_drop]
     have:=hrd (l.toNat+i) (by omega)
     rw[show β+(l.toNat+i)*u.size=β+l.toNat*u.size+i*u.size by rw[Nat.add_mul];omega] at this
     exact this
theorem u9(z:Array Value)(n:Nat)(hz:0<z.size):(Builtin.zeroCells z n).toList=cQ z.toList n:=by
 apply List.ext_getElem?
 intro i
 by_cases hi:i<n*z.size
 ·rw[lv _ _ _ (by simpa using hi)]
  unfold Builtin.zeroCells
  have hm:i%z.size<z.size:=Nat.mod_lt _ hz
  rw[Array.getElem?_toList,Array.getElem?_map,Array.getElem?_range,if_pos hi]
  simp[hm]
 ·rw[List.getElem?_eq_none (by simp[Builtin.zeroCells];omega),List.getElem?_eq_none (by rw[ou];simp;omega)]
theorem zB(m:aw w0 N0 A env h w)(f:FD A env w ρ a){t tn:TypeId}{nm:Nat}{s x:Operand}(ho:o.op = .call {callee := .builtin .append,args := #[s,x],argTypes := #[t,tn]})
  (e:(rQ P t tn nm (ag ρ s) (ag ρ x)).run h=some (d,r)) (hp:aB d.pre):av P o a w0 N0 A env h w d:=by
 have ds:=aT f s
 have dx:=aT f x
 have exe:∀{v:Value}{w':World},(Builtin.append_ #[t,tn] o.type #[a.eval s,a.eval x]).run P w = .ok v w'→(execOp a.eval o).run P w = .ok (.value v) w':=by
  intro v w' hr
  unfold execOp;rw[ho]
  simp only[resolve,invoke,builtin,Sem.run_bind,Sem.run_pure,Result.andThen_ok,List.map_toArray,List.map_cons,List.map_nil,hr]
 unfold rQ at e
 split at e
 case h_2=>cases e
 rename_i E sz kn n kt he hs hx hut
 obtain⟨hu,hsz⟩:=gr he
 rw[hs] at ds;rw[hx] at dx
 simp only[aa] at ds dx
 split at e
 case h_2=>cases e
 rename_i u z i hct hz hi
 split at e
 case h_2=>cases e
 rename_i dd rest hb1 hb2 hb3 hpz
 have hb1:u.size=sz:=Nat.eq_of_beq_eq_true hb1
 have hb2:z.length=sz:=Nat.eq_of_beq_eq_true hb2
 have hb3:1<=i.bytes:=Nat.le_of_ble_eq_true hb3
 subst hb1
 simp only[Q.run] at e
 split at e
 case h_2=>cases e
 rename_i p q hk
 simp only[Option.some.injEq,Prod.mk.injEq] at e
 obtain⟨rfl,rfl⟩:=e
 split at hk
 case h_2=>cases hk
 rename_i hun
 cases aK hk
 simp only[Dl.pre,aB,and_true] at hp
 obtain⟨h0,hby⟩:=hp
 obtain⟨i',zv,hi',hzv,dz,_⟩:=lr (A:=A) (env:=env) (w:=w) hz
 rw[hi] at hi';cases hi'
 have hzl:zv.cells.size=u.size:=by rw[← Array.length_toList,cm dz,hb2]
 have hisz:i.size=u.size:=by
  unfold bL at hsz;rw[hi] at hsz;simpa using hsz
 obtain⟨k,rfl⟩:=Int.eq_ofNat_of_zero_le h0
 have hkb:k*i.bytes<=140737488355328:=by
  have:((k*i.bytes:Nat):Int)<=140737488355328:=by rw[Int.natCast_mul];exact hby
  omega
 have hk1:k<=k*i.bytes:=Nat.le_mul_of_pos_right k (by omega)
 by_cases hk0:k=0
 ·subst hk0
  have hr:(Builtin.append_ #[t,tn] o.type #[a.eval s,a.eval x]).run P w = .ok (.slice none 0 0) w:=by
   rw[ds,dx.1]
   have hw:IntKind.i64.wrap ((0:Nat):Int)=0:=by decide
   have hut':P.underlying tn=some (.int kt):=hut
   have hai:(asIntOf (Value.int kn 0)).run P w = .ok (kn,0) w:=by simp[asIntOf]
   unfold Builtin.append_
   simp[run_underlying hu,run_underlying hut',cz hsz,typeInfo,hi,asInt,hai,show IntKind.i64.wrap 0=0 from by decide]
  refine⟨_,w,.inl (exe hr),?_⟩
  have g:=dP (pre:=[0<=((0:Nat):Int),((0:Nat):Int)*(i.bytes:Int)<=140737488355328]) (v := .slice none 0 0) (E:=E) (t:=u) (zs:=List.replicate (((0:Nat):Int)).toNat dd) m hun [] (by simp) (W:=fun _=>False) (ev := .nil) (aR.refl w _) (fun _ h=>h.elim) (by simp)
   (fun k l e=>by cases e) (fun _=>.inl ⟨rfl,by simp,none,rfl⟩)
  simpa using g
 ·have hr:=Go.Lib.run_append_nil_zeros (P:=P) w t tn o.type E i zv kn kt hu hut hi hzv k (by omega) (by rw[hisz];exact u.size_pos) (by omega) (by omega)
  rw[← ds,← dx.1] at hr
  refine⟨_,_,.inl (exe hr),?_⟩
  have hge:=grownCap_ge w k 0 E
  have hcm:=grownCap_le_maxLen w k 0 E (by simp only[maxLen];omega)
  generalize grownCap w k 0 E=cap at *
  have hproj:=f5 m u z zv.cells.toList dd rest [] [] (by rw[hpz];rfl) dz (A':=A) (fun _ hb=>hb) (fun k ⟨n,b,l,hh,_⟩=>by simp at hh)
  have hall:(Builtin.zeroCells zv.cells k++Builtin.zeroCells zv.cells (cap-k)).toList=cQ zv.cells.toList cap:=by
   rw[Array.toList_append,u9 _ _ (by rw[hzl];exact u.size_pos),u9 _ _ (by rw[hzl];exact u.size_pos)]
   have radd:∀(l:List Value)(a b:Nat),cQ l a++cQ l b=cQ l (a+b):=by
    intro l a b
    induction a with
    | zero=>simp[cQ]
    | succ a ih=>rw[Nat.succ_add];simp only[cQ,List.append_assoc,ih]
   rw[radd];congr 1;omega
  have hsize:(Builtin.zeroCells zv.cells k++Builtin.zeroCells zv.cells (cap-k)).size=cap*u.size:=by
   rw[← Array.length_toList,hall,ou,Array.length_toList,hzl]
  have cg:aR w (w.drew.alloc (.cells (Builtin.zeroCells zv.cells k++Builtin.zeroCells zv.cells (cap-k)) E)) fun _=>False:=(aR.drew w _).trans (aR.alloc w.drew _ _)
  have g:=dP (pre:=[0<=((k:Nat):Int),((k:Nat):Int)*(i.bytes:Int)<=140737488355328]) (v := .slice (some ⟨w.heap.size,0,none⟩) k cap) (E:=E) (t:=u) (zs:=List.replicate ((k:Nat):Int).toNat dd) m hun [] (by simp) (W:=fun _=>False) (ev := .blk w.heap.size (0,k)) cg (fun _ h=>h.elim) (by simp)
   (fun k l e=>by cases e;exact .inl (Nat.le_refl _)) (fun x=>.inr ⟨w.heap.size,(0,k),cap*u.size,rfl,⟨_,cap,heap_alloc_new w.drew _,by rw[hsize,Nat.zero_add],by simp,hge,hcm,fun j hj=>?_⟩,?_,?_⟩)
  ·simpa using g
  ·simp only[List.length_replicate,Int.toNat_natCast] at hj
   rw[List.getElem_replicate]
   have sh:=jK hproj.2.2.2.1 (j*u.size)
   rw[Nat.zero_add] at sh
   rw[Nat.zero_add]
   refine bR (fun _ h=>h) x.keep u _ _ _ _ (fun q hq=>?_) sh
   have hlt:j*u.size+q<cap*u.size:=by
    have:(j+1)*u.size<=cap*u.size:=Nat.mul_le_mul_right _ (by omega)
    rw[Nat.add_mul,Nat.one_mul] at this;omega
   rw[← Array.getElem?_toList,hall,lv _ _ _ (by simpa[hzl] using hlt)]
   congr 1
   simp only[Array.length_toList,hzl]
   rw[Nat.add_comm,Nat.add_mul_mod_self_right,Nat.mod_eq_of_lt hq]
   omega
  ·unfold World.shape?
   have hh:=heap_alloc_new w.drew (.cells (Builtin.zeroCells zv.cells k++Builtin.zeroCells zv.cells (cap-k)) E)
   simp only[World.size_drew] at hh
   rw[hh];simp only[hsize]
  ·show _=Value.slice _ _ ((cap*u.size-0)/u.size)
   rw[Nat.sub_zero,Nat.mul_div_cancel _ u.size_pos]
theorem n7{xs:List Int}{v:Value}(h:ep A w (.int .u8) v xs){src e:TypeId}(hs:P.underlying src=some (.slice e))(he:P.underlying e=some (.int .u8)){dst:TypeId}(hd:P.underlying dst=some .string) :
  (convert src dst v).run P w = .ok (.string (strOfNums xs)) w:=by
 obtain⟨hl,⟨⟨a,rfl⟩,hx⟩|⟨b,off,cap,rfl,h1,h2,h3,h4⟩⟩:=h
 ·have hx:xs=[]:=hx
  subst hx
  rw[run_convert_bytes_string w src dst e _ 0 0 hs he hd]
  cases a <;> simp[Conv.bytesToString,loadCells]
  all_goals rfl
 ·refine run_convert_bytes_arg (P:=P) w src e hs he b off xs.length cap xs rfl (fun i hi=>?_) dst hd
  have:=(h4 i hi).1
  simp only[CT.size,Nat.mul_one] at this
  rw[this,List.getD_eq_getElem?_getD,List.getElem?_eq_getElem hi,Option.getD_some]
theorem AB{xs:List Int}{k c:Nat}{len:Nat×Nat}{E:TypeId}(h:ef A w k len E (.int .u8) xs){src e:TypeId}(hs:P.underlying src=some (.slice e))(he:P.underlying e=some (.int .u8)){dst:TypeId}(hd:P.underlying dst=some .string) :
  (convert src dst (.slice (some ⟨k,len.1,none⟩) len.2 c)).run P w = .ok (.string (strOfNums xs)) w:=by
 obtain⟨vs,cap,h0,h1,h2,h3,h4,h5⟩:=h
 refine run_convert_bytes_arg (P:=P) w src e hs he k len.1 len.2 c xs h2 (fun i hi=>?_) dst hd
 have hi':i<xs.length:=by omega
 have:=(h5 i hi').1
 simp only[CT.size,Nat.mul_one] at this
 rw[cell_of_row w k _ vs E (0,0) h0,this,List.getD_eq_getElem?_getD,List.getElem?_eq_getElem hi',Option.getD_some]
def pE(P:Program)(src:TypeId)(x:SV):Q Dl:=match P.underlying src with
 | some (.slice e)=>match P.underlying e with
  | some (.int .u8)=>match x with
   | .dsl t xs=>match bQ t (.int .u8) xs with
    | some ys=>aL (.str (strOfNums ys))
    | none => .fail
   | .dsx t xs=>match bQ t (.int .u8) xs with
    | some ys=>aL (.str (strOfNums ys))
    | none => .fail
   | .nilsl=>aL (.str (strOfNums []))
   | .own n sz => .ask n fun
    | .live (.row _ t xs)=>match bQ t (.int .u8) xs with
     | some ys=>aL (.str (strOfNums ys))
     | none => .fail
    | .live (.frz _ t xs)=>match bQ t (.int .u8) xs with
     | some ys=>aL (.str (strOfNums ys))
     | none => .fail
    | _ => .fail
   | _ => .fail
  | _ => .fail
 | _ => .fail
theorem l8{xs:List Int}{v:Value}(hl:xs.length<=maxLen):aa A env w (.str (strOfNums xs)) (.string (strOfNums xs)):=by
 simp only[aa];exact⟨trivial,by rw[strOfNums_size];exact hl⟩
theorem BS(m:aw w0 N0 A env h w)(f:FD A env w ρ a){s t:TypeId}{x:Operand}(ho:o.op = .convert s t x)(ht:P.underlying t=some .string)
  (e:(pE P s (ag ρ x)).run h=some (d,r)):av P o a w0 N0 A env h w d:=by
 have dx:=aT f x
 have go:∀{v:Value},(convert s t (a.eval x)).run P w = .ok v w->(execOp a.eval o).run P w = .ok (.value v) w:=by
  intro v hr
  unfold execOp;rw[ho]
  simp only[Sem.run_bind,hr,Result.andThen_ok,Sem.run_pure]
 unfold pE at e
 split at e
 ·rename_i el hs
  split at e
  ·rename_i he
   split at e
   ·rename_i u xs hx
    rw[hx] at dx;simp only[aa] at dx
    split at e
    ·rename_i ys hc
     obtain⟨et,ez⟩:=cD hc
     subst et;simp only at ez;subst ez
     unfold aL at e
     cases aK e
     exact av.pure m (go (n7 dx hs he ht)) (l8 (v:=a.eval x) dx.1)
    ·cases e
   ·rename_i u xs hx
    rw[hx] at dx;simp only[aa] at dx
    split at e
    ·rename_i ys hc
     obtain⟨et,ez⟩:=cD hc
     subst et;simp only at ez;subst ez
     unfold aL at e
     cases aK e
     exact av.pure m (go (n7 dx.1 hs he ht)) (l8 (v:=a.eval x) dx.1.1)
    ·cases e
   ·rename_i hx
    rw[hx] at dx;simp only[aa] at dx
    unfold aL at e
    cases aK e
    refine av.pure m (go ?_) (l8 (v:=a.eval x) (by simp))
    rw[dx]
    exact n7 (A:=A) (xs:=[]) ⟨by simp,.inl ⟨⟨_,rfl⟩,rfl⟩⟩ hs he ht
   ·rename_i n sz hx
    rw[hx] at dx;simp only[aa] at dx
    simp only[Q.run] at e
    split at e
    ·rename_i p q hk
     simp only[Option.some.injEq,Prod.mk.injEq] at e
     obtain⟨rfl,rfl⟩:=e
     have fin:∀{E:TypeId}{ys:List Int}{fz:Bool},h n = .live (match fz with|true => .frz E (.int .u8) ys|false => .row E (.int .u8) ys)->av P o a w0 N0 A env h w (.det [] (.str (strOfNums ys)) []):=by
      intro E ys fz hl
      have hm:=m.nm n
      rw[hl] at hm
      rcases dx with⟨hen,a0,ev⟩|⟨b,len,E',c,hen,_,ev⟩
      ·rcases hm with⟨k,len,hek,_⟩|⟨_,E2,t2,hb⟩
       ·rw[hen] at hek;cases hek
       ·have:ys=[]:=by cases fz <;> (rcases hb with hb|hb <;> cases hb) <;> rfl
        subst this
        refine av.pure m (go ?_) (l8 (v:=a.eval x) (by simp))
        rw[ev]
        exact n7 (A:=A) (xs:=[]) ⟨by simp,.inl ⟨⟨_,rfl⟩,rfl⟩⟩ hs he ht
      ·rcases hm with⟨k,len',hek,hb,_⟩|⟨hek,_⟩
       ·rw[hen] at hek;cases hek
        have hr:ef A w b len E (.int .u8) ys:=by
         cases fz with
         | true=>exact hb.2
         | false=>exact hb
        refine av.pure m (go ?_) (l8 (v:=a.eval x) ?_)
        ·rw[ev];exact AB hr hs he ht
        ·obtain⟨vs,cap,_,_,h2,h3,h4,_⟩:=hr
         omega
       ·rw[hen] at hek;cases hek
     split at hk
     ·rename_i E u xs hl
      split at hk
      ·rename_i ys hc
       obtain⟨et,ez⟩:=cD hc
       subst et;simp only at ez;subst ez
       unfold aL at hk
       cases aK hk
       exact fin (fz:=false) hl
      ·cases hk
     ·rename_i E u xs hl
      split at hk
      ·rename_i ys hc
       obtain⟨et,ez⟩:=cD hc
       subst et;simp only at ez;subst ez
       unfold aL at hk
       cases aK hk
       exact fin (fz:=true) hl
      ·cases hk
     ·cases hk
    ·cases e
   ·cases e
  ·cases e
 ·cases e
def mM:SV->Option ByteArray
 | .str s=>some s
 | .cv (.string s)=>some s
 | _=>none
def rx(op:BinOp)(x y:SV):Q Dl:=match mM x,mM y,op with
 | some a,some b,.eql=>aL (.bool (decide (a=b)))
 | some a,some b,.neq=>aL (.bool (!decide (a=b)))
 | _,_,_ => .fail
theorem oz{x:SV}{v:Value}{s:ByteArray}(e:mM x=some s)(hd:aa A env w x v):v = .string s:=by
 unfold mM at e
 split at e
 ·cases e;simp only[aa] at hd;exact hd.1
 ·cases e;simp only[aa] at hd;exact hd
 ·cases e
theorem yy(m:aw w0 N0 A env h w)(f:FD A env w ρ a){op:BinOp}{t yt:TypeId}{x y:Operand}(ho:o.op = .binOp op t x y yt)(ht:P.underlying t=some .string)
  (e:(rx op (ag ρ x) (ag ρ y)).run h=some (d,r)):av P o a w0 N0 A env h w d:=by
 have dx:=aT f x
 have dy:=aT f y
 have go:∀(v:Value),((do eqGuard op t x y (a.eval x) (a.eval y);binOp op t (a.eval x) (a.eval y):Sem Value).run P w) = .ok v w →
   (execOp a.eval o).run P w = .ok (.value v) w:=by
  intro v hv
  unfold execOp
  rw[ho]
  simp only[Sem.run_bind,Sem.run_pure] at hv ⊢
  rw[hv]
  rfl
 have eqb:∀ u v:ByteArray,(u.toList == v.toList)=decide (u=v):=fun u v=>by
  rw[Bool.eq_iff_iff];simp only[ByteArray.toList_eq,beq_iff_eq,decide_eq_true_eq]
  exact⟨fun h=>by cases u;cases v;simp_all,fun h=>by rw[h]⟩
 unfold rx at e
 split at e
 ·rename_i u v hx hy
  have ex:=oz hx dx
  have ey:=oz hy dy
  rw[ex,ey] at go
  unfold aL at e
  cases aK e
  refine av.pure m (go _ ?_) (s := .bool (decide (u=v))) (v := .bool (decide (u=v))) (by simp only[aa])
  rw[eqGuard_at_string]
  simp[binOp,Op.stringOp,eqb]
 ·rename_i u v hx hy
  have ex:=oz hx dx
  have ey:=oz hy dy
  rw[ex,ey] at go
  unfold aL at e
  cases aK e
  refine av.pure m (go _ ?_) (s := .bool (!decide (u=v))) (v := .bool (!decide (u=v))) (by simp only[aa])
  rw[eqGuard_at_string]
  simp[binOp,Op.stringOp,eqb]
 ·cases e
def qy(P:Program)(t:TypeId)(x i:SV):Q Dl:=match i,P.underlying t with
 | .int _ i,some (.array len e)=>match bL P e,decide (0<=i)&&decide (i<len)&&decide (2<=len) with
  | some (n+1),true=>match x with
   | .ptr m o=>aL (.ptr m (o+i.toNat*(n+1)))
   | .eptr m s j o=>aL (.eptr m s j (o+i.toNat*(n+1)))
   | .dptr u d o=>aL (.dptr u d (o+i.toNat*(n+1)))
   | _ => .fail
  | _,_ => .fail
 | _,_ => .fail
theorem xH(m:aw w0 N0 A env h w)(f:FD A env w ρ a){t:TypeId}{x i:Operand}(φ:Operand->SV)(dx:aa A env w (φ x) (a.eval x))(ho:o.op = .indexAddr t x i)
  (e:(qy P t (φ x) (ag ρ i)).run h=some (d,r)):av P o a w0 N0 A env h w d:=by
 have di:=aT f i
 unfold qy at e
 split at e
 ·rename_i k iv len E hi hu
  rw[hi] at di;simp only[aa] at di
  split at e
  ·rename_i n hn hb
   simp only[Bool.and_eq_true,decide_eq_true_eq] at hb
   obtain⟨⟨h0,h1⟩,h2⟩:=hb
   have go:∀{b off:Nat},a.eval x = .pointer (some ⟨b,off,none⟩)->(execOp a.eval o).run P w = .ok (.value (.pointer (some ⟨b,off+iv.toNat*(n+1),none⟩))) w:=by
    intro b off ev
    unfold execOp;rw[ho]
    simp[Instr.indexAt,Instr.sureAddr,ev,di.1,asIntOf,run_underlying hu,cz hn,h0,h1,Addr.add_lit]
   split at e
   ·rename_i q o' hx
    rw[hx] at dx;simp only[aa] at dx
    obtain⟨b,l,he,ev⟩:=dx
    unfold aL at e
    cases aK e
    exact av.pure m (go ev) (by simp only[aa];exact⟨b,l,he,rfl⟩)
   ·rename_i q sz j o' hx
    rw[hx] at dx;simp only[aa] at dx
    obtain⟨b,l,he,hj,ev⟩:=dx
    unfold aL at e
    cases aK e
    exact av.pure m (go ev) (by simp only[aa];exact⟨b,l,he,hj,by rw[Nat.add_assoc,Nat.add_assoc]⟩)
   ·rename_i u dd o' hx
    rw[hx] at dx;simp only[aa] at dx
    obtain⟨b,off,ev,hA,hr⟩:=dx
    unfold aL at e
    cases aK e
    exact av.pure m (go ev) (by simp only[aa];exact⟨b,off,by rw[Nat.add_assoc],hA,hr⟩)
   ·cases e
  ·cases e
 ·cases e
def fv(i:Int):List (Int×Int)->Bool
 | []=>false
 | p::r=>bif decide (i=p.1) then true else fv i r
def gF(i:Int):List (Int×Int)->Int
 | []=>0
 | p::r=>bif decide (i=p.1) then p.2 else gF i r
def fE(i v:Int):List (Int×Int)->List (Int×Int)
 | []=>[(i,v)]
 | p::r=>bif decide (i=p.1) then (i,v)::r else p::fE i v r
def fU(i:Int):List (Int×Int)->Nat
 | []=>0
 | p::r=>bif decide (i=p.1) then 0 else fU i r+1
def mn(P:Program)(t:TypeId):Option (TypeId×IntKind×TypeId×IntKind):=match P.underlying t with
 | some (.map k e)=>match P.underlying k,P.underlying e with
  | some (.int kk),some (.int vk)=>some (k,kk,e,vk)
  | _,_=>none
 | _=>none
def qN(P:Program)(e:TypeId)(vk:IntKind):Bool:=match P.info? e with
 | some j=>match j.zero with
  | some (.int k n)=>c6 k vk&&decide (n=0)
  | _=>false
 | none=>false
def qi(P:Program)(t:TypeId)(nm:Nat):Q Dl:=match mn P t with
 | some (_,kk,_,vk) => .ask nm fun
  | .un => .ret (.det [] (.mapp nm) [(nm,.live (.mp kk vk []))])
  | _ => .fail
 | none => .fail
def pB(P:Program)(t:TypeId)(x i:SV):Q Dl:=match mn P t,x,i with
 | some (_,kk,e,vk),.mapp n,.int k i => .ask n fun
  | .live (.mp kk' vk' l)=>match c6 kk kk',c6 vk vk',c6 k kk,qN P e vk with
   | true,true,true,true=>aL (.tup [.int vk (gF i l),.bool (fv i l)])
   | _,_,_,_ => .fail
  | _ => .fail
 | _,_,_ => .fail
def q8(P:Program)(t:TypeId)(x i y:SV):Q Dl:=match mn P t,x,i,y with
 | some (_,kk,_,vk),.mapp n,.int k i,.int k' v => .ask n fun
  | .live (.mp kk' vk' l)=>match c6 kk kk',c6 vk vk',c6 k kk,c6 k' vk with
   | true,true,true,true => .ret (.det [] (.cv undef) [(n,.live (.mp kk vk (fE i v l)))])
   | _,_,_,_ => .fail
  | _ => .fail
 | _,_,_,_ => .fail
theorem w6{t k e:TypeId}{kk vk:IntKind}(h:mn P t=some (k,kk,e,vk)):P.underlying t=some (.map k e)/\P.underlying k=some (.int kk)/\P.underlying e=some (.int vk):=by
 unfold mn at h
 split at h
 ·rename_i hu
  split at h
  ·rename_i h1 h2
   cases h;exact⟨hu,h1,h2⟩
  ·cases h
 ·cases h
theorem Dc{e:TypeId}{vk:IntKind}(h:qN P e vk=true):(zeroValue e).run P w = .ok (.int vk 0) w:=by
 unfold qN at h
 split at h
 ·rename_i j hj
  split at h
  ·rename_i k n hz
   simp only[Bool.and_eq_true,decide_eq_true_eq] at h
   cases dk h.1
   rw[h.2] at hz
   simp[zeroValue,typeInfo,hj,hz]
  ·cases h
 ·cases h
def fa(kk vk:IntKind)(l:List (Int×Int)):List (Value×Value):=l.map fun p=>(Value.int kk p.1,Value.int vk p.2)
theorem pQ{kk vk:IntKind}{i:Int}:∀{es:List MapEntry}{l:List (Int×Int)}{n:Nat},es.map (fun e=>(e.key,e.val))=fa kk vk l →
  Instr.findNow (.int kk) (.int kk i) es n=some (bif fv i l then some (n+fU i l,.int vk (gF i l)) else none)
 | [],[],n,_=>rfl
 | e::es,p::l,n,h=>by
  simp only[fa,List.map_cons,List.cons.injEq,Prod.mk.injEq] at h
  obtain⟨⟨h1,h2⟩,h3⟩:=h
  have hs:Instr.sameNow (.int kk) (.int kk i) e.key=some (i == p.1):=by rw[h1];simp[Instr.sameNow]
  by_cases hi:i=p.1
  ·have hb:(i == p.1)=true:=by simp[hi]
   rw[hb] at hs
   simp only[Instr.findNow,hs,h2,fv,gF,fU,decide_eq_true hi,cond_true,Nat.add_zero]
  ·have hb:(i == p.1)=false:=by simp[hi]
   rw[hb] at hs
   simp only[Instr.findNow,hs,fv,gF,fU,decide_eq_false hi,cond_false]
   rw[pQ (l:=l) h3,show n+1+fU i l=n+(fU i l+1) by omega]
 | [],_::_,_,h=>by simp[fa] at h
 | _::_,[],_,h=>by simp[fa] at h
theorem su{i:Int}:∀{l:List (Int×Int)},fv i l=false->gF i l=0
 | [],_=>rfl
 | p::l,h=>by
  simp only[fv] at h
  cases hd:decide (i=p.1) with
  | true=>rw[hd] at h;cases h
  | false =>
   rw[hd,cond_false] at h
   simp only[gF,hd,cond_false];exact su h
theorem xi{vk:IntKind}{i v:Int}(hv:vk.has v):∀{l:List (Int×Int)},(∀ p∈l,vk.has p.2)→∀ p∈fE i v l,vk.has p.2
 | [],_,p,hp=>by simp only[fE,List.mem_singleton] at hp;rw[hp];exact hv
 | q::l,h,p,hp=>by
  simp only[fE] at hp
  cases hd:decide (i=q.1) with
  | true =>
   rw[hd,cond_true] at hp
   rcases List.mem_cons.1 hp with rfl|hp
   ·exact hv
   ·exact h p (List.mem_cons_of_mem _ hp)
  | false =>
   rw[hd,cond_false] at hp
   rcases List.mem_cons.1 hp with rfl|hp
   ·exact h _ List.mem_cons_self
   ·exact xi hv (fun p hp=>h p (List.mem_cons_of_mem _ hp)) p hp
theorem u5{vk:IntKind}{i:Int}(h0:vk.has 0):∀{l:List (Int×Int)},(∀ p∈l,vk.has p.2)->vk.has (gF i l)
 | [],_=>h0
 | q::l,h=>by
  simp only[gF]
  cases decide (i=q.1) with
  | true=>exact h _ List.mem_cons_self
  | false=>exact u5 h0 fun p hp=>h p (List.mem_cons_of_mem _ hp)
theorem xb{kk vk:IntKind}{i v:Int}:∀{es:List MapEntry}{l:List (Int×Int)},es.map (fun e=>(e.key,e.val))=fa kk vk l->fv i l=true →
  (es.modify (fU i l) fun e=>{e with key := .int kk i,val := .int vk v}).map (fun e=>(e.key,e.val))=fa kk vk (fE i v l)∧∃ e,es[fU i l]? = some e/\e.key = .int kk i
 | [],[],_,hm=>by cases hm
 | e::es,p::l,h,hm=>by
  simp only[fa,List.map_cons,List.cons.injEq,Prod.mk.injEq] at h
  obtain⟨⟨h1,h2⟩,h3⟩:=h
  simp only[fv] at hm
  cases hd:decide (i=p.1) with
  | true =>
   simp only[fE,fU,hd,cond_true,fa,List.map_cons]
   refine⟨?_,e,rfl,?_⟩
   ·simp[h3]
   ·rw[h1,of_decide_eq_true hd]
  | false =>
   rw[hd,cond_false] at hm
   obtain⟨k1,k2⟩:=xb (v:=v) h3 hm
   simp only[fE,fU,hd,cond_false,fa,List.map_cons]
   refine⟨?_,by simpa using k2⟩
   simp only[List.modify_succ_cons,List.map_cons,h1,h2,List.cons.injEq,true_and]
   exact k1
 | [],_::_,h,_=>by simp[fa] at h
 | _::_,[],h,_=>by simp[fa] at h
theorem v8{kk vk:IntKind}{i v:Int}:∀{l:List (Int×Int)},fv i l=false->fa kk vk (fE i v l)=fa kk vk l++[(Value.int kk i,Value.int vk v)]
 | [],_=>rfl
 | p::l,h=>by
  simp only[fv] at h
  cases hd:decide (i=p.1) with
  | true=>rw[hd] at h;cases h
  | false =>
   rw[hd,cond_false] at h
   simp only[fE,hd,cond_false,fa,List.map_cons,List.cons_append]
   exact congrArg _ (v8 h)
theorem C4(m:aw w0 N0 A env h w){t:TypeId}{nm:Nat}(ho:o.op = .makeMap t none)
  (e:(qi P t nm).run h=some (d,r)):av P o a w0 N0 A env h w d:=by
 unfold qi at e
 split at e
 ·simp only[Q.run] at e
  split at e
  ·rename_i p q hk
   simp only[Option.some.injEq,Prod.mk.injEq] at e
   obtain⟨rfl,rfl⟩:=e
   split at hk
   ·rename_i hun
    cases aK hk
    have hrun:(execOp a.eval o).run P w = .ok (.value (.map (some w.heap.size))) (w.alloc (.map #[] 0)):=by
     unfold execOp;rw[ho]
     rfl
    refine⟨_,_,.inl hrun,bp.fresh m hun (len:=(0,0)) rfl w.heap.size (Nat.le_refl _) (aR.alloc w _ _) (fun x=>⟨#[],0,heap_alloc_new w _,rfl,fun p hp=>by cases hp⟩) ?_⟩
    simp only[aa]
    exact⟨_,(0,0),ai.set_same _ _ _,rfl⟩
   ·cases hk
  ·cases e
 ·cases e
theorem rA(kk:IntKind)(i:Int):MapKept.IsKey (.int kk) (.int kk i):=by simp[MapKept.IsKey]
theorem xW(m:aw w0 N0 A env h w)(f:FD A env w ρ a){t:TypeId}{x i:Operand}(ho:o.op = .lookup t x i true)
  (e:(pB P t (ag ρ x) (ag ρ i)).run h=some (d,r)):av P o a w0 N0 A env h w d:=by
 have dx:=aT f x
 have di:=aT f i
 unfold pB at e
 split at e
 ·rename_i kt kk et vk n k i hm hx hi
  rw[hx] at dx;rw[hi] at di
  simp only[aa] at dx di
  obtain⟨b,len,he,ev⟩:=dx
  obtain⟨hu,huk,hue⟩:=w6 hm
  simp only[Q.run] at e
  split at e
  ·rename_i p q hk
   simp only[Option.some.injEq,Prod.mk.injEq] at e
   obtain⟨rfl,rfl⟩:=e
   split at hk
   ·rename_i kk' vk' l hl
    split at hk
    ·rename_i q1 q2 q3 q4
     cases dk q1;cases dk q2;cases dk q3
     unfold aL at hk
     cases aK hk
     obtain⟨⟨es,clk,hb,hes,hh⟩,_⟩:=m.live_blk hl he
     have hf:=pQ (i:=i) (n:=0) hes
     have h0:vk.has 0:=by
      have:=IntKind.wrap_has vk 0
      have e0:vk.wrap 0=0:=by cases vk <;> rfl
      rw[e0] at this;exact this
     refine av.pure m (v := .tuple #[.int vk (gF i l),.bool (fv i l)]) ?_ ?_
     ·unfold execOp;rw[ho]
      simp only[ev,di.1,Instr.lookup,Sem.run_bind,run_underlying hu,Result.andThen_ok,MapKept.run_getObj_map hb,Sem.run_pure,MapKept.run_checkKey huk (rA kk i),MapKept.run_findKey huk hf]
      cases hq:fv i l with
      | true=>simp
      | false =>
       simp[Dc q4,su hq]
     ·simp only[aa]
      refine⟨_,rfl,?_⟩
      simp only[ac,aa]
      exact⟨_,_,rfl,⟨rfl,u5 h0 hh⟩,_,_,rfl,rfl,rfl⟩
    ·cases hk
   ·cases hk
  ·cases e
 ·cases e
theorem aR.setMap{w:World}{b:Nat}{es:Array MapEntry}{c:Nat}(hb:w.heap[b]? = some (.map es c))(es':Array MapEntry)(c':Nat) :
  aR w {w with heap:=w.heap.setIfInBounds b (.map es' c')} fun j=>j=b:=by
 refine⟨rfl,rfl,rfl,by simp,fun k hk hw=>?_,fun k s hs=>?_⟩
 ·exact Array.getElem?_setIfInBounds_ne (fun e=>hw e.symm)
 ·by_cases e:k=b
  ·subst e
   unfold World.shape? at hs;rw[hb] at hs;cases hs
  ·unfold World.shape? at hs ⊢
   have:({w with heap:=w.heap.setIfInBounds b (.map es' c')}:World).heap[k]? = w.heap[k]? := Array.getElem?_setIfInBounds_ne (fun h=>e h.symm)
   rw[this];exact hs
theorem yP(m:aw w0 N0 A env h w)(f:FD A env w ρ a){t:TypeId}{x i y:Operand}(ho:o.op = .mapUpdate t x i y)
  (e:(q8 P t (ag ρ x) (ag ρ i) (ag ρ y)).run h=some (d,r)):av P o a w0 N0 A env h w d:=by
 have dx:=aT f x
 have di:=aT f i
 have dy:=aT f y
 unfold q8 at e
 split at e
 ·rename_i kt kk et vk n k i k' v hm hx hi hy
  rw[hx] at dx;rw[hi] at di;rw[hy] at dy
  simp only[aa] at dx di dy
  obtain⟨b,len,he,ev⟩:=dx
  obtain⟨hu,huk,hue⟩:=w6 hm
  simp only[Q.run] at e
  split at e
  ·rename_i p q hk
   simp only[Option.some.injEq,Prod.mk.injEq] at e
   obtain⟨rfl,rfl⟩:=e
   split at hk
   ·rename_i kk' vk' l hl
    split at hk
    ·rename_i q1 q2 q3 q4
     cases dk q1;cases dk q2;cases dk q3;cases dk q4
     cases aK hk
     obtain⟨⟨es,clk,hb,hes,hh⟩,_⟩:=m.live_blk hl he
     have hf:=pQ (i:=i) (n:=0) hes
     have fin:∀(es':Array MapEntry)(c':Nat),(execOp a.eval o).run P w = .ok .skip {w with heap:=w.heap.setIfInBounds b (.map es' c')}->es'.toList.map (fun e=>(e.key,e.val))=fa kk vk (fE i v l) →
       av P o a w0 N0 A env h w (.det [] (.cv undef) [(n,.live (.mp kk vk (fE i v l)))]):=by
      intro es' c' hrun hes'
      have hlt:b<w.heap.size:=(Array.getElem?_eq_some_iff.1 hb).1
      have u:=cN.write (b' := .mp kk vk (fE i v l)) m hl rfl he (aR.setMap hb es' c') ⟨es',c',by simp[hlt],hes',xi dy.2 hh⟩ rfl
      exact⟨undef,_,.inr ⟨hrun,rfl⟩,(),A,env,trivial,m.upd u,m.ext u,by simp only[Dl.val,aa]⟩
     cases hq:fv i l with
     | true =>
      rw[hq,cond_true] at hf
      obtain⟨k1,e0,k2,k3⟩:=xb (v:=v) hes hq
      refine fin (es.modify (fU i l) fun e=>{e with key := .int kk i,val := .int vk v}) clk ?_ (by rw[Array.toList_modify];exact k1)
      have hget:es[fU i l]? = some e0:=by rw[← Array.getElem?_toList];exact k2
      unfold execOp;rw[ho]
      simp only[ev,di.1,dy.1,Instr.mapUpdate,Sem.run_bind,run_underlying hu,Result.andThen_ok,MapKept.run_getObj_map hb,Sem.run_pure,MapKept.run_checkKey huk (rA kk i),MapKept.run_findKey huk hf,Nat.zero_add,hget,Option.map_some,Option.getD_some,k3,Instr.keyThatStays,Instr.sameBits,beq_self_eq_true,Bool.and_self,if_true,MapKept.run_setObj_map _ hb]
      try rfl
     | false =>
      rw[hq,cond_false] at hf
      refine fin (es.push {key := .int kk i,val := .int vk v,born:=clk}) (clk+1) ?_ (by rw[Array.toList_push,List.map_append,hes,v8 hq];rfl)
      unfold execOp;rw[ho]
      simp only[ev,di.1,dy.1,Instr.mapUpdate,Sem.run_bind,run_underlying hu,Result.andThen_ok,MapKept.run_getObj_map hb,Sem.run_pure,MapKept.run_checkKey huk (rA kk i),MapKept.run_findKey huk hf,MapKept.run_setObj_map _ hb]
      try rfl
    ·cases hk
   ·cases hk
  ·cases e
 ·cases e
end
end Go.SX

/- SX: an element of an owned row that is open: its cells stand one by one, so that they may own rows themselves. -/
namespace Go.SX
set_option linter.unusedVariables false
def Cr:SV->Bool
 | .own _ _=>true
 | _=>false
def rt(P:Program)(ty:TypeId)(x:SV):Q Dl:=match x with
 | .eptr n sz i off => .ask n fun
  | .live (.opn _ t _ j cs)=>match Nat.beq sz t.size,d9 P ty cs off with
   | true,some v => .ret (.det [i=j] v [])
   | _,_ => .fail
  | _=>lU P ty (.eptr n sz i off)
 | x=>lU P ty x
def qw(P:Program)(ty:TypeId)(x y:SV):Q Dl:=match x with
 | .eptr n sz i off => .ask n fun
  | .live (.opn E t xs j cs)=>match jo y,bL P ty with
   | some vs,some k=>match Nat.beq k vs.length,Nat.beq sz t.size,Nat.ble (off+vs.length) t.size with
    | true,true,true => .ret (.det [i=j] (.cv undef) [(n,.live (.opn E t xs j (ec cs off vs)))])
    | _,_,_ => .fail
   | _,_ => .fail
  | .live (.row E t xs)=>match jo y,bL P ty with
   | some vs,some k=>match vs.any Cr with
    | true=>match Nat.beq k vs.length,Nat.beq sz t.size,Nat.ble (off+vs.length) t.size with
     | true,true,true => .ret (.det [] (.cv undef) [(n,.live (.opn E t xs i (ec (bu t (cw t xs i)) off vs)))])
     | _,_,_ => .fail
    | false=>kC P ty (.eptr n sz i off) y
   | _,_ => .fail
  | _=>kC P ty (.eptr n sz i off) y
 | x=>kC P ty x y
def jO:List SV->Q (List (Nat×Nm))
 | [] => .ret []
 | .own n _::r => .ask n fun
  | .live (.opn E t xs i cs)=>(cC t cs).bind fun p=>match p.2.1,jn n p.2.2 with
   | [],true => .ret ((n,.live (.row E t (xs.set i p.1)))::p.2.2)
   | _,_ => .fail
  | _=>jO r
 | _::r=>jO r
def rT(P:Program)(ty:TypeId)(x:SV):Q Dl:=match x with
 | .ptr n off => .ask n fun
  | .live (.cells _ cs)=>match d9 P ty cs off with
   | some v=>(jO cs).bind fun u=>.ret (.det [] v u)
   | none => .fail
  | _ => .fail
 | _ => .fail
section
variable {P:Program} {w0:World} {N0:bv} {A:Nat->Prop} {env:ai} {h:aI} {w:World} {o:Oper} {a:Act} {ρ:Nat->SV} {d:Dl} {r:List Nat}
theorem pV{i n k:Nat}(h:i<n):i*k+k<=n*k:=by
 have:(i+1)*k<=n*k:=Nat.mul_le_mul_right _ (by omega)
 rw[Nat.add_mul,Nat.one_mul] at this;exact this
theorem CS{k:Nat}{len:Nat×Nat}{E:TypeId}{t:CT}{xs:List t.D}(hr:ef A w k len E t xs){i:Nat}(hi:i<len.2) :
  cL A env w k len (.opn E t xs i (bu t (cw t xs i))):=by
 obtain⟨vs,hl,hc,hd⟩:=io (env:=env) t (cw t xs i) _ _ (kj hr hi)
 obtain⟨us,cap,hh,h1,h2,h3,h4,h5⟩:=hr
 refine⟨us,cap,vs,hh,h1,h2,h3,h4,hi,hl,fun q hq=>?_,hd,fun j hj _=>h5 j hj⟩
 have:=hc q hq
 rw[cell_of_row w k _ us E (0,0) hh] at this
 exact this
theorem BT{A':Nat->Prop}(hA:∀ b,A b->A' b){k:Nat}{len:Nat×Nat}{E:TypeId}{t:CT}{xs:List t.D}{i:Nat}{cs:List SV}(hb:cL A env w k len (.opn E t xs i cs)){d:t.D}
  (hd:∀ es:List Value,es.length=t.size->ac A env w cs es->Rd A' w t (fun j=>es[j]?) 0 d):ef A' w k len E t (xs.set i d):=by
 obtain⟨us,cap,es,hh,h1,h2,h3,h4,h5,h6,h7,h8,h9⟩:=hb
 refine⟨us,cap,hh,h1,by simpa using h2,h3,h4,fun j hj=>?_⟩
 have hj':j<xs.length:=by simpa using hj
 rw[List.getElem_set]
 split
 ·rename_i e
  subst e
  have:=jK (hd es h6 h8) (len.1+i*t.size)
  rw[Nat.zero_add] at this
  refine bR (fun _ h=>h) (fun _ _ _=>rfl) t _ _ _ _ (fun q hq=>?_) this
  show us[len.1+i*t.size+q]? = es[len.1+i*t.size+q-(len.1+i*t.size)]?
  rw[h7 q hq];congr 1;omega
 ·rename_i e
  exact bR hA (fun _ _ _=>rfl) t _ _ _ _ (fun _ _=>rfl) (h9 j hj' (fun h=>e h.symm))
theorem yg(m:aw w0 N0 A env h w){ty:TypeId}{x:Operand}(φ:Operand->SV)(dx:aa A env w (φ x) (a.eval x))(ho:o.op = .load ty x)
  (e:(rt P ty (φ x)).run h=some (d,r)) (hp:aB d.pre):av P o a w0 N0 A env h w d:=by
 have go:∀{b off:Nat}{v:Value},a.eval x = .pointer (some ⟨b,off,none⟩)->(loadVar ty ⟨b,off,none⟩).run P w = .ok v w->(execOp a.eval o).run P w = .ok (.value v) w:=by
  intro b off v ev hr
  unfold execOp;rw[ho]
  simp only[ev,Instr.loadAt,Instr.sureAddr,Sem.run_bind,Sem.run_pure,Result.andThen_ok,hr]
 unfold rt at e
 split at e
 ·rename_i n sz i off hx
  have dx':=dx
  rw[hx] at dx;simp only[aa] at dx
  obtain⟨b,l,he,hil,ev⟩:=dx
  simp only[Q.run] at e
  split at e
  ·rename_i p q hk
   simp only[Option.some.injEq,Prod.mk.injEq] at e
   obtain⟨rfl,rfl⟩:=e
   split at hk
   ·rename_i E t xs j cs hl
    split at hk
    ·rename_i v hsz e1
     have hsz:sz=t.size:=Nat.eq_of_beq_eq_true hsz
     subst hsz
     cases aK hk
     have hij:i=j:=hp.1
     subst hij
     obtain⟨us,cap,es,hh,h1,h2,h3,h4,h5,h6,h7,h8,h9⟩:=(m.live_blk hl he).1
     obtain⟨v,hr,hv⟩:=lM (o:=l.1+i*t.size) (k:=b) e1 h8 (fun j hj=>by rw[cell_of_row w b _ us E (0,0) hh];exact h7 j (by omega))
     rw[Nat.add_assoc] at hr
     exact av.pure m (go ev hr) hv
    ·cases hk
   ·exact qZ m φ dx' ho (by rw[hx];exact hk)
  ·cases e
 ·exact qZ m φ dx ho e
theorem wb(m:aw w0 N0 A env h w){b0:cU}{mm b:Nat}{l:Nat×Nat}(hl:h mm = .live b0)(hm0:b0.mut=true)(he:env mm = .blk b l){E:TypeId}{t:CT}{xs:List t.D}{i off:Nat}{cs vs:List SV}
  (hb:cL A env w b l (.opn E t xs i cs)) {ty:TypeId} {v:Value} (dv:ac A env w vs v.cells.toList) (h1:∀ u∈v.cells.toList,u.oneCell'=true) (hsz:bL P ty=some v.cells.size) (hle:off+vs.length<=t.size) :
  ∃ w',(storeVar ty ⟨b,l.1+i*t.size+off,none⟩ v).run P w = .ok () w'∧bp w0 N0 A env h w (.det [] (.cv undef) [(mm,.live (.opn E t xs i (ec cs off vs)))]) undef w':=by
 obtain⟨us,cap,es,hh,hus,hxl,hlc,hcm,hi,hes,hec,hed,hrd⟩:=hb
 have hlv:=cm dv
 have hsv:v.cells.size=vs.length:=by rw[← Array.length_toList,hlv]
 have hpos:l.1+i*t.size+t.size<=us.size:=by
  rw[hus]
  have:=pV (k:=t.size) (Nat.lt_of_lt_of_le hi hlc)
  omega
 have hfit:l.1+i*t.size+off+v.cells.size<=us.size:=by omega
 have hrun:=pm hh hsz hfit h1
 refine⟨_,hrun,?_⟩
 have c:=aR.setRow w b us (us.toList.take (l.1+i*t.size+off)++v.cells.toList++us.toList.drop (l.1+i*t.size+off+v.cells.size)).toArray E hh
  (by simp only[List.size_toArray,List.length_append,List.length_take,List.length_drop,Array.length_toList];omega)
 have x:aW A env w A env (w.setRow b (us.toList.take (l.1+i*t.size+off)++v.cells.toList++us.toList.drop (l.1+i*t.size+off+v.cells.size)).toArray) :=
  ⟨fun _ h=>h,fun _ _ _ h=>h,fun _ h=>h,fun _ _ _ h=>h,fun b' o' hb'=>World.cell?_of_block (a:=⟨b',o',none⟩) (c.blk b' (m.Alt b' hb') (fun e'=>(m.live_blk hl he).2 hm0 (e'▸hb'))),c.shape⟩
 have cellAt:∀ p,(us.toList.take (l.1+i*t.size+off)++v.cells.toList++us.toList.drop (l.1+i*t.size+off+v.cells.size)).toArray[p]? =
   if p<l.1+i*t.size+off then us[p]? else if p<l.1+i*t.size+off+vs.length then v.cells[p-(l.1+i*t.size+off)]? else us[p]? := by
  intro p
  rw[List.getElem?_toArray,List.append_assoc,List.getElem?_append]
  simp only[List.length_take,Array.length_toList]
  rw[show min (l.1+i*t.size+off) us.size=l.1+i*t.size+off from by omega]
  split
  ·rename_i hp;rw[List.getElem?_take,if_pos hp,Array.getElem?_toList]
  ·rename_i hp
   rw[List.getElem?_append]
   simp only[Array.length_toList,hsv]
   by_cases h2:p<l.1+i*t.size+off+vs.length
   ·rw[if_pos (by omega),if_pos h2,Array.getElem?_toList]
   ·rw[if_neg (by omega),if_neg h2,List.getElem?_drop,Array.getElem?_toList]
    congr 1;omega
 have hblk:cL A env (w.setRow b (us.toList.take (l.1+i*t.size+off)++v.cells.toList++us.toList.drop (l.1+i*t.size+off+v.cells.size)).toArray) b l (.opn E t xs i (ec cs off vs)):=by
  refine⟨_,cap,es.take off++(v.cells.toList++es.drop (off+v.cells.toList.length)),setRow_heap w b us _ E _ hh,?_,hxl,hlc,hcm,hi,?_,fun q hq=>?_,gg x _ _ (kw hed dv),fun j hj hij=>?_⟩
  ·simp only[List.size_toArray,List.length_append,List.length_take,List.length_drop,Array.length_toList];omega
  ·simp only[List.length_append,List.length_take,List.length_drop,Array.length_toList];omega
  ·rw[cellAt]
   have hecq:=hec q hq
   rw[List.getElem?_append]
   simp only[List.length_take,hes]
   rw[show min off t.size=off from by omega]
   by_cases c1:q<off
   ·rw[if_pos (by omega),if_pos c1,List.getElem?_take,if_pos c1,hecq]
   ·rw[if_neg (by omega),if_neg c1,List.getElem?_append]
    simp only[Array.length_toList,hsv]
    by_cases c2:q<off+vs.length
    ·rw[if_pos (by omega),if_pos (by omega),Array.getElem?_toList]
     congr 1;omega
    ·rw[if_neg (by omega),if_neg (by omega),List.getElem?_drop,hecq]
     congr 1;omega
  ·refine bR (fun _ h=>h) x.keep t _ _ _ _ (fun q hq=>?_) (hrd j hj hij)
   rw[cellAt]
   rcases Nat.lt_or_gt_of_ne hij with hlt|hlt
   ·have:=pV (k:=t.size) hlt
    rw[if_pos (by omega)]
   ·have:=pV (k:=t.size) hlt
    rw[if_neg (by omega),if_neg (by omega)]
 have u:=cN.write (b' := .opn E t xs i (ec cs off vs)) m hl hm0 he c hblk rfl
 exact⟨(),A,env,trivial,m.upd u,m.ext u,by simp only[Dl.val,aa]⟩
theorem yz(m:aw w0 N0 A env h w)(f:FD A env w ρ a){ty:TypeId}{x y:Operand}(ho:o.op = .store ty x y)
  (e:(qw P ty (ag ρ x) (ag ρ y)).run h=some (d,r)) (hp:aB d.pre):av P o a w0 N0 A env h w d:=by
 have dx:=aT f x
 have dy:=aT f y
 have go:∀{b off:Nat}{w':World},a.eval x = .pointer (some ⟨b,off,none⟩)->(storeVar ty ⟨b,off,none⟩ (a.eval y)).run P w = .ok () w'→(execOp a.eval o).run P w = .ok .skip w':=by
  intro b off w' ev hr
  unfold execOp;rw[ho]
  simp only[ev,Instr.storeAt,Instr.sureAddr,Sem.run_bind,Sem.run_pure,Result.andThen_ok,hr]
 unfold qw at e
 split at e
 ·rename_i n sz i off hx
  rw[hx] at dx;simp only[aa] at dx
  obtain⟨b,l,he,hil,ev⟩:=dx
  rw[← Nat.add_assoc] at ev
  simp only[Q.run] at e
  split at e
  ·rename_i p q hk
   simp only[Option.some.injEq,Prod.mk.injEq] at e
   obtain⟨rfl,rfl⟩:=e
   split at hk
   ·rename_i E t xs j cs hl
    split at hk
    ·rename_i vs k hc hn
     obtain⟨dv,h1⟩:=mB hc dy
     have hlv:=cm dv
     split at hk
     ·rename_i hb hs1 hle
      have hb:k=vs.length:=Nat.eq_of_beq_eq_true hb
      have hs1:sz=t.size:=Nat.eq_of_beq_eq_true hs1
      have hle:off+vs.length<=t.size:=Nat.le_of_ble_eq_true hle
      subst hs1
      cases aK hk
      have hij:i=j:=hp.1
      subst hij
      have hsz:bL P ty=some (a.eval y).cells.size:=by rw[hn,hb,← hlv,Array.length_toList]
      obtain⟨w',hr,g⟩:=wb m hl rfl he (m.live_blk hl he).1 dv h1 hsz hle
      obtain⟨u,A',env',q1,q2,q3,q4⟩:=g
      exact⟨undef,w',.inr ⟨go ev hr,rfl⟩,u,A',env',q1,q2,q3,q4⟩
     ·cases hk
    ·cases hk
   ·rename_i E t xs hl
    split at hk
    ·rename_i vs k hc hn
     split at hk
     ·obtain⟨dv,h1⟩:=mB hc dy
      have hlv:=cm dv
      split at hk
      ·rename_i hb hs1 hle
       have hb:k=vs.length:=Nat.eq_of_beq_eq_true hb
       have hs1:sz=t.size:=Nat.eq_of_beq_eq_true hs1
       have hle:off+vs.length<=t.size:=Nat.le_of_ble_eq_true hle
       subst hs1
       cases aK hk
       have hsz:bL P ty=some (a.eval y).cells.size:=by rw[hn,hb,← hlv,Array.length_toList]
       obtain⟨w',hr,g⟩:=wb m hl rfl he (CS (m.live_blk hl he).1 hil) dv h1 hsz hle
       exact⟨undef,w',.inr ⟨go ev hr,rfl⟩,g⟩
      ·cases hk
     ·exact oP m f ho (by rw[hx];exact hk)
    ·cases hk
   ·exact oP m f ho (by rw[hx];exact hk)
  ·cases e
 ·exact oP m f ho e
theorem mR(m:aw w0 N0 A env h w):∀(cs:List SV){u:List (Nat×Nm)}{r:List Nat},(jO cs).run h=some (u,r)→∃ A',aw w0 N0 A' env (aM u h) w/\aW A env w A' env w
 | [],u,r,e=>by
  simp only[jO,Q.run,Option.some.injEq,Prod.mk.injEq] at e
  obtain⟨rfl,rfl⟩:=e
  exact⟨A,m,aW.refl⟩
 | s::cs,u,r,e=>by
  unfold jO at e
  split at e
  ·rename_i hh;cases hh
  ·rename_i n sz rr hh
   cases hh
   simp only[Q.run] at e
   split at e
   ·rename_i p q hk
    simp only[Option.some.injEq,Prod.mk.injEq] at e
    obtain⟨rfl,rfl⟩:=e
    split at hk
    ·rename_i E t xs i es hl
     obtain⟨⟨d',rest,fz⟩,r1,r2,e1,e2,rfl⟩:=Q.run_bind _ _ _ hk
     simp only at e2
     split at e2
     ·rename_i hr hni
      simp only[Q.run,Option.some.injEq,Prod.mk.injEq] at e2
      obtain⟨rfl,rfl⟩:=e2
      have hni:=kR hni
      have hnm:=m.nm n
      rw[hl] at hnm
      rcases hnm with⟨k,l,he,hb,hA⟩|⟨_,E',t',hb⟩
      ·obtain⟨us,cap,ws,hh,hus,hxl,hlc,hcm,hi,hes,hec,hed,hrd⟩:=id hb
       obtain⟨ok,_⟩:=f5 m t _ _ d' [] fz r1 e1 hed (A':=bC A env fz) (fun b hb=>.inl hb) (fun k hk'=>.inr hk')
       obtain⟨m2,x2⟩:=m.freeze ok
       have hl2:aM fz h n = .live (.opn E t xs i es):=by rw[c7 hni];exact hl
       have hrow:ef (bC A env fz) w k l E t (xs.set i d'):=BT (fun b hb=>.inl hb) hb (fun vs hvs hdv =>
        (f5 m t _ _ d' [] fz r1 e1 hdv (A':=bC A env fz) (fun b hb=>.inl hb) (fun k hk'=>.inr hk')).2.2.2.1)
       have u:=cN.write (b' := .row E t (xs.set i d')) m2 hl2 rfl he (aR.refl w _) hrow rfl
       exact⟨bC A env fz,m2.upd u,x2.trans (m2.ext u)⟩
      ·rcases hb with hb|hb <;> cases hb
     ·cases e2
    ·exact mR m cs hk
   ·cases e
  ·rename_i hh
   cases hh
   exact mR m cs e
theorem ED(m:aw w0 N0 A env h w){ty:TypeId}{x:Operand}(φ:Operand->SV)(dx:aa A env w (φ x) (a.eval x))(ho:o.op = .load ty x)
  (e:(rT P ty (φ x)).run h=some (d,r)):av P o a w0 N0 A env h w d:=by
 have go:∀{b off:Nat}{v:Value},a.eval x = .pointer (some ⟨b,off,none⟩)->(loadVar ty ⟨b,off,none⟩).run P w = .ok v w->(execOp a.eval o).run P w = .ok (.value v) w:=by
  intro b off v ev hr
  unfold execOp;rw[ho]
  simp only[ev,Instr.loadAt,Instr.sureAddr,Sem.run_bind,Sem.run_pure,Result.andThen_ok,hr]
 unfold rT at e
 split at e
 ·rename_i n off hx
  rw[hx] at dx;simp only[aa] at dx
  obtain⟨b,l,he,ev⟩:=dx
  simp only[Q.run] at e
  split at e
  ·rename_i p q hk
   simp only[Option.some.injEq,Prod.mk.injEq] at e
   obtain⟨rfl,rfl⟩:=e
   split at hk
   ·rename_i E cs hl
    split at hk
    ·rename_i s e1
     obtain⟨u,r1,r2,e2,e3,rfl⟩:=Q.run_bind _ _ _ hk
     cases aK e3
     obtain⟨⟨vs,hh,hd⟩,_⟩:=m.live_blk hl he
     obtain⟨v,hr,hv⟩:=lM (o:=0) (k:=b) e1 hd (fun j hj=>by rw[cell_of_row w b _ vs E (0,0) hh];simp)
     rw[Nat.zero_add] at hr
     obtain⟨A',m',x'⟩:=mR m cs e2
     exact⟨v,w,.inl (go ev hr),(),A',env,trivial,m',x',gC x' _ _ hv⟩
    ·cases hk
   ·cases hk
  ·cases e
 ·cases e
end
end Go.SX

/- SX, part 31: what is made becomes data at once: appended slices, literals whose room is known. -/
namespace Go.SX
set_option linter.unusedVariables false
def mi(d:Dl):Q Dl:=match d with
 | .det pre (.own n sz) ((m,.live (.row E u xs))::upd)=>match Nat.beq n m,Nat.beq sz u.size with
  | true,true => .ret (.det pre (.dsl u xs) ((n,.dead)::(m,.live (.row E u xs))::upd))
  | _,_ => .fail
 | .det pre (.dsl u xs) upd => .ret (.det pre (.dsl u xs) upd)
 | _ => .fail
def oZ(k:Nat)(d:Dl):Q Dl:=match d with
 | .det pre (.own n sz) upd=>match Nat.ble 1 k with
  | true => .ret (.det pre (.csl n k) upd)
  | false => .fail
 | _ => .fail
def rm(P:Program)(t:TypeId)(nm:Nat)(u:CT)(xs:List u.D)(x:SV):Q Dl:=match fK P t with
 | some (e,sz)=>match P.info? e with
  | some i=>match Nat.ble 1 i.bytes,i.zero with
   | true,some z=>match Nat.beq z.cells.size sz,Nat.beq sz u.size with
    | true,true=>(g9 u x).bind fun ys=>.ask nm fun
     | .un => .ret (.det [(xs.length+ys.length)*i.bytes<=140737488355328] (.dsl u (xs++ys)) [(nm,.dead),(nm,.live (.row e u (xs++ys)))])
     | _ => .fail
    | _,_ => .fail
   | _,_ => .fail
  | none => .fail
 | none => .fail
def rJ(P:Program)(t:TypeId)(nm:Nat)(s x:SV):Q Dl:=match s with
 | .dsx u xs=>rm P t nm u xs x
 | s=>(kL P t nm s x).bind mi
section
variable {P:Program} {w0:World} {N0:bv} {A:Nat->Prop} {env:ai} {h:aI} {w:World} {o:Oper} {a:Act} {ρ:Nat->SV} {d:Dl} {r:List Nat}
theorem aw.toData(m:aw w0 N0 A env h w){n:Nat}{E:TypeId}{u:CT}{xs:List u.D}{v:Value}(hl:h n = .live (.row E u xs))(hd:aa A env w (.own n u.size) v) :
  ∃ A',aw w0 N0 A' env (aM [(n,Nm.dead)] h) w/\aW A env w A' env w/\ep A' w u v xs:=by
 simp only[aa] at hd
 rcases hd with⟨hnil,pa,ev⟩|⟨b,l,E2,c,hb,hsh,ev⟩
 ·have hx0:xs=[]:=by
   have:=m.nm n
   rw[hl] at this
   rcases this with⟨k',l',he',_⟩|⟨_,E3,t3,hb⟩
   ·rw[hnil] at he';cases he'
   ·rcases hb with hb|hb <;> cases hb;rfl
  have up:cN (fun k=>k=n) (fun _=>False) A env h w A env (aM [(n,Nm.dead)] h) w:=by
   refine⟨aR.refl w _,fun _ h=>h.elim,fun _ h=>h,fun _ h=>.inl h,fun _ _=>rfl,fun _ _=>rfl,fun k hk=>by rw[c7 (by simpa using hk)],?_,?_,?_⟩
   ·rintro _ rfl;simp[aM,jB]
   ·rintro _ b' k' l' rfl h2;simp[aM] at h2
   ·rintro _ _ b' _ k' l' _ rfl rfl h2;simp[aM] at h2
  exact⟨A,m.upd up,m.ext up,by rw[hx0,ev];exact⟨by simp,.inl ⟨⟨pa,rfl⟩,rfl⟩⟩⟩
 ·obtain⟨hbd,_⟩:=m.live_blk hl hb
  have hbl:=hbd.lt
  have up:cN (fun k=>k=n) (fun _=>False) A env h w (fun k=>A k∨k=b) env (aM [(n,Nm.dead)] h) w:=by
   refine⟨aR.refl w _,fun _ h=>h.elim,fun _ h=>.inl h,?_,fun _ _=>rfl,fun _ _=>rfl,fun k hk=>by rw[c7 (by simpa using hk)],?_,?_,?_⟩
   ·rintro k (hk|rfl)
    ·exact .inl hk
    ·exact .inr ⟨.inr ⟨n,_,l,rfl,hl,rfl,hb⟩,hbl⟩
   ·rintro _ rfl;simp[aM,jB]
   ·rintro _ b' k' l' rfl h2;simp[aM] at h2
   ·rintro _ _ b' _ k' l' _ rfl rfl h2;simp[aM] at h2
  exact⟨_,m.upd up,m.ext up,by rw[ev];exact lV (fun _ h=>.inl h) hbd (.inr rfl) hsh⟩
theorem bp.toData{pre:List Prop}{n:Nat}{E:TypeId}{u:CT}{xs:List u.D}{upd:List (Nat×Nm)}{v:Value}{w':World}
  (g:bp w0 N0 A env h w (.det pre (.own n u.size) ((n,.live (.row E u xs))::upd)) v w'):bp w0 N0 A env h w (.det pre (.dsl u xs) ((n,.dead)::(n,.live (.row E u xs))::upd)) v w':=by
 obtain⟨x,A',env',_,m',x',dd⟩:=g
 have hl:aM ((n,Nm.live (.row E u xs))::upd) h n = .live (.row E u xs):=by simp[aM]
 obtain⟨A2,m2,x2,hr⟩:=aw.toData (h:=aM ((n,Nm.live (.row E u xs))::upd) h) m' hl dd
 exact⟨(),A2,env',trivial,m2,x'.trans x2,by show aa A2 env' w' (.dsl u xs) v;simp only[aa];exact hr⟩
theorem zu{d d':Dl}{v:Value}{w':World}(e:(mi d).run h=some (d',r))(g:bp w0 N0 A env h w d v w'):bp w0 N0 A env h w d' v w':=by
 unfold mi at e
 split at e
 ·split at e
  ·rename_i h1 h2
   have h1:=Nat.eq_of_beq_eq_true h1
   have h2:=Nat.eq_of_beq_eq_true h2
   subst h1 h2
   cases aK e
   exact g.toData
  ·cases e
 ·cases aK e;exact g
 ·cases e
theorem zz{d d':Dl}(e:(mi d).run h=some (d',r)):d'.pre=d.pre:=by
 unfold mi at e
 split at e
 ·split at e
  ·cases aK e;rfl
  ·cases e
 ·cases aK e;rfl
 ·cases e
theorem CM{k:Nat}{d d':Dl}{v:Value}{w':World}{b0:Nat}(e:(oZ k d).run h=some (d',r))(hv:v = .slice (some ⟨b0,0,none⟩) k k)(g:bp w0 N0 A env h w d v w'):bp w0 N0 A env h w d' v w':=by
 unfold oZ at e
 split at e
 ·rename_i pre n sz upd
  split at e
  ·rename_i hk
   have hk:=Nat.le_of_ble_eq_true hk
   cases aK e
   obtain⟨x,A',env',_,m',x',dd⟩:=g
   refine⟨(),A',env',trivial,m',x',?_⟩
   have dd:aa A' env' w' (.own n sz) v:=dd
   show aa A' env' w' (.csl n k) v
   simp only[aa] at dd ⊢
   subst hv
   rcases dd with⟨_,pa,ev⟩|⟨b,l,E2,c,hb,hsh,ev⟩
   ·simp only[Value.slice.injEq] at ev;omega
   ·simp only[Value.slice.injEq,Option.some.injEq,Addr.mk.injEq] at ev
    obtain⟨⟨rfl,h2,_⟩,_,_⟩:=ev
    exact⟨_,l,⟨hb,h2.symm⟩,rfl⟩
  ·cases e
 ·cases e
theorem DF{t:CT}{p:Option Addr}{c c':Nat}{xs:List t.D}(h:ep A w t (.slice p xs.length c) xs)(h1:xs.length<=c')(h2:c'<=maxLen)(h0:xs=[]->c'=0):ep A w t (.slice p xs.length c') xs:=by
 obtain⟨hl,h⟩:=h
 refine⟨hl,?_⟩
 rcases h with⟨⟨a,e⟩,hx⟩|⟨b,off,cap,e,k1,k2,k3,k4⟩
 ·exact .inl ⟨⟨p,by rw[h0 hx,hx];rfl⟩,hx⟩
 ·simp only[Value.slice.injEq] at e
  exact .inr ⟨b,off,c',by rw[e.1],h1,h2,k3,k4⟩
theorem Cc(m:aw w0 N0 A env h w)(f:FD A env w ρ a){t:TypeId}{nm:Nat}{s x:Operand}{u:CT}{xs:List u.D}(ho:o.op = .call {callee := .builtin .append,args := #[s,x],argTypes := #[t,t]})
  (hs:ag ρ s = .dsx u xs) (e:(rm P t nm u xs (ag ρ x)).run h=some (d,r)) (hp:aB d.pre):av P o a w0 N0 A env h w d:=by
 have ds:=aT f s
 have dx:=aT f x
 have exe:∀{v:Value}{w':World},(Builtin.append_ #[t,t] o.type #[a.eval s,a.eval x]).run P w = .ok v w'→(execOp a.eval o).run P w = .ok (.value v) w':=by
  intro v w' hr
  unfold execOp;rw[ho]
  simp only[resolve,invoke,builtin,Sem.run_bind,Sem.run_pure,Result.andThen_ok,List.map_toArray,List.map_cons,List.map_nil,hr]
 rw[hs] at ds;simp only[aa] at ds
 obtain⟨dr,pa,es⟩:=ds
 unfold rm at e
 split at e
 case h_2=>cases e
 rename_i E sz he
 obtain⟨hu,hsz⟩:=gr he
 split at e
 case h_2=>cases e
 rename_i i hi
 split at e
 case h_2=>cases e
 rename_i z hb1 hz
 have hb1:1<=i.bytes:=Nat.le_of_ble_eq_true hb1
 split at e
 case h_2=>cases e
 rename_i hzs h1
 have hzs:z.cells.size=sz:=Nat.eq_of_beq_eq_true hzs
 have h1:sz=u.size:=Nat.eq_of_beq_eq_true h1
 have hisz:i.size=sz:=by unfold bL at hsz;rw[hi] at hsz;simpa using hsz
 subst h1
 obtain⟨ys,q1,q2,e1,e2,rfl⟩:=Q.run_bind _ _ _ e
 simp only[Q.run] at e2
 split at e2
 case h_2=>cases e2
 rename_i p' q' hk'
 simp only[Option.some.injEq,Prod.mk.injEq] at e2
 obtain⟨rfl,rfl⟩:=e2
 split at hk'
 case h_2=>cases hk'
 rename_i hun
 cases aK hk'
 simp only[Dl.pre,aB,and_true] at hp
 obtain⟨pq,c,ev,hyl,hsrc⟩:=nE m e1 dx
 by_cases h0:ys.length=0
 ·have hy:ys=[]:=List.eq_nil_of_length_eq_zero h0
  subst hy
  refine⟨_,_,.inl (exe (by rw[es,ev];exact qp hu hsz _ _ _ _ _ (Nat.le_refl _))),?_⟩
  have up:cN (fun k=>k=nm) (fun _=>False) A env h w A env (aM [(nm,Nm.dead),(nm,.live (.row E u (xs++[])))] h) w:=by
   refine⟨aR.refl w _,fun _ h=>h.elim,fun _ h=>h,fun _ h=>.inl h,fun _ _=>rfl,fun _ _=>rfl,fun k hk=>by rw[c7 (by simpa using hk)],?_,?_,?_⟩
   ·rintro _ rfl;simp[aM,jB]
   ·rintro _ b' k' l' rfl h2;simp[aM] at h2
   ·rintro _ _ b' _ k' l' _ rfl rfl h2;simp[aM] at h2
  refine⟨(),A,env,trivial,m.upd up,m.ext up,?_⟩
  show aa A env w (.dsl u (xs++[])) _
  simp only[aa,List.append_nil]
  rw[es] at dr
  exact dr
 by_cases hx0:xs=[]
 ·subst hx0
  simp only[List.length_nil,Nat.zero_add] at hp
  obtain⟨v,w',hr,g⟩:=og (P:=P) (ty:=o.type) (p:=pa) (q:=pq) (c:=c) (pre:=[(([]:List u.D).length+ys.length)*i.bytes<=140737488355328]) m hu hsz hi hz hzs hb1 rfl hun [] (by simp) hyl hp hsrc
  exact⟨v,w',.inl (exe (by rw[es,ev];exact hr)),g.toData⟩
 ·obtain⟨bb,off,rfl,hrdy⟩:=hsrc.resolve_left h0
  obtain⟨hxm,dr⟩:=dr
  rcases dr with⟨_,hx⟩|⟨b,β,cap,ev2,hlc,hcm,hAb,hrd⟩
  ·exact absurd hx hx0
  rw[es] at ev2
  simp only[Value.slice.injEq] at ev2
  obtain⟨rfl,_,hcap⟩:=ev2
  subst hcap
  obtain⟨olds,hol,hoc,ho1⟩:=kQ xs β hrd
  obtain⟨news,hnl,hnc,hn1⟩:=kQ ys off hrdy
  have hnews:∀ j v,news[j]? = some v->w.cell? ((⟨bb,off,none⟩:Addr).add j)=some v:=by
   intro j v hj
   rw[Addr.add_lit,hnc j (List.getElem?_eq_some_iff.1 hj).1];exact hj
  have holdsc:∀ j v,olds[j]? = some v->w.cell? ((⟨b,β,none⟩:Addr).add j)=some v:=by
   intro j v hj
   rw[Addr.add_lit,hoc j (List.getElem?_eq_some_iff.1 hj).1];exact hj
  have hrdn:∀ i (hi:i<ys.length),Rd A w u (fun j=>news[j]?) (i*u.size) ys[i]:=fun i hi =>
   fO (hrdy i hi) fun j hj=>by
    have:(i+1)*u.size<=ys.length*u.size:=Nat.mul_le_mul_right _ (by omega)
    rw[Nat.add_mul,Nat.one_mul] at this
    rw[← hnc _ (by omega),Nat.add_assoc]
  have holds:∀ i (hi:i<xs.length),Rd A w u (fun j=>olds[j]?) (i*u.size) xs[i]:=fun i hi =>
   fO (hrd i hi) fun j hj=>by
    have:(i+1)*u.size<=xs.length*u.size:=Nat.mul_le_mul_right _ (by omega)
    rw[Nat.add_mul,Nat.one_mul] at this
    rw[← hoc _ (by omega),Nat.add_assoc]
  have hsum:xs.length+ys.length<=maxLen:=by
   have:(xs.length+ys.length)*1<=(xs.length+ys.length)*i.bytes:=Nat.mul_le_mul_left _ hb1
   simp only[maxLen];omega
  have hr:=run_append_grow (P:=P) w t o.type E i z hu hi hz ⟨b,β,none⟩ xs.length xs.length olds (by rw[hol,hisz]) holdsc ⟨bb,off,none⟩ ys.length c news (by rw[hnl,hisz]) hnews (by omega)
   (by simp only[maxLen] at hsum;omega) (growslice_fits (by omega) hp)
  have hge:=grownCap_ge w (xs.length+ys.length) xs.length E
  have hcm':=grownCap_le_maxLen w (xs.length+ys.length) xs.length E hsum
  refine⟨_,_,.inl (exe (by rw[es,ev];exact hr)),bp.toData ?_⟩
  generalize grownCap w (xs.length+ys.length) xs.length E=cap' at *
  have hsize:(olds.toArray++news.toArray++Builtin.zeroCells z.cells (cap'-(xs.length+ys.length))).size=cap'*u.size:=by
   simp only[Array.size_append,List.size_toArray,hol,hnl,size_zeroCells,hzs,← Nat.add_mul];congr 1;omega
  have cg:aR w (w.drew.alloc (.cells (olds.toArray++news.toArray++Builtin.zeroCells z.cells (cap'-(xs.length+ys.length))) E)) fun _=>False:=(aR.drew w _).trans (aR.alloc w.drew _ _)
  refine dP m hun [] (by simp) (W:=fun _=>False) (ev := .blk w.heap.size (0,xs.length+ys.length)) cg (fun _ h=>h.elim) (by simp) (fun k l e=>by cases e;exact .inl (Nat.le_refl _)) (fun x=>.inr ⟨w.heap.size,(0,xs.length+ys.length),cap'*u.size,rfl,?_,?_,?_⟩)
  ·refine⟨_,cap',heap_alloc_new w.drew _,by rw[hsize,Nat.zero_add],List.length_append,hge,hcm',fun i hi=>?_⟩
   have:=mZ (A:=A) (w:=w) (rest:=(Builtin.zeroCells z.cells (cap'-(xs.length+ys.length))).toList) hol hnl holds hrdn i hi
   rw[Nat.zero_add]
   refine bR (fun _ h=>h) x.keep u _ _ _ _ (fun j _=>?_) this
   rw[sQ]
  ·unfold World.shape?
   have hh':=heap_alloc_new w.drew (.cells (olds.toArray++news.toArray++Builtin.zeroCells z.cells (cap'-(xs.length+ys.length))) E)
   simp only[World.size_drew] at hh'
   rw[hh'];simp only[hsize]
  ·show _=Value.slice _ _ ((cap'*u.size-0)/u.size)
   rw[Nat.sub_zero,Nat.mul_div_cancel _ u.size_pos]
theorem yZ(m:aw w0 N0 A env h w)(f:FD A env w ρ a){t:TypeId}{nm:Nat}{s x:Operand}(ho:o.op = .call {callee := .builtin .append,args := #[s,x],argTypes := #[t,t]})
  (e:(rJ P t nm (ag ρ s) (ag ρ x)).run h=some (d,r)) (hp:aB d.pre):av P o a w0 N0 A env h w d:=by
 unfold rJ at e
 split at e
 ·rename_i u xs hs
  exact Cc m f ho hs e hp
 ·obtain⟨d1,r1,r2,e1,e2,rfl⟩:=Q.run_bind _ _ _ e
  obtain⟨v,w',h1,h2⟩:=qG m f ho e1 (by rw[← zz e2];exact hp)
  exact⟨v,w',h1,zu e2 h2⟩
end
end Go.SX

/- SX, part 13: an array's element; contracts; one step. -/
namespace Go.SX
set_option linter.unusedVariables false
section
variable {P:Program} {w0:World} {N0:bv} {A:Nat->Prop} {env:ai} {h:aI} {w:World} {o:Oper} {a:Act} {ρ:Nat->SV} {d:Dl} {r:List Nat}
theorem me{k:IntKind}{sz:Nat}(hsz:1<=sz):∀(cs:List SV)(vs:List Value)(s:Nat)(l:List Int),gK k sz cs s=some l->ac A env w cs vs →
  ∀ j,s+j*sz<vs.length->vs[s+j*sz]? = some (.int k (f6 l j))/\k.has (f6 l j)
 | [],vs,s,l,e,hd,j,hj=>by simp only[ac] at hd;subst hd;simp at hj
 | c::cs,vs,0,l,e,hd,j,hj=>by
  simp only[ac] at hd
  obtain⟨v,r,rfl,hv,hr⟩:=hd
  cases c with
  | int k' n =>
   simp only[gK] at e
   split at e
   ·rename_i l' hk hl
    cases e
    cases dk hk
    simp only[aa] at hv
    cases j with
    | zero=>simp[f6,hv.1,hv.2]
    | succ j =>
     have:=me hsz cs r (sz-1) l' hl hr j (by simp at hj;rw[Nat.add_mul] at hj;omega)
     have e1:0+(j+1)*sz=(sz-1+j*sz)+1:=by rw[Nat.add_mul];omega
     rw[e1,List.getElem?_cons_succ]
     simpa[f6] using this
   ·cases e
  | _=>simp[gK] at e
 | c::cs,vs,s+1,l,e,hd,j,hj=>by
  simp only[ac] at hd
  obtain⟨v,r,rfl,hv,hr⟩:=hd
  have e':gK k sz cs s=some l:=by cases c <;> simpa[gK] using e
  have:=me hsz cs r s l e' hr j (by simp at hj;omega)
  rw[show s+1+j*sz=(s+j*sz)+1 from by omega,List.getElem?_cons_succ]
  exact this
theorem AA(m:aw w0 N0 A env h w)(f:FD A env w ρ a){t:TypeId}{x i:Operand}(ho:o.op = .index t x i)
  (e:(qU P t (ag ρ x) (ag ρ i)).run h=some (d,r)) (hp:aB d.pre):av P o a w0 N0 A env h w d:=by
 have dx:=aT f x
 have di:=aT f i
 unfold qU at e
 split at e
 ·rename_i cs ki iv len E hx hi hu
  rw[hx] at dx;rw[hi] at di
  simp only[aa] at dx di
  obtain⟨vs,ev,dv⟩:=dx
  have hvl:=cm dv
  have exe:∀{v:Value}{n:Nat},bL P E=some n->0<=iv->iv<len->(part E vs (iv.toNat*n)).run P w = .ok v w->(execOp a.eval o).run P w = .ok (.value v) w:=by
   intro v n hn h0 h1 hr
   unfold execOp;rw[ho]
   simp only[Instr.index,di.1,ev,asIntOf,Sem.run_bind,Sem.run_pure,Result.andThen_ok,run_underlying hu,Sem.run_ite,if_pos (And.intro h0 h1),cz hn,hr]
  split at e
  ·rename_i k hE hsz
   split at e
   ·rename_i l hc hb
    have hb:cs.length=len:=Nat.eq_of_beq_eq_true hb
    cases aK e
    simp only[Dl.pre,aB,and_true] at hp
    obtain⟨c1,c2⟩:=me (Nat.le_refl 1) cs vs.toList 0 l hc dv iv.toNat (by omega)
    refine av.pure m (exe hsz hp.1 hp.2 (v := .int k (f6 l iv.toNat)) ?_) (by simp only[aa];exact⟨trivial,c2⟩)
    have ha:ja P E=some false:=by unfold ja;rw[hE]
    have c1':vs[iv.toNat]? = some (.int k (f6 l iv.toNat)):=by rw[← Array.getElem?_toList];simpa using c1
    unfold part
    simp[Sem.run_bind,mr ha w,c1']
   ·cases e
  ·rename_i E2 hE hsz
   split at e
   ·rename_i k hE2 hsz2
    split at e
    ·rename_i l1 l2 hc1 hc2 hb
     have hb:cs.length=len*2:=Nat.eq_of_beq_eq_true hb
     cases aK e
     simp only[Dl.pre,aB,and_true] at hp
     obtain⟨c1,c2⟩:=me (by decide) cs vs.toList 0 l1 hc1 dv iv.toNat (by omega)
     obtain⟨c3,c4⟩:=me (by decide) cs vs.toList 1 l2 hc2 dv iv.toNat (by omega)
     have ha:ja P E=some true:=by unfold ja;rw[hE]
     refine av.pure m (exe hsz hp.1 hp.2 (v := .agg (vs.extract (iv.toNat*2) (iv.toNat*2+2))) ?_) ?_
     ·unfold part
      simp[Sem.run_bind,mr ha w,cz hsz w]
     ·simp only[aa,ac]
      have hex:(vs.extract (iv.toNat*2) (iv.toNat*2+2)).toList=[.int k (f6 l1 iv.toNat),.int k (f6 l2 iv.toNat)]:=by
       apply List.ext_getElem?
       intro j
       simp only[Array.toList_extract,List.extract_eq_take_drop,List.getElem?_take,List.getElem?_drop]
       rw[Nat.zero_add] at c1
       rcases j with _|_|j
       ·rw[if_pos (by omega),Nat.add_zero,c1];rfl
       ·rw[if_pos (by omega),Nat.zero_add,Nat.add_comm,c3];rfl
       ·rw[if_neg (by omega)];simp
      exact⟨_,rfl,_,_,hex,⟨rfl,c2⟩,_,_,rfl,⟨rfl,c4⟩,rfl⟩
    ·cases e
   ·cases e
  ·cases e
 ·cases e
theorem EK(m:aw w0 N0 A env h w)(f:FD A env w ρ a){g:FuncId}{caps:Array Operand}(ho:o.op = .makeFunc (.func g) #[] caps){pre:List Prop} :
  av P o a w0 N0 A env h w (.det pre (.fn g (caps.toList.map (ag ρ))) []):=by
 refine av.pure m (v := .func (.func g) #[] (caps.map a.eval)) ?_ ?_
 ·unfold execOp;rw[ho]
  simp[Instr.makeFunc]
 ·simp only[aa]
  refine⟨_,rfl,?_⟩
  rw[Array.toList_map]
  generalize caps.toList=l
  induction l with
  | nil=>simp[ac]
  | cons p l ih=>simp only[List.map_cons,ac];exact⟨_,_,rfl,aT f p,ih⟩
theorem ub(m:aw w0 N0 A env h w)(f:FD A env w ρ a){x:Operand}(ho:o.op = .move x∨o.op = .assign x){pre:List Prop} :
  av P o a w0 N0 A env h w (.det pre (ag ρ x) []):=by
 refine av.pure m (v:=a.eval x) ?_ (aT f x)
 unfold execOp
 rcases ho with ho|ho <;> rw[ho] <;> rfl
end
abbrev Spec:=Nat->List SV->Q Dl
def aG(P:Program)(G:gm)(f:FuncId)(s:Spec):Prop :=
 ∀(base:Nat)(svs:List SV)(h:aI)(d:Dl)(r:List Nat),(s base svs).run h=some (d,r)->aB d.pre →
  ∀(w0:World)(N0:bv)(A:Nat->Prop)(env:ai)(w:World)(vs:List Value),N0.g=G->aw w0 N0 A env h w->ac A env w svs vs →
   Calls P f vs.toArray w (fun e w'=>∃ v,e = .returned v/\bp w0 N0 A env h w d v w')
def wS(P:Program)(f:FuncId):Bool:=match P.funcs[f]? with
 | some fn => !(fn.name == "runtime.NumGoroutine") && fn.body.isSome
 | none=>false
structure bc where
 fn:FuncId->Option Spec
 gl:gm
def ca(P:Program)(sp:bc):Prop:=∀ f s,sp.fn f=some s->aG P sp.gl f s
def qS(P:Program)(sp:bc)(base:Nat)(f:SV)(args:List SV):Q Dl:=match f with
 | .fn g caps=>match wS P g,sp.fn g with
  | true,some s=>s base (args++caps)
  | _,_ => .fail
 | _ => .fail
def v9(dst:Option Tmp):Nat:=match dst with
 | some d=>(d+1)*16
 | none=>0
def rR(P:Program)(fz:Bool)(dst:Option Tmp)(b:Builtin)(args:List SV)(ts:List TypeId):Q Dl:=match b,args,ts with
 | .len,[x],[t]=>eQ P t x
 | .append,[s,x],[t,t']=>match Nat.beq t t',dst,fz with
  | true,some d,false=>kL P t ((d+1)*16) s x
  | true,some d,true=>rJ P t ((d+1)*16) s x
  | false,some d,_=>rQ P t t' ((d+1)*16) s x
  | _,none,_ => .fail
 | .cap,[x],[t]=>iB P t x
 | .min,[x,y],_=>qV x y
 | .max,[x,y],_=>qA x y
 | _,_,_ => .fail
def zq(sp:bc):Option Tmp->Option Nat
 | some d=>match sp.fn (4000000000+d) with
  | some _=>some d
  | none=>none
 | none=>none
def yM(sp:bc):Option Tmp->Bool
 | some d=>match sp.fn (4100000000+d) with
  | some _=>true
  | none=>false
 | none=>false
def sB(sp:bc):Bool:=match sp.fn 4200000000 with
 | some _=>true
 | none=>false
def DG(sp:bc):Option Tmp->Bool
 | some d=>match sp.fn (4300000000+d) with
  | some _=>true
  | none=>false
 | none=>false
def Dn(sp:bc):Option Tmp->Option Nat
 | some d=>match sp.fn (4400000000+d) with
  | some s=>match s 0 [] with
   | .ask n _=>some n
   | _=>none
  | none=>none
 | none=>none
def zQ(n:Nat)(x:SV):Q Dl:=(jO [.own n 0]).bind fun u=>.ret (.det [] x u)
def mw(sp:bc):Option Tmp->Bool
 | some d=>match sp.fn (4500000000+d) with
  | some _=>true
  | none=>false
 | none=>false
def qa(x:SV):Q Dl:=match x with
 | .own n sz => .ask n fun
  | .live (.row E u xs)=>match Nat.beq sz u.size with
   | true => .ret (.det [] (.dsl u xs) [(n,.live (.frz E u xs))])
   | false => .fail
  | _ => .fail
 | .dsl t xs=>aL (.dsl t xs)
 | _ => .fail
def Cs(sp:bc):Option Tmp->Bool
 | some d=>match sp.fn (4700000000+d) with
  | some _=>true
  | none=>false
 | none=>false
def ro(P:Program)(t:TypeId)(x:SV)(lo hi mx:Option SV):Q Dl:=match fK P t,x,mx with
 | some (_,sz),.own n sz',none => .ask n fun
  | .live (.row _ u xs)=>match Nat.beq sz u.size,Nat.beq sz' u.size,dZ lo 0,dZ hi xs.length with
   | true,true,some l,some hh => .ret (.det [0<=l,l<=hh,hh<=xs.length] (.part n sz' l.toNat (hh.toNat-l.toNat)) [])
   | _,_,_,_ => .fail
  | _ => .fail
 | _,_,_ => .fail
def qu(P:Program)(s t e:TypeId)(x:SV):Q Dl:=match Nat.beq s t,P.underlying e,x with
 | true,some (.int .u8),.own n sz => .ask n fun
  | .live (.row _ u xs)=>match Nat.beq sz u.size with
   | true => .ret (.det [1<=xs.length] (.dsl u xs) [(n,.dead)])
   | false => .fail
  | _ => .fail
 | true,some (.int .u8),.csl n k => .ask n fun
  | .live (.row _ u xs) => .ret (.det [1<=xs.length,xs.length=k] (.dsx u xs) [(n,.dead)])
  | _ => .fail
 | _,_,_ => .fail
def dJ(sp:bc)(ρ:Nat->SV)(x:Operand):SV:=match x with
 | .global g=>match sp.gl g with
  | some y => .dptr y.1 y.2 0
  | none => .gl g
 | x=>ag ρ x
def qq(P:Program)(t:TypeId)(x i:SV):Q Dl:=match x,i,P.underlying t with
 | .agg cs,.int _ i,some (.array len e)=>match bL P e,decide (0<=i)&&decide (i<len) with
  | some n,true=>jg (d9 P e cs (i.toNat*n))
  | _,_ => .fail
 | _,_,_ => .fail
def j5(P:Program)(sp:bc)(o:Oper)(ρ:Nat->SV):Q Dl :=
 match o.op with
 | .move x=>match mw sp o.dst with
  | true=>qa (ag ρ x)
  | false=>aL (ag ρ x)
 | .assign x=>match Dn sp o.dst with
  | some n=>zQ n (ag ρ x)
  | none=>aL (ag ρ x)
 | .pick c x y=>rL (ag ρ c) (ag ρ x) (ag ρ y)
 | .alloc E=>match o.dst with
  | some d=>kp E ((d+1)*16) (zeroCells P E)
  | none => .fail
 | .box E x=>match o.dst with
  | some d=>kp E ((d+1)*16) (jo (ag ρ x))
  | none => .fail
 | .build t ps=>pL P t (ps.toList.map fun p=>(p.1,ag ρ p.2))
 | .buildSlice t n ps=>match o.dst,mw sp o.dst with
  | some d,false=>lQ P t n ((d+1)*16) (ps.toList.map fun p=>(p.1,ag ρ p.2))
  | some d,true=>(lQ P t n ((d+1)*16) (ps.toList.map fun p=>(p.1,ag ρ p.2))).bind (oZ n)
  | none,_ => .fail
 | .load t x=>match sB sp,DG sp o.dst with
  | true,true=>rT P t (dJ sp ρ x)
  | true,false=>rt P t (dJ sp ρ x)
  | false,_=>lU P t (dJ sp ρ x)
 | .store t x y=>match sB sp with
  | true=>qw P t (ag ρ x) (ag ρ y)
  | false=>kC P t (ag ρ x) (ag ρ y)
 | .nilCheck x=>pR (ag ρ x)
 | .binOp op t x y _=>match P.underlying t with
  | some .string=>rx op (ag ρ x) (ag ρ y)
  | _=>pI P op t (ag ρ x) (ag ρ y)
 | .unOp op _ x=>rN op (ag ρ x)
 | .convert s t x=>match P.underlying t with
  | some .string=>pE P s (ag ρ x)
  | some (.slice e)=>qu P s t e (ag ρ x)
  | _=>rn P s t (ag ρ x)
 | .makeFunc (.func g) fs caps=>match fs.isEmpty with
  | true=>aL (.fn g (caps.toList.map (ag ρ)))
  | false => .fail
 | .makeSlice t l c=>match o.dst with
  | some d=>rf P t ((d+1)*16) (ag ρ l) (ag ρ c)
  | none => .fail
 | .slice t x lo hi mx=>match Cs sp o.dst with
  | true=>ro P t (ag ρ x) (lo.map (ag ρ)) (hi.map (ag ρ)) (mx.map (ag ρ))
  | false=>match zq sp o.dst with
   | some d=>qQ P t ((d+1)*16) (ag ρ x) (lo.map (ag ρ)) (hi.map (ag ρ)) (mx.map (ag ρ))
   | none=>rS P t (ag ρ x) (lo.map (ag ρ)) (hi.map (ag ρ)) (mx.map (ag ρ))
 | .fieldAddr s x f=>pz P s f (ag ρ x)
 | .field s x f=>qT P s f (ag ρ x)
 | .indexAddr t x i=>match P.underlying t with
  | some (.array _ _)=>qy P t (dJ sp ρ x) (ag ρ i)
  | _=>pT P t (ag ρ x) (ag ρ i)
 | .index t x i=>match yM sp o.dst with
  | true=>qq P t (ag ρ x) (ag ρ i)
  | false=>qU P t (ag ρ x) (ag ρ i)
 | .extract x i=>ph i (ag ρ x)
 | .makeMap t none=>match o.dst with
  | some d=>qi P t ((d+1)*16)
  | none => .fail
 | .lookup t x i true=>pB P t (ag ρ x) (ag ρ i)
 | .mapUpdate t x i y=>q8 P t (ag ρ x) (ag ρ i) (ag ρ y)
 | .call {callee := .builtin b,args,argTypes}=>rR P (mw sp o.dst) o.dst b (args.toList.map (ag ρ)) argTypes.toList
 | .call {callee := .value f,args,..}=>qS P sp (v9 o.dst) (ag ρ f) (args.toList.map (ag ρ))
 | _ => .fail
def zP(sp:bc):Option Tmp->Option (Nat×Nat)
 | some d=>match sp.fn (4600000000+d) with
  | some s=>match s 0 [] with
   | .ask p k=>match k .un with
    | .ask off _=>some (p,off)
    | _=>none
   | _=>none
  | none=>none
 | none=>none
def rO(p off nm:Nat):Q (List Prop×List (Nat×Nm)) := .ask p fun
 | .live (.cells E cs)=>match cs[off]? with
  | some (.part n sz lo len) => .ask n fun
   | .live (.row E' u xs)=>match Nat.beq sz u.size with
    | true => .ask nm fun
     | .un => .ret ([lo+len=xs.length],[(p,.live (.cells E (ec cs off [.own nm u.size]))),(nm,.live (.row E' u (xs.drop lo))),(n,.dead)])
     | _ => .fail
    | false => .fail
   | _ => .fail
  | _ => .fail
 | _ => .fail
def jG(P:Program)(sp:bc)(o:Oper)(ρ:Nat->SV):Q Dl:=match zP sp o.dst with
 | none=>j5 P sp o ρ
 | some (p,off)=>(j5 P sp o ρ).bind fun dl=>match dl with
  | .det pre v []=>(rO p off (v9 o.dst)).bind fun x=>.ret (.det (pre++x.1) v x.2)
  | _ => .fail
section
variable {P:Program} {sp:bc} {w0:World} {N0:bv} {A:Nat->Prop} {env:ai} {h:aI} {w:World} {o:Oper} {a:Act} {ρ:Nat->SV} {d:Dl} {r:List Nat}
def lp(P:Program)(o:Oper)(a:Act)(w0:World)(N0:bv)(A:Nat->Prop)(env:ai)(h:aI)(w:World)(d:Dl):Prop :=
 ∀(K:Act->World->Prop)(Q':Exit->Act->World->Prop),(∀ v w',bp w0 N0 A env h w d v w'→K (a.put o.dst v) w')->o.wp P a w K Q'
theorem av.steps(y:av P o a w0 N0 A env h w d):lp P o a w0 N0 A env h w d:=by
 intro K Q' hK
 obtain⟨v,w',hr,g⟩:=y
 unfold Oper.wp
 rcases hr with hr|⟨hr,rfl⟩ <;> rw[hr]
 ·exact hK _ _ g
 ·exact hK _ _ g
theorem zW(f:FD A env w ρ a)(xs:Array Operand):ac A env w (xs.toList.map (ag ρ)) (xs.map a.eval).toList:=by
 rw[Array.toList_map]
 generalize xs.toList=l
 induction l with
 | nil=>simp[ac]
 | cons p l ih=>simp only[List.map_cons,ac];exact⟨_,_,rfl,aT f p,ih⟩
theorem oI(hg:N0.g=sp.gl)(m:aw w0 N0 A env h w)(f:FD A env w ρ a)(x:Operand):aa A env w (dJ sp ρ x) (a.eval x):=by
 cases x with
 | global g =>
  simp only[dJ]
  cases hy:sp.gl g with
  | none=>simp only[aa,Act.eval]
  | some y =>
   obtain⟨h1,h2⟩:=m.gl g y (by rw[hg];exact hy)
   simp only[aa,Act.eval]
   exact⟨g,0,rfl,h1,h2⟩
 | tmp t=>simp only[dJ];exact aT f _
 | const v=>simp only[dJ];exact aT f (.const v)
 | func v=>simp only[dJ];exact aT f (.func v)
theorem AR(m:aw w0 N0 A env h w)(f:FD A env w ρ a){x:Operand}(ho:o.op = .move x)(e:(qa (ag ρ x)).run h=some (d,r)):av P o a w0 N0 A env h w d:=by
 have dx:=aT f x
 have exe:(execOp a.eval o).run P w = .ok (.value (a.eval x)) w:=by unfold execOp;rw[ho];rfl
 unfold qa at e
 split at e
 ·rename_i n sz hx
  rw[hx] at dx;simp only[aa] at dx
  simp only[Q.run] at e
  split at e
  ·rename_i p q hk
   simp only[Option.some.injEq,Prod.mk.injEq] at e
   obtain⟨rfl,rfl⟩:=e
   split at hk
   ·rename_i E u xs hl
    split at hk
    ·rename_i h1
     have h1:=Nat.eq_of_beq_eq_true h1
     cases aK hk
     have ok:dW h [(n,.live (.frz E u xs))]:=by
      intro n' b hb
      simp only[List.mem_singleton,Prod.mk.injEq] at hb
      obtain⟨rfl,rfl⟩:=hb
      exact⟨E,u,xs,hl,rfl⟩
     obtain⟨m2,x2⟩:=m.freeze ok
     refine⟨a.eval x,w,.inl exe,(),_,env,trivial,m2,x2,?_⟩
     show aa _ env w (.dsl u xs) (a.eval x)
     simp only[aa]
     rcases dx with⟨hnil,pa,ev⟩|⟨b,len,E2,c,hb,hsh,ev⟩
     ·have hx0:xs=[]:=by
       have:=m.nm n
       rw[hl] at this
       rcases this with⟨k',l',he',_⟩|⟨_,E3,t3,hb⟩
       ·rw[hnil] at he';cases he'
       ·rcases hb with hb|hb <;> cases hb;rfl
      subst hx0
      exact⟨by simp,.inl ⟨⟨pa,ev⟩,rfl⟩⟩
     ·have hs:aM [(n,Nm.live (cU.frz E u xs))] h n = .live (.frz E u xs):=by simp[aM]
      have hbd:=(m2.live_blk hs hb).1
      rw[ev,h1]
      exact lV (fun _ h=>h) hbd.2 hbd.1 hsh
    ·cases hk
   ·cases hk
  ·cases e
 ·rename_i t xs hx
  rw[hx] at dx
  unfold aL at e
  cases aK e
  exact av.pure m exe dx
 ·cases e
theorem tT(m:aw w0 N0 A env h w){n:Nat}{E':TypeId}{u:CT}{xs:List u.D}(hl:h n = .live (.row E' u xs)){b:Nat}{l:Nat×Nat}(hb:env n = .blk b l){E3:TypeId}{c:Nat}(hsh:w.shape? b=some (E3,c)) :
  ∃ A',aw w0 N0 A' env (aM [(n,Nm.dead)] h) (w.freeze ⟨b,c,none⟩ 1)/\aW A env w A' env (w.freeze ⟨b,c,none⟩ 1)/\ep A' (w.freeze ⟨b,c,none⟩ 1) u (.slice (some ⟨b,l.1,none⟩) l.2 ((c-l.1)/u.size)) xs/\xs.length=l.2/\l.2<=maxLen:=by
 obtain⟨cur,cap,hh,hcs,hxl,hlc,hcm,hrd⟩:=(m.live_blk hl hb).1
 have hw:∀ k,(w.freeze ⟨b,k,none⟩ 1).heap=w.heap.modify b (fun o=>match o with | .cells c cw (lo,hi) => .cells c cw (if lo == hi then (k,k+1) else (min lo k,max hi (k+1)))|o=>o):=fun k=>rfl
 generalize hW:w.freeze ⟨b,c,none⟩ 1=w' at *
 have hheap:w'.heap=w.heap.modify b (fun o=>match o with | .cells c' cw (lo,hi) => .cells c' cw (if lo == hi then (c,c+1) else (min lo c,max hi (c+1)))|o=>o):=by rw[← hW];exact hw c
 have hcell:∀ k o,w'.cell? ⟨k,o,none⟩=w.cell? ⟨k,o,none⟩:=fun k o=>by
  unfold World.cell?
  rw[hheap,Array.getElem?_modify]
  by_cases hkb:b=k
  ·subst hkb;rw[if_pos rfl,hh];rfl
  ·rw[if_neg hkb]
 have hshape:∀ k,w'.shape? k=w.shape? k:=fun k=>by
  unfold World.shape?
  rw[hheap,Array.getElem?_modify]
  by_cases hkb:b=k
  ·subst hkb;rw[if_pos rfl,hh];rfl
  ·rw[if_neg hkb]
 have cg:aR w w' fun j=>j=b:=⟨by rw[← hW];rfl,by rw[← hW];rfl,by rw[← hW];rfl,by rw[hheap];simp,fun k _ hk=>by rw[hheap,Array.getElem?_modify,if_neg (fun e=>hk e.symm)],fun k s hs=>by rw[hshape];exact hs⟩
 have hbl:b<w.heap.size:=(Array.getElem?_eq_some_iff.1 hh).1
 have up:cN (fun k=>k=n) (fun j=>j=b) A env h w (fun k=>A k∨k=b) env (aM [(n,Nm.dead)] h) w':=by
  refine⟨cg,?_,fun _ h=>.inl h,?_,fun _ _=>rfl,fun _ _=>rfl,fun k hk=>by rw[c7 (by simpa using hk)],?_,?_,?_⟩
  ·rintro _ rfl;exact⟨n,_,l,rfl,hl,rfl,hb⟩
  ·rintro k (hk|rfl)
   ·exact .inl hk
   ·exact .inr ⟨.inr ⟨n,_,l,rfl,hl,rfl,hb⟩,Nat.lt_of_lt_of_le hbl cg.size⟩
  ·rintro _ rfl;simp[aM,jB]
  ·rintro _ b' k' l' rfl h2;simp[aM] at h2
  ·rintro _ _ b' _ k' l' _ rfl rfl h2;simp[aM] at h2
 refine⟨_,m.upd up,m.ext up,?_,hxl,by omega⟩
 have hcc:c=cur.size:=by
  unfold World.shape? at hsh;rw[hh] at hsh
  simp only[Option.some.injEq,Prod.mk.injEq] at hsh;exact hsh.2.symm
 have hcap:(c-l.1)/u.size=cap:=by rw[hcc,hcs,Nat.add_sub_cancel_left];exact Nat.mul_div_cancel _ u.size_pos
 rw[hcap,← hxl]
 refine⟨by omega,.inr ⟨b,l.1,cap,rfl,by omega,hcm,.inr rfl,fun i hi=>?_⟩⟩
 refine bR (fun _ h=>.inl h) (fun _ _ _=>hcell _ _) u _ _ _ _ (fun j _=>?_) (hrd i hi)
 rw[hcell,cell_of_row w b _ cur E' (0,0) hh]
theorem D5(m:aw w0 N0 A env h w)(f:FD A env w ρ a){s t E2:TypeId}{x:Operand}(ho:o.op = .convert s t x)(ht:P.underlying t=some (.slice E2))
  (e:(qu P s t E2 (ag ρ x)).run h=some (d,r)) (hp:aB d.pre):av P o a w0 N0 A env h w d:=by
 have dx:=aT f x
 unfold qu at e
 split at e
 case h_3=>cases e
 ·rename_i n sz hst hu hx
  have hst:=Nat.eq_of_beq_eq_true hst
  subst hst
  rw[hx] at dx;simp only[aa] at dx
  simp only[Q.run] at e
  split at e
  case h_2=>cases e
  rename_i p q hk
  simp only[Option.some.injEq,Prod.mk.injEq] at e
  obtain⟨rfl,rfl⟩:=e
  split at hk
  case h_2=>cases hk
  rename_i E' u xs hl
  split at hk
  case h_2=>cases hk
  rename_i h1
  have h1:=Nat.eq_of_beq_eq_true h1
  subst h1
  cases aK hk
  simp only[Dl.pre,aB,and_true] at hp
  rcases dx with⟨hnil,_⟩|⟨b,l,E3,c,hb,hsh,ev⟩
  ·exfalso
   have:=m.nm n
   rw[hl] at this
   rcases this with⟨k',l',he',_⟩|⟨_,E3,t3,hb⟩
   ·rw[hnil] at he';cases he'
   ·rcases hb with hb|hb <;> cases hb;simp at hp
  ·obtain⟨A',m',x',hr,-⟩:=tT m hl hb hsh
   refine⟨a.eval x,_,.inl ?_,(),_,env,trivial,m',x',?_⟩
   ·unfold execOp;rw[ho]
    simp only[ev,convert,Sem.run_bind,run_underlying ht,Result.andThen_ok]
    simp[run_underlying hu,markStringish,hsh]
   ·show aa _ env _ (.dsl u xs) (a.eval x)
    simp only[aa]
    rw[ev];exact hr
 ·rename_i n k hst hu hx
  have hst:=Nat.eq_of_beq_eq_true hst
  subst hst
  rw[hx] at dx;simp only[aa] at dx
  simp only[Q.run] at e
  split at e
  case h_2=>cases e
  rename_i p q hk
  simp only[Option.some.injEq,Prod.mk.injEq] at e
  obtain⟨rfl,rfl⟩:=e
  split at hk
  case h_2=>cases hk
  rename_i E' u xs hl
  cases aK hk
  simp only[Dl.pre,aB,and_true] at hp
  obtain⟨hp1,rfl⟩:=hp
  obtain⟨b,l,⟨hb,hl0⟩,ev⟩:=dx
  have hsh:∃ E3 c,w.shape? b=some (E3,c):=by
   obtain⟨cur,cap,hh,-⟩:=(m.live_blk hl hb).1
   exact⟨E',cur.size,by unfold World.shape?;rw[hh]⟩
  obtain⟨E3,c,hsh⟩:=hsh
  obtain⟨A',m',x',hr,hxl,hml⟩:=tT m hl hb hsh
  rw[← hxl] at hr
  refine⟨a.eval x,_,.inl ?_,(),_,env,trivial,m',x',?_⟩
  ·unfold execOp;rw[ho]
   simp only[ev,convert,Sem.run_bind,run_underlying ht,Result.andThen_ok]
   simp[run_underlying hu,markStringish,hsh]
  ·show aa _ env _ (.dsx u xs) (a.eval x)
   simp only[aa]
   rw[ev]
   rw[hl0] at hr
   exact⟨DF hr (Nat.le_refl _) (by omega) (fun h=>by rw[h];rfl),_,rfl⟩
theorem C5(m:aw w0 N0 A env h w)(f:FD A env w ρ a){t:TypeId}{x:Operand}{lo hi mx:Option Operand}(ho:o.op = .slice t x lo hi mx)
  (e:(ro P t (ag ρ x) (lo.map (ag ρ)) (hi.map (ag ρ)) (mx.map (ag ρ))).run h=some (d,r)) (hp:aB d.pre):av P o a w0 N0 A env h w d:=by
 have dx:=aT f x
 unfold ro at e
 split at e
 case h_2=>cases e
 rename_i E sz n sz' he hx hmx
 obtain⟨hu,hsz⟩:=gr he
 have hmx':mx=none:=by cases mx <;> simp_all
 subst hmx'
 rw[hx] at dx;simp only[aa] at dx
 simp only[Q.run] at e
 split at e
 case h_2=>cases e
 rename_i p q hk
 simp only[Option.some.injEq,Prod.mk.injEq] at e
 obtain⟨rfl,rfl⟩:=e
 split at hk
 case h_2=>cases hk
 rename_i E' u xs hl
 split at hk
 case h_2=>cases hk
 rename_i l hh h1 h2 hb1 hb2
 have h1:=Nat.eq_of_beq_eq_true h1
 have h2:=Nat.eq_of_beq_eq_true h2
 cases aK hk
 simp only[Dl.pre,aB,and_true] at hp
 obtain⟨p1,p2,p3⟩:=hp
 have exe:∀{p:Option Addr}{cap:Nat},a.eval x = .slice p xs.length cap->xs.length<=cap →
   (execOp a.eval o).run P w = .ok (.value (.slice (if cap=l.toNat then p else p.map (·.add (l.toNat*sz))) (hh.toNat-l.toNat) (cap-l.toNat))) w:=by
  intro p cap ev hle
  unfold execOp;rw[ho]
  have hb:=ot (P:=P) (w:=w) xs.length cap (lo.map a.eval) (hi.map a.eval) none l.toNat hh.toNat cap (.inl ⟨rfl,rfl⟩)
   (by rcases jp f hb2 with⟨rfl,e1⟩|⟨k,y,rfl,e1⟩
       ·exact .inl ⟨rfl,rfl,by omega⟩
       ·exact .inr ⟨k,hh,by simp[e1],by omega,by omega,rfl⟩)
   (by rcases jp f hb1 with⟨rfl,e1⟩|⟨k,y,rfl,e1⟩
       ·exact .inl ⟨rfl,by omega⟩
       ·exact .inr ⟨k,l,by simp[e1],by omega,by omega,rfl⟩)
  simp only[Option.map_none,Instr.sliceAt,Instr.slice,Sem.run_bind,run_underlying hu,Result.andThen_ok,ev,hb,cz hsz,Sem.run_pure]
 rcases dx with⟨hnil,pa,ev⟩|⟨b,⟨β,len⟩,E2,c,hb,hsh,ev⟩
 ·have hx0:xs=[]:=by
   have:=m.nm n
   rw[hl] at this
   rcases this with⟨k',l',he',_⟩|⟨_,E3,t3,hb⟩
   ·rw[hnil] at he';cases he'
   ·rcases hb with hb|hb <;> cases hb;rfl
  subst hx0
  have hz:hh.toNat-l.toNat=0:=by simp at p3;omega
  refine av.pure m (exe ev (by simp)) ?_
  simp only[aa]
  exact .inl ⟨hz,_,by rw[hz,show 0-l.toNat=0 by omega]⟩
 ·obtain⟨cur,cap,hhp,hcs,hxl,hlc,hcm,hrd⟩:=(m.live_blk hl hb).1
  simp only at hcs hxl hlc ev
  have hcc:c=cur.size:=by
   unfold World.shape? at hsh;rw[hhp] at hsh
   simp only[Option.some.injEq,Prod.mk.injEq] at hsh;exact hsh.2.symm
  have hcap:(c-β)/sz'=cap:=by rw[hcc,hcs,h2,Nat.add_sub_cancel_left];exact Nat.mul_div_cancel _ u.size_pos
  rw[hcap,← hxl] at ev
  refine av.pure m (exe ev (by omega)) ?_
  simp only[aa]
  by_cases hm:cap=l.toNat
  ·rw[if_pos hm]
   have hz:hh.toNat-l.toNat=0:=by omega
   exact .inl ⟨hz,_,by rw[hz,hm,Nat.sub_self]⟩
  ·rw[if_neg hm]
   refine .inr ⟨b,(β,len),E2,c,hb,by simp only;omega,hsh,?_⟩
   rw[hcap]
   simp only[Option.map_some,Addr.add_lit,h1,h2]
theorem D9(m:aw w0 N0 A env h w)(f:FD A env w ρ a){t:TypeId}{x i:Operand}(ho:o.op = .index t x i)
  (e:(qq P t (ag ρ x) (ag ρ i)).run h=some (d,r)):av P o a w0 N0 A env h w d:=by
 have dx:=aT f x
 have di:=aT f i
 unfold qq at e
 split at e
 ·rename_i cs ki iv len E hx hi hu
  rw[hx] at dx;rw[hi] at di
  simp only[aa] at dx di
  obtain⟨vs,ev,dv⟩:=dx
  split at e
  ·rename_i n hn hb
   simp only[Bool.and_eq_true,decide_eq_true_eq] at hb
   obtain⟨sv,e1,rfl⟩:=jr e
   obtain⟨v,hr,hd⟩:=oN e1 dv
   refine av.pure m (v:=v) ?_ hd
   unfold execOp;rw[ho]
   simp only[Instr.index,di.1,ev,asIntOf,Sem.run_bind,Sem.run_pure,Result.andThen_ok,run_underlying hu,Sem.run_ite,if_pos (And.intro hb.1 hb.2),cz hn,hr]
  ·cases e
 ·cases e
theorem CD(hs:ca P sp/\N0.g=sp.gl)(m:aw w0 N0 A env h w)(f:FD A env w ρ a){g:Operand}{args:Array Operand}{ts:Array TypeId}{base:Nat}(ho:o.op = .call {callee := .value g,args,argTypes:=ts})
  (e:(qS P sp base (ag ρ g) (args.toList.map (ag ρ))).run h=some (d,r)) (hp:aB d.pre):(∃ v w',bp w0 N0 A env h w d v w')/\lp P o a w0 N0 A env h w d:=by
 have dg:=aT f g
 unfold qS at e
 split at e
 ·rename_i gi caps hg
  split at e
  ·rename_i s hb hsp
   rw[hg] at dg;simp only[aa] at dg
   obtain⟨vs,ev,dv⟩:=dg
   have hcall:=hs.1 gi s hsp base _ h d r e hp w0 N0 A env w _ hs.2 m (hB (zW f args) dv)
   refine⟨?_,fun K Q' hK=>?_⟩
   ·obtain⟨e',w',fr,⟨v,_,g⟩,_⟩:=hcall []
    exact⟨v,w',g⟩
   unfold Oper.wp execOp
   rw[ho]
   unfold wS at hb
   split at hb
   ·rename_i fn hfn
    simp only[Bool.and_eq_true,Bool.not_eq_true'] at hb
    have hbody:fn.body.isNone=false:=by cases hfb:fn.body <;> simp_all
    simp only[resolve,Deferred.ofValue,ev,Sem.run_bind,Sem.run_pure,Result.andThen_ok,invoke,callFunc,run_program,hfn,hb.1,hbody,Bool.false_eq_true,if_false,Array.empty_append,Oper.upon]
    have hargs:((Array.map a.eval args).toList++vs.toList).toArray=Array.map a.eval args++vs:=by apply Array.ext';simp
    rw[hargs] at hcall
    refine hcall.mono ?_
    rintro e' w' ⟨v,rfl,g⟩
    exact hK _ _ g
   ·cases hb
  ·cases e
 ·cases e
theorem lh{v:SV}(e:(aL v).run h=some (d,r)):d = .det [] v []:=(aK e).symm
theorem tI(hs:ca P sp/\N0.g=sp.gl)(m:aw w0 N0 A env h w)(f:FD A env w ρ a)
  (e:(j5 P sp o ρ).run h=some (d,r)) (hp:aB d.pre):(∃ v w',bp w0 N0 A env h w d v w')/\lp P o a w0 N0 A env h w d:=by
 have ofY:av P o a w0 N0 A env h w d->(∃ v w',bp w0 N0 A env h w d v w')/\lp P o a w0 N0 A env h w d:=fun y=>by
  have y':=y
  obtain⟨v,w',hr,g⟩:=y'
  exact⟨⟨v,w',g⟩,y.steps⟩
 unfold j5 at e
 split at e
 ·rename_i x ho
  split at e
  ·exact ofY (AR m f ho e)
  ·rw[lh e];rw[lh e] at ofY;exact ofY (ub m f (.inl ho))
 ·rename_i x ho
  split at e
  ·obtain⟨u,r1,r2,e2,e3,rfl⟩:=Q.run_bind _ _ _ e
   cases aK e3
   obtain⟨A',m',x'⟩:=mR m _ e2
   refine ofY ⟨a.eval x,w,.inl ?_,(),A',env,trivial,m',x',gC x' _ _ (aT f x)⟩
   unfold execOp;rw[ho];rfl
  ·rw[lh e];rw[lh e] at ofY;exact ofY (ub m f (.inr ho))
 ·rename_i c x y ho;exact ofY (xM m f ho e hp)
 ·rename_i E ho
  split at e
  ·exact ofY (xD m ho e)
  ·cases e
 ·rename_i E x ho
  split at e
  ·exact ofY (CQ m f ho e)
  ·cases e
 ·rename_i t ps ho;exact ofY (AO m f ho e)
 ·rename_i t n ps ho
  split at e
  ·exact ofY (D8 m f ho e)
  ·obtain⟨d1,r1,r2,e1,e2,rfl⟩:=Q.run_bind _ _ _ e
   obtain⟨v,w',h1,h2,h3⟩:=xd m f ho e1
   exact ofY ⟨v,w',.inl h1,CM e2 h3 h2⟩
  ·cases e
 ·rename_i t x ho
  split at e
  ·exact ofY (ED m (dJ sp ρ) (oI hs.2 m f x) ho e)
  ·exact ofY (yg m (dJ sp ρ) (oI hs.2 m f x) ho e hp)
  ·exact ofY (qZ m (dJ sp ρ) (oI hs.2 m f x) ho e)
 ·rename_i t x y ho
  split at e
  ·exact ofY (yz m f ho e hp)
  ·exact ofY (oP m f ho e)
 ·rename_i x ho;exact ofY (AZ m f ho e)
 ·rename_i op t x y yt ho
  split at e
  ·rename_i ht;exact ofY (yy m f ho ht e)
  ·exact ofY (A5 m f ho e hp)
 ·rename_i op t x ho;exact ofY (x7 m f ho e hp)
 ·rename_i s t x ho
  split at e
  ·rename_i ht;exact ofY (BS m f ho ht e)
  ·rename_i E2 ht;exact ofY (D5 m f ho ht e hp)
  ·exact ofY (zZ m f ho e hp)
 ·rename_i g fs caps ho
  split at e
  ·rename_i hfs
   have:fs = #[]:=by simpa using hfs
   subst this
   rw[lh e];rw[lh e] at ofY
   exact ofY (EK m f ho)
  ·cases e
 ·rename_i t l c ho
  split at e
  ·exact ofY (zX m f ho e hp)
  ·cases e
 ·rename_i t x lo hi mx ho
  split at e
  ·exact ofY (C5 m f ho e hp)
  ·split at e
   ·exact ofY (DE m f ho e hp)
   ·exact ofY (Bi m f ho e hp)
 ·rename_i s x i ho;exact ofY (BB m f ho e)
 ·rename_i s x i ho;exact ofY (D3 m f ho e)
 ·rename_i t x i ho
  split at e
  ·exact ofY (xH m f (dJ sp ρ) (oI hs.2 m f x) ho e)
  ·exact ofY (B0 m f ho e hp)
 ·rename_i t x i ho
  split at e
  ·exact ofY (D9 m f ho e)
  ·exact ofY (AA m f ho e hp)
 ·rename_i x i ho;exact ofY (zM m f ho e)
 ·rename_i t ho
  split at e
  ·exact ofY (C4 m ho e)
  ·cases e
 ·rename_i t x i ho;exact ofY (xW m f ho e)
 ·rename_i t x i y ho;exact ofY (yP m f ho e)
 ·rename_i b args ts ho
  obtain⟨al⟩:=args
  obtain⟨tl⟩:=ts
  have e':(rR P (mw sp o.dst) o.dst b (al.map (ag ρ)) tl).run h=some (d,r):=e
  clear e
  generalize mw sp o.dst=fz at e'
  cases b
  case len =>
   match al,tl with
   | [x1],[t1]=>exact ofY (BH m f ho e')
   | [],_=>cases e'
   | _::_::_,_=>cases e'
   | [_],[]=>cases e'
   | [_],_::_::_=>cases e'
  case cap =>
   match al,tl with
   | [x1],[t1]=>exact ofY (zD m f ho e')
   | [],_=>cases e'
   | _::_::_,_=>cases e'
   | [_],[]=>cases e'
   | [_],_::_::_=>cases e'
  case append =>
   match al,tl with
   | [x1,x2],[t1,t2] =>
    simp only[List.map,rR] at e'
    split at e'
    ·rename_i dd hb _
     have hb:t1=t2:=Nat.eq_of_beq_eq_true hb
     subst hb
     exact ofY (qG m f ho e' hp)
    ·rename_i dd hb _
     have hb:t1=t2:=Nat.eq_of_beq_eq_true hb
     subst hb
     exact ofY (yZ m f ho e' hp)
    ·exact ofY (zB m f ho e' hp)
    ·cases e'
   | [],_=>cases e'
   | [_],_=>cases e'
   | _::_::_::_,_=>cases e'
   | [_,_],[]=>cases e'
   | [_,_],[_]=>cases e'
   | [_,_],_::_::_::_=>cases e'
  case min =>
   match al with
   | [x1,x2]=>exact ofY (DA m f ho e')
   | []=>cases e'
   | [_]=>cases e'
   | _::_::_::_=>cases e'
  case max =>
   match al with
   | [x1,x2]=>exact ofY (Cd m f ho e')
   | []=>cases e'
   | [_]=>cases e'
   | _::_::_::_=>cases e'
  all_goals (cases e')
 ·rename_i g args ts ho
  exact CD hs m f ho e hp
 ·cases e
theorem Eo(m:aw w0 N0 A env h w){p off nm:Nat}{x:List Prop×List (Nat×Nm)}(e:(rO p off nm).run h=some (x,r))(hp:aB x.1) :
  ∃ A' env',aw w0 N0 A' env' (aM x.2 h) w/\aW A env w A' env' w:=by
 unfold rO at e
 simp only[Q.run] at e
 split at e
 case h_2=>cases e
 rename_i p0 q0 hk
 simp only[Option.some.injEq,Prod.mk.injEq] at e
 obtain⟨rfl,rfl⟩:=e
 split at hk
 case h_2=>cases hk
 rename_i E cs hl
 split at hk
 case h_2=>cases hk
 rename_i n sz lo len hc
 simp only[Q.run] at hk
 split at hk
 case h_2=>cases hk
 rename_i p1 q1 hk1
 simp only[Option.some.injEq,Prod.mk.injEq] at hk
 obtain⟨rfl,rfl⟩:=hk
 split at hk1
 case h_2=>cases hk1
 rename_i E' u xs hn
 split at hk1
 case h_2=>cases hk1
 rename_i hsz
 have hsz:=Nat.eq_of_beq_eq_true hsz
 subst hsz
 simp only[Q.run] at hk1
 split at hk1
 case h_2=>cases hk1
 rename_i p2 q2 hk2
 simp only[Option.some.injEq,Prod.mk.injEq] at hk1
 obtain⟨rfl,rfl⟩:=hk1
 split at hk2
 case h_2=>cases hk2
 rename_i hun
 simp only[Q.run,Option.some.injEq,Prod.mk.injEq] at hk2
 obtain⟨rfl,rfl⟩:=hk2
 simp only[aB,and_true] at hp
 have hpe:∃ k l,env p = .blk k l:=by
  have:=m.nm p
  rw[hl] at this
  rcases this with⟨k,l,h1,_⟩|⟨_,E2,t2,hb⟩
  ·exact⟨k,l,h1⟩
  ·rcases hb with hb|hb <;> cases hb
 obtain⟨k,l,hpe⟩:=hpe
 obtain⟨⟨vs,hvs,hd⟩,_⟩:=m.live_blk hl hpe
 obtain⟨v,hv,hdv⟩:=iN _ _ hd hc
 have hpn:p≠n:=fun e=>by rw[e,hn] at hl;cases hl
 have hpm:p≠nm:=fun e=>by rw[e,hun] at hl;cases hl
 have hdn:∀ n'∈[n],∃ b,h n' = .live b/\b.mut=true:=by simp[hn,cU.mut]
 have g:bp w0 N0 A env h w (.det [] (.own nm u.size) ((nm,.live (.row E' u (xs.drop lo)))::[n].map fun n=>(n,.dead))) v w:=by
  simp only[aa] at hdv
  rcases hdv with⟨rfl,pa,rfl⟩|⟨b,⟨β,ln⟩,E2,c,hb,hle,hsh,rfl⟩
  ·have hz:xs.drop lo=[]:=List.drop_eq_nil_of_le (by omega)
   exact dP m hun [n] hdn (W:=fun _=>False) (ev := .nil) (aR.refl w _) (fun _ h=>h.elim) (by simp) (fun k l e=>by cases e) (fun _=>.inl ⟨rfl,hz,pa,rfl⟩)
  ·obtain⟨cur,cap,hh,hcs,hxl,hlc,hcm,hrd⟩:=(m.live_blk hn hb).1
   simp only at hcs hxl hlc hrd hle
   have hcc:E2=E'∧c=cur.size:=by
    unfold World.shape? at hsh;rw[hh] at hsh
    simp only[Option.some.injEq,Prod.mk.injEq] at hsh;exact⟨hsh.1.symm,hsh.2.symm⟩
   obtain⟨rfl,rfl⟩:=hcc
   have hcap:(cur.size-β)/u.size=cap:=by rw[hcs,Nat.add_sub_cancel_left];exact Nat.mul_div_cancel _ u.size_pos
   have hm:cap*u.size=lo*u.size+(cap-lo)*u.size:=by rw[← Nat.add_mul];congr 1;omega
   refine dP m hun [n] hdn (W:=fun _=>False) (ev := .blk b (β+lo*u.size,len)) (aR.refl w _) (fun _ h=>h.elim) (by simp) (fun k l e=>by cases e;exact .inr ⟨n,(β,ln),by simp,hb⟩)
    (fun x=>.inr ⟨b,(β+lo*u.size,len),cur.size,rfl,⟨cur,cap-lo,hh,by simp only;omega,by simp only[List.length_drop];omega,by simp only;omega,by omega,fun i hi=>?_⟩,hsh,?_⟩)
   ·simp only[List.length_drop] at hi
    rw[List.getElem_drop]
    have:=hrd (lo+i) (by omega)
    simp only
    rw[Nat.add_mul,← Nat.add_assoc] at this
    exact this
   ·simp only
    rw[hcap,show cur.size-(β+lo*u.size)=(cap-lo)*u.size from by omega,Nat.mul_div_cancel _ u.size_pos]
 obtain⟨x0,A',env',_,m1,x1,d1⟩:=g
 have m1:aw w0 N0 A' env' (aM [(nm,Nm.live (.row E' u (xs.drop lo))),(n,.dead)] h) w:=m1
 have d1:aa A' env' w (.own nm u.size) v:=d1
 have hl1:aM [(nm,Nm.live (.row E' u (xs.drop lo))),(n,.dead)] h p = .live (.cells E cs):=by
  rw[c7 (by simp[hpm,hpn])];exact hl
 have hpe1:=x1.envb _ _ _ hpe
 have hup:=cN.write (b' := .cells E (ec cs off [.own nm u.size])) m1 hl1 rfl hpe1 (aR.refl w _) ⟨vs,hvs,by
  have h2:ac A' env' w [.own nm u.size] [v]:=by simp only[ac];exact⟨v,[],rfl,d1,rfl⟩
  have h3:=kw (off:=off) (gg x1 _ _ hd) h2
  have hlt:off<vs.toList.length:=(List.getElem?_eq_some_iff.1 hv).1
  have hvv:vs.toList[off]=v:=(List.getElem?_eq_some_iff.1 hv).2
  have he:vs.toList.take off++([v]++vs.toList.drop (off+[v].length))=vs.toList:=by
   rw[← hvv]
   simp only[List.length_singleton,List.singleton_append]
   rw[List.getElem_cons_drop,List.take_append_drop]
  rw[he] at h3;exact h3⟩ rfl
 exact⟨A',env',m1.upd hup,x1.trans (m1.ext hup)⟩
theorem tq(hs:ca P sp/\N0.g=sp.gl)(m:aw w0 N0 A env h w)(f:FD A env w ρ a)
  (e:(jG P sp o ρ).run h=some (d,r)) (hp:aB d.pre):(∃ v w',bp w0 N0 A env h w d v w')/\lp P o a w0 N0 A env h w d:=by
 unfold jG at e
 split at e
 ·exact tI hs m f e hp
 ·rename_i p off hc
  obtain⟨dl,r1,r2,e1,e2,rfl⟩:=Q.run_bind _ _ _ e
  split at e2
  ·rename_i pre v
   obtain⟨x,r3,r4,e3,e4,rfl⟩:=Q.run_bind _ _ _ e2
   cases aK e4
   have hp:aB (pre++x.1):=hp
   obtain⟨hp1,hp2⟩:=eY.1 hp
   obtain⟨⟨v0,w0',g0⟩,s0⟩:=tI hs m f e1 hp1
   have conv:∀ v1 w1,bp w0 N0 A env h w (.det pre v []) v1 w1->bp w0 N0 A env h w (.det (pre++x.1) v x.2) v1 w1:=fun v1 w1 g=>by
    obtain⟨_,A',env',_,m1,x1,d1⟩:=g
    obtain⟨A2,env2,m2,x2⟩:=Eo (h:=h) m1 e3 hp2
    exact⟨(),A2,env2,trivial,m2,x1.trans x2,gC x2 _ _ d1⟩
   exact⟨⟨v0,w0',conv _ _ g0⟩,fun K Q' hK=>s0 K Q' fun v1 w1 g=>hK v1 w1 (conv _ _ g)⟩
  ·cases e2
end
end Go.SX
