/- SX, part 10: append, slicing, an array's element: soundness. -/
import Derived.Test.YtffciochlkcjbaaSx9
import Derived.Lib.AppendZeros
import Derived.Laws.BytesArg
import Derived.Laws.StructEq
import Derived.MapKept
import Derived.Carry
import Derived.Orders
namespace Go.SX
set_option linter.unusedVariables false
section
variable {P:Program} {w0:World} {N0:bt} {A:Nat->Prop} {env:ah} {h:aC} {w:World} {o:Oper} {a:Act} {ρ:Nat->SV} {d:Dl} {r:List Nat}
theorem mQ{t:CT}{cv:Nat->Option Value}:∀(ys:List t.D)(off:Nat),(∀ i (hi:i<ys.length),Rd A w t cv (off+i*t.size) ys[i]) →
  ∃ news:List Value,news.length=ys.length*t.size/\(∀ j,j<news.length->cv (off+j)=news[j]?)∧∀ u∈news,u.oneCell'=true
 | [],off,_=>⟨[],by simp,by simp,by simp⟩
 | y::ys,off,hr=>by
  obtain⟨us,hl,hc,hd⟩:=gS (env:=fun _=>.un) t y cv off (by have:=hr 0 (by simp);simpa only[Nat.zero_mul,Nat.add_zero,List.getElem_cons_zero] using this)
  obtain⟨news,hl2,hc2,h1⟩:=mQ ys (off+t.size) (fun i hi=>by
   have:=hr (i+1) (by simpa using hi)
   simp only[List.getElem_cons_succ] at this
   rw[show off+t.size+i*t.size=off+(i+1)*t.size from by rw[Nat.add_mul,Nat.one_mul];omega]
   exact this)
  refine⟨us++news,by simp[hl,hl2,Nat.add_mul];omega,fun j hj=>?_,?_⟩
  ·by_cases hlt:j<t.size
   ·rw[hc j hlt,List.getElem?_append_left (by omega)]
   ·rw[List.getElem?_append_right (by omega),hl]
    simp only[List.length_append] at hj
    have:=hc2 (j-t.size) (by omega)
    rw[show off+t.size+(j-t.size)=off+j from by omega] at this
    exact this
  ·intro u hu
   rcases List.mem_append.1 hu with hu|hu
   ·exact kO hd (mo _ _) u hu
   ·exact h1 u hu
theorem vF{t:CT}{v:Value}{ys:List t.D}(hs:fj A w t v ys):∃ p c,v = .slice p ys.length c/\ys.length<=maxLen ∧
  (ys.length=0∨∃ b off,p=some ⟨b,off,none⟩∧∀ i (hi:i<ys.length),Rd A w t (fun o=>w.cell? ⟨b,o,none⟩) (off+i*t.size) ys[i]):=by
 obtain⟨hl,⟨⟨p,rfl⟩,rfl⟩|⟨b,off,cap,rfl,h1,h2,h3,h4⟩⟩:=hs
 ·exact⟨p,0,rfl,hl,.inl rfl⟩
 ·exact⟨_,cap,rfl,hl,.inr ⟨b,off,rfl,h4⟩⟩
theorem nP(m:ar w0 N0 A env h w){t:CT}{x:SV}{v:Value}{ys:List t.D}(e:(gK t x).run h=some (ys,r))(hd:aa A env w x v) :
  ∃ p c,v = .slice p ys.length c/\ys.length<=maxLen ∧
  (ys.length=0∨∃ b off,p=some ⟨b,off,none⟩∧∀ i (hi:i<ys.length),Rd A w t (fun o=>w.cell? ⟨b,o,none⟩) (off+i*t.size) ys[i]):=by
 unfold gK at e
 split at e
 ·rename_i u zs
  split at e
  ·rename_i zs' hc
   simp only[Q.run,Option.some.injEq,Prod.mk.injEq] at e
   obtain⟨rfl,_⟩:=e
   obtain⟨et,ey⟩:=cj hc
   subst et
   simp only at ey
   subst ey
   simp only[aa] at hd
   exact vF hd
  ·cases e
 ·rename_i u zs
  split at e
  ·rename_i zs' hc
   simp only[Q.run,Option.some.injEq,Prod.mk.injEq] at e
   obtain⟨rfl,_⟩:=e
   obtain⟨et,ey⟩:=cj hc
   subst et
   simp only at ey
   subst ey
   simp only[aa] at hd
   exact vF hd.1
  ·cases e
 ·simp only[Q.run,Option.some.injEq,Prod.mk.injEq] at e
  obtain⟨rfl,_⟩:=e
  simp only[aa] at hd
  exact⟨none,0,by rw[hd];rfl,by simp,.inl rfl⟩
 ·rename_i n sz
  simp only[aa] at hd
  simp only[Q.run] at e
  split at e
  ·rename_i p q hk
   simp only[Option.some.injEq,Prod.mk.injEq] at e
   obtain⟨rfl,rfl⟩:=e
   have fin:∀{E':TypeId}{u:CT}{zs:List u.D},(h n = .live (.row E' u zs)∨h n = .live (.frz E' u zs))->bM u t zs=some p →
     ∃ p' c,v = .slice p' p.length c/\p.length<=maxLen ∧
     (p.length=0∨∃ b off,p'=some ⟨b,off,none⟩∧∀ i (hi:i<p.length),Rd A w t (fun o=>w.cell? ⟨b,o,none⟩) (off+i*t.size) p[i]):=by
    intro E' u zs hl hc
    obtain⟨et,ey⟩:=cj hc
    subst et
    simp only at ey
    subst ey
    rcases hd with⟨hnil,pp,ev⟩|⟨b,len,E2,c,hb,_,ev⟩
    ·have hx:p.length=0:=by
      have:=m.nm n
      rcases hl with hl|hl <;> rw[hl] at this <;> rcases this with⟨k',l',he',_⟩|⟨_,E3,t3,hb⟩
      ·rw[hnil] at he';cases he'
      ·rcases hb with hb|hb <;> cases hb;rfl
      ·rw[hnil] at he';cases he'
      ·rcases hb with hb|hb <;> cases hb;rfl
     exact⟨pp,0,by rw[hx];exact ev,by omega,.inl hx⟩
    ·have hrow:dH A w b len E' u p:=by
      rcases hl with hl|hl
      ·exact (m.live_blk hl hb).1
      ·exact (m.live_blk hl hb).1.2
     have hlen:p.length=len.2/\len.2<=maxLen:=by
      obtain⟨vs,cap,_,_,h2,h3,h4,_⟩:=hrow
      exact⟨h2,by omega⟩
     refine⟨_,_,by rw[hlen.1];exact ev,by omega,.inr ⟨b,len.1,rfl,fun i hi=>?_⟩⟩
     have:=jV hrow (i:=i) (by omega)
     rw[ql hi] at this
     exact this
   split at hk
   ·rename_i E' u zs hl
    split at hk
    ·rename_i zs' h1 hc
     simp only[Q.run,Option.some.injEq,Prod.mk.injEq] at hk
     obtain⟨rfl,_⟩:=hk
     exact fin (.inl hl) hc
    ·cases hk
   ·rename_i E' u zs hl
    split at hk
    ·rename_i zs' h1 hc
     simp only[Q.run,Option.some.injEq,Prod.mk.injEq] at hk
     obtain⟨rfl,_⟩:=hk
     exact fin (.inr hl) hc
    ·cases hk
   ·cases hk
  ·cases e
 ·cases e
theorem dJ(m:ar w0 N0 A env h w){nm:Nat}(hun:h nm = .un)(dn:List Nat)(hdn:∀ n∈dn,∃ b,h n = .live b/\b.mut=true){E:TypeId}{t:CT}{zs:List t.D}{v:Value}{w':World}
  {pre:List Prop} {W:Nat->Prop} {ev:Ev} (c:aO w w' W) (hW:∀ k,W k→∃ n l,n∈dn/\env n = .blk k l) (hne:ev ≠ .un)
  (hev:∀ k len,ev = .blk k len->w.heap.size<=k∨∃ n l,n∈dn/\env n = .blk k l)
  (hb:aS A env w A (env.set nm ev) w'→(ev = .nil/\zs=[]∧∃ p,v = .slice p 0 0)∨∃ k len c,ev = .blk k len/\dH A w' k len E t zs/\w'.shape? k=some (E,c)/\v = .slice (some ⟨k,len.1,none⟩) len.2 ((c-len.1)/t.size)) :
  bz w0 N0 A env h w (.det pre (.own nm t.size) ((nm,.live (.row E t zs))::dn.map fun n=>(n,.dead))) v w':=by
 have hu:env nm = .un:=by have:=m.nm nm;rw[hun] at this;exact this
 have hlv:∀ k,W k→∃ mm b l,mm∈dn/\h mm = .live b/\b.mut=true/\env mm = .blk k l:=by
  intro k hk
  obtain⟨n,l,hn,he⟩:=hW k hk
  obtain⟨b,hb1,hb2⟩:=hdn n hn
  exact⟨n,b,l,hn,hb1,hb2,he⟩
 have x:aS A env w A (env.set nm ev) w':=by
  refine⟨fun _ h=>h,fun n b l e=>?_,fun n e=>?_,fun n v s e=>?_,fun b o hb=>?_,c.shape⟩
  ·rw[ah.set_other];exact e;intro e';rw[e'] at e;rw[hu] at e;cases e
  ·rw[ah.set_other];exact e;intro e';rw[e'] at e;rw[hu] at e;cases e
  ·rw[ah.set_other];exact e;intro e';rw[e'] at e;rw[hu] at e;cases e
  ·refine World.cell?_of_block (a:=⟨b,o,none⟩) (c.blk b (m.Alt b hb) (fun hw=>?_))
   obtain⟨mm,bb,l,_,hl,hm,he⟩:=hlv b hw
   exact (m.live_blk hl he).2 hm hb
 have hset:∀ n,n≠nm->n ∉ dn->aM ((nm,.live (.row E t zs))::dn.map fun n=>(n,.dead)) h n=h n:=by
  intro n h1 h2
  refine db ?_
  simp only[List.map_cons,List.map_map,List.mem_cons,List.mem_map,Function.comp_apply,not_or]
  exact⟨h1,fun ⟨q,hq,e⟩=>h2 (e▸hq)⟩
 have hsetn:aM ((nm,.live (.row E t zs))::dn.map fun n=>(n,.dead)) h nm = .live (.row E t zs):=by simp[aM]
 have hsetd:∀ n,n≠nm->n∈dn->aM ((nm,.live (.row E t zs))::dn.map fun n=>(n,.dead)) h n = .dead:=by
  intro n h1 h2
  simp only[aM]
  rw[aC.set_other _ _ h1]
  clear hdn hW hev hlv hset hsetn
  induction dn with
  | nil=>simp at h2
  | cons q dn ih =>
   simp only[List.map_cons,aM]
   by_cases hq:n=q
   ·subst hq;simp
   ·rw[aC.set_other _ _ hq];exact ih (by simpa[hq] using h2)
 have u:cP (fun n=>n=nm∨n∈dn) W A env h w A (env.set nm ev) (aM ((nm,.live (.row E t zs))::dn.map fun n=>(n,.dead)) h) w':=by
  refine⟨c,fun k hk=>?_,fun _ h=>h,fun _ h=>.inl h,fun n hn=>ah.set_other _ _ (fun e=>hn (.inl e)),fun n hn=>?_,fun n hn=>hset n (fun e=>hn (.inl e)) (fun e=>hn (.inr e)),?_,?_,?_⟩
  ·obtain⟨mm,b,l,h1,h2,h3,h4⟩:=hlv k hk
   exact⟨mm,b,l,.inr h1,h2,h3,h4⟩
  ·exact ah.set_other _ _ (fun e=>hn (e▸hu))
  ·rintro n hn
   by_cases hnm:n=nm
   ·subst hnm
    rw[hsetn]
    rcases hb x with⟨h1,h2,_⟩|⟨k,len,c',h1,h2,_⟩
    ·exact .inr ⟨by rw[ah.set_same];exact h1,E,t,.inl (by rw[h2])⟩
    ·refine .inl ⟨k,len,by rw[ah.set_same];exact h1,h2,fun _ hA=>?_⟩
     rcases hev k len h1 with h3|⟨n',l,hn',he⟩
     ·have:=m.Alt k hA;omega
     ·obtain⟨b,hb1,hb2⟩:=hdn n' hn'
      exact (m.live_blk hb1 he).2 hb2 hA
   ·rw[hsetd n hnm (hn.resolve_left hnm)];trivial
  ·intro n b k l hn hl hm he
   by_cases hnm:n=nm
   ·subst hnm
    rw[ah.set_same] at he
    rcases hev k l he with h3|⟨n',l',hn',he'⟩
    ·exact .inl h3
    ·obtain⟨b',hb1,hb2⟩:=hdn n' hn'
     exact .inr ⟨n',b',l',.inr hn',hb1,hb2,he'⟩
   ·rw[hsetd n hnm (hn.resolve_left hnm)] at hl;cases hl
  ·intro n n' b c k l l' hn hn' hl hl' _ _ _ _
   by_cases hnm:n=nm
   ·by_cases hnm':n'=nm
    ·rw[hnm,hnm']
    ·rw[hsetd n' hnm' (hn'.resolve_left hnm')] at hl';cases hl'
   ·rw[hsetd n hnm (hn.resolve_left hnm)] at hl;cases hl
 refine⟨(),A,env.set nm ev,trivial,m.upd u,m.ext u,?_⟩
 simp only[Dl.val,aa]
 rcases hb x with⟨h1,h2,h3⟩|⟨k,len,c',h1,h2,h3,h4⟩
 ·exact .inl ⟨by rw[ah.set_same];exact h1,h3⟩
 ·exact .inr ⟨k,len,E,c',by rw[ah.set_same];exact h1,h3,h4⟩
theorem sH{t e ty:TypeId}(ht:P.underlying t=some (.slice e)){sz:Nat}(hsz:bH P e=some sz)(p q:Option Addr)(n cap c:Nat)(hn:n<=cap) :
  (Builtin.append_ #[t,t] ty #[.slice p n cap,.slice q 0 c]).run P w = .ok (.slice p n cap) w:=by
 have hf:(Builtin.firstCells sz 0 (.slice q 0 c)).run P w = .ok #[] w:=by
  cases q <;> simp[Builtin.firstCells,loadCells,loadCellsFrom]
 cases p with
 | none=>simp[Builtin.append_,run_underlying ht,cm hsz,Builtin.lenOf,hn,hf]
 | some b=>simp[Builtin.append_,run_underlying ht,cm hsz,Builtin.lenOf,hn,hf,storeCells]
theorem fY{t:CT}{cv cv':Nat->Option Value}{o o':Nat}{d:t.D}(h:Rd A w t cv o d)(hc:∀ j,j<t.size->cv' (o'+j)=cv (o+j)):Rd A w t cv' o' d:=by
 have key:∀(t:CT)(cv cv':Nat->Option Value)(o o':Nat)(d:t.D),Rd A w t cv o d->(∀ j,j<t.size->cv' (o'+j)=cv (o+j))->Rd A w t cv' o' d:=by
  intro t
  induction t with
  | pair a b iha ihb =>
   intro cv cv' o o' d h hc
   refine⟨iha _ _ _ _ _ h.1 (fun j hj=>hc j (by simp only[CT.size];omega)),ihb _ _ _ _ _ h.2 (fun j hj=>?_)⟩
   have:=hc (a.size+j) (by simp only[CT.size];omega)
   simpa[Nat.add_assoc] using this
  | int k=>intro cv cv' o o' d h hc;have:=hc 0 (by simp[CT.size]);simp only[Nat.add_zero] at this;simp only[Rd] at h ⊢;rw[this];exact h
  | bool=>intro cv cv' o o' d h hc;have:=hc 0 (by simp[CT.size]);simp only[Nat.add_zero] at this;simp only[Rd] at h ⊢;rw[this];exact h
  | str=>intro cv cv' o o' d h hc;have:=hc 0 (by simp[CT.size]);simp only[Nat.add_zero] at this;simp only[Rd] at h ⊢;rw[this];exact h
  | sl t ih=>intro cv cv' o o' d h hc;have:=hc 0 (by simp[CT.size]);simp only[Nat.add_zero] at this;simp only[Rd] at h ⊢;rw[this];exact h
 exact key t cv cv' o o' d h hc
theorem pr{t:CT}{xs ys:List t.D}{olds news rest:List Value}(ho:olds.length=xs.length*t.size)(hn:news.length=ys.length*t.size)
  (hx:∀ i (hi:i<xs.length),Rd A w t (fun j=>olds[j]?) (i*t.size) xs[i]) (hy:∀ i (hi:i<ys.length),Rd A w t (fun j=>news[j]?) (i*t.size) ys[i]) :
  ∀ i (hi:i<(xs++ys).length),Rd A w t (fun j=>(olds++news++rest).toArray[j]?) (i*t.size) (xs++ys)[i]:=by
 intro i hi
 simp only[List.getElem?_toArray]
 by_cases hlt:i<xs.length
 ·rw[List.getElem_append_left hlt]
  refine fY (hx i hlt) fun j hj=>?_
  have:(i+1)*t.size<=xs.length*t.size:=Nat.mul_le_mul_right _ (by omega)
  rw[Nat.add_mul,Nat.one_mul] at this
  rw[List.append_assoc,List.getElem?_append_left (by omega)]
 ·rw[List.getElem_append_right (by omega)]
  have hi':i-xs.length<ys.length:=by simp at hi;omega
  refine fY (hy _ hi') fun j hj=>?_
  have e1:i*t.size=xs.length*t.size+(i-xs.length)*t.size:=by rw[← Nat.add_mul];congr 1;omega
  have:(i-xs.length+1)*t.size<=ys.length*t.size:=Nat.mul_le_mul_right _ (by omega)
  rw[Nat.add_mul,Nat.one_mul] at this
  rw[List.append_assoc,List.getElem?_append_right (by omega),List.getElem?_append_left (by omega)]
  congr 1;omega
end
end Go.SX

/- SX, part 11: append, slicing, an array's element: soundness. -/
namespace Go.SX
set_option linter.unusedVariables false
theorem xe{P:Program}(w:World)(t ty e:TypeId)(i:TypeInfo)(ht:P.underlying t=some (.slice e))(hi:P.info? e=some i)
  (g off d8 gY:Nat) (cur:Array Value) (hg:w.heap[g]? = some (.cells cur e (0,0)))
  (a:Addr) (m c:Nat) (news:List Value) (hl:news.length=m*i.size) (hnews:∀ j u,news[j]? = some u->w.cell? (a.add j)=some u) (h1:∀ u∈news,u.oneCell'=true)
  (hroom:d8+m<=gY) (hfit:off+d8*i.size+news.length<=cur.size) :
  (Builtin.append_ #[t,t] ty #[.slice (some ⟨g,off,none⟩) d8 gY,.slice (some a) m c]).run P w =
   .ok (.slice (some ⟨g,off,none⟩) (d8+m) gY) (w.setRow g (cur.toList.take (off+d8*i.size)++news++cur.toList.drop (off+d8*i.size+news.length)).toArray):=by
 have hf:=run_firstCells_some (P:=P) w i.size m a m c news hl hnews
 have hst:=run_storeCells_at P g (off+d8*i.size) e news 0 cur w hg (by simpa using hfit) h1
 simp only[Nat.add_zero] at hst
 simp[Builtin.append_,run_underlying ht,sizeOf,typeInfo,hi,Builtin.lenOf,hroom,hf,Addr.add_lit,hst]
section
variable {P:Program} {w0:World} {N0:bt} {A:Nat->Prop} {env:ah} {h:aC} {w:World} {o:Oper} {a:Act} {ρ:Nat->SV} {d:Dl} {r:List Nat}
theorem xd(l:List Value)(z:Array Value):l.toArray++z=(l++z.toList).toArray:=by apply Array.ext';simp
theorem w5(l m:List Value)(z:Array Value):l.toArray++m.toArray++z=(l++m++z.toList).toArray:=by apply Array.ext';simp
theorem ph(m:ar w0 N0 A env h w){t e ty:TypeId}{sz nm:Nat}{i:TypeInfo}{z:Value}{u:CT}{ys:List u.D}{p q:Option Addr}{c:Nat}{pre:List Prop}
  (ht:P.underlying t=some (.slice e)) (hsz:bH P e=some sz) (hi:P.info? e=some i) (hz:i.zero=some z) (hzs:z.cells.size=sz) (hb1:1<=i.bytes) (hu:sz=u.size) (hun:h nm = .un)
  (dn:List Nat) (hdn:∀ n∈dn,∃ b,h n = .live b/\b.mut=true)
  (hl:ys.length<=maxLen) (hby:ys.length*i.bytes<=140737488355328)
  (hsrc:ys.length=0∨∃ b off,q=some ⟨b,off,none⟩∧∀ i (hi:i<ys.length),Rd A w u (fun o=>w.cell? ⟨b,o,none⟩) (off+i*u.size) ys[i]) :
  ∃ v w',(Builtin.append_ #[t,t] ty #[.slice p 0 0,.slice q ys.length c]).run P w = .ok v w' ∧
   bz w0 N0 A env h w (.det pre (.own nm sz) ((nm,.live (.row e u ys))::dn.map fun n=>(n,.dead))) v w':=by
 subst hu
 by_cases h0:ys.length=0
 ·refine⟨.slice p 0 0,w,by rw[h0];exact sH ht hsz p q 0 0 c (Nat.le_refl _),?_⟩
  have:ys=[]:=List.eq_nil_of_length_eq_zero h0
  subst this
  exact dJ m hun dn hdn (W:=fun _=>False) (ev := .nil) (aO.refl w _) (fun _ h=>h.elim) (by simp) (fun k l e=>by cases e) (fun _=>.inl ⟨rfl,rfl,p,rfl⟩)
 ·obtain⟨b,off,rfl,hrd⟩:=hsrc.resolve_left h0
  obtain⟨news,hnl,hnc,hn1⟩:=mQ ys off hrd
  have hisz:i.size=u.size:=by unfold bH at hsz;rw[hi] at hsz;simpa using hsz
  have hnews:∀ j v,news[j]? = some v->w.cell? ((⟨b,off,none⟩:Addr).add j)=some v:=by
   intro j v hj
   rw[Addr.add_lit,hnc j (List.getElem?_eq_some_iff.1 hj).1];exact hj
  have hrdn:∀ i (hi:i<ys.length),Rd A w u (fun j=>news[j]?) (i*u.size) ys[i]:=fun i hi =>
   fY (hrd i hi) fun j hj=>by
    have:(i+1)*u.size<=ys.length*u.size:=Nat.mul_le_mul_right _ (by omega)
    rw[Nat.add_mul,Nat.one_mul] at this
    rw[← hnc _ (by omega),Nat.add_assoc]
  have h63:((ys.length:Nat):Int)<=9223372036854775807:=by simp only[maxLen] at hl;omega
  have fin:∀ v w' cap,ys.length<=cap->cap<=maxLen->v = .slice (some ⟨w.heap.size,0,none⟩) ys.length cap->w'=w.drew.alloc (.cells (news.toArray++Builtin.zeroCells z.cells (cap-ys.length)) e) →
    bz w0 N0 A env h w (.det pre (.own nm u.size) ((nm,.live (.row e u ys))::dn.map fun n=>(n,.dead))) v w':=by
   rintro v w' cap hc1 hc2 rfl rfl
   have cg:aO w (w.drew.alloc (.cells (news.toArray++Builtin.zeroCells z.cells (cap-ys.length)) e)) fun _=>False:=(aO.drew w _).trans (aO.alloc w.drew _ _)
   have hsize:(news.toArray++Builtin.zeroCells z.cells (cap-ys.length)).size=cap*u.size:=by
    simp only[Array.size_append,List.size_toArray,hnl,size_zeroCells,hzs,← Nat.add_mul];congr 1;omega
   refine dJ m hun dn hdn (W:=fun _=>False) (ev := .blk w.heap.size (0,ys.length)) cg (fun _ h=>h.elim) (by simp) (fun k l e=>by cases e;exact .inl (Nat.le_refl _)) (fun x=>.inr ⟨w.heap.size,(0,ys.length),cap*u.size,rfl,?_,?_,?_⟩)
   ·refine⟨_,cap,heap_alloc_new w.drew _,by rw[hsize,Nat.zero_add],rfl,hc1,hc2,fun i hi=>?_⟩
    rw[Nat.zero_add]
    have:=pr (A:=A) (w:=w) (xs:=([]:List u.D)) (ys:=ys) (olds:=[]) (news:=news) (rest:=(Builtin.zeroCells z.cells (cap-ys.length)).toList) (by simp) hnl (by simp) hrdn i (by simpa using hi)
    refine bP (fun _ h=>h) x.keep u _ _ _ _ (fun j _=>?_) this
    rw[xd];rfl
   ·unfold World.shape?
    have hh:=heap_alloc_new w.drew (.cells (news.toArray++Builtin.zeroCells z.cells (cap-ys.length)) e)
    simp only[World.size_drew] at hh
    rw[hh];simp only[hsize]
   ·show _=Value.slice _ _ ((cap*u.size-0)/u.size)
    rw[Nat.sub_zero,Nat.mul_div_cancel _ u.size_pos]
  have hge:=grownCap_ge w ys.length 0 e
  have hcm:=grownCap_le_maxLen w ys.length 0 e hl
  cases p with
  | none =>
   exact⟨_,_,run_append_nil (P:=P) w t ty e i z ht hi hz ⟨b,off,none⟩ ys.length c news (by rw[hnl,hisz]) hnews (by omega) h63 (by omega),fin _ _ _ hge hcm rfl rfl⟩
  | some pa =>
   have hr:=run_append_grow (P:=P) w t ty e i z ht hi hz pa 0 0 [] (by simp) (by simp) ⟨b,off,none⟩ ys.length c news (by rw[hnl,hisz]) hnews (by omega) (by simpa using h63) (growslice_fits (by omega) (by simpa using hby))
   simp only[Nat.zero_add] at hr
   exact⟨_,_,hr,fin _ _ _ hge hcm rfl (by simp)⟩
theorem r6(m:ar w0 N0 A env h w)(f:FD A env w ρ a){t:TypeId}{nm:Nat}{s x:Operand}(ho:o.op = .call {callee := .builtin .append,args := #[s,x],argTypes := #[t,t]})
  (e:(ld P t nm (ad ρ s) (ad ρ x)).run h=some (d,r)) (hp:ax d.pre):ao P o a w0 N0 A env h w d:=by
 have ds:=aQ f s
 have dx:=aQ f x
 have exe:∀{v:Value}{w':World},(Builtin.append_ #[t,t] o.type #[a.eval s,a.eval x]).run P w = .ok v w'→(execOp a.eval o).run P w = .ok (.value v) w':=by
  intro v w' hr
  unfold execOp;rw[ho]
  simp only[resolve,invoke,builtin,Sem.run_bind,Sem.run_pure,Result.andThen_ok,List.map_toArray,List.map_cons,List.map_nil,hr]
 unfold ld at e
 split at e
 ·rename_i E sz he
  obtain⟨hu,hsz⟩:=gT he
  split at e
  ·rename_i i hi
   split at e
   ·rename_i z hb1 hz
    have hb1:1<=i.bytes:=Nat.le_of_ble_eq_true hb1
    split at e
    ·rename_i hzs
     have hzs:z.cells.size=sz:=Nat.eq_of_beq_eq_true hzs
     have hisz:i.size=sz:=by unfold bH at hsz;rw[hi] at hsz;simpa using hsz
     split at e
     ·rename_i n sz' hs
      rw[hs] at ds;simp only[aa] at ds
      simp only[Q.run] at e
      split at e
      ·rename_i p q hk
       simp only[Option.some.injEq,Prod.mk.injEq] at e
       obtain⟨rfl,rfl⟩:=e
       split at hk
       ·rename_i E' u xs hl
        split at hk
        ·rename_i hE h1 h2
         have hE:E'=E:=Nat.eq_of_beq_eq_true hE
         have h1:sz=u.size:=Nat.eq_of_beq_eq_true h1
         have h2:sz'=u.size:=Nat.eq_of_beq_eq_true h2
         subst hE
         obtain⟨ys,q1,q2,e1,e2,rfl⟩:=Q.run_bind _ _ _ hk
         simp only[Q.run] at e2
         split at e2
         ·rename_i p' q' hk'
          simp only[Option.some.injEq,Prod.mk.injEq] at e2
          obtain⟨rfl,rfl⟩:=e2
          split at hk'
          ·rename_i hun
           cases aF hk'
           simp only[Dl.pre,ax,and_true] at hp
           obtain⟨pq,c,ev,hyl,hsrc⟩:=nP m e1 dx
           have hdn:∀ n'∈[n],∃ b,h n' = .live b/\b.mut=true:=by simp[hl,cK.mut]
           rcases ds with⟨hnil,pa,es⟩|⟨b,len,E2,cc,hb,hsh,es⟩
           ·have hx:xs=[]:=by
             have:=m.nm n
             rw[hl] at this
             rcases this with⟨k',l',he',_⟩|⟨_,E3,t3,hb⟩
             ·rw[hnil] at he';cases he'
             ·rcases hb with hb|hb <;> cases hb;rfl
            subst hx
            simp only[List.length_nil,Nat.zero_add] at hp
            obtain⟨v,w',hr,g⟩:=ph (P:=P) (ty:=o.type) (p:=pa) (q:=pq) (c:=c) (pre:=[(([]:List u.D).length+ys.length)*i.bytes<=140737488355328]) m hu hsz hi hz hzs hb1 h1 hun [n] hdn hyl hp hsrc
            refine⟨v,w',.inl (exe (by rw[es,ev];exact hr)),?_⟩
            simpa using g
           ·obtain⟨β,len⟩:=len
            obtain⟨cur,cap,hh,hcs,hxl,hlc,hcm,hrd⟩:=(m.live_blk hl hb).1
            simp only at hcs hxl hlc hrd es
            have hcc:cc=cur.size:=by
             unfold World.shape? at hsh;rw[hh] at hsh
             simp only[Option.some.injEq,Prod.mk.injEq] at hsh;exact hsh.2.symm
            have hcap:(cc-β)/sz'=cap:=by rw[hcc,hcs,h2,Nat.add_sub_cancel_left];exact Nat.mul_div_cancel _ u.size_pos
            rw[hcap] at es
            have hne:nm≠n:=fun e'=>by rw[e',hl] at hun;cases hun
            have hnA:=(m.live_blk hl hb).2 rfl
            subst h1
            by_cases h0:ys.length=0
            ·have:ys=[]:=List.eq_nil_of_length_eq_zero h0
             subst this
             refine⟨.slice (some ⟨b,β,none⟩) len cap,w,.inl (exe (by rw[es,ev];exact sH hu hsz _ _ _ _ _ hlc)),?_⟩
             have g:=dJ (pre:=[(xs.length+([]:List u.D).length)*i.bytes<=140737488355328]) (v := .slice (some ⟨b,β,none⟩) len cap) (E:=E') (t:=u) (zs:=xs++[]) m hun [n] hdn (W:=fun _=>False) (ev := .blk b (β,len)) (aO.refl w _) (fun _ h=>h.elim) (by simp)
              (fun k l e=>by cases e;exact .inr ⟨n,(β,len),by simp,hb⟩) (fun x=>.inr ⟨b,(β,len),cc,rfl,by rw[List.append_nil];exact (m.live_blk hl hb).1,by rw[hsh];unfold World.shape? at hsh;rw[hh] at hsh;cases hsh;rfl,by rw[← h2,hcap]⟩)
             simpa using g
            ·obtain⟨bb,off,rfl,hrdy⟩:=hsrc.resolve_left h0
             obtain⟨news,hnl,hnc,hn1⟩:=mQ ys off hrdy
             have hnews:∀ j v,news[j]? = some v->w.cell? ((⟨bb,off,none⟩:Addr).add j)=some v:=by
              intro j v hj
              rw[Addr.add_lit,hnc j (List.getElem?_eq_some_iff.1 hj).1];exact hj
             have hrdn:∀ i (hi:i<ys.length),Rd A w u (fun j=>news[j]?) (i*u.size) ys[i]:=fun i hi =>
              fY (hrdy i hi) fun j hj=>by
               have:(i+1)*u.size<=ys.length*u.size:=Nat.mul_le_mul_right _ (by omega)
               rw[Nat.add_mul,Nat.one_mul] at this
               rw[← hnc _ (by omega),Nat.add_assoc]
             have holds:∀ i (hi:i<xs.length),Rd A w u (fun j=>((cur.toList.drop β).take (len*u.size))[j]?) (i*u.size) xs[i]:=fun i hi =>
              fY (hrd i hi) fun j hj=>by
               have:(i+1)*u.size<=len*u.size:=Nat.mul_le_mul_right _ (by omega)
               rw[Nat.add_mul,Nat.one_mul] at this
               rw[List.getElem?_take,if_pos (by omega),List.getElem?_drop,Array.getElem?_toList,Nat.add_assoc]
             have hlec:len*u.size<=cap*u.size:=Nat.mul_le_mul_right _ hlc
             have hol:((cur.toList.drop β).take (len*u.size)).length=xs.length*u.size:=by rw[List.length_take,List.length_drop,Array.length_toList,hxl];omega
             have hlen:(xs++ys).length=len+ys.length:=by rw[List.length_append,hxl]
             have hsum:len+ys.length<=maxLen:=by
              have:(len+ys.length)*1<=(xs.length+ys.length)*i.bytes:=by rw[hxl];exact Nat.mul_le_mul_left _ hb1
              simp only[maxLen];omega
             by_cases hroom:len+ys.length<=cap
             ·have hfit:β+len*u.size+news.length<=cur.size:=by
               have:(len+ys.length)*u.size<=cap*u.size:=Nat.mul_le_mul_right _ hroom
               rw[Nat.add_mul] at this
               rw[hnl,hcs];omega
              have hr:=xe (P:=P) w t o.type E' i hu hi b β len cap cur hh ⟨bb,off,none⟩ ys.length c news (by rw[hnl,hisz]) hnews hn1 hroom (by rw[hisz];exact hfit)
              rw[hisz] at hr
              refine⟨_,_,.inl (exe (by rw[es,ev];exact hr)),?_⟩
              have hsize:(cur.toList.take (β+len*u.size)++news++cur.toList.drop (β+len*u.size+news.length)).toArray.size=cur.size:=by
               simp only[List.size_toArray,List.length_append,List.length_take,List.length_drop,Array.length_toList];omega
              have cg:=aO.setRow w b cur _ E' hh hsize
              refine dJ m hun [n] hdn (W:=fun j=>j=b) (ev := .blk b (β,len+ys.length)) cg (fun k hk=>⟨n,(β,len),by simp,hk▸hb⟩) (by simp) (fun k l e=>by cases e;exact .inr ⟨n,(β,len),by simp,hb⟩) (fun x=>.inr ⟨b,(β,len+ys.length),β+cap*u.size,rfl,?_,?_,?_⟩)
              ·refine⟨_,cap,setRow_heap w b cur _ E' _ hh,by rw[hsize,hcs],hlen,hroom,hcm,fun i hi=>?_⟩
               refine bP (fun _ h=>h) x.keep u _ _ _ _ (fun j _=>rfl) (fY (pr (rest:=cur.toList.drop (β+len*u.size+news.length)) hol hnl holds hrdn i hi) fun j hj=>?_)
               simp only[List.getElem?_toArray]
               rw[List.take_add,List.append_assoc,List.append_assoc,List.getElem?_append_right (by rw[List.length_take,Array.length_toList];omega),List.append_assoc]
               congr 1
               rw[List.length_take,Array.length_toList];omega
              ·unfold World.shape?;rw[setRow_heap w b cur _ E' _ hh];simp only[hsize,hcs]
              ·show _=Value.slice _ _ ((β+cap*u.size-β)/u.size)
               rw[Nat.add_sub_cancel_left,Nat.mul_div_cancel _ u.size_pos]
             ·have holdsc:∀ j v,((cur.toList.drop β).take (len*u.size))[j]? = some v->w.cell? ((⟨b,β,none⟩:Addr).add j)=some v:=by
               intro j v hj
               rw[Addr.add_lit,cell_of_row w b _ cur E' (0,0) hh]
               rw[List.getElem?_take] at hj
               split at hj
               ·rwa [List.getElem?_drop,Array.getElem?_toList] at hj
               ·cases hj
              have hr:=run_append_grow (P:=P) w t o.type E' i z hu hi hz ⟨b,β,none⟩ len cap ((cur.toList.drop β).take (len*u.size)) (by rw[hol,hxl,hisz]) holdsc ⟨bb,off,none⟩ ys.length c news (by rw[hnl,hisz]) hnews (by omega)
               (by simp only[maxLen] at hsum;omega) (growslice_fits (by omega) (by rw[← hxl];exact hp))
              refine⟨_,_,.inl (exe (by rw[es,ev];exact hr)),?_⟩
              have hge:=grownCap_ge w (len+ys.length) cap E'
              have hcm':=grownCap_le_maxLen w (len+ys.length) cap E' hsum
              generalize grownCap w (len+ys.length) cap E'=cap' at *
              have hsize:(((cur.toList.drop β).take (len*u.size)).toArray++news.toArray++Builtin.zeroCells z.cells (cap'-(len+ys.length))).size=cap'*u.size:=by
               simp only[Array.size_append,List.size_toArray,hol,hnl,size_zeroCells,hzs,← Nat.add_mul];congr 1;omega
              have cg:aO w (w.drew.alloc (.cells (((cur.toList.drop β).take (len*u.size)).toArray++news.toArray++Builtin.zeroCells z.cells (cap'-(len+ys.length))) E')) fun _=>False:=(aO.drew w _).trans (aO.alloc w.drew _ _)
              refine dJ m hun [n] hdn (W:=fun _=>False) (ev := .blk w.heap.size (0,len+ys.length)) cg (fun _ h=>h.elim) (by simp) (fun k l e=>by cases e;exact .inl (Nat.le_refl _)) (fun x=>.inr ⟨w.heap.size,(0,len+ys.length),cap'*u.size,rfl,?_,?_,?_⟩)
              ·refine⟨_,cap',heap_alloc_new w.drew _,by rw[hsize,Nat.zero_add],hlen,hge,hcm',fun i hi=>?_⟩
               have:=pr (A:=A) (w:=w) (rest:=(Builtin.zeroCells z.cells (cap'-(len+ys.length))).toList) hol hnl holds hrdn i hi
               rw[Nat.zero_add]
               refine bP (fun _ h=>h) x.keep u _ _ _ _ (fun j _=>?_) this
               rw[w5]
              ·unfold World.shape?
               have hh':=heap_alloc_new w.drew (.cells (((cur.toList.drop β).take (len*u.size)).toArray++news.toArray++Builtin.zeroCells z.cells (cap'-(len+ys.length))) E')
               simp only[World.size_drew] at hh'
               rw[hh'];simp only[hsize]
              ·show _=Value.slice _ _ ((cap'*u.size-0)/u.size)
               rw[Nat.sub_zero,Nat.mul_div_cancel _ u.size_pos]
          ·cases hk'
         ·cases e2
        ·cases hk
       ·cases hk
      ·cases e
     ·rename_i hs
      rw[hs] at ds;simp only[aa] at ds
      split at e
      ·rename_i u hct
       split at e
       ·rename_i h1
        have h1:sz=u.size:=Nat.eq_of_beq_eq_true h1
        obtain⟨ys,q1,q2,e1,e2,rfl⟩:=Q.run_bind _ _ _ e
        simp only[Q.run] at e2
        split at e2
        ·rename_i p' q' hk'
         simp only[Option.some.injEq,Prod.mk.injEq] at e2
         obtain⟨rfl,rfl⟩:=e2
         split at hk'
         ·rename_i hun
          cases aF hk'
          simp only[Dl.pre,ax,and_true] at hp
          obtain⟨pq,c,ev,hyl,hsrc⟩:=nP m e1 dx
          obtain⟨v,w',hr,g⟩:=ph (P:=P) (ty:=o.type) (p:=none) (q:=pq) (c:=c) (pre:=[ys.length*i.bytes<=140737488355328]) m hu hsz hi hz hzs hb1 h1 hun [] (by simp) hyl hp hsrc
          exact⟨v,w',.inl (exe (by rw[ds,ev];exact hr)),g⟩
         ·cases hk'
        ·cases e2
       ·cases e
      ·cases e
     ·rename_i u xs hs
      rw[hs] at ds;simp only[aa] at ds
      split at e
      ·rename_i h1
       have h1:sz=u.size:=Nat.eq_of_beq_eq_true h1
       obtain⟨ys,q1,q2,e1,e2,rfl⟩:=Q.run_bind _ _ _ e
       simp only[Q.run] at e2
       split at e2
       ·rename_i p' q' hk'
        simp only[Option.some.injEq,Prod.mk.injEq] at e2
        obtain⟨rfl,rfl⟩:=e2
        split at hk'
        ·rename_i hun
         cases aF hk'
         simp only[Dl.pre,ax,and_true] at hp
         obtain⟨hp1,rfl⟩:=hp
         obtain⟨_,pa,es⟩:=ds
         obtain⟨pq,c,ev,hyl,hsrc⟩:=nP m e1 dx
         simp only[List.length_nil,Nat.zero_add] at hp1
         obtain⟨v,w',hr,g⟩:=ph (P:=P) (ty:=o.type) (p:=pa) (q:=pq) (c:=c) (pre:=[(([]:List u.D).length+ys.length)*i.bytes<=140737488355328,([]:List u.D)=[]]) m hu hsz hi hz hzs hb1 h1 hun [] (by simp) hyl hp1 hsrc
         exact⟨v,w',.inl (exe (by rw[es,ev];exact hr)),g⟩
        ·cases hk'
       ·cases e2
      ·cases e
     ·cases e
    ·cases e
   ·cases e
  ·cases e
 ·cases e
end
end Go.SX

/- SX, part 12: slicing, an array's element: soundness. -/
namespace Go.SX
set_option linter.unusedVariables false
section
variable {P:Program} {w0:World} {N0:bt} {A:Nat->Prop} {env:ah} {h:aC} {w:World} {o:Oper} {a:Act} {ρ:Nat->SV} {d:Dl} {r:List Nat}
theorem lU(len cap:Nat)(lo hi mx:Option Value)(l hh m:Nat)
  (hm:(mx=none/\m=cap)∨∃ k i,mx=some (.int k i)/\0<=i/\i<=cap/\m=i.toNat)
  (hhi:(hi=none/\mx=none/\hh=len)∨∃ k i,hi=some (.int k i)/\0<=i/\i<=m/\hh=i.toNat)
  (hlo:(lo=none/\l=0)∨∃ k i,lo=some (.int k i)/\0<=i/\i<=hh/\l=i.toNat) :
  (Instr.sliceBounds true len cap lo hi mx).run P w = .ok (l,hh,m) w:=by
 rcases hm with⟨rfl,rfl⟩|⟨km,im,rfl,m0,m1,rfl⟩ <;> rcases hhi with⟨rfl,e,rfl⟩|⟨kh,ih,rfl,h0,h1,rfl⟩ <;> rcases hlo with⟨rfl,rfl⟩|⟨kl,il,rfl,l0,l1,rfl⟩ <;>
  first
  | (cases e;done)
  | (simp[Instr.sliceBounds,run_sliceBound, *,-Int.ofNat_toNat])
theorem hV{x:Option Operand}{dflt v:Int}(f:FD A env w ρ a)(e:dR (x.map (ad ρ)) dflt=some v) :
  (x=none/\v=dflt)∨∃ k y,x=some y/\a.eval y = .int k v:=by
 cases x with
 | none=>simp only[Option.map,dR] at e;cases e;exact .inl ⟨rfl,rfl⟩
 | some y =>
  have dy:=aQ f y
  simp only[Option.map] at e
  unfold dR at e
  split at e
  ·rename_i hh;cases hh
  ·rename_i k n hh
   cases e
   simp only[Option.some.injEq] at hh
   rw[hh] at dy;simp only[aa] at dy
   exact .inr ⟨k,y,rfl,dy.1⟩
  ·cases e
theorem pL{t:CT}{v:Value}{xs:List t.D}(hs:fj A w t v xs){l hh:Nat}(h1:l<=hh)(h2:hh<=xs.length) :
  ∃ p cap,v = .slice p xs.length cap/\xs.length<=cap/\cap<=maxLen∧∀ m,hh<=m->m<=cap →
   fj A w t (.slice (if m=l then p else p.map (·.add (l*t.size))) (hh-l) (m-l)) (a7 xs l hh):=by
 have hlen:(a7 xs l hh).length=hh-l:=by simp[a7];omega
 obtain⟨hl,⟨⟨p,rfl⟩,rfl⟩|⟨b,off,cap,rfl,c1,c2,c3,c4⟩⟩:=hs
 ·refine⟨p,0,rfl,Nat.le_refl _,by simp,fun m hm hm'=>?_⟩
  have:m=0:=by omega
  subst this
  have hl0:l=0:=by simp at h2;omega
  have hh0:hh=0:=by simpa using h2
  subst hl0;subst hh0
  exact⟨by simp[a7],.inl ⟨⟨p,by simp⟩,by simp[a7]⟩⟩
 ·refine⟨_,cap,rfl,c1,c2,fun m hm hm'=>⟨by omega,?_⟩⟩
  by_cases hml:m=l
  ·rw[if_pos hml]
   have:hh-l=0:=by omega
   refine .inl ⟨⟨some ⟨b,off,none⟩,by rw[this,hml];simp⟩,?_⟩
   exact List.eq_nil_of_length_eq_zero (by omega)
  ·rw[if_neg hml]
   refine .inr ⟨b,off+l*t.size,m-l,by rw[hlen];simp[Addr.add_lit],by omega,by omega,c3,fun i hi=>?_⟩
   have hi':i<hh-l:=by omega
   have:=c4 (l+i) (by omega)
   have eg:(a7 xs l hh)[i]=xs[l+i]:=by simp[a7]
   rw[eg]
   rw[show off+l*t.size+i*t.size=off+(l+i)*t.size from by rw[Nat.add_mul];omega]
   exact this
theorem yJ(m:ar w0 N0 A env h w)(f:FD A env w ρ a){t:TypeId}{x:Operand}{lo hi mx:Option Operand}(ho:o.op = .slice t x lo hi mx)
  (e:(pB P t (ad ρ x) (lo.map (ad ρ)) (hi.map (ad ρ)) (mx.map (ad ρ))).run h=some (d,r)) (hp:ax d.pre):ao P o a w0 N0 A env h w d:=by
 have dx:=aQ f x
 unfold pB at e
 split at e
 ·rename_i E sz he
  obtain⟨hu,hsz⟩:=gT he
  have exe:∀{p:Option Addr}{len cap l hh m:Nat},a.eval x = .slice p len cap →
    ((mx=none/\m=cap)∨∃ y k i,mx=some y/\a.eval y = .int k i/\0<=i/\i<=cap/\m=i.toNat) →
    ((hi=none/\mx=none/\hh=len)∨∃ y k i,hi=some y/\a.eval y = .int k i/\0<=i/\i<=m/\hh=i.toNat) →
    ((lo=none/\l=0)∨∃ y k i,lo=some y/\a.eval y = .int k i/\0<=i/\i<=hh/\l=i.toNat) →
    (execOp a.eval o).run P w = .ok (.value (.slice (if m=l then p else p.map (·.add (l*sz))) (hh-l) (m-l))) w:=by
   intro p len cap l hh m ev hm hhi hlo
   unfold execOp;rw[ho]
   have hb:=lU (P:=P) (w:=w) len cap (lo.map a.eval) (hi.map a.eval) (mx.map a.eval) l hh m
    (by rcases hm with⟨rfl,rfl⟩|⟨y,k,i,rfl,e1,e2⟩;exact .inl ⟨rfl,rfl⟩;exact .inr ⟨k,i,by simp[e1],e2⟩)
    (by rcases hhi with⟨rfl,rfl,rfl⟩|⟨y,k,i,rfl,e1,e2⟩;exact .inl ⟨rfl,rfl,rfl⟩;exact .inr ⟨k,i,by simp[e1],e2⟩)
    (by rcases hlo with⟨rfl,rfl⟩|⟨y,k,i,rfl,e1,e2⟩;exact .inl ⟨rfl,rfl⟩;exact .inr ⟨k,i,by simp[e1],e2⟩)
   simp only[Instr.sliceAt,Instr.slice,Sem.run_bind,run_underlying hu,Result.andThen_ok,ev,hb,cm hsz,Sem.run_pure]
  have loF:∀{l hh:Int}{len:Nat},dR (lo.map (ad ρ)) 0=some l->0<=l->l<=hh->((lo=none/\l.toNat=0)∨∃ y k i,lo=some y/\a.eval y = .int k i/\0<=i/\i<=hh.toNat/\l.toNat=i.toNat):=by
   intro l hh len hb h0 h1
   rcases hV f hb with⟨rfl,rfl⟩|⟨k,y,rfl,e1⟩
   ·exact .inl ⟨rfl,rfl⟩
   ·exact .inr ⟨y,k,l,rfl,e1,h0,by omega,rfl⟩
  split at e
  ·rename_i u xs hx
   rw[hx] at dx;simp only[aa] at dx
   split at e
   ·rename_i l hh hs1 hb1 hb2
    have hs1:sz=u.size:=Nat.eq_of_beq_eq_true hs1
    subst hs1
    split at e
    ·rename_i hmx
     cases aF e
     simp only[Dl.pre,ax,and_true] at hp
     have hmx':mx=none:=by cases mx <;> simp_all
     obtain⟨p,cap,ev,c1,c2,c3⟩:=pL dx (l:=l.toNat) (hh:=hh.toNat) (by omega) (by omega)
     refine ao.pure m (exe ev (.inl ⟨hmx',rfl⟩) ?_ (loF (len:=0) hb1 hp.1 hp.2.1)) (by simp only[aa];exact c3 cap (by omega) (Nat.le_refl _))
     rcases hV f hb2 with⟨rfl,rfl⟩|⟨k,y,rfl,e1⟩
     ·exact .inl ⟨rfl,hmx',by simp⟩
     ·exact .inr ⟨y,k,hh,rfl,e1,by omega,by omega,rfl⟩
    ·rename_i km mm hmx
     split at e
     case h_2=>cases e
     rename_i ys hhi
     cases aF e
     simp only[Dl.pre,ax,and_true] at hp
     obtain⟨hp1,hp2,hp3,hp4⟩:=hp
     cases mx with
     | none=>cases hmx
     | some y =>
      have dy:=aQ f y
      simp only[Option.map,Option.some.injEq] at hmx
      rw[hmx] at dy;simp only[aa] at dy
      obtain⟨p,cap,ev,c1,c2,c3⟩:=pL dx (l:=l.toNat) (hh:=hh.toNat) (by omega) (by omega)
      refine ao.pure m (exe ev (.inr ⟨y,km,mm,rfl,dy.1,by omega,by omega,rfl⟩) ?_ (loF (len:=0) hb1 hp1 hp2)) ?_
      ·rcases hV f hb2 with⟨rfl,rfl⟩|⟨k,y',rfl,e1⟩
       ·cases hhi
       ·exact .inr ⟨y',k,hh,rfl,e1,by omega,by omega,rfl⟩
      ·simp only[aa]
       have hlen:(a7 xs l.toNat hh.toNat).length=hh.toNat-l.toNat:=by simp[a7];omega
       exact⟨c3 mm.toNat (by omega) (by omega),_,by rw[hlen];congr 1;omega⟩
    ·cases e
   ·cases e
  ·rename_i n sz' hx
   rw[hx] at dx;simp only[aa] at dx
   split at e
   ·rename_i hmx
    have hmx':mx=none:=by cases mx <;> simp_all
    simp only[Q.run] at e
    split at e
    ·rename_i p q hk
     simp only[Option.some.injEq,Prod.mk.injEq] at e
     obtain⟨rfl,rfl⟩:=e
     have fin:∀{E':TypeId}{u:CT}{xs:List u.D}{l hh:Int}{A':Nat->Prop}{h':aC},ar w0 N0 A' env h' w->aS A env w A' env w->(h n = .live (.row E' u xs)∨h n = .live (.frz E' u xs)) →
       h' n = .live (.frz E' u xs)->sz=u.size->sz'=u.size →
       dR (lo.map (ad ρ)) 0=some l->dR (hi.map (ad ρ)) xs.length=some hh->0<=l->l<=hh->hh<=xs.length →
       ∃ v,(execOp a.eval o).run P w = .ok (.value v) w/\aa A' env w (.dsl u (a7 xs l.toNat hh.toNat)) v:=by
      intro E' u xs l hh A' h' m' x' hl hl' h1 h2 hb1 hb2 p1 p2 p3
      have hrs:fj A' w u (a.eval x) xs:=by
       rcases dx with⟨hnil,pa,ev⟩|⟨b,len,E2,c,hb,hsh,ev⟩
       ·have hx0:xs=[]:=by
         have:=m'.nm n
         rw[hl'] at this
         rcases this with⟨k',l',he',_⟩|⟨_,E3,t3,hb⟩
         ·rw[hnil] at he';cases he'
         ·rcases hb with hb|hb <;> cases hb;rfl
        subst hx0
        exact⟨by simp,.inl ⟨⟨pa,ev⟩,rfl⟩⟩
       ·have hbd:=(m'.live_blk hl' hb).1
        rw[ev,h2]
        exact mV (fun _ h=>h) hbd.2 hbd.1 hsh
      subst h1
      obtain⟨p,cap,ev,c1,c2,c3⟩:=pL hrs (l:=l.toNat) (hh:=hh.toNat) (by omega) (by omega)
      refine⟨_,exe ev (.inl ⟨hmx',rfl⟩) ?_ (loF (len:=0) hb1 p1 p2),by simp only[aa];exact c3 cap (by omega) (Nat.le_refl _)⟩
      rcases hV f hb2 with⟨rfl,rfl⟩|⟨k,y,rfl,e1⟩
      ·exact .inl ⟨rfl,hmx',by simp⟩
      ·exact .inr ⟨y,k,hh,rfl,e1,by omega,by omega,rfl⟩
     split at hk
     ·rename_i E' u xs hl
      split at hk
      ·rename_i l hh h1 h2 hb1 hb2
       cases aF hk
       simp only[Dl.pre,ax,and_true] at hp
       have ok:dQ h [(n,.live (.frz E' u xs))]:=by
        intro n' b hb
        simp only[List.mem_singleton,Prod.mk.injEq] at hb
        obtain⟨rfl,rfl⟩:=hb
        exact⟨E',u,xs,hl,rfl⟩
       obtain⟨m2,x2⟩:=m.freeze ok
       obtain⟨v,hr,hd⟩:=fin m2 x2 (.inl hl) (by simp[aM]) (Nat.eq_of_beq_eq_true h1) (Nat.eq_of_beq_eq_true h2) hb1 hb2 hp.1 hp.2.1 hp.2.2
       exact⟨v,w,.inl hr,(),_,env,trivial,m2,x2,hd⟩
      ·cases hk
     ·rename_i E' u xs hl
      split at hk
      ·rename_i l hh h1 h2 hb1 hb2
       cases aF hk
       simp only[Dl.pre,ax,and_true] at hp
       obtain⟨v,hr,hd⟩:=fin m aS.refl (.inr hl) hl (Nat.eq_of_beq_eq_true h1) (Nat.eq_of_beq_eq_true h2) hb1 hb2 hp.1 hp.2.1 hp.2.2
       exact ao.pure m hr hd
      ·cases hk
     ·cases hk
    ·cases e
   ·cases e
  ·rename_i hx
   rw[hx] at dx;simp only[aa] at dx
   split at e
   ·rename_i l hh hb1 hb2 hmx
    have hmx':mx=none:=by cases mx <;> simp_all
    cases aF e
    simp only[Dl.pre,ax,and_true] at hp
    obtain⟨rfl,rfl⟩:=hp
    have hr:=exe (l:=0) (hh:=0) (m:=0) dx (.inl ⟨hmx',rfl⟩) (by
     rcases hV f hb2 with⟨rfl,_⟩|⟨k,y,rfl,e1⟩
     ·exact .inl ⟨rfl,hmx',rfl⟩
     ·exact .inr ⟨y,k,0,rfl,e1,by omega,by omega,rfl⟩) (by
     rcases hV f hb1 with⟨rfl,_⟩|⟨k,y,rfl,e1⟩
     ·exact .inl ⟨rfl,rfl⟩
     ·exact .inr ⟨y,k,0,rfl,e1,by omega,by omega,rfl⟩)
    exact ao.pure m hr (by simp[aa])
   ·cases e
  ·cases e
 ·cases e
def oY(P:Program)(t:TypeId)(nm:Nat)(x:SV)(lo hi mx:Option SV):Q Dl:=match fm P t,lo,hi,mx with
 | some (_,sz),none,some (.int _ hh),none=>match x with
  | .own n sz' => .ask n fun
   | .live (.row E u xs)=>match Nat.beq sz u.size,Nat.beq sz' u.size with
    | true,true => .ask nm fun
     | .un => .ret (.det [0<=hh,hh<=xs.length] (.own nm sz) [(nm,.live (.row E u (xs.take hh.toNat))),(n,.dead)])
     | _ => .fail
    | _,_ => .fail
   | _ => .fail
  | _ => .fail
 | some (_,sz),some (.int _ l),none,none=>match x with
  | .own n sz' => .ask n fun
   | .live (.row E u xs)=>match Nat.beq sz u.size,Nat.beq sz' u.size with
    | true,true => .ask nm fun
     | .un => .ret (.det [0<=l,l<=xs.length] (.own nm sz) [(nm,.live (.row E u (xs.drop l.toNat))),(n,.dead)])
     | _ => .fail
    | _,_ => .fail
   | _ => .fail
  | _ => .fail
 | _,_,_,_ => .fail
def oQ(P:Program)(t tn:TypeId)(nm:Nat)(s x:SV):Q Dl:=match fm P t,s,x,P.underlying tn with
 | some (e,sz),.nilsl,.int _ n,some (.int _)=>match jh P 8 e,zeroCells P e,P.info? e with
  | some u,some z,some i=>match Nat.beq u.size sz,Nat.beq z.length sz,Nat.ble 1 i.bytes,cl u z with
   | true,true,true,.ret (d,_,[]) => .ask nm fun
    | .un => .ret (.det [0<=n,n*(i.bytes:Int)<=140737488355328] (.own nm sz) [(nm,.live (.row e u (List.replicate n.toNat d)))])
    | _ => .fail
   | _,_,_,_ => .fail
  | _,_,_ => .fail
 | _,_,_,_ => .fail
def gY(P:Program)(t:TypeId)(x:SV):Q Dl:=match P.underlying t,x with
 | some (.slice _),.nilsl=>aB (.int .i64 0)
 | _,_ => .fail
theorem wi(m:ar w0 N0 A env h w)(f:FD A env w ρ a){t:TypeId}{x:Operand}(ho:o.op = .call {callee := .builtin .cap,args := #[x],argTypes := #[t]})
  (e:(gY P t (ad ρ x)).run h=some (d,r)):ao P o a w0 N0 A env h w d:=by
 have dx:=aQ f x
 unfold gY at e
 split at e
 ·rename_i E hu hx
  rw[hx] at dx;simp only[aa] at dx
  unfold aB at e
  cases aF e
  refine ao.pure m (v := .int .i64 0) ?_ (by simp only[aa];exact⟨trivial,ul (by decide)⟩)
  unfold execOp;rw[ho]
  simp[resolve,invoke,builtin,Builtin.cap_,run_underlying hu,dx,goInt]
 ·cases e
theorem BG(m:ar w0 N0 A env h w)(f:FD A env w ρ a){t:TypeId}{nm:Nat}{x:Operand}{lo hi mx:Option Operand}(ho:o.op = .slice t x lo hi mx)
  (e:(oY P t nm (ad ρ x) (lo.map (ad ρ)) (hi.map (ad ρ)) (mx.map (ad ρ))).run h=some (d,r)) (hp:ax d.pre):ao P o a w0 N0 A env h w d:=by
 have dx:=aQ f x
 unfold oY at e
 split at e
 case h_3=>cases e
 ·rename_i E sz kh hh he hlo hhi hmx
  obtain⟨hu,hsz⟩:=gT he
  have hlo':lo=none:=by cases lo <;> simp_all
  have hmx':mx=none:=by cases mx <;> simp_all
  subst hlo' hmx'
  cases hi with
  | none=>cases hhi
  | some y =>
  simp only[Option.map,Option.some.injEq] at hhi
  have dy:=aQ f y
  rw[hhi] at dy;simp only[aa] at dy
  split at e
  case h_2=>cases e
  rename_i n sz' hx
  rw[hx] at dx;simp only[aa] at dx
  simp only[Q.run] at e
  split at e
  case h_2=>cases e
  rename_i p q hk
  simp only[Option.some.injEq,Prod.mk.injEq] at e
  obtain⟨rfl,rfl⟩:=e
  split at hk
  case h_2=>cases hk
  rename_i E' u xs hl
  split at hk
  case h_2=>cases hk
  rename_i hs1 hs2
  have hs1:sz=u.size:=Nat.eq_of_beq_eq_true hs1
  have hs2:sz'=u.size:=Nat.eq_of_beq_eq_true hs2
  subst hs1
  simp only[Q.run] at hk
  split at hk
  case h_2=>cases hk
  rename_i p' q' hk'
  simp only[Option.some.injEq,Prod.mk.injEq] at hk
  obtain⟨rfl,rfl⟩:=hk
  split at hk'
  case h_2=>cases hk'
  rename_i hun
  cases aF hk'
  simp only[Dl.pre,ax,and_true] at hp
  have exe:∀{p:Option Addr}{len cap:Nat},a.eval x = .slice p len cap->hh.toNat<=cap->(execOp a.eval o).run P w = .ok (.value (.slice p hh.toNat cap)) w:=by
   intro p len cap ev hc
   unfold execOp;rw[ho]
   have hb:=lU (P:=P) (w:=w) len cap none (some (a.eval y)) none 0 hh.toNat cap (.inl ⟨rfl,rfl⟩) (.inr ⟨kh,hh,by rw[dy.1],hp.1,by omega,rfl⟩) (.inl ⟨rfl,rfl⟩)
   simp only[Option.map,Instr.sliceAt,Instr.slice,Sem.run_bind,run_underlying hu,Result.andThen_ok,ev,hb,cm hsz,Sem.run_pure,Nat.zero_mul,Nat.sub_zero]
   congr 3
   split
   ·rfl
   ·cases p <;> simp[Addr.add]
  have hdn:∀ n'∈[n],∃ b,h n' = .live b/\b.mut=true:=by simp[hl,cK.mut]
  rcases dx with⟨hnil,pa,es⟩|⟨b,len,E2,cc,hb,hsh,es⟩
  ·have hx:xs=[]:=by
    have:=m.nm n
    rw[hl] at this
    rcases this with⟨k',l',he',_⟩|⟨_,E3,t3,hb⟩
    ·rw[hnil] at he';cases he'
    ·rcases hb with hb|hb <;> cases hb;rfl
   subst hx
   have h0:hh.toNat=0:=by simp at hp;omega
   have g:=dJ (pre:=[0<=hh,hh<=([]:List u.D).length]) (v := .slice pa 0 0) (E:=E') (t:=u) (zs:=([]:List u.D).take hh.toNat) m hun [n] hdn (W:=fun _=>False) (ev := .nil) (aO.refl w _) (fun _ h=>h.elim) (by simp)
    (fun k l e=>by cases e) (fun _=>.inl ⟨rfl,by simp,pa,rfl⟩)
   exact⟨_,w,.inl (exe es (by omega)),by rw[h0];simpa using g⟩
  ·obtain⟨β,len⟩:=len
   obtain⟨cur,cap,hhp,hcs,hxl,hlc,hcm,hrd⟩:=(m.live_blk hl hb).1
   simp only at hcs hxl hlc hrd es
   have hcc:cc=cur.size:=by
    unfold World.shape? at hsh;rw[hhp] at hsh
    simp only[Option.some.injEq,Prod.mk.injEq] at hsh;exact hsh.2.symm
   have hcap:(cc-β)/sz'=cap:=by rw[hcc,hcs,hs2,Nat.add_sub_cancel_left];exact Nat.mul_div_cancel _ u.size_pos
   rw[hcap] at es
   have hle:hh.toNat<=xs.length:=by omega
   have g:=dJ (pre:=[0<=hh,hh<=xs.length]) (v := .slice (some ⟨b,β,none⟩) hh.toNat cap) (E:=E') (t:=u) (zs:=xs.take hh.toNat) m hun [n] hdn (W:=fun _=>False) (ev := .blk b (β,hh.toNat)) (aO.refl w _) (fun _ h=>h.elim) (by simp)
    (fun k l e=>by cases e;exact .inr ⟨n,(β,len),by simp,hb⟩) (fun x=>.inr ⟨b,(β,hh.toNat),cc,rfl,⟨cur,cap,hhp,hcs,by simp;omega,by omega,hcm,fun i hi=>?_⟩,by rw[hsh];unfold World.shape? at hsh;rw[hhp] at hsh;cases hsh;rfl,by rw[← hs2,hcap]⟩)
   ·exact⟨_,w,.inl (exe es (by omega)),by simpa using g⟩
   ·have hi':i<xs.length:=by simp at hi;omega
    rw[List.getElem_take]
    exact hrd i hi'
 ·rename_i E sz kl l he hlo hhi hmx
  obtain⟨hu,hsz⟩:=gT he
  have hhi':hi=none:=by cases hi <;> simp_all
  have hmx':mx=none:=by cases mx <;> simp_all
  subst hhi' hmx'
  cases lo with
  | none=>cases hlo
  | some y =>
  simp only[Option.map,Option.some.injEq] at hlo
  have dy:=aQ f y
  rw[hlo] at dy;simp only[aa] at dy
  split at e
  case h_2=>cases e
  rename_i n sz' hx
  rw[hx] at dx;simp only[aa] at dx
  simp only[Q.run] at e
  split at e
  case h_2=>cases e
  rename_i p q hk
  simp only[Option.some.injEq,Prod.mk.injEq] at e
  obtain⟨rfl,rfl⟩:=e
  split at hk
  case h_2=>cases hk
  rename_i E' u xs hl
  split at hk
  case h_2=>cases hk
  rename_i hs1 hs2
  have hs1:sz=u.size:=Nat.eq_of_beq_eq_true hs1
  have hs2:sz'=u.size:=Nat.eq_of_beq_eq_true hs2
  subst hs1
  simp only[Q.run] at hk
  split at hk
  case h_2=>cases hk
  rename_i p' q' hk'
  simp only[Option.some.injEq,Prod.mk.injEq] at hk
  obtain⟨rfl,rfl⟩:=hk
  split at hk'
  case h_2=>cases hk'
  rename_i hun
  cases aF hk'
  simp only[Dl.pre,ax,and_true] at hp
  have exe:∀{p:Option Addr}{len cap:Nat},a.eval x = .slice p len cap->l.toNat<=len->(execOp a.eval o).run P w = .ok (.value (.slice (if cap=l.toNat then p else p.map (·.add (l.toNat*u.size))) (len-l.toNat) (cap-l.toNat))) w:=by
   intro p len cap ev hc
   unfold execOp;rw[ho]
   have hb:=lU (P:=P) (w:=w) len cap (some (a.eval y)) none none l.toNat len cap (.inl ⟨rfl,rfl⟩) (.inl ⟨rfl,rfl,rfl⟩) (.inr ⟨kl,l,by rw[dy.1],hp.1,by omega,rfl⟩)
   simp only[Option.map,Instr.sliceAt,Instr.slice,Sem.run_bind,run_underlying hu,Result.andThen_ok,ev,hb,cm hsz,Sem.run_pure]
  have hdn:∀ n'∈[n],∃ b,h n' = .live b/\b.mut=true:=by simp[hl,cK.mut]
  rcases dx with⟨hnil,pa,es⟩|⟨b,len,E2,cc,hb,hsh,es⟩
  ·have hx:xs=[]:=by
    have:=m.nm n
    rw[hl] at this
    rcases this with⟨k',l',he',_⟩|⟨_,E3,t3,hb⟩
    ·rw[hnil] at he';cases he'
    ·rcases hb with hb|hb <;> cases hb;rfl
   subst hx
   have h0:l.toNat=0:=by simp at hp;omega
   have g:=dJ (pre:=[0<=l,l<=([]:List u.D).length]) (v := .slice pa 0 0) (E:=E') (t:=u) (zs:=([]:List u.D).drop l.toNat) m hun [n] hdn (W:=fun _=>False) (ev := .nil) (aO.refl w _) (fun _ h=>h.elim) (by simp)
    (fun k l e=>by cases e) (fun _=>.inl ⟨rfl,by simp,pa,rfl⟩)
   have ex:=exe es (by omega)
   rw[h0] at ex
   exact⟨_,w,.inl ex,by simpa[h0] using g⟩
  ·obtain⟨β,len⟩:=len
   obtain⟨cur,cap,hhp,hcs,hxl,hlc,hcm,hrd⟩:=(m.live_blk hl hb).1
   simp only at hcs hxl hlc hrd es
   have hcc:cc=cur.size:=by
    unfold World.shape? at hsh;rw[hhp] at hsh
    simp only[Option.some.injEq,Prod.mk.injEq] at hsh;exact hsh.2.symm
   have hcap:(cc-β)/sz'=cap:=by rw[hcc,hcs,hs2,Nat.add_sub_cancel_left];exact Nat.mul_div_cancel _ u.size_pos
   rw[hcap] at es
   have hle:l.toNat<=xs.length:=by omega
   have ex:=exe es (by omega)
   by_cases hfull:cap=l.toNat
   ·rw[if_pos hfull] at ex
    have hz:xs.drop l.toNat=[]:=List.drop_eq_nil_of_le (by omega)
    have g:=dJ (pre:=[0<=l,l<=xs.length]) (v := .slice (some ⟨b,β,none⟩) 0 0) (E:=E') (t:=u) (zs:=xs.drop l.toNat) m hun [n] hdn (W:=fun _=>False) (ev := .nil) (aO.refl w _) (fun _ h=>h.elim) (by simp)
     (fun k l e=>by cases e) (fun _=>.inl ⟨rfl,hz,_,rfl⟩)
    rw[show len-l.toNat=0 by omega,show cap-l.toNat=0 by omega] at ex
    exact⟨_,w,.inl ex,by simpa using g⟩
   ·rw[if_neg hfull] at ex
    have hmul:l.toNat*u.size+(cap-l.toNat)*u.size=cap*u.size:=by rw[← Nat.add_mul];congr 1;omega
    have g:=dJ (pre:=[0<=l,l<=xs.length]) (v := .slice (some ⟨b,β+l.toNat*u.size,none⟩) (len-l.toNat) (cap-l.toNat)) (E:=E') (t:=u) (zs:=xs.drop l.toNat) m hun [n] hdn (W:=fun _=>False) (ev := .blk b (β+l.toNat*u.size,len-l.toNat)) (aO.refl w _) (fun _ h=>h.elim) (by simp)
     (fun k l e=>by cases e;exact .inr ⟨n,(β,len),by simp,hb⟩) (fun x=>.inr ⟨b,(β+l.toNat*u.size,len-l.toNat),cc,rfl,⟨cur,cap-l.toNat,hhp,by rw[hcs,Nat.add_assoc,hmul],by simp only[List.length_drop];omega,by omega,by omega,fun i hi=>?_⟩,by rw[hsh];unfold World.shape? at hsh;rw[hhp] at hsh;cases hsh;rfl,by
      show _=Value.slice _ _ ((cc-(β+l.toNat*u.size))/u.size)
      rw[hcc,hcs,show β+cap*u.size-(β+l.toNat*u.size)=(cap-l.toNat)*u.size by rw[← hmul];omega,Nat.mul_div_cancel _ u.size_pos]⟩)
    ·exact⟨_,w,.inl ex,by simpa only[Option.map,Addr.add_lit,List.map_cons,List.map_nil] using g⟩
    ·have hi':i+l.toNat<xs.length:=by simp at hi;omega
     rw[List.getElem_drop]
     have:=hrd (l.toNat+i) (by omega)
     rw[show β+(l.toNat+i)*u.size=β+l.toNat*u.size+i*u.size by rw[Nat.add_mul];omega] at this
     exact this
theorem rO(z:Array Value)(n:Nat)(hz:0<z.size):(Builtin.zeroCells z n).toList=cD z.toList n:=by
 apply List.ext_getElem?
 intro i
 by_cases hi:i<n*z.size
 ·rw[lm _ _ _ (by simpa using hi)]
  unfold Builtin.zeroCells
  have hm:i%z.size<z.size:=Nat.mod_lt _ hz
  rw[Array.getElem?_toList,Array.getElem?_map,Array.getElem?_range,if_pos hi]
  simp[hm]
 ·rw[List.getElem?_eq_none (by simp[Builtin.zeroCells];omega),List.getElem?_eq_none (by rw[mP];simp;omega)]
theorem wd(m:ar w0 N0 A env h w)(f:FD A env w ρ a){t tn:TypeId}{nm:Nat}{s x:Operand}(ho:o.op = .call {callee := .builtin .append,args := #[s,x],argTypes := #[t,tn]})
  (e:(oQ P t tn nm (ad ρ s) (ad ρ x)).run h=some (d,r)) (hp:ax d.pre):ao P o a w0 N0 A env h w d:=by
 have ds:=aQ f s
 have dx:=aQ f x
 have exe:∀{v:Value}{w':World},(Builtin.append_ #[t,tn] o.type #[a.eval s,a.eval x]).run P w = .ok v w'→(execOp a.eval o).run P w = .ok (.value v) w':=by
  intro v w' hr
  unfold execOp;rw[ho]
  simp only[resolve,invoke,builtin,Sem.run_bind,Sem.run_pure,Result.andThen_ok,List.map_toArray,List.map_cons,List.map_nil,hr]
 unfold oQ at e
 split at e
 case h_2=>cases e
 rename_i E sz kn n kt he hs hx hut
 obtain⟨hu,hsz⟩:=gT he
 rw[hs] at ds;rw[hx] at dx
 simp only[aa] at ds dx
 split at e
 case h_2=>cases e
 rename_i u z i hct hz hi
 split at e
 case h_2=>cases e
 rename_i dd rest hb1 hb2 hb3 hpz
 have hb1:u.size=sz:=Nat.eq_of_beq_eq_true hb1
 have hb2:z.length=sz:=Nat.eq_of_beq_eq_true hb2
 have hb3:1<=i.bytes:=Nat.le_of_ble_eq_true hb3
 subst hb1
 simp only[Q.run] at e
 split at e
 case h_2=>cases e
 rename_i p q hk
 simp only[Option.some.injEq,Prod.mk.injEq] at e
 obtain⟨rfl,rfl⟩:=e
 split at hk
 case h_2=>cases hk
 rename_i hun
 cases aF hk
 simp only[Dl.pre,ax,and_true] at hp
 obtain⟨h0,hby⟩:=hp
 obtain⟨i',zv,hi',hzv,dz,_⟩:=kr (A:=A) (env:=env) (w:=w) hz
 rw[hi] at hi';cases hi'
 have hzl:zv.cells.size=u.size:=by rw[← Array.length_toList,cd dz,hb2]
 have hisz:i.size=u.size:=by
  unfold bH at hsz;rw[hi] at hsz;simpa using hsz
 obtain⟨k,rfl⟩:=Int.eq_ofNat_of_zero_le h0
 have hkb:k*i.bytes<=140737488355328:=by
  have:((k*i.bytes:Nat):Int)<=140737488355328:=by rw[Int.natCast_mul];exact hby
  omega
 have hk1:k<=k*i.bytes:=Nat.le_mul_of_pos_right k (by omega)
 by_cases hk0:k=0
 ·subst hk0
  have hr:(Builtin.append_ #[t,tn] o.type #[a.eval s,a.eval x]).run P w = .ok (.slice none 0 0) w:=by
   rw[ds,dx.1]
   have hw:IntKind.i64.wrap ((0:Nat):Int)=0:=by decide
   have hut':P.underlying tn=some (.int kt):=hut
   have hai:(asIntOf (Value.int kn 0)).run P w = .ok (kn,0) w:=by simp[asIntOf]
   unfold Builtin.append_
   simp[run_underlying hu,run_underlying hut',cm hsz,typeInfo,hi,asInt,hai,show IntKind.i64.wrap 0=0 from by decide]
  refine⟨_,w,.inl (exe hr),?_⟩
  have g:=dJ (pre:=[0<=((0:Nat):Int),((0:Nat):Int)*(i.bytes:Int)<=140737488355328]) (v := .slice none 0 0) (E:=E) (t:=u) (zs:=List.replicate (((0:Nat):Int)).toNat dd) m hun [] (by simp) (W:=fun _=>False) (ev := .nil) (aO.refl w _) (fun _ h=>h.elim) (by simp)
   (fun k l e=>by cases e) (fun _=>.inl ⟨rfl,by simp,none,rfl⟩)
  simpa using g
 ·have hr:=Go.Lib.run_append_nil_zeros (P:=P) w t tn o.type E i zv kn kt hu hut hi hzv k (by omega) (by rw[hisz];exact u.size_pos) (by omega) (by omega)
  rw[← ds,← dx.1] at hr
  refine⟨_,_,.inl (exe hr),?_⟩
  have hge:=grownCap_ge w k 0 E
  have hcm:=grownCap_le_maxLen w k 0 E (by simp only[maxLen];omega)
  generalize grownCap w k 0 E=cap at *
  have hproj:=fx m u z zv.cells.toList dd rest [] [] (by rw[hpz];rfl) dz (A':=A) (fun _ hb=>hb) (fun k ⟨n,b,l,hh,_⟩=>by simp at hh)
  have hall:(Builtin.zeroCells zv.cells k++Builtin.zeroCells zv.cells (cap-k)).toList=cD zv.cells.toList cap:=by
   rw[Array.toList_append,rO _ _ (by rw[hzl];exact u.size_pos),rO _ _ (by rw[hzl];exact u.size_pos)]
   have radd:∀(l:List Value)(a b:Nat),cD l a++cD l b=cD l (a+b):=by
    intro l a b
    induction a with
    | zero=>simp[cD]
    | succ a ih=>rw[Nat.succ_add];simp only[cD,List.append_assoc,ih]
   rw[radd];congr 1;omega
  have hsize:(Builtin.zeroCells zv.cells k++Builtin.zeroCells zv.cells (cap-k)).size=cap*u.size:=by
   rw[← Array.length_toList,hall,mP,Array.length_toList,hzl]
  have cg:aO w (w.drew.alloc (.cells (Builtin.zeroCells zv.cells k++Builtin.zeroCells zv.cells (cap-k)) E)) fun _=>False:=(aO.drew w _).trans (aO.alloc w.drew _ _)
  have g:=dJ (pre:=[0<=((k:Nat):Int),((k:Nat):Int)*(i.bytes:Int)<=140737488355328]) (v := .slice (some ⟨w.heap.size,0,none⟩) k cap) (E:=E) (t:=u) (zs:=List.replicate ((k:Nat):Int).toNat dd) m hun [] (by simp) (W:=fun _=>False) (ev := .blk w.heap.size (0,k)) cg (fun _ h=>h.elim) (by simp)
   (fun k l e=>by cases e;exact .inl (Nat.le_refl _)) (fun x=>.inr ⟨w.heap.size,(0,k),cap*u.size,rfl,⟨_,cap,heap_alloc_new w.drew _,by rw[hsize,Nat.zero_add],by simp,hge,hcm,fun j hj=>?_⟩,?_,?_⟩)
  ·simpa using g
  ·simp only[List.length_replicate,Int.toNat_natCast] at hj
   rw[List.getElem_replicate]
   have sh:=jt hproj.2.2.2.1 (j*u.size)
   rw[Nat.zero_add] at sh
   rw[Nat.zero_add]
   refine bP (fun _ h=>h) x.keep u _ _ _ _ (fun q hq=>?_) sh
   have hlt:j*u.size+q<cap*u.size:=by
    have:(j+1)*u.size<=cap*u.size:=Nat.mul_le_mul_right _ (by omega)
    rw[Nat.add_mul,Nat.one_mul] at this;omega
   rw[← Array.getElem?_toList,hall,lm _ _ _ (by simpa[hzl] using hlt)]
   congr 1
   simp only[Array.length_toList,hzl]
   rw[Nat.add_comm,Nat.add_mul_mod_self_right,Nat.mod_eq_of_lt hq]
   omega
  ·unfold World.shape?
   have hh:=heap_alloc_new w.drew (.cells (Builtin.zeroCells zv.cells k++Builtin.zeroCells zv.cells (cap-k)) E)
   simp only[World.size_drew] at hh
   rw[hh];simp only[hsize]
  ·show _=Value.slice _ _ ((cap*u.size-0)/u.size)
   rw[Nat.sub_zero,Nat.mul_div_cancel _ u.size_pos]
theorem mn{xs:List Int}{v:Value}(h:fj A w (.int .u8) v xs){src e:TypeId}(hs:P.underlying src=some (.slice e))(he:P.underlying e=some (.int .u8)){dst:TypeId}(hd:P.underlying dst=some .string) :
  (convert src dst v).run P w = .ok (.string (strOfNums xs)) w:=by
 obtain⟨hl,⟨⟨a,rfl⟩,hx⟩|⟨b,off,cap,rfl,h1,h2,h3,h4⟩⟩:=h
 ·have hx:xs=[]:=hx
  subst hx
  rw[run_convert_bytes_string w src dst e _ 0 0 hs he hd]
  cases a <;> simp[Conv.bytesToString,loadCells]
  all_goals rfl
 ·refine run_convert_bytes_arg (P:=P) w src e hs he b off xs.length cap xs rfl (fun i hi=>?_) dst hd
  have:=(h4 i hi).1
  simp only[CT.size,Nat.mul_one] at this
  rw[this,List.getD_eq_getElem?_getD,List.getElem?_eq_getElem hi,Option.getD_some]
theorem zi{xs:List Int}{k c:Nat}{len:Nat×Nat}{E:TypeId}(h:dH A w k len E (.int .u8) xs){src e:TypeId}(hs:P.underlying src=some (.slice e))(he:P.underlying e=some (.int .u8)){dst:TypeId}(hd:P.underlying dst=some .string) :
  (convert src dst (.slice (some ⟨k,len.1,none⟩) len.2 c)).run P w = .ok (.string (strOfNums xs)) w:=by
 obtain⟨vs,cap,h0,h1,h2,h3,h4,h5⟩:=h
 refine run_convert_bytes_arg (P:=P) w src e hs he k len.1 len.2 c xs h2 (fun i hi=>?_) dst hd
 have hi':i<xs.length:=by omega
 have:=(h5 i hi').1
 simp only[CT.size,Nat.mul_one] at this
 rw[cell_of_row w k _ vs E (0,0) h0,this,List.getD_eq_getElem?_getD,List.getElem?_eq_getElem hi',Option.getD_some]
def n7(P:Program)(src:TypeId)(x:SV):Q Dl:=match P.underlying src with
 | some (.slice e)=>match P.underlying e with
  | some (.int .u8)=>match x with
   | .dsl t xs=>match bM t (.int .u8) xs with
    | some ys=>aB (.str (strOfNums ys))
    | none => .fail
   | .dsx t xs=>match bM t (.int .u8) xs with
    | some ys=>aB (.str (strOfNums ys))
    | none => .fail
   | .nilsl=>aB (.str (strOfNums []))
   | .own n sz => .ask n fun
    | .live (.row _ t xs)=>match bM t (.int .u8) xs with
     | some ys=>aB (.str (strOfNums ys))
     | none => .fail
    | .live (.frz _ t xs)=>match bM t (.int .u8) xs with
     | some ys=>aB (.str (strOfNums ys))
     | none => .fail
    | _ => .fail
   | _ => .fail
  | _ => .fail
 | _ => .fail
theorem kP{xs:List Int}{v:Value}(hl:xs.length<=maxLen):aa A env w (.str (strOfNums xs)) (.string (strOfNums xs)):=by
 simp only[aa];exact⟨trivial,by rw[strOfNums_size];exact hl⟩
theorem BN(m:ar w0 N0 A env h w)(f:FD A env w ρ a){s t:TypeId}{x:Operand}(ho:o.op = .convert s t x)(ht:P.underlying t=some .string)
  (e:(n7 P s (ad ρ x)).run h=some (d,r)):ao P o a w0 N0 A env h w d:=by
 have dx:=aQ f x
 have go:∀{v:Value},(convert s t (a.eval x)).run P w = .ok v w->(execOp a.eval o).run P w = .ok (.value v) w:=by
  intro v hr
  unfold execOp;rw[ho]
  simp only[Sem.run_bind,hr,Result.andThen_ok,Sem.run_pure]
 unfold n7 at e
 split at e
 ·rename_i el hs
  split at e
  ·rename_i he
   split at e
   ·rename_i u xs hx
    rw[hx] at dx;simp only[aa] at dx
    split at e
    ·rename_i ys hc
     obtain⟨et,ez⟩:=cj hc
     subst et;simp only at ez;subst ez
     unfold aB at e
     cases aF e
     exact ao.pure m (go (mn dx hs he ht)) (kP (v:=a.eval x) dx.1)
    ·cases e
   ·rename_i u xs hx
    rw[hx] at dx;simp only[aa] at dx
    split at e
    ·rename_i ys hc
     obtain⟨et,ez⟩:=cj hc
     subst et;simp only at ez;subst ez
     unfold aB at e
     cases aF e
     exact ao.pure m (go (mn dx.1 hs he ht)) (kP (v:=a.eval x) dx.1.1)
    ·cases e
   ·rename_i hx
    rw[hx] at dx;simp only[aa] at dx
    unfold aB at e
    cases aF e
    refine ao.pure m (go ?_) (kP (v:=a.eval x) (by simp))
    rw[dx]
    exact mn (A:=A) (xs:=[]) ⟨by simp,.inl ⟨⟨_,rfl⟩,rfl⟩⟩ hs he ht
   ·rename_i n sz hx
    rw[hx] at dx;simp only[aa] at dx
    simp only[Q.run] at e
    split at e
    ·rename_i p q hk
     simp only[Option.some.injEq,Prod.mk.injEq] at e
     obtain⟨rfl,rfl⟩:=e
     have fin:∀{E:TypeId}{ys:List Int}{fz:Bool},h n = .live (match fz with|true => .frz E (.int .u8) ys|false => .row E (.int .u8) ys)->ao P o a w0 N0 A env h w (.det [] (.str (strOfNums ys)) []):=by
      intro E ys fz hl
      have hm:=m.nm n
      rw[hl] at hm
      rcases dx with⟨hen,a0,ev⟩|⟨b,len,E',c,hen,_,ev⟩
      ·rcases hm with⟨k,len,hek,_⟩|⟨_,E2,t2,hb⟩
       ·rw[hen] at hek;cases hek
       ·have:ys=[]:=by cases fz <;> (rcases hb with hb|hb <;> cases hb) <;> rfl
        subst this
        refine ao.pure m (go ?_) (kP (v:=a.eval x) (by simp))
        rw[ev]
        exact mn (A:=A) (xs:=[]) ⟨by simp,.inl ⟨⟨_,rfl⟩,rfl⟩⟩ hs he ht
      ·rcases hm with⟨k,len',hek,hb,_⟩|⟨hek,_⟩
       ·rw[hen] at hek;cases hek
        have hr:dH A w b len E (.int .u8) ys:=by
         cases fz with
         | true=>exact hb.2
         | false=>exact hb
        refine ao.pure m (go ?_) (kP (v:=a.eval x) ?_)
        ·rw[ev];exact zi hr hs he ht
        ·obtain⟨vs,cap,_,_,h2,h3,h4,_⟩:=hr
         omega
       ·rw[hen] at hek;cases hek
     split at hk
     ·rename_i E u xs hl
      split at hk
      ·rename_i ys hc
       obtain⟨et,ez⟩:=cj hc
       subst et;simp only at ez;subst ez
       unfold aB at hk
       cases aF hk
       exact fin (fz:=false) hl
      ·cases hk
     ·rename_i E u xs hl
      split at hk
      ·rename_i ys hc
       obtain⟨et,ez⟩:=cj hc
       subst et;simp only at ez;subst ez
       unfold aB at hk
       cases aF hk
       exact fin (fz:=true) hl
      ·cases hk
     ·cases hk
    ·cases e
   ·cases e
  ·cases e
 ·cases e
def m7:SV->Option ByteArray
 | .str s=>some s
 | .cv (.string s)=>some s
 | _=>none
def qm(op:BinOp)(x y:SV):Q Dl:=match m7 x,m7 y,op with
 | some a,some b,.eql=>aB (.bool (decide (a=b)))
 | some a,some b,.neq=>aB (.bool (!decide (a=b)))
 | _,_,_ => .fail
theorem lW{x:SV}{v:Value}{s:ByteArray}(e:m7 x=some s)(hd:aa A env w x v):v = .string s:=by
 unfold m7 at e
 split at e
 ·cases e;simp only[aa] at hd;exact hd.1
 ·cases e;simp only[aa] at hd;exact hd
 ·cases e
theorem yT(m:ar w0 N0 A env h w)(f:FD A env w ρ a){op:BinOp}{t yt:TypeId}{x y:Operand}(ho:o.op = .binOp op t x y yt)(ht:P.underlying t=some .string)
  (e:(qm op (ad ρ x) (ad ρ y)).run h=some (d,r)):ao P o a w0 N0 A env h w d:=by
 have dx:=aQ f x
 have dy:=aQ f y
 have go:∀(v:Value),((do eqGuard op t x y (a.eval x) (a.eval y);binOp op t (a.eval x) (a.eval y):Sem Value).run P w) = .ok v w →
   (execOp a.eval o).run P w = .ok (.value v) w:=by
  intro v hv
  unfold execOp
  rw[ho]
  simp only[Sem.run_bind,Sem.run_pure] at hv ⊢
  rw[hv]
  rfl
 have eqb:∀ u v:ByteArray,(u.toList == v.toList)=decide (u=v):=fun u v=>by
  rw[Bool.eq_iff_iff];simp only[ByteArray.toList_eq,beq_iff_eq,decide_eq_true_eq]
  exact⟨fun h=>by cases u;cases v;simp_all,fun h=>by rw[h]⟩
 unfold qm at e
 split at e
 ·rename_i u v hx hy
  have ex:=lW hx dx
  have ey:=lW hy dy
  rw[ex,ey] at go
  unfold aB at e
  cases aF e
  refine ao.pure m (go _ ?_) (s := .bool (decide (u=v))) (v := .bool (decide (u=v))) (by simp only[aa])
  rw[eqGuard_at_string]
  simp[binOp,Op.stringOp,eqb]
 ·rename_i u v hx hy
  have ex:=lW hx dx
  have ey:=lW hy dy
  rw[ex,ey] at go
  unfold aB at e
  cases aF e
  refine ao.pure m (go _ ?_) (s := .bool (!decide (u=v))) (v := .bool (!decide (u=v))) (by simp only[aa])
  rw[eqGuard_at_string]
  simp[binOp,Op.stringOp,eqb]
 ·cases e
def n5(P:Program)(t:TypeId)(x i:SV):Q Dl:=match i,P.underlying t with
 | .int _ i,some (.array len e)=>match bH P e,decide (0<=i)&&decide (i<len)&&decide (2<=len) with
  | some (n+1),true=>match x with
   | .ptr m o=>aB (.ptr m (o+i.toNat*(n+1)))
   | .eptr m s j o=>aB (.eptr m s j (o+i.toNat*(n+1)))
   | .dptr u d o=>aB (.dptr u d (o+i.toNat*(n+1)))
   | _ => .fail
  | _,_ => .fail
 | _,_ => .fail
theorem yw(m:ar w0 N0 A env h w)(f:FD A env w ρ a){t:TypeId}{x i:Operand}(φ:Operand->SV)(dx:aa A env w (φ x) (a.eval x))(ho:o.op = .indexAddr t x i)
  (e:(n5 P t (φ x) (ad ρ i)).run h=some (d,r)):ao P o a w0 N0 A env h w d:=by
 have di:=aQ f i
 unfold n5 at e
 split at e
 ·rename_i k iv len E hi hu
  rw[hi] at di;simp only[aa] at di
  split at e
  ·rename_i n hn hb
   simp only[Bool.and_eq_true,decide_eq_true_eq] at hb
   obtain⟨⟨h0,h1⟩,h2⟩:=hb
   have go:∀{b off:Nat},a.eval x = .pointer (some ⟨b,off,none⟩)->(execOp a.eval o).run P w = .ok (.value (.pointer (some ⟨b,off+iv.toNat*(n+1),none⟩))) w:=by
    intro b off ev
    unfold execOp;rw[ho]
    simp[Instr.indexAt,Instr.sureAddr,ev,di.1,asIntOf,run_underlying hu,cm hn,h0,h1,Addr.add_lit]
   split at e
   ·rename_i q o' hx
    rw[hx] at dx;simp only[aa] at dx
    obtain⟨b,l,he,ev⟩:=dx
    unfold aB at e
    cases aF e
    exact ao.pure m (go ev) (by simp only[aa];exact⟨b,l,he,rfl⟩)
   ·rename_i q sz j o' hx
    rw[hx] at dx;simp only[aa] at dx
    obtain⟨b,l,he,hj,ev⟩:=dx
    unfold aB at e
    cases aF e
    exact ao.pure m (go ev) (by simp only[aa];exact⟨b,l,he,hj,by rw[Nat.add_assoc,Nat.add_assoc]⟩)
   ·rename_i u dd o' hx
    rw[hx] at dx;simp only[aa] at dx
    obtain⟨b,off,ev,hA,hr⟩:=dx
    unfold aB at e
    cases aF e
    exact ao.pure m (go ev) (by simp only[aa];exact⟨b,off,by rw[Nat.add_assoc],hA,hr⟩)
   ·cases e
  ·cases e
 ·cases e
def eC(i:Int):List (Int×Int)->Bool
 | []=>false
 | p::r=>bif decide (i=p.1) then true else eC i r
def gw(i:Int):List (Int×Int)->Int
 | []=>0
 | p::r=>bif decide (i=p.1) then p.2 else gw i r
def eY(i v:Int):List (Int×Int)->List (Int×Int)
 | []=>[(i,v)]
 | p::r=>bif decide (i=p.1) then (i,v)::r else p::eY i v r
def fh(i:Int):List (Int×Int)->Nat
 | []=>0
 | p::r=>bif decide (i=p.1) then 0 else fh i r+1
def kV(P:Program)(t:TypeId):Option (TypeId×IntKind×TypeId×IntKind):=match P.underlying t with
 | some (.map k e)=>match P.underlying k,P.underlying e with
  | some (.int kk),some (.int vk)=>some (k,kk,e,vk)
  | _,_=>none
 | _=>none
def nK(P:Program)(e:TypeId)(vk:IntKind):Bool:=match P.info? e with
 | some j=>match j.zero with
  | some (.int k n)=>cO k vk&&decide (n=0)
  | _=>false
 | none=>false
def pm(P:Program)(t:TypeId)(nm:Nat):Q Dl:=match kV P t with
 | some (_,kk,_,vk) => .ask nm fun
  | .un => .ret (.det [] (.mapp nm) [(nm,.live (.mp kk vk []))])
  | _ => .fail
 | none => .fail
def pN(P:Program)(t:TypeId)(x i:SV):Q Dl:=match kV P t,x,i with
 | some (_,kk,e,vk),.mapp n,.int k i => .ask n fun
  | .live (.mp kk' vk' l)=>match cO kk kk',cO vk vk',cO k kk,nK P e vk with
   | true,true,true,true=>aB (.tup [.int vk (gw i l),.bool (eC i l)])
   | _,_,_,_ => .fail
  | _ => .fail
 | _,_,_ => .fail
def p8(P:Program)(t:TypeId)(x i y:SV):Q Dl:=match kV P t,x,i,y with
 | some (_,kk,_,vk),.mapp n,.int k i,.int k' v => .ask n fun
  | .live (.mp kk' vk' l)=>match cO kk kk',cO vk vk',cO k kk,cO k' vk with
   | true,true,true,true => .ret (.det [] (.cv undef) [(n,.live (.mp kk vk (eY i v l)))])
   | _,_,_,_ => .fail
  | _ => .fail
 | _,_,_,_ => .fail
theorem uk{t k e:TypeId}{kk vk:IntKind}(h:kV P t=some (k,kk,e,vk)):P.underlying t=some (.map k e)/\P.underlying k=some (.int kk)/\P.underlying e=some (.int vk):=by
 unfold kV at h
 split at h
 ·rename_i hu
  split at h
  ·rename_i h1 h2
   cases h;exact⟨hu,h1,h2⟩
  ·cases h
 ·cases h
theorem Bd{e:TypeId}{vk:IntKind}(h:nK P e vk=true):(zeroValue e).run P w = .ok (.int vk 0) w:=by
 unfold nK at h
 split at h
 ·rename_i j hj
  split at h
  ·rename_i k n hz
   simp only[Bool.and_eq_true,decide_eq_true_eq] at h
   cases cX h.1
   rw[h.2] at hz
   simp[zeroValue,typeInfo,hj,hz]
  ·cases h
 ·cases h
def d6(kk vk:IntKind)(l:List (Int×Int)):List (Value×Value):=l.map fun p=>(Value.int kk p.1,Value.int vk p.2)
theorem qu{kk vk:IntKind}{i:Int}:∀{es:List MapEntry}{l:List (Int×Int)}{n:Nat},es.map (fun e=>(e.key,e.val))=d6 kk vk l →
  Instr.findNow (.int kk) (.int kk i) es n=some (bif eC i l then some (n+fh i l,.int vk (gw i l)) else none)
 | [],[],n,_=>rfl
 | e::es,p::l,n,h=>by
  simp only[d6,List.map_cons,List.cons.injEq,Prod.mk.injEq] at h
  obtain⟨⟨h1,h2⟩,h3⟩:=h
  have hs:Instr.sameNow (.int kk) (.int kk i) e.key=some (i == p.1):=by rw[h1];simp[Instr.sameNow]
  by_cases hi:i=p.1
  ·have hb:(i == p.1)=true:=by simp[hi]
   rw[hb] at hs
   simp only[Instr.findNow,hs,h2,eC,gw,fh,decide_eq_true hi,cond_true,Nat.add_zero]
  ·have hb:(i == p.1)=false:=by simp[hi]
   rw[hb] at hs
   simp only[Instr.findNow,hs,eC,gw,fh,decide_eq_false hi,cond_false]
   rw[qu (l:=l) h3,show n+1+fh i l=n+(fh i l+1) by omega]
 | [],_::_,_,h=>by simp[d6] at h
 | _::_,[],_,h=>by simp[d6] at h
theorem uh{i:Int}:∀{l:List (Int×Int)},eC i l=false->gw i l=0
 | [],_=>rfl
 | p::l,h=>by
  simp only[eC] at h
  cases hd:decide (i=p.1) with
  | true=>rw[hd] at h;cases h
  | false =>
   rw[hd,cond_false] at h
   simp only[gw,hd,cond_false];exact uh h
theorem sf{vk:IntKind}{i v:Int}(hv:vk.has v):∀{l:List (Int×Int)},(∀ p∈l,vk.has p.2)→∀ p∈eY i v l,vk.has p.2
 | [],_,p,hp=>by simp only[eY,List.mem_singleton] at hp;rw[hp];exact hv
 | q::l,h,p,hp=>by
  simp only[eY] at hp
  cases hd:decide (i=q.1) with
  | true =>
   rw[hd,cond_true] at hp
   rcases List.mem_cons.1 hp with rfl|hp
   ·exact hv
   ·exact h p (List.mem_cons_of_mem _ hp)
  | false =>
   rw[hd,cond_false] at hp
   rcases List.mem_cons.1 hp with rfl|hp
   ·exact h _ List.mem_cons_self
   ·exact sf hv (fun p hp=>h p (List.mem_cons_of_mem _ hp)) p hp
theorem sN{vk:IntKind}{i:Int}(h0:vk.has 0):∀{l:List (Int×Int)},(∀ p∈l,vk.has p.2)->vk.has (gw i l)
 | [],_=>h0
 | q::l,h=>by
  simp only[gw]
  cases decide (i=q.1) with
  | true=>exact h _ List.mem_cons_self
  | false=>exact sN h0 fun p hp=>h p (List.mem_cons_of_mem _ hp)
theorem sg{kk vk:IntKind}{i v:Int}:∀{es:List MapEntry}{l:List (Int×Int)},es.map (fun e=>(e.key,e.val))=d6 kk vk l->eC i l=true →
  (es.modify (fh i l) fun e=>{e with key := .int kk i,val := .int vk v}).map (fun e=>(e.key,e.val))=d6 kk vk (eY i v l)∧∃ e,es[fh i l]? = some e/\e.key = .int kk i
 | [],[],_,hm=>by cases hm
 | e::es,p::l,h,hm=>by
  simp only[d6,List.map_cons,List.cons.injEq,Prod.mk.injEq] at h
  obtain⟨⟨h1,h2⟩,h3⟩:=h
  simp only[eC] at hm
  cases hd:decide (i=p.1) with
  | true =>
   simp only[eY,fh,hd,cond_true,d6,List.map_cons]
   refine⟨?_,e,rfl,?_⟩
   ·simp[h3]
   ·rw[h1,of_decide_eq_true hd]
  | false =>
   rw[hd,cond_false] at hm
   obtain⟨k1,k2⟩:=sg (v:=v) h3 hm
   simp only[eY,fh,hd,cond_false,d6,List.map_cons]
   refine⟨?_,by simpa using k2⟩
   simp only[List.modify_succ_cons,List.map_cons,h1,h2,List.cons.injEq,true_and]
   exact k1
 | [],_::_,h,_=>by simp[d6] at h
 | _::_,[],h,_=>by simp[d6] at h
theorem uX{kk vk:IntKind}{i v:Int}:∀{l:List (Int×Int)},eC i l=false->d6 kk vk (eY i v l)=d6 kk vk l++[(Value.int kk i,Value.int vk v)]
 | [],_=>rfl
 | p::l,h=>by
  simp only[eC] at h
  cases hd:decide (i=p.1) with
  | true=>rw[hd] at h;cases h
  | false =>
   rw[hd,cond_false] at h
   simp only[eY,hd,cond_false,d6,List.map_cons,List.cons_append]
   exact congrArg _ (uX h)
theorem xT(m:ar w0 N0 A env h w){t:TypeId}{nm:Nat}(ho:o.op = .makeMap t none)
  (e:(pm P t nm).run h=some (d,r)):ao P o a w0 N0 A env h w d:=by
 unfold pm at e
 split at e
 ·simp only[Q.run] at e
  split at e
  ·rename_i p q hk
   simp only[Option.some.injEq,Prod.mk.injEq] at e
   obtain⟨rfl,rfl⟩:=e
   split at hk
   ·rename_i hun
    cases aF hk
    have hrun:(execOp a.eval o).run P w = .ok (.value (.map (some w.heap.size))) (w.alloc (.map #[] 0)):=by
     unfold execOp;rw[ho]
     rfl
    refine⟨_,_,.inl hrun,bz.fresh m hun (len:=(0,0)) rfl w.heap.size (Nat.le_refl _) (aO.alloc w _ _) (fun x=>⟨#[],0,heap_alloc_new w _,rfl,fun p hp=>by cases hp⟩) ?_⟩
    simp only[aa]
    exact⟨_,(0,0),ah.set_same _ _ _,rfl⟩
   ·cases hk
  ·cases e
 ·cases e
theorem nR(kk:IntKind)(i:Int):MapKept.IsKey (.int kk) (.int kk i):=by simp[MapKept.IsKey]
theorem wb(m:ar w0 N0 A env h w)(f:FD A env w ρ a){t:TypeId}{x i:Operand}(ho:o.op = .lookup t x i true)
  (e:(pN P t (ad ρ x) (ad ρ i)).run h=some (d,r)):ao P o a w0 N0 A env h w d:=by
 have dx:=aQ f x
 have di:=aQ f i
 unfold pN at e
 split at e
 ·rename_i kt kk et vk n k i hm hx hi
  rw[hx] at dx;rw[hi] at di
  simp only[aa] at dx di
  obtain⟨b,len,he,ev⟩:=dx
  obtain⟨hu,huk,hue⟩:=uk hm
  simp only[Q.run] at e
  split at e
  ·rename_i p q hk
   simp only[Option.some.injEq,Prod.mk.injEq] at e
   obtain⟨rfl,rfl⟩:=e
   split at hk
   ·rename_i kk' vk' l hl
    split at hk
    ·rename_i q1 q2 q3 q4
     cases cX q1;cases cX q2;cases cX q3
     unfold aB at hk
     cases aF hk
     obtain⟨⟨es,clk,hb,hes,hh⟩,_⟩:=m.live_blk hl he
     have hf:=qu (i:=i) (n:=0) hes
     have h0:vk.has 0:=by
      have:=IntKind.wrap_has vk 0
      have e0:vk.wrap 0=0:=by cases vk <;> rfl
      rw[e0] at this;exact this
     refine ao.pure m (v := .tuple #[.int vk (gw i l),.bool (eC i l)]) ?_ ?_
     ·unfold execOp;rw[ho]
      simp only[ev,di.1,Instr.lookup,Sem.run_bind,run_underlying hu,Result.andThen_ok,MapKept.run_getObj_map hb,Sem.run_pure,MapKept.run_checkKey huk (nR kk i),MapKept.run_findKey huk hf]
      cases hq:eC i l with
      | true=>simp
      | false =>
       simp[Bd q4,uh hq]
     ·simp only[aa]
      refine⟨_,rfl,?_⟩
      simp only[ab,aa]
      exact⟨_,_,rfl,⟨rfl,sN h0 hh⟩,_,_,rfl,rfl,rfl⟩
    ·cases hk
   ·cases hk
  ·cases e
 ·cases e
theorem aO.setMap{w:World}{b:Nat}{es:Array MapEntry}{c:Nat}(hb:w.heap[b]? = some (.map es c))(es':Array MapEntry)(c':Nat) :
  aO w {w with heap:=w.heap.setIfInBounds b (.map es' c')} fun j=>j=b:=by
 refine⟨rfl,rfl,rfl,by simp,fun k hk hw=>?_,fun k s hs=>?_⟩
 ·exact Array.getElem?_setIfInBounds_ne (fun e=>hw e.symm)
 ·by_cases e:k=b
  ·subst e
   unfold World.shape? at hs;rw[hb] at hs;cases hs
  ·unfold World.shape? at hs ⊢
   have:({w with heap:=w.heap.setIfInBounds b (.map es' c')}:World).heap[k]? = w.heap[k]? := Array.getElem?_setIfInBounds_ne (fun h=>e h.symm)
   rw[this];exact hs
theorem Ak(m:ar w0 N0 A env h w)(f:FD A env w ρ a){t:TypeId}{x i y:Operand}(ho:o.op = .mapUpdate t x i y)
  (e:(p8 P t (ad ρ x) (ad ρ i) (ad ρ y)).run h=some (d,r)):ao P o a w0 N0 A env h w d:=by
 have dx:=aQ f x
 have di:=aQ f i
 have dy:=aQ f y
 unfold p8 at e
 split at e
 ·rename_i kt kk et vk n k i k' v hm hx hi hy
  rw[hx] at dx;rw[hi] at di;rw[hy] at dy
  simp only[aa] at dx di dy
  obtain⟨b,len,he,ev⟩:=dx
  obtain⟨hu,huk,hue⟩:=uk hm
  simp only[Q.run] at e
  split at e
  ·rename_i p q hk
   simp only[Option.some.injEq,Prod.mk.injEq] at e
   obtain⟨rfl,rfl⟩:=e
   split at hk
   ·rename_i kk' vk' l hl
    split at hk
    ·rename_i q1 q2 q3 q4
     cases cX q1;cases cX q2;cases cX q3;cases cX q4
     cases aF hk
     obtain⟨⟨es,clk,hb,hes,hh⟩,_⟩:=m.live_blk hl he
     have hf:=qu (i:=i) (n:=0) hes
     have fin:∀(es':Array MapEntry)(c':Nat),(execOp a.eval o).run P w = .ok .skip {w with heap:=w.heap.setIfInBounds b (.map es' c')}->es'.toList.map (fun e=>(e.key,e.val))=d6 kk vk (eY i v l) →
       ao P o a w0 N0 A env h w (.det [] (.cv undef) [(n,.live (.mp kk vk (eY i v l)))]):=by
      intro es' c' hrun hes'
      have hlt:b<w.heap.size:=(Array.getElem?_eq_some_iff.1 hb).1
      have u:=cP.write (b' := .mp kk vk (eY i v l)) m hl rfl he (aO.setMap hb es' c') ⟨es',c',by simp[hlt],hes',sf dy.2 hh⟩ rfl
      exact⟨undef,_,.inr ⟨hrun,rfl⟩,(),A,env,trivial,m.upd u,m.ext u,by simp only[Dl.val,aa]⟩
     cases hq:eC i l with
     | true =>
      rw[hq,cond_true] at hf
      obtain⟨k1,e0,k2,k3⟩:=sg (v:=v) hes hq
      refine fin (es.modify (fh i l) fun e=>{e with key := .int kk i,val := .int vk v}) clk ?_ (by rw[Array.toList_modify];exact k1)
      have hget:es[fh i l]? = some e0:=by rw[← Array.getElem?_toList];exact k2
      unfold execOp;rw[ho]
      simp only[ev,di.1,dy.1,Instr.mapUpdate,Sem.run_bind,run_underlying hu,Result.andThen_ok,MapKept.run_getObj_map hb,Sem.run_pure,MapKept.run_checkKey huk (nR kk i),MapKept.run_findKey huk hf,Nat.zero_add,hget,Option.map_some,Option.getD_some,k3,Instr.keyThatStays,Instr.sameBits,beq_self_eq_true,Bool.and_self,if_true,MapKept.run_setObj_map _ hb]
      try rfl
     | false =>
      rw[hq,cond_false] at hf
      refine fin (es.push {key := .int kk i,val := .int vk v,born:=clk}) (clk+1) ?_ (by rw[Array.toList_push,List.map_append,hes,uX hq];rfl)
      unfold execOp;rw[ho]
      simp only[ev,di.1,dy.1,Instr.mapUpdate,Sem.run_bind,run_underlying hu,Result.andThen_ok,MapKept.run_getObj_map hb,Sem.run_pure,MapKept.run_checkKey huk (nR kk i),MapKept.run_findKey huk hf,MapKept.run_setObj_map _ hb]
      try rfl
    ·cases hk
   ·cases hk
  ·cases e
 ·cases e
end
end Go.SX

/- SX: an element of an owned row that is open: its cells stand one by one, so that they may own rows themselves. -/
namespace Go.SX
set_option linter.unusedVariables false
def vN:SV->Bool
 | .own _ _=>true
 | _=>false
def pv(P:Program)(ty:TypeId)(x:SV):Q Dl:=match x with
 | .eptr n sz i off => .ask n fun
  | .live (.opn _ t _ j cs)=>match Nat.beq sz t.size,dI P ty cs off with
   | true,some v => .ret (.det [i=j] v [])
   | _,_ => .fail
  | _=>kv P ty (.eptr n sz i off)
 | x=>kv P ty x
def oW(P:Program)(ty:TypeId)(x y:SV):Q Dl:=match x with
 | .eptr n sz i off => .ask n fun
  | .live (.opn E t xs j cs)=>match hZ y,bH P ty with
   | some vs,some k=>match Nat.beq k vs.length,Nat.beq sz t.size,Nat.ble (off+vs.length) t.size with
    | true,true,true => .ret (.det [i=j] (.cv undef) [(n,.live (.opn E t xs j (dM cs off vs)))])
    | _,_,_ => .fail
   | _,_ => .fail
  | .live (.row E t xs)=>match hZ y,bH P ty with
   | some vs,some k=>match vs.any vN with
    | true=>match Nat.beq k vs.length,Nat.beq sz t.size,Nat.ble (off+vs.length) t.size with
     | true,true,true => .ret (.det [] (.cv undef) [(n,.live (.opn E t xs i (dM (br t (ck t xs i)) off vs)))])
     | _,_,_ => .fail
    | false=>jM P ty (.eptr n sz i off) y
   | _,_ => .fail
  | _=>jM P ty (.eptr n sz i off) y
 | x=>jM P ty x y
def jb:List SV->Q (List (Nat×Nm))
 | [] => .ret []
 | .own n _::r => .ask n fun
  | .live (.opn E t xs i cs)=>(cl t cs).bind fun p=>match p.2.1,iF n p.2.2 with
   | [],true => .ret ((n,.live (.row E t (xs.set i p.1)))::p.2.2)
   | _,_ => .fail
  | _=>jb r
 | _::r=>jb r
def pb(P:Program)(ty:TypeId)(x:SV):Q Dl:=match x with
 | .ptr n off => .ask n fun
  | .live (.cells _ cs)=>match dI P ty cs off with
   | some v=>(jb cs).bind fun u=>.ret (.det [] v u)
   | none => .fail
  | _ => .fail
 | _ => .fail
section
variable {P:Program} {w0:World} {N0:bt} {A:Nat->Prop} {env:ah} {h:aC} {w:World} {o:Oper} {a:Act} {ρ:Nat->SV} {d:Dl} {r:List Nat}
theorem nM{i n k:Nat}(h:i<n):i*k+k<=n*k:=by
 have:(i+1)*k<=n*k:=Nat.mul_le_mul_right _ (by omega)
 rw[Nat.add_mul,Nat.one_mul] at this;exact this
theorem vQ{k:Nat}{len:Nat×Nat}{E:TypeId}{t:CT}{xs:List t.D}(hr:dH A w k len E t xs){i:Nat}(hi:i<len.2) :
  cE A env w k len (.opn E t xs i (br t (ck t xs i))):=by
 obtain⟨vs,hl,hc,hd⟩:=gS (env:=env) t (ck t xs i) _ _ (jV hr hi)
 obtain⟨us,cap,hh,h1,h2,h3,h4,h5⟩:=hr
 refine⟨us,cap,vs,hh,h1,h2,h3,h4,hi,hl,fun q hq=>?_,hd,fun j hj _=>h5 j hj⟩
 have:=hc q hq
 rw[cell_of_row w k _ us E (0,0) hh] at this
 exact this
theorem wB{A':Nat->Prop}(hA:∀ b,A b->A' b){k:Nat}{len:Nat×Nat}{E:TypeId}{t:CT}{xs:List t.D}{i:Nat}{cs:List SV}(hb:cE A env w k len (.opn E t xs i cs)){d:t.D}
  (hd:∀ es:List Value,es.length=t.size->ab A env w cs es->Rd A' w t (fun j=>es[j]?) 0 d):dH A' w k len E t (xs.set i d):=by
 obtain⟨us,cap,es,hh,h1,h2,h3,h4,h5,h6,h7,h8,h9⟩:=hb
 refine⟨us,cap,hh,h1,by simpa using h2,h3,h4,fun j hj=>?_⟩
 have hj':j<xs.length:=by simpa using hj
 rw[List.getElem_set]
 split
 ·rename_i e
  subst e
  have:=jt (hd es h6 h8) (len.1+i*t.size)
  rw[Nat.zero_add] at this
  refine bP (fun _ h=>h) (fun _ _ _=>rfl) t _ _ _ _ (fun q hq=>?_) this
  show us[len.1+i*t.size+q]? = es[len.1+i*t.size+q-(len.1+i*t.size)]?
  rw[h7 q hq];congr 1;omega
 ·rename_i e
  exact bP hA (fun _ _ _=>rfl) t _ _ _ _ (fun _ _=>rfl) (h9 j hj' (fun h=>e h.symm))
theorem wA(m:ar w0 N0 A env h w){ty:TypeId}{x:Operand}(φ:Operand->SV)(dx:aa A env w (φ x) (a.eval x))(ho:o.op = .load ty x)
  (e:(pv P ty (φ x)).run h=some (d,r)) (hp:ax d.pre):ao P o a w0 N0 A env h w d:=by
 have go:∀{b off:Nat}{v:Value},a.eval x = .pointer (some ⟨b,off,none⟩)->(loadVar ty ⟨b,off,none⟩).run P w = .ok v w->(execOp a.eval o).run P w = .ok (.value v) w:=by
  intro b off v ev hr
  unfold execOp;rw[ho]
  simp only[ev,Instr.loadAt,Instr.sureAddr,Sem.run_bind,Sem.run_pure,Result.andThen_ok,hr]
 unfold pv at e
 split at e
 ·rename_i n sz i off hx
  have dx':=dx
  rw[hx] at dx;simp only[aa] at dx
  obtain⟨b,l,he,hil,ev⟩:=dx
  simp only[Q.run] at e
  split at e
  ·rename_i p q hk
   simp only[Option.some.injEq,Prod.mk.injEq] at e
   obtain⟨rfl,rfl⟩:=e
   split at hk
   ·rename_i E t xs j cs hl
    split at hk
    ·rename_i v hsz e1
     have hsz:sz=t.size:=Nat.eq_of_beq_eq_true hsz
     subst hsz
     cases aF hk
     have hij:i=j:=hp.1
     subst hij
     obtain⟨us,cap,es,hh,h1,h2,h3,h4,h5,h6,h7,h8,h9⟩:=(m.live_blk hl he).1
     obtain⟨v,hr,hv⟩:=kC (o:=l.1+i*t.size) (k:=b) e1 h8 (fun j hj=>by rw[cell_of_row w b _ us E (0,0) hh];exact h7 j (by omega))
     rw[Nat.add_assoc] at hr
     exact ao.pure m (go ev hr) hv
    ·cases hk
   ·exact qj m φ dx' ho (by rw[hx];exact hk)
  ·cases e
 ·exact qj m φ dx ho e
theorem qN(m:ar w0 N0 A env h w){b0:cK}{mm b:Nat}{l:Nat×Nat}(hl:h mm = .live b0)(hm0:b0.mut=true)(he:env mm = .blk b l){E:TypeId}{t:CT}{xs:List t.D}{i off:Nat}{cs vs:List SV}
  (hb:cE A env w b l (.opn E t xs i cs)) {ty:TypeId} {v:Value} (dv:ab A env w vs v.cells.toList) (h1:∀ u∈v.cells.toList,u.oneCell'=true) (hsz:bH P ty=some v.cells.size) (hle:off+vs.length<=t.size) :
  ∃ w',(storeVar ty ⟨b,l.1+i*t.size+off,none⟩ v).run P w = .ok () w'∧bz w0 N0 A env h w (.det [] (.cv undef) [(mm,.live (.opn E t xs i (dM cs off vs)))]) undef w':=by
 obtain⟨us,cap,es,hh,hus,hxl,hlc,hcm,hi,hes,hec,hed,hrd⟩:=hb
 have hlv:=cd dv
 have hsv:v.cells.size=vs.length:=by rw[← Array.length_toList,hlv]
 have hpos:l.1+i*t.size+t.size<=us.size:=by
  rw[hus]
  have:=nM (k:=t.size) (Nat.lt_of_lt_of_le hi hlc)
  omega
 have hfit:l.1+i*t.size+off+v.cells.size<=us.size:=by omega
 have hrun:=pS hh hsz hfit h1
 refine⟨_,hrun,?_⟩
 have c:=aO.setRow w b us (us.toList.take (l.1+i*t.size+off)++v.cells.toList++us.toList.drop (l.1+i*t.size+off+v.cells.size)).toArray E hh
  (by simp only[List.size_toArray,List.length_append,List.length_take,List.length_drop,Array.length_toList];omega)
 have x:aS A env w A env (w.setRow b (us.toList.take (l.1+i*t.size+off)++v.cells.toList++us.toList.drop (l.1+i*t.size+off+v.cells.size)).toArray) :=
  ⟨fun _ h=>h,fun _ _ _ h=>h,fun _ h=>h,fun _ _ _ h=>h,fun b' o' hb'=>World.cell?_of_block (a:=⟨b',o',none⟩) (c.blk b' (m.Alt b' hb') (fun e'=>(m.live_blk hl he).2 hm0 (e'▸hb'))),c.shape⟩
 have cellAt:∀ p,(us.toList.take (l.1+i*t.size+off)++v.cells.toList++us.toList.drop (l.1+i*t.size+off+v.cells.size)).toArray[p]? =
   if p<l.1+i*t.size+off then us[p]? else if p<l.1+i*t.size+off+vs.length then v.cells[p-(l.1+i*t.size+off)]? else us[p]? := by
  intro p
  rw[List.getElem?_toArray,List.append_assoc,List.getElem?_append]
  simp only[List.length_take,Array.length_toList]
  rw[show min (l.1+i*t.size+off) us.size=l.1+i*t.size+off from by omega]
  split
  ·rename_i hp;rw[List.getElem?_take,if_pos hp,Array.getElem?_toList]
  ·rename_i hp
   rw[List.getElem?_append]
   simp only[Array.length_toList,hsv]
   by_cases h2:p<l.1+i*t.size+off+vs.length
   ·rw[if_pos (by omega),if_pos h2,Array.getElem?_toList]
   ·rw[if_neg (by omega),if_neg h2,List.getElem?_drop,Array.getElem?_toList]
    congr 1;omega
 have hblk:cE A env (w.setRow b (us.toList.take (l.1+i*t.size+off)++v.cells.toList++us.toList.drop (l.1+i*t.size+off+v.cells.size)).toArray) b l (.opn E t xs i (dM cs off vs)):=by
  refine⟨_,cap,es.take off++(v.cells.toList++es.drop (off+v.cells.toList.length)),setRow_heap w b us _ E _ hh,?_,hxl,hlc,hcm,hi,?_,fun q hq=>?_,fD x _ _ (jY hed dv),fun j hj hij=>?_⟩
  ·simp only[List.size_toArray,List.length_append,List.length_take,List.length_drop,Array.length_toList];omega
  ·simp only[List.length_append,List.length_take,List.length_drop,Array.length_toList];omega
  ·rw[cellAt]
   have hecq:=hec q hq
   rw[List.getElem?_append]
   simp only[List.length_take,hes]
   rw[show min off t.size=off from by omega]
   by_cases c1:q<off
   ·rw[if_pos (by omega),if_pos c1,List.getElem?_take,if_pos c1,hecq]
   ·rw[if_neg (by omega),if_neg c1,List.getElem?_append]
    simp only[Array.length_toList,hsv]
    by_cases c2:q<off+vs.length
    ·rw[if_pos (by omega),if_pos (by omega),Array.getElem?_toList]
     congr 1;omega
    ·rw[if_neg (by omega),if_neg (by omega),List.getElem?_drop,hecq]
     congr 1;omega
  ·refine bP (fun _ h=>h) x.keep t _ _ _ _ (fun q hq=>?_) (hrd j hj hij)
   rw[cellAt]
   rcases Nat.lt_or_gt_of_ne hij with hlt|hlt
   ·have:=nM (k:=t.size) hlt
    rw[if_pos (by omega)]
   ·have:=nM (k:=t.size) hlt
    rw[if_neg (by omega),if_neg (by omega)]
 have u:=cP.write (b' := .opn E t xs i (dM cs off vs)) m hl hm0 he c hblk rfl
 exact⟨(),A,env,trivial,m.upd u,m.ext u,by simp only[Dl.val,aa]⟩
theorem zT(m:ar w0 N0 A env h w)(f:FD A env w ρ a){ty:TypeId}{x y:Operand}(ho:o.op = .store ty x y)
  (e:(oW P ty (ad ρ x) (ad ρ y)).run h=some (d,r)) (hp:ax d.pre):ao P o a w0 N0 A env h w d:=by
 have dx:=aQ f x
 have dy:=aQ f y
 have go:∀{b off:Nat}{w':World},a.eval x = .pointer (some ⟨b,off,none⟩)->(storeVar ty ⟨b,off,none⟩ (a.eval y)).run P w = .ok () w'→(execOp a.eval o).run P w = .ok .skip w':=by
  intro b off w' ev hr
  unfold execOp;rw[ho]
  simp only[ev,Instr.storeAt,Instr.sureAddr,Sem.run_bind,Sem.run_pure,Result.andThen_ok,hr]
 unfold oW at e
 split at e
 ·rename_i n sz i off hx
  rw[hx] at dx;simp only[aa] at dx
  obtain⟨b,l,he,hil,ev⟩:=dx
  rw[← Nat.add_assoc] at ev
  simp only[Q.run] at e
  split at e
  ·rename_i p q hk
   simp only[Option.some.injEq,Prod.mk.injEq] at e
   obtain⟨rfl,rfl⟩:=e
   split at hk
   ·rename_i E t xs j cs hl
    split at hk
    ·rename_i vs k hc hn
     obtain⟨dv,h1⟩:=kX hc dy
     have hlv:=cd dv
     split at hk
     ·rename_i hb hs1 hle
      have hb:k=vs.length:=Nat.eq_of_beq_eq_true hb
      have hs1:sz=t.size:=Nat.eq_of_beq_eq_true hs1
      have hle:off+vs.length<=t.size:=Nat.le_of_ble_eq_true hle
      subst hs1
      cases aF hk
      have hij:i=j:=hp.1
      subst hij
      have hsz:bH P ty=some (a.eval y).cells.size:=by rw[hn,hb,← hlv,Array.length_toList]
      obtain⟨w',hr,g⟩:=qN m hl rfl he (m.live_blk hl he).1 dv h1 hsz hle
      obtain⟨u,A',env',q1,q2,q3,q4⟩:=g
      exact⟨undef,w',.inr ⟨go ev hr,rfl⟩,u,A',env',q1,q2,q3,q4⟩
     ·cases hk
    ·cases hk
   ·rename_i E t xs hl
    split at hk
    ·rename_i vs k hc hn
     split at hk
     ·obtain⟨dv,h1⟩:=kX hc dy
      have hlv:=cd dv
      split at hk
      ·rename_i hb hs1 hle
       have hb:k=vs.length:=Nat.eq_of_beq_eq_true hb
       have hs1:sz=t.size:=Nat.eq_of_beq_eq_true hs1
       have hle:off+vs.length<=t.size:=Nat.le_of_ble_eq_true hle
       subst hs1
       cases aF hk
       have hsz:bH P ty=some (a.eval y).cells.size:=by rw[hn,hb,← hlv,Array.length_toList]
       obtain⟨w',hr,g⟩:=qN m hl rfl he (vQ (m.live_blk hl he).1 hil) dv h1 hsz hle
       exact⟨undef,w',.inr ⟨go ev hr,rfl⟩,g⟩
      ·cases hk
     ·exact mN m f ho (by rw[hx];exact hk)
    ·cases hk
   ·exact mN m f ho (by rw[hx];exact hk)
  ·cases e
 ·exact mN m f ho e
theorem mv(m:ar w0 N0 A env h w):∀(cs:List SV){u:List (Nat×Nm)}{r:List Nat},(jb cs).run h=some (u,r)→∃ A',ar w0 N0 A' env (aM u h) w/\aS A env w A' env w
 | [],u,r,e=>by
  simp only[jb,Q.run,Option.some.injEq,Prod.mk.injEq] at e
  obtain⟨rfl,rfl⟩:=e
  exact⟨A,m,aS.refl⟩
 | s::cs,u,r,e=>by
  unfold jb at e
  split at e
  ·rename_i hh;cases hh
  ·rename_i n sz rr hh
   cases hh
   simp only[Q.run] at e
   split at e
   ·rename_i p q hk
    simp only[Option.some.injEq,Prod.mk.injEq] at e
    obtain⟨rfl,rfl⟩:=e
    split at hk
    ·rename_i E t xs i es hl
     obtain⟨⟨d',rest,fz⟩,r1,r2,e1,e2,rfl⟩:=Q.run_bind _ _ _ hk
     simp only at e2
     split at e2
     ·rename_i hr hni
      simp only[Q.run,Option.some.injEq,Prod.mk.injEq] at e2
      obtain⟨rfl,rfl⟩:=e2
      have hni:=jx hni
      have hnm:=m.nm n
      rw[hl] at hnm
      rcases hnm with⟨k,l,he,hb,hA⟩|⟨_,E',t',hb⟩
      ·obtain⟨us,cap,ws,hh,hus,hxl,hlc,hcm,hi,hes,hec,hed,hrd⟩:=id hb
       obtain⟨ok,_⟩:=fx m t _ _ d' [] fz r1 e1 hed (A':=bu A env fz) (fun b hb=>.inl hb) (fun k hk'=>.inr hk')
       obtain⟨m2,x2⟩:=m.freeze ok
       have hl2:aM fz h n = .live (.opn E t xs i es):=by rw[db hni];exact hl
       have hrow:dH (bu A env fz) w k l E t (xs.set i d'):=wB (fun b hb=>.inl hb) hb (fun vs hvs hdv =>
        (fx m t _ _ d' [] fz r1 e1 hdv (A':=bu A env fz) (fun b hb=>.inl hb) (fun k hk'=>.inr hk')).2.2.2.1)
       have u:=cP.write (b' := .row E t (xs.set i d')) m2 hl2 rfl he (aO.refl w _) hrow rfl
       exact⟨bu A env fz,m2.upd u,x2.trans (m2.ext u)⟩
      ·rcases hb with hb|hb <;> cases hb
     ·cases e2
    ·exact mv m cs hk
   ·cases e
  ·rename_i hh
   cases hh
   exact mv m cs e
theorem zP(m:ar w0 N0 A env h w){ty:TypeId}{x:Operand}(φ:Operand->SV)(dx:aa A env w (φ x) (a.eval x))(ho:o.op = .load ty x)
  (e:(pb P ty (φ x)).run h=some (d,r)):ao P o a w0 N0 A env h w d:=by
 have go:∀{b off:Nat}{v:Value},a.eval x = .pointer (some ⟨b,off,none⟩)->(loadVar ty ⟨b,off,none⟩).run P w = .ok v w->(execOp a.eval o).run P w = .ok (.value v) w:=by
  intro b off v ev hr
  unfold execOp;rw[ho]
  simp only[ev,Instr.loadAt,Instr.sureAddr,Sem.run_bind,Sem.run_pure,Result.andThen_ok,hr]
 unfold pb at e
 split at e
 ·rename_i n off hx
  rw[hx] at dx;simp only[aa] at dx
  obtain⟨b,l,he,ev⟩:=dx
  simp only[Q.run] at e
  split at e
  ·rename_i p q hk
   simp only[Option.some.injEq,Prod.mk.injEq] at e
   obtain⟨rfl,rfl⟩:=e
   split at hk
   ·rename_i E cs hl
    split at hk
    ·rename_i s e1
     obtain⟨u,r1,r2,e2,e3,rfl⟩:=Q.run_bind _ _ _ hk
     cases aF e3
     obtain⟨⟨vs,hh,hd⟩,_⟩:=m.live_blk hl he
     obtain⟨v,hr,hv⟩:=kC (o:=0) (k:=b) e1 hd (fun j hj=>by rw[cell_of_row w b _ vs E (0,0) hh];simp)
     rw[Nat.zero_add] at hr
     obtain⟨A',m',x'⟩:=mv m cs e2
     exact⟨v,w,.inl (go ev hr),(),A',env,trivial,m',x',gm x' _ _ hv⟩
    ·cases hk
   ·cases hk
  ·cases e
 ·cases e
end
end Go.SX

/- SX, part 13: an array's element; contracts; one step. -/
namespace Go.SX
set_option linter.unusedVariables false
section
variable {P:Program} {w0:World} {N0:bt} {A:Nat->Prop} {env:ah} {h:aC} {w:World} {o:Oper} {a:Act} {ρ:Nat->SV} {d:Dl} {r:List Nat}
theorem kK{k:IntKind}{sz:Nat}(hsz:1<=sz):∀(cs:List SV)(vs:List Value)(s:Nat)(l:List Int),fM k sz cs s=some l->ab A env w cs vs →
  ∀ j,s+j*sz<vs.length->vs[s+j*sz]? = some (.int k (fE l j))/\k.has (fE l j)
 | [],vs,s,l,e,hd,j,hj=>by simp only[ab] at hd;subst hd;simp at hj
 | c::cs,vs,0,l,e,hd,j,hj=>by
  simp only[ab] at hd
  obtain⟨v,r,rfl,hv,hr⟩:=hd
  cases c with
  | int k' n =>
   simp only[fM] at e
   split at e
   ·rename_i l' hk hl
    cases e
    cases cX hk
    simp only[aa] at hv
    cases j with
    | zero=>simp[fE,hv.1,hv.2]
    | succ j =>
     have:=kK hsz cs r (sz-1) l' hl hr j (by simp at hj;rw[Nat.add_mul] at hj;omega)
     have e1:0+(j+1)*sz=(sz-1+j*sz)+1:=by rw[Nat.add_mul];omega
     rw[e1,List.getElem?_cons_succ]
     simpa[fE] using this
   ·cases e
  | _=>simp[fM] at e
 | c::cs,vs,s+1,l,e,hd,j,hj=>by
  simp only[ab] at hd
  obtain⟨v,r,rfl,hv,hr⟩:=hd
  have e':fM k sz cs s=some l:=by cases c <;> simpa[fM] using e
  have:=kK hsz cs r s l e' hr j (by simp at hj;omega)
  rw[show s+1+j*sz=(s+j*sz)+1 from by omega,List.getElem?_cons_succ]
  exact this
theorem xZ(m:ar w0 N0 A env h w)(f:FD A env w ρ a){t:TypeId}{x i:Operand}(ho:o.op = .index t x i)
  (e:(pi P t (ad ρ x) (ad ρ i)).run h=some (d,r)) (hp:ax d.pre):ao P o a w0 N0 A env h w d:=by
 have dx:=aQ f x
 have di:=aQ f i
 unfold pi at e
 split at e
 ·rename_i cs ki iv len E hx hi hu
  rw[hx] at dx;rw[hi] at di
  simp only[aa] at dx di
  obtain⟨vs,ev,dv⟩:=dx
  have hvl:=cd dv
  have exe:∀{v:Value}{n:Nat},bH P E=some n->0<=iv->iv<len->(part E vs (iv.toNat*n)).run P w = .ok v w->(execOp a.eval o).run P w = .ok (.value v) w:=by
   intro v n hn h0 h1 hr
   unfold execOp;rw[ho]
   simp only[Instr.index,di.1,ev,asIntOf,Sem.run_bind,Sem.run_pure,Result.andThen_ok,run_underlying hu,Sem.run_ite,if_pos (And.intro h0 h1),cm hn,hr]
  split at e
  ·rename_i k hE hsz
   split at e
   ·rename_i l hc hb
    have hb:cs.length=len:=Nat.eq_of_beq_eq_true hb
    cases aF e
    simp only[Dl.pre,ax,and_true] at hp
    obtain⟨c1,c2⟩:=kK (Nat.le_refl 1) cs vs.toList 0 l hc dv iv.toNat (by omega)
    refine ao.pure m (exe hsz hp.1 hp.2 (v := .int k (fE l iv.toNat)) ?_) (by simp only[aa];exact⟨trivial,c2⟩)
    have ha:iz P E=some false:=by unfold iz;rw[hE]
    have c1':vs[iv.toNat]? = some (.int k (fE l iv.toNat)):=by rw[← Array.getElem?_toList];simpa using c1
    unfold part
    simp[Sem.run_bind,kz ha w,c1']
   ·cases e
  ·rename_i E2 hE hsz
   split at e
   ·rename_i k hE2 hsz2
    split at e
    ·rename_i l1 l2 hc1 hc2 hb
     have hb:cs.length=len*2:=Nat.eq_of_beq_eq_true hb
     cases aF e
     simp only[Dl.pre,ax,and_true] at hp
     obtain⟨c1,c2⟩:=kK (by decide) cs vs.toList 0 l1 hc1 dv iv.toNat (by omega)
     obtain⟨c3,c4⟩:=kK (by decide) cs vs.toList 1 l2 hc2 dv iv.toNat (by omega)
     have ha:iz P E=some true:=by unfold iz;rw[hE]
     refine ao.pure m (exe hsz hp.1 hp.2 (v := .agg (vs.extract (iv.toNat*2) (iv.toNat*2+2))) ?_) ?_
     ·unfold part
      simp[Sem.run_bind,kz ha w,cm hsz w]
     ·simp only[aa,ab]
      have hex:(vs.extract (iv.toNat*2) (iv.toNat*2+2)).toList=[.int k (fE l1 iv.toNat),.int k (fE l2 iv.toNat)]:=by
       apply List.ext_getElem?
       intro j
       simp only[Array.toList_extract,List.extract_eq_take_drop,List.getElem?_take,List.getElem?_drop]
       rw[Nat.zero_add] at c1
       rcases j with _|_|j
       ·rw[if_pos (by omega),Nat.add_zero,c1];rfl
       ·rw[if_pos (by omega),Nat.zero_add,Nat.add_comm,c3];rfl
       ·rw[if_neg (by omega)];simp
      exact⟨_,rfl,_,_,hex,⟨rfl,c2⟩,_,_,rfl,⟨rfl,c4⟩,rfl⟩
    ·cases e
   ·cases e
  ·cases e
 ·cases e
theorem BD(m:ar w0 N0 A env h w)(f:FD A env w ρ a){g:FuncId}{caps:Array Operand}(ho:o.op = .makeFunc (.func g) #[] caps){pre:List Prop} :
  ao P o a w0 N0 A env h w (.det pre (.fn g (caps.toList.map (ad ρ))) []):=by
 refine ao.pure m (v := .func (.func g) #[] (caps.map a.eval)) ?_ ?_
 ·unfold execOp;rw[ho]
  simp[Instr.makeFunc]
 ·simp only[aa]
  refine⟨_,rfl,?_⟩
  rw[Array.toList_map]
  generalize caps.toList=l
  induction l with
  | nil=>simp[ab]
  | cons p l ih=>simp only[List.map_cons,ab];exact⟨_,_,rfl,aQ f p,ih⟩
theorem th(m:ar w0 N0 A env h w)(f:FD A env w ρ a){x:Operand}(ho:o.op = .move x∨o.op = .assign x){pre:List Prop} :
  ao P o a w0 N0 A env h w (.det pre (ad ρ x) []):=by
 refine ao.pure m (v:=a.eval x) ?_ (aQ f x)
 unfold execOp
 rcases ho with ho|ho <;> rw[ho] <;> rfl
end
abbrev Spec:=Nat->List SV->Q Dl
def aL(P:Program)(G:fU)(f:FuncId)(s:Spec):Prop :=
 ∀(base:Nat)(svs:List SV)(h:aC)(d:Dl)(r:List Nat),(s base svs).run h=some (d,r)->ax d.pre →
  ∀(w0:World)(N0:bt)(A:Nat->Prop)(env:ah)(w:World)(vs:List Value),N0.g=G->ar w0 N0 A env h w->ab A env w svs vs →
   Calls P f vs.toArray w (fun e w'=>∃ v,e = .returned v/\bz w0 N0 A env h w d v w')
def uQ(P:Program)(f:FuncId):Bool:=match P.funcs[f]? with
 | some fn => !(fn.name == "runtime.NumGoroutine") && fn.body.isSome
 | none=>false
structure ba where
 fn:FuncId->Option Spec
 gl:fU
def ce(P:Program)(sp:ba):Prop:=∀ f s,sp.fn f=some s->aL P sp.gl f s
def pE(P:Program)(sp:ba)(base:Nat)(f:SV)(args:List SV):Q Dl:=match f with
 | .fn g caps=>match uQ P g,sp.fn g with
  | true,some s=>s base (args++caps)
  | _,_ => .fail
 | _ => .fail
def rf(dst:Option Tmp):Nat:=match dst with
 | some d=>(d+1)*16
 | none=>0
def oU(P:Program)(dst:Option Tmp)(b:Builtin)(args:List SV)(ts:List TypeId):Q Dl:=match b,args,ts with
 | .len,[x],[t]=>d8 P t x
 | .append,[s,x],[t,t']=>match Nat.beq t t',dst with
  | true,some d=>ld P t ((d+1)*16) s x
  | false,some d=>oQ P t t' ((d+1)*16) s x
  | _,none => .fail
 | .cap,[x],[t]=>gY P t x
 | .min,[x,y],_=>pM x y
 | .max,[x,y],_=>qc x y
 | _,_,_ => .fail
def wO(sp:ba):Option Tmp->Option Nat
 | some d=>match sp.fn (4000000000+d) with
  | some _=>some d
  | none=>none
 | none=>none
def xL(sp:ba):Option Tmp->Bool
 | some d=>match sp.fn (4100000000+d) with
  | some _=>true
  | none=>false
 | none=>false
def uv(sp:ba):Bool:=match sp.fn 4200000000 with
 | some _=>true
 | none=>false
def yR(sp:ba):Option Tmp->Bool
 | some d=>match sp.fn (4300000000+d) with
  | some _=>true
  | none=>false
 | none=>false
def wG(sp:ba):Option Tmp->Option Nat
 | some d=>match sp.fn (4400000000+d) with
  | some s=>match s 0 [] with
   | .ask n _=>some n
   | _=>none
  | none=>none
 | none=>none
def wD(n:Nat)(x:SV):Q Dl:=(jb [.own n 0]).bind fun u=>.ret (.det [] x u)
def Bj(sp:ba):Option Tmp->Bool
 | some d=>match sp.fn (4500000000+d) with
  | some _=>true
  | none=>false
 | none=>false
def p9(x:SV):Q Dl:=match x with
 | .own n sz => .ask n fun
  | .live (.row E u xs)=>match Nat.beq sz u.size with
   | true => .ret (.det [] (.dsl u xs) [(n,.live (.frz E u xs))])
   | false => .fail
  | _ => .fail
 | .dsl t xs=>aB (.dsl t xs)
 | _ => .fail
def zU(sp:ba):Option Tmp->Bool
 | some d=>match sp.fn (4700000000+d) with
  | some _=>true
  | none=>false
 | none=>false
def pG(P:Program)(t:TypeId)(x:SV)(lo hi mx:Option SV):Q Dl:=match fm P t,x,mx with
 | some (_,sz),.own n sz',none => .ask n fun
  | .live (.row _ u xs)=>match Nat.beq sz u.size,Nat.beq sz' u.size,dR lo 0,dR hi xs.length with
   | true,true,some l,some hh => .ret (.det [0<=l,l<=hh,hh<=xs.length] (.part n sz' l.toNat (hh.toNat-l.toNat)) [])
   | _,_,_,_ => .fail
  | _ => .fail
 | _,_,_ => .fail
def oP(P:Program)(s t e:TypeId)(x:SV):Q Dl:=match Nat.beq s t,P.underlying e,x with
 | true,some (.int .u8),.own n sz => .ask n fun
  | .live (.row _ u xs)=>match Nat.beq sz u.size with
   | true => .ret (.det [1<=xs.length] (.dsl u xs) [(n,.dead)])
   | false => .fail
  | _ => .fail
 | _,_,_ => .fail
def dm(sp:ba)(ρ:Nat->SV)(x:Operand):SV:=match x with
 | .global g=>match sp.gl g with
  | some y => .dptr y.1 y.2 0
  | none => .gl g
 | x=>ad ρ x
def pg(P:Program)(t:TypeId)(x i:SV):Q Dl:=match x,i,P.underlying t with
 | .agg cs,.int _ i,some (.array len e)=>match bH P e,decide (0<=i)&&decide (i<len) with
  | some n,true=>ij (dI P e cs (i.toNat*n))
  | _,_ => .fail
 | _,_,_ => .fail
def iM(P:Program)(sp:ba)(o:Oper)(ρ:Nat->SV):Q Dl :=
 match o.op with
 | .move x=>match Bj sp o.dst with
  | true=>p9 (ad ρ x)
  | false=>aB (ad ρ x)
 | .assign x=>match wG sp o.dst with
  | some n=>wD n (ad ρ x)
  | none=>aB (ad ρ x)
 | .pick c x y=>oC (ad ρ c) (ad ρ x) (ad ρ y)
 | .alloc E=>match o.dst with
  | some d=>j6 E ((d+1)*16) (zeroCells P E)
  | none => .fail
 | .box E x=>match o.dst with
  | some d=>j6 E ((d+1)*16) (hZ (ad ρ x))
  | none => .fail
 | .build t ps=>qg P t (ps.toList.map fun p=>(p.1,ad ρ p.2))
 | .buildSlice t n ps=>match o.dst with
  | some d=>oL P t n ((d+1)*16) (ps.toList.map fun p=>(p.1,ad ρ p.2))
  | none => .fail
 | .load t x=>match uv sp,yR sp o.dst with
  | true,true=>pb P t (dm sp ρ x)
  | true,false=>pv P t (dm sp ρ x)
  | false,_=>kv P t (dm sp ρ x)
 | .store t x y=>match uv sp with
  | true=>oW P t (ad ρ x) (ad ρ y)
  | false=>jM P t (ad ρ x) (ad ρ y)
 | .nilCheck x=>oF (ad ρ x)
 | .binOp op t x y _=>match P.underlying t with
  | some .string=>qm op (ad ρ x) (ad ρ y)
  | _=>pD P op t (ad ρ x) (ad ρ y)
 | .unOp op _ x=>oA op (ad ρ x)
 | .convert s t x=>match P.underlying t with
  | some .string=>n7 P s (ad ρ x)
  | some (.slice e)=>oP P s t e (ad ρ x)
  | _=>nQ P s t (ad ρ x)
 | .makeFunc (.func g) fs caps=>match fs.isEmpty with
  | true=>aB (.fn g (caps.toList.map (ad ρ)))
  | false => .fail
 | .makeSlice t l c=>match o.dst with
  | some d=>nG P t ((d+1)*16) (ad ρ l) (ad ρ c)
  | none => .fail
 | .slice t x lo hi mx=>match zU sp o.dst with
  | true=>pG P t (ad ρ x) (lo.map (ad ρ)) (hi.map (ad ρ)) (mx.map (ad ρ))
  | false=>match wO sp o.dst with
   | some d=>oY P t ((d+1)*16) (ad ρ x) (lo.map (ad ρ)) (hi.map (ad ρ)) (mx.map (ad ρ))
   | none=>pB P t (ad ρ x) (lo.map (ad ρ)) (hi.map (ad ρ)) (mx.map (ad ρ))
 | .fieldAddr s x f=>o7 P s f (ad ρ x)
 | .field s x f=>ol P s f (ad ρ x)
 | .indexAddr t x i=>match P.underlying t with
  | some (.array _ _)=>n5 P t (dm sp ρ x) (ad ρ i)
  | _=>pK P t (ad ρ x) (ad ρ i)
 | .index t x i=>match xL sp o.dst with
  | true=>pg P t (ad ρ x) (ad ρ i)
  | false=>pi P t (ad ρ x) (ad ρ i)
 | .extract x i=>qq i (ad ρ x)
 | .makeMap t none=>match o.dst with
  | some d=>pm P t ((d+1)*16)
  | none => .fail
 | .lookup t x i true=>pN P t (ad ρ x) (ad ρ i)
 | .mapUpdate t x i y=>p8 P t (ad ρ x) (ad ρ i) (ad ρ y)
 | .call {callee := .builtin b,args,argTypes}=>oU P o.dst b (args.toList.map (ad ρ)) argTypes.toList
 | .call {callee := .value f,args,..}=>pE P sp (rf o.dst) (ad ρ f) (args.toList.map (ad ρ))
 | _ => .fail
def BY(sp:ba):Option Tmp->Option (Nat×Nat)
 | some d=>match sp.fn (4600000000+d) with
  | some s=>match s 0 [] with
   | .ask p k=>match k .un with
    | .ask off _=>some (p,off)
    | _=>none
   | _=>none
  | none=>none
 | none=>none
def qd(p off nm:Nat):Q (List Prop×List (Nat×Nm)) := .ask p fun
 | .live (.cells E cs)=>match cs[off]? with
  | some (.part n sz lo len) => .ask n fun
   | .live (.row E' u xs)=>match Nat.beq sz u.size with
    | true => .ask nm fun
     | .un => .ret ([lo+len=xs.length],[(p,.live (.cells E (dM cs off [.own nm u.size]))),(nm,.live (.row E' u (xs.drop lo))),(n,.dead)])
     | _ => .fail
    | false => .fail
   | _ => .fail
  | _ => .fail
 | _ => .fail
def iK(P:Program)(sp:ba)(o:Oper)(ρ:Nat->SV):Q Dl:=match BY sp o.dst with
 | none=>iM P sp o ρ
 | some (p,off)=>(iM P sp o ρ).bind fun dl=>match dl with
  | .det pre v []=>(qd p off (rf o.dst)).bind fun x=>.ret (.det (pre++x.1) v x.2)
  | _ => .fail
section
variable {P:Program} {sp:ba} {w0:World} {N0:bt} {A:Nat->Prop} {env:ah} {h:aC} {w:World} {o:Oper} {a:Act} {ρ:Nat->SV} {d:Dl} {r:List Nat}
def jT(P:Program)(o:Oper)(a:Act)(w0:World)(N0:bt)(A:Nat->Prop)(env:ah)(h:aC)(w:World)(d:Dl):Prop :=
 ∀(K:Act->World->Prop)(Q':Exit->Act->World->Prop),(∀ v w',bz w0 N0 A env h w d v w'→K (a.put o.dst v) w')->o.wp P a w K Q'
theorem ao.steps(y:ao P o a w0 N0 A env h w d):jT P o a w0 N0 A env h w d:=by
 intro K Q' hK
 obtain⟨v,w',hr,g⟩:=y
 unfold Oper.wp
 rcases hr with hr|⟨hr,rfl⟩ <;> rw[hr]
 ·exact hK _ _ g
 ·exact hK _ _ g
theorem A6(f:FD A env w ρ a)(xs:Array Operand):ab A env w (xs.toList.map (ad ρ)) (xs.map a.eval).toList:=by
 rw[Array.toList_map]
 generalize xs.toList=l
 induction l with
 | nil=>simp[ab]
 | cons p l ih=>simp only[List.map_cons,ab];exact⟨_,_,rfl,aQ f p,ih⟩
theorem lZ(hg:N0.g=sp.gl)(m:ar w0 N0 A env h w)(f:FD A env w ρ a)(x:Operand):aa A env w (dm sp ρ x) (a.eval x):=by
 cases x with
 | global g =>
  simp only[dm]
  cases hy:sp.gl g with
  | none=>simp only[aa,Act.eval]
  | some y =>
   obtain⟨h1,h2⟩:=m.gl g y (by rw[hg];exact hy)
   simp only[aa,Act.eval]
   exact⟨g,0,rfl,h1,h2⟩
 | tmp t=>simp only[dm];exact aQ f _
 | const v=>simp only[dm];exact aQ f (.const v)
 | func v=>simp only[dm];exact aQ f (.func v)
theorem xN(m:ar w0 N0 A env h w)(f:FD A env w ρ a){x:Operand}(ho:o.op = .move x)(e:(p9 (ad ρ x)).run h=some (d,r)):ao P o a w0 N0 A env h w d:=by
 have dx:=aQ f x
 have exe:(execOp a.eval o).run P w = .ok (.value (a.eval x)) w:=by unfold execOp;rw[ho];rfl
 unfold p9 at e
 split at e
 ·rename_i n sz hx
  rw[hx] at dx;simp only[aa] at dx
  simp only[Q.run] at e
  split at e
  ·rename_i p q hk
   simp only[Option.some.injEq,Prod.mk.injEq] at e
   obtain⟨rfl,rfl⟩:=e
   split at hk
   ·rename_i E u xs hl
    split at hk
    ·rename_i h1
     have h1:=Nat.eq_of_beq_eq_true h1
     cases aF hk
     have ok:dQ h [(n,.live (.frz E u xs))]:=by
      intro n' b hb
      simp only[List.mem_singleton,Prod.mk.injEq] at hb
      obtain⟨rfl,rfl⟩:=hb
      exact⟨E,u,xs,hl,rfl⟩
     obtain⟨m2,x2⟩:=m.freeze ok
     refine⟨a.eval x,w,.inl exe,(),_,env,trivial,m2,x2,?_⟩
     show aa _ env w (.dsl u xs) (a.eval x)
     simp only[aa]
     rcases dx with⟨hnil,pa,ev⟩|⟨b,len,E2,c,hb,hsh,ev⟩
     ·have hx0:xs=[]:=by
       have:=m.nm n
       rw[hl] at this
       rcases this with⟨k',l',he',_⟩|⟨_,E3,t3,hb⟩
       ·rw[hnil] at he';cases he'
       ·rcases hb with hb|hb <;> cases hb;rfl
      subst hx0
      exact⟨by simp,.inl ⟨⟨pa,ev⟩,rfl⟩⟩
     ·have hs:aM [(n,Nm.live (cK.frz E u xs))] h n = .live (.frz E u xs):=by simp[aM]
      have hbd:=(m2.live_blk hs hb).1
      rw[ev,h1]
      exact mV (fun _ h=>h) hbd.2 hbd.1 hsh
    ·cases hk
   ·cases hk
  ·cases e
 ·rename_i t xs hx
  rw[hx] at dx
  unfold aB at e
  cases aF e
  exact ao.pure m exe dx
 ·cases e
theorem wF(m:ar w0 N0 A env h w)(f:FD A env w ρ a){s t E2:TypeId}{x:Operand}(ho:o.op = .convert s t x)(ht:P.underlying t=some (.slice E2))
  (e:(oP P s t E2 (ad ρ x)).run h=some (d,r)) (hp:ax d.pre):ao P o a w0 N0 A env h w d:=by
 have dx:=aQ f x
 unfold oP at e
 split at e
 case h_2=>cases e
 rename_i n sz hst hu hx
 have hst:=Nat.eq_of_beq_eq_true hst
 subst hst
 rw[hx] at dx;simp only[aa] at dx
 simp only[Q.run] at e
 split at e
 case h_2=>cases e
 rename_i p q hk
 simp only[Option.some.injEq,Prod.mk.injEq] at e
 obtain⟨rfl,rfl⟩:=e
 split at hk
 case h_2=>cases hk
 rename_i E' u xs hl
 split at hk
 case h_2=>cases hk
 rename_i h1
 have h1:=Nat.eq_of_beq_eq_true h1
 subst h1
 cases aF hk
 simp only[Dl.pre,ax,and_true] at hp
 rcases dx with⟨hnil,_⟩|⟨b,l,E3,c,hb,hsh,ev⟩
 ·exfalso
  have:=m.nm n
  rw[hl] at this
  rcases this with⟨k',l',he',_⟩|⟨_,E3,t3,hb⟩
  ·rw[hnil] at he';cases he'
  ·rcases hb with hb|hb <;> cases hb;simp at hp
 ·obtain⟨cur,cap,hh,hcs,hxl,hlc,hcm,hrd⟩:=(m.live_blk hl hb).1
  have hw:∀ k,(w.freeze ⟨b,k,none⟩ 1).heap=w.heap.modify b (fun o=>match o with | .cells c ck (lo,hi) => .cells c ck (if lo == hi then (k,k+1) else (min lo k,max hi (k+1)))|o=>o):=fun k=>rfl
  generalize hW:w.freeze ⟨b,c,none⟩ 1=w' at *
  have hheap:w'.heap=w.heap.modify b (fun o=>match o with | .cells c' ck (lo,hi) => .cells c' ck (if lo == hi then (c,c+1) else (min lo c,max hi (c+1)))|o=>o):=by rw[← hW];exact hw c
  have hcell:∀ k o,w'.cell? ⟨k,o,none⟩=w.cell? ⟨k,o,none⟩:=fun k o=>by
   unfold World.cell?
   rw[hheap,Array.getElem?_modify]
   by_cases hkb:b=k
   ·subst hkb;rw[if_pos rfl,hh];rfl
   ·rw[if_neg hkb]
  have hshape:∀ k,w'.shape? k=w.shape? k:=fun k=>by
   unfold World.shape?
   rw[hheap,Array.getElem?_modify]
   by_cases hkb:b=k
   ·subst hkb;rw[if_pos rfl,hh];rfl
   ·rw[if_neg hkb]
  have cg:aO w w' fun j=>j=b:=⟨by rw[← hW];rfl,by rw[← hW];rfl,by rw[← hW];rfl,by rw[hheap];simp,fun k _ hk=>by rw[hheap,Array.getElem?_modify,if_neg (fun e=>hk e.symm)],fun k s hs=>by rw[hshape];exact hs⟩
  have hbl:b<w.heap.size:=(Array.getElem?_eq_some_iff.1 hh).1
  have up:cP (fun k=>k=n) (fun j=>j=b) A env h w (fun k=>A k∨k=b) env (aM [(n,Nm.dead)] h) w':=by
   refine⟨cg,?_,fun _ h=>.inl h,?_,fun _ _=>rfl,fun _ _=>rfl,fun k hk=>by rw[db (by simpa using hk)],?_,?_,?_⟩
   ·rintro _ rfl;exact⟨n,_,l,rfl,hl,rfl,hb⟩
   ·rintro k (hk|rfl)
    ·exact .inl hk
    ·exact .inr ⟨.inr ⟨n,_,l,rfl,hl,rfl,hb⟩,Nat.lt_of_lt_of_le hbl cg.size⟩
   ·rintro _ rfl;simp[aM,lM]
   ·rintro _ b' k' l' rfl h2;simp[aM] at h2
   ·rintro _ _ b' _ k' l' _ rfl rfl h2;simp[aM] at h2
  refine⟨a.eval x,w',.inl ?_,(),_,env,trivial,m.upd up,m.ext up,?_⟩
  ·unfold execOp;rw[ho]
   simp only[ev,convert,Sem.run_bind,run_underlying ht,Result.andThen_ok]
   simp[run_underlying hu,markStringish,hsh,hW]
  ·show aa _ env w' (.dsl u xs) (a.eval x)
   simp only[aa]
   rw[ev]
   have hcc:c=cur.size:=by
    unfold World.shape? at hsh;rw[hh] at hsh
    simp only[Option.some.injEq,Prod.mk.injEq] at hsh;exact hsh.2.symm
   have hcap:(c-l.1)/u.size=cap:=by rw[hcc,hcs,Nat.add_sub_cancel_left];exact Nat.mul_div_cancel _ u.size_pos
   rw[hcap,← hxl]
   refine⟨by omega,.inr ⟨b,l.1,cap,rfl,by omega,hcm,.inr rfl,fun i hi=>?_⟩⟩
   refine bP (fun _ h=>.inl h) (fun _ _ _=>hcell _ _) u _ _ _ _ (fun j _=>?_) (hrd i hi)
   rw[hcell,cell_of_row w b _ cur E' (0,0) hh]
theorem wV(m:ar w0 N0 A env h w)(f:FD A env w ρ a){t:TypeId}{x:Operand}{lo hi mx:Option Operand}(ho:o.op = .slice t x lo hi mx)
  (e:(pG P t (ad ρ x) (lo.map (ad ρ)) (hi.map (ad ρ)) (mx.map (ad ρ))).run h=some (d,r)) (hp:ax d.pre):ao P o a w0 N0 A env h w d:=by
 have dx:=aQ f x
 unfold pG at e
 split at e
 case h_2=>cases e
 rename_i E sz n sz' he hx hmx
 obtain⟨hu,hsz⟩:=gT he
 have hmx':mx=none:=by cases mx <;> simp_all
 subst hmx'
 rw[hx] at dx;simp only[aa] at dx
 simp only[Q.run] at e
 split at e
 case h_2=>cases e
 rename_i p q hk
 simp only[Option.some.injEq,Prod.mk.injEq] at e
 obtain⟨rfl,rfl⟩:=e
 split at hk
 case h_2=>cases hk
 rename_i E' u xs hl
 split at hk
 case h_2=>cases hk
 rename_i l hh h1 h2 hb1 hb2
 have h1:=Nat.eq_of_beq_eq_true h1
 have h2:=Nat.eq_of_beq_eq_true h2
 cases aF hk
 simp only[Dl.pre,ax,and_true] at hp
 obtain⟨p1,p2,p3⟩:=hp
 have exe:∀{p:Option Addr}{cap:Nat},a.eval x = .slice p xs.length cap->xs.length<=cap →
   (execOp a.eval o).run P w = .ok (.value (.slice (if cap=l.toNat then p else p.map (·.add (l.toNat*sz))) (hh.toNat-l.toNat) (cap-l.toNat))) w:=by
  intro p cap ev hle
  unfold execOp;rw[ho]
  have hb:=lU (P:=P) (w:=w) xs.length cap (lo.map a.eval) (hi.map a.eval) none l.toNat hh.toNat cap (.inl ⟨rfl,rfl⟩)
   (by rcases hV f hb2 with⟨rfl,e1⟩|⟨k,y,rfl,e1⟩
       ·exact .inl ⟨rfl,rfl,by omega⟩
       ·exact .inr ⟨k,hh,by simp[e1],by omega,by omega,rfl⟩)
   (by rcases hV f hb1 with⟨rfl,e1⟩|⟨k,y,rfl,e1⟩
       ·exact .inl ⟨rfl,by omega⟩
       ·exact .inr ⟨k,l,by simp[e1],by omega,by omega,rfl⟩)
  simp only[Option.map_none,Instr.sliceAt,Instr.slice,Sem.run_bind,run_underlying hu,Result.andThen_ok,ev,hb,cm hsz,Sem.run_pure]
 rcases dx with⟨hnil,pa,ev⟩|⟨b,⟨β,len⟩,E2,c,hb,hsh,ev⟩
 ·have hx0:xs=[]:=by
   have:=m.nm n
   rw[hl] at this
   rcases this with⟨k',l',he',_⟩|⟨_,E3,t3,hb⟩
   ·rw[hnil] at he';cases he'
   ·rcases hb with hb|hb <;> cases hb;rfl
  subst hx0
  have hz:hh.toNat-l.toNat=0:=by simp at p3;omega
  refine ao.pure m (exe ev (by simp)) ?_
  simp only[aa]
  exact .inl ⟨hz,_,by rw[hz,show 0-l.toNat=0 by omega]⟩
 ·obtain⟨cur,cap,hhp,hcs,hxl,hlc,hcm,hrd⟩:=(m.live_blk hl hb).1
  simp only at hcs hxl hlc ev
  have hcc:c=cur.size:=by
   unfold World.shape? at hsh;rw[hhp] at hsh
   simp only[Option.some.injEq,Prod.mk.injEq] at hsh;exact hsh.2.symm
  have hcap:(c-β)/sz'=cap:=by rw[hcc,hcs,h2,Nat.add_sub_cancel_left];exact Nat.mul_div_cancel _ u.size_pos
  rw[hcap,← hxl] at ev
  refine ao.pure m (exe ev (by omega)) ?_
  simp only[aa]
  by_cases hm:cap=l.toNat
  ·rw[if_pos hm]
   have hz:hh.toNat-l.toNat=0:=by omega
   exact .inl ⟨hz,_,by rw[hz,hm,Nat.sub_self]⟩
  ·rw[if_neg hm]
   refine .inr ⟨b,(β,len),E2,c,hb,by simp only;omega,hsh,?_⟩
   rw[hcap]
   simp only[Option.map_some,Addr.add_lit,h1,h2]
theorem yD(m:ar w0 N0 A env h w)(f:FD A env w ρ a){t:TypeId}{x i:Operand}(ho:o.op = .index t x i)
  (e:(pg P t (ad ρ x) (ad ρ i)).run h=some (d,r)):ao P o a w0 N0 A env h w d:=by
 have dx:=aQ f x
 have di:=aQ f i
 unfold pg at e
 split at e
 ·rename_i cs ki iv len E hx hi hu
  rw[hx] at dx;rw[hi] at di
  simp only[aa] at dx di
  obtain⟨vs,ev,dv⟩:=dx
  split at e
  ·rename_i n hn hb
   simp only[Bool.and_eq_true,decide_eq_true_eq] at hb
   obtain⟨sv,e1,rfl⟩:=je e
   obtain⟨v,hr,hd⟩:=na e1 dv
   refine ao.pure m (v:=v) ?_ hd
   unfold execOp;rw[ho]
   simp only[Instr.index,di.1,ev,asIntOf,Sem.run_bind,Sem.run_pure,Result.andThen_ok,run_underlying hu,Sem.run_ite,if_pos (And.intro hb.1 hb.2),cm hn,hr]
  ·cases e
 ·cases e
theorem xy(hs:ce P sp/\N0.g=sp.gl)(m:ar w0 N0 A env h w)(f:FD A env w ρ a){g:Operand}{args:Array Operand}{ts:Array TypeId}{base:Nat}(ho:o.op = .call {callee := .value g,args,argTypes:=ts})
  (e:(pE P sp base (ad ρ g) (args.toList.map (ad ρ))).run h=some (d,r)) (hp:ax d.pre):(∃ v w',bz w0 N0 A env h w d v w')/\jT P o a w0 N0 A env h w d:=by
 have dg:=aQ f g
 unfold pE at e
 split at e
 ·rename_i gi caps hg
  split at e
  ·rename_i s hb hsp
   rw[hg] at dg;simp only[aa] at dg
   obtain⟨vs,ev,dv⟩:=dg
   have hcall:=hs.1 gi s hsp base _ h d r e hp w0 N0 A env w _ hs.2 m (gb (A6 f args) dv)
   refine⟨?_,fun K Q' hK=>?_⟩
   ·obtain⟨e',w',fr,⟨v,_,g⟩,_⟩:=hcall []
    exact⟨v,w',g⟩
   unfold Oper.wp execOp
   rw[ho]
   unfold uQ at hb
   split at hb
   ·rename_i fn hfn
    simp only[Bool.and_eq_true,Bool.not_eq_true'] at hb
    have hbody:fn.body.isNone=false:=by cases hfb:fn.body <;> simp_all
    simp only[resolve,Deferred.ofValue,ev,Sem.run_bind,Sem.run_pure,Result.andThen_ok,invoke,callFunc,run_program,hfn,hb.1,hbody,Bool.false_eq_true,if_false,Array.empty_append,Oper.upon]
    have hargs:((Array.map a.eval args).toList++vs.toList).toArray=Array.map a.eval args++vs:=by apply Array.ext';simp
    rw[hargs] at hcall
    refine hcall.mono ?_
    rintro e' w' ⟨v,rfl,g⟩
    exact hK _ _ g
   ·cases hb
  ·cases e
 ·cases e
theorem jy{v:SV}(e:(aB v).run h=some (d,r)):d = .det [] v []:=(aF e).symm
theorem rV(hs:ce P sp/\N0.g=sp.gl)(m:ar w0 N0 A env h w)(f:FD A env w ρ a)
  (e:(iM P sp o ρ).run h=some (d,r)) (hp:ax d.pre):(∃ v w',bz w0 N0 A env h w d v w')/\jT P o a w0 N0 A env h w d:=by
 have ofY:ao P o a w0 N0 A env h w d->(∃ v w',bz w0 N0 A env h w d v w')/\jT P o a w0 N0 A env h w d:=fun y=>by
  have y':=y
  obtain⟨v,w',hr,g⟩:=y'
  exact⟨⟨v,w',g⟩,y.steps⟩
 unfold iM at e
 split at e
 ·rename_i x ho
  split at e
  ·exact ofY (xN m f ho e)
  ·rw[jy e];rw[jy e] at ofY;exact ofY (th m f (.inl ho))
 ·rename_i x ho
  split at e
  ·obtain⟨u,r1,r2,e2,e3,rfl⟩:=Q.run_bind _ _ _ e
   cases aF e3
   obtain⟨A',m',x'⟩:=mv m _ e2
   refine ofY ⟨a.eval x,w,.inl ?_,(),A',env,trivial,m',x',gm x' _ _ (aQ f x)⟩
   unfold execOp;rw[ho];rfl
  ·rw[jy e];rw[jy e] at ofY;exact ofY (th m f (.inr ho))
 ·rename_i c x y ho;exact ofY (AY m f ho e hp)
 ·rename_i E ho
  split at e
  ·exact ofY (yI m ho e)
  ·cases e
 ·rename_i E x ho
  split at e
  ·exact ofY (y0 m f ho e)
  ·cases e
 ·rename_i t ps ho;exact ofY (vO m f ho e)
 ·rename_i t n ps ho
  split at e
  ·exact ofY (Bm m f ho e)
  ·cases e
 ·rename_i t x ho
  split at e
  ·exact ofY (zP m (dm sp ρ) (lZ hs.2 m f x) ho e)
  ·exact ofY (wA m (dm sp ρ) (lZ hs.2 m f x) ho e hp)
  ·exact ofY (qj m (dm sp ρ) (lZ hs.2 m f x) ho e)
 ·rename_i t x y ho
  split at e
  ·exact ofY (zT m f ho e hp)
  ·exact ofY (mN m f ho e)
 ·rename_i x ho;exact ofY (B3 m f ho e)
 ·rename_i op t x y yt ho
  split at e
  ·rename_i ht;exact ofY (yT m f ho ht e)
  ·exact ofY (BR m f ho e hp)
 ·rename_i op t x ho;exact ofY (A5 m f ho e hp)
 ·rename_i s t x ho
  split at e
  ·rename_i ht;exact ofY (BN m f ho ht e)
  ·rename_i E2 ht;exact ofY (wF m f ho ht e hp)
  ·exact ofY (zo m f ho e hp)
 ·rename_i g fs caps ho
  split at e
  ·rename_i hfs
   have:fs = #[]:=by simpa using hfs
   subst this
   rw[jy e];rw[jy e] at ofY
   exact ofY (BD m f ho)
  ·cases e
 ·rename_i t l c ho
  split at e
  ·exact ofY (zF m f ho e hp)
  ·cases e
 ·rename_i t x lo hi mx ho
  split at e
  ·exact ofY (wV m f ho e hp)
  ·split at e
   ·exact ofY (BG m f ho e hp)
   ·exact ofY (yJ m f ho e hp)
 ·rename_i s x i ho;exact ofY (BC m f ho e)
 ·rename_i s x i ho;exact ofY (vJ m f ho e)
 ·rename_i t x i ho
  split at e
  ·exact ofY (yw m f (dm sp ρ) (lZ hs.2 m f x) ho e)
  ·exact ofY (wz m f ho e hp)
 ·rename_i t x i ho
  split at e
  ·exact ofY (yD m f ho e)
  ·exact ofY (xZ m f ho e hp)
 ·rename_i x i ho;exact ofY (wJ m f ho e)
 ·rename_i t ho
  split at e
  ·exact ofY (xT m ho e)
  ·cases e
 ·rename_i t x i ho;exact ofY (wb m f ho e)
 ·rename_i t x i y ho;exact ofY (Ak m f ho e)
 ·rename_i b args ts ho
  obtain⟨al⟩:=args
  obtain⟨tl⟩:=ts
  have e':(oU P o.dst b (al.map (ad ρ)) tl).run h=some (d,r):=e
  clear e
  cases b
  case len =>
   match al,tl with
   | [x1],[t1]=>exact ofY (zq m f ho e')
   | [],_=>cases e'
   | _::_::_,_=>cases e'
   | [_],[]=>cases e'
   | [_],_::_::_=>cases e'
  case cap =>
   match al,tl with
   | [x1],[t1]=>exact ofY (wi m f ho e')
   | [],_=>cases e'
   | _::_::_,_=>cases e'
   | [_],[]=>cases e'
   | [_],_::_::_=>cases e'
  case append =>
   match al,tl with
   | [x1,x2],[t1,t2] =>
    simp only[List.map,oU] at e'
    split at e'
    ·rename_i dd hb _
     have hb:t1=t2:=Nat.eq_of_beq_eq_true hb
     subst hb
     exact ofY (r6 m f ho e' hp)
    ·exact ofY (wd m f ho e' hp)
    ·cases e'
   | [],_=>cases e'
   | [_],_=>cases e'
   | _::_::_::_,_=>cases e'
   | [_,_],[]=>cases e'
   | [_,_],[_]=>cases e'
   | [_,_],_::_::_::_=>cases e'
  case min =>
   match al with
   | [x1,x2]=>exact ofY (yV m f ho e')
   | []=>cases e'
   | [_]=>cases e'
   | _::_::_::_=>cases e'
  case max =>
   match al with
   | [x1,x2]=>exact ofY (yg m f ho e')
   | []=>cases e'
   | [_]=>cases e'
   | _::_::_::_=>cases e'
  all_goals (cases e')
 ·rename_i g args ts ho
  exact xy hs m f ho e hp
 ·cases e
theorem xH(m:ar w0 N0 A env h w){p off nm:Nat}{x:List Prop×List (Nat×Nm)}(e:(qd p off nm).run h=some (x,r))(hp:ax x.1) :
  ∃ A' env',ar w0 N0 A' env' (aM x.2 h) w/\aS A env w A' env' w:=by
 unfold qd at e
 simp only[Q.run] at e
 split at e
 case h_2=>cases e
 rename_i p0 q0 hk
 simp only[Option.some.injEq,Prod.mk.injEq] at e
 obtain⟨rfl,rfl⟩:=e
 split at hk
 case h_2=>cases hk
 rename_i E cs hl
 split at hk
 case h_2=>cases hk
 rename_i n sz lo len hc
 simp only[Q.run] at hk
 split at hk
 case h_2=>cases hk
 rename_i p1 q1 hk1
 simp only[Option.some.injEq,Prod.mk.injEq] at hk
 obtain⟨rfl,rfl⟩:=hk
 split at hk1
 case h_2=>cases hk1
 rename_i E' u xs hn
 split at hk1
 case h_2=>cases hk1
 rename_i hsz
 have hsz:=Nat.eq_of_beq_eq_true hsz
 subst hsz
 simp only[Q.run] at hk1
 split at hk1
 case h_2=>cases hk1
 rename_i p2 q2 hk2
 simp only[Option.some.injEq,Prod.mk.injEq] at hk1
 obtain⟨rfl,rfl⟩:=hk1
 split at hk2
 case h_2=>cases hk2
 rename_i hun
 simp only[Q.run,Option.some.injEq,Prod.mk.injEq] at hk2
 obtain⟨rfl,rfl⟩:=hk2
 simp only[ax,and_true] at hp
 have hpe:∃ k l,env p = .blk k l:=by
  have:=m.nm p
  rw[hl] at this
  rcases this with⟨k,l,h1,_⟩|⟨_,E2,t2,hb⟩
  ·exact⟨k,l,h1⟩
  ·rcases hb with hb|hb <;> cases hb
 obtain⟨k,l,hpe⟩:=hpe
 obtain⟨⟨vs,hvs,hd⟩,_⟩:=m.live_blk hl hpe
 obtain⟨v,hv,hdv⟩:=ia _ _ hd hc
 have hpn:p≠n:=fun e=>by rw[e,hn] at hl;cases hl
 have hpm:p≠nm:=fun e=>by rw[e,hun] at hl;cases hl
 have hdn:∀ n'∈[n],∃ b,h n' = .live b/\b.mut=true:=by simp[hn,cK.mut]
 have g:bz w0 N0 A env h w (.det [] (.own nm u.size) ((nm,.live (.row E' u (xs.drop lo)))::[n].map fun n=>(n,.dead))) v w:=by
  simp only[aa] at hdv
  rcases hdv with⟨rfl,pa,rfl⟩|⟨b,⟨β,ln⟩,E2,c,hb,hle,hsh,rfl⟩
  ·have hz:xs.drop lo=[]:=List.drop_eq_nil_of_le (by omega)
   exact dJ m hun [n] hdn (W:=fun _=>False) (ev := .nil) (aO.refl w _) (fun _ h=>h.elim) (by simp) (fun k l e=>by cases e) (fun _=>.inl ⟨rfl,hz,pa,rfl⟩)
  ·obtain⟨cur,cap,hh,hcs,hxl,hlc,hcm,hrd⟩:=(m.live_blk hn hb).1
   simp only at hcs hxl hlc hrd hle
   have hcc:E2=E'∧c=cur.size:=by
    unfold World.shape? at hsh;rw[hh] at hsh
    simp only[Option.some.injEq,Prod.mk.injEq] at hsh;exact⟨hsh.1.symm,hsh.2.symm⟩
   obtain⟨rfl,rfl⟩:=hcc
   have hcap:(cur.size-β)/u.size=cap:=by rw[hcs,Nat.add_sub_cancel_left];exact Nat.mul_div_cancel _ u.size_pos
   have hm:cap*u.size=lo*u.size+(cap-lo)*u.size:=by rw[← Nat.add_mul];congr 1;omega
   refine dJ m hun [n] hdn (W:=fun _=>False) (ev := .blk b (β+lo*u.size,len)) (aO.refl w _) (fun _ h=>h.elim) (by simp) (fun k l e=>by cases e;exact .inr ⟨n,(β,ln),by simp,hb⟩)
    (fun x=>.inr ⟨b,(β+lo*u.size,len),cur.size,rfl,⟨cur,cap-lo,hh,by simp only;omega,by simp only[List.length_drop];omega,by simp only;omega,by omega,fun i hi=>?_⟩,hsh,?_⟩)
   ·simp only[List.length_drop] at hi
    rw[List.getElem_drop]
    have:=hrd (lo+i) (by omega)
    simp only
    rw[Nat.add_mul,← Nat.add_assoc] at this
    exact this
   ·simp only
    rw[hcap,show cur.size-(β+lo*u.size)=(cap-lo)*u.size from by omega,Nat.mul_div_cancel _ u.size_pos]
 obtain⟨x0,A',env',_,m1,x1,d1⟩:=g
 have m1:ar w0 N0 A' env' (aM [(nm,Nm.live (.row E' u (xs.drop lo))),(n,.dead)] h) w:=m1
 have d1:aa A' env' w (.own nm u.size) v:=d1
 have hl1:aM [(nm,Nm.live (.row E' u (xs.drop lo))),(n,.dead)] h p = .live (.cells E cs):=by
  rw[db (by simp[hpm,hpn])];exact hl
 have hpe1:=x1.envb _ _ _ hpe
 have hup:=cP.write (b' := .cells E (dM cs off [.own nm u.size])) m1 hl1 rfl hpe1 (aO.refl w _) ⟨vs,hvs,by
  have h2:ab A' env' w [.own nm u.size] [v]:=by simp only[ab];exact⟨v,[],rfl,d1,rfl⟩
  have h3:=jY (off:=off) (fD x1 _ _ hd) h2
  have hlt:off<vs.toList.length:=(List.getElem?_eq_some_iff.1 hv).1
  have hvv:vs.toList[off]=v:=(List.getElem?_eq_some_iff.1 hv).2
  have he:vs.toList.take off++([v]++vs.toList.drop (off+[v].length))=vs.toList:=by
   rw[← hvv]
   simp only[List.length_singleton,List.singleton_append]
   rw[List.getElem_cons_drop,List.take_append_drop]
  rw[he] at h3;exact h3⟩ rfl
 exact⟨A',env',m1.upd hup,x1.trans (m1.ext hup)⟩
theorem tH(hs:ce P sp/\N0.g=sp.gl)(m:ar w0 N0 A env h w)(f:FD A env w ρ a)
  (e:(iK P sp o ρ).run h=some (d,r)) (hp:ax d.pre):(∃ v w',bz w0 N0 A env h w d v w')/\jT P o a w0 N0 A env h w d:=by
 unfold iK at e
 split at e
 ·exact rV hs m f e hp
 ·rename_i p off hc
  obtain⟨dl,r1,r2,e1,e2,rfl⟩:=Q.run_bind _ _ _ e
  split at e2
  ·rename_i pre v
   obtain⟨x,r3,r4,e3,e4,rfl⟩:=Q.run_bind _ _ _ e2
   cases aF e4
   have hp:ax (pre++x.1):=hp
   obtain⟨hp1,hp2⟩:=eO.1 hp
   obtain⟨⟨v0,w0',g0⟩,s0⟩:=rV hs m f e1 hp1
   have conv:∀ v1 w1,bz w0 N0 A env h w (.det pre v []) v1 w1->bz w0 N0 A env h w (.det (pre++x.1) v x.2) v1 w1:=fun v1 w1 g=>by
    obtain⟨_,A',env',_,m1,x1,d1⟩:=g
    obtain⟨A2,env2,m2,x2⟩:=xH (h:=h) m1 e3 hp2
    exact⟨(),A2,env2,trivial,m2,x1.trans x2,gm x2 _ _ d1⟩
   exact⟨⟨v0,w0',conv _ _ g0⟩,fun K Q' hK=>s0 K Q' fun v1 w1 g=>hK v1 w1 (conv _ _ g)⟩
  ·cases e2
end
end Go.SX

/- SX, part 14: one operation with its guard; what it touches. -/
namespace Go.SX
set_option linter.unusedVariables false
def a9(sl:List SV)(i:Nat):SV:=match dp sl i with
 | some v=>v
 | none => .junk
structure FS where
 sl:List SV
 h:aC
def ll:SV->SV
 | .opt _ v=>v
 | v=>v
def nU(g:Bool):SV->List Prop
 | .opt b _=>[g=true->b=true]
 | _=>[]
def gM:List Operand->List Nat
 | []=>[]
 | .tmp t::r=>t::gM r
 | _::r=>gM r
def dV(n:Nat):List Nat->Bool
 | []=>false
 | m::r=>Nat.beq n m||dV n r
theorem jn{n:Nat}:∀{l:List Nat},dV n l=true↔n∈l
 | []=>by simp[dV]
 | m::r=>by simp[dV,jn (l:=r)]
def gV(o:Oper):List Nat:=match o.op with
 | .pick (.tmp c) _ _=>[c]
 | .pick _ _ _=>[]
 | op=>gM op.operands.toList
inductive GV where
 | always
 | cond (g:Bool)
 | unknown
abbrev rM(b want:Bool):Bool:=match want with
 | true=>b
 | false => !b
def iJ(ops:List Oper)(sl:List SV):Option (Nat×Bool)->GV
 | none => .always
 | some (j,want)=>match dp ops j with
  | some oj=>match oj.dst with
   | some d=>match a9 sl d with
    | .bool b => .cond (rM b want)
    | .opt g (.bool b) => .cond (g&&rM b want)
    | v=>match np v with
     | true => .cond false
     | false => .unknown
   | none => .unknown
  | none => .unknown
inductive bZ:Type 1 where
 | go (d:Dl)
 | split (g:Bool) (d:Dl)
def fk(g:Bool)(sl:List SV):List Nat->List Prop
 | []=>[]
 | i::r=>nU g (a9 sl i)++fk g sl r
def lf:List Prop->Bool->List Prop
 | [],_=>[]
 | l,g=>[g=true->ax l]
def uz(g:Bool)(pu:List Prop)(d:Dl):Q bZ:=match d with
 | .det pre v [] => .ret (.go (.det (lf (pu++pre) g) (.opt g v) []))
 | .det pre v upd => .ret (.split g (.det (pu++pre) v upd))
 | .nd X qn pre R inh v upd => .ret (.split g (.nd X qn (pu++pre) R (fun h=>inh (eO.1 h).2) v upd))
def kx(sl:List SV):List Nat->Bool
 | []=>false
 | i::r=>np (a9 sl i)||kx sl r
def dh(P:Program)(sp:ba)(ops:List Oper)(o:Oper)(sl:List SV):Q bZ:=match iJ ops sl o.guard with
 | .always=>(iK P sp o (a9 sl)).bind fun d=>.ret (.go d)
 | .cond g=>match kx sl (gV o) with
  | true => .ret (.go (.det [g=false] (.cv undef) []))
  | false=>(iK P sp o (fun i=>match dV i (gV o) with|true=>ll (a9 sl i)|false=>a9 sl i)).bind (uz g (fk g sl (gV o)))
 | .unknown => .fail
def cr(sl:List SV)(dst:Option Tmp)(v:SV):List SV:=match dst with
 | some d=>sl.set d v
 | none=>sl
def FS.app(F:FS)(dst:Option Tmp)(d:Dl)(x:d.X):FS:=⟨cr F.sl dst (d.val x),d.hp x F.h⟩
def FS.skip(F:FS)(dst:Option Tmp):FS:=⟨cr F.sl dst (.cv undef),F.h⟩
def cQ(st:bZ)(dst:Option Tmp)(F F':FS):Prop:=match st with
 | .go d=>∃ x,d.R x/\F'=F.app dst d x
 | .split g d=>(g=true∧∃ x,d.R x/\F'=F.app dst d x)∨(g=false/\F'=F.skip dst)
def bZ.pre:bZ->Prop
 | .go d=>ax d.pre
 | .split g d=>g=true->ax d.pre
def bZ.wr:bZ->List Nat
 | .go d=>d.wr
 | .split _ d=>d.wr
structure bU (w0:World) (N0:bt) (A:Nat->Prop) (env:ah) (F:FS) (a:Act) (w:World):Prop where
 m:ar w0 N0 A env F.h w
 len:F.sl.length<=a.tmps.size
 f:FD A env w (a9 F.sl) a
 dfr:a.defers=[]
section
variable {P:Program} {sp:ba} {w0:World} {N0:bt} {A:Nat->Prop} {env:ah} {F F':FS} {w:World} {o:Oper} {a:Act} {st:bZ} {r:List Nat}
theorem vA{sl:List SV}{d i:Nat}{v:SV}:a9 (sl.set d v) i=if i=d/\d<sl.length then v else a9 sl i:=by
 unfold a9
 simp only[ig,List.getElem?_set]
 by_cases h:d=i
 ·subst h
  by_cases h2:d<sl.length
  ·simp[h2]
  ·simp[h2]
 ·have:¬ i=d:=fun e=>h e.symm
  simp[h,this]
theorem tp{A':Nat->Prop}{env':ah}{w':World}{sl:List SV}{v:SV}{u:Value}(len:sl.length<=a.tmps.size)(f:FD A env w (a9 sl) a)(x:aS A env w A' env' w')(dst:Option Tmp)
  (hd:aa A' env' w' v u):FD A' env' w' (a9 (cr sl dst v)) (a.put dst u):=by
 intro i
 cases dst with
 | none=>exact gm x _ _ (f i)
 | some d =>
  simp only[cr,Act.put]
  rw[vA]
  split
  ·rename_i h
   obtain⟨rfl,h⟩:=h
   have hi:i<a.tmps.size:=by omega
   simp only[Array.getD_eq_getD_getElem?,Array.getElem?_setIfInBounds_self_of_lt hi,Option.getD_some]
   exact hd
  ·rename_i h
   by_cases hid:i=d
   ·subst hid
    have:¬ i<sl.length:=fun hh=>h ⟨rfl,hh⟩
    have:a9 sl i = .junk:=by unfold a9;rw[ig,List.getElem?_eq_none (by omega)]
    rw[this];simp only[aa]
   ·have h2:=gm x _ _ (f i)
    simp only[Array.getD_eq_getD_getElem?] at h2 ⊢
    rw[Array.getElem?_setIfInBounds_ne (fun e=>hid e.symm)]
    exact h2
theorem s9(a:Act)(dst:Option Tmp)(v:Value):(a.put dst v).tmps.size=a.tmps.size:=by cases dst <;> simp[Act.put]
theorem u6(a:Act)(dst:Option Tmp)(v:Value):(a.put dst v).defers=a.defers:=by cases dst <;> rfl
theorem qP(sl:List SV)(dst:Option Tmp)(v:SV):(cr sl dst v).length=sl.length:=by cases dst <;> simp[cr]
theorem bU.app(t:bU w0 N0 A env F a w){d:Dl}{v:Value}{w':World}(g:bz w0 N0 A env F.h w d v w')(dst:Option Tmp) :
  ∃ x A' env',d.R x/\bU w0 N0 A' env' (F.app dst d x) (a.put dst v) w'∧aS A env w A' env' w':=by
 obtain⟨x,A',env',hR,m',e',hd⟩:=g
 exact⟨x,A',env',hR,⟨m',by simp only[FS.app,qP,s9];exact t.len,tp t.len t.f e' dst hd,by rw[u6];exact t.dfr⟩,e'⟩
theorem bU.skip(t:bU w0 N0 A env F a w)(dst:Option Tmp):bU w0 N0 A env (F.skip dst) (a.put dst undef) w :=
 ⟨t.m,by simp only[FS.skip,qP,s9];exact t.len,tp t.len t.f aS.refl dst (by simp only[aa]),by rw[u6];exact t.dfr⟩
theorem Br(a:Act){ops:Array Oper}(h:o.guard=none):Region.wanted o (yielded ops a.tmps)=true:=by simp[Region.wanted,h]
theorem xR(t:bU w0 N0 A env F a w){ops:Array Oper}{g:Bool}(e:iJ ops.toList F.sl o.guard = .cond g) :
  Region.wanted o (yielded ops a.tmps)=g:=by
 unfold iJ at e
 split at e
 ·cases e
 ·rename_i j want hg
  have hw:Region.wanted o (yielded ops a.tmps)=(yielded ops a.tmps j == some want):=by simp[Region.wanted,hg]
  split at e
  ·rename_i oj hj
   split at e
   ·rename_i d hd
    have hj':ops[j]? = some oj:=by rw[ig,Array.getElem?_toList] at hj;exact hj
    have hy:yielded ops a.tmps j=match a.tmps[d]? with|some (.bool b)=>some b|_=>none:=by
     unfold yielded;rw[hj'];simp only[Option.bind_some,hd];rfl
    have hfd:=t.f d
    have getIt:∀{v:Value},a.tmps.getD d undef=v->v≠undef->a.tmps[d]? = some v:=by
     intro v hv hne
     rw[Array.getD_eq_getD_getElem?] at hv
     cases hx:a.tmps[d]? with
     | none=>rw[hx] at hv;exact absurd hv.symm hne
     | some u=>rw[hx] at hv;simp only[Option.getD_some] at hv;rw[hv]
    rw[hw,hy]
    split at e
    ·rename_i b hb
     cases e
     rw[hb] at hfd;simp only[aa] at hfd
     rw[getIt hfd (by simp[undef])]
     cases b <;> cases want <;> rfl
    ·rename_i g' b hb
     cases e
     rw[hb] at hfd
     cases g' with
     | true =>
      simp only[aa] at hfd
      rw[getIt hfd (by simp[undef])]
      cases b <;> cases want <;> rfl
     | false =>
      simp only[aa] at hfd
      rw[Array.getD_eq_getD_getElem?] at hfd
      cases hx:a.tmps[d]? with
      | none=>rfl
      | some u=>rw[hx] at hfd;simp only[Option.getD_some] at hfd;subst hfd;rfl
    ·rename_i hv1 hv2
     split at e
     ·rename_i hun
      cases e
      have hun':∃ vs,a9 F.sl d = .cv (.tuple vs)/\vs.isEmpty=true:=by
       generalize a9 F.sl d=v at hun
       unfold np at hun
       split at hun
       ·rename_i vs;exact⟨vs,rfl,hun⟩
       ·cases hun
      obtain⟨vs,h1,h2⟩:=hun'
      rw[h1] at hfd;simp only[aa] at hfd
      rw[Array.getD_eq_getD_getElem?] at hfd
      cases hx:a.tmps[d]? with
      | none=>rfl
      | some u=>rw[hx] at hfd;simp only[Option.getD_some] at hfd;subst hfd;rfl
     ·cases e
   ·cases e
  ·cases e
theorem uf{g:Bool}{sl:List SV}:∀{l:List Nat},ax (fk g sl l)→∀ i∈l,ax (nU g (a9 sl i))
 | [],_,i,hi=>by simp at hi
 | j::r,h,i,hi=>by
  simp only[fk,eO] at h
  rcases List.mem_cons.1 hi with rfl|hi
  ·exact h.1
  ·exact uf h.2 i hi
theorem Bb(f:FD A env w (a9 F.sl) a){l:List Nat}(hp:ax (fk true F.sl l)) :
  FD A env w (fun i=>match dV i l with|true=>ll (a9 F.sl i)|false=>a9 F.sl i) a:=by
 intro i
 show aa A env w (match dV i l with|true=>ll (a9 F.sl i)|false=>a9 F.sl i) _
 cases hm:dV i l with
 | false=>exact f i
 | true =>
  have:=uf hp i (jn.1 hm)
  have hf:=f i
  show aa A env w (ll (a9 F.sl i)) _
  generalize a9 F.sl i=v at *
  cases v with
  | opt b v =>
   have hb:b=true:=by simpa[nU,ax] using this
   subst hb
   simpa only[ll,aa] using hf
  | _=>exact hf
theorem xX{l:List Prop}{g:Bool}(h:ax (lf l g))(hg:g=true):ax l:=by
 cases l with
 | nil=>trivial
 | cons p l=>simp only[lf,ax,and_true] at h;exact h hg
theorem qw(hs:ce P sp/\N0.g=sp.gl)(t:bU w0 N0 A env F a w){ops:Array Oper}(e:(dh P sp ops.toList o F.sl).run F.h=some (st,r))(hp:st.pre) :
  (∃ F',cQ st o.dst F F'∧∃ A' env' a' w',bU w0 N0 A' env' F' a' w'∧aS A env w A' env' w') ∧
  ∀(K:Act->World->Prop)(Q':Exit->Act->World->Prop),(∀ F' A' env' a' w',cQ st o.dst F F'→bU w0 N0 A' env' F' a' w'→aS A env w A' env' w'→K a' w') →
   if Region.wanted o (yielded ops a.tmps) then o.wp P a w K Q'∨(o.asks P a w/\LetsOut Q') else K (a.put o.dst undef) w:=by
 unfold dh at e
 split at e
 ·rename_i hg
  obtain⟨d,r1,r2,e1,e2,rfl⟩:=Q.run_bind _ _ _ e
  simp only[Q.run,Option.some.injEq,Prod.mk.injEq] at e2
  obtain⟨rfl,rfl⟩:=e2
  obtain⟨⟨v,w',g⟩,hst⟩:=tH hs t.m t.f e1 hp
  have hgn:o.guard=none:=by
   unfold iJ at hg
   split at hg
   ·assumption
   ·split at hg
    ·split at hg
     ·split at hg
      ·cases hg
      ·cases hg
      ·split at hg <;> cases hg
     ·cases hg
    ·cases hg
  refine⟨?_,fun K Q' hK=>?_⟩
  ·obtain⟨x,A',env',hR,t',x'⟩:=t.app g o.dst
   exact⟨_,⟨x,hR,rfl⟩,A',env',_,_,t',x'⟩
  ·rw[Br a hgn]
   refine .inl (hst K Q' fun v w' g=>?_)
   obtain⟨x,A',env',hR,t',x'⟩:=t.app g o.dst
   exact hK _ _ _ _ _ ⟨x,hR,rfl⟩ t' x'
 ·rename_i g hg
  have hwant:=xR t hg
  split at e
  ·simp only[Q.run,Option.some.injEq,Prod.mk.injEq] at e
   obtain⟨rfl,rfl⟩:=e
   simp only[bZ.pre,Dl.pre,ax,and_true] at hp
   rw[hwant]
   subst hp
   have gd:bz w0 N0 A env F.h w (.det [false=false] (.cv undef) []) undef w :=
    ⟨(),A,env,trivial,t.m,aS.refl,by simp only[Dl.val,aa]⟩
   obtain⟨x,A',env',hR,t',x'⟩:=t.app gd o.dst
   refine⟨⟨_,⟨x,hR,rfl⟩,A',env',_,_,t',x'⟩,fun K Q' hK=>?_⟩
   rw[if_neg (by simp)]
   exact hK _ _ _ _ _ ⟨x,hR,rfl⟩ t' x'
  obtain⟨d,r1,r2,e1,e2,rfl⟩:=Q.run_bind _ _ _ e
  rw[hwant]
  have yes:g=true->ax (fk g F.sl (gV o))->ax d.pre->(∃ v w',bz w0 N0 A env F.h w d v w')/\jT P o a w0 N0 A env F.h w d:=by
   rintro rfl h1 h2
   exact tH hs t.m (Bb t.f h1) e1 h2
  have splitCase:∀ d',st = .split g d'→d'.X=d.X->(∀(h1:ax d'.pre),ax (fk g F.sl (gV o))/\ax d.pre) →
    (∀ v w',bz w0 N0 A env F.h w d v w'→bz w0 N0 A env F.h w d' v w') →
    (∃ F',cQ st o.dst F F'∧∃ A' env' a' w',bU w0 N0 A' env' F' a' w'∧aS A env w A' env' w') ∧
    ∀(K:Act->World->Prop)(Q':Exit->Act->World->Prop),(∀ F' A' env' a' w',cQ st o.dst F F'→bU w0 N0 A' env' F' a' w'→aS A env w A' env' w'→K a' w') →
     if g=true then o.wp P a w K Q'∨(o.asks P a w/\LetsOut Q') else K (a.put o.dst undef) w:=by
   rintro d' rfl _ hpre hgood
   cases g with
   | true =>
    obtain⟨h1,h2⟩:=hpre (hp rfl)
    obtain⟨⟨v,w',gd⟩,hst⟩:=yes rfl h1 h2
    refine⟨?_,fun K Q' hK=>?_⟩
    ·obtain⟨x,A',env',hR,t',x'⟩:=t.app (hgood _ _ gd) o.dst
     exact⟨_,.inl ⟨rfl,x,hR,rfl⟩,A',env',_,_,t',x'⟩
    ·rw[if_pos rfl]
     refine .inl (hst K Q' fun v w' gd=>?_)
     obtain⟨x,A',env',hR,t',x'⟩:=t.app (hgood _ _ gd) o.dst
     exact hK _ _ _ _ _ (.inl ⟨rfl,x,hR,rfl⟩) t' x'
   | false =>
    refine⟨⟨_,.inr ⟨rfl,rfl⟩,A,env,_,_,t.skip o.dst,aS.refl⟩,fun K Q' hK=>?_⟩
    rw[if_neg (by simp)]
    exact hK _ _ _ _ _ (.inr ⟨rfl,rfl⟩) (t.skip o.dst) aS.refl
  unfold uz at e2
  split at e2
  ·rename_i pre v
   simp only[Q.run,Option.some.injEq,Prod.mk.injEq] at e2
   obtain⟨rfl,rfl⟩:=e2
   simp only[bZ.pre,Dl.pre] at hp
   cases g with
   | true =>
    have h12:=xX hp rfl
    rw[eO] at h12
    obtain⟨⟨u,w',gd⟩,hst⟩:=yes rfl h12.1 h12.2
    have conv:∀ u w',bz w0 N0 A env F.h w (.det pre v []) u w'→bz w0 N0 A env F.h w (.det (lf (fk true F.sl (gV o)++pre) true) (.opt true v) []) u w':=by
     rintro u w' ⟨x,A',env',hR,m',x',hd⟩
     exact⟨(),A',env',trivial,m',x',by simpa only[Dl.val,aa] using hd⟩
    refine⟨?_,fun K Q' hK=>?_⟩
    ·obtain⟨x,A',env',hR,t',x'⟩:=t.app (conv _ _ gd) o.dst
     exact⟨_,⟨x,hR,rfl⟩,A',env',_,_,t',x'⟩
    ·rw[if_pos rfl]
     refine .inl (hst K Q' fun v w' gd=>?_)
     obtain⟨x,A',env',hR,t',x'⟩:=t.app (conv _ _ gd) o.dst
     exact hK _ _ _ _ _ ⟨x,hR,rfl⟩ t' x'
   | false =>
    have gd:bz w0 N0 A env F.h w (.det (lf (fk false F.sl (gV o)++pre) false) (.opt false v) []) undef w :=
     ⟨(),A,env,trivial,t.m,aS.refl,by simp only[Dl.val,aa]⟩
    obtain⟨x,A',env',hR,t',x'⟩:=t.app gd o.dst
    refine⟨⟨_,⟨x,hR,rfl⟩,A',env',_,_,t',x'⟩,fun K Q' hK=>?_⟩
    rw[if_neg (by simp)]
    exact hK _ _ _ _ _ ⟨x,hR,rfl⟩ t' x'
  ·rename_i pre v upd _
   simp only[Q.run,Option.some.injEq,Prod.mk.injEq] at e2
   obtain⟨rfl,rfl⟩:=e2
   exact splitCase _ rfl rfl (fun h1=>by simpa only[Dl.pre,eO] using h1) (fun u w' ⟨x,A',env',hR,m',x',hd⟩=>⟨(),A',env',trivial,m',x',hd⟩)
  ·rename_i X pre R inh v upd
   simp only[Q.run,Option.some.injEq,Prod.mk.injEq] at e2
   obtain⟨rfl,rfl⟩:=e2
   exact splitCase _ rfl rfl (fun h1=>by simpa only[Dl.pre,eO] using h1) (fun u w' ⟨x,A',env',hR,m',x',hd⟩=>⟨x,A',env',hR,m',x',hd⟩)
 ·cases e
end
end Go.SX
