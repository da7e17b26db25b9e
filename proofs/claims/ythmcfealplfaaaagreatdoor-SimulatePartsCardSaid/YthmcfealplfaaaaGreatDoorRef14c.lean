/- SX, part 29: slices.Insert of one element into a slice that owns its row: its contract, off what its code does with values. -/
import Derived.Test.YthmcfealplfaaaaGreatDoorSx28
import Derived.Test.YthmcfealplfaaaaGreatDoorSx25
import Derived.Lib.AppendZerosOnto
import Derived.Lib.Overlaps
import Derived.Laws.Externs
import Derived.Lib.Walk
import Derived.Lib.SliceRun
import Derived.Shelf.RegionOpenPlain
import Derived.Test.YthmcfealplfaaaaGreatDoorDrawsome
namespace Go.SX
set_option linter.unusedVariables false
def jc(cur:Array Value)(o:Nat)(cs:List Value):Array Value:=(cur.toList.take o++cs++cur.toList.drop (o+cs.length)).toArray
theorem ut{cur:Array Value}{o:Nat}{cs:List Value}(h:o+cs.length<=cur.size):(jc cur o cs).size=cur.size:=by
 simp only[jc,List.size_toArray,List.length_append,List.length_take,List.length_drop,Array.length_toList];omega
theorem qd{cur:Array Value}{o:Nat}{cs:List Value}(h:o+cs.length<=cur.size)(j:Nat) :
  (jc cur o cs)[j]? = if j<o then cur[j]? else if j<o+cs.length then cs[j-o]? else cur[j]? := by
 unfold jc
 rw[List.getElem?_toArray]
 have hl:(cur.toList.take o).length=o:=by rw[List.length_take,Array.length_toList];omega
 by_cases h1:j<o
 ·rw[if_pos h1,List.append_assoc,List.getElem?_append_left (by omega),List.getElem?_take,if_pos h1,Array.getElem?_toList]
 ·rw[if_neg h1]
  by_cases h2:j<o+cs.length
  ·rw[if_pos h2,List.append_assoc,List.getElem?_append_right (by omega),List.getElem?_append_left (by omega),hl]
  ·rw[if_neg h2,List.getElem?_append_right (by rw[List.length_append,hl];omega),List.length_append,hl,List.getElem?_drop,Array.getElem?_toList]
   congr 1;omega
def fS(cur:Array Value)(o n:Nat):List Value:=(cur.toList.drop o).take n
theorem uL{cur:Array Value}{o n:Nat}(h:o+n<=cur.size):(fS cur o n).length=n:=by
 unfold fS;rw[List.length_take,List.length_drop,Array.length_toList];omega
theorem tu{cur:Array Value}{o n j:Nat}(h:j<n):(fS cur o n)[j]? = cur[o+j]? := by
 unfold fS;rw[List.getElem?_take,if_pos h,List.getElem?_drop,Array.getElem?_toList]
def qV(cur:Array Value)(off n i z:Nat)(vs:List Value):Array Value:=jc (jc cur (off+(i+1)*z) (fS cur (off+i*z) ((n-i)*z))) (off+i*z) vs
def pZ(cur:Array Value)(off n i z G:Nat)(zr:Array Value):Array Value:=(fS cur off (i*z)).toArray++Builtin.zeroCells zr (n+1-i)++Builtin.zeroCells zr (G-(n+1))
def pv(cur:Array Value)(off n i z G:Nat)(zr:Array Value)(vs:List Value):Array Value:=jc (jc (pZ cur off n i z G zr) (i*z) vs) ((i+1)*z) (fS cur (off+i*z) ((n-i)*z))
structure LF (P:Program) (F:FuncId) (tS E:TypeId) (z bs:Nat) (zr:Array Value) (ty:TypeId):Prop where
 last:∀(w w':World)(p q:Option Addr)(n c vc:Nat)(v:Value),n<=c->c<=maxLen->(Builtin.append_ #[tS,tS] ty #[.slice p n c,.slice q 1 vc]).run P w = .ok v w' →
  Calls P F #[.slice p n c,.int .i64 n,.slice q 1 vc] w fun e w2=>e = .returned v/\w2=w'
 shift:∀(w:World)(b off n c i vb voff vc:Nat)(cur vcur:Array Value)(E':TypeId)(vs:List Value),i<n->n+1<=c->c<=maxLen->vb≠b->w.heap[b]? = some (.cells cur E (0,0))->off+c*z<=cur.size →
  w.heap[vb]? = some (.cells vcur E' (0,0))->vs.length=z->(∀ j v,vs[j]? = some v->w.cell? ⟨vb,voff+j,none⟩=some v)->(∀ v∈vs,v.oneCell'=true)->(∀ v∈fS cur (off+i*z) ((n-i)*z),v.oneCell'=true) →
  Calls P F #[.slice (some ⟨b,off,none⟩) n c,.int .i64 i,.slice (some ⟨vb,voff,none⟩) 1 vc] w fun e w'=>e = .returned (.slice (some ⟨b,off,none⟩) (n+1) c)/\w'=w.drew.setRow b (qV cur off n i z vs)
 grow:∀(w:World)(b off n i vb voff vc:Nat)(cur vcur:Array Value)(E':TypeId)(vs:List Value),i<n->n+1<=maxLen->(n+1)*bs<=140737488355328->w.heap[b]? = some (.cells cur E (0,0))->off+n*z<=cur.size →
  w.heap[vb]? = some (.cells vcur E' (0,0))->vs.length=z->(∀ j v,vs[j]? = some v->w.cell? ⟨vb,voff+j,none⟩=some v)->(∀ v∈vs,v.oneCell'=true)->(∀ v∈fS cur off (n*z),v.oneCell'=true) →
  Calls P F #[.slice (some ⟨b,off,none⟩) n n,.int .i64 i,.slice (some ⟨vb,voff,none⟩) 1 vc] w fun e w'=>e = .returned (.slice (some ⟨w.heap.size,0,none⟩) (n+1) (grownCap w (n+1) n E)) ∧
   ∃ w1:World,bN w.drew w1 (fun _=>False)/\w1.heap.size=w.heap.size+1/\w1.heap[w.heap.size]? = some (.cells (pZ cur off n i z (grownCap w (n+1) n E) zr) E (0,0))/\w'=w1.setRow w.heap.size (pv cur off n i z (grownCap w (n+1) n E) zr vs)
def BV(u:CT)(E:TypeId)(bs:Nat):Spec:=fun base svs=>match svs with
 | [.own n sz,.int .i64 i,.own q sq]=>match Nat.beq q n with
  | true => .fail
  | false => .ask n fun
   | .live (.row E' u' xs)=>match Nat.beq E' E,Nat.beq sz u.size,fp u' u xs with
    | true,true,some ys=>(qS u (.own q sq)).bind fun vs=>.ask base fun
     | .un => .ret (.det [vs.length=1,0<=i,i<=ys.length,(ys.length+1)*bs<=140737488355328] (.own base u.size) [(base,.live (.row E u (ys.take i.toNat++(vs++ys.drop i.toNat)))),(n,.dead)])
     | _ => .fail
    | _,_,_ => .fail
   | _ => .fail
 | _ => .fail
section
variable {P:Program} {w0:World} {N0:dM} {A:Nat->Prop} {env:aJ} {h:bd} {w:World}
theorem af2(m:aY w0 N0 A env h w){t:CT}{n sz:Nat}{v:Value}{ys:List t.D}{r:List Nat}(e:(qS t (.own n sz)).run h=some (ys,r))(hd:ai A env w (.own n sz) v)(h1:ys.length=1) :
  ∃ k l c vcur E',env n = .blk k l/\v = .slice (some ⟨k,l.1,none⟩) 1 c/\w.heap[k]? = some (.cells vcur E' (0,0))/\(∀ n' k' l' b,n'≠n->h n' = .live b->b.mut=true->env n' = .blk k' l'→k≠k') ∧
   Rd A w t (fun o=>w.cell? ⟨k,o,none⟩) l.1 (iU t ys 0):=by
 simp only[qS,Q.run] at e
 simp only[ai] at hd
 have fin:∀{b:ji}{E':TypeId}{zs:List t.D},h n = .live b->(b = .row E' t zs∨b = .frz E' t zs)->zs.length=1 →
   ∃ k l c vcur E',env n = .blk k l/\v = .slice (some ⟨k,l.1,none⟩) 1 c/\w.heap[k]? = some (.cells vcur E' (0,0))/\(∀ n' k' l' b,n'≠n->h n' = .live b->b.mut=true->env n' = .blk k' l'→k≠k') ∧
    Rd A w t (fun o=>w.cell? ⟨k,o,none⟩) l.1 (iU t zs 0):=by
  intro b E' zs hl hb hz
  rcases hd with⟨hnil,_⟩|⟨k,l,E2,c,hk,hsh,rfl⟩
  ·have:=m.nm n
   rw[hl] at this
   rcases this with⟨k',l',he',_⟩|⟨_,E3,t3,hb3⟩
   ·rw[hnil] at he';cases he'
   ·rcases hb with rfl|rfl <;> rcases hb3 with hb3|hb3 <;> cases hb3 <;> cases hz
  ·have hbd:=m.live_blk hl hk
   have hrow:kX A w k l E' t zs:=by
    rcases hb with rfl|rfl
    ·exact hbd.1
    ·exact hbd.1.2
   have hlen:l.2=1:=by obtain⟨_,_,_,_,h3,_⟩:=hrow;omega
   have hrd:=vK hrow (i:=0) (by omega)
   obtain⟨vcur,cap,hh,_⟩:=hrow
   refine⟨k,l,(c-l.1)/sz,vcur,E',hk,by rw[hlen],hh,?_,by simpa using hrd⟩
   intro n' k' l' b' hne hl' hm' he' hkk
   subst hkk
   rcases hb with rfl|rfl
   ·exact hne (m.inj n' n b' _ k l' l hl' hl hm' rfl he' hk)
   ·exact (m.live_blk hl' he').2 hm' hbd.1.1
 split at e
 ·rename_i p q hk
  simp only[Option.some.injEq,Prod.mk.injEq] at e
  obtain⟨rfl,rfl⟩:=e
  split at hk
  ·rename_i E' u zs hl
   split at hk
   ·rename_i zs' _ hc
    simp only[Q.run,Option.some.injEq,Prod.mk.injEq] at hk
    obtain⟨rfl,_⟩:=hk
    obtain⟨et,ey⟩:=gN hc
    subst et
    simp only at ey
    subst ey
    exact fin hl (.inl rfl) h1
   ·cases hk
  ·rename_i E' u zs hl
   split at hk
   ·rename_i zs' _ hc
    simp only[Q.run,Option.some.injEq,Prod.mk.injEq] at hk
    obtain⟨rfl,_⟩:=hk
    obtain⟨et,ey⟩:=gN hc
    subst et
    simp only at ey
    subst ey
    exact fin hl (.inr rfl) h1
   ·cases hk
  ·cases hk
 ·cases e
theorem P4{u:CT}{xs:List u.D}{y:u.D}{i o:Nat}{row:Nat->Option Value}{cur:Nat->Option Value}{off:Nat}(hi:i<=xs.length)
  (hx:∀ k (hk:k<xs.length),Rd A w u cur (off+k*u.size) xs[k]) {news:Nat->Option Value} (hy:Rd A w u news 0 y)
  (h1:∀ j,j<i*u.size->row (o+j)=cur (off+j)) (h2:∀ j,j<u.size->row (o+i*u.size+j)=news j) (h3:∀ j,j<(xs.length-i)*u.size->row (o+(i+1)*u.size+j)=cur (off+i*u.size+j)) :
  ∀ k (hk:k<(xs.take i++([y]++xs.drop i)).length),Rd A w u row (o+k*u.size) (xs.take i++([y]++xs.drop i))[k]:=by
 intro k hk
 have hl:(xs.take i).length=i:=by rw[List.length_take];omega
 by_cases hki:k<i
 ·rw[List.getElem_append_left (by omega)]
  simp only[List.getElem_take]
  have hm:(k+1)*u.size<=i*u.size:=Nat.mul_le_mul_right _ hki
  rw[Nat.add_mul,Nat.one_mul] at hm
  refine pY (hx k (by omega)) fun j hj=>?_
  rw[Nat.add_assoc,h1 _ (by omega),Nat.add_assoc]
 ·rw[List.getElem_append_right (by omega)]
  simp only[hl]
  by_cases hke:k=i
  ·subst hke
   simp only[Nat.sub_self,List.cons_append,List.nil_append,List.getElem_cons_zero]
   refine pY hy fun j hj=>?_
   rw[h2 j hj,Nat.zero_add]
  ·obtain⟨q,rfl⟩:∃ q,k=i+1+q:=⟨k-i-1,by omega⟩
   have hq:i+q<xs.length:=by simp at hk;omega
   have hg:([y]++xs.drop i)[i+1+q-i]'(by simp;omega)=xs[i+q]:=by
    simp only[show i+1+q-i=q+1 from by omega,List.cons_append,List.nil_append,List.getElem_cons_succ,List.getElem_drop]
   rw[hg]
   have hm:(q+1)*u.size<=(xs.length-i)*u.size:=Nat.mul_le_mul_right _ (by omega)
   rw[Nat.add_mul,Nat.one_mul] at hm
   refine pY (hx (i+q) hq) fun j hj=>?_
   rw[show o+(i+1+q)*u.size+j=o+(i+1)*u.size+(q*u.size+j) from by rw[Nat.add_mul (i+1)];omega,h3 _ (by omega)]
   congr 1
   rw[Nat.add_mul i q];omega
theorem Sm(m:aY w0 N0 A env h w){tS E ty:TypeId}{zv:Value}{z bs base n sz q sq:Nat}{u:CT}{xs ys:List u.D}{r:List Nat}{sv xv:Value}(hu:P.underlying tS=some (.slice E))(hi:(P.info? E).map (fun i=>(i.zero,i.size,i.bytes))=some (some zv,z,bs))(hzr:zv.cells.size=z)(hbs:1<=bs)(hz:z=u.size)
  (hl:h n = .live (.row E u xs)) (hsz:sz=u.size) (hs:(qS u (.own q sq)).run h=some (ys,r)) (hun:h base = .un) (hby:(xs.length+ys.length)*bs<=140737488355328)
  (ds:ai A env w (.own n sz) sv) (dx:ai A env w (.own q sq) xv) :
  ∃ v w',(Builtin.append_ #[tS,tS] ty #[sv,xv]).run P w = .ok v w'∧cN w0 N0 A env h w (.det [] (.own base u.size) [(base,.live (.row E u (xs++ys))),(n,.dead)]) v w':=by
 obtain⟨i0,hi0⟩:∃ i0,P.info? E=some i0:=by
  cases hh:P.info? E with
  | none=>rw[hh] at hi;cases hi
  | some i0=>exact⟨i0,rfl⟩
 rw[hi0] at hi
 simp only[Option.map_some,Option.some.injEq,Prod.mk.injEq] at hi
 obtain⟨hz0,hzs,hzb⟩:=hi
 subst hz hzb hsz
 have run:(yP P tS base (.own n u.size) (.own q sq)).run h=some (.det [(xs.length+ys.length)*i0.bytes<=140737488355328] (.own base u.size) [(base,.live (.row E u (xs++ys))),(n,.dead)],n::(r++[base])):=by
  have he:oT P tS=some (E,u.size):=by unfold oT;rw[hu];simp[fe,hi0,hzs]
  unfold yP
  rw[he]
  simp only[hi0,Nat.ble_eq_true_of_le hbs,hz0,hzr,Nat.beq_refl]
  simp only[Q.run,hl,Nat.beq_refl]
  rw[Q.bind_run1 _ _ hs (b := .det [(xs.length+ys.length)*i0.bytes<=140737488355328] (.own base u.size) [(base,.live (.row E u (xs++ys))),(n,.dead)]) (r2:=[base]) (by simp only[Q.run,hun])]
 let o : Oper := { dst := none, op := .call { callee := .builtin .append, args := #[.tmp 0, .tmp 1], argTypes := #[tS, tS] }, type := ty, pos := "", after := #[], guard := none }
 let a:Act:={tmps := #[sv,xv],defers:=[]}
 have fd:FD A env w (fun i=>if i=0 then .own n u.size else if i=1 then .own q sq else .junk) a:=by
  intro i
  by_cases h0:i=0
  ·subst h0;exact ds
  ·by_cases h1:i=1
   ·subst h1;exact dx
   ·simp only[h0,h1,if_false,ai]
 obtain⟨v,w',hr,g⟩:=N4 (P:=P) (o:=o) (a:=a) (nm:=base) (s := .tmp 0) (x := .tmp 1) (t:=tS) m fd rfl run (by simp only[Dl.pre,bg,and_true];exact hby)
 have he:(execOp a.eval o).run P w=((Builtin.append_ #[tS,tS] ty #[sv,xv]).run P w).andThen fun v w'=>.ok (.value v) w':=by
  unfold execOp
  simp only[o,resolve,invoke,builtin,Sem.run_bind,Sem.run_pure,Result.andThen_ok,List.map_toArray,List.map_cons,List.map_nil]
  rfl
 rw[he] at hr
 cases hb:(Builtin.append_ #[tS,tS] ty #[sv,xv]).run P w with
 | ok v1 w1 =>
  rw[hb] at hr
  rcases hr with hr|⟨hr,_⟩
  ·cases hr
   exact⟨v,w',rfl,g⟩
  ·cases hr
 | _=>rw[hb] at hr;rcases hr with hr|⟨hr,_⟩ <;> cases hr
theorem L9{t:CT}{ys:List t.D}(h:ys.length=1):ys=[iU t ys 0]:=by
 match ys,h with
 | [y],_=>rfl
theorem HR{u:CT}{cv:Nat->Option Value}{o:Nat}{xs:List u.D}(hx:∀ i (hi:i<xs.length),Rd A w u cv (o+i*u.size) xs[i]){cur:Array Value}(hc:∀ j,cv j=cur[j]?){a n:Nat}(ha:a+n<=xs.length)(hs:o+(a+n)*u.size<=cur.size) :
  ∀ v∈fS cur (o+a*u.size) (n*u.size),v.oneCell'=true:=by
 obtain⟨news,hl,hcv,h1⟩:=AS (A:=A) (w:=w) ((xs.drop a).take n) (o+a*u.size) (cv:=cv) (fun i hi=>by
  simp only[List.length_take,List.length_drop] at hi
  have:=hx (a+i) (by omega)
  simp only[List.getElem_take,List.getElem_drop]
  rw[Nat.add_assoc,← Nat.add_mul];exact this)
 have hln:((xs.drop a).take n).length=n:=by rw[List.length_take,List.length_drop];omega
 rw[hln] at hl
 intro v hv
 obtain⟨j,hj,rfl⟩:=List.mem_iff_getElem.1 hv
 have hcl:(fS cur (o+a*u.size) (n*u.size)).length=n*u.size:=uL (by rw[Nat.add_assoc,← Nat.add_mul];exact hs)
 have e1:(fS cur (o+a*u.size) (n*u.size))[j]? = news[j]? := by
  rw[tu (by omega),← hc,hcv j (by omega)]
 rw[List.getElem?_eq_getElem hj] at e1
 exact h1 _ (List.mem_iff_getElem?.2 ⟨j,e1.symm⟩)
theorem XP{G:pz}{F:FuncId}{tS E ty:TypeId}{zv:Value}{z bs:Nat}{u:CT}(raw:LF P F tS E z bs zv.cells ty)(hu:P.underlying tS=some (.slice E))(hi:(P.info? E).map (fun i=>(i.zero,i.size,i.bytes))=some (some zv,z,bs))
  (hzr:zv.cells.size=z) (hbs:1<=bs) (hz:z=u.size):av P G F (BV u E bs):=by
 intro base svs h d r e hp w0 N0 A env w vs hg m hd
 unfold BV at e
 split at e
 case h_2=>cases e
 rename_i n sz i q sq
 split at e
 ·cases e
 rename_i hqn
 have hqn:q≠n:=fun e=>by rw[e,Nat.beq_refl] at hqn;cases hqn
 simp only[Q.run] at e
 split at e
 case h_2=>cases e
 rename_i p0 q0 hk
 simp only[Option.some.injEq,Prod.mk.injEq] at e
 obtain⟨rfl,rfl⟩:=e
 split at hk
 case h_2=>cases hk
 rename_i E' u xs hl
 split at hk
 case h_2=>cases hk
 rename_i ys hE hsz hc
 have hE:E'=E:=Nat.eq_of_beq_eq_true hE
 have hsz:=Nat.eq_of_beq_eq_true hsz
 obtain⟨et,ey⟩:=gN hc
 subst et hE hsz
 simp only at ey
 subst ey
 obtain⟨vs1,q1,q2,e1,e2,rfl⟩:=Q.run_bind _ _ _ hk
 simp only[Q.run] at e2
 split at e2
 case h_2=>cases e2
 rename_i p' q' hk'
 simp only[Option.some.injEq,Prod.mk.injEq] at e2
 obtain⟨rfl,rfl⟩:=e2
 split at hk'
 case h_2=>cases hk'
 rename_i hun
 cases br hk'
 simp only[Dl.pre,bg,and_true] at hp
 obtain⟨hp1,hp2,hp3,hp4⟩:=hp
 simp only[aE] at hd
 obtain⟨sv,r1,rfl,ds,iv,r2,rfl,di,xv,r3,rfl,dx,rfl⟩:=hd
 have di':=di
 simp only[ai] at di'
 obtain⟨rfl,hii⟩:=di'
 obtain⟨k,l,c,vcur,E2,hkq,rfl,hkc,hkne,hrd⟩:=af2 m e1 dx hp1
 subst hz
 have hlen:∀{ii:Nat},ii=ys.length->ys.take ii++(vs1++ys.drop ii)=ys++vs1:=by
  rintro _ rfl
  rw[List.take_length,List.drop_length,List.append_nil]
 obtain⟨ii,rfl⟩:=Int.eq_ofNat_of_zero_le hp2
 have hii2:ii<=ys.length:=by omega
 simp only[Int.toNat_natCast]
 have hlast:∀ nn cc pp,ii=ys.length->sv = .slice pp nn cc->nn=ys.length->nn<=cc->cc<=maxLen →
   Calls P F #[sv,.int .i64 (ii:Int),.slice (some ⟨k,l.1,none⟩) 1 c] w fun e w'=>∃ v,e = .returned v/\cN w0 N0 A env h w (.det [vs1.length=1,(0:Int)<=(ii:Int),(ii:Int)<=(ys.length:Int),(ys.length+1)*bs<=140737488355328] (.own base u.size) [(base,.live (.row E' u (ys.take ii++(vs1++ys.drop ii)))),(n,.dead)]) v w':=by
  rintro nn cc pp rfl rfl rfl hle hmx
  obtain⟨v,w',hr,g⟩:=Sm (ty:=ty) m hu hi hzr hbs rfl hl rfl e1 hun (by rw[hp1];exact hp4) ds dx
  refine (raw.last w w' pp (some ⟨k,l.1,none⟩) ys.length cc c v hle hmx hr).mono ?_
  rintro e w2 ⟨rfl,rfl⟩
  refine⟨v,rfl,?_⟩
  rw[hlen rfl]
  exact g
 have hdn:∀ n'∈[n],∃ b,h n' = .live b/\b.mut=true:=by simp[hl,ji.mut]
 have ds':=ds
 simp only[ai] at ds'
 rcases ds' with⟨hnil,pa,rfl⟩|⟨b,⟨β,len⟩,E3,cc,hb,hsh,rfl⟩
 ·have hx:ys=[]:=by
   have:=m.nm n
   rw[hl] at this
   rcases this with⟨k',l',he',_⟩|⟨_,E3,t3,hb⟩
   ·rw[hnil] at he';cases he'
   ·rcases hb with hb|hb <;> cases hb;rfl
  subst hx
  exact hlast 0 0 pa (by simpa using hii2) rfl rfl (Nat.le_refl _) (by simp[maxLen])
 ·obtain⟨cur,cap,hh,hcs,hxl,hlc,hcm,hrdx⟩:=(m.live_blk hl hb).1
  simp only at hcs hxl hlc hrdx
  have hcc:cc=cur.size/\E3=E':=by
   unfold World.shape? at hsh;rw[hh] at hsh
   simp only[Option.some.injEq,Prod.mk.injEq] at hsh;exact⟨hsh.2.symm,hsh.1.symm⟩
  obtain⟨rfl,rfl⟩:=hcc
  have hcap:(cur.size-β)/u.size=cap:=by rw[hcs,Nat.add_sub_cancel_left];exact Nat.mul_div_cancel _ u.size_pos
  have hnA:=(m.live_blk hl hb).2 rfl
  simp only[hcap] at hlast ⊢
  rcases Nat.lt_or_ge ii ys.length with hlt|hge
  case inr=>exact hlast len cap _ (by omega) rfl hxl.symm hlc hcm
  obtain⟨news,hnl,hnc,hnd⟩:=qP (env:=env) u _ _ _ hrd
  have hn1:=yM hnd (AV _ _)
  have hnews:∀ j v,news[j]? = some v->w.cell? ⟨k,l.1+j,none⟩=some v:=fun j v hj=>by
   rw[hnc j (by rw[← hnl];exact (List.getElem?_eq_some_iff.1 hj).1)];exact hj
  have hry:Rd A w u (fun j=>news[j]?) 0 (iU u vs1 0):=pY hrd fun j hj=>by rw[Nat.zero_add,hnc j hj]
  have hkb:k≠b:=hkne n b _ _ (Ne.symm hqn) hl rfl hb
  have hlz:(len-ii)*u.size+(ii+1)*u.size=(len+1)*u.size:=by rw[← Nat.add_mul];congr 1;omega
  have hiz:(ii+1)*u.size=ii*u.size+u.size:=by rw[Nat.add_mul,Nat.one_mul]
  have hlcz:len*u.size<=cap*u.size:=Nat.mul_le_mul_right _ hlc
  have hlz1:(len+1)*u.size=len*u.size+u.size:=by rw[Nat.add_mul,Nat.one_mul]
  have hnlen:(ys.take ii++(vs1++ys.drop ii)).length=len+1:=by simp;omega
  have hcutl:(fS cur (β+ii*u.size) ((len-ii)*u.size)).length=(len-ii)*u.size:=uL (by omega)
  by_cases hroom:len+1<=cap
  ·have hroomz:(len+1)*u.size<=cap*u.size:=Nat.mul_le_mul_right _ hroom
   refine (raw.shift w b β len cap ii k l.1 c cur vcur E2 news (by omega) hroom hcm hkb hh (by omega) hkc hnl hnews hn1 (HR hrdx (fun _=>rfl) (by omega) (by rw[show ii+(len-ii)=len from by omega];omega))).mono ?_
   rintro e w' ⟨rfl,rfl⟩
   refine⟨_,rfl,?_⟩
   have s1:(jc cur (β+(ii+1)*u.size) (fS cur (β+ii*u.size) ((len-ii)*u.size))).size=cur.size:=ut (by rw[hcutl];omega)
   have s2:(qV cur β len ii u.size news).size=cur.size:=by unfold qV;rw[ut (by rw[s1,hnl];omega),s1]
   have cg:bN w (w.drew.setRow b (qV cur β len ii u.size news)) fun j=>j=b:=(bN.drew w _).trans (bN.setRow w.drew b cur _ E3 hh s2)
   have g:=mq (pre:=[vs1.length=1,(0:Int)<=(ii:Int),(ii:Int)<=(ys.length:Int),(ys.length+1)*bs<=140737488355328]) (v := .slice (some ⟨b,β,none⟩) (len+1) cap) (E:=E3) (t:=u) (zs:=ys.take ii++(vs1++ys.drop ii)) m hun [n] hdn (W:=fun j=>j=b) (ev := .blk b (β,len+1)) cg
    (fun k hk=>⟨n,(β,len),by simp,hk▸hb⟩) (by simp) (fun k l e=>by cases e;exact .inr ⟨n,(β,len),by simp,hb⟩) (fun x=>.inr ⟨b,(β,len+1),cur.size,rfl,?_,?_,?_⟩)
   ·exact g
   ·refine⟨_,cap,setRow_heap w.drew b cur _ E3 _ hh,by rw[s2];exact hcs,hnlen,hroom,hcm,?_⟩
    intro k' hk'
    refine fG (fun _ h=>h) x.keep u _ _ _ _ (fun j _=>rfl) ?_
    have hv1:=L9 hp1
    have key:=P4 (A:=A) (w:=w) (u:=u) (xs:=ys) (y:=iU u vs1 0) (i:=ii) (o:=β) (off:=β) (row:=fun o=>(qV cur β len ii u.size news)[o]?) (cur:=fun o=>cur[o]?) hii2 hrdx hry ?_ ?_ ?_ k' (by rw[← hv1];exact hk')
    ·simp only[← hv1] at key;exact key
    ·intro j hj
     unfold qV
     try simp only
     rw[qd (by rw[s1,hnl];omega),if_pos (by omega),qd (by rw[hcutl];omega),if_pos (by omega)]
    ·intro j hj
     unfold qV
     try simp only
     rw[qd (by rw[s1,hnl];omega),if_neg (by omega),if_pos (by rw[hnl];omega)]
     congr 1;omega
    ·intro j hj
     rw[hxl] at hj
     unfold qV
     try simp only
     rw[qd (by rw[s1,hnl];omega),if_neg (by omega),if_neg (by rw[hnl];omega),qd (by rw[hcutl];omega),if_neg (by omega),if_pos (by rw[hcutl];omega),show β+(ii+1)*u.size+j-(β+(ii+1)*u.size)=j from by omega,tu hj]
   ·unfold World.shape?;rw[setRow_heap w.drew b cur _ E3 _ hh];simp only[s2]
   ·show _=Value.slice _ _ ((cur.size-β)/u.size)
    rw[hcap]
  ·have hcl:cap=len:=by omega
   subst hcl
   have hsum:cap+1<=maxLen:=by
    have:(cap+1)*1<=(ys.length+1)*bs:=by rw[hxl];exact Nat.mul_le_mul_left _ hbs
    simp only[maxLen];omega
   refine (raw.grow w b β cap ii k l.1 c cur vcur E2 news (by omega) hsum (by rw[← hxl];exact hp4) hh (by omega) hkc hnl hnews hn1 (by
    have:=HR hrdx (fun _=>rfl) (a:=0) (n:=cap) (cur:=cur) (by omega) (by rw[Nat.zero_add];omega)
    simpa using this)).mono ?_
   rintro e w' ⟨rfl,w1,cg1,hs1,hh1,rfl⟩
   refine⟨_,rfl,?_⟩
   have hge:=grownCap_ge w (cap+1) cap E3
   have hcm':=grownCap_le_maxLen w (cap+1) cap E3 hsum
   generalize grownCap w (cap+1) cap E3=G' at *
   have hGz:(cap+1)*u.size<=G'*u.size:=Nat.mul_le_mul_right _ hge
   have hcut0:(fS cur β (ii*u.size)).length=ii*u.size:=uL (by omega)
   have s0:(pZ cur β cap ii u.size G' zv.cells).size=G'*u.size:=by
    unfold pZ
    simp only[Array.size_append,List.size_toArray,hcut0,size_zeroCells,hzr,← Nat.add_mul];congr 1;omega
   have s1:(jc (pZ cur β cap ii u.size G' zv.cells) (ii*u.size) news).size=G'*u.size:=by rw[ut (by rw[s0,hnl];omega),s0]
   have s2:(pv cur β cap ii u.size G' zv.cells news).size=G'*u.size:=by unfold pv;rw[ut (by rw[s1,hcutl];omega),s1]
   have cg:bN w (w1.setRow w.heap.size (pv cur β cap ii u.size G' zv.cells news)) fun _=>False:=by
    have c2:=bN.setRow w1 w.heap.size _ (pv cur β cap ii u.size G' zv.cells news) E3 hh1 (by rw[s2,s0])
    have c3:=(bN.drew w fun _=>False).trans cg1
    exact⟨c2.os.trans c3.os,c2.tape.trans c3.tape,c2.output.trans c3.output,Nat.le_trans c3.size c2.size,
     fun i hi hw=>(c2.blk i (Nat.lt_of_lt_of_le hi c3.size) (fun e=>by omega)).trans (c3.blk i hi hw),fun i s hs=>c2.shape i s (c3.shape i s hs)⟩
   have g:=mq (pre:=[vs1.length=1,(0:Int)<=(ii:Int),(ii:Int)<=(ys.length:Int),(ys.length+1)*bs<=140737488355328]) (v := .slice (some ⟨w.heap.size,0,none⟩) (cap+1) G') (E:=E3) (t:=u) (zs:=ys.take ii++(vs1++ys.drop ii)) m hun [n] hdn (W:=fun _=>False) (ev := .blk w.heap.size (0,cap+1)) cg
    (fun _ h=>h.elim) (by simp) (fun k l e=>by cases e;exact .inl (Nat.le_refl _)) (fun x=>.inr ⟨w.heap.size,(0,cap+1),G'*u.size,rfl,?_,?_,?_⟩)
   ·exact g
   ·refine⟨_,G',setRow_heap w1 w.heap.size _ _ E3 _ hh1,by rw[s2,Nat.zero_add],hnlen,hge,hcm',?_⟩
    intro k' hk'
    refine fG (fun _ h=>h) x.keep u _ _ _ _ (fun j _=>rfl) ?_
    have hv1:=L9 hp1
    have key:=P4 (A:=A) (w:=w) (u:=u) (xs:=ys) (y:=iU u vs1 0) (i:=ii) (o:=0) (off:=β) (row:=fun o=>(pv cur β cap ii u.size G' zv.cells news)[o]?) (cur:=fun o=>cur[o]?) hii2 hrdx hry ?_ ?_ ?_ k' (by rw[← hv1];exact hk')
    ·simp only[← hv1] at key;exact key
    ·intro j hj
     unfold pv
     try simp only
     rw[qd (by rw[s1,hcutl];omega),if_pos (by omega),qd (by rw[s0,hnl];omega),if_pos (by omega)]
     unfold pZ
     rw[Array.append_assoc,Array.getElem?_append_left (by simp only[List.size_toArray,hcut0];omega),List.getElem?_toArray,Nat.zero_add,tu hj]
    ·intro j hj
     unfold pv
     try simp only
     rw[qd (by rw[s1,hcutl];omega),if_pos (by omega),qd (by rw[s0,hnl];omega),if_neg (by omega),if_pos (by rw[hnl];omega)]
     congr 1;omega
    ·intro j hj
     rw[hxl] at hj
     unfold pv
     try simp only
     rw[qd (by rw[s1,hcutl];omega),if_neg (by omega),if_pos (by rw[hcutl];omega),show 0+(ii+1)*u.size+j-(ii+1)*u.size=j from by omega,tu hj]
   ·unfold World.shape?;rw[setRow_heap w1 w.heap.size _ _ E3 _ hh1];simp only[s2]
   ·show _=Value.slice _ _ ((G'*u.size-0)/u.size)
    rw[Nat.sub_zero,Nat.mul_div_cancel _ u.size_pos]
end
end Go.SX

/- Insf: a flight put into a list of flights (slices.Insert). -/
namespace Go.RS
open Go.SX Go.Proofs
set_option maxRecDepth 100000
set_option maxHeartbeats 4000000
set_option linter.unusedVariables false
def tz:Value := .agg #[.int .i64 0,.int .i64 0,.int .i64 0,.int .i64 0,.int .i64 0,.slice none 0 0]
section
variable {w:World}
theorem TO:LF Tryz.prog 108 33 116 6 64 tz.cells 33:=by
 refine⟨?_,?_,?_⟩
 ·intro w w' p q n c vc v hn hc hr
  have hz:(Go.sizeOf 116).run Tryz.prog w = .ok 6 w:=iR (by kernel_rfl) w
  unfold maxLen at hc
  cases p <;> go_enter Tryz.func108,Tryz.ntmps108 <;>
  go_wp2_with (at_builtin;refine Lib.wpList_append_run _ rfl _ _ _ _ rfl _ _ rfl rfl _ _ hr ?_)
  all_goals (go_ret;exact⟨rfl,rfl⟩)
 ·intro w b off n c i vb voff vc cur vcur E' vs hi hn hc hvb hb hf hv hvl hvs h1v h1c
  have hz:∀ w,(Go.sizeOf 116).run Tryz.prog w = .ok 6 w:=fun w=>iR (by kernel_rfl) w
  have mixed:Tryz.prog.follows .mixedOrders=true:=au
  unfold maxLen at hc
  have hsa:w.shape? vb=some (E',vcur.size):=by unfold World.shape?;rw[hv]
  have hsb:w.shape? b=some (116,cur.size):=by unfold World.shape?;rw[hb]
  have hfa:w.frozen? ⟨vb,voff,none⟩=false:=by simp[World.frozen?,hv]
  have hfe:w.frozen? ⟨vb,vcur.size,none⟩=false:=by simp[World.frozen?,hv]
  have hov:∀ lb cb o,(callFunc 171 #[.slice (some ⟨vb,voff,none⟩) 1 vc,.slice (some ⟨b,o,none⟩) lb cb]).run Tryz.prog w = .ok (.value (.bool false)) w:=fun lb cb o=>by
   rw[run_callFunc_extern Tryz.func171 (by kernel_rfl) (by kernel_rfl) (by kernel_rfl) (e:=Extern.SlicesOverlaps.overlaps #[33,33] #[4]) (by kernel_rfl),
    Lib.run_overlaps_apart w 33 4 116 Tryz.underlying33 6 hz ⟨vb,voff,none⟩ ⟨b,o,none⟩ 1 vc lb cb hvb E' 116 vcur.size cur.size hsa hsb (by omega) hfa hfe]
   rfl
  have hw1:IntKind.i64.wrap ((i:Int)+1)=(i:Int)+1:=by rw[IntKind.wrap_i64];omega
  have hw2:IntKind.i64.wrap ((n:Int)+1)=(n:Int)+1:=by rw[IntKind.wrap_i64];omega
  have hz2:¬ ((i:Int)=(n:Int)):=by omega
  have htn:((i:Int)+1).toNat=i+1:=by omega
  have htm:((n:Int)+1).toNat=n+1:=by omega
  have hb1:(0:Int)<=(i:Int)+1:=by omega
  have hb2:¬ (c=i+1):=by omega
  have hb3:(i:Int)<=(n:Int)+1:=by omega
  have hb4:¬ (c=i):=by omega
  have hin:i<=n:=by omega
  have e1:(i+1)*6=i*6+6:=by omega
  have hcl:(fS cur (off+i*6) ((n-i)*6)).length=(n-i)*6:=uL (by omega)
  have hsz:(Tryz.prog.info? 116).map (·.size)=some 6:=by kernel_rfl
  have hcp1:(Builtin.copy_ #[33,33] 3 #[.slice (some ⟨b,off+(i+1)*6,none⟩) (n-i) (c-(i+1)),.slice (some ⟨b,off+i*6,none⟩) (n+1-i) (c-i)]).run Tryz.prog w.drew =
    .ok (goInt ((n-i:Nat):Int)) (w.drew.setRow b (jc cur (off+(i+1)*6) (fS cur (off+i*6) ((n-i)*6)))):=by
   have h:=BU (P:=Tryz.prog) w.drew 33 33 3 116 6 b (off+(i+1)*6) (n-i) (c-(i+1)) ⟨b,off+i*6,none⟩ (n+1-i) (c-i) cur 116 (fS cur (off+i*6) ((n-i)*6)) Tryz.underlying33 hsz hb
    (by rw[hcl];simp only[Nat.min_def];split <;> omega)
    (fun j v hj=>by
     have hj':=(List.getElem?_eq_some_iff.1 hj).1
     rw[hcl] at hj'
     rw[tu hj'] at hj
     rw[Addr.add_lit,cell_of_row w.drew b _ cur 116 (0,0) hb];exact hj)
    (by rw[hcl];omega) h1c
   have hm:Nat.min (n+1-i) (n-i)=n-i:=by simp only[Nat.min_def];split <;> omega
   rw[hm] at h
   exact h
  have hr1:(jc cur (off+(i+1)*6) (fS cur (off+i*6) ((n-i)*6))).size=cur.size:=ut (by rw[hcl];omega)
  have hcp2:(Builtin.copy_ #[33,33] 3 #[.slice (some ⟨b,off+i*6,none⟩) (n+1-i) (c-i),.slice (some ⟨vb,voff,none⟩) 1 vc]).run Tryz.prog (w.drew.setRow b (jc cur (off+(i+1)*6) (fS cur (off+i*6) ((n-i)*6)))) =
    .ok (goInt 1) (w.drew.setRow b (qV cur off n i 6 vs)):=by
   have h:=BU (P:=Tryz.prog) (w.drew.setRow b (jc cur (off+(i+1)*6) (fS cur (off+i*6) ((n-i)*6)))) 33 33 3 116 6 b (off+i*6) (n+1-i) (c-i) ⟨vb,voff,none⟩ 1 vc _ 116 vs Tryz.underlying33 hsz
    (setRow_heap w.drew b cur _ 116 (0,0) hb)
    (by rw[hvl];simp only[Nat.min_def];split <;> omega)
    (fun j v hj=>by
     rw[Addr.add_lit,cell_setRow_other _ _ _ _ hvb]
     exact hvs j v hj)
    (by rw[hr1,hvl];omega) h1v
   have hm:Nat.min 1 (n+1-i)=1:=by simp only[Nat.min_def];split <;> omega
   rw[hm,setRow_setRow] at h
   exact h
  clear e1 hcl hr1
  go_enter Tryz.func108,Tryz.ntmps108
  go_wp2_with (simp only[hov])
  go_region
  go_wp2
  all_goals (go_ret;exact⟨rfl,rfl⟩)
 ·intro w b off n i vb voff vc cur vcur E' vs hi hn hby hb hf hv hvl hvs h1v h1c
  have hz:∀ w,(Go.sizeOf 116).run Tryz.prog w = .ok 6 w:=fun w=>iR (by kernel_rfl) w
  have mixed:Tryz.prog.follows .mixedOrders=true:=au
  have hx:(Tryz.prog.info? 116).map (fun i=>(i.zero,i.size,i.bytes))=some (some tz,6,64):=by kernel_rfl
  obtain⟨i0,hi0⟩:∃ i0,Tryz.prog.info? 116=some i0:=by
   cases hh:Tryz.prog.info? 116 with
   | none=>rw[hh] at hx;cases hx
   | some i0=>exact⟨i0,rfl⟩
  rw[hi0] at hx
  simp only[Option.map_some,Option.some.injEq,Prod.mk.injEq] at hx
  obtain⟨hz0,hzs,hzb⟩:=hx
  have hsz:(Tryz.prog.info? 116).map (·.size)=some 6:=by kernel_rfl
  have hbw:b<w.heap.size:=(Array.getElem?_eq_some_iff.1 hb).1
  have hvw:vb<w.heap.size:=(Array.getElem?_eq_some_iff.1 hv).1
  have hni:i*6+(n-i)*6=n*6:=by rw[← Nat.add_mul];congr 1;omega
  have hil:(fS cur off (i*6)).length=i*6:=uL (by omega)
  have hcl:(fS cur (off+i*6) ((n-i)*6)).length=(n-i)*6:=uL (by omega)
  have hold:(Builtin.firstCells i0.size i (.slice (some ⟨b,off,none⟩) i n)).run Tryz.prog w.drew = .ok (fS cur off (i*6)).toArray w.drew:=by
   rw[hzs]
   exact run_firstCells_some w.drew 6 i ⟨b,off,none⟩ i n (fS cur off (i*6)) hil (fun j v hj=>by
    have hj':=(List.getElem?_eq_some_iff.1 hj).1
    rw[hil] at hj'
    rw[tu hj'] at hj
    rw[Addr.add_lit,cell_of_row w.drew b _ cur 116 (0,0) hb];exact hj)
  have hGn:n+1<=grownCap w (n+1) n 116:=grownCap_ge w _ _ _
  have hG63:=grownCap_le_maxLen w (n+1) n 116 hn
  have hrz:(Builtin.append_ #[33,3] 33 #[.slice (some ⟨b,off,none⟩) i n,.int .i64 ((n:Int)+1-(i:Int))]).run Tryz.prog w =
    .ok (.slice (some ⟨w.heap.size,0,none⟩) (n+1) (grownCap w (n+1) n 116)) (w.drew.alloc (.cells (pZ cur off n i 6 (grownCap w (n+1) n 116) tz.cells) 116)):=by
   have h:=Lib.run_append_grow_zeros w 33 3 33 116 i0 _ .i64 .i64 Tryz.underlying33 Tryz.underlying3 hi0 hz0 (some ⟨b,off,none⟩) i n (fS cur off (i*6)) hold (n+1-i) (by omega) (by omega) (by omega) (by unfold maxLen at hn;omega) (by rw[hzb];omega)
    (by rw[show i+(n+1-i)=n+1 from by omega];exact growslice_fits (by omega) (by rw[hzb];exact hby))
   rw[show i+(n+1-i)=n+1 from by omega] at h
   rw[show (n:Int)+1-(i:Int)=((n+1-i:Nat):Int) from by omega]
   exact h
  generalize hG:grownCap w (n+1) n 116=G at *
  have hrs:(pZ cur off n i 6 G tz.cells).size=G*6:=by
   unfold pZ
   simp only[Array.size_append,List.size_toArray,hil,size_zeroCells]
   have:tz.cells.size=6:=rfl
   rw[this,← Nat.add_mul,← Nat.add_mul];congr 1;omega
  generalize hROW:pZ cur off n i 6 G tz.cells=ROW at *
  have hgN:(w.drew.alloc (.cells ROW 116)).heap[w.heap.size]? = some (.cells ROW 116 (0,0)):=heap_alloc_new w.drew _
  have hG6:(n+1)*6<=G*6:=Nat.mul_le_mul_right _ hGn
  have e1:(i+1)*6=i*6+6:=by omega
  have hr1:(jc ROW (i*6) vs).size=G*6:=by rw[ut (by rw[hrs,hvl];omega),hrs]
  have hcp1:(Builtin.copy_ #[33,33] 3 #[.slice (some ⟨w.heap.size,i*6,none⟩) (n+1-i) (G-i),.slice (some ⟨vb,voff,none⟩) 1 vc]).run Tryz.prog (w.alloc (.cells ROW 116)).drew =
    .ok (goInt 1) ((w.alloc (.cells ROW 116)).drew.setRow w.heap.size (jc ROW (i*6) vs)):=by
   have h:=BU (P:=Tryz.prog) (w.drew.alloc (.cells ROW 116)) 33 33 3 116 6 w.heap.size (i*6) (n+1-i) (G-i) ⟨vb,voff,none⟩ 1 vc _ 116 vs Tryz.underlying33 hsz hgN
    (by rw[hvl];simp only[Nat.min_def];split <;> omega)
    (fun j v hj=>by
     rw[Addr.add_lit,World.cell?_alloc_past (w:=w.drew) _ vb _ hvw]
     exact hvs j v hj)
    (by rw[hrs,hvl];omega) h1v
   have hm:Nat.min 1 (n+1-i)=1:=by simp only[Nat.min_def];split <;> omega
   rw[hm] at h
   exact h
  have hcp2:(Builtin.copy_ #[33,33] 3 #[.slice (some ⟨w.heap.size,(i+1)*6,none⟩) (n-i) (G-(i+1)),.slice (some ⟨b,off+i*6,none⟩) (n-i) (n-i)]).run Tryz.prog ((w.alloc (.cells ROW 116)).drew.setRow w.heap.size (jc ROW (i*6) vs)).drew =
    .ok (goInt ((n-i:Nat):Int)) ((w.alloc (.cells ROW 116)).drew.drew.setRow w.heap.size (jc (jc ROW (i*6) vs) ((i+1)*6) (fS cur (off+i*6) ((n-i)*6)))):=by
   have h:=BU (P:=Tryz.prog) ((w.alloc (.cells ROW 116)).drew.setRow w.heap.size (jc ROW (i*6) vs)).drew 33 33 3 116 6 w.heap.size ((i+1)*6) (n-i) (G-(i+1)) ⟨b,off+i*6,none⟩ (n-i) (n-i) _ 116 (fS cur (off+i*6) ((n-i)*6)) Tryz.underlying33 hsz
    (setRow_heap _ w.heap.size _ _ 116 (0,0) hgN)
    (by rw[hcl];simp only[Nat.min_def];split <;> omega)
    (fun j v hj=>by
     have hj':=(List.getElem?_eq_some_iff.1 hj).1
     rw[hcl] at hj'
     rw[tu hj'] at hj
     show World.cell? ((w.drew.alloc (.cells ROW 116)).setRow w.heap.size (jc ROW (i*6) vs)) _=_
     rw[Addr.add_lit,cell_setRow_other _ _ _ _ (by show b≠w.heap.size;omega),World.cell?_alloc_past (w:=w.drew) _ b _ hbw,cell_of_row w.drew b _ cur 116 (0,0) hb];exact hj)
    (by rw[hr1,hcl];omega) (fun v hv=>h1c v (by
     unfold fS at hv ⊢
     rw[← List.drop_drop] at hv
     have e2:List.take ((n-i)*6) (List.drop (i*6) (List.drop off cur.toList))=List.drop (i*6) (List.take (n*6) (List.drop off cur.toList)):=by
      rw[List.drop_take];congr 1;omega
     rw[e2] at hv
     exact List.mem_of_mem_drop hv))
   have hm:Nat.min (n-i) (n-i)=n-i:=by simp only[Nat.min_def];split <;> omega
   rw[hm] at h
   have hs2:∀(W:World)(g:Nat)(a b:Array Value),(W.setRow g a).drew.setRow g b=W.drew.setRow g b:=fun W g a b=>setRow_setRow W.drew g a b
   rw[hs2] at h
   exact h
  have hz2:¬ ((i:Int)=(n:Int)):=by omega
  have hw1:IntKind.i64.wrap ((i:Int)+1)=(i:Int)+1:=by rw[IntKind.wrap_i64];unfold maxLen at hn;omega
  have hw2:IntKind.i64.wrap ((n:Int)+1)=(n:Int)+1:=by rw[IntKind.wrap_i64];unfold maxLen at hn;omega
  have hz3:(n:Int)<(n:Int)+1:=by omega
  have hGi:¬ (G=i):=by omega
  have hGim:¬ (G=i+1):=by omega
  have hci:¬ (n=i):=by omega
  have hb1:(0:Int)<=(i:Int)+1:=by omega
  have hin:i<=n:=by omega
  have htn:((i:Int)+1).toNat=i+1:=by omega
  have hb3:(i:Int)<=(n:Int):=by omega
  have hiG:i<=n+1:=by omega
  unfold maxLen at hn hG63
  clear e1 hr1 hG6 hil hcl hni hrs hgN hold hGn
  go_enter Tryz.func108,Tryz.ntmps108
  go_wp2_with (at_builtin;refine Lib.wpList_append_run _ rfl _ _ _ _ rfl _ _ rfl rfl _ _ hrz ?_)
  go_region
  go_wp2
  all_goals (go_ret;exact⟨rfl,(w.alloc (.cells ROW 116)).drew.drew,((bN.alloc w.drew _ _).trans (bN.drew _ _)),by simp,heap_alloc_new w.drew _,by unfold pv;rw[hROW]⟩)
end
def ah2:Go.SX.Spec:=BV kw 116 64
theorem XH:av Tryz.prog GL 108 ah2:=by
 show av Tryz.prog GL 108 (BV kw 116 64)
 exact XP (u:=kw) (zv:=tz) TO Tryz.underlying33 (by kernel_rfl) rfl (by decide) rfl
end Go.RS

/- Topo2: networks: the program's check of all, finding, and routes at a time. -/
namespace Go.RS
open Go.SX Go.Proofs
set_option maxRecDepth 100000
set_option linter.unusedVariables false
def vT{α:Type}(q:α->Bool)(l:List α):Int:=if l.findIdx q<l.length then (l.findIdx q:Int) else -1
theorem SY{α:Type}{q:α->Bool}{l:List α}:decide (0<=vT q l)=l.any q:=by
 unfold vT
 cases h:l.any q with
 | true =>
  rw[if_pos (List.findIdx_lt_length_of_exists (by simpa using h))]
  exact decide_eq_true (by omega)
 | false =>
  have:l.findIdx q=l.length:=List.findIdx_eq_length_of_false (by simpa using h)
  rw[if_neg (by omega)];rfl
theorem uI{a b:Int}(h:a≠0):a=mU a b:=by unfold mU;rw[if_pos h]
theorem wT{a b:Int}(h:a=0):mU a b=b:=by unfold mU;rw[if_neg (fun k=>k h)]
def IR:Ct:=⟨[.agg iC],[.val cI],fun d=>[],fun d=>((lu d.1,()),())⟩
def ao1:ar IR.ps->ay:=(fun d=>{loops:=(fun n=>match n with|2=>some (fun S=>{ι:=Int,μ:=fun i=>(d.1.1.length-i).toNat,inv:=fun i=>0<=i/\i<=d.1.1.length/\first (lW d.1) i.toNat=0,keep:=[1,9,10],slots:=fun i=>[(11,.int .i64 i)],keepN:=[32],names:=fun i=>[]})|8=>some (fun S=>{ι:=Int,μ:=fun i=>((bv (d.1.1.getD (S.i 11).toNat default)).length-i).toNat,inv:=fun i=>0<=i/\i<=(bv (d.1.1.getD (S.i 11).toNat default)).length∧∀ k∈(bv (d.1.1.getD (S.i 11).toNat default)).take i.toNat,nW d.1 (S.i 11).toNat k=false,keep:=[1,3,9,10,11,22,23],slots:=fun i=>[(24,.int .i64 i)],keepN:=[32,368],names:=fun i=>[]})|_=>none)})
def eh(a:List ac) :=
 (a.length:Int)
def nH(a:List ac)(d:Int) :=
 bv (a.getD d.toNat default)
def wM(a:List ac)(b:List aF)(c:List aN) :=
 (a.length<=maxLen/\ ∀(d:ac),d∈a->CT.wf bH d)/\(b.length<=maxLen/\ ∀(d:aF),d∈b->CT.wf fy d)/\c.length<=maxLen/\ ∀(d:aN),d∈c->CT.wf dZ d
def nM(a:List ac)(d:Int) :=
 ((List.length (nH a d)):Int)
theorem ae4 :
 ∀(a:List ac)(b:List aF)(c:List aN),(wM a b c)/\True->True->(∃(d:Int),(0<=d/\d<=(eh a)/\first (lW (a,b,c)) d.toNat=0)/\a=a/\(eh a)=(eh a)/\(0:Int)=d/\a=a/\b=b/\c=c/\True)/\ ∀(d:Int),0<=d/\d<=(eh a)/\first (lW (a,b,c)) d.toNat=0->ad (decide (d<(eh a))) (0<=d/\d<(eh a)/\ad (! decide (d9 (a.getD d.toNat default)=0)) (d9 (a.getD d.toNat default)=lu (a,b,c)) (List.length (aC (a.getD d.toNat default))<=(100000:Nat)/\(∃(e:Int),(0<=e/\e<=(nM a d)/\ ∀(f:Int),f∈List.take e.toNat (nH a d)->nW (a,b,c) d.toNat f=false)/\d=d/\a=a/\(eh a)=(eh a)/\d=d/\(nM a d)=(nM a d)/\(0:Int)=e/\a=a/\b=b/\c=c/\bv (a.getD d.toNat default)=bv (a.getD d.toNat default)/\True)/\ ∀(e:Int),(0<=e/\e<=(nM a d)/\ ∀(f:Int),f∈List.take e.toNat (nH a d)->nW (a,b,c) d.toNat f=false)->ad (decide (e<(nM a d))) (0<=e/\e<(nM a d)/\ ∀(f:Bool),f=decide
 ((b.length:Int)<=List.getD (nH a d) e.toNat default)->((! f)->((! f)->(! f))/\True)/\((! f)->((! f)->(! f))/\((! f)->(! f))/\0<=List.getD (nH a d) e.toNat default/\List.getD (nH a d) e.toNat default<(b.length:Int)/\True)/\((! f)->((! f)->(! f))/\True)/\((! f)->((! f)->(! f))/\True)/\((! f)->((! f)->(! f))/\((! f)->(! f))/\True)/\((! f)->((! f)->(! f))/\True)/\ ∀(g:Bool),g= ! decide ((b.getD (Int.toNat (List.getD (nH a d) e.toNat default)) default).1=d)->((! f&&g)->((! f&&g)->(! f&&g))/\True)/\((! f&&g)->((! f&&g)->(! f&&g))/\((! f&&g)->(! f&&g))/\0<=List.getD (nH a d) e.toNat default/\List.getD (nH a d) e.toNat default<(b.length:Int)/\True)/\((! f&&g)->((! f&&g)->(! f&&g))/\True)/\((! f&&g)->((! f&&g)->(! f&&g))/\True)/\((! f&&g)->((! f&&g)->(! f&&g))/\((! f&&g)->(! f&&g))/\True)/\((! f)->((! f)->(! f))/\(g->(! f&&g))/\True)/\(f=false->(! f))/\ad (bif f then true else bif g
 then ! decide ((b.getD (Int.toNat (List.getD (nH a d) e.toNat default)) default).2.1=d) else false) ((11:Int)=lu (a,b,c)) (∃(h:Int),(0<=h/\h<=(nM a d)/\ ∀(i:Int),i∈List.take h.toNat (nH a d)->nW (a,b,c) d.toNat i=false)/\Int.toNat ((nM a d) -h)<Int.toNat ((nM a d) -e)/\d=d/\a=a/\(eh a)=(eh a)/\d=d/\(nM a d)=(nM a d)/\IntKind.wrap .i64 (e+(1:Int))=h/\a=a/\b=b/\c=c/\bv (a.getD d.toNat default)=bv (a.getD d.toNat default)/\True)) (∃(f:Int),(0<=f/\f<=(eh a)/\first (lW (a,b,c)) f.toNat=0)/\Int.toNat ((eh a) -f)<Int.toNat ((eh a) -d)/\a=a/\(eh a)=(eh a)/\IntKind.wrap .i64 (d+(1:Int))=f/\a=a/\b=b/\c=c/\True))) ((0:Int)=lu (a,b,c)):=by
  delta nH wM nM eh
  rintro ns ls hs ⟨⟨⟨hnl,-⟩,⟨hl,-⟩,-⟩,-⟩ -
  simp only[maxLen] at hl hnl
  refine⟨⟨0,⟨by omega,by omega,rfl⟩,(by repeat' first|exact trivial|refine⟨trivial,?_⟩|refine⟨(by with_reducible rfl),?_⟩|refine⟨af (by omega) (by omega),?_⟩|refine⟨rfl,?_⟩)⟩,?_⟩
  rintro i ⟨i0,i1,hf⟩
  refine ae (fun hi=>?_) (fun hi=>?_)
  rotate_left
  ·have hi:=of_decide_eq_false hi
   rw[show i.toNat=ns.length by omega] at hf
   exact hf.symm
  have hi:=of_decide_eq_true hi
  have ei:((i.toNat:Nat):Int)=i:=by omega
  have hit:=fun h=>Gp (f:=lW (ns,ls,hs)) (n:=ns.length) i0 hi hf h
  refine⟨i0,hi,ae (fun h=>?_) (fun h=>?_)⟩
  ·have h:=fY h
   have e:lW (ns,ls,hs) i.toNat=d9 (ns.getD i.toNat default):=if_pos h
   have k:=hit (by rw[e];exact h)
   rw[e] at k;exact k
  have h:=gz h
  have nv:=Hq h
  have k0:=az8 nv.bad
  have hlen:(bv (ns.getD i.toNat default)).length=(aC (ns.getD i.toNat default)).length:=by simp[bv]
  have n32:=nv.len
  refine⟨by omega,⟨0,⟨by omega,by omega,by simp⟩,(by repeat' first|exact trivial|refine⟨trivial,?_⟩|refine⟨(by with_reducible rfl),?_⟩|refine⟨af (by omega) (by omega),?_⟩|refine⟨rfl,?_⟩)⟩,?_⟩
  rintro j ⟨j0,j1,hj⟩
  refine ae (fun hk=>?_) (fun hk=>?_)
  rotate_left
  ·have hk:=of_decide_eq_false hk
   rw[List.take_of_length_le (by omega)] at hj
   refine⟨i+1,⟨by omega,by omega,Ao i0 hf ?_⟩,by omega,(by repeat' first|exact trivial|refine⟨trivial,?_⟩|refine⟨(by with_reducible rfl),?_⟩|refine⟨af (by omega) (by omega),?_⟩|refine⟨rfl,?_⟩)⟩
   unfold lW
   rw[if_neg (fun q=>q h),if_neg]
   intro q
   obtain⟨k,hk,q⟩:=List.any_eq_true.1 q
   rw[hj k hk] at q;cases q
  have hk:=of_decide_eq_true hk
  have hm:=bL j0 hk
  have cJ:=fun h=>rM j0 hk hj h (P:=fun k=>nW (ns,ls,hs) i.toNat k=false)
  have kk:=k0 _ hm
  refine⟨j0,hk,?_⟩
  generalize (bv (ns.getD i.toNat default)).getD j.toNat default=k at hm cJ kk ⊢
  intro b hb
  (repeat refine⟨(by first|(simp;done)|exact fun h=>⟨fun _=>h,fun _=>h,kk,by rw[hb] at h;have:=fY h;omega,trivial⟩),?_⟩)
  intro b1 hb1
  (repeat refine⟨(by first|(simp;done)|(simp +contextual;done)|exact fun h=>⟨fun _=>h,fun _=>h,kk,by rw[hb] at h;have:=fY (Bool.and_eq_true_iff.1 h).1;omega,trivial⟩),?_⟩)
  have tot:(bif b then true else bif b1 then !decide ((ls.getD k.toNat default).2.1=i) else false)=nW (ns,ls,hs) i.toNat k:=by
   rw[hb,hb1]
   unfold nW lA lB
   rw[ei]
   cases decide ((ls.length:Int)<=k) <;> cases decide ((ls.getD k.toNat default).1=i) <;> cases decide ((ls.getD k.toNat default).2.1=i) <;> rfl
  rw[tot]
  refine ae (fun ht=>?_) (fun ht=>?_)
  ·have e:lW (ns,ls,hs) i.toNat=11:=by
    unfold lW
    rw[if_neg (fun q=>q h),if_pos (List.any_eq_true.2 ⟨_,hm,ht⟩)]
   have q:=hit (by rw[e];decide)
   rw[e] at q;exact q
  ·exact⟨j+1,⟨by omega,by omega,cJ ht⟩,by omega,(by repeat' first|exact trivial|refine⟨trivial,?_⟩|refine⟨(by with_reducible rfl),?_⟩|refine⟨af (by omega) (by omega),?_⟩|refine⟨rfl,?_⟩)⟩
theorem Ss:av Tryz.prog GL 116 IR.spec:=Ct.okH _ Tryz.func116 (by kernel_rfl) (ah (ah aA YV) L3) au ao1 (aB (by kernel_rfl) ae4)
def MP:Ct:=⟨[.val (.sl cu),.agg dZ],[.own 97 cu],fun d=>[bM d.1,okL d.1,((dh d.2.1).2.1.length:Int)<=1099511627776],fun d=>((fJ d.1 d.2.1,()),())⟩
def WF:ar MP.ps->ay:=(fun _=>{})
def uY(a:List aD) :=
 a.length<=maxLen/\ ∀(c:aD),c∈a->((0<=c.1.1/\c.1.1<=4294967295)/\ab c.1.2)/\(c.2.1.length<=maxLen/\ ∀(d:Int),d∈c.2.1->ab d)/\ab c.2.2
theorem Qd :
 ∀(a:List aD)(b:aN),(uY a)/\CT.wf dZ b/\True->bM a/\okL a/\((List.length (dh b).2.1):Int)<=1099511627776->ad b.2.2.1 (bM a/\okL a/\gI a b.2.2.2.1=fJ a b) (bM a/\okL a/\(b.2.2.2.2.1.length:Int)<=1099511627776/\dP a b.2.2.2=fJ a b):=by
  delta uY
  rintro l c-⟨hs,hl,hx⟩
  unfold fJ
  rw[show c.2.2.1=qY c from rfl]
  refine ae (fun h=>⟨hs,hl,?_⟩) (fun h=>⟨hs,hl,hx,?_⟩)
  ·rw[if_pos h];rfl
  ·rw[if_neg (by rw[h];decide)];rfl
theorem ay9:av Tryz.prog GL 156 MP.spec:=Ct.okH _ Tryz.func156 (by kernel_rfl) (ah (ah aA IN) It) au WF (aB (by kernel_rfl) Qd)
def kM(p:cM)(r:Rt):Bool:=decide (r.1=p)
def Lj:Ct:=⟨[.agg cu,.box 129 dZ],[.val .bool],fun _=>[],fun d=>((kM (dh d.2.1).1 d.1,()),(d.2.1,()))⟩
def ab7:ar Lj.ps->ay:=(fun _=>{})
theorem Qq :
 ∀(a b:Int)(c:List Int)(d:Int)(e:aN),(((0<=a/\a<=4294967295)/\ab b)/\(c.length<=maxLen/\ ∀(f:Int),f∈c->ab f)/\ab d)/\CT.wf dZ e/\True->True->(decide (a=e.2.2.2.1.1)&&(decide (b=e.2.2.2.1.2)&&true))=kM (dh e).1 ((a,b),c,d)/\e=e:=by
  rintro a n nx b c - -
  refine⟨?_,rfl⟩
  rw[Bool.eq_iff_iff];simp[kM,Prod.ext_iff,dh]
theorem an1:av Tryz.prog GL 178 Lj.spec:=Ct.okH _ Tryz.func178 (by kernel_rfl) aA au ab7 (aB (by kernel_rfl) Qq)
def Lt:Ct:=⟨[.val (.sl cu),.fn 178 1,.box 129 dZ],[.val cI],fun _=>[],fun d=>((vT (kM (dh d.2.2.1).1) d.1,()),(d.2.2.1,()))⟩
def ar5:ar Lt.ps->ay:=(fun d=>{loops:=(fun n=>match n with|2=>some (fun S=>{ι:=Int,μ:=fun i=>(d.1.length-i).toNat,inv:=fun i=>0<=i/\i<=d.1.length∧∀ x∈d.1.take i.toNat,kM (dh d.2.2.1).1 x=false,keep:=[0,1,6,7],slots:=fun i=>[(8,.int .i64 i)],keepN:=[1048576],names:=fun i=>[]})|_=>none)})
def Dj(b:aN) :=
 b.1=b.1/\b.2.1=b.2.1/\b.2.2.1=b.2.2.1/\b.2.2.2.1.1=b.2.2.2.1.1/\b.2.2.2.1.2=b.2.2.2.1.2/\b.2.2.2.2.1=b.2.2.2.2.1/\b.2.2.2.2.2=b.2.2.2.2.2/\True
theorem ap3 :
 ∀(a:List aD)(b:aN),(uY a)/\True/\CT.wf dZ b/\True->True->(∃(c:Int),(0<=c/\c<=(a.length:Int)/\ ∀(d:aD),d∈List.take c.toNat a->kM (dh b).1 d=false)/\a=a/\a=a/\(a.length:Int)=(a.length:Int)/\(0:Int)=c/\(Dj b))/\ ∀(c:Int),(0<=c/\c<=(a.length:Int)/\ ∀(d:aD),d∈List.take c.toNat a->kM (dh b).1 d=false)->ad (decide (c<(a.length:Int))) (0<=c/\c<(a.length:Int)/\ad (kM b.2.2.2.1 (a.getD c.toNat default)) (c=vT (kM (dh b).1) a/\b=b) (∃(d:Int),(0<=d/\d<=(a.length:Int)/\ ∀(e:aD),e∈List.take d.toNat a->kM (dh b).1 e=false)/\Int.toNat ((a.length:Int) -d)<Int.toNat ((a.length:Int) -c)/\a=a/\a=a/\(a.length:Int)=(a.length:Int)/\IntKind.wrap .i64 (c+(1:Int))=d/\(Dj b))) ((-1:Int)=vT (kM (dh b).1) a/\b=b):=by
  delta uY Dj
  rintro l c ⟨⟨hl,-⟩,-⟩ -
  simp only[maxLen] at hl
  refine⟨⟨0,⟨by omega,by omega,by simp⟩,(by repeat' first|exact trivial|refine⟨trivial,?_⟩|refine⟨(by with_reducible rfl),?_⟩|refine⟨af (by omega) (by omega),?_⟩|refine⟨rfl,?_⟩)⟩,?_⟩
  rintro j ⟨j0,j1,hj⟩
  refine ae (fun hk=>?_) (fun hk=>?_)
  ·have hk:=of_decide_eq_true hk
   refine⟨j0,hk,ae (fun hm=>?_) (fun hm=>?_)⟩
   ·exact⟨BM j0 hk hj hm,rfl⟩
   ·exact⟨j+1,⟨by omega,by omega,rM j0 hk hj hm⟩,by omega,(by repeat' first|exact trivial|refine⟨trivial,?_⟩|refine⟨(by with_reducible rfl),?_⟩|refine⟨af (by omega) (by omega),?_⟩|refine⟨rfl,?_⟩)⟩
  ·exact⟨DA (of_decide_eq_false hk) hj,rfl⟩
theorem az3:av Tryz.prog GL 221 Lt.spec:=Ct.okH _ Tryz.func221 (by kernel_rfl) (ah aA an1) au ar5 (aB (by kernel_rfl) ap3)
def OA:Ct:=⟨[.val (.sl cu),.fn 178 1,.box 129 dZ],[.val .bool],fun _=>[],fun d=>((d.1.any (kM (dh d.2.2.1).1),()),(d.2.2.1,()))⟩
def ad5:ar OA.ps->ay:=(fun _=>{})
theorem Ry :
 ∀(a:List aD)(b:aN),(uY a)/\True/\CT.wf dZ b/\True->True->decide (0<=vT (kM b.2.2.2.1) a)=List.any a (kM (dh b).1)/\b=b:=by
  delta uY
  rintro l c - -
  exact⟨SY,rfl⟩
theorem ax9:av Tryz.prog GL 177 OA.spec:=Ct.okH _ Tryz.func177 (by kernel_rfl) (ah aA az3) au ad5 (aB (by kernel_rfl) Ry)
theorem Xl{l:List Rt}{p:cM}:l.any (kM p)=lZ l p:=by rw[VJ,Bool.eq_iff_iff];simp[kM]
theorem aj9{ns:List ac}{j:Nat}(h:j<ns.length):((ns.take j).map aV++List.replicate (ns.length-j) []).set j (aV (ns.getD j default))=(ns.take (j+1)).map aV++List.replicate (ns.length-(j+1)) []:=by
 have e1:((ns.take j).map aV).length=j:=by simp;omega
 rw[show ns.length-j=(ns.length-(j+1))+1 by omega,List.replicate_succ,List.set_append_right _ _ (by omega),e1,Nat.sub_self,List.set_cons_zero,List.take_succ_eq_append_getElem h,List.map_append,List.getD_eq_getElem?_getD,List.getElem?_eq_getElem h]
 simp
theorem ZC(n:bw){j:Int}(j0:0<=j):iy n j.toNat=mX n j.toNat (n.2.2.getD j.toNat default) (n.2.2.getD (j-1).toNat default) ((c8 n j.toNat).getD (bu (n.2.2.getD j.toNat default)).toNat default):=by
 unfold iy;rw[show (j-1).toNat=j.toNat-1 by omega]
def J5:Ct:=⟨[.agg iC],[.val cI],fun d=>[lu d.1=0,d.1.1.length<=64,∀ c∈d.1.2.2,((dh c).2.1.length:Int)<=1099511627776],fun d=>((na d.1,()),())⟩
def Qa:ar J5.ps->ay:=(fun d=>{loops:=(fun n=>match n with|3=>some (fun S=>{ι:=Int×(List (List Rt)),qn:=⟨fun k_=>∀(j:Int)(t:(List (List Rt))),k_ (j,t),fun k_ h_ i=>h_ i.1 i.2,fun k_=>∃ (j:Int) (t:(List (List Rt))),k_ (j,t),fun k_ ⟨j,t,h_⟩=>⟨_,h_⟩⟩,μ:=fun i=>(d.1.1.length-i.1).toNat,inv:=fun i=>0<=i.1/\i.1<=d.1.1.length/\i.2=(d.1.1.take i.1.toNat).map aV++List.replicate (d.1.1.length-i.1.toNat) [],keep:=[1,15,16],slots:=fun i=>[(3,.own 524288 1),(17,.int .i64 i.1)],keepN:=[32],names:=fun i=>[(524288,.live (.row 103 (.sl cu) i.2))]})|8=>some (fun S=>{ι:=Int×(List (List Rt)),qn:=⟨fun k_=>∀(j:Int)(t:(List (List Rt))),k_ (j,t),fun k_ h_ i=>h_ i.1 i.2,fun k_=>∃ (j:Int) (t:(List (List Rt))),k_ (j,t),fun k_ ⟨j,t,h_⟩=>⟨_,h_⟩⟩,μ:=fun i=>(d.1.2.2.length-i.1).toNat,inv:=fun i=>0<=i.1/\i.1<=d.1.2.2.length/\first (iy d.1) i.1.toNat=0/\i.2=c8 d.1 i.1.toNat,keep:=[1,29,30],slots:=fun i=>[(3,.own 524288 1),(31,.int .i64 i.1)],keepN:=[32],names:=fun i=>[(524288,.live (.row 103 (.sl cu) i.2))]})|_=>none)})
def jQ(c:List aN)(f:Int) :=
 c.getD f.toNat default
def pe(c:List aN)(f:Int) :=
 Int.toNat (jQ c f).2.1
def DM(a:List ac)(b:List aF)(c:List aN)(f:Int)(g:List (List Rt)) :=
 bM (g.getD (pe c f) default)/\okL (g.getD (pe c f) default)/\((List.length (jQ c f).2.2.2.2.1):Int)<=1099511627776/\0<=(jQ c f).2.1/\(jQ c f).2.1<(eh a)/\List.length (aC (a.getD (pe c f) default))<=(100000:Nat)/\ad (! decide (dE (fJ (g.getD (pe c f) default) (jQ c f)) (bv (a.getD (pe c f) default))=0)) (dE (fJ (g.getD (pe c f) default) (jQ c f)) (bv (a.getD (pe c f) default))=na (a,b,c)) (0<=(jQ c f).2.1/\(jQ c f).2.1<(g.length:Int)/\ ∃(j:Int) (k:List (List Rt)),(0<=j/\j<=(c.length:Int)/\first (iy (a,b,c)) j.toNat=0/\k=c8 (a,b,c) j.toNat)/\Int.toNat ((c.length:Int) -j)<Int.toNat ((c.length:Int) -f)/\c=c/\(c.length:Int)=(c.length:Int)/\IntKind.wrap .i64 (f+(1:Int))=j/\a=a/\b=b/\c=c/\List.set g (pe c f) (fJ (g.getD (pe c f) default) (jQ c f))=k/\True)
def yp(c:List aN) :=
 ∀(d:aN),d∈c->((List.length (dh d).2.1):Int)<=1099511627776
theorem Wf :
 ∀(a:List ac)(b:List aF)(c:List aN),(wM a b c)/\True->(lu (a,b,c)=0/\a.length<=(64:Nat)/\ (yp c))->0<=(eh a)/\(eh a)<=(eh a)/\(↑(24:Nat):Int)*(eh a)<=281474976710656/\(∃(d:Int) (e:List (List Rt)),(0<=d/\d<=(eh a)/\e=List.map aV (List.take d.toNat a)++List.replicate (a.length -d.toNat) ([]:List aD))/\a=a/\(eh a)=(eh a)/\(0:Int)=d/\a=a/\b=b/\c=c/\List.replicate (Int.toNat (eh a)) ([]:List aD)=e/\True)/\ ∀(d:Int)(e:List (List Rt)),0<=d/\d<=(eh a)/\e=List.map aV (List.take d.toNat a)++List.replicate (a.length -d.toNat) ([]:List aD)->ad (decide (d<(eh a))) (0<=d/\d<(eh a)/\0<=d/\d<(e.length:Int)/\ ∃(f:Int) (g:List (List Rt)),(0<=f/\f<=(eh a)/\g=List.map aV (List.take f.toNat a)++List.replicate (a.length -f.toNat) ([]:List aD))/\Int.toNat ((eh a) -f)<Int.toNat ((eh a) -d)/\a=a/\(eh a)=(eh a)/\IntKind.wrap .i64
 (d+(1:Int))=f/\a=a/\b=b/\c=c/\List.set e d.toNat (a.getD d.toNat default).2.2.2.2.1=g/\True) ((∃(f:Int) (g:List (List Rt)),(0<=f/\f<=(c.length:Int)/\first (iy (a,b,c)) f.toNat=0/\g=c8 (a,b,c) f.toNat)/\c=c/\(c.length:Int)=(c.length:Int)/\(0:Int)=f/\a=a/\b=b/\c=c/\e=g/\True)/\ ∀(f:Int)(g:List (List Rt)),0<=f/\f<=(c.length:Int)/\first (iy (a,b,c)) f.toNat=0/\g=c8 (a,b,c) f.toNat->ad (decide (f<(c.length:Int))) (0<=f/\f<(c.length:Int)/\ad (! decide (0<=(jQ c f).1/\(jQ c f).1<=1125899906842624)) ((1:Int)=na (a,b,c)) (∀(h:Bool),h=decide (0<f)->(h->(h->h)/\True)/\(h->(h->h)/\True)/\(h->(h->h)/\True)/\(h->(h->h)/\(h->h)/\0<=IntKind.wrap .i64 (f -(1:Int))/\IntKind.wrap .i64 (f -(1:Int))<(c.length:Int)/\True)/\(h->(h->h)/\True)/\(h->(h->h)/\True)/\(h->(h->h)/\(h->h)/\True)/\(h->h)/\ad (bif h then decide ((jQ c f).1<(c.getD (Int.toNat (IntKind.wrap .i64 (f -(1:Int))))
 default).1) else false) ((6:Int)=na (a,b,c)) (ad (! decide (0<=(jQ c f).2.1/\(jQ c f).2.1<=IntKind.wrap .i64 ((eh a) -(1:Int)))) ((8:Int)=na (a,b,c)) (0<=(jQ c f).2.1/\(jQ c f).2.1<(g.length:Int)/\ ∀(i:Bool),i=(jQ c f).2.2.1->ad i ((i->i)/\(i->i)/\(i->i)/\ad (bif i then ! List.any (g.getD (pe c f) default) (kM (jQ c f).2.2.2.1) else false) ((8:Int)=na (a,b,c)) (DM a b c f g)) (i=false/\(i->false=true)/\ad (bif i then false else false) ((8:Int)=na (a,b,c)) (DM a b c f g)))))) ((0:Int)=na (a,b,c))):=by
  delta DM jQ wM eh pe yp
  rintro ns ls hs ⟨⟨⟨hnl,-⟩,⟨hl,-⟩,⟨hhl,-⟩⟩,-⟩⟨hb,hn,hx⟩
  simp only[maxLen] at hl hnl hhl
  refine⟨by omega,by omega,by omega,⟨0,_,⟨by omega,by omega,rfl⟩,by (repeat first|refine⟨trivial,?_⟩|refine⟨(by with_reducible rfl),?_⟩|refine⟨af (by omega) (by omega),?_⟩);simp⟩,?_⟩
  rintro j t ⟨j0,j1,rfl⟩
  have tl:((ns.take j.toNat).map aV++List.replicate (ns.length-j.toNat) ([]:List Rt)).length=ns.length:=by simp;omega
  refine ae (fun hj=>?_) (fun hj=>?_)
  ·have hj:=of_decide_eq_true hj
   refine⟨j0,hj,j0,by rw[tl];exact hj,j+1,_,⟨by omega,by omega,rfl⟩,by omega,?_⟩
   (repeat first|refine⟨trivial,?_⟩|refine⟨(by with_reducible rfl),?_⟩|refine⟨af (by omega) (by omega),?_⟩)
   refine⟨?_,trivial⟩
   rw[show (j+1).toNat=j.toNat+1 by omega,← aj9 (by omega)];rfl
  have hj:=of_decide_eq_false hj
  have e0:(ns.take j.toNat).map aV++List.replicate (ns.length-j.toNat) ([]:List Rt)=c8 (ns,ls,hs) 0:=by
   rw[List.take_of_length_le (by omega),show ns.length-j.toNat=0 by omega];simp[c8]
  rw[e0]
  clear e0 tl hj j0 j1
  refine⟨⟨0,_,⟨by omega,by omega,rfl,rfl⟩,(by repeat' first|exact trivial|refine⟨trivial,?_⟩|refine⟨(by with_reducible rfl),?_⟩|refine⟨af (by omega) (by omega),?_⟩|refine⟨rfl,?_⟩)⟩,?_⟩
  rintro j t ⟨j0,j1,hf,rfl⟩
  refine ae (fun hj=>?_) (fun hj=>?_)
  rotate_left
  ·have hj:=of_decide_eq_false hj
   rw[show j.toNat=hs.length by omega] at hf
   exact hf.symm
  have hj:=of_decide_eq_true hj
  have hm:=bL j0 hj
  have tb:=JQ hb hf
  have tl:=oW (ns,ls,hs) j.toNat
  have hit:=fun h=>Gp (f:=iy (ns,ls,hs)) (n:=hs.length) j0 hj hf h
  have eq:=ZC (ns,ls,hs) j0
  have ej:((j.toNat:Nat):Int)=j:=by omega
  rw[af (n:=j-1) (by omega) (by omega),af (n:=(ns.length:Int)-1) (by omega) (by omega)]
  refine⟨j0,hj,ae (fun h=>?_) (fun h=>?_)⟩
  ·have h:=fY h
   have e:iy (ns,ls,hs) j.toNat=1:=by
    rw[eq];unfold mX;rw[if_pos];dsimp only[fQ];omega
   have q:=hit (by rw[e];decide)
   rw[e] at q;exact q
  have h1:=gz h
  have c1:¬ (fQ (hs.getD j.toNat default)<0∨1125899906842624<fQ (hs.getD j.toNat default)):=by unfold fQ;omega
  clear h
  intro b hb1
  (repeat refine⟨(by first|(simp;done)|exact fun h=>⟨fun _=>h,fun _=>h,by rw[hb1] at h;have:=of_decide_eq_true h;omega,by rw[hb1] at h;have:=of_decide_eq_true h;omega,trivial⟩),?_⟩)
  rw[hb1,D9]
  refine ae (fun h=>?_) (fun h=>?_)
  ·have h:=of_decide_eq_true h
   have e:iy (ns,ls,hs) j.toNat=6:=by
    rw[eq];unfold mX;rw[if_neg c1,if_pos];exact⟨by omega,h.2⟩
   have q:=hit (by rw[e];decide)
   rw[e] at q;exact q
  have c2:¬ (0<j.toNat/\fQ (hs.getD j.toNat default)<fQ (hs.getD (j-1).toNat default)):=fun q=>of_decide_eq_false h ⟨by omega,q.2⟩
  clear h
  refine ae (fun h=>?_) (fun h=>?_)
  ·have h:=fY h
   have e:iy (ns,ls,hs) j.toNat=8:=by
    rw[eq];unfold mX;rw[if_neg c1,if_neg c2,if_pos]
    dsimp only[bu];omega
   have q:=hit (by rw[e];decide)
   rw[e] at q;exact q
  have h2:=gz h
  have h2:0<=bu (hs.getD j.toNat default)/\bu (hs.getD j.toNat default)<=(ns.length:Int)-1:=h2
  have c3:¬ (bu (hs.getD j.toNat default)<0∨(ns.length:Int)<=bu (hs.getD j.toNat default)):=by omega
  clear h
  refine⟨h2.1,by rw[tl];show bu _<(ns.length:Int);omega,?_⟩
  intro b2 hb2
  have hb2:b2=qY (hs.getD j.toNat default):=hb2
  refine ae (fun q=>?_) (fun q=>?_)
  ·subst q
   (repeat refine⟨by simp,?_⟩)
   simp only[cond_true]
   rw[Xl]
   refine ae (fun h=>?_) (fun h=>?_)
   ·have e:iy (ns,ls,hs) j.toNat=8:=by
     rw[eq];unfold mX;rw[if_neg c1,if_neg c2,if_neg c3,if_pos]
     exact⟨hb2.symm,(Bool.not_eq_true' _).mp h⟩
    have q:=hit (by rw[e];decide)
    rw[e] at q;exact q
   have c4:¬ (qY (hs.getD j.toNat default)=true/\lZ ((c8 (ns,ls,hs) j.toNat).getD (bu (hs.getD j.toNat default)).toNat default) (dh (hs.getD j.toNat default)).1=false):=fun z=>by
    have z2:=z.2
    have h:(!lZ ((c8 (ns,ls,hs) j.toNat).getD (bu (hs.getD j.toNat default)).toNat default) (dh (hs.getD j.toNat default)).1)=false:=h
    rw[z2] at h;cases h
   have wl:(bu (hs.getD j.toNat default)).toNat<ns.length:=by omega
   have tr:=tb.r (bu (hs.getD j.toNat default)).toNat wl
   refine⟨tr.1,tr.2,hx _ hm,by omega,by omega,by have:=(zL (n:=(ns,ls,hs)) hb wl).len;exact Nat.le_trans this (by decide),ae (fun h=>?_) (fun h=>?_)⟩
   ·have h:=fY h
    have e:iy (ns,ls,hs) j.toNat=dE (fJ ((c8 (ns,ls,hs) j.toNat).getD (bu (hs.getD j.toNat default)).toNat default) (hs.getD j.toNat default)) (bv (ns.getD (bu (hs.getD j.toNat default)).toNat default)):=by
     rw[eq];unfold mX;rw[if_neg c1,if_neg c2,if_neg c3,if_neg c4]
    have k:=hit (by rw[e];exact h)
    rw[e] at k;exact k
   ·have h:=gz h
    have e:iy (ns,ls,hs) j.toNat=0:=by
     rw[eq];unfold mX;rw[if_neg c1,if_neg c2,if_neg c3,if_neg c4];exact h
    refine⟨by omega,by rw[oW];show bu _<(ns.length:Int);omega,j+1,c8 (ns,ls,hs) (j+1).toNat,⟨by omega,by omega,Ao j0 hf e,rfl⟩,by omega,?_⟩
    (repeat first|refine⟨trivial,?_⟩|refine⟨(by with_reducible rfl),?_⟩|refine⟨af (by omega) (by omega),?_⟩)
    refine⟨?_,trivial⟩
    rw[show (j+1).toNat=j.toNat+1 by omega];rfl
  ·(repeat refine⟨by simp[q],?_⟩)
   refine ae (fun h=>by rw[q] at h;cases h) (fun h=>?_)
   have c4:¬ (qY (hs.getD j.toNat default)=true/\lZ ((c8 (ns,ls,hs) j.toNat).getD (bu (hs.getD j.toNat default)).toNat default) (dh (hs.getD j.toNat default)).1=false):=fun z=>by
    rw[← hb2,q] at z;cases z.1
   have wl:(bu (hs.getD j.toNat default)).toNat<ns.length:=by omega
   have tr:=tb.r (bu (hs.getD j.toNat default)).toNat wl
   refine⟨tr.1,tr.2,hx _ hm,by omega,by omega,by have:=(zL (n:=(ns,ls,hs)) hb wl).len;exact Nat.le_trans this (by decide),ae (fun h=>?_) (fun h=>?_)⟩
   ·have h:=fY h
    have e:iy (ns,ls,hs) j.toNat=dE (fJ ((c8 (ns,ls,hs) j.toNat).getD (bu (hs.getD j.toNat default)).toNat default) (hs.getD j.toNat default)) (bv (ns.getD (bu (hs.getD j.toNat default)).toNat default)):=by
     rw[eq];unfold mX;rw[if_neg c1,if_neg c2,if_neg c3,if_neg c4]
    have k:=hit (by rw[e];exact h)
    rw[e] at k;exact k
   ·have h:=gz h
    have e:iy (ns,ls,hs) j.toNat=0:=by
     rw[eq];unfold mX;rw[if_neg c1,if_neg c2,if_neg c3,if_neg c4];exact h
    refine⟨by omega,by rw[oW];show bu _<(ns.length:Int);omega,j+1,c8 (ns,ls,hs) (j+1).toNat,⟨by omega,by omega,Ao j0 hf e,rfl⟩,by omega,?_⟩
    (repeat first|refine⟨trivial,?_⟩|refine⟨(by with_reducible rfl),?_⟩|refine⟨af (by omega) (by omega),?_⟩)
    refine⟨?_,trivial⟩
    rw[show (j+1).toNat=j.toNat+1 by omega];rfl
theorem al8:av Tryz.prog GL 120 J5.spec:=Ct.okH _ Tryz.func120 (by kernel_rfl) (ah (ah (ah (ah (ah aA Fz) ax9) ay9) L3) Jw) au Qa (aB (by kernel_rfl) Wf)
def NK:Ct:=⟨[.agg iC],[.val cI],fun d=>[∀ c∈d.1.2.2,((dh c).2.1.length:Int)<=1099511627776],fun d=>((d7 d.1,()),())⟩
def Zp:ar NK.ps->ay:=(fun d=>{unr:=fun n=>match n with|2=>8|_=>0})
theorem aq3 :
 ∀(a:List ac)(b:List aF)(c:List aN),(wM a b c)/\True->(yp c)->ad (! decide (nD (a,b,c)=0)) (nD (a,b,c)=d7 (a,b,c)) (ad (! decide (lC (a,b,c)=0)) (lC (a,b,c)=d7 (a,b,c)) (ad (! decide (lu (a,b,c)=0)) (lu (a,b,c)=d7 (a,b,c)) (wX (a,b,c)/\ad (! decide (nI (a,b,c)=0)) (nI (a,b,c)=d7 (a,b,c)) ((∀(d:ac),d∈a->List.length (aC d)<=(100000:Nat))/\ad (! decide (pT (a,b,c)=0)) (pT (a,b,c)=d7 (a,b,c)) (wX (a,b,c)/\ad (! decide (oO (a,b,c)=0)) (oO (a,b,c)=d7 (a,b,c)) (lu (a,b,c)=0/\a.length<=(64:Nat)/\(yp c)/\ad (! decide (na (a,b,c)=0)) (na (a,b,c)=d7 (a,b,c)) ((0:Int)=d7 (a,b,c)))))))):=by
  delta wM yp
  rintro ns ls hs-hx
  unfold d7
  refine ae (fun h=>uI (fY h)) (fun h=>?_)
  have h1:=gz h
  rw[wT h1]
  refine ae (fun h=>uI (fY h)) (fun h=>?_)
  have h2:=gz h
  rw[wT h2]
  refine ae (fun h=>uI (fY h)) (fun h=>?_)
  have h3:=gz h
  rw[wT h3]
  refine⟨Nw h2,ae (fun h=>uI (fY h)) (fun h=>?_)⟩
  have h4:=gz h
  rw[wT h4]
  refine⟨fun x hx=>Nat.le_trans (SA h3 x hx).len (by decide),ae (fun h=>uI (fY h)) (fun h=>?_)⟩
  have h5:=gz h
  rw[wT h5]
  refine⟨Nw h2,ae (fun h=>uI (fY h)) (fun h=>?_)⟩
  have h6:=gz h
  rw[wT h6]
  refine⟨h3,?_,hx,ae (fun h=>rfl) (fun h=>(gz h).symm)⟩
  unfold nD at h1
  split at h1
  ·cases h1
  ·dsimp only at *;omega
theorem Q4:av Tryz.prog GL 56 NK.spec:=Ct.okH _ Tryz.func56 (by kernel_rfl) (ah (ah (ah (ah (ah (ah (ah aA ah1) UO) Ss) V2) ar4) W0) al8) au Zp (aB (by kernel_rfl) aq3)
end Go.RS

/- SimW: the program's simulator: copies, flights, changes, ends, steps. -/
namespace Go.RS
open Go.SX Go.Proofs
set_option maxRecDepth 100000
set_option linter.unusedVariables false
abbrev wL:OT := .pair iC (.pair cI (.pair cI (.pair cI (.pair (.row 134 lQ) (.pair (.row 3 cI) (.pair (.row 116 kw) (.pair (.row 92 tm) (.row 61 rm))))))))
def OQ:Ct:=⟨[.val (.sl lQ)],[.own 134 lQ],fun d=>[(d.1.length:Int)<=1000000],fun d=>((d.1,()),())⟩
def az6:ar OQ.ps->ay:=(fun _=>{})
theorem WW :
 ∀(a:List (List aD×Int×List Int×(Int×Int)×Int)),(a.length<=maxLen/\ ∀(b:List aD×Int×List Int×(Int×Int)×Int),b∈a->(b.1.length<=maxLen/\ ∀(c:aD),c∈b.1->((0<=c.1.1/\c.1.1<=4294967295)/\ab c.1.2)/\(c.2.1.length<=maxLen/\ ∀(d:Int),d∈c.2.1->ab d)/\ab c.2.2)/\ab b.2.1/\(b.2.2.1.length<=maxLen/\ ∀(c:Int),c∈b.2.2.1->ab c)/\(ab b.2.2.2.1.1/\ab b.2.2.2.1.2)/\ab b.2.2.2.2)/\True->(a.length:Int)<=1000000-> ∀(b:Bool),(b=true->a.length=(0:Nat))->ad b (([]:List (List aD×Int×List Int×(Int×Int)×Int))=a) (((0:Nat)+a.length)*(80:Nat)<=(140737488355328:Nat)/\a=a):=by
  rintro x ⟨⟨hl,-⟩,-⟩ h b hb
  refine ae (fun h1=>?_) (fun h1=>⟨by simp;omega,by simp⟩)
  have:=hb h1
  exact (List.eq_nil_of_length_eq_zero this).symm
theorem Vc:av Tryz.prog GL 93 OQ.spec:=Ct.okH _ Tryz.func93 (by kernel_rfl) aA au az6 (aB (by kernel_rfl) WW)
def LM:Ct:=⟨[.val (.sl kw)],[.own 116 kw],fun d=>[(d.1.length:Int)<=1000000],fun d=>((d.1,()),())⟩
def TF:ar LM.ps->ay:=(fun _=>{})
theorem ak2 :
 ∀(a:List (Int×Int×Int×Int×Int×List Int)),(a.length<=maxLen/\ ∀(b:Int×Int×Int×Int×Int×List Int),b∈a->ab b.1/\ab b.2.1/\ab b.2.2.1/\ab b.2.2.2.1/\ab b.2.2.2.2.1/\b.2.2.2.2.2.length<=maxLen/\ ∀(c:Int),c∈b.2.2.2.2.2->0<=c/\c<=255)/\True->(a.length:Int)<=1000000-> ∀(b:Bool),(b=true->a.length=(0:Nat))->ad b (([]:List (Int×Int×Int×Int×Int×List Int))=a) (((0:Nat)+a.length)*(64:Nat)<=(140737488355328:Nat)/\a=a):=by
  rintro x ⟨⟨hl,-⟩,-⟩ h b hb
  refine ae (fun h1=>?_) (fun h1=>⟨by simp;omega,by simp⟩)
  have:=hb h1
  exact (List.eq_nil_of_length_eq_zero this).symm
theorem Y4:av Tryz.prog GL 96 LM.spec:=Ct.okH _ Tryz.func96 (by kernel_rfl) aA au TF (aB (by kernel_rfl) ak2)
def Jf:Ct:=⟨[.val (.sl tm)],[.own 92 tm],fun d=>[(d.1.length:Int)<=1000000000000],fun d=>((d.1,()),())⟩
def YL:ar Jf.ps->ay:=(fun _=>{})
theorem SL :
 ∀(a:List (Int×Int×List Int)),(a.length<=maxLen/\ ∀(b:Int×Int×List Int),b∈a->ab b.1/\ab b.2.1/\b.2.2.length<=maxLen/\ ∀(c:Int),c∈b.2.2->0<=c/\c<=255)/\True->(a.length:Int)<=1000000000000-> ∀(b:Bool),(b=true->a.length=(0:Nat))->ad b (([]:List (Int×Int×List Int))=a) (((0:Nat)+a.length)*(40:Nat)<=(140737488355328:Nat)/\a=a):=by
  rintro x ⟨⟨hl,-⟩,-⟩ h b hb
  refine ae (fun h1=>?_) (fun h1=>⟨by simp;omega,by simp⟩)
  have:=hb h1
  exact (List.eq_nil_of_length_eq_zero this).symm
theorem aw6:av Tryz.prog GL 97 Jf.spec:=Ct.okH _ Tryz.func97 (by kernel_rfl) aA au YL (aB (by kernel_rfl) SL)
def N7:Ct:=⟨[.val (.sl rm)],[.own 61 rm],fun d=>[(d.1.length:Int)<=1000000000000],fun d=>((d.1,()),())⟩
def ai4:ar N7.ps->ay:=(fun _=>{})
theorem Qt :
 ∀(a:List (Int×Int×Int×Int×Int)),(a.length<=maxLen/\ ∀(b:Int×Int×Int×Int×Int),b∈a->ab b.1/\ab b.2.1/\ab b.2.2.1/\ab b.2.2.2.1/\ab b.2.2.2.2)/\True->(a.length:Int)<=1000000000000-> ∀(b:Bool),(b=true->a.length=(0:Nat))->ad b (([]:List (Int×Int×Int×Int×Int))=a) (((0:Nat)+a.length)*(40:Nat)<=(140737488355328:Nat)/\a=a):=by
  rintro x ⟨⟨hl,-⟩,-⟩ h b hb
  refine ae (fun h1=>?_) (fun h1=>⟨by simp;omega,by simp⟩)
  have:=hb h1
  exact (List.eq_nil_of_length_eq_zero this).symm
theorem ZQ:av Tryz.prog GL 98 N7.spec:=Ct.okH _ Tryz.func98 (by kernel_rfl) aA au ai4 (aB (by kernel_rfl) Qt)
def Oq:Ct:=⟨[.val (.sl bH)],[.own 107 bH],fun d=>[(d.1.length:Int)<=1000000],fun d=>((d.1,()),())⟩
def Yk:ar Oq.ps->ay:=(fun _=>{})
theorem ab2 :
 ∀(a:List ac),(a.length<=maxLen/\ ∀(b:ac),b∈a->CT.wf bH b)/\True->(a.length:Int)<=1000000-> ∀(b:Bool),(b=true->a.length=(0:Nat))->ad b (([]:List ac)=a) (((0:Nat)+a.length)*(152:Nat)<=(140737488355328:Nat)/\a=a):=by
  rintro x ⟨⟨hl,-⟩,-⟩ h b hb
  refine ae (fun h1=>?_) (fun h1=>⟨by simp;omega,by simp⟩)
  have:=hb h1
  exact (List.eq_nil_of_length_eq_zero this).symm
theorem al6:av Tryz.prog GL 121 Oq.spec:=Ct.okH _ Tryz.func121 (by kernel_rfl) aA au Yk (aB (by kernel_rfl) ab2)
def Ji:Ct:=⟨[.val (.sl fy)],[.own 99 fy],fun d=>[(d.1.length:Int)<=1000000],fun d=>((d.1,()),())⟩
def ao6:ar Ji.ps->ay:=(fun _=>{})
theorem VO :
 ∀(a:List aF),(a.length<=maxLen/\ ∀(b:aF),b∈a->CT.wf fy b)/\True->(a.length:Int)<=1000000-> ∀(b:Bool),(b=true->a.length=(0:Nat))->ad b (([]:List aF)=a) (((0:Nat)+a.length)*(48:Nat)<=(140737488355328:Nat)/\a=a):=by
  rintro x ⟨⟨hl,-⟩,-⟩ h b hb
  refine ae (fun h1=>?_) (fun h1=>⟨by simp;omega,by simp⟩)
  have:=hb h1
  exact (List.eq_nil_of_length_eq_zero this).symm
theorem UI:av Tryz.prog GL 122 Ji.spec:=Ct.okH _ Tryz.func122 (by kernel_rfl) aA au ao6 (aB (by kernel_rfl) VO)
def NF:Ct:=⟨[.val (.sl dZ)],[.own 129 dZ],fun d=>[(d.1.length:Int)<=1000000],fun d=>((d.1,()),())⟩
def ak6:ar NF.ps->ay:=(fun _=>{})
theorem ZJ :
 ∀(a:List aN),(a.length<=maxLen/\ ∀(b:aN),b∈a->CT.wf dZ b)/\True->(a.length:Int)<=1000000-> ∀(b:Bool),(b=true->a.length=(0:Nat))->ad b (([]:List aN)=a) (((0:Nat)+a.length)*(72:Nat)<=(140737488355328:Nat)/\a=a):=by
  rintro x ⟨⟨hl,-⟩,-⟩ h b hb
  refine ae (fun h1=>?_) (fun h1=>⟨by simp;omega,by simp⟩)
  have:=hb h1
  exact (List.eq_nil_of_length_eq_zero this).symm
theorem XC:av Tryz.prog GL 123 NF.spec:=Ct.okH _ Tryz.func123 (by kernel_rfl) aA au ak6 (aB (by kernel_rfl) ZJ)
def NG:Ct:=⟨[.val (.sl qB)],[.own 101 qB],fun d=>[(d.1.length:Int)<=1000000],fun d=>((d.1,()),())⟩
def SR:ar NG.ps->ay:=(fun _=>{})
theorem WZ :
 ∀(a:List (Int×Int)),(a.length<=maxLen/\ ∀(b:Int×Int),b∈a->(0<=b.1/\b.1<=4294967295)/\ab b.2)/\True->(a.length:Int)<=1000000-> ∀(b:Bool),(b=true->a.length=(0:Nat))->ad b (([]:List (Int×Int))=a) (((0:Nat)+a.length)*(16:Nat)<=(140737488355328:Nat)/\a=a):=by
  rintro x ⟨⟨hl,-⟩,-⟩ h b hb
  refine ae (fun h1=>?_) (fun h1=>⟨by simp;omega,by simp⟩)
  have:=hb h1
  exact (List.eq_nil_of_length_eq_zero this).symm
theorem RJ:av Tryz.prog GL 124 NG.spec:=Ct.okH _ Tryz.func124 (by kernel_rfl) aA au SR (aB (by kernel_rfl) WZ)
def JY:Ct:=⟨[.val (.sl cu)],[.own 97 cu],fun d=>[okL d.1],fun d=>((d.1,()),())⟩
def ax6:ar JY.ps->ay:=(fun d=>{loops:=(fun n=>match n with|3=>some (fun S=>{ι:=Int,μ:=fun i=>(d.1.length-i).toNat,inv:=fun i=>0<=i/\i<=d.1.length,keep:=[3,8,9],slots:=fun i=>[(10,.int .i64 i)],keepN:=[128],names:=fun i=>[]})|_=>none)})
theorem Ql :
 ∀(a:List aD),(a.length<=maxLen/\ ∀(b:aD),b∈a->((0<=b.1.1/\b.1.1<=4294967295)/\ab b.1.2)/\(b.2.1.length<=maxLen/\ ∀(c:Int),c∈b.2.1->ab c)/\ab b.2.2)/\True->((a.length:Int)<=134217728/\ ∀(b:Rt),b∈a->(b.2.1.length:Int)<=1099511627776)->(a.length:Int)<=134217728/\(∃(b:Int),(0<=b/\b<=(a.length:Int))/\(a.length:Int)=(a.length:Int)/\(0:Int)=b/\a=a/\True)/\ ∀(b:Int),0<=b/\b<=(a.length:Int)->ad (decide (b<(a.length:Int))) (0<=b/\b<(a.length:Int)/\((List.length (a.getD b.toNat default).2.1):Int)<=1099511627776/\0<=b/\b<(a.length:Int)/\ ∃(c:Int),(0<=c/\c<=(a.length:Int))/\Int.toNat ((a.length:Int) -c)<Int.toNat ((a.length:Int) -b)/\(a.length:Int)=(a.length:Int)/\IntKind.wrap .i64 (b+(1:Int))=c/\List.set a b.toNat (a.getD b.toNat default)=a/\True) (a=a):=by
  rintro l ⟨⟨hl,-⟩,-⟩⟨h1,h2⟩
  simp only[maxLen] at hl
  refine⟨h1,⟨0,⟨by omega,by omega⟩,(by repeat' first|exact trivial|refine⟨trivial,?_⟩|refine⟨(by with_reducible rfl),?_⟩|refine⟨af (by omega) (by omega),?_⟩|refine⟨rfl,?_⟩)⟩,?_⟩
  rintro j ⟨j0,j1⟩
  refine ae (fun hj=>?_) (fun hj=>?_)
  ·have hj:=of_decide_eq_true hj
   refine⟨j0,hj,h2 _ (bL j0 hj),j0,hj,j+1,⟨by omega,by omega⟩,by omega,?_⟩
   (repeat first|refine⟨trivial,?_⟩|refine⟨(by with_reducible rfl),?_⟩|refine⟨af (by omega) (by omega),?_⟩)
   exact⟨pk j0 hj,trivial⟩
  ·rfl
theorem Jn:av Tryz.prog GL 95 JY.spec:=Ct.okH _ Tryz.func95 (by kernel_rfl) (ah (ah aA MZ) wS) au ax6 (aB (by kernel_rfl) Ql)
def Hn:Ct:=⟨[.agg iC],[.agg iC],fun d=>[m4 d.1],fun d=>((d.1,()),())⟩
def ad0:ar Hn.ps->ay:=(fun d=>{loops:=(fun n=>match n with|3=>some (fun S=>{ι:=Int,μ:=fun i=>(d.1.1.length-i).toNat,inv:=fun i=>0<=i/\i<=d.1.1.length,keep:=[2,3,19,20],slots:=fun i=>[(21,.int .i64 i)],keepN:=[48,64,176,224,272],names:=fun i=>[]})|8=>some (fun S=>{ι:=Int,μ:=fun i=>(d.1.2.2.length-i).toNat,inv:=fun i=>0<=i/\i<=d.1.2.2.length,keep:=[2,3,44,45],slots:=fun i=>[(46,.int .i64 i)],keepN:=[48,64,176,224,272],names:=fun i=>[]})|_=>none)})
def uz(a:List ac)(d:Int) :=
 List.getD (List.set a d.toNat (a.getD d.toNat default)) d.toNat default
def iz(c:List aN) :=
 (c.length:Int)
theorem Wu :
 ∀(a:List ac)(b:List aF)(c:List aN),((a.length<=maxLen/\ ∀(d:ac),d∈a->CT.wf bH d)/\(b.length<=maxLen/\ ∀(d:aF),d∈b->CT.wf fy d)/\c.length<=maxLen/\ ∀(d:aN),d∈c->CT.wf dZ d)/\True->((a.length:Int)<=1000000/\(b.length:Int)<=1000000/\(iz c)<=1000000/\(∀(d:ac),d∈a->((List.length (aC d)):Int)<=1000000/\okL (aV d))/\ ∀(d:aN),d∈c->((List.length (dh d).2.1):Int)<=1099511627776)->(a.length:Int)<=1000000/\(b.length:Int)<=1000000/\(iz c)<=1000000/\(∃(d:Int),(0<=d/\d<=(a.length:Int))/\(a.length:Int)=(a.length:Int)/\(0:Int)=d/\a=a/\b=b/\c=c/\True)/\ ∀(d:Int),0<=d/\d<=(a.length:Int)->ad (decide (d<(a.length:Int))) (0<=d/\d<(a.length:Int)/\((List.length (a.getD d.toNat default).1):Int)<=1000000/\okL (a.getD d.toNat default).2.2.2.2.1/\0<=d/\d<(a.length:Int)/\0<=d/\d<((List.length (List.set a d.toNat (a.getD d.toNat default))):Int)/\
 ∃(e:Int),(0<=e/\e<=(a.length:Int))/\Int.toNat ((a.length:Int) -e)<Int.toNat ((a.length:Int) -d)/\(a.length:Int)=(a.length:Int)/\IntKind.wrap .i64 (d+(1:Int))=e/\List.set (List.set a d.toNat (a.getD d.toNat default)) d.toNat ((uz a d).1,(uz a d).2.1,(uz a d).2.2.1,(uz a d).2.2.2.1,(a.getD d.toNat default).2.2.2.2.1,(uz a d).2.2.2.2.2)=a/\b=b/\c=c/\True) ((∃(e:Int),(0<=e/\e<=(iz c))/\(iz c)=(iz c)/\(0:Int)=e/\a=a/\b=b/\c=c/\True)/\ ∀(e:Int),0<=e/\e<=(iz c)->ad (decide (e<(iz c))) (0<=e/\e<(iz c)/\((List.length (c.getD e.toNat default).2.2.2.2.1):Int)<=1099511627776/\0<=e/\e<(iz c)/\ ∃(f:Int),(0<=f/\f<=(iz c))/\Int.toNat ((iz c) -f)<Int.toNat ((iz c) -e)/\(iz c)=(iz c)/\IntKind.wrap .i64 (e+(1:Int))=f/\a=a/\b=b/\List.set c e.toNat (c.getD e.toNat default)=c/\True) ((a,b,c)=(a,b,c))):=by
  delta uz iz
  rintro ns ls hs-⟨h1,h2,h3,h4,h5⟩
  refine⟨h1,h2,h3,⟨0,⟨by omega,by omega⟩,(by repeat' first|exact trivial|refine⟨trivial,?_⟩|refine⟨(by with_reducible rfl),?_⟩|refine⟨af (by omega) (by omega),?_⟩|refine⟨rfl,?_⟩)⟩,?_⟩
  rintro j ⟨j0,j1⟩
  refine ae (fun hj=>?_) (fun hj=>?_)
  ·have hj:=of_decide_eq_true hj
   have hx:=h4 _ (bL j0 hj)
   have e:ns.set j.toNat (ns.getD j.toNat default)=ns:=pk j0 hj
   refine⟨j0,hj,hx.1,hx.2,j0,hj,j0,by rw[List.length_set];exact hj,j+1,⟨by omega,by omega⟩,by omega,?_⟩
   (repeat first|refine⟨trivial,?_⟩|refine⟨(by with_reducible rfl),?_⟩|refine⟨af (by omega) (by omega),?_⟩)
   refine⟨?_,(by repeat' first|exact trivial|refine⟨trivial,?_⟩|refine⟨(by with_reducible rfl),?_⟩|refine⟨af (by omega) (by omega),?_⟩|refine⟨rfl,?_⟩)⟩
   show (ns.set j.toNat (ns.getD j.toNat default)).set j.toNat _=ns
   rw[e]
   exact e
  refine⟨⟨0,⟨by omega,by omega⟩,(by repeat' first|exact trivial|refine⟨trivial,?_⟩|refine⟨(by with_reducible rfl),?_⟩|refine⟨af (by omega) (by omega),?_⟩|refine⟨rfl,?_⟩)⟩,?_⟩
  rintro k ⟨k0,k1⟩
  refine ae (fun hk=>?_) (fun hk=>?_)
  ·have hk:=of_decide_eq_true hk
   refine⟨k0,hk,h5 _ (bL k0 hk),k0,hk,k+1,⟨by omega,by omega⟩,by omega,?_⟩
   (repeat first|refine⟨trivial,?_⟩|refine⟨(by with_reducible rfl),?_⟩|refine⟨af (by omega) (by omega),?_⟩)
   exact⟨pk k0 hk,trivial⟩
  ·rfl
theorem O7:av Tryz.prog GL 57 Hn.spec:=Ct.okH _ Tryz.func57 (by kernel_rfl) (ah (ah (ah (ah (ah (ah aA al6) UI) XC) RJ) Jn) wS) au ad0 (aB (by kernel_rfl) Wu)
def Po:Ct:=⟨[.agg iI],[.agg wL],fun d=>[uf d.1],fun d=>((d.1,()),())⟩
def US:ar Po.ps->ay:=(fun d=>{loops:=(fun n=>match n with|4=>some (fun S=>{ι:=Int,μ:=fun i=>((aM d.1).length-i).toNat,inv:=fun i=>0<=i/\i<=(aM d.1).length,keep:=[1,2,18,19],slots:=fun i=>[(20,.int .i64 i)],keepN:=[32,48,256],names:=fun i=>[]})|11=>some (fun S=>{ι:=Int,μ:=fun i=>((am d.1).length-i).toNat,inv:=fun i=>0<=i/\i<=(am d.1).length,keep:=[1,2,51,52],slots:=fun i=>[(53,.int .i64 i)],keepN:=[32,48,256,720,784],names:=fun i=>[]})|17=>some (fun S=>{ι:=Int,μ:=fun i=>((aO d.1).length-i).toNat,inv:=fun i=>0<=i/\i<=(aO d.1).length,keep:=[1,2,72,73],slots:=fun i=>[(74,.int .i64 i)],keepN:=[32,48,256,720,784,1120],names:=fun i=>[]})|_=>none)})
theorem V7 :
 ∀(a:(List ac×List aF×List aN)×Int×Int×Int×List (List aD×Int×List Int×(Int×Int)×Int)×List Int×List (Int×Int×Int×Int×Int×List Int)×List (Int×Int×List Int)×List (Int×Int×Int×Int×Int)),CT.wf iI a/\True->(m4 (ao a)/\((List.length (aM a)):Int)<=1000000/\((List.length (bJ a)):Int)<=1000000/\((List.length (am a)):Int)<=1000000/\((List.length (aO a)):Int)<=1000000000000/\((List.length (aQ a)):Int)<=1000000000000/\(∀(b:bt),b∈aM a->((List.length (jf b)):Int)<=1000000/\okL (bn b))/\(∀(b:aK),b∈am a->((List.length (da b)):Int)<=1000000)/\ ∀(b:nG),b∈aO a->(b.2.2.length:Int)<=1000000)->m4 a.1/\(a.2.2.2.2.1.length:Int)<=1000000/\(∃(b:Int),(0<=b/\b<=((List.length (aM
 a)):Int))/\(a.2.2.2.2.1.length:Int)=(a.2.2.2.2.1.length:Int)/\(0:Int)=b/\a.1.1=a.1.1/\a.1.2.1=a.1.2.1/\a.1.2.2=a.1.2.2/\a.2.1=a.2.1/\a.2.2.1=a.2.2.1/\a.2.2.2.1=a.2.2.2.1/\a.2.2.2.2.2.1=a.2.2.2.2.2.1/\a.2.2.2.2.2.2.1=a.2.2.2.2.2.2.1/\a.2.2.2.2.2.2.2.1=a.2.2.2.2.2.2.2.1/\a.2.2.2.2.2.2.2.2=a.2.2.2.2.2.2.2.2/\(0:Int)=0/\(0:Int)=0/\(0:Int)=0/\a.2.2.2.2.1=a.2.2.2.2.1/\True)/\ ∀(b:Int),0<=b/\b<=((List.length (aM a)):Int)->ad (decide (b<(a.2.2.2.2.1.length:Int))) (0<=b/\b<(a.2.2.2.2.1.length:Int)/\((List.length (List.getD a.2.2.2.2.1 b.toNat default).2.2.1):Int)<=1099511627776/\okL (List.getD a.2.2.2.2.1 b.toNat default).1/\0<=b/\b<(a.2.2.2.2.1.length:Int)/\0<=b/\b<((List.length (List.set a.2.2.2.2.1 b.toNat (List.getD a.2.2.2.2.1 b.toNat default))):Int)/\ ∃(c:Int),(0<=c/\c<=((List.length (aM a)):Int))/\Int.toNat (((List.length (aM a)):Int) -c)<Int.toNat (((List.length (aM a)):Int)
 -b)/\(a.2.2.2.2.1.length:Int)=(a.2.2.2.2.1.length:Int)/\IntKind.wrap .i64 (b+(1:Int))=c/\a.1.1=a.1.1/\a.1.2.1=a.1.2.1/\a.1.2.2=a.1.2.2/\a.2.1=a.2.1/\a.2.2.1=a.2.2.1/\a.2.2.2.1=a.2.2.2.1/\a.2.2.2.2.2.1=a.2.2.2.2.2.1/\a.2.2.2.2.2.2.1=a.2.2.2.2.2.2.1/\a.2.2.2.2.2.2.2.1=a.2.2.2.2.2.2.2.1/\a.2.2.2.2.2.2.2.2=a.2.2.2.2.2.2.2.2/\(0:Int)=0/\(0:Int)=0/\(0:Int)=0/\List.set (List.set a.2.2.2.2.1 b.toNat (List.getD a.2.2.2.2.1 b.toNat default)) b.toNat ((List.getD a.2.2.2.2.1 b.toNat default).1,(List.getD (List.set a.2.2.2.2.1 b.toNat (List.getD a.2.2.2.2.1 b.toNat default)) b.toNat default).2)=a.2.2.2.2.1/\True) ((a.2.2.2.2.2.1.length:Int)<=1099511627776/\(a.2.2.2.2.2.2.1.length:Int)<=1000000/\(∃(c:Int),(0<=c/\c<=((List.length (am
 a)):Int))/\(a.2.2.2.2.2.2.1.length:Int)=(a.2.2.2.2.2.2.1.length:Int)/\(0:Int)=c/\a.1.1=a.1.1/\a.1.2.1=a.1.2.1/\a.1.2.2=a.1.2.2/\a.2.1=a.2.1/\a.2.2.1=a.2.2.1/\a.2.2.2.1=a.2.2.2.1/\a.2.2.2.2.2.2.2.1=a.2.2.2.2.2.2.2.1/\a.2.2.2.2.2.2.2.2=a.2.2.2.2.2.2.2.2/\(0:Int)=0/\(0:Int)=0/\(0:Int)=0/\a.2.2.2.2.1=a.2.2.2.2.1/\a.2.2.2.2.2.1=a.2.2.2.2.2.1/\a.2.2.2.2.2.2.1=a.2.2.2.2.2.2.1/\True)/\ ∀(c:Int),0<=c/\c<=((List.length (am a)):Int)->ad (decide (c<(a.2.2.2.2.2.2.1.length:Int))) (0<=c/\c<(a.2.2.2.2.2.2.1.length:Int)/\((List.length (List.getD a.2.2.2.2.2.2.1 c.toNat default).2.2.2.2.2):Int)<=1099511627776/\0<=c/\c<(a.2.2.2.2.2.2.1.length:Int)/\ ∃(d:Int),(0<=d/\d<=((List.length (am a)):Int))/\Int.toNat (((List.length (am a)):Int) -d)<Int.toNat (((List.length (am a)):Int) -c)/\(a.2.2.2.2.2.2.1.length:Int)=(a.2.2.2.2.2.2.1.length:Int)/\IntKind.wrap .i64
 (c+(1:Int))=d/\a.1.1=a.1.1/\a.1.2.1=a.1.2.1/\a.1.2.2=a.1.2.2/\a.2.1=a.2.1/\a.2.2.1=a.2.2.1/\a.2.2.2.1=a.2.2.2.1/\a.2.2.2.2.2.2.2.1=a.2.2.2.2.2.2.2.1/\a.2.2.2.2.2.2.2.2=a.2.2.2.2.2.2.2.2/\(0:Int)=0/\(0:Int)=0/\(0:Int)=0/\a.2.2.2.2.1=a.2.2.2.2.1/\a.2.2.2.2.2.1=a.2.2.2.2.2.1/\List.set a.2.2.2.2.2.2.1 c.toNat (List.getD a.2.2.2.2.2.2.1 c.toNat default)=a.2.2.2.2.2.2.1/\True) ((a.2.2.2.2.2.2.2.1.length:Int)<=1000000000000/\(∃(d:Int),(0<=d/\d<=((List.length (aO a)):Int))/\(a.2.2.2.2.2.2.2.1.length:Int)=(a.2.2.2.2.2.2.2.1.length:Int)/\(0:Int)=d/\a.1.1=a.1.1/\a.1.2.1=a.1.2.1/\a.1.2.2=a.1.2.2/\a.2.1=a.2.1/\a.2.2.1=a.2.2.1/\a.2.2.2.1=a.2.2.2.1/\a.2.2.2.2.2.2.2.2=a.2.2.2.2.2.2.2.2/\(0:Int)=0/\(0:Int)=0/\(0:Int)=0/\a.2.2.2.2.1=a.2.2.2.2.1/\a.2.2.2.2.2.1=a.2.2.2.2.2.1/\a.2.2.2.2.2.2.1=a.2.2.2.2.2.2.1/\a.2.2.2.2.2.2.2.1=a.2.2.2.2.2.2.2.1/\True)/\ ∀(d:Int),0<=d/\d<=((List.length (aO a)):Int)->ad
 (decide (d<(a.2.2.2.2.2.2.2.1.length:Int))) (0<=d/\d<(a.2.2.2.2.2.2.2.1.length:Int)/\((List.length (List.getD a.2.2.2.2.2.2.2.1 d.toNat default).2.2):Int)<=1099511627776/\0<=d/\d<(a.2.2.2.2.2.2.2.1.length:Int)/\ ∃(e:Int),(0<=e/\e<=((List.length (aO a)):Int))/\Int.toNat (((List.length (aO a)):Int) -e)<Int.toNat (((List.length (aO a)):Int) -d)/\(a.2.2.2.2.2.2.2.1.length:Int)=(a.2.2.2.2.2.2.2.1.length:Int)/\IntKind.wrap .i64 (d+(1:Int))=e/\a.1.1=a.1.1/\a.1.2.1=a.1.2.1/\a.1.2.2=a.1.2.2/\a.2.1=a.2.1/\a.2.2.1=a.2.2.1/\a.2.2.2.1=a.2.2.2.1/\a.2.2.2.2.2.2.2.2=a.2.2.2.2.2.2.2.2/\(0:Int)=0/\(0:Int)=0/\(0:Int)=0/\a.2.2.2.2.1=a.2.2.2.2.1/\a.2.2.2.2.2.1=a.2.2.2.2.2.1/\a.2.2.2.2.2.2.1=a.2.2.2.2.2.2.1/\List.set a.2.2.2.2.2.2.2.1 d.toNat (List.getD a.2.2.2.2.2.2.2.1 d.toNat default)=a.2.2.2.2.2.2.2.1/\True) ((a.2.2.2.2.2.2.2.2.length:Int)<=1000000000000/\a=a))):=by
  rintro d-⟨h1,h2,h3,h4,h5,h6,h7,h8,h9⟩
  have h2:(d.2.2.2.2.1.length:Int)<=1000000:=h2
  have h3:(d.2.2.2.2.2.1.length:Int)<=1000000:=h3
  have h4:(d.2.2.2.2.2.2.1.length:Int)<=1000000:=h4
  have h5:(d.2.2.2.2.2.2.2.1.length:Int)<=1000000000000:=h5
  have h6:(d.2.2.2.2.2.2.2.2.length:Int)<=1000000000000:=h6
  have eS:aM d=d.2.2.2.2.1:=rfl
  have eF:am d=d.2.2.2.2.2.2.1:=rfl
  have eD:aO d=d.2.2.2.2.2.2.2.1:=rfl
  simp only[eS,eF,eD] at *
  refine⟨h1,h2,⟨0,⟨by omega,by omega⟩,(by repeat' first|exact trivial|refine⟨trivial,?_⟩|refine⟨(by with_reducible rfl),?_⟩|refine⟨af (by omega) (by omega),?_⟩|refine⟨rfl,?_⟩)⟩,?_⟩
  rintro j ⟨j0,j1⟩
  refine ae (fun hj=>?_) (fun hj=>?_)
  ·have hj:=of_decide_eq_true hj
   have hx:=h7 _ (bL j0 hj)
   have hx1:((d.2.2.2.2.1.getD j.toNat default).2.2.1.length:Int)<=1000000:=hx.1
   have e:d.2.2.2.2.1.set j.toNat (d.2.2.2.2.1.getD j.toNat default)=d.2.2.2.2.1:=pk j0 hj
   refine⟨j0,hj,by omega,hx.2,j0,hj,j0,by rw[List.length_set];exact hj,j+1,⟨by omega,by omega⟩,by omega,?_⟩
   (repeat first|refine⟨trivial,?_⟩|refine⟨(by with_reducible rfl),?_⟩|refine⟨af (by omega) (by omega),?_⟩)
   refine⟨?_,trivial⟩
   show (d.2.2.2.2.1.set j.toNat (d.2.2.2.2.1.getD j.toNat default)).set j.toNat _=d.2.2.2.2.1
   rw[e]
   exact e
  refine⟨by omega,h4,⟨0,⟨by omega,by omega⟩,(by repeat' first|exact trivial|refine⟨trivial,?_⟩|refine⟨(by with_reducible rfl),?_⟩|refine⟨af (by omega) (by omega),?_⟩|refine⟨rfl,?_⟩)⟩,?_⟩
  rintro k ⟨k0,k1⟩
  refine ae (fun hk=>?_) (fun hk=>?_)
  ·have hk:=of_decide_eq_true hk
   have hx1:((d.2.2.2.2.2.2.1.getD k.toNat default).2.2.2.2.2.length:Int)<=1000000:=h8 _ (bL k0 hk)
   refine⟨k0,hk,by omega,k0,hk,k+1,⟨by omega,by omega⟩,by omega,?_⟩
   (repeat first|refine⟨trivial,?_⟩|refine⟨(by with_reducible rfl),?_⟩|refine⟨af (by omega) (by omega),?_⟩)
   exact⟨pk k0 hk,trivial⟩
  refine⟨h5,⟨0,⟨by omega,by omega⟩,(by repeat' first|exact trivial|refine⟨trivial,?_⟩|refine⟨(by with_reducible rfl),?_⟩|refine⟨af (by omega) (by omega),?_⟩|refine⟨rfl,?_⟩)⟩,?_⟩
  rintro k ⟨k0,k1⟩
  refine ae (fun hk=>?_) (fun hk=>?_)
  ·have hk:=of_decide_eq_true hk
   have hx1:((d.2.2.2.2.2.2.2.1.getD k.toNat default).2.2.length:Int)<=1000000:=h9 _ (bL k0 hk)
   refine⟨k0,hk,by omega,k0,hk,k+1,⟨by omega,by omega⟩,by omega,?_⟩
   (repeat first|refine⟨trivial,?_⟩|refine⟨(by with_reducible rfl),?_⟩|refine⟨af (by omega) (by omega),?_⟩)
   exact⟨pk k0 hk,trivial⟩
  exact⟨h6,trivial⟩
theorem EG:av Tryz.prog GL 43 Po.spec:=Ct.okH _ Tryz.func43 (by kernel_rfl) (ah (ah (ah (ah (ah (ah (ah (ah aA O7) Vc) wS) Jn) Y4) pU) aw6) ZQ) au US (aB (by kernel_rfl) V7)
def pJ(x y:aK):Int:=if eJ (ax x) (ax y)≠0 then eJ (ax x) (ax y) else eJ (ig x) (ig y)
def Iv:Ct:=⟨[.agg kw,.agg kw],[.val cI],fun _=>[],fun d=>((pJ d.1 d.2.1,()),())⟩
def RV:ar Iv.ps->ay:=(fun _=>{})
theorem Qv :
 ∀(a b c d e:Int)(f:List Int)(g h i j k:Int)(l:List Int),(ab a/\ab b/\ab c/\ab d/\ab e/\f.length<=maxLen/\ ∀(m:Int),m∈f->0<=m/\m<=255)/\(ab g/\ab h/\ab i/\ab j/\ab k/\l.length<=maxLen/\ ∀(m:Int),m∈l->0<=m/\m<=255)/\True->True->jY [eJ a g,eJ b h]=pJ (a,b,c,d,e,f) (g,h,i,j,k,l):=by
  rintro a1 a2 a3 a4 a5 a6 b1 b2 b3 b4 b5 b6 - -
  have e:pJ (a1,a2,a3,a4,a5,a6) (b1,b2,b3,b4,b5,b6)=if eJ a1 b1≠0 then eJ a1 b1 else eJ a2 b2:=rfl
  rw[e]
  simp only[jY]
  by_cases h:eJ a1 b1≠0
  ·rw[if_pos h,if_pos h]
  ·rw[if_neg h,if_neg h]
   by_cases k:eJ a2 b2≠0
   ·rw[if_pos k]
   ·rw[if_neg k];simp at k;exact k.symm
theorem ad9:av Tryz.prog GL 105 Iv.spec:=Ct.okH _ Tryz.func105 (by kernel_rfl) (ah (ah aA PG) MS) au RV (aB (by kernel_rfl) Qv)
instance (a b:aK):Decidable (eZ a b):=by unfold eZ;infer_instance
def eU(l:List aK)(t:aK):Int:=((l.takeWhile fun x=>decide (eZ x t)).length:Int)
theorem Ui{x y:aK}:pJ x y<0↔eZ x y:=by
 unfold pJ eJ eZ
 by_cases h1:ax x<ax y
 ·simp[h1]
 ·by_cases h2:ax y<ax x
  ·have:ax x≠ax y:=by omega
   simp[h1,h2,this]
  ·have:ax x=ax y:=by omega
   by_cases h3:ig x<ig y
   ·simp[this,h3]
   ·by_cases h4:ig y<ig x <;> simp[this,h3,h4]
theorem ar6{x y z:aK}(h:eZ x y)(k:eZ y z):eZ x z:=by unfold eZ at *;omega
theorem D8(l:List aK)(t:aK):0<=eU l t/\eU l t<=l.length:=by
 unfold eU
 have:=congrArg List.length (List.takeWhile_append_dropWhile (p:=fun x=>decide (eZ x t)) (l:=l))
 rw[List.length_append] at this
 omega
theorem P0:∀{l:List aK}{t:aK}{h:Nat},l.Pairwise eZ->h<l.length->(eZ (l.getD h default) t↔(h:Int)<eU l t)
 | [],t,h,_,hh=>by simp at hh
 | a::l,t,h,hs,hh=>by
  obtain⟨s1,s2⟩:=List.pairwise_cons.1 hs
  by_cases ha:eZ a t
  ·have e:eU (a::l) t=eU l t+1:=by unfold eU;rw[List.takeWhile_cons_of_pos (by simpa using ha),List.length_cons];omega
   cases h with
   | zero =>
    have:=D8 l t
    simp only[List.getD_cons_zero]
    exact⟨fun _=>by rw[e];omega,fun _=>ha⟩
   | succ h =>
    simp only[List.getD_cons_succ]
    rw[P0 s2 (by simpa using hh),e]
    omega
  ·have e:eU (a::l) t=0:=by unfold eU;rw[List.takeWhile_cons_of_neg (by simpa using ha)];rfl
   rw[e]
   constructor
   ·intro k
    exfalso
    cases h with
    | zero=>exact ha k
    | succ h =>
     simp only[List.getD_cons_succ] at k
     have hh:h<l.length:=by simpa using hh
     have hm:l.getD h default∈l:=by rw[List.getD_eq_getElem?_getD,List.getElem?_eq_getElem hh];exact List.getElem_mem hh
     exact ha (ar6 (s1 _ hm) k)
   ·intro k;omega
theorem NI{l:List aK}{t:aK}{h:Int}(hs:l.Pairwise eZ)(h0:0<=h)(h1:h<l.length):pJ (l.getD h.toNat default) t<0↔h<eU l t:=by
 rw[Ui,P0 hs (by omega)]
 rw[Int.toNat_of_nonneg h0]
def Nu:Ct:=⟨[.val (.sl kw),.agg kw,.fn 105 0],[.val cI,.val .bool],fun d=>[d.1.Pairwise eZ],fun d=>((eU d.1 d.2.1,(bif decide (eU d.1 d.2.1<d.1.length) then decide (pJ (d.1.getD (eU d.1 d.2.1).toNat default) d.2.1=0) else false),()),())⟩
def Ts:ar Nu.ps->ay:=(fun d=>{loops:=(fun n=>match n with|3=>some (fun S=>{ι:=Int×Int,qn:=⟨fun k_=>∀(i:Int)(j:Int),k_ (i,j),fun k_ h_ i=>h_ i.1 i.2,fun k_=>∃ (i:Int) (j:Int),k_ (i,j),fun k_ ⟨i,j,h_⟩=>⟨_,h_⟩⟩,μ:=fun i=>(i.2-i.1).toNat,inv:=fun i=>0<=i.1/\i.1<=eU d.1 d.2.1/\eU d.1 d.2.1<=i.2/\i.2<=d.1.length,keep:=[0,2,4,8],slots:=fun i=>[(9,.int .i64 i.1),(10,.int .i64 i.2)],keepN:=[80],names:=fun i=>[]})|_=>none)})
def uJ(h i:Int) :=
 cU IntKind.u64 (IntKind.wrap .u64 (IntKind.wrap .i64 (h+i))) (1:Int)
theorem X8 :
 ∀(a:List (Int×Int×Int×Int×Int×List Int))(b c d e f:Int)(g:List Int),(a.length<=maxLen/\ ∀(h:Int×Int×Int×Int×Int×List Int),h∈a->ab h.1/\ab h.2.1/\ab h.2.2.1/\ab h.2.2.2.1/\ab h.2.2.2.2.1/\h.2.2.2.2.2.length<=maxLen/\ ∀(i:Int),i∈h.2.2.2.2.2->0<=i/\i<=255)/\(ab b/\ab c/\ab d/\ab e/\ab f/\g.length<=maxLen/\ ∀(h:Int),h∈g->0<=h/\h<=255)/\True/\True->List.Pairwise eZ a->(∃(h:Int) (i:Int),(0<=h/\h<=eU a (b,c,d,e,f,g)/\eU a (b,c,d,e,f,g)<=i/\i<=(a.length:Int))/\a=a/\(a.length:Int)=(a.length:Int)/\(0:Int)=h/\(a.length:Int)=i/\b=b/\c=c/\d=d/\e=e/\f=f/\g=g/\True)/\ ∀(h i:Int),0<=h/\h<=eU a (b,c,d,e,f,g)/\eU a (b,c,d,e,f,g)<=i/\i<=(a.length:Int)->ad (decide (h<i)) ((0:Int)<=1/\0<=IntKind.wrap .i64 (uJ h i)/\IntKind.wrap .i64 (uJ h i)<(a.length:Int)/\ad (decide (pJ (a.getD (Int.toNat (IntKind.wrap .i64 (uJ h i))) default) (b,c,d,e,f,g)<0)) (∃(j:Int) (k:Int),(0<=j/\j<=eU
 a (b,c,d,e,f,g)/\eU a (b,c,d,e,f,g)<=k/\k<=(a.length:Int))/\Int.toNat (k -j)<Int.toNat (i -h)/\a=a/\(a.length:Int)=(a.length:Int)/\IntKind.wrap .i64 (IntKind.wrap .i64 (uJ h i)+(1:Int))=j/\i=k/\b=b/\c=c/\d=d/\e=e/\f=f/\g=g/\True) (∃(j:Int) (k:Int),(0<=j/\j<=eU a (b,c,d,e,f,g)/\eU a (b,c,d,e,f,g)<=k/\k<=(a.length:Int))/\Int.toNat (k -j)<Int.toNat (i -h)/\a=a/\(a.length:Int)=(a.length:Int)/\h=j/\IntKind.wrap .i64 (uJ h i)=k/\b=b/\c=c/\d=d/\e=e/\f=f/\g=g/\True)) (∀(j:Bool),j=decide (h<(a.length:Int))->(j->(j->j)/\(j->j)/\0<=h/\h<(a.length:Int)/\True)/\(j->(j->j)/\True)/\(j->(j->j)/\(j->j)/\(j->j)/\True)/\(j->(j->j)/\True)/\(j->j)/\h=eU a (b,c,d,e,f,g)/\(bif j then decide (pJ (a.getD h.toNat default) (b,c,d,e,f,g)=0) else false)=bif decide (eU a (b,c,d,e,f,g)<(a.length:Int)) then decide (pJ (a.getD (Int.toNat (eU a (b,c,d,e,f,g))) default) (b,c,d,e,f,g)=0) else false):=by
  delta uJ
  rintro x p1 p2 p3 p4 p5 p6 ⟨⟨hl,-⟩,-⟩ hs
  simp only[maxLen] at hl
  obtain⟨q0,q1⟩:=D8 x (p1,p2,p3,p4,p5,p6)
  refine⟨⟨0,x.length,⟨by omega,q0,q1,by omega⟩,(by repeat' first|exact trivial|refine⟨trivial,?_⟩|refine⟨(by with_reducible rfl),?_⟩|refine⟨af (by omega) (by omega),?_⟩|refine⟨rfl,?_⟩)⟩,?_⟩
  rintro i j ⟨h0,h1,h2,h3⟩
  refine ae (fun hb=>?_) (fun hb=>?_)
  ·have hb:=of_decide_eq_true hb
   rw[JK h0 (by omega) (by omega)]
   refine⟨by omega,by omega,by omega,ae (fun hc=>?_) (fun hc=>?_)⟩
   ·have hc:=(NI hs (by omega) (by omega)).1 (of_decide_eq_true hc)
    rw[af (by omega) (by omega)]
    exact⟨(i+j)/2+1,j,⟨by omega,by omega,h2,h3⟩,by omega,(by repeat' first|exact trivial|refine⟨trivial,?_⟩|refine⟨(by with_reducible rfl),?_⟩|refine⟨af (by omega) (by omega),?_⟩|refine⟨rfl,?_⟩)⟩
   ·have hc:¬ (i+j)/2<eU x (p1,p2,p3,p4,p5,p6):=fun h=>absurd ((NI hs (by omega) (by omega)).2 h) (of_decide_eq_false hc)
    exact⟨i,(i+j)/2,⟨h0,h1,by omega,by omega⟩,by omega,(by repeat' first|exact trivial|refine⟨trivial,?_⟩|refine⟨(by with_reducible rfl),?_⟩|refine⟨af (by omega) (by omega),?_⟩|refine⟨rfl,?_⟩)⟩
  ·have hb:=of_decide_eq_false hb
   have:i=eU x (p1,p2,p3,p4,p5,p6):=by omega
   subst this
   (repeat (intro (b_:Bool) (hb_:b_=_);(repeat refine⟨(by first|(simp;done)|(rw[hb_];simp;done)|(rw[hb_];simp;omega)|(rw[hb_];simp;intros;omega)|(rw[hb_];simp +contextual;done)),?_⟩);subst hb_))
   exact rfl
theorem ai2:av Tryz.prog GL 104 Nu.spec:=Ct.okH _ Tryz.func104 (by kernel_rfl) (ah aA ad9) au Ts (aB (by kernel_rfl) X8)
theorem He{α:Type}{p q:α->Bool}:∀{l:List α},(∀ x∈l,p x=q x)->l.takeWhile p=l.takeWhile q/\l.dropWhile p=l.dropWhile q
 | [],_=>⟨rfl,rfl⟩
 | a::l,h=>by
  obtain⟨h1,h2⟩:=He (l:=l) fun x hx=>h x (List.mem_cons_of_mem _ hx)
  have ha:=h a (List.mem_cons_self ..)
  rw[List.takeWhile_cons,List.takeWhile_cons,List.dropWhile_cons,List.dropWhile_cons,ha,h1,h2]
  exact⟨rfl,rfl⟩
theorem VE{l:List aK}{f:aK}(hf:∀ x∈l,ig x<ig f):l.take (eU l f).toNat++([f]++l.drop (eU l f).toNat)=c9 l f:=by
 obtain⟨e1,e2⟩:=He (p:=fun x=>decide (eZ x f)) (q:=fun x=>decide (ax x<=ax f)) (l:=l) fun x hx=>by
  have:=hf x hx
  apply decide_eq_decide.2
  unfold eZ;omega
 have k:=List.takeWhile_append_dropWhile (p:=fun x=>decide (eZ x f)) (l:=l)
 have t1:∀ A B:List aK,A++B=l->l.take A.length=A/\l.drop A.length=B:=by
  rintro A B rfl
  exact⟨List.take_left' rfl,List.drop_left' rfl⟩
 obtain⟨t2,t3⟩:=t1 _ _ k
 unfold eU
 rw[Int.toNat_natCast,t2,t3]
 unfold c9
 rw[e1,e2]
 rfl
def Kr:Ct:=⟨[.box 37 wL,.agg kw],[],fun d=>[(am d.1).Pairwise eZ,∀ x∈am d.1,ig x<aX d.1,(am d.1).length<=4096],fun d=>((),(wD d.1 d.2.1,()))⟩
def ag6:ar Kr.ps->ay:=(fun _=>{})
theorem Zd :
 ∀(a:List ac)(b:List aF)(c:List aN)(d e f:Int)(g:List (List aD×Int×List Int×(Int×Int)×Int))(h:List Int)(i:List (Int×Int×Int×Int×Int×List Int))(j:List (Int×Int×List Int))(k:List (Int×Int×Int×Int×Int))(l m n o p:Int)(q:List Int),(((a.length<=maxLen/\ ∀(r:ac),r∈a->CT.wf bH r)/\(b.length<=maxLen/\ ∀(r:aF),r∈b->CT.wf fy r)/\c.length<=maxLen/\ ∀(r:aN),r∈c->CT.wf dZ r)/\ab d/\ab e/\ab f/\(g.length<=maxLen/\ ∀(r:List aD×Int×List Int×(Int×Int)×Int),r∈g->(r.1.length<=maxLen/\ ∀(s:aD),s∈r.1->((0<=s.1.1/\s.1.1<=4294967295)/\ab s.1.2)/\(s.2.1.length<=maxLen/\ ∀(t:Int),t∈s.2.1->ab t)/\ab s.2.2)/\ab r.2.1/\(r.2.2.1.length<=maxLen/\ ∀(s:Int),s∈r.2.2.1->ab s)/\(ab r.2.2.2.1.1/\ab r.2.2.2.1.2)/\ab r.2.2.2.2)/\(h.length<=maxLen/\ ∀(r:Int),r∈h->ab r)/\(i.length<=maxLen/\ ∀(r:Int×Int×Int×Int×Int×List Int),r∈i->ab r.1/\ab r.2.1/\ab r.2.2.1/\ab
 r.2.2.2.1/\ab r.2.2.2.2.1/\r.2.2.2.2.2.length<=maxLen/\ ∀(s:Int),s∈r.2.2.2.2.2->0<=s/\s<=255)/\(j.length<=maxLen/\ ∀(r:Int×Int×List Int),r∈j->ab r.1/\ab r.2.1/\r.2.2.length<=maxLen/\ ∀(s:Int),s∈r.2.2->0<=s/\s<=255)/\k.length<=maxLen/\ ∀(r:Int×Int×Int×Int×Int),r∈k->ab r.1/\ab r.2.1/\ab r.2.2.1/\ab r.2.2.2.1/\ab r.2.2.2.2)/\(ab l/\ab m/\ab n/\ab o/\ab p/\q.length<=maxLen/\ ∀(r:Int),r∈q->0<=r/\r<=255)/\True->List.Pairwise eZ (am ((a,b,c),d,e,f,g,h,i,j,k))/\(∀(r:aK),r∈am ((a,b,c),d,e,f,g,h,i,j,k)->ig r<aX ((a,b,c),d,e,f,g,h,i,j,k))/\List.length (am ((a,b,c),d,e,f,g,h,i,j,k))<=(4096:Nat)->List.Pairwise eZ i/\List.length [(l,e,n,o,p,q)]=(1:Nat)/\0<=eU i (l,e,n,o,p,q)/\eU i (l,e,n,o,p,q)<=(i.length:Int)/\(i.length+(1:Nat))*(64:Nat)<=(140737488355328:Nat)/\((a,b,c),d,IntKind.wrap .i64 (e+(1:Int)),f,g,h,List.take (Int.toNat (eU i (l,e,n,o,p,q)))
 i++([(l,e,n,o,p,q)]++List.drop (Int.toNat (eU i (l,e,n,o,p,q))) i),j,k)=wD ((a,b,c),d,e,f,g,h,i,j,k) (l,m,n,o,p,q):=by
  rintro ns ls hs now ord dn sts cr fl dl en a b c e f g-⟨h1,h2,h3⟩
  have h1:fl.Pairwise eZ:=h1
  have h2:∀ x∈fl,ig x<ord:=h2
  have h3:fl.length<=4096:=h3
  obtain⟨q0,q1⟩:=D8 fl (a,ord,c,e,f,g)
  refine⟨h1,rfl,q0,q1,by omega,?_⟩
  rw[VE (f:=(a,ord,c,e,f,g)) h2]
  rfl
theorem Jj:av Tryz.prog GL 46 Kr.spec:=Ct.okH _ Tryz.func46 (by kernel_rfl) (ah (ah aA ai2) XH) au ag6 (aB (by kernel_rfl) Zd)
def KG:Ct:=⟨[.box 37 wL],[],fun d=>[rg d.1],fun d=>((),(bo d.1,()))⟩
def T9:ar KG.ps->ay:=(fun d=>{loops:=(fun n=>match n with|0=>some (fun S=>{ι:=Int×(List bt),qn:=⟨fun k_=>∀(done:Int)(st:(List bt)),k_ (done,st),fun k_ h_ i=>h_ i.1 i.2,fun k_=>∃ (done:Int) (st:(List bt)),k_ (done,st),fun k_ ⟨done,st,h_⟩=>⟨_,h_⟩⟩,μ:=fun i=>((ao d.1).2.2.length-i.1).toNat,inv:=fun i=>rg (mQ (fv d.1 i.2) i.1)/\bo (mQ (fv d.1 i.2) i.1)=bo d.1,keep:=[0],slots:=fun i=>[],keepN:=[2097153,2097154,2097155,2097156],names:=fun i=>[(1048576,.live (.cells 37 (cy iC d.1.1++[.int .i64 d.1.2.1,.int .i64 d.1.2.2.1,.int .i64 i.1,.own 524288 6,.own 2097153 1,.own 2097154 6,.own 2097155 3,.own 2097156 5]))),(524288,.live (.row 134 lQ i.2))]})|_=>none)})
def BA(a:List ac)(b:List aF)(c:List aN)(d e f:Int)(g:List (List aD×Int×List Int×(Int×Int)×Int))(h:List Int)(i:List (Int×Int×Int×Int×Int×List Int))(j:List (Int×Int×List Int))(k:List (Int×Int×Int×Int×Int)) :=
 ((a.length<=maxLen/\ ∀(l:ac),l∈a->CT.wf bH l)/\(b.length<=maxLen/\ ∀(l:aF),l∈b->CT.wf fy l)/\c.length<=maxLen/\ ∀(l:aN),l∈c->CT.wf dZ l)/\ab d/\ab e/\ab f/\(g.length<=maxLen/\ ∀(l:List aD×Int×List Int×(Int×Int)×Int),l∈g->(l.1.length<=maxLen/\ ∀(m:aD),m∈l.1->((0<=m.1.1/\m.1.1<=4294967295)/\ab m.1.2)/\(m.2.1.length<=maxLen/\ ∀(n:Int),n∈m.2.1->ab n)/\ab m.2.2)/\ab l.2.1/\(l.2.2.1.length<=maxLen/\ ∀(m:Int),m∈l.2.2.1->ab m)/\(ab l.2.2.2.1.1/\ab l.2.2.2.1.2)/\ab l.2.2.2.2)/\(h.length<=maxLen/\ ∀(l:Int),l∈h->ab l)/\(i.length<=maxLen/\ ∀(l:Int×Int×Int×Int×Int×List Int),l∈i->ab l.1/\ab l.2.1/\ab l.2.2.1/\ab l.2.2.2.1/\ab l.2.2.2.2.1/\l.2.2.2.2.2.length<=maxLen/\ ∀(m:Int),m∈l.2.2.2.2.2->0<=m/\m<=255)/\(j.length<=maxLen/\ ∀(l:Int×Int×List Int),l∈j->ab l.1/\ab l.2.1/\l.2.2.length<=maxLen/\ ∀(m:Int),m∈l.2.2->0<=m/\m<=255)/\k.length<=maxLen/\
 ∀(l:Int×Int×Int×Int×Int),l∈k->ab l.1/\ab l.2.1/\ab l.2.2.1/\ab l.2.2.2.1/\ab l.2.2.2.2
def o5(c:List aN)(l:Int) :=
 c.getD l.toNat default
def qG(c:List aN)(l:Int)(m:List bt) :=
 m.getD (Int.toNat (o5 c l).2.1) default
def nj(n:Bool) :=
 n->(n->n)/\True
theorem ae7 :
 ∀(a:List ac)(b:List aF)(c:List aN)(d e f:Int)(g:List (List aD×Int×List Int×(Int×Int)×Int))(h:List Int)(i:List (Int×Int×Int×Int×Int×List Int))(j:List (Int×Int×List Int))(k:List (Int×Int×Int×Int×Int)),(BA a b c d e f g h i j k)/\True->db ((a,b,c),d,e,f,g,h,i,j,k)∨c=([]:List aN)/\bz ((a,b,c),d,e,f,g,h,i,j,k)=0->(∃(l:Int) (m:List bt),(rg (mQ (fv ((a,b,c),d,e,f,g,h,i,j,k) m) l)/\bo (mQ (fv ((a,b,c),d,e,f,g,h,i,j,k) m) l)=bo ((a,b,c),d,e,f,g,h,i,j,k))/\h=h/\i=i/\j=j/\k=k/\a=a/\b=b/\c=c/\d=d/\e=e/\f=l/\g=m/\True)/\ ∀(l:Int)(m:List bt),rg (mQ (fv ((a,b,c),d,e,f,g,h,i,j,k) m) l)/\bo (mQ (fv ((a,b,c),d,e,f,g,h,i,j,k) m) l)=bo ((a,b,c),d,e,f,g,h,i,j,k)-> ∀(n:Bool),n=decide (l<(iz c))->(nj n)/\(nj n)/\(nj n)/\(nj n)/\(nj n)/\(nj n)/\(nj n)/\(n->(n->n)/\(n->n)/\0<=l/\l<(iz
 c)/\True)/\(nj n)/\(nj n)/\(nj n)/\(nj n)/\(nj n)/\(n->(n->n)/\(n->n)/\True)/\(n->n)/\ad (bif n then decide ((o5 c l).1<=d) else false) (0<=l/\l<(iz c)/\0<=(o5 c l).2.1/\(o5 c l).2.1<(m.length:Int)/\ad (o5 c l).2.2.1 (bM (qG c l m).1/\okL (qG c l m).1/\ ∃(o:Int) (p:List bt),(rg (mQ (fv ((a,b,c),d,e,f,g,h,i,j,k) p) o)/\bo (mQ (fv ((a,b,c),d,e,f,g,h,i,j,k) p) o)=bo ((a,b,c),d,e,f,g,h,i,j,k))/\Int.toNat ((iz c) -o)<Int.toNat ((iz c) -l)/\h=h/\i=i/\j=j/\k=k/\a=a/\b=b/\c=c/\d=d/\e=e/\IntKind.wrap .i64 (l+(1:Int))=o/\List.set m (Int.toNat (o5 c l).2.1) (gI (qG c l m).1 (o5 c l).2.2.2.1,(qG c l m).2)=p/\True) (bM (qG c l m).1/\okL (qG c l m).1/\((List.length (o5 c l).2.2.2.2.1):Int)<=1099511627776/\ ∃(o:Int) (p:List bt),(rg (mQ (fv ((a,b,c),d,e,f,g,h,i,j,k) p) o)/\bo
 (mQ (fv ((a,b,c),d,e,f,g,h,i,j,k) p) o)=bo ((a,b,c),d,e,f,g,h,i,j,k))/\Int.toNat ((iz c) -o)<Int.toNat ((iz c) -l)/\h=h/\i=i/\j=j/\k=k/\a=a/\b=b/\c=c/\d=d/\e=e/\IntKind.wrap .i64 (l+(1:Int))=o/\List.set m (Int.toNat (o5 c l).2.1) (dP (qG c l m).1 (o5 c l).2.2.2,(qG c l m).2)=p/\True)) (((a,b,c),d,e,l,m,h,i,j,k)=bo ((a,b,c),d,e,f,g,h,i,j,k)):=by
  delta BA qG iz nj o5
  rintro ns ls hs now ord dn0 sts cr fl dl en ⟨⟨⟨-,-,⟨hl,-⟩⟩,-⟩,-⟩ h
  simp only[maxLen] at hl
  refine⟨⟨dn0,sts,⟨h,rfl⟩,(by repeat' first|exact trivial|refine⟨trivial,?_⟩|refine⟨(by with_reducible rfl),?_⟩|refine⟨af (by omega) (by omega),?_⟩|refine⟨rfl,?_⟩)⟩,?_⟩
  rintro dn st ⟨hv,he⟩
  obtain⟨v,hw⟩:∃ v:aq,v=mQ (fv ((ns,ls,hs),now,ord,dn0,sts,cr,fl,dl,en) st) dn:=⟨_,rfl⟩
  rw[← hw] at hv he
  have hdn:bz v=dn:=by rw[hw];rfl
  have hd0:0<=dn:=by rcases hv with q|q;have:=q.done.1;omega;have:=q.2;omega
  (repeat (intro (b_:Bool) (hb_:b_=_);(repeat refine⟨(by first|(simp;done)|(rw[hb_];simp;done)|(rw[hb_];simp;omega)|(rw[hb_];simp;intros;omega)|(rw[hb_];simp +contextual;done)),?_⟩);subst hb_))
  refine su (fun h1 h2=>?_) (fun h12=>?_)
  rotate_left
  ·rw[← he,ad4,hw]
   ·rfl
   ·intro k
    unfold jj at k
    rw[hw,Bool.and_eq_true] at k
    rcases h12 with q|q
    ·exact absurd (k.1.symm.trans q) (by simp)
    ·exact absurd (k.2.symm.trans q) (by simp)
  have hd1:dn<hs.length:=of_decide_eq_true h1
  have hv:db v:=hv.resolve_right fun q=>by
   have q1:hs=[]:=by have:=q.1;rw[hw] at this;exact this
   rw[q1] at hd1;simp at hd1;omega
  have hdue:jj v=true:=by
   unfold jj
   rw[hw,Bool.and_eq_true]
   exact⟨h1,h2⟩
  have eN:ao v=(ns,ls,hs):=by rw[hw];rfl
  have eS:aM v=st:=by rw[hw];rfl
  have hk:dn.toNat<(ao v).2.2.length:=by rw[eN];show dn.toNat<hs.length;omega
  obtain⟨-,⟨w0,w1⟩,hc⟩:=Ab hv.net hk
  have hlen:=hv.len
  have hsw:=hv.chg hdue
  have hst:=(ab5 hv hdue).symm.trans he
  rw[eN,eS] at hlen
  rw[eN] at w0 w1 hc
  have hlen:st.length=ns.length:=hlen
  obtain⟨c,ec⟩:∃ c:aN,c=hs.getD dn.toNat default:=⟨_,rfl⟩
  have w0:0<=bu c:=by rw[ec];exact w0
  have w1:bu c<ns.length:=by rw[ec];exact w1
  have hi:(bu c).toNat<(ao v).1.length:=by rw[eN];show (bu c).toNat<ns.length;omega
  obtain⟨c1,c2⟩:=sV (hv.chk hi)
  rw[eS] at c1 c2
  have et:gY v=c:=by rw[ec,hw];rfl
  have ed:bz v=dn:=by rw[hw];rfl
  have ev:fO v=mQ (fv ((ns,ls,hs),now,ord,dn0,sts,cr,fl,dl,en) (st.set (bu c).toNat (DH (st.getD (bu c).toNat default) (fJ (bn (st.getD (bu c).toNat default)) c)))) (dn+1):=by
   unfold fO
   rw[et,ed,eS,af (by omega) (by omega),hw]
   rfl
  rw[ev] at hsw hst
  have wd:IntKind.i64.wrap (dn+1)=dn+1:=af (by omega) (by omega)
  rw[← ec]
  refine⟨hd0,hd1,w0,by rw[hlen];exact w1,ae (fun hr=>?_) (fun hr=>?_)⟩
  ·have er:fJ (bn (st.getD (bu c).toNat default)) c=gI (bn (st.getD (bu c).toNat default)) (dh c).1:=by unfold fJ;exact if_pos hr
   rw[er] at hsw hst
   refine⟨c1,c2,dn+1,_,⟨.inl hsw,hst⟩,by show (hs.length-(dn+1)).toNat<(hs.length-dn).toNat;omega,?_⟩
   (repeat first|refine⟨trivial,?_⟩|refine⟨(by with_reducible rfl),?_⟩|refine⟨af (by omega) (by omega),?_⟩)
   exact⟨rfl,trivial⟩
  ·have er:fJ (bn (st.getD (bu c).toNat default)) c=dP (bn (st.getD (bu c).toNat default)) (dh c):=by unfold fJ;rw[if_neg (by rw[show qY c=false from hr];simp)]
   have hin:((dh c).2.1.length:Int)<=1099511627776:=by
    have hc':=(sV hc).2.2
    rw[← ec] at hc'
    have e2:fJ ((c8 (ns,ls,hs) dn.toNat).getD (bu c).toNat default) c=dP ((c8 (ns,ls,hs) dn.toNat).getD (bu c).toNat default) (dh c):=by unfold fJ;rw[if_neg (by rw[show qY c=false from hr];simp)]
    have hc2:okL (dP ((c8 (ns,ls,hs) dn.toNat).getD (bu c).toNat default) (dh c)):=by
     have:=(sV hc).2
     rw[← e2,ec];exact this
    exact hc2.2 _ (by unfold dP;simp)
   rw[er] at hsw hst
   refine⟨c1,c2,hin,dn+1,_,⟨.inl hsw,hst⟩,by show (hs.length-(dn+1)).toNat<(hs.length-dn).toNat;omega,?_⟩
   (repeat first|refine⟨trivial,?_⟩|refine⟨(by with_reducible rfl),?_⟩|refine⟨af (by omega) (by omega),?_⟩)
   exact⟨rfl,trivial⟩
theorem LL:av Tryz.prog GL 45 KG.spec:=Ct.okH _ Tryz.func45 (by kernel_rfl) (ah (ah aA It) IN) au T9 (aB (by kernel_rfl) ae7)
def L7:Ct:=⟨[.box 37 wL,.agg kw,.val cI,.val cI],[],fun d=>[((aQ d.1).length:Int)<=1000000000000],fun d=>((),(kF d.1 d.2.1 d.2.2.1 d.2.2.2.1,()))⟩
def WM:ar L7.ps->ay:=(fun _=>{})
def AJ(a:List ac)(b:List aF)(c:List aN)(d e f:Int)(g:List (List aD×Int×List Int×(Int×Int)×Int))(h:List Int)(i:List (Int×Int×Int×Int×Int×List Int))(j:List (Int×Int×List Int))(k:List (Int×Int×Int×Int×Int)) :=
 ((a.length<=maxLen/\ ∀(t:ac),t∈a->CT.wf bH t)/\(b.length<=maxLen/\ ∀(t:aF),t∈b->CT.wf fy t)/\c.length<=maxLen/\ ∀(t:aN),t∈c->CT.wf dZ t)/\ab d/\ab e/\ab f/\(g.length<=maxLen/\ ∀(t:List aD×Int×List Int×(Int×Int)×Int),t∈g->(t.1.length<=maxLen/\ ∀(u:aD),u∈t.1->((0<=u.1.1/\u.1.1<=4294967295)/\ab u.1.2)/\(u.2.1.length<=maxLen/\ ∀(v:Int),v∈u.2.1->ab v)/\ab u.2.2)/\ab t.2.1/\(t.2.2.1.length<=maxLen/\ ∀(u:Int),u∈t.2.2.1->ab u)/\(ab t.2.2.2.1.1/\ab t.2.2.2.1.2)/\ab t.2.2.2.2)/\(h.length<=maxLen/\ ∀(t:Int),t∈h->ab t)/\(i.length<=maxLen/\ ∀(t:Int×Int×Int×Int×Int×List Int),t∈i->ab t.1/\ab t.2.1/\ab t.2.2.1/\ab t.2.2.2.1/\ab t.2.2.2.2.1/\t.2.2.2.2.2.length<=maxLen/\ ∀(u:Int),u∈t.2.2.2.2.2->0<=u/\u<=255)/\(j.length<=maxLen/\ ∀(t:Int×Int×List Int),t∈j->ab t.1/\ab t.2.1/\t.2.2.length<=maxLen/\ ∀(u:Int),u∈t.2.2->0<=u/\u<=255)/\k.length<=maxLen/\
 ∀(t:Int×Int×Int×Int×Int),t∈k->ab t.1/\ab t.2.1/\ab t.2.2.1/\ab t.2.2.2.1/\ab t.2.2.2.2
theorem Vs :
 ∀(a:List ac)(b:List aF)(c:List aN)(d e f:Int)(g:List (List aD×Int×List Int×(Int×Int)×Int))(h:List Int)(i:List (Int×Int×Int×Int×Int×List Int))(j:List (Int×Int×List Int))(k:List (Int×Int×Int×Int×Int))(l m n o p:Int)(q:List Int)(r s:Int),(AJ a b c d e f g h i j k)/\(ab l/\ab m/\ab n/\ab o/\ab p/\q.length<=maxLen/\ ∀(t:Int),t∈q->0<=t/\t<=255)/\ab r/\ab s/\True->((List.length (aQ ((a,b,c),d,e,f,g,h,i,j,k))):Int)<=1000000000000->(k.length+List.length [(p,l,n,r,s)])*(40:Nat)<=(140737488355328:Nat)/\((a,b,c),d,e,f,g,h,i,j,k++[(p,l,n,r,s)])=kF ((a,b,c),d,e,f,g,h,i,j,k) (l,m,n,o,p,q) r s:=by
  delta AJ
  rintro ns ls hs now ord dn sts cr fl dl en a b c e f g l r-h
  have h:(en.length:Int)<=1000000000000:=h
  exact⟨by simp only[List.length_singleton];omega,rfl⟩
theorem MJ:av Tryz.prog GL 100 L7.spec:=Ct.okH _ Tryz.func100 (by kernel_rfl) aA au WM (aB (by kernel_rfl) Vs)
def KJ(n:Int):Int:=IntKind.u64.wrap n
def Hg:Ct:=⟨[.box 37 wL,.agg kw,.agg tL],[],fun d=>[(am d.1).Pairwise eZ,∀ x∈am d.1,ig x<aX d.1,(am d.1).length<=4096,((aQ d.1).length:Int)<=1000000000000,(bJ d.1).length=(ao d.1).2.1.length,0<=d.2.2.1.1,d.2.2.1.1<(ao d.1).2.1.length,iN (ao d.1).1.length (cO d.1 d.2.2.1.1)],fun d=>((),(dB d.1 d.2.1 d.2.2.1,()))⟩
def R9:ar Hg.ps->ay:=(fun _=>{})
def lJ(h:List Int)(r:Int) :=
 IntKind.wrap .i64 (h.getD r.toNat default+(1:Int))
def Dz(b:List aF)(h:List Int)(r:Int) :=
 ky (bits BinOp.xor IntKind.u64 (ky (IntKind.wrap .u64 (b.getD r.toNat default).2.2.2.2.2)) (IntKind.wrap .u64 (h.getD r.toNat default)))
def Ge(b:List aF)(d:Int)(h:List Int)(r:Int) :=
 IntKind.wrap .i64 (d+(b.getD r.toNat default).2.2.1)+IntKind.wrap .i64 (Int.tmod (IntKind.wrap .u64 (Int.tdiv (Dz b h r) (65536:Int))) (IntKind.wrap .u64 (IntKind.wrap .i64 ((b.getD r.toNat default).2.2.2.1+(1:Int)))))
def vh(t:Bool) :=
 (! t)->((! t)->(! t))/\True
theorem ax3 :
 ∀(a:List ac)(b:List aF)(c:List aN)(d e f:Int)(g:List (List aD×Int×List Int×(Int×Int)×Int))(h:List Int)(i:List (Int×Int×Int×Int×Int×List Int))(j:List (Int×Int×List Int))(k:List (Int×Int×Int×Int×Int))(l m n o p:Int)(q:List Int)(r:Int)(s:List Int),(AJ a b c d e f g h i j k)/\(ab l/\ab m/\ab n/\ab o/\ab p/\q.length<=maxLen/\ ∀(t:Int),t∈q->0<=t/\t<=255)/\(ab r/\s.length<=maxLen/\ ∀(t:Int),t∈s->0<=t/\t<=255)/\True->List.Pairwise eZ (am ((a,b,c),d,e,f,g,h,i,j,k))/\(∀(t:aK),t∈am ((a,b,c),d,e,f,g,h,i,j,k)->ig t<aX ((a,b,c),d,e,f,g,h,i,j,k))/\List.length (am ((a,b,c),d,e,f,g,h,i,j,k))<=(4096:Nat)/\((List.length (aQ ((a,b,c),d,e,f,g,h,i,j,k))):Int)<=1000000000000/\List.length (bJ ((a,b,c),d,e,f,g,h,i,j,k))=b.length/\0<=r/\r<(b.length:Int)/\0<=lA (cO ((a,b,c),d,e,f,g,h,i,j,k) r)/\lA (cO ((a,b,c),d,e,f,g,h,i,j,k) r)<(a.length:Int)/\0<=lB (cO
 ((a,b,c),d,e,f,g,h,i,j,k) r)/\lB (cO ((a,b,c),d,e,f,g,h,i,j,k) r)<(a.length:Int)/\lA (cO ((a,b,c),d,e,f,g,h,i,j,k) r)≠lB (cO ((a,b,c),d,e,f,g,h,i,j,k) r)/\1<=kR (cO ((a,b,c),d,e,f,g,h,i,j,k) r)/\kR (cO ((a,b,c),d,e,f,g,h,i,j,k) r)<=1073741824/\0<=ia (cO ((a,b,c),d,e,f,g,h,i,j,k) r)/\ia (cO ((a,b,c),d,e,f,g,h,i,j,k) r)<=1073741824/\0<=o6 (cO ((a,b,c),d,e,f,g,h,i,j,k) r)/\o6 (cO ((a,b,c),d,e,f,g,h,i,j,k) r)<=65536->0<=r/\r<(b.length:Int)/\0<=r/\r<(h.length:Int)/\0<=r/\r<(h.length:Int)/\0<=r/\r<(h.length:Int)/\(65536:Int)≠(0:Int)/\ad (decide (Int.tmod (Dz b h r) 65536<IntKind.wrap .u64 (b.getD r.toNat default).2.2.2.2.1)) (((List.length (aQ ((a,b,c),d,e,f,g,List.set h r.toNat (lJ h r),i,j,k))):Int)<=1000000000000/\((a,b,c),d,e,f,g,List.set h r.toNat (lJ h r),i,j,aQ ((a,b,c),d,e,f,g,List.set h r.toNat (lJ h r),i,j,k)++[(dO
 (l,m,n,o,p,q),ax (l,m,n,o,p,q),aP (l,m,n,o,p,q),r,(3:Int))])=dB ((a,b,c),d,e,f,g,h,i,j,k) (l,m,n,o,p,q) (r,s)) ((65536:Int)≠(0:Int)/\IntKind.wrap .u64 (IntKind.wrap .i64 ((b.getD r.toNat default).2.2.2.1+(1:Int)))≠(0:Int)/\ ∀(t:Bool),t=decide (1125899906842624<IntKind.wrap .i64 (Ge b d h r))->(vh t)/\(vh t)/\(vh t)/\(vh t)/\(vh t)/\(t=false->(! t))/\ad (bif t then true else decide (4096<=(i.length:Int))) (((List.length (aQ ((a,b,c),d,e,f,g,List.set h r.toNat (lJ h r),i,j,k))):Int)<=1000000000000/\((a,b,c),d,e,f,g,List.set h r.toNat (lJ h r),i,j,aQ ((a,b,c),d,e,f,g,List.set h r.toNat (lJ h r),i,j,k)++[(dO (l,m,n,o,p,q),ax (l,m,n,o,p,q),aP (l,m,n,o,p,q),r,(7:Int))])=dB ((a,b,c),d,e,f,g,h,i,j,k) (l,m,n,o,p,q) (r,s)) (List.Pairwise eZ (am ((a,b,c),d,e,f,g,List.set h r.toNat (lJ h r),i,j,k))/\(∀(u:aK),u∈am ((a,b,c),d,e,f,g,List.set h
 r.toNat (lJ h r),i,j,k)->ig u<aX ((a,b,c),d,e,f,g,List.set h r.toNat (lJ h r),i,j,k))/\List.length (am ((a,b,c),d,e,f,g,List.set h r.toNat (lJ h r),i,j,k))<=(4096:Nat)/\((a,b,c),d,IntKind.wrap .i64 (aX ((a,b,c),d,e,f,g,List.set h r.toNat (lJ h r),i,j,k)+(1:Int)),f,g,List.set h r.toNat (lJ h r),c9 (am ((a,b,c),d,e,f,g,List.set h r.toNat (lJ h r),i,j,k)) (ax (IntKind.wrap .i64 (Ge b d h r),(0:Int),fA b r n,r,p,s),aX ((a,b,c),d,e,f,g,List.set h r.toNat (lJ h r),i,j,k),fA b r n,r,p,s),j,k)=dB ((a,b,c),d,e,f,g,h,i,j,k) (l,m,n,o,p,q) (r,s))):=by
  delta AJ lJ Ge Dz vh
  rintro ns ls hs now ord dn sts cr fl dl en a b c e f g k o-⟨h1,h2,h3,h4,h5,h6,h7,h8⟩
  obtain⟨w,hw⟩:∃ w:aq,w=((ns,ls,hs),now,ord,dn,sts,cr,fl,dl,en):=⟨_,rfl⟩
  obtain⟨x,hx⟩:∃ x:aK,x=(a,b,c,e,f,g):=⟨_,rfl⟩
  have h8:iN ns.length (cO w k):=by rw[hw];exact h8
  have h4:(en.length:Int)<=1000000000000:=h4
  have h5:cr.length=ls.length:=h5
  have h7:k<(ls.length:Int):=h7
  obtain⟨-,-,-,-,-,d1,d2,j1,j2,l1,l2⟩:=h8
  have eL:cO w k=ls.getD k.toNat default:=by rw[hw];rfl
  have eC:j5 w k=cr.getD k.toNat default:=by rw[hw];rfl
  have e1:IntKind.i64.wrap (ia (cO w k)+1)=ia (cO w k)+1:=af (by omega) (by omega)
  have e2:IntKind.u64.wrap (ia (cO w k)+1)=ia (cO w k)+1:=DZ (by omega) (by omega)
  refine⟨h6,h7,h6,by omega,h6,by omega,h6,by omega,by decide,ae (fun hl=>?_) (fun hl=>⟨by decide,?_,?_⟩)⟩
  ·have hl:=of_decide_eq_true hl
   have ec:dB w x (k,o)=kF (qX w ((bJ w).set k.toNat (IntKind.i64.wrap (j5 w k+1)))) x k 3:=by
    unfold dB
    exact if_pos (by rw[eL,eC];exact hl)
   rw[← hw,← hx,ec,hw,hx]
   exact⟨h4,rfl⟩
  ·show KJ (IntKind.i64.wrap (ia (ls.getD k.toNat default)+1))≠0
   unfold KJ
   rw[← eL,e1,e2];omega
  have hl:=of_decide_eq_false hl
  have hm:=LW (bits .xor .u64 (ky (IntKind.wrap .u64 (sg (cO w k)))) (IntKind.wrap .u64 (j5 w k)))
  have eq:IntKind.u64.wrap (Int.tdiv (pI (cO w k) (j5 w k)) 65536)=Int.tdiv (pI (cO w k) (j5 w k)) 65536:=by
   unfold pI
   rw[Int.tdiv_eq_ediv_of_nonneg hm.1]
   exact DZ (by omega) (by omega)
  have eo:jd w k=IntKind.i64.wrap (IntKind.i64.wrap (now+(ls.getD k.toNat default).2.2.1)+IntKind.i64.wrap (Int.tmod (IntKind.u64.wrap (Int.tdiv (pI (ls.getD k.toNat default) (cr.getD k.toNat default)) 65536)) (IntKind.u64.wrap (IntKind.i64.wrap ((ls.getD k.toNat default).2.2.2.1+1))))):=by
   unfold jd xz
   rw[← eL,← eC,eq,hw]
   rfl
  have fin:∀ over:Int,jd w k=over→∀ b:Bool,b=decide (1125899906842624<over)->ad (bif b then true else decide (4096<=(fl.length:Int))) (((aQ (qX w (cr.set k.toNat (IntKind.i64.wrap (cr.getD k.toNat default+1))))).length:Int)<=1000000000000/\kF (qX w (cr.set k.toNat (IntKind.i64.wrap (cr.getD k.toNat default+1)))) x k 7=dB w x (k,o))
    (fl.Pairwise eZ/\(∀ z∈fl,ig z<ord)/\fl.length<=4096/\wD (qX w (cr.set k.toNat (IntKind.i64.wrap (cr.getD k.toNat default+1)))) (over,0,fA ls k c,k,f,o)=dB w x (k,o)):=by
   rintro over rfl b rfl
   have e0:dB w x (k,o)=if 1125899906842624<jd w k∨(4096:Int)<=(am w).length then kF (qX w ((bJ w).set k.toNat (IntKind.i64.wrap (j5 w k+1)))) x k 7 else wD (qX w ((bJ w).set k.toNat (IntKind.i64.wrap (j5 w k+1)))) (jd w k,0,fA (ao w).2.1 k (aP x),k,dO x,o):=by
    unfold dB
    exact if_neg (by rw[eL,eC];exact hl)
   have em:am w=fl:=by rw[hw];rfl
   refine p8 (fun ho=>?_) (fun q1 q2=>?_)
   ·refine⟨by rw[hw];exact h4,?_⟩
    rw[e0,if_pos (by rw[em];rcases ho with q|q;exact .inl (of_decide_eq_true q);exact .inr (of_decide_eq_true q)),hw]
    rfl
   ·refine⟨h1,h2,h3,?_⟩
    rw[e0,if_neg (by rw[em];rintro (q|q);exact absurd q (of_decide_eq_false q1);exact absurd q (of_decide_eq_false q2)),hw,hx]
    rfl
  rw[hx,hw] at fin
  intro b hb
  have:=fin _ (hw▸eo) b hb
  (repeat refine⟨(by first|(simp;done)|(rw[hb];simp;done)|(rw[hb];simp;omega)),?_⟩)
  exact this
theorem ZF:av Tryz.prog GL 101 Hg.spec:=Ct.okH _ Tryz.func101 (by kernel_rfl) (ah (ah (ah (ah aA Ii) MJ) Q9) Jj) au R9 (aB (by kernel_rfl) ax3)
def KZ:Ct:=⟨[.box 37 wL],[],fun d=>[oG d.1,am d.1≠[]],fun d=>((),(cC d.1,()))⟩
def Zu:ar KZ.ps->ay:=(fun d=>{cuts:=(fun n=>match n with|8=>some (fun S=>{ι:=aq,inv:=fun i=>i=kH d.1,keep:=[0,2,4,5],slots:=fun i=>[],keepN:=[48,80],names:=fun i=>[(1048576,.live (.cells 37 (cy iC (ao i)++[.int .i64 (aT i),.int .i64 (aX i),.int .i64 (bz i),.own 524288 6,.own 524289 1,.own 524290 6,.own 524291 3,.own 524292 5]))),(524288,.live (.row 134 lQ (aM i))),(524289,.live (.row 3 cI (bJ i))),(524290,.live (.row 116 kw (am i))),(524291,.live (.row 92 tm (aO i))),(524292,.live (.row 61 rm (aQ i)))]})|10=>some (fun S=>{ι:=aq,inv:=fun i=>i=f7 d.1,keep:=[0,2,4],slots:=fun i=>[],keepN:=[48,80],names:=fun i=>[(1048576,.live (.cells 37 (cy iC (ao i)++[.int .i64 (aT i),.int .i64 (aX i),.int .i64 (bz i),.own 524288 6,.own 524289 1,.own 524290 6,.own 524291 3,.own 524292 5]))),(524288,.live (.row 134 lQ (aM i))),(524289,.live (.row 3 cI (bJ i))),(524290,.live (.row 116 kw (am i))),(524291,.live (.row 92 tm (aO i))),(524292,.live (.row 61 rm (aQ i)))]})|_=>none)})
def bq(i:List (Int×Int×Int×Int×Int×List Int)) :=
 i.getD (Int.toNat (0:Int)) default
def yW(i:List (Int×Int×Int×Int×Int×List Int))(l:List ac)(r:List (List aD×Int×List Int×(Int×Int)×Int)) :=
 dK (l.getD (Int.toNat (bq i).2.2.1) default) (r.getD (Int.toNat (bq i).2.2.1) default) (bq i).2.2.2.1 (bq i).1 (bq i).2.2.2.2.2
theorem aw8 :
 ∀(a:List ac)(b:List aF)(c:List aN)(d e f:Int)(g:List (List aD×Int×List Int×(Int×Int)×Int))(h:List Int)(i:List (Int×Int×Int×Int×Int×List Int))(j:List (Int×Int×List Int))(k:List (Int×Int×Int×Int×Int)),(BA a b c d e f g h i j k)/\True->oG ((a,b,c),d,e,f,g,h,i,j,k)/\(am ((a,b,c),d,e,f,g,h,i,j,k)=([]:List aK)->False)->(0:Int)<=0/\0<(i.length:Int)/\(0:Int)<=1/\1<=(i.length:Int)/\rg ((a,b,c),(bq i).1,e,f,g,h,List.drop 1 i,j,k)/\ ∀(l:List ac)(m:List aF)(n:List aN)(o p q:Int)(r:List (List aD×Int×List Int×(Int×Int)×Int))(s:List Int)(t:List (Int×Int×Int×Int×Int×List Int))(u:List (Int×Int×List Int))(v:List (Int×Int×Int×Int×Int)),((l,m,n),o,p,q,r,s,t,u,v)=bo ((a,b,c),(bq i).1,e,f,g,h,List.drop 1 i,j,k)->0<=(bq i).2.2.1/\(bq i).2.2.1<(l.length:Int)/\0<=(bq i).2.2.1/\(bq i).2.2.1<(r.length:Int)/\bM (bn (r.getD (Int.toNat (bq
 i).2.2.1) default))/\okL (bn (r.getD (Int.toNat (bq i).2.2.1) default))/\((List.length (jf (r.getD (Int.toNat (bq i).2.2.1) default))):Int)<=1000000/\((List.length (bq i).2.2.2.2.2):Int)<=1000000/\ ∀(w:List aD)(x:Int)(y:List Int)(z A B C:Int)(D:List Int)(E:Int),(w,x,y,(z,A),B)=(yW i l r).1/\(C,D)=(yW i l r).2.1/\E=(yW i l r).2.2->0<=(bq i).2.2.1/\(bq i).2.2.1<(r.length:Int)/\ad (decide (E=1)) ((u.length+List.length [((bq i).1,(bq i).2.2.1,(bq i).2.2.2.2.2)])*(40:Nat)<=(140737488355328:Nat)/\ ∃(F:aq),F=kH ((a,b,c),d,e,f,g,h,i,j,k)/\E=E/\(bq i).1=(bq i).1/\(bq i).2.1=(bq i).2.1/\(bq i).2.2.1=(bq i).2.2.1/\(bq i).2.2.2.1=(bq i).2.2.2.1/\(bq i).2.2.2.2.1=(bq i).2.2.2.2.1/\(bq i).2.2.2.2.2=(bq i).2.2.2.2.2/\C=C/\D=D/\l=(ao F).1/\m=(ao F).2.1/\n=(ao F).2.2/\o=aT F/\p=aX F/\q=bz F/\List.set r (Int.toNat (bq
 i).2.2.1) (w,x,y,(z,A),B)=aM F/\s=bJ F/\t=am F/\u++[((bq i).1,(bq i).2.2.1,(bq i).2.2.2.2.2)]=aO F/\v=aQ F/\True) (∃(F:aq),F=kH ((a,b,c),d,e,f,g,h,i,j,k)/\E=E/\(bq i).1=(bq i).1/\(bq i).2.1=(bq i).2.1/\(bq i).2.2.1=(bq i).2.2.1/\(bq i).2.2.2.1=(bq i).2.2.2.1/\(bq i).2.2.2.2.1=(bq i).2.2.2.2.1/\(bq i).2.2.2.2.2=(bq i).2.2.2.2.2/\C=C/\D=D/\l=(ao F).1/\m=(ao F).2.1/\n=(ao F).2.2/\o=aT F/\p=aX F/\q=bz F/\List.set r (Int.toNat (bq i).2.2.1) (w,x,y,(z,A),B)=aM F/\s=bJ F/\t=am F/\u=aO F/\v=aQ F/\True)/\ ∀(F:aq),F=kH ((a,b,c),d,e,f,g,h,i,j,k)->ad (! decide (E=0)) (((List.length (aQ (ao F,F.2))):Int)<=1000000000000/\ ∃(G:aq),G=f7 ((a,b,c),d,e,f,g,h,i,j,k)/\(bq i).1=(bq i).1/\(bq i).2.1=(bq i).2.1/\(bq i).2.2.1=(bq i).2.2.1/\(bq i).2.2.2.1=(bq i).2.2.2.1/\(bq i).2.2.2.2.1=(bq i).2.2.2.2.1/\(bq
 i).2.2.2.2.2=(bq i).2.2.2.2.2/\C=C/\D=D/\(ao F).1=(ao G).1/\(ao F).2.1=(ao G).2.1/\(ao F).2.2=(ao G).2.2/\aT F=aT G/\aX F=aX G/\bz F=bz G/\aM F=aM G/\bJ F=bJ G/\am F=am G/\aO F=aO G/\aQ (ao F,F.2)++[(dO (bq i),ax (bq i),aP (bq i),(bq i).2.2.2.1,E)]=aQ G/\True) (∃(G:aq),G=f7 ((a,b,c),d,e,f,g,h,i,j,k)/\(bq i).1=(bq i).1/\(bq i).2.1=(bq i).2.1/\(bq i).2.2.1=(bq i).2.2.1/\(bq i).2.2.2.1=(bq i).2.2.2.1/\(bq i).2.2.2.2.1=(bq i).2.2.2.2.1/\(bq i).2.2.2.2.2=(bq i).2.2.2.2.2/\C=C/\D=D/\(ao F).1=(ao G).1/\(ao F).2.1=(ao G).2.1/\(ao F).2.2=(ao G).2.2/\aT F=aT G/\aX F=aX G/\bz F=bz G/\aM F=aM G/\bJ F=bJ G/\am F=am G/\aO F=aO G/\aQ F=aQ G/\True)/\ ∀(G:aq),G=f7 ((a,b,c),d,e,f,g,h,i,j,k)->ad (decide (0<(D.length:Int))) (List.Pairwise eZ (am (ao G,G.2))/\(∀(H:aK),H∈am (ao
 G,G.2)->ig H<aX (ao G,G.2))/\List.length (am (ao G,G.2))<=(4096:Nat)/\((List.length (aQ (ao G,G.2))):Int)<=1000000000000/\List.length (bJ (ao G,G.2))=List.length (ao G).2.1/\0<=C/\C<((List.length (ao G).2.1):Int)/\iN (List.length (ao G).1) (cO (ao G,G.2) C)/\dB (ao G,G.2) (bq i) (C,D)=cC ((a,b,c),d,e,f,g,h,i,j,k)) ((ao G,aT G,aX G,bz G,aM G,bJ G,am G,aO G,aQ G)=cC ((a,b,c),d,e,f,g,h,i,j,k)):=by
  delta bq BA yW
  rintro ns ls hs now ord dn sts cr fl dl en-⟨h,hne⟩
  obtain⟨f,r,rfl⟩:∃ f r,fl=f::r:=List.exists_cons_of_ne_nil hne
  obtain⟨w,hw⟩:∃ w:aq,w=((ns,ls,hs),now,ord,dn,sts,cr,f::r,dl,en):=⟨_,rfl⟩
  have e0:(f::r).getD (Int.toNat 0) default=f:=rfl
  have e1:List.drop 1 (f::r)=r:=rfl
  simp only[e0,e1]
  rw[← hw] at h ⊢
  have A:=h.at (w:=w) (f:=f) (r:=r) (by rw[hw];rfl)
  have ew:aZ (cH w (am w).tail) (ax (ga w))=((ns,ls,hs),f.1,ord,dn,sts,cr,r,dl,en):=by rw[A.eF,hw];rfl
  refine⟨by omega,by simp only[List.length_cons];omega,by omega,by simp only[List.length_cons];omega,by rw[← ew];exact .inl A.h0.weak,?_⟩
  rw[← ew]
  intro a1 a2 a3 a4 a5 a6 a7 a8 a9 a10 a11 hv
  have hv:((a1,a2,a3),a4,a5,a6,a7,a8,a9,a10,a11)=dk w:=hv
  have hi:(aP f).toNat<(ao (dk w)).1.length:=by have:=A.fk.nd;omega
  have hnd:=A.fk.nd
  have hlen:=A.s.len
  obtain⟨st,-⟩:=A.s.st _ hi
  have N:=qR A.s.net hi
  have hps:=st.ps
  have hn32:=N.n32
  have hdl:=h.d
  have hen:=h.e
  have E1:a1=(ao (dk w)).1:=by rw[← hv];rfl
  have E7:a7=aM (dk w):=by rw[← hv];rfl
  have E10:a10=aO w:=by rw[← A.dl,← hv];rfl
  have E11:a11=aQ w:=by rw[← A.en,← hv];rfl
  have E9:a9=am (dk w):=by rw[← hv];rfl
  have eH:gX w=dK (a1.getD (aP f).toNat default) (a7.getD (aP f).toNat default) (dR f) (ax f) (da f):=by unfold gX aL;rw[A.eF,E1,E7]
  have hfd:=A.fk.d
  refine⟨hnd.1,by rw[E1];exact hnd.2,hnd.1,by rw[E7,hlen];exact hnd.2,by rw[E7];exact st.srt,by rw[E7];exact st.okl,by rw[E7];show ((jf ((aM (dk w)).getD (aP f).toNat default)).length:Int)<=1000000;omega,by show ((da f).length:Int)<=1000000;omega,?_⟩
  intro b1 b2 b3 b4 b5 b6 o1 o2 why hh
  obtain⟨hh1,hh2,hh3⟩:=hh
  have hh1:(b1,b2,b3,(b4,b5),b6)=(gX w).1:=by rw[eH];exact hh1
  have hh2:(o1,o2)=(gX w).2.1:=by rw[eH];exact hh2
  have hh3:why=(gX w).2.2:=by rw[eH];exact hh3
  have eA:sD w=((a1,a2,a3),a4,a5,a6,a7.set (aP f).toNat (b1,b2,b3,(b4,b5),b6),a8,a9,a10,a11):=by unfold sD;rw[A.eF,hh1,← hv];rfl
  refine⟨hnd.1,by rw[E7,hlen];exact hnd.2,?_⟩
  have lenD:((aO w).length:Int)<=999999999000:=by omega
  have lenE:((aQ w).length:Int)<=999999999000:=by omega
  refine⟨ae (fun k=>?_) (fun k=>?_),?_⟩
  ·have k:why=1:=of_decide_eq_true k
   have eB:kH w=((a1,a2,a3),a4,a5,a6,a7.set (aP f).toNat (b1,b2,b3,(b4,b5),b6),a8,a9,a10++[(ax f,aP f,da f)],a11):=by
    rw[rI,if_pos (hh3▸k),eA,A.eF,← hv];rfl
   exact⟨by rw[E10];simp only[List.length_singleton];omega,_,eB.symm,(by repeat' first|exact trivial|refine⟨trivial,?_⟩|refine⟨(by with_reducible rfl),?_⟩|refine⟨af (by omega) (by omega),?_⟩|refine⟨rfl,?_⟩)⟩
  ·have k:¬ why=1:=of_decide_eq_false k
   have eB:kH w=((a1,a2,a3),a4,a5,a6,a7.set (aP f).toNat (b1,b2,b3,(b4,b5),b6),a8,a9,a10,a11):=by
    rw[rI,if_neg (hh3▸k),eA,← hv];rfl
   exact⟨_,eB.symm,(by repeat' first|exact trivial|refine⟨trivial,?_⟩|refine⟨(by with_reducible rfl),?_⟩|refine⟨af (by omega) (by omega),?_⟩|refine⟨rfl,?_⟩)⟩
  rintro B rfl
  have eBn:aQ (kH w)=aQ w:=by rw[rI];show aQ (sD w)=_;rw[eA];exact E11
  refine⟨ae (fun k=>?_) (fun k=>?_),?_⟩
  ·have k:¬ why=0:=fY k
   refine⟨by show ((aQ (kH w)).length:Int)<=_;rw[eBn];omega,f7 w,rfl,?_⟩
   have eC:f7 w=Gj (kH w) (aQ (kH w)++[(dO f,ax f,aP f,dR f,why)]):=by rw[vG,if_pos (hh3▸k),A.eF,← hh3,eBn,← A.en]
   rw[eC]
   exact (by repeat' first|exact trivial|refine⟨trivial,?_⟩|refine⟨(by with_reducible rfl),?_⟩|refine⟨af (by omega) (by omega),?_⟩|refine⟨rfl,?_⟩)
  ·have k:why=0:=gz k
   refine⟨f7 w,rfl,?_⟩
   have eC:f7 w=kH w:=by unfold f7;rw[if_neg (by rw[← hh3,k];simp)]
   rw[eC]
   exact (by repeat' first|exact trivial|refine⟨trivial,?_⟩|refine⟨(by with_reducible rfl),?_⟩|refine⟨af (by omega) (by omega),?_⟩|refine⟨rfl,?_⟩)
  rintro C rfl
  have eCe:∃ l,aQ (f7 w)=l/\(l.length:Int)<=1000000000000:=by
   refine⟨_,rfl,?_⟩
   rw[vG]
   show ((if (gX w).2.2≠0 then aQ (dk w)++[(dO (ga w),ax (ga w),aP (ga w),dR (ga w),(gX w).2.2)] else aQ (dk w)).length:Int)<=_
   rw[A.en]
   split
   ·rw[List.length_append,List.length_singleton];omega
   ·omega
  obtain⟨l,el,hl⟩:=eCe
  have c1:ao (f7 w)=ao w:=by rw[vG,rI];exact A.net
  have c2:am (f7 w)=am (dk w):=by rw[vG,rI];rfl
  have c3:aX (f7 w)=aX (dk w):=by rw[vG,rI];rfl
  have c4:bJ (f7 w)=bJ (dk w):=by rw[vG,rI];rfl
  have hO:(gX w).2.1=(o1,o2):=hh2.symm
  refine ae (fun k=>?_) (fun k=>?_)
  ·have k:0<(o2.length:Int):=of_decide_eq_true k
   obtain⟨k1,k2,k3⟩:=A.out (by rw[hO];show 0<o2.length;omega)
   rw[hO] at k1 k2 k3
   refine⟨by show (am (f7 w)).Pairwise eZ;rw[c2];exact A.s.fl,?_,by show (am (f7 w)).length<=4096;rw[c2];exact A.s.fn,by show ((aQ (f7 w)).length:Int)<=_;rw[el];exact hl,by show (bJ (f7 w)).length=(ao (f7 w)).2.1.length;rw[c4,c1,← A.net];exact A.s.cl,k1,by rw[c1];exact k2,by show iN (ao (f7 w)).1.length ((ao (f7 w)).2.1.getD o1.toNat default);rw[c1];exact k3,?_⟩
   ·show ∀ x∈am (f7 w),ig x<aX (f7 w)
    rw[c2,c3]
    exact fun x hx=>(A.s.fo x hx).o.2
   ·rw[Jr,hO,if_pos (by show 0<o2.length;omega),A.eF]
    rfl
  ·have k:¬ 0<(o2.length:Int):=of_decide_eq_false k
   rw[Jr,hO,if_neg (by show ¬ 0<o2.length;omega)]
   rfl
theorem LX:av Tryz.prog GL 44 KZ.spec:=Ct.okH _ Tryz.func44 (by kernel_rfl) (Gl (ah (ah (ah (ah aA (Ct.named LL)) (Ct.named Qb)) MJ) ZF) (d:=17)) au Zu (aB (by kernel_rfl) aw8)
end Go.RS

/- SimV: the program's simulator: beginning, sending, steps, runs. -/
namespace Go.RS
open Go.SX Go.Proofs
set_option maxRecDepth 100000
set_option linter.unusedVariables false
def tF(n:bw):aq:=if d7 n=0 then jo n else vo
def lq(w:aq):Int:=if am w=[] then 0 else ax ((am w).headD default)
def jC(w:aq):Bool:=decide (am w≠[])
def gO(w:aq)(at' who:Int):Int:=if who<0∨((ao w).1.length:Int)<=who then 8 else if 1125899906842624<at' then 1 else if at'<aT w then 6 else if (4096:Int)<=(am w).length then 5 else 0
def kT(w:aq)(at' who:Int)(b:List Int):aq:=if gO w at' who=0 then iY w at' who b else vo
def nt(w:aq)(at' who:Int):Int:=if gO w at' who=0 then aX w else 0
def r0(w:aq):aq:=if am w=[] then w else cC w
def ic(w:aq)(to:Int):Int:=if 1125899906842624<to then 1 else if to<aT w then 6 else 0
def mg(w:aq)(to:Int):aq:=if ic w to=0 then jv w to else vo
def P1:Ct:=⟨[.agg iC],[.agg iI,.val cI],fun d=>[m4 d.1],fun d=>((tF d.1,d7 d.1,()),())⟩
def Yz:ar P1.ps->ay:=(fun d=>{loops:=(fun n=>match n with|6=>some (fun S=>{ι:=Int×(List bt),qn:=⟨fun k_=>∀(j:Int)(st:(List bt)),k_ (j,st),fun k_ h_ i=>h_ i.1 i.2,fun k_=>∃ (j:Int) (st:(List bt)),k_ (j,st),fun k_ ⟨j,st,h_⟩=>⟨_,h_⟩⟩,μ:=fun i=>(d.1.1.length-i.1).toNat,inv:=fun i=>0<=i.1/\i.1<=d.1.1.length/\i.2=(d.1.1.take i.1.toNat).map lm,keep:=[1,2,5,22,23],slots:=fun i=>[(24,.int .i64 i.1)],keepN:=[32,48,320],names:=fun i=>[(96,.live (.cells 37 (cy iC d.1++[.int .i64 0,.int .i64 0,.int .i64 0,.own 524288 6,.own 320 1,.nilsl,.nilsl,.nilsl]))),(524288,.live (.row 134 lQ i.2))]})|_=>none)})
def qr :=
 ((([]:List ac),([]:List aF),([]:List aN)),(0:Int),(0:Int),(0:Int),([]:List (List aD×Int×List Int×(Int×Int)×Int)),([]:List Int),([]:List (Int×Int×Int×Int×Int×List Int)),([]:List (Int×Int×List Int)),([]:List (Int×Int×Int×Int×Int)))
def Fu(a:List ac)(d:Int) :=
 (aV (a.getD d.toNat default),(0:Int),List.replicate (List.length (aC (a.getD d.toNat default))) (0:Int),(w ((a.getD d.toNat default).2.2.2.2.2.2.2.2.2.2.1.1*(a.getD d.toNat default).2.2.2.2.2.2.2.2.2.2.1.2),(0:Int)),(0:Int))
theorem W9 :
 ∀(a:List ac)(b:List aF)(c:List aN),((a.length<=maxLen/\ ∀(d:ac),d∈a->CT.wf bH d)/\(b.length<=maxLen/\ ∀(d:aF),d∈b->CT.wf fy d)/\c.length<=maxLen/\ ∀(d:aN),d∈c->CT.wf dZ d)/\True->((a.length:Int)<=1000000/\(b.length:Int)<=1000000/\(c.length:Int)<=1000000/\(∀(d:ac),d∈a->((List.length (aC d)):Int)<=1000000/\okL (aV d))/\ ∀(d:aN),d∈c->((List.length (dh d).2.1):Int)<=1099511627776)->(∀(d:aN),d∈c->((List.length (dh d).2.1):Int)<=1099511627776)/\ad (! decide (d7 (a,b,c)=0)) ((qr)=tF (a,b,c)/\d7 (a,b,c)=d7 (a,b,c)) (m4 (a,b,c)/\0<=(b.length:Int)/\(b.length:Int)<=(b.length:Int)/\(↑(8:Nat):Int)*(b.length:Int)<=281474976710656/\(∃(d:Int) (e:List bt),(0<=d/\d<=(a.length:Int)/\e=List.map lm (List.take d.toNat
 a))/\a=a/\(a.length:Int)=(a.length:Int)/\(0:Int)=d/\a=a/\b=b/\c=c/\(0:Int)=0/\(0:Int)=0/\(0:Int)=0/\List.replicate (Int.toNat (b.length:Int)) (0:Int)=List.replicate (Int.toNat (b.length:Int)) (0:Int)/\a=a/\b=b/\c=c/\(0:Int)=0/\(0:Int)=0/\(0:Int)=0/\e=([]:List (List aD×Int×List Int×(Int×Int)×Int))/\True)/\ ∀(d:Int)(e:List bt),0<=d/\d<=(a.length:Int)/\e=List.map lm (List.take d.toNat a)->ad (decide (d<(a.length:Int))) (0<=d/\d<(a.length:Int)/\okL (aV (a.getD d.toNat default))/\((List.length (aC (a.getD d.toNat default))):Int)<=1000000/\(e.length+List.length [(Fu a d)])*(80:Nat)<=(140737488355328:Nat)/\ ∃(f:Int) (g:List bt),(0<=f/\f<=(a.length:Int)/\g=List.map lm (List.take f.toNat a))/\Int.toNat ((a.length:Int) -f)<Int.toNat ((a.length:Int) -d)/\a=a/\(a.length:Int)=(a.length:Int)/\IntKind.wrap .i64
 (d+(1:Int))=f/\a=a/\b=b/\c=c/\(0:Int)=0/\(0:Int)=0/\(0:Int)=0/\List.replicate (Int.toNat (b.length:Int)) (0:Int)=List.replicate (Int.toNat (b.length:Int)) (0:Int)/\a=a/\b=b/\c=c/\(0:Int)=0/\(0:Int)=0/\(0:Int)=0/\e++[(Fu a d)]=g/\True) (((a,b,c),(0:Int),(0:Int),(0:Int),e,List.replicate (Int.toNat (b.length:Int)) (0:Int),([]:List (Int×Int×Int×Int×Int×List Int)),([]:List (Int×Int×List Int)),([]:List (Int×Int×Int×Int×Int)))=tF (a,b,c)/\(0:Int)=d7 (a,b,c))):=by
  delta qr Fu
  rintro ns ls hs ⟨⟨⟨hl0,-⟩,⟨hl1,-⟩,-⟩,-⟩⟨h1,h2,h3,h4,h5⟩
  have h1:(ns.length:Int)<=1000000:=h1
  have h2:(ls.length:Int)<=1000000:=h2
  refine⟨h5,ae (fun h=>?_) (fun h=>?_)⟩
  ·have h:=fY h
   exact⟨by unfold tF;rw[if_neg h];rfl,by trivial⟩
  have h:=gz h
  refine⟨⟨h1,h2,h3,h4,h5⟩,by omega,by omega,by omega,⟨0,[],⟨by omega,by omega,rfl⟩,(by repeat' first|exact trivial|refine⟨trivial,?_⟩|refine⟨(by with_reducible rfl),?_⟩|refine⟨af (by omega) (by omega),?_⟩|refine⟨rfl,?_⟩)⟩,?_⟩
  rintro j st ⟨j0,j1,rfl⟩
  refine ae (fun hj=>?_) (fun hj=>?_)
  ·have hj:=of_decide_eq_true hj
   have hx:=h4 _ (bL j0 hj)
   refine⟨j0,hj,hx.2,hx.1,by simp only[List.length_map,List.length_take,List.length_singleton];omega,j+1,_,⟨by omega,by omega,rfl⟩,by omega,?_⟩
   (repeat first|refine⟨trivial,?_⟩|refine⟨(by with_reducible rfl),?_⟩|refine⟨af (by omega) (by omega),?_⟩)
   refine⟨?_,trivial⟩
   rw[mb j0 hj,List.map_append]
   rfl
  ·have hj:=of_decide_eq_false hj
   refine⟨?_,h.symm⟩
   unfold tF jo
   rw[if_pos h,List.take_of_length_le (by omega)]
   rfl
theorem Lc:av Tryz.prog GL 17 P1.spec:=Ct.okH _ Tryz.func17 (by kernel_rfl) (ah (ah (ah aA Q4) O7) S8) au Yz (aB (by kernel_rfl) W9)
def Kf:Ct:=⟨[.agg iI],[.val cI,.val .bool],fun _=>[],fun d=>((lq d.1,jC d.1,()),())⟩
def ar8:ar Kf.ps->ay:=(fun _=>{})
theorem Ti :
 ∀(a:(List ac×List aF×List aN)×Int×Int×Int×List (List aD×Int×List Int×(Int×Int)×Int)×List Int×List (Int×Int×Int×Int×Int×List Int)×List (Int×Int×List Int)×List (Int×Int×Int×Int×Int)),CT.wf iI a/\True->True->ad (decide ((a.2.2.2.2.2.2.1.length:Int)=0)) ((0:Int)=lq a/\false=jC a) ((0:Int)<=0/\0<(a.2.2.2.2.2.2.1.length:Int)/\(List.getD a.2.2.2.2.2.2.1 (Int.toNat (0:Int)) default).1=lq a/\true=jC a):=by
  intro d _ _
  have eF:d.2.2.2.2.2.2.1=am d:=rfl
  rw[eF]
  unfold lq jC
  cases e:am d with
  | nil=>exact⟨rfl,rfl⟩
  | cons f r=>exact⟨by omega,by simp only[List.length_cons];omega,rfl,rfl⟩
theorem Md:av Tryz.prog GL 26 Kf.spec:=Ct.okH _ Tryz.func26 (by kernel_rfl) aA au ar8 (aB (by kernel_rfl) Ti)
def ON:Ct:=⟨[.agg iI,.val cI,.val cI,.val (.sl bm)],[.agg iI,.val cI,.val cI],fun d=>[fZ d.1,(d.2.2.2.1.length:Int)<=1000000],fun d=>((kT d.1 d.2.1 d.2.2.1 d.2.2.2.1,nt d.1 d.2.1 d.2.2.1,gO d.1 d.2.1 d.2.2.1,()),())⟩
def an9:ar ON.ps->ay:=(fun _=>{})
theorem ab1 :
 ∀(a:(List ac×List aF×List aN)×Int×Int×Int×List (List aD×Int×List Int×(Int×Int)×Int)×List Int×List (Int×Int×Int×Int×Int×List Int)×List (Int×Int×List Int)×List (Int×Int×Int×Int×Int))(b c:Int)(d:List Int),CT.wf iI a/\ab b/\ab c/\(d.length<=maxLen/\ ∀(e:Int),e∈d->0<=e/\e<=255)/\True->fZ a/\(d.length:Int)<=1000000-> ∀(e:Bool),e=decide (c<0)->((! e)->((! e)->(! e))/\True)/\((! e)->((! e)->(! e))/\True)/\((! e)->((! e)->(! e))/\True)/\((! e)->((! e)->(! e))/\((! e)->(! e))/\True)/\(e=false->(! e))/\ad (bif e then true else decide ((a.1.1.length:Int)<=c)) ((qr)=kT a b c d/\(0:Int)=nt a b c/\(8:Int)=gO a b c) (ad (decide (1125899906842624<b)) ((qr)=kT a b c d/\(0:Int)=nt a b c/\(1:Int)=gO a b c) (ad (decide (b<a.2.1)) ((qr)=kT a b c d/\(0:Int)=nt a b c/\(6:Int)=gO a b c) (ad (decide (4096<=(a.2.2.2.2.2.2.1.length:Int))) ((qr)=kT a b c
 d/\(0:Int)=nt a b c/\(5:Int)=gO a b c) (uf a/\(d.length:Int)<=1099511627776/\List.Pairwise eZ (am a)/\(∀(f:aK),f∈am a->ig f<aX a)/\List.length (am a)<=(4096:Nat)/\(a.1,a.2.1,IntKind.wrap .i64 (aX a+(1:Int)),a.2.2.2.1,a.2.2.2.2.1,a.2.2.2.2.2.1,c9 (am a) (ax (b,(0:Int),c,(-1:Int),a.2.2.1,d),aX a,c,(-1:Int),a.2.2.1,d),a.2.2.2.2.2.2.2)=kT a b c d/\a.2.2.1=nt a b c/\(0:Int)=gO a b c)))):=by
  delta qr
  rintro d t who b-⟨hE,hb⟩
  (repeat (intro (b_:Bool) (hb_:b_=_);(repeat refine⟨(by first|(simp;done)|(rw[hb_];simp;done)|(rw[hb_];simp;omega)|(rw[hb_];simp;intros;omega)|(rw[hb_];simp +contextual;done)),?_⟩);subst hb_))
  refine p8 (fun ho=>?_) (fun q1 q2=>?_)
  ·have e:gO d t who=8:=by unfold gO;rw[if_pos (by rcases ho with q|q;exact .inl (of_decide_eq_true q);exact .inr (of_decide_eq_true q))]
   unfold kT nt
   rw[e]
   exact⟨rfl,rfl,rfl⟩
  have q1:=of_decide_eq_false q1
  have q2:=of_decide_eq_false q2
  have h:oG d:=hE.resolve_right fun q=>by
   have q3:d.1.1=[]:=by rw[q.1];rfl
   rw[q3] at q2;simp at q2;omega
  have hfn:=h.s.fn
  have e1:gO d t who=if 1125899906842624<t then 1 else if t<aT d then 6 else if (4096:Int)<=(am d).length then 5 else 0:=by
   unfold gO;rw[if_neg (by rintro (q|q);exact q1 q;exact q2 q)]
  refine ae (fun k=>?_) (fun k=>?_)
  ·have e:gO d t who=1:=by rw[e1,if_pos (of_decide_eq_true k)]
   unfold kT nt
   rw[e]
   exact⟨rfl,rfl,rfl⟩
  rw[if_neg (of_decide_eq_false k)] at e1
  refine ae (fun k=>?_) (fun k=>?_)
  ·have k:t<aT d:=of_decide_eq_true k
   have e:gO d t who=6:=by rw[e1,if_pos k]
   unfold kT nt
   rw[e]
   exact⟨rfl,rfl,rfl⟩
  have k:¬ t<aT d:=of_decide_eq_false k
  rw[if_neg k] at e1
  refine ae (fun k=>?_) (fun k=>?_)
  ·have k:(4096:Int)<=(am d).length:=of_decide_eq_true k
   have e:gO d t who=5:=by rw[e1,if_pos k]
   unfold kT nt
   rw[e]
   exact⟨rfl,rfl,rfl⟩
  have k:¬ (4096:Int)<=(am d).length:=of_decide_eq_false k
  rw[if_neg k] at e1
  unfold kT nt
  rw[e1]
  exact⟨h.cp,by omega,h.s.fl,fun x hx=>(h.s.fo x hx).o.2,hfn,rfl,rfl,rfl⟩
theorem KB:av Tryz.prog GL 13 ON.spec:=Ct.okH _ Tryz.func13 (by kernel_rfl) (ah (ah (ah aA EG) pU) Jj) au an9 (aB (by kernel_rfl) ab1)
def Ki:Ct:=⟨[.agg iI],[.agg iI,.val .bool],fun d=>[fZ d.1],fun d=>((r0 d.1,jC d.1,()),())⟩
def ZP:ar Ki.ps->ay:=(fun _=>{})
theorem aq5 :
 ∀(a:(List ac×List aF×List aN)×Int×Int×Int×List (List aD×Int×List Int×(Int×Int)×Int)×List Int×List (Int×Int×Int×Int×Int×List Int)×List (Int×Int×List Int)×List (Int×Int×Int×Int×Int)),CT.wf iI a/\True->oG a∨mi a->uf a/\ad (decide ((a.2.2.2.2.2.2.1.length:Int)=0)) (a=r0 a/\false=jC a) (oG a/\am a≠([]:List aK)/\cC a=r0 a/\true=jC a):=by
  intro d _ h
  have h:fZ d:=h
  refine⟨h.cp,?_⟩
  have eF:d.2.2.2.2.2.2.1=am d:=rfl
  rw[eF]
  unfold r0 jC
  refine ae (fun k=>?_) (fun k=>?_)
  ·have k:=of_decide_eq_true k
   have k:am d=[]:=List.eq_nil_of_length_eq_zero (by omega)
   rw[if_pos k,k]
   exact⟨rfl,by simp⟩
  ·have k:=of_decide_eq_false k
   have k:am d≠[]:=fun e=>k (by rw[e];rfl)
   rw[if_neg k]
   exact⟨h.fl k,k,rfl,by simp[k]⟩
theorem al5:av Tryz.prog GL 21 Ki.spec:=Ct.okH _ Tryz.func21 (by kernel_rfl) (ah (ah aA EG) LX) au ZP (aB (by kernel_rfl) aq5)
def H2:Ct:=⟨[.agg iI,.val cI],[.agg iI,.val cI],fun d=>[fZ d.1],fun d=>((mg d.1 d.2.1,ic d.1 d.2.1,()),())⟩
def ZY:ar H2.ps->ay:=(fun d=>{loops:=(fun n=>match n with|7=>some (fun S=>{ι:=aq×Int×Bool,qn:=⟨fun k_=>∀(v:aq)(t:Int)(ok:Bool),k_ (v,t,ok),fun k_ h_ i=>h_ i.1 i.2.1 i.2.2,fun k_=>∃ (v:aq) (t:Int) (ok:Bool),k_ (v,t,ok),fun k_ ⟨v,t,ok,h_⟩=>⟨_,h_⟩⟩,μ:=fun i=>gh i.1,inv:=fun i=>fZ i.1/\cP i.1 d.2.1=cP d.1 d.2.1/\i.2.1=lq i.1/\i.2.2=jC i.1,keep:=[1,2,4],slots:=fun i=>[(6,.int .i64 i.2.1),(7,.bool i.2.2)],keepN:=[80],names:=fun i=>[(48,.live (.cells 37 (cy iC (ao i.1)++[.int .i64 (aT i.1),.int .i64 (aX i.1),.int .i64 (bz i.1),.own 524288 6,.own 524289 1,.own 524290 6,.own 524291 3,.own 524292 5]))),(524288,.live (.row 134 lQ (aM i.1))),(524289,.live (.row 3 cI (bJ i.1))),(524290,.live (.row 116 kw (am i.1))),(524291,.live (.row 92 tm (aO i.1))),(524292,.live (.row 61 rm (aQ i.1)))]})|_=>none)})
def lY(c:aq) :=
 cC (ao c,c.2)
theorem WL :
 ∀(a:(List ac×List aF×List aN)×Int×Int×Int×List (List aD×Int×List Int×(Int×Int)×Int)×List Int×List (Int×Int×Int×Int×Int×List Int)×List (Int×Int×List Int)×List (Int×Int×Int×Int×Int))(b:Int),CT.wf iI a/\ab b/\True->oG a∨mi a->ad (decide (1125899906842624<b)) ((qr)=mg a b/\(1:Int)=ic a b) (ad (decide (b<a.2.1)) ((qr)=mg a b/\(6:Int)=ic a b) (uf a/\(∃(c:aq) (d:Int),∃(e:Bool),(fZ c/\cP c b=cP a b/\d=lq c/\e=jC c)/\b=b/\lq a=d/\jC a=e/\(0:Int)=0/\(0:Int)=0/\(0:Int)=0/\a.1.1=(ao c).1/\a.1.2.1=(ao c).2.1/\a.1.2.2=(ao c).2.2/\a.2.1=aT c/\a.2.2.1=aX c/\a.2.2.2.1=bz c/\a.2.2.2.2.1=aM c/\a.2.2.2.2.2.1=bJ c/\a.2.2.2.2.2.2.1=am c/\a.2.2.2.2.2.2.2.1=aO c/\a.2.2.2.2.2.2.2.2=aQ c/\True)/\ ∀(c:aq)(d:Int)(e:Bool),fZ c/\cP c b=cP a b/\d=lq c/\e=jC c-> ∀(f:Bool),f=e->(f->(f->f)/\(f->f)/\True)/\(f->f)/\ad (bif f then decide
 (d<=b) else false) (oG (ao c,c.2)/\am (ao c,c.2)≠([]:List aK)/\ ∃(g:aq) (h:Int),∃(i:Bool),(fZ g/\cP g b=cP a b/\h=lq g/\i=jC g)/\gh g<gh c/\b=b/\lq (lY c)=h/\jC (lY c)=i/\(0:Int)=0/\(0:Int)=0/\(0:Int)=0/\(lY c).1.1=(ao g).1/\(lY c).1.2.1=(ao g).2.1/\(lY c).1.2.2=(ao g).2.2/\(lY c).2.1=aT g/\(lY c).2.2.1=aX g/\(lY c).2.2.2.1=bz g/\(lY c).2.2.2.2.1=aM g/\(lY c).2.2.2.2.2.1=bJ g/\(lY c).2.2.2.2.2.2.1=am g/\(lY c).2.2.2.2.2.2.2.1=aO g/\(lY c).2.2.2.2.2.2.2.2=aQ g/\True) (rg (ao c,b,c.2.2)/\bo (ao c,b,c.2.2)=mg a b/\(0:Int)=ic a b))):=by
  delta qr lY
  rintro d to-h
  have h:fZ d:=h
  refine ae (fun k=>?_) (fun k=>?_)
  ·have k:=of_decide_eq_true k
   have e:ic d to=1:=by unfold ic;rw[if_pos k]
   unfold mg
   rw[e]
   exact⟨rfl,rfl⟩
  have k:=of_decide_eq_false k
  refine ae (fun q=>?_) (fun q=>?_)
  ·have q:to<aT d:=of_decide_eq_true q
   have e:ic d to=6:=by unfold ic;rw[if_neg k,if_pos q]
   unfold mg
   rw[e]
   exact⟨rfl,rfl⟩
  have q:¬ to<aT d:=of_decide_eq_false q
  have e:ic d to=0:=by unfold ic;rw[if_neg k,if_neg q]
  have hnow:0<=aT d:=by rcases h with q|q;exact q.s.now.1;exact q.2.1
  have hnq:aT d<=to:=by omega
  refine⟨h.cp,⟨d,_,_,⟨h,rfl,rfl,rfl⟩,(by repeat' first|exact trivial|refine⟨trivial,?_⟩|refine⟨(by with_reducible rfl),?_⟩|refine⟨af (by omega) (by omega),?_⟩|refine⟨rfl,?_⟩)⟩,?_⟩
  rintro v t ok ⟨hv,he,rfl,rfl⟩
  have hv:fZ v:=hv
  (repeat (intro (b_:Bool) (hb_:b_=_);(repeat refine⟨(by first|(simp;done)|(rw[hb_];simp;done)|(rw[hb_];simp;omega)|(rw[hb_];simp;intros;omega)|(rw[hb_];simp +contextual;done)),?_⟩);subst hb_))
  have eB:(bif jC v then decide (lq v<=to) else false)=cK v to:=by
   unfold jC lq cK
   cases am v with
   | nil=>rfl
   | cons f r=>rfl
  rw[eB]
  refine ae (fun hb=>?_) (fun hb=>?_)
  ·cases ef:am v with
   | nil=>unfold cK at hb;rw[ef] at hb;cases hb
   | cons f r =>
    have hv:=hv.fl (by rw[ef];simp)
    obtain⟨s1,s2⟩:=hv.step ef
    exact⟨hv,by show am v≠[];rw[ef];simp,cC v,_,_,⟨.inl s1,(GQ hv.s.weak hb).symm.trans he,rfl,rfl⟩,s2,(by repeat' first|exact trivial|refine⟨trivial,?_⟩|refine⟨(by with_reducible rfl),?_⟩|refine⟨af (by omega) (by omega),?_⟩|refine⟨rfl,?_⟩)⟩
  ·have hR:cP d to=v:=by rw[← he];exact GY hb
   refine⟨by rcases hv with q|q;exact .inl (q.s.wait hb ⟨by omega,by omega⟩).weak;exact q.ch to,?_,e.symm⟩
   unfold mg
   rw[if_pos e]
   show bo (aZ v to)=bo (aZ (cP d to) to)
   rw[hR]
theorem Mz:av Tryz.prog GL 12 H2.spec:=Ct.okH _ Tryz.func12 (by kernel_rfl) (ah (ah (ah (ah aA EG) Md) LX) LL) au ZY (aB (by kernel_rfl) WL)
end Go.RS

/- Ref14: the reference's networks. -/
namespace Go.RS
open Go.SX Go.Proofs
set_option maxRecDepth 100000
set_option linter.unusedVariables false
end Go.RS

/- Ref14c: the reference's check of networks. -/
namespace Go.RS
open Go.SX Go.Proofs
set_option maxRecDepth 100000
set_option linter.unusedVariables false
end Go.RS
