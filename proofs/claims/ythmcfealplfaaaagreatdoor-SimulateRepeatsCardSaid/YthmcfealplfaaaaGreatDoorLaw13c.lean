/- SX, part 29: slices.Insert of one element into a slice that owns its row: its contract, off what its code does with values. -/
import Derived.Test.YthmcfealplfaaaaGreatDoorSx28
import Derived.Test.YthmcfealplfaaaaGreatDoorSx25
import Derived.Lib.AppendZerosOnto
import Derived.Lib.Overlaps
import Derived.Laws.Externs
import Derived.Lib.Walk
import Derived.Lib.SliceRun
import Derived.Shelf.RegionOpenPlain
import Derived.Test.YthmcfealplfaaaaGreatDoorDrawsome
namespace Go.SX
set_option linter.unusedVariables false
def je(cur:Array Value)(o:Nat)(cs:List Value):Array Value:=(cur.toList.take o++cs++cur.toList.drop (o+cs.length)).toArray
theorem vT{cur:Array Value}{o:Nat}{cs:List Value}(h:o+cs.length<=cur.size):(je cur o cs).size=cur.size:=by
 simp only[je,List.size_toArray,List.length_append,List.length_take,List.length_drop,Array.length_toList];omega
theorem pM{cur:Array Value}{o:Nat}{cs:List Value}(h:o+cs.length<=cur.size)(j:Nat) :
  (je cur o cs)[j]? = if j<o then cur[j]? else if j<o+cs.length then cs[j-o]? else cur[j]? := by
 unfold je
 rw[List.getElem?_toArray]
 have hl:(cur.toList.take o).length=o:=by rw[List.length_take,Array.length_toList];omega
 by_cases h1:j<o
 ·rw[if_pos h1,List.append_assoc,List.getElem?_append_left (by omega),List.getElem?_take,if_pos h1,Array.getElem?_toList]
 ·rw[if_neg h1]
  by_cases h2:j<o+cs.length
  ·rw[if_pos h2,List.append_assoc,List.getElem?_append_right (by omega),List.getElem?_append_left (by omega),hl]
  ·rw[if_neg h2,List.getElem?_append_right (by rw[List.length_append,hl];omega),List.length_append,hl,List.getElem?_drop,Array.getElem?_toList]
   congr 1;omega
def dw(cur:Array Value)(o n:Nat):List Value:=(cur.toList.drop o).take n
theorem vK{cur:Array Value}{o n:Nat}(h:o+n<=cur.size):(dw cur o n).length=n:=by
 unfold dw;rw[List.length_take,List.length_drop,Array.length_toList];omega
theorem tK{cur:Array Value}{o n j:Nat}(h:j<n):(dw cur o n)[j]? = cur[o+j]? := by
 unfold dw;rw[List.getElem?_take,if_pos h,List.getElem?_drop,Array.getElem?_toList]
def qX(cur:Array Value)(off n i z:Nat)(vs:List Value):Array Value:=je (je cur (off+(i+1)*z) (dw cur (off+i*z) ((n-i)*z))) (off+i*z) vs
def pO(cur:Array Value)(off n i z G:Nat)(zr:Array Value):Array Value:=(dw cur off (i*z)).toArray++Builtin.zeroCells zr (n+1-i)++Builtin.zeroCells zr (G-(n+1))
def qw(cur:Array Value)(off n i z G:Nat)(zr:Array Value)(vs:List Value):Array Value:=je (je (pO cur off n i z G zr) (i*z) vs) ((i+1)*z) (dw cur (off+i*z) ((n-i)*z))
structure MA (P:Program) (F:FuncId) (tS E:TypeId) (z bs:Nat) (zr:Array Value) (ty:TypeId):Prop where
 last:∀(w w':World)(p q:Option Addr)(n c vc:Nat)(v:Value),n<=c->c<=maxLen->(Builtin.append_ #[tS,tS] ty #[.slice p n c,.slice q 1 vc]).run P w = .ok v w' →
  Calls P F #[.slice p n c,.int .i64 n,.slice q 1 vc] w fun e w2=>e = .returned v/\w2=w'
 shift:∀(w:World)(b off n c i vb voff vc:Nat)(cur vcur:Array Value)(E':TypeId)(vs:List Value),i<n->n+1<=c->c<=maxLen->vb≠b->w.heap[b]? = some (.cells cur E (0,0))->off+c*z<=cur.size →
  w.heap[vb]? = some (.cells vcur E' (0,0))->vs.length=z->(∀ j v,vs[j]? = some v->w.cell? ⟨vb,voff+j,none⟩=some v)->(∀ v∈vs,v.oneCell'=true)->(∀ v∈dw cur (off+i*z) ((n-i)*z),v.oneCell'=true) →
  Calls P F #[.slice (some ⟨b,off,none⟩) n c,.int .i64 i,.slice (some ⟨vb,voff,none⟩) 1 vc] w fun e w'=>e = .returned (.slice (some ⟨b,off,none⟩) (n+1) c)/\w'=w.drew.setRow b (qX cur off n i z vs)
 grow:∀(w:World)(b off n i vb voff vc:Nat)(cur vcur:Array Value)(E':TypeId)(vs:List Value),i<n->n+1<=maxLen->(n+1)*bs<=140737488355328->w.heap[b]? = some (.cells cur E (0,0))->off+n*z<=cur.size →
  w.heap[vb]? = some (.cells vcur E' (0,0))->vs.length=z->(∀ j v,vs[j]? = some v->w.cell? ⟨vb,voff+j,none⟩=some v)->(∀ v∈vs,v.oneCell'=true)->(∀ v∈dw cur off (n*z),v.oneCell'=true) →
  Calls P F #[.slice (some ⟨b,off,none⟩) n n,.int .i64 i,.slice (some ⟨vb,voff,none⟩) 1 vc] w fun e w'=>e = .returned (.slice (some ⟨w.heap.size,0,none⟩) (n+1) (grownCap w (n+1) n E)) ∧
   ∃ w1:World,bK w.drew w1 (fun _=>False)/\w1.heap.size=w.heap.size+1/\w1.heap[w.heap.size]? = some (.cells (pO cur off n i z (grownCap w (n+1) n E) zr) E (0,0))/\w'=w1.setRow w.heap.size (qw cur off n i z (grownCap w (n+1) n E) zr vs)
def A4(u:CT)(E:TypeId)(bs:Nat):Spec:=fun base svs=>match svs with
 | [.own n sz,.int .i64 i,.own q sq]=>match Nat.beq q n with
  | true => .fail
  | false => .ask n fun
   | .live (.row E' u' xs)=>match Nat.beq E' E,Nat.beq sz u.size,fi u' u xs with
    | true,true,some ys=>(rq u (.own q sq)).bind fun vs=>.ask base fun
     | .un => .ret (.det [vs.length=1,0<=i,i<=ys.length,(ys.length+1)*bs<=140737488355328] (.own base u.size) [(base,.live (.row E u (ys.take i.toNat++(vs++ys.drop i.toNat)))),(n,.dead)])
     | _ => .fail
    | _,_,_ => .fail
   | _ => .fail
 | _ => .fail
section
variable {P:Program} {w0:World} {N0:dG} {A:Nat->Prop} {env:aL} {h:aX} {w:World}
theorem ar7(m:aT w0 N0 A env h w){t:CT}{n sz:Nat}{v:Value}{ys:List t.D}{r:List Nat}(e:(rq t (.own n sz)).run h=some (ys,r))(hd:af A env w (.own n sz) v)(h1:ys.length=1) :
  ∃ k l c vcur E',env n = .blk k l/\v = .slice (some ⟨k,l.1,none⟩) 1 c/\w.heap[k]? = some (.cells vcur E' (0,0))/\(∀ n' k' l' b,n'≠n->h n' = .live b->b.mut=true->env n' = .blk k' l'→k≠k') ∧
   Rd A w t (fun o=>w.cell? ⟨k,o,none⟩) l.1 (iG t ys 0):=by
 simp only[rq,Q.run] at e
 simp only[af] at hd
 have fin:∀{b:iV}{E':TypeId}{zs:List t.D},h n = .live b->(b = .row E' t zs∨b = .frz E' t zs)->zs.length=1 →
   ∃ k l c vcur E',env n = .blk k l/\v = .slice (some ⟨k,l.1,none⟩) 1 c/\w.heap[k]? = some (.cells vcur E' (0,0))/\(∀ n' k' l' b,n'≠n->h n' = .live b->b.mut=true->env n' = .blk k' l'→k≠k') ∧
    Rd A w t (fun o=>w.cell? ⟨k,o,none⟩) l.1 (iG t zs 0):=by
  intro b E' zs hl hb hz
  rcases hd with⟨hnil,_⟩|⟨k,l,E2,c,hk,hsh,rfl⟩
  ·have:=m.nm n
   rw[hl] at this
   rcases this with⟨k',l',he',_⟩|⟨_,E3,t3,hb3⟩
   ·rw[hnil] at he';cases he'
   ·rcases hb with rfl|rfl <;> rcases hb3 with hb3|hb3 <;> cases hb3 <;> cases hz
  ·have hbd:=m.live_blk hl hk
   have hrow:kY A w k l E' t zs:=by
    rcases hb with rfl|rfl
    ·exact hbd.1
    ·exact hbd.1.2
   have hlen:l.2=1:=by obtain⟨_,_,_,_,h3,_⟩:=hrow;omega
   have hrd:=vh hrow (i:=0) (by omega)
   obtain⟨vcur,cap,hh,_⟩:=hrow
   refine⟨k,l,(c-l.1)/sz,vcur,E',hk,by rw[hlen],hh,?_,by simpa using hrd⟩
   intro n' k' l' b' hne hl' hm' he' hkk
   subst hkk
   rcases hb with rfl|rfl
   ·exact hne (m.inj n' n b' _ k l' l hl' hl hm' rfl he' hk)
   ·exact (m.live_blk hl' he').2 hm' hbd.1.1
 split at e
 ·rename_i p q hk
  simp only[Option.some.injEq,Prod.mk.injEq] at e
  obtain⟨rfl,rfl⟩:=e
  split at hk
  ·rename_i E' u zs hl
   split at hk
   ·rename_i zs' _ hc
    simp only[Q.run,Option.some.injEq,Prod.mk.injEq] at hk
    obtain⟨rfl,_⟩:=hk
    obtain⟨et,ey⟩:=gR hc
    subst et
    simp only at ey
    subst ey
    exact fin hl (.inl rfl) h1
   ·cases hk
  ·rename_i E' u zs hl
   split at hk
   ·rename_i zs' _ hc
    simp only[Q.run,Option.some.injEq,Prod.mk.injEq] at hk
    obtain⟨rfl,_⟩:=hk
    obtain⟨et,ey⟩:=gR hc
    subst et
    simp only at ey
    subst ey
    exact fin hl (.inr rfl) h1
   ·cases hk
  ·cases hk
 ·cases e
theorem O3{u:CT}{xs:List u.D}{y:u.D}{i o:Nat}{row:Nat->Option Value}{cur:Nat->Option Value}{off:Nat}(hi:i<=xs.length)
  (hx:∀ k (hk:k<xs.length),Rd A w u cur (off+k*u.size) xs[k]) {news:Nat->Option Value} (hy:Rd A w u news 0 y)
  (h1:∀ j,j<i*u.size->row (o+j)=cur (off+j)) (h2:∀ j,j<u.size->row (o+i*u.size+j)=news j) (h3:∀ j,j<(xs.length-i)*u.size->row (o+(i+1)*u.size+j)=cur (off+i*u.size+j)) :
  ∀ k (hk:k<(xs.take i++([y]++xs.drop i)).length),Rd A w u row (o+k*u.size) (xs.take i++([y]++xs.drop i))[k]:=by
 intro k hk
 have hl:(xs.take i).length=i:=by rw[List.length_take];omega
 by_cases hki:k<i
 ·rw[List.getElem_append_left (by omega)]
  simp only[List.getElem_take]
  have hm:(k+1)*u.size<=i*u.size:=Nat.mul_le_mul_right _ hki
  rw[Nat.add_mul,Nat.one_mul] at hm
  refine qi (hx k (by omega)) fun j hj=>?_
  rw[Nat.add_assoc,h1 _ (by omega),Nat.add_assoc]
 ·rw[List.getElem_append_right (by omega)]
  simp only[hl]
  by_cases hke:k=i
  ·subst hke
   simp only[Nat.sub_self,List.cons_append,List.nil_append,List.getElem_cons_zero]
   refine qi hy fun j hj=>?_
   rw[h2 j hj,Nat.zero_add]
  ·obtain⟨q,rfl⟩:∃ q,k=i+1+q:=⟨k-i-1,by omega⟩
   have hq:i+q<xs.length:=by simp at hk;omega
   have hg:([y]++xs.drop i)[i+1+q-i]'(by simp;omega)=xs[i+q]:=by
    simp only[show i+1+q-i=q+1 from by omega,List.cons_append,List.nil_append,List.getElem_cons_succ,List.getElem_drop]
   rw[hg]
   have hm:(q+1)*u.size<=(xs.length-i)*u.size:=Nat.mul_le_mul_right _ (by omega)
   rw[Nat.add_mul,Nat.one_mul] at hm
   refine qi (hx (i+q) hq) fun j hj=>?_
   rw[show o+(i+1+q)*u.size+j=o+(i+1)*u.size+(q*u.size+j) from by rw[Nat.add_mul (i+1)];omega,h3 _ (by omega)]
   congr 1
   rw[Nat.add_mul i q];omega
theorem al9(m:aT w0 N0 A env h w){tS E ty:TypeId}{zv:Value}{z bs base n sz q sq:Nat}{u:CT}{xs ys:List u.D}{r:List Nat}{sv xv:Value}(hu:P.underlying tS=some (.slice E))(hi:(P.info? E).map (fun i=>(i.zero,i.size,i.bytes))=some (some zv,z,bs))(hzr:zv.cells.size=z)(hbs:1<=bs)(hz:z=u.size)
  (hl:h n = .live (.row E u xs)) (hsz:sz=u.size) (hs:(rq u (.own q sq)).run h=some (ys,r)) (hun:h base = .un) (hby:(xs.length+ys.length)*bs<=140737488355328)
  (ds:af A env w (.own n sz) sv) (dx:af A env w (.own q sq) xv) :
  ∃ v w',(Builtin.append_ #[tS,tS] ty #[sv,xv]).run P w = .ok v w'∧cN w0 N0 A env h w (.det [] (.own base u.size) [(base,.live (.row E u (xs++ys))),(n,.dead)]) v w':=by
 obtain⟨i0,hi0⟩:∃ i0,P.info? E=some i0:=by
  cases hh:P.info? E with
  | none=>rw[hh] at hi;cases hi
  | some i0=>exact⟨i0,rfl⟩
 rw[hi0] at hi
 simp only[Option.map_some,Option.some.injEq,Prod.mk.injEq] at hi
 obtain⟨hz0,hzs,hzb⟩:=hi
 subst hz hzb hsz
 have run:(xh P tS base (.own n u.size) (.own q sq)).run h=some (.det [(xs.length+ys.length)*i0.bytes<=140737488355328] (.own base u.size) [(base,.live (.row E u (xs++ys))),(n,.dead)],n::(r++[base])):=by
  have he:oE P tS=some (E,u.size):=by unfold oE;rw[hu];simp[fb,hi0,hzs]
  unfold xh
  rw[he]
  simp only[hi0,Nat.ble_eq_true_of_le hbs,hz0,hzr,Nat.beq_refl]
  simp only[Q.run,hl,Nat.beq_refl]
  rw[Q.bind_run1 _ _ hs (b := .det [(xs.length+ys.length)*i0.bytes<=140737488355328] (.own base u.size) [(base,.live (.row E u (xs++ys))),(n,.dead)]) (r2:=[base]) (by simp only[Q.run,hun])]
 let o : Oper := { dst := none, op := .call { callee := .builtin .append, args := #[.tmp 0, .tmp 1], argTypes := #[tS, tS] }, type := ty, pos := "", after := #[], guard := none }
 let a:Act:={tmps := #[sv,xv],defers:=[]}
 have fd:FD A env w (fun i=>if i=0 then .own n u.size else if i=1 then .own q sq else .junk) a:=by
  intro i
  by_cases h0:i=0
  ·subst h0;exact ds
  ·by_cases h1:i=1
   ·subst h1;exact dx
   ·simp only[h0,h1,if_false,af]
 obtain⟨v,w',hr,g⟩:=Hw (P:=P) (o:=o) (a:=a) (nm:=base) (s := .tmp 0) (x := .tmp 1) (t:=tS) m fd rfl run (by simp only[Dl.pre,bc,and_true];exact hby)
 have he:(execOp a.eval o).run P w=((Builtin.append_ #[tS,tS] ty #[sv,xv]).run P w).andThen fun v w'=>.ok (.value v) w':=by
  unfold execOp
  simp only[o,resolve,invoke,builtin,Sem.run_bind,Sem.run_pure,Result.andThen_ok,List.map_toArray,List.map_cons,List.map_nil]
  rfl
 rw[he] at hr
 cases hb:(Builtin.append_ #[tS,tS] ty #[sv,xv]).run P w with
 | ok v1 w1 =>
  rw[hb] at hr
  rcases hr with hr|⟨hr,_⟩
  ·cases hr
   exact⟨v,w',rfl,g⟩
  ·cases hr
 | _=>rw[hb] at hr;rcases hr with hr|⟨hr,_⟩ <;> cases hr
theorem K5{t:CT}{ys:List t.D}(h:ys.length=1):ys=[iG t ys 0]:=by
 match ys,h with
 | [y],_=>rfl
theorem Ng{u:CT}{cv:Nat->Option Value}{o:Nat}{xs:List u.D}(hx:∀ i (hi:i<xs.length),Rd A w u cv (o+i*u.size) xs[i]){cur:Array Value}(hc:∀ j,cv j=cur[j]?){a n:Nat}(ha:a+n<=xs.length)(hs:o+(a+n)*u.size<=cur.size) :
  ∀ v∈dw cur (o+a*u.size) (n*u.size),v.oneCell'=true:=by
 obtain⟨news,hl,hcv,h1⟩:=Aw (A:=A) (w:=w) ((xs.drop a).take n) (o+a*u.size) (cv:=cv) (fun i hi=>by
  simp only[List.length_take,List.length_drop] at hi
  have:=hx (a+i) (by omega)
  simp only[List.getElem_take,List.getElem_drop]
  rw[Nat.add_assoc,← Nat.add_mul];exact this)
 have hln:((xs.drop a).take n).length=n:=by rw[List.length_take,List.length_drop];omega
 rw[hln] at hl
 intro v hv
 obtain⟨j,hj,rfl⟩:=List.mem_iff_getElem.1 hv
 have hcl:(dw cur (o+a*u.size) (n*u.size)).length=n*u.size:=vK (by rw[Nat.add_assoc,← Nat.add_mul];exact hs)
 have e1:(dw cur (o+a*u.size) (n*u.size))[j]? = news[j]? := by
  rw[tK (by omega),← hc,hcv j (by omega)]
 rw[List.getElem?_eq_getElem hj] at e1
 exact h1 _ (List.mem_iff_getElem?.2 ⟨j,e1.symm⟩)
theorem SD{G:pH}{F:FuncId}{tS E ty:TypeId}{zv:Value}{z bs:Nat}{u:CT}(raw:MA P F tS E z bs zv.cells ty)(hu:P.underlying tS=some (.slice E))(hi:(P.info? E).map (fun i=>(i.zero,i.size,i.bytes))=some (some zv,z,bs))
  (hzr:zv.cells.size=z) (hbs:1<=bs) (hz:z=u.size):ax P G F (A4 u E bs):=by
 intro base svs h d r e hp w0 N0 A env w vs hg m hd
 unfold A4 at e
 split at e
 case h_2=>cases e
 rename_i n sz i q sq
 split at e
 ·cases e
 rename_i hqn
 have hqn:q≠n:=fun e=>by rw[e,Nat.beq_refl] at hqn;cases hqn
 simp only[Q.run] at e
 split at e
 case h_2=>cases e
 rename_i p0 q0 hk
 simp only[Option.some.injEq,Prod.mk.injEq] at e
 obtain⟨rfl,rfl⟩:=e
 split at hk
 case h_2=>cases hk
 rename_i E' u xs hl
 split at hk
 case h_2=>cases hk
 rename_i ys hE hsz hc
 have hE:E'=E:=Nat.eq_of_beq_eq_true hE
 have hsz:=Nat.eq_of_beq_eq_true hsz
 obtain⟨et,ey⟩:=gR hc
 subst et hE hsz
 simp only at ey
 subst ey
 obtain⟨vs1,q1,q2,e1,e2,rfl⟩:=Q.run_bind _ _ _ hk
 simp only[Q.run] at e2
 split at e2
 case h_2=>cases e2
 rename_i p' q' hk'
 simp only[Option.some.injEq,Prod.mk.injEq] at e2
 obtain⟨rfl,rfl⟩:=e2
 split at hk'
 case h_2=>cases hk'
 rename_i hun
 cases bp hk'
 simp only[Dl.pre,bc,and_true] at hp
 obtain⟨hp1,hp2,hp3,hp4⟩:=hp
 simp only[aB] at hd
 obtain⟨sv,r1,rfl,ds,iv,r2,rfl,di,xv,r3,rfl,dx,rfl⟩:=hd
 have di':=di
 simp only[af] at di'
 obtain⟨rfl,hii⟩:=di'
 obtain⟨k,l,c,vcur,E2,hkq,rfl,hkc,hkne,hrd⟩:=ar7 m e1 dx hp1
 subst hz
 have hlen:∀{ii:Nat},ii=ys.length->ys.take ii++(vs1++ys.drop ii)=ys++vs1:=by
  rintro _ rfl
  rw[List.take_length,List.drop_length,List.append_nil]
 obtain⟨ii,rfl⟩:=Int.eq_ofNat_of_zero_le hp2
 have hii2:ii<=ys.length:=by omega
 simp only[Int.toNat_natCast]
 have hlast:∀ nn cc pp,ii=ys.length->sv = .slice pp nn cc->nn=ys.length->nn<=cc->cc<=maxLen →
   Calls P F #[sv,.int .i64 (ii:Int),.slice (some ⟨k,l.1,none⟩) 1 c] w fun e w'=>∃ v,e = .returned v/\cN w0 N0 A env h w (.det [vs1.length=1,(0:Int)<=(ii:Int),(ii:Int)<=(ys.length:Int),(ys.length+1)*bs<=140737488355328] (.own base u.size) [(base,.live (.row E' u (ys.take ii++(vs1++ys.drop ii)))),(n,.dead)]) v w':=by
  rintro nn cc pp rfl rfl rfl hle hmx
  obtain⟨v,w',hr,g⟩:=al9 (ty:=ty) m hu hi hzr hbs rfl hl rfl e1 hun (by rw[hp1];exact hp4) ds dx
  refine (raw.last w w' pp (some ⟨k,l.1,none⟩) ys.length cc c v hle hmx hr).mono ?_
  rintro e w2 ⟨rfl,rfl⟩
  refine⟨v,rfl,?_⟩
  rw[hlen rfl]
  exact g
 have hdn:∀ n'∈[n],∃ b,h n' = .live b/\b.mut=true:=by simp[hl,iV.mut]
 have ds':=ds
 simp only[af] at ds'
 rcases ds' with⟨hnil,pa,rfl⟩|⟨b,⟨β,len⟩,E3,cc,hb,hsh,rfl⟩
 ·have hx:ys=[]:=by
   have:=m.nm n
   rw[hl] at this
   rcases this with⟨k',l',he',_⟩|⟨_,E3,t3,hb⟩
   ·rw[hnil] at he';cases he'
   ·rcases hb with hb|hb <;> cases hb;rfl
  subst hx
  exact hlast 0 0 pa (by simpa using hii2) rfl rfl (Nat.le_refl _) (by simp[maxLen])
 ·obtain⟨cur,cap,hh,hcs,hxl,hlc,hcm,hrdx⟩:=(m.live_blk hl hb).1
  simp only at hcs hxl hlc hrdx
  have hcc:cc=cur.size/\E3=E':=by
   unfold World.shape? at hsh;rw[hh] at hsh
   simp only[Option.some.injEq,Prod.mk.injEq] at hsh;exact⟨hsh.2.symm,hsh.1.symm⟩
  obtain⟨rfl,rfl⟩:=hcc
  have hcap:(cur.size-β)/u.size=cap:=by rw[hcs,Nat.add_sub_cancel_left];exact Nat.mul_div_cancel _ u.size_pos
  have hnA:=(m.live_blk hl hb).2 rfl
  simp only[hcap] at hlast ⊢
  rcases Nat.lt_or_ge ii ys.length with hlt|hge
  case inr=>exact hlast len cap _ (by omega) rfl hxl.symm hlc hcm
  obtain⟨news,hnl,hnc,hnd⟩:=ro (env:=env) u _ _ _ hrd
  have hn1:=yG hnd (yN _ _)
  have hnews:∀ j v,news[j]? = some v->w.cell? ⟨k,l.1+j,none⟩=some v:=fun j v hj=>by
   rw[hnc j (by rw[← hnl];exact (List.getElem?_eq_some_iff.1 hj).1)];exact hj
  have hry:Rd A w u (fun j=>news[j]?) 0 (iG u vs1 0):=qi hrd fun j hj=>by rw[Nat.zero_add,hnc j hj]
  have hkb:k≠b:=hkne n b _ _ (Ne.symm hqn) hl rfl hb
  have hlz:(len-ii)*u.size+(ii+1)*u.size=(len+1)*u.size:=by rw[← Nat.add_mul];congr 1;omega
  have hiz:(ii+1)*u.size=ii*u.size+u.size:=by rw[Nat.add_mul,Nat.one_mul]
  have hlcz:len*u.size<=cap*u.size:=Nat.mul_le_mul_right _ hlc
  have hlz1:(len+1)*u.size=len*u.size+u.size:=by rw[Nat.add_mul,Nat.one_mul]
  have hnlen:(ys.take ii++(vs1++ys.drop ii)).length=len+1:=by simp;omega
  have hcutl:(dw cur (β+ii*u.size) ((len-ii)*u.size)).length=(len-ii)*u.size:=vK (by omega)
  by_cases hroom:len+1<=cap
  ·have hroomz:(len+1)*u.size<=cap*u.size:=Nat.mul_le_mul_right _ hroom
   refine (raw.shift w b β len cap ii k l.1 c cur vcur E2 news (by omega) hroom hcm hkb hh (by omega) hkc hnl hnews hn1 (Ng hrdx (fun _=>rfl) (by omega) (by rw[show ii+(len-ii)=len from by omega];omega))).mono ?_
   rintro e w' ⟨rfl,rfl⟩
   refine⟨_,rfl,?_⟩
   have s1:(je cur (β+(ii+1)*u.size) (dw cur (β+ii*u.size) ((len-ii)*u.size))).size=cur.size:=vT (by rw[hcutl];omega)
   have s2:(qX cur β len ii u.size news).size=cur.size:=by unfold qX;rw[vT (by rw[s1,hnl];omega),s1]
   have cg:bK w (w.drew.setRow b (qX cur β len ii u.size news)) fun j=>j=b:=(bK.drew w _).trans (bK.setRow w.drew b cur _ E3 hh s2)
   have g:=lW (pre:=[vs1.length=1,(0:Int)<=(ii:Int),(ii:Int)<=(ys.length:Int),(ys.length+1)*bs<=140737488355328]) (v := .slice (some ⟨b,β,none⟩) (len+1) cap) (E:=E3) (t:=u) (zs:=ys.take ii++(vs1++ys.drop ii)) m hun [n] hdn (W:=fun j=>j=b) (ev := .blk b (β,len+1)) cg
    (fun k hk=>⟨n,(β,len),by simp,hk▸hb⟩) (by simp) (fun k l e=>by cases e;exact .inr ⟨n,(β,len),by simp,hb⟩) (fun x=>.inr ⟨b,(β,len+1),cur.size,rfl,?_,?_,?_⟩)
   ·exact g
   ·refine⟨_,cap,setRow_heap w.drew b cur _ E3 _ hh,by rw[s2];exact hcs,hnlen,hroom,hcm,?_⟩
    intro k' hk'
    refine fA (fun _ h=>h) x.keep u _ _ _ _ (fun j _=>rfl) ?_
    have hv1:=K5 hp1
    have key:=O3 (A:=A) (w:=w) (u:=u) (xs:=ys) (y:=iG u vs1 0) (i:=ii) (o:=β) (off:=β) (row:=fun o=>(qX cur β len ii u.size news)[o]?) (cur:=fun o=>cur[o]?) hii2 hrdx hry ?_ ?_ ?_ k' (by rw[← hv1];exact hk')
    ·simp only[← hv1] at key;exact key
    ·intro j hj
     unfold qX
     try simp only
     rw[pM (by rw[s1,hnl];omega),if_pos (by omega),pM (by rw[hcutl];omega),if_pos (by omega)]
    ·intro j hj
     unfold qX
     try simp only
     rw[pM (by rw[s1,hnl];omega),if_neg (by omega),if_pos (by rw[hnl];omega)]
     congr 1;omega
    ·intro j hj
     rw[hxl] at hj
     unfold qX
     try simp only
     rw[pM (by rw[s1,hnl];omega),if_neg (by omega),if_neg (by rw[hnl];omega),pM (by rw[hcutl];omega),if_neg (by omega),if_pos (by rw[hcutl];omega),show β+(ii+1)*u.size+j-(β+(ii+1)*u.size)=j from by omega,tK hj]
   ·unfold World.shape?;rw[setRow_heap w.drew b cur _ E3 _ hh];simp only[s2]
   ·show _=Value.slice _ _ ((cur.size-β)/u.size)
    rw[hcap]
  ·have hcl:cap=len:=by omega
   subst hcl
   have hsum:cap+1<=maxLen:=by
    have:(cap+1)*1<=(ys.length+1)*bs:=by rw[hxl];exact Nat.mul_le_mul_left _ hbs
    simp only[maxLen];omega
   refine (raw.grow w b β cap ii k l.1 c cur vcur E2 news (by omega) hsum (by rw[← hxl];exact hp4) hh (by omega) hkc hnl hnews hn1 (by
    have:=Ng hrdx (fun _=>rfl) (a:=0) (n:=cap) (cur:=cur) (by omega) (by rw[Nat.zero_add];omega)
    simpa using this)).mono ?_
   rintro e w' ⟨rfl,w1,cg1,hs1,hh1,rfl⟩
   refine⟨_,rfl,?_⟩
   have hge:=grownCap_ge w (cap+1) cap E3
   have hcm':=grownCap_le_maxLen w (cap+1) cap E3 hsum
   generalize grownCap w (cap+1) cap E3=G' at *
   have hGz:(cap+1)*u.size<=G'*u.size:=Nat.mul_le_mul_right _ hge
   have hcut0:(dw cur β (ii*u.size)).length=ii*u.size:=vK (by omega)
   have s0:(pO cur β cap ii u.size G' zv.cells).size=G'*u.size:=by
    unfold pO
    simp only[Array.size_append,List.size_toArray,hcut0,size_zeroCells,hzr,← Nat.add_mul];congr 1;omega
   have s1:(je (pO cur β cap ii u.size G' zv.cells) (ii*u.size) news).size=G'*u.size:=by rw[vT (by rw[s0,hnl];omega),s0]
   have s2:(qw cur β cap ii u.size G' zv.cells news).size=G'*u.size:=by unfold qw;rw[vT (by rw[s1,hcutl];omega),s1]
   have cg:bK w (w1.setRow w.heap.size (qw cur β cap ii u.size G' zv.cells news)) fun _=>False:=by
    have c2:=bK.setRow w1 w.heap.size _ (qw cur β cap ii u.size G' zv.cells news) E3 hh1 (by rw[s2,s0])
    have c3:=(bK.drew w fun _=>False).trans cg1
    exact⟨c2.os.trans c3.os,c2.tape.trans c3.tape,c2.output.trans c3.output,Nat.le_trans c3.size c2.size,
     fun i hi hw=>(c2.blk i (Nat.lt_of_lt_of_le hi c3.size) (fun e=>by omega)).trans (c3.blk i hi hw),fun i s hs=>c2.shape i s (c3.shape i s hs)⟩
   have g:=lW (pre:=[vs1.length=1,(0:Int)<=(ii:Int),(ii:Int)<=(ys.length:Int),(ys.length+1)*bs<=140737488355328]) (v := .slice (some ⟨w.heap.size,0,none⟩) (cap+1) G') (E:=E3) (t:=u) (zs:=ys.take ii++(vs1++ys.drop ii)) m hun [n] hdn (W:=fun _=>False) (ev := .blk w.heap.size (0,cap+1)) cg
    (fun _ h=>h.elim) (by simp) (fun k l e=>by cases e;exact .inl (Nat.le_refl _)) (fun x=>.inr ⟨w.heap.size,(0,cap+1),G'*u.size,rfl,?_,?_,?_⟩)
   ·exact g
   ·refine⟨_,G',setRow_heap w1 w.heap.size _ _ E3 _ hh1,by rw[s2,Nat.zero_add],hnlen,hge,hcm',?_⟩
    intro k' hk'
    refine fA (fun _ h=>h) x.keep u _ _ _ _ (fun j _=>rfl) ?_
    have hv1:=K5 hp1
    have key:=O3 (A:=A) (w:=w) (u:=u) (xs:=ys) (y:=iG u vs1 0) (i:=ii) (o:=0) (off:=β) (row:=fun o=>(qw cur β cap ii u.size G' zv.cells news)[o]?) (cur:=fun o=>cur[o]?) hii2 hrdx hry ?_ ?_ ?_ k' (by rw[← hv1];exact hk')
    ·simp only[← hv1] at key;exact key
    ·intro j hj
     unfold qw
     try simp only
     rw[pM (by rw[s1,hcutl];omega),if_pos (by omega),pM (by rw[s0,hnl];omega),if_pos (by omega)]
     unfold pO
     rw[Array.append_assoc,Array.getElem?_append_left (by simp only[List.size_toArray,hcut0];omega),List.getElem?_toArray,Nat.zero_add,tK hj]
    ·intro j hj
     unfold qw
     try simp only
     rw[pM (by rw[s1,hcutl];omega),if_pos (by omega),pM (by rw[s0,hnl];omega),if_neg (by omega),if_pos (by rw[hnl];omega)]
     congr 1;omega
    ·intro j hj
     rw[hxl] at hj
     unfold qw
     try simp only
     rw[pM (by rw[s1,hcutl];omega),if_neg (by omega),if_pos (by rw[hcutl];omega),show 0+(ii+1)*u.size+j-(ii+1)*u.size=j from by omega,tK hj]
   ·unfold World.shape?;rw[setRow_heap w1 w.heap.size _ _ E3 _ hh1];simp only[s2]
   ·show _=Value.slice _ _ ((G'*u.size-0)/u.size)
    rw[Nat.sub_zero,Nat.mul_div_cancel _ u.size_pos]
end
end Go.SX

/- Insf: a flight put into a list of flights (slices.Insert). -/
namespace Go.RS
open Go.SX Go.Proofs
set_option maxRecDepth 100000
set_option maxHeartbeats 4000000
set_option linter.unusedVariables false
def tY:Value := .agg #[.int .i64 0,.int .i64 0,.int .i64 0,.int .i64 0,.int .i64 0,.slice none 0 0]
section
variable {w:World}
theorem Tj:MA Tryz.prog 108 33 116 6 64 tY.cells 33:=by
 refine⟨?_,?_,?_⟩
 ·intro w w' p q n c vc v hn hc hr
  have hz:(Go.sizeOf 116).run Tryz.prog w = .ok 6 w:=iS (by kernel_rfl) w
  unfold maxLen at hc
  cases p <;> go_enter Tryz.func108,Tryz.ntmps108 <;>
  go_wp2_with (at_builtin;refine Lib.wpList_append_run _ rfl _ _ _ _ rfl _ _ rfl rfl _ _ hr ?_)
  all_goals (go_ret;exact⟨rfl,rfl⟩)
 ·intro w b off n c i vb voff vc cur vcur E' vs hi hn hc hvb hb hf hv hvl hvs h1v h1c
  have hz:∀ w,(Go.sizeOf 116).run Tryz.prog w = .ok 6 w:=fun w=>iS (by kernel_rfl) w
  have mixed:Tryz.prog.follows .mixedOrders=true:=av
  unfold maxLen at hc
  have hsa:w.shape? vb=some (E',vcur.size):=by unfold World.shape?;rw[hv]
  have hsb:w.shape? b=some (116,cur.size):=by unfold World.shape?;rw[hb]
  have hfa:w.frozen? ⟨vb,voff,none⟩=false:=by simp[World.frozen?,hv]
  have hfe:w.frozen? ⟨vb,vcur.size,none⟩=false:=by simp[World.frozen?,hv]
  have hov:∀ lb cb o,(callFunc 171 #[.slice (some ⟨vb,voff,none⟩) 1 vc,.slice (some ⟨b,o,none⟩) lb cb]).run Tryz.prog w = .ok (.value (.bool false)) w:=fun lb cb o=>by
   rw[run_callFunc_extern Tryz.func171 (by kernel_rfl) (by kernel_rfl) (by kernel_rfl) (e:=Extern.SlicesOverlaps.overlaps #[33,33] #[4]) (by kernel_rfl),
    Lib.run_overlaps_apart w 33 4 116 Tryz.underlying33 6 hz ⟨vb,voff,none⟩ ⟨b,o,none⟩ 1 vc lb cb hvb E' 116 vcur.size cur.size hsa hsb (by omega) hfa hfe]
   rfl
  have hw1:IntKind.i64.wrap ((i:Int)+1)=(i:Int)+1:=by rw[IntKind.wrap_i64];omega
  have hw2:IntKind.i64.wrap ((n:Int)+1)=(n:Int)+1:=by rw[IntKind.wrap_i64];omega
  have hz2:¬ ((i:Int)=(n:Int)):=by omega
  have htn:((i:Int)+1).toNat=i+1:=by omega
  have htm:((n:Int)+1).toNat=n+1:=by omega
  have hb1:(0:Int)<=(i:Int)+1:=by omega
  have hb2:¬ (c=i+1):=by omega
  have hb3:(i:Int)<=(n:Int)+1:=by omega
  have hb4:¬ (c=i):=by omega
  have hin:i<=n:=by omega
  have e1:(i+1)*6=i*6+6:=by omega
  have hcl:(dw cur (off+i*6) ((n-i)*6)).length=(n-i)*6:=vK (by omega)
  have hsz:(Tryz.prog.info? 116).map (·.size)=some 6:=by kernel_rfl
  have hcp1:(Builtin.copy_ #[33,33] 3 #[.slice (some ⟨b,off+(i+1)*6,none⟩) (n-i) (c-(i+1)),.slice (some ⟨b,off+i*6,none⟩) (n+1-i) (c-i)]).run Tryz.prog w.drew =
    .ok (goInt ((n-i:Nat):Int)) (w.drew.setRow b (je cur (off+(i+1)*6) (dw cur (off+i*6) ((n-i)*6)))):=by
   have h:=BL (P:=Tryz.prog) w.drew 33 33 3 116 6 b (off+(i+1)*6) (n-i) (c-(i+1)) ⟨b,off+i*6,none⟩ (n+1-i) (c-i) cur 116 (dw cur (off+i*6) ((n-i)*6)) Tryz.underlying33 hsz hb
    (by rw[hcl];simp only[Nat.min_def];split <;> omega)
    (fun j v hj=>by
     have hj':=(List.getElem?_eq_some_iff.1 hj).1
     rw[hcl] at hj'
     rw[tK hj'] at hj
     rw[Addr.add_lit,cell_of_row w.drew b _ cur 116 (0,0) hb];exact hj)
    (by rw[hcl];omega) h1c
   have hm:Nat.min (n+1-i) (n-i)=n-i:=by simp only[Nat.min_def];split <;> omega
   rw[hm] at h
   exact h
  have hr1:(je cur (off+(i+1)*6) (dw cur (off+i*6) ((n-i)*6))).size=cur.size:=vT (by rw[hcl];omega)
  have hcp2:(Builtin.copy_ #[33,33] 3 #[.slice (some ⟨b,off+i*6,none⟩) (n+1-i) (c-i),.slice (some ⟨vb,voff,none⟩) 1 vc]).run Tryz.prog (w.drew.setRow b (je cur (off+(i+1)*6) (dw cur (off+i*6) ((n-i)*6)))) =
    .ok (goInt 1) (w.drew.setRow b (qX cur off n i 6 vs)):=by
   have h:=BL (P:=Tryz.prog) (w.drew.setRow b (je cur (off+(i+1)*6) (dw cur (off+i*6) ((n-i)*6)))) 33 33 3 116 6 b (off+i*6) (n+1-i) (c-i) ⟨vb,voff,none⟩ 1 vc _ 116 vs Tryz.underlying33 hsz
    (setRow_heap w.drew b cur _ 116 (0,0) hb)
    (by rw[hvl];simp only[Nat.min_def];split <;> omega)
    (fun j v hj=>by
     rw[Addr.add_lit,cell_setRow_other _ _ _ _ hvb]
     exact hvs j v hj)
    (by rw[hr1,hvl];omega) h1v
   have hm:Nat.min 1 (n+1-i)=1:=by simp only[Nat.min_def];split <;> omega
   rw[hm,setRow_setRow] at h
   exact h
  clear e1 hcl hr1
  go_enter Tryz.func108,Tryz.ntmps108
  go_wp2_with (simp only[hov])
  go_region
  go_wp2
  all_goals (go_ret;exact⟨rfl,rfl⟩)
 ·intro w b off n i vb voff vc cur vcur E' vs hi hn hby hb hf hv hvl hvs h1v h1c
  have hz:∀ w,(Go.sizeOf 116).run Tryz.prog w = .ok 6 w:=fun w=>iS (by kernel_rfl) w
  have mixed:Tryz.prog.follows .mixedOrders=true:=av
  have hx:(Tryz.prog.info? 116).map (fun i=>(i.zero,i.size,i.bytes))=some (some tY,6,64):=by kernel_rfl
  obtain⟨i0,hi0⟩:∃ i0,Tryz.prog.info? 116=some i0:=by
   cases hh:Tryz.prog.info? 116 with
   | none=>rw[hh] at hx;cases hx
   | some i0=>exact⟨i0,rfl⟩
  rw[hi0] at hx
  simp only[Option.map_some,Option.some.injEq,Prod.mk.injEq] at hx
  obtain⟨hz0,hzs,hzb⟩:=hx
  have hsz:(Tryz.prog.info? 116).map (·.size)=some 6:=by kernel_rfl
  have hbw:b<w.heap.size:=(Array.getElem?_eq_some_iff.1 hb).1
  have hvw:vb<w.heap.size:=(Array.getElem?_eq_some_iff.1 hv).1
  have hni:i*6+(n-i)*6=n*6:=by rw[← Nat.add_mul];congr 1;omega
  have hil:(dw cur off (i*6)).length=i*6:=vK (by omega)
  have hcl:(dw cur (off+i*6) ((n-i)*6)).length=(n-i)*6:=vK (by omega)
  have hold:(Builtin.firstCells i0.size i (.slice (some ⟨b,off,none⟩) i n)).run Tryz.prog w.drew = .ok (dw cur off (i*6)).toArray w.drew:=by
   rw[hzs]
   exact run_firstCells_some w.drew 6 i ⟨b,off,none⟩ i n (dw cur off (i*6)) hil (fun j v hj=>by
    have hj':=(List.getElem?_eq_some_iff.1 hj).1
    rw[hil] at hj'
    rw[tK hj'] at hj
    rw[Addr.add_lit,cell_of_row w.drew b _ cur 116 (0,0) hb];exact hj)
  have hGn:n+1<=grownCap w (n+1) n 116:=grownCap_ge w _ _ _
  have hG63:=grownCap_le_maxLen w (n+1) n 116 hn
  have hrz:(Builtin.append_ #[33,3] 33 #[.slice (some ⟨b,off,none⟩) i n,.int .i64 ((n:Int)+1-(i:Int))]).run Tryz.prog w =
    .ok (.slice (some ⟨w.heap.size,0,none⟩) (n+1) (grownCap w (n+1) n 116)) (w.drew.alloc (.cells (pO cur off n i 6 (grownCap w (n+1) n 116) tY.cells) 116)):=by
   have h:=Lib.run_append_grow_zeros w 33 3 33 116 i0 _ .i64 .i64 Tryz.underlying33 Tryz.underlying3 hi0 hz0 (some ⟨b,off,none⟩) i n (dw cur off (i*6)) hold (n+1-i) (by omega) (by omega) (by omega) (by unfold maxLen at hn;omega) (by rw[hzb];omega)
    (by rw[show i+(n+1-i)=n+1 from by omega];exact growslice_fits (by omega) (by rw[hzb];exact hby))
   rw[show i+(n+1-i)=n+1 from by omega] at h
   rw[show (n:Int)+1-(i:Int)=((n+1-i:Nat):Int) from by omega]
   exact h
  generalize hG:grownCap w (n+1) n 116=G at *
  have hrs:(pO cur off n i 6 G tY.cells).size=G*6:=by
   unfold pO
   simp only[Array.size_append,List.size_toArray,hil,size_zeroCells]
   have:tY.cells.size=6:=rfl
   rw[this,← Nat.add_mul,← Nat.add_mul];congr 1;omega
  generalize hROW:pO cur off n i 6 G tY.cells=ROW at *
  have hgN:(w.drew.alloc (.cells ROW 116)).heap[w.heap.size]? = some (.cells ROW 116 (0,0)):=heap_alloc_new w.drew _
  have hG6:(n+1)*6<=G*6:=Nat.mul_le_mul_right _ hGn
  have e1:(i+1)*6=i*6+6:=by omega
  have hr1:(je ROW (i*6) vs).size=G*6:=by rw[vT (by rw[hrs,hvl];omega),hrs]
  have hcp1:(Builtin.copy_ #[33,33] 3 #[.slice (some ⟨w.heap.size,i*6,none⟩) (n+1-i) (G-i),.slice (some ⟨vb,voff,none⟩) 1 vc]).run Tryz.prog (w.alloc (.cells ROW 116)).drew =
    .ok (goInt 1) ((w.alloc (.cells ROW 116)).drew.setRow w.heap.size (je ROW (i*6) vs)):=by
   have h:=BL (P:=Tryz.prog) (w.drew.alloc (.cells ROW 116)) 33 33 3 116 6 w.heap.size (i*6) (n+1-i) (G-i) ⟨vb,voff,none⟩ 1 vc _ 116 vs Tryz.underlying33 hsz hgN
    (by rw[hvl];simp only[Nat.min_def];split <;> omega)
    (fun j v hj=>by
     rw[Addr.add_lit,World.cell?_alloc_past (w:=w.drew) _ vb _ hvw]
     exact hvs j v hj)
    (by rw[hrs,hvl];omega) h1v
   have hm:Nat.min 1 (n+1-i)=1:=by simp only[Nat.min_def];split <;> omega
   rw[hm] at h
   exact h
  have hcp2:(Builtin.copy_ #[33,33] 3 #[.slice (some ⟨w.heap.size,(i+1)*6,none⟩) (n-i) (G-(i+1)),.slice (some ⟨b,off+i*6,none⟩) (n-i) (n-i)]).run Tryz.prog ((w.alloc (.cells ROW 116)).drew.setRow w.heap.size (je ROW (i*6) vs)).drew =
    .ok (goInt ((n-i:Nat):Int)) ((w.alloc (.cells ROW 116)).drew.drew.setRow w.heap.size (je (je ROW (i*6) vs) ((i+1)*6) (dw cur (off+i*6) ((n-i)*6)))):=by
   have h:=BL (P:=Tryz.prog) ((w.alloc (.cells ROW 116)).drew.setRow w.heap.size (je ROW (i*6) vs)).drew 33 33 3 116 6 w.heap.size ((i+1)*6) (n-i) (G-(i+1)) ⟨b,off+i*6,none⟩ (n-i) (n-i) _ 116 (dw cur (off+i*6) ((n-i)*6)) Tryz.underlying33 hsz
    (setRow_heap _ w.heap.size _ _ 116 (0,0) hgN)
    (by rw[hcl];simp only[Nat.min_def];split <;> omega)
    (fun j v hj=>by
     have hj':=(List.getElem?_eq_some_iff.1 hj).1
     rw[hcl] at hj'
     rw[tK hj'] at hj
     show World.cell? ((w.drew.alloc (.cells ROW 116)).setRow w.heap.size (je ROW (i*6) vs)) _=_
     rw[Addr.add_lit,cell_setRow_other _ _ _ _ (by show b≠w.heap.size;omega),World.cell?_alloc_past (w:=w.drew) _ b _ hbw,cell_of_row w.drew b _ cur 116 (0,0) hb];exact hj)
    (by rw[hr1,hcl];omega) (fun v hv=>h1c v (by
     unfold dw at hv ⊢
     rw[← List.drop_drop] at hv
     have e2:List.take ((n-i)*6) (List.drop (i*6) (List.drop off cur.toList))=List.drop (i*6) (List.take (n*6) (List.drop off cur.toList)):=by
      rw[List.drop_take];congr 1;omega
     rw[e2] at hv
     exact List.mem_of_mem_drop hv))
   have hm:Nat.min (n-i) (n-i)=n-i:=by simp only[Nat.min_def];split <;> omega
   rw[hm] at h
   have hs2:∀(W:World)(g:Nat)(a b:Array Value),(W.setRow g a).drew.setRow g b=W.drew.setRow g b:=fun W g a b=>setRow_setRow W.drew g a b
   rw[hs2] at h
   exact h
  have hz2:¬ ((i:Int)=(n:Int)):=by omega
  have hw1:IntKind.i64.wrap ((i:Int)+1)=(i:Int)+1:=by rw[IntKind.wrap_i64];unfold maxLen at hn;omega
  have hw2:IntKind.i64.wrap ((n:Int)+1)=(n:Int)+1:=by rw[IntKind.wrap_i64];unfold maxLen at hn;omega
  have hz3:(n:Int)<(n:Int)+1:=by omega
  have hGi:¬ (G=i):=by omega
  have hGim:¬ (G=i+1):=by omega
  have hci:¬ (n=i):=by omega
  have hb1:(0:Int)<=(i:Int)+1:=by omega
  have hin:i<=n:=by omega
  have htn:((i:Int)+1).toNat=i+1:=by omega
  have hb3:(i:Int)<=(n:Int):=by omega
  have hiG:i<=n+1:=by omega
  unfold maxLen at hn hG63
  clear e1 hr1 hG6 hil hcl hni hrs hgN hold hGn
  go_enter Tryz.func108,Tryz.ntmps108
  go_wp2_with (at_builtin;refine Lib.wpList_append_run _ rfl _ _ _ _ rfl _ _ rfl rfl _ _ hrz ?_)
  go_region
  go_wp2
  all_goals (go_ret;exact⟨rfl,(w.alloc (.cells ROW 116)).drew.drew,((bK.alloc w.drew _ _).trans (bK.drew _ _)),by simp,heap_alloc_new w.drew _,by unfold qw;rw[hROW]⟩)
end
def ao3:Go.SX.Spec:=A4 kK 116 64
theorem ak4:ax Tryz.prog GL 108 ao3:=by
 show ax Tryz.prog GL 108 (A4 kK 116 64)
 exact SD (u:=kK) (zv:=tY) Tj Tryz.underlying33 (by kernel_rfl) rfl (by decide) rfl
end Go.RS

/- Topo2: networks: the program's check of all, finding, and routes at a time. -/
namespace Go.RS
open Go.SX Go.Proofs
set_option maxRecDepth 100000
set_option linter.unusedVariables false
def uL{α:Type}(q:α->Bool)(l:List α):Int:=if l.findIdx q<l.length then (l.findIdx q:Int) else -1
theorem ai6{α:Type}{q:α->Bool}{l:List α}:decide (0<=uL q l)=l.any q:=by
 unfold uL
 cases h:l.any q with
 | true =>
  rw[if_pos (List.findIdx_lt_length_of_exists (by simpa using h))]
  exact decide_eq_true (by omega)
 | false =>
  have:l.findIdx q=l.length:=List.findIdx_eq_length_of_false (by simpa using h)
  rw[if_neg (by omega)];rfl
theorem wE{a b:Int}(h:a≠0):a=ng a b:=by unfold ng;rw[if_pos h]
theorem ww{a b:Int}(h:a=0):ng a b=b:=by unfold ng;rw[if_neg (fun k=>k h)]
def I9:Ct:=⟨[.agg ig],[.val cI],fun d=>[],fun d=>((lq d.1,()),())⟩
def Xu:ar I9.ps->az:=(fun d=>{loops:=(fun n=>match n with|2=>some (fun S=>{ι:=Int,μ:=fun i=>(d.1.1.length-i).toNat,inv:=fun i=>0<=i/\i<=d.1.1.length/\first (mn d.1) i.toNat=0,keep:=[1,9,10],slots:=fun i=>[(11,.int .i64 i)],keepN:=[32],names:=fun i=>[]})|8=>some (fun S=>{ι:=Int,μ:=fun i=>((bv (d.1.1.getD (S.i 11).toNat default)).length-i).toNat,inv:=fun i=>0<=i/\i<=(bv (d.1.1.getD (S.i 11).toNat default)).length∧∀ k∈(bv (d.1.1.getD (S.i 11).toNat default)).take i.toNat,nF d.1 (S.i 11).toNat k=false,keep:=[1,3,9,10,11,22,23],slots:=fun i=>[(24,.int .i64 i)],keepN:=[32,368],names:=fun i=>[]})|_=>none)})
def eO(a:List ac) :=
 (a.length:Int)
def nC(a:List ac)(d:Int) :=
 bv (a.getD d.toNat default)
def vD(a:List ac)(b:List aE)(c:List aM) :=
 (a.length<=maxLen/\ ∀(d:ac),d∈a->CT.wf bH d)/\(b.length<=maxLen/\ ∀(d:aE),d∈b->CT.wf fB d)/\c.length<=maxLen/\ ∀(d:aM),d∈c->CT.wf d8 d
def ny(a:List ac)(d:Int) :=
 ((List.length (nC a d)):Int)
theorem Se :
 ∀(a:List ac)(b:List aE)(c:List aM),(vD a b c)/\True->True->(∃(d:Int),(0<=d/\d<=(eO a)/\first (mn (a,b,c)) d.toNat=0)/\a=a/\(eO a)=(eO a)/\(0:Int)=d/\a=a/\b=b/\c=c/\True)/\ ∀(d:Int),0<=d/\d<=(eO a)/\first (mn (a,b,c)) d.toNat=0->ad (decide (d<(eO a))) (0<=d/\d<(eO a)/\ad (! decide (eU (a.getD d.toNat default)=0)) (eU (a.getD d.toNat default)=lq (a,b,c)) (List.length (aA (a.getD d.toNat default))<=(100000:Nat)/\(∃(e:Int),(0<=e/\e<=(ny a d)/\ ∀(f:Int),f∈List.take e.toNat (nC a d)->nF (a,b,c) d.toNat f=false)/\d=d/\a=a/\(eO a)=(eO a)/\d=d/\(ny a d)=(ny a d)/\(0:Int)=e/\a=a/\b=b/\c=c/\bv (a.getD d.toNat default)=bv (a.getD d.toNat default)/\True)/\ ∀(e:Int),(0<=e/\e<=(ny a d)/\ ∀(f:Int),f∈List.take e.toNat (nC a d)->nF (a,b,c) d.toNat f=false)->ad (decide (e<(ny a d))) (0<=e/\e<(ny a d)/\ ∀(f:Bool),f=decide
 ((b.length:Int)<=List.getD (nC a d) e.toNat default)->((! f)->((! f)->(! f))/\True)/\((! f)->((! f)->(! f))/\((! f)->(! f))/\0<=List.getD (nC a d) e.toNat default/\List.getD (nC a d) e.toNat default<(b.length:Int)/\True)/\((! f)->((! f)->(! f))/\True)/\((! f)->((! f)->(! f))/\True)/\((! f)->((! f)->(! f))/\((! f)->(! f))/\True)/\((! f)->((! f)->(! f))/\True)/\ ∀(g:Bool),g= ! decide ((b.getD (Int.toNat (List.getD (nC a d) e.toNat default)) default).1=d)->((! f&&g)->((! f&&g)->(! f&&g))/\True)/\((! f&&g)->((! f&&g)->(! f&&g))/\((! f&&g)->(! f&&g))/\0<=List.getD (nC a d) e.toNat default/\List.getD (nC a d) e.toNat default<(b.length:Int)/\True)/\((! f&&g)->((! f&&g)->(! f&&g))/\True)/\((! f&&g)->((! f&&g)->(! f&&g))/\True)/\((! f&&g)->((! f&&g)->(! f&&g))/\((! f&&g)->(! f&&g))/\True)/\((! f)->((! f)->(! f))/\(g->(! f&&g))/\True)/\(f=false->(! f))/\ad (bif f then true else bif g
 then ! decide ((b.getD (Int.toNat (List.getD (nC a d) e.toNat default)) default).2.1=d) else false) ((11:Int)=lq (a,b,c)) (∃(h:Int),(0<=h/\h<=(ny a d)/\ ∀(i:Int),i∈List.take h.toNat (nC a d)->nF (a,b,c) d.toNat i=false)/\Int.toNat ((ny a d) -h)<Int.toNat ((ny a d) -e)/\d=d/\a=a/\(eO a)=(eO a)/\d=d/\(ny a d)=(ny a d)/\IntKind.wrap .i64 (e+(1:Int))=h/\a=a/\b=b/\c=c/\bv (a.getD d.toNat default)=bv (a.getD d.toNat default)/\True)) (∃(f:Int),(0<=f/\f<=(eO a)/\first (mn (a,b,c)) f.toNat=0)/\Int.toNat ((eO a) -f)<Int.toNat ((eO a) -d)/\a=a/\(eO a)=(eO a)/\IntKind.wrap .i64 (d+(1:Int))=f/\a=a/\b=b/\c=c/\True))) ((0:Int)=lq (a,b,c)):=by
  delta nC vD ny eO
  rintro ns ls hs ⟨⟨⟨hnl,-⟩,⟨hl,-⟩,-⟩,-⟩ -
  simp only[maxLen] at hl hnl
  refine⟨⟨0,⟨by omega,by omega,rfl⟩,(by repeat' first|exact trivial|refine⟨trivial,?_⟩|refine⟨(by with_reducible rfl),?_⟩|refine⟨ai (by omega) (by omega),?_⟩|refine⟨rfl,?_⟩)⟩,?_⟩
  rintro i ⟨i0,i1,hf⟩
  refine ae (fun hi=>?_) (fun hi=>?_)
  rotate_left
  ·have hi:=of_decide_eq_false hi
   rw[show i.toNat=ns.length by omega] at hf
   exact hf.symm
  have hi:=of_decide_eq_true hi
  have ei:((i.toNat:Nat):Int)=i:=by omega
  have hit:=fun h=>E4 (f:=mn (ns,ls,hs)) (n:=ns.length) i0 hi hf h
  refine⟨i0,hi,ae (fun h=>?_) (fun h=>?_)⟩
  ·have h:=gC h
   have e:mn (ns,ls,hs) i.toNat=eU (ns.getD i.toNat default):=if_pos h
   have k:=hit (by rw[e];exact h)
   rw[e] at k;exact k
  have h:=hT h
  have nv:=MX h
  have k0:=ai7 nv.bad
  have hlen:(bv (ns.getD i.toNat default)).length=(aA (ns.getD i.toNat default)).length:=by simp[bv]
  have n32:=nv.len
  refine⟨by omega,⟨0,⟨by omega,by omega,by simp⟩,(by repeat' first|exact trivial|refine⟨trivial,?_⟩|refine⟨(by with_reducible rfl),?_⟩|refine⟨ai (by omega) (by omega),?_⟩|refine⟨rfl,?_⟩)⟩,?_⟩
  rintro j ⟨j0,j1,hj⟩
  refine ae (fun hk=>?_) (fun hk=>?_)
  rotate_left
  ·have hk:=of_decide_eq_false hk
   rw[List.take_of_length_le (by omega)] at hj
   refine⟨i+1,⟨by omega,by omega,AU i0 hf ?_⟩,by omega,(by repeat' first|exact trivial|refine⟨trivial,?_⟩|refine⟨(by with_reducible rfl),?_⟩|refine⟨ai (by omega) (by omega),?_⟩|refine⟨rfl,?_⟩)⟩
   unfold mn
   rw[if_neg (fun q=>q h),if_neg]
   intro q
   obtain⟨k,hk,q⟩:=List.any_eq_true.1 q
   rw[hj k hk] at q;cases q
  have hk:=of_decide_eq_true hk
  have hm:=bL j0 hk
  have cL:=fun h=>rz j0 hk hj h (P:=fun k=>nF (ns,ls,hs) i.toNat k=false)
  have kk:=k0 _ hm
  refine⟨j0,hk,?_⟩
  generalize (bv (ns.getD i.toNat default)).getD j.toNat default=k at hm cL kk ⊢
  intro b hb
  (repeat refine⟨(by first|(simp;done)|exact fun h=>⟨fun _=>h,fun _=>h,kk,by rw[hb] at h;have:=gC h;omega,trivial⟩),?_⟩)
  intro b1 hb1
  (repeat refine⟨(by first|(simp;done)|(simp +contextual;done)|exact fun h=>⟨fun _=>h,fun _=>h,kk,by rw[hb] at h;have:=gC (Bool.and_eq_true_iff.1 h).1;omega,trivial⟩),?_⟩)
  have tot:(bif b then true else bif b1 then !decide ((ls.getD k.toNat default).2.1=i) else false)=nF (ns,ls,hs) i.toNat k:=by
   rw[hb,hb1]
   unfold nF lA lB
   rw[ei]
   cases decide ((ls.length:Int)<=k) <;> cases decide ((ls.getD k.toNat default).1=i) <;> cases decide ((ls.getD k.toNat default).2.1=i) <;> rfl
  rw[tot]
  refine ae (fun ht=>?_) (fun ht=>?_)
  ·have e:mn (ns,ls,hs) i.toNat=11:=by
    unfold mn
    rw[if_neg (fun q=>q h),if_pos (List.any_eq_true.2 ⟨_,hm,ht⟩)]
   have q:=hit (by rw[e];decide)
   rw[e] at q;exact q
  ·exact⟨j+1,⟨by omega,by omega,cL ht⟩,by omega,(by repeat' first|exact trivial|refine⟨trivial,?_⟩|refine⟨(by with_reducible rfl),?_⟩|refine⟨ai (by omega) (by omega),?_⟩|refine⟨rfl,?_⟩)⟩
theorem WX:ax Tryz.prog GL 116 I9.spec:=Ct.okH _ Tryz.func116 (by kernel_rfl) (ah (ah aD SY) KJ) av Xu (aC (by kernel_rfl) Se)
def Hq:Ct:=⟨[.val (.sl cG),.agg d8],[.own 97 cG],fun d=>[bM d.1,okL d.1,((db d.2.1).2.1.length:Int)<=1099511627776],fun d=>((fK d.1 d.2.1,()),())⟩
def ap0:ar Hq.ps->az:=(fun _=>{})
def vB(a:List aF) :=
 a.length<=maxLen/\ ∀(c:aF),c∈a->((0<=c.1.1/\c.1.1<=4294967295)/\ab c.1.2)/\(c.2.1.length<=maxLen/\ ∀(d:Int),d∈c.2.1->ab d)/\ab c.2.2
theorem ZM :
 ∀(a:List aF)(b:aM),(vB a)/\CT.wf d8 b/\True->bM a/\okL a/\((List.length (db b).2.1):Int)<=1099511627776->ad b.2.2.1 (bM a/\okL a/\gD a b.2.2.2.1=fK a b) (bM a/\okL a/\(b.2.2.2.2.1.length:Int)<=1099511627776/\dN a b.2.2.2=fK a b):=by
  delta vB
  rintro l c-⟨hs,hl,hx⟩
  unfold fK
  rw[show c.2.2.1=qQ c from rfl]
  refine ae (fun h=>⟨hs,hl,?_⟩) (fun h=>⟨hs,hl,hx,?_⟩)
  ·rw[if_pos h];rfl
  ·rw[if_neg (by rw[h];decide)];rfl
theorem XY:ax Tryz.prog GL 156 Hq.spec:=Ct.okH _ Tryz.func156 (by kernel_rfl) (ah (ah aD KD) Is) av ap0 (aC (by kernel_rfl) ZM)
def kG(p:cO)(r:Rt):Bool:=decide (r.1=p)
def HJ:Ct:=⟨[.agg cG,.box 129 d8],[.val .bool],fun _=>[],fun d=>((kG (db d.2.1).1 d.1,()),(d.2.1,()))⟩
def WN:ar HJ.ps->az:=(fun _=>{})
theorem Wu :
 ∀(a b:Int)(c:List Int)(d:Int)(e:aM),(((0<=a/\a<=4294967295)/\ab b)/\(c.length<=maxLen/\ ∀(f:Int),f∈c->ab f)/\ab d)/\CT.wf d8 e/\True->True->(decide (a=e.2.2.2.1.1)&&(decide (b=e.2.2.2.1.2)&&true))=kG (db e).1 ((a,b),c,d)/\e=e:=by
  rintro a n nx b c - -
  refine⟨?_,rfl⟩
  rw[Bool.eq_iff_iff];simp[kG,Prod.ext_iff,db]
theorem ZZ:ax Tryz.prog GL 178 HJ.spec:=Ct.okH _ Tryz.func178 (by kernel_rfl) aD av WN (aC (by kernel_rfl) Wu)
def LC:Ct:=⟨[.val (.sl cG),.fn 178 1,.box 129 d8],[.val cI],fun _=>[],fun d=>((uL (kG (db d.2.2.1).1) d.1,()),(d.2.2.1,()))⟩
def av3:ar LC.ps->az:=(fun d=>{loops:=(fun n=>match n with|2=>some (fun S=>{ι:=Int,μ:=fun i=>(d.1.length-i).toNat,inv:=fun i=>0<=i/\i<=d.1.length∧∀ x∈d.1.take i.toNat,kG (db d.2.2.1).1 x=false,keep:=[0,1,6,7],slots:=fun i=>[(8,.int .i64 i)],keepN:=[1048576],names:=fun i=>[]})|_=>none)})
def Ca(b:aM) :=
 b.1=b.1/\b.2.1=b.2.1/\b.2.2.1=b.2.2.1/\b.2.2.2.1.1=b.2.2.2.1.1/\b.2.2.2.1.2=b.2.2.2.1.2/\b.2.2.2.2.1=b.2.2.2.2.1/\b.2.2.2.2.2=b.2.2.2.2.2/\True
theorem av6 :
 ∀(a:List aF)(b:aM),(vB a)/\True/\CT.wf d8 b/\True->True->(∃(c:Int),(0<=c/\c<=(a.length:Int)/\ ∀(d:aF),d∈List.take c.toNat a->kG (db b).1 d=false)/\a=a/\a=a/\(a.length:Int)=(a.length:Int)/\(0:Int)=c/\(Ca b))/\ ∀(c:Int),(0<=c/\c<=(a.length:Int)/\ ∀(d:aF),d∈List.take c.toNat a->kG (db b).1 d=false)->ad (decide (c<(a.length:Int))) (0<=c/\c<(a.length:Int)/\ad (kG b.2.2.2.1 (a.getD c.toNat default)) (c=uL (kG (db b).1) a/\b=b) (∃(d:Int),(0<=d/\d<=(a.length:Int)/\ ∀(e:aF),e∈List.take d.toNat a->kG (db b).1 e=false)/\Int.toNat ((a.length:Int) -d)<Int.toNat ((a.length:Int) -c)/\a=a/\a=a/\(a.length:Int)=(a.length:Int)/\IntKind.wrap .i64 (c+(1:Int))=d/\(Ca b))) ((-1:Int)=uL (kG (db b).1) a/\b=b):=by
  delta vB Ca
  rintro l c ⟨⟨hl,-⟩,-⟩ -
  simp only[maxLen] at hl
  refine⟨⟨0,⟨by omega,by omega,by simp⟩,(by repeat' first|exact trivial|refine⟨trivial,?_⟩|refine⟨(by with_reducible rfl),?_⟩|refine⟨ai (by omega) (by omega),?_⟩|refine⟨rfl,?_⟩)⟩,?_⟩
  rintro j ⟨j0,j1,hj⟩
  refine ae (fun hk=>?_) (fun hk=>?_)
  ·have hk:=of_decide_eq_true hk
   refine⟨j0,hk,ae (fun hm=>?_) (fun hm=>?_)⟩
   ·exact⟨yV j0 hk hj hm,rfl⟩
   ·exact⟨j+1,⟨by omega,by omega,rz j0 hk hj hm⟩,by omega,(by repeat' first|exact trivial|refine⟨trivial,?_⟩|refine⟨(by with_reducible rfl),?_⟩|refine⟨ai (by omega) (by omega),?_⟩|refine⟨rfl,?_⟩)⟩
  ·exact⟨DL (of_decide_eq_false hk) hj,rfl⟩
theorem ae9:ax Tryz.prog GL 221 LC.spec:=Ct.okH _ Tryz.func221 (by kernel_rfl) (ah aD ZZ) av av3 (aC (by kernel_rfl) av6)
def J8:Ct:=⟨[.val (.sl cG),.fn 178 1,.box 129 d8],[.val .bool],fun _=>[],fun d=>((d.1.any (kG (db d.2.2.1).1),()),(d.2.2.1,()))⟩
def Vc:ar J8.ps->az:=(fun _=>{})
theorem XO :
 ∀(a:List aF)(b:aM),(vB a)/\True/\CT.wf d8 b/\True->True->decide (0<=uL (kG b.2.2.2.1) a)=List.any a (kG (db b).1)/\b=b:=by
  delta vB
  rintro l c - -
  exact⟨ai6,rfl⟩
theorem Uq:ax Tryz.prog GL 177 J8.spec:=Ct.okH _ Tryz.func177 (by kernel_rfl) (ah aD ae9) av Vc (aC (by kernel_rfl) XO)
theorem av5{l:List Rt}{p:cO}:l.any (kG p)=l8 l p:=by rw[ad2,Bool.eq_iff_iff];simp[kG]
theorem av2{ns:List ac}{j:Nat}(h:j<ns.length):((ns.take j).map aQ++List.replicate (ns.length-j) []).set j (aQ (ns.getD j default))=(ns.take (j+1)).map aQ++List.replicate (ns.length-(j+1)) []:=by
 have e1:((ns.take j).map aQ).length=j:=by simp;omega
 rw[show ns.length-j=(ns.length-(j+1))+1 by omega,List.replicate_succ,List.set_append_right _ _ (by omega),e1,Nat.sub_self,List.set_cons_zero,List.take_succ_eq_append_getElem h,List.map_append,List.getD_eq_getElem?_getD,List.getElem?_eq_getElem h]
 simp
theorem RX(n:bw){j:Int}(j0:0<=j):iw n j.toNat=mq n j.toNat (n.2.2.getD j.toNat default) (n.2.2.getD (j-1).toNat default) ((cY n j.toNat).getD (bu (n.2.2.getD j.toNat default)).toNat default):=by
 unfold iw;rw[show (j-1).toNat=j.toNat-1 by omega]
def Jt:Ct:=⟨[.agg ig],[.val cI],fun d=>[lq d.1=0,d.1.1.length<=64,∀ c∈d.1.2.2,((db c).2.1.length:Int)<=1099511627776],fun d=>((mO d.1,()),())⟩
def Sf:ar Jt.ps->az:=(fun d=>{loops:=(fun n=>match n with|3=>some (fun S=>{ι:=Int×(List (List Rt)),qn:=⟨fun k_=>∀(j:Int)(t:(List (List Rt))),k_ (j,t),fun k_ h_ i=>h_ i.1 i.2,fun k_=>∃ (j:Int) (t:(List (List Rt))),k_ (j,t),fun k_ ⟨j,t,h_⟩=>⟨_,h_⟩⟩,μ:=fun i=>(d.1.1.length-i.1).toNat,inv:=fun i=>0<=i.1/\i.1<=d.1.1.length/\i.2=(d.1.1.take i.1.toNat).map aQ++List.replicate (d.1.1.length-i.1.toNat) [],keep:=[1,15,16],slots:=fun i=>[(3,.own 524288 1),(17,.int .i64 i.1)],keepN:=[32],names:=fun i=>[(524288,.live (.row 103 (.sl cG) i.2))]})|8=>some (fun S=>{ι:=Int×(List (List Rt)),qn:=⟨fun k_=>∀(j:Int)(t:(List (List Rt))),k_ (j,t),fun k_ h_ i=>h_ i.1 i.2,fun k_=>∃ (j:Int) (t:(List (List Rt))),k_ (j,t),fun k_ ⟨j,t,h_⟩=>⟨_,h_⟩⟩,μ:=fun i=>(d.1.2.2.length-i.1).toNat,inv:=fun i=>0<=i.1/\i.1<=d.1.2.2.length/\first (iw d.1) i.1.toNat=0/\i.2=cY d.1 i.1.toNat,keep:=[1,29,30],slots:=fun i=>[(3,.own 524288 1),(31,.int .i64 i.1)],keepN:=[32],names:=fun i=>[(524288,.live (.row 103 (.sl cG) i.2))]})|_=>none)})
def jK(c:List aM)(f:Int) :=
 c.getD f.toNat default
def oM(c:List aM)(f:Int) :=
 Int.toNat (jK c f).2.1
def CB(a:List ac)(b:List aE)(c:List aM)(f:Int)(g:List (List Rt)) :=
 bM (g.getD (oM c f) default)/\okL (g.getD (oM c f) default)/\((List.length (jK c f).2.2.2.2.1):Int)<=1099511627776/\0<=(jK c f).2.1/\(jK c f).2.1<(eO a)/\List.length (aA (a.getD (oM c f) default))<=(100000:Nat)/\ad (! decide (dF (fK (g.getD (oM c f) default) (jK c f)) (bv (a.getD (oM c f) default))=0)) (dF (fK (g.getD (oM c f) default) (jK c f)) (bv (a.getD (oM c f) default))=mO (a,b,c)) (0<=(jK c f).2.1/\(jK c f).2.1<(g.length:Int)/\ ∃(j:Int) (k:List (List Rt)),(0<=j/\j<=(c.length:Int)/\first (iw (a,b,c)) j.toNat=0/\k=cY (a,b,c) j.toNat)/\Int.toNat ((c.length:Int) -j)<Int.toNat ((c.length:Int) -f)/\c=c/\(c.length:Int)=(c.length:Int)/\IntKind.wrap .i64 (f+(1:Int))=j/\a=a/\b=b/\c=c/\List.set g (oM c f) (fK (g.getD (oM c f) default) (jK c f))=k/\True)
def yb(c:List aM) :=
 ∀(d:aM),d∈c->((List.length (db d).2.1):Int)<=1099511627776
theorem ZK :
 ∀(a:List ac)(b:List aE)(c:List aM),(vD a b c)/\True->(lq (a,b,c)=0/\a.length<=(64:Nat)/\ (yb c))->0<=(eO a)/\(eO a)<=(eO a)/\(↑(24:Nat):Int)*(eO a)<=281474976710656/\(∃(d:Int) (e:List (List Rt)),(0<=d/\d<=(eO a)/\e=List.map aQ (List.take d.toNat a)++List.replicate (a.length -d.toNat) ([]:List aF))/\a=a/\(eO a)=(eO a)/\(0:Int)=d/\a=a/\b=b/\c=c/\List.replicate (Int.toNat (eO a)) ([]:List aF)=e/\True)/\ ∀(d:Int)(e:List (List Rt)),0<=d/\d<=(eO a)/\e=List.map aQ (List.take d.toNat a)++List.replicate (a.length -d.toNat) ([]:List aF)->ad (decide (d<(eO a))) (0<=d/\d<(eO a)/\0<=d/\d<(e.length:Int)/\ ∃(f:Int) (g:List (List Rt)),(0<=f/\f<=(eO a)/\g=List.map aQ (List.take f.toNat a)++List.replicate (a.length -f.toNat) ([]:List aF))/\Int.toNat ((eO a) -f)<Int.toNat ((eO a) -d)/\a=a/\(eO a)=(eO a)/\IntKind.wrap .i64
 (d+(1:Int))=f/\a=a/\b=b/\c=c/\List.set e d.toNat (a.getD d.toNat default).2.2.2.2.1=g/\True) ((∃(f:Int) (g:List (List Rt)),(0<=f/\f<=(c.length:Int)/\first (iw (a,b,c)) f.toNat=0/\g=cY (a,b,c) f.toNat)/\c=c/\(c.length:Int)=(c.length:Int)/\(0:Int)=f/\a=a/\b=b/\c=c/\e=g/\True)/\ ∀(f:Int)(g:List (List Rt)),0<=f/\f<=(c.length:Int)/\first (iw (a,b,c)) f.toNat=0/\g=cY (a,b,c) f.toNat->ad (decide (f<(c.length:Int))) (0<=f/\f<(c.length:Int)/\ad (! decide (0<=(jK c f).1/\(jK c f).1<=1125899906842624)) ((1:Int)=mO (a,b,c)) (∀(h:Bool),h=decide (0<f)->(h->(h->h)/\True)/\(h->(h->h)/\True)/\(h->(h->h)/\True)/\(h->(h->h)/\(h->h)/\0<=IntKind.wrap .i64 (f -(1:Int))/\IntKind.wrap .i64 (f -(1:Int))<(c.length:Int)/\True)/\(h->(h->h)/\True)/\(h->(h->h)/\True)/\(h->(h->h)/\(h->h)/\True)/\(h->h)/\ad (bif h then decide ((jK c f).1<(c.getD (Int.toNat (IntKind.wrap .i64 (f -(1:Int))))
 default).1) else false) ((6:Int)=mO (a,b,c)) (ad (! decide (0<=(jK c f).2.1/\(jK c f).2.1<=IntKind.wrap .i64 ((eO a) -(1:Int)))) ((8:Int)=mO (a,b,c)) (0<=(jK c f).2.1/\(jK c f).2.1<(g.length:Int)/\ ∀(i:Bool),i=(jK c f).2.2.1->ad i ((i->i)/\(i->i)/\(i->i)/\ad (bif i then ! List.any (g.getD (oM c f) default) (kG (jK c f).2.2.2.1) else false) ((8:Int)=mO (a,b,c)) (CB a b c f g)) (i=false/\(i->false=true)/\ad (bif i then false else false) ((8:Int)=mO (a,b,c)) (CB a b c f g)))))) ((0:Int)=mO (a,b,c))):=by
  delta CB jK vD eO oM yb
  rintro ns ls hs ⟨⟨⟨hnl,-⟩,⟨hl,-⟩,⟨hhl,-⟩⟩,-⟩⟨hb,hn,hx⟩
  simp only[maxLen] at hl hnl hhl
  refine⟨by omega,by omega,by omega,⟨0,_,⟨by omega,by omega,rfl⟩,by (repeat first|refine⟨trivial,?_⟩|refine⟨(by with_reducible rfl),?_⟩|refine⟨ai (by omega) (by omega),?_⟩);simp⟩,?_⟩
  rintro j t ⟨j0,j1,rfl⟩
  have tl:((ns.take j.toNat).map aQ++List.replicate (ns.length-j.toNat) ([]:List Rt)).length=ns.length:=by simp;omega
  refine ae (fun hj=>?_) (fun hj=>?_)
  ·have hj:=of_decide_eq_true hj
   refine⟨j0,hj,j0,by rw[tl];exact hj,j+1,_,⟨by omega,by omega,rfl⟩,by omega,?_⟩
   (repeat first|refine⟨trivial,?_⟩|refine⟨(by with_reducible rfl),?_⟩|refine⟨ai (by omega) (by omega),?_⟩)
   refine⟨?_,trivial⟩
   rw[show (j+1).toNat=j.toNat+1 by omega,← av2 (by omega)];rfl
  have hj:=of_decide_eq_false hj
  have e0:(ns.take j.toNat).map aQ++List.replicate (ns.length-j.toNat) ([]:List Rt)=cY (ns,ls,hs) 0:=by
   rw[List.take_of_length_le (by omega),show ns.length-j.toNat=0 by omega];simp[cY]
  rw[e0]
  clear e0 tl hj j0 j1
  refine⟨⟨0,_,⟨by omega,by omega,rfl,rfl⟩,(by repeat' first|exact trivial|refine⟨trivial,?_⟩|refine⟨(by with_reducible rfl),?_⟩|refine⟨ai (by omega) (by omega),?_⟩|refine⟨rfl,?_⟩)⟩,?_⟩
  rintro j t ⟨j0,j1,hf,rfl⟩
  refine ae (fun hj=>?_) (fun hj=>?_)
  rotate_left
  ·have hj:=of_decide_eq_false hj
   rw[show j.toNat=hs.length by omega] at hf
   exact hf.symm
  have hj:=of_decide_eq_true hj
  have hm:=bL j0 hj
  have tb:=NS hb hf
  have tl:=oF (ns,ls,hs) j.toNat
  have hit:=fun h=>E4 (f:=iw (ns,ls,hs)) (n:=hs.length) j0 hj hf h
  have eq:=RX (ns,ls,hs) j0
  have ej:((j.toNat:Nat):Int)=j:=by omega
  rw[ai (n:=j-1) (by omega) (by omega),ai (n:=(ns.length:Int)-1) (by omega) (by omega)]
  refine⟨j0,hj,ae (fun h=>?_) (fun h=>?_)⟩
  ·have h:=gC h
   have e:iw (ns,ls,hs) j.toNat=1:=by
    rw[eq];unfold mq;rw[if_pos];dsimp only[fY];omega
   have q:=hit (by rw[e];decide)
   rw[e] at q;exact q
  have h1:=hT h
  have c1:¬ (fY (hs.getD j.toNat default)<0∨1125899906842624<fY (hs.getD j.toNat default)):=by unfold fY;omega
  clear h
  intro b hb1
  (repeat refine⟨(by first|(simp;done)|exact fun h=>⟨fun _=>h,fun _=>h,by rw[hb1] at h;have:=of_decide_eq_true h;omega,by rw[hb1] at h;have:=of_decide_eq_true h;omega,trivial⟩),?_⟩)
  rw[hb1,FW]
  refine ae (fun h=>?_) (fun h=>?_)
  ·have h:=of_decide_eq_true h
   have e:iw (ns,ls,hs) j.toNat=6:=by
    rw[eq];unfold mq;rw[if_neg c1,if_pos];exact⟨by omega,h.2⟩
   have q:=hit (by rw[e];decide)
   rw[e] at q;exact q
  have c2:¬ (0<j.toNat/\fY (hs.getD j.toNat default)<fY (hs.getD (j-1).toNat default)):=fun q=>of_decide_eq_false h ⟨by omega,q.2⟩
  clear h
  refine ae (fun h=>?_) (fun h=>?_)
  ·have h:=gC h
   have e:iw (ns,ls,hs) j.toNat=8:=by
    rw[eq];unfold mq;rw[if_neg c1,if_neg c2,if_pos]
    dsimp only[bu];omega
   have q:=hit (by rw[e];decide)
   rw[e] at q;exact q
  have h2:=hT h
  have h2:0<=bu (hs.getD j.toNat default)/\bu (hs.getD j.toNat default)<=(ns.length:Int)-1:=h2
  have c3:¬ (bu (hs.getD j.toNat default)<0∨(ns.length:Int)<=bu (hs.getD j.toNat default)):=by omega
  clear h
  refine⟨h2.1,by rw[tl];show bu _<(ns.length:Int);omega,?_⟩
  intro b2 hb2
  have hb2:b2=qQ (hs.getD j.toNat default):=hb2
  refine ae (fun q=>?_) (fun q=>?_)
  ·subst q
   (repeat refine⟨by simp,?_⟩)
   simp only[cond_true]
   rw[av5]
   refine ae (fun h=>?_) (fun h=>?_)
   ·have e:iw (ns,ls,hs) j.toNat=8:=by
     rw[eq];unfold mq;rw[if_neg c1,if_neg c2,if_neg c3,if_pos]
     exact⟨hb2.symm,(Bool.not_eq_true' _).mp h⟩
    have q:=hit (by rw[e];decide)
    rw[e] at q;exact q
   have c4:¬ (qQ (hs.getD j.toNat default)=true/\l8 ((cY (ns,ls,hs) j.toNat).getD (bu (hs.getD j.toNat default)).toNat default) (db (hs.getD j.toNat default)).1=false):=fun z=>by
    have z2:=z.2
    have h:(!l8 ((cY (ns,ls,hs) j.toNat).getD (bu (hs.getD j.toNat default)).toNat default) (db (hs.getD j.toNat default)).1)=false:=h
    rw[z2] at h;cases h
   have wl:(bu (hs.getD j.toNat default)).toNat<ns.length:=by omega
   have tr:=tb.r (bu (hs.getD j.toNat default)).toNat wl
   refine⟨tr.1,tr.2,hx _ hm,by omega,by omega,by have:=(yU (n:=(ns,ls,hs)) hb wl).len;exact Nat.le_trans this (by decide),ae (fun h=>?_) (fun h=>?_)⟩
   ·have h:=gC h
    have e:iw (ns,ls,hs) j.toNat=dF (fK ((cY (ns,ls,hs) j.toNat).getD (bu (hs.getD j.toNat default)).toNat default) (hs.getD j.toNat default)) (bv (ns.getD (bu (hs.getD j.toNat default)).toNat default)):=by
     rw[eq];unfold mq;rw[if_neg c1,if_neg c2,if_neg c3,if_neg c4]
    have k:=hit (by rw[e];exact h)
    rw[e] at k;exact k
   ·have h:=hT h
    have e:iw (ns,ls,hs) j.toNat=0:=by
     rw[eq];unfold mq;rw[if_neg c1,if_neg c2,if_neg c3,if_neg c4];exact h
    refine⟨by omega,by rw[oF];show bu _<(ns.length:Int);omega,j+1,cY (ns,ls,hs) (j+1).toNat,⟨by omega,by omega,AU j0 hf e,rfl⟩,by omega,?_⟩
    (repeat first|refine⟨trivial,?_⟩|refine⟨(by with_reducible rfl),?_⟩|refine⟨ai (by omega) (by omega),?_⟩)
    refine⟨?_,trivial⟩
    rw[show (j+1).toNat=j.toNat+1 by omega];rfl
  ·(repeat refine⟨by simp[q],?_⟩)
   refine ae (fun h=>by rw[q] at h;cases h) (fun h=>?_)
   have c4:¬ (qQ (hs.getD j.toNat default)=true/\l8 ((cY (ns,ls,hs) j.toNat).getD (bu (hs.getD j.toNat default)).toNat default) (db (hs.getD j.toNat default)).1=false):=fun z=>by
    rw[← hb2,q] at z;cases z.1
   have wl:(bu (hs.getD j.toNat default)).toNat<ns.length:=by omega
   have tr:=tb.r (bu (hs.getD j.toNat default)).toNat wl
   refine⟨tr.1,tr.2,hx _ hm,by omega,by omega,by have:=(yU (n:=(ns,ls,hs)) hb wl).len;exact Nat.le_trans this (by decide),ae (fun h=>?_) (fun h=>?_)⟩
   ·have h:=gC h
    have e:iw (ns,ls,hs) j.toNat=dF (fK ((cY (ns,ls,hs) j.toNat).getD (bu (hs.getD j.toNat default)).toNat default) (hs.getD j.toNat default)) (bv (ns.getD (bu (hs.getD j.toNat default)).toNat default)):=by
     rw[eq];unfold mq;rw[if_neg c1,if_neg c2,if_neg c3,if_neg c4]
    have k:=hit (by rw[e];exact h)
    rw[e] at k;exact k
   ·have h:=hT h
    have e:iw (ns,ls,hs) j.toNat=0:=by
     rw[eq];unfold mq;rw[if_neg c1,if_neg c2,if_neg c3,if_neg c4];exact h
    refine⟨by omega,by rw[oF];show bu _<(ns.length:Int);omega,j+1,cY (ns,ls,hs) (j+1).toNat,⟨by omega,by omega,AU j0 hf e,rfl⟩,by omega,?_⟩
    (repeat first|refine⟨trivial,?_⟩|refine⟨(by with_reducible rfl),?_⟩|refine⟨ai (by omega) (by omega),?_⟩)
    refine⟨?_,trivial⟩
    rw[show (j+1).toNat=j.toNat+1 by omega];rfl
theorem Xn:ax Tryz.prog GL 120 Jt.spec:=Ct.okH _ Tryz.func120 (by kernel_rfl) (ah (ah (ah (ah (ah aD BZ) Uq) XY) KJ) OO) av Sf (aC (by kernel_rfl) ZK)
def KR:Ct:=⟨[.agg ig],[.val cI],fun d=>[∀ c∈d.1.2.2,((db c).2.1.length:Int)<=1099511627776],fun d=>((d9 d.1,()),())⟩
def Rg:ar KR.ps->az:=(fun d=>{unr:=fun n=>match n with|2=>8|_=>0})
theorem PJ :
 ∀(a:List ac)(b:List aE)(c:List aM),(vD a b c)/\True->(yb c)->ad (! decide (nD (a,b,c)=0)) (nD (a,b,c)=d9 (a,b,c)) (ad (! decide (lx (a,b,c)=0)) (lx (a,b,c)=d9 (a,b,c)) (ad (! decide (lq (a,b,c)=0)) (lq (a,b,c)=d9 (a,b,c)) (wW (a,b,c)/\ad (! decide (nt (a,b,c)=0)) (nt (a,b,c)=d9 (a,b,c)) ((∀(d:ac),d∈a->List.length (aA d)<=(100000:Nat))/\ad (! decide (qu (a,b,c)=0)) (qu (a,b,c)=d9 (a,b,c)) (wW (a,b,c)/\ad (! decide (oe (a,b,c)=0)) (oe (a,b,c)=d9 (a,b,c)) (lq (a,b,c)=0/\a.length<=(64:Nat)/\(yb c)/\ad (! decide (mO (a,b,c)=0)) (mO (a,b,c)=d9 (a,b,c)) ((0:Int)=d9 (a,b,c)))))))):=by
  delta vD yb
  rintro ns ls hs-hx
  unfold d9
  refine ae (fun h=>wE (gC h)) (fun h=>?_)
  have h1:=hT h
  rw[ww h1]
  refine ae (fun h=>wE (gC h)) (fun h=>?_)
  have h2:=hT h
  rw[ww h2]
  refine ae (fun h=>wE (gC h)) (fun h=>?_)
  have h3:=hT h
  rw[ww h3]
  refine⟨NK h2,ae (fun h=>wE (gC h)) (fun h=>?_)⟩
  have h4:=hT h
  rw[ww h4]
  refine⟨fun x hx=>Nat.le_trans (T3 h3 x hx).len (by decide),ae (fun h=>wE (gC h)) (fun h=>?_)⟩
  have h5:=hT h
  rw[ww h5]
  refine⟨NK h2,ae (fun h=>wE (gC h)) (fun h=>?_)⟩
  have h6:=hT h
  rw[ww h6]
  refine⟨h3,?_,hx,ae (fun h=>rfl) (fun h=>(hT h).symm)⟩
  unfold nD at h1
  split at h1
  ·cases h1
  ·dsimp only at *;omega
theorem XD:ax Tryz.prog GL 56 KR.spec:=Ct.okH _ Tryz.func56 (by kernel_rfl) (ah (ah (ah (ah (ah (ah (ah aD WL) Rk) WX) Sw) RR) Zb) Xn) av Rg (aC (by kernel_rfl) PJ)
end Go.RS

/- SimW: the program's simulator: copies, flights, changes, ends, steps. -/
namespace Go.RS
open Go.SX Go.Proofs
set_option maxRecDepth 100000
set_option linter.unusedVariables false
abbrev u3:OT := .pair ig (.pair cI (.pair cI (.pair cI (.pair (.row 134 mX) (.pair (.row 3 cI) (.pair (.row 116 kK) (.pair (.row 92 tX) (.row 61 qG))))))))
def Ps:Ct:=⟨[.val (.sl mX)],[.own 134 mX],fun d=>[(d.1.length:Int)<=1000000],fun d=>((d.1,()),())⟩
def XE:ar Ps.ps->az:=(fun _=>{})
theorem aa0 :
 ∀(a:List (List aF×Int×List Int×(Int×Int)×Int)),(a.length<=maxLen/\ ∀(b:List aF×Int×List Int×(Int×Int)×Int),b∈a->(b.1.length<=maxLen/\ ∀(c:aF),c∈b.1->((0<=c.1.1/\c.1.1<=4294967295)/\ab c.1.2)/\(c.2.1.length<=maxLen/\ ∀(d:Int),d∈c.2.1->ab d)/\ab c.2.2)/\ab b.2.1/\(b.2.2.1.length<=maxLen/\ ∀(c:Int),c∈b.2.2.1->ab c)/\(ab b.2.2.2.1.1/\ab b.2.2.2.1.2)/\ab b.2.2.2.2)/\True->(a.length:Int)<=1000000-> ∀(b:Bool),(b=true->a.length=(0:Nat))->ad b (([]:List (List aF×Int×List Int×(Int×Int)×Int))=a) (((0:Nat)+a.length)*(80:Nat)<=(140737488355328:Nat)/\a=a):=by
  rintro x ⟨⟨hl,-⟩,-⟩ h b hb
  refine ae (fun h1=>?_) (fun h1=>⟨by simp;omega,by simp⟩)
  have:=hb h1
  exact (List.eq_nil_of_length_eq_zero this).symm
theorem WK:ax Tryz.prog GL 93 Ps.spec:=Ct.okH _ Tryz.func93 (by kernel_rfl) aD av XE (aC (by kernel_rfl) aa0)
def HV:Ct:=⟨[.val (.sl kK)],[.own 116 kK],fun d=>[(d.1.length:Int)<=1000000],fun d=>((d.1,()),())⟩
def V4:ar HV.ps->az:=(fun _=>{})
theorem Ro :
 ∀(a:List (Int×Int×Int×Int×Int×List Int)),(a.length<=maxLen/\ ∀(b:Int×Int×Int×Int×Int×List Int),b∈a->ab b.1/\ab b.2.1/\ab b.2.2.1/\ab b.2.2.2.1/\ab b.2.2.2.2.1/\b.2.2.2.2.2.length<=maxLen/\ ∀(c:Int),c∈b.2.2.2.2.2->0<=c/\c<=255)/\True->(a.length:Int)<=1000000-> ∀(b:Bool),(b=true->a.length=(0:Nat))->ad b (([]:List (Int×Int×Int×Int×Int×List Int))=a) (((0:Nat)+a.length)*(64:Nat)<=(140737488355328:Nat)/\a=a):=by
  rintro x ⟨⟨hl,-⟩,-⟩ h b hb
  refine ae (fun h1=>?_) (fun h1=>⟨by simp;omega,by simp⟩)
  have:=hb h1
  exact (List.eq_nil_of_length_eq_zero this).symm
theorem Rw:ax Tryz.prog GL 96 HV.spec:=Ct.okH _ Tryz.func96 (by kernel_rfl) aD av V4 (aC (by kernel_rfl) Ro)
def HT:Ct:=⟨[.val (.sl tX)],[.own 92 tX],fun d=>[(d.1.length:Int)<=1000000000000],fun d=>((d.1,()),())⟩
def VC:ar HT.ps->az:=(fun _=>{})
theorem VH :
 ∀(a:List (Int×Int×List Int)),(a.length<=maxLen/\ ∀(b:Int×Int×List Int),b∈a->ab b.1/\ab b.2.1/\b.2.2.length<=maxLen/\ ∀(c:Int),c∈b.2.2->0<=c/\c<=255)/\True->(a.length:Int)<=1000000000000-> ∀(b:Bool),(b=true->a.length=(0:Nat))->ad b (([]:List (Int×Int×List Int))=a) (((0:Nat)+a.length)*(40:Nat)<=(140737488355328:Nat)/\a=a):=by
  rintro x ⟨⟨hl,-⟩,-⟩ h b hb
  refine ae (fun h1=>?_) (fun h1=>⟨by simp;omega,by simp⟩)
  have:=hb h1
  exact (List.eq_nil_of_length_eq_zero this).symm
theorem RF:ax Tryz.prog GL 97 HT.spec:=Ct.okH _ Tryz.func97 (by kernel_rfl) aD av VC (aC (by kernel_rfl) VH)
def MR:Ct:=⟨[.val (.sl qG)],[.own 61 qG],fun d=>[(d.1.length:Int)<=1000000000000],fun d=>((d.1,()),())⟩
def ab1:ar MR.ps->az:=(fun _=>{})
theorem Wj :
 ∀(a:List (Int×Int×Int×Int×Int)),(a.length<=maxLen/\ ∀(b:Int×Int×Int×Int×Int),b∈a->ab b.1/\ab b.2.1/\ab b.2.2.1/\ab b.2.2.2.1/\ab b.2.2.2.2)/\True->(a.length:Int)<=1000000000000-> ∀(b:Bool),(b=true->a.length=(0:Nat))->ad b (([]:List (Int×Int×Int×Int×Int))=a) (((0:Nat)+a.length)*(40:Nat)<=(140737488355328:Nat)/\a=a):=by
  rintro x ⟨⟨hl,-⟩,-⟩ h b hb
  refine ae (fun h1=>?_) (fun h1=>⟨by simp;omega,by simp⟩)
  have:=hb h1
  exact (List.eq_nil_of_length_eq_zero this).symm
theorem Uz:ax Tryz.prog GL 98 MR.spec:=Ct.okH _ Tryz.func98 (by kernel_rfl) aD av ab1 (aC (by kernel_rfl) Wj)
def MF:Ct:=⟨[.val (.sl bH)],[.own 107 bH],fun d=>[(d.1.length:Int)<=1000000],fun d=>((d.1,()),())⟩
def Qt:ar MF.ps->az:=(fun _=>{})
theorem ad3 :
 ∀(a:List ac),(a.length<=maxLen/\ ∀(b:ac),b∈a->CT.wf bH b)/\True->(a.length:Int)<=1000000-> ∀(b:Bool),(b=true->a.length=(0:Nat))->ad b (([]:List ac)=a) (((0:Nat)+a.length)*(152:Nat)<=(140737488355328:Nat)/\a=a):=by
  rintro x ⟨⟨hl,-⟩,-⟩ h b hb
  refine ae (fun h1=>?_) (fun h1=>⟨by simp;omega,by simp⟩)
  have:=hb h1
  exact (List.eq_nil_of_length_eq_zero this).symm
theorem Z0:ax Tryz.prog GL 121 MF.spec:=Ct.okH _ Tryz.func121 (by kernel_rfl) aD av Qt (aC (by kernel_rfl) ad3)
def N1:Ct:=⟨[.val (.sl fB)],[.own 99 fB],fun d=>[(d.1.length:Int)<=1000000],fun d=>((d.1,()),())⟩
def R8:ar N1.ps->az:=(fun _=>{})
theorem Sv :
 ∀(a:List aE),(a.length<=maxLen/\ ∀(b:aE),b∈a->CT.wf fB b)/\True->(a.length:Int)<=1000000-> ∀(b:Bool),(b=true->a.length=(0:Nat))->ad b (([]:List aE)=a) (((0:Nat)+a.length)*(48:Nat)<=(140737488355328:Nat)/\a=a):=by
  rintro x ⟨⟨hl,-⟩,-⟩ h b hb
  refine ae (fun h1=>?_) (fun h1=>⟨by simp;omega,by simp⟩)
  have:=hb h1
  exact (List.eq_nil_of_length_eq_zero this).symm
theorem VJ:ax Tryz.prog GL 122 N1.spec:=Ct.okH _ Tryz.func122 (by kernel_rfl) aD av R8 (aC (by kernel_rfl) Sv)
def MK:Ct:=⟨[.val (.sl d8)],[.own 129 d8],fun d=>[(d.1.length:Int)<=1000000],fun d=>((d.1,()),())⟩
def U9:ar MK.ps->az:=(fun _=>{})
theorem Tq :
 ∀(a:List aM),(a.length<=maxLen/\ ∀(b:aM),b∈a->CT.wf d8 b)/\True->(a.length:Int)<=1000000-> ∀(b:Bool),(b=true->a.length=(0:Nat))->ad b (([]:List aM)=a) (((0:Nat)+a.length)*(72:Nat)<=(140737488355328:Nat)/\a=a):=by
  rintro x ⟨⟨hl,-⟩,-⟩ h b hb
  refine ae (fun h1=>?_) (fun h1=>⟨by simp;omega,by simp⟩)
  have:=hb h1
  exact (List.eq_nil_of_length_eq_zero this).symm
theorem SQ:ax Tryz.prog GL 123 MK.spec:=Ct.okH _ Tryz.func123 (by kernel_rfl) aD av U9 (aC (by kernel_rfl) Tq)
def LZ:Ct:=⟨[.val (.sl pz)],[.own 101 pz],fun d=>[(d.1.length:Int)<=1000000],fun d=>((d.1,()),())⟩
def Xo:ar LZ.ps->az:=(fun _=>{})
theorem VS :
 ∀(a:List (Int×Int)),(a.length<=maxLen/\ ∀(b:Int×Int),b∈a->(0<=b.1/\b.1<=4294967295)/\ab b.2)/\True->(a.length:Int)<=1000000-> ∀(b:Bool),(b=true->a.length=(0:Nat))->ad b (([]:List (Int×Int))=a) (((0:Nat)+a.length)*(16:Nat)<=(140737488355328:Nat)/\a=a):=by
  rintro x ⟨⟨hl,-⟩,-⟩ h b hb
  refine ae (fun h1=>?_) (fun h1=>⟨by simp;omega,by simp⟩)
  have:=hb h1
  exact (List.eq_nil_of_length_eq_zero this).symm
theorem Ws:ax Tryz.prog GL 124 LZ.spec:=Ct.okH _ Tryz.func124 (by kernel_rfl) aD av Xo (aC (by kernel_rfl) VS)
def Mp:Ct:=⟨[.val (.sl cG)],[.own 97 cG],fun d=>[okL d.1],fun d=>((d.1,()),())⟩
def ao9:ar Mp.ps->az:=(fun d=>{loops:=(fun n=>match n with|3=>some (fun S=>{ι:=Int,μ:=fun i=>(d.1.length-i).toNat,inv:=fun i=>0<=i/\i<=d.1.length,keep:=[3,8,9],slots:=fun i=>[(10,.int .i64 i)],keepN:=[128],names:=fun i=>[]})|_=>none)})
theorem XM :
 ∀(a:List aF),(a.length<=maxLen/\ ∀(b:aF),b∈a->((0<=b.1.1/\b.1.1<=4294967295)/\ab b.1.2)/\(b.2.1.length<=maxLen/\ ∀(c:Int),c∈b.2.1->ab c)/\ab b.2.2)/\True->((a.length:Int)<=134217728/\ ∀(b:Rt),b∈a->(b.2.1.length:Int)<=1099511627776)->(a.length:Int)<=134217728/\(∃(b:Int),(0<=b/\b<=(a.length:Int))/\(a.length:Int)=(a.length:Int)/\(0:Int)=b/\a=a/\True)/\ ∀(b:Int),0<=b/\b<=(a.length:Int)->ad (decide (b<(a.length:Int))) (0<=b/\b<(a.length:Int)/\((List.length (a.getD b.toNat default).2.1):Int)<=1099511627776/\0<=b/\b<(a.length:Int)/\ ∃(c:Int),(0<=c/\c<=(a.length:Int))/\Int.toNat ((a.length:Int) -c)<Int.toNat ((a.length:Int) -b)/\(a.length:Int)=(a.length:Int)/\IntKind.wrap .i64 (b+(1:Int))=c/\List.set a b.toNat (a.getD b.toNat default)=a/\True) (a=a):=by
  rintro l ⟨⟨hl,-⟩,-⟩⟨h1,h2⟩
  simp only[maxLen] at hl
  refine⟨h1,⟨0,⟨by omega,by omega⟩,(by repeat' first|exact trivial|refine⟨trivial,?_⟩|refine⟨(by with_reducible rfl),?_⟩|refine⟨ai (by omega) (by omega),?_⟩|refine⟨rfl,?_⟩)⟩,?_⟩
  rintro j ⟨j0,j1⟩
  refine ae (fun hj=>?_) (fun hj=>?_)
  ·have hj:=of_decide_eq_true hj
   refine⟨j0,hj,h2 _ (bL j0 hj),j0,hj,j+1,⟨by omega,by omega⟩,by omega,?_⟩
   (repeat first|refine⟨trivial,?_⟩|refine⟨(by with_reducible rfl),?_⟩|refine⟨ai (by omega) (by omega),?_⟩)
   exact⟨qh j0 hj,trivial⟩
  ·rfl
theorem Ol:ax Tryz.prog GL 95 Mp.spec:=Ct.okH _ Tryz.func95 (by kernel_rfl) (ah (ah aD JY) wG) av ao9 (aC (by kernel_rfl) XM)
def Pj:Ct:=⟨[.agg ig],[.agg ig],fun d=>[mP d.1],fun d=>((d.1,()),())⟩
def Yx:ar Pj.ps->az:=(fun d=>{loops:=(fun n=>match n with|3=>some (fun S=>{ι:=Int,μ:=fun i=>(d.1.1.length-i).toNat,inv:=fun i=>0<=i/\i<=d.1.1.length,keep:=[2,3,19,20],slots:=fun i=>[(21,.int .i64 i)],keepN:=[48,64,176,224,272],names:=fun i=>[]})|8=>some (fun S=>{ι:=Int,μ:=fun i=>(d.1.2.2.length-i).toNat,inv:=fun i=>0<=i/\i<=d.1.2.2.length,keep:=[2,3,44,45],slots:=fun i=>[(46,.int .i64 i)],keepN:=[48,64,176,224,272],names:=fun i=>[]})|_=>none)})
def vG(a:List ac)(d:Int) :=
 List.getD (List.set a d.toNat (a.getD d.toNat default)) d.toNat default
def ip(c:List aM) :=
 (c.length:Int)
theorem XF :
 ∀(a:List ac)(b:List aE)(c:List aM),((a.length<=maxLen/\ ∀(d:ac),d∈a->CT.wf bH d)/\(b.length<=maxLen/\ ∀(d:aE),d∈b->CT.wf fB d)/\c.length<=maxLen/\ ∀(d:aM),d∈c->CT.wf d8 d)/\True->((a.length:Int)<=1000000/\(b.length:Int)<=1000000/\(ip c)<=1000000/\(∀(d:ac),d∈a->((List.length (aA d)):Int)<=1000000/\okL (aQ d))/\ ∀(d:aM),d∈c->((List.length (db d).2.1):Int)<=1099511627776)->(a.length:Int)<=1000000/\(b.length:Int)<=1000000/\(ip c)<=1000000/\(∃(d:Int),(0<=d/\d<=(a.length:Int))/\(a.length:Int)=(a.length:Int)/\(0:Int)=d/\a=a/\b=b/\c=c/\True)/\ ∀(d:Int),0<=d/\d<=(a.length:Int)->ad (decide (d<(a.length:Int))) (0<=d/\d<(a.length:Int)/\((List.length (a.getD d.toNat default).1):Int)<=1000000/\okL (a.getD d.toNat default).2.2.2.2.1/\0<=d/\d<(a.length:Int)/\0<=d/\d<((List.length (List.set a d.toNat (a.getD d.toNat default))):Int)/\
 ∃(e:Int),(0<=e/\e<=(a.length:Int))/\Int.toNat ((a.length:Int) -e)<Int.toNat ((a.length:Int) -d)/\(a.length:Int)=(a.length:Int)/\IntKind.wrap .i64 (d+(1:Int))=e/\List.set (List.set a d.toNat (a.getD d.toNat default)) d.toNat ((vG a d).1,(vG a d).2.1,(vG a d).2.2.1,(vG a d).2.2.2.1,(a.getD d.toNat default).2.2.2.2.1,(vG a d).2.2.2.2.2)=a/\b=b/\c=c/\True) ((∃(e:Int),(0<=e/\e<=(ip c))/\(ip c)=(ip c)/\(0:Int)=e/\a=a/\b=b/\c=c/\True)/\ ∀(e:Int),0<=e/\e<=(ip c)->ad (decide (e<(ip c))) (0<=e/\e<(ip c)/\((List.length (c.getD e.toNat default).2.2.2.2.1):Int)<=1099511627776/\0<=e/\e<(ip c)/\ ∃(f:Int),(0<=f/\f<=(ip c))/\Int.toNat ((ip c) -f)<Int.toNat ((ip c) -e)/\(ip c)=(ip c)/\IntKind.wrap .i64 (e+(1:Int))=f/\a=a/\b=b/\List.set c e.toNat (c.getD e.toNat default)=c/\True) ((a,b,c)=(a,b,c))):=by
  delta vG ip
  rintro ns ls hs-⟨h1,h2,h3,h4,h5⟩
  refine⟨h1,h2,h3,⟨0,⟨by omega,by omega⟩,(by repeat' first|exact trivial|refine⟨trivial,?_⟩|refine⟨(by with_reducible rfl),?_⟩|refine⟨ai (by omega) (by omega),?_⟩|refine⟨rfl,?_⟩)⟩,?_⟩
  rintro j ⟨j0,j1⟩
  refine ae (fun hj=>?_) (fun hj=>?_)
  ·have hj:=of_decide_eq_true hj
   have hx:=h4 _ (bL j0 hj)
   have e:ns.set j.toNat (ns.getD j.toNat default)=ns:=qh j0 hj
   refine⟨j0,hj,hx.1,hx.2,j0,hj,j0,by rw[List.length_set];exact hj,j+1,⟨by omega,by omega⟩,by omega,?_⟩
   (repeat first|refine⟨trivial,?_⟩|refine⟨(by with_reducible rfl),?_⟩|refine⟨ai (by omega) (by omega),?_⟩)
   refine⟨?_,(by repeat' first|exact trivial|refine⟨trivial,?_⟩|refine⟨(by with_reducible rfl),?_⟩|refine⟨ai (by omega) (by omega),?_⟩|refine⟨rfl,?_⟩)⟩
   show (ns.set j.toNat (ns.getD j.toNat default)).set j.toNat _=ns
   rw[e]
   exact e
  refine⟨⟨0,⟨by omega,by omega⟩,(by repeat' first|exact trivial|refine⟨trivial,?_⟩|refine⟨(by with_reducible rfl),?_⟩|refine⟨ai (by omega) (by omega),?_⟩|refine⟨rfl,?_⟩)⟩,?_⟩
  rintro k ⟨k0,k1⟩
  refine ae (fun hk=>?_) (fun hk=>?_)
  ·have hk:=of_decide_eq_true hk
   refine⟨k0,hk,h5 _ (bL k0 hk),k0,hk,k+1,⟨by omega,by omega⟩,by omega,?_⟩
   (repeat first|refine⟨trivial,?_⟩|refine⟨(by with_reducible rfl),?_⟩|refine⟨ai (by omega) (by omega),?_⟩)
   exact⟨qh k0 hk,trivial⟩
  ·rfl
theorem Pv:ax Tryz.prog GL 57 Pj.spec:=Ct.okH _ Tryz.func57 (by kernel_rfl) (ah (ah (ah (ah (ah (ah aD Z0) VJ) SQ) Ws) Ol) wG) av Yx (aC (by kernel_rfl) XF)
def KT:Ct:=⟨[.agg mZ],[.agg u3],fun d=>[uY d.1],fun d=>((d.1,()),())⟩
def YW:ar KT.ps->az:=(fun d=>{loops:=(fun n=>match n with|4=>some (fun S=>{ι:=Int,μ:=fun i=>((bo d.1).length-i).toNat,inv:=fun i=>0<=i/\i<=(bo d.1).length,keep:=[1,2,18,19],slots:=fun i=>[(20,.int .i64 i)],keepN:=[32,48,256],names:=fun i=>[]})|11=>some (fun S=>{ι:=Int,μ:=fun i=>((am d.1).length-i).toNat,inv:=fun i=>0<=i/\i<=(am d.1).length,keep:=[1,2,51,52],slots:=fun i=>[(53,.int .i64 i)],keepN:=[32,48,256,720,784],names:=fun i=>[]})|17=>some (fun S=>{ι:=Int,μ:=fun i=>((bz d.1).length-i).toNat,inv:=fun i=>0<=i/\i<=(bz d.1).length,keep:=[1,2,72,73],slots:=fun i=>[(74,.int .i64 i)],keepN:=[32,48,256,720,784,1120],names:=fun i=>[]})|_=>none)})
theorem Rx :
 ∀(a:(List ac×List aE×List aM)×Int×Int×Int×List (List aF×Int×List Int×(Int×Int)×Int)×List Int×List (Int×Int×Int×Int×Int×List Int)×List (Int×Int×List Int)×List (Int×Int×Int×Int×Int)),CT.wf mZ a/\True->(mP (ao a)/\((List.length (bo a)):Int)<=1000000/\((List.length (dV a)):Int)<=1000000/\((List.length (am a)):Int)<=1000000/\((List.length (bz a)):Int)<=1000000000000/\((List.length (bf a)):Int)<=1000000000000/\(∀(b:bq),b∈bo a->((List.length (jc b)):Int)<=1000000/\okL (bh b))/\(∀(b:aH),b∈am a->((List.length (c9 b)):Int)<=1000000)/\ ∀(b:mY),b∈bz a->(b.2.2.length:Int)<=1000000)->mP a.1/\(a.2.2.2.2.1.length:Int)<=1000000/\(∃(b:Int),(0<=b/\b<=((List.length (bo
 a)):Int))/\(a.2.2.2.2.1.length:Int)=(a.2.2.2.2.1.length:Int)/\(0:Int)=b/\a.1.1=a.1.1/\a.1.2.1=a.1.2.1/\a.1.2.2=a.1.2.2/\a.2.1=a.2.1/\a.2.2.1=a.2.2.1/\a.2.2.2.1=a.2.2.2.1/\a.2.2.2.2.2.1=a.2.2.2.2.2.1/\a.2.2.2.2.2.2.1=a.2.2.2.2.2.2.1/\a.2.2.2.2.2.2.2.1=a.2.2.2.2.2.2.2.1/\a.2.2.2.2.2.2.2.2=a.2.2.2.2.2.2.2.2/\(0:Int)=0/\(0:Int)=0/\(0:Int)=0/\a.2.2.2.2.1=a.2.2.2.2.1/\True)/\ ∀(b:Int),0<=b/\b<=((List.length (bo a)):Int)->ad (decide (b<(a.2.2.2.2.1.length:Int))) (0<=b/\b<(a.2.2.2.2.1.length:Int)/\((List.length (List.getD a.2.2.2.2.1 b.toNat default).2.2.1):Int)<=1099511627776/\okL (List.getD a.2.2.2.2.1 b.toNat default).1/\0<=b/\b<(a.2.2.2.2.1.length:Int)/\0<=b/\b<((List.length (List.set a.2.2.2.2.1 b.toNat (List.getD a.2.2.2.2.1 b.toNat default))):Int)/\ ∃(c:Int),(0<=c/\c<=((List.length (bo a)):Int))/\Int.toNat (((List.length (bo a)):Int) -c)<Int.toNat (((List.length (bo a)):Int)
 -b)/\(a.2.2.2.2.1.length:Int)=(a.2.2.2.2.1.length:Int)/\IntKind.wrap .i64 (b+(1:Int))=c/\a.1.1=a.1.1/\a.1.2.1=a.1.2.1/\a.1.2.2=a.1.2.2/\a.2.1=a.2.1/\a.2.2.1=a.2.2.1/\a.2.2.2.1=a.2.2.2.1/\a.2.2.2.2.2.1=a.2.2.2.2.2.1/\a.2.2.2.2.2.2.1=a.2.2.2.2.2.2.1/\a.2.2.2.2.2.2.2.1=a.2.2.2.2.2.2.2.1/\a.2.2.2.2.2.2.2.2=a.2.2.2.2.2.2.2.2/\(0:Int)=0/\(0:Int)=0/\(0:Int)=0/\List.set (List.set a.2.2.2.2.1 b.toNat (List.getD a.2.2.2.2.1 b.toNat default)) b.toNat ((List.getD a.2.2.2.2.1 b.toNat default).1,(List.getD (List.set a.2.2.2.2.1 b.toNat (List.getD a.2.2.2.2.1 b.toNat default)) b.toNat default).2)=a.2.2.2.2.1/\True) ((a.2.2.2.2.2.1.length:Int)<=1099511627776/\(a.2.2.2.2.2.2.1.length:Int)<=1000000/\(∃(c:Int),(0<=c/\c<=((List.length (am
 a)):Int))/\(a.2.2.2.2.2.2.1.length:Int)=(a.2.2.2.2.2.2.1.length:Int)/\(0:Int)=c/\a.1.1=a.1.1/\a.1.2.1=a.1.2.1/\a.1.2.2=a.1.2.2/\a.2.1=a.2.1/\a.2.2.1=a.2.2.1/\a.2.2.2.1=a.2.2.2.1/\a.2.2.2.2.2.2.2.1=a.2.2.2.2.2.2.2.1/\a.2.2.2.2.2.2.2.2=a.2.2.2.2.2.2.2.2/\(0:Int)=0/\(0:Int)=0/\(0:Int)=0/\a.2.2.2.2.1=a.2.2.2.2.1/\a.2.2.2.2.2.1=a.2.2.2.2.2.1/\a.2.2.2.2.2.2.1=a.2.2.2.2.2.2.1/\True)/\ ∀(c:Int),0<=c/\c<=((List.length (am a)):Int)->ad (decide (c<(a.2.2.2.2.2.2.1.length:Int))) (0<=c/\c<(a.2.2.2.2.2.2.1.length:Int)/\((List.length (List.getD a.2.2.2.2.2.2.1 c.toNat default).2.2.2.2.2):Int)<=1099511627776/\0<=c/\c<(a.2.2.2.2.2.2.1.length:Int)/\ ∃(d:Int),(0<=d/\d<=((List.length (am a)):Int))/\Int.toNat (((List.length (am a)):Int) -d)<Int.toNat (((List.length (am a)):Int) -c)/\(a.2.2.2.2.2.2.1.length:Int)=(a.2.2.2.2.2.2.1.length:Int)/\IntKind.wrap .i64
 (c+(1:Int))=d/\a.1.1=a.1.1/\a.1.2.1=a.1.2.1/\a.1.2.2=a.1.2.2/\a.2.1=a.2.1/\a.2.2.1=a.2.2.1/\a.2.2.2.1=a.2.2.2.1/\a.2.2.2.2.2.2.2.1=a.2.2.2.2.2.2.2.1/\a.2.2.2.2.2.2.2.2=a.2.2.2.2.2.2.2.2/\(0:Int)=0/\(0:Int)=0/\(0:Int)=0/\a.2.2.2.2.1=a.2.2.2.2.1/\a.2.2.2.2.2.1=a.2.2.2.2.2.1/\List.set a.2.2.2.2.2.2.1 c.toNat (List.getD a.2.2.2.2.2.2.1 c.toNat default)=a.2.2.2.2.2.2.1/\True) ((a.2.2.2.2.2.2.2.1.length:Int)<=1000000000000/\(∃(d:Int),(0<=d/\d<=((List.length (bz a)):Int))/\(a.2.2.2.2.2.2.2.1.length:Int)=(a.2.2.2.2.2.2.2.1.length:Int)/\(0:Int)=d/\a.1.1=a.1.1/\a.1.2.1=a.1.2.1/\a.1.2.2=a.1.2.2/\a.2.1=a.2.1/\a.2.2.1=a.2.2.1/\a.2.2.2.1=a.2.2.2.1/\a.2.2.2.2.2.2.2.2=a.2.2.2.2.2.2.2.2/\(0:Int)=0/\(0:Int)=0/\(0:Int)=0/\a.2.2.2.2.1=a.2.2.2.2.1/\a.2.2.2.2.2.1=a.2.2.2.2.2.1/\a.2.2.2.2.2.2.1=a.2.2.2.2.2.2.1/\a.2.2.2.2.2.2.2.1=a.2.2.2.2.2.2.2.1/\True)/\ ∀(d:Int),0<=d/\d<=((List.length (bz a)):Int)->ad
 (decide (d<(a.2.2.2.2.2.2.2.1.length:Int))) (0<=d/\d<(a.2.2.2.2.2.2.2.1.length:Int)/\((List.length (List.getD a.2.2.2.2.2.2.2.1 d.toNat default).2.2):Int)<=1099511627776/\0<=d/\d<(a.2.2.2.2.2.2.2.1.length:Int)/\ ∃(e:Int),(0<=e/\e<=((List.length (bz a)):Int))/\Int.toNat (((List.length (bz a)):Int) -e)<Int.toNat (((List.length (bz a)):Int) -d)/\(a.2.2.2.2.2.2.2.1.length:Int)=(a.2.2.2.2.2.2.2.1.length:Int)/\IntKind.wrap .i64 (d+(1:Int))=e/\a.1.1=a.1.1/\a.1.2.1=a.1.2.1/\a.1.2.2=a.1.2.2/\a.2.1=a.2.1/\a.2.2.1=a.2.2.1/\a.2.2.2.1=a.2.2.2.1/\a.2.2.2.2.2.2.2.2=a.2.2.2.2.2.2.2.2/\(0:Int)=0/\(0:Int)=0/\(0:Int)=0/\a.2.2.2.2.1=a.2.2.2.2.1/\a.2.2.2.2.2.1=a.2.2.2.2.2.1/\a.2.2.2.2.2.2.1=a.2.2.2.2.2.2.1/\List.set a.2.2.2.2.2.2.2.1 d.toNat (List.getD a.2.2.2.2.2.2.2.1 d.toNat default)=a.2.2.2.2.2.2.2.1/\True) ((a.2.2.2.2.2.2.2.2.length:Int)<=1000000000000/\a=a))):=by
  rintro d-⟨h1,h2,h3,h4,h5,h6,h7,h8,h9⟩
  have h2:(d.2.2.2.2.1.length:Int)<=1000000:=h2
  have h3:(d.2.2.2.2.2.1.length:Int)<=1000000:=h3
  have h4:(d.2.2.2.2.2.2.1.length:Int)<=1000000:=h4
  have h5:(d.2.2.2.2.2.2.2.1.length:Int)<=1000000000000:=h5
  have h6:(d.2.2.2.2.2.2.2.2.length:Int)<=1000000000000:=h6
  have eS:bo d=d.2.2.2.2.1:=rfl
  have eF:am d=d.2.2.2.2.2.2.1:=rfl
  have eD:bz d=d.2.2.2.2.2.2.2.1:=rfl
  simp only[eS,eF,eD] at *
  refine⟨h1,h2,⟨0,⟨by omega,by omega⟩,(by repeat' first|exact trivial|refine⟨trivial,?_⟩|refine⟨(by with_reducible rfl),?_⟩|refine⟨ai (by omega) (by omega),?_⟩|refine⟨rfl,?_⟩)⟩,?_⟩
  rintro j ⟨j0,j1⟩
  refine ae (fun hj=>?_) (fun hj=>?_)
  ·have hj:=of_decide_eq_true hj
   have hx:=h7 _ (bL j0 hj)
   have hx1:((d.2.2.2.2.1.getD j.toNat default).2.2.1.length:Int)<=1000000:=hx.1
   have e:d.2.2.2.2.1.set j.toNat (d.2.2.2.2.1.getD j.toNat default)=d.2.2.2.2.1:=qh j0 hj
   refine⟨j0,hj,by omega,hx.2,j0,hj,j0,by rw[List.length_set];exact hj,j+1,⟨by omega,by omega⟩,by omega,?_⟩
   (repeat first|refine⟨trivial,?_⟩|refine⟨(by with_reducible rfl),?_⟩|refine⟨ai (by omega) (by omega),?_⟩)
   refine⟨?_,trivial⟩
   show (d.2.2.2.2.1.set j.toNat (d.2.2.2.2.1.getD j.toNat default)).set j.toNat _=d.2.2.2.2.1
   rw[e]
   exact e
  refine⟨by omega,h4,⟨0,⟨by omega,by omega⟩,(by repeat' first|exact trivial|refine⟨trivial,?_⟩|refine⟨(by with_reducible rfl),?_⟩|refine⟨ai (by omega) (by omega),?_⟩|refine⟨rfl,?_⟩)⟩,?_⟩
  rintro k ⟨k0,k1⟩
  refine ae (fun hk=>?_) (fun hk=>?_)
  ·have hk:=of_decide_eq_true hk
   have hx1:((d.2.2.2.2.2.2.1.getD k.toNat default).2.2.2.2.2.length:Int)<=1000000:=h8 _ (bL k0 hk)
   refine⟨k0,hk,by omega,k0,hk,k+1,⟨by omega,by omega⟩,by omega,?_⟩
   (repeat first|refine⟨trivial,?_⟩|refine⟨(by with_reducible rfl),?_⟩|refine⟨ai (by omega) (by omega),?_⟩)
   exact⟨qh k0 hk,trivial⟩
  refine⟨h5,⟨0,⟨by omega,by omega⟩,(by repeat' first|exact trivial|refine⟨trivial,?_⟩|refine⟨(by with_reducible rfl),?_⟩|refine⟨ai (by omega) (by omega),?_⟩|refine⟨rfl,?_⟩)⟩,?_⟩
  rintro k ⟨k0,k1⟩
  refine ae (fun hk=>?_) (fun hk=>?_)
  ·have hk:=of_decide_eq_true hk
   have hx1:((d.2.2.2.2.2.2.2.1.getD k.toNat default).2.2.length:Int)<=1000000:=h9 _ (bL k0 hk)
   refine⟨k0,hk,by omega,k0,hk,k+1,⟨by omega,by omega⟩,by omega,?_⟩
   (repeat first|refine⟨trivial,?_⟩|refine⟨(by with_reducible rfl),?_⟩|refine⟨ai (by omega) (by omega),?_⟩)
   exact⟨qh k0 hk,trivial⟩
  exact⟨h6,trivial⟩
theorem MW:ax Tryz.prog GL 43 KT.spec:=Ct.okH _ Tryz.func43 (by kernel_rfl) (ah (ah (ah (ah (ah (ah (ah (ah aD Pv) WK) wG) Ol) Rw) py) RF) Uz) av YW (aC (by kernel_rfl) Rx)
def pA(x y:aH):Int:=if eT (aq x) (aq y)≠0 then eT (aq x) (aq y) else eT (ia x) (ia y)
def GN:Ct:=⟨[.agg kK,.agg kK],[.val cI],fun _=>[],fun d=>((pA d.1 d.2.1,()),())⟩
def ag2:ar GN.ps->az:=(fun _=>{})
theorem Wh :
 ∀(a b c d e:Int)(f:List Int)(g h i j k:Int)(l:List Int),(ab a/\ab b/\ab c/\ab d/\ab e/\f.length<=maxLen/\ ∀(m:Int),m∈f->0<=m/\m<=255)/\(ab g/\ab h/\ab i/\ab j/\ab k/\l.length<=maxLen/\ ∀(m:Int),m∈l->0<=m/\m<=255)/\True->True->jZ [eT a g,eT b h]=pA (a,b,c,d,e,f) (g,h,i,j,k,l):=by
  rintro a1 a2 a3 a4 a5 a6 b1 b2 b3 b4 b5 b6 - -
  have e:pA (a1,a2,a3,a4,a5,a6) (b1,b2,b3,b4,b5,b6)=if eT a1 b1≠0 then eT a1 b1 else eT a2 b2:=rfl
  rw[e]
  simp only[jZ]
  by_cases h:eT a1 b1≠0
  ·rw[if_pos h,if_pos h]
  ·rw[if_neg h,if_neg h]
   by_cases k:eT a2 b2≠0
   ·rw[if_pos k]
   ·rw[if_neg k];simp at k;exact k.symm
theorem PG:ax Tryz.prog GL 105 GN.spec:=Ct.okH _ Tryz.func105 (by kernel_rfl) (ah (ah aD Ih) Lc) av ag2 (aC (by kernel_rfl) Wh)
instance (a b:aH):Decidable (fg a b):=by unfold fg;infer_instance
def eG(l:List aH)(t:aH):Int:=((l.takeWhile fun x=>decide (fg x t)).length:Int)
theorem Tg{x y:aH}:pA x y<0↔fg x y:=by
 unfold pA eT fg
 by_cases h1:aq x<aq y
 ·simp[h1]
 ·by_cases h2:aq y<aq x
  ·have:aq x≠aq y:=by omega
   simp[h1,h2,this]
  ·have:aq x=aq y:=by omega
   by_cases h3:ia x<ia y
   ·simp[this,h3]
   ·by_cases h4:ia y<ia x <;> simp[this,h3,h4]
theorem Vu{x y z:aH}(h:fg x y)(k:fg y z):fg x z:=by unfold fg at *;omega
theorem Ez(l:List aH)(t:aH):0<=eG l t/\eG l t<=l.length:=by
 unfold eG
 have:=congrArg List.length (List.takeWhile_append_dropWhile (p:=fun x=>decide (fg x t)) (l:=l))
 rw[List.length_append] at this
 omega
theorem KH:∀{l:List aH}{t:aH}{h:Nat},l.Pairwise fg->h<l.length->(fg (l.getD h default) t↔(h:Int)<eG l t)
 | [],t,h,_,hh=>by simp at hh
 | a::l,t,h,hs,hh=>by
  obtain⟨s1,s2⟩:=List.pairwise_cons.1 hs
  by_cases ha:fg a t
  ·have e:eG (a::l) t=eG l t+1:=by unfold eG;rw[List.takeWhile_cons_of_pos (by simpa using ha),List.length_cons];omega
   cases h with
   | zero =>
    have:=Ez l t
    simp only[List.getD_cons_zero]
    exact⟨fun _=>by rw[e];omega,fun _=>ha⟩
   | succ h =>
    simp only[List.getD_cons_succ]
    rw[KH s2 (by simpa using hh),e]
    omega
  ·have e:eG (a::l) t=0:=by unfold eG;rw[List.takeWhile_cons_of_neg (by simpa using ha)];rfl
   rw[e]
   constructor
   ·intro k
    exfalso
    cases h with
    | zero=>exact ha k
    | succ h =>
     simp only[List.getD_cons_succ] at k
     have hh:h<l.length:=by simpa using hh
     have hm:l.getD h default∈l:=by rw[List.getD_eq_getElem?_getD,List.getElem?_eq_getElem hh];exact List.getElem_mem hh
     exact ha (Vu (s1 _ hm) k)
   ·intro k;omega
theorem Oe{l:List aH}{t:aH}{h:Int}(hs:l.Pairwise fg)(h0:0<=h)(h1:h<l.length):pA (l.getD h.toNat default) t<0↔h<eG l t:=by
 rw[Tg,KH hs (by omega)]
 rw[Int.toNat_of_nonneg h0]
def Lw:Ct:=⟨[.val (.sl kK),.agg kK,.fn 105 0],[.val cI,.val .bool],fun d=>[d.1.Pairwise fg],fun d=>((eG d.1 d.2.1,(bif decide (eG d.1 d.2.1<d.1.length) then decide (pA (d.1.getD (eG d.1 d.2.1).toNat default) d.2.1=0) else false),()),())⟩
def SU:ar Lw.ps->az:=(fun d=>{loops:=(fun n=>match n with|3=>some (fun S=>{ι:=Int×Int,qn:=⟨fun k_=>∀(i:Int)(j:Int),k_ (i,j),fun k_ h_ i=>h_ i.1 i.2,fun k_=>∃ (i:Int) (j:Int),k_ (i,j),fun k_ ⟨i,j,h_⟩=>⟨_,h_⟩⟩,μ:=fun i=>(i.2-i.1).toNat,inv:=fun i=>0<=i.1/\i.1<=eG d.1 d.2.1/\eG d.1 d.2.1<=i.2/\i.2<=d.1.length,keep:=[0,2,4,8],slots:=fun i=>[(9,.int .i64 i.1),(10,.int .i64 i.2)],keepN:=[80],names:=fun i=>[]})|_=>none)})
def vl(h i:Int) :=
 cT IntKind.u64 (IntKind.wrap .u64 (IntKind.wrap .i64 (h+i))) (1:Int)
theorem ah1 :
 ∀(a:List (Int×Int×Int×Int×Int×List Int))(b c d e f:Int)(g:List Int),(a.length<=maxLen/\ ∀(h:Int×Int×Int×Int×Int×List Int),h∈a->ab h.1/\ab h.2.1/\ab h.2.2.1/\ab h.2.2.2.1/\ab h.2.2.2.2.1/\h.2.2.2.2.2.length<=maxLen/\ ∀(i:Int),i∈h.2.2.2.2.2->0<=i/\i<=255)/\(ab b/\ab c/\ab d/\ab e/\ab f/\g.length<=maxLen/\ ∀(h:Int),h∈g->0<=h/\h<=255)/\True/\True->List.Pairwise fg a->(∃(h:Int) (i:Int),(0<=h/\h<=eG a (b,c,d,e,f,g)/\eG a (b,c,d,e,f,g)<=i/\i<=(a.length:Int))/\a=a/\(a.length:Int)=(a.length:Int)/\(0:Int)=h/\(a.length:Int)=i/\b=b/\c=c/\d=d/\e=e/\f=f/\g=g/\True)/\ ∀(h i:Int),0<=h/\h<=eG a (b,c,d,e,f,g)/\eG a (b,c,d,e,f,g)<=i/\i<=(a.length:Int)->ad (decide (h<i)) ((0:Int)<=1/\0<=IntKind.wrap .i64 (vl h i)/\IntKind.wrap .i64 (vl h i)<(a.length:Int)/\ad (decide (pA (a.getD (Int.toNat (IntKind.wrap .i64 (vl h i))) default) (b,c,d,e,f,g)<0)) (∃(j:Int) (k:Int),(0<=j/\j<=eG
 a (b,c,d,e,f,g)/\eG a (b,c,d,e,f,g)<=k/\k<=(a.length:Int))/\Int.toNat (k -j)<Int.toNat (i -h)/\a=a/\(a.length:Int)=(a.length:Int)/\IntKind.wrap .i64 (IntKind.wrap .i64 (vl h i)+(1:Int))=j/\i=k/\b=b/\c=c/\d=d/\e=e/\f=f/\g=g/\True) (∃(j:Int) (k:Int),(0<=j/\j<=eG a (b,c,d,e,f,g)/\eG a (b,c,d,e,f,g)<=k/\k<=(a.length:Int))/\Int.toNat (k -j)<Int.toNat (i -h)/\a=a/\(a.length:Int)=(a.length:Int)/\h=j/\IntKind.wrap .i64 (vl h i)=k/\b=b/\c=c/\d=d/\e=e/\f=f/\g=g/\True)) (∀(j:Bool),j=decide (h<(a.length:Int))->(j->(j->j)/\(j->j)/\0<=h/\h<(a.length:Int)/\True)/\(j->(j->j)/\True)/\(j->(j->j)/\(j->j)/\(j->j)/\True)/\(j->(j->j)/\True)/\(j->j)/\h=eG a (b,c,d,e,f,g)/\(bif j then decide (pA (a.getD h.toNat default) (b,c,d,e,f,g)=0) else false)=bif decide (eG a (b,c,d,e,f,g)<(a.length:Int)) then decide (pA (a.getD (Int.toNat (eG a (b,c,d,e,f,g))) default) (b,c,d,e,f,g)=0) else false):=by
  delta vl
  rintro x p1 p2 p3 p4 p5 p6 ⟨⟨hl,-⟩,-⟩ hs
  simp only[maxLen] at hl
  obtain⟨q0,q1⟩:=Ez x (p1,p2,p3,p4,p5,p6)
  refine⟨⟨0,x.length,⟨by omega,q0,q1,by omega⟩,(by repeat' first|exact trivial|refine⟨trivial,?_⟩|refine⟨(by with_reducible rfl),?_⟩|refine⟨ai (by omega) (by omega),?_⟩|refine⟨rfl,?_⟩)⟩,?_⟩
  rintro i j ⟨h0,h1,h2,h3⟩
  refine ae (fun hb=>?_) (fun hb=>?_)
  ·have hb:=of_decide_eq_true hb
   rw[Hv h0 (by omega) (by omega)]
   refine⟨by omega,by omega,by omega,ae (fun hc=>?_) (fun hc=>?_)⟩
   ·have hc:=(Oe hs (by omega) (by omega)).1 (of_decide_eq_true hc)
    rw[ai (by omega) (by omega)]
    exact⟨(i+j)/2+1,j,⟨by omega,by omega,h2,h3⟩,by omega,(by repeat' first|exact trivial|refine⟨trivial,?_⟩|refine⟨(by with_reducible rfl),?_⟩|refine⟨ai (by omega) (by omega),?_⟩|refine⟨rfl,?_⟩)⟩
   ·have hc:¬ (i+j)/2<eG x (p1,p2,p3,p4,p5,p6):=fun h=>absurd ((Oe hs (by omega) (by omega)).2 h) (of_decide_eq_false hc)
    exact⟨i,(i+j)/2,⟨h0,h1,by omega,by omega⟩,by omega,(by repeat' first|exact trivial|refine⟨trivial,?_⟩|refine⟨(by with_reducible rfl),?_⟩|refine⟨ai (by omega) (by omega),?_⟩|refine⟨rfl,?_⟩)⟩
  ·have hb:=of_decide_eq_false hb
   have:i=eG x (p1,p2,p3,p4,p5,p6):=by omega
   subst this
   (repeat (intro (b_:Bool) (hb_:b_=_);(repeat refine⟨(by first|(simp;done)|(rw[hb_];simp;done)|(rw[hb_];simp;omega)|(rw[hb_];simp;intros;omega)|(rw[hb_];simp +contextual;done)),?_⟩);subst hb_))
   exact rfl
theorem am2:ax Tryz.prog GL 104 Lw.spec:=Ct.okH _ Tryz.func104 (by kernel_rfl) (ah aD PG) av SU (aC (by kernel_rfl) ah1)
theorem Ju{α:Type}{p q:α->Bool}:∀{l:List α},(∀ x∈l,p x=q x)->l.takeWhile p=l.takeWhile q/\l.dropWhile p=l.dropWhile q
 | [],_=>⟨rfl,rfl⟩
 | a::l,h=>by
  obtain⟨h1,h2⟩:=Ju (l:=l) fun x hx=>h x (List.mem_cons_of_mem _ hx)
  have ha:=h a (List.mem_cons_self ..)
  rw[List.takeWhile_cons,List.takeWhile_cons,List.dropWhile_cons,List.dropWhile_cons,ha,h1,h2]
  exact⟨rfl,rfl⟩
theorem WA{l:List aH}{f:aH}(hf:∀ x∈l,ia x<ia f):l.take (eG l f).toNat++([f]++l.drop (eG l f).toNat)=bT l f:=by
 obtain⟨e1,e2⟩:=Ju (p:=fun x=>decide (fg x f)) (q:=fun x=>decide (aq x<=aq f)) (l:=l) fun x hx=>by
  have:=hf x hx
  apply decide_eq_decide.2
  unfold fg;omega
 have k:=List.takeWhile_append_dropWhile (p:=fun x=>decide (fg x f)) (l:=l)
 have t1:∀ A B:List aH,A++B=l->l.take A.length=A/\l.drop A.length=B:=by
  rintro A B rfl
  exact⟨List.take_left' rfl,List.drop_left' rfl⟩
 obtain⟨t2,t3⟩:=t1 _ _ k
 unfold eG
 rw[Int.toNat_natCast,t2,t3]
 unfold bT
 rw[e1,e2]
 rfl
def Hb:Ct:=⟨[.box 37 u3,.agg kK],[],fun d=>[(am d.1).Pairwise fg,∀ x∈am d.1,ia x<aS d.1,(am d.1).length<=4096],fun d=>((),(wt d.1 d.2.1,()))⟩
def YA:ar Hb.ps->az:=(fun _=>{})
theorem RN :
 ∀(a:List ac)(b:List aE)(c:List aM)(d e f:Int)(g:List (List aF×Int×List Int×(Int×Int)×Int))(h:List Int)(i:List (Int×Int×Int×Int×Int×List Int))(j:List (Int×Int×List Int))(k:List (Int×Int×Int×Int×Int))(l m n o p:Int)(q:List Int),(((a.length<=maxLen/\ ∀(r:ac),r∈a->CT.wf bH r)/\(b.length<=maxLen/\ ∀(r:aE),r∈b->CT.wf fB r)/\c.length<=maxLen/\ ∀(r:aM),r∈c->CT.wf d8 r)/\ab d/\ab e/\ab f/\(g.length<=maxLen/\ ∀(r:List aF×Int×List Int×(Int×Int)×Int),r∈g->(r.1.length<=maxLen/\ ∀(s:aF),s∈r.1->((0<=s.1.1/\s.1.1<=4294967295)/\ab s.1.2)/\(s.2.1.length<=maxLen/\ ∀(t:Int),t∈s.2.1->ab t)/\ab s.2.2)/\ab r.2.1/\(r.2.2.1.length<=maxLen/\ ∀(s:Int),s∈r.2.2.1->ab s)/\(ab r.2.2.2.1.1/\ab r.2.2.2.1.2)/\ab r.2.2.2.2)/\(h.length<=maxLen/\ ∀(r:Int),r∈h->ab r)/\(i.length<=maxLen/\ ∀(r:Int×Int×Int×Int×Int×List Int),r∈i->ab r.1/\ab r.2.1/\ab r.2.2.1/\ab
 r.2.2.2.1/\ab r.2.2.2.2.1/\r.2.2.2.2.2.length<=maxLen/\ ∀(s:Int),s∈r.2.2.2.2.2->0<=s/\s<=255)/\(j.length<=maxLen/\ ∀(r:Int×Int×List Int),r∈j->ab r.1/\ab r.2.1/\r.2.2.length<=maxLen/\ ∀(s:Int),s∈r.2.2->0<=s/\s<=255)/\k.length<=maxLen/\ ∀(r:Int×Int×Int×Int×Int),r∈k->ab r.1/\ab r.2.1/\ab r.2.2.1/\ab r.2.2.2.1/\ab r.2.2.2.2)/\(ab l/\ab m/\ab n/\ab o/\ab p/\q.length<=maxLen/\ ∀(r:Int),r∈q->0<=r/\r<=255)/\True->List.Pairwise fg (am ((a,b,c),d,e,f,g,h,i,j,k))/\(∀(r:aH),r∈am ((a,b,c),d,e,f,g,h,i,j,k)->ia r<aS ((a,b,c),d,e,f,g,h,i,j,k))/\List.length (am ((a,b,c),d,e,f,g,h,i,j,k))<=(4096:Nat)->List.Pairwise fg i/\List.length [(l,e,n,o,p,q)]=(1:Nat)/\0<=eG i (l,e,n,o,p,q)/\eG i (l,e,n,o,p,q)<=(i.length:Int)/\(i.length+(1:Nat))*(64:Nat)<=(140737488355328:Nat)/\((a,b,c),d,IntKind.wrap .i64 (e+(1:Int)),f,g,h,List.take (Int.toNat (eG i (l,e,n,o,p,q)))
 i++([(l,e,n,o,p,q)]++List.drop (Int.toNat (eG i (l,e,n,o,p,q))) i),j,k)=wt ((a,b,c),d,e,f,g,h,i,j,k) (l,m,n,o,p,q):=by
  rintro ns ls hs now ord dn sts cr fl dl en a b c e f g-⟨h1,h2,h3⟩
  have h1:fl.Pairwise fg:=h1
  have h2:∀ x∈fl,ia x<ord:=h2
  have h3:fl.length<=4096:=h3
  obtain⟨q0,q1⟩:=Ez fl (a,ord,c,e,f,g)
  refine⟨h1,rfl,q0,q1,by omega,?_⟩
  rw[WA (f:=(a,ord,c,e,f,g)) h2]
  rfl
theorem NI:ax Tryz.prog GL 46 Hb.spec:=Ct.okH _ Tryz.func46 (by kernel_rfl) (ah (ah aD am2) ak4) av YA (aC (by kernel_rfl) RN)
def Hi:Ct:=⟨[.box 37 u3],[],fun d=>[qR d.1],fun d=>((),(br d.1,()))⟩
def as9:ar Hi.ps->az:=(fun d=>{loops:=(fun n=>match n with|0=>some (fun S=>{ι:=Int×(List bq),qn:=⟨fun k_=>∀(done:Int)(st:(List bq)),k_ (done,st),fun k_ h_ i=>h_ i.1 i.2,fun k_=>∃ (done:Int) (st:(List bq)),k_ (done,st),fun k_ ⟨done,st,h_⟩=>⟨_,h_⟩⟩,μ:=fun i=>((ao d.1).2.2.length-i.1).toNat,inv:=fun i=>qR (mv (fu d.1 i.2) i.1)/\br (mv (fu d.1 i.2) i.1)=br d.1,keep:=[0],slots:=fun i=>[],keepN:=[2097153,2097154,2097155,2097156],names:=fun i=>[(1048576,.live (.cells 37 (cB ig d.1.1++[.int .i64 d.1.2.1,.int .i64 d.1.2.2.1,.int .i64 i.1,.own 524288 6,.own 2097153 1,.own 2097154 6,.own 2097155 3,.own 2097156 5]))),(524288,.live (.row 134 mX i.2))]})|_=>none)})
def BK(a:List ac)(b:List aE)(c:List aM)(d e f:Int)(g:List (List aF×Int×List Int×(Int×Int)×Int))(h:List Int)(i:List (Int×Int×Int×Int×Int×List Int))(j:List (Int×Int×List Int))(k:List (Int×Int×Int×Int×Int)) :=
 ((a.length<=maxLen/\ ∀(l:ac),l∈a->CT.wf bH l)/\(b.length<=maxLen/\ ∀(l:aE),l∈b->CT.wf fB l)/\c.length<=maxLen/\ ∀(l:aM),l∈c->CT.wf d8 l)/\ab d/\ab e/\ab f/\(g.length<=maxLen/\ ∀(l:List aF×Int×List Int×(Int×Int)×Int),l∈g->(l.1.length<=maxLen/\ ∀(m:aF),m∈l.1->((0<=m.1.1/\m.1.1<=4294967295)/\ab m.1.2)/\(m.2.1.length<=maxLen/\ ∀(n:Int),n∈m.2.1->ab n)/\ab m.2.2)/\ab l.2.1/\(l.2.2.1.length<=maxLen/\ ∀(m:Int),m∈l.2.2.1->ab m)/\(ab l.2.2.2.1.1/\ab l.2.2.2.1.2)/\ab l.2.2.2.2)/\(h.length<=maxLen/\ ∀(l:Int),l∈h->ab l)/\(i.length<=maxLen/\ ∀(l:Int×Int×Int×Int×Int×List Int),l∈i->ab l.1/\ab l.2.1/\ab l.2.2.1/\ab l.2.2.2.1/\ab l.2.2.2.2.1/\l.2.2.2.2.2.length<=maxLen/\ ∀(m:Int),m∈l.2.2.2.2.2->0<=m/\m<=255)/\(j.length<=maxLen/\ ∀(l:Int×Int×List Int),l∈j->ab l.1/\ab l.2.1/\l.2.2.length<=maxLen/\ ∀(m:Int),m∈l.2.2->0<=m/\m<=255)/\k.length<=maxLen/\
 ∀(l:Int×Int×Int×Int×Int),l∈k->ab l.1/\ab l.2.1/\ab l.2.2.1/\ab l.2.2.2.1/\ab l.2.2.2.2
def o8(c:List aM)(l:Int) :=
 c.getD l.toNat default
def qC(c:List aM)(l:Int)(m:List bq) :=
 m.getD (Int.toNat (o8 c l).2.1) default
def mU(n:Bool) :=
 n->(n->n)/\True
theorem aj3 :
 ∀(a:List ac)(b:List aE)(c:List aM)(d e f:Int)(g:List (List aF×Int×List Int×(Int×Int)×Int))(h:List Int)(i:List (Int×Int×Int×Int×Int×List Int))(j:List (Int×Int×List Int))(k:List (Int×Int×Int×Int×Int)),(BK a b c d e f g h i j k)/\True->c8 ((a,b,c),d,e,f,g,h,i,j,k)∨c=([]:List aM)/\bO ((a,b,c),d,e,f,g,h,i,j,k)=0->(∃(l:Int) (m:List bq),(qR (mv (fu ((a,b,c),d,e,f,g,h,i,j,k) m) l)/\br (mv (fu ((a,b,c),d,e,f,g,h,i,j,k) m) l)=br ((a,b,c),d,e,f,g,h,i,j,k))/\h=h/\i=i/\j=j/\k=k/\a=a/\b=b/\c=c/\d=d/\e=e/\f=l/\g=m/\True)/\ ∀(l:Int)(m:List bq),qR (mv (fu ((a,b,c),d,e,f,g,h,i,j,k) m) l)/\br (mv (fu ((a,b,c),d,e,f,g,h,i,j,k) m) l)=br ((a,b,c),d,e,f,g,h,i,j,k)-> ∀(n:Bool),n=decide (l<(ip c))->(mU n)/\(mU n)/\(mU n)/\(mU n)/\(mU n)/\(mU n)/\(mU n)/\(n->(n->n)/\(n->n)/\0<=l/\l<(ip
 c)/\True)/\(mU n)/\(mU n)/\(mU n)/\(mU n)/\(mU n)/\(n->(n->n)/\(n->n)/\True)/\(n->n)/\ad (bif n then decide ((o8 c l).1<=d) else false) (0<=l/\l<(ip c)/\0<=(o8 c l).2.1/\(o8 c l).2.1<(m.length:Int)/\ad (o8 c l).2.2.1 (bM (qC c l m).1/\okL (qC c l m).1/\ ∃(o:Int) (p:List bq),(qR (mv (fu ((a,b,c),d,e,f,g,h,i,j,k) p) o)/\br (mv (fu ((a,b,c),d,e,f,g,h,i,j,k) p) o)=br ((a,b,c),d,e,f,g,h,i,j,k))/\Int.toNat ((ip c) -o)<Int.toNat ((ip c) -l)/\h=h/\i=i/\j=j/\k=k/\a=a/\b=b/\c=c/\d=d/\e=e/\IntKind.wrap .i64 (l+(1:Int))=o/\List.set m (Int.toNat (o8 c l).2.1) (gD (qC c l m).1 (o8 c l).2.2.2.1,(qC c l m).2)=p/\True) (bM (qC c l m).1/\okL (qC c l m).1/\((List.length (o8 c l).2.2.2.2.1):Int)<=1099511627776/\ ∃(o:Int) (p:List bq),(qR (mv (fu ((a,b,c),d,e,f,g,h,i,j,k) p) o)/\br
 (mv (fu ((a,b,c),d,e,f,g,h,i,j,k) p) o)=br ((a,b,c),d,e,f,g,h,i,j,k))/\Int.toNat ((ip c) -o)<Int.toNat ((ip c) -l)/\h=h/\i=i/\j=j/\k=k/\a=a/\b=b/\c=c/\d=d/\e=e/\IntKind.wrap .i64 (l+(1:Int))=o/\List.set m (Int.toNat (o8 c l).2.1) (dN (qC c l m).1 (o8 c l).2.2.2,(qC c l m).2)=p/\True)) (((a,b,c),d,e,l,m,h,i,j,k)=br ((a,b,c),d,e,f,g,h,i,j,k)):=by
  delta BK qC ip mU o8
  rintro ns ls hs now ord dn0 sts cr fl dl en ⟨⟨⟨-,-,⟨hl,-⟩⟩,-⟩,-⟩ h
  simp only[maxLen] at hl
  refine⟨⟨dn0,sts,⟨h,rfl⟩,(by repeat' first|exact trivial|refine⟨trivial,?_⟩|refine⟨(by with_reducible rfl),?_⟩|refine⟨ai (by omega) (by omega),?_⟩|refine⟨rfl,?_⟩)⟩,?_⟩
  rintro dn st ⟨hv,he⟩
  obtain⟨v,hw⟩:∃ v:au,v=mv (fu ((ns,ls,hs),now,ord,dn0,sts,cr,fl,dl,en) st) dn:=⟨_,rfl⟩
  rw[← hw] at hv he
  have hdn:bO v=dn:=by rw[hw];rfl
  have hd0:0<=dn:=by rcases hv with q|q;have:=q.done.1;omega;have:=q.2;omega
  (repeat (intro (b_:Bool) (hb_:b_=_);(repeat refine⟨(by first|(simp;done)|(rw[hb_];simp;done)|(rw[hb_];simp;omega)|(rw[hb_];simp;intros;omega)|(rw[hb_];simp +contextual;done)),?_⟩);subst hb_))
  refine r8 (fun h1 h2=>?_) (fun h12=>?_)
  rotate_left
  ·rw[← he,V9,hw]
   ·rfl
   ·intro k
    unfold jp at k
    rw[hw,Bool.and_eq_true] at k
    rcases h12 with q|q
    ·exact absurd (k.1.symm.trans q) (by simp)
    ·exact absurd (k.2.symm.trans q) (by simp)
  have hd1:dn<hs.length:=of_decide_eq_true h1
  have hv:c8 v:=hv.resolve_right fun q=>by
   have q1:hs=[]:=by have:=q.1;rw[hw] at this;exact this
   rw[q1] at hd1;simp at hd1;omega
  have hdue:jp v=true:=by
   unfold jp
   rw[hw,Bool.and_eq_true]
   exact⟨h1,h2⟩
  have eN:ao v=(ns,ls,hs):=by rw[hw];rfl
  have eS:bo v=st:=by rw[hw];rfl
  have hk:dn.toNat<(ao v).2.2.length:=by rw[eN];show dn.toNat<hs.length;omega
  obtain⟨-,⟨w0,w1⟩,hc⟩:=Ag hv.net hk
  have hlen:=hv.len
  have hsw:=hv.chg hdue
  have hst:=(ac5 hv hdue).symm.trans he
  rw[eN,eS] at hlen
  rw[eN] at w0 w1 hc
  have hlen:st.length=ns.length:=hlen
  obtain⟨c,ec⟩:∃ c:aM,c=hs.getD dn.toNat default:=⟨_,rfl⟩
  have w0:0<=bu c:=by rw[ec];exact w0
  have w1:bu c<ns.length:=by rw[ec];exact w1
  have hi:(bu c).toNat<(ao v).1.length:=by rw[eN];show (bu c).toNat<ns.length;omega
  obtain⟨c1,c2⟩:=tT (hv.chk hi)
  rw[eS] at c1 c2
  have et:ie v=c:=by rw[ec,hw];rfl
  have ed:bO v=dn:=by rw[hw];rfl
  have ev:jf v=mv (fu ((ns,ls,hs),now,ord,dn0,sts,cr,fl,dl,en) (st.set (bu c).toNat (E5 (st.getD (bu c).toNat default) (fK (bh (st.getD (bu c).toNat default)) c)))) (dn+1):=by
   unfold jf
   rw[et,ed,eS,ai (by omega) (by omega),hw]
   rfl
  rw[ev] at hsw hst
  have wd:IntKind.i64.wrap (dn+1)=dn+1:=ai (by omega) (by omega)
  rw[← ec]
  refine⟨hd0,hd1,w0,by rw[hlen];exact w1,ae (fun hr=>?_) (fun hr=>?_)⟩
  ·have er:fK (bh (st.getD (bu c).toNat default)) c=gD (bh (st.getD (bu c).toNat default)) (db c).1:=by unfold fK;exact if_pos hr
   rw[er] at hsw hst
   refine⟨c1,c2,dn+1,_,⟨.inl hsw,hst⟩,by show (hs.length-(dn+1)).toNat<(hs.length-dn).toNat;omega,?_⟩
   (repeat first|refine⟨trivial,?_⟩|refine⟨(by with_reducible rfl),?_⟩|refine⟨ai (by omega) (by omega),?_⟩)
   exact⟨rfl,trivial⟩
  ·have er:fK (bh (st.getD (bu c).toNat default)) c=dN (bh (st.getD (bu c).toNat default)) (db c):=by unfold fK;rw[if_neg (by rw[show qQ c=false from hr];simp)]
   have hin:((db c).2.1.length:Int)<=1099511627776:=by
    have hc':=(tT hc).2.2
    rw[← ec] at hc'
    have e2:fK ((cY (ns,ls,hs) dn.toNat).getD (bu c).toNat default) c=dN ((cY (ns,ls,hs) dn.toNat).getD (bu c).toNat default) (db c):=by unfold fK;rw[if_neg (by rw[show qQ c=false from hr];simp)]
    have hc2:okL (dN ((cY (ns,ls,hs) dn.toNat).getD (bu c).toNat default) (db c)):=by
     have:=(tT hc).2
     rw[← e2,ec];exact this
    exact hc2.2 _ (by unfold dN;simp)
   rw[er] at hsw hst
   refine⟨c1,c2,hin,dn+1,_,⟨.inl hsw,hst⟩,by show (hs.length-(dn+1)).toNat<(hs.length-dn).toNat;omega,?_⟩
   (repeat first|refine⟨trivial,?_⟩|refine⟨(by with_reducible rfl),?_⟩|refine⟨ai (by omega) (by omega),?_⟩)
   exact⟨rfl,trivial⟩
theorem LA:ax Tryz.prog GL 45 Hi.spec:=Ct.okH _ Tryz.func45 (by kernel_rfl) (ah (ah aD Is) KD) av as9 (aC (by kernel_rfl) aj3)
def Kq:Ct:=⟨[.box 37 u3,.agg kK,.val cI,.val cI],[],fun d=>[((bf d.1).length:Int)<=1000000000000],fun d=>((),(kx d.1 d.2.1 d.2.2.1 d.2.2.2.1,()))⟩
def Xm:ar Kq.ps->az:=(fun _=>{})
def BM(a:List ac)(b:List aE)(c:List aM)(d e f:Int)(g:List (List aF×Int×List Int×(Int×Int)×Int))(h:List Int)(i:List (Int×Int×Int×Int×Int×List Int))(j:List (Int×Int×List Int))(k:List (Int×Int×Int×Int×Int)) :=
 ((a.length<=maxLen/\ ∀(t:ac),t∈a->CT.wf bH t)/\(b.length<=maxLen/\ ∀(t:aE),t∈b->CT.wf fB t)/\c.length<=maxLen/\ ∀(t:aM),t∈c->CT.wf d8 t)/\ab d/\ab e/\ab f/\(g.length<=maxLen/\ ∀(t:List aF×Int×List Int×(Int×Int)×Int),t∈g->(t.1.length<=maxLen/\ ∀(u:aF),u∈t.1->((0<=u.1.1/\u.1.1<=4294967295)/\ab u.1.2)/\(u.2.1.length<=maxLen/\ ∀(v:Int),v∈u.2.1->ab v)/\ab u.2.2)/\ab t.2.1/\(t.2.2.1.length<=maxLen/\ ∀(u:Int),u∈t.2.2.1->ab u)/\(ab t.2.2.2.1.1/\ab t.2.2.2.1.2)/\ab t.2.2.2.2)/\(h.length<=maxLen/\ ∀(t:Int),t∈h->ab t)/\(i.length<=maxLen/\ ∀(t:Int×Int×Int×Int×Int×List Int),t∈i->ab t.1/\ab t.2.1/\ab t.2.2.1/\ab t.2.2.2.1/\ab t.2.2.2.2.1/\t.2.2.2.2.2.length<=maxLen/\ ∀(u:Int),u∈t.2.2.2.2.2->0<=u/\u<=255)/\(j.length<=maxLen/\ ∀(t:Int×Int×List Int),t∈j->ab t.1/\ab t.2.1/\t.2.2.length<=maxLen/\ ∀(u:Int),u∈t.2.2->0<=u/\u<=255)/\k.length<=maxLen/\
 ∀(t:Int×Int×Int×Int×Int),t∈k->ab t.1/\ab t.2.1/\ab t.2.2.1/\ab t.2.2.2.1/\ab t.2.2.2.2
theorem af2 :
 ∀(a:List ac)(b:List aE)(c:List aM)(d e f:Int)(g:List (List aF×Int×List Int×(Int×Int)×Int))(h:List Int)(i:List (Int×Int×Int×Int×Int×List Int))(j:List (Int×Int×List Int))(k:List (Int×Int×Int×Int×Int))(l m n o p:Int)(q:List Int)(r s:Int),(BM a b c d e f g h i j k)/\(ab l/\ab m/\ab n/\ab o/\ab p/\q.length<=maxLen/\ ∀(t:Int),t∈q->0<=t/\t<=255)/\ab r/\ab s/\True->((List.length (bf ((a,b,c),d,e,f,g,h,i,j,k))):Int)<=1000000000000->(k.length+List.length [(p,l,n,r,s)])*(40:Nat)<=(140737488355328:Nat)/\((a,b,c),d,e,f,g,h,i,j,k++[(p,l,n,r,s)])=kx ((a,b,c),d,e,f,g,h,i,j,k) (l,m,n,o,p,q) r s:=by
  delta BM
  rintro ns ls hs now ord dn sts cr fl dl en a b c e f g l r-h
  have h:(en.length:Int)<=1000000000000:=h
  exact⟨by simp only[List.length_singleton];omega,rfl⟩
theorem Pa:ax Tryz.prog GL 100 Kq.spec:=Ct.okH _ Tryz.func100 (by kernel_rfl) aD av Xm (aC (by kernel_rfl) af2)
def M3(n:Int):Int:=IntKind.u64.wrap n
def MT:Ct:=⟨[.box 37 u3,.agg kK,.agg tI],[],fun d=>[(am d.1).Pairwise fg,∀ x∈am d.1,ia x<aS d.1,(am d.1).length<=4096,((bf d.1).length:Int)<=1000000000000,(dV d.1).length=(ao d.1).2.1.length,0<=d.2.2.1.1,d.2.2.1.1<(ao d.1).2.1.length,iK (ao d.1).1.length (cy d.1 d.2.2.1.1)],fun d=>((),(cK d.1 d.2.1 d.2.2.1,()))⟩
def Tv:ar MT.ps->az:=(fun _=>{})
def lu(h:List Int)(r:Int) :=
 IntKind.wrap .i64 (h.getD r.toNat default+(1:Int))
def D7(b:List aE)(h:List Int)(r:Int) :=
 kC (bits BinOp.xor IntKind.u64 (kC (IntKind.wrap .u64 (b.getD r.toNat default).2.2.2.2.2)) (IntKind.wrap .u64 (h.getD r.toNat default)))
def Cs(b:List aE)(d:Int)(h:List Int)(r:Int) :=
 IntKind.wrap .i64 (d+(b.getD r.toNat default).2.2.1)+IntKind.wrap .i64 (Int.tmod (IntKind.wrap .u64 (Int.tdiv (D7 b h r) (65536:Int))) (IntKind.wrap .u64 (IntKind.wrap .i64 ((b.getD r.toNat default).2.2.2.1+(1:Int)))))
def uu(t:Bool) :=
 (! t)->((! t)->(! t))/\True
theorem V1 :
 ∀(a:List ac)(b:List aE)(c:List aM)(d e f:Int)(g:List (List aF×Int×List Int×(Int×Int)×Int))(h:List Int)(i:List (Int×Int×Int×Int×Int×List Int))(j:List (Int×Int×List Int))(k:List (Int×Int×Int×Int×Int))(l m n o p:Int)(q:List Int)(r:Int)(s:List Int),(BM a b c d e f g h i j k)/\(ab l/\ab m/\ab n/\ab o/\ab p/\q.length<=maxLen/\ ∀(t:Int),t∈q->0<=t/\t<=255)/\(ab r/\s.length<=maxLen/\ ∀(t:Int),t∈s->0<=t/\t<=255)/\True->List.Pairwise fg (am ((a,b,c),d,e,f,g,h,i,j,k))/\(∀(t:aH),t∈am ((a,b,c),d,e,f,g,h,i,j,k)->ia t<aS ((a,b,c),d,e,f,g,h,i,j,k))/\List.length (am ((a,b,c),d,e,f,g,h,i,j,k))<=(4096:Nat)/\((List.length (bf ((a,b,c),d,e,f,g,h,i,j,k))):Int)<=1000000000000/\List.length (dV ((a,b,c),d,e,f,g,h,i,j,k))=b.length/\0<=r/\r<(b.length:Int)/\0<=lA (cy ((a,b,c),d,e,f,g,h,i,j,k) r)/\lA (cy ((a,b,c),d,e,f,g,h,i,j,k) r)<(a.length:Int)/\0<=lB (cy
 ((a,b,c),d,e,f,g,h,i,j,k) r)/\lB (cy ((a,b,c),d,e,f,g,h,i,j,k) r)<(a.length:Int)/\lA (cy ((a,b,c),d,e,f,g,h,i,j,k) r)≠lB (cy ((a,b,c),d,e,f,g,h,i,j,k) r)/\1<=kO (cy ((a,b,c),d,e,f,g,h,i,j,k) r)/\kO (cy ((a,b,c),d,e,f,g,h,i,j,k) r)<=1073741824/\0<=gV (cy ((a,b,c),d,e,f,g,h,i,j,k) r)/\gV (cy ((a,b,c),d,e,f,g,h,i,j,k) r)<=1073741824/\0<=md (cy ((a,b,c),d,e,f,g,h,i,j,k) r)/\md (cy ((a,b,c),d,e,f,g,h,i,j,k) r)<=65536->0<=r/\r<(b.length:Int)/\0<=r/\r<(h.length:Int)/\0<=r/\r<(h.length:Int)/\0<=r/\r<(h.length:Int)/\(65536:Int)≠(0:Int)/\ad (decide (Int.tmod (D7 b h r) 65536<IntKind.wrap .u64 (b.getD r.toNat default).2.2.2.2.1)) (((List.length (bf ((a,b,c),d,e,f,g,List.set h r.toNat (lu h r),i,j,k))):Int)<=1000000000000/\((a,b,c),d,e,f,g,List.set h r.toNat (lu h r),i,j,bf ((a,b,c),d,e,f,g,List.set h r.toNat (lu h r),i,j,k)++[(dM
 (l,m,n,o,p,q),aq (l,m,n,o,p,q),aN (l,m,n,o,p,q),r,(3:Int))])=cK ((a,b,c),d,e,f,g,h,i,j,k) (l,m,n,o,p,q) (r,s)) ((65536:Int)≠(0:Int)/\IntKind.wrap .u64 (IntKind.wrap .i64 ((b.getD r.toNat default).2.2.2.1+(1:Int)))≠(0:Int)/\ ∀(t:Bool),t=decide (1125899906842624<IntKind.wrap .i64 (Cs b d h r))->(uu t)/\(uu t)/\(uu t)/\(uu t)/\(uu t)/\(t=false->(! t))/\ad (bif t then true else decide (4096<=(i.length:Int))) (((List.length (bf ((a,b,c),d,e,f,g,List.set h r.toNat (lu h r),i,j,k))):Int)<=1000000000000/\((a,b,c),d,e,f,g,List.set h r.toNat (lu h r),i,j,bf ((a,b,c),d,e,f,g,List.set h r.toNat (lu h r),i,j,k)++[(dM (l,m,n,o,p,q),aq (l,m,n,o,p,q),aN (l,m,n,o,p,q),r,(7:Int))])=cK ((a,b,c),d,e,f,g,h,i,j,k) (l,m,n,o,p,q) (r,s)) (List.Pairwise fg (am ((a,b,c),d,e,f,g,List.set h r.toNat (lu h r),i,j,k))/\(∀(u:aH),u∈am ((a,b,c),d,e,f,g,List.set h
 r.toNat (lu h r),i,j,k)->ia u<aS ((a,b,c),d,e,f,g,List.set h r.toNat (lu h r),i,j,k))/\List.length (am ((a,b,c),d,e,f,g,List.set h r.toNat (lu h r),i,j,k))<=(4096:Nat)/\((a,b,c),d,IntKind.wrap .i64 (aS ((a,b,c),d,e,f,g,List.set h r.toNat (lu h r),i,j,k)+(1:Int)),f,g,List.set h r.toNat (lu h r),bT (am ((a,b,c),d,e,f,g,List.set h r.toNat (lu h r),i,j,k)) (aq (IntKind.wrap .i64 (Cs b d h r),(0:Int),fF b r n,r,p,s),aS ((a,b,c),d,e,f,g,List.set h r.toNat (lu h r),i,j,k),fF b r n,r,p,s),j,k)=cK ((a,b,c),d,e,f,g,h,i,j,k) (l,m,n,o,p,q) (r,s))):=by
  delta BM lu Cs D7 uu
  rintro ns ls hs now ord dn sts cr fl dl en a b c e f g k o-⟨h1,h2,h3,h4,h5,h6,h7,h8⟩
  obtain⟨w,hw⟩:∃ w:au,w=((ns,ls,hs),now,ord,dn,sts,cr,fl,dl,en):=⟨_,rfl⟩
  obtain⟨x,hx⟩:∃ x:aH,x=(a,b,c,e,f,g):=⟨_,rfl⟩
  have h8:iK ns.length (cy w k):=by rw[hw];exact h8
  have h4:(en.length:Int)<=1000000000000:=h4
  have h5:cr.length=ls.length:=h5
  have h7:k<(ls.length:Int):=h7
  obtain⟨-,-,-,-,-,d1,d2,j1,j2,l1,l2⟩:=h8
  have eL:cy w k=ls.getD k.toNat default:=by rw[hw];rfl
  have eC:jg w k=cr.getD k.toNat default:=by rw[hw];rfl
  have e1:IntKind.i64.wrap (gV (cy w k)+1)=gV (cy w k)+1:=ai (by omega) (by omega)
  have e2:IntKind.u64.wrap (gV (cy w k)+1)=gV (cy w k)+1:=B4 (by omega) (by omega)
  refine⟨h6,h7,h6,by omega,h6,by omega,h6,by omega,by decide,ae (fun hl=>?_) (fun hl=>⟨by decide,?_,?_⟩)⟩
  ·have hl:=of_decide_eq_true hl
   have ec:cK w x (k,o)=kx (qY w ((dV w).set k.toNat (IntKind.i64.wrap (jg w k+1)))) x k 3:=by
    unfold cK
    exact if_pos (by rw[eL,eC];exact hl)
   rw[← hw,← hx,ec,hw,hx]
   exact⟨h4,rfl⟩
  ·show M3 (IntKind.i64.wrap (gV (ls.getD k.toNat default)+1))≠0
   unfold M3
   rw[← eL,e1,e2];omega
  have hl:=of_decide_eq_false hl
  have hm:=J3 (bits .xor .u64 (kC (IntKind.wrap .u64 (rW (cy w k)))) (IntKind.wrap .u64 (jg w k)))
  have eq:IntKind.u64.wrap (Int.tdiv (mL (cy w k) (jg w k)) 65536)=Int.tdiv (mL (cy w k) (jg w k)) 65536:=by
   unfold mL
   rw[Int.tdiv_eq_ediv_of_nonneg hm.1]
   exact B4 (by omega) (by omega)
  have eo:gH w k=IntKind.i64.wrap (IntKind.i64.wrap (now+(ls.getD k.toNat default).2.2.1)+IntKind.i64.wrap (Int.tmod (IntKind.u64.wrap (Int.tdiv (mL (ls.getD k.toNat default) (cr.getD k.toNat default)) 65536)) (IntKind.u64.wrap (IntKind.i64.wrap ((ls.getD k.toNat default).2.2.2.1+1))))):=by
   unfold gH xJ
   rw[← eL,← eC,eq,hw]
   rfl
  have fin:∀ over:Int,gH w k=over→∀ b:Bool,b=decide (1125899906842624<over)->ad (bif b then true else decide (4096<=(fl.length:Int))) (((bf (qY w (cr.set k.toNat (IntKind.i64.wrap (cr.getD k.toNat default+1))))).length:Int)<=1000000000000/\kx (qY w (cr.set k.toNat (IntKind.i64.wrap (cr.getD k.toNat default+1)))) x k 7=cK w x (k,o))
    (fl.Pairwise fg/\(∀ z∈fl,ia z<ord)/\fl.length<=4096/\wt (qY w (cr.set k.toNat (IntKind.i64.wrap (cr.getD k.toNat default+1)))) (over,0,fF ls k c,k,f,o)=cK w x (k,o)):=by
   rintro over rfl b rfl
   have e0:cK w x (k,o)=if 1125899906842624<gH w k∨(4096:Int)<=(am w).length then kx (qY w ((dV w).set k.toNat (IntKind.i64.wrap (jg w k+1)))) x k 7 else wt (qY w ((dV w).set k.toNat (IntKind.i64.wrap (jg w k+1)))) (gH w k,0,fF (ao w).2.1 k (aN x),k,dM x,o):=by
    unfold cK
    exact if_neg (by rw[eL,eC];exact hl)
   have em:am w=fl:=by rw[hw];rfl
   refine qp (fun ho=>?_) (fun q1 q2=>?_)
   ·refine⟨by rw[hw];exact h4,?_⟩
    rw[e0,if_pos (by rw[em];rcases ho with q|q;exact .inl (of_decide_eq_true q);exact .inr (of_decide_eq_true q)),hw]
    rfl
   ·refine⟨h1,h2,h3,?_⟩
    rw[e0,if_neg (by rw[em];rintro (q|q);exact absurd q (of_decide_eq_false q1);exact absurd q (of_decide_eq_false q2)),hw,hx]
    rfl
  rw[hx,hw] at fin
  intro b hb
  have:=fin _ (hw▸eo) b hb
  (repeat refine⟨(by first|(simp;done)|(rw[hb];simp;done)|(rw[hb];simp;omega)),?_⟩)
  exact this
theorem VK:ax Tryz.prog GL 101 MT.spec:=Ct.okH _ Tryz.func101 (by kernel_rfl) (ah (ah (ah (ah aD L7) Pa) ah6) NI) av Tv (aC (by kernel_rfl) V1)
def MZ:Ct:=⟨[.box 37 u3],[],fun d=>[rb d.1,am d.1≠[]],fun d=>((),(cH d.1,()))⟩
def Tm:ar MZ.ps->az:=(fun d=>{cuts:=(fun n=>match n with|8=>some (fun S=>{ι:=au,inv:=fun i=>i=kA d.1,keep:=[0,2,4,5],slots:=fun i=>[],keepN:=[48,80],names:=fun i=>[(1048576,.live (.cells 37 (cB ig (ao i)++[.int .i64 (aV i),.int .i64 (aS i),.int .i64 (bO i),.own 524288 6,.own 524289 1,.own 524290 6,.own 524291 3,.own 524292 5]))),(524288,.live (.row 134 mX (bo i))),(524289,.live (.row 3 cI (dV i))),(524290,.live (.row 116 kK (am i))),(524291,.live (.row 92 tX (bz i))),(524292,.live (.row 61 qG (bf i)))]})|10=>some (fun S=>{ι:=au,inv:=fun i=>i=f6 d.1,keep:=[0,2,4],slots:=fun i=>[],keepN:=[48,80],names:=fun i=>[(1048576,.live (.cells 37 (cB ig (ao i)++[.int .i64 (aV i),.int .i64 (aS i),.int .i64 (bO i),.own 524288 6,.own 524289 1,.own 524290 6,.own 524291 3,.own 524292 5]))),(524288,.live (.row 134 mX (bo i))),(524289,.live (.row 3 cI (dV i))),(524290,.live (.row 116 kK (am i))),(524291,.live (.row 92 tX (bz i))),(524292,.live (.row 61 qG (bf i)))]})|_=>none)})
def bn(i:List (Int×Int×Int×Int×Int×List Int)) :=
 i.getD (Int.toNat (0:Int)) default
def zo(i:List (Int×Int×Int×Int×Int×List Int))(l:List ac)(r:List (List aF×Int×List Int×(Int×Int)×Int)) :=
 dJ (l.getD (Int.toNat (bn i).2.2.1) default) (r.getD (Int.toNat (bn i).2.2.1) default) (bn i).2.2.2.1 (bn i).1 (bn i).2.2.2.2.2
theorem PX :
 ∀(a:List ac)(b:List aE)(c:List aM)(d e f:Int)(g:List (List aF×Int×List Int×(Int×Int)×Int))(h:List Int)(i:List (Int×Int×Int×Int×Int×List Int))(j:List (Int×Int×List Int))(k:List (Int×Int×Int×Int×Int)),(BK a b c d e f g h i j k)/\True->rb ((a,b,c),d,e,f,g,h,i,j,k)/\(am ((a,b,c),d,e,f,g,h,i,j,k)=([]:List aH)->False)->(0:Int)<=0/\0<(i.length:Int)/\(0:Int)<=1/\1<=(i.length:Int)/\qR ((a,b,c),(bn i).1,e,f,g,h,List.drop 1 i,j,k)/\ ∀(l:List ac)(m:List aE)(n:List aM)(o p q:Int)(r:List (List aF×Int×List Int×(Int×Int)×Int))(s:List Int)(t:List (Int×Int×Int×Int×Int×List Int))(u:List (Int×Int×List Int))(v:List (Int×Int×Int×Int×Int)),((l,m,n),o,p,q,r,s,t,u,v)=br ((a,b,c),(bn i).1,e,f,g,h,List.drop 1 i,j,k)->0<=(bn i).2.2.1/\(bn i).2.2.1<(l.length:Int)/\0<=(bn i).2.2.1/\(bn i).2.2.1<(r.length:Int)/\bM (bh (r.getD (Int.toNat (bn
 i).2.2.1) default))/\okL (bh (r.getD (Int.toNat (bn i).2.2.1) default))/\((List.length (jc (r.getD (Int.toNat (bn i).2.2.1) default))):Int)<=1000000/\((List.length (bn i).2.2.2.2.2):Int)<=1000000/\ ∀(w:List aF)(x:Int)(y:List Int)(z A B C:Int)(D:List Int)(E:Int),(w,x,y,(z,A),B)=(zo i l r).1/\(C,D)=(zo i l r).2.1/\E=(zo i l r).2.2->0<=(bn i).2.2.1/\(bn i).2.2.1<(r.length:Int)/\ad (decide (E=1)) ((u.length+List.length [((bn i).1,(bn i).2.2.1,(bn i).2.2.2.2.2)])*(40:Nat)<=(140737488355328:Nat)/\ ∃(F:au),F=kA ((a,b,c),d,e,f,g,h,i,j,k)/\E=E/\(bn i).1=(bn i).1/\(bn i).2.1=(bn i).2.1/\(bn i).2.2.1=(bn i).2.2.1/\(bn i).2.2.2.1=(bn i).2.2.2.1/\(bn i).2.2.2.2.1=(bn i).2.2.2.2.1/\(bn i).2.2.2.2.2=(bn i).2.2.2.2.2/\C=C/\D=D/\l=(ao F).1/\m=(ao F).2.1/\n=(ao F).2.2/\o=aV F/\p=aS F/\q=bO F/\List.set r (Int.toNat (bn
 i).2.2.1) (w,x,y,(z,A),B)=bo F/\s=dV F/\t=am F/\u++[((bn i).1,(bn i).2.2.1,(bn i).2.2.2.2.2)]=bz F/\v=bf F/\True) (∃(F:au),F=kA ((a,b,c),d,e,f,g,h,i,j,k)/\E=E/\(bn i).1=(bn i).1/\(bn i).2.1=(bn i).2.1/\(bn i).2.2.1=(bn i).2.2.1/\(bn i).2.2.2.1=(bn i).2.2.2.1/\(bn i).2.2.2.2.1=(bn i).2.2.2.2.1/\(bn i).2.2.2.2.2=(bn i).2.2.2.2.2/\C=C/\D=D/\l=(ao F).1/\m=(ao F).2.1/\n=(ao F).2.2/\o=aV F/\p=aS F/\q=bO F/\List.set r (Int.toNat (bn i).2.2.1) (w,x,y,(z,A),B)=bo F/\s=dV F/\t=am F/\u=bz F/\v=bf F/\True)/\ ∀(F:au),F=kA ((a,b,c),d,e,f,g,h,i,j,k)->ad (! decide (E=0)) (((List.length (bf (ao F,F.2))):Int)<=1000000000000/\ ∃(G:au),G=f6 ((a,b,c),d,e,f,g,h,i,j,k)/\(bn i).1=(bn i).1/\(bn i).2.1=(bn i).2.1/\(bn i).2.2.1=(bn i).2.2.1/\(bn i).2.2.2.1=(bn i).2.2.2.1/\(bn i).2.2.2.2.1=(bn i).2.2.2.2.1/\(bn
 i).2.2.2.2.2=(bn i).2.2.2.2.2/\C=C/\D=D/\(ao F).1=(ao G).1/\(ao F).2.1=(ao G).2.1/\(ao F).2.2=(ao G).2.2/\aV F=aV G/\aS F=aS G/\bO F=bO G/\bo F=bo G/\dV F=dV G/\am F=am G/\bz F=bz G/\bf (ao F,F.2)++[(dM (bn i),aq (bn i),aN (bn i),(bn i).2.2.2.1,E)]=bf G/\True) (∃(G:au),G=f6 ((a,b,c),d,e,f,g,h,i,j,k)/\(bn i).1=(bn i).1/\(bn i).2.1=(bn i).2.1/\(bn i).2.2.1=(bn i).2.2.1/\(bn i).2.2.2.1=(bn i).2.2.2.1/\(bn i).2.2.2.2.1=(bn i).2.2.2.2.1/\(bn i).2.2.2.2.2=(bn i).2.2.2.2.2/\C=C/\D=D/\(ao F).1=(ao G).1/\(ao F).2.1=(ao G).2.1/\(ao F).2.2=(ao G).2.2/\aV F=aV G/\aS F=aS G/\bO F=bO G/\bo F=bo G/\dV F=dV G/\am F=am G/\bz F=bz G/\bf F=bf G/\True)/\ ∀(G:au),G=f6 ((a,b,c),d,e,f,g,h,i,j,k)->ad (decide (0<(D.length:Int))) (List.Pairwise fg (am (ao G,G.2))/\(∀(H:aH),H∈am (ao
 G,G.2)->ia H<aS (ao G,G.2))/\List.length (am (ao G,G.2))<=(4096:Nat)/\((List.length (bf (ao G,G.2))):Int)<=1000000000000/\List.length (dV (ao G,G.2))=List.length (ao G).2.1/\0<=C/\C<((List.length (ao G).2.1):Int)/\iK (List.length (ao G).1) (cy (ao G,G.2) C)/\cK (ao G,G.2) (bn i) (C,D)=cH ((a,b,c),d,e,f,g,h,i,j,k)) ((ao G,aV G,aS G,bO G,bo G,dV G,am G,bz G,bf G)=cH ((a,b,c),d,e,f,g,h,i,j,k)):=by
  delta bn BK zo
  rintro ns ls hs now ord dn sts cr fl dl en-⟨h,hne⟩
  obtain⟨f,r,rfl⟩:∃ f r,fl=f::r:=List.exists_cons_of_ne_nil hne
  obtain⟨w,hw⟩:∃ w:au,w=((ns,ls,hs),now,ord,dn,sts,cr,f::r,dl,en):=⟨_,rfl⟩
  have e0:(f::r).getD (Int.toNat 0) default=f:=rfl
  have e1:List.drop 1 (f::r)=r:=rfl
  simp only[e0,e1]
  rw[← hw] at h ⊢
  have A:=h.at (w:=w) (f:=f) (r:=r) (by rw[hw];rfl)
  have ew:bU (bi w (am w).tail) (aq (f7 w))=((ns,ls,hs),f.1,ord,dn,sts,cr,r,dl,en):=by rw[A.eF,hw];rfl
  refine⟨by omega,by simp only[List.length_cons];omega,by omega,by simp only[List.length_cons];omega,by rw[← ew];exact .inl A.h0.weak,?_⟩
  rw[← ew]
  intro a1 a2 a3 a4 a5 a6 a7 a8 a9 a10 a11 hv
  have hv:((a1,a2,a3),a4,a5,a6,a7,a8,a9,a10,a11)=dh w:=hv
  have hi:(aN f).toNat<(ao (dh w)).1.length:=by have:=A.fk.nd;omega
  have hnd:=A.fk.nd
  have hlen:=A.s.len
  obtain⟨st,-⟩:=A.s.st _ hi
  have N:=rp A.s.net hi
  have hps:=st.ps
  have hn32:=N.n32
  have hdl:=h.d
  have hen:=h.e
  have E1:a1=(ao (dh w)).1:=by rw[← hv];rfl
  have E7:a7=bo (dh w):=by rw[← hv];rfl
  have E10:a10=bz w:=by rw[← A.dl,← hv];rfl
  have E11:a11=bf w:=by rw[← A.en,← hv];rfl
  have E9:a9=am (dh w):=by rw[← hv];rfl
  have eH:gT w=dJ (a1.getD (aN f).toNat default) (a7.getD (aN f).toNat default) (dW f) (aq f) (c9 f):=by unfold gT aK;rw[A.eF,E1,E7]
  have hfd:=A.fk.d
  refine⟨hnd.1,by rw[E1];exact hnd.2,hnd.1,by rw[E7,hlen];exact hnd.2,by rw[E7];exact st.srt,by rw[E7];exact st.okl,by rw[E7];show ((jc ((bo (dh w)).getD (aN f).toNat default)).length:Int)<=1000000;omega,by show ((c9 f).length:Int)<=1000000;omega,?_⟩
  intro b1 b2 b3 b4 b5 b6 o1 o2 why hh
  obtain⟨hh1,hh2,hh3⟩:=hh
  have hh1:(b1,b2,b3,(b4,b5),b6)=(gT w).1:=by rw[eH];exact hh1
  have hh2:(o1,o2)=(gT w).2.1:=by rw[eH];exact hh2
  have hh3:why=(gT w).2.2:=by rw[eH];exact hh3
  have eA:r6 w=((a1,a2,a3),a4,a5,a6,a7.set (aN f).toNat (b1,b2,b3,(b4,b5),b6),a8,a9,a10,a11):=by unfold r6;rw[A.eF,hh1,← hv];rfl
  refine⟨hnd.1,by rw[E7,hlen];exact hnd.2,?_⟩
  have lenD:((bz w).length:Int)<=999999999000:=by omega
  have lenE:((bf w).length:Int)<=999999999000:=by omega
  refine⟨ae (fun k=>?_) (fun k=>?_),?_⟩
  ·have k:why=1:=of_decide_eq_true k
   have eB:kA w=((a1,a2,a3),a4,a5,a6,a7.set (aN f).toNat (b1,b2,b3,(b4,b5),b6),a8,a9,a10++[(aq f,aN f,c9 f)],a11):=by
    rw[sM,if_pos (hh3▸k),eA,A.eF,← hv];rfl
   exact⟨by rw[E10];simp only[List.length_singleton];omega,_,eB.symm,(by repeat' first|exact trivial|refine⟨trivial,?_⟩|refine⟨(by with_reducible rfl),?_⟩|refine⟨ai (by omega) (by omega),?_⟩|refine⟨rfl,?_⟩)⟩
  ·have k:¬ why=1:=of_decide_eq_false k
   have eB:kA w=((a1,a2,a3),a4,a5,a6,a7.set (aN f).toNat (b1,b2,b3,(b4,b5),b6),a8,a9,a10,a11):=by
    rw[sM,if_neg (hh3▸k),eA,← hv];rfl
   exact⟨_,eB.symm,(by repeat' first|exact trivial|refine⟨trivial,?_⟩|refine⟨(by with_reducible rfl),?_⟩|refine⟨ai (by omega) (by omega),?_⟩|refine⟨rfl,?_⟩)⟩
  rintro B rfl
  have eBn:bf (kA w)=bf w:=by rw[sM];show bf (r6 w)=_;rw[eA];exact E11
  refine⟨ae (fun k=>?_) (fun k=>?_),?_⟩
  ·have k:¬ why=0:=gC k
   refine⟨by show ((bf (kA w)).length:Int)<=_;rw[eBn];omega,f6 w,rfl,?_⟩
   have eC:f6 w=Er (kA w) (bf (kA w)++[(dM f,aq f,aN f,dW f,why)]):=by rw[uW,if_pos (hh3▸k),A.eF,← hh3,eBn,← A.en]
   rw[eC]
   exact (by repeat' first|exact trivial|refine⟨trivial,?_⟩|refine⟨(by with_reducible rfl),?_⟩|refine⟨ai (by omega) (by omega),?_⟩|refine⟨rfl,?_⟩)
  ·have k:why=0:=hT k
   refine⟨f6 w,rfl,?_⟩
   have eC:f6 w=kA w:=by unfold f6;rw[if_neg (by rw[← hh3,k];simp)]
   rw[eC]
   exact (by repeat' first|exact trivial|refine⟨trivial,?_⟩|refine⟨(by with_reducible rfl),?_⟩|refine⟨ai (by omega) (by omega),?_⟩|refine⟨rfl,?_⟩)
  rintro C rfl
  have eCe:∃ l,bf (f6 w)=l/\(l.length:Int)<=1000000000000:=by
   refine⟨_,rfl,?_⟩
   rw[uW]
   show ((if (gT w).2.2≠0 then bf (dh w)++[(dM (f7 w),aq (f7 w),aN (f7 w),dW (f7 w),(gT w).2.2)] else bf (dh w)).length:Int)<=_
   rw[A.en]
   split
   ·rw[List.length_append,List.length_singleton];omega
   ·omega
  obtain⟨l,el,hl⟩:=eCe
  have c1:ao (f6 w)=ao w:=by rw[uW,sM];exact A.net
  have c2:am (f6 w)=am (dh w):=by rw[uW,sM];rfl
  have c3:aS (f6 w)=aS (dh w):=by rw[uW,sM];rfl
  have c4:dV (f6 w)=dV (dh w):=by rw[uW,sM];rfl
  have hO:(gT w).2.1=(o1,o2):=hh2.symm
  refine ae (fun k=>?_) (fun k=>?_)
  ·have k:0<(o2.length:Int):=of_decide_eq_true k
   obtain⟨k1,k2,k3⟩:=A.out (by rw[hO];show 0<o2.length;omega)
   rw[hO] at k1 k2 k3
   refine⟨by show (am (f6 w)).Pairwise fg;rw[c2];exact A.s.fl,?_,by show (am (f6 w)).length<=4096;rw[c2];exact A.s.fn,by show ((bf (f6 w)).length:Int)<=_;rw[el];exact hl,by show (dV (f6 w)).length=(ao (f6 w)).2.1.length;rw[c4,c1,← A.net];exact A.s.cl,k1,by rw[c1];exact k2,by show iK (ao (f6 w)).1.length ((ao (f6 w)).2.1.getD o1.toNat default);rw[c1];exact k3,?_⟩
   ·show ∀ x∈am (f6 w),ia x<aS (f6 w)
    rw[c2,c3]
    exact fun x hx=>(A.s.fo x hx).o.2
   ·rw[Na,hO,if_pos (by show 0<o2.length;omega),A.eF]
    rfl
  ·have k:¬ 0<(o2.length:Int):=of_decide_eq_false k
   rw[Na,hO,if_neg (by show ¬ 0<o2.length;omega)]
   rfl
theorem UO:ax Tryz.prog GL 44 MZ.spec:=Ct.okH _ Tryz.func44 (by kernel_rfl) (F7 (ah (ah (ah (ah aD (Ct.named LA)) (Ct.named P3)) Pa) VK) (d:=17)) av Tm (aC (by kernel_rfl) PX)
end Go.RS

/- SimV: the program's simulator: beginning, sending, steps, runs. -/
namespace Go.RS
open Go.SX Go.Proofs
set_option maxRecDepth 100000
set_option linter.unusedVariables false
def tF(n:bw):au:=if d9 n=0 then jv n else wo
def nz(w:au):Int:=if am w=[] then 0 else aq ((am w).headD default)
def nO(w:au):Bool:=decide (am w≠[])
def fX(w:au)(at' who:Int):Int:=if who<0∨((ao w).1.length:Int)<=who then 8 else if 1125899906842624<at' then 1 else if at'<aV w then 6 else if (4096:Int)<=(am w).length then 5 else 0
def kw(w:au)(at' who:Int)(b:List Int):au:=if fX w at' who=0 then gb w at' who b else wo
def me(w:au)(at' who:Int):Int:=if fX w at' who=0 then aS w else 0
def Mj(w:au):au:=if am w=[] then w else cH w
def jd(w:au)(to:Int):Int:=if 1125899906842624<to then 1 else if to<aV w then 6 else 0
def mw(w:au)(to:Int):au:=if jd w to=0 then j5 w to else wo
def Hp:Ct:=⟨[.agg ig],[.agg mZ,.val cI],fun d=>[mP d.1],fun d=>((tF d.1,d9 d.1,()),())⟩
def VF:ar Hp.ps->az:=(fun d=>{loops:=(fun n=>match n with|6=>some (fun S=>{ι:=Int×(List bq),qn:=⟨fun k_=>∀(j:Int)(st:(List bq)),k_ (j,st),fun k_ h_ i=>h_ i.1 i.2,fun k_=>∃ (j:Int) (st:(List bq)),k_ (j,st),fun k_ ⟨j,st,h_⟩=>⟨_,h_⟩⟩,μ:=fun i=>(d.1.1.length-i.1).toNat,inv:=fun i=>0<=i.1/\i.1<=d.1.1.length/\i.2=(d.1.1.take i.1.toNat).map lr,keep:=[1,2,5,22,23],slots:=fun i=>[(24,.int .i64 i.1)],keepN:=[32,48,320],names:=fun i=>[(96,.live (.cells 37 (cB ig d.1++[.int .i64 0,.int .i64 0,.int .i64 0,.own 524288 6,.own 320 1,.nilsl,.nilsl,.nilsl]))),(524288,.live (.row 134 mX i.2))]})|_=>none)})
def pD :=
 ((([]:List ac),([]:List aE),([]:List aM)),(0:Int),(0:Int),(0:Int),([]:List (List aF×Int×List Int×(Int×Int)×Int)),([]:List Int),([]:List (Int×Int×Int×Int×Int×List Int)),([]:List (Int×Int×List Int)),([]:List (Int×Int×Int×Int×Int)))
def FU(a:List ac)(d:Int) :=
 (aQ (a.getD d.toNat default),(0:Int),List.replicate (List.length (aA (a.getD d.toNat default))) (0:Int),(w ((a.getD d.toNat default).2.2.2.2.2.2.2.2.2.2.1.1*(a.getD d.toNat default).2.2.2.2.2.2.2.2.2.2.1.2),(0:Int)),(0:Int))
theorem WD :
 ∀(a:List ac)(b:List aE)(c:List aM),((a.length<=maxLen/\ ∀(d:ac),d∈a->CT.wf bH d)/\(b.length<=maxLen/\ ∀(d:aE),d∈b->CT.wf fB d)/\c.length<=maxLen/\ ∀(d:aM),d∈c->CT.wf d8 d)/\True->((a.length:Int)<=1000000/\(b.length:Int)<=1000000/\(c.length:Int)<=1000000/\(∀(d:ac),d∈a->((List.length (aA d)):Int)<=1000000/\okL (aQ d))/\ ∀(d:aM),d∈c->((List.length (db d).2.1):Int)<=1099511627776)->(∀(d:aM),d∈c->((List.length (db d).2.1):Int)<=1099511627776)/\ad (! decide (d9 (a,b,c)=0)) ((pD)=tF (a,b,c)/\d9 (a,b,c)=d9 (a,b,c)) (mP (a,b,c)/\0<=(b.length:Int)/\(b.length:Int)<=(b.length:Int)/\(↑(8:Nat):Int)*(b.length:Int)<=281474976710656/\(∃(d:Int) (e:List bq),(0<=d/\d<=(a.length:Int)/\e=List.map lr (List.take d.toNat
 a))/\a=a/\(a.length:Int)=(a.length:Int)/\(0:Int)=d/\a=a/\b=b/\c=c/\(0:Int)=0/\(0:Int)=0/\(0:Int)=0/\List.replicate (Int.toNat (b.length:Int)) (0:Int)=List.replicate (Int.toNat (b.length:Int)) (0:Int)/\a=a/\b=b/\c=c/\(0:Int)=0/\(0:Int)=0/\(0:Int)=0/\e=([]:List (List aF×Int×List Int×(Int×Int)×Int))/\True)/\ ∀(d:Int)(e:List bq),0<=d/\d<=(a.length:Int)/\e=List.map lr (List.take d.toNat a)->ad (decide (d<(a.length:Int))) (0<=d/\d<(a.length:Int)/\okL (aQ (a.getD d.toNat default))/\((List.length (aA (a.getD d.toNat default))):Int)<=1000000/\(e.length+List.length [(FU a d)])*(80:Nat)<=(140737488355328:Nat)/\ ∃(f:Int) (g:List bq),(0<=f/\f<=(a.length:Int)/\g=List.map lr (List.take f.toNat a))/\Int.toNat ((a.length:Int) -f)<Int.toNat ((a.length:Int) -d)/\a=a/\(a.length:Int)=(a.length:Int)/\IntKind.wrap .i64
 (d+(1:Int))=f/\a=a/\b=b/\c=c/\(0:Int)=0/\(0:Int)=0/\(0:Int)=0/\List.replicate (Int.toNat (b.length:Int)) (0:Int)=List.replicate (Int.toNat (b.length:Int)) (0:Int)/\a=a/\b=b/\c=c/\(0:Int)=0/\(0:Int)=0/\(0:Int)=0/\e++[(FU a d)]=g/\True) (((a,b,c),(0:Int),(0:Int),(0:Int),e,List.replicate (Int.toNat (b.length:Int)) (0:Int),([]:List (Int×Int×Int×Int×Int×List Int)),([]:List (Int×Int×List Int)),([]:List (Int×Int×Int×Int×Int)))=tF (a,b,c)/\(0:Int)=d9 (a,b,c))):=by
  delta pD FU
  rintro ns ls hs ⟨⟨⟨hl0,-⟩,⟨hl1,-⟩,-⟩,-⟩⟨h1,h2,h3,h4,h5⟩
  have h1:(ns.length:Int)<=1000000:=h1
  have h2:(ls.length:Int)<=1000000:=h2
  refine⟨h5,ae (fun h=>?_) (fun h=>?_)⟩
  ·have h:=gC h
   exact⟨by unfold tF;rw[if_neg h];rfl,by trivial⟩
  have h:=hT h
  refine⟨⟨h1,h2,h3,h4,h5⟩,by omega,by omega,by omega,⟨0,[],⟨by omega,by omega,rfl⟩,(by repeat' first|exact trivial|refine⟨trivial,?_⟩|refine⟨(by with_reducible rfl),?_⟩|refine⟨ai (by omega) (by omega),?_⟩|refine⟨rfl,?_⟩)⟩,?_⟩
  rintro j st ⟨j0,j1,rfl⟩
  refine ae (fun hj=>?_) (fun hj=>?_)
  ·have hj:=of_decide_eq_true hj
   have hx:=h4 _ (bL j0 hj)
   refine⟨j0,hj,hx.2,hx.1,by simp only[List.length_map,List.length_take,List.length_singleton];omega,j+1,_,⟨by omega,by omega,rfl⟩,by omega,?_⟩
   (repeat first|refine⟨trivial,?_⟩|refine⟨(by with_reducible rfl),?_⟩|refine⟨ai (by omega) (by omega),?_⟩)
   refine⟨?_,trivial⟩
   rw[r9 j0 hj,List.map_append]
   rfl
  ·have hj:=of_decide_eq_false hj
   refine⟨?_,h.symm⟩
   unfold tF jv
   rw[if_pos h,List.take_of_length_le (by omega)]
   rfl
theorem Kf:ax Tryz.prog GL 17 Hp.spec:=Ct.okH _ Tryz.func17 (by kernel_rfl) (ah (ah (ah aD XD) Pv) an4) av VF (aC (by kernel_rfl) WD)
def Oi:Ct:=⟨[.agg mZ],[.val cI,.val .bool],fun _=>[],fun d=>((nz d.1,nO d.1,()),())⟩
def ac7:ar Oi.ps->az:=(fun _=>{})
theorem ar4 :
 ∀(a:(List ac×List aE×List aM)×Int×Int×Int×List (List aF×Int×List Int×(Int×Int)×Int)×List Int×List (Int×Int×Int×Int×Int×List Int)×List (Int×Int×List Int)×List (Int×Int×Int×Int×Int)),CT.wf mZ a/\True->True->ad (decide ((a.2.2.2.2.2.2.1.length:Int)=0)) ((0:Int)=nz a/\false=nO a) ((0:Int)<=0/\0<(a.2.2.2.2.2.2.1.length:Int)/\(List.getD a.2.2.2.2.2.2.1 (Int.toNat (0:Int)) default).1=nz a/\true=nO a):=by
  intro d _ _
  have eF:d.2.2.2.2.2.2.1=am d:=rfl
  rw[eF]
  unfold nz nO
  cases e:am d with
  | nil=>exact⟨rfl,rfl⟩
  | cons f r=>exact⟨by omega,by simp only[List.length_cons];omega,rfl,rfl⟩
theorem af7:ax Tryz.prog GL 26 Oi.spec:=Ct.okH _ Tryz.func26 (by kernel_rfl) aD av ac7 (aC (by kernel_rfl) ar4)
def KS:Ct:=⟨[.agg mZ,.val cI,.val cI,.val (.sl bj)],[.agg mZ,.val cI,.val cI],fun d=>[jt d.1,(d.2.2.2.1.length:Int)<=1000000],fun d=>((kw d.1 d.2.1 d.2.2.1 d.2.2.2.1,me d.1 d.2.1 d.2.2.1,fX d.1 d.2.1 d.2.2.1,()),())⟩
def YD:ar KS.ps->az:=(fun _=>{})
theorem ar2 :
 ∀(a:(List ac×List aE×List aM)×Int×Int×Int×List (List aF×Int×List Int×(Int×Int)×Int)×List Int×List (Int×Int×Int×Int×Int×List Int)×List (Int×Int×List Int)×List (Int×Int×Int×Int×Int))(b c:Int)(d:List Int),CT.wf mZ a/\ab b/\ab c/\(d.length<=maxLen/\ ∀(e:Int),e∈d->0<=e/\e<=255)/\True->jt a/\(d.length:Int)<=1000000-> ∀(e:Bool),e=decide (c<0)->((! e)->((! e)->(! e))/\True)/\((! e)->((! e)->(! e))/\True)/\((! e)->((! e)->(! e))/\True)/\((! e)->((! e)->(! e))/\((! e)->(! e))/\True)/\(e=false->(! e))/\ad (bif e then true else decide ((a.1.1.length:Int)<=c)) ((pD)=kw a b c d/\(0:Int)=me a b c/\(8:Int)=fX a b c) (ad (decide (1125899906842624<b)) ((pD)=kw a b c d/\(0:Int)=me a b c/\(1:Int)=fX a b c) (ad (decide (b<a.2.1)) ((pD)=kw a b c d/\(0:Int)=me a b c/\(6:Int)=fX a b c) (ad (decide (4096<=(a.2.2.2.2.2.2.1.length:Int))) ((pD)=kw a b c
 d/\(0:Int)=me a b c/\(5:Int)=fX a b c) (uY a/\(d.length:Int)<=1099511627776/\List.Pairwise fg (am a)/\(∀(f:aH),f∈am a->ia f<aS a)/\List.length (am a)<=(4096:Nat)/\(a.1,a.2.1,IntKind.wrap .i64 (aS a+(1:Int)),a.2.2.2.1,a.2.2.2.2.1,a.2.2.2.2.2.1,bT (am a) (aq (b,(0:Int),c,(-1:Int),a.2.2.1,d),aS a,c,(-1:Int),a.2.2.1,d),a.2.2.2.2.2.2.2)=kw a b c d/\a.2.2.1=me a b c/\(0:Int)=fX a b c)))):=by
  delta pD
  rintro d t who b-⟨hE,hb⟩
  (repeat (intro (b_:Bool) (hb_:b_=_);(repeat refine⟨(by first|(simp;done)|(rw[hb_];simp;done)|(rw[hb_];simp;omega)|(rw[hb_];simp;intros;omega)|(rw[hb_];simp +contextual;done)),?_⟩);subst hb_))
  refine qp (fun ho=>?_) (fun q1 q2=>?_)
  ·have e:fX d t who=8:=by unfold fX;rw[if_pos (by rcases ho with q|q;exact .inl (of_decide_eq_true q);exact .inr (of_decide_eq_true q))]
   unfold kw me
   rw[e]
   exact⟨rfl,rfl,rfl⟩
  have q1:=of_decide_eq_false q1
  have q2:=of_decide_eq_false q2
  have h:rb d:=hE.resolve_right fun q=>by
   have q3:d.1.1=[]:=by rw[q.1];rfl
   rw[q3] at q2;simp at q2;omega
  have hfn:=h.s.fn
  have e1:fX d t who=if 1125899906842624<t then 1 else if t<aV d then 6 else if (4096:Int)<=(am d).length then 5 else 0:=by
   unfold fX;rw[if_neg (by rintro (q|q);exact q1 q;exact q2 q)]
  refine ae (fun k=>?_) (fun k=>?_)
  ·have e:fX d t who=1:=by rw[e1,if_pos (of_decide_eq_true k)]
   unfold kw me
   rw[e]
   exact⟨rfl,rfl,rfl⟩
  rw[if_neg (of_decide_eq_false k)] at e1
  refine ae (fun k=>?_) (fun k=>?_)
  ·have k:t<aV d:=of_decide_eq_true k
   have e:fX d t who=6:=by rw[e1,if_pos k]
   unfold kw me
   rw[e]
   exact⟨rfl,rfl,rfl⟩
  have k:¬ t<aV d:=of_decide_eq_false k
  rw[if_neg k] at e1
  refine ae (fun k=>?_) (fun k=>?_)
  ·have k:(4096:Int)<=(am d).length:=of_decide_eq_true k
   have e:fX d t who=5:=by rw[e1,if_pos k]
   unfold kw me
   rw[e]
   exact⟨rfl,rfl,rfl⟩
  have k:¬ (4096:Int)<=(am d).length:=of_decide_eq_false k
  rw[if_neg k] at e1
  unfold kw me
  rw[e1]
  exact⟨h.cp,by omega,h.s.fl,fun x hx=>(h.s.fo x hx).o.2,hfn,rfl,rfl,rfl⟩
theorem F8:ax Tryz.prog GL 13 KS.spec:=Ct.okH _ Tryz.func13 (by kernel_rfl) (ah (ah (ah aD MW) py) NI) av YD (aC (by kernel_rfl) ar2)
def M5:Ct:=⟨[.agg mZ,.val cI],[.agg mZ,.val cI],fun d=>[jt d.1],fun d=>((mw d.1 d.2.1,jd d.1 d.2.1,()),())⟩
def Ue:ar M5.ps->az:=(fun d=>{loops:=(fun n=>match n with|7=>some (fun S=>{ι:=au×Int×Bool,qn:=⟨fun k_=>∀(v:au)(t:Int)(ok:Bool),k_ (v,t,ok),fun k_ h_ i=>h_ i.1 i.2.1 i.2.2,fun k_=>∃ (v:au) (t:Int) (ok:Bool),k_ (v,t,ok),fun k_ ⟨v,t,ok,h_⟩=>⟨_,h_⟩⟩,μ:=fun i=>ic i.1,inv:=fun i=>jt i.1/\jH i.1 d.2.1=jH d.1 d.2.1/\i.2.1=nz i.1/\i.2.2=nO i.1,keep:=[1,2,4],slots:=fun i=>[(6,.int .i64 i.2.1),(7,.bool i.2.2)],keepN:=[80],names:=fun i=>[(48,.live (.cells 37 (cB ig (ao i.1)++[.int .i64 (aV i.1),.int .i64 (aS i.1),.int .i64 (bO i.1),.own 524288 6,.own 524289 1,.own 524290 6,.own 524291 3,.own 524292 5]))),(524288,.live (.row 134 mX (bo i.1))),(524289,.live (.row 3 cI (dV i.1))),(524290,.live (.row 116 kK (am i.1))),(524291,.live (.row 92 tX (bz i.1))),(524292,.live (.row 61 qG (bf i.1)))]})|_=>none)})
def lX(c:au) :=
 cH (ao c,c.2)
theorem Vs :
 ∀(a:(List ac×List aE×List aM)×Int×Int×Int×List (List aF×Int×List Int×(Int×Int)×Int)×List Int×List (Int×Int×Int×Int×Int×List Int)×List (Int×Int×List Int)×List (Int×Int×Int×Int×Int))(b:Int),CT.wf mZ a/\ab b/\True->rb a∨mH a->ad (decide (1125899906842624<b)) ((pD)=mw a b/\(1:Int)=jd a b) (ad (decide (b<a.2.1)) ((pD)=mw a b/\(6:Int)=jd a b) (uY a/\(∃(c:au) (d:Int),∃(e:Bool),(jt c/\jH c b=jH a b/\d=nz c/\e=nO c)/\b=b/\nz a=d/\nO a=e/\(0:Int)=0/\(0:Int)=0/\(0:Int)=0/\a.1.1=(ao c).1/\a.1.2.1=(ao c).2.1/\a.1.2.2=(ao c).2.2/\a.2.1=aV c/\a.2.2.1=aS c/\a.2.2.2.1=bO c/\a.2.2.2.2.1=bo c/\a.2.2.2.2.2.1=dV c/\a.2.2.2.2.2.2.1=am c/\a.2.2.2.2.2.2.2.1=bz c/\a.2.2.2.2.2.2.2.2=bf c/\True)/\ ∀(c:au)(d:Int)(e:Bool),jt c/\jH c b=jH a b/\d=nz c/\e=nO c-> ∀(f:Bool),f=e->(f->(f->f)/\(f->f)/\True)/\(f->f)/\ad (bif f then decide
 (d<=b) else false) (rb (ao c,c.2)/\am (ao c,c.2)≠([]:List aH)/\ ∃(g:au) (h:Int),∃(i:Bool),(jt g/\jH g b=jH a b/\h=nz g/\i=nO g)/\ic g<ic c/\b=b/\nz (lX c)=h/\nO (lX c)=i/\(0:Int)=0/\(0:Int)=0/\(0:Int)=0/\(lX c).1.1=(ao g).1/\(lX c).1.2.1=(ao g).2.1/\(lX c).1.2.2=(ao g).2.2/\(lX c).2.1=aV g/\(lX c).2.2.1=aS g/\(lX c).2.2.2.1=bO g/\(lX c).2.2.2.2.1=bo g/\(lX c).2.2.2.2.2.1=dV g/\(lX c).2.2.2.2.2.2.1=am g/\(lX c).2.2.2.2.2.2.2.1=bz g/\(lX c).2.2.2.2.2.2.2.2=bf g/\True) (qR (ao c,b,c.2.2)/\br (ao c,b,c.2.2)=mw a b/\(0:Int)=jd a b))):=by
  delta pD lX
  rintro d to-h
  have h:jt d:=h
  refine ae (fun k=>?_) (fun k=>?_)
  ·have k:=of_decide_eq_true k
   have e:jd d to=1:=by unfold jd;rw[if_pos k]
   unfold mw
   rw[e]
   exact⟨rfl,rfl⟩
  have k:=of_decide_eq_false k
  refine ae (fun q=>?_) (fun q=>?_)
  ·have q:to<aV d:=of_decide_eq_true q
   have e:jd d to=6:=by unfold jd;rw[if_neg k,if_pos q]
   unfold mw
   rw[e]
   exact⟨rfl,rfl⟩
  have q:¬ to<aV d:=of_decide_eq_false q
  have e:jd d to=0:=by unfold jd;rw[if_neg k,if_neg q]
  have hnow:0<=aV d:=by rcases h with q|q;exact q.s.now.1;exact q.2.1
  have hnq:aV d<=to:=by omega
  refine⟨h.cp,⟨d,_,_,⟨h,rfl,rfl,rfl⟩,(by repeat' first|exact trivial|refine⟨trivial,?_⟩|refine⟨(by with_reducible rfl),?_⟩|refine⟨ai (by omega) (by omega),?_⟩|refine⟨rfl,?_⟩)⟩,?_⟩
  rintro v t ok ⟨hv,he,rfl,rfl⟩
  have hv:jt v:=hv
  (repeat (intro (b_:Bool) (hb_:b_=_);(repeat refine⟨(by first|(simp;done)|(rw[hb_];simp;done)|(rw[hb_];simp;omega)|(rw[hb_];simp;intros;omega)|(rw[hb_];simp +contextual;done)),?_⟩);subst hb_))
  have eB:(bif nO v then decide (nz v<=to) else false)=gG v to:=by
   unfold nO nz gG
   cases am v with
   | nil=>rfl
   | cons f r=>rfl
  rw[eB]
  refine ae (fun hb=>?_) (fun hb=>?_)
  ·cases ef:am v with
   | nil=>unfold gG at hb;rw[ef] at hb;cases hb
   | cons f r =>
    have hv:=hv.fl (by rw[ef];simp)
    obtain⟨s1,s2⟩:=hv.step ef
    exact⟨hv,by show am v≠[];rw[ef];simp,cH v,_,_,⟨.inl s1,(IK hv.s.weak hb).symm.trans he,rfl,rfl⟩,s2,(by repeat' first|exact trivial|refine⟨trivial,?_⟩|refine⟨(by with_reducible rfl),?_⟩|refine⟨ai (by omega) (by omega),?_⟩|refine⟨rfl,?_⟩)⟩
  ·have hR:jH d to=v:=by rw[← he];exact HO hb
   refine⟨by rcases hv with q|q;exact .inl (q.s.wait hb ⟨by omega,by omega⟩).weak;exact q.ch to,?_,e.symm⟩
   unfold mw
   rw[if_pos e]
   show br (bU v to)=br (bU (jH d to) to)
   rw[hR]
theorem He:ax Tryz.prog GL 12 M5.spec:=Ct.okH _ Tryz.func12 (by kernel_rfl) (ah (ah (ah (ah aD MW) af7) UO) LA) av Ue (aC (by kernel_rfl) Vs)
end Go.RS

/- Ref14: the reference's networks. -/
namespace Go.RS
open Go.SX Go.Proofs
set_option maxRecDepth 100000
set_option linter.unusedVariables false
end Go.RS

/- Ref14c: the reference's check of networks. -/
namespace Go.RS
open Go.SX Go.Proofs
set_option maxRecDepth 100000
set_option linter.unusedVariables false
end Go.RS

/- SimR: the reference's simulator. -/
namespace Go.RS
open Go.SX Go.Proofs
set_option maxRecDepth 100000
set_option linter.unusedVariables false
set_option maxHeartbeats 2000000
instance:DecidableEq Rt:=inferInstanceAs (DecidableEq ((Int×Int)×List Int×Int))
instance:DecidableEq bq:=inferInstanceAs (DecidableEq (List Rt×Int×List Int×(Int×Int)×Int))
def HE:Ct:=⟨[.val (.sl qG),.val (.sl qG)],[.val .bool],fun _=>[],fun d=>((decide (d.1=d.2.1),()),())⟩
def aj9:ar HE.ps->az:=(fun d=>{loops:=(fun n=>match n with|4=>some (fun S=>{ι:=Int,μ:=fun i=>(d.1.length-i).toNat,inv:=fun i=>0<=i/\i<=d.1.length/\d.1.length=d.2.1.length/\d.1.take i.toNat=d.2.1.take i.toNat,keep:=[0,1],slots:=fun i=>[(5,.int .i64 i)],names:=fun i=>[]})|_=>none)})
theorem QM :
 ∀(a b:List (Int×Int×Int×Int×Int)),(a.length<=maxLen/\ ∀(c:Int×Int×Int×Int×Int),c∈a->ab c.1/\ab c.2.1/\ab c.2.2.1/\ab c.2.2.2.1/\ab c.2.2.2.2)/\(b.length<=maxLen/\ ∀(c:Int×Int×Int×Int×Int),c∈b->ab c.1/\ab c.2.1/\ab c.2.2.1/\ab c.2.2.2.1/\ab c.2.2.2.2)/\True->True->ad (! decide ((a.length:Int)=(b.length:Int))) (false=decide (a=b)) ((∃(c:Int),(0<=c/\c<=(a.length:Int)/\a.length=b.length/\List.take c.toNat a=List.take c.toNat b)/\a=a/\b=b/\(0:Int)=c/\True)/\ ∀(c:Int),0<=c/\c<=(a.length:Int)/\a.length=b.length/\List.take c.toNat a=List.take c.toNat b->ad (decide (c<(a.length:Int))) (0<=c/\c<(a.length:Int)/\0<=c/\c<(b.length:Int)/\ad (! (decide ((a.getD c.toNat default).1=(b.getD c.toNat default).1)&&(decide ((a.getD c.toNat default).2.1=(b.getD c.toNat default).2.1)&&(decide ((a.getD c.toNat default).2.2.1=(b.getD c.toNat default).2.2.1)&&(decide ((a.getD c.toNat
 default).2.2.2.1=(b.getD c.toNat default).2.2.2.1)&&(decide ((a.getD c.toNat default).2.2.2.2=(b.getD c.toNat default).2.2.2.2)&&true)))))) (false=decide (a=b)) (∃(d:Int),(0<=d/\d<=(a.length:Int)/\a.length=b.length/\List.take d.toNat a=List.take d.toNat b)/\Int.toNat ((a.length:Int) -d)<Int.toNat ((a.length:Int) -c)/\a=a/\b=b/\IntKind.wrap .i64 (c+(1:Int))=d/\True)) (true=decide (a=b))):=by
  rintro x y ⟨⟨hl,-⟩,-⟩ -
  simp only[maxLen] at hl
  refine ae (fun h=>?_) (fun h=>?_)
  ·have h:=gC h
   exact (decide_eq_false (fun e=>h (by rw[e]))).symm
  have h:=hT h
  refine⟨⟨0,⟨by omega,by omega,by omega,rfl⟩,(by repeat' first|exact trivial|refine⟨trivial,?_⟩|refine⟨(by with_reducible rfl),?_⟩|refine⟨ai (by omega) (by omega),?_⟩|refine⟨rfl,?_⟩)⟩,?_⟩
  rintro j ⟨j0,j1,j2,j3⟩
  refine ae (fun hj=>?_) (fun hj=>?_)
  ·have hj:=of_decide_eq_true hj
   refine⟨j0,hj,j0,by omega,ae (fun k=>?_) (fun k=>?_)⟩
   ·refine (decide_eq_false (fun e=>?_)).symm
    rw[e] at k
    simp at k
   ·simp only[Bool.not_eq_false',Bool.and_eq_true,decide_eq_true_eq,and_true] at k
    obtain⟨k1,k2,k3,k4,k5⟩:=k
    have ee:x.getD j.toNat default=y.getD j.toNat default:=Prod.ext k1 (Prod.ext k2 (Prod.ext k3 (Prod.ext k4 k5)))
    exact⟨j+1,⟨by omega,by omega,j2,by rw[r9 j0 hj,r9 j0 (by omega),j3,ee]⟩,by omega,(by repeat' first|exact trivial|refine⟨trivial,?_⟩|refine⟨(by with_reducible rfl),?_⟩|refine⟨ai (by omega) (by omega),?_⟩|refine⟨rfl,?_⟩)⟩
  ·have hj:=of_decide_eq_false hj
   rw[List.take_of_length_le (by omega),List.take_of_length_le (by omega)] at j3
   exact (decide_eq_true j3).symm
theorem YP:ax Tryz.prog GL 14 HE.spec:=Ct.okH _ Tryz.func14 (by kernel_rfl) aD av aj9 (aC (by kernel_rfl) QM)
end Go.RS

/- Oddnet: networks with one field changed. -/
namespace Go.RS
open Go.SX Go.Proofs
set_option maxRecDepth 100000
set_option linter.unusedVariables false
def Xt(k:Int)(x:ac):Prop:=(x.1.length:Int)<=k/\(aQ x).length<=k∧∀ r∈aQ x,(r.2.1.length:Int)<=k
def Jl(k:Int)(n:bw):Prop:=(n.1.length:Int)<=k/\(n.2.1.length:Int)<=k/\(n.2.2.length:Int)<=k/\(∀ x∈n.1,Xt k x)∧∀ c∈n.2.2,(c.2.2.2.2.1.length:Int)<=k
end Go.RS

/- Law13c: the checks of nodes. -/
namespace Go.RS
open Go.SX Go.Proofs
set_option maxRecDepth 100000
set_option linter.unusedVariables false
theorem DN.nb{n:bw}(h:DN n):Jl 1000 n:=by
 have n7:=h.n7
 have l10:=h.l10
 have h3:=h.h3
 refine⟨by omega,by omega,by omega,fun x hx=>?_,fun c hc=>?_⟩
 ·obtain⟨i,hi,rfl⟩:=List.mem_iff_getElem.1 hx
  have e:n.1.getD i default=n.1[i]:=by rw[List.getD_eq_getElem?_getD,List.getElem?_eq_getElem hi,Option.getD_some]
  have p:=h.p i hi
  have t:=h.t i hi
  rw[e] at p t
  have hl:=yF i 0 n.2.1
  rw[← p] at hl
  have hl:(n.1[i]).1.length<=2*n.2.1.length:=hl
  have h20:=Mg t
  exact⟨by omega,by omega,fun r hr=>by have:=C4 (t.2 r hr);omega⟩
 ·rcases (h.c c hc).x with k|⟨q,-,k⟩
  ·have k:c.2.2.2.2.1=[]:=k
   rw[k];simp
  ·have k:c.2.2.2.2.1=[q.2]:=k
   rw[k];simp
end Go.RS
