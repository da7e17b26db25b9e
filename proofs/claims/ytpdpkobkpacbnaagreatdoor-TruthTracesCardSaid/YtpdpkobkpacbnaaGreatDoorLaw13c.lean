/- SX, part 29: slices.Insert of one element into a slice that owns its row: its contract, off what its code does with values. -/
import Derived.Test.YtpdpkobkpacbnaaGreatDoorSx25
import Derived.Lib.AppendZerosOnto
import Derived.Lib.Overlaps
import Derived.Laws.Externs
import Derived.Test.YtpdpkobkpacbnaaGreatDoorSimA
import Derived.Lib.Walk
import Derived.Lib.SliceRun
import Derived.Shelf.RegionOpenPlain
import Derived.Test.YtpdpkobkpacbnaaGreatDoorNode2
set_option maxRecDepth 100000
set_option linter.unusedVariables false
open Int (toNat)
open List (length take getD set replicate drop)
namespace Go.SX
def lN(cur:Array Value)(o:Nat)(cs:List Value):Array Value:=(cur.toList.take o++cs++cur.toList.drop (o+cs.length)).toArray
theorem yP{cur:Array Value}{o:Nat}{cs:List Value}(h:o+cs.length<=cur.size):(lN cur o cs).size=cur.size:=by
 simp only[lN,rq,cu,dA,fv,gg];omega
theorem tz{cur:Array Value}{o:Nat}{cs:List Value}(h:o+cs.length<=cur.size)(j:Nat) :
  (lN cur o cs)[j]? = if j<o then cur[j]? else if j<o+cs.length then cs[j-o]? else cur[j]? := by
 unfold lN
 rw[List.getElem?_toArray]
 have hl:(cur.toList.take o).length=o:=by rw[dA,gg];omega
 by_cases h1:j<o
 .rw[am h1,ia,kP (by omega),pE,am h1,kI]
 .rw[af h1];by_cases h2:j<o+cs.length
  .rw[am h2,ia,jU (by omega),kP (by omega),hl]
  .rw[af h2,jU (by rw[cu,hl];omega),cu,hl,pd,kI];congr 1;omega
def iS(cur:Array Value)(o n:Nat):List Value:=(cur.toList.drop o).take n
theorem AK{cur:Array Value}{o n:Nat}(h:o+n<=cur.size):(iS cur o n).length=n:=by
 unfold iS;rw[dA,fv,gg];omega
theorem xl{cur:Array Value}{o n j:Nat}(h:j<n):(iS cur o n)[j]? = cur[o+j]? := by
 unfold iS;rw[pE,am h,pd,kI]
def uT(cur:Array Value)(off n i z:Nat)(vs:List Value):Array Value:=lN (lN cur (off+(i+1)*z) (iS cur (off+i*z) ((n-i)*z))) (off+i*z) vs
def ug(cur:Array Value)(off n i z G:Nat)(zr:Array Value):Array Value:=(iS cur off (i*z)).toArray++Builtin.zeroCells zr (n+1-i)++Builtin.zeroCells zr (G-(n+1))
def tT(cur:Array Value)(off n i z G:Nat)(zr:Array Value)(vs:List Value):Array Value:=lN (lN (ug cur off n i z G zr) (i*z) vs) ((i+1)*z) (iS cur (off+i*z) ((n-i)*z))
structure RB (P:Program) (F:FuncId) (tS E:TypeId) (z bs:Nat) (zr:Array Value) (ty:TypeId):Prop where
 last:∀(w w':World)(p q:Option Addr)(n c vc:Nat)(v:Value),n<=c->c<=maxLen->(Builtin.append_ #[tS,tS] ty #[.slice p n c,.slice q 1 vc]).run P w = .ok v w' →
  Calls P F #[.slice p n c,.int .i64 n,.slice q 1 vc] w λe w2=>e = .returned v/\w2=w'
 shift:∀(w:World)(b off n c i vb voff vc:Nat)(cur vcur:Array Value)(E':TypeId)(vs:List Value),i<n->n+1<=c->c<=maxLen->vb≠b->w.heap[b]? = some (.cells cur E (0,0))->off+c*z<=cur.size →
  w.heap[vb]? = some (.cells vcur E' (0,0))->vs.length=z->(∀ j v,vs[j]? = some v->w.cell? ⟨vb,voff+j,none⟩=some v)->(∀ v∈vs,v.oneCell'=true)->(∀ v∈iS cur (off+i*z) ((n-i)*z),v.oneCell'=true) →
  Calls P F #[.slice (some ⟨b,off,none⟩) n c,.int .i64 i,.slice (some ⟨vb,voff,none⟩) 1 vc] w λe w'=>e = .returned (.slice (some ⟨b,off,none⟩) (n+1) c)/\w'=w.drew.setRow b (uT cur off n i z vs)
 grow:∀(w:World)(b off n i vb voff vc:Nat)(cur vcur:Array Value)(E':TypeId)(vs:List Value),i<n->n+1<=maxLen->(n+1)*bs<=140737488355328->w.heap[b]? = some (.cells cur E (0,0))->off+n*z<=cur.size →
  w.heap[vb]? = some (.cells vcur E' (0,0))->vs.length=z->(∀ j v,vs[j]? = some v->w.cell? ⟨vb,voff+j,none⟩=some v)->(∀ v∈vs,v.oneCell'=true)->(∀ v∈iS cur off (n*z),v.oneCell'=true) →
  Calls P F #[.slice (some ⟨b,off,none⟩) n n,.int .i64 i,.slice (some ⟨vb,voff,none⟩) 1 vc] w λe w'=>e = .returned (.slice (some ⟨w.heap.size,0,none⟩) (n+1) (grownCap w (n+1) n E)) ∧
   ∃ w1:World,cY w.drew w1 (λ_=>False)/\w1.heap.size=w.heap.size+1/\w1.heap[w.heap.size]? = some (.cells (ug cur off n i z (grownCap w (n+1) n E) zr) E (0,0))/\w'=w1.setRow w.heap.size (tT cur off n i z (grownCap w (n+1) n E) zr vs)
def DE(u:CT)(E:TypeId)(bs:Nat):Spec:=λbase svs=>match svs with
 | [.own n sz,.int .i64 i,.own q sq]=>match Nat.beq q n with
  | true => .fail
  | false => .ask n fun
   | .live (.row E' u' xs)=>match Nat.beq E' E,Nat.beq sz u.size,gX u' u xs with
    | true,true,some ys=>(vn u (.own q sq)).bind λvs=>.ask base fun
     | .un => .ret (.det [vs.length=1,0<=i,i<=ys.length,(ys.length+1)*bs<=140737488355328] (.own base u.size) [(base,.live (.row E u (ys.take i.toNat++(vs++ys.drop i.toNat)))),(n,.dead)])
     | _ => .fail
    | _,_,_ => .fail
   | _ => .fail
 | _ => .fail
section
variable {P:Program} {w0:World} {N0:f5} {A:Nat->Prop} {env:aZ} {h:bN} {w:World}
theorem Ty(m:Mod w0 N0 A env h w){t:CT}{n sz:Nat}{v:Value}{ys:List t.D}{r:List Nat}(e:(vn t (.own n sz)).run h=some (ys,r))(hd:az A env w (.own n sz) v)(h1:ys.length=1) :
  ∃ k l c vcur E',env n = .blk k l/\v = .slice (some ⟨k,l.1,none⟩) 1 c/\w.heap[k]? = some (.cells vcur E' (0,0))/\(∀ n' k' l' b,n'≠n->h n' = .live b->b.mut=true->env n' = .blk k' l'→k≠k') ∧
   Rd A w t (λo=>w.cell? ⟨k,o,none⟩) l.1 (kW t ys 0):=by
 simp only[vn,Q.run] at e
 simp only[az] at hd
 have fin:∀{b:kZ}{E':TypeId}{zs:List t.D},h n = .live b->(b = .row E' t zs∨b = .frz E' t zs)->zs.length=1 →
   ∃ k l c vcur E',env n = .blk k l/\v = .slice (some ⟨k,l.1,none⟩) 1 c/\w.heap[k]? = some (.cells vcur E' (0,0))/\(∀ n' k' l' b,n'≠n->h n' = .live b->b.mut=true->env n' = .blk k' l'→k≠k') ∧
    Rd A w t (λo=>w.cell? ⟨k,o,none⟩) l.1 (kW t zs 0):=by
  intro b E' zs hl hb hz;rcases hd with⟨hnil,_⟩|⟨k,l,E2,c,hk,hsh,rfl⟩
  .have:=m.nm n;rw[hl] at this;rcases this with⟨k',l',he',_⟩|⟨_,E3,t3,hb3⟩
   .rw[hnil] at he';cases he'
   .rcases hb with rfl|rfl <;> rcases hb3 with hb3|hb3 <;> cases hb3 <;> cases hz
  .have hbd:=m.live_blk hl hk;have hrow:nS A w k l E' t zs:=by
    rcases hb with rfl|rfl
    .exact hbd.1
    .exact hbd.1.2
   have hlen:l.2=1:=by obtain⟨_,_,_,_,h3,_⟩:=hrow;omega
   have hrd:=yF hrow (i:=0) (by omega);obtain⟨vcur,cap,hh,_⟩:=hrow;refine⟨k,l,(c-l.1)/sz,vcur,E',hk,by rw[hlen],hh,?_,by simpa using hrd⟩;intro n' k' l' b' hne hl' hm' he' hkk;subst hkk;rcases hb with rfl|rfl
   .exact hne (m.inj n' n b' _ k l' l hl' hl hm' rfl he' hk)
   .exact (m.live_blk hl' he').2 hm' hbd.1.1
 split at e
 next p q hk=>
  simp only[bp,br] at e;obtain⟨rfl,rfl⟩:=e;split at hk
  .rename_i E' u zs hl;split at hk
   next zs' _ hc=>simp only[Q.run,bp,br] at hk;obtain⟨rfl,_⟩:=hk;obtain⟨et,ey⟩:=jR hc;subst et;simp only at ey;subst ey;exact fin hl (.inl rfl) h1
   .cases hk
  .rename_i E' u zs hl;split at hk
   next zs' _ hc=>simp only[Q.run,bp,br] at hk;obtain⟨rfl,_⟩:=hk;obtain⟨et,ey⟩:=jR hc;subst et;simp only at ey;subst ey;exact fin hl (.inr rfl) h1
   .cases hk
  .cases hk
 .cases e
theorem Q5{u:CT}{xs:List u.D}{y:u.D}{i o:Nat}{row:Nat->Option Value}{cur:Nat->Option Value}{off:Nat}(hi:i<=xs.length)
  (hx:∀ k (hk:k<xs.length),Rd A w u cur (off+k*u.size) xs[k]) {news:Nat->Option Value} (hy:Rd A w u news 0 y)
  (h1:∀ j,j<i*u.size->row (o+j)=cur (off+j)) (h2:∀ j,j<u.size->row (o+i*u.size+j)=news j) (h3:∀ j,j<(xs.length-i)*u.size->row (o+(i+1)*u.size+j)=cur (off+i*u.size+j)) :
  ∀ k (hk:k<(xs.take i++([y]++xs.drop i)).length),Rd A w u row (o+k*u.size) (xs.take i++([y]++xs.drop i))[k]:=by
 intro k hk
 have hl:(xs.take i).length=i:=by rw[dA];omega
 by_cases hki:k<i
 .rw[List.getElem_append_left (by omega)];simp only[List.getElem_take];have hm:(k+1)*u.size<=i*u.size:=mz _ hki;rw[fP,jZ] at hm;refine tL (hx k (by omega)) λj hj=>?_;rw[gP,h1 _ (by omega),gP]
 .rw[List.getElem_append_right (by omega)];simp only[hl];by_cases hke:k=i
  .subst hke;simp only[Nat.sub_self,me,rx,List.getElem_cons_zero];refine tL hy λj hj=>?_;rw[h2 j hj,gk]
  .obtain⟨q,rfl⟩:∃ q,k=i+1+q:=⟨k-i-1,by omega⟩
   have hq:i+q<xs.length:=by simp at hk;omega
   have hg:([y]++xs.drop i)[i+1+q-i]'(by simp;omega)=xs[i+q]:=by
    simp only[show i+1+q-i=q+1 from by omega,me,rx,List.getElem_cons_succ,List.getElem_drop]
   rw[hg];have hm:(q+1)*u.size<=(xs.length-i)*u.size:=mz _ (by omega);rw[fP,jZ] at hm;refine tL (hx (i+q) hq) λj hj=>?_;rw[show o+(i+1+q)*u.size+j=o+(i+1)*u.size+(q*u.size+j) from by rw[fP (i+1)];omega,h3 _ (by omega)];congr 1;rw[fP i q];omega
theorem XS(m:Mod w0 N0 A env h w){tS E ty:TypeId}{zv:Value}{z bs base n sz q sq:Nat}{u:CT}{xs ys:List u.D}{r:List Nat}{sv xv:Value}(hu:P.underlying tS=some (.slice E))(hi:(P.info? E).map (λi=>(i.zero,i.size,i.bytes))=some (some zv,z,bs))(hzr:zv.cells.size=z)(hbs:1<=bs)(hz:z=u.size)
  (hl:h n = .live (.row E u xs)) (hsz:sz=u.size) (hs:(vn u (.own q sq)).run h=some (ys,r)) (hun:h base = .un) (hby:(xs.length+ys.length)*bs<=140737488355328)
  (ds:az A env w (.own n sz) sv) (dx:az A env w (.own q sq) xv) :
  ∃ v w',(Builtin.append_ #[tS,tS] ty #[sv,xv]).run P w = .ok v w'∧da w0 N0 A env h w (.det [] (.own base u.size) [(base,.live (.row E u (xs++ys))),(n,.dead)]) v w':=by
 obtain⟨i0,hi0⟩:∃ i0,P.info? E=some i0:=by
  cases hh:P.info? E with
  | none=>rw[hh] at hi;cases hi
  | some i0=>exact⟨i0,rfl⟩
 rw[hi0] at hi
 simp only[Option.map_some,bp,br] at hi
 obtain⟨hz0,hzs,hzb⟩:=hi
 subst hz hzb hsz
 have run:(Cm P tS base (.own n u.size) (.own q sq)).run h=some (.det [(xs.length+ys.length)*i0.bytes<=140737488355328] (.own base u.size) [(base,.live (.row E u (xs++ys))),(n,.dead)],n::(r++[base])):=by
  have he:rL P tS=some (E,u.size):=by unfold rL;rw[hu];simp[gK,hi0,hzs]
  unfold Cm;rw[he];simp only[hi0,Nat.ble_eq_true_of_le hbs,hz0,hzr,sS];simp only[Q.run,hl,sS];rw[Q.bind_run1 _ _ hs (b := .det [(xs.length+ys.length)*i0.bytes<=140737488355328] (.own base u.size) [(base,.live (.row E u (xs++ys))),(n,.dead)]) (r2:=[base]) (by simp only[Q.run,hun])]
 let o : Oper := { dst := none, op := .call { callee := .builtin .append, args := #[.tmp 0, .tmp 1], argTypes := #[tS, tS] }, type := ty, pos := "", after := #[], guard := none }
 let a:Act:={tmps := #[sv,xv],defers:=[]}
 have fd:FD A env w (λi=>if i=0 then .own n u.size else if i=1 then .own q sq else .junk) a:=by
  intro i;by_cases h0:i=0
  .subst h0;exact ds
  .by_cases h1:i=1
   .subst h1;exact dx
   .simp only[h0,h1,if_false,az]
 obtain⟨v,w',hr,g⟩:=Oy (P:=P) (o:=o) (a:=a) (nm:=base) (s := .tmp 0) (x := .tmp 1) (t:=tS) m fd rfl run (by simp only[Dl.pre,bV,io];exact hby)
 have he:(execOp a.eval o).run P w=((Builtin.append_ #[tS,tS] ty #[sv,xv]).run P w).andThen λv w'=>.ok (.value v) w':=by
  unfold execOp;simp only[o,resolve,invoke,builtin,Sem.run_bind,Sem.run_pure,Result.andThen_ok,List.map_toArray,fF,List.map_nil];rfl
 rw[he] at hr
 cases hb:(Builtin.append_ #[tS,tS] ty #[sv,xv]).run P w with
 | ok v1 w1 =>
  rw[hb] at hr;rcases hr with hr|⟨hr,_⟩
  .cases hr;exact⟨v,w',rfl,g⟩
  .cases hr
 | _=>rw[hb] at hr;rcases hr with hr|⟨hr,_⟩ <;> cases hr
theorem Ry{t:CT}{ys:List t.D}(h:ys.length=1):ys=[kW t ys 0]:=by
 match ys,h with
 | [y],_=>rfl
theorem Nb{u:CT}{cv:Nat->Option Value}{o:Nat}{xs:List u.D}(hx:∀ i (hi:i<xs.length),Rd A w u cv (o+i*u.size) xs[i]){cur:Array Value}(hc:∀ j,cv j=cur[j]?){a n:Nat}(ha:a+n<=xs.length)(hs:o+(a+n)*u.size<=cur.size) :
  ∀ v∈iS cur (o+a*u.size) (n*u.size),v.oneCell'=true:=by
 obtain⟨news,hl,hcv,h1⟩:=DJ (A:=A) (w:=w) ((xs.drop a).take n) (o+a*u.size) (cv:=cv) (λi hi=>by
  simp only[dA,fv] at hi;have:=hx (a+i) (by omega);simp only[List.getElem_take,List.getElem_drop];rw[gP,← fP];exact this)
 have hln:((xs.drop a).take n).length=n:=by rw[dA,fv];omega
 rw[hln] at hl
 intro v hv
 obtain⟨j,hj,rfl⟩:=List.mem_iff_getElem.1 hv
 have hcl:(iS cur (o+a*u.size) (n*u.size)).length=n*u.size:=AK (by rw[gP,← fP];exact hs)
 have e1:(iS cur (o+a*u.size) (n*u.size))[j]? = news[j]? := by
  rw[xl (by omega),← hc,hcv j (by omega)]
 rw[cK hj] at e1
 exact h1 _ (List.mem_iff_getElem?.2 ⟨j,e1.symm⟩)
theorem aT6{G:tM}{F:FuncId}{tS E ty:TypeId}{zv:Value}{z bs:Nat}{u:CT}(raw:RB P F tS E z bs zv.cells ty)(hu:P.underlying tS=some (.slice E))(hi:(P.info? E).map (λi=>(i.zero,i.size,i.bytes))=some (some zv,z,bs))
  (hzr:zv.cells.size=z) (hbs:1<=bs) (hz:z=u.size):oQ P G F (DE u E bs):=by
 intro base svs h d r e hp w0 N0 A env w vs hg m hd
 unfold DE at e
 split at e
 case h_2=>cases e
 rename_i n sz i q sq
 split at e
 .cases e
 rename_i hqn
 have hqn:q≠n:=λe=>by rw[e,sS] at hqn;cases hqn
 simp only[Q.run] at e
 split at e
 case h_2=>cases e
 rename_i p0 q0 hk
 simp only[bp,br] at e
 obtain⟨rfl,rfl⟩:=e
 split at hk
 case h_2=>cases hk
 rename_i E' u xs hl
 split at hk
 case h_2=>cases hk
 rename_i ys hE hsz hc
 have hE:E'=E:=bG hE
 have hsz:=bG hsz
 obtain⟨et,ey⟩:=jR hc
 subst et hE hsz
 simp only at ey
 subst ey
 obtain⟨vs1,q1,q2,e1,e2,rfl⟩:=Q.run_bind _ _ _ hk
 simp only[Q.run] at e2
 split at e2
 case h_2=>cases e2
 rename_i p' q' hk'
 simp only[bp,br] at e2
 obtain⟨rfl,rfl⟩:=e2
 split at hk'
 case h_2=>cases hk'
 rename_i hun
 cases cA hk'
 simp only[Dl.pre,bV,io] at hp
 obtain⟨hp1,hp2,hp3,hp4⟩:=hp
 simp only[aR] at hd
 obtain⟨sv,r1,rfl,ds,iv,r2,rfl,di,xv,r3,rfl,dx,rfl⟩:=hd
 have di':=di
 simp only[az] at di'
 obtain⟨rfl,hii⟩:=di'
 obtain⟨k,l,c,vcur,E2,hkq,rfl,hkc,hkne,hrd⟩:=Ty m e1 dx hp1
 subst hz
 have hlen:∀{ii:Nat},ii=ys.length->ys.take ii++(vs1++ys.drop ii)=ys++vs1:=by
  rintro _ rfl;rw[List.take_length,List.drop_length,jG]
 obtain⟨ii,rfl⟩:=pS hp2
 have hii2:ii<=ys.length:=by omega
 simp only[Int.toNat_natCast]
 have hlast:∀ nn cc pp,ii=ys.length->sv = .slice pp nn cc->nn=ys.length->nn<=cc->cc<=maxLen →
   Calls P F #[sv,.int .i64 (ii:Int),.slice (some ⟨k,l.1,none⟩) 1 c] w λe w'=>∃ v,e = .returned v/\da w0 N0 A env h w (.det [vs1.length=1,(0:Int)<=(ii:Int),(ii:Int)<=(ys.length:Int),(ys.length+1)*bs<=140737488355328] (.own base u.size) [(base,.live (.row E' u (ys.take ii++(vs1++ys.drop ii)))),(n,.dead)]) v w':=by
  rintro nn cc pp rfl rfl rfl hle hmx;obtain⟨v,w',hr,g⟩:=XS (ty:=ty) m hu hi hzr hbs rfl hl rfl e1 hun (by rw[hp1];exact hp4) ds dx;refine (raw.last w w' pp (some ⟨k,l.1,none⟩) ys.length cc c v hle hmx hr).mono ?_;rintro e w2 ⟨rfl,rfl⟩;refine⟨v,rfl,?_⟩;rw[hlen rfl];exact g
 have hdn:∀ n'∈[n],∃ b,h n' = .live b/\b.mut=true:=by simp[hl,kZ.mut]
 have ds':=ds
 simp only[az] at ds'
 rcases ds' with⟨hnil,pa,rfl⟩|⟨b,⟨β,len⟩,E3,cc,hb,hsh,rfl⟩
 .have hx:ys=[]:=by
   have:=m.nm n;rw[hl] at this;rcases this with⟨k',l',he',_⟩|⟨_,E3,t3,hb⟩
   .rw[hnil] at he';cases he'
   .rcases hb with hb|hb <;> cases hb;rfl
  subst hx;exact hlast 0 0 pa (by simpa using hii2) rfl rfl (iq _) (by simp[maxLen])
 .obtain⟨cur,cap,hh,hcs,hxl,hlc,hcm,hrdx⟩:=(m.live_blk hl hb).1;simp only at hcs hxl hlc hrdx;have hcc:cc=cur.size/\E3=E':=by
   unfold World.shape? at hsh;rw[hh] at hsh;simp only[bp,br] at hsh;exact⟨hsh.2.symm,hsh.1.symm⟩
  obtain⟨rfl,rfl⟩:=hcc;have hcap:(cur.size-β)/u.size=cap:=by rw[hcs,lC];exact qE _ u.size_pos
  have hnA:=(m.live_blk hl hb).2 rfl;simp only[hcap] at hlast ⊢;rcases Nat.lt_or_ge ii ys.length with hlt|hge
  case inr=>exact hlast len cap _ (by omega) rfl hxl.symm hlc hcm
  obtain⟨news,hnl,hnc,hnd⟩:=u7 (env:=env) u _ _ _ hrd;have hn1:=Cq hnd (Fg _ _);have hnews:∀ j v,news[j]? = some v->w.cell? ⟨k,l.1+j,none⟩=some v:=λj v hj=>by
   rw[hnc j (by rw[← hnl];exact (List.getElem?_eq_some_iff.1 hj).1)];exact hj
  have hry:Rd A w u (λj=>news[j]?) 0 (kW u vs1 0):=tL hrd λj hj=>by rw[gk,hnc j hj]
  have hkb:k≠b:=hkne n b _ _ (Ne.symm hqn) hl rfl hb;have hlz:(len-ii)*u.size+(ii+1)*u.size=(len+1)*u.size:=by rw[← fP];congr 1;omega
  have hiz:(ii+1)*u.size=ii*u.size+u.size:=by rw[fP,jZ]
  have hlcz:len*u.size<=cap*u.size:=mz _ hlc;have hlz1:(len+1)*u.size=len*u.size+u.size:=by rw[fP,jZ]
  have hnlen:(ys.take ii++(vs1++ys.drop ii)).length=len+1:=by simp;omega
  have hcutl:(iS cur (β+ii*u.size) ((len-ii)*u.size)).length=(len-ii)*u.size:=AK (by omega);by_cases hroom:len+1<=cap
  .have hroomz:(len+1)*u.size<=cap*u.size:=mz _ hroom;refine (raw.shift w b β len cap ii k l.1 c cur vcur E2 news (by omega) hroom hcm hkb hh (by omega) hkc hnl hnews hn1 (Nb hrdx (λ_=>rfl) (by omega) (by rw[show ii+(len-ii)=len from by omega];omega))).mono ?_;rintro e w' ⟨rfl,rfl⟩;refine⟨_,rfl,?_⟩;have s1:(lN cur (β+(ii+1)*u.size) (iS cur (β+ii*u.size) ((len-ii)*u.size))).size=cur.size:=yP (by rw[hcutl];omega);have s2:(uT cur β len ii u.size news).size=cur.size:=by unfold uT;rw[yP (by rw[s1,hnl];omega),s1]
   have cg:cY w (w.drew.setRow b (uT cur β len ii u.size news)) λj=>j=b:=(cY.drew w _).trans (cY.setRow w.drew b cur _ E3 hh s2);have g:=pA (pre:=[vs1.length=1,(0:Int)<=(ii:Int),(ii:Int)<=(ys.length:Int),(ys.length+1)*bs<=140737488355328]) (v := .slice (some ⟨b,β,none⟩) (len+1) cap) (E:=E3) (t:=u) (zs:=ys.take ii++(vs1++ys.drop ii)) m hun [n] hdn (W:=λj=>j=b) (ev := .blk b (β,len+1)) cg
    (λk hk=>⟨n,(β,len),by simp,hk▸hb⟩) (by simp) (λk l e=>by cases e;exact .inr ⟨n,(β,len),by simp,hb⟩) (λx=>.inr ⟨b,(β,len+1),cur.size,rfl,?_,?_,?_⟩)
   .exact g
   .refine⟨_,cap,setRow_heap w.drew b cur _ E3 _ hh,by rw[s2];exact hcs,hnlen,hroom,hcm,?_⟩;intro k' hk';refine iA (λ_ h=>h) x.keep u _ _ _ _ (λj _=>rfl) ?_;have hv1:=Ry hp1;have key:=Q5 (A:=A) (w:=w) (u:=u) (xs:=ys) (y:=kW u vs1 0) (i:=ii) (o:=β) (off:=β) (row:=λo=>(uT cur β len ii u.size news)[o]?) (cur:=λo=>cur[o]?) hii2 hrdx hry ?_ ?_ ?_ k' (by rw[← hv1];exact hk')
    .simp only[← hv1] at key;exact key
    .intro j hj;unfold uT
     try simp only
     rw[tz (by rw[s1,hnl];omega),am (by omega),tz (by rw[hcutl];omega),am (by omega)]
    .intro j hj;unfold uT
     try simp only
     rw[tz (by rw[s1,hnl];omega),af (by omega),am (by rw[hnl];omega)];congr 1;omega
    .intro j hj;rw[hxl] at hj;unfold uT
     try simp only
     rw[tz (by rw[s1,hnl];omega),af (by omega),af (by rw[hnl];omega),tz (by rw[hcutl];omega),af (by omega),am (by rw[hcutl];omega),show β+(ii+1)*u.size+j-(β+(ii+1)*u.size)=j from by omega,xl hj]
   .unfold World.shape?;rw[setRow_heap w.drew b cur _ E3 _ hh];simp only[s2]
   .show _=Value.slice _ _ ((cur.size-β)/u.size);rw[hcap]
  .have hcl:cap=len:=by omega
   subst hcl;have hsum:cap+1<=maxLen:=by
    have:(cap+1)*1<=(ys.length+1)*bs:=by rw[hxl];exact Nat.mul_le_mul_left _ hbs
    simp only[maxLen];omega
   refine (raw.grow w b β cap ii k l.1 c cur vcur E2 news (by omega) hsum (by rw[← hxl];exact hp4) hh (by omega) hkc hnl hnews hn1 (by
    have:=Nb hrdx (λ_=>rfl) (a:=0) (n:=cap) (cur:=cur) (by omega) (by rw[gk];omega);simpa using this)).mono ?_
   rintro e w' ⟨rfl,w1,cg1,hs1,hh1,rfl⟩;refine⟨_,rfl,?_⟩;have hge:=grownCap_ge w (cap+1) cap E3;have hcm':=grownCap_le_maxLen w (cap+1) cap E3 hsum;generalize grownCap w (cap+1) cap E3=G' at *;have hGz:(cap+1)*u.size<=G'*u.size:=mz _ hge;have hcut0:(iS cur β (ii*u.size)).length=ii*u.size:=AK (by omega);have s0:(ug cur β cap ii u.size G' zv.cells).size=G'*u.size:=by
    unfold ug;simp only[Array.size_append,rq,hcut0,size_zeroCells,hzr,← fP];congr 1;omega
   have s1:(lN (ug cur β cap ii u.size G' zv.cells) (ii*u.size) news).size=G'*u.size:=by rw[yP (by rw[s0,hnl];omega),s0]
   have s2:(tT cur β cap ii u.size G' zv.cells news).size=G'*u.size:=by unfold tT;rw[yP (by rw[s1,hcutl];omega),s1]
   have cg:cY w (w1.setRow w.heap.size (tT cur β cap ii u.size G' zv.cells news)) λ_=>False:=by
    have c2:=cY.setRow w1 w.heap.size _ (tT cur β cap ii u.size G' zv.cells news) E3 hh1 (by rw[s2,s0]);have c3:=(cY.drew w λ_=>False).trans cg1;exact⟨c2.os.trans c3.os,c2.tape.trans c3.tape,c2.output.trans c3.output,qX c3.size c2.size,
     λi hi hw=>(c2.blk i (Nat.lt_of_lt_of_le hi c3.size) (λe=>by omega)).trans (c3.blk i hi hw),λi s hs=>c2.shape i s (c3.shape i s hs)⟩
   have g:=pA (pre:=[vs1.length=1,(0:Int)<=(ii:Int),(ii:Int)<=(ys.length:Int),(ys.length+1)*bs<=140737488355328]) (v := .slice (some ⟨w.heap.size,0,none⟩) (cap+1) G') (E:=E3) (t:=u) (zs:=ys.take ii++(vs1++ys.drop ii)) m hun [n] hdn (W:=λ_=>False) (ev := .blk w.heap.size (0,cap+1)) cg
    (λ_ h=>h.elim) (by simp) (λk l e=>by cases e;exact .inl (iq _)) (λx=>.inr ⟨w.heap.size,(0,cap+1),G'*u.size,rfl,?_,?_,?_⟩)
   .exact g
   .refine⟨_,G',setRow_heap w1 w.heap.size _ _ E3 _ hh1,by rw[s2,gk],hnlen,hge,hcm',?_⟩;intro k' hk';refine iA (λ_ h=>h) x.keep u _ _ _ _ (λj _=>rfl) ?_;have hv1:=Ry hp1;have key:=Q5 (A:=A) (w:=w) (u:=u) (xs:=ys) (y:=kW u vs1 0) (i:=ii) (o:=0) (off:=β) (row:=λo=>(tT cur β cap ii u.size G' zv.cells news)[o]?) (cur:=λo=>cur[o]?) hii2 hrdx hry ?_ ?_ ?_ k' (by rw[← hv1];exact hk')
    .simp only[← hv1] at key;exact key
    .intro j hj;unfold tT
     try simp only
     rw[tz (by rw[s1,hcutl];omega),am (by omega),tz (by rw[s0,hnl];omega),am (by omega)];unfold ug;rw[Array.append_assoc,Array.getElem?_append_left (by simp only[rq,hcut0];omega),List.getElem?_toArray,gk,xl hj]
    .intro j hj;unfold tT
     try simp only
     rw[tz (by rw[s1,hcutl];omega),am (by omega),tz (by rw[s0,hnl];omega),af (by omega),am (by rw[hnl];omega)];congr 1;omega
    .intro j hj;rw[hxl] at hj;unfold tT
     try simp only
     rw[tz (by rw[s1,hcutl];omega),af (by omega),am (by rw[hcutl];omega),show 0+(ii+1)*u.size+j-(ii+1)*u.size=j from by omega,xl hj]
   .unfold World.shape?;rw[setRow_heap w1 w.heap.size _ _ E3 _ hh1];simp only[s2]
   .show _=Value.slice _ _ ((G'*u.size-0)/u.size);rw[Nat.sub_zero,qE _ u.size_pos]
end
end Go.SX
namespace Go.RS
open Go.SX Go.Proofs
set_option maxHeartbeats 4000000
def xe:Value := .agg #[.int .i64 0,.int .i64 0,.int .i64 0,.int .i64 0,.int .i64 0,.slice none 0 0]
section
variable {w:World}
theorem au9:RB Tryz.prog 108 50 125 6 64 xe.cells 50:=by
 refine⟨?_,?_,?_⟩
 .intro w w' p q n c vc v hn hc hr;have hz:(Go.sizeOf 125).run Tryz.prog w = .ok 6 w:=kS (by kernel_rfl) w;unfold maxLen at hc;cases p <;> go_enter Tryz.func108,Tryz.ntmps108 <;>
  go_wp2_with (at_builtin;refine Lib.wpList_append_run _ rfl _ _ _ _ rfl _ _ rfl rfl _ _ hr ?_)
  all_goals (go_ret;exact⟨rfl,rfl⟩)
 .intro w b off n c i vb voff vc cur vcur E' vs hi hn hc hvb hb hf hv hvl hvs h1v h1c;have hz:∀ w,(Go.sizeOf 125).run Tryz.prog w = .ok 6 w:=λw=>kS (by kernel_rfl) w;have mixed:Tryz.prog.follows .mixedOrders=true:=rG;unfold maxLen at hc;have hsa:w.shape? vb=some (E',vcur.size):=by unfold World.shape?;rw[hv]
  have hsb:w.shape? b=some (125,cur.size):=by unfold World.shape?;rw[hb]
  have hfa:w.frozen? ⟨vb,voff,none⟩=false:=by simp[World.frozen?,hv]
  have hfe:w.frozen? ⟨vb,vcur.size,none⟩=false:=by simp[World.frozen?,hv]
  have hov:∀ lb cb o,(callFunc 156 #[.slice (some ⟨vb,voff,none⟩) 1 vc,.slice (some ⟨b,o,none⟩) lb cb]).run Tryz.prog w = .ok (.value (.bool false)) w:=λlb cb o=>by
   rw[run_callFunc_extern Tryz.func156 (by kernel_rfl) (by kernel_rfl) (by kernel_rfl) (e:=Extern.SlicesOverlaps.overlaps #[50,50] #[4]) (by kernel_rfl),
    Lib.run_overlaps_apart w 50 4 125 Tryz.underlying50 6 hz ⟨vb,voff,none⟩ ⟨b,o,none⟩ 1 vc lb cb hvb E' 125 vcur.size cur.size hsa hsb (by omega) hfa hfe]
   rfl
  have hw1:IntKind.i64.wrap ((i:Int)+1)=(i:Int)+1:=by rw[IntKind.wrap_i64];omega
  have hw2:IntKind.i64.wrap ((n:Int)+1)=(n:Int)+1:=by rw[IntKind.wrap_i64];omega
  have hz2:¬ ((i:Int)=(n:Int)):=by omega
  have htn:((i:Int)+1).toNat=i+1:=by omega
  have htm:((n:Int)+1).toNat=n+1:=by omega
  have hb1:(0:Int)<=(i:Int)+1:=by omega
  have hb2:¬ (c=i+1):=by omega
  have hb3:(i:Int)<=(n:Int)+1:=by omega
  have hb4:¬ (c=i):=by omega
  have hin:i<=n:=by omega
  have e1:(i+1)*6=i*6+6:=by omega
  have hcl:(iS cur (off+i*6) ((n-i)*6)).length=(n-i)*6:=AK (by omega);have hsz:(Tryz.prog.info? 125).map (·.size)=some 6:=by kernel_rfl
  have hcp1:(Builtin.copy_ #[50,50] 3 #[.slice (some ⟨b,off+(i+1)*6,none⟩) (n-i) (c-(i+1)),.slice (some ⟨b,off+i*6,none⟩) (n+1-i) (c-i)]).run Tryz.prog w.drew =
    .ok (goInt ((n-i:Nat):Int)) (w.drew.setRow b (lN cur (off+(i+1)*6) (iS cur (off+i*6) ((n-i)*6)))):=by
   have h:=DV (P:=Tryz.prog) w.drew 50 50 3 125 6 b (off+(i+1)*6) (n-i) (c-(i+1)) ⟨b,off+i*6,none⟩ (n+1-i) (c-i) cur 125 (iS cur (off+i*6) ((n-i)*6)) Tryz.underlying50 hsz hb
    (by rw[hcl];simp only[Nat.min_def];split <;> omega)
    (λj v hj=>by
     have hj':=(List.getElem?_eq_some_iff.1 hj).1;rw[hcl] at hj';rw[xl hj'] at hj;rw[Addr.add_lit,cell_of_row w.drew b _ cur 125 (0,0) hb];exact hj)
    (by rw[hcl];omega) h1c
   have hm:Nat.min (n+1-i) (n-i)=n-i:=by simp only[Nat.min_def];split <;> omega
   rw[hm] at h;exact h
  have hr1:(lN cur (off+(i+1)*6) (iS cur (off+i*6) ((n-i)*6))).size=cur.size:=yP (by rw[hcl];omega);have hcp2:(Builtin.copy_ #[50,50] 3 #[.slice (some ⟨b,off+i*6,none⟩) (n+1-i) (c-i),.slice (some ⟨vb,voff,none⟩) 1 vc]).run Tryz.prog (w.drew.setRow b (lN cur (off+(i+1)*6) (iS cur (off+i*6) ((n-i)*6)))) =
    .ok (goInt 1) (w.drew.setRow b (uT cur off n i 6 vs)):=by
   have h:=DV (P:=Tryz.prog) (w.drew.setRow b (lN cur (off+(i+1)*6) (iS cur (off+i*6) ((n-i)*6)))) 50 50 3 125 6 b (off+i*6) (n+1-i) (c-i) ⟨vb,voff,none⟩ 1 vc _ 125 vs Tryz.underlying50 hsz
    (setRow_heap w.drew b cur _ 125 (0,0) hb)
    (by rw[hvl];simp only[Nat.min_def];split <;> omega)
    (λj v hj=>by
     rw[Addr.add_lit,cell_setRow_other _ _ _ _ hvb];exact hvs j v hj)
    (by rw[hr1,hvl];omega) h1v
   have hm:Nat.min 1 (n+1-i)=1:=by simp only[Nat.min_def];split <;> omega
   rw[hm,setRow_setRow] at h;exact h
  clear e1 hcl hr1
  go_enter Tryz.func108,Tryz.ntmps108
  go_wp2_with (simp only[hov])
  go_region
  go_wp2
  all_goals (go_ret;exact⟨rfl,rfl⟩)
 .intro w b off n i vb voff vc cur vcur E' vs hi hn hby hb hf hv hvl hvs h1v h1c;have hz:∀ w,(Go.sizeOf 125).run Tryz.prog w = .ok 6 w:=λw=>kS (by kernel_rfl) w;have mixed:Tryz.prog.follows .mixedOrders=true:=rG;have hx:(Tryz.prog.info? 125).map (λi=>(i.zero,i.size,i.bytes))=some (some xe,6,64):=by kernel_rfl
  obtain⟨i0,hi0⟩:∃ i0,Tryz.prog.info? 125=some i0:=by
   cases hh:Tryz.prog.info? 125 with
   | none=>rw[hh] at hx;cases hx
   | some i0=>exact⟨i0,rfl⟩
  rw[hi0] at hx;simp only[Option.map_some,bp,br] at hx;obtain⟨hz0,hzs,hzb⟩:=hx;have hsz:(Tryz.prog.info? 125).map (·.size)=some 6:=by kernel_rfl
  have hbw:b<w.heap.size:=(Array.getElem?_eq_some_iff.1 hb).1;have hvw:vb<w.heap.size:=(Array.getElem?_eq_some_iff.1 hv).1;have hni:i*6+(n-i)*6=n*6:=by rw[← fP];congr 1;omega
  have hil:(iS cur off (i*6)).length=i*6:=AK (by omega);have hcl:(iS cur (off+i*6) ((n-i)*6)).length=(n-i)*6:=AK (by omega);have hold:(Builtin.firstCells i0.size i (.slice (some ⟨b,off,none⟩) i n)).run Tryz.prog w.drew = .ok (iS cur off (i*6)).toArray w.drew:=by
   rw[hzs];exact run_firstCells_some w.drew 6 i ⟨b,off,none⟩ i n (iS cur off (i*6)) hil (λj v hj=>by
    have hj':=(List.getElem?_eq_some_iff.1 hj).1;rw[hil] at hj';rw[xl hj'] at hj;rw[Addr.add_lit,cell_of_row w.drew b _ cur 125 (0,0) hb];exact hj)
  have hGn:n+1<=grownCap w (n+1) n 125:=grownCap_ge w _ _ _;have hG63:=grownCap_le_maxLen w (n+1) n 125 hn;have hrz:(Builtin.append_ #[50,3] 50 #[.slice (some ⟨b,off,none⟩) i n,.int .i64 ((n:Int)+1-(i:Int))]).run Tryz.prog w =
    .ok (.slice (some ⟨w.heap.size,0,none⟩) (n+1) (grownCap w (n+1) n 125)) (w.drew.alloc (.cells (ug cur off n i 6 (grownCap w (n+1) n 125) xe.cells) 125)):=by
   have h:=Lib.run_append_grow_zeros w 50 3 50 125 i0 _ .i64 .i64 Tryz.underlying50 Tryz.underlying3 hi0 hz0 (some ⟨b,off,none⟩) i n (iS cur off (i*6)) hold (n+1-i) (by omega) (by omega) (by omega) (by unfold maxLen at hn;omega) (by rw[hzb];omega)
    (by rw[show i+(n+1-i)=n+1 from by omega];exact growslice_fits (by omega) (by rw[hzb];exact hby))
   rw[show i+(n+1-i)=n+1 from by omega] at h;rw[show (n:Int)+1-(i:Int)=((n+1-i:Nat):Int) from by omega];exact h
  generalize hG:grownCap w (n+1) n 125=G at *;have hrs:(ug cur off n i 6 G xe.cells).size=G*6:=by
   unfold ug;simp only[Array.size_append,rq,hil,size_zeroCells];have:xe.cells.size=6:=rfl;rw[this,← fP,← fP];congr 1;omega
  generalize hROW:ug cur off n i 6 G xe.cells=ROW at *;have hgN:(w.drew.alloc (.cells ROW 125)).heap[w.heap.size]? = some (.cells ROW 125 (0,0)):=heap_alloc_new w.drew _;have hG6:(n+1)*6<=G*6:=mz _ hGn;have e1:(i+1)*6=i*6+6:=by omega
  have hr1:(lN ROW (i*6) vs).size=G*6:=by rw[yP (by rw[hrs,hvl];omega),hrs]
  have hcp1:(Builtin.copy_ #[50,50] 3 #[.slice (some ⟨w.heap.size,i*6,none⟩) (n+1-i) (G-i),.slice (some ⟨vb,voff,none⟩) 1 vc]).run Tryz.prog (w.alloc (.cells ROW 125)).drew =
    .ok (goInt 1) ((w.alloc (.cells ROW 125)).drew.setRow w.heap.size (lN ROW (i*6) vs)):=by
   have h:=DV (P:=Tryz.prog) (w.drew.alloc (.cells ROW 125)) 50 50 3 125 6 w.heap.size (i*6) (n+1-i) (G-i) ⟨vb,voff,none⟩ 1 vc _ 125 vs Tryz.underlying50 hsz hgN
    (by rw[hvl];simp only[Nat.min_def];split <;> omega)
    (λj v hj=>by
     rw[Addr.add_lit,World.cell?_alloc_past (w:=w.drew) _ vb _ hvw];exact hvs j v hj)
    (by rw[hrs,hvl];omega) h1v
   have hm:Nat.min 1 (n+1-i)=1:=by simp only[Nat.min_def];split <;> omega
   rw[hm] at h;exact h
  have hcp2:(Builtin.copy_ #[50,50] 3 #[.slice (some ⟨w.heap.size,(i+1)*6,none⟩) (n-i) (G-(i+1)),.slice (some ⟨b,off+i*6,none⟩) (n-i) (n-i)]).run Tryz.prog ((w.alloc (.cells ROW 125)).drew.setRow w.heap.size (lN ROW (i*6) vs)).drew =
    .ok (goInt ((n-i:Nat):Int)) ((w.alloc (.cells ROW 125)).drew.drew.setRow w.heap.size (lN (lN ROW (i*6) vs) ((i+1)*6) (iS cur (off+i*6) ((n-i)*6)))):=by
   have h:=DV (P:=Tryz.prog) ((w.alloc (.cells ROW 125)).drew.setRow w.heap.size (lN ROW (i*6) vs)).drew 50 50 3 125 6 w.heap.size ((i+1)*6) (n-i) (G-(i+1)) ⟨b,off+i*6,none⟩ (n-i) (n-i) _ 125 (iS cur (off+i*6) ((n-i)*6)) Tryz.underlying50 hsz
    (setRow_heap _ w.heap.size _ _ 125 (0,0) hgN)
    (by rw[hcl];simp only[Nat.min_def];split <;> omega)
    (λj v hj=>by
     have hj':=(List.getElem?_eq_some_iff.1 hj).1;rw[hcl] at hj';rw[xl hj'] at hj;show World.cell? ((w.drew.alloc (.cells ROW 125)).setRow w.heap.size (lN ROW (i*6) vs)) _=_;rw[Addr.add_lit,cell_setRow_other _ _ _ _ (by show b≠w.heap.size;omega),World.cell?_alloc_past (w:=w.drew) _ b _ hbw,cell_of_row w.drew b _ cur 125 (0,0) hb];exact hj)
    (by rw[hr1,hcl];omega) (λv hv=>h1c v (by
     unfold iS at hv ⊢;rw[← List.drop_drop] at hv;have e2:take ((n-i)*6) (drop (i*6) (drop off cur.toList))=drop (i*6) (take (n*6) (drop off cur.toList)):=by
      rw[List.drop_take];congr 1;omega
     rw[e2] at hv;exact yx hv))
   have hm:Nat.min (n-i) (n-i)=n-i:=by simp only[Nat.min_def];split <;> omega
   rw[hm] at h;have hs2:∀(W:World)(g:Nat)(a b:Array Value),(W.setRow g a).drew.setRow g b=W.drew.setRow g b:=λW g a b=>setRow_setRow W.drew g a b;rw[hs2] at h;exact h
  have hz2:¬ ((i:Int)=(n:Int)):=by omega
  have hw1:IntKind.i64.wrap ((i:Int)+1)=(i:Int)+1:=by rw[IntKind.wrap_i64];unfold maxLen at hn;omega
  have hw2:IntKind.i64.wrap ((n:Int)+1)=(n:Int)+1:=by rw[IntKind.wrap_i64];unfold maxLen at hn;omega
  have hz3:(n:Int)<(n:Int)+1:=by omega
  have hGi:¬ (G=i):=by omega
  have hGim:¬ (G=i+1):=by omega
  have hci:¬ (n=i):=by omega
  have hb1:(0:Int)<=(i:Int)+1:=by omega
  have hin:i<=n:=by omega
  have htn:((i:Int)+1).toNat=i+1:=by omega
  have hb3:(i:Int)<=(n:Int):=by omega
  have hiG:i<=n+1:=by omega
  unfold maxLen at hn hG63;clear e1 hr1 hG6 hil hcl hni hrs hgN hold hGn
  go_enter Tryz.func108,Tryz.ntmps108
  go_wp2_with (at_builtin;refine Lib.wpList_append_run _ rfl _ _ _ _ rfl _ _ rfl rfl _ _ hrz ?_)
  go_region
  go_wp2
  all_goals (go_ret;exact⟨rfl,(w.alloc (.cells ROW 125)).drew.drew,((cY.alloc w.drew _ _).trans (cY.drew _ _)),by simp,heap_alloc_new w.drew _,by unfold tT;rw[hROW]⟩)
end
def aX0:Go.SX.Spec:=DE nG 125 64
theorem Y6:aB 108 aX0:=by
 show oQ Tryz.prog GL 108 (DE nG 125 64)
 exact aT6 (u:=nG) (zv:=xe) au9 Tryz.underlying50 (by kernel_rfl) rfl (by decide) rfl
end Go.RS
namespace Go.RS
open Go.SX Go.Proofs
abbrev zy:OT := .pair ib (.pair cI (.pair cI (.pair cI (.pair (.row 118 pZ) (.pair (.row 3 cI) (.pair (.row 125 nG) (.pair (.row 78 xM) (.row 68 pR))))))))
def T5:Ct:=⟨[.val (.sl pZ)],[.own 118 pZ],λd=>[(d.1.length:Int)<=1000000],λd=>((d.1,()),())⟩
def lw :=
 (140737488355328:Nat)
theorem aQ5 :
 ∀(a:List (List aN×Int×ae×(Int×Int)×Int)),(a.length<=maxLen/\ ∀(b:List aN×Int×ae×(Int×Int)×Int),b∈a->(b.1.length<=maxLen/\ ∀(c:aN),c∈b.1->((0<=c.1.1/\c.1.1<=4294967295)/\aq c.1.2)/\(c.2.1.length<=maxLen/\ ∀(d:Int),d∈c.2.1->aq d)/\aq c.2.2)/\aq b.2.1/\(b.2.2.1.length<=maxLen/\ ∀(c:Int),c∈b.2.2.1->aq c)/\(aq b.2.2.2.1.1/\aq b.2.2.2.1.2)/\aq b.2.2.2.2)/\True->(ac a)<=1000000-> ∀(b:Bool),(b=true->a.length=(0:Nat))->ao b (([]:List (List aN×Int×ae×(Int×Int)×Int))=a) (((0:Nat)+a.length)*(80:Nat)<=(lw)/\a=a):=by
  delta lw ac;rintro x ⟨⟨hl,-⟩,-⟩ h b hb;refine aw (λh1=>?_) (λh1=>⟨by simp;omega,by simp⟩);have:=hb h1;exact (oW this).symm
theorem YA:aB 100 T5.spec:=aF Tryz.func100 aD aT aQ5
def WX:Ct:=⟨[.val (.sl nG)],[.own 125 nG],λd=>[(d.1.length:Int)<=1000000],λd=>((d.1,()),())⟩
theorem aR4 :
 ∀(a:List (Int×Int×Int×Int×Int×ae)),(a.length<=maxLen/\ ∀(b:Int×Int×Int×Int×Int×ae),b∈a->aq b.1/\aq b.2.1/\aq b.2.2.1/\aq b.2.2.2.1/\aq b.2.2.2.2.1/\b.2.2.2.2.2.length<=maxLen/\ ∀(c:Int),c∈b.2.2.2.2.2->0<=c/\c<=255)/\True->(ac a)<=1000000-> ∀(b:Bool),(b=true->a.length=(0:Nat))->ao b (([]:List (Int×Int×Int×Int×Int×ae))=a) (((0:Nat)+a.length)*(64:Nat)<=(lw)/\a=a):=by
  delta lw ac;rintro x ⟨⟨hl,-⟩,-⟩ h b hb;refine aw (λh1=>?_) (λh1=>⟨by simp;omega,by simp⟩);have:=hb h1;exact (oW this).symm
theorem XE:aB 101 WX.spec:=aF Tryz.func101 aD aT aR4
def SQ:Ct:=⟨[.val (.sl xM)],[.own 78 xM],λd=>[(d.1.length:Int)<=1000000000000],λd=>((d.1,()),())⟩
theorem ax9 :
 ∀(a:List (Int×Int×ae)),(a.length<=maxLen/\ ∀(b:Int×Int×ae),b∈a->aq b.1/\aq b.2.1/\b.2.2.length<=maxLen/\ ∀(c:Int),c∈b.2.2->0<=c/\c<=255)/\True->(ac a)<=1000000000000-> ∀(b:Bool),(b=true->a.length=(0:Nat))->ao b (([]:List (Int×Int×ae))=a) (((0:Nat)+a.length)*(40:Nat)<=(lw)/\a=a):=by
  delta lw ac;rintro x ⟨⟨hl,-⟩,-⟩ h b hb;refine aw (λh1=>?_) (λh1=>⟨by simp;omega,by simp⟩);have:=hb h1;exact (oW this).symm
theorem UX:aB 102 SQ.spec:=aF Tryz.func102 aD aT ax9
def ay4:Ct:=⟨[.val (.sl pR)],[.own 68 pR],λd=>[(d.1.length:Int)<=1000000000000],λd=>((d.1,()),())⟩
theorem YJ :
 ∀(a:List (Int×Int×Int×Int×Int)),(a.length<=maxLen/\ ∀(b:Int×Int×Int×Int×Int),b∈a->aq b.1/\aq b.2.1/\aq b.2.2.1/\aq b.2.2.2.1/\aq b.2.2.2.2)/\True->(ac a)<=1000000000000-> ∀(b:Bool),(b=true->a.length=(0:Nat))->ao b (([]:List (Int×Int×Int×Int×Int))=a) (((0:Nat)+a.length)*(40:Nat)<=(lw)/\a=a):=by
  delta lw ac;rintro x ⟨⟨hl,-⟩,-⟩ h b hb;refine aw (λh1=>?_) (λh1=>⟨by simp;omega,by simp⟩);have:=hb h1;exact (oW this).symm
theorem aQ0:aB 103 ay4.spec:=aF Tryz.func103 aD aT YJ
def Zj:Ct:=⟨[.val (.sl bR)],[.own 92 bR],λd=>[(d.1.length:Int)<=1000000],λd=>((d.1,()),())⟩
theorem Xt :
 ∀(a:List au),(a.length<=maxLen/\ ∀(b:au),b∈a->CT.wf bR b)/\True->(ac a)<=1000000-> ∀(b:Bool),(b=true->a.length=(0:Nat))->ao b (([]:List au)=a) (((0:Nat)+a.length)*(152:Nat)<=(lw)/\a=a):=by
  delta lw ac;rintro x ⟨⟨hl,-⟩,-⟩ h b hb;refine aw (λh1=>?_) (λh1=>⟨by simp;omega,by simp⟩);have:=hb h1;exact (oW this).symm
theorem XA:aB 92 Zj.spec:=aF Tryz.func92 aD aT Xt
def aT8:Ct:=⟨[.val (.sl fU)],[.own 86 fU],λd=>[(d.1.length:Int)<=1000000],λd=>((d.1,()),())⟩
theorem Wh :
 ∀(a:List aK),(a.length<=maxLen/\ ∀(b:aK),b∈a->CT.wf fU b)/\True->(ac a)<=1000000-> ∀(b:Bool),(b=true->a.length=(0:Nat))->ao b (([]:List aK)=a) (((0:Nat)+a.length)*(48:Nat)<=(lw)/\a=a):=by
  delta lw ac;rintro x ⟨⟨hl,-⟩,-⟩ h b hb;refine aw (λh1=>?_) (λh1=>⟨by simp;omega,by simp⟩);have:=hb h1;exact (oW this).symm
theorem aK9:aB 93 aT8.spec:=aF Tryz.func93 aD aT Wh
def as7:Ct:=⟨[.val (.sl fg)],[.own 153 fg],λd=>[(d.1.length:Int)<=1000000],λd=>((d.1,()),())⟩
theorem Te :
 ∀(a:List aV),(a.length<=maxLen/\ ∀(b:aV),b∈a->CT.wf fg b)/\True->(ac a)<=1000000-> ∀(b:Bool),(b=true->a.length=(0:Nat))->ao b (([]:List aV)=a) (((0:Nat)+a.length)*(72:Nat)<=(lw)/\a=a):=by
  delta lw ac;rintro x ⟨⟨hl,-⟩,-⟩ h b hb;refine aw (λh1=>?_) (λh1=>⟨by simp;omega,by simp⟩);have:=hb h1;exact (oW this).symm
theorem aV9:aB 94 as7.spec:=aF Tryz.func94 aD aT Te
def aL2:Ct:=⟨[.val (.sl sX)],[.own 99 sX],λd=>[(d.1.length:Int)<=1000000],λd=>((d.1,()),())⟩
theorem We :
 ∀(a:List (Int×Int)),(a.length<=maxLen/\ ∀(b:Int×Int),b∈a->(0<=b.1/\b.1<=4294967295)/\aq b.2)/\True->(ac a)<=1000000-> ∀(b:Bool),(b=true->a.length=(0:Nat))->ao b (([]:List (Int×Int))=a) (((0:Nat)+a.length)*(16:Nat)<=(lw)/\a=a):=by
  delta lw ac;rintro x ⟨⟨hl,-⟩,-⟩ h b hb;refine aw (λh1=>?_) (λh1=>⟨by simp;omega,by simp⟩);have:=hb h1;exact (oW this).symm
theorem Uu:aB 95 aL2.spec:=aF Tryz.func95 aD aT We
def NE:Ct:=⟨[.val (.sl dj)],[.own 96 dj],λd=>[okL d.1],λd=>((d.1,()),())⟩
def an1:bw NE.ps->ce:=(λd=>{loops:=(bq 3 (λS=>{ι:=Int,μ:=λi=>(d.1.length-i).toNat,inv:=λi=>0<=i/\i<=d.1.length,keep:=[3,8,9],slots:=λi=>[(10,.int .i64 i)],keepN:=[128]}) cC)})
theorem Y1 :
 ∀(a:List aN),(a.length<=maxLen/\ ∀(b:aN),b∈a->((0<=b.1.1/\b.1.1<=4294967295)/\aq b.1.2)/\(b.2.1.length<=maxLen/\ ∀(c:Int),c∈b.2.1->aq c)/\aq b.2.2)/\True->((ac a)<=134217728/\ ∀(b:Rt),b∈a->(ac b.2.1)<=1099511627776)->(ac a)<=134217728/\(∃(b:Int),(0<=b/\b<=(ac a))/\(ac a)=(ac a)/\0=b/\a=a/\True)/\ ∀(b:Int),0<=b/\b<=(ac a)->ao (decide (b<(ac a))) (0<=b/\b<(ac a)/\((length (ai a b).2.1):Int)<=1099511627776/\0<=b/\b<(ac a)/\ ∃(c:Int),(0<=c/\c<=(ac a))/\toNat ((ac a) -c)<toNat ((ac a) -b)/\(ac a)=(ac a)/\aj (b+1)=c/\set a b.toNat (ai a b)=a/\True) (a=a):=by
  delta aj ai ac;rintro l ⟨⟨hl,-⟩,-⟩⟨h1,h2⟩;simp only[maxLen] at hl;refine⟨h1,⟨0,⟨ab,ab⟩,aP⟩,?_⟩;rintro j ⟨j0,j1⟩;refine bU (λhj=>?_) (λhj=>?_)
  .refine⟨j0,hj,h2 _ (bS j0 hj),j0,hj,j+1,⟨ab,ab⟩,ab,?_⟩
   (repeat refine js ?_);exact⟨rX j0 hj,bv⟩
  .rfl
theorem Sh:aB 96 NE.spec:=aF Tryz.func96 (av (av aD KX) wX) an1 Y1
def MG:Ct:=⟨[.agg ib],[.agg ib],λd=>[sM d.1],λd=>((d.1,()),())⟩
def aG4:bw MG.ps->ce:=(λd=>{loops:=(bq 3 (λS=>{ι:=Int,μ:=λi=>(d.1.1.length-i).toNat,inv:=λi=>0<=i/\i<=d.1.1.length,keep:=[2,3,19,20],slots:=λi=>[(21,.int .i64 i)],keepN:=[48,64,176,224,272]}) (bq 8 (λS=>{ι:=Int,μ:=λi=>(d.1.2.2.length-i).toNat,inv:=λi=>0<=i/\i<=d.1.2.2.length,keep:=[2,3,44,45],slots:=λi=>[(46,.int .i64 i)],keepN:=[48,64,176,224,272]}) cC))})
def AD(a:List au)(d:Int) :=
 getD (set a d.toNat (ai a d)) d.toNat default
theorem aJ9 :
 ∀(a:List au)(b:List aK)(c:List aV),((a.length<=maxLen/\ ∀(d:au),d∈a->CT.wf bR d)/\(b.length<=maxLen/\ ∀(d:aK),d∈b->CT.wf fU d)/\c.length<=maxLen/\ ∀(d:aV),d∈c->CT.wf fg d)/\True->((ac a)<=1000000/\(ac b)<=1000000/\(ac c)<=1000000/\(∀(d:au),d∈a->((length (ay d)):Int)<=1000000/\okL (aU d))/\ ∀(d:aV),d∈c->((length (dN d).2.1):Int)<=1099511627776)->(ac a)<=1000000/\(ac b)<=1000000/\(ac c)<=1000000/\(∃(d:Int),(0<=d/\d<=(ac a))/\(ac a)=(ac a)/\0=d/\a=a/\b=b/\c=c/\True)/\ ∀(d:Int),0<=d/\d<=(ac a)->ao (decide (d<(ac a))) (0<=d/\d<(ac a)/\((length (ai a d).1):Int)<=1000000/\okL (ai a d).2.2.2.2.1/\0<=d/\d<(ac a)/\0<=d/\d<((length (set a d.toNat (ai a d))):Int)/\ ∃(e:Int),(0<=e/\e<=(ac a))/\toNat ((ac a) -e)<toNat ((ac a) -d)/\(ac a)=(ac a)/\aj (d+1)=e/\set (set a d.toNat (ai a d))
 d.toNat ((AD a d).1,(AD a d).2.1,(AD a d).2.2.1,(AD a d).2.2.2.1,(ai a d).2.2.2.2.1,(AD a d).2.2.2.2.2)=a/\b=b/\c=c/\True) ((∃(e:Int),(0<=e/\e<=(ac c))/\(ac c)=(ac c)/\0=e/\a=a/\b=b/\c=c/\True)/\ ∀(e:Int),0<=e/\e<=(ac c)->ao (decide (e<(ac c))) (0<=e/\e<(ac c)/\((length (ai c e).2.2.2.2.1):Int)<=1099511627776/\0<=e/\e<(ac c)/\ ∃(f:Int),(0<=f/\f<=(ac c))/\toNat ((ac c) -f)<toNat ((ac c) -e)/\(ac c)=(ac c)/\aj (e+1)=f/\a=a/\b=b/\set c e.toNat (ai c e)=c/\True) ((a,b,c)=(a,b,c))):=by
  delta AD aj ai ac;rintro ns ls hs-⟨h1,h2,h3,h4,h5⟩;refine⟨h1,h2,h3,⟨0,⟨ab,ab⟩,aP⟩,?_⟩;rintro j ⟨j0,j1⟩;refine bU (λhj=>?_) (λhj=>?_)
  .have hx:=h4 _ (bS j0 hj);have e:ns.set j.toNat (ns.getD j.toNat default)=ns:=rX j0 hj;refine⟨j0,hj,hx.1,hx.2,j0,hj,j0,by rw[gB];exact hj,j+1,⟨ab,ab⟩,ab,?_⟩
   (repeat refine js ?_);refine⟨?_,aP⟩;show (ns.set j.toNat (ns.getD j.toNat default)).set j.toNat _=ns;rw[e];exact e
  refine⟨⟨0,⟨ab,ab⟩,aP⟩,?_⟩;rintro k ⟨k0,k1⟩;refine bU (λhk=>?_) (λhk=>?_)
  .refine⟨k0,hk,h5 _ (bS k0 hk),k0,hk,k+1,⟨ab,ab⟩,ab,?_⟩
   (repeat refine js ?_);exact⟨rX k0 hk,bv⟩
  .rfl
theorem Sd:aB 40 MG.spec:=aF Tryz.func40 (av (av (av (av (av (av aD XA) aK9) aV9) Uu) Sh) wX) aG4 aJ9
def Ms:Ct:=⟨[.agg nL],[.agg zy],λd=>[Aw d.1],λd=>((d.1,()),())⟩
def Vq:bw Ms.ps->ce:=(λd=>{loops:=(bq 4 (λS=>{ι:=Int,μ:=λi=>((cq d.1).length-i).toNat,inv:=λi=>0<=i/\i<=(cq d.1).length,keep:=[1,2,18,19],slots:=λi=>[(20,.int .i64 i)],keepN:=[32,48,256]}) (bq 11 (λS=>{ι:=Int,μ:=λi=>((aM d.1).length-i).toNat,inv:=λi=>0<=i/\i<=(aM d.1).length,keep:=[1,2,51,52],slots:=λi=>[(53,.int .i64 i)],keepN:=[32,48,256,720,784]}) (bq 17 (λS=>{ι:=Int,μ:=λi=>((bM d.1).length-i).toNat,inv:=λi=>0<=i/\i<=(bM d.1).length,keep:=[1,2,72,73],slots:=λi=>[(74,.int .i64 i)],keepN:=[32,48,256,720,784,1120]}) cC)))})
theorem ao2 :
 ∀(a:(List au×List aK×List aV)×Int×Int×Int×List (List aN×Int×ae×(Int×Int)×Int)×ae×List (Int×Int×Int×Int×Int×ae)×List (Int×Int×ae)×List (Int×Int×Int×Int×Int)),CT.wf nL a/\True->(sM (aC a)/\((length (cq a)):Int)<=1000000/\((length (gw a)):Int)<=1000000/\((length (aM a)):Int)<=1000000/\((length (bM a)):Int)<=1000000000000/\((length (bh a)):Int)<=1000000000000/\(∀(b:ct),b∈cq a->((length (lP b)):Int)<=1000000/\okL (bT b))/\(∀(b:bg),b∈aM a->((length (f7 b)):Int)<=1000000)/\ ∀(b:qx),b∈bM a->(ac b.2.2)<=1000000)->sM a.1/\(ac a.2.2.2.2.1)<=1000000/\(∃(b:Int),(0<=b/\b<=((length (cq a)):Int))/\(ac a.2.2.2.2.1)=(ac
 a.2.2.2.2.1)/\0=b/\a.1.1=a.1.1/\a.1.2.1=a.1.2.1/\a.1.2.2=a.1.2.2/\a.2.1=a.2.1/\a.2.2.1=a.2.2.1/\a.2.2.2.1=a.2.2.2.1/\a.2.2.2.2.2.1=a.2.2.2.2.2.1/\a.2.2.2.2.2.2.1=a.2.2.2.2.2.2.1/\a.2.2.2.2.2.2.2.1=a.2.2.2.2.2.2.2.1/\a.2.2.2.2.2.2.2.2=a.2.2.2.2.2.2.2.2/\(0:Int)=0/\(0:Int)=0/\(0:Int)=0/\a.2.2.2.2.1=a.2.2.2.2.1/\True)/\ ∀(b:Int),0<=b/\b<=((length (cq a)):Int)->ao (decide (b<(ac a.2.2.2.2.1))) (0<=b/\b<(ac a.2.2.2.2.1)/\((length (getD a.2.2.2.2.1 b.toNat default).2.2.1):Int)<=1099511627776/\okL (getD a.2.2.2.2.1 b.toNat default).1/\0<=b/\b<(ac a.2.2.2.2.1)/\0<=b/\b<((length (set a.2.2.2.2.1 b.toNat (getD a.2.2.2.2.1 b.toNat default))):Int)/\ ∃(c:Int),(0<=c/\c<=((length (cq a)):Int))/\toNat (((length (cq a)):Int) -c)<toNat (((length (cq a)):Int) -b)/\(ac a.2.2.2.2.1)=(ac a.2.2.2.2.1)/\aj
 (b+1)=c/\a.1.1=a.1.1/\a.1.2.1=a.1.2.1/\a.1.2.2=a.1.2.2/\a.2.1=a.2.1/\a.2.2.1=a.2.2.1/\a.2.2.2.1=a.2.2.2.1/\a.2.2.2.2.2.1=a.2.2.2.2.2.1/\a.2.2.2.2.2.2.1=a.2.2.2.2.2.2.1/\a.2.2.2.2.2.2.2.1=a.2.2.2.2.2.2.2.1/\a.2.2.2.2.2.2.2.2=a.2.2.2.2.2.2.2.2/\(0:Int)=0/\(0:Int)=0/\(0:Int)=0/\set (set a.2.2.2.2.1 b.toNat (getD a.2.2.2.2.1 b.toNat default)) b.toNat ((getD a.2.2.2.2.1 b.toNat default).1,(getD (set a.2.2.2.2.1 b.toNat (getD a.2.2.2.2.1 b.toNat default)) b.toNat default).2)=a.2.2.2.2.1/\True) ((ac a.2.2.2.2.2.1)<=1099511627776/\(ac a.2.2.2.2.2.2.1)<=1000000/\(∃(c:Int),(0<=c/\c<=((length (aM a)):Int))/\(ac a.2.2.2.2.2.2.1)=(ac
 a.2.2.2.2.2.2.1)/\0=c/\a.1.1=a.1.1/\a.1.2.1=a.1.2.1/\a.1.2.2=a.1.2.2/\a.2.1=a.2.1/\a.2.2.1=a.2.2.1/\a.2.2.2.1=a.2.2.2.1/\a.2.2.2.2.2.2.2.1=a.2.2.2.2.2.2.2.1/\a.2.2.2.2.2.2.2.2=a.2.2.2.2.2.2.2.2/\(0:Int)=0/\(0:Int)=0/\(0:Int)=0/\a.2.2.2.2.1=a.2.2.2.2.1/\a.2.2.2.2.2.1=a.2.2.2.2.2.1/\a.2.2.2.2.2.2.1=a.2.2.2.2.2.2.1/\True)/\ ∀(c:Int),0<=c/\c<=((length (aM a)):Int)->ao (decide (c<(ac a.2.2.2.2.2.2.1))) (0<=c/\c<(ac a.2.2.2.2.2.2.1)/\((length (getD a.2.2.2.2.2.2.1 c.toNat default).2.2.2.2.2):Int)<=1099511627776/\0<=c/\c<(ac a.2.2.2.2.2.2.1)/\ ∃(d:Int),(0<=d/\d<=((length (aM a)):Int))/\toNat (((length (aM a)):Int) -d)<toNat (((length (aM a)):Int) -c)/\(ac a.2.2.2.2.2.2.1)=(ac a.2.2.2.2.2.2.1)/\aj
 (c+1)=d/\a.1.1=a.1.1/\a.1.2.1=a.1.2.1/\a.1.2.2=a.1.2.2/\a.2.1=a.2.1/\a.2.2.1=a.2.2.1/\a.2.2.2.1=a.2.2.2.1/\a.2.2.2.2.2.2.2.1=a.2.2.2.2.2.2.2.1/\a.2.2.2.2.2.2.2.2=a.2.2.2.2.2.2.2.2/\(0:Int)=0/\(0:Int)=0/\(0:Int)=0/\a.2.2.2.2.1=a.2.2.2.2.1/\a.2.2.2.2.2.1=a.2.2.2.2.2.1/\set a.2.2.2.2.2.2.1 c.toNat (getD a.2.2.2.2.2.2.1 c.toNat default)=a.2.2.2.2.2.2.1/\True) ((ac a.2.2.2.2.2.2.2.1)<=1000000000000/\(∃(d:Int),(0<=d/\d<=((length (bM a)):Int))/\(ac a.2.2.2.2.2.2.2.1)=(ac a.2.2.2.2.2.2.2.1)/\0=d/\a.1.1=a.1.1/\a.1.2.1=a.1.2.1/\a.1.2.2=a.1.2.2/\a.2.1=a.2.1/\a.2.2.1=a.2.2.1/\a.2.2.2.1=a.2.2.2.1/\a.2.2.2.2.2.2.2.2=a.2.2.2.2.2.2.2.2/\(0:Int)=0/\(0:Int)=0/\(0:Int)=0/\a.2.2.2.2.1=a.2.2.2.2.1/\a.2.2.2.2.2.1=a.2.2.2.2.2.1/\a.2.2.2.2.2.2.1=a.2.2.2.2.2.2.1/\a.2.2.2.2.2.2.2.1=a.2.2.2.2.2.2.2.1/\True)/\ ∀(d:Int),0<=d/\d<=((length (bM a)):Int)->ao (decide (d<(ac a.2.2.2.2.2.2.2.1)))
 (0<=d/\d<(ac a.2.2.2.2.2.2.2.1)/\((length (getD a.2.2.2.2.2.2.2.1 d.toNat default).2.2):Int)<=1099511627776/\0<=d/\d<(ac a.2.2.2.2.2.2.2.1)/\ ∃(e:Int),(0<=e/\e<=((length (bM a)):Int))/\toNat (((length (bM a)):Int) -e)<toNat (((length (bM a)):Int) -d)/\(ac a.2.2.2.2.2.2.2.1)=(ac a.2.2.2.2.2.2.2.1)/\aj (d+1)=e/\a.1.1=a.1.1/\a.1.2.1=a.1.2.1/\a.1.2.2=a.1.2.2/\a.2.1=a.2.1/\a.2.2.1=a.2.2.1/\a.2.2.2.1=a.2.2.2.1/\a.2.2.2.2.2.2.2.2=a.2.2.2.2.2.2.2.2/\(0:Int)=0/\(0:Int)=0/\(0:Int)=0/\a.2.2.2.2.1=a.2.2.2.2.1/\a.2.2.2.2.2.1=a.2.2.2.2.2.1/\a.2.2.2.2.2.2.1=a.2.2.2.2.2.2.1/\set a.2.2.2.2.2.2.2.1 d.toNat (getD a.2.2.2.2.2.2.2.1 d.toNat default)=a.2.2.2.2.2.2.2.1/\True) ((ac a.2.2.2.2.2.2.2.2)<=1000000000000/\a=a))):=by
  delta aj ac;rintro d-⟨h1,h2,h3,h4,h5,h6,h7,h8,h9⟩;have h2:(d.2.2.2.2.1.length:Int)<=1000000:=h2;have h3:(d.2.2.2.2.2.1.length:Int)<=1000000:=h3;have h4:(d.2.2.2.2.2.2.1.length:Int)<=1000000:=h4;have h5:(d.2.2.2.2.2.2.2.1.length:Int)<=1000000000000:=h5;have h6:(d.2.2.2.2.2.2.2.2.length:Int)<=1000000000000:=h6;have eS:cq d=d.2.2.2.2.1:=rfl;have eF:aM d=d.2.2.2.2.2.2.1:=rfl;have eD:bM d=d.2.2.2.2.2.2.2.1:=rfl;simp only[eS,eF,eD] at *;refine⟨h1,h2,⟨0,⟨ab,ab⟩,aP⟩,?_⟩;rintro j ⟨j0,j1⟩;refine bU (λhj=>?_) (λhj=>?_)
  .have hx:=h7 _ (bS j0 hj);have hx1:((d.2.2.2.2.1.getD j.toNat default).2.2.1.length:Int)<=1000000:=hx.1;have e:d.2.2.2.2.1.set j.toNat (d.2.2.2.2.1.getD j.toNat default)=d.2.2.2.2.1:=rX j0 hj;refine⟨j0,hj,ab,hx.2,j0,hj,j0,by rw[gB];exact hj,j+1,⟨ab,ab⟩,ab,?_⟩
   (repeat refine js ?_);refine⟨?_,bv⟩;show (d.2.2.2.2.1.set j.toNat (d.2.2.2.2.1.getD j.toNat default)).set j.toNat _=d.2.2.2.2.1;rw[e];exact e
  refine⟨ab,h4,⟨0,⟨ab,ab⟩,aP⟩,?_⟩;rintro k ⟨k0,k1⟩;refine bU (λhk=>?_) (λhk=>?_)
  .have hx1:((d.2.2.2.2.2.2.1.getD k.toNat default).2.2.2.2.2.length:Int)<=1000000:=h8 _ (bS k0 hk);refine⟨k0,hk,ab,k0,hk,k+1,⟨ab,ab⟩,ab,?_⟩
   (repeat refine js ?_);exact⟨rX k0 hk,bv⟩
  refine⟨h5,⟨0,⟨ab,ab⟩,aP⟩,?_⟩;rintro k ⟨k0,k1⟩;refine bU (λhk=>?_) (λhk=>?_)
  .have hx1:((d.2.2.2.2.2.2.2.1.getD k.toNat default).2.2.length:Int)<=1000000:=h9 _ (bS k0 hk);refine⟨k0,hk,ab,k0,hk,k+1,⟨ab,ab⟩,ab,?_⟩
   (repeat refine js ?_);exact⟨rX k0 hk,bv⟩
  exact⟨h6,bv⟩
theorem KJ:aB 42 Ms.spec:=aF Tryz.func42 (av (av (av (av (av (av (av (av aD Sd) YA) wX) Sh) XE) sD) UX) aQ0) Vq ao2
def tH(x y:bg):Int:=if gH (aO x) (aO y)≠0 then gH (aO x) (aO y) else gH (kv x) (kv y)
def XZ:Ct:=⟨[.agg nG,.agg nG],[.val cI],λ_=>[],λd=>((tH d.1 d.2.1,()),())⟩
theorem Uz :
 ∀(a b c d e:Int)(f:ae)(g h i j k:Int)(l:ae),(aq a/\aq b/\aq c/\aq d/\aq e/\f.length<=maxLen/\ ∀(m:Int),m∈f->0<=m/\m<=255)/\(aq g/\aq h/\aq i/\aq j/\aq k/\l.length<=maxLen/\ ∀(m:Int),m∈l->0<=m/\m<=255)/\True->True->m6 [gH a g,gH b h]=tH (a,b,c,d,e,f) (g,h,i,j,k,l):=by
  rintro a1 a2 a3 a4 a5 a6 b1 b2 b3 b4 b5 b6 - -;have e:tH (a1,a2,a3,a4,a5,a6) (b1,b2,b3,b4,b5,b6)=if gH a1 b1≠0 then gH a1 b1 else gH a2 b2:=rfl;rw[e];simp only[m6];by_cases h:gH a1 b1≠0
  .rw[am h,am h]
  .rw[af h,af h];by_cases k:gH a2 b2≠0
   .rw[am k]
   .rw[af k];simp at k;exact k.symm
theorem Yl:aB 105 XZ.spec:=aF Tryz.func105 (av (av aD OV) Ng) aT Uz
instance (a b:bg):Decidable (gT a b):=by unfold gT;infer_instance
def gG(l:List bg)(t:bg):Int:=((l.takeWhile λx=>decide (gT x t)).length:Int)
theorem Tp{x y:bg}:tH x y<0↔gT x y:=by
 unfold tH gH gT
 by_cases h1:aO x<aO y
 .simp[h1]
 .by_cases h2:aO y<aO x
  .have:aO x≠aO y:=ab;simp[h1,h2,this]
  .have:aO x=aO y:=ab;by_cases h3:kv x<kv y
   .simp[this,h3]
   .by_cases h4:kv y<kv x <;> simp[this,h3,h4]
theorem aR0{x y z:bg}(h:gT x y)(k:gT y z):gT x z:=by unfold gT at *;omega
theorem I1(l:List bg)(t:bg):0<=gG l t/\gG l t<=l.length:=by
 unfold gG
 have:=jt length (su (p:=λx=>decide (gT x t)) (l:=l))
 rw[cu] at this
 omega
theorem Mz:∀{l:List bg}{t:bg}{h:Nat},l.Pairwise gT->h<l.length->(gT (l.getD h default) t↔(h:Int)<gG l t)
 | [],t,h,_,hh=>by simp at hh
 | a::l,t,h,hs,hh=>by
  obtain⟨s1,s2⟩:=List.pairwise_cons.1 hs;by_cases ha:gT a t
  .have e:gG (a::l) t=gG l t+1:=by unfold gG;rw[List.takeWhile_cons_of_pos (by simpa using ha),dM];omega
   cases h with
   | zero =>
    have:=I1 l t;simp only[List.getD_cons_zero];exact⟨λ_=>by rw[e];omega,λ_=>ha⟩
   | succ h =>
    simp only[List.getD_cons_succ];rw[Mz s2 (by simpa using hh),e];omega
  .have e:gG (a::l) t=0:=by unfold gG;rw[List.takeWhile_cons_of_neg (by simpa using ha)];rfl
   rw[e];constructor
   .intro k;exfalso;cases h with
    | zero=>exact ha k
    | succ h =>
     simp only[List.getD_cons_succ] at k;have hh:h<l.length:=by simpa using hh
     have hm:l.getD h default∈l:=by rw[bL,cK hh];exact List.getElem_mem hh
     exact ha (aR0 (s1 _ hm) k)
   .intro k;omega
theorem N5{l:List bg}{t:bg}{h:Int}(hs:l.Pairwise gT)(h0:0<=h)(h1:h<l.length):tH (l.getD h.toNat default) t<0↔h<gG l t:=by
 rw[Tp,Mz hs ab]
 rw[Int.toNat_of_nonneg h0]
def Qb:Ct:=⟨[.val (.sl nG),.agg nG,.fn 105 0],[.val cI,.val .bool],λd=>[d.1.Pairwise gT],λd=>((gG d.1 d.2.1,(bif decide (gG d.1 d.2.1<d.1.length) then decide (tH (d.1.getD (gG d.1 d.2.1).toNat default) d.2.1=0) else false),()),())⟩
def X1:bw Qb.ps->ce:=(λd=>{loops:=(bq 3 (λS=>{ι:=Int×Int,qn:=fj,μ:=λi=>(i.2-i.1).toNat,inv:=λi=>0<=i.1/\i.1<=gG d.1 d.2.1/\gG d.1 d.2.1<=i.2/\i.2<=d.1.length,keep:=[0,2,4,8],slots:=λi=>[(9,.int .i64 i.1),(10,.int .i64 i.2)],keepN:=[80]}) cC)})
def zh(h i:Int) :=
 dF IntKind.u64 (IntKind.wrap .u64 (aj (h+i))) (1:Int)
theorem aJ4 :
 ∀(a:List (Int×Int×Int×Int×Int×ae))(b c d e f:Int)(g:ae),(a.length<=maxLen/\ ∀(h:Int×Int×Int×Int×Int×ae),h∈a->aq h.1/\aq h.2.1/\aq h.2.2.1/\aq h.2.2.2.1/\aq h.2.2.2.2.1/\h.2.2.2.2.2.length<=maxLen/\ ∀(i:Int),i∈h.2.2.2.2.2->0<=i/\i<=255)/\(aq b/\aq c/\aq d/\aq e/\aq f/\g.length<=maxLen/\ ∀(h:Int),h∈g->0<=h/\h<=255)/\True/\True->List.Pairwise gT a->(∃(h:Int) (i:Int),(0<=h/\h<=gG a (b,c,d,e,f,g)/\gG a (b,c,d,e,f,g)<=i/\i<=(ac a))/\a=a/\(ac a)=(ac a)/\0=h/\(ac a)=i/\b=b/\c=c/\d=d/\e=e/\f=f/\g=g/\True)/\ ∀(h i:Int),0<=h/\h<=gG a (b,c,d,e,f,g)/\gG a (b,c,d,e,f,g)<=i/\i<=(ac a)->ao (decide (h<i)) ((0:Int)<=1/\0<=aj (zh h i)/\aj (zh h i)<(ac a)/\ao (decide (tH (ai a (aj (zh h i))) (b,c,d,e,f,g)<0)) (∃(j:Int) (k:Int),(0<=j/\j<=gG a (b,c,d,e,f,g)/\gG a (b,c,d,e,f,g)<=k/\k<=(ac a))/\toNat (k -j)<toNat (i -h)/\a=a/\(ac a)=(ac
 a)/\aj (aj (zh h i)+1)=j/\i=k/\b=b/\c=c/\d=d/\e=e/\f=f/\g=g/\True) (∃(j:Int) (k:Int),(0<=j/\j<=gG a (b,c,d,e,f,g)/\gG a (b,c,d,e,f,g)<=k/\k<=(ac a))/\toNat (k -j)<toNat (i -h)/\a=a/\(ac a)=(ac a)/\h=j/\aj (zh h i)=k/\b=b/\c=c/\d=d/\e=e/\f=f/\g=g/\True)) (∀(j:Bool),j=decide (h<(ac a))->(j->(ar j)/\(ar j)/\0<=h/\h<(ac a)/\True)/\(ah j)/\(j->(ar j)/\(ar j)/\(ar j)/\True)/\(ah j)/\(ar j)/\h=gG a (b,c,d,e,f,g)/\(bif j then decide (tH (ai a h) (b,c,d,e,f,g)=0) else false)=bif decide (gG a (b,c,d,e,f,g)<(ac a)) then decide (tH (ai a (gG a (b,c,d,e,f,g))) (b,c,d,e,f,g)=0) else false):=by
  delta zh ah ar aj ai ac;rintro x p1 p2 p3 p4 p5 p6 ⟨⟨hl,-⟩,-⟩ hs;simp only[maxLen] at hl;obtain⟨q0,q1⟩:=I1 x (p1,p2,p3,p4,p5,p6);refine⟨⟨0,x.length,⟨ab,q0,q1,ab⟩,aP⟩,?_⟩;rintro i j ⟨h0,h1,h2,h3⟩;refine bU (λhb=>?_) (λhb=>?_)
  .rw[QG h0 ab ab];refine⟨ab,ab,ab,bU (λhc=>?_) (λhc=>?_)⟩
   .have hc:=(N5 hs ab ab).1 hc;rw[aG ab ab];exact⟨(i+j)/2+1,j,⟨ab,ab,h2,h3⟩,ab,aP⟩
   .have hc:¬ (i+j)/2<gG x (p1,p2,p3,p4,p5,p6):=λh=>absurd ((N5 hs ab ab).2 h) hc;exact⟨i,(i+j)/2,⟨h0,h1,ab,ab⟩,ab,aP⟩
  .have:i=gG x (p1,p2,p3,p4,p5,p6):=ab;subst this
   (repeat (refine bY ?_;repeat refine bZ ?_));exact rfl
theorem UF:aB 104 Qb.spec:=aF Tryz.func104 (av aD Yl) X1 aJ4
theorem MM{α:Type}{p q:α->Bool}:∀{l:List α},(∀ x∈l,p x=q x)->l.takeWhile p=l.takeWhile q/\l.dropWhile p=l.dropWhile q
 | [],_=>⟨rfl,rfl⟩
 | a::l,h=>by
  obtain⟨h1,h2⟩:=MM (l:=l) λx hx=>h x (fL _ hx);have ha:=h a (fW ..);rw[List.takeWhile_cons,List.takeWhile_cons,List.dropWhile_cons,List.dropWhile_cons,ha,h1,h2];exact⟨rfl,rfl⟩
theorem Wq{l:List bg}{f:bg}(hf:∀ x∈l,kv x<kv f):l.take (gG l f).toNat++([f]++l.drop (gG l f).toNat)=fM l f:=by
 obtain⟨e1,e2⟩:=MM (p:=λx=>decide (gT x f)) (q:=λx=>decide (aO x<=aO f)) (l:=l) λx hx=>by
  have:=hf x hx;apply decide_eq_decide.2;unfold gT;omega
 have k:=su (p:=λx=>decide (gT x f)) (l:=l)
 have t1:∀ A B:List bg,A++B=l->l.take A.length=A/\l.drop A.length=B:=by
  rintro A B rfl;exact⟨List.take_left' rfl,List.drop_left' rfl⟩
 obtain⟨t2,t3⟩:=t1 _ _ k
 unfold gG
 rw[Int.toNat_natCast,t2,t3]
 unfold fM
 rw[e1,e2]
 rfl
def Vo:Ct:=⟨[.box 54 zy,.agg nG],[],λd=>[(aM d.1).Pairwise gT,∀ x∈aM d.1,kv x<bK d.1,(aM d.1).length<=4096],λd=>((),(zL d.1 d.2.1,()))⟩
theorem VM :
 ∀(a:List au)(b:List aK)(c:List aV)(d e f:Int)(g:List (List aN×Int×ae×(Int×Int)×Int))(h:ae)(i:List (Int×Int×Int×Int×Int×ae))(j:List (Int×Int×ae))(k:List (Int×Int×Int×Int×Int))(l m n o p:Int)(q:ae),(((a.length<=maxLen/\ ∀(r:au),r∈a->CT.wf bR r)/\(b.length<=maxLen/\ ∀(r:aK),r∈b->CT.wf fU r)/\c.length<=maxLen/\ ∀(r:aV),r∈c->CT.wf fg r)/\aq d/\aq e/\aq f/\(g.length<=maxLen/\ ∀(r:List aN×Int×ae×(Int×Int)×Int),r∈g->(r.1.length<=maxLen/\ ∀(s:aN),s∈r.1->((0<=s.1.1/\s.1.1<=4294967295)/\aq s.1.2)/\(s.2.1.length<=maxLen/\ ∀(t:Int),t∈s.2.1->aq t)/\aq s.2.2)/\aq r.2.1/\(r.2.2.1.length<=maxLen/\ ∀(s:Int),s∈r.2.2.1->aq s)/\(aq r.2.2.2.1.1/\aq r.2.2.2.1.2)/\aq r.2.2.2.2)/\(h.length<=maxLen/\ ∀(r:Int),r∈h->aq r)/\(i.length<=maxLen/\ ∀(r:Int×Int×Int×Int×Int×ae),r∈i->aq r.1/\aq r.2.1/\aq r.2.2.1/\aq
 r.2.2.2.1/\aq r.2.2.2.2.1/\r.2.2.2.2.2.length<=maxLen/\ ∀(s:Int),s∈r.2.2.2.2.2->0<=s/\s<=255)/\(j.length<=maxLen/\ ∀(r:Int×Int×ae),r∈j->aq r.1/\aq r.2.1/\r.2.2.length<=maxLen/\ ∀(s:Int),s∈r.2.2->0<=s/\s<=255)/\k.length<=maxLen/\ ∀(r:Int×Int×Int×Int×Int),r∈k->aq r.1/\aq r.2.1/\aq r.2.2.1/\aq r.2.2.2.1/\aq r.2.2.2.2)/\(aq l/\aq m/\aq n/\aq o/\aq p/\q.length<=maxLen/\ ∀(r:Int),r∈q->0<=r/\r<=255)/\True->List.Pairwise gT (aM ((a,b,c),d,e,f,g,h,i,j,k))/\(∀(r:bg),r∈aM ((a,b,c),d,e,f,g,h,i,j,k)->kv r<bK ((a,b,c),d,e,f,g,h,i,j,k))/\length (aM ((a,b,c),d,e,f,g,h,i,j,k))<=(4096:Nat)->List.Pairwise gT i/\length [(l,e,n,o,p,q)]=(1:Nat)/\0<=gG i (l,e,n,o,p,q)/\gG i (l,e,n,o,p,q)<=(ac i)/\(i.length+(1:Nat))*(64:Nat)<=(lw)/\((a,b,c),d,aj (e+1),f,g,h,take (toNat (gG i (l,e,n,o,p,q))) i++([(l,e,n,o,p,q)]++drop (toNat (gG i
 (l,e,n,o,p,q))) i),j,k)=zL ((a,b,c),d,e,f,g,h,i,j,k) (l,m,n,o,p,q):=by
  delta lw aj ac;rintro ns ls hs now ord dn sts cr fl dl en a b c e f g-⟨h1,h2,h3⟩;have h1:fl.Pairwise gT:=h1;have h2:∀ x∈fl,kv x<ord:=h2;have h3:fl.length<=4096:=h3;obtain⟨q0,q1⟩:=I1 fl (a,ord,c,e,f,g);refine⟨h1,rfl,q0,q1,ab,?_⟩;rw[Wq (f:=(a,ord,c,e,f,g)) h2];rfl
theorem Ro:aB 43 Vo.spec:=aF Tryz.func43 (av (av aD UF) Y6) aT VM
def Ot:Ct:=⟨[.box 54 zy],[],λd=>[uC d.1],λd=>((),(dq d.1,()))⟩
def aM5:bw Ot.ps->ce:=(λd=>{loops:=(bq 0 (λS=>{ι:=Int×(List ct),qn:=fj,μ:=λi=>((aC d.1).2.2.length-i.1).toNat,inv:=λi=>uC (pK (iC d.1 i.2) i.1)/\dq (pK (iC d.1 i.2) i.1)=dq d.1,keep:=[0],slots:=λi=>[],keepN:=[2097153,2097154,2097155,2097156],names:=λi=>[(1048576,.live (.cells 54 (dU ib d.1.1++[.int .i64 d.1.2.1,.int .i64 d.1.2.2.1,.int .i64 i.1,.own 524288 6,.own 2097153 1,.own 2097154 6,.own 2097155 3,.own 2097156 5]))),(524288,.live (.row 118 pZ i.2))]}) cC)})
def DZ(a:List au)(b:List aK)(c:List aV)(d e f:Int)(g:List (List aN×Int×ae×(Int×Int)×Int))(h:ae)(i:List (Int×Int×Int×Int×Int×ae))(j:List (Int×Int×ae))(k:List (Int×Int×Int×Int×Int)) :=
 ((a.length<=maxLen/\ ∀(l:au),l∈a->CT.wf bR l)/\(b.length<=maxLen/\ ∀(l:aK),l∈b->CT.wf fU l)/\c.length<=maxLen/\ ∀(l:aV),l∈c->CT.wf fg l)/\aq d/\aq e/\aq f/\(g.length<=maxLen/\ ∀(l:List aN×Int×ae×(Int×Int)×Int),l∈g->(l.1.length<=maxLen/\ ∀(m:aN),m∈l.1->((0<=m.1.1/\m.1.1<=4294967295)/\aq m.1.2)/\(m.2.1.length<=maxLen/\ ∀(n:Int),n∈m.2.1->aq n)/\aq m.2.2)/\aq l.2.1/\(l.2.2.1.length<=maxLen/\ ∀(m:Int),m∈l.2.2.1->aq m)/\(aq l.2.2.2.1.1/\aq l.2.2.2.1.2)/\aq l.2.2.2.2)/\(h.length<=maxLen/\ ∀(l:Int),l∈h->aq l)/\(i.length<=maxLen/\ ∀(l:Int×Int×Int×Int×Int×ae),l∈i->aq l.1/\aq l.2.1/\aq l.2.2.1/\aq l.2.2.2.1/\aq l.2.2.2.2.1/\l.2.2.2.2.2.length<=maxLen/\ ∀(m:Int),m∈l.2.2.2.2.2->0<=m/\m<=255)/\(j.length<=maxLen/\ ∀(l:Int×Int×ae),l∈j->aq l.1/\aq l.2.1/\l.2.2.length<=maxLen/\ ∀(m:Int),m∈l.2.2->0<=m/\m<=255)/\k.length<=maxLen/\
 ∀(l:Int×Int×Int×Int×Int),l∈k->aq l.1/\aq l.2.1/\aq l.2.2.1/\aq l.2.2.2.1/\aq l.2.2.2.2
def uK(c:List aV)(l:Int)(m:List ct) :=
 m.getD (toNat (ai c l).2.1) default
theorem aw2 :
 ∀(a:List au)(b:List aK)(c:List aV)(d e f:Int)(g:List (List aN×Int×ae×(Int×Int)×Int))(h:ae)(i:List (Int×Int×Int×Int×Int×ae))(j:List (Int×Int×ae))(k:List (Int×Int×Int×Int×Int)),(DZ a b c d e f g h i j k)/\True->gc ((a,b,c),d,e,f,g,h,i,j,k)∨c=([]:List aV)/\dk ((a,b,c),d,e,f,g,h,i,j,k)=0->(∃(l:Int) (m:List ct),(uC (pK (iC ((a,b,c),d,e,f,g,h,i,j,k) m) l)/\dq (pK (iC ((a,b,c),d,e,f,g,h,i,j,k) m) l)=dq ((a,b,c),d,e,f,g,h,i,j,k))/\h=h/\i=i/\j=j/\k=k/\a=a/\b=b/\c=c/\d=d/\e=e/\f=l/\g=m/\True)/\ ∀(l:Int)(m:List ct),uC (pK (iC ((a,b,c),d,e,f,g,h,i,j,k) m) l)/\dq (pK (iC ((a,b,c),d,e,f,g,h,i,j,k) m) l)=dq ((a,b,c),d,e,f,g,h,i,j,k)-> ∀(n:Bool),n=decide (l<(ac c))->(ah n)/\(ah n)/\(ah n)/\(ah n)/\(ah n)/\(ah n)/\(ah n)/\(n->(ar n)/\(ar n)/\0<=l/\l<(ac c)/\True)/\(ah
 n)/\(ah n)/\(ah n)/\(ah n)/\(ah n)/\(n->(ar n)/\(ar n)/\True)/\(ar n)/\ao (bif n then decide ((ai c l).1<=d) else false) (0<=l/\l<(ac c)/\0<=(ai c l).2.1/\(ai c l).2.1<(ac m)/\ao (ai c l).2.2.1 (cH (uK c l m).1/\okL (uK c l m).1/\ ∃(o:Int) (p:List ct),(uC (pK (iC ((a,b,c),d,e,f,g,h,i,j,k) p) o)/\dq (pK (iC ((a,b,c),d,e,f,g,h,i,j,k) p) o)=dq ((a,b,c),d,e,f,g,h,i,j,k))/\toNat ((ac c) -o)<toNat ((ac c) -l)/\h=h/\i=i/\j=j/\k=k/\a=a/\b=b/\c=c/\d=d/\e=e/\aj (l+1)=o/\set m (toNat (ai c l).2.1) (jk (uK c l m).1 (ai c l).2.2.2.1,(uK c l m).2)=p/\True) (cH (uK c l m).1/\okL (uK c l m).1/\((length (ai c l).2.2.2.2.1):Int)<=1099511627776/\ ∃(o:Int) (p:List ct),(uC (pK (iC ((a,b,c),d,e,f,g,h,i,j,k) p) o)/\dq (pK (iC ((a,b,c),d,e,f,g,h,i,j,k) p) o)=dq
 ((a,b,c),d,e,f,g,h,i,j,k))/\toNat ((ac c) -o)<toNat ((ac c) -l)/\h=h/\i=i/\j=j/\k=k/\a=a/\b=b/\c=c/\d=d/\e=e/\aj (l+1)=o/\set m (toNat (ai c l).2.1) (f6 (uK c l m).1 (ai c l).2.2.2,(uK c l m).2)=p/\True)) (((a,b,c),d,e,l,m,h,i,j,k)=dq ((a,b,c),d,e,f,g,h,i,j,k)):=by
  delta DZ uK ah ar aj ai ac;rintro ns ls hs now ord dn0 sts cr fl dl en ⟨⟨⟨-,-,⟨hl,-⟩⟩,-⟩,-⟩ h;simp only[maxLen] at hl;refine⟨⟨dn0,sts,⟨h,rfl⟩,aP⟩,?_⟩;rintro dn st ⟨hv,he⟩;obtain⟨v,hw⟩:∃ v:aJ,v=pK (iC ((ns,ls,hs),now,ord,dn0,sts,cr,fl,dl,en) st) dn:=⟨_,rfl⟩
  rw[← hw] at hv he;have hdn:dk v=dn:=by rw[hw];rfl
  have hd0:0<=dn:=by rcases hv with q|q;have:=q.done.1;omega;have:=q.2;omega
  (repeat (refine bY ?_;repeat refine bZ ?_));refine uD (λh1 h2=>?_) (λh12=>?_)
  rotate_left
  .rw[← he,ak1,hw]
   .rfl
   .intro k;unfold oZ at k;rw[hw,dK] at k;rcases h12 with q|q
    .exact absurd (k.1.symm.trans q) aA
    .exact absurd (k.2.symm.trans q) aA
  have hd1:dn<hs.length:=aI h1;have hv:gc v:=hv.resolve_right λq=>by
   have q1:hs=[]:=by have:=q.1;rw[hw] at this;exact this
   rw[q1] at hd1;simp at hd1;omega
  have hdue:oZ v=true:=by
   unfold oZ;rw[hw,dK];exact⟨h1,h2⟩
  have eN:aC v=(ns,ls,hs):=by rw[hw];rfl
  have eS:cq v=st:=by rw[hw];rfl
  have hk:dn.toNat<(aC v).2.2.length:=by rw[eN];show dn.toNat<hs.length;omega
  obtain⟨-,⟨w0,w1⟩,hc⟩:=D1 hv.net hk;have hlen:=hv.len;have hsw:=hv.chg hdue;have hst:=(ae6 hv hdue).symm.trans he;rw[eN,eS] at hlen;rw[eN] at w0 w1 hc;have hlen:st.length=ns.length:=hlen;obtain⟨c,ec⟩:∃ c:aV,c=hs.getD dn.toNat default:=⟨_,rfl⟩
  have w0:0<=bJ c:=by rw[ec];exact w0
  have w1:bJ c<ns.length:=by rw[ec];exact w1
  have hi:(bJ c).toNat<(aC v).1.length:=by rw[eN];show (bJ c).toNat<ns.length;omega
  obtain⟨c1,c2⟩:=xx (hv.chk hi);rw[eS] at c1 c2;have et:kD v=c:=by rw[ec,hw];rfl
  have ed:dk v=dn:=by rw[hw];rfl
  have ev:nE v=pK (iC ((ns,ls,hs),now,ord,dn0,sts,cr,fl,dl,en) (st.set (bJ c).toNat (Kx (st.getD (bJ c).toNat default) (f9 (bT (st.getD (bJ c).toNat default)) c)))) (dn+1):=by
   unfold nE;rw[et,ed,eS,aG ab ab,hw];rfl
  rw[ev] at hsw hst;have wd:IntKind.i64.wrap (dn+1)=dn+1:=aG ab ab;rw[← ec];refine⟨hd0,hd1,w0,by rw[hlen];exact w1,aw (λhr=>?_) (λhr=>?_)⟩
  .have er:f9 (bT (st.getD (bJ c).toNat default)) c=jk (bT (st.getD (bJ c).toNat default)) (dN c).1:=by unfold f9;exact am hr
   rw[er] at hsw hst;refine⟨c1,c2,dn+1,_,⟨.inl hsw,hst⟩,by show (hs.length-(dn+1)).toNat<(hs.length-dn).toNat;omega,?_⟩
   (repeat refine js ?_);exact⟨rfl,bv⟩
  .have er:f9 (bT (st.getD (bJ c).toNat default)) c=f6 (bT (st.getD (bJ c).toNat default)) (dN c):=by unfold f9;rw[af (by rw[show pQ c=false from hr];simp)]
   have hin:((dN c).2.1.length:Int)<=1099511627776:=by
    have hc':=(xx hc).2.2;rw[← ec] at hc';have e2:f9 ((dG (ns,ls,hs) dn.toNat).getD (bJ c).toNat default) c=f6 ((dG (ns,ls,hs) dn.toNat).getD (bJ c).toNat default) (dN c):=by unfold f9;rw[af (by rw[show pQ c=false from hr];simp)]
    have hc2:okL (f6 ((dG (ns,ls,hs) dn.toNat).getD (bJ c).toNat default) (dN c)):=by
     have:=(xx hc).2;rw[← e2,ec];exact this
    exact hc2.2 _ (by unfold f6;simp)
   rw[er] at hsw hst;refine⟨c1,c2,hin,dn+1,_,⟨.inl hsw,hst⟩,by show (hs.length-(dn+1)).toNat<(hs.length-dn).toNat;omega,?_⟩
   (repeat refine js ?_);exact⟨rfl,bv⟩
theorem RL:aB 47 Ot.spec:=aF Tryz.func47 (av (av aD Rg) NR) aM5 aw2
def Uq:Ct:=⟨[.box 54 zy,.agg nG,.val cI,.val cI],[],λd=>[((bh d.1).length:Int)<=1000000000000],λd=>((),(oh d.1 d.2.1 d.2.2.1 d.2.2.2.1,()))⟩
def CP(a:List au)(b:List aK)(c:List aV)(d e f:Int)(g:List (List aN×Int×ae×(Int×Int)×Int))(h:ae)(i:List (Int×Int×Int×Int×Int×ae))(j:List (Int×Int×ae))(k:List (Int×Int×Int×Int×Int)) :=
 ((a.length<=maxLen/\ ∀(t:au),t∈a->CT.wf bR t)/\(b.length<=maxLen/\ ∀(t:aK),t∈b->CT.wf fU t)/\c.length<=maxLen/\ ∀(t:aV),t∈c->CT.wf fg t)/\aq d/\aq e/\aq f/\(g.length<=maxLen/\ ∀(t:List aN×Int×ae×(Int×Int)×Int),t∈g->(t.1.length<=maxLen/\ ∀(u:aN),u∈t.1->((0<=u.1.1/\u.1.1<=4294967295)/\aq u.1.2)/\(u.2.1.length<=maxLen/\ ∀(v:Int),v∈u.2.1->aq v)/\aq u.2.2)/\aq t.2.1/\(t.2.2.1.length<=maxLen/\ ∀(u:Int),u∈t.2.2.1->aq u)/\(aq t.2.2.2.1.1/\aq t.2.2.2.1.2)/\aq t.2.2.2.2)/\(h.length<=maxLen/\ ∀(t:Int),t∈h->aq t)/\(i.length<=maxLen/\ ∀(t:Int×Int×Int×Int×Int×ae),t∈i->aq t.1/\aq t.2.1/\aq t.2.2.1/\aq t.2.2.2.1/\aq t.2.2.2.2.1/\t.2.2.2.2.2.length<=maxLen/\ ∀(u:Int),u∈t.2.2.2.2.2->0<=u/\u<=255)/\(j.length<=maxLen/\ ∀(t:Int×Int×ae),t∈j->aq t.1/\aq t.2.1/\t.2.2.length<=maxLen/\ ∀(u:Int),u∈t.2.2->0<=u/\u<=255)/\k.length<=maxLen/\
 ∀(t:Int×Int×Int×Int×Int),t∈k->aq t.1/\aq t.2.1/\aq t.2.2.1/\aq t.2.2.2.1/\aq t.2.2.2.2
theorem aS3 :
 ∀(a:List au)(b:List aK)(c:List aV)(d e f:Int)(g:List (List aN×Int×ae×(Int×Int)×Int))(h:ae)(i:List (Int×Int×Int×Int×Int×ae))(j:List (Int×Int×ae))(k:List (Int×Int×Int×Int×Int))(l m n o p:Int)(q:ae)(r s:Int),(CP a b c d e f g h i j k)/\(aq l/\aq m/\aq n/\aq o/\aq p/\q.length<=maxLen/\ ∀(t:Int),t∈q->0<=t/\t<=255)/\aq r/\aq s/\True->((length (bh ((a,b,c),d,e,f,g,h,i,j,k))):Int)<=1000000000000->(k.length+length [(p,l,n,r,s)])*(40:Nat)<=(lw)/\((a,b,c),d,e,f,g,h,i,j,k++[(p,l,n,r,s)])=oh ((a,b,c),d,e,f,g,h,i,j,k) (l,m,n,o,p,q) r s:=by
  delta CP lw;rintro ns ls hs now ord dn sts cr fl dl en a b c e f g l r-h;have h:(en.length:Int)<=1000000000000:=h;exact⟨by simp only[ga];omega,rfl⟩
theorem M3:aB 110 Uq.spec:=aF Tryz.func110 aD aT aS3
def KM(n:Int):Int:=IntKind.u64.wrap n
def ak3:Ct:=⟨[.box 54 zy,.agg nG,.agg wK],[],λd=>[(aM d.1).Pairwise gT,∀ x∈aM d.1,kv x<bK d.1,(aM d.1).length<=4096,((bh d.1).length:Int)<=1000000000000,(gw d.1).length=(aC d.1).2.1.length,0<=d.2.2.1.1,d.2.2.1.1<(aC d.1).2.1.length,gZ (aC d.1).1.length (cU d.1 d.2.2.1.1)],λd=>((),(eM d.1 d.2.1 d.2.2.1,()))⟩
def Ic(b:List aK)(d:Int)(h:ae)(r:Int) :=
 aj (d+(ai b r).2.2.1)+aj (Int.tmod (IntKind.wrap .u64 (Int.tdiv (mA (bits BinOp.xor IntKind.u64 (mA (IntKind.wrap .u64 (ai b r).2.2.2.2.2)) (IntKind.wrap .u64 (ai h r)))) (65536:Int))) (IntKind.wrap .u64 (aj ((ai b r).2.2.2.1+1))))
def ot(h:ae)(r:Int) :=
 aj (ai h r+1)
theorem Vd :
 ∀(a:List au)(b:List aK)(c:List aV)(d e f:Int)(g:List (List aN×Int×ae×(Int×Int)×Int))(h:ae)(i:List (Int×Int×Int×Int×Int×ae))(j:List (Int×Int×ae))(k:List (Int×Int×Int×Int×Int))(l m n o p:Int)(q:ae)(r:Int)(s:ae),(CP a b c d e f g h i j k)/\(aq l/\aq m/\aq n/\aq o/\aq p/\q.length<=maxLen/\ ∀(t:Int),t∈q->0<=t/\t<=255)/\(aq r/\s.length<=maxLen/\ ∀(t:Int),t∈s->0<=t/\t<=255)/\True->List.Pairwise gT (aM ((a,b,c),d,e,f,g,h,i,j,k))/\(∀(t:bg),t∈aM ((a,b,c),d,e,f,g,h,i,j,k)->kv t<bK ((a,b,c),d,e,f,g,h,i,j,k))/\length (aM ((a,b,c),d,e,f,g,h,i,j,k))<=(4096:Nat)/\((length (bh ((a,b,c),d,e,f,g,h,i,j,k))):Int)<=1000000000000/\length (gw ((a,b,c),d,e,f,g,h,i,j,k))=b.length/\0<=r/\r<(ac b)/\0<=lA (cU ((a,b,c),d,e,f,g,h,i,j,k) r)/\lA (cU ((a,b,c),d,e,f,g,h,i,j,k) r)<(ac a)/\0<=lB (cU
 ((a,b,c),d,e,f,g,h,i,j,k) r)/\lB (cU ((a,b,c),d,e,f,g,h,i,j,k) r)<(ac a)/\lA (cU ((a,b,c),d,e,f,g,h,i,j,k) r)≠lB (cU ((a,b,c),d,e,f,g,h,i,j,k) r)/\1<=gS (cU ((a,b,c),d,e,f,g,h,i,j,k) r)/\gS (cU ((a,b,c),d,e,f,g,h,i,j,k) r)<=1073741824/\0<=fK (cU ((a,b,c),d,e,f,g,h,i,j,k) r)/\fK (cU ((a,b,c),d,e,f,g,h,i,j,k) r)<=1073741824/\0<=oo (cU ((a,b,c),d,e,f,g,h,i,j,k) r)/\oo (cU ((a,b,c),d,e,f,g,h,i,j,k) r)<=65536->0<=r/\r<(ac b)/\0<=r/\r<(ac h)/\0<=r/\r<(ac h)/\0<=r/\r<(ac h)/\(65536:Int)≠(0:Int)/\ao (decide (Int.tmod (mA (bits BinOp.xor IntKind.u64 (mA (IntKind.wrap .u64 (ai b r).2.2.2.2.2)) (IntKind.wrap .u64 (ai h r)))) 65536<IntKind.wrap .u64 (ai b r).2.2.2.2.1)) (((length (bh ((a,b,c),d,e,f,g,set h r.toNat (ot h r),i,j,k))):Int)<=1000000000000/\((a,b,c),d,e,f,g,set h r.toNat (ot h r),i,j,bh
 ((a,b,c),d,e,f,g,set h r.toNat (ot h r),i,j,k)++[(iB (l,m,n,o,p,q),aO (l,m,n,o,p,q),bm (l,m,n,o,p,q),r,(3:Int))])=eM ((a,b,c),d,e,f,g,h,i,j,k) (l,m,n,o,p,q) (r,s)) ((65536:Int)≠(0:Int)/\IntKind.wrap .u64 (aj ((ai b r).2.2.2.1+1))≠(0:Int)/\ ∀(t:Bool),t=decide (1125899906842624<aj (Ic b d h r))->(ah (! t))/\(ah (! t))/\(ah (! t))/\(ah (! t))/\(ah (! t))/\(aE t)/\ao (bif t then true else decide (4096<=(ac i))) (((length (bh ((a,b,c),d,e,f,g,set h r.toNat (ot h r),i,j,k))):Int)<=1000000000000/\((a,b,c),d,e,f,g,set h r.toNat (ot h r),i,j,bh ((a,b,c),d,e,f,g,set h r.toNat (ot h r),i,j,k)++[(iB (l,m,n,o,p,q),aO (l,m,n,o,p,q),bm (l,m,n,o,p,q),r,(7:Int))])=eM ((a,b,c),d,e,f,g,h,i,j,k) (l,m,n,o,p,q) (r,s)) (List.Pairwise gT (aM ((a,b,c),d,e,f,g,set h r.toNat (ot h r),i,j,k))/\(∀(u:bg),u∈aM ((a,b,c),d,e,f,g,set h
 r.toNat (ot h r),i,j,k)->kv u<bK ((a,b,c),d,e,f,g,set h r.toNat (ot h r),i,j,k))/\length (aM ((a,b,c),d,e,f,g,set h r.toNat (ot h r),i,j,k))<=(4096:Nat)/\((a,b,c),d,aj (bK ((a,b,c),d,e,f,g,set h r.toNat (ot h r),i,j,k)+1),f,g,set h r.toNat (ot h r),fM (aM ((a,b,c),d,e,f,g,set h r.toNat (ot h r),i,j,k)) (aO (aj (Ic b d h r),(0:Int),fB b r n,r,p,s),bK ((a,b,c),d,e,f,g,set h r.toNat (ot h r),i,j,k),fB b r n,r,p,s),j,k)=eM ((a,b,c),d,e,f,g,h,i,j,k) (l,m,n,o,p,q) (r,s))):=by
  delta CP Ic ot ah aE aj ai ac;rintro ns ls hs now ord dn sts cr fl dl en a b c e f g k o-⟨h1,h2,h3,h4,h5,h6,h7,h8⟩;obtain⟨w,hw⟩:∃ w:aJ,w=((ns,ls,hs),now,ord,dn,sts,cr,fl,dl,en):=⟨_,rfl⟩
  obtain⟨x,hx⟩:∃ x:bg,x=(a,b,c,e,f,g):=⟨_,rfl⟩
  have h8:gZ ns.length (cU w k):=by rw[hw];exact h8
  have h4:(en.length:Int)<=1000000000000:=h4;have h5:cr.length=ls.length:=h5;have h7:k<(ls.length:Int):=h7;obtain⟨-,-,-,-,-,d1,d2,j1,j2,l1,l2⟩:=h8;have eL:cU w k=ls.getD k.toNat default:=by rw[hw];rfl
  have eC:ky w k=cr.getD k.toNat default:=by rw[hw];rfl
  have e1:IntKind.i64.wrap (fK (cU w k)+1)=fK (cU w k)+1:=aG ab ab;have e2:IntKind.u64.wrap (fK (cU w k)+1)=fK (cU w k)+1:=DW ab ab;refine⟨h6,h7,h6,ab,h6,ab,h6,ab,bt,aw (λhl=>?_) (λhl=>⟨bt,?_,?_⟩)⟩
  .have hl:=aI hl;have ec:eM w x (k,o)=oh (va w ((gw w).set k.toNat (IntKind.i64.wrap (ky w k+1)))) x k 3:=by
    unfold eM;exact am (by rw[eL,eC];exact hl)
   rw[← hw,← hx,ec,hw,hx];exact⟨h4,rfl⟩
  .show KM (IntKind.i64.wrap (fK (ls.getD k.toNat default)+1))≠0;unfold KM;rw[← eL,e1,e2];omega
  have hl:=aL hl;have hm:=Rh (bits .xor .u64 (mA (IntKind.wrap .u64 (vK (cU w k)))) (IntKind.wrap .u64 (ky w k)));have eq:IntKind.u64.wrap (Int.tdiv (oD (cU w k) (ky w k)) 65536)=Int.tdiv (oD (cU w k) (ky w k)) 65536:=by
   unfold oD;rw[EN hm.1];exact DW ab ab
  have eo:jI w k=IntKind.i64.wrap (IntKind.i64.wrap (now+(ls.getD k.toNat default).2.2.1)+IntKind.i64.wrap (Int.tmod (IntKind.u64.wrap (Int.tdiv (oD (ls.getD k.toNat default) (cr.getD k.toNat default)) 65536)) (IntKind.u64.wrap (IntKind.i64.wrap ((ls.getD k.toNat default).2.2.2.1+1))))):=by
   unfold jI vV;rw[← eL,← eC,eq,hw];rfl
  have fin:∀ over:Int,jI w k=over→∀ b:Bool,b=decide (1125899906842624<over)->ao (bif b then true else decide (4096<=(fl.length:Int))) (((bh (va w (cr.set k.toNat (IntKind.i64.wrap (cr.getD k.toNat default+1))))).length:Int)<=1000000000000/\oh (va w (cr.set k.toNat (IntKind.i64.wrap (cr.getD k.toNat default+1)))) x k 7=eM w x (k,o))
    (fl.Pairwise gT/\(∀ z∈fl,kv z<ord)/\fl.length<=4096/\zL (va w (cr.set k.toNat (IntKind.i64.wrap (cr.getD k.toNat default+1)))) (over,0,fB ls k c,k,f,o)=eM w x (k,o)):=by
   rintro over rfl b rfl;have e0:eM w x (k,o)=if 1125899906842624<jI w k∨(4096:Int)<=(aM w).length then oh (va w ((gw w).set k.toNat (IntKind.i64.wrap (ky w k+1)))) x k 7 else zL (va w ((gw w).set k.toNat (IntKind.i64.wrap (ky w k+1)))) (jI w k,0,fB (aC w).2.1 k (bm x),k,iB x,o):=by
    unfold eM;exact af (by rw[eL,eC];exact hl)
   have em:aM w=fl:=by rw[hw];rfl
   refine sF (λho=>?_) (λq1 q2=>?_)
   .refine⟨by rw[hw];exact h4,?_⟩;rw[e0,am (by rw[em];rcases ho with q|q;exact .inl (aI q);exact .inr (aI q)),hw];rfl
   .refine⟨h1,h2,h3,?_⟩;rw[e0,af (by rw[em];rintro (q|q);exact absurd q (aL q1);exact absurd q (aL q2)),hw,hx];rfl
  rw[hx,hw] at fin;intro b hb;have:=fin _ (hw▸eo) b hb
  (repeat refine⟨(by first|(simp;done)|(rw[hb];simp;done)|(rw[hb];simp;omega)),?_⟩);exact this
theorem aB4:aB 111 ak3.spec:=aF Tryz.func111 (av (av (av (av aD LB) M3) RP) Ro) aT Vd
def KU:Ct:=⟨[.box 54 zy],[],λd=>[sJ d.1,aM d.1≠[]],λd=>((),(fw d.1,()))⟩
def aG0:bw KU.ps->ce:=(λd=>{cuts:=(bq 8 (λS=>{ι:=aJ,inv:=λi=>i=mU d.1,keep:=[0,2,4,5],slots:=λi=>[],keepN:=[48,80],names:=λi=>[(1048576,.live (.cells 54 (dU ib (aC i)++[.int .i64 (bQ i),.int .i64 (bK i),.int .i64 (dk i),.own 524288 6,.own 524289 1,.own 524290 6,.own 524291 3,.own 524292 5]))),(524288,.live (.row 118 pZ (cq i))),(524289,.live (.row 3 cI (gw i))),(524290,.live (.row 125 nG (aM i))),(524291,.live (.row 78 xM (bM i))),(524292,.live (.row 68 pR (bh i)))]}) (bq 10 (λS=>{ι:=aJ,inv:=λi=>i=eZ d.1,keep:=[0,2,4],slots:=λi=>[],keepN:=[48,80],names:=λi=>[(1048576,.live (.cells 54 (dU ib (aC i)++[.int .i64 (bQ i),.int .i64 (bK i),.int .i64 (dk i),.own 524288 6,.own 524289 1,.own 524290 6,.own 524291 3,.own 524292 5]))),(524288,.live (.row 118 pZ (cq i))),(524289,.live (.row 3 cI (gw i))),(524290,.live (.row 125 nG (aM i))),(524291,.live (.row 78 xM (bM i))),(524292,.live (.row 68 pR (bh i)))]}) cC))})
def cz(i:List (Int×Int×Int×Int×Int×ae)) :=
 ai i (0:Int)
def FR(i:List (Int×Int×Int×Int×Int×ae))(l:List au)(r:List (List aN×Int×ae×(Int×Int)×Int)) :=
 fI (l.getD (toNat (cz i).2.2.1) default) (r.getD (toNat (cz i).2.2.1) default) (cz i).2.2.2.1 (cz i).1 (cz i).2.2.2.2.2
theorem aO0 :
 ∀(a:List au)(b:List aK)(c:List aV)(d e f:Int)(g:List (List aN×Int×ae×(Int×Int)×Int))(h:ae)(i:List (Int×Int×Int×Int×Int×ae))(j:List (Int×Int×ae))(k:List (Int×Int×Int×Int×Int)),(DZ a b c d e f g h i j k)/\True->sJ ((a,b,c),d,e,f,g,h,i,j,k)/\(aM ((a,b,c),d,e,f,g,h,i,j,k)=([]:List bg)->False)->(0:Int)<=0/\0<(ac i)/\(0:Int)<=1/\1<=(ac i)/\uC ((a,b,c),(cz i).1,e,f,g,h,drop 1 i,j,k)/\ ∀(l:List au)(m:List aK)(n:List aV)(o p q:Int)(r:List (List aN×Int×ae×(Int×Int)×Int))(s:ae)(t:List (Int×Int×Int×Int×Int×ae))(u:List (Int×Int×ae))(v:List (Int×Int×Int×Int×Int)),((l,m,n),o,p,q,r,s,t,u,v)=dq ((a,b,c),(cz i).1,e,f,g,h,drop 1 i,j,k)->0<=(cz i).2.2.1/\(cz i).2.2.1<(ac l)/\0<=(cz i).2.2.1/\(cz i).2.2.1<(ac r)/\cH (bT (r.getD (toNat (cz i).2.2.1) default))/\okL
 (bT (r.getD (toNat (cz i).2.2.1) default))/\((length (lP (r.getD (toNat (cz i).2.2.1) default))):Int)<=1000000/\((length (cz i).2.2.2.2.2):Int)<=1000000/\ ∀(w:List aN)(x:Int)(y:ae)(z A B C:Int)(D:ae)(E:Int),(w,x,y,(z,A),B)=(FR i l r).1/\(C,D)=(FR i l r).2.1/\E=(FR i l r).2.2->0<=(cz i).2.2.1/\(cz i).2.2.1<(ac r)/\ao (decide (E=1)) ((u.length+length [((cz i).1,(cz i).2.2.1,(cz i).2.2.2.2.2)])*(40:Nat)<=(lw)/\ ∃(F:aJ),F=mU ((a,b,c),d,e,f,g,h,i,j,k)/\E=E/\(cz i).1=(cz i).1/\(cz i).2.1=(cz i).2.1/\(cz i).2.2.1=(cz i).2.2.1/\(cz i).2.2.2.1=(cz i).2.2.2.1/\(cz i).2.2.2.2.1=(cz i).2.2.2.2.1/\(cz i).2.2.2.2.2=(cz i).2.2.2.2.2/\C=C/\D=D/\l=(aC F).1/\m=(aC F).2.1/\n=(aC F).2.2/\o=bQ F/\p=bK F/\q=dk F/\set r (toNat (cz i).2.2.1) (w,x,y,(z,A),B)=cq F/\s=gw F/\t=aM
 F/\u++[((cz i).1,(cz i).2.2.1,(cz i).2.2.2.2.2)]=bM F/\v=bh F/\True) (∃(F:aJ),F=mU ((a,b,c),d,e,f,g,h,i,j,k)/\E=E/\(cz i).1=(cz i).1/\(cz i).2.1=(cz i).2.1/\(cz i).2.2.1=(cz i).2.2.1/\(cz i).2.2.2.1=(cz i).2.2.2.1/\(cz i).2.2.2.2.1=(cz i).2.2.2.2.1/\(cz i).2.2.2.2.2=(cz i).2.2.2.2.2/\C=C/\D=D/\l=(aC F).1/\m=(aC F).2.1/\n=(aC F).2.2/\o=bQ F/\p=bK F/\q=dk F/\set r (toNat (cz i).2.2.1) (w,x,y,(z,A),B)=cq F/\s=gw F/\t=aM F/\u=bM F/\v=bh F/\True)/\ ∀(F:aJ),F=mU ((a,b,c),d,e,f,g,h,i,j,k)->ao (! decide (E=0)) (((length (bh (aC F,F.2))):Int)<=1000000000000/\ ∃(G:aJ),G=eZ ((a,b,c),d,e,f,g,h,i,j,k)/\(cz i).1=(cz i).1/\(cz i).2.1=(cz i).2.1/\(cz i).2.2.1=(cz i).2.2.1/\(cz i).2.2.2.1=(cz i).2.2.2.1/\(cz i).2.2.2.2.1=(cz i).2.2.2.2.1/\(cz i).2.2.2.2.2=(cz i).2.2.2.2.2/\C=C/\D=D/\(aC F).1=(aC
 G).1/\(aC F).2.1=(aC G).2.1/\(aC F).2.2=(aC G).2.2/\bQ F=bQ G/\bK F=bK G/\dk F=dk G/\cq F=cq G/\gw F=gw G/\aM F=aM G/\bM F=bM G/\bh (aC F,F.2)++[(iB (cz i),aO (cz i),bm (cz i),(cz i).2.2.2.1,E)]=bh G/\True) (∃(G:aJ),G=eZ ((a,b,c),d,e,f,g,h,i,j,k)/\(cz i).1=(cz i).1/\(cz i).2.1=(cz i).2.1/\(cz i).2.2.1=(cz i).2.2.1/\(cz i).2.2.2.1=(cz i).2.2.2.1/\(cz i).2.2.2.2.1=(cz i).2.2.2.2.1/\(cz i).2.2.2.2.2=(cz i).2.2.2.2.2/\C=C/\D=D/\(aC F).1=(aC G).1/\(aC F).2.1=(aC G).2.1/\(aC F).2.2=(aC G).2.2/\bQ F=bQ G/\bK F=bK G/\dk F=dk G/\cq F=cq G/\gw F=gw G/\aM F=aM G/\bM F=bM G/\bh F=bh G/\True)/\ ∀(G:aJ),G=eZ ((a,b,c),d,e,f,g,h,i,j,k)->ao (decide (0<(ac D))) (List.Pairwise gT (aM (aC G,G.2))/\(∀(H:bg),H∈aM (aC G,G.2)->kv H<bK (aC G,G.2))/\length (aM (aC
 G,G.2))<=(4096:Nat)/\((length (bh (aC G,G.2))):Int)<=1000000000000/\length (gw (aC G,G.2))=length (aC G).2.1/\0<=C/\C<((length (aC G).2.1):Int)/\gZ (length (aC G).1) (cU (aC G,G.2) C)/\eM (aC G,G.2) (cz i) (C,D)=fw ((a,b,c),d,e,f,g,h,i,j,k)) ((aC G,bQ G,bK G,dk G,cq G,gw G,aM G,bM G,bh G)=fw ((a,b,c),d,e,f,g,h,i,j,k)):=by
  delta DZ cz FR lw ai ac;rintro ns ls hs now ord dn sts cr fl dl en-⟨h,hne⟩;obtain⟨f,r,rfl⟩:∃ f r,fl=f::r:=List.exists_cons_of_ne_nil hne;obtain⟨w,hw⟩:∃ w:aJ,w=((ns,ls,hs),now,ord,dn,sts,cr,f::r,dl,en):=⟨_,rfl⟩
  have e0:(f::r).getD (toNat 0) default=f:=rfl;have e1:drop 1 (f::r)=r:=rfl;simp only[e0,e1];rw[← hw] at h ⊢;have A:=h.at (w:=w) (f:=f) (r:=r) (by rw[hw];rfl)
  have ew:fJ (gY w (aM w).tail) (aO (iJ w))=((ns,ls,hs),f.1,ord,dn,sts,cr,r,dl,en):=by rw[A.eF,hw];rfl
  refine⟨ab,by simp only[dM];omega,ab,by simp only[dM];omega,by rw[← ew];exact .inl A.h0.weak,?_⟩;rw[← ew];intro a1 a2 a3 a4 a5 a6 a7 a8 a9 a10 a11 hv;have hv:((a1,a2,a3),a4,a5,a6,a7,a8,a9,a10,a11)=dY w:=hv;have hi:(bm f).toNat<(aC (dY w)).1.length:=by have:=A.fk.nd;omega
  have hnd:=A.fk.nd;have hlen:=A.s.len;obtain⟨st,-⟩:=A.s.st _ hi;have N:=uv A.s.net hi;have hps:=st.ps;have hn32:=N.n32;have hdl:=h.d;have hen:=h.e;have E1:a1=(aC (dY w)).1:=by rw[← hv];rfl
  have E7:a7=cq (dY w):=by rw[← hv];rfl
  have E10:a10=bM w:=by rw[← A.dl,← hv];rfl
  have E11:a11=bh w:=by rw[← A.en,← hv];rfl
  have E9:a9=aM (dY w):=by rw[← hv];rfl
  have eH:cS w=fI (a1.getD (bm f).toNat default) (a7.getD (bm f).toNat default) (gN f) (aO f) (f7 f):=by unfold cS bn;rw[A.eF,E1,E7]
  have hfd:=A.fk.d;refine⟨hnd.1,by rw[E1];exact hnd.2,hnd.1,by rw[E7,hlen];exact hnd.2,by rw[E7];exact st.srt,by rw[E7];exact st.okl,by rw[E7];show ((lP ((cq (dY w)).getD (bm f).toNat default)).length:Int)<=1000000;omega,by show ((f7 f).length:Int)<=1000000;omega,?_⟩;intro b1 b2 b3 b4 b5 b6 o1 o2 why hh;obtain⟨hh1,hh2,hh3⟩:=hh;have hh1:(b1,b2,b3,(b4,b5),b6)=(cS w).1:=by rw[eH];exact hh1
  have hh2:(o1,o2)=(cS w).2.1:=by rw[eH];exact hh2
  have hh3:why=(cS w).2.2:=by rw[eH];exact hh3
  have eA:uo w=((a1,a2,a3),a4,a5,a6,a7.set (bm f).toNat (b1,b2,b3,(b4,b5),b6),a8,a9,a10,a11):=by unfold uo;rw[A.eF,hh1,← hv];rfl
  refine⟨hnd.1,by rw[E7,hlen];exact hnd.2,?_⟩;have lenD:((bM w).length:Int)<=999999999000:=ab;have lenE:((bh w).length:Int)<=999999999000:=ab;refine⟨bU (λk=>?_) (λk=>?_),?_⟩
  .have k:why=1:=k;have eB:mU w=((a1,a2,a3),a4,a5,a6,a7.set (bm f).toNat (b1,b2,b3,(b4,b5),b6),a8,a9,a10++[(aO f,bm f,f7 f)],a11):=by
    rw[t8,am (hh3▸k),eA,A.eF,← hv];rfl
   exact⟨by rw[E10];simp only[ga];omega,_,eB.symm,aP⟩
  .have k:¬ why=1:=k;have eB:mU w=((a1,a2,a3),a4,a5,a6,a7.set (bm f).toNat (b1,b2,b3,(b4,b5),b6),a8,a9,a10,a11):=by
    rw[t8,af (hh3▸k),eA,← hv];rfl
   exact⟨_,eB.symm,aP⟩
  rintro B rfl;have eBn:bh (mU w)=bh w:=by rw[t8];show bh (uo w)=_;rw[eA];exact E11
  refine⟨aw (λk=>?_) (λk=>?_),?_⟩
  .have k:¬ why=0:=gF k;refine⟨by show ((bh (mU w)).length:Int)<=_;rw[eBn];omega,eZ w,rfl,?_⟩;have eC:eZ w=HS (mU w) (bh (mU w)++[(iB f,aO f,bm f,gN f,why)]):=by rw[vm,am (hh3▸k),A.eF,← hh3,eBn,← A.en]
   rw[eC];exact aP
  .have k:why=0:=iD k;refine⟨eZ w,rfl,?_⟩;have eC:eZ w=mU w:=by unfold eZ;rw[af (by rw[← hh3,k];simp)]
   rw[eC];exact aP
  rintro C rfl;have eCe:∃ l,bh (eZ w)=l/\(l.length:Int)<=1000000000000:=by
   refine⟨_,rfl,?_⟩;rw[vm];show ((if (cS w).2.2≠0 then bh (dY w)++[(iB (iJ w),aO (iJ w),bm (iJ w),gN (iJ w),(cS w).2.2)] else bh (dY w)).length:Int)<=_;rw[A.en];split
   .rw[cu,ga];omega
   .omega
  obtain⟨l,el,hl⟩:=eCe;have c1:aC (eZ w)=aC w:=by rw[vm,t8];exact A.net
  have c2:aM (eZ w)=aM (dY w):=by rw[vm,t8];rfl
  have c3:bK (eZ w)=bK (dY w):=by rw[vm,t8];rfl
  have c4:gw (eZ w)=gw (dY w):=by rw[vm,t8];rfl
  have hO:(cS w).2.1=(o1,o2):=hh2.symm;refine bU (λk=>?_) (λk=>?_)
  .have k:0<(o2.length:Int):=k;obtain⟨k1,k2,k3⟩:=A.out (by rw[hO];show 0<o2.length;omega);rw[hO] at k1 k2 k3;refine⟨by show (aM (eZ w)).Pairwise gT;rw[c2];exact A.s.fl,?_,by show (aM (eZ w)).length<=4096;rw[c2];exact A.s.fn,by show ((bh (eZ w)).length:Int)<=_;rw[el];exact hl,by show (gw (eZ w)).length=(aC (eZ w)).2.1.length;rw[c4,c1,← A.net];exact A.s.cl,k1,by rw[c1];exact k2,by show gZ (aC (eZ w)).1.length ((aC (eZ w)).2.1.getD o1.toNat default);rw[c1];exact k3,?_⟩
   .show ∀ x∈aM (eZ w),kv x<bK (eZ w);rw[c2,c3];exact λx hx=>(A.s.fo x hx).o.2
   .rw[EG,hO,am (by show 0<o2.length;omega),A.eF];rfl
  .have k:¬ 0<(o2.length:Int):=k;rw[EG,hO,af (by show ¬ 0<o2.length;omega)];rfl
theorem aA3:aB 46 KU.spec:=aF Tryz.func46 (LW (av (av (av (av aD (Ct.named RL)) (Ct.named TC)) M3) aB4) (d:=17)) aG0 aO0
def Ab(n:aQ):aJ:=if d9 n=0 then jr n else C0
def qN(w:aJ):Int:=if aM w=[] then 0 else aO ((aM w).headD default)
def qt(w:aJ):Bool:=decide (aM w≠[])
def lK(w:aJ)(at' who:Int):Int:=if who<0∨((aC w).1.length:Int)<=who then 8 else if 1125899906842624<at' then 1 else if at'<bQ w then 6 else if (4096:Int)<=(aM w).length then 5 else 0
def ry(w:aJ)(at' who:Int)(b:ae):aJ:=if lK w at' who=0 then iH w at' who b else C0
def qY(w:aJ)(at' who:Int):Int:=if lK w at' who=0 then bK w else 0
def py(w:aJ)(to:Int):Int:=if 1125899906842624<to then 1 else if to<bQ w then 6 else 0
def vH(w:aJ)(to:Int):aJ:=if py w to=0 then tC w to else C0
def Oj:Ct:=⟨[.agg ib],[.agg nL,.val cI],λd=>[sM d.1],λd=>((Ab d.1,d9 d.1,()),())⟩
def ZR:bw Oj.ps->ce:=(λd=>{loops:=(bq 6 (λS=>{ι:=Int×(List ct),qn:=fj,μ:=λi=>(d.1.1.length-i.1).toNat,inv:=λi=>0<=i.1/\i.1<=d.1.1.length/\i.2=(d.1.1.take i.1.toNat).map nB,keep:=[1,2,5,22,23],slots:=λi=>[(24,.int .i64 i.1)],keepN:=[32,48,320],names:=λi=>[(96,.live (.cells 54 (dU ib d.1++[.int .i64 0,.int .i64 0,.int .i64 0,.own 524288 6,.own 320 1,.nilsl,.nilsl,.nilsl]))),(524288,.live (.row 118 pZ i.2))]}) cC)})
def tw :=
 ((([]:List au),([]:List aK),([]:List aV)),(0:Int),(0:Int),(0:Int),([]:List (List aN×Int×ae×(Int×Int)×Int)),([]:ae),([]:List (Int×Int×Int×Int×Int×ae)),([]:List (Int×Int×ae)),([]:List (Int×Int×Int×Int×Int)))
def KC(a:List au)(d:Int) :=
 (aU (ai a d),(0:Int),replicate (length (ay (ai a d))) (0:Int),(w ((ai a d).2.2.2.2.2.2.2.2.2.2.1.1*(ai a d).2.2.2.2.2.2.2.2.2.2.1.2),(0:Int)),(0:Int))
theorem aM3 :
 ∀(a:List au)(b:List aK)(c:List aV),((a.length<=maxLen/\ ∀(d:au),d∈a->CT.wf bR d)/\(b.length<=maxLen/\ ∀(d:aK),d∈b->CT.wf fU d)/\c.length<=maxLen/\ ∀(d:aV),d∈c->CT.wf fg d)/\True->((ac a)<=1000000/\(ac b)<=1000000/\(ac c)<=1000000/\(∀(d:au),d∈a->((length (ay d)):Int)<=1000000/\okL (aU d))/\ ∀(d:aV),d∈c->((length (dN d).2.1):Int)<=1099511627776)->(∀(d:aV),d∈c->((length (dN d).2.1):Int)<=1099511627776)/\ao (! decide (d9 (a,b,c)=0)) ((tw)=Ab (a,b,c)/\d9 (a,b,c)=d9 (a,b,c)) (sM (a,b,c)/\0<=(ac b)/\(ac b)<=(ac b)/\(↑(8:Nat):Int)*(ac b)<=281474976710656/\(∃(d:Int) (e:List ct),(0<=d/\d<=(ac a)/\e=List.map nB (take d.toNat a))/\a=a/\(ac a)=(ac a)/\0=d/\a=a/\b=b/\c=c/\(0:Int)=0/\(0:Int)=0/\(0:Int)=0/\replicate (toNat (ac b)) (0:Int)=replicate (toNat (ac b))
 (0:Int)/\a=a/\b=b/\c=c/\(0:Int)=0/\(0:Int)=0/\(0:Int)=0/\e=([]:List (List aN×Int×ae×(Int×Int)×Int))/\True)/\ ∀(d:Int)(e:List ct),0<=d/\d<=(ac a)/\e=List.map nB (take d.toNat a)->ao (decide (d<(ac a))) (0<=d/\d<(ac a)/\okL (aU (ai a d))/\((length (ay (ai a d))):Int)<=1000000/\(e.length+length [(KC a d)])*(80:Nat)<=(140737488355328:Nat)/\ ∃(f:Int) (g:List ct),(0<=f/\f<=(ac a)/\g=List.map nB (take f.toNat a))/\toNat ((ac a) -f)<toNat ((ac a) -d)/\a=a/\(ac a)=(ac a)/\aj (d+1)=f/\a=a/\b=b/\c=c/\(0:Int)=0/\(0:Int)=0/\(0:Int)=0/\replicate (toNat (ac b)) (0:Int)=replicate (toNat (ac b)) (0:Int)/\a=a/\b=b/\c=c/\(0:Int)=0/\(0:Int)=0/\(0:Int)=0/\e++[(KC a d)]=g/\True) (((a,b,c),(0:Int),(0:Int),(0:Int),e,replicate (toNat (ac b)) (0:Int),([]:List (Int×Int×Int×Int×Int×ae)),([]:List
 (Int×Int×ae)),([]:List (Int×Int×Int×Int×Int)))=Ab (a,b,c)/\0=d9 (a,b,c))):=by
  delta tw KC aj ai ac;rintro ns ls hs ⟨⟨⟨hl0,-⟩,⟨hl1,-⟩,-⟩,-⟩⟨h1,h2,h3,h4,h5⟩;have h1:(ns.length:Int)<=1000000:=h1;have h2:(ls.length:Int)<=1000000:=h2;refine⟨h5,aw (λh=>?_) (λh=>?_)⟩
  .have h:=gF h;exact⟨by unfold Ab;rw[af h];rfl,by trivial⟩
  have h:=iD h;refine⟨⟨h1,h2,h3,h4,h5⟩,ab,ab,ab,⟨0,[],⟨ab,ab,rfl⟩,aP⟩,?_⟩;rintro j st ⟨j0,j1,rfl⟩;refine bU (λhj=>?_) (λhj=>?_)
  .have hx:=h4 _ (bS j0 hj);refine⟨j0,hj,hx.2,hx.1,by simp only[mh,dA,ga];omega,j+1,_,⟨ab,ab,rfl⟩,ab,?_⟩
   (repeat refine js ?_);refine⟨?_,bv⟩;rw[wc j0 hj,lL];rfl
  .refine⟨?_,h.symm⟩;unfold Ab jr;rw[am h,fi ab];rfl
theorem Yg:aB 13 Oj.spec:=aF Tryz.func13 (av (av (av aD aO7) Sd) WG) ZR aM3
def aK5:Ct:=⟨[.agg nL],[.val cI,.val .bool],λ_=>[],λd=>((qN d.1,qt d.1,()),())⟩
theorem ag1 :
 ∀(a:(List au×List aK×List aV)×Int×Int×Int×List (List aN×Int×ae×(Int×Int)×Int)×ae×List (Int×Int×Int×Int×Int×ae)×List (Int×Int×ae)×List (Int×Int×Int×Int×Int)),CT.wf nL a/\True->True->ao (decide ((ac a.2.2.2.2.2.2.1)=0)) (0=qN a/\false=qt a) ((0:Int)<=0/\0<(ac a.2.2.2.2.2.2.1)/\(getD a.2.2.2.2.2.2.1 (toNat 0) default).1=qN a/\true=qt a):=by
  delta ac;intro d _ _;have eF:d.2.2.2.2.2.2.1=aM d:=rfl;rw[eF];unfold qN qt;cases e:aM d with
  | nil=>exact⟨rfl,rfl⟩
  | cons f r=>exact⟨ab,by simp only[dM];omega,rfl,rfl⟩
theorem SF:aB 45 aK5.spec:=aF Tryz.func45 aD aT ag1
def an8:Ct:=⟨[.agg nL,.val cI,.val cI,.val (.sl bP)],[.agg nL,.val cI,.val cI],λd=>[oX d.1,(d.2.2.2.1.length:Int)<=1000000],λd=>((ry d.1 d.2.1 d.2.2.1 d.2.2.2.1,qY d.1 d.2.1 d.2.2.1,lK d.1 d.2.1 d.2.2.1,()),())⟩
theorem aA4 :
 ∀(a:(List au×List aK×List aV)×Int×Int×Int×List (List aN×Int×ae×(Int×Int)×Int)×ae×List (Int×Int×Int×Int×Int×ae)×List (Int×Int×ae)×List (Int×Int×Int×Int×Int))(b c:Int)(d:ae),CT.wf nL a/\aq b/\aq c/\(d.length<=maxLen/\ ∀(e:Int),e∈d->0<=e/\e<=255)/\True->oX a/\(ac d)<=1000000-> ∀(e:Bool),e=decide (c<0)->(ah (! e))/\(ah (! e))/\(ah (! e))/\((! e)->(ar (! e))/\(ar (! e))/\True)/\(aE e)/\ao (bif e then true else decide ((ac a.1.1)<=c)) ((tw)=ry a b c d/\0=qY a b c/\8=lK a b c) (ao (decide (1125899906842624<b)) ((tw)=ry a b c d/\0=qY a b c/\1=lK a b c) (ao (decide (b<a.2.1)) ((tw)=ry a b c d/\0=qY a b c/\6=lK a b c) (ao (decide (4096<=(ac a.2.2.2.2.2.2.1))) ((tw)=ry a b c d/\0=qY a b c/\5=lK a b c) (Aw a/\(ac d)<=1099511627776/\List.Pairwise gT (aM a)/\(∀(f:bg),f∈aM a->kv f<bK
 a)/\length (aM a)<=(4096:Nat)/\(a.1,a.2.1,aj (bK a+1),a.2.2.2.1,a.2.2.2.2.1,a.2.2.2.2.2.1,fM (aM a) (aO (b,(0:Int),c,(-1:Int),a.2.2.1,d),bK a,c,(-1:Int),a.2.2.1,d),a.2.2.2.2.2.2.2)=ry a b c d/\a.2.2.1=qY a b c/\0=lK a b c)))):=by
  delta tw ah ar aE aj ac;rintro d t who b-⟨hE,hb⟩
  (repeat (refine bY ?_;repeat refine bZ ?_));refine sF (λho=>?_) (λq1 q2=>?_)
  .have e:lK d t who=8:=by unfold lK;rw[am (by rcases ho with q|q;exact .inl (aI q);exact .inr (aI q))]
   unfold ry qY;rw[e];exact⟨rfl,rfl,rfl⟩
  have q1:=aL q1;have q2:=aL q2;have h:sJ d:=hE.resolve_right λq=>by
   have q3:d.1.1=[]:=by rw[q.1];rfl
   rw[q3] at q2;simp at q2;omega
  have hfn:=h.s.fn;have e1:lK d t who=if 1125899906842624<t then 1 else if t<bQ d then 6 else if (4096:Int)<=(aM d).length then 5 else 0:=by
   unfold lK;rw[af (by rintro (q|q);exact q1 q;exact q2 q)]
  refine aw (λk=>?_) (λk=>?_)
  .have e:lK d t who=1:=by rw[e1,am (aI k)]
   unfold ry qY;rw[e];exact⟨rfl,rfl,rfl⟩
  rw[af (aL k)] at e1;refine aw (λk=>?_) (λk=>?_)
  .have k:t<bQ d:=aI k;have e:lK d t who=6:=by rw[e1,am k]
   unfold ry qY;rw[e];exact⟨rfl,rfl,rfl⟩
  have k:¬ t<bQ d:=aL k;rw[af k] at e1;refine aw (λk=>?_) (λk=>?_)
  .have k:(4096:Int)<=(aM d).length:=aI k;have e:lK d t who=5:=by rw[e1,am k]
   unfold ry qY;rw[e];exact⟨rfl,rfl,rfl⟩
  have k:¬ (4096:Int)<=(aM d).length:=aL k;rw[af k] at e1;unfold ry qY;rw[e1];exact⟨h.cp,ab,h.s.fl,λx hx=>(h.s.fo x hx).o.2,hfn,rfl,rfl,rfl⟩
theorem ah2:aB 14 an8.spec:=aF Tryz.func14 (av (av (av aD KJ) sD) Ro) aT aA4
def N1:Ct:=⟨[.agg nL,.val cI],[.agg nL,.val cI],λd=>[oX d.1],λd=>((vH d.1 d.2.1,py d.1 d.2.1,()),())⟩
def aH5:bw N1.ps->ce:=(λd=>{loops:=(bq 7 (λS=>{ι:=aJ×Int×Bool,qn:=rH,μ:=λi=>jD i.1,inv:=λi=>oX i.1/\jx i.1 d.2.1=jx d.1 d.2.1/\i.2.1=qN i.1/\i.2.2=qt i.1,keep:=[1,2,4],slots:=λi=>[(6,.int .i64 i.2.1),(7,.bool i.2.2)],keepN:=[80],names:=λi=>[(48,.live (.cells 54 (dU ib (aC i.1)++[.int .i64 (bQ i.1),.int .i64 (bK i.1),.int .i64 (dk i.1),.own 524288 6,.own 524289 1,.own 524290 6,.own 524291 3,.own 524292 5]))),(524288,.live (.row 118 pZ (cq i.1))),(524289,.live (.row 3 cI (gw i.1))),(524290,.live (.row 125 nG (aM i.1))),(524291,.live (.row 78 xM (bM i.1))),(524292,.live (.row 68 pR (bh i.1)))]}) cC)})
def o8(c:aJ) :=
 fw (aC c,c.2)
theorem aO3 :
 ∀(a:(List au×List aK×List aV)×Int×Int×Int×List (List aN×Int×ae×(Int×Int)×Int)×ae×List (Int×Int×Int×Int×Int×ae)×List (Int×Int×ae)×List (Int×Int×Int×Int×Int))(b:Int),CT.wf nL a/\aq b/\True->sJ a∨rS a->ao (decide (1125899906842624<b)) ((tw)=vH a b/\1=py a b) (ao (decide (b<a.2.1)) ((tw)=vH a b/\6=py a b) (Aw a/\(∃(c:aJ) (d:Int),∃(e:Bool),(oX c/\jx c b=jx a b/\d=qN c/\e=qt c)/\b=b/\qN a=d/\qt a=e/\(0:Int)=0/\(0:Int)=0/\(0:Int)=0/\a.1.1=(aC c).1/\a.1.2.1=(aC c).2.1/\a.1.2.2=(aC c).2.2/\a.2.1=bQ c/\a.2.2.1=bK c/\a.2.2.2.1=dk c/\a.2.2.2.2.1=cq c/\a.2.2.2.2.2.1=gw c/\a.2.2.2.2.2.2.1=aM c/\a.2.2.2.2.2.2.2.1=bM c/\a.2.2.2.2.2.2.2.2=bh c/\True)/\ ∀(c:aJ)(d:Int)(e:Bool),oX c/\jx c b=jx a b/\d=qN c/\e=qt c-> ∀(f:Bool),f=e->(f->(ar f)/\(ar f)/\True)/\(ar f)/\ao (bif f then decide (d<=b)
 else false) (sJ (aC c,c.2)/\aM (aC c,c.2)≠([]:List bg)/\ ∃(g:aJ) (h:Int),∃(i:Bool),(oX g/\jx g b=jx a b/\h=qN g/\i=qt g)/\jD g<jD c/\b=b/\qN (o8 c)=h/\qt (o8 c)=i/\(0:Int)=0/\(0:Int)=0/\(0:Int)=0/\(o8 c).1.1=(aC g).1/\(o8 c).1.2.1=(aC g).2.1/\(o8 c).1.2.2=(aC g).2.2/\(o8 c).2.1=bQ g/\(o8 c).2.2.1=bK g/\(o8 c).2.2.2.1=dk g/\(o8 c).2.2.2.2.1=cq g/\(o8 c).2.2.2.2.2.1=gw g/\(o8 c).2.2.2.2.2.2.1=aM g/\(o8 c).2.2.2.2.2.2.2.1=bM g/\(o8 c).2.2.2.2.2.2.2.2=bh g/\True) (uC (aC c,b,c.2.2)/\dq (aC c,b,c.2.2)=vH a b/\0=py a b))):=by
  delta tw o8 ar;rintro d to-h;have h:oX d:=h;refine aw (λk=>?_) (λk=>?_)
  .have k:=aI k;have e:py d to=1:=by unfold py;rw[am k]
   unfold vH;rw[e];exact⟨rfl,rfl⟩
  have k:=aL k;refine aw (λq=>?_) (λq=>?_)
  .have q:to<bQ d:=aI q;have e:py d to=6:=by unfold py;rw[af k,am q]
   unfold vH;rw[e];exact⟨rfl,rfl⟩
  have q:¬ to<bQ d:=aL q;have e:py d to=0:=by unfold py;rw[af k,af q]
  have hnow:0<=bQ d:=by rcases h with q|q;exact q.s.now.1;exact q.2.1
  have hnq:bQ d<=to:=ab;refine⟨h.cp,⟨d,_,_,⟨h,rfl,rfl,rfl⟩,aP⟩,?_⟩;rintro v t ok ⟨hv,he,rfl,rfl⟩;have hv:oX v:=hv
  (repeat (refine bY ?_;repeat refine bZ ?_));have eB:(bif qt v then decide (qN v<=to) else false)=j7 v to:=by
   unfold qt qN j7;cases aM v with
   | nil=>rfl
   | cons f r=>rfl
  rw[eB];refine aw (λhb=>?_) (λhb=>?_)
  .cases ef:aM v with
   | nil=>unfold j7 at hb;rw[ef] at hb;cases hb
   | cons f r =>
    have hv:=hv.fl (by rw[ef];simp);obtain⟨s1,s2⟩:=hv.step ef;exact⟨hv,by show aM v≠[];rw[ef];simp,fw v,_,_,⟨.inl s1,(Dd hv.s.weak hb).symm.trans he,rfl,rfl⟩,s2,aP⟩
  .have hR:jx d to=v:=by rw[← he];exact Il hb
   refine⟨by rcases hv with q|q;exact .inl (q.s.wait hb ⟨ab,ab⟩).weak;exact q.ch to,?_,e.symm⟩;unfold vH;rw[am e];show dq (fJ v to)=dq (fJ (jx d to) to);rw[hR]
theorem Z3:aB 15 N1.spec:=aF Tryz.func15 (av (av (av (av aD KJ) SF) aA3) RL) aH5 aO3
def Nd:Ct:=⟨[.agg bR],[.own 35 cP],λd=>[(ay d.1).length<=100000],λd=>((cG d.1,()),())⟩
def aQ4:bw Nd.ps->ce:=(λd=>{loops:=(bq 3 (λS=>{ι:=Int×ae,qn:=fj,μ:=λi=>((ay d.1).length-i.1).toNat,inv:=λi=>0<=i.1/\i.1<=(ay d.1).length/\i.2=(md d.1).take i.1.toNat,keep:=[1],slots:=λi=>[(3,.own 524288 1),(4,.int .i64 i.1)],keepN:=[32],names:=λi=>[(524288,.live (.row 35 cP i.2))]}) cC)})
def zK(a:au) :=
 ((length (ay a)):Int)
theorem au6 :
 ∀(a:au),CT.wf bR a/\True->length (ay a)<=(100000:Nat)->(∃(b:Int) (c:ae),(0<=b/\b<=(zK a)/\c=take b.toNat (md a))/\0=b/\a.1=a.1/\a.2.1=a.2.1/\a.2.2.1=a.2.2.1/\a.2.2.2.1=a.2.2.2.1/\a.2.2.2.2.1=a.2.2.2.2.1/\a.2.2.2.2.2.1=a.2.2.2.2.2.1/\a.2.2.2.2.2.2.1=a.2.2.2.2.2.2.1/\a.2.2.2.2.2.2.2.1=a.2.2.2.2.2.2.2.1/\a.2.2.2.2.2.2.2.2.1=a.2.2.2.2.2.2.2.2.1/\a.2.2.2.2.2.2.2.2.2.1=a.2.2.2.2.2.2.2.2.2.1/\a.2.2.2.2.2.2.2.2.2.2.1.1=a.2.2.2.2.2.2.2.2.2.2.1.1/\a.2.2.2.2.2.2.2.2.2.2.1.2=a.2.2.2.2.2.2.2.2.2.2.1.2/\a.2.2.2.2.2.2.2.2.2.2.2.1=a.2.2.2.2.2.2.2.2.2.2.2.1/\a.2.2.2.2.2.2.2.2.2.2.2.2.1=a.2.2.2.2.2.2.2.2.2.2.2.2.1/\a.2.2.2.2.2.2.2.2.2.2.2.2.2.1=a.2.2.2.2.2.2.2.2.2.2.2.2.2.1/\a.2.2.2.2.2.2.2.2.2.2.2.2.2.2=a.2.2.2.2.2.2.2.2.2.2.2.2.2.2/\c=([]:ae)/\True)/\ ∀(b:Int)(c:ae),0<=b/\b<=(zK a)/\c=take b.toNat (md a)->ao (decide (b<(ac a.1))) (0<=b/\b<(ac
 a.1)/\(c.length+length [(getD a.1 b.toNat default).1])*(4:Nat)<=(140737488355328:Nat)/\ ∃(d:Int) (e:ae),(0<=d/\d<=(zK a)/\e=take d.toNat (md a))/\toNat ((zK a) -d)<toNat ((zK a) -b)/\aj (b+1)=d/\a.1=a.1/\a.2.1=a.2.1/\a.2.2.1=a.2.2.1/\a.2.2.2.1=a.2.2.2.1/\a.2.2.2.2.1=a.2.2.2.2.1/\a.2.2.2.2.2.1=a.2.2.2.2.2.1/\a.2.2.2.2.2.2.1=a.2.2.2.2.2.2.1/\a.2.2.2.2.2.2.2.1=a.2.2.2.2.2.2.2.1/\a.2.2.2.2.2.2.2.2.1=a.2.2.2.2.2.2.2.2.1/\a.2.2.2.2.2.2.2.2.2.1=a.2.2.2.2.2.2.2.2.2.1/\a.2.2.2.2.2.2.2.2.2.2.1.1=a.2.2.2.2.2.2.2.2.2.2.1.1/\a.2.2.2.2.2.2.2.2.2.2.1.2=a.2.2.2.2.2.2.2.2.2.2.1.2/\a.2.2.2.2.2.2.2.2.2.2.2.1=a.2.2.2.2.2.2.2.2.2.2.2.1/\a.2.2.2.2.2.2.2.2.2.2.2.2.1=a.2.2.2.2.2.2.2.2.2.2.2.2.1/\a.2.2.2.2.2.2.2.2.2.2.2.2.2.1=a.2.2.2.2.2.2.2.2.2.2.2.2.2.1/\a.2.2.2.2.2.2.2.2.2.2.2.2.2.2=a.2.2.2.2.2.2.2.2.2.2.2.2.2.2/\c++[(getD a.1 b.toNat default).1]=e/\True) (ao (!
 decide (a.2.1=0)) ((c.length+length [a.2.1])*(4:Nat)<=(140737488355328:Nat)/\c++[a.2.1]=cG a) (c=cG a)):=by
  delta zK aj ac;rintro d-hl;have hlen:(md d).length=(ay d).length:=by simp[md]
  have hd:d.1=ay d:=rfl;have hz:d.2.1=fy d:=rfl;rw[hd,hz];refine⟨⟨0,[],⟨ab,ab,rfl⟩,aP⟩,?_⟩;rintro j l ⟨j0,j1,rfl⟩;refine bU (λhk=>?_) (λhk=>?_)
  .refine⟨j0,hk,by simp only[dA,dM,List.length_nil];omega,j+1,_,⟨ab,ab,rfl⟩,ab,?_⟩
   (repeat refine js ?_);refine⟨?_,bv⟩;rw[rk j0 (by rw[hlen];exact hk)];unfold md;rw[bL,bL,List.getElem?_map,cK ab];rfl
  .rw[fi ab];unfold cG;refine aw (λh=>?_) (λh=>?_)
   .rw[af (gF h)];exact⟨by simp only[dM,List.length_nil];omega,rfl⟩
   .rw[am (iD h),jG]
theorem VE:aB 29 Nd.spec:=aF Tryz.func29 aD aQ4 au6
def ay9:Ct:=⟨[.val (.sl dj),.agg fg],[.own 96 dj],λd=>[cH d.1,okL d.1,((dN d.2.1).2.1.length:Int)<=1099511627776],λd=>((f9 d.1 d.2.1,()),())⟩
theorem aW7 :
 ∀(a:List aN)(b:aV),(a.length<=maxLen/\ ∀(c:aN),c∈a->((0<=c.1.1/\c.1.1<=4294967295)/\aq c.1.2)/\(c.2.1.length<=maxLen/\ ∀(d:Int),d∈c.2.1->aq d)/\aq c.2.2)/\CT.wf fg b/\True->cH a/\okL a/\((length (dN b).2.1):Int)<=1099511627776->ao b.2.2.1 (okL a/\jk a b.2.2.2.1=f9 a b) (cH a/\okL a/\(ac b.2.2.2.2.1)<=1099511627776/\f6 a b.2.2.2=f9 a b):=by
  delta ac;rintro l c-⟨hs,hl,hx⟩;unfold f9;rw[show c.2.2.1=pQ c from rfl];refine aw (λh=>⟨hl,?_⟩) (λh=>⟨hs,hl,hx,?_⟩)
  .rw[am h];rfl
  .rw[af (by rw[h];decide)];rfl
theorem aF2:aB 72 ay9.spec:=aF Tryz.func72 (av (av aD Rp) Se) aT aW7
theorem WK{P:Prop} [Decidable P] {a b:Bool}:(bif decide P then true else bif a then !b else false)=decide (P∨(a=true/\b=false)):=by
 by_cases h:P <;> cases a <;> cases b <;> simp[h]
def Rw:Ct:=⟨[.agg ib],[.val cI],λd=>[lq d.1=0,d.1.1.length<=64,∀ c∈d.1.2.2,((dN c).2.1.length:Int)<=1099511627776],λd=>((lS d.1,()),())⟩
def Ux:bw Rw.ps->ce:=(λd=>{loops:=(bq 3 (λS=>{ι:=Int×(List (List Rt)),qn:=fj,μ:=λi=>(d.1.1.length-i.1).toNat,inv:=λi=>0<=i.1/\i.1<=d.1.1.length/\i.2=(d.1.1.take i.1.toNat).map aU++replicate (d.1.1.length-i.1.toNat) [],keep:=[1],slots:=λi=>[(3,.own 524288 1),(4,.int .i64 i.1)],keepN:=[32],names:=λi=>[(524288,.live (.row 90 (.sl dj) i.2))]}) (bq 7 (λS=>{ι:=Int×(List (List Rt)),qn:=fj,μ:=λi=>(d.1.2.2.length-i.1).toNat,inv:=λi=>0<=i.1/\i.1<=d.1.2.2.length/\first (hY d.1) i.1.toNat=0/\i.2=dG d.1 i.1.toNat,keep:=[1],slots:=λi=>[(3,.own 524288 1),(5,.int .i64 i.1)],keepN:=[32],names:=λi=>[(524288,.live (.row 90 (.sl dj) i.2))]}) cC))})
def mT(c:List aV)(f:Int) :=
 toNat (ai c f).2.1
theorem au7 :
 ∀(a:List au)(b:List aK)(c:List aV),((a.length<=maxLen/\ ∀(d:au),d∈a->CT.wf bR d)/\(b.length<=maxLen/\ ∀(d:aK),d∈b->CT.wf fU d)/\c.length<=maxLen/\ ∀(d:aV),d∈c->CT.wf fg d)/\True->(lq (a,b,c)=0/\a.length<=(64:Nat)/\ ∀(d:aV),d∈c->((length (dN d).2.1):Int)<=1099511627776)->0<=(ac a)/\(ac a)<=(ac a)/\(↑(24:Nat):Int)*(ac a)<=281474976710656/\(∃(d:Int) (e:List (List Rt)),(0<=d/\d<=(ac a)/\e=List.map aU (take d.toNat a)++replicate (a.length -d.toNat) ([]:List aN))/\0=d/\a=a/\b=b/\c=c/\replicate (toNat (ac a)) ([]:List aN)=e/\True)/\ ∀(d:Int)(e:List (List Rt)),0<=d/\d<=(ac a)/\e=List.map aU (take d.toNat a)++replicate (a.length -d.toNat) ([]:List aN)->ao (decide (d<(ac a))) (0<=d/\d<(ac a)/\0<=d/\d<(ac e)/\ ∃(f:Int) (g:List (List Rt)),(0<=f/\f<=(ac a)/\g=List.map aU (take f.toNat
 a)++replicate (a.length -f.toNat) ([]:List aN))/\toNat ((ac a) -f)<toNat ((ac a) -d)/\aj (d+1)=f/\a=a/\b=b/\c=c/\set e d.toNat (ai a d).2.2.2.2.1=g/\True) ((∃(f:Int) (g:List (List Rt)),(0<=f/\f<=(ac c)/\first (hY (a,b,c)) f.toNat=0/\g=dG (a,b,c) f.toNat)/\0=f/\a=a/\b=b/\c=c/\e=g/\True)/\ ∀(f:Int)(g:List (List Rt)),0<=f/\f<=(ac c)/\first (hY (a,b,c)) f.toNat=0/\g=dG (a,b,c) f.toNat->ao (decide (f<(ac c))) (0<=f/\f<(ac c)/\ ∀(h:Bool),h=decide ((ai c f).1<0)->(ah (! h))/\(ah (! h))/\(aE h)/\ao (bif h then true else decide (1125899906842624<(ai c f).1)) (1=lS (a,b,c)) (∀(i:Bool),i=decide (0<f)->(ah i)/\(ah i)/\(ah i)/\(i->(ar i)/\(ar i)/\0<=aj (f -1)/\aj (f -1)<(ac c)/\True)/\(ah i)/\(ah i)/\(i->(ar i)/\(ar i)/\True)/\(ar i)/\ao (bif i then decide ((ai c f).1<(ai c (aj (f -1))).1) else false) (6=lS (a,b,c))
 (∀(j:Bool),j=decide ((ai c f).2.1<0)->(ah (! j))/\(ah (! j))/\(ah (! j))/\((! j)->(ar (! j))/\(ar (! j))/\True)/\(aE j)/\ ∀(k:Bool),(k=bif j then true else decide ((ac a)<=(ai c f).2.1))->(ah (! k))/\(ah (! k))/\ ∀(l:Bool),l=(ai c f).2.2.1->(ah (! k&&l))/\((! k&&l)->(ar (! k&&l))/\(ar (! k&&l))/\0<=(ai c f).2.1/\(ai c f).2.1<(ac g)/\True)/\(ah (! k&&l))/\(ah (! k&&l))/\(ah (! k&&l))/\((! k&&l)->(ar (! k&&l))/\(ar (! k&&l))/\okL (g.getD (mT c f) default)/\True)/\(ah (! k&&l))/\((! k)->(ar (! k))/\(l->(! k&&l))/\True)/\(aE k)/\ao (bif k then true else bif l then ! m5 (g.getD (mT c f) default) (ai c f).2.2.2.1 else false) (8=lS (a,b,c)) (0<=(ai c f).2.1/\(ai c f).2.1<(ac g)/\cH (g.getD (mT c f) default)/\okL (g.getD (mT c f) default)/\((length (ai c f).2.2.2.2.1):Int)<=1099511627776/\0<=(ai c f).2.1/\(ai c f).2.1<(ac g)/\0<=(ai c
 f).2.1/\(ai c f).2.1<((length (set g (mT c f) (f9 (g.getD (mT c f) default) (ai c f)))):Int)/\0<=(ai c f).2.1/\(ai c f).2.1<(ac a)/\length (ay (a.getD (mT c f) default))<=(100000:Nat)/\ao (! decide (dP (getD (set g (mT c f) (f9 (g.getD (mT c f) default) (ai c f))) (mT c f) default) (bj (a.getD (mT c f) default))=0)) (dP (getD (set g (mT c f) (f9 (g.getD (mT c f) default) (ai c f))) (mT c f) default) (bj (a.getD (mT c f) default))=lS (a,b,c)) (∃(m:Int) (n:List (List Rt)),(0<=m/\m<=(ac c)/\first (hY (a,b,c)) m.toNat=0/\n=dG (a,b,c) m.toNat)/\toNat ((ac c) -m)<toNat ((ac c) -f)/\aj (f+1)=m/\a=a/\b=b/\c=c/\set g (mT c f) (f9 (g.getD (mT c f) default) (ai c f))=n/\True))))) (0=lS (a,b,c))):=by
  delta mT ah ar aE aj ai ac;rintro ns ls hs ⟨⟨⟨hnl,-⟩,⟨hl,-⟩,⟨hhl,-⟩⟩,-⟩⟨hb,hn,hx⟩;simp only[maxLen] at hl hnl hhl;refine⟨ab,ab,ab,⟨0,_,⟨ab,ab,rfl⟩,by (repeat refine js ?_);simp⟩,?_⟩;rintro j t ⟨j0,j1,rfl⟩;have tl:((ns.take j.toNat).map aU++replicate (ns.length-j.toNat) ([]:List Rt)).length=ns.length:=by simp;omega
  refine aw (λhj=>?_) (λhj=>?_)
  .have hj:=aI hj;refine⟨j0,hj,j0,by rw[tl];exact hj,j+1,_,⟨ab,ab,rfl⟩,ab,?_⟩
   (repeat refine js ?_);refine⟨?_,bv⟩;rw[show (j+1).toNat=j.toNat+1 by omega,← Lp ab];rfl
  have hj:=aL hj;have e0:(ns.take j.toNat).map aU++replicate (ns.length-j.toNat) ([]:List Rt)=dG (ns,ls,hs) 0:=by
   rw[fi ab,show ns.length-j.toNat=0 by omega];simp[dG]
  rw[e0];clear e0 tl hj j0 j1;refine⟨⟨0,_,⟨ab,ab,rfl,rfl⟩,aP⟩,?_⟩;rintro j t ⟨j0,j1,hf,rfl⟩;refine aw (λhj=>?_) (λhj=>?_)
  rotate_left
  .have hj:=aL hj;rw[show j.toNat=hs.length by omega] at hf;exact hf.symm
  have hj:=aI hj;have hm:=bS j0 hj;have tb:=I9 hb hf;have tl:=qJ (ns,ls,hs) j.toNat
  dsimp only at tl;have hit:=λh=>Bd (f:=hY (ns,ls,hs)) (n:=hs.length) j0 hj hf h;have eq:=Ni (ns,ls,hs) j0;have ej:((j.toNat:Nat):Int)=j:=ab;rw[aG (n:=j-1) ab ab,tl];refine⟨j0,hj,?_⟩
  (repeat (refine bY ?_;repeat refine bZ ?_));rw[lx];refine aw (λh=>?_) (λh=>?_)
  .have h:=aI h;have e:hY (ns,ls,hs) j.toNat=1:=by
    rw[eq];unfold mV;rw[am];exact h
   have q:=hit (by rw[e];decide);rw[e] at q;exact q
  have c1:¬ (fc (hs.getD j.toNat default)<0∨1125899906842624<fc (hs.getD j.toNat default)):=aL h;clear h;intro b hb1
  (repeat refine⟨(by first|(simp;done)|exact λh=>⟨λ_=>h,λ_=>h,j0,hj,bv⟩|exact λh=>⟨λ_=>h,λ_=>h,by rw[hb1] at h;have:=aI h;omega,by rw[hb1] at h;have:=aI h;omega,bv⟩),?_⟩);rw[hb1,uL];refine aw (λh=>?_) (λh=>?_)
  .have h:=aI h;have e:hY (ns,ls,hs) j.toNat=6:=by
    rw[eq];unfold mV;rw[af c1,am];exact⟨ab,h.2⟩
   have q:=hit (by rw[e];decide);rw[e] at q;exact q
  have c2:¬ (0<j.toNat/\fc (hs.getD j.toNat default)<fc (hs.getD (j-1).toNat default)):=λq=>aL h ⟨ab,q.2⟩;clear h hb1;have QY:¬ (bJ (hs.getD j.toNat default)<0∨(ns.length:Int)<=bJ (hs.getD j.toNat default))->okL ((dG (ns,ls,hs) j.toNat).getD (bJ (hs.getD j.toNat default)).toNat default):=λh=>(tb.r _ (by show _<ns.length;omega)).2;intro b1 hb1
  (repeat refine⟨(by simp;done),?_⟩);intro b2 hb2
  (repeat refine⟨(by simp;done),?_⟩);rw[hb1,lx] at hb2;intro b3 hb3;have hb3:b3=pQ (hs.getD j.toNat default):=hb3;have nb:(!b2&&b3)=true→¬ (bJ (hs.getD j.toNat default)<0∨(ns.length:Int)<=bJ (hs.getD j.toNat default)):=λh=>by
   have h:=(Bool.and_eq_true_iff.1 h).1;rw[hb2] at h;exact gF h
  (repeat refine⟨(by first|(simp;done)|(simp +contextual;done)|exact λh=>⟨λ_=>h,λ_=>h,QY (nb h),bv⟩|exact λh=>⟨λ_=>h,λ_=>h,by have:0<=bJ (hs.getD j.toNat default):=(by have:=nb h;omega);exact this,by have:bJ (hs.getD j.toNat default)<ns.length:=(by have:=nb h;omega);exact this,bv⟩),?_⟩);have tot:(bif b2 then true else bif b3 then !m5 ((dG (ns,ls,hs) j.toNat).getD (hs.getD j.toNat default).2.1.toNat default) (hs.getD j.toNat default).2.2.2.1 else false)=decide ((bJ (hs.getD j.toNat default)<0∨(ns.length:Int)<=bJ (hs.getD j.toNat default))∨(pQ (hs.getD j.toNat default)=true/\m5 ((dG (ns,ls,hs) j.toNat).getD (bJ (hs.getD j.toNat default)).toNat default) (dN (hs.getD j.toNat default)).1=false)):=by
   rw[hb2,hb3];exact WK
  rw[tot];refine aw (λh=>?_) (λh=>?_)
  .have h:=aI h;have e:hY (ns,ls,hs) j.toNat=8:=by
    rw[eq];unfold mV;rw[af c1,af c2];rcases h with h|h
    .rw[am h]
    .by_cases hA:bJ (hs.getD j.toNat default)<0∨(ns.length:Int)<=bJ (hs.getD j.toNat default)
     .rw[am hA]
     .rw[af hA,am h]
   have q:=hit (by rw[e];decide);rw[e] at q;exact q
  have h:=aL h;have c3:¬ (bJ (hs.getD j.toNat default)<0∨(ns.length:Int)<=bJ (hs.getD j.toNat default)):=λk=>h (.inl k);have c4:¬ (pQ (hs.getD j.toNat default)=true/\m5 ((dG (ns,ls,hs) j.toNat).getD (bJ (hs.getD j.toNat default)).toNat default) (dN (hs.getD j.toNat default)).1=false):=λk=>h (.inr k);have w0:0<=bJ (hs.getD j.toNat default):=ab;have w1:bJ (hs.getD j.toNat default)<ns.length:=ab;have wl:(bJ (hs.getD j.toNat default)).toNat<ns.length:=ab;have tr:=tb.r (bJ (hs.getD j.toNat default)).toNat wl;rw[gB,tl,kw (by rw[tl];exact wl)];refine⟨w0,w1,tr.1,tr.2,hx _ hm,w0,w1,w0,w1,w0,w1,by have:=(Bu (n:=(ns,ls,hs)) hb wl).len;exact qX this bt,aw (λh=>?_) (λh=>?_)⟩
  .have h:=gF h;have e:hY (ns,ls,hs) j.toNat=dP (f9 ((dG (ns,ls,hs) j.toNat).getD (bJ (hs.getD j.toNat default)).toNat default) (hs.getD j.toNat default)) (bj (ns.getD (bJ (hs.getD j.toNat default)).toNat default)):=by
    rw[eq];unfold mV;rw[af c1,af c2,af c3,af c4]
   have k:=hit (by rw[e];exact h);rw[e] at k;exact k
  .have h:=iD h;have e:hY (ns,ls,hs) j.toNat=0:=by
    rw[eq];unfold mV;rw[af c1,af c2,af c3,af c4];exact h
   refine⟨j+1,dG (ns,ls,hs) (j+1).toNat,⟨ab,ab,xK j0 hf e,rfl⟩,ab,?_⟩
   (repeat refine js ?_);refine⟨?_,bv⟩;rw[show (j+1).toNat=j.toNat+1 by omega];rfl
theorem SK:aB 31 Rw.spec:=aF Tryz.func31 (av (av (av (av aD NB) aF2) Pw) K8) Ux au7
theorem GH(ns:List au)(a:Int):∀ k:Nat,gm a (gh ns k)=true↔∃ j:Nat,j<k/\a∈cG (ns.getD j default)
 | 0=>⟨λh=>by (cases h),λ⟨j,hj,_⟩=>absurd hj (Nat.not_lt_zero _)⟩
 | k+1=>by
  have e:gh ns (k+1)=nJ k (cG (ns.getD k default)) (gh ns k):=by unfold gh;rw[m3,iG];rfl
  rw[e,Ep.1,pb,nZ,GH ns a k];constructor
  .rintro (h|⟨j,hj,h⟩)
   .exact⟨k,ab,h⟩
   .exact⟨j,ab,h⟩
  .rintro⟨j,hj,h⟩;by_cases q:j=k
   .subst q;exact .inl h
   .exact .inr ⟨j,ab,h⟩
theorem aX3{x:au}{j:Nat}(h:j<(ay x).length):(bj x).getD j default=((ay x).getD j default).2:=by
 unfold bj
 rw[bL,bL,List.getElem?_map,cK h];rfl
def N7:Ct:=⟨[.agg ib],[.val cI],λd=>[∀ c∈d.1.2.2,((dN c).2.1.length:Int)<=1099511627776],λd=>((d9 d.1,()),())⟩
def S4:bw N7.ps->ce:=(λd=>{loops:=(bq 4 (λS=>{ι:=Int,μ:=λi=>(d.1.2.1.length-i).toNat,inv:=λi=>0<=i/\i<=d.1.2.1.length∧∀ x∈d.1.2.1.take i.toNat,gZ d.1.1.length x,keep:=[1],slots:=λi=>[(3,.int .i64 i)],keepN:=[32]}) (bq 10 (λS=>{ι:=Int,μ:=λi=>(d.1.1.length-i).toNat,inv:=λi=>0<=i/\i<=d.1.1.length/\first (kQ d.1) i.toNat=0,keep:=[1],slots:=λi=>[(5,.int .i64 i)],keepN:=[32]}) (bq 16 (λS=>{ι:=Int,μ:=λi=>((bj (d.1.1.getD (S.i 5).toNat default)).length-i).toNat,inv:=λi=>0<=i/\i<=(bj (d.1.1.getD (S.i 5).toNat default)).length∧∀ q∈(bj (d.1.1.getD (S.i 5).toNat default)).take i.toNat,mL d.1 (S.i 5).toNat q=false,keep:=[1,5],slots:=λi=>[(7,.int .i64 i)],keepN:=[32]}) (bq 22 (λS=>{ι:=Int,μ:=λi=>(d.1.2.1.length-i).toNat,inv:=λi=>0<=i/\i<=d.1.2.1.length∧∀ k:Nat,(k:Int)<i->na d.1 k=false,keep:=[1],slots:=λi=>[(9,.int .i64 i)],keepN:=[32]}) (bq 27 (λS=>{ι:=Int,μ:=λi=>(d.1.1.length-i).toNat,inv:=λi=>0<=i/\i<=d.1.1.length∧∀ u:Nat,(u:Int)<i→∀ k:Nat,k<u→∀ a∈cG (d.1.1.getD u default),dC (d.1.1.getD k default) a=false,keep:=[1],slots:=λi=>[(10,.int .i64 i)],keepN:=[32]}) (bq 31 (λS=>{ι:=Int,μ:=λi=>(S.i 10-i).toNat,inv:=λi=>0<=i/\i<=S.i 10∧∀ z:Nat,(z:Int)<i→∀ a∈cG (d.1.1.getD (S.i 10).toNat default),dC (d.1.1.getD z default) a=false,keep:=[1,10,11],slots:=λi=>[(12,.int .i64 i)],keepN:=[32,3520]}) (bq 34 (λS=>{ι:=Int,μ:=λi=>((cG (d.1.1.getD (S.i 10).toNat default)).length-i).toNat,inv:=λi=>0<=i/\i<=(cG (d.1.1.getD (S.i 10).toNat default)).length∧∀ a∈(cG (d.1.1.getD (S.i 10).toNat default)).take i.toNat,dC (d.1.1.getD (S.i 12).toNat default) a=false,keep:=[1,10,11,12],slots:=λi=>[(13,.int .i64 i)],keepN:=[32,3520]}) (bq 39 (λS=>{ι:=Int,μ:=λi=>(d.1.2.1.length-i).toNat,inv:=λi=>0<=i/\i<=d.1.2.1.length∧∀ x∈d.1.2.1.take i.toNat,iV d.1.1 x=false,keep:=[1],slots:=λi=>[(14,.int .i64 i)],keepN:=[32]}) cC))))))))})
def vp(a:List au)(h i:Int) :=
 getD (ai a h).1 i.toNat default
def vO(a:List au)(j:Int) :=
 ((length (cG (ai a j))):Int)
def G1(a:List au)(j:Int) :=
 0<=j/\j<=(ac a)/\ ∀(k:Nat),(↑k:Int)<j-> ∀(l:Nat),l<k-> ∀(m:Int),m∈cG (a.getD k default)->dC (a.getD l default) m=false
def zU(a:List au)(h:Int) :=
 ((length (bj (ai a h))):Int)
theorem V3 :
 ∀(a:List au)(b:List aK)(c:List aV),((a.length<=maxLen/\ ∀(d:au),d∈a->CT.wf bR d)/\(b.length<=maxLen/\ ∀(d:aK),d∈b->CT.wf fU d)/\c.length<=maxLen/\ ∀(d:aV),d∈c->CT.wf fg d)/\True->(∀(d:aV),d∈c->((length (dN d).2.1):Int)<=1099511627776)-> ∀(d:Bool),d=decide ((ac a)<1)->(ah (! d))/\(ah (! d))/\(ah (! d))/\(aE d)/\ ∀(e:Bool),(e=bif d then true else decide (64<(ac a)))->(ah (! e))/\(ah (! e))/\(ah (! e))/\(aE e)/\ ∀(f:Bool),(f=bif e then true else decide (128<(ac b)))->(ah (! f))/\(ah (! f))/\(ah (! f))/\(aE f)/\ao (bif f then true else decide (64<(ac c))) (5=d9 (a,b,c)) ((∃(g:Int),(0<=g/\g<=(ac b)/\ ∀(h:Int×Int×Int×Int×Int×Int),h∈take g.toNat b->gZ a.length h)/\0=g/\a=a/\b=b/\c=c/\True)/\ ∀(g:Int),(0<=g/\g<=(ac b)/\ ∀(h:Int×Int×Int×Int×Int×Int),h∈take g.toNat b->gZ a.length h)->ao (decide (g<(ac b)))
 (0<=g/\g<(ac b)/\ ∀(h:Bool),h=decide ((ai b g).1<0)->(ah (! h))/\(ah (! h))/\(ah (! h))/\((! h)->(ar (! h))/\(ar (! h))/\True)/\(aE h)/\ ∀(i:Bool),(i=bif h then true else decide ((ac a)<=(ai b g).1))->(ah (! i))/\(ah (! i))/\(aE i)/\ ∀(j:Bool),(j=bif i then true else decide ((ai b g).2.1<0))->(ah (! j))/\(ah (! j))/\(ah (! j))/\((! j)->(ar (! j))/\(ar (! j))/\True)/\(aE j)/\ ∀(k:Bool),(k=bif j then true else decide ((ac a)<=(ai b g).2.1))->(ah (! k))/\(ah (! k))/\((! k)->(ar (! k))/\(ar (! k))/\True)/\(aE k)/\ ∀(l:Bool),(l=bif k then true else decide ((ai b g).1=(ai b g).2.1))->(ah (! l))/\(ah (! l))/\(aE l)/\ ∀(m:Bool),(m=bif l then true else decide ((ai b g).2.2.1<1))->(ah (! m))/\(ah (! m))/\(aE m)/\ ∀(n:Bool),(n=bif m then true else decide (1073741824<(ai b g).2.2.1))->(ah (! n))/\(ah (! n))/\(aE n)/\ ∀(o:Bool),(o=bif n then true else decide
 ((ai b g).2.2.2.1<0))->(ah (! o))/\(ah (! o))/\(aE o)/\ ∀(p:Bool),(p=bif o then true else decide (1073741824<(ai b g).2.2.2.1))->(ah (! p))/\(ah (! p))/\(aE p)/\ ∀(q:Bool),(q=bif p then true else decide ((ai b g).2.2.2.2.1<0))->(ah (! q))/\(ah (! q))/\(aE q)/\ao (bif q then true else decide (65536<(ai b g).2.2.2.2.1)) (11=d9 (a,b,c)) (∃(r:Int),(0<=r/\r<=(ac b)/\ ∀(s:Int×Int×Int×Int×Int×Int),s∈take r.toNat b->gZ a.length s)/\toNat ((ac b) -r)<toNat ((ac b) -g)/\aj (g+1)=r/\a=a/\b=b/\c=c/\True)) ((∃(h:Int),(0<=h/\h<=(ac a)/\first (kQ (a,b,c)) h.toNat=0)/\0=h/\a=a/\b=b/\c=c/\True)/\ ∀(h:Int),0<=h/\h<=(ac a)/\first (kQ (a,b,c)) h.toNat=0->ao (decide (h<(ac a))) (0<=h/\h<(ac a)/\ao (! decide (eG (ai a h)=0)) (eG (ai a h)=d9 (a,b,c)) ((∃(i:Int),(0<=i/\i<=(zU a h)/\ ∀(j:Int),j∈take i.toNat (bj (ai a h))->mL (a,b,c)
 h.toNat j=false)/\h=h/\0=i/\a=a/\b=b/\c=c/\True)/\ ∀(i:Int),(0<=i/\i<=(zU a h)/\ ∀(j:Int),j∈take i.toNat (bj (ai a h))->mL (a,b,c) h.toNat j=false)->0<=h/\h<(ac a)/\ao (decide (i<((length (ai a h).1):Int))) (0<=h/\h<(ac a)/\0<=i/\i<((length (ai a h).1):Int)/\ ∀(j:Bool),j=decide ((ac b)<=(vp a h i).2)->(ah (! j))/\((! j)->(ar (! j))/\(ar (! j))/\0<=(vp a h i).2/\(vp a h i).2<(ac b)/\True)/\(ah (! j))/\(ah (! j))/\((! j)->(ar (! j))/\(ar (! j))/\True)/\(ah (! j))/\ ∀(k:Bool),k= ! decide ((b.getD (toNat (vp a h i).2) default).1=h)->(ah (! j&&k))/\((! j&&k)->(ar (! j&&k))/\(ar (! j&&k))/\0<=(vp a h i).2/\(vp a h i).2<(ac b)/\True)/\(ah (! j&&k))/\(ah (! j&&k))/\((! j&&k)->(ar (! j&&k))/\(ar (! j&&k))/\True)/\((! j)->(ar (! j))/\(k->(! j&&k))/\True)/\(aE j)/\ao (bif j then true else bif k then ! decide ((b.getD (toNat
 (vp a h i).2) default).2.1=h) else false) (11=d9 (a,b,c)) (∃(l:Int),(0<=l/\l<=(zU a h)/\ ∀(m:Int),m∈take l.toNat (bj (ai a h))->mL (a,b,c) h.toNat m=false)/\toNat ((zU a h) -l)<toNat ((zU a h) -i)/\h=h/\aj (i+1)=l/\a=a/\b=b/\c=c/\True)) (∃(j:Int),(0<=j/\j<=(ac a)/\first (kQ (a,b,c)) j.toNat=0)/\toNat ((ac a) -j)<toNat ((ac a) -h)/\aj (h+1)=j/\a=a/\b=b/\c=c/\True))) ((∃(i:Int),(0<=i/\i<=(ac b)/\ ∀(j:Nat),(↑j:Int)<i->na (a,b,c) j=false)/\0=i/\a=a/\b=b/\c=c/\True)/\ ∀(i:Int),(0<=i/\i<=(ac b)/\ ∀(j:Nat),(↑j:Int)<i->na (a,b,c) j=false)->ao (decide (i<(ac b))) (0<=i/\i<(ac b)/\0<=(ai b i).1/\(ai b i).1<(ac a)/\ ∀(j:Bool),j=decide (cy (a.getD (toNat (ai b i).1) default) i<0)->(ah (! j))/\(ah (! j))/\((! j)->(ar (! j))/\(ar (! j))/\0<=i/\i<(ac b)/\True)/\(ah (! j))/\(ah (! j))/\((! j)->(ar (! j))/\(ar (! j))/\0<=(ai
 b i).2.1/\(ai b i).2.1<(ac a)/\True)/\(ah (! j))/\((! j)->(ar (! j))/\(ar (! j))/\True)/\(ah (! j))/\(aE j)/\ao (bif j then true else decide (cy (a.getD (toNat (ai b i).2.1) default) i<0)) (11=d9 (a,b,c)) (∃(k:Int),(0<=k/\k<=(ac b)/\ ∀(l:Nat),(↑l:Int)<k->na (a,b,c) l=false)/\toNat ((ac b) -k)<toNat ((ac b) -i)/\aj (i+1)=k/\a=a/\b=b/\c=c/\True)) ((∃(j:Int),(G1 a j)/\0=j/\a=a/\b=b/\c=c/\True)/\ ∀(j:Int),(G1 a j)->ao (decide (j<(ac a))) (0<=j/\j<(ac a)/\length (ay (ai a j))<=(100000:Nat)/\(∃(k:Int),(0<=k/\k<=j/\ ∀(l:Nat),(↑l:Int)<k-> ∀(m:Int),m∈cG (ai a j)->dC (a.getD l default) m=false)/\j=j/\0=k/\a=a/\b=b/\c=c/\cG (ai a j)=cG (ai a j)/\True)/\ ∀(k:Int),(0<=k/\k<=j/\ ∀(l:Nat),(↑l:Int)<k-> ∀(m:Int),m∈cG (ai a j)->dC (a.getD l default) m=false)->ao (decide (k<j)) ((∃(l:Int),(0<=l/\l<=(vO a j)/\ ∀(m:Int),m∈take
 l.toNat (cG (ai a j))->dC (ai a k) m=false)/\j=j/\k=k/\0=l/\a=a/\b=b/\c=c/\cG (ai a j)=cG (ai a j)/\True)/\ ∀(l:Int),(0<=l/\l<=(vO a j)/\ ∀(m:Int),m∈take l.toNat (cG (ai a j))->dC (ai a k) m=false)->ao (decide (l<(vO a j))) (0<=k/\k<(ac a)/\0<=l/\l<(vO a j)/\ao (dC (ai a k) (getD (cG (ai a j)) l.toNat default)) (10=d9 (a,b,c)) (∃(m:Int),(0<=m/\m<=(vO a j)/\ ∀(n:Int),n∈take m.toNat (cG (ai a j))->dC (ai a k) n=false)/\toNat ((vO a j) -m)<toNat ((vO a j) -l)/\j=j/\k=k/\aj (l+1)=m/\a=a/\b=b/\c=c/\cG (ai a j)=cG (ai a j)/\True)) (∃(m:Int),(0<=m/\m<=j/\ ∀(n:Nat),(↑n:Int)<m-> ∀(o:Int),o∈cG (ai a j)->dC (a.getD n default) o=false)/\toNat (j -m)<toNat (j -k)/\j=j/\aj (k+1)=m/\a=a/\b=b/\c=c/\cG (ai a j)=cG (ai a j)/\True)) (∃(l:Int),(0<=l/\l<=(ac a)/\ ∀(m:Nat),(↑m:Int)<l-> ∀(n:Nat),n<m->
 ∀(o:Int),o∈cG (a.getD m default)->dC (a.getD n default) o=false)/\toNat ((ac a) -l)<toNat ((ac a) -j)/\aj (j+1)=l/\a=a/\b=b/\c=c/\True)) ((∃(k:Int),(0<=k/\k<=(ac b)/\ ∀(l:Int×Int×Int×Int×Int×Int),l∈take k.toNat b->iV a l=false)/\0=k/\a=a/\b=b/\c=c/\True)/\ ∀(k:Int),(0<=k/\k<=(ac b)/\ ∀(l:Int×Int×Int×Int×Int×Int),l∈take k.toNat b->iV a l=false)->ao (decide (k<(ac b))) (0<=k/\k<(ac b)/\0<=(ai b k).1/\(ai b k).1<(ac a)/\ ∀(l:Bool),l=(a.getD (toNat (ai b k).1) default).2.2.2.2.2.2.2.2.2.2.2.2.1->(ah l)/\(ah l)/\(l->(ar l)/\(ar l)/\0<=k/\k<(ac b)/\True)/\(ah l)/\(ah l)/\(l->(ar l)/\(ar l)/\0<=(ai b k).2.1/\(ai b k).2.1<(ac a)/\True)/\(ah l)/\(ah l)/\(ar l)/\ao (bif l then (a.getD (toNat (ai b k).2.1) default).2.2.2.2.2.2.2.2.2.2.2.2.1 else false) (13=d9 (a,b,c)) (∃(m:Int),(0<=m/\m<=(ac b)/\
 ∀(n:Int×Int×Int×Int×Int×Int),n∈take m.toNat b->iV a n=false)/\toNat ((ac b) -m)<toNat ((ac b) -k)/\aj (k+1)=m/\a=a/\b=b/\c=c/\True)) (lq (a,b,c)=0/\a.length<=(64:Nat)/\(∀(l:aV),l∈c->((length (dN l).2.1):Int)<=1099511627776)/\lS (a,b,c)=d9 (a,b,c))))))):=by
  delta vp vO G1 zU ah ar aE aj ai ac;rintro ns ls hs ⟨⟨⟨hnl,-⟩,⟨hl,-⟩,⟨hhl,-⟩⟩,-⟩ hx;simp only[maxLen] at hl hnl hhl;intro b1 hb1
  (repeat refine⟨λh_=>(by first|(simp;done)|(simp[h_];done)|(simp_all;done)),?_⟩);intro b2 hb2
  (repeat refine⟨λh_=>(by first|(simp;done)|(simp[h_];done)|(simp_all;done)),?_⟩);intro b3 hb3
  (repeat refine⟨λh_=>(by first|(simp;done)|(simp[h_];done)|(simp_all;done)),?_⟩);rw[hb3,hb2,hb1,lx,lx,lx];refine aw (λh=>?_) (λh=>?_)
  .have h:=aI h;have e:nR (ns,ls,hs)=5:=by unfold nR;rw[am (by dsimp only;omega)]
   unfold d9;rw[e];rfl
  have h:=aL h;have e1:nR (ns,ls,hs)=0:=by unfold nR;rw[af (by dsimp only;omega)]
  have eC:d9 (ns,ls,hs)=mH (lX (ns,ls,hs)) (mH (lq (ns,ls,hs)) (mH (nH (ns,ls,hs)) (mH (oJ (ns,ls,hs)) (mH (nT (ns,ls,hs)) (lS (ns,ls,hs)))))):=by unfold d9;rw[qP e1]
  rw[eC];clear eC e1 hb1 hb2 hb3;refine⟨⟨0,⟨ab,ab,aA⟩,aP⟩,?_⟩;rintro i ⟨i0,i1,hI⟩;refine aw (λhi=>?_) (λhi=>?_)
  .have hi:=aI hi;have hm:=bS i0 hi;have eJ:=λh=>nW i0 hi hI (P:=gZ ns.length) h;refine⟨i0,hi,?_⟩;generalize ls.getD i.toNat default=l at hm eJ ⊢;intro c1 hc1
   (repeat refine⟨λh_=>(by first|(simp;done)|(simp[h_];done)|(simp_all;done)),?_⟩);intro c2 hc2
   (repeat refine⟨λh_=>(by first|(simp;done)|(simp[h_];done)|(simp_all;done)),?_⟩);intro c3 hc3
   (repeat refine⟨λh_=>(by first|(simp;done)|(simp[h_];done)|(simp_all;done)),?_⟩);intro c4 hc4
   (repeat refine⟨λh_=>(by first|(simp;done)|(simp[h_];done)|(simp_all;done)),?_⟩);intro c5 hc5
   (repeat refine⟨λh_=>(by first|(simp;done)|(simp[h_];done)|(simp_all;done)),?_⟩);intro c6 hc6
   (repeat refine⟨λh_=>(by first|(simp;done)|(simp[h_];done)|(simp_all;done)),?_⟩);intro c7 hc7
   (repeat refine⟨λh_=>(by first|(simp;done)|(simp[h_];done)|(simp_all;done)),?_⟩);intro c8 hc8
   (repeat refine⟨λh_=>(by first|(simp;done)|(simp[h_];done)|(simp_all;done)),?_⟩);intro c9 hc9
   (repeat refine⟨λh_=>(by first|(simp;done)|(simp[h_];done)|(simp_all;done)),?_⟩);intro c10 hc10
   (repeat refine⟨λh_=>(by first|(simp;done)|(simp[h_];done)|(simp_all;done)),?_⟩);rw[hc10,hc9,hc8,hc7,hc6,hc5,hc4,hc3,hc2,hc1,lx,lx,lx,lx,lx,lx,lx,lx,lx,lx];refine bU (λh=>?_) (λh=>?_)
   .have e:lX (ns,ls,hs)=11:=by
     unfold lX;rw[af];intro k;have k:gZ ns.length l:=aI (List.all_eq_true.1 k l hm);unfold gZ lA lB gS fK oo at k;omega
    rw[e];rfl
   .exact⟨i+1,⟨ab,ab,eJ (by unfold gZ lA lB gS fK oo;omega)⟩,ab,aP⟩
  have hi:=aL hi;rw[fi ab] at hI;have e2:lX (ns,ls,hs)=0:=by
   unfold lX;rw[am];exact List.all_eq_true.2 λl hl=>cM (hI l hl)
  rw[qP e2];have he:=HL e2;clear hI hi;refine⟨⟨0,⟨ab,ab,rfl⟩,aP⟩,?_⟩;rintro i ⟨i0,i1,hf⟩;refine aw (λhi=>?_) (λhi=>?_)
  .have hi:=aI hi;have ei:((i.toNat:Nat):Int)=i:=ab;have hit:=λh=>Bd (f:=kQ (ns,ls,hs)) (n:=ns.length) i0 hi hf h;have bad:∀{v R:Int},v≠0->kQ (ns,ls,hs) i.toNat=v->v=mH (lq (ns,ls,hs)) R:=λhv e=>by
    have k:=hit (by rw[e];exact hv);rw[e] at k;rw[show lq (ns,ls,hs)=_ from k.symm];exact xL hv
   refine⟨i0,hi,aw (λh=>?_) (λh=>?_)⟩
   .have h:=gF h;exact bad h (am h)
   have h:=iD h;have nv:=IB h;have k0:=Q2 nv.bad;have hlen:(bj (ns.getD i.toNat default)).length=(ay (ns.getD i.toNat default)).length:=by simp[bj]
   have n32:=nv.len;refine⟨⟨0,⟨ab,ab,aA⟩,aP⟩,?_⟩;rintro j ⟨j0,j1,hj⟩;refine⟨i0,hi,aw (λhk=>?_) (λhk=>?_)⟩
   rotate_left
   .have hk:=aL hk;have hk:¬ j<((ay (ns.getD i.toNat default)).length:Int):=hk;rw[fi ab] at hj;refine⟨i+1,⟨ab,ab,xK i0 hf ?_⟩,ab,aP⟩;unfold kQ;rw[af (λq=>q h),af];intro q;obtain⟨k,hk,q⟩:=List.any_eq_true.1 q;rw[hj k hk] at q;cases q
   have hk:=aI hk;have hk2:j<((bj (ns.getD i.toNat default)).length:Int):=by
    have:j<((ay (ns.getD i.toNat default)).length:Int):=hk;omega
   have hm:=bS j0 hk2;have eJ:=λh=>nW j0 hk2 hj h (P:=λk=>mL (ns,ls,hs) i.toNat k=false);have kk:=k0 _ hm;have eg:((ns.getD i.toNat default).1.getD j.toNat default).2=(bj (ns.getD i.toNat default)).getD j.toNat default:=(aX3 ab).symm;refine⟨i0,hi,j0,hk,?_⟩;rw[eg];generalize (bj (ns.getD i.toNat default)).getD j.toNat default=k at hm eJ kk ⊢;intro b hb
   (repeat refine⟨λh_=>(by first|exact⟨λ_=>h_,λ_=>h_,kk,by rw[hb] at h_;have:=gF h_;omega,bv⟩|((repeat refine⟨λ_=>h_,?_⟩);exact⟨i0,hi,bv⟩)|((repeat refine⟨λ_=>h_,?_⟩);exact⟨j0,hk,bv⟩)|(simp;done)|(simp[h_];done)|(simp_all;done)),?_⟩);intro b2 hb2
   (repeat refine⟨λh_=>(by first|exact⟨λ_=>h_,λ_=>h_,kk,by rw[hb] at h_;have:=gF (Bool.and_eq_true_iff.1 h_).1;omega,bv⟩|((repeat refine⟨λ_=>h_,?_⟩);exact⟨i0,hi,bv⟩)|((repeat refine⟨λ_=>h_,?_⟩);exact⟨j0,hk,bv⟩)|(simp;done)|(simp[h_];done)|(simp_all;done)),?_⟩);have tot:(bif b then true else bif b2 then !decide ((ls.getD k.toNat default).2.1=i) else false)=mL (ns,ls,hs) i.toNat k:=by
    rw[hb,hb2];unfold mL lA lB;rw[ei];cases decide ((ls.length:Int)<=k) <;> cases decide ((ls.getD k.toNat default).1=i) <;> cases decide ((ls.getD k.toNat default).2.1=i) <;> rfl
   rw[tot];refine aw (λht=>?_) (λht=>?_)
   .refine bad bt ?_;unfold kQ;rw[af (λq=>q h),am (List.any_eq_true.2 ⟨_,hm,ht⟩)]
   .exact⟨j+1,⟨ab,ab,eJ ht⟩,ab,aP⟩
  have hi:=aL hi;rw[show i.toNat=ns.length by omega] at hf;have e3:lq (ns,ls,hs)=0:=hf;rw[qP e3];clear hf hi;have hp:∀ x∈ns,(ay x).length<=100000:=λx hx=>qX (O1 e3 x hx).len bt;refine⟨⟨0,⟨ab,ab,λk hk=>ab⟩,aP⟩,?_⟩;rintro i ⟨i0,i1,hI⟩;refine aw (λhi=>?_) (λhi=>?_)
  .have hi:=aI hi;have hm:=bS i0 hi;have e:=he _ hm;have ei:((i.toNat:Nat):Int)=i:=ab;refine⟨i0,hi,e.1,e.2.1,?_⟩;intro b hb
   (repeat refine⟨λh_=>(by first|((repeat refine⟨λ_=>h_,?_⟩);first|exact⟨i0,hi,bv⟩|exact⟨e.2.2.1,e.2.2.2,bv⟩)|(simp;done)|(simp[h_];done)|(simp_all;done)),?_⟩);refine sF (λho=>?_) (λx1 x2=>?_)
   .have e4:nH (ns,ls,hs)=11:=by
     unfold nH;rw[am];refine List.any_eq_true.2 ⟨i.toNat,List.mem_range.2 (show i.toNat<ls.length by omega),?_⟩;unfold na;rw[pb,ei];rcases ho with h|h
     .exact .inl (hb.symm.trans h)
     .exact .inr h
    rw[e4];rfl
   .refine⟨i+1,⟨ab,ab,λk hk=>?_⟩,ab,aP⟩;by_cases e2:(k:Int)<i
    .exact hI k e2
    .have:k=i.toNat:=ab;subst this;unfold na;rw[Bool.or_eq_false_iff,ei];exact⟨hb.symm.trans x1,x2⟩
  have hi:=aL hi;have e4:nH (ns,ls,hs)=0:=by
   unfold nH;rw[af];intro h;obtain⟨k,h1,h2⟩:=List.any_eq_true.1 h;have h1:k<ls.length:=List.mem_range.1 h1;rw[hI k ab] at h2;cases h2
  rw[qP e4];clear hI hi;refine⟨⟨0,⟨ab,ab,λu hu=>ab⟩,aP⟩,?_⟩;rintro i ⟨i0,i1,hI⟩;refine aw (λhi=>?_) (λhi=>?_)
  .have hi:=aI hi;have ei:((i.toNat:Nat):Int)=i:=ab;have hpx:=hp _ (bS i0 hi);have al:(cG (ns.getD i.toNat default)).length<=100001:=by
    unfold cG md;rw[cu,mh];split
    .rw[List.length_nil];omega
    .rw[ga];omega
   refine⟨i0,hi,hpx,⟨0,⟨ab,ab,λz hz=>ab⟩,aP⟩,?_⟩;rintro k ⟨k0,k1,hK⟩;refine aw (λhk=>?_) (λhk=>?_)
   rotate_left
   .have hk:=aL hk;refine⟨i+1,⟨ab,ab,λu hu z hz a ha=>?_⟩,ab,aP⟩;by_cases q:(u:Int)<i
    .exact hI u q z hz a ha
    .have:u=i.toNat:=ab;subst this;exact hK z ab a ha
   have hk:=aI hk;refine⟨⟨0,⟨ab,ab,aA⟩,aP⟩,?_⟩;rintro x ⟨x0,x1,hX⟩;refine aw (λhx1=>?_) (λhx1=>?_)
   rotate_left
   .have hx1:=aL hx1;rw[fi ab] at hX;refine⟨k+1,⟨ab,ab,λz hz a ha=>?_⟩,ab,aP⟩;by_cases q:(z:Int)<k
    .exact hK z q a ha
    .have:z=k.toNat:=ab;subst this;exact hX a ha
   have hx1:=aI hx1;have hm:=bS x0 hx1;have nx:=λh=>nW x0 hx1 hX h (P:=λa=>dC (ns.getD k.toNat default) a=false);refine⟨k0,ab,x0,hx1,aw (λq=>?_) (λq=>?_)⟩
   .have e5:oJ (ns,ls,hs)=10:=by
     unfold oJ;rw[am];exact List.any_eq_true.2 ⟨i.toNat,List.mem_range.2 (show i.toNat<ns.length by omega),List.any_eq_true.2 ⟨_,hm,(GH ns _ i.toNat).2 ⟨k.toNat,ab,Mj.1 q⟩⟩⟩
    rw[e5];rfl
   .exact⟨x+1,⟨ab,ab,nx q⟩,ab,aP⟩
  have hi:=aL hi;have e5:oJ (ns,ls,hs)=0:=by
   unfold oJ;rw[af];intro h;obtain⟨u,hu,h2⟩:=List.any_eq_true.1 h;obtain⟨a,ha,h3⟩:=List.any_eq_true.1 h2;have hu:u<ns.length:=List.mem_range.1 hu;obtain⟨j,hj,h4⟩:=(GH ns a u).1 h3;have:=hI u ab j hj a ha;rw[Mj.2 h4] at this;cases this
  rw[qP e5];clear hI hi;refine⟨⟨0,⟨ab,ab,aA⟩,aP⟩,?_⟩;rintro i ⟨i0,i1,hI⟩;refine aw (λhi=>?_) (λhi=>?_)
  .have hi:=aI hi;have hm:=bS i0 hi;have e:=he _ hm;refine⟨i0,hi,e.1,e.2.1,?_⟩;intro b hb
   (repeat refine⟨λh_=>(by first|((repeat refine⟨λ_=>h_,?_⟩);first|exact⟨i0,hi,bv⟩|exact⟨e.2.2.1,e.2.2.2,bv⟩)|(simp;done)|(simp[h_];done)|(simp_all;done)),?_⟩);refine uD (λx1 x2=>?_) (λhno=>?_)
   .have e6:nT (ns,ls,hs)=13:=by
     unfold nT;rw[am];refine List.any_eq_true.2 ⟨_,hm,?_⟩;unfold iV;rw[dK];exact⟨hb.symm.trans x1,x2⟩
    rw[e6];rfl
   .refine⟨i+1,⟨ab,ab,nW i0 hi hI ?_⟩,ab,aP⟩;unfold iV;rw[Bool.and_eq_false_iff];rcases hno with h|h
    .exact .inl (hb.symm.trans h)
    .exact .inr h
  have hi:=aL hi;rw[fi ab] at hI;have e6:nT (ns,ls,hs)=0:=by
   unfold nT;rw[af];intro h;obtain⟨l,h1,h2⟩:=List.any_eq_true.1 h;rw[hI l h1] at h2;cases h2
  rw[qP e6];exact⟨e3,ab,hx,rfl⟩
theorem ae3:aB 7 N7.spec:=aF Tryz.func7 (av (av (av (av (av aD ai2) Ta) VE) Yy) SK) S4 V3
set_option maxHeartbeats 2000000
instance:DecidableEq Rt:=inferInstanceAs (DecidableEq ((Int×Int)×ae×Int))
instance:DecidableEq ct:=inferInstanceAs (DecidableEq (List Rt×Int×ae×(Int×Int)×Int))
def Sb:Ct:=⟨[.val (.sl pR),.val (.sl pR)],[.val .bool],λ_=>[],λd=>((decide (d.1=d.2.1),()),())⟩
def ab5:bw Sb.ps->ce:=(λd=>{loops:=(bq 4 (λS=>{ι:=Int,μ:=λi=>(d.1.length-i).toNat,inv:=λi=>0<=i/\i<=d.1.length/\d.1.length=d.2.1.length/\d.1.take i.toNat=d.2.1.take i.toNat,keep:=[0,1],slots:=λi=>[(5,.int .i64 i)]}) cC)})
theorem Xq :
 ∀(a b:List (Int×Int×Int×Int×Int)),(a.length<=maxLen/\ ∀(c:Int×Int×Int×Int×Int),c∈a->aq c.1/\aq c.2.1/\aq c.2.2.1/\aq c.2.2.2.1/\aq c.2.2.2.2)/\(b.length<=maxLen/\ ∀(c:Int×Int×Int×Int×Int),c∈b->aq c.1/\aq c.2.1/\aq c.2.2.1/\aq c.2.2.2.1/\aq c.2.2.2.2)/\True->True->ao (! decide ((ac a)=(ac b))) (false=decide (a=b)) ((∃(c:Int),(0<=c/\c<=(ac a)/\a.length=b.length/\take c.toNat a=take c.toNat b)/\a=a/\b=b/\0=c/\True)/\ ∀(c:Int),0<=c/\c<=(ac a)/\a.length=b.length/\take c.toNat a=take c.toNat b->ao (decide (c<(ac a))) (0<=c/\c<(ac a)/\0<=c/\c<(ac b)/\ao (! (decide ((ai a c).1=(ai b c).1)&&(decide ((ai a c).2.1=(ai b c).2.1)&&(decide ((ai a c).2.2.1=(ai b c).2.2.1)&&(decide ((ai a c).2.2.2.1=(ai b c).2.2.2.1)&&(decide ((ai a c).2.2.2.2=(ai b c).2.2.2.2)&&true)))))) (false=decide (a=b)) (∃(d:Int),(0<=d/\d<=(ac a)/\a.length=b.length/\take
 d.toNat a=take d.toNat b)/\toNat ((ac a) -d)<toNat ((ac a) -c)/\a=a/\b=b/\aj (c+1)=d/\True)) (true=decide (a=b))):=by
  delta aj ai ac;rintro x y ⟨⟨hl,-⟩,-⟩ -;simp only[maxLen] at hl;refine aw (λh=>?_) (λh=>?_)
  .have h:=gF h;exact (dO (λe=>h (by rw[e]))).symm
  have h:=iD h;refine⟨⟨0,⟨ab,ab,ab,rfl⟩,aP⟩,?_⟩;rintro j ⟨j0,j1,j2,j3⟩;refine bU (λhj=>?_) (λhj=>?_)
  .refine⟨j0,hj,j0,ab,aw (λk=>?_) (λk=>?_)⟩
   .refine (dO (λe=>?_)).symm;rw[e] at k;simp at k
   .simp only[wB,dK,lU,io] at k;obtain⟨k1,k2,k3,k4,k5⟩:=k;have ee:x.getD j.toNat default=y.getD j.toNat default:=Prod.ext k1 (Prod.ext k2 (Prod.ext k3 (Prod.ext k4 k5)));exact⟨j+1,⟨ab,ab,j2,by rw[wc j0 hj,wc j0 ab,j3,ee]⟩,ab,aP⟩
  .rw[fi ab,fi ab] at j3;exact (cM j3).symm
theorem ad5:aB 18 Sb.spec:=aF Tryz.func18 aD ab5 Xq
def ac8(k:Int)(x:au):Prop:=(x.1.length:Int)<=k/\(aU x).length<=k∧∀ r∈aU x,(r.2.1.length:Int)<=k
def OK(k:Int)(n:aQ):Prop:=(n.1.length:Int)<=k/\(n.2.1.length:Int)<=k/\(n.2.2.length:Int)<=k/\(∀ x∈n.1,ac8 k x)∧∀ c∈n.2.2,(c.2.2.2.2.1.length:Int)<=k
theorem DN.nb{n:aQ}(h:DN n):OK 1000 n:=by
 have n7:=h.n7
 have l10:=h.l10
 have h3:=h.h3
 refine⟨by omega,by omega,by omega,λx hx=>?_,λc hc=>?_⟩
 .obtain⟨i,hi,rfl⟩:=List.mem_iff_getElem.1 hx;have e:n.1.getD i default=n.1[i]:=by rw[bL,cK hi,fZ]
  have p:=h.p i hi;have t:=h.t i hi;rw[e] at p t;have hl:=Bz i 0 n.2.1;rw[← p] at hl;have hl:(n.1[i]).1.length<=2*n.2.1.length:=hl;have h20:=Jm t;exact⟨by omega,by omega,λr hr=>by have:=Ei (t.2 r hr);omega⟩
 .rcases (h.c c hc).x with k|⟨q,-,k⟩
  .have k:c.2.2.2.2.1=[]:=k;rw[k];simp
  .have k:c.2.2.2.2.1=[q.2]:=k;rw[k];simp
end Go.RS
