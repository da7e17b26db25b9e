/- SX, part 29: slices.Insert of one element into a slice that owns its row: its contract, off what its code does with values. -/
import Derived.Test.YtehpghlieehlbaaGreatDoorSx25
import Derived.Lib.AppendZerosOnto
import Derived.Lib.Overlaps
import Derived.Laws.Externs
import Derived.Lib.Walk
import Derived.Lib.SliceRun
import Derived.Shelf.RegionOpenPlain
import Derived.Test.YtehpghlieehlbaaGreatDoorTopod
set_option maxRecDepth 100000
set_option linter.unusedVariables false
open Int (toNat)
open List (length take getD set replicate drop)
namespace Go.SX
def lh(cur:Array Value)(o:Nat)(cs:List Value):Array Value:=(cur.toList.take o++cs++cur.toList.drop (o+cs.length)).toArray
theorem yh{cur:Array Value}{o:Nat}{cs:List Value}(h:o+cs.length<=cur.size):(lh cur o cs).size=cur.size:=by
 simp only[lh,pP,cD,cW,dR,gg];omega
theorem tg{cur:Array Value}{o:Nat}{cs:List Value}(h:o+cs.length<=cur.size)(j:Nat) :
  (lh cur o cs)[j]? = if j<o then cur[j]? else if j<o+cs.length then cs[j-o]? else cur[j]? := by
 unfold lh
 rw[List.getElem?_toArray]
 have hl:(cur.toList.take o).length=o:=by rw[cW,gg];omega
 by_cases h1:j<o
 .rw[am h1,iN,kA (by omega),ot,am h1,j7]
 .rw[af h1];by_cases h2:j<o+cs.length
  .rw[am h2,iN,kr (by omega),kA (by omega),hl]
  .rw[af h2,kr (by rw[cD,hl];omega),cD,hl,pD,j7];congr 1;omega
def iX(cur:Array Value)(o n:Nat):List Value:=(cur.toList.drop o).take n
theorem yU{cur:Array Value}{o n:Nat}(h:o+n<=cur.size):(iX cur o n).length=n:=by
 unfold iX;rw[cW,dR,gg];omega
theorem wT{cur:Array Value}{o n j:Nat}(h:j<n):(iX cur o n)[j]? = cur[o+j]? := by
 unfold iX;rw[ot,am h,pD,j7]
def uv(cur:Array Value)(off n i z:Nat)(vs:List Value):Array Value:=lh (lh cur (off+(i+1)*z) (iX cur (off+i*z) ((n-i)*z))) (off+i*z) vs
def sF(cur:Array Value)(off n i z G:Nat)(zr:Array Value):Array Value:=(iX cur off (i*z)).toArray++Builtin.zeroCells zr (n+1-i)++Builtin.zeroCells zr (G-(n+1))
def sg(cur:Array Value)(off n i z G:Nat)(zr:Array Value)(vs:List Value):Array Value:=lh (lh (sF cur off n i z G zr) (i*z) vs) ((i+1)*z) (iX cur (off+i*z) ((n-i)*z))
structure Pi (P:Program) (F:FuncId) (tS E:TypeId) (z bs:Nat) (zr:Array Value) (ty:TypeId):Prop where
 last:∀(w w':World)(p q:Option Addr)(n c vc:Nat)(v:Value),n<=c->c<=maxLen->(Builtin.append_ #[tS,tS] ty #[.slice p n c,.slice q 1 vc]).run P w = .ok v w' →
  Calls P F #[.slice p n c,.int .i64 n,.slice q 1 vc] w λe w2=>e = .returned v/\w2=w'
 shift:∀(w:World)(b off n c i vb voff vc:Nat)(cur vcur:Array Value)(E':TypeId)(vs:List Value),i<n->n+1<=c->c<=maxLen->vb≠b->w.heap[b]? = some (.cells cur E (0,0))->off+c*z<=cur.size →
  w.heap[vb]? = some (.cells vcur E' (0,0))->vs.length=z->(∀ j v,vs[j]? = some v->w.cell? ⟨vb,voff+j,none⟩=some v)->(∀ v∈vs,v.oneCell'=true)->(∀ v∈iX cur (off+i*z) ((n-i)*z),v.oneCell'=true) →
  Calls P F #[.slice (some ⟨b,off,none⟩) n c,.int .i64 i,.slice (some ⟨vb,voff,none⟩) 1 vc] w λe w'=>e = .returned (.slice (some ⟨b,off,none⟩) (n+1) c)/\w'=w.drew.setRow b (uv cur off n i z vs)
 grow:∀(w:World)(b off n i vb voff vc:Nat)(cur vcur:Array Value)(E':TypeId)(vs:List Value),i<n->n+1<=maxLen->(n+1)*bs<=140737488355328->w.heap[b]? = some (.cells cur E (0,0))->off+n*z<=cur.size →
  w.heap[vb]? = some (.cells vcur E' (0,0))->vs.length=z->(∀ j v,vs[j]? = some v->w.cell? ⟨vb,voff+j,none⟩=some v)->(∀ v∈vs,v.oneCell'=true)->(∀ v∈iX cur off (n*z),v.oneCell'=true) →
  Calls P F #[.slice (some ⟨b,off,none⟩) n n,.int .i64 i,.slice (some ⟨vb,voff,none⟩) 1 vc] w λe w'=>e = .returned (.slice (some ⟨w.heap.size,0,none⟩) (n+1) (grownCap w (n+1) n E)) ∧
   ∃ w1:World,cS w.drew w1 (λ_=>False)/\w1.heap.size=w.heap.size+1/\w1.heap[w.heap.size]? = some (.cells (sF cur off n i z (grownCap w (n+1) n E) zr) E (0,0))/\w'=w1.setRow w.heap.size (sg cur off n i z (grownCap w (n+1) n E) zr vs)
def D2(u:CT)(E:TypeId)(bs:Nat):Spec:=λbase svs=>match svs with
 | [.own n sz,.int .i64 i,.own q sq]=>match Nat.beq q n with
  | true => .fail
  | false => .ask n fun
   | .live (.row E' u' xs)=>match Nat.beq E' E,Nat.beq sz u.size,hY u' u xs with
    | true,true,some ys=>(uw u (.own q sq)).bind λvs=>.ask base fun
     | .un => .ret (.det [vs.length=1,0<=i,i<=ys.length,(ys.length+1)*bs<=140737488355328] (.own base u.size) [(base,.live (.row E u (ys.take i.toNat++(vs++ys.drop i.toNat)))),(n,.dead)])
     | _ => .fail
    | _,_,_ => .fail
   | _ => .fail
 | _ => .fail
section
variable {P:Program} {w0:World} {N0:fY} {A:Nat->Prop} {env:bc} {h:bR} {w:World}
theorem af3(m:Mod w0 N0 A env h w){t:CT}{n sz:Nat}{v:Value}{ys:List t.D}{r:List Nat}(e:(uw t (.own n sz)).run h=some (ys,r))(hd:aB A env w (.own n sz) v)(h1:ys.length=1) :
  ∃ k l c vcur E',env n = .blk k l/\v = .slice (some ⟨k,l.1,none⟩) 1 c/\w.heap[k]? = some (.cells vcur E' (0,0))/\(∀ n' k' l' b,n'≠n->h n' = .live b->b.mut=true->env n' = .blk k' l'→k≠k') ∧
   Rd A w t (λo=>w.cell? ⟨k,o,none⟩) l.1 (kg t ys 0):=by
 simp only[uw,Q.run] at e
 simp only[aB] at hd
 have fin:∀{b:kJ}{E':TypeId}{zs:List t.D},h n = .live b->(b = .row E' t zs∨b = .frz E' t zs)->zs.length=1 →
   ∃ k l c vcur E',env n = .blk k l/\v = .slice (some ⟨k,l.1,none⟩) 1 c/\w.heap[k]? = some (.cells vcur E' (0,0))/\(∀ n' k' l' b,n'≠n->h n' = .live b->b.mut=true->env n' = .blk k' l'→k≠k') ∧
    Rd A w t (λo=>w.cell? ⟨k,o,none⟩) l.1 (kg t zs 0):=by
  intro b E' zs hl hb hz;rcases hd with⟨hnil,_⟩|⟨k,l,E2,c,hk,hsh,rfl⟩
  .have:=m.nm n;rw[hl] at this;rcases this with⟨k',l',he',_⟩|⟨_,E3,t3,hb3⟩
   .rw[hnil] at he';cases he'
   .rcases hb with rfl|rfl <;> rcases hb3 with hb3|hb3 <;> cases hb3 <;> cases hz
  .have hbd:=m.live_blk hl hk;have hrow:nk A w k l E' t zs:=by
    rcases hb with rfl|rfl
    .exact hbd.1
    .exact hbd.1.2
   have hlen:l.2=1:=by obtain⟨_,_,_,_,h3,_⟩:=hrow;omega
   have hrd:=ye hrow (i:=0) (by omega);obtain⟨vcur,cap,hh,_⟩:=hrow;refine⟨k,l,(c-l.1)/sz,vcur,E',hk,by rw[hlen],hh,?_,by simpa using hrd⟩;intro n' k' l' b' hne hl' hm' he' hkk;subst hkk;rcases hb with rfl|rfl
   .exact hne (m.inj n' n b' _ k l' l hl' hl hm' rfl he' hk)
   .exact (m.live_blk hl' he').2 hm' hbd.1.1
 split at e
 next p q hk=>
  simp only[bp,br] at e;obtain⟨rfl,rfl⟩:=e;split at hk
  .rename_i E' u zs hl;split at hk
   next zs' _ hc=>simp only[Q.run,bp,br] at hk;obtain⟨rfl,_⟩:=hk;obtain⟨et,ey⟩:=jC hc;subst et;simp only at ey;subst ey;exact fin hl (.inl rfl) h1
   .cases hk
  .rename_i E' u zs hl;split at hk
   next zs' _ hc=>simp only[Q.run,bp,br] at hk;obtain⟨rfl,_⟩:=hk;obtain⟨et,ey⟩:=jC hc;subst et;simp only at ey;subst ey;exact fin hl (.inr rfl) h1
   .cases hk
  .cases hk
 .cases e
theorem Qm{u:CT}{xs:List u.D}{y:u.D}{i o:Nat}{row:Nat->Option Value}{cur:Nat->Option Value}{off:Nat}(hi:i<=xs.length)
  (hx:∀ k (hk:k<xs.length),Rd A w u cur (off+k*u.size) xs[k]) {news:Nat->Option Value} (hy:Rd A w u news 0 y)
  (h1:∀ j,j<i*u.size->row (o+j)=cur (off+j)) (h2:∀ j,j<u.size->row (o+i*u.size+j)=news j) (h3:∀ j,j<(xs.length-i)*u.size->row (o+(i+1)*u.size+j)=cur (off+i*u.size+j)) :
  ∀ k (hk:k<(xs.take i++([y]++xs.drop i)).length),Rd A w u row (o+k*u.size) (xs.take i++([y]++xs.drop i))[k]:=by
 intro k hk
 have hl:(xs.take i).length=i:=by rw[cW];omega
 by_cases hki:k<i
 .rw[List.getElem_append_left (by omega)];simp only[List.getElem_take];have hm:(k+1)*u.size<=i*u.size:=lZ _ hki;rw[fN,jH] at hm;refine sW (hx k (by omega)) λj hj=>?_;rw[gW,h1 _ (by omega),gW]
 .rw[List.getElem_append_right (by omega)];simp only[hl];by_cases hke:k=i
  .subst hke;simp only[Nat.sub_self,jS,pH,List.getElem_cons_zero];refine sW hy λj hj=>?_;rw[h2 j hj,gz]
  .obtain⟨q,rfl⟩:∃ q,k=i+1+q:=⟨k-i-1,by omega⟩
   have hq:i+q<xs.length:=by simp at hk;omega
   have hg:([y]++xs.drop i)[i+1+q-i]'(by simp;omega)=xs[i+q]:=by
    simp only[show i+1+q-i=q+1 from by omega,jS,pH,List.getElem_cons_succ,List.getElem_drop]
   rw[hg];have hm:(q+1)*u.size<=(xs.length-i)*u.size:=lZ _ (by omega);rw[fN,jH] at hm;refine sW (hx (i+q) hq) λj hj=>?_;rw[show o+(i+1+q)*u.size+j=o+(i+1)*u.size+(q*u.size+j) from by rw[fN (i+1)];omega,h3 _ (by omega)];congr 1;rw[fN i q];omega
theorem Wm(m:Mod w0 N0 A env h w){tS E ty:TypeId}{zv:Value}{z bs base n sz q sq:Nat}{u:CT}{xs ys:List u.D}{r:List Nat}{sv xv:Value}(hu:P.underlying tS=some (.slice E))(hi:(P.info? E).map (λi=>(i.zero,i.size,i.bytes))=some (some zv,z,bs))(hzr:zv.cells.size=z)(hbs:1<=bs)(hz:z=u.size)
  (hl:h n = .live (.row E u xs)) (hsz:sz=u.size) (hs:(uw u (.own q sq)).run h=some (ys,r)) (hun:h base = .un) (hby:(xs.length+ys.length)*bs<=140737488355328)
  (ds:aB A env w (.own n sz) sv) (dx:aB A env w (.own q sq) xv) :
  ∃ v w',(Builtin.append_ #[tS,tS] ty #[sv,xv]).run P w = .ok v w'∧eO w0 N0 A env h w (.det [] (.own base u.size) [(base,.live (.row E u (xs++ys))),(n,.dead)]) v w':=by
 obtain⟨i0,hi0⟩:∃ i0,P.info? E=some i0:=by
  cases hh:P.info? E with
  | none=>rw[hh] at hi;cases hi
  | some i0=>exact⟨i0,rfl⟩
 rw[hi0] at hi
 simp only[Option.map_some,bp,br] at hi
 obtain⟨hz0,hzs,hzb⟩:=hi
 subst hz hzb hsz
 have run:(Al P tS base (.own n u.size) (.own q sq)).run h=some (.det [(xs.length+ys.length)*i0.bytes<=140737488355328] (.own base u.size) [(base,.live (.row E u (xs++ys))),(n,.dead)],n::(r++[base])):=by
  have he:qW P tS=some (E,u.size):=by unfold qW;rw[hu];simp[gX,hi0,hzs]
  unfold Al;rw[he];simp only[hi0,Nat.ble_eq_true_of_le hbs,hz0,hzr,sP];simp only[Q.run,hl,sP];rw[Q.bind_run1 _ _ hs (b := .det [(xs.length+ys.length)*i0.bytes<=140737488355328] (.own base u.size) [(base,.live (.row E u (xs++ys))),(n,.dead)]) (r2:=[base]) (by simp only[Q.run,hun])]
 let o : Oper := { dst := none, op := .call { callee := .builtin .append, args := #[.tmp 0, .tmp 1], argTypes := #[tS, tS] }, type := ty, pos := "", after := #[], guard := none }
 let a:Act:={tmps := #[sv,xv],defers:=[]}
 have fd:FD A env w (λi=>if i=0 then .own n u.size else if i=1 then .own q sq else .junk) a:=by
  intro i;by_cases h0:i=0
  .subst h0;exact ds
  .by_cases h1:i=1
   .subst h1;exact dx
   .simp only[h0,h1,if_false,aB]
 obtain⟨v,w',hr,g⟩:=Lw (P:=P) (o:=o) (a:=a) (nm:=base) (s := .tmp 0) (x := .tmp 1) (t:=tS) m fd rfl run (by simp only[Dl.pre,bU,iD];exact hby)
 have he:(execOp a.eval o).run P w=((Builtin.append_ #[tS,tS] ty #[sv,xv]).run P w).andThen λv w'=>.ok (.value v) w':=by
  unfold execOp;simp only[o,resolve,invoke,builtin,Sem.run_bind,Sem.run_pure,Result.andThen_ok,List.map_toArray,fK,List.map_nil];rfl
 rw[he] at hr
 cases hb:(Builtin.append_ #[tS,tS] ty #[sv,xv]).run P w with
 | ok v1 w1 =>
  rw[hb] at hr;rcases hr with hr|⟨hr,_⟩
  .cases hr;exact⟨v,w',rfl,g⟩
  .cases hr
 | _=>rw[hb] at hr;rcases hr with hr|⟨hr,_⟩ <;> cases hr
theorem RN{t:CT}{ys:List t.D}(h:ys.length=1):ys=[kg t ys 0]:=by
 match ys,h with
 | [y],_=>rfl
theorem PA{u:CT}{cv:Nat->Option Value}{o:Nat}{xs:List u.D}(hx:∀ i (hi:i<xs.length),Rd A w u cv (o+i*u.size) xs[i]){cur:Array Value}(hc:∀ j,cv j=cur[j]?){a n:Nat}(ha:a+n<=xs.length)(hs:o+(a+n)*u.size<=cur.size) :
  ∀ v∈iX cur (o+a*u.size) (n*u.size),v.oneCell'=true:=by
 obtain⟨news,hl,hcv,h1⟩:=Cz (A:=A) (w:=w) ((xs.drop a).take n) (o+a*u.size) (cv:=cv) (λi hi=>by
  simp only[cW,dR] at hi;have:=hx (a+i) (by omega);simp only[List.getElem_take,List.getElem_drop];rw[gW,← fN];exact this)
 have hln:((xs.drop a).take n).length=n:=by rw[cW,dR];omega
 rw[hln] at hl
 intro v hv
 obtain⟨j,hj,rfl⟩:=List.mem_iff_getElem.1 hv
 have hcl:(iX cur (o+a*u.size) (n*u.size)).length=n*u.size:=yU (by rw[gW,← fN];exact hs)
 have e1:(iX cur (o+a*u.size) (n*u.size))[j]? = news[j]? := by
  rw[wT (by omega),← hc,hcv j (by omega)]
 rw[cF hj] at e1
 exact h1 _ (List.mem_iff_getElem?.2 ⟨j,e1.symm⟩)
theorem WB{G:tG}{F:FuncId}{tS E ty:TypeId}{zv:Value}{z bs:Nat}{u:CT}(raw:Pi P F tS E z bs zv.cells ty)(hu:P.underlying tS=some (.slice E))(hi:(P.info? E).map (λi=>(i.zero,i.size,i.bytes))=some (some zv,z,bs))
  (hzr:zv.cells.size=z) (hbs:1<=bs) (hz:z=u.size):nN P G F (D2 u E bs):=by
 intro base svs h d r e hp w0 N0 A env w vs hg m hd
 unfold D2 at e
 split at e
 case h_2=>cases e
 rename_i n sz i q sq
 split at e
 .cases e
 rename_i hqn
 have hqn:q≠n:=λe=>by rw[e,sP] at hqn;cases hqn
 simp only[Q.run] at e
 split at e
 case h_2=>cases e
 rename_i p0 q0 hk
 simp only[bp,br] at e
 obtain⟨rfl,rfl⟩:=e
 split at hk
 case h_2=>cases hk
 rename_i E' u xs hl
 split at hk
 case h_2=>cases hk
 rename_i ys hE hsz hc
 have hE:E'=E:=bJ hE
 have hsz:=bJ hsz
 obtain⟨et,ey⟩:=jC hc
 subst et hE hsz
 simp only at ey
 subst ey
 obtain⟨vs1,q1,q2,e1,e2,rfl⟩:=Q.run_bind _ _ _ hk
 simp only[Q.run] at e2
 split at e2
 case h_2=>cases e2
 rename_i p' q' hk'
 simp only[bp,br] at e2
 obtain⟨rfl,rfl⟩:=e2
 split at hk'
 case h_2=>cases hk'
 rename_i hun
 cases ck hk'
 simp only[Dl.pre,bU,iD] at hp
 obtain⟨hp1,hp2,hp3,hp4⟩:=hp
 simp only[aS] at hd
 obtain⟨sv,r1,rfl,ds,iv,r2,rfl,di,xv,r3,rfl,dx,rfl⟩:=hd
 have di':=di
 simp only[aB] at di'
 obtain⟨rfl,hii⟩:=di'
 obtain⟨k,l,c,vcur,E2,hkq,rfl,hkc,hkne,hrd⟩:=af3 m e1 dx hp1
 subst hz
 have hlen:∀{ii:Nat},ii=ys.length->ys.take ii++(vs1++ys.drop ii)=ys++vs1:=by
  rintro _ rfl;rw[List.take_length,List.drop_length,ke]
 obtain⟨ii,rfl⟩:=nH hp2
 have hii2:ii<=ys.length:=by omega
 simp only[Int.toNat_natCast]
 have hlast:∀ nn cc pp,ii=ys.length->sv = .slice pp nn cc->nn=ys.length->nn<=cc->cc<=maxLen →
   Calls P F #[sv,.int .i64 (ii:Int),.slice (some ⟨k,l.1,none⟩) 1 c] w λe w'=>∃ v,e = .returned v/\eO w0 N0 A env h w (.det [vs1.length=1,(0:Int)<=(ii:Int),(ii:Int)<=(ys.length:Int),(ys.length+1)*bs<=140737488355328] (.own base u.size) [(base,.live (.row E' u (ys.take ii++(vs1++ys.drop ii)))),(n,.dead)]) v w':=by
  rintro nn cc pp rfl rfl rfl hle hmx;obtain⟨v,w',hr,g⟩:=Wm (ty:=ty) m hu hi hzr hbs rfl hl rfl e1 hun (by rw[hp1];exact hp4) ds dx;refine (raw.last w w' pp (some ⟨k,l.1,none⟩) ys.length cc c v hle hmx hr).mono ?_;rintro e w2 ⟨rfl,rfl⟩;refine⟨v,rfl,?_⟩;rw[hlen rfl];exact g
 have hdn:∀ n'∈[n],∃ b,h n' = .live b/\b.mut=true:=by simp[hl,kJ.mut]
 have ds':=ds
 simp only[aB] at ds'
 rcases ds' with⟨hnil,pa,rfl⟩|⟨b,⟨β,len⟩,E3,cc,hb,hsh,rfl⟩
 .have hx:ys=[]:=by
   have:=m.nm n;rw[hl] at this;rcases this with⟨k',l',he',_⟩|⟨_,E3,t3,hb⟩
   .rw[hnil] at he';cases he'
   .rcases hb with hb|hb <;> cases hb;rfl
  subst hx;exact hlast 0 0 pa (by simpa using hii2) rfl rfl (eZ _) (by simp[maxLen])
 .obtain⟨cur,cap,hh,hcs,hxl,hlc,hcm,hrdx⟩:=(m.live_blk hl hb).1;simp only at hcs hxl hlc hrdx;have hcc:cc=cur.size/\E3=E':=by
   unfold World.shape? at hsh;rw[hh] at hsh;simp only[bp,br] at hsh;exact⟨hsh.2.symm,hsh.1.symm⟩
  obtain⟨rfl,rfl⟩:=hcc;have hcap:(cur.size-β)/u.size=cap:=by rw[hcs,kL];exact qq _ u.size_pos
  have hnA:=(m.live_blk hl hb).2 rfl;simp only[hcap] at hlast ⊢;rcases Nat.lt_or_ge ii ys.length with hlt|hge
  case inr=>exact hlast len cap _ (by omega) rfl hxl.symm hlc hcm
  obtain⟨news,hnl,hnc,hnd⟩:=uD (env:=env) u _ _ _ hrd;have hn1:=BR hnd (Dg _ _);have hnews:∀ j v,news[j]? = some v->w.cell? ⟨k,l.1+j,none⟩=some v:=λj v hj=>by
   rw[hnc j (by rw[← hnl];exact (List.getElem?_eq_some_iff.1 hj).1)];exact hj
  have hry:Rd A w u (λj=>news[j]?) 0 (kg u vs1 0):=sW hrd λj hj=>by rw[gz,hnc j hj]
  have hkb:k≠b:=hkne n b _ _ (Ne.symm hqn) hl rfl hb;have hlz:(len-ii)*u.size+(ii+1)*u.size=(len+1)*u.size:=by rw[← fN];congr 1;omega
  have hiz:(ii+1)*u.size=ii*u.size+u.size:=by rw[fN,jH]
  have hlcz:len*u.size<=cap*u.size:=lZ _ hlc;have hlz1:(len+1)*u.size=len*u.size+u.size:=by rw[fN,jH]
  have hnlen:(ys.take ii++(vs1++ys.drop ii)).length=len+1:=by simp;omega
  have hcutl:(iX cur (β+ii*u.size) ((len-ii)*u.size)).length=(len-ii)*u.size:=yU (by omega);by_cases hroom:len+1<=cap
  .have hroomz:(len+1)*u.size<=cap*u.size:=lZ _ hroom;refine (raw.shift w b β len cap ii k l.1 c cur vcur E2 news (by omega) hroom hcm hkb hh (by omega) hkc hnl hnews hn1 (PA hrdx (λ_=>rfl) (by omega) (by rw[show ii+(len-ii)=len from by omega];omega))).mono ?_;rintro e w' ⟨rfl,rfl⟩;refine⟨_,rfl,?_⟩;have s1:(lh cur (β+(ii+1)*u.size) (iX cur (β+ii*u.size) ((len-ii)*u.size))).size=cur.size:=yh (by rw[hcutl];omega);have s2:(uv cur β len ii u.size news).size=cur.size:=by unfold uv;rw[yh (by rw[s1,hnl];omega),s1]
   have cg:cS w (w.drew.setRow b (uv cur β len ii u.size news)) λj=>j=b:=(cS.drew w _).trans (cS.setRow w.drew b cur _ E3 hh s2);have g:=oO (pre:=[vs1.length=1,(0:Int)<=(ii:Int),(ii:Int)<=(ys.length:Int),(ys.length+1)*bs<=140737488355328]) (v := .slice (some ⟨b,β,none⟩) (len+1) cap) (E:=E3) (t:=u) (zs:=ys.take ii++(vs1++ys.drop ii)) m hun [n] hdn (W:=λj=>j=b) (ev := .blk b (β,len+1)) cg
    (λk hk=>⟨n,(β,len),by simp,hk▸hb⟩) (by simp) (λk l e=>by cases e;exact .inr ⟨n,(β,len),by simp,hb⟩) (λx=>.inr ⟨b,(β,len+1),cur.size,rfl,?_,?_,?_⟩)
   .exact g
   .refine⟨_,cap,setRow_heap w.drew b cur _ E3 _ hh,by rw[s2];exact hcs,hnlen,hroom,hcm,?_⟩;intro k' hk';refine iC (λ_ h=>h) x.keep u _ _ _ _ (λj _=>rfl) ?_;have hv1:=RN hp1;have key:=Qm (A:=A) (w:=w) (u:=u) (xs:=ys) (y:=kg u vs1 0) (i:=ii) (o:=β) (off:=β) (row:=λo=>(uv cur β len ii u.size news)[o]?) (cur:=λo=>cur[o]?) hii2 hrdx hry ?_ ?_ ?_ k' (by rw[← hv1];exact hk')
    .simp only[← hv1] at key;exact key
    .intro j hj;unfold uv
     try simp only
     rw[tg (by rw[s1,hnl];omega),am (by omega),tg (by rw[hcutl];omega),am (by omega)]
    .intro j hj;unfold uv
     try simp only
     rw[tg (by rw[s1,hnl];omega),af (by omega),am (by rw[hnl];omega)];congr 1;omega
    .intro j hj;rw[hxl] at hj;unfold uv
     try simp only
     rw[tg (by rw[s1,hnl];omega),af (by omega),af (by rw[hnl];omega),tg (by rw[hcutl];omega),af (by omega),am (by rw[hcutl];omega),show β+(ii+1)*u.size+j-(β+(ii+1)*u.size)=j from by omega,wT hj]
   .unfold World.shape?;rw[setRow_heap w.drew b cur _ E3 _ hh];simp only[s2]
   .show _=Value.slice _ _ ((cur.size-β)/u.size);rw[hcap]
  .have hcl:cap=len:=by omega
   subst hcl;have hsum:cap+1<=maxLen:=by
    have:(cap+1)*1<=(ys.length+1)*bs:=by rw[hxl];exact Nat.mul_le_mul_left _ hbs
    simp only[maxLen];omega
   refine (raw.grow w b β cap ii k l.1 c cur vcur E2 news (by omega) hsum (by rw[← hxl];exact hp4) hh (by omega) hkc hnl hnews hn1 (by
    have:=PA hrdx (λ_=>rfl) (a:=0) (n:=cap) (cur:=cur) (by omega) (by rw[gz];omega);simpa using this)).mono ?_
   rintro e w' ⟨rfl,w1,cg1,hs1,hh1,rfl⟩;refine⟨_,rfl,?_⟩;have hge:=grownCap_ge w (cap+1) cap E3;have hcm':=grownCap_le_maxLen w (cap+1) cap E3 hsum;generalize grownCap w (cap+1) cap E3=G' at *;have hGz:(cap+1)*u.size<=G'*u.size:=lZ _ hge;have hcut0:(iX cur β (ii*u.size)).length=ii*u.size:=yU (by omega);have s0:(sF cur β cap ii u.size G' zv.cells).size=G'*u.size:=by
    unfold sF;simp only[Array.size_append,pP,hcut0,size_zeroCells,hzr,← fN];congr 1;omega
   have s1:(lh (sF cur β cap ii u.size G' zv.cells) (ii*u.size) news).size=G'*u.size:=by rw[yh (by rw[s0,hnl];omega),s0]
   have s2:(sg cur β cap ii u.size G' zv.cells news).size=G'*u.size:=by unfold sg;rw[yh (by rw[s1,hcutl];omega),s1]
   have cg:cS w (w1.setRow w.heap.size (sg cur β cap ii u.size G' zv.cells news)) λ_=>False:=by
    have c2:=cS.setRow w1 w.heap.size _ (sg cur β cap ii u.size G' zv.cells news) E3 hh1 (by rw[s2,s0]);have c3:=(cS.drew w λ_=>False).trans cg1;exact⟨c2.os.trans c3.os,c2.tape.trans c3.tape,c2.output.trans c3.output,ta c3.size c2.size,
     λi hi hw=>(c2.blk i (Nat.lt_of_lt_of_le hi c3.size) (λe=>by omega)).trans (c3.blk i hi hw),λi s hs=>c2.shape i s (c3.shape i s hs)⟩
   have g:=oO (pre:=[vs1.length=1,(0:Int)<=(ii:Int),(ii:Int)<=(ys.length:Int),(ys.length+1)*bs<=140737488355328]) (v := .slice (some ⟨w.heap.size,0,none⟩) (cap+1) G') (E:=E3) (t:=u) (zs:=ys.take ii++(vs1++ys.drop ii)) m hun [n] hdn (W:=λ_=>False) (ev := .blk w.heap.size (0,cap+1)) cg
    (λ_ h=>h.elim) (by simp) (λk l e=>by cases e;exact .inl (eZ _)) (λx=>.inr ⟨w.heap.size,(0,cap+1),G'*u.size,rfl,?_,?_,?_⟩)
   .exact g
   .refine⟨_,G',setRow_heap w1 w.heap.size _ _ E3 _ hh1,by rw[s2,gz],hnlen,hge,hcm',?_⟩;intro k' hk';refine iC (λ_ h=>h) x.keep u _ _ _ _ (λj _=>rfl) ?_;have hv1:=RN hp1;have key:=Qm (A:=A) (w:=w) (u:=u) (xs:=ys) (y:=kg u vs1 0) (i:=ii) (o:=0) (off:=β) (row:=λo=>(sg cur β cap ii u.size G' zv.cells news)[o]?) (cur:=λo=>cur[o]?) hii2 hrdx hry ?_ ?_ ?_ k' (by rw[← hv1];exact hk')
    .simp only[← hv1] at key;exact key
    .intro j hj;unfold sg
     try simp only
     rw[tg (by rw[s1,hcutl];omega),am (by omega),tg (by rw[s0,hnl];omega),am (by omega)];unfold sF;rw[Array.append_assoc,Array.getElem?_append_left (by simp only[pP,hcut0];omega),List.getElem?_toArray,gz,wT hj]
    .intro j hj;unfold sg
     try simp only
     rw[tg (by rw[s1,hcutl];omega),am (by omega),tg (by rw[s0,hnl];omega),af (by omega),am (by rw[hnl];omega)];congr 1;omega
    .intro j hj;rw[hxl] at hj;unfold sg
     try simp only
     rw[tg (by rw[s1,hcutl];omega),af (by omega),am (by rw[hcutl];omega),show 0+(ii+1)*u.size+j-(ii+1)*u.size=j from by omega,wT hj]
   .unfold World.shape?;rw[setRow_heap w1 w.heap.size _ _ E3 _ hh1];simp only[s2]
   .show _=Value.slice _ _ ((G'*u.size-0)/u.size);rw[Nat.sub_zero,qq _ u.size_pos]
end
end Go.SX
namespace Go.RS
open Go.SX Go.Proofs
set_option maxHeartbeats 4000000
def xg:Value := .agg #[.int .i64 0,.int .i64 0,.int .i64 0,.int .i64 0,.int .i64 0,.slice none 0 0]
section
variable {w:World}
theorem V0:Pi Tryz.prog 133 35 134 6 64 xg.cells 35:=by
 refine⟨?_,?_,?_⟩
 .intro w w' p q n c vc v hn hc hr;have hz:(Go.sizeOf 134).run Tryz.prog w = .ok 6 w:=kP uS w;unfold maxLen at hc;cases p <;> go_enter Tryz.func133,Tryz.ntmps133 <;>
  go_wp2_with (at_builtin;refine Lib.wpList_append_run _ rfl _ _ _ _ rfl _ _ rfl rfl _ _ hr ?_)
  all_goals (go_ret;exact⟨rfl,rfl⟩)
 .intro w b off n c i vb voff vc cur vcur E' vs hi hn hc hvb hb hf hv hvl hvs h1v h1c;have hz:∀ w,(Go.sizeOf 134).run Tryz.prog w = .ok 6 w:=λw=>kP uS w;have mixed:Tryz.prog.follows .mixedOrders=true:=qk;unfold maxLen at hc;have hsa:w.shape? vb=some (E',vcur.size):=by unfold World.shape?;rw[hv]
  have hsb:w.shape? b=some (134,cur.size):=by unfold World.shape?;rw[hb]
  have hfa:w.frozen? ⟨vb,voff,none⟩=false:=by simp[World.frozen?,hv]
  have hfe:w.frozen? ⟨vb,vcur.size,none⟩=false:=by simp[World.frozen?,hv]
  have hov:∀ lb cb o,(callFunc 185 #[.slice (some ⟨vb,voff,none⟩) 1 vc,.slice (some ⟨b,o,none⟩) lb cb]).run Tryz.prog w = .ok (.value (.bool false)) w:=λlb cb o=>by
   rw[run_callFunc_extern Tryz.func185 uS uS uS (e:=Extern.SlicesOverlaps.overlaps #[35,35] #[4]) uS,
    Lib.run_overlaps_apart w 35 4 134 Tryz.underlying35 6 hz ⟨vb,voff,none⟩ ⟨b,o,none⟩ 1 vc lb cb hvb E' 134 vcur.size cur.size hsa hsb ab hfa hfe]
   rfl
  have hw1:IntKind.i64.wrap ((i:Int)+1)=(i:Int)+1:=by rw[IntKind.wrap_i64];omega
  have hw2:IntKind.i64.wrap ((n:Int)+1)=(n:Int)+1:=by rw[IntKind.wrap_i64];omega
  have hz2:¬ ((i:Int)=(n:Int)):=ab;have htn:((i:Int)+1).toNat=i+1:=ab;have htm:((n:Int)+1).toNat=n+1:=ab;have hb1:(0:Int)<=(i:Int)+1:=ab;have hb2:¬ (c=i+1):=ab;have hb3:(i:Int)<=(n:Int)+1:=ab;have hb4:¬ (c=i):=ab;have hin:i<=n:=ab;have e1:(i+1)*6=i*6+6:=ab;have hcl:(iX cur (off+i*6) ((n-i)*6)).length=(n-i)*6:=yU ab;have hsz:(Tryz.prog.info? 134).map (·.size)=some 6:=by kernel_rfl
  have hcp1:(Builtin.copy_ #[35,35] 3 #[.slice (some ⟨b,off+(i+1)*6,none⟩) (n-i) (c-(i+1)),.slice (some ⟨b,off+i*6,none⟩) (n+1-i) (c-i)]).run Tryz.prog w.drew =
    .ok (goInt ((n-i:Nat):Int)) (w.drew.setRow b (lh cur (off+(i+1)*6) (iX cur (off+i*6) ((n-i)*6)))):=by
   have h:=Dv (P:=Tryz.prog) w.drew 35 35 3 134 6 b (off+(i+1)*6) (n-i) (c-(i+1)) ⟨b,off+i*6,none⟩ (n+1-i) (c-i) cur 134 (iX cur (off+i*6) ((n-i)*6)) Tryz.underlying35 hsz hb
    (by rw[hcl];simp only[Nat.min_def];split <;> omega)
    (λj v hj=>by
     have hj':=(List.getElem?_eq_some_iff.1 hj).1;rw[hcl] at hj';rw[wT hj'] at hj;rw[Addr.add_lit,cell_of_row w.drew b _ cur 134 (0,0) hb];exact hj)
    (by rw[hcl];omega) h1c
   have hm:Nat.min (n+1-i) (n-i)=n-i:=by simp only[Nat.min_def];split <;> omega
   rw[hm] at h;exact h
  have hr1:(lh cur (off+(i+1)*6) (iX cur (off+i*6) ((n-i)*6))).size=cur.size:=yh (by rw[hcl];omega);have hcp2:(Builtin.copy_ #[35,35] 3 #[.slice (some ⟨b,off+i*6,none⟩) (n+1-i) (c-i),.slice (some ⟨vb,voff,none⟩) 1 vc]).run Tryz.prog (w.drew.setRow b (lh cur (off+(i+1)*6) (iX cur (off+i*6) ((n-i)*6)))) =
    .ok (goInt 1) (w.drew.setRow b (uv cur off n i 6 vs)):=by
   have h:=Dv (P:=Tryz.prog) (w.drew.setRow b (lh cur (off+(i+1)*6) (iX cur (off+i*6) ((n-i)*6)))) 35 35 3 134 6 b (off+i*6) (n+1-i) (c-i) ⟨vb,voff,none⟩ 1 vc _ 134 vs Tryz.underlying35 hsz
    (setRow_heap w.drew b cur _ 134 (0,0) hb)
    (by rw[hvl];simp only[Nat.min_def];split <;> omega)
    (λj v hj=>by
     rw[Addr.add_lit,cell_setRow_other _ _ _ _ hvb];exact hvs j v hj)
    (by rw[hr1,hvl];omega) h1v
   have hm:Nat.min 1 (n+1-i)=1:=by simp only[Nat.min_def];split <;> omega
   rw[hm,setRow_setRow] at h;exact h
  clear e1 hcl hr1
  go_enter Tryz.func133,Tryz.ntmps133
  go_wp2_with (simp only[hov])
  go_region
  go_wp2
  all_goals (go_ret;exact⟨rfl,rfl⟩)
 .intro w b off n i vb voff vc cur vcur E' vs hi hn hby hb hf hv hvl hvs h1v h1c;have hz:∀ w,(Go.sizeOf 134).run Tryz.prog w = .ok 6 w:=λw=>kP uS w;have mixed:Tryz.prog.follows .mixedOrders=true:=qk;have hx:(Tryz.prog.info? 134).map (λi=>(i.zero,i.size,i.bytes))=some (some xg,6,64):=by kernel_rfl
  obtain⟨i0,hi0⟩:∃ i0,Tryz.prog.info? 134=some i0:=by
   cases hh:Tryz.prog.info? 134 with
   | none=>rw[hh] at hx;cases hx
   | some i0=>exact⟨i0,rfl⟩
  rw[hi0] at hx;simp only[Option.map_some,bp,br] at hx;obtain⟨hz0,hzs,hzb⟩:=hx;have hsz:(Tryz.prog.info? 134).map (·.size)=some 6:=by kernel_rfl
  have hbw:b<w.heap.size:=(Array.getElem?_eq_some_iff.1 hb).1;have hvw:vb<w.heap.size:=(Array.getElem?_eq_some_iff.1 hv).1;have hni:i*6+(n-i)*6=n*6:=by rw[← fN];congr 1;omega
  have hil:(iX cur off (i*6)).length=i*6:=yU ab;have hcl:(iX cur (off+i*6) ((n-i)*6)).length=(n-i)*6:=yU ab;have hold:(Builtin.firstCells i0.size i (.slice (some ⟨b,off,none⟩) i n)).run Tryz.prog w.drew = .ok (iX cur off (i*6)).toArray w.drew:=by
   rw[hzs];exact run_firstCells_some w.drew 6 i ⟨b,off,none⟩ i n (iX cur off (i*6)) hil (λj v hj=>by
    have hj':=(List.getElem?_eq_some_iff.1 hj).1;rw[hil] at hj';rw[wT hj'] at hj;rw[Addr.add_lit,cell_of_row w.drew b _ cur 134 (0,0) hb];exact hj)
  have hGn:n+1<=grownCap w (n+1) n 134:=grownCap_ge w _ _ _;have hG63:=grownCap_le_maxLen w (n+1) n 134 hn;have hrz:(Builtin.append_ #[35,3] 35 #[.slice (some ⟨b,off,none⟩) i n,.int .i64 ((n:Int)+1-(i:Int))]).run Tryz.prog w =
    .ok (.slice (some ⟨w.heap.size,0,none⟩) (n+1) (grownCap w (n+1) n 134)) (w.drew.alloc (.cells (sF cur off n i 6 (grownCap w (n+1) n 134) xg.cells) 134)):=by
   have h:=Lib.run_append_grow_zeros w 35 3 35 134 i0 _ .i64 .i64 Tryz.underlying35 Tryz.underlying3 hi0 hz0 (some ⟨b,off,none⟩) i n (iX cur off (i*6)) hold (n+1-i) ab ab ab (by unfold maxLen at hn;omega) (by rw[hzb];omega)
    (by rw[show i+(n+1-i)=n+1 from by omega];exact growslice_fits ab (by rw[hzb];exact hby))
   rw[show i+(n+1-i)=n+1 from by omega] at h;rw[show (n:Int)+1-(i:Int)=((n+1-i:Nat):Int) from by omega];exact h
  generalize hG:grownCap w (n+1) n 134=G at *;have hrs:(sF cur off n i 6 G xg.cells).size=G*6:=by
   unfold sF;simp only[Array.size_append,pP,hil,size_zeroCells];have:xg.cells.size=6:=rfl;rw[this,← fN,← fN];congr 1;omega
  generalize hROW:sF cur off n i 6 G xg.cells=ROW at *;have hgN:(w.drew.alloc (.cells ROW 134)).heap[w.heap.size]? = some (.cells ROW 134 (0,0)):=heap_alloc_new w.drew _;have hG6:(n+1)*6<=G*6:=lZ _ hGn;have e1:(i+1)*6=i*6+6:=ab;have hr1:(lh ROW (i*6) vs).size=G*6:=by rw[yh (by rw[hrs,hvl];omega),hrs]
  have hcp1:(Builtin.copy_ #[35,35] 3 #[.slice (some ⟨w.heap.size,i*6,none⟩) (n+1-i) (G-i),.slice (some ⟨vb,voff,none⟩) 1 vc]).run Tryz.prog (w.alloc (.cells ROW 134)).drew =
    .ok (goInt 1) ((w.alloc (.cells ROW 134)).drew.setRow w.heap.size (lh ROW (i*6) vs)):=by
   have h:=Dv (P:=Tryz.prog) (w.drew.alloc (.cells ROW 134)) 35 35 3 134 6 w.heap.size (i*6) (n+1-i) (G-i) ⟨vb,voff,none⟩ 1 vc _ 134 vs Tryz.underlying35 hsz hgN
    (by rw[hvl];simp only[Nat.min_def];split <;> omega)
    (λj v hj=>by
     rw[Addr.add_lit,World.cell?_alloc_past (w:=w.drew) _ vb _ hvw];exact hvs j v hj)
    (by rw[hrs,hvl];omega) h1v
   have hm:Nat.min 1 (n+1-i)=1:=by simp only[Nat.min_def];split <;> omega
   rw[hm] at h;exact h
  have hcp2:(Builtin.copy_ #[35,35] 3 #[.slice (some ⟨w.heap.size,(i+1)*6,none⟩) (n-i) (G-(i+1)),.slice (some ⟨b,off+i*6,none⟩) (n-i) (n-i)]).run Tryz.prog ((w.alloc (.cells ROW 134)).drew.setRow w.heap.size (lh ROW (i*6) vs)).drew =
    .ok (goInt ((n-i:Nat):Int)) ((w.alloc (.cells ROW 134)).drew.drew.setRow w.heap.size (lh (lh ROW (i*6) vs) ((i+1)*6) (iX cur (off+i*6) ((n-i)*6)))):=by
   have h:=Dv (P:=Tryz.prog) ((w.alloc (.cells ROW 134)).drew.setRow w.heap.size (lh ROW (i*6) vs)).drew 35 35 3 134 6 w.heap.size ((i+1)*6) (n-i) (G-(i+1)) ⟨b,off+i*6,none⟩ (n-i) (n-i) _ 134 (iX cur (off+i*6) ((n-i)*6)) Tryz.underlying35 hsz
    (setRow_heap _ w.heap.size _ _ 134 (0,0) hgN)
    (by rw[hcl];simp only[Nat.min_def];split <;> omega)
    (λj v hj=>by
     have hj':=(List.getElem?_eq_some_iff.1 hj).1;rw[hcl] at hj';rw[wT hj'] at hj;show World.cell? ((w.drew.alloc (.cells ROW 134)).setRow w.heap.size (lh ROW (i*6) vs)) _=_;rw[Addr.add_lit,cell_setRow_other _ _ _ _ (by show b≠w.heap.size;omega),World.cell?_alloc_past (w:=w.drew) _ b _ hbw,cell_of_row w.drew b _ cur 134 (0,0) hb];exact hj)
    (by rw[hr1,hcl];omega) (λv hv=>h1c v (by
     unfold iX at hv ⊢;rw[← List.drop_drop] at hv;have e2:take ((n-i)*6) (drop (i*6) (drop off cur.toList))=drop (i*6) (take (n*6) (drop off cur.toList)):=by
      rw[List.drop_take];congr 1;omega
     rw[e2] at hv;exact uW hv))
   have hm:Nat.min (n-i) (n-i)=n-i:=by simp only[Nat.min_def];split <;> omega
   rw[hm] at h;have hs2:∀(W:World)(g:Nat)(a b:Array Value),(W.setRow g a).drew.setRow g b=W.drew.setRow g b:=λW g a b=>setRow_setRow W.drew g a b;rw[hs2] at h;exact h
  have hz2:¬ ((i:Int)=(n:Int)):=ab;have hw1:IntKind.i64.wrap ((i:Int)+1)=(i:Int)+1:=by rw[IntKind.wrap_i64];unfold maxLen at hn;omega
  have hw2:IntKind.i64.wrap ((n:Int)+1)=(n:Int)+1:=by rw[IntKind.wrap_i64];unfold maxLen at hn;omega
  have hz3:(n:Int)<(n:Int)+1:=ab;have hGi:¬ (G=i):=ab;have hGim:¬ (G=i+1):=ab;have hci:¬ (n=i):=ab;have hb1:(0:Int)<=(i:Int)+1:=ab;have hin:i<=n:=ab;have htn:((i:Int)+1).toNat=i+1:=ab;have hb3:(i:Int)<=(n:Int):=ab;have hiG:i<=n+1:=ab;unfold maxLen at hn hG63;clear e1 hr1 hG6 hil hcl hni hrs hgN hold hGn
  go_enter Tryz.func133,Tryz.ntmps133
  go_wp2_with (at_builtin;refine Lib.wpList_append_run _ rfl _ _ _ _ rfl _ _ rfl rfl _ _ hrz ?_)
  go_region
  go_wp2
  all_goals (go_ret;exact⟨rfl,(w.alloc (.cells ROW 134)).drew.drew,((cS.alloc w.drew _ _).trans (cS.drew _ _)),aC,heap_alloc_new w.drew _,by unfold sg;rw[hROW]⟩)
end
def TO:Go.SX.Spec:=D2 jM 134 64
theorem ah9:aD 133 TO:=by
 show nN Tryz.prog GL 133 (D2 jM 134 64)
 exact WB (u:=jM) (zv:=xg) V0 Tryz.underlying35 uS rfl bi rfl
end Go.RS
namespace Go.RS
open Go.SX Go.Proofs
def zp{α:Type}(q:α->Bool)(l:List α):Int:=if l.findIdx q<l.length then (l.findIdx q:Int) else -1
theorem aG4{α:Type}{q:α->Bool}{l:List α}:decide (0<=zp q l)=l.any q:=by
 unfold zp
 cases h:l.any q with
 | true =>
  rw[am (List.findIdx_lt_length_of_exists (by simpa using h))];exact dM ab
 | false =>
  have:l.findIdx q=l.length:=List.findIdx_eq_length_of_false (by simpa using h);rw[af ab];rfl
theorem xE{a b:Int}(h:a≠0):a=ml a b:=by unfold ml;rw[am h]
theorem pX{a b:Int}(h:a=0):ml a b=b:=by unfold ml;rw[af (λk=>k h)]
def Q1:Ct:=⟨[.agg gS],[.val cI],λd=>[],λd=>((ku d.1,()),())⟩
def Vd:bu Q1.ps->bS:=(λd=>{loops:=(bm 2 (λS=>{ι:=Int,μ:=λi=>(d.1.1.length-i).toNat,inv:=λi=>0<=i/\i<=d.1.1.length/\first (jY d.1) i.toNat=0,keep:=[1,9,10],slots:=λi=>[(11,.int .i64 i)],keepN:=[32]}) (bm 8 (λS=>{ι:=Int,μ:=λi=>((bq (d.1.1.getD (S.i 11).toNat default)).length-i).toNat,inv:=λi=>0<=i/\i<=(bq (d.1.1.getD (S.i 11).toNat default)).length∧∀ k∈(bq (d.1.1.getD (S.i 11).toNat default)).take i.toNat,mh d.1 (S.i 11).toNat k=false,keep:=[1,3,9,10,11,22,23],slots:=λi=>[(24,.int .i64 i)],keepN:=[32,368]}) ci))})
def qd(a:List ar)(d:Int) :=
 ((length (bq (ah a d))):Int)
def zd(a:List ar)(b:List aN)(c:List aT) :=
 (a.length<=maxLen/\ ∀(d:ar),d∈a->CT.wf bN d)/\(b.length<=maxLen/\ ∀(d:aN),d∈b->CT.wf gh d)/\c.length<=maxLen/\ ∀(d:aT),d∈c->CT.wf ft d
theorem aU7 :
 ∀(a:List ar)(b:List aN)(c:List aT),(zd a b c)/\True->True->(∃(d:Int),(0<=d/\d<=(ac a)/\first (jY (a,b,c)) d.toNat=0)/\a=a/\(ac a)=(ac a)/\0=d/\a=a/\b=b/\c=c/\True)/\ ∀(d:Int),0<=d/\d<=(ac a)/\first (jY (a,b,c)) d.toNat=0->ao (decide (d<(ac a))) (0<=d/\d<(ac a)/\ao (! decide (dN (ah a d)=0)) (dN (ah a d)=ku (a,b,c)) (length (aA (ah a d))<=(100000:Nat)/\(∃(e:Int),(0<=e/\e<=(qd a d)/\ ∀(f:Int),f∈take e.toNat (bq (ah a d))->mh (a,b,c) d.toNat f=false)/\d=d/\a=a/\(ac a)=(ac a)/\d=d/\(qd a d)=(qd a d)/\0=e/\a=a/\b=b/\c=c/\bq (ah a d)=bq (ah a d)/\True)/\ ∀(e:Int),(0<=e/\e<=(qd a d)/\ ∀(f:Int),f∈take e.toNat (bq (ah a d))->mh (a,b,c) d.toNat f=false)->ao (decide (e<(qd a d))) (0<=e/\e<(qd a d)/\ ∀(f:Bool),f=decide ((ac b)<=getD (bq (ah a d)) e.toNat default)->(ae (! f))/\((! f)->(aq (!
 f))/\(aq (! f))/\0<=getD (bq (ah a d)) e.toNat default/\getD (bq (ah a d)) e.toNat default<(ac b)/\True)/\(ae (! f))/\(ae (! f))/\((! f)->(aq (! f))/\(aq (! f))/\True)/\(ae (! f))/\ ∀(g:Bool),g= ! decide ((ah b (getD (bq (ah a d)) e.toNat default)).1=d)->(ae (! f&&g))/\((! f&&g)->(aq (! f&&g))/\(aq (! f&&g))/\0<=getD (bq (ah a d)) e.toNat default/\getD (bq (ah a d)) e.toNat default<(ac b)/\True)/\(ae (! f&&g))/\(ae (! f&&g))/\((! f&&g)->(aq (! f&&g))/\(aq (! f&&g))/\True)/\((! f)->(aq (! f))/\(g->(! f&&g))/\True)/\(aF f)/\ao (bif f then true else bif g then ! decide ((ah b (getD (bq (ah a d)) e.toNat default)).2.1=d) else false) (11=ku (a,b,c)) (∃(h:Int),(0<=h/\h<=(qd a d)/\ ∀(i:Int),i∈take h.toNat (bq (ah a d))->mh (a,b,c) d.toNat i=false)/\toNat ((qd a d) -h)<toNat ((qd a d)
 -e)/\d=d/\a=a/\(ac a)=(ac a)/\d=d/\(qd a d)=(qd a d)/\ai (e+1)=h/\a=a/\b=b/\c=c/\bq (ah a d)=bq (ah a d)/\True)) (∃(f:Int),(0<=f/\f<=(ac a)/\first (jY (a,b,c)) f.toNat=0)/\toNat ((ac a) -f)<toNat ((ac a) -d)/\a=a/\(ac a)=(ac a)/\ai (d+1)=f/\a=a/\b=b/\c=c/\True))) (0=ku (a,b,c)):=by
  delta qd zd ae aq aF ai ah ac;rintro ns ls hs ⟨⟨⟨hnl,-⟩,⟨hl,-⟩,-⟩,-⟩ -;simp only[maxLen] at hl hnl;refine⟨⟨0,⟨ab,ab,rfl⟩,aM⟩,?_⟩;rintro i ⟨i0,i1,hf⟩;refine av (λhi=>?_) (λhi=>?_)
  rotate_left
  .have hi:=aO hi;rw[show i.toNat=ns.length by omega] at hf;exact hf.symm
  have hi:=aL hi;have ei:((i.toNat:Nat):Int)=i:=ab;have hit:=λh=>Ai (f:=jY (ns,ls,hs)) (n:=ns.length) i0 hi hf h;refine⟨i0,hi,av (λh=>?_) (λh=>?_)⟩
  .have h:=fQ h;have e:jY (ns,ls,hs) i.toNat=dN (ns.getD i.toNat default):=am h;have k:=hit (by rw[e];exact h);rw[e] at k;exact k
  have h:=gH h;have nv:=GK h;have k0:=Py nv.bad;have hlen:(bq (ns.getD i.toNat default)).length=(aA (ns.getD i.toNat default)).length:=by simp[bq]
  have n32:=nv.len;refine⟨ab,⟨0,⟨ab,ab,aC⟩,aM⟩,?_⟩;rintro j ⟨j0,j1,hj⟩;refine av (λhk=>?_) (λhk=>?_)
  rotate_left
  .have hk:=aO hk;rw[dm ab] at hj;refine⟨i+1,⟨ab,ab,xD i0 hf ?_⟩,ab,aM⟩;unfold jY;rw[af (λq=>q h),af];intro q;obtain⟨k,hk,q⟩:=List.any_eq_true.1 q;rw[hj k hk] at q;cases q
  have hk:=aL hk;have hm:=bW j0 hk;have dG:=λh=>nY j0 hk hj h (P:=λk=>mh (ns,ls,hs) i.toNat k=false);have kk:=k0 _ hm;refine⟨j0,hk,?_⟩;generalize (bq (ns.getD i.toNat default)).getD j.toNat default=k at hm dG kk ⊢;intro b hb
  (repeat refine⟨(by first|(simp;done)|exact λh=>⟨λ_=>h,λ_=>h,kk,by rw[hb] at h;have:=fQ h;omega,bv⟩),?_⟩);intro b1 hb1
  (repeat refine⟨(by first|(simp;done)|(simp +contextual;done)|exact λh=>⟨λ_=>h,λ_=>h,kk,by rw[hb] at h;have:=fQ (Bool.and_eq_true_iff.1 h).1;omega,bv⟩),?_⟩);have tot:(bif b then true else bif b1 then !decide ((ls.getD k.toNat default).2.1=i) else false)=mh (ns,ls,hs) i.toNat k:=by
   rw[hb,hb1];unfold mh lA lB;rw[ei];cases decide ((ls.length:Int)<=k) <;> cases decide ((ls.getD k.toNat default).1=i) <;> cases decide ((ls.getD k.toNat default).2.1=i) <;> rfl
  rw[tot];refine av (λht=>?_) (λht=>?_)
  .have e:jY (ns,ls,hs) i.toNat=11:=by
    unfold jY;rw[af (λq=>q h),am (List.any_eq_true.2 ⟨_,hm,ht⟩)]
   have q:=hit (by rw[e];decide);rw[e] at q;exact q
  .exact⟨j+1,⟨ab,ab,dG ht⟩,ab,aM⟩
theorem aH7:aD 96 Q1.spec:=aH Tryz.func96 (au (au aE am9) RJ) Vd aU7
def ab9:Ct:=⟨[.val (.sl cJ),.agg ft],[.own 93 cJ],λd=>[cK d.1,okL d.1,((dB d.2.1).2.1.length:Int)<=1099511627776],λd=>((fT d.1 d.2.1,()),())⟩
def ze(a:List aG) :=
 a.length<=maxLen/\ ∀(c:aG),c∈a->((0<=c.1.1/\c.1.1<=4294967295)/\aj c.1.2)/\(c.2.1.length<=maxLen/\ ∀(d:Int),d∈c.2.1->aj d)/\aj c.2.2
theorem S4 :
 ∀(a:List aG)(b:aT),(ze a)/\CT.wf ft b/\True->cK a/\okL a/\((length (dB b).2.1):Int)<=1099511627776->ao b.2.2.1 (cK a/\okL a/\jl a b.2.2.2.1=fT a b) (cK a/\okL a/\(ac b.2.2.2.2.1)<=1099511627776/\f6 a b.2.2.2=fT a b):=by
  delta ze ac;rintro l c-⟨hs,hl,hx⟩;unfold fT;rw[show c.2.2.1=o8 c from rfl];refine av (λh=>⟨hs,hl,?_⟩) (λh=>⟨hs,hl,hx,?_⟩)
  .rw[am h];rfl
  .rw[af (by rw[h];decide)];rfl
theorem aR0:aD 152 ab9.spec:=aH Tryz.func152 (au (au aE Lq) Mc) aR S4
def mX(p:d8)(r:Rt):Bool:=decide (r.1=p)
def Zv:Ct:=⟨[.agg cJ,.box 118 ft],[.val .bool],λ_=>[],λd=>((mX (dB d.2.1).1 d.1,()),(d.2.1,()))⟩
theorem az9 :
 ∀(a b:Int)(c:ad)(d:Int)(e:aT),(((0<=a/\a<=4294967295)/\aj b)/\(c.length<=maxLen/\ ∀(f:Int),f∈c->aj f)/\aj d)/\CT.wf ft e/\True->True->(decide (a=e.2.2.2.1.1)&&(decide (b=e.2.2.2.1.2)&&true))=mX (dB e).1 ((a,b),c,d)/\e=e:=by
  rintro a n nx b c - -;refine⟨?_,rfl⟩;rw[sY];simp[mX,Prod.ext_iff,dB]
theorem UZ:aD 168 Zv.spec:=aH Tryz.func168 aE aR az9
def N6:Ct:=⟨[.val (.sl cJ),.fn 168 1,.box 118 ft],[.val cI],λ_=>[],λd=>((zp (mX (dB d.2.2.1).1) d.1,()),(d.2.2.1,()))⟩
def WD:bu N6.ps->bS:=(λd=>{loops:=(bm 2 (λS=>{ι:=Int,μ:=λi=>(d.1.length-i).toNat,inv:=λi=>0<=i/\i<=d.1.length∧∀ x∈d.1.take i.toNat,mX (dB d.2.2.1).1 x=false,keep:=[0,1,6,7],slots:=λi=>[(8,.int .i64 i)],keepN:=[1048576]}) ci)})
def Ic(b:aT) :=
 b.1=b.1/\b.2.1=b.2.1/\b.2.2.1=b.2.2.1/\b.2.2.2.1.1=b.2.2.2.1.1/\b.2.2.2.1.2=b.2.2.2.1.2/\b.2.2.2.2.1=b.2.2.2.2.1/\b.2.2.2.2.2=b.2.2.2.2.2/\True
theorem TJ :
 ∀(a:List aG)(b:aT),(ze a)/\True/\CT.wf ft b/\True->True->(∃(c:Int),(0<=c/\c<=(ac a)/\ ∀(d:aG),d∈take c.toNat a->mX (dB b).1 d=false)/\a=a/\a=a/\(ac a)=(ac a)/\0=c/\(Ic b))/\ ∀(c:Int),(0<=c/\c<=(ac a)/\ ∀(d:aG),d∈take c.toNat a->mX (dB b).1 d=false)->ao (decide (c<(ac a))) (0<=c/\c<(ac a)/\ao (mX b.2.2.2.1 (ah a c)) (c=zp (mX (dB b).1) a/\b=b) (∃(d:Int),(0<=d/\d<=(ac a)/\ ∀(e:aG),e∈take d.toNat a->mX (dB b).1 e=false)/\toNat ((ac a) -d)<toNat ((ac a) -c)/\a=a/\a=a/\(ac a)=(ac a)/\ai (c+1)=d/\(Ic b))) (-1=zp (mX (dB b).1) a/\b=b):=by
  delta ze Ic ai ah ac;rintro l c ⟨⟨hl,-⟩,-⟩ -;simp only[maxLen] at hl;refine⟨⟨0,⟨ab,ab,aC⟩,aM⟩,?_⟩;rintro j ⟨j0,j1,hj⟩;refine bt (λhk=>?_) (λhk=>?_)
  .refine⟨j0,hk,av (λhm=>?_) (λhm=>?_)⟩
   .exact⟨xY j0 hk hj hm,rfl⟩
   .exact⟨j+1,⟨ab,ab,nY j0 hk hj hm⟩,ab,aM⟩
  .exact⟨zO hk hj,rfl⟩
theorem al7:aD 213 N6.spec:=aH Tryz.func213 (au aE UZ) WD TJ
def Vc:Ct:=⟨[.val (.sl cJ),.fn 168 1,.box 118 ft],[.val .bool],λ_=>[],λd=>((d.1.any (mX (dB d.2.2.1).1),()),(d.2.2.1,()))⟩
theorem Vf :
 ∀(a:List aG)(b:aT),(ze a)/\True/\CT.wf ft b/\True->True->decide (0<=zp (mX b.2.2.2.1) a)=List.any a (mX (dB b).1)/\b=b:=by
  delta ze;rintro l c - -;exact⟨aG4,rfl⟩
theorem TL:aD 167 Vc.spec:=aH Tryz.func167 (au aE al7) aR Vf
theorem Sx{l:List Rt}{p:d8}:l.any (mX p)=mz l p:=by rw[YZ,sY];simp[mX]
theorem OW{ns:List ar}{j:Nat}(h:j<ns.length):((ns.take j).map bf++replicate (ns.length-j) []).set j (bf (ns.getD j default))=(ns.take (j+1)).map bf++replicate (ns.length-(j+1)) []:=by
 have e1:((ns.take j).map bf).length=j:=by simp;omega
 rw[show ns.length-j=(ns.length-(j+1))+1 by omega,List.replicate_succ,List.set_append_right _ _ ab,e1,Nat.sub_self,List.set_cons_zero,uo h,lr,ce,cF h]
 simp
theorem Pg(n:cC){j:Int}(j0:0<=j):ie n j.toNat=mC n j.toNat (n.2.2.getD j.toNat default) (n.2.2.getD (j-1).toNat default) ((dD n j.toNat).getD (bI (n.2.2.getD j.toNat default)).toNat default):=by
 unfold ie;rw[show (j-1).toNat=j.toNat-1 by omega]
def QF:Ct:=⟨[.agg gS],[.val cI],λd=>[ku d.1=0,d.1.1.length<=64,∀ c∈d.1.2.2,((dB c).2.1.length:Int)<=1099511627776],λd=>((ld d.1,()),())⟩
def SM:bu QF.ps->bS:=(λd=>{loops:=(bm 3 (λS=>{ι:=Int×(List (List Rt)),qn:=fj,μ:=λi=>(d.1.1.length-i.1).toNat,inv:=λi=>0<=i.1/\i.1<=d.1.1.length/\i.2=(d.1.1.take i.1.toNat).map bf++replicate (d.1.1.length-i.1.toNat) [],keep:=[1,15,16],slots:=λi=>[(3,.own 524288 1),(17,.int .i64 i.1)],keepN:=[32],names:=λi=>[(524288,.live (.row 99 (.sl cJ) i.2))]}) (bm 8 (λS=>{ι:=Int×(List (List Rt)),qn:=fj,μ:=λi=>(d.1.2.2.length-i.1).toNat,inv:=λi=>0<=i.1/\i.1<=d.1.2.2.length/\first (ie d.1) i.1.toNat=0/\i.2=dD d.1 i.1.toNat,keep:=[1,29,30],slots:=λi=>[(3,.own 524288 1),(31,.int .i64 i.1)],keepN:=[32],names:=λi=>[(524288,.live (.row 99 (.sl cJ) i.2))]}) ci))})
def rU(c:List aT)(f:Int) :=
 toNat (ah c f).2.1
def FE(a:List ar)(b:List aN)(c:List aT)(f:Int)(g:List (List Rt)) :=
 cK (g.getD (rU c f) default)/\okL (g.getD (rU c f) default)/\((length (ah c f).2.2.2.2.1):Int)<=1099511627776/\0<=(ah c f).2.1/\(ah c f).2.1<(ac a)/\length (aA (a.getD (rU c f) default))<=(100000:Nat)/\ao (! decide (dJ (fT (g.getD (rU c f) default) (ah c f)) (bq (a.getD (rU c f) default))=0)) (dJ (fT (g.getD (rU c f) default) (ah c f)) (bq (a.getD (rU c f) default))=ld (a,b,c)) (0<=(ah c f).2.1/\(ah c f).2.1<(ac g)/\ ∃(j:Int) (k:List (List Rt)),(0<=j/\j<=(ac c)/\first (ie (a,b,c)) j.toNat=0/\k=dD (a,b,c) j.toNat)/\toNat ((ac c) -j)<toNat ((ac c) -f)/\c=c/\(ac c)=(ac c)/\ai (f+1)=j/\a=a/\b=b/\c=c/\set g (rU c f) (fT (g.getD (rU c f) default) (ah c f))=k/\True)
def By(c:List aT) :=
 ∀(d:aT),d∈c->((length (dB d).2.1):Int)<=1099511627776
theorem at1 :
 ∀(a:List ar)(b:List aN)(c:List aT),(zd a b c)/\True->(ku (a,b,c)=0/\a.length<=(64:Nat)/\ (By c))->0<=(ac a)/\(ac a)<=(ac a)/\(↑(24:Nat):Int)*(ac a)<=281474976710656/\(∃(d:Int) (e:List (List Rt)),(0<=d/\d<=(ac a)/\e=List.map bf (take d.toNat a)++replicate (a.length -d.toNat) ([]:List aG))/\a=a/\(ac a)=(ac a)/\0=d/\a=a/\b=b/\c=c/\replicate (toNat (ac a)) ([]:List aG)=e/\True)/\ ∀(d:Int)(e:List (List Rt)),0<=d/\d<=(ac a)/\e=List.map bf (take d.toNat a)++replicate (a.length -d.toNat) ([]:List aG)->ao (decide (d<(ac a))) (0<=d/\d<(ac a)/\0<=d/\d<(ac e)/\ ∃(f:Int) (g:List (List Rt)),(0<=f/\f<=(ac a)/\g=List.map bf (take f.toNat a)++replicate (a.length -f.toNat) ([]:List aG))/\toNat ((ac a) -f)<toNat ((ac a) -d)/\a=a/\(ac a)=(ac a)/\ai (d+1)=f/\a=a/\b=b/\c=c/\set e d.toNat (ah a
 d).2.2.2.2.1=g/\True) ((∃(f:Int) (g:List (List Rt)),(0<=f/\f<=(ac c)/\first (ie (a,b,c)) f.toNat=0/\g=dD (a,b,c) f.toNat)/\c=c/\(ac c)=(ac c)/\0=f/\a=a/\b=b/\c=c/\e=g/\True)/\ ∀(f:Int)(g:List (List Rt)),0<=f/\f<=(ac c)/\first (ie (a,b,c)) f.toNat=0/\g=dD (a,b,c) f.toNat->ao (decide (f<(ac c))) (0<=f/\f<(ac c)/\ao (! decide (0<=(ah c f).1/\(ah c f).1<=1125899906842624)) (1=ld (a,b,c)) (∀(h:Bool),h=decide (0<f)->(ae h)/\(ae h)/\(ae h)/\(h->(aq h)/\(aq h)/\0<=ai (f -1)/\ai (f -1)<(ac c)/\True)/\(ae h)/\(ae h)/\(h->(aq h)/\(aq h)/\True)/\(aq h)/\ao (bif h then decide ((ah c f).1<(ah c (ai (f -1))).1) else false) (6=ld (a,b,c)) (ao (! decide (0<=(ah c f).2.1/\(ah c f).2.1<=ai ((ac a) -1))) (8=ld (a,b,c)) (0<=(ah c f).2.1/\(ah c f).2.1<(ac g)/\ ∀(i:Bool),i=(ah c f).2.2.1->ao i ((aq i)/\(aq i)/\(aq i)/\ao (bif i then ! List.any
 (g.getD (rU c f) default) (mX (ah c f).2.2.2.1) else false) (8=ld (a,b,c)) (FE a b c f g)) (i=false/\(i->false=true)/\ao (bif i then false else false) (8=ld (a,b,c)) (FE a b c f g)))))) (0=ld (a,b,c))):=by
  delta FE zd rU By ae aq ai ah ac;rintro ns ls hs ⟨⟨⟨hnl,-⟩,⟨hl,-⟩,⟨hhl,-⟩⟩,-⟩⟨hb,hn,hx⟩;simp only[maxLen] at hl hnl hhl;refine⟨ab,ab,ab,⟨0,_,⟨ab,ab,rfl⟩,by (repeat refine iK ?_);simp⟩,?_⟩;rintro j t ⟨j0,j1,rfl⟩;have tl:((ns.take j.toNat).map bf++replicate (ns.length-j.toNat) ([]:List Rt)).length=ns.length:=by simp;omega
  refine av (λhj=>?_) (λhj=>?_)
  .have hj:=aL hj;refine⟨j0,hj,j0,by rw[tl];exact hj,j+1,_,⟨ab,ab,rfl⟩,ab,?_⟩
   (repeat refine iK ?_);refine⟨?_,bv⟩;rw[show (j+1).toNat=j.toNat+1 by omega,← OW ab];rfl
  have hj:=aO hj;have e0:(ns.take j.toNat).map bf++replicate (ns.length-j.toNat) ([]:List Rt)=dD (ns,ls,hs) 0:=by
   rw[dm ab,show ns.length-j.toNat=0 by omega];simp[dD]
  rw[e0];clear e0 tl hj j0 j1;refine⟨⟨0,_,⟨ab,ab,rfl,rfl⟩,aM⟩,?_⟩;rintro j t ⟨j0,j1,hf,rfl⟩;refine av (λhj=>?_) (λhj=>?_)
  rotate_left
  .have hj:=aO hj;rw[show j.toNat=hs.length by omega] at hf;exact hf.symm
  have hj:=aL hj;have hm:=bW j0 hj;have tb:=Ju hb hf;have tl:=qo (ns,ls,hs) j.toNat
  have hit:=λh=>Ai (f:=ie (ns,ls,hs)) (n:=hs.length) j0 hj hf h;have eq:=Pg (ns,ls,hs) j0;have ej:((j.toNat:Nat):Int)=j:=ab;rw[aQ (n:=j-1) ab ab,aQ (n:=(ns.length:Int)-1) ab ab];refine⟨j0,hj,av (λh=>?_) (λh=>?_)⟩
  .have h:=fQ h;have e:ie (ns,ls,hs) j.toNat=1:=by
    rw[eq];unfold mC;rw[am];dsimp only[iu];omega
   have q:=hit (by rw[e];decide);rw[e] at q;exact q
  have h1:=gH h;have c1:¬ (iu (hs.getD j.toNat default)<0∨1125899906842624<iu (hs.getD j.toNat default)):=by unfold iu;omega
  clear h;intro b hb1
  (repeat refine⟨(by first|(simp;done)|exact λh=>⟨λ_=>h,λ_=>h,by rw[hb1] at h;have:=aL h;omega,by rw[hb1] at h;have:=aL h;omega,bv⟩),?_⟩);rw[hb1,BW];refine av (λh=>?_) (λh=>?_)
  .have h:=aL h;have e:ie (ns,ls,hs) j.toNat=6:=by
    rw[eq];unfold mC;rw[af c1,am];exact⟨ab,h.2⟩
   have q:=hit (by rw[e];decide);rw[e] at q;exact q
  have c2:¬ (0<j.toNat/\iu (hs.getD j.toNat default)<iu (hs.getD (j-1).toNat default)):=λq=>aO h ⟨ab,q.2⟩;clear h;refine av (λh=>?_) (λh=>?_)
  .have h:=fQ h;have e:ie (ns,ls,hs) j.toNat=8:=by
    rw[eq];unfold mC;rw[af c1,af c2,am];dsimp only[bI];omega
   have q:=hit (by rw[e];decide);rw[e] at q;exact q
  have h2:=gH h;have h2:0<=bI (hs.getD j.toNat default)/\bI (hs.getD j.toNat default)<=(ns.length:Int)-1:=h2;have c3:¬ (bI (hs.getD j.toNat default)<0∨(ns.length:Int)<=bI (hs.getD j.toNat default)):=ab;clear h;refine⟨h2.1,by rw[tl];show bI _<(ns.length:Int);omega,?_⟩;intro b2 hb2;have hb2:b2=o8 (hs.getD j.toNat default):=hb2;refine av (λq=>?_) (λq=>?_)
  .subst q
   (repeat refine⟨aC,?_⟩);simp only[cond_true];rw[Sx];refine av (λh=>?_) (λh=>?_)
   .have e:ie (ns,ls,hs) j.toNat=8:=by
     rw[eq];unfold mC;rw[af c1,af c2,af c3,am];exact⟨hb2.symm,(oX _).mp h⟩
    have q:=hit (by rw[e];decide);rw[e] at q;exact q
   have c4:¬ (o8 (hs.getD j.toNat default)=true/\mz ((dD (ns,ls,hs) j.toNat).getD (bI (hs.getD j.toNat default)).toNat default) (dB (hs.getD j.toNat default)).1=false):=λz=>by
    have z2:=z.2;have h:(!mz ((dD (ns,ls,hs) j.toNat).getD (bI (hs.getD j.toNat default)).toNat default) (dB (hs.getD j.toNat default)).1)=false:=h;rw[z2] at h;cases h
   have wl:(bI (hs.getD j.toNat default)).toNat<ns.length:=ab;have tr:=tb.r (bI (hs.getD j.toNat default)).toNat wl;refine⟨tr.1,tr.2,hx _ hm,ab,ab,by have:=(Au (n:=(ns,ls,hs)) hb wl).len;exact ta this bi,av (λh=>?_) (λh=>?_)⟩
   .have h:=fQ h;have e:ie (ns,ls,hs) j.toNat=dJ (fT ((dD (ns,ls,hs) j.toNat).getD (bI (hs.getD j.toNat default)).toNat default) (hs.getD j.toNat default)) (bq (ns.getD (bI (hs.getD j.toNat default)).toNat default)):=by
     rw[eq];unfold mC;rw[af c1,af c2,af c3,af c4]
    have k:=hit (by rw[e];exact h);rw[e] at k;exact k
   .have h:=gH h;have e:ie (ns,ls,hs) j.toNat=0:=by
     rw[eq];unfold mC;rw[af c1,af c2,af c3,af c4];exact h
    refine⟨ab,by rw[qo];show bI _<(ns.length:Int);omega,j+1,dD (ns,ls,hs) (j+1).toNat,⟨ab,ab,xD j0 hf e,rfl⟩,ab,?_⟩
    (repeat refine iK ?_);refine⟨?_,bv⟩;rw[show (j+1).toNat=j.toNat+1 by omega];rfl
  ·(repeat refine⟨by simp[q],?_⟩);refine av (λh=>by rw[q] at h;cases h) (λh=>?_);have c4:¬ (o8 (hs.getD j.toNat default)=true/\mz ((dD (ns,ls,hs) j.toNat).getD (bI (hs.getD j.toNat default)).toNat default) (dB (hs.getD j.toNat default)).1=false):=λz=>by
    rw[← hb2,q] at z;cases z.1
   have wl:(bI (hs.getD j.toNat default)).toNat<ns.length:=ab;have tr:=tb.r (bI (hs.getD j.toNat default)).toNat wl;refine⟨tr.1,tr.2,hx _ hm,ab,ab,by have:=(Au (n:=(ns,ls,hs)) hb wl).len;exact ta this bi,av (λh=>?_) (λh=>?_)⟩
   .have h:=fQ h;have e:ie (ns,ls,hs) j.toNat=dJ (fT ((dD (ns,ls,hs) j.toNat).getD (bI (hs.getD j.toNat default)).toNat default) (hs.getD j.toNat default)) (bq (ns.getD (bI (hs.getD j.toNat default)).toNat default)):=by
     rw[eq];unfold mC;rw[af c1,af c2,af c3,af c4]
    have k:=hit (by rw[e];exact h);rw[e] at k;exact k
   .have h:=gH h;have e:ie (ns,ls,hs) j.toNat=0:=by
     rw[eq];unfold mC;rw[af c1,af c2,af c3,af c4];exact h
    refine⟨ab,by rw[qo];show bI _<(ns.length:Int);omega,j+1,dD (ns,ls,hs) (j+1).toNat,⟨ab,ab,xD j0 hf e,rfl⟩,ab,?_⟩
    (repeat refine iK ?_);refine⟨?_,bv⟩;rw[show (j+1).toNat=j.toNat+1 by omega];rfl
theorem aB2:aD 100 QF.spec:=aH Tryz.func100 (au (au (au (au (au aE JX) TL) aR0) RJ) NW) SM at1
def Ow:Ct:=⟨[.agg gS],[.val cI],λd=>[∀ c∈d.1.2.2,((dB c).2.1.length:Int)<=1099511627776],λd=>((dA d.1,()),())⟩
def Yn:bu Ow.ps->bS:=(λd=>{unr:=λn=>match n with|2=>8|_=>0})
theorem ad4 :
 ∀(a:List ar)(b:List aN)(c:List aT),(zd a b c)/\True->(By c)->ao (! decide (nG (a,b,c)=0)) (nG (a,b,c)=dA (a,b,c)) (ao (! decide (lG (a,b,c)=0)) (lG (a,b,c)=dA (a,b,c)) (ao (! decide (ku (a,b,c)=0)) (ku (a,b,c)=dA (a,b,c)) (Ad (a,b,c)/\ao (! decide (mU (a,b,c)=0)) (mU (a,b,c)=dA (a,b,c)) ((∀(d:ar),d∈a->length (aA d)<=(100000:Nat))/\ao (! decide (nT (a,b,c)=0)) (nT (a,b,c)=dA (a,b,c)) (Ad (a,b,c)/\ao (! decide (nq (a,b,c)=0)) (nq (a,b,c)=dA (a,b,c)) (ku (a,b,c)=0/\a.length<=(64:Nat)/\(By c)/\ao (! decide (ld (a,b,c)=0)) (ld (a,b,c)=dA (a,b,c)) (0=dA (a,b,c)))))))):=by
  delta zd By;rintro ns ls hs-hx;unfold dA;refine av (λh=>xE (fQ h)) (λh=>?_);have h1:=gH h;rw[pX h1];refine av (λh=>xE (fQ h)) (λh=>?_);have h2:=gH h;rw[pX h2];refine av (λh=>xE (fQ h)) (λh=>?_);have h3:=gH h;rw[pX h3];refine⟨H7 h2,av (λh=>xE (fQ h)) (λh=>?_)⟩;have h4:=gH h;rw[pX h4];refine⟨λx hx=>ta (PQ h3 x hx).len bi,av (λh=>xE (fQ h)) (λh=>?_)⟩;have h5:=gH h;rw[pX h5];refine⟨H7 h2,av (λh=>xE (fQ h)) (λh=>?_)⟩;have h6:=gH h;rw[pX h6];refine⟨h3,?_,hx,av (λh=>rfl) (λh=>(gH h).symm)⟩;unfold nG at h1;split at h1
  .cases h1
  .dsimp only at *;omega
theorem aJ3:aD 47 Ow.spec:=aH Tryz.func47 (au (au (au (au (au (au (au aE at7) aN4) aH7) af5) SH) as7) aB2) Yn ad4
abbrev rf:OT := .pair gS (.pair cI (.pair cI (.pair cI (.pair (.row 123 i7) (.pair (.row 3 cI) (.pair (.row 134 jM) (.pair (.row 88 sG) (.row 78 qE))))))))
def YW:Ct:=⟨[.val (.sl i7)],[.own 123 i7],λd=>[(d.1.length:Int)<=1000000],λd=>((d.1,()),())⟩
def kS :=
 (140737488355328:Nat)
theorem aS0 :
 ∀(a:List (List aG×Int×ad×(Int×Int)×Int)),(a.length<=maxLen/\ ∀(b:List aG×Int×ad×(Int×Int)×Int),b∈a->(b.1.length<=maxLen/\ ∀(c:aG),c∈b.1->((0<=c.1.1/\c.1.1<=4294967295)/\aj c.1.2)/\(c.2.1.length<=maxLen/\ ∀(d:Int),d∈c.2.1->aj d)/\aj c.2.2)/\aj b.2.1/\(b.2.2.1.length<=maxLen/\ ∀(c:Int),c∈b.2.2.1->aj c)/\(aj b.2.2.2.1.1/\aj b.2.2.2.1.2)/\aj b.2.2.2.2)/\True->(ac a)<=1000000-> ∀(b:Bool),(b=true->a.length=(0:Nat))->ao b (([]:List (List aG×Int×ad×(Int×Int)×Int))=a) (((0:Nat)+a.length)*(80:Nat)<=(kS)/\a=a):=by
  delta kS ac;rintro x ⟨⟨hl,-⟩,-⟩ h b hb;refine av (λh1=>?_) (λh1=>⟨by simp;omega,by simp⟩);have:=hb h1;exact (nI this).symm
theorem UD:aD 117 YW.spec:=aH Tryz.func117 aE aR aS0
def ZO:Ct:=⟨[.val (.sl jM)],[.own 134 jM],λd=>[(d.1.length:Int)<=1000000],λd=>((d.1,()),())⟩
theorem aF5 :
 ∀(a:List (Int×Int×Int×Int×Int×ad)),(a.length<=maxLen/\ ∀(b:Int×Int×Int×Int×Int×ad),b∈a->aj b.1/\aj b.2.1/\aj b.2.2.1/\aj b.2.2.2.1/\aj b.2.2.2.2.1/\b.2.2.2.2.2.length<=maxLen/\ ∀(c:Int),c∈b.2.2.2.2.2->0<=c/\c<=255)/\True->(ac a)<=1000000-> ∀(b:Bool),(b=true->a.length=(0:Nat))->ao b (([]:List (Int×Int×Int×Int×Int×ad))=a) (((0:Nat)+a.length)*(64:Nat)<=(kS)/\a=a):=by
  delta kS ac;rintro x ⟨⟨hl,-⟩,-⟩ h b hb;refine av (λh1=>?_) (λh1=>⟨by simp;omega,by simp⟩);have:=hb h1;exact (nI this).symm
theorem aZ7:aD 118 ZO.spec:=aH Tryz.func118 aE aR aF5
def an3:Ct:=⟨[.val (.sl sG)],[.own 88 sG],λd=>[(d.1.length:Int)<=1000000000000],λd=>((d.1,()),())⟩
theorem Y6 :
 ∀(a:List (Int×Int×ad)),(a.length<=maxLen/\ ∀(b:Int×Int×ad),b∈a->aj b.1/\aj b.2.1/\b.2.2.length<=maxLen/\ ∀(c:Int),c∈b.2.2->0<=c/\c<=255)/\True->(ac a)<=1000000000000-> ∀(b:Bool),(b=true->a.length=(0:Nat))->ao b (([]:List (Int×Int×ad))=a) (((0:Nat)+a.length)*(40:Nat)<=(kS)/\a=a):=by
  delta kS ac;rintro x ⟨⟨hl,-⟩,-⟩ h b hb;refine av (λh1=>?_) (λh1=>⟨by simp;omega,by simp⟩);have:=hb h1;exact (nI this).symm
theorem YF:aD 119 an3.spec:=aH Tryz.func119 aE aR Y6
def aQ0:Ct:=⟨[.val (.sl qE)],[.own 78 qE],λd=>[(d.1.length:Int)<=1000000000000],λd=>((d.1,()),())⟩
theorem W3 :
 ∀(a:List (Int×Int×Int×Int×Int)),(a.length<=maxLen/\ ∀(b:Int×Int×Int×Int×Int),b∈a->aj b.1/\aj b.2.1/\aj b.2.2.1/\aj b.2.2.2.1/\aj b.2.2.2.2)/\True->(ac a)<=1000000000000-> ∀(b:Bool),(b=true->a.length=(0:Nat))->ao b (([]:List (Int×Int×Int×Int×Int))=a) (((0:Nat)+a.length)*(40:Nat)<=(kS)/\a=a):=by
  delta kS ac;rintro x ⟨⟨hl,-⟩,-⟩ h b hb;refine av (λh1=>?_) (λh1=>⟨by simp;omega,by simp⟩);have:=hb h1;exact (nI this).symm
theorem aD5:aD 120 aQ0.spec:=aH Tryz.func120 aE aR W3
def aV8:Ct:=⟨[.val (.sl bN)],[.own 103 bN],λd=>[(d.1.length:Int)<=1000000],λd=>((d.1,()),())⟩
theorem Xd :
 ∀(a:List ar),(a.length<=maxLen/\ ∀(b:ar),b∈a->CT.wf bN b)/\True->(ac a)<=1000000-> ∀(b:Bool),(b=true->a.length=(0:Nat))->ao b (([]:List ar)=a) (((0:Nat)+a.length)*(152:Nat)<=(kS)/\a=a):=by
  delta kS ac;rintro x ⟨⟨hl,-⟩,-⟩ h b hb;refine av (λh1=>?_) (λh1=>⟨by simp;omega,by simp⟩);have:=hb h1;exact (nI this).symm
theorem Uf:aD 101 aV8.spec:=aH Tryz.func101 aE aR Xd
def an2:Ct:=⟨[.val (.sl gh)],[.own 95 gh],λd=>[(d.1.length:Int)<=1000000],λd=>((d.1,()),())⟩
theorem aH9 :
 ∀(a:List aN),(a.length<=maxLen/\ ∀(b:aN),b∈a->CT.wf gh b)/\True->(ac a)<=1000000-> ∀(b:Bool),(b=true->a.length=(0:Nat))->ao b (([]:List aN)=a) (((0:Nat)+a.length)*(48:Nat)<=(kS)/\a=a):=by
  delta kS ac;rintro x ⟨⟨hl,-⟩,-⟩ h b hb;refine av (λh1=>?_) (λh1=>⟨by simp;omega,by simp⟩);have:=hb h1;exact (nI this).symm
theorem VS:aD 102 an2.spec:=aH Tryz.func102 aE aR aH9
def ZP:Ct:=⟨[.val (.sl ft)],[.own 118 ft],λd=>[(d.1.length:Int)<=1000000],λd=>((d.1,()),())⟩
theorem WU :
 ∀(a:List aT),(a.length<=maxLen/\ ∀(b:aT),b∈a->CT.wf ft b)/\True->(ac a)<=1000000-> ∀(b:Bool),(b=true->a.length=(0:Nat))->ao b (([]:List aT)=a) (((0:Nat)+a.length)*(72:Nat)<=(kS)/\a=a):=by
  delta kS ac;rintro x ⟨⟨hl,-⟩,-⟩ h b hb;refine av (λh1=>?_) (λh1=>⟨by simp;omega,by simp⟩);have:=hb h1;exact (nI this).symm
theorem Y9:aD 103 ZP.spec:=aH Tryz.func103 aE aR WU
def aI3:Ct:=⟨[.val (.sl su)],[.own 97 su],λd=>[(d.1.length:Int)<=1000000],λd=>((d.1,()),())⟩
theorem Xp :
 ∀(a:List (Int×Int)),(a.length<=maxLen/\ ∀(b:Int×Int),b∈a->(0<=b.1/\b.1<=4294967295)/\aj b.2)/\True->(ac a)<=1000000-> ∀(b:Bool),(b=true->a.length=(0:Nat))->ao b (([]:List (Int×Int))=a) (((0:Nat)+a.length)*(16:Nat)<=(kS)/\a=a):=by
  delta kS ac;rintro x ⟨⟨hl,-⟩,-⟩ h b hb;refine av (λh1=>?_) (λh1=>⟨by simp;omega,by simp⟩);have:=hb h1;exact (nI this).symm
theorem af7:aD 104 aI3.spec:=aH Tryz.func104 aE aR Xp
def RX:Ct:=⟨[.val (.sl cJ)],[.own 93 cJ],λd=>[okL d.1],λd=>((d.1,()),())⟩
def aK4:bu RX.ps->bS:=(λd=>{loops:=(bm 3 (λS=>{ι:=Int,μ:=λi=>(d.1.length-i).toNat,inv:=λi=>0<=i/\i<=d.1.length,keep:=[3,8,9],slots:=λi=>[(10,.int .i64 i)],keepN:=[128]}) ci)})
theorem ZB :
 ∀(a:List aG),(a.length<=maxLen/\ ∀(b:aG),b∈a->((0<=b.1.1/\b.1.1<=4294967295)/\aj b.1.2)/\(b.2.1.length<=maxLen/\ ∀(c:Int),c∈b.2.1->aj c)/\aj b.2.2)/\True->((ac a)<=134217728/\ ∀(b:Rt),b∈a->(ac b.2.1)<=1099511627776)->(ac a)<=134217728/\(∃(b:Int),(0<=b/\b<=(ac a))/\(ac a)=(ac a)/\0=b/\a=a/\True)/\ ∀(b:Int),0<=b/\b<=(ac a)->ao (decide (b<(ac a))) (0<=b/\b<(ac a)/\((length (ah a b).2.1):Int)<=1099511627776/\0<=b/\b<(ac a)/\ ∃(c:Int),(0<=c/\c<=(ac a))/\toNat ((ac a) -c)<toNat ((ac a) -b)/\(ac a)=(ac a)/\ai (b+1)=c/\set a b.toNat (ah a b)=a/\True) (a=a):=by
  delta ai ah ac;rintro l ⟨⟨hl,-⟩,-⟩⟨h1,h2⟩;simp only[maxLen] at hl;refine⟨h1,⟨0,⟨ab,ab⟩,aM⟩,?_⟩;rintro j ⟨j0,j1⟩;refine bt (λhj=>?_) (λhj=>?_)
  .refine⟨j0,hj,h2 _ (bW j0 hj),j0,hj,j+1,⟨ab,ab⟩,ab,?_⟩
   (repeat refine iK ?_);exact⟨tN j0 hj,bv⟩
  .rfl
theorem O2:aD 105 RX.spec:=aH Tryz.func105 (au (au aE L6) zj) aK4 ZB
def RM:Ct:=⟨[.agg gS],[.agg gS],λd=>[lT d.1],λd=>((d.1,()),())⟩
def SB:bu RM.ps->bS:=(λd=>{loops:=(bm 3 (λS=>{ι:=Int,μ:=λi=>(d.1.1.length-i).toNat,inv:=λi=>0<=i/\i<=d.1.1.length,keep:=[2,3,19,20],slots:=λi=>[(21,.int .i64 i)],keepN:=[48,64,176,224,272]}) (bm 8 (λS=>{ι:=Int,μ:=λi=>(d.1.2.2.length-i).toNat,inv:=λi=>0<=i/\i<=d.1.2.2.length,keep:=[2,3,44,45],slots:=λi=>[(46,.int .i64 i)],keepN:=[48,64,176,224,272]}) ci))})
def yH(a:List ar)(d:Int) :=
 getD (set a d.toNat (ah a d)) d.toNat default
theorem aH2 :
 ∀(a:List ar)(b:List aN)(c:List aT),((a.length<=maxLen/\ ∀(d:ar),d∈a->CT.wf bN d)/\(b.length<=maxLen/\ ∀(d:aN),d∈b->CT.wf gh d)/\c.length<=maxLen/\ ∀(d:aT),d∈c->CT.wf ft d)/\True->((ac a)<=1000000/\(ac b)<=1000000/\(ac c)<=1000000/\(∀(d:ar),d∈a->((length (aA d)):Int)<=1000000/\okL (bf d))/\ ∀(d:aT),d∈c->((length (dB d).2.1):Int)<=1099511627776)->(ac a)<=1000000/\(ac b)<=1000000/\(ac c)<=1000000/\(∃(d:Int),(0<=d/\d<=(ac a))/\(ac a)=(ac a)/\0=d/\a=a/\b=b/\c=c/\True)/\ ∀(d:Int),0<=d/\d<=(ac a)->ao (decide (d<(ac a))) (0<=d/\d<(ac a)/\((length (ah a d).1):Int)<=1000000/\okL (ah a d).2.2.2.2.1/\0<=d/\d<(ac a)/\0<=d/\d<((length (set a d.toNat (ah a d))):Int)/\ ∃(e:Int),(0<=e/\e<=(ac a))/\toNat ((ac a) -e)<toNat ((ac a) -d)/\(ac a)=(ac a)/\ai (d+1)=e/\set (set a d.toNat (ah a d))
 d.toNat ((yH a d).1,(yH a d).2.1,(yH a d).2.2.1,(yH a d).2.2.2.1,(ah a d).2.2.2.2.1,(yH a d).2.2.2.2.2)=a/\b=b/\c=c/\True) ((∃(e:Int),(0<=e/\e<=(ac c))/\(ac c)=(ac c)/\0=e/\a=a/\b=b/\c=c/\True)/\ ∀(e:Int),0<=e/\e<=(ac c)->ao (decide (e<(ac c))) (0<=e/\e<(ac c)/\((length (ah c e).2.2.2.2.1):Int)<=1099511627776/\0<=e/\e<(ac c)/\ ∃(f:Int),(0<=f/\f<=(ac c))/\toNat ((ac c) -f)<toNat ((ac c) -e)/\(ac c)=(ac c)/\ai (e+1)=f/\a=a/\b=b/\set c e.toNat (ah c e)=c/\True) ((a,b,c)=(a,b,c))):=by
  delta yH ai ah ac;rintro ns ls hs-⟨h1,h2,h3,h4,h5⟩;refine⟨h1,h2,h3,⟨0,⟨ab,ab⟩,aM⟩,?_⟩;rintro j ⟨j0,j1⟩;refine bt (λhj=>?_) (λhj=>?_)
  .have hx:=h4 _ (bW j0 hj);have e:ns.set j.toNat (ns.getD j.toNat default)=ns:=tN j0 hj;refine⟨j0,hj,hx.1,hx.2,j0,hj,j0,by rw[fV];exact hj,j+1,⟨ab,ab⟩,ab,?_⟩
   (repeat refine iK ?_);refine⟨?_,aM⟩;show (ns.set j.toNat (ns.getD j.toNat default)).set j.toNat _=ns;rw[e];exact e
  refine⟨⟨0,⟨ab,ab⟩,aM⟩,?_⟩;rintro k ⟨k0,k1⟩;refine bt (λhk=>?_) (λhk=>?_)
  .refine⟨k0,hk,h5 _ (bW k0 hk),k0,hk,k+1,⟨ab,ab⟩,ab,?_⟩
   (repeat refine iK ?_);exact⟨tN k0 hk,bv⟩
  .rfl
theorem Qa:aD 48 RM.spec:=aH Tryz.func48 (au (au (au (au (au (au aE Uf) VS) Y9) af7) O2) zj) SB aH2
def KC:Ct:=⟨[.agg fX],[.agg rf],λd=>[qO d.1],λd=>((d.1,()),())⟩
def aD9:bu KC.ps->bS:=(λd=>{loops:=(bm 4 (λS=>{ι:=Int,μ:=λi=>((aU d.1).length-i).toNat,inv:=λi=>0<=i/\i<=(aU d.1).length,keep:=[1,2,18,19],slots:=λi=>[(20,.int .i64 i)],keepN:=[32,48,256]}) (bm 11 (λS=>{ι:=Int,μ:=λi=>((ax d.1).length-i).toNat,inv:=λi=>0<=i/\i<=(ax d.1).length,keep:=[1,2,51,52],slots:=λi=>[(53,.int .i64 i)],keepN:=[32,48,256,720,784]}) (bm 17 (λS=>{ι:=Int,μ:=λi=>((aY d.1).length-i).toNat,inv:=λi=>0<=i/\i<=(aY d.1).length,keep:=[1,2,72,73],slots:=λi=>[(74,.int .i64 i)],keepN:=[32,48,256,720,784,1120]}) ci)))})
theorem au9 :
 ∀(a:(List ar×List aN×List aT)×Int×Int×Int×List (List aG×Int×ad×(Int×Int)×Int)×ad×List (Int×Int×Int×Int×Int×ad)×List (Int×Int×ad)×List (Int×Int×Int×Int×Int)),CT.wf fX a/\True->(lT (az a)/\((length (aU a)):Int)<=1000000/\((length (bH a)):Int)<=1000000/\((length (ax a)):Int)<=1000000/\((length (aY a)):Int)<=1000000000000/\((length (aV a)):Int)<=1000000000000/\(∀(b:bY),b∈aU a->((length (fD b)):Int)<=1000000/\okL (bn b))/\(∀(b:aW),b∈ax a->((length (eI b)):Int)<=1000000)/\ ∀(b:pB),b∈aY a->(ac b.2.2)<=1000000)->lT a.1/\(ac a.2.2.2.2.1)<=1000000/\(∃(b:Int),(0<=b/\b<=((length (aU a)):Int))/\(ac a.2.2.2.2.1)=(ac
 a.2.2.2.2.1)/\0=b/\a.1.1=a.1.1/\a.1.2.1=a.1.2.1/\a.1.2.2=a.1.2.2/\a.2.1=a.2.1/\a.2.2.1=a.2.2.1/\a.2.2.2.1=a.2.2.2.1/\a.2.2.2.2.2.1=a.2.2.2.2.2.1/\a.2.2.2.2.2.2.1=a.2.2.2.2.2.2.1/\a.2.2.2.2.2.2.2.1=a.2.2.2.2.2.2.2.1/\a.2.2.2.2.2.2.2.2=a.2.2.2.2.2.2.2.2/\(0:Int)=0/\(0:Int)=0/\(0:Int)=0/\a.2.2.2.2.1=a.2.2.2.2.1/\True)/\ ∀(b:Int),0<=b/\b<=((length (aU a)):Int)->ao (decide (b<(ac a.2.2.2.2.1))) (0<=b/\b<(ac a.2.2.2.2.1)/\((length (getD a.2.2.2.2.1 b.toNat default).2.2.1):Int)<=1099511627776/\okL (getD a.2.2.2.2.1 b.toNat default).1/\0<=b/\b<(ac a.2.2.2.2.1)/\0<=b/\b<((length (set a.2.2.2.2.1 b.toNat (getD a.2.2.2.2.1 b.toNat default))):Int)/\ ∃(c:Int),(0<=c/\c<=((length (aU a)):Int))/\toNat (((length (aU a)):Int) -c)<toNat (((length (aU a)):Int) -b)/\(ac a.2.2.2.2.1)=(ac a.2.2.2.2.1)/\ai
 (b+1)=c/\a.1.1=a.1.1/\a.1.2.1=a.1.2.1/\a.1.2.2=a.1.2.2/\a.2.1=a.2.1/\a.2.2.1=a.2.2.1/\a.2.2.2.1=a.2.2.2.1/\a.2.2.2.2.2.1=a.2.2.2.2.2.1/\a.2.2.2.2.2.2.1=a.2.2.2.2.2.2.1/\a.2.2.2.2.2.2.2.1=a.2.2.2.2.2.2.2.1/\a.2.2.2.2.2.2.2.2=a.2.2.2.2.2.2.2.2/\(0:Int)=0/\(0:Int)=0/\(0:Int)=0/\set (set a.2.2.2.2.1 b.toNat (getD a.2.2.2.2.1 b.toNat default)) b.toNat ((getD a.2.2.2.2.1 b.toNat default).1,(getD (set a.2.2.2.2.1 b.toNat (getD a.2.2.2.2.1 b.toNat default)) b.toNat default).2)=a.2.2.2.2.1/\True) ((ac a.2.2.2.2.2.1)<=1099511627776/\(ac a.2.2.2.2.2.2.1)<=1000000/\(∃(c:Int),(0<=c/\c<=((length (ax a)):Int))/\(ac a.2.2.2.2.2.2.1)=(ac
 a.2.2.2.2.2.2.1)/\0=c/\a.1.1=a.1.1/\a.1.2.1=a.1.2.1/\a.1.2.2=a.1.2.2/\a.2.1=a.2.1/\a.2.2.1=a.2.2.1/\a.2.2.2.1=a.2.2.2.1/\a.2.2.2.2.2.2.2.1=a.2.2.2.2.2.2.2.1/\a.2.2.2.2.2.2.2.2=a.2.2.2.2.2.2.2.2/\(0:Int)=0/\(0:Int)=0/\(0:Int)=0/\a.2.2.2.2.1=a.2.2.2.2.1/\a.2.2.2.2.2.1=a.2.2.2.2.2.1/\a.2.2.2.2.2.2.1=a.2.2.2.2.2.2.1/\True)/\ ∀(c:Int),0<=c/\c<=((length (ax a)):Int)->ao (decide (c<(ac a.2.2.2.2.2.2.1))) (0<=c/\c<(ac a.2.2.2.2.2.2.1)/\((length (getD a.2.2.2.2.2.2.1 c.toNat default).2.2.2.2.2):Int)<=1099511627776/\0<=c/\c<(ac a.2.2.2.2.2.2.1)/\ ∃(d:Int),(0<=d/\d<=((length (ax a)):Int))/\toNat (((length (ax a)):Int) -d)<toNat (((length (ax a)):Int) -c)/\(ac a.2.2.2.2.2.2.1)=(ac a.2.2.2.2.2.2.1)/\ai
 (c+1)=d/\a.1.1=a.1.1/\a.1.2.1=a.1.2.1/\a.1.2.2=a.1.2.2/\a.2.1=a.2.1/\a.2.2.1=a.2.2.1/\a.2.2.2.1=a.2.2.2.1/\a.2.2.2.2.2.2.2.1=a.2.2.2.2.2.2.2.1/\a.2.2.2.2.2.2.2.2=a.2.2.2.2.2.2.2.2/\(0:Int)=0/\(0:Int)=0/\(0:Int)=0/\a.2.2.2.2.1=a.2.2.2.2.1/\a.2.2.2.2.2.1=a.2.2.2.2.2.1/\set a.2.2.2.2.2.2.1 c.toNat (getD a.2.2.2.2.2.2.1 c.toNat default)=a.2.2.2.2.2.2.1/\True) ((ac a.2.2.2.2.2.2.2.1)<=1000000000000/\(∃(d:Int),(0<=d/\d<=((length (aY a)):Int))/\(ac a.2.2.2.2.2.2.2.1)=(ac a.2.2.2.2.2.2.2.1)/\0=d/\a.1.1=a.1.1/\a.1.2.1=a.1.2.1/\a.1.2.2=a.1.2.2/\a.2.1=a.2.1/\a.2.2.1=a.2.2.1/\a.2.2.2.1=a.2.2.2.1/\a.2.2.2.2.2.2.2.2=a.2.2.2.2.2.2.2.2/\(0:Int)=0/\(0:Int)=0/\(0:Int)=0/\a.2.2.2.2.1=a.2.2.2.2.1/\a.2.2.2.2.2.1=a.2.2.2.2.2.1/\a.2.2.2.2.2.2.1=a.2.2.2.2.2.2.1/\a.2.2.2.2.2.2.2.1=a.2.2.2.2.2.2.2.1/\True)/\ ∀(d:Int),0<=d/\d<=((length (aY a)):Int)->ao (decide (d<(ac a.2.2.2.2.2.2.2.1)))
 (0<=d/\d<(ac a.2.2.2.2.2.2.2.1)/\((length (getD a.2.2.2.2.2.2.2.1 d.toNat default).2.2):Int)<=1099511627776/\0<=d/\d<(ac a.2.2.2.2.2.2.2.1)/\ ∃(e:Int),(0<=e/\e<=((length (aY a)):Int))/\toNat (((length (aY a)):Int) -e)<toNat (((length (aY a)):Int) -d)/\(ac a.2.2.2.2.2.2.2.1)=(ac a.2.2.2.2.2.2.2.1)/\ai (d+1)=e/\a.1.1=a.1.1/\a.1.2.1=a.1.2.1/\a.1.2.2=a.1.2.2/\a.2.1=a.2.1/\a.2.2.1=a.2.2.1/\a.2.2.2.1=a.2.2.2.1/\a.2.2.2.2.2.2.2.2=a.2.2.2.2.2.2.2.2/\(0:Int)=0/\(0:Int)=0/\(0:Int)=0/\a.2.2.2.2.1=a.2.2.2.2.1/\a.2.2.2.2.2.1=a.2.2.2.2.2.1/\a.2.2.2.2.2.2.1=a.2.2.2.2.2.2.1/\set a.2.2.2.2.2.2.2.1 d.toNat (getD a.2.2.2.2.2.2.2.1 d.toNat default)=a.2.2.2.2.2.2.2.1/\True) ((ac a.2.2.2.2.2.2.2.2)<=1000000000000/\a=a))):=by
  delta ai ac;rintro d-⟨h1,h2,h3,h4,h5,h6,h7,h8,h9⟩;have h2:(d.2.2.2.2.1.length:Int)<=1000000:=h2;have h3:(d.2.2.2.2.2.1.length:Int)<=1000000:=h3;have h4:(d.2.2.2.2.2.2.1.length:Int)<=1000000:=h4;have h5:(d.2.2.2.2.2.2.2.1.length:Int)<=1000000000000:=h5;have h6:(d.2.2.2.2.2.2.2.2.length:Int)<=1000000000000:=h6;have eS:aU d=d.2.2.2.2.1:=rfl;have eF:ax d=d.2.2.2.2.2.2.1:=rfl;have eD:aY d=d.2.2.2.2.2.2.2.1:=rfl;simp only[eS,eF,eD] at *;refine⟨h1,h2,⟨0,⟨ab,ab⟩,aM⟩,?_⟩;rintro j ⟨j0,j1⟩;refine bt (λhj=>?_) (λhj=>?_)
  .have hx:=h7 _ (bW j0 hj);have hx1:((d.2.2.2.2.1.getD j.toNat default).2.2.1.length:Int)<=1000000:=hx.1;have e:d.2.2.2.2.1.set j.toNat (d.2.2.2.2.1.getD j.toNat default)=d.2.2.2.2.1:=tN j0 hj;refine⟨j0,hj,ab,hx.2,j0,hj,j0,by rw[fV];exact hj,j+1,⟨ab,ab⟩,ab,?_⟩
   (repeat refine iK ?_);refine⟨?_,bv⟩;show (d.2.2.2.2.1.set j.toNat (d.2.2.2.2.1.getD j.toNat default)).set j.toNat _=d.2.2.2.2.1;rw[e];exact e
  refine⟨ab,h4,⟨0,⟨ab,ab⟩,aM⟩,?_⟩;rintro k ⟨k0,k1⟩;refine bt (λhk=>?_) (λhk=>?_)
  .have hx1:((d.2.2.2.2.2.2.1.getD k.toNat default).2.2.2.2.2.length:Int)<=1000000:=h8 _ (bW k0 hk);refine⟨k0,hk,ab,k0,hk,k+1,⟨ab,ab⟩,ab,?_⟩
   (repeat refine iK ?_);exact⟨tN k0 hk,bv⟩
  refine⟨h5,⟨0,⟨ab,ab⟩,aM⟩,?_⟩;rintro k ⟨k0,k1⟩;refine bt (λhk=>?_) (λhk=>?_)
  .have hx1:((d.2.2.2.2.2.2.2.1.getD k.toNat default).2.2.length:Int)<=1000000:=h9 _ (bW k0 hk);refine⟨k0,hk,ab,k0,hk,k+1,⟨ab,ab⟩,ab,?_⟩
   (repeat refine iK ?_);exact⟨tN k0 hk,bv⟩
  exact⟨h6,bv⟩
theorem Fq:aD 56 KC.spec:=aH Tryz.func56 (au (au (au (au (au (au (au (au aE Qa) UD) zj) O2) aZ7) sZ) YF) aD5) aD9 au9
def tP(x y:aW):Int:=if gO (aI x) (aI y)≠0 then gO (aI x) (aI y) else gO (jT x) (jT y)
def VQ:Ct:=⟨[.agg jM,.agg jM],[.val cI],λ_=>[],λd=>((tP d.1 d.2.1,()),())⟩
theorem TV :
 ∀(a b c d e:Int)(f:ad)(g h i j k:Int)(l:ad),(aj a/\aj b/\aj c/\aj d/\aj e/\f.length<=maxLen/\ ∀(m:Int),m∈f->0<=m/\m<=255)/\(aj g/\aj h/\aj i/\aj j/\aj k/\l.length<=maxLen/\ ∀(m:Int),m∈l->0<=m/\m<=255)/\True->True->mo [gO a g,gO b h]=tP (a,b,c,d,e,f) (g,h,i,j,k,l):=by
  rintro a1 a2 a3 a4 a5 a6 b1 b2 b3 b4 b5 b6 - -;have e:tP (a1,a2,a3,a4,a5,a6) (b1,b2,b3,b4,b5,b6)=if gO a1 b1≠0 then gO a1 b1 else gO a2 b2:=rfl;rw[e];simp only[mo];by_cases h:gO a1 b1≠0
  .rw[am h,am h]
  .rw[af h,af h];by_cases k:gO a2 b2≠0
   .rw[am k]
   .rw[af k];simp at k;exact k.symm
theorem U1:aD 130 VQ.spec:=aH Tryz.func130 (au (au aE MQ) RV) aR TV
instance (a b:aW):Decidable (gQ a b):=by unfold gQ;infer_instance
def gJ(l:List aW)(t:aW):Int:=((l.takeWhile λx=>decide (gQ x t)).length:Int)
theorem XP{x y:aW}:tP x y<0↔gQ x y:=by
 unfold tP gO gQ
 by_cases h1:aI x<aI y
 .simp[h1]
 .by_cases h2:aI y<aI x
  .have:aI x≠aI y:=ab;simp[h1,h2,this]
  .have:aI x=aI y:=ab;by_cases h3:jT x<jT y
   .simp[this,h3]
   .by_cases h4:jT y<jT x <;> simp[this,h3,h4]
theorem UN{x y z:aW}(h:gQ x y)(k:gQ y z):gQ x z:=by unfold gQ at *;omega
theorem JK(l:List aW)(t:aW):0<=gJ l t/\gJ l t<=l.length:=by
 unfold gJ
 have:=iB length (rC (p:=λx=>decide (gQ x t)) (l:=l))
 rw[cD] at this
 omega
theorem L3:∀{l:List aW}{t:aW}{h:Nat},l.Pairwise gQ->h<l.length->(gQ (l.getD h default) t↔(h:Int)<gJ l t)
 | [],t,h,_,hh=>by simp at hh
 | a::l,t,h,hs,hh=>by
  obtain⟨s1,s2⟩:=List.pairwise_cons.1 hs;by_cases ha:gQ a t
  .have e:gJ (a::l) t=gJ l t+1:=by unfold gJ;rw[List.takeWhile_cons_of_pos (by simpa using ha),cQ];omega
   cases h with
   | zero =>
    have:=JK l t;simp only[List.getD_cons_zero];exact⟨λ_=>by rw[e];omega,λ_=>ha⟩
   | succ h =>
    simp only[List.getD_cons_succ];rw[L3 s2 (by simpa using hh),e];omega
  .have e:gJ (a::l) t=0:=by unfold gJ;rw[List.takeWhile_cons_of_neg (by simpa using ha)];rfl
   rw[e];constructor
   .intro k;exfalso;cases h with
    | zero=>exact ha k
    | succ h =>
     simp only[List.getD_cons_succ] at k;have hh:h<l.length:=by simpa using hh
     have hm:l.getD h default∈l:=by rw[ce,cF hh];exact List.getElem_mem hh
     exact ha (UN (s1 _ hm) k)
   .intro k;omega
theorem Ld{l:List aW}{t:aW}{h:Int}(hs:l.Pairwise gQ)(h0:0<=h)(h1:h<l.length):tP (l.getD h.toNat default) t<0↔h<gJ l t:=by
 rw[XP,L3 hs ab]
 rw[Int.toNat_of_nonneg h0]
def PM:Ct:=⟨[.val (.sl jM),.agg jM,.fn 130 0],[.val cI,.val .bool],λd=>[d.1.Pairwise gQ],λd=>((gJ d.1 d.2.1,(bif decide (gJ d.1 d.2.1<d.1.length) then decide (tP (d.1.getD (gJ d.1 d.2.1).toNat default) d.2.1=0) else false),()),())⟩
def am3:bu PM.ps->bS:=(λd=>{loops:=(bm 3 (λS=>{ι:=Int×Int,qn:=fj,μ:=λi=>(i.2-i.1).toNat,inv:=λi=>0<=i.1/\i.1<=gJ d.1 d.2.1/\gJ d.1 d.2.1<=i.2/\i.2<=d.1.length,keep:=[0,2,4,8],slots:=λi=>[(9,.int .i64 i.1),(10,.int .i64 i.2)],keepN:=[80]}) ci)})
def yi(h i:Int) :=
 de IntKind.u64 (IntKind.wrap .u64 (ai (h+i))) (1:Int)
theorem Uk :
 ∀(a:List (Int×Int×Int×Int×Int×ad))(b c d e f:Int)(g:ad),(a.length<=maxLen/\ ∀(h:Int×Int×Int×Int×Int×ad),h∈a->aj h.1/\aj h.2.1/\aj h.2.2.1/\aj h.2.2.2.1/\aj h.2.2.2.2.1/\h.2.2.2.2.2.length<=maxLen/\ ∀(i:Int),i∈h.2.2.2.2.2->0<=i/\i<=255)/\(aj b/\aj c/\aj d/\aj e/\aj f/\g.length<=maxLen/\ ∀(h:Int),h∈g->0<=h/\h<=255)/\True/\True->List.Pairwise gQ a->(∃(h:Int) (i:Int),(0<=h/\h<=gJ a (b,c,d,e,f,g)/\gJ a (b,c,d,e,f,g)<=i/\i<=(ac a))/\a=a/\(ac a)=(ac a)/\0=h/\(ac a)=i/\b=b/\c=c/\d=d/\e=e/\f=f/\g=g/\True)/\ ∀(h i:Int),0<=h/\h<=gJ a (b,c,d,e,f,g)/\gJ a (b,c,d,e,f,g)<=i/\i<=(ac a)->ao (decide (h<i)) ((0:Int)<=1/\0<=ai (yi h i)/\ai (yi h i)<(ac a)/\ao (decide (tP (ah a (ai (yi h i))) (b,c,d,e,f,g)<0)) (∃(j:Int) (k:Int),(0<=j/\j<=gJ a (b,c,d,e,f,g)/\gJ a (b,c,d,e,f,g)<=k/\k<=(ac a))/\toNat (k -j)<toNat (i -h)/\a=a/\(ac a)=(ac
 a)/\ai (ai (yi h i)+1)=j/\i=k/\b=b/\c=c/\d=d/\e=e/\f=f/\g=g/\True) (∃(j:Int) (k:Int),(0<=j/\j<=gJ a (b,c,d,e,f,g)/\gJ a (b,c,d,e,f,g)<=k/\k<=(ac a))/\toNat (k -j)<toNat (i -h)/\a=a/\(ac a)=(ac a)/\h=j/\ai (yi h i)=k/\b=b/\c=c/\d=d/\e=e/\f=f/\g=g/\True)) (∀(j:Bool),j=decide (h<(ac a))->(j->(aq j)/\(aq j)/\0<=h/\h<(ac a)/\True)/\(ae j)/\(j->(aq j)/\(aq j)/\(aq j)/\True)/\(ae j)/\(aq j)/\h=gJ a (b,c,d,e,f,g)/\(bif j then decide (tP (ah a h) (b,c,d,e,f,g)=0) else false)=bif decide (gJ a (b,c,d,e,f,g)<(ac a)) then decide (tP (ah a (gJ a (b,c,d,e,f,g))) (b,c,d,e,f,g)=0) else false):=by
  delta yi ae aq ai ah ac;rintro x p1 p2 p3 p4 p5 p6 ⟨⟨hl,-⟩,-⟩ hs;simp only[maxLen] at hl;obtain⟨q0,q1⟩:=JK x (p1,p2,p3,p4,p5,p6);refine⟨⟨0,x.length,⟨ab,q0,q1,ab⟩,aM⟩,?_⟩;rintro i j ⟨h0,h1,h2,h3⟩;refine bt (λhb=>?_) (λhb=>?_)
  .rw[Ln h0 ab ab];refine⟨ab,ab,ab,bt (λhc=>?_) (λhc=>?_)⟩
   .have hc:=(Ld hs ab ab).1 hc;rw[aQ ab ab];exact⟨(i+j)/2+1,j,⟨ab,ab,h2,h3⟩,ab,aM⟩
   .have hc:¬ (i+j)/2<gJ x (p1,p2,p3,p4,p5,p6):=λh=>absurd ((Ld hs ab ab).2 h) hc;exact⟨i,(i+j)/2,⟨h0,h1,ab,ab⟩,ab,aM⟩
  .have:i=gJ x (p1,p2,p3,p4,p5,p6):=ab;subst this
   (repeat (refine bO ?_;repeat refine bP ?_));exact rfl
theorem aC9:aD 129 PM.spec:=aH Tryz.func129 (au aE U1) am3 Uk
theorem Qu{α:Type}{p q:α->Bool}:∀{l:List α},(∀ x∈l,p x=q x)->l.takeWhile p=l.takeWhile q/\l.dropWhile p=l.dropWhile q
 | [],_=>⟨rfl,rfl⟩
 | a::l,h=>by
  obtain⟨h1,h2⟩:=Qu (l:=l) λx hx=>h x (fw _ hx);have ha:=h a (fF ..);rw[List.takeWhile_cons,List.takeWhile_cons,List.dropWhile_cons,List.dropWhile_cons,ha,h1,h2];exact⟨rfl,rfl⟩
theorem aY2{l:List aW}{f:aW}(hf:∀ x∈l,jT x<jT f):l.take (gJ l f).toNat++([f]++l.drop (gJ l f).toNat)=da l f:=by
 obtain⟨e1,e2⟩:=Qu (p:=λx=>decide (gQ x f)) (q:=λx=>decide (aI x<=aI f)) (l:=l) λx hx=>by
  have:=hf x hx;apply decide_eq_decide.2;unfold gQ;omega
 have k:=rC (p:=λx=>decide (gQ x f)) (l:=l)
 have t1:∀ A B:List aW,A++B=l->l.take A.length=A/\l.drop A.length=B:=by
  rintro A B rfl;exact⟨List.take_left' rfl,List.drop_left' rfl⟩
 obtain⟨t2,t3⟩:=t1 _ _ k
 unfold gJ
 rw[Int.toNat_natCast,t2,t3]
 unfold da
 rw[e1,e2]
 rfl
def at2:Ct:=⟨[.box 39 rf,.agg jM],[],λd=>[(ax d.1).Pairwise gQ,∀ x∈ax d.1,jT x<bj d.1,(ax d.1).length<=4096],λd=>((),(vH d.1 d.2.1,()))⟩
theorem ad2 :
 ∀(a:List ar)(b:List aN)(c:List aT)(d e f:Int)(g:List (List aG×Int×ad×(Int×Int)×Int))(h:ad)(i:List (Int×Int×Int×Int×Int×ad))(j:List (Int×Int×ad))(k:List (Int×Int×Int×Int×Int))(l m n o p:Int)(q:ad),(((a.length<=maxLen/\ ∀(r:ar),r∈a->CT.wf bN r)/\(b.length<=maxLen/\ ∀(r:aN),r∈b->CT.wf gh r)/\c.length<=maxLen/\ ∀(r:aT),r∈c->CT.wf ft r)/\aj d/\aj e/\aj f/\(g.length<=maxLen/\ ∀(r:List aG×Int×ad×(Int×Int)×Int),r∈g->(r.1.length<=maxLen/\ ∀(s:aG),s∈r.1->((0<=s.1.1/\s.1.1<=4294967295)/\aj s.1.2)/\(s.2.1.length<=maxLen/\ ∀(t:Int),t∈s.2.1->aj t)/\aj s.2.2)/\aj r.2.1/\(r.2.2.1.length<=maxLen/\ ∀(s:Int),s∈r.2.2.1->aj s)/\(aj r.2.2.2.1.1/\aj r.2.2.2.1.2)/\aj r.2.2.2.2)/\(h.length<=maxLen/\ ∀(r:Int),r∈h->aj r)/\(i.length<=maxLen/\ ∀(r:Int×Int×Int×Int×Int×ad),r∈i->aj r.1/\aj r.2.1/\aj r.2.2.1/\aj
 r.2.2.2.1/\aj r.2.2.2.2.1/\r.2.2.2.2.2.length<=maxLen/\ ∀(s:Int),s∈r.2.2.2.2.2->0<=s/\s<=255)/\(j.length<=maxLen/\ ∀(r:Int×Int×ad),r∈j->aj r.1/\aj r.2.1/\r.2.2.length<=maxLen/\ ∀(s:Int),s∈r.2.2->0<=s/\s<=255)/\k.length<=maxLen/\ ∀(r:Int×Int×Int×Int×Int),r∈k->aj r.1/\aj r.2.1/\aj r.2.2.1/\aj r.2.2.2.1/\aj r.2.2.2.2)/\(aj l/\aj m/\aj n/\aj o/\aj p/\q.length<=maxLen/\ ∀(r:Int),r∈q->0<=r/\r<=255)/\True->List.Pairwise gQ (ax ((a,b,c),d,e,f,g,h,i,j,k))/\(∀(r:aW),r∈ax ((a,b,c),d,e,f,g,h,i,j,k)->jT r<bj ((a,b,c),d,e,f,g,h,i,j,k))/\length (ax ((a,b,c),d,e,f,g,h,i,j,k))<=(4096:Nat)->List.Pairwise gQ i/\length [(l,e,n,o,p,q)]=(1:Nat)/\0<=gJ i (l,e,n,o,p,q)/\gJ i (l,e,n,o,p,q)<=(ac i)/\(i.length+(1:Nat))*(64:Nat)<=(kS)/\((a,b,c),d,ai (e+1),f,g,h,take (toNat (gJ i (l,e,n,o,p,q))) i++([(l,e,n,o,p,q)]++drop (toNat (gJ i
 (l,e,n,o,p,q))) i),j,k)=vH ((a,b,c),d,e,f,g,h,i,j,k) (l,m,n,o,p,q):=by
  delta kS ai ac;rintro ns ls hs now ord dn sts cr fl dl en a b c e f g-⟨h1,h2,h3⟩;have h1:fl.Pairwise gQ:=h1;have h2:∀ x∈fl,jT x<ord:=h2;have h3:fl.length<=4096:=h3;obtain⟨q0,q1⟩:=JK fl (a,ord,c,e,f,g);refine⟨h1,rfl,q0,q1,ab,?_⟩;rw[aY2 (f:=(a,ord,c,e,f,g)) h2];rfl
theorem NL:aD 62 at2.spec:=aH Tryz.func62 (au (au aE aC9) ah9) aR ad2
def QU:Ct:=⟨[.box 39 rf],[],λd=>[m6 d.1],λd=>((),(cq d.1,()))⟩
def Zr:bu QU.ps->bS:=(λd=>{loops:=(bm 0 (λS=>{ι:=Int×(List bY),qn:=fj,μ:=λi=>((az d.1).2.2.length-i.1).toNat,inv:=λi=>m6 (kf (fL d.1 i.2) i.1)/\cq (kf (fL d.1 i.2) i.1)=cq d.1,keep:=[0],slots:=λi=>[],keepN:=[2097153,2097154,2097155,2097156],names:=λi=>[(1048576,.live (.cells 39 (cR gS d.1.1++[.int .i64 d.1.2.1,.int .i64 d.1.2.2.1,.int .i64 i.1,.own 524288 6,.own 2097153 1,.own 2097154 6,.own 2097155 3,.own 2097156 5]))),(524288,.live (.row 123 i7 i.2))]}) ci)})
def Ck(a:List ar)(b:List aN)(c:List aT)(d e f:Int)(g:List (List aG×Int×ad×(Int×Int)×Int))(h:ad)(i:List (Int×Int×Int×Int×Int×ad))(j:List (Int×Int×ad))(k:List (Int×Int×Int×Int×Int)) :=
 ((a.length<=maxLen/\ ∀(l:ar),l∈a->CT.wf bN l)/\(b.length<=maxLen/\ ∀(l:aN),l∈b->CT.wf gh l)/\c.length<=maxLen/\ ∀(l:aT),l∈c->CT.wf ft l)/\aj d/\aj e/\aj f/\(g.length<=maxLen/\ ∀(l:List aG×Int×ad×(Int×Int)×Int),l∈g->(l.1.length<=maxLen/\ ∀(m:aG),m∈l.1->((0<=m.1.1/\m.1.1<=4294967295)/\aj m.1.2)/\(m.2.1.length<=maxLen/\ ∀(n:Int),n∈m.2.1->aj n)/\aj m.2.2)/\aj l.2.1/\(l.2.2.1.length<=maxLen/\ ∀(m:Int),m∈l.2.2.1->aj m)/\(aj l.2.2.2.1.1/\aj l.2.2.2.1.2)/\aj l.2.2.2.2)/\(h.length<=maxLen/\ ∀(l:Int),l∈h->aj l)/\(i.length<=maxLen/\ ∀(l:Int×Int×Int×Int×Int×ad),l∈i->aj l.1/\aj l.2.1/\aj l.2.2.1/\aj l.2.2.2.1/\aj l.2.2.2.2.1/\l.2.2.2.2.2.length<=maxLen/\ ∀(m:Int),m∈l.2.2.2.2.2->0<=m/\m<=255)/\(j.length<=maxLen/\ ∀(l:Int×Int×ad),l∈j->aj l.1/\aj l.2.1/\l.2.2.length<=maxLen/\ ∀(m:Int),m∈l.2.2->0<=m/\m<=255)/\k.length<=maxLen/\
 ∀(l:Int×Int×Int×Int×Int),l∈k->aj l.1/\aj l.2.1/\aj l.2.2.1/\aj l.2.2.2.1/\aj l.2.2.2.2
def uc(c:List aT)(l:Int)(m:List bY) :=
 m.getD (toNat (ah c l).2.1) default
theorem aO7 :
 ∀(a:List ar)(b:List aN)(c:List aT)(d e f:Int)(g:List (List aG×Int×ad×(Int×Int)×Int))(h:ad)(i:List (Int×Int×Int×Int×Int×ad))(j:List (Int×Int×ad))(k:List (Int×Int×Int×Int×Int)),(Ck a b c d e f g h i j k)/\True->fv ((a,b,c),d,e,f,g,h,i,j,k)∨c=([]:List aT)/\bX ((a,b,c),d,e,f,g,h,i,j,k)=0->(∃(l:Int) (m:List bY),(m6 (kf (fL ((a,b,c),d,e,f,g,h,i,j,k) m) l)/\cq (kf (fL ((a,b,c),d,e,f,g,h,i,j,k) m) l)=cq ((a,b,c),d,e,f,g,h,i,j,k))/\h=h/\i=i/\j=j/\k=k/\a=a/\b=b/\c=c/\d=d/\e=e/\f=l/\g=m/\True)/\ ∀(l:Int)(m:List bY),m6 (kf (fL ((a,b,c),d,e,f,g,h,i,j,k) m) l)/\cq (kf (fL ((a,b,c),d,e,f,g,h,i,j,k) m) l)=cq ((a,b,c),d,e,f,g,h,i,j,k)-> ∀(n:Bool),n=decide (l<(ac c))->(ae n)/\(ae n)/\(ae n)/\(ae n)/\(ae n)/\(ae n)/\(ae n)/\(n->(aq n)/\(aq n)/\0<=l/\l<(ac c)/\True)/\(ae
 n)/\(ae n)/\(ae n)/\(ae n)/\(ae n)/\(n->(aq n)/\(aq n)/\True)/\(aq n)/\ao (bif n then decide ((ah c l).1<=d) else false) (0<=l/\l<(ac c)/\0<=(ah c l).2.1/\(ah c l).2.1<(ac m)/\ao (ah c l).2.2.1 (cK (uc c l m).1/\okL (uc c l m).1/\ ∃(o:Int) (p:List bY),(m6 (kf (fL ((a,b,c),d,e,f,g,h,i,j,k) p) o)/\cq (kf (fL ((a,b,c),d,e,f,g,h,i,j,k) p) o)=cq ((a,b,c),d,e,f,g,h,i,j,k))/\toNat ((ac c) -o)<toNat ((ac c) -l)/\h=h/\i=i/\j=j/\k=k/\a=a/\b=b/\c=c/\d=d/\e=e/\ai (l+1)=o/\set m (toNat (ah c l).2.1) (jl (uc c l m).1 (ah c l).2.2.2.1,(uc c l m).2)=p/\True) (cK (uc c l m).1/\okL (uc c l m).1/\((length (ah c l).2.2.2.2.1):Int)<=1099511627776/\ ∃(o:Int) (p:List bY),(m6 (kf (fL ((a,b,c),d,e,f,g,h,i,j,k) p) o)/\cq (kf (fL ((a,b,c),d,e,f,g,h,i,j,k) p) o)=cq
 ((a,b,c),d,e,f,g,h,i,j,k))/\toNat ((ac c) -o)<toNat ((ac c) -l)/\h=h/\i=i/\j=j/\k=k/\a=a/\b=b/\c=c/\d=d/\e=e/\ai (l+1)=o/\set m (toNat (ah c l).2.1) (f6 (uc c l m).1 (ah c l).2.2.2,(uc c l m).2)=p/\True)) (((a,b,c),d,e,l,m,h,i,j,k)=cq ((a,b,c),d,e,f,g,h,i,j,k)):=by
  delta Ck uc ae aq ai ah ac;rintro ns ls hs now ord dn0 sts cr fl dl en ⟨⟨⟨-,-,⟨hl,-⟩⟩,-⟩,-⟩ h;simp only[maxLen] at hl;refine⟨⟨dn0,sts,⟨h,rfl⟩,aM⟩,?_⟩;rintro dn st ⟨hv,he⟩;obtain⟨v,hw⟩:∃ v:aJ,v=kf (fL ((ns,ls,hs),now,ord,dn0,sts,cr,fl,dl,en) st) dn:=⟨_,rfl⟩
  rw[← hw] at hv he;have hdn:bX v=dn:=by rw[hw];rfl
  have hd0:0<=dn:=by rcases hv with q|q;have:=q.done.1;omega;have:=q.2;omega
  (repeat (refine bO ?_;repeat refine bP ?_));refine pT (λh1 h2=>?_) (λh12=>?_)
  rotate_left
  .rw[← he,Nv,hw]
   .rfl
   .intro k;unfold mY at k;rw[hw,dr] at k;rcases h12 with q|q
    .exact absurd (k.1.symm.trans q) aC
    .exact absurd (k.2.symm.trans q) aC
  have hd1:dn<hs.length:=aL h1;have hv:fv v:=hv.resolve_right λq=>by
   have q1:hs=[]:=by have:=q.1;rw[hw] at this;exact this
   rw[q1] at hd1;simp at hd1;omega
  have hdue:mY v=true:=by
   unfold mY;rw[hw,dr];exact⟨h1,h2⟩
  have eN:az v=(ns,ls,hs):=by rw[hw];rfl
  have eS:aU v=st:=by rw[hw];rfl
  have hk:dn.toNat<(az v).2.2.length:=by rw[eN];show dn.toNat<hs.length;omega
  obtain⟨-,⟨w0,w1⟩,hc⟩:=Bb hv.net hk;have hlen:=hv.len;have hsw:=hv.chg hdue;have hst:=(NY hv hdue).symm.trans he;rw[eN,eS] at hlen;rw[eN] at w0 w1 hc;have hlen:st.length=ns.length:=hlen;obtain⟨c,ec⟩:∃ c:aT,c=hs.getD dn.toNat default:=⟨_,rfl⟩
  have w0:0<=bI c:=by rw[ec];exact w0
  have w1:bI c<ns.length:=by rw[ec];exact w1
  have hi:(bI c).toNat<(az v).1.length:=by rw[eN];show (bI c).toNat<ns.length;omega
  obtain⟨c1,c2⟩:=uU (hv.chk hi);rw[eS] at c1 c2;have et:jL v=c:=by rw[ec,hw];rfl
  have ed:bX v=dn:=by rw[hw];rfl
  have ev:mg v=kf (fL ((ns,ls,hs),now,ord,dn0,sts,cr,fl,dl,en) (st.set (bI c).toNat (EP (st.getD (bI c).toNat default) (fT (bn (st.getD (bI c).toNat default)) c)))) (dn+1):=by
   unfold mg;rw[et,ed,eS,aQ ab ab,hw];rfl
  rw[ev] at hsw hst;have wd:IntKind.i64.wrap (dn+1)=dn+1:=aQ ab ab;rw[← ec];refine⟨hd0,hd1,w0,by rw[hlen];exact w1,av (λhr=>?_) (λhr=>?_)⟩
  .have er:fT (bn (st.getD (bI c).toNat default)) c=jl (bn (st.getD (bI c).toNat default)) (dB c).1:=by unfold fT;exact am hr
   rw[er] at hsw hst;refine⟨c1,c2,dn+1,_,⟨.inl hsw,hst⟩,by show (hs.length-(dn+1)).toNat<(hs.length-dn).toNat;omega,?_⟩
   (repeat refine iK ?_);exact⟨rfl,bv⟩
  .have er:fT (bn (st.getD (bI c).toNat default)) c=f6 (bn (st.getD (bI c).toNat default)) (dB c):=by unfold fT;rw[af (by rw[show o8 c=false from hr];simp)]
   have hin:((dB c).2.1.length:Int)<=1099511627776:=by
    have hc':=(uU hc).2.2;rw[← ec] at hc';have e2:fT ((dD (ns,ls,hs) dn.toNat).getD (bI c).toNat default) c=f6 ((dD (ns,ls,hs) dn.toNat).getD (bI c).toNat default) (dB c):=by unfold fT;rw[af (by rw[show o8 c=false from hr];simp)]
    have hc2:okL (f6 ((dD (ns,ls,hs) dn.toNat).getD (bI c).toNat default) (dB c)):=by
     have:=(uU hc).2;rw[← e2,ec];exact this
    exact hc2.2 _ (by unfold f6;simp)
   rw[er] at hsw hst;refine⟨c1,c2,hin,dn+1,_,⟨.inl hsw,hst⟩,by show (hs.length-(dn+1)).toNat<(hs.length-dn).toNat;omega,?_⟩
   (repeat refine iK ?_);exact⟨rfl,bv⟩
theorem Kt:aD 60 QU.spec:=aH Tryz.func60 (au (au aE Mc) Lq) Zr aO7
def az5:Ct:=⟨[.box 39 rf,.agg jM,.val cI,.val cI],[],λd=>[((aV d.1).length:Int)<=1000000000000],λd=>((),(lP d.1 d.2.1 d.2.2.1 d.2.2.2.1,()))⟩
def B7(a:List ar)(b:List aN)(c:List aT)(d e f:Int)(g:List (List aG×Int×ad×(Int×Int)×Int))(h:ad)(i:List (Int×Int×Int×Int×Int×ad))(j:List (Int×Int×ad))(k:List (Int×Int×Int×Int×Int)) :=
 ((a.length<=maxLen/\ ∀(t:ar),t∈a->CT.wf bN t)/\(b.length<=maxLen/\ ∀(t:aN),t∈b->CT.wf gh t)/\c.length<=maxLen/\ ∀(t:aT),t∈c->CT.wf ft t)/\aj d/\aj e/\aj f/\(g.length<=maxLen/\ ∀(t:List aG×Int×ad×(Int×Int)×Int),t∈g->(t.1.length<=maxLen/\ ∀(u:aG),u∈t.1->((0<=u.1.1/\u.1.1<=4294967295)/\aj u.1.2)/\(u.2.1.length<=maxLen/\ ∀(v:Int),v∈u.2.1->aj v)/\aj u.2.2)/\aj t.2.1/\(t.2.2.1.length<=maxLen/\ ∀(u:Int),u∈t.2.2.1->aj u)/\(aj t.2.2.2.1.1/\aj t.2.2.2.1.2)/\aj t.2.2.2.2)/\(h.length<=maxLen/\ ∀(t:Int),t∈h->aj t)/\(i.length<=maxLen/\ ∀(t:Int×Int×Int×Int×Int×ad),t∈i->aj t.1/\aj t.2.1/\aj t.2.2.1/\aj t.2.2.2.1/\aj t.2.2.2.2.1/\t.2.2.2.2.2.length<=maxLen/\ ∀(u:Int),u∈t.2.2.2.2.2->0<=u/\u<=255)/\(j.length<=maxLen/\ ∀(t:Int×Int×ad),t∈j->aj t.1/\aj t.2.1/\t.2.2.length<=maxLen/\ ∀(u:Int),u∈t.2.2->0<=u/\u<=255)/\k.length<=maxLen/\
 ∀(t:Int×Int×Int×Int×Int),t∈k->aj t.1/\aj t.2.1/\aj t.2.2.1/\aj t.2.2.2.1/\aj t.2.2.2.2
theorem aA3 :
 ∀(a:List ar)(b:List aN)(c:List aT)(d e f:Int)(g:List (List aG×Int×ad×(Int×Int)×Int))(h:ad)(i:List (Int×Int×Int×Int×Int×ad))(j:List (Int×Int×ad))(k:List (Int×Int×Int×Int×Int))(l m n o p:Int)(q:ad)(r s:Int),(B7 a b c d e f g h i j k)/\(aj l/\aj m/\aj n/\aj o/\aj p/\q.length<=maxLen/\ ∀(t:Int),t∈q->0<=t/\t<=255)/\aj r/\aj s/\True->((length (aV ((a,b,c),d,e,f,g,h,i,j,k))):Int)<=1000000000000->(k.length+length [(p,l,n,r,s)])*(40:Nat)<=(kS)/\((a,b,c),d,e,f,g,h,i,j,k++[(p,l,n,r,s)])=lP ((a,b,c),d,e,f,g,h,i,j,k) (l,m,n,o,p,q) r s:=by
  delta B7 kS;rintro ns ls hs now ord dn sts cr fl dl en a b c e f g l r-h;have h:(en.length:Int)<=1000000000000:=h;exact⟨by simp only[eU];omega,rfl⟩
theorem Ls:aD 122 az5.spec:=aH Tryz.func122 aE aR aA3
def Nn(n:Int):Int:=IntKind.u64.wrap n
def Yd:Ct:=⟨[.box 39 rf,.agg jM,.agg uG],[],λd=>[(ax d.1).Pairwise gQ,∀ x∈ax d.1,jT x<bj d.1,(ax d.1).length<=4096,((aV d.1).length:Int)<=1000000000000,(bH d.1).length=(az d.1).2.1.length,0<=d.2.2.1.1,d.2.2.1.1<(az d.1).2.1.length,ia (az d.1).1.length (cP d.1 d.2.2.1.1)],λd=>((),(eJ d.1 d.2.1 d.2.2.1,()))⟩
def G3(b:List aN)(d:Int)(h:ad)(r:Int) :=
 ai (d+(ah b r).2.2.1)+ai (Int.tmod (IntKind.wrap .u64 (Int.tdiv (ir (bits BinOp.xor IntKind.u64 (ir (IntKind.wrap .u64 (ah b r).2.2.2.2.2)) (IntKind.wrap .u64 (ah h r)))) (65536:Int))) (IntKind.wrap .u64 (ai ((ah b r).2.2.2.1+1))))
def nW(h:ad)(r:Int) :=
 ai (ah h r+1)
theorem UV :
 ∀(a:List ar)(b:List aN)(c:List aT)(d e f:Int)(g:List (List aG×Int×ad×(Int×Int)×Int))(h:ad)(i:List (Int×Int×Int×Int×Int×ad))(j:List (Int×Int×ad))(k:List (Int×Int×Int×Int×Int))(l m n o p:Int)(q:ad)(r:Int)(s:ad),(B7 a b c d e f g h i j k)/\(aj l/\aj m/\aj n/\aj o/\aj p/\q.length<=maxLen/\ ∀(t:Int),t∈q->0<=t/\t<=255)/\(aj r/\s.length<=maxLen/\ ∀(t:Int),t∈s->0<=t/\t<=255)/\True->List.Pairwise gQ (ax ((a,b,c),d,e,f,g,h,i,j,k))/\(∀(t:aW),t∈ax ((a,b,c),d,e,f,g,h,i,j,k)->jT t<bj ((a,b,c),d,e,f,g,h,i,j,k))/\length (ax ((a,b,c),d,e,f,g,h,i,j,k))<=(4096:Nat)/\((length (aV ((a,b,c),d,e,f,g,h,i,j,k))):Int)<=1000000000000/\length (bH ((a,b,c),d,e,f,g,h,i,j,k))=b.length/\0<=r/\r<(ac b)/\0<=lA (cP ((a,b,c),d,e,f,g,h,i,j,k) r)/\lA (cP ((a,b,c),d,e,f,g,h,i,j,k) r)<(ac a)/\0<=lB (cP
 ((a,b,c),d,e,f,g,h,i,j,k) r)/\lB (cP ((a,b,c),d,e,f,g,h,i,j,k) r)<(ac a)/\lA (cP ((a,b,c),d,e,f,g,h,i,j,k) r)≠lB (cP ((a,b,c),d,e,f,g,h,i,j,k) r)/\1<=mL (cP ((a,b,c),d,e,f,g,h,i,j,k) r)/\mL (cP ((a,b,c),d,e,f,g,h,i,j,k) r)<=1073741824/\0<=iH (cP ((a,b,c),d,e,f,g,h,i,j,k) r)/\iH (cP ((a,b,c),d,e,f,g,h,i,j,k) r)<=1073741824/\0<=mP (cP ((a,b,c),d,e,f,g,h,i,j,k) r)/\mP (cP ((a,b,c),d,e,f,g,h,i,j,k) r)<=65536->0<=r/\r<(ac b)/\0<=r/\r<(ac h)/\0<=r/\r<(ac h)/\0<=r/\r<(ac h)/\(65536:Int)≠(0:Int)/\ao (decide (Int.tmod (ir (bits BinOp.xor IntKind.u64 (ir (IntKind.wrap .u64 (ah b r).2.2.2.2.2)) (IntKind.wrap .u64 (ah h r)))) 65536<IntKind.wrap .u64 (ah b r).2.2.2.2.1)) (((length (aV ((a,b,c),d,e,f,g,set h r.toNat (nW h r),i,j,k))):Int)<=1000000000000/\((a,b,c),d,e,f,g,set h r.toNat (nW h r),i,j,aV
 ((a,b,c),d,e,f,g,set h r.toNat (nW h r),i,j,k)++[(fG (l,m,n,o,p,q),aI (l,m,n,o,p,q),bh (l,m,n,o,p,q),r,(3:Int))])=eJ ((a,b,c),d,e,f,g,h,i,j,k) (l,m,n,o,p,q) (r,s)) ((65536:Int)≠(0:Int)/\IntKind.wrap .u64 (ai ((ah b r).2.2.2.1+1))≠(0:Int)/\ ∀(t:Bool),t=decide (1125899906842624<ai (G3 b d h r))->(ae (! t))/\(ae (! t))/\(ae (! t))/\(ae (! t))/\(ae (! t))/\(aF t)/\ao (bif t then true else decide (4096<=(ac i))) (((length (aV ((a,b,c),d,e,f,g,set h r.toNat (nW h r),i,j,k))):Int)<=1000000000000/\((a,b,c),d,e,f,g,set h r.toNat (nW h r),i,j,aV ((a,b,c),d,e,f,g,set h r.toNat (nW h r),i,j,k)++[(fG (l,m,n,o,p,q),aI (l,m,n,o,p,q),bh (l,m,n,o,p,q),r,(7:Int))])=eJ ((a,b,c),d,e,f,g,h,i,j,k) (l,m,n,o,p,q) (r,s)) (List.Pairwise gQ (ax ((a,b,c),d,e,f,g,set h r.toNat (nW h r),i,j,k))/\(∀(u:aW),u∈ax ((a,b,c),d,e,f,g,set h
 r.toNat (nW h r),i,j,k)->jT u<bj ((a,b,c),d,e,f,g,set h r.toNat (nW h r),i,j,k))/\length (ax ((a,b,c),d,e,f,g,set h r.toNat (nW h r),i,j,k))<=(4096:Nat)/\((a,b,c),d,ai (bj ((a,b,c),d,e,f,g,set h r.toNat (nW h r),i,j,k)+1),f,g,set h r.toNat (nW h r),da (ax ((a,b,c),d,e,f,g,set h r.toNat (nW h r),i,j,k)) (aI (ai (G3 b d h r),(0:Int),f7 b r n,r,p,s),bj ((a,b,c),d,e,f,g,set h r.toNat (nW h r),i,j,k),f7 b r n,r,p,s),j,k)=eJ ((a,b,c),d,e,f,g,h,i,j,k) (l,m,n,o,p,q) (r,s))):=by
  delta B7 G3 nW ae aF ai ah ac;rintro ns ls hs now ord dn sts cr fl dl en a b c e f g k o-⟨h1,h2,h3,h4,h5,h6,h7,h8⟩;obtain⟨w,hw⟩:∃ w:aJ,w=((ns,ls,hs),now,ord,dn,sts,cr,fl,dl,en):=⟨_,rfl⟩
  obtain⟨x,hx⟩:∃ x:aW,x=(a,b,c,e,f,g):=⟨_,rfl⟩
  have h8:ia ns.length (cP w k):=by rw[hw];exact h8
  have h4:(en.length:Int)<=1000000000000:=h4;have h5:cr.length=ls.length:=h5;have h7:k<(ls.length:Int):=h7;obtain⟨-,-,-,-,-,d1,d2,j1,j2,l1,l2⟩:=h8;have eL:cP w k=ls.getD k.toNat default:=by rw[hw];rfl
  have eC:i5 w k=cr.getD k.toNat default:=by rw[hw];rfl
  have e1:IntKind.i64.wrap (iH (cP w k)+1)=iH (cP w k)+1:=aQ ab ab;have e2:IntKind.u64.wrap (iH (cP w k)+1)=iH (cP w k)+1:=yp ab ab;refine⟨h6,h7,h6,ab,h6,ab,h6,ab,bi,av (λhl=>?_) (λhl=>⟨bi,?_,?_⟩)⟩
  .have hl:=aL hl;have ec:eJ w x (k,o)=lP (oE w ((bH w).set k.toNat (IntKind.i64.wrap (i5 w k+1)))) x k 3:=by
    unfold eJ;exact am (by rw[eL,eC];exact hl)
   rw[← hw,← hx,ec,hw,hx];exact⟨h4,rfl⟩
  .show Nn (IntKind.i64.wrap (iH (ls.getD k.toNat default)+1))≠0;unfold Nn;rw[← eL,e1,e2];omega
  have hl:=aO hl;have hm:=Hu (bits .xor .u64 (ir (IntKind.wrap .u64 (uH (cP w k)))) (IntKind.wrap .u64 (i5 w k)));have eq:IntKind.u64.wrap (Int.tdiv (mN (cP w k) (i5 w k)) 65536)=Int.tdiv (mN (cP w k) (i5 w k)) 65536:=by
   unfold mN;rw[Aj hm.1];exact yp ab ab
  have eo:jv w k=IntKind.i64.wrap (IntKind.i64.wrap (now+(ls.getD k.toNat default).2.2.1)+IntKind.i64.wrap (Int.tmod (IntKind.u64.wrap (Int.tdiv (mN (ls.getD k.toNat default) (cr.getD k.toNat default)) 65536)) (IntKind.u64.wrap (IntKind.i64.wrap ((ls.getD k.toNat default).2.2.2.1+1))))):=by
   unfold jv Aq;rw[← eL,← eC,eq,hw];rfl
  have fin:∀ over:Int,jv w k=over→∀ b:Bool,b=decide (1125899906842624<over)->ao (bif b then true else decide (4096<=(fl.length:Int))) (((aV (oE w (cr.set k.toNat (IntKind.i64.wrap (cr.getD k.toNat default+1))))).length:Int)<=1000000000000/\lP (oE w (cr.set k.toNat (IntKind.i64.wrap (cr.getD k.toNat default+1)))) x k 7=eJ w x (k,o))
    (fl.Pairwise gQ/\(∀ z∈fl,jT z<ord)/\fl.length<=4096/\vH (oE w (cr.set k.toNat (IntKind.i64.wrap (cr.getD k.toNat default+1)))) (over,0,f7 ls k c,k,f,o)=eJ w x (k,o)):=by
   rintro over rfl b rfl;have e0:eJ w x (k,o)=if 1125899906842624<jv w k∨(4096:Int)<=(ax w).length then lP (oE w ((bH w).set k.toNat (IntKind.i64.wrap (i5 w k+1)))) x k 7 else vH (oE w ((bH w).set k.toNat (IntKind.i64.wrap (i5 w k+1)))) (jv w k,0,f7 (az w).2.1 k (bh x),k,fG x,o):=by
    unfold eJ;exact af (by rw[eL,eC];exact hl)
   have em:ax w=fl:=by rw[hw];rfl
   refine oT (λho=>?_) (λq1 q2=>?_)
   .refine⟨by rw[hw];exact h4,?_⟩;rw[e0,am (by rw[em];rcases ho with q|q;exact .inl (aL q);exact .inr (aL q)),hw];rfl
   .refine⟨h1,h2,h3,?_⟩;rw[e0,af (by rw[em];rintro (q|q);exact absurd q (aO q1);exact absurd q (aO q2)),hw,hx];rfl
  rw[hx,hw] at fin;intro b hb;have:=fin _ (hw▸eo) b hb
  (repeat refine⟨(by first|(simp;done)|(rw[hb];simp;done)|(rw[hb];simp;omega)),?_⟩);exact this
theorem SU:aD 123 Yd.spec:=aH Tryz.func123 (au (au (au (au aE L9) Ls) aj8) NL) aR UV
def OU:Ct:=⟨[.box 39 rf],[],λd=>[mq d.1,ax d.1≠[]],λd=>((),(dI d.1,()))⟩
def Y7:bu OU.ps->bS:=(λd=>{cuts:=(bm 8 (λS=>{ι:=aJ,inv:=λi=>i=jk d.1,keep:=[0,2,4,5],slots:=λi=>[],keepN:=[48,80],names:=λi=>[(1048576,.live (.cells 39 (cR gS (az i)++[.int .i64 (bg i),.int .i64 (bj i),.int .i64 (bX i),.own 524288 6,.own 524289 1,.own 524290 6,.own 524291 3,.own 524292 5]))),(524288,.live (.row 123 i7 (aU i))),(524289,.live (.row 3 cI (bH i))),(524290,.live (.row 134 jM (ax i))),(524291,.live (.row 88 sG (aY i))),(524292,.live (.row 78 qE (aV i)))]}) (bm 10 (λS=>{ι:=aJ,inv:=λi=>i=cu d.1,keep:=[0,2,4],slots:=λi=>[],keepN:=[48,80],names:=λi=>[(1048576,.live (.cells 39 (cR gS (az i)++[.int .i64 (bg i),.int .i64 (bj i),.int .i64 (bX i),.own 524288 6,.own 524289 1,.own 524290 6,.own 524291 3,.own 524292 5]))),(524288,.live (.row 123 i7 (aU i))),(524289,.live (.row 3 cI (bH i))),(524290,.live (.row 134 jM (ax i))),(524291,.live (.row 88 sG (aY i))),(524292,.live (.row 78 qE (aV i)))]}) ci))})
def ct(i:List (Int×Int×Int×Int×Int×ad)) :=
 ah i (0:Int)
def EC(i:List (Int×Int×Int×Int×Int×ad))(l:List ar)(r:List (List aG×Int×ad×(Int×Int)×Int)) :=
 fC (l.getD (toNat (ct i).2.2.1) default) (r.getD (toNat (ct i).2.2.1) default) (ct i).2.2.2.1 (ct i).1 (ct i).2.2.2.2.2
theorem aC0 :
 ∀(a:List ar)(b:List aN)(c:List aT)(d e f:Int)(g:List (List aG×Int×ad×(Int×Int)×Int))(h:ad)(i:List (Int×Int×Int×Int×Int×ad))(j:List (Int×Int×ad))(k:List (Int×Int×Int×Int×Int)),(Ck a b c d e f g h i j k)/\True->mq ((a,b,c),d,e,f,g,h,i,j,k)/\(ax ((a,b,c),d,e,f,g,h,i,j,k)=([]:List aW)->False)->(0:Int)<=0/\0<(ac i)/\(0:Int)<=1/\1<=(ac i)/\m6 ((a,b,c),(ct i).1,e,f,g,h,drop 1 i,j,k)/\ ∀(l:List ar)(m:List aN)(n:List aT)(o p q:Int)(r:List (List aG×Int×ad×(Int×Int)×Int))(s:ad)(t:List (Int×Int×Int×Int×Int×ad))(u:List (Int×Int×ad))(v:List (Int×Int×Int×Int×Int)),((l,m,n),o,p,q,r,s,t,u,v)=cq ((a,b,c),(ct i).1,e,f,g,h,drop 1 i,j,k)->0<=(ct i).2.2.1/\(ct i).2.2.1<(ac l)/\0<=(ct i).2.2.1/\(ct i).2.2.1<(ac r)/\cK (bn (r.getD (toNat (ct i).2.2.1) default))/\okL
 (bn (r.getD (toNat (ct i).2.2.1) default))/\((length (fD (r.getD (toNat (ct i).2.2.1) default))):Int)<=1000000/\((length (ct i).2.2.2.2.2):Int)<=1000000/\ ∀(w:List aG)(x:Int)(y:ad)(z A B C:Int)(D:ad)(E:Int),(w,x,y,(z,A),B)=(EC i l r).1/\(C,D)=(EC i l r).2.1/\E=(EC i l r).2.2->0<=(ct i).2.2.1/\(ct i).2.2.1<(ac r)/\ao (decide (E=1)) ((u.length+length [((ct i).1,(ct i).2.2.1,(ct i).2.2.2.2.2)])*(40:Nat)<=(kS)/\ ∃(F:aJ),F=jk ((a,b,c),d,e,f,g,h,i,j,k)/\E=E/\(ct i).1=(ct i).1/\(ct i).2.1=(ct i).2.1/\(ct i).2.2.1=(ct i).2.2.1/\(ct i).2.2.2.1=(ct i).2.2.2.1/\(ct i).2.2.2.2.1=(ct i).2.2.2.2.1/\(ct i).2.2.2.2.2=(ct i).2.2.2.2.2/\C=C/\D=D/\l=(az F).1/\m=(az F).2.1/\n=(az F).2.2/\o=bg F/\p=bj F/\q=bX F/\set r (toNat (ct i).2.2.1) (w,x,y,(z,A),B)=aU F/\s=bH F/\t=ax
 F/\u++[((ct i).1,(ct i).2.2.1,(ct i).2.2.2.2.2)]=aY F/\v=aV F/\True) (∃(F:aJ),F=jk ((a,b,c),d,e,f,g,h,i,j,k)/\E=E/\(ct i).1=(ct i).1/\(ct i).2.1=(ct i).2.1/\(ct i).2.2.1=(ct i).2.2.1/\(ct i).2.2.2.1=(ct i).2.2.2.1/\(ct i).2.2.2.2.1=(ct i).2.2.2.2.1/\(ct i).2.2.2.2.2=(ct i).2.2.2.2.2/\C=C/\D=D/\l=(az F).1/\m=(az F).2.1/\n=(az F).2.2/\o=bg F/\p=bj F/\q=bX F/\set r (toNat (ct i).2.2.1) (w,x,y,(z,A),B)=aU F/\s=bH F/\t=ax F/\u=aY F/\v=aV F/\True)/\ ∀(F:aJ),F=jk ((a,b,c),d,e,f,g,h,i,j,k)->ao (! decide (E=0)) (((length (aV (az F,F.2))):Int)<=1000000000000/\ ∃(G:aJ),G=cu ((a,b,c),d,e,f,g,h,i,j,k)/\(ct i).1=(ct i).1/\(ct i).2.1=(ct i).2.1/\(ct i).2.2.1=(ct i).2.2.1/\(ct i).2.2.2.1=(ct i).2.2.2.1/\(ct i).2.2.2.2.1=(ct i).2.2.2.2.1/\(ct i).2.2.2.2.2=(ct i).2.2.2.2.2/\C=C/\D=D/\(az F).1=(az
 G).1/\(az F).2.1=(az G).2.1/\(az F).2.2=(az G).2.2/\bg F=bg G/\bj F=bj G/\bX F=bX G/\aU F=aU G/\bH F=bH G/\ax F=ax G/\aY F=aY G/\aV (az F,F.2)++[(fG (ct i),aI (ct i),bh (ct i),(ct i).2.2.2.1,E)]=aV G/\True) (∃(G:aJ),G=cu ((a,b,c),d,e,f,g,h,i,j,k)/\(ct i).1=(ct i).1/\(ct i).2.1=(ct i).2.1/\(ct i).2.2.1=(ct i).2.2.1/\(ct i).2.2.2.1=(ct i).2.2.2.1/\(ct i).2.2.2.2.1=(ct i).2.2.2.2.1/\(ct i).2.2.2.2.2=(ct i).2.2.2.2.2/\C=C/\D=D/\(az F).1=(az G).1/\(az F).2.1=(az G).2.1/\(az F).2.2=(az G).2.2/\bg F=bg G/\bj F=bj G/\bX F=bX G/\aU F=aU G/\bH F=bH G/\ax F=ax G/\aY F=aY G/\aV F=aV G/\True)/\ ∀(G:aJ),G=cu ((a,b,c),d,e,f,g,h,i,j,k)->ao (decide (0<(ac D))) (List.Pairwise gQ (ax (az G,G.2))/\(∀(H:aW),H∈ax (az G,G.2)->jT H<bj (az G,G.2))/\length (ax (az
 G,G.2))<=(4096:Nat)/\((length (aV (az G,G.2))):Int)<=1000000000000/\length (bH (az G,G.2))=length (az G).2.1/\0<=C/\C<((length (az G).2.1):Int)/\ia (length (az G).1) (cP (az G,G.2) C)/\eJ (az G,G.2) (ct i) (C,D)=dI ((a,b,c),d,e,f,g,h,i,j,k)) ((az G,bg G,bj G,bX G,aU G,bH G,ax G,aY G,aV G)=dI ((a,b,c),d,e,f,g,h,i,j,k)):=by
  delta Ck ct EC kS ah ac;rintro ns ls hs now ord dn sts cr fl dl en-⟨h,hne⟩;obtain⟨f,r,rfl⟩:∃ f r,fl=f::r:=List.exists_cons_of_ne_nil hne;obtain⟨w,hw⟩:∃ w:aJ,w=((ns,ls,hs),now,ord,dn,sts,cr,f::r,dl,en):=⟨_,rfl⟩
  have e0:(f::r).getD (toNat 0) default=f:=rfl;have e1:drop 1 (f::r)=r:=rfl;simp only[e0,e1];rw[← hw] at h ⊢;have A:=h.at (w:=w) (f:=f) (r:=r) (by rw[hw];rfl)
  have ew:cB (fU w (ax w).tail) (aI (gY w))=((ns,ls,hs),f.1,ord,dn,sts,cr,r,dl,en):=by rw[A.eF,hw];rfl
  refine⟨ab,by simp only[cQ];omega,ab,by simp only[cQ];omega,by rw[← ew];exact .inl A.h0.weak,?_⟩;rw[← ew];intro a1 a2 a3 a4 a5 a6 a7 a8 a9 a10 a11 hv;have hv:((a1,a2,a3),a4,a5,a6,a7,a8,a9,a10,a11)=dQ w:=hv;have hi:(bh f).toNat<(az (dQ w)).1.length:=by have:=A.fk.nd;omega
  have hnd:=A.fk.nd;have hlen:=A.s.len;obtain⟨st,-⟩:=A.s.st _ hi;have N:=tA A.s.net hi;have hps:=st.ps;have hn32:=N.n32;have hdl:=h.d;have hen:=h.e;have E1:a1=(az (dQ w)).1:=by rw[← hv];rfl
  have E7:a7=aU (dQ w):=by rw[← hv];rfl
  have E10:a10=aY w:=by rw[← A.dl,← hv];rfl
  have E11:a11=aV w:=by rw[← A.en,← hv];rfl
  have E9:a9=ax (dQ w):=by rw[← hv];rfl
  have eH:gG w=fC (a1.getD (bh f).toNat default) (a7.getD (bh f).toNat default) (f8 f) (aI f) (eI f):=by unfold gG bd;rw[A.eF,E1,E7]
  have hfd:=A.fk.d;refine⟨hnd.1,by rw[E1];exact hnd.2,hnd.1,by rw[E7,hlen];exact hnd.2,by rw[E7];exact st.srt,by rw[E7];exact st.okl,by rw[E7];show ((fD ((aU (dQ w)).getD (bh f).toNat default)).length:Int)<=1000000;omega,by show ((eI f).length:Int)<=1000000;omega,?_⟩;intro b1 b2 b3 b4 b5 b6 o1 o2 why hh;obtain⟨hh1,hh2,hh3⟩:=hh;have hh1:(b1,b2,b3,(b4,b5),b6)=(gG w).1:=by rw[eH];exact hh1
  have hh2:(o1,o2)=(gG w).2.1:=by rw[eH];exact hh2
  have hh3:why=(gG w).2.2:=by rw[eH];exact hh3
  have eA:rP w=((a1,a2,a3),a4,a5,a6,a7.set (bh f).toNat (b1,b2,b3,(b4,b5),b6),a8,a9,a10,a11):=by unfold rP;rw[A.eF,hh1,← hv];rfl
  refine⟨hnd.1,by rw[E7,hlen];exact hnd.2,?_⟩;have lenD:((aY w).length:Int)<=999999999000:=ab;have lenE:((aV w).length:Int)<=999999999000:=ab;refine⟨bt (λk=>?_) (λk=>?_),?_⟩
  .have k:why=1:=k;have eB:jk w=((a1,a2,a3),a4,a5,a6,a7.set (bh f).toNat (b1,b2,b3,(b4,b5),b6),a8,a9,a10++[(aI f,bh f,eI f)],a11):=by
    rw[o5,am (hh3▸k),eA,A.eF,← hv];rfl
   exact⟨by rw[E10];simp only[eU];omega,_,eB.symm,aM⟩
  .have k:¬ why=1:=k;have eB:jk w=((a1,a2,a3),a4,a5,a6,a7.set (bh f).toNat (b1,b2,b3,(b4,b5),b6),a8,a9,a10,a11):=by
    rw[o5,af (hh3▸k),eA,← hv];rfl
   exact⟨_,eB.symm,aM⟩
  rintro B rfl;have eBn:aV (jk w)=aV w:=by rw[o5];show aV (rP w)=_;rw[eA];exact E11
  refine⟨av (λk=>?_) (λk=>?_),?_⟩
  .have k:¬ why=0:=fQ k;refine⟨by show ((aV (jk w)).length:Int)<=_;rw[eBn];omega,cu w,rfl,?_⟩;have eC:cu w=EZ (jk w) (aV (jk w)++[(fG f,aI f,bh f,f8 f,why)]):=by rw[rF,am (hh3▸k),A.eF,← hh3,eBn,← A.en]
   rw[eC];exact aM
  .have k:why=0:=gH k;refine⟨cu w,rfl,?_⟩;have eC:cu w=jk w:=by unfold cu;rw[af (by rw[← hh3,k];simp)]
   rw[eC];exact aM
  rintro C rfl;have eCe:∃ l,aV (cu w)=l/\(l.length:Int)<=1000000000000:=by
   refine⟨_,rfl,?_⟩;rw[rF];show ((if (gG w).2.2≠0 then aV (dQ w)++[(fG (gY w),aI (gY w),bh (gY w),f8 (gY w),(gG w).2.2)] else aV (dQ w)).length:Int)<=_;rw[A.en];split
   .rw[cD,eU];omega
   .omega
  obtain⟨l,el,hl⟩:=eCe;have c1:az (cu w)=az w:=by rw[rF,o5];exact A.net
  have c2:ax (cu w)=ax (dQ w):=by rw[rF,o5];rfl
  have c3:bj (cu w)=bj (dQ w):=by rw[rF,o5];rfl
  have c4:bH (cu w)=bH (dQ w):=by rw[rF,o5];rfl
  have hO:(gG w).2.1=(o1,o2):=hh2.symm;refine bt (λk=>?_) (λk=>?_)
  .have k:0<(o2.length:Int):=k;obtain⟨k1,k2,k3⟩:=A.out (by rw[hO];show 0<o2.length;omega);rw[hO] at k1 k2 k3;refine⟨by show (ax (cu w)).Pairwise gQ;rw[c2];exact A.s.fl,?_,by show (ax (cu w)).length<=4096;rw[c2];exact A.s.fn,by show ((aV (cu w)).length:Int)<=_;rw[el];exact hl,by show (bH (cu w)).length=(az (cu w)).2.1.length;rw[c4,c1,← A.net];exact A.s.cl,k1,by rw[c1];exact k2,by show ia (az (cu w)).1.length ((az (cu w)).2.1.getD o1.toNat default);rw[c1];exact k3,?_⟩
   .show ∀ x∈ax (cu w),jT x<bj (cu w);rw[c2,c3];exact λx hx=>(A.s.fo x hx).o.2
   .rw[EX,hO,am (by show 0<o2.length;omega),A.eF];rfl
  .have k:¬ 0<(o2.length:Int):=k;rw[EX,hO,af (by show ¬ 0<o2.length;omega)];rfl
theorem Ox:aD 57 OU.spec:=aH Tryz.func57 (Cp (au (au (au (au aE (Ct.named Kt)) (Ct.named Uo)) Ls) SU) (d:=17)) Y7 aC0
def oR(n:cC):aJ:=if dA n=0 then kq n else wL
def mH(w:aJ):Int:=if ax w=[] then 0 else aI ((ax w).headD default)
def iZ(w:aJ):Bool:=decide (ax w≠[])
def fO(w:aJ)(at' who:Int):Int:=if who<0∨((az w).1.length:Int)<=who then 8 else if 1125899906842624<at' then 1 else if at'<bg w then 6 else if (4096:Int)<=(ax w).length then 5 else 0
def gI(w:aJ)(at' who:Int)(b:ad):aJ:=if fO w at' who=0 then lY w at' who b else wL
def jj(w:aJ)(at' who:Int):Int:=if fO w at' who=0 then bj w else 0
def o6(w:aJ):aJ:=if ax w=[] then w else dI w
def iY(w:aJ)(to:Int):Int:=if 1125899906842624<to then 1 else if to<bg w then 6 else 0
def jx(w:aJ)(to:Int):aJ:=if iY w to=0 then xG w to else wL
def OX:Ct:=⟨[.agg gS],[.agg fX,.val cI],λd=>[lT d.1],λd=>((oR d.1,dA d.1,()),())⟩
def Xy:bu OX.ps->bS:=(λd=>{loops:=(bm 6 (λS=>{ι:=Int×(List bY),qn:=fj,μ:=λi=>(d.1.1.length-i.1).toNat,inv:=λi=>0<=i.1/\i.1<=d.1.1.length/\i.2=(d.1.1.take i.1.toNat).map lJ,keep:=[1,2,5,22,23],slots:=λi=>[(24,.int .i64 i.1)],keepN:=[32,48,320],names:=λi=>[(96,.live (.cells 39 (cR gS d.1++[.int .i64 0,.int .i64 0,.int .i64 0,.own 524288 6,.own 320 1,.nilsl,.nilsl,.nilsl]))),(524288,.live (.row 123 i7 i.2))]}) ci)})
def r9 :=
 ((([]:List ar),([]:List aN),([]:List aT)),(0:Int),(0:Int),(0:Int),([]:List (List aG×Int×ad×(Int×Int)×Int)),([]:ad),([]:List (Int×Int×Int×Int×Int×ad)),([]:List (Int×Int×ad)),([]:List (Int×Int×Int×Int×Int)))
def JT(a:List ar)(d:Int) :=
 (bf (ah a d),(0:Int),replicate (length (aA (ah a d))) (0:Int),(w ((ah a d).2.2.2.2.2.2.2.2.2.2.1.1*(ah a d).2.2.2.2.2.2.2.2.2.2.1.2),(0:Int)),(0:Int))
theorem TK :
 ∀(a:List ar)(b:List aN)(c:List aT),((a.length<=maxLen/\ ∀(d:ar),d∈a->CT.wf bN d)/\(b.length<=maxLen/\ ∀(d:aN),d∈b->CT.wf gh d)/\c.length<=maxLen/\ ∀(d:aT),d∈c->CT.wf ft d)/\True->((ac a)<=1000000/\(ac b)<=1000000/\(ac c)<=1000000/\(∀(d:ar),d∈a->((length (aA d)):Int)<=1000000/\okL (bf d))/\ ∀(d:aT),d∈c->((length (dB d).2.1):Int)<=1099511627776)->(∀(d:aT),d∈c->((length (dB d).2.1):Int)<=1099511627776)/\ao (! decide (dA (a,b,c)=0)) ((r9)=oR (a,b,c)/\dA (a,b,c)=dA (a,b,c)) (lT (a,b,c)/\0<=(ac b)/\(ac b)<=(ac b)/\(↑(8:Nat):Int)*(ac b)<=281474976710656/\(∃(d:Int) (e:List bY),(0<=d/\d<=(ac a)/\e=List.map lJ (take d.toNat a))/\a=a/\(ac a)=(ac a)/\0=d/\a=a/\b=b/\c=c/\(0:Int)=0/\(0:Int)=0/\(0:Int)=0/\replicate (toNat (ac b)) (0:Int)=replicate (toNat (ac b))
 (0:Int)/\a=a/\b=b/\c=c/\(0:Int)=0/\(0:Int)=0/\(0:Int)=0/\e=([]:List (List aG×Int×ad×(Int×Int)×Int))/\True)/\ ∀(d:Int)(e:List bY),0<=d/\d<=(ac a)/\e=List.map lJ (take d.toNat a)->ao (decide (d<(ac a))) (0<=d/\d<(ac a)/\okL (bf (ah a d))/\((length (aA (ah a d))):Int)<=1000000/\(e.length+length [(JT a d)])*(80:Nat)<=(140737488355328:Nat)/\ ∃(f:Int) (g:List bY),(0<=f/\f<=(ac a)/\g=List.map lJ (take f.toNat a))/\toNat ((ac a) -f)<toNat ((ac a) -d)/\a=a/\(ac a)=(ac a)/\ai (d+1)=f/\a=a/\b=b/\c=c/\(0:Int)=0/\(0:Int)=0/\(0:Int)=0/\replicate (toNat (ac b)) (0:Int)=replicate (toNat (ac b)) (0:Int)/\a=a/\b=b/\c=c/\(0:Int)=0/\(0:Int)=0/\(0:Int)=0/\e++[(JT a d)]=g/\True) (((a,b,c),(0:Int),(0:Int),(0:Int),e,replicate (toNat (ac b)) (0:Int),([]:List (Int×Int×Int×Int×Int×ad)),([]:List
 (Int×Int×ad)),([]:List (Int×Int×Int×Int×Int)))=oR (a,b,c)/\0=dA (a,b,c))):=by
  delta r9 JT ai ah ac;rintro ns ls hs ⟨⟨⟨hl0,-⟩,⟨hl1,-⟩,-⟩,-⟩⟨h1,h2,h3,h4,h5⟩;have h1:(ns.length:Int)<=1000000:=h1;have h2:(ls.length:Int)<=1000000:=h2;refine⟨h5,av (λh=>?_) (λh=>?_)⟩
  .have h:=fQ h;exact⟨by unfold oR;rw[af h];rfl,by trivial⟩
  have h:=gH h;refine⟨⟨h1,h2,h3,h4,h5⟩,ab,ab,ab,⟨0,[],⟨ab,ab,rfl⟩,aM⟩,?_⟩;rintro j st ⟨j0,j1,rfl⟩;refine bt (λhj=>?_) (λhj=>?_)
  .have hx:=h4 _ (bW j0 hj);refine⟨j0,hj,hx.2,hx.1,by simp only[qm,cW,eU];omega,j+1,_,⟨ab,ab,rfl⟩,ab,?_⟩
   (repeat refine iK ?_);refine⟨?_,bv⟩;rw[nK j0 hj,lr];rfl
  .refine⟨?_,h.symm⟩;unfold oR kq;rw[am h,dm ab];rfl
theorem Qs:aD 9 OX.spec:=aH Tryz.func9 (au (au (au aE aJ3) Qa) aI8) Xy TK
def Tj:Ct:=⟨[.agg fX],[.val cI,.val .bool],λ_=>[],λd=>((mH d.1,iZ d.1,()),())⟩
theorem aR4 :
 ∀(a:(List ar×List aN×List aT)×Int×Int×Int×List (List aG×Int×ad×(Int×Int)×Int)×ad×List (Int×Int×Int×Int×Int×ad)×List (Int×Int×ad)×List (Int×Int×Int×Int×Int)),CT.wf fX a/\True->True->ao (decide ((ac a.2.2.2.2.2.2.1)=0)) (0=mH a/\false=iZ a) ((0:Int)<=0/\0<(ac a.2.2.2.2.2.2.1)/\(getD a.2.2.2.2.2.2.1 (toNat 0) default).1=mH a/\true=iZ a):=by
  delta ac;intro d _ _;have eF:d.2.2.2.2.2.2.1=ax d:=rfl;rw[eF];unfold mH iZ;cases e:ax d with
  | nil=>exact⟨rfl,rfl⟩
  | cons f r=>exact⟨ab,by simp only[cQ];omega,rfl,rfl⟩
theorem QP:aD 21 Tj.spec:=aH Tryz.func21 aE aR aR4
def Vj:Ct:=⟨[.agg fX,.val cI,.val cI,.val (.sl bz)],[.agg fX,.val cI,.val cI],λd=>[gb d.1,(d.2.2.2.1.length:Int)<=1000000],λd=>((gI d.1 d.2.1 d.2.2.1 d.2.2.2.1,jj d.1 d.2.1 d.2.2.1,fO d.1 d.2.1 d.2.2.1,()),())⟩
theorem UC :
 ∀(a:(List ar×List aN×List aT)×Int×Int×Int×List (List aG×Int×ad×(Int×Int)×Int)×ad×List (Int×Int×Int×Int×Int×ad)×List (Int×Int×ad)×List (Int×Int×Int×Int×Int))(b c:Int)(d:ad),CT.wf fX a/\aj b/\aj c/\(d.length<=maxLen/\ ∀(e:Int),e∈d->0<=e/\e<=255)/\True->gb a/\(ac d)<=1000000-> ∀(e:Bool),e=decide (c<0)->(ae (! e))/\(ae (! e))/\(ae (! e))/\((! e)->(aq (! e))/\(aq (! e))/\True)/\(aF e)/\ao (bif e then true else decide ((ac a.1.1)<=c)) ((r9)=gI a b c d/\0=jj a b c/\8=fO a b c) (ao (decide (1125899906842624<b)) ((r9)=gI a b c d/\0=jj a b c/\1=fO a b c) (ao (decide (b<a.2.1)) ((r9)=gI a b c d/\0=jj a b c/\6=fO a b c) (ao (decide (4096<=(ac a.2.2.2.2.2.2.1))) ((r9)=gI a b c d/\0=jj a b c/\5=fO a b c) (qO a/\(ac d)<=1099511627776/\List.Pairwise gQ (ax a)/\(∀(f:aW),f∈ax a->jT f<bj
 a)/\length (ax a)<=(4096:Nat)/\(a.1,a.2.1,ai (bj a+1),a.2.2.2.1,a.2.2.2.2.1,a.2.2.2.2.2.1,da (ax a) (aI (b,(0:Int),c,(-1:Int),a.2.2.1,d),bj a,c,(-1:Int),a.2.2.1,d),a.2.2.2.2.2.2.2)=gI a b c d/\a.2.2.1=jj a b c/\0=fO a b c)))):=by
  delta r9 ae aq aF ai ac;rintro d t who b-⟨hE,hb⟩
  (repeat (refine bO ?_;repeat refine bP ?_));refine oT (λho=>?_) (λq1 q2=>?_)
  .have e:fO d t who=8:=by unfold fO;rw[am (by rcases ho with q|q;exact .inl (aL q);exact .inr (aL q))]
   unfold gI jj;rw[e];exact⟨rfl,rfl,rfl⟩
  have q1:=aO q1;have q2:=aO q2;have h:mq d:=hE.resolve_right λq=>by
   have q3:d.1.1=[]:=by rw[q.1];rfl
   rw[q3] at q2;simp at q2;omega
  have hfn:=h.s.fn;have e1:fO d t who=if 1125899906842624<t then 1 else if t<bg d then 6 else if (4096:Int)<=(ax d).length then 5 else 0:=by
   unfold fO;rw[af (by rintro (q|q);exact q1 q;exact q2 q)]
  refine av (λk=>?_) (λk=>?_)
  .have e:fO d t who=1:=by rw[e1,am (aL k)]
   unfold gI jj;rw[e];exact⟨rfl,rfl,rfl⟩
  rw[af (aO k)] at e1;refine av (λk=>?_) (λk=>?_)
  .have k:t<bg d:=aL k;have e:fO d t who=6:=by rw[e1,am k]
   unfold gI jj;rw[e];exact⟨rfl,rfl,rfl⟩
  have k:¬ t<bg d:=aO k;rw[af k] at e1;refine av (λk=>?_) (λk=>?_)
  .have k:(4096:Int)<=(ax d).length:=aL k;have e:fO d t who=5:=by rw[e1,am k]
   unfold gI jj;rw[e];exact⟨rfl,rfl,rfl⟩
  have k:¬ (4096:Int)<=(ax d).length:=aO k;rw[af k] at e1;unfold gI jj;rw[e1];exact⟨h.cp,ab,h.s.fl,λx hx=>(h.s.fo x hx).o.2,hfn,rfl,rfl,rfl⟩
theorem R8:aD 18 Vj.spec:=aH Tryz.func18 (au (au (au aE Fq) sZ) NL) aR UC
def al3:Ct:=⟨[.agg fX],[.agg fX,.val .bool],λd=>[gb d.1],λd=>((o6 d.1,iZ d.1,()),())⟩
theorem aB8 :
 ∀(a:(List ar×List aN×List aT)×Int×Int×Int×List (List aG×Int×ad×(Int×Int)×Int)×ad×List (Int×Int×Int×Int×Int×ad)×List (Int×Int×ad)×List (Int×Int×Int×Int×Int)),CT.wf fX a/\True->mq a∨nA a->qO a/\ao (decide ((ac a.2.2.2.2.2.2.1)=0)) (a=o6 a/\false=iZ a) (mq a/\ax a≠([]:List aW)/\dI a=o6 a/\true=iZ a):=by
  delta ac;intro d _ h;have h:gb d:=h;refine⟨h.cp,?_⟩;have eF:d.2.2.2.2.2.2.1=ax d:=rfl;rw[eF];unfold o6 iZ;refine bt (λk=>?_) (λk=>?_)
  .have k:ax d=[]:=nI ab;rw[am k,k];exact⟨rfl,aC⟩
  .have k:ax d≠[]:=λe=>k (by rw[e];rfl);rw[af k];exact⟨h.fl k,k,rfl,by simp[k]⟩
theorem Wv:aD 14 al3.spec:=aH Tryz.func14 (au (au aE Fq) Ox) aR aB8
def Mb:Ct:=⟨[.agg fX,.val cI],[.agg fX,.val cI],λd=>[gb d.1],λd=>((jx d.1 d.2.1,iY d.1 d.2.1,()),())⟩
def Wd:bu Mb.ps->bS:=(λd=>{loops:=(bm 7 (λS=>{ι:=aJ×Int×Bool,qn:=qU,μ:=λi=>jf i.1,inv:=λi=>gb i.1/\iW i.1 d.2.1=iW d.1 d.2.1/\i.2.1=mH i.1/\i.2.2=iZ i.1,keep:=[1,2,4],slots:=λi=>[(6,.int .i64 i.2.1),(7,.bool i.2.2)],keepN:=[80],names:=λi=>[(48,.live (.cells 39 (cR gS (az i.1)++[.int .i64 (bg i.1),.int .i64 (bj i.1),.int .i64 (bX i.1),.own 524288 6,.own 524289 1,.own 524290 6,.own 524291 3,.own 524292 5]))),(524288,.live (.row 123 i7 (aU i.1))),(524289,.live (.row 3 cI (bH i.1))),(524290,.live (.row 134 jM (ax i.1))),(524291,.live (.row 88 sG (aY i.1))),(524292,.live (.row 78 qE (aV i.1)))]}) ci)})
def o4(c:aJ) :=
 dI (az c,c.2)
theorem Xw :
 ∀(a:(List ar×List aN×List aT)×Int×Int×Int×List (List aG×Int×ad×(Int×Int)×Int)×ad×List (Int×Int×Int×Int×Int×ad)×List (Int×Int×ad)×List (Int×Int×Int×Int×Int))(b:Int),CT.wf fX a/\aj b/\True->mq a∨nA a->ao (decide (1125899906842624<b)) ((r9)=jx a b/\1=iY a b) (ao (decide (b<a.2.1)) ((r9)=jx a b/\6=iY a b) (qO a/\(∃(c:aJ) (d:Int),∃(e:Bool),(gb c/\iW c b=iW a b/\d=mH c/\e=iZ c)/\b=b/\mH a=d/\iZ a=e/\(0:Int)=0/\(0:Int)=0/\(0:Int)=0/\a.1.1=(az c).1/\a.1.2.1=(az c).2.1/\a.1.2.2=(az c).2.2/\a.2.1=bg c/\a.2.2.1=bj c/\a.2.2.2.1=bX c/\a.2.2.2.2.1=aU c/\a.2.2.2.2.2.1=bH c/\a.2.2.2.2.2.2.1=ax c/\a.2.2.2.2.2.2.2.1=aY c/\a.2.2.2.2.2.2.2.2=aV c/\True)/\ ∀(c:aJ)(d:Int)(e:Bool),gb c/\iW c b=iW a b/\d=mH c/\e=iZ c-> ∀(f:Bool),f=e->(f->(aq f)/\(aq f)/\True)/\(aq f)/\ao (bif f then decide (d<=b)
 else false) (mq (az c,c.2)/\ax (az c,c.2)≠([]:List aW)/\ ∃(g:aJ) (h:Int),∃(i:Bool),(gb g/\iW g b=iW a b/\h=mH g/\i=iZ g)/\jf g<jf c/\b=b/\mH (o4 c)=h/\iZ (o4 c)=i/\(0:Int)=0/\(0:Int)=0/\(0:Int)=0/\(o4 c).1.1=(az g).1/\(o4 c).1.2.1=(az g).2.1/\(o4 c).1.2.2=(az g).2.2/\(o4 c).2.1=bg g/\(o4 c).2.2.1=bj g/\(o4 c).2.2.2.1=bX g/\(o4 c).2.2.2.2.1=aU g/\(o4 c).2.2.2.2.2.1=bH g/\(o4 c).2.2.2.2.2.2.1=ax g/\(o4 c).2.2.2.2.2.2.2.1=aY g/\(o4 c).2.2.2.2.2.2.2.2=aV g/\True) (m6 (az c,b,c.2.2)/\cq (az c,b,c.2.2)=jx a b/\0=iY a b))):=by
  delta r9 o4 aq;rintro d to-h;have h:gb d:=h;refine av (λk=>?_) (λk=>?_)
  .have k:=aL k;have e:iY d to=1:=by unfold iY;rw[am k]
   unfold jx;rw[e];exact⟨rfl,rfl⟩
  have k:=aO k;refine av (λq=>?_) (λq=>?_)
  .have q:to<bg d:=aL q;have e:iY d to=6:=by unfold iY;rw[af k,am q]
   unfold jx;rw[e];exact⟨rfl,rfl⟩
  have q:¬ to<bg d:=aO q;have e:iY d to=0:=by unfold iY;rw[af k,af q]
  have hnow:0<=bg d:=by rcases h with q|q;exact q.s.now.1;exact q.2.1
  have hnq:bg d<=to:=ab;refine⟨h.cp,⟨d,_,_,⟨h,rfl,rfl,rfl⟩,aM⟩,?_⟩;rintro v t ok ⟨hv,he,rfl,rfl⟩;have hv:gb v:=hv
  (repeat (refine bO ?_;repeat refine bP ?_));have eB:(bif iZ v then decide (mH v<=to) else false)=jQ v to:=by
   unfold iZ mH jQ;cases ax v with
   | nil=>rfl
   | cons f r=>rfl
  rw[eB];refine av (λhb=>?_) (λhb=>?_)
  .cases ef:ax v with
   | nil=>unfold jQ at hb;rw[ef] at hb;cases hb
   | cons f r =>
    have hv:=hv.fl (by rw[ef];simp);obtain⟨s1,s2⟩:=hv.step ef;exact⟨hv,by show ax v≠[];rw[ef];simp,dI v,_,_,⟨.inl s1,(JL hv.s.weak hb).symm.trans he,rfl,rfl⟩,s2,aM⟩
  .have hR:iW d to=v:=by rw[← he];exact FY hb
   refine⟨by rcases hv with q|q;exact .inl (q.s.wait hb ⟨ab,ab⟩).weak;exact q.ch to,?_,e.symm⟩;unfold jx;rw[am e];show cq (cB v to)=cq (cB (iW d to) to);rw[hR]
theorem N3:aD 16 Mb.spec:=aH Tryz.func16 (au (au (au (au aE Fq) QP) Ox) Kt) Wd Xw
def K7:Ct:=⟨[.agg bN],[.own 58 cy],λd=>[(aA d.1).length<=100000],λd=>((cz d.1,()),())⟩
def ar2:bu K7.ps->bS:=(λd=>{loops:=(bm 3 (λS=>{ι:=Int×ad,qn:=fj,μ:=λi=>((aA d.1).length-i.1).toNat,inv:=λi=>0<=i.1/\i.1<=(aA d.1).length/\i.2=(lL d.1).take i.1.toNat,keep:=[1],slots:=λi=>[(3,.own 524288 1),(4,.int .i64 i.1)],keepN:=[32],names:=λi=>[(524288,.live (.row 58 cy i.2))]}) ci)})
def xU(a:ar) :=
 ((length (aA a)):Int)
theorem ak7 :
 ∀(a:ar),CT.wf bN a/\True->length (aA a)<=(100000:Nat)->(∃(b:Int) (c:ad),(0<=b/\b<=(xU a)/\c=take b.toNat (lL a))/\0=b/\a.1=a.1/\a.2.1=a.2.1/\a.2.2.1=a.2.2.1/\a.2.2.2.1=a.2.2.2.1/\a.2.2.2.2.1=a.2.2.2.2.1/\a.2.2.2.2.2.1=a.2.2.2.2.2.1/\a.2.2.2.2.2.2.1=a.2.2.2.2.2.2.1/\a.2.2.2.2.2.2.2.1=a.2.2.2.2.2.2.2.1/\a.2.2.2.2.2.2.2.2.1=a.2.2.2.2.2.2.2.2.1/\a.2.2.2.2.2.2.2.2.2.1=a.2.2.2.2.2.2.2.2.2.1/\a.2.2.2.2.2.2.2.2.2.2.1.1=a.2.2.2.2.2.2.2.2.2.2.1.1/\a.2.2.2.2.2.2.2.2.2.2.1.2=a.2.2.2.2.2.2.2.2.2.2.1.2/\a.2.2.2.2.2.2.2.2.2.2.2.1=a.2.2.2.2.2.2.2.2.2.2.2.1/\a.2.2.2.2.2.2.2.2.2.2.2.2.1=a.2.2.2.2.2.2.2.2.2.2.2.2.1/\a.2.2.2.2.2.2.2.2.2.2.2.2.2.1=a.2.2.2.2.2.2.2.2.2.2.2.2.2.1/\a.2.2.2.2.2.2.2.2.2.2.2.2.2.2=a.2.2.2.2.2.2.2.2.2.2.2.2.2.2/\c=([]:ad)/\True)/\ ∀(b:Int)(c:ad),0<=b/\b<=(xU a)/\c=take b.toNat (lL a)->ao (decide (b<(ac a.1))) (0<=b/\b<(ac
 a.1)/\(c.length+length [(getD a.1 b.toNat default).1])*(4:Nat)<=(140737488355328:Nat)/\ ∃(d:Int) (e:ad),(0<=d/\d<=(xU a)/\e=take d.toNat (lL a))/\toNat ((xU a) -d)<toNat ((xU a) -b)/\ai (b+1)=d/\a.1=a.1/\a.2.1=a.2.1/\a.2.2.1=a.2.2.1/\a.2.2.2.1=a.2.2.2.1/\a.2.2.2.2.1=a.2.2.2.2.1/\a.2.2.2.2.2.1=a.2.2.2.2.2.1/\a.2.2.2.2.2.2.1=a.2.2.2.2.2.2.1/\a.2.2.2.2.2.2.2.1=a.2.2.2.2.2.2.2.1/\a.2.2.2.2.2.2.2.2.1=a.2.2.2.2.2.2.2.2.1/\a.2.2.2.2.2.2.2.2.2.1=a.2.2.2.2.2.2.2.2.2.1/\a.2.2.2.2.2.2.2.2.2.2.1.1=a.2.2.2.2.2.2.2.2.2.2.1.1/\a.2.2.2.2.2.2.2.2.2.2.1.2=a.2.2.2.2.2.2.2.2.2.2.1.2/\a.2.2.2.2.2.2.2.2.2.2.2.1=a.2.2.2.2.2.2.2.2.2.2.2.1/\a.2.2.2.2.2.2.2.2.2.2.2.2.1=a.2.2.2.2.2.2.2.2.2.2.2.2.1/\a.2.2.2.2.2.2.2.2.2.2.2.2.2.1=a.2.2.2.2.2.2.2.2.2.2.2.2.2.1/\a.2.2.2.2.2.2.2.2.2.2.2.2.2.2=a.2.2.2.2.2.2.2.2.2.2.2.2.2.2/\c++[(getD a.1 b.toNat default).1]=e/\True) (ao (!
 decide (a.2.1=0)) ((c.length+length [a.2.1])*(4:Nat)<=(140737488355328:Nat)/\c++[a.2.1]=cz a) (c=cz a)):=by
  delta xU ai ac;rintro d-hl;have hlen:(lL d).length=(aA d).length:=by simp[lL]
  have hd:d.1=aA d:=rfl;have hz:d.2.1=fM d:=rfl;rw[hd,hz];refine⟨⟨0,[],⟨ab,ab,rfl⟩,aM⟩,?_⟩;rintro j l ⟨j0,j1,rfl⟩;refine bt (λhk=>?_) (λhk=>?_)
  .refine⟨j0,hk,by simp only[cW,cQ,List.length_nil];omega,j+1,_,⟨ab,ab,rfl⟩,ab,?_⟩
   (repeat refine iK ?_);refine⟨?_,bv⟩;rw[uM j0 (by rw[hlen];exact hk)];unfold lL;rw[ce,ce,List.getElem?_map,cF ab];rfl
  .rw[dm ab];unfold cz;refine av (λh=>?_) (λh=>?_)
   .rw[af (fQ h)];exact⟨by simp only[cQ,List.length_nil];omega,rfl⟩
   .rw[am (gH h),ke]
theorem SE:aD 52 K7.spec:=aH Tryz.func52 aE ar2 ak7
def as8:Ct:=⟨[.val (.sl cJ),.agg ft],[.own 93 cJ],λd=>[cK d.1,okL d.1,((dB d.2.1).2.1.length:Int)<=1099511627776],λd=>((fT d.1 d.2.1,()),())⟩
theorem av3 :
 ∀(a:List aG)(b:aT),(a.length<=maxLen/\ ∀(c:aG),c∈a->((0<=c.1.1/\c.1.1<=4294967295)/\aj c.1.2)/\(c.2.1.length<=maxLen/\ ∀(d:Int),d∈c.2.1->aj d)/\aj c.2.2)/\CT.wf ft b/\True->cK a/\okL a/\((length (dB b).2.1):Int)<=1099511627776->ao b.2.2.1 (okL a/\jl a b.2.2.2.1=fT a b) (cK a/\okL a/\(ac b.2.2.2.2.1)<=1099511627776/\f6 a b.2.2.2=fT a b):=by
  delta ac;rintro l c-⟨hs,hl,hx⟩;unfold fT;rw[show c.2.2.1=o8 c from rfl];refine av (λh=>⟨hl,?_⟩) (λh=>⟨hs,hl,hx,?_⟩)
  .rw[am h];rfl
  .rw[af (by rw[h];decide)];rfl
theorem Oc:aD 115 as8.spec:=aH Tryz.func115 (au (au aE PE) Od) aR av3
theorem aA4{P:Prop} [Decidable P] {a b:Bool}:(bif decide P then true else bif a then !b else false)=decide (P∨(a=true/\b=false)):=by
 by_cases h:P <;> cases a <;> cases b <;> simp[h]
def Qg:Ct:=⟨[.agg gS],[.val cI],λd=>[ku d.1=0,d.1.1.length<=64,∀ c∈d.1.2.2,((dB c).2.1.length:Int)<=1099511627776],λd=>((ld d.1,()),())⟩
def aN1:bu Qg.ps->bS:=(λd=>{loops:=(bm 3 (λS=>{ι:=Int×(List (List Rt)),qn:=fj,μ:=λi=>(d.1.1.length-i.1).toNat,inv:=λi=>0<=i.1/\i.1<=d.1.1.length/\i.2=(d.1.1.take i.1.toNat).map bf++replicate (d.1.1.length-i.1.toNat) [],keep:=[1],slots:=λi=>[(3,.own 524288 1),(4,.int .i64 i.1)],keepN:=[32],names:=λi=>[(524288,.live (.row 99 (.sl cJ) i.2))]}) (bm 7 (λS=>{ι:=Int×(List (List Rt)),qn:=fj,μ:=λi=>(d.1.2.2.length-i.1).toNat,inv:=λi=>0<=i.1/\i.1<=d.1.2.2.length/\first (ie d.1) i.1.toNat=0/\i.2=dD d.1 i.1.toNat,keep:=[1],slots:=λi=>[(3,.own 524288 1),(5,.int .i64 i.1)],keepN:=[32],names:=λi=>[(524288,.live (.row 99 (.sl cJ) i.2))]}) ci))})
def mB(c:List aT)(f:Int) :=
 toNat (ah c f).2.1
theorem aG2 :
 ∀(a:List ar)(b:List aN)(c:List aT),((a.length<=maxLen/\ ∀(d:ar),d∈a->CT.wf bN d)/\(b.length<=maxLen/\ ∀(d:aN),d∈b->CT.wf gh d)/\c.length<=maxLen/\ ∀(d:aT),d∈c->CT.wf ft d)/\True->(ku (a,b,c)=0/\a.length<=(64:Nat)/\ ∀(d:aT),d∈c->((length (dB d).2.1):Int)<=1099511627776)->0<=(ac a)/\(ac a)<=(ac a)/\(↑(24:Nat):Int)*(ac a)<=281474976710656/\(∃(d:Int) (e:List (List Rt)),(0<=d/\d<=(ac a)/\e=List.map bf (take d.toNat a)++replicate (a.length -d.toNat) ([]:List aG))/\0=d/\a=a/\b=b/\c=c/\replicate (toNat (ac a)) ([]:List aG)=e/\True)/\ ∀(d:Int)(e:List (List Rt)),0<=d/\d<=(ac a)/\e=List.map bf (take d.toNat a)++replicate (a.length -d.toNat) ([]:List aG)->ao (decide (d<(ac a))) (0<=d/\d<(ac a)/\0<=d/\d<(ac e)/\ ∃(f:Int) (g:List (List Rt)),(0<=f/\f<=(ac a)/\g=List.map bf (take f.toNat
 a)++replicate (a.length -f.toNat) ([]:List aG))/\toNat ((ac a) -f)<toNat ((ac a) -d)/\ai (d+1)=f/\a=a/\b=b/\c=c/\set e d.toNat (ah a d).2.2.2.2.1=g/\True) ((∃(f:Int) (g:List (List Rt)),(0<=f/\f<=(ac c)/\first (ie (a,b,c)) f.toNat=0/\g=dD (a,b,c) f.toNat)/\0=f/\a=a/\b=b/\c=c/\e=g/\True)/\ ∀(f:Int)(g:List (List Rt)),0<=f/\f<=(ac c)/\first (ie (a,b,c)) f.toNat=0/\g=dD (a,b,c) f.toNat->ao (decide (f<(ac c))) (0<=f/\f<(ac c)/\ ∀(h:Bool),h=decide ((ah c f).1<0)->(ae (! h))/\(ae (! h))/\(aF h)/\ao (bif h then true else decide (1125899906842624<(ah c f).1)) (1=ld (a,b,c)) (∀(i:Bool),i=decide (0<f)->(ae i)/\(ae i)/\(ae i)/\(i->(aq i)/\(aq i)/\0<=ai (f -1)/\ai (f -1)<(ac c)/\True)/\(ae i)/\(ae i)/\(i->(aq i)/\(aq i)/\True)/\(aq i)/\ao (bif i then decide ((ah c f).1<(ah c (ai (f -1))).1) else false) (6=ld (a,b,c))
 (∀(j:Bool),j=decide ((ah c f).2.1<0)->(ae (! j))/\(ae (! j))/\(ae (! j))/\((! j)->(aq (! j))/\(aq (! j))/\True)/\(aF j)/\ ∀(k:Bool),(k=bif j then true else decide ((ac a)<=(ah c f).2.1))->(ae (! k))/\(ae (! k))/\ ∀(l:Bool),l=(ah c f).2.2.1->(ae (! k&&l))/\((! k&&l)->(aq (! k&&l))/\(aq (! k&&l))/\0<=(ah c f).2.1/\(ah c f).2.1<(ac g)/\True)/\(ae (! k&&l))/\(ae (! k&&l))/\(ae (! k&&l))/\((! k&&l)->(aq (! k&&l))/\(aq (! k&&l))/\okL (g.getD (mB c f) default)/\True)/\(ae (! k&&l))/\((! k)->(aq (! k))/\(l->(! k&&l))/\True)/\(aF k)/\ao (bif k then true else bif l then ! mz (g.getD (mB c f) default) (ah c f).2.2.2.1 else false) (8=ld (a,b,c)) (0<=(ah c f).2.1/\(ah c f).2.1<(ac g)/\cK (g.getD (mB c f) default)/\okL (g.getD (mB c f) default)/\((length (ah c f).2.2.2.2.1):Int)<=1099511627776/\0<=(ah c f).2.1/\(ah c f).2.1<(ac g)/\0<=(ah c
 f).2.1/\(ah c f).2.1<((length (set g (mB c f) (fT (g.getD (mB c f) default) (ah c f)))):Int)/\0<=(ah c f).2.1/\(ah c f).2.1<(ac a)/\length (aA (a.getD (mB c f) default))<=(100000:Nat)/\ao (! decide (dJ (getD (set g (mB c f) (fT (g.getD (mB c f) default) (ah c f))) (mB c f) default) (bq (a.getD (mB c f) default))=0)) (dJ (getD (set g (mB c f) (fT (g.getD (mB c f) default) (ah c f))) (mB c f) default) (bq (a.getD (mB c f) default))=ld (a,b,c)) (∃(m:Int) (n:List (List Rt)),(0<=m/\m<=(ac c)/\first (ie (a,b,c)) m.toNat=0/\n=dD (a,b,c) m.toNat)/\toNat ((ac c) -m)<toNat ((ac c) -f)/\ai (f+1)=m/\a=a/\b=b/\c=c/\set g (mB c f) (fT (g.getD (mB c f) default) (ah c f))=n/\True))))) (0=ld (a,b,c))):=by
  delta mB ae aq aF ai ah ac;rintro ns ls hs ⟨⟨⟨hnl,-⟩,⟨hl,-⟩,⟨hhl,-⟩⟩,-⟩⟨hb,hn,hx⟩;simp only[maxLen] at hl hnl hhl;refine⟨ab,ab,ab,⟨0,_,⟨ab,ab,rfl⟩,by (repeat refine iK ?_);simp⟩,?_⟩;rintro j t ⟨j0,j1,rfl⟩;have tl:((ns.take j.toNat).map bf++replicate (ns.length-j.toNat) ([]:List Rt)).length=ns.length:=by simp;omega
  refine av (λhj=>?_) (λhj=>?_)
  .have hj:=aL hj;refine⟨j0,hj,j0,by rw[tl];exact hj,j+1,_,⟨ab,ab,rfl⟩,ab,?_⟩
   (repeat refine iK ?_);refine⟨?_,bv⟩;rw[show (j+1).toNat=j.toNat+1 by omega,← OW ab];rfl
  have hj:=aO hj;have e0:(ns.take j.toNat).map bf++replicate (ns.length-j.toNat) ([]:List Rt)=dD (ns,ls,hs) 0:=by
   rw[dm ab,show ns.length-j.toNat=0 by omega];simp[dD]
  rw[e0];clear e0 tl hj j0 j1;refine⟨⟨0,_,⟨ab,ab,rfl,rfl⟩,aM⟩,?_⟩;rintro j t ⟨j0,j1,hf,rfl⟩;refine av (λhj=>?_) (λhj=>?_)
  rotate_left
  .have hj:=aO hj;rw[show j.toNat=hs.length by omega] at hf;exact hf.symm
  have hj:=aL hj;have hm:=bW j0 hj;have tb:=Ju hb hf;have tl:=qo (ns,ls,hs) j.toNat
  dsimp only at tl;have hit:=λh=>Ai (f:=ie (ns,ls,hs)) (n:=hs.length) j0 hj hf h;have eq:=Pg (ns,ls,hs) j0;have ej:((j.toNat:Nat):Int)=j:=ab;rw[aQ (n:=j-1) ab ab,tl];refine⟨j0,hj,?_⟩
  (repeat (refine bO ?_;repeat refine bP ?_));rw[lR];refine av (λh=>?_) (λh=>?_)
  .have h:=aL h;have e:ie (ns,ls,hs) j.toNat=1:=by
    rw[eq];unfold mC;rw[am];exact h
   have q:=hit (by rw[e];decide);rw[e] at q;exact q
  have c1:¬ (iu (hs.getD j.toNat default)<0∨1125899906842624<iu (hs.getD j.toNat default)):=aO h;clear h;intro b hb1
  (repeat refine⟨(by first|(simp;done)|exact λh=>⟨λ_=>h,λ_=>h,j0,hj,bv⟩|exact λh=>⟨λ_=>h,λ_=>h,by rw[hb1] at h;have:=aL h;omega,by rw[hb1] at h;have:=aL h;omega,bv⟩),?_⟩);rw[hb1,BW];refine av (λh=>?_) (λh=>?_)
  .have h:=aL h;have e:ie (ns,ls,hs) j.toNat=6:=by
    rw[eq];unfold mC;rw[af c1,am];exact⟨ab,h.2⟩
   have q:=hit (by rw[e];decide);rw[e] at q;exact q
  have c2:¬ (0<j.toNat/\iu (hs.getD j.toNat default)<iu (hs.getD (j-1).toNat default)):=λq=>aO h ⟨ab,q.2⟩;clear h hb1;have Mf:¬ (bI (hs.getD j.toNat default)<0∨(ns.length:Int)<=bI (hs.getD j.toNat default))->okL ((dD (ns,ls,hs) j.toNat).getD (bI (hs.getD j.toNat default)).toNat default):=λh=>(tb.r _ (by show _<ns.length;omega)).2;intro b1 hb1
  (repeat refine⟨(by simp;done),?_⟩);intro b2 hb2
  (repeat refine⟨(by simp;done),?_⟩);rw[hb1,lR] at hb2;intro b3 hb3;have hb3:b3=o8 (hs.getD j.toNat default):=hb3;have nb:(!b2&&b3)=true→¬ (bI (hs.getD j.toNat default)<0∨(ns.length:Int)<=bI (hs.getD j.toNat default)):=λh=>by
   have h:=(Bool.and_eq_true_iff.1 h).1;rw[hb2] at h;exact fQ h
  (repeat refine⟨(by first|(simp;done)|(simp +contextual;done)|exact λh=>⟨λ_=>h,λ_=>h,Mf (nb h),bv⟩|exact λh=>⟨λ_=>h,λ_=>h,by have:0<=bI (hs.getD j.toNat default):=(by have:=nb h;omega);exact this,by have:bI (hs.getD j.toNat default)<ns.length:=(by have:=nb h;omega);exact this,bv⟩),?_⟩);have tot:(bif b2 then true else bif b3 then !mz ((dD (ns,ls,hs) j.toNat).getD (hs.getD j.toNat default).2.1.toNat default) (hs.getD j.toNat default).2.2.2.1 else false)=decide ((bI (hs.getD j.toNat default)<0∨(ns.length:Int)<=bI (hs.getD j.toNat default))∨(o8 (hs.getD j.toNat default)=true/\mz ((dD (ns,ls,hs) j.toNat).getD (bI (hs.getD j.toNat default)).toNat default) (dB (hs.getD j.toNat default)).1=false)):=by
   rw[hb2,hb3];exact aA4
  rw[tot];refine av (λh=>?_) (λh=>?_)
  .have h:=aL h;have e:ie (ns,ls,hs) j.toNat=8:=by
    rw[eq];unfold mC;rw[af c1,af c2];rcases h with h|h
    .rw[am h]
    .by_cases hA:bI (hs.getD j.toNat default)<0∨(ns.length:Int)<=bI (hs.getD j.toNat default)
     .rw[am hA]
     .rw[af hA,am h]
   have q:=hit (by rw[e];decide);rw[e] at q;exact q
  have h:=aO h;have c3:¬ (bI (hs.getD j.toNat default)<0∨(ns.length:Int)<=bI (hs.getD j.toNat default)):=λk=>h (.inl k);have c4:¬ (o8 (hs.getD j.toNat default)=true/\mz ((dD (ns,ls,hs) j.toNat).getD (bI (hs.getD j.toNat default)).toNat default) (dB (hs.getD j.toNat default)).1=false):=λk=>h (.inr k);have w0:0<=bI (hs.getD j.toNat default):=ab;have w1:bI (hs.getD j.toNat default)<ns.length:=ab;have wl:(bI (hs.getD j.toNat default)).toNat<ns.length:=ab;have tr:=tb.r (bI (hs.getD j.toNat default)).toNat wl;rw[fV,tl,jN (by rw[tl];exact wl)];refine⟨w0,w1,tr.1,tr.2,hx _ hm,w0,w1,w0,w1,w0,w1,by have:=(Au (n:=(ns,ls,hs)) hb wl).len;exact ta this bi,av (λh=>?_) (λh=>?_)⟩
  .have h:=fQ h;have e:ie (ns,ls,hs) j.toNat=dJ (fT ((dD (ns,ls,hs) j.toNat).getD (bI (hs.getD j.toNat default)).toNat default) (hs.getD j.toNat default)) (bq (ns.getD (bI (hs.getD j.toNat default)).toNat default)):=by
    rw[eq];unfold mC;rw[af c1,af c2,af c3,af c4]
   have k:=hit (by rw[e];exact h);rw[e] at k;exact k
  .have h:=gH h;have e:ie (ns,ls,hs) j.toNat=0:=by
    rw[eq];unfold mC;rw[af c1,af c2,af c3,af c4];exact h
   refine⟨j+1,dD (ns,ls,hs) (j+1).toNat,⟨ab,ab,xD j0 hf e,rfl⟩,ab,?_⟩
   (repeat refine iK ?_);refine⟨?_,bv⟩;rw[show (j+1).toNat=j.toNat+1 by omega];rfl
theorem aX2:aD 54 Qg.spec:=aH Tryz.func54 (au (au (au (au aE PJ) Oc) LB) M5) aN1 aG2
def aY5:Ct:=⟨[.agg gS,.val cI,.val cI],[.val cI],λ_=>[],λd=>((f7 d.1.2.1 d.2.1 d.2.2.1,()),())⟩
theorem ZN :
 ∀(a:List ar)(b:List aN)(c:List aT)(d e:Int),((a.length<=maxLen/\ ∀(f:ar),f∈a->CT.wf bN f)/\(b.length<=maxLen/\ ∀(f:aN),f∈b->CT.wf gh f)/\c.length<=maxLen/\ ∀(f:aT),f∈c->CT.wf ft f)/\aj d/\aj e/\True->True-> ∀(f:Bool),f=decide (d<0)->(ae (! f))/\(ae (! f))/\((! f)->(aq (! f))/\(aq (! f))/\True)/\(aF f)/\ao (bif f then true else decide ((ac b)<=d)) (-1=f7 b d e) (0<=d/\d<(ac b)/\ao (decide (e=(ah b d).1)) (0<=d/\d<(ac b)/\(ah b d).2.1=f7 b d e) (0<=d/\d<(ac b)/\ao (decide (e=(ah b d).2.1)) (0<=d/\d<(ac b)/\(ah b d).1=f7 b d e) (-1=f7 b d e))):=by
  delta ae aq aF ah ac;rintro ns ls hs k x ⟨⟨-,⟨hl,-⟩,-⟩,-⟩ -;simp only[maxLen] at hl
  (repeat (refine bO ?_;repeat refine bP ?_));rw[lR];unfold f7 lA lB;refine av (λh=>?_) (λh=>?_)
  .rw[am (aL h)]
  have h:=aO h;rw[af h];have k0:0<=k:=ab;have k1:k<(ls.length:Int):=ab;refine⟨k0,k1,av (λh1=>?_) (λh1=>?_)⟩
  .rw[am (aL h1)];exact⟨k0,k1,rfl⟩
  rw[af (aO h1)];refine⟨k0,k1,bt (λh2=>?_) (λh2=>?_)⟩
  .rw[am h2];exact⟨k0,k1,rfl⟩
  .rw[af h2]
theorem ZF:aD 126 aY5.spec:=aH Tryz.func126 aE aR ZN
end Go.RS
