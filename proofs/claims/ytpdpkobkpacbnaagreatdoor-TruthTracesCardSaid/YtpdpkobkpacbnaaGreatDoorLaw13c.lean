/- SX, part 29: slices.Insert of one element into a slice that owns its row: its contract, off what its code does with values. -/
import Derived.Test.YtpdpkobkpacbnaaGreatDoorSx25
import Derived.Lib.AppendZerosOnto
import Derived.Lib.Overlaps
import Derived.Laws.Externs
import Derived.Test.YtpdpkobkpacbnaaGreatDoorSimA
import Derived.Lib.Walk
import Derived.Lib.SliceRun
import Derived.Shelf.RegionOpenPlain
import Derived.Test.YtpdpkobkpacbnaaGreatDoorNode2
set_option maxRecDepth 100000
set_option linter.unusedVariables false
open Int (toNat)
open List (length take getD set replicate drop)
namespace Go.SX
def lL(cur:Array Value)(o:Nat)(cs:List Value):Array Value:=(cur.toList.take o++cs++cur.toList.drop (o+cs.length)).toArray
theorem yS{cur:Array Value}{o:Nat}{cs:List Value}(h:o+cs.length<=cur.size):(lL cur o cs).size=cur.size:=by
 simp only[lL,qY,cA,dA,fy,ga];omega
theorem tN{cur:Array Value}{o:Nat}{cs:List Value}(h:o+cs.length<=cur.size)(j:Nat) :
  (lL cur o cs)[j]? = if j<o then cur[j]? else if j<o+cs.length then cs[j-o]? else cur[j]? := by
 unfold lL
 rw[List.getElem?_toArray]
 have hl:(cur.toList.take o).length=o:=by rw[dA,ga];omega
 grind
def iX(cur:Array Value)(o n:Nat):List Value:=(cur.toList.drop o).take n
theorem AF{cur:Array Value}{o n:Nat}(h:o+n<=cur.size):(iX cur o n).length=n:=by
 unfold iX;rw[dA,fy,ga];omega
theorem xq{cur:Array Value}{o n j:Nat}(h:j<n):(iX cur o n)[j]? = cur[o+j]? := by
 unfold iX;rw[qi,am h,pV,lK]
def vg(cur:Array Value)(off n i z:Nat)(vs:List Value):Array Value:=lL (lL cur (off+(i+1)*z) (iX cur (off+i*z) ((n-i)*z))) (off+i*z) vs
def tD(cur:Array Value)(off n i z G:Nat)(zr:Array Value):Array Value:=(iX cur off (i*z)).toArray++Builtin.zeroCells zr (n+1-i)++Builtin.zeroCells zr (G-(n+1))
def t9(cur:Array Value)(off n i z G:Nat)(zr:Array Value)(vs:List Value):Array Value:=lL (lL (tD cur off n i z G zr) (i*z) vs) ((i+1)*z) (iX cur (off+i*z) ((n-i)*z))
structure Lk (P:Program) (F:FuncId) (tS E:TypeId) (z bs:Nat) (zr:Array Value) (ty:TypeId):Prop where
 last:∀(w w':World)(p q:Option Addr)(n c vc:Nat)(v:Value),n<=c->c<=maxLen->(Builtin.append_ #[tS,tS] ty #[.slice p n c,.slice q 1 vc]).run P w = .ok v w' →
  Calls P F #[.slice p n c,.int .i64 n,.slice q 1 vc] w λe w2=>e = .returned v/\w2=w'
 shift:∀(w:World)(b off n c i vb voff vc:Nat)(cur vcur:Array Value)(E':TypeId)(vs:List Value),i<n->n+1<=c->c<=maxLen->vb≠b->w.heap[b]? = some (.cells cur E (0,0))->off+c*z<=cur.size →
  w.heap[vb]? = some (.cells vcur E' (0,0))->vs.length=z->(∀ j v,vs[j]? = some v->w.cell? ⟨vb,voff+j,none⟩=some v)->(∀ v∈vs,v.oneCell'=true)->(∀ v∈iX cur (off+i*z) ((n-i)*z),v.oneCell'=true) →
  Calls P F #[.slice (some ⟨b,off,none⟩) n c,.int .i64 i,.slice (some ⟨vb,voff,none⟩) 1 vc] w λe w'=>e = .returned (.slice (some ⟨b,off,none⟩) (n+1) c)/\w'=w.drew.setRow b (vg cur off n i z vs)
 grow:∀(w:World)(b off n i vb voff vc:Nat)(cur vcur:Array Value)(E':TypeId)(vs:List Value),i<n->n+1<=maxLen->(n+1)*bs<=140737488355328->w.heap[b]? = some (.cells cur E (0,0))->off+n*z<=cur.size →
  w.heap[vb]? = some (.cells vcur E' (0,0))->vs.length=z->(∀ j v,vs[j]? = some v->w.cell? ⟨vb,voff+j,none⟩=some v)->(∀ v∈vs,v.oneCell'=true)->(∀ v∈iX cur off (n*z),v.oneCell'=true) →
  Calls P F #[.slice (some ⟨b,off,none⟩) n n,.int .i64 i,.slice (some ⟨vb,voff,none⟩) 1 vc] w λe w'=>e = .returned (.slice (some ⟨w.heap.size,0,none⟩) (n+1) (grownCap w (n+1) n E)) ∧
   ∃ w1:World,cY w.drew w1 (λ_=>False)/\w1.heap.size=w.heap.size+1/\w1.heap[w.heap.size]? = some (.cells (tD cur off n i z (grownCap w (n+1) n E) zr) E (0,0))/\w'=w1.setRow w.heap.size (t9 cur off n i z (grownCap w (n+1) n E) zr vs)
def CX(u:CT)(E:TypeId)(bs:Nat):Spec:=λbase svs=>match svs with
 | [.own n sz,.int .i64 i,.own q sq]=>match Nat.beq q n with
  | true => .fail
  | false => .ask n fun
   | .live (.row E' u' xs)=>match Nat.beq E' E,Nat.beq sz u.size,hY u' u xs with
    | true,true,some ys=>(vn u (.own q sq)).bind λvs=>.ask base fun
     | .un => .ret (.det [vs.length=1,0<=i,i<=ys.length,(ys.length+1)*bs<=140737488355328] (.own base u.size) [(base,.live (.row E u (ys.take i.toNat++(vs++ys.drop i.toNat)))),(n,.dead)])
     | _ => .fail
    | _,_,_ => .fail
   | _ => .fail
 | _ => .fail
section
variable {P:Program} {w0:World} {N0:f5} {A:Nat->Prop} {env:aZ} {h:bP} {w:World}
theorem SS(m:Mod w0 N0 A env h w){t:CT}{n E:Nat}{v:Value}{ys:List t.D}{r:List Nat}(e:(vn t (.own n E)).run h=some (ys,r))(hd:az A env w (.own n E) v)(J:ys.length=1) :
  ∃ k l c a f,env n = .blk k l/\v = .slice (some ⟨k,l.1,none⟩) 1 c/\w.heap[k]? = some (.cells a f (0,0))/\(∀ j s z b,j≠n->h j = .live b->b.mut=true->env j = .blk s z->k≠s) ∧
   Rd A w t (λo=>w.cell? ⟨k,o,none⟩) l.1 (lx t ys 0):=by
 simp only[vn,Q.run] at e
 have B:∀{b:lD}{f:TypeId}{zs:List t.D},h n = .live b->(b = .row f t zs∨b = .frz f t zs)->zs.length=1 →
   ∃ k l c a f,env n = .blk k l/\v = .slice (some ⟨k,l.1,none⟩) 1 c/\w.heap[k]? = some (.cells a f (0,0))/\(∀ j s z b,j≠n->h j = .live b->b.mut=true->env j = .blk s z->k≠s) ∧
    Rd A w t (λo=>w.cell? ⟨k,o,none⟩) l.1 (lx t zs 0):=by
  intro b f zs hl K hz;rcases hd with⟨hnil,_⟩|⟨k,l,E2,c,d,hsh,rfl⟩
  .have:=m.nm n;rw[hl] at this;rcases this with⟨s,z,x,_⟩|⟨_,E3,t3,hb3⟩
   .simp_all
   .grind
  .have y:=m.live_blk hl d;have g:nX A w k l f t zs:=by
    rcases K with rfl|rfl
    .exact y.1
    .exact y.1.2
   have C:l.2=1:=by obtain⟨_,_,_,_,h3,_⟩:=g;omega
   have F:=zc g (i:=0) ab;obtain⟨a,cap,hh,_⟩:=g;refine⟨k,l,(c-l.1)/E,a,f,d,by rw[C],hh,?_,by simpa using F⟩;intro j s z b' hne hl' hm' x hkk;subst hkk;rcases K with rfl|rfl
   .exact hne (m.inj j n b' _ k z l hl' hl hm' rfl x d)
   .exact (m.live_blk hl' x).2 hm' y.1.1
 split at e
 next p q d=>
  obtain⟨rfl,rfl⟩:=e;split at d
  .rename_i f u zs hl;split at d
   next G _ hc=>obtain⟨rfl,_⟩:=d;obtain⟨H,I⟩:=jN hc;subst H;subst I;exact B hl (.inl rfl) J
   .cases d
  .rename_i f u zs hl;split at d
   next G _ hc=>obtain⟨rfl,_⟩:=d;obtain⟨H,I⟩:=jN hc;subst H;subst I;exact B hl (.inr rfl) J
   .cases d
  .cases d
 .cases e
theorem Qt{u:CT}{xs:List u.D}{y:u.D}{i o:Nat}{row:Nat->Option Value}{cur:Nat->Option Value}{off:Nat}(hi:i<=xs.length)
  (f:∀ k (a:k<xs.length),Rd A w u cur (off+k*u.size) xs[k]) {news:Nat->Option Value} (hy:Rd A w u news 0 y)
  (h1:∀ j,j<i*u.size->row (o+j)=cur (off+j)) (h2:∀ j,j<u.size->row (o+i*u.size+j)=news j) (h3:∀ j,j<(xs.length-i)*u.size->row (o+(i+1)*u.size+j)=cur (off+i*u.size+j)) :
  ∀ k (a:k<(xs.take i++([y]++xs.drop i)).length),Rd A w u row (o+k*u.size) (xs.take i++([y]++xs.drop i))[k]:=by
 intro k a
 have hl:(xs.take i).length=i:=by rw[dA];omega
 by_cases b:k<i
 .rw[List.getElem_append_left ab];simp;have c:(k+1)*u.size<=i*u.size:=mM _ b;rw[fS,kr] at c;refine tu (f k ab) λj d=>?_;rw[gN,h1 _ ab,gN]
 .rw[List.getElem_append_right ab];simp only[hl];by_cases e:k=i
  .subst e;simp;refine tu hy λj d=>?_;rw[h2 j d,gh]
  .obtain⟨q,rfl⟩:∃ q,k=i+1+q:=⟨k-i-1,ab⟩
   have hq:i+q<xs.length:=by simp at a;omega
   have hg:([y]++xs.drop i)[i+1+q-i]'(by simp;omega)=xs[i+q]:=by
    simp only[show i+1+q-i=q+1 from by omega,mF,si,List.getElem_cons_succ,List.getElem_drop]
   rw[hg];have c:(q+1)*u.size<=(xs.length-i)*u.size:=mM _ ab;rw[fS,kr] at c;refine tu (f (i+q) hq) λj d=>?_;rw[show o+(i+1+q)*u.size+j=o+(i+1)*u.size+(q*u.size+j) from by rw[fS (i+1)];omega,h3 _ ab];grind
theorem aD6(m:Mod w0 N0 A env h w){tS E ty:TypeId}{zv:Value}{z bs base n sz q sq:Nat}{u:CT}{xs ys:List u.D}{r:List Nat}{sv xv:Value}(hu:P.underlying tS=some (.slice E))(hi:(P.info? E).map (λi=>(i.zero,i.size,i.bytes))=some (some zv,z,bs))(hzr:zv.cells.size=z)(hbs:1<=bs)(hz:z=u.size)
  (hl:h n = .live (.row E u xs)) (hsz:sz=u.size) (hs:(vn u (.own q sq)).run h=some (ys,r)) (hun:h base = .un) (hby:(xs.length+ys.length)*bs<=140737488355328)
  (ds:az A env w (.own n sz) sv) (dx:az A env w (.own q sq) xv) :
  ∃ v w',(Builtin.append_ #[tS,tS] ty #[sv,xv]).run P w = .ok v w'∧da w0 N0 A env h w (.det [] (.own base u.size) [(base,.live (.row E u (xs++ys))),(n,.dead)]) v w':=by
 obtain⟨i0,hi0⟩:∃ i0,P.info? E=some i0:=by
  cases hh:P.info? E with
  | none=>rw[hh] at hi;cases hi
  | some i0=>exact⟨i0,rfl⟩
 rw[hi0] at hi
 simp only[Option.map_some,bq,br] at hi
 obtain⟨hz0,hzs,hzb⟩:=hi
 subst hz hzb hsz
 have run:(Be P tS base (.own n u.size) (.own q sq)).run h=some (.det [(xs.length+ys.length)*i0.bytes<=140737488355328] (.own base u.size) [(base,.live (.row E u (xs++ys))),(n,.dead)],n::(r++[base])):=by
  have he:su P tS=some (E,u.size):=by unfold su;rw[hu];simp[gI,hi0,hzs]
  unfold Be;rw[he];simp only[hi0,Nat.ble_eq_true_of_le hbs,hz0,hzr,ub];simp only[Q.run,hl,ub];rw[Q.bind_run1 _ _ hs (b := .det [(xs.length+ys.length)*i0.bytes<=140737488355328] (.own base u.size) [(base,.live (.row E u (xs++ys))),(n,.dead)]) (r2:=[base]) (by simp only[Q.run,hun])]
 let o : Oper := { dst := none, op := .call { callee := .builtin .append, args := #[.tmp 0, .tmp 1], argTypes := #[tS, tS] }, type := ty, pos := "", after := #[], guard := none }
 let a:Act:={tmps := #[sv,xv],defers:=[]}
 have fd:FD A env w (λi=>if i=0 then .own n u.size else if i=1 then .own q sq else .junk) a:=by
  intro i;by_cases h0:i=0
  .subst h0;exact ds
  .by_cases h1:i=1
   .subst h1;exact dx
   .simp only[h0,h1,if_false,az]
 obtain⟨v,w',hr,g⟩:=Ro (P:=P) (o:=o) (a:=a) (nm:=base) (s := .tmp 0) (x := .tmp 1) (t:=tS) m fd rfl run (by simp only[Dl.pre,bV,iu];exact hby)
 have he:(execOp a.eval o).run P w=((Builtin.append_ #[tS,tS] ty #[sv,xv]).run P w).andThen λv w'=>.ok (.value v) w':=by
  unfold execOp;simp only[o,resolve,invoke,builtin,Sem.run_bind,Sem.run_pure,Result.andThen_ok,List.map_toArray,fF,List.map_nil];rfl
 rw[he] at hr
 cases hb:(Builtin.append_ #[tS,tS] ty #[sv,xv]).run P w with
 | ok v1 w1 =>
  rw[hb] at hr;rcases hr with hr|⟨hr,_⟩
  .cases hr;exact⟨v,w',rfl,g⟩
  .cases hr
 | _=>rw[hb] at hr;rcases hr with hr|⟨hr,_⟩ <;> cases hr
theorem Oq{t:CT}{ys:List t.D}(h:ys.length=1):ys=[lx t ys 0]:=by
 match ys,h with
 | [y],_=>rfl
theorem O0{u:CT}{cv:Nat->Option Value}{o:Nat}{xs:List u.D}(hx:∀ i (hi:i<xs.length),Rd A w u cv (o+i*u.size) xs[i]){cur:Array Value}(hc:∀ j,cv j=cur[j]?){a n:Nat}(ha:a+n<=xs.length)(hs:o+(a+n)*u.size<=cur.size) :
  ∀ v∈iX cur (o+a*u.size) (n*u.size),v.oneCell'=true:=by
 obtain⟨news,hl,hcv,h1⟩:=EF (A:=A) (w:=w) ((xs.drop a).take n) (o+a*u.size) (cv:=cv) (λi hi=>by
  simp only[dA,fy] at hi;have:=hx (a+i) (by omega);simp only[List.getElem_take,List.getElem_drop];rw[gN,← fS];exact this)
 have hln:((xs.drop a).take n).length=n:=by rw[dA,fy];omega
 rw[hln] at hl
 intro v hv
 obtain⟨j,hj,rfl⟩:=List.mem_iff_getElem.1 hv
 have hcl:(iX cur (o+a*u.size) (n*u.size)).length=n*u.size:=AF (by rw[gN,← fS];exact hs)
 have e1:(iX cur (o+a*u.size) (n*u.size))[j]? = news[j]? := by
  rw[xq (by omega),← hc,hcv j (by omega)]
 rw[cK hj] at e1
 exact h1 _ (List.mem_iff_getElem?.2 ⟨j,e1.symm⟩)
theorem Vn{G:tx}{F:FuncId}{tS E ty:TypeId}{zv:Value}{z bs:Nat}{u:CT}(raw:Lk P F tS E z bs zv.cells ty)(hu:P.underlying tS=some (.slice E))(hi:(P.info? E).map (λi=>(i.zero,i.size,i.bytes))=some (some zv,z,bs))
  (hzr:zv.cells.size=z) (hbs:1<=bs) (hz:z=u.size):oT P G F (CX u E bs):=by
 intro base svs h d r e hp w0 N0 A env w vs hg m hd
 unfold CX at e
 split at e
 case h_2=>cases e
 rename_i n sz i q sq
 split at e
 .cases e
 rename_i hqn
 have hqn:q≠n:=λe=>by rw[e,ub] at hqn;cases hqn
 simp only[Q.run] at e
 split at e
 case h_2=>cases e
 rename_i p0 q0 hk
 simp only[bq,br] at e
 obtain⟨rfl,rfl⟩:=e
 split at hk
 case h_2=>cases hk
 rename_i E' u xs hl
 split at hk
 case h_2=>cases hk
 rename_i ys hE hsz hc
 have hE:E'=E:=bG hE
 have hsz:=bG hsz
 obtain⟨et,ey⟩:=jN hc
 subst et hE hsz
 simp only at ey
 subst ey
 obtain⟨vs1,q1,q2,e1,e2,rfl⟩:=Q.run_bind _ _ _ hk
 simp only[Q.run] at e2
 split at e2
 case h_2=>cases e2
 rename_i p' q' hk'
 simp only[bq,br] at e2
 obtain⟨rfl,rfl⟩:=e2
 split at hk'
 case h_2=>cases hk'
 rename_i hun
 cases cz hk'
 simp only[Dl.pre,bV,iu] at hp
 obtain⟨hp1,hp2,hp3,hp4⟩:=hp
 simp only[aR] at hd
 obtain⟨sv,r1,rfl,ds,iv,r2,rfl,di,xv,r3,rfl,dx,rfl⟩:=hd
 have di':=di
 simp only[az] at di'
 obtain⟨rfl,hii⟩:=di'
 obtain⟨k,l,c,vcur,E2,hkq,rfl,hkc,hkne,hrd⟩:=SS m e1 dx hp1
 subst hz
 have hlen:∀{ii:Nat},ii=ys.length->ys.take ii++(vs1++ys.drop ii)=ys++vs1:=by
  rintro _ rfl;rw[List.take_length,List.drop_length,jx]
 obtain⟨ii,rfl⟩:=pE hp2
 have hii2:ii<=ys.length:=by omega
 simp only[Int.toNat_natCast]
 have hlast:∀ nn cc pp,ii=ys.length->sv = .slice pp nn cc->nn=ys.length->nn<=cc->cc<=maxLen →
   Calls P F #[sv,.int .i64 (ii:Int),.slice (some ⟨k,l.1,none⟩) 1 c] w λe w'=>∃ v,e = .returned v/\da w0 N0 A env h w (.det [vs1.length=1,(0:Int)<=(ii:Int),(ii:Int)<=(ys.length:Int),(ys.length+1)*bs<=140737488355328] (.own base u.size) [(base,.live (.row E' u (ys.take ii++(vs1++ys.drop ii)))),(n,.dead)]) v w':=by
  rintro nn cc pp rfl rfl rfl hle hmx;obtain⟨v,w',hr,g⟩:=aD6 (ty:=ty) m hu hi hzr hbs rfl hl rfl e1 hun (by rw[hp1];exact hp4) ds dx;refine (raw.last w w' pp (some ⟨k,l.1,none⟩) ys.length cc c v hle hmx hr).mono ?_;rintro e w2 ⟨rfl,rfl⟩;refine⟨v,rfl,?_⟩;rw[hlen rfl];exact g
 have hdn:∀ n'∈[n],∃ b,h n' = .live b/\b.mut=true:=by simp[hl,lD.mut]
 have ds':=ds
 simp only[az] at ds'
 rcases ds' with⟨hnil,pa,rfl⟩|⟨b,⟨β,len⟩,E3,cc,hb,hsh,rfl⟩
 .have hx:ys=[]:=by
   have:=m.nm n;rw[hl] at this;rcases this with⟨k',l',he',_⟩|⟨_,E3,t3,hb⟩
   .rw[hnil] at he';cases he'
   .rcases hb with hb|hb <;> cases hb;rfl
  subst hx;exact hlast 0 0 pa (by simpa using hii2) rfl rfl (ir _) (by simp[maxLen])
 .obtain⟨cur,cap,hh,hcs,hxl,hlc,hcm,hrdx⟩:=(m.live_blk hl hb).1;simp only at hcs hxl hlc hrdx;have hcc:cc=cur.size/\E3=E':=by
   unfold World.shape? at hsh;rw[hh] at hsh;simp only[bq,br] at hsh;exact⟨hsh.2.symm,hsh.1.symm⟩
  obtain⟨rfl,rfl⟩:=hcc;have hcap:(cur.size-β)/u.size=cap:=by rw[hcs,lu];exact qL _ u.size_pos
  have hnA:=(m.live_blk hl hb).2 rfl;simp only[hcap] at hlast ⊢;rcases Nat.lt_or_ge ii ys.length with hlt|hge
  case inr=>exact hlast len cap _ (by omega) rfl hxl.symm hlc hcm
  obtain⟨news,hnl,hnc,hnd⟩:=u7 (env:=env) u _ _ _ hrd;have hn1:=AY hnd (FQ _ _);have hnews:∀ j v,news[j]? = some v->w.cell? ⟨k,l.1+j,none⟩=some v:=λj v hj=>by
   rw[hnc j (by rw[← hnl];exact (List.getElem?_eq_some_iff.1 hj).1)];exact hj
  have hry:Rd A w u (λj=>news[j]?) 0 (lx u vs1 0):=tu hrd λj hj=>by rw[gh,hnc j hj]
  have hkb:k≠b:=hkne n b _ _ (Ne.symm hqn) hl rfl hb;have hlz:(len-ii)*u.size+(ii+1)*u.size=(len+1)*u.size:=by rw[← fS];congr 1;omega
  have hiz:(ii+1)*u.size=ii*u.size+u.size:=by rw[fS,kr]
  have hlcz:len*u.size<=cap*u.size:=mM _ hlc;have hlz1:(len+1)*u.size=len*u.size+u.size:=by rw[fS,kr]
  have hnlen:(ys.take ii++(vs1++ys.drop ii)).length=len+1:=by simp;omega
  have hcutl:(iX cur (β+ii*u.size) ((len-ii)*u.size)).length=(len-ii)*u.size:=AF (by omega);by_cases hroom:len+1<=cap
  .have hroomz:(len+1)*u.size<=cap*u.size:=mM _ hroom;refine (raw.shift w b β len cap ii k l.1 c cur vcur E2 news (by omega) hroom hcm hkb hh (by omega) hkc hnl hnews hn1 (O0 hrdx (λ_=>rfl) (by omega) (by rw[show ii+(len-ii)=len from by omega];omega))).mono ?_;rintro e w' ⟨rfl,rfl⟩;refine⟨_,rfl,?_⟩;have s1:(lL cur (β+(ii+1)*u.size) (iX cur (β+ii*u.size) ((len-ii)*u.size))).size=cur.size:=yS (by rw[hcutl];omega);have s2:(vg cur β len ii u.size news).size=cur.size:=by unfold vg;rw[yS (by rw[s1,hnl];omega),s1]
   have cg:cY w (w.drew.setRow b (vg cur β len ii u.size news)) λj=>j=b:=(cY.drew w _).trans (cY.setRow w.drew b cur _ E3 hh s2);have g:=pg (pre:=[vs1.length=1,(0:Int)<=(ii:Int),(ii:Int)<=(ys.length:Int),(ys.length+1)*bs<=140737488355328]) (v := .slice (some ⟨b,β,none⟩) (len+1) cap) (E:=E3) (t:=u) (zs:=ys.take ii++(vs1++ys.drop ii)) m hun [n] hdn (W:=λj=>j=b) (ev := .blk b (β,len+1)) cg
    (λk hk=>⟨n,(β,len),by simp,hk▸hb⟩) (by simp) (λk l e=>by cases e;exact .inr ⟨n,(β,len),by simp,hb⟩) (λx=>.inr ⟨b,(β,len+1),cur.size,rfl,?_,?_,?_⟩)
   .exact g
   .refine⟨_,cap,setRow_heap w.drew b cur _ E3 _ hh,by rw[s2];exact hcs,hnlen,hroom,hcm,?_⟩;intro k' hk';refine ik (λ_ h=>h) x.keep u _ _ _ _ (λj _=>rfl) ?_;have hv1:=Oq hp1;have key:=Qt (A:=A) (w:=w) (u:=u) (xs:=ys) (y:=lx u vs1 0) (i:=ii) (o:=β) (off:=β) (row:=λo=>(vg cur β len ii u.size news)[o]?) (cur:=λo=>cur[o]?) hii2 hrdx hry ?_ ?_ ?_ k' (by rw[← hv1];exact hk')
    .simp only[← hv1] at key;exact key
    .intro j hj;unfold vg
     try simp only
     rw[tN (by rw[s1,hnl];omega),am (by omega),tN (by rw[hcutl];omega),am (by omega)]
    .intro j hj;unfold vg
     try simp only
     rw[tN (by rw[s1,hnl];omega),af (by omega),am (by rw[hnl];omega)];congr 1;omega
    .intro j hj;rw[hxl] at hj;unfold vg
     try simp only
     rw[tN (by rw[s1,hnl];omega),af (by omega),af (by rw[hnl];omega),tN (by rw[hcutl];omega),af (by omega),am (by rw[hcutl];omega),show β+(ii+1)*u.size+j-(β+(ii+1)*u.size)=j from by omega,xq hj]
   .unfold World.shape?;rw[setRow_heap w.drew b cur _ E3 _ hh];simp only[s2]
   .show _=Value.slice _ _ ((cur.size-β)/u.size);rw[hcap]
  .have hcl:cap=len:=by omega
   subst hcl;have hsum:cap+1<=maxLen:=by
    have:(cap+1)*1<=(ys.length+1)*bs:=by rw[hxl];exact Nat.mul_le_mul_left _ hbs
    simp only[maxLen];omega
   refine (raw.grow w b β cap ii k l.1 c cur vcur E2 news (by omega) hsum (by rw[← hxl];exact hp4) hh (by omega) hkc hnl hnews hn1 (by
    have:=O0 hrdx (λ_=>rfl) (a:=0) (n:=cap) (cur:=cur) (by omega) (by rw[gh];omega);simpa using this)).mono ?_
   rintro e w' ⟨rfl,w1,cg1,hs1,hh1,rfl⟩;refine⟨_,rfl,?_⟩;have hge:=grownCap_ge w (cap+1) cap E3;have hcm':=grownCap_le_maxLen w (cap+1) cap E3 hsum;generalize grownCap w (cap+1) cap E3=G' at *;have hGz:(cap+1)*u.size<=G'*u.size:=mM _ hge;have hcut0:(iX cur β (ii*u.size)).length=ii*u.size:=AF (by omega);have s0:(tD cur β cap ii u.size G' zv.cells).size=G'*u.size:=by
    unfold tD;simp only[Array.size_append,qY,hcut0,size_zeroCells,hzr,← fS];congr 1;omega
   have s1:(lL (tD cur β cap ii u.size G' zv.cells) (ii*u.size) news).size=G'*u.size:=by rw[yS (by rw[s0,hnl];omega),s0]
   have s2:(t9 cur β cap ii u.size G' zv.cells news).size=G'*u.size:=by unfold t9;rw[yS (by rw[s1,hcutl];omega),s1]
   have cg:cY w (w1.setRow w.heap.size (t9 cur β cap ii u.size G' zv.cells news)) λ_=>False:=by
    have c2:=cY.setRow w1 w.heap.size _ (t9 cur β cap ii u.size G' zv.cells news) E3 hh1 (by rw[s2,s0]);have c3:=(cY.drew w λ_=>False).trans cg1;exact⟨c2.os.trans c3.os,c2.tape.trans c3.tape,c2.output.trans c3.output,rm c3.size c2.size,
     λi hi hw=>(c2.blk i (Nat.lt_of_lt_of_le hi c3.size) (λe=>by omega)).trans (c3.blk i hi hw),λi s hs=>c2.shape i s (c3.shape i s hs)⟩
   have g:=pg (pre:=[vs1.length=1,(0:Int)<=(ii:Int),(ii:Int)<=(ys.length:Int),(ys.length+1)*bs<=140737488355328]) (v := .slice (some ⟨w.heap.size,0,none⟩) (cap+1) G') (E:=E3) (t:=u) (zs:=ys.take ii++(vs1++ys.drop ii)) m hun [n] hdn (W:=λ_=>False) (ev := .blk w.heap.size (0,cap+1)) cg
    (λ_ h=>h.elim) (by simp) (λk l e=>by cases e;exact .inl (ir _)) (λx=>.inr ⟨w.heap.size,(0,cap+1),G'*u.size,rfl,?_,?_,?_⟩)
   .exact g
   .refine⟨_,G',setRow_heap w1 w.heap.size _ _ E3 _ hh1,by rw[s2,gh],hnlen,hge,hcm',?_⟩;intro k' hk';refine ik (λ_ h=>h) x.keep u _ _ _ _ (λj _=>rfl) ?_;have hv1:=Oq hp1;have key:=Qt (A:=A) (w:=w) (u:=u) (xs:=ys) (y:=lx u vs1 0) (i:=ii) (o:=0) (off:=β) (row:=λo=>(t9 cur β cap ii u.size G' zv.cells news)[o]?) (cur:=λo=>cur[o]?) hii2 hrdx hry ?_ ?_ ?_ k' (by rw[← hv1];exact hk')
    .simp only[← hv1] at key;exact key
    .intro j hj;unfold t9
     try simp only
     rw[tN (by rw[s1,hcutl];omega),am (by omega),tN (by rw[s0,hnl];omega),am (by omega)];unfold tD;rw[Array.append_assoc,Array.getElem?_append_left (by simp only[qY,hcut0];omega),List.getElem?_toArray,gh,xq hj]
    .intro j hj;unfold t9
     try simp only
     rw[tN (by rw[s1,hcutl];omega),am (by omega),tN (by rw[s0,hnl];omega),af (by omega),am (by rw[hnl];omega)];congr 1;omega
    .intro j hj;rw[hxl] at hj;unfold t9
     try simp only
     rw[tN (by rw[s1,hcutl];omega),af (by omega),am (by rw[hcutl];omega),show 0+(ii+1)*u.size+j-(ii+1)*u.size=j from by omega,xq hj]
   .unfold World.shape?;rw[setRow_heap w1 w.heap.size _ _ E3 _ hh1];simp only[s2]
   .show _=Value.slice _ _ ((G'*u.size-0)/u.size);rw[Nat.sub_zero,qL _ u.size_pos]
end
end Go.SX
namespace Go.RS
open Go.SX Go.Proofs
set_option maxHeartbeats 4000000
def xX:Value := .agg #[.int .i64 0,.int .i64 0,.int .i64 0,.int .i64 0,.int .i64 0,.slice none 0 0]
section
variable {w:World}
theorem ax8:Lk Tryz.prog 108 50 125 6 64 xX.cells 50:=by
 refine⟨?_,?_,?_⟩
 .intro w w' p q n c vc v hn hc hr;have hz:(Go.sizeOf 125).run Tryz.prog w = .ok 6 w:=kU (by kernel_rfl) w;unfold maxLen at hc;cases p <;> go_enter Tryz.func108,Tryz.ntmps108 <;>
  go_wp2_with (at_builtin;refine Lib.wpList_append_run _ rfl _ _ _ _ rfl _ _ rfl rfl _ _ hr ?_)
  all_goals (go_ret;exact⟨rfl,rfl⟩)
 .intro w b off n c i vb voff vc cur vcur E' vs hi hn hc hvb hb hf hv hvl hvs h1v h1c;have hz:∀ w,(Go.sizeOf 125).run Tryz.prog w = .ok 6 w:=λw=>kU (by kernel_rfl) w;have mixed:Tryz.prog.follows .mixedOrders=true:=qZ;unfold maxLen at hc;have hsa:w.shape? vb=some (E',vcur.size):=by unfold World.shape?;rw[hv]
  have hsb:w.shape? b=some (125,cur.size):=by unfold World.shape?;rw[hb]
  have hfa:w.frozen? ⟨vb,voff,none⟩=false:=by simp[World.frozen?,hv]
  have hfe:w.frozen? ⟨vb,vcur.size,none⟩=false:=by simp[World.frozen?,hv]
  have hov:∀ lb cb o,(callFunc 156 #[.slice (some ⟨vb,voff,none⟩) 1 vc,.slice (some ⟨b,o,none⟩) lb cb]).run Tryz.prog w = .ok (.value (.bool false)) w:=λlb cb o=>by
   rw[run_callFunc_extern Tryz.func156 (by kernel_rfl) (by kernel_rfl) (by kernel_rfl) (e:=Extern.SlicesOverlaps.overlaps #[50,50] #[4]) (by kernel_rfl),
    Lib.run_overlaps_apart w 50 4 125 Tryz.underlying50 6 hz ⟨vb,voff,none⟩ ⟨b,o,none⟩ 1 vc lb cb hvb E' 125 vcur.size cur.size hsa hsb (by omega) hfa hfe]
   rfl
  have hw1:IntKind.i64.wrap ((i:Int)+1)=(i:Int)+1:=by rw[IntKind.wrap_i64];omega
  have hw2:IntKind.i64.wrap ((n:Int)+1)=(n:Int)+1:=by rw[IntKind.wrap_i64];omega
  have hz2:¬ ((i:Int)=(n:Int)):=by omega
  have htn:((i:Int)+1).toNat=i+1:=by omega
  have htm:((n:Int)+1).toNat=n+1:=by omega
  have hb1:(0:Int)<=(i:Int)+1:=by omega
  have hb2:¬ (c=i+1):=by omega
  have hb3:(i:Int)<=(n:Int)+1:=by omega
  have hb4:¬ (c=i):=by omega
  have hin:i<=n:=by omega
  have e1:(i+1)*6=i*6+6:=by omega
  have hcl:(iX cur (off+i*6) ((n-i)*6)).length=(n-i)*6:=AF (by omega);have hsz:(Tryz.prog.info? 125).map (·.size)=some 6:=by kernel_rfl
  have hcp1:(Builtin.copy_ #[50,50] 3 #[.slice (some ⟨b,off+(i+1)*6,none⟩) (n-i) (c-(i+1)),.slice (some ⟨b,off+i*6,none⟩) (n+1-i) (c-i)]).run Tryz.prog w.drew =
    .ok (goInt ((n-i:Nat):Int)) (w.drew.setRow b (lL cur (off+(i+1)*6) (iX cur (off+i*6) ((n-i)*6)))):=by
   have h:=EI (P:=Tryz.prog) w.drew 50 50 3 125 6 b (off+(i+1)*6) (n-i) (c-(i+1)) ⟨b,off+i*6,none⟩ (n+1-i) (c-i) cur 125 (iX cur (off+i*6) ((n-i)*6)) Tryz.underlying50 hsz hb
    (by rw[hcl];simp only[Nat.min_def];split <;> omega)
    (λj v hj=>by
     have hj':=(List.getElem?_eq_some_iff.1 hj).1;rw[hcl] at hj';rw[xq hj'] at hj;rw[Addr.add_lit,cell_of_row w.drew b _ cur 125 (0,0) hb];exact hj)
    (by rw[hcl];omega) h1c
   have hm:Nat.min (n+1-i) (n-i)=n-i:=by simp only[Nat.min_def];split <;> omega
   rw[hm] at h;exact h
  have hr1:(lL cur (off+(i+1)*6) (iX cur (off+i*6) ((n-i)*6))).size=cur.size:=yS (by rw[hcl];omega);have hcp2:(Builtin.copy_ #[50,50] 3 #[.slice (some ⟨b,off+i*6,none⟩) (n+1-i) (c-i),.slice (some ⟨vb,voff,none⟩) 1 vc]).run Tryz.prog (w.drew.setRow b (lL cur (off+(i+1)*6) (iX cur (off+i*6) ((n-i)*6)))) =
    .ok (goInt 1) (w.drew.setRow b (vg cur off n i 6 vs)):=by
   have h:=EI (P:=Tryz.prog) (w.drew.setRow b (lL cur (off+(i+1)*6) (iX cur (off+i*6) ((n-i)*6)))) 50 50 3 125 6 b (off+i*6) (n+1-i) (c-i) ⟨vb,voff,none⟩ 1 vc _ 125 vs Tryz.underlying50 hsz
    (setRow_heap w.drew b cur _ 125 (0,0) hb)
    (by rw[hvl];simp only[Nat.min_def];split <;> omega)
    (λj v hj=>by
     rw[Addr.add_lit,cell_setRow_other _ _ _ _ hvb];exact hvs j v hj)
    (by rw[hr1,hvl];omega) h1v
   have hm:Nat.min 1 (n+1-i)=1:=by simp only[Nat.min_def];split <;> omega
   rw[hm,setRow_setRow] at h;exact h
  clear e1 hcl hr1
  go_enter Tryz.func108,Tryz.ntmps108
  go_wp2_with (simp only[hov])
  go_region
  go_wp2
  all_goals (go_ret;exact⟨rfl,rfl⟩)
 .intro w b off n i vb voff vc cur vcur E' vs hi hn hby hb hf hv hvl hvs h1v h1c;have hz:∀ w,(Go.sizeOf 125).run Tryz.prog w = .ok 6 w:=λw=>kU (by kernel_rfl) w;have mixed:Tryz.prog.follows .mixedOrders=true:=qZ;have hx:(Tryz.prog.info? 125).map (λi=>(i.zero,i.size,i.bytes))=some (some xX,6,64):=by kernel_rfl
  obtain⟨i0,hi0⟩:∃ i0,Tryz.prog.info? 125=some i0:=by
   cases hh:Tryz.prog.info? 125 with
   | none=>rw[hh] at hx;cases hx
   | some i0=>exact⟨i0,rfl⟩
  rw[hi0] at hx;simp only[Option.map_some,bq,br] at hx;obtain⟨hz0,hzs,hzb⟩:=hx;have hsz:(Tryz.prog.info? 125).map (·.size)=some 6:=by kernel_rfl
  have hbw:b<w.heap.size:=(Array.getElem?_eq_some_iff.1 hb).1;have hvw:vb<w.heap.size:=(Array.getElem?_eq_some_iff.1 hv).1;have hni:i*6+(n-i)*6=n*6:=by rw[← fS];congr 1;omega
  have hil:(iX cur off (i*6)).length=i*6:=AF (by omega);have hcl:(iX cur (off+i*6) ((n-i)*6)).length=(n-i)*6:=AF (by omega);have hold:(Builtin.firstCells i0.size i (.slice (some ⟨b,off,none⟩) i n)).run Tryz.prog w.drew = .ok (iX cur off (i*6)).toArray w.drew:=by
   rw[hzs];exact run_firstCells_some w.drew 6 i ⟨b,off,none⟩ i n (iX cur off (i*6)) hil (λj v hj=>by
    have hj':=(List.getElem?_eq_some_iff.1 hj).1;rw[hil] at hj';rw[xq hj'] at hj;rw[Addr.add_lit,cell_of_row w.drew b _ cur 125 (0,0) hb];exact hj)
  have hGn:n+1<=grownCap w (n+1) n 125:=grownCap_ge w _ _ _;have hG63:=grownCap_le_maxLen w (n+1) n 125 hn;have hrz:(Builtin.append_ #[50,3] 50 #[.slice (some ⟨b,off,none⟩) i n,.int .i64 ((n:Int)+1-(i:Int))]).run Tryz.prog w =
    .ok (.slice (some ⟨w.heap.size,0,none⟩) (n+1) (grownCap w (n+1) n 125)) (w.drew.alloc (.cells (tD cur off n i 6 (grownCap w (n+1) n 125) xX.cells) 125)):=by
   have h:=Lib.run_append_grow_zeros w 50 3 50 125 i0 _ .i64 .i64 Tryz.underlying50 Tryz.underlying3 hi0 hz0 (some ⟨b,off,none⟩) i n (iX cur off (i*6)) hold (n+1-i) (by omega) (by omega) (by omega) (by unfold maxLen at hn;omega) (by rw[hzb];omega)
    (by rw[show i+(n+1-i)=n+1 from by omega];exact growslice_fits (by omega) (by rw[hzb];exact hby))
   rw[show i+(n+1-i)=n+1 from by omega] at h;rw[show (n:Int)+1-(i:Int)=((n+1-i:Nat):Int) from by omega];exact h
  generalize hG:grownCap w (n+1) n 125=G at *;have hrs:(tD cur off n i 6 G xX.cells).size=G*6:=by
   unfold tD;simp only[Array.size_append,qY,hil,size_zeroCells];have:xX.cells.size=6:=rfl;rw[this,← fS,← fS];congr 1;omega
  generalize hROW:tD cur off n i 6 G xX.cells=ROW at *;have hgN:(w.drew.alloc (.cells ROW 125)).heap[w.heap.size]? = some (.cells ROW 125 (0,0)):=heap_alloc_new w.drew _;have hG6:(n+1)*6<=G*6:=mM _ hGn;have e1:(i+1)*6=i*6+6:=by omega
  have hr1:(lL ROW (i*6) vs).size=G*6:=by rw[yS (by rw[hrs,hvl];omega),hrs]
  have hcp1:(Builtin.copy_ #[50,50] 3 #[.slice (some ⟨w.heap.size,i*6,none⟩) (n+1-i) (G-i),.slice (some ⟨vb,voff,none⟩) 1 vc]).run Tryz.prog (w.alloc (.cells ROW 125)).drew =
    .ok (goInt 1) ((w.alloc (.cells ROW 125)).drew.setRow w.heap.size (lL ROW (i*6) vs)):=by
   have h:=EI (P:=Tryz.prog) (w.drew.alloc (.cells ROW 125)) 50 50 3 125 6 w.heap.size (i*6) (n+1-i) (G-i) ⟨vb,voff,none⟩ 1 vc _ 125 vs Tryz.underlying50 hsz hgN
    (by rw[hvl];simp only[Nat.min_def];split <;> omega)
    (λj v hj=>by
     rw[Addr.add_lit,World.cell?_alloc_past (w:=w.drew) _ vb _ hvw];exact hvs j v hj)
    (by rw[hrs,hvl];omega) h1v
   have hm:Nat.min 1 (n+1-i)=1:=by simp only[Nat.min_def];split <;> omega
   rw[hm] at h;exact h
  have hcp2:(Builtin.copy_ #[50,50] 3 #[.slice (some ⟨w.heap.size,(i+1)*6,none⟩) (n-i) (G-(i+1)),.slice (some ⟨b,off+i*6,none⟩) (n-i) (n-i)]).run Tryz.prog ((w.alloc (.cells ROW 125)).drew.setRow w.heap.size (lL ROW (i*6) vs)).drew =
    .ok (goInt ((n-i:Nat):Int)) ((w.alloc (.cells ROW 125)).drew.drew.setRow w.heap.size (lL (lL ROW (i*6) vs) ((i+1)*6) (iX cur (off+i*6) ((n-i)*6)))):=by
   have h:=EI (P:=Tryz.prog) ((w.alloc (.cells ROW 125)).drew.setRow w.heap.size (lL ROW (i*6) vs)).drew 50 50 3 125 6 w.heap.size ((i+1)*6) (n-i) (G-(i+1)) ⟨b,off+i*6,none⟩ (n-i) (n-i) _ 125 (iX cur (off+i*6) ((n-i)*6)) Tryz.underlying50 hsz
    (setRow_heap _ w.heap.size _ _ 125 (0,0) hgN)
    (by rw[hcl];simp only[Nat.min_def];split <;> omega)
    (λj v hj=>by
     have hj':=(List.getElem?_eq_some_iff.1 hj).1;rw[hcl] at hj';rw[xq hj'] at hj;show World.cell? ((w.drew.alloc (.cells ROW 125)).setRow w.heap.size (lL ROW (i*6) vs)) _=_;rw[Addr.add_lit,cell_setRow_other _ _ _ _ (by show b≠w.heap.size;omega),World.cell?_alloc_past (w:=w.drew) _ b _ hbw,cell_of_row w.drew b _ cur 125 (0,0) hb];exact hj)
    (by rw[hr1,hcl];omega) (λv hv=>h1c v (by
     unfold iX at hv ⊢;rw[← List.drop_drop] at hv;have e2:take ((n-i)*6) (drop (i*6) (drop off cur.toList))=drop (i*6) (take (n*6) (drop off cur.toList)):=by
      rw[List.drop_take];congr 1;omega
     rw[e2] at hv;exact xg hv))
   have hm:Nat.min (n-i) (n-i)=n-i:=by simp only[Nat.min_def];split <;> omega
   rw[hm] at h;have hs2:∀(W:World)(g:Nat)(a b:Array Value),(W.setRow g a).drew.setRow g b=W.drew.setRow g b:=λW g a b=>setRow_setRow W.drew g a b;rw[hs2] at h;exact h
  have hz2:¬ ((i:Int)=(n:Int)):=by omega
  have hw1:IntKind.i64.wrap ((i:Int)+1)=(i:Int)+1:=by rw[IntKind.wrap_i64];unfold maxLen at hn;omega
  have hw2:IntKind.i64.wrap ((n:Int)+1)=(n:Int)+1:=by rw[IntKind.wrap_i64];unfold maxLen at hn;omega
  have hz3:(n:Int)<(n:Int)+1:=by omega
  have hGi:¬ (G=i):=by omega
  have hGim:¬ (G=i+1):=by omega
  have hci:¬ (n=i):=by omega
  have hb1:(0:Int)<=(i:Int)+1:=by omega
  have hin:i<=n:=by omega
  have htn:((i:Int)+1).toNat=i+1:=by omega
  have hb3:(i:Int)<=(n:Int):=by omega
  have hiG:i<=n+1:=by omega
  unfold maxLen at hn hG63;clear e1 hr1 hG6 hil hcl hni hrs hgN hold hGn
  go_enter Tryz.func108,Tryz.ntmps108
  go_wp2_with (at_builtin;refine Lib.wpList_append_run _ rfl _ _ _ _ rfl _ _ rfl rfl _ _ hrz ?_)
  go_region
  go_wp2
  all_goals (go_ret;exact⟨rfl,(w.alloc (.cells ROW 125)).drew.drew,((cY.alloc w.drew _ _).trans (cY.drew _ _)),by simp,heap_alloc_new w.drew _,by unfold t9;rw[hROW]⟩)
end
def aK6:Go.SX.Spec:=CX nB 125 64
theorem Xy:aB 108 aK6:=by
 show oT Tryz.prog GL 108 (CX nB 125 64)
 exact Vn (u:=nB) (zv:=xX) ax8 Tryz.underlying50 (by kernel_rfl) rfl (by decide) rfl
end Go.RS
namespace Go.RS
open Go.SX Go.Proofs
abbrev yG:OT := .pair ib (.pair cI (.pair cI (.pair cI (.pair (.row 118 qh) (.pair (.row 3 cI) (.pair (.row 125 nB) (.pair (.row 78 yx) (.row 68 pX))))))))
def UU:Ct:=⟨[.val (.sl qh)],[.own 118 qh],λd=>[(d.1.length:Int)<=1000000],λd=>((d.1,()),())⟩
def kZ :=
 (140737488355328:Nat)
theorem aD8 :
 ∀(a:List (List aN×Int×ae×(Int×Int)×Int)),(a.length<=maxLen/\ ∀(b:List aN×Int×ae×(Int×Int)×Int),b∈a->(b.1.length<=maxLen/\ ∀(c:aN),c∈b.1->((0<=c.1.1/\c.1.1<=4294967295)/\aq c.1.2)/\(c.2.1.length<=maxLen/\ ∀(d:Int),d∈c.2.1->aq d)/\aq c.2.2)/\aq b.2.1/\(b.2.2.1.length<=maxLen/\ ∀(c:Int),c∈b.2.2.1->aq c)/\(aq b.2.2.2.1.1/\aq b.2.2.2.1.2)/\aq b.2.2.2.2)/\True->(ac a)<=1000000-> ∀(b:Bool),(b=true->a.length=(0:Nat))->ao b (([]:List (List aN×Int×ae×(Int×Int)×Int))=a) (((0:Nat)+a.length)*(80:Nat)<=(kZ)/\a=a):=by
  delta kZ ac;rintro x ⟨⟨hl,-⟩,-⟩ h b hb;refine aw (λh1=>?_) (λh1=>⟨by simp;omega,by simp⟩);have:=hb h1;exact (oV this).symm
theorem Xv:aB 100 UU.spec:=aF Tryz.func100 aC aT aD8
def am1:Ct:=⟨[.val (.sl nB)],[.own 125 nB],λd=>[(d.1.length:Int)<=1000000],λd=>((d.1,()),())⟩
theorem aA6 :
 ∀(a:List (Int×Int×Int×Int×Int×ae)),(a.length<=maxLen/\ ∀(b:Int×Int×Int×Int×Int×ae),b∈a->aq b.1/\aq b.2.1/\aq b.2.2.1/\aq b.2.2.2.1/\aq b.2.2.2.2.1/\b.2.2.2.2.2.length<=maxLen/\ ∀(c:Int),c∈b.2.2.2.2.2->0<=c/\c<=255)/\True->(ac a)<=1000000-> ∀(b:Bool),(b=true->a.length=(0:Nat))->ao b (([]:List (Int×Int×Int×Int×Int×ae))=a) (((0:Nat)+a.length)*(64:Nat)<=(kZ)/\a=a):=by
  delta kZ ac;rintro x ⟨⟨hl,-⟩,-⟩ h b hb;refine aw (λh1=>?_) (λh1=>⟨by simp;omega,by simp⟩);have:=hb h1;exact (oV this).symm
theorem Vx:aB 101 am1.spec:=aF Tryz.func101 aC aT aA6
def aj1:Ct:=⟨[.val (.sl yx)],[.own 78 yx],λd=>[(d.1.length:Int)<=1000000000000],λd=>((d.1,()),())⟩
theorem Xo :
 ∀(a:List (Int×Int×ae)),(a.length<=maxLen/\ ∀(b:Int×Int×ae),b∈a->aq b.1/\aq b.2.1/\b.2.2.length<=maxLen/\ ∀(c:Int),c∈b.2.2->0<=c/\c<=255)/\True->(ac a)<=1000000000000-> ∀(b:Bool),(b=true->a.length=(0:Nat))->ao b (([]:List (Int×Int×ae))=a) (((0:Nat)+a.length)*(40:Nat)<=(kZ)/\a=a):=by
  delta kZ ac;rintro x ⟨⟨hl,-⟩,-⟩ h b hb;refine aw (λh1=>?_) (λh1=>⟨by simp;omega,by simp⟩);have:=hb h1;exact (oV this).symm
theorem Zw:aB 102 aj1.spec:=aF Tryz.func102 aC aT Xo
def aV4:Ct:=⟨[.val (.sl pX)],[.own 68 pX],λd=>[(d.1.length:Int)<=1000000000000],λd=>((d.1,()),())⟩
theorem Tw :
 ∀(a:List (Int×Int×Int×Int×Int)),(a.length<=maxLen/\ ∀(b:Int×Int×Int×Int×Int),b∈a->aq b.1/\aq b.2.1/\aq b.2.2.1/\aq b.2.2.2.1/\aq b.2.2.2.2)/\True->(ac a)<=1000000000000-> ∀(b:Bool),(b=true->a.length=(0:Nat))->ao b (([]:List (Int×Int×Int×Int×Int))=a) (((0:Nat)+a.length)*(40:Nat)<=(kZ)/\a=a):=by
  delta kZ ac;rintro x ⟨⟨hl,-⟩,-⟩ h b hb;refine aw (λh1=>?_) (λh1=>⟨by simp;omega,by simp⟩);have:=hb h1;exact (oV this).symm
theorem an8:aB 103 aV4.spec:=aF Tryz.func103 aC aT Tw
def Tu:Ct:=⟨[.val (.sl bU)],[.own 92 bU],λd=>[(d.1.length:Int)<=1000000],λd=>((d.1,()),())⟩
theorem aw6 :
 ∀(a:List au),(a.length<=maxLen/\ ∀(b:au),b∈a->CT.wf bU b)/\True->(ac a)<=1000000-> ∀(b:Bool),(b=true->a.length=(0:Nat))->ao b (([]:List au)=a) (((0:Nat)+a.length)*(152:Nat)<=(kZ)/\a=a):=by
  delta kZ ac;rintro x ⟨⟨hl,-⟩,-⟩ h b hb;refine aw (λh1=>?_) (λh1=>⟨by simp;omega,by simp⟩);have:=hb h1;exact (oV this).symm
theorem am6:aB 92 Tu.spec:=aF Tryz.func92 aC aT aw6
def ac7:Ct:=⟨[.val (.sl fU)],[.own 86 fU],λd=>[(d.1.length:Int)<=1000000],λd=>((d.1,()),())⟩
theorem YE :
 ∀(a:List aK),(a.length<=maxLen/\ ∀(b:aK),b∈a->CT.wf fU b)/\True->(ac a)<=1000000-> ∀(b:Bool),(b=true->a.length=(0:Nat))->ao b (([]:List aK)=a) (((0:Nat)+a.length)*(48:Nat)<=(kZ)/\a=a):=by
  delta kZ ac;rintro x ⟨⟨hl,-⟩,-⟩ h b hb;refine aw (λh1=>?_) (λh1=>⟨by simp;omega,by simp⟩);have:=hb h1;exact (oV this).symm
theorem Y8:aB 93 ac7.spec:=aF Tryz.func93 aC aT YE
def SG:Ct:=⟨[.val (.sl fh)],[.own 153 fh],λd=>[(d.1.length:Int)<=1000000],λd=>((d.1,()),())⟩
theorem aQ6 :
 ∀(a:List aV),(a.length<=maxLen/\ ∀(b:aV),b∈a->CT.wf fh b)/\True->(ac a)<=1000000-> ∀(b:Bool),(b=true->a.length=(0:Nat))->ao b (([]:List aV)=a) (((0:Nat)+a.length)*(72:Nat)<=(kZ)/\a=a):=by
  delta kZ ac;rintro x ⟨⟨hl,-⟩,-⟩ h b hb;refine aw (λh1=>?_) (λh1=>⟨by simp;omega,by simp⟩);have:=hb h1;exact (oV this).symm
theorem aN3:aB 94 SG.spec:=aF Tryz.func94 aC aT aQ6
def Xw:Ct:=⟨[.val (.sl tA)],[.own 99 tA],λd=>[(d.1.length:Int)<=1000000],λd=>((d.1,()),())⟩
theorem X4 :
 ∀(a:List (Int×Int)),(a.length<=maxLen/\ ∀(b:Int×Int),b∈a->(0<=b.1/\b.1<=4294967295)/\aq b.2)/\True->(ac a)<=1000000-> ∀(b:Bool),(b=true->a.length=(0:Nat))->ao b (([]:List (Int×Int))=a) (((0:Nat)+a.length)*(16:Nat)<=(kZ)/\a=a):=by
  delta kZ ac;rintro x ⟨⟨hl,-⟩,-⟩ h b hb;refine aw (λh1=>?_) (λh1=>⟨by simp;omega,by simp⟩);have:=hb h1;exact (oV this).symm
theorem aC0:aB 95 Xw.spec:=aF Tryz.func95 aC aT X4
def Mm:Ct:=⟨[.val (.sl dh)],[.own 96 dh],λd=>[okL d.1],λd=>((d.1,()),())⟩
def aP8:bw Mm.ps->ce:=(λd=>{loops:=(bp 3 (λS=>{ι:=Int,μ:=λi=>(d.1.length-i).toNat,inv:=λi=>0<=i/\i<=d.1.length,keep:=[3,8,9],slots:=λi=>[(10,.int .i64 i)],keepN:=[128]}) cC)})
theorem Xf :
 ∀(a:List aN),(a.length<=maxLen/\ ∀(b:aN),b∈a->((0<=b.1.1/\b.1.1<=4294967295)/\aq b.1.2)/\(b.2.1.length<=maxLen/\ ∀(c:Int),c∈b.2.1->aq c)/\aq b.2.2)/\True->((ac a)<=134217728/\ ∀(b:Rt),b∈a->(ac b.2.1)<=1099511627776)->(ac a)<=134217728/\(∃(b:Int),(0<=b/\b<=(ac a))/\(ac a)=(ac a)/\0=b/\a=a/\True)/\ ∀(b:Int),0<=b/\b<=(ac a)->ao (decide (b<(ac a))) (0<=b/\b<(ac a)/\((length (ai a b).2.1):Int)<=1099511627776/\0<=b/\b<(ac a)/\ ∃(c:Int),(0<=c/\c<=(ac a))/\toNat ((ac a) -c)<toNat ((ac a) -b)/\(ac a)=(ac a)/\aj (b+1)=c/\set a b.toNat (ai a b)=a/\True) (a=a):=by
  delta aj ai ac;rintro l ⟨⟨hl,-⟩,-⟩⟨h1,h2⟩;simp only[maxLen] at hl;refine⟨h1,⟨0,⟨ab,ab⟩,aP⟩,?_⟩;rintro j ⟨j0,j1⟩;refine bT (λhj=>?_) (λhj=>?_)
  .refine⟨j0,hj,h2 _ (bR j0 hj),j0,hj,j+1,⟨ab,ab⟩,ab,?_⟩
   (repeat refine jp ?_);exact⟨r7 j0 hj,bv⟩
  .rfl
theorem Mp:aB 96 Mm.spec:=aF Tryz.func96 (av (av aC RT) yh) aP8 Xf
def OU:Ct:=⟨[.agg ib],[.agg ib],λd=>[r8 d.1],λd=>((d.1,()),())⟩
def Xg:bw OU.ps->ce:=(λd=>{loops:=(bp 3 (λS=>{ι:=Int,μ:=λi=>(d.1.1.length-i).toNat,inv:=λi=>0<=i/\i<=d.1.1.length,keep:=[2,3,19,20],slots:=λi=>[(21,.int .i64 i)],keepN:=[48,64,176,224,272]}) (bp 8 (λS=>{ι:=Int,μ:=λi=>(d.1.2.2.length-i).toNat,inv:=λi=>0<=i/\i<=d.1.2.2.length,keep:=[2,3,44,45],slots:=λi=>[(46,.int .i64 i)],keepN:=[48,64,176,224,272]}) cC))})
def y8(a:List au)(d:Int) :=
 getD (set a d.toNat (ai a d)) d.toNat default
theorem Tf :
 ∀(a:List au)(b:List aK)(c:List aV),((a.length<=maxLen/\ ∀(d:au),d∈a->CT.wf bU d)/\(b.length<=maxLen/\ ∀(d:aK),d∈b->CT.wf fU d)/\c.length<=maxLen/\ ∀(d:aV),d∈c->CT.wf fh d)/\True->((ac a)<=1000000/\(ac b)<=1000000/\(ac c)<=1000000/\(∀(d:au),d∈a->((length (ay d)):Int)<=1000000/\okL (aU d))/\ ∀(d:aV),d∈c->((length (dO d).2.1):Int)<=1099511627776)->(ac a)<=1000000/\(ac b)<=1000000/\(ac c)<=1000000/\(∃(d:Int),(0<=d/\d<=(ac a))/\(ac a)=(ac a)/\0=d/\a=a/\b=b/\c=c/\True)/\ ∀(d:Int),0<=d/\d<=(ac a)->ao (decide (d<(ac a))) (0<=d/\d<(ac a)/\((length (ai a d).1):Int)<=1000000/\okL (ai a d).2.2.2.2.1/\0<=d/\d<(ac a)/\0<=d/\d<((length (set a d.toNat (ai a d))):Int)/\ ∃(e:Int),(0<=e/\e<=(ac a))/\toNat ((ac a) -e)<toNat ((ac a) -d)/\(ac a)=(ac a)/\aj (d+1)=e/\set (set a d.toNat (ai a d))
 d.toNat ((y8 a d).1,(y8 a d).2.1,(y8 a d).2.2.1,(y8 a d).2.2.2.1,(ai a d).2.2.2.2.1,(y8 a d).2.2.2.2.2)=a/\b=b/\c=c/\True) ((∃(e:Int),(0<=e/\e<=(ac c))/\(ac c)=(ac c)/\0=e/\a=a/\b=b/\c=c/\True)/\ ∀(e:Int),0<=e/\e<=(ac c)->ao (decide (e<(ac c))) (0<=e/\e<(ac c)/\((length (ai c e).2.2.2.2.1):Int)<=1099511627776/\0<=e/\e<(ac c)/\ ∃(f:Int),(0<=f/\f<=(ac c))/\toNat ((ac c) -f)<toNat ((ac c) -e)/\(ac c)=(ac c)/\aj (e+1)=f/\a=a/\b=b/\set c e.toNat (ai c e)=c/\True) ((a,b,c)=(a,b,c))):=by
  delta y8 aj ai ac;rintro ns ls hs-⟨h1,h2,h3,h4,h5⟩;refine⟨h1,h2,h3,⟨0,⟨ab,ab⟩,aP⟩,?_⟩;rintro j ⟨j0,j1⟩;refine bT (λhj=>?_) (λhj=>?_)
  .have hx:=h4 _ (bR j0 hj);have e:ns.set j.toNat (ns.getD j.toNat default)=ns:=r7 j0 hj;refine⟨j0,hj,hx.1,hx.2,j0,hj,j0,by rw[gC];exact hj,j+1,⟨ab,ab⟩,ab,?_⟩
   (repeat refine jp ?_);refine⟨?_,aP⟩;show (ns.set j.toNat (ns.getD j.toNat default)).set j.toNat _=ns;rw[e];exact e
  refine⟨⟨0,⟨ab,ab⟩,aP⟩,?_⟩;rintro k ⟨k0,k1⟩;refine bT (λhk=>?_) (λhk=>?_)
  .refine⟨k0,hk,h5 _ (bR k0 hk),k0,hk,k+1,⟨ab,ab⟩,ab,?_⟩
   (repeat refine jp ?_);exact⟨r7 k0 hk,bv⟩
  .rfl
theorem M5:aB 40 OU.spec:=aF Tryz.func40 (av (av (av (av (av (av aC am6) Y8) aN3) aC0) Mp) yh) Xg Tf
def M6:Ct:=⟨[.agg nH],[.agg yG],λd=>[zj d.1],λd=>((d.1,()),())⟩
def Xz:bw M6.ps->ce:=(λd=>{loops:=(bp 4 (λS=>{ι:=Int,μ:=λi=>((cq d.1).length-i).toNat,inv:=λi=>0<=i/\i<=(cq d.1).length,keep:=[1,2,18,19],slots:=λi=>[(20,.int .i64 i)],keepN:=[32,48,256]}) (bp 11 (λS=>{ι:=Int,μ:=λi=>((aM d.1).length-i).toNat,inv:=λi=>0<=i/\i<=(aM d.1).length,keep:=[1,2,51,52],slots:=λi=>[(53,.int .i64 i)],keepN:=[32,48,256,720,784]}) (bp 17 (λS=>{ι:=Int,μ:=λi=>((bM d.1).length-i).toNat,inv:=λi=>0<=i/\i<=(bM d.1).length,keep:=[1,2,72,73],slots:=λi=>[(74,.int .i64 i)],keepN:=[32,48,256,720,784,1120]}) cC)))})
theorem XI :
 ∀(a:(List au×List aK×List aV)×Int×Int×Int×List (List aN×Int×ae×(Int×Int)×Int)×ae×List (Int×Int×Int×Int×Int×ae)×List (Int×Int×ae)×List (Int×Int×Int×Int×Int)),CT.wf nH a/\True->(r8 (aD a)/\((length (cq a)):Int)<=1000000/\((length (gp a)):Int)<=1000000/\((length (aM a)):Int)<=1000000/\((length (bM a)):Int)<=1000000000000/\((length (bh a)):Int)<=1000000000000/\(∀(b:ct),b∈cq a->((length (lI b)):Int)<=1000000/\okL (bS b))/\(∀(b:bg),b∈aM a->((length (f8 b)):Int)<=1000000)/\ ∀(b:rq),b∈bM a->(ac b.2.2)<=1000000)->r8 a.1/\(ac a.2.2.2.2.1)<=1000000/\(∃(b:Int),(0<=b/\b<=((length (cq a)):Int))/\(ac a.2.2.2.2.1)=(ac
 a.2.2.2.2.1)/\0=b/\a.1.1=a.1.1/\a.1.2.1=a.1.2.1/\a.1.2.2=a.1.2.2/\a.2.1=a.2.1/\a.2.2.1=a.2.2.1/\a.2.2.2.1=a.2.2.2.1/\a.2.2.2.2.2.1=a.2.2.2.2.2.1/\a.2.2.2.2.2.2.1=a.2.2.2.2.2.2.1/\a.2.2.2.2.2.2.2.1=a.2.2.2.2.2.2.2.1/\a.2.2.2.2.2.2.2.2=a.2.2.2.2.2.2.2.2/\(0:Int)=0/\(0:Int)=0/\(0:Int)=0/\a.2.2.2.2.1=a.2.2.2.2.1/\True)/\ ∀(b:Int),0<=b/\b<=((length (cq a)):Int)->ao (decide (b<(ac a.2.2.2.2.1))) (0<=b/\b<(ac a.2.2.2.2.1)/\((length (getD a.2.2.2.2.1 b.toNat default).2.2.1):Int)<=1099511627776/\okL (getD a.2.2.2.2.1 b.toNat default).1/\0<=b/\b<(ac a.2.2.2.2.1)/\0<=b/\b<((length (set a.2.2.2.2.1 b.toNat (getD a.2.2.2.2.1 b.toNat default))):Int)/\ ∃(c:Int),(0<=c/\c<=((length (cq a)):Int))/\toNat (((length (cq a)):Int) -c)<toNat (((length (cq a)):Int) -b)/\(ac a.2.2.2.2.1)=(ac a.2.2.2.2.1)/\aj
 (b+1)=c/\a.1.1=a.1.1/\a.1.2.1=a.1.2.1/\a.1.2.2=a.1.2.2/\a.2.1=a.2.1/\a.2.2.1=a.2.2.1/\a.2.2.2.1=a.2.2.2.1/\a.2.2.2.2.2.1=a.2.2.2.2.2.1/\a.2.2.2.2.2.2.1=a.2.2.2.2.2.2.1/\a.2.2.2.2.2.2.2.1=a.2.2.2.2.2.2.2.1/\a.2.2.2.2.2.2.2.2=a.2.2.2.2.2.2.2.2/\(0:Int)=0/\(0:Int)=0/\(0:Int)=0/\set (set a.2.2.2.2.1 b.toNat (getD a.2.2.2.2.1 b.toNat default)) b.toNat ((getD a.2.2.2.2.1 b.toNat default).1,(getD (set a.2.2.2.2.1 b.toNat (getD a.2.2.2.2.1 b.toNat default)) b.toNat default).2)=a.2.2.2.2.1/\True) ((ac a.2.2.2.2.2.1)<=1099511627776/\(ac a.2.2.2.2.2.2.1)<=1000000/\(∃(c:Int),(0<=c/\c<=((length (aM a)):Int))/\(ac a.2.2.2.2.2.2.1)=(ac
 a.2.2.2.2.2.2.1)/\0=c/\a.1.1=a.1.1/\a.1.2.1=a.1.2.1/\a.1.2.2=a.1.2.2/\a.2.1=a.2.1/\a.2.2.1=a.2.2.1/\a.2.2.2.1=a.2.2.2.1/\a.2.2.2.2.2.2.2.1=a.2.2.2.2.2.2.2.1/\a.2.2.2.2.2.2.2.2=a.2.2.2.2.2.2.2.2/\(0:Int)=0/\(0:Int)=0/\(0:Int)=0/\a.2.2.2.2.1=a.2.2.2.2.1/\a.2.2.2.2.2.1=a.2.2.2.2.2.1/\a.2.2.2.2.2.2.1=a.2.2.2.2.2.2.1/\True)/\ ∀(c:Int),0<=c/\c<=((length (aM a)):Int)->ao (decide (c<(ac a.2.2.2.2.2.2.1))) (0<=c/\c<(ac a.2.2.2.2.2.2.1)/\((length (getD a.2.2.2.2.2.2.1 c.toNat default).2.2.2.2.2):Int)<=1099511627776/\0<=c/\c<(ac a.2.2.2.2.2.2.1)/\ ∃(d:Int),(0<=d/\d<=((length (aM a)):Int))/\toNat (((length (aM a)):Int) -d)<toNat (((length (aM a)):Int) -c)/\(ac a.2.2.2.2.2.2.1)=(ac a.2.2.2.2.2.2.1)/\aj
 (c+1)=d/\a.1.1=a.1.1/\a.1.2.1=a.1.2.1/\a.1.2.2=a.1.2.2/\a.2.1=a.2.1/\a.2.2.1=a.2.2.1/\a.2.2.2.1=a.2.2.2.1/\a.2.2.2.2.2.2.2.1=a.2.2.2.2.2.2.2.1/\a.2.2.2.2.2.2.2.2=a.2.2.2.2.2.2.2.2/\(0:Int)=0/\(0:Int)=0/\(0:Int)=0/\a.2.2.2.2.1=a.2.2.2.2.1/\a.2.2.2.2.2.1=a.2.2.2.2.2.1/\set a.2.2.2.2.2.2.1 c.toNat (getD a.2.2.2.2.2.2.1 c.toNat default)=a.2.2.2.2.2.2.1/\True) ((ac a.2.2.2.2.2.2.2.1)<=1000000000000/\(∃(d:Int),(0<=d/\d<=((length (bM a)):Int))/\(ac a.2.2.2.2.2.2.2.1)=(ac a.2.2.2.2.2.2.2.1)/\0=d/\a.1.1=a.1.1/\a.1.2.1=a.1.2.1/\a.1.2.2=a.1.2.2/\a.2.1=a.2.1/\a.2.2.1=a.2.2.1/\a.2.2.2.1=a.2.2.2.1/\a.2.2.2.2.2.2.2.2=a.2.2.2.2.2.2.2.2/\(0:Int)=0/\(0:Int)=0/\(0:Int)=0/\a.2.2.2.2.1=a.2.2.2.2.1/\a.2.2.2.2.2.1=a.2.2.2.2.2.1/\a.2.2.2.2.2.2.1=a.2.2.2.2.2.2.1/\a.2.2.2.2.2.2.2.1=a.2.2.2.2.2.2.2.1/\True)/\ ∀(d:Int),0<=d/\d<=((length (bM a)):Int)->ao (decide (d<(ac a.2.2.2.2.2.2.2.1)))
 (0<=d/\d<(ac a.2.2.2.2.2.2.2.1)/\((length (getD a.2.2.2.2.2.2.2.1 d.toNat default).2.2):Int)<=1099511627776/\0<=d/\d<(ac a.2.2.2.2.2.2.2.1)/\ ∃(e:Int),(0<=e/\e<=((length (bM a)):Int))/\toNat (((length (bM a)):Int) -e)<toNat (((length (bM a)):Int) -d)/\(ac a.2.2.2.2.2.2.2.1)=(ac a.2.2.2.2.2.2.2.1)/\aj (d+1)=e/\a.1.1=a.1.1/\a.1.2.1=a.1.2.1/\a.1.2.2=a.1.2.2/\a.2.1=a.2.1/\a.2.2.1=a.2.2.1/\a.2.2.2.1=a.2.2.2.1/\a.2.2.2.2.2.2.2.2=a.2.2.2.2.2.2.2.2/\(0:Int)=0/\(0:Int)=0/\(0:Int)=0/\a.2.2.2.2.1=a.2.2.2.2.1/\a.2.2.2.2.2.1=a.2.2.2.2.2.1/\a.2.2.2.2.2.2.1=a.2.2.2.2.2.2.1/\set a.2.2.2.2.2.2.2.1 d.toNat (getD a.2.2.2.2.2.2.2.1 d.toNat default)=a.2.2.2.2.2.2.2.1/\True) ((ac a.2.2.2.2.2.2.2.2)<=1000000000000/\a=a))):=by
  delta aj ac;rintro d-⟨h1,h2,h3,h4,h5,h6,h7,h8,h9⟩;have h2:(d.2.2.2.2.1.length:Int)<=1000000:=h2;have h3:(d.2.2.2.2.2.1.length:Int)<=1000000:=h3;have h4:(d.2.2.2.2.2.2.1.length:Int)<=1000000:=h4;have h5:(d.2.2.2.2.2.2.2.1.length:Int)<=1000000000000:=h5;have h6:(d.2.2.2.2.2.2.2.2.length:Int)<=1000000000000:=h6;have eS:cq d=d.2.2.2.2.1:=rfl;have eF:aM d=d.2.2.2.2.2.2.1:=rfl;have eD:bM d=d.2.2.2.2.2.2.2.1:=rfl;simp only[eS,eF,eD] at *;refine⟨h1,h2,⟨0,⟨ab,ab⟩,aP⟩,?_⟩;rintro j ⟨j0,j1⟩;refine bT (λhj=>?_) (λhj=>?_)
  .have hx:=h7 _ (bR j0 hj);have hx1:((d.2.2.2.2.1.getD j.toNat default).2.2.1.length:Int)<=1000000:=hx.1;have e:d.2.2.2.2.1.set j.toNat (d.2.2.2.2.1.getD j.toNat default)=d.2.2.2.2.1:=r7 j0 hj;refine⟨j0,hj,ab,hx.2,j0,hj,j0,by rw[gC];exact hj,j+1,⟨ab,ab⟩,ab,?_⟩
   (repeat refine jp ?_);refine⟨?_,bv⟩;show (d.2.2.2.2.1.set j.toNat (d.2.2.2.2.1.getD j.toNat default)).set j.toNat _=d.2.2.2.2.1;rw[e];exact e
  refine⟨ab,h4,⟨0,⟨ab,ab⟩,aP⟩,?_⟩;rintro k ⟨k0,k1⟩;refine bT (λhk=>?_) (λhk=>?_)
  .have hx1:((d.2.2.2.2.2.2.1.getD k.toNat default).2.2.2.2.2.length:Int)<=1000000:=h8 _ (bR k0 hk);refine⟨k0,hk,ab,k0,hk,k+1,⟨ab,ab⟩,ab,?_⟩
   (repeat refine jp ?_);exact⟨r7 k0 hk,bv⟩
  refine⟨h5,⟨0,⟨ab,ab⟩,aP⟩,?_⟩;rintro k ⟨k0,k1⟩;refine bT (λhk=>?_) (λhk=>?_)
  .have hx1:((d.2.2.2.2.2.2.2.1.getD k.toNat default).2.2.length:Int)<=1000000:=h9 _ (bR k0 hk);refine⟨k0,hk,ab,k0,hk,k+1,⟨ab,ab⟩,ab,?_⟩
   (repeat refine jp ?_);exact⟨r7 k0 hk,bv⟩
  exact⟨h6,bv⟩
theorem Qz:aB 42 M6.spec:=aF Tryz.func42 (av (av (av (av (av (av (av (av aC M5) Xv) yh) Mp) Vx) r4) Zw) an8) Xz XI
def t8(x y:bg):Int:=if gG (aO x) (aO y)≠0 then gG (aO x) (aO y) else gG (j7 x) (j7 y)
def aS8:Ct:=⟨[.agg nB,.agg nB],[.val cI],λ_=>[],λd=>((t8 d.1 d.2.1,()),())⟩
theorem XG :
 ∀(a b c d e:Int)(f:ae)(g h i j k:Int)(l:ae),(aq a/\aq b/\aq c/\aq d/\aq e/\f.length<=maxLen/\ ∀(m:Int),m∈f->0<=m/\m<=255)/\(aq g/\aq h/\aq i/\aq j/\aq k/\l.length<=maxLen/\ ∀(m:Int),m∈l->0<=m/\m<=255)/\True->True->mU [gG a g,gG b h]=t8 (a,b,c,d,e,f) (g,h,i,j,k,l):=by
  rintro a1 a2 a3 a4 a5 a6 b1 b2 b3 b4 b5 b6 - -;have e:t8 (a1,a2,a3,a4,a5,a6) (b1,b2,b3,b4,b5,b6)=if gG a1 b1≠0 then gG a1 b1 else gG a2 b2:=rfl;rw[e];simp only[mU];by_cases h:gG a1 b1≠0
  .rw[am h,am h]
  .rw[af h,af h];by_cases k:gG a2 b2≠0
   .rw[am k]
   .rw[af k];simp at k;exact k.symm
theorem aA3:aB 105 aS8.spec:=aF Tryz.func105 (av (av aC PH) ME) aT XG
instance (a b:bg):Decidable (gJ a b):=by unfold gJ;infer_instance
def gE(l:List bg)(t:bg):Int:=((l.takeWhile λx=>decide (gJ x t)).length:Int)
theorem UW{x y:bg}:t8 x y<0↔gJ x y:=by
 unfold t8 gG gJ
 by_cases h1:aO x<aO y
 .simp[h1]
 .by_cases h2:aO y<aO x
  .have:aO x≠aO y:=ab;simp[h1,h2,this]
  .have:aO x=aO y:=ab;by_cases h3:j7 x<j7 y
   .simp[this,h3]
   .by_cases h4:j7 y<j7 x <;> simp[this,h3,h4]
theorem ay2{x y z:bg}(h:gJ x y)(k:gJ y z):gJ x z:=by unfold gJ at *;omega
theorem HY(l:List bg)(t:bg):0<=gE l t/\gE l t<=l.length:=by
 unfold gE
 have:=jn length (sD (p:=λx=>decide (gJ x t)) (l:=l))
 rw[cA] at this
 omega
theorem OX:∀{l:List bg}{t:bg}{h:Nat},l.Pairwise gJ->h<l.length->(gJ (l.getD h default) t↔(h:Int)<gE l t)
 | [],t,h,_,hh=>by simp at hh
 | a::l,t,h,hs,hh=>by
  obtain⟨s1,s2⟩:=List.pairwise_cons.1 hs;by_cases ha:gJ a t
  .have e:gE (a::l) t=gE l t+1:=by unfold gE;rw[List.takeWhile_cons_of_pos (by simpa using ha),dN];omega
   cases h with
   | zero =>
    have:=HY l t;simp only[List.getD_cons_zero];exact⟨λ_=>by rw[e];omega,λ_=>ha⟩
   | succ h =>
    simp only[List.getD_cons_succ];rw[OX s2 (by simpa using hh),e];omega
  .have e:gE (a::l) t=0:=by unfold gE;rw[List.takeWhile_cons_of_neg (by simpa using ha)];rfl
   rw[e];constructor
   .intro k;exfalso;cases h with
    | zero=>exact ha k
    | succ h =>
     simp only[List.getD_cons_succ] at k;have hh:h<l.length:=by simpa using hh
     have hm:l.getD h default∈l:=by rw[bJ,cK hh];exact List.getElem_mem hh
     exact ha (ay2 (s1 _ hm) k)
   .intro k;omega
theorem Qy{l:List bg}{t:bg}{h:Int}(hs:l.Pairwise gJ)(h0:0<=h)(h1:h<l.length):t8 (l.getD h.toNat default) t<0↔h<gE l t:=by
 rw[UW,OX hs ab]
 rw[Int.toNat_of_nonneg h0]
def Mf:Ct:=⟨[.val (.sl nB),.agg nB,.fn 105 0],[.val cI,.val .bool],λd=>[d.1.Pairwise gJ],λd=>((gE d.1 d.2.1,(bif decide (gE d.1 d.2.1<d.1.length) then decide (t8 (d.1.getD (gE d.1 d.2.1).toNat default) d.2.1=0) else false),()),())⟩
def US:bw Mf.ps->ce:=(λd=>{loops:=(bp 3 (λS=>{ι:=Int×Int,qn:=ft,μ:=λi=>(i.2-i.1).toNat,inv:=λi=>0<=i.1/\i.1<=gE d.1 d.2.1/\gE d.1 d.2.1<=i.2/\i.2<=d.1.length,keep:=[0,2,4,8],slots:=λi=>[(9,.int .i64 i.1),(10,.int .i64 i.2)],keepN:=[80]}) cC)})
def Ae(h i:Int) :=
 dF IntKind.u64 (IntKind.wrap .u64 (aj (h+i))) (1:Int)
theorem aj4 :
 ∀(a:List (Int×Int×Int×Int×Int×ae))(b c d e f:Int)(g:ae),(a.length<=maxLen/\ ∀(h:Int×Int×Int×Int×Int×ae),h∈a->aq h.1/\aq h.2.1/\aq h.2.2.1/\aq h.2.2.2.1/\aq h.2.2.2.2.1/\h.2.2.2.2.2.length<=maxLen/\ ∀(i:Int),i∈h.2.2.2.2.2->0<=i/\i<=255)/\(aq b/\aq c/\aq d/\aq e/\aq f/\g.length<=maxLen/\ ∀(h:Int),h∈g->0<=h/\h<=255)/\True/\True->List.Pairwise gJ a->(∃(h:Int) (i:Int),(0<=h/\h<=gE a (b,c,d,e,f,g)/\gE a (b,c,d,e,f,g)<=i/\i<=(ac a))/\a=a/\(ac a)=(ac a)/\0=h/\(ac a)=i/\b=b/\c=c/\d=d/\e=e/\f=f/\g=g/\True)/\ ∀(h i:Int),0<=h/\h<=gE a (b,c,d,e,f,g)/\gE a (b,c,d,e,f,g)<=i/\i<=(ac a)->ao (decide (h<i)) ((0:Int)<=1/\0<=aj (Ae h i)/\aj (Ae h i)<(ac a)/\ao (decide (t8 (ai a (aj (Ae h i))) (b,c,d,e,f,g)<0)) (∃(j:Int) (k:Int),(0<=j/\j<=gE a (b,c,d,e,f,g)/\gE a (b,c,d,e,f,g)<=k/\k<=(ac a))/\toNat (k -j)<toNat (i -h)/\a=a/\(ac a)=(ac
 a)/\aj (aj (Ae h i)+1)=j/\i=k/\b=b/\c=c/\d=d/\e=e/\f=f/\g=g/\True) (∃(j:Int) (k:Int),(0<=j/\j<=gE a (b,c,d,e,f,g)/\gE a (b,c,d,e,f,g)<=k/\k<=(ac a))/\toNat (k -j)<toNat (i -h)/\a=a/\(ac a)=(ac a)/\h=j/\aj (Ae h i)=k/\b=b/\c=c/\d=d/\e=e/\f=f/\g=g/\True)) (∀(j:Bool),j=decide (h<(ac a))->(j->(ar j)/\(ar j)/\0<=h/\h<(ac a)/\True)/\(ah j)/\(j->(ar j)/\(ar j)/\(ar j)/\True)/\(ah j)/\(ar j)/\h=gE a (b,c,d,e,f,g)/\(bif j then decide (t8 (ai a h) (b,c,d,e,f,g)=0) else false)=bif decide (gE a (b,c,d,e,f,g)<(ac a)) then decide (t8 (ai a (gE a (b,c,d,e,f,g))) (b,c,d,e,f,g)=0) else false):=by
  delta Ae ah ar aj ai ac;rintro x p1 p2 p3 p4 p5 p6 ⟨⟨hl,-⟩,-⟩ hs;simp only[maxLen] at hl;obtain⟨q0,q1⟩:=HY x (p1,p2,p3,p4,p5,p6);refine⟨⟨0,x.length,⟨ab,q0,q1,ab⟩,aP⟩,?_⟩;rintro i j ⟨h0,h1,h2,h3⟩;refine bT (λhb=>?_) (λhb=>?_)
  .rw[Qq h0 ab ab];refine⟨ab,ab,ab,bT (λhc=>?_) (λhc=>?_)⟩
   .have hc:=(Qy hs ab ab).1 hc;rw[aG ab ab];exact⟨(i+j)/2+1,j,⟨ab,ab,h2,h3⟩,ab,aP⟩
   .have hc:¬ (i+j)/2<gE x (p1,p2,p3,p4,p5,p6):=λh=>absurd ((Qy hs ab ab).2 h) hc;exact⟨i,(i+j)/2,⟨h0,h1,ab,ab⟩,ab,aP⟩
  .have:i=gE x (p1,p2,p3,p4,p5,p6):=ab;subst this
   (repeat (refine bX ?_;repeat refine bZ ?_));exact rfl
theorem Z7:aB 104 Mf.spec:=aF Tryz.func104 (av aC aA3) US aj4
theorem NG{α:Type}{p q:α->Bool}:∀{l:List α},(∀ x∈l,p x=q x)->l.takeWhile p=l.takeWhile q/\l.dropWhile p=l.dropWhile q
 | [],_=>⟨rfl,rfl⟩
 | a::l,h=>by
  obtain⟨h1,h2⟩:=NG (l:=l) λx hx=>h x (fM _ hx);have ha:=h a (fY ..);rw[List.takeWhile_cons,List.takeWhile_cons,List.dropWhile_cons,List.dropWhile_cons,ha,h1,h2];exact⟨rfl,rfl⟩
theorem Uq{l:List bg}{f:bg}(hf:∀ x∈l,j7 x<j7 f):l.take (gE l f).toNat++([f]++l.drop (gE l f).toNat)=fJ l f:=by
 obtain⟨e1,e2⟩:=NG (p:=λx=>decide (gJ x f)) (q:=λx=>decide (aO x<=aO f)) (l:=l) λx hx=>by
  have:=hf x hx;apply decide_eq_decide.2;unfold gJ;omega
 have k:=sD (p:=λx=>decide (gJ x f)) (l:=l)
 have t1:∀ A B:List bg,A++B=l->l.take A.length=A/\l.drop A.length=B:=by
  rintro A B rfl;exact⟨List.take_left' rfl,List.drop_left' rfl⟩
 obtain⟨t2,t3⟩:=t1 _ _ k
 unfold gE
 rw[Int.toNat_natCast,t2,t3]
 unfold fJ
 rw[e1,e2]
 rfl
def Y6:Ct:=⟨[.box 54 yG,.agg nB],[],λd=>[(aM d.1).Pairwise gJ,∀ x∈aM d.1,j7 x<bK d.1,(aM d.1).length<=4096],λd=>((),(yV d.1 d.2.1,()))⟩
theorem Tp :
 ∀(a:List au)(b:List aK)(c:List aV)(d e f:Int)(g:List (List aN×Int×ae×(Int×Int)×Int))(h:ae)(i:List (Int×Int×Int×Int×Int×ae))(j:List (Int×Int×ae))(k:List (Int×Int×Int×Int×Int))(l m n o p:Int)(q:ae),(((a.length<=maxLen/\ ∀(r:au),r∈a->CT.wf bU r)/\(b.length<=maxLen/\ ∀(r:aK),r∈b->CT.wf fU r)/\c.length<=maxLen/\ ∀(r:aV),r∈c->CT.wf fh r)/\aq d/\aq e/\aq f/\(g.length<=maxLen/\ ∀(r:List aN×Int×ae×(Int×Int)×Int),r∈g->(r.1.length<=maxLen/\ ∀(s:aN),s∈r.1->((0<=s.1.1/\s.1.1<=4294967295)/\aq s.1.2)/\(s.2.1.length<=maxLen/\ ∀(t:Int),t∈s.2.1->aq t)/\aq s.2.2)/\aq r.2.1/\(r.2.2.1.length<=maxLen/\ ∀(s:Int),s∈r.2.2.1->aq s)/\(aq r.2.2.2.1.1/\aq r.2.2.2.1.2)/\aq r.2.2.2.2)/\(h.length<=maxLen/\ ∀(r:Int),r∈h->aq r)/\(i.length<=maxLen/\ ∀(r:Int×Int×Int×Int×Int×ae),r∈i->aq r.1/\aq r.2.1/\aq r.2.2.1/\aq
 r.2.2.2.1/\aq r.2.2.2.2.1/\r.2.2.2.2.2.length<=maxLen/\ ∀(s:Int),s∈r.2.2.2.2.2->0<=s/\s<=255)/\(j.length<=maxLen/\ ∀(r:Int×Int×ae),r∈j->aq r.1/\aq r.2.1/\r.2.2.length<=maxLen/\ ∀(s:Int),s∈r.2.2->0<=s/\s<=255)/\k.length<=maxLen/\ ∀(r:Int×Int×Int×Int×Int),r∈k->aq r.1/\aq r.2.1/\aq r.2.2.1/\aq r.2.2.2.1/\aq r.2.2.2.2)/\(aq l/\aq m/\aq n/\aq o/\aq p/\q.length<=maxLen/\ ∀(r:Int),r∈q->0<=r/\r<=255)/\True->List.Pairwise gJ (aM ((a,b,c),d,e,f,g,h,i,j,k))/\(∀(r:bg),r∈aM ((a,b,c),d,e,f,g,h,i,j,k)->j7 r<bK ((a,b,c),d,e,f,g,h,i,j,k))/\length (aM ((a,b,c),d,e,f,g,h,i,j,k))<=(4096:Nat)->List.Pairwise gJ i/\length [(l,e,n,o,p,q)]=(1:Nat)/\0<=gE i (l,e,n,o,p,q)/\gE i (l,e,n,o,p,q)<=(ac i)/\(i.length+(1:Nat))*(64:Nat)<=(kZ)/\((a,b,c),d,aj (e+1),f,g,h,take (toNat (gE i (l,e,n,o,p,q))) i++([(l,e,n,o,p,q)]++drop (toNat (gE i
 (l,e,n,o,p,q))) i),j,k)=yV ((a,b,c),d,e,f,g,h,i,j,k) (l,m,n,o,p,q):=by
  delta kZ aj ac;rintro ns ls hs now ord dn sts cr fl dl en a b c e f g-⟨h1,h2,h3⟩;have h1:fl.Pairwise gJ:=h1;have h2:∀ x∈fl,j7 x<ord:=h2;have h3:fl.length<=4096:=h3;obtain⟨q0,q1⟩:=HY fl (a,ord,c,e,f,g);refine⟨h1,rfl,q0,q1,ab,?_⟩;rw[Uq (f:=(a,ord,c,e,f,g)) h2];rfl
theorem LU:aB 43 Y6.spec:=aF Tryz.func43 (av (av aC Z7) Xy) aT Tp
def Sg:Ct:=⟨[.box 54 yG],[],λd=>[uu d.1],λd=>((),(dr d.1,()))⟩
def TN:bw Sg.ps->ce:=(λd=>{loops:=(bp 0 (λS=>{ι:=Int×(List ct),qn:=ft,μ:=λi=>((aD d.1).2.2.length-i.1).toNat,inv:=λi=>uu (qo (iN d.1 i.2) i.1)/\dr (qo (iN d.1 i.2) i.1)=dr d.1,keep:=[0],slots:=λi=>[],keepN:=[2097153,2097154,2097155,2097156],names:=λi=>[(1048576,.live (.cells 54 (dU ib d.1.1++[.int .i64 d.1.2.1,.int .i64 d.1.2.2.1,.int .i64 i.1,.own 524288 6,.own 2097153 1,.own 2097154 6,.own 2097155 3,.own 2097156 5]))),(524288,.live (.row 118 qh i.2))]}) cC)})
def E4(a:List au)(b:List aK)(c:List aV)(d e f:Int)(g:List (List aN×Int×ae×(Int×Int)×Int))(h:ae)(i:List (Int×Int×Int×Int×Int×ae))(j:List (Int×Int×ae))(k:List (Int×Int×Int×Int×Int)) :=
 ((a.length<=maxLen/\ ∀(l:au),l∈a->CT.wf bU l)/\(b.length<=maxLen/\ ∀(l:aK),l∈b->CT.wf fU l)/\c.length<=maxLen/\ ∀(l:aV),l∈c->CT.wf fh l)/\aq d/\aq e/\aq f/\(g.length<=maxLen/\ ∀(l:List aN×Int×ae×(Int×Int)×Int),l∈g->(l.1.length<=maxLen/\ ∀(m:aN),m∈l.1->((0<=m.1.1/\m.1.1<=4294967295)/\aq m.1.2)/\(m.2.1.length<=maxLen/\ ∀(n:Int),n∈m.2.1->aq n)/\aq m.2.2)/\aq l.2.1/\(l.2.2.1.length<=maxLen/\ ∀(m:Int),m∈l.2.2.1->aq m)/\(aq l.2.2.2.1.1/\aq l.2.2.2.1.2)/\aq l.2.2.2.2)/\(h.length<=maxLen/\ ∀(l:Int),l∈h->aq l)/\(i.length<=maxLen/\ ∀(l:Int×Int×Int×Int×Int×ae),l∈i->aq l.1/\aq l.2.1/\aq l.2.2.1/\aq l.2.2.2.1/\aq l.2.2.2.2.1/\l.2.2.2.2.2.length<=maxLen/\ ∀(m:Int),m∈l.2.2.2.2.2->0<=m/\m<=255)/\(j.length<=maxLen/\ ∀(l:Int×Int×ae),l∈j->aq l.1/\aq l.2.1/\l.2.2.length<=maxLen/\ ∀(m:Int),m∈l.2.2->0<=m/\m<=255)/\k.length<=maxLen/\
 ∀(l:Int×Int×Int×Int×Int),l∈k->aq l.1/\aq l.2.1/\aq l.2.2.1/\aq l.2.2.2.1/\aq l.2.2.2.2
def uS(c:List aV)(l:Int)(m:List ct) :=
 m.getD (toNat (ai c l).2.1) default
theorem aD1 :
 ∀(a:List au)(b:List aK)(c:List aV)(d e f:Int)(g:List (List aN×Int×ae×(Int×Int)×Int))(h:ae)(i:List (Int×Int×Int×Int×Int×ae))(j:List (Int×Int×ae))(k:List (Int×Int×Int×Int×Int)),(E4 a b c d e f g h i j k)/\True->gb ((a,b,c),d,e,f,g,h,i,j,k)∨c=([]:List aV)/\dm ((a,b,c),d,e,f,g,h,i,j,k)=0->(∃(l:Int) (m:List ct),(uu (qo (iN ((a,b,c),d,e,f,g,h,i,j,k) m) l)/\dr (qo (iN ((a,b,c),d,e,f,g,h,i,j,k) m) l)=dr ((a,b,c),d,e,f,g,h,i,j,k))/\h=h/\i=i/\j=j/\k=k/\a=a/\b=b/\c=c/\d=d/\e=e/\f=l/\g=m/\True)/\ ∀(l:Int)(m:List ct),uu (qo (iN ((a,b,c),d,e,f,g,h,i,j,k) m) l)/\dr (qo (iN ((a,b,c),d,e,f,g,h,i,j,k) m) l)=dr ((a,b,c),d,e,f,g,h,i,j,k)-> ∀(n:Bool),n=decide (l<(ac c))->(ah n)/\(ah n)/\(ah n)/\(ah n)/\(ah n)/\(ah n)/\(ah n)/\(n->(ar n)/\(ar n)/\0<=l/\l<(ac c)/\True)/\(ah
 n)/\(ah n)/\(ah n)/\(ah n)/\(ah n)/\(n->(ar n)/\(ar n)/\True)/\(ar n)/\ao (bif n then decide ((ai c l).1<=d) else false) (0<=l/\l<(ac c)/\0<=(ai c l).2.1/\(ai c l).2.1<(ac m)/\ao (ai c l).2.2.1 (cJ (uS c l m).1/\okL (uS c l m).1/\ ∃(o:Int) (p:List ct),(uu (qo (iN ((a,b,c),d,e,f,g,h,i,j,k) p) o)/\dr (qo (iN ((a,b,c),d,e,f,g,h,i,j,k) p) o)=dr ((a,b,c),d,e,f,g,h,i,j,k))/\toNat ((ac c) -o)<toNat ((ac c) -l)/\h=h/\i=i/\j=j/\k=k/\a=a/\b=b/\c=c/\d=d/\e=e/\aj (l+1)=o/\set m (toNat (ai c l).2.1) (jt (uS c l m).1 (ai c l).2.2.2.1,(uS c l m).2)=p/\True) (cJ (uS c l m).1/\okL (uS c l m).1/\((length (ai c l).2.2.2.2.1):Int)<=1099511627776/\ ∃(o:Int) (p:List ct),(uu (qo (iN ((a,b,c),d,e,f,g,h,i,j,k) p) o)/\dr (qo (iN ((a,b,c),d,e,f,g,h,i,j,k) p) o)=dr
 ((a,b,c),d,e,f,g,h,i,j,k))/\toNat ((ac c) -o)<toNat ((ac c) -l)/\h=h/\i=i/\j=j/\k=k/\a=a/\b=b/\c=c/\d=d/\e=e/\aj (l+1)=o/\set m (toNat (ai c l).2.1) (f6 (uS c l m).1 (ai c l).2.2.2,(uS c l m).2)=p/\True)) (((a,b,c),d,e,l,m,h,i,j,k)=dr ((a,b,c),d,e,f,g,h,i,j,k)):=by
  delta E4 uS ah ar aj ai ac;rintro ns ls hs now ord dn0 sts cr fl dl en ⟨⟨⟨-,-,⟨hl,-⟩⟩,-⟩,-⟩ h;simp only[maxLen] at hl;refine⟨⟨dn0,sts,⟨h,rfl⟩,aP⟩,?_⟩;rintro dn st ⟨hv,he⟩;obtain⟨v,hw⟩:∃ v:aJ,v=qo (iN ((ns,ls,hs),now,ord,dn0,sts,cr,fl,dl,en) st) dn:=⟨_,rfl⟩
  rw[← hw] at hv he;have hdn:dm v=dn:=by rw[hw];rfl
  have hd0:0<=dn:=by rcases hv with q|q;have:=q.done.1;omega;have:=q.2;omega
  (repeat (refine bX ?_;repeat refine bZ ?_));refine u5 (λh1 h2=>?_) (λh12=>?_)
  rotate_left
  .rw[← he,ae2,hw]
   .rfl
   .intro k;unfold o4 at k;rw[hw,dM] at k;rcases h12 with q|q
    .exact absurd (k.1.symm.trans q) aA
    .exact absurd (k.2.symm.trans q) aA
  have hd1:dn<hs.length:=aI h1;have hv:gb v:=hv.resolve_right λq=>by
   have q1:hs=[]:=by have:=q.1;rw[hw] at this;exact this
   rw[q1] at hd1;simp at hd1;omega
  have hdue:o4 v=true:=by
   unfold o4;rw[hw,dM];exact⟨h1,h2⟩
  have eN:aD v=(ns,ls,hs):=by rw[hw];rfl
  have eS:cq v=st:=by rw[hw];rfl
  have hk:dn.toNat<(aD v).2.2.length:=by rw[eN];show dn.toNat<hs.length;omega
  obtain⟨-,⟨w0,w1⟩,hc⟩:=DO hv.net hk;have hlen:=hv.len;have hsw:=hv.chg hdue;have hst:=(aU6 hv hdue).symm.trans he;rw[eN,eS] at hlen;rw[eN] at w0 w1 hc;have hlen:st.length=ns.length:=hlen;obtain⟨c,ec⟩:∃ c:aV,c=hs.getD dn.toNat default:=⟨_,rfl⟩
  have w0:0<=bL c:=by rw[ec];exact w0
  have w1:bL c<ns.length:=by rw[ec];exact w1
  have hi:(bL c).toNat<(aD v).1.length:=by rw[eN];show (bL c).toNat<ns.length;omega
  obtain⟨c1,c2⟩:=xR (hv.chk hi);rw[eS] at c1 c2;have et:kL v=c:=by rw[ec,hw];rfl
  have ed:dm v=dn:=by rw[hw];rfl
  have ev:nD v=qo (iN ((ns,ls,hs),now,ord,dn0,sts,cr,fl,dl,en) (st.set (bL c).toNat (H0 (st.getD (bL c).toNat default) (f7 (bS (st.getD (bL c).toNat default)) c)))) (dn+1):=by
   unfold nD;rw[et,ed,eS,aG ab ab,hw];rfl
  rw[ev] at hsw hst;have wd:IntKind.i64.wrap (dn+1)=dn+1:=aG ab ab;rw[← ec];refine⟨hd0,hd1,w0,by rw[hlen];exact w1,aw (λhr=>?_) (λhr=>?_)⟩
  .have er:f7 (bS (st.getD (bL c).toNat default)) c=jt (bS (st.getD (bL c).toNat default)) (dO c).1:=by unfold f7;exact am hr
   rw[er] at hsw hst;refine⟨c1,c2,dn+1,_,⟨.inl hsw,hst⟩,by show (hs.length-(dn+1)).toNat<(hs.length-dn).toNat;omega,?_⟩
   (repeat refine jp ?_);exact⟨rfl,bv⟩
  .have er:f7 (bS (st.getD (bL c).toNat default)) c=f6 (bS (st.getD (bL c).toNat default)) (dO c):=by unfold f7;rw[af (by rw[show qj c=false from hr];simp)]
   have hin:((dO c).2.1.length:Int)<=1099511627776:=by
    have hc':=(xR hc).2.2;rw[← ec] at hc';have e2:f7 ((dH (ns,ls,hs) dn.toNat).getD (bL c).toNat default) c=f6 ((dH (ns,ls,hs) dn.toNat).getD (bL c).toNat default) (dO c):=by unfold f7;rw[af (by rw[show qj c=false from hr];simp)]
    have hc2:okL (f6 ((dH (ns,ls,hs) dn.toNat).getD (bL c).toNat default) (dO c)):=by
     have:=(xR hc).2;rw[← e2,ec];exact this
    exact hc2.2 _ (by unfold f6;simp)
   rw[er] at hsw hst;refine⟨c1,c2,hin,dn+1,_,⟨.inl hsw,hst⟩,by show (hs.length-(dn+1)).toNat<(hs.length-dn).toNat;omega,?_⟩
   (repeat refine jp ?_);exact⟨rfl,bv⟩
theorem R6:aB 47 Sg.spec:=aF Tryz.func47 (av (av aC Rx) LS) TN aD1
def aW3:Ct:=⟨[.box 54 yG,.agg nB,.val cI,.val cI],[],λd=>[((bh d.1).length:Int)<=1000000000000],λd=>((),(nV d.1 d.2.1 d.2.2.1 d.2.2.2.1,()))⟩
def EZ(a:List au)(b:List aK)(c:List aV)(d e f:Int)(g:List (List aN×Int×ae×(Int×Int)×Int))(h:ae)(i:List (Int×Int×Int×Int×Int×ae))(j:List (Int×Int×ae))(k:List (Int×Int×Int×Int×Int)) :=
 ((a.length<=maxLen/\ ∀(t:au),t∈a->CT.wf bU t)/\(b.length<=maxLen/\ ∀(t:aK),t∈b->CT.wf fU t)/\c.length<=maxLen/\ ∀(t:aV),t∈c->CT.wf fh t)/\aq d/\aq e/\aq f/\(g.length<=maxLen/\ ∀(t:List aN×Int×ae×(Int×Int)×Int),t∈g->(t.1.length<=maxLen/\ ∀(u:aN),u∈t.1->((0<=u.1.1/\u.1.1<=4294967295)/\aq u.1.2)/\(u.2.1.length<=maxLen/\ ∀(v:Int),v∈u.2.1->aq v)/\aq u.2.2)/\aq t.2.1/\(t.2.2.1.length<=maxLen/\ ∀(u:Int),u∈t.2.2.1->aq u)/\(aq t.2.2.2.1.1/\aq t.2.2.2.1.2)/\aq t.2.2.2.2)/\(h.length<=maxLen/\ ∀(t:Int),t∈h->aq t)/\(i.length<=maxLen/\ ∀(t:Int×Int×Int×Int×Int×ae),t∈i->aq t.1/\aq t.2.1/\aq t.2.2.1/\aq t.2.2.2.1/\aq t.2.2.2.2.1/\t.2.2.2.2.2.length<=maxLen/\ ∀(u:Int),u∈t.2.2.2.2.2->0<=u/\u<=255)/\(j.length<=maxLen/\ ∀(t:Int×Int×ae),t∈j->aq t.1/\aq t.2.1/\t.2.2.length<=maxLen/\ ∀(u:Int),u∈t.2.2->0<=u/\u<=255)/\k.length<=maxLen/\
 ∀(t:Int×Int×Int×Int×Int),t∈k->aq t.1/\aq t.2.1/\aq t.2.2.1/\aq t.2.2.2.1/\aq t.2.2.2.2
theorem TH :
 ∀(a:List au)(b:List aK)(c:List aV)(d e f:Int)(g:List (List aN×Int×ae×(Int×Int)×Int))(h:ae)(i:List (Int×Int×Int×Int×Int×ae))(j:List (Int×Int×ae))(k:List (Int×Int×Int×Int×Int))(l m n o p:Int)(q:ae)(r s:Int),(EZ a b c d e f g h i j k)/\(aq l/\aq m/\aq n/\aq o/\aq p/\q.length<=maxLen/\ ∀(t:Int),t∈q->0<=t/\t<=255)/\aq r/\aq s/\True->((length (bh ((a,b,c),d,e,f,g,h,i,j,k))):Int)<=1000000000000->(k.length+length [(p,l,n,r,s)])*(40:Nat)<=(kZ)/\((a,b,c),d,e,f,g,h,i,j,k++[(p,l,n,r,s)])=nV ((a,b,c),d,e,f,g,h,i,j,k) (l,m,n,o,p,q) r s:=by
  delta EZ kZ;rintro ns ls hs now ord dn sts cr fl dl en a b c e f g l r-h;have h:(en.length:Int)<=1000000000000:=h;exact⟨by simp only[gc];omega,rfl⟩
theorem QZ:aB 110 aW3.spec:=aF Tryz.func110 aC aT TH
def KG(n:Int):Int:=IntKind.u64.wrap n
def at9:Ct:=⟨[.box 54 yG,.agg nB,.agg wV],[],λd=>[(aM d.1).Pairwise gJ,∀ x∈aM d.1,j7 x<bK d.1,(aM d.1).length<=4096,((bh d.1).length:Int)<=1000000000000,(gp d.1).length=(aD d.1).2.1.length,0<=d.2.2.1.1,d.2.2.1.1<(aD d.1).2.1.length,gY (aD d.1).1.length (cU d.1 d.2.2.1.1)],λd=>((),(eI d.1 d.2.1 d.2.2.1,()))⟩
def JQ(b:List aK)(d:Int)(h:ae)(r:Int) :=
 aj (d+(ai b r).2.2.1)+aj (Int.tmod (IntKind.wrap .u64 (Int.tdiv (mG (bits BinOp.xor IntKind.u64 (mG (IntKind.wrap .u64 (ai b r).2.2.2.2.2)) (IntKind.wrap .u64 (ai h r)))) (65536:Int))) (IntKind.wrap .u64 (aj ((ai b r).2.2.2.1+1))))
def oH(h:ae)(r:Int) :=
 aj (ai h r+1)
theorem aA8 :
 ∀(a:List au)(b:List aK)(c:List aV)(d e f:Int)(g:List (List aN×Int×ae×(Int×Int)×Int))(h:ae)(i:List (Int×Int×Int×Int×Int×ae))(j:List (Int×Int×ae))(k:List (Int×Int×Int×Int×Int))(l m n o p:Int)(q:ae)(r:Int)(s:ae),(EZ a b c d e f g h i j k)/\(aq l/\aq m/\aq n/\aq o/\aq p/\q.length<=maxLen/\ ∀(t:Int),t∈q->0<=t/\t<=255)/\(aq r/\s.length<=maxLen/\ ∀(t:Int),t∈s->0<=t/\t<=255)/\True->List.Pairwise gJ (aM ((a,b,c),d,e,f,g,h,i,j,k))/\(∀(t:bg),t∈aM ((a,b,c),d,e,f,g,h,i,j,k)->j7 t<bK ((a,b,c),d,e,f,g,h,i,j,k))/\length (aM ((a,b,c),d,e,f,g,h,i,j,k))<=(4096:Nat)/\((length (bh ((a,b,c),d,e,f,g,h,i,j,k))):Int)<=1000000000000/\length (gp ((a,b,c),d,e,f,g,h,i,j,k))=b.length/\0<=r/\r<(ac b)/\0<=lA (cU ((a,b,c),d,e,f,g,h,i,j,k) r)/\lA (cU ((a,b,c),d,e,f,g,h,i,j,k) r)<(ac a)/\0<=lB (cU
 ((a,b,c),d,e,f,g,h,i,j,k) r)/\lB (cU ((a,b,c),d,e,f,g,h,i,j,k) r)<(ac a)/\lA (cU ((a,b,c),d,e,f,g,h,i,j,k) r)≠lB (cU ((a,b,c),d,e,f,g,h,i,j,k) r)/\1<=gQ (cU ((a,b,c),d,e,f,g,h,i,j,k) r)/\gQ (cU ((a,b,c),d,e,f,g,h,i,j,k) r)<=1073741824/\0<=fO (cU ((a,b,c),d,e,f,g,h,i,j,k) r)/\fO (cU ((a,b,c),d,e,f,g,h,i,j,k) r)<=1073741824/\0<=oF (cU ((a,b,c),d,e,f,g,h,i,j,k) r)/\oF (cU ((a,b,c),d,e,f,g,h,i,j,k) r)<=65536->0<=r/\r<(ac b)/\0<=r/\r<(ac h)/\0<=r/\r<(ac h)/\0<=r/\r<(ac h)/\(65536:Int)≠(0:Int)/\ao (decide (Int.tmod (mG (bits BinOp.xor IntKind.u64 (mG (IntKind.wrap .u64 (ai b r).2.2.2.2.2)) (IntKind.wrap .u64 (ai h r)))) 65536<IntKind.wrap .u64 (ai b r).2.2.2.2.1)) (((length (bh ((a,b,c),d,e,f,g,set h r.toNat (oH h r),i,j,k))):Int)<=1000000000000/\((a,b,c),d,e,f,g,set h r.toNat (oH h r),i,j,bh
 ((a,b,c),d,e,f,g,set h r.toNat (oH h r),i,j,k)++[(iy (l,m,n,o,p,q),aO (l,m,n,o,p,q),bn (l,m,n,o,p,q),r,(3:Int))])=eI ((a,b,c),d,e,f,g,h,i,j,k) (l,m,n,o,p,q) (r,s)) ((65536:Int)≠(0:Int)/\IntKind.wrap .u64 (aj ((ai b r).2.2.2.1+1))≠(0:Int)/\ ∀(t:Bool),t=decide (1125899906842624<aj (JQ b d h r))->(ah (! t))/\(ah (! t))/\(ah (! t))/\(ah (! t))/\(ah (! t))/\(aE t)/\ao (bif t then true else decide (4096<=(ac i))) (((length (bh ((a,b,c),d,e,f,g,set h r.toNat (oH h r),i,j,k))):Int)<=1000000000000/\((a,b,c),d,e,f,g,set h r.toNat (oH h r),i,j,bh ((a,b,c),d,e,f,g,set h r.toNat (oH h r),i,j,k)++[(iy (l,m,n,o,p,q),aO (l,m,n,o,p,q),bn (l,m,n,o,p,q),r,(7:Int))])=eI ((a,b,c),d,e,f,g,h,i,j,k) (l,m,n,o,p,q) (r,s)) (List.Pairwise gJ (aM ((a,b,c),d,e,f,g,set h r.toNat (oH h r),i,j,k))/\(∀(u:bg),u∈aM ((a,b,c),d,e,f,g,set h
 r.toNat (oH h r),i,j,k)->j7 u<bK ((a,b,c),d,e,f,g,set h r.toNat (oH h r),i,j,k))/\length (aM ((a,b,c),d,e,f,g,set h r.toNat (oH h r),i,j,k))<=(4096:Nat)/\((a,b,c),d,aj (bK ((a,b,c),d,e,f,g,set h r.toNat (oH h r),i,j,k)+1),f,g,set h r.toNat (oH h r),fJ (aM ((a,b,c),d,e,f,g,set h r.toNat (oH h r),i,j,k)) (aO (aj (JQ b d h r),(0:Int),fD b r n,r,p,s),bK ((a,b,c),d,e,f,g,set h r.toNat (oH h r),i,j,k),fD b r n,r,p,s),j,k)=eI ((a,b,c),d,e,f,g,h,i,j,k) (l,m,n,o,p,q) (r,s))):=by
  delta EZ JQ oH ah aE aj ai ac;rintro ns ls hs now ord dn sts cr fl dl en a b c e f g k o-⟨h1,h2,h3,h4,h5,h6,h7,h8⟩;obtain⟨w,hw⟩:∃ w:aJ,w=((ns,ls,hs),now,ord,dn,sts,cr,fl,dl,en):=⟨_,rfl⟩
  obtain⟨x,hx⟩:∃ x:bg,x=(a,b,c,e,f,g):=⟨_,rfl⟩
  have h8:gY ns.length (cU w k):=by rw[hw];exact h8
  have h4:(en.length:Int)<=1000000000000:=h4;have h5:cr.length=ls.length:=h5;have h7:k<(ls.length:Int):=h7;obtain⟨-,-,-,-,-,d1,d2,j1,j2,l1,l2⟩:=h8;have eL:cU w k=ls.getD k.toNat default:=by rw[hw];rfl
  have eC:ky w k=cr.getD k.toNat default:=by rw[hw];rfl
  have e1:IntKind.i64.wrap (fO (cU w k)+1)=fO (cU w k)+1:=aG ab ab;have e2:IntKind.u64.wrap (fO (cU w k)+1)=fO (cU w k)+1:=CL ab ab;refine⟨h6,h7,h6,ab,h6,ab,h6,ab,bt,aw (λhl=>?_) (λhl=>⟨bt,?_,?_⟩)⟩
  .have hl:=aI hl;have ec:eI w x (k,o)=nV (vd w ((gp w).set k.toNat (IntKind.i64.wrap (ky w k+1)))) x k 3:=by
    unfold eI;exact am (by rw[eL,eC];exact hl)
   rw[← hw,← hx,ec,hw,hx];exact⟨h4,rfl⟩
  .show KG (IntKind.i64.wrap (fO (ls.getD k.toNat default)+1))≠0;unfold KG;rw[← eL,e1,e2];omega
  have hl:=aL hl;have hm:=KI (bits .xor .u64 (mG (IntKind.wrap .u64 (wD (cU w k)))) (IntKind.wrap .u64 (ky w k)));have eq:IntKind.u64.wrap (Int.tdiv (oA (cU w k) (ky w k)) 65536)=Int.tdiv (oA (cU w k) (ky w k)) 65536:=by
   unfold oA;rw[DI hm.1];exact CL ab ab
  have eo:jA w k=IntKind.i64.wrap (IntKind.i64.wrap (now+(ls.getD k.toNat default).2.2.1)+IntKind.i64.wrap (Int.tmod (IntKind.u64.wrap (Int.tdiv (oA (ls.getD k.toNat default) (cr.getD k.toNat default)) 65536)) (IntKind.u64.wrap (IntKind.i64.wrap ((ls.getD k.toNat default).2.2.2.1+1))))):=by
   unfold jA wa;rw[← eL,← eC,eq,hw];rfl
  have fin:∀ over:Int,jA w k=over→∀ b:Bool,b=decide (1125899906842624<over)->ao (bif b then true else decide (4096<=(fl.length:Int))) (((bh (vd w (cr.set k.toNat (IntKind.i64.wrap (cr.getD k.toNat default+1))))).length:Int)<=1000000000000/\nV (vd w (cr.set k.toNat (IntKind.i64.wrap (cr.getD k.toNat default+1)))) x k 7=eI w x (k,o))
    (fl.Pairwise gJ/\(∀ z∈fl,j7 z<ord)/\fl.length<=4096/\yV (vd w (cr.set k.toNat (IntKind.i64.wrap (cr.getD k.toNat default+1)))) (over,0,fD ls k c,k,f,o)=eI w x (k,o)):=by
   rintro over rfl b rfl;have e0:eI w x (k,o)=if 1125899906842624<jA w k∨(4096:Int)<=(aM w).length then nV (vd w ((gp w).set k.toNat (IntKind.i64.wrap (ky w k+1)))) x k 7 else yV (vd w ((gp w).set k.toNat (IntKind.i64.wrap (ky w k+1)))) (jA w k,0,fD (aD w).2.1 k (bn x),k,iy x,o):=by
    unfold eI;exact af (by rw[eL,eC];exact hl)
   have em:aM w=fl:=by rw[hw];rfl
   refine rX (λho=>?_) (λq1 q2=>?_)
   .refine⟨by rw[hw];exact h4,?_⟩;rw[e0,am (by rw[em];rcases ho with q|q;exact .inl (aI q);exact .inr (aI q)),hw];rfl
   .refine⟨h1,h2,h3,?_⟩;rw[e0,af (by rw[em];rintro (q|q);exact absurd q (aL q1);exact absurd q (aL q2)),hw,hx];rfl
  rw[hx,hw] at fin;intro b hb;have:=fin _ (hw▸eo) b hb
  (repeat refine⟨(by first|(simp;done)|(rw[hb];simp;done)|(rw[hb];simp;omega)),?_⟩);exact this
theorem SI:aB 111 at9.spec:=aF Tryz.func111 (av (av (av (av aC Qs) QZ) O3) LU) aT aA8
def NY:Ct:=⟨[.box 54 yG],[],λd=>[sA d.1,aM d.1≠[]],λd=>((),(fw d.1,()))⟩
def UT:bw NY.ps->ce:=(λd=>{cuts:=(bp 8 (λS=>{ι:=aJ,inv:=λi=>i=mX d.1,keep:=[0,2,4,5],slots:=λi=>[],keepN:=[48,80],names:=λi=>[(1048576,.live (.cells 54 (dU ib (aD i)++[.int .i64 (bO i),.int .i64 (bK i),.int .i64 (dm i),.own 524288 6,.own 524289 1,.own 524290 6,.own 524291 3,.own 524292 5]))),(524288,.live (.row 118 qh (cq i))),(524289,.live (.row 3 cI (gp i))),(524290,.live (.row 125 nB (aM i))),(524291,.live (.row 78 yx (bM i))),(524292,.live (.row 68 pX (bh i)))]}) (bp 10 (λS=>{ι:=aJ,inv:=λi=>i=eZ d.1,keep:=[0,2,4],slots:=λi=>[],keepN:=[48,80],names:=λi=>[(1048576,.live (.cells 54 (dU ib (aD i)++[.int .i64 (bO i),.int .i64 (bK i),.int .i64 (dm i),.own 524288 6,.own 524289 1,.own 524290 6,.own 524291 3,.own 524292 5]))),(524288,.live (.row 118 qh (cq i))),(524289,.live (.row 3 cI (gp i))),(524290,.live (.row 125 nB (aM i))),(524291,.live (.row 78 yx (bM i))),(524292,.live (.row 68 pX (bh i)))]}) cC))})
def cy(i:List (Int×Int×Int×Int×Int×ae)) :=
 ai i (0:Int)
def DQ(i:List (Int×Int×Int×Int×Int×ae))(l:List au)(r:List (List aN×Int×ae×(Int×Int)×Int)) :=
 fP (l.getD (toNat (cy i).2.2.1) default) (r.getD (toNat (cy i).2.2.1) default) (cy i).2.2.2.1 (cy i).1 (cy i).2.2.2.2.2
theorem aT2 :
 ∀(a:List au)(b:List aK)(c:List aV)(d e f:Int)(g:List (List aN×Int×ae×(Int×Int)×Int))(h:ae)(i:List (Int×Int×Int×Int×Int×ae))(j:List (Int×Int×ae))(k:List (Int×Int×Int×Int×Int)),(E4 a b c d e f g h i j k)/\True->sA ((a,b,c),d,e,f,g,h,i,j,k)/\(aM ((a,b,c),d,e,f,g,h,i,j,k)=([]:List bg)->False)->(0:Int)<=0/\0<(ac i)/\(0:Int)<=1/\1<=(ac i)/\uu ((a,b,c),(cy i).1,e,f,g,h,drop 1 i,j,k)/\ ∀(l:List au)(m:List aK)(n:List aV)(o p q:Int)(r:List (List aN×Int×ae×(Int×Int)×Int))(s:ae)(t:List (Int×Int×Int×Int×Int×ae))(u:List (Int×Int×ae))(v:List (Int×Int×Int×Int×Int)),((l,m,n),o,p,q,r,s,t,u,v)=dr ((a,b,c),(cy i).1,e,f,g,h,drop 1 i,j,k)->0<=(cy i).2.2.1/\(cy i).2.2.1<(ac l)/\0<=(cy i).2.2.1/\(cy i).2.2.1<(ac r)/\cJ (bS (r.getD (toNat (cy i).2.2.1) default))/\okL
 (bS (r.getD (toNat (cy i).2.2.1) default))/\((length (lI (r.getD (toNat (cy i).2.2.1) default))):Int)<=1000000/\((length (cy i).2.2.2.2.2):Int)<=1000000/\ ∀(w:List aN)(x:Int)(y:ae)(z A B C:Int)(D:ae)(E:Int),(w,x,y,(z,A),B)=(DQ i l r).1/\(C,D)=(DQ i l r).2.1/\E=(DQ i l r).2.2->0<=(cy i).2.2.1/\(cy i).2.2.1<(ac r)/\ao (decide (E=1)) ((u.length+length [((cy i).1,(cy i).2.2.1,(cy i).2.2.2.2.2)])*(40:Nat)<=(kZ)/\ ∃(F:aJ),F=mX ((a,b,c),d,e,f,g,h,i,j,k)/\E=E/\(cy i).1=(cy i).1/\(cy i).2.1=(cy i).2.1/\(cy i).2.2.1=(cy i).2.2.1/\(cy i).2.2.2.1=(cy i).2.2.2.1/\(cy i).2.2.2.2.1=(cy i).2.2.2.2.1/\(cy i).2.2.2.2.2=(cy i).2.2.2.2.2/\C=C/\D=D/\l=(aD F).1/\m=(aD F).2.1/\n=(aD F).2.2/\o=bO F/\p=bK F/\q=dm F/\set r (toNat (cy i).2.2.1) (w,x,y,(z,A),B)=cq F/\s=gp F/\t=aM
 F/\u++[((cy i).1,(cy i).2.2.1,(cy i).2.2.2.2.2)]=bM F/\v=bh F/\True) (∃(F:aJ),F=mX ((a,b,c),d,e,f,g,h,i,j,k)/\E=E/\(cy i).1=(cy i).1/\(cy i).2.1=(cy i).2.1/\(cy i).2.2.1=(cy i).2.2.1/\(cy i).2.2.2.1=(cy i).2.2.2.1/\(cy i).2.2.2.2.1=(cy i).2.2.2.2.1/\(cy i).2.2.2.2.2=(cy i).2.2.2.2.2/\C=C/\D=D/\l=(aD F).1/\m=(aD F).2.1/\n=(aD F).2.2/\o=bO F/\p=bK F/\q=dm F/\set r (toNat (cy i).2.2.1) (w,x,y,(z,A),B)=cq F/\s=gp F/\t=aM F/\u=bM F/\v=bh F/\True)/\ ∀(F:aJ),F=mX ((a,b,c),d,e,f,g,h,i,j,k)->ao (! decide (E=0)) (((length (bh (aD F,F.2))):Int)<=1000000000000/\ ∃(G:aJ),G=eZ ((a,b,c),d,e,f,g,h,i,j,k)/\(cy i).1=(cy i).1/\(cy i).2.1=(cy i).2.1/\(cy i).2.2.1=(cy i).2.2.1/\(cy i).2.2.2.1=(cy i).2.2.2.1/\(cy i).2.2.2.2.1=(cy i).2.2.2.2.1/\(cy i).2.2.2.2.2=(cy i).2.2.2.2.2/\C=C/\D=D/\(aD F).1=(aD
 G).1/\(aD F).2.1=(aD G).2.1/\(aD F).2.2=(aD G).2.2/\bO F=bO G/\bK F=bK G/\dm F=dm G/\cq F=cq G/\gp F=gp G/\aM F=aM G/\bM F=bM G/\bh (aD F,F.2)++[(iy (cy i),aO (cy i),bn (cy i),(cy i).2.2.2.1,E)]=bh G/\True) (∃(G:aJ),G=eZ ((a,b,c),d,e,f,g,h,i,j,k)/\(cy i).1=(cy i).1/\(cy i).2.1=(cy i).2.1/\(cy i).2.2.1=(cy i).2.2.1/\(cy i).2.2.2.1=(cy i).2.2.2.1/\(cy i).2.2.2.2.1=(cy i).2.2.2.2.1/\(cy i).2.2.2.2.2=(cy i).2.2.2.2.2/\C=C/\D=D/\(aD F).1=(aD G).1/\(aD F).2.1=(aD G).2.1/\(aD F).2.2=(aD G).2.2/\bO F=bO G/\bK F=bK G/\dm F=dm G/\cq F=cq G/\gp F=gp G/\aM F=aM G/\bM F=bM G/\bh F=bh G/\True)/\ ∀(G:aJ),G=eZ ((a,b,c),d,e,f,g,h,i,j,k)->ao (decide (0<(ac D))) (List.Pairwise gJ (aM (aD G,G.2))/\(∀(H:bg),H∈aM (aD G,G.2)->j7 H<bK (aD G,G.2))/\length (aM (aD
 G,G.2))<=(4096:Nat)/\((length (bh (aD G,G.2))):Int)<=1000000000000/\length (gp (aD G,G.2))=length (aD G).2.1/\0<=C/\C<((length (aD G).2.1):Int)/\gY (length (aD G).1) (cU (aD G,G.2) C)/\eI (aD G,G.2) (cy i) (C,D)=fw ((a,b,c),d,e,f,g,h,i,j,k)) ((aD G,bO G,bK G,dm G,cq G,gp G,aM G,bM G,bh G)=fw ((a,b,c),d,e,f,g,h,i,j,k)):=by
  delta E4 cy DQ kZ ai ac;rintro ns ls hs now ord dn sts cr fl dl en-⟨h,hne⟩;obtain⟨f,r,rfl⟩:∃ f r,fl=f::r:=List.exists_cons_of_ne_nil hne;obtain⟨w,hw⟩:∃ w:aJ,w=((ns,ls,hs),now,ord,dn,sts,cr,f::r,dl,en):=⟨_,rfl⟩
  have e0:(f::r).getD (toNat 0) default=f:=rfl;have e1:drop 1 (f::r)=r:=rfl;simp only[e0,e1];rw[← hw] at h ⊢;have A:=h.at (w:=w) (f:=f) (r:=r) (by rw[hw];rfl)
  have ew:fL (hV w (aM w).tail) (aO (iJ w))=((ns,ls,hs),f.1,ord,dn,sts,cr,r,dl,en):=by rw[A.eF,hw];rfl
  refine⟨ab,by simp only[dN];omega,ab,by simp only[dN];omega,by rw[← ew];exact .inl A.h0.weak,?_⟩;rw[← ew];intro a1 a2 a3 a4 a5 a6 a7 a8 a9 a10 a11 hv;have hv:((a1,a2,a3),a4,a5,a6,a7,a8,a9,a10,a11)=dY w:=hv;have hi:(bn f).toNat<(aD (dY w)).1.length:=by have:=A.fk.nd;omega
  have hnd:=A.fk.nd;have hlen:=A.s.len;obtain⟨st,-⟩:=A.s.st _ hi;have N:=uJ A.s.net hi;have hps:=st.ps;have hn32:=N.n32;have hdl:=h.d;have hen:=h.e;have E1:a1=(aD (dY w)).1:=by rw[← hv];rfl
  have E7:a7=cq (dY w):=by rw[← hv];rfl
  have E10:a10=bM w:=by rw[← A.dl,← hv];rfl
  have E11:a11=bh w:=by rw[← A.en,← hv];rfl
  have E9:a9=aM (dY w):=by rw[← hv];rfl
  have eH:cS w=fP (a1.getD (bn f).toNat default) (a7.getD (bn f).toNat default) (gO f) (aO f) (f8 f):=by unfold cS bm;rw[A.eF,E1,E7]
  have hfd:=A.fk.d;refine⟨hnd.1,by rw[E1];exact hnd.2,hnd.1,by rw[E7,hlen];exact hnd.2,by rw[E7];exact st.srt,by rw[E7];exact st.okl,by rw[E7];show ((lI ((cq (dY w)).getD (bn f).toNat default)).length:Int)<=1000000;omega,by show ((f8 f).length:Int)<=1000000;omega,?_⟩;intro b1 b2 b3 b4 b5 b6 o1 o2 why hh;obtain⟨hh1,hh2,hh3⟩:=hh;have hh1:(b1,b2,b3,(b4,b5),b6)=(cS w).1:=by rw[eH];exact hh1
  have hh2:(o1,o2)=(cS w).2.1:=by rw[eH];exact hh2
  have hh3:why=(cS w).2.2:=by rw[eH];exact hh3
  have eA:uN w=((a1,a2,a3),a4,a5,a6,a7.set (bn f).toNat (b1,b2,b3,(b4,b5),b6),a8,a9,a10,a11):=by unfold uN;rw[A.eF,hh1,← hv];rfl
  refine⟨hnd.1,by rw[E7,hlen];exact hnd.2,?_⟩;have lenD:((bM w).length:Int)<=999999999000:=ab;have lenE:((bh w).length:Int)<=999999999000:=ab;refine⟨bT (λk=>?_) (λk=>?_),?_⟩
  .have k:why=1:=k;have eB:mX w=((a1,a2,a3),a4,a5,a6,a7.set (bn f).toNat (b1,b2,b3,(b4,b5),b6),a8,a9,a10++[(aO f,bn f,f8 f)],a11):=by
    rw[te,am (hh3▸k),eA,A.eF,← hv];rfl
   exact⟨by rw[E10];simp only[gc];omega,_,eB.symm,aP⟩
  .have k:¬ why=1:=k;have eB:mX w=((a1,a2,a3),a4,a5,a6,a7.set (bn f).toNat (b1,b2,b3,(b4,b5),b6),a8,a9,a10,a11):=by
    rw[te,af (hh3▸k),eA,← hv];rfl
   exact⟨_,eB.symm,aP⟩
  rintro B rfl;have eBn:bh (mX w)=bh w:=by rw[te];show bh (uN w)=_;rw[eA];exact E11
  refine⟨aw (λk=>?_) (λk=>?_),?_⟩
  .have k:¬ why=0:=gH k;refine⟨by show ((bh (mX w)).length:Int)<=_;rw[eBn];omega,eZ w,rfl,?_⟩;have eC:eZ w=I5 (mX w) (bh (mX w)++[(iy f,aO f,bn f,gO f,why)]):=by rw[uG,am (hh3▸k),A.eF,← hh3,eBn,← A.en]
   rw[eC];exact aP
  .have k:why=0:=iP k;refine⟨eZ w,rfl,?_⟩;have eC:eZ w=mX w:=by unfold eZ;rw[af (by rw[← hh3,k];simp)]
   rw[eC];exact aP
  rintro C rfl;have eCe:∃ l,bh (eZ w)=l/\(l.length:Int)<=1000000000000:=by
   refine⟨_,rfl,?_⟩;rw[uG];show ((if (cS w).2.2≠0 then bh (dY w)++[(iy (iJ w),aO (iJ w),bn (iJ w),gO (iJ w),(cS w).2.2)] else bh (dY w)).length:Int)<=_;rw[A.en];split
   .rw[cA,gc];omega
   .omega
  obtain⟨l,el,hl⟩:=eCe;have c1:aD (eZ w)=aD w:=by rw[uG,te];exact A.net
  have c2:aM (eZ w)=aM (dY w):=by rw[uG,te];rfl
  have c3:bK (eZ w)=bK (dY w):=by rw[uG,te];rfl
  have c4:gp (eZ w)=gp (dY w):=by rw[uG,te];rfl
  have hO:(cS w).2.1=(o1,o2):=hh2.symm;refine bT (λk=>?_) (λk=>?_)
  .have k:0<(o2.length:Int):=k;obtain⟨k1,k2,k3⟩:=A.out (by rw[hO];show 0<o2.length;omega);rw[hO] at k1 k2 k3;refine⟨by show (aM (eZ w)).Pairwise gJ;rw[c2];exact A.s.fl,?_,by show (aM (eZ w)).length<=4096;rw[c2];exact A.s.fn,by show ((bh (eZ w)).length:Int)<=_;rw[el];exact hl,by show (gp (eZ w)).length=(aD (eZ w)).2.1.length;rw[c4,c1,← A.net];exact A.s.cl,k1,by rw[c1];exact k2,by show gY (aD (eZ w)).1.length ((aD (eZ w)).2.1.getD o1.toNat default);rw[c1];exact k3,?_⟩
   .show ∀ x∈aM (eZ w),j7 x<bK (eZ w);rw[c2,c3];exact λx hx=>(A.s.fo x hx).o.2
   .rw[Fv,hO,am (by show 0<o2.length;omega),A.eF];rfl
  .have k:¬ 0<(o2.length:Int):=k;rw[Fv,hO,af (by show ¬ 0<o2.length;omega)];rfl
theorem ZR:aB 46 NY.spec:=aF Tryz.func46 (M8 (av (av (av (av aC (Ct.named R6)) (Ct.named aS4)) QZ) SI) (d:=17)) UT aT2
def zf(n:aQ):aJ:=if eh n=0 then jh n else DZ
def qR(w:aJ):Int:=if aM w=[] then 0 else aO ((aM w).headD default)
def qQ(w:aJ):Bool:=decide (aM w≠[])
def lR(w:aJ)(at' who:Int):Int:=if who<0∨((aD w).1.length:Int)<=who then 8 else if 1125899906842624<at' then 1 else if at'<bO w then 6 else if (4096:Int)<=(aM w).length then 5 else 0
def qT(w:aJ)(at' who:Int)(b:ae):aJ:=if lR w at' who=0 then iB w at' who b else DZ
def rx(w:aJ)(at' who:Int):Int:=if lR w at' who=0 then bK w else 0
def pk(w:aJ)(to:Int):Int:=if 1125899906842624<to then 1 else if to<bO w then 6 else 0
def vH(w:aJ)(to:Int):aJ:=if pk w to=0 then tZ w to else DZ
def LW:Ct:=⟨[.agg ib],[.agg nH,.val cI],λd=>[r8 d.1],λd=>((zf d.1,eh d.1,()),())⟩
def ZF:bw LW.ps->ce:=(λd=>{loops:=(bp 6 (λS=>{ι:=Int×(List ct),qn:=ft,μ:=λi=>(d.1.1.length-i.1).toNat,inv:=λi=>0<=i.1/\i.1<=d.1.1.length/\i.2=(d.1.1.take i.1.toNat).map nK,keep:=[1,2,5,22,23],slots:=λi=>[(24,.int .i64 i.1)],keepN:=[32,48,320],names:=λi=>[(96,.live (.cells 54 (dU ib d.1++[.int .i64 0,.int .i64 0,.int .i64 0,.own 524288 6,.own 320 1,.nilsl,.nilsl,.nilsl]))),(524288,.live (.row 118 qh i.2))]}) cC)})
def sR :=
 ((([]:List au),([]:List aK),([]:List aV)),(0:Int),(0:Int),(0:Int),([]:List (List aN×Int×ae×(Int×Int)×Int)),([]:ae),([]:List (Int×Int×Int×Int×Int×ae)),([]:List (Int×Int×ae)),([]:List (Int×Int×Int×Int×Int)))
def Gh(a:List au)(d:Int) :=
 (aU (ai a d),(0:Int),replicate (length (ay (ai a d))) (0:Int),(w ((ai a d).2.2.2.2.2.2.2.2.2.2.1.1*(ai a d).2.2.2.2.2.2.2.2.2.2.1.2),(0:Int)),(0:Int))
theorem W5 :
 ∀(a:List au)(b:List aK)(c:List aV),((a.length<=maxLen/\ ∀(d:au),d∈a->CT.wf bU d)/\(b.length<=maxLen/\ ∀(d:aK),d∈b->CT.wf fU d)/\c.length<=maxLen/\ ∀(d:aV),d∈c->CT.wf fh d)/\True->((ac a)<=1000000/\(ac b)<=1000000/\(ac c)<=1000000/\(∀(d:au),d∈a->((length (ay d)):Int)<=1000000/\okL (aU d))/\ ∀(d:aV),d∈c->((length (dO d).2.1):Int)<=1099511627776)->(∀(d:aV),d∈c->((length (dO d).2.1):Int)<=1099511627776)/\ao (! decide (eh (a,b,c)=0)) ((sR)=zf (a,b,c)/\eh (a,b,c)=eh (a,b,c)) (r8 (a,b,c)/\0<=(ac b)/\(ac b)<=(ac b)/\(↑(8:Nat):Int)*(ac b)<=281474976710656/\(∃(d:Int) (e:List ct),(0<=d/\d<=(ac a)/\e=List.map nK (take d.toNat a))/\a=a/\(ac a)=(ac a)/\0=d/\a=a/\b=b/\c=c/\(0:Int)=0/\(0:Int)=0/\(0:Int)=0/\replicate (toNat (ac b)) (0:Int)=replicate (toNat (ac b))
 (0:Int)/\a=a/\b=b/\c=c/\(0:Int)=0/\(0:Int)=0/\(0:Int)=0/\e=([]:List (List aN×Int×ae×(Int×Int)×Int))/\True)/\ ∀(d:Int)(e:List ct),0<=d/\d<=(ac a)/\e=List.map nK (take d.toNat a)->ao (decide (d<(ac a))) (0<=d/\d<(ac a)/\okL (aU (ai a d))/\((length (ay (ai a d))):Int)<=1000000/\(e.length+length [(Gh a d)])*(80:Nat)<=(140737488355328:Nat)/\ ∃(f:Int) (g:List ct),(0<=f/\f<=(ac a)/\g=List.map nK (take f.toNat a))/\toNat ((ac a) -f)<toNat ((ac a) -d)/\a=a/\(ac a)=(ac a)/\aj (d+1)=f/\a=a/\b=b/\c=c/\(0:Int)=0/\(0:Int)=0/\(0:Int)=0/\replicate (toNat (ac b)) (0:Int)=replicate (toNat (ac b)) (0:Int)/\a=a/\b=b/\c=c/\(0:Int)=0/\(0:Int)=0/\(0:Int)=0/\e++[(Gh a d)]=g/\True) (((a,b,c),(0:Int),(0:Int),(0:Int),e,replicate (toNat (ac b)) (0:Int),([]:List (Int×Int×Int×Int×Int×ae)),([]:List
 (Int×Int×ae)),([]:List (Int×Int×Int×Int×Int)))=zf (a,b,c)/\0=eh (a,b,c))):=by
  delta sR Gh aj ai ac;rintro ns ls hs ⟨⟨⟨hl0,-⟩,⟨hl1,-⟩,-⟩,-⟩⟨h1,h2,h3,h4,h5⟩;have h1:(ns.length:Int)<=1000000:=h1;have h2:(ls.length:Int)<=1000000:=h2;refine⟨h5,aw (λh=>?_) (λh=>?_)⟩
  .have h:=gH h;exact⟨by unfold zf;rw[af h];rfl,by trivial⟩
  have h:=iP h;refine⟨⟨h1,h2,h3,h4,h5⟩,ab,ab,ab,⟨0,[],⟨ab,ab,rfl⟩,aP⟩,?_⟩;rintro j st ⟨j0,j1,rfl⟩;refine bT (λhj=>?_) (λhj=>?_)
  .have hx:=h4 _ (bR j0 hj);refine⟨j0,hj,hx.2,hx.1,by simp only[mq,dA,gc];omega,j+1,_,⟨ab,ab,rfl⟩,ab,?_⟩
   (repeat refine jp ?_);refine⟨?_,bv⟩;rw[vx j0 hj,lG];rfl
  .refine⟨?_,h.symm⟩;unfold zf jh;rw[am h,fe ab];rfl
theorem WZ:aB 13 LW.spec:=aF Tryz.func13 (av (av (av aC ZD) M5) aR4) ZF W5
def ai4:Ct:=⟨[.agg nH],[.val cI,.val .bool],λ_=>[],λd=>((qR d.1,qQ d.1,()),())⟩
theorem Wy :
 ∀(a:(List au×List aK×List aV)×Int×Int×Int×List (List aN×Int×ae×(Int×Int)×Int)×ae×List (Int×Int×Int×Int×Int×ae)×List (Int×Int×ae)×List (Int×Int×Int×Int×Int)),CT.wf nH a/\True->True->ao (decide ((ac a.2.2.2.2.2.2.1)=0)) (0=qR a/\false=qQ a) ((0:Int)<=0/\0<(ac a.2.2.2.2.2.2.1)/\(getD a.2.2.2.2.2.2.1 (toNat 0) default).1=qR a/\true=qQ a):=by
  delta ac;intro d _ _;have eF:d.2.2.2.2.2.2.1=aM d:=rfl;rw[eF];unfold qR qQ;cases e:aM d with
  | nil=>exact⟨rfl,rfl⟩
  | cons f r=>exact⟨ab,by simp only[dN];omega,rfl,rfl⟩
theorem aV9:aB 45 ai4.spec:=aF Tryz.func45 aC aT Wy
def aP2:Ct:=⟨[.agg nH,.val cI,.val cI,.val (.sl bN)],[.agg nH,.val cI,.val cI],λd=>[oO d.1,(d.2.2.2.1.length:Int)<=1000000],λd=>((qT d.1 d.2.1 d.2.2.1 d.2.2.2.1,rx d.1 d.2.1 d.2.2.1,lR d.1 d.2.1 d.2.2.1,()),())⟩
theorem as3 :
 ∀(a:(List au×List aK×List aV)×Int×Int×Int×List (List aN×Int×ae×(Int×Int)×Int)×ae×List (Int×Int×Int×Int×Int×ae)×List (Int×Int×ae)×List (Int×Int×Int×Int×Int))(b c:Int)(d:ae),CT.wf nH a/\aq b/\aq c/\(d.length<=maxLen/\ ∀(e:Int),e∈d->0<=e/\e<=255)/\True->oO a/\(ac d)<=1000000-> ∀(e:Bool),e=decide (c<0)->(ah (! e))/\(ah (! e))/\(ah (! e))/\((! e)->(ar (! e))/\(ar (! e))/\True)/\(aE e)/\ao (bif e then true else decide ((ac a.1.1)<=c)) ((sR)=qT a b c d/\0=rx a b c/\8=lR a b c) (ao (decide (1125899906842624<b)) ((sR)=qT a b c d/\0=rx a b c/\1=lR a b c) (ao (decide (b<a.2.1)) ((sR)=qT a b c d/\0=rx a b c/\6=lR a b c) (ao (decide (4096<=(ac a.2.2.2.2.2.2.1))) ((sR)=qT a b c d/\0=rx a b c/\5=lR a b c) (zj a/\(ac d)<=1099511627776/\List.Pairwise gJ (aM a)/\(∀(f:bg),f∈aM a->j7 f<bK
 a)/\length (aM a)<=(4096:Nat)/\(a.1,a.2.1,aj (bK a+1),a.2.2.2.1,a.2.2.2.2.1,a.2.2.2.2.2.1,fJ (aM a) (aO (b,(0:Int),c,(-1:Int),a.2.2.1,d),bK a,c,(-1:Int),a.2.2.1,d),a.2.2.2.2.2.2.2)=qT a b c d/\a.2.2.1=rx a b c/\0=lR a b c)))):=by
  delta sR ah ar aE aj ac;rintro d t who b-⟨hE,hb⟩
  (repeat (refine bX ?_;repeat refine bZ ?_));refine rX (λho=>?_) (λq1 q2=>?_)
  .have e:lR d t who=8:=by unfold lR;rw[am (by rcases ho with q|q;exact .inl (aI q);exact .inr (aI q))]
   unfold qT rx;rw[e];exact⟨rfl,rfl,rfl⟩
  have q1:=aL q1;have q2:=aL q2;have h:sA d:=hE.resolve_right λq=>by
   have q3:d.1.1=[]:=by rw[q.1];rfl
   rw[q3] at q2;simp at q2;omega
  have hfn:=h.s.fn;have e1:lR d t who=if 1125899906842624<t then 1 else if t<bO d then 6 else if (4096:Int)<=(aM d).length then 5 else 0:=by
   unfold lR;rw[af (by rintro (q|q);exact q1 q;exact q2 q)]
  refine aw (λk=>?_) (λk=>?_)
  .have e:lR d t who=1:=by rw[e1,am (aI k)]
   unfold qT rx;rw[e];exact⟨rfl,rfl,rfl⟩
  rw[af (aL k)] at e1;refine aw (λk=>?_) (λk=>?_)
  .have k:t<bO d:=aI k;have e:lR d t who=6:=by rw[e1,am k]
   unfold qT rx;rw[e];exact⟨rfl,rfl,rfl⟩
  have k:¬ t<bO d:=aL k;rw[af k] at e1;refine aw (λk=>?_) (λk=>?_)
  .have k:(4096:Int)<=(aM d).length:=aI k;have e:lR d t who=5:=by rw[e1,am k]
   unfold qT rx;rw[e];exact⟨rfl,rfl,rfl⟩
  have k:¬ (4096:Int)<=(aM d).length:=aL k;rw[af k] at e1;unfold qT rx;rw[e1];exact⟨h.cp,ab,h.s.fl,λx hx=>(h.s.fo x hx).o.2,hfn,rfl,rfl,rfl⟩
theorem aa8:aB 14 aP2.spec:=aF Tryz.func14 (av (av (av aC Qz) r4) LU) aT as3
def Mw:Ct:=⟨[.agg nH,.val cI],[.agg nH,.val cI],λd=>[oO d.1],λd=>((vH d.1 d.2.1,pk d.1 d.2.1,()),())⟩
def ah2:bw Mw.ps->ce:=(λd=>{loops:=(bp 7 (λS=>{ι:=aJ×Int×Bool,qn:=sf,μ:=λi=>jJ i.1,inv:=λi=>oO i.1/\jG i.1 d.2.1=jG d.1 d.2.1/\i.2.1=qR i.1/\i.2.2=qQ i.1,keep:=[1,2,4],slots:=λi=>[(6,.int .i64 i.2.1),(7,.bool i.2.2)],keepN:=[80],names:=λi=>[(48,.live (.cells 54 (dU ib (aD i.1)++[.int .i64 (bO i.1),.int .i64 (bK i.1),.int .i64 (dm i.1),.own 524288 6,.own 524289 1,.own 524290 6,.own 524291 3,.own 524292 5]))),(524288,.live (.row 118 qh (cq i.1))),(524289,.live (.row 3 cI (gp i.1))),(524290,.live (.row 125 nB (aM i.1))),(524291,.live (.row 78 yx (bM i.1))),(524292,.live (.row 68 pX (bh i.1)))]}) cC)})
def o5(c:aJ) :=
 fw (aD c,c.2)
theorem aI9 :
 ∀(a:(List au×List aK×List aV)×Int×Int×Int×List (List aN×Int×ae×(Int×Int)×Int)×ae×List (Int×Int×Int×Int×Int×ae)×List (Int×Int×ae)×List (Int×Int×Int×Int×Int))(b:Int),CT.wf nH a/\aq b/\True->sA a∨sF a->ao (decide (1125899906842624<b)) ((sR)=vH a b/\1=pk a b) (ao (decide (b<a.2.1)) ((sR)=vH a b/\6=pk a b) (zj a/\(∃(c:aJ) (d:Int),∃(e:Bool),(oO c/\jG c b=jG a b/\d=qR c/\e=qQ c)/\b=b/\qR a=d/\qQ a=e/\(0:Int)=0/\(0:Int)=0/\(0:Int)=0/\a.1.1=(aD c).1/\a.1.2.1=(aD c).2.1/\a.1.2.2=(aD c).2.2/\a.2.1=bO c/\a.2.2.1=bK c/\a.2.2.2.1=dm c/\a.2.2.2.2.1=cq c/\a.2.2.2.2.2.1=gp c/\a.2.2.2.2.2.2.1=aM c/\a.2.2.2.2.2.2.2.1=bM c/\a.2.2.2.2.2.2.2.2=bh c/\True)/\ ∀(c:aJ)(d:Int)(e:Bool),oO c/\jG c b=jG a b/\d=qR c/\e=qQ c-> ∀(f:Bool),f=e->(f->(ar f)/\(ar f)/\True)/\(ar f)/\ao (bif f then decide (d<=b)
 else false) (sA (aD c,c.2)/\aM (aD c,c.2)≠([]:List bg)/\ ∃(g:aJ) (h:Int),∃(i:Bool),(oO g/\jG g b=jG a b/\h=qR g/\i=qQ g)/\jJ g<jJ c/\b=b/\qR (o5 c)=h/\qQ (o5 c)=i/\(0:Int)=0/\(0:Int)=0/\(0:Int)=0/\(o5 c).1.1=(aD g).1/\(o5 c).1.2.1=(aD g).2.1/\(o5 c).1.2.2=(aD g).2.2/\(o5 c).2.1=bO g/\(o5 c).2.2.1=bK g/\(o5 c).2.2.2.1=dm g/\(o5 c).2.2.2.2.1=cq g/\(o5 c).2.2.2.2.2.1=gp g/\(o5 c).2.2.2.2.2.2.1=aM g/\(o5 c).2.2.2.2.2.2.2.1=bM g/\(o5 c).2.2.2.2.2.2.2.2=bh g/\True) (uu (aD c,b,c.2.2)/\dr (aD c,b,c.2.2)=vH a b/\0=pk a b))):=by
  delta sR o5 ar;rintro d to-h;have h:oO d:=h;refine aw (λk=>?_) (λk=>?_)
  .have k:=aI k;have e:pk d to=1:=by unfold pk;rw[am k]
   unfold vH;rw[e];exact⟨rfl,rfl⟩
  have k:=aL k;refine aw (λq=>?_) (λq=>?_)
  .have q:to<bO d:=aI q;have e:pk d to=6:=by unfold pk;rw[af k,am q]
   unfold vH;rw[e];exact⟨rfl,rfl⟩
  have q:¬ to<bO d:=aL q;have e:pk d to=0:=by unfold pk;rw[af k,af q]
  have hnow:0<=bO d:=by rcases h with q|q;exact q.s.now.1;exact q.2.1
  have hnq:bO d<=to:=ab;refine⟨h.cp,⟨d,_,_,⟨h,rfl,rfl,rfl⟩,aP⟩,?_⟩;rintro v t ok ⟨hv,he,rfl,rfl⟩;have hv:oO v:=hv
  (repeat (refine bX ?_;repeat refine bZ ?_));have eB:(bif qQ v then decide (qR v<=to) else false)=jY v to:=by
   unfold qQ qR jY;cases aM v with
   | nil=>rfl
   | cons f r=>rfl
  rw[eB];refine aw (λhb=>?_) (λhb=>?_)
  .cases ef:aM v with
   | nil=>unfold jY at hb;rw[ef] at hb;cases hb
   | cons f r =>
    have hv:=hv.fl (by rw[ef];simp);obtain⟨s1,s2⟩:=hv.step ef;exact⟨hv,by show aM v≠[];rw[ef];simp,fw v,_,_,⟨.inl s1,(D6 hv.s.weak hb).symm.trans he,rfl,rfl⟩,s2,aP⟩
  .have hR:jG d to=v:=by rw[← he];exact He hb
   refine⟨by rcases hv with q|q;exact .inl (q.s.wait hb ⟨ab,ab⟩).weak;exact q.ch to,?_,e.symm⟩;unfold vH;rw[am e];show dr (fL v to)=dr (fL (jG d to) to);rw[hR]
theorem ZK:aB 15 Mw.spec:=aF Tryz.func15 (av (av (av (av aC Qz) aV9) ZR) R6) ah2 aI9
def Si:Ct:=⟨[.agg bU],[.own 35 cP],λd=>[(ay d.1).length<=100000],λd=>((cG d.1,()),())⟩
def aT7:bw Si.ps->ce:=(λd=>{loops:=(bp 3 (λS=>{ι:=Int×ae,qn:=ft,μ:=λi=>((ay d.1).length-i.1).toNat,inv:=λi=>0<=i.1/\i.1<=(ay d.1).length/\i.2=(mg d.1).take i.1.toNat,keep:=[1],slots:=λi=>[(3,.own 524288 1),(4,.int .i64 i.1)],keepN:=[32],names:=λi=>[(524288,.live (.row 35 cP i.2))]}) cC)})
def AC(a:au) :=
 ((length (ay a)):Int)
theorem V6 :
 ∀(a:au),CT.wf bU a/\True->length (ay a)<=(100000:Nat)->(∃(b:Int) (c:ae),(0<=b/\b<=(AC a)/\c=take b.toNat (mg a))/\0=b/\a.1=a.1/\a.2.1=a.2.1/\a.2.2.1=a.2.2.1/\a.2.2.2.1=a.2.2.2.1/\a.2.2.2.2.1=a.2.2.2.2.1/\a.2.2.2.2.2.1=a.2.2.2.2.2.1/\a.2.2.2.2.2.2.1=a.2.2.2.2.2.2.1/\a.2.2.2.2.2.2.2.1=a.2.2.2.2.2.2.2.1/\a.2.2.2.2.2.2.2.2.1=a.2.2.2.2.2.2.2.2.1/\a.2.2.2.2.2.2.2.2.2.1=a.2.2.2.2.2.2.2.2.2.1/\a.2.2.2.2.2.2.2.2.2.2.1.1=a.2.2.2.2.2.2.2.2.2.2.1.1/\a.2.2.2.2.2.2.2.2.2.2.1.2=a.2.2.2.2.2.2.2.2.2.2.1.2/\a.2.2.2.2.2.2.2.2.2.2.2.1=a.2.2.2.2.2.2.2.2.2.2.2.1/\a.2.2.2.2.2.2.2.2.2.2.2.2.1=a.2.2.2.2.2.2.2.2.2.2.2.2.1/\a.2.2.2.2.2.2.2.2.2.2.2.2.2.1=a.2.2.2.2.2.2.2.2.2.2.2.2.2.1/\a.2.2.2.2.2.2.2.2.2.2.2.2.2.2=a.2.2.2.2.2.2.2.2.2.2.2.2.2.2/\c=([]:ae)/\True)/\ ∀(b:Int)(c:ae),0<=b/\b<=(AC a)/\c=take b.toNat (mg a)->ao (decide (b<(ac a.1))) (0<=b/\b<(ac
 a.1)/\(c.length+length [(getD a.1 b.toNat default).1])*(4:Nat)<=(140737488355328:Nat)/\ ∃(d:Int) (e:ae),(0<=d/\d<=(AC a)/\e=take d.toNat (mg a))/\toNat ((AC a) -d)<toNat ((AC a) -b)/\aj (b+1)=d/\a.1=a.1/\a.2.1=a.2.1/\a.2.2.1=a.2.2.1/\a.2.2.2.1=a.2.2.2.1/\a.2.2.2.2.1=a.2.2.2.2.1/\a.2.2.2.2.2.1=a.2.2.2.2.2.1/\a.2.2.2.2.2.2.1=a.2.2.2.2.2.2.1/\a.2.2.2.2.2.2.2.1=a.2.2.2.2.2.2.2.1/\a.2.2.2.2.2.2.2.2.1=a.2.2.2.2.2.2.2.2.1/\a.2.2.2.2.2.2.2.2.2.1=a.2.2.2.2.2.2.2.2.2.1/\a.2.2.2.2.2.2.2.2.2.2.1.1=a.2.2.2.2.2.2.2.2.2.2.1.1/\a.2.2.2.2.2.2.2.2.2.2.1.2=a.2.2.2.2.2.2.2.2.2.2.1.2/\a.2.2.2.2.2.2.2.2.2.2.2.1=a.2.2.2.2.2.2.2.2.2.2.2.1/\a.2.2.2.2.2.2.2.2.2.2.2.2.1=a.2.2.2.2.2.2.2.2.2.2.2.2.1/\a.2.2.2.2.2.2.2.2.2.2.2.2.2.1=a.2.2.2.2.2.2.2.2.2.2.2.2.2.1/\a.2.2.2.2.2.2.2.2.2.2.2.2.2.2=a.2.2.2.2.2.2.2.2.2.2.2.2.2.2/\c++[(getD a.1 b.toNat default).1]=e/\True) (ao (!
 decide (a.2.1=0)) ((c.length+length [a.2.1])*(4:Nat)<=(140737488355328:Nat)/\c++[a.2.1]=cG a) (c=cG a)):=by
  delta AC aj ac;rintro d-hl;have hlen:(mg d).length=(ay d).length:=by simp[mg]
  have hd:d.1=ay d:=rfl;have hz:d.2.1=fA d:=rfl;rw[hd,hz];refine⟨⟨0,[],⟨ab,ab,rfl⟩,aP⟩,?_⟩;rintro j l ⟨j0,j1,rfl⟩;refine bT (λhk=>?_) (λhk=>?_)
  .refine⟨j0,hk,by simp only[dA,dN,List.length_nil];omega,j+1,_,⟨ab,ab,rfl⟩,ab,?_⟩
   (repeat refine jp ?_);refine⟨?_,bv⟩;rw[rD j0 (by rw[hlen];exact hk)];unfold mg;rw[bJ,bJ,List.getElem?_map,cK ab];rfl
  .rw[fe ab];unfold cG;refine aw (λh=>?_) (λh=>?_)
   .rw[af (gH h)];exact⟨by simp only[dN,List.length_nil];omega,rfl⟩
   .rw[am (iP h),jx]
theorem av2:aB 29 Si.spec:=aF Tryz.func29 aC aT7 V6
def az2:Ct:=⟨[.val (.sl dh),.agg fh],[.own 96 dh],λd=>[cJ d.1,okL d.1,((dO d.2.1).2.1.length:Int)<=1099511627776],λd=>((f7 d.1 d.2.1,()),())⟩
theorem ar4 :
 ∀(a:List aN)(b:aV),(a.length<=maxLen/\ ∀(c:aN),c∈a->((0<=c.1.1/\c.1.1<=4294967295)/\aq c.1.2)/\(c.2.1.length<=maxLen/\ ∀(d:Int),d∈c.2.1->aq d)/\aq c.2.2)/\CT.wf fh b/\True->cJ a/\okL a/\((length (dO b).2.1):Int)<=1099511627776->ao b.2.2.1 (okL a/\jt a b.2.2.2.1=f7 a b) (cJ a/\okL a/\(ac b.2.2.2.2.1)<=1099511627776/\f6 a b.2.2.2=f7 a b):=by
  delta ac;rintro l c-⟨hs,hl,hx⟩;unfold f7;rw[show c.2.2.1=qj c from rfl];refine aw (λh=>⟨hl,?_⟩) (λh=>⟨hs,hl,hx,?_⟩)
  .rw[am h];rfl
  .rw[af (by rw[h];decide)];rfl
theorem ao5:aB 72 az2.spec:=aF Tryz.func72 (av (av aC RC) P8) aT ar4
theorem Tm{P:Prop} [Decidable P] {a b:Bool}:(bif decide P then true else bif a then !b else false)=decide (P∨(a=true/\b=false)):=by
 by_cases h:P <;> cases a <;> cases b <;> simp[h]
def Lw:Ct:=⟨[.agg ib],[.val cI],λd=>[lz d.1=0,d.1.1.length<=64,∀ c∈d.1.2.2,((dO c).2.1.length:Int)<=1099511627776],λd=>((lN d.1,()),())⟩
def ah3:bw Lw.ps->ce:=(λd=>{loops:=(bp 3 (λS=>{ι:=Int×(List (List Rt)),qn:=ft,μ:=λi=>(d.1.1.length-i.1).toNat,inv:=λi=>0<=i.1/\i.1<=d.1.1.length/\i.2=(d.1.1.take i.1.toNat).map aU++replicate (d.1.1.length-i.1.toNat) [],keep:=[1],slots:=λi=>[(3,.own 524288 1),(4,.int .i64 i.1)],keepN:=[32],names:=λi=>[(524288,.live (.row 90 (.sl dh) i.2))]}) (bp 7 (λS=>{ι:=Int×(List (List Rt)),qn:=ft,μ:=λi=>(d.1.2.2.length-i.1).toNat,inv:=λi=>0<=i.1/\i.1<=d.1.2.2.length/\first (gU d.1) i.1.toNat=0/\i.2=dH d.1 i.1.toNat,keep:=[1],slots:=λi=>[(3,.own 524288 1),(5,.int .i64 i.1)],keepN:=[32],names:=λi=>[(524288,.live (.row 90 (.sl dh) i.2))]}) cC))})
def mW(c:List aV)(f:Int) :=
 toNat (ai c f).2.1
theorem Uf :
 ∀(a:List au)(b:List aK)(c:List aV),((a.length<=maxLen/\ ∀(d:au),d∈a->CT.wf bU d)/\(b.length<=maxLen/\ ∀(d:aK),d∈b->CT.wf fU d)/\c.length<=maxLen/\ ∀(d:aV),d∈c->CT.wf fh d)/\True->(lz (a,b,c)=0/\a.length<=(64:Nat)/\ ∀(d:aV),d∈c->((length (dO d).2.1):Int)<=1099511627776)->0<=(ac a)/\(ac a)<=(ac a)/\(↑(24:Nat):Int)*(ac a)<=281474976710656/\(∃(d:Int) (e:List (List Rt)),(0<=d/\d<=(ac a)/\e=List.map aU (take d.toNat a)++replicate (a.length -d.toNat) ([]:List aN))/\0=d/\a=a/\b=b/\c=c/\replicate (toNat (ac a)) ([]:List aN)=e/\True)/\ ∀(d:Int)(e:List (List Rt)),0<=d/\d<=(ac a)/\e=List.map aU (take d.toNat a)++replicate (a.length -d.toNat) ([]:List aN)->ao (decide (d<(ac a))) (0<=d/\d<(ac a)/\0<=d/\d<(ac e)/\ ∃(f:Int) (g:List (List Rt)),(0<=f/\f<=(ac a)/\g=List.map aU (take f.toNat
 a)++replicate (a.length -f.toNat) ([]:List aN))/\toNat ((ac a) -f)<toNat ((ac a) -d)/\aj (d+1)=f/\a=a/\b=b/\c=c/\set e d.toNat (ai a d).2.2.2.2.1=g/\True) ((∃(f:Int) (g:List (List Rt)),(0<=f/\f<=(ac c)/\first (gU (a,b,c)) f.toNat=0/\g=dH (a,b,c) f.toNat)/\0=f/\a=a/\b=b/\c=c/\e=g/\True)/\ ∀(f:Int)(g:List (List Rt)),0<=f/\f<=(ac c)/\first (gU (a,b,c)) f.toNat=0/\g=dH (a,b,c) f.toNat->ao (decide (f<(ac c))) (0<=f/\f<(ac c)/\ ∀(h:Bool),h=decide ((ai c f).1<0)->(ah (! h))/\(ah (! h))/\(aE h)/\ao (bif h then true else decide (1125899906842624<(ai c f).1)) (1=lN (a,b,c)) (∀(i:Bool),i=decide (0<f)->(ah i)/\(ah i)/\(ah i)/\(i->(ar i)/\(ar i)/\0<=aj (f -1)/\aj (f -1)<(ac c)/\True)/\(ah i)/\(ah i)/\(i->(ar i)/\(ar i)/\True)/\(ar i)/\ao (bif i then decide ((ai c f).1<(ai c (aj (f -1))).1) else false) (6=lN (a,b,c))
 (∀(j:Bool),j=decide ((ai c f).2.1<0)->(ah (! j))/\(ah (! j))/\(ah (! j))/\((! j)->(ar (! j))/\(ar (! j))/\True)/\(aE j)/\ ∀(k:Bool),(k=bif j then true else decide ((ac a)<=(ai c f).2.1))->(ah (! k))/\(ah (! k))/\ ∀(l:Bool),l=(ai c f).2.2.1->(ah (! k&&l))/\((! k&&l)->(ar (! k&&l))/\(ar (! k&&l))/\0<=(ai c f).2.1/\(ai c f).2.1<(ac g)/\True)/\(ah (! k&&l))/\(ah (! k&&l))/\(ah (! k&&l))/\((! k&&l)->(ar (! k&&l))/\(ar (! k&&l))/\okL (g.getD (mW c f) default)/\True)/\(ah (! k&&l))/\((! k)->(ar (! k))/\(l->(! k&&l))/\True)/\(aE k)/\ao (bif k then true else bif l then ! m7 (g.getD (mW c f) default) (ai c f).2.2.2.1 else false) (8=lN (a,b,c)) (0<=(ai c f).2.1/\(ai c f).2.1<(ac g)/\cJ (g.getD (mW c f) default)/\okL (g.getD (mW c f) default)/\((length (ai c f).2.2.2.2.1):Int)<=1099511627776/\0<=(ai c f).2.1/\(ai c f).2.1<(ac g)/\0<=(ai c
 f).2.1/\(ai c f).2.1<((length (set g (mW c f) (f7 (g.getD (mW c f) default) (ai c f)))):Int)/\0<=(ai c f).2.1/\(ai c f).2.1<(ac a)/\length (ay (a.getD (mW c f) default))<=(100000:Nat)/\ao (! decide (dL (getD (set g (mW c f) (f7 (g.getD (mW c f) default) (ai c f))) (mW c f) default) (bo (a.getD (mW c f) default))=0)) (dL (getD (set g (mW c f) (f7 (g.getD (mW c f) default) (ai c f))) (mW c f) default) (bo (a.getD (mW c f) default))=lN (a,b,c)) (∃(m:Int) (n:List (List Rt)),(0<=m/\m<=(ac c)/\first (gU (a,b,c)) m.toNat=0/\n=dH (a,b,c) m.toNat)/\toNat ((ac c) -m)<toNat ((ac c) -f)/\aj (f+1)=m/\a=a/\b=b/\c=c/\set g (mW c f) (f7 (g.getD (mW c f) default) (ai c f))=n/\True))))) (0=lN (a,b,c))):=by
  delta mW ah ar aE aj ai ac;rintro ns ls hs ⟨⟨⟨hnl,-⟩,⟨hl,-⟩,⟨hhl,-⟩⟩,-⟩⟨hb,hn,hx⟩;simp only[maxLen] at hl hnl hhl;refine⟨ab,ab,ab,⟨0,_,⟨ab,ab,rfl⟩,by (repeat refine jp ?_);simp⟩,?_⟩;rintro j t ⟨j0,j1,rfl⟩;have tl:((ns.take j.toNat).map aU++replicate (ns.length-j.toNat) ([]:List Rt)).length=ns.length:=by simp;omega
  refine aw (λhj=>?_) (λhj=>?_)
  .have hj:=aI hj;refine⟨j0,hj,j0,by rw[tl];exact hj,j+1,_,⟨ab,ab,rfl⟩,ab,?_⟩
   (repeat refine jp ?_);refine⟨?_,bv⟩;rw[show (j+1).toNat=j.toNat+1 by omega,← Pg ab];rfl
  have hj:=aL hj;have e0:(ns.take j.toNat).map aU++replicate (ns.length-j.toNat) ([]:List Rt)=dH (ns,ls,hs) 0:=by
   rw[fe ab,show ns.length-j.toNat=0 by omega];simp[dH]
  rw[e0];clear e0 tl hj j0 j1;refine⟨⟨0,_,⟨ab,ab,rfl,rfl⟩,aP⟩,?_⟩;rintro j t ⟨j0,j1,hf,rfl⟩;refine aw (λhj=>?_) (λhj=>?_)
  rotate_left
  .have hj:=aL hj;rw[show j.toNat=hs.length by omega] at hf;exact hf.symm
  have hj:=aI hj;have hm:=bR j0 hj;have tb:=Hs hb hf;have tl:=qD (ns,ls,hs) j.toNat
  dsimp only at tl;have hit:=λh=>Bl (f:=gU (ns,ls,hs)) (n:=hs.length) j0 hj hf h;have eq:=NT (ns,ls,hs) j0;have ej:((j.toNat:Nat):Int)=j:=ab;rw[aG (n:=j-1) ab ab,tl];refine⟨j0,hj,?_⟩
  (repeat (refine bX ?_;repeat refine bZ ?_));rw[kV];refine aw (λh=>?_) (λh=>?_)
  .have h:=aI h;have e:gU (ns,ls,hs) j.toNat=1:=by
    rw[eq];unfold mY;rw[am];exact h
   have q:=hit (by rw[e];decide);rw[e] at q;exact q
  have c1:¬ (fc (hs.getD j.toNat default)<0∨1125899906842624<fc (hs.getD j.toNat default)):=aL h;clear h;intro b hb1
  (repeat refine⟨(by first|(simp;done)|exact λh=>⟨λ_=>h,λ_=>h,j0,hj,bv⟩|exact λh=>⟨λ_=>h,λ_=>h,by rw[hb1] at h;have:=aI h;omega,by rw[hb1] at h;have:=aI h;omega,bv⟩),?_⟩);rw[hb1,uD];refine aw (λh=>?_) (λh=>?_)
  .have h:=aI h;have e:gU (ns,ls,hs) j.toNat=6:=by
    rw[eq];unfold mY;rw[af c1,am];exact⟨ab,h.2⟩
   have q:=hit (by rw[e];decide);rw[e] at q;exact q
  have c2:¬ (0<j.toNat/\fc (hs.getD j.toNat default)<fc (hs.getD (j-1).toNat default)):=λq=>aL h ⟨ab,q.2⟩;clear h hb1;have NC:¬ (bL (hs.getD j.toNat default)<0∨(ns.length:Int)<=bL (hs.getD j.toNat default))->okL ((dH (ns,ls,hs) j.toNat).getD (bL (hs.getD j.toNat default)).toNat default):=λh=>(tb.r _ (by show _<ns.length;omega)).2;intro b1 hb1
  (repeat refine⟨(by simp;done),?_⟩);intro b2 hb2
  (repeat refine⟨(by simp;done),?_⟩);rw[hb1,kV] at hb2;intro b3 hb3;have hb3:b3=qj (hs.getD j.toNat default):=hb3;have nb:(!b2&&b3)=true→¬ (bL (hs.getD j.toNat default)<0∨(ns.length:Int)<=bL (hs.getD j.toNat default)):=λh=>by
   have h:=(Bool.and_eq_true_iff.1 h).1;rw[hb2] at h;exact gH h
  (repeat refine⟨(by first|(simp;done)|(simp +contextual;done)|exact λh=>⟨λ_=>h,λ_=>h,NC (nb h),bv⟩|exact λh=>⟨λ_=>h,λ_=>h,by have:0<=bL (hs.getD j.toNat default):=(by have:=nb h;omega);exact this,by have:bL (hs.getD j.toNat default)<ns.length:=(by have:=nb h;omega);exact this,bv⟩),?_⟩);have tot:(bif b2 then true else bif b3 then !m7 ((dH (ns,ls,hs) j.toNat).getD (hs.getD j.toNat default).2.1.toNat default) (hs.getD j.toNat default).2.2.2.1 else false)=decide ((bL (hs.getD j.toNat default)<0∨(ns.length:Int)<=bL (hs.getD j.toNat default))∨(qj (hs.getD j.toNat default)=true/\m7 ((dH (ns,ls,hs) j.toNat).getD (bL (hs.getD j.toNat default)).toNat default) (dO (hs.getD j.toNat default)).1=false)):=by
   rw[hb2,hb3];exact Tm
  rw[tot];refine aw (λh=>?_) (λh=>?_)
  .have h:=aI h;have e:gU (ns,ls,hs) j.toNat=8:=by
    rw[eq];unfold mY;rw[af c1,af c2];rcases h with h|h
    .rw[am h]
    .by_cases hA:bL (hs.getD j.toNat default)<0∨(ns.length:Int)<=bL (hs.getD j.toNat default)
     .rw[am hA]
     .rw[af hA,am h]
   have q:=hit (by rw[e];decide);rw[e] at q;exact q
  have h:=aL h;have c3:¬ (bL (hs.getD j.toNat default)<0∨(ns.length:Int)<=bL (hs.getD j.toNat default)):=λk=>h (.inl k);have c4:¬ (qj (hs.getD j.toNat default)=true/\m7 ((dH (ns,ls,hs) j.toNat).getD (bL (hs.getD j.toNat default)).toNat default) (dO (hs.getD j.toNat default)).1=false):=λk=>h (.inr k);have w0:0<=bL (hs.getD j.toNat default):=ab;have w1:bL (hs.getD j.toNat default)<ns.length:=ab;have wl:(bL (hs.getD j.toNat default)).toNat<ns.length:=ab;have tr:=tb.r (bL (hs.getD j.toNat default)).toNat wl;rw[gC,tl,kv (by rw[tl];exact wl)];refine⟨w0,w1,tr.1,tr.2,hx _ hm,w0,w1,w0,w1,w0,w1,by have:=(B4 (n:=(ns,ls,hs)) hb wl).len;exact rm this bt,aw (λh=>?_) (λh=>?_)⟩
  .have h:=gH h;have e:gU (ns,ls,hs) j.toNat=dL (f7 ((dH (ns,ls,hs) j.toNat).getD (bL (hs.getD j.toNat default)).toNat default) (hs.getD j.toNat default)) (bo (ns.getD (bL (hs.getD j.toNat default)).toNat default)):=by
    rw[eq];unfold mY;rw[af c1,af c2,af c3,af c4]
   have k:=hit (by rw[e];exact h);rw[e] at k;exact k
  .have h:=iP h;have e:gU (ns,ls,hs) j.toNat=0:=by
    rw[eq];unfold mY;rw[af c1,af c2,af c3,af c4];exact h
   refine⟨j+1,dH (ns,ls,hs) (j+1).toNat,⟨ab,ab,xz j0 hf e,rfl⟩,ab,?_⟩
   (repeat refine jp ?_);refine⟨?_,bv⟩;rw[show (j+1).toNat=j.toNat+1 by omega];rfl
theorem ad4:aB 31 Lw.spec:=aF Tryz.func31 (av (av (av (av aC Qj) ao5) PM) Sd) ah3 Uf
theorem Kq(ns:List au)(a:Int):∀ k:Nat,gk a (gm ns k)=true↔∃ j:Nat,j<k/\a∈cG (ns.getD j default)
 | 0=>⟨λh=>by (cases h),λ⟨j,hj,_⟩=>absurd hj (Nat.not_lt_zero _)⟩
 | k+1=>by
  have e:gm ns (k+1)=nw k (cG (ns.getD k default)) (gm ns k):=by unfold gm;rw[nj,iD];rfl
  rw[e,CS.1,px,om,Kq ns a k];constructor
  .rintro (h|⟨j,hj,h⟩)
   .exact⟨k,ab,h⟩
   .exact⟨j,ab,h⟩
  .rintro⟨j,hj,h⟩;by_cases q:j=k
   .subst q;exact .inl h
   .exact .inr ⟨j,ab,h⟩
theorem Vg{x:au}{j:Nat}(h:j<(ay x).length):(bo x).getD j default=((ay x).getD j default).2:=by
 unfold bo
 rw[bJ,bJ,List.getElem?_map,cK h];rfl
def Ng:Ct:=⟨[.agg ib],[.val cI],λd=>[∀ c∈d.1.2.2,((dO c).2.1.length:Int)<=1099511627776],λd=>((eh d.1,()),())⟩
def aE3:bw Ng.ps->ce:=(λd=>{loops:=(bp 4 (λS=>{ι:=Int,μ:=λi=>(d.1.2.1.length-i).toNat,inv:=λi=>0<=i/\i<=d.1.2.1.length∧∀ x∈d.1.2.1.take i.toNat,gY d.1.1.length x,keep:=[1],slots:=λi=>[(3,.int .i64 i)],keepN:=[32]}) (bp 10 (λS=>{ι:=Int,μ:=λi=>(d.1.1.length-i).toNat,inv:=λi=>0<=i/\i<=d.1.1.length/\first (lp d.1) i.toNat=0,keep:=[1],slots:=λi=>[(5,.int .i64 i)],keepN:=[32]}) (bp 16 (λS=>{ι:=Int,μ:=λi=>((bo (d.1.1.getD (S.i 5).toNat default)).length-i).toNat,inv:=λi=>0<=i/\i<=(bo (d.1.1.getD (S.i 5).toNat default)).length∧∀ q∈(bo (d.1.1.getD (S.i 5).toNat default)).take i.toNat,mQ d.1 (S.i 5).toNat q=false,keep:=[1,5],slots:=λi=>[(7,.int .i64 i)],keepN:=[32]}) (bp 22 (λS=>{ι:=Int,μ:=λi=>(d.1.2.1.length-i).toNat,inv:=λi=>0<=i/\i<=d.1.2.1.length∧∀ k:Nat,(k:Int)<i->m4 d.1 k=false,keep:=[1],slots:=λi=>[(9,.int .i64 i)],keepN:=[32]}) (bp 27 (λS=>{ι:=Int,μ:=λi=>(d.1.1.length-i).toNat,inv:=λi=>0<=i/\i<=d.1.1.length∧∀ u:Nat,(u:Int)<i→∀ k:Nat,k<u→∀ a∈cG (d.1.1.getD u default),dC (d.1.1.getD k default) a=false,keep:=[1],slots:=λi=>[(10,.int .i64 i)],keepN:=[32]}) (bp 31 (λS=>{ι:=Int,μ:=λi=>(S.i 10-i).toNat,inv:=λi=>0<=i/\i<=S.i 10∧∀ z:Nat,(z:Int)<i→∀ a∈cG (d.1.1.getD (S.i 10).toNat default),dC (d.1.1.getD z default) a=false,keep:=[1,10,11],slots:=λi=>[(12,.int .i64 i)],keepN:=[32,3520]}) (bp 34 (λS=>{ι:=Int,μ:=λi=>((cG (d.1.1.getD (S.i 10).toNat default)).length-i).toNat,inv:=λi=>0<=i/\i<=(cG (d.1.1.getD (S.i 10).toNat default)).length∧∀ a∈(cG (d.1.1.getD (S.i 10).toNat default)).take i.toNat,dC (d.1.1.getD (S.i 12).toNat default) a=false,keep:=[1,10,11,12],slots:=λi=>[(13,.int .i64 i)],keepN:=[32,3520]}) (bp 39 (λS=>{ι:=Int,μ:=λi=>(d.1.2.1.length-i).toNat,inv:=λi=>0<=i/\i<=d.1.2.1.length∧∀ x∈d.1.2.1.take i.toNat,iS d.1.1 x=false,keep:=[1],slots:=λi=>[(14,.int .i64 i)],keepN:=[32]}) cC))))))))})
def wF(a:List au)(h i:Int) :=
 getD (ai a h).1 i.toNat default
def vC(a:List au)(j:Int) :=
 ((length (cG (ai a j))):Int)
def Gg(a:List au)(j:Int) :=
 0<=j/\j<=(ac a)/\ ∀(k:Nat),(↑k:Int)<j-> ∀(l:Nat),l<k-> ∀(m:Int),m∈cG (a.getD k default)->dC (a.getD l default) m=false
def AA(a:List au)(h:Int) :=
 ((length (bo (ai a h))):Int)
theorem ae6 :
 ∀(a:List au)(b:List aK)(c:List aV),((a.length<=maxLen/\ ∀(d:au),d∈a->CT.wf bU d)/\(b.length<=maxLen/\ ∀(d:aK),d∈b->CT.wf fU d)/\c.length<=maxLen/\ ∀(d:aV),d∈c->CT.wf fh d)/\True->(∀(d:aV),d∈c->((length (dO d).2.1):Int)<=1099511627776)-> ∀(d:Bool),d=decide ((ac a)<1)->(ah (! d))/\(ah (! d))/\(ah (! d))/\(aE d)/\ ∀(e:Bool),(e=bif d then true else decide (64<(ac a)))->(ah (! e))/\(ah (! e))/\(ah (! e))/\(aE e)/\ ∀(f:Bool),(f=bif e then true else decide (128<(ac b)))->(ah (! f))/\(ah (! f))/\(ah (! f))/\(aE f)/\ao (bif f then true else decide (64<(ac c))) (5=eh (a,b,c)) ((∃(g:Int),(0<=g/\g<=(ac b)/\ ∀(h:Int×Int×Int×Int×Int×Int),h∈take g.toNat b->gY a.length h)/\0=g/\a=a/\b=b/\c=c/\True)/\ ∀(g:Int),(0<=g/\g<=(ac b)/\ ∀(h:Int×Int×Int×Int×Int×Int),h∈take g.toNat b->gY a.length h)->ao (decide (g<(ac b)))
 (0<=g/\g<(ac b)/\ ∀(h:Bool),h=decide ((ai b g).1<0)->(ah (! h))/\(ah (! h))/\(ah (! h))/\((! h)->(ar (! h))/\(ar (! h))/\True)/\(aE h)/\ ∀(i:Bool),(i=bif h then true else decide ((ac a)<=(ai b g).1))->(ah (! i))/\(ah (! i))/\(aE i)/\ ∀(j:Bool),(j=bif i then true else decide ((ai b g).2.1<0))->(ah (! j))/\(ah (! j))/\(ah (! j))/\((! j)->(ar (! j))/\(ar (! j))/\True)/\(aE j)/\ ∀(k:Bool),(k=bif j then true else decide ((ac a)<=(ai b g).2.1))->(ah (! k))/\(ah (! k))/\((! k)->(ar (! k))/\(ar (! k))/\True)/\(aE k)/\ ∀(l:Bool),(l=bif k then true else decide ((ai b g).1=(ai b g).2.1))->(ah (! l))/\(ah (! l))/\(aE l)/\ ∀(m:Bool),(m=bif l then true else decide ((ai b g).2.2.1<1))->(ah (! m))/\(ah (! m))/\(aE m)/\ ∀(n:Bool),(n=bif m then true else decide (1073741824<(ai b g).2.2.1))->(ah (! n))/\(ah (! n))/\(aE n)/\ ∀(o:Bool),(o=bif n then true else decide
 ((ai b g).2.2.2.1<0))->(ah (! o))/\(ah (! o))/\(aE o)/\ ∀(p:Bool),(p=bif o then true else decide (1073741824<(ai b g).2.2.2.1))->(ah (! p))/\(ah (! p))/\(aE p)/\ ∀(q:Bool),(q=bif p then true else decide ((ai b g).2.2.2.2.1<0))->(ah (! q))/\(ah (! q))/\(aE q)/\ao (bif q then true else decide (65536<(ai b g).2.2.2.2.1)) (11=eh (a,b,c)) (∃(r:Int),(0<=r/\r<=(ac b)/\ ∀(s:Int×Int×Int×Int×Int×Int),s∈take r.toNat b->gY a.length s)/\toNat ((ac b) -r)<toNat ((ac b) -g)/\aj (g+1)=r/\a=a/\b=b/\c=c/\True)) ((∃(h:Int),(0<=h/\h<=(ac a)/\first (lp (a,b,c)) h.toNat=0)/\0=h/\a=a/\b=b/\c=c/\True)/\ ∀(h:Int),0<=h/\h<=(ac a)/\first (lp (a,b,c)) h.toNat=0->ao (decide (h<(ac a))) (0<=h/\h<(ac a)/\ao (! decide (d8 (ai a h)=0)) (d8 (ai a h)=eh (a,b,c)) ((∃(i:Int),(0<=i/\i<=(AA a h)/\ ∀(j:Int),j∈take i.toNat (bo (ai a h))->mQ (a,b,c)
 h.toNat j=false)/\h=h/\0=i/\a=a/\b=b/\c=c/\True)/\ ∀(i:Int),(0<=i/\i<=(AA a h)/\ ∀(j:Int),j∈take i.toNat (bo (ai a h))->mQ (a,b,c) h.toNat j=false)->0<=h/\h<(ac a)/\ao (decide (i<((length (ai a h).1):Int))) (0<=h/\h<(ac a)/\0<=i/\i<((length (ai a h).1):Int)/\ ∀(j:Bool),j=decide ((ac b)<=(wF a h i).2)->(ah (! j))/\((! j)->(ar (! j))/\(ar (! j))/\0<=(wF a h i).2/\(wF a h i).2<(ac b)/\True)/\(ah (! j))/\(ah (! j))/\((! j)->(ar (! j))/\(ar (! j))/\True)/\(ah (! j))/\ ∀(k:Bool),k= ! decide ((b.getD (toNat (wF a h i).2) default).1=h)->(ah (! j&&k))/\((! j&&k)->(ar (! j&&k))/\(ar (! j&&k))/\0<=(wF a h i).2/\(wF a h i).2<(ac b)/\True)/\(ah (! j&&k))/\(ah (! j&&k))/\((! j&&k)->(ar (! j&&k))/\(ar (! j&&k))/\True)/\((! j)->(ar (! j))/\(k->(! j&&k))/\True)/\(aE j)/\ao (bif j then true else bif k then ! decide ((b.getD (toNat
 (wF a h i).2) default).2.1=h) else false) (11=eh (a,b,c)) (∃(l:Int),(0<=l/\l<=(AA a h)/\ ∀(m:Int),m∈take l.toNat (bo (ai a h))->mQ (a,b,c) h.toNat m=false)/\toNat ((AA a h) -l)<toNat ((AA a h) -i)/\h=h/\aj (i+1)=l/\a=a/\b=b/\c=c/\True)) (∃(j:Int),(0<=j/\j<=(ac a)/\first (lp (a,b,c)) j.toNat=0)/\toNat ((ac a) -j)<toNat ((ac a) -h)/\aj (h+1)=j/\a=a/\b=b/\c=c/\True))) ((∃(i:Int),(0<=i/\i<=(ac b)/\ ∀(j:Nat),(↑j:Int)<i->m4 (a,b,c) j=false)/\0=i/\a=a/\b=b/\c=c/\True)/\ ∀(i:Int),(0<=i/\i<=(ac b)/\ ∀(j:Nat),(↑j:Int)<i->m4 (a,b,c) j=false)->ao (decide (i<(ac b))) (0<=i/\i<(ac b)/\0<=(ai b i).1/\(ai b i).1<(ac a)/\ ∀(j:Bool),j=decide (cu (a.getD (toNat (ai b i).1) default) i<0)->(ah (! j))/\(ah (! j))/\((! j)->(ar (! j))/\(ar (! j))/\0<=i/\i<(ac b)/\True)/\(ah (! j))/\(ah (! j))/\((! j)->(ar (! j))/\(ar (! j))/\0<=(ai
 b i).2.1/\(ai b i).2.1<(ac a)/\True)/\(ah (! j))/\((! j)->(ar (! j))/\(ar (! j))/\True)/\(ah (! j))/\(aE j)/\ao (bif j then true else decide (cu (a.getD (toNat (ai b i).2.1) default) i<0)) (11=eh (a,b,c)) (∃(k:Int),(0<=k/\k<=(ac b)/\ ∀(l:Nat),(↑l:Int)<k->m4 (a,b,c) l=false)/\toNat ((ac b) -k)<toNat ((ac b) -i)/\aj (i+1)=k/\a=a/\b=b/\c=c/\True)) ((∃(j:Int),(Gg a j)/\0=j/\a=a/\b=b/\c=c/\True)/\ ∀(j:Int),(Gg a j)->ao (decide (j<(ac a))) (0<=j/\j<(ac a)/\length (ay (ai a j))<=(100000:Nat)/\(∃(k:Int),(0<=k/\k<=j/\ ∀(l:Nat),(↑l:Int)<k-> ∀(m:Int),m∈cG (ai a j)->dC (a.getD l default) m=false)/\j=j/\0=k/\a=a/\b=b/\c=c/\cG (ai a j)=cG (ai a j)/\True)/\ ∀(k:Int),(0<=k/\k<=j/\ ∀(l:Nat),(↑l:Int)<k-> ∀(m:Int),m∈cG (ai a j)->dC (a.getD l default) m=false)->ao (decide (k<j)) ((∃(l:Int),(0<=l/\l<=(vC a j)/\ ∀(m:Int),m∈take
 l.toNat (cG (ai a j))->dC (ai a k) m=false)/\j=j/\k=k/\0=l/\a=a/\b=b/\c=c/\cG (ai a j)=cG (ai a j)/\True)/\ ∀(l:Int),(0<=l/\l<=(vC a j)/\ ∀(m:Int),m∈take l.toNat (cG (ai a j))->dC (ai a k) m=false)->ao (decide (l<(vC a j))) (0<=k/\k<(ac a)/\0<=l/\l<(vC a j)/\ao (dC (ai a k) (getD (cG (ai a j)) l.toNat default)) (10=eh (a,b,c)) (∃(m:Int),(0<=m/\m<=(vC a j)/\ ∀(n:Int),n∈take m.toNat (cG (ai a j))->dC (ai a k) n=false)/\toNat ((vC a j) -m)<toNat ((vC a j) -l)/\j=j/\k=k/\aj (l+1)=m/\a=a/\b=b/\c=c/\cG (ai a j)=cG (ai a j)/\True)) (∃(m:Int),(0<=m/\m<=j/\ ∀(n:Nat),(↑n:Int)<m-> ∀(o:Int),o∈cG (ai a j)->dC (a.getD n default) o=false)/\toNat (j -m)<toNat (j -k)/\j=j/\aj (k+1)=m/\a=a/\b=b/\c=c/\cG (ai a j)=cG (ai a j)/\True)) (∃(l:Int),(0<=l/\l<=(ac a)/\ ∀(m:Nat),(↑m:Int)<l-> ∀(n:Nat),n<m->
 ∀(o:Int),o∈cG (a.getD m default)->dC (a.getD n default) o=false)/\toNat ((ac a) -l)<toNat ((ac a) -j)/\aj (j+1)=l/\a=a/\b=b/\c=c/\True)) ((∃(k:Int),(0<=k/\k<=(ac b)/\ ∀(l:Int×Int×Int×Int×Int×Int),l∈take k.toNat b->iS a l=false)/\0=k/\a=a/\b=b/\c=c/\True)/\ ∀(k:Int),(0<=k/\k<=(ac b)/\ ∀(l:Int×Int×Int×Int×Int×Int),l∈take k.toNat b->iS a l=false)->ao (decide (k<(ac b))) (0<=k/\k<(ac b)/\0<=(ai b k).1/\(ai b k).1<(ac a)/\ ∀(l:Bool),l=(a.getD (toNat (ai b k).1) default).2.2.2.2.2.2.2.2.2.2.2.2.1->(ah l)/\(ah l)/\(l->(ar l)/\(ar l)/\0<=k/\k<(ac b)/\True)/\(ah l)/\(ah l)/\(l->(ar l)/\(ar l)/\0<=(ai b k).2.1/\(ai b k).2.1<(ac a)/\True)/\(ah l)/\(ah l)/\(ar l)/\ao (bif l then (a.getD (toNat (ai b k).2.1) default).2.2.2.2.2.2.2.2.2.2.2.2.1 else false) (13=eh (a,b,c)) (∃(m:Int),(0<=m/\m<=(ac b)/\
 ∀(n:Int×Int×Int×Int×Int×Int),n∈take m.toNat b->iS a n=false)/\toNat ((ac b) -m)<toNat ((ac b) -k)/\aj (k+1)=m/\a=a/\b=b/\c=c/\True)) (lz (a,b,c)=0/\a.length<=(64:Nat)/\(∀(l:aV),l∈c->((length (dO l).2.1):Int)<=1099511627776)/\lN (a,b,c)=eh (a,b,c))))))):=by
  delta wF vC Gg AA ah ar aE aj ai ac;rintro ns ls hs ⟨⟨⟨hnl,-⟩,⟨hl,-⟩,⟨hhl,-⟩⟩,-⟩ hx;simp only[maxLen] at hl hnl hhl;intro b1 hb1
  (repeat refine⟨λh_=>(by first|(simp;done)|(simp[h_];done)|(simp_all;done)),?_⟩);intro b2 hb2
  (repeat refine⟨λh_=>(by first|(simp;done)|(simp[h_];done)|(simp_all;done)),?_⟩);intro b3 hb3
  (repeat refine⟨λh_=>(by first|(simp;done)|(simp[h_];done)|(simp_all;done)),?_⟩);rw[hb3,hb2,hb1,kV,kV,kV];refine aw (λh=>?_) (λh=>?_)
  .have h:=aI h;have e:nP (ns,ls,hs)=5:=by unfold nP;rw[am (by dsimp only;omega)]
   unfold eh;rw[e];rfl
  have h:=aL h;have e1:nP (ns,ls,hs)=0:=by unfold nP;rw[af (by dsimp only;omega)]
  have eC:eh (ns,ls,hs)=mD (mo (ns,ls,hs)) (mD (lz (ns,ls,hs)) (mD (nI (ns,ls,hs)) (mD (ot (ns,ls,hs)) (mD (n9 (ns,ls,hs)) (lN (ns,ls,hs)))))):=by unfold eh;rw[rf e1]
  rw[eC];clear eC e1 hb1 hb2 hb3;refine⟨⟨0,⟨ab,ab,aA⟩,aP⟩,?_⟩;rintro i ⟨i0,i1,hI⟩;refine aw (λhi=>?_) (λhi=>?_)
  .have hi:=aI hi;have hm:=bR i0 hi;have eO:=λh=>nN i0 hi hI (P:=gY ns.length) h;refine⟨i0,hi,?_⟩;generalize ls.getD i.toNat default=l at hm eO ⊢;intro c1 hc1
   (repeat refine⟨λh_=>(by first|(simp;done)|(simp[h_];done)|(simp_all;done)),?_⟩);intro c2 hc2
   (repeat refine⟨λh_=>(by first|(simp;done)|(simp[h_];done)|(simp_all;done)),?_⟩);intro c3 hc3
   (repeat refine⟨λh_=>(by first|(simp;done)|(simp[h_];done)|(simp_all;done)),?_⟩);intro c4 hc4
   (repeat refine⟨λh_=>(by first|(simp;done)|(simp[h_];done)|(simp_all;done)),?_⟩);intro c5 hc5
   (repeat refine⟨λh_=>(by first|(simp;done)|(simp[h_];done)|(simp_all;done)),?_⟩);intro c6 hc6
   (repeat refine⟨λh_=>(by first|(simp;done)|(simp[h_];done)|(simp_all;done)),?_⟩);intro c7 hc7
   (repeat refine⟨λh_=>(by first|(simp;done)|(simp[h_];done)|(simp_all;done)),?_⟩);intro c8 hc8
   (repeat refine⟨λh_=>(by first|(simp;done)|(simp[h_];done)|(simp_all;done)),?_⟩);intro c9 hc9
   (repeat refine⟨λh_=>(by first|(simp;done)|(simp[h_];done)|(simp_all;done)),?_⟩);intro c10 hc10
   (repeat refine⟨λh_=>(by first|(simp;done)|(simp[h_];done)|(simp_all;done)),?_⟩);rw[hc10,hc9,hc8,hc7,hc6,hc5,hc4,hc3,hc2,hc1,kV,kV,kV,kV,kV,kV,kV,kV,kV,kV];refine bT (λh=>?_) (λh=>?_)
   .have e:mo (ns,ls,hs)=11:=by
     unfold mo;rw[af];intro k;have k:gY ns.length l:=aI (List.all_eq_true.1 k l hm);unfold gY lA lB gQ fO oF at k;omega
    rw[e];rfl
   .exact⟨i+1,⟨ab,ab,eO (by unfold gY lA lB gQ fO oF;omega)⟩,ab,aP⟩
  have hi:=aL hi;rw[fe ab] at hI;have e2:mo (ns,ls,hs)=0:=by
   unfold mo;rw[am];exact List.all_eq_true.2 λl hl=>cM (hI l hl)
  rw[rf e2];have he:=GF e2;clear hI hi;refine⟨⟨0,⟨ab,ab,rfl⟩,aP⟩,?_⟩;rintro i ⟨i0,i1,hf⟩;refine aw (λhi=>?_) (λhi=>?_)
  .have hi:=aI hi;have ei:((i.toNat:Nat):Int)=i:=ab;have hit:=λh=>Bl (f:=lp (ns,ls,hs)) (n:=ns.length) i0 hi hf h;have bad:∀{v R:Int},v≠0->lp (ns,ls,hs) i.toNat=v->v=mD (lz (ns,ls,hs)) R:=λhv e=>by
    have k:=hit (by rw[e];exact hv);rw[e] at k;rw[show lz (ns,ls,hs)=_ from k.symm];exact w8 hv
   refine⟨i0,hi,aw (λh=>?_) (λh=>?_)⟩
   .have h:=gH h;exact bad h (am h)
   have h:=iP h;have nv:=Ih h;have k0:=Ow nv.bad;have hlen:(bo (ns.getD i.toNat default)).length=(ay (ns.getD i.toNat default)).length:=by simp[bo]
   have n32:=nv.len;refine⟨⟨0,⟨ab,ab,aA⟩,aP⟩,?_⟩;rintro j ⟨j0,j1,hj⟩;refine⟨i0,hi,aw (λhk=>?_) (λhk=>?_)⟩
   rotate_left
   .have hk:=aL hk;have hk:¬ j<((ay (ns.getD i.toNat default)).length:Int):=hk;rw[fe ab] at hj;refine⟨i+1,⟨ab,ab,xz i0 hf ?_⟩,ab,aP⟩;unfold lp;rw[af (λq=>q h),af];intro q;obtain⟨k,hk,q⟩:=List.any_eq_true.1 q;rw[hj k hk] at q;cases q
   have hk:=aI hk;have hk2:j<((bo (ns.getD i.toNat default)).length:Int):=by
    have:j<((ay (ns.getD i.toNat default)).length:Int):=hk;omega
   have hm:=bR j0 hk2;have eO:=λh=>nN j0 hk2 hj h (P:=λk=>mQ (ns,ls,hs) i.toNat k=false);have kk:=k0 _ hm;have eg:((ns.getD i.toNat default).1.getD j.toNat default).2=(bo (ns.getD i.toNat default)).getD j.toNat default:=(Vg ab).symm;refine⟨i0,hi,j0,hk,?_⟩;rw[eg];generalize (bo (ns.getD i.toNat default)).getD j.toNat default=k at hm eO kk ⊢;intro b hb
   (repeat refine⟨λh_=>(by first|exact⟨λ_=>h_,λ_=>h_,kk,by rw[hb] at h_;have:=gH h_;omega,bv⟩|((repeat refine⟨λ_=>h_,?_⟩);exact⟨i0,hi,bv⟩)|((repeat refine⟨λ_=>h_,?_⟩);exact⟨j0,hk,bv⟩)|(simp;done)|(simp[h_];done)|(simp_all;done)),?_⟩);intro b2 hb2
   (repeat refine⟨λh_=>(by first|exact⟨λ_=>h_,λ_=>h_,kk,by rw[hb] at h_;have:=gH (Bool.and_eq_true_iff.1 h_).1;omega,bv⟩|((repeat refine⟨λ_=>h_,?_⟩);exact⟨i0,hi,bv⟩)|((repeat refine⟨λ_=>h_,?_⟩);exact⟨j0,hk,bv⟩)|(simp;done)|(simp[h_];done)|(simp_all;done)),?_⟩);have tot:(bif b then true else bif b2 then !decide ((ls.getD k.toNat default).2.1=i) else false)=mQ (ns,ls,hs) i.toNat k:=by
    rw[hb,hb2];unfold mQ lA lB;rw[ei];cases decide ((ls.length:Int)<=k) <;> cases decide ((ls.getD k.toNat default).1=i) <;> cases decide ((ls.getD k.toNat default).2.1=i) <;> rfl
   rw[tot];refine aw (λht=>?_) (λht=>?_)
   .refine bad bt ?_;unfold lp;rw[af (λq=>q h),am (List.any_eq_true.2 ⟨_,hm,ht⟩)]
   .exact⟨j+1,⟨ab,ab,eO ht⟩,ab,aP⟩
  have hi:=aL hi;rw[show i.toNat=ns.length by omega] at hf;have e3:lz (ns,ls,hs)=0:=hf;rw[rf e3];clear hf hi;have hp:∀ x∈ns,(ay x).length<=100000:=λx hx=>rm (No e3 x hx).len bt;refine⟨⟨0,⟨ab,ab,λk hk=>ab⟩,aP⟩,?_⟩;rintro i ⟨i0,i1,hI⟩;refine aw (λhi=>?_) (λhi=>?_)
  .have hi:=aI hi;have hm:=bR i0 hi;have e:=he _ hm;have ei:((i.toNat:Nat):Int)=i:=ab;refine⟨i0,hi,e.1,e.2.1,?_⟩;intro b hb
   (repeat refine⟨λh_=>(by first|((repeat refine⟨λ_=>h_,?_⟩);first|exact⟨i0,hi,bv⟩|exact⟨e.2.2.1,e.2.2.2,bv⟩)|(simp;done)|(simp[h_];done)|(simp_all;done)),?_⟩);refine rX (λho=>?_) (λx1 x2=>?_)
   .have e4:nI (ns,ls,hs)=11:=by
     unfold nI;rw[am];refine List.any_eq_true.2 ⟨i.toNat,List.mem_range.2 (show i.toNat<ls.length by omega),?_⟩;unfold m4;rw[px,ei];rcases ho with h|h
     .exact .inl (hb.symm.trans h)
     .exact .inr h
    rw[e4];rfl
   .refine⟨i+1,⟨ab,ab,λk hk=>?_⟩,ab,aP⟩;by_cases e2:(k:Int)<i
    .exact hI k e2
    .have:k=i.toNat:=ab;subst this;unfold m4;rw[Bool.or_eq_false_iff,ei];exact⟨hb.symm.trans x1,x2⟩
  have hi:=aL hi;have e4:nI (ns,ls,hs)=0:=by
   unfold nI;rw[af];intro h;obtain⟨k,h1,h2⟩:=List.any_eq_true.1 h;have h1:k<ls.length:=List.mem_range.1 h1;rw[hI k ab] at h2;cases h2
  rw[rf e4];clear hI hi;refine⟨⟨0,⟨ab,ab,λu hu=>ab⟩,aP⟩,?_⟩;rintro i ⟨i0,i1,hI⟩;refine aw (λhi=>?_) (λhi=>?_)
  .have hi:=aI hi;have ei:((i.toNat:Nat):Int)=i:=ab;have hpx:=hp _ (bR i0 hi);have al:(cG (ns.getD i.toNat default)).length<=100001:=by
    unfold cG mg;rw[cA,mq];split
    .rw[List.length_nil];omega
    .rw[gc];omega
   refine⟨i0,hi,hpx,⟨0,⟨ab,ab,λz hz=>ab⟩,aP⟩,?_⟩;rintro k ⟨k0,k1,hK⟩;refine aw (λhk=>?_) (λhk=>?_)
   rotate_left
   .have hk:=aL hk;refine⟨i+1,⟨ab,ab,λu hu z hz a ha=>?_⟩,ab,aP⟩;by_cases q:(u:Int)<i
    .exact hI u q z hz a ha
    .have:u=i.toNat:=ab;subst this;exact hK z ab a ha
   have hk:=aI hk;refine⟨⟨0,⟨ab,ab,aA⟩,aP⟩,?_⟩;rintro x ⟨x0,x1,hX⟩;refine aw (λhx1=>?_) (λhx1=>?_)
   rotate_left
   .have hx1:=aL hx1;rw[fe ab] at hX;refine⟨k+1,⟨ab,ab,λz hz a ha=>?_⟩,ab,aP⟩;by_cases q:(z:Int)<k
    .exact hK z q a ha
    .have:z=k.toNat:=ab;subst this;exact hX a ha
   have hx1:=aI hx1;have hm:=bR x0 hx1;have nx:=λh=>nN x0 hx1 hX h (P:=λa=>dC (ns.getD k.toNat default) a=false);refine⟨k0,ab,x0,hx1,aw (λq=>?_) (λq=>?_)⟩
   .have e5:ot (ns,ls,hs)=10:=by
     unfold ot;rw[am];exact List.any_eq_true.2 ⟨i.toNat,List.mem_range.2 (show i.toNat<ns.length by omega),List.any_eq_true.2 ⟨_,hm,(Kq ns _ i.toNat).2 ⟨k.toNat,ab,Ml.1 q⟩⟩⟩
    rw[e5];rfl
   .exact⟨x+1,⟨ab,ab,nx q⟩,ab,aP⟩
  have hi:=aL hi;have e5:ot (ns,ls,hs)=0:=by
   unfold ot;rw[af];intro h;obtain⟨u,hu,h2⟩:=List.any_eq_true.1 h;obtain⟨a,ha,h3⟩:=List.any_eq_true.1 h2;have hu:u<ns.length:=List.mem_range.1 hu;obtain⟨j,hj,h4⟩:=(Kq ns a u).1 h3;have:=hI u ab j hj a ha;rw[Ml.2 h4] at this;cases this
  rw[rf e5];clear hI hi;refine⟨⟨0,⟨ab,ab,aA⟩,aP⟩,?_⟩;rintro i ⟨i0,i1,hI⟩;refine aw (λhi=>?_) (λhi=>?_)
  .have hi:=aI hi;have hm:=bR i0 hi;have e:=he _ hm;refine⟨i0,hi,e.1,e.2.1,?_⟩;intro b hb
   (repeat refine⟨λh_=>(by first|((repeat refine⟨λ_=>h_,?_⟩);first|exact⟨i0,hi,bv⟩|exact⟨e.2.2.1,e.2.2.2,bv⟩)|(simp;done)|(simp[h_];done)|(simp_all;done)),?_⟩);refine u5 (λx1 x2=>?_) (λhno=>?_)
   .have e6:n9 (ns,ls,hs)=13:=by
     unfold n9;rw[am];refine List.any_eq_true.2 ⟨_,hm,?_⟩;unfold iS;rw[dM];exact⟨hb.symm.trans x1,x2⟩
    rw[e6];rfl
   .refine⟨i+1,⟨ab,ab,nN i0 hi hI ?_⟩,ab,aP⟩;unfold iS;rw[Bool.and_eq_false_iff];rcases hno with h|h
    .exact .inl (hb.symm.trans h)
    .exact .inr h
  have hi:=aL hi;rw[fe ab] at hI;have e6:n9 (ns,ls,hs)=0:=by
   unfold n9;rw[af];intro h;obtain⟨l,h1,h2⟩:=List.any_eq_true.1 h;rw[hI l h1] at h2;cases h2
  rw[rf e6];exact⟨e3,ab,hx,rfl⟩
theorem Ux:aB 7 Ng.spec:=aF Tryz.func7 (av (av (av (av (av aC aI3) aJ4) av2) ac1) ad4) aE3 ae6
set_option maxHeartbeats 2000000
instance:DecidableEq Rt:=inferInstanceAs (DecidableEq ((Int×Int)×ae×Int))
instance:DecidableEq ct:=inferInstanceAs (DecidableEq (List Rt×Int×ae×(Int×Int)×Int))
def RU:Ct:=⟨[.val (.sl pX),.val (.sl pX)],[.val .bool],λ_=>[],λd=>((decide (d.1=d.2.1),()),())⟩
def Yg:bw RU.ps->ce:=(λd=>{loops:=(bp 4 (λS=>{ι:=Int,μ:=λi=>(d.1.length-i).toNat,inv:=λi=>0<=i/\i<=d.1.length/\d.1.length=d.2.1.length/\d.1.take i.toNat=d.2.1.take i.toNat,keep:=[0,1],slots:=λi=>[(5,.int .i64 i)]}) cC)})
theorem TM :
 ∀(a b:List (Int×Int×Int×Int×Int)),(a.length<=maxLen/\ ∀(c:Int×Int×Int×Int×Int),c∈a->aq c.1/\aq c.2.1/\aq c.2.2.1/\aq c.2.2.2.1/\aq c.2.2.2.2)/\(b.length<=maxLen/\ ∀(c:Int×Int×Int×Int×Int),c∈b->aq c.1/\aq c.2.1/\aq c.2.2.1/\aq c.2.2.2.1/\aq c.2.2.2.2)/\True->True->ao (! decide ((ac a)=(ac b))) (false=decide (a=b)) ((∃(c:Int),(0<=c/\c<=(ac a)/\a.length=b.length/\take c.toNat a=take c.toNat b)/\a=a/\b=b/\0=c/\True)/\ ∀(c:Int),0<=c/\c<=(ac a)/\a.length=b.length/\take c.toNat a=take c.toNat b->ao (decide (c<(ac a))) (0<=c/\c<(ac a)/\0<=c/\c<(ac b)/\ao (! (decide ((ai a c).1=(ai b c).1)&&(decide ((ai a c).2.1=(ai b c).2.1)&&(decide ((ai a c).2.2.1=(ai b c).2.2.1)&&(decide ((ai a c).2.2.2.1=(ai b c).2.2.2.1)&&(decide ((ai a c).2.2.2.2=(ai b c).2.2.2.2)&&true)))))) (false=decide (a=b)) (∃(d:Int),(0<=d/\d<=(ac a)/\a.length=b.length/\take
 d.toNat a=take d.toNat b)/\toNat ((ac a) -d)<toNat ((ac a) -c)/\a=a/\b=b/\aj (c+1)=d/\True)) (true=decide (a=b))):=by
  delta aj ai ac;rintro x y ⟨⟨hl,-⟩,-⟩ -;simp only[maxLen] at hl;refine aw (λh=>?_) (λh=>?_)
  .have h:=gH h;exact (dP (λe=>h (by rw[e]))).symm
  have h:=iP h;refine⟨⟨0,⟨ab,ab,ab,rfl⟩,aP⟩,?_⟩;rintro j ⟨j0,j1,j2,j3⟩;refine bT (λhj=>?_) (λhj=>?_)
  .refine⟨j0,hj,j0,ab,aw (λk=>?_) (λk=>?_)⟩
   .refine (dP (λe=>?_)).symm;rw[e] at k;simp at k
   .simp only[vK,dM,mh,iu] at k;obtain⟨k1,k2,k3,k4,k5⟩:=k;have ee:x.getD j.toNat default=y.getD j.toNat default:=Prod.ext k1 (Prod.ext k2 (Prod.ext k3 (Prod.ext k4 k5)));exact⟨j+1,⟨ab,ab,j2,by rw[vx j0 hj,vx j0 ab,j3,ee]⟩,ab,aP⟩
  .rw[fe ab,fe ab] at j3;exact (cM j3).symm
theorem YB:aB 18 RU.spec:=aF Tryz.func18 aC Yg TM
def Vm(k:Int)(x:au):Prop:=(x.1.length:Int)<=k/\(aU x).length<=k∧∀ r∈aU x,(r.2.1.length:Int)<=k
def L7(k:Int)(n:aQ):Prop:=(n.1.length:Int)<=k/\(n.2.1.length:Int)<=k/\(n.2.2.length:Int)<=k/\(∀ x∈n.1,Vm k x)∧∀ c∈n.2.2,(c.2.2.2.2.1.length:Int)<=k
theorem DN.nb{n:aQ}(h:DN n):L7 1000 n:=by
 have n7:=h.n7
 have l10:=h.l10
 have h3:=h.h3
 refine⟨by omega,by omega,by omega,λx hx=>?_,λc hc=>?_⟩
 .obtain⟨i,hi,rfl⟩:=List.mem_iff_getElem.1 hx;have e:n.1.getD i default=n.1[i]:=by rw[bJ,cK hi,f9]
  have p:=h.p i hi;have t:=h.t i hi;rw[e] at p t;have hl:=BE i 0 n.2.1;rw[← p] at hl;have hl:(n.1[i]).1.length<=2*n.2.1.length:=hl;have h20:=H7 t;exact⟨by omega,by omega,λr hr=>by have:=Fl (t.2 r hr);omega⟩
 .rcases (h.c c hc).x with k|⟨q,-,k⟩
  .have k:c.2.2.2.2.1=[]:=k;rw[k];simp
  .have k:c.2.2.2.2.1=[q.2]:=k;rw[k];simp
end Go.RS
