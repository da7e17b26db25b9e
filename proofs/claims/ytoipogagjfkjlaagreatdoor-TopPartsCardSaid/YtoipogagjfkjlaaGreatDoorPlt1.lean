/- SX, part 29: slices.Insert of one element into a slice that owns its row: its contract, off what its code does with values. -/
import Derived.Test.YtoipogagjfkjlaaGreatDoorSx25
import Derived.Lib.AppendZerosOnto
import Derived.Lib.Overlaps
import Derived.Laws.Externs
import Derived.Test.YtoipogagjfkjlaaGreatDoorSim1
import Derived.Lib.Walk
import Derived.Lib.SliceRun
import Derived.Shelf.RegionOpenPlain
import Derived.Test.YtoipogagjfkjlaaGreatDoorNetg
import Derived.Test.YtoipogagjfkjlaaGreatDoorNodek
set_option maxRecDepth 100000
set_option linter.unusedVariables false
open Int (toNat)
open List (length take set replicate range drop)
namespace Go.SX
def nj(cur:Array Value)(o:Nat)(cs:List Value):Array Value:=(cur.toList.take o++cs++cur.toList.drop (o+cs.length)).toArray
theorem Ci{cur:Array Value}{o:Nat}{cs:List Value}(h:o+cs.length<=cur.size):(nj cur o cs).size=cur.size:=by
 simp only[nj,rT,cL,dG,ib,fQ];omega
theorem wx{cur:Array Value}{o:Nat}{cs:List Value}(h:o+cs.length<=cur.size)(j:Nat) :
  (nj cur o cs)[j]? = if j<o then cur[j]? else if j<o+cs.length then cs[j-o]? else cur[j]? := by
 unfold nj
 rw[List.getElem?_toArray]
 have hl:(cur.toList.take o).length=o:=by rw[dG,fQ];omega
 grind
def jB(cur:Array Value)(o n:Nat):List Value:=(cur.toList.drop o).take n
theorem CX{cur:Array Value}{o n:Nat}(h:o+n<=cur.size):(jB cur o n).length=n:=by
 unfold jB;rw[dG,ib,fQ];omega
theorem AQ{cur:Array Value}{o n j:Nat}(h:j<n):(jB cur o n)[j]? = cur[o+j]? := by
 unfold jB;rw[vw,aj h,wH,mr]
def xX(cur:Array Value)(off n i z:Nat)(vs:List Value):Array Value:=nj (nj cur (off+(i+1)*z) (jB cur (off+i*z) ((n-i)*z))) (off+i*z) vs
def wm(cur:Array Value)(off n i z G:Nat)(zr:Array Value):Array Value:=(jB cur off (i*z)).toArray++Builtin.zeroCells zr (n+1-i)++Builtin.zeroCells zr (G-(n+1))
def wy(cur:Array Value)(off n i z G:Nat)(zr:Array Value)(vs:List Value):Array Value:=nj (nj (wm cur off n i z G zr) (i*z) vs) ((i+1)*z) (jB cur (off+i*z) ((n-i)*z))
structure Vk (P:Program) (F:FuncId) (tS E:TypeId) (z bs:Nat) (zr:Array Value) (ty:TypeId):Prop where
 last:∀(w w':World)(p q:Option Addr)(n c vc:Nat)(v:Value),n<=c->c<=maxLen->(Builtin.append_ #[tS,tS] ty #[.slice p n c,.slice q 1 vc]).run P w = .ok v w' →
  Calls P F #[.slice p n c,.int .i64 n,.slice q 1 vc] w λe w2=>e = .returned v/\w2=w'
 shift:∀(w:World)(b off n c i vb voff vc:Nat)(cur vcur:Array Value)(E':TypeId)(vs:List Value),i<n->n+1<=c->c<=maxLen->vb≠b->w.heap[b]? = some (.cells cur E (0,0))->off+c*z<=cur.size →
  w.heap[vb]? = some (.cells vcur E' (0,0))->vs.length=z->(∀ j v,vs[j]? = some v->w.cell? ⟨vb,voff+j,none⟩=some v)->(∀ v∈vs,v.oneCell'=true)->(∀ v∈jB cur (off+i*z) ((n-i)*z),v.oneCell'=true) →
  Calls P F #[.slice (some ⟨b,off,none⟩) n c,.int .i64 i,.slice (some ⟨vb,voff,none⟩) 1 vc] w λe w'=>e = .returned (.slice (some ⟨b,off,none⟩) (n+1) c)/\w'=w.drew.setRow b (xX cur off n i z vs)
 grow:∀(w:World)(b off n i vb voff vc:Nat)(cur vcur:Array Value)(E':TypeId)(vs:List Value),i<n->n+1<=maxLen->(n+1)*bs<=140737488355328->w.heap[b]? = some (.cells cur E (0,0))->off+n*z<=cur.size →
  w.heap[vb]? = some (.cells vcur E' (0,0))->vs.length=z->(∀ j v,vs[j]? = some v->w.cell? ⟨vb,voff+j,none⟩=some v)->(∀ v∈vs,v.oneCell'=true)->(∀ v∈jB cur off (n*z),v.oneCell'=true) →
  Calls P F #[.slice (some ⟨b,off,none⟩) n n,.int .i64 i,.slice (some ⟨vb,voff,none⟩) 1 vc] w λe w'=>e = .returned (.slice (some ⟨w.heap.size,0,none⟩) (n+1) (grownCap w (n+1) n E)) ∧
   ∃ w1:World,da w.drew w1 (λ_=>False)/\w1.heap.size=w.heap.size+1/\w1.heap[w.heap.size]? = some (.cells (wm cur off n i z (grownCap w (n+1) n E) zr) E (0,0))/\w'=w1.setRow w.heap.size (wy cur off n i z (grownCap w (n+1) n E) zr vs)
def Iq(u:CT)(E:TypeId)(bs:Nat):Spec:=λbase svs=>match svs with
 | [.own n sz,.int .i64 i,.own q sq]=>match Nat.beq q n with
  | true => .fail
  | false => .ask n fun
   | .live (.row E' u' xs)=>match Nat.beq E' E,Nat.beq sz u.size,iK u' u xs with
    | true,true,some ys=>(xQ u (.own q sq)).bind λvs=>.ask base fun
     | .un => .ret (.det [vs.length=1,0<=i,i<=ys.length,(ys.length+1)*bs<=140737488355328] (.own base u.size) [(base,.live (.row E u (ys.take i.toNat++(vs++ys.drop i.toNat)))),(n,.dead)])
     | _ => .fail
    | _,_,_ => .fail
   | _ => .fail
 | _ => .fail
section
variable {P:Program} {w0:World} {N0:fK} {A:Nat->Prop} {env:bj} {h:bX} {w:World}
theorem bP1(m:Mod w0 N0 A env h w){t:CT}(nu:t ≠ .int .u8){n sz:Nat}{v:Value}{ys:List t.D}{r:List Nat}(e:(xQ t (.own n sz)).run h=some (ys,r))(hd:az A env w (.own n sz) v)(h1:ys.length=1) :
  ∃ k l c vcur E',env n = .blk k l/\v = .slice (some ⟨k,l.1,none⟩) 1 c/\w.heap[k]? = some (.cells vcur E' (0,0))/\(∀ n' k' l' b,n'≠n->h n' = .live b->b.mut=true->env n' = .blk k' l'→k≠k') ∧
   Rd A w t (λo=>w.cell? ⟨k,o,none⟩) l.1 (mL t ys 0):=by
 simp only[xQ,Q.run] at e
 simp only[az] at hd
 have fin:∀{b:lC}{E':TypeId}{zs:List t.D},h n = .live b->(b = .row E' t zs∨b = .frz E' t zs)->zs.length=1 →
   ∃ k l c vcur E',env n = .blk k l/\v = .slice (some ⟨k,l.1,none⟩) 1 c/\w.heap[k]? = some (.cells vcur E' (0,0))/\(∀ n' k' l' b,n'≠n->h n' = .live b->b.mut=true->env n' = .blk k' l'→k≠k') ∧
    Rd A w t (λo=>w.cell? ⟨k,o,none⟩) l.1 (mL t zs 0):=by
  intro b E' zs hl hb hz;rcases hd with⟨hnil,_⟩|⟨k,l,E2,c,hk,hsh,rfl⟩
  .have:=m.nm n;rw[hl] at this;rcases this with⟨k',l',he',_⟩|⟨_,E3,t3,hb3⟩
   .rw[hnil] at he';cases he'
   .rcases hb with rfl|rfl <;> rcases hb3 with hb3|hb3 <;> cases hb3 <;> cases hz
  .have hbd:=m.live_blk hl hk;have hrow:qG A w k l E' t zs:=by
    rcases hb with rfl|rfl
    .exact hbd.1
    .exact hbd.1.2
   have hlen:l.2=1:=by obtain⟨_,_,_,_,h3,_⟩:=hrow;omega
   have hrd:=Dv hrow (i:=0) (by omega);obtain⟨vcur,cap,hh,_⟩:=hrow;refine⟨k,l,(c-l.1)/sz,vcur,E',hk,by rw[hlen],hh.plain nu,?_,by simpa using hrd⟩;intro n' k' l' b' hne hl' hm' he' hkk;subst hkk;rcases hb with rfl|rfl
   .exact hne (m.inj n' n b' _ k l' l hl' hl hm' rfl he' hk)
   .exact (m.live_blk hl' he').2 hm' hbd.1.1
 split at e
 next p q hk=>
  simp only[cE,cC] at e;obtain⟨rfl,rfl⟩:=e;split at hk
  .rename_i E' u zs hl;split at hk
   next zs' _ hc=>simp only[Q.run,cE,cC] at hk;obtain⟨rfl,_⟩:=hk;obtain⟨et,ey⟩:=lq hc;subst et;simp only at ey;subst ey;exact fin hl (.inl rfl) h1
   .cases hk
  .rename_i E' u zs hl;split at hk
   next zs' _ hc=>simp only[Q.run,cE,cC] at hk;obtain⟨rfl,_⟩:=hk;obtain⟨et,ey⟩:=lq hc;subst et;simp only at ey;subst ey;exact fin hl (.inr rfl) h1
   .cases hk
  .cases hk
 .cases e
theorem Sl{u:CT}{xs:List u.D}{y:u.D}{i o:Nat}{row:Nat->Option Value}{cur:Nat->Option Value}{off:Nat}(hi:i<=xs.length)
  (f:∀ k (a:k<xs.length),Rd A w u cur (off+k*u.size) xs[k]) {news:Nat->Option Value} (hy:Rd A w u news 0 y)
  (h1:∀ j,j<i*u.size->row (o+j)=cur (off+j)) (h2:∀ j,j<u.size->row (o+i*u.size+j)=news j) (h3:∀ j,j<(xs.length-i)*u.size->row (o+(i+1)*u.size+j)=cur (off+i*u.size+j)) :
  ∀ k (a:k<(xs.take i++([y]++xs.drop i)).length),Rd A w u row (o+k*u.size) (xs.take i++([y]++xs.drop i))[k]:=by
 intro k a
 have hl:(xs.take i).length=i:=by rw[dG];omega
 by_cases b:k<i
 .rw[List.getElem_append_left ab];simp;have c:(k+1)*u.size<=i*u.size:=mQ _ b;rw[gY,nA] at c;refine xi (f k ab) λj d=>?_;rw[iz,h1 _ ab,iz]
 .rw[List.getElem_append_right ab];simp only[hl];by_cases e:k=i
  .subst e;simp;refine xi hy λj d=>?_;rw[h2 j d,gI]
  .obtain⟨q,rfl⟩:∃ q,k=i+1+q:=⟨k-i-1,ab⟩
   have hq:i+q<xs.length:=by simp at a;omega
   have hg:([y]++xs.drop i)[i+1+q-i]'(by simp;omega)=xs[i+q]:=by
    simp only[show i+1+q-i=q+1 from by omega,nO,uy,List.getElem_cons_succ,List.getElem_drop]
   rw[hg];have c:(q+1)*u.size<=(xs.length-i)*u.size:=mQ _ ab;rw[gY,nA] at c;refine xi (f (i+q) hq) λj d=>?_;rw[show o+(i+1+q)*u.size+j=o+(i+1)*u.size+(q*u.size+j) from by rw[gY (i+1)];omega,h3 _ ab];grind
theorem bg7(m:Mod w0 N0 A env h w){tS E ty:TypeId}{zv:Value}{z bs base n sz q sq:Nat}{u:CT}{xs ys:List u.D}{r:List Nat}{sv xv:Value}(hu:P.underlying tS=some (.slice E))(hi:(P.info? E).map (λi=>(i.zero,i.size,i.bytes))=some (some zv,z,bs))(hzr:zv.cells.size=z)(hbs:1<=bs)(hz:z=u.size)
  (hl:h n = .live (.row E u xs)) (hsz:sz=u.size) (hs:(xQ u (.own q sq)).run h=some (ys,r)) (hun:h base = .un) (hby:(xs.length+ys.length)*bs<=140737488355328)
  (ds:az A env w (.own n sz) sv) (dx:az A env w (.own q sq) xv) :
  ∃ v w',(Builtin.append_ #[tS,tS] ty #[sv,xv]).run P w = .ok v w'∧fb w0 N0 A env h w (.det [] (.own base u.size) [(base,.live (.row E u (xs++ys))),(n,.dead)]) v w':=by
 obtain⟨i0,hi0⟩:∃ i0,P.info? E=some i0:=by
  cases hh:P.info? E with
  | none=>rw[hh] at hi;cases hi
  | some i0=>exact⟨i0,rfl⟩
 rw[hi0] at hi
 simp only[Option.map_some,cE,cC] at hi
 obtain⟨hz0,hzs,hzb⟩:=hi
 subst hz hzb hsz
 have run:(Ek P tS base (.own n u.size) (.own q sq)).run h=some (.det [(xs.length+ys.length)*i0.bytes<=140737488355328] (.own base u.size) [(base,.live (.row E u (xs++ys))),(n,.dead)],n::(r++[base])):=by
  have he:uT P tS=some (E,u.size):=by unfold uT;rw[hu];simp[f8,hi0,hzs]
  unfold Ek;rw[he];simp only[hi0,Nat.ble_eq_true_of_le hbs,hz0,hzr,yr];simp only[Q.run,hl,yr];rw[Q.bind_run1 _ _ hs (b := .det [(xs.length+ys.length)*i0.bytes<=140737488355328] (.own base u.size) [(base,.live (.row E u (xs++ys))),(n,.dead)]) (r2:=[base]) (by simp only[Q.run,hun])]
 let o : Oper := { dst := none, op := .call { callee := .builtin .append, args := #[.tmp 0, .tmp 1], argTypes := #[tS, tS] }, type := ty, pos := "", after := #[], guard := none }
 let a:Act:={tmps := #[sv,xv],defers:=[]}
 have fd:FD A env w (λi=>if i=0 then .own n u.size else if i=1 then .own q sq else .junk) a:=by
  intro i;by_cases h0:i=0
  .subst h0;exact ds
  .by_cases h1:i=1
   .subst h1;exact dx
   .simp only[h0,h1,if_false,az]
 obtain⟨v,w',hr,g⟩:=UP (P:=P) (o:=o) (a:=a) (nm:=base) (s := .tmp 0) (x := .tmp 1) (t:=tS) m fd (by simp[Gg]) rfl run (by simp only[Dl.pre,bS,iC];exact hby)
 have he:(execOp a.eval o).run P w=((Builtin.append_ #[tS,tS] ty #[sv,xv]).run P w).andThen λv w'=>.ok (.value v) w':=by
  unfold execOp;simp only[o,resolve,invoke,builtin,Sem.run_bind,Sem.run_pure,Result.andThen_ok,List.map_toArray,fV,List.map_nil];rfl
 rw[he] at hr
 cases hb:(Builtin.append_ #[tS,tS] ty #[sv,xv]).run P w with
 | ok v1 w1 =>
  rw[hb] at hr;rcases hr with hr|⟨hr,_⟩
  .cases hr;exact⟨v,w',rfl,g⟩
  .cases hr
 | _=>rw[hb] at hr;rcases hr with hr|⟨hr,_⟩ <;> cases hr
theorem Vl{t:CT}{ys:List t.D}(h:ys.length=1):ys=[mL t ys 0]:=by
 match ys,h with
 | [y],_=>rfl
theorem Sq{u:CT}{cv:Nat->Option Value}{o:Nat}{xs:List u.D}(hx:∀ i (d:i<xs.length),Rd A w u cv (o+i*u.size) xs[i]){cur:Array Value}(hc:∀ j,cv j=cur[j]?){a n:Nat}(ha:a+n<=xs.length)(hs:o+(a+n)*u.size<=cur.size) :
  ∀ v∈jB cur (o+a*u.size) (n*u.size),v.oneCell'=true:=by
 obtain⟨news,hl,b,h1⟩:=Io ((xs.drop a).take n) (o+a*u.size) (λi d=>by
  simp at d;have:=hx (a+i) ab;simp;rw[iz,← gY];exact this)
 have c:((xs.drop a).take n).length=n:=by rw[dG,ib];omega
 rw[c] at hl
 intro v hv
 obtain⟨j,hj,rfl⟩:=List.mem_iff_getElem.1 hv
 have hcl:(jB cur (o+a*u.size) (n*u.size)).length=n*u.size:=CX (by rw[iz,← gY];exact hs)
 have e1:(jB cur (o+a*u.size) (n*u.size))[j]? = news[j]? := by
  rw[AQ ab,← hc,b j ab]
 grind
theorem ak2{G:sN}{F:FuncId}{tS E ty:TypeId}{zv:Value}{z bs:Nat}{u:CT}(raw:Vk P F tS E z bs zv.cells ty)(hu:P.underlying tS=some (.slice E))(hi:(P.info? E).map (λi=>(i.zero,i.size,i.bytes))=some (some zv,z,bs))
  (hzr:zv.cells.size=z) (hbs:1<=bs) (hz:z=u.size) (nu:u ≠ .int .u8:=by exact λh=>CT.noConfusion h):m9 P G F (Iq u E bs):=by
 intro base svs h d r e hp w0 N0 A env w vs hg m hd
 unfold Iq at e
 split at e
 case h_2=>cases e
 rename_i n sz i q sq
 split at e
 .cases e
 rename_i hqn
 have hqn:q≠n:=λe=>by rw[e,yr] at hqn;cases hqn
 simp only[Q.run] at e
 split at e
 case h_2=>cases e
 rename_i p0 q0 hk
 simp only[cE,cC] at e
 obtain⟨rfl,rfl⟩:=e
 split at hk
 case h_2=>cases hk
 rename_i E' u xs hl
 split at hk
 case h_2=>cases hk
 rename_i ys hE hsz hc
 have hE:E'=E:=bK hE
 have hsz:=bK hsz
 obtain⟨et,ey⟩:=lq hc
 subst et hE hsz
 simp only at ey
 subst ey
 obtain⟨vs1,q1,q2,e1,e2,rfl⟩:=Q.run_bind _ _ _ hk
 simp only[Q.run] at e2
 split at e2
 case h_2=>cases e2
 rename_i p' q' hk'
 simp only[cE,cC] at e2
 obtain⟨rfl,rfl⟩:=e2
 split at hk'
 case h_2=>cases hk'
 rename_i hun
 cases cz hk'
 simp only[Dl.pre,bS,iC] at hp
 obtain⟨hp1,hp2,hp3,hp4⟩:=hp
 simp only[aO] at hd
 obtain⟨sv,r1,rfl,ds,iv,r2,rfl,di,xv,r3,rfl,dx,rfl⟩:=hd
 have di':=di
 simp only[az] at di'
 obtain⟨rfl,hii⟩:=di'
 obtain⟨k,l,c,vcur,E2,hkq,rfl,hkc,hkne,hrd⟩:=bP1 m nu e1 dx hp1
 subst hz
 have hlen:∀{ii:Nat},ii=ys.length->ys.take ii++(vs1++ys.drop ii)=ys++vs1:=by
  rintro _ rfl;rw[List.take_length,List.drop_length,kY]
 obtain⟨ii,rfl⟩:=sC hp2
 have hii2:ii<=ys.length:=by omega
 simp only[Int.toNat_natCast]
 have hlast:∀ nn cc pp,ii=ys.length->sv = .slice pp nn cc->nn=ys.length->nn<=cc->cc<=maxLen →
   Calls P F #[sv,.int .i64 (ii:Int),.slice (some ⟨k,l.1,none⟩) 1 c] w λe w'=>∃ v,e = .returned v/\fb w0 N0 A env h w (.det [vs1.length=1,(0:Int)<=(ii:Int),(ii:Int)<=(ys.length:Int),(ys.length+1)*bs<=140737488355328] (.own base u.size) [(base,.live (.row E' u (ys.take ii++(vs1++ys.drop ii)))),(n,.dead)]) v w':=by
  rintro nn cc pp rfl rfl rfl hle hmx;obtain⟨v,w',hr,g⟩:=bg7 (ty:=ty) m hu hi hzr hbs rfl hl rfl e1 hun (by rw[hp1];exact hp4) ds dx;refine (raw.last w w' pp (some ⟨k,l.1,none⟩) ys.length cc c v hle hmx hr).mono ?_;rintro e w2 ⟨rfl,rfl⟩;refine⟨v,rfl,?_⟩;rw[hlen rfl];exact g
 have hdn:∀ n'∈[n],∃ b,h n' = .live b/\b.mut=true:=by simp[hl,lC.mut]
 have ds':=ds
 simp only[az] at ds'
 rcases ds' with⟨hnil,pa,rfl⟩|⟨b,⟨β,len⟩,E3,cc,hb,hsh,rfl⟩
 .have hx:ys=[]:=by
   have:=m.nm n;rw[hl] at this;rcases this with⟨k',l',he',_⟩|⟨_,E3,t3,hb⟩
   .rw[hnil] at he';cases he'
   .rcases hb with hb|hb <;> cases hb;rfl
  subst hx;exact hlast 0 0 pa (by simpa using hii2) rfl rfl (eT _) (by simp[maxLen])
 .obtain⟨cur,cap,hh,hcs,hxl,hlc,hcm,hrdx⟩:=(m.live_blk hl hb).1;have hh:=hh.plain nu;simp only at hcs hxl hlc hrdx;have hcc:cc=cur.size/\E3=E':=by
   unfold World.shape? at hsh;rw[hh] at hsh;simp only[cE,cC] at hsh;exact⟨hsh.2.symm,hsh.1.symm⟩
  obtain⟨rfl,rfl⟩:=hcc;have hcap:(cur.size-β)/u.size=cap:=by rw[hcs,ot];exact uw _ u.size_pos
  have hnA:=(m.live_blk hl hb).2 rfl;simp only[hcap] at hlast ⊢;rcases Nat.lt_or_ge ii ys.length with hlt|hge
  case inr=>exact hlast len cap _ (by omega) rfl hxl.symm hlc hcm
  obtain⟨news,hnl,hnc,hnd⟩:=xC (env:=env) u _ _ _ hrd;have hn1:=Fy hnd (GP _ _);have hnews:∀ j v,news[j]? = some v->w.cell? ⟨k,l.1+j,none⟩=some v:=λj v hj=>by
   rw[hnc j (by rw[← hnl];exact (List.getElem?_eq_some_iff.1 hj).1)];exact hj
  have hry:Rd A w u (λj=>news[j]?) 0 (mL u vs1 0):=xi hrd λj hj=>by rw[gI,hnc j hj]
  have hkb:k≠b:=hkne n b _ _ (Ne.symm hqn) hl rfl hb;have hlz:(len-ii)*u.size+(ii+1)*u.size=(len+1)*u.size:=by rw[← gY];congr 1;omega
  have hiz:(ii+1)*u.size=ii*u.size+u.size:=by rw[gY,nA]
  have hlcz:len*u.size<=cap*u.size:=mQ _ hlc;have hlz1:(len+1)*u.size=len*u.size+u.size:=by rw[gY,nA]
  have hnlen:(ys.take ii++(vs1++ys.drop ii)).length=len+1:=by simp;omega
  have hcutl:(jB cur (β+ii*u.size) ((len-ii)*u.size)).length=(len-ii)*u.size:=CX (by omega);by_cases hroom:len+1<=cap
  .have hroomz:(len+1)*u.size<=cap*u.size:=mQ _ hroom;refine (raw.shift w b β len cap ii k l.1 c cur vcur E2 news (by omega) hroom hcm hkb hh (by omega) hkc hnl hnews hn1 (Sq hrdx (λ_=>rfl) (by omega) (by rw[show ii+(len-ii)=len from by omega];omega))).mono ?_;rintro e w' ⟨rfl,rfl⟩;refine⟨_,rfl,?_⟩;have s1:(nj cur (β+(ii+1)*u.size) (jB cur (β+ii*u.size) ((len-ii)*u.size))).size=cur.size:=Ci (by rw[hcutl];omega);have s2:(xX cur β len ii u.size news).size=cur.size:=by unfold xX;rw[Ci (by rw[s1,hnl];omega),s1]
   have cg:da w (w.drew.setRow b (xX cur β len ii u.size news)) λj=>j=b:=(da.drew w _).trans (da.setRow w.drew b cur _ E3 (.of (q:=True) hh) s2);have g:=r6 (pre:=[vs1.length=1,(0:Int)<=(ii:Int),(ii:Int)<=(ys.length:Int),(ys.length+1)*bs<=140737488355328]) (v := .slice (some ⟨b,β,none⟩) (len+1) cap) (E:=E3) (t:=u) (zs:=ys.take ii++(vs1++ys.drop ii)) m hun [n] hdn (W:=λj=>j=b) (ev := .blk b (β,len+1)) cg
    (λk hk=>⟨n,(β,len),by simp,hk▸hb⟩) (by simp) (λk l e=>by cases e;exact .inr ⟨n,(β,len),by simp,hb⟩) (λx=>.inr ⟨b,(β,len+1),cur.size,rfl,?_,?_,?_⟩)
   .exact g
   .refine⟨_,cap,.of (setRow_heap w.drew b cur _ E3 _ hh),by rw[s2];exact hcs,hnlen,hroom,hcm,?_⟩;intro k' hk';refine iL (λ_ h=>h) x.keep u _ _ _ _ (λj _=>rfl) ?_;have hv1:=Vl hp1;have key:=Sl (A:=A) (w:=w) (u:=u) (xs:=ys) (y:=mL u vs1 0) (i:=ii) (o:=β) (off:=β) (row:=λo=>(xX cur β len ii u.size news)[o]?) (cur:=λo=>cur[o]?) hii2 hrdx hry ?_ ?_ ?_ k' (by rw[← hv1];exact hk')
    .simp only[← hv1] at key;exact key
    .intro j hj;unfold xX
     try simp only
     rw[wx (by rw[s1,hnl];omega),aj (by omega),wx (by rw[hcutl];omega),aj (by omega)]
    .intro j hj;unfold xX
     try simp only
     rw[wx (by rw[s1,hnl];omega),ah (by omega),aj (by rw[hnl];omega)];congr 1;omega
    .intro j hj;rw[hxl] at hj;unfold xX
     try simp only
     rw[wx (by rw[s1,hnl];omega),ah (by omega),ah (by rw[hnl];omega),wx (by rw[hcutl];omega),ah (by omega),aj (by rw[hcutl];omega),show β+(ii+1)*u.size+j-(β+(ii+1)*u.size)=j from by omega,AQ hj]
   .unfold World.shape?;rw[setRow_heap w.drew b cur _ E3 _ hh];simp only[s2]
   .show _=Value.slice _ _ ((cur.size-β)/u.size);rw[hcap]
  .have hcl:cap=len:=by omega
   subst hcl;have hsum:cap+1<=maxLen:=by
    have:(cap+1)*1<=(ys.length+1)*bs:=by rw[hxl];exact Nat.mul_le_mul_left _ hbs
    simp only[maxLen];omega
   refine (raw.grow w b β cap ii k l.1 c cur vcur E2 news (by omega) hsum (by rw[← hxl];exact hp4) hh (by omega) hkc hnl hnews hn1 (by
    have:=Sq hrdx (λ_=>rfl) (a:=0) (n:=cap) (cur:=cur) (by omega) (by rw[gI];omega);simpa using this)).mono ?_
   rintro e w' ⟨rfl,w1,cg1,hs1,hh1,rfl⟩;refine⟨_,rfl,?_⟩;have hge:=grownCap_ge w (cap+1) cap E3;have hcm':=grownCap_le_maxLen w (cap+1) cap E3 hsum;generalize grownCap w (cap+1) cap E3=G' at *;have hGz:(cap+1)*u.size<=G'*u.size:=mQ _ hge;have hcut0:(jB cur β (ii*u.size)).length=ii*u.size:=CX (by omega);have s0:(wm cur β cap ii u.size G' zv.cells).size=G'*u.size:=by
    unfold wm;simp only[Array.size_append,rT,hcut0,size_zeroCells,hzr,← gY];congr 1;omega
   have s1:(nj (wm cur β cap ii u.size G' zv.cells) (ii*u.size) news).size=G'*u.size:=by rw[Ci (by rw[s0,hnl];omega),s0]
   have s2:(wy cur β cap ii u.size G' zv.cells news).size=G'*u.size:=by unfold wy;rw[Ci (by rw[s1,hcutl];omega),s1]
   have cg:da w (w1.setRow w.heap.size (wy cur β cap ii u.size G' zv.cells news)) λ_=>False:=by
    have c2:=da.setRow w1 w.heap.size _ (wy cur β cap ii u.size G' zv.cells news) E3 (.of (q:=True) hh1) (by rw[s2,s0]);have c3:=(da.drew w λ_=>False).trans cg1;exact⟨c2.os.trans c3.os,c2.tape.trans c3.tape,c2.output.trans c3.output,pH c3.dr c2.dr,pH c3.size c2.size,
     λi hi hw=>(c2.blk i (Nat.lt_of_lt_of_le hi c3.size) (λe=>by omega)).trans (c3.blk i hi hw),λi s hs=>c2.shape i s (c3.shape i s hs)⟩
   have g:=r6 (pre:=[vs1.length=1,(0:Int)<=(ii:Int),(ii:Int)<=(ys.length:Int),(ys.length+1)*bs<=140737488355328]) (v := .slice (some ⟨w.heap.size,0,none⟩) (cap+1) G') (E:=E3) (t:=u) (zs:=ys.take ii++(vs1++ys.drop ii)) m hun [n] hdn (W:=λ_=>False) (ev := .blk w.heap.size (0,cap+1)) cg
    (λ_ h=>h.elim) (by simp) (λk l e=>by cases e;exact .inl (eT _)) (λx=>.inr ⟨w.heap.size,(0,cap+1),G'*u.size,rfl,?_,?_,?_⟩)
   .exact g
   .refine⟨_,G',.of (setRow_heap w1 w.heap.size _ _ E3 _ hh1),by rw[s2,gI],hnlen,hge,hcm',?_⟩;intro k' hk';refine iL (λ_ h=>h) x.keep u _ _ _ _ (λj _=>rfl) ?_;have hv1:=Vl hp1;have key:=Sl (A:=A) (w:=w) (u:=u) (xs:=ys) (y:=mL u vs1 0) (i:=ii) (o:=0) (off:=β) (row:=λo=>(wy cur β cap ii u.size G' zv.cells news)[o]?) (cur:=λo=>cur[o]?) hii2 hrdx hry ?_ ?_ ?_ k' (by rw[← hv1];exact hk')
    .simp only[← hv1] at key;exact key
    .intro j hj;unfold wy
     try simp only
     rw[wx (by rw[s1,hcutl];omega),aj (by omega),wx (by rw[s0,hnl];omega),aj (by omega)];unfold wm;rw[Array.append_assoc,Array.getElem?_append_left (by simp only[rT,hcut0];omega),List.getElem?_toArray,gI,AQ hj]
    .intro j hj;unfold wy
     try simp only
     rw[wx (by rw[s1,hcutl];omega),aj (by omega),wx (by rw[s0,hnl];omega),ah (by omega),aj (by rw[hnl];omega)];congr 1;omega
    .intro j hj;rw[hxl] at hj;unfold wy
     try simp only
     rw[wx (by rw[s1,hcutl];omega),ah (by omega),aj (by rw[hcutl];omega),show 0+(ii+1)*u.size+j-(ii+1)*u.size=j from by omega,AQ hj]
   .unfold World.shape?;rw[setRow_heap w1 w.heap.size _ _ E3 _ hh1];simp only[s2]
   .show _=Value.slice _ _ ((G'*u.size-0)/u.size);rw[Nat.sub_zero,uw _ u.size_pos]
end
end Go.SX
namespace Go.RS
open Go.SX Go.Proofs
set_option maxHeartbeats 4000000
def AN:Value := .agg #[.int .i64 0,.int .i64 0,.int .i64 0,.int .i64 0,.int .i64 0,.slice none 0 0]
section
variable {w:World}
theorem aA0:Vk Tryz.prog 151 33 200 6 64 AN.cells 33:=by
 refine⟨?_,?_,?_⟩
 .intro w w' p q n c vc v hn hc hr;have hz:(Go.sizeOf 200).run Tryz.prog w = .ok 6 w:=lU (by kernel_rfl) w;unfold maxLen at hc;cases p <;> go_enter Tryz.func151,Tryz.ntmps151 <;>
  go_wp2_with (at_builtin;refine Lib.wpList_append_run _ rfl _ _ _ _ rfl _ _ rfl rfl _ _ hr ?_)
  all_goals (go_ret;exact⟨rfl,rfl⟩)
 .intro w b off n c i vb voff vc cur vcur E' vs hi hn hc hvb hb hf hv hvl hvs h1v h1c;have hz:∀ w,(Go.sizeOf 200).run Tryz.prog w = .ok 6 w:=λw=>lU (by kernel_rfl) w;have mixed:Tryz.prog.follows .mixedOrders=true:=ij;unfold maxLen at hc;have hsa:w.shape? vb=some (E',vcur.size):=by unfold World.shape?;rw[hv]
  have hsb:w.shape? b=some (200,cur.size):=by unfold World.shape?;rw[hb]
  have hfa:w.frozen? ⟨vb,voff,none⟩=false:=by simp[World.frozen?,hv]
  have hfe:w.frozen? ⟨vb,vcur.size,none⟩=false:=by simp[World.frozen?,hv]
  have hov:∀ lb cb o,(callFunc 219 #[.slice (some ⟨vb,voff,none⟩) 1 vc,.slice (some ⟨b,o,none⟩) lb cb]).run Tryz.prog w = .ok (.value (.bool false)) w:=λlb cb o=>by
   rw[run_callFunc_extern Tryz.func219 (by kernel_rfl) (by kernel_rfl) (by kernel_rfl) (e:=Extern.SlicesOverlaps.overlaps #[33,33] #[4]) (by kernel_rfl),
    Lib.run_overlaps_apart w 33 4 200 Tryz.underlying33 6 hz ⟨vb,voff,none⟩ ⟨b,o,none⟩ 1 vc lb cb hvb E' 200 vcur.size cur.size hsa hsb (by omega) hfa hfe]
   rfl
  have hw1:IntKind.i64.wrap ((i:Int)+1)=(i:Int)+1:=by rw[IntKind.wrap_i64];omega
  have hw2:IntKind.i64.wrap ((n:Int)+1)=(n:Int)+1:=by rw[IntKind.wrap_i64];omega
  have hz2:¬ ((i:Int)=(n:Int)):=by omega
  have htn:((i:Int)+1).toNat=i+1:=by omega
  have htm:((n:Int)+1).toNat=n+1:=by omega
  have hb1:(0:Int)<=(i:Int)+1:=by omega
  have hb2:¬ (c=i+1):=by omega
  have hb3:(i:Int)<=(n:Int)+1:=by omega
  have hb4:¬ (c=i):=by omega
  have hin:i<=n:=by omega
  have e1:(i+1)*6=i*6+6:=by omega
  have hcl:(jB cur (off+i*6) ((n-i)*6)).length=(n-i)*6:=CX (by omega);have hsz:(Tryz.prog.info? 200).map (·.size)=some 6:=by kernel_rfl
  have hcp1:(Builtin.copy_ #[33,33] 3 #[.slice (some ⟨b,off+(i+1)*6,none⟩) (n-i) (c-(i+1)),.slice (some ⟨b,off+i*6,none⟩) (n+1-i) (c-i)]).run Tryz.prog w.drew =
    .ok (goInt ((n-i:Nat):Int)) (w.drew.setRow b (nj cur (off+(i+1)*6) (jB cur (off+i*6) ((n-i)*6)))):=by
   have h:=G7 (P:=Tryz.prog) w.drew 33 33 3 200 6 b (off+(i+1)*6) (n-i) (c-(i+1)) ⟨b,off+i*6,none⟩ (n+1-i) (c-i) cur 200 (jB cur (off+i*6) ((n-i)*6)) Tryz.underlying33 hsz hb
    (by rw[hcl];simp only[Nat.min_def];split <;> omega)
    (λj v hj=>by
     have hj':=(List.getElem?_eq_some_iff.1 hj).1;rw[hcl] at hj';rw[AQ hj'] at hj;rw[Addr.add_lit,cell_of_row w.drew b _ cur 200 (0,0) hb];exact hj)
    (by rw[hcl];omega) h1c
   have hm:Nat.min (n+1-i) (n-i)=n-i:=by simp only[Nat.min_def];split <;> omega
   rw[hm] at h;exact h
  have hr1:(nj cur (off+(i+1)*6) (jB cur (off+i*6) ((n-i)*6))).size=cur.size:=Ci (by rw[hcl];omega);have hcp2:(Builtin.copy_ #[33,33] 3 #[.slice (some ⟨b,off+i*6,none⟩) (n+1-i) (c-i),.slice (some ⟨vb,voff,none⟩) 1 vc]).run Tryz.prog (w.drew.setRow b (nj cur (off+(i+1)*6) (jB cur (off+i*6) ((n-i)*6)))) =
    .ok (goInt 1) (w.drew.setRow b (xX cur off n i 6 vs)):=by
   have h:=G7 (P:=Tryz.prog) (w.drew.setRow b (nj cur (off+(i+1)*6) (jB cur (off+i*6) ((n-i)*6)))) 33 33 3 200 6 b (off+i*6) (n+1-i) (c-i) ⟨vb,voff,none⟩ 1 vc _ 200 vs Tryz.underlying33 hsz
    (setRow_heap w.drew b cur _ 200 (0,0) hb)
    (by rw[hvl];simp only[Nat.min_def];split <;> omega)
    (λj v hj=>by
     rw[Addr.add_lit,cell_setRow_other _ _ _ _ hvb];exact hvs j v hj)
    (by rw[hr1,hvl];omega) h1v
   have hm:Nat.min 1 (n+1-i)=1:=by simp only[Nat.min_def];split <;> omega
   rw[hm,setRow_setRow] at h;exact h
  clear e1 hcl hr1
  go_enter Tryz.func151,Tryz.ntmps151
  go_wp2_with (simp only[hov])
  go_region
  go_wp2
  all_goals (go_ret;exact⟨rfl,rfl⟩)
 .intro w b off n i vb voff vc cur vcur E' vs hi hn hby hb hf hv hvl hvs h1v h1c;have hz:∀ w,(Go.sizeOf 200).run Tryz.prog w = .ok 6 w:=λw=>lU (by kernel_rfl) w;have mixed:Tryz.prog.follows .mixedOrders=true:=ij;have hx:(Tryz.prog.info? 200).map (λi=>(i.zero,i.size,i.bytes))=some (some AN,6,64):=by kernel_rfl
  obtain⟨i0,hi0⟩:∃ i0,Tryz.prog.info? 200=some i0:=by
   cases hh:Tryz.prog.info? 200 with
   | none=>rw[hh] at hx;cases hx
   | some i0=>exact⟨i0,rfl⟩
  rw[hi0] at hx;simp only[Option.map_some,cE,cC] at hx;obtain⟨hz0,hzs,hzb⟩:=hx;have hsz:(Tryz.prog.info? 200).map (·.size)=some 6:=by kernel_rfl
  have hbw:b<w.heap.size:=(Array.getElem?_eq_some_iff.1 hb).1;have hvw:vb<w.heap.size:=(Array.getElem?_eq_some_iff.1 hv).1;have hni:i*6+(n-i)*6=n*6:=by rw[← gY];congr 1;omega
  have hil:(jB cur off (i*6)).length=i*6:=CX (by omega);have hcl:(jB cur (off+i*6) ((n-i)*6)).length=(n-i)*6:=CX (by omega);have hold:(Builtin.firstCells i0.size i (.slice (some ⟨b,off,none⟩) i n)).run Tryz.prog w.drew = .ok (jB cur off (i*6)).toArray w.drew:=by
   rw[hzs];exact run_firstCells_some w.drew 6 i ⟨b,off,none⟩ i n (jB cur off (i*6)) hil (λj v hj=>by
    have hj':=(List.getElem?_eq_some_iff.1 hj).1;rw[hil] at hj';rw[AQ hj'] at hj;rw[Addr.add_lit,cell_of_row w.drew b _ cur 200 (0,0) hb];exact hj)
  have hGn:n+1<=grownCap w (n+1) n 200:=grownCap_ge w _ _ _;have hG63:=grownCap_le_maxLen w (n+1) n 200 hn;have hrz:(Builtin.append_ #[33,3] 33 #[.slice (some ⟨b,off,none⟩) i n,.int .i64 ((n:Int)+1-(i:Int))]).run Tryz.prog w =
    .ok (.slice (some ⟨w.heap.size,0,none⟩) (n+1) (grownCap w (n+1) n 200)) (w.drew.alloc (.cells (wm cur off n i 6 (grownCap w (n+1) n 200) AN.cells) 200)):=by
   have h:=Lib.run_append_grow_zeros w 33 3 33 200 i0 _ .i64 .i64 Tryz.underlying33 Tryz.underlying3 hi0 hz0 (some ⟨b,off,none⟩) i n (jB cur off (i*6)) hold (n+1-i) (by omega) (by omega) (by omega) (by unfold maxLen at hn;omega) (by rw[hzb];omega)
    (by rw[show i+(n+1-i)=n+1 from by omega];exact growslice_fits (by omega) (by rw[hzb];exact hby))
   rw[show i+(n+1-i)=n+1 from by omega] at h;rw[show (n:Int)+1-(i:Int)=((n+1-i:Nat):Int) from by omega];exact h
  generalize hG:grownCap w (n+1) n 200=G at *;have hrs:(wm cur off n i 6 G AN.cells).size=G*6:=by
   unfold wm;simp only[Array.size_append,rT,hil,size_zeroCells];have:AN.cells.size=6:=rfl;rw[this,← gY,← gY];congr 1;omega
  generalize hROW:wm cur off n i 6 G AN.cells=ROW at *;have hgN:(w.drew.alloc (.cells ROW 200)).heap[w.heap.size]? = some (.cells ROW 200 (0,0)):=heap_alloc_new w.drew _;have hG6:(n+1)*6<=G*6:=mQ _ hGn;have e1:(i+1)*6=i*6+6:=by omega
  have hr1:(nj ROW (i*6) vs).size=G*6:=by rw[Ci (by rw[hrs,hvl];omega),hrs]
  have hcp1:(Builtin.copy_ #[33,33] 3 #[.slice (some ⟨w.heap.size,i*6,none⟩) (n+1-i) (G-i),.slice (some ⟨vb,voff,none⟩) 1 vc]).run Tryz.prog (w.alloc (.cells ROW 200)).drew =
    .ok (goInt 1) ((w.alloc (.cells ROW 200)).drew.setRow w.heap.size (nj ROW (i*6) vs)):=by
   have h:=G7 (P:=Tryz.prog) (w.drew.alloc (.cells ROW 200)) 33 33 3 200 6 w.heap.size (i*6) (n+1-i) (G-i) ⟨vb,voff,none⟩ 1 vc _ 200 vs Tryz.underlying33 hsz hgN
    (by rw[hvl];simp only[Nat.min_def];split <;> omega)
    (λj v hj=>by
     rw[Addr.add_lit,World.cell?_alloc_past (w:=w.drew) _ vb _ hvw];exact hvs j v hj)
    (by rw[hrs,hvl];omega) h1v
   have hm:Nat.min 1 (n+1-i)=1:=by simp only[Nat.min_def];split <;> omega
   rw[hm] at h;exact h
  have hcp2:(Builtin.copy_ #[33,33] 3 #[.slice (some ⟨w.heap.size,(i+1)*6,none⟩) (n-i) (G-(i+1)),.slice (some ⟨b,off+i*6,none⟩) (n-i) (n-i)]).run Tryz.prog ((w.alloc (.cells ROW 200)).drew.setRow w.heap.size (nj ROW (i*6) vs)).drew =
    .ok (goInt ((n-i:Nat):Int)) ((w.alloc (.cells ROW 200)).drew.drew.setRow w.heap.size (nj (nj ROW (i*6) vs) ((i+1)*6) (jB cur (off+i*6) ((n-i)*6)))):=by
   have h:=G7 (P:=Tryz.prog) ((w.alloc (.cells ROW 200)).drew.setRow w.heap.size (nj ROW (i*6) vs)).drew 33 33 3 200 6 w.heap.size ((i+1)*6) (n-i) (G-(i+1)) ⟨b,off+i*6,none⟩ (n-i) (n-i) _ 200 (jB cur (off+i*6) ((n-i)*6)) Tryz.underlying33 hsz
    (setRow_heap _ w.heap.size _ _ 200 (0,0) hgN)
    (by rw[hcl];simp only[Nat.min_def];split <;> omega)
    (λj v hj=>by
     have hj':=(List.getElem?_eq_some_iff.1 hj).1;rw[hcl] at hj';rw[AQ hj'] at hj;show World.cell? ((w.drew.alloc (.cells ROW 200)).setRow w.heap.size (nj ROW (i*6) vs)) _=_;rw[Addr.add_lit,cell_setRow_other _ _ _ _ (by show b≠w.heap.size;omega),World.cell?_alloc_past (w:=w.drew) _ b _ hbw,cell_of_row w.drew b _ cur 200 (0,0) hb];exact hj)
    (by rw[hr1,hcl];omega) (λv hv=>h1c v (by
     unfold jB at hv ⊢;rw[← List.drop_drop] at hv;have e2:take ((n-i)*6) (drop (i*6) (drop off cur.toList))=drop (i*6) (take (n*6) (drop off cur.toList)):=by
      rw[List.drop_take];congr 1;omega
     rw[e2] at hv;exact zA hv))
   have hm:Nat.min (n-i) (n-i)=n-i:=by simp only[Nat.min_def];split <;> omega
   rw[hm] at h;have hs2:∀(W:World)(g:Nat)(a b:Array Value),(W.setRow g a).drew.setRow g b=W.drew.setRow g b:=λW g a b=>setRow_setRow W.drew g a b;rw[hs2] at h;exact h
  have hz2:¬ ((i:Int)=(n:Int)):=by omega
  have hw1:IntKind.i64.wrap ((i:Int)+1)=(i:Int)+1:=by rw[IntKind.wrap_i64];unfold maxLen at hn;omega
  have hw2:IntKind.i64.wrap ((n:Int)+1)=(n:Int)+1:=by rw[IntKind.wrap_i64];unfold maxLen at hn;omega
  have hz3:(n:Int)<(n:Int)+1:=by omega
  have hGi:¬ (G=i):=by omega
  have hGim:¬ (G=i+1):=by omega
  have hci:¬ (n=i):=by omega
  have hb1:(0:Int)<=(i:Int)+1:=by omega
  have hin:i<=n:=by omega
  have htn:((i:Int)+1).toNat=i+1:=by omega
  have hb3:(i:Int)<=(n:Int):=by omega
  have hiG:i<=n+1:=by omega
  unfold maxLen at hn hG63;clear e1 hr1 hG6 hil hcl hni hrs hgN hold hGn
  go_enter Tryz.func151,Tryz.ntmps151
  go_wp2_with (at_builtin;refine Lib.wpList_append_run _ rfl _ _ _ _ rfl _ _ rfl rfl _ _ hrz ?_)
  go_region
  go_wp2
  all_goals (go_ret;exact⟨rfl,(w.alloc (.cells ROW 200)).drew.drew,((da.alloc w.drew _ _).trans (da.drew _ _)),by simp,heap_alloc_new w.drew _,by unfold wy;rw[hROW]⟩)
end
def bf8:Go.SX.Spec:=Iq mP 200 64
theorem ah7:aB 151 bf8:=by
 show m9 Tryz.prog GL 151 (Iq mP 200 64)
 exact ak2 (u:=mP) (zv:=AN) aA0 Tryz.underlying33 (by kernel_rfl) rfl (by decide) rfl
end Go.RS
namespace Go.RS
open Go.SX Go.Proofs
def B2{α:Type}(q:α->Bool)(l:List α):Int:=if l.findIdx q<l.length then (l.findIdx q:Int) else -1
theorem ar6{α:Type}{q:α->Bool}{l:List α}:decide (0<=B2 q l)=l.any q:=by
 unfold B2
 cases h:l.any q with
 | true =>
  rw[aj (List.findIdx_lt_length_of_exists (by simpa using h))];exact fm ab
 | false =>
  have:l.findIdx q=l.length:=List.findIdx_eq_length_of_false (by simpa using h);rw[ah ab];rfl
theorem Cv{a b:Int}(h:a≠0):a=sf a b:=by unfold sf;rw[aj h]
theorem BX{a b:Int}(h:a=0):sf a b=b:=by unfold sf;rw[ah (λk=>k h)]
def X4:Ct:=⟨[.agg kJ],[.val cI],λd=>[],λd=>((rk d.1,()),())⟩
def al0:bp X4.ps->bI:=(λd=>{loops:=(bt 2 (λS=>{ι:=Int,μ:=λi=>(d.1.1.length-i).toNat,inv:=λi=>0<=i/\i<=d.1.1.length/\first (sc d.1) i.toNat=0,keep:=[1,9,10],slots:=λi=>[(11,.int .i64 i)],keepN:=[32]}) (bt 8 (λS=>{ι:=Int,μ:=λi=>((c8 (d.1.1.getD (S.i 11).toNat default)).length-i).toNat,inv:=λi=>0<=i/\i<=(c8 (d.1.1.getD (S.i 11).toNat default)).length∧∀ k∈(c8 (d.1.1.getD (S.i 11).toNat default)).take i.toNat,wj d.1 (S.i 11).toNat k=false,keep:=[1,3,9,10,11,22,23],slots:=λi=>[(24,.int .i64 i)],keepN:=[32,368]}) bZ))})
def KH(a:Int)(b:List ar)(c:Int)(d:List bc)(e:List bV):=ao a (a<=ae (c8 (af b c))) (∀(f:Int),f∈take a.toNat (c8 (af b c))->wj (b,d,e) c.toNat f=false)
theorem bc6:
 ∀(a:List ar)(b:List bc)(c:List bV),ft (f7 a b c) ((∃(d:Int),ao d (d<=ae a) (first (sc (a,b,c)) d.toNat=0)/\a=a/\aA (ae a) (0=d) (cT a b (c=c) True))/\ ∀(d:Int),ao d (d<=ae a) (first (sc (a,b,c)) d.toNat=0)->au (av d (ae a)) (fw d (ae a) (bJ (iE (af a d))) (iE (af a d)=rk (a,b,c)) (qu (aM (af a d))/\(∃(e:Int),KH e a d b c/\aA d (a=a) (d6 (ae a) d (ae (c8 (af a d))) (0=e) (cT a b (c=c) (ai (c8 (af a d)=c8 (af a d))))))/\ ∀(e:Int),KH e a d b c->au (av e (ae (c8 (af a d)))) (ao e (e<ae (c8 (af a d))) (∀(f:Bool),f=decide (ae b<=af (c8 (af a d)) e)->bO f/\( !f->iM ( !f) ( !f) (af (c8 (af a d)) e) (af (c8 (af a d)) e<ae b))/\cX f (fZ f) (bO f/\ ∀(g:Bool),g=bW (af b (af (c8 (af a d)) e)).1 d->cG ( !f&&g) ( !f&&g) (iM ( !f&&g) ( !f&&g) (af
 (c8 (af a d)) e) (af (c8 (af a d)) e<ae b)) ( !f&&g->aT ( !f&&g)) (cG ( !f&&g) ( !f&&g) (d7 ( !f&&g)) (za f g) (br f/\au (bn f (bw g (bW (af b (af (c8 (af a d)) e)).2.1 d))) (11=rk (a,b,c)) (∃(h:Int),KH h a d b c/\aZ (ae (c8 (af a d))) h e/\aA d (a=a) (d6 (ae a) d (ae (c8 (af a d))) (aY e h) (cT a b (c=c) (ai (c8 (af a d)=c8 (af a d))))))))))) (∃(f:Int),ao f (f<=ae a) (first (sc (a,b,c)) f.toNat=0)/\zJ a f d b (c=c) True))) (0=rk (a,b,c))):= by
  delta af ae ap aq aI bO aQ aT f7 kF cO cS cB aU ji bG aA bn cG aZ bw jt cu cX ao br fZ bJ cT iM aY ai kC KH aD bW d7 av za d6 ft fw qu fB zJ
  rintro ns ls hs ⟨⟨⟨hnl,-⟩,⟨hl,-⟩,-⟩,-⟩ -
  simp only[maxLen] at hl hnl
  refine⟨⟨0,⟨ab,ab,rfl⟩,aK⟩,?_⟩
  rintro i ⟨i0,i1,hf⟩
  refine ay (λhi=>?_) (λhi=>?_)
  rotate_left
  .have hi:=bi hi
   rw[show i.toNat=ns.length by omega] at hf
   exact hf.symm
  have hi:=aX hi
  have ei:((i.toNat:Nat):Int)=i:=ab
  have hit:=λh=>MC (f:=sc (ns,ls,hs)) (n:=ns.length) i0 hi hf h
  refine⟨i0,hi,ay (λh=>?_) (λh=>?_)⟩
  .have h:=ke h
   have e:sc (ns,ls,hs) i.toNat=iE (ns.getD i.toNat default):=aj h
   have k:=hit (by rw[e];exact h)
   rw[e] at k;exact k
  have h:=kS h
  have nv:=Tg h
  have k0:=aY0 nv.bad
  have hlen:(c8 (ns.getD i.toNat default)).length=(aM (ns.getD i.toNat default)).length:=by simp[c8]
  have n32:=nv.len
  refine⟨ab,⟨0,⟨ab,ab,aw⟩,aK⟩,?_⟩
  rintro j ⟨j0,j1,hj⟩
  refine ay (λhk=>?_) (λhk=>?_)
  rotate_left
  .have hk:=bi hk
   rw[fH ab] at hj
   refine⟨i+1,⟨ab,ab,GR i0 hf ?_⟩,ab,aK⟩
   unfold sc
   rw[ah (λq=>q h),ah]
   intro q
   obtain⟨k,hk,q⟩:=List.any_eq_true.1 q
   rw[hj k hk] at q;cases q
  have hk:=aX hk
  have hm:=cA j0 hk
  have dZ:=λh=>xV j0 hk hj h (P:=λk=>wj (ns,ls,hs) i.toNat k=false)
  have kk:=k0 _ hm
  refine⟨j0,hk,?_⟩
  generalize (c8 (ns.getD i.toNat default)).getD j.toNat default=k at hm dZ kk ⊢
  intro b hb
  (repeat refine⟨(by first|(simp;done)|exact λh=>⟨λ_=>h,λ_=>h,kk,by rw[hb] at h;have:=ke h;omega,aN⟩),?_⟩)
  intro b1 hb1
  (repeat refine⟨(by first|(simp;done)|(simp +contextual;done)|exact λh=>⟨λ_=>h,λ_=>h,kk,by rw[hb] at h;have:=ke (Bool.and_eq_true_iff.1 h).1;omega,aN⟩),?_⟩)
  have tot:(bif b then true else bif b1 then !decide ((ls.getD k.toNat default).2.1=i) else false)=wj (ns,ls,hs) i.toNat k:=by
   rw[hb,hb1]
   unfold wj lA lB
   rw[ei]
   cases decide ((ls.length:Int)<=k) <;> cases decide ((ls.getD k.toNat default).1=i) <;> cases decide ((ls.getD k.toNat default).2.1=i) <;> rfl
  rw[tot]
  refine ay (λht=>?_) (λht=>?_)
  .have e:sc (ns,ls,hs) i.toNat=11:=by
    unfold sc
    rw[ah (λq=>q h),aj (List.any_eq_true.2 ⟨_,hm,ht⟩)]
   have q:=hit (by rw[e];decide)
   rw[e] at q;exact q
  .exact⟨j+1,⟨ab,ab,dZ ht⟩,ab,aK⟩
theorem bd4:aB 122 X4.spec:=aF Tryz.func122 (am (am aC a31) TZ) al0 bc6
def am2:Ct:=⟨[.val (.sl d8),.agg kO],[.own 176 d8],λd=>[dS d.1,okL d.1,((gE d.2.1).2.1.length:Int)<=1099511627776],λd=>((jw d.1 d.2.1,()),())⟩
theorem aC9:
 ∀(a:List ci)(b:bV),cO a/\ai (CT.wf kO b)->dS a/\okL a/\aG (gE b).2.1->au b.2.2.1 (dS a/\okL a/\lM a b.2.2.2.1=jw a b) (dS a/\okL a/\aG b.2.2.2.2.1/\iu a b.2.2.2=jw a b):= by
  delta ae aq aI aQ cO cS cB aG cH ai aD
  rintro l c-⟨hs,hl,hx⟩
  unfold jw
  rw[show c.2.2.1=xw c from rfl]
  refine ay (λh=>⟨hs,hl,?_⟩) (λh=>⟨hs,hl,hx,?_⟩)
  .rw[aj h];rfl
  .rw[ah (by rw[h];decide)];rfl
theorem ak7:aB 199 am2.spec:=aF Tryz.func199 (am (am aC Tr) WU) aS aC9
def qW(p:fD)(r:Rt):Bool:=decide (r.1=p)
def aR5:Ct:=⟨[.agg d8,.box 178 kO],[.val .bool],λ_=>[],λd=>((qW (gE d.2.1).1 d.1,()),(d.2.1,()))⟩
theorem a48:
 ∀(a b:Int)(c:ac)(d:Int)(e:bV),cS a b c d/\ai (CT.wf kO e)->True->(decide (a=e.2.2.2.1.1)&&(decide (b=e.2.2.2.1.2)&&true))=qW (gE e).1 ((a,b),c,d)/\e=e:= by
  delta aq aI aQ cS cB ai aD
  rintro a n nx b c - -
  refine⟨?_,rfl⟩
  rw[yG];simp[qW,Prod.ext_iff,gE]
theorem bp2:aB 198 aR5.spec:=aF Tryz.func198 aC aS a48
def TI:Ct:=⟨[.val (.sl d8),.fn 198 1,.box 178 kO],[.val cI],λ_=>[],λd=>((B2 (qW (gE d.2.2.1).1) d.1,()),(d.2.2.1,()))⟩
def ad1:bp TI.ps->bI:=(λd=>{loops:=(bt 2 (λS=>{ι:=Int,μ:=λi=>(d.1.length-i).toNat,inv:=λi=>0<=i/\i<=d.1.length∧∀ x∈d.1.take i.toNat,qW (gE d.2.2.1).1 x=false,keep:=[0,1,6,7],slots:=λi=>[(8,.int .i64 i)],keepN:=[1048576]}) bZ)})
def Hs(a:Int)(b:List ci)(c:bV):=ao a (a<=ae b) (∀(d:ci),d∈take a.toNat b->qW (gE c).1 d=false)
theorem ZF:
 ∀(a:List ci)(b:bV),cO a/\True/\ai (CT.wf kO b)->True->(∃(c:Int),Hs c a b/\a=a/\a=a/\aA (ae a) (0=c) (aU b.1 b.2.1 (b.2.2.1=b.2.2.1) (aU b.2.2.2.1.1 b.2.2.2.1.2 (b.2.2.2.2.1=b.2.2.2.2.1) (ai (b.2.2.2.2.2=b.2.2.2.2.2)))))/\ ∀(c:Int),Hs c a b->fE c (ae a) (c<ae a) (au (qW b.2.2.2.1 (af a c)) (c=B2 (qW (gE b).1) a/\b=b) (∃(d:Int),Hs d a b/\uD a d c (a=a) (aA (ae a) (aY c d) (aU b.1 b.2.1 (b.2.2.1=b.2.2.1) (aU b.2.2.2.1.1 b.2.2.2.1.2 (b.2.2.2.2.1=b.2.2.2.2.1) (ai (b.2.2.2.2.2=b.2.2.2.2.2))))))) ((-1)=B2 (qW (gE b).1) a) (b=b):= by
  delta af ae ap aq aI aQ cO cS cB aU aA aZ cu ao fE aY ai aD Hs av uD
  rintro l c ⟨⟨hl,-⟩,-⟩ -
  simp only[maxLen] at hl
  refine⟨⟨0,⟨ab,ab,aw⟩,aK⟩,?_⟩
  rintro j ⟨j0,j1,hj⟩
  refine bP (λhk=>?_) (λhk=>?_)
  .refine⟨j0,hk,ay (λhm=>?_) (λhm=>?_)⟩
   .exact⟨EA j0 hk hj hm,rfl⟩
   .exact⟨j+1,⟨ab,ab,xV j0 hk hj hm⟩,ab,aK⟩
  .exact⟨Ks hk hj,rfl⟩
theorem aA3:aB 250 TI.spec:=aF Tryz.func250 (am aC bp2) ad1 ZF
def au6:Ct:=⟨[.val (.sl d8),.fn 198 1,.box 178 kO],[.val .bool],λ_=>[],λd=>((d.1.any (qW (gE d.2.2.1).1),()),(d.2.2.1,()))⟩
theorem bJ8:
 ∀(a:List ci)(b:bV),cO a/\True/\ai (CT.wf kO b)->True->gD (B2 (qW b.2.2.2.1) a)=List.any a (qW (gE b).1)/\b=b:= by
  delta aq aI aQ cO cS cB ai aD gD
  rintro l c - -
  exact⟨ar6,rfl⟩
theorem bq7:aB 197 au6.spec:=aF Tryz.func197 (am aC aA3) aS bJ8
theorem bG6{l:List Rt}{p:fD}:l.any (qW p)=rB l p:=by rw[Z3,yG];simp[qW]
theorem aC4{ns:List ar}{j:Nat}(h:j<ns.length):((ns.take j).map bL++replicate (ns.length-j) []).set j (bL (ns.getD j default))=(ns.take (j+1)).map bL++replicate (ns.length-(j+1)) []:=by
 have e1:((ns.take j).map bL).length=j:=by simp;omega
 rw[show ns.length-j=(ns.length-(j+1))+1 by omega,List.replicate_succ,List.set_append_right _ _ ab,e1,Nat.sub_self,List.set_cons_zero,DS h,lx,ct,cM h]
 simp
theorem aQ0(n:Net){j:Int}(j0:0<=j):nk n j.toNat=tx n j.toNat (n.2.2.getD j.toNat default) (n.2.2.getD (j-1).toNat default) ((gp n j.toNat).getD (cZ (n.2.2.getD j.toNat default)).toNat default):=by
 unfold nk;rw[show (j-1).toNat=j.toNat-1 by omega]
def Qp:Ct:=⟨[.agg kJ],[.val cI],λd=>[rk d.1=0,d.1.1.length<=64,∀ c∈d.1.2.2,((gE c).2.1.length:Int)<=1099511627776],λd=>((sk d.1,()),())⟩
def ZS:bp Qp.ps->bI:=(λd=>{loops:=(bt 3 (λS=>{ι:=Int×(List (List Rt)),qn:=eO,μ:=λi=>(d.1.1.length-i.1).toNat,inv:=λi=>0<=i.1/\i.1<=d.1.1.length/\i.2=(d.1.1.take i.1.toNat).map bL++replicate (d.1.1.length-i.1.toNat) [],keep:=[1,15,16],slots:=λi=>[(3,.own 524288 1),(17,.int .i64 i.1)],keepN:=[32],names:=λi=>[(524288,.live (.row 115 (.sl d8) i.2))]}) (bt 8 (λS=>{ι:=Int×(List (List Rt)),qn:=eO,μ:=λi=>(d.1.2.2.length-i.1).toNat,inv:=λi=>0<=i.1/\i.1<=d.1.2.2.length/\first (nk d.1) i.1.toNat=0/\i.2=gp d.1 i.1.toNat,keep:=[1,29,30],slots:=λi=>[(3,.own 524288 1),(31,.int .i64 i.1)],keepN:=[32],names:=λi=>[(524288,.live (.row 115 (.sl d8) i.2))]}) bZ))})
def jA(a:List bV)(b:Int):=(af a b).2.1
def G2(a:Int)(b:List bV)(c:List ar)(d:List bc)(e:List (List Rt)):=bM a (ae b) (first (nk (c,d,b)) a.toNat=0) (e=gp (c,d,b) a.toNat)
def OC(a:List (List Rt))(b:List bV)(c:Int)(d:List ar)(e:List bc):=dS (af a (jA b c))/\okL (af a (jA b c))/\aG (af b c).2.2.2.2.1/\bu (jA b c) (ae d) (qu (aM (af d (jA b c)))) (au (bJ (jf (jw (af a (jA b c)) (af b c)) (c8 (af d (jA b c))))) (jf (jw (af a (jA b c)) (af b c)) (c8 (af d (jA b c)))=sk (d,e,b)) (ao (jA b c) (jA b c<ae a) (∃(f:Int) (g:List (List Rt)),G2 f b d e g/\aZ (ae b) f c/\b=b/\aA (ae b) (aY c f) (cT d e (b=b) (ai (set a (toNat (jA b c)) (jw (af a (jA b c)) (af b c))=g))))))
def IA(a:Int)(b:List ar)(c:List (List Rt)):=ao a (a<=ae b) (c=List.map bL (take a.toNat b)++replicate (b.length -a.toNat) [])
def Bi(a:List bV):=∀(b:bV),b∈a->aG (gE b).2.1
theorem bP3:
 ∀(a:List ar)(b:List bc)(c:List bV),ai (f7 a b c)->rk (a,b,c)=0/\a.length<=64/\Bi c->bM (ae a) (ae a) (tE ((↑((24:Nat)):Int)*ae a)) ((∃(d:Int) (e:List (List Rt)),IA d a e/\a=a/\aA (ae a) (0=d) (cT a b (c=c) (ai (replicate (toNat (ae a)) []=e))))/\ ∀(d:Int)(e:List (List Rt)),IA d a e->fE d (ae a) (d<ae a) (ao d (d<ae e) (∃(f:Int) (g:List (List Rt)),IA f a g/\zJ a f d b (c=c) (ai (set e d.toNat (lu a d)=g)))) (∃(f:Int) (g:List (List Rt)),G2 f c a b g/\c=c/\aA (ae c) (0=f) (cT a b (c=c) (ai (e=g)))) (∀(f:Int)(g:List (List Rt)),G2 f c a b g->au (av f (ae c)) (fw f (ae c) ( !decide (0<=(af c f).1/\(af c f).1<=1125899906842624)) (1=sk (a,b,c)) (∀(h:Bool),h=av 0 f->ia h h (aT h) (h->iM h h (ap (f -1)) (ap (f -1)<ae c)) (ia h h (d7 h) (h->h) (au (bw h (av (af c
 f).1 (af c (ap (f -1))).1)) (6=sk (a,b,c)) (au ( !decide (0<=jA c f/\jA c f<=ap (ae a -1))) (8=sk (a,b,c)) (ao (jA c f) (jA c f<ae g) (∀(i:Bool),i=(af c f).2.2.1->pJ i i (i->i) ((i->i)/\au (bw i ( !List.any (af g (jA c f)) (qW (af c f).2.2.2.1))) (8=sk (a,b,c)) (OC g c f a b)) (i->false) (au (bw i false) (8=sk (a,b,c)) (OC g c f a b))))))))) (0=sk (a,b,c)))):= by
  delta af ae ap aq aI aQ aT f7 kF cO cS cB ji aG bG cH aA cG aZ bw jt cu ao bJ OC fE lu cT ia iM aY ai kC IA pJ aD bW bu d7 bM av jA Bi G2 fw qu fB zJ tE
  rintro ns ls hs ⟨⟨⟨hnl,-⟩,⟨hl,-⟩,⟨hhl,-⟩⟩,-⟩⟨hb,hn,hx⟩
  simp only[maxLen] at hl hnl hhl
  refine⟨ab,ab,ab,⟨0,_,⟨ab,ab,rfl⟩,by (repeat refine fR ?_);simp⟩,?_⟩
  rintro j t ⟨j0,j1,rfl⟩
  have tl:((ns.take j.toNat).map bL++replicate (ns.length-j.toNat) ([]:List Rt)).length=ns.length:=by simp;omega
  refine ay (λhj=>?_) (λhj=>?_)
  .have hj:=aX hj
   refine⟨j0,hj,j0,by rw[tl];exact hj,j+1,_,⟨ab,ab,rfl⟩,ab,?_⟩
   (repeat refine fR ?_)
   refine⟨?_,aN⟩
   rw[show (j+1).toNat=j.toNat+1 by omega,← aC4 ab];rfl
  have hj:=bi hj
  have e0:(ns.take j.toNat).map bL++replicate (ns.length-j.toNat) ([]:List Rt)=gp (ns,ls,hs) 0:=by
   rw[fH ab,show ns.length-j.toNat=0 by omega];simp[gp]
  rw[e0]
  clear e0 tl hj j0 j1
  refine⟨⟨0,_,⟨ab,ab,rfl,rfl⟩,aK⟩,?_⟩
  rintro j t ⟨j0,j1,hf,rfl⟩
  refine ay (λhj=>?_) (λhj=>?_)
  rotate_left
  .have hj:=bi hj
   rw[show j.toNat=hs.length by omega] at hf
   exact hf.symm
  have hj:=aX hj
  have hm:=cA j0 hj
  have tb:=Ws hb hf
  have tl:=vf (ns,ls,hs) j.toNat
  have hit:=λh=>MC (f:=nk (ns,ls,hs)) (n:=hs.length) j0 hj hf h
  have eq:=aQ0 (ns,ls,hs) j0
  have ej:((j.toNat:Nat):Int)=j:=ab
  rw[aL (n:=j-1) ab ab,aL (n:=(ns.length:Int)-1) ab ab]
  refine⟨j0,hj,ay (λh=>?_) (λh=>?_)⟩
  .have h:=ke h
   have e:nk (ns,ls,hs) j.toNat=1:=by
    rw[eq];unfold tx;rw[aj];dsimp only[jP];omega
   have q:=hit (by rw[e];decide)
   rw[e] at q;exact q
  have h1:=kS h
  have c1:¬ (jP (hs.getD j.toNat default)<0∨1125899906842624<jP (hs.getD j.toNat default)):=by unfold jP;omega
  clear h
  intro b hb1
  (repeat refine⟨(by first|(simp;done)|exact λh=>⟨λ_=>h,λ_=>h,by rw[hb1] at h;have:=aX h;omega,by rw[hb1] at h;have:=aX h;omega,aN⟩),?_⟩)
  rw[hb1,P2]
  refine ay (λh=>?_) (λh=>?_)
  .have h:=aX h
   have e:nk (ns,ls,hs) j.toNat=6:=by
    rw[eq];unfold tx;rw[ah c1,aj];exact⟨ab,h.2⟩
   have q:=hit (by rw[e];decide)
   rw[e] at q;exact q
  have c2:¬ (0<j.toNat/\jP (hs.getD j.toNat default)<jP (hs.getD (j-1).toNat default)):=λq=>bi h ⟨ab,q.2⟩
  clear h
  refine ay (λh=>?_) (λh=>?_)
  .have h:=ke h
   have e:nk (ns,ls,hs) j.toNat=8:=by
    rw[eq];unfold tx;rw[ah c1,ah c2,aj]
    dsimp only[cZ];omega
   have q:=hit (by rw[e];decide)
   rw[e] at q;exact q
  have h2:=kS h
  have h2:0<=cZ (hs.getD j.toNat default)/\cZ (hs.getD j.toNat default)<=(ns.length:Int)-1:=h2
  have c3:¬ (cZ (hs.getD j.toNat default)<0∨(ns.length:Int)<=cZ (hs.getD j.toNat default)):=ab
  clear h
  refine⟨h2.1,by rw[tl];show cZ _<(ns.length:Int);omega,?_⟩
  intro b2 hb2
  have hb2:b2=xw (hs.getD j.toNat default):=hb2
  refine ay (λq=>?_) (λq=>?_)
  .subst q
   (repeat refine⟨aw,?_⟩)
   simp only[cond_true]
   rw[bG6]
   refine ay (λh=>?_) (λh=>?_)
   .have e:nk (ns,ls,hs) j.toNat=8:=by
     rw[eq];unfold tx;rw[ah c1,ah c2,ah c3,aj]
     exact⟨hb2.symm,(pF _).mp h⟩
    have q:=hit (by rw[e];decide)
    rw[e] at q;exact q
   have c4:¬ (xw (hs.getD j.toNat default)=true/\rB ((gp (ns,ls,hs) j.toNat).getD (cZ (hs.getD j.toNat default)).toNat default) (gE (hs.getD j.toNat default)).1=false):=λz=>by
    have z2:=z.2
    have h:(!rB ((gp (ns,ls,hs) j.toNat).getD (cZ (hs.getD j.toNat default)).toNat default) (gE (hs.getD j.toNat default)).1)=false:=h
    rw[z2] at h;cases h
   have wl:(cZ (hs.getD j.toNat default)).toNat<ns.length:=ab
   have tr:=tb.r (cZ (hs.getD j.toNat default)).toNat wl
   refine⟨tr.1,tr.2,hx _ hm,ab,ab,by have:=(JO (n:=(ns,ls,hs)) hb wl).len;exact pH this bo,ay (λh=>?_) (λh=>?_)⟩
   .have h:=ke h
    have e:nk (ns,ls,hs) j.toNat=jf (jw ((gp (ns,ls,hs) j.toNat).getD (cZ (hs.getD j.toNat default)).toNat default) (hs.getD j.toNat default)) (c8 (ns.getD (cZ (hs.getD j.toNat default)).toNat default)):=by
     rw[eq];unfold tx;rw[ah c1,ah c2,ah c3,ah c4]
    have k:=hit (by rw[e];exact h)
    rw[e] at k;exact k
   .have h:=kS h
    have e:nk (ns,ls,hs) j.toNat=0:=by
     rw[eq];unfold tx;rw[ah c1,ah c2,ah c3,ah c4];exact h
    refine⟨ab,by rw[vf];show cZ _<(ns.length:Int);omega,j+1,gp (ns,ls,hs) (j+1).toNat,⟨ab,ab,GR j0 hf e,rfl⟩,ab,?_⟩
    (repeat refine fR ?_)
    refine⟨?_,aN⟩
    rw[show (j+1).toNat=j.toNat+1 by omega];rfl
  ·(repeat refine⟨by simp[q],?_⟩)
   refine ay (λh=>by rw[q] at h;cases h) (λh=>?_)
   have c4:¬ (xw (hs.getD j.toNat default)=true/\rB ((gp (ns,ls,hs) j.toNat).getD (cZ (hs.getD j.toNat default)).toNat default) (gE (hs.getD j.toNat default)).1=false):=λz=>by
    rw[← hb2,q] at z;cases z.1
   have wl:(cZ (hs.getD j.toNat default)).toNat<ns.length:=ab
   have tr:=tb.r (cZ (hs.getD j.toNat default)).toNat wl
   refine⟨tr.1,tr.2,hx _ hm,ab,ab,by have:=(JO (n:=(ns,ls,hs)) hb wl).len;exact pH this bo,ay (λh=>?_) (λh=>?_)⟩
   .have h:=ke h
    have e:nk (ns,ls,hs) j.toNat=jf (jw ((gp (ns,ls,hs) j.toNat).getD (cZ (hs.getD j.toNat default)).toNat default) (hs.getD j.toNat default)) (c8 (ns.getD (cZ (hs.getD j.toNat default)).toNat default)):=by
     rw[eq];unfold tx;rw[ah c1,ah c2,ah c3,ah c4]
    have k:=hit (by rw[e];exact h)
    rw[e] at k;exact k
   .have h:=kS h
    have e:nk (ns,ls,hs) j.toNat=0:=by
     rw[eq];unfold tx;rw[ah c1,ah c2,ah c3,ah c4];exact h
    refine⟨ab,by rw[vf];show cZ _<(ns.length:Int);omega,j+1,gp (ns,ls,hs) (j+1).toNat,⟨ab,ab,GR j0 hf e,rfl⟩,ab,?_⟩
    (repeat refine fR ?_)
    refine⟨?_,aN⟩
    rw[show (j+1).toNat=j.toNat+1 by omega];rfl
theorem ay0:aB 126 Qp.spec:=aF Tryz.func126 (am (am (am (am (am aC Oj) bq7) ak7) TZ) Vn) ZS bP3
def RA:Ct:=⟨[.agg kJ],[.val cI],λd=>[∀ c∈d.1.2.2,((gE c).2.1.length:Int)<=1099511627776],λd=>((iB d.1,()),())⟩
def be2:bp RA.ps->bI:=(λd=>{unr:=λn=>match n with|2=>8|_=>0})
theorem av6:
 ∀(a:List ar)(b:List bc)(c:List bV),ai (f7 a b c)->Bi c->au (bJ (ud (a,b,c))) (ud (a,b,c)=iB (a,b,c)) (au (bJ (qO (a,b,c))) (qO (a,b,c)=iB (a,b,c)) (au (bJ (rk (a,b,c))) (rk (a,b,c)=iB (a,b,c)) (EN (a,b,c)/\au (bJ (tG (a,b,c))) (tG (a,b,c)=iB (a,b,c)) ((∀(d:ar),d∈a->qu (aM d))/\au (bJ (xh (a,b,c))) (xh (a,b,c)=iB (a,b,c)) (EN (a,b,c)/\au (bJ (uO (a,b,c))) (uO (a,b,c)=iB (a,b,c)) (rk (a,b,c)=0/\a.length<=64/\Bi c/\au (bJ (sk (a,b,c))) (sk (a,b,c)=iB (a,b,c)) (0=iB (a,b,c)))))))):= by
  delta ae aq aI aQ f7 kF cO cS cB ji aG bG cH jt bJ ai kC aD bW Bi qu fB
  rintro ns ls hs-hx
  unfold iB
  refine ay (λh=>Cv (ke h)) (λh=>?_)
  have h1:=kS h
  rw[BX h1]
  refine ay (λh=>Cv (ke h)) (λh=>?_)
  have h2:=kS h
  rw[BX h2]
  refine ay (λh=>Cv (ke h)) (λh=>?_)
  have h3:=kS h
  rw[BX h3]
  refine⟨XJ h2,ay (λh=>Cv (ke h)) (λh=>?_)⟩
  have h4:=kS h
  rw[BX h4]
  refine⟨λx hx=>pH (bQ7 h3 x hx).len bo,ay (λh=>Cv (ke h)) (λh=>?_)⟩
  have h5:=kS h
  rw[BX h5]
  refine⟨XJ h2,ay (λh=>Cv (ke h)) (λh=>?_)⟩
  have h6:=kS h
  rw[BX h6]
  refine⟨h3,?_,hx,ay (λh=>rfl) (λh=>(kS h).symm)⟩
  unfold ud at h1
  split at h1
  .cases h1
  .dsimp only at *;omega
theorem aR2:aB 56 RA.spec:=aF Tryz.func56 (am (am (am (am (am (am (am aC bJ7) bB9) bd4) aL2) bC3) aQ8) ay0) be2 av6
abbrev CW:OT := .pair kJ (.pair cI (.pair cI (.pair cI (.pair (.row 184 pi) (.pair (.row 3 cI) (.pair (.row 200 mP) (.pair (.row 159 tf) (.row 240 Bg))))))))
def aJ7:Ct:=⟨[.val (.sl pi)],[.own 184 pi],λd=>[(d.1.length:Int)<=1000000],λd=>((d.1,()),())⟩
def wM(a:List NState):=a.length<=maxLen/\ ∀(b:NState),b∈a->gM b.1 b.2.1 b.2.2.1 b.2.2.2.1.1 b.2.2.2.1.2 b.2.2.2.2
theorem ai7:
 ∀(a:List NState),ai (wM a)->ae a<=1000000->jj (a.length=0) ([]=a) (bv ((0+a.length)*80)/\a=a):= by
  delta ae aq aI aQ cO cS cB wM bv gM ai jj aD
  rintro x ⟨⟨hl,-⟩,-⟩ h b hb
  refine ay (λh1=>?_) (λh1=>⟨by simp;omega,by simp⟩)
  simp_all
theorem aU5:aB 139 aJ7.spec:=aF Tryz.func139 aC aS ai7
def al3:Ct:=⟨[.val (.sl mP)],[.own 200 mP],λd=>[(d.1.length:Int)<=1000000],λd=>((d.1,()),())⟩
def oZ(a b c d e:Int)(f:ac):=bG a b (aq c) (aq d/\aq e/\aV f)
def tK(a:List Flight):=a.length<=maxLen/\ ∀(b:Flight),b∈a->oZ b.1 b.2.1 b.2.2.1 b.2.2.2.1 b.2.2.2.2.1 b.2.2.2.2.2
theorem bk0:
 ∀(a:List Flight),ai (tK a)->ae a<=1000000->jj (a.length=0) ([]=a) (bv ((0+a.length)*64)/\a=a):= by
  delta ae aq aI aV bG tK bv ai jj aD oZ
  rintro x ⟨⟨hl,-⟩,-⟩ h b hb
  refine ay (λh1=>?_) (λh1=>⟨by simp;omega,by simp⟩)
  simp_all
theorem bQ4:aB 140 al3.spec:=aF Tryz.func140 aC aS bk0
def aP4:Ct:=⟨[.val (.sl tf)],[.own 159 tf],λd=>[(d.1.length:Int)<=1000000000000],λd=>((d.1,()),())⟩
def j6(a:Int):=a<=1000000000000
theorem a77:
 ∀(a:List gJ),ai (qm a)->j6 (ae a)->jj (a.length=0) ([]=a) (bv ((0+a.length)*40)/\a=a):= by
  delta ae aq aI aV bv qm ai jj aD j6
  rintro x ⟨⟨hl,-⟩,-⟩ h b hb
  refine ay (λh1=>?_) (λh1=>⟨by simp;omega,by simp⟩)
  simp_all
theorem Ym:aB 141 aP4.spec:=aF Tryz.func141 aC aS a77
def YR:Ct:=⟨[.val (.sl Bg)],[.own 240 Bg],λd=>[(d.1.length:Int)<=1000000000000],λd=>((d.1,()),())⟩
def yT(a:List kx):=a.length<=maxLen/\ ∀(b:kx),b∈a->bG b.1 b.2.1 (aq b.2.2.1) (aq b.2.2.2.1/\aq b.2.2.2.2)
theorem bc7:
 ∀(a:List kx),ai (yT a)->j6 (ae a)->jj (a.length=0) ([]=a) (bv ((0+a.length)*40)/\a=a):= by
  delta ae aq aI bG bv yT ai jj j6
  rintro x ⟨⟨hl,-⟩,-⟩ h b hb
  refine ay (λh1=>?_) (λh1=>⟨by simp;omega,by simp⟩)
  simp_all
theorem QX:aB 105 YR.spec:=aF Tryz.func105 aC aS bc7
def ai6:Ct:=⟨[.val (.sl dK)],[.own 117 dK],λd=>[(d.1.length:Int)<=1000000],λd=>((d.1,()),())⟩
theorem Z4:
 ∀(a:List ar),ai (kF a)->ae a<=1000000->jj (a.length=0) ([]=a) (bv ((0+a.length)*152)/\a=a):= by
  delta ae aq aI aQ kF cO cS cB bG jt bv ai jj aD
  rintro x ⟨⟨hl,-⟩,-⟩ h b hb
  refine ay (λh1=>?_) (λh1=>⟨by simp;omega,by simp⟩)
  simp_all
theorem a62:aB 127 ai6.spec:=aF Tryz.func127 aC aS Z4
def a58:Ct:=⟨[.val (.sl rb)],[.own 164 rb],λd=>[(d.1.length:Int)<=1000000],λd=>((d.1,()),())⟩
theorem aV3:
 ∀(a:List bc),ai (ji a)->ae a<=1000000->jj (a.length=0) ([]=a) (bv ((0+a.length)*48)/\a=a):= by
  delta ae aq aI ji bG bv ai jj fB
  rintro x ⟨⟨hl,-⟩,-⟩ h b hb
  refine ay (λh1=>?_) (λh1=>⟨by simp;omega,by simp⟩)
  simp_all
theorem Q1:aB 95 a58.spec:=aF Tryz.func95 aC aS aV3
def aZ5:Ct:=⟨[.val (.sl kO)],[.own 178 kO],λd=>[(d.1.length:Int)<=1000000],λd=>((d.1,()),())⟩
theorem bw8:
 ∀(a:List bV),ai (kC a)->ae a<=1000000->jj (a.length=0) ([]=a) (bv ((0+a.length)*72)/\a=a):= by
  delta ae aq aI aQ cS cB bG bv ai kC jj aD
  rintro x ⟨⟨hl,-⟩,-⟩ h b hb
  refine ay (λh1=>?_) (λh1=>⟨by simp;omega,by simp⟩)
  simp_all
theorem aB2:aB 128 aZ5.spec:=aF Tryz.func128 aC aS bw8
def bC5:Ct:=⟨[.val (.sl wB)],[.own 119 wB],λd=>[(d.1.length:Int)<=1000000],λd=>((d.1,()),())⟩
theorem br8:
 ∀(a:bU1),ai (jt a)->ae a<=1000000->jj (a.length=0) ([]=a) (bv ((0+a.length)*16)/\a=a):= by
  delta ae aq aI aQ jt bv ai jj aD
  rintro x ⟨⟨hl,-⟩,-⟩ h b hb
  refine ay (λh1=>?_) (λh1=>⟨by simp;omega,by simp⟩)
  simp_all
theorem S5:aB 129 bC5.spec:=aF Tryz.func129 aC aS br8
def TY:Ct:=⟨[.val (.sl d8)],[.own 176 d8],λd=>[okL d.1],λd=>((d.1,()),())⟩
def ax3:bp TY.ps->bI:=(λd=>{loops:=(bt 3 (λS=>{ι:=Int,μ:=λi=>(d.1.length-i).toNat,inv:=λi=>0<=i/\i<=d.1.length,keep:=[3,8,9],slots:=λi=>[(10,.int .i64 i)],keepN:=[128]}) bZ)})
theorem a47:
 ∀(a:List ci),HZ a:= by
  delta af ae ap aq aI aQ cO cS cB aG cH aA aZ cu ao HZ aY uF ai aD bu av mX xl z6
  rintro l ⟨⟨hl,-⟩,-⟩⟨h1,h2⟩
  refine⟨h1,⟨0,⟨ab,ab⟩,aK⟩,?_⟩
  rintro j ⟨b,j1⟩
  refine bP (λa=>?_) (λa=>?_)
  .refine⟨b,a,h2 _ (cA b a),b,a,j+1,⟨ab,ab⟩,ab,?_⟩
   (repeat refine fR ?_)
   simp_all
  .rfl
theorem Yf:aB 130 TY.spec:=aF Tryz.func130 (am (am aC RX) yi) ax3 a47
def W3:Ct:=⟨[.agg kJ],[.agg kJ],λd=>[um d.1],λd=>((d.1,()),())⟩
def a95:bp W3.ps->bI:=(λd=>{loops:=(bt 3 (λS=>{ι:=Int,μ:=λi=>(d.1.1.length-i).toNat,inv:=λi=>0<=i/\i<=d.1.1.length,keep:=[2,3,19,20],slots:=λi=>[(21,.int .i64 i)],keepN:=[48,64,176,224,272]}) (bt 8 (λS=>{ι:=Int,μ:=λi=>(d.1.2.2.length-i).toNat,inv:=λi=>0<=i/\i<=d.1.2.2.length,keep:=[2,3,44,45],slots:=λi=>[(46,.int .i64 i)],keepN:=[48,64,176,224,272]}) bZ))})
def Hn(a:List ar)(b:List bc)(c:List bV):=mR (ae a) (ae b<=1000000) (mR (ae c) (∀(d:ar),d∈a->ae (aM d)<=1000000/\okL (bL d)) (∀(d:bV),d∈c->aG (gE d).2.1))
def zL(a:List ar)(b:Int):=set a b.toNat (af a b)
theorem Y5:
 ∀(a:List ar)(b:List bc)(c:List bV),ai (f7 a b c)->Hn a b c->mR (ae a) (ae b<=1000000) (mR (ae c) (∃(d:Int),aD d (ae a)/\aA (ae a) (0=d) (cT a b (c=c) True)) (∀(d:Int),aD d (ae a)->fE d (ae a) (d<ae a) (mR (ae (af a d).1) (okL (lu a d)) (ao d (d<ae a) (ao d (d<ae (zL a d)) (z6 (ae a) d (ae a) (set (zL a d) d.toNat ((af (zL a d) d).1,(af (zL a d) d).2.1,(af (zL a d) d).2.2.1,(af (zL a d) d).2.2.2.1,lu a d,(af (zL a d) d).2.2.2.2.2)=a/\b=b/\ai (c=c)))))) (∃(e:Int),aD e (ae c)/\aA (ae c) (0=e) (cT a b (c=c) True)) (∀(e:Int),aD e (ae c)->au (av e (ae c)) (bu e (ae c) (aG (af c e).2.2.2.2.1) (xl e (ae c) (ae c) (cT a b (set c e.toNat (af c e)=c) True))) ((a,b,c)=(a,b,c))))):= by
  delta af ae ap aq aI aQ f7 kF cO cS cB ji aG bG cH aA aZ jt cu ao fE lu cT aY ai kC aD bu mR av Hn xl z6 zL fB
  rintro ns ls hs-⟨h1,h2,h3,h4,h5⟩
  refine⟨h1,h2,h3,⟨0,⟨ab,ab⟩,aK⟩,?_⟩
  rintro j ⟨b,j1⟩
  refine bP (λa=>?_) (λa=>?_)
  .have g:=h4 _ (cA b a)
   have e:ns.set j.toNat (ns.getD j.toNat default)=ns:=yw b a
   refine⟨b,a,g.1,g.2,b,a,b,by rw[fF];exact a,j+1,⟨ab,ab⟩,ab,?_⟩
   (repeat refine fR ?_)
   grind
  refine⟨⟨0,⟨ab,ab⟩,aK⟩,?_⟩
  rintro k ⟨f,k1⟩
  refine bP (λd=>?_) (λd=>?_)
  .refine⟨f,d,h5 _ (cA f d),f,d,k+1,⟨ab,ab⟩,ab,?_⟩
   (repeat refine fR ?_)
   exact⟨yw f d,aN⟩
  .rfl
theorem Xg:aB 57 W3.spec:=aF Tryz.func57 (am (am (am (am (am (am aC a62) Q1) aB2) S5) Yf) yi) a95 Y5
def Tq:Ct:=⟨[.agg jY],[.agg CW],λd=>[vS d.1],λd=>((d.1,()),())⟩
def bm4:bp Tq.ps->bI:=(λd=>{loops:=(bt 4 (λS=>{ι:=Int,μ:=λi=>((dc d.1).length-i).toNat,inv:=λi=>0<=i/\i<=(dc d.1).length,keep:=[1,2,18,19],slots:=λi=>[(20,.int .i64 i)],keepN:=[32,48,256]}) (bt 11 (λS=>{ι:=Int,μ:=λi=>((aP d.1).length-i).toNat,inv:=λi=>0<=i/\i<=(aP d.1).length,keep:=[1,2,51,52],slots:=λi=>[(53,.int .i64 i)],keepN:=[32,48,256,720,784]}) (bt 17 (λS=>{ι:=Int,μ:=λi=>((bh d.1).length-i).toNat,inv:=λi=>0<=i/\i<=(bh d.1).length,keep:=[1,2,72,73],slots:=λi=>[(74,.int .i64 i)],keepN:=[32,48,256,720,784,1120]}) bZ)))})
def zl(a:aU8):=∀(b:Go.RS.Del),b∈bh a->bY b.2.2
def Jt(a:aU8):=um (aH a)/\mR (ae (dc a)) (bY (iI a)) (mR (ae (aP a)) (j6 (ae (bh a))) (j6 (ae (dX a))/\(∀(b:NState),b∈dc a->bY (mE b)/\okL (cR b))/\(∀(b:Flight),b∈aP a->bY (io b))/\zl a))
def mq(a:ac)(b:List Flight)(c:List gJ)(d e:Prop):=a=a/\b=b/\c=c/\d/\e
def pS(a b:Prop):=d6 0 0 0 a b
theorem bA9:
 ∀(a:aU8),ai (CT.wf jY a)->Jt a->um a.1/\mR (ae a.2.2.2.2.1) (∃(b:Int),aD b (ae (dc a))/\aA (ae a.2.2.2.2.1) (0=b) (cT a.1.1 a.1.2.1 (a.1.2.2=a.1.2.2) (aU a.2.1 a.2.2.1 (a.2.2.2.1=a.2.2.2.1) (mq a.2.2.2.2.2.1 a.2.2.2.2.2.2.1 a.2.2.2.2.2.2.2.1 (a.2.2.2.2.2.2.2.2=a.2.2.2.2.2.2.2.2) (aU 0 0 ((0:Int)=(0:Int)) (ai (a.2.2.2.2.1=a.2.2.2.2.1))))))) (∀(b:Int),aD b (ae (dc a))->fE b (ae a.2.2.2.2.1) (b<ae a.2.2.2.2.1) (aG (af a.2.2.2.2.1 b).2.2.1/\okL (af a.2.2.2.2.1 b).1/\ao b (b<ae a.2.2.2.2.1)
 (ao b (b<ae (set a.2.2.2.2.1 b.toNat (af a.2.2.2.2.1 b))) (z6 (ae (dc a)) b (ae a.2.2.2.2.1) (cT a.1.1 a.1.2.1 (a.1.2.2=a.1.2.2) (aU a.2.1 a.2.2.1 (a.2.2.2.1=a.2.2.2.1) (mq a.2.2.2.2.2.1 a.2.2.2.2.2.2.1 a.2.2.2.2.2.2.2.1 (a.2.2.2.2.2.2.2.2=a.2.2.2.2.2.2.2.2) (aU 0 0 ((0:Int)=(0:Int)) (ai (set (set a.2.2.2.2.1 b.toNat (af a.2.2.2.2.1 b)) b.toNat ((af a.2.2.2.2.1 b).1,(af (set a.2.2.2.2.1 b.toNat (af a.2.2.2.2.1 b)) b).2)=a.2.2.2.2.1))))))))) (aG a.2.2.2.2.2.1) (mR (ae a.2.2.2.2.2.2.1) (∃(c:Int),aD c (ae (aP a))/\aA (ae a.2.2.2.2.2.2.1) (0=c) (cT a.1.1 a.1.2.1 (a.1.2.2=a.1.2.2) (d6 a.2.1 a.2.2.1 a.2.2.2.1 (a.2.2.2.2.2.2.2.1=a.2.2.2.2.2.2.2.1) (a.2.2.2.2.2.2.2.2=a.2.2.2.2.2.2.2.2/\pS (a.2.2.2.2.1=a.2.2.2.2.1) (a.2.2.2.2.2.1=a.2.2.2.2.2.1/\ai (a.2.2.2.2.2.2.1=a.2.2.2.2.2.2.1)))))) (∀(c:Int),aD c (ae (aP a))->fE
 c (ae a.2.2.2.2.2.2.1) (c<ae a.2.2.2.2.2.2.1) (aG (af a.2.2.2.2.2.2.1 c).2.2.2.2.2/\xl c (ae a.2.2.2.2.2.2.1) (ae (aP a)) (cT a.1.1 a.1.2.1 (a.1.2.2=a.1.2.2) (d6 a.2.1 a.2.2.1 a.2.2.2.1 (a.2.2.2.2.2.2.2.1=a.2.2.2.2.2.2.2.1) (a.2.2.2.2.2.2.2.2=a.2.2.2.2.2.2.2.2/\pS (a.2.2.2.2.1=a.2.2.2.2.1) (a.2.2.2.2.2.1=a.2.2.2.2.2.1/\ai (set a.2.2.2.2.2.2.1 c.toNat (af a.2.2.2.2.2.2.1 c)=a.2.2.2.2.2.2.1)))))) (j6 (ae a.2.2.2.2.2.2.2.1)) ((∃(d:Int),aD d (ae (bh a))/\aA (ae a.2.2.2.2.2.2.2.1) (0=d) (cT a.1.1 a.1.2.1 (a.1.2.2=a.1.2.2) (d6 a.2.1 a.2.2.1 a.2.2.2.1 (a.2.2.2.2.2.2.2.2=a.2.2.2.2.2.2.2.2) (pS (a.2.2.2.2.1=a.2.2.2.2.1) (a.2.2.2.2.2.1=a.2.2.2.2.2.1/\a.2.2.2.2.2.2.1=a.2.2.2.2.2.2.1/\ai (a.2.2.2.2.2.2.2.1=a.2.2.2.2.2.2.2.1))))))/\ ∀(d:Int),aD d (ae (bh a))->fE d (ae a.2.2.2.2.2.2.2.1) (d<ae a.2.2.2.2.2.2.2.1) (aG (af a.2.2.2.2.2.2.2.1
 d).2.2/\xl d (ae a.2.2.2.2.2.2.2.1) (ae (bh a)) (cT a.1.1 a.1.2.1 (a.1.2.2=a.1.2.2) (d6 a.2.1 a.2.2.1 a.2.2.2.1 (a.2.2.2.2.2.2.2.2=a.2.2.2.2.2.2.2.2) (pS (a.2.2.2.2.1=a.2.2.2.2.1) (a.2.2.2.2.2.1=a.2.2.2.2.2.1/\a.2.2.2.2.2.2.1=a.2.2.2.2.2.2.1/\ai (set a.2.2.2.2.2.2.2.1 d.toNat (af a.2.2.2.2.2.2.2.1 d)=a.2.2.2.2.2.2.2.1)))))) (j6 (ae a.2.2.2.2.2.2.2.2)) (a=a))))):= by
  delta af ae ap aU aG cH aA aZ cu ao bY fE cT Jt aY ai mq aD j6 mR av xl pS d6 z6 zl
  rintro d-⟨h1,h2,i,h4,h5,h6,h7,h8,h9⟩
  have i:(d.2.2.2.2.2.1.length:Int)<=1000000:=i
  have eS:dc d=d.2.2.2.2.1:=rfl
  have eF:aP d=d.2.2.2.2.2.2.1:=rfl
  have eD:bh d=d.2.2.2.2.2.2.2.1:=rfl
  simp only[eS,eF,eD] at *
  refine⟨h1,h2,⟨0,⟨ab,ab⟩,aK⟩,?_⟩
  rintro j ⟨g,j1⟩
  refine bP (λc=>?_) (λc=>?_)
  .have l:=h7 _ (cA g c)
   have h:((d.2.2.2.2.1.getD j.toNat default).2.2.1.length:Int)<=1000000:=l.1
   have e:d.2.2.2.2.1.set j.toNat (d.2.2.2.2.1.getD j.toNat default)=d.2.2.2.2.1:=yw g c
   refine⟨g,c,ab,l.2,g,c,g,by rw[fF];exact c,j+1,⟨ab,ab⟩,ab,?_⟩
   (repeat refine fR ?_)
   grind
  refine⟨ab,h4,⟨0,⟨ab,ab⟩,aK⟩,?_⟩
  rintro k ⟨b,k1⟩
  refine bP (λa=>?_) (λa=>?_)
  .have h:((d.2.2.2.2.2.2.1.getD k.toNat default).2.2.2.2.2.length:Int)<=1000000:=h8 _ (cA b a)
   refine⟨b,a,ab,b,a,k+1,⟨ab,ab⟩,ab,?_⟩
   (repeat refine fR ?_)
   exact⟨yw b a,aN⟩
  refine⟨h5,⟨0,⟨ab,ab⟩,aK⟩,?_⟩
  rintro k ⟨b,k1⟩
  refine bP (λa=>?_) (λa=>?_)
  .have h:((d.2.2.2.2.2.2.2.1.getD k.toNat default).2.2.length:Int)<=1000000:=h9 _ (cA b a)
   refine⟨b,a,ab,b,a,k+1,⟨ab,ab⟩,ab,?_⟩
   (repeat refine fR ?_)
   simp_all
  exact⟨h6,aN⟩
theorem XT:aB 64 Tq.spec:=aF Tryz.func64 (am (am (am (am (am (am (am (am aC Xg) aU5) yi) Yf) bQ4) na) Ym) QX) bm4 bA9
def xc(x y:Flight):Int:=if fc (aW x) (aW y)≠0 then fc (aW x) (aW y) else fc (pK x) (pK y)
def bv8:Ct:=⟨[.agg mP,.agg mP],[.val cI],λ_=>[],λd=>((xc d.1 d.2.1,()),())⟩
theorem br9:
 ∀(a b c d e:Int)(f:ac)(g h i j k:Int)(l:ac),oZ a b c d e f/\ai (oZ g h i j k l)->True->py (fc a g::bN (fc b h))=xc (a,b,c,d,e,f) (g,h,i,j,k,l):= by
  delta aq aI aV bG bN ai aD oZ
  rintro a c a3 a4 a5 a6 b d b3 b4 b5 b6 - -
  have e:xc (a,c,a3,a4,a5,a6) (b,d,b3,b4,b5,b6)=if fc a b≠0 then fc a b else fc c d:=rfl
  simp only[py]
  grind
theorem au4:aB 150 bv8.spec:=aF Tryz.func150 (am (am aC IK) GM) aS br9
instance (a b:Flight):Decidable (iS a b):=by unfold iS;infer_instance
def iV(l:List Flight)(t:Flight):Int:=((l.takeWhile λx=>decide (iS x t)).length:Int)
theorem a21{x y:Flight}:xc x y<0↔iS x y:=by
 unfold xc fc iS
 grind
theorem bu5{x y z:Flight}(h:iS x y)(k:iS y z):iS x z:=by unfold iS at *;omega
theorem Oh(l:List Flight)(t:Flight):0<=iV l t/\iV l t<=l.length:=by
 unfold iV
 have:=fj length (xu (p:=λx=>decide (iS x t)) (l:=l))
 grind
theorem Vc:∀{l:List Flight}{t:Flight}{h:Nat},l.Pairwise iS->h<l.length->(iS (l.getD h default) t↔(h:Int)<iV l t)
 | a::l,t,h,hs,hh=>by
  obtain⟨s1,s2⟩:=List.pairwise_cons.1 hs;by_cases b:iS a t
  .have e:iV (a::l) t=iV l t+1:=by unfold iV;rw[List.takeWhile_cons_of_pos (by simpa using b),dP];omega
   cases h with
   | zero =>
    have:=Oh l t;grind
   | succ h =>
    simp only[List.getD_cons_succ];rw[Vc s2 (by simpa using hh),e];omega
  .have e:iV (a::l) t=0:=by unfold iV;rw[List.takeWhile_cons_of_neg (by simpa using b)];rfl
   constructor
   .intro k;exfalso;cases h with
    | zero=>exact b k
    | succ h =>
     have hh:h<l.length:=by simpa using hh
     have hm:l.getD h default∈l:=by rw[ct,cM hh];exact List.getElem_mem hh
     exact b (bu5 (s1 _ hm) k)
   .omega
theorem Xe{l:List Flight}{t:Flight}{h:Int}(hs:l.Pairwise iS)(h0:0<=h)(h1:h<l.length):xc (l.getD h.toNat default) t<0↔h<iV l t:=by
 rw[a21,Vc hs ab]
 rw[Int.toNat_of_nonneg h0]
def QJ:Ct:=⟨[.val (.sl mP),.agg mP,.fn 150 0],[.val cI,.val .bool],λd=>[d.1.Pairwise iS],λd=>((iV d.1 d.2.1,(bif decide (iV d.1 d.2.1<d.1.length) then decide (xc (d.1.getD (iV d.1 d.2.1).toNat default) d.2.1=0) else false),()),())⟩
def bO9:bp QJ.ps->bI:=(λd=>{loops:=(bt 3 (λS=>{ι:=Int×Int,qn:=eO,μ:=λi=>(i.2-i.1).toNat,inv:=λi=>0<=i.1/\i.1<=iV d.1 d.2.1/\iV d.1 d.2.1<=i.2/\i.2<=d.1.length,keep:=[0,2,4,8],slots:=λi=>[(9,.int .i64 i.1),(10,.int .i64 i.2)],keepN:=[80]}) bZ)})
theorem a07:
 ∀(a:List Flight)(b c d e f:Int)(g:ac),tK a/\oZ b c d e f g/\ai True->List.Pairwise iS a->(∃(h i:Int),bM h (iV a (b,c,d,e,f,g)) (iV a (b,c,d,e,f,g)<=i) (i<=ae a)/\a=a/\aA (ae a) (0=h) (ae a=i/\ce b c d e f (g=g) True))/\ ∀(h i:Int),bM h (iV a (b,c,d,e,f,g)) (iV a (b,c,d,e,f,g)<=i) (i<=ae a)->au (av h i) (ao 1 (0<=uz h i) (uz h i<ae a/\au (dw (xc (af a (uz h i)) (b,c,d,e,f,g))) (∃(j k:Int),bM j (iV a (b,c,d,e,f,g)) (iV a (b,c,d,e,f,g)<=k) (k<=ae a)/\cu (k -j) (i -h)/\a=a/\aA (ae a) (aY (uz h i) j) (i=k/\ce b c d e f (g=g) True)) (∃(j k:Int),bM j (iV a (b,c,d,e,f,g)) (iV a (b,c,d,e,f,g)<=k) (k<=ae a)/\cu (k -j) (i -h)/\a=a/\aA (ae a) (h=j) (uz h i=k/\ce b c d e f (g=g) True)))) (∀(j:Bool),j=av h (ae a)->(j->iM j j h (h<ae a))/\cG j j ((j->j)/\d7 j) (j->aT j) ((j->j)/\h=iV a
 (b,c,d,e,f,g)/\bw j (eG (xc (af a h) (b,c,d,e,f,g)))=bw (av (iV a (b,c,d,e,f,g)) (ae a)) (eG (xc (af a (iV a (b,c,d,e,f,g))) (b,c,d,e,f,g))))):= by
  delta af ae ap aq aI aV aT aU bG aA cG bw cu ao tK iM aY ce ai uz aD dw d7 bM av oZ eG
  rintro x c d e f g k ⟨⟨hl,-⟩,-⟩ hs
  simp only[maxLen] at hl
  obtain⟨q0,q1⟩:=Oh x (c,d,e,f,g,k)
  refine⟨⟨0,x.length,⟨ab,q0,q1,ab⟩,aK⟩,?_⟩
  rintro i j ⟨l,h1,h2,h3⟩
  refine bP (λhb=>?_) (λhb=>?_)
  .rw[WC l ab ab]
   refine⟨ab,ab,ab,bP (λa=>?_) (λa=>?_)⟩
   .have a:=(Xe hs ab ab).1 a
    exact⟨(i+j)/2+1,j,⟨ab,ab,h2,h3⟩,ab,aK⟩
   .have a:¬ (i+j)/2<iV x (c,d,e,f,g,k):=λh=>absurd ((Xe hs ab ab).2 h) a
    exact⟨i,(i+j)/2,⟨l,h1,ab,ab⟩,ab,aK⟩
  .grind
theorem aL1:aB 149 QJ.spec:=aF Tryz.func149 (am aC au4) bO9 a07
theorem Vt{α:Type}{p q:α->Bool}:∀{l:List α},(∀ x∈l,p x=q x)->l.takeWhile p=l.takeWhile q/\l.dropWhile p=l.dropWhile q
 | [],_=>⟨rfl,rfl⟩
 | a::l,h=>by
  obtain⟨h1,h2⟩:=Vt (l:=l) λx hx=>h x (fu _ hx);have ha:=h a (fp ..);rw[List.takeWhile_cons,List.takeWhile_cons,List.dropWhile_cons,List.dropWhile_cons,ha,h1,h2];exact⟨rfl,rfl⟩
theorem aJ0{l:List Flight}{f:Flight}(hf:∀ x∈l,pK x<pK f):l.take (iV l f).toNat++([f]++l.drop (iV l f).toNat)=iJ l f:=by
 obtain⟨e1,e2⟩:=Vt (p:=λx=>decide (iS x f)) (q:=λx=>decide (aW x<=aW f)) (l:=l) λx hx=>by
  have:=hf x hx;apply decide_eq_decide.2;unfold iS;omega
 have k:=xu (p:=λx=>decide (iS x f)) (l:=l)
 have t1:∀ A B:List Flight,A++B=l->l.take A.length=A/\l.drop A.length=B:=by
  rintro A B rfl;exact⟨List.take_left' rfl,List.drop_left' rfl⟩
 obtain⟨t2,t3⟩:=t1 _ _ k
 unfold iV
 rw[Int.toNat_natCast,t2,t3]
 unfold iJ
 rw[e1,e2]
 rfl
def a97:Ct:=⟨[.box 37 CW,.agg mP],[],λd=>[(aP d.1).Pairwise iS,∀ x∈aP d.1,pK x<cV d.1,(aP d.1).length<=4096],λd=>((),(DB d.1 d.2.1,()))⟩
def vV(a:List NState)(b:ac)(c:List Flight)(d:List gJ)(e:List kx):=wM a/\cB b/\tK c/\qm d/\yT e
def Bo(a:Go.RS.Net×Int×Int×Int×List Go.RS.NState×ac×List Go.RS.Flight×List Go.RS.Del×List Go.RS.EndR):=∀(b:Flight),b∈aP a->pK b<cV a
theorem bz8:
 ∀(a:List ar)(b:List bc)(c:List bV)(d e f:Int)(g:List NState)(h:ac)(i:List Flight)(j:List gJ)(k:List kx)(l m n o p:Int)(q:ac),(f7 a b c/\bG d e (aq f) (vV g h i j k))/\ai (oZ l m n o p q)->List.Pairwise iS (aP ((a,b,c),d,e,f,g,h,i,j,k))/\Bo ((a,b,c),d,e,f,g,h,i,j,k)/\length (aP ((a,b,c),d,e,f,g,h,i,j,k))<=4096->List.Pairwise iS i/\length [(l,e,n,o,p,q)]=1/\bM (iV i (l,e,n,o,p,q)) (ae i) (bv ((i.length+1)*64)) (((a,b,c),d,ap (e+1),f,g,h,take (toNat (iV i (l,e,n,o,p,q))) i++([(l,e,n,o,p,q)]++drop (toNat (iV i (l,e,n,o,p,q))) i),j,k)=DB ((a,b,c),d,e,f,g,h,i,j,k) (l,m,n,o,p,q)):= by
  delta ae ap aq aI aV aQ f7 kF cO cS cB ji bG jt vV ao tK wM bv qm gM yT ai kC aD bM Bo oZ fB
  rintro ns ls hs now ord dn sts cr fl dl en a b c e f g-⟨h1,h2,h3⟩
  have h1:fl.Pairwise iS:=h1
  have h2:∀ x∈fl,pK x<ord:=h2
  have h3:fl.length<=4096:=h3
  obtain⟨q0,q1⟩:=Oh fl (a,ord,c,e,f,g)
  refine⟨h1,rfl,q0,q1,ab,?_⟩
  rw[aJ0 (f:=(a,ord,c,e,f,g)) h2]
  rfl
theorem Tw:aB 72 a97.spec:=aF Tryz.func72 (am (am aC aL1) ah7) aS bz8
def X9:Ct:=⟨[.box 37 CW],[],λd=>[xN d.1],λd=>((),(cY d.1,()))⟩
def bD5:bp X9.ps->bI:=(λd=>{loops:=(bt 0 (λS=>{ι:=Int×(List NState),qn:=eO,μ:=λi=>((aH d.1).2.2.length-i.1).toNat,inv:=λi=>xN (sZ (jU d.1 i.2) i.1)/\cY (sZ (jU d.1 i.2) i.1)=cY d.1,keep:=[0],slots:=λi=>[],keepN:=[2097153,2097154,2097155,2097156],names:=λi=>[(1048576,.live (.cells 37 (cQ kJ d.1.1++[.int .i64 d.1.2.1,.int .i64 d.1.2.2.1,.int .i64 i.1,.own 524288 6,.own 2097153 1,.own 2097154 6,.own 2097155 3,.own 2097156 5]))),(524288,.live (.row 184 pi i.2))]}) bZ)})
theorem bt8:
 ∀(a:List ar)(b:List bc)(c:List bV)(d e f:Int)(g:List NState)(h:ac)(i:List Flight)(j:List gJ)(k:List kx),ai (f7 a b c/\bG d e (aq f) (vV g h i j k))->gP ((a,b,c),d,e,f,g,h,i,j,k)∨c=[]/\dU ((a,b,c),d,e,f,g,h,i,j,k)=0->(∃(l:Int) (m:List NState),(xN (sZ (jU ((a,b,c),d,e,f,g,h,i,j,k) m) l)/\cY (sZ (jU ((a,b,c),d,e,f,g,h,i,j,k) m) l)=cY ((a,b,c),d,e,f,g,h,i,j,k))/\mq h i j (k=k) (cT a b (c=c) (aU d e (f=l) (ai (g=m)))))/\ ∀(l:Int)(m:List NState),xN (sZ (jU ((a,b,c),d,e,f,g,h,i,j,k) m) l)/\cY (sZ (jU ((a,b,c),d,e,f,g,h,i,j,k) m) l)=cY ((a,b,c),d,e,f,g,h,i,j,k)-> ∀(n:Bool),n=av l (ae c)->vl n n (aT n) (n->aT n) (cG n n (iM n n l (l<ae c)) (n->aT n) (cG n n (aT n) (n->aT n) (cG n n (d7 n) (n->n) (au (bw n (decide ((af c l).1<=d))) (ao l (l<ae c) (fw
 (jA c l) (ae m) (af c l).2.2.1 (dS (af m (jA c l)).1/\okL (af m (jA c l)).1/\ ∃(o:Int) (p:List NState),(xN (sZ (jU ((a,b,c),d,e,f,g,h,i,j,k) p) o)/\cY (sZ (jU ((a,b,c),d,e,f,g,h,i,j,k) p) o)=cY ((a,b,c),d,e,f,g,h,i,j,k))/\aZ (ae c) o l/\mq h i j (k=k) (cT a b (c=c) (aU d e (aY l o) (ai (set m (toNat (jA c l)) (lM (af m (jA c l)).1 (af c l).2.2.2.1,(af m (jA c l)).2)=p))))) (dS (af m (jA c l)).1/\okL (af m (jA c l)).1/\aG (af c l).2.2.2.2.1/\ ∃(o:Int) (p:List NState),(xN (sZ (jU ((a,b,c),d,e,f,g,h,i,j,k) p) o)/\cY (sZ (jU ((a,b,c),d,e,f,g,h,i,j,k) p) o)=cY ((a,b,c),d,e,f,g,h,i,j,k))/\aZ (ae c) o l/\mq h i j (k=k) (cT a b (c=c) (aU d e (aY l o) (ai (set m (toNat (jA c l)) (iu (af m (jA c l)).1 (af c l).2.2.2,(af m
 (jA c l)).2)=p))))))) (((a,b,c),d,e,l,m,h,i,j,k)=cY ((a,b,c),d,e,f,g,h,i,j,k)))))):= by
  delta af ae ap aq aI aV aQ aT f7 kF cO cS cB aU ji aG bG cH aA cG aZ bw jt cu vV ao tK wM qm gM yT cT iM aY ai kC mq aD d7 av vl oZ jA fw fB
  rintro ns ls hs now ord dn0 sts cr fl dl en ⟨⟨⟨-,-,⟨hl,-⟩⟩,-⟩,-⟩ h
  simp only[maxLen] at hl
  refine⟨⟨dn0,sts,⟨h,rfl⟩,aK⟩,?_⟩
  rintro dn st ⟨hv,he⟩
  obtain⟨v,hw⟩:∃ v:aJ,v=sZ (jU ((ns,ls,hs),now,ord,dn0,sts,cr,fl,dl,en) st) dn:=⟨_,rfl⟩
  rw[← hw] at hv he
  have hdn:dU v=dn:=by rw[hw];rfl
  have hd0:0<=dn:=by rcases hv with q|q;have:=q.done.1;omega;have:=q.2;omega
  (repeat (refine dq ?_;repeat refine dm ?_))
  refine z8 (λh1 h2=>?_) (λh12=>?_)
  rotate_left
  .rw[← he,ao6,hw]
   .rfl
   .intro k
    unfold nS at k
    rw[hw,fe] at k
    rcases h12 with q|q
    .exact absurd (k.1.symm.trans q) aw
    .exact absurd (k.2.symm.trans q) aw
  have hd1:dn<hs.length:=aX h1
  have hv:gP v:=hv.resolve_right λq=>by
   have q1:hs=[]:=by have:=q.1;rw[hw] at this;exact this
   rw[q1] at hd1;simp at hd1;omega
  have hdue:nS v=true:=by
   unfold nS
   rw[hw,fe]
   exact⟨h1,h2⟩
  have eN:aH v=(ns,ls,hs):=by rw[hw];rfl
  have eS:dc v=st:=by rw[hw];rfl
  have hk:dn.toNat<(aH v).2.2.length:=by rw[eN];show dn.toNat<hs.length;omega
  obtain⟨-,⟨w0,w1⟩,hc⟩:=Ih hv.net hk
  have hlen:=hv.len
  have hsw:=hv.chg hdue
  have hst:=(aH6 hv hdue).symm.trans he
  rw[eN,eS] at hlen
  rw[eN] at w0 w1 hc
  have hlen:st.length=ns.length:=hlen
  obtain⟨c,ec⟩:∃ c:bV,c=hs.getD dn.toNat default:=⟨_,rfl⟩
  have w0:0<=cZ c:=by rw[ec];exact w0
  have w1:cZ c<ns.length:=by rw[ec];exact w1
  have hi:(cZ c).toNat<(aH v).1.length:=by rw[eN];show (cZ c).toNat<ns.length;omega
  obtain⟨c1,c2⟩:=Bp (hv.chk hi)
  rw[eS] at c1 c2
  have et:lY v=c:=by rw[ec,hw];rfl
  have ed:dU v=dn:=by rw[hw];rfl
  have ev:jX v=sZ (jU ((ns,ls,hs),now,ord,dn0,sts,cr,fl,dl,en) (st.set (cZ c).toNat (Ny (st.getD (cZ c).toNat default) (jw (cR (st.getD (cZ c).toNat default)) c)))) (dn+1):=by
   unfold jX
   rw[et,ed,eS,aL ab ab,hw]
   rfl
  rw[ev] at hsw hst
  have wd:IntKind.i64.wrap (dn+1)=dn+1:=aL ab ab
  rw[← ec]
  refine⟨hd0,hd1,w0,by rw[hlen];exact w1,ay (λhr=>?_) (λhr=>?_)⟩
  .have er:jw (cR (st.getD (cZ c).toNat default)) c=lM (cR (st.getD (cZ c).toNat default)) (gE c).1:=by unfold jw;exact aj hr
   rw[er] at hsw hst
   refine⟨c1,c2,dn+1,_,⟨.inl hsw,hst⟩,by show (hs.length-(dn+1)).toNat<(hs.length-dn).toNat;omega,?_⟩
   (repeat refine fR ?_)
   exact⟨rfl,aN⟩
  .have er:jw (cR (st.getD (cZ c).toNat default)) c=iu (cR (st.getD (cZ c).toNat default)) (gE c):=by unfold jw;rw[ah (by rw[show xw c=false from hr];simp)]
   have hin:((gE c).2.1.length:Int)<=1099511627776:=by
    have hc':=(Bp hc).2.2
    rw[← ec] at hc'
    have e2:jw ((gp (ns,ls,hs) dn.toNat).getD (cZ c).toNat default) c=iu ((gp (ns,ls,hs) dn.toNat).getD (cZ c).toNat default) (gE c):=by unfold jw;rw[ah (by rw[show xw c=false from hr];simp)]
    have hc2:okL (iu ((gp (ns,ls,hs) dn.toNat).getD (cZ c).toNat default) (gE c)):=by
     have:=(Bp hc).2
     rw[← e2,ec];exact this
    exact hc2.2 _ (by unfold iu;simp)
   rw[er] at hsw hst
   refine⟨c1,c2,hin,dn+1,_,⟨.inl hsw,hst⟩,by show (hs.length-(dn+1)).toNat<(hs.length-dn).toNat;omega,?_⟩
   (repeat refine fR ?_)
   exact⟨rfl,aN⟩
theorem Yk:aB 67 X9.spec:=aF Tryz.func67 (am (am aC WU) Tr) bD5 bt8
def ab1:Ct:=⟨[.box 37 CW,.agg mP,.val cI,.val cI],[],λd=>[((dX d.1).length:Int)<=1000000000000],λd=>((),(qC d.1 d.2.1 d.2.2.1 d.2.2.2.1,()))⟩
theorem bF8:
 ∀(a:List ar)(b:List bc)(c:List bV)(d e f:Int)(g:List NState)(h:ac)(i:List Flight)(j:List gJ)(k:List kx)(l m n o p:Int)(q:ac)(r s:Int),(f7 a b c/\bG d e (aq f) (vV g h i j k))/\oZ l m n o p q/\dI r s->j6 (ae (dX ((a,b,c),d,e,f,g,h,i,j,k)))->bv ((k.length+length [(p,l,n,r,s)])*40)/\((a,b,c),d,e,f,g,h,i,j,k++[(p,l,n,r,s)])=qC ((a,b,c),d,e,f,g,h,i,j,k) (l,m,n,o,p,q) r s:= by
  delta ae aq aI aV aQ f7 kF cO cS cB ji bG jt vV tK wM bv qm gM yT dI ai kC aD j6 oZ fB
  rintro ns ls hs now ord dn sts cr fl dl en a b c e f g l r-h
  have h:(en.length:Int)<=1000000000000:=h
  exact⟨by simp only[gC];omega,rfl⟩
theorem U1:aB 143 ab1.spec:=aF Tryz.func143 aC aS bF8
def QH(n:Int):Int:=IntKind.u64.wrap n
def aS4:Ct:=⟨[.box 37 CW,.agg mP,.agg AA],[],λd=>[(aP d.1).Pairwise iS,∀ x∈aP d.1,pK x<cV d.1,(aP d.1).length<=4096,((dX d.1).length:Int)<=1000000000000,(iI d.1).length=(aH d.1).2.1.length,0<=d.2.2.1.1,d.2.2.1.1<(aH d.1).2.1.length,nY (aH d.1).1.length (fU d.1 d.2.2.1.1)],λd=>((),(iw d.1 d.2.1 d.2.2.1,()))⟩
def PH(a:Int)(b:List bc)(c:Int)(d:ac):=vz (a+(af b c).2.2.1) (Int.tmod (IntKind.wrap IntKind.u64 (Int.tdiv (oz (bits BinOp.xor IntKind.u64 (oz (IntKind.wrap IntKind.u64 (af b c).2.2.2.2.2)) (IntKind.wrap IntKind.u64 (af d c)))) 65536)) (IntKind.wrap IntKind.u64 (ap ((af b c).2.2.2.1+1))))
theorem bt4:
 ∀(a:List ar)(b:List bc)(c:List bV)(d e f:Int)(g:List NState)(h:ac)(i:List Flight)(j:List gJ)(k:List kx)(l m n o p:Int)(q:ac)(r:Int)(s:ac),(f7 a b c/\bG d e (aq f) (vV g h i j k))/\oZ l m n o p q/\ai (aq r/\aV s)->List.Pairwise iS (aP ((a,b,c),d,e,f,g,h,i,j,k))/\Bo ((a,b,c),d,e,f,g,h,i,j,k)/\length (aP ((a,b,c),d,e,f,g,h,i,j,k))<=4096/\j6 (ae (dX ((a,b,c),d,e,f,g,h,i,j,k)))/\length (iI ((a,b,c),d,e,f,g,h,i,j,k))=b.length/\ao r (r<ae b) (ao (lA (fU ((a,b,c),d,e,f,g,h,i,j,k) r)) (lA (fU ((a,b,c),d,e,f,g,h,i,j,k) r)<ae a) (bu (lB (fU ((a,b,c),d,e,f,g,h,i,j,k) r)) (ae a) (lA (fU ((a,b,c),d,e,f,g,h,i,j,k) r)≠lB (fU ((a,b,c),d,e,f,g,h,i,j,k) r)) (1<=qi (fU ((a,b,c),d,e,f,g,h,i,j,k) r)/\qi (fU ((a,b,c),d,e,f,g,h,i,j,k) r)<=1073741824/\ao (me (fU ((a,b,c),d,e,f,g,h,i,j,k) r))
 (me (fU ((a,b,c),d,e,f,g,h,i,j,k) r)<=1073741824) (aD (wn (fU ((a,b,c),d,e,f,g,h,i,j,k) r)) 65536))))->ao r (r<ae b) (ao r (r<ae h) (ao r (r<ae h) (bu r (ae h) ((65536:Int)≠(0:Int)) (au (av (Int.tmod (oz (bits BinOp.xor IntKind.u64 (oz (IntKind.wrap IntKind.u64 (af b r).2.2.2.2.2)) (IntKind.wrap IntKind.u64 (af h r)))) 65536) (IntKind.wrap IntKind.u64 (af b r).2.2.2.2.1)) (j6 (ae (dX ((a,b,c),d,e,f,g,o6 h r,i,j,k)))/\((a,b,c),d,e,f,g,o6 h r,i,j,dX ((a,b,c),d,e,f,g,o6 h r,i,j,k)++[(pk (l,m,n,o,p,q),aW (l,m,n,o,p,q),bR (l,m,n,o,p,q),r,3)])=iw ((a,b,c),d,e,f,g,h,i,j,k) (l,m,n,o,p,q) (r,s)) ((65536:Int)≠(0:Int)/\IntKind.wrap IntKind.u64 (ap ((af b r).2.2.2.1+1))≠0/\ ∀(t:Bool),t=tc (PH d b r h)->cX t (bO t) (cX t (br t) (au (bn t (decide (4096<=ae i))) (j6 (ae (dX ((a,b,c),d,e,f,g,o6 h
 r,i,j,k)))/\((a,b,c),d,e,f,g,o6 h r,i,j,dX ((a,b,c),d,e,f,g,o6 h r,i,j,k)++[(pk (l,m,n,o,p,q),aW (l,m,n,o,p,q),bR (l,m,n,o,p,q),r,7)])=iw ((a,b,c),d,e,f,g,h,i,j,k) (l,m,n,o,p,q) (r,s)) (List.Pairwise iS (aP ((a,b,c),d,e,f,g,o6 h r,i,j,k))/\Bo ((a,b,c),d,e,f,g,o6 h r,i,j,k)/\length (aP ((a,b,c),d,e,f,g,o6 h r,i,j,k))<=4096/\((a,b,c),d,ap (cV ((a,b,c),d,e,f,g,o6 h r,i,j,k)+1),f,g,o6 h r,iJ (aP ((a,b,c),d,e,f,g,o6 h r,i,j,k)) (aW (PH d b r h,0,jG b r n,r,p,s),cV ((a,b,c),d,e,f,g,o6 h r,i,j,k),jG b r n,r,p,s),j,k)=iw ((a,b,c),d,e,f,g,h,i,j,k) (l,m,n,o,p,q) (r,s))))))))):= by
  delta af ae ap aq aI bO aV aQ aT f7 kF cO cS cB ji bG bn jt cX vV ao br tK wM qm gM yT o6 ai kC aD PH bu j6 av Bo oZ tc vz fB
  rintro ns ls hs now ord dn sts cr fl dl en a b c e f g k o-⟨h1,h2,h3,h4,h5,h6,h7,h8⟩
  obtain⟨w,hw⟩:∃ w:aJ,w=((ns,ls,hs),now,ord,dn,sts,cr,fl,dl,en):=⟨_,rfl⟩
  obtain⟨x,hx⟩:∃ x:Flight,x=(a,b,c,e,f,g):=⟨_,rfl⟩
  have h8:nY ns.length (fU w k):=by rw[hw];exact h8
  have h4:(en.length:Int)<=1000000000000:=h4
  have h5:cr.length=ls.length:=h5
  have h7:k<(ls.length:Int):=h7
  obtain⟨-,-,-,-,-,d1,d2,j1,j2,l1,l2⟩:=h8
  have eL:fU w k=ls.getD k.toNat default:=by rw[hw];rfl
  have eC:oY w k=cr.getD k.toNat default:=by rw[hw];rfl
  have e1:IntKind.i64.wrap (me (fU w k)+1)=me (fU w k)+1:=aL ab ab
  have e2:IntKind.u64.wrap (me (fU w k)+1)=me (fU w k)+1:=Oc ab ab
  refine⟨h6,h7,h6,ab,h6,ab,h6,ab,bo,ay (λhl=>?_) (λhl=>⟨bo,?_,?_⟩)⟩
  .have hl:=aX hl
   have ec:iw w x (k,o)=qC (ya w ((iI w).set k.toNat (IntKind.i64.wrap (oY w k+1)))) x k 3:=by
    unfold iw
    exact aj (by rw[eL,eC];exact hl)
   rw[← hw,← hx,ec,hw,hx]
   exact⟨h4,rfl⟩
  .show QH (IntKind.i64.wrap (me (ls.getD k.toNat default)+1))≠0
   unfold QH
   rw[← eL,e1,e2];omega
  have hl:=bi hl
  have hm:=QD (bits .xor .u64 (oz (IntKind.wrap .u64 (zg (fU w k)))) (IntKind.wrap .u64 (oY w k)))
  have eq:IntKind.u64.wrap (Int.tdiv (xo (fU w k) (oY w k)) 65536)=Int.tdiv (xo (fU w k) (oY w k)) 65536:=by
   unfold xo
   rw[KG hm.1]
   exact Oc ab ab
  have eo:o9 w k=IntKind.i64.wrap (IntKind.i64.wrap (now+(ls.getD k.toNat default).2.2.1)+IntKind.i64.wrap (Int.tmod (IntKind.u64.wrap (Int.tdiv (xo (ls.getD k.toNat default) (cr.getD k.toNat default)) 65536)) (IntKind.u64.wrap (IntKind.i64.wrap ((ls.getD k.toNat default).2.2.2.1+1))))):=by
   unfold o9 D9
   rw[← eL,← eC,eq,hw]
   rfl
  have fin:∀ over:Int,o9 w k=over→∀ b:Bool,b=decide (1125899906842624<over)->au (bif b then true else decide (4096<=(fl.length:Int))) (((dX (ya w (cr.set k.toNat (IntKind.i64.wrap (cr.getD k.toNat default+1))))).length:Int)<=1000000000000/\qC (ya w (cr.set k.toNat (IntKind.i64.wrap (cr.getD k.toNat default+1)))) x k 7=iw w x (k,o))
    (fl.Pairwise iS/\(∀ z∈fl,pK z<ord)/\fl.length<=4096/\DB (ya w (cr.set k.toNat (IntKind.i64.wrap (cr.getD k.toNat default+1)))) (over,0,jG ls k c,k,f,o)=iw w x (k,o)):=by
   rintro over rfl b rfl
   have e0:iw w x (k,o)=if 1125899906842624<o9 w k∨(4096:Int)<=(aP w).length then qC (ya w ((iI w).set k.toNat (IntKind.i64.wrap (oY w k+1)))) x k 7 else DB (ya w ((iI w).set k.toNat (IntKind.i64.wrap (oY w k+1)))) (o9 w k,0,jG (aH w).2.1 k (bR x),k,pk x,o):=by
    unfold iw
    exact ah (by rw[eL,eC];exact hl)
   have em:aP w=fl:=by rw[hw];rfl
   refine vL (λho=>?_) (λq1 q2=>?_)
   .refine⟨by rw[hw];exact h4,?_⟩
    rw[e0,aj (by rw[em];rcases ho with q|q;exact .inl (aX q);exact .inr (aX q)),hw]
    rfl
   .refine⟨h1,h2,h3,?_⟩
    rw[e0,ah (by rw[em];rintro (q|q);exact absurd q (bi q1);exact absurd q (bi q2)),hw,hx]
    rfl
  rw[hx,hw] at fin
  intro b hb
  have:=fin _ (hw▸eo) b hb
  (repeat refine⟨(by first|(simp;done)|(rw[hb];simp;done)|(rw[hb];simp;omega)),?_⟩)
  exact this
theorem ZA:aB 144 aS4.spec:=aF Tryz.func144 (am (am (am (am aC Wn) U1) aH3) Tw) aS bt4
def Rs:Ct:=⟨[.box 37 CW],[],λd=>[zO d.1,aP d.1≠[]],λd=>((),(eJ d.1,()))⟩
def aT9:bp Rs.ps->bI:=(λd=>{cuts:=(bt 8 (λS=>{ι:=aJ,inv:=λi=>i=pM d.1,keep:=[0,2,4,5],slots:=λi=>[],keepN:=[48,80],names:=λi=>[(1048576,.live (.cells 37 (cQ kJ (aH i)++[.int .i64 (bf i),.int .i64 (cV i),.int .i64 (dU i),.own 524288 6,.own 524289 1,.own 524290 6,.own 524291 3,.own 524292 5]))),(524288,.live (.row 184 pi (dc i))),(524289,.live (.row 3 cI (iI i))),(524290,.live (.row 200 mP (aP i))),(524291,.live (.row 159 tf (bh i))),(524292,.live (.row 240 Bg (dX i)))]}) (bt 10 (λS=>{ι:=aJ,inv:=λi=>i=kw d.1,keep:=[0,2,4],slots:=λi=>[],keepN:=[48,80],names:=λi=>[(1048576,.live (.cells 37 (cQ kJ (aH i)++[.int .i64 (bf i),.int .i64 (cV i),.int .i64 (dU i),.own 524288 6,.own 524289 1,.own 524290 6,.own 524291 3,.own 524292 5]))),(524288,.live (.row 184 pi (dc i))),(524289,.live (.row 3 cI (iI i))),(524290,.live (.row 200 mP (aP i))),(524291,.live (.row 159 tf (bh i))),(524292,.live (.row 240 Bg (dX i)))]}) bZ))})
def pZ(a:List Flight):=(af a 0).2.2.1
def u7(a:List Flight):=(af a 0).2.2.2.2.2
def XK(a b:aJ)(c d:Int)(e f:Prop):=(aH a).1=(aH b).1/\(aH a).2.1=(aH b).2.1/\(aH a).2.2=(aH b).2.2/\bf a=bf b/\cV a=cV b/\c=d/\e/\f
def Od(a:Int)(b:List Flight)(c:Int)(d:ac)(e f:Prop):=ce a (af b 0).1 (af b 0).2.1 (pZ b) (af b 0).2.2.2.1 ((af b 0).2.2.2.2.1=(af b 0).2.2.2.2.1) (u7 b=u7 b/\aA c (d=d) (e/\f))
def Ic(a:List ar)(b:List Flight)(c:List NState):=gO (af a (pZ b)) (af c (pZ b)) (af b 0).2.2.2.1 (af b 0).1 (u7 b)
def O6(a:Int)(b:ac)(c d:aJ)(e f:List EndR):=aA a (b=b) (XK c d (dU c) (dU d) (dc c=dc d) (iI c=iI d/\aP c=aP d/\bh c=bh d/\ai (e=f)))
theorem aT4:
 ∀(a:List ar)(b:List bc)(c:List bV)(d e f:Int)(g:List NState)(h:ac)(i:List Flight)(j:List gJ)(k:List kx),ai (f7 a b c/\bG d e (aq f) (vV g h i j k))->zO ((a,b,c),d,e,f,g,h,i,j,k)/\(aP ((a,b,c),d,e,f,g,h,i,j,k)=[]->False)->ao 0 (0<ae i) (bM 1 (ae i) (xN ((a,b,c),(af i 0).1,e,f,g,h,drop 1 i,j,k)) (∀(l:List ar)(m:List bc)(n:List bV)(o p q:Int)(r:List NState)(s:ac)(t:List Flight)(u:List gJ)(v:List kx),((l,m,n),o,p,q,r,s,t,u,v)=cY ((a,b,c),(af i 0).1,e,f,g,h,drop 1 i,j,k)->ao (pZ i) (pZ i<ae l) (bu (pZ i) (ae r) (dS (cR (af r (pZ i)))) (okL (cR (af r (pZ i)))/\bY (mE (af r (pZ i)))/\bY (u7 i)/\ ∀(w:List ci)(x:Int)(y:ac)(z A B C:Int)(D:ac)(E:Int),(w,x,y,(z,A),B)=(Ic l i r).1/\(C,D)=(Ic l i r).2.1/\E=(Ic l i r).2.2->bu (pZ i) (ae
 r) (au (iO E) (bv ((u.length+length [((af i 0).1,pZ i,u7 i)])*40)/\ ∃(F:aJ),F=pM ((a,b,c),d,e,f,g,h,i,j,k)/\Od E i C D (l=(aH F).1) (m=(aH F).2.1/\n=(aH F).2.2/\o=bf F/\p=cV F/\q=dU F/\set r (toNat (pZ i)) (w,x,y,(z,A),B)=dc F/\s=iI F/\t=aP F/\u++[((af i 0).1,pZ i,u7 i)]=bh F/\ai (v=dX F))) (∃(F:aJ),F=pM ((a,b,c),d,e,f,g,h,i,j,k)/\Od E i C D (l=(aH F).1) (m=(aH F).2.1/\n=(aH F).2.2/\o=bf F/\p=cV F/\q=dU F/\set r (toNat (pZ i)) (w,x,y,(z,A),B)=dc F/\s=iI F/\t=aP F/\u=bh F/\ai (v=dX F)))) (∀(F:aJ),F=pM ((a,b,c),d,e,f,g,h,i,j,k)->au (bJ E) (j6 (ae (dX (aH F,F.2)))/\ ∃(G:aJ),G=kw ((a,b,c),d,e,f,g,h,i,j,k)/\ce (af i 0).1 (af i 0).2.1 (pZ i) (af i 0).2.2.2.1 (af i 0).2.2.2.2.1 (u7 i=u7 i) (O6 C D F G (dX (aH F,F.2)++[(pk (af i 0),aW (af i 0),bR (af
 i 0),(af i 0).2.2.2.1,E)]) (dX G))) (∃(G:aJ),G=kw ((a,b,c),d,e,f,g,h,i,j,k)/\ce (af i 0).1 (af i 0).2.1 (pZ i) (af i 0).2.2.2.1 (af i 0).2.2.2.2.1 (u7 i=u7 i) (O6 C D F G (dX F) (dX G)))/\ ∀(G:aJ),G=kw ((a,b,c),d,e,f,g,h,i,j,k)->au (av 0 (ae D)) (List.Pairwise iS (aP (aH G,G.2))/\Bo (aH G,G.2)/\length (aP (aH G,G.2))<=4096/\j6 (ae (dX (aH G,G.2)))/\length (iI (aH G,G.2))=length (aH G).2.1/\bu C (ae (aH G).2.1) (nY (length (aH G).1) (fU (aH G,G.2) C)) (iw (aH G,G.2) (af i 0) (C,D)=eJ ((a,b,c),d,e,f,g,h,i,j,k))) ((aH G,bf G,cV G,dU G,dc G,iI G,aP G,bh G,dX G)=eJ ((a,b,c),d,e,f,g,h,i,j,k))))))):= by
  delta af ae aq aI aV aQ f7 kF cO cS cB aU ji bG aA jt vV ao tK wM bv qm bJ gM bY yT ce ai kC pZ u7 aD bW bu bM j6 av XK Od Bo oZ Ic O6 iO fB
  rintro ns ls hs now ord dn sts cr fl dl en-⟨h,hne⟩
  obtain⟨f,r,rfl⟩:∃ f r,fl=f::r:=List.exists_cons_of_ne_nil hne
  obtain⟨w,hw⟩:∃ w:aJ,w=((ns,ls,hs),now,ord,dn,sts,cr,f::r,dl,en):=⟨_,rfl⟩
  have e0:(f::r).getD (toNat 0) default=f:=rfl
  have e1:drop 1 (f::r)=r:=rfl
  simp only[e0,e1]
  rw[← hw] at h ⊢
  have A:=h.at (w:=w) (f:=f) (r:=r) (by rw[hw];rfl)
  have ew:cK (gB w (aP w).tail) (aW (kR w))=((ns,ls,hs),f.1,ord,dn,sts,cr,r,dl,en):=by rw[A.eF,hw];rfl
  refine⟨ab,by simp only[dP];omega,ab,by simp only[dP];omega,by rw[← ew];exact .inl A.h0.weak,?_⟩
  rw[← ew]
  intro a1 a2 a3 a4 a5 a6 a7 a8 a9 a10 a11 hv
  have hv:((a1,a2,a3),a4,a5,a6,a7,a8,a9,a10,a11)=gq w:=hv
  have hi:(bR f).toNat<(aH (gq w)).1.length:=by have:=A.fk.nd;omega
  have hnd:=A.fk.nd
  have hlen:=A.s.len
  obtain⟨st,-⟩:=A.s.st _ hi
  have N:=yV A.s.net hi
  have hps:=st.ps
  have hn32:=N.n32
  have hdl:=h.d
  have hen:=h.e
  have E1:a1=(aH (gq w)).1:=by rw[← hv];rfl
  have E7:a7=dc (gq w):=by rw[← hv];rfl
  have E10:a10=bh w:=by rw[← A.dl,← hv];rfl
  have E11:a11=dX w:=by rw[← A.en,← hv];rfl
  have E9:a9=aP (gq w):=by rw[← hv];rfl
  have eH:l8 w=gO (a1.getD (bR f).toNat default) (a7.getD (bR f).toNat default) (js f) (aW f) (io f):=by unfold l8 bQ;rw[A.eF,E1,E7]
  have hfd:=A.fk.d
  refine⟨hnd.1,by rw[E1];exact hnd.2,hnd.1,by rw[E7,hlen];exact hnd.2,by rw[E7];exact st.srt,by rw[E7];exact st.okl,by rw[E7];show ((mE ((dc (gq w)).getD (bR f).toNat default)).length:Int)<=1000000;omega,by show ((io f).length:Int)<=1000000;omega,?_⟩
  intro b1 b2 b3 b4 b5 b6 o1 o2 why hh
  obtain⟨hh1,hh2,hh3⟩:=hh
  have hh1:(b1,b2,b3,(b4,b5),b6)=(l8 w).1:=by rw[eH];exact hh1
  have hh2:(o1,o2)=(l8 w).2.1:=by rw[eH];exact hh2
  have hh3:why=(l8 w).2.2:=by rw[eH];exact hh3
  have eA:Ag w=((a1,a2,a3),a4,a5,a6,a7.set (bR f).toNat (b1,b2,b3,(b4,b5),b6),a8,a9,a10,a11):=by unfold Ag;rw[A.eF,hh1,← hv];rfl
  refine⟨hnd.1,by rw[E7,hlen];exact hnd.2,?_⟩
  have lenD:((bh w).length:Int)<=999999999000:=ab
  have lenE:((dX w).length:Int)<=999999999000:=ab
  refine⟨bP (λk=>?_) (λk=>?_),?_⟩
  .have k:why=1:=k
   have eB:pM w=((a1,a2,a3),a4,a5,a6,a7.set (bR f).toNat (b1,b2,b3,(b4,b5),b6),a8,a9,a10++[(aW f,bR f,io f)],a11):=by
    rw[yY,aj (hh3▸k),eA,A.eF,← hv];rfl
   exact⟨by rw[E10];simp only[gC];omega,_,eB.symm,aK⟩
  .have k:¬ why=1:=k
   have eB:pM w=((a1,a2,a3),a4,a5,a6,a7.set (bR f).toNat (b1,b2,b3,(b4,b5),b6),a8,a9,a10,a11):=by
    rw[yY,ah (hh3▸k),eA,← hv];rfl
   exact⟨_,eB.symm,aK⟩
  rintro B rfl
  have eBn:dX (pM w)=dX w:=by rw[yY];show dX (Ag w)=_;rw[eA];exact E11
  refine⟨ay (λk=>?_) (λk=>?_),?_⟩
  .have k:¬ why=0:=ke k
   refine⟨by show ((dX (pM w)).length:Int)<=_;rw[eBn];omega,kw w,rfl,?_⟩
   have eC:kw w=Nj (pM w) (dX (pM w)++[(pk f,aW f,bR f,js f,why)]):=by rw[Ds,aj (hh3▸k),A.eF,← hh3,eBn,← A.en]
   rw[eC]
   exact aK
  .have k:why=0:=kS k
   refine⟨kw w,rfl,?_⟩
   have eC:kw w=pM w:=by unfold kw;rw[ah (by rw[← hh3,k];simp)]
   rw[eC]
   exact aK
  rintro C rfl
  have eCe:∃ l,dX (kw w)=l/\(l.length:Int)<=1000000000000:=by
   refine⟨_,rfl,?_⟩
   rw[Ds]
   show ((if (l8 w).2.2≠0 then dX (gq w)++[(pk (kR w),aW (kR w),bR (kR w),js (kR w),(l8 w).2.2)] else dX (gq w)).length:Int)<=_
   rw[A.en]
   split
   .rw[cL,gC];omega
   .omega
  obtain⟨l,el,hl⟩:=eCe
  have c1:aH (kw w)=aH w:=by rw[Ds,yY];exact A.net
  have c2:aP (kw w)=aP (gq w):=by rw[Ds,yY];rfl
  have c3:cV (kw w)=cV (gq w):=by rw[Ds,yY];rfl
  have c4:iI (kw w)=iI (gq w):=by rw[Ds,yY];rfl
  have hO:(l8 w).2.1=(o1,o2):=hh2.symm
  refine bP (λk=>?_) (λk=>?_)
  .have k:0<(o2.length:Int):=k
   obtain⟨k1,k2,k3⟩:=A.out (by rw[hO];show 0<o2.length;omega)
   rw[hO] at k1 k2 k3
   refine⟨by show (aP (kw w)).Pairwise iS;rw[c2];exact A.s.fl,?_,by show (aP (kw w)).length<=4096;rw[c2];exact A.s.fn,by show ((dX (kw w)).length:Int)<=_;rw[el];exact hl,by show (iI (kw w)).length=(aH (kw w)).2.1.length;rw[c4,c1,← A.net];exact A.s.cl,k1,by rw[c1];exact k2,by show nY (aH (kw w)).1.length ((aH (kw w)).2.1.getD o1.toNat default);rw[c1];exact k3,?_⟩
   .show ∀ x∈aP (kw w),pK x<cV (kw w)
    rw[c2,c3]
    exact λx hx=>(A.s.fo x hx).o.2
   .rw[Xs,hO,aj (by show 0<o2.length;omega),A.eF]
    rfl
  .have k:¬ 0<(o2.length:Int):=k
   rw[Xs,hO,ah (by show ¬ 0<o2.length;omega)]
   rfl
theorem bx6:aB 66 Rs.spec:=aF Tryz.func66 (K9 (am (am (am (am aC (Ct.named Yk)) (Ct.named be6)) U1) ZA) (d:=17)) aT9 aT4
def Bc(n:Net):aJ:=if iB n=0 then mM n else I1
def uv(w:aJ):Int:=if aP w=[] then 0 else aW ((aP w).headD default)
def tM(w:aJ):Bool:=decide (aP w≠[])
def mj(w:aJ)(at' who:Int):Int:=if who<0∨((aH w).1.length:Int)<=who then 8 else if 1125899906842624<at' then 1 else if at'<bf w then 6 else if (4096:Int)<=(aP w).length then 5 else 0
def rL(w:aJ)(at' who:Int)(b:ac):aJ:=if mj w at' who=0 then tC w at' who b else I1
def sR(w:aJ)(at' who:Int):Int:=if mj w at' who=0 then cV w else 0
def oe(w:aJ)(to:Int):Int:=if 1125899906842624<to then 1 else if to<bf w then 6 else 0
def mK(w:aJ)(to:Int):aJ:=if oe w to=0 then j9 w to else I1
def UZ:Ct:=⟨[.agg kJ],[.agg jY,.val cI],λd=>[um d.1],λd=>((Bc d.1,iB d.1,()),())⟩
def a00:bp UZ.ps->bI:=(λd=>{loops:=(bt 6 (λS=>{ι:=Int×(List NState),qn:=eO,μ:=λi=>(d.1.1.length-i.1).toNat,inv:=λi=>0<=i.1/\i.1<=d.1.1.length/\i.2=(d.1.1.take i.1.toNat).map pX,keep:=[1,2,5,22,23],slots:=λi=>[(24,.int .i64 i.1)],keepN:=[32,48,320],names:=λi=>[(96,.live (.cells 37 (cQ kJ d.1++[.int .i64 0,.int .i64 0,.int .i64 0,.own 524288 6,.own 320 1,.nilsl,.nilsl,.nilsl]))),(524288,.live (.row 184 pi i.2))]}) bZ)})
def qe:=((([]:List ar),([]:List bc),([]:List bV)),(0:Int),(0:Int),(0:Int),([]:List NState),([]:ac),([]:List Flight),([]:List gJ),([]:List kx))
def Mf(a:List ar)(b:Int):=[(bL (af a b),(0:Int),replicate (length (aM (af a b))) (0:Int),(w ((af a b).2.2.2.2.2.2.2.2.2.2.1.1*(af a b).2.2.2.2.2.2.2.2.2.2.1.2),(0:Int)),(0:Int))]
def Is(a:Int)(b:List ar)(c:List NState):=ao a (a<=ae b) (c=List.map pX (take a.toNat b))
theorem az9:
 ∀(a:List ar)(b:List bc)(c:List bV),ai (f7 a b c)->Hn a b c->Bi c/\au (bJ (iB (a,b,c))) (qe=Bc (a,b,c)/\iB (a,b,c)=iB (a,b,c)) (um (a,b,c)/\bM (ae b) (ae b) (tE ((↑((8:Nat)):Int)*ae b)) ((∃(d:Int) (e:List NState),Is d a e/\a=a/\aA (ae a) (0=d) (cT a b (c=c) (pS (replicate (toNat (ae b)) (0:Int)=replicate (toNat (ae b)) (0:Int)) (cT a b (c=c) (aU 0 0 ((0:Int)=(0:Int)) (ai (e=[])))))))/\ ∀(d:Int)(e:List NState),Is d a e->fE d (ae a) (d<ae a) (okL (bL (af a d))/\mR (ae (aM (af a d))) (bv ((e.length+length (Mf a d))*80)) (∃(f:Int) (g:List NState),Is f a g/\zJ a f d b (c=c) (pS (replicate (toNat (ae b)) (0:Int)=replicate (toNat (ae b)) (0:Int)) (cT a b (c=c) (aU 0 0 ((0:Int)=(0:Int)) (ai (e++Mf a d=g)))))))
 (((a,b,c),0,0,0,e,replicate (toNat (ae b)) 0,[],[],[])=Bc (a,b,c)) (0=iB (a,b,c)))):= by
  delta af ae ap aq aI aQ f7 kF cO cS cB aU ji aG bG cH aA aZ jt cu qe ao bv bJ fE cT aY ai kC aD bW Mf bM mR av Hn pS d6 Bi fB zJ Is tE
  rintro ns ls hs ⟨⟨⟨hl0,-⟩,⟨hl1,-⟩,-⟩,-⟩⟨h1,h2,h3,h4,h5⟩
  have h1:(ns.length:Int)<=1000000:=h1
  have h2:(ls.length:Int)<=1000000:=h2
  refine⟨h5,ay (λh=>?_) (λh=>?_)⟩
  .have h:=ke h
   exact⟨by unfold Bc;rw[ah h];rfl,by trivial⟩
  have h:=kS h
  refine⟨⟨h1,h2,h3,h4,h5⟩,ab,ab,ab,⟨0,[],⟨ab,ab,rfl⟩,aK⟩,?_⟩
  rintro j st ⟨j0,j1,rfl⟩
  refine bP (λhj=>?_) (λhj=>?_)
  .have hx:=h4 _ (cA j0 hj)
   refine⟨j0,hj,hx.2,hx.1,by simp only[mg,dG,gC];omega,j+1,_,⟨ab,ab,rfl⟩,ab,?_⟩
   (repeat refine fR ?_)
   refine⟨?_,aN⟩
   rw[oG j0 hj,lx]
   rfl
  .refine⟨?_,h.symm⟩
   unfold Bc mM
   rw[aj h,fH ab]
   rfl
theorem Q6:aB 26 UZ.spec:=aF Tryz.func26 (am (am (am aC aR2) Xg) YX) a00 az9
def bf1:Ct:=⟨[.agg jY],[.val cI,.val .bool],λ_=>[],λd=>((uv d.1,tM d.1,()),())⟩
theorem ZG:
 ∀(a:aU8),ft (CT.wf jY a) (au (eG (ae a.2.2.2.2.2.2.1)) (0=uv a/\false=tM a) (bu 0 (ae a.2.2.2.2.2.2.1) ((af a.2.2.2.2.2.2.1 0).1=uv a) (true=tM a))):= by
  delta af ae ao ai bu eG ft
  intro d _ _
  have eF:d.2.2.2.2.2.2.1=aP d:=rfl
  rw[eF]
  unfold uv tM
  cases e:aP d with
  | nil=>exact⟨rfl,rfl⟩
  | cons f r=>exact⟨ab,by simp only[dP];omega,rfl,rfl⟩
theorem ZK:aB 65 bf1.spec:=aF Tryz.func65 aC aS ZG
def ai8:Ct:=⟨[.agg jY,.val cI,.val cI,.val (.sl bq)],[.agg jY,.val cI,.val cI],λd=>[oQ d.1,(d.2.2.2.1.length:Int)<=1000000],λd=>((rL d.1 d.2.1 d.2.2.1 d.2.2.2.1,sR d.1 d.2.1 d.2.2.1,mj d.1 d.2.1 d.2.2.1,()),())⟩
theorem ap5:
 ∀(a:aU8)(b c:Int)(d:ac),CT.wf jY a/\bG b c (aV d) True->oQ a/\bY d-> ∀(e:Bool),e=dw c->lR e (fZ e) (br e/\au (bn e (decide (ae a.1.1<=c))) (qe=rL a b c d/\0=sR a b c/\8=mj a b c) (au (tc b) (qe=rL a b c d/\0=sR a b c/\1=mj a b c) (au (av b a.2.1) (qe=rL a b c d/\0=sR a b c/\6=mj a b c) (au (decide (4096<=ae a.2.2.2.2.2.2.1)) (qe=rL a b c d/\0=sR a b c/\5=mj a b c) (vS a/\aG d/\List.Pairwise iS (aP a)/\(∀(f:Flight),f∈aP a->pK f<cV a)/\length
 (aP a)<=4096/\(a.1,a.2.1,ap (cV a+1),a.2.2.2.1,a.2.2.2.2.1,a.2.2.2.2.2.1,iJ (aP a) (aW (b,0,c,(-1),a.2.2.1,d),cV a,c,(-1),a.2.2.1,d),a.2.2.2.2.2.2.2)=rL a b c d/\a.2.2.1=sR a b c/\0=mj a b c))))):= by
  delta ae ap aq aI bO aV aT aG bG cH bn cX qe br fZ bY ai aD dw d7 av tc lR
  rintro d t who b-⟨hE,hb⟩
  (repeat (refine dq ?_;repeat refine dm ?_))
  refine vL (λho=>?_) (λq1 q2=>?_)
  .have e:mj d t who=8:=by unfold mj;rw[aj (by rcases ho with q|q;exact .inl (aX q);exact .inr (aX q))]
   unfold rL sR
   rw[e]
   exact⟨rfl,rfl,rfl⟩
  have q1:=bi q1
  have q2:=bi q2
  have h:zO d:=hE.resolve_right λq=>by
   have q3:d.1.1=[]:=by rw[q.1];rfl
   rw[q3] at q2;simp at q2;omega
  have hfn:=h.s.fn
  have e1:mj d t who=if 1125899906842624<t then 1 else if t<bf d then 6 else if (4096:Int)<=(aP d).length then 5 else 0:=by
   unfold mj;rw[ah (by rintro (q|q);exact q1 q;exact q2 q)]
  refine ay (λk=>?_) (λk=>?_)
  .have e:mj d t who=1:=by rw[e1,aj (aX k)]
   unfold rL sR
   rw[e]
   exact⟨rfl,rfl,rfl⟩
  rw[ah (bi k)] at e1
  refine ay (λk=>?_) (λk=>?_)
  .have k:t<bf d:=aX k
   have e:mj d t who=6:=by rw[e1,aj k]
   unfold rL sR
   rw[e]
   exact⟨rfl,rfl,rfl⟩
  have k:¬ t<bf d:=bi k
  rw[ah k] at e1
  refine ay (λk=>?_) (λk=>?_)
  .have k:(4096:Int)<=(aP d).length:=aX k
   have e:mj d t who=5:=by rw[e1,aj k]
   unfold rL sR
   rw[e]
   exact⟨rfl,rfl,rfl⟩
  have k:¬ (4096:Int)<=(aP d).length:=bi k
  rw[ah k] at e1
  unfold rL sR
  rw[e1]
  exact⟨h.cp,ab,h.s.fl,λx hx=>(h.s.fo x hx).o.2,hfn,rfl,rfl,rfl⟩
theorem QA:aB 33 ai8.spec:=aF Tryz.func33 (am (am (am aC XT) na) Tw) aS ap5
def V4:Ct:=⟨[.agg jY,.val cI],[.agg jY,.val cI],λd=>[oQ d.1],λd=>((mK d.1 d.2.1,oe d.1 d.2.1,()),())⟩
def bE1:bp V4.ps->bI:=(λd=>{loops:=(bt 7 (λS=>{ι:=aJ×Int×Bool,qn:=pI,μ:=λi=>lQ i.1,inv:=λi=>oQ i.1/\gm i.1 d.2.1=gm d.1 d.2.1/\i.2.1=uv i.1/\i.2.2=tM i.1,keep:=[1,2,4],slots:=λi=>[(6,.int .i64 i.2.1),(7,.bool i.2.2)],keepN:=[80],names:=λi=>[(48,.live (.cells 37 (cQ kJ (aH i.1)++[.int .i64 (bf i.1),.int .i64 (cV i.1),.int .i64 (dU i.1),.own 524288 6,.own 524289 1,.own 524290 6,.own 524291 3,.own 524292 5]))),(524288,.live (.row 184 pi (dc i.1))),(524289,.live (.row 3 cI (iI i.1))),(524290,.live (.row 200 mP (aP i.1))),(524291,.live (.row 159 tf (bh i.1))),(524292,.live (.row 240 Bg (dX i.1)))]}) bZ)})
theorem aX7:
 ∀(a:aU8)(b:Int),CT.wf jY a/\ai (aq b)->zO a∨vg a->au (tc b) (qe=mK a b/\1=oe a b) (au (av b a.2.1) (qe=mK a b/\6=oe a b) (vS a/\(∃(c:aJ) (d:Int) (e:Bool),(oQ c/\gm c b=gm a b/\d=uv c/\e=tM c)/\aA b (uv a=d) (tM a=e/\pS (a.1.1=(aH c).1) (a.1.2.1=(aH c).2.1/\a.1.2.2=(aH c).2.2/\a.2.1=bf c/\a.2.2.1=cV c/\a.2.2.2.1=dU c/\a.2.2.2.2.1=dc c/\a.2.2.2.2.2.1=iI c/\a.2.2.2.2.2.2.1=aP c/\a.2.2.2.2.2.2.2.1=bh c/\ai (a.2.2.2.2.2.2.2.2=dX c))))/\ ∀(c:aJ)(d:Int)(e:Bool),oQ
 c/\gm c b=gm a b/\d=uv c/\e=tM c-> ∀(f:Bool),f=e->(f->d7 f)/\(f->f)/\au (bw f (decide (d<=b))) (zO (aH c,c.2)/\aP (aH c,c.2)≠[]/\ ∃(g:aJ) (h:Int) (i:Bool),(oQ g/\gm g b=gm a b/\h=uv g/\i=tM g)/\lQ g<lQ c/\aA b (uv (eJ (aH c,c.2))=h) (tM (eJ (aH c,c.2))=i/\pS ((eJ (aH c,c.2)).1.1=(aH g).1) ((eJ (aH c,c.2)).1.2.1=(aH g).2.1/\(eJ (aH c,c.2)).1.2.2=(aH g).2.2/\(eJ (aH c,c.2)).2.1=bf g/\(eJ (aH c,c.2)).2.2.1=cV g/\(eJ (aH c,c.2)).2.2.2.1=dU g/\(eJ (aH c,c.2)).2.2.2.2.1=dc g/\(eJ (aH c,c.2)).2.2.2.2.2.1=iI g/\(eJ (aH c,c.2)).2.2.2.2.2.2.1=aP g/\(eJ (aH c,c.2)).2.2.2.2.2.2.2.1=bh g/\ai ((eJ (aH c,c.2)).2.2.2.2.2.2.2.2=dX g)))) (xN (aH c,b,c.2.2)/\cY (aH c,b,c.2.2)=mK a b/\0=oe a b))):= by
  delta aq aI aT aU aA bw qe ai d7 av pS d6 tc
  rintro d to-h
  have h:oQ d:=h
  refine ay (λk=>?_) (λk=>?_)
  .have k:=aX k
   have e:oe d to=1:=by unfold oe;rw[aj k]
   unfold mK
   rw[e]
   exact⟨rfl,rfl⟩
  have k:=bi k
  refine ay (λq=>?_) (λq=>?_)
  .have q:to<bf d:=aX q
   have e:oe d to=6:=by unfold oe;rw[ah k,aj q]
   unfold mK
   rw[e]
   exact⟨rfl,rfl⟩
  have q:¬ to<bf d:=bi q
  have e:oe d to=0:=by unfold oe;rw[ah k,ah q]
  have hnow:0<=bf d:=by rcases h with q|q;exact q.s.now.1;exact q.2.1
  have hnq:bf d<=to:=ab
  refine⟨h.cp,⟨d,_,_,⟨h,rfl,rfl,rfl⟩,aK⟩,?_⟩
  rintro v t ok ⟨hv,he,rfl,rfl⟩
  have hv:oQ v:=hv
  (repeat (refine dq ?_;repeat refine dm ?_))
  have eB:(bif tM v then decide (uv v<=to) else false)=fI v to:=by
   unfold tM uv fI
   cases aP v with
   | nil=>rfl
   | cons f r=>rfl
  rw[eB]
  refine ay (λhb=>?_) (λhb=>?_)
  .cases ef:aP v with
   | nil=>unfold fI at hb;rw[ef] at hb;cases hb
   | cons f r =>
    have hv:=hv.fl (by rw[ef];simp)
    obtain⟨s1,s2⟩:=hv.step ef
    exact⟨hv,by show aP v≠[];rw[ef];simp,eJ v,_,_,⟨.inl s1,(PM hv.s.weak hb).symm.trans he,rfl,rfl⟩,s2,aK⟩
  .have hR:gm d to=v:=by rw[← he];exact MB hb
   refine⟨by rcases hv with q|q;exact .inl (q.s.wait hb ⟨ab,ab⟩).weak;exact q.ch to,?_,e.symm⟩
   unfold mK
   rw[aj e]
   show cY (cK v to)=cY (cK (gm d to) to)
   rw[hR]
theorem Tt:aB 30 V4.spec:=aF Tryz.func30 (am (am (am (am aC XT) ZK) bx6) Yk) bE1 aX7
def YZ(k:Int)(x:ar):Prop:=(x.1.length:Int)<=k/\(bL x).length<=k∧∀ r∈bL x,(r.2.1.length:Int)<=k
def Sc(k:Int)(n:Net):Prop:=(n.1.length:Int)<=k/\(n.2.1.length:Int)<=k/\(n.2.2.length:Int)<=k/\(∀ x∈n.1,YZ k x)∧∀ c∈n.2.2,(c.2.2.2.2.1.length:Int)<=k
theorem DN.nb{n:Net}(h:DN n):Sc 1000 n:=by
 have n7:=h.n7
 have l10:=h.l10
 have h3:=h.h3
 refine⟨by omega,by omega,by omega,λx hx=>?_,λc hc=>?_⟩
 .obtain⟨i,hi,rfl⟩:=List.mem_iff_getElem.1 hx;have e:n.1.getD i default=n.1[i]:=by rw[ct,cM hi,jo]
  have p:=h.p i hi;have t:=h.t i hi;rw[e] at p t;have hl:=FJ i 0 n.2.1;rw[← p] at hl;have hl:(n.1[i]).1.length<=2*n.2.1.length:=hl;have h20:=Re t;exact⟨by omega,by omega,λr hr=>by have:=NM (t.2 r hr);omega⟩
 .rcases (h.c c hc).x with k|⟨q,-,k⟩
  .have k:c.2.2.2.2.1=[]:=k;rw[k];simp
  .have k:c.2.2.2.2.1=[q.2]:=k;rw[k];simp
theorem UV(i:Int):∀(k:Nat)(ls:List cj),(∀ l∈ls,lA l≠lB l)->(portsF i k ls).Pairwise (λa b=>a.2<b.2/\a.1<b.1)∧∀ q∈portsF i k ls,(k:Int)<=q.2/\ip k<q.1
 | _,[],_=>by simp[portsF]
 | k,l::r,h=>by
  obtain⟨h1,h2⟩:=UV i (k+1) r (λx hx=>h x (fu _ hx));have hl:=h l fp;have e:sP i k l=[]∨∃ a:Int,(a=1∨a=2)/\sP i k l=[(ip k+a,(k:Int))]:=by
   unfold sP;by_cases ha:lA l=i
   .rw[aj ha,ah ab];exact .inr ⟨1,.inl rfl,rfl⟩
   .rw[ah ha];by_cases hb:lB l=i
    .rw[aj hb];exact .inr ⟨2,.inr rfl,rfl⟩
    .rw[ah hb];exact .inl rfl
  rw[portsF];unfold ip at *;rcases e with e|⟨a,ha,e⟩ <;> rw[e]
  .rw[uy];exact⟨h1,λq hq=>by have:=h2 q hq;omega⟩
  .rw[List.singleton_append];refine⟨List.pairwise_cons.2 ⟨λq hq=>?_,h1⟩,λq hq=>?_⟩
   .have:=h2 q hq;simp only;omega
   .rcases eZ.1 hq with rfl|hq
    .simp only;omega
    .have:=h2 q hq;omega
theorem Xk{l:List rC}{q:rC->Bool}{i:Nat}(hi:i<l.length)(hq:q (l.getD i default)=true)(hn:∀ j:Nat,j<i->q (l.getD j default)=false):jS q l=i:=by
 have e:l.findIdx q=i:=by
  rw[List.findIdx_eq hi];refine⟨by rwa [ct,cM hi,jo] at hq,λj hj=>?_⟩;have:=hn j hj
  rwa [ct,cM ab,jo] at this
 unfold jS
 rw[e,aj hi]
theorem aD3{q:Int×Int->Bool}{l:bU1}{y:bT2}(hy:y∈l)(hq:q y=true):0<=jS q l:=by
 have hlt:l.findIdx q<l.length:=List.findIdx_lt_length_of_exists ⟨y,hy,hq⟩
 unfold jS;rw[aj hlt];omega
theorem UB{α:Type} [Inhabited α] {R:α->α->Prop} {l:List α} (h:l.Pairwise R) {k j:Nat} (hk:k<j) (hj:j<l.length):R (l.getD k default) (l.getD j default):=by
 rw[ct,ct,cM hj,cM ab,jo,jo]
 exact List.pairwise_iff_getElem.1 h _ _ _ _ hk
theorem GO{a:Int}(h:167837696<=a/\a<=167903300):f9 a:=by
 right
 unfold jg
 have:a/16777216=10:=ab
 rw[ah ab,ah ab,aj (.inl this)]
theorem YC{a n:Int}(h:n=32):nE (a,n)=true:=by
 subst h
 unfold nE
 have:sz 32=1:=bo
 rw[this]
 simp only[pD]
 omega
theorem Ye{links:ac}:∀{l:List Rt}{q:Option fD},dS l->(∀ p,q=some p→∀ r∈l,cF p r.1)->(∀ r∈l,nE r.1=true/\oU r links)->chk links q l=0
 | [],_,_,_,_=>rfl
 | r::rs,q,hs,hq,hr=>by
  obtain⟨v,w⟩:=hr r fp;obtain⟨s1,s2⟩:=List.pairwise_cons.1 hs;rw[chk,ah (by rw[v];simp)];have e:q.any (λq=>decide (0<=iY q r.1))=false:=by
   cases q with
   | none=>rfl
   | some p =>
    have:=hq p rfl r fp;simp only[Option.any_some,sF];rw[Mi];exact λk=>k this
  rw[ah (by rw[e];simp),ah (by simpa using w)];exact Ye s2 (λp hp x hx=>by cases hp;exact s1 x hx) (λx hx=>hr x (fu _ hx))
structure GT (m:Nat) (links:ac) (l:List Rt):Prop where
 s:dS l
 n:l.length<=m
 r:∀ r∈l,nE r.1=true/\oU r links
theorem GT.ok{m:Nat}{links:ac}{l:List Rt}(h:GT m links l)(hm:m<=64):jf l links=0:=by
 have:=h.n
 unfold jf
 rw[ah ab]
 exact Ye h.s (λp hp=>by cases hp) h.r
theorem DN.gt{n:Net}(h:DN n){i:Nat}(hi:i<n.1.length):GT 20 (c8 (n.1.getD i default)) (bL (n.1.getD i default)):=by
 have t:=h.t i hi
 refine⟨t.1,Re t,λr hr=>?_⟩
 have k:=t.2 r hr
 have l10:=h.l10
 have hl:=NM k
 refine⟨YC k.len,⟨ab,λj hj=>⟨λh0=>?_,?_⟩⟩,k.w0,k.w1⟩
 .rw[ct,ct,cM hj,cM ab,jo,jo];exact List.pairwise_iff_getElem.1 k.pw _ _ _ _ ab
 .rw[(h.links hi)];rw[ct,cM hj,jo];exact k.ln _ (List.getElem_mem hj)
theorem DN.pw{n:Net}(h:DN n){i:Nat}(hi:i<n.1.length):(aM (n.1.getD i default)).Pairwise (λa b=>a.2<b.2/\a.1<b.1):=by
 rw[h.p i hi]
 exact (UV i 0 n.2.1 λl hl=>(h.g l hl).2.2.1).1
theorem DN.node{n:Net}(h:DN n){i:Nat}(hi:i<n.1.length)(hp:0<(aM (n.1.getD i default)).length):iE (n.1.getD i default)=0:=by
 have pw:=h.pw hi
 have d:=h.d i hi
 have n7:=h.n7
 have l10:=h.l10
 have hlen:(aM (n.1.getD i default)).length<=20:=by
  rw[h.p i hi];have:=FJ i 0 n.2.1;omega
 have gt:=h.gt hi
 have ports:∀ j:Nat,j<(aM (n.1.getD i default)).length->ly (n.1.getD i default) j=0:=λj hj=>by
  have hm:(aM (n.1.getD i default)).getD j default∈aM (n.1.getD i default):=qj hj;have hadr:=h.padr hi (yd (f:=(·.1)) hm);have hlnk:=(h.links hi).1 (yd (f:=(·.2)) hm);have ne:∀ k:Nat,k<j->((aM (n.1.getD i default)).getD k default).2<((aM (n.1.getD i default)).getD j default).2/\((aM (n.1.getD i default)).getD k default).1<((aM (n.1.getD i default)).getD j default).1:=λk hk=>UB pw hk hj;have ea:ph (n.1.getD i default) ((aM (n.1.getD i default)).getD j default).1=j:=Xk hj (by simp[oA]) (λk hk=>by have:=ne k hk;simp only[oA,sF];omega);have el:fG (n.1.getD i default) ((aM (n.1.getD i default)).getD j default).2=j:=Xk hj (by simp[mz]) (λk hk=>by have:=ne k hk;simp only[mz,sF];omega);have hu:f9 ((aM (n.1.getD i default)).getD j default).1:=GO ab;unfold ly;have:=hlnk.1;rw[ea,el,ah (by rintro (k|k);exact k hu;omega),ah ab]
 have hloop:¬ tu (n.1.getD i default):=by
  rintro⟨k0,k⟩;have hl:=d.loop.resolve_left k0;rcases k with k|k
  .exact k (GO ab)
  .have:=h.padr hi (VR.1 k);omega
 have hform:¬ qU (n.1.getD i default):=by
  have o:=d.own;have f:=d.first;unfold qU;rintro (k|k|⟨k1,k2⟩|⟨k1,k2⟩|⟨k1,k2⟩|k|k)
  .omega
  .rcases d.src with s|⟨s,-⟩|⟨s,-⟩ <;> omega
  .rcases d.src with s|⟨s,s2⟩|⟨s,-⟩ <;> omega
  .have:=d.fix.resolve_left k1;exact k2 (GO ab)
  .rcases d.src with s|⟨s,s2⟩|⟨s,s2⟩ <;> omega
  .omega
  .omega
 have hid:pU (n.1.getD i default)=0:=by
  unfold pU;rw[aj];obtain⟨⟨a,b⟩,⟨c,e⟩,f,g⟩:=d.id;exact fm ⟨a,b,c,e,f,g⟩
 have hb:iX (mw (n.1.getD i default))=0:=by
  unfold iX;rw[aj];rcases d.lim with k|k
  .exact .inl k
  .right;omega
 rw[XL ab (JN ports) hloop hform,ah (λk=>k hid),ah (λk=>k hb)]
 exact gt.ok ab
theorem XF(ns:List ar)(a:Int):∀ k:Nat,iU a (kr ns k)=true↔∃ j:Nat,j<k/\a∈ga (ns.getD j default)
 | 0=>by simp[kr,iU]
 | k+1=>by
  have e:kr ns (k+1)=ta k (ga (ns.getD k default)) (kr ns k):=by unfold kr;rw[lP,ld];rfl
  rw[e,Mv.1,sD,rI,XF ns a k];constructor
  .rintro (h|⟨j,hj,h⟩)
   .exact⟨k,ab,h⟩
   .exact⟨j,ab,h⟩
  .rintro⟨j,hj,h⟩;by_cases e:j=k
   .subst e;exact .inl h
   .exact .inr ⟨j,ab,h⟩
theorem DN.tabs{n:Net}(h:DN n):∀ i:Nat,i<=n.2.2.length→∀ k:Nat,k<n.1.length->GT (20+i) (c8 (n.1.getD k default)) ((gp n i).getD k default)
 | 0,_,k,hk=>by
  rw[gp,Eb hk];exact h.gt hk
 | i+1,hi,k,hk=>by
  have ih:=h.tabs i ab;have hc:=h.c _ (qj (i:=i) (xs:=n.2.2) ab);rw[gp];by_cases e:(cZ (n.2.2.getD i default)).toNat=k
  .rw[e,lD (by rw[vf];omega)];have g:=ih k hk;obtain⟨r,hr,p1,p2⟩:=hc.p;rw[e] at hr;have gr:=(h.gt hk).r r hr;have hx:=hc.x;rw[e] at hx;refine⟨?_,?_,λx hx'=>?_⟩
   .unfold jw;rw[ah (by rw[hc.r];simp)];exact Ov g.s
   .unfold jw;rw[ah (by rw[hc.r];simp)];have:=Xf ((gp n i).getD k default) (gE (n.2.2.getD i default));have:=g.n;omega
   .unfold jw at hx';rw[ah (by rw[hc.r];simp)] at hx';rcases So hx' with rfl|hx'
    .refine⟨by rw[p1];exact gr.1,⟨?_,by rw[p2];exact gr.2.2⟩⟩;rcases hx with q|⟨y,hy,q⟩ <;> rw[q]
     .exact⟨aw,λj hj=>absurd hj aw⟩
     .refine⟨aw,λj hj=>?_⟩;have:j=0:=by simpa using hj
      subst this;exact⟨λk=>absurd k ab,yd (f:=(·.2)) hy⟩
    .exact g.r x hx'
  .have g:=ih k hk;have e2:((gp n i).set (cZ (n.2.2.getD i default)).toNat (jw ((gp n i).getD (cZ (n.2.2.getD i default)).toNat default) (n.2.2.getD i default))).getD k default=(gp n i).getD k default:=by
    exact o5 e
   rw[e2];exact⟨g.s,by have:=g.n;omega,g.r⟩
theorem DN.right{n:Net}(h:DN n)(hp:∀ i:Nat,i<n.1.length->0<(aM (n.1.getD i default)).length):iB n=0:=by
 have n3:=h.n3
 have n7:=h.n7
 have l10:=h.l10
 have h3:=h.h3
 have e1:ud n=0:=by unfold ud;rw[ah ab]
 have e2:qO n=0:=by
  unfold qO;rw[aj];rw[List.all_eq_true];intro l hl;obtain⟨a,b,c,d,e,f,g⟩:=h.g l hl;refine fm ?_;unfold nY;omega
 have e3:rk n=0:=JN λi hi=>by
  unfold sc;rw[ah (λk=>k (h.node hi (hp i hi))),ah];rw[List.any_eq_true];rintro⟨k,hk,hs⟩;obtain⟨a,b,c⟩:=(h.links hi).1 hk;unfold wj at hs;simp only[sD,pF,pD,Bool.or_eq_false_iff,sF] at hs;rcases hs with hs|⟨s1,s2⟩
  .omega
  .rcases c with c|c
   .exact s1 c
   .exact s2 c
 have e4:tG n=0:=by
  unfold tG;rw[ah];rw[List.any_eq_true];rintro⟨k,hk,hs⟩;have hk:=List.mem_range.1 hk;obtain⟨⟨a0,a1⟩,⟨b0,b1⟩,-⟩:=h.g _ (qj hk);unfold w9 at hs;simp only[sD,pD] at hs;have key:∀ i:Int,0<=i->i<n.1.length->(lA (n.2.1.getD k default)=i∨lB (n.2.1.getD k default)=i)→¬ fG (n.1.getD i.toNat default) k<0:=λi i0 i1 hq hlt=>by
   have hi:i.toNat<n.1.length:=ab;have:(k:Int)∈c8 (n.1.getD i.toNat default):=(h.links hi).2 ⟨ab,ab,by rw[Int.toNat_natCast];rcases hq with q|q;left;omega;right;omega⟩;obtain⟨y,hy,e⟩:=List.mem_map.1 this;have:=aD3 (q:=mz k) hy (by simp[mz,e]);have e5:fG (n.1.getD i.toNat default) k=jS (mz k) (aM (n.1.getD i.toNat default)):=rfl;omega
  rcases hs with hs|hs
  .exact key _ a0 a1 (.inl rfl) hs
  .exact key _ b0 b1 (.inr rfl) hs
 have e5:xh n=0:=by
  unfold xh;rw[ah];unfold twice;rw[List.any_eq_true];rintro⟨i,hi,hs⟩;have hi:=List.mem_range.1 hi;obtain⟨a,ha,hm⟩:=List.any_eq_true.1 hs;obtain⟨j,hj,hb⟩:=(XF n.1 a i).1 hm;have:=h.apart (i:=i) (j:=j) hi ab ha hb;omega
 have e6:uO n=0:=by
  unfold uO;rw[ah];rw[List.any_eq_true];rintro⟨l,hl,hs⟩;rw[h.o l hl] at hs;cases hs
 have e7:sk n=0:=JN λi hi=>by
  have hc:=h.c _ (qj (i:=i) (xs:=n.2.2) hi);have ha:=hc.at';have hw:=hc.w;have hk:(cZ (n.2.2.getD i default)).toNat<n.1.length:=ab;have hs:0<i->jP (n.2.2.getD (i-1) default)<=jP (n.2.2.getD i default):=λh0=>UB h.s ab hi;have g:=h.tabs (i+1) ab _ hk;rw[gp,lD (by rw[vf];omega)] at g;unfold nk tx;rw[ah ab,ah (by rintro⟨k0,k1⟩;have:=hs k0;omega),ah ab,ah (by rintro⟨k0,-⟩;rw[hc.r] at k0;cases k0)];exact g.ok ab
 unfold iB sf
 simp[e1,e2,e3,e4,e5,e6,e7]
theorem Lp{k:Int}{n:Net}(h:Sc k n)(hk:k<=1000000):um n:=by
 obtain⟨h1,h2,h3,h4,h5⟩:=h
 refine⟨ab,ab,ab,λx hx=>?_,λc hc=>?_⟩
 .obtain⟨a,b,c⟩:=h4 x hx;exact⟨by show (x.1.length:Int)<=1000000;omega,ab,λr hr=>by have:=c r hr;omega⟩
 .have:=h5 c hc;show (c.2.2.2.2.1.length:Int)<=_;omega
theorem dZ.new{n:Net}{B:Int}(h:iB n=0)(ha:DO n)(hc:um n)(h0:0<=B)(h1:B<=549755813888):dZ B (mM n):=by
 have e:lQ (mM n)=0:=rfl
 exact⟨h1,by rw[e];exact (dO.new h).more ab,ha,hc,λx hx=>(by cases hx),by rw[e];show ((0:Nat):Int)+2*((0:Nat):Int)<=B;omega,by rw[e];show ((0:Nat):Int)+((0:Nat):Int)<=B;omega⟩
theorem bD1{n:Net}{f:Flight}(hb:bytes (io f)):tw n f<=1114:=by
 have:=UR hb
 unfold tw
 have h1:(if gG (n.1.getD (bR f).toNat default)=true then 1 else 0)<=1:=by split <;> omega
 have h2:(if js f = -1 then 2 else 0)<=2:=by split <;> omega
 have h3:(if fq (io f) then 600 else 0)<=600:=by split <;> omega
 omega
theorem dZ.send{w:aJ}{B:Int}(h:dZ B w)(hB:B+4000<=549755813888){at' who:Int}{b:ac}(he:mj w at' who=0)(hb:bytes b)(hl:(b.length:Int)<=2000) :
  dZ (B+4000) (tC w at' who b)/\cV (tC w at' who b)=cV w+1/\aH (tC w at' who b)=aH w:=by
 unfold mj at he
 split at he
 .cases he
 rename_i q1
 split at he
 .cases he
 rename_i q2
 split at he
 .cases he
 rename_i q3
 split at he
 .cases he
 rename_i q4
 obtain⟨s1,s2⟩:=h.sB.send ab (at':=at') (who:=who) (b:=b) ⟨ab,ab⟩ ⟨ab,ab⟩ hb hl ab
 have hp:lQ (tC w at' who b)=lQ w+tw (aH w) (at',cV w,who,-1,cV w,b):=Rl _ _ _
 have hf:tw (aH w) (at',cV w,who,-1,cV w,b)<=1114:=bD1 hb
 have h1:=h.e
 have h2:=h.d
 exact⟨⟨hB,s1.more ab,h.a,h.c,h.dd,by show ((dX w).length:Int)+_<=_;omega,by show ((bh w).length:Int)+_<=_;omega⟩,s2,rfl⟩
theorem DN.newOk{n:Net}(h:DN n)(hp:∀ i,i<n.1.length->0<(aM (n.1.getD i default)).length):dZ 4000 (mM n):=dZ.new (h.right hp) (λi hi=>as2 h hi) (Lp h.nb bo) bo bo
theorem dZ.wait{v:aJ}{B to:Int}(h:dZ B v)(hb:fI v to=false)(ha:0<=to/\to<=1125899906842624):dZ B (cK v to):=⟨h.b,h.sB.wait hb ha,h.a,h.c,h.dd,h.e,h.d⟩
theorem dZ.runs{w:aJ}{B to:Int}(h:dZ B w)(ha:0<=to/\to<=1125899906842624):dZ B (j9 w to):=by
 obtain⟨k1,k2,-⟩:=h.run (to:=to) _ (eT _)
 exact (k1.wait k2 ha).change
theorem X7{to:Int}(h0:0<=to):∀{l:List Flight},(∀ f∈l,0<=aW f)->gh to l<=l.length*(to+1).toNat
 | [],_=>by simp[gh]
 | f::r,h=>by
  have h1:=h f fp;have h2:=X7 h0 (l:=r) λx hx=>h x (fu _ hx);rw[r4,dP,Nat.succ_mul];omega
structure yL (a b:Int) (l:List Del):Prop where
 p:l.Pairwise λx y=>x.1<=y.1
 t:∀ x∈l,(a<=x.1/\x.1<=b)/\(x.2.2.length:Int)<=2000
theorem yL.nil{a b:Int}:yL a b []:=⟨List.Pairwise.nil,λx hx=>by cases hx⟩
theorem dZ.step_dl{B:Int}{w:aJ}(h:dZ B w){f:Flight}{r:List Flight}(e:aP w=f::r):bf (eJ w)=aW f/\bf w<=aW f/\(bh (eJ w)=bh w∨bh (eJ w)=bh w++[(aW f,bR f,io f)])/\((io f).length:Int)<=2000:=by
 have a:=h.at e
 have es:eJ w=jV (gq w) f:=by rw[← a.eF];rfl
 have hf:=h.s.fo f (by rw[e];exact fp)
 obtain⟨-,k2,-⟩:=VA a.s.weak a.fk.wk
 refine⟨by rw[es];exact k2.trans a.now,hf.t.1,?_,hf.d⟩
 have k:=Vv (gq w) f
 rw[es,← a.dl]
 exact k
theorem dZ.run_dl{B to:Int}:∀(n:Nat){w:aJ},dZ B w->lQ w<=n→∃ l,bh (gm w to)=bh w++l/\yL (bf w) to l
 | n,w,h,hn=>by
  cases hb:fI w to with
  | false=>rw[MB hb];exact⟨[],(kY _).symm,.nil⟩
  | true =>
   rw[PM h.s.weak hb];cases e:aP w with
   | nil=>unfold fI at hb;rw[e] at hb;cases hb
   | cons f r =>
    obtain⟨k1,k2⟩:=h.step e;obtain⟨d1,d2,d3,d4⟩:=h.step_dl e;have hto:aW f<=to:=by unfold fI at hb;rw[e] at hb;exact aX hb
    cases n with
    | zero=>omega
    | succ n =>
     obtain⟨l,e1,ho⟩:=dZ.run_dl (to:=to) n k1 ab;rw[d1] at ho;have hl:∀ x∈l,(bf w<=x.1/\x.1<=to)/\(x.2.2.length:Int)<=2000:=λx hx=>by have:=ho.t x hx;omega
     rcases d3 with q|q
     .exact⟨l,by rw[e1,q],ho.p,hl⟩
     .refine⟨(aW f,bR f,io f)::l,by rw[e1,q,je];rfl,List.pairwise_cons.2 ⟨λx hx=>(ho.t x hx).1.1,ho.p⟩,λx hx=>?_⟩;rcases eZ.1 hx with rfl|hx
      .exact⟨⟨d2,hto⟩,d4⟩
      .exact hl x hx
theorem dZ.runs_dl{B to:Int}{w:aJ}(h:dZ B w):∃ l,bh (j9 w to)=bh w++l/\yL (bf w) to l:=by
 obtain⟨l,e,ho⟩:=h.run_dl (to:=to) _ (eT _)
 exact⟨l,((BA _).2.2.2.1).trans e,ho⟩
theorem Ab(w:aJ)(to:Int):bf (j9 w to)=to:=(BA _).2.2.2.2.2
theorem dZ.net{B to:Int}{w:aJ}(h:dZ B w):aH (j9 w to)=aH w:=(BA _).1.trans (h.run (to:=to) _ (eT _)).2.2.1
theorem dZ.two{B a b:Int}{w:aJ}(h:dZ B w)(h0:bf w<=a)(hab:a<=b)(hb:b<=1000000):j9 (j9 w a) b=j9 w b:=by
 have hn:=h.s.now
 have hw:=X7 (to:=b) ab (l:=aP w) λf hf=>by have:=(h.s.fo f hf).t;omega
 have hf:=h.s.fn
 have hm:(aP w).length*(b+1).toNat<=4096*1000001:=Nat.mul_le_mul hf ab
 exact Y3 h.s ab hab ab ab
abbrev nJ:CT := .pair cI (.pair db (.pair lm (.pair (.sl bq) (.pair cI cI))))
abbrev nI:CT := .pair nJ (.pair iT (.pair cI (.pair CI (.pair cI sj))))
abbrev a64:CT := .pair cI (.pair cI (.pair cI (.sl rW)))
abbrev xp:CT := .pair cI (.pair (.sl rW) (.sl a64))
abbrev vq:CT := .pair jY (.pair cI (.pair (.sl nI) (.sl xp)))
abbrev CS:CT := .pair cI (.pair cI tp)
abbrev ie:Type:=Int×Int×(List jh×Int×Int)×ac×Int×Int
abbrev Xb:Type:=Int×Int×Int×List ac×Int×List ac×List bU0×List bT7×List bT7
abbrev ck:Type:=ie×bT×Int×bU7×Int×Xb
abbrev ry:Type:=Int×List kG×List (Int×Int×Int×List kG)
abbrev dY:Type:=aJ×Int×List ck×List ry
abbrev Du:Type:=Int×Int×fS
def wz(s:ck):Int:=s.1.1
def ni(s:ck):lm.D:=s.1.2.2.1
def mY(s:ck):bT:=s.2.1
def iZ(s:ck):Int:=s.2.2.1
def xg(s:ck)(v:bT):ck:=(s.1,v,s.2.2)
def tZ(s:ck):ck:=(s.1,s.2.1,s.2.2.1+1,s.2.2.2)
def eI(d:Du):Int:=d.2.2.2.2
def lO(s:ck)(d:Del):ck:=if wz s=d.2.1 then xg s (kf (mY s) d.1 d.2.2) else s
def j5(l:List Del)(s:ck):ck:=l.foldl lO s
def iy(w:aJ)(t:Int):aJ:=if oe w t=0 then j9 w t else w
def d9(p:dY)(t:Int):dY:=(iy p.1 t,(bh (iy p.1 t)).length,p.2.2.1.map (j5 ((bh (iy p.1 t)).drop p.2.1.toNat)),p.2.2.2)
def ic(p:dY)(d:Du):ck:=p.2.2.1.getD d.1.toNat default
def kD(p:dY)(d:Du):z9.D:=(ni (ic p d)).1.getD d.2.2.1.toNat default
def Co(p:dY)(d:Du):Int:=kz (mY (ic p d)) (eI d) (kD p d).1 (kD p d).2.1 (kD p d).2.2.1 (kD p d).2.2.2.1
def EL(p:dY)(d:Du):bT:=oo (mY (ic p d)) (eI d) (kD p d).1 (kD p d).2.1 (kD p d).2.2.1 (kD p d).2.2.2.1
def Er(p:dY)(d:Du):ac:=nU (mY (ic p d)) (eI d) (kD p d).1 (kD p d).2.1 (kD p d).2.2.1 (kD p d).2.2.2.1
def Ck(p:dY)(d:Du):Int:=mj p.1 (eI d) (wz (ic p d))
def mi(p:dY)(d:Du):dY :=
 if Co p d=0/\Ck p d=0 then (tC p.1 (eI d) (wz (ic p d)) (Er p d),p.2.1,p.2.2.1.set d.1.toNat (xg (tZ (ic p d)) (EL p d)),p.2.2.2)
 else (p.1,p.2.1,p.2.2.1.set d.1.toNat (tZ (ic p d)),p.2.2.2)
def fa(p:dY)(d:Du):dY:=mi (d9 p (eI d)) d
def gz(t:Int)(s:ck):ck:=xg s (dN (mY s) t)
def gU(t:Int)(p:dY):dY:=(p.1,p.2.1,p.2.2.1.map (gz t),p.2.2.2)
def n9(x y:Du):Int:=Jg (fc x.2.2.2.2 y.2.2.2.2) (fc x.1 y.1) (fc x.2.1 y.2.1)
theorem zU{x y:Du}:n9 x y<0↔eI x<eI y∨(eI x=eI y/\(x.1<y.1∨(x.1=y.1/\x.2.1<y.2.1))):=Vw
def fY(s:ck):List fS:=lV (ni s)
def uM(i:Int)(s:ck)(t:Int)(k:Nat):List Du:=((range k).filter λ(j:Nat)=>decide (iZ s<=j)&&decide (((fY s).getD j default).2.2<=t)).map λ(j:Nat)=>(i,(j:Int),(fY s).getD j default)
def oF(ss:List ck)(t:Int)(n:Nat):List Du:=(range n).flatMap λ(i:Nat)=>uM (i:Int) (ss.getD i default) t (fY (ss.getD i default)).length
def cW(ss:List ck)(t:Int):List Du:=xP n9 (oF ss t ss.length)
def o8(p:dY)(t:Int):dY:=gU t (d9 ((cW p.2.2.1 t).foldl fa p) t)
theorem mC.pw{v:bT}{L:List dD}{m:Nat}{t:Int}(h:mC v L m t):(vW v).Pairwise λx y=>ig x<=ig y:=by
 rw[h.w]
 exact (List.pairwise_iff_getElem.2 λi j hi hj hij=>h.srt i j hj ab).sublist (List.drop_sublist _ _)
theorem mC.ats{v:bT}{L:List dD}{m:Nat}{t:Int}(h:mC v L m t):∀ x∈vW v,0<=ig x/\ig x<=1000000000:=λx a=>by
 rw[h.w] at a
 have:=h.at0 x (zA a)
 have:=h.now
 omega
theorem Ya{T c a:Int}(f:c<=a)(d:1<=T/\T<=1073741824):∀{l:List dD},(l.Pairwise λx y=>ig x<=ig y)->(∀ x∈l,0<=ig x/\ig x<=1000000000) →
  l.filter (iH T c)++(l.filter λx => !iH T c x).filter (iH T a)=l.filter (iH T a)/\(l.filter λx => !iH T c x).filter (λx => !iH T a x)=l.filter λx => !iH T a x
 | [],_,_=>⟨rfl,rfl⟩
 | x::l,hp,g=>by
  obtain⟨p1,p2⟩:=List.pairwise_cons.1 hp;have hl:∀ y∈l,0<=ig y/\ig y<=1000000000:=λy b=>g y (fu _ b);have i:=g x fp;obtain⟨i1,i2⟩:=Ya f d p2 hl;by_cases h:ig x+T<=c
  .have e1:iH T c x=true:=by rw[FC d i];exact fm h
   have e2:iH T a x=true:=by rw[FC d i];exact fm ab
   grind
  .have e:∀ y∈x::l,iH T c y=false:=λy b=>by
    rw[FC d (g y b)];grind
   have f1:(x::l).filter (iH T c)=[]:=List.filter_eq_nil_iff.2 λy b=>by rw[e y b];decide
   grind
theorem mC.twice{v:bT}{L:List dD}{m:Nat}{t c a:Int}(h:mC v L m t)(b:c<=a):dN (dN v c) a=dN v a:=by
 obtain⟨h1,h2⟩:=Ya b h.t h.pw h.ats
 show Ed v _ _=Ed v _ _
 have e1:vW (dN v c)=(vW v).filter λx => !iH (vT v) c x:=rfl
 have e2:vR (dN v c)=vR v++((vW v).filter (iH (vT v) c)).map (nG v):=rfl
 have e3:vT (dN v c)=vT v:=rfl
 rw[e1,e2,e3,h2,je]
 rw[show List.map (nG (dN v c))=List.map (nG v) from rfl,← lx,h1]
theorem a94{v:bT}{c a:Int}{b:ac}(h:dN (dN v c) a=dN v a):kf (dN v c) a b=kf v a b:=by
 unfold kf qf
 rw[h];rfl
theorem Md{v:bT}{c a x y z u:Int}(h:dN (dN v c) a=dN v a):kz (dN v c) a x y z u=kz v a x y z u:=by
 unfold kz
 rw[h];rfl
theorem aW7{v:bT}{c a x y z u:Int}(h:dN (dN v c) a=dN v a)(b:kz v a x y z u=0):oo (dN v c) a x y z u=oo v a x y z u:=by
 unfold oo
 rw[Md h,aj b,aj b,h];rfl
theorem ag2{v:bT}{c a x y z u:Int}(h:dN (dN v c) a=dN v a):nU (dN v c) a x y z u=nU v a x y z u:=by
 unfold nU
 rw[Md h];rfl
def OI(s:ck):Prop:=s.1.2.2.2.1.length<=1000/\s.2.2.2.1.2.2.2.length<=1000∧∃ n l,s.2.2.2.2.2=oE n l/\l.length<=1000∧∀ x∈l,x.length<=1000
structure qM (n t q:Int) (s:ck):Prop where
 nd:0<=wz s/\wz s<n
 pl:i9 (ni s)
 vi:∃ L m,mC (mY s) L m t
 nx:(mY s).2.2.1<=1000
 sn:0<=iZ s/\iZ s<=q
 cp:OI s
structure PO (q:Int) (p:dY):Prop where
 w:dZ (4000+4000*q) p.1
 q0:0<=q/\q<=1000000
 nw:bf p.1<=1000
 rd:p.2.1=(bh p.1).length
 vs:p.2.2.2=[]
 n2:p.2.2.1.length<=2
 st:∀ s∈p.2.2.1,qM (aH p.1).1.length (bf p.1) q s
theorem qM.small{n t q:Int}{s:ck}(h:qM n t q s):jb (mY s)/\0<=(mY s).2.2.1:=by
 obtain⟨L,m,v⟩:=h.vi
 have h1:=h.nx
 have h2:=v.next
 unfold jb
 rw[v.w,v.r]
 grind
theorem bO5(s:ck):j5 [] s=s:=rfl
theorem Vf(a b:List Del)(s:ck):j5 (a++b) s=j5 b (j5 a s):=ld
theorem aZ0(s:ck)(d:Del):(lO s d).1=s.1/\(lO s d).2.2=s.2.2:=by unfold lO;split <;> exact⟨rfl,rfl⟩
theorem az0(v:bT)(t:Int)(b:ac):(kf v t b).2.2.1=v.2.2.1:=by unfold kf;split <;> rfl
theorem qM.recv{n q b:Int}(hb:b<=1000):∀{l:List Del}{s:ck}{a:Int},qM n a q s->a<=b->yL a b l->qM n b q (j5 l s)
 | [],s,a,h,c,e=>by
  obtain⟨L,m,v⟩:=h.vi;exact⟨h.nd,h.pl,⟨L,m,v.later c ab⟩,h.nx,h.sn,h.cp⟩
 | d::l,s,a,h,c,e=>by
  obtain⟨p1,p2⟩:=List.pairwise_cons.1 e.p;have f:=(e.t d fp).1;have g:yL d.1 b l:=⟨p2,λx i=>⟨⟨p1 x i,(e.t x (fu _ i)).1.2⟩,(e.t x (fu _ i)).2⟩⟩
  refine qM.recv hb (l:=l) ?_ f.2 g;obtain⟨L,m,v⟩:=h.vi;unfold lO;split
  .obtain⟨L',m',v',-⟩:=v.recv f.1 ab;exact⟨h.nd,h.pl,⟨L',m',v'⟩,by show (kf (mY s) d.1 d.2.2).2.2.1<=1000;rw[az0];exact h.nx,h.sn,h.cp⟩
  .exact⟨h.nd,h.pl,⟨L,m,v.later f.1 ab⟩,h.nx,h.sn,h.cp⟩
theorem aq9{w:aJ}{t:Int}(h:bf w<=t)(ht:t<=1000):oe w t=0:=by unfold oe;rw[ah (by omega),ah (by omega)]
theorem ER{w:aJ}{t:Int}(h:bf w<=t)(ht:t<=1000):iy w t=j9 w t:=by unfold iy;rw[aj (aq9 h ht)]
theorem Fx{w:aJ}{t:Int}(h:t<bf w):iy w t=w:=by
 unfold iy
 unfold oe
 grind
theorem Wk(l:List ck):l.map (j5 [])=l:=by rw[show j5 []=id from funext bO5,List.map_id]
theorem PO.until_out{q t:Int}{p:dY}(h:PO q p)(ht:t<bf p.1):d9 p t=p:=by
 unfold d9
 rw[Fx ht,h.rd,show ((bh p.1).length:Int).toNat=(bh p.1).length from rfl,List.drop_length,Wk]
 obtain⟨a,b,c⟩:=p
 have hr:b=((bh a).length:Int):=h.rd
 rw[← hr]
theorem PO.until_in{q t:Int}{p:dY}(h:PO q p)(ht:bf p.1<=t)(a:t<=1000) :
  ∃ l,bh (j9 p.1 t)=bh p.1++l/\yL (bf p.1) t l/\d9 p t=(j9 p.1 t,((bh (j9 p.1 t)).length:Int),p.2.2.1.map (j5 l),p.2.2.2):=by
 obtain⟨l,e,hl⟩:=h.w.runs_dl
 refine⟨l,e,hl,?_⟩
 unfold d9
 rw[ER ht a,h.rd,show ((bh p.1).length:Int).toNat=(bh p.1).length from rfl]
 simp_all
theorem PO.until{q t:Int}{p:dY}(h:PO q p)(a:t<=1000):PO q (d9 p t)/\t<=bf (d9 p t).1/\bf p.1<=bf (d9 p t).1:=by
 by_cases b:bf p.1<=t
 .obtain⟨l,e,hl,eu⟩:=h.until_in b a;have hn:=h.w.s.now;rw[eu];refine⟨⟨h.w.runs ⟨ab,ab⟩,h.q0,by show bf (j9 p.1 t)<=_;rw[Ab];exact a,rfl,h.vs,by show (p.2.2.1.map _).length<=2;rw[mg];exact h.n2,λs hs=>?_⟩,by show t<=bf (j9 p.1 t);rw[Ab];exact gH _,by show _<=bf (j9 p.1 t);rw[Ab];exact b⟩;obtain⟨s0,c,rfl⟩:=List.mem_map.1 hs;rw[h.w.net,Ab];exact (h.st s0 c).recv a b hl
 .have b:t<bf p.1:=ab;rw[h.until_out b];grind
theorem PO.exp{q:Int}{p:dY}(h:PO q p):PO q (gU (bf p.1) p):=by
 refine⟨h.w,h.q0,h.nw,h.rd,h.vs,by show (p.2.2.1.map _).length<=2;rw[mg];exact h.n2,λs hs=>?_⟩
 obtain⟨s0,a,rfl⟩:=List.mem_map.1 hs
 have k:=h.st s0 a
 obtain⟨L,m,v⟩:=k.vi
 obtain⟨m',v',-⟩:=v.expire (gH _) (by have:=h.nw;omega)
 exact⟨k.nd,k.pl,⟨L,m',v'⟩,k.nx,k.sn,k.cp⟩
theorem aY8{v:bT}{L:List dD}{m:Nat}{t a b c d:Int}(h:mC v L m t)(hn:v.2.2.1<=1000):(∃ L' e,mC (oo v t a b c d) L' e t)/\(oo v t a b c d).2.2.1<=1000:=by
 unfold oo
 split
 next h0=>obtain⟨e,v',-⟩:=h.expire (gH _) h.now.2;refine⟨⟨_,_,v'.add⟩,?_⟩;show v.2.2.1+1<=1000;unfold kz at h0;omega
 .grind
theorem IU(v:bT)(t a b c d:Int):bytes (nU v t a b c d)/\((nU v t a b c d).length:Int)<=2000:=by
 unfold nU
 split
 .exact⟨Th _,by have:=ac6 (uo v a b c d (rU v.2.1 v.2.2.1));omega⟩
 .exact⟨λx hx=>(by cases hx),bo⟩
theorem Xl{w:aJ}{t n:Int}(h:mj w t n=0):bf w<=t:=by
 unfold mj at h
 omega
theorem qM.more{n t q a:Int}{s:ck}(h:qM n t q s)(hq:q<=a):qM n t a s:=⟨h.nd,h.pl,h.vi,h.nx,by have:=h.sn;omega,h.cp⟩
theorem PO.send{q:Int}{p:dY}(h:PO q p){d:Du}(hq:q+1<=1000000)(j:0<=d.1/\d.1<p.2.2.1.length)(ht:eI d<=bf p.1):PO (q+1) (mi p d)/\bf (mi p d).1=bf p.1:=by
 have f:ic p d∈p.2.2.1:=cA j.1 j.2
 have k:=h.st _ f
 have hq0:=h.q0
 have more:∀ s∈p.2.2.1,qM (aH p.1).1.length (bf p.1) (q+1) s:=λs f=>(h.st s f).more ab
 have k1:qM (aH p.1).1.length (bf p.1) (q+1) (tZ (ic p d)):=⟨k.nd,k.pl,k.vi,k.nx,by have:=k.sn;show 0<=iZ (ic p d)+1/\iZ (ic p d)+1<=q+1;omega,k.cp⟩
 unfold mi
 split
 next e=>
  have g:eI d=bf p.1:=by have:=Xl e.2;omega
  obtain⟨L,m,v⟩:=k.vi;obtain⟨b1,b2⟩:=IU (mY (ic p d)) (eI d) (kD p d).1 (kD p d).2.1 (kD p d).2.2.1 (kD p d).2.2.2.1;obtain⟨s1,-,s3⟩:=h.w.send ab e.2 b1 b2;refine⟨⟨s1.more ab ab,ab,h.nw,h.rd,h.vs,by show (p.2.2.1.set _ _).length<=2;rw[fF];exact h.n2,λs f=>?_⟩,rfl⟩;show qM (aH (tC p.1 _ _ _)).1.length (bf p.1) (q+1) s;rcases zt f with f|rfl
  .exact more s f
  .have i:=aY8 (a:=(kD p d).1) (b:=(kD p d).2.1) (c:=(kD p d).2.2.1) (d:=(kD p d).2.2.2.1) v k.nx;rw[← g] at i;exact⟨k.nd,k.pl,by rw[← g];exact i.1,i.2,k1.sn,k.cp⟩
 .refine⟨⟨h.w.more ab ab,ab,h.nw,h.rd,h.vs,by show (p.2.2.1.set _ _).length<=2;rw[fF];exact h.n2,λs f=>?_⟩,rfl⟩;grind
theorem wP(p:dY)(t:Int):(d9 p t).2.2.1.length=p.2.2.1.length:=mg _
theorem aP7(p:dY)(d:Du):(mi p d).2.2.1.length=p.2.2.1.length:=by unfold mi;split <;> exact fF ..
theorem PO.step{q:Int}{p:dY}(h:PO q p){d:Du}(hq:q+1<=1000000)(hd:0<=d.1/\d.1<p.2.2.1.length)(ht:eI d<=1000):PO (q+1) (fa p d)/\bf p.1<=bf (fa p d).1:=by
 obtain⟨h1,h2,h3⟩:=h.until ht
 obtain⟨s1,s2⟩:=h1.send hq (by rw[wP];exact hd) h2
 exact⟨s1,by show _<=bf (mi _ d).1;rw[s2];exact h3⟩
theorem GB(p:dY)(d:Du):(fa p d).2.2.1.length=p.2.2.1.length:=(aP7 _ _).trans (wP _ _)
theorem PO.steps{n:Nat}:∀{l:List Du}{q:Int}{p:dY},PO q p->p.2.2.1.length=n->q+l.length<=1000000->(∀ d∈l,(0<=d.1/\d.1<n)/\eI d<=1000)->PO (q+l.length) (l.foldl fa p)/\(l.foldl fa p).2.2.1.length=n
 | [],q,p,h,c,_,_=>⟨by simpa using h,c⟩
 | d::l,q,p,h,c,hq,e=>by
  rw[dP] at hq ⊢;have k:=e d fp;obtain⟨h1,-⟩:=h.step ab (by rw[c];exact k.1) k.2;obtain⟨a,b⟩:=PO.steps h1 ((GB p d).trans c) ab λx hx=>e x (fu _ hx);grind
theorem Rr{c:Int}:∀{l:List Del}{s:ck}{L:List dD}{m:Nat}{t:Int},mC (mY s) L m t->(∀ x∈l,c<=x.1)->gz c (j5 l s)=gz c (j5 l (gz c s))
 | [],s,L,m,t,h,_=>by
  show xg s _=xg s _;rw[show dN (mY (j5 [] (gz c s))) c=dN (mY s) c from h.twice (gH _)];rfl
 | d::l,s,L,m,t,h,b=>by
  by_cases e:wz s=d.2.1
  .have a:lO s d=lO (gz c s) d:=by
    unfold lO;rw[aj e,aj (show wz (gz c s)=d.2.1 from e)];show xg s _=xg s (kf (dN (mY s) c) d.1 d.2.2);rw[a94 (h.twice (b d fp))]
   show gz c (j5 l (lO s d))=gz c (j5 l (lO (gz c s) d));rw[a]
  .have a:lO s d=s:=by unfold lO;rw[ah e]
   have e2:lO (gz c s) d=gz c s:=by unfold lO;rw[ah (show ¬ wz (gz c s)=d.2.1 from e)]
   show gz c (j5 l (lO s d))=gz c (j5 l (lO (gz c s) d));rw[a,e2];exact Rr h λx hx=>b x (fu _ hx)
theorem PO.until_exp{q c t:Int}{p:dY}(h:PO q p)(hc:c<=bf p.1)(ht:t<=1000):gU c (d9 p t)=gU c (d9 (gU c p) t):=by
 have a:∀ x∈(bh (iy p.1 t)).drop p.2.1.toNat,c<=x.1:=by
  by_cases q:bf p.1<=t
  .obtain⟨l,e,a⟩:=h.w.runs_dl;rw[ER q ht,h.rd,show ((bh p.1).length:Int).toNat=(bh p.1).length from rfl,e,List.drop_left];exact λx b=>by have:=(a.t x b).1;omega
  .rw[Fx ab,h.rd,show ((bh p.1).length:Int).toNat=(bh p.1).length from rfl,List.drop_length];exact λx b=>by cases b
 show (_,_,List.map _ (List.map _ _),_)=(_,_,List.map _ (List.map _ (List.map _ _)),_)
 rw[List.map_map,List.map_map,List.map_map]
 refine fj (λz=>(iy p.1 t,((bh (iy p.1 t)).length:Int),z,p.2.2.2)) (List.map_congr_left λs hs=>?_)
 obtain⟨L,m,v⟩:=(h.st s hs).vi
 exact Rr v a
theorem PO.send_exp{q c:Int}{p:dY}(h:PO q p)(hc:c<=bf p.1){d:Du}(r:0<=d.1/\d.1<p.2.2.1.length):gU c (mi p d)=gU c (mi (gU c p) d):=by
 have i:ic p d∈p.2.2.1:=cA r.1 r.2
 obtain⟨L,m,v⟩:=(h.st _ i).vi
 have b:ic (gU c p) d=gz c (ic p d):=by
  unfold ic;show (p.2.2.1.map (gz c)).getD _ _=_;simp_all
 have j:kD (gU c p) d=kD p d:=by unfold kD;rw[b];rfl
 have s:Ck (gU c p) d=Ck p d:=by unfold Ck;rw[b];rfl
 have l:∀ x,gz c (gz c x)=xg x (dN (dN (mY x) c) c):=λx=>rfl
 have f:∀ x∈p.2.2.1,gz c (gz c x)=gz c x:=λx hx=>by
  obtain⟨L,m,v⟩:=(h.st x hx).vi;rw[l,v.twice (gH _)];rfl
 have n:(p.2.2.1.map (gz c)).map (gz c)=p.2.2.1.map (gz c):=by
  rw[List.map_map];exact List.map_congr_left f
 by_cases e:Ck p d=0
 .have hat:=Xl e;have o:=v.twice (a:=eI d) (c:=c) ab;have eE:Co (gU c p) d=Co p d:=by unfold Co;rw[j,b];exact Md o
  unfold mi;rw[eE,s];by_cases g:Co p d=0
  .rw[aj ⟨g,e⟩,aj ⟨g,e⟩];have eV:EL (gU c p) d=EL p d:=by unfold EL;rw[j,b];exact aW7 o g
   have eB:Er (gU c p) d=Er p d:=by unfold Er;rw[j,b];exact ag2 o
   rw[eV,eB,b];show (_,_,List.map _ (set _ _ _),_)=(_,_,List.map _ (set (List.map _ _) _ _),_)
   rw[List.map_set,List.map_set,n];rfl
  .rw[ah (λk=>g k.1),ah (λk=>g k.1),b];show (_,_,List.map _ (set _ _ _),_)=(_,_,List.map _ (set (List.map _ _) _ _),_)
   rw[List.map_set,List.map_set,n];rw[show gz c (tZ (gz c (ic p d)))=tZ (gz c (gz c (ic p d))) from rfl,f _ i];rfl
 .unfold mi;rw[s,ah (λk=>e k.2),ah (λk=>e k.2),b];show (_,_,List.map _ (set _ _ _),_)=(_,_,List.map _ (set (List.map _ _) _ _),_)
  rw[List.map_set,List.map_set,n];rw[show gz c (tZ (gz c (ic p d)))=tZ (gz c (gz c (ic p d))) from rfl,f _ i];rfl
theorem aX1{q c:Int}{p r:dY}(h:PO q p)(k:PO q r)(e:gU c p=gU c r)(hc:c<=bf p.1)(kc:c<=bf r.1){d:Du}(b:0<=d.1/\d.1<p.2.2.1.length)(kd:d.1<r.2.2.1.length)(a:eI d<=1000):gU c (fa p d)=gU c (fa r d):=by
 have hu:=h.until a
 have ku:=k.until a
 have eu:gU c (d9 p (eI d))=gU c (d9 r (eI d)):=by rw[h.until_exp hc a,k.until_exp kc a,e]
 unfold fa
 rw[hu.1.send_exp ab (by rw[wP];exact b),ku.1.send_exp ab (by rw[wP];exact⟨b.1,kd⟩),eu]
theorem RD{c:Int}{n:Nat}:∀{l:List Du}{q:Int}{p r:dY},PO q p->PO q r->gU c p=gU c r->c<=bf p.1->c<=bf r.1->p.2.2.1.length=n->r.2.2.1.length=n->q+l.length<=1000000->(∀ d∈l,(0<=d.1/\d.1<n)/\eI d<=1000) →
  gU c (l.foldl fa p)=gU c (l.foldl fa r)/\c<=bf (l.foldl fa p).1/\c<=bf (l.foldl fa r).1
 | [],q,p,r,h,k,e,a,f,_,_,_,_=>⟨e,a,f⟩
 | d::l,q,p,r,h,k,e,a,f,g,i,hq,j=>by
  rw[dP] at hq;have b:=j d fp;obtain⟨h1,h2⟩:=h.step ab (by rw[g];exact b.1) b.2;obtain⟨k1,k2⟩:=k.step ab (by rw[i];exact b.1) b.2;exact RD (l:=l) h1 k1 (aX1 h k e a f (by rw[g];exact b.1) (by rw[i];exact b.1.2) b.2) ab ab ((GB p d).trans g) ((GB r d).trans i) ab λx hx=>j x (fu _ hx)
theorem PO.until_two{q c t:Int}{p:dY}(h:PO q p)(f:bf p.1<=c)(a:c<=t)(g:t<=1000):d9 (d9 p c) t=d9 p t:=by
 obtain⟨l,e,hl,i⟩:=h.until_in f ab
 obtain⟨l2,e2,hl2,b⟩:=h.until_in ab g
 have hu:=(h.until (t:=c) ab).1
 obtain⟨j,k,hl3,d⟩:=hu.until_in (by rw[i];rw[Ab];exact a) g
 rw[d,b]
 rw[i] at k ⊢
 have ew:j9 (j9 p.1 c) t=j9 p.1 t:=h.w.two f a ab
 rw[ew] at k ⊢
 have el:l2=l++j:=by
  simp_all
 rw[List.map_map,el]
 refine fj (λz=>(j9 p.1 t,((bh (j9 p.1 t)).length:Int),z,p.2.2.2)) (List.map_congr_left λs _=>(Vf l j s).symm)
theorem PO.exp_two{q c t:Int}{p:dY}(h:PO q p)(a:c<=t):gU t (gU c p)=gU t p:=by
 show (_,_,List.map _ (List.map _ _),_)=(_,_,List.map _ _,_)
 rw[List.map_map]
 refine fj (λz=>(p.1,p.2.1,z,p.2.2.2)) (List.map_congr_left λs hs=>?_)
 obtain⟨L,m,v⟩:=(h.st s hs).vi
 show xg s (dN (dN (mY s) c) t)=xg s _
 rw[v.twice a]
theorem ae2{q c t:Int}{n:Nat}{s:dY}(h:PO q s)(hn:s.2.2.1.length=n)(i:bf s.1<=c)(b:c<=t)(e:t<=1000){l:List Du}(j:q+l.length<=1000000)(f:∀ d∈l,(0<=d.1/\d.1<n)/\eI d<=1000)(ha:∀ d∈l,c<=eI d) :
  gU t (d9 (l.foldl fa (gU c (d9 s c))) t)=gU t (d9 (l.foldl fa s) t):=by
 have g:=(h.until (t:=c) ab).1
 have un:bf (d9 s c).1=c:=by
  obtain⟨_,_,_,eu⟩:=h.until_in i ab;rw[eu];exact Ab _ _
 have k:=g.exp
 rw[un] at k
 have ux:d9 (l.foldl fa s) t=d9 (l.foldl fa (d9 s c)) t:=by
  cases l with
  | nil=>exact (h.until_two i b e).symm
  | cons d l =>
   show d9 (l.foldl fa (fa s d)) t=d9 (l.foldl fa (fa (d9 s c) d)) t;have hd:=f d fp;rw[show fa (d9 s c) d=fa s d by unfold fa;rw[h.until_two i (ha d fp) hd.2]]
 rw[ux]
 have len:(d9 s c).2.2.1.length=n:=(wP _ _).trans hn
 have a:(gU c (d9 s c)).2.2.1.length=n:=(mg _).trans len
 have e0:gU c (gU c (d9 s c))=gU c (d9 s c):=g.exp_two (gH _)
 obtain⟨a1,a2,a3⟩:=RD k g e0 (by show c<=bf (d9 s c).1;omega) ab a len j f
 have m:=(k.steps a j f).1
 have o:=(g.steps len j f).1
 have b1:=m.until_exp a2 e
 have b2:=o.until_exp a3 e
 have c1:=(m.until e).1
 have c2:=(o.until e).1
 rw[← c1.exp_two b,← c2.exp_two b,b1,b2,a1]
end Go.RS
