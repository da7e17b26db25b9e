/- SX, part 29: slices.Insert of one element into a slice that owns its row: its contract, off what its code does with values. -/
import Derived.Test.YtghpjjompmlooaaGreatDoorSx25
import Derived.Lib.AppendZerosOnto
import Derived.Lib.Overlaps
import Derived.Laws.Externs
import Derived.Lib.Walk
import Derived.Lib.SliceRun
import Derived.Shelf.RegionOpenPlain
import Derived.Test.YtghpjjompmlooaaGreatDoorHome
import Derived.Test.YtghpjjompmlooaaGreatDoorSx32
import Derived.Shelf.SlSortCmp.NoneTotal
import Derived.Shelf.SlicesE.Equal
import Derived.Lib.SlicesCompact
import Derived.Test.YtghpjjompmlooaaGreatDoorWire
set_option maxRecDepth 100000
set_option linter.all false
open Int (toNat)
open List (length take getD set replicate range drop)
open Array renaming getElem?_append_left->cE7,getElem?_eq_getElem->cM2,getElem?_eq_some_iff->cu3,replicate->cH0,size_append->cA5
open Bool renaming and_eq_true_iff->cw4,false->ct2,true->cs8
open Classical renaming not_not->cz8
open Decidable renaming byContradiction->cK5,decide->cs7
open Go renaming Calls->cW3,FuncId->cy6,Program->cZ1,Program->cu2,TypeId->ct5,Value->ct8,World->cu6,cell_of_row->cy5,cell_setRow_other->cB2,grownCap->cz2,grownCap_ge->cI4,grownCap_le_maxLen->cB4,growslice_fits->cL6,heap_alloc_new->cD8,maxLen->cu5,run_callFunc_extern->cJ8,run_firstCells_some->cJ9,setRow_heap->cA4,setRow_setRow->cE6,sizeOf->cC5
open Go.Addr renaming add_lit->cv5
open Go.BinOp renaming xor->cx8
open Go.Builtin renaming append_->cv7,copy_->cx4,firstCells->cE1,zeroCells->cu8
open Go.Extern.SlicesOverlaps renaming overlaps->cA8
open Go.Func renaming ntmps->cS9
open Go.IntKind renaming i64->ct0,u32->ct3,u64->ct9,u8->cw0,wrap->ct1,wrap_i64->cw6,wrap_u8'->cy9
open Go.Lib renaming run_append_grow_zeros->cF7,run_overlaps_apart->cH2,wpList_append_run->cy7
open Go.Value renaming pointer->cU4,slice->cE0
open Go.World renaming cell?->cP5,cell?_alloc_past->cy3,frozen?->cB6,shape?->cv9
open Inhabited renaming default->cs5
open Int renaming le_trans->cJ4,mul_le_mul->cG1,mul_nonneg->cG0,tdiv->cB9,tmod->cx2,toNat->M,toNat_natCast->cv6,toNat_of_nonneg->cF2
open List renaming Pairwise->cy1,any->cW4,any_eq_true->cw7,dropWhile_cons->cI8,drop_drop->cA1,drop_take->cM1,flatMap_append->cI6,flatten->cw2,foldl->cw5,foldl_cons->cx7,getD->T,getElem?_eq_some_iff->ct6,getElem?_map->cA7,getElem?_toArray->cD7,getElem_mem->cv2,length->V,length_range->cC9,map->cA6,mem_filter->cx9,mem_iff_getElem->cv8,mem_map->cv1,mem_range->cx1,mergeSort->cU3,not_mem_nil->cD6,pairwise_append->cw9,pairwise_cons->cu1,takeWhile_cons->cI7,takeWhile_cons_of_neg->cB3,takeWhile_cons_of_pos->cF4,take_length->cz4
open List.Pairwise renaming nil->cx5,sublist->cX2
open List.Sublist renaming refl->cY1
open Nat renaming beq->ct7,lt_of_lt_of_le->cF8,min->cD5,min_def->cw1,mul_comm->cD4,zero_le->cG2
open Option renaming map_some->cB5,ne_none_iff_exists'->cE5,none->ct4,some->cs6
open Prod renaming snd->cJ3
namespace Go.SX
def gp(cur:Array ct8)(o:Nat)(cs:List ct8):Array ct8:=(cur.toList.take o++cs++cur.toList.drop (o+V cs)).toArray
variable{cur:Array ct8}{o:Nat}{cs:List ct8}
theorem y8(h:o+V cs<=cur.size):(gp cur o cs).size=cur.size:=by
 simp only[gp,vz,cw,fF,gR,jF];omega
theorem yF(h:o+V cs<=cur.size)(j) :
  (gp cur o cs)[j]? = if j<o then cur[j]? else if j<o+V cs then cs[j-o]? else cur[j]? := by
 unfold gp
 rw[cD7]
 have hl:V (cur.toList.take o)=o:=by rw[fF,jF];omega
 grind
def fe(cur:Array ct8)(o n:Nat):List ct8:=(cur.toList.drop o).take n
variable{n:Nat}
theorem vV(h:o+n<=cur.size):V (fe cur o n)=n:=by
 unfold fe;rw[fF,gR,jF];omega
theorem uE{j}(h:j<n):(fe cur o n)[j]? = cur[o+j]? := by
 unfold fe;rw[Cl,ao h,Ca,rz]
def zh(cur:Array ct8)(off n i z:Nat)(vs:List ct8):Array ct8:=gp (gp cur (off+(i+1)*z) (fe cur (off+i*z) ((n-i)*z))) (off+i*z) vs
def qu(cur:Array ct8)(off n i z G:Nat)(zr:Array ct8):Array ct8:=(fe cur off (i*z)).toArray++cu8 zr (n+1-i)++cu8 zr (G-(n+1))
def wH(cur:Array ct8)(off n i z G:Nat)(zr:Array ct8)(vs:List ct8):Array ct8:=gp (gp (qu cur off n i z G zr) (i*z) vs) ((i+1)*z) (fe cur (off+i*z) ((n-i)*z))
structure MO (P:cu2) (F:cy6) (tS E:ct5) (z bs:Nat) (zr:Array ct8) (ty:ct5):Prop where
 last:∀(w w':cu6)(p q:Option Addr)(n c vc:Nat)(v:ct8),n<=c->c<=cu5->(cv7 #[tS,tS] ty #[.slice p n c,.slice q 1 vc]).run P w = .ok v w' →
  cW3 P F #[.slice p n c,.int .i64 n,.slice q 1 vc] w λe w2=>e = .returned v/\w2=w'
 shift:∀(w:cu6)(b off n c i vb voff vc:Nat)(cur vcur:Array ct8)(E':ct5)(vs:List ct8),i<n->n+1<=c->c<=cu5->vb≠b->w.heap[b]? = cs6 (.cells cur E (0,0))->off+c*z<=cur.size →
  w.heap[vb]? = cs6 (.cells vcur E' (0,0))->V vs=z->(∀ j v,vs[j]? = cs6 v->w.cell? ⟨vb,voff+j,ct4⟩=cs6 v)->(∀ v∈vs,v.oneCell'=cs8)->(∀ v∈fe cur (off+i*z) ((n-i)*z),v.oneCell'=cs8) →
  cW3 P F #[.slice (cs6 ⟨b,off,ct4⟩) n c,.int .i64 i,.slice (cs6 ⟨vb,voff,ct4⟩) 1 vc] w λe w'=>e = .returned (.slice (cs6 ⟨b,off,ct4⟩) (n+1) c)/\w'=w.drew.setRow b (zh cur off n i z vs)
 grow:∀(w:cu6)(b off n i vb voff vc:Nat)(cur vcur:Array ct8)(E':ct5)(vs:List ct8),i<n->n+1<=cu5->(n+1)*bs<=140737488355328->w.heap[b]? = cs6 (.cells cur E (0,0))->off+n*z<=cur.size →
  w.heap[vb]? = cs6 (.cells vcur E' (0,0))->V vs=z->(∀ j v,vs[j]? = cs6 v->w.cell? ⟨vb,voff+j,ct4⟩=cs6 v)->(∀ v∈vs,v.oneCell'=cs8)->(∀ v∈fe cur off (n*z),v.oneCell'=cs8) →
  cW3 P F #[.slice (cs6 ⟨b,off,ct4⟩) n n,.int .i64 i,.slice (cs6 ⟨vb,voff,ct4⟩) 1 vc] w λe w'=>e = .returned (.slice (cs6 ⟨w.heap.size,0,ct4⟩) (n+1) (cz2 w (n+1) n E)) ∧
   ∃ w1:cu6,cY w.drew w1 (λ_=>False)/\w1.heap.size=w.heap.size+1/\w1.heap[w.heap.size]? = cs6 (.cells (qu cur off n i z (cz2 w (n+1) n E) zr) E (0,0))/\w'=w1.setRow w.heap.size (wH cur off n i z (cz2 w (n+1) n E) zr vs)
def Cz(u:CT)(E:ct5)(bs:Nat):Spec:=λbase svs=>match svs with
 | [.own n sz,.int .i64 i,.own q sq]=>match ct7 q n with
  | true => .fail
  | false => .ask n fun
   | .live (.row E' u' xs)=>match ct7 E' E,ct7 sz u.size,iP u' u xs with
    | true,cs8,cs6 ys=>(zM u (.own q sq)).bind λvs=>.ask base fun
     | .un => .ret (.det [V vs=1,0<=i,i<=V ys,(V ys+1)*bs<=140737488355328] (.own base u.size) [(base,.live (.row E u (ys.take (M i)++(vs++ys.drop (M i))))),(n,.dead)])
     | _ => .fail
    | _,_,_ => .fail
   | _ => .fail
 | _ => .fail
section
variable {P:cu2} {w0:cu6} {N0:fT} {A:Nat->Prop} {env:bt} {h:cq} {w:cu6}
variable{n:Nat}{r:List Nat}
theorem b93(m:Mod w0 N0 A env h w){t:CT}(nu:t ≠ .int .u8){E:Nat}{v:ct8}{ys:List t.D}(e:(zM t (.own n E)).run h=cs6 (ys,r))(hd:ax A env w (.own n E) v)(K:V ys=1) :
  ∃ k l c a f,env n = .blk k l/\v = .slice (cs6 ⟨k,l.1,ct4⟩) 1 c/\w.heap[k]? = cs6 (.cells a f (0,0))/\(∀ j s z b,j≠n->h j = .live b->b.mut=cs8->env j = .blk s z->k≠s) ∧
   Rd A w t (λo=>w.cell? ⟨k,o,ct4⟩) l.1 (qa t ys 0):=by
 simp only[zM,Q.run] at e
 have B:∀{b:lJ}{f:ct5}{zs:List t.D},h n = .live b->(b = .row f t zs∨b = .frz f t zs)->V zs=1 →
   ∃ k l c a f,env n = .blk k l/\v = .slice (cs6 ⟨k,l.1,ct4⟩) 1 c/\w.heap[k]? = cs6 (.cells a f (0,0))/\(∀ j s z b,j≠n->h j = .live b->b.mut=cs8->env j = .blk s z->k≠s) ∧
    Rd A w t (λo=>w.cell? ⟨k,o,ct4⟩) l.1 (qa t zs 0):=by
  intro b f zs hl hb hz;obtain⟨hnil,_⟩|⟨k,l,E2,c,d,hsh,rfl⟩:=hd
  .have:=m.nm n;rw[hl] at this;obtain⟨s,z,x,_⟩|⟨_,E3,t3,hb3⟩:=this
   .simp_all
   .grind
  .have y:=m.live_blk hl d;have g:uw A w k l f t zs:=by
    obtain rfl|rfl:=hb
    .exact y.1
    .exact y.1.2
   have S:l.2=1:=by have ⟨_,_,_,_,h3,_⟩:=g;omega
   have F:=Hb g (i:=0) Y;have ⟨a,cap,hh,_⟩:=g;refine⟨k,l,(c-l.1)/E,a,f,d,by rw[S],hh.plain nu,?_,by simpa using F⟩;intro j s z b' hne hl' hm' x hkk;subst hkk;obtain rfl|rfl:=hb
   .exact hne (m.inj j n b' _ k z l hl' hl hm' rfl x d)
   .exact (m.live_blk hl' x).2 hm' y.1.1
 split at e
 next p q d=>
  obtain⟨rfl,rfl⟩:=e;split at d
  .rename_i f u zs hl;split at d
   next G _ hc=>obtain⟨rfl,_⟩:=d;have ⟨H,D⟩:=lv hc;subst H;subst D;exact B hl (.inl rfl) K
   .cases d
  .rename_i f u zs hl;split at d
   next G _ hc=>obtain⟨rfl,_⟩:=d;have ⟨H,D⟩:=lv hc;subst H;subst D;exact B hl (.inr rfl) K
   .cases d
  .cases d
 .cases e
variable{o:Nat}
theorem ae5{u:CT}{xs:List u.D}{y:u.D}{i:Nat}{row:Nat->Option ct8}{cur:Nat->Option ct8}{off:Nat}(hi:i<=V xs)
  (f:∀ k (a:k<V xs),Rd A w u cur (off+k*u.size) xs[k]) {news:Nat->Option ct8} (hy:Rd A w u news 0 y)
  (h1:∀ j,j<i*u.size->row (o+j)=cur (off+j)) (h2:∀ j,j<u.size->row (o+i*u.size+j)=news j) (h3:∀ j,j<(V xs-i)*u.size->row (o+(i+1)*u.size+j)=cur (off+i*u.size+j)) :
  ∀ k (a:k<V (xs.take i++([y]++xs.drop i))),Rd A w u row (o+k*u.size) (xs.take i++([y]++xs.drop i))[k]:=by
 intro k a
 have hl:V (xs.take i)=i:=by rw[fF];omega
 by_cases b:k<i
 .rw[List.getElem_append_left Y];simp;have c:(k+1)*u.size<=i*u.size:=nk _ b;rw[gA,qS] at c;refine zu (f k Y) λj d=>?_;rw[jv,h1 _ Y,jv]
 .rw[List.getElem_append_right Y];simp only[hl];by_cases e:k=i
  .subst e;simp;refine zu hy λj d=>?_;rw[h2 j d,gD]
  .obtain⟨q,rfl⟩:∃ q,k=i+1+q:=⟨k-i-1,Y⟩
   have hq:i+q<V xs:=by simp at a;omega
   have hg:([y]++xs.drop i)[i+1+q-i]'(by simp;omega)=xs[i+q]:=by
    simp only[show i+1+q-i=q+1 from by omega,kQ,x9,List.getElem_cons_succ,List.getElem_drop]
   rw[hg];have c:(q+1)*u.size<=(V xs-i)*u.size:=nk _ Y;rw[gA,qS] at c;refine zu (f (i+q) hq) λj d=>?_;rw[show o+(i+1+q)*u.size+j=o+(i+1)*u.size+(q*u.size+j) from by rw[gA (i+1)];omega,h3 _ Y];grind
variable{E ty:ct5}{zv:ct8}{z:Nat}
theorem b07(m:Mod w0 N0 A env h w){e:ct5}{t c L q s:Nat}{u:CT}{xs ys:List u.D}{k l:ct8}(hu:P.underlying e=cs6 (.slice E))(p:(P.info? E).map (λi=>(i.zero,i.size,i.bytes))=cs6 (cs6 zv,z,t))(x:zv.cells.size=z)(y:1<=t)(hz:z=u.size)
  (hl:h n = .live (.row E u xs)) (B:L=u.size) (hs:(zM u (.own q s)).run h=cs6 (ys,r)) (S:h c = .un) (F:(V xs+V ys)*t<=140737488355328)
  (ds:ax A env w (.own n L) k) (dx:ax A env w (.own q s) l) :
  ∃ v w',(cv7 #[e,e] ty #[k,l]).run P w = .ok v w'∧eV w0 N0 A env h w (.det [] (.own c u.size) [(c,.live (.row E u (xs++ys))),(n,.dead)]) v w':=by
 obtain⟨j,f⟩:∃ j,P.info? E=cs6 j:=by
  cases hh:P.info? E with
  | none=>rw[hh] at p;cases p
  | some j=>exact⟨j,rfl⟩
 rw[f] at p
 simp at p
 have ⟨G,H,D⟩:=p
 subst hz D B
 have R:(IJ P e c (.own n u.size) (.own q s)).run h=cs6 (.det [(V xs+V ys)*j.bytes<=140737488355328] (.own c u.size) [(c,.live (.row E u (xs++ys))),(n,.dead)],n::(r++[c])):=by
  have K:vH P e=cs6 (E,u.size):=by unfold vH;rw[hu];simp[iu,f,H]
  unfold IJ;rw[K];simp only[f,Nat.ble_eq_true_of_le y,G,x,wK];simp only[Q.run,hl,wK];rw[Q.bind_run1 _ _ hs (b := .det [(V xs+V ys)*j.bytes<=140737488355328] (.own c u.size) [(c,.live (.row E u (xs++ys))),(n,.dead)]) (r2:=[c]) (by simp only[Q.run,S])]
 let o : Oper := { dst := ct4, op := .call { callee := .builtin .append, args := #[.tmp 0, .tmp 1], argTypes := #[e, e] }, type := ty, pos := "", after := #[], guard := ct4 }
 let a:Act:={tmps := #[k,l],defers:=[]}
 have fd:FD A env w (λi=>if i=0 then .own n u.size else if i=1 then .own q s else .junk) a:=by
  intro i;by_cases U:i=0
  .subst U;exact ds
  .by_cases W:i=1
   .subst W;exact dx
   .simp only[U,W,if_false,ax]
 have ⟨v,w',d,g⟩:=ZN (o:=o) m fd (by simp[L7]) rfl R (by simp only[Dl.pre,bQ,ir];exact F)
 have K:(execOp a.eval o).run P w=((cv7 #[e,e] ty #[k,l]).run P w).andThen λv w'=>.ok (.value v) w':=by
  unfold execOp;simp only[o,resolve,invoke,builtin,Sem.run_bind,Sem.run_pure,Result.andThen_ok,List.map_toArray,f6,List.map_nil];rfl
 rw[K] at d
 cases X:(cv7 #[e,e] ty #[k,l]).run P w with
 | ok v1 w1 =>
  rw[X] at d;obtain d|⟨d,_⟩:=d
  .cases d;exact⟨v,w',rfl,g⟩
  .cases d
 | _=>rw[X] at d;obtain d|⟨d,_⟩:=d <;> cases d
theorem WY{t:CT}{ys:List t.D}(h:V ys=1):ys=[qa t ys 0]:=by
 match ys,h with
 | [y],_=>rfl
theorem ak1{u:CT}{cv:Nat->Option ct8}{xs:List u.D}(hx:∀ i (d:i<V xs),Rd A w u cv (o+i*u.size) xs[i]){cur:Array ct8}(hc:∀ j,cv j=cur[j]?){a:Nat}(ha:a+n<=V xs)(hs:o+(a+n)*u.size<=cur.size) :
  ∀ v∈fe cur (o+a*u.size) (n*u.size),v.oneCell'=true:=by
 obtain⟨news,hl,b,h1⟩:=NN ((xs.drop a).take n) (o+a*u.size) (λi d=>by
  simp at d;have:=hx (a+i) Y;simp;rw[jv,← gA];exact this)
 have c:V ((xs.drop a).take n)=n:=by rw[fF,gR];omega
 rw[c] at hl
 intro v hv
 obtain⟨j,hj,rfl⟩:=cv8.1 hv
 have hcl:=vV (by rw[jv,← gA];exact hs)
 have e1:(fe cur (o+a*u.size) (n*u.size))[j]? = news[j]? := by
  rw[uE Y,← hc,b j Y]
 grind
theorem Rm{G:vf}{F:cy6}{tS:ct5}{bs:Nat}{u:CT}(raw:MO P F tS E z bs zv.cells ty)(hu:P.underlying tS=cs6 (.slice E))(hi:(P.info? E).map (λi=>(i.zero,i.size,i.bytes))=cs6 (cs6 zv,z,bs))
  (hzr:zv.cells.size=z) (hbs:1<=bs) (hz:z=u.size) (nu:u ≠ .int .u8:=by exact λh=>CT.noConfusion h):mG P G F (Cz u E bs):=by
 intro base svs h d r e hp w0 N0 A env w vs hg m hd
 unfold Cz at e
 split at e
 case h_2=>cases e
 rename_i n sz i q sq
 split at e
 .cases e
 rename_i hqn
 have hqn:q≠n:=λe=>by rw[e,wK] at hqn;cases hqn
 simp only[Q.run] at e
 split at e
 case h_2=>cases e
 rename_i p0 q0 hk
 simp only[cy,ck] at e
 obtain⟨rfl,rfl⟩:=e
 split at hk
 case h_2=>cases hk
 rename_i E' u xs hl
 split at hk
 case h_2=>cases hk
 rename_i ys hE hsz hc
 have hE:=bH hE
 have hsz:=bH hsz
 have ⟨et,ey⟩:=lv hc
 subst et hE hsz
 simp only at ey
 subst ey
 obtain⟨vs1,q1,q2,e1,e2,rfl⟩:=Q.run_bind _ _ _ hk
 simp only[Q.run] at e2
 split at e2
 case h_2=>cases e2
 rename_i p' q' hk'
 simp only[cy,ck] at e2
 obtain⟨rfl,rfl⟩:=e2
 split at hk'
 case h_2=>cases hk'
 rename_i hun
 cases cE hk'
 simp only[Dl.pre,bQ,ir] at hp
 have ⟨hp1,hp2,hp3,hp4⟩:=hp
 simp only[aL] at hd
 obtain⟨sv,r1,rfl,ds,iv,r2,rfl,di,xv,r3,rfl,dx,rfl⟩:=hd
 have di':=di
 simp only[ax] at di'
 obtain⟨rfl,hii⟩:=di'
 obtain⟨k,l,c,vcur,E2,hkq,rfl,hkc,hkne,hrd⟩:=b93 m nu e1 dx hp1
 subst hz
 have hlen:∀{ii:Nat},ii=V ys->ys.take ii++(vs1++ys.drop ii)=ys++vs1:=by
  rintro _ rfl;rw[cz4,List.drop_length,js]
 obtain⟨ii,rfl⟩:=tj hp2
 have hii2:ii<=V ys:=Y
 simp only[cv6]
 have hlast:∀ nn cc pp,ii=V ys->sv = .slice pp nn cc->nn=V ys->nn<=cc->cc<=cu5 →
   cW3 P F #[sv,.int .i64 (ii:Int),.slice (cs6 ⟨k,l.1,ct4⟩) 1 c] w λe w'=>∃ v,e = .returned v/\eV w0 N0 A env h w (.det [V vs1=1,(0:Int)<=(ii:Int),(ii:Int)<=(V ys:Int),(V ys+1)*bs<=140737488355328] (.own base u.size) [(base,.live (.row E' u (ys.take ii++(vs1++ys.drop ii)))),(n,.dead)]) v w':=by
  rintro nn cc pp rfl rfl rfl hle hmx;have ⟨v,w',hr,g⟩:=b07 (ty:=ty) m hu hi hzr hbs rfl hl rfl e1 hun (by rw[hp1];exact hp4) ds dx;refine (raw.last w w' pp (cs6 ⟨k,l.1,ct4⟩) (V ys) cc c v hle hmx hr).mono ?_;rintro e w2 ⟨rfl,rfl⟩;refine⟨v,rfl,?_⟩;rw[hlen rfl];exact g
 have hdn:∀ n'∈[n],∃ b,h n' = .live b/\b.mut=true:=by simp[hl,lJ.mut]
 have ds':=ds
 simp only[ax] at ds'
 obtain⟨hnil,pa,rfl⟩|⟨b,⟨β,len⟩,E3,cc,hb,hsh,rfl⟩:=ds'
 .have hx:ys=[]:=by
   have:=m.nm n;rw[hl] at this;obtain⟨k',l',he',_⟩|⟨_,E3,t3,hb⟩:=this
   .rw[hnil] at he';cases he'
   .obtain hb|hb:=hb <;> cases hb;rfl
  subst hx;exact hlast 0 0 pa (by simpa using hii2) rfl rfl (dq _) (by simp[cu5])
 .have ⟨cur,cap,hh,hcs,hxl,hlc,hcm,hrdx⟩:=(m.live_blk hl hb).1;have hh:=hh.plain nu;simp only at hcs hxl hlc hrdx;have hcc:cc=cur.size/\E3=E':=by
   unfold cv9 at hsh;rw[hh] at hsh;simp only[cy,ck] at hsh;exact⟨hsh.2.symm,hsh.1.symm⟩
  obtain⟨rfl,rfl⟩:=hcc;have hcap:(cur.size-β)/u.size=cap:=by rw[hcs,nW];exact sN _ u.size_pos
  have hnA:=(m.live_blk hl hb).2 rfl;simp only[hcap] at hlast ⊢;obtain hlt|hge:=Nat.lt_or_ge ii (V ys)
  case inr=>exact hlast len cap _ Y rfl hxl.symm hlc hcm
  have ⟨news,hnl,hnc,hnd⟩:=BQ (env:=env) u _ _ _ hrd;have hn1:=GS hnd (LV _ _);have hnews:∀ j v,news[j]? = cs6 v->w.cell? ⟨k,l.1+j,ct4⟩=cs6 v:=λj v hj=>by
   rw[hnc j (by rw[← hnl];exact (ct6.1 hj).1)];exact hj
  have hry:=zu hrd λj hj=>by rw[gD,hnc j hj]
  have hkb:=hkne n b _ _ (Ne.symm hqn) hl rfl hb;have hlz:(len-ii)*u.size+(ii+1)*u.size=(len+1)*u.size:=by rw[← gA];congr 1;omega
  have hiz:(ii+1)*u.size=ii*u.size+u.size:=by rw[gA,qS]
  have hlcz:len*u.size<=cap*u.size:=nk _ hlc;have hlz1:(len+1)*u.size=len*u.size+u.size:=by rw[gA,qS]
  have hnlen:V (ys.take ii++(vs1++ys.drop ii))=len+1:=by simp;omega
  have hcutl:V (fe cur (β+ii*u.size) ((len-ii)*u.size))=(len-ii)*u.size:=vV Y;by_cases hroom:len+1<=cap
  .have hroomz:(len+1)*u.size<=cap*u.size:=nk _ hroom;refine (raw.shift w b β len cap ii k l.1 c cur vcur E2 news Y hroom hcm hkb hh Y hkc hnl hnews hn1 (ak1 hrdx (λ_=>rfl) Y (by rw[show ii+(len-ii)=len from by omega];omega))).mono ?_;rintro e w' ⟨rfl,rfl⟩;refine⟨_,rfl,?_⟩;have s1:(gp cur (β+(ii+1)*u.size) (fe cur (β+ii*u.size) ((len-ii)*u.size))).size=cur.size:=y8 (by rw[hcutl];omega);have s2:(zh cur β len ii u.size news).size=cur.size:=by unfold zh;rw[y8 (by rw[s1,hnl];omega),s1]
   have cg:=(cY.drew w _).trans (cY.setRow w.drew b cur _ E3 (.of (q:=True) hh) s2);have g:=sn (pre:=[V vs1=1,(0:Int)<=(ii:Int),(ii:Int)<=(V ys:Int),(V ys+1)*bs<=140737488355328]) (v := .slice (cs6 ⟨b,β,ct4⟩) (len+1) cap) (E:=E3) (t:=u) (zs:=ys.take ii++(vs1++ys.drop ii)) m hun [n] hdn (W:=λj=>j=b) (ev := .blk b (β,len+1)) cg
    (λk hk=>⟨n,(β,len),aw,hk▸hb⟩) aw (λk l e=>by cases e;exact .inr ⟨n,(β,len),aw,hb⟩) (λx=>.inr ⟨b,(β,len+1),cur.size,rfl,?_,?_,?_⟩)
   .exact g
   .refine⟨_,cap,.of (cA4 w.drew b cur _ E3 _ hh),by rw[s2];exact hcs,hnlen,hroom,hcm,?_⟩;intro k' hk';refine jM (λ_ h=>h) x.keep u _ _ _ _ (λj _=>rfl) ?_;have hv1:=WY hp1;have key:=ae5 (A:=A) (w:=w) (u:=u) (xs:=ys) (y:=qa u vs1 0) (i:=ii) (o:=β) (off:=β) (row:=λo=>(zh cur β len ii u.size news)[o]?) (cur:=λo=>cur[o]?) hii2 hrdx hry ?_ ?_ ?_ k' (by rw[← hv1];exact hk')
    .simp only[← hv1] at key;exact key
    .intro j hj;unfold zh
     try simp only
     rw[yF (by rw[s1,hnl];omega),ao Y,yF (by rw[hcutl];omega),ao Y]
    .intro j hj;unfold zh
     try simp only
     rw[yF (by rw[s1,hnl];omega),I Y,ao (by rw[hnl];omega)];congr 1;omega
    .intro j hj;rw[hxl] at hj;unfold zh
     try simp only
     rw[yF (by rw[s1,hnl];omega),I Y,I (by rw[hnl];omega),yF (by rw[hcutl];omega),I Y,ao (by rw[hcutl];omega),show β+(ii+1)*u.size+j-(β+(ii+1)*u.size)=j from by omega,uE hj]
   .unfold cv9;rw[cA4 w.drew b cur _ E3 _ hh];simp only[s2]
   .show _=cE0 _ _ ((cur.size-β)/u.size);rw[hcap]
  .have hcl:cap=len:=Y;subst hcl;have hsum:cap+1<=cu5:=by
    have:(cap+1)*1<=(V ys+1)*bs:=by rw[hxl];exact Nat.mul_le_mul_left _ hbs
    simp only[cu5];omega
   refine (raw.grow w b β cap ii k l.1 c cur vcur E2 news Y hsum (by rw[← hxl];exact hp4) hh Y hkc hnl hnews hn1 (by
    have:=ak1 hrdx (λ_=>rfl) (a:=0) (n:=cap) (cur:=cur) Y (by rw[gD];omega);simpa using this)).mono ?_
   rintro e w' ⟨rfl,w1,cg1,hs1,hh1,rfl⟩;refine⟨_,rfl,?_⟩;have hge:=cI4 w (cap+1) cap E3;have hcm':=cB4 w (cap+1) cap E3 hsum;generalize cz2 w (cap+1) cap E3=G' at *;have hGz:(cap+1)*u.size<=G'*u.size:=nk _ hge;have hcut0:V (fe cur β (ii*u.size))=ii*u.size:=vV Y;have s0:(qu cur β cap ii u.size G' zv.cells).size=G'*u.size:=by
    unfold qu;simp only[cA5,vz,hcut0,size_zeroCells,hzr,← gA];congr 1;omega
   have s1:(gp (qu cur β cap ii u.size G' zv.cells) (ii*u.size) news).size=G'*u.size:=by rw[y8 (by rw[s0,hnl];omega),s0]
   have s2:(wH cur β cap ii u.size G' zv.cells news).size=G'*u.size:=by unfold wH;rw[y8 (by rw[s1,hcutl];omega),s1]
   have cg:cY w (w1.setRow w.heap.size (wH cur β cap ii u.size G' zv.cells news)) λ_=>False:=by
    have c2:=cY.setRow w1 w.heap.size _ (wH cur β cap ii u.size G' zv.cells news) E3 (.of (q:=True) hh1) (by rw[s2,s0]);have c3:=(cY.drew w λ_=>False).trans cg1;exact⟨c2.os.trans c3.os,c2.tape.trans c3.tape,c2.output.trans c3.output,ub c3.dr c2.dr,ub c3.size c2.size,
     λi hi hw=>(c2.blk i (cF8 hi c3.size) (λe=>Y)).trans (c3.blk i hi hw),λi s hs=>c2.shape i s (c3.shape i s hs)⟩
   have g:=sn (pre:=[V vs1=1,(0:Int)<=(ii:Int),(ii:Int)<=(V ys:Int),(V ys+1)*bs<=140737488355328]) (v := .slice (cs6 ⟨w.heap.size,0,ct4⟩) (cap+1) G') (E:=E3) (t:=u) (zs:=ys.take ii++(vs1++ys.drop ii)) m hun [n] hdn (W:=λ_=>False) (ev := .blk w.heap.size (0,cap+1)) cg
    (λ_ h=>h.elim) aw (λk l e=>by cases e;exact .inl (dq _)) (λx=>.inr ⟨w.heap.size,(0,cap+1),G'*u.size,rfl,?_,?_,?_⟩)
   .exact g
   .refine⟨_,G',.of (cA4 w1 w.heap.size _ _ E3 _ hh1),by rw[s2,gD],hnlen,hge,hcm',?_⟩;intro k' hk';refine jM (λ_ h=>h) x.keep u _ _ _ _ (λj _=>rfl) ?_;have hv1:=WY hp1;have key:=ae5 (A:=A) (w:=w) (u:=u) (xs:=ys) (y:=qa u vs1 0) (i:=ii) (o:=0) (off:=β) (row:=λo=>(wH cur β cap ii u.size G' zv.cells news)[o]?) (cur:=λo=>cur[o]?) hii2 hrdx hry ?_ ?_ ?_ k' (by rw[← hv1];exact hk')
    .simp only[← hv1] at key;exact key
    .intro j hj;unfold wH
     try simp only
     rw[yF (by rw[s1,hcutl];omega),ao Y,yF (by rw[s0,hnl];omega),ao Y];unfold qu;rw[Array.append_assoc,cE7 (by simp only[vz,hcut0];omega),cD7,gD,uE hj]
    .intro j hj;unfold wH
     try simp only
     rw[yF (by rw[s1,hcutl];omega),ao Y,yF (by rw[s0,hnl];omega),I Y,ao (by rw[hnl];omega)];congr 1;omega
    .intro j hj;rw[hxl] at hj;unfold wH
     try simp only
     rw[yF (by rw[s1,hcutl];omega),I Y,ao (by rw[hcutl];omega),show 0+(ii+1)*u.size+j-(ii+1)*u.size=j from by omega,uE hj]
   .unfold cv9;rw[cA4 w1 w.heap.size _ _ E3 _ hh1];simp only[s2]
   .show _=cE0 _ _ ((G'*u.size-0)/u.size);rw[Nat.sub_zero,sN _ u.size_pos]
end
end Go.SX
namespace Go.RS
open Go.SX Go.Proofs
set_option maxHeartbeats 4000000
def C0:ct8 := .agg #[.int .i64 0,.int .i64 0,.int .i64 0,.int .i64 0,.int .i64 0,.slice ct4 0 0]
section
variable {w:cu6}
theorem b50:MO Tryz.prog 153 35 185 6 64 C0.cells 35:=by
 refine⟨?_,?_,?_⟩
 .intro w w' p q n c vc v hn hc hr;have hz:(cC5 185).run Tryz.prog w = .ok 6 w:=jC (by kernel_rfl) w;unfold cu5 at hc;cases p <;> go_enter Tryz.func153,Tryz.ntmps153 <;>
  go_wp2_with (at_builtin;refine cy7 _ rfl _ _ _ _ rfl _ _ rfl rfl _ _ hr ?_)
  all_goals (go_ret;exact⟨rfl,rfl⟩)
 .intro w b off n c i vb voff vc cur vcur E' vs hi hn hc hvb hb hf hv hvl hvs h1v h1c;have hz:∀ w,(cC5 185).run Tryz.prog w = .ok 6 w:=λw=>jC (by kernel_rfl) w;have mixed:Tryz.prog.follows .mixedOrders=true:=ik;unfold cu5 at hc;have hsa:w.shape? vb=cs6 (E',vcur.size):=by unfold cv9;rw[hv]
  have hsb:w.shape? b=cs6 (185,cur.size):=by unfold cv9;rw[hb]
  have hfa:w.frozen? ⟨vb,voff,ct4⟩=false:=by simp[cB6,hv]
  have hfe:w.frozen? ⟨vb,vcur.size,ct4⟩=false:=by simp[cB6,hv]
  have hov:∀ lb cb o,(callFunc 219 #[.slice (cs6 ⟨vb,voff,ct4⟩) 1 vc,.slice (cs6 ⟨b,o,ct4⟩) lb cb]).run Tryz.prog w = .ok (.value (.bool ct2)) w:=λlb cb o=>by
   rw[cJ8 Tryz.func219 (by kernel_rfl) (by kernel_rfl) (by kernel_rfl) (e:=cA8 #[35,35] #[4]) (by kernel_rfl),
    cH2 w 35 4 185 Tryz.underlying35 6 hz ⟨vb,voff,ct4⟩ ⟨b,o,ct4⟩ 1 vc lb cb hvb E' 185 vcur.size cur.size hsa hsb (by omega) hfa hfe]
   rfl
  have hw1:ct0.wrap ((i:Int)+1)=(i:Int)+1:=by rw[cw6];omega
  have hw2:ct0.wrap ((n:Int)+1)=(n:Int)+1:=by rw[cw6];omega
  have hz2:¬ ((i:Int)=(n:Int)):=by omega
  have htn:M ((i:Int)+1)=i+1:=by omega
  have htm:M ((n:Int)+1)=n+1:=by omega
  have hb1:(0:Int)<=(i:Int)+1:=by omega
  have hb2:¬ (c=i+1):=by omega
  have hb3:(i:Int)<=(n:Int)+1:=by omega
  have hb4:¬ (c=i):=by omega
  have hin:i<=n:=by omega
  have e1:(i+1)*6=i*6+6:=by omega
  have hcl:V (fe cur (off+i*6) ((n-i)*6))=(n-i)*6:=vV (by omega);have hsz:(Tryz.prog.info? 185).map (·.size)=cs6 6:=by kernel_rfl
  have hcp1:(cx4 #[35,35] 3 #[.slice (cs6 ⟨b,off+(i+1)*6,ct4⟩) (n-i) (c-(i+1)),.slice (cs6 ⟨b,off+i*6,ct4⟩) (n+1-i) (c-i)]).run Tryz.prog w.drew =
    .ok (goInt ((n-i:Nat):Int)) (w.drew.setRow b (gp cur (off+(i+1)*6) (fe cur (off+i*6) ((n-i)*6)))):=by
   have h:=wp (P:=Tryz.prog) w.drew 35 35 3 185 6 b (off+(i+1)*6) (n-i) (c-(i+1)) ⟨b,off+i*6,ct4⟩ (n+1-i) (c-i) cur 185 (fe cur (off+i*6) ((n-i)*6)) Tryz.underlying35 hsz hb
    (by rw[hcl];simp only[cw1];split <;> omega)
    (λj v hj=>by
     have hj':=(ct6.1 hj).1;rw[hcl] at hj';rw[uE hj'] at hj;rw[cv5,cy5 w.drew b _ cur 185 (0,0) hb];exact hj)
    (by rw[hcl];omega) h1c
   have hm:cD5 (n+1-i) (n-i)=n-i:=by simp only[cw1];split <;> omega
   rw[hm] at h;exact h
  have hr1:(gp cur (off+(i+1)*6) (fe cur (off+i*6) ((n-i)*6))).size=cur.size:=y8 (by rw[hcl];omega);have hcp2:(cx4 #[35,35] 3 #[.slice (cs6 ⟨b,off+i*6,ct4⟩) (n+1-i) (c-i),.slice (cs6 ⟨vb,voff,ct4⟩) 1 vc]).run Tryz.prog (w.drew.setRow b (gp cur (off+(i+1)*6) (fe cur (off+i*6) ((n-i)*6)))) =
    .ok (goInt 1) (w.drew.setRow b (zh cur off n i 6 vs)):=by
   have h:=wp (P:=Tryz.prog) (w.drew.setRow b (gp cur (off+(i+1)*6) (fe cur (off+i*6) ((n-i)*6)))) 35 35 3 185 6 b (off+i*6) (n+1-i) (c-i) ⟨vb,voff,ct4⟩ 1 vc _ 185 vs Tryz.underlying35 hsz
    (cA4 w.drew b cur _ 185 (0,0) hb)
    (by rw[hvl];simp only[cw1];split <;> omega)
    (λj v hj=>by
     rw[cv5,cB2 _ _ _ _ hvb];exact hvs j v hj)
    (by rw[hr1,hvl];omega) h1v
   have hm:cD5 1 (n+1-i)=1:=by simp only[cw1];split <;> omega
   rw[hm,cE6] at h;exact h
  clear e1 hcl hr1
  go_enter Tryz.func153,Tryz.ntmps153
  go_wp2_with (simp only[hov])
  go_region
  go_wp2
  all_goals (go_ret;exact⟨rfl,rfl⟩)
 .intro w b off n i vb voff vc cur vcur E' vs hi hn hby hb hf hv hvl hvs h1v h1c;have hz:∀ w,(cC5 185).run Tryz.prog w = .ok 6 w:=λw=>jC (by kernel_rfl) w;have mixed:Tryz.prog.follows .mixedOrders=true:=ik;have hx:(Tryz.prog.info? 185).map (λi=>(i.zero,i.size,i.bytes))=cs6 (cs6 C0,6,64):=by kernel_rfl
  obtain⟨i0,hi0⟩:∃ i0,Tryz.prog.info? 185=cs6 i0:=by
   cases hh:Tryz.prog.info? 185 with
   | none=>rw[hh] at hx;cases hx
   | some i0=>exact⟨i0,rfl⟩
  rw[hi0] at hx;simp only[cB5,cy,ck] at hx;obtain⟨hz0,hzs,hzb⟩:=hx;have hsz:(Tryz.prog.info? 185).map (·.size)=cs6 6:=by kernel_rfl
  have hbw:b<w.heap.size:=(cu3.1 hb).1;have hvw:vb<w.heap.size:=(cu3.1 hv).1;have hni:i*6+(n-i)*6=n*6:=by rw[← gA];congr 1;omega
  have hil:V (fe cur off (i*6))=i*6:=vV (by omega);have hcl:V (fe cur (off+i*6) ((n-i)*6))=(n-i)*6:=vV (by omega);have hold:(cE1 i0.size i (.slice (cs6 ⟨b,off,ct4⟩) i n)).run Tryz.prog w.drew = .ok (fe cur off (i*6)).toArray w.drew:=by
   rw[hzs];exact cJ9 w.drew 6 i ⟨b,off,ct4⟩ i n (fe cur off (i*6)) hil (λj v hj=>by
    have hj':=(ct6.1 hj).1;rw[hil] at hj';rw[uE hj'] at hj;rw[cv5,cy5 w.drew b _ cur 185 (0,0) hb];exact hj)
  have hGn:n+1<=cz2 w (n+1) n 185:=cI4 w _ _ _;have hG63:=cB4 w (n+1) n 185 hn;have hrz:(cv7 #[35,3] 35 #[.slice (cs6 ⟨b,off,ct4⟩) i n,.int .i64 ((n:Int)+1-(i:Int))]).run Tryz.prog w =
    .ok (.slice (cs6 ⟨w.heap.size,0,ct4⟩) (n+1) (cz2 w (n+1) n 185)) (w.drew.alloc (.cells (qu cur off n i 6 (cz2 w (n+1) n 185) C0.cells) 185)):=by
   have h:=cF7 w 35 3 35 185 i0 _ .i64 .i64 Tryz.underlying35 Tryz.underlying3 hi0 hz0 (cs6 ⟨b,off,ct4⟩) i n (fe cur off (i*6)) hold (n+1-i) (by omega) (by omega) (by omega) (by unfold cu5 at hn;omega) (by rw[hzb];omega)
    (by rw[show i+(n+1-i)=n+1 from by omega];exact cL6 (by omega) (by rw[hzb];exact hby))
   rw[show i+(n+1-i)=n+1 from by omega] at h;rw[show (n:Int)+1-(i:Int)=((n+1-i:Nat):Int) from by omega];exact h
  generalize hG:cz2 w (n+1) n 185=G at *;have hrs:(qu cur off n i 6 G C0.cells).size=G*6:=by
   unfold qu;simp only[cA5,vz,hil,size_zeroCells];have:C0.cells.size=6:=rfl;rw[this,← gA,← gA];congr 1;omega
  generalize hROW:qu cur off n i 6 G C0.cells=ROW at *;have hgN:(w.drew.alloc (.cells ROW 185)).heap[w.heap.size]? = cs6 (.cells ROW 185 (0,0)):=cD8 w.drew _;have hG6:(n+1)*6<=G*6:=nk _ hGn;have e1:(i+1)*6=i*6+6:=by omega
  have hr1:(gp ROW (i*6) vs).size=G*6:=by rw[y8 (by rw[hrs,hvl];omega),hrs]
  have hcp1:(cx4 #[35,35] 3 #[.slice (cs6 ⟨w.heap.size,i*6,ct4⟩) (n+1-i) (G-i),.slice (cs6 ⟨vb,voff,ct4⟩) 1 vc]).run Tryz.prog (w.alloc (.cells ROW 185)).drew =
    .ok (goInt 1) ((w.alloc (.cells ROW 185)).drew.setRow w.heap.size (gp ROW (i*6) vs)):=by
   have h:=wp (P:=Tryz.prog) (w.drew.alloc (.cells ROW 185)) 35 35 3 185 6 w.heap.size (i*6) (n+1-i) (G-i) ⟨vb,voff,ct4⟩ 1 vc _ 185 vs Tryz.underlying35 hsz hgN
    (by rw[hvl];simp only[cw1];split <;> omega)
    (λj v hj=>by
     rw[cv5,cy3 (w:=w.drew) _ vb _ hvw];exact hvs j v hj)
    (by rw[hrs,hvl];omega) h1v
   have hm:cD5 1 (n+1-i)=1:=by simp only[cw1];split <;> omega
   rw[hm] at h;exact h
  have hcp2:(cx4 #[35,35] 3 #[.slice (cs6 ⟨w.heap.size,(i+1)*6,ct4⟩) (n-i) (G-(i+1)),.slice (cs6 ⟨b,off+i*6,ct4⟩) (n-i) (n-i)]).run Tryz.prog ((w.alloc (.cells ROW 185)).drew.setRow w.heap.size (gp ROW (i*6) vs)).drew =
    .ok (goInt ((n-i:Nat):Int)) ((w.alloc (.cells ROW 185)).drew.drew.setRow w.heap.size (gp (gp ROW (i*6) vs) ((i+1)*6) (fe cur (off+i*6) ((n-i)*6)))):=by
   have h:=wp (P:=Tryz.prog) ((w.alloc (.cells ROW 185)).drew.setRow w.heap.size (gp ROW (i*6) vs)).drew 35 35 3 185 6 w.heap.size ((i+1)*6) (n-i) (G-(i+1)) ⟨b,off+i*6,ct4⟩ (n-i) (n-i) _ 185 (fe cur (off+i*6) ((n-i)*6)) Tryz.underlying35 hsz
    (cA4 _ w.heap.size _ _ 185 (0,0) hgN)
    (by rw[hcl];simp only[cw1];split <;> omega)
    (λj v hj=>by
     have hj':=(ct6.1 hj).1;rw[hcl] at hj';rw[uE hj'] at hj;show cP5 ((w.drew.alloc (.cells ROW 185)).setRow w.heap.size (gp ROW (i*6) vs)) _=_;rw[cv5,cB2 _ _ _ _ (by show b≠w.heap.size;omega),cy3 (w:=w.drew) _ b _ hbw,cy5 w.drew b _ cur 185 (0,0) hb];exact hj)
    (by rw[hr1,hcl];omega) (λv hv=>h1c v (by
     unfold fe at hv ⊢;rw[← cA1] at hv;have e2:take ((n-i)*6) (drop (i*6) (drop off cur.toList))=drop (i*6) (take (n*6) (drop off cur.toList)):=by
      rw[cM1];congr 1;omega
     rw[e2] at hv;exact zo hv))
   have hm:cD5 (n-i) (n-i)=n-i:=by simp only[cw1];split <;> omega
   rw[hm] at h;have hs2:∀(W:cu6)(g:Nat)(a b:Array ct8),(W.setRow g a).drew.setRow g b=W.drew.setRow g b:=λW g a b=>cE6 W.drew g a b;rw[hs2] at h;exact h
  have hz2:¬ ((i:Int)=(n:Int)):=by omega
  have hw1:ct0.wrap ((i:Int)+1)=(i:Int)+1:=by rw[cw6];unfold cu5 at hn;omega
  have hw2:ct0.wrap ((n:Int)+1)=(n:Int)+1:=by rw[cw6];unfold cu5 at hn;omega
  have hz3:(n:Int)<(n:Int)+1:=by omega
  have hGi:¬ (G=i):=by omega
  have hGim:¬ (G=i+1):=by omega
  have hci:¬ (n=i):=by omega
  have hb1:(0:Int)<=(i:Int)+1:=by omega
  have hin:i<=n:=by omega
  have htn:M ((i:Int)+1)=i+1:=by omega
  have hb3:(i:Int)<=(n:Int):=by omega
  have hiG:i<=n+1:=by omega
  unfold cu5 at hn hG63;clear e1 hr1 hG6 hil hcl hni hrs hgN hold hGn
  go_enter Tryz.func153,Tryz.ntmps153
  go_wp2_with (at_builtin;refine cy7 _ rfl _ _ _ _ rfl _ _ rfl rfl _ _ hrz ?_)
  go_region
  go_wp2
  all_goals (go_ret;exact⟨rfl,(w.alloc (.cells ROW 185)).drew.drew,((cY.alloc w.drew _ _).trans (cY.drew _ _)),by simp,cD8 w.drew _,by unfold wH;rw[hROW]⟩)
end
def ba5:Go.SX.Spec:=Cz qA 185 64
def bK9:aB 153 ba5:=by
 show mG Tryz.prog GL 153 (Cz qA 185 64)
 exact Rm (u:=qA) (zv:=C0) b50 Tryz.underlying35 (by kernel_rfl) rfl (by decide) rfl
end Go.RS
namespace Go.RS
open Go.SX Go.Proofs
variable{α:Type}
def GH(q:α->Bool)(l:List α):Int:=if l.findIdx q<V l then (l.findIdx q:Int) else -1
theorem aC9{q}{l:List α}:cs7 (0<=GH q l)=l.any q:=by
 unfold GH
 cases h:l.any q with
 | true =>
  rw[ao (List.findIdx_lt_length_of_exists (by simpa using h))];exact f7 Y
 | false =>
  have:l.findIdx q=V l:=List.findIdx_eq_length_of_false (by simpa using h);rw[I Y];rfl
variable{a b:Int}
theorem FG(h:a≠0):a=uL a b:=by unfold uL;rw[ao h]
theorem Fq(h:a=0):uL a b=b:=by unfold uL;rw[I (λk=>k h)]
def Zs:Ct:=⟨[.agg mM],[.val cI],λd=>[],λd=>((sG d.1,()),())⟩
def ce6:bG Zs.ps->bL:=(λd=>{loops:=(bz 2 (λS=>{ι:=Int,μ:=λi=>M (V d.1.1-i),inv:=λi=>0<=i/\i<=V d.1.1/\first (tE d.1) (M i)=0,keep:=[1,9,10],slots:=λi=>[(11,.int .i64 i)],keepN:=[32]}) (bz 8 (λS=>{ι:=Int,μ:=λi=>M (V (dc (T d.1.1 (M (S.i 11)) cs5))-i),inv:=λi=>0<=i/\i<=V (dc (T d.1.1 (M (S.i 11)) cs5))∧∀ k∈(dc (T d.1.1 (M (S.i 11)) cs5)).take (M i),AC d.1 (M (S.i 11)) k=ct2,keep:=[1,3,9,10,11,22,23],slots:=λi=>[(24,.int .i64 i)],keepN:=[32,368]}) cm))})
def L9(a:Int)(b:List ar)(c:Int)(d:List bu)(e:List cJ):=am a (a<=O (dc (N b c))) (∀(f:Int),f∈take (M a) (dc (N b c))->AC (b,d,e) (M c) f=ct2)
def cg3:
 ∀(a:List ar)(b:List bu)(c:List cJ),dN (gT a b c) ((∃(d:Int),am d (d<=O a) (first (tE (a,b,c)) (M d)=0)/\a=a/\qz a/\0=d/\a=a/\kH b c)/\ ∀(d:Int),am d (d<=O a) (first (tE (a,b,c)) (M d)=0)->uf d (O a) (d<O a) (au ( !aY (iS (N a d))) (iS (N a d)=sG (a,b,c)) (sr (aV (N a d))/\(∃(e:Int),L9 e a d b c/\d=d/\a=a/\bh (O a) d (O (dc (N a d))) (0=e) (iz a b (c=c) (J (dc (N a d)=dc (N a d)))))/\ ∀(e:Int),L9 e a d b c->au (av e (O (dc (N a d)))) (am e (e<O (dc (N a d))) (∀(f:Bool),f=cs7 (O b<=N (dc (N a d)) e)->bN f/\( !f->iW ( !f) ( !f) (N (dc (N a d)) e) (N (dc (N a d)) e<O b))/\cQ f (gv f) (bN f/\ ∀(g:Bool),g=db (N b (N (dc (N a d)) e)).1 d->cB ( !f&&g) ( !f&&g) (iW ( !f&&g) ( !f&&g) (N (dc (N a d)) e)
 (N (dc (N a d)) e<O b)) ( !f&&g->aK ( !f&&g)) (cB ( !f&&g) ( !f&&g) (dE ( !f&&g)) (BD f g) (bw f/\au (br f (bq g (db (gZ b (N (dc (N a d)) e)) d))) (11=sG (a,b,c)) (∃(h:Int),L9 h a d b c/\bi (O (dc (N a d))) h e/\d=d/\a=a/\bh (O a) d (O (dc (N a d))) (aA e=h) (iz a b (c=c) (J (dc (N a d)=dc (N a d)))))))))) (∃(f:Int),am f (f<=O a) (first (tE (a,b,c)) (M f)=0)/\bi (O a) f d/\a=a/\qz a/\aA d=f/\a=a/\kH b c))) (sG (a,b,c))):= by
  delta N O ap aq aH gT nh dh dC bN aK bh cU aT bp jR cB br bi bq bZ am cQ bw bJ gv aY aA J iW iz dE L9 kL av kH dN db nC BD gZ sr uf aF qz
  rintro ns ls hs ⟨⟨⟨hnl,-⟩,⟨hl,-⟩,-⟩,-⟩ -
  simp only[cu5] at hl hnl
  refine⟨⟨0,⟨Y,Y,rfl⟩,aI⟩,?_⟩
  rintro i ⟨i0,i1,hf⟩
  refine ay (λhi=>?_) (λhi=>?_)
  rotate_left
  .have hi:=bg hi
   rw[show M i=V ns by omega] at hf
   exact hf.symm
  have hi:=aX hi
  have ei:((M i:Nat):Int)=i:=Y
  have hit:=λh=>TT (f:=tE (ns,ls,hs)) (n:=V ns) i0 hi hf h
  refine⟨i0,hi,ay (λh=>?_) (λh=>?_)⟩
  .have h:=lz h
   have e:tE (ns,ls,hs) (M i)=iS (T ns (M i) cs5):=ao h
   have k:=hit (by rw[e];exact h)
   rw[e] at k;exact k
  have h:=lq h
  have nv:=Vo h
  have k0:=b00 nv.bad
  have hlen:V (dc (T ns (M i) cs5))=V (aV (T ns (M i) cs5)):=by simp[dc]
  have n32:=nv.len
  refine⟨Y,⟨0,⟨Y,Y,aw⟩,aI⟩,?_⟩
  rintro j ⟨j0,j1,hj⟩
  refine ay (λhk=>?_) (λhk=>?_)
  rotate_left
  .have hk:=bg hk
   rw[gE Y] at hj
   refine⟨i+1,⟨Y,Y,NL i0 hf ?_⟩,Y,aI⟩
   unfold tE
   rw[I (λq=>q h),I]
   intro q
   have ⟨k,hk,q⟩:=cw7.1 q
   rw[hj k hk] at q;cases q
  have hk:=aX hk
  have hm:=cW j0 hk
  have fj:=λh=>yD j0 hk hj h (P:=λk=>AC (ns,ls,hs) (M i) k=ct2)
  have kk:=k0 _ hm
  refine⟨j0,hk,?_⟩
  generalize T (dc (T ns (M i) cs5)) (M j) cs5=k at hm fj kk ⊢
  intro b hb
  (repeat refine⟨(by first|(simp;done)|exact λh=>⟨λ_=>h,λ_=>h,kk,by rw[hb] at h;have:=lz h;omega,aQ⟩),?_⟩)
  intro b1 hb1
  (repeat refine⟨(by first|(simp;done)|(simp +contextual;done)|exact λh=>⟨λ_=>h,λ_=>h,kk,by rw[hb] at h;have:=lz (cw4.1 h).1;omega,aQ⟩),?_⟩)
  have tot:(bif b then cs8 else bif b1 then !cs7 ((T ls (M k) cs5).2.1=i) else ct2)=AC (ns,ls,hs) (M i) k:=by
   rw[hb,hb1]
   unfold AC lA lB
   rw[ei]
   cases cs7 ((V ls:Int)<=k) <;> cases cs7 ((T ls (M k) cs5).1=i) <;> cases cs7 ((T ls (M k) cs5).2.1=i) <;> rfl
  rw[tot]
  refine ay (λht=>?_) (λht=>?_)
  .have e:tE (ns,ls,hs) (M i)=11:=by
    unfold tE
    rw[I (λq=>q h),ao (cw7.2 ⟨_,hm,ht⟩)]
   have q:=hit (by rw[e];decide)
   rw[e] at q;exact q
  .exact⟨j+1,⟨Y,Y,fj ht⟩,Y,aI⟩
def cn8:aB 113 Zs.spec:=aG Tryz.func113 (C (C aC ax2) ZL) ce6 cg3
def b58:Ct:=⟨[.val (.sl fD),.agg oG],[.own 156 fD],λd=>[dY d.1,okL d.1,((ig d.2.1).2.1.length:Int)<=1099511627776],λd=>((jX d.1 d.2.1,()),())⟩
def cn2:
 ∀(a:List cF)(b:cJ),dh a/\J (CT.wf oG b)->dY a/\okL a/\aR (ig b).2.1->au b.2.2.1 (dY a/\okL a/\mn a b.2.2.2.1=jX a b) (dY a/\okL a/\aR b.2.2.2.2.1/\gC a b.2.2.2=jX a b):= by
  delta O aq aH dh dC cU aT aR J aF
  rintro l c-⟨hs,hl,hx⟩
  unfold jX
  rw[show c.2.2.1=AK c from rfl]
  refine ay (λh=>⟨hs,hl,?_⟩) (λh=>⟨hs,hl,hx,?_⟩)
  .rw[ao h];rfl
  .rw[I (by rw[h];decide)];rfl
def bp4:aB 194 b58.spec:=aG Tryz.func194 (C (C aC Yt) Vm) aS cn2
def th(p:fM)(r:Rt):Bool:=cs7 (r.1=p)
def bi5:Ct:=⟨[.agg fD,.box 158 oG],[.val .bool],λ_=>[],λd=>((th (ig d.2.1).1 d.1,()),(d.2.1,()))⟩
def bn3:
 ∀(a b:Int)(c:Z)(d:Int)(e:cJ),dC a b c d/\J (CT.wf oG e)->True->(cs7 (a=e.2.2.2.1.1)&&(cs7 (b=e.2.2.2.1.2)&&cs8))=th (ig e).1 ((a,b),c,d)/\e=e:= by
  delta aq aH dC cU aT J aF
  rintro a n nx b c - -
  refine⟨?_,rfl⟩
  rw[AR];simp[th,Prod.ext_iff,ig]
def aG5:aB 193 bi5.spec:=aG Tryz.func193 aC aS bn3
def U2:Ct:=⟨[.val (.sl fD),.fn 193 1,.box 158 oG],[.val cI],λ_=>[],λd=>((GH (th (ig d.2.2.1).1) d.1,()),(d.2.2.1,()))⟩
def a96:bG U2.ps->bL:=(λd=>{loops:=(bz 2 (λS=>{ι:=Int,μ:=λi=>M (V d.1-i),inv:=λi=>0<=i/\i<=V d.1∧∀ x∈d.1.take (M i),th (ig d.2.2.1).1 x=ct2,keep:=[0,1,6,7],slots:=λi=>[(8,.int .i64 i)],keepN:=[1048576]}) cm)})
def On(a:cJ):=bp a.1 a.2.1 (a.2.2.1=a.2.2.1) (bp a.2.2.2.1.1 a.2.2.2.1.2 (a.2.2.2.2.1=a.2.2.2.2.1) (J (a.2.2.2.2.2=a.2.2.2.2.2)))
def JC(a:Int)(b:List cF)(c:cJ):=am a (a<=O b) (∀(d:cF),d∈take (M a) b->th (ig c).1 d=ct2)
def bs9:
 ∀(a:List cF)(b:cJ),dh a/\True/\J (CT.wf oG b)->True->(∃(c:Int),JC c a b/\a=a/\a=a/\qP a/\0=c/\On b)/\ ∀(c:Int),JC c a b->eh c (O a) (c<O a) (au (th b.2.2.2.1 (N a c)) (c=GH (th (ig b).1) a/\b=b) (∃(d:Int),JC d a b/\xw a d c (a=a) (qP a/\aA c=d/\On b))) ((-1)=GH (th (ig b).1) a) (b=b):= by
  delta N O ap aq aH dh dC cU aT bp bi bZ am eh aA J av On JC aF xw qP
  rintro l c ⟨⟨hl,-⟩,-⟩ -
  simp only[cu5] at hl
  refine⟨⟨0,⟨Y,Y,aw⟩,aI⟩,?_⟩
  rintro j ⟨j0,j1,hj⟩
  refine bT (λhk=>?_) (λhk=>?_)
  .refine⟨j0,hk,ay (λhm=>?_) (λhm=>?_)⟩
   .exact⟨F0 j0 hk hj hm,rfl⟩
   .exact⟨j+1,⟨Y,Y,yD j0 hk hj hm⟩,Y,aI⟩
  .exact⟨Ii hk hj,rfl⟩
def bZ4:aB 239 U2.spec:=aG Tryz.func239 (C aC aG5) a96 bs9
def cb3:Ct:=⟨[.val (.sl fD),.fn 193 1,.box 158 oG],[.val .bool],λ_=>[],λd=>((d.1.any (th (ig d.2.2.1).1),()),(d.2.2.1,()))⟩
def b52:
 ∀(a:List cF)(b:cJ),dh a/\True/\J (CT.wf oG b)->True->fH (GH (th b.2.2.2.1) a)=cW4 a (th (ig b).1)/\b=b:= by
  delta aq aH dh dC cU aT J fH aF
  rintro l c - -
  exact⟨aC9,rfl⟩
def aO0:aB 192 cb3.spec:=aG Tryz.func192 (C aC bZ4) aS b52
theorem ck2{l:List Rt}{p:fM}:l.any (th p)=tP l p:=by rw[aE5,AR];simp[th]
theorem bi0{ns:List ar}{j:Nat}(h:j<V ns):((ns.take j).map ce++replicate (V ns-j) []).set j (ce (T ns j cs5))=(ns.take (j+1)).map ce++replicate (V ns-(j+1)) []:=by
 have e1:V ((ns.take j).map ce)=j:=by simp;omega
 rw[show V ns-j=(V ns-(j+1))+1 by omega,List.replicate_succ,List.set_append_right _ _ Y,e1,Nat.sub_self,List.set_cons_zero,Df h,kV,cK,cT h]
 simp
variable{j:Int}
theorem aN8(n:Net)(j0:0<=j):o5 n (M j)=uI n (M j) (T n.2.2 (M j) cs5) (T n.2.2 (M (j-1)) cs5) (T (gB n (M j)) (M (de (T n.2.2 (M j) cs5))) cs5):=by
 unfold o5;rw[show M (j-1)=M j-1 by omega]
def Yp:Ct:=⟨[.agg mM],[.val cI],λd=>[sG d.1=0,V d.1.1<=64,∀ c∈d.1.2.2,((ig c).2.1.length:Int)<=1099511627776],λd=>((uR d.1,()),())⟩
def a69:bG Yp.ps->bL:=(λd=>{loops:=(bz 3 (λS=>{ι:=Int×(List (List Rt)),qn:=fE,μ:=λi=>M (V d.1.1-i.1),inv:=λi=>0<=i.1/\i.1<=V d.1.1/\i.2=(d.1.1.take (M i.1)).map ce++replicate (V d.1.1-M i.1) [],keep:=[1,15,16],slots:=λi=>[(3,.own 524288 1),(17,.int .i64 i.1)],keepN:=[32],names:=λi=>[(524288,.live (.row 131 (.sl fD) i.2))]}) (bz 8 (λS=>{ι:=Int×(List (List Rt)),qn:=fE,μ:=λi=>M (V d.1.2.2-i.1),inv:=λi=>0<=i.1/\i.1<=V d.1.2.2/\first (o5 d.1) (M i.1)=0/\i.2=gB d.1 (M i.1),keep:=[1,29,30],slots:=λi=>[(3,.own 524288 1),(31,.int .i64 i.1)],keepN:=[32],names:=λi=>[(524288,.live (.row 131 (.sl fD) i.2))]}) cm))})
def jQ(a:List cJ)(b:Int):=(N a b).2.1
def Ld(a:Int)(b:List cJ)(c:List ar)(d:List bu)(e:List (List Rt)):=bo a (O b) (first (o5 (c,d,b)) (M a)=0) (e=gB (c,d,b) (M a))
def PV(a:List (List Rt))(b:List cJ)(c:Int)(d:List ar)(e:List bu):=dY (N a (jQ b c))/\okL (N a (jQ b c))/\aR (N b c).2.2.2.2.1/\bP (jQ b c) (O d) (sr (aV (N d (jQ b c)))) (au ( !aY (jH (jX (N a (jQ b c)) (N b c)) (dc (N d (jQ b c))))) (jH (jX (N a (jQ b c)) (N b c)) (dc (N d (jQ b c)))=uR (d,e,b)) (am (jQ b c) (jQ b c<O a) (∃(f:Int) (g:List (List Rt)),Ld f b d e g/\bi (O b) f c/\b=b/\O b=O b/\aA c=f/\iz d e (b=b) (J (set a (M (jQ b c)) (jX (N a (jQ b c)) (N b c))=g)))))
def Kv(a:Int)(b:List ar)(c:List (List Rt)):=am a (a<=O b) (c=cA6 ce (take (M a) b)++replicate (V b -M a) [])
def DY(a:List cJ):=∀(b:cJ),b∈a->aR (ig b).2.1
def bY4:
 ∀(a:List ar)(b:List bu)(c:List cJ),J (gT a b c)->sG (a,b,c)=0/\V a<=64/\DY c->bo (O a) (O a) (tJ ((↑((24:Nat)):Int)*O a)) ((∃(d:Int) (e:List (List Rt)),Kv d a e/\a=a/\qz a/\0=d/\iz a b (c=c) (J (replicate (M (O a)) []=e)))/\ ∀(d:Int)(e:List (List Rt)),Kv d a e->eh d (O a) (d<O a) (am d (d<O e) (∃(f:Int) (g:List (List Rt)),Kv f a g/\bi (O a) f d/\a=a/\qz a/\aA d=f/\iz a b (c=c) (J (set e (M d) (lE a d)=g)))) (∃(f:Int) (g:List (List Rt)),Ld f c a b g/\c=c/\O c=O c/\0=f/\iz a b (c=c) (J (e=g))) (∀(f:Int)(g:List (List Rt)),Ld f c a b g->uf f (O c) (f<O c) (au ( !cs7 (0<=(N c f).1/\(N c f).1<=1125899906842624)) (1=uR (a,b,c)) (∀(h:Bool),h=av 0 f->fp h h (aK h) (h->iW h h (ap (f -1)) (ap (f -1)<O c)) (fp h h (dE h) (h->h) (au
 (bq h (av (N c f).1 (N c (ap (f -1))).1)) (6=uR (a,b,c)) (au ( !cs7 (0<=jQ c f/\jQ c f<=ap (O a -1))) (8=uR (a,b,c)) (am (jQ c f) (jQ c f<O g) (∀(i:Bool),i=(N c f).2.2.1->pK i i (i->i) ((i->i)/\au (bq i ( !cW4 (N g (jQ c f)) (th (N c f).2.2.2.1))) (8=uR (a,b,c)) (PV g c f a b)) (i->ct2) (au (bq i ct2) (8=uR (a,b,c)) (PV g c f a b))))))))) (uR (a,b,c)))):= by
  delta N O ap aq aH gT nh dh dC aK cU aT jR aR cB bi bq bZ am bJ aY PV bo eh aA fp J lE iW iz dE pK kL Kv av bP nC jQ DY Ld sr uf aF tJ qz
  rintro ns ls hs ⟨⟨⟨hnl,-⟩,⟨hl,-⟩,⟨hhl,-⟩⟩,-⟩⟨hb,hn,hx⟩
  simp only[cu5] at hl hnl hhl
  refine⟨Y,Y,Y,⟨0,_,⟨Y,Y,rfl⟩,by (repeat refine g9 ?_);simp⟩,?_⟩
  rintro j t ⟨j0,j1,rfl⟩
  have tl:V ((ns.take (M j)).map ce++replicate (V ns-M j) ([]:List Rt))=V ns:=by simp;omega
  refine ay (λhj=>?_) (λhj=>?_)
  .have hj:=aX hj
   refine⟨j0,hj,j0,by rw[tl];exact hj,j+1,_,⟨Y,Y,rfl⟩,Y,?_⟩
   (repeat refine g9 ?_)
   refine⟨?_,aQ⟩
   rw[show M (j+1)=M j+1 by omega,← bi0 Y];rfl
  have hj:=bg hj
  have e0:(ns.take (M j)).map ce++replicate (V ns-M j) ([]:List Rt)=gB (ns,ls,hs) 0:=by
   rw[gE Y,show V ns-M j=0 by omega];simp[gB]
  rw[e0]
  clear e0 tl hj j0 j1
  refine⟨⟨0,_,⟨Y,Y,rfl,rfl⟩,aI⟩,?_⟩
  rintro j t ⟨j0,j1,hf,rfl⟩
  refine ay (λhj=>?_) (λhj=>?_)
  rotate_left
  .have hj:=bg hj
   rw[show M j=V hs by omega] at hf
   exact hf.symm
  have hj:=aX hj
  have hm:=cW j0 hj
  have tb:=YO hb hf
  have tl:=xG (ns,ls,hs) (M j)
  have hit:=λh=>TT (f:=o5 (ns,ls,hs)) (n:=V hs) j0 hj hf h
  have eq:=aN8 (ns,ls,hs) j0
  have ej:((M j:Nat):Int)=j:=Y
  rw[aJ (n:=j-1) Y Y,aJ (n:=(V ns:Int)-1) Y Y]
  refine⟨j0,hj,ay (λh=>?_) (λh=>?_)⟩
  .have h:=lz h
   have e:o5 (ns,ls,hs) (M j)=1:=by
    rw[eq];unfold uI;rw[ao];dsimp only[j8];omega
   have q:=hit (by rw[e];decide)
   rw[e] at q;exact q
  have h1:=lq h
  have c1:¬ (j8 (T hs (M j) cs5)<0∨1125899906842624<j8 (T hs (M j) cs5)):=by unfold j8;omega
  clear h
  intro b hb1
  (repeat refine⟨(by first|(simp;done)|exact λh=>⟨λ_=>h,λ_=>h,by rw[hb1] at h;have:=aX h;omega,by rw[hb1] at h;have:=aX h;omega,aQ⟩),?_⟩)
  rw[hb1,Dt]
  refine ay (λh=>?_) (λh=>?_)
  .have h:=aX h
   have e:o5 (ns,ls,hs) (M j)=6:=by
    rw[eq];unfold uI;rw[I c1,ao];exact⟨Y,h.2⟩
   have q:=hit (by rw[e];decide)
   rw[e] at q;exact q
  have c2:¬ (0<M j/\j8 (T hs (M j) cs5)<j8 (T hs (M (j-1)) cs5)):=λq=>bg h ⟨Y,q.2⟩
  clear h
  refine ay (λh=>?_) (λh=>?_)
  .have h:=lz h
   have e:o5 (ns,ls,hs) (M j)=8:=by
    rw[eq];unfold uI;rw[I c1,I c2,ao]
    dsimp only[de];omega
   have q:=hit (by rw[e];decide)
   rw[e] at q;exact q
  have h2:=lq h
  have h2:0<=de (T hs (M j) cs5)/\de (T hs (M j) cs5)<=(V ns:Int)-1:=h2
  have c3:¬ (de (T hs (M j) cs5)<0∨(V ns:Int)<=de (T hs (M j) cs5)):=Y
  clear h
  refine⟨h2.1,by rw[tl];show de _<(V ns:Int);omega,?_⟩
  intro b2 hb2
  have hb2:b2=AK (T hs (M j) cs5):=hb2
  refine ay (λq=>?_) (λq=>?_)
  .subst q
   (repeat refine⟨aw,?_⟩)
   simp only[cond_true]
   rw[ck2]
   refine ay (λh=>?_) (λh=>?_)
   .have e:o5 (ns,ls,hs) (M j)=8:=by
     rw[eq];unfold uI;rw[I c1,I c2,I c3,ao]
     exact⟨hb2.symm,(sS _).mp h⟩
    have q:=hit (by rw[e];decide)
    rw[e] at q;exact q
   have c4:¬ (AK (T hs (M j) cs5)=cs8/\tP (T (gB (ns,ls,hs) (M j)) (M (de (T hs (M j) cs5))) cs5) (ig (T hs (M j) cs5)).1=ct2):=λz=>by
    have z2:=z.2
    have h:(!tP (T (gB (ns,ls,hs) (M j)) (M (de (T hs (M j) cs5))) cs5) (ig (T hs (M j) cs5)).1)=false:=h
    rw[z2] at h;cases h
   have wl:M (de (T hs (M j) cs5))<V ns:=Y
   have tr:=tb.r (M (de (T hs (M j) cs5))) wl
   refine⟨tr.1,tr.2,hx _ hm,Y,Y,by have:=(LR (n:=(ns,ls,hs)) hb wl).len;exact ub this aD,ay (λh=>?_) (λh=>?_)⟩
   .have h:=lz h
    have e:o5 (ns,ls,hs) (M j)=jH (jX (T (gB (ns,ls,hs) (M j)) (M (de (T hs (M j) cs5))) cs5) (T hs (M j) cs5)) (dc (T ns (M (de (T hs (M j) cs5))) cs5)):=by
     rw[eq];unfold uI;rw[I c1,I c2,I c3,I c4]
    have k:=hit (by rw[e];exact h)
    rw[e] at k;exact k
   .have h:=lq h
    have e:o5 (ns,ls,hs) (M j)=0:=by
     rw[eq];unfold uI;rw[I c1,I c2,I c3,I c4];exact h
    refine⟨Y,by rw[xG];show de _<(V ns:Int);omega,j+1,gB (ns,ls,hs) (M (j+1)),⟨Y,Y,NL j0 hf e,rfl⟩,Y,?_⟩
    (repeat refine g9 ?_)
    refine⟨?_,aQ⟩
    rw[show M (j+1)=M j+1 by omega];rfl
  ·(repeat refine⟨by simp[q],?_⟩)
   refine ay (λh=>by rw[q] at h;cases h) (λh=>?_)
   have c4:¬ (AK (T hs (M j) cs5)=cs8/\tP (T (gB (ns,ls,hs) (M j)) (M (de (T hs (M j) cs5))) cs5) (ig (T hs (M j) cs5)).1=ct2):=λz=>by
    rw[← hb2,q] at z;cases z.1
   have wl:M (de (T hs (M j) cs5))<V ns:=Y
   have tr:=tb.r (M (de (T hs (M j) cs5))) wl
   refine⟨tr.1,tr.2,hx _ hm,Y,Y,by have:=(LR (n:=(ns,ls,hs)) hb wl).len;exact ub this aD,ay (λh=>?_) (λh=>?_)⟩
   .have h:=lz h
    have e:o5 (ns,ls,hs) (M j)=jH (jX (T (gB (ns,ls,hs) (M j)) (M (de (T hs (M j) cs5))) cs5) (T hs (M j) cs5)) (dc (T ns (M (de (T hs (M j) cs5))) cs5)):=by
     rw[eq];unfold uI;rw[I c1,I c2,I c3,I c4]
    have k:=hit (by rw[e];exact h)
    rw[e] at k;exact k
   .have h:=lq h
    have e:o5 (ns,ls,hs) (M j)=0:=by
     rw[eq];unfold uI;rw[I c1,I c2,I c3,I c4];exact h
    refine⟨Y,by rw[xG];show de _<(V ns:Int);omega,j+1,gB (ns,ls,hs) (M (j+1)),⟨Y,Y,NL j0 hf e,rfl⟩,Y,?_⟩
    (repeat refine g9 ?_)
    refine⟨?_,aQ⟩
    rw[show M (j+1)=M j+1 by omega];rfl
def bI2:aB 117 Yp.spec:=aG Tryz.func117 (C (C (C (C (C aC TC) aO0) bp4) ZL) UR) a69 bY4
def ae6:Ct:=⟨[.agg mM],[.val cI],λd=>[∀ c∈d.1.2.2,((ig c).2.1.length:Int)<=1099511627776],λd=>((jA d.1,()),())⟩
def a19:bG ae6.ps->bL:=(λd=>{unr:=λn=>match n with|2=>8|_=>0})
def bH5:
 ∀(a:List ar)(b:List bu)(c:List cJ),J (gT a b c)->DY c->au ( !aY (wh (a,b,c))) (wh (a,b,c)=jA (a,b,c)) (au ( !aY (sW (a,b,c))) (sW (a,b,c)=jA (a,b,c)) (au ( !aY (sG (a,b,c))) (sG (a,b,c)=jA (a,b,c)) (Ia (a,b,c)/\au ( !aY (vA (a,b,c))) (vA (a,b,c)=jA (a,b,c)) ((∀(d:ar),d∈a->sr (aV d))/\au ( !aY (y9 (a,b,c))) (y9 (a,b,c)=jA (a,b,c)) (Ia (a,b,c)/\au ( !aY (xI (a,b,c))) (xI (a,b,c)=jA (a,b,c)) (sG (a,b,c)=0/\V a<=64/\DY c/\au ( !aY (uR (a,b,c))) (uR (a,b,c)=jA (a,b,c)) (0=jA (a,b,c)))))))):= by
  delta O aq aH gT nh dh dC cU aT jR aR bJ aY J kL nC DY sr aF
  rintro ns ls hs-hx
  unfold jA
  refine ay (λh=>FG (lz h)) (λh=>?_)
  have h1:=lq h
  rw[Fq h1]
  refine ay (λh=>FG (lz h)) (λh=>?_)
  have h2:=lq h
  rw[Fq h2]
  refine ay (λh=>FG (lz h)) (λh=>?_)
  have h3:=lq h
  rw[Fq h3]
  refine⟨aj3 h2,ay (λh=>FG (lz h)) (λh=>?_)⟩
  have h4:=lq h
  rw[Fq h4]
  refine⟨λx hx=>ub (b47 h3 x hx).len aD,ay (λh=>FG (lz h)) (λh=>?_)⟩
  have h5:=lq h
  rw[Fq h5]
  refine⟨aj3 h2,ay (λh=>FG (lz h)) (λh=>?_)⟩
  have h6:=lq h
  rw[Fq h6]
  refine⟨h3,?_,hx,ay (λh=>rfl) (λh=>(lq h).symm)⟩
  unfold wh at h1
  split at h1
  .cases h1
  .dsimp only at *;omega
def bM4:aB 57 ae6.spec:=aG Tryz.func57 (C (C (C (C (C (C (C aC a44) aL6) cn8) bE7) bD6) as9) bI2) a19 bH5
abbrev EP:OT := .pair mM (.pair cI (.pair cI (.pair cI (.pair (.row 164 u9) (.pair (.row 3 cI) (.pair (.row 185 qA) (.pair (.row 178 DS) (.row 248 Ea))))))))
def cl7:Ct:=⟨[.val (.sl u9)],[.own 164 u9],λd=>[(V d.1:Int)<=1000000],λd=>((d.1,()),())⟩
def Cs(a:List NState):=V a<=cu5/\ ∀(b:NState),b∈a->iD b.1 b.2.1 b.2.2.1 b.2.2.2.1.1 b.2.2.2.1.2 b.2.2.2.2
def cl4:
 ∀(a:List NState),J (Cs a)->O a<=1000000->kw (V a=0) ([]=a) (bR ((0+V a)*80)/\a=a):= by
  delta O aq aH dh dC cU aT bR iD J kw Cs aF
  rintro x ⟨⟨hl,-⟩,-⟩ h b hb
  refine ay (λh1=>?_) (λh1=>⟨by simp;omega,by simp⟩)
  simp_all
def b97:aB 132 cl7.spec:=aG Tryz.func132 aC aS cl4
def ci2:Ct:=⟨[.val (.sl qA)],[.own 185 qA],λd=>[(V d.1:Int)<=1000000],λd=>((d.1,()),())⟩
def yr(a:List Flight):=V a<=cu5/\ ∀(b:Flight),b∈a->bJ b.1 b.2.1 (aq b.2.2.1) (iq b.2.2.2.1 b.2.2.2.2.1 b.2.2.2.2.2)
def cg8:
 ∀(a:List Flight),J (yr a)->O a<=1000000->kw (V a=0) ([]=a) (bR ((0+V a)*64)/\a=a):= by
  delta O aq aH aM bR bJ J yr kw iq aF
  rintro x ⟨⟨hl,-⟩,-⟩ h b hb
  refine ay (λh1=>?_) (λh1=>⟨by simp;omega,by simp⟩)
  simp_all
def bs6:aB 133 ci2.spec:=aG Tryz.func133 aC aS cg8
def aw7:Ct:=⟨[.val (.sl DS)],[.own 178 DS],λd=>[(V d.1:Int)<=1000000000000],λd=>((d.1,()),())⟩
def kR(a:List cO):=V a<=cu5/\ ∀(b:cO),b∈a->iq b.1 b.2.1 b.2.2
def m9(a:Int):=a<=1000000000000
def Lc(a:List cO):=kw (V a=0) ([]=a) (bR ((0+V a)*40)/\a=a)
def b01:
 ∀(a:List cO),J (kR a)->m9 (O a)->Lc a:= by
  delta O aq aH aM bR kR J kw m9 iq Lc aF
  rintro x ⟨⟨hl,-⟩,-⟩ h b hb
  refine ay (λh1=>?_) (λh1=>⟨by simp;omega,by simp⟩)
  simp_all
def bv2:aB 134 aw7.spec:=aG Tryz.func134 aC aS b01
def bj8:Ct:=⟨[.val (.sl Ea)],[.own 248 Ea],λd=>[(V d.1:Int)<=1000000000000],λd=>((d.1,()),())⟩
def Bv(a:List lZ):=V a<=cu5/\ ∀(b:lZ),b∈a->bJ b.1 b.2.1 (aq b.2.2.1) (aq b.2.2.2.1/\aq b.2.2.2.2)
def a73:
 ∀(a:List lZ),J (Bv a)->m9 (O a)->kw (V a=0) ([]=a) (bR ((0+V a)*40)/\a=a):= by
  delta O aq aH bR bJ J kw m9 Bv
  rintro x ⟨⟨hl,-⟩,-⟩ h b hb
  refine ay (λh1=>?_) (λh1=>⟨by simp;omega,by simp⟩)
  simp_all
def bP9:aB 135 bj8.spec:=aG Tryz.func135 aC aS a73
def bx5:Ct:=⟨[.val (.sl eM)],[.own 133 eM],λd=>[(V d.1:Int)<=1000000],λd=>((d.1,()),())⟩
def aP6:
 ∀(a:List ar),J (nh a)->O a<=1000000->kw (V a=0) ([]=a) (bR ((0+V a)*152)/\a=a):= by
  delta O aq aH nh dh dC cU aT bR bJ J kw kL aF
  rintro x ⟨⟨hl,-⟩,-⟩ h b hb
  refine ay (λh1=>?_) (λh1=>⟨by simp;omega,by simp⟩)
  simp_all
def aB2:aB 118 bx5.spec:=aG Tryz.func118 aC aS aP6
def aN6:Ct:=⟨[.val (.sl tg)],[.own 144 tg],λd=>[(V d.1:Int)<=1000000],λd=>((d.1,()),())⟩
def aM3:
 ∀(a:List bu),J (jR a)->O a<=1000000->kw (V a=0) ([]=a) (bR ((0+V a)*48)/\a=a):= by
  delta O aq aH jR bR bJ J kw
  rintro x ⟨⟨hl,-⟩,-⟩ h b hb
  refine ay (λh1=>?_) (λh1=>⟨by simp;omega,by simp⟩)
  simp_all
def bG6:aB 119 aN6.spec:=aG Tryz.func119 aC aS aM3
def a66:Ct:=⟨[.val (.sl oG)],[.own 158 oG],λd=>[(V d.1:Int)<=1000000],λd=>((d.1,()),())⟩
def bF4:
 ∀(a:List cJ),J (nC a)->O a<=1000000->kw (V a=0) ([]=a) (bR ((0+V a)*72)/\a=a):= by
  delta O aq aH dC cU aT bR bJ J kw nC aF
  rintro x ⟨⟨hl,-⟩,-⟩ h b hb
  refine ay (λh1=>?_) (λh1=>⟨by simp;omega,by simp⟩)
  simp_all
def aW6:aB 120 a66.spec:=aG Tryz.func120 aC aS bF4
def bZ7:Ct:=⟨[.val (.sl yB)],[.own 135 yB],λd=>[(V d.1:Int)<=1000000],λd=>((d.1,()),())⟩
def a51:
 ∀(a:cq7),J (kL a)->O a<=1000000->kw (V a=0) ([]=a) (bR ((0+V a)*16)/\a=a):= by
  delta O aq aH aT bR J kw kL aF
  rintro x ⟨⟨hl,-⟩,-⟩ h b hb
  refine ay (λh1=>?_) (λh1=>⟨by simp;omega,by simp⟩)
  simp_all
def bM2:aB 121 bZ7.spec:=aG Tryz.func121 aC aS a51
def af4:Ct:=⟨[.val (.sl fD)],[.own 156 fD],λd=>[okL d.1],λd=>((d.1,()),())⟩
def bW9:bG af4.ps->bL:=(λd=>{loops:=(bz 3 (λS=>{ι:=Int,μ:=λi=>M (V d.1-i),inv:=λi=>0<=i/\i<=V d.1,keep:=[3,8,9],slots:=λi=>[(10,.int .i64 i)],keepN:=[128]}) cm)})
def az8:
 ∀(a:List cF),Lg a:= by
  delta N O ap aq aH dh dC cU aT aR bi bZ am Lg aA J rC xA sa av bP rW aF qP
  rintro l ⟨⟨hl,-⟩,-⟩⟨h1,h2⟩
  refine⟨h1,⟨0,⟨Y,Y⟩,aI⟩,?_⟩
  rintro j ⟨b,j1⟩
  refine bT (λa=>?_) (λa=>?_)
  .refine⟨b,a,h2 _ (cW b a),b,a,j+1,⟨Y,Y⟩,Y,?_⟩
   (repeat refine g9 ?_)
   simp_all
  .rfl
def Uj:aB 122 af4.spec:=aG Tryz.func122 (C (C aC Zx) F2) bW9 az8
def ah6:Ct:=⟨[.agg mM],[.agg mM],λd=>[xi d.1],λd=>((d.1,()),())⟩
def bZ2:bG ah6.ps->bL:=(λd=>{loops:=(bz 3 (λS=>{ι:=Int,μ:=λi=>M (V d.1.1-i),inv:=λi=>0<=i/\i<=V d.1.1,keep:=[2,3,19,20],slots:=λi=>[(21,.int .i64 i)],keepN:=[48,64,176,224,272]}) (bz 8 (λS=>{ι:=Int,μ:=λi=>M (V d.1.2.2-i),inv:=λi=>0<=i/\i<=V d.1.2.2,keep:=[2,3,44,45],slots:=λi=>[(46,.int .i64 i)],keepN:=[48,64,176,224,272]}) cm))})
def Lz(a:List ar)(b:List bu)(c:List cJ):=pm (O a) (O b<=1000000) (pm (O c) (∀(d:ar),d∈a->O (aV d)<=1000000/\okL (ce d)) (∀(d:cJ),d∈c->aR (ig d).2.1))
def B3(a:List ar)(b:Int):=set a (M b) (N a b)
def a01:
 ∀(a:List ar)(b:List bu)(c:List cJ),J (gT a b c)->Lz a b c->pm (O a) (O b<=1000000) (pm (O c) (sa (O a) (qz a) (a=a/\kH b c)) (∀(d:Int),aF d (O a)->eh d (O a) (d<O a) (pm (O (N a d).1) (okL (lE a d)) (am d (d<O a) (am d (d<O (B3 a d)) (rC (O a) d (qz a) (aA d) (set (B3 a d) (M d) ((N (B3 a d) d).1,(N (B3 a d) d).2.1,(N (B3 a d) d).2.2.1,(N (B3 a d) d).2.2.2.1,lE a d,(N (B3 a d) d).2.2.2.2.2)=a/\kH b c))))) (sa (O c) (O c=O c) (a=a/\kH b c)) (∀(e:Int),aF e (O c)->au (av e (O c)) (bP e (O c) (aR (N c e).2.2.2.2.1) (am e (e<O c) (rC (O c) e (O c=O c) (aA e) (a=a/\b=b/\J (set c (M e) (N c e)=c))))) ((a,b,c)=(a,b,c))))):= by
  delta N O ap aq aH gT nh dh dC cU aT jR aR bi bZ am bJ eh aA J lE rC sa kL av kH bP Lz nC B3 pm rW aF qz
  rintro ns ls hs-⟨h1,h2,h3,h4,h5⟩
  refine⟨h1,h2,h3,⟨0,⟨Y,Y⟩,aI⟩,?_⟩
  rintro j ⟨b,j1⟩
  refine bT (λa=>?_) (λa=>?_)
  .have g:=h4 _ (cW b a)
   have e:=ze b a
   refine⟨b,a,g.1,g.2,b,a,b,by rw[f5];exact a,j+1,⟨Y,Y⟩,Y,?_⟩
   (repeat refine g9 ?_)
   grind
  refine⟨⟨0,⟨Y,Y⟩,aI⟩,?_⟩
  rintro k ⟨f,k1⟩
  refine bT (λd=>?_) (λd=>?_)
  .refine⟨f,d,h5 _ (cW f d),f,d,k+1,⟨Y,Y⟩,Y,?_⟩
   (repeat refine g9 ?_)
   exact⟨ze f d,aQ⟩
  .rfl
def U5:aB 58 ah6.spec:=aG Tryz.func58 (C (C (C (C (C (C aC aB2) bG6) aW6) bM2) Uj) F2) bZ2 a01
def aa0:Ct:=⟨[.agg tc],[.agg EP],λd=>[E8 d.1],λd=>((d.1,()),())⟩
def aE9:bG aa0.ps->bL:=(λd=>{loops:=(bz 4 (λS=>{ι:=Int,μ:=λi=>M (V (dD d.1)-i),inv:=λi=>0<=i/\i<=V (dD d.1),keep:=[1,2,18,19],slots:=λi=>[(20,.int .i64 i)],keepN:=[32,48,256]}) (bz 11 (λS=>{ι:=Int,μ:=λi=>M (V (aO d.1)-i),inv:=λi=>0<=i/\i<=V (aO d.1),keep:=[1,2,51,52],slots:=λi=>[(53,.int .i64 i)],keepN:=[32,48,256,720,784]}) (bz 17 (λS=>{ι:=Int,μ:=λi=>M (V (bO d.1)-i),inv:=λi=>0<=i/\i<=V (bO d.1),keep:=[1,2,72,73],slots:=λi=>[(74,.int .i64 i)],keepN:=[32,48,256,720,784,1120]}) cm)))})
def zS(a:ag3)(b c:Prop):=iz a.1.1 a.1.2.1 (a.1.2.2=a.1.2.2) (bh a.2.1 a.2.2.1 a.2.2.2.1 b c)
def AJ(a:ag3):=a.2.2.2.2.2.2.2.2=a.2.2.2.2.2.2.2.2
def Cf(a:ag3):=a.2.2.2.2.2.2.2.1=a.2.2.2.2.2.2.2.1
def z8(a:ag3):=a.2.2.2.2.2.1=a.2.2.2.2.2.1
def Cq(a:ag3):=a.2.2.2.2.2.2.1=a.2.2.2.2.2.2.1
def wA(a:ag3):=O a.2.2.2.2.2.2.2.1
def t8(a:ag3):=O a.2.2.2.2.2.2.1
def Bz(a:ag3):=a.2.2.2.2.1=a.2.2.2.2.1
def C2(a:ag3):=∀(b:Go.RS.Del),b∈bO a->bV b.2.2
def Ku(a:ag3)(b:Int):=set a.2.2.2.2.1 (M b) (N a.2.2.2.2.1 b)
def Aa(a:ag3):=O a.2.2.2.2.1
def cq2:
 ∀(a:ag3),J (CT.wf tc a)->xi (aN a)/\pm (O (dD a)) (bV (iZ a)) (pm (O (aO a)) (m9 (O (bO a))) (m9 (O (d9 a))/\(∀(b:NState),b∈dD a->bV (oh b)/\okL (cR b))/\(∀(b:Flight),b∈aO a->bV (iH b))/\C2 a))->xi a.1/\pm (Aa a) (sa (O (dD a)) (Aa a=Aa a) (zS a (z8 a) (Cq a/\Cf a/\AJ a/\bh 0 0 0 (Bz a) True))) (∀(b:Int),aF b (O (dD a))->eh b (Aa a) (b<Aa a) (aR (N a.2.2.2.2.1 b).2.2.1/\okL (N a.2.2.2.2.1 b).1/\am b (b<Aa a)
 (am b (b<O (Ku a b)) (rC (O (dD a)) b (Aa a=Aa a) (aA b) (zS a (z8 a) (Cq a/\Cf a/\AJ a/\bh 0 0 0 (set (Ku a b) (M b) ((N a.2.2.2.2.1 b).1,(N (Ku a b) b).2)=a.2.2.2.2.1) True))))) (aR a.2.2.2.2.2.1) (pm (t8 a) (sa (O (aO a)) (t8 a=t8 a) (zS a (Cf a) (AJ a/\bh 0 0 0 (Bz a) (z8 a/\J (Cq a))))) (∀(c:Int),aF c (O (aO a))->eh c (t8 a) (c<t8 a) (aR (N a.2.2.2.2.2.2.1 c).2.2.2.2.2/\am c (c<t8 a) (rC (O (aO a)) c (t8 a=t8 a) (aA c) (zS a (Cf a) (AJ a/\bh 0 0 0 (Bz a) (z8 a/\J (set a.2.2.2.2.2.2.1 (M c) (N a.2.2.2.2.2.2.1 c)=a.2.2.2.2.2.2.1)))))) (m9 (wA a)) (sa (O (bO a)) (wA a=wA a) (zS a (AJ a) (bh 0 0 0 (Bz a) (z8 a/\Cq a/\J (Cf a))))/\ ∀(d:Int),aF d (O (bO a))->eh d (wA a)
 (d<wA a) (aR (N a.2.2.2.2.2.2.2.1 d).2.2/\am d (d<wA a) (rC (O (bO a)) d (wA a=wA a) (aA d) (zS a (AJ a) (bh 0 0 0 (Bz a) (z8 a/\Cq a/\J (set a.2.2.2.2.2.2.2.1 (M d) (N a.2.2.2.2.2.2.2.1 d)=a.2.2.2.2.2.2.2.1)))))) (m9 (O a.2.2.2.2.2.2.2.2)) (a=a))))):= by
  delta N O ap bh bp aR bi bZ am zS bV eh aA J rC iz sa AJ Cf av z8 Cq wA m9 t8 Bz C2 pm rW Ku aF Aa
  rintro d-⟨h1,h2,i,h4,h5,h6,h7,h8,h9⟩
  have i:(V d.2.2.2.2.2.1:Int)<=1000000:=i
  have eS:dD d=d.2.2.2.2.1:=rfl
  have eF:aO d=d.2.2.2.2.2.2.1:=rfl
  have eD:bO d=d.2.2.2.2.2.2.2.1:=rfl
  simp only[eS,eF,eD] at *
  refine⟨h1,h2,⟨0,⟨Y,Y⟩,aI⟩,?_⟩
  rintro j ⟨g,j1⟩
  refine bT (λc=>?_) (λc=>?_)
  .have l:=h7 _ (cW g c)
   have h:((T d.2.2.2.2.1 (M j) cs5).2.2.1.length:Int)<=1000000:=l.1
   have e:=ze g c
   refine⟨g,c,Y,l.2,g,c,g,by rw[f5];exact c,j+1,⟨Y,Y⟩,Y,?_⟩
   (repeat refine g9 ?_)
   grind
  refine⟨Y,h4,⟨0,⟨Y,Y⟩,aI⟩,?_⟩
  rintro k ⟨b,k1⟩
  refine bT (λa=>?_) (λa=>?_)
  .have h:((T d.2.2.2.2.2.2.1 (M k) cs5).2.2.2.2.2.length:Int)<=1000000:=h8 _ (cW b a)
   refine⟨b,a,Y,b,a,k+1,⟨Y,Y⟩,Y,?_⟩
   (repeat refine g9 ?_)
   exact⟨ze b a,aQ⟩
  refine⟨h5,⟨0,⟨Y,Y⟩,aI⟩,?_⟩
  rintro k ⟨b,k1⟩
  refine bT (λa=>?_) (λa=>?_)
  .have h:=h9 _ (cW b a)
   refine⟨b,a,Y,b,a,k+1,⟨Y,Y⟩,Y,?_⟩
   (repeat refine g9 ?_)
   simp_all
  exact⟨h6,aQ⟩
def ac0:aB 65 aa0.spec:=aG Tryz.func65 (C (C (C (C (C (C (C (C aC U5) b97) F2) Uj) bs6) po) bv2) bP9) aE9 cq2
def yx(x y:Flight):Int:=if c9 (aZ x) (aZ y)≠0 then c9 (aZ x) (aZ y) else c9 (qU x) (qU y)
def cm5:Ct:=⟨[.agg qA,.agg qA],[.val cI],λ_=>[],λd=>((yx d.1 d.2.1,()),())⟩
def a21:
 ∀(a b c d e:Int)(f:Z)(g h i j k:Int)(l:Z),bJ a b (aq c) (iq d e f)/\J (bJ g h (aq i) (iq j k l))->True->pD (c9 a g::bI (c9 b h))=yx (a,b,c,d,e,f) (g,h,i,j,k,l):= by
  delta aq aH aM bJ J bI iq aF
  rintro a c a3 a4 a5 a6 b d b3 b4 b5 b6 - -
  have e:yx (a,c,a3,a4,a5,a6) (b,d,b3,b4,b5,b6)=if c9 a b≠0 then c9 a b else c9 c d:=rfl
  simp only[pD]
  grind
def aT1:aB 150 cm5.spec:=aG Tryz.func150 (C (C aC GZ) KI) aS a21
instance (a b:Flight):Decidable (je a b):=by unfold je;infer_instance
def jo(l:List Flight)(t:Flight):Int:=(V (l.takeWhile λx=>cs7 (je x t)):Int)
variable{x y:Flight}
theorem bA9:yx x y<0↔je x y:=by
 unfold yx c9 je
 grind
theorem bz4{z:Flight}(h:je x y)(k:je y z):je x z:=by unfold je at *;omega
theorem OW(l:List Flight)(t:Flight):0<=jo l t/\jo l t<=V l:=by
 unfold jo
 have:=dL V (oR (p:=λx=>cs7 (je x t)) (l:=l))
 grind
theorem ai9:∀{l:List Flight}{t:Flight}{h:Nat},l.Pairwise je->h<V l->(je (T l h cs5) t↔(h:Int)<jo l t)
 | a::l,t,h,hs,hh=>by
  obtain⟨s1,s2⟩:=cu1.1 hs;by_cases b:je a t
  .have e:jo (a::l) t=jo l t+1:=by unfold jo;rw[cF4 (by simpa using b),fa];omega
   cases h with
   | zero =>
    have:=OW l t;grind
   | succ h =>
    simp only[List.getD_cons_succ];rw[ai9 s2 (by simpa using hh),e];omega
  .have e:jo (a::l) t=0:=by unfold jo;rw[cB3 (by simpa using b)];rfl
   constructor
   .intro k;exfalso;cases h with
    | zero=>exact b k
    | succ h =>
     have hh:h<V l:=by simpa using hh
     have hm:T l h cs5∈l:=by rw[cK,cT hh];exact cv2 hh
     exact b (bz4 (s1 _ hm) k)
   .omega
variable{l:List Flight}
theorem V8{t:Flight}{h:Int}(hs:l.Pairwise je)(h0:0<=h)(h1:h<V l):yx (T l (M h) cs5) t<0↔h<jo l t:=by
 rw[bA9,ai9 hs Y]
 rw[cF2 h0]
def WU:Ct:=⟨[.val (.sl qA),.agg qA,.fn 150 0],[.val cI,.val .bool],λd=>[d.1.Pairwise je],λd=>((jo d.1 d.2.1,(bif cs7 (jo d.1 d.2.1<V d.1) then cs7 (yx (T d.1 (M (jo d.1 d.2.1)) cs5) d.2.1=0) else ct2),()),())⟩
def a18:bG WU.ps->bL:=(λd=>{loops:=(bz 3 (λS=>{ι:=Int×Int,qn:=fE,μ:=λi=>M (i.2-i.1),inv:=λi=>0<=i.1/\i.1<=jo d.1 d.2.1/\jo d.1 d.2.1<=i.2/\i.2<=V d.1,keep:=[0,2,4,8],slots:=λi=>[(9,.int .i64 i.1),(10,.int .i64 i.2)],keepN:=[80]}) cm)})
def EW(a b:Int)(c d:Prop)(e f:Bool):=∀(g:Bool),g=av a b->(g->iW g g a c)/\cB g g ((g->g)/\dE g) (g->aK g) ((g->g)/\d/\bq g e=f)
theorem aV0:
 ∀(a:List Flight)(b c d e f:Int)(g:Z),yr a/\bJ b c (aq d) (iq e f g)/\J True->cy1 je a->(∃(h i:Int),bo h (jo a (b,c,d,e,f,g)) (jo a (b,c,d,e,f,g)<=i) (i<=O a)/\a=a/\O a=O a/\0=h/\O a=i/\bh b c d (e=e) (f=f/\J (g=g)))/\ ∀(h i:Int),bo h (jo a (b,c,d,e,f,g)) (jo a (b,c,d,e,f,g)<=i) (i<=O a)->au (av h i) (am 1 (0<=mI h i) (mI h i<O a/\au (da (yx (N a (mI h i)) (b,c,d,e,f,g))) (∃(j k:Int),bo j (jo a (b,c,d,e,f,g)) (jo a (b,c,d,e,f,g)<=k) (k<=O a)/\bZ (k -j) (i -h)/\a=a/\O a=O a/\aA (mI h i)=j/\i=k/\bh b c d (e=e) (f=f/\J (g=g))) (∃(j k:Int),bo j (jo a (b,c,d,e,f,g)) (jo a (b,c,d,e,f,g)<=k) (k<=O a)/\bZ (k -j) (i -h)/\a=a/\O a=O a/\h=j/\mI h i=k/\bh b c d (e=e) (f=f/\J (g=g))))) (EW h (O a) (h<O a) (h=jo a (b,c,d,e,f,g)) (aY (yx (N a h)
 (b,c,d,e,f,g))) (bq (av (jo a (b,c,d,e,f,g)) (O a)) (aY (yx (N a (jo a (b,c,d,e,f,g))) (b,c,d,e,f,g))))):= by
  delta N O ap aq aH aM aK bh bp cB bq bZ am bJ aY bo mI aA J iW yr dE EW da av iq aF
  rintro x c d e f g k ⟨⟨hl,-⟩,-⟩ hs
  simp only[cu5] at hl
  have ⟨q0,q1⟩:=OW x (c,d,e,f,g,k)
  refine⟨⟨0,V x,⟨Y,q0,q1,Y⟩,aI⟩,?_⟩
  rintro i j ⟨l,h1,h2,h3⟩
  refine bT (λhb=>?_) (λhb=>?_)
  .rw[Kw l Y Y]
   refine⟨Y,Y,Y,bT (λa=>?_) (λa=>?_)⟩
   .have a:=(V8 hs Y Y).1 a
    exact⟨(i+j)/2+1,j,⟨Y,Y,h2,h3⟩,Y,aI⟩
   .have a:¬ (i+j)/2<jo x (c,d,e,f,g,k):=λh=>absurd ((V8 hs Y Y).2 h) a
    exact⟨i,(i+j)/2,⟨l,h1,Y,Y⟩,Y,aI⟩
  .grind
theorem az6:aB 149 WU.spec:=aG Tryz.func149 (C aC aT1) a18 aV0
theorem VO{α:Type}{p q}:∀{l:List α},(∀ x∈l,p x=q x)->l.takeWhile p=l.takeWhile q/\l.dropWhile p=l.dropWhile q
 | [],_=>⟨rfl,rfl⟩
 | a::l,h=>by
  obtain⟨h1,h2⟩:=VO (l:=l) λx hx=>h x (eZ _ hx);have ha:=h a (dU ..);rw[cI7,cI7,cI8,cI8,ha,h1,h2];exact⟨rfl,rfl⟩
theorem cg4{f:Flight}(hf:∀ x∈l,qU x<qU f):l.take (M (jo l f))++([f]++l.drop (M (jo l f)))=jt l f:=by
 have ⟨e1,e2⟩:=VO (p:=λx=>cs7 (je x f)) (q:=λx=>cs7 (aZ x<=aZ f)) (l:=l) λx hx=>by
  have:=hf x hx;apply decide_eq_decide.2;unfold je;omega
 have k:=oR (p:=λx=>cs7 (je x f)) (l:=l)
 have t1:∀ A B,A++B=l->l.take (V A)=A/\l.drop (V A)=B:=by
  rintro A B rfl;exact⟨List.take_left' rfl,List.drop_left' rfl⟩
 have ⟨t2,t3⟩:=t1 _ _ k
 unfold jo
 rw[cv6,t2,t3]
 unfold jt
 rw[e1,e2]
 rfl
def bf8:Ct:=⟨[.box 39 EP,.agg qA],[],λd=>[(aO d.1).Pairwise je,∀ x∈aO d.1,qU x<dw d.1,V (aO d.1)<=4096],λd=>((),(EV d.1 d.2.1,()))⟩
def zC(a b:Int)(c:List NState)(d:Z)(e:List Flight)(f:List cO)(g:List lZ):=bJ a b (Cs c) (cU d/\yr e/\kR f/\Bv g)
def DC(a:Go.RS.Net×Int×Int×Int×List Go.RS.NState×Z×List Go.RS.Flight×List Go.RS.Del×List Go.RS.EndR):=∀(b:Flight),b∈aO a->qU b<dw a
def bp2:
 ∀(a:List ar)(b:List bu)(c:List cJ)(d e f:Int)(g:List NState)(h:Z)(i:List Flight)(j:List cO)(k:List lZ)(l m n o p:Int)(q:Z),(gT a b c/\aq d/\zC e f g h i j k)/\J (bJ l m (aq n) (iq o p q))->cy1 je (aO ((a,b,c),d,e,f,g,h,i,j,k))/\DC ((a,b,c),d,e,f,g,h,i,j,k)/\V (aO ((a,b,c),d,e,f,g,h,i,j,k))<=4096->cy1 je i/\V [(l,e,n,o,p,q)]=1/\bo (jo i (l,e,n,o,p,q)) (O i) (bR ((V i+1)*64)) (((a,b,c),d,aA e,f,g,h,take (M (jo i (l,e,n,o,p,q))) i++([(l,e,n,o,p,q)]++drop (M (jo i (l,e,n,o,p,q))) i),j,k)=EV ((a,b,c),d,e,f,g,h,i,j,k) (l,m,n,o,p,q)):= by
  delta O ap aq aH aM gT nh dh dC cU aT jR zC am bR kR bJ bo aA iD J yr kL nC DC Bv Cs iq aF
  rintro ns ls hs now ord dn sts cr fl dl en a b c e f g-⟨h1,h2,h3⟩
  have h1:=h1
  have h2:∀ x∈fl,qU x<ord:=h2
  have h3:V fl<=4096:=h3
  have ⟨q0,q1⟩:=OW fl (a,ord,c,e,f,g)
  refine⟨h1,rfl,q0,q1,Y,?_⟩
  rw[cg4 (f:=(a,ord,c,e,f,g)) h2]
  rfl
def Zf:aB 75 bf8.spec:=aG Tryz.func75 (C (C aC az6) bK9) aS bp2
def ZS:Ct:=⟨[.box 39 EP],[],λd=>[Ae d.1],λd=>((),(dA d.1,()))⟩
def bb0:bG ZS.ps->bL:=(λd=>{loops:=(bz 0 (λS=>{ι:=Int×(List NState),qn:=fE,μ:=λi=>M ((aN d.1).2.2.length-i.1),inv:=λi=>Ae (uH (ku d.1 i.2) i.1)/\dA (uH (ku d.1 i.2) i.1)=dA d.1,keep:=[0],slots:=λi=>[],keepN:=[2097153,2097154,2097155,2097156],names:=λi=>[(1048576,.live (.cells 39 (cS mM d.1.1++[.int .i64 d.1.2.1,.int .i64 d.1.2.2.1,.int .i64 i.1,.own 524288 6,.own 2097153 1,.own 2097154 6,.own 2097155 3,.own 2097156 5]))),(524288,.live (.row 164 u9 i.2))]}) cm)})
def aN4:
 ∀(a:List ar)(b:List bu)(c:List cJ)(d e f:Int)(g:List NState)(h:Z)(i:List Flight)(j:List cO)(k:List lZ),J (gT a b c/\aq d/\zC e f g h i j k)->ij ((a,b,c),d,e,f,g,h,i,j,k)∨c=[]/\eI ((a,b,c),d,e,f,g,h,i,j,k)=0->(∃(l:Int) (m:List NState),(Ae (uH (ku ((a,b,c),d,e,f,g,h,i,j,k) m) l)/\dA (uH (ku ((a,b,c),d,e,f,g,h,i,j,k) m) l)=dA ((a,b,c),d,e,f,g,h,i,j,k))/\h=h/\i=i/\j=j/\k=k/\iz a b (c=c) (bp d e (f=l) (J (g=m))))/\ ∀(l:Int)(m:List NState),Ae (uH (ku ((a,b,c),d,e,f,g,h,i,j,k) m) l)/\dA (uH (ku ((a,b,c),d,e,f,g,h,i,j,k) m) l)=dA ((a,b,c),d,e,f,g,h,i,j,k)-> ∀(n:Bool),n=av l (O c)->oq n n (aK n) (aK n) (n->aK n) (cB n n (iW n n l (l<O c)) (n->aK n) (oq n n (aK n) (dE n) (n->n) (au (bq n (cs7 ((N c l).1<=d))) (am l (l<O c) (gP (jQ c l) (O m)
 (N c l).2.2.1 (dY (N m (jQ c l)).1/\okL (N m (jQ c l)).1/\ ∃(o:Int) (p:List NState),(Ae (uH (ku ((a,b,c),d,e,f,g,h,i,j,k) p) o)/\dA (uH (ku ((a,b,c),d,e,f,g,h,i,j,k) p) o)=dA ((a,b,c),d,e,f,g,h,i,j,k))/\bi (O c) o l/\h=h/\i=i/\j=j/\k=k/\iz a b (c=c) (bp d e (aA l=o) (J (set m (M (jQ c l)) (mn (N m (jQ c l)).1 (N c l).2.2.2.1,(N m (jQ c l)).2)=p)))) (dY (N m (jQ c l)).1/\okL (N m (jQ c l)).1/\aR (N c l).2.2.2.2.1/\ ∃(o:Int) (p:List NState),(Ae (uH (ku ((a,b,c),d,e,f,g,h,i,j,k) p) o)/\dA (uH (ku ((a,b,c),d,e,f,g,h,i,j,k) p) o)=dA ((a,b,c),d,e,f,g,h,i,j,k))/\bi (O c) o l/\h=h/\i=i/\j=j/\k=k/\iz a b (c=c) (bp d e (aA l=o) (J (set m (M (jQ c l)) (gC (N m (jQ c l)).1 (N c l).2.2.2,(N m (jQ c l)).2)=p))))))
 (((a,b,c),d,e,l,m,h,i,j,k)=dA ((a,b,c),d,e,f,g,h,i,j,k))))):= by
  delta N O ap aq aH aM gT nh dh dC aK cU aT bp jR aR cB bi zC bq bZ am kR bJ aA iD J iW iz yr dE kL av oq nC Bv Cs iq jQ aF gP
  rintro ns ls hs now ord dn0 sts cr fl dl en ⟨⟨⟨-,-,⟨hl,-⟩⟩,-⟩,-⟩ h
  simp only[cu5] at hl
  refine⟨⟨dn0,sts,⟨h,rfl⟩,aI⟩,?_⟩
  rintro dn st ⟨hv,he⟩
  obtain⟨v,hw⟩:∃ v,v=uH (ku ((ns,ls,hs),now,ord,dn0,sts,cr,fl,dl,en) st) dn:=⟨_,rfl⟩
  rw[← hw] at hv he
  have hdn:eI v=dn:=by rw[hw];rfl
  have hd0:0<=dn:=by obtain q|q:=hv;have:=q.done.1;omega;have:=q.2;omega
  (repeat (refine cG ?_;repeat refine cH ?_))
  refine uZ (λh1 h2=>?_) (λh12=>?_)
  rotate_left
  .rw[← he,bm8,hw]
   .rfl
   .intro k
    unfold oU at k
    rw[hw,fB] at k
    obtain q|q:=h12
    .exact absurd (k.1.symm.trans q) aw
    .exact absurd (k.2.symm.trans q) aw
  have hd1:=aX h1
  have hv:=hv.resolve_right λq=>by
   have q1:hs=[]:=by have:=q.1;rw[hw] at this;exact this
   rw[q1] at hd1;simp at hd1;omega
  have hdue:oU v=true:=by
   unfold oU
   rw[hw,fB]
   exact⟨h1,h2⟩
  have eN:aN v=(ns,ls,hs):=by rw[hw];rfl
  have eS:dD v=st:=by rw[hw];rfl
  have hk:M dn<(aN v).2.2.length:=by rw[eN];show M dn<V hs;omega
  obtain⟨-,⟨w0,w1⟩,hc⟩:=JB hv.net hk
  have hlen:=hv.len
  have hsw:=hv.chg hdue
  have hst:=(bI9 hv hdue).symm.trans he
  rw[eN,eS] at hlen
  rw[eN] at w0 w1 hc
  have hlen:=hlen
  obtain⟨c,ec⟩:∃ c,c=T hs (M dn) default:=⟨_,rfl⟩
  have w0:0<=de c:=by rw[ec];exact w0
  have w1:de c<V ns:=by rw[ec];exact w1
  have hi:M (de c)<(aN v).1.length:=by rw[eN];show M (de c)<V ns;omega
  have ⟨c1,c2⟩:=CZ (hv.chk hi)
  rw[eS] at c1 c2
  have et:mV v=c:=by rw[ec,hw];rfl
  have ed:eI v=dn:=by rw[hw];rfl
  have ev:kq v=uH (ku ((ns,ls,hs),now,ord,dn0,sts,cr,fl,dl,en) (st.set (M (de c)) (SR (T st (M (de c)) cs5) (jX (cR (T st (M (de c)) cs5)) c)))) (dn+1):=by
   unfold kq
   rw[et,ed,eS,aJ Y Y,hw]
   rfl
  rw[ev] at hsw hst
  have wd:ct0.wrap (dn+1)=dn+1:=aJ Y Y
  rw[← ec]
  refine⟨hd0,hd1,w0,by rw[hlen];exact w1,ay (λhr=>?_) (λhr=>?_)⟩
  .have er:jX (cR (T st (M (de c)) cs5)) c=mn (cR (T st (M (de c)) cs5)) (ig c).1:=by unfold jX;exact ao hr
   rw[er] at hsw hst
   refine⟨c1,c2,dn+1,_,⟨.inl hsw,hst⟩,by show M (V hs-(dn+1))<M (V hs-dn);omega,?_⟩
   (repeat refine g9 ?_)
   exact⟨rfl,aQ⟩
  .have er:jX (cR (T st (M (de c)) cs5)) c=gC (cR (T st (M (de c)) cs5)) (ig c):=by unfold jX;rw[I (by rw[show AK c=ct2 from hr];simp)]
   have hin:((ig c).2.1.length:Int)<=1099511627776:=by
    have hc':=(CZ hc).2.2
    rw[← ec] at hc'
    have e2:jX (T (gB (ns,ls,hs) (M dn)) (M (de c)) cs5) c=gC (T (gB (ns,ls,hs) (M dn)) (M (de c)) cs5) (ig c):=by unfold jX;rw[I (by rw[show AK c=ct2 from hr];simp)]
    have hc2:okL (gC (T (gB (ns,ls,hs) (M dn)) (M (de c)) cs5) (ig c)):=by
     have:=(CZ hc).2
     rw[← e2,ec];exact this
    exact hc2.2 _ (by unfold gC;simp)
   rw[er] at hsw hst
   refine⟨c1,c2,hin,dn+1,_,⟨.inl hsw,hst⟩,by show M (V hs-(dn+1))<M (V hs-dn);omega,?_⟩
   (repeat refine g9 ?_)
   exact⟨rfl,aQ⟩
def ab3:aB 68 ZS.spec:=aG Tryz.func68 (C (C aC Vm) Yt) bb0 aN4
def cc6:Ct:=⟨[.box 39 EP,.agg qA,.val cI,.val cI],[],λd=>[(V (d9 d.1):Int)<=1000000000000],λd=>((),(sI d.1 d.2.1 d.2.2.1 d.2.2.2.1,()))⟩
def a37:
 ∀(a:List ar)(b:List bu)(c:List cJ)(d e f:Int)(g:List NState)(h:Z)(i:List Flight)(j:List cO)(k:List lZ)(l m n o p:Int)(q:Z)(r s:Int),(gT a b c/\aq d/\zC e f g h i j k)/\bJ l m (aq n) (iq o p q)/\dP r s->m9 (O (d9 ((a,b,c),d,e,f,g,h,i,j,k)))->bR ((V k+V [(p,l,n,r,s)])*40)/\((a,b,c),d,e,f,g,h,i,j,k++[(p,l,n,r,s)])=sI ((a,b,c),d,e,f,g,h,i,j,k) (l,m,n,o,p,q) r s:= by
  delta O aq aH aM gT nh dh dC cU aT jR zC bR kR bJ iD J yr dP kL m9 nC Bv Cs iq aF
  rintro ns ls hs now ord dn sts cr fl dl en a b c e f g l r-h
  have h:(V en:Int)<=1000000000000:=h
  exact⟨by simp only[fq];omega,rfl⟩
def XN:aB 137 cc6.spec:=aG Tryz.func137 aC aS a37
def XL(n:Int):Int:=ct9.wrap n
def bV9:Ct:=⟨[.box 39 EP,.agg qA,.agg D6],[],λd=>[(aO d.1).Pairwise je,∀ x∈aO d.1,qU x<dw d.1,V (aO d.1)<=4096,(V (d9 d.1):Int)<=1000000000000,V (iZ d.1)=(aN d.1).2.1.length,0<=d.2.2.1.1,d.2.2.1.1<(aN d.1).2.1.length,pE (aN d.1).1.length (fY d.1 d.2.2.1.1)],λd=>((),(iO d.1 d.2.1 d.2.2.1,()))⟩
def RC(a:Int)(b:List bu)(c:Int)(d:Z):=ap (ap (a+(N b c).2.2.1)+ap (cx2 (ct1 ct9 (cB9 (pL (bits cx8 ct9 (pL (ct1 ct9 (N b c).2.2.2.2.2)) (ct1 ct9 (N d c)))) 65536)) (ct1 ct9 (aA (N b c).2.2.2.1))))
def bS3:
 ∀(a:List ar)(b:List bu)(c:List cJ)(d e f:Int)(g:List NState)(h:Z)(i:List Flight)(j:List cO)(k:List lZ)(l m n o p:Int)(q:Z)(r:Int)(s:Z),(gT a b c/\aq d/\zC e f g h i j k)/\bJ l m (aq n) (iq o p q)/\J (aq r/\aM s)->cy1 je (aO ((a,b,c),d,e,f,g,h,i,j,k))/\DC ((a,b,c),d,e,f,g,h,i,j,k)/\V (aO ((a,b,c),d,e,f,g,h,i,j,k))<=4096/\m9 (O (d9 ((a,b,c),d,e,f,g,h,i,j,k)))/\V (iZ ((a,b,c),d,e,f,g,h,i,j,k))=V b/\am r (r<O b) (am (lA (fY ((a,b,c),d,e,f,g,h,i,j,k) r)) (lA (fY ((a,b,c),d,e,f,g,h,i,j,k) r)<O a) (bP (lB (fY ((a,b,c),d,e,f,g,h,i,j,k) r)) (O a) (lA (fY ((a,b,c),d,e,f,g,h,i,j,k) r)≠lB (fY ((a,b,c),d,e,f,g,h,i,j,k) r)) (1<=rJ (fY ((a,b,c),d,e,f,g,h,i,j,k) r)/\rJ (fY ((a,b,c),d,e,f,g,h,i,j,k) r)<=1073741824/\bo (nE (fY ((a,b,c),d,e,f,g,h,i,j,k) r))
 1073741824 (0<=yg (fY ((a,b,c),d,e,f,g,h,i,j,k) r)) (yg (fY ((a,b,c),d,e,f,g,h,i,j,k) r)<=65536))))->am r (r<O b) (am r (r<O h) (am r (r<O h) (bP r (O h) ((65536:Int)≠(0:Int)) (au (av (cx2 (pL (bits cx8 ct9 (pL (ct1 ct9 (N b r).2.2.2.2.2)) (ct1 ct9 (N h r)))) 65536) (ct1 ct9 (N b r).2.2.2.2.1)) (m9 (O (d9 ((a,b,c),d,e,f,g,qj h r,i,j,k)))/\((a,b,c),d,e,f,g,qj h r,i,j,d9 ((a,b,c),d,e,f,g,qj h r,i,j,k)++[(rG (l,m,n,o,p,q),aZ (l,m,n,o,p,q),ci (l,m,n,o,p,q),r,3)])=iO ((a,b,c),d,e,f,g,h,i,j,k) (l,m,n,o,p,q) (r,s)) ((65536:Int)≠(0:Int)/\ct1 ct9 (aA (N b r).2.2.2.1)≠0/\ ∀(t:Bool),t=wR (RC d b r h)->cQ t (bN t) (cQ t (bw t) (au (br t (cs7 (4096<=O i))) (m9 (O (d9 ((a,b,c),d,e,f,g,qj h
 r,i,j,k)))/\((a,b,c),d,e,f,g,qj h r,i,j,d9 ((a,b,c),d,e,f,g,qj h r,i,j,k)++[(rG (l,m,n,o,p,q),aZ (l,m,n,o,p,q),ci (l,m,n,o,p,q),r,7)])=iO ((a,b,c),d,e,f,g,h,i,j,k) (l,m,n,o,p,q) (r,s)) (cy1 je (aO ((a,b,c),d,e,f,g,qj h r,i,j,k))/\DC ((a,b,c),d,e,f,g,qj h r,i,j,k)/\V (aO ((a,b,c),d,e,f,g,qj h r,i,j,k))<=4096/\((a,b,c),d,aA (dw ((a,b,c),d,e,f,g,qj h r,i,j,k)),f,g,qj h r,jt (aO ((a,b,c),d,e,f,g,qj h r,i,j,k)) (aZ (RC d b r h,0,kK b r n,r,p,s),dw ((a,b,c),d,e,f,g,qj h r,i,j,k),kK b r n,r,p,s),j,k)=iO ((a,b,c),d,e,f,g,h,i,j,k) (l,m,n,o,p,q) (r,s))))))))):= by
  delta N O ap aq aH aM gT nh dh dC bN aK cU aT jR br zC am cQ bw kR bJ bo aA iD J qj yr kL av RC bP m9 nC DC Bv Cs iq wR aF
  rintro ns ls hs now ord dn sts cr fl dl en a b c e f g k o-⟨h1,h2,h3,h4,h5,h6,h7,h8⟩
  obtain⟨w,hw⟩:∃ w,w=((ns,ls,hs),now,ord,dn,sts,cr,fl,dl,en):=⟨_,rfl⟩
  obtain⟨x,hx⟩:∃ x,x=(a,b,c,e,f,g):=⟨_,rfl⟩
  have h8:pE (V ns) (fY w k):=by rw[hw];exact h8
  have h4:=h4
  have h5:V cr=V ls:=h5
  have h7:=h7
  obtain⟨-,-,-,-,-,d1,d2,j1,j2,l1,l2⟩:=h8
  have eL:fY w k=T ls (M k) default:=by rw[hw];rfl
  have eC:qQ w k=T cr (M k) default:=by rw[hw];rfl
  have e1:ct0.wrap (nE (fY w k)+1)=nE (fY w k)+1:=aJ Y Y
  have e2:ct9.wrap (nE (fY w k)+1)=nE (fY w k)+1:=O1 Y Y
  refine⟨h6,h7,h6,Y,h6,Y,h6,Y,aD,ay (λhl=>?_) (λhl=>⟨aD,?_,?_⟩)⟩
  .have hl:=aX hl
   have ec:iO w x (k,o)=sI (AF w ((iZ w).set (M k) (ct0.wrap (qQ w k+1)))) x k 3:=by
    unfold iO
    exact ao (by rw[eL,eC];exact hl)
   rw[← hw,← hx,ec,hw,hx]
   exact⟨h4,rfl⟩
  .show XL (ct0.wrap (nE (T ls (M k) cs5)+1))≠0
   unfold XL
   rw[← eL,e1,e2];omega
  have hl:=bg hl
  have hm:=Vh (bits .xor .u64 (pL (ct1 .u64 (A8 (fY w k)))) (ct1 .u64 (qQ w k)))
  have eq:ct9.wrap (cB9 (yZ (fY w k) (qQ w k)) 65536)=cB9 (yZ (fY w k) (qQ w k)) 65536:=by
   unfold yZ
   rw[FJ hm.1]
   exact O1 Y Y
  have eo:rM w k=ct0.wrap (ct0.wrap (now+(T ls (M k) cs5).2.2.1)+ct0.wrap (cx2 (ct9.wrap (cB9 (yZ (T ls (M k) cs5) (T cr (M k) cs5)) 65536)) (ct9.wrap (ct0.wrap ((T ls (M k) cs5).2.2.2.1+1))))):=by
   unfold rM HX
   rw[← eL,← eC,eq,hw]
   rfl
  have fin:∀ over,rM w k=over→∀ b,b=cs7 (1125899906842624<over)->au (bif b then cs8 else cs7 (4096<=(V fl:Int))) ((V (d9 (AF w (cr.set (M k) (ct0.wrap (T cr (M k) cs5+1))))):Int)<=1000000000000/\sI (AF w (cr.set (M k) (ct0.wrap (T cr (M k) cs5+1)))) x k 7=iO w x (k,o))
    (fl.Pairwise je/\(∀ z∈fl,qU z<ord)/\V fl<=4096/\EV (AF w (cr.set (M k) (ct0.wrap (T cr (M k) cs5+1)))) (over,0,kK ls k c,k,f,o)=iO w x (k,o)):=by
   rintro over rfl b rfl
   have e0:iO w x (k,o)=if 1125899906842624<rM w k∨(4096:Int)<=V (aO w) then sI (AF w ((iZ w).set (M k) (ct0.wrap (qQ w k+1)))) x k 7 else EV (AF w ((iZ w).set (M k) (ct0.wrap (qQ w k+1)))) (rM w k,0,kK (aN w).2.1 k (ci x),k,rG x,o):=by
    unfold iO
    exact I (by rw[eL,eC];exact hl)
   have em:aO w=fl:=by rw[hw];rfl
   refine rI (λho=>?_) (λq1 q2=>?_)
   .refine⟨by rw[hw];exact h4,?_⟩
    rw[e0,ao (by rw[em];obtain q|q:=ho;exact .inl (aX q);exact .inr (aX q)),hw]
    rfl
   .refine⟨h1,h2,h3,?_⟩
    rw[e0,I (by rw[em];rintro (q|q);exact absurd q (bg q1);exact absurd q (bg q2)),hw,hx]
    rfl
  rw[hx,hw] at fin
  intro b hb
  have:=fin _ (hw▸eo) b hb
  (repeat refine⟨(by first|(simp;done)|(rw[hb];simp;done)|(rw[hb];simp;omega)),?_⟩)
  exact this
def cp6:aB 138 bV9.spec:=aG Tryz.func138 (C (C (C (C aC ao9) XN) bs4) Zf) aS bS3
def X2:Ct:=⟨[.box 39 EP],[],λd=>[CX d.1,aO d.1≠[]],λd=>((),(fi d.1,()))⟩
def bq0:bG X2.ps->bL:=(λd=>{cuts:=(bz 8 (λS=>{ι:=aP,inv:=λi=>i=rf d.1,keep:=[0,2,4,5],slots:=λi=>[],keepN:=[48,80],names:=λi=>[(1048576,.live (.cells 39 (cS mM (aN i)++[.int .i64 (cu i),.int .i64 (dw i),.int .i64 (eI i),.own 524288 6,.own 524289 1,.own 524290 6,.own 524291 3,.own 524292 5]))),(524288,.live (.row 164 u9 (dD i))),(524289,.live (.row 3 cI (iZ i))),(524290,.live (.row 185 qA (aO i))),(524291,.live (.row 178 DS (bO i))),(524292,.live (.row 248 Ea (d9 i)))]}) (bz 10 (λS=>{ι:=aP,inv:=λi=>i=lw d.1,keep:=[0,2,4],slots:=λi=>[],keepN:=[48,80],names:=λi=>[(1048576,.live (.cells 39 (cS mM (aN i)++[.int .i64 (cu i),.int .i64 (dw i),.int .i64 (eI i),.own 524288 6,.own 524289 1,.own 524290 6,.own 524291 3,.own 524292 5]))),(524288,.live (.row 164 u9 (dD i))),(524289,.live (.row 3 cI (iZ i))),(524290,.live (.row 185 qA (aO i))),(524291,.live (.row 178 DS (bO i))),(524292,.live (.row 248 Ea (d9 i)))]}) cm))})
def qH(a:List Flight):=(N a 0).2.2.1
def AO(a:List Flight):=(N a 0).2.2.2.2.2
def QB(a:List Flight)(b:Int)(c d:Prop):=bh (N a 0).1 (N a 0).2.1 (qH a) ((N a 0).2.2.2.1=(N a 0).2.2.2.1) ((N a 0).2.2.2.2.1=(N a 0).2.2.2.2.1/\AO a=AO a/\b=b/\c/\d)
def lU(a:aP):=(aN a,a.2)
def X5(a b:aP)(c d:Int)(e f:Prop):=(aN a).1=(aN b).1/\(aN a).2.1=(aN b).2.1/\(aN a).2.2=(aN b).2.2/\cu a=cu b/\dw a=dw b/\c=d/\e/\f
def QR(a:Int)(b:List Flight)(c:Int)(d e:Prop):=bh a (N b 0).1 (N b 0).2.1 (qH b=qH b) (bp (N b 0).2.2.2.1 (N b 0).2.2.2.2.1 (AO b=AO b) (c=c/\d/\e))
def Mt(a:List ar)(b:List Flight)(c:List NState):=gX (N a (qH b)) (N c (qH b)) (N b 0).2.2.2.1 (N b 0).1 (AO b)
def PE(a b:aP)(c d:List Go.RS.Del)(e:Prop):=X5 a b (eI a) (eI b) (dD a=dD b) (iZ a=iZ b/\aO a=aO b/\c=d/\J e)
def bZ0:
 ∀(a:List ar)(b:List bu)(c:List cJ)(d e f:Int)(g:List NState)(h:Z)(i:List Flight)(j:List cO)(k:List lZ),J (gT a b c/\aq d/\zC e f g h i j k)->CX ((a,b,c),d,e,f,g,h,i,j,k)/\(aO ((a,b,c),d,e,f,g,h,i,j,k)=[]->False)->am 0 (0<O i) (bo 1 (O i) (Ae ((a,b,c),(N i 0).1,e,f,g,h,drop 1 i,j,k)) (∀(l:List ar)(m:List bu)(n:List cJ)(o p q:Int)(r:List NState)(s:Z)(t:List Flight)(u:List cO)(v:List lZ),((l,m,n),o,p,q,r,s,t,u,v)=dA ((a,b,c),(N i 0).1,e,f,g,h,drop 1 i,j,k)->am (qH i) (qH i<O l) (bP (qH i) (O r) (dY (cR (N r (qH i)))) (okL (cR (N r (qH i)))/\bV (oh (N r (qH i)))/\bV (AO i)/\ ∀(w:List cF)(x:Int)(y:Z)(z A B S:Int)(D:Z)(E:Int),(w,x,y,(z,A),B)=(Mt l i r).1/\(S,D)=(Mt l i r).2.1/\E=(Mt l i r).2.2->bP (qH i) (O r) (au
 (gO E) (bR ((V u+V [((N i 0).1,qH i,AO i)])*40)/\ ∃(F:aP),F=rf ((a,b,c),d,e,f,g,h,i,j,k)/\QR E i S (D=D) (l=(aN F).1/\m=(aN F).2.1/\n=(aN F).2.2/\o=cu F/\p=dw F/\q=eI F/\set r (M (qH i)) (w,x,y,(z,A),B)=dD F/\s=iZ F/\t=aO F/\u++[((N i 0).1,qH i,AO i)]=bO F/\J (v=d9 F))) (∃(F:aP),F=rf ((a,b,c),d,e,f,g,h,i,j,k)/\QR E i S (D=D) (l=(aN F).1/\m=(aN F).2.1/\n=(aN F).2.2/\o=cu F/\p=dw F/\q=eI F/\set r (M (qH i)) (w,x,y,(z,A),B)=dD F/\s=iZ F/\t=aO F/\u=bO F/\J (v=d9 F)))) (∀(F:aP),F=rf ((a,b,c),d,e,f,g,h,i,j,k)->au ( !aY E) (m9 (O (d9 (lU F)))/\ ∃(G:aP),G=lw ((a,b,c),d,e,f,g,h,i,j,k)/\QB i S (D=D) (PE F G (bO F) (bO G) (d9 (lU F)++[(rG (N i 0),aZ (N i 0),ci (N i 0),(N i 0).2.2.2.1,E)]=d9 G))) (∃(G:aP),G=lw
 ((a,b,c),d,e,f,g,h,i,j,k)/\QB i S (D=D) (PE F G (bO F) (bO G) (d9 F=d9 G)))/\ ∀(G:aP),G=lw ((a,b,c),d,e,f,g,h,i,j,k)->au (av 0 (O D)) (cy1 je (aO (lU G))/\DC (lU G)/\V (aO (lU G))<=4096/\m9 (O (d9 (lU G)))/\V (iZ (lU G))=V (aN G).2.1/\bP S (O (aN G).2.1) (pE (V (aN G).1) (fY (lU G) S)) (iO (lU G) (N i 0) (S,D)=fi ((a,b,c),d,e,f,g,h,i,j,k))) ((aN G,cu G,dw G,eI G,dD G,iZ G,aO G,bO G,d9 G)=fi ((a,b,c),d,e,f,g,h,i,j,k))))))):= by
  delta N O aq aH aM gT nh dh dC bh cU aT bp jR zC am bR kR bJ aY bV bo iD J yr qH AO kL QB av bP lU X5 QR m9 nC DC Mt Bv Cs iq gO aF PE
  rintro ns ls hs now ord dn sts cr fl dl en-⟨h,hne⟩
  obtain⟨f,r,rfl⟩:∃ f r,fl=f::r:=List.exists_cons_of_ne_nil hne
  obtain⟨w,hw⟩:∃ w,w=((ns,ls,hs),now,ord,dn,sts,cr,f::r,dl,en):=⟨_,rfl⟩
  have e0:T (f::r) (M 0) cs5=f:=rfl
  have e1:drop 1 (f::r)=r:=rfl
  simp only[e0,e1]
  rw[← hw] at h ⊢
  have A:=h.at (w:=w) (f:=f) (r:=r) (by rw[hw];rfl)
  have ew:cV (gN w (aO w).tail) (aZ (mo w))=((ns,ls,hs),f.1,ord,dn,sts,cr,r,dl,en):=by rw[A.eF,hw];rfl
  refine⟨Y,by simp only[fa];omega,Y,by simp only[fa];omega,by rw[← ew];exact .inl A.h0.weak,?_⟩
  rw[← ew]
  intro a1 a2 a3 a4 a5 a6 a7 a8 a9 a10 a11 hv
  have hv:((a1,a2,a3),a4,a5,a6,a7,a8,a9,a10,a11)=gQ w:=hv
  have hi:M (ci f)<(aN (gQ w)).1.length:=by have:=A.fk.nd;omega
  have hnd:=A.fk.nd
  have hlen:=A.s.len
  obtain⟨st,-⟩:=A.s.st _ hi
  have H:=Cb A.s.net hi
  have hps:=st.ps
  have hn32:=H.n32
  have hdl:=h.d
  have hen:=h.e
  have E1:a1=(aN (gQ w)).1:=by rw[← hv];rfl
  have E7:a7=dD (gQ w):=by rw[← hv];rfl
  have E10:a10=bO w:=by rw[← A.dl,← hv];rfl
  have E11:a11=d9 w:=by rw[← A.en,← hv];rfl
  have E9:a9=aO (gQ w):=by rw[← hv];rfl
  have eH:nK w=gX (T a1 (M (ci f)) cs5) (T a7 (M (ci f)) cs5) (jU f) (aZ f) (iH f):=by unfold nK cj;rw[A.eF,E1,E7]
  have hfd:=A.fk.d
  refine⟨hnd.1,by rw[E1];exact hnd.2,hnd.1,by rw[E7,hlen];exact hnd.2,by rw[E7];exact st.srt,by rw[E7];exact st.okl,by rw[E7];show (V (oh (T (dD (gQ w)) (M (ci f)) cs5)):Int)<=1000000;omega,by show (V (iH f):Int)<=1000000;omega,?_⟩
  intro b1 b2 b3 b4 b5 b6 o1 o2 why hh
  have ⟨hh1,hh2,hh3⟩:=hh
  have hh1:(b1,b2,b3,(b4,b5),b6)=(nK w).1:=by rw[eH];exact hh1
  have hh2:(o1,o2)=(nK w).2.1:=by rw[eH];exact hh2
  have hh3:why=(nK w).2.2:=by rw[eH];exact hh3
  have eA:DF w=((a1,a2,a3),a4,a5,a6,a7.set (M (ci f)) (b1,b2,b3,(b4,b5),b6),a8,a9,a10,a11):=by unfold DF;rw[A.eF,hh1,← hv];rfl
  refine⟨hnd.1,by rw[E7,hlen];exact hnd.2,?_⟩
  have lenD:(V (bO w):Int)<=999999999000:=Y
  have lenE:(V (d9 w):Int)<=999999999000:=Y
  refine⟨bT (λk=>?_) (λk=>?_),?_⟩
  .have k:=k
   have eB:rf w=((a1,a2,a3),a4,a5,a6,a7.set (M (ci f)) (b1,b2,b3,(b4,b5),b6),a8,a9,a10++[(aZ f,ci f,iH f)],a11):=by
    rw[Cw,ao (hh3▸k),eA,A.eF,← hv];rfl
   exact⟨by rw[E10];simp only[fq];omega,_,eB.symm,aI⟩
  .have k:=k
   have eB:rf w=((a1,a2,a3),a4,a5,a6,a7.set (M (ci f)) (b1,b2,b3,(b4,b5),b6),a8,a9,a10,a11):=by
    rw[Cw,I (hh3▸k),eA,← hv];rfl
   exact⟨_,eB.symm,aI⟩
  rintro B rfl
  have eBn:d9 (rf w)=d9 w:=by rw[Cw];show d9 (DF w)=_;rw[eA];exact E11
  refine⟨ay (λk=>?_) (λk=>?_),?_⟩
  .have k:=lz k
   refine⟨by show (V (d9 (rf w)):Int)<=_;rw[eBn];omega,lw w,rfl,?_⟩
   have eC:lw w=QJ (rf w) (d9 (rf w)++[(rG f,aZ f,ci f,jU f,why)]):=by rw[GA,ao (hh3▸k),A.eF,← hh3,eBn,← A.en]
   rw[eC]
   exact aI
  .have k:=lq k
   refine⟨lw w,rfl,?_⟩
   have eC:lw w=rf w:=by unfold lw;rw[I (by rw[← hh3,k];simp)]
   rw[eC]
   exact aI
  rintro S rfl
  have eCe:∃ l,d9 (lw w)=l/\(V l:Int)<=1000000000000:=by
   refine⟨_,rfl,?_⟩
   rw[GA]
   show (V (if (nK w).2.2≠0 then d9 (gQ w)++[(rG (mo w),aZ (mo w),ci (mo w),jU (mo w),(nK w).2.2)] else d9 (gQ w)):Int)<=_
   rw[A.en]
   split
   .rw[cw,fq];omega
   .omega
  have ⟨l,el,hl⟩:=eCe
  have c1:aN (lw w)=aN w:=by rw[GA,Cw];exact A.net
  have c2:aO (lw w)=aO (gQ w):=by rw[GA,Cw];rfl
  have c3:dw (lw w)=dw (gQ w):=by rw[GA,Cw];rfl
  have c4:iZ (lw w)=iZ (gQ w):=by rw[GA,Cw];rfl
  have hO:=hh2.symm
  refine bT (λk=>?_) (λk=>?_)
  .have k:=k
   have ⟨k1,k2,k3⟩:=A.out (by rw[hO];show 0<V o2;omega)
   rw[hO] at k1 k2 k3
   refine⟨by show (aO (lw w)).Pairwise je;rw[c2];exact A.s.fl,?_,by show V (aO (lw w))<=4096;rw[c2];exact A.s.fn,by show (V (d9 (lw w)):Int)<=_;rw[el];exact hl,by show V (iZ (lw w))=(aN (lw w)).2.1.length;rw[c4,c1,← A.net];exact A.s.cl,k1,by rw[c1];exact k2,by show pE (aN (lw w)).1.length ((aN (lw w)).2.1.getD (M o1) cs5);rw[c1];exact k3,?_⟩
   .show ∀ x∈aO (lw w),qU x<dw (lw w)
    rw[c2,c3]
    exact λx hx=>(A.s.fo x hx).o.2
   .rw[ad1,hO,ao (by show 0<V o2;omega),A.eF]
    rfl
  .have k:=k
   rw[ad1,hO,I (by show ¬ 0<V o2;omega)]
   rfl
def cc7:aB 67 X2.spec:=aG Tryz.func67 (JW (C (C (C (C aC (Ct.named ab3)) (Ct.named bg8)) XN) cp6) (d:=17)) bq0 bZ0
def Gq(n:Net):aP:=if jA n=0 then Cy n else Kp
def wJ(w:aP):Int:=if aO w=[] then 0 else aZ ((aO w).headD cs5)
def vL(w:aP):Bool:=cs7 (aO w≠[])
def o7(w:aP)(at' who:Int):Int:=if who<0∨((aN w).1.length:Int)<=who then 8 else if 1125899906842624<at' then 1 else if at'<cu w then 6 else if (4096:Int)<=V (aO w) then 5 else 0
def vw(w:aP)(at' who:Int)(b:Z):aP:=if o7 w at' who=0 then wx w at' who b else Kp
def vv(w:aP)(at' who:Int):Int:=if o7 w at' who=0 then dw w else 0
def ru(w:aP)(to:Int):Int:=if 1125899906842624<to then 1 else if to<cu w then 6 else 0
def z6(w:aP)(to:Int):aP:=if ru w to=0 then pM w to else Kp
def ae1:Ct:=⟨[.agg mM],[.agg tc,.val cI],λd=>[xi d.1],λd=>((Gq d.1,jA d.1,()),())⟩
def bK4:bG ae1.ps->bL:=(λd=>{loops:=(bz 6 (λS=>{ι:=Int×(List NState),qn:=fE,μ:=λi=>M (V d.1.1-i.1),inv:=λi=>0<=i.1/\i.1<=V d.1.1/\i.2=(d.1.1.take (M i.1)).map vj,keep:=[1,2,5,22,23],slots:=λi=>[(24,.int .i64 i.1)],keepN:=[32,48,320],names:=λi=>[(96,.live (.cells 39 (cS mM d.1++[.int .i64 0,.int .i64 0,.int .i64 0,.own 524288 6,.own 320 1,.nilsl,.nilsl,.nilsl]))),(524288,.live (.row 164 u9 i.2))]}) cm)})
def vE:=((([]:List ar),([]:List bu),([]:List cJ)),(0:Int),(0:Int),(0:Int),([]:List NState),([]:Z),([]:List Flight),([]:List cO),([]:List lZ))
def S7(a:List ar)(b:Int):=[(ce (N a b),(0:Int),replicate (V (aV (N a b))) (0:Int),Kb (N a b))]
def JQ(a:Int)(b:List ar)(c:List NState):=am a (a<=O b) (c=cA6 vj (take (M a) b))
def as1:
 ∀(a:List ar)(b:List bu)(c:List cJ),J (gT a b c)->Lz a b c->DY c/\au ( !aY (jA (a,b,c))) (vE=Gq (a,b,c)/\jA (a,b,c)=jA (a,b,c)) (xi (a,b,c)/\bo (O b) (O b) (tJ ((↑((8:Nat)):Int)*O b)) ((∃(d:Int) (e:List NState),JQ d a e/\a=a/\qz a/\0=d/\iz a b (c=c) (bh 0 0 0 (replicate (M (O b)) (0:Int)=replicate (M (O b)) (0:Int)) (iz a b (c=c) (bh 0 0 0 (e=[]) True))))/\ ∀(d:Int)(e:List NState),JQ d a e->eh d (O a) (d<O a) (okL (ce (N a d))/\pm (O (aV (N a d))) (bR ((V e+V (S7 a d))*80)) (∃(f:Int) (g:List NState),JQ f a g/\bi (O a) f d/\a=a/\qz a/\aA d=f/\iz a b (c=c) (bh 0 0 0 (replicate (M (O b)) (0:Int)=replicate (M (O b)) (0:Int)) (iz a b (c=c) (bh 0 0 0 (e++S7 a d=g) True)))))
 (((a,b,c),0,0,0,e,replicate (M (O b)) 0,[],[],[])=Gq (a,b,c)) (0=jA (a,b,c)))):= by
  delta N O ap aq aH gT nh dh dC bh cU aT bp jR aR bi bZ am bR vE bJ aY bo eh aA J iz kL av S7 Lz nC DY pm aF tJ Kb JQ qz
  rintro ns ls hs ⟨⟨⟨hl0,-⟩,⟨hl1,-⟩,-⟩,-⟩⟨h1,h2,h3,h4,h5⟩
  have h1:=h1
  have h2:=h2
  refine⟨h5,ay (λh=>?_) (λh=>?_)⟩
  .have h:=lz h
   exact⟨by unfold Gq;rw[I h];rfl,by trivial⟩
  have h:=lq h
  refine⟨⟨h1,h2,h3,h4,h5⟩,Y,Y,Y,⟨0,[],⟨Y,Y,rfl⟩,aI⟩,?_⟩
  rintro j st ⟨j0,j1,rfl⟩
  refine bT (λhj=>?_) (λhj=>?_)
  .have hx:=h4 _ (cW j0 hj)
   refine⟨j0,hj,hx.2,hx.1,by simp only[nT,fF,fq];omega,j+1,_,⟨Y,Y,rfl⟩,Y,?_⟩
   (repeat refine g9 ?_)
   refine⟨?_,aQ⟩
   rw[nq j0 hj,kV]
   rfl
  .refine⟨?_,h.symm⟩
   unfold Gq Cy
   rw[ao h,gE Y]
   rfl
def bl0:aB 28 ae1.spec:=aG Tryz.func28 (C (C (C aC bM4) U5) ch5) bK4 as1
def aK7:Ct:=⟨[.agg tc],[.val cI,.val .bool],λ_=>[],λd=>((wJ d.1,vL d.1,()),())⟩
def b95:
 ∀(a:ag3),dN (CT.wf tc a) (au (aY (t8 a)) (0=wJ a/\ct2=vL a) (bP 0 (t8 a) ((N a.2.2.2.2.2.2.1 0).1=wJ a) (cs8=vL a))):= by
  delta N O am aY J bP dN t8
  intro d _ _
  have eF:d.2.2.2.2.2.2.1=aO d:=rfl
  rw[eF]
  unfold wJ vL
  cases e:aO d with
  | nil=>exact⟨rfl,rfl⟩
  | cons f r=>exact⟨Y,by simp only[fa];omega,rfl,rfl⟩
def bh3:aB 66 aK7.spec:=aG Tryz.func66 aC aS b95
def bv9:Ct:=⟨[.agg tc,.val cI,.val cI,.val (.sl bc)],[.agg tc,.val cI,.val cI],λd=>[s9 d.1,(V d.2.2.2.1:Int)<=1000000],λd=>((vw d.1 d.2.1 d.2.2.1 d.2.2.2.1,vv d.1 d.2.1 d.2.2.1,o7 d.1 d.2.1 d.2.2.1,()),())⟩
def a93:
 ∀(a:ag3)(b c:Int)(d:Z),CT.wf tc a/\bJ b c (aM d) True->s9 a/\bV d->FW (da c) (cs7 (O a.1.1<=c)) (vE=vw a b c d/\0=vv a b c/\8=o7 a b c) (au (wR b) (vE=vw a b c d/\0=vv a b c/\1=o7 a b c) (au (av b a.2.1) (vE=vw a b c d/\0=vv a b c/\6=o7 a b c) (au (cs7 (4096<=t8 a)) (vE=vw a b c d/\0=vv a b c/\5=o7 a b c) (E8 a/\aR d/\cy1 je (aO a)/\(∀(e:Flight),e∈aO a->qU e<dw a)/\V (aO a)<=4096/\(a.1,a.2.1,aA (dw
 a),a.2.2.2.1,a.2.2.2.2.1,a.2.2.2.2.2.1,jt (aO a) (aZ (b,0,c,(-1),a.2.2.1,d),dw a,c,(-1),a.2.2.1,d),a.2.2.2.2.2.2.2)=vw a b c d/\a.2.2.1=vv a b c/\0=o7 a b c)))):= by
  delta O ap aq aH aM bN aK aR br cQ bw vE bJ gv bV aA J dE da av t8 FW wR aF
  rintro d t who b-⟨hE,hb⟩
  (repeat (refine cG ?_;repeat refine cH ?_))
  refine rI (λho=>?_) (λq1 q2=>?_)
  .have e:o7 d t who=8:=by unfold o7;rw[ao (by obtain q|q:=ho;exact .inl (aX q);exact .inr (aX q))]
   unfold vw vv
   rw[e]
   exact⟨rfl,rfl,rfl⟩
  have q1:=bg q1
  have q2:=bg q2
  have h:=hE.resolve_right λq=>by
   have q3:d.1.1=[]:=by rw[q.1];rfl
   rw[q3] at q2;simp at q2;omega
  have hfn:=h.s.fn
  have e1:o7 d t who=if 1125899906842624<t then 1 else if t<cu d then 6 else if (4096:Int)<=V (aO d) then 5 else 0:=by
   unfold o7;rw[I (by rintro (q|q);exact q1 q;exact q2 q)]
  refine ay (λk=>?_) (λk=>?_)
  .have e:o7 d t who=1:=by rw[e1,ao (aX k)]
   unfold vw vv
   rw[e]
   exact⟨rfl,rfl,rfl⟩
  rw[I (bg k)] at e1
  refine ay (λk=>?_) (λk=>?_)
  .have k:t<cu d:=aX k
   have e:o7 d t who=6:=by rw[e1,ao k]
   unfold vw vv
   rw[e]
   exact⟨rfl,rfl,rfl⟩
  have k:¬ t<cu d:=bg k
  rw[I k] at e1
  refine ay (λk=>?_) (λk=>?_)
  .have k:(4096:Int)<=V (aO d):=aX k
   have e:o7 d t who=5:=by rw[e1,ao k]
   unfold vw vv
   rw[e]
   exact⟨rfl,rfl,rfl⟩
  have k:¬ (4096:Int)<=V (aO d):=bg k
  rw[I k] at e1
  unfold vw vv
  rw[e1]
  exact⟨h.cp,Y,h.s.fl,λx hx=>(h.s.fo x hx).o.2,hfn,rfl,rfl,rfl⟩
def aD7:aB 35 bv9.spec:=aG Tryz.func35 (C (C (C aC ac0) po) Zf) aS a93
def Yl:Ct:=⟨[.agg tc,.val cI],[.agg tc,.val cI],λd=>[s9 d.1],λd=>((z6 d.1 d.2.1,ru d.1 d.2.1,()),())⟩
def aY2:bG Yl.ps->bL:=(λd=>{loops:=(bz 7 (λS=>{ι:=aP×Int×Bool,qn:=ot,μ:=λi=>mv i.1,inv:=λi=>s9 i.1/\gc i.1 d.2.1=gc d.1 d.2.1/\i.2.1=wJ i.1/\i.2.2=vL i.1,keep:=[1,2,4],slots:=λi=>[(6,.int .i64 i.2.1),(7,.bool i.2.2)],keepN:=[80],names:=λi=>[(48,.live (.cells 39 (cS mM (aN i.1)++[.int .i64 (cu i.1),.int .i64 (dw i.1),.int .i64 (eI i.1),.own 524288 6,.own 524289 1,.own 524290 6,.own 524291 3,.own 524292 5]))),(524288,.live (.row 164 u9 (dD i.1))),(524289,.live (.row 3 cI (iZ i.1))),(524290,.live (.row 185 qA (aO i.1))),(524291,.live (.row 178 DS (bO i.1))),(524292,.live (.row 248 Ea (d9 i.1)))]}) cm)})
def b99:
 ∀(a:ag3)(b:Int),CT.wf tc a/\J (aq b)->CX a∨xS a->au (wR b) (vE=z6 a b/\1=ru a b) (au (av b a.2.1) (vE=z6 a b/\6=ru a b) (E8 a/\(∃(c:aP) (d:Int) (e:Bool),(s9 c/\gc c b=gc a b/\d=wJ c/\e=vL c)/\b=b/\wJ a=d/\vL a=e/\bh 0 0 0 (a.1.1=(aN c).1) (a.1.2.1=(aN c).2.1/\a.1.2.2=(aN c).2.2/\a.2.1=cu c/\a.2.2.1=dw c/\a.2.2.2.1=eI c/\a.2.2.2.2.1=dD c/\a.2.2.2.2.2.1=iZ c/\a.2.2.2.2.2.2.1=aO c/\a.2.2.2.2.2.2.2.1=bO c/\J (a.2.2.2.2.2.2.2.2=d9 c)))/\ ∀(c:aP)(d:Int)(e:Bool),s9
 c/\gc c b=gc a b/\d=wJ c/\e=vL c-> ∀(f:Bool),f=e->(f->dE f)/\(f->f)/\au (bq f (cs7 (d<=b))) (CX (lU c)/\aO (lU c)≠[]/\ ∃(g:aP) (h:Int) (i:Bool),(s9 g/\gc g b=gc a b/\h=wJ g/\i=vL g)/\mv g<mv c/\b=b/\wJ (fi (lU c))=h/\vL (fi (lU c))=i/\bh 0 0 0 ((fi (lU c)).1.1=(aN g).1) ((fi (lU c)).1.2.1=(aN g).2.1/\(fi (lU c)).1.2.2=(aN g).2.2/\(fi (lU c)).2.1=cu g/\(fi (lU c)).2.2.1=dw g/\(fi (lU c)).2.2.2.1=eI g/\(fi (lU c)).2.2.2.2.1=dD g/\(fi (lU c)).2.2.2.2.2.1=iZ g/\(fi (lU c)).2.2.2.2.2.2.1=aO g/\(fi (lU c)).2.2.2.2.2.2.2.1=bO g/\J ((fi (lU c)).2.2.2.2.2.2.2.2=d9 g))) (Ae (aN c,b,c.2.2)/\dA (aN c,b,c.2.2)=z6 a b/\0=ru a b))):= by
  delta aq aH aK bh bp bq vE J dE av lU wR
  rintro d to-h
  have h:s9 d:=h
  refine ay (λk=>?_) (λk=>?_)
  .have k:=aX k
   have e:ru d to=1:=by unfold ru;rw[ao k]
   unfold z6
   rw[e]
   exact⟨rfl,rfl⟩
  have k:=bg k
  refine ay (λq=>?_) (λq=>?_)
  .have q:to<cu d:=aX q
   have e:ru d to=6:=by unfold ru;rw[I k,ao q]
   unfold z6
   rw[e]
   exact⟨rfl,rfl⟩
  have q:¬ to<cu d:=bg q
  have e:ru d to=0:=by unfold ru;rw[I k,I q]
  have hnow:0<=cu d:=by obtain q|q:=h;exact q.s.now.1;exact q.2.1
  have hnq:cu d<=to:=Y
  refine⟨h.cp,⟨d,_,_,⟨h,rfl,rfl,rfl⟩,aI⟩,?_⟩
  rintro v t ok ⟨hv,he,rfl,rfl⟩
  have hv:=hv
  (repeat (refine cG ?_;repeat refine cH ?_))
  have eB:(bif vL v then cs7 (wJ v<=to) else ct2)=fO v to:=by
   unfold vL wJ fO
   cases aO v with
   | nil=>rfl
   | cons f r=>rfl
  rw[eB]
  refine ay (λhb=>?_) (λhb=>?_)
  .cases ef:aO v with
   | nil=>unfold fO at hb;rw[ef] at hb;cases hb
   | cons f r =>
    have hv:=hv.fl (by rw[ef];simp)
    have ⟨s1,s2⟩:=hv.step ef
    exact⟨hv,by show aO v≠[];rw[ef];simp,fi v,_,_,⟨.inl s1,(Ty hv.s.weak hb).symm.trans he,rfl,rfl⟩,s2,aI⟩
  .have hR:gc d to=v:=by rw[← he];exact RU hb
   refine⟨by obtain q|q:=hv;exact .inl (q.s.wait hb ⟨Y,Y⟩).weak;exact q.ch to,?_,e.symm⟩
   unfold z6
   rw[ao e]
   show dA (cV v to)=dA (cV (gc d to) to)
   rw[hR]
def bd8:aB 32 Yl.spec:=aG Tryz.func32 (C (C (C (C aC ac0) bh3) cc7) ab3) aY2 b99
def aK5(k:Int)(x:ar):Prop:=(V x.1:Int)<=k/\V (ce x)<=k∧∀ r∈ce x,(V r.2.1:Int)<=k
def ao6(k:Int)(n:Net):Prop:=(V n.1:Int)<=k/\(V n.2.1:Int)<=k/\(V n.2.2:Int)<=k/\(∀ x∈n.1,aK5 k x)∧∀ c∈n.2.2,(V c.2.2.2.2.1:Int)<=k
variable{n:Net}
theorem DN.nb(h:DN n):ao6 1000 n:=by
 have n7:=h.n7
 have l10:=h.l10
 have h3:=h.h3
 refine⟨Y,Y,Y,λx hx=>?_,λc hc=>?_⟩
 .obtain⟨i,hi,rfl⟩:=cv8.1 hx;have e:T n.1 i cs5=n.1[i]:=by rw[cK,cT hi,jb]
  have p:=h.p i hi;have t:=h.t i hi;rw[e] at p t;have hl:=IB i 0 n.2.1;rw[← p] at hl;have hl:(n.1[i]).1.length<=2*V n.2.1:=hl;have h20:=aj6 t;exact⟨Y,Y,λr hr=>by have:=Qh (t.2 r hr);omega⟩
 .obtain k|⟨q,-,k⟩:=(h.c c hc).x
  .have k:c.2.2.2.2.1=[]:=k;rw[k];simp
  .have k:c.2.2.2.2.1=[q.2]:=k;rw[k];simp
theorem ap9{k}(h:ao6 k n)(hk:k<=1000000):xi n:=by
 have ⟨h1,h2,h3,h4,h5⟩:=h
 refine⟨Y,Y,Y,λx hx=>?_,λc hc=>?_⟩
 .have ⟨a,b,c⟩:=h4 x hx;exact⟨by show (V x.1:Int)<=1000000;omega,Y,λr hr=>by have:=c r hr;omega⟩
 .have:=h5 c hc;show (V c.2.2.2.2.1:Int)<=_;omega
variable{B:Int}
theorem fj.new(h:jA n=0)(ha:Fc n)(hc:xi n)(h0:0<=B)(h1:B<=549755813888):fj B (Cy n):=by
 have e:mv (Cy n)=0:=rfl
 exact⟨h1,by rw[e];exact (dW.new h).more Y,ha,hc,λx hx=>(by cases hx),by rw[e];show ((0:Nat):Int)+2*((0:Nat):Int)<=B;omega,by rw[e];show ((0:Nat):Int)+((0:Nat):Int)<=B;omega⟩
theorem av2{f:Flight}(hb:bytes (iH f)):va n f<=1114:=by
 have:=W2 hb
 unfold va
 have h1:(if g7 (T n.1 (M (ci f)) cs5)=cs8 then 1 else 0)<=1:=by split <;> omega
 have h2:(if jU f = -1 then 2 else 0)<=2:=by split <;> omega
 have h3:(if fV (iH f) then 600 else 0)<=600:=by split <;> omega
 omega
variable{at':Int}
theorem fj.send{w:aP}(h:fj B w)(hB:B+4000<=549755813888){who:Int}{b:Z}(he:o7 w at' who=0)(hb:bytes b)(hl:(V b:Int)<=2000) :
  fj (B+4000) (wx w at' who b)/\dw (wx w at' who b)=dw w+1/\aN (wx w at' who b)=aN w:=by
 unfold o7 at he
 split at he
 .cases he
 rename_i q1
 split at he
 .cases he
 rename_i q2
 split at he
 .cases he
 rename_i q3
 split at he
 .cases he
 rename_i q4
 have ⟨s1,s2⟩:=h.sB.send Y (at':=at') (who:=who) (b:=b) ⟨Y,Y⟩ ⟨Y,Y⟩ hb hl Y
 have hp:mv (wx w at' who b)=mv w+va (aN w) (at',dw w,who,-1,dw w,b):=ak5 _ _ _
 have hf:va (aN w) (at',dw w,who,-1,dw w,b)<=1114:=av2 hb
 have h1:=h.e
 have h2:=h.d
 exact⟨⟨hB,s1.more Y,h.a,h.c,h.dd,by show (V (d9 w):Int)+_<=_;omega,by show (V (bO w):Int)+_<=_;omega⟩,s2,rfl⟩
theorem DN.newOk(h:DN n)(hp:∀ i,i<V n.1->0<V (aV (T n.1 i cs5))):fj 4000 (Cy n):=fj.new (h.right hp) (λi hi=>a38 h hi) (ap9 h.nb aD) aD aD
variable{to:Int}
theorem fj.wait{v:aP}(h:fj B v)(hb:fO v to=ct2)(ha:0<=to/\to<=1125899906842624):fj B (cV v to):=⟨h.b,h.sB.wait hb ha,h.a,h.c,h.dd,h.e,h.d⟩
theorem fj.runs{w:aP}(h:fj B w)(ha:0<=to/\to<=1125899906842624):fj B (pM w to):=by
 obtain⟨k1,k2,-⟩:=h.run (to:=to) _ (dq _)
 exact (k1.wait k2 ha).change
theorem Zm{to}(h0:0<=to):∀{l:List Flight},(∀ f∈l,0<=aZ f)->gK to l<=V l*M (to+1)
 | [],_=>by simp[gK]
 | f::r,h=>by
  have h1:=h f dU;have h2:=Zm h0 (l:=r) λx hx=>h x (eZ _ hx);rw[we,fa,Nat.succ_mul];omega
structure Fg (a b:Int) (l:List Del):Prop where
 p:l.Pairwise λx y=>x.1<=y.1
 t:∀ x∈l,(a<=x.1/\x.1<=b)/\(V x.2.2:Int)<=2000
 b:∀ x∈l,bytes x.2.2
variable{b:Int}
theorem Fg.nil:Fg a b []:=⟨cx5,λx hx=>(by cases hx),λx hx=>(by cases hx)⟩
theorem fj.step_dl{w:aP}(h:fj B w){f:Flight}{r:List Flight}(e:aO w=f::r):cu (fi w)=aZ f/\cu w<=aZ f/\(bO (fi w)=bO w∨bO (fi w)=bO w++[(aZ f,ci f,iH f)])/\(V (iH f):Int)<=2000/\bytes (iH f)/\V (aO (fi w))<=V (aO w):=by
 have a:=h.at e
 have es:fi w=lC (gQ w) f:=by rw[← a.eF];rfl
 have hf:=h.s.fo f (by rw[e];exact dU)
 obtain⟨-,k2,k3⟩:=Y4 a.s.weak a.fk.wk
 refine⟨by rw[es];exact k2.trans a.now,hf.t.1,?_,hf.d,hf.b,?_⟩
 rotate_left
 .rw[es,e,fa];obtain q|⟨g,-,q⟩:=k3
  .rw[q,a.fl];exact Xh _
  .rw[q,G6,a.fl];exact dq _
 have k:=ZY (gQ w) f
 rw[es,← a.dl]
 exact k
theorem fj.run_dl{B to}:∀ n{w:aP},fj B w->mv w<=n→∃ l,bO (gc w to)=bO w++l/\Fg (cu w) to l/\V (aO (gc w to))<=V (aO w)
 | n,w,h,hn=>by
  cases hb:fO w to with
  | false=>rw[RU hb];exact⟨[],(js _).symm,.nil,dq _⟩
  | true =>
   rw[Ty h.s.weak hb];cases e:aO w with
   | nil=>unfold fO at hb;rw[e] at hb;cases hb
   | cons f r =>
    obtain⟨k1,k2⟩:=h.step e;have ⟨d1,d2,d3,d4,d5,d6⟩:=h.step_dl e;have hto:aZ f<=to:=by unfold fO at hb;rw[e] at hb;exact aX hb
    cases n with
    | zero=>omega
    | succ n =>
     have ⟨l,e1,ho,ho2⟩:=fj.run_dl (to:=to) n k1 Y;rw[← e];have ho2:=ub ho2 d6;rw[d1] at ho;have hl:∀ x∈l,(cu w<=x.1/\x.1<=to)/\(V x.2.2:Int)<=2000:=λx hx=>by have:=ho.t x hx;omega
     obtain q|q:=d3
     .exact⟨l,by rw[e1,q],⟨ho.p,hl,ho.b⟩,ho2⟩
     .refine⟨(aZ f,ci f,iH f)::l,by rw[e1,q,gI];rfl,⟨cu1.2 ⟨λx hx=>(ho.t x hx).1.1,ho.p⟩,λx hx=>?_,λx hx=>?_⟩,ho2⟩
      .obtain rfl|hx:=dm.1 hx
       .exact⟨⟨d2,hto⟩,d4⟩
       .exact hl x hx
      .obtain rfl|hx:=dm.1 hx
       .exact d5
       .exact ho.b x hx
theorem fj.runs_dl{w:aP}(h:fj B w):∃ l,bO (pM w to)=bO w++l/\Fg (cu w) to l/\V (aO (pM w to))<=V (aO w):=by
 have ⟨l,e,ho,ho2⟩:=h.run_dl (to:=to) _ (dq _)
 exact⟨l,((Cr _).2.2.2.1).trans e,ho,by rw[show aO (pM w to)=aO (gc w to) from (Cr _).2.1];exact ho2⟩
theorem bk4(w:aP)(to:Int):cu (pM w to)=to:=(Cr _).2.2.2.2.2
theorem fj.net{w:aP}(h:fj B w):aN (pM w to)=aN w:=(Cr _).1.trans (h.run (to:=to) _ (dq _)).2.2.1
theorem fj.two{w:aP}(h:fj B w)(h0:cu w<=a)(hab:a<=b)(hb:b<=1000000):pM (pM w a) b=pM w b:=by
 have hn:=h.s.now
 have hw:=Zm (to:=b) Y (l:=aO w) λf hf=>by have:=(h.s.fo f hf).t;omega
 have hf:=h.s.fn
 have hm:V (aO w)*M (b+1)<=4096*1000001:=Nat.mul_le_mul hf Y
 exact bN4 h.s Y hab Y Y
structure xM (n:Net):Prop where
 d:DN n
 p:∀ i:Nat,i<V n.1->0<V (aV (T n.1 i cs5))
theorem Ye(h:xM n):(jp n).2/16777216=10:=by
 have n3:=h.d.n3
 have hp:=h.p 0 Y
 unfold jp
 rw[I Y]
 show CE n.1 (rD n.1 (V n.1-1))/16777216=10
 have key:∀ k,k<V n.1->(0<=rD n.1 k/\rD n.1 k<V n.1)/\0<V (aV (T n.1 (M (rD n.1 k)) cs5)):=by
  intro k
  induction k with
  | zero=>intro _;exact⟨⟨fJ _,by show (0:Int)<_;omega⟩,hp⟩
  | succ k ih =>
   intro hk;unfold rD;split
   next q=>exact⟨⟨Int.natCast_nonneg _,Y⟩,q.2⟩
   .exact ih Y
 have ⟨⟨k0,k1⟩,kp⟩:=key (V n.1-1) Y
 have:=h.d.padr (i:=M (rD n.1 (V n.1-1))) Y (a:=CE n.1 (rD n.1 (V n.1-1))) (cv1.2 ⟨_,sC kp,rfl⟩)
 omega
variable{t:Int}
theorem Uf(h:xM n)(ht:1<=t/\t<=1073741824):pZ 0 0 (jp n).1 t=0:=by
 have n3:=h.d.n3
 have hp:=h.p 0 Y
 have e:(jp n).1=CE n.1 0:=by unfold jp;rw[I Y]
 have:=h.d.padr (i:=0) Y (a:=CE n.1 0) (cv1.2 ⟨_,sC hp,rfl⟩)
 unfold pZ
 rw[e,I (λk=>k ⟨⟨aD,aD⟩,aD,ht.1,ht.2⟩),I (λk=>k (J1 Y))]
theorem aL4(v:bS)(t:Int)(b:Z):(nF v t b).2.2.1=v.2.2.1:=by unfold nF;split <;> rfl
theorem bw3{w:aP}(h:cu w<=t)(ht:t<=1125899906842624):ru w t=0:=by unfold ru;rw[I Y,I Y]
variable{v:bS}{L:List dF}{m:Nat}{c d:Int}
theorem cd0(h:kZ v L m t)(hn:v.2.2.1<=1000):(∃ L' e,kZ (nL v t a b c d) L' e t)/\(nL v t a b c d).2.2.1<=1000:=by
 unfold nL
 split
 next h0=>obtain⟨e,v',-⟩:=h.expire (fJ _) h.now.2;refine⟨⟨_,_,v'.add⟩,?_⟩;show v.2.2.1+1<=1000;unfold oV at h0;omega
 .grind
theorem Wf(v:bS)(t a b c d:Int):bytes (uW v t a b c d)/\(V (uW v t a b c d):Int)<=2000:=by
 unfold uW
 split
 .exact⟨Wp _,by have:=cm9 (xJ v a b c d (AW v.2.1 v.2.2.1));omega⟩
 .exact⟨λx hx=>(by cases hx),aD⟩
structure Sj (a:oI):Prop where
 f:0<=a.1/\a.1<=4294967295
 k:1<=a.2.1/\a.2.1<=5
 n:(0<=a.2.2.1/\a.2.2.1<=255)/\(0<=a.2.2.2.1/\a.2.2.2.1<=255)/\(0<=a.2.2.2.2.1/\a.2.2.2.2.1<=65535)/\(0<=a.2.2.2.2.2/\a.2.2.2.2.2<=255)
variable{b:Z}
theorem SB(h:bytes b)(i:Nat):0<=T b i cs5/\T b i cs5<=255:=by
 by_cases hi:i<V b
 .exact IN h hi
 .rw[cK,xQ Y];exact⟨aD,aD⟩
theorem bv7(h:bytes b):0<=(ox b).1.2.2.2.2.2/\(ox b).1.2.2.2.2.2<=255:=by
 unfold ox
 split
 .exact SB h 8
 .exact⟨aD,aD⟩
theorem bp9(h:bytes b)(hp:(kF b).2.2=cs8):(1<=(kF b).2.1.2.1/\(kF b).2.1.2.1<=5)/\(0<=(kF b).2.1.2.2.1/\(kF b).2.1.2.2.1<=255)/\(0<=(kF b).2.1.2.2.2.2.2/\(kF b).2.1.2.2.2.2.2<=255):=by
 have hd:bytes (b.drop 20):=zL h
 have no:¬ EZ.2.2=true:=aD
 revert hp
 unfold kF
 split
 .unfold wT;split
  .intro _;show (1<=(2:Int)/\(2:Int)<=5)/\(0<=(0:Int)/\(0:Int)<=255)/\0<=(0:Int)/\(0:Int)<=255;decide
  .intro q;exact absurd q no
 split
 .unfold uC;split
  .rename_i hn;intro _;have e:nj (b.drop 20)=(T (b.drop 20) (M 0) cs5,T (b.drop 20) (M 1) cs5,(b.drop 20).drop 8):=by unfold nj;rw[ao hn]
   rw[e];refine⟨?_,SB hd _,bv7 (zL hd)⟩;show 1<=xN _ _/\xN _ _<=5;unfold xN
   (repeat' split) <;> decide
  .intro q;exact absurd q no
 split
 .unfold wW;split
  .intro _;show (1<=(4:Int)/\(4:Int)<=5)/\(0<=(0:Int)/\(0:Int)<=255)/\0<=(0:Int)/\(0:Int)<=255;decide
  .intro q;exact absurd q no
 .intro q;exact absurd q no
theorem as4(h:bytes b)(e:rH b=0):Sj (gu b).2:=by
 have hg:=cK5 λk=>by unfold rH at e;rw[I k] at e;cases e
 have ⟨p1,p2,p3⟩:=bp9 h hg.2.1
 unfold gu
 rw[ao hg]
 exact⟨AX h 12,p1,p2,SB h 8,tu h 4,p3⟩
structure HM (x:dF):Prop where
 d:0<=x.1.2.1/\x.1.2.1<=4294967295
 p:x.1.2.2.1=1∨x.1.2.2.1=6∨x.1.2.2.1=17
 f:0<=x.1.2.2.2.1/\x.1.2.2.2.1<=1023
 l:1<=x.1.2.2.2.2.2/\x.1.2.2.2.2.2<=255
 a0:x.2.2.2.1=ct2->x.2.2.2.2.1=ct2/\x.2.2.2.2.2.2=Bh
 a1:x.2.2.2.1=cs8->Sj x.2.2.2.2.2.2
theorem HM.upd{x:dF}(h:HM x){a:oI}(ha:Sj a):HM (nS at' a x):=by
 unfold nS
 split
 .exact⟨h.d,h.p,h.f,h.l,λq=>(by cases q),λ_=>ha⟩
 next h1=>
  have h1:x.2.2.2.1=true:=by cases q:x.2.2.2.1 with|true=>rfl|false=>exact absurd q h1
  split
  .exact⟨h.d,h.p,h.f,h.l,λq=>(by rw[h1] at q;cases q),λ_=>h.a1 h1⟩
  .exact h
structure rS (v:bS):Prop where
 w:∀ x∈vW v,HM x
 r:∀ r∈vR v,oa r
 i:v.1=0/\v.2.1=0
theorem ZT(h:kZ v L m t)(k:rS v)(hn:v.2.2.1<=1000){x:dF}(hx:x∈vW v):oa (nY v x):=by
 have hp:=k.w x hx
 have hL:x∈L:=by rw[h.w] at hx;exact zo hx
 obtain⟨i,hi,rfl⟩:=cv8.1 hL
 have num:=h.num i hi
 have hat:=h.at0 _ (cv2 hi)
 have hbk:=h.back _ (cv2 hi)
 have hnx:=h.next
 have htt:1<=v.2.2.2.2.1/\v.2.2.2.2.1<=1073741824:=h.t
 have hnw:=h.now
 have ⟨i0,i1⟩:=k.i
 generalize L[i]=x at *
 have hat:0<=x.2.2.1/\x.2.2.1<=t:=hat
 have hb:x.2.2.1<=(if x.2.2.2.1=cs8 then x.2.2.2.2.2.1 else ct0.wrap (x.2.2.1+v.2.2.2.2.1))/\(if x.2.2.2.1=cs8 then x.2.2.2.2.2.1 else ct0.wrap (x.2.2.1+v.2.2.2.2.1))<=2251799813685248:=by
  split
  next q=>have q:x.2.2.1<=x.2.2.2.2.2.1/\x.2.2.2.2.2.1<x.2.2.1+v.2.2.2.2.1:=hbk q;omega
  .rw[aJ Y Y];omega
 have af:0<=x.2.2.2.2.2.2.1/\x.2.2.2.2.2.2.1<=4294967295:=by
  cases e:x.2.2.2.1 with
  | true=>exact (hp.a1 e).f
  | false=>rw[(hp.a0 e).2];exact⟨aD,aD⟩
 refine⟨⟨by show 0<=v.1;omega,by show v.1<=15;omega⟩,⟨by show 0<=v.2.1;omega,by show v.2.1<=63;omega⟩,⟨by show 0<=x.2.1;omega,by show x.2.1<=999;omega⟩,⟨hat.1,hb.1,hb.2⟩,hp.d,hp.p,hp.f,hp.l,hp.a0,af,λq=>(hp.a1 q).k,?_⟩
 cases e:x.2.2.2.1 with
 | true=>exact (hp.a1 e).n
 | false =>
  have q:=(hp.a0 e).2;show (0<=x.2.2.2.2.2.2.2.2.1/\_)/\_;rw[show jj (nY v x)=x.2.2.2.2.2.2 from rfl,q];decide
variable{a:Int}
theorem rS.expire(h:kZ v L m t)(k:rS v)(hn:v.2.2.1<=1000):rS (i9 v a):=by
 refine⟨λx hx=>k.w x (cx9.1 hx).1,λr hr=>?_,k.i⟩
 have hr:=hr
 obtain hr|hr:=dX.1 hr
 .exact k.r r hr
 .obtain⟨x,hx,rfl⟩:=cv1.1 hr;exact ZT h k hn (cx9.1 hx).1
theorem rS.recv(h:kZ v L m t)(k:rS v)(hn:v.2.2.1<=1000)(hb:bytes b):rS (nF v a b):=by
 have e:=k.expire h hn (a:=a)
 unfold nF
 split
 next h0=>
  have hr:rH b=0:=by unfold qX at h0;split at h0;cases h0;rename_i q;exact cK5 λk=>q (.inl k)
  refine⟨λx hx=>?_,e.r,e.i⟩;obtain hx|rfl:=AL hx
  .exact e.w x hx
  .refine HM.upd ?_ (as4 hb hr);by_cases hi:zY (i9 v a) (gu b).1<V (vW (i9 v a))
   .rw[cK,cT hi];exact e.w _ (cv2 hi)
   .exfalso;unfold qX at h0;rw[I hi] at h0;split at h0 <;> cases h0
 .exact e
theorem rS.probe{p f l}(h:kZ v L m t)(k:rS v)(hn:v.2.2.1<=1000)(hd:0<=d/\d<=4294967295):rS (nL v a d p f l):=by
 unfold nL
 split
 next h0=>
  have e:=k.expire h hn (a:=a);have hp:dJ (xJ v d p f l 0)=0:=by
   unfold oV at h0;split at h0
   next q=>exact absurd h0 q
   next q=>exact cz8.1 q
  have hq:rU p/\kJ (xJ v d p f l 0):=by
   unfold dJ at hp;split at hp
   .cases hp
   .rename_i q;split at hp
    .cases hp
    next q2=>exact⟨cz8.1 q,cz8.1 q2⟩
  refine⟨λx hx=>?_,e.r,e.i⟩;obtain hx|hx:=dX.1 hx
  .exact e.w x hx
  .rw[iV.1 hx];exact⟨hd,hq.1,hq.2.1,hq.2.2.2,λ_=>⟨rfl,rfl⟩,λq=>(by cases q)⟩
 .exact k
abbrev fx:Type:=Int×Int×Int
def HF(cf:α->α->Int)(l:List α):List α:=l.mergeSort λx y => !cs7 (cf y x<0)
variable{b:Int}
theorem Rz:c9 a b<0↔a<b:=by unfold c9;(repeat' split) <;> omega
theorem ID:c9 a b=0↔a=b:=by unfold c9;(repeat' split) <;> omega
def Re(a b c:Int):Int:=pD [a,b,c]
theorem aO4{x y z}:Re (c9 a x) (c9 b y) (c9 c z)<0↔a<x∨(a=x/\(b<y∨(b=y/\c<z))):=by
 unfold Re
 simp only[pD]
 split
 next h=>have h:¬ a=x:=λe=>h (ID.2 e);rw[Rz];omega
 next h=>
  have h:=ID.1 (cz8.1 h);split
  next k=>have k:¬ b=y:=λe=>k (ID.2 e);rw[Rz];omega
  .rename_i k;have k:=ID.1 (cz8.1 k);split
   .rw[Rz];omega
   next q=>have q:=ID.1 (cz8.1 q);omega
def sR(x y:fx):Int:=Re (c9 x.2.2 y.2.2) (c9 x.1 y.1) (c9 x.2.1 y.2.1)
theorem Bk{x y:fx}:sR x y<0↔x.2.2<y.2.2∨(x.2.2=y.2.2/\(x.1<y.1∨(x.1=y.1/\x.2.1<y.2.1))):=aO4
abbrev fW:Type:=Int×Int×Int×Int×Int×Int×Int
theorem Sp{t:fW}(h:sf t):(0<=t.2.2.2.2.1/\t.2.2.2.2.1<=199)/\(1<=t.2.2.2.2.2.1/\t.2.2.2.2.2.1<=99)/\1<=t.2.2.2.2.2.2/\t.2.2.2.2.2.2<=9:=⟨h.2.2.2.2.1,h.2.2.2.2.2.1,h.2.2.2.2.2.2⟩
def ux(i:Int)(t:fW)(r:Nat):List fx:=(range r).map λ(k:Nat)=>(i,(k:Int),t.2.2.2.2.1+(k:Int)*t.2.2.2.2.2.1)
def nz(ts:List fW)(n:Nat):List fx:=(range n).flatMap λ(i:Nat)=>ux (i:Int) (T ts i cs5) (T ts i cs5).2.2.2.2.2.2.toNat
def iN(p:ja.D):List fx:=HF sR (nz p.1 (V p.1))
def Hq(b:aq4)(s:aq4×List fx)(d:fx):aq4×List fx:=((lx b s.1 d.2.2).1,if (lx b s.1 d.2.2).2=cs8 then s.2++[d] else s.2)
def Ad(p:ja.D)(l:List fx):aq4×List fx:=l.foldl (Hq p.2) (Bq p.2 0,[])
def fK(p:ja.D):List fx:=(Ad p (iN p)).2
variable{p:ja.D}
theorem bL2{l:List fx}(h0:0<=j)(h1:j<V l):Ad p (l.take (M (j+1)))=Hq p.2 (Ad p (l.take (M j))) (T l (M j) cs5):=by
 unfold Ad
 rw[nq h0 h1,lr];rfl
theorem Ou(b:aq4):∀(l:List fx)(s:aq4×List fx),∃ m,(l.foldl (Hq b) s).2=s.2++m/\m.Sublist l
 | [],s=>⟨[],(js _).symm,cY1 _⟩
 | d::l,s=>by
  obtain⟨m,e,hm⟩:=Ou b l (Hq b s d);rw[cx7,e];unfold Hq;dsimp only;split
  .exact⟨d::m,by rw[gI];rfl,hm.cons_cons d⟩
  .exact⟨m,rfl,hm.cons d⟩
theorem b23(p):(fK p).Sublist (iN p):=by
 have ⟨m,e,hm⟩:=Ou p.2 (iN p) (Bq p.2 0,[])
 unfold fK Ad
 rw[e];exact hm
theorem UX(cf)(l:List α):(HF cf l).Perm l:=List.mergeSort_perm _ _
variable{d:fx}
theorem b31{ts:List fW}{n:Nat}(h:d∈nz ts n):∃ i,i<n/\d.1=(i:Int)∧∃ k:Nat,k<(T ts i cs5).2.2.2.2.2.2.toNat/\d.2.1=k/\d.2.2=(T ts i cs5).2.2.2.2.1+k*(T ts i cs5).2.2.2.2.2.1:=by
 unfold nz ux at h
 have ⟨i,hi,h⟩:=List.mem_flatMap.1 h
 obtain⟨k,hk,rfl⟩:=cv1.1 h
 exact⟨i,cx1.1 hi,rfl,k,cx1.1 hk,rfl,rfl⟩
theorem Mk{ts:List fW}(h:∀ t∈ts,sf t):∀ n:Nat,n<=V ts->V (nz ts n)<=9*n
 | 0,_=>by simp[nz]
 | n+1,hn=>by
  have e:nz ts (n+1)=nz ts n++ux n (T ts n cs5) (T ts n cs5).2.2.2.2.2.2.toNat:=by
   unfold nz;rw[ni,cI6];simp
  have:=Mk h n Y;have ht:sf (T ts n cs5):=h _ (by rw[cK,cT Y];exact cv2 _);have hc:=(Sp ht).2.2.2;generalize T ts n cs5=t at *;rw[e,cw];unfold ux;rw[nT,cC9];omega
structure Qy (p:ja.D) (d:fx):Prop where
 t:0<=d.1/\d.1<V p.1
 at':0<=d.2.2/\d.2.2<=1000
theorem aF0(h:mT p)(hd:d∈nz p.1 (V p.1)):Qy p d:=by
 have ⟨i,hi,e1,k,hk,e2,e3⟩:=b31 hd
 have ht:sf (T p.1 i cs5):=h.2.1 _ (by rw[cK,cT hi];exact cv2 _)
 have ht:=Sp ht
 generalize T (α:=fW) p.1 i cs5=t at *
 have ⟨⟨s0,s1⟩,⟨v0,v1⟩,c0,c1⟩:=ht
 have p1:=cG1 (show (k:Int)<=8 by omega) v1 Y Y
 have p0:=cG0 (show 0<=(k:Int) by omega) (show 0<=t.2.2.2.2.2.1 by omega)
 exact⟨Y,Y⟩
structure bR6 (p:ja.D):Prop where
 n:V (fK p)<=216
 d:∀ d∈fK p,Qy p d
 s:(fK p).Pairwise λx y=>x.2.2<=y.2.2
theorem JV(x y:fx):(!cs7 (sR y x<0))=cs8↔¬ (y.2.2<x.2.2∨(y.2.2=x.2.2/\(y.1<x.1∨(y.1=x.1/\y.2.1<x.2.1)))):=by
 rw[sS,xZ,Bk]
theorem Kl(h:mT p):bR6 p:=by
 have sub:=b23 p
 have perm:(iN p).Perm (nz p.1 (V p.1)):=UX _ _
 have ok:∀ d∈fK p,Qy p d:=λd hd=>aF0 h (perm.mem_iff.1 (sub.subset hd))
 refine⟨?_,ok,?_⟩
 .have:=sub.length_le;have:=perm.length_eq;have:=Mk h.2.1 (V p.1) (dq _);have:=h.1;omega
 .refine cX2 sub ?_;have:=List.pairwise_mergeSort (le:=λx y:fx => !cs7 (sR y x<0)) (λa b c h1 h2=>by rw[JV] at *;omega) (λa b=>by rw[uJ,JV,JV];omega) (nz p.1 (V p.1));exact this.imp λ{a b} q=>by rw[JV] at q;omega
abbrev Mb:CT := .pair (.sl j9) (.pair (.sl cI) (.pair tc .bool))
def m8(v:bS)(d:Del):bS:=if d.2.1=0 then nF v d.1 d.2.2 else v
theorem bo8(v:bS)(t:Int)(b:Z):V (vW (nF v t b))+V (vR (nF v t b))=V (vW v)+V (vR v):=by
 have h:V (vW (i9 v t))+V (vR (i9 v t))=V (vW v)+V (vR v):=by
  show V ((vW v).filter _)+V (vR v++((vW v).filter _).map (nY v))=_;have:∀(o:dF->Bool)(l:List dF),V (l.filter λx => !o x)+V (l.filter o)=V l:=by
   intro o l
   induction l with
   | nil=>rfl
   | cons x l ih=>cases e:o x <;> simp[List.filter_cons,e] <;> omega
  grind
 unfold nF
 split
 .show (V (set _ _ _))+V (vR (i9 v t))=_;rw[f5];exact h
 .exact h
variable{t:Int}
theorem kZ.size(h:kZ v L m t):(V (vW v):Int)+V (vR v)=v.2.2.1:=by
 have:=h.m
 rw[h.w,h.r,h.next,gR,nT,fF];omega
abbrev MS:Type:=aP×bS×Int×Z×Int
def i7(p:ja.D)(d:fx):fW:=T p.1 (M d.1) cs5
def mF(s:MS)(t:Int):aP:=pM s.1 t
def lN(s:MS)(t:Int):bS:=((bO (mF s t)).drop (M s.2.2.1)).foldl m8 s.2.1
def Rp(p:ja.D)(s:MS)(d:fx):Int:=oV (lN s d.2.2) d.2.2 (i7 p d).1 (i7 p d).2.1 (i7 p d).2.2.1 (i7 p d).2.2.2.1
def Ge(p:ja.D)(s:MS)(d:fx):Z:=uW (lN s d.2.2) d.2.2 (i7 p d).1 (i7 p d).2.1 (i7 p d).2.2.1 (i7 p d).2.2.2.1
def zK(p:ja.D)(s:MS)(d:fx):MS :=
 if Rp p s d=0 then (wx (mF s d.2.2) d.2.2 0 (Ge p s d),nL (lN s d.2.2) d.2.2 (i7 p d).1 (i7 p d).2.1 (i7 p d).2.2.1 (i7 p d).2.2.2.1,V (bO (mF s d.2.2)),s.2.2.2.1++[dw (mF s d.2.2)],d.2.2)
 else (mF s d.2.2,lN s d.2.2,V (bO (mF s d.2.2)),s.2.2.2.1,d.2.2)
def JJ(n:Net)(t:Int):MS:=(Cy n,td 0 0 (jp n).1 t,0,[],0)
def pz(n:Net)(p:ja.D)(t:Int)(k:Nat):MS:=((fK p).take k).foldl (zK p) (JJ n t)
def UL(s:MS)(t:Int):Mb.D:=(vR (yu (lN s (s.2.2.2.2+t+100000))),s.2.2.2.1,mF s (s.2.2.2.2+t+100000),cs7 ((V (vR (yu (lN s (s.2.2.2.2+t+100000)))):Int)=V s.2.2.2.1))
def rx(n:Net)(p:ja.D)(t:Int):Mb.D:=UL (pz n p t (V (fK p))) t
structure MI (n:Net) (t q:Int) (s:MS):Prop where
 w:fj (4000+4000*q) s.1
 q0:0<=q/\q<=300
 nt:aN s.1=n
 nw:cu s.1=s.2.2.2.2/\cu s.1<=1000
 vi:∃ L m,kZ s.2.1 L m s.2.2.2.2
 nx:s.2.1.2.2.1<=q
 vo:rS s.2.1
 tm:vT s.2.1=t
 rd:s.2.2.1=V (bO s.1)
 fl:V (aO s.1)<=q
 ol:(V s.2.2.2.1:Int)=s.2.1.2.2.1
theorem ae2{b}(hb:b<=1000000):∀{l:List Del}{v:bS}{a:Int},(∃ L m,kZ v L m a)->rS v->v.2.2.1<=1000->a<=b->Fg a b l →
  (∃ L m,kZ (l.foldl m8 v) L m b)/\rS (l.foldl m8 v)/\(l.foldl m8 v).2.2.1=v.2.2.1/\vT (l.foldl m8 v)=vT v
 | [],v,a,⟨L,m,h⟩,k,hn,hab,hl=>⟨⟨L,m,h.later hab (by omega)⟩,k,rfl,rfl⟩
 | d::l,v,a,⟨L,m,h⟩,k,hn,hab,hl=>by
  obtain⟨p1,p2⟩:=cu1.1 hl.p;have ht:=(hl.t d dU).1;have hl2:Fg d.1 b l:=⟨p2,λx hx=>⟨⟨p1 x hx,(hl.t x (eZ _ hx)).1.2⟩,(hl.t x (eZ _ hx)).2⟩,λx hx=>hl.b x (eZ _ hx)⟩
  have st:(∃ L m,kZ (m8 v d) L m d.1)/\rS (m8 v d)/\(m8 v d).2.2.1=v.2.2.1/\vT (m8 v d)=vT v:=by
   unfold m8;split
   .obtain⟨L',m',v',-⟩:=h.recv (b:=d.2.2) ht.1 (by omega);exact⟨⟨L',m',v'⟩,k.recv h hn (hl.b d dU),aL4 ..,by unfold nF;split <;> rfl⟩
   .exact⟨⟨L,m,h.later ht.1 (by omega)⟩,k,rfl,rfl⟩
  obtain⟨q1,q2,q3,q4⟩:=ae2 hb (l:=l) st.1 st.2.1 (by rw[st.2.2.1];exact hn) ht.2 hl2;exact⟨q1,q2,q3.trans st.2.2.1,q4.trans st.2.2.2⟩
variable{n:Net}{q:Int}
theorem MI.run{s:MS}(h:MI n t q s)(ha:s.2.2.2.2<=a)(hb:a<=1000000) :
  fj (4000+4000*q) (mF s a)/\aN (mF s a)=n/\cu (mF s a)=a/\V (aO (mF s a))<=q/\(∃ L m,kZ (lN s a) L m a)/\rS (lN s a)/\(lN s a).2.2.1=s.2.1.2.2.1/\vT (lN s a)=t/\s.2.2.1<=V (bO (mF s a))/\ru s.1 a=0:=by
 have hn:=h.w.s.now
 have nw:=h.nw
 have ⟨l,e,hl,hf⟩:=h.w.runs_dl (to:=a)
 have ev:lN s a=l.foldl m8 s.2.1:=by
  unfold lN mF;rw[h.rd,e,cv6,List.drop_left]
 have hq:=h.q0
 have hnx:=h.nx
 obtain⟨q1,q2,q3,q4⟩:=ae2 hb h.vi h.vo Y ha (by rw[← nw.1];exact hl)
 have hfl:=h.fl
 refine⟨h.w.runs ⟨Y,Y⟩,h.w.net.trans h.nt,bk4 _ _,by show (V (aO (pM s.1 a)):Int)<=q;omega,by rw[ev];exact q1,by rw[ev];exact q2,by rw[ev];exact q3,by rw[ev];exact q4.trans h.tm,?_,bw3 Y Y⟩
 rw[h.rd]
 show (V (bO s.1):Int)<=(V (bO (pM s.1 a)):Int)
 rw[e,cw];omega
theorem ZE{w:aP}(h3:0<V n.1)(hn:aN w=n)(ha:cu w=a)(hb:a<=1000000)(hf:V (aO w)<=q)(hq:q<=300):o7 w a 0=0:=by
 unfold o7
 rw[hn,I Y,I Y,I Y,I Y]
theorem MI.step{s:MS}(h:MI n t q s)(h3:0<V n.1)(hd:s.2.2.2.2<=d.2.2)(hm:d.2.2<=1000)(hq:q+1<=300)(ht:0<=(i7 p d).1/\(i7 p d).1<=4294967295):MI n t (q+1) (zK p s d):=by
 have hq0:=h.q0
 have hnx:=h.nx
 have ⟨r1,r2,r3,r4,⟨L,m,r5⟩,r6,r7,r8,r9,r10⟩:=h.run hd Y
 have hv:(lN s d.2.2).2.2.1<=1000:=by rw[r7];omega
 unfold zK
 split
 next e=>
  have ⟨b1,b2⟩:=Wf (lN s d.2.2) d.2.2 (i7 p d).1 (i7 p d).2.1 (i7 p d).2.2.1 (i7 p d).2.2.2.1;have ⟨s1,s2,s3⟩:=r1.send Y (ZE h3 r2 r3 Y r4 Y) (b:=Ge p s d) b1 b2;have pk:=cd0 (a:=(i7 p d).1) (b:=(i7 p d).2.1) (c:=(i7 p d).2.2.1) (d:=(i7 p d).2.2.2.1) r5 hv;have nx:(nL (lN s d.2.2) d.2.2 (i7 p d).1 (i7 p d).2.1 (i7 p d).2.2.1 (i7 p d).2.2.2.1).2.2.1=s.2.1.2.2.1+1:=by
   unfold Rp at e;rw[← r7];unfold nL;rw[ao e];rfl
  refine⟨s1.more Y Y,Y,s3.trans r2,⟨r3,by show cu (mF s d.2.2)<=1000;omega⟩,pk.1,?_,r6.probe r5 hv ht,?_,rfl,?_,?_⟩
  .show (nL _ _ _ _ _ _).2.2.1<=q+1;rw[nx];omega
  .show vT (nL _ _ _ _ _ _)=t;rw[← r8];unfold nL;split <;> rfl
  .show (V (jt _ _):Int)<=_;rw[G6];omega
  .show (V (s.2.2.2.1++[_]):Int)=(nL _ _ _ _ _ _).2.2.1;rw[nx,cw,fq];have:=h.ol;omega
 .exact⟨r1.more Y Y,Y,r2,⟨r3,by show cu (mF s d.2.2)<=1000;omega⟩,⟨L,m,r5⟩,by show (lN s d.2.2).2.2.1<=_;omega,r6,r8,rfl,by show (V (aO (mF s d.2.2)):Int)<=_;omega,by show (V s.2.2.2.1:Int)=(lN s d.2.2).2.2.1;rw[r7];exact h.ol⟩
theorem MI.zero(h:xM n)(ht:1<=t/\t<=20000):MI n t 0 (JJ n t):=by
 have e:td 0 0 (jp n).1 t=(0,0,0,(jp n).1,t,[],[]):=by unfold td;rw[ao (Uf h ⟨ht.1,Y⟩)]
 unfold JJ
 rw[e]
 exact⟨h.d.newOk h.p,aD,rfl,⟨rfl,by show (0:Int)<=1000;decide⟩,⟨[],0,rfl,rfl,dq _,rfl,⟨ht.1,by show t<=_;omega⟩,⟨by show (0:Int)<=0;decide,by show (0:Int)<=1000000000;decide⟩,λx hx=>(by cases hx),λi j hj=>(by cases hj),λi hi=>(by cases hi),λx hx=>(by cases hx)⟩,fJ _,⟨λx hx=>(by cases hx),λx hx=>(by cases hx),rfl,rfl⟩,rfl,rfl,fJ _,rfl⟩
theorem ad3(h0:0<=j)(h1:j<V (fK p)):pz n p t (M (j+1))=zK p (pz n p t (M j)) (T (fK p) (M j) cs5):=by
 unfold pz
 rw[nq h0 h1,lr];rfl
theorem Pc{n:Net}(h:xM n){p:ja.D}(hp:mT p)(hu:∀ t∈p.1,0<=t.1/\t.1<=4294967295){t:Int}(ht:1<=t/\t<=20000):∀ k:Nat,k<=V (fK p)->MI n t k (pz n p t k)/\(∀ d∈(fK p).drop k,(pz n p t k).2.2.2.2<=d.2.2)/\(pz n p t k).2.2.2.2<=1000
 | 0,_=>⟨MI.zero h ht,λd hd=>((Kl hp).d d hd).at'.1,by show (0:Int)<=1000;decide⟩
 | k+1,hk=>by
  obtain⟨m,h1,-⟩:=Pc h hp hu ht k Y;have so:=Kl hp;have hn:=so.n;have hk':k<V (fK p):=Y;have dk:=sM hk';have ed:T (fK p) (M (k:Int)) cs5=(fK p)[k]:=by rw[cv6,cK,cT hk'];rfl
  have nx:=ad3 (n:=n) (p:=p) (t:=t) (j:=k) Y Y;rw[show M ((k:Int)+1)=k+1 by omega,ed,cv6] at nx;have hd:=so.d _ (cv2 hk');have hsrt:=cu1.1 (dk▸so.s.sublist (List.drop_sublist k _));have n3:=h.d.n3;have mt:=hu _ (cW hd.t.1 hd.t.2);have ms:=m.step (p:=p) (d:=(fK p)[k]) Y (h1 _ (by rw[dk];exact dU)) hd.at'.2 Y mt;have la:(zK p (pz n p t k) (fK p)[k]).2.2.2.2=(fK p)[k].2.2:=by unfold zK;split <;> rfl
  rw[nx];exact⟨by rw[show ((k+1:Nat):Int)=(k:Int)+1 by omega];exact ms,λd hd=>by rw[la];exact hsrt.1 d hd,by rw[la];exact hd.at'.2⟩
structure Qu (l:List bv):Prop where
 n:V l<=216
 ok:∀ r∈l,oa r
 i:∀ j:Nat,j<V l->(T l j cs5).1=0/\(T l j cs5).2.1=0/\(T l j cs5).2.2.1=j
theorem bf2(h:xM n)(hp:mT p)(hu:∀ t∈p.1,0<=t.1/\t.1<=4294967295)(ht:1<=t/\t<=20000):(rx n p t).2.2.2=cs8/\Qu (rx n p t).1:=by
 obtain⟨m,-,hl⟩:=Pc h hp hu ht _ (dq _)
 have so:=(Kl hp).n
 have hn:=m.w.s.now
 have nw:=m.nw
 have ⟨r1,r2,r3,r4,⟨L,k,r5⟩,r6,r7,r8,r9,r10⟩:=m.run (a:=(pz n p t (V (fK p))).2.2.2.2+t+100000) Y Y
 have hv:=m.nx
 have ⟨f1,f2⟩:=r5.finish
 have nx:=r5.next
 have ol:=m.ol
 have len:(rx n p t).1.length=V L:=by
  show V (vR (yu _))=_;rw[f2,nT]
 have fok:rS (yu (lN (pz n p t (V (fK p))) ((pz n p t (V (fK p))).2.2.2.2+t+100000))):=by
  refine⟨λx hx=>?_,λr hr=>?_,r6.i⟩
  .rw[f1] at hx;cases hx
  .have hr:=hr;obtain hr|hr:=dX.1 hr
   .exact r6.r r hr
   .obtain⟨x,hx,rfl⟩:=cv1.1 hr;exact ZT r5 r6 (by rw[r7];omega) (cx9.1 hx).1
 refine⟨f7 ?_,?_,fok.r,λj hj=>?_⟩
 .show (((rx n p t).1.length:Nat):Int)=_;rw[len,← nx,r7,ol]
 .rw[len];omega
 .have hj2:j<V L:=by rw[← len];exact hj
  have e:(rx n p t).1.getD j cs5=nY (lN (pz n p t (V (fK p))) ((pz n p t (V (fK p))).2.2.2.2+t+100000)) L[j]:=by
   show T (vR (yu _)) j cs5=_;rw[f2,cK,cA7,cT hj2];rfl
  rw[e];exact⟨r6.i.1,r6.i.2,r5.num j hj2⟩
end Go.RS
namespace Go.SX
open Go.Proofs Go.Shelf Go.RowKit Go.Lib Go.Sort
def CT.ints:CT->Bool
 | .int _=>cs8
 | .bool=>cs8
 | .pair a b=>a.ints&&b.ints
 | _=>ct2
def qT:(u:CT)->u.D->List ct8
 | .int k,n=>[.int k n]
 | .pair a b,d=>qT a d.1++qT b d.2
 | .bool,b=>[.bool b]
 | .str,_=>[]
 | .sl _,_=>[]
theorem KP:∀{u:CT} d,u.ints=cs8->V (qT u d)=u.size
 | .int k,n,_=>rfl
 | .pair a b,d,h=>by
  have h:=cw4.1 h;show V (qT a d.1++qT b d.2)=a.size+b.size;rw[cw,KP d.1 h.1,KP d.2 h.2]
 | .bool,_,h=>rfl
 | .str,_,h=>by cases h
 | .sl _,_,h=>by cases h
theorem OE:∀{u:CT} d,∀ v∈qT u d,v.oneCell'=cs8
 | .int k,n,v,h=>by rw[iV.1 h];rfl
 | .pair a b,d,v,h=>(dX.1 h).elim (OE d.1 v) (OE d.2 v)
 | .bool,_,v,h=>by rw[iV.1 h];rfl
 | .str,_,v,h=>by cases h
 | .sl _,_,v,h=>by cases h
theorem Ij{A:Nat->Prop}{w:cu6}:∀{u:CT}{cv:Nat->Option ct8}{o:Nat}{d:u.D},u.ints=cs8->(Rd A w u cv o d↔u.wf d∧∀ j,j<u.size->cv (o+j)=(qT u d)[j]?)
 | .int k,cv,o,n,_=>by
  show (cv o=cs6 (.int k n)/\k.has n)↔(k.has n∧∀ j,j<1->cv (o+j)=[Value.int k n][j]?);constructor
  .rintro⟨h1,h2⟩;exact⟨h2,λj hj=>by rw[show j=0 by omega];exact h1⟩
  .rintro⟨h1,h2⟩;exact⟨h2 0 Y,h1⟩
 | .pair a b,cv,o,d,h=>by
  have h:=cw4.1 h;have e1:=Ij (A:=A) (w:=w) (u:=a) (cv:=cv) (o:=o) (d:=d.1) h.1;have e2:=Ij (A:=A) (w:=w) (u:=b) (cv:=cv) (o:=o+a.size) (d:=d.2) h.2;have hl:=KP d.1 h.1;show (Rd A w a cv o d.1/\Rd A w b cv (o+a.size) d.2)↔((a.wf d.1/\b.wf d.2)∧∀ j,j<a.size+b.size->cv (o+j)=(qT a d.1++qT b d.2)[j]?);rw[e1,e2];constructor
  .rintro⟨⟨h1,h2⟩,h3,h4⟩;refine⟨⟨h1,h3⟩,λj hj=>?_⟩;by_cases q:j<a.size
   .rw[nJ Y];exact h2 j q
   .rw[pn Y,hl,← h4 (j-a.size) Y];congr 1;omega
  .rintro⟨⟨h1,h3⟩,h4⟩;refine⟨⟨h1,λj hj=>?_⟩,h3,λj hj=>?_⟩
   .rw[h4 j Y,nJ Y]
   .rw[jv,h4 (a.size+j) Y,pn Y,hl];congr 1;omega
 | .bool,cv,o,b,_=>by
  show (cv o=cs6 (.bool b))↔(True∧∀ j,j<1->cv (o+j)=[Value.bool b][j]?);exact⟨λh=>⟨aQ,λj hj=>by rw[show j=0 by omega];exact h⟩,λh=>h.2 0 Y⟩
 | .str,_,_,_,h=>by cases h
 | .sl _,_,_,_,h=>by cases h
theorem Nq{A:Nat->Prop}{env:bt}{w:cu6}:∀{u:CT}{d:u.D},u.ints=cs8->u.wf d->aL A env w (cS u d) (qT u d)
 | .int k,n,_,hw=>by simp only[cS,qT,aL,ax];exact⟨_,_,rfl,⟨rfl,hw⟩,rfl⟩
 | .pair a b,d,h,hw=>by
  have h:=cw4.1 h;exact vm (Nq h.1 hw.1) (Nq h.2 hw.2)
 | .bool,b,_,_=>by simp only[cS,qT,aL,ax];exact⟨_,_,rfl,rfl,rfl⟩
 | .str,_,h,_=>by cases h
 | .sl _,_,h,_=>by cases h
abbrev Jm(u:CT):u7:=[(cs8,u),(cs8,u)]
def Kr(u:CT)(cf:u.D->u.D->Int):Ct:=⟨na (Jm u),[.val (.int .i64)],λ_=>[],λd=>((cf d.1 d.2.1,()),())⟩
def QV(u:CT)(E:ct5)(f:cy6)(cf:u.D->u.D->Int)(srt:List u.D->List u.D):Spec:=λbase svs=>match svs with
 | [.own n sz,.fn g []]=>match ct7 g f with
  | true => .ask n fun
   | .live (.row E' u' xs)=>match ct7 E' E,ct7 sz u.size,iP u' u xs with
    | true,cs8,cs6 ys => .ret (.det [(V ys:Int)<=1000000,∀ x∈ys,∀ y∈ys,¬ cf x y<0→¬ cf y x<0->x=y] (.tup []) [(n,.live (.row E u (srt ys)))])
    | _,_,_ => .fail
   | _ => .fail
  | _ => .fail
 | _ => .fail
theorem a59{W w':cu6}(g:w'.os=W.os)(h:w'.tape=W.tape)(i:w'.output=W.output)(h4:W.drawn<=w'.drawn)(h5:W.heap.size<=w'.heap.size)(h6:∀ k,k<W.heap.size->w'.heap[k]? = W.heap[k]?):∃ q d,w'=grow (W.drewN q) d:=by
 refine⟨w'.drawn-W.drawn,w'.heap.extract W.heap.size w'.heap.size,?_⟩
 have j:w'.heap=W.heap++w'.heap.extract W.heap.size w'.heap.size:=by
  grind
 have ⟨a,b,c,e,f⟩:=w'
 simp only at g h i h4 j
 subst g h i
 unfold grow World.drewN
 simp
 exact⟨j,Y⟩
section
variable {P:cu2} {G:vf} {f:cy6} {u:CT} {cf:u.D->u.D->Int}
theorem cl2(j:u.ints=cs8)(hc:mG P G f (Kr u cf).spec){x y:u.D}(hx:u.wf x)(hy:u.wf y){A:Nat->Prop}{W:cu6}(hA:∀ b,A b->b<W.heap.size)(hg:∀ g z,G g=cs6 z->A g/\Rd A W z.1 (λo=>W.cell? ⟨g,o,ct4⟩) 0 z.2) :
  cW3 P f #[.agg (qT u x).toArray,.agg (qT u y).toArray] W λe w'=>e = .returned (.int .i64 (cf x y))∧∃ q i,w'=grow (W.drewN q) i:=by
 have m:Mod W ⟨λ_=>False,A,G⟩ A (λ_=>.un) (λ_=>.un) W :=
  ⟨rfl,rfl,rfl,dq _,dq _,λ_ _ _=>rfl,hA,λ_=>rfl,λ_ _ _ _ h=>(by cases h),λ_ _ _ _ _ _ _ h=>(by cases h),λb hb=>.inl hb,hg⟩
 have c:((Kr u cf).spec 0 (iK (na (Jm u)) (x,y,()) 0 0)).run (λ_=>.un)=cs6 (Dl.det [] (.int .i64 (cf x y)) [],[]):=by
  refine Q.bind_run0 _ _ _ _ (Kk (Jm u) (x,y,()) rfl) ?_;rfl
 have hd:aL A (λ_=>.un) W (iK (na (Jm u)) (x,y,()) 0 0) [.agg (qT u x).toArray,.agg (qT u y).toArray]:=by
  exact⟨_,_,rfl,⟨_,rfl,by simpa using Nq j hx⟩,_,_,rfl,⟨_,rfl,by simpa using Nq j hy⟩,rfl⟩
 refine (hc 0 _ (λ_=>.un) _ _ c trivial W _ A _ W _ rfl m hd).mono ?_
 rintro e w' ⟨v,rfl,z,A',env',_,a,_,d⟩
 exact⟨by rw[d.1],a59 a.os a.tape a.output a.dr a.size λk hk=>a.fr k hk λh=>h⟩
variable{b β q:Nat}{F cur:Array ct8}{os:Array Obj}{E:ct5}
theorem aj1{w:cu6}(hh:w.heap[b]? = cs6 (.cells cur E (0,0))):(grow (putRow id (Go.Sort.ahead w q) b β F) os).heap[b]? = cs6 (.cells (putCells id β F cur) E (0,0)):=by
 have hb:=(cu3.1 hh).1
 unfold grow putRow mapBlock Go.Sort.ahead
 rw[cE7 (by rw[Array.size_modify];exact hb),Array.getElem?_modify,ao rfl,hh]
 rfl
theorem Sq{w:cu6}(hh:w.heap[b]? = cs6 (.cells cur E (0,0))):cY w (grow (putRow id (Go.Sort.ahead w q) b β F) os) λj=>j=b:=by
 have c:∀ j,j<w.heap.size→¬ j=b->(grow (putRow id (Go.Sort.ahead w q) b β F) os).heap[j]? = w.heap[j]? := λj e hn=>by
  unfold grow putRow mapBlock Go.Sort.ahead;grind
 refine⟨rfl,rfl,rfl,Nat.le_add_right _ _,by unfold grow putRow mapBlock Go.Sort.ahead;simp,c,λj s a=>?_⟩
 by_cases d:j=b
 .subst d;unfold cv9 at a ⊢;rw[aj1 hh];rw[hh] at a;rw[← a];simp[putCells]
 .have e:j<w.heap.size:=by
   unfold cv9 at a;grind
  unfold cv9 at a ⊢;rw[c j e d];exact a
theorem Yj{α:Type} [Inhabited α] (enc:α->List ct8) {k:Nat} (hk:∀ x,V (enc x)=k) (d:Array α) {i j:Nat} (hi:i<d.size) (hj:j<k):cs6 ((flatK enc k d)[i*k+j]!)=(enc d[i]!)[j]? := by
 have h1:i*k+j<d.size*k:=by
  have:(i+1)*k<=d.size*k:=nk _ hi;rw[gA,qS] at this;omega
 rw[get_flatK enc k d _ h1]
 have e1:(i*k+j)/k=i:=by rw[cD4,Nat.mul_add_div Y,Nat.div_eq_of_lt hj,kz]
 have e2:(i*k+j)%k=j:=by rw[cD4,Nat.mul_add_mod,Nat.mod_eq_of_lt hj]
 rw[e1,e2,cT (by rw[hk];exact hj),getElem!_pos _ j (by rw[hk];exact hj)]
theorem a52{F:ct5}{ρ:Ren}(hu:u.ints=cs8)(hO:SWO (ltOf cf))(hc:mG P G f (Kr u cf).spec)(L:SlLaysF0.n6 P ρ)(hF:ρ.f 6=F)(aE:∀ w,(isAgg (ρ.t 24)).run P w = .ok cs8 w)(zE:∀ w,(cC5 (ρ.t 24)).run P w = .ok u.size w)
  (eg:∀ args w,(callFunc f args).run P w = .ok (.enter f args) w) (nu:u ≠ .int .u8) {srt:List u.D->List u.D} (hs:∀ ys,srt ys=ys.mergeSort λx y => !cs7 (cf y x<0)):mG P G F (QV u E f cf srt):=by
 intro base svs h d r e hp w0 N0 A env w vs hg m hd
 unfold QV at e
 split at e
 case h_2=>cases e
 rename_i n sz g
 split at e
 case h_2=>cases e
 rename_i hgf
 have hgf:=bH hgf
 subst hgf
 simp only[Q.run] at e
 split at e
 case h_2=>cases e
 rename_i p0 q0 hk
 simp only[cy,ck] at e
 obtain⟨rfl,rfl⟩:=e
 split at hk
 case h_2=>cases hk
 rename_i E' u' xs hl
 split at hk
 case h_2=>cases hk
 rename_i ys hE hsz hcast
 have hE:=bH hE
 have hsz:=bH hsz
 have ⟨et,ey⟩:=lv hcast
 have et2:=et.symm
 subst et2 hE hsz
 simp only at ey
 subst ey
 cases cE hk
 simp only[Dl.pre,bQ,ir] at hp
 have ⟨hp1,hp2⟩:=hp
 simp only[aL] at hd
 obtain⟨sv,r1,rfl,ds,fv,r2,rfl,df,rfl⟩:=hd
 simp only[ax,aL] at df
 obtain⟨fvs,rfl,hfv⟩:=df
 have hfv:fvs = #[]:=by rw[← Array.toList_eq_nil_iff];exact hfv
 subst hfv
 have ct4:∀ p c,ys=[]->sv = .slice p 0 c->cW3 P F #[sv,.func (.func g) #[] #[]] w λe w'=>∃ v,e = .returned v/\eV w0 N0 A env h w (.det [(V ys:Int)<=1000000,∀ x∈ys,∀ y∈ys,¬ cf x y<0→¬ cf y x<0->x=y] (.tup []) [(n,.live (.row E' u (srt ys)))]) v w':=by
  rintro p c rfl rfl;have hn:=AnyF.slices_SortFunc_none L p c (.func (.func g) #[] #[]) w;rw[hF] at hn;refine hn.mono ?_;rintro e w' ⟨rfl,rfl⟩;refine⟨_,rfl,(),A,env,aQ,?_,dQ.refl,?_⟩
  .have e:cq.set h n (.live (.row E' u (srt [])))=h:=by
    funext k;unfold cq.set;split
    next q=>rw[q,hl,hs,List.mergeSort_nil]
    .rfl
   show Mod w0 N0 A env (cq.set h n (.live (.row E' u (srt [])))) _;rw[e];exact m
  .simp only[Dl.val,ax,aL];exact⟨#[],rfl,rfl⟩
 have ds':=ds
 simp only[ax] at ds'
 obtain⟨hnil,pa,rfl⟩|⟨b,⟨β,len⟩,E3,cc,hb,hsh,rfl⟩:=ds'
 .have hx:ys=[]:=by
   have:=m.nm n;rw[hl] at this;obtain⟨k',l',he',_⟩|⟨_,E3,t3,hb⟩:=this
   .rw[hnil] at he';cases he'
   .obtain hb|hb:=hb <;> cases hb;rfl
  exact ct4 pa 0 hx rfl
 .have ⟨cur,cap,hh,hcs,hxl,hlc,hcm,hrdx⟩:=(m.live_blk hl hb).1;have hh:=hh.plain nu;have hnA:=(m.live_blk hl hb).2 rfl;simp only at hcs hxl hlc hrdx ⊢;by_cases hys:ys=[]
  .have hl0:len=0:=by rw[← hxl,hys];rfl
   exact ct4 (cs6 ⟨b,β,.none⟩) ((cc-β)/u.size) hys (by rw[hl0])
  have ⟨y0,hy0⟩:=List.exists_mem_of_ne_nil _ hys;have wfy:∀ x∈ys,u.wf x:=λx hx=>by
   obtain⟨i,hi,rfl⟩:=cv8.1 hx;exact ((Ij hu).1 (hrdx i hi)).1
  letI:Inhabited {x:u.D // x∈ys}:=⟨⟨y0,hy0⟩⟩
  let enc:{x:u.D // x∈ys}->List ct8:=λx=>qT u x.1;let cfa:{x:u.D // x∈ys}→{x:u.D // x∈ys}->Int:=λx y=>cf x.1 y.1;have hk:∀ x,V (enc x)=u.size:=λx=>KP x.1 hu;let d0:Array {x:u.D // x∈ys}:=ys.attach.toArray;have hd0:d0.size=V ys:=by simp[d0]
  have hd0i:∀ i (hi:i<V ys),d0[i]! = ⟨ys[i],cv2 hi⟩:=λi hi=>by
   rw[getElem!_pos d0 i (by rw[hd0];exact hi)];simp[d0]
  have hOa:SWO (ltOf cfa):=⟨λx=>hO.irrefl x.1,λx y z=>hO.trans x.1 y.1 z.1,λx y z=>hO.ntrans x.1 y.1 z.1⟩
  have hTa:∀ x y,(ltOf cfa) x y=ct2->(ltOf cfa) y x=ct2->x=y:=λx y h1 h2 =>
   Subtype.ext (hp2 x.1 x.2 y.1 y.2 (bg h1) (bg h2))
  have hH:HoldsK enc u.size w b β d0:=λj hj=>by
   rw[size_flatK,hd0] at hj;have hk0:=u.size_pos;have hq:=Nat.div_lt_of_lt_mul (by rw[cD4];exact hj);have hr:j%u.size<u.size:=Nat.mod_lt _ hk0;have ej:j/u.size*u.size+j%u.size=j:=by rw[cD4];exact Nat.div_add_mod j u.size
   refine⟨?_,by simp[cB6,hh]⟩;have e1:=((Ij hu).1 (hrdx _ hq)).2 _ hr;have e2:=Yj enc hk d0 (i:=j/u.size) (j:=j%u.size) (by rw[hd0];exact hq) hr;rw[ej] at e2;rw[jv,ej] at e1;rw[cy5 w b _ cur E' (0,0) hh,e1];show _=cs6 ((flatK enc u.size d0)[j]!);rw[e2,hd0i _ hq]
  have hbw:=(cu3.1 hh).1;have hcmp:CmpLays P g #[] enc u.size cfa b β d0.size w:=λq os dk hdk x y=>by
   have hh2:∀ j o,A j->(sortWorldK enc u.size w b β q dk os).cell? ⟨j,o,.none⟩=w.cell? ⟨j,o,.none⟩:=λj o hj=>by
    have hjw:=m.Alt j hj;have c:=Sq (q:=q) (β:=β) (F:=flatK enc u.size dk) (os:=os) hh;exact World.cell?_of_block (a:=⟨j,o,.none⟩) (c.blk j hjw λe=>hnA (e▸hj))
   have hsz:=(Sq (q:=q) (β:=β) (F:=flatK enc u.size dk) (os:=os) hh).size;have k:=cl2 (A:=A) (W:=sortWorldK enc u.size w b β q dk os) hu hc (wfy x.1 x.2) (wfy y.1 y.2) (λj hj=>cF8 (m.Alt j hj) hsz) (λgg z hz=>by
    have:=m.gl gg z (by rw[hg];exact hz);exact⟨this.1,jM (λ_ h=>h) hh2 _ _ _ _ _ (λj _=>hh2 gg _ this.1) this.2⟩)
   exact k
  have hcon:=AnyQ.slices_SortFunc_total L u.size aE zE enc hk (λx=>OE x.1) cfa hOa g #[] b β ((cc-β)/u.size) d0 w eg hcmp hH hbw (by rw[hd0];omega) hTa;rw[hF,hd0,hxl] at hcon;refine hcon.mono ?_;rintro e w' ⟨rfl,q,os,rfl⟩;refine⟨_,rfl,?_⟩;generalize hz:(d0.toList.mergeSort λx y => !ltOf cfa y x).toArray=dk;have hzl:dk.toList.map (·.1)=srt ys:=by
   rw[← hz,hs];have e1:d0.toList=ys.attach:=rfl;rw[e1];show cA6 _ (cU3 _ _)=_;rw[List.map_mergeSort (r:=λx y => !ltOf cfa y x) (s:=λx y => !cs7 (cf y x<0)) (λa _ b _=>rfl)];congr 1;exact List.attach_map_subtype_val ys
  have hdl:dk.size=V ys:=by
   rw[← hz];show V (cU3 _ _)=_;rw[List.length_mergeSort];exact hd0
  have c:=Sq (q:=q) (β:=β) (F:=flatK enc u.size dk) (os:=os) hh;have hF2:(flatK enc u.size dk).size=len*u.size:=by rw[size_flatK,hdl,hxl]
  have hlcz:len*u.size<=cap*u.size:=nk _ hlc;have x:=m.xt c (λk hk=>⟨n,_,_,hl,rfl,hk▸hb⟩) λ_ _=>rfl;have hsl:V (srt ys)=len:=by rw[← hzl,nT,jF,hdl,hxl]
  have up:=mH.write (b' := .row E' u (srt ys)) m hl rfl hb c ⟨putCells id β (flatK enc u.size dk) cur,cap,.of (aj1 hh),by simpa[putCells] using hcs,hsl,hlc,hcm,λi hi=>by
   have hi2:i<dk.size:=by rw[hsl] at hi;omega
   have ei:(srt ys)[i]=(dk[i]!).1:=by
    have:(srt ys)[i]? = (dk.toList.map (·.1))[i]? := by rw[hzl]
    rw[cT hi,cA7,rz,cM2 hi2] at this;rw[getElem!_pos dk i hi2];exact Option.some.inj this
   rw[Ij hu];refine⟨by rw[ei];exact wfy _ (dk[i]!).2,λj hj=>?_⟩;have hlt:i*u.size+j<len*u.size:=by
    have:(i+1)*u.size<=len*u.size:=nk _ Y;rw[gA,qS] at this;omega
   show (putCells id β (flatK enc u.size dk) cur)[β+i*u.size+j]? = _;unfold putCells;rw[Array.getElem?_mapIdx,cM2 Y,cB5,ao Y,show β+i*u.size+j-β=i*u.size+j by omega];show cs6 ((flatK enc u.size dk)[i*u.size+j]!)=_;rw[Yj enc hk dk hi2 hj,ei]⟩ rfl
  exact⟨(),A,env,aQ,m.upd up,m.ext up,by simp only[Dl.val,ax,aL];exact⟨#[],rfl,rfl⟩⟩
end
end Go.SX
namespace Go.RS
open Go.SX Go.Proofs
def bx3:Ct:=Kr wg sR
def aR9:
 ∀(a b c d e f:Int),(aq a/\aq b/\aq c)/\J (aq d/\aq e/\aq f)->True->pD (c9 c f::c9 a d::bI (c9 b e))=sR (a,b,c) (d,e,f):= by
  delta aq aH J bI
  rintro a b c d e f - -
  rfl
def a99:aB 199 bx3.spec:=aG Tryz.func199 (C (C aC KI) GZ) aS aR9
theorem b78:Go.Sort.SWO (Go.Proofs.ltOf sR):=⟨λx=>gH (by rw[Bk];omega),λx y z h k=>by
 have h:=Bk.1 (aX h)
 have k:=Bk.1 (aX k)
 exact f7 (Bk.2 Y),λx y z h k=>by
 have h:=bg h
 have k:=bg k
 rw[Bk] at h k
 exact gH (by rw[Bk];omega)⟩
open Go.Shelf in
def bF1:Ren:=⟨λx=>match x with|6=>198|15=>245|14=>244|28=>282|29=>283|20=>274|21=>275|22=>276|23=>277|24=>278|25=>279|26=>280|27=>281|46=>304|47=>305|48=>306|49=>307|50=>308|57=>324|n=>n,
 λx=>match x with|22=>100|24=>103|25=>320|39=>188|53=>71|55=>271|46=>384|45=>383|50=>173|66=>406|70=>410|76=>428|77=>429|n=>n,λx=>x⟩
def UV (P : cZ1) (f : Nat) : String := match P.funcs[f]? with | some F => F.name | none => ""
theorem az0 {P} {f} {B} (h1 : (UV P f == "runtime.NumGoroutine") = ct2) (h2 : P.funcs[f]? = cs6 { B with name := UV P f }) : Bears P f B := ⟨_, h1, h2⟩
theorem aU0:SlLaysF0.n6 Tryz.prog bF1:=by
 constructor <;> first|exact ik|exact az0 (by kernel_rfl) (by kernel_rfl)|kernel_rfl|(intro w;kernel_rfl)
def bi3:Go.SX.Spec:=QV wg 103 199 sR (HF sR)
def ar9:aB 198 bi3:=by
 exact a52 rfl b78 a99 aU0 rfl (λw=>by kernel_rfl) (λw=>by kernel_rfl) (enters_of Tryz.func199 (by kernel_rfl) rfl) (λh=>CT.noConfusion h) (λ_=>rfl)
variable{i:Int}
theorem aR5{ts:List fW}(h0:0<=i):nz ts (M (i+1))=nz ts (M i)++ux i (T ts (M i) cs5) (T ts (M i) cs5).2.2.2.2.2.2.toNat:=by
 rw[show M (i+1)=M i+1 by omega]
 unfold nz
 rw[ni,cI6,List.flatMap_singleton,cF2 h0]
theorem au7{r:Int}{t:fW}(h0:0<=r):ux i t (M (r+1))=ux i t (M r)++[(i,r,t.2.2.2.2.1+r*t.2.2.2.2.2.1)]:=by
 rw[show M (r+1)=M r+1 by omega]
 unfold ux
 rw[ni,kV,List.map_singleton,cF2 h0]
theorem aW0(x y:fx)(h:¬ sR x y<0)(k:¬ sR y x<0):x=y:=by
 rw[Bk] at h k
 have ⟨a,b,c⟩:=x
 have ⟨a',b',c'⟩:=y
 simp only at h k
 simp only[ck]
 omega
theorem bv3{p}(h:mT p):V (iN p)<=216:=by
 have:=(UX sR (nz p.1 (V p.1))).length_eq
 have:=Mk h.2.1 (V p.1) (dq _)
 have:=h.1
 unfold iN;omega
theorem bk2(p:ja.D)(l:List fx):(Ad p l).2.length<=V l:=by
 have ⟨m,e,hm⟩:=Ou p.2 l (Bq p.2 0,[])
 unfold Ad
 rw[e]
 exact hm.length_le
def al1:Ct:=⟨[.agg ja],[.own 103 wg],λd=>[mT d.1],λd=>((iN d.1,()),())⟩
def aT2:bG al1.ps->bL:=(λd=>{loops:=(bz 3 (λS=>{ι:=Int×cs1,qn:=fE,μ:=λi=>M (V d.1.1-i.1),inv:=λi=>0<=i.1/\i.1<=V d.1.1/\i.2=nz d.1.1 (M i.1),keep:=[1,8,9],slots:=λi=>[(3,.own 524288 3),(10,.int .i64 i.1)],keepN:=[32],names:=λi=>[(524288,.live (.row 103 wg i.2))]}) (bz 6 (λS=>{ι:=Int×cs1,qn:=fE,μ:=λi=>M (S.i 16-i.1),inv:=λi=>0<=i.1/\i.1<=S.i 16/\i.2=nz d.1.1 (M (S.i 10))++ux (S.i 10) (T d.1.1 (M (S.i 10)) cs5) (M i.1),keep:=[1,4,5,8,9,10,16],slots:=λi=>[(3,.own 524288 3),(17,.int .i64 i.1)],keepN:=[32,96],names:=λi=>[(524288,.live (.row 103 wg i.2))]}) cm))})
def Rq(a b:Int)(c:List fW)(d:Int)(e:fW)(f g:List fx):=bh a b (N c d).1 ((N c d).2.1=(N c d).2.1) (bh (N c d).2.2.1 (N c d).2.2.2.1 (N c d).2.2.2.2.1 ((N c d).2.2.2.2.2.1=(N c d).2.2.2.2.2.1) (e.2.2.2.2.2.2=e.2.2.2.2.2.2/\J (f=g)))
def NX(a:Int)(b:List fW)(c:Int)(d:List fx):=am a (a<=(N b c).2.2.2.2.2.2) (d=nz b (M c)++ux c (N b c) (M a))
def TW(a b:Int)(c:List fW):=[(a,b,ap ((N c a).2.2.2.2.1+ap (b*(N c a).2.2.2.2.2.1)))]
def aA1:
 ∀(a:List fW)(b c:Int),J (sj a b c)->wq a b c->(∃(d:Int) (e:List fx),am d (d<=O a) (e=nz a (M d))/\a=a/\O a=O a/\0=d/\a=a/\bp b c (e=[]) True)/\ ∀(d:Int)(e:List fx),am d (d<=O a) (e=nz a (M d))->eh d (O a) (d<O a) ((∃(f:Int) (g:List fx),NX f a d g/\d=d/\a=a/\bh (O a) d (N a d).2.2.2.2.2.2 (0=f) (a=a/\Rq b c a d (N a d) e g))/\ ∀(f:Int)(g:List fx),NX f a d g->au (av f (N a d).2.2.2.2.2.2) (bR ((V g+V (TW d f a))*24)/\ ∃(h:Int) (i:List fx),NX h a d i/\bi (N a d).2.2.2.2.2.2 h f/\d=d/\a=a/\bh (O a) d (N a d).2.2.2.2.2.2 (aA f=h) (a=a/\Rq b c a d (N a d) (g++TW d f a) i)) (∃(h:Int) (i:List fx),am h (h<=O a) (i=nz a (M h))/\bi (O a) h d/\a=a/\O a=O a/\aA d=h/\a=a/\bp b c (g=i) True)) (O e<=1000000) ((∀(f:fx),f∈e-> ∀(g:fx),g∈e-> ¬sR f g<0-> ¬sR g
 f<0->f=g)/\HF sR e=iN (a,b,c)):= by
  delta N O ap aq aH bh aT bp bi bZ am sj bR bJ eh aA J wq Rq NX av aF TW
  rintro x u v ⟨⟨⟨hl,-⟩,-⟩,-⟩ hp
  have hp:=hp
  have h9:=hp.1
  refine⟨⟨0,[],⟨Y,Y,rfl⟩,aI⟩,?_⟩
  rintro i l ⟨i0,i1,rfl⟩
  have len:=Mk (ts:=x) hp.2.1 (M i) Y
  refine bT (λhi=>?_) (λhi=>?_)
  .have tk:=Sp (hp.2.1 _ (cW i0 hi))
   have nx:=aR5 (ts:=x) i0
   generalize T (α:=fW) x (M i) cs5=t at *
   have ⟨⟨s0,s1⟩,⟨v0,v1⟩,c0,c1⟩:=tk
   refine⟨i0,hi,⟨0,nz x (M i),⟨Y,Y,by unfold ux;simp⟩,aI⟩,?_⟩
   rintro r l ⟨r0,r1,rfl⟩
   refine bT (λhr=>?_) (λhr=>?_)
   .have p1:=cG1 Y v1 Y Y
    have p0:=cG0 r0 (show 0<=t.2.2.2.2.2.1 by omega)
    rw[aJ (n:=r*t.2.2.2.2.2.1) Y Y,aJ (n:=t.2.2.2.2.1+_) Y Y]
    have lt:V (ux i t (M r))=M r:=by unfold ux;rw[nT,cC9]
    refine⟨by simp only[cw,lt,fq];omega,r+1,_,⟨Y,Y,rfl⟩,Y,?_⟩
    (repeat refine g9 ?_)
    exact⟨by rw[au7 r0,gI],aQ⟩
   .refine⟨i+1,_,⟨Y,Y,rfl⟩,Y,?_⟩
    (repeat refine g9 ?_)
    exact⟨by rw[nx,show r=t.2.2.2.2.2.2 by omega],aQ⟩
  .have e:M i=V x:=Y
   rw[e] at len ⊢
   exact⟨Y,λx _ y _ h k=>aW0 x y h k,rfl⟩
def aG3:aB 130 al1.spec:=aG Tryz.func130 (C aC ar9) aT2 aA1
def bV4:Ct:=⟨[.agg ja],[.fn 129 1,.box 47 ja],λ_=>[],λd=>(((),d.1,()),())⟩
def bc0:
 ∀(a:List fW)(b c:Int),dN (sj a b c) (()=()/\(a,b,c)=(a,b,c)):= by
  delta aq aH aT sj bJ J dN aF
  exact λ_ _ _ _ _=>⟨rfl,rfl⟩
def bU0:aB 64 bV4.spec:=aG Tryz.func64 aC aS bc0
def JM:Ct:=⟨[.agg wg,.box 100 (.row 103 wg)],[],λd=>[(V d.2.1:Int)<=1000],λd=>((),(d.2.1++[d.1],()))⟩
def Et(r:Loop):Prop:=Dr Tryz.prog GL r [2] (Cx JM.spec)
def Ly(a:List fx):=V a<=cu5/\ ∀(b:fx),b∈a->aq b.1/\aq b.2.1/\aq b.2.2
def bo3:
 ∀(a b c:Int)(d:List fx),(aq a/\aq b/\aq c)/\J (Ly d)->O d<=1000->bR ((V d+V [(a,b,c)])*24)/\d++[(a,b,c)]=d++[(a,b,c)]:= by
  delta O aq aH bR J Ly
  rintro a b c l-h
  exact⟨by simp only[fq];omega,rfl⟩
theorem cg6{r:Loop}(hr:xp (cS9 Tryz.f128) (Jx Tryz.f128) r):Et r:=Ct.okR JM (by kernel_rfl) aC ik aS (Bi (by kernel_rfl) bo3) hr
def af0:Ct:=⟨[.yld [2] 1,.box 100 (.row 103 wg),.box 47 ja],[],λd=>[Et d.1,d.2.1=[],mT d.2.2.1],λd=>((),(fK d.2.2.1,d.2.2.1,()))⟩
def bU1:bG af0.ps->bL:=(λd=>{loops:=(bz 2 (λS=>{ι:=Int×aq4×cs1,qn:=ot,μ:=λi=>M (V (iN d.2.2.1)-i.1),inv:=λi=>0<=i.1/\i.1<=V (iN d.2.2.1)/\(i.2.1,i.2.2)=Ad d.2.2.1 ((iN d.2.2.1).take (M i.1)),keep:=[0,1,3,11,12],slots:=λi=>[(13,.int .i64 i.1)],keepN:=[1048577,192],names:=λi=>[(64,.live (.cells 162 (cS AE i.2.1))),(1048576,.live (.cells 100 [.own 524288 3])),(524288,.live (.row 103 wg i.2.2))]}) cm)})
def HI(a:Int)(b:List fW)(c d:Int)(e:aq4)(f:List fx):=am a (a<=O (iN (b,c,d))) ((e,f)=Ad (b,c,d) (take (M a) (iN (b,c,d))))
def Gp(a b:Int)(c:aq4)(d:List fW)(e:Int):=lx (a,b) c (N (iN (d,a,b)) e).2.2
def bd2:
 ∀(a:Go.Loop)(b:List fx)(c:List fW)(d e:Int),True/\Ly b/\J (sj c d e)->Et a/\b=[]/\wq c d e->mT (c,d,e)/\(∃(f:Int) (g:aq4) (h:List fx),HI f c d e g h/\a=a/\O (iN (c,d,e))=O (iN (c,d,e))/\0=f/\c=c/\bp d e (iN (c,d,e)=iN (c,d,e)) (w (d*e)=g.1/\0=g.2/\J (b=h)))/\ ∀(f:Int)(g:aq4)(h:List fx),HI f c d e g h->eh f (O (iN (c,d,e))) (f<O (iN (c,d,e))) (∀(i:Bool),i=(Gp d e g c f).2->pK i i (i->i) (Dr Tryz.prog GL a [2] (Cx (Ct.spec JM))/\O h<=1000/\(i->i)/\au (bq i ( !cs8)) (h++[N (iN (c,d,e)) f]=fK (c,d,e)/\(c,d,e)=(c,d,e)) (∃(j:Int) (k:aq4) (l:List fx),HI j c d e k l/\bi (O (iN (c,d,e))) j f/\a=a/\O (iN (c,d,e))=O (iN (c,d,e))/\aA f=j/\c=c/\bp d e (iN (c,d,e)=iN (c,d,e)) ((Gp d e g c f).1.1=k.1/\(Gp d e g c f).1.2=k.2/\J (h++[N (iN (c,d,e)) f]=l)))) (i->ct2)
 (au (bq i ct2) (h=fK (c,d,e)/\(c,d,e)=(c,d,e)) (∃(j:Int) (k:aq4) (l:List fx),HI j c d e k l/\bi (O (iN (c,d,e))) j f/\a=a/\O (iN (c,d,e))=O (iN (c,d,e))/\aA f=j/\c=c/\bp d e (iN (c,d,e)=iN (c,d,e)) ((Gp d e g c f).1.1=k.1/\(Gp d e g c f).1.2=k.2/\J (h=l))))) (h=fK (c,d,e)) ((c,d,e)=(c,d,e)):= by
  delta N O ap aq aH aT bp bi bq bZ am sj bJ eh aA J wq HI pK av Gp Ly aF
  rintro r l0 x u v-⟨hr,rfl,hp⟩
  have hp:mT (x,u,v):=hp
  have hn:=bv3 hp
  refine⟨hp,⟨0,_,_,⟨Y,Y,rfl⟩,aI⟩,?_⟩
  rintro i k l ⟨i0,i1,hk⟩
  refine bT (λhi=>?_) (λhi=>?_)
  .have nx:=bL2 (p:=(x,u,v)) i0 hi
   have ln:=bk2 (x,u,v) ((iN (x,u,v)).take (M i))
   rw[← hk] at nx ln
   have ln:V l<=216:=by rw[fF] at ln;simp only at ln;omega
   refine⟨i0,hi,?_⟩
   generalize T (α:=fx) (iN (x,u,v)) (M i) cs5=d at *
   rintro b hb
   refine ay (λh=>?_) (λh=>?_)
   .subst h
    refine⟨λ_=>rfl,λ_=>rfl,hr,Y,λ_=>rfl,lP.2 ⟨i+1,_,_,⟨Y,Y,nx.symm⟩,Y,?_⟩⟩
    (repeat refine g9 ?_)
    refine⟨?_,aQ⟩
    rw[ao hb.symm]
   .subst h
    refine⟨rfl,λq=>(by cases q),lP.2 ⟨i+1,_,_,⟨Y,Y,nx.symm⟩,Y,?_⟩⟩
    (repeat refine g9 ?_)
    refine⟨?_,aQ⟩
    rw[I (by show ¬ (lx (u,v) k d.2.2).2=cs8;rw[← hb];decide)]
  .rw[gE Y] at hk
   exact⟨dL cJ3 hk,rfl⟩
def cl3:aB 129 af0.spec:=aG Tryz.func129 (Xg (s:=Cx JM.spec) (C (C (C aC Zv) aG3) Qw)) bU1 bd2
def aa5:Ct:=⟨[.nils,.fn 129 1,.box 47 ja],[.own 103 wg],λd=>[mT d.2.2.1],λd=>((fK d.2.2.1,()),(d.2.2.1,()))⟩
noncomputable def ar7:bG aa5.ps->bL:=(λd=>{ys:=[2],ln:=cS9 Tryz.f128,lo:=Et})
def bq3:
 ∀(a:List fW)(b c:Int),True/\True/\J (sj a b c)->wq a b c-> ∀(d:Go.Loop),Et d->Et d/\([]:List fx)=([]:List fx)/\mT (a,b,c)/\fK (a,b,c)=fK (a,b,c)/\(a,b,c)=(a,b,c):= by
  delta aq aH aT sj bJ J wq aF
  rintro x u v-h r hr
  exact⟨hr,rfl,h,rfl,rfl⟩
def aL0:aB 128 aa5.spec:=Ct.okY _ Tryz.func128 (x:=Jx Tryz.f128) (by kernel_rfl) (C aC cl3) ik ar7 (λ_ _ hr=>cg6 hr) (Bi (by kernel_rfl) bq3)
def bQ1:Ct:=⟨[.fn 129 1,.box 47 ja],[.own 103 wg],λd=>[mT d.2.1],λd=>((fK d.2.1,()),(d.2.1,()))⟩
def aQ7:
 ∀(a:List fW)(b c:Int),True/\J (sj a b c)->wq a b c->mT (a,b,c)/\fK (a,b,c)=fK (a,b,c)/\(a,b,c)=(a,b,c):= by
  delta aq aH aT sj bJ J wq aF
  exact λ_ _ _ _ h=>⟨h,rfl,rfl⟩
def bm9:aB 63 bQ1.spec:=aG Tryz.func63 (C aC aL0) aS aQ7
def av6:Ct:=⟨[.agg ja],[.own 103 wg],λd=>[mT d.1],λd=>((fK d.1,()),())⟩
def az9:
 ∀(a:List fW)(b c:Int),J (sj a b c)->wq a b c->mT (a,b,c)/\fK (a,b,c)=fK (a,b,c):= by
  delta aq aH aT sj bJ J wq aF
  exact λ_ _ _ _ h=>⟨h,rfl⟩
def ck5:aB 31 av6.spec:=aG Tryz.func31 (C (C aC bU0) bm9) aS az9
def l8(n w:Int):Prop:=1<=w/\w<=4/\0<=n/\n<256^M w
variable{n:Int}
theorem K6(h0:0<=n)(h1:n<=255):l8 n 1:=⟨by decide,by decide,h0,by show n<256;omega⟩
theorem wo(h0:0<=n)(h1:n<=65535):l8 n 2:=⟨by decide,by decide,h0,by show n<65536;omega⟩
theorem J9(h0:0<=n)(h1:n<=4294967295):l8 n 4:=⟨by decide,by decide,h0,by show n<4294967296;omega⟩
def YP:Cn:=⟨[.val (.sl bc),.val cI,.val cI],[.own 5 bc,.val cI],λd=>[(V d.1:Int)<=2000,l8 d.2.1 d.2.2.1],λd y=>(V y.1.1:Int)=V d.1+d.2.2.1,λd h=>⟨((d.1++replicate (M d.2.2.1) 0,0,()),()),by have:=h.2.1.1;simp;omega⟩⟩
def bI7:bG YP.ps->bL:=(λd=>{loops:=(bz 5 (λS=>{ι:=Int×Z,qn:=fE,μ:=λi=>M (d.2.2.1-i.1),inv:=λi=>0<=i.1/\i.1<=d.2.2.1/\(V i.2:Int)=V d.1+i.1,keep:=[1,2],slots:=λi=>[(8,.own 524288 1),(9,.int .i64 (d.2.2.1-1-i.1))],names:=λi=>[(524288,.live (.row 5 bc i.2))]}) cm)})
def mU(a:Z):=O a<=2000
def b77:
 ∀(a:Z)(b c:Int),aM a/\dP b c->mU a/\1<=c/\c<=4/\0<=b/\b<256^M c->Ni c (da b) (J (0<=ap (8*c))) (cs7 (gd ct0 1 (ap (8*c))<=b)) ((↑((0:Nat)):Int)=O a+c) (bR (V a*1)/\(∃(d:Int) (e:Z),am d (d<=c) (O e=O a+d)/\bp b c (ap (c -1)=c -1 -d) (J (a=e)))/\ ∀(d:Int)(e:Z),am d (d<=c) (O e=O a+d)->au (fH (c -1 -d)) (am (ap (8*(c -1 -d))) (gb e (bI (ct1 cw0 (fm ct0 b (ap (8*(c -1 -d))))))) (∃(f:Int) (g:Z),am f (f<=c) (O g=O a+f)/\bi c f d/\bp b c (ap (c -1 -d -1)=c -1 -f) (J (e++bI (ct1 cw0 (fm ct0 b (ap (8*(c -1 -d)))))=g)))) (O e=O a+c)):= by
  delta O ap aq aH aM bN aK bp br bi bZ am gb bw bR gv ry J bI dP dE da av fH Ni mU aF
  rintro b n w ⟨-,⟨n0,n1⟩,-⟩⟨hl,w1,w4,h0,h1⟩
  rw[aJ (n:=8*w) Y Y]
  (repeat (refine cG ?_;repeat refine cH ?_))
  refine ay (λq=>?_) (λ_=>⟨Y,⟨0,b,⟨Y,Y,Y⟩,rfl,rfl,by rw[aJ Y Y];omega,aI⟩,?_⟩)
  .exfalso
   have e:=Sz w1 Y
   rw[aJ (n:=8*w) Y Y] at e
   rw[e] at q
   simp[lY] at q
   omega
  rintro k ys ⟨k0,k1,hy⟩
  refine bT (λq=>?_) (λq=>?_)
  .rw[aJ (n:=8*(w-1-k)) Y Y,aJ (n:=w-1-k-1) Y Y]
   exact⟨Y,by simp;omega,k+1,ys++[_],⟨Y,Y,by rw[cw,fq];omega⟩,Y,rfl,rfl,Y,rfl,aQ⟩
  .omega
def bE9:aB 179 YP.spec:=jV Tryz.func179 aC bI7 b77
def bd3:Cn:=⟨[.val (.sl bc),.val cI,.val cI],[.own 5 bc],λd=>[(V d.1:Int)<=2000,l8 d.2.1 d.2.2.1],λd y=>(V y.1.1:Int)=V d.1+d.2.2.1,λd h=>⟨((d.1++replicate (M d.2.2.1) 0,()),()),by have:=h.2.1.1;simp;omega⟩⟩
def at6:
 ∀(a:Z)(b c:Int),aM a/\dP b c->mU a/\1<=c/\c<=4/\0<=b/\b<256^M c->mU a/\l8 b c/\ ∀(d:Z)(e:Int),O d=O a+c->O d=O a+c:= by
  delta O aq aH aM J dP mU aF
  exact λb n w _ h=>⟨h.1,h.2,λ_ _ k=>k⟩
def NT:aB 103 bd3.spec:=jV Tryz.func103 (C aC bE9) aS at6
def jk(n:Int):Prop:=0<=n/\n<=65535
theorem BM:jk 0:=⟨by decide,by decide⟩
def bI3:Cn:=⟨[.val cI,.val cI],[.val cI],λ_=>[],λd y=>jk y.1.1,λ_ _=>⟨((0,()),()),BM⟩⟩
def QI(a b:Int):=ap (bits BinOp.and ct0 (ap (a+b)) 65535+fm ct0 (ap (a+b)) 16)
def aB3:
 ∀(a b:Int),dP a b->True->lO ( !fI a) ( !fI b) (aF 0 65535) (am 16 (0<=QI a b) (QI a b<=65535)):= by
  delta ap aq aH bN aK br am cQ bw lO J dP aF QI
  rintro a b - -
  (repeat (refine cG ?_;repeat refine cH ?_))
  refine ay (λ_=>⟨aD,aD⟩) (λq=>?_)
  have h:(0<=a/\a<=65535)/\0<=b/\b<=65535:=by
   have:fI a=cs8/\fI b=true:=by simpa[lY] using q
   exact⟨aX this.1,aX this.2⟩
  rw[aJ (n:=a+b) Y Y]
  have e:=Fp (n:=a+b) (k:=2) Y Y
  rw[show (8:Int)*((2:Nat):Int)=16 from rfl,show (256:Int)^2=65536 from rfl] at e
  rw[e,It,aJ Y Y]
  omega
def Wq:aB 180 bI3.spec:=jV Tryz.func180 (C aC aO5) aS aB3
def ad9:Cn:=⟨[.val (.sl bc)],[.val cI],λd=>[(V d.1:Int)<=2000],λd y=>jk y.1.1,λ_ _=>⟨((0,()),()),BM⟩⟩
def ce0:bG ad9.ps->bL:=(λd=>{loops:=(bz 3 (λS=>{ι:=Int×Int,qn:=fE,μ:=λi=>M (V d.1+1-2*i.1),inv:=λi=>0<=i.1/\2*i.1<=V d.1+1/\jk i.2,keep:=[0],slots:=λi=>[(3,.int .i64 i.2),(4,.int .i64 (2*i.1))]}) cm)})
def QE(a:Z)(b:Int):=∀(c:Int),jk c-> ∃(d e:Int),am d (2*d<=O a+1) (jk e)/\bi (O a+1) (2*d) (2*b)/\a=a/\c=e/\J (ap (2*b+2)=2*d)
def be8:
 ∀(a:Z),J (aM a)->mU a->(∃(b c:Int),am b (2*b<=O a+1) (jk c)/\a=a/\0=c/\J (0=2*b))/\ ∀(b c:Int),am b (2*b<=O a+1) (jk c)->eh (2*b) (O a) (2*b<O a) ((0:Int)<=(8:Int)/\au (av (aA (2*b)) (O a)) (am (aA (2*b)) (aA (2*b)<O a) (QE a b)) (QE a b)) (0<=c) (c<=65535):= by
  delta O ap aM bi bZ am eh aA J av QE mU aF
  rintro l-hl
  refine⟨⟨0,0,⟨Y,Y,BM⟩,aI⟩,?_⟩
  rintro k s ⟨k0,k1,hs⟩
  refine ay (λq=>?_) (λ_=>hs)
  have q:=aX q
  rw[aJ (n:=2*k+1) Y Y,aJ (n:=2*k+2) Y Y]
  refine⟨Y,q,aD,ay (λz=>⟨Y,aX z,λx hx=>?_⟩) (λ_ x hx=>?_)⟩ <;> exact⟨k+1,x,⟨Y,Y,hx⟩,Y,rfl,rfl,Y,aQ⟩
def a12:aB 230 ad9.spec:=jV Tryz.func230 (C aC Wq) ce0 be8
def ca7:Cn:=⟨[.val (.sl bc)],[.val cI],λd=>[(V d.1:Int)<=2000],λd y=>jk y.1.1,λ_ _=>⟨((0,()),()),BM⟩⟩
def cq3:
 ∀(a:Z),J (aM a)->mU a->mU a/\ ∀(b:Int),jk b->aF (ap (65535 -b)) 65535:= by
  delta O ap aM J mU aF
  rintro l-hl
  exact⟨hl,λx ⟨h0,h1⟩=>by rw[aJ Y Y];omega⟩
def ZQ:aB 176 ca7.spec:=jV Tryz.func176 (C aC a12) aS cq3
def ak9:Cn:=⟨[.agg qh,.val cI],[.own 5 bc],λd=>[nX d.1,0<=d.2.1,d.2.1<=65535],λd y=>V y.1.1=20,λ_ _=>⟨((replicate 20 0,()),()),rfl⟩⟩
def bO8:bG ak9.ps->bL:=(λd=>{cuts:=(bz 4 (λS=>{ι:=Int,inv:=λi=>jk i,keep:=[1,2],slots:=λi=>[(5,.int .i64 i)],keepN:=[48]}) cm)})
def PB(a:cX):=bh a.1 a.2.1 a.2.2.1 (a.2.2.2.1=a.2.2.2.1) (a.2.2.2.2.1=a.2.2.2.2.1/\qK a.2.2.2.2.2.1 a.2.2.2.2.2.2)
def xd(a:Z)(b:Int)(c d:Prop):=O a=b+2->mU a/\c/\d
def zy:=(↑((0:Nat)):Int)<=2000
def az7:
 ∀(a:cX)(b:Int),CT.wf qh a/\J (aq b)->nX a/\aF b 65535->au a.2.2.2.2.1 (∃(c:Int),jk c/\b=b/\16384=c/\PB a) (∃(c:Int),jk c/\b=b/\0=c/\PB a)/\ ∀(c:Int),jk c->zy/\l8 69 1/\ ∀(d:Z),O d=(↑((0:Nat)):Int)+1->mU d/\l8 a.1 1/\ ∀(e:Z),O e=O d+1->mU e/\l8 b 2/\ ∀(f:Z),xd f (O e) (l8 a.2.1 2) (∀(g:Z),xd g (O f) (l8 c 2) (∀(h:Z),xd h (O g) (l8 a.2.2.1 1) (∀(i:Z),O i=O h+1->mU i/\l8 a.2.2.2.1 1/\ ∀(j:Z),O j=O i+1->zy/\l8 (ap a.2.2.2.2.2.1) 4/\ ∀(k:Z),O k=(↑((0:Nat)):Int)+4->mU k/\l8 (ap a.2.2.2.2.2.2) 4/\ ∀(l:Z),O l=O k+4->bR (V j*1)/\gb ld l/\gb j (ld++l)/\mU (j++(ld++l))/\ ∀(m:Int),jk m->mU j/\l8 m 2/\ ∀(n:Z),O n=O j+2->gb n l/\V (n++l)=20))):= by
  delta O ap aq aH bh bp gb bR ld J bI PB mU qK xd aF zy
  rintro h n ⟨hw,-⟩⟨hok,n0,n1⟩
  obtain⟨-,-,-,-,-,s0,d0⟩:=hw
  have s0:0<=h.2.2.2.2.2.1/\h.2.2.2.2.2.1<=4294967295:=s0
  have d0:0<=h.2.2.2.2.2.2/\h.2.2.2.2.2.2<=4294967295:=d0
  have ⟨h1,h2,h3,h4,h5⟩:=hok
  rw[aJ (n:=h.2.2.2.2.2.1) Y Y,aJ (n:=h.2.2.2.2.2.2) Y Y]
  refine⟨ay (λ_=>⟨16384,⟨aD,aD⟩,aI⟩) (λ_=>⟨0,BM,aI⟩),λf hf=>?_⟩
  exact⟨aD,K6 aD aD,λa ha=>⟨Y,K6 h1.1 h1.2,λb hb=>⟨Y,wo n0 n1,λc hc=>⟨Y,wo h4 h5,λd hd=>⟨Y,wo hf.1 hf.2,λe he=>⟨Y,K6 h2.1 h2.2,λg hg=>⟨Y,K6 h3.1 h3.2,λi hi=>⟨aD,J9 s0.1 s0.2,λj hj=>⟨Y,J9 d0.1 d0.2,λk hk=>⟨Y,by simp;omega,by simp;omega,by simp;omega,λm hm=>⟨Y,wo hm.1 hm.2,λo ho=>⟨Y,by rw[cw];omega⟩⟩⟩⟩⟩⟩⟩⟩⟩⟩⟩⟩
def aM9:aB 101 ak9.spec:=jV Tryz.func101 (C (C aC NT) ZQ) bO8 az7
def bq9:Cn:=⟨[.agg FP],[.own 5 bc,.val cI],λd=>[nX d.1.1,V d.1.2<=1000],λd y=>V y.1.1=V d.1.2+20,λd _=>⟨((replicate (V d.1.2+20) 0,0,()),()),by simp⟩⟩
def bI8:
 ∀(a:iM),J (CT.wf FP a)->nX a.1/\V a.2<=1000->au ( !aY (qt a.1)) (0=V a.2+20) (au (av 1500 (ap (O a.2+20))) (0=V a.2+20) (nX a.1/\am (ap (O a.2+20)) (ap (O a.2+20)<=65535) (∀(b:Z),V b=20->gb b a.2/\V (b++a.2)=V a.2+20))):= by
  delta O ap am gb bR aY J av
  rintro⟨h,b⟩-⟨hh,hb⟩
  have hh:=hh
  have hb:V b<=1000:=hb
  rw[show qt h=0 by rw[qt,ao hh]]
  show au (!cs7 ((0:Int)=0)) _ _
  refine lP.2 ?_
  show au (cs7 ((1500:Int)<ct0.wrap ((V b:Int)+20))) _ _
  rw[aJ (n:=(V b:Int)+20) Y Y]
  refine ay (λq=>by have q:=aX q;omega) (λ_=>⟨hh,Y,Y,λx hx=>⟨?_,?_⟩⟩)
  .show (V x+V b)*1<=_;omega
  .show (V (x++b))=_;rw[cw];show _=V b+20;omega
def aU4:aB 51 bq9.spec:=jV Tryz.func51 (C (C aC ch6) aM9) aS bI8
def b72:Cn:=⟨[.val (.sl bc),.val cI,.val cI],[.own 5 bc],λd=>[0<=d.2.1,d.2.1+2<=V d.1,V d.1<=2000],λd y=>V y.1.1=V d.1,λd _=>⟨((d.1,()),()),rfl⟩⟩
def bB8:
 ∀(a:Z)(b c:Int),aM a/\dP b c->am b (b+2<=O a) (V a<=2000)->bR (V a*1)/\am 8 (0<=b) (b<O a/\am (aA b) (aA b<O (set a (M b) (ug c))) (V (set (set a (M b) (ug c)) (M (aA b)) (ct1 cw0 c))=V a)):= by
  delta O ap aq aH aM am bR aA J dP ug aF
  rintro b a n-⟨h0,h1,h2⟩
  rw[aJ (n:=a+1) Y Y,f5,f5]
  exact⟨Y,aD,Y,Y,Y,Y,aw⟩
def aN0:aB 178 b72.spec:=jV Tryz.func178 aC aS bB8
def bJ6:Cn:=⟨[.val dB,.val dB,.val cI,.val (.sl bc)],[.val cI],λd=>[d.2.2.1=17,V d.2.2.2.1<=1000],λd y=>jk y.1.1,λ_ _=>⟨((0,()),()),BM⟩⟩
def bo9:
 ∀(a b c:Int)(d:Z),aT a/\aT b/\aq c/\J (aM d)->c=17/\V d<=1000->lO ( !cs7 (0<=c/\c<=255)) (av 65535 (O d)) (aF 0 65535) (zy/\l8 (ap a) 4/\ ∀(e:Z),O e=(↑((0:Nat)):Int)+4->mU e/\l8 (ap b) 4/\ ∀(f:Z),O f=O e+4->mU f/\l8 c 2/\ ∀(g:Z),xd g (O f) (l8 (O d) 2) (∀(h:Z),O h=O g+2->gb h d/\mU (h++d)/\ ∀(i:Int),jk i->aF i 65535)):= by
  delta O ap aq aH aM bN aK aT br cQ gb bw bR lO J av mU xd aF zy
  rintro a b p d ⟨⟨a0,a1⟩,⟨b0,b1⟩,-⟩⟨rfl,hd⟩
  rw[aJ (n:=a) Y Y,aJ (n:=b) Y Y]
  (repeat (refine cG ?_;repeat refine cH ?_))
  refine ay (λ_=>BM) (λ_=>⟨aD,J9 a0 a1,λx h1=>⟨Y,J9 b0 b1,λy h2=>⟨Y,wo Y Y,λz h3=>⟨Y,wo Y Y,λu h4=>⟨Y,by rw[cw];omega,λ_ h=>h⟩⟩⟩⟩⟩)
def Z0:aB 106 bJ6.spec:=jV Tryz.func106 (C (C (C aC bB2) NT) ZQ) aS bo9
def bf1:Cn:=⟨[.val dB,.val dB,.agg Q4],[.own 5 bc,.val cI],λd=>[jk d.2.2.1.1,jk d.2.2.1.2.1,V d.2.2.1.2.2<=900],λd y=>V y.1.1=V d.2.2.1.2.2+8,λd _=>⟨((replicate (V d.2.2.1.2.2+8) 0,0,()),()),by simp⟩⟩
def Pr(a b:Z):=am 6 (6+2<=O (a++ld++b)) (V (a++ld++b)<=2000/\ ∀(c:Z),V c=V (a++ld++b)->V c=V b+8)
def bR8:
 ∀(a b c d:Int)(e:Z),aT a/\aT b/\J (iq c d e)->jk c/\jk d/\V e<=900->sJ ( !fI c) ( !fI d) (0=V e+8) (au (av 1480 (ap (O e+8))) (0=V e+8) (zy/\l8 c 2/\ ∀(f:Z),xd f (↑((0:Nat)):Int) (l8 d 2) (∀(g:Z),xd g (O f) (l8 (ap (O e+8)) 2) (∀(h:Z),O h=O g+2->gb h ld/\gb (h++ld) e/\(17:Int)=(17:Int)/\V (h++ld++e)<=1000/\ ∀(i:Int),jk i->au (aY i) (Pr h e) (Pr h e))))):= by
  delta O ap aq aH aM bN aK aT br am cQ gb bw bR aY ld J bI sJ Pr av iq mU xd aF zy
  rintro a b s d l-⟨hs,hd,hl⟩
  rw[(jP _).2 hs,(jP _).2 hd,aJ (n:=(V l:Int)+8) Y Y]
  (repeat (refine cG ?_;repeat refine cH ?_))
  refine lP.2 (ay (λq=>by have q:=aX q;omega) (λ_=>⟨aD,wo hs.1 hs.2,λx h1=>⟨Y,wo hd.1 hd.2,λy h2=>⟨Y,wo Y Y,λz h3=>?_⟩⟩⟩))
  have e:V (z++[0,0]++l)=V l+8:=by simp;omega
  rw[e]
  refine⟨by simp;omega,by simp;omega,rfl,Y,λ_ _=>ay (λ_=>?_) (λ_=>?_)⟩ <;> exact⟨aD,Y,Y,λ_ h=>h⟩
def bm3:aB 107 bf1.spec:=jV Tryz.func107 (C (C (C (C aC at2) NT) Z0) aN0) aS bR8
def b43:Cn:=⟨[.val cI,.val cI],[.val cI],λd=>[jk d.1,jk d.2.1],λd y=>jk y.1.1,λ_ _=>⟨((0,()),()),BM⟩⟩
def a45:
 ∀(a b:Int),dP a b->jk a/\aF b 65535-> ∀(c:Int),jk c->au (aY c) (aF 65535 65535) (aF c 65535):= by
  delta aq aH aY J dP aF
  rintro a b - -
  exact λx h=>ay (λ_=>⟨aD,aD⟩) (λ_=>h)
def bL4:aB 104 b43.spec:=jV Tryz.func104 (C aC Wq) aS a45
def bz8:Cn:=⟨[.agg tY],[.own 5 bc],λd=>[d.1.2.2.1=17,dJ d.1=0],λd y=>V y.1.1=10,λ_ _=>⟨((replicate 10 0,()),()),rfl⟩⟩
def bG7:
 ∀(a b c d e f:Int),rm a b c d e f->c=17/\dJ (a,b,c,d,e,f)=0->au (gO c) False (au (cs7 (c=17)) (zy/\l8 (ap (20000+d)) 2/\ ∀(g:Z),xd g (↑((0:Nat)):Int) (l8 33434 2) (∀(h:Z),O h=O g+2->gb h (0::10::0::0::ld)/\(17:Int)=(17:Int)/\V (h++0::10::0::0::ld)<=1000/\ ∀(i:Int),jk i->jk i/\jk (aA e)/\ ∀(j:Int),jk j->zy/\l8 j 2/\ ∀(k:Z),O k=(↑((0:Nat)):Int)+2->jk (ap (20000+d))/\jk 33434/\V k<=900/\ ∀(l:Z)(m:Int),V l=V k+8->V l=10)) False):= by
  delta O ap aq aH aT gb bR bJ aA ld J bI rm mU gO xd aF zy
  rintro s d p f t l-⟨rfl,he⟩
  obtain⟨-,⟨f0,f1⟩,⟨t0,t1⟩,-⟩:=qM.1 he
  simp only at f0 f1 t0 t1
  rw[aJ (n:=20000+f) Y Y,aJ (n:=t+1) Y Y]
  refine ay (λq=>by cases q) (λ_=>ay (λ_=>?_) (λq=>by cases q))
  exact⟨aD,wo Y Y,λx h1=>⟨Y,wo aD aD,λy h2=>⟨by simp;omega,rfl,by simp;omega,λz h3=>⟨h3,⟨Y,Y⟩,λu h4=>⟨aD,wo h4.1 h4.2,λv h5=>⟨⟨Y,Y⟩,⟨aD,aD⟩,Y,λw _ h6=>Y⟩⟩⟩⟩⟩⟩
def aE6:aB 52 bz8.spec:=jV Tryz.func52 (C (C (C (C aC bL4) NT) Z0) bm3) aS bG7
def bs1:Cn:=⟨[.agg tY],[.val (.sl bc),.val cI],λd=>[d.1.2.2.1=17,dJ d.1=0],λd y=>V y.1.1=30,λ_ _=>⟨((replicate 30 0,0,()),()),rfl⟩⟩
def aF5:
 ∀(a b c d e f:Int),rm a b c d e f->c=17/\dJ (a,b,c,d,e,f)=0->au ( !aY (dJ (a,b,c,d,e,f))) ((0:Nat)=(30:Nat)) (c=17/\dJ (a,b,c,d,e,f)=0/\ ∀(g:Z),V g=10->nX (0,e,f,c,cs8,a,b)/\V g<=1000/\ ∀(h:Z)(i:Int),V h=V g+20->V h=30):= by
  delta aq aH aT bJ aY J rm aF
  rintro s d p f t l-⟨rfl,he⟩
  have hr:=qM.1 he
  obtain⟨-,⟨f0,f1⟩,⟨t0,t1⟩,l0,l1⟩:=hr
  simp only at t0 t1 l0 l1
  rw[he]
  exact lP.2 ⟨rfl,rfl,λx hx=>⟨by unfold nX tI;simp only;omega,Y,λy _ h=>Y⟩⟩
def bF7:aB 23 bs1.spec:=jV Tryz.func23 (C (C (C aC aU1) aE6) aU4) aS aF5
end Go.RS
namespace Go.SX
open Go.Proofs Go.Shelf Go.RowKit Go.Lib Go.Sort
section
variable {P:cu2} {G:vf} {u:CT}
end
end Go.SX
namespace Go.RS
open Go.SX Go.Proofs
theorem ah1{α:Type} [Inhabited α] {l:List α} {j:Int} (h0:0<=j) (h1:j<V l):l.drop (M j)=T l (M j) cs5::l.drop (M (j+1)):=by
 rw[show M (j+1)=M j+1 by omega,cK,cT Y]
 simp_all
def J2(b:Bool):Int:=if b=cs8 then 1 else 0
def EX(r:bv):Z:=[r.1,r.2.1,r.2.2.1,r.2.2.2.1,r.2.2.2.2.1,r.2.2.2.2.2.1,r.2.2.2.2.2.2.1,r.2.2.2.2.2.2.2.1,J2 r.2.2.2.2.2.2.2.2.1,J2 r.2.2.2.2.2.2.2.2.2.1,r.2.2.2.2.2.2.2.2.2.2.1,(jj r).1,(jj r).2.1,(jj r).2.2.1,(jj r).2.2.2.1,(jj r).2.2.2.2.1,(jj r).2.2.2.2.2]
theorem aB5{a b:bv}(h:EX a=EX b):a=b:=by
 have ⟨a1,a2,a3,a4,a5,a6,a7,a8,x,y,a9,c1,c2,c3,c4,c5,c6⟩:=a
 have ⟨b1,b2,b3,b4,b5,b6,b7,b8,x',y',b9,d1,d2,d3,d4,d5,d6⟩:=b
 simp only[EX,jj,List.cons.injEq] at h
 have hb:∀{p q:Bool},J2 p=J2 q->p=q:=by intro p q;cases p <;> cases q <;> decide
 obtain⟨rfl,rfl,rfl,rfl,rfl,rfl,rfl,rfl,h1,h2,rfl,rfl,rfl,rfl,rfl,rfl,rfl,-⟩:=h
 rw[hb h1,hb h2]
instance:DecidableEq bv:=λa b=>decidable_of_iff (EX a=EX b) ⟨aB5,dL EX⟩
theorem bK1:bf ([],0):=⟨⟨by decide,by decide⟩,λx hx=>by cases hx⟩
def bc4:Cn:=⟨[.box 86 iA,.val cI],[.val cI],λd=>[bf d.1],λd y=>0<=y.1.1/\(y.1.1<d.2.1∨y.1.1=0)/\bf y.2.1,λd h=>⟨((0,()),(([],0),())),by simp,by simp,bK1⟩⟩
def ay3:
 ∀(a:Z)(b c:Int),rB a b c->bf (a,b)->nG (cs7 (O a<=b)) (av c 1) (am 0 (0<c∨(0:Int)=(0:Int)) (bf (a,b))) (gP b (O a) (av 256 c) (bX (a,aA b)/\(256:Int)<=(256:Int)/\c≠0/\am (Fb a b c) (Fb a b c<c∨Fb a b c=0) (bf (qm (a,aA b) 256).2)) (c≠0/\am (cx2 (ap (N a b)) c) (D7 (N a b) c) (bf (a,aA b)))):= by
  delta N O ap aq aH aM bN aK br am bw aA J nG av Fb D7 kx rB aF gP
  rintro l p n ⟨⟨⟨hl,hw⟩,h0,h1⟩,⟨h2,h3⟩,-⟩⟨⟨hc1,hc2⟩,-⟩
  simp only[cu5] at hl hc1 hc2
  (repeat (refine cG ?_;repeat refine cH ?_))
  refine rI (λhb=>?_) (λhb1 hb2=>?_)
  .exact⟨Y,aw,⟨hc1,hc2⟩,hw⟩
  .have hb1:=bg hb1
   have hb2:=bg hb2
   have ⟨hm0,hm1⟩:=hw _ (cW hc1 Y)
   have hok:bf (l,p+1):=⟨⟨by show 0<=p+1;omega,by show p+1<=V l;omega⟩,hw⟩
   rw[aJ (n:=p+1) Y Y,aJ (n:=T l (M p) cs5) Y Y]
   refine⟨hc1,Y,ay (λk=>?_) (λk=>⟨Y,?_⟩)⟩
   .have k:=aX k
    have hr:=Q0 hok 256
    refine⟨hok.at',Y,Y,?_⟩
    rw[aJ (n:=256*_) Y Y,aJ Y Y]
    exact⟨xz Y,.inl (xV Y Y),hr.1⟩
   .exact⟨xz hm0,.inl (xV hm0 Y),hok⟩
def CS:aB 12 bc4.spec:=jV Tryz.func12 (C aC Yk) aS ay3
def bC3:Cn:=⟨[.box 86 iA],[.agg yw],λd=>[bf d.1],λd y=>LN y.1.1/\bf y.2.1,λd h=>⟨(((0,0),()),(d.1,())),.inl rfl,h.1⟩⟩
def BL(a:Int)(b c:Prop):=∀(d:Z)(e:Int),am a b (bf (d,e))->bf (d,e)/\c
def Gr(a:Prop):=∀(b:Z)(c:Int),J (aM b/\aq c)->bf (b,c)->bf (b,c)/\a
def Ck(a:Int)(b:Z)(c:Int):=am a (a<3∨a=0) (bf (b,c))
theorem bz9:
 Gr (∀(a:Int)(b:Z)(c:Int),Ck a b c->au (aY a) (LN (0,0)/\bf (b,c)) (bf (b,c)/\ ∀(d:Int),BL d (d<4∨d=0) (∀(e:Int)(f:Z)(g:Int),am e (e<4∨e=0) (bf (f,g))->bP e (O ((1:Int)::(3:Int)::(10:Int)::bI 1000)) (LN (ap (1+d),N ((1:Int)::(3:Int)::(10:Int)::bI 1000) e)) (bf (f,g))))):= by
 delta N O ap aq aH aM am aY J bI BL Gr bP aF Ck
 rintro l p-h
 refine⟨h,?_⟩
 rintro r l2 p2 ⟨h1,h2,h3⟩
 refine ay (λhb=>⟨.inl rfl,h3⟩) (λhb=>⟨h3,?_⟩)
 rintro b l3 p3 ⟨h4,h5,h6⟩
 refine⟨h6,?_⟩
 rintro e l4 p4 ⟨h7,h8,h9⟩
 refine⟨h7,by simp;omega,.inr ?_,h9⟩
 rw[aJ Y Y]
 have:e=0∨e=1∨e=2∨e=3:=Y
 obtain rfl|rfl|rfl|rfl:=this <;> simp <;> omega
def aV6:aB 37 bC3.spec:=jV Tryz.func37 (C aC CS) aS bz9
def bt5:Cn:=⟨[.box 86 iA],[.val dB],λd=>[bf d.1],λd y=>bf y.2.1/\0<=y.1.1/\y.1.1<=4294967295,λd h=>⟨((0,()),(d.1,())),h.1,by simp,by simp⟩⟩
theorem bn8:
 Gr (∀(a:Int)(b:Z)(c:Int),am a (a<12∨a=0) (bf (b,c))->au (cs7 (a=11)) (bf (b,c)/\ ∀(d:Int)(e:Z)(f:Int),am d (d<65536∨d=0) (bf (e,f))->am 16 (bf (e,f)) (∀(g:Int),BL g (g<65536∨g=0) (aT (ct1 ct3 (ap (gd ct0 d 16+g)))))) (bf (b,c)/\ ∀(d:Int)(e:Z)(f:Int),Ck d e f->am 16 (bf (e,f)) (∀(g:Int),BL g (g<8∨g=0) (aT (ct1 ct3 (ap (ap (167772160+gd ct0 d 16)+g))))))):= by
 delta ap aq aH aM aT am J BL Gr aF Ck
 rintro l p-h
 refine⟨h,?_⟩
 rintro r l2 p2 ⟨h1,h2,h3⟩
 refine ay (λhb=>⟨h3,?_⟩) (λhb=>⟨h3,?_⟩)
 .rintro a l4 p4 ⟨h4,h5,h6⟩
  refine⟨Y,h6,?_⟩
  rintro a l4 p4 ⟨h4,h5,h6⟩
  exact⟨h6,WX _⟩
 .rintro a l4 p4 ⟨h4,h5,h6⟩
  refine⟨Y,h6,?_⟩
  rintro a l4 p4 ⟨h4,h5,h6⟩
  exact⟨h6,WX _⟩
def bf6:aB 78 bt5.spec:=jV Tryz.func78 (C aC CS) aS bn8
def ca1:Cn:=⟨[.box 86 iA,.agg mM],[.val dB],λd=>[bf d.1],λd y=>bf y.2.1/\0<=y.1.1/\y.1.1<=4294967295,λd h=>⟨((0,()),(d.1,())),h.1,by simp,by simp⟩⟩
def Sm(a:Int)(b:List ar)(c:Int):=∀(d:Z)(e:Int),am a (a<O (N b c).1∨a=0) (bf (d,e))->bP a (O (N b c).1) (bf (d,e)) (aT (N (N b c).1 a).1)
def Ju:=∀(a:Int)(b:Z)(c:Int),bf (b,c)/\aT a->bf (b,c)/\aT a
def aH4:
 ∀(a:Z)(b:Int)(c:List ar)(d:List bu)(e:List cJ),(aM a/\aq b)/\J (gT c d e)->bf (a,b)->au (aY (O c)) (bf (a,b)/\Ju) (bf (a,b)/\ ∀(f:Int)(g:Z)(h:Int),am f (f<O c∨f=0) (bf (g,h))->am f (f<O c) (∀(i:Bool),i=aY (O (N c f).1)->pK ( !i) ( !i) (bf (g,h)) (∀(j:Int)(k:Z)(l:Int),am j (j<12∨j=0) (bf (k,l))->bw i/\au (br i (cs7 (j=11))) (bf (k,l)/\Ju) (bf (k,l)/\ ∀(m:Int),Sm m c f)) (i=ct2->ct2) (au (br i ct2) (bf (g,h)/\Ju) (bf (g,h)/\ ∀(j:Int),Sm j c f)))):= by
  delta N O aq aH aM gT nh dh dC cU aT jR br am bw bJ aY J pK kL Sm Ju bP nC aF
  rintro l p ns ls hs ⟨-,⟨⟨hnl,hnw⟩,-⟩,-⟩ hc
  refine ay (λh=>?_) (λh=>?_)
  .exact⟨hc,λx l2 p2 h=>h⟩
  have h:=bg h
  refine⟨hc,?_⟩
  rintro x l2 p2 ⟨x0,x1,hc2⟩
  have x1:x<(V ns:Int):=Y
  have hX:=hnw _ (cW x0 x1)
  generalize T ns (M x) cs5=X at hX ⊢
  have hp:=hX.1.2
  refine⟨x0,x1,?_⟩
  intro b hb
  refine ay (λq=>?_) (λq=>?_)
  .have hb0:b=false:=by simpa using q
   subst hb0
   have hne:=bg hb.symm
   refine⟨aw,hc2,?_⟩
   rintro y l3 p3 ⟨y0,y1,hc3⟩
   rw[uh]
   (repeat refine⟨aw,?_⟩)
   refine ay (λq=>?_) (λq=>?_)
   .exact⟨hc3,λx l2 p2 h=>h⟩
   .refine⟨hc3,?_⟩
    rintro z l4 p4 ⟨z0,z1,hc4⟩
    have z1:z<(V X.1:Int):=Y
    have:=hp _ (cW z0 z1)
    exact⟨z0,z1,hc4,this.1⟩
  .have hb0:b=true:=by simpa using q
   subst hb0
   refine⟨rfl,aw,?_⟩
   rw[cond_true]
   exact⟨hc2,λx l2 p2 h=>h⟩
def b21:aB 38 ca1.spec:=jV Tryz.func38 (C (C aC CS) bf6) aS aH4
def aK6:Cn:=⟨[.box 86 iA],[.val cI],λd=>[bf d.1],λd y=>bf y.2.1/\(y.1.1=17∨y.1.1=1∨y.1.1=6),λd h=>⟨((1,()),(d.1,())),h.1,by simp⟩⟩
theorem bj5:
 Gr (∀(a:Int)(b:Z)(c:Int),Ck a b c->bP a (O ((17:Int)::(1:Int)::bI 6)) (bf (b,c)) (N ((17:Int)::(1:Int)::bI 6) a=(17:Int)∨N ((17:Int)::(1:Int)::bI 6) a=(1:Int)∨N ((17:Int)::(1:Int)::bI 6) a=(6:Int))):= by
 delta N O aq aH aM am J bI Gr bP aF Ck
 rintro l p-h
 refine⟨h,?_⟩
 rintro r l2 p2 ⟨h1,h2,h3⟩
 refine⟨h1,by simp;omega,h3,?_⟩
 exact ao1 (p:=λv=>v=17∨v=1∨v=6) aw h1 (by simp;omega)
def bE0:aB 40 aK6.spec:=jV Tryz.func40 (C aC CS) aS bj5
def af2:Ct:=⟨[.agg ky,.agg tc,.val cI],[.agg ky,.val cI],λd=>[0<=d.2.2.1,d.2.2.1<=V (bO d.2.1),∀ x∈bO d.2.1,(V x.2.2:Int)<=1000000,V (vW d.1)+V (vR d.1)<=1000,(V (bO d.2.1):Int)<=1000000000000],λd=>((((bO d.2.1).drop (M d.2.2.1)).foldl m8 d.1,V (bO d.2.1),()),())⟩
def aY5:bG af2.ps->bL:=(λd=>{loops:=(bz 1 (λS=>{ι:=bS×Int,qn:=fE,μ:=λi=>M (V (bO d.2.1)-i.2),inv:=λi=>0<=i.2/\i.2<=V (bO d.2.1)/\((bO d.2.1).drop (M i.2)).foldl m8 i.1=((bO d.2.1).drop (M d.2.2.1)).foldl m8 d.1/\V (vW i.1)+V (vR i.1)<=1000,keep:=[3,4,6,7],slots:=λi=>[(2,.int .i64 i.2)],keepN:=[80,112],names:=λi=>[(64,.live (.cells 96 (cS ky i.1)))]}) cm)})
def N8(a:ag3)(b c:Prop):=zS a (Bz a) (z8 a/\Cq a/\Cf a/\AJ a/\uK b c)
def BZ(a:bS)(b:ag3)(c:Int):=nF a (N b.2.2.2.2.2.2.2.1 c).1 (N b.2.2.2.2.2.2.2.1 c).2.2
def Iw(a:bS):=V (vW a)+V (vR a)<=1000
def Ib(a:Int)(b:ag3)(c:bS)(d:bS)(e:Int):=bo a (O (bO b)) (cw5 m8 c (drop (M a) (bO b))=cw5 m8 d (drop (M e) (bO b))) (Iw c)
def bJ5:
 ∀(a:bS)(b:ag3)(c:Int),CT.wf ky a/\CT.wf tc b/\J (aq c)->bo c (O (bO b)) (C2 b) (V (vW a)+V (vR a)<=1000/\m9 (O (bO b)))->(∃(d:bS) (e:Int),Ib e b d a c/\c=e/\(0:Int)=(0:Int)/\N8 b ((0:Int)=(0:Int)) (a.1=d.1/\a.2.1=d.2.1/\a.2.2.1=d.2.2.1/\a.2.2.2.1=d.2.2.2.1/\a.2.2.2.2.1=d.2.2.2.2.1/\a.2.2.2.2.2.1=d.2.2.2.2.2.1/\J (a.2.2.2.2.2.2=d.2.2.2.2.2.2)))/\ ∀(d:bS)(e:Int),Ib e b d a c->eh e (wA b) (e<wA b) (au (aY (N b.2.2.2.2.2.2.2.1 e).2.1) (nM d/\bV (N
 b.2.2.2.2.2.2.2.1 e).2.2/\ ∃(f:bS) (g:Int),Ib g b f a c/\bi (O (bO b)) g e/\aA e=g/\(0:Int)=(0:Int)/\N8 b ((0:Int)=(0:Int)) ((BZ d b e).1=f.1/\(BZ d b e).2.1=f.2.1/\(BZ d b e).2.2.1=f.2.2.1/\(BZ d b e).2.2.2.1=f.2.2.2.1/\(BZ d b e).2.2.2.2.1=f.2.2.2.2.1/\(BZ d b e).2.2.2.2.2.1=f.2.2.2.2.2.1/\J ((BZ d b e).2.2.2.2.2.2=f.2.2.2.2.2.2))) (∃(f:bS) (g:Int),Ib g b f a c/\bi (O (bO b)) g e/\aA e=g/\(0:Int)=(0:Int)/\N8 b ((0:Int)=(0:Int)) (d.1=f.1/\d.2.1=f.2.1/\d.2.2.1=f.2.2.1/\d.2.2.2.1=f.2.2.2.1/\d.2.2.2.2.1=f.2.2.2.2.1/\d.2.2.2.2.2.1=f.2.2.2.2.2.1/\J (d.2.2.2.2.2.2=f.2.2.2.2.2.2)))) (d=cw5 m8 a (drop (M c) (bO b))) (e=O (bO b)):= by
  delta N O ap aq aH bh bp bi bZ am zS aY bV bo eh N8 aA J BZ Ib iz AJ Cf av z8 Cq wA m9 Bz C2 uK Iw
  rintro v w r-⟨r0,r1,hd,hv,hl⟩
  refine⟨⟨v,r,⟨r0,r1,rfl,hv⟩,aI⟩,?_⟩
  rintro u k ⟨b,k1,a,hu⟩
  refine bT (λh=>?_) (λh=>?_)
  .have h:k<V (bO w):=h
   have hx:=hd _ (cW b h)
   have nx:=ah1 b h
   rw[nx,cx7] at a
   refine⟨b,h,?_⟩
   rw[show w.2.2.2.2.2.2.2.1=bO w from rfl]
   generalize T (bO w) (M k) cs5=x at *
   refine bT (λq=>?_) (λq=>?_)
   .have q:=q
    have e:m8 u x=nF u x.1 x.2.2:=by unfold m8;rw[ao q]
    rw[e] at a
    have hz:=bo8 u x.1 x.2.2
    refine⟨⟨Y,Y⟩,hx,_,k+1,⟨Y,Y,a,Y⟩,Y,aJ Y Y,aI⟩
   .have q:=q
    have e:m8 u x=u:=by unfold m8;rw[I q]
    rw[e] at a
    exact⟨u,k+1,⟨Y,Y,a,hu⟩,Y,aJ Y Y,aI⟩
  .have h:¬ k<V (bO w):=h
   rw[List.drop_eq_nil_of_le Y] at a
   exact⟨a,Y⟩
def aC3:aB 33 af2.spec:=aG Tryz.func33 (C aC bj3) aY5 bJ5
def Vs:Ct:=⟨[.agg mM,.agg ja,.val cI],[.agg Mb],λd=>[xM d.1,mT d.2.1,1<=d.2.2.1,d.2.2.1<=20000],λd=>((rx d.1 d.2.1 d.2.2.1,()),())⟩
def a41:bG Vs.ps->bL:=(λd=>{loops:=(bz 10 (λS=>{ι:=Int×aP×bS×Int×Z×Int,qn:=⟨λk_=>∀(j:Int)(w:aP)(v:bS)(r:Int)(o:Z)(a:Int),k_ (j,w,v,r,o,a),λk_ h_ i=>h_ i.1 i.2.1 i.2.2.1 i.2.2.2.1 i.2.2.2.2.1 i.2.2.2.2.2,λk_=>∃ (j:Int) (w:aP) (v:bS) (r:Int) (o:Z) (a:Int),k_ (j,w,v,r,o,a),λk_ ⟨j,w,v,r,o,a,h_⟩=>⟨_,h_⟩⟩,μ:=λi=>M (V (fK d.2.1)-i.1),inv:=λi=>0<=i.1/\i.1<=V (fK d.2.1)/\(i.2.1,i.2.2.1,i.2.2.2.1,i.2.2.2.2.1,i.2.2.2.2.2)=pz d.1 d.2.1 d.2.2.1 (M i.1),keep:=[2,4,6,7,11,13,16],slots:=λi=>[(14,.int .i64 i.2.2.2.1),(15,.int .i64 i.2.2.2.2.2),(17,.int .i64 i.1)],keepN:=[80,112,960],names:=λi=>[(128,.live (.cells 39 (cS tc i.2.1))),(192,.live (.cells 96 (cS ky i.2.2.1))),(224,.live (.cells 41 [.nilsl,.own 524288 1,.nilsl,.nilsl,.nilsl,.int .i64 0,.int .i64 0,.int .i64 0,.nilsl,.nilsl,.nilsl,.nilsl,.nilsl,.bool cs8])),(524288,.live (.row 3 cI i.2.2.2.2.1))]}) cm)})
def Xv(a:ag3)(b:aP)(c d:Prop):=a.2.2.2.1=b.2.2.2.1/\a.2.2.2.2.1=b.2.2.2.2.1/\a.2.2.2.2.2.1=b.2.2.2.2.2.1/\a.2.2.2.2.2.2.1=b.2.2.2.2.2.2.1/\a.2.2.2.2.2.2.2.1=b.2.2.2.2.2.2.2.1/\a.2.2.2.2.2.2.2.2=b.2.2.2.2.2.2.2.2/\c/\d
def ae9(a:bS)(b:bS)(c d:Prop):=a.2.1=b.2.1/\a.2.2.1=b.2.2.1/\a.2.2.2.1=b.2.2.2.1/\a.2.2.2.2.1=b.2.2.2.2.1/\a.2.2.2.2.2.1=b.2.2.2.2.2.1/\a.2.2.2.2.2.2=b.2.2.2.2.2.2/\bh 0 0 0 c d
def Of(a:ag3)(b:aP)(c:bS)(d:bS)(e f:Prop):=a.1.1=b.1.1/\a.1.2.1=b.1.2.1/\a.1.2.2=b.1.2.2/\a.2.1=b.2.1/\a.2.2.1=b.2.2.1/\Xv a b (c.1=d.1) (ae9 c d e f)
def HV:=(([]:List bv),([]:Z),vE,ct2)
def bc5:
 ∀(a:List ar)(b:List bu)(c:List cJ)(d:List fW)(e f g:Int),gT a b c/\sj d e f/\J (aq g)->xM (a,b,c)/\mT (d,e,f)/\1<=g/\g<=20000->xi (a,b,c)/\ ∀(h:ag3)(i:Int),h=Gq (a,b,c)/\i=jA (a,b,c)-> ∀(j:Int),uc (j=(jp (a,b,c)).1) (jp (a,b,c)).2 (∀(k:bS)(l:Int),k=td 0 0 j g/\l=pZ 0 0 j g-> ∀(m:Bool),m=( !aY i)->bN m/\bw m/\Eo (br m ( !aY l)) (V d<=24/\(∀(n:fW),n∈d->sf n)/\J (jJ (e,f)=0)) ( !cs7 ((0:Int)=(0:Int))) (HV=rx (a,b,c) (d,e,f) g) (mT (d,e,f)/\ ∀(n:List
 fx),n=fK (d,e,f)->(∃(o:Int) (p:aP) (q:bS) (r:Int) (s:Z) (t:Int),am o (o<=O (fK (d,e,f))) ((p,q,r,s,t)=pz (a,b,c) (d,e,f) g (M o))/\g=g/\0=r/\0=t/\0=o/\d=d/\bh e f 0 ((0:Int)=(0:Int)) ((0:Int)=(0:Int)/\ct2=ct2/\n=n/\Of h p k q cs8 (J (s=[]))))/\ ∀(o:Int)(p:aP)(q:bS)(r:Int)(s:Z)(t:Int),am o (o<=O (fK (d,e,f))) ((p,q,r,s,t)=pz (a,b,c) (d,e,f) g (M o))->eh o (O n) (o<O n) (am (N n o).1 ((N n o).1<O d) (bP o (O n) (s9 p) (∀(u:ag3),tX (u=z6 p (N n o).2.2)
 (ru p (N n o).2.2) (HV=rx (a,b,c) (d,e,f) g) (bo r (O (bO u)) (C2 u) (Iw q/\m9 (O (bO u))/\ ∀(v:bS)(w:Int),v=cw5 m8 q (drop (M r) (bO u))/\w=O (bO u)->nM v/\0<=v.2.2.1/\ ∀(x:bS)(y:Z)(z:Int),x=nL v (N n o).2.2 (N d (N n o).1).1 (N d (N n o).1).2.1 (N d (N n o).1).2.2.1 (N d (N n o).1).2.2.2.1/\y=uW v (N n o).2.2 (N d (N n o).1).1 (N d (N n o).1).2.1 (N d (N n o).1).2.2.1 (N d (N n o).1).2.2.2.1/\z=oV v (N n o).2.2 (N d (N n o).1).1 (N d (N n o).1).2.1 (N d (N n o).1).2.2.1 (N d (N n o).1).2.2.2.1->au ( !aY z) (∃(A:Int) (B:aP) (S:bS) (D:Int) (E:Z) (F:Int),am A (A<=O (fK (d,e,f))) ((B,S,D,E,F)=pz (a,b,c) (d,e,f) g (M A))/\bi (O (fK (d,e,f))) A o/\g=g/\w=D/\(N n o).2.2=F/\aA o=A/\d=d/\bh e f 0 ((0:Int)=(0:Int))
 ((0:Int)=(0:Int)/\ct2=ct2/\n=n/\Of u B v S cs8 (J (s=E)))) (s9 u/\bV y/\ ∀(A:ag3)(B S:Int),A=vw u (N n o).2.2 0 y/\B=vv u (N n o).2.2 0/\S=o7 u (N n o).2.2 0->au ( !aY S) (HV=rx (a,b,c) (d,e,f) g) (vJ s (bI B)/\ ∃(D:Int) (E:aP) (F:bS) (G:Int) (H:Z) (K:Int),am D (D<=O (fK (d,e,f))) ((E,F,G,H,K)=pz (a,b,c) (d,e,f) g (M D))/\bi (O (fK (d,e,f))) D o/\g=g/\w=G/\(N n o).2.2=K/\aA o=D/\d=d/\bh e f 0 ((0:Int)=(0:Int)) ((0:Int)=(0:Int)/\ct2=ct2/\n=n/\Of A E x F
 true (J (s++bI B=H)))))))))) (s9 p) (∀(u:ag3),tX (u=z6 p (ap (ap (t+g)+100000))) (ru p (ap (ap (t+g)+100000))) (HV=rx (a,b,c) (d,e,f) g) (bo r (O (bO u)) (C2 u) (Iw q/\m9 (O (bO u))/\ ∀(v:bS),uc (v=cw5 m8 q (drop (M r) (bO u))) (O (bO u)) (nM v/\ ∀(w:bS),w=yu v->(w.2.2.2.2.2.2,s,u,cs7 (O w.2.2.2.2.2.2=O s))=rx (a,b,c) (d,e,f) g)))))):= by
  delta N O ap aq aH gT nh dh dC bN aK bh cU aT bp jR br bi bZ am sj bw bR vE bJ aY bV bo eh aA Xv J ae9 bI Of kL av bP vJ m9 nC kx tX C2 HV Eo Iw uc aF
  rintro ns ls hs ts b1 b2 t-⟨hN,hp,t1,t2⟩
  have hu:∀ x∈ts,0<=x.1/\x.1<=4294967295:=λx hx=>by have h:x.1/16777216=10:=(hp.2.1 x hx).1;omega
  have hc:=hN.d.right hN.p
  have ok:=λk hk=>Pc hN hp hu ⟨t1,t2⟩ k hk
  have so:=Kl hp
  refine⟨ap9 hN.d.nb aD,?_⟩
  rintro w e ⟨hw,he⟩
  have he:=he.trans hc
  have hw:=hw.trans (ao hc)
  subst he hw
  rintro x y ⟨rfl,-⟩
  rintro v e ⟨rfl,he⟩
  have he:=he.trans (Uf hN ⟨t1,Y⟩)
  subst he
  rintro c hc
  have hc:=hc
  subst hc
  (repeat refine⟨λ_=>(by first|rfl|exact⟨λ_=>rfl,aQ⟩|exact⟨λ_=>rfl,λ_=>rfl,aQ⟩),?_⟩)
  rintro c hc
  have hc:=hc
  subst hc
  (repeat refine⟨λ_=>(by first|rfl|exact⟨λ_=>rfl,aQ⟩|exact⟨λ_=>rfl,hp.1,hp.2.1,hp.2.2,aQ⟩),?_⟩)
  refine lP.2 ⟨hp,?_⟩
  rintro l rfl
  refine⟨⟨0,Cy (ns,ls,hs),td 0 0 (jp (ns,ls,hs)).1 t,0,[],0,⟨Y,Y,rfl⟩,aI⟩,?_⟩
  rintro j w v r o a ⟨j0,j1,hst⟩
  have ⟨m,ml,m3⟩:=ok (M j) Y
  rw[← hst] at m ml m3
  have hn3:=hN.d.n3
  have hnx:=m.nx
  have hol:=m.ol
  have hq:=m.q0
  have hd1:=m.w.d
  have ⟨L,mm,vi⟩:=m.vi
  have vsz:=vi.size
  simp only at hnx hol vsz m3
  have hrd:r=(V (bO w):Int):=m.rd
  refine bT (λq=>?_) (λq=>?_)
  .have dd:=so.d _ (cW j0 q)
   have nx:=ad3 (n:=(ns,ls,hs)) (p:=(ts,b1,b2)) (t:=t) j0 q
   have dj:=ah1 j0 q
   have hle:=ml _ (by rw[dj];exact dU)
   rw[← hst] at nx
   refine⟨j0,q,dd.t.1,dd.t.2,j0,q,.inl m.w.sim,?_⟩
   generalize T (α:=fx) (fK (ts,b1,b2)) (M j) cs5=d at *
   have ⟨r1,r2,r3,r4,⟨L2,m2,r5⟩,r6,r7,r8,r9,r10⟩:=m.run hle (by have:=dd.at';omega)
   have hat:=dd.at'
   have vs2:=r5.size
   have r7:(lN (w,v,r,o,a) d.2.2).2.2.1=v.2.2.1:=r7
   rw[r7] at vs2
   rintro w2 e ⟨hw,he⟩
   have he:=he.trans r10
   have hw:w2=mF (w,v,r,o,a) d.2.2:=hw.trans (ao r10)
   subst he hw
   have dl:=r1.d
   refine lP.2 ⟨Y,r9,λx hx=>by have:=r1.dd x hx;omega,Y,Y,?_⟩
   rintro u k ⟨hu1,hk⟩
   have hu1:u=lN (w,v,r,o,a) d.2.2:=hu1
   have hk:=hk
   subst hu1 hk
   refine⟨⟨Y,Y⟩,by rw[r7];show (0:Int)<=v.2.2.1;omega,?_⟩
   rintro u b e ⟨hu1,hb,he⟩
   have he:e=Rp (ts,b1,b2) (w,v,r,o,a) d:=he
   have hb:=hb
   have hu1:=hu1
   subst hu1 hb
   refine ay (λk=>?_) (λk=>?_)
   .have k:=lz k
    refine⟨j+1,mF (w,v,r,o,a) d.2.2,lN (w,v,r,o,a) d.2.2,(V (bO (mF (w,v,r,o,a) d.2.2)):Int),o,d.2.2,⟨Y,Y,?_⟩,Y,?_⟩
    .rw[nx];unfold zK;rw[I (λz=>k (he.trans z))]
    .rw[aJ Y Y]
     exact aI
   .have k:=lq k
    have k:=he.symm.trans k
    have hz:=ZE (a:=d.2.2) (q:=(M j:Int)) (by show 0<V ns;have:3<=V ns:=hn3;omega) r2 r3 Y r4 Y
    have ⟨b1',b2'⟩:=Wf (lN (w,v,r,o,a) d.2.2) d.2.2 (i7 (ts,b1,b2) d).1 (i7 (ts,b1,b2) d).2.1 (i7 (ts,b1,b2) d).2.2.1 (i7 (ts,b1,b2) d).2.2.2.1
    refine⟨.inl r1.sim,by show (V (Ge (ts,b1,b2) (w,v,r,o,a) d):Int)<=_;unfold Ge;omega,?_⟩
    rintro w3 g y ⟨hw3,hg,hy⟩
    have hy:=hy.trans hz
    have hg:=hg.trans (ao hz)
    have hw3:w3=wx (mF (w,v,r,o,a) d.2.2) d.2.2 0 (Ge (ts,b1,b2) (w,v,r,o,a) d):=hw3.trans (ao hz)
    subst hy hg hw3
    refine lP.2 ⟨by simp only[fq];omega,j+1,wx (mF (w,v,r,o,a) d.2.2) d.2.2 0 (Ge (ts,b1,b2) (w,v,r,o,a) d),nL (lN (w,v,r,o,a) d.2.2) d.2.2 (i7 (ts,b1,b2) d).1 (i7 (ts,b1,b2) d).2.1 (i7 (ts,b1,b2) d).2.2.1 (i7 (ts,b1,b2) d).2.2.2.1,(V (bO (mF (w,v,r,o,a) d.2.2)):Int),o++[dw (mF (w,v,r,o,a) d.2.2)],d.2.2,⟨Y,Y,?_⟩,Y,?_⟩
    .rw[nx];unfold zK;rw[ao k]
    .rw[aJ Y Y]
     exact aI
  .have hj:M j=V (fK (ts,b1,b2)):=Y
   have ha:cu w=a:=m.nw.1
   have hw0:0<=cu w:=m.w.s.now.1
   have ⟨r1,r2,r3,r4,⟨L2,m2,r5⟩,r6,r7,r8,r9,r10⟩:=m.run (a:=a+t+100000) (by show a<=_;omega) Y
   have vs2:=r5.size
   have r7:(lN (w,v,r,o,a) (a+t+100000)).2.2.1=v.2.2.1:=r7
   rw[r7] at vs2
   rw[aJ (n:=a+t) Y Y,aJ (n:=a+t+100000) Y Y]
   refine⟨.inl m.w.sim,?_⟩
   rintro w2 e ⟨hw,he⟩
   have he:=he.trans r10
   have hw:w2=mF (w,v,r,o,a) (a+t+100000):=hw.trans (ao r10)
   subst he hw
   have dl:=r1.d
   refine lP.2 ⟨Y,r9,λx hx=>by have:=r1.dd x hx;omega,Y,Y,?_⟩
   rintro u k ⟨hu1,-⟩
   have hu1:u=lN (w,v,r,o,a) (a+t+100000):=hu1
   subst hu1
   refine⟨⟨Y,Y⟩,?_⟩
   rintro u rfl
   unfold rx
   rw[← hj,← hst]
   rfl
def ak2:aB 7 Vs.spec:=aG Tryz.func7 (C (C (C (C (C (C (C (C (C (C aC (Ct.named bl0)) (Ct.named Q8)) (Ct.named a36)) bS2) (Ct.named ck5)) (Ct.named bd8)) (Ct.named aC3)) (Ct.named b67)) (Ct.named aD7)) (Ct.named bE8)) a41 bc5
def Md:Net:=vl cs8 ([],0)
def Dc:ja.D:=([((jp Md).2,17,0,1,0,1,1)],(0,0))
def WW:List fx:=[(0,0,0)]
def F7:Mb.D:=UL (WW.foldl (zK Dc) (JJ Md 100)) 100
theorem P0:bf (([],0):bj):=⟨⟨by decide,by decide⟩,λx hx=>by cases hx⟩
theorem Wo:xM Md:=⟨PF P0 cs8,λi hi=>YS P0 cs8 hi⟩
theorem ca5:mT Dc:=⟨aD,λt ht=>by
 rw[iV.1 ht]
 exact⟨Ye Wo,.inr (.inr rfl),aD,aD,aD,aD,aD⟩,rfl⟩
theorem b26:fK Dc=WW:=by
 have e:iN Dc=[(0,0,0)]:=by
  have e0:nz Dc.1 (V Dc.1)=[(0,0,0)]:=rfl;unfold iN HF;rw[e0,List.mergeSort_singleton]
 unfold fK
 rw[e]
 decide +kernel
theorem bf7:rx Md Dc 100=F7:=by unfold rx pz;rw[cz4,b26];rfl
theorem a34:F7.2.2.2=cs8/\V F7.1=1/\(T F7.1 0 cs5).2.2.2.2.2.2.2.2.1=cs8/\(T F7.1 0 cs5).2.2.2.2.2.2.2.2.2.2.2.2.1=1:=by decide +kernel
def by2:Ct:=⟨[],[.val .bool],λ_=>[],λ_=>((cs8,()),())⟩
theorem bf3:
 True->True->(0:Int)<=(0:Int)/\ ∀(a:Z)(b:Int),(a,b)=(if (↑((0:Nat)):Int)<=0 then ([]:Z) else take 0 ([]:Z),(0:Int))->bX (a,b)/\ ∀(c:List ar)(d:List bu)(e:List cJ)(f:Z)(g:Int),(c,d,e)=vl cs8 (a,b)/\(f,g)=DE cs8 (a,b)-> ∀(h i:Int),h=(jp (c,d,e)).1/\i=(jp (c,d,e)).2->xM (c,d,e)/\mT ([(i,17,0,1,0,1,1)],0,0)/\(1:Int)<=(100:Int)/\(100:Int)<=(20000:Int)/\ ∀(j:ar2),j=rx (c,d,e)
 ([(i,17,0,1,0,1,1)],0,0) 100->(17:Int)=(17:Int)/\dJ (1,i,17,0,0,1)=0/\ ∀(k:Z)(l:Int),V k=30-> ∀(m:Bool),m=j.2.2.2->cB m m (aK m) (m->m) (∀(n:Bool),n=lW m (O k) 30->fp n n (aK n) (n->n) (∀(o:Bool),o=bq n (gO (O j.1))->cB o o (um o (O j.1)) (o->aK o) ((o->aK o)/\(o->o)/\ ∀(p:Bool),p=bq o (rk j.1 0).2.2.2.2.2.2.2.2.1->cB p p (um p (O j.1)) (p->aK p) (fp p p (aK p) (p->p) (bq p (gO (rk j.1 0).2.2.2.2.2.2.2.2.2.2.2.2.1)))))):= by
  delta rk O aK cB bq am fp J gO um lW
  rintro - -
  refine⟨aD,?_⟩
  rintro l p hc
  have hc:=hc
  refine⟨by rw[hc];exact P0.at',?_⟩
  rintro ns ls hs l2 p2 ⟨hn,-⟩
  rw[hc] at hn
  have hn:=hn
  rintro x y ⟨rfl,rfl⟩
  rw[hn]
  refine⟨Wo,ca5,aD,aD,?_⟩
  rintro d hd
  have hd:=hd.trans bf7
  subst hd
  refine⟨rfl,qM.2 ⟨.inr (.inr rfl),aD⟩,?_⟩
  rintro b e e4
  have ⟨e0,e1,e2,e3⟩:=a34
  rintro c hc
  have hc:=hc.trans e0
  subst hc
  (repeat refine⟨λ_=>(by first|rfl|exact⟨λ_=>rfl,aQ⟩|exact⟨λ_=>rfl,λ_=>rfl,aQ⟩),?_⟩)
  rintro c hc
  have hc:c=true:=by rw[hc,e4];rfl
  subst hc
  (repeat refine⟨λ_=>(by first|rfl|exact⟨λ_=>rfl,aQ⟩|exact⟨λ_=>rfl,λ_=>rfl,aQ⟩),?_⟩)
  have e1:(V F7.1:Int)=1:=Y
  rintro c hc
  have hc:=hc.trans (f7 e1)
  subst hc
  (repeat refine⟨λ_=>(by first|rfl|exact⟨λ_=>rfl,aQ⟩|exact⟨aD,Y,aQ⟩|exact⟨λ_=>rfl,aD,Y,aQ⟩),?_⟩)
  rintro c hc
  have hc:=hc.trans e2
  subst hc
  (repeat refine⟨λ_=>(by first|rfl|exact⟨λ_=>rfl,aQ⟩|exact⟨aD,Y,aQ⟩|exact⟨λ_=>rfl,aD,Y,aQ⟩),?_⟩)
  exact f7 e3
def bs3:aB 4 by2.spec:=aG Tryz.func4 (C (C (C (C (C aC (Ct.named VY)) (Ct.named Xl)) (Ct.named Q8)) (Ct.named ak2)) bF7) aS bf3
def a82:Ct:=⟨[.val dB],[.val .bool],λ_=>[],λd=>((cs7 (d.1/16777216=10),()),())⟩
def bm1:
 ∀(a:Int),dN (aT a) ((0:Int)<=(24:Int)/\cs7 (fm ct3 a 24=10)=cs7 (a/16777216=10)):= by
  delta aT J dN aF
  rintro x ⟨⟨h0,h1⟩,-⟩ -
  refine⟨aD,?_⟩
  have:fm .u32 x 24=x/16777216:=by
   unfold fm
   rw[show min (M (24:Int)) ct3.bits=24 from rfl,F4 _ aD];rfl
  rw[this]
def ca6:aB 39 a82.spec:=aG Tryz.func39 aC aS bm1
def Yg(t:fW):Prop:=sf (t.1,t.2.1,t.2.2.1,1,t.2.2.2.2)
def aq5:Cn:=⟨[.box 86 iA,.agg mM],[.agg ja],λd=>[bf d.1,(jp d.2.1).2/16777216=10],λd y=>mT y.1.1/\bf y.2.1,λd h=>⟨(((([],(0,0)):ja.D),()),(d.1,())),⟨cG2 _,λ_ h=>absurd h (cD6),rfl⟩,h.1⟩⟩
def aC4:bG aq5.ps->bL:=(λd=>{loops:=(bz 5 (λS=>{ι:=Int×(List fW)×cr4×aq4×Int,qn:=⟨λk_=>∀(k:Int)(l:(List fW))(c:cr4)(b:aq4)(a:Int),k_ (k,l,c,b,a),λk_ h_ i=>h_ i.1 i.2.1 i.2.2.1 i.2.2.2.1 i.2.2.2.2,λk_=>∃ (k:Int) (l:(List fW)) (c:cr4) (b:aq4) (a:Int),k_ (k,l,c,b,a),λk_ ⟨k,l,c,b,a,h_⟩=>⟨_,h_⟩⟩,μ:=λi=>M i.1,inv:=λi=>0<=i.1/\i.1<=4/\V i.2.1<=6*(4-i.1)/\0<=i.2.2.2.2/\i.2.2.2.2<=39*(4-i.1)/\bf i.2.2.1/\jJ i.2.2.2.1=0∧∀ t∈i.2.1,sf t,keep:=[0,3,4,5,7],slots:=λi=>[(8,.int .i64 i.2.2.2.2),(9,.int .i64 i.1)],keepN:=[64,80],names:=λi=>[(1048576,.live (.cells 86 (cS iA i.2.2.1))),(96,.live (.cells 47 ([.own 524288 7]++cS yw i.2.2.2.1))),(524288,.live (.row 76 DW i.2.1))]}) (bz 14 (λS=>{ι:=Int×(List fW)×cr4×cr5×aq4,qn:=⟨λk_=>∀(m:Int)(l:(List fW))(c:cr4)(t:cr5)(b:aq4),k_ (m,l,c,t,b),λk_ h_ i=>h_ i.1 i.2.1 i.2.2.1 i.2.2.2.1 i.2.2.2.2,λk_=>∃ (m:Int) (l:(List fW)) (c:cr4) (t:cr5) (b:aq4),k_ (m,l,c,t,b),λk_ ⟨m,l,c,t,b,h_⟩=>⟨_,h_⟩⟩,μ:=λi=>M (7-i.1),inv:=λi=>1<=i.1/\i.1<=7/\(V i.2.1:Int)+6*S.i 9<=23+i.1/\bf i.2.2.1/\jJ i.2.2.2.2=0/\(∀ x∈i.2.1,sf x)/\Yg i.2.2.2.1,keep:=[0,3,4,5,7,8,9,11],slots:=λi=>[(12,.int .i64 i.1)],keepN:=[64,80],names:=λi=>[(1048576,.live (.cells 86 (cS iA i.2.2.1))),(192,.live (.cells 76 (cS DW i.2.2.2.1))),(96,.live (.cells 47 ([.own 524288 7]++cS yw i.2.2.2.2))),(524288,.live (.row 76 DW i.2.1))]}) cm)),cuts:=(bz 10 (λS=>{ι:=Int×cr4,qn:=fE,inv:=λi=>bf i.2/\0<=i.1/\i.1<=4294967295,keep:=[0,3,4,5,7,8,9],slots:=λi=>[(10,.int .u32 i.1)],keepN:=[64,80,96,524288],names:=λi=>[(1048576,.live (.cells 86 (cS iA i.2)))]}) (bz 12 (λS=>{ι:=Int,inv:=λi=>i/16777216=10,keep:=[0,3,4,5,7,8,9],slots:=λi=>[(10,.int .u32 i)],keepN:=[64,80,96,524288,1048576]}) cm))})
def NY(a:Int)(b:List fW)(c:Int)(d:bj)(e:Int):=bo a 4 (O b<=6*(4 -a)) (bo c (39*(4 -a)) (bf d) (e=0/\ ∀(f:fW),f∈b->sf f))
def MX(a:Int)(b:List fW)(c:Int)(d:bj)(e:aq4)(f:fW):=1<=a/\a<=7/\O b+6*c<=23+a/\bf d/\jJ e=0/\(∀(g:fW),g∈b->sf g)/\Yg f
def bX3:
 ∀(a:Z)(b:Int)(c:List ar)(d:List bu)(e:List cJ),(aM a/\aq b)/\J (gT c d e)->bf (a,b)/\(jp (c,d,e)).2/16777216=10->bf (a,b)/\ ∀(f g:Int)(h:Z)(i:Int),LN (f,g)/\bf (h,i)-> ∀(j k:Int),j=(jp (c,d,e)).1/\k=(jp (c,d,e)).2->bf (h,i)/\ ∀(l:Int)(m:Z)(n:Int),am l (l<4∨l=0) (bf (m,n))->(∃(o:Int) (p:List fW) (q:bj) (r:aq4) (s:Int),NY o p s q (jJ r)/\k=k/\0=s/\ap (1+l)=o/\iz c d (e=e) (bp 0 0 (m=q.1) (n=q.2/\f=r.1/\g=r.2/\J (p=[]))))/\ ∀(o:Int)(p:List fW)(q:bj)(r:aq4)(s:Int),NY o p s q (jJ r)->au (av 0 o) ((bf q/\ ∀(t:Int)(u:Z)(v:Int),Ck t u v->au (cs7 (t=2)) (bf (u,v)/\ ∀(w:Int)(x:Z)(y:Int),bf (x,y)/\aT w-> ∃(z:Int) (A:bj),(bf A/\aT z)/\bh k s o (w=z) (iz c d (e=e) (bh 0 0 r.1 (r.2=r.2) (p=p/\x=A.1/\J (y=A.2))))) (∃(w:Int) (x:bj),(bf x/\aT w)/\bh k s o
 (k=w) (iz c d (e=e) (bh 0 0 r.1 (r.2=r.2) (p=p/\u=x.1/\J (v=x.2))))))/\ ∀(t:Int)(u:bj),bf u/\aT t->au (db (t/16777216) 10) (∃(v:Int),v/16777216=10/\bh k s o (k=v) (iz c d (e=e) (bh 0 0 r.1 (r.2=r.2) (p=p/\u.1=u.1/\J (u.2=u.2))))) (∃(v:Int),v/16777216=10/\bh k s o (t=v) (iz c d (e=e) (bh 0 0 r.1 (r.2=r.2) (p=p/\u.1=u.1/\J (u.2=u.2)))))/\ ∀(v:Int),v/16777216=10->bf u/\ ∀(w:Int)(x:Z)(y:Int),bf (x,y)/\(w=17∨w=1∨w=6)->bf (x,y)/\ ∀(z:Int),BL z (z<3∨z=0) (∀(A:Int),BL A (A<40∨A=0) (∀(B:Int)(U:Z)(D:Int),am B (B<2∨B=0) (bf (U,D))->(∃(E:Int) (F:List fW) (G:bj) (H:fW) (W:aq4),MX E F o G W H/\bh k s o (1=E) (iz c d (e=e) (bp 0 0 (U=G.1) (D=G.2/\v=H.1/\w=H.2.1/\z=H.2.2.1/\0=H.2.2.2.1/\s=H.2.2.2.2.1/\ap (1+A)=H.2.2.2.2.2.1/\ap (1+B)=H.2.2.2.2.2.2/\r.1=W.1/\r.2=W.2/\J (p=F)))))/\ ∀(E:Int)(F:List
 fW)(G:bj)(H:fW)(W:aq4),MX E F o G W H->bf G/\ ∀(X:Int)(K:Z)(L:Int),am X (X<6∨X=0) (bf (K,L))->au (cs7 (E<=ap (1+X))) (bR ((V F+V [(H.1,H.2.1,H.2.2.1,E,H.2.2.2.2)])*56)/\ ∃(qq0:Int) (qq1:List fW) (qq2:bj) (P:fW) (Q:aq4),MX qq0 qq1 o qq2 Q P/\bi 7 qq0 E/\bh k s o (aA E=qq0) (iz c d (e=e) (bp 0 0 (K=qq2.1) (L=qq2.2/\H.1=P.1/\H.2.1=P.2.1/\H.2.2.1=P.2.2.1/\E=P.2.2.2.1/\H.2.2.2.2.1=P.2.2.2.2.1/\H.2.2.2.2.2.1=P.2.2.2.2.2.1/\H.2.2.2.2.2.2=P.2.2.2.2.2.2/\W.1=Q.1/\W.2=Q.2/\J (F++[(H.1,H.2.1,H.2.2.1,E,H.2.2.2.2)]=qq1))))) (bf (K,L)/\ ∀(qq0:Int)(qq1:Z)(qq2:Int),am qq0 (qq0<40∨qq0=0) (bf (qq1,qq2))-> ∃(P:Int) (Q:List fW) (R:bj) (S:aq4) (qq3:Int),NY P Q qq3 R (jJ S)/\bZ P o/\k=k/\ap (s+qq0)=qq3/\ap (o -1)=P/\iz c d (e=e) (bp 0 0 (qq1=R.1) (qq2=R.2/\W.1=S.1/\W.2=S.2/\J (F=Q))))))) (mT (p,r)/\bf q):= by
  delta O ap aq aH aM gT nh dh dC bh cU aT bp jR bi bZ am bR bJ bo aA J iz BL kL av NY MX db nC aF Ck
  rintro u p ns ls hs-⟨hc,hh⟩
  refine⟨hc,?_⟩
  rintro b1 b2 u p ⟨hb,hc⟩
  have hB:jJ (b1,b2)=0:=by
   unfold jJ
   rw[ao]
   obtain e|⟨k1,k2,k3,k4⟩:=hb
   .exact .inl e
   .exact .inr ⟨k1,cJ4 k2 aD,k3,cJ4 k4 aD⟩
  rintro x y ⟨-,rfl⟩
  have hh:0<=(jp (ns,ls,hs)).2/\(jp (ns,ls,hs)).2<=4294967295/\(jp (ns,ls,hs)).2/16777216=10:=Y
  refine⟨hc,λq u p ⟨q0,q1,hc⟩=>⟨⟨1+q,[],(u,p),(b1,b2),0,⟨Y,Y,by simp only[List.length_nil];omega,Y,Y,hc,hB,λ_ h=>absurd h (cD6)⟩,?_⟩,?_⟩⟩
  .rw[aJ Y Y]
   exact aI
  rintro k l c b a ⟨k0,k4,kl,a0,a1,hc,hb,ht⟩
  refine ay (λq=>?_) (λq=>⟨⟨by show V l<=24;omega,ht,hb⟩,hc⟩)
  have q:=aX q
  refine⟨⟨hc,λx u p ⟨x0,x1,hc⟩=>ay (λ_=>⟨hc,λx u p ⟨hc,y0,y1⟩=>⟨x,(u,p),⟨hc,y0,y1⟩,aI⟩⟩) (λ_=>⟨_,(u,p),⟨hc,hh.1,hh.2.1⟩,aI⟩)⟩,?_⟩
  rintro x c ⟨hc,x0,x1⟩
  refine⟨ay (λ_=>⟨_,hh.2.2,aI⟩) (λz=>⟨x,lq z,aI⟩),?_⟩
  rintro x hx
  refine⟨hc,λpr u p ⟨hc,hpr⟩=>⟨hc,λf u p ⟨f0,f1,hc⟩=>⟨hc,λe u p ⟨e0,e1,hc⟩=>⟨hc,λn u p ⟨n0,n1,hc⟩=>?_⟩⟩⟩⟩
  rw[aJ (n:=1+e) Y Y,aJ (n:=1+n) Y Y]
  refine⟨⟨1,l,(u,p),(x,pr,f,0,a,1+e,1+n),b,⟨Y,Y,Y,hc,hb,ht,⟨hx,by show pr=1∨pr=6∨pr=17;omega,⟨f0,by show f<=9;omega⟩,⟨by show (1:Int)<=1;decide,by show (1:Int)<=9;decide⟩,⟨a0,by show a<=199;omega⟩,⟨by show 1<=1+e;omega,by show 1+e<=99;omega⟩,by show 1<=1+n;omega,by show 1+n<=9;omega⟩⟩,aI⟩,?_⟩
  rintro m l c t b ⟨m1,m7,ml,hc,hb,ht,h1⟩
  refine⟨hc,λy u p ⟨y0,y1,hc⟩=>?_⟩
  rw[aJ (n:=1+y) Y Y]
  refine bT (λz=>?_) (λz=>?_)
  .have tk:sf (t.1,t.2.1,t.2.2.1,m,t.2.2.2.2):=⟨h1.1,h1.2.1,h1.2.2.1,⟨m1,by show m<=9;omega⟩,h1.2.2.2.2⟩
   refine⟨by simp only[fq];omega,m+1,l++[(t.1,t.2.1,t.2.2.1,m,t.2.2.2.2)],(u,p),(t.1,t.2.1,t.2.2.1,m,t.2.2.2.2),b,⟨Y,Y,?_,hc,hb,λx hx=>?_,h1⟩,Y,?_⟩
   .rw[cw,fq];omega
   .obtain hx|hx:=dX.1 hx
    .exact ht x hx
    .rw[iV.1 hx];exact tk
   .rw[aJ Y Y]
    exact aI
  .refine⟨hc,λy u p ⟨y0,y1,hc⟩=>?_⟩
   rw[aJ (n:=a+y) Y Y,aJ (n:=k-1) Y Y]
   refine⟨k-1,l,(u,p),b,a+y,⟨Y,Y,Y,Y,Y,hc,hb,ht⟩,Y,aI⟩
def cn0:aB 8 aq5.spec:=jV Tryz.func8 (C (C (C (C (C (C aC aV6) (Ct.named Q8)) CS) b21) ca6) bE0) aC4 bX3
def iL(l:List bv):Int:=(T l 0 cs5).1
def rL(l:List bv):Int:=(T l 0 cs5).2.1
def CP(l:List bv)(k:Z):jn:=zf (iL l) (rL l) k
structure wV (l:List bv):Prop where
 n:V l<=216
 ok:∀ r∈l,oa r
 i:∀ j:Nat,j<V l->(T l j cs5).1=iL l/\(T l j cs5).2.1=rL l/\(T l j cs5).2.2.1=j
variable{l:List bv}
theorem wV.rng(h:wV l):(0<=iL l/\iL l<=15)/\0<=rL l/\rL l<=63:=by
 unfold iL rL
 cases l with
 | nil=>decide
 | cons a l=>exact⟨(h.ok a aw).v,(h.ok a aw).u⟩
def tT(k:Z):jn->List (List bv)->jn
 | c,[]=>c
 | c,l::ls=>tT k (xr c l k) ls
theorem am1(k:Z):∀(ls:List (List bv))(c:jn),V c.2.2.2=32->(tT k c ls).1=c.1/\(tT k c ls).2.1=c.2.1/\(tT k c ls).2.2.1=c.2.2.1+V ls.flatten/\(tT k c ls).2.2.2.length=32
 | [],c,h=>⟨rfl,rfl,(Int.add_zero _).symm,h⟩
 | l::ls,c,h=>by
  obtain⟨h1,h2,h3,h4⟩:=am1 k ls (xr c l k) (JL _);refine⟨h1,h2,h3.trans ?_,h4⟩;rw[List.flatten_cons,cw];show c.2.2.1+V l+_=_;omega
theorem ac2(k:Z)(l:List bv):∀(ls:List (List bv))(c:jn),tT k c (ls++[l])=xr (tT k c ls) l k/\pW k c (ls++[l])=pW k c ls++[dH (tT k c ls).1 (tT k c ls).2.1 (tT k c ls).2.2.1 (tT k c ls).2.2.2 l k]/\(za k c ls->CB (tT k c ls) l->za k c (ls++[l]))
 | [],c=>⟨rfl,rfl,λ_ h=>⟨h,aQ⟩⟩
 | a::ls,c=>by
  obtain⟨h1,h2,h3⟩:=ac2 k l ls (xr c a k);exact⟨h1,by rw[kQ,pW,h2];rfl,λh q=>⟨h.1,h3 h.2 q⟩⟩
structure xR (k:Z) (l:List bv) (n:Nat) (x:jn) (sg:bg4) (ls:List (List bv)):Prop where
 le:n<=V l
 tk:l.take n=ls.flatten
 jr:za k (CP l k) ls
 ch:x=tT k (CP l k) ls
 gs:sg=uu (iL l) (rL l) k::pW k (CP l k) ls
 ml:V ls<=n
theorem xR.zero(k:Z)(l:List bv):xR k l 0 (CP l k) [uu (iL l) (rL l) k] []:=⟨cG2 _,rfl,aQ,by rw[tT],by rw[pW],dq _⟩
variable{n:Nat}
theorem xR.step{k:Z}{m:Nat}{x:jn}{sg:bg4}{ls:List (List bv)}(h:xR k l n x sg ls)(hR:wV l)(m1:1<=m)(m2:m<=64)(hm:n+m<=V l) :
  CB x ((l.drop n).take m)/\xR k l (n+m) (xr x ((l.drop n).take m) k) (sg++[dH x.1 x.2.1 x.2.2.1 x.2.2.2 ((l.drop n).take m) k]) (ls++[(l.drop n).take m]):=by
 have ⟨f1,f2,f3,f4⟩:=am1 k ls (CP l k) (by simp only[CP,zf,JL])
 have ⟨s1,s2,s3⟩:=ac2 k ((l.drop n).take m) ls (CP l k)
 rw[← h.ch] at f1 f2 f3 f4 s1 s2 s3
 have hl:V ((l.drop n).take m)=m:=by rw[fF,gR];omega
 have e3:x.2.2.1=n:=by
  rw[f3,← h.tk,fF,Nat.min_eq_left h.le];exact Int.zero_add _
 have hn:=hR.n
 have q:CB x ((l.drop n).take m):=by
  have ⟨r1,r2⟩:=hR.rng;refine⟨⟨by rw[f1];exact r1,by rw[f2];exact r2,Y,f4,Y,λy hy=>hR.ok y (zo (te hy))⟩,Y,Y,λj hj=>?_⟩;have e:T ((l.drop n).take m) j cs5=T l (n+j) default:=by
   rw[cK,cK,Cl,ao Y,Ca]
  have ⟨i1,i2,i3⟩:=hR.i (n+j) Y;rw[e,f1,f2,e3];exact⟨i1,i2,Y⟩
 refine⟨q,hm,?_,s3 h.jr q,s1.symm,by rw[h.gs,s2];rfl,by rw[cw,fq];have:=h.ml;omega⟩
 rw[List.flatten_append,← h.tk,List.take_add]
 simp
def Bp(k:Z)(l:List bv)(sg:bg4):Prop:=∃ x ls,xR k l (V l) x sg ls
theorem wV.wr(h:wV l)(k:Z):∃ sg,Bp k l sg:=by
 have:∀ n,n<=V l→∃ x sg ls,xR k l n x sg ls:=by
  intro n
  induction n with
  | zero=>exact λ_=>⟨_,_,_,.zero k l⟩
  | succ n ih =>
   intro hn;have ⟨x,sg,ls,w⟩:=ih Y;exact⟨_,_,_,(w.step h (m:=1) aD aD hn).2⟩
 have ⟨x,sg,ls,w⟩:=this _ (dq _)
 exact⟨sg,x,ls,w⟩
def Uh:Cn:=⟨[.box 86 iA,.val (.sl j9),.val (.sl bc)],[.val (.sl (.sl bc)),.val .bool],λd=>[bf d.1,wV d.2.1,V d.2.2.1<=64],λd y=>Bp d.2.2.1 d.2.1 y.1.1/\y.1.2.1=cs8/\bf y.2.1,λd h=>(h.2.1.wr d.2.2.1).elim λs q=>⟨((s,cs8,()),(d.1,())),q,rfl,h.1⟩⟩
def cc3:bG Uh.ps->bL:=(λd=>{loops:=(bz 6 (λS=>{ι:=Int×cr4×cr7×bg4×Z,qn:=⟨λk_=>∀(n:Int)(c:cr4)(x:cr7)(sg:bg4)(b:Z),k_ (n,c,x,sg,b),λk_ h_ i=>h_ i.1 i.2.1 i.2.2.1 i.2.2.2.1 i.2.2.2.2,λk_=>∃ (n:Int) (c:cr4) (x:cr7) (sg:bg4) (b:Z),k_ (n,c,x,sg,b),λk_ ⟨n,c,x,sg,b,h_⟩=>⟨_,h_⟩⟩,μ:=λi=>M (V d.2.1-i.1),inv:=λi=>0<=i.1/\i.1<=V d.2.1/\bf i.2.1∧∃ ls,xR d.2.2.1 d.2.1 (M i.1) i.2.2.1 i.2.2.2.1 ls,keep:=[0,2,10],slots:=λi=>[(1,.dsl j9 (d.2.1.drop (M i.1))),(11,.dsl bc i.2.2.2.2),(12,.int .i64 0),(13,.own 524288 1)],names:=λi=>[(1048576,.live (.cells 86 (cS iA i.2.1))),(176,.live (.cells 117 (cS wX i.2.2.1))),(524288,.live (.row 22 (.sl bc) i.2.2.2.1))]}) cm),cuts:=(bz 4 (λS=>{ι:=Unit,inv:=λi=>True,keep:=[0,1,2],slots:=λi=>[(8,.int .i64 (iL d.2.1)),(9,.int .i64 (rL d.2.1))],keepN:=[1048576]}) cm)})
def D5(a:bg4)(b:Z):=bR ((V a+V (nR b))*24)
def BH(a:Int)(b:List bv):=O (drop (M a) b)
def aO7:
 ∀(a:Z)(b:Int)(c:List bv)(d:Z),(aM a/\aq b)/\vZ c/\J (aM d)->bf (a,b)/\wV c/\me d->au (av 0 (O c)) (am 0 (0<O c) (am 0 (0<O c) (vK (c=c/\d=d/\(rk c 0).1=iL c/\(rk c 0).2.1=rL c/\a=a/\J (b=b))))) (vK (c=c/\d=d/\0=iL c/\0=rL c/\a=a/\J (b=b)))/\ ∀(e:Unit),True->am (iL c) (iL c<=15) (bo (rL c) 63 (me d) (∀(f g h:Int)(i j:Z)(k:Int),(f,g,h,i)=zf (iL c) (rL c) d/\j=uu (iL c) (rL c) d/\k=0->(∃(l:Int) (m:bj) (n:jn) (o:bg4) (p:Z),bo l (O c) (bf m) (∃(q:List (List bv)),xR d c (M l) n o q)/\c=drop (M l) c/\d=d/\j=p/\k=0/\a=m.1/\b=m.2/\f=n.1/\g=n.2.1/\h=n.2.2.1/\i=n.2.2.2/\J (nR j=o))/\ ∀(l:Int)(m:bj)(n:jn)(o:bg4)(p:Z),bo l (O c) (bf m) (∃(q:List (List bv)),xR d c (M l) n o q)->AS (av 0 (BH l c)) (cs7 ((0:Int)=(0:Int))) (bf m/\
 ∀(q:Int)(r:Z)(s:Int),am q (q<min (BH l c) 6∨q=0) (bf (r,s))->bo 0 (ap (1+q)) (ap (1+q)<=BH l c) (CB n (cZ (drop (M l) c) 0 (ui (1+q)))/\me d/\ ∀(t u v:Int)(w x:Z)(y:Int),(t,u,v,w)=xr n (cZ (drop (M l) c) 0 (ui (1+q))) d/\x=dH n.1 n.2.1 n.2.2.1 n.2.2.2 (cZ (drop (M l) c) 0 (ui (1+q))) d/\y=0->D5 o x/\bo (ap (1+q)) (BH l c) (BH l c<=BH l c) (∃(z:Int) (A:bj) (B:jn) (S:bg4) (D:Z),bo z (O c) (bf A) (∃(E:List (List bv)),xR d c (M z) B S E)/\bi (O c) z l/\cZ (drop (M l) c) (ui (1+q)) (M (BH l c))=drop (M z) c/\d=d/\x=D/\y=0/\r=A.1/\s=A.2/\t=B.1/\u=B.2.1/\v=B.2.2.1/\w=B.2.2.2/\J (o++nR x=S)))) (Bp d c o/\cs7 ((0:Int)=(0:Int))/\bf m))):= by
  delta rk O ap aq aH aM aK bi bq bZ am bR bo J vZ AS av ui nR me aF vK D5 BH
  rintro l p rs k ⟨-,⟨hrl,-⟩,-,-⟩⟨hc,hR,hk⟩
  have ⟨⟨r1,r2⟩,r3,r4⟩:=hR.rng
  have hn:=hR.n
  refine⟨bT (λq=>?_) (λq=>?_),?_⟩
  .exact⟨aD,q,aD,q,(),aQ,aI⟩
  .have:rs=[]:=Be (by have:=q;omega)
   subst this
   exact⟨(),aQ,aI⟩
  rintro - -
  refine⟨r1,r2,r3,r4,hk,?_⟩
  rintro a b c d s e ⟨hx,rfl,rfl⟩
  refine⟨⟨0,(l,p),(a,b,c,d),[uu (iL rs) (rL rs) k],uu (iL rs) (rL rs) k,⟨Y,Y,hc,[],by rw[hx];exact .zero k rs⟩,aI⟩,?_⟩
  rintro n c x sg b ⟨n0,n1,hc,ls,w⟩
  have hd:(V (rs.drop (M n)):Int)=V rs-n:=by rw[gR];omega
  rw[hd]
  (repeat (refine cG ?_;repeat refine cH ?_))
  refine ay (λq=>?_) (λq=>?_)
  .have q:n<V rs:=by simp at q;omega
   refine⟨hc,?_⟩
   rintro y u v ⟨y0,y1,hc2⟩
   rw[aJ (n:=1+y) Y Y]
   have e1:cZ (rs.drop (M n)) 0 (M (1+y))=(rs.drop (M n)).take (M (1+y)):=List.drop_zero
   have e2:cZ (rs.drop (M n)) (M (1+y)) (M ((V rs:Int)-n))=rs.drop (M (n+(1+y))):=by
    unfold cZ
    rw[gE (by rw[gR];omega),cA1,show M n+M (1+y)=M (n+(1+y)) by omega]
   have ⟨so,w2⟩:=w.step hR (m:=M (1+y)) Y Y Y
   have hsl:V sg<=217:=by
    have h1:=w.ml
    rw[w.gs,fa]
    have:∀(c:jn)(ls:List (List bv)),V (pW k c ls)=V ls:=by
     intro c ls
     induction ls generalizing c with
     | nil=>rfl
     | cons a ls ih=>rw[pW,fa,ih,fa]
    rw[this];omega
   rw[e1,e2]
   refine⟨aD,Y,Y,so,hk,?_⟩
   rintro x1 x2 x3 x4 x5 x6 ⟨h1,rfl,rfl⟩
   rw[← h1,show M n+M (1+y)=M (n+(1+y)) by omega] at w2
   exact⟨by rw[fq];omega,Y,Y,fJ _,n+(1+y),(u,v),(x1,x2,x3,x4),_,_,⟨Y,Y,hc2,_,w2⟩,Y,aI⟩
  .have q:V rs=M n:=by simp at q;omega
   exact⟨⟨x,ls,by rw[q];exact w⟩,rfl,hc⟩
def bj6:aB 10 Uh.spec:=jV Tryz.func10 (C (C (C aC (Ct.named aM6)) (Ct.named bF0)) CS) cc3 aO7
abbrev bU:=Int×Int×Z
abbrev dO:=Int×Z
abbrev fC:=Bool×Int×Int
abbrev cA:=Int×Int×Int×List Z×Int×List Z×List dO×List bU×List bU
abbrev ji:CT := .pair cI (.pair cI (.sl bc))
abbrev tz:CT := .pair cI (.sl bc)
abbrev tA:CT := .pair .bool (.pair cI cI)
abbrev qW:CT := .pair cI (.pair cI (.pair cI (.pair (.sl (.sl bc)) (.pair cI (.pair (.sl (.sl bc)) (.pair (.sl tz) (.pair (.sl ji) (.sl ji))))))))
def bW(c:cA):Int:=c.1
def ke(c:cA):Int:=c.2.1
def fh(c:cA):Int:=c.2.2.1
def ct(c:cA):List Z:=c.2.2.2.1
def gJ(c:cA):Int:=c.2.2.2.2.1
def gn(c:cA):List Z:=c.2.2.2.2.2.1
def oT(c:cA):List dO:=c.2.2.2.2.2.2.1
def iI(c:cA):List bU:=c.2.2.2.2.2.2.2.1
def ju(c:cA):List bU:=c.2.2.2.2.2.2.2.2
def gF(b:Z)(at':Int):Int:=bM b at' 2
def mA(i:Int)(it:Z):Z:=68::(fu i 2 2++it)
def t5:Z->Z
 | []=>[]
 | i::r=>fu i 2 2++t5 r
def my(g:Int)(es:Z):Z:=65::(fu g 2 2++t5 es)
def qD:Z->Z
 | a::b::r=>(a*256+b)::qD r
 | _=>[]
def u16(i:Int):Prop:=0<=i/\i<=65535
theorem yj(i):fu i 2 2=[i/256%256,i%256]:=by
 unfold fu
 simp[ni]
theorem ao7(a b):gk [a,b]=a*256+b:=by unfold gk;simp
variable{i:Int}
theorem an9(h:u16 i):gk (fu i 2 2)=i:=by
 unfold u16 at h
 rw[yj,ao7];omega
theorem Tf{b:Z}(h:n+2<=V b):gF b n=gk ((b.drop n).take 2):=by
 unfold gF bM
 rw[I Y]
 rfl
theorem Zt(h:u16 i)(it:Z):gF (mA i it) 1=i:=by
 rw[show (1:Int)=((1:Nat):Int) from rfl,Tf (by unfold mA;rw[fa,cw,Ay];omega)]
 unfold mA
 rw[yj]
 show gk [i/256%256,i%256]=i
 rw[← yj,an9 h]
theorem a71(i:Int)(it:Z):(mA i it).drop 3=it:=by
 unfold mA;rw[yj];rfl
theorem Qp(i:Int)(it:Z):V (mA i it)=V it+3:=by
 unfold mA;rw[yj];rfl
theorem ap8:∀ es,V (t5 es)=2*V es
 | []=>rfl
 | i::r=>by rw[t5,cw,Ay,ap8 r,fa];omega
theorem Qz(g:Int)(es:Z):V (my g es)=3+2*V es:=by
 unfold my;rw[fa,cw,Ay,ap8];omega
theorem O2{g:Int}(h:u16 g)(es:Z):gF (my g es) 1=g:=by
 rw[show (1:Int)=((1:Nat):Int) from rfl,Tf (by rw[Qz];omega)]
 unfold my
 rw[yj]
 show gk [g/256%256,g%256]=g
 rw[← yj,an9 h]
theorem VU(g:Int)(es:Z):(my g es).drop 3=t5 es:=by
 unfold my;rw[yj];rfl
theorem al7:∀{es:Z},(∀ e∈es,u16 e)->qD (t5 es)=es
 | [],_=>rfl
 | i::r,h=>by
  have h0:=h i dU;unfold u16 at h0;rw[t5,yj];show (i/256%256*256+i%256)::qD (t5 r)=_;rw[al7 λe he=>h e (eZ _ he),show i/256%256*256+i%256=i by omega]
def pG(l:List bU)(t:bU):List bU:=(l.takeWhile λx=>cs7 (x.1<=t.1))++t::l.dropWhile λx=>cs7 (x.1<=t.1)
def mh(now d:Int)(b:Z):Nat->Int->Int×List bU->Int×List bU
 | 0,_,s=>s
 | n+1,k,s=>if V s.2<4096 then mh now d b n (k+1) (s.1+1,pG s.2 (now+1+d+k,s.1,b)) else s
def iB(now:Int)(b:Z)(f:fC)(s:Int×List bU):Int×List bU:=if f.1=cs8 then s else mh now f.2.1 b (M (f.2.2+1)) 0 s
def mb(l:List fC)(i:Nat):fC:=T l i (ct2,0,0)
def p8(l:List fC):Prop:=∀ f∈l,(0<=f.2.1/\f.2.1<=1000)/\0<=f.2.2/\f.2.2<=8
def sV:List dO->List Z->List Z×List dO
 | [],g=>(g,[])
 | x::r,g=>if x.1=V g then sV r (g++[x.2]) else (g,x::r)
def DO(l:List dO)(x:dO):List dO:=(l.takeWhile λy=>cs7 (y.1<x.1))++x::l.dropWhile λy=>cs7 (y.1<x.1)
def ng(lim:Int)(s:List Z×List dO)(i:Int)(it:Z):List Z×List dO :=
 if i=V s.1 then sV s.2 (s.1++[it]) else if i<V s.1∨lim<=i∨(s.2.any λx=>cs7 (x.1=i))=cs8 then s else (s.1,DO s.2 (i,it))
def cP(now:Int)(l:List bU):List bU:=l.takeWhile λt=>cs7 (t.1<=now)
def iR(now:Int)(l:List bU):List bU:=l.dropWhile λt=>cs7 (t.1<=now)
def oH(lim:Int)(l:List bU)(s:List Z×List dO):List Z×List dO:=l.foldl (λs t=>ng lim s (gF t.2.2 1) (t.2.2.drop 3)) s
def lD(now:Int)(log:bg4)(down:List fC):Z->Nat->Int×List bU->Int×List bU
 | [],_,s=>s
 | i::r,j,s=>lD now log down r (j+1) (iB now (mA i (T log (M i) cs5)) (mb down j) s)
def rX(a b:Int):Z:=(range (M (b-a))).map λk:Nat=>a+(k:Int)
def mY(k:Int)(l:List bU):Int:=l.foldl (λk t=>max k (gF t.2.2 1)) k
def om(l:List bU):Z:=l.flatMap λt=>qD (t.2.2.drop 3)
def ga(c:cA):List Z×List dO:=oH (gJ c+fh c) (cP (bW c+1) (iI c)) (gn c,oT c)
def fG(c:cA)(up:List fC):Int×List bU:=if cP (bW c+1) (iI c)=[] then (ke c,ju c) else iB (bW c+1) (my ((ga c).1.length:Int) ((ga c).2.map (·.1))) (mb up 0) (ke c,ju c)
def tN(c:cA)(up:List fC):List bU:=cP (bW c+1) (fG c up).2
def fb(c:cA)(up:List fC):Int:=mY (gJ c) (tN c up)
def rZ(c:cA)(up:List fC):Z:=(rX (fb c up) (min (V (ct c):Int) (fb c up+fh c))).filter λi => !(om (tN c up)).contains i
def pP(c:cA)(down up:List fC):Int×List bU:=lD (bW c+1) (ct c) down (rZ c up) 0 ((fG c up).1,iR (bW c+1) (iI c))
def fR(c:cA)(down up:List fC):cA :=
 (bW c+1,(pP c down up).1,fh c,ct c,fb c up,(ga c).1,(ga c).2,(pP c down up).2,iR (bW c+1) (fG c up).2)
def fZ:Nat->cA->cA
 | 0,c=>c
 | n+1,c=>fZ n (fR c [] [])
theorem Vc:∀(m n:Nat)(c:cA),fZ n (fZ m c)=fZ (m+n) c
 | 0,n,c=>by rw[gD];rfl
 | m+1,n,c=>by rw[Nat.succ_add];exact Vc m n (fR c [] [])
theorem zP:∀(n:Nat)(c:cA),fZ (n+1) c=fR (fZ n c) [] []
 | 0,c=>rfl
 | n+1,c=>zP n (fR c [] [])
def Ce(c:cA)(it:Z):cA:=(bW c,ke c,fh c,ct c++[it],gJ c,gn c,oT c,iI c,ju c)
def G7(w:Int):cA:=(0,0,w,[],0,[],[],[],[])
def ED(c:cA):Bool:=cs7 (V (gn c)=V (ct c))&&cs7 (gJ c=V (ct c))
theorem mem_range{a b}:i∈rX a b↔a<=i/\i<b:=by
 unfold rX
 rw[cv1]
 constructor
 .rintro⟨k,hk,rfl⟩;have:=cx1.1 hk;omega
 .intro h;exact⟨M (i-a),cx1.2 Y,Y⟩
structure n8 (now ord:Int) (l:List bU):Prop where
 s:l.Pairwise λa b=>a.1<b.1∨a.1=b.1/\a.2.1<b.2.1
 r:∀ t∈l,(now<t.1/\t.1<=now+2000)/\0<=t.2.1/\t.2.1<ord
 n:V l<=4096
variable{l:List bU}
theorem Bb{t x:bU}:x∈pG l t↔x=t∨x∈l:=by
 have e:∀ y,y∈l↔y∈(l.takeWhile λx=>cs7 (x.1<=t.1))∨y∈(l.dropWhile λx=>cs7 (x.1<=t.1)):=λy=>by
  rw[← dX,oR]
 unfold pG
 grind
theorem RA(l:List bU)(t:bU):V (pG l t)=V l+1:=by
 have e:V l=V ((l.takeWhile λx=>cs7 (x.1<=t.1))++(l.dropWhile λx=>cs7 (x.1<=t.1))):=by rw[oR]
 unfold pG
 grind
theorem M0{α:Type}{p}:∀{l:List α}{y:α}{r:List α},l.dropWhile p=y::r->p y=ct2
 | a::l,y,r,h=>by
  cases ha:p a with
  | true=>rw[List.dropWhile_cons_of_pos ha] at h;exact M0 h
  | false =>
   simp_all
theorem JG{α:Type}{p}:∀{l:List α}{x:α},x∈l.takeWhile p->p x=cs8
 | a::l,x,h=>by
  cases b:p a with
  | true =>
   rw[cF4 b] at h;obtain rfl|h:=dm.1 h
   .exact b
   .exact JG h
  | false=>rw[cB3 (by simp[b])] at h;cases h
theorem ak4{t:bU}(h:l.Pairwise λa b=>a.1<b.1∨a.1=b.1/\a.2.1<b.2.1)(ho:∀ x∈l,x.2.1<t.2.1) :
  (pG l t).Pairwise λa b=>a.1<b.1∨a.1=b.1/\a.2.1<b.2.1:=by
 have e:=oR (p:=λx:bU=>cs7 (x.1<=t.1)) (l:=l)
 rw[← e,cw9] at h
 have ⟨h1,d,h3⟩:=h
 have hd:∀ y∈(l.dropWhile λx=>cs7 (x.1<=t.1)),t.1<y.1:=by
  intro y c;cases q:(l.dropWhile λx=>cs7 (x.1<=t.1)) with
  | nil=>rw[q] at c;cases c
  | cons z r =>
   have hz:=bg (M0 (p:=λx:bU=>cs7 (x.1<=t.1)) q);rw[q] at c d;obtain rfl|c:=dm.1 c
   .omega
   .obtain k|k:=(cu1.1 d).1 y c <;> omega
 unfold pG
 rw[cw9]
 refine⟨h1,cu1.2 ⟨λy c=>.inl (hd y c),d⟩,λa g b f=>?_⟩
 obtain rfl|f:=dm.1 f
 .have h4:=aX (JG (p:=λx:bU=>cs7 (x.1<=b.1)) g);grind
 .exact h3 a g b f
theorem YD{n0 now d:Int}{b:Z}(h0:n0<=now/\now<=n0+1)(hd:0<=d/\d<=1000):∀(n:Nat)(k:Int){o:Int}{l:List bU},0<=k->k+n<=900->0<=o->n8 n0 o l →
  n8 n0 (mh now d b n k (o,l)).1 (mh now d b n k (o,l)).2/\o<=(mh now d b n k (o,l)).1/\(mh now d b n k (o,l)).1<=o+n/\(∀ t∈(mh now d b n k (o,l)).2,t∈l∨t.2.2=b)∧∀ t∈l,t∈(mh now d b n k (o,l)).2
 | 0,k,o,l,hk,hn,ho,h=>⟨h,fJ _,by simp[mh],λt a=>.inl a,λt a=>a⟩
 | n+1,k,o,l,hk,hn,ho,h=>by
  rw[mh];dsimp only;split
  .rename_i hl;have h2:n8 n0 (o+1) (pG l (now+1+d+k,o,b)):=by
    refine⟨ak4 h.s λx hx=>(h.r x hx).2.2,λt a=>?_,by rw[RA];omega⟩;obtain rfl|a:=Bb.1 a
    .grind
    .have ⟨q1,q2,q3⟩:=h.r t a;exact⟨q1,q2,Y⟩
   obtain⟨i1,i2,i3,i4,i5⟩:=YD h0 hd n (k+1) Y Y Y h2;refine⟨i1,Y,Y,λt a=>?_,λt a=>i5 t (Bb.2 (.inr a))⟩;obtain q|q:=i4 t a
   .obtain rfl|q:=Bb.1 q
    .exact .inr rfl
    .exact .inl q
   .exact .inr q
  .grind
def Cg(f:fC):Prop:=(0<=f.2.1/\f.2.1<=1000)/\0<=f.2.2/\f.2.2<=8
variable{n0 now:Int}
theorem MG{b:Z}(h0:n0<=now/\now<=n0+1){f:fC}(hf:Cg f){o:Int}(ho:0<=o)(h:n8 n0 o l) :
  n8 n0 (iB now b f (o,l)).1 (iB now b f (o,l)).2/\o<=(iB now b f (o,l)).1/\(iB now b f (o,l)).1<=o+9/\(∀ t∈(iB now b f (o,l)).2,t∈l∨t.2.2=b)∧∀ t∈l,t∈(iB now b f (o,l)).2:=by
 unfold iB
 have ⟨f1,f2⟩:=hf
 split
 .grind
 .have ⟨i1,i2,i3,i4,i5⟩:=YD (b:=b) h0 f1 (M (f.2.2+1)) 0 (fJ _) Y ho h;grind
theorem FQ{l:List fC}(h:p8 l)(i:Nat):Cg (mb l i):=by
 unfold mb
 by_cases hi:i<V l
 .rw[cK,cT hi];exact h _ (cv2 hi)
 .rw[cK,xQ Y];exact⟨aD,aD,aD⟩
structure OR (log:bg4) (lim g:Int) (l:List dO):Prop where
 s:l.Pairwise λa b=>a.1<b.1
 r:∀ x∈l,(g<x.1/\x.1<V log)/\x.1<lim/\x.2=T log (M x.1) cs5
structure Bw (log:bg4) (lim:Int) (s:List Z×List dO):Prop where
 n:V s.1<=V log
 g:s.1=log.take (V s.1)
 e:OR log lim (V s.1) s.2
def tO(s:List Z×List dO)(i:Int):Prop:=i<V s.1∨∃ x∈s.2,x.1=i
variable{log:bg4}
theorem VI{g:bg4}(a:V g<V log)(hg:g=log.take (V g)):g++[T log (V g) cs5]=log.take (V g+1):=by
 have e:T log (V g) cs5=log[V g]:=by rw[cK,cT a];rfl
 rw[e,List.take_add_one,cT a,← hg];rfl
theorem ac4{log:bg4}{lim:Int}:∀{l:List dO}{g:bg4},V g<=V log->g=log.take (V g)->OR log lim (V g-1) l →
  Bw log lim (sV l g)/\V g<=(sV l g).1.length∧∀ i,tO (g,l) i->tO (sV l g) i
 | [],g,d,c,b=>⟨⟨d,c,⟨cx5,λx f=>(by cases f)⟩⟩,dq _,λi h=>h⟩
 | x::r,g,d,c,b=>by
  have f:=b.r x dU;have j:=cu1.1 b.s;rw[sV];split
  .rename_i e;have hl:V g<V log:=Y;have ed:x.2=T log (V g) default:=by rw[f.2.2,e];rfl
   have e2:g++[x.2]=log.take (V (g++[x.2])):=by rw[cw,ed];exact VI hl c
   have en:V (g++[x.2])=V g+1:=by rw[cw];rfl
   obtain⟨i1,i2,i3⟩:=ac4 Y e2 ⟨j.2,λy a=>by
    have h1:=j.1 y a;have ⟨⟨q1,k⟩,m⟩:=b.r y (eZ _ a);exact⟨⟨Y,k⟩,m⟩⟩
   refine⟨i1,Y,λi h=>i3 i ?_⟩;obtain h|⟨y,a,h⟩:=h
   .exact .inl (by show i<(V (g++[x.2]):Int);have h:i<(V g:Int):=h;omega)
   .obtain rfl|a:=dm.1 a
    .exact .inl (by show i<(V (g++[y.2]):Int);omega)
    .exact .inr ⟨y,a,h⟩
  next e=>refine⟨⟨d,c,⟨b.s,λy a=>?_⟩⟩,dq _,λi h=>h⟩;have ⟨⟨q1,k⟩,m⟩:=b.r y a;grind
variable{l:List dO}
theorem QK{t x:dO}:x∈DO l t↔x=t∨x∈l:=by
 have e:∀ y,y∈l↔y∈(l.takeWhile λx=>cs7 (x.1<t.1))∨y∈(l.dropWhile λx=>cs7 (x.1<t.1)):=λy=>by
  rw[← dX,oR]
 unfold DO
 grind
theorem cn3{t:dO}(h:l.Pairwise λa b=>a.1<b.1)(hn:∀ x∈l,x.1≠t.1):(DO l t).Pairwise λa b=>a.1<b.1:=by
 have e:=oR (p:=λx:dO=>cs7 (x.1<t.1)) (l:=l)
 have hm:∀ y∈(l.dropWhile λx=>cs7 (x.1<t.1)),y∈l:=λy c=>by rw[← e];exact gU _ c
 rw[← e,cw9] at h
 have ⟨h1,d,h3⟩:=h
 have hd:∀ y∈(l.dropWhile λx=>cs7 (x.1<t.1)),t.1<y.1:=by
  intro y c;have h0:=hn y (hm y c);cases q:(l.dropWhile λx=>cs7 (x.1<t.1)) with
  | nil=>rw[q] at c;cases c
  | cons z r =>
   have hz:=bg (M0 (p:=λx:dO=>cs7 (x.1<t.1)) q);rw[q] at c d;obtain rfl|c:=dm.1 c
   .omega
   .have:=(cu1.1 d).1 y c;omega
 unfold DO
 rw[cw9]
 refine⟨h1,cu1.2 ⟨λy c=>hd y c,d⟩,λa g b f=>?_⟩
 obtain rfl|f:=dm.1 f
 .exact aX (JG (p:=λx:dO=>cs7 (x.1<b.1)) g)
 .exact h3 a g b f
variable{s:List Z×List dO}
theorem cb2{lim}(h:Bw log lim s)(hi:0<=i/\i<V log) :
  Bw log lim (ng lim s i (T log (M i) cs5))/\V s.1<=(ng lim s i (T log (M i) cs5)).1.length/\(∀ j,tO s j->tO (ng lim s i (T log (M i) cs5)) j)/\(i<lim->tO (ng lim s i (T log (M i) cs5)) i):=by
 have ⟨g,l⟩:=s
 have ⟨d,c,b⟩:=h
 have b:OR log lim (V g) l:=b
 unfold ng
 dsimp only
 split
 next e=>
  have f:V g<V log:=Y;have ei:T log (M i) cs5=T log (V g) default:=by rw[e];rfl
  rw[ei];have en:V (g++[T log (V g) cs5])=V g+1:=by rw[cw];rfl
  have e2:g++[T log (V g) cs5]=log.take (V (g++[T log (V g) cs5])):=by rw[en];exact VI f c
  have ⟨i1,i2,i3⟩:=ac4 (lim:=lim) Y e2 ⟨b.s,λy hy=>by
   have ⟨⟨q1,q2⟩,q3⟩:=b.r y hy;exact⟨⟨Y,q2⟩,q3⟩⟩
  refine⟨i1,Y,λj h=>i3 j ?_,λ_=>.inl Y⟩;obtain h|h:=h
  .exact .inl (by show j<(V (g++[T log (V g) cs5]):Int);have h:j<(V g:Int):=h;omega)
  .exact .inr h
 next e=>
  split
  .rename_i k;refine⟨⟨d,c,b⟩,dq _,λj h=>h,λf=>?_⟩;obtain k|k|k:=k
   .exact .inl k
   .omega
   .have ⟨x,a,q⟩:=cw7.1 k;exact .inr ⟨x,a,aX q⟩
  .rename_i k;have k3:∀ x∈l,x.1≠i:=λx a q=>k (.inr (.inr (cw7.2 ⟨x,a,f7 q⟩)));refine⟨⟨d,c,cn3 b.s k3,λx a=>?_⟩,dq _,λj h=>?_,λ_=>.inr ⟨_,QK.2 (.inl rfl),rfl⟩⟩
   .obtain rfl|a:=QK.1 a
    .grind
    .exact b.r x a
   .obtain h|⟨x,a,h⟩:=h
    .exact .inl h
    .exact .inr ⟨x,QK.2 (.inr a),h⟩
def D4(log:bg4)(t:bU):Prop:=∃ i:Int,(0<=i/\i<V log)/\t.2.2=mA i (T log (M i) cs5)
def wG(log:bg4)(s:List Z×List dO)(t:bU):Prop :=
 ∃ (g:Int) (es:Z),t.2.2=my g es/\(0<=g/\g<=V s.1)/\es.Pairwise (λa b=>a<b)∧∀ e∈es,(g<e/\e<V log)/\tO s e
structure XI (c:cA):Prop where
 now:0<=bW c
 ord:0<=ke c
 win:1<=fh c/\fh c<=64
 log:V (ct c)<=1024
 it:∀ b∈ct c,(V b:Int)<=6000
 kn:0<=gJ c/\gJ c<=V (gn c)
 rc:Bw (ct c) (gJ c+fh c) (gn c,oT c)
 dn:n8 (bW c) (ke c) (iI c)
 dd:∀ t∈iI c,D4 (ct c) t
 up:n8 (bW c) (ke c) (ju c)
 ud:∀ t∈ju c,wG (ct c) (gn c,oT c) t
variable{t:bU}
theorem wG.more{s':List Z×List dO}(h:wG log s t)(h1:V s.1<=V s'.1)(h2:∀ j,tO s j->tO s' j):wG log s' t:=by
 have ⟨g,es,a,b,c,d⟩:=h
 exact⟨g,es,a,⟨b.1,Y⟩,c,λe he=>⟨(d e he).1,h2 e (d e he).2⟩⟩
variable{l:List bU}{ord:Int}
theorem n8.more{ord'}(h:n8 now ord l)(ho:ord<=ord'):n8 now ord' l:=⟨h.s,λt ht=>by
 have ⟨a,b,c⟩:=h.r t ht
 exact⟨a,b,Y⟩,h.n⟩
theorem CR(h:t∈cP now l):t∈l/\t.1<=now:=by
 refine⟨?_,aX (JG (p:=λx:bU=>cs7 (x.1<=now)) h)⟩
 rw[← oR (p:=λx:bU=>cs7 (x.1<=now)) (l:=l)]
 exact gq _ h
theorem Hr(h:n8 n0 ord l):t∈iR now l↔t∈l/\now<t.1:=by
 have e:=oR (p:=λx:bU=>cs7 (x.1<=now)) (l:=l)
 constructor
 .intro ht;have hs:=h.s;refine⟨by rw[← e];exact gU _ ht,?_⟩;rw[← e,cw9] at hs;unfold iR at ht;cases q:(l.dropWhile λx=>cs7 (x.1<=now)) with
  | nil=>rw[q] at ht;cases ht
  | cons z r =>
   have hz:=bg (M0 (p:=λx:bU=>cs7 (x.1<=now)) q);have h2:=hs.2.1;rw[q] at ht h2;obtain rfl|ht:=dm.1 ht
   .omega
   .obtain k|k:=(cu1.1 h2).1 t ht <;> omega
 .rintro⟨h1,h2⟩;rw[← e] at h1;obtain k|k:=dX.1 h1
  .have:=(CR (now:=now) k).2;omega
  .exact k
theorem SI(hn:n0<=now)(h:n8 n0 ord l):n8 now ord (iR now l):=by
 refine⟨?_,λt ht=>?_,?_⟩
 .have hs:=h.s;rw[← oR (p:=λx:bU=>cs7 (x.1<=now)) (l:=l),cw9] at hs;exact hs.2.1
 .have ⟨a,b⟩:=(Hr h).1 ht;have ⟨c,d⟩:=h.r t a;exact⟨⟨b,Y⟩,d⟩
 .have:=(List.dropWhile_sublist (l:=l) (λx:bU=>cs7 (x.1<=now))).length_le;have hn:=h.n;show V (l.dropWhile _)<=4096;omega
theorem GD{log:bg4}{lim:Int}(hl:V log<=1024):∀{l:List bU}{s:List Z×List dO},Bw log lim s->(∀ t∈l,D4 log t) →
  Bw log lim (oH lim l s)/\V s.1<=(oH lim l s).1.length/\(∀ j,tO s j->tO (oH lim l s) j)∧∀ t∈l,gF t.2.2 1<lim->tO (oH lim l s) (gF t.2.2 1)
 | [],s,h,_=>⟨h,dq _,λj q=>q,λt ht=>(by cases ht)⟩
 | t::r,s,h,hd=>by
  obtain⟨i,hi,e⟩:=hd t dU;have e1:gF t.2.2 1=i:=by rw[e];exact Zt ⟨Y,Y⟩ _
  have e2:t.2.2.drop 3=T log (M i) default:=by rw[e];exact a71 _ _
  have ⟨k1,k2,k3,k4⟩:=cb2 h hi;have er:oH lim (t::r) s=oH lim r (ng lim s i (T log (M i) cs5)):=by
   show oH lim r (ng lim s (gF t.2.2 1) (t.2.2.drop 3))=_;rw[e1,e2]
  have ⟨m1,m2,m3,m4⟩:=GD hl (l:=r) k1 λx hx=>hd x (eZ _ hx);rw[er];refine⟨m1,Y,λj q=>m3 j (k3 j q),λx hx hlx=>?_⟩;obtain rfl|hx:=dm.1 hx
  .rw[e1] at hlx ⊢;exact m3 i (k4 hlx)
  .exact m4 x hx hlx
theorem Wk{now:Int}{log:bg4}{down:List fC}(hv:p8 down):∀(todo:Z)(j:Nat){o:Int}{l:List bU},(∀ i∈todo,0<=i/\i<V log)->0<=o->n8 now o l->(∀ t∈l,D4 log t) →
  n8 now (lD now log down todo j (o,l)).1 (lD now log down todo j (o,l)).2/\o<=(lD now log down todo j (o,l)).1/\(lD now log down todo j (o,l)).1<=o+9*V todo/\(∀ t∈(lD now log down todo j (o,l)).2,D4 log t)∧∀ t∈l,t∈(lD now log down todo j (o,l)).2
 | [],j,o,l,_,ho,h,hd=>⟨h,fJ _,by show o<=_;omega,hd,λt ht=>ht⟩
 | i::r,j,o,l,hi,ho,h,hd=>by
  obtain⟨k1,k2,k3,k4,k5⟩:=MG (b:=mA i (T log (M i) cs5)) ⟨fJ _,Y⟩ (FQ hv j) ho h;rw[lD];generalize iB now (mA i (T log (M i) cs5)) (mb down j) (o,l)=s at *;have ⟨o2,l2⟩:=s;have ⟨m1,m2,m3,m4,m5⟩:=Wk hv r (j+1) (o:=o2) (l:=l2) (λx hx=>hi x (eZ _ hx)) (by have k2:=k2;omega) k1 (λt ht=>by
   obtain q|q:=k4 t ht
   .exact hd t q
   .exact⟨i,hi i dU,q⟩)
  have k2:=k2;have k3:=k3;exact⟨m1,Y,by rw[fa];omega,m4,λt ht=>m5 t (k5 t ht)⟩
theorem RX{log:bg4}{s:List Z×List dO}(hs:V s.1<=1024):∀{l:List bU}{k:Int},0<=k->k<=V s.1->(∀ t∈l,wG log s t)->k<=mY k l/\mY k l<=V s.1
 | [],k,h0,h1,_=>⟨fJ _,h1⟩
 | t::r,k,h0,h1,h=>by
  obtain⟨g,es,e,hg,-⟩:=h t dU;have em:gF t.2.2 1=g:=by rw[e];exact O2 ⟨Y,Y⟩ _
  have ⟨a,b⟩:=RX hs (l:=r) (k:=max k g) Y Y λx hx=>h x (eZ _ hx);show k<=mY (max k (gF t.2.2 1)) r/\mY (max k (gF t.2.2 1)) r<=V s.1;rw[em];exact⟨Y,b⟩
theorem XI.tick{c:cA}(h:XI c){down up:List fC}(hd:p8 down)(hu:p8 up) :
  XI (fR c down up)/\V (gn c)<=V (gn (fR c down up))/\gJ c<=gJ (fR c down up)/\ke (fR c down up)<=ke c+585:=by
 have ⟨r1,r2,r3,r4⟩:=GD h.log (l:=cP (bW c+1) (iI c)) h.rc λt ht=>h.dd t (CR ht).1
 have eG:ga c=oH (gJ c+fh c) (cP (bW c+1) (iI c)) (gn c,oT c):=rfl
 rw[← eG] at r1 r2 r3 r4
 have r2:V (gn c)<=(ga c).1.length:=r2
 have hgl:=r1.n
 have hlog:=h.log
 have hwin:=h.win
 have hkn:=h.kn
 have aU:n8 (bW c) (fG c up).1 (fG c up).2/\ke c<=(fG c up).1/\(fG c up).1<=ke c+9∧∀ t∈(fG c up).2,wG (ct c) (ga c) t:=by
  have old:∀ t∈ju c,wG (ct c) (ga c) t:=λt ht=>(h.ud t ht).more r2 r3;unfold fG;split
  .exact⟨h.up,fJ _,by show ke c<=_;omega,old⟩
  .obtain⟨k1,k2,k3,k4,-⟩:=MG (n0:=bW c) (now:=bW c+1) (b:=my ((ga c).1.length:Int) ((ga c).2.map (·.1))) ⟨Y,Y⟩ (FQ hu 0) h.ord h.up;refine⟨k1,k2,k3,λt ht=>?_⟩;obtain q|q:=k4 t ht
   .exact old t q
   .refine⟨_,_,q,⟨Y,fJ _⟩,?_,λe he=>?_⟩
    .rw[List.pairwise_map];exact r1.e.s
    .obtain⟨x,hx,rfl⟩:=cv1.1 he;exact⟨(r1.e.r x hx).1,.inr ⟨x,hx,rfl⟩⟩
 have ⟨u1,u2,u3,u4⟩:=aU
 have ⟨n1,n2⟩:=RX (log:=ct c) (s:=ga c) Y (l:=tN c up) (k:=gJ c) hkn.1 Y λt ht=>u4 t (CR ht).1
 have n1:gJ c<=fb c up:=n1
 have n2:=n2
 have hT:∀ i∈rZ c up,0<=i/\i<V (ct c):=λi hi=>by
  have:=mem_range.1 (cx9.1 hi).1;omega
 have hTl:V (rZ c up)<=64:=by
  have h1:V (rZ c up)<=V (rX (fb c up) (min (V (ct c):Int) (fb c up+fh c))):=List.length_filter_le _ _;have h2:V (rX (fb c up) (min (V (ct c):Int) (fb c up+fh c)))=M (min (V (ct c):Int) (fb c up+fh c)-fb c up):=by unfold rX;rw[nT,cC9]
  omega
 have hnow:=h.now
 have hord:=h.ord
 have ⟨d1,d2,d3,d4,d5⟩:=Wk (now:=bW c+1) (log:=ct c) hd (rZ c up) 0 (o:=(fG c up).1) (l:=iR (bW c+1) (iI c)) hT Y ((SI Y h.dn).more u2) (λt ht=>h.dd t ((Hr h.dn).1 ht).1)
 have eD:pP c down up=lD (bW c+1) (ct c) down (rZ c up) 0 ((fG c up).1,iR (bW c+1) (iI c)):=rfl
 rw[← eD] at d1 d2 d3 d4 d5
 refine⟨⟨by show 0<=bW c+1;omega,by show 0<=(pP c down up).1;omega,hwin,hlog,h.it,⟨by show 0<=fb c up;omega,n2⟩,?_,d1,d4,?_,λt ht=>?_⟩,r2,n1,by show (pP c down up).1<=_;omega⟩
 .refine⟨r1.n,r1.g,r1.e.s,λx hx=>?_⟩;have ⟨q1,q2,q3⟩:=r1.e.r x hx;exact⟨q1,by show x.1<fb c up+fh c;omega,q3⟩
 .show n8 (bW c+1) (pP c down up).1 (iR (bW c+1) (fG c up).2);exact (SI Y u1).more d2
 .exact u4 t ((Hr u1).1 ht).1
theorem XI.push{c:cA}(h:XI c){it:Z}(hl:V (ct c)<1024)(hi:(V it:Int)<=6000):XI (Ce c it):=by
 have hg:∀ i:Int,0<=i->i<V (ct c)->T (ct c++[it]) (M i) cs5=T (ct c) (M i) default:=λi h0 h1=>by
  rw[cK,nJ Y,← cK]
 have hn:V (ct c++[it])=V (ct c)+1:=by rw[cw];rfl
 refine⟨h.now,h.ord,h.win,by show V (ct c++[it])<=_;omega,λb hb=>?_,h.kn,⟨?_,?_,h.rc.e.s,λx hx=>?_⟩,h.dn,λt ht=>?_,h.up,λt ht=>?_⟩
 .obtain hb|hb:=dX.1 hb
  .exact h.it b hb
  .rw[iV.1 hb];exact hi
 .show (V (gn c))<=V (ct c++[it]);have:V (gn c)<=V (ct c):=h.rc.n;omega
 .show gn c=(ct c++[it]).take (V (gn c));rw[List.take_append_of_le_length h.rc.n];exact h.rc.g
 .have ⟨⟨q1,q2⟩,q3,q4⟩:=h.rc.e.r x hx;have q1:=q1;refine⟨⟨q1,by show x.1<(V (ct c++[it]):Int);omega⟩,q3,?_⟩;show x.2=T (ct c++[it]) (M x.1) cs5;rw[hg _ Y q2];exact q4
 .have ⟨i,hi,e⟩:=h.dd t ht;refine⟨i,⟨hi.1,by show i<(V (ct c++[it]):Int);omega⟩,?_⟩;show t.2.2=mA i (T (ct c++[it]) (M i) cs5);rw[hg _ hi.1 hi.2];exact e
 .have ⟨g,es,a,b,d,e⟩:=h.ud t ht;exact⟨g,es,a,b,d,λx hx=>⟨⟨(e x hx).1.1,by have:=(e x hx).1.2;show x<(V (ct c++[it]):Int);omega⟩,(e x hx).2⟩⟩
theorem XI.new{w}(h0:1<=w)(h1:w<=64):XI (G7 w):=by
 refine⟨fJ _,fJ _,⟨h0,h1⟩,cG2 _,λb hb=>(by cases hb),⟨fJ _,fJ _⟩,⟨cG2 _,rfl,cx5,λx hx=>(by cases hx)⟩,⟨cx5,λx hx=>(by cases hx),cG2 _⟩,λx hx=>(by cases hx),⟨cx5,λx hx=>(by cases hx),cG2 _⟩,λx hx=>(by cases hx)⟩
theorem sQ:p8 []:=λf hf=>by cases hf
set_option maxHeartbeats 4000000
def Ef:ct8 := .agg #[.int .i64 0,.int .i64 0,.slice ct4 0 0]
section
variable {w:cu6}
theorem bW4:MO Tryz.prog 169 54 279 3 40 Ef.cells 54:=by
 refine⟨?_,?_,?_⟩
 .intro w w' p q n c vc v hn hc hr;have hz:(cC5 279).run Tryz.prog w = .ok 3 w:=jC oO w;unfold cu5 at hc;cases p <;> go_enter Tryz.func169,Tryz.ntmps169 <;>
  go_wp2_with (at_builtin;refine cy7 _ rfl _ _ _ _ rfl _ _ rfl rfl _ _ hr ?_)
  all_goals (go_ret;exact⟨rfl,rfl⟩)
 .intro w b off n c i vb voff vc cur vcur E' vs hi hn hc hvb hb hf hv hvl hvs h1v h1c;have hz:∀ w,(cC5 279).run Tryz.prog w = .ok 3 w:=λw=>jC oO w;have mixed:=ik;unfold cu5 at hc;have hsa:w.shape? vb=cs6 (E',vcur.size):=by unfold cv9;rw[hv]
  have hsb:w.shape? b=cs6 (279,cur.size):=by unfold cv9;rw[hb]
  have hfa:w.frozen? ⟨vb,voff,ct4⟩=false:=by simp[cB6,hv]
  have hfe:w.frozen? ⟨vb,vcur.size,ct4⟩=false:=by simp[cB6,hv]
  have hov:∀ lb cb o,(callFunc 227 #[.slice (cs6 ⟨vb,voff,ct4⟩) 1 vc,.slice (cs6 ⟨b,o,ct4⟩) lb cb]).run Tryz.prog w = .ok (.value (.bool ct2)) w:=λlb cb o=>by
   rw[cJ8 Tryz.func227 oO oO oO (e:=cA8 #[54,54] #[4]) oO,
    cH2 w 54 4 279 Tryz.underlying54 3 hz ⟨vb,voff,ct4⟩ ⟨b,o,ct4⟩ 1 vc lb cb hvb E' 279 vcur.size cur.size hsa hsb Y hfa hfe]
   rfl
  have hw1:ct0.wrap ((i:Int)+1)=(i:Int)+1:=by rw[cw6];omega
  have hw2:ct0.wrap ((n:Int)+1)=(n:Int)+1:=by rw[cw6];omega
  have hz2:¬ ((i:Int)=(n:Int)):=Y;have htn:M ((i:Int)+1)=i+1:=Y;have htm:M ((n:Int)+1)=n+1:=Y;have hb1:(0:Int)<=(i:Int)+1:=Y;have hb2:¬ (c=i+1):=Y;have hb3:(i:Int)<=(n:Int)+1:=Y;have hb4:¬ (c=i):=Y;have hin:i<=n:=Y;have e1:(i+1)*3=i*3+3:=Y;have hcl:V (fe cur (off+i*3) ((n-i)*3))=(n-i)*3:=vV Y;have hsz:(Tryz.prog.info? 279).map (·.size)=cs6 3:=by kernel_rfl
  have hcp1:(cx4 #[54,54] 3 #[.slice (cs6 ⟨b,off+(i+1)*3,ct4⟩) (n-i) (c-(i+1)),.slice (cs6 ⟨b,off+i*3,ct4⟩) (n+1-i) (c-i)]).run Tryz.prog w.drew =
    .ok (goInt ((n-i:Nat):Int)) (w.drew.setRow b (gp cur (off+(i+1)*3) (fe cur (off+i*3) ((n-i)*3)))):=by
   have h:=wp (P:=Tryz.prog) w.drew 54 54 3 279 3 b (off+(i+1)*3) (n-i) (c-(i+1)) ⟨b,off+i*3,ct4⟩ (n+1-i) (c-i) cur 279 (fe cur (off+i*3) ((n-i)*3)) Tryz.underlying54 hsz hb
    (by rw[hcl];simp only[cw1];split <;> omega)
    (λj v hj=>by
     have hj':=(ct6.1 hj).1;rw[hcl] at hj';rw[uE hj'] at hj;rw[cv5,cy5 w.drew b _ cur 279 (0,0) hb];exact hj)
    (by rw[hcl];omega) h1c
   have hm:cD5 (n+1-i) (n-i)=n-i:=by simp only[cw1];split <;> omega
   rw[hm] at h;exact h
  have hr1:(gp cur (off+(i+1)*3) (fe cur (off+i*3) ((n-i)*3))).size=cur.size:=y8 (by rw[hcl];omega);have hcp2:(cx4 #[54,54] 3 #[.slice (cs6 ⟨b,off+i*3,ct4⟩) (n+1-i) (c-i),.slice (cs6 ⟨vb,voff,ct4⟩) 1 vc]).run Tryz.prog (w.drew.setRow b (gp cur (off+(i+1)*3) (fe cur (off+i*3) ((n-i)*3)))) =
    .ok (goInt 1) (w.drew.setRow b (zh cur off n i 3 vs)):=by
   have h:=wp (P:=Tryz.prog) (w.drew.setRow b (gp cur (off+(i+1)*3) (fe cur (off+i*3) ((n-i)*3)))) 54 54 3 279 3 b (off+i*3) (n+1-i) (c-i) ⟨vb,voff,ct4⟩ 1 vc _ 279 vs Tryz.underlying54 hsz
    (cA4 w.drew b cur _ 279 (0,0) hb)
    (by rw[hvl];simp only[cw1];split <;> omega)
    (λj v hj=>by
     rw[cv5,cB2 _ _ _ _ hvb];exact hvs j v hj)
    (by rw[hr1,hvl];omega) h1v
   have hm:cD5 1 (n+1-i)=1:=by simp only[cw1];split <;> omega
   rw[hm,cE6] at h;exact h
  clear e1 hcl hr1
  go_enter Tryz.func169,Tryz.ntmps169
  go_wp2_with (simp only[hov])
  go_region
  go_wp2
  all_goals (go_ret;exact⟨rfl,rfl⟩)
 .intro w b off n i vb voff vc cur vcur E' vs hi hn hby hb hf hv hvl hvs h1v h1c;have hz:∀ w,(cC5 279).run Tryz.prog w = .ok 3 w:=λw=>jC oO w;have mixed:=ik;have hx:(Tryz.prog.info? 279).map (λi=>(i.zero,i.size,i.bytes))=cs6 (cs6 Ef,3,40):=by kernel_rfl
  obtain⟨i0,hi0⟩:∃ i0,Tryz.prog.info? 279=cs6 i0:=by
   cases hh:Tryz.prog.info? 279 with
   | none=>rw[hh] at hx;cases hx
   | some i0=>exact⟨i0,rfl⟩
  rw[hi0] at hx;simp only[cB5,cy,ck] at hx;have ⟨hz0,hzs,hzb⟩:=hx;have hsz:(Tryz.prog.info? 279).map (·.size)=cs6 3:=by kernel_rfl
  have hbw:=(cu3.1 hb).1;have hvw:=(cu3.1 hv).1;have hni:i*3+(n-i)*3=n*3:=by rw[← gA];congr 1;omega
  have hil:V (fe cur off (i*3))=i*3:=vV Y;have hcl:V (fe cur (off+i*3) ((n-i)*3))=(n-i)*3:=vV Y;have hold:(cE1 i0.size i (.slice (cs6 ⟨b,off,ct4⟩) i n)).run Tryz.prog w.drew = .ok (fe cur off (i*3)).toArray w.drew:=by
   rw[hzs];exact cJ9 w.drew 3 i ⟨b,off,ct4⟩ i n (fe cur off (i*3)) hil (λj v hj=>by
    have hj':=(ct6.1 hj).1;rw[hil] at hj';rw[uE hj'] at hj;rw[cv5,cy5 w.drew b _ cur 279 (0,0) hb];exact hj)
  have hGn:n+1<=cz2 w (n+1) n 279:=cI4 w _ _ _;have hG63:=cB4 w (n+1) n 279 hn;have hrz:(cv7 #[54,3] 54 #[.slice (cs6 ⟨b,off,ct4⟩) i n,.int .i64 ((n:Int)+1-(i:Int))]).run Tryz.prog w =
    .ok (.slice (cs6 ⟨w.heap.size,0,ct4⟩) (n+1) (cz2 w (n+1) n 279)) (w.drew.alloc (.cells (qu cur off n i 3 (cz2 w (n+1) n 279) Ef.cells) 279)):=by
   have h:=cF7 w 54 3 54 279 i0 _ .i64 .i64 Tryz.underlying54 Tryz.underlying3 hi0 hz0 (cs6 ⟨b,off,ct4⟩) i n (fe cur off (i*3)) hold (n+1-i) Y Y Y (by unfold cu5 at hn;omega) (by rw[hzb];omega)
    (by rw[show i+(n+1-i)=n+1 from by omega];exact cL6 Y (by rw[hzb];exact hby))
   rw[show i+(n+1-i)=n+1 from by omega] at h;rw[show (n:Int)+1-(i:Int)=((n+1-i:Nat):Int) from by omega];exact h
  generalize hG:cz2 w (n+1) n 279=G at *;have hrs:(qu cur off n i 3 G Ef.cells).size=G*3:=by
   unfold qu;simp only[cA5,vz,hil,size_zeroCells];have:Ef.cells.size=3:=rfl;rw[this,← gA,← gA];congr 1;omega
  generalize hROW:qu cur off n i 3 G Ef.cells=ROW at *;have hgN:(w.drew.alloc (.cells ROW 279)).heap[w.heap.size]? = cs6 (.cells ROW 279 (0,0)):=cD8 w.drew _;have hG6:(n+1)*3<=G*3:=nk _ hGn;have e1:(i+1)*3=i*3+3:=Y;have hr1:(gp ROW (i*3) vs).size=G*3:=by rw[y8 (by rw[hrs,hvl];omega),hrs]
  have hcp1:(cx4 #[54,54] 3 #[.slice (cs6 ⟨w.heap.size,i*3,ct4⟩) (n+1-i) (G-i),.slice (cs6 ⟨vb,voff,ct4⟩) 1 vc]).run Tryz.prog (w.alloc (.cells ROW 279)).drew =
    .ok (goInt 1) ((w.alloc (.cells ROW 279)).drew.setRow w.heap.size (gp ROW (i*3) vs)):=by
   have h:=wp (P:=Tryz.prog) (w.drew.alloc (.cells ROW 279)) 54 54 3 279 3 w.heap.size (i*3) (n+1-i) (G-i) ⟨vb,voff,ct4⟩ 1 vc _ 279 vs Tryz.underlying54 hsz hgN
    (by rw[hvl];simp only[cw1];split <;> omega)
    (λj v hj=>by
     rw[cv5,cy3 (w:=w.drew) _ vb _ hvw];exact hvs j v hj)
    (by rw[hrs,hvl];omega) h1v
   have hm:cD5 1 (n+1-i)=1:=by simp only[cw1];split <;> omega
   rw[hm] at h;exact h
  have hcp2:(cx4 #[54,54] 3 #[.slice (cs6 ⟨w.heap.size,(i+1)*3,ct4⟩) (n-i) (G-(i+1)),.slice (cs6 ⟨b,off+i*3,ct4⟩) (n-i) (n-i)]).run Tryz.prog ((w.alloc (.cells ROW 279)).drew.setRow w.heap.size (gp ROW (i*3) vs)).drew =
    .ok (goInt ((n-i:Nat):Int)) ((w.alloc (.cells ROW 279)).drew.drew.setRow w.heap.size (gp (gp ROW (i*3) vs) ((i+1)*3) (fe cur (off+i*3) ((n-i)*3)))):=by
   have h:=wp (P:=Tryz.prog) ((w.alloc (.cells ROW 279)).drew.setRow w.heap.size (gp ROW (i*3) vs)).drew 54 54 3 279 3 w.heap.size ((i+1)*3) (n-i) (G-(i+1)) ⟨b,off+i*3,ct4⟩ (n-i) (n-i) _ 279 (fe cur (off+i*3) ((n-i)*3)) Tryz.underlying54 hsz
    (cA4 _ w.heap.size _ _ 279 (0,0) hgN)
    (by rw[hcl];simp only[cw1];split <;> omega)
    (λj v hj=>by
     have hj':=(ct6.1 hj).1;rw[hcl] at hj';rw[uE hj'] at hj;show cP5 ((w.drew.alloc (.cells ROW 279)).setRow w.heap.size (gp ROW (i*3) vs)) _=_;rw[cv5,cB2 _ _ _ _ (by show b≠w.heap.size;omega),cy3 (w:=w.drew) _ b _ hbw,cy5 w.drew b _ cur 279 (0,0) hb];exact hj)
    (by rw[hr1,hcl];omega) (λv hv=>h1c v (by
     unfold fe at hv ⊢;rw[← cA1] at hv;have e2:take ((n-i)*3) (drop (i*3) (drop off cur.toList))=drop (i*3) (take (n*3) (drop off cur.toList)):=by
      rw[cM1];congr 1;omega
     rw[e2] at hv;exact zo hv))
   have hm:cD5 (n-i) (n-i)=n-i:=by simp only[cw1];split <;> omega
   rw[hm] at h;have hs2:∀(W:cu6)(g:Nat)(a b:Array ct8),(W.setRow g a).drew.setRow g b=W.drew.setRow g b:=λW g a b=>cE6 W.drew g a b;rw[hs2] at h;exact h
  have hz2:¬ ((i:Int)=(n:Int)):=Y;have hw1:ct0.wrap ((i:Int)+1)=(i:Int)+1:=by rw[cw6];unfold cu5 at hn;omega
  have hw2:ct0.wrap ((n:Int)+1)=(n:Int)+1:=by rw[cw6];unfold cu5 at hn;omega
  have hz3:(n:Int)<(n:Int)+1:=Y;have hGi:¬ (G=i):=Y;have hGim:¬ (G=i+1):=Y;have hci:¬ (n=i):=Y;have hb1:(0:Int)<=(i:Int)+1:=Y;have hin:i<=n:=Y;have htn:M ((i:Int)+1)=i+1:=Y;have hb3:(i:Int)<=(n:Int):=Y;have hiG:i<=n+1:=Y;unfold cu5 at hn hG63;clear e1 hr1 hG6 hil hcl hni hrs hgN hold hGn
  go_enter Tryz.func169,Tryz.ntmps169
  go_wp2_with (at_builtin;refine cy7 _ rfl _ _ _ _ rfl _ _ rfl rfl _ _ hrz ?_)
  go_region
  go_wp2
  all_goals (go_ret;exact⟨rfl,(w.alloc (.cells ROW 279)).drew.drew,((cY.alloc w.drew _ _).trans (cY.drew _ _)),aw,cD8 w.drew _,by unfold wH;rw[hROW]⟩)
end
def aD1:Go.SX.Spec:=Cz ji 279 40
def a42:aB 169 aD1:=by
 show mG Tryz.prog GL 169 (Cz ji 279 40)
 exact Rm (u:=ji) (zv:=Ef) bW4 Tryz.underlying54 oO rfl aD rfl
def D9:ct8 := .agg #[.int .i64 0,.slice ct4 0 0]
section
variable {w:cu6}
theorem bX6:MO Tryz.prog 226 53 196 2 32 D9.cells 53:=by
 refine⟨?_,?_,?_⟩
 .intro w w' p q n c vc v hn hc hr;have hz:(cC5 196).run Tryz.prog w = .ok 2 w:=jC oO w;unfold cu5 at hc;cases p <;> go_enter Tryz.func226,Tryz.ntmps226 <;>
  go_wp2_with (at_builtin;refine cy7 _ rfl _ _ _ _ rfl _ _ rfl rfl _ _ hr ?_)
  all_goals (go_ret;exact⟨rfl,rfl⟩)
 .intro w b off n c i vb voff vc cur vcur E' vs hi hn hc hvb hb hf hv hvl hvs h1v h1c;have hz:∀ w,(cC5 196).run Tryz.prog w = .ok 2 w:=λw=>jC oO w;have mixed:=ik;unfold cu5 at hc;have hsa:w.shape? vb=cs6 (E',vcur.size):=by unfold cv9;rw[hv]
  have hsb:w.shape? b=cs6 (196,cur.size):=by unfold cv9;rw[hb]
  have hfa:w.frozen? ⟨vb,voff,ct4⟩=false:=by simp[cB6,hv]
  have hfe:w.frozen? ⟨vb,vcur.size,ct4⟩=false:=by simp[cB6,hv]
  have hov:∀ lb cb o,(callFunc 269 #[.slice (cs6 ⟨vb,voff,ct4⟩) 1 vc,.slice (cs6 ⟨b,o,ct4⟩) lb cb]).run Tryz.prog w = .ok (.value (.bool ct2)) w:=λlb cb o=>by
   rw[cJ8 Tryz.func269 oO oO oO (e:=cA8 #[53,53] #[4]) oO,
    cH2 w 53 4 196 Tryz.underlying53 2 hz ⟨vb,voff,ct4⟩ ⟨b,o,ct4⟩ 1 vc lb cb hvb E' 196 vcur.size cur.size hsa hsb Y hfa hfe]
   rfl
  have hw1:ct0.wrap ((i:Int)+1)=(i:Int)+1:=by rw[cw6];omega
  have hw2:ct0.wrap ((n:Int)+1)=(n:Int)+1:=by rw[cw6];omega
  have hz2:¬ ((i:Int)=(n:Int)):=Y;have htn:M ((i:Int)+1)=i+1:=Y;have htm:M ((n:Int)+1)=n+1:=Y;have hb1:(0:Int)<=(i:Int)+1:=Y;have hb2:¬ (c=i+1):=Y;have hb3:(i:Int)<=(n:Int)+1:=Y;have hb4:¬ (c=i):=Y;have hin:i<=n:=Y;have e1:(i+1)*2=i*2+2:=Y;have hcl:V (fe cur (off+i*2) ((n-i)*2))=(n-i)*2:=vV Y;have hsz:(Tryz.prog.info? 196).map (·.size)=cs6 2:=by kernel_rfl
  have hcp1:(cx4 #[53,53] 3 #[.slice (cs6 ⟨b,off+(i+1)*2,ct4⟩) (n-i) (c-(i+1)),.slice (cs6 ⟨b,off+i*2,ct4⟩) (n+1-i) (c-i)]).run Tryz.prog w.drew =
    .ok (goInt ((n-i:Nat):Int)) (w.drew.setRow b (gp cur (off+(i+1)*2) (fe cur (off+i*2) ((n-i)*2)))):=by
   have h:=wp (P:=Tryz.prog) w.drew 53 53 3 196 2 b (off+(i+1)*2) (n-i) (c-(i+1)) ⟨b,off+i*2,ct4⟩ (n+1-i) (c-i) cur 196 (fe cur (off+i*2) ((n-i)*2)) Tryz.underlying53 hsz hb
    (by rw[hcl];simp only[cw1];split <;> omega)
    (λj v hj=>by
     have hj':=(ct6.1 hj).1;rw[hcl] at hj';rw[uE hj'] at hj;rw[cv5,cy5 w.drew b _ cur 196 (0,0) hb];exact hj)
    (by rw[hcl];omega) h1c
   have hm:cD5 (n+1-i) (n-i)=n-i:=by simp only[cw1];split <;> omega
   rw[hm] at h;exact h
  have hr1:(gp cur (off+(i+1)*2) (fe cur (off+i*2) ((n-i)*2))).size=cur.size:=y8 (by rw[hcl];omega);have hcp2:(cx4 #[53,53] 3 #[.slice (cs6 ⟨b,off+i*2,ct4⟩) (n+1-i) (c-i),.slice (cs6 ⟨vb,voff,ct4⟩) 1 vc]).run Tryz.prog (w.drew.setRow b (gp cur (off+(i+1)*2) (fe cur (off+i*2) ((n-i)*2)))) =
    .ok (goInt 1) (w.drew.setRow b (zh cur off n i 2 vs)):=by
   have h:=wp (P:=Tryz.prog) (w.drew.setRow b (gp cur (off+(i+1)*2) (fe cur (off+i*2) ((n-i)*2)))) 53 53 3 196 2 b (off+i*2) (n+1-i) (c-i) ⟨vb,voff,ct4⟩ 1 vc _ 196 vs Tryz.underlying53 hsz
    (cA4 w.drew b cur _ 196 (0,0) hb)
    (by rw[hvl];simp only[cw1];split <;> omega)
    (λj v hj=>by
     rw[cv5,cB2 _ _ _ _ hvb];exact hvs j v hj)
    (by rw[hr1,hvl];omega) h1v
   have hm:cD5 1 (n+1-i)=1:=by simp only[cw1];split <;> omega
   rw[hm,cE6] at h;exact h
  clear e1 hcl hr1
  go_enter Tryz.func226,Tryz.ntmps226
  go_wp2_with (simp only[hov])
  go_region
  go_wp2
  all_goals (go_ret;exact⟨rfl,rfl⟩)
 .intro w b off n i vb voff vc cur vcur E' vs hi hn hby hb hf hv hvl hvs h1v h1c;have hz:∀ w,(cC5 196).run Tryz.prog w = .ok 2 w:=λw=>jC oO w;have mixed:=ik;have hx:(Tryz.prog.info? 196).map (λi=>(i.zero,i.size,i.bytes))=cs6 (cs6 D9,2,32):=by kernel_rfl
  obtain⟨i0,hi0⟩:∃ i0,Tryz.prog.info? 196=cs6 i0:=by
   cases hh:Tryz.prog.info? 196 with
   | none=>rw[hh] at hx;cases hx
   | some i0=>exact⟨i0,rfl⟩
  rw[hi0] at hx;simp only[cB5,cy,ck] at hx;have ⟨hz0,hzs,hzb⟩:=hx;have hsz:(Tryz.prog.info? 196).map (·.size)=cs6 2:=by kernel_rfl
  have hbw:=(cu3.1 hb).1;have hvw:=(cu3.1 hv).1;have hni:i*2+(n-i)*2=n*2:=by rw[← gA];congr 1;omega
  have hil:V (fe cur off (i*2))=i*2:=vV Y;have hcl:V (fe cur (off+i*2) ((n-i)*2))=(n-i)*2:=vV Y;have hold:(cE1 i0.size i (.slice (cs6 ⟨b,off,ct4⟩) i n)).run Tryz.prog w.drew = .ok (fe cur off (i*2)).toArray w.drew:=by
   rw[hzs];exact cJ9 w.drew 2 i ⟨b,off,ct4⟩ i n (fe cur off (i*2)) hil (λj v hj=>by
    have hj':=(ct6.1 hj).1;rw[hil] at hj';rw[uE hj'] at hj;rw[cv5,cy5 w.drew b _ cur 196 (0,0) hb];exact hj)
  have hGn:n+1<=cz2 w (n+1) n 196:=cI4 w _ _ _;have hG63:=cB4 w (n+1) n 196 hn;have hrz:(cv7 #[53,3] 53 #[.slice (cs6 ⟨b,off,ct4⟩) i n,.int .i64 ((n:Int)+1-(i:Int))]).run Tryz.prog w =
    .ok (.slice (cs6 ⟨w.heap.size,0,ct4⟩) (n+1) (cz2 w (n+1) n 196)) (w.drew.alloc (.cells (qu cur off n i 2 (cz2 w (n+1) n 196) D9.cells) 196)):=by
   have h:=cF7 w 53 3 53 196 i0 _ .i64 .i64 Tryz.underlying53 Tryz.underlying3 hi0 hz0 (cs6 ⟨b,off,ct4⟩) i n (fe cur off (i*2)) hold (n+1-i) Y Y Y (by unfold cu5 at hn;omega) (by rw[hzb];omega)
    (by rw[show i+(n+1-i)=n+1 from by omega];exact cL6 Y (by rw[hzb];exact hby))
   rw[show i+(n+1-i)=n+1 from by omega] at h;rw[show (n:Int)+1-(i:Int)=((n+1-i:Nat):Int) from by omega];exact h
  generalize hG:cz2 w (n+1) n 196=G at *;have hrs:(qu cur off n i 2 G D9.cells).size=G*2:=by
   unfold qu;simp only[cA5,vz,hil,size_zeroCells];have:D9.cells.size=2:=rfl;rw[this,← gA,← gA];congr 1;omega
  generalize hROW:qu cur off n i 2 G D9.cells=ROW at *;have hgN:(w.drew.alloc (.cells ROW 196)).heap[w.heap.size]? = cs6 (.cells ROW 196 (0,0)):=cD8 w.drew _;have hG6:(n+1)*2<=G*2:=nk _ hGn;have e1:(i+1)*2=i*2+2:=Y;have hr1:(gp ROW (i*2) vs).size=G*2:=by rw[y8 (by rw[hrs,hvl];omega),hrs]
  have hcp1:(cx4 #[53,53] 3 #[.slice (cs6 ⟨w.heap.size,i*2,ct4⟩) (n+1-i) (G-i),.slice (cs6 ⟨vb,voff,ct4⟩) 1 vc]).run Tryz.prog (w.alloc (.cells ROW 196)).drew =
    .ok (goInt 1) ((w.alloc (.cells ROW 196)).drew.setRow w.heap.size (gp ROW (i*2) vs)):=by
   have h:=wp (P:=Tryz.prog) (w.drew.alloc (.cells ROW 196)) 53 53 3 196 2 w.heap.size (i*2) (n+1-i) (G-i) ⟨vb,voff,ct4⟩ 1 vc _ 196 vs Tryz.underlying53 hsz hgN
    (by rw[hvl];simp only[cw1];split <;> omega)
    (λj v hj=>by
     rw[cv5,cy3 (w:=w.drew) _ vb _ hvw];exact hvs j v hj)
    (by rw[hrs,hvl];omega) h1v
   have hm:cD5 1 (n+1-i)=1:=by simp only[cw1];split <;> omega
   rw[hm] at h;exact h
  have hcp2:(cx4 #[53,53] 3 #[.slice (cs6 ⟨w.heap.size,(i+1)*2,ct4⟩) (n-i) (G-(i+1)),.slice (cs6 ⟨b,off+i*2,ct4⟩) (n-i) (n-i)]).run Tryz.prog ((w.alloc (.cells ROW 196)).drew.setRow w.heap.size (gp ROW (i*2) vs)).drew =
    .ok (goInt ((n-i:Nat):Int)) ((w.alloc (.cells ROW 196)).drew.drew.setRow w.heap.size (gp (gp ROW (i*2) vs) ((i+1)*2) (fe cur (off+i*2) ((n-i)*2)))):=by
   have h:=wp (P:=Tryz.prog) ((w.alloc (.cells ROW 196)).drew.setRow w.heap.size (gp ROW (i*2) vs)).drew 53 53 3 196 2 w.heap.size ((i+1)*2) (n-i) (G-(i+1)) ⟨b,off+i*2,ct4⟩ (n-i) (n-i) _ 196 (fe cur (off+i*2) ((n-i)*2)) Tryz.underlying53 hsz
    (cA4 _ w.heap.size _ _ 196 (0,0) hgN)
    (by rw[hcl];simp only[cw1];split <;> omega)
    (λj v hj=>by
     have hj':=(ct6.1 hj).1;rw[hcl] at hj';rw[uE hj'] at hj;show cP5 ((w.drew.alloc (.cells ROW 196)).setRow w.heap.size (gp ROW (i*2) vs)) _=_;rw[cv5,cB2 _ _ _ _ (by show b≠w.heap.size;omega),cy3 (w:=w.drew) _ b _ hbw,cy5 w.drew b _ cur 196 (0,0) hb];exact hj)
    (by rw[hr1,hcl];omega) (λv hv=>h1c v (by
     unfold fe at hv ⊢;rw[← cA1] at hv;have e2:take ((n-i)*2) (drop (i*2) (drop off cur.toList))=drop (i*2) (take (n*2) (drop off cur.toList)):=by
      rw[cM1];congr 1;omega
     rw[e2] at hv;exact zo hv))
   have hm:cD5 (n-i) (n-i)=n-i:=by simp only[cw1];split <;> omega
   rw[hm] at h;have hs2:∀(W:cu6)(g:Nat)(a b:Array ct8),(W.setRow g a).drew.setRow g b=W.drew.setRow g b:=λW g a b=>cE6 W.drew g a b;rw[hs2] at h;exact h
  have hz2:¬ ((i:Int)=(n:Int)):=Y;have hw1:ct0.wrap ((i:Int)+1)=(i:Int)+1:=by rw[cw6];unfold cu5 at hn;omega
  have hw2:ct0.wrap ((n:Int)+1)=(n:Int)+1:=by rw[cw6];unfold cu5 at hn;omega
  have hz3:(n:Int)<(n:Int)+1:=Y;have hGi:¬ (G=i):=Y;have hGim:¬ (G=i+1):=Y;have hci:¬ (n=i):=Y;have hb1:(0:Int)<=(i:Int)+1:=Y;have hin:i<=n:=Y;have htn:M ((i:Int)+1)=i+1:=Y;have hb3:(i:Int)<=(n:Int):=Y;have hiG:i<=n+1:=Y;unfold cu5 at hn hG63;clear e1 hr1 hG6 hil hcl hni hrs hgN hold hGn
  go_enter Tryz.func226,Tryz.ntmps226
  go_wp2_with (at_builtin;refine cy7 _ rfl _ _ _ _ rfl _ _ rfl rfl _ _ hrz ?_)
  go_region
  go_wp2
  all_goals (go_ret;exact⟨rfl,(w.alloc (.cells ROW 196)).drew.drew,((cY.alloc w.drew _ _).trans (cY.drew _ _)),aw,cD8 w.drew _,by unfold wH;rw[hROW]⟩)
end
def bX7:Go.SX.Spec:=Cz tz 196 32
def bQ3:aB 226 bX7:=by
 show mG Tryz.prog GL 226 (Cz tz 196 32)
 exact Rm (u:=tz) (zv:=D9) bX6 Tryz.underlying53 oO rfl aD rfl
end Go.RS
namespace Go.RS
open Go.SX Go.Proofs
def bV8:Ct:=⟨[.val (.sl tz)],[.own 196 tz],λd=>[(V d.1:Int)<=1000000],λd=>((d.1,()),())⟩
def yG(a:cr6):=V a<=cu5/\ ∀(b:bL9),b∈a->aq b.1/\aM b.2
def bu2:
 ∀(a:cr6),J (yG a)->O a<=1000000->kw (V a=0) ([]=a) (bR ((0+V a)*32)/\a=a):= by
  delta O aq aH aM bR J yG kw aF
  rintro x ⟨⟨hl,-⟩,-⟩ h b hb
  refine ay (λh1=>?_) (λh1=>⟨by simp;omega,by simp⟩)
  have:=hb h1
  exact (Be this).symm
def bk3:aB 85 bV8.spec:=aG Tryz.func85 aC aS bu2
def cp3:Ct:=⟨[.val (.sl ji)],[.own 279 ji],λd=>[(V d.1:Int)<=1000000],λd=>((d.1,()),())⟩
def aV8:
 ∀(a:List cO),J (kR a)->O a<=1000000->Lc a:= by
  delta O aq aH aM bR kR J kw iq Lc aF
  rintro x ⟨⟨hl,-⟩,-⟩ h b hb
  refine ay (λh1=>?_) (λh1=>⟨by simp;omega,by simp⟩)
  have:=hb h1
  exact (Be this).symm
def bH2:aB 160 cp3.spec:=aG Tryz.func160 aC aS aV8
def Dq(l:bg4):Prop:=(V l:Int)<=1000000∧∀ b∈l,(V b:Int)<=1099511627776
def Dd(l:List bU):Prop:=(V l:Int)<=1000000∧∀ t∈l,(V t.2.2:Int)<=1099511627776
def Y1(l:List dO):Prop:=(V l:Int)<=1000000∧∀ t∈l,(V t.2:Int)<=1099511627776
def ai0:Ct:=⟨[.val (.sl (.sl bc))],[.own 22 (.sl bc)],λd=>[Dq d.1],λd=>((d.1,()),())⟩
def cc0:bG ai0.ps->bL:=(λd=>{loops:=(bz 3 (λS=>{ι:=Int×bg4,qn:=fE,μ:=λi=>M (V d.1-i.1),inv:=λi=>0<=i.1/\i.1<=V d.1/\V i.2=V d.1/\i.2.take (M i.1)=d.1.take (M i.1),keep:=[0,9,10],slots:=λi=>[(3,.own 524288 1),(11,.int .i64 i.1)],names:=λi=>[(524288,.live (.row 22 (.sl bc) i.2))]}) cm)})
def Jp(a:Int)(b c:bg4):=bo a (O b) (V c=V b) (take (M a) c=take (M a) b)
def bK5:
 ∀(a:bg4),J (uk a)->(O a<=1000000/\ ∀(b:Z),b∈a->aR b)->bo (O a) (O a) (tJ ((↑((24:Nat)):Int)*O a)) ((∃(b:Int) (c:bg4),Jp b a c/\a=a/\a=a/\O a=O a/\0=b/\J (replicate (M (O a)) []=c))/\ ∀(b:Int)(c:bg4),Jp b a c->au (av b (O a)) (bP b (O a) (aR (N a b)) (am b (b<O c) (∃(d:Int) (e:bg4),Jp d a e/\bi (O a) d b/\a=a/\a=a/\O a=O a/\aA b=d/\J (set c (M b) (N a b)=e)))) (c=a)):= by
  delta N O ap aM aR bi bZ am bo aA J uk av Jp bP aF tJ
  rintro x ⟨⟨hl,-⟩,-⟩⟨hn,hx⟩
  simp only[cu5] at hl
  refine⟨Y,Y,Y,⟨0,replicate (V x) [],⟨Y,Y,aw,aw⟩,aI⟩,?_⟩
  rintro j ys ⟨j0,j1,h1,h2⟩
  refine bT (λhj=>?_) (λhj=>?_)
  .refine⟨j0,hj,hx _ (cW j0 hj),j0,Y,j+1,ys.set (M j) (T x (M j) cs5),⟨Y,Y,?_,?_⟩,Y,?_⟩
   .rw[f5];exact h1
   .rw[nq j0 hj,nq j0 (by rw[f5];omega),kW Y,← h2,List.take_set_of_le (dq _)]
   ·(repeat refine g9 ?_)
    trivial
  .have e:M j=V x:=Y
   rw[e,cz4,gE Y] at h2
   exact h2
def bb8:aB 84 ai0.spec:=aG Tryz.func84 (C aC po) cc0 bK5
def ZC:Ct:=⟨[.val (.sl ji)],[.own 279 ji],λd=>[Dd d.1],λd=>((d.1,()),())⟩
def cd1:bG ZC.ps->bL:=(λd=>{loops:=(bz 3 (λS=>{ι:=Int,μ:=λi=>M (V d.1-i),inv:=λi=>0<=i/\i<=V d.1,keep:=[3,8,9],slots:=λi=>[(10,.int .i64 i)],keepN:=[128]}) cm)})
def aY8:
 ∀(a:List cO),J (kR a)->(O a<=1000000/\ ∀(b:bU),b∈a->aR b.2.2)->pm (O a) (sa (O a) (O a=O a) (J (a=a))) (∀(b:Int),aF b (O a)->au (av b (O a)) (bP b (O a) (aR (N a b).2.2) (am b (b<O a) (rC (O a) b (O a=O a) (aA b) (J (set a (M b) (N a b)=a))))) (a=a)):= by
  delta N O ap aq aH aM aR bi bZ am kR aA J rC sa av bP iq pm rW aF
  rintro x ⟨⟨hl,-⟩,-⟩⟨hn,hx⟩
  refine⟨hn,⟨0,⟨Y,Y⟩,aI⟩,?_⟩
  rintro j ⟨j0,j1⟩
  refine ay (λhj=>?_) (λhj=>rfl)
  have hj:=aX hj
  refine⟨j0,hj,hx _ (cW j0 hj),j0,hj,j+1,⟨Y,Y⟩,Y,?_⟩
  (repeat refine g9 ?_)
  exact⟨ze j0 hj,aQ⟩
def bQ5:aB 86 ZC.spec:=aG Tryz.func86 (C (C aC bH2) po) cd1 aY8
abbrev YE:OT := .pair cI (.pair cI (.pair cI (.pair (.row 22 (.sl bc)) (.pair cI (.pair (.row 22 (.sl bc)) (.pair (.row 196 tz) (.pair (.row 279 ji) (.row 279 ji))))))))
def IY(c:cA):Prop:=Dq (ct c)/\Dq (gn c)/\Y1 (oT c)/\Dd (iI c)/\Dd (ju c)
def V7:Ct:=⟨[.agg qW],[.agg YE],λd=>[IY d.1],λd=>((d.1,()),())⟩
def a95:bG V7.ps->bL:=(λd=>{loops:=(bz 4 (λS=>{ι:=Int,μ:=λi=>M (V (oT d.1)-i),inv:=λi=>0<=i/\i<=V (oT d.1),keep:=[1,2,18,19],slots:=λi=>[(20,.int .i64 i)],keepN:=[32,48,128,176,256]}) cm)})
def Ox(a:Int×Int×Int×List Z×Int×List Z×List bL9×List cO×List cO)(b:Prop):=bh a.1 a.2.1 a.2.2.1 (a.2.2.2.2.1=a.2.2.2.2.1) (a.2.2.2.2.2.2.2.1=a.2.2.2.2.2.2.2.1/\a.2.2.2.2.2.2.2.2=a.2.2.2.2.2.2.2.2/\uK (a.2.2.2.1=a.2.2.2.1) (a.2.2.2.2.2.1=a.2.2.2.2.2.1/\J b))
def Ah(a:Int×Int×Int×List Z×Int×List Z×List bL9×List cO×List cO):=O a.2.2.2.2.2.2.1
def at3:
 ∀(a:Int×Int×Int×List Z×Int×List Z×List bL9×List cO×List cO),J (CT.wf qW a)->Dq (ct a)/\Dq (gn a)/\Y1 (oT a)/\Dd (iI a)/\Dd (ju a)->Dq a.2.2.2.1/\Dq a.2.2.2.2.2.1/\pm (Ah a) (sa (O (oT a)) (Ah a=Ah a) (Ox a (a.2.2.2.2.2.2.1=a.2.2.2.2.2.2.1))) (∀(b:Int),aF b (O (oT a))->eh b (Ah a) (b<Ah a) (aR (N a.2.2.2.2.2.2.1 b).2/\am b (b<Ah a) (rC (O (oT a)) b (Ah a=Ah a) (aA b) (Ox a (set a.2.2.2.2.2.2.1 (M b) (N a.2.2.2.2.2.2.1 b)=a.2.2.2.2.2.2.1)))) (Dd a.2.2.2.2.2.2.2.1) (Dd a.2.2.2.2.2.2.2.2/\a=a)):= by
  delta N O ap bh bp aR bi bZ am eh aA J rC Ox sa av Ah uK pm rW aF
  rintro d-⟨h1,h2,h3,h4,h5⟩
  have eE:oT d=d.2.2.2.2.2.2.1:=rfl
  rw[eE] at h3 ⊢
  have ⟨e1,e2⟩:=h3
  refine⟨h1,h2,e1,⟨0,⟨Y,Y⟩,aI⟩,?_⟩
  rintro j ⟨j0,j1⟩
  refine ay (λhj=>?_) (λhj=>⟨h4,h5,rfl⟩)
  have hj:=aX hj
  refine⟨j0,hj,e2 _ (cW j0 hj),j0,hj,j+1,⟨Y,Y⟩,Y,?_⟩
  (repeat refine g9 ?_)
  exact⟨ze j0 hj,aQ⟩
def P2:aB 43 V7.spec:=aG Tryz.func43 (C (C (C (C aC bb8) bQ5) bk3) po) a95 at3
def a32:Ct:=⟨[.val cI],[.own 5 bc],λd=>[0<=d.1],λd=>((fu d.1 2 2,()),())⟩
def bQ2:
 ∀(a:Int),J (aq a)->0<=a->(0:Int)<=(8:Int)/\ug a::bI (ct1 cw0 a)=fu a 2 2:= by
  delta aq aH J bI ug
  rintro n-h0
  have e:=Fp (n:=n) (k:=1) h0 Y
  refine⟨aD,?_⟩
  rw[yj,show fm .i64 n 8=n/256 from e,cy9,cy9]
def Ys:aB 165 a32.spec:=aG Tryz.func165 aC aS bQ2
def aI8:Ct:=⟨[.val cI,.val (.sl bc)],[.val (.sl bc)],λd=>[0<=d.1,(V d.2.1:Int)<=1000000],λd=>((mA d.1 d.2.1,()),())⟩
def bt2:
 ∀(a:Int)(b:Z),aq a/\J (aM b)->0<=a/\bV b->am a (fy (cw2 (bI 68::fu a 2 2::nR b))) (cw2 (bI 68::fu a 2 2::nR b)=mA a b):= by
  delta O aq aH aM am bV J fy bI nR aF
  rintro n it-⟨h0,h1⟩
  have e:cw2 [[(68:Int)],fu n 2 2,it]=mA n it:=by simp[mA]
  rw[e]
  refine⟨h0,?_,rfl⟩
  rw[Qp];omega
def aQ4:aB 93 aI8.spec:=aG Tryz.func93 (C (C aC Ys) XY) aS bt2
def bt7:Ct:=⟨[.val (.sl bc),.val cI],[.val cI],λd=>[(V d.1:Int)<=9223372036854775807],λd=>((gF d.1 d.2.1,()),())⟩
def aW4:
 ∀(a:Z)(b:Int),aM a/\J (aq b)->aH (O a)->aH (O a)/\bM a b 2=gF a b:= by
  delta O aq aH aM J aF
  rintro b a-h
  exact⟨h,rfl⟩
def ao5:aB 164 bt7.spec:=aG Tryz.func164 (C aC CL) aS aW4
end Go.RS
namespace Go.SX
structure Cp where
 E:ct5
 o:OT
 oe:OT
 off:Nat
 Er:ct5
 t:CT
 xs:o.D->List t.D
 pre:o.D->List Prop
 ex:o.D->oe.X
 out:o.D->Nat
def Cp.upd(c:Cp)(d:c.o.D)(p base n:Nat):List (Nat×Nm) :=
 [(p,.live (.cells c.E (tH (oY p c.oe (c.ex d) [] 0) c.off [.part base c.t.size (c.out d) (V (c.xs d)-c.out d)]))),(base,.live (.row c.Er c.t (c.xs d))),(n,.dead)]
def Cp.spec(c:Cp):Spec:=λbase svs=>match svs with
 | [.ptr p z,.ptr q off]=>match ct7 z 0,ct7 q p,ct7 off c.off,FZ [.box c.E c.o] [] with
  | true,cs8,cs8,cs8 => .ask p fun
   | .live (.cells E cs)=>match ct7 E c.E with
    | true=>(pX ct4 c.o cs).bind λx=>match x with
     | (d,[],[],[],[cs6 n])=>match ct7 p n with
      | true => .fail
      | false => .ask base fun
       | .un => .ret (.det (c.pre d) (.part base c.t.size 0 (c.out d)) (c.upd d p base n))
       | _ => .fail
     | _ => .fail
    | false => .fail
   | _ => .fail
  | _,_,_,_ => .fail
 | _ => .fail
def Cp.start(c:Cp)(d:c.o.D)(n:Nat):St:=⟨pS [.ptr PN 0,.ptr PN c.off] n,[(PN,.live (.cells c.E (qZ c.o d 1 0)))]++(uy c.o d 0++vS (mr [.box c.E c.o]))⟩
def Cp.fin(P:cu2)(c:Cp)(rv:List ResultVar)(d:c.o.D):Ex->St->Prop:=λe S=>match e with
 | .exit _=>False
 | _=>match xT P rv S.sl (dK S.H),dK S.H PN with
  | some [.part q z l0 k],.live (.cells E' cs)=>match dK S.H q,cs[c.off]?,nB (dK S.H) cs8 c.oe (cs6 1) cs with
   | .live (.row E2 t2 ys),cs6 (.part q2 z2 l2 k2),cs6 (x,[],[],[]) =>
    match ct7 z c.t.size,ct7 E' c.E,ct7 E2 c.Er,iP t2 c.t ys,ct7 q2 q,ct7 z2 c.t.size,Nat.blt q PN||Nat.ble QN q with
    | true,cs8,cs8,cs6 zs,cs8,cs8,cs8=>qf [l0=0,k=c.out d,zs=c.xs d,l2=c.out d,k2=V (c.xs d)-c.out d,x=c.ex d]
    | _,_,_,_,_,_,_=>False
   | _,_,_=>False
  | _,_=>False
def Cp.vc(P:cu2)(sp:d8)(c:Cp)(fn:Func)(an:c.o.D->bL):Prop :=
 B9 c.o λd=>c.o.wf d->qf (c.pre d)->xo (c.start d fn.ntmps) (sx P sp (an d) (mC fn) (c.fin P fn.results.toList d))
variable{sp:d8}{fn:Func}
theorem Cp.ok{P:cu2}(c:Cp){f:cy6}(hf:P.funcs[f]? = cs6 fn)(hb:fn.body=cs6 (mC fn))(hr:jD (mC fn)=[])(hs:iF P sp)(ik:P.follows .mixedOrders=cs8)
  (hnb:c.o.nb=0) (hne:c.oe.nb=0) (hnr:c.oe.nr=0) (hpl:c.oe.hx=c.o.hx) (hcon:∀ d,uy c.o d 0=[(QN,.live (.row c.Er c.t (c.xs d)))]) (an:c.o.D->bL)
  (vc:Cp.vc P sp c fn an):mG P sp.gl f c.spec:=by
 intro base svs h dl r e hp w0 N0 A env w vs hG m hd
 unfold Cp.spec at e
 split at e
 case h_2=>cases e
 rename_i p z q off
 split at e
 case h_2=>cases e
 rename_i hz hq hoff hix
 have hz:=bH hz
 have hq:=bH hq
 have hoff:=bH hoff
 subst hz hq hoff
 simp only[Q.run] at e
 split at e
 case h_2=>cases e
 rename_i p0 q0 hk
 simp only[cy,ck] at e
 obtain⟨rfl,rfl⟩:=e
 split at hk
 case h_2=>cases hk
 rename_i E cs hl
 split at hk
 case h_2=>cases hk
 rename_i hE
 have hE:=bH hE
 subst hE
 obtain⟨x,q1,q2,e1,e2,rfl⟩:=Q.run_bind _ _ _ hk
 split at e2
 case h_2=>cases e2
 rename_i d n
 split at e2
 .cases e2
 rename_i hpn
 have hpn:q≠n:=λe=>by rw[e,wK] at hpn;cases hpn
 simp only[Q.run] at e2
 split at e2
 case h_2=>cases e2
 rename_i p1 r1 hk1
 simp only[cy,ck] at e2
 obtain⟨rfl,rfl⟩:=e2
 split at hk1
 case h_2=>cases hk1
 rename_i hun
 cases cE hk1
 have hp:=hp
 simp only[aL,ax] at hd
 obtain⟨_,_,rfl,⟨k,l,hek,rfl⟩,_,_,rfl,⟨k',l',hek',rfl⟩,rfl⟩:=hd
 rw[hek] at hek'
 cases hek'
 have ⟨⟨us,hus,hdu⟩,_⟩:=m.live_blk hl hek
 have ⟨hxr,hxn,hxl⟩:=Wm hix
 have hxI:mr [.box c.E c.o]=c.o.hx:=by simp[mr]
 have ⟨s1,s2,s3,s4,us',rs',s5,s6,hol,hols,s7⟩:=Gf m (Ac:=iQ A env []) (λb hb=>.inl hb) ct4 c.o cs us.toList d [] [] [] [cs6 n] q1 1 0 e1 hdu (λk hk=>.inr hk)
 simp only[aL] at s6
 subst s6
 rw[js] at s5
 subst s5
 have holn:(hol.map (·.1)).Nodup:=by rw[hols.1,← hxI];exact hxn
 have hbh:[q].length<=HN-PN:=by simp[HN,PN]
 have hbl:[q].length<=PN:=by simp[PN]
 have holv:∀ y∈hol,lQ env [q] [cs6 n] hol (HN+y.1) = .val y.2.1 y.2.2:=λy hy=>by
  have hy':y.1∈mr [.box c.E c.o]:=by rw[hxI,← hols.1];exact si (f:=(·.1)) hy
  unfold lQ;rw[Va hbh (hxl _ hy')];exact Ry holn y hy
 have hcb:lQ env [q] [cs6 n] hol PN=env q:=by have:=K7 (env:=env) (cx:=[cs6 n]) (hv:=hol) hbl (i:=0) (n:=q) rfl;simpa using this
 have hcc:lQ env [q] [cs6 n] hol QN=env n:=by have:=Us (env:=env) (bx:=[q]) (cx:=[cs6 n]) (hv:=hol) (i:=0) (o:=cs6 n) rfl;simpa[sm] using this
 have ⟨k1,k2,k3⟩:=s7 (lQ env [q] [cs6 n] hol) (λn hn=>by cases hn) (λk n hn=>by simp at hn) (λk y hy=>by
  cases k with
  | zero=>simp at hy;subst hy;simpa[sm] using hcc
  | succ k=>simp at hy) holv
 have hlb:lm (iQ A env []) env h (lQ env [q] [cs6 n] hol) w ([q].map cs6) [(PN,.live (.cells c.E (qZ c.o d 1 0)))] PN:=by
  refine⟨⟨rfl,_,rfl,rfl,.inl ⟨q,_,rfl,hl,rfl,λk' len' he=>?_,λhe=>?_⟩⟩,aQ⟩
  .rw[hek] at he;cases he;exact⟨us,hus,k1⟩
  .rw[hek] at he;cases he
 have k3:lm (iQ A env []) env h (lQ env [q] [cs6 n] hol) w [cs6 n] (uy c.o d 0) QN:=by simpa using k3
 have hnd:([q]++jw [cs6 n]).Nodup:=by simp[jw,hpn]
 have mc:=m.call hol (fz:=[]) (λ_ _ hh=>by simp at hh) hbl hlb k3 aw hnd
 rw[hols.1,← hxI] at mc
 have hvc:=Hl.1 vc d s2 (zl.2 hp)
 rw[IW] at hvc
 obtain⟨bn,hbn1,hbn2⟩:∃ b,h n = .live b/\b.mut=true:=by
  obtain⟨b',_,_,_,⟨q',b,e,h1,h2,_⟩|⟨e,_⟩⟩:=k3.get.2 0 (cs6 n) rfl
  .cases e;exact⟨b,h1,h2⟩
  .cases e
 have hnn:env n ≠ .un:=by
  have:=m.nm n;rw[hbn1] at this;obtain⟨k,len,e,_⟩|⟨e,_⟩:=this <;> rw[e] <;> simp
 have hbq:base≠q:=λe=>by rw[e,hl] at hun;cases hun
 have hbn:base≠n:=λe=>by rw[e,hbn1] at hun;cases hun
 refine callsIn_wide.1 (callsIn_of_wp_marks (n:=0) hf hb trivial (Nw (ro:=ct4) (N0:=⟨DX env ([q]++jw [cs6 n]),iQ A env [],N0.g⟩) ⟨hs,hG⟩ ik (mC fn) (λx hx=>by rw[hr] at hx;cases hx) _ _ _ (iQ A env []) (lQ env [q] [cs6 n] hol) _ w hvc ⟨mc,?_,?_,aQ⟩ ?_))
 .simp only[St.fs,Cp.start,Ft,cA5,Array.size_replicate];omega
 .intro i;simp only[St.fs,Cp.start];have dargs:aL (iQ A env []) (lQ env [q] [cs6 n] hol) w [.ptr PN 0,.ptr PN c.off] [.pointer (cs6 ⟨k,0,ct4⟩),.pointer (cs6 ⟨k,c.off,ct4⟩)]:=by
   simp only[aL,ax];exact⟨_,_,rfl,⟨k,l,by rw[hcb];exact hek,rfl⟩,_,_,rfl,⟨k,l,by rw[hcb];exact hek,rfl⟩,rfl⟩
  rcases H1 (l:=[SV.ptr PN 0,SV.ptr PN c.off]) (n:=fn.ntmps) (i:=i) with hj|⟨s,h1,h2⟩
  .rw[hj];simp only[ax]
  .rw[h2];have ⟨v,hv,hdv⟩:=B5 i s dargs h1;generalize hvs:[cU4 (cs6 ⟨k,0,ct4⟩),cU4 (cs6 ⟨k,c.off,ct4⟩)]=vs at hv;have hi:=(ct6.1 hv).1;have:(vs.toArray++cH0 (fn.ntmps-vs.toArray.size) undef).getD i undef=v:=by
    have h3:(vs.toArray++cH0 (fn.ntmps-vs.toArray.size) undef)[i]? = cs6 v:=by
     rw[cE7 (by simpa using hi)];simpa using hv
    simp only[sK,h3,jb]
   rw[this];exact hdv
 .intro ex S' A1 env1 act w1 hK t' x';have hend:∃ rsv qe C1 x,xT P fn.results.toList S'.sl (dK S'.H)=cs6 [.part qe c.t.size 0 (c.out d)]/\dK S'.H PN = .live (.cells c.E C1)/\dK S'.H qe = .live (.row c.Er c.t (c.xs d)) ∧
    C1[c.off]? = cs6 (.part qe c.t.size (c.out d) ((c.xs d).length-c.out d))/\nB (dK S'.H) cs8 c.oe (cs6 1) C1=cs6 (x,[],[],[])/\x=c.ex d/\(qe<PN∨QN<=qe)/\(ex = .normal∨ex = .ret)/\rsv=():=by
   unfold Cp.fin at hK;split at hK
   .exact hK.elim
   .rename_i hex;split at hK
    .rename_i q9 z9 l9 k9 E9 cs9 h1 h2;split at hK
     .rename_i E2 t2 ys q2 z2 l2 k2 x h3 h4 h5;split at hK
      .rename_i zs hz1 hz2 hz3 hc hz4 hz5 hz6;have hz1:=bH hz1;have hz2:=bH hz2;have hz3:=bH hz3;have hz4:=bH hz4;have hz5:=bH hz5;have ⟨et,ez⟩:=lv hc;subst et;simp only at ez;subst ez;subst hz1 hz2 hz3 hz4 hz5;have ⟨y1,y2,y3,y4,y5,y6⟩:=hK;subst y1 y2 y4 y5;refine⟨(),q2,cs9,x,h1,h2,by rw[← y3];exact h3,h4,h5,y6,?_,?_,rfl⟩
       .simp only[uJ] at hz6;exact hz6.imp (λh=>lX h) (λh=>lX h)
       .cases ex with
        | normal=>exact .inl rfl
        | ret=>exact .inr rfl
        | exit i=>exact absurd rfl (hex i)
      .exact hK.elim
     .exact hK.elim
    .exact hK.elim
  obtain⟨-,qe,C1,x,hts,hC,hR,hpt,hoo,rfl,hqe,hex,-⟩:=hend;have key:=ia.leaves (P:=P) (fn:=fn) (R:=λe w'=>∃ v',e = .returned v'∧eV w0 N0 A env h w (.det (c.pre d) (.part base c.t.size 0 (c.out d)) (c.upd d q base n)) v' w') rfl t' λw1 t' x2=>by
   have x':=x'.trans x2;have ⟨rvs,hrun,hres⟩:=aa3 t'.m t'.f hts;have hqP:qe≠PN:=λe=>by rw[e,hC] at hR;cases hR
   have henvp:env1 PN=env q:=by
    have:=x'.envp PN (dq _) bF2 (by rw[hcb,hek];simp);rw[this,hcb]
   have hRq:cD [(q,cs6 PN),(base,cs6 qe)] q=cs6 (cs6 PN):=by simp[rO]
   have hRb:cD [(q,cs6 PN),(base,cs6 qe)] base=cs6 (cs6 qe):=by simp[rO,hbq]
   have hRi:∀ n' y,cD [(q,cs6 PN),(base,cs6 qe)] n'=cs6 y->(n'=q/\y=cs6 PN)∨(n'=base/\y=cs6 qe):=λn' y hy=>by
    simp only[rO] at hy;split at hy
    next e=>cases hy;exact .inl ⟨e,rfl⟩
    .split at hy
     next e=>cases hy;exact .inr ⟨e,rfl⟩
     .simp[cD] at hy
   have hkeepE:∀ n',env n' ≠ .un->gS [(q,cs6 PN),(base,cs6 qe)] env env1 n'=env n':=λn' hn'=>by
    unfold gS;cases hl':cD [(q,cs6 PN),(base,cs6 qe)] n' with
    | none=>rfl
    | some y =>
     obtain⟨rfl,rfl⟩|⟨rfl,rfl⟩:=hRi n' y hl'
     .simp only[iY,hl'];exact henvp
     .exact absurd (by have:=m.nm n';rw[hun] at this;exact this) hn'
   have hAA:∀ b,A b->A1 b:=λb hb=>x'.imm b (.inl hb);have xc:cY w w1 (DX env ([q]++jw [cs6 n])):=⟨t'.m.os,t'.m.tape,t'.m.output,t'.m.dr,t'.m.size,t'.m.fr,x'.shape⟩
   have x0:=m.xt xc (λk' ⟨n',l',hn',he⟩=>by
    simp only[jw,kQ,x9,dm,cD6,or_false] at hn';obtain rfl|rfl:=hn'
    .exact⟨_,_,l',hl,rfl,he⟩
    .exact⟨_,bn,l',hbn1,hbn2,he⟩) hkeepE
   have xg:dQ A env w A1 (gS [(q,cs6 PN),(base,cs6 qe)] env env1) w1:=⟨⟨hAA,x0.envb,x0.envn,x0.envv,x0.keep,x0.shape,x0.lop⟩,x0.dfo⟩
   have hHole:∀ i∈c.oe.hx,∀ v s,env1 (HN+i) = .val v s->ax A1 (gS [(q,cs6 PN),(base,cs6 qe)] env env1) w1 s v:=λi hi v s he=>by
    rw[hpl,← hols.1] at hi;obtain⟨y,hy,rfl⟩:=cv1.1 hi;have h1:=holv y hy;have hlq:=hxl y.1 (by rw[hxI,← hols.1];exact si (f:=(·.1)) hy);have h2:=x'.envp (HN+y.1) (by simp only[HN,PN];omega) (by simp only[HN,QN] at hlq ⊢;omega) (by rw[h1];simp);rw[h2,h1] at he;cases he;exact DA xg _ _ (hols.2 y hy)
   have hrq:gS [(q,cs6 PN),(base,cs6 qe)] env env1 q=env1 PN:=by unfold gS;rw[hRq];simp only[iY,hRq]
   have hrb:gS [(q,cs6 PN),(base,cs6 qe)] env env1 base=env1 qe:=by unfold gS;rw[hRb];simp only[iY,hRb]
   have hkP:env1 PN = .blk k l:=by rw[henvp];exact hek
   have ⟨⟨us1,hus1,hdu1⟩,_⟩:=t'.m.live_blk hC hkP;have ⟨p1,p2,us2,rs2,p3,p4,p5⟩:=CN (A':=A1) (A2:=A1) (env':=gS [(q,cs6 PN),(base,cs6 qe)] env env1) t'.m (λb hb=>hb) q c.oe (cs6 1) C1 us1.toList (c.ex d) [] [] [] [] [] 0 hoo hdu1 (λk' ⟨_,_,_,hx,_⟩=>by simp at hx) (.inr λb hb=>hb) (.inr (by rw[hne];rfl));simp only[aL] at p4;subst p4;rw[js] at p3;subst p3;obtain⟨g1,-,-,-⟩:=p5 hHole (λ_=>hrq) (λk q hq=>by simp at hq) (λj0 k q _ hq=>by simp at hq);have denP:∀(lo ln:Nat)(v:ct8),ax A1 env1 w1 (.part qe c.t.size lo ln) v->ax A1 (gS [(q,cs6 PN),(base,cs6 qe)] env env1) w1 (.part base c.t.size lo ln) v:=λlo ln v hv=>by
    simp only[ax] at hv ⊢;rw[hrb];exact hv
   have ⟨vo,hvo,hdo⟩:=B5 _ _ hdu1 hpt;have hlt:=(ct6.1 hvo).1;have hvv:=(ct6.1 hvo).2;have hcell:aL A1 (gS [(q,cs6 PN),(base,cs6 qe)] env env1) w1 (tH (oY q c.oe (c.ex d) [] 0) c.off [.part base c.t.size (c.out d) ((c.xs d).length-c.out d)]) us1.toList:=by
    have h2:aL A1 (gS [(q,cs6 PN),(base,cs6 qe)] env env1) w1 [.part base c.t.size (c.out d) ((c.xs d).length-c.out d)] [vo]:=by simp only[aL];exact⟨vo,[],rfl,denP _ _ _ hdo,rfl⟩
    have h3:=Fx (off:=c.off) g1 h2;have he:us1.toList.take c.off++([vo]++us1.toList.drop (c.off+[vo].length))=us1.toList:=by
     rw[← hvv];simp only[fq,List.singleton_append];rw[List.getElem_cons_drop,mj]
    rw[he] at h3;exact h3
   have hmod:Mod w0 N0 A1 (gS [(q,cs6 PN),(base,cs6 qe)] env env1) (dM (c.upd d q base n) h) w1/\dQ A env w A1 (gS [(q,cs6 PN),(base,cs6 qe)] env env1) w1:=by
    refine Mod.retn (R:=[(q,cs6 PN),(base,cs6 qe)]) (U:=c.upd d q base n) (A':=A1) m t'.m x'.shape ?_ ?_ ?_ ?_ ?_ hAA ?_ ?_
    .intro n' y hx;unfold Cp.upd at hx;simp only[dm,ck,cD6,or_false] at hx;obtain⟨rfl,rfl⟩|⟨rfl,rfl⟩|⟨rfl,rfl⟩:=hx
     .refine .inr ⟨_,rfl,rfl,.inl ⟨PN,_,hRq,hC,rfl,λk' len he=>?_,λhe=>?_⟩⟩
      .rw[hkP] at he;cases he;exact⟨us1,hus1,hcell⟩
      .rw[hkP] at he;cases he
     .refine .inr ⟨_,rfl,rfl,.inl ⟨qe,_,hRb,hR,rfl,λk' len he=>?_,λhe=>?_⟩⟩
      .exact (t'.m.live_blk hR he).1
      .have:=t'.m.nm qe;rw[show S'.fs.h qe=_ from hR] at this;obtain⟨_,_,he',_⟩|⟨_,E3,t3,hb3⟩:=this
       .rw[he] at he';cases he'
       .obtain hb3|hb3:=hb3
        .exact⟨E3,t3,hb3⟩
        .cases hb3
     .exact .inl rfl
    .intro n' hn';have ⟨y',hy⟩:=cE5.1 hn';obtain⟨rfl,_⟩|⟨rfl,_⟩:=hRi n' y' hy <;> simp[Cp.upd]
    .intro n1 n2 q' h1 h2;obtain⟨rfl,e1⟩|⟨rfl,e1⟩:=hRi n1 _ h1 <;> obtain⟨rfl,e2⟩|⟨rfl,e2⟩:=hRi n2 _ h2
     .rfl
     .cases e1;cases e2;exact absurd rfl hqP
     .cases e1;cases e2;exact absurd rfl hqP
     .rfl
    .intro n' hn';have ⟨y',hy⟩:=cE5.1 hn';obtain⟨rfl,rfl⟩|⟨rfl,rfl⟩:=hRi n' y' hy
     .exact .inr ⟨_,hl,rfl,by rw[vn hy];exact henvp⟩
     .exact .inl hun
    .rintro k' ⟨n',l',hn',he⟩;simp only[jw,kQ,x9,dm,cD6,or_false] at hn';obtain rfl|rfl:=hn'
     .exact⟨_,_,l',by simp[Cp.upd],hl,rfl,he⟩
     .exact⟨_,bn,l',by simp[Cp.upd],hbn1,hbn2,he⟩
    .intro b hb;have hlt':=t'.m.Alt b hb;obtain h1|h1|h1:=t'.m.fresh b hb
     .obtain h1|⟨_,_,_,hx,_⟩:=h1
      .exact .inl h1
      .simp at hx
     .exact .inr ⟨.inl h1,hlt'⟩
     .exact .inr ⟨.inr h1,hlt'⟩
    .rintro q' b k' l' hq' hbm he ⟨n',hn'⟩;exact (t'.m.live_blk hq' he).2 hbm
   have hrd:=Yu hres;have hgood:eV w0 N0 A env h w (.det (c.pre d) (.part base c.t.size 0 (c.out d)) (c.upd d q base n)) (EN rvs) w1:=by
    exact⟨(),A1,_,aQ,hmod.1,hmod.2,denP _ _ _ hrd⟩
   exact⟨_,hrun,_,rfl,hgood⟩
  obtain rfl|rfl:=hex <;> exact key
theorem Cp.okH{P:cu2}(c:Cp){f:cy6}(hf:P.funcs[f]? = cs6 fn)(hb:(fn.body,jD (mC fn))=(cs6 (mC fn),[]))(hs:iF P sp)(ik:P.follows .mixedOrders=cs8)
  (hnb:c.o.nb=0) (hne:c.oe.nb=0) (hnr:c.oe.nr=0) (hpl:c.oe.hx=c.o.hx) (hcon:∀ d,uy c.o d 0=[(QN,.live (.row c.Er c.t (c.xs d)))]) (an:c.o.D->bL)
  (vc:Cc (Cp.vc P sp c fn an)):mG P sp.gl f c.spec:=c.ok hf (dL Prod.fst hb) (dL cJ3 hb) hs ik hnb hne hnr hpl hcon an vc.out
end Go.SX
