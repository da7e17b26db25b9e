/- SX, part 29: slices.Insert of one element into a slice that owns its row: its contract, off what its code does with values. -/
import Derived.Test.YtgcnlmckfpcgpaaGreatDoorSx25
import Derived.Lib.AppendZerosOnto
import Derived.Lib.Overlaps
import Derived.Laws.Externs
import Derived.Test.YtgcnlmckfpcgpaaGreatDoorSim1
import Derived.Lib.Walk
import Derived.Lib.SliceRun
import Derived.Shelf.RegionOpenPlain
import Derived.Test.YtgcnlmckfpcgpaaGreatDoorNetdraw
import Derived.Test.YtgcnlmckfpcgpaaGreatDoorNetd
import Derived.Test.YtgcnlmckfpcgpaaGreatDoorSch
set_option maxRecDepth 100000
set_option linter.all false
open Int (toNat)
open List (length take set replicate range drop)
open Array renaming getElem?_eq_some_iff->cb4,size_append->cn1
open Bool renaming false->bZ6,true->bZ3
open Classical renaming not_not->ce3
open Decidable renaming byContradiction->co1,decide->bZ2
open Go renaming TypeId->bZ8,Value->ca2,cell_of_row->cm9,cell_setRow_other->cB4,grownCap->cl1,grownCap_le_maxLen->cl2,heap_alloc_new->cE4,maxLen->cb2,setRow_heap->ck6,setRow_setRow->cE9,sizeOf->cx0
open Go.Addr renaming add_lit->cd4
open Go.BinOp renaming xor->cd6
open Go.Builtin renaming append_->cc0,copy_->ci9,zeroCells->ca9
open Go.Extern.SlicesOverlaps renaming overlaps->cu9
open Go.IntKind renaming i64->bZ4,u64->ca1,wrap->bZ5,wrap_i64->ch4
open Go.Lib renaming wpList_append_run->cu0
open Go.Value renaming slice->cj5
open Go.World renaming cell?_alloc_past->cr1,frozen?->cq5,shape?->cc7
open Inhabited renaming default->Sk
open Int renaming tdiv->cd2,tmod->cd8,toNat->it,toNat_natCast->cb6
open List renaming Pairwise->cg8,any->cF0,any_eq_true->cc5,dropWhile_cons->cv1,getD->Om,getElem?_eq_some_iff->ca5,getElem?_toArray->ci2,getElem_mem->cc3,length->be,map->cg4,mem_filter->ce8,mem_iff_getElem->cb5,mem_map->cc1,mem_range->cd3,pairwise_cons->ca4,takeWhile_cons->cv0
open List.Pairwise renaming nil->ce6,sublist->cC3
open List.Sublist renaming refl->cD2
open Nat renaming beq->ca0,min->cw0,min_def->ch3
open Option renaming map_some->ck3,none->bZ9,some->bZ1
namespace Go.SX
def nF(cur:Array ca2)(o:Nat)(cs:List ca2):Array ca2:=(cur.toList.take o++cs++cur.toList.drop (o+be cs)).toArray
theorem Ek{cur:Array ca2}{o:Nat}{cs:List ca2}(h:o+be cs<=cur.size):(nF cur o cs).size=cur.size:=by
 simp only[nF,qU,bM,eM,gw,fC];omega
theorem wX{cur:Array ca2}{o:Nat}{cs:List ca2}(h:o+be cs<=cur.size)(j:Nat) :
  (nF cur o cs)[j]? = if j<o then cur[j]? else if j<o+be cs then cs[j-o]? else cur[j]? := by
 unfold nF
 rw[ci2]
 have hl:be (cur.toList.take o)=o:=by rw[eM,fC];omega
 grind
def kw(cur:Array ca2)(o n:Nat):List ca2:=(cur.toList.drop o).take n
theorem Df{cur:Array ca2}{o n:Nat}(h:o+n<=cur.size):be (kw cur o n)=n:=by
 unfold kw;rw[eM,gw,fC];omega
theorem BC{cur:Array ca2}{o n j:Nat}(h:j<n):(kw cur o n)[j]? = cur[o+j]? := by
 unfold kw;rw[wE,aj h,wp,mO]
def z8(cur:Array ca2)(off n i z:Nat)(vs:List ca2):Array ca2:=nF (nF cur (off+(i+1)*z) (kw cur (off+i*z) ((n-i)*z))) (off+i*z) vs
def xL(cur:Array ca2)(off n i z G:Nat)(zr:Array ca2):Array ca2:=(kw cur off (i*z)).toArray++ca9 zr (n+1-i)++ca9 zr (G-(n+1))
def xn(cur:Array ca2)(off n i z G:Nat)(zr:Array ca2)(vs:List ca2):Array ca2:=nF (nF (xL cur off n i z G zr) (i*z) vs) ((i+1)*z) (kw cur (off+i*z) ((n-i)*z))
structure Vb (P:Program) (F:FuncId) (tS E:bZ8) (z bs:Nat) (zr:Array ca2) (ty:bZ8):Prop where
 last:∀(w w':World)(p q:Option Addr)(n c vc:Nat)(v:ca2),n<=c->c<=cb2->(cc0 #[tS,tS] ty #[.slice p n c,.slice q 1 vc]).run P w = .ok v w' →
  Calls P F #[.slice p n c,.int .i64 n,.slice q 1 vc] w λe w2=>e = .returned v/\w2=w'
 shift:∀(w:World)(b off n c i vb voff vc:Nat)(cur vcur:Array ca2)(E':bZ8)(vs:List ca2),i<n->n+1<=c->c<=cb2->vb≠b->w.heap[b]? = bZ1 (.cells cur E (0,0))->off+c*z<=cur.size →
  w.heap[vb]? = bZ1 (.cells vcur E' (0,0))->be vs=z->(∀ j v,vs[j]? = bZ1 v->w.cell? ⟨vb,voff+j,bZ9⟩=bZ1 v)->(∀ v∈vs,v.oneCell'=bZ3)->(∀ v∈kw cur (off+i*z) ((n-i)*z),v.oneCell'=bZ3) →
  Calls P F #[.slice (bZ1 ⟨b,off,bZ9⟩) n c,.int .i64 i,.slice (bZ1 ⟨vb,voff,bZ9⟩) 1 vc] w λe w'=>e = .returned (.slice (bZ1 ⟨b,off,bZ9⟩) (n+1) c)/\w'=w.drew.setRow b (z8 cur off n i z vs)
 grow:∀(w:World)(b off n i vb voff vc:Nat)(cur vcur:Array ca2)(E':bZ8)(vs:List ca2),i<n->n+1<=cb2->(n+1)*bs<=140737488355328->w.heap[b]? = bZ1 (.cells cur E (0,0))->off+n*z<=cur.size →
  w.heap[vb]? = bZ1 (.cells vcur E' (0,0))->be vs=z->(∀ j v,vs[j]? = bZ1 v->w.cell? ⟨vb,voff+j,bZ9⟩=bZ1 v)->(∀ v∈vs,v.oneCell'=bZ3)->(∀ v∈kw cur off (n*z),v.oneCell'=bZ3) →
  Calls P F #[.slice (bZ1 ⟨b,off,bZ9⟩) n n,.int .i64 i,.slice (bZ1 ⟨vb,voff,bZ9⟩) 1 vc] w λe w'=>e = .returned (.slice (bZ1 ⟨w.heap.size,0,bZ9⟩) (n+1) (cl1 w (n+1) n E)) ∧
   ∃ w1:World,cZ w.drew w1 (λ_=>False)/\w1.heap.size=w.heap.size+1/\w1.heap[w.heap.size]? = bZ1 (.cells (xL cur off n i z (cl1 w (n+1) n E) zr) E (0,0))/\w'=w1.setRow w.heap.size (xn cur off n i z (cl1 w (n+1) n E) zr vs)
def HW(u:CT)(E:bZ8)(bs:Nat):Spec:=λbase svs=>match svs with
 | [.own n sz,.int .i64 i,.own q sq]=>match ca0 q n with
  | true => .fail
  | false => .ask n fun
   | .live (.row E' u' xs)=>match ca0 E' E,ca0 sz u.size,iq u' u xs with
    | true,bZ3,bZ1 ys=>(yk u (.own q sq)).bind λvs=>.ask base fun
     | .un => .ret (.det [be vs=1,0<=i,i<=be ys,(be ys+1)*bs<=140737488355328] (.own base u.size) [(base,.live (.row E u (ys.take (it i)++(vs++ys.drop (it i))))),(n,.dead)])
     | _ => .fail
    | _,_,_ => .fail
   | _ => .fail
 | _ => .fail
section
variable {P:Program} {w0:World} {N0:fI} {A:Nat->Prop} {env:bi} {h:bZ} {w:World}
theorem aI4(m:Mod w0 N0 A env h w){t:CT}(nu:t ≠ .int .u8){n sz:Nat}{v:ca2}{ys:List t.D}{r:List Nat}(e:(yk t (.own n sz)).run h=bZ1 (ys,r))(hd:aA A env w (.own n sz) v)(h1:be ys=1) :
  ∃ k l c vcur E',env n = .blk k l/\v = .slice (bZ1 ⟨k,l.1,bZ9⟩) 1 c/\w.heap[k]? = bZ1 (.cells vcur E' (0,0))/\(∀ n' k' l' b,n'≠n->h n' = .live b->b.mut=bZ3->env n' = .blk k' l'→k≠k') ∧
   Rd A w t (λo=>w.cell? ⟨k,o,bZ9⟩) l.1 (nB t ys 0):=by
 simp only[yk,Q.run] at e
 simp only[aA] at hd
 have fin:∀{b:kG}{E':bZ8}{zs:List t.D},h n = .live b->(b = .row E' t zs∨b = .frz E' t zs)->be zs=1 →
   ∃ k l c vcur E',env n = .blk k l/\v = .slice (bZ1 ⟨k,l.1,bZ9⟩) 1 c/\w.heap[k]? = bZ1 (.cells vcur E' (0,0))/\(∀ n' k' l' b,n'≠n->h n' = .live b->b.mut=bZ3->env n' = .blk k' l'→k≠k') ∧
    Rd A w t (λo=>w.cell? ⟨k,o,bZ9⟩) l.1 (nB t zs 0):=by
  intro b E' zs hl hb hz;obtain⟨hnil,_⟩|⟨k,l,E2,c,hk,hsh,rfl⟩:=hd
  .have:=m.nm n;rw[hl] at this;obtain⟨k',l',he',_⟩|⟨_,E3,t3,hb3⟩:=this
   .rw[hnil] at he';cases he'
   .obtain rfl|rfl:=hb <;> obtain hb3|hb3:=hb3 <;> cases hb3 <;> cases hz
  .have hbd:=m.live_blk hl hk;have hrow:rJ A w k l E' t zs:=by
    obtain rfl|rfl:=hb
    .exact hbd.1
    .exact hbd.1.2
   have hlen:l.2=1:=by have ⟨_,_,_,_,h3,_⟩:=hrow;omega
   have hrd:=D2 hrow (i:=0) ab;have ⟨vcur,cap,hh,_⟩:=hrow;refine⟨k,l,(c-l.1)/sz,vcur,E',hk,by rw[hlen],hh.plain nu,?_,by simpa using hrd⟩;intro n' k' l' b' hne hl' hm' he' hkk;subst hkk;obtain rfl|rfl:=hb
   .exact hne (m.inj n' n b' _ k l' l hl' hl hm' rfl he' hk)
   .exact (m.live_blk hl' he').2 hm' hbd.1.1
 split at e
 next p q hk=>
  simp only[cE,cy] at e;obtain⟨rfl,rfl⟩:=e;split at hk
  .rename_i E' u zs hl;split at hk
   next zs' _ hc=>simp only[Q.run,cE,cy] at hk;obtain⟨rfl,_⟩:=hk;have ⟨et,ey⟩:=kC hc;subst et;simp only at ey;subst ey;exact fin hl (.inl rfl) h1
   .cases hk
  .rename_i E' u zs hl;split at hk
   next zs' _ hc=>simp only[Q.run,cE,cy] at hk;obtain⟨rfl,_⟩:=hk;have ⟨et,ey⟩:=kC hc;subst et;simp only at ey;subst ey;exact fin hl (.inr rfl) h1
   .cases hk
  .cases hk
 .cases e
theorem SS{u:CT}{xs:List u.D}{y:u.D}{i o:Nat}{row:Nat->Option ca2}{cur:Nat->Option ca2}{off:Nat}(hi:i<=be xs)
  (f:∀ k (a:k<be xs),Rd A w u cur (off+k*u.size) xs[k]) {news:Nat->Option ca2} (hy:Rd A w u news 0 y)
  (h1:∀ j,j<i*u.size->row (o+j)=cur (off+j)) (h2:∀ j,j<u.size->row (o+i*u.size+j)=news j) (h3:∀ j,j<(be xs-i)*u.size->row (o+(i+1)*u.size+j)=cur (off+i*u.size+j)) :
  ∀ k (a:k<be (xs.take i++([y]++xs.drop i))),Rd A w u row (o+k*u.size) (xs.take i++([y]++xs.drop i))[k]:=by
 intro k a
 have hl:be (xs.take i)=i:=by rw[eM];omega
 by_cases b:k<i
 .rw[List.getElem_append_left ab];simp;have c:(k+1)*u.size<=i*u.size:=lw _ b;rw[fY,mv] at c;refine xN (f k ab) λj d=>?_;rw[gG,h1 _ ab,gG]
 .rw[List.getElem_append_right ab];simp only[hl];by_cases e:k=i
  .subst e;simp;refine xN hy λj d=>?_;rw[h2 j d,gJ]
  .obtain⟨q,rfl⟩:∃ q,k=i+1+q:=⟨k-i-1,ab⟩
   have hq:i+q<be xs:=by simp at a;omega
   have hg:([y]++xs.drop i)[i+1+q-i]'(by simp;omega)=xs[i+q]:=by
    simp only[show i+1+q-i=q+1 from by omega,kO,yv,List.getElem_cons_succ,List.getElem_drop]
   rw[hg];have c:(q+1)*u.size<=(be xs-i)*u.size:=lw _ ab;rw[fY,mv] at c;refine xN (f (i+q) hq) λj d=>?_;rw[show o+(i+1+q)*u.size+j=o+(i+1)*u.size+(q*u.size+j) from by rw[fY (i+1)];omega,h3 _ ab];grind
theorem aW7(m:Mod w0 N0 A env h w){tS E ty:bZ8}{zv:ca2}{z bs base n sz q sq:Nat}{u:CT}{xs ys:List u.D}{r:List Nat}{sv xv:ca2}(hu:P.underlying tS=bZ1 (.slice E))(hi:(P.info? E).map (λi=>(i.zero,i.size,i.bytes))=bZ1 (bZ1 zv,z,bs))(hzr:zv.cells.size=z)(hbs:1<=bs)(hz:z=u.size)
  (hl:h n = .live (.row E u xs)) (hsz:sz=u.size) (hs:(yk u (.own q sq)).run h=bZ1 (ys,r)) (hun:h base = .un) (hby:(be xs+be ys)*bs<=140737488355328)
  (ds:aA A env w (.own n sz) sv) (dx:aA A env w (.own q sq) xv) :
  ∃ v w',(cc0 #[tS,tS] ty #[sv,xv]).run P w = .ok v w'∧fb w0 N0 A env h w (.det [] (.own base u.size) [(base,.live (.row E u (xs++ys))),(n,.dead)]) v w':=by
 obtain⟨i0,hi0⟩:∃ i0,P.info? E=bZ1 i0:=by
  cases hh:P.info? E with
  | none=>rw[hh] at hi;cases hi
  | some i0=>exact⟨i0,rfl⟩
 rw[hi0] at hi
 simp only[ck3,cE,cy] at hi
 have ⟨hz0,hzs,hzb⟩:=hi
 subst hz hzb hsz
 have run:(ES P tS base (.own n u.size) (.own q sq)).run h=bZ1 (.det [(be xs+be ys)*i0.bytes<=140737488355328] (.own base u.size) [(base,.live (.row E u (xs++ys))),(n,.dead)],n::(r++[base])):=by
  have he:wg P tS=bZ1 (E,u.size):=by unfold wg;rw[hu];simp[f9,hi0,hzs]
  unfold ES;rw[he];simp only[hi0,Nat.ble_eq_true_of_le hbs,hz0,hzr,zc];simp only[Q.run,hl,zc];rw[Q.bind_run1 _ _ hs (b := .det [(be xs+be ys)*i0.bytes<=140737488355328] (.own base u.size) [(base,.live (.row E u (xs++ys))),(n,.dead)]) (r2:=[base]) (by simp only[Q.run,hun])]
 let o : Oper := { dst := bZ9, op := .call { callee := .builtin .append, args := #[.tmp 0, .tmp 1], argTypes := #[tS, tS] }, type := ty, pos := "", after := #[], guard := bZ9 }
 let a:Act:={tmps := #[sv,xv],defers:=[]}
 have fd:FD A env w (λi=>if i=0 then .own n u.size else if i=1 then .own q sq else .junk) a:=by
  intro i;by_cases h0:i=0
  .subst h0;exact ds
  .by_cases h1:i=1
   .subst h1;exact dx
   .simp only[h0,h1,if_false,aA]
 have ⟨v,w',hr,g⟩:=Ye (P:=P) (o:=o) (a:=a) (nm:=base) (s := .tmp 0) (x := .tmp 1) (t:=tS) m fd (by simp[EU]) rfl run (by simp only[Dl.pre,bQ,g7];exact hby)
 have he:(execOp a.eval o).run P w=((cc0 #[tS,tS] ty #[sv,xv]).run P w).andThen λv w'=>.ok (.value v) w':=by
  unfold execOp;simp only[o,resolve,invoke,builtin,Sem.run_bind,Sem.run_pure,Result.andThen_ok,List.map_toArray,fF,List.map_nil];rfl
 rw[he] at hr
 cases hb:(cc0 #[tS,tS] ty #[sv,xv]).run P w with
 | ok v1 w1 =>
  rw[hb] at hr;obtain hr|⟨hr,_⟩:=hr
  .cases hr;exact⟨v,w',rfl,g⟩
  .cases hr
 | _=>rw[hb] at hr;obtain hr|⟨hr,_⟩:=hr <;> cases hr
theorem Xn{t:CT}{ys:List t.D}(h:be ys=1):ys=[nB t ys 0]:=by
 match ys,h with
 | [y],_=>rfl
theorem Rj{u:CT}{cv:Nat->Option ca2}{o:Nat}{xs:List u.D}(hx:∀ i (d:i<be xs),Rd A w u cv (o+i*u.size) xs[i]){cur:Array ca2}(hc:∀ j,cv j=cur[j]?){a n:Nat}(ha:a+n<=be xs)(hs:o+(a+n)*u.size<=cur.size) :
  ∀ v∈kw cur (o+a*u.size) (n*u.size),v.oneCell'=true:=by
 obtain⟨news,hl,b,h1⟩:=Jh ((xs.drop a).take n) (o+a*u.size) (λi d=>by
  simp at d;have:=hx (a+i) ab;simp;rw[gG,← fY];exact this)
 have c:be ((xs.drop a).take n)=n:=by rw[eM,gw];omega
 rw[c] at hl
 intro v hv
 obtain⟨j,hj,rfl⟩:=cb5.1 hv
 have hcl:=Df (by rw[gG,← fY];exact hs)
 have e1:(kw cur (o+a*u.size) (n*u.size))[j]? = news[j]? := by
  rw[BC ab,← hc,b j ab]
 grind
theorem by0{G:sH}{F:FuncId}{tS E ty:bZ8}{zv:ca2}{z bs:Nat}{u:CT}(raw:Vb P F tS E z bs zv.cells ty)(hu:P.underlying tS=bZ1 (.slice E))(hi:(P.info? E).map (λi=>(i.zero,i.size,i.bytes))=bZ1 (bZ1 zv,z,bs))
  (hzr:zv.cells.size=z) (hbs:1<=bs) (hz:z=u.size) (nu:u ≠ .int .u8:=by exact λh=>CT.noConfusion h):mH P G F (HW u E bs):=by
 intro base svs h d r e hp w0 N0 A env w vs hg m hd
 unfold HW at e
 split at e
 case h_2=>cases e
 rename_i n sz i q sq
 split at e
 .cases e
 rename_i hqn
 have hqn:q≠n:=λe=>by rw[e,zc] at hqn;cases hqn
 simp only[Q.run] at e
 split at e
 case h_2=>cases e
 rename_i p0 q0 hk
 simp only[cE,cy] at e
 obtain⟨rfl,rfl⟩:=e
 split at hk
 case h_2=>cases hk
 rename_i E' u xs hl
 split at hk
 case h_2=>cases hk
 rename_i ys hE hsz hc
 have hE:=bK hE
 have hsz:=bK hsz
 have ⟨et,ey⟩:=kC hc
 subst et hE hsz
 simp only at ey
 subst ey
 obtain⟨vs1,q1,q2,e1,e2,rfl⟩:=Q.run_bind _ _ _ hk
 simp only[Q.run] at e2
 split at e2
 case h_2=>cases e2
 rename_i p' q' hk'
 simp only[cE,cy] at e2
 obtain⟨rfl,rfl⟩:=e2
 split at hk'
 case h_2=>cases hk'
 rename_i hun
 cases cA hk'
 simp only[Dl.pre,bQ,g7] at hp
 have ⟨hp1,hp2,hp3,hp4⟩:=hp
 simp only[aM] at hd
 obtain⟨sv,r1,rfl,ds,iv,r2,rfl,di,xv,r3,rfl,dx,rfl⟩:=hd
 have di':=di
 simp only[aA] at di'
 obtain⟨rfl,hii⟩:=di'
 obtain⟨k,l,c,vcur,E2,hkq,rfl,hkc,hkne,hrd⟩:=aI4 m nu e1 dx hp1
 subst hz
 have hlen:∀{ii:Nat},ii=be ys->ys.take ii++(vs1++ys.drop ii)=ys++vs1:=by
  rintro _ rfl;rw[List.take_length,List.drop_length,iX]
 obtain⟨ii,rfl⟩:=rx hp2
 have hii2:ii<=be ys:=ab
 simp only[cb6]
 have hlast:∀ nn cc pp,ii=be ys->sv = .slice pp nn cc->nn=be ys->nn<=cc->cc<=cb2 →
   Calls P F #[sv,.int .i64 (ii:Int),.slice (bZ1 ⟨k,l.1,bZ9⟩) 1 c] w λe w'=>∃ v,e = .returned v/\fb w0 N0 A env h w (.det [be vs1=1,(0:Int)<=(ii:Int),(ii:Int)<=(be ys:Int),(be ys+1)*bs<=140737488355328] (.own base u.size) [(base,.live (.row E' u (ys.take ii++(vs1++ys.drop ii)))),(n,.dead)]) v w':=by
  rintro nn cc pp rfl rfl rfl hle hmx;have ⟨v,w',hr,g⟩:=aW7 (ty:=ty) m hu hi hzr hbs rfl hl rfl e1 hun (by rw[hp1];exact hp4) ds dx;refine (raw.last w w' pp (bZ1 ⟨k,l.1,bZ9⟩) (be ys) cc c v hle hmx hr).mono ?_;rintro e w2 ⟨rfl,rfl⟩;refine⟨v,rfl,?_⟩;rw[hlen rfl];exact g
 have hdn:∀ n'∈[n],∃ b,h n' = .live b/\b.mut=true:=by simp[hl,kG.mut]
 have ds':=ds
 simp only[aA] at ds'
 obtain⟨hnil,pa,rfl⟩|⟨b,⟨β,len⟩,E3,cc,hb,hsh,rfl⟩:=ds'
 .have hx:ys=[]:=by
   have:=m.nm n;rw[hl] at this;obtain⟨k',l',he',_⟩|⟨_,E3,t3,hb⟩:=this
   .rw[hnil] at he';cases he'
   .obtain hb|hb:=hb <;> cases hb;rfl
  subst hx;exact hlast 0 0 pa (by simpa using hii2) rfl rfl (dq _) (by simp[cb2])
 .have ⟨cur,cap,hh,hcs,hxl,hlc,hcm,hrdx⟩:=(m.live_blk hl hb).1;have hh:=hh.plain nu;simp only at hcs hxl hlc hrdx;have hcc:cc=cur.size/\E3=E':=by
   unfold cc7 at hsh;rw[hh] at hsh;simp only[cE,cy] at hsh;exact⟨hsh.2.symm,hsh.1.symm⟩
  obtain⟨rfl,rfl⟩:=hcc;have hcap:(cur.size-β)/u.size=cap:=by rw[hcs,nI];exact tx _ u.size_pos
  have hnA:=(m.live_blk hl hb).2 rfl;simp only[hcap] at hlast ⊢;obtain hlt|hge:=Nat.lt_or_ge ii (be ys)
  case inr=>exact hlast len cap _ ab rfl hxl.symm hlc hcm
  have ⟨news,hnl,hnc,hnd⟩:=yX (env:=env) u _ _ _ hrd;have hn1:=EN hnd (Lj _ _);have hnews:∀ j v,news[j]? = bZ1 v->w.cell? ⟨k,l.1+j,bZ9⟩=bZ1 v:=λj v hj=>by
   rw[hnc j (by rw[← hnl];exact (ca5.1 hj).1)];exact hj
  have hry:=xN hrd λj hj=>by rw[gJ,hnc j hj]
  have hkb:=hkne n b _ _ (Ne.symm hqn) hl rfl hb;have hlz:(len-ii)*u.size+(ii+1)*u.size=(len+1)*u.size:=by rw[← fY];congr 1;omega
  have hiz:(ii+1)*u.size=ii*u.size+u.size:=by rw[fY,mv]
  have hlcz:len*u.size<=cap*u.size:=lw _ hlc;have hlz1:(len+1)*u.size=len*u.size+u.size:=by rw[fY,mv]
  have hnlen:be (ys.take ii++(vs1++ys.drop ii))=len+1:=by simp;omega
  have hcutl:be (kw cur (β+ii*u.size) ((len-ii)*u.size))=(len-ii)*u.size:=Df ab;by_cases hroom:len+1<=cap
  .have hroomz:(len+1)*u.size<=cap*u.size:=lw _ hroom;refine (raw.shift w b β len cap ii k l.1 c cur vcur E2 news ab hroom hcm hkb hh ab hkc hnl hnews hn1 (Rj hrdx (λ_=>rfl) ab (by rw[show ii+(len-ii)=len from by omega];omega))).mono ?_;rintro e w' ⟨rfl,rfl⟩;refine⟨_,rfl,?_⟩;have s1:(nF cur (β+(ii+1)*u.size) (kw cur (β+ii*u.size) ((len-ii)*u.size))).size=cur.size:=Ek (by rw[hcutl];omega);have s2:(z8 cur β len ii u.size news).size=cur.size:=by unfold z8;rw[Ek (by rw[s1,hnl];omega),s1]
   have cg:=(cZ.drew w _).trans (cZ.setRow w.drew b cur _ E3 (.of (q:=True) hh) s2);have g:=pH (pre:=[be vs1=1,(0:Int)<=(ii:Int),(ii:Int)<=(be ys:Int),(be ys+1)*bs<=140737488355328]) (v := .slice (bZ1 ⟨b,β,bZ9⟩) (len+1) cap) (E:=E3) (t:=u) (zs:=ys.take ii++(vs1++ys.drop ii)) m hun [n] hdn (W:=λj=>j=b) (ev := .blk b (β,len+1)) cg
    (λk hk=>⟨n,(β,len),az,hk▸hb⟩) az (λk l e=>by cases e;exact .inr ⟨n,(β,len),az,hb⟩) (λx=>.inr ⟨b,(β,len+1),cur.size,rfl,?_,?_,?_⟩)
   .exact g
   .refine⟨_,cap,.of (ck6 w.drew b cur _ E3 _ hh),by rw[s2];exact hcs,hnlen,hroom,hcm,?_⟩;intro k' hk';refine iQ (λ_ h=>h) x.keep u _ _ _ _ (λj _=>rfl) ?_;have hv1:=Xn hp1;have key:=SS (A:=A) (w:=w) (u:=u) (xs:=ys) (y:=nB u vs1 0) (i:=ii) (o:=β) (off:=β) (row:=λo=>(z8 cur β len ii u.size news)[o]?) (cur:=λo=>cur[o]?) hii2 hrdx hry ?_ ?_ ?_ k' (by rw[← hv1];exact hk')
    .simp only[← hv1] at key;exact key
    .intro j hj;unfold z8
     try simp only
     rw[wX (by rw[s1,hnl];omega),aj ab,wX (by rw[hcutl];omega),aj ab]
    .intro j hj;unfold z8
     try simp only
     rw[wX (by rw[s1,hnl];omega),ah ab,aj (by rw[hnl];omega)];congr 1;omega
    .intro j hj;rw[hxl] at hj;unfold z8
     try simp only
     rw[wX (by rw[s1,hnl];omega),ah ab,ah (by rw[hnl];omega),wX (by rw[hcutl];omega),ah ab,aj (by rw[hcutl];omega),show β+(ii+1)*u.size+j-(β+(ii+1)*u.size)=j from by omega,BC hj]
   .unfold cc7;rw[ck6 w.drew b cur _ E3 _ hh];simp only[s2]
   .show _=cj5 _ _ ((cur.size-β)/u.size);rw[hcap]
  .have hcl:cap=len:=ab;subst hcl;have hsum:cap+1<=cb2:=by
    have:(cap+1)*1<=(be ys+1)*bs:=by rw[hxl];exact Nat.mul_le_mul_left _ hbs
    simp only[cb2];omega
   refine (raw.grow w b β cap ii k l.1 c cur vcur E2 news ab hsum (by rw[← hxl];exact hp4) hh ab hkc hnl hnews hn1 (by
    have:=Rj hrdx (λ_=>rfl) (a:=0) (n:=cap) (cur:=cur) ab (by rw[gJ];omega);simpa using this)).mono ?_
   rintro e w' ⟨rfl,w1,cg1,hs1,hh1,rfl⟩;refine⟨_,rfl,?_⟩;have hge:=grownCap_ge w (cap+1) cap E3;have hcm':=cl2 w (cap+1) cap E3 hsum;generalize cl1 w (cap+1) cap E3=G' at *;have hGz:(cap+1)*u.size<=G'*u.size:=lw _ hge;have hcut0:be (kw cur β (ii*u.size))=ii*u.size:=Df ab;have s0:(xL cur β cap ii u.size G' zv.cells).size=G'*u.size:=by
    unfold xL;simp only[cn1,qU,hcut0,size_zeroCells,hzr,← fY];congr 1;omega
   have s1:(nF (xL cur β cap ii u.size G' zv.cells) (ii*u.size) news).size=G'*u.size:=by rw[Ek (by rw[s0,hnl];omega),s0]
   have s2:(xn cur β cap ii u.size G' zv.cells news).size=G'*u.size:=by unfold xn;rw[Ek (by rw[s1,hcutl];omega),s1]
   have cg:cZ w (w1.setRow w.heap.size (xn cur β cap ii u.size G' zv.cells news)) λ_=>False:=by
    have c2:=cZ.setRow w1 w.heap.size _ (xn cur β cap ii u.size G' zv.cells news) E3 (.of (q:=True) hh1) (by rw[s2,s0]);have c3:=(cZ.drew w λ_=>False).trans cg1;exact⟨c2.os.trans c3.os,c2.tape.trans c3.tape,c2.output.trans c3.output,tz c3.dr c2.dr,tz c3.size c2.size,
     λi hi hw=>(c2.blk i (Nat.lt_of_lt_of_le hi c3.size) (λe=>ab)).trans (c3.blk i hi hw),λi s hs=>c2.shape i s (c3.shape i s hs)⟩
   have g:=pH (pre:=[be vs1=1,(0:Int)<=(ii:Int),(ii:Int)<=(be ys:Int),(be ys+1)*bs<=140737488355328]) (v := .slice (bZ1 ⟨w.heap.size,0,bZ9⟩) (cap+1) G') (E:=E3) (t:=u) (zs:=ys.take ii++(vs1++ys.drop ii)) m hun [n] hdn (W:=λ_=>False) (ev := .blk w.heap.size (0,cap+1)) cg
    (λ_ h=>h.elim) az (λk l e=>by cases e;exact .inl (dq _)) (λx=>.inr ⟨w.heap.size,(0,cap+1),G'*u.size,rfl,?_,?_,?_⟩)
   .exact g
   .refine⟨_,G',.of (ck6 w1 w.heap.size _ _ E3 _ hh1),by rw[s2,gJ],hnlen,hge,hcm',?_⟩;intro k' hk';refine iQ (λ_ h=>h) x.keep u _ _ _ _ (λj _=>rfl) ?_;have hv1:=Xn hp1;have key:=SS (A:=A) (w:=w) (u:=u) (xs:=ys) (y:=nB u vs1 0) (i:=ii) (o:=0) (off:=β) (row:=λo=>(xn cur β cap ii u.size G' zv.cells news)[o]?) (cur:=λo=>cur[o]?) hii2 hrdx hry ?_ ?_ ?_ k' (by rw[← hv1];exact hk')
    .simp only[← hv1] at key;exact key
    .intro j hj;unfold xn
     try simp only
     rw[wX (by rw[s1,hcutl];omega),aj ab,wX (by rw[s0,hnl];omega),aj ab];unfold xL;rw[Array.append_assoc,Array.getElem?_append_left (by simp only[qU,hcut0];omega),ci2,gJ,BC hj]
    .intro j hj;unfold xn
     try simp only
     rw[wX (by rw[s1,hcutl];omega),aj ab,wX (by rw[s0,hnl];omega),ah ab,aj (by rw[hnl];omega)];congr 1;omega
    .intro j hj;rw[hxl] at hj;unfold xn
     try simp only
     rw[wX (by rw[s1,hcutl];omega),ah ab,aj (by rw[hcutl];omega),show 0+(ii+1)*u.size+j-(ii+1)*u.size=j from by omega,BC hj]
   .unfold cc7;rw[ck6 w1 w.heap.size _ _ E3 _ hh1];simp only[s2]
   .show _=cj5 _ _ ((G'*u.size-0)/u.size);rw[Nat.sub_zero,tx _ u.size_pos]
end
end Go.SX
namespace Go.RS
open Go.SX Go.Proofs
set_option maxHeartbeats 4000000
def BX:ca2 := .agg #[.int .i64 0,.int .i64 0,.int .i64 0,.int .i64 0,.int .i64 0,.slice bZ9 0 0]
section
variable {w:World}
theorem aZ5:Vb Tryz.prog 139 37 183 6 64 BX.cells 37:=by
 refine⟨?_,?_,?_⟩
 .intro w w' p q n c vc v hn hc hr;have hz:(cx0 183).run Tryz.prog w = .ok 6 w:=kT oS w;unfold cb2 at hc;cases p <;> go_enter Tryz.func139,Tryz.ntmps139 <;>
  go_wp2_with (at_builtin;refine cu0 _ rfl _ _ _ _ rfl _ _ rfl rfl _ _ hr ?_)
  all_goals (go_ret;exact⟨rfl,rfl⟩)
 .intro w b off n c i vb voff vc cur vcur E' vs hi hn hc hvb hb hf hv hvl hvs h1v h1c;have hz:∀ w,(cx0 183).run Tryz.prog w = .ok 6 w:=λw=>kT oS w;have mixed:=ir;unfold cb2 at hc;have hsa:w.shape? vb=bZ1 (E',vcur.size):=by unfold cc7;rw[hv]
  have hsb:w.shape? b=bZ1 (183,cur.size):=by unfold cc7;rw[hb]
  have hfa:w.frozen? ⟨vb,voff,bZ9⟩=false:=by simp[cq5,hv]
  have hfe:w.frozen? ⟨vb,vcur.size,bZ9⟩=false:=by simp[cq5,hv]
  have hov:∀ lb cb o,(callFunc 200 #[.slice (bZ1 ⟨vb,voff,bZ9⟩) 1 vc,.slice (bZ1 ⟨b,o,bZ9⟩) lb cb]).run Tryz.prog w = .ok (.value (.bool bZ6)) w:=λlb cb o=>by
   rw[run_callFunc_extern Tryz.func200 oS oS oS (e:=cu9 #[37,37] #[4]) oS,
    Lib.run_overlaps_apart w 37 4 183 Tryz.underlying37 6 hz ⟨vb,voff,bZ9⟩ ⟨b,o,bZ9⟩ 1 vc lb cb hvb E' 183 vcur.size cur.size hsa hsb ab hfa hfe]
   rfl
  have hw1:bZ4.wrap ((i:Int)+1)=(i:Int)+1:=by rw[ch4];omega
  have hw2:bZ4.wrap ((n:Int)+1)=(n:Int)+1:=by rw[ch4];omega
  have hz2:¬ ((i:Int)=(n:Int)):=ab;have htn:it ((i:Int)+1)=i+1:=ab;have htm:it ((n:Int)+1)=n+1:=ab;have hb1:(0:Int)<=(i:Int)+1:=ab;have hb2:¬ (c=i+1):=ab;have hb3:(i:Int)<=(n:Int)+1:=ab;have hb4:¬ (c=i):=ab;have hin:i<=n:=ab;have e1:(i+1)*6=i*6+6:=ab;have hcl:be (kw cur (off+i*6) ((n-i)*6))=(n-i)*6:=Df ab;have hsz:(Tryz.prog.info? 183).map (·.size)=bZ1 6:=by kernel_rfl
  have hcp1:(ci9 #[37,37] 3 #[.slice (bZ1 ⟨b,off+(i+1)*6,bZ9⟩) (n-i) (c-(i+1)),.slice (bZ1 ⟨b,off+i*6,bZ9⟩) (n+1-i) (c-i)]).run Tryz.prog w.drew =
    .ok (goInt ((n-i:Nat):Int)) (w.drew.setRow b (nF cur (off+(i+1)*6) (kw cur (off+i*6) ((n-i)*6)))):=by
   have h:=KH (P:=Tryz.prog) w.drew 37 37 3 183 6 b (off+(i+1)*6) (n-i) (c-(i+1)) ⟨b,off+i*6,bZ9⟩ (n+1-i) (c-i) cur 183 (kw cur (off+i*6) ((n-i)*6)) Tryz.underlying37 hsz hb
    (by rw[hcl];simp only[ch3];split <;> omega)
    (λj v hj=>by
     have hj':=(ca5.1 hj).1;rw[hcl] at hj';rw[BC hj'] at hj;rw[cd4,cm9 w.drew b _ cur 183 (0,0) hb];exact hj)
    (by rw[hcl];omega) h1c
   have hm:cw0 (n+1-i) (n-i)=n-i:=by simp only[ch3];split <;> omega
   rw[hm] at h;exact h
  have hr1:(nF cur (off+(i+1)*6) (kw cur (off+i*6) ((n-i)*6))).size=cur.size:=Ek (by rw[hcl];omega);have hcp2:(ci9 #[37,37] 3 #[.slice (bZ1 ⟨b,off+i*6,bZ9⟩) (n+1-i) (c-i),.slice (bZ1 ⟨vb,voff,bZ9⟩) 1 vc]).run Tryz.prog (w.drew.setRow b (nF cur (off+(i+1)*6) (kw cur (off+i*6) ((n-i)*6)))) =
    .ok (goInt 1) (w.drew.setRow b (z8 cur off n i 6 vs)):=by
   have h:=KH (P:=Tryz.prog) (w.drew.setRow b (nF cur (off+(i+1)*6) (kw cur (off+i*6) ((n-i)*6)))) 37 37 3 183 6 b (off+i*6) (n+1-i) (c-i) ⟨vb,voff,bZ9⟩ 1 vc _ 183 vs Tryz.underlying37 hsz
    (ck6 w.drew b cur _ 183 (0,0) hb)
    (by rw[hvl];simp only[ch3];split <;> omega)
    (λj v hj=>by
     rw[cd4,cB4 _ _ _ _ hvb];exact hvs j v hj)
    (by rw[hr1,hvl];omega) h1v
   have hm:cw0 1 (n+1-i)=1:=by simp only[ch3];split <;> omega
   rw[hm,cE9] at h;exact h
  clear e1 hcl hr1
  go_enter Tryz.func139,Tryz.ntmps139
  go_wp2_with (simp only[hov])
  go_region
  go_wp2
  all_goals (go_ret;exact⟨rfl,rfl⟩)
 .intro w b off n i vb voff vc cur vcur E' vs hi hn hby hb hf hv hvl hvs h1v h1c;have hz:∀ w,(cx0 183).run Tryz.prog w = .ok 6 w:=λw=>kT oS w;have mixed:=ir;have hx:(Tryz.prog.info? 183).map (λi=>(i.zero,i.size,i.bytes))=bZ1 (bZ1 BX,6,64):=by kernel_rfl
  obtain⟨i0,hi0⟩:∃ i0,Tryz.prog.info? 183=bZ1 i0:=by
   cases hh:Tryz.prog.info? 183 with
   | none=>rw[hh] at hx;cases hx
   | some i0=>exact⟨i0,rfl⟩
  rw[hi0] at hx;simp only[ck3,cE,cy] at hx;have ⟨hz0,hzs,hzb⟩:=hx;have hsz:(Tryz.prog.info? 183).map (·.size)=bZ1 6:=by kernel_rfl
  have hbw:=(cb4.1 hb).1;have hvw:=(cb4.1 hv).1;have hni:i*6+(n-i)*6=n*6:=by rw[← fY];congr 1;omega
  have hil:be (kw cur off (i*6))=i*6:=Df ab;have hcl:be (kw cur (off+i*6) ((n-i)*6))=(n-i)*6:=Df ab;have hold:(Builtin.firstCells i0.size i (.slice (bZ1 ⟨b,off,bZ9⟩) i n)).run Tryz.prog w.drew = .ok (kw cur off (i*6)).toArray w.drew:=by
   rw[hzs];exact run_firstCells_some w.drew 6 i ⟨b,off,bZ9⟩ i n (kw cur off (i*6)) hil (λj v hj=>by
    have hj':=(ca5.1 hj).1;rw[hil] at hj';rw[BC hj'] at hj;rw[cd4,cm9 w.drew b _ cur 183 (0,0) hb];exact hj)
  have hGn:n+1<=cl1 w (n+1) n 183:=grownCap_ge w _ _ _;have hG63:=cl2 w (n+1) n 183 hn;have hrz:(cc0 #[37,3] 37 #[.slice (bZ1 ⟨b,off,bZ9⟩) i n,.int .i64 ((n:Int)+1-(i:Int))]).run Tryz.prog w =
    .ok (.slice (bZ1 ⟨w.heap.size,0,bZ9⟩) (n+1) (cl1 w (n+1) n 183)) (w.drew.alloc (.cells (xL cur off n i 6 (cl1 w (n+1) n 183) BX.cells) 183)):=by
   have h:=Lib.run_append_grow_zeros w 37 3 37 183 i0 _ .i64 .i64 Tryz.underlying37 Tryz.underlying3 hi0 hz0 (bZ1 ⟨b,off,bZ9⟩) i n (kw cur off (i*6)) hold (n+1-i) ab ab ab (by unfold cb2 at hn;omega) (by rw[hzb];omega)
    (by rw[show i+(n+1-i)=n+1 from by omega];exact growslice_fits ab (by rw[hzb];exact hby))
   rw[show i+(n+1-i)=n+1 from by omega] at h;rw[show (n:Int)+1-(i:Int)=((n+1-i:Nat):Int) from by omega];exact h
  generalize hG:cl1 w (n+1) n 183=G at *;have hrs:(xL cur off n i 6 G BX.cells).size=G*6:=by
   unfold xL;simp only[cn1,qU,hil,size_zeroCells];have:BX.cells.size=6:=rfl;rw[this,← fY,← fY];congr 1;omega
  generalize hROW:xL cur off n i 6 G BX.cells=ROW at *;have hgN:(w.drew.alloc (.cells ROW 183)).heap[w.heap.size]? = bZ1 (.cells ROW 183 (0,0)):=cE4 w.drew _;have hG6:(n+1)*6<=G*6:=lw _ hGn;have e1:(i+1)*6=i*6+6:=ab;have hr1:(nF ROW (i*6) vs).size=G*6:=by rw[Ek (by rw[hrs,hvl];omega),hrs]
  have hcp1:(ci9 #[37,37] 3 #[.slice (bZ1 ⟨w.heap.size,i*6,bZ9⟩) (n+1-i) (G-i),.slice (bZ1 ⟨vb,voff,bZ9⟩) 1 vc]).run Tryz.prog (w.alloc (.cells ROW 183)).drew =
    .ok (goInt 1) ((w.alloc (.cells ROW 183)).drew.setRow w.heap.size (nF ROW (i*6) vs)):=by
   have h:=KH (P:=Tryz.prog) (w.drew.alloc (.cells ROW 183)) 37 37 3 183 6 w.heap.size (i*6) (n+1-i) (G-i) ⟨vb,voff,bZ9⟩ 1 vc _ 183 vs Tryz.underlying37 hsz hgN
    (by rw[hvl];simp only[ch3];split <;> omega)
    (λj v hj=>by
     rw[cd4,cr1 (w:=w.drew) _ vb _ hvw];exact hvs j v hj)
    (by rw[hrs,hvl];omega) h1v
   have hm:cw0 1 (n+1-i)=1:=by simp only[ch3];split <;> omega
   rw[hm] at h;exact h
  have hcp2:(ci9 #[37,37] 3 #[.slice (bZ1 ⟨w.heap.size,(i+1)*6,bZ9⟩) (n-i) (G-(i+1)),.slice (bZ1 ⟨b,off+i*6,bZ9⟩) (n-i) (n-i)]).run Tryz.prog ((w.alloc (.cells ROW 183)).drew.setRow w.heap.size (nF ROW (i*6) vs)).drew =
    .ok (goInt ((n-i:Nat):Int)) ((w.alloc (.cells ROW 183)).drew.drew.setRow w.heap.size (nF (nF ROW (i*6) vs) ((i+1)*6) (kw cur (off+i*6) ((n-i)*6)))):=by
   have h:=KH (P:=Tryz.prog) ((w.alloc (.cells ROW 183)).drew.setRow w.heap.size (nF ROW (i*6) vs)).drew 37 37 3 183 6 w.heap.size ((i+1)*6) (n-i) (G-(i+1)) ⟨b,off+i*6,bZ9⟩ (n-i) (n-i) _ 183 (kw cur (off+i*6) ((n-i)*6)) Tryz.underlying37 hsz
    (ck6 _ w.heap.size _ _ 183 (0,0) hgN)
    (by rw[hcl];simp only[ch3];split <;> omega)
    (λj v hj=>by
     have hj':=(ca5.1 hj).1;rw[hcl] at hj';rw[BC hj'] at hj;show World.cell? ((w.drew.alloc (.cells ROW 183)).setRow w.heap.size (nF ROW (i*6) vs)) _=_;rw[cd4,cB4 _ _ _ _ (by show b≠w.heap.size;omega),cr1 (w:=w.drew) _ b _ hbw,cm9 w.drew b _ cur 183 (0,0) hb];exact hj)
    (by rw[hr1,hcl];omega) (λv hv=>h1c v (by
     unfold kw at hv ⊢;rw[← List.drop_drop] at hv;have e2:take ((n-i)*6) (drop (i*6) (drop off cur.toList))=drop (i*6) (take (n*6) (drop off cur.toList)):=by
      rw[List.drop_take];congr 1;omega
     rw[e2] at hv;exact Al hv))
   have hm:cw0 (n-i) (n-i)=n-i:=by simp only[ch3];split <;> omega
   rw[hm] at h;have hs2:∀(W:World)(g:Nat)(a b:Array ca2),(W.setRow g a).drew.setRow g b=W.drew.setRow g b:=λW g a b=>cE9 W.drew g a b;rw[hs2] at h;exact h
  have hz2:¬ ((i:Int)=(n:Int)):=ab;have hw1:bZ4.wrap ((i:Int)+1)=(i:Int)+1:=by rw[ch4];unfold cb2 at hn;omega
  have hw2:bZ4.wrap ((n:Int)+1)=(n:Int)+1:=by rw[ch4];unfold cb2 at hn;omega
  have hz3:(n:Int)<(n:Int)+1:=ab;have hGi:¬ (G=i):=ab;have hGim:¬ (G=i+1):=ab;have hci:¬ (n=i):=ab;have hb1:(0:Int)<=(i:Int)+1:=ab;have hin:i<=n:=ab;have htn:it ((i:Int)+1)=i+1:=ab;have hb3:(i:Int)<=(n:Int):=ab;have hiG:i<=n+1:=ab;unfold cb2 at hn hG63;clear e1 hr1 hG6 hil hcl hni hrs hgN hold hGn
  go_enter Tryz.func139,Tryz.ntmps139
  go_wp2_with (at_builtin;refine cu0 _ rfl _ _ _ _ rfl _ _ rfl rfl _ _ hrz ?_)
  go_region
  go_wp2
  all_goals (go_ret;exact⟨rfl,(w.alloc (.cells ROW 183)).drew.drew,((cZ.alloc w.drew _ _).trans (cZ.drew _ _)),az,cE4 w.drew _,by unfold xn;rw[hROW]⟩)
end
def bk7:Go.SX.Spec:=HW qe 183 64
theorem ab5:aC 139 bk7:=by
 show mH Tryz.prog GL 139 (HW qe 183 64)
 exact by0 (u:=qe) (zv:=BX) aZ5 Tryz.underlying37 oS rfl aB rfl
end Go.RS
namespace Go.RS
open Go.SX Go.Proofs
def CG{α:Type}(q:α->Bool)(l:List α):Int:=if l.findIdx q<be l then (l.findIdx q:Int) else -1
theorem bn4{α:Type}{q:α->Bool}{l:List α}:bZ2 (0<=CG q l)=l.any q:=by
 unfold CG
 cases h:l.any q with
 | true =>
  rw[aj (List.findIdx_lt_length_of_exists (by simpa using h))];exact ft ab
 | false =>
  have:l.findIdx q=be l:=List.findIdx_eq_length_of_false (by simpa using h);rw[ah ab];rfl
theorem D3{a b:Int}(h:a≠0):a=tN a b:=by unfold tN;rw[aj h]
theorem CC{a b:Int}(h:a=0):tN a b=b:=by unfold tN;rw[ah (λk=>k h)]
def TY:Ct:=⟨[.agg l7],[.val cI],λd=>[],λd=>((rA d.1,()),())⟩
def ae4:bw TY.ps->bL:=(λd=>{loops:=(bu 2 (λS=>{ι:=Int,μ:=λi=>it (be d.1.1-i),inv:=λi=>0<=i/\i<=be d.1.1/\first (sc d.1) (it i)=0,keep:=[1,9,10],slots:=λi=>[(11,.int .i64 i)],keepN:=[32]}) (bu 8 (λS=>{ι:=Int,μ:=λi=>it (be (de (Om d.1.1 (it (S.i 11)) Sk))-i),inv:=λi=>0<=i/\i<=be (de (Om d.1.1 (it (S.i 11)) Sk))∧∀ k∈(de (Om d.1.1 (it (S.i 11)) Sk)).take (it i),wT d.1 (it (S.i 11)) k=bZ6,keep:=[1,3,9,10,11,22,23],slots:=λi=>[(24,.int .i64 i)],keepN:=[32,368]}) cC))})
def Ik(a:Int)(b:List au)(c:Int)(d:List bo)(e:List cH):=am a (a<=ac (de (ae b c))) (∀(f:Int),f∈take (it a) (de (ae b c))->wT (b,d,e) (it c) f=bZ6)
theorem ah4:
 ∀(a:List au)(b:List bo)(c:List cH),dW (gA a b c) ((∃(d:Int),am d (d<=ac a) (first (sc (a,b,c)) (it d)=0)/\a=a/\bn (ac a) (ac a) 0 d (a=a) (jZ b c))/\ ∀(d:Int),am d (d<=ac a) (first (sc (a,b,c)) (it d)=0)->sm d (ac a) (d<ac a) (ar ( !aV (ix (ae a d))) (ix (ae a d)=rA (a,b,c)) (qO (aS (ae a d))/\(∃(e:Int),Ik e a d b c/\d=d/\a=a/\bN (ac a) d (ac (de (ae a d))) (0=e) (dX a b (c=c) (ai (de (ae a d)=de (ae a d)))))/\ ∀(e:Int),Ik e a d b c->ar (ax e (ac (de (ae a d)))) (am e (e<ac (de (ae a d))) (∀(f:Bool),f=bZ2 (ac b<=ae (de (ae a d)) e)->bR f/\( !f->iP ( !f) ( !f) (ae (de (ae a d)) e) (ae (de (ae a d)) e<ac b))/\cV f (gq f) (bR f/\ ∀(g:Bool),g=cP (ae b (ae (de (ae a d)) e)).1 d->cj ( !f&&g) ( !f&&g) (iP ( !f&&g) ( !f&&g) (ae (de
 (ae a d)) e) (ae (de (ae a d)) e<ac b)) ( !f&&g->aJ ( !f&&g)) (cj ( !f&&g) ( !f&&g) (dA ( !f&&g)) (wL f g) (bv f/\ar (bq f (br g (cP (ae b (ae (de (ae a d)) e)).2.1 d))) (11=rA (a,b,c)) (∃(h:Int),Ik h a d b c/\bj (ac (de (ae a d))) h e/\d=d/\a=a/\bN (ac a) d (ac (de (ae a d))) (bf e h) (dX a b (c=c) (ai (de (ae a d)=de (ae a d)))))))))) (∃(f:Int),am f (f<=ac a) (first (sc (a,b,c)) (it f)=0)/\bj (ac a) f d/\a=a/\ac a=ac a/\bf d f/\a=a/\jZ b c))) (rA (a,b,c))):= by
  delta ae ac ao aq aK bN bR bp aJ gA mP c9 dB aO cS jH bG cj bq bj br cV am bv gq aV ai dX iP bf dA Ik kx cN cP wL jZ dW mw sm ax bn qO
  rintro ns ls hs ⟨⟨⟨hnl,-⟩,⟨hl,-⟩,-⟩,-⟩ -
  simp only[cb2] at hl hnl
  refine⟨⟨0,⟨ab,ab,rfl⟩,aI⟩,?_⟩
  rintro i ⟨i0,i1,hf⟩
  refine aw (λhi=>?_) (λhi=>?_)
  rotate_left
  .have hi:=bg hi
   rw[show it i=be ns by omega] at hf
   exact hf.symm
  have hi:=aX hi
  have ei:((it i:Nat):Int)=i:=ab
  have hit:=λh=>O0 (f:=sc (ns,ls,hs)) (n:=be ns) i0 hi hf h
  refine⟨i0,hi,aw (λh=>?_) (λh=>?_)⟩
  .have h:=jC h
   have e:sc (ns,ls,hs) (it i)=ix (Om ns (it i) Sk):=aj h
   have k:=hit (by rw[e];exact h)
   rw[e] at k;exact k
  have h:=jx h
  have nv:=RG h
  have k0:=aQ3 nv.bad
  have hlen:be (de (Om ns (it i) Sk))=be (aS (Om ns (it i) Sk)):=by simp[de]
  have n32:=nv.len
  refine⟨ab,⟨0,⟨ab,ab,az⟩,aI⟩,?_⟩
  rintro j ⟨j0,j1,hj⟩
  refine aw (λhk=>?_) (λhk=>?_)
  rotate_left
  .have hk:=bg hk
   rw[gN ab] at hj
   refine⟨i+1,⟨ab,ab,Hm i0 hf ?_⟩,ab,aI⟩
   unfold sc
   rw[ah (λq=>q h),ah]
   intro q
   have ⟨k,hk,q⟩:=cc5.1 q
   rw[hj k hk] at q;cases q
  have hk:=aX hk
  have hm:=dm j0 hk
  have eU:=λh=>yG j0 hk hj h (P:=λk=>wT (ns,ls,hs) (it i) k=bZ6)
  have kk:=k0 _ hm
  refine⟨j0,hk,?_⟩
  generalize Om (de (Om ns (it i) Sk)) (it j) Sk=k at hm eU kk ⊢
  intro b hb
  (repeat refine⟨(by first|(simp;done)|exact λh=>⟨λ_=>h,λ_=>h,kk,by rw[hb] at h;have:=jC h;omega,aP⟩),?_⟩)
  intro b1 hb1
  (repeat refine⟨(by first|(simp;done)|(simp +contextual;done)|exact λh=>⟨λ_=>h,λ_=>h,kk,by rw[hb] at h;have:=jC (Bool.and_eq_true_iff.1 h).1;omega,aP⟩),?_⟩)
  have tot:(bif b then bZ3 else bif b1 then !bZ2 ((Om ls (it k) Sk).2.1=i) else bZ6)=wT (ns,ls,hs) (it i) k:=by
   rw[hb,hb1]
   unfold wT lA lB
   rw[ei]
   cases bZ2 ((be ls:Int)<=k) <;> cases bZ2 ((Om ls (it k) Sk).1=i) <;> cases bZ2 ((Om ls (it k) Sk).2.1=i) <;> rfl
  rw[tot]
  refine aw (λht=>?_) (λht=>?_)
  .have e:sc (ns,ls,hs) (it i)=11:=by
    unfold sc
    rw[ah (λq=>q h),aj (cc5.2 ⟨_,hm,ht⟩)]
   have q:=hit (by rw[e];decide)
   rw[e] at q;exact q
  .exact⟨j+1,⟨ab,ab,eU ht⟩,ab,aI⟩
theorem ac0:aC 100 TY.spec:=aF Tryz.func100 (ap (ap aD a48) Xb) ae4 ah4
def ac2:Ct:=⟨[.val (.sl fm),.agg nD],[.own 153 fm],λd=>[dU d.1,okL d.1,((gK d.2.1).2.1.length:Int)<=1099511627776],λd=>((jI d.1 d.2.1,()),())⟩
theorem bF3:
 ∀(a:List cz)(b:cH),c9 a/\ai (CT.wf nD b)->dU a/\okL a/\aT (gK b).2.1->ar b.2.2.1 (dU a/\okL a/\lG a b.2.2.2.1=jI a b) (dU a/\okL a/\aT b.2.2.2.2.1/\ie a b.2.2.2=jI a b):= by
  delta ac aq aK c9 dB aO cS aT ai
  rintro l c-⟨hs,hl,hx⟩
  unfold jI
  rw[show c.2.2.1=xX c from rfl]
  refine aw (λh=>⟨hs,hl,?_⟩) (λh=>⟨hs,hl,hx,?_⟩)
  .rw[aj h];rfl
  .rw[ah (by rw[h];decide)];rfl
theorem bL1:aC 175 ac2.spec:=aF Tryz.func175 (ap (ap aD Zd) TK) aU bF3
def rb(p:fB)(r:Rt):Bool:=bZ2 (r.1=p)
def an4:Ct:=⟨[.agg fm,.box 155 nD],[.val .bool],λ_=>[],λd=>((rb (gK d.2.1).1 d.1,()),(d.2.1,()))⟩
theorem a05:
 ∀(a b:Int)(c:ad)(d:Int)(e:cH),dB a b c d/\ai (CT.wf nD e)->True->(bZ2 (a=e.2.2.2.1.1)&&(bZ2 (b=e.2.2.2.1.2)&&bZ3))=rb (gK e).1 ((a,b),c,d)/\e=e:= by
  delta aq aK dB aO cS ai
  rintro a n nx b c - -
  refine⟨?_,rfl⟩
  rw[yq];simp[rb,Prod.ext_iff,gK]
theorem au9:aC 174 an4.spec:=aF Tryz.func174 aD aU a05
def RJ:Ct:=⟨[.val (.sl fm),.fn 174 1,.box 155 nD],[.val cI],λ_=>[],λd=>((CG (rb (gK d.2.2.1).1) d.1,()),(d.2.2.1,()))⟩
def bC3:bw RJ.ps->bL:=(λd=>{loops:=(bu 2 (λS=>{ι:=Int,μ:=λi=>it (be d.1-i),inv:=λi=>0<=i/\i<=be d.1∧∀ x∈d.1.take (it i),rb (gK d.2.2.1).1 x=bZ6,keep:=[0,1,6,7],slots:=λi=>[(8,.int .i64 i)],keepN:=[1048576]}) cC)})
def Kr(a:Int)(b:List cz)(c:cH):=am a (a<=ac b) (∀(d:cz),d∈take (it a) b->rb (gK c).1 d=bZ6)
theorem be6:
 ∀(a:List cz)(b:cH),c9 a/\True/\ai (CT.wf nD b)->True->(∃(c:Int),Kr c a b/\a=a/\a=a/\ac a=ac a/\0=c/\bp b.1 b.2.1 (b.2.2.1=b.2.2.1) (bp b.2.2.2.1.1 b.2.2.2.1.2 (b.2.2.2.2.1=b.2.2.2.2.1) (ai (b.2.2.2.2.2=b.2.2.2.2.2))))/\ ∀(c:Int),Kr c a b->fh c (ac a) (c<ac a) (ar (rb b.2.2.2.1 (ae a c)) (c=CG (rb (gK b).1) a/\b=b) (∃(d:Int),Kr d a b/\wo a d c (a=a) (ac a=ac a/\bf c d/\bp b.1 b.2.1 (b.2.2.1=b.2.2.1) (bp b.2.2.2.1.1 b.2.2.2.1.2 (b.2.2.2.2.1=b.2.2.2.2.1) (ai (b.2.2.2.2.2=b.2.2.2.2.2)))))) ((-1)=CG (rb (gK b).1) a) (b=b):= by
  delta ae ac ao aq aK bp c9 dB aO cS bj am fh ai bf cN Kr ax bn wo
  rintro l c ⟨⟨hl,-⟩,-⟩ -
  simp only[cb2] at hl
  refine⟨⟨0,⟨ab,ab,az⟩,aI⟩,?_⟩
  rintro j ⟨j0,j1,hj⟩
  refine ci (λhk=>?_) (λhk=>?_)
  .refine⟨j0,hk,aw (λhm=>?_) (λhm=>?_)⟩
   .exact⟨Fx j0 hk hj hm,rfl⟩
   .exact⟨j+1,⟨ab,ab,yG j0 hk hj hm⟩,ab,aI⟩
  .exact⟨IT hk hj,rfl⟩
theorem aP2:aC 220 RJ.spec:=aF Tryz.func220 (ap aD au9) bC3 be6
def bo4:Ct:=⟨[.val (.sl fm),.fn 174 1,.box 155 nD],[.val .bool],λ_=>[],λd=>((d.1.any (rb (gK d.2.2.1).1),()),(d.2.2.1,()))⟩
theorem ax7:
 ∀(a:List cz)(b:cH),c9 a/\True/\ai (CT.wf nD b)->True->fp (CG (rb b.2.2.2.1) a)=cF0 a (rb (gK b).1)/\b=b:= by
  delta aq aK c9 dB aO cS ai fp
  rintro l c - -
  exact⟨bn4,rfl⟩
theorem Zz:aC 173 bo4.spec:=aF Tryz.func173 (ap aD aP2) aU ax7
theorem bm9{l:List Rt}{p:fB}:l.any (rb p)=sa l p:=by rw[ai5,yq];simp[rb]
theorem ar8{ns:List au}{j:Nat}(h:j<be ns):((ns.take j).map bW++replicate (be ns-j) []).set j (bW (Om ns j Sk))=(ns.take (j+1)).map bW++replicate (be ns-(j+1)) []:=by
 have e1:be ((ns.take j).map bW)=j:=by simp;omega
 rw[show be ns-j=(be ns-(j+1))+1 by omega,List.replicate_succ,List.set_append_right _ _ ab,e1,Nat.sub_self,List.set_cons_zero,zu h,kJ,cq,cG h]
 simp
theorem by4(n:Net){j:Int}(j0:0<=j):nZ n (it j)=sX n (it j) (Om n.2.2 (it j) Sk) (Om n.2.2 (it (j-1)) Sk) (Om (gc n (it j)) (it (c8 (Om n.2.2 (it j) Sk))) Sk):=by
 unfold nZ;rw[show it (j-1)=it j-1 by omega]
def Up:Ct:=⟨[.agg l7],[.val cI],λd=>[rA d.1=0,be d.1.1<=64,∀ c∈d.1.2.2,((gK c).2.1.length:Int)<=1099511627776],λd=>((tK d.1,()),())⟩
def ba0:bw Up.ps->bL:=(λd=>{loops:=(bu 3 (λS=>{ι:=Int×(List (List Rt)),qn:=fH,μ:=λi=>it (be d.1.1-i.1),inv:=λi=>0<=i.1/\i.1<=be d.1.1/\i.2=(d.1.1.take (it i.1)).map bW++replicate (be d.1.1-it i.1) [],keep:=[1,15,16],slots:=λi=>[(3,.own 524288 1),(17,.int .i64 i.1)],keepN:=[32],names:=λi=>[(524288,.live (.row 128 (.sl fm) i.2))]}) (bu 8 (λS=>{ι:=Int×(List (List Rt)),qn:=fH,μ:=λi=>it (be d.1.2.2-i.1),inv:=λi=>0<=i.1/\i.1<=be d.1.2.2/\first (nZ d.1) (it i.1)=0/\i.2=gc d.1 (it i.1),keep:=[1,29,30],slots:=λi=>[(3,.own 524288 1),(31,.int .i64 i.1)],keepN:=[32],names:=λi=>[(524288,.live (.row 128 (.sl fm) i.2))]}) cC))})
def jl(a:List cH)(b:Int):=(ae a b).2.1
def IR(a:Int)(b:List cH)(c:List au)(d:List bo)(e:List (List Rt)):=bt a (ac b) (first (nZ (c,d,b)) (it a)=0) (e=gc (c,d,b) (it a))
def OL(a:List (List Rt))(b:List cH)(c:Int)(d:List au)(e:List bo):=dU (ae a (jl b c))/\okL (ae a (jl b c))/\aT (ae b c).2.2.2.2.1/\bJ (jl b c) (ac d) (qO (aS (ae d (jl b c)))) (ar ( !aV (jq (jI (ae a (jl b c)) (ae b c)) (de (ae d (jl b c))))) (jq (jI (ae a (jl b c)) (ae b c)) (de (ae d (jl b c)))=tK (d,e,b)) (am (jl b c) (jl b c<ac a) (∃(f:Int) (g:List (List Rt)),IR f b d e g/\bj (ac b) f c/\b=b/\ac b=ac b/\bf c f/\dX d e (b=b) (ai (set a (it (jl b c)) (jI (ae a (jl b c)) (ae b c))=g)))))
def Ls(a:Int)(b:List au)(c:List (List Rt)):=am a (a<=ac b) (c=cg4 bW (take (it a) b)++replicate (be b -it a) [])
def Ca(a:List cH):=∀(b:cH),b∈a->aT (gK b).2.1
theorem bb2:
 ∀(a:List au)(b:List bo)(c:List cH),ai (gA a b c)->rA (a,b,c)=0/\be a<=64/\Ca c->bt (ac a) (ac a) (uT ((↑((24:Nat)):Int)*ac a)) ((∃(d:Int) (e:List (List Rt)),Ls d a e/\a=a/\ac a=ac a/\0=d/\dX a b (c=c) (ai (replicate (it (ac a)) []=e)))/\ ∀(d:Int)(e:List (List Rt)),Ls d a e->fh d (ac a) (d<ac a) (am d (d<ac e) (∃(f:Int) (g:List (List Rt)),Ls f a g/\DD a f d b (c=c) (ai (set e (it d) (lz a d)=g)))) (∃(f:Int) (g:List (List Rt)),IR f c a b g/\c=c/\ac c=ac c/\0=f/\dX a b (c=c) (ai (e=g))) (∀(f:Int)(g:List (List Rt)),IR f c a b g->sm f (ac c) (f<ac c) (ar ( !bZ2 (0<=(ae c f).1/\(ae c f).1<=1125899906842624)) (1=tK (a,b,c)) (∀(h:Bool),h=ax 0 f->fq h h (aJ h) (h->iP h h (ao (f -1)) (ao (f -1)<ac c)) (fq h h (dA h) (h->h) (ar (br h (ax (ae c f).1 (ae c
 (ao (f -1))).1)) (6=tK (a,b,c)) (ar ( !bZ2 (0<=jl c f/\jl c f<=ao (ac a -1))) (8=tK (a,b,c)) (am (jl c f) (jl c f<ac g) (∀(i:Bool),i=(ae c f).2.2.1->pg i i (i->i) ((i->i)/\ar (br i ( !cF0 (ae g (jl c f)) (rb (ae c f).2.2.2.1))) (8=tK (a,b,c)) (OL g c f a b)) (i->bZ6) (ar (br i bZ6) (8=tK (a,b,c)) (OL g c f a b))))))))) (tK (a,b,c)))):= by
  delta ae ac ao aq aK aJ gA mP c9 dB aO cS jH bG aT cj bj br am aV OL fh fq bt ai lz dX iP bf dA pg kx Ls cN bJ mw sm jl Ca ax IR DD qO uT
  rintro ns ls hs ⟨⟨⟨hnl,-⟩,⟨hl,-⟩,⟨hhl,-⟩⟩,-⟩⟨hb,hn,hx⟩
  simp only[cb2] at hl hnl hhl
  refine⟨ab,ab,ab,⟨0,_,⟨ab,ab,rfl⟩,by (repeat refine ik ?_);simp⟩,?_⟩
  rintro j t ⟨j0,j1,rfl⟩
  have tl:be ((ns.take (it j)).map bW++replicate (be ns-it j) ([]:List Rt))=be ns:=by simp;omega
  refine aw (λhj=>?_) (λhj=>?_)
  .have hj:=aX hj
   refine⟨j0,hj,j0,by rw[tl];exact hj,j+1,_,⟨ab,ab,rfl⟩,ab,?_⟩
   (repeat refine ik ?_)
   refine⟨?_,aP⟩
   rw[show it (j+1)=it j+1 by omega,← ar8 ab];rfl
  have hj:=bg hj
  have e0:(ns.take (it j)).map bW++replicate (be ns-it j) ([]:List Rt)=gc (ns,ls,hs) 0:=by
   rw[gN ab,show be ns-it j=0 by omega];simp[gc]
  rw[e0]
  clear e0 tl hj j0 j1
  refine⟨⟨0,_,⟨ab,ab,rfl,rfl⟩,aI⟩,?_⟩
  rintro j t ⟨j0,j1,hf,rfl⟩
  refine aw (λhj=>?_) (λhj=>?_)
  rotate_left
  .have hj:=bg hj
   rw[show it j=be hs by omega] at hf
   exact hf.symm
  have hj:=aX hj
  have hm:=dm j0 hj
  have tb:=UL hb hf
  have tl:=vh (ns,ls,hs) (it j)
  have hit:=λh=>O0 (f:=nZ (ns,ls,hs)) (n:=be hs) j0 hj hf h
  have eq:=by4 (ns,ls,hs) j0
  have ej:((it j:Nat):Int)=j:=ab
  rw[aG (n:=j-1) ab ab,aG (n:=(be ns:Int)-1) ab ab]
  refine⟨j0,hj,aw (λh=>?_) (λh=>?_)⟩
  .have h:=jC h
   have e:nZ (ns,ls,hs) (it j)=1:=by
    rw[eq];unfold sX;rw[aj];dsimp only[jU];omega
   have q:=hit (by rw[e];decide)
   rw[e] at q;exact q
  have h1:=jx h
  have c1:¬ (jU (Om hs (it j) Sk)<0∨1125899906842624<jU (Om hs (it j) Sk)):=by unfold jU;omega
  clear h
  intro b hb1
  (repeat refine⟨(by first|(simp;done)|exact λh=>⟨λ_=>h,λ_=>h,by rw[hb1] at h;have:=aX h;omega,by rw[hb1] at h;have:=aX h;omega,aP⟩),?_⟩)
  rw[hb1,zV]
  refine aw (λh=>?_) (λh=>?_)
  .have h:=aX h
   have e:nZ (ns,ls,hs) (it j)=6:=by
    rw[eq];unfold sX;rw[ah c1,aj];exact⟨ab,h.2⟩
   have q:=hit (by rw[e];decide)
   rw[e] at q;exact q
  have c2:¬ (0<it j/\jU (Om hs (it j) Sk)<jU (Om hs (it (j-1)) Sk)):=λq=>bg h ⟨ab,q.2⟩
  clear h
  refine aw (λh=>?_) (λh=>?_)
  .have h:=jC h
   have e:nZ (ns,ls,hs) (it j)=8:=by
    rw[eq];unfold sX;rw[ah c1,ah c2,aj]
    dsimp only[c8];omega
   have q:=hit (by rw[e];decide)
   rw[e] at q;exact q
  have h2:=jx h
  have h2:0<=c8 (Om hs (it j) Sk)/\c8 (Om hs (it j) Sk)<=(be ns:Int)-1:=h2
  have c3:¬ (c8 (Om hs (it j) Sk)<0∨(be ns:Int)<=c8 (Om hs (it j) Sk)):=ab
  clear h
  refine⟨h2.1,by rw[tl];show c8 _<(be ns:Int);omega,?_⟩
  intro b2 hb2
  have hb2:b2=xX (Om hs (it j) Sk):=hb2
  refine aw (λq=>?_) (λq=>?_)
  .subst q
   (repeat refine⟨az,?_⟩)
   simp only[cond_true]
   rw[bm9]
   refine aw (λh=>?_) (λh=>?_)
   .have e:nZ (ns,ls,hs) (it j)=8:=by
     rw[eq];unfold sX;rw[ah c1,ah c2,ah c3,aj]
     exact⟨hb2.symm,(qE _).mp h⟩
    have q:=hit (by rw[e];decide)
    rw[e] at q;exact q
   have c4:¬ (xX (Om hs (it j) Sk)=bZ3/\sa (Om (gc (ns,ls,hs) (it j)) (it (c8 (Om hs (it j) Sk))) Sk) (gK (Om hs (it j) Sk)).1=bZ6):=λz=>by
    have z2:=z.2
    have h:(!sa (Om (gc (ns,ls,hs) (it j)) (it (c8 (Om hs (it j) Sk))) Sk) (gK (Om hs (it j) Sk)).1)=false:=h
    rw[z2] at h;cases h
   have wl:it (c8 (Om hs (it j) Sk))<be ns:=ab
   have tr:=tb.r (it (c8 (Om hs (it j) Sk))) wl
   refine⟨tr.1,tr.2,hx _ hm,ab,ab,by have:=(Lu (n:=(ns,ls,hs)) hb wl).len;exact tz this aB,aw (λh=>?_) (λh=>?_)⟩
   .have h:=jC h
    have e:nZ (ns,ls,hs) (it j)=jq (jI (Om (gc (ns,ls,hs) (it j)) (it (c8 (Om hs (it j) Sk))) Sk) (Om hs (it j) Sk)) (de (Om ns (it (c8 (Om hs (it j) Sk))) Sk)):=by
     rw[eq];unfold sX;rw[ah c1,ah c2,ah c3,ah c4]
    have k:=hit (by rw[e];exact h)
    rw[e] at k;exact k
   .have h:=jx h
    have e:nZ (ns,ls,hs) (it j)=0:=by
     rw[eq];unfold sX;rw[ah c1,ah c2,ah c3,ah c4];exact h
    refine⟨ab,by rw[vh];show c8 _<(be ns:Int);omega,j+1,gc (ns,ls,hs) (it (j+1)),⟨ab,ab,Hm j0 hf e,rfl⟩,ab,?_⟩
    (repeat refine ik ?_)
    refine⟨?_,aP⟩
    rw[show it (j+1)=it j+1 by omega];rfl
  ·(repeat refine⟨by simp[q],?_⟩)
   refine aw (λh=>by rw[q] at h;cases h) (λh=>?_)
   have c4:¬ (xX (Om hs (it j) Sk)=bZ3/\sa (Om (gc (ns,ls,hs) (it j)) (it (c8 (Om hs (it j) Sk))) Sk) (gK (Om hs (it j) Sk)).1=bZ6):=λz=>by
    rw[← hb2,q] at z;cases z.1
   have wl:it (c8 (Om hs (it j) Sk))<be ns:=ab
   have tr:=tb.r (it (c8 (Om hs (it j) Sk))) wl
   refine⟨tr.1,tr.2,hx _ hm,ab,ab,by have:=(Lu (n:=(ns,ls,hs)) hb wl).len;exact tz this aB,aw (λh=>?_) (λh=>?_)⟩
   .have h:=jC h
    have e:nZ (ns,ls,hs) (it j)=jq (jI (Om (gc (ns,ls,hs) (it j)) (it (c8 (Om hs (it j) Sk))) Sk) (Om hs (it j) Sk)) (de (Om ns (it (c8 (Om hs (it j) Sk))) Sk)):=by
     rw[eq];unfold sX;rw[ah c1,ah c2,ah c3,ah c4]
    have k:=hit (by rw[e];exact h)
    rw[e] at k;exact k
   .have h:=jx h
    have e:nZ (ns,ls,hs) (it j)=0:=by
     rw[eq];unfold sX;rw[ah c1,ah c2,ah c3,ah c4];exact h
    refine⟨ab,by rw[vh];show c8 _<(be ns:Int);omega,j+1,gc (ns,ls,hs) (it (j+1)),⟨ab,ab,Hm j0 hf e,rfl⟩,ab,?_⟩
    (repeat refine ik ?_)
    refine⟨?_,aP⟩
    rw[show it (j+1)=it j+1 by omega];rfl
theorem bG7:aC 104 Up.spec:=aF Tryz.func104 (ap (ap (ap (ap (ap aD MD) Zz) bL1) Xb) SB) ba0 bb2
def R9:Ct:=⟨[.agg l7],[.val cI],λd=>[∀ c∈d.1.2.2,((gK c).2.1.length:Int)<=1099511627776],λd=>((iR d.1,()),())⟩
def bT7:bw R9.ps->bL:=(λd=>{unr:=λn=>match n with|2=>8|_=>0})
theorem ZW:
 ∀(a:List au)(b:List bo)(c:List cH),ai (gA a b c)->Ca c->ar ( !aV (uv (a,b,c))) (uv (a,b,c)=iR (a,b,c)) (ar ( !aV (rq (a,b,c))) (rq (a,b,c)=iR (a,b,c)) (ar ( !aV (rA (a,b,c))) (rA (a,b,c)=iR (a,b,c)) (FY (a,b,c)/\ar ( !aV (t5 (a,b,c))) (t5 (a,b,c)=iR (a,b,c)) ((∀(d:au),d∈a->qO (aS d))/\ar ( !aV (xT (a,b,c))) (xT (a,b,c)=iR (a,b,c)) (FY (a,b,c)/\ar ( !aV (wj (a,b,c))) (wj (a,b,c)=iR (a,b,c)) (rA (a,b,c)=0/\be a<=64/\Ca c/\ar ( !aV (tK (a,b,c))) (tK (a,b,c)=iR (a,b,c)) (0=iR (a,b,c)))))))):= by
  delta ac aq aK gA mP c9 dB aO cS jH bG aT aV ai kx mw Ca qO
  rintro ns ls hs-hx
  unfold iR
  refine aw (λh=>D3 (jC h)) (λh=>?_)
  have h1:=jx h
  rw[CC h1]
  refine aw (λh=>D3 (jC h)) (λh=>?_)
  have h2:=jx h
  rw[CC h2]
  refine aw (λh=>D3 (jC h)) (λh=>?_)
  have h3:=jx h
  rw[CC h3]
  refine⟨Wf h2,aw (λh=>D3 (jC h)) (λh=>?_)⟩
  have h4:=jx h
  rw[CC h4]
  refine⟨λx hx=>tz (bB3 h3 x hx).len aB,aw (λh=>D3 (jC h)) (λh=>?_)⟩
  have h5:=jx h
  rw[CC h5]
  refine⟨Wf h2,aw (λh=>D3 (jC h)) (λh=>?_)⟩
  have h6:=jx h
  rw[CC h6]
  refine⟨h3,?_,hx,aw (λh=>rfl) (λh=>(jx h).symm)⟩
  unfold uv at h1
  split at h1
  .cases h1
  .dsimp only at *;omega
theorem aw3:aC 51 R9.spec:=aF Tryz.func51 (ap (ap (ap (ap (ap (ap (ap aD br0) Zy) ac0) ax6) aY3) bQ3) bG7) bT7 ZW
abbrev DL:OT := .pair l7 (.pair cI (.pair cI (.pair cI (.pair (.row 161 tv) (.pair (.row 3 cI) (.pair (.row 183 qe) (.pair (.row 175 Bf) (.row 233 Bz))))))))
def ao5:Ct:=⟨[.val (.sl tv)],[.own 161 tv],λd=>[(be d.1:Int)<=1000000],λd=>((d.1,()),())⟩
def zM(a:List NState):=be a<=cb2/\ ∀(b:NState),b∈a->gY b.1 b.2.1 b.2.2.1 b.2.2.2.1.1 b.2.2.2.1.2 b.2.2.2.2
theorem ZZ:
 ∀(a:List NState),ai (zM a)->ac a<=1000000->lq (be a=0) ([]=a) (bP ((0+be a)*80)/\a=a):= by
  delta ac aq aK c9 dB aO cS bP zM gY ai lq
  rintro x ⟨⟨hl,-⟩,-⟩ h b hb
  refine aw (λh1=>?_) (λh1=>⟨by simp;omega,by simp⟩)
  simp_all
theorem bs9:aC 119 ao5.spec:=aF Tryz.func119 aD aU ZZ
def bd6:Ct:=⟨[.val (.sl qe)],[.own 183 qe],λd=>[(be d.1:Int)<=1000000],λd=>((d.1,()),())⟩
def ra(a b c d e:Int)(f:ad):=bG a b (aq c) (aq d/\aq e/\aQ f)
def xI(a:List Flight):=be a<=cb2/\ ∀(b:Flight),b∈a->ra b.1 b.2.1 b.2.2.1 b.2.2.2.1 b.2.2.2.2.1 b.2.2.2.2.2
theorem a04:
 ∀(a:List Flight),ai (xI a)->ac a<=1000000->lq (be a=0) ([]=a) (bP ((0+be a)*64)/\a=a):= by
  delta ac aq aK aQ bG bP xI ai lq ra
  rintro x ⟨⟨hl,-⟩,-⟩ h b hb
  refine aw (λh1=>?_) (λh1=>⟨by simp;omega,by simp⟩)
  simp_all
theorem bx2:aC 120 bd6.spec:=aF Tryz.func120 aD aU a04
def bd9:Ct:=⟨[.val (.sl Bf)],[.own 175 Bf],λd=>[(be d.1:Int)<=1000000000000],λd=>((d.1,()),())⟩
def mQ(a:Int):=a<=1000000000000
def Au(a:List kQ):=be a<=cb2/\ ∀(b:kQ),b∈a->aq b.1/\aq b.2.1/\aQ b.2.2
theorem a67:
 ∀(a:List kQ),ai (Au a)->mQ (ac a)->lq (be a=0) ([]=a) (bP ((0+be a)*40)/\a=a):= by
  delta ac aq aK aQ bP ai lq mQ Au
  rintro x ⟨⟨hl,-⟩,-⟩ h b hb
  refine aw (λh1=>?_) (λh1=>⟨by simp;omega,by simp⟩)
  simp_all
theorem al7:aC 121 bd9.spec:=aF Tryz.func121 aD aU a67
def ax3:Ct:=⟨[.val (.sl Bz)],[.own 233 Bz],λd=>[(be d.1:Int)<=1000000000000],λd=>((d.1,()),())⟩
def AN(a:List lD):=be a<=cb2/\ ∀(b:lD),b∈a->bG b.1 b.2.1 (aq b.2.2.1) (aq b.2.2.2.1/\aq b.2.2.2.2)
theorem bd2:
 ∀(a:List lD),ai (AN a)->mQ (ac a)->lq (be a=0) ([]=a) (bP ((0+be a)*40)/\a=a):= by
  delta ac aq aK bG bP ai lq mQ AN
  rintro x ⟨⟨hl,-⟩,-⟩ h b hb
  refine aw (λh1=>?_) (λh1=>⟨by simp;omega,by simp⟩)
  simp_all
theorem by2:aC 122 ax3.spec:=aF Tryz.func122 aD aU bd2
def bx4:Ct:=⟨[.val (.sl eh)],[.own 130 eh],λd=>[(be d.1:Int)<=1000000],λd=>((d.1,()),())⟩
theorem bH5:
 ∀(a:List au),ai (mP a)->ac a<=1000000->lq (be a=0) ([]=a) (bP ((0+be a)*152)/\a=a):= by
  delta ac aq aK mP c9 dB aO cS bG bP ai lq kx
  rintro x ⟨⟨hl,-⟩,-⟩ h b hb
  refine aw (λh1=>?_) (λh1=>⟨by simp;omega,by simp⟩)
  simp_all
theorem bz7:aC 105 bx4.spec:=aF Tryz.func105 aD aU bH5
def ar6:Ct:=⟨[.val (.sl rG)],[.own 141 rG],λd=>[(be d.1:Int)<=1000000],λd=>((d.1,()),())⟩
theorem ax4:
 ∀(a:List bo),ai (jH a)->ac a<=1000000->lq (be a=0) ([]=a) (bP ((0+be a)*48)/\a=a):= by
  delta ac aq aK jH bG bP ai lq
  rintro x ⟨⟨hl,-⟩,-⟩ h b hb
  refine aw (λh1=>?_) (λh1=>⟨by simp;omega,by simp⟩)
  simp_all
theorem bf2:aC 106 ar6.spec:=aF Tryz.func106 aD aU ax4
def bU0:Ct:=⟨[.val (.sl nD)],[.own 155 nD],λd=>[(be d.1:Int)<=1000000],λd=>((d.1,()),())⟩
theorem bz3:
 ∀(a:List cH),ai (mw a)->ac a<=1000000->lq (be a=0) ([]=a) (bP ((0+be a)*72)/\a=a):= by
  delta ac aq aK dB aO cS bG bP ai lq mw
  rintro x ⟨⟨hl,-⟩,-⟩ h b hb
  refine aw (λh1=>?_) (λh1=>⟨by simp;omega,by simp⟩)
  simp_all
theorem aA0:aC 107 bU0.spec:=aF Tryz.func107 aD aU bz3
def bw9:Ct:=⟨[.val (.sl xq)],[.own 132 xq],λd=>[(be d.1:Int)<=1000000],λd=>((d.1,()),())⟩
theorem bv9:
 ∀(a:bX8),ai (kx a)->ac a<=1000000->lq (be a=0) ([]=a) (bP ((0+be a)*16)/\a=a):= by
  delta ac aq aK aO bP ai lq kx
  rintro x ⟨⟨hl,-⟩,-⟩ h b hb
  refine aw (λh1=>?_) (λh1=>⟨by simp;omega,by simp⟩)
  simp_all
theorem bp1:aC 108 bw9.spec:=aF Tryz.func108 aD aU bv9
def W3:Ct:=⟨[.val (.sl fm)],[.own 153 fm],λd=>[okL d.1],λd=>((d.1,()),())⟩
def bW3:bw W3.ps->bL:=(λd=>{loops:=(bu 3 (λS=>{ι:=Int,μ:=λi=>it (be d.1-i),inv:=λi=>0<=i/\i<=be d.1,keep:=[3,8,9],slots:=λi=>[(10,.int .i64 i)],keepN:=[128]}) cC)})
theorem bA7:
 ∀(a:List cz),Ka a:= by
  delta ae ac ao aq aK c9 dB aO cS aT bj am Ka ai vE bf uE rN cN ub bJ ax
  rintro l ⟨⟨hl,-⟩,-⟩⟨h1,h2⟩
  refine⟨h1,⟨0,⟨ab,ab⟩,aI⟩,?_⟩
  rintro j ⟨b,j1⟩
  refine ci (λa=>?_) (λa=>?_)
  .refine⟨b,a,h2 _ (dm b a),b,a,j+1,⟨ab,ab⟩,ab,?_⟩
   (repeat refine ik ?_)
   simp_all
  .rfl
theorem Uk:aC 109 W3.spec:=aF Tryz.func109 (ap (ap aD YT) D8) bW3 bA7
def XC:Ct:=⟨[.agg l7],[.agg l7],λd=>[we d.1],λd=>((d.1,()),())⟩
def ai2:bw XC.ps->bL:=(λd=>{loops:=(bu 3 (λS=>{ι:=Int,μ:=λi=>it (be d.1.1-i),inv:=λi=>0<=i/\i<=be d.1.1,keep:=[2,3,19,20],slots:=λi=>[(21,.int .i64 i)],keepN:=[48,64,176,224,272]}) (bu 8 (λS=>{ι:=Int,μ:=λi=>it (be d.1.2.2-i),inv:=λi=>0<=i/\i<=be d.1.2.2,keep:=[2,3,44,45],slots:=λi=>[(46,.int .i64 i)],keepN:=[48,64,176,224,272]}) cC))})
def JR(a:List au)(b:List bo)(c:List cH):=pM (ac a) (ac b<=1000000) (pM (ac c) (∀(d:au),d∈a->ac (aS d)<=1000000/\okL (bW d)) (∀(d:cH),d∈c->aT (gK d).2.1))
def Ab(a:List au)(b:Int):=set a (it b) (ae a b)
theorem bP4:
 ∀(a:List au)(b:List bo)(c:List cH),ai (gA a b c)->JR a b c->pM (ac a) (ac b<=1000000) (pM (ac c) (ub (ac a) (ac a=ac a) (a=a/\jZ b c)) (∀(d:Int),0<=d/\d<=ac a->fh d (ac a) (d<ac a) (pM (ac (ae a d).1) (okL (lz a d)) (am d (d<ac a) (am d (d<ac (Ab a d)) (uE (ac a) d (ac a=ac a) (set (Ab a d) (it d) ((ae (Ab a d) d).1,(ae (Ab a d) d).2.1,(ae (Ab a d) d).2.2.1,(ae (Ab a d) d).2.2.2.1,lz a d,(ae (Ab a d) d).2.2.2.2.2)=a/\jZ b c))))) (ub (ac c) (ac c=ac c) (a=a/\jZ b c)) (∀(e:Int),0<=e/\e<=ac c->ar (ax e (ac c)) (bJ e (ac c) (aT (ae c e).2.2.2.2.1) (am e (e<ac c) (uE (ac c) e (ac c=ac c) (a=a/\b=b/\ai (set c (it e) (ae c e)=c))))) ((a,b,c)=(a,b,c))))):= by
  delta ae ac ao aq aK gA mP c9 dB aO cS jH bG aT bj am fh ai lz bf uE rN kx cN ub bJ jZ JR mw Ab ax pM
  rintro ns ls hs-⟨h1,h2,h3,h4,h5⟩
  refine⟨h1,h2,h3,⟨0,⟨ab,ab⟩,aI⟩,?_⟩
  rintro j ⟨b,j1⟩
  refine ci (λa=>?_) (λa=>?_)
  .have g:=h4 _ (dm b a)
   have e:=zX b a
   refine⟨b,a,g.1,g.2,b,a,b,by rw[gd];exact a,j+1,⟨ab,ab⟩,ab,?_⟩
   (repeat refine ik ?_)
   grind
  refine⟨⟨0,⟨ab,ab⟩,aI⟩,?_⟩
  rintro k ⟨f,k1⟩
  refine ci (λd=>?_) (λd=>?_)
  .refine⟨f,d,h5 _ (dm f d),f,d,k+1,⟨ab,ab⟩,ab,?_⟩
   (repeat refine ik ?_)
   exact⟨zX f d,aP⟩
  .rfl
theorem TQ:aC 52 XC.spec:=aF Tryz.func52 (ap (ap (ap (ap (ap (ap aD bz7) bf2) aA0) bp1) Uk) D8) ai2 bP4
def YY:Ct:=⟨[.agg qV],[.agg DL],λd=>[Dx d.1],λd=>((d.1,()),())⟩
def ac3:bw YY.ps->bL:=(λd=>{loops:=(bu 4 (λS=>{ι:=Int,μ:=λi=>it (be (dD d.1)-i),inv:=λi=>0<=i/\i<=be (dD d.1),keep:=[1,2,18,19],slots:=λi=>[(20,.int .i64 i)],keepN:=[32,48,256]}) (bu 11 (λS=>{ι:=Int,μ:=λi=>it (be (aL d.1)-i),inv:=λi=>0<=i/\i<=be (aL d.1),keep:=[1,2,51,52],slots:=λi=>[(53,.int .i64 i)],keepN:=[32,48,256,720,784]}) (bu 17 (λS=>{ι:=Int,μ:=λi=>it (be (bO d.1)-i),inv:=λi=>0<=i/\i<=be (bO d.1),keep:=[1,2,72,73],slots:=λi=>[(74,.int .i64 i)],keepN:=[32,48,256,720,784,1120]}) cC)))})
def A6(a:af1):=∀(b:Go.RS.Del),b∈bO a->bV b.2.2
theorem bX3:
 ∀(a:af1),ai (CT.wf qV a)->we (aH a)/\pM (ac (dD a)) (bV (iD a)) (pM (ac (aL a)) (mQ (ac (bO a))) (mQ (ac (dZ a))/\(∀(b:NState),b∈dD a->bV (nL b)/\okL (cW b))/\(∀(b:Flight),b∈aL a->bV (gS b))/\A6 a))->we a.1/\pM (ac a.2.2.2.2.1) (ub (ac (dD a)) (ac a.2.2.2.2.1=ac a.2.2.2.2.1) (dX a.1.1 a.1.2.1 (a.1.2.2=a.1.2.2) (bN a.2.1 a.2.2.1 a.2.2.2.1 (a.2.2.2.2.2.1=a.2.2.2.2.2.1)
 (a.2.2.2.2.2.2.1=a.2.2.2.2.2.2.1/\a.2.2.2.2.2.2.2.1=a.2.2.2.2.2.2.2.1/\a.2.2.2.2.2.2.2.2=a.2.2.2.2.2.2.2.2/\bN 0 0 0 (a.2.2.2.2.1=a.2.2.2.2.1) True)))) (∀(b:Int),0<=b/\b<=ac (dD a)->fh b (ac a.2.2.2.2.1) (b<ac a.2.2.2.2.1) (aT (ae a.2.2.2.2.1 b).2.2.1/\okL (ae a.2.2.2.2.1 b).1/\am b (b<ac a.2.2.2.2.1) (am b (b<ac (set a.2.2.2.2.1 (it b) (ae a.2.2.2.2.1 b))) (uE (ac (dD a)) b (ac a.2.2.2.2.1=ac a.2.2.2.2.1) (dX a.1.1 a.1.2.1 (a.1.2.2=a.1.2.2) (bN a.2.1 a.2.2.1 a.2.2.2.1 (a.2.2.2.2.2.1=a.2.2.2.2.2.1) (a.2.2.2.2.2.2.1=a.2.2.2.2.2.2.1/\a.2.2.2.2.2.2.2.1=a.2.2.2.2.2.2.2.1/\a.2.2.2.2.2.2.2.2=a.2.2.2.2.2.2.2.2/\bN 0 0 0 (set (set a.2.2.2.2.1 (it b) (ae a.2.2.2.2.1 b)) (it b) ((ae a.2.2.2.2.1 b).1,(ae (set a.2.2.2.2.1 (it b) (ae a.2.2.2.2.1 b)) b).2)=a.2.2.2.2.1) True)))))) (aT a.2.2.2.2.2.1) (pM (ac a.2.2.2.2.2.2.1) (ub (ac
 (aL a)) (ac a.2.2.2.2.2.2.1=ac a.2.2.2.2.2.2.1) (dX a.1.1 a.1.2.1 (a.1.2.2=a.1.2.2) (bN a.2.1 a.2.2.1 a.2.2.2.1 (a.2.2.2.2.2.2.2.1=a.2.2.2.2.2.2.2.1) (a.2.2.2.2.2.2.2.2=a.2.2.2.2.2.2.2.2/\bN 0 0 0 (a.2.2.2.2.1=a.2.2.2.2.1) (a.2.2.2.2.2.1=a.2.2.2.2.2.1/\ai (a.2.2.2.2.2.2.1=a.2.2.2.2.2.2.1)))))) (∀(c:Int),0<=c/\c<=ac (aL a)->fh c (ac a.2.2.2.2.2.2.1) (c<ac a.2.2.2.2.2.2.1) (aT (ae a.2.2.2.2.2.2.1 c).2.2.2.2.2/\am c (c<ac a.2.2.2.2.2.2.1) (uE (ac (aL a)) c (ac a.2.2.2.2.2.2.1=ac a.2.2.2.2.2.2.1) (dX a.1.1 a.1.2.1 (a.1.2.2=a.1.2.2) (bN a.2.1 a.2.2.1 a.2.2.2.1 (a.2.2.2.2.2.2.2.1=a.2.2.2.2.2.2.2.1) (a.2.2.2.2.2.2.2.2=a.2.2.2.2.2.2.2.2/\bN 0 0 0 (a.2.2.2.2.1=a.2.2.2.2.1) (a.2.2.2.2.2.1=a.2.2.2.2.2.1/\ai (set a.2.2.2.2.2.2.1 (it c) (ae a.2.2.2.2.2.2.1 c)=a.2.2.2.2.2.2.1))))))) (mQ (ac a.2.2.2.2.2.2.2.1)) (ub (ac (bO a)) (ac
 a.2.2.2.2.2.2.2.1=ac a.2.2.2.2.2.2.2.1) (dX a.1.1 a.1.2.1 (a.1.2.2=a.1.2.2) (bN a.2.1 a.2.2.1 a.2.2.2.1 (a.2.2.2.2.2.2.2.2=a.2.2.2.2.2.2.2.2) (bN 0 0 0 (a.2.2.2.2.1=a.2.2.2.2.1) (a.2.2.2.2.2.1=a.2.2.2.2.2.1/\a.2.2.2.2.2.2.1=a.2.2.2.2.2.2.1/\ai (a.2.2.2.2.2.2.2.1=a.2.2.2.2.2.2.2.1)))))/\ ∀(d:Int),0<=d/\d<=ac (bO a)->fh d (ac a.2.2.2.2.2.2.2.1) (d<ac a.2.2.2.2.2.2.2.1) (aT (ae a.2.2.2.2.2.2.2.1 d).2.2/\am d (d<ac a.2.2.2.2.2.2.2.1) (uE (ac (bO a)) d (ac a.2.2.2.2.2.2.2.1=ac a.2.2.2.2.2.2.2.1) (dX a.1.1 a.1.2.1 (a.1.2.2=a.1.2.2) (bN a.2.1 a.2.2.1 a.2.2.2.1 (a.2.2.2.2.2.2.2.2=a.2.2.2.2.2.2.2.2) (bN 0 0 0 (a.2.2.2.2.1=a.2.2.2.2.1) (a.2.2.2.2.2.1=a.2.2.2.2.2.1/\a.2.2.2.2.2.2.1=a.2.2.2.2.2.2.1/\ai (set a.2.2.2.2.2.2.2.1 (it d) (ae a.2.2.2.2.2.2.2.1 d)=a.2.2.2.2.2.2.2.1))))))) (mQ (ac a.2.2.2.2.2.2.2.2)) (a=a))))):= by
  delta ae ac ao bN bp aT bj am bV fh ai dX bf uE rN cN ub mQ A6 ax bn pM
  rintro d-⟨h1,h2,i,h4,h5,h6,h7,h8,h9⟩
  have i:(be d.2.2.2.2.2.1:Int)<=1000000:=i
  have eS:dD d=d.2.2.2.2.1:=rfl
  have eF:aL d=d.2.2.2.2.2.2.1:=rfl
  have eD:bO d=d.2.2.2.2.2.2.2.1:=rfl
  simp only[eS,eF,eD] at *
  refine⟨h1,h2,⟨0,⟨ab,ab⟩,aI⟩,?_⟩
  rintro j ⟨g,j1⟩
  refine ci (λc=>?_) (λc=>?_)
  .have l:=h7 _ (dm g c)
   have h:((Om d.2.2.2.2.1 (it j) Sk).2.2.1.length:Int)<=1000000:=l.1
   have e:=zX g c
   refine⟨g,c,ab,l.2,g,c,g,by rw[gd];exact c,j+1,⟨ab,ab⟩,ab,?_⟩
   (repeat refine ik ?_)
   grind
  refine⟨ab,h4,⟨0,⟨ab,ab⟩,aI⟩,?_⟩
  rintro k ⟨b,k1⟩
  refine ci (λa=>?_) (λa=>?_)
  .have h:((Om d.2.2.2.2.2.2.1 (it k) Sk).2.2.2.2.2.length:Int)<=1000000:=h8 _ (dm b a)
   refine⟨b,a,ab,b,a,k+1,⟨ab,ab⟩,ab,?_⟩
   (repeat refine ik ?_)
   exact⟨zX b a,aP⟩
  refine⟨h5,⟨0,⟨ab,ab⟩,aI⟩,?_⟩
  rintro k ⟨b,k1⟩
  refine ci (λa=>?_) (λa=>?_)
  .have h:=h9 _ (dm b a)
   refine⟨b,a,ab,b,a,k+1,⟨ab,ab⟩,ab,?_⟩
   (repeat refine ik ?_)
   simp_all
  exact⟨h6,aP⟩
theorem Rz:aC 59 YY.spec:=aF Tryz.func59 (ap (ap (ap (ap (ap (ap (ap (ap aD TQ) bs9) D8) Uk) bx2) tj) al7) by2) ac3 bX3
def xB(x y:Flight):Int:=if cD (aW x) (aW y)≠0 then cD (aW x) (aW y) else cD (pO x) (pO y)
def a44:Ct:=⟨[.agg qe,.agg qe],[.val cI],λ_=>[],λd=>((xB d.1 d.2.1,()),())⟩
theorem bN0:
 ∀(a b c d e:Int)(f:ad)(g h i j k:Int)(l:ad),ra a b c d e f/\ai (ra g h i j k l)->True->j7 (cD a g::bz (cD b h))=xB (a,b,c,d,e,f) (g,h,i,j,k,l):= by
  delta aq aK aQ bG bz ai ra
  rintro a c a3 a4 a5 a6 b d b3 b4 b5 b6 - -
  have e:xB (a,c,a3,a4,a5,a6) (b,d,b3,b4,b5,b6)=if cD a b≠0 then cD a b else cD c d:=rfl
  simp only[j7]
  grind
theorem bl8:aC 136 a44.spec:=aF Tryz.func136 (ap (ap aD F0) FN) aU bN0
instance (a b:Flight):Decidable (iS a b):=by unfold iS;infer_instance
def iU(l:List Flight)(t:Flight):Int:=(be (l.takeWhile λx=>bZ2 (iS x t)):Int)
theorem ao0{x y:Flight}:xB x y<0↔iS x y:=by
 unfold xB cD iS
 grind
theorem az8{x y z:Flight}(h:iS x y)(k:iS y z):iS x z:=by unfold iS at *;omega
theorem MJ(l:List Flight)(t:Flight):0<=iU l t/\iU l t<=be l:=by
 unfold iU
 have:=dP be (yz (p:=λx=>bZ2 (iS x t)) (l:=l))
 grind
theorem Yr:∀{l:List Flight}{t:Flight}{h:Nat},l.Pairwise iS->h<be l->(iS (Om l h Sk) t↔(h:Int)<iU l t)
 | a::l,t,h,hs,hh=>by
  obtain⟨s1,s2⟩:=ca4.1 hs;by_cases b:iS a t
  .have e:iU (a::l) t=iU l t+1:=by unfold iU;rw[List.takeWhile_cons_of_pos (by simpa using b),cX];omega
   cases h with
   | zero =>
    have:=MJ l t;grind
   | succ h =>
    simp only[List.getD_cons_succ];rw[Yr s2 (by simpa using hh),e];omega
  .have e:iU (a::l) t=0:=by unfold iU;rw[List.takeWhile_cons_of_neg (by simpa using b)];rfl
   constructor
   .intro k;exfalso;cases h with
    | zero=>exact b k
    | succ h =>
     have hh:h<be l:=by simpa using hh
     have hm:Om l h Sk∈l:=by rw[cq,cG hh];exact cc3 hh
     exact b (az8 (s1 _ hm) k)
   .omega
theorem Sv{l:List Flight}{t:Flight}{h:Int}(hs:l.Pairwise iS)(h0:0<=h)(h1:h<be l):xB (Om l (it h) Sk) t<0↔h<iU l t:=by
 rw[ao0,Yr hs ab]
 rw[Int.toNat_of_nonneg h0]
def RE:Ct:=⟨[.val (.sl qe),.agg qe,.fn 136 0],[.val cI,.val .bool],λd=>[d.1.Pairwise iS],λd=>((iU d.1 d.2.1,(bif bZ2 (iU d.1 d.2.1<be d.1) then bZ2 (xB (Om d.1 (it (iU d.1 d.2.1)) Sk) d.2.1=0) else bZ6),()),())⟩
def aY1:bw RE.ps->bL:=(λd=>{loops:=(bu 3 (λS=>{ι:=Int×Int,qn:=fH,μ:=λi=>it (i.2-i.1),inv:=λi=>0<=i.1/\i.1<=iU d.1 d.2.1/\iU d.1 d.2.1<=i.2/\i.2<=be d.1,keep:=[0,2,4,8],slots:=λi=>[(9,.int .i64 i.1),(10,.int .i64 i.2)],keepN:=[80]}) cC)})
theorem aY2:
 ∀(a:List Flight)(b c d e f:Int)(g:ad),xI a/\ra b c d e f g/\ai True->cg8 iS a->(∃(h i:Int),bt h (iU a (b,c,d,e,f,g)) (iU a (b,c,d,e,f,g)<=i) (i<=ac a)/\a=a/\bn (ac a) (ac a) 0 h (ac a=i) (aZ b c d e (f=f) (ai (g=g))))/\ ∀(h i:Int),bt h (iU a (b,c,d,e,f,g)) (iU a (b,c,d,e,f,g)<=i) (i<=ac a)->ar (ax h i) (am 1 (0<=ux h i) (ux h i<ac a/\ar (dH (xB (ae a (ux h i)) (b,c,d,e,f,g))) (∃(j k:Int),bt j (iU a (b,c,d,e,f,g)) (iU a (b,c,d,e,f,g)<=k) (k<=ac a)/\cN (k -j) (i -h)/\a=a/\ac a=ac a/\bf (ux h i) j/\i=k/\aZ b c d e (f=f) (ai (g=g))) (∃(j k:Int),bt j (iU a (b,c,d,e,f,g)) (iU a (b,c,d,e,f,g)<=k) (k<=ac a)/\cN (k -j) (i -h)/\a=a/\bn (ac a) (ac a) h j (ux h i=k) (aZ b c d e (f=f) (ai (g=g)))))) (∀(j:Bool),j=ax h (ac a)->(j->iP j j h (h<ac a))/\cj j j ((j->j)/\dA j)
 (j->aJ j) ((j->j)/\h=iU a (b,c,d,e,f,g)/\br j (aV (xB (ae a h) (b,c,d,e,f,g)))=br (ax (iU a (b,c,d,e,f,g)) (ac a)) (aV (xB (ae a (iU a (b,c,d,e,f,g))) (b,c,d,e,f,g))))):= by
  delta ae ac ao aq aK aZ bN aQ bp aJ bG cj br am aV xI bt ai iP ux bf dA cN dH ra ax bn
  rintro x c d e f g k ⟨⟨hl,-⟩,-⟩ hs
  simp only[cb2] at hl
  have ⟨q0,q1⟩:=MJ x (c,d,e,f,g,k)
  refine⟨⟨0,be x,⟨ab,q0,q1,ab⟩,aI⟩,?_⟩
  rintro i j ⟨l,h1,h2,h3⟩
  refine ci (λhb=>?_) (λhb=>?_)
  .rw[W9 l ab ab]
   refine⟨ab,ab,ab,ci (λa=>?_) (λa=>?_)⟩
   .have a:=(Sv hs ab ab).1 a
    exact⟨(i+j)/2+1,j,⟨ab,ab,h2,h3⟩,ab,aI⟩
   .have a:¬ (i+j)/2<iU x (c,d,e,f,g,k):=λh=>absurd ((Sv hs ab ab).2 h) a
    exact⟨i,(i+j)/2,⟨l,h1,ab,ab⟩,ab,aI⟩
  .grind
theorem a42:aC 135 RE.spec:=aF Tryz.func135 (ap aD bl8) aY1 aY2
theorem Y6{α:Type}{p q:α->Bool}:∀{l:List α},(∀ x∈l,p x=q x)->l.takeWhile p=l.takeWhile q/\l.dropWhile p=l.dropWhile q
 | [],_=>⟨rfl,rfl⟩
 | a::l,h=>by
  obtain⟨h1,h2⟩:=Y6 (l:=l) λx hx=>h x (fu _ hx);have ha:=h a (eV ..);rw[cv0,cv0,cv1,cv1,ha,h1,h2];exact⟨rfl,rfl⟩
theorem bG9{l:List Flight}{f:Flight}(hf:∀ x∈l,pO x<pO f):l.take (it (iU l f))++([f]++l.drop (it (iU l f)))=iV l f:=by
 have ⟨e1,e2⟩:=Y6 (p:=λx=>bZ2 (iS x f)) (q:=λx=>bZ2 (aW x<=aW f)) (l:=l) λx hx=>by
  have:=hf x hx;apply decide_eq_decide.2;unfold iS;omega
 have k:=yz (p:=λx=>bZ2 (iS x f)) (l:=l)
 have t1:∀ A B,A++B=l->l.take (be A)=A/\l.drop (be A)=B:=by
  rintro A B rfl;exact⟨List.take_left' rfl,List.drop_left' rfl⟩
 have ⟨t2,t3⟩:=t1 _ _ k
 unfold iU
 rw[cb6,t2,t3]
 unfold iV
 rw[e1,e2]
 rfl
def aA4:Ct:=⟨[.box 41 DL,.agg qe],[],λd=>[(aL d.1).Pairwise iS,∀ x∈aL d.1,pO x<dc d.1,be (aL d.1)<=4096],λd=>((),(DY d.1 d.2.1,()))⟩
def xM(a:List NState)(b:ad)(c:List Flight)(d:List kQ)(e:List lD):=zM a/\cS b/\xI c/\Au d/\AN e
def Bo(a:Go.RS.Net×Int×Int×Int×List Go.RS.NState×ad×List Go.RS.Flight×List Go.RS.Del×List Go.RS.EndR):=∀(b:Flight),b∈aL a->pO b<dc a
theorem aA5:
 ∀(a:List au)(b:List bo)(c:List cH)(d e f:Int)(g:List NState)(h:ad)(i:List Flight)(j:List kQ)(k:List lD)(l m n o p:Int)(q:ad),(gA a b c/\bG d e (aq f) (xM g h i j k))/\ai (ra l m n o p q)->cg8 iS (aL ((a,b,c),d,e,f,g,h,i,j,k))/\Bo ((a,b,c),d,e,f,g,h,i,j,k)/\be (aL ((a,b,c),d,e,f,g,h,i,j,k))<=4096->cg8 iS i/\be [(l,e,n,o,p,q)]=1/\bt (iU i (l,e,n,o,p,q)) (ac i) (bP ((be i+1)*64)) (((a,b,c),d,ao (e+1),f,g,h,take (it (iU i (l,e,n,o,p,q))) i++([(l,e,n,o,p,q)]++drop (it (iU i (l,e,n,o,p,q))) i),j,k)=DY ((a,b,c),d,e,f,g,h,i,j,k) (l,m,n,o,p,q)):= by
  delta ac ao aq aK aQ gA mP c9 dB aO cS jH bG xM am bP xI zM gY bt ai kx mw Bo AN ra Au
  rintro ns ls hs now ord dn sts cr fl dl en a b c e f g-⟨h1,h2,h3⟩
  have h1:=h1
  have h2:∀ x∈fl,pO x<ord:=h2
  have h3:be fl<=4096:=h3
  have ⟨q0,q1⟩:=MJ fl (a,ord,c,e,f,g)
  refine⟨h1,rfl,q0,q1,ab,?_⟩
  rw[bG9 (f:=(a,ord,c,e,f,g)) h2]
  rfl
theorem WU:aC 69 aA4.spec:=aF Tryz.func69 (ap (ap aD a42) ab5) aU aA5
def SK:Ct:=⟨[.box 41 DL],[],λd=>[yN d.1],λd=>((),(dh d.1,()))⟩
def bj0:bw SK.ps->bL:=(λd=>{loops:=(bu 0 (λS=>{ι:=Int×(List NState),qn:=fH,μ:=λi=>it ((aH d.1).2.2.length-i.1),inv:=λi=>yN (te (jP d.1 i.2) i.1)/\dh (te (jP d.1 i.2) i.1)=dh d.1,keep:=[0],slots:=λi=>[],keepN:=[2097153,2097154,2097155,2097156],names:=λi=>[(1048576,.live (.cells 41 (cF l7 d.1.1++[.int .i64 d.1.2.1,.int .i64 d.1.2.2.1,.int .i64 i.1,.own 524288 6,.own 2097153 1,.own 2097154 6,.own 2097155 3,.own 2097156 5]))),(524288,.live (.row 161 tv i.2))]}) cC)})
def uC(a:ad)(b:List Flight)(c:List kQ)(d e:Prop):=a=a/\b=b/\c=c/\d/\e
theorem aO7:
 ∀(a:List au)(b:List bo)(c:List cH)(d e f:Int)(g:List NState)(h:ad)(i:List Flight)(j:List kQ)(k:List lD),ai (gA a b c/\bG d e (aq f) (xM g h i j k))->gU ((a,b,c),d,e,f,g,h,i,j,k)∨c=[]/\d8 ((a,b,c),d,e,f,g,h,i,j,k)=0->(∃(l:Int) (m:List NState),(yN (te (jP ((a,b,c),d,e,f,g,h,i,j,k) m) l)/\dh (te (jP ((a,b,c),d,e,f,g,h,i,j,k) m) l)=dh ((a,b,c),d,e,f,g,h,i,j,k))/\uC h i j (k=k) (dX a b (c=c) (bp d e (f=l) (ai (g=m)))))/\ ∀(l:Int)(m:List NState),yN (te (jP ((a,b,c),d,e,f,g,h,i,j,k) m) l)/\dh (te (jP ((a,b,c),d,e,f,g,h,i,j,k) m) l)=dh ((a,b,c),d,e,f,g,h,i,j,k)-> ∀(n:Bool),n=ax l (ac c)->wy n n (aJ n) (n->aJ n) (cj n n (iP n n l (l<ac c)) (n->aJ n) (cj n n (aJ n) (n->aJ n) (cj n n (dA n) (n->n) (ar (br n (bZ2 ((ae c l).1<=d))) (am l (l<ac c) (am
 (jl c l) (jl c l<ac m) (ar (ae c l).2.2.1 (dU (ae m (jl c l)).1/\okL (ae m (jl c l)).1/\ ∃(o:Int) (p:List NState),(yN (te (jP ((a,b,c),d,e,f,g,h,i,j,k) p) o)/\dh (te (jP ((a,b,c),d,e,f,g,h,i,j,k) p) o)=dh ((a,b,c),d,e,f,g,h,i,j,k))/\bj (ac c) o l/\uC h i j (k=k) (dX a b (c=c) (bp d e (bf l o) (ai (set m (it (jl c l)) (lG (ae m (jl c l)).1 (ae c l).2.2.2.1,(ae m (jl c l)).2)=p))))) (dU (ae m (jl c l)).1/\okL (ae m (jl c l)).1/\aT (ae c l).2.2.2.2.1/\ ∃(o:Int) (p:List NState),(yN (te (jP ((a,b,c),d,e,f,g,h,i,j,k) p) o)/\dh (te (jP ((a,b,c),d,e,f,g,h,i,j,k) p) o)=dh ((a,b,c),d,e,f,g,h,i,j,k))/\bj (ac c) o l/\uC h i j (k=k) (dX a b (c=c) (bp d e (bf l o) (ai (set m (it (jl c l)) (ie (ae m (jl c l)).1 (ae c
 l).2.2.2,(ae m (jl c l)).2)=p)))))))) (((a,b,c),d,e,l,m,h,i,j,k)=dh ((a,b,c),d,e,f,g,h,i,j,k)))))):= by
  delta ae ac ao aq aK aQ bp aJ gA mP c9 dB aO cS jH bG aT cj bj br xM am xI zM gY ai dX iP bf dA kx cN wy mw AN jl ra ax bn Au uC
  rintro ns ls hs now ord dn0 sts cr fl dl en ⟨⟨⟨-,-,⟨hl,-⟩⟩,-⟩,-⟩ h
  simp only[cb2] at hl
  refine⟨⟨dn0,sts,⟨h,rfl⟩,aI⟩,?_⟩
  rintro dn st ⟨hv,he⟩
  obtain⟨v,hw⟩:∃ v,v=te (jP ((ns,ls,hs),now,ord,dn0,sts,cr,fl,dl,en) st) dn:=⟨_,rfl⟩
  rw[← hw] at hv he
  have hdn:d8 v=dn:=by rw[hw];rfl
  have hd0:0<=dn:=by obtain q|q:=hv;have:=q.done.1;omega;have:=q.2;omega
  (repeat (refine cL ?_;repeat refine cK ?_))
  refine AM (λh1 h2=>?_) (λh12=>?_)
  rotate_left
  .rw[← he,a38,hw]
   .rfl
   .intro k
    unfold nR at k
    rw[hw,fx] at k
    obtain q|q:=h12
    .exact absurd (k.1.symm.trans q) az
    .exact absurd (k.2.symm.trans q) az
  have hd1:=aX h1
  have hv:=hv.resolve_right λq=>by
   have q1:hs=[]:=by have:=q.1;rw[hw] at this;exact this
   rw[q1] at hd1;simp at hd1;omega
  have hdue:nR v=true:=by
   unfold nR
   rw[hw,fx]
   exact⟨h1,h2⟩
  have eN:aH v=(ns,ls,hs):=by rw[hw];rfl
  have eS:dD v=st:=by rw[hw];rfl
  have hk:it dn<(aH v).2.2.length:=by rw[eN];show it dn<be hs;omega
  obtain⟨-,⟨w0,w1⟩,hc⟩:=KU hv.net hk
  have hlen:=hv.len
  have hsw:=hv.chg hdue
  have hst:=(bW6 hv hdue).symm.trans he
  rw[eN,eS] at hlen
  rw[eN] at w0 w1 hc
  have hlen:=hlen
  obtain⟨c,ec⟩:∃ c,c=Om hs (it dn) default:=⟨_,rfl⟩
  have w0:0<=c8 c:=by rw[ec];exact w0
  have w1:c8 c<be ns:=by rw[ec];exact w1
  have hi:it (c8 c)<(aH v).1.length:=by rw[eN];show it (c8 c)<be ns;omega
  have ⟨c1,c2⟩:=BE (hv.chk hi)
  rw[eS] at c1 c2
  have et:lZ v=c:=by rw[ec,hw];rfl
  have ed:d8 v=dn:=by rw[hw];rfl
  have ev:jN v=te (jP ((ns,ls,hs),now,ord,dn0,sts,cr,fl,dl,en) (st.set (it (c8 c)) (PC (Om st (it (c8 c)) Sk) (jI (cW (Om st (it (c8 c)) Sk)) c)))) (dn+1):=by
   unfold jN
   rw[et,ed,eS,aG ab ab,hw]
   rfl
  rw[ev] at hsw hst
  have wd:bZ4.wrap (dn+1)=dn+1:=aG ab ab
  rw[← ec]
  refine⟨hd0,hd1,w0,by rw[hlen];exact w1,aw (λhr=>?_) (λhr=>?_)⟩
  .have er:jI (cW (Om st (it (c8 c)) Sk)) c=lG (cW (Om st (it (c8 c)) Sk)) (gK c).1:=by unfold jI;exact aj hr
   rw[er] at hsw hst
   refine⟨c1,c2,dn+1,_,⟨.inl hsw,hst⟩,by show it (be hs-(dn+1))<it (be hs-dn);omega,?_⟩
   (repeat refine ik ?_)
   exact⟨rfl,aP⟩
  .have er:jI (cW (Om st (it (c8 c)) Sk)) c=ie (cW (Om st (it (c8 c)) Sk)) (gK c):=by unfold jI;rw[ah (by rw[show xX c=bZ6 from hr];simp)]
   have hin:((gK c).2.1.length:Int)<=1099511627776:=by
    have hc':=(BE hc).2.2
    rw[← ec] at hc'
    have e2:jI (Om (gc (ns,ls,hs) (it dn)) (it (c8 c)) Sk) c=ie (Om (gc (ns,ls,hs) (it dn)) (it (c8 c)) Sk) (gK c):=by unfold jI;rw[ah (by rw[show xX c=bZ6 from hr];simp)]
    have hc2:okL (ie (Om (gc (ns,ls,hs) (it dn)) (it (c8 c)) Sk) (gK c)):=by
     have:=(BE hc).2
     rw[← e2,ec];exact this
    exact hc2.2 _ (by unfold ie;simp)
   rw[er] at hsw hst
   refine⟨c1,c2,hin,dn+1,_,⟨.inl hsw,hst⟩,by show it (be hs-(dn+1))<it (be hs-dn);omega,?_⟩
   (repeat refine ik ?_)
   exact⟨rfl,aP⟩
theorem Wv:aC 62 SK.spec:=aF Tryz.func62 (ap (ap aD TK) Zd) bj0 aO7
def bF5:Ct:=⟨[.box 41 DL,.agg qe,.val cI,.val cI],[],λd=>[(be (dZ d.1):Int)<=1000000000000],λd=>((),(qF d.1 d.2.1 d.2.2.1 d.2.2.2.1,()))⟩
theorem aT2:
 ∀(a:List au)(b:List bo)(c:List cH)(d e f:Int)(g:List NState)(h:ad)(i:List Flight)(j:List kQ)(k:List lD)(l m n o p:Int)(q:ad)(r s:Int),(gA a b c/\bG d e (aq f) (xM g h i j k))/\ra l m n o p q/\dV r s->mQ (ac (dZ ((a,b,c),d,e,f,g,h,i,j,k)))->bP ((be k+be [(p,l,n,r,s)])*40)/\((a,b,c),d,e,f,g,h,i,j,k++[(p,l,n,r,s)])=qF ((a,b,c),d,e,f,g,h,i,j,k) (l,m,n,o,p,q) r s:= by
  delta ac aq aK aQ gA mP c9 dB aO cS jH bG xM bP xI zM gY ai dV kx mQ mw AN ra Au
  rintro ns ls hs now ord dn sts cr fl dl en a b c e f g l r-h
  have h:(be en:Int)<=1000000000000:=h
  exact⟨by simp only[eI];omega,rfl⟩
theorem UT:aC 124 bF5.spec:=aF Tryz.func124 aD aU aT2
def SF(n:Int):Int:=ca1.wrap n
def aW5:Ct:=⟨[.box 41 DL,.agg qe,.agg Bs],[],λd=>[(aL d.1).Pairwise iS,∀ x∈aL d.1,pO x<dc d.1,be (aL d.1)<=4096,(be (dZ d.1):Int)<=1000000000000,be (iD d.1)=(aH d.1).2.1.length,0<=d.2.2.1.1,d.2.2.1.1<(aH d.1).2.1.length,oM (aH d.1).1.length (fQ d.1 d.2.2.1.1)],λd=>((),(ig d.1 d.2.1 d.2.2.1,()))⟩
def Mq(a:Int)(b:List bo)(c:Int)(d:ad):=ao (ao (a+(ae b c).2.2.1)+ao (cd8 (bZ5 ca1 (cd2 (oJ (bits cd6 ca1 (oJ (bZ5 ca1 (ae b c).2.2.2.2.2)) (bZ5 ca1 (ae d c)))) 65536)) (bZ5 ca1 (ao ((ae b c).2.2.2.1+1)))))
theorem bQ2:
 ∀(a:List au)(b:List bo)(c:List cH)(d e f:Int)(g:List NState)(h:ad)(i:List Flight)(j:List kQ)(k:List lD)(l m n o p:Int)(q:ad)(r:Int)(s:ad),(gA a b c/\bG d e (aq f) (xM g h i j k))/\ra l m n o p q/\ai (aq r/\aQ s)->cg8 iS (aL ((a,b,c),d,e,f,g,h,i,j,k))/\Bo ((a,b,c),d,e,f,g,h,i,j,k)/\be (aL ((a,b,c),d,e,f,g,h,i,j,k))<=4096/\mQ (ac (dZ ((a,b,c),d,e,f,g,h,i,j,k)))/\be (iD ((a,b,c),d,e,f,g,h,i,j,k))=be b/\am r (r<ac b) (am (lA (fQ ((a,b,c),d,e,f,g,h,i,j,k) r)) (lA (fQ ((a,b,c),d,e,f,g,h,i,j,k) r)<ac a) (bJ (lB (fQ ((a,b,c),d,e,f,g,h,i,j,k) r)) (ac a) (lA (fQ ((a,b,c),d,e,f,g,h,i,j,k) r)≠lB (fQ ((a,b,c),d,e,f,g,h,i,j,k) r)) (1<=qI (fQ ((a,b,c),d,e,f,g,h,i,j,k) r)/\qI (fQ ((a,b,c),d,e,f,g,h,i,j,k) r)<=1073741824/\bt (mI (fQ ((a,b,c),d,e,f,g,h,i,j,k) r))
 1073741824 (0<=vN (fQ ((a,b,c),d,e,f,g,h,i,j,k) r)) (vN (fQ ((a,b,c),d,e,f,g,h,i,j,k) r)<=65536))))->am r (r<ac b) (am r (r<ac h) (am r (r<ac h) (bJ r (ac h) ((65536:Int)≠(0:Int)) (ar (ax (cd8 (oJ (bits cd6 ca1 (oJ (bZ5 ca1 (ae b r).2.2.2.2.2)) (bZ5 ca1 (ae h r)))) 65536) (bZ5 ca1 (ae b r).2.2.2.2.1)) (mQ (ac (dZ ((a,b,c),d,e,f,g,px h r,i,j,k)))/\((a,b,c),d,e,f,g,px h r,i,j,dZ ((a,b,c),d,e,f,g,px h r,i,j,k)++[(qB (l,m,n,o,p,q),aW (l,m,n,o,p,q),bX (l,m,n,o,p,q),r,3)])=ig ((a,b,c),d,e,f,g,h,i,j,k) (l,m,n,o,p,q) (r,s)) ((65536:Int)≠(0:Int)/\bZ5 ca1 (ao ((ae b r).2.2.2.1+1))≠0/\ ∀(t:Bool),t=vx (Mq d b r h)->cV t (bR t) (cV t (bv t) (ar (bq t (bZ2 (4096<=ac i))) (mQ (ac (dZ ((a,b,c),d,e,f,g,px h
 r,i,j,k)))/\((a,b,c),d,e,f,g,px h r,i,j,dZ ((a,b,c),d,e,f,g,px h r,i,j,k)++[(qB (l,m,n,o,p,q),aW (l,m,n,o,p,q),bX (l,m,n,o,p,q),r,7)])=ig ((a,b,c),d,e,f,g,h,i,j,k) (l,m,n,o,p,q) (r,s)) (cg8 iS (aL ((a,b,c),d,e,f,g,px h r,i,j,k))/\Bo ((a,b,c),d,e,f,g,px h r,i,j,k)/\be (aL ((a,b,c),d,e,f,g,px h r,i,j,k))<=4096/\((a,b,c),d,ao (dc ((a,b,c),d,e,f,g,px h r,i,j,k)+1),f,g,px h r,iV (aL ((a,b,c),d,e,f,g,px h r,i,j,k)) (aW (Mq d b r h,0,ku b r n,r,p,s),dc ((a,b,c),d,e,f,g,px h r,i,j,k),ku b r n,r,p,s),j,k)=ig ((a,b,c),d,e,f,g,h,i,j,k) (l,m,n,o,p,q) (r,s))))))))):= by
  delta ae ac ao aq aK aQ bR aJ gA mP c9 dB aO cS jH bG bq xM cV am bv xI zM gY px bt ai kx Mq bJ mQ mw Bo vx AN ra ax Au
  rintro ns ls hs now ord dn sts cr fl dl en a b c e f g k o-⟨h1,h2,h3,h4,h5,h6,h7,h8⟩
  obtain⟨w,hw⟩:∃ w,w=((ns,ls,hs),now,ord,dn,sts,cr,fl,dl,en):=⟨_,rfl⟩
  obtain⟨x,hx⟩:∃ x,x=(a,b,c,e,f,g):=⟨_,rfl⟩
  have h8:oM (be ns) (fQ w k):=by rw[hw];exact h8
  have h4:=h4
  have h5:be cr=be ls:=h5
  have h7:=h7
  obtain⟨-,-,-,-,-,d1,d2,j1,j2,l1,l2⟩:=h8
  have eL:fQ w k=Om ls (it k) default:=by rw[hw];rfl
  have eC:pW w k=Om cr (it k) default:=by rw[hw];rfl
  have e1:bZ4.wrap (mI (fQ w k)+1)=mI (fQ w k)+1:=aG ab ab
  have e2:ca1.wrap (mI (fQ w k)+1)=mI (fQ w k)+1:=Nn ab ab
  refine⟨h6,h7,h6,ab,h6,ab,h6,ab,aB,aw (λhl=>?_) (λhl=>⟨aB,?_,?_⟩)⟩
  .have hl:=aX hl
   have ec:ig w x (k,o)=qF (xW w ((iD w).set (it k) (bZ4.wrap (pW w k+1)))) x k 3:=by
    unfold ig
    exact aj (by rw[eL,eC];exact hl)
   rw[← hw,← hx,ec,hw,hx]
   exact⟨h4,rfl⟩
  .show SF (bZ4.wrap (mI (Om ls (it k) Sk)+1))≠0
   unfold SF
   rw[← eL,e1,e2];omega
  have hl:=bg hl
  have hm:=Sg (bits .xor .u64 (oJ (bZ5 .u64 (Am (fQ w k)))) (bZ5 .u64 (pW w k)))
  have eq:ca1.wrap (cd2 (xl (fQ w k) (pW w k)) 65536)=cd2 (xl (fQ w k) (pW w k)) 65536:=by
   unfold xl
   rw[z9 hm.1]
   exact Nn ab ab
  have eo:qu w k=bZ4.wrap (bZ4.wrap (now+(Om ls (it k) Sk).2.2.1)+bZ4.wrap (cd8 (ca1.wrap (cd2 (xl (Om ls (it k) Sk) (Om cr (it k) Sk)) 65536)) (ca1.wrap (bZ4.wrap ((Om ls (it k) Sk).2.2.2.1+1))))):=by
   unfold qu Fo
   rw[← eL,← eC,eq,hw]
   rfl
  have fin:∀ over,qu w k=over→∀ b,b=bZ2 (1125899906842624<over)->ar (bif b then bZ3 else bZ2 (4096<=(be fl:Int))) ((be (dZ (xW w (cr.set (it k) (bZ4.wrap (Om cr (it k) Sk+1))))):Int)<=1000000000000/\qF (xW w (cr.set (it k) (bZ4.wrap (Om cr (it k) Sk+1)))) x k 7=ig w x (k,o))
    (fl.Pairwise iS/\(∀ z∈fl,pO z<ord)/\be fl<=4096/\DY (xW w (cr.set (it k) (bZ4.wrap (Om cr (it k) Sk+1)))) (over,0,ku ls k c,k,f,o)=ig w x (k,o)):=by
   rintro over rfl b rfl
   have e0:ig w x (k,o)=if 1125899906842624<qu w k∨(4096:Int)<=be (aL w) then qF (xW w ((iD w).set (it k) (bZ4.wrap (pW w k+1)))) x k 7 else DY (xW w ((iD w).set (it k) (bZ4.wrap (pW w k+1)))) (qu w k,0,ku (aH w).2.1 k (bX x),k,qB x,o):=by
    unfold ig
    exact ah (by rw[eL,eC];exact hl)
   have em:aL w=fl:=by rw[hw];rfl
   refine uH (λho=>?_) (λq1 q2=>?_)
   .refine⟨by rw[hw];exact h4,?_⟩
    rw[e0,aj (by rw[em];obtain q|q:=ho;exact .inl (aX q);exact .inr (aX q)),hw]
    rfl
   .refine⟨h1,h2,h3,?_⟩
    rw[e0,ah (by rw[em];rintro (q|q);exact absurd q (bg q1);exact absurd q (bg q2)),hw,hx]
    rfl
  rw[hx,hw] at fin
  intro b hb
  have:=fin _ (hw▸eo) b hb
  (repeat refine⟨(by first|(simp;done)|(rw[hb];simp;done)|(rw[hb];simp;omega)),?_⟩)
  exact this
theorem aR6:aC 125 aW5.spec:=aF Tryz.func125 (ap (ap (ap (ap aD UB) UT) aI8) WU) aU bQ2
def Wy:Ct:=⟨[.box 41 DL],[],λd=>[B1 d.1,aL d.1≠[]],λd=>((),(eO d.1,()))⟩
def bv0:bw Wy.ps->bL:=(λd=>{cuts:=(bu 8 (λS=>{ι:=aN,inv:=λi=>i=pR d.1,keep:=[0,2,4,5],slots:=λi=>[],keepN:=[48,80],names:=λi=>[(1048576,.live (.cells 41 (cF l7 (aH i)++[.int .i64 (ce i),.int .i64 (dc i),.int .i64 (d8 i),.own 524288 6,.own 524289 1,.own 524290 6,.own 524291 3,.own 524292 5]))),(524288,.live (.row 161 tv (dD i))),(524289,.live (.row 3 cI (iD i))),(524290,.live (.row 183 qe (aL i))),(524291,.live (.row 175 Bf (bO i))),(524292,.live (.row 233 Bz (dZ i)))]}) (bu 10 (λS=>{ι:=aN,inv:=λi=>i=ke d.1,keep:=[0,2,4],slots:=λi=>[],keepN:=[48,80],names:=λi=>[(1048576,.live (.cells 41 (cF l7 (aH i)++[.int .i64 (ce i),.int .i64 (dc i),.int .i64 (d8 i),.own 524288 6,.own 524289 1,.own 524290 6,.own 524291 3,.own 524292 5]))),(524288,.live (.row 161 tv (dD i))),(524289,.live (.row 3 cI (iD i))),(524290,.live (.row 183 qe (aL i))),(524291,.live (.row 175 Bf (bO i))),(524292,.live (.row 233 Bz (dZ i)))]}) cC))})
def pQ(a:List Flight):=(ae a 0).2.2.1
def BS(a:List Flight):=(ae a 0).2.2.2.2.2
def JB(a:List au)(b:List Flight)(c:List NState):=gH (ae a (pQ b)) (ae c (pQ b)) (ae b 0).2.2.2.1 (ae b 0).1 (BS b)
def Ld(a:List Flight):=(ae a 0).2.2.2.2.1=(ae a 0).2.2.2.2.1
def WF(a b:aN)(c d:Int)(e f:Prop):=(aH a).1=(aH b).1/\(aH a).2.1=(aH b).2.1/\(aH a).2.2=(aH b).2.2/\bn (ce a) (ce b) (dc a) (dc b) (c=d) (e/\f)
def NB(a:List Flight)(b:Int)(c:ad)(d e:aN)(f g:List EndR):=gv (BS a) b (c=c) (WF d e (d8 d) (d8 e) (dD d=dD e) (iD d=iD e/\aL d=aL e/\bO d=bO e/\ai (f=g)))
def Ny(a:Int)(b:List Flight)(c:Int)(d:ad)(e f:Prop):=aZ a (ae b 0).1 (ae b 0).2.1 (pQ b) ((ae b 0).2.2.2.1=(ae b 0).2.2.2.1) (Ld b/\gv (BS b) c (d=d) (e/\f))
theorem bK6:
 ∀(a:List au)(b:List bo)(c:List cH)(d e f:Int)(g:List NState)(h:ad)(i:List Flight)(j:List kQ)(k:List lD),ai (gA a b c/\bG d e (aq f) (xM g h i j k))->B1 ((a,b,c),d,e,f,g,h,i,j,k)/\(aL ((a,b,c),d,e,f,g,h,i,j,k)=[]->False)->am 0 (0<ac i) (bt 1 (ac i) (yN ((a,b,c),(ae i 0).1,e,f,g,h,drop 1 i,j,k)) (∀(l:List au)(m:List bo)(n:List cH)(o p q:Int)(r:List NState)(s:ad)(t:List Flight)(u:List kQ)(v:List lD),((l,m,n),o,p,q,r,s,t,u,v)=dh ((a,b,c),(ae i 0).1,e,f,g,h,drop 1 i,j,k)->am (pQ i) (pQ i<ac l) (bJ (pQ i) (ac r) (dU (cW (ae r (pQ i)))) (okL (cW (ae r (pQ i)))/\bV (nL (ae r (pQ i)))/\bV (BS i)/\ ∀(w:List cz)(x:Int)(y:ad)(z A B C:Int)(D:ad)(E:Int),(w,x,y,(z,A),B)=(JB l i r).1/\(C,D)=(JB l i r).2.1/\E=(JB l i r).2.2->bJ (pQ i) (ac
 r) (ar (iN E) (bP ((be u+be [((ae i 0).1,pQ i,BS i)])*40)/\ ∃(F:aN),F=pR ((a,b,c),d,e,f,g,h,i,j,k)/\Ny E i C D (l=(aH F).1) (m=(aH F).2.1/\n=(aH F).2.2/\bn o (ce F) p (dc F) (q=d8 F) (set r (it (pQ i)) (w,x,y,(z,A),B)=dD F/\s=iD F/\t=aL F/\u++[((ae i 0).1,pQ i,BS i)]=bO F/\ai (v=dZ F)))) (∃(F:aN),F=pR ((a,b,c),d,e,f,g,h,i,j,k)/\Ny E i C D (l=(aH F).1) (m=(aH F).2.1/\n=(aH F).2.2/\bn o (ce F) p (dc F) (q=d8 F) (set r (it (pQ i)) (w,x,y,(z,A),B)=dD F/\s=iD F/\t=aL F/\u=bO F/\ai (v=dZ F))))) (∀(F:aN),F=pR ((a,b,c),d,e,f,g,h,i,j,k)->ar ( !aV E) (mQ (ac (dZ (aH F,F.2)))/\ ∃(G:aN),G=ke ((a,b,c),d,e,f,g,h,i,j,k)/\aZ (ae i 0).1 (ae i 0).2.1 (pQ i) (ae i 0).2.2.2.1 (Ld i) (NB i C D F G (dZ (aH F,F.2)++[(qB (ae i 0),aW (ae i 0),bX (ae i
 0),(ae i 0).2.2.2.1,E)]) (dZ G))) (∃(G:aN),G=ke ((a,b,c),d,e,f,g,h,i,j,k)/\aZ (ae i 0).1 (ae i 0).2.1 (pQ i) (ae i 0).2.2.2.1 (Ld i) (NB i C D F G (dZ F) (dZ G)))/\ ∀(G:aN),G=ke ((a,b,c),d,e,f,g,h,i,j,k)->ar (ax 0 (ac D)) (cg8 iS (aL (aH G,G.2))/\Bo (aH G,G.2)/\be (aL (aH G,G.2))<=4096/\mQ (ac (dZ (aH G,G.2)))/\be (iD (aH G,G.2))=be (aH G).2.1/\bJ C (ac (aH G).2.1) (oM (be (aH G).1) (fQ (aH G,G.2) C)) (ig (aH G,G.2) (ae i 0) (C,D)=eO ((a,b,c),d,e,f,g,h,i,j,k))) ((aH G,ce G,dc G,d8 G,dD G,iD G,aL G,bO G,dZ G)=eO ((a,b,c),d,e,f,g,h,i,j,k))))))):= by
  delta ae ac aq aK aZ bN aQ bp gA mP c9 dB aO cS jH bG xM am bP aV xI zM bV gY bt ai gv pQ kx bJ JB Ld WF mQ mw Bo AN NB ra ax iN BS Ny bn Au
  rintro ns ls hs now ord dn sts cr fl dl en-⟨h,hne⟩
  obtain⟨f,r,rfl⟩:∃ f r,fl=f::r:=List.exists_cons_of_ne_nil hne
  obtain⟨w,hw⟩:∃ w,w=((ns,ls,hs),now,ord,dn,sts,cr,f::r,dl,en):=⟨_,rfl⟩
  have e0:Om (f::r) (it 0) Sk=f:=rfl
  have e1:drop 1 (f::r)=r:=rfl
  simp only[e0,e1]
  rw[← hw] at h ⊢
  have A:=h.at (w:=w) (f:=f) (r:=r) (by rw[hw];rfl)
  have ew:cQ (gu w (aL w).tail) (aW (ky w))=((ns,ls,hs),f.1,ord,dn,sts,cr,r,dl,en):=by rw[A.eF,hw];rfl
  refine⟨ab,by simp only[cX];omega,ab,by simp only[cX];omega,by rw[← ew];exact .inl A.h0.weak,?_⟩
  rw[← ew]
  intro a1 a2 a3 a4 a5 a6 a7 a8 a9 a10 a11 hv
  have hv:((a1,a2,a3),a4,a5,a6,a7,a8,a9,a10,a11)=gb w:=hv
  have hi:it (bX f)<(aH (gb w)).1.length:=by have:=A.fk.nd;omega
  have hnd:=A.fk.nd
  have hlen:=A.s.len
  obtain⟨st,-⟩:=A.s.st _ hi
  have N:=zP A.s.net hi
  have hps:=st.ps
  have hn32:=N.n32
  have hdl:=h.d
  have hen:=h.e
  have E1:a1=(aH (gb w)).1:=by rw[← hv];rfl
  have E7:a7=dD (gb w):=by rw[← hv];rfl
  have E10:a10=bO w:=by rw[← A.dl,← hv];rfl
  have E11:a11=dZ w:=by rw[← A.en,← hv];rfl
  have E9:a9=aL (gb w):=by rw[← hv];rfl
  have eH:mL w=gH (Om a1 (it (bX f)) Sk) (Om a7 (it (bX f)) Sk) (ju f) (aW f) (gS f):=by unfold mL bT;rw[A.eF,E1,E7]
  have hfd:=A.fk.d
  refine⟨hnd.1,by rw[E1];exact hnd.2,hnd.1,by rw[E7,hlen];exact hnd.2,by rw[E7];exact st.srt,by rw[E7];exact st.okl,by rw[E7];show (be (nL (Om (dD (gb w)) (it (bX f)) Sk)):Int)<=1000000;omega,by show (be (gS f):Int)<=1000000;omega,?_⟩
  intro b1 b2 b3 b4 b5 b6 o1 o2 why hh
  have ⟨hh1,hh2,hh3⟩:=hh
  have hh1:(b1,b2,b3,(b4,b5),b6)=(mL w).1:=by rw[eH];exact hh1
  have hh2:(o1,o2)=(mL w).2.1:=by rw[eH];exact hh2
  have hh3:why=(mL w).2.2:=by rw[eH];exact hh3
  have eA:AO w=((a1,a2,a3),a4,a5,a6,a7.set (it (bX f)) (b1,b2,b3,(b4,b5),b6),a8,a9,a10,a11):=by unfold AO;rw[A.eF,hh1,← hv];rfl
  refine⟨hnd.1,by rw[E7,hlen];exact hnd.2,?_⟩
  have lenD:(be (bO w):Int)<=999999999000:=ab
  have lenE:(be (dZ w):Int)<=999999999000:=ab
  refine⟨ci (λk=>?_) (λk=>?_),?_⟩
  .have k:=k
   have eB:pR w=((a1,a2,a3),a4,a5,a6,a7.set (it (bX f)) (b1,b2,b3,(b4,b5),b6),a8,a9,a10++[(aW f,bX f,gS f)],a11):=by
    rw[Ar,aj (hh3▸k),eA,A.eF,← hv];rfl
   exact⟨by rw[E10];simp only[eI];omega,_,eB.symm,aI⟩
  .have k:=k
   have eB:pR w=((a1,a2,a3),a4,a5,a6,a7.set (it (bX f)) (b1,b2,b3,(b4,b5),b6),a8,a9,a10,a11):=by
    rw[Ar,ah (hh3▸k),eA,← hv];rfl
   exact⟨_,eB.symm,aI⟩
  rintro B rfl
  have eBn:dZ (pR w)=dZ w:=by rw[Ar];show dZ (AO w)=_;rw[eA];exact E11
  refine⟨aw (λk=>?_) (λk=>?_),?_⟩
  .have k:=jC k
   refine⟨by show (be (dZ (pR w)):Int)<=_;rw[eBn];omega,ke w,rfl,?_⟩
   have eC:ke w=Q0 (pR w) (dZ (pR w)++[(qB f,aW f,bX f,ju f,why)]):=by rw[CZ,aj (hh3▸k),A.eF,← hh3,eBn,← A.en]
   rw[eC]
   exact aI
  .have k:=jx k
   refine⟨ke w,rfl,?_⟩
   have eC:ke w=pR w:=by unfold ke;rw[ah (by rw[← hh3,k];simp)]
   rw[eC]
   exact aI
  rintro C rfl
  have eCe:∃ l,dZ (ke w)=l/\(be l:Int)<=1000000000000:=by
   refine⟨_,rfl,?_⟩
   rw[CZ]
   show (be (if (mL w).2.2≠0 then dZ (gb w)++[(qB (ky w),aW (ky w),bX (ky w),ju (ky w),(mL w).2.2)] else dZ (gb w)):Int)<=_
   rw[A.en]
   split
   .rw[bM,eI];omega
   .omega
  have ⟨l,el,hl⟩:=eCe
  have c1:aH (ke w)=aH w:=by rw[CZ,Ar];exact A.net
  have c2:aL (ke w)=aL (gb w):=by rw[CZ,Ar];rfl
  have c3:dc (ke w)=dc (gb w):=by rw[CZ,Ar];rfl
  have c4:iD (ke w)=iD (gb w):=by rw[CZ,Ar];rfl
  have hO:=hh2.symm
  refine ci (λk=>?_) (λk=>?_)
  .have k:=k
   have ⟨k1,k2,k3⟩:=A.out (by rw[hO];show 0<be o2;omega)
   rw[hO] at k1 k2 k3
   refine⟨by show (aL (ke w)).Pairwise iS;rw[c2];exact A.s.fl,?_,by show be (aL (ke w))<=4096;rw[c2];exact A.s.fn,by show (be (dZ (ke w)):Int)<=_;rw[el];exact hl,by show be (iD (ke w))=(aH (ke w)).2.1.length;rw[c4,c1,← A.net];exact A.s.cl,k1,by rw[c1];exact k2,by show oM (aH (ke w)).1.length ((aH (ke w)).2.1.getD (it o1) Sk);rw[c1];exact k3,?_⟩
   .show ∀ x∈aL (ke w),pO x<dc (ke w)
    rw[c2,c3]
    exact λx hx=>(A.s.fo x hx).o.2
   .rw[So,hO,aj (by show 0<be o2;omega),A.eF]
    rfl
  .have k:=k
   rw[So,hO,ah (by show ¬ 0<be o2;omega)]
   rfl
theorem bs3:aC 61 Wy.spec:=aF Tryz.func61 (Gx (ap (ap (ap (ap aD (Ct.named Wv)) (Ct.named aY6)) UT) aR6) (d:=17)) bv0 bK6
def EA(n:Net):aN:=if iR n=0 then Aq n else LA
def uL(w:aN):Int:=if aL w=[] then 0 else aW ((aL w).headD Sk)
def uN(w:aN):Bool:=bZ2 (aL w≠[])
def nW(w:aN)(at' who:Int):Int:=if who<0∨((aH w).1.length:Int)<=who then 8 else if 1125899906842624<at' then 1 else if at'<ce w then 6 else if (4096:Int)<=be (aL w) then 5 else 0
def uS(w:aN)(at' who:Int)(b:ad):aN:=if nW w at' who=0 then uh w at' who b else LA
def uk(w:aN)(at' who:Int):Int:=if nW w at' who=0 then dc w else 0
def qx(w:aN)(to:Int):Int:=if 1125899906842624<to then 1 else if to<ce w then 6 else 0
def yF(w:aN)(to:Int):aN:=if qx w to=0 then pB w to else LA
def Uq:Ct:=⟨[.agg l7],[.agg qV,.val cI],λd=>[we d.1],λd=>((EA d.1,iR d.1,()),())⟩
def bG1:bw Uq.ps->bL:=(λd=>{loops:=(bu 6 (λS=>{ι:=Int×(List NState),qn:=fH,μ:=λi=>it (be d.1.1-i.1),inv:=λi=>0<=i.1/\i.1<=be d.1.1/\i.2=(d.1.1.take (it i.1)).map sZ,keep:=[1,2,5,22,23],slots:=λi=>[(24,.int .i64 i.1)],keepN:=[32,48,320],names:=λi=>[(96,.live (.cells 41 (cF l7 d.1++[.int .i64 0,.int .i64 0,.int .i64 0,.own 524288 6,.own 320 1,.nilsl,.nilsl,.nilsl]))),(524288,.live (.row 161 tv i.2))]}) cC)})
def uq:=((([]:List au),([]:List bo),([]:List cH)),(0:Int),(0:Int),(0:Int),([]:List NState),([]:ad),([]:List Flight),([]:List kQ),([]:List lD))
def Qc(a:List au)(b:Int):=[(bW (ae a b),(0:Int),replicate (be (aS (ae a b))) (0:Int),(w ((ae a b).2.2.2.2.2.2.2.2.2.2.1.1*(ae a b).2.2.2.2.2.2.2.2.2.2.1.2),(0:Int)),(0:Int))]
def Iw(a:Int)(b:List au)(c:List NState):=am a (a<=ac b) (c=cg4 sZ (take (it a) b))
theorem au7:
 ∀(a:List au)(b:List bo)(c:List cH),ai (gA a b c)->JR a b c->Ca c/\ar ( !aV (iR (a,b,c))) (uq=EA (a,b,c)/\iR (a,b,c)=iR (a,b,c)) (we (a,b,c)/\bt (ac b) (ac b) (uT ((↑((8:Nat)):Int)*ac b)) ((∃(d:Int) (e:List NState),Iw d a e/\a=a/\ac a=ac a/\0=d/\dX a b (c=c) (bN 0 0 0 (replicate (it (ac b)) (0:Int)=replicate (it (ac b)) (0:Int)) (dX a b (c=c) (bN 0 0 0 (e=[]) True))))/\ ∀(d:Int)(e:List NState),Iw d a e->fh d (ac a) (d<ac a) (okL (bW (ae a d))/\pM (ac (aS (ae a d))) (bP ((be e+be (Qc a d))*80)) (∃(f:Int) (g:List NState),Iw f a g/\DD a f d b (c=c) (bN 0 0 0 (replicate (it (ac b)) (0:Int)=replicate (it (ac b)) (0:Int)) (dX a b (c=c) (bN 0 0 0 (e++Qc a d=g) True))))) (((a,b,c),0,0,0,e,replicate (it (ac b))
 0,[],[],[])=EA (a,b,c)) (0=iR (a,b,c)))):= by
  delta ae ac ao aq aK bN bp gA mP c9 dB aO cS jH bG aT bj am bP uq aV fh bt ai dX bf kx cN Qc JR mw Ca ax bn DD pM Iw uT
  rintro ns ls hs ⟨⟨⟨hl0,-⟩,⟨hl1,-⟩,-⟩,-⟩⟨h1,h2,h3,h4,h5⟩
  have h1:=h1
  have h2:=h2
  refine⟨h5,aw (λh=>?_) (λh=>?_)⟩
  .have h:=jC h
   exact⟨by unfold EA;rw[ah h];rfl,by trivial⟩
  have h:=jx h
  refine⟨⟨h1,h2,h3,h4,h5⟩,ab,ab,ab,⟨0,[],⟨ab,ab,rfl⟩,aI⟩,?_⟩
  rintro j st ⟨j0,j1,rfl⟩
  refine ci (λhj=>?_) (λhj=>?_)
  .have hx:=h4 _ (dm j0 hj)
   refine⟨j0,hj,hx.2,hx.1,by simp only[kW,eM,eI];omega,j+1,_,⟨ab,ab,rfl⟩,ab,?_⟩
   (repeat refine ik ?_)
   refine⟨?_,aP⟩
   rw[qZ j0 hj,kJ]
   rfl
  .refine⟨?_,h.symm⟩
   unfold EA Aq
   rw[aj h,gN ab]
   rfl
theorem bv2:aC 22 Uq.spec:=aF Tryz.func22 (ap (ap (ap aD aw3) TQ) aI2) bG1 au7
def bE8:Ct:=⟨[.agg qV],[.val cI,.val .bool],λ_=>[],λd=>((uL d.1,uN d.1,()),())⟩
theorem a31:
 ∀(a:af1),dW (CT.wf qV a) (ar (aV (ac a.2.2.2.2.2.2.1)) (0=uL a/\bZ6=uN a) (bJ 0 (ac a.2.2.2.2.2.2.1) ((ae a.2.2.2.2.2.2.1 0).1=uL a) (bZ3=uN a))):= by
  delta ae ac am aV ai bJ dW
  intro d _ _
  have eF:d.2.2.2.2.2.2.1=aL d:=rfl
  rw[eF]
  unfold uL uN
  cases e:aL d with
  | nil=>exact⟨rfl,rfl⟩
  | cons f r=>exact⟨ab,by simp only[cX];omega,rfl,rfl⟩
theorem ar7:aC 60 bE8.spec:=aF Tryz.func60 aD aU a31
def bC7:Ct:=⟨[.agg qV,.val cI,.val cI,.val (.sl bm)],[.agg qV,.val cI,.val cI],λd=>[ry d.1,(be d.2.2.2.1:Int)<=1000000],λd=>((uS d.1 d.2.1 d.2.2.1 d.2.2.2.1,uk d.1 d.2.1 d.2.2.1,nW d.1 d.2.1 d.2.2.1,()),())⟩
theorem aN7:
 ∀(a:af1)(b c:Int)(d:ad),CT.wf qV a/\bG b c (aQ d) True->ry a/\bV d->CR (dH c) (bZ2 (ac a.1.1<=c)) (uq=uS a b c d/\0=uk a b c/\8=nW a b c) (ar (vx b) (uq=uS a b c d/\0=uk a b c/\1=nW a b c) (ar (ax b a.2.1) (uq=uS a b c d/\0=uk a b c/\6=nW a b c) (ar (bZ2 (4096<=ac a.2.2.2.2.2.2.1)) (uq=uS a b c d/\0=uk a b c/\5=nW a b c) (Dx a/\aT d/\cg8 iS (aL a)/\(∀(e:Flight),e∈aL a->pO e<dc a)/\be (aL a)<=4096/\(a.1,a.2.1,ao (dc
 a+1),a.2.2.2.1,a.2.2.2.2.1,a.2.2.2.2.2.1,iV (aL a) (aW (b,0,c,(-1),a.2.2.1,d),dc a,c,(-1),a.2.2.1,d),a.2.2.2.2.2.2.2)=uS a b c d/\a.2.2.1=uk a b c/\0=nW a b c)))):= by
  delta ac ao aq aK aQ bR aJ bG aT bq cV bv gq uq bV ai dA dH vx CR ax
  rintro d t who b-⟨hE,hb⟩
  (repeat (refine cL ?_;repeat refine cK ?_))
  refine uH (λho=>?_) (λq1 q2=>?_)
  .have e:nW d t who=8:=by unfold nW;rw[aj (by obtain q|q:=ho;exact .inl (aX q);exact .inr (aX q))]
   unfold uS uk
   rw[e]
   exact⟨rfl,rfl,rfl⟩
  have q1:=bg q1
  have q2:=bg q2
  have h:=hE.resolve_right λq=>by
   have q3:d.1.1=[]:=by rw[q.1];rfl
   rw[q3] at q2;simp at q2;omega
  have hfn:=h.s.fn
  have e1:nW d t who=if 1125899906842624<t then 1 else if t<ce d then 6 else if (4096:Int)<=be (aL d) then 5 else 0:=by
   unfold nW;rw[ah (by rintro (q|q);exact q1 q;exact q2 q)]
  refine aw (λk=>?_) (λk=>?_)
  .have e:nW d t who=1:=by rw[e1,aj (aX k)]
   unfold uS uk
   rw[e]
   exact⟨rfl,rfl,rfl⟩
  rw[ah (bg k)] at e1
  refine aw (λk=>?_) (λk=>?_)
  .have k:t<ce d:=aX k
   have e:nW d t who=6:=by rw[e1,aj k]
   unfold uS uk
   rw[e]
   exact⟨rfl,rfl,rfl⟩
  have k:¬ t<ce d:=bg k
  rw[ah k] at e1
  refine aw (λk=>?_) (λk=>?_)
  .have k:(4096:Int)<=be (aL d):=aX k
   have e:nW d t who=5:=by rw[e1,aj k]
   unfold uS uk
   rw[e]
   exact⟨rfl,rfl,rfl⟩
  have k:¬ (4096:Int)<=be (aL d):=bg k
  rw[ah k] at e1
  unfold uS uk
  rw[e1]
  exact⟨h.cp,ab,h.s.fl,λx hx=>(h.s.fo x hx).o.2,hfn,rfl,rfl,rfl⟩
theorem aj2:aC 29 bC7.spec:=aF Tryz.func29 (ap (ap (ap aD Rz) tj) WU) aU aN7
def YL:Ct:=⟨[.agg qV,.val cI],[.agg qV,.val cI],λd=>[ry d.1],λd=>((yF d.1 d.2.1,qx d.1 d.2.1,()),())⟩
def aE8:bw YL.ps->bL:=(λd=>{loops:=(bu 7 (λS=>{ι:=aN×Int×Bool,qn:=oB,μ:=λi=>lR i.1,inv:=λi=>ry i.1/\fW i.1 d.2.1=fW d.1 d.2.1/\i.2.1=uL i.1/\i.2.2=uN i.1,keep:=[1,2,4],slots:=λi=>[(6,.int .i64 i.2.1),(7,.bool i.2.2)],keepN:=[80],names:=λi=>[(48,.live (.cells 41 (cF l7 (aH i.1)++[.int .i64 (ce i.1),.int .i64 (dc i.1),.int .i64 (d8 i.1),.own 524288 6,.own 524289 1,.own 524290 6,.own 524291 3,.own 524292 5]))),(524288,.live (.row 161 tv (dD i.1))),(524289,.live (.row 3 cI (iD i.1))),(524290,.live (.row 183 qe (aL i.1))),(524291,.live (.row 175 Bf (bO i.1))),(524292,.live (.row 233 Bz (dZ i.1)))]}) cC)})
theorem bd8:
 ∀(a:af1)(b:Int),CT.wf qV a/\ai (aq b)->B1 a∨vz a->ar (vx b) (uq=yF a b/\1=qx a b) (ar (ax b a.2.1) (uq=yF a b/\6=qx a b) (Dx a/\(∃(c:aN) (d:Int) (e:Bool),(ry c/\fW c b=fW a b/\d=uL c/\e=uN c)/\bn b b (uL a) d (uN a=e) (bN 0 0 0 (a.1.1=(aH c).1) (a.1.2.1=(aH c).2.1/\a.1.2.2=(aH c).2.2/\bn a.2.1 (ce c) a.2.2.1 (dc c) (a.2.2.2.1=d8 c) (a.2.2.2.2.1=dD c/\a.2.2.2.2.2.1=iD c/\a.2.2.2.2.2.2.1=aL c/\a.2.2.2.2.2.2.2.1=bO c/\ai (a.2.2.2.2.2.2.2.2=dZ c)))))/\
 ∀(c:aN)(d:Int)(e:Bool),ry c/\fW c b=fW a b/\d=uL c/\e=uN c-> ∀(f:Bool),f=e->(f->dA f)/\(f->f)/\ar (br f (bZ2 (d<=b))) (B1 (aH c,c.2)/\aL (aH c,c.2)≠[]/\ ∃(g:aN) (h:Int) (i:Bool),(ry g/\fW g b=fW a b/\h=uL g/\i=uN g)/\lR g<lR c/\bn b b (uL (eO (aH c,c.2))) h (uN (eO (aH c,c.2))=i) (bN 0 0 0 ((eO (aH c,c.2)).1.1=(aH g).1) ((eO (aH c,c.2)).1.2.1=(aH g).2.1/\(eO (aH c,c.2)).1.2.2=(aH g).2.2/\bn (eO (aH c,c.2)).2.1 (ce g) (eO (aH c,c.2)).2.2.1 (dc g) ((eO (aH c,c.2)).2.2.2.1=d8 g) ((eO (aH c,c.2)).2.2.2.2.1=dD g/\(eO (aH c,c.2)).2.2.2.2.2.1=iD g/\(eO (aH c,c.2)).2.2.2.2.2.2.1=aL g/\(eO (aH c,c.2)).2.2.2.2.2.2.2.1=bO g/\ai ((eO (aH c,c.2)).2.2.2.2.2.2.2.2=dZ g))))) (yN (aH c,b,c.2.2)/\dh (aH c,b,c.2.2)=yF a b/\0=qx a b))):= by
  delta aq aK bN bp aJ br uq ai dA vx ax bn
  rintro d to-h
  have h:ry d:=h
  refine aw (λk=>?_) (λk=>?_)
  .have k:=aX k
   have e:qx d to=1:=by unfold qx;rw[aj k]
   unfold yF
   rw[e]
   exact⟨rfl,rfl⟩
  have k:=bg k
  refine aw (λq=>?_) (λq=>?_)
  .have q:to<ce d:=aX q
   have e:qx d to=6:=by unfold qx;rw[ah k,aj q]
   unfold yF
   rw[e]
   exact⟨rfl,rfl⟩
  have q:¬ to<ce d:=bg q
  have e:qx d to=0:=by unfold qx;rw[ah k,ah q]
  have hnow:0<=ce d:=by obtain q|q:=h;exact q.s.now.1;exact q.2.1
  have hnq:ce d<=to:=ab
  refine⟨h.cp,⟨d,_,_,⟨h,rfl,rfl,rfl⟩,aI⟩,?_⟩
  rintro v t ok ⟨hv,he,rfl,rfl⟩
  have hv:=hv
  (repeat (refine cL ?_;repeat refine cK ?_))
  have eB:(bif uN v then bZ2 (uL v<=to) else bZ6)=fE v to:=by
   unfold uN uL fE
   cases aL v with
   | nil=>rfl
   | cons f r=>rfl
  rw[eB]
  refine aw (λhb=>?_) (λhb=>?_)
  .cases ef:aL v with
   | nil=>unfold fE at hb;rw[ef] at hb;cases hb
   | cons f r =>
    have hv:=hv.fl (by rw[ef];simp)
    have ⟨s1,s2⟩:=hv.step ef
    exact⟨hv,by show aL v≠[];rw[ef];simp,eO v,_,_,⟨.inl s1,(PZ hv.s.weak hb).symm.trans he,rfl,rfl⟩,s2,aI⟩
  .have hR:fW d to=v:=by rw[← he];exact ON hb
   refine⟨by obtain q|q:=hv;exact .inl (q.s.wait hb ⟨ab,ab⟩).weak;exact q.ch to,?_,e.symm⟩
   unfold yF
   rw[aj e]
   show dh (cQ v to)=dh (cQ (fW d to) to)
   rw[hR]
theorem aS5:aC 26 YL.spec:=aF Tryz.func26 (ap (ap (ap (ap aD Rz) ar7) bs3) Wv) aE8 bd8
def ad1(k:Int)(x:au):Prop:=(be x.1:Int)<=k/\be (bW x)<=k∧∀ r∈bW x,(be r.2.1:Int)<=k
def Zu(k:Int)(n:Net):Prop:=(be n.1:Int)<=k/\(be n.2.1:Int)<=k/\(be n.2.2:Int)<=k/\(∀ x∈n.1,ad1 k x)∧∀ c∈n.2.2,(be c.2.2.2.2.1:Int)<=k
theorem DN.nb{n:Net}(h:DN n):Zu 1000 n:=by
 have n7:=h.n7
 have l10:=h.l10
 have h3:=h.h3
 refine⟨ab,ab,ab,λx hx=>?_,λc hc=>?_⟩
 .obtain⟨i,hi,rfl⟩:=cb5.1 hx;have e:Om n.1 i Sk=n.1[i]:=by rw[cq,cG hi,iA]
  have p:=h.p i hi;have t:=h.t i hi;rw[e] at p t;have hl:=Fc i 0 n.2.1;rw[← p] at hl;have hl:(n.1[i]).1.length<=2*be n.2.1:=hl;have h20:=YH t;exact⟨ab,ab,λr hr=>by have:=M0 (t.2 r hr);omega⟩
 .obtain k|⟨q,-,k⟩:=(h.c c hc).x
  .have k:c.2.2.2.2.1=[]:=k;rw[k];simp
  .have k:c.2.2.2.2.1=[q.2]:=k;rw[k];simp
theorem Wq{k:Int}{n:Net}(h:Zu k n)(hk:k<=1000000):we n:=by
 have ⟨h1,h2,h3,h4,h5⟩:=h
 refine⟨ab,ab,ab,λx hx=>?_,λc hc=>?_⟩
 .have ⟨a,b,c⟩:=h4 x hx;exact⟨by show (be x.1:Int)<=1000000;omega,ab,λr hr=>by have:=c r hr;omega⟩
 .have:=h5 c hc;show (be c.2.2.2.2.1:Int)<=_;omega
theorem eU.new{n:Net}{B:Int}(h:iR n=0)(ha:C2 n)(hc:we n)(h0:0<=B)(h1:B<=549755813888):eU B (Aq n):=by
 have e:lR (Aq n)=0:=rfl
 exact⟨h1,by rw[e];exact (dR.new h).more ab,ha,hc,λx hx=>(by cases hx),by rw[e];show ((0:Nat):Int)+2*((0:Nat):Int)<=B;omega,by rw[e];show ((0:Nat):Int)+((0:Nat):Int)<=B;omega⟩
theorem bX1{n:Net}{f:Flight}(hb:bytes (gS f)):s8 n f<=1114:=by
 have:=XM hb
 unfold s8
 have h1:(if gB (Om n.1 (it (bX f)) Sk)=bZ3 then 1 else 0)<=1:=by split <;> omega
 have h2:(if ju f = -1 then 2 else 0)<=2:=by split <;> omega
 have h3:(if fJ (gS f) then 600 else 0)<=600:=by split <;> omega
 omega
theorem eU.send{w:aN}{B:Int}(h:eU B w)(hB:B+4000<=549755813888){at' who:Int}{b:ad}(he:nW w at' who=0)(hb:bytes b)(hl:(be b:Int)<=2000) :
  eU (B+4000) (uh w at' who b)/\dc (uh w at' who b)=dc w+1/\aH (uh w at' who b)=aH w:=by
 unfold nW at he
 split at he
 .cases he
 rename_i q1
 split at he
 .cases he
 rename_i q2
 split at he
 .cases he
 rename_i q3
 split at he
 .cases he
 rename_i q4
 have ⟨s1,s2⟩:=h.sB.send ab (at':=at') (who:=who) (b:=b) ⟨ab,ab⟩ ⟨ab,ab⟩ hb hl ab
 have hp:lR (uh w at' who b)=lR w+s8 (aH w) (at',dc w,who,-1,dc w,b):=XB _ _ _
 have hf:s8 (aH w) (at',dc w,who,-1,dc w,b)<=1114:=bX1 hb
 have h1:=h.e
 have h2:=h.d
 exact⟨⟨hB,s1.more ab,h.a,h.c,h.dd,by show (be (dZ w):Int)+_<=_;omega,by show (be (bO w):Int)+_<=_;omega⟩,s2,rfl⟩
theorem DN.newOk{n:Net}(h:DN n)(hp:∀ i,i<be n.1->0<be (aS (Om n.1 i Sk))):eU 4000 (Aq n):=eU.new (h.right hp) (λi hi=>ak7 h hi) (Wq h.nb aB) aB aB
theorem eU.wait{v:aN}{B to:Int}(h:eU B v)(hb:fE v to=bZ6)(ha:0<=to/\to<=1125899906842624):eU B (cQ v to):=⟨h.b,h.sB.wait hb ha,h.a,h.c,h.dd,h.e,h.d⟩
theorem eU.runs{w:aN}{B to:Int}(h:eU B w)(ha:0<=to/\to<=1125899906842624):eU B (pB w to):=by
 obtain⟨k1,k2,-⟩:=h.run (to:=to) _ (dq _)
 exact (k1.wait k2 ha).change
theorem YR{to:Int}(h0:0<=to):∀{l:List Flight},(∀ f∈l,0<=aW f)->gm to l<=be l*it (to+1)
 | [],_=>by simp[gm]
 | f::r,h=>by
  have h1:=h f eV;have h2:=YR h0 (l:=r) λx hx=>h x (fu _ hx);rw[sN,cX,Nat.succ_mul];omega
structure Eb (a b:Int) (l:List Del):Prop where
 p:l.Pairwise λx y=>x.1<=y.1
 t:∀ x∈l,(a<=x.1/\x.1<=b)/\(be x.2.2:Int)<=2000
 b:∀ x∈l,bytes x.2.2
theorem Eb.nil{a b:Int}:Eb a b []:=⟨ce6,λx hx=>(by cases hx),λx hx=>(by cases hx)⟩
theorem eU.step_dl{B:Int}{w:aN}(h:eU B w){f:Flight}{r:List Flight}(e:aL w=f::r):ce (eO w)=aW f/\ce w<=aW f/\(bO (eO w)=bO w∨bO (eO w)=bO w++[(aW f,bX f,gS f)])/\(be (gS f):Int)<=2000/\bytes (gS f)/\be (aL (eO w))<=be (aL w):=by
 have a:=h.at e
 have es:eO w=jS (gb w) f:=by rw[← a.eF];rfl
 have hf:=h.s.fo f (by rw[e];exact eV)
 obtain⟨-,k2,k3⟩:=WC a.s.weak a.fk.wk
 refine⟨by rw[es];exact k2.trans a.now,hf.t.1,?_,hf.d,hf.b,?_⟩
 rotate_left
 .rw[es,e,cX];obtain q|⟨g,-,q⟩:=k3
  .rw[q,a.fl];exact VG _
  .rw[q,FE,a.fl];exact dq _
 have k:=RB (gb w) f
 rw[es,← a.dl]
 exact k
theorem eU.run_dl{B to:Int}:∀(n:Nat){w:aN},eU B w->lR w<=n→∃ l,bO (fW w to)=bO w++l/\Eb (ce w) to l/\be (aL (fW w to))<=be (aL w)
 | n,w,h,hn=>by
  cases hb:fE w to with
  | false=>rw[ON hb];exact⟨[],(iX _).symm,.nil,dq _⟩
  | true =>
   rw[PZ h.s.weak hb];cases e:aL w with
   | nil=>unfold fE at hb;rw[e] at hb;cases hb
   | cons f r =>
    obtain⟨k1,k2⟩:=h.step e;have ⟨d1,d2,d3,d4,d5,d6⟩:=h.step_dl e;have hto:aW f<=to:=by unfold fE at hb;rw[e] at hb;exact aX hb
    cases n with
    | zero=>omega
    | succ n =>
     have ⟨l,e1,ho,ho2⟩:=eU.run_dl (to:=to) n k1 ab;rw[← e];have ho2:=tz ho2 d6;rw[d1] at ho;have hl:∀ x∈l,(ce w<=x.1/\x.1<=to)/\(be x.2.2:Int)<=2000:=λx hx=>by have:=ho.t x hx;omega
     obtain q|q:=d3
     .exact⟨l,by rw[e1,q],⟨ho.p,hl,ho.b⟩,ho2⟩
     .refine⟨(aW f,bX f,gS f)::l,by rw[e1,q,fV];rfl,⟨ca4.2 ⟨λx hx=>(ho.t x hx).1.1,ho.p⟩,λx hx=>?_,λx hx=>?_⟩,ho2⟩
      .obtain rfl|hx:=dO.1 hx
       .exact⟨⟨d2,hto⟩,d4⟩
       .exact hl x hx
      .obtain rfl|hx:=dO.1 hx
       .exact d5
       .exact ho.b x hx
theorem eU.runs_dl{B to:Int}{w:aN}(h:eU B w):∃ l,bO (pB w to)=bO w++l/\Eb (ce w) to l/\be (aL (pB w to))<=be (aL w):=by
 have ⟨l,e,ho,ho2⟩:=h.run_dl (to:=to) _ (dq _)
 exact⟨l,((z4 _).2.2.2.1).trans e,ho,by rw[show aL (pB w to)=aL (fW w to) from (z4 _).2.1];exact ho2⟩
theorem aO6(w:aN)(to:Int):ce (pB w to)=to:=(z4 _).2.2.2.2.2
theorem eU.net{B to:Int}{w:aN}(h:eU B w):aH (pB w to)=aH w:=(z4 _).1.trans (h.run (to:=to) _ (dq _)).2.2.1
theorem eU.two{B a b:Int}{w:aN}(h:eU B w)(h0:ce w<=a)(hab:a<=b)(hb:b<=1000000):pB (pB w a) b=pB w b:=by
 have hn:=h.s.now
 have hw:=YR (to:=b) ab (l:=aL w) λf hf=>by have:=(h.s.fo f hf).t;omega
 have hf:=h.s.fn
 have hm:be (aL w)*it (b+1)<=4096*1000001:=Nat.mul_le_mul hf ab
 exact a20 h.s ab hab ab ab
structure vq (n:Net):Prop where
 d:DN n
 p:∀ i:Nat,i<be n.1->0<be (aS (Om n.1 i Sk))
theorem W8{n:Net}(h:vq n):(i5 n).2/16777216=10:=by
 have n3:=h.d.n3
 have hp:=h.p 0 ab
 unfold i5
 rw[ah ab]
 show zR n.1 (qL n.1 (be n.1-1))/16777216=10
 have key:∀ k,k<be n.1->(0<=qL n.1 k/\qL n.1 k<be n.1)/\0<be (aS (Om n.1 (it (qL n.1 k)) Sk)):=by
  intro k
  induction k with
  | zero=>intro _;exact⟨⟨io _,by show (0:Int)<_;omega⟩,hp⟩
  | succ k ih =>
   intro hk;unfold qL;split
   next q=>exact⟨⟨Int.natCast_nonneg _,ab⟩,q.2⟩
   .exact ih ab
 have ⟨⟨k0,k1⟩,kp⟩:=key (be n.1-1) ab
 have:=h.d.padr (i:=it (qL n.1 (be n.1-1))) ab (a:=zR n.1 (qL n.1 (be n.1-1))) (cc1.2 ⟨_,rP kp,rfl⟩)
 omega
theorem Ur{n:Net}(h:vq n){t:Int}(ht:1<=t/\t<=1073741824):py 0 0 (i5 n).1 t=0:=by
 have n3:=h.d.n3
 have hp:=h.p 0 ab
 have e:(i5 n).1=zR n.1 0:=by unfold i5;rw[ah ab]
 have:=h.d.padr (i:=0) ab (a:=zR n.1 0) (cc1.2 ⟨_,rP hp,rfl⟩)
 unfold py
 rw[e,ah (λk=>k ⟨⟨aB,aB⟩,aB,ht.1,ht.2⟩),ah (λk=>k (Ht ab))]
theorem bL0(v:ct)(t:Int)(b:ad):(mA v t b).2.2.1=v.2.2.1:=by unfold mA;split <;> rfl
theorem bf3{w:aN}{t:Int}(h:ce w<=t)(ht:t<=1125899906842624):qx w t=0:=by unfold qx;rw[ah ab,ah ab]
theorem aq8{v:ct}{L:List dE}{m:Nat}{t a b c d:Int}(h:kI v L m t)(hn:v.2.2.1<=1000):(∃ L' e,kI (mN v t a b c d) L' e t)/\(mN v t a b c d).2.2.1<=1000:=by
 unfold mN
 split
 next h0=>obtain⟨e,v',-⟩:=h.expire (io _) h.now.2;refine⟨⟨_,_,v'.add⟩,?_⟩;show v.2.2.1+1<=1000;unfold nE at h0;omega
 .grind
theorem Vi(v:ct)(t a b c d:Int):bytes (sj v t a b c d)/\(be (sj v t a b c d):Int)<=2000:=by
 unfold sj
 split
 .exact⟨TR _,by have:=bh7 (wh v a b c d (uB v.2.1 v.2.2.1));omega⟩
 .exact⟨λx hx=>(by cases hx),aB⟩
structure LO (a:oE):Prop where
 f:0<=a.1/\a.1<=4294967295
 k:1<=a.2.1/\a.2.1<=5
 n:(0<=a.2.2.1/\a.2.2.1<=255)/\(0<=a.2.2.2.1/\a.2.2.2.1<=255)/\(0<=a.2.2.2.2.1/\a.2.2.2.2.1<=65535)/\(0<=a.2.2.2.2.2/\a.2.2.2.2.2<=255)
theorem Pf{b:ad}(h:bytes b)(i:Nat):0<=Om b i Sk/\Om b i Sk<=255:=by
 by_cases hi:i<be b
 .exact G5 h hi
 .rw[cq,AH ab];exact⟨aB,aB⟩
theorem a21{b:ad}(h:bytes b):0<=(oR b).1.2.2.2.2.2/\(oR b).1.2.2.2.2.2<=255:=by
 unfold oR
 split
 .exact Pf h 8
 .exact⟨aB,aB⟩
theorem ab8{b:ad}(h:bytes b)(hp:(kr b).2.2=bZ3):(1<=(kr b).2.1.2.1/\(kr b).2.1.2.1<=5)/\(0<=(kr b).2.1.2.2.1/\(kr b).2.1.2.2.1<=255)/\(0<=(kr b).2.1.2.2.2.2.2/\(kr b).2.1.2.2.2.2.2<=255):=by
 have hd:bytes (b.drop 20):=yx h
 have no:¬ C6.2.2=true:=aB
 revert hp
 unfold kr
 split
 .unfold o4;split
  .intro _;show (1<=(2:Int)/\(2:Int)<=5)/\(0<=(0:Int)/\(0:Int)<=255)/\0<=(0:Int)/\(0:Int)<=255;decide
  .intro q;exact absurd q no
 split
 .unfold lW;split
  .rename_i hn;intro _;have e:mB (b.drop 20)=(Om (b.drop 20) (it 0) Sk,Om (b.drop 20) (it 1) Sk,(b.drop 20).drop 8):=by unfold mB;rw[aj hn]
   rw[e];refine⟨?_,Pf hd _,a21 (yx hd)⟩;show 1<=vP _ _/\vP _ _<=5;unfold vP
   (repeat' split) <;> decide
  .intro q;exact absurd q no
 split
 .unfold pz;split
  .intro _;show (1<=(4:Int)/\(4:Int)<=5)/\(0<=(0:Int)/\(0:Int)<=255)/\0<=(0:Int)/\(0:Int)<=255;decide
  .intro q;exact absurd q no
 .intro q;exact absurd q no
theorem aA3{b:ad}(h:bytes b)(e:oU b=0):LO (fN b).2:=by
 have hg:=co1 λk=>by unfold oU at e;rw[ah k] at e;cases e
 have ⟨p1,p2,p3⟩:=ab8 h hg.2.1
 unfold fN
 rw[aj hg]
 exact⟨y9 h 12,p1,p2,Pf h 8,rI h 4,p3⟩
structure Gz (x:dE):Prop where
 d:0<=x.1.2.1/\x.1.2.1<=4294967295
 p:x.1.2.2.1=1∨x.1.2.2.1=6∨x.1.2.2.1=17
 f:0<=x.1.2.2.2.1/\x.1.2.2.2.1<=1023
 l:1<=x.1.2.2.2.2.2/\x.1.2.2.2.2.2<=255
 a0:x.2.2.2.1=bZ6->x.2.2.2.2.1=bZ6/\x.2.2.2.2.2.2=AE
 a1:x.2.2.2.1=bZ3->LO x.2.2.2.2.2.2
theorem Gz.upd{x:dE}(h:Gz x){at':Int}{a:oE}(ha:LO a):Gz (mY at' a x):=by
 unfold mY
 split
 .exact⟨h.d,h.p,h.f,h.l,λq=>(by cases q),λ_=>ha⟩
 next h1=>
  have h1:x.2.2.2.1=true:=by cases q:x.2.2.2.1 with|true=>rfl|false=>exact absurd q h1
  split
  .exact⟨h.d,h.p,h.f,h.l,λq=>(by rw[h1] at q;cases q),λ_=>h.a1 h1⟩
  .exact h
structure qy (v:ct):Prop where
 w:∀ x∈vW v,Gz x
 r:∀ r∈vR v,mo r
 i:v.1=0/\v.2.1=0
theorem Y1{v:ct}{L:List dE}{m:Nat}{t:Int}(h:kI v L m t)(k:qy v)(hn:v.2.2.1<=1000){x:dE}(hx:x∈vW v):mo (na v x):=by
 have hp:=k.w x hx
 have hL:x∈L:=by rw[h.w] at hx;exact Al hx
 obtain⟨i,hi,rfl⟩:=cb5.1 hL
 have num:=h.num i hi
 have hat:=h.at0 _ (cc3 hi)
 have hbk:=h.back _ (cc3 hi)
 have hnx:=h.next
 have htt:1<=v.2.2.2.2.1/\v.2.2.2.2.1<=1073741824:=h.t
 have hnw:=h.now
 have ⟨i0,i1⟩:=k.i
 generalize L[i]=x at *
 have hat:0<=x.2.2.1/\x.2.2.1<=t:=hat
 have hb:x.2.2.1<=(if x.2.2.2.1=bZ3 then x.2.2.2.2.2.1 else bZ4.wrap (x.2.2.1+v.2.2.2.2.1))/\(if x.2.2.2.1=bZ3 then x.2.2.2.2.2.1 else bZ4.wrap (x.2.2.1+v.2.2.2.2.1))<=2251799813685248:=by
  split
  next q=>have q:x.2.2.1<=x.2.2.2.2.2.1/\x.2.2.2.2.2.1<x.2.2.1+v.2.2.2.2.1:=hbk q;omega
  .rw[aG ab ab];omega
 have af:0<=x.2.2.2.2.2.2.1/\x.2.2.2.2.2.2.1<=4294967295:=by
  cases e:x.2.2.2.1 with
  | true=>exact (hp.a1 e).f
  | false=>rw[(hp.a0 e).2];exact⟨aB,aB⟩
 refine⟨⟨by show 0<=v.1;omega,by show v.1<=15;omega⟩,⟨by show 0<=v.2.1;omega,by show v.2.1<=63;omega⟩,⟨by show 0<=x.2.1;omega,by show x.2.1<=999;omega⟩,⟨hat.1,hb.1,hb.2⟩,hp.d,hp.p,hp.f,hp.l,hp.a0,af,λq=>(hp.a1 q).k,?_⟩
 cases e:x.2.2.2.1 with
 | true=>exact (hp.a1 e).n
 | false =>
  have q:=(hp.a0 e).2;show (0<=x.2.2.2.2.2.2.2.2.1/\_)/\_;rw[show fT (na v x)=x.2.2.2.2.2.2 from rfl,q];decide
theorem qy.expire{v:ct}{L:List dE}{m:Nat}{t a:Int}(h:kI v L m t)(k:qy v)(hn:v.2.2.1<=1000):qy (iI v a):=by
 refine⟨λx hx=>k.w x (ce8.1 hx).1,λr hr=>?_,k.i⟩
 have hr:=hr
 obtain hr|hr:=dI.1 hr
 .exact k.r r hr
 .obtain⟨x,hx,rfl⟩:=cc1.1 hr;exact Y1 h k hn (ce8.1 hx).1
theorem qy.recv{v:ct}{L:List dE}{m:Nat}{t a:Int}{b:ad}(h:kI v L m t)(k:qy v)(hn:v.2.2.1<=1000)(hb:bytes b):qy (mA v a b):=by
 have e:=k.expire h hn (a:=a)
 unfold mA
 split
 next h0=>
  have hr:oU b=0:=by unfold pF at h0;split at h0;cases h0;rename_i q;exact co1 λk=>q (.inl k)
  refine⟨λx hx=>?_,e.r,e.i⟩;obtain hx|rfl:=Ae hx
  .exact e.w x hx
  .refine Gz.upd ?_ (aA3 hb hr);by_cases hi:xZ (iI v a) (fN b).1<be (vW (iI v a))
   .rw[cq,cG hi];exact e.w _ (cc3 hi)
   .exfalso;unfold pF at h0;rw[ah hi] at h0;split at h0 <;> cases h0
 .exact e
theorem qy.probe{v:ct}{L:List dE}{m:Nat}{t a d p f l:Int}(h:kI v L m t)(k:qy v)(hn:v.2.2.1<=1000)(hd:0<=d/\d<=4294967295):qy (mN v a d p f l):=by
 unfold mN
 split
 next h0=>
  have e:=k.expire h hn (a:=a);have hp:cT (wh v d p f l 0)=0:=by
   unfold nE at h0;split at h0
   next q=>exact absurd h0 q
   next q=>exact ce3.1 q
  have hq:qH p/\jG (wh v d p f l 0):=by
   unfold cT at hp;split at hp
   .cases hp
   .rename_i q;split at hp
    .cases hp
    next q2=>exact⟨ce3.1 q,ce3.1 q2⟩
  refine⟨λx hx=>?_,e.r,e.i⟩;obtain hx|hx:=dI.1 hx
  .exact e.w x hx
  .rw[kY.1 hx];exact⟨hd,hq.1,hq.2.1,hq.2.2.2,λ_=>⟨rfl,rfl⟩,λq=>(by cases q)⟩
 .exact k
abbrev fj:Type:=Int×Int×Int
def dY{α:Type}(cf:α->α->Int)(l:List α):List α:=l.mergeSort λx y => !bZ2 (cf y x<0)
theorem JA{a b:Int}:cD a b<0↔a<b:=by unfold cD;(repeat' split) <;> omega
theorem uR{a b:Int}:cD a b=0↔a=b:=by unfold cD;(repeat' split) <;> omega
def Mg(a b c:Int):Int:=j7 [a,b,c]
theorem Z5{a b c x y z:Int}:Mg (cD a x) (cD b y) (cD c z)<0↔a<x∨(a=x/\(b<y∨(b=y/\c<z))):=by
 unfold Mg
 simp only[j7]
 split
 next h=>have h:¬ a=x:=λe=>h (uR.2 e);rw[JA];omega
 next h=>
  have h:=uR.1 (ce3.1 h);split
  next k=>have k:¬ b=y:=λe=>k (uR.2 e);rw[JA];omega
  .rename_i k;have k:=uR.1 (ce3.1 k);split
   .rw[JA];omega
   next q=>have q:=uR.1 (ce3.1 q);omega
def rC(x y:fj):Int:=Mg (cD x.2.2 y.2.2) (cD x.1 y.1) (cD x.2.1 y.2.1)
theorem Ax{x y:fj}:rC x y<0↔x.2.2<y.2.2∨(x.2.2=y.2.2/\(x.1<y.1∨(x.1=y.1/\x.2.1<y.2.1))):=Z5
abbrev fM:Type:=Int×Int×Int×Int×Int×Int×Int
theorem Nt{t:fM}(h:qm t):(0<=t.2.2.2.2.1/\t.2.2.2.2.1<=199)/\(1<=t.2.2.2.2.2.1/\t.2.2.2.2.2.1<=99)/\1<=t.2.2.2.2.2.2/\t.2.2.2.2.2.2<=9:=⟨h.2.2.2.2.1,h.2.2.2.2.2.1,h.2.2.2.2.2.2⟩
def tu(i:Int)(t:fM)(r:Nat):List fj:=(range r).map λ(k:Nat)=>(i,(k:Int),t.2.2.2.2.1+(k:Int)*t.2.2.2.2.2.1)
def mE(ts:List fM)(n:Nat):List fj:=(range n).flatMap λ(i:Nat)=>tu (i:Int) (Om ts i Sk) (Om ts i Sk).2.2.2.2.2.2.toNat
def ij(p:iH.D):List fj:=dY rC (mE p.1 (be p.1))
def FA(b:bg8)(s:bg8×List fj)(d:fj):bg8×List fj:=((gh b s.1 d.2.2).1,if (gh b s.1 d.2.2).2=bZ3 then s.2++[d] else s.2)
def ye(p:iH.D)(l:List fj):bg8×List fj:=l.foldl (FA p.2) (zC p.2 0,[])
def fD(p:iH.D):List fj:=(ye p (ij p)).2
theorem aX9{p:iH.D}{l:List fj}{j:Int}(h0:0<=j)(h1:j<be l):ye p (l.take (it (j+1)))=FA p.2 (ye p (l.take (it j))) (Om l (it j) Sk):=by
 unfold ye
 rw[qZ h0 h1,lT];rfl
theorem PF(b:bg8):∀(l:List fj)(s:bg8×List fj),∃ m,(l.foldl (FA b) s).2=s.2++m/\m.Sublist l
 | [],s=>⟨[],(iX _).symm,cD2 _⟩
 | d::l,s=>by
  obtain⟨m,e,hm⟩:=PF b l (FA b s d);rw[List.foldl_cons,e];unfold FA;dsimp only;split
  .exact⟨d::m,by rw[fV];rfl,hm.cons_cons d⟩
  .exact⟨m,rfl,hm.cons d⟩
theorem bn6(p:iH.D):(fD p).Sublist (ij p):=by
 have ⟨m,e,hm⟩:=PF p.2 (ij p) (zC p.2 0,[])
 unfold fD ye
 rw[e];exact hm
theorem tL{α:Type}(cf:α->α->Int)(l:List α):(dY cf l).Perm l:=List.mergeSort_perm _ _
theorem bo0{ts:List fM}{n:Nat}{d:fj}(h:d∈mE ts n):∃ i,i<n/\d.1=(i:Int)∧∃ k:Nat,k<(Om ts i Sk).2.2.2.2.2.2.toNat/\d.2.1=k/\d.2.2=(Om ts i Sk).2.2.2.2.1+k*(Om ts i Sk).2.2.2.2.2.1:=by
 unfold mE tu at h
 have ⟨i,hi,h⟩:=List.mem_flatMap.1 h
 obtain⟨k,hk,rfl⟩:=cc1.1 h
 exact⟨i,cd3.1 hi,rfl,k,cd3.1 hk,rfl,rfl⟩
theorem Ja{ts:List fM}(h:∀ t∈ts,qm t):∀ n:Nat,n<=be ts->be (mE ts n)<=9*n
 | 0,_=>by simp[mE]
 | n+1,hn=>by
  have e:mE ts (n+1)=mE ts n++tu n (Om ts n Sk) (Om ts n Sk).2.2.2.2.2.2.toNat:=by
   unfold mE;rw[mZ,List.flatMap_append];simp
  have:=Ja h n ab;have ht:qm (Om ts n Sk):=h _ (by rw[cq,cG ab];exact cc3 _);have hc:=(Nt ht).2.2.2;generalize Om ts n Sk=t at *;rw[e,bM];unfold tu;rw[kW,List.length_range];omega
structure Mv (p:iH.D) (d:fj):Prop where
 t:0<=d.1/\d.1<be p.1
 at':0<=d.2.2/\d.2.2<=1000
theorem a50{p:iH.D}(h:lV p){d:fj}(hd:d∈mE p.1 (be p.1)):Mv p d:=by
 have ⟨i,hi,e1,k,hk,e2,e3⟩:=bo0 hd
 have ht:qm (Om p.1 i Sk):=h.2.1 _ (by rw[cq,cG hi];exact cc3 _)
 have ht:=Nt ht
 generalize Om (α:=fM) p.1 i Sk=t at *
 have ⟨⟨s0,s1⟩,⟨v0,v1⟩,c0,c1⟩:=ht
 have p1:=Int.mul_le_mul (show (k:Int)<=8 by omega) v1 ab ab
 have p0:=Int.mul_nonneg (show 0<=(k:Int) by omega) (show 0<=t.2.2.2.2.2.1 by omega)
 exact⟨ab,ab⟩
structure bi9 (p:iH.D):Prop where
 n:be (fD p)<=216
 d:∀ d∈fD p,Mv p d
 s:(fD p).Pairwise λx y=>x.2.2<=y.2.2
theorem Ks(x y:fj):(!bZ2 (rC y x<0))=bZ3↔¬ (y.2.2<x.2.2∨(y.2.2=x.2.2/\(y.1<x.1∨(y.1=x.1/\y.2.1<x.2.1)))):=by
 rw[qE,sr,Ax]
theorem Kq{p:iH.D}(h:lV p):bi9 p:=by
 have sub:=bn6 p
 have perm:(ij p).Perm (mE p.1 (be p.1)):=tL _ _
 have ok:∀ d∈fD p,Mv p d:=λd hd=>a50 h (perm.mem_iff.1 (sub.subset hd))
 refine⟨?_,ok,?_⟩
 .have:=sub.length_le;have:=perm.length_eq;have:=Ja h.2.1 (be p.1) (dq _);have:=h.1;omega
 .refine cC3 sub ?_;have:=List.pairwise_mergeSort (le:=λx y:fj => !bZ2 (rC y x<0)) (λa b c h1 h2=>by rw[Ks] at *;omega) (λa b=>by rw[sS,Ks,Ks];omega) (mE p.1 (be p.1));exact this.imp λ{a b} q=>by rw[Ks] at q;omega
abbrev zj:CT := .pair (.sl cU) (.pair (.sl cI) (.pair qV .bool))
def mG(v:ct)(d:Del):ct:=if d.2.1=0 then mA v d.1 d.2.2 else v
theorem am1(v:ct)(t:Int)(b:ad):be (vW (mA v t b))+be (vR (mA v t b))=be (vW v)+be (vR v):=by
 have h:be (vW (iI v t))+be (vR (iI v t))=be (vW v)+be (vR v):=by
  show be ((vW v).filter _)+be (vR v++((vW v).filter _).map (na v))=_;have:∀(o:dE->Bool)(l:List dE),be (l.filter λx => !o x)+be (l.filter o)=be l:=by
   intro o l
   induction l with
   | nil=>rfl
   | cons x l ih=>cases e:o x <;> simp[List.filter_cons,e] <;> omega
  grind
 unfold mA
 split
 .show (be (set _ _ _))+be (vR (iI v t))=_;rw[gd];exact h
 .exact h
theorem kI.size{v:ct}{L:List dE}{m:Nat}{t:Int}(h:kI v L m t):(be (vW v):Int)+be (vR v)=v.2.2.1:=by
 have:=h.m
 rw[h.w,h.r,h.next,gw,kW,eM];omega
abbrev MS:Type:=aN×ct×Int×ad×Int
def iB(p:iH.D)(d:fj):fM:=Om p.1 (it d.1) Sk
def ma(s:MS)(t:Int):aN:=pB s.1 t
def lh(s:MS)(t:Int):ct:=((bO (ma s t)).drop (it s.2.2.1)).foldl mG s.2.1
def QC(p:iH.D)(s:MS)(d:fj):Int:=nE (lh s d.2.2) d.2.2 (iB p d).1 (iB p d).2.1 (iB p d).2.2.1 (iB p d).2.2.2.1
def DP(p:iH.D)(s:MS)(d:fj):ad:=sj (lh s d.2.2) d.2.2 (iB p d).1 (iB p d).2.1 (iB p d).2.2.1 (iB p d).2.2.2.1
def yZ(p:iH.D)(s:MS)(d:fj):MS :=
 if QC p s d=0 then (uh (ma s d.2.2) d.2.2 0 (DP p s d),mN (lh s d.2.2) d.2.2 (iB p d).1 (iB p d).2.1 (iB p d).2.2.1 (iB p d).2.2.2.1,be (bO (ma s d.2.2)),s.2.2.2.1++[dc (ma s d.2.2)],d.2.2)
 else (ma s d.2.2,lh s d.2.2,be (bO (ma s d.2.2)),s.2.2.2.1,d.2.2)
def Kk(n:Net)(t:Int):MS:=(Aq n,qR 0 0 (i5 n).1 t,0,[],0)
def oF(n:Net)(p:iH.D)(t:Int)(k:Nat):MS:=((fD p).take k).foldl (yZ p) (Kk n t)
def T6(s:MS)(t:Int):zj.D:=(vR (xH (lh s (s.2.2.2.2+t+100000))),s.2.2.2.1,ma s (s.2.2.2.2+t+100000),bZ2 ((be (vR (xH (lh s (s.2.2.2.2+t+100000)))):Int)=be s.2.2.2.1))
def qz(n:Net)(p:iH.D)(t:Int):zj.D:=T6 (oF n p t (be (fD p))) t
structure MI (n:Net) (t q:Int) (s:MS):Prop where
 w:eU (4000+4000*q) s.1
 q0:0<=q/\q<=300
 nt:aH s.1=n
 nw:ce s.1=s.2.2.2.2/\ce s.1<=1000
 vi:∃ L m,kI s.2.1 L m s.2.2.2.2
 nx:s.2.1.2.2.1<=q
 vo:qy s.2.1
 tm:vT s.2.1=t
 rd:s.2.2.1=be (bO s.1)
 fl:be (aL s.1)<=q
 ol:(be s.2.2.2.1:Int)=s.2.1.2.2.1
theorem TP{b:Int}(hb:b<=1000000):∀{l:List Del}{v:ct}{a:Int},(∃ L m,kI v L m a)->qy v->v.2.2.1<=1000->a<=b->Eb a b l →
  (∃ L m,kI (l.foldl mG v) L m b)/\qy (l.foldl mG v)/\(l.foldl mG v).2.2.1=v.2.2.1/\vT (l.foldl mG v)=vT v
 | [],v,a,⟨L,m,h⟩,k,hn,hab,hl=>⟨⟨L,m,h.later hab (by omega)⟩,k,rfl,rfl⟩
 | d::l,v,a,⟨L,m,h⟩,k,hn,hab,hl=>by
  obtain⟨p1,p2⟩:=ca4.1 hl.p;have ht:=(hl.t d eV).1;have hl2:Eb d.1 b l:=⟨p2,λx hx=>⟨⟨p1 x hx,(hl.t x (fu _ hx)).1.2⟩,(hl.t x (fu _ hx)).2⟩,λx hx=>hl.b x (fu _ hx)⟩
  have st:(∃ L m,kI (mG v d) L m d.1)/\qy (mG v d)/\(mG v d).2.2.1=v.2.2.1/\vT (mG v d)=vT v:=by
   unfold mG;split
   .obtain⟨L',m',v',-⟩:=h.recv (b:=d.2.2) ht.1 (by omega);exact⟨⟨L',m',v'⟩,k.recv h hn (hl.b d eV),bL0 ..,by unfold mA;split <;> rfl⟩
   .exact⟨⟨L,m,h.later ht.1 (by omega)⟩,k,rfl,rfl⟩
  obtain⟨q1,q2,q3,q4⟩:=TP hb (l:=l) st.1 st.2.1 (by rw[st.2.2.1];exact hn) ht.2 hl2;exact⟨q1,q2,q3.trans st.2.2.1,q4.trans st.2.2.2⟩
theorem MI.run{n:Net}{t q:Int}{s:MS}(h:MI n t q s){a:Int}(ha:s.2.2.2.2<=a)(hb:a<=1000000) :
  eU (4000+4000*q) (ma s a)/\aH (ma s a)=n/\ce (ma s a)=a/\be (aL (ma s a))<=q/\(∃ L m,kI (lh s a) L m a)/\qy (lh s a)/\(lh s a).2.2.1=s.2.1.2.2.1/\vT (lh s a)=t/\s.2.2.1<=be (bO (ma s a))/\qx s.1 a=0:=by
 have hn:=h.w.s.now
 have nw:=h.nw
 have ⟨l,e,hl,hf⟩:=h.w.runs_dl (to:=a)
 have ev:lh s a=l.foldl mG s.2.1:=by
  unfold lh ma;rw[h.rd,e,cb6,List.drop_left]
 have hq:=h.q0
 have hnx:=h.nx
 obtain⟨q1,q2,q3,q4⟩:=TP hb h.vi h.vo ab ha (by rw[← nw.1];exact hl)
 have hfl:=h.fl
 refine⟨h.w.runs ⟨ab,ab⟩,h.w.net.trans h.nt,aO6 _ _,by show (be (aL (pB s.1 a)):Int)<=q;omega,by rw[ev];exact q1,by rw[ev];exact q2,by rw[ev];exact q3,by rw[ev];exact q4.trans h.tm,?_,bf3 ab ab⟩
 rw[h.rd]
 show (be (bO s.1):Int)<=(be (bO (pB s.1 a)):Int)
 rw[e,bM];omega
theorem Zv{w:aN}{n:Net}{a q:Int}(h3:0<be n.1)(hn:aH w=n)(ha:ce w=a)(hb:a<=1000000)(hf:be (aL w)<=q)(hq:q<=300):nW w a 0=0:=by
 unfold nW
 rw[hn,ah ab,ah ab,ah ab,ah ab]
theorem MI.step{n:Net}{t q:Int}{s:MS}(h:MI n t q s){p:iH.D}{d:fj}(h3:0<be n.1)(hd:s.2.2.2.2<=d.2.2)(hm:d.2.2<=1000)(hq:q+1<=300)(ht:0<=(iB p d).1/\(iB p d).1<=4294967295):MI n t (q+1) (yZ p s d):=by
 have hq0:=h.q0
 have hnx:=h.nx
 have ⟨r1,r2,r3,r4,⟨L,m,r5⟩,r6,r7,r8,r9,r10⟩:=h.run hd ab
 have hv:(lh s d.2.2).2.2.1<=1000:=by rw[r7];omega
 unfold yZ
 split
 next e=>
  have ⟨b1,b2⟩:=Vi (lh s d.2.2) d.2.2 (iB p d).1 (iB p d).2.1 (iB p d).2.2.1 (iB p d).2.2.2.1;have ⟨s1,s2,s3⟩:=r1.send ab (Zv h3 r2 r3 ab r4 ab) (b:=DP p s d) b1 b2;have pk:=aq8 (a:=(iB p d).1) (b:=(iB p d).2.1) (c:=(iB p d).2.2.1) (d:=(iB p d).2.2.2.1) r5 hv;have nx:(mN (lh s d.2.2) d.2.2 (iB p d).1 (iB p d).2.1 (iB p d).2.2.1 (iB p d).2.2.2.1).2.2.1=s.2.1.2.2.1+1:=by
   unfold QC at e;rw[← r7];unfold mN;rw[aj e];rfl
  refine⟨s1.more ab ab,ab,s3.trans r2,⟨r3,by show ce (ma s d.2.2)<=1000;omega⟩,pk.1,?_,r6.probe r5 hv ht,?_,rfl,?_,?_⟩
  .show (mN _ _ _ _ _ _).2.2.1<=q+1;rw[nx];omega
  .show vT (mN _ _ _ _ _ _)=t;rw[← r8];unfold mN;split <;> rfl
  .show (be (iV _ _):Int)<=_;rw[FE];omega
  .show (be (s.2.2.2.1++[_]):Int)=(mN _ _ _ _ _ _).2.2.1;rw[nx,bM,eI];have:=h.ol;omega
 .exact⟨r1.more ab ab,ab,r2,⟨r3,by show ce (ma s d.2.2)<=1000;omega⟩,⟨L,m,r5⟩,by show (lh s d.2.2).2.2.1<=_;omega,r6,r8,rfl,by show (be (aL (ma s d.2.2)):Int)<=_;omega,by show (be s.2.2.2.1:Int)=(lh s d.2.2).2.2.1;rw[r7];exact h.ol⟩
theorem MI.zero{n:Net}(h:vq n){t:Int}(ht:1<=t/\t<=20000):MI n t 0 (Kk n t):=by
 have e:qR 0 0 (i5 n).1 t=(0,0,0,(i5 n).1,t,[],[]):=by unfold qR;rw[aj (Ur h ⟨ht.1,ab⟩)]
 unfold Kk
 rw[e]
 exact⟨h.d.newOk h.p,aB,rfl,⟨rfl,by show (0:Int)<=1000;decide⟩,⟨[],0,rfl,rfl,dq _,rfl,⟨ht.1,by show t<=_;omega⟩,⟨by show (0:Int)<=0;decide,by show (0:Int)<=1000000000;decide⟩,λx hx=>(by cases hx),λi j hj=>(by cases hj),λi hi=>(by cases hi),λx hx=>(by cases hx)⟩,io _,⟨λx hx=>(by cases hx),λx hx=>(by cases hx),rfl,rfl⟩,rfl,rfl,io _,rfl⟩
theorem VS{n:Net}{p:iH.D}{t j:Int}(h0:0<=j)(h1:j<be (fD p)):oF n p t (it (j+1))=yZ p (oF n p t (it j)) (Om (fD p) (it j) Sk):=by
 unfold oF
 rw[qZ h0 h1,lT];rfl
theorem Pz{n:Net}(h:vq n){p:iH.D}(hp:lV p)(hu:∀ t∈p.1,0<=t.1/\t.1<=4294967295){t:Int}(ht:1<=t/\t<=20000):∀ k:Nat,k<=be (fD p)->MI n t k (oF n p t k)/\(∀ d∈(fD p).drop k,(oF n p t k).2.2.2.2<=d.2.2)/\(oF n p t k).2.2.2.2<=1000
 | 0,_=>⟨MI.zero h ht,λd hd=>((Kq hp).d d hd).at'.1,by show (0:Int)<=1000;decide⟩
 | k+1,hk=>by
  obtain⟨m,h1,-⟩:=Pz h hp hu ht k ab;have so:=Kq hp;have hn:=so.n;have hk':k<be (fD p):=ab;have dk:=s9 hk';have ed:Om (fD p) (it (k:Int)) Sk=(fD p)[k]:=by rw[cb6,cq,cG hk'];rfl
  have nx:=VS (n:=n) (p:=p) (t:=t) (j:=k) ab ab;rw[show it ((k:Int)+1)=k+1 by omega,ed,cb6] at nx;have hd:=so.d _ (cc3 hk');have hsrt:=ca4.1 (dk▸so.s.sublist (List.drop_sublist k _));have n3:=h.d.n3;have mt:=hu _ (dm hd.t.1 hd.t.2);have ms:=m.step (p:=p) (d:=(fD p)[k]) ab (h1 _ (by rw[dk];exact eV)) hd.at'.2 ab mt;have la:(yZ p (oF n p t k) (fD p)[k]).2.2.2.2=(fD p)[k].2.2:=by unfold yZ;split <;> rfl
  rw[nx];exact⟨by rw[show ((k+1:Nat):Int)=(k:Int)+1 by omega];exact ms,λd hd=>by rw[la];exact hsrt.1 d hd,by rw[la];exact hd.at'.2⟩
structure LM (l:List av):Prop where
 n:be l<=216
 ok:∀ r∈l,mo r
 i:∀ j:Nat,j<be l->(Om l j Sk).1=0/\(Om l j Sk).2.1=0/\(Om l j Sk).2.2.1=j
theorem af8{n:Net}(h:vq n){p:iH.D}(hp:lV p)(hu:∀ t∈p.1,0<=t.1/\t.1<=4294967295){t:Int}(ht:1<=t/\t<=20000):(qz n p t).2.2.2=bZ3/\LM (qz n p t).1:=by
 obtain⟨m,-,hl⟩:=Pz h hp hu ht _ (dq _)
 have so:=(Kq hp).n
 have hn:=m.w.s.now
 have nw:=m.nw
 have ⟨r1,r2,r3,r4,⟨L,k,r5⟩,r6,r7,r8,r9,r10⟩:=m.run (a:=(oF n p t (be (fD p))).2.2.2.2+t+100000) ab ab
 have hv:=m.nx
 have ⟨f1,f2⟩:=r5.finish
 have nx:=r5.next
 have ol:=m.ol
 have len:(qz n p t).1.length=be L:=by
  show be (vR (xH _))=_;rw[f2,kW]
 have fok:qy (xH (lh (oF n p t (be (fD p))) ((oF n p t (be (fD p))).2.2.2.2+t+100000))):=by
  refine⟨λx hx=>?_,λr hr=>?_,r6.i⟩
  .rw[f1] at hx;cases hx
  .have hr:=hr;obtain hr|hr:=dI.1 hr
   .exact r6.r r hr
   .obtain⟨x,hx,rfl⟩:=cc1.1 hr;exact Y1 r5 r6 (by rw[r7];omega) (ce8.1 hx).1
 refine⟨ft ?_,?_,fok.r,λj hj=>?_⟩
 .show (((qz n p t).1.length:Nat):Int)=_;rw[len,← nx,r7,ol]
 .rw[len];omega
 .have hj2:j<be L:=by rw[← len];exact hj
  have e:(qz n p t).1.getD j Sk=na (lh (oF n p t (be (fD p))) ((oF n p t (be (fD p))).2.2.2.2+t+100000)) L[j]:=by
   show Om (vR (xH _)) j Sk=_;rw[f2,cq,List.getElem?_map,cG hj2];rfl
  rw[e];exact⟨r6.i.1,r6.i.2,r5.num j hj2⟩
end Go.RS
