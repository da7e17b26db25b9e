/- SX, part 34: slices.SortFunc at structs of numbers: its contract, off the kit's. -/
import Derived.Test.YtgcnlmckfpcgpaaGreatDoorSx25
import Derived.Shelf.SlSortCmp.NoneTotal
import Derived.Test.YtgcnlmckfpcgpaaGreatDoorTopm0
import Derived.Test.YtgcnlmckfpcgpaaGreatDoorNetd
import Derived.Test.YtgcnlmckfpcgpaaGreatDoorAddr
import Derived.Shelf.SlicesE.Equal
import Derived.Lib.SlicesCompact
import Derived.Test.YtgcnlmckfpcgpaaGreatDoorNetdraw
import Derived.Test.YtgcnlmckfpcgpaaGreatDoorSim1
import Derived.Test.YtgcnlmckfpcgpaaGreatDoorSch
set_option maxRecDepth 100000
set_option linter.all false
open Int (toNat)
open List (length take getD set replicate drop)
open And renaming intro->cu4
open Array renaming getElem?_eq_getElem->cj2,getElem?_eq_some_iff->cb4,getElem?_mapIdx->cr5
open BEq renaming beq->cy2
open Bool renaming and_eq_true_iff->cd0,and_self->cA5,false->bZ6,not_true->cA6,true->bZ3
open Classical renaming not_not->ce3
open Decidable renaming decide->bZ2
open Go renaming Aside->cz0,Program->cF1,TypeId->bZ8,Value->ca2,World->ca8,loadCellsFrom->co2,maxLen->cb2
open Go.Builtin renaming clear_->cx1,zeroCells->ca9
open Go.Func renaming ntmps->cy0
open Go.IntKind renaming i64->bZ4,u32->bZ7,u8->cc4,wrap->bZ5
open Go.Sem renaming run->cp4
open Go.World renaming drewN_drewN->cj4,frozen?->cq5,shape?->cc7
open Inhabited renaming default->Sk
open Int renaming le_trans->cl4,tdiv->cd2,tmod->cd8,toNat->it,toNat_natCast->cb6,toNat_of_nonneg->cw2
open List renaming attach_map_subtype_val->co9,drop_eq_nil_of_le->ce2,drop_zero->cm3,foldl->cb9,getD->Om,getElem?_map->ce9,length->be,length_nil->cb8,map->cg4,mem_iff_getElem->cb5,mergeSort->cz9,mergeSort_nil->cw1,mergeSort_singleton->cq6,not_mem_nil->ci5,pairwise_append->cf0,pairwise_cons->ca4,pairwise_singleton->ck5,take_length->cg7
open List.Pairwise renaming nil->ce6
open List.Perm renaming refl->cG0,trans->cG1
open Nat renaming beq->ca0,div_add_mod->cq1,div_lt_of_lt_mul->cv2,mod_lt->cE5,mul_comm->cf7,zero_le->cD3
open Option renaming map_some->ck3,none->bZ9,some->bZ1,some->cn7
open Subtype renaming ext->cz8
namespace Go.SX
open Go.Proofs Go.Shelf Go.RowKit Go.Lib Go.Sort
def CT.ints:CT->Bool
 | .int _=>bZ3
 | .bool=>bZ3
 | .pair a b=>a.ints&&b.ints
 | _=>bZ6
def n9:(u:CT)->u.D->List ca2
 | .int k,n=>[.int k n]
 | .pair a b,d=>n9 a d.1++n9 b d.2
 | .bool,b=>[.bool b]
 | .str,_=>[]
 | .sl _,_=>[]
theorem G3:∀{u:CT}(d:u.D),u.ints=bZ3->be (n9 u d)=u.size
 | .int k,n,_=>rfl
 | .pair a b,d,h=>by
  have h:=cd0.1 h;show be (n9 a d.1++n9 b d.2)=a.size+b.size;rw[bM,G3 d.1 h.1,G3 d.2 h.2]
 | .bool,_,h=>rfl
 | .str,_,h=>by cases h
 | .sl _,_,h=>by cases h
theorem Kd:∀{u:CT}(d:u.D),∀ v∈n9 u d,v.oneCell'=bZ3
 | .int k,n,v,h=>by rw[kY.1 h];rfl
 | .pair a b,d,v,h=>(dI.1 h).elim (Kd d.1 v) (Kd d.2 v)
 | .bool,_,v,h=>by rw[kY.1 h];rfl
 | .str,_,v,h=>by cases h
 | .sl _,_,v,h=>by cases h
theorem AR{A:Nat->Prop}{w:ca8}:∀{u:CT}{cv:Nat->Option ca2}{o:Nat}{d:u.D},u.ints=bZ3->(Rd A w u cv o d↔u.wf d∧∀ j,j<u.size->cv (o+j)=(n9 u d)[j]?)
 | .int k,cv,o,n,_=>by
  show (cv o=bZ1 (.int k n)/\k.has n)↔(k.has n∧∀ j,j<1->cv (o+j)=[Value.int k n][j]?);constructor
  .rintro⟨h1,h2⟩;exact⟨h2,λj hj=>by rw[show j=0 by omega];exact h1⟩
  .rintro⟨h1,h2⟩;exact⟨h2 0 ab,h1⟩
 | .pair a b,cv,o,d,h=>by
  have h:=cd0.1 h;have e1:=AR (A:=A) (w:=w) (u:=a) (cv:=cv) (o:=o) (d:=d.1) h.1;have e2:=AR (A:=A) (w:=w) (u:=b) (cv:=cv) (o:=o+a.size) (d:=d.2) h.2;have hl:=G3 d.1 h.1;show (Rd A w a cv o d.1/\Rd A w b cv (o+a.size) d.2)↔((a.wf d.1/\b.wf d.2)∧∀ j,j<a.size+b.size->cv (o+j)=(n9 a d.1++n9 b d.2)[j]?);rw[e1,e2];constructor
  .rintro⟨⟨h1,h2⟩,h3,h4⟩;refine⟨⟨h1,h3⟩,λj hj=>?_⟩;by_cases q:j<a.size
   .rw[mC ab];exact h2 j q
   .rw[nX ab,hl,← h4 (j-a.size) ab];congr 1;omega
  .rintro⟨⟨h1,h3⟩,h4⟩;refine⟨⟨h1,λj hj=>?_⟩,h3,λj hj=>?_⟩
   .rw[h4 j ab,mC ab]
   .rw[gG,h4 (a.size+j) ab,nX ab,hl];congr 1;omega
 | .bool,cv,o,b,_=>by
  show (cv o=bZ1 (.bool b))↔(True∧∀ j,j<1->cv (o+j)=[Value.bool b][j]?);exact⟨λh=>⟨aP,λj hj=>by rw[show j=0 by omega];exact h⟩,λh=>h.2 0 ab⟩
 | .str,_,_,_,h=>by cases h
 | .sl _,_,_,_,h=>by cases h
theorem El{A:Nat->Prop}{env:bi}{w:ca8}:∀{u:CT}{d:u.D},u.ints=bZ3->u.wf d->aM A env w (cF u d) (n9 u d)
 | .int k,n,_,hw=>by simp only[cF,n9,aM,aA];exact⟨_,_,rfl,⟨rfl,hw⟩,rfl⟩
 | .pair a b,d,h,hw=>by
  have h:=cd0.1 h;exact tF (El h.1 hw.1) (El h.2 hw.2)
 | .bool,b,_,_=>by simp only[cF,n9,aM,aA];exact⟨_,_,rfl,rfl,rfl⟩
 | .str,_,h,_=>by cases h
 | .sl _,_,h,_=>by cases h
abbrev KZ(u:CT):tc:=[(bZ3,u),(bZ3,u)]
def GQ(u:CT)(cf:u.D->u.D->Int):Ct:=⟨nG (KZ u),[.val (.int .i64)],λ_=>[],λd=>((cf d.1 d.2.1,()),())⟩
def Ln(u:CT)(E:bZ8)(f:FuncId)(cf:u.D->u.D->Int)(srt:List u.D->List u.D):Spec:=λbase svs=>match svs with
 | [.own n sz,.fn g []]=>match ca0 g f with
  | true => .ask n fun
   | .live (.row E' u' xs)=>match ca0 E' E,ca0 sz u.size,iq u' u xs with
    | true,bZ3,bZ1 ys => .ret (.det [(be ys:Int)<=1000000,∀ x∈ys,∀ y∈ys,¬ cf x y<0→¬ cf y x<0->x=y] (.tup []) [(n,.live (.row E u (srt ys)))])
    | _,_,_ => .fail
   | _ => .fail
  | _ => .fail
 | _ => .fail
theorem bE0{W w':ca8}(g:w'.os=W.os)(h:w'.tape=W.tape)(i:w'.output=W.output)(h4:W.drawn<=w'.drawn)(h5:W.heap.size<=w'.heap.size)(h6:∀ k,k<W.heap.size->w'.heap[k]? = W.heap[k]?):∃ q d,w'=grow (W.drewN q) d:=by
 refine⟨w'.drawn-W.drawn,w'.heap.extract W.heap.size w'.heap.size,?_⟩
 have j:w'.heap=W.heap++w'.heap.extract W.heap.size w'.heap.size:=by
  grind
 have ⟨a,b,c,e,f⟩:=w'
 simp only at g h i h4 j
 subst g h i
 unfold grow World.drewN
 simp
 exact⟨j,ab⟩
section
variable {P:Program} {G:sH} {f:FuncId} {u:CT} {cf:u.D->u.D->Int}
theorem bW9(j:u.ints=bZ3)(hc:mH P G f (GQ u cf).spec){x y:u.D}(hx:u.wf x)(hy:u.wf y){A:Nat->Prop}{W:ca8}(hA:∀ b,A b->b<W.heap.size)(hg:∀ g z,G g=bZ1 z->A g/\Rd A W z.1 (λo=>W.cell? ⟨g,o,bZ9⟩) 0 z.2) :
  Calls P f #[.agg (n9 u x).toArray,.agg (n9 u y).toArray] W λe w'=>e = .returned (.int .i64 (cf x y))∧∃ q i,w'=grow (W.drewN q) i:=by
 have m:Mod W ⟨λ_=>False,A,G⟩ A (λ_=>.un) (λ_=>.un) W :=
  ⟨rfl,rfl,rfl,dq _,dq _,λ_ _ _=>rfl,hA,λ_=>rfl,λ_ _ _ _ h=>(by cases h),λ_ _ _ _ _ _ _ h=>(by cases h),λb hb=>.inl hb,hg⟩
 have c:((GQ u cf).spec 0 (g9 (nG (KZ u)) (x,y,()) 0 0)).run (λ_=>.un)=bZ1 (Dl.det [] (.int .i64 (cf x y)) [],[]):=by
  refine Q.bind_run0 _ _ _ _ (JV (KZ u) (x,y,()) rfl) ?_;rfl
 have hd:aM A (λ_=>.un) W (g9 (nG (KZ u)) (x,y,()) 0 0) [.agg (n9 u x).toArray,.agg (n9 u y).toArray]:=by
  exact⟨_,_,rfl,⟨_,rfl,by simpa using El j hx⟩,_,_,rfl,⟨_,rfl,by simpa using El j hy⟩,rfl⟩
 refine (hc 0 _ (λ_=>.un) _ _ c trivial W _ A _ W _ rfl m hd).mono ?_
 rintro e w' ⟨v,rfl,z,A',env',_,a,_,d⟩
 exact⟨by rw[d.1],bE0 a.os a.tape a.output a.dr a.size λk hk=>a.fr k hk λh=>h⟩
theorem N8{w:ca8}{b β q:Nat}{F cur:Array ca2}{os:Array Obj}{E:bZ8}(hh:w.heap[b]? = bZ1 (.cells cur E (0,0))):(grow (putRow id (Go.Sort.ahead w q) b β F) os).heap[b]? = bZ1 (.cells (putCells id β F cur) E (0,0)):=by
 have hb:=(cb4.1 hh).1
 unfold grow putRow mapBlock Go.Sort.ahead
 rw[Array.getElem?_append_left (by rw[Array.size_modify];exact hb),Array.getElem?_modify,aj rfl,hh]
 rfl
theorem KV{w:ca8}{b β q:Nat}{F cur:Array ca2}{os:Array Obj}{E:bZ8}(hh:w.heap[b]? = bZ1 (.cells cur E (0,0))):cZ w (grow (putRow id (Go.Sort.ahead w q) b β F) os) λj=>j=b:=by
 have c:∀ j,j<w.heap.size→¬ j=b->(grow (putRow id (Go.Sort.ahead w q) b β F) os).heap[j]? = w.heap[j]? := λj e hn=>by
  unfold grow putRow mapBlock Go.Sort.ahead;grind
 refine⟨rfl,rfl,rfl,Nat.le_add_right _ _,by unfold grow putRow mapBlock Go.Sort.ahead;simp,c,λj s a=>?_⟩
 by_cases d:j=b
 .subst d;unfold cc7 at a ⊢;rw[N8 hh];rw[hh] at a;rw[← a];simp[putCells]
 .have e:j<w.heap.size:=by
   unfold cc7 at a;grind
  unfold cc7 at a ⊢;rw[c j e d];exact a
theorem GP{α:Type} [Inhabited α] (enc:α->List ca2) {k:Nat} (hk:∀ x,be (enc x)=k) (d:Array α) {i j:Nat} (hi:i<d.size) (hj:j<k):bZ1 ((flatK enc k d)[i*k+j]!)=(enc d[i]!)[j]? := by
 have h1:i*k+j<d.size*k:=by
  have:(i+1)*k<=d.size*k:=lw _ hi;rw[fY,mv] at this;omega
 rw[get_flatK enc k d _ h1]
 have e1:(i*k+j)/k=i:=by rw[cf7,Nat.mul_add_div ab,Nat.div_eq_of_lt hj,kf]
 have e2:(i*k+j)%k=j:=by rw[cf7,Nat.mul_add_mod,Nat.mod_eq_of_lt hj]
 rw[e1,e2,cG (by rw[hk];exact hj),getElem!_pos _ j (by rw[hk];exact hj)]
theorem YA{F E:bZ8}{ρ:Ren}(hu:u.ints=bZ3)(hO:SWO (ltOf cf))(hc:mH P G f (GQ u cf).spec)(L:SlLaysF0.n6 P ρ)(hF:ρ.f 6=F)(aE:∀ w,(isAgg (ρ.t 24)).run P w = .ok bZ3 w)(zE:∀ w,(Go.sizeOf (ρ.t 24)).run P w = .ok u.size w)
  (eg:∀ args w,(callFunc f args).run P w = .ok (.enter f args) w) (nu:u ≠ .int .u8) {srt:List u.D->List u.D} (hs:∀ ys,srt ys=ys.mergeSort λx y => !bZ2 (cf y x<0)):mH P G F (Ln u E f cf srt):=by
 intro base svs h d r e hp w0 N0 A env w vs hg m hd
 unfold Ln at e
 split at e
 case h_2=>cases e
 rename_i n sz g
 split at e
 case h_2=>cases e
 rename_i hgf
 have hgf:=bK hgf
 subst hgf
 simp only[Q.run] at e
 split at e
 case h_2=>cases e
 rename_i p0 q0 hk
 simp only[cE,cy] at e
 obtain⟨rfl,rfl⟩:=e
 split at hk
 case h_2=>cases hk
 rename_i E' u' xs hl
 split at hk
 case h_2=>cases hk
 rename_i ys hE hsz hcast
 have hE:=bK hE
 have hsz:=bK hsz
 have ⟨et,ey⟩:=kC hcast
 have et2:=et.symm
 subst et2 hE hsz
 simp only at ey
 subst ey
 cases cA hk
 simp only[Dl.pre,bQ,g7] at hp
 have ⟨hp1,hp2⟩:=hp
 simp only[aM] at hd
 obtain⟨sv,r1,rfl,ds,fv,r2,rfl,df,rfl⟩:=hd
 simp only[aA,aM] at df
 obtain⟨fvs,rfl,hfv⟩:=df
 have hfv:fvs = #[]:=by rw[← Array.toList_eq_nil_iff];exact hfv
 subst hfv
 have bZ9:∀ p c,ys=[]->sv = .slice p 0 c->Calls P F #[sv,.func (.func g) #[] #[]] w λe w'=>∃ v,e = .returned v/\fb w0 N0 A env h w (.det [(be ys:Int)<=1000000,∀ x∈ys,∀ y∈ys,¬ cf x y<0→¬ cf y x<0->x=y] (.tup []) [(n,.live (.row E' u (srt ys)))]) v w':=by
  rintro p c rfl rfl;have hn:=AnyF.slices_SortFunc_none L p c (.func (.func g) #[] #[]) w;rw[hF] at hn;refine hn.mono ?_;rintro e w' ⟨rfl,rfl⟩;refine⟨_,rfl,(),A,env,aP,?_,dM.refl,?_⟩
  .have e:bZ.set h n (.live (.row E' u (srt [])))=h:=by
    funext k;unfold bZ.set;split
    next q=>rw[q,hl,hs,cw1]
    .rfl
   show Mod w0 N0 A env (bZ.set h n (.live (.row E' u (srt [])))) _;rw[e];exact m
  .simp only[Dl.val,aA,aM];exact⟨#[],rfl,rfl⟩
 have ds':=ds
 simp only[aA] at ds'
 obtain⟨hnil,pa,rfl⟩|⟨b,⟨β,len⟩,E3,cc,hb,hsh,rfl⟩:=ds'
 .have hx:ys=[]:=by
   have:=m.nm n;rw[hl] at this;obtain⟨k',l',he',_⟩|⟨_,E3,t3,hb⟩:=this
   .rw[hnil] at he';cases he'
   .obtain hb|hb:=hb <;> cases hb;rfl
  exact bZ9 pa 0 hx rfl
 .have ⟨cur,cap,hh,hcs,hxl,hlc,hcm,hrdx⟩:=(m.live_blk hl hb).1;have hh:=hh.plain nu;have hnA:=(m.live_blk hl hb).2 rfl;simp only at hcs hxl hlc hrdx ⊢;by_cases hys:ys=[]
  .have hl0:len=0:=by rw[← hxl,hys];rfl
   exact bZ9 (bZ1 ⟨b,β,.none⟩) ((cc-β)/u.size) hys (by rw[hl0])
  have ⟨y0,hy0⟩:=List.exists_mem_of_ne_nil _ hys;have wfy:∀ x∈ys,u.wf x:=λx hx=>by
   obtain⟨i,hi,rfl⟩:=cb5.1 hx;exact ((AR hu).1 (hrdx i hi)).1
  letI:Inhabited {x:u.D // x∈ys}:=⟨⟨y0,hy0⟩⟩
  let enc:{x:u.D // x∈ys}->List ca2:=λx=>n9 u x.1;let cfa:{x:u.D // x∈ys}→{x:u.D // x∈ys}->Int:=λx y=>cf x.1 y.1;have hk:∀ x,be (enc x)=u.size:=λx=>G3 x.1 hu;let d0:Array {x:u.D // x∈ys}:=ys.attach.toArray;have hd0:d0.size=be ys:=by simp[d0]
  have hd0i:∀ i (hi:i<be ys),d0[i]! = ⟨ys[i],List.getElem_mem hi⟩:=λi hi=>by
   rw[getElem!_pos d0 i (by rw[hd0];exact hi)];simp[d0]
  have hOa:SWO (ltOf cfa):=⟨λx=>hO.irrefl x.1,λx y z=>hO.trans x.1 y.1 z.1,λx y z=>hO.ntrans x.1 y.1 z.1⟩
  have hTa:∀ x y,(ltOf cfa) x y=bZ6->(ltOf cfa) y x=bZ6->x=y:=λx y h1 h2 =>
   cz8 (hp2 x.1 x.2 y.1 y.2 (bg h1) (bg h2))
  have hH:HoldsK enc u.size w b β d0:=λj hj=>by
   rw[size_flatK,hd0] at hj;have hk0:=u.size_pos;have hq:=cv2 (by rw[cf7];exact hj);have hr:j%u.size<u.size:=cE5 _ hk0;have ej:j/u.size*u.size+j%u.size=j:=by rw[cf7];exact cq1 j u.size
   refine⟨?_,by simp[cq5,hh]⟩;have e1:=((AR hu).1 (hrdx _ hq)).2 _ hr;have e2:=GP enc hk d0 (i:=j/u.size) (j:=j%u.size) (by rw[hd0];exact hq) hr;rw[ej] at e2;rw[gG,ej] at e1;rw[cell_of_row w b _ cur E' (0,0) hh,e1];show _=bZ1 ((flatK enc u.size d0)[j]!);rw[e2,hd0i _ hq]
  have hbw:=(cb4.1 hh).1;have hcmp:CmpLays P g #[] enc u.size cfa b β d0.size w:=λq os dk hdk x y=>by
   have hh2:∀ j o,A j->(sortWorldK enc u.size w b β q dk os).cell? ⟨j,o,.none⟩=w.cell? ⟨j,o,.none⟩:=λj o hj=>by
    have hjw:=m.Alt j hj;have c:=KV (q:=q) (β:=β) (F:=flatK enc u.size dk) (os:=os) hh;exact World.cell?_of_block (a:=⟨j,o,.none⟩) (c.blk j hjw λe=>hnA (e▸hj))
   have hsz:=(KV (q:=q) (β:=β) (F:=flatK enc u.size dk) (os:=os) hh).size;have k:=bW9 (A:=A) (W:=sortWorldK enc u.size w b β q dk os) hu hc (wfy x.1 x.2) (wfy y.1 y.2) (λj hj=>Nat.lt_of_lt_of_le (m.Alt j hj) hsz) (λgg z hz=>by
    have:=m.gl gg z (by rw[hg];exact hz);exact⟨this.1,iQ (λ_ h=>h) hh2 _ _ _ _ _ (λj _=>hh2 gg _ this.1) this.2⟩)
   exact k
  have hcon:=AnyQ.slices_SortFunc_total L u.size aE zE enc hk (λx=>Kd x.1) cfa hOa g #[] b β ((cc-β)/u.size) d0 w eg hcmp hH hbw (by rw[hd0];omega) hTa;rw[hF,hd0,hxl] at hcon;refine hcon.mono ?_;rintro e w' ⟨rfl,q,os,rfl⟩;refine⟨_,rfl,?_⟩;generalize hz:(d0.toList.mergeSort λx y => !ltOf cfa y x).toArray=dk;have hzl:dk.toList.map (·.1)=srt ys:=by
   rw[← hz,hs];have e1:d0.toList=ys.attach:=rfl;rw[e1];show cg4 _ (cz9 _ _)=_;rw[List.map_mergeSort (r:=λx y => !ltOf cfa y x) (s:=λx y => !bZ2 (cf y x<0)) (λa _ b _=>rfl)];congr 1;exact co9 ys
  have hdl:dk.size=be ys:=by
   rw[← hz];show be (cz9 _ _)=_;rw[List.length_mergeSort];exact hd0
  have c:=KV (q:=q) (β:=β) (F:=flatK enc u.size dk) (os:=os) hh;have hF2:(flatK enc u.size dk).size=len*u.size:=by rw[size_flatK,hdl,hxl]
  have hlcz:len*u.size<=cap*u.size:=lw _ hlc;have x:=m.xt c (λk hk=>⟨n,_,_,hl,rfl,hk▸hb⟩) λ_ _=>rfl;have hsl:be (srt ys)=len:=by rw[← hzl,kW,fC,hdl,hxl]
  have up:=lP.write (b' := .row E' u (srt ys)) m hl rfl hb c ⟨putCells id β (flatK enc u.size dk) cur,cap,.of (N8 hh),by simpa[putCells] using hcs,hsl,hlc,hcm,λi hi=>by
   have hi2:i<dk.size:=by rw[hsl] at hi;omega
   have ei:(srt ys)[i]=(dk[i]!).1:=by
    have:(srt ys)[i]? = (dk.toList.map (·.1))[i]? := by rw[hzl]
    rw[cG hi,ce9,mO,cj2 hi2] at this;rw[getElem!_pos dk i hi2];exact cn7.inj this
   rw[AR hu];refine⟨by rw[ei];exact wfy _ (dk[i]!).2,λj hj=>?_⟩;have hlt:i*u.size+j<len*u.size:=by
    have:(i+1)*u.size<=len*u.size:=lw _ ab;rw[fY,mv] at this;omega
   show (putCells id β (flatK enc u.size dk) cur)[β+i*u.size+j]? = _;unfold putCells;rw[cr5,cj2 ab,ck3,aj ab,show β+i*u.size+j-β=i*u.size+j by omega];show bZ1 ((flatK enc u.size dk)[i*u.size+j]!)=_;rw[GP enc hk dk hi2 hj,ei]⟩ rfl
  exact⟨(),A,env,aP,m.upd up,m.ext up,by simp only[Dl.val,aA,aM];exact⟨#[],rfl,rfl⟩⟩
end
end Go.SX
namespace Go.RS
open Go.SX Go.Proofs
def aZ6:Ct:=GQ u7 rC
theorem ay8:
 ∀(a b c d e f:Int),(aq a/\aq b/\aq c)/\ai (aq d/\aq e/\aq f)->True->j7 (cD c f::cD a d::bz (cD b e))=rC (a,b,c) (d,e,f):= by
  delta aq aK bz ai
  rintro a b c d e f - -
  rfl
theorem ao1:aC 180 aZ6.spec:=aF Tryz.func180 (ap (ap aD FN) F0) aU ay8
theorem ab7:Go.Sort.SWO (Go.Proofs.ltOf rC):=⟨λx=>eT (by rw[Ax];omega),λx y z h k=>by
 have h:=Ax.1 (aX h)
 have k:=Ax.1 (aX k)
 exact ft (Ax.2 ab),λx y z h k=>by
 have h:=bg h
 have k:=bg k
 rw[Ax] at h k
 exact eT (by rw[Ax];omega)⟩
open Go.Shelf in
def bT5:Ren:=⟨λx=>match x with|6=>179|15=>207|14=>225|28=>257|29=>258|20=>263|21=>264|22=>265|23=>266|24=>267|25=>268|26=>269|27=>270|46=>294|47=>289|48=>290|49=>295|50=>296|57=>312|n=>n,
 λx=>match x with|22=>98|24=>101|25=>296|39=>186|53=>51|55=>255|46=>357|45=>356|50=>170|66=>385|70=>389|76=>409|77=>410|n=>n,λx=>x⟩
def Rh (P : cF1) (f : Nat) : String := match P.funcs[f]? with | some F => F.name | none => ""
theorem To {P : cF1} {f : Nat} {B : Go.Func} (h1 : (Rh P f == "runtime.NumGoroutine") = bZ6) (h2 : P.funcs[f]? = bZ1 { B with name := Rh P f }) : Bears P f B := ⟨_, h1, h2⟩
theorem ab0:SlLaysF0.n6 Tryz.prog bT5:=by
 constructor <;> first|exact ir|exact To (by kernel_rfl) (by kernel_rfl)|kernel_rfl|(intro w;kernel_rfl)
def a43:Go.SX.Spec:=Ln u7 101 180 rC (dY rC)
theorem aF8:aC 179 a43:=by
 exact YA rfl ab7 ao1 ab0 rfl (λw=>by kernel_rfl) (λw=>by kernel_rfl) (enters_of Tryz.func180 (by kernel_rfl) rfl) (λh=>CT.noConfusion h) (λ_=>rfl)
theorem bp6{ts:List fM}{i:Int}(h0:0<=i):mE ts (it (i+1))=mE ts (it i)++tu i (Om ts (it i) Sk) (Om ts (it i) Sk).2.2.2.2.2.2.toNat:=by
 rw[show it (i+1)=it i+1 by omega]
 unfold mE
 rw[mZ,List.flatMap_append,List.flatMap_singleton,cw2 h0]
theorem bP5{i r:Int}{t:fM}(h0:0<=r):tu i t (it (r+1))=tu i t (it r)++[(i,r,t.2.2.2.2.1+r*t.2.2.2.2.2.1)]:=by
 rw[show it (r+1)=it r+1 by omega]
 unfold tu
 rw[mZ,kJ,List.map_singleton,cw2 h0]
theorem ZG(x y:fj)(h:¬ rC x y<0)(k:¬ rC y x<0):x=y:=by
 rw[Ax] at h k
 have ⟨a,b,c⟩:=x
 have ⟨a',b',c'⟩:=y
 simp only at h k
 simp only[cy]
 omega
theorem a55{p:iH.D}(h:lV p):be (ij p)<=216:=by
 have:=(tL rC (mE p.1 (be p.1))).length_eq
 have:=Ja h.2.1 (be p.1) (dq _)
 have:=h.1
 unfold ij;omega
theorem aV7(p:iH.D)(l:List fj):(ye p l).2.length<=be l:=by
 have ⟨m,e,hm⟩:=PF p.2 l (zC p.2 0,[])
 unfold ye
 rw[e]
 exact hm.length_le
def Su:Ct:=⟨[.agg iH],[.own 101 u7],λd=>[lV d.1],λd=>((ij d.1,()),())⟩
def bI1:bw Su.ps->bL:=(λd=>{loops:=(bu 3 (λS=>{ι:=Int×bY7,qn:=fH,μ:=λi=>it (be d.1.1-i.1),inv:=λi=>0<=i.1/\i.1<=be d.1.1/\i.2=mE d.1.1 (it i.1),keep:=[1,8,9],slots:=λi=>[(3,.own 524288 3),(10,.int .i64 i.1)],keepN:=[32],names:=λi=>[(524288,.live (.row 101 u7 i.2))]}) (bu 6 (λS=>{ι:=Int×bY7,qn:=fH,μ:=λi=>it (S.i 16-i.1),inv:=λi=>0<=i.1/\i.1<=S.i 16/\i.2=mE d.1.1 (it (S.i 10))++tu (S.i 10) (Om d.1.1 (it (S.i 10)) Sk) (it i.1),keep:=[1,4,5,8,9,10,16],slots:=λi=>[(3,.own 524288 3),(17,.int .i64 i.1)],keepN:=[32,96],names:=λi=>[(524288,.live (.row 101 u7 i.2))]}) cC))})
def KK(a:Int)(b:List fM)(c:Int)(d:List fj):=am a (a<=(ae b c).2.2.2.2.2.2) (d=mE b (it c)++tu c (ae b c) (it a))
def L7(a:List fM)(b c d:Int)(e:fM)(f g:List fj):=a=a/\aZ b c (ae a d).1 (ae a d).2.1 (e.2.2.1=e.2.2.1) (aZ e.2.2.2.1 e.2.2.2.2.1 e.2.2.2.2.2.1 e.2.2.2.2.2.2 (f=g) True)
def MM(a b:Int)(c:List fM):=[(a,b,ao ((ae c a).2.2.2.2.1+ao (b*(ae c a).2.2.2.2.2.1)))]
theorem aV5:
 ∀(a:List fM)(b c:Int),ai (qj a b c)->uy a b c->(∃(d:Int) (e:List fj),am d (d<=ac a) (e=mE a (it d))/\a=a/\bn (ac a) (ac a) 0 d (a=a) (bp b c (e=[]) True))/\ ∀(d:Int)(e:List fj),am d (d<=ac a) (e=mE a (it d))->fh d (ac a) (d<ac a) ((∃(f:Int) (g:List fj),KK f a d g/\d=d/\a=a/\bN (ac a) d (ae a d).2.2.2.2.2.2 (0=f) (L7 a b c d (ae a d) e g))/\ ∀(f:Int)(g:List fj),KK f a d g->ar (ax f (ae a d).2.2.2.2.2.2) (bP ((be g+be (MM d f a))*24)/\ ∃(h:Int) (i:List fj),KK h a d i/\bj (ae a d).2.2.2.2.2.2 h f/\d=d/\a=a/\bN (ac a) d (ae a d).2.2.2.2.2.2 (bf f h) (L7 a b c d (ae a d) (g++MM d f a) i)) (∃(h:Int) (i:List fj),am h (h<=ac a) (i=mE a (it h))/\bj (ac a) h d/\a=a/\ac a=ac a/\bf d h/\a=a/\bp b c (g=i) True)) (ac e<=1000000) ((∀(f:fj),f∈e-> ∀(g:fj),g∈e-> ¬rC f g<0-> ¬rC g
 f<0->f=g)/\dY rC e=ij (a,b,c)):= by
  delta ae ac ao aq aK aZ bN bp aO bG bj qj am bP fh ai uy bf cN KK L7 ax bn MM
  rintro x u v ⟨⟨⟨hl,-⟩,-⟩,-⟩ hp
  have hp:=hp
  have h9:=hp.1
  refine⟨⟨0,[],⟨ab,ab,rfl⟩,aI⟩,?_⟩
  rintro i l ⟨i0,i1,rfl⟩
  have len:=Ja (ts:=x) hp.2.1 (it i) ab
  refine ci (λhi=>?_) (λhi=>?_)
  .have tk:=Nt (hp.2.1 _ (dm i0 hi))
   have nx:=bp6 (ts:=x) i0
   generalize Om (α:=fM) x (it i) Sk=t at *
   have ⟨⟨s0,s1⟩,⟨v0,v1⟩,c0,c1⟩:=tk
   refine⟨i0,hi,⟨0,mE x (it i),⟨ab,ab,by unfold tu;simp⟩,aI⟩,?_⟩
   rintro r l ⟨r0,r1,rfl⟩
   refine ci (λhr=>?_) (λhr=>?_)
   .have p1:=Int.mul_le_mul ab v1 ab ab
    have p0:=Int.mul_nonneg r0 (show 0<=t.2.2.2.2.2.1 by omega)
    rw[aG (n:=r*t.2.2.2.2.2.1) ab ab,aG (n:=t.2.2.2.2.1+_) ab ab]
    have lt:be (tu i t (it r))=it r:=by unfold tu;rw[kW,List.length_range]
    refine⟨by simp only[bM,lt,eI];omega,r+1,_,⟨ab,ab,rfl⟩,ab,?_⟩
    (repeat refine ik ?_)
    exact⟨by rw[bP5 r0,fV],aP⟩
   .refine⟨i+1,_,⟨ab,ab,rfl⟩,ab,?_⟩
    (repeat refine ik ?_)
    exact⟨by rw[nx,show r=t.2.2.2.2.2.2 by omega],aP⟩
  .have e:it i=be x:=ab
   rw[e] at len ⊢
   exact⟨ab,λx _ y _ h k=>ZG x y h k,rfl⟩
theorem Zx:aC 117 Su.spec:=aF Tryz.func117 (ap aD aF8) bI1 aV5
def ad9:Ct:=⟨[.agg iH],[.fn 116 1,.box 49 iH],λ_=>[],λd=>(((),d.1,()),())⟩
theorem br8:
 ∀(a:List fM)(b c:Int),dW (qj a b c) (()=()/\(a,b,c)=(a,b,c)):= by
  delta aq aK aO bG qj ai dW
  exact λ_ _ _ _ _=>⟨rfl,rfl⟩
theorem bO2:aC 58 ad9.spec:=aF Tryz.func58 aD aU br8
def H1:Ct:=⟨[.agg u7,.box 98 (.row 101 u7)],[],λd=>[(be d.2.1:Int)<=1000],λd=>((),(d.2.1++[d.1],()))⟩
def Dq(r:Loop):Prop:=Bw Tryz.prog GL r [2] (AV H1.spec)
def I8(a:List fj):=be a<=cb2/\ ∀(b:fj),b∈a->aq b.1/\aq b.2.1/\aq b.2.2
theorem aa6:
 ∀(a b c:Int)(d:List fj),(aq a/\aq b/\aq c)/\ai (I8 d)->ac d<=1000->bP ((be d+be [(a,b,c)])*24)/\d++[(a,b,c)]=d++[(a,b,c)]:= by
  delta ac aq aK bP ai I8
  rintro a b c l-h
  exact⟨by simp only[eI];omega,rfl⟩
theorem bg0{r:Loop}(hr:vf (cy0 Tryz.f115) (Ic Tryz.f115) r):Dq r:=Ct.okR H1 oS aD ir aU (BG oS aa6) hr
def Sx:Ct:=⟨[.yld [2] 1,.box 98 (.row 101 u7),.box 49 iH],[],λd=>[Dq d.1,d.2.1=[],lV d.2.2.1],λd=>((),(fD d.2.2.1,d.2.2.1,()))⟩
def bx5:bw Sx.ps->bL:=(λd=>{loops:=(bu 2 (λS=>{ι:=Int×bg8×bY7,qn:=oB,μ:=λi=>it (be (ij d.2.2.1)-i.1),inv:=λi=>0<=i.1/\i.1<=be (ij d.2.2.1)/\(i.2.1,i.2.2)=ye d.2.2.1 ((ij d.2.2.1).take (it i.1)),keep:=[0,1,3,11,12],slots:=λi=>[(13,.int .i64 i.1)],keepN:=[1048577,192],names:=λi=>[(64,.live (.cells 159 (cF yT i.2.1))),(1048576,.live (.cells 98 [.own 524288 3])),(524288,.live (.row 101 u7 i.2.2))]}) cC)})
def Ga(a:Int)(b:List fM)(c d:Int)(e:bg8)(f:List fj):=am a (a<=ac (ij (b,c,d))) ((e,f)=ye (b,c,d) (take (it a) (ij (b,c,d))))
def Ei(a b:Int)(c:bg8)(d:List fM)(e:Int):=gh (a,b) c (ae (ij (d,a,b)) e).2.2
theorem aV0:
 ∀(a:Go.Loop)(b:List fj)(c:List fM)(d e:Int),True/\I8 b/\ai (qj c d e)->Dq a/\b=[]/\uy c d e->lV (c,d,e)/\(∃(f:Int) (g:bg8) (h:List fj),Ga f c d e g h/\a=a/\bn (ac (ij (c,d,e))) (ac (ij (c,d,e))) 0 f (c=c) (bp d e (ij (c,d,e)=ij (c,d,e)) (w (d*e)=g.1/\0=g.2/\ai (b=h))))/\ ∀(f:Int)(g:bg8)(h:List fj),Ga f c d e g h->fh f (ac (ij (c,d,e))) (f<ac (ij (c,d,e))) (∀(i:Bool),i=(Ei d e g c f).2->pg i i (i->i) (Bw Tryz.prog GL a [2] (AV (Ct.spec H1))/\ac h<=1000/\(i->i)/\ar (br i ( !bZ3)) (h++[ae (ij (c,d,e)) f]=fD (c,d,e)/\(c,d,e)=(c,d,e)) (∃(j:Int) (k:bg8) (l:List fj),Ga j c d e k l/\bj (ac (ij (c,d,e))) j f/\a=a/\ac (ij (c,d,e))=ac (ij (c,d,e))/\bf f j/\c=c/\bp d e (ij (c,d,e)=ij (c,d,e)) ((Ei d e g c f).1.1=k.1/\(Ei d e g c f).1.2=k.2/\ai (h++[ae (ij (c,d,e)) f]=l))))
 (i->bZ6) (ar (br i bZ6) (h=fD (c,d,e)/\(c,d,e)=(c,d,e)) (∃(j:Int) (k:bg8) (l:List fj),Ga j c d e k l/\bj (ac (ij (c,d,e))) j f/\a=a/\ac (ij (c,d,e))=ac (ij (c,d,e))/\bf f j/\c=c/\bp d e (ij (c,d,e)=ij (c,d,e)) ((Ei d e g c f).1.1=k.1/\(Ei d e g c f).1.2=k.2/\ai (h=l))))) (h=fD (c,d,e)) ((c,d,e)=(c,d,e)):= by
  delta ae ac ao aq aK bp aO bG bj br qj am fh ai uy bf Ga pg cN ax bn Ei I8
  rintro r l0 x u v-⟨hr,rfl,hp⟩
  have hp:lV (x,u,v):=hp
  have hn:=a55 hp
  refine⟨hp,⟨0,_,_,⟨ab,ab,rfl⟩,aI⟩,?_⟩
  rintro i k l ⟨i0,i1,hk⟩
  refine ci (λhi=>?_) (λhi=>?_)
  .have nx:=aX9 (p:=(x,u,v)) i0 hi
   have ln:=aV7 (x,u,v) ((ij (x,u,v)).take (it i))
   rw[← hk] at nx ln
   have ln:be l<=216:=by rw[eM] at ln;simp only at ln;omega
   refine⟨i0,hi,?_⟩
   generalize Om (α:=fj) (ij (x,u,v)) (it i) Sk=d at *
   rintro b hb
   refine aw (λh=>?_) (λh=>?_)
   .subst h
    refine⟨λ_=>rfl,λ_=>rfl,hr,ab,λ_=>rfl,iu.2 ⟨i+1,_,_,⟨ab,ab,nx.symm⟩,ab,?_⟩⟩
    (repeat refine ik ?_)
    refine⟨?_,aP⟩
    rw[aj hb.symm]
   .subst h
    refine⟨rfl,λq=>(by cases q),iu.2 ⟨i+1,_,_,⟨ab,ab,nx.symm⟩,ab,?_⟩⟩
    (repeat refine ik ?_)
    refine⟨?_,aP⟩
    rw[ah (by show ¬ (gh (u,v) k d.2.2).2=bZ3;rw[← hb];decide)]
  .rw[gN ab] at hk
   exact⟨dP Prod.snd hk,rfl⟩
theorem bG5:aC 116 Sx.spec:=aF Tryz.func116 (S8 (s:=AV H1.spec) (ap (ap (ap aD VO) Zx) Ow)) bx5 aV0
def Ud:Ct:=⟨[.nils,.fn 116 1,.box 49 iH],[.own 101 u7],λd=>[lV d.2.2.1],λd=>((fD d.2.2.1,()),(d.2.2.1,()))⟩
noncomputable def aQ4:bw Ud.ps->bL:=(λd=>{ys:=[2],ln:=cy0 Tryz.f115,lo:=Dq})
theorem bR7:
 ∀(a:List fM)(b c:Int),True/\True/\ai (qj a b c)->uy a b c-> ∀(d:Go.Loop),Dq d->Dq d/\([]:List fj)=([]:List fj)/\lV (a,b,c)/\fD (a,b,c)=fD (a,b,c)/\(a,b,c)=(a,b,c):= by
  delta aq aK aO bG qj ai uy
  rintro x u v-h r hr
  exact⟨hr,rfl,h,rfl,rfl⟩
theorem bj7:aC 115 Ud.spec:=Ct.okY _ Tryz.func115 (x:=Ic Tryz.f115) oS (ap aD bG5) ir aQ4 (λ_ _ hr=>bg0 hr) (BG oS bR7)
def bi3:Ct:=⟨[.fn 116 1,.box 49 iH],[.own 101 u7],λd=>[lV d.2.1],λd=>((fD d.2.1,()),(d.2.1,()))⟩
theorem aB8:
 ∀(a:List fM)(b c:Int),True/\ai (qj a b c)->uy a b c->lV (a,b,c)/\fD (a,b,c)=fD (a,b,c)/\(a,b,c)=(a,b,c):= by
  delta aq aK aO bG qj ai uy
  exact λ_ _ _ _ h=>⟨h,rfl,rfl⟩
theorem aE4:aC 57 bi3.spec:=aF Tryz.func57 (ap aD bj7) aU aB8
def aG1:Ct:=⟨[.agg iH],[.own 101 u7],λd=>[lV d.1],λd=>((fD d.1,()),())⟩
theorem ba9:
 ∀(a:List fM)(b c:Int),ai (qj a b c)->uy a b c->lV (a,b,c)/\fD (a,b,c)=fD (a,b,c):= by
  delta aq aK aO bG qj ai uy
  exact λ_ _ _ _ h=>⟨h,rfl⟩
theorem ap5:aC 25 aG1.spec:=aF Tryz.func25 (ap (ap aD bO2) aE4) aU ba9
def kZ(n w:Int):Prop:=1<=w/\w<=4/\0<=n/\n<256^it w
theorem Lz{n:Int}(h0:0<=n)(h1:n<=255):kZ n 1:=⟨by decide,by decide,h0,by show n<256;omega⟩
theorem u5{n:Int}(h0:0<=n)(h1:n<=65535):kZ n 2:=⟨by decide,by decide,h0,by show n<65536;omega⟩
theorem Km{n:Int}(h0:0<=n)(h1:n<=4294967295):kZ n 4:=⟨by decide,by decide,h0,by show n<4294967296;omega⟩
def U5:Cn:=⟨[.val (.sl bm),.val cI,.val cI],[.own 5 bm,.val cI],λd=>[(be d.1:Int)<=2000,kZ d.2.1 d.2.2.1],λd y=>(be y.1.1:Int)=be d.1+d.2.2.1,λd h=>⟨((d.1++replicate (it d.2.2.1) 0,0,()),()),by have:=h.2.1.1;simp;omega⟩⟩
def aJ9:bw U5.ps->bL:=(λd=>{loops:=(bu 5 (λS=>{ι:=Int×ad,qn:=fH,μ:=λi=>it (d.2.2.1-i.1),inv:=λi=>0<=i.1/\i.1<=d.2.2.1/\(be i.2:Int)=be d.1+i.1,keep:=[1,2],slots:=λi=>[(8,.own 524288 1),(9,.int .i64 (d.2.2.1-1-i.1))],names:=λi=>[(524288,.live (.row 5 bm i.2))]}) cC)})
def lU(a:ad):=ac a<=2000
theorem bl0:
 ∀(a:ad)(b c:Int),aQ a/\dV b c->lU a/\1<=c/\c<=4/\0<=b/\b<256^it c->Kp c (dH b) (ai (0<=ao (8*c))) (bZ2 (fX bZ4 1 (ao (8*c))<=b)) ((↑((0:Nat)):Int)=ac a+c) (bP (be a*1)/\(∃(d:Int) (e:ad),am d (d<=c) (ac e=ac a+d)/\bp b c (ao (c -1)=c -1 -d) (ai (a=e)))/\ ∀(d:Int)(e:ad),am d (d<=c) (ac e=ac a+d)->ar (fp (c -1 -d)) (am (ao (8*(c -1 -d))) (gp e (bz (bZ5 cc4 (eZ bZ4 b (ao (8*(c -1 -d))))))) (∃(f:Int) (g:ad),am f (f<=c) (ac g=ac a+f)/\bj c f d/\bp b c (ao (c -1 -d -1)=c -1 -f) (ai (e++bz (bZ5 cc4 (eZ bZ4 b (ao (8*(c -1 -d)))))=g)))) (ac e=ac a+c)):= by
  delta ac ao aq aK aQ bR bp aJ bq bj gp am bP bv gq sk bz ai dV dA cN fp dH Kp lU ax bn
  rintro b n w ⟨-,⟨n0,n1⟩,-⟩⟨hl,w1,w4,h0,h1⟩
  rw[aG (n:=8*w) ab ab]
  (repeat (refine cL ?_;repeat refine cK ?_))
  refine aw (λq=>?_) (λ_=>⟨ab,⟨0,b,⟨ab,ab,ab⟩,rfl,rfl,by rw[aG ab ab];omega,aI⟩,?_⟩)
  .exfalso
   have e:=Mh w1 ab
   rw[aG (n:=8*w) ab ab] at e
   rw[e] at q
   simp[ic] at q
   omega
  rintro k ys ⟨k0,k1,hy⟩
  refine ci (λq=>?_) (λq=>?_)
  .rw[aG (n:=8*(w-1-k)) ab ab,aG (n:=w-1-k-1) ab ab]
   exact⟨ab,by simp;omega,k+1,ys++[_],⟨ab,ab,by rw[bM,eI];omega⟩,ab,rfl,rfl,ab,rfl,aP⟩
  .omega
theorem bx0:aC 160 U5.spec:=lL Tryz.func160 aD aJ9 bl0
def aG9:Cn:=⟨[.val (.sl bm),.val cI,.val cI],[.own 5 bm],λd=>[(be d.1:Int)<=2000,kZ d.2.1 d.2.2.1],λd y=>(be y.1.1:Int)=be d.1+d.2.2.1,λd h=>⟨((d.1++replicate (it d.2.2.1) 0,()),()),by have:=h.2.1.1;simp;omega⟩⟩
theorem a99:
 ∀(a:ad)(b c:Int),aQ a/\dV b c->lU a/\1<=c/\c<=4/\0<=b/\b<256^it c->lU a/\kZ b c/\ ∀(d:ad)(e:Int),ac d=ac a+c->ac d=ac a+c:= by
  delta ac aq aK aQ ai dV lU
  exact λb n w _ h=>⟨h.1,h.2,λ_ _ k=>k⟩
theorem IP:aC 90 aG9.spec:=lL Tryz.func90 (ap aD bx0) aU a99
def iY(n:Int):Prop:=0<=n/\n<=65535
theorem zk:iY 0:=⟨by decide,by decide⟩
def a40:Cn:=⟨[.val cI,.val cI],[.val cI],λ_=>[],λd y=>iY y.1.1,λ_ _=>⟨((0,()),()),zk⟩⟩
def OD(a b:Int):=ao (bits BinOp.and bZ4 (ao (a+b)) 65535+eZ bZ4 (ao (a+b)) 16)
theorem aK1:
 ∀(a b:Int),dV a b->True->lC ( !fy a) ( !fy b) (qa 0) (am 16 (0<=OD a b) (OD a b<=65535)):= by
  delta ao aq aK bR aJ bq cV am bv lC ai dV qa OD
  rintro a b - -
  (repeat (refine cL ?_;repeat refine cK ?_))
  refine aw (λ_=>⟨aB,aB⟩) (λq=>?_)
  have h:(0<=a/\a<=65535)/\0<=b/\b<=65535:=by
   have:fy a=bZ3/\fy b=true:=by simpa[ic] using q
   exact⟨aX this.1,aX this.2⟩
  rw[aG (n:=a+b) ab ab]
  have e:=EJ (n:=a+b) (k:=2) ab ab
  rw[show (8:Int)*((2:Nat):Int)=16 from rfl,show (256:Int)^2=65536 from rfl] at e
  rw[e,FU,aG ab ab]
  omega
theorem Ys:aC 161 a40.spec:=lL Tryz.func161 (ap aD aO9) aU aK1
def V6:Cn:=⟨[.val (.sl bm)],[.val cI],λd=>[(be d.1:Int)<=2000],λd y=>iY y.1.1,λ_ _=>⟨((0,()),()),zk⟩⟩
def bk2:bw V6.ps->bL:=(λd=>{loops:=(bu 3 (λS=>{ι:=Int×Int,qn:=fH,μ:=λi=>it (be d.1+1-2*i.1),inv:=λi=>0<=i.1/\2*i.1<=be d.1+1/\iY i.2,keep:=[0],slots:=λi=>[(3,.int .i64 i.2),(4,.int .i64 (2*i.1))]}) cC)})
def LQ(a:ad)(b:Int):=∀(c:Int),iY c-> ∃(d e:Int),am d (2*d<=ac a+1) (iY e)/\bj (ac a+1) (2*d) (2*b)/\a=a/\c=e/\ai (ao (2*b+2)=2*d)
theorem a78:
 ∀(a:ad),ai (aQ a)->lU a->(∃(b c:Int),am b (2*b<=ac a+1) (iY c)/\a=a/\0=c/\ai (0=2*b))/\ ∀(b c:Int),am b (2*b<=ac a+1) (iY c)->fh (2*b) (ac a) (2*b<ac a) ((0:Int)<=(8:Int)/\ar (ax (ao (2*b+1)) (ac a)) (am (ao (2*b+1)) (ao (2*b+1)<ac a) (LQ a b)) (LQ a b)) (0<=c) (c<=65535):= by
  delta ac ao aQ bj am fh ai cN LQ lU ax
  rintro l-hl
  refine⟨⟨0,0,⟨ab,ab,zk⟩,aI⟩,?_⟩
  rintro k s ⟨k0,k1,hs⟩
  refine aw (λq=>?_) (λ_=>hs)
  have q:=aX q
  rw[aG (n:=2*k+1) ab ab,aG (n:=2*k+2) ab ab]
  refine⟨ab,q,aB,aw (λz=>⟨ab,aX z,λx hx=>?_⟩) (λ_ x hx=>?_)⟩ <;> exact⟨k+1,x,⟨ab,ab,hx⟩,ab,rfl,rfl,ab,aP⟩
theorem aS0:aC 212 V6.spec:=lL Tryz.func212 (ap aD Ys) bk2 a78
def bU3:Cn:=⟨[.val (.sl bm)],[.val cI],λd=>[(be d.1:Int)<=2000],λd y=>iY y.1.1,λ_ _=>⟨((0,()),()),zk⟩⟩
theorem aI3:
 ∀(a:ad),ai (aQ a)->lU a->lU a/\ ∀(b:Int),iY b->qa (ao (65535 -b)):= by
  delta ac ao aQ ai lU qa
  rintro l-hl
  exact⟨hl,λx ⟨h0,h1⟩=>by rw[aG ab ab];omega⟩
theorem TO:aC 157 bU3.spec:=lL Tryz.func157 (ap aD aS0) aU aI3
def Yi:Cn:=⟨[.agg pC,.val cI],[.own 5 bm],λd=>[nj d.1,0<=d.2.1,d.2.1<=65535],λd y=>be y.1.1=20,λ_ _=>⟨((replicate 20 0,()),()),rfl⟩⟩
def az0:bw Yi.ps->bL:=(λd=>{cuts:=(bu 4 (λS=>{ι:=Int,inv:=λi=>iY i,keep:=[1,2],slots:=λi=>[(5,.int .i64 i)],keepN:=[48]}) cC)})
def vS(a:ad)(b:Int)(c d:Prop):=ac a=b+2->lU a/\c/\d
def wK:=(↑((0:Nat)):Int)<=2000
theorem bb4:
 ∀(a:dK)(b:Int),CT.wf pC a/\ai (aq b)->nj a/\qa b->ar a.2.2.2.2.1 (∃(c:Int),iY c/\b=b/\16384=c/\aZ a.1 a.2.1 a.2.2.1 a.2.2.2.1 (a.2.2.2.2.1=a.2.2.2.2.1) (m5 a.2.2.2.2.2.1 a.2.2.2.2.2.2)) (∃(c:Int),iY c/\b=b/\0=c/\aZ a.1 a.2.1 a.2.2.1 a.2.2.2.1 (a.2.2.2.2.1=a.2.2.2.2.1) (m5 a.2.2.2.2.2.1 a.2.2.2.2.2.2))/\ ∀(c:Int),iY c->wK/\kZ 69 1/\ ∀(d:ad),ac d=(↑((0:Nat)):Int)+1->lU d/\kZ a.1 1/\ ∀(e:ad),ac e=ac d+1->lU e/\kZ b 2/\ ∀(f:ad),vS f (ac e) (kZ a.2.1 2) (∀(g:ad),vS g (ac f) (kZ c 2) (∀(h:ad),vS h (ac g) (kZ a.2.2.1 1) (∀(i:ad),ac i=ac h+1->lU i/\kZ a.2.2.2.1 1/\ ∀(j:ad),ac j=ac i+1->wK/\kZ (ao a.2.2.2.2.2.1) 4/\ ∀(k:ad),ac k=(↑((0:Nat)):Int)+4->lU k/\kZ (ao a.2.2.2.2.2.2) 4/\ ∀(l:ad),ac l=ac k+4->bP (be j*1)/\gp lX l/\gp j
 (lX++l)/\lU (j++(lX++l))/\ ∀(m:Int),iY m->lU j/\kZ m 2/\ ∀(n:ad),ac n=ac j+2->gp n l/\be (n++l)=20))):= by
  delta ac ao aq aK aZ bN bp gp bP bz ai m5 lX lU bn vS qa wK
  rintro h n ⟨hw,-⟩⟨hok,n0,n1⟩
  obtain⟨-,-,-,-,-,s0,d0⟩:=hw
  have s0:0<=h.2.2.2.2.2.1/\h.2.2.2.2.2.1<=4294967295:=s0
  have d0:0<=h.2.2.2.2.2.2/\h.2.2.2.2.2.2<=4294967295:=d0
  have ⟨h1,h2,h3,h4,h5⟩:=hok
  rw[aG (n:=h.2.2.2.2.2.1) ab ab,aG (n:=h.2.2.2.2.2.2) ab ab]
  refine⟨aw (λ_=>⟨16384,⟨aB,aB⟩,aI⟩) (λ_=>⟨0,zk,aI⟩),λf hf=>?_⟩
  exact⟨aB,Lz aB aB,λa ha=>⟨ab,Lz h1.1 h1.2,λb hb=>⟨ab,u5 n0 n1,λc hc=>⟨ab,u5 h4 h5,λd hd=>⟨ab,u5 hf.1 hf.2,λe he=>⟨ab,Lz h2.1 h2.2,λg hg=>⟨ab,Lz h3.1 h3.2,λi hi=>⟨aB,Km s0.1 s0.2,λj hj=>⟨ab,Km d0.1 d0.2,λk hk=>⟨ab,by simp;omega,by simp;omega,by simp;omega,λm hm=>⟨ab,u5 hm.1 hm.2,λo ho=>⟨ab,by rw[bM];omega⟩⟩⟩⟩⟩⟩⟩⟩⟩⟩⟩⟩
theorem bR4:aC 88 Yi.spec:=lL Tryz.func88 (ap (ap aD IP) TO) az0 bb4
def aM7:Cn:=⟨[.agg D5],[.own 5 bm,.val cI],λd=>[nj d.1.1,be d.1.2<=1000],λd y=>be y.1.1=be d.1.2+20,λd _=>⟨((replicate (be d.1.2+20) 0,0,()),()),by simp⟩⟩
theorem a85:
 ∀(a:ny),ai (CT.wf D5 a)->nj a.1/\be a.2<=1000->ar ( !aV (o6 a.1)) (0=be a.2+20) (ar (ax 1500 (ao (ac a.2+20))) (0=be a.2+20) (nj a.1/\am (ao (ac a.2+20)) (ao (ac a.2+20)<=65535) (∀(b:ad),be b=20->gp b a.2/\be (b++a.2)=be a.2+20))):= by
  delta ac ao gp am bP aV ai ax
  rintro⟨h,b⟩-⟨hh,hb⟩
  have hh:=hh
  have hb:be b<=1000:=hb
  rw[show o6 h=0 by rw[o6,aj hh]]
  show ar (!bZ2 ((0:Int)=0)) _ _
  refine iu.2 ?_
  show ar (bZ2 ((1500:Int)<bZ4.wrap ((be b:Int)+20))) _ _
  rw[aG (n:=(be b:Int)+20) ab ab]
  refine aw (λq=>by have q:=aX q;omega) (λ_=>⟨hh,ab,ab,λx hx=>⟨?_,?_⟩⟩)
  .show (be x+be b)*1<=_;omega
  .show (be (x++b))=_;rw[bM];show _=be b+20;omega
theorem bg7:aC 45 aM7.spec:=lL Tryz.func45 (ap (ap aD aD9) bR4) aU a85
def bb6:Cn:=⟨[.val (.sl bm),.val cI,.val cI],[.own 5 bm],λd=>[0<=d.2.1,d.2.1+2<=be d.1,be d.1<=2000],λd y=>be y.1.1=be d.1,λd _=>⟨((d.1,()),()),rfl⟩⟩
theorem bh8:
 ∀(a:ad)(b c:Int),aQ a/\dV b c->am b (b+2<=ac a) (be a<=2000)->bP (be a*1)/\am 8 (0<=b) (b<ac a/\am (ao (b+1)) (ao (b+1)<ac (set a (it b) (ue c))) (be (set (set a (it b) (ue c)) (jL (b+1)) (bZ5 cc4 c))=be a)):= by
  delta ac ao aq aK aQ am bP ai dV jL ue
  rintro b a n-⟨h0,h1,h2⟩
  rw[aG (n:=a+1) ab ab,gd,gd]
  exact⟨ab,aB,ab,ab,ab,ab,az⟩
theorem aj7:aC 159 bb6.spec:=lL Tryz.func159 aD aU bh8
def ae8:Cn:=⟨[.val dw,.val dw,.val cI,.val (.sl bm)],[.val cI],λd=>[d.2.2.1=17,be d.2.2.2.1<=1000],λd y=>iY y.1.1,λ_ _=>⟨((0,()),()),zk⟩⟩
theorem bW5:
 ∀(a b c:Int)(d:ad),aO a/\aO b/\aq c/\ai (aQ d)->c=17/\be d<=1000->lC ( !bZ2 (0<=c/\c<=255)) (ax 65535 (ac d)) (qa 0) (wK/\kZ (ao a) 4/\ ∀(e:ad),ac e=(↑((0:Nat)):Int)+4->lU e/\kZ (ao b) 4/\ ∀(f:ad),ac f=ac e+4->lU f/\kZ c 2/\ ∀(g:ad),vS g (ac f) (kZ (ac d) 2) (∀(h:ad),ac h=ac g+2->gp h d/\lU (h++d)/\ ∀(i:Int),iY i->qa i)):= by
  delta ac ao aq aK aQ bR aJ aO bq cV gp bP bv lC ai lU ax vS qa wK
  rintro a b p d ⟨⟨a0,a1⟩,⟨b0,b1⟩,-⟩⟨rfl,hd⟩
  rw[aG (n:=a) ab ab,aG (n:=b) ab ab]
  (repeat (refine cL ?_;repeat refine cK ?_))
  refine aw (λ_=>zk) (λ_=>⟨aB,Km a0 a1,λx h1=>⟨ab,Km b0 b1,λy h2=>⟨ab,u5 ab ab,λz h3=>⟨ab,u5 ab ab,λu h4=>⟨ab,by rw[bM];omega,λ_ h=>h⟩⟩⟩⟩⟩)
theorem Uv:aC 93 ae8.spec:=lL Tryz.func93 (ap (ap (ap aD aj4) IP) TO) aU bW5
def bf0:Cn:=⟨[.val dw,.val dw,.agg Mp],[.own 5 bm,.val cI],λd=>[iY d.2.2.1.1,iY d.2.2.1.2.1,be d.2.2.1.2.2<=900],λd y=>be y.1.1=be d.2.2.1.2.2+8,λd _=>⟨((replicate (be d.2.2.1.2.2+8) 0,0,()),()),by simp⟩⟩
def PQ(a b:ad):=am 6 (6+2<=ac (a++lX++b)) (be (a++lX++b)<=2000/\ ∀(c:ad),be c=be (a++lX++b)->be c=be b+8)
theorem br1:
 ∀(a b c d:Int)(e:ad),aO a/\aO b/\ai (aq c/\aq d/\aQ e)->iY c/\iY d/\be e<=900->qS ( !fy c) ( !fy d) (0=be e+8) (ar (ax 1480 (ao (ac e+8))) (0=be e+8) (wK/\kZ c 2/\ ∀(f:ad),vS f (↑((0:Nat)):Int) (kZ d 2) (∀(g:ad),vS g (ac f) (kZ (ao (ac e+8)) 2) (∀(h:ad),ac h=ac g+2->gp h lX/\gp (h++lX) e/\(17:Int)=(17:Int)/\be (h++lX++e)<=1000/\ ∀(i:Int),iY i->ar (aV i) (PQ h e) (PQ h e))))):= by
  delta ac ao aq aK aQ bR aJ aO bq cV gp am bP bv aV bz ai qS PQ lX lU ax vS wK
  rintro a b s d l-⟨hs,hd,hl⟩
  rw[(jA _).2 hs,(jA _).2 hd,aG (n:=(be l:Int)+8) ab ab]
  (repeat (refine cL ?_;repeat refine cK ?_))
  refine iu.2 (aw (λq=>by have q:=aX q;omega) (λ_=>⟨aB,u5 hs.1 hs.2,λx h1=>⟨ab,u5 hd.1 hd.2,λy h2=>⟨ab,u5 ab ab,λz h3=>?_⟩⟩⟩))
  have e:be (z++[0,0]++l)=be l+8:=by simp;omega
  rw[e]
  refine⟨by simp;omega,by simp;omega,rfl,ab,λ_ _=>aw (λ_=>?_) (λ_=>?_)⟩ <;> exact⟨aB,ab,ab,λ_ h=>h⟩
theorem ba6:aC 94 bf0.spec:=lL Tryz.func94 (ap (ap (ap (ap aD aC9) IP) Uv) aj7) aU br1
def aF5:Cn:=⟨[.val cI,.val cI],[.val cI],λd=>[iY d.1,iY d.2.1],λd y=>iY y.1.1,λ_ _=>⟨((0,()),()),zk⟩⟩
theorem be5:
 ∀(a b:Int),dV a b->iY a/\qa b-> ∀(c:Int),iY c->ar (aV c) (qa 65535) (qa c):= by
  delta aq aK aV ai dV qa
  rintro a b - -
  exact λx h=>aw (λ_=>⟨aB,aB⟩) (λ_=>h)
theorem bW7:aC 91 aF5.spec:=lL Tryz.func91 (ap aD Ys) aU be5
def aV9:Cn:=⟨[.agg sF],[.own 5 bm],λd=>[d.1.2.2.1=17,cT d.1=0],λd y=>be y.1.1=10,λ_ _=>⟨((replicate 10 0,()),()),rfl⟩⟩
theorem aS7:
 ∀(a b c d e f:Int),qC a b c d e f->c=17/\cT (a,b,c,d,e,f)=0->ar (iN c) False (ar (bZ2 (c=17)) (wK/\kZ (ao (20000+d)) 2/\ ∀(g:ad),vS g (↑((0:Nat)):Int) (kZ 33434 2) (∀(h:ad),ac h=ac g+2->gp h (kD 0 10 0 0 0 (bz 0))/\(17:Int)=(17:Int)/\be (h++kD 0 10 0 0 0 (bz 0))<=1000/\ ∀(i:Int),iY i->iY i/\iY (ao (e+1))/\ ∀(j:Int),iY j->wK/\kZ j 2/\ ∀(k:ad),ac k=(↑((0:Nat)):Int)+2->iY (ao (20000+d))/\iY 33434/\be k<=900/\ ∀(l:ad)(m:Int),be l=be k+8->be l=10)) False):= by
  delta ac ao aq aK aO bG gp bP bz ai kD qC lU iN vS wK
  rintro s d p f t l-⟨rfl,he⟩
  obtain⟨-,⟨f0,f1⟩,⟨t0,t1⟩,-⟩:=pV.1 he
  simp only at f0 f1 t0 t1
  rw[aG (n:=20000+f) ab ab,aG (n:=t+1) ab ab]
  refine aw (λq=>by cases q) (λ_=>aw (λ_=>?_) (λq=>by cases q))
  exact⟨aB,u5 ab ab,λx h1=>⟨ab,u5 aB aB,λy h2=>⟨by simp;omega,rfl,by simp;omega,λz h3=>⟨h3,⟨ab,ab⟩,λu h4=>⟨aB,u5 h4.1 h4.2,λv h5=>⟨⟨ab,ab⟩,⟨aB,aB⟩,ab,λw _ h6=>ab⟩⟩⟩⟩⟩⟩
theorem bm5:aC 46 aV9.spec:=lL Tryz.func46 (ap (ap (ap (ap aD bW7) IP) Uv) ba6) aU aS7
def bf4:Cn:=⟨[.agg sF],[.val (.sl bm),.val cI],λd=>[d.1.2.2.1=17,cT d.1=0],λd y=>be y.1.1=30,λ_ _=>⟨((replicate 30 0,0,()),()),rfl⟩⟩
theorem bG4:
 ∀(a b c d e f:Int),qC a b c d e f->c=17/\cT (a,b,c,d,e,f)=0->ar ( !aV (cT (a,b,c,d,e,f))) ((0:Nat)=(30:Nat)) (c=17/\cT (a,b,c,d,e,f)=0/\ ∀(g:ad),be g=10->nj (0,e,f,c,bZ3,a,b)/\be g<=1000/\ ∀(h:ad)(i:Int),be h=be g+20->be h=30):= by
  delta aq aK aO bG aV ai qC
  rintro s d p f t l-⟨rfl,he⟩
  have hr:=pV.1 he
  obtain⟨-,⟨f0,f1⟩,⟨t0,t1⟩,l0,l1⟩:=hr
  simp only at t0 t1 l0 l1
  rw[he]
  exact iu.2 ⟨rfl,rfl,λx hx=>⟨by unfold nj rW;simp only;omega,ab,λy _ h=>ab⟩⟩
theorem bj4:aC 17 bf4.spec:=lL Tryz.func17 (ap (ap (ap aD aQ5) bm5) bg7) aU bG4
end Go.RS
namespace Go.SX
open Go.Proofs Go.Shelf Go.RowKit Go.Lib Go.Sort
def f5{α:Type} [DecidableEq α]:List α->List α
 | []=>[]
 | [x]=>[x]
 | x::y::l=>if x=y then f5 (y::l) else x::f5 (y::l)
theorem Ss{α:Type} [DecidableEq α]:∀{l:List α}{x:α},f5 (l++[x])=if l.getLast? = bZ1 x then f5 l else f5 l++[x]
 | [],x=>rfl
 | [a],x=>by
  show (if a=x then f5 [x] else a::f5 [x])=_;by_cases h:a=x
  .rw[aj h,aj (by rw[h];rfl),h]
  .simp[f5,h]
 | a::b::l,x=>by
  have ih:=@Ss _ _ (b::l) x;rw[kO,kO,f5,← kO,ih,List.getLast?_cons_cons,f5]
  (repeat' split) <;> simp
theorem OE{α:Type} [DecidableEq α]:∀ l:List α,be (f5 l)<=be l
 | []=>dq _
 | [a]=>dq _
 | a::b::l=>by
  have:=OE (b::l);rw[f5];split <;> simp only[cX] at * <;> omega
theorem Q9{α β:Type} [DecidableEq α] [DecidableEq β] {f:α->β} (hf:∀ x y,f x=f y->x=y):∀ l:List α,f5 (l.map f)=(f5 l).map f
 | []=>rfl
 | [a]=>rfl
 | a::b::l=>by
  have ih:=Q9 hf (b::l);rw[fF] at ih;rw[fF,fF,f5,f5,ih];by_cases h:a=b
  .rw[aj h,aj (by rw[h])]
  .rw[ah h,ah (λq=>h (hf _ _ q))];rfl
theorem X1{α:Type} [Inhabited α] [DecidableEq α] (d:Array α):∀ m:Nat,m<=d.size->compactUpTo d m=f5 (d.toList.take m)
 | 0,_=>rfl
 | m+1,h=>by
  have hm:m<be d.toList:=by simp;omega
  rw[compactUpTo_succ,X1 d m ab,zu hm,Ss];have e:d.toList[m]=d[m]! := by rw[getElem!_pos d m h];rfl
  rw[e];have q:keeps d m=bZ3↔¬ (d.toList.take m).getLast? = bZ1 d[m]! := by
   unfold keeps;rw[sC];cases m with
   | zero=>simp
   | succ k =>
    rw[List.getLast?_take,ah ab,Nat.add_sub_cancel,cG ab,Option.some_or,cE,show d.toList[k]=d[k]! by rw[getElem!_pos d k ab];rfl];exact⟨λz=>z.elim (λz=>(by cases z)) (λz y=>z y.symm),λz=>.inr λy=>z y.symm⟩
  by_cases hk:keeps d m=bZ3
  .rw[aj hk,ah (q.1 hk)]
  .rw[ah hk,aj (ce3.1 λz=>hk (q.2 z)),iX]
def Zk(P:Program)(F E:bZ8)(k:Nat):Prop :=
 (∀(w:ca8)(p:Option Addr)(n c:Nat),n<2->Calls P F #[.slice p n c] w λe w'=>e = .returned (.slice p n c)/\w'=w) ∧
 ∀(α:Type) [Inhabited α] [DecidableEq α] (enc:α->List ca2),(∀ x,be (enc x)=k)->(∀ x,∀ v∈enc x,v.oneCell'=bZ3)->EqlAt P E (λx=>.agg (enc x).toArray) (λx y=>bZ2 (x=y))->NeqAt P E (λx=>.agg (enc x).toArray) (λx y=>bZ2 (x=y)) →
  ∀(blk off cap:Nat)(d:Array α)(w:ca8),HoldsK enc k w blk off d->d.size<=100000->d.size<=cap->2<=d.size →
  Calls P F #[.slice (bZ1 ⟨blk,off,bZ9⟩) d.size cap] w λe w'=>e = .returned (.slice (bZ1 ⟨blk,off,bZ9⟩) (be (compactUpTo d d.size)) cap)∧∃ (q:Nat) (G:Array ca2),G.size=d.size*k/\(∀ i (hi:i<be (compactUpTo d d.size)),∀ j,j<k->bZ1 G[i*k+j]! = (enc (compactUpTo d d.size)[i])[j]?)/\w'=putRow id (Sort.ahead w q) blk off G
def Pl(u:CT)(E:bZ8)(cmp:List u.D->List u.D):Spec:=λbase svs=>match svs with
 | [.own n sz] => .ask n fun
  | .live (.row E' u' xs)=>match ca0 E' E,ca0 sz u.size,iq u' u xs with
   | true,bZ3,bZ1 ys => .ask base fun
    | .un => .ret (.det [(be ys:Int)<=100000] (.own base u.size) [(base,.live (.row E u (cmp ys))),(n,.dead)])
    | _ => .fail
   | _,_,_ => .fail
  | _ => .fail
 | _ => .fail
section
variable {P:Program} {G:sH} {u:CT}
theorem bc5{F E:bZ8} [DecidableEq u.D] (hu:u.ints=bZ3) (raw:Zk P F E u.size) (hq:∀ x y:u.D,DU P E (cF u x) (cF u y)=bZ1 (bZ2 (x=y))) (nu:u ≠ .int .u8):mH P G F (Pl u E f5):=by
 intro base svs h d r e hp w0 N0 A env w vs hg m hd
 unfold Pl at e
 split at e
 case h_2=>cases e
 rename_i n sz
 simp only[Q.run] at e
 split at e
 case h_2=>cases e
 rename_i p0 q0 hk
 simp only[cE,cy] at e
 obtain⟨rfl,rfl⟩:=e
 split at hk
 case h_2=>cases hk
 rename_i E' u' xs hl
 split at hk
 case h_2=>cases hk
 rename_i ys hE hsz hcast
 have hE:=bK hE
 have hsz:=bK hsz
 have ⟨et,ey⟩:=kC hcast
 have et2:=et.symm
 subst et2 hE hsz
 simp only at ey
 subst ey
 simp only[Q.run] at hk
 split at hk
 case h_2=>cases hk
 rename_i p' q' hk'
 simp only[cE,cy] at hk
 obtain⟨rfl,rfl⟩:=hk
 split at hk'
 case h_2=>cases hk'
 rename_i hun
 cases cA hk'
 simp only[Dl.pre,bQ,g7] at hp
 simp only[aM] at hd
 obtain⟨sv,r1,rfl,ds,rfl⟩:=hd
 have hdn:∀ n'∈[n],∃ b,h n' = .live b/\b.mut=true:=by simp[hl,kG.mut]
 have ds':=ds
 simp only[aA] at ds'
 obtain⟨hnil,pa,rfl⟩|⟨b,⟨β,len⟩,E3,cc,hb,hsh,rfl⟩:=ds'
 .have hx:ys=[]:=by
   have:=m.nm n;rw[hl] at this;obtain⟨k',l',he',_⟩|⟨_,E3,t3,hb⟩:=this
   .rw[hnil] at he';cases he'
   .obtain hb|hb:=hb <;> cases hb;rfl
  subst hx;refine (raw.1 w pa 0 0 aB).mono ?_;rintro e w' ⟨rfl,rfl⟩;exact⟨_,rfl,pH (zs:=f5 []) m hun [n] hdn (W:=λ_=>False) (ev := .nil) (cZ.refl _ _) (λ_ h=>h.elim) (λh=>by cases h) (λk l e=>by cases e) (λx=>.inl ⟨rfl,rfl,pa,rfl⟩)⟩
 .have ⟨cur,cap,hh,hcs,hxl,hlc,hcm,hrdx⟩:=(m.live_blk hl hb).1;have hh:=hh.plain nu;simp only at hcs hxl hlc hrdx ⊢;have hcc:cc=cur.size/\E3=E':=by
   unfold cc7 at hsh;rw[hh] at hsh;simp only[cE,cy] at hsh;exact⟨hsh.2.symm,hsh.1.symm⟩
  obtain⟨rfl,rfl⟩:=hcc;have hcap:(cur.size-β)/u.size=cap:=by rw[hcs,nI];exact tx _ u.size_pos
  rw[hcap];by_cases h2:len<2
  .have e1:f5 ys=ys:=by
    have:∀ l:List u.D,be l<2->f5 l=l:=λl h=>by
     match l,h with
     | [],_=>rfl
     | [a],_=>rfl
     | _::_::_,q=>simp at q;omega
    exact this ys ab
   refine (raw.1 w (bZ1 ⟨b,β,.none⟩) len cap h2).mono ?_;rintro e w' ⟨rfl,rfl⟩;refine⟨_,rfl,pH (zs:=f5 ys) m hun [n] hdn (W:=λ_=>False) (ev := .blk b (β,len)) (cZ.refl _ _) (λ_ h=>h.elim) (λh=>by cases h) (λk l e=>by cases e;exact .inr ⟨n,(β,len),az,hb⟩) (λx=>.inr ⟨b,(β,len),cur.size,rfl,?_,hsh,by rw[hcap]⟩)⟩;rw[e1];exact (m.live_blk hl hb).1
  have wfy:∀ x∈ys,u.wf x:=λx hx=>by
   obtain⟨i,hi,rfl⟩:=cb5.1 hx;exact ((AR hu).1 (hrdx i hi)).1
  have ⟨y0,hy0⟩:=List.exists_mem_of_length_pos (l:=ys) ab;letI:Inhabited {x:u.D // u.wf x}:=⟨⟨y0,wfy _ hy0⟩⟩
  let enc:{x:u.D // u.wf x}->List ca2:=λx=>n9 u x.1;have hk:∀ x,be (enc x)=u.size:=λx=>G3 x.1 hu;let d0:Array {x:u.D // u.wf x}:=(ys.attach.map λx=>⟨x.1,wfy _ x.2⟩).toArray;have hd0:d0.size=be ys:=by simp[d0]
  have hd0m:d0.toList.map (·.1)=ys:=by
   show cg4 _ (cg4 _ ys.attach)=ys;rw[List.map_map];exact co9 ys
  have hd0i:∀ i (hi:i<be ys),(d0[i]!).1=ys[i]:=λi hi=>by
   rw[getElem!_pos d0 i (by rw[hd0];exact hi)];simp[d0]
  have hH:HoldsK enc u.size w b β d0:=λj hj=>by
   rw[size_flatK,hd0] at hj;have hk0:=u.size_pos;have hq:=cv2 (by rw[cf7];exact hj);have hr:j%u.size<u.size:=cE5 _ hk0;have ej:j/u.size*u.size+j%u.size=j:=by rw[cf7];exact cq1 j u.size
   refine⟨?_,by simp[cq5,hh]⟩;have e1:=((AR hu).1 (hrdx _ hq)).2 _ hr;have e2:=GP enc hk d0 (i:=j/u.size) (j:=j%u.size) (by rw[hd0];exact hq) hr;rw[ej] at e2;rw[gG,ej] at e1;rw[cell_of_row w b _ cur E3 (0,0) hh,e1];show _=bZ1 ((flatK enc u.size d0)[j]!);rw[e2];show _=(n9 u (d0[j/u.size]!).1)[_]?;rw[hd0i _ hq]
  have hEq:∀(x y:{x:u.D // u.wf x})(W:ca8),(Op.equalIn 10000 E3 (.agg (enc x).toArray) (.agg (enc y).toArray)).run P W = .ok (bZ2 (x=y)) W/\P.eqGuardType P.depth E3=false:=λx y W=>by
   have k:=hq x.1 y.1;unfold DU at k;split at k
   next h2=>refine⟨?_,h2⟩;have:=Mf (P:=P) (A:=λ_=>False) (env:=λ_=>.un) (w:=W) 6 10000 E3 (.agg (cF u x.1)) (.agg (cF u y.1)) _ _ _ ab k (by simp only[aA];exact⟨_,rfl,by simpa using El hu x.2⟩) (by simp only[aA];exact⟨_,rfl,by simpa using El hu y.2⟩);rw[this,decide_eq_decide.2 Subtype.ext_iff.symm]
   .cases k
  have hgd:GuardAt P E3 (λx:{x:u.D // u.wf x}=>.agg (enc x).toArray) := .agg _ (hEq (d0[0]!) (d0[0]!) w).2;have hcon:=raw.2 {x:u.D // u.wf x} enc hk (λx=>Kd x.1) ⟨λx y W=>by rw[run_eql_struct,(hEq x y W).1];rfl,hgd⟩ ⟨λx y W=>by rw[run_neq_struct,(hEq x y W).1];rfl,hgd⟩ b β cap d0 w hH ab ab ab;have hU:(compactUpTo d0 d0.size).map (·.1)=f5 ys:=by
   rw[X1 d0 _ (dq _),← fC,cg7,← Q9 (λx y=>cz8),hd0m]
  generalize compactUpTo d0 d0.size=cu at hcon hU;have hul:be cu=be (f5 ys):=by rw[← hU,kW]
  have hule:=OE ys;rw[hd0,hxl] at hcon;refine hcon.mono ?_;rintro e w' ⟨rfl,q,F,hFs,hF,rfl⟩;have c:=KV (q:=q) (β:=β) (F:=F) (os := #[]) hh;rw[grow_empty] at c;have hz:=lw u.size hlc;refine⟨_,rfl,?_⟩;rw[hul];have hw:=N8 (q:=q) (β:=β) (F:=F) (os := #[]) hh;rw[grow_empty] at hw;refine pH (zs:=f5 ys) m hun [n] hdn (W:=λj=>j=b) (ev := .blk b (β,be (f5 ys))) c (λk hk=>⟨n,(β,len),az,hk▸hb⟩) (λh=>by cases h) (λk l e=>by cases e;exact .inr ⟨n,(β,len),az,hb⟩) (λx=>.inr ⟨b,(β,be (f5 ys)),cur.size,rfl,?_,?_,?_⟩)
  .refine⟨putCells id β F cur,cap,.of hw,by simpa[putCells] using hcs,rfl,by simp only;omega,hcm,λi hi=>?_⟩;have hi2:i<be cu:=ab;have ei:(f5 ys)[i]=(cu[i]).1:=by
    have:(f5 ys)[i]? = (cu.map (·.1))[i]? := by rw[hU]
    rw[cG hi,ce9,cG hi2] at this;exact cn7.inj this
   rw[AR hu];refine⟨by rw[ei];exact (cu[i]).2,λj hj=>?_⟩;have hlt:i*u.size+j<len*u.size:=by
    have:(i+1)*u.size<=len*u.size:=lw _ ab;rw[fY,mv] at this;omega
   show (putCells id β F cur)[β+i*u.size+j]? = _;unfold putCells;rw[cr5,cj2 ab,ck3,aj ab,show β+i*u.size+j-β=i*u.size+j by omega];show bZ1 (F[i*u.size+j]!)=_;rw[hF i hi2 j hj,ei]
  .unfold cc7;rw[hw];simp[putCells]
  .show _=Value.slice _ _ ((cur.size-β)/u.size);rw[hcap]
end
end Go.SX
namespace Go.RS
open Go.SX Go.Proofs
theorem BK{α:Type} [Inhabited α] {l:List α} {j:Int} (h0:0<=j) (h1:j<be l):l.drop (it j)=Om l (it j) Sk::l.drop (it (j+1)):=by
 rw[show it (j+1)=it j+1 by omega,cq,cG ab]
 simp_all
def nT(b:Bool):Int:=if b=bZ3 then 1 else 0
def iy(r:av):ad:=[r.1,r.2.1,r.2.2.1,r.2.2.2.1,r.2.2.2.2.1,r.2.2.2.2.2.1,r.2.2.2.2.2.2.1,r.2.2.2.2.2.2.2.1,nT r.2.2.2.2.2.2.2.2.1,nT r.2.2.2.2.2.2.2.2.2.1,r.2.2.2.2.2.2.2.2.2.2.1,(fT r).1,(fT r).2.1,(fT r).2.2.1,(fT r).2.2.2.1,(fT r).2.2.2.2.1,(fT r).2.2.2.2.2]
def lx:ad->ad->Int
 | a::x,b::y=>if cD a b≠0 then cD a b else lx x y
 | _,_=>0
def bS(a b:av):Int:=lx (iy a) (iy b)
def yH(a b:av):Int:=j7 [cD a.1 b.1,cD a.2.1 b.2.1,cD a.2.2.1 b.2.2.1]
def rz(a:av):Int×Int×Int:=(a.1,a.2.1,a.2.2.1)
theorem a58{a b:av}:yH a b=0↔rz a=rz b:=by
 unfold yH rz
 rw[cy,cy]
 have h1:=@uR a.1 b.1
 have h2:=@uR a.2.1 b.2.1
 have h3:=@uR a.2.2.1 b.2.2.1
 generalize cD a.1 b.1=p at *
 generalize cD a.2.1 b.2.1=q at *
 generalize cD a.2.2.1 b.2.2.1=r at *
 show (if p≠0 then p else if q≠0 then q else if r≠0 then r else 0)=0↔_
 (repeat' split) <;> omega
theorem Pg{a b:Int}{x y:ad}:lx (a::x) (b::y)<0↔a<b∨(a=b/\lx x y<0):=by
 rw[lx]
 split
 next h=>rw[JA];have h:¬ a=b:=λe=>h (uR.2 e);omega
 next h=>have h:=uR.1 (ce3.1 h);omega
theorem B0:∀ x:ad,¬ lx x x<0
 | []=>by decide
 | a::x=>by rw[Pg];have:=B0 x;omega
theorem FJ:∀{x y z:ad},lx x y<0->lx y z<0->lx x z<0
 | [],_,_,h,_=>by cases h
 | _::_,[],_,h,_=>by cases h
 | _::_,_::_,[],_,h=>by cases h
 | a::x,b::y,c::z,h,k=>by
  rw[Pg] at *;have:=@FJ x y z;omega
theorem Vp:∀{x y:ad},be x=be y→¬ lx x y<0→¬ lx y x<0->x=y
 | [],[],_,_,_=>rfl
 | a::x,b::y,e,h,k=>by
  rw[Pg] at *;have q:be x=be y:=Nat.succ.inj e;have hab:a=b:=ab;rw[hab,Vp q ab ab]
 | [],_::_,e,_,_=>by cases e
 | _::_,[],e,_,_=>by cases e
theorem XP{a b:av}(h:iy a=iy b):a=b:=by
 have ⟨a1,a2,a3,a4,a5,a6,a7,a8,x,y,a9,c1,c2,c3,c4,c5,c6⟩:=a
 have ⟨b1,b2,b3,b4,b5,b6,b7,b8,x',y',b9,d1,d2,d3,d4,d5,d6⟩:=b
 simp only[iy,fT,List.cons.injEq] at h
 have hb:∀{p q:Bool},nT p=nT q->p=q:=by intro p q;cases p <;> cases q <;> decide
 obtain⟨rfl,rfl,rfl,rfl,rfl,rfl,rfl,rfl,h1,h2,rfl,rfl,rfl,rfl,rfl,rfl,rfl,-⟩:=h
 rw[hb h1,hb h2]
instance:DecidableEq av:=λa b=>decidable_of_iff (iy a=iy b) ⟨XP,dP iy⟩
theorem Fs{a b:av}(h:¬ bS a b<0)(k:¬ bS b a<0):a=b:=XP (Vp rfl h k)
theorem NI:Go.Sort.SWO (Go.Proofs.ltOf bS):=⟨λx=>eT (B0 _),λx y z h k=>ft (FJ (aX h) (aX k)),λx y z h k=>by
 have h:=bg h
 have k:=bg k
 refine eT λq=>?_
 by_cases h2:bS y x<0
 .exact k (FJ h2 q)
 .rw[Fs h h2] at q;exact k q⟩
def Hf(l:List av):Prop:=l.Pairwise λa b=>bS a b<0
theorem NY:∀{l m:List av},Hf l->Hf m->(∀ x,x∈l↔x∈m)->l=m
 | [],[],_,_,_=>rfl
 | [],y::m,_,_,h=>absurd ((h y).2 eV) ci5
 | x::l,[],_,_,h=>absurd ((h x).1 eV) ci5
 | x::l,y::m,hl,hm,h=>by
  obtain⟨l1,l2⟩:=ca4.1 hl;have ⟨m1,m2⟩:=ca4.1 hm;have e:x=y:=by
   obtain e|e:=dO.1 ((h x).1 eV)
   .exact e
   .obtain q|q:=dO.1 ((h y).2 eV)
    .exact q.symm
    .exact absurd (FJ (l1 y q) (m1 x e)) (B0 _)
  subst e;rw[NY l2 m2 λz=>⟨λhz=>?_,λhz=>?_⟩]
  .obtain e|e:=dO.1 ((h z).1 (fu _ hz))
   .rw[e] at hz;exact absurd (l1 _ hz) (B0 _)
   .exact e
  .obtain e|e:=dO.1 ((h z).2 (fu _ hz))
   .rw[e] at hz;exact absurd (m1 _ hz) (B0 _)
   .exact e
def Tz(l:List av):List av:=f5 l
theorem MA:∀{l:List av}{x:av},x∈f5 l↔x∈l
 | [],x=>rg
 | [a],x=>rg
 | a::b::l,x=>by
  have ih:=@MA (b::l) x;rw[f5];split
  next e=>subst e;rw[ih];simp
  .rw[dO,ih,dO (a:=x) (b:=a)]
theorem Nj:∀{l:List av},(l.Pairwise λa b=>¬ bS b a<0)->Hf (f5 l)
 | [],_=>ce6
 | [a],_=>ck5 _ _
 | a::b::l,h=>by
  obtain⟨h1,h2⟩:=ca4.1 h;rw[f5];split
  .exact Nj h2
  .rename_i ne;refine ca4.2 ⟨λz hz=>?_,Nj h2⟩;have hz:=MA.1 hz;have h3:=h1 z hz;by_cases q:bS a z<0
   .exact q
   .have e:=Fs q h3;subst e;obtain e|e:=dO.1 hz
    .exact absurd e ne
    .exact absurd (Fs (λq=>(h1 b eV) (by
      exact absurd q ((ca4.1 h2).1 _ e))) (h1 b eV)) ne
def f8(l:List av):List av:=f5 (dY bS l)
theorem yw(l:List av):(dY bS l).Pairwise λa b=>¬ bS b a<0:=by
 have:=List.pairwise_mergeSort (le:=λx y:av => !bZ2 (bS y x<0)) (λa b c h1 h2=>by
  have q:=NI.ntrans c b a;simp only[ltOf,sr] at q;simp only[qE,sr] at *;exact q h2 h1) (λa b=>by
  rw[sS];by_cases h:bS b a<0
  .right;rw[eT (show ¬ bS a b<0 from λk=>B0 _ (FJ h k))];rfl
  .left;rw[eT h];rfl) l
 exact this.imp λ{a b} q=>by simpa using q
theorem ym{l:List av}{x:av}:x∈f8 l↔x∈l:=by
 unfold f8
 rw[MA]
 exact (tL _ _).mem_iff
theorem GN(l:List av):Hf (f8 l):=Nj (yw l)
theorem a63{l m:List av}(h:∀ x,x∈l↔x∈m):f8 l=f8 m:=NY (GN l) (GN m) λx=>by rw[ym,ym];exact h x
theorem FL(l:List av):be (f8 l)<=be l:=by
 unfold f8
 have:=OE (dY bS l)
 rwa [(tL bS l).length_eq] at this
def pv(l:List av):Prop:=∀ a∈l,∀ b∈l,rz a=rz b->a=b
theorem aK3:aY ([],0):=⟨⟨by decide,by decide⟩,λx hx=>by cases hx⟩
def ZF:Cn:=⟨[.box 83 jw,.val cI],[.val cI],λd=>[aY d.1],λd y=>0<=y.1.1/\(y.1.1<d.2.1∨y.1.1=0)/\aY y.2.1,λd h=>⟨((0,()),(([],0),())),by simp,by simp,aK3⟩⟩
theorem bf5:
 ∀(a:ad)(b c:Int),(aQ a/\aq b)/\ai (aq c)->aY (a,b)->t9 (bZ2 (ac a<=b)) (ax c 1) (am 0 (0<c∨(0:Int)=(0:Int)) (aY (a,b))) (am b (b<ac a) (ar (ax 256 c) (f6 (a,ao (b+1))/\(256:Int)<=(256:Int)/\c≠0/\am (CJ a b c) (CJ a b c<c∨CJ a b c=0) (aY (o8 (a,ao (b+1)) 256).2)) (c≠0/\am (cd8 (ao (ae a b)) c) (cd8 (ao (ae a b)) c<c∨cd8 (ao (ae a b)) c=0) (aY (a,ao (b+1)))))):= by
  delta ae ac ao aq aK aQ bR aJ bq am bv ai jE CJ t9 ax
  rintro l p n ⟨⟨⟨hl,hw⟩,h0,h1⟩,⟨h2,h3⟩,-⟩⟨⟨hc1,hc2⟩,-⟩
  simp only[cb2] at hl hc1 hc2
  (repeat (refine cL ?_;repeat refine cK ?_))
  refine uH (λhb=>?_) (λhb1 hb2=>?_)
  .exact⟨ab,az,⟨hc1,hc2⟩,hw⟩
  .have hb1:=bg hb1
   have hb2:=bg hb2
   have ⟨hm0,hm1⟩:=hw _ (dm hc1 ab)
   have hok:aY (l,p+1):=⟨⟨by show 0<=p+1;omega,by show p+1<=be l;omega⟩,hw⟩
   rw[aG (n:=p+1) ab ab,aG (n:=Om l (it p) Sk) ab ab]
   refine⟨hc1,ab,aw (λk=>?_) (λk=>⟨ab,?_⟩)⟩
   .have k:=aX k
    have hr:=Pq hok 256
    refine⟨hok.at',ab,ab,?_⟩
    rw[aG (n:=256*_) ab ab,aG ab ab]
    exact⟨AD ab,.inl (zq ab ab),hr.1⟩
   .exact⟨AD hm0,.inl (zq hm0 ab),hok⟩
theorem Bu:aC 7 ZF.spec:=lL Tryz.func7 (ap aD T5) aU bf5
def bs4:Cn:=⟨[.box 83 jw],[.agg xp],λd=>[aY d.1],λd y=>H8 y.1.1/\aY y.2.1,λd h=>⟨(((0,0),()),(d.1,())),.inl rfl,h.1⟩⟩
def AS(a:Int)(b c:Prop):=∀(d:ad)(e:Int),am a b (aY (d,e))->aY (d,e)/\c
def De(a:Prop):=∀(b:ad)(c:Int),ai (aQ b/\aq c)->aY (b,c)->aY (b,c)/\a
def vM(a:Int)(b:ad)(c:Int):=am a (a<3∨a=0) (aY (b,c))
theorem bN9:
 De (∀(a:Int)(b:ad)(c:Int),vM a b c->ar (aV a) (H8 (0,0)/\aY (b,c)) (aY (b,c)/\ ∀(d:Int),AS d (d<4∨d=0) (∀(e:Int)(f:ad)(g:Int),am e (e<4∨e=0) (aY (f,g))->bJ e (ac ((1:Int)::(3:Int)::(10:Int)::bz 1000)) (H8 (ao (1+d),ae ((1:Int)::(3:Int)::(10:Int)::bz 1000) e)) (aY (f,g))))):= by
 delta ae ac ao aq aK aQ am aV bz ai AS bJ De vM
 rintro l p-h
 refine⟨h,?_⟩
 rintro r l2 p2 ⟨h1,h2,h3⟩
 refine aw (λhb=>⟨.inl rfl,h3⟩) (λhb=>⟨h3,?_⟩)
 rintro b l3 p3 ⟨h4,h5,h6⟩
 refine⟨h6,?_⟩
 rintro e l4 p4 ⟨h7,h8,h9⟩
 refine⟨h7,by simp;omega,.inr ?_,h9⟩
 rw[aG ab ab]
 have:e=0∨e=1∨e=2∨e=3:=ab
 obtain rfl|rfl|rfl|rfl:=this <;> simp <;> omega
theorem aH1:aC 31 bs4.spec:=lL Tryz.func31 (ap aD Bu) aU bN9
def bn8:Cn:=⟨[.box 83 jw],[.val dw],λd=>[aY d.1],λd y=>aY y.2.1/\0<=y.1.1/\y.1.1<=4294967295,λd h=>⟨((0,()),(d.1,())),h.1,by simp,by simp⟩⟩
theorem aR4:
 De (∀(a:Int)(b:ad)(c:Int),am a (a<12∨a=0) (aY (b,c))->ar (bZ2 (a=11)) (aY (b,c)/\ ∀(d:Int)(e:ad)(f:Int),am d (d<65536∨d=0) (aY (e,f))->am 16 (aY (e,f)) (∀(g:Int),AS g (g<65536∨g=0) (aO (bZ5 bZ7 (ao (fX bZ4 d 16+g)))))) (aY (b,c)/\ ∀(d:Int)(e:ad)(f:Int),vM d e f->am 16 (aY (e,f)) (∀(g:Int),AS g (g<8∨g=0) (aO (bZ5 bZ7 (ao (ao (167772160+fX bZ4 d 16)+g))))))):= by
 delta ao aq aK aQ aO am ai AS De vM
 rintro l p-h
 refine⟨h,?_⟩
 rintro r l2 p2 ⟨h1,h2,h3⟩
 refine aw (λhb=>⟨h3,?_⟩) (λhb=>⟨h3,?_⟩)
 .rintro a l4 p4 ⟨h4,h5,h6⟩
  refine⟨ab,h6,?_⟩
  rintro a l4 p4 ⟨h4,h5,h6⟩
  exact⟨h6,VW _⟩
 .rintro a l4 p4 ⟨h4,h5,h6⟩
  refine⟨ab,h6,?_⟩
  rintro a l4 p4 ⟨h4,h5,h6⟩
  exact⟨h6,VW _⟩
theorem bs1:aC 73 bn8.spec:=lL Tryz.func73 (ap aD Bu) aU aR4
def aP8:Cn:=⟨[.box 83 jw,.agg l7],[.val dw],λd=>[aY d.1],λd y=>aY y.2.1/\0<=y.1.1/\y.1.1<=4294967295,λd h=>⟨((0,()),(d.1,())),h.1,by simp,by simp⟩⟩
def Ns(a:Int)(b:List au)(c:Int):=∀(d:ad)(e:Int),am a (a<ac (ae b c).1∨a=0) (aY (d,e))->bJ a (ac (ae b c).1) (aY (d,e)) (aO (ae (ae b c).1 a).1)
def JS:=∀(a:Int)(b:ad)(c:Int),aY (b,c)/\aO a->aY (b,c)/\aO a
theorem bM1:
 ∀(a:ad)(b:Int)(c:List au)(d:List bo)(e:List cH),(aQ a/\aq b)/\ai (gA c d e)->aY (a,b)->ar (aV (ac c)) (aY (a,b)/\JS) (aY (a,b)/\ ∀(f:Int)(g:ad)(h:Int),am f (f<ac c∨f=0) (aY (g,h))->am f (f<ac c) (∀(i:Bool),i=aV (ac (ae c f).1)->pg ( !i) ( !i) (aY (g,h)) (∀(j:Int)(k:ad)(l:Int),am j (j<12∨j=0) (aY (k,l))->bv i/\ar (bq i (bZ2 (j=11))) (aY (k,l)/\JS) (aY (k,l)/\ ∀(m:Int),Ns m c f)) (i=bZ6->bZ6) (ar (bq i bZ6) (aY (g,h)/\JS) (aY (g,h)/\ ∀(j:Int),Ns j c f)))):= by
  delta ae ac aq aK aQ gA mP c9 dB aO cS jH bG bq am bv aV ai pg kx Ns JS bJ mw
  rintro l p ns ls hs ⟨-,⟨⟨hnl,hnw⟩,-⟩,-⟩ hc
  refine aw (λh=>?_) (λh=>?_)
  .exact⟨hc,λx l2 p2 h=>h⟩
  have h:=bg h
  refine⟨hc,?_⟩
  rintro x l2 p2 ⟨x0,x1,hc2⟩
  have x1:x<(be ns:Int):=ab
  have hX:=hnw _ (dm x0 x1)
  generalize Om ns (it x) Sk=X at hX ⊢
  have hp:=hX.1.2
  refine⟨x0,x1,?_⟩
  intro b hb
  refine aw (λq=>?_) (λq=>?_)
  .have hb0:b=false:=by simpa using q
   subst hb0
   have hne:=bg hb.symm
   refine⟨az,hc2,?_⟩
   rintro y l3 p3 ⟨y0,y1,hc3⟩
   rw[sy]
   (repeat refine⟨az,?_⟩)
   refine aw (λq=>?_) (λq=>?_)
   .exact⟨hc3,λx l2 p2 h=>h⟩
   .refine⟨hc3,?_⟩
    rintro z l4 p4 ⟨z0,z1,hc4⟩
    have z1:z<(be X.1:Int):=ab
    have:=hp _ (dm z0 z1)
    exact⟨z0,z1,hc4,this.1⟩
  .have hb0:b=true:=by simpa using q
   subst hb0
   refine⟨rfl,az,?_⟩
   rw[cond_true]
   exact⟨hc2,λx l2 p2 h=>h⟩
theorem bm8:aC 32 aP8.spec:=lL Tryz.func32 (ap (ap aD Bu) bs1) aU bM1
def aE9:Cn:=⟨[.box 83 jw],[.val cI],λd=>[aY d.1],λd y=>aY y.2.1/\(y.1.1=17∨y.1.1=1∨y.1.1=6),λd h=>⟨((1,()),(d.1,())),h.1,by simp⟩⟩
theorem aJ5:
 De (∀(a:Int)(b:ad)(c:Int),vM a b c->bJ a (ac ((17:Int)::(1:Int)::bz 6)) (aY (b,c)) (ae ((17:Int)::(1:Int)::bz 6) a=(17:Int)∨ae ((17:Int)::(1:Int)::bz 6) a=(1:Int)∨ae ((17:Int)::(1:Int)::bz 6) a=(6:Int))):= by
 delta ae ac aq aK aQ am bz ai bJ De vM
 rintro l p-h
 refine⟨h,?_⟩
 rintro r l2 p2 ⟨h1,h2,h3⟩
 refine⟨h1,by simp;omega,h3,?_⟩
 exact bQ5 (p:=λv=>v=17∨v=1∨v=6) az h1 (by simp;omega)
theorem ah0:aC 34 aE9.spec:=lL Tryz.func34 (ap aD Bu) aU aJ5
def WM:Ct:=⟨[.agg jX,.agg qV,.val cI],[.agg jX,.val cI],λd=>[0<=d.2.2.1,d.2.2.1<=be (bO d.2.1),∀ x∈bO d.2.1,(be x.2.2:Int)<=1000000,be (vW d.1)+be (vR d.1)<=1000,(be (bO d.2.1):Int)<=1000000000000],λd=>((((bO d.2.1).drop (it d.2.2.1)).foldl mG d.1,be (bO d.2.1),()),())⟩
def bK7:bw WM.ps->bL:=(λd=>{loops:=(bu 1 (λS=>{ι:=ct×Int,qn:=fH,μ:=λi=>it (be (bO d.2.1)-i.2),inv:=λi=>0<=i.2/\i.2<=be (bO d.2.1)/\((bO d.2.1).drop (it i.2)).foldl mG i.1=((bO d.2.1).drop (it d.2.2.1)).foldl mG d.1/\be (vW i.1)+be (vR i.1)<=1000,keep:=[3,4,6,7],slots:=λi=>[(2,.int .i64 i.2)],keepN:=[80,112],names:=λi=>[(64,.live (.cells 94 (cF jX i.1)))]}) cC)})
def G7(a:ct):=be (vW a)+be (vR a)<=1000
def F4(a:Int)(b:af1)(c:ct)(d:ct)(e:Int):=bt a (ac (bO b)) (cb9 mG c (drop (it a) (bO b))=cb9 mG d (drop (it e) (bO b))) (G7 c)
def zp(a:ct)(b:List kQ)(c:Int):=mA a (ae b c).1 (ae b c).2.2
theorem bv6:
 ∀(a:ct)(b:af1)(c:Int),CT.wf jX a/\CT.wf qV b/\ai (aq c)->bt c (ac (bO b)) (A6 b) (be (vW a)+be (vR a)<=1000/\mQ (ac (bO b)))->(∃(d:ct) (e:Int),F4 e b d a c/\c=e/\(0:Int)=(0:Int)/\dX b.1.1 b.1.2.1 (b.1.2.2=b.1.2.2) (bN b.2.1 b.2.2.1 b.2.2.2.1 (b.2.2.2.2.1=b.2.2.2.2.1) (uC b.2.2.2.2.2.1 b.2.2.2.2.2.2.1 b.2.2.2.2.2.2.2.1 (b.2.2.2.2.2.2.2.2=b.2.2.2.2.2.2.2.2) (aZ 0 0 0 0 ((0:Int)=(0:Int)) (bn a.1 d.1 a.2.1 d.2.1 (a.2.2.1=d.2.2.1) (bn a.2.2.2.1 d.2.2.2.1 a.2.2.2.2.1 d.2.2.2.2.1
 (a.2.2.2.2.2.1=d.2.2.2.2.2.1) (ai (a.2.2.2.2.2.2=d.2.2.2.2.2.2))))))))/\ ∀(d:ct)(e:Int),F4 e b d a c->fh e (ac b.2.2.2.2.2.2.2.1) (e<ac b.2.2.2.2.2.2.2.1) (ar (aV (ae b.2.2.2.2.2.2.2.1 e).2.1) (mF d/\bV (ae b.2.2.2.2.2.2.2.1 e).2.2/\ ∃(f:ct) (g:Int),F4 g b f a c/\bj (ac (bO b)) g e/\bf e g/\(0:Int)=(0:Int)/\dX b.1.1 b.1.2.1 (b.1.2.2=b.1.2.2) (bN b.2.1 b.2.2.1 b.2.2.2.1 (b.2.2.2.2.1=b.2.2.2.2.1) (uC b.2.2.2.2.2.1 b.2.2.2.2.2.2.1 b.2.2.2.2.2.2.2.1 (b.2.2.2.2.2.2.2.2=b.2.2.2.2.2.2.2.2) (aZ 0 0 0 0 ((0:Int)=(0:Int)) (bn (zp d b.2.2.2.2.2.2.2.1 e).1 f.1 (zp d b.2.2.2.2.2.2.2.1 e).2.1 f.2.1 ((zp d b.2.2.2.2.2.2.2.1 e).2.2.1=f.2.2.1) (bn (zp d b.2.2.2.2.2.2.2.1 e).2.2.2.1 f.2.2.2.1 (zp d b.2.2.2.2.2.2.2.1 e).2.2.2.2.1 f.2.2.2.2.1 ((zp d b.2.2.2.2.2.2.2.1 e).2.2.2.2.2.1=f.2.2.2.2.2.1) (ai ((zp d b.2.2.2.2.2.2.2.1
 e).2.2.2.2.2.2=f.2.2.2.2.2.2)))))))) (∃(f:ct) (g:Int),F4 g b f a c/\bj (ac (bO b)) g e/\bf e g/\(0:Int)=(0:Int)/\dX b.1.1 b.1.2.1 (b.1.2.2=b.1.2.2) (bN b.2.1 b.2.2.1 b.2.2.2.1 (b.2.2.2.2.1=b.2.2.2.2.1) (uC b.2.2.2.2.2.1 b.2.2.2.2.2.2.1 b.2.2.2.2.2.2.2.1 (b.2.2.2.2.2.2.2.2=b.2.2.2.2.2.2.2.2) (aZ 0 0 0 0 ((0:Int)=(0:Int)) (bn d.1 f.1 d.2.1 f.2.1 (d.2.2.1=f.2.2.1) (bn d.2.2.2.1 f.2.2.2.1 d.2.2.2.2.1 f.2.2.2.2.1 (d.2.2.2.2.2.1=f.2.2.2.2.2.1) (ai (d.2.2.2.2.2.2=f.2.2.2.2.2.2))))))))) (d=cb9 mG a (drop (it c) (bO b))) (e=ac (bO b)):= by
  delta ae ac ao aq aK aZ bN bp bj am aV bV fh bt ai dX F4 bf cN zp mQ A6 ax bn G7 uC
  rintro v w r-⟨r0,r1,hd,hv,hl⟩
  refine⟨⟨v,r,⟨r0,r1,rfl,hv⟩,aI⟩,?_⟩
  rintro u k ⟨b,k1,a,hu⟩
  refine ci (λh=>?_) (λh=>?_)
  .have h:k<be (bO w):=h
   have hx:=hd _ (dm b h)
   have nx:=BK b h
   rw[nx,List.foldl_cons] at a
   refine⟨b,h,?_⟩
   rw[show w.2.2.2.2.2.2.2.1=bO w from rfl]
   generalize Om (bO w) (it k) Sk=x at *
   refine ci (λq=>?_) (λq=>?_)
   .have q:=q
    have e:mG u x=mA u x.1 x.2.2:=by unfold mG;rw[aj q]
    rw[e] at a
    have hz:=am1 u x.1 x.2.2
    refine⟨⟨ab,ab⟩,hx,_,k+1,⟨ab,ab,a,ab⟩,ab,aG ab ab,aI⟩
   .have q:=q
    have e:mG u x=u:=by unfold mG;rw[ah q]
    rw[e] at a
    exact⟨u,k+1,⟨ab,ab,a,hu⟩,ab,aG ab ab,aI⟩
  .have h:¬ k<be (bO w):=h
   rw[ce2 ab] at a
   exact⟨a,ab⟩
theorem ah7:aC 27 WM.spec:=aF Tryz.func27 (ap aD bs0) bK7 bv6
def VI:Ct:=⟨[.agg l7,.agg iH,.val cI],[.agg zj],λd=>[vq d.1,lV d.2.1,1<=d.2.2.1,d.2.2.1<=20000],λd=>((qz d.1 d.2.1 d.2.2.1,()),())⟩
def an3:bw VI.ps->bL:=(λd=>{loops:=(bu 10 (λS=>{ι:=Int×aN×ct×Int×ad×Int,qn:=⟨λk_=>∀(j:Int)(w:aN)(v:ct)(r:Int)(o:ad)(a:Int),k_ (j,w,v,r,o,a),λk_ h_ i=>h_ i.1 i.2.1 i.2.2.1 i.2.2.2.1 i.2.2.2.2.1 i.2.2.2.2.2,λk_=>∃ (j:Int) (w:aN) (v:ct) (r:Int) (o:ad) (a:Int),k_ (j,w,v,r,o,a),λk_ ⟨j,w,v,r,o,a,h_⟩=>⟨_,h_⟩⟩,μ:=λi=>it (be (fD d.2.1)-i.1),inv:=λi=>0<=i.1/\i.1<=be (fD d.2.1)/\(i.2.1,i.2.2.1,i.2.2.2.1,i.2.2.2.2.1,i.2.2.2.2.2)=oF d.1 d.2.1 d.2.2.1 (it i.1),keep:=[2,4,6,7,11,13,16],slots:=λi=>[(14,.int .i64 i.2.2.2.1),(15,.int .i64 i.2.2.2.2.2),(17,.int .i64 i.1)],keepN:=[80,112,960],names:=λi=>[(128,.live (.cells 41 (cF qV i.2.1))),(192,.live (.cells 94 (cF jX i.2.2.1))),(224,.live (.cells 43 [.nilsl,.own 524288 1,.nilsl,.nilsl,.nilsl,.int .i64 0,.int .i64 0,.int .i64 0,.nilsl,.nilsl,.nilsl,.nilsl,.nilsl,.bool bZ3])),(524288,.live (.row 3 cI i.2.2.2.2.1))]}) cC)})
def Hg:=(([]:List av),([]:ad),uq,bZ6)
theorem bw0:
 ∀(a:List au)(b:List bo)(c:List cH)(d:List fM)(e f g:Int),gA a b c/\qj d e f/\ai (aq g)->vq (a,b,c)/\lV (d,e,f)/\1<=g/\g<=20000->we (a,b,c)/\ ∀(h:af1)(i:Int),h=EA (a,b,c)/\i=iR (a,b,c)-> ∀(j:Int),qp (j=(i5 (a,b,c)).1) (i5 (a,b,c)).2 (∀(k:ct)(l:Int),k=qR 0 0 j g/\l=py 0 0 j g-> ∀(m:Bool),m=( !aV i)->bR m/\bv m/\Em (bq m ( !aV l)) (be d<=24/\(∀(n:fM),n∈d->qm n)/\ai (jj (e,f)=0)) ( !bZ2 ((0:Int)=(0:Int))) (Hg=qz (a,b,c) (d,e,f) g) (lV (d,e,f)/\ ∀(n:List
 fj),n=fD (d,e,f)->(∃(o:Int) (p:aN) (q:ct) (r:Int) (s:ad) (t:Int),am o (o<=ac (fD (d,e,f))) ((p,q,r,s,t)=oF (a,b,c) (d,e,f) g (it o))/\bn g g 0 r (0=t) (0=o/\d=d/\aZ e f 0 0 ((0:Int)=(0:Int)) (bZ6=bZ6/\n=n/\h.1.1=p.1.1/\h.1.2.1=p.1.2.1/\h.1.2.2=p.1.2.2/\bn h.2.1 p.2.1 h.2.2.1 p.2.2.1 (h.2.2.2.1=p.2.2.2.1) (h.2.2.2.2.1=p.2.2.2.2.1/\h.2.2.2.2.2.1=p.2.2.2.2.2.1/\h.2.2.2.2.2.2.1=p.2.2.2.2.2.2.1/\h.2.2.2.2.2.2.2.1=p.2.2.2.2.2.2.2.1/\h.2.2.2.2.2.2.2.2=p.2.2.2.2.2.2.2.2/\bn k.1 q.1 k.2.1 q.2.1 (k.2.2.1=q.2.2.1) (bn k.2.2.2.1 q.2.2.2.1 k.2.2.2.2.1 q.2.2.2.2.1 (k.2.2.2.2.2.1=q.2.2.2.2.2.1) (k.2.2.2.2.2.2=q.2.2.2.2.2.2/\bN 0 0 0 bZ3 (ai (s=[]))))))))/\ ∀(o:Int)(p:aN)(q:ct)(r:Int)(s:ad)(t:Int),am o (o<=ac (fD (d,e,f))) ((p,q,r,s,t)=oF (a,b,c) (d,e,f) g (it o))->fh o (ac n) (o<ac n) (am (ae n o).1 ((ae n o).1<ac d) (bJ o (ac n)
 (ry p) (∀(u:af1),pI (u=yF p (ae n o).2.2) (qx p (ae n o).2.2) (Hg=qz (a,b,c) (d,e,f) g) (bt r (ac (bO u)) (A6 u) (G7 q/\mQ (ac (bO u))/\ ∀(v:ct)(w:Int),v=cb9 mG q (drop (it r) (bO u))/\w=ac (bO u)->mF v/\0<=v.2.2.1/\ ∀(x:ct)(y:ad)(z:Int),x=mN v (ae n o).2.2 (ae d (ae n o).1).1 (ae d (ae n o).1).2.1 (ae d (ae n o).1).2.2.1 (ae d (ae n o).1).2.2.2.1/\y=sj v (ae n o).2.2 (ae d (ae n o).1).1 (ae d (ae n o).1).2.1 (ae d (ae n o).1).2.2.1 (ae d (ae n
 o).1).2.2.2.1/\z=nE v (ae n o).2.2 (ae d (ae n o).1).1 (ae d (ae n o).1).2.1 (ae d (ae n o).1).2.2.1 (ae d (ae n o).1).2.2.2.1->ar ( !aV z) (∃(A:Int) (B:aN) (C:ct) (D:Int) (E:ad) (F:Int),am A (A<=ac (fD (d,e,f))) ((B,C,D,E,F)=oF (a,b,c) (d,e,f) g (it A))/\bj (ac (fD (d,e,f))) A o/\bn g g w D ((ae n o).2.2=F) (bf o A/\d=d/\aZ e f 0 0 ((0:Int)=(0:Int)) (bZ6=bZ6/\n=n/\u.1.1=B.1.1/\u.1.2.1=B.1.2.1/\u.1.2.2=B.1.2.2/\bn u.2.1 B.2.1 u.2.2.1 B.2.2.1 (u.2.2.2.1=B.2.2.2.1) (u.2.2.2.2.1=B.2.2.2.2.1/\u.2.2.2.2.2.1=B.2.2.2.2.2.1/\u.2.2.2.2.2.2.1=B.2.2.2.2.2.2.1/\u.2.2.2.2.2.2.2.1=B.2.2.2.2.2.2.2.1/\u.2.2.2.2.2.2.2.2=B.2.2.2.2.2.2.2.2/\bn v.1 C.1 v.2.1 C.2.1 (v.2.2.1=C.2.2.1) (bn v.2.2.2.1 C.2.2.2.1 v.2.2.2.2.1 C.2.2.2.2.1 (v.2.2.2.2.2.1=C.2.2.2.2.2.1) (v.2.2.2.2.2.2=C.2.2.2.2.2.2/\bN 0 0 0 bZ3 (ai (s=E)))))))) (ry u/\bV y/\ ∀(A:(List
 bX9×List (Int×Int×Int×Int×Int×Int)×List (Int×Int×Bool×bg8×ad×Int))×Int×Int×Int×List bY8×ad×List (Int×Int×Int×Int×Int×ad)×List (Int×Int×ad)×List (Int×Int×Int×Int×Int))(B C:Int),A=uS u (ae n o).2.2 0 y/\B=uk u (ae n o).2.2 0/\C=nW u (ae n o).2.2 0->ar ( !aV C) (Hg=qz (a,b,c) (d,e,f) g) (xk s (bz B)/\ ∃(D:Int) (E:aN) (F:ct) (G:Int) (H:ad) (I:Int),am D (D<=ac (fD (d,e,f))) ((E,F,G,H,I)=oF (a,b,c) (d,e,f) g (it D))/\bj (ac (fD (d,e,f))) D o/\bn g g w G ((ae n o).2.2=I) (bf o D/\d=d/\aZ e f 0 0 ((0:Int)=(0:Int)) (bZ6=bZ6/\n=n/\A.1.1=E.1.1/\A.1.2.1=E.1.2.1/\A.1.2.2=E.1.2.2/\bn A.2.1 E.2.1 A.2.2.1 E.2.2.1 (A.2.2.2.1=E.2.2.2.1)
 (A.2.2.2.2.1=E.2.2.2.2.1/\A.2.2.2.2.2.1=E.2.2.2.2.2.1/\A.2.2.2.2.2.2.1=E.2.2.2.2.2.2.1/\A.2.2.2.2.2.2.2.1=E.2.2.2.2.2.2.2.1/\A.2.2.2.2.2.2.2.2=E.2.2.2.2.2.2.2.2/\bn x.1 F.1 x.2.1 F.2.1 (x.2.2.1=F.2.2.1) (bn x.2.2.2.1 F.2.2.2.1 x.2.2.2.2.1 F.2.2.2.2.1 (x.2.2.2.2.2.1=F.2.2.2.2.2.1) (x.2.2.2.2.2.2=F.2.2.2.2.2.2/\bN 0 0 0 bZ3 (ai (s++bz B=H)))))))))))))) (ry p) (∀(u:af1),pI (u=yF p (ao (ao (t+g)+100000))) (qx p (ao (ao (t+g)+100000))) (Hg=qz (a,b,c) (d,e,f) g) (bt r (ac (bO u)) (A6 u) (G7 q/\mQ
 (ac (bO u))/\ ∀(v:ct),qp (v=cb9 mG q (drop (it r) (bO u))) (ac (bO u)) (mF v/\ ∀(w:ct),w=xH v->(w.2.2.2.2.2.2,s,u,bZ2 (ac w.2.2.2.2.2.2=ac s))=qz (a,b,c) (d,e,f) g)))))):= by
  delta ae ac ao aq aK aZ bN bR bp aJ gA mP c9 dB aO cS jH bG bq bj qj am bP bv uq aV bV fh bz bt ai jE bf kx cN bJ mQ mw pI xk A6 ax Hg Em bn G7 qp
  rintro ns ls hs ts b1 b2 t-⟨hN,hp,t1,t2⟩
  have hu:∀ x∈ts,0<=x.1/\x.1<=4294967295:=λx hx=>by have h:x.1/16777216=10:=(hp.2.1 x hx).1;omega
  have hc:=hN.d.right hN.p
  have ok:=λk hk=>Pz hN hp hu ⟨t1,t2⟩ k hk
  have so:=Kq hp
  refine⟨Wq hN.d.nb aB,?_⟩
  rintro w e ⟨hw,he⟩
  have he:=he.trans hc
  have hw:=hw.trans (aj hc)
  subst he hw
  rintro x y ⟨rfl,-⟩
  rintro v e ⟨rfl,he⟩
  have he:=he.trans (Ur hN ⟨t1,ab⟩)
  subst he
  rintro c hc
  have hc:=hc
  subst hc
  (repeat refine⟨λ_=>(by first|rfl|exact⟨λ_=>rfl,aP⟩|exact⟨λ_=>rfl,λ_=>rfl,aP⟩),?_⟩)
  rintro c hc
  have hc:=hc
  subst hc
  (repeat refine⟨λ_=>(by first|rfl|exact⟨λ_=>rfl,aP⟩|exact⟨λ_=>rfl,hp.1,hp.2.1,hp.2.2,aP⟩),?_⟩)
  refine iu.2 ⟨hp,?_⟩
  rintro l rfl
  refine⟨⟨0,Aq (ns,ls,hs),qR 0 0 (i5 (ns,ls,hs)).1 t,0,[],0,⟨ab,ab,rfl⟩,aI⟩,?_⟩
  rintro j w v r o a ⟨j0,j1,hst⟩
  have ⟨m,ml,m3⟩:=ok (it j) ab
  rw[← hst] at m ml m3
  have hn3:=hN.d.n3
  have hnx:=m.nx
  have hol:=m.ol
  have hq:=m.q0
  have hd1:=m.w.d
  have ⟨L,mm,vi⟩:=m.vi
  have vsz:=vi.size
  simp only at hnx hol vsz m3
  have hrd:r=(be (bO w):Int):=m.rd
  refine ci (λq=>?_) (λq=>?_)
  .have dd:=so.d _ (dm j0 q)
   have nx:=VS (n:=(ns,ls,hs)) (p:=(ts,b1,b2)) (t:=t) j0 q
   have dj:=BK j0 q
   have hle:=ml _ (by rw[dj];exact eV)
   rw[← hst] at nx
   refine⟨j0,q,dd.t.1,dd.t.2,j0,q,.inl m.w.sim,?_⟩
   generalize Om (α:=fj) (fD (ts,b1,b2)) (it j) Sk=d at *
   have ⟨r1,r2,r3,r4,⟨L2,m2,r5⟩,r6,r7,r8,r9,r10⟩:=m.run hle (by have:=dd.at';omega)
   have hat:=dd.at'
   have vs2:=r5.size
   have r7:(lh (w,v,r,o,a) d.2.2).2.2.1=v.2.2.1:=r7
   rw[r7] at vs2
   rintro w2 e ⟨hw,he⟩
   have he:=he.trans r10
   have hw:w2=ma (w,v,r,o,a) d.2.2:=hw.trans (aj r10)
   subst he hw
   have dl:=r1.d
   refine iu.2 ⟨ab,r9,λx hx=>by have:=r1.dd x hx;omega,ab,ab,?_⟩
   rintro u k ⟨hu1,hk⟩
   have hu1:u=lh (w,v,r,o,a) d.2.2:=hu1
   have hk:=hk
   subst hu1 hk
   refine⟨⟨ab,ab⟩,by rw[r7];show (0:Int)<=v.2.2.1;omega,?_⟩
   rintro u b e ⟨hu1,hb,he⟩
   have he:e=QC (ts,b1,b2) (w,v,r,o,a) d:=he
   have hb:=hb
   have hu1:=hu1
   subst hu1 hb
   refine aw (λk=>?_) (λk=>?_)
   .have k:=jC k
    refine⟨j+1,ma (w,v,r,o,a) d.2.2,lh (w,v,r,o,a) d.2.2,(be (bO (ma (w,v,r,o,a) d.2.2)):Int),o,d.2.2,⟨ab,ab,?_⟩,ab,?_⟩
    .rw[nx];unfold yZ;rw[ah (λz=>k (he.trans z))]
    .rw[aG ab ab]
     exact aI
   .have k:=jx k
    have k:=he.symm.trans k
    have hz:=Zv (a:=d.2.2) (q:=(it j:Int)) (by show 0<be ns;have:3<=be ns:=hn3;omega) r2 r3 ab r4 ab
    have ⟨b1',b2'⟩:=Vi (lh (w,v,r,o,a) d.2.2) d.2.2 (iB (ts,b1,b2) d).1 (iB (ts,b1,b2) d).2.1 (iB (ts,b1,b2) d).2.2.1 (iB (ts,b1,b2) d).2.2.2.1
    refine⟨.inl r1.sim,by show (be (DP (ts,b1,b2) (w,v,r,o,a) d):Int)<=_;unfold DP;omega,?_⟩
    rintro w3 g y ⟨hw3,hg,hy⟩
    have hy:=hy.trans hz
    have hg:=hg.trans (aj hz)
    have hw3:w3=uh (ma (w,v,r,o,a) d.2.2) d.2.2 0 (DP (ts,b1,b2) (w,v,r,o,a) d):=hw3.trans (aj hz)
    subst hy hg hw3
    refine iu.2 ⟨by simp only[eI];omega,j+1,uh (ma (w,v,r,o,a) d.2.2) d.2.2 0 (DP (ts,b1,b2) (w,v,r,o,a) d),mN (lh (w,v,r,o,a) d.2.2) d.2.2 (iB (ts,b1,b2) d).1 (iB (ts,b1,b2) d).2.1 (iB (ts,b1,b2) d).2.2.1 (iB (ts,b1,b2) d).2.2.2.1,(be (bO (ma (w,v,r,o,a) d.2.2)):Int),o++[dc (ma (w,v,r,o,a) d.2.2)],d.2.2,⟨ab,ab,?_⟩,ab,?_⟩
    .rw[nx];unfold yZ;rw[aj k]
    .rw[aG ab ab]
     exact aI
  .have hj:it j=be (fD (ts,b1,b2)):=ab
   have ha:ce w=a:=m.nw.1
   have hw0:0<=ce w:=m.w.s.now.1
   have ⟨r1,r2,r3,r4,⟨L2,m2,r5⟩,r6,r7,r8,r9,r10⟩:=m.run (a:=a+t+100000) (by show a<=_;omega) ab
   have vs2:=r5.size
   have r7:(lh (w,v,r,o,a) (a+t+100000)).2.2.1=v.2.2.1:=r7
   rw[r7] at vs2
   rw[aG (n:=a+t) ab ab,aG (n:=a+t+100000) ab ab]
   refine⟨.inl m.w.sim,?_⟩
   rintro w2 e ⟨hw,he⟩
   have he:=he.trans r10
   have hw:w2=ma (w,v,r,o,a) (a+t+100000):=hw.trans (aj r10)
   subst he hw
   have dl:=r1.d
   refine iu.2 ⟨ab,r9,λx hx=>by have:=r1.dd x hx;omega,ab,ab,?_⟩
   rintro u k ⟨hu1,-⟩
   have hu1:u=lh (w,v,r,o,a) (a+t+100000):=hu1
   subst hu1
   refine⟨⟨ab,ab⟩,?_⟩
   rintro u rfl
   unfold qz
   rw[← hj,← hst]
   rfl
theorem Yt:aC 8 VI.spec:=aF Tryz.func8 (ap (ap (ap (ap (ap (ap (ap (ap (ap (ap aD (Ct.named bv2)) (Ct.named NM)) (Ct.named aT8)) a30) (Ct.named ap5)) (Ct.named aS5)) (Ct.named ah7)) (Ct.named bC9)) (Ct.named aj2)) (Ct.named Z4)) an3 bw0
def Jg:Net:=tI bZ3 ([],0)
def Cj:iH.D:=([((i5 Jg).2,17,0,1,0,1,1)],(0,0))
def SW:List fj:=[(0,0,0)]
def DH:zj.D:=T6 (SW.foldl (yZ Cj) (Kk Jg 100)) 100
theorem PA:aY (([],0):bh):=⟨⟨by decide,by decide⟩,λx hx=>by cases hx⟩
theorem Yg:vq Jg:=⟨QH PA bZ3,λi hi=>RY PA bZ3 hi⟩
theorem aQ1:lV Cj:=⟨aB,λt ht=>by
 rw[kY.1 ht]
 exact⟨W8 Yg,.inr (.inr rfl),aB,aB,aB,aB,aB⟩,rfl⟩
theorem a36:fD Cj=SW:=by
 have e:ij Cj=[(0,0,0)]:=by
  have e0:mE Cj.1 (be Cj.1)=[(0,0,0)]:=rfl;unfold ij dY;rw[e0,cq6]
 unfold fD
 rw[e]
 decide +kernel
theorem am8:qz Jg Cj 100=DH:=by unfold qz oF;rw[cg7,a36];rfl
theorem aZ1:DH.2.2.2=bZ3/\be DH.1=1/\(Om DH.1 0 Sk).2.2.2.2.2.2.2.2.1=bZ3/\(Om DH.1 0 Sk).2.2.2.2.2.2.2.2.2.2.2.2.1=1:=by decide +kernel
def bu0:Ct:=⟨[],[.val .bool],λ_=>[],λ_=>((bZ3,()),())⟩
theorem ao3:
 True->True->(0:Int)<=(0:Int)/\ ∀(a:ad)(b:Int),(a,b)=(if (↑((0:Nat)):Int)<=0 then ([]:ad) else take 0 ([]:ad),(0:Int))->f6 (a,b)/\ ∀(c:List au)(d:List bo)(e:List cH)(f:ad)(g:Int),(c,d,e)=tI bZ3 (a,b)/\(f,g)=Bh bZ3 (a,b)-> ∀(h i:Int),h=(i5 (c,d,e)).1/\i=(i5 (c,d,e)).2->vq (c,d,e)/\lV ([(i,17,0,1,0,1,1)],0,0)/\(1:Int)<=(100:Int)/\(100:Int)<=(20000:Int)/\ ∀(j:List bn0×ad×af1×Bool),j=qz (c,d,e)
 ([(i,17,0,1,0,1,1)],0,0) 100->(17:Int)=(17:Int)/\cT (1,i,17,0,0,1)=0/\ ∀(k:ad)(l:Int),be k=30-> ∀(m:Bool),m=j.2.2.2->cj m m (aJ m) (m->m) (∀(n:Bool),n=jm m (ac k) 30->fq n n (aJ n) (n->n) (∀(o:Bool),o=jm n (ac j.1) 1->cj o o (qJ o (ac j.1)) (o->aJ o) ((o->aJ o)/\(o->o)/\ ∀(p:Bool),p=br o (iK j.1 0).2.2.2.2.2.2.2.2.1->cj p p (qJ p (ac j.1)) (p->aJ p) (fq p p (aJ p) (p->p) (jm p (iK j.1 0).2.2.2.2.2.2.2.2.2.2.2.2.1 1))))):= by
  delta iK ac aJ cj br am fq ai qJ jm
  rintro - -
  refine⟨aB,?_⟩
  rintro l p hc
  have hc:=hc
  refine⟨by rw[hc];exact PA.at',?_⟩
  rintro ns ls hs l2 p2 ⟨hn,-⟩
  rw[hc] at hn
  have hn:=hn
  rintro x y ⟨rfl,rfl⟩
  rw[hn]
  refine⟨Yg,aQ1,aB,aB,?_⟩
  rintro d hd
  have hd:=hd.trans am8
  subst hd
  refine⟨rfl,pV.2 ⟨.inr (.inr rfl),aB⟩,?_⟩
  rintro b e e4
  have ⟨e0,e1,e2,e3⟩:=aZ1
  rintro c hc
  have hc:=hc.trans e0
  subst hc
  (repeat refine⟨λ_=>(by first|rfl|exact⟨λ_=>rfl,aP⟩|exact⟨λ_=>rfl,λ_=>rfl,aP⟩),?_⟩)
  rintro c hc
  have hc:c=true:=by rw[hc,e4];rfl
  subst hc
  (repeat refine⟨λ_=>(by first|rfl|exact⟨λ_=>rfl,aP⟩|exact⟨λ_=>rfl,λ_=>rfl,aP⟩),?_⟩)
  have e1:(be DH.1:Int)=1:=ab
  rintro c hc
  have hc:=hc.trans (ft e1)
  subst hc
  (repeat refine⟨λ_=>(by first|rfl|exact⟨λ_=>rfl,aP⟩|exact⟨aB,ab,aP⟩|exact⟨λ_=>rfl,aB,ab,aP⟩),?_⟩)
  rintro c hc
  have hc:=hc.trans e2
  subst hc
  (repeat refine⟨λ_=>(by first|rfl|exact⟨λ_=>rfl,aP⟩|exact⟨aB,ab,aP⟩|exact⟨λ_=>rfl,aB,ab,aP⟩),?_⟩)
  exact ft e3
theorem aF9:aC 4 bu0.spec:=aF Tryz.func4 (ap (ap (ap (ap (ap aD (Ct.named Se)) (Ct.named Vm)) (Ct.named NM)) (Ct.named Yt)) bj4) aU ao3
def an8:Ct:=⟨[.val dw],[.val .bool],λ_=>[],λd=>((bZ2 (d.1/16777216=10),()),())⟩
theorem bk9:
 ∀(a:Int),dW (aO a) ((0:Int)<=(24:Int)/\bZ2 (eZ bZ7 a 24=10)=bZ2 (a/16777216=10)):= by
  delta aO ai dW
  rintro x ⟨⟨h0,h1⟩,-⟩ -
  refine⟨aB,?_⟩
  have:eZ .u32 x 24=x/16777216:=by
   unfold eZ
   rw[show min (it (24:Int)) bZ7.bits=24 from rfl,Er _ aB];rfl
  rw[this]
theorem ad5:aC 33 an8.spec:=aF Tryz.func33 aD aU bk9
def Tw(t:fM):Prop:=qm (t.1,t.2.1,t.2.2.1,1,t.2.2.2.2)
def Xg:Cn:=⟨[.box 83 jw,.agg l7],[.agg iH],λd=>[aY d.1,(i5 d.2.1).2/16777216=10],λd y=>lV y.1.1/\aY y.2.1,λd h=>⟨(((([],(0,0)):iH.D),()),(d.1,())),⟨cD3 _,λ_ h=>absurd h (ci5),rfl⟩,h.1⟩⟩
def bD4:bw Xg.ps->bL:=(λd=>{loops:=(bu 5 (λS=>{ι:=Int×(List fM)×bY1×bg8×Int,qn:=⟨λk_=>∀(k:Int)(l:(List fM))(c:bY1)(b:bg8)(a:Int),k_ (k,l,c,b,a),λk_ h_ i=>h_ i.1 i.2.1 i.2.2.1 i.2.2.2.1 i.2.2.2.2,λk_=>∃ (k:Int) (l:(List fM)) (c:bY1) (b:bg8) (a:Int),k_ (k,l,c,b,a),λk_ ⟨k,l,c,b,a,h_⟩=>⟨_,h_⟩⟩,μ:=λi=>it i.1,inv:=λi=>0<=i.1/\i.1<=4/\be i.2.1<=6*(4-i.1)/\0<=i.2.2.2.2/\i.2.2.2.2<=39*(4-i.1)/\aY i.2.2.1/\jj i.2.2.2.1=0∧∀ t∈i.2.1,qm t,keep:=[0,3,4,5,7],slots:=λi=>[(8,.int .i64 i.2.2.2.2),(9,.int .i64 i.1)],keepN:=[64,80],names:=λi=>[(1048576,.live (.cells 83 (cF jw i.2.2.1))),(96,.live (.cells 49 ([.own 524288 7]++cF xp i.2.2.2.1))),(524288,.live (.row 77 BF i.2.1))]}) (bu 14 (λS=>{ι:=Int×(List fM)×bY1×bY3×bg8,qn:=⟨λk_=>∀(m:Int)(l:(List fM))(c:bY1)(t:bY3)(b:bg8),k_ (m,l,c,t,b),λk_ h_ i=>h_ i.1 i.2.1 i.2.2.1 i.2.2.2.1 i.2.2.2.2,λk_=>∃ (m:Int) (l:(List fM)) (c:bY1) (t:bY3) (b:bg8),k_ (m,l,c,t,b),λk_ ⟨m,l,c,t,b,h_⟩=>⟨_,h_⟩⟩,μ:=λi=>it (7-i.1),inv:=λi=>1<=i.1/\i.1<=7/\(be i.2.1:Int)+6*S.i 9<=23+i.1/\aY i.2.2.1/\jj i.2.2.2.2=0/\(∀ x∈i.2.1,qm x)/\Tw i.2.2.2.1,keep:=[0,3,4,5,7,8,9,11],slots:=λi=>[(12,.int .i64 i.1)],keepN:=[64,80],names:=λi=>[(1048576,.live (.cells 83 (cF jw i.2.2.1))),(192,.live (.cells 77 (cF BF i.2.2.2.1))),(96,.live (.cells 49 ([.own 524288 7]++cF xp i.2.2.2.2))),(524288,.live (.row 77 BF i.2.1))]}) cC)),cuts:=(bu 10 (λS=>{ι:=Int×bY1,qn:=fH,inv:=λi=>aY i.2/\0<=i.1/\i.1<=4294967295,keep:=[0,3,4,5,7,8,9],slots:=λi=>[(10,.int .u32 i.1)],keepN:=[64,80,96,524288],names:=λi=>[(1048576,.live (.cells 83 (cF jw i.2)))]}) (bu 12 (λS=>{ι:=Int,inv:=λi=>i/16777216=10,keep:=[0,3,4,5,7,8,9],slots:=λi=>[(10,.int .u32 i)],keepN:=[64,80,96,524288,1048576]}) cC))})
def Lw(a:Int)(b:List fM)(c:Int)(d:bh)(e:Int):=bt a 4 (ac b<=6*(4 -a)) (bt c (39*(4 -a)) (aY d) (e=0/\ ∀(f:fM),f∈b->qm f))
def Jf(a:Int)(b:List fM)(c:Int)(d:bh)(e:bg8)(f:fM):=1<=a/\a<=7/\ac b+6*c<=23+a/\aY d/\jj e=0/\(∀(g:fM),g∈b->qm g)/\Tw f
theorem by3:
 ∀(a:ad)(b:Int)(c:List au)(d:List bo)(e:List cH),(aQ a/\aq b)/\ai (gA c d e)->aY (a,b)/\(i5 (c,d,e)).2/16777216=10->aY (a,b)/\ ∀(f g:Int)(h:ad)(i:Int),H8 (f,g)/\aY (h,i)-> ∀(j k:Int),j=(i5 (c,d,e)).1/\k=(i5 (c,d,e)).2->aY (h,i)/\ ∀(l:Int)(m:ad)(n:Int),am l (l<4∨l=0) (aY (m,n))->(∃(o:Int) (p:List fM) (q:bh) (r:bg8) (s:Int),Lw o p s q (jj r)/\bn k k 0 s (ao (1+l)=o) (dX c d (e=e) (bp 0 0 (m=q.1) (bn n q.2 f r.1 (g=r.2) (ai (p=[]))))))/\ ∀(o:Int)(p:List fM)(q:bh)(r:bg8)(s:Int),Lw o p s q (jj r)->ar (ax 0 o) ((aY q/\ ∀(t:Int)(u:ad)(v:Int),vM t u v->ar (bZ2 (t=2)) (aY (u,v)/\ ∀(w:Int)(x:ad)(y:Int),aY (x,y)/\aO w-> ∃(z:Int) (A:bh),(aY A/\aO z)/\bN k s o (w=z) (dX c d (e=e) (aZ 0 0 r.1 r.2 (p=p) (x=A.1/\ai (y=A.2))))) (∃(w:Int) (x:bh),(aY x/\aO
 w)/\bN k s o (k=w) (dX c d (e=e) (aZ 0 0 r.1 r.2 (p=p) (u=x.1/\ai (v=x.2))))))/\ ∀(t:Int)(u:bh),aY u/\aO t->ar (cP (t/16777216) 10) (∃(v:Int),v/16777216=10/\bN k s o (k=v) (dX c d (e=e) (aZ 0 0 r.1 r.2 (p=p) (u.1=u.1/\ai (u.2=u.2))))) (∃(v:Int),v/16777216=10/\bN k s o (t=v) (dX c d (e=e) (aZ 0 0 r.1 r.2 (p=p) (u.1=u.1/\ai (u.2=u.2)))))/\ ∀(v:Int),v/16777216=10->aY u/\ ∀(w:Int)(x:ad)(y:Int),aY (x,y)/\(w=17∨w=1∨w=6)->aY (x,y)/\ ∀(z:Int),AS z (z<3∨z=0) (∀(A:Int),AS A (A<40∨A=0) (∀(B:Int)(C:ad)(D:Int),am B (B<2∨B=0) (aY (C,D))->(∃(E:Int) (F:List fM) (G:bh) (H:fM) (I:bg8),Jf E F o G I H/\bN k s o (1=E) (dX c d (e=e) (bp 0 0 (C=G.1) (bn D G.2 v H.1 (w=H.2.1) (bn z H.2.2.1 0 H.2.2.2.1 (s=H.2.2.2.2.1) (bn (ao (1+A)) H.2.2.2.2.2.1 (ao (1+B)) H.2.2.2.2.2.2 (r.1=I.1) (r.2=I.2/\ai (p=F))))))))/\
 ∀(E:Int)(F:List fM)(G:bh)(H:fM)(I:bg8),Jf E F o G I H->aY G/\ ∀(J:Int)(K:ad)(L:Int),am J (J<6∨J=0) (aY (K,L))->ar (bZ2 (E<=ao (1+J))) (bP ((be F+be [(H.1,H.2.1,H.2.2.1,E,H.2.2.2.2)])*56)/\ ∃(M:Int) (N:List fM) (O:bh) (P:fM) (Q:bg8),Jf M N o O Q P/\bj 7 M E/\bN k s o (bf E M) (dX c d (e=e) (bp 0 0 (K=O.1) (bn L O.2 H.1 P.1 (H.2.1=P.2.1) (bn H.2.2.1 P.2.2.1 E P.2.2.2.1 (H.2.2.2.2.1=P.2.2.2.2.1) (bn H.2.2.2.2.2.1 P.2.2.2.2.2.1 H.2.2.2.2.2.2 P.2.2.2.2.2.2 (I.1=Q.1) (I.2=Q.2/\ai (F++[(H.1,H.2.1,H.2.2.1,E,H.2.2.2.2)]=N)))))))) (aY (K,L)/\ ∀(M:Int)(N:ad)(O:Int),am M (M<40∨M=0) (aY (N,O))-> ∃(P:Int) (Q:List fM) (R:bh) (S:bg8) (T:Int),Lw P Q T R (jj S)/\cN P o/\bn k k (ao (s+M)) T (ao (o -1)=P) (dX c d (e=e) (bp 0 0 (N=R.1) (bn O R.2 I.1 S.1 (I.2=S.2) (ai (F=Q)))))))))
 (lV (p,r)/\aY q):= by
  delta ac ao aq aK aZ bN aQ bp gA mP c9 dB aO cS jH bG bj am bP bt ai dX bf AS kx cN cP Lw Jf mw vM ax bn
  rintro u p ns ls hs-⟨hc,hh⟩
  refine⟨hc,?_⟩
  rintro b1 b2 u p ⟨hb,hc⟩
  have hB:jj (b1,b2)=0:=by
   unfold jj
   rw[aj]
   obtain e|⟨k1,k2,k3,k4⟩:=hb
   .exact .inl e
   .exact .inr ⟨k1,cl4 k2 aB,k3,cl4 k4 aB⟩
  rintro x y ⟨-,rfl⟩
  have hh:0<=(i5 (ns,ls,hs)).2/\(i5 (ns,ls,hs)).2<=4294967295/\(i5 (ns,ls,hs)).2/16777216=10:=ab
  refine⟨hc,λq u p ⟨q0,q1,hc⟩=>⟨⟨1+q,[],(u,p),(b1,b2),0,⟨ab,ab,by simp only[cb8];omega,ab,ab,hc,hB,λ_ h=>absurd h (ci5)⟩,?_⟩,?_⟩⟩
  .rw[aG ab ab]
   exact aI
  rintro k l c b a ⟨k0,k4,kl,a0,a1,hc,hb,ht⟩
  refine aw (λq=>?_) (λq=>⟨⟨by show be l<=24;omega,ht,hb⟩,hc⟩)
  have q:=aX q
  refine⟨⟨hc,λx u p ⟨x0,x1,hc⟩=>aw (λ_=>⟨hc,λx u p ⟨hc,y0,y1⟩=>⟨x,(u,p),⟨hc,y0,y1⟩,aI⟩⟩) (λ_=>⟨_,(u,p),⟨hc,hh.1,hh.2.1⟩,aI⟩)⟩,?_⟩
  rintro x c ⟨hc,x0,x1⟩
  refine⟨aw (λ_=>⟨_,hh.2.2,aI⟩) (λz=>⟨x,jx z,aI⟩),?_⟩
  rintro x hx
  refine⟨hc,λpr u p ⟨hc,hpr⟩=>⟨hc,λf u p ⟨f0,f1,hc⟩=>⟨hc,λe u p ⟨e0,e1,hc⟩=>⟨hc,λn u p ⟨n0,n1,hc⟩=>?_⟩⟩⟩⟩
  rw[aG (n:=1+e) ab ab,aG (n:=1+n) ab ab]
  refine⟨⟨1,l,(u,p),(x,pr,f,0,a,1+e,1+n),b,⟨ab,ab,ab,hc,hb,ht,⟨hx,by show pr=1∨pr=6∨pr=17;omega,⟨f0,by show f<=9;omega⟩,⟨by show (1:Int)<=1;decide,by show (1:Int)<=9;decide⟩,⟨a0,by show a<=199;omega⟩,⟨by show 1<=1+e;omega,by show 1+e<=99;omega⟩,by show 1<=1+n;omega,by show 1+n<=9;omega⟩⟩,aI⟩,?_⟩
  rintro m l c t b ⟨m1,m7,ml,hc,hb,ht,h1⟩
  refine⟨hc,λy u p ⟨y0,y1,hc⟩=>?_⟩
  rw[aG (n:=1+y) ab ab]
  refine ci (λz=>?_) (λz=>?_)
  .have tk:qm (t.1,t.2.1,t.2.2.1,m,t.2.2.2.2):=⟨h1.1,h1.2.1,h1.2.2.1,⟨m1,by show m<=9;omega⟩,h1.2.2.2.2⟩
   refine⟨by simp only[eI];omega,m+1,l++[(t.1,t.2.1,t.2.2.1,m,t.2.2.2.2)],(u,p),(t.1,t.2.1,t.2.2.1,m,t.2.2.2.2),b,⟨ab,ab,?_,hc,hb,λx hx=>?_,h1⟩,ab,?_⟩
   .rw[bM,eI];omega
   .obtain hx|hx:=dI.1 hx
    .exact ht x hx
    .rw[kY.1 hx];exact tk
   .rw[aG ab ab]
    exact aI
  .refine⟨hc,λy u p ⟨y0,y1,hc⟩=>?_⟩
   rw[aG (n:=a+y) ab ab,aG (n:=k-1) ab ab]
   refine⟨k-1,l,(u,p),b,a+y,⟨ab,ab,ab,ab,ab,hc,hb,ht⟩,ab,aI⟩
theorem bv5:aC 9 Xg.spec:=lL Tryz.func9 (ap (ap (ap (ap (ap (ap aD aH1) (Ct.named NM)) Bu) bm8) ad5) ah0) bD4 by3
def iL(l:List av):Int:=(Om l 0 Sk).1
def rL(l:List av):Int:=(Om l 0 Sk).2.1
def Cf(l:List av)(k:ad):jt:=z7 (iL l) (rL l) k
structure wc (l:List av):Prop where
 n:be l<=216
 ok:∀ r∈l,mo r
 i:∀ j:Nat,j<be l->(Om l j Sk).1=iL l/\(Om l j Sk).2.1=rL l/\(Om l j Sk).2.2.1=j
theorem wc.rng{l:List av}(h:wc l):(0<=iL l/\iL l<=15)/\0<=rL l/\rL l<=63:=by
 unfold iL rL
 cases l with
 | nil=>decide
 | cons a l=>exact⟨(h.ok a az).v,(h.ok a az).u⟩
def sE(k:ad):jt->List (List av)->jt
 | c,[]=>c
 | c,l::ls=>sE k (vQ c l k) ls
theorem RC(k:ad):∀(ls:List (List av))(c:jt),be c.2.2.2=32->(sE k c ls).1=c.1/\(sE k c ls).2.1=c.2.1/\(sE k c ls).2.2.1=c.2.2.1+be ls.flatten/\(sE k c ls).2.2.2.length=32
 | [],c,h=>⟨rfl,rfl,(Int.add_zero _).symm,h⟩
 | l::ls,c,h=>by
  obtain⟨h1,h2,h3,h4⟩:=RC k ls (vQ c l k) (Hu _);refine⟨h1,h2,h3.trans ?_,h4⟩;rw[List.flatten_cons,bM];show c.2.2.1+be l+_=_;omega
theorem Yh(k:ad)(l:List av):∀(ls:List (List av))(c:jt),sE k c (ls++[l])=vQ (sE k c ls) l k/\sR k c (ls++[l])=sR k c ls++[dG (sE k c ls).1 (sE k c ls).2.1 (sE k c ls).2.2.1 (sE k c ls).2.2.2 l k]/\(B5 k c ls->AJ (sE k c ls) l->B5 k c (ls++[l]))
 | [],c=>⟨rfl,rfl,λ_ h=>⟨h,aP⟩⟩
 | a::ls,c=>by
  obtain⟨h1,h2,h3⟩:=Yh k l ls (vQ c a k);exact⟨h1,by rw[kO,sR,h2];rfl,λh q=>⟨h.1,h3 h.2 q⟩⟩
structure vV (k:ad) (l:List av) (n:Nat) (x:jt) (sg:bY0) (ls:List (List av)):Prop where
 le:n<=be l
 tk:l.take n=ls.flatten
 jr:B5 k (Cf l k) ls
 ch:x=sE k (Cf l k) ls
 gs:sg=vX (iL l) (rL l) k::sR k (Cf l k) ls
 ml:be ls<=n
theorem vV.zero(k:ad)(l:List av):vV k l 0 (Cf l k) [vX (iL l) (rL l) k] []:=⟨cD3 _,rfl,aP,by rw[sE],by rw[sR],dq _⟩
theorem vV.step{k:ad}{l:List av}{n m:Nat}{x:jt}{sg:bY0}{ls:List (List av)}(h:vV k l n x sg ls)(hR:wc l)(m1:1<=m)(m2:m<=64)(hm:n+m<=be l) :
  AJ x ((l.drop n).take m)/\vV k l (n+m) (vQ x ((l.drop n).take m) k) (sg++[dG x.1 x.2.1 x.2.2.1 x.2.2.2 ((l.drop n).take m) k]) (ls++[(l.drop n).take m]):=by
 have ⟨f1,f2,f3,f4⟩:=RC k ls (Cf l k) (by simp only[Cf,z7,Hu])
 have ⟨s1,s2,s3⟩:=Yh k ((l.drop n).take m) ls (Cf l k)
 rw[← h.ch] at f1 f2 f3 f4 s1 s2 s3
 have hl:be ((l.drop n).take m)=m:=by rw[eM,gw];omega
 have e3:x.2.2.1=n:=by
  rw[f3,← h.tk,eM,Nat.min_eq_left h.le];exact Int.zero_add _
 have hn:=hR.n
 have q:AJ x ((l.drop n).take m):=by
  have ⟨r1,r2⟩:=hR.rng;refine⟨⟨by rw[f1];exact r1,by rw[f2];exact r2,ab,f4,ab,λy hy=>hR.ok y (Al (rX hy))⟩,ab,ab,λj hj=>?_⟩;have e:Om ((l.drop n).take m) j Sk=Om l (n+j) default:=by
   rw[cq,cq,wE,aj ab,wp]
  have ⟨i1,i2,i3⟩:=hR.i (n+j) ab;rw[e,f1,f2,e3];exact⟨i1,i2,ab⟩
 refine⟨q,hm,?_,s3 h.jr q,s1.symm,by rw[h.gs,s2];rfl,by rw[bM,eI];have:=h.ml;omega⟩
 rw[List.flatten_append,← h.tk,List.take_add]
 simp
def zU(k:ad)(l:List av)(sg:bY0):Prop:=∃ x ls,vV k l (be l) x sg ls
theorem wc.wr{l:List av}(h:wc l)(k:ad):∃ sg,zU k l sg:=by
 have:∀ n,n<=be l→∃ x sg ls,vV k l n x sg ls:=by
  intro n
  induction n with
  | zero=>exact λ_=>⟨_,_,_,.zero k l⟩
  | succ n ih =>
   intro hn;have ⟨x,sg,ls,w⟩:=ih ab;exact⟨_,_,_,(w.step h (m:=1) aB aB hn).2⟩
 have ⟨x,sg,ls,w⟩:=this _ (dq _)
 exact⟨sg,x,ls,w⟩
def Zo:Cn:=⟨[.box 83 jw,.val (.sl cU),.val (.sl bm)],[.val (.sl (.sl bm)),.val .bool],λd=>[aY d.1,wc d.2.1,be d.2.2.1<=64],λd y=>zU d.2.2.1 d.2.1 y.1.1/\y.1.2.1=bZ3/\aY y.2.1,λd h=>(h.2.1.wr d.2.2.1).elim λs q=>⟨((s,bZ3,()),(d.1,())),q,rfl,h.1⟩⟩
def bj1:bw Zo.ps->bL:=(λd=>{loops:=(bu 6 (λS=>{ι:=Int×bY1×bY4×bY0×ad,qn:=⟨λk_=>∀(n:Int)(c:bY1)(x:bY4)(sg:bY0)(b:ad),k_ (n,c,x,sg,b),λk_ h_ i=>h_ i.1 i.2.1 i.2.2.1 i.2.2.2.1 i.2.2.2.2,λk_=>∃ (n:Int) (c:bY1) (x:bY4) (sg:bY0) (b:ad),k_ (n,c,x,sg,b),λk_ ⟨n,c,x,sg,b,h_⟩=>⟨_,h_⟩⟩,μ:=λi=>it (be d.2.1-i.1),inv:=λi=>0<=i.1/\i.1<=be d.2.1/\aY i.2.1∧∃ ls,vV d.2.2.1 d.2.1 (it i.1) i.2.2.1 i.2.2.2.1 ls,keep:=[0,2,10],slots:=λi=>[(1,.dsl cU (d.2.1.drop (it i.1))),(11,.dsl bm i.2.2.2.2),(12,.int .i64 0),(13,.own 524288 1)],names:=λi=>[(1048576,.live (.cells 83 (cF jw i.2.1))),(176,.live (.cells 61 (cF u4 i.2.2.1))),(524288,.live (.row 22 (.sl bm) i.2.2.2.1))]}) cC),cuts:=(bu 4 (λS=>{ι:=Unit,inv:=λi=>True,keep:=[0,1,2],slots:=λi=>[(8,.int .i64 (iL d.2.1)),(9,.int .i64 (rL d.2.1))],keepN:=[1048576]}) cC)})
def zZ(a:Int)(b:List av):=ac (drop (it a) b)
theorem bK8:
 ∀(a:ad)(b:Int)(c:List av)(d:ad),(aQ a/\aq b)/\nJ c/\ai (aQ d)->aY (a,b)/\wc c/\mb d->ar (ax 0 (ac c)) (am 0 (0<ac c) (am 0 (0<ac c) (l5 (c=c/\d=d/\bn (iK c 0).1 (iL c) (iK c 0).2.1 (rL c) (a=a) (ai (b=b)))))) (l5 (c=c/\d=d/\bn 0 (iL c) 0 (rL c) (a=a) (ai (b=b))))/\pt (am (iL c) (iL c<=15) (bt (rL c) 63 (mb d) (∀(e f g:Int)(h i:ad)(j:Int),(e,f,g,h)=z7 (iL c) (rL c) d/\i=vX (iL c) (rL c) d/\j=0->(∃(k:Int) (l:bh) (m:jt) (n:bY0) (o:ad),bt k (ac c) (aY l) (∃(p:List (List av)),vV d c (it k) m n p)/\c=drop (it k) c/\d=d/\i=o/\j=0/\a=l.1/\bn b l.2 e m.1 (f=m.2.1) (g=m.2.2.1/\h=m.2.2.2/\ai ([i]=n)))/\ ∀(k:Int)(l:bh)(m:jt)(n:bY0)(o:ad),bt k (ac c) (aY l) (∃(p:List (List av)),vV d c (it k) m n p)->C0 (ax 0 (zZ k c)) (decide
 ((0:Int)=(0:Int))) (aY l/\ ∀(p:Int)(q:ad)(r:Int),am p (p<min (zZ k c) 6∨p=0) (aY (q,r))->bt 0 (ao (1+p)) (ao (1+p)<=zZ k c) (AJ m (bY (drop (it k) c) 0 (jL (1+p)))/\mb d/\ ∀(s t u:Int)(v w:ad)(x:Int),(s,t,u,v)=vQ m (bY (drop (it k) c) 0 (jL (1+p))) d/\w=dG m.1 m.2.1 m.2.2.1 m.2.2.2 (bY (drop (it k) c) 0 (jL (1+p))) d/\x=0->bP ((be n+be [w])*24)/\bt (ao (1+p)) (zZ k c) (zZ k c<=zZ k c) (∃(y:Int) (z:bh) (A:jt) (B:bY0) (C:ad),bt y (ac c) (aY z) (∃(D:List (List av)),vV d c (it y) A B D)/\bj (ac c) y k/\bY (drop (it k) c) (jL (1+p)) (it (zZ k c))=drop (it y) c/\d=d/\w=C/\x=0/\q=z.1/\bn r z.2 s A.1 (t=A.2.1) (u=A.2.2.1/\v=A.2.2.2/\ai (n++[w]=B))))) (zU d c n/\bZ2 ((0:Int)=(0:Int))/\aY l)))):= by
  delta iK ac ao aq aK aQ aJ bj br am bP nJ bt ai l5 cN jL C0 pt ax bn mb zZ
  rintro l p rs k ⟨-,⟨hrl,-⟩,-,-⟩⟨hc,hR,hk⟩
  have ⟨⟨r1,r2⟩,r3,r4⟩:=hR.rng
  have hn:=hR.n
  refine⟨ci (λq=>?_) (λq=>?_),?_⟩
  .exact⟨aB,q,aB,q,(),aP,aI⟩
  .have:rs=[]:=yu (by have:=q;omega)
   subst this
   exact⟨(),aP,aI⟩
  rintro - -
  refine⟨r1,r2,r3,r4,hk,?_⟩
  rintro a b c d s e ⟨hx,rfl,rfl⟩
  refine⟨⟨0,(l,p),(a,b,c,d),[vX (iL rs) (rL rs) k],vX (iL rs) (rL rs) k,⟨ab,ab,hc,[],by rw[hx];exact .zero k rs⟩,aI⟩,?_⟩
  rintro n c x sg b ⟨n0,n1,hc,ls,w⟩
  have hd:(be (rs.drop (it n)):Int)=be rs-n:=by rw[gw];omega
  rw[hd]
  (repeat (refine cL ?_;repeat refine cK ?_))
  refine aw (λq=>?_) (λq=>?_)
  .have q:n<be rs:=by simp at q;omega
   refine⟨hc,?_⟩
   rintro y u v ⟨y0,y1,hc2⟩
   rw[aG (n:=1+y) ab ab]
   have e1:bY (rs.drop (it n)) 0 (it (1+y))=(rs.drop (it n)).take (it (1+y)):=cm3
   have e2:bY (rs.drop (it n)) (it (1+y)) (it ((be rs:Int)-n))=rs.drop (it (n+(1+y))):=by
    unfold bY
    rw[gN (by rw[gw];omega),List.drop_drop,show it n+it (1+y)=it (n+(1+y)) by omega]
   have ⟨so,w2⟩:=w.step hR (m:=it (1+y)) ab ab ab
   have hsl:be sg<=217:=by
    have h1:=w.ml
    rw[w.gs,cX]
    have:∀(c:jt)(ls:List (List av)),be (sR k c ls)=be ls:=by
     intro c ls
     induction ls generalizing c with
     | nil=>rfl
     | cons a ls ih=>rw[sR,cX,ih,cX]
    rw[this];omega
   rw[e1,e2]
   refine⟨aB,ab,ab,so,hk,?_⟩
   rintro x1 x2 x3 x4 x5 x6 ⟨h1,rfl,rfl⟩
   rw[← h1,show it n+it (1+y)=it (n+(1+y)) by omega] at w2
   exact⟨by rw[eI];omega,ab,ab,io _,n+(1+y),(u,v),(x1,x2,x3,x4),_,_,⟨ab,ab,hc2,_,w2⟩,ab,aI⟩
  .have q:be rs=it n:=by simp at q;omega
   exact⟨⟨x,ls,by rw[q];exact w⟩,rfl,hc⟩
theorem bs7:aC 10 Zo.spec:=lL Tryz.func10 (ap (ap (ap aD (Ct.named bL4)) (Ct.named bU2)) Bu) bj1 bK8
open Go.SX Go.Proofs Go.Shelf Go.RowKit Go.Lib Go.Sort
set_option maxRecDepth 1000000
set_option maxHeartbeats 4000000
theorem a08{α:Type} [Inhabited α] (enc:α->List Value) {k:Nat} (hk:∀ x,(enc x).length=k) (d:Array α) {i:Nat} (hi:i<d.size) (x:α):setMany (flatK enc k d) (i*k) (enc x)=flatK enc k (d.setIfInBounds i x):=by
 refine ext_get! az λt ht=>?_
 have ht':t<d.size*k:=by simpa using ht
 have k0:0<k:=(Nat.eq_zero_or_pos k).elim (λh=>by subst h;simp at ht') id
 rw[get_setMany _ _ _ t (by simpa using ht'),get_flatK _ _ _ t ht',get_flatK _ _ _ t (by simpa using ht'),hk]
 by_cases b:t/k=i
 .rw[aj ((blk_iff k i t k0).2 b),b,getElem!_pos (d.setIfInBounds i x) i (by simpa using hi)];rw[Array.getElem_setIfInBounds_self,← b,Nat.mod_eq_sub_div_mul]
 .rw[ah λh=>b ((blk_iff k i t k0).1 h)];rw[getElem!_set_other d i _ x b]
theorem aH8{k:Nat}(zE:∀ w,(Go.sizeOf 56).run Tryz.prog w = .ok k w){za:Array ca2}(hzv:∀ w,(zeroValue 56).run Tryz.prog w = .ok (.agg za) w)(hzs:za.size=k)(hk0:0<k)(hz1:∀ v∈za.toList,v.oneCell'=bZ3) :
  Zk Tryz.prog 154 56 k:=by
 have mixed:=ir
 refine⟨?_,?_⟩
 .intro w p n c hn
  go_enter Tryz.func154,Tryz.ntmps154
  go_wp2
  go_ret
  exact⟨rfl,rfl⟩
 .intro α _ _ enc hk h1 heq hne blk off cap d w hH hsz hcap h2;have heq':=heq.1;have hne':=hne.1;have hgd':=hne.2;have bnd:∀(dk:Array α) x,x<dk.size->x*k+k<=dk.size*k:=λdk x hx=>by
   have:=lw k (show x+1<=dk.size from hx);rwa [fY,mv] at this
  go_enter Tryz.func154,Tryz.ntmps154
  go_wp2
  have HU:cz0 (HoldsK enc k w blk off d/\(∀ x,be (enc x)=k)/\(∀ x,∀ v∈enc x,v.oneCell'=bZ3)/\0<k):=⟨hH,hk,h1,hk0⟩
  clear hH hk h1 heq hne;have same:∀ q,(∀ j,j<d.size->keeps d j=bZ3)->be (compactUpTo d d.size)=d.size∧∃ G,G.size=d.size*k/\(∀ i (hi:i<be (compactUpTo d d.size)),∀ j,j<k->bZ1 G[i*k+j]! = (enc (compactUpTo d d.size)[i])[j]?)/\w.drewN q=putRow id (Sort.ahead w q) blk off G:=by
   intro q hall;obtain⟨hH,hk,-⟩:=HU.out;have e:compactUpTo d d.size=d.toList:=by rw[compactUpTo_all d _ hall,range_map_get]
   rw[e];refine⟨az,flatK enc k d,az,λi hi j hj=>?_,(putRowK_self enc k (Sort.ahead w q) blk off d hH).symm⟩;have hi:i<d.size:=by simpa using hi
   rw[GP enc hk d hi hj,getElem!_pos d i hi];rfl
  have HS:cz0 _:=same;clear same
  go_loopg [3] d.size (λg s3 wr=>∃ i q,1<=i/\i<=d.size/\d.size-i<=g/\s3 = .int .i64 i/\wr=w.drewN q/\cz0 (∀ j,j<i->keeps d j=bZ3))
  case atStart=>exact⟨1,0,dq _,ab,ab,rfl,rfl,keeps_lt_one d⟩
  case round =>
   obtain⟨i,q,hi1,hi,hg,rfl,rfl,A⟩:=hrel;by_cases hlt:i<d.size
   .have l1:∀ m,cp4 Tryz.prog (co2 ⟨blk,off+i*k,bZ9⟩ 0 k #[]) ((w.drewN q).drewN m) = .ok (enc d[i]!).toArray ((w.drewN q).drewN m):=λm=>by
     rw[cj4];exact run_loadCellsFrom_list _ _ _ _ k (HU.out.2.1 _) (HoldsK.cells (holdsK_ahead enc k w _ blk off d HU.out.1) HU.out.2.1 hlt)
    have l0:∀ m,cp4 Tryz.prog (co2 ⟨blk,off+(i-1)*k,bZ9⟩ 0 k #[]) ((w.drewN q).drewN m) = .ok (enc d[i-1]!).toArray ((w.drewN q).drewN m):=λm=>by
     rw[cj4];exact run_loadCellsFrom_list _ _ _ _ k (HU.out.2.1 _) (HoldsK.cells (holdsK_ahead enc k w _ blk off d HU.out.1) HU.out.2.1 ab)
    generalize hx:d[i]! = x at l1;generalize hy:d[i-1]! = y at l0;have B:cz0 (d[i]! = x/\d[i-1]! = y):=⟨hx,hy⟩
    clear hx hy;generalize hwq:w.drewN q=wq at l1 l0 ⊢;by_cases hdup:x=y
    .subst hdup
     go_wp2_with fail
     go_quiet (fail)
     go_wp2
     clear l1 l0
     go_loopg [3,5] d.size (λg s3 s5 wr=>∃ (kc k2 q2:Nat) (dk:Array α),s3 = .int .i64 kc/\s5 = .int .i64 k2/\1<=k2/\i+k2<=d.size/\d.size-(i+k2)<=g/\wr=putRowK enc k (Sort.ahead w q2) blk off dk/\CompInv d (i+k2) kc dk)
     case atStart=>exact⟨i,1,q+nq,d,rfl,rfl,dq _,ab,ab,by rw[← hwq,cj4];exact (putRowK_self enc k (Sort.ahead w (q+nq)) blk off d HU.out.1).symm,CompInv.start A.out (keeps_neg ab (by rw[B.out.1,B.out.2]))⟩
     case round =>
      obtain⟨kc,k2,q2,dk,rfl,rfl,h3,hle,hg2,hwr,hI⟩:=hrel;have hkc:=hI.lt;have hds:=hI.size;have I2:cz0 (CompInv d (i+k2) kc dk):=hI;have W2:cz0 (wr=putRowK enc k (Sort.ahead w q2) blk off dk):=hwr;have hHk:∀ m,HoldsK enc k (wr.drewN m) blk off dk:=λm=>by
       rw[hwr,putRowK_drewN];exact holdsK_putRowK enc k _ blk off d dk (holdsK_ahead enc k w _ blk off d HU.out.1) hds
      clear hwr hI;by_cases hlt2:i+k2<d.size
      .have l1:∀ m,cp4 Tryz.prog (co2 ⟨blk,off+i*k+k2*k,bZ9⟩ 0 k #[]) (wr.drewN m) = .ok (enc d[i+k2]!).toArray (wr.drewN m):=λm=>by
        rw[gG,← fY,← I2.out.high (i+k2) ab];exact run_loadCellsFrom_list _ _ _ _ k (HU.out.2.1 _) (HoldsK.cells (hHk m) HU.out.2.1 ab)
       have l0:∀ m,cp4 Tryz.prog (co2 ⟨blk,off+i*k+(k2-1)*k,bZ9⟩ 0 k #[]) (wr.drewN m) = .ok (enc d[i+k2-1]!).toArray (wr.drewN m):=λm=>by
        rw[gG,← fY,show i+(k2-1)=i+k2-1 by omega,← I2.out.high (i+k2-1) ab];exact run_loadCellsFrom_list _ _ _ _ k (HU.out.2.1 _) (HoldsK.cells (hHk m) HU.out.2.1 ab)
       have st:∀ m,cp4 Tryz.prog (storeCells ⟨blk,off+kc*k,bZ9⟩ (enc d[i+k2]!) 0) (wr.drewN m) = .ok () ((wr.drewN m).setCells blk (off+kc*k) (enc d[i+k2]!)):=λm =>
        stores_of_holds _ (hHk m) (kc*k) _ (by rw[HU.out.2.1,size_flatK];exact bnd dk kc ab) (HU.out.2.2.1 _)
       clear hHk;generalize hu:d[i+k2]! = u at l1 st;generalize hv:d[i+k2-1]! = v at l0;have C:cz0 (d[i+k2]! = u/\d[i+k2-1]! = v):=⟨hu,hv⟩
       have hul:=HU.out.2.1 u;clear hu hv;by_cases huv:u=v
       .subst huv
        go_wp2_with fail
        go_quiet (fail)
        go_wp2
        go_roundg (d.size-(i+(k2+1)))
        case measure=>omega
        case rel=>exact⟨kc,k2+1,q2+nq,dk,rfl,by go_num,ab,ab,dq _,by rw[W2.out,putRowK_drewN],I2.out.skip (keeps_neg ab (by rw[C.out.1,C.out.2]))⟩
       .go_wp2_with fail
        go_quiet (fail)
        go_wp2
        go_roundg (d.size-(i+(k2+1)))
        case measure=>omega
        case rel=>exact⟨kc+1,k2+1,q2+nq,dk.setIfInBounds kc u,by go_num,by go_num,ab,ab,dq _,by
         rw[W2.out,putRowK_drewN];show (putRow id _ blk off (flatK enc k dk)).setCells blk (off+kc*k) (enc u)=_;rw[setCells_putRow _ _ _ _ _ _ (by rw[hul,size_flatK];exact bnd dk kc ab),a08 enc HU.out.2.1 dk ab];rfl,by have:=I2.out.keep hlt2 (keeps_pos (by rw[C.out.1,C.out.2];exact huv));rwa [C.out.1] at this⟩
      .have hend:i+k2=d.size:=ab;have hz:(ca9 za (d.size-kc)).toList.length=(d.size-kc)*k:=by rw[fC,size_zeroCells,hzs]
       have hkz:kc*k+(d.size-kc)*k=d.size*k:=by rw[← fY];congr 1;omega
       have hst:=stores_of_holds Tryz.prog (hHk 0) (kc*k) (ca9 za (d.size-kc)).toList (by rw[hz,size_flatK,hds];omega) (by
        rw[QD _ _ ab];intro v hv;obtain⟨a,ha,rfl⟩:=cb5.1 hv;have q:=CN za.toList _ a (by rwa [GD] at ha);rw[cG ha] at q;exact hz1 _ (rS q.symm))
       have hcl:∀ ty,(cx1 #[34] ty #[.slice (bZ1 ⟨blk,off+kc*k,bZ9⟩) (d.size-kc) (cap-kc)]).run Tryz.prog wr = .ok (.tuple #[]) (wr.setCells blk (off+kc*k) (ca9 za (d.size-kc)).toList):=λty=>by
        obtain⟨m,hm⟩:∃ m,d.size-kc=m+1:=⟨d.size-kc-1,ab⟩
        rw[hm] at hst ⊢;have hst:cp4 Tryz.prog (storeCells ⟨blk,off+kc*k,bZ9⟩ (ca9 za (m+1)).toList 0) wr=_:=hst;simp[cx1,run_underlying Tryz.underlying34,hzv,Value.cells,hst];rfl
       clear hst hHk
       go_wp2
       go_ret
       have hI:=I2.out;rw[hend] at hI;refine⟨by rw[hI.len];rfl,q2,setMany (flatK enc k dk) (kc*k) (ca9 za (d.size-kc)).toList,by rw[size_setMany,size_flatK,hds],λa ha j hj=>?_,?_⟩
       .rw[hI.len] at ha;have hlt3:a*k+j<kc*k:=by
         have:=lw k (show a+1<=kc from ha);rw[fY,mv] at this;omega
        rw[get_setMany _ _ _ _ (by rw[size_flatK,hds];omega),ah ab,GP enc HU.out.2.1 dk ab hj];have:=hI.low a ha;rw[cG (by rw[hI.len];exact ha)] at this;rw[cn7.inj this]
       .rw[W2.out];exact setCells_putRow _ _ _ _ _ _ (by rw[hz,size_flatK,hds];omega)
    .go_wp2_with fail
     go_quiet (fail)
     go_wp2
     go_roundg (d.size-(i+1))
     case measure=>omega
     case rel =>
      refine⟨i+1,q+nq,ab,ab,dq _,by go_num,by rw[← hwq,cj4],(λj hj=>?_)⟩;by_cases e:j=i
      .subst e;exact keeps_pos (by rw[B.out.1,B.out.2];exact hdup)
      .exact A.out j ab
   .have:i=d.size:=ab;subst this
    go_wp2
    go_ret
    have ⟨e1,e2⟩:=HS.out q A.out;exact⟨by rw[e1];rfl,q,e2⟩
theorem bQ7(x y:av):DU Tryz.prog 56 (cF cU x) (cF cU y)=bZ1 (bZ2 (x=y)):=by
 have ⟨a1,a2,a3,a4,a5,a6,a7,a8,a9,a10,a11,a12,a13,a14,a15,a16,a17⟩:=x
 have ⟨b1,b2,b3,b4,b5,b6,b7,b8,b9,b10,b11,b12,b13,b14,b15,b16,b17⟩:=y
 refine Eq.trans (show _=bZ1 (bZ2 (a1=b1)&&(bZ2 (a2=b2)&&(bZ2 (a3=b3)&&(bZ2 (a4=b4)&&(bZ2 (a5=b5)&&(bZ2 (a6=b6)&&(bZ2 (a7=b7)&&(bZ2 (a8=b8)&&(a9 == b9&&(a10 == b10&&(bZ2 (a11=b11)&&((bZ2 (a12=b12)&&(bZ2 (a13=b13)&&(bZ2 (a14=b14)&&(bZ2 (a15=b15)&&(bZ2 (a16=b16)&&(bZ2 (a17=b17)&&bZ3))))))&&bZ3)))))))))))) by kernel_rfl) ?_
 congr 1
 rw[yq]
 simp only[fx,rF,beq_iff_eq,cy,g7]
def ag6:Go.SX.Spec:=Pl cU 56 Tz
theorem bB1:aC 154 ag6:=by
 exact bc5 rfl (aH8 (k:=17) (za:=(n9 cU Sk).toArray) (λw=>kT oS w) (λw=>by kernel_rfl) aB aB aB) bQ7 (λh=>CT.noConfusion h)
end Go.RS
namespace Go.RS
open Go.SX Go.Proofs
abbrev aE3:CT := .pair cI (.pair cI (.pair cI (.sl cU)))
abbrev uU:CT := .pair (.sl cU) (.sl aE3)
def aH9:Ct:=⟨[.val .bool],[.val cI],λ_=>[],λd=>((nT d.1,()),())⟩
def Ie:=∀(a:Bool),dW True (ar a (1=nT a) (0=nT a))
theorem bm0:
 Ie:= by
 delta ai dW Ie
 rintro b - -
 unfold nT
 exact aw (λq=>by rw[aj q]) (λq=>by rw[q];rfl)
theorem bD7:aC 209 aH9.spec:=aF Tryz.func209 aD aU bm0
def bj5:Ct:=⟨[.agg cU,.agg cU],[.val cI],λ_=>[],λd=>((yH d.1 d.2.1,()),())⟩
theorem ap2:
 ∀(a b:av),CT.wf cU a/\ai (CT.wf cU b)->True->j7 (cD a.1 b.1::cD a.2.1 b.2.1::bz (cD a.2.2.1 b.2.2.1))=yH a b:= by
  delta bz ai
  exact λ_ _ _ _=>rfl
theorem XH:aC 155 bj5.spec:=aF Tryz.func155 (ap (ap aD F0) FN) aU ap2
theorem av6{a b:av}:j7 [yH a b,cD a.2.2.2.1 b.2.2.2.1,cD a.2.2.2.2.1 b.2.2.2.2.1,cD a.2.2.2.2.2.1 b.2.2.2.2.2.1,cD a.2.2.2.2.2.2.1 b.2.2.2.2.2.2.1,cD a.2.2.2.2.2.2.2.1 b.2.2.2.2.2.2.2.1,cD (nT a.2.2.2.2.2.2.2.2.1) (nT b.2.2.2.2.2.2.2.2.1),cD (nT a.2.2.2.2.2.2.2.2.2.1) (nT b.2.2.2.2.2.2.2.2.2.1),cD a.2.2.2.2.2.2.2.2.2.2.1 b.2.2.2.2.2.2.2.2.2.2.1,cD (fT a).1 (fT b).1,cD (fT a).2.1 (fT b).2.1,cD (fT a).2.2.1 (fT b).2.2.1,cD (fT a).2.2.2.1 (fT b).2.2.2.1,cD (fT a).2.2.2.2.1 (fT b).2.2.2.2.1,cD (fT a).2.2.2.2.2 (fT b).2.2.2.2.2]=bS a b:=by
 have nz:∀(l:ad){x y z:Int},j7 (j7 [x,y,z]::l)=j7 (x::y::z::l):=by
  intro l x y z;simp only[j7]
  (repeat' split) <;> first|rfl|omega
 have hl:∀{a b:Int}{x y:ad}{l:ad},j7 l=lx x y->j7 (cD a b::l)=lx (a::x) (b::y):=λh=>by rw[j7,lx,h]
 unfold yH
 rw[nz]
 unfold bS iy
 (repeat refine hl ?_)
 rfl
def aB1:Ct:=GQ cU bS
theorem ao2:
 ∀(a b:av),CT.wf cU a/\ai (CT.wf cU b)->True->j7 (kD (yH a b) (cD a.2.2.2.1 b.2.2.2.1) (cD a.2.2.2.2.1 b.2.2.2.2.1) (cD a.2.2.2.2.2.1 b.2.2.2.2.2.1) (cD a.2.2.2.2.2.2.1 b.2.2.2.2.2.2.1) (kD (cD a.2.2.2.2.2.2.2.1 b.2.2.2.2.2.2.2.1) (cD (nT a.2.2.2.2.2.2.2.2.1) (nT b.2.2.2.2.2.2.2.2.1)) (cD (nT a.2.2.2.2.2.2.2.2.2.1) (nT b.2.2.2.2.2.2.2.2.2.1)) (cD a.2.2.2.2.2.2.2.2.2.2.1 b.2.2.2.2.2.2.2.2.2.2.1) (cD a.2.2.2.2.2.2.2.2.2.2.2.1 b.2.2.2.2.2.2.2.2.2.2.2.1) (cD a.2.2.2.2.2.2.2.2.2.2.2.2.1 b.2.2.2.2.2.2.2.2.2.2.2.2.1::cD a.2.2.2.2.2.2.2.2.2.2.2.2.2.1 b.2.2.2.2.2.2.2.2.2.2.2.2.2.1::cD a.2.2.2.2.2.2.2.2.2.2.2.2.2.2.1 b.2.2.2.2.2.2.2.2.2.2.2.2.2.2.1::cD a.2.2.2.2.2.2.2.2.2.2.2.2.2.2.2.1 b.2.2.2.2.2.2.2.2.2.2.2.2.2.2.2.1::bz (cD a.2.2.2.2.2.2.2.2.2.2.2.2.2.2.2.2 b.2.2.2.2.2.2.2.2.2.2.2.2.2.2.2.2))))=bS a b:= by
  delta bz ai kD
  exact λ_ _ _ _=>av6
theorem an9:aC 153 aB1.spec:=aF Tryz.func153 (ap (ap (ap (ap (ap aD bD7) XH) F0) XT) FN) aU ao2
open Go.Shelf in
def ap4:Ren:=⟨λx=>match x with|6=>152|15=>207|14=>206|28=>257|29=>258|20=>249|21=>250|22=>251|23=>252|24=>253|25=>254|26=>255|27=>256|46=>288|47=>289|48=>290|49=>291|50=>292|57=>311|n=>n,
 λx=>match x with|22=>34|24=>56|25=>272|39=>186|53=>51|55=>255|46=>357|45=>356|50=>170|66=>385|70=>389|76=>409|77=>410|n=>n,λx=>x⟩
theorem ba3:SlLaysF0.n6 Tryz.prog ap4:=by
 constructor <;> first|exact ir|exact To (by kernel_rfl) (by kernel_rfl)|kernel_rfl|(intro w;kernel_rfl)
def aK6:Go.SX.Spec:=Ln cU 56 153 bS (dY bS)
theorem af5:aC 152 aK6:=by
 exact YA rfl NI an9 ba3 rfl (λw=>by kernel_rfl) (λw=>by kernel_rfl) (enters_of Tryz.func153 (by kernel_rfl) rfl) (λh=>CT.noConfusion h) (λ_=>rfl)
def Y8:Ct:=⟨[.agg uU],[.own 56 cU],λd=>[d.1.2=[],(be d.1.1:Int)<=100000],λd=>((d.1.1,()),())⟩
def av8:bw Y8.ps->bL:=(λd=>{loops:=(bu 3 (λS=>{ι:=Unit,inv:=λi=>True,keep:=[1,10,11,12],slots:=λi=>[(3,.own 524288 17)],keepN:=[32],names:=λi=>[(524288,.live (.row 56 cU d.1.1))]}) cC)})
def y8(a:List av)(b:List (Int×Int×Int×List av)):=xK a/\be b<=cb2/\ ∀(c:Int×Int×Int×List av),c∈b->bG c.1 c.2.1 (aq c.2.2.1) (xK c.2.2.2)
theorem aY0:
 ∀(a:List av)(b:List (Int×Int×Int×List av)),ai (y8 a b)->b=[]/\ac a<=100000->ac a<=100000/\l5 (b=b/\bp (ac b) 0 (a=a) (b=b/\ai (a=a)))/\pt (ar (ax 0 (ac b)) (bJ 0 (ac b) (bP ((be a+be (iK b 0).2.2.2)*128)) (l5 ((0:Nat)<(0:Nat)/\b=b/\bn (ac b) (ac b) 1 0 (a=a) (b=b/\ai (a++(iK b 0).2.2.2=a))))) (a=a)):= by
  delta iK ac aq aK bp xK aO bG am bP ai l5 y8 bJ pt ax bn
  rintro x y-⟨rfl,h⟩
  exact⟨h,⟨(),aP,aI⟩,λ_ _=>iu.2 rfl⟩
theorem bE2:aC 40 Y8.spec:=aF Tryz.func40 (ap aD PV) av8 aY0
def R4:Ct:=⟨[.val (.sl cU)],[.agg uU],λd=>[pv d.1,(be d.1:Int)<=100000],λd=>(((f8 d.1,[]),()),())⟩
def bp2:bw R4.ps->bL:=(λd=>{loops:=(bu 5 (λS=>{ι:=(List av)×(List av),qn:=fH,μ:=λi=>be i.1,inv:=λi=>i.2++i.1=f8 d.1,keep:=[2,3],slots:=λi=>[(0,.own 524288 17)],keepN:=[48],names:=λi=>[(64,.live (.cells 67 [.own 524289 17,.nilsl])),(524288,.live (.row 56 cU i.1)),(524289,.live (.row 56 cU i.2))]}) (bu 7 (λS=>{ι:=Unit,μ:=λi=>0,inv:=λi=>True,keep:=[0,2,3],slots:=λi=>[(4,.int .i64 1)],keepN:=[48,64,524288,524289]}) cC))})
def tg(a b:List av):=be a+be b
def zF(a:List av):=[iK a 0]
theorem aR2:
 ∀(a:List av),ai (nJ a)->pv a/\ac a<=100000->ac a<=100000/\pM (ac a) (∀(b:av),b∈a-> ∀(c:av),c∈a-> ¬bS b c<0-> ¬bS c b<0->b=c) (ac (dY bS a)<=100000/\(∃(b c:List av),c++b=f8 a/\Tz (dY bS a)=b/\ai (c=[]))/\ ∀(b c:List av),c++b=f8 a->ar (ax 0 (ac b)) (l5 ((1:Int)=(1:Int)/\b=b/\ai (c=c))/\pt (∀(d:Bool),d=ax 1 (ac b)->(d->qJ d (ac b))/\cj d d (iP d d 1 (1<ac b)) (d->aJ d) ((d->dA d)/\(d->aJ d)/\(d->d)/\ar (br d (aV (yH (iK b 0) (iK b 1)))) (l5 ((0:Nat)<(0:Nat)/\(2:Int)=(1:Int)/\b=b/\ai (c=c))) (bJ 0 (ac b) (bP (tg c (zF b)*128)) (am 1 (1<=ac b) (∃(e f:List av),f++e=f8 a/\be e<be b/\drop 1 b=e/\ai (c++zF b=f))))))) ((c,([]:List (Int×Int×Int×List av)))=(f8 a,([]:List (Int×Int×Int×List av))))):= by
  delta iK ac aJ cj br am bP aV nJ ai l5 iP dA bJ tg qJ pt ax pM zF
  rintro x-⟨hid,h⟩
  have hs:=(tL bS x).length_eq
  have hl:=FL x
  have hst:=GN x
  refine⟨h,ab,λa _ b _=>Fs,ab,⟨f8 x,[],rfl,aI⟩,?_⟩
  rintro m o e
  rw[← e] at hl hst
  rw[bM] at hl
  refine ci (λk=>?_) (λk=>?_)
  .refine⟨⟨(),aP,aI⟩,λ_ _=>?_⟩
   cases m with
   | nil=>exact absurd k aB
   | cons a m =>
    have ne:∀ b l,m=b::l→¬ yH a b=0:=λb l q h0=>by
     have ha:a∈x:=ym.1 (by rw[← e];simp)
     have hb:b∈x:=ym.1 (by rw[← e,q];simp)
     have:=hid a ha b hb (a58.1 h0)
     subst this
     have h2:=(cf0.1 hst).2.1
     exact B0 _ ((ca4.1 h2).1 a (by rw[q];simp))
    rw[cX] at hl
    cases m with
    | nil =>
     (repeat (intro (b_:Bool) (hb_:b_=_);(repeat refine⟨(by first|(simp;done)|(rw[hb_];simp;done)|(rw[hb_];simp;omega)|(rw[hb_];simp;intros;omega)|(rw[hb_];simp +contextual;done)),?_⟩);subst hb_))
     exact aw (λq=>absurd q az) (λ_=>⟨aB,k,by simp only[eI];omega,aB,k,[],o++[a],by rw[iX];exact e,Nat.zero_lt_succ _,aI⟩)
    | cons b m =>
     rw[cX] at hl
     have h01:(1:Int)<(be (a::b::m):Int):=by simp only[cX];omega
     rw[ft h01]
     rintro c rfl
     (repeat refine⟨λ_=>(by first|trivial|rfl|exact⟨λ_=>rfl,aP⟩|exact⟨aB,k,λ_=>rfl,aP⟩|exact⟨aB,h01,λ_=>rfl,aP⟩|exact⟨λ_=>rfl,aB,k,aP⟩|exact⟨λ_=>rfl,aB,h01,aP⟩),?_⟩)
     refine aw (λq=>absurd (aX q) (ne b m rfl)) (λ_=>?_)
     exact⟨aB,k,by simp only[eI];omega,aB,ab,b::m,o++[a],by rw[fV];exact e,Nat.lt_succ_self _,aI⟩
  .have:m=[]:=yu ab
   rw[this,iX] at e
   rw[e]
theorem aO2:aC 83 R4.spec:=aF Tryz.func83 (Gx (ap (ap (ap (ap aD PV) af5) bB1) XH) (d:=61)) bp2 aR2
def WD:Ct:=⟨[.agg uU],[.val cI],λd=>[d.1.2=[],(be d.1.1:Int)<=100000],λd=>(((be d.1.1:Int),()),())⟩
def aU6:bw WD.ps->bL:=(λd=>{loops:=(bu 3 (λS=>{ι:=Unit,inv:=λi=>True,keep:=[1,3,10,11,12],slots:=λi=>[],keepN:=[32]}) cC)})
theorem aU0:
 ∀(a:List av)(b:List (Int×Int×Int×List av)),ai (y8 a b)->b=[]/\ac a<=100000->l5 (ac a=ac a/\b=b/\bp (ac b) 0 (a=a) (ai (b=b)))/\pt (ar (ax 0 (ac b)) (am 0 (0<ac b) (l5 ((0:Nat)<(0:Nat)/\ao (ac a+ac (iK b 0).2.2.2)=ac a/\b=b/\bn (ac b) (ac b) 1 0 (a=a) (ai (b=b))))) (ac a=ac a)):= by
  delta iK ac ao aq aK bp xK aO bG am ai l5 y8 pt ax bn
  rintro x y-⟨rfl,h⟩
  exact⟨⟨(),aP,aI⟩,λ_ _=>iu.2 rfl⟩
theorem aV4:aC 84 WD.spec:=aF Tryz.func84 aD aU6 aU0
def bT9:Ct:=⟨[.val (.sl cU)],[.agg uU,.val cI],λd=>[pv d.1,be d.1<=16000],λd=>(((f8 d.1,[]),0,()),())⟩
theorem aq7:
 ∀(a:List av),ai (nJ a)->pv a/\be a<=16000->pv a/\ac a<=100000/\ ∀(b:List av)(c:List (Int×Int×Int×List av)),(b,c)=(f8 a,([]:List (Int×Int×Int×List av)))->c=[]/\ac b<=100000/\ar (ax 16384 (ac b)) ((([]:List av),([]:List (Int×Int×Int×List av)))=(f8 a,([]:List (Int×Int×Int×List av)))/\(5:Int)=(0:Int)) ((b,c)=(f8 a,([]:List (Int×Int×Int×List av)))/\(0:Int)=(0:Int)):= by
  delta ac nJ ai ax
  rintro x-⟨hid,h⟩
  have hl:=FL x
  refine⟨hid,ab,?_⟩
  rintro a b hab
  cases hab
  exact⟨rfl,ab,aw (λq=>by have q:=aX q;omega) (λ_=>⟨rfl,rfl⟩)⟩
theorem ap9:aC 39 bT9.spec:=aF Tryz.func39 (ap (ap aD (Ct.named aO2)) aV4) aU aq7
def aK5:Ct:=⟨[.agg uU,.val (.sl cU)],[.agg uU,.val cI],λd=>[d.1.2=[],pv (d.1.1++d.2.1),be d.1.1+be d.2.1<=16000],λd=>(((f8 (d.1.1++d.2.1),[]),0,()),())⟩
theorem ar3:
 ∀(a:List av)(b:List (Int×Int×Int×List av))(c:List av),y8 a b/\ai (nJ c)->b=[]/\pv (a++c)/\be a+be c<=16000->b=[]/\ac a<=100000/\bP ((be a+be c)*128)/\pv (a++c)/\be (a++c)<=16000/\ ∀(d:List av)(e:List (Int×Int×Int×List av))(f:Int),(d,e)=(f8 (a++c),([]:List (Int×Int×Int×List av)))/\f=0->(d,e)=(f8 (a++c),([]:List (Int×Int×Int×List av)))/\f=0:= by
  delta ac aq aK xK aO bG bP nJ ai y8
  rintro x y z-⟨rfl,hid,h⟩
  exact⟨rfl,ab,ab,hid,by rw[bM];exact h,λ_ _ _ q=>q⟩
theorem at7:aC 13 aK5.spec:=aF Tryz.func13 (ap (ap aD bE2) (Ct.named ap9)) aU ar3
theorem Ct.void{P:Program}{G:sH}{f:FuncId}(c:Ct)(h:∀ d,bQ (c.pre d)->False):mH P G f c.spec:=by
 intro base svs hp d r e hc
 obtain⟨p,q1,q2,e1,a,rfl⟩:=Q.run_bind _ _ _ e
 split at a
 .obtain⟨rfl,-⟩:=Cq a;exact (h _ hc).elim
 .cases a
theorem Nb{a b:List av}(ha:a.Pairwise λx y=>¬ bS y x<0)(hb:b.Pairwise λx y=>¬ bS y x<0)(p:a.Perm b):a=b :=
 p.eq_of_pairwise (λ_ _ _ _ h k=>Fs k h) ha hb
def rK(l:List av):Prop:=l.Pairwise λx y=>¬ bS y x<0
theorem Sn:∀{x y:ad},lx y x = - lx x y
 | [],[]=>rfl
 | [],_::_=>rfl
 | _::_,[]=>rfl
 | a::x,b::y=>by
  have h:=@Sn x y;have k:cD b a = - cD a b:=by unfold cD;(repeat' split) <;> omega
  rw[lx,lx,k,h];omega
theorem aQ9{x y z:av}(h:¬ bS x y<0)(k:¬ bS y z<0):¬ bS x z<0:=by
 have q:=NI.ntrans x y z
 simp only[ltOf,sr] at q
 exact q h k
theorem Tu{a b o:List av}{x:av}(ha:rK (x::a))(hb:rK b)(ho:rK o)(h:∀ z∈o,∀ y∈x::a++b,¬ bS y z<0)(hx:∀ y l,b=y::l→¬ bS y x<0) :
  rK a/\rK (o++[x])∧∀ z∈o++[x],∀ y∈a++b,¬ bS y z<0:=by
 have ⟨a1,a2⟩:=ca4.1 ha
 refine⟨a2,cf0.2 ⟨ho,ck5 _ _,λz d y c=>by rw[kY.1 c];exact h z d x az⟩,λz d y c=>?_⟩
 obtain d|d:=dI.1 d
 .grind
 rw[kY.1 d]
 obtain c|c:=dI.1 c
 .exact a1 y c
 .cases b with
  | nil=>cases c
  | cons u l =>
   have f:=hx u l rfl;obtain e|c:=dO.1 c
   .rw[e];exact f
   .exact aQ9 ((ca4.1 hb).1 y c) f
theorem Zq{a:List av}(h:a.Pairwise λx y=>¬ bS y x<0):a=dY bS a:=Nb h (yw a) (tL bS a).symm
theorem ai1{a b:List av}(p:a.Perm b):dY bS a=dY bS b:=Nb (yw a) (yw b) (((tL bS a).trans p).trans (tL bS b).symm)
def aR3:Ct:=⟨[.val .bool],[.val cI],λ_=>[],λd=>((nT d.1,()),())⟩
theorem a93:
 Ie:= by
 delta ai dW Ie
 rintro b - -
 unfold nT
 exact aw (λq=>by rw[aj q]) (λq=>by rw[q];rfl)
theorem av7:aC 260 aR3.spec:=aF Tryz.func260 aD aU a93
def bq7:Ct:=⟨[.agg cU],[.arr .i64 17],λ_=>[],λd=>((iy d.1,()),())⟩
theorem bO5:
 ∀(a:av),dW (CT.wf cU a) (kD a.1 a.2.1 a.2.2.1 a.2.2.2.1 (ao a.2.2.2.2.1) (kD a.2.2.2.2.2.1 a.2.2.2.2.2.2.1 a.2.2.2.2.2.2.2.1 (nT a.2.2.2.2.2.2.2.2.1) (nT a.2.2.2.2.2.2.2.2.2.1) (kD a.2.2.2.2.2.2.2.2.2.2.1 (ao a.2.2.2.2.2.2.2.2.2.2.2.1) a.2.2.2.2.2.2.2.2.2.2.2.2.1 a.2.2.2.2.2.2.2.2.2.2.2.2.2.1 a.2.2.2.2.2.2.2.2.2.2.2.2.2.2.1 (a.2.2.2.2.2.2.2.2.2.2.2.2.2.2.2.1::bz a.2.2.2.2.2.2.2.2.2.2.2.2.2.2.2.2)))=iy a):= by
  delta ao bz ai kD dW
  rintro r hw -
  have h1:0<=r.2.2.2.2.1/\r.2.2.2.2.1<=4294967295:=hw.1.2.2.2.2.1
  have h2:0<=r.2.2.2.2.2.2.2.2.2.2.2.1/\r.2.2.2.2.2.2.2.2.2.2.2.1<=4294967295:=hw.1.2.2.2.2.2.2.2.2.2.2.2.1
  rw[aG ab ab,aG ab ab]
  rfl
theorem Z6:aC 210 bq7.spec:=aF Tryz.func210 (ap aD av7) aU bO5
def TI:Ct:=⟨[.agg cU,.agg cU],[.val cI],λ_=>[],λd=>((bS d.1 d.2.1,()),())⟩
def bO3:bw TI.ps->bL:=(λd=>{loops:=(bu 3 (λS=>{ι:=Int,μ:=λi=>it (17-i),inv:=λi=>0<=i/\i<=17/\bS d.1 d.2.1=lx ((iy d.1).drop (it i)) ((iy d.2.1).drop (it i)),keep:=[5,6],slots:=λi=>[(7,.int .i64 i)],names:=λi=>[(96,.live (.ary 325 .i64 17 (iy d.1))),(112,.live (.ary 325 .i64 17 (iy d.2.1)))]}) cC)})
def JU(a:Int)(b c:av):=am a (a<=17) (bS b c=lx (drop (it a) (iy b)) (drop (it a) (iy c)))
theorem bE3:
 ∀(a b:av),CT.wf cU a/\ai (CT.wf cU b)->True-> ∀(c:ad),c=iy a-> ∀(d:ad),d=iy b->(∃(e:Int),JU e a b/\0=e/\c=iy a/\ai (d=iy b))/\ ∀(e:Int),JU e a b->ar (ax e 17) (bJ e (↑((17:Nat)):Int) (it e<17) (bJ e (↑((17:Nat)):Int) (it e<17) (ar (cP (Om (iy a) (it e) 0) (Om (iy b) (it e) 0)) (bJ e (↑((17:Nat)):Int) (it e<17) (bJ e (↑((17:Nat)):Int) (it e<17) (cD (Om (iy a) (it e) 0) (Om (iy b) (it e) 0)=bS a b))) (∃(f:Int),JU f a b/\bj 17 f e/\bf e f/\iy a=iy a/\ai (iy b=iy b))))) (0=bS a b):= by
  delta ao bj am ai bf cN cP bJ JU ax
  rintro a b - -
  rintro x rfl y rfl
  refine⟨⟨0,⟨ab,ab,rfl⟩,aI⟩,?_⟩
  rintro j ⟨f,j1,c⟩
  have la:be (iy a)=17:=rfl
  have lb:be (iy b)=17:=rfl
  refine ci (λq=>?_) (λq=>?_)
  .have da:=BK f (show j<be (iy a) by omega)
   have db:=BK f (show j<be (iy b) by omega)
   rw[da,db,lx] at c
   generalize Om (iy a) (it j) Sk=u at *
   generalize Om (iy b) (it j) Sk=v at *
   refine⟨f,q,ab,f,q,ab,aw (λk=>?_) (λk=>?_)⟩
   .have k:=jC k
    rw[aj (λe=>k (uR.1 e))] at c
    simp_all
   .have k:=jx k
    rw[ah (λe=>e (uR.2 k))] at c
    refine⟨j+1,⟨ab,ab,c⟩,ab,?_⟩
    (repeat refine ik ?_)
    trivial
  .rw[c,ce2 ab,ce2 ab];rfl
theorem bX6:aC 156 TI.spec:=aF Tryz.func156 (ap (ap aD (Ct.named Z6)) Zi) bO3 bE3
def bM6:Ct:=⟨[.agg cU,.agg cU],[.val .bool],λ_=>[],λd=>((bZ2 (rz d.1=rz d.2.1),()),())⟩
theorem aG8:
 ∀(a b:av),CT.wf cU a/\ai (CT.wf cU b)->True-> ∀(c:Bool),c=bZ2 (a.1=b.1)->fq c c (dA c) (c->c) (∀(d:Bool),d=jm c a.2.1 b.2.1->fq d d (dA d) (d->d) (jm d a.2.2.1 b.2.2.1=bZ2 (rz a=rz b))):= by
  delta aJ cj br fq ai dA jm
  rintro a b - -
  (repeat (refine cL ?_;repeat refine cK ?_))
  rw[zV,zV]
  refine decide_eq_decide.2 ?_
  unfold rz
  rw[cy,cy]
  omega
theorem bc2:aC 43 bM6.spec:=aF Tryz.func43 aD aU aG8
def Ri:Ct:=⟨[.val (.sl cU),.val (.sl cU)],[.own 56 cU],λd=>[d.1=dY bS d.1,d.2.1=dY bS d.2.1,(be d.1:Int)+be d.2.1<=100000],λd=>((dY bS (d.1++d.2.1),()),())⟩
def aQ8:bw Ri.ps->bL:=(λd=>{loops:=(bu 2 (λS=>{ι:=(List av)×(List av)×(List av),qn:=oB,μ:=λi=>be i.1+be i.2.1,inv:=λi=>rK i.1/\rK i.2.1/\rK i.2.2/\(∀ x∈i.2.2,∀ y∈i.1++i.2.1,¬ bS y x<0)/\(i.2.2++(i.1++i.2.1)).Perm (d.1++d.2.1)/\(be i.2.2:Int)+be i.1+be i.2.1<=100000,keep:=[],slots:=λi=>[(0,.dsl cU i.1),(1,.dsl cU i.2.1),(5,.own 524288 17)],names:=λi=>[(524288,.live (.row 56 cU i.2.2))]}) cC)})
def IN(a b c:List av)(d e:List av):=rK a/\rK b/\rK c/\(∀(f:av),f∈c-> ∀(g:av),g∈a++b-> ¬bS g f<0)/\List.Perm (c++(a++b)) (d++e)/\ac c+ac a+ac b<=100000
def PI(a:List av)(b c:List av)(d:Nat)(e f g:List av):=bt 1 (ac a) (ac a<=ac a) (∃(h i j:List av),IN h i j b c/\tg h i<d/\e=h/\f=i/\ai (g=j))
theorem aO0:
 ∀(a b:List av),nJ a/\ai (nJ b)->a=dY bS a/\b=dY bS b/\ac a+ac b<=100000->(∃(c d e:List av),IN c d e a b/\a=c/\b=d/\ai (e=[]))/\ ∀(c d e:List av),IN c d e a b->lC (ax 0 (ac c)) (ax 0 (ac d)) (∀(f:Bool),f=aV (ac d)->cV f (bR f) (∀(g:Bool),g=ax 0 (ac c)->( !f&&g->qJ ( !f&&g) (ac c))/\cj ( !f&&g) ( !f&&g) (qJ ( !f&&g) (ac d)) ( !f&&g->aJ ( !f&&g)) (( !f&&g->dA ( !f&&g))/\( !f&&g->aJ ( !f&&g))/\wL f g/\bv f/\ar (bq f (br g (bZ2 (bS (iK c 0) (iK d 0)<=0)))) (bJ 0 (ac c) (bP (tg e (zF c)*128)) (PI c a b (tg c d) (bY c 1 (it (ac c))) d (e++zF c))) (bJ 0 (ac d) (bP (tg e (zF d)*128)) (PI d a b (tg c d) c (bY d 1 (it (ac d))) (e++zF d)))))) (e=dY bS (a++b)):= by
  delta iK ac bR aJ cj bq br cV am bP bv aV lC IN nJ bt ai dA bJ wL tg qJ ax PI zF
  rintro x y-⟨hx,hy,hl⟩
  refine⟨⟨x,y,[],⟨by rw[hx];exact yw _,by rw[hy];exact yw _,ce6,λ_ h=>(by cases h),cG0 _,by simp only[cb8];omega⟩,aI⟩,?_⟩
  rintro a b o ⟨ha,hb,ho,hab,hp,hn⟩
  have sub1:∀{z:av}{l:List av},bY (z::l) 1 (it (be (z::l):Int))=l:=λ{z l}=>by unfold bY;rw[cb6,cg7];rfl
  have len:∀(z:av)(l:List av),0<(be (z::l):Int):=λz l=>by simp only[cX];omega
  have goB:∀{y0:av}{l:List av},b=y0::l->(∀ z m,a=z::m→¬ bS z y0<0)->rK l/\rK (o++[y0])/\(∀ z∈o++[y0],∀ y∈a++l,¬ bS y z<0)/\((o++[y0])++(a++l)).Perm (x++y):=by
   rintro y0 l rfl h
   have ⟨s1,s2,s3⟩:=Tu hb ha ho (λz hz y hy=>hab z hz y (dI.2 ((dI.1 hy).symm))) h
   refine⟨s1,s2,λz hz y hy=>s3 z hz y (dI.2 ((dI.1 hy).symm)),cG1 ?_ hp⟩
   rw[fV]
   show (o++y0::(a++l)).Perm _
   exact (List.perm_middle.symm).append_left o
  have goA:∀{x0:av}{l:List av},a=x0::l->(∀ z m,b=z::m→¬ bS z x0<0)->rK l/\rK (o++[x0])/\(∀ z∈o++[x0],∀ y∈l++b,¬ bS y z<0)/\((o++[x0])++(l++b)).Perm (x++y):=by
   rintro x0 l rfl h
   have ⟨s1,s2,s3⟩:=Tu ha hb ho hab h
   exact⟨s1,s2,s3,by rw[fV];exact hp⟩
  cases a with
  | nil =>
   cases b with
   | nil =>
    (repeat (refine cL ?_;repeat refine cK ?_))
    refine aw (λq=>absurd q aB) (λ_=>?_)
    exact Nb ho (yw _) ((by simpa using hp:o.Perm (x++y)).trans (tL bS _).symm)
   | cons y0 b =>
    have ⟨s1,s2,s3,s4⟩:=goB rfl (λ_ _ h=>by cases h)
    rw[ft (len y0 b)]
    (repeat (refine cL ?_;repeat refine cK ?_))
    simp only[cX,cb8] at hn
    (repeat refine⟨(by first|decide|exact len _ _|exact io _|(simp only[eI,cX];omega)|(simp only[cX,cb8];omega)|(simp;omega)),?_⟩)
    exact⟨[],b,o++[y0],⟨ha,s1,s2,s3,s4,by simp only[bM,eI,cb8];omega⟩,by simp only[cX];omega,rfl,sub1,rfl,aP⟩
  | cons x0 a =>
   cases b with
   | nil =>
    have ⟨s1,s2,s3,s4⟩:=goA rfl (λ_ _ h=>by cases h)
    rw[ft (len x0 a)]
    (repeat (refine cL ?_;repeat refine cK ?_))
    simp only[cX,cb8] at hn
    (repeat refine⟨(by first|decide|exact len _ _|exact io _|(simp only[eI,cX];omega)|(simp only[cX,cb8];omega)|(simp;omega)),?_⟩)
    exact⟨a,[],o++[x0],⟨s1,hb,s2,s3,s4,by simp only[bM,eI,cb8];omega⟩,by simp only[cX];omega,sub1,rfl,rfl,aP⟩
   | cons y0 b =>
    rw[ft (len x0 a),ft (len y0 b)]
    (repeat (refine cL ?_;repeat refine cK ?_))
    simp only[cX] at hn
    refine aw (λq=>?_) (λq=>?_)
    .have q:bS x0 y0<=0:=by simp at q;omega
     have ⟨s1,s2,s3,s4⟩:=goA rfl (λz m e=>by cases e;have:bS y0 x0 = - bS x0 y0:=Sn;omega)
     (repeat refine⟨(by first|decide|exact len _ _|exact io _|(simp only[eI,cX];omega)|(simp only[cX,cb8];omega)|(simp;omega)),?_⟩)
     exact⟨a,y0::b,o++[x0],⟨s1,hb,s2,s3,s4,by simp;omega⟩,by simp,sub1,rfl,rfl,aP⟩
    .have q:0<bS x0 y0:=by simp at q;omega
     have ⟨s1,s2,s3,s4⟩:=goB rfl (λz m e=>by cases e;omega)
     (repeat refine⟨(by first|decide|exact len _ _|exact io _|(simp only[eI,cX];omega)|(simp only[cX,cb8];omega)|(simp;omega)),?_⟩)
     exact⟨x0::a,b,o++[y0],⟨ha,s1,s2,s3,s4,by simp;omega⟩,by simp,rfl,sub1,rfl,aP⟩
theorem aV8:aC 86 Ri.spec:=aF Tryz.func86 (ap aD bX6) aQ8 aO0
def Wh(k_:Nat):Ct:=⟨[.val (.sl cU)],[.val (.sl cU)],λd=>[be d.1<k_,k_<=100000],λd=>((dY bS d.1,()),())⟩
def ab1(k_:Nat):bw (Wh k_).ps->bL:=(λ_=>{})
theorem bk0(k_:Nat):∀(x:List bn0),(be x<=cb2/\∀(x1:bn0),x1∈x->CT.wf cU x1)/\True->be x<k_+(1:Nat)/\k_+(1:Nat)<=(100000:Nat)->ar (bZ2 ((be x:Int)<2)) (x=dY bS x) ((2:Int)≠(0:Int)/\(0:Int)<=0/\0<=bZ5 .i64 (cd2 (be x:Int) (2:Int))/\bZ5 .i64 (cd2 (be x:Int) (2:Int))<=(be x:Int)/\be (bY x (0:Nat) (it (bZ5 .i64 (cd2 (be x:Int) (2:Int)))))<k_/\k_<=(100000:Nat)/\(2:Int)≠(0:Int)/\0<=bZ5 .i64 (cd2 (be x:Int) (2:Int))/\bZ5 .i64 (cd2 (be x:Int) (2 :
 Int))<=(be x:Int)/\(be x:Int)<=(be x:Int)/\be (bY x (it (bZ5 .i64 (cd2 (be x:Int) (2:Int)))) (it (be x:Int)))<k_/\k_<=(100000:Nat)/\dY bS (bY x (0:Nat) (it (bZ5 .i64 (cd2 (be x:Int) (2:Int)))))=dY bS (dY bS (bY x (0:Nat) (it (bZ5 .i64 (cd2 (be x:Int) (2:Int))))))/\dY bS (bY x (it (bZ5 .i64 (cd2 (be x:Int) (2:Int)))) (it (be x:Int)))=dY bS (dY bS (bY x (it (bZ5 .i64 (cd2 (be x:Int) (2:Int)))) (it (be x:Int))))/\((be (dY bS (bY x (0:Nat) (it (bZ5 .i64 (cd2 (be x:Int) (2:Int))))))):Int)+((be (dY bS (bY x (toNat
 (bZ5 .i64 (cd2 (be x:Int) (2:Int)))) (it (be x:Int))))):Int)<=100000/\dY bS (dY bS (bY x (0:Nat) (it (bZ5 .i64 (cd2 (be x:Int) (2:Int)))))++dY bS (bY x (it (bZ5 .i64 (cd2 (be x:Int) (2:Int)))) (it (be x:Int))))=dY bS x):=by
  rintro l-⟨h1,h2⟩;have ht:cd2 (be l:Int) 2=(be l:Int)/2:=z9 ab;refine aw (λq=>?_) (λq=>?_)
  .have q:=aX q;have:be l=0∨be l=1:=ab;unfold dY;obtain e|e:=this
   .rw[yu e,cw1]
   .obtain⟨x,rfl⟩:=List.length_eq_one_iff.1 e;rw[cq6]
  have q:=bg q;rw[ht,aG ab ab];have l1:be (bY l 0 (it ((be l:Int)/2)))=it ((be l:Int)/2):=by simp[bY];omega
  have l2:be (bY l (it ((be l:Int)/2)) (it (be l:Int)))=be l-it ((be l:Int)/2):=by simp[bY]
  have ha:bY l 0 (it ((be l:Int)/2))++bY l (it ((be l:Int)/2)) (it (be l:Int))=l:=by
   unfold bY;rw[cm3,cb6,cg7,kP]
  generalize bY l 0 (it ((be l:Int)/2))=a at *;generalize bY l (it ((be l:Int)/2)) (it (be l:Int))=b at *;have pa:=(tL bS a)
  have pb:=(tL bS b)
  refine⟨aB,aB,ab,ab,ab,ab,aB,ab,ab,ab,ab,ab,Zq (yw a),Zq (yw b),by rw[pa.length_eq,pb.length_eq];omega,?_⟩;rw[← ha];exact ai1 (pa.append pb)
theorem T4:∀ k_,mH Tryz.prog GL 42 (Wh k_).spec
 | 0=>Ct.void _ λd h=>Nat.not_lt_zero _ h.1
 | k_+1=>Ct.okH _ Tryz.func42 oS (ap (ap aD (T4 k_)) aV8) ir (ab1 (k_+1)) (BG oS (bk0 k_))
def SG:Ct:=⟨[.val (.sl cU)],[.agg uU],λd=>[pv d.1,(be d.1:Int)<100000],λd=>(((f8 d.1,[]),()),())⟩
def bx9:bw SG.ps->bL:=(λd=>{loops:=(bu 4 (λS=>{ι:=Int×(List av),qn:=fH,μ:=λi=>it (be (dY bS d.1)-i.1),inv:=λi=>0<=i.1/\i.1<=be (dY bS d.1)/\i.2++f5 ((dY bS d.1).drop (it i.1))=f8 d.1,keep:=[2,3,4],slots:=λi=>[(5,.int .i64 i.1)],keepN:=[48],names:=λi=>[(64,.live (.cells 67 [.own 524288 17,.nilsl])),(524288,.live (.row 56 cU i.2))]}) (bu 7 (λS=>{ι:=Int,μ:=λi=>it (be (dY bS d.1)-i),inv:=λi=>S.i 5<i/\i<=be (dY bS d.1)/\f5 ((dY bS d.1).drop (it (S.i 5)))=f5 (Om (dY bS d.1) (it (S.i 5)) Sk::(dY bS d.1).drop (it i)),keep:=[2,3,4,5,6],slots:=λi=>[(7,.int .i64 i)],keepN:=[48,64,524288,304]}) cC))})
def G6(a b:Int)(c:List av):=a<b/\b<=ac (dY bS c)/\f5 (drop (it a) (dY bS c))=f5 (ae (dY bS c) a::drop (it b) (dY bS c))
def qY(a:List av)(b:Int):=[ae a b]
def Kj(a b:av)(c d:Int):=qw a.2.2.2.2.2.2.2.2.2.2.2.2.2.2.1 b.2.2.2.2.2.2.2.2.2.2.2.2.2.2.1 a.2.2.2.2.2.2.2.2.2.2.2.2.2.2.2.1 b.2.2.2.2.2.2.2.2.2.2.2.2.2.2.2.1 (bZ2 (c=d)) bZ3
def GW(a b:av)(c d e f:Int):=bZ2 (a.2.2.2.2.2.2.2.2.2.2.1=b.2.2.2.2.2.2.2.2.2.2.1)&&(qw a.2.2.2.2.2.2.2.2.2.2.2.1 b.2.2.2.2.2.2.2.2.2.2.2.1 a.2.2.2.2.2.2.2.2.2.2.2.2.1 b.2.2.2.2.2.2.2.2.2.2.2.2.1 (bZ2 (c=d)) (Kj a b e f)&&bZ3)
def JM(a:Int)(b:List av)(c:List av):=am a (a<=ac (dY bS b)) (c++f5 (drop (it a) (dY bS b))=f8 b)
def By(a:List av)(b:Int):=(ae a b).2.2.2.2.2.2.2.2.2.2.2.2.2.2.2.2
def A9(a:List av)(b:Int):=(ae a b).2.2.2.2.2.2.2.2.2.2.2.2.2.1
theorem bi6:
 ∀(a:List av),ai (nJ a)->pv a/\ac a+1<=100000->be a<100000/\(100000:Nat)<=(100000:Nat)/\ ∀(b:List av),b=dY bS a->(∃(c:Int) (d:List av),JM c a d/\b=b/\0=c/\ai (d=[]))/\ ∀(c:Int)(d:List av),JM c a d->ar (ax c (ac b)) (bJ c (ac b) (∃(e:Int),G6 c e a/\b=b/\c=c/\bf c e/\d=d/\ai (qY b c=qY b c)) (∀(e:Int),G6 c e a-> ∀(f:Bool),f=ax e (ac b)->(f->iP f f e (e<ac b))/\cj f f (iP f f c (c<ac b)) (f->aJ f) ((f->dA f)/\(f->f)/\ar (br f (bZ2 (rz (ae b e)=rz (ae b c)))) (am e (e<ac b) (am (ao (ac (qY b c) -1)) (ao (ac (qY b c) -1)<ac (qY b c)) (ar ( !qw (ae b e).1 (ae b c).1 (ae b e).2.1 (ae b c).2.1 (bZ2 ((ae b e).2.2.1=(ae b c).2.2.1)) (qw (ae b e).2.2.2.1 (ae b c).2.2.2.1 (ae b e).2.2.2.2.1 (ae b c).2.2.2.2.1 (bZ2 ((ae b e).2.2.2.2.2.1=(ae b c).2.2.2.2.2.1)) (qw (ae
 b e).2.2.2.2.2.2.1 (ae b c).2.2.2.2.2.2.1 (ae b e).2.2.2.2.2.2.2.1 (ae b c).2.2.2.2.2.2.2.1 (cy2 (ae b e).2.2.2.2.2.2.2.2.1 (ae b c).2.2.2.2.2.2.2.2.1) (cy2 (ae b e).2.2.2.2.2.2.2.2.2.1 (ae b c).2.2.2.2.2.2.2.2.2.1&&GW (ae b e) (ae b c) (A9 b e) (A9 b c) (By b e) (By b c))))) (bJ e (ac b) (bP ((be (qY b c)+be (qY b e))*128)) (∃(g:Int),G6 c g a/\bj (ac (dY bS a)) g e/\b=b/\c=c/\bf e g/\d=d/\ai (qY b c++qY b e=qY b c))) (∃(g:Int),G6 c g a/\bj (ac (dY bS a)) g e/\b=b/\c=c/\bf e g/\d=d/\ai (qY b c=qY b c))))) (bJ c (ac b) (wY d (qY b c)) (∃(g:Int) (h:List av),JM g a h/\bj (ac (dY bS a)) g c/\b=b/\e=g/\ai (d++qY b c=h)))))) ((d,([]:List (Int×Int×Int×List av)))=(f8 a,([]:List (Int×Int×Int×List av)))):= by
  delta ae ac ao aJ cj bj br am bP qw nJ ai G6 iP bf dA cN bJ qY Kj GW JM By ax wY A9
  rintro x-⟨hid,h⟩
  have hs:=(tL bS x).length_eq
  have hm:∀{j:Int},0<=j->j<be (dY bS x)->Om (dY bS x) (it j) Sk∈x:=λh0 h1=>(tL bS x).mem_iff.1 (dm h0 h1)
  refine⟨ab,aB,?_⟩
  rintro _ rfl
  refine⟨⟨0,[],⟨ab,ab,rfl⟩,aI⟩,?_⟩
  rintro j o ⟨j0,j1,e⟩
  have hol:(be o:Int)<=100000:=by have:=FL x;rw[← e,bM] at this;omega
  refine ci (λq=>?_) (λq=>?_)
  .have dj:=BK j0 q
   have mj:=hm j0 q
   refine⟨j0,q,⟨j+1,⟨ab,ab,by rw[dj]⟩,?_⟩,?_⟩
   ·(repeat refine ik ?_)
    trivial
   rintro k ⟨k0,k1,ek⟩
   by_cases hk:k<be (dY bS x)
   .have dk:=BK ab hk
    have mk:=hm ab hk
    rw[ft hk]
    rintro c rfl
    (repeat refine⟨λ_=>(by first|rfl|((repeat' first|exact trivial|exact λ_=>rfl|apply cu4) <;> omega)),?_⟩)
    refine ci (λhi=>?_) (λhi=>?_)
    .have hi:=hi
     have hx:=hid _ mk _ mj hi
     refine⟨ab,hk,by rw[eI];decide,by rw[eI];decide,?_⟩
     rw[hx]
     simp only[decide_true,beq_self_eq_true,cA5,cA6]
     refine iu.2 ⟨k+1,⟨ab,ab,?_⟩,ab,?_⟩
     .rw[ek,dk,hx,f5,aj rfl]
     ·(repeat refine ik ?_)
      trivial
    .have hi:=hi
     refine⟨j0,q,by simp only[eI];omega,k,o++[Om (dY bS x) (it j) Sk],⟨ab,ab,?_⟩,ab,?_⟩
     .rw[fV,← e,ek,dk,f5,ah (λe=>hi (by rw[e]))];rfl
     ·(repeat refine ik ?_)
      trivial
   .rw[eT hk]
    rintro c rfl
    (repeat refine⟨λh=>(by first|cases h|rfl|((repeat' first|exact trivial|exact λ_=>rfl|apply cu4) <;> omega)),?_⟩)
    refine iu.2 ⟨j0,q,by simp only[eI];omega,k,o++[Om (dY bS x) (it j) Sk],⟨ab,ab,?_⟩,ab,?_⟩
    .rw[fV,← e,ek,ce2 ab];rfl
    ·(repeat refine ik ?_)
     trivial
  .rw[ce2 ab] at e
   rw[← e];simp[f5]
theorem bD9:aC 15 SG.spec:=aF Tryz.func15 (ap (ap aD (Ct.named (T4 100000))) bc2) bx9 bi6
def X8:Ct:=⟨[.val (.sl cU),.val (.sl cU)],[.val .bool],λd=>[d.1=d.2.1],λ_=>((bZ3,()),())⟩
def bw7:bw X8.ps->bL:=(λd=>{loops:=(bu 4 (λS=>{ι:=Int,μ:=λi=>it (be d.1-i),inv:=λi=>0<=i/\i<=be d.1,keep:=[0,1,2,3],slots:=λi=>[(5,.int .i64 i)]}) cC)})
def Qp(a:List av)(b:Int)(c:List av):=qw (ae a b).2.1 (ae c b).2.1 (ae a b).2.2.1 (ae c b).2.2.1 (bZ2 ((ae a b).2.2.2.1=(ae c b).2.2.2.1)) (qw (ae a b).2.2.2.2.1 (ae c b).2.2.2.2.1 (ae a b).2.2.2.2.2.1 (ae c b).2.2.2.2.2.1 (bZ2 ((ae a b).2.2.2.2.2.2.1=(ae c b).2.2.2.2.2.2.1)) (bZ2 ((ae a b).2.2.2.2.2.2.2.1=(ae c b).2.2.2.2.2.2.2.1)&&(cy2 (ae a b).2.2.2.2.2.2.2.2.1 (ae c b).2.2.2.2.2.2.2.2.1&&(cy2 (ae a b).2.2.2.2.2.2.2.2.2.1 (ae c b).2.2.2.2.2.2.2.2.2.1&&GW (ae a b) (ae c b) (A9 a b) (A9 c b) (By a b) (By c b)))))
def M5(a:List av)(b:Int)(c:List av):=bZ2 ((ae a b).1=(ae c b).1)&&Qp a b c
def Oc(a:List av)(b:Int)(c:List av):=!M5 a b c
def P8(a:Int)(b c:List av):=am a (a<ac b) (ar (Oc c a b) bZ6 (∃(d:Int),rN d (ac c) a (c=c) (b=b/\ai (bf a d))))
def Qv(a:Int)(b c:List av):=a<ac b/\P8 a c b
def MP(a:Int)(b c:List av):=0<=a/\Qv a b c
def Pn(a:Int)(b c:List av):=ar (ax a (ac b)) (MP a b c) bZ3
def P1(a:Int)(b c:List av):=0<=a/\a<=ac b->Pn a b c
def QF(a b:List av):=a=b->ar (cP (ac a) (ac b)) bZ6 ((∃(c:Int),(0<=c/\c<=ac a)/\a=a/\b=b/\ai (0=c))/\ ∀(c:Int),P1 c a b)
def HV(a b:List av):=nJ a/\ai (nJ b)->QF a b
theorem aI5:
 ∀(a b:List av),HV a b:= by
  delta ae ac ao HV QF P1 Pn MP Qv P8 bj Oc M5 Qp am qw nJ ai bf rN cN cP Kj GW By ax A9
  rintro l m ⟨⟨hl,-⟩,-⟩ h
  have h:=h
  subst h
  simp only[cb2] at hl
  rw[ft rfl]
  refine iu.2 ⟨⟨0,⟨ab,ab⟩,aI⟩,?_⟩
  rintro i ⟨i0,i1⟩
  refine aw (λhi=>?_) (λ_=>rfl)
  have hi:=aX hi
  refine⟨i0,hi,i0,hi,?_⟩
  simp only[decide_true,beq_self_eq_true,cA5,cA6]
  exact iu.2 ⟨i+1,⟨ab,ab⟩,ab,aI⟩
theorem bs6:aC 41 X8.spec:=aF Tryz.func41 aD bw7 aI5
def Zh:Ct:=⟨[.agg uU,.agg uU],[.val .bool],λd=>[d.1.1=d.2.1.1,d.1.2=[],d.2.1.2=[]],λ_=>((bZ3,()),())⟩
def aG6:bw Zh.ps->bL:=(λd=>{loops:=(bu 4 (λS=>{ι:=Unit,μ:=λi=>0,inv:=λi=>True,keep:=[2,3],slots:=λi=>[(5,.int .i64 0)],keepN:=[48,64]}) cC)})
theorem bS2:
 ∀(a:List av)(b:List (Int×Int×Int×List av))(c:List av)(d:List (Int×Int×Int×List av)),y8 a b/\ai (y8 c d)->a=c/\b=[]/\d=[]->a=c/\ ∀(e:Bool),e=( !bZ3)->cV e (bR e) (bR e/\gq e/\bv e/\ar (bq e (cP (ac b) (ac d))) bZ6 (l5 ((0:Int)=(0:Int)/\a=a/\b=b/\c=c/\ai (d=d))/\pt (ar (ax 0 (ac b)) (am 0 (0<ac b) (am 0 (0<ac d) (∀(f:Bool),f=cP (iK b 0).1 (iK d 0).1->cV f (gq f) (bv f/\ ∀(g:Bool),zH g f (cP (iK b 0).2.1 (iK d 0).2.1) (bv g) (∀(h:Bool),h=bq g (cP (iK b 0).2.2.1 (iK d 0).2.2.1)->cV h ( !h->( !h-> !h)/\( !h-> !h)/\ai ((iK b 0).2.2.2=(iK d 0).2.2.2)) (jE h (bq h ( !bZ3)) bZ6 (l5 ((0:Nat)<(0:Nat)/\(1:Int)=(0:Int)/\a=a/\b=b/\c=c/\ai (d=d))))))))) bZ3))):= by
  delta iK ac aq aK bR aJ xK aO bG bq cV am bv gq ai l5 y8 jE dA cP pt ax zH
  rintro a b c e-⟨rfl,rfl,rfl⟩
  refine⟨rfl,?_⟩
  (repeat (intro (b_:Bool) (hb_:b_=_);(repeat refine⟨(by first|(simp;done)|(rw[hb_];simp;done)|(rw[hb_];simp;omega)|(rw[hb_];simp;intros;omega)|(rw[hb_];simp +contextual;done)),?_⟩);subst hb_))
  exact iu.2 ⟨⟨(),aP,aI⟩,λ_ _=>iu.2 rfl⟩
theorem ZM:aC 14 Zh.spec:=aF Tryz.func14 (ap aD bs6) aG6 bS2
end Go.RS
