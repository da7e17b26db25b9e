/- SX, part 22: a function's contract, off its symbolic run (the proof). -/
import Derived.Test.YtgllbbabppaaaaaDoorSx21
import Derived.ProofKit
import Derived.OpenShut
import Derived.ChangeOld
import Derived.Below
import Derived.KernelRfl
import Derived.Test.YtgllbbabppaaaaaDoorChecked
import Derived.Laws.Bits64
import Derived.Laws.Bits128
import Derived.Laws.BitsAllLaws
namespace Go.SX
set_option linter.unusedVariables false
def boxR:List Nat->Nat->Rn
  | [],_=>[]
  | n::bx,j=>(n,some (PN+j))::boxR bx (j+1)
def resR:List (Option Nat)->Nat->Rn
  | [],_=>[]
  | o::r,n=>(n,o)::resR r (n+1)
theorem lookR_append {a b:Rn} {n:Nat}:lookR (a++b) n=(match lookR a n with|some x=>some x|none=>lookR b n):=by
  induction a with
  | nil=>rfl
  | cons p a ih =>
    obtain ⟨m,x⟩:=p
    simp only [List.cons_append,lookR_cons]
    split
    · rfl
    · exact ih
theorem boxR_look:∀ {bx:List Nat} {j n:Nat} {y:Option Nat},lookR (boxR bx j) n=some y→∃ i,bx[i]? = some n/\y=some (PN+(j+i))
  | [],j,n,y,h=>by simp [boxR,lookR] at h
  | m::bx,j,n,y,h=>by
    simp only [boxR,lookR_cons] at h
    split at h
    · rename_i e;cases h;exact ⟨0,by simp [e],rfl⟩
    · obtain ⟨i,h1,h2⟩:=boxR_look h
      exact ⟨i+1,by simpa using h1,by rw [h2,show j+1+i=j+(i+1) from by omega]⟩
theorem boxR_at:∀ {bx:List Nat} {j n i:Nat},bx.Nodup->bx[i]? = some n->lookR (boxR bx j) n=some (some (PN+(j+i)))
  | [],j,n,i,_,h=>by simp at h
  | m::bx,j,n,0,_,h=>by
    simp at h;subst h
    simp only [boxR,lookR_cons,if_pos,Nat.add_zero]
  | m::bx,j,n,i+1,hn,h=>by
    have h':bx[i]? = some n:=by simpa using h
    obtain ⟨h1,h2⟩:=List.nodup_cons.1 hn
    have hne:n≠m:=fun e=>h1 (e▸List.mem_of_getElem? h')
    simp only [boxR,lookR_cons,if_neg hne,boxR_at h2 h']
    rw [show j+1+i=j+(i+1) from by omega]
theorem boxR_none {bx:List Nat} {j n:Nat} (h:n ∉ bx):lookR (boxR bx j) n=none:=by
  cases hl:lookR (boxR bx j) n with
  | none=>rfl
  | some y=>obtain ⟨i,hi,_⟩:=boxR_look hl;exact absurd (List.mem_of_getElem? hi) h
theorem resR_look:∀ {ow:List (Option Nat)} {n0 n:Nat} {y:Option Nat},lookR (resR ow n0) n=some y→∃ i,ow[i]? = some y/\n=n0+i
  | [],n0,n,y,h=>by simp [resR,lookR] at h
  | o::ow,n0,n,y,h=>by
    simp only [resR,lookR_cons] at h
    split at h
    · rename_i e;cases h;exact ⟨0,by simp,by omega⟩
    · obtain ⟨i,h1,h2⟩:=resR_look h
      exact ⟨i+1,by simpa using h1,by omega⟩
theorem resR_at:∀ {ow:List (Option Nat)} {n0 i:Nat} {o:Option Nat},ow[i]? = some o->lookR (resR ow n0) (n0+i)=some o
  | [],n0,i,o,h=>by simp at h
  | p::ow,n0,0,o,h=>by simp at h;subst h;simp [resR,lookR_cons]
  | p::ow,n0,i+1,o,h=>by
    have h':ow[i]? = some o:=by simpa using h
    have:=resR_at (n0:=n0+1) h'
    simp only [resR,lookR_cons,if_neg (show ¬ n0+(i+1)=n0 from by omega)]
    rw [show n0+(i+1)=n0+1+i from by omega];exact this
theorem memO_iff {n:Nat}:∀ {l:List (Option Nat)},memO n l=true↔some n∈l
  | []=>by simp [memO]
  | none::r=>by simp [memO,memO_iff (l:=r)]
  | some m::r=>by simp [memO,memO_iff (l:=r)]
theorem ownOk_spec {fz:List (Nat×Nm)}:∀ {ow:List (Option Nat)},ownOk fz ow=true→∀ (i m:Nat),ow[i]? = some (some m)->(m<PN∨QN<=m)/\m ∉ fz.map (·.1)∧∀ i':Nat,ow[i']? = some (some m)->i=i'
  | [],_,i,m,h=>by simp at h
  | none::r,h,i,m,hi=>by
    simp only [ownOk] at h
    cases i with
    | zero=>simp at hi
    | succ i =>
      obtain ⟨h1,h2,h3⟩:=ownOk_spec h i m (by simpa using hi)
      refine ⟨h1,h2,fun i' hi' => ?_⟩
      cases i' with
      | zero=>simp at hi'
      | succ i'=>rw [h3 i' (by simpa using hi')]
  | some q::r,h,i,m,hi=>by
    simp only [ownOk,Bool.and_eq_true,Bool.or_eq_true,Bool.not_eq_true'] at h
    obtain ⟨⟨⟨h1,h2⟩,h3⟩,h4⟩:=h
    have hno:∀ i:Nat,r[i]? ≠ some (some q):=fun i hi=>by
      have:memO q r=true:=memO_iff.2 (List.mem_of_getElem? hi)
      rw [this] at h3;cases h3
    cases i with
    | zero =>
      simp at hi;subst hi
      refine ⟨h1.imp (fun h=>Nat.le_of_ble_eq_true h) (fun h=>Nat.le_of_ble_eq_true h),notIn_spec h2,fun i' hi' => ?_⟩
      cases i' with
      | zero=>rfl
      | succ i'=>exact absurd (by simpa using hi') (hno i')
    | succ i =>
      obtain ⟨g1,g2,g3⟩:=ownOk_spec h4 i m (by simpa using hi)
      refine ⟨g1,g2,fun i' hi' => ?_⟩
      cases i' with
      | zero=>simp at hi';subst hi';exact absurd (by simpa using hi) (hno i)
      | succ i'=>rw [g3 i' (by simpa using hi')]
theorem allLt_spec:∀ {fz:List (Nat×Nm)},allLt fz=true→∀ n,n∈fz.map (·.1)->n<PN∨QN<=n
  | [],_,n,h=>by simp at h
  | (m,b)::r,h,n,hn=>by
    simp only [allLt,Bool.and_eq_true,Bool.or_eq_true] at h
    rcases List.mem_cons.1 hn with e|hn
    · have e:n=m:=e
      subst e;exact h.1.imp (fun h=>Nat.le_of_ble_eq_true h) (fun h=>Nat.le_of_ble_eq_true h)
    · exact allLt_spec h.2 n hn
theorem disjN_spec {fz:List (Nat×Nm)}:∀ {bx:List Nat},disjN fz bx=true→∀ n,n∈bx->n ∉ fz.map (·.1)
  | [],_,n,h=>by simp at h
  | m::r,h,n,hn=>by
    simp only [disjN,Bool.and_eq_true] at h
    rcases List.mem_cons.1 hn with rfl|hn
    · exact notIn_spec h.1
    · exact disjN_spec h.2 n hn
theorem askUn_spec {h:Heap} {dl d:Dl}:∀ {k n:Nat} {r:List Nat},(askUn n k dl).run h=some (d,r)->d=dl∧∀ i,i<k->h (n+i) = .un
  | 0,n,r,e=>by
    simp only [askUn,Q.run,Option.some.injEq,Prod.mk.injEq] at e
    exact ⟨e.1.symm,fun i hi=>by omega⟩
  | k+1,n,r,e=>by
    simp only [askUn,Q.run] at e
    split at e
    · rename_i p q hk
      simp only [Option.some.injEq,Prod.mk.injEq] at e
      obtain ⟨rfl,rfl⟩:=e
      split at hk
      · rename_i hun
        obtain ⟨h1,h2⟩:=askUn_spec hk
        refine ⟨h1,fun i hi => ?_⟩
        cases i with
        | zero=>exact hun
        | succ i=>rw [show n+(i+1)=n+1+i from by omega];exact h2 i (by omega)
      · cases hk
    · cases e
theorem mem_deadU {n:Nat} {x:Nm}:∀ {cx:List (Option Nat)},(n,x)∈deadU cx->x = .dead/\n∈somes cx
  | [],h=>by simp [deadU] at h
  | none::r,h=>by simp only [deadU] at h;simpa only [somes] using mem_deadU (cx:=r) h
  | some m::r,h=>by
    simp only [deadU] at h
    rcases List.mem_cons.1 h with h|h
    · cases h;exact ⟨rfl,List.mem_cons_self ..⟩
    · obtain ⟨h1,h2⟩:=mem_deadU (cx:=r) h
      exact ⟨h1,List.mem_cons_of_mem _ h2⟩
theorem deadU_keys:∀ {cx:List (Option Nat)},(deadU cx).map (·.1)=somes cx
  | []=>rfl
  | none::r=>by simp only [deadU,somes];exact deadU_keys (cx:=r)
  | some m::r=>by simp only [deadU,somes,List.map_cons,deadU_keys (cx:=r)]
def sCell (P:Program) (ty:TypeId) (v:SV) (h:Heap):Option SV:=match v with
  | .ptr n off=>match h n with
    | .live (.cells _ cs)=>partS P ty cs off
    | _=>none
  | _=>none
def resSVs (P:Program):List ResultVar->List SV->Heap->Option (List SV)
  | [],_,_=>some []
  | .tmp t::r,sl,h=>match resSVs P r sl h with
    | some l=>some (getSl sl t::l)
    | none=>none
  | .cell a ty::r,sl,h=>match sCell P ty (getSl sl a) h,resSVs P r sl h with
    | some v,some l=>some (v::l)
    | _,_=>none
def mkRes (l:List Value):Value:=if h:l.toArray.size=1 then l.toArray[0] else .tuple l.toArray
theorem sCell_sound {P:Program} {w0:World} {N0:Old} {A:Nat->Prop} {env:Env} {h:Heap} {w:World} (m:Mod w0 N0 A env h w) {ty:TypeId} {s s':SV} {v:Value} (e:sCell P ty s h=some s') (hd:Den A env w s v) :
    ∃ u,(do loadVar ty (← asAddr v):Sem Value).run P w = .ok u w/\Den A env w s' u:=by
  unfold sCell at e
  split at e
  · rename_i n off
    split at e
    · rename_i E cs hl
      simp only [Den] at hd
      obtain ⟨b,l,he,rfl⟩:=hd
      obtain ⟨⟨vs,hh,hd⟩,_⟩:=m.live_blk hl he
      obtain ⟨u,hr,hv⟩:=partS_load (o:=0) (k:=b) e hd (fun j hj=>by rw [cell_of_row w b _ vs E (0,0) hh];simp)
      rw [Nat.zero_add] at hr
      exact ⟨u,by simp [asAddr,hr],hv⟩
    · cases e
  · cases e
theorem mapM_res {P:Program} {w0:World} {N0:Old} {A:Nat->Prop} {env:Env} {h:Heap} {w:World} (m:Mod w0 N0 A env h w) {sl:List SV} {a:Act} (f:FD A env w (getSl sl) a) {F:ResultVar->Sem Value}
    (h1:∀ t,F (.tmp t)=pure (a.tmps.getD t undef)) (h2:∀ t ty,F (.cell t ty)=do loadVar ty (← asAddr (a.tmps.getD t undef))):∀ (l:List ResultVar) (svs:List SV),resSVs P l sl h=some svs →
    ∃ vs,(l.mapM F).run P w = .ok vs w/\DenL A env w svs vs
  | [],svs,e=>by cases e;exact ⟨[],rfl,by simp [DenL]⟩
  | .tmp t::l,svs,e=>by
    simp only [resSVs] at e
    split at e
    · rename_i l' hl
      cases e
      obtain ⟨vs,hr,hd⟩:=mapM_res m f h1 h2 l l' hl
      refine ⟨a.tmps.getD t undef::vs,?_,by simp only [DenL];exact ⟨_,_,rfl,f t,hd⟩⟩
      rw [List.mapM_cons,h1]
      simp [hr]
    · cases e
  | .cell t ty::l,svs,e=>by
    simp only [resSVs] at e
    split at e
    · rename_i v l' hv hl
      cases e
      obtain ⟨vs,hr,hd⟩:=mapM_res m f h1 h2 l l' hl
      obtain ⟨u,hu,hdu⟩:=sCell_sound m hv (f t)
      refine ⟨u::vs,?_,by simp only [DenL];exact ⟨_,_,rfl,hdu,hd⟩⟩
      rw [List.mapM_cons,h2,Sem.run_bind,hu]
      simp [hr]
    · cases e
theorem results_run {P:Program} {w0:World} {N0:Old} {A:Nat->Prop} {env:Env} {h:Heap} {w:World} (m:Mod w0 N0 A env h w) {sl:List SV} {a:Act} (f:FD A env w (getSl sl) a) {fn:Func} {svs:List SV} (e:resSVs P fn.results.toList sl h=some svs) :
    ∃ vs,(results fn a.tmps).run P w = .ok (mkRes vs) w/\DenL A env w svs vs:=by
  unfold results
  rw [Array.mapM_eq_mapM_toList]
  obtain ⟨vs,hr,hd⟩:=mapM_res (P:=P) m f (F:=fun | .tmp t=>pure (a.tmps.getD t undef) | .cell t ty=>do loadVar ty (← asAddr (a.tmps.getD t undef))) (fun t=>rfl) (fun t ty=>rfl) fn.results.toList svs e
  refine ⟨vs,?_,hd⟩
  rw [Sem.run_bind,Sem.run_map]
  erw [hr]
  rfl
theorem resV_den {A:Nat->Prop} {env:Env} {w:World} {svs:List SV} {vs:List Value} (h:DenL A env w svs vs):Den A env w (resV svs) (mkRes vs):=by
  have hl:=DenL_length h
  unfold resV
  split
  · simp only [DenL] at h
    obtain ⟨v,r,rfl,h,rfl⟩:=h
    exact h
  · rename_i hne
    have:¬ vs.length=1:=fun e=>by
      rw [hl] at e
      obtain ⟨x,hx⟩:=List.length_eq_one_iff.1 e
      exact hne x hx
    simp only [mkRes,Den]
    rw [dif_neg (by simpa using this)]
    exact ⟨_,rfl,h⟩
def conjE:List Prop->Prop
  | []=>True
  | [p]=>p
  | p::q::r=>p/\conjE (q::r)
theorem conjE_iff:∀ {l:List Prop},conjE l↔conj l
  | []=>Iff.rfl
  | [p]=>by simp [conjE,conj]
  | p::q::r=>by rw [conjE,conj,conjE_iff]
def retG (P:Program) (ps:List PK) (rs:List RK) (rv:List ResultVar) (k:RDs rs×BDs ps->Prop):Ex->St->Prop:=fun e S=>match e with
  | .exit _=>False
  | _=>match resSVs P rv S.sl (lookN S.H) with
    | none=>False
    | some vs=>match outR (Nat.blt 0 (nBx ps)) rs vs (lookN S.H),outB ps 0 (lookN S.H) with
      | some (y,f1,ow),some (z,f2,ow2)=>match ownOk (f1++f2) (ow++ow2),allLt (f1++f2) with
        | true,true=>k (y,z)
        | _,_=>False
      | _,_=>False
def padS:List SV->Nat->List SV
  | _,0=>[]
  | [],n+1 => .junk::padS [] n
  | v::l,n+1=>v::padS l n
def startSt (ps:List PK) (d:PDs ps) (n:Nat):St:=⟨padS (argsOf ps d 0 0) n,boxesOf ps d 0 0++consOf ps d 0⟩
theorem padS_len:∀ {l:List SV} {n:Nat},(padS l n).length=n
  | _,0=>by simp [padS]
  | [],n+1=>by simp [padS,padS_len (l:=[]) (n:=n)]
  | v::l,n+1=>by simp [padS,padS_len (l:=l) (n:=n)]
theorem padS_get:∀ {l:List SV} {n i:Nat},getSl (padS l n) i = .junk∨∃ s,l[i]? = some s/\getSl (padS l n) i=s
  | _,0,i=>by left;simp [padS,getSl,getL]
  | [],n+1,0=>by left;simp [padS,getSl,getL]
  | [],n+1,i+1=>by
    rcases padS_get (l:=[]) (n:=n) (i:=i) with h|⟨s,h,_⟩
    · left;simpa [padS,getSl,getL] using h
    · simp at h
  | v::l,n+1,0=>by right;exact ⟨v,by simp,by simp [padS,getSl,getL]⟩
  | v::l,n+1,i+1=>by
    rcases padS_get (l:=l) (n:=n) (i:=i) with h|⟨s,h,h'⟩
    · left;simpa [padS,getSl,getL] using h
    · right;exact ⟨s,by simpa using h,by simpa [padS,getSl,getL] using h'⟩
section
variable {P:Program} {sp:Specs}
theorem run_ok {ps:List PK} {rs:List RK} (post:PDs ps->RDs rs×BDs ps->Prop) {f:FuncId} {fn:Func} {code:Code} (hf:P.funcs[f]? = some fn) (hb:fn.body=some code) (hs:SpecsOK P sp) (hmix:P.follows .mixedOrders=true) (an:PDs ps->Anns)
    {base:Nat} {svs:List SV} {h:Heap} {dd:PDs ps} {fz:List (Nat×Nm)} {bx:List Nat} {cx:List (Option Nat)} {q1:List Nat} (e1:(matchArgs none ps svs).run h=some ((dd,fz,bx,cx),q1)) (hnm:namesOk fz bx cx=true)
    (hun:∀ i,i<nOwn rs+nOwnB ps->h (base+i) = .un) (vc:wfP ps dd->forceSt (startSt ps dd fn.ntmps) (sx P sp (an dd) code (retG P ps rs fn.results.toList (post dd))))
    {w0:World} {N0:Old} {A:Nat->Prop} {env:Env} {w:World} {vs:List Value} (hG:N0.g=sp.gl) (m:Mod w0 N0 A env h w) (hd:DenL A env w svs vs) :
    Calls P f vs.toArray w fun e w'=>∃ v y,e = .returned v/\post dd y∧∃ (A':Nat->Prop) (env':Env),Mod w0 N0 A' env' (setAll (retU ps rs y base fz bx cx) h) w'∧Ext A env w A' env' w'∧Den A' env' w' (resV (resSV (bx.headD 0) rs y.1 base)) v:=by
  simp only [namesOk,Bool.and_eq_true] at hnm
  obtain ⟨⟨hnd,hdj⟩,hbl⟩:=hnm
  have hnd:=nodupN_iff hnd
  have hdj:=disjN_spec hdj
  have hbl:=Nat.le_of_ble_eq_true hbl
  obtain ⟨a1,a4,a6⟩:=matchArgs_sound (envc:=callEnv env bx cx) m (Ac:=frzA A env fz) (fun b hb => .inl hb) none ps svs vs dd fz bx cx q1 0 0 e1 hd (fun k hk => .inr hk)
  obtain ⟨dargs,lb,lc⟩:=a6 (fun _=>rfl) (fun n hn=>by cases hn) (fun k n hn=>by rw [Nat.zero_add];exact callEnv_bx hbl hn) (fun k q hq=>by rw [Nat.zero_add];exact callEnv_cx hq)
  rw [Nat.add_zero] at lb lc
  have mc:=m.call a1 hbl lb lc hdj hnd
  have hlen:bx.length=nBx ps:=by
    have:=lb.get.1
    rw [List.length_map,boxesOf_len] at this;exact this
  have hnd1:bx.Nodup:=(List.nodup_append.1 hnd).1
  have hvc:=vc a4
  rw [forceSt_eq] at hvc
  have hvl:=DenL_length dargs
  have live_ne:∀ q b,h q = .live b->env q ≠ .un:=fun q b hq=>by
    have:=m.nm q
    rw [hq] at this
    rcases this with ⟨k,len,e,_⟩|⟨e,_⟩ <;> rw [e] <;> simp
  have hlive:∀ n,n∈bx++somes cx→∃ b,h n = .live b/\b.mut=true/\env n ≠ .un:=fun n hn=>by
    rcases List.mem_append.1 hn with hn|hn
    · obtain ⟨i,hi⟩:=List.mem_iff_getElem?.1 hn
      obtain ⟨b',_,_,_,⟨q,b,e,h1,h2,_⟩|⟨e,_⟩⟩:=lb.get.2 i (some n) (by simp [hi])
      · cases e;exact ⟨b,h1,h2,live_ne _ _ h1⟩
      · cases e
    · obtain ⟨i,hi⟩:=List.mem_iff_getElem?.1 (mem_somes.1 hn)
      obtain ⟨b',_,_,_,⟨q,b,e,h1,h2,_⟩|⟨e,_⟩⟩:=lc.get.2 i (some n) hi
      · cases e;exact ⟨b,h1,h2,live_ne _ _ h1⟩
      · cases e
  refine calls_of_wp hf hb (sx_wp (N0:=⟨boxBlk env (bx++somes cx),frzA A env fz,N0.g⟩) ⟨hs,hG⟩ hmix code _ _ _ (frzA A env fz) (callEnv env bx cx) _ w hvc ⟨mc,?_,?_,rfl⟩ ?_)
  · simp only [St.fs,startSt,padS_len,Array.size_append,Array.size_replicate];omega
  · intro i
    simp only [St.fs,startSt]
    rcases padS_get (l:=argsOf ps dd 0 0) (n:=fn.ntmps) (i:=i) with hj|⟨s,h1,h2⟩
    · rw [hj];simp only [Den]
    · rw [h2]
      obtain ⟨v,hv,hdv⟩:=DenL_get i s dargs h1
      have hi:i<vs.length:=(List.getElem?_eq_some_iff.1 hv).1
      have:(vs.toArray++Array.replicate (fn.ntmps-vs.toArray.size) undef).getD i undef=v:=by
        have h3:(vs.toArray++Array.replicate (fn.ntmps-vs.toArray.size) undef)[i]? = some v:=by
          rw [Array.getElem?_append_left (by simpa using hi)];simpa using hv
        simp only [Array.getD_eq_getD_getElem?,h3,Option.getD_some]
      rw [this];exact hdv
  · intro ex S' A1 env1 act w1 hK t' x'
    have hend:∃ rsv y f1 owr z f2 owb,resSVs P fn.results.toList S'.sl (lookN S'.H)=some rsv/\outR (Nat.blt 0 (nBx ps)) rs rsv (lookN S'.H)=some (y,f1,owr)/\outB ps 0 (lookN S'.H)=some (z,f2,owb) ∧
        ownOk (f1++f2) (owr++owb)=true/\allLt (f1++f2)=true/\post dd (y,z)/\(ex = .normal∨ex = .ret):=by
      unfold retG at hK
      split at hK
      · exact hK.elim
      · rename_i hex
        split at hK
        · exact hK.elim
        · rename_i rsv hts
          split at hK
          · rename_i y f1 ow z f2 ow2 h1 h2
            split at hK
            · rename_i h3 h4
              refine ⟨rsv,y,f1,ow,z,f2,ow2,hts,h1,h2,h3,h4,hK,?_⟩
              cases ex with
              | normal=>exact .inl rfl
              | ret=>exact .inr rfl
              | exit i=>exact absurd rfl (hex i)
            · exact hK.elim
          · exact hK.elim
    obtain ⟨rsv,y,f1,owr,z,f2,owb,hts,ho,hob,hown,hlt,hpost,hex⟩:=hend
    obtain ⟨rvs,hrun,hres⟩:=results_run t'.m t'.f hts
    have hA2:∀ b,A1 b->frzA A1 env1 (f1++f2) b:=fun b hb => .inl hb
    have hF1:∀ k,FrzBlk env1 f1 k->frzA A1 env1 (f1++f2) k:=fun k ⟨n,x,l,hx,he⟩ => .inr ⟨n,x,l,List.mem_append_left _ hx,he⟩
    have hF2:∀ k,FrzBlk env1 f2 k->frzA A1 env1 (f1++f2) k:=fun k ⟨n,x,l,hx,he⟩ => .inr ⟨n,x,l,List.mem_append_right _ hx,he⟩
    have hlt:=allLt_spec hlt
    have hownS:=ownOk_spec hown
    have hPQ:QN=PN+PN:=rfl
    have fin:∀ (As A':Nat->Prop) (hs':Heap),Mod w0 N0 As env hs' w->(∀ n,n∈bx++somes cx->hs' n=h n)->(∀ i,i<nOwn rs+nOwnB ps->hs' (base+i) = .un)->(∀ b,As b->A' b)->(∀ b,A' b->frzA A1 env1 (f1++f2) b) →
        (∀ b,A' b->As b∨((boxBlk env (bx++somes cx) b∨w.heap.size<=b)/\b<w1.heap.size))->(rsPlain rs=true∨∀ b,frzA A1 env1 (f1++f2) b->A' b)->(psPlain ps=true∨∀ b,frzA A1 env1 (f1++f2) b->A' b) →
        ∃ env',Mod w0 N0 A' env' (setAll (boxU (bx.headD 0) ps z bx (base+nOwn rs)++(resH (bx.headD 0) rs y base++(newU ps z (base+nOwn rs)++deadU cx))) hs') w1/\Ext As env w A' env' w1/\Den A' env' w1 (resV (resSV (bx.headD 0) rs y base)) (mkRes rvs):=by
      intro As A' hs' ms hsb hsu hAA hA'2 hA1' L1 L2
      obtain ⟨b1,b2,b3⟩:=outR_sound (A':=A') (env':=retEnv (boxR bx 0++resR (owr++owb) base) env env1) t'.m hA2 (bx.headD 0) rs y _ _ f1 owr base ho hres hF1 L1
      obtain ⟨c1,c2,c3,c4⟩:=outB_sound (A':=A') (env':=retEnv (boxR bx 0++resR (owr++owb) base) env env1) t'.m hA2 (bx.headD 0) ps z f2 owb bx 0 (base+nOwn rs) hob hF2 L2 hlen
      have hfo:FrzOk (lookN S'.H) (f1++f2):=fun n b hh=>by
        rcases List.mem_append.1 hh with hh|hh
        · exact b1 n b hh
        · exact c1 n b hh
      have howl:(owr++owb).length=nOwn rs+nOwnB ps:=by rw [List.length_append,b2,c2]
      have hnotbx:∀ i,i<nOwn rs+nOwnB ps->base+i ∉ bx:=fun i hi hmem=>by
        have h1:=hsu i hi
        rw [hsb _ (List.mem_append_left _ hmem)] at h1
        obtain ⟨b,hb',_⟩:=hlive _ (List.mem_append_left _ hmem)
        rw [h1] at hb';cases hb'
      have hRbox:∀ i n,bx[i]? = some n->lookR (boxR bx 0++resR (owr++owb) base) n=some (some (PN+i)):=fun i n hi=>by
        rw [lookR_append,boxR_at (j:=0) hnd1 hi,Nat.zero_add]
      have hRres:∀ i o,(owr++owb)[i]? = some o->lookR (boxR bx 0++resR (owr++owb) base) (base+i)=some o:=fun i o hi=>by
        have hlti:i<nOwn rs+nOwnB ps:=by have:=(List.getElem?_eq_some_iff.1 hi).1;omega
        rw [lookR_append,boxR_none (hnotbx i hlti)]
        exact resR_at hi
      have hRinv:∀ n y,lookR (boxR bx 0++resR (owr++owb) base) n=some y->(∃ i,bx[i]? = some n/\y=some (PN+i))∨∃ i,(owr++owb)[i]? = some y/\n=base+i/\i<nOwn rs+nOwnB ps:=fun n y hy=>by
        rw [lookR_append] at hy
        split at hy
        · rename_i x hx
          cases hy
          obtain ⟨i,h1,h2⟩:=boxR_look hx
          rw [Nat.zero_add] at h2
          exact .inl ⟨i,h1,h2⟩
        · obtain ⟨i,h1,h2⟩:=resR_look hy
          exact .inr ⟨i,h1,h2,by have:=(List.getElem?_eq_some_iff.1 h1).1;omega⟩
      have hbxlt:∀ i n,bx[i]? = some n->i<PN:=fun i n hi=>by have:=(List.getElem?_eq_some_iff.1 hi).1;omega
      have henvp:∀ i n,bx[i]? = some n->env1 (PN+i)=env n:=fun i n hi=>by
        obtain ⟨b,_,_,hne⟩:=hlive n (List.mem_append_left _ (List.mem_of_getElem? hi))
        have:=hbxlt i n hi
        have:=x'.envp (PN+i) (by omega) (by omega) (by rw [callEnv_bx hbl hi];exact hne)
        rw [this,callEnv_bx hbl hi]
      have eenv:∀ i o,(owr++owb)[i]? = some o->retEnv (boxR bx 0++resR (owr++owb) base) env env1 (base+i)=evOf env1 o:=fun i o hi=>by
        unfold retEnv
        rw [hRres i o hi]
        simp only [renEnv,hRres i o hi]
        cases o <;> rfl
      have hhead:bx≠[]->retEnv (boxR bx 0++resR (owr++owb) base) env env1 (bx.headD 0)=env1 PN:=fun hne=>by
        obtain ⟨n0,r,hbx⟩:=List.exists_cons_of_ne_nil hne
        have h0:bx[0]? = some (bx.headD 0):=by rw [hbx];rfl
        unfold retEnv
        rw [hRbox 0 _ h0]
        simp only [renEnv,hRbox 0 _ h0,Nat.add_zero]
      obtain ⟨d1,d2⟩:=b3 (fun hal=>hhead (fun hnil=>by
          have h0:nBx ps=0:=by rw [← hlen,hnil];rfl
          rw [h0] at hal;cases hal)) (fun i o hi=>eenv i o (by rw [List.getElem?_append_left (List.getElem?_eq_some_iff.1 hi).1];exact hi))
      obtain ⟨d3,d4⟩:=c3 hhead (fun k q hq=>by
          have:=eenv (nOwn rs+k) q (by rw [List.getElem?_append_right (by omega),b2,Nat.add_sub_cancel_left];exact hq)
          rwa [← Nat.add_assoc] at this)
        (fun k q hq=>by
          unfold retEnv
          rw [hRbox k q hq]
          simp only [renEnv,hRbox k q hq,Nat.zero_add])
      have hlookA:∀ q b k l,lookN S'.H q = .live b->b.mut=true->env1 q = .blk k l->q ∉ (f1++f2).map (·.1)→¬ A' k:=fun q b k l hq hbm he hqn hA'=>by
        have mf:=(t'.m.freeze hfo).1
        have:setAll (f1++f2) S'.fs.h q = .live b:=by rw [setAll_other hqn];exact hq
        exact (mf.live_blk this he).2 hbm (hA'2 k hA')
      suffices hk:Mod w0 N0 A' (retEnv (boxR bx 0++resR (owr++owb) base) env env1) (setAll (boxU (bx.headD 0) ps z bx (base+nOwn rs)++(resH (bx.headD 0) rs y base++(newU ps z (base+nOwn rs)++deadU cx))) hs') w1/\Ext As env w A' (retEnv (boxR bx 0++resR (owr++owb) base) env env1) w1 by
        exact ⟨_,hk.1,hk.2,resV_den d1⟩
      have hnew:∀ {l:List (Nat×Nm)} {os:List (Option Nat)} {n0:Nat},LinkOK A' env1 (lookN S'.H) (retEnv (boxR bx 0++resR (owr++owb) base) env env1) w1 os l (base+n0)->(∀ i o,os[i]? = some o->(owr++owb)[n0+i]? = some o)→∀ n x,(n,x)∈l →
          ∃ b,x = .live b/\b.mut=true/\((∃ m b0,lookR (boxR bx 0++resR (owr++owb) base) n=some (some m)/\lookN S'.H m = .live b0/\b0.mut=true ∧
            (∀ k len,env1 m = .blk k len->BlkDen A' (retEnv (boxR bx 0++resR (owr++owb) base) env env1) w1 k len b)/\(env1 m = .nil→∃ E t,b = .row E t []))∨(lookR (boxR bx 0++resR (owr++owb) base) n=some none∧∃ E t,b = .row E t [])):=by
        intro l os n0 hl hos n x hx
        have:∀ {os:List (Option Nat)} {l:List (Nat×Nm)} {k0:Nat},LinkOK A' env1 (lookN S'.H) (retEnv (boxR bx 0++resR (owr++owb) base) env env1) w1 os l k0→∀ n x,(n,x)∈l→∃ i o b',os[i]? = some o/\n=k0+i/\x = .live b'∧b'.mut=true ∧
            ((∃ q b,o=some q/\lookN S'.H q = .live b/\b.mut=true/\(∀ k len,env1 q = .blk k len->BlkDen A' (retEnv (boxR bx 0++resR (owr++owb) base) env env1) w1 k len b')/\(env1 q = .nil→∃ E t,b' = .row E t []))∨(o=none∧∃ E t,b' = .row E t [])):=by
          intro os
          induction os with
          | nil=>intro l k0 hl n x hx;cases l with
            | nil=>cases hx
            | cons p l=>exact hl.elim
          | cons o os ih =>
            intro l k0 hl n x hx
            cases l with
            | nil=>cases hx
            | cons p l =>
              obtain ⟨m',y'⟩:=p
              obtain ⟨⟨hm,b',g1,g2,g3⟩,hr⟩:=hl
              rcases List.mem_cons.1 hx with e|hx
              · cases e;exact ⟨0,o,b',rfl,by omega,g1,g2,g3⟩
              · obtain ⟨i,o',b'',k1,k2,k3⟩:=ih hr n x hx
                exact ⟨i+1,o',b'',by simpa using k1,by omega,k3⟩
        obtain ⟨i,o,b',k1,rfl,k3,k4,k5⟩:=this hl n x hx
        have hr:=hRres _ _ (hos i o k1)
        rw [← Nat.add_assoc] at hr
        refine ⟨b',k3,k4,?_⟩
        rcases k5 with ⟨q,b,rfl,g1,g2,g3,g4⟩|⟨rfl,g1⟩
        · exact .inl ⟨q,b,hr,g1,g2,g3,g4⟩
        · exact .inr ⟨hr,g1⟩
      refine Mod.retn (R:=boxR bx 0++resR (owr++owb) base) (U:=boxU (bx.headD 0) ps z bx (base+nOwn rs)++(resH (bx.headD 0) rs y base++(newU ps z (base+nOwn rs)++deadU cx))) (A':=A') ms t'.m x'.shape ?_ ?_ ?_ ?_ ?_ hAA hA1' ?_
      · intro n x hx
        rcases List.mem_append.1 hx with hx|hx
        · obtain ⟨i,b,b0,h1,h2,h3,h4,h5,h6,h7⟩:=d4 n x hx
          rw [Nat.zero_add] at h4 h6 h7
          exact .inr ⟨b,h2,h3,.inl ⟨PN+i,b0,hRbox i n h1,h4,h5,h6,h7⟩⟩
        · rcases List.mem_append.1 hx with hx|hx
          · exact .inr (hnew (n0:=0) (by rw [Nat.add_zero];exact d2) (fun i o hi=>by rw [Nat.zero_add,List.getElem?_append_left (List.getElem?_eq_some_iff.1 hi).1];exact hi) n x hx)
          · rcases List.mem_append.1 hx with hx|hx
            · exact .inr (hnew d3 (fun i o hi=>by rw [List.getElem?_append_right (by omega),b2,Nat.add_sub_cancel_left];exact hi) n x hx)
            · exact .inl (mem_deadU hx).1
      · intro n hn
        obtain ⟨y',hy⟩:=Option.ne_none_iff_exists'.1 hn
        simp only [List.map_append]
        rcases hRinv n y' hy with ⟨i,h1,_⟩|⟨i,h1,rfl,hi⟩
        · exact List.mem_append_left _ (c4 n (List.mem_of_getElem? h1))
        · refine List.mem_append_right _ ?_
          by_cases hlt':i<nOwn rs
          · refine List.mem_append_left _ ?_
            obtain ⟨b',_,hmem,_⟩:=d2.get.2 i _ (by rw [List.getElem?_append_left (by omega)] at h1;exact h1)
            exact List.mem_map_of_mem (f:=(·.1)) hmem
          · refine List.mem_append_right _ (List.mem_append_left _ ?_)
            obtain ⟨b',_,hmem,_⟩:=d3.get.2 (i-nOwn rs) _ (by rw [List.getElem?_append_right (by omega),b2] at h1;exact h1)
            have:=List.mem_map_of_mem (f:=(·.1)) hmem
            rwa [show base+nOwn rs+(i-nOwn rs)=base+i from by omega] at this
      · intro n n' q hn hn'
        rcases hRinv n _ hn with ⟨i,h1,h2⟩|⟨i,h1,rfl,_⟩ <;> rcases hRinv n' _ hn' with ⟨i',h1',h2'⟩|⟨i',h1',rfl,_⟩
        · simp only [Option.some.injEq] at h2 h2'
          have:i=i':=by omega
          subst this
          rw [h1] at h1';exact Option.some.inj h1'
        · simp only [Option.some.injEq] at h2
          have:=(hownS i' q h1').1
          have:=hbxlt _ _ h1
          omega
        · simp only [Option.some.injEq] at h2'
          have:=(hownS i q h1).1
          have:=hbxlt _ _ h1'
          omega
        · rw [(hownS i q h1).2.2 i' h1']
      · intro n hn
        obtain ⟨y',hy⟩:=Option.ne_none_iff_exists'.1 hn
        rcases hRinv n y' hy with ⟨i,h1,rfl⟩|⟨i,h1,rfl,h2⟩
        · have hmem:n∈bx++somes cx:=List.mem_append_left _ (List.mem_of_getElem? h1)
          obtain ⟨b,g2',g3',_⟩:=hlive n hmem
          exact .inr ⟨b,by rw [hsb n hmem];exact g2',g3',by rw [renEnv_some hy];exact henvp i n h1⟩
        · exact .inl (hsu i h2)
      · rintro k ⟨n,l,hn,he⟩
        obtain ⟨b,g2',g3',_⟩:=hlive n hn
        refine ⟨n,b,l,?_,by rw [hsb n hn];exact g2',g3',he⟩
        simp only [List.map_append,deadU_keys]
        rcases List.mem_append.1 hn with hn|hn
        · exact List.mem_append_left _ (c4 n hn)
        · exact List.mem_append_right _ (List.mem_append_right _ (List.mem_append_right _ hn))
      · rintro q b k l hq hbm he ⟨n,hn⟩
        refine hlookA q b k l hq hbm he fun hmem => ?_
        rcases hRinv n _ hn with ⟨i,h1,h2⟩|⟨i,h1,rfl,_⟩
        · simp only [Option.some.injEq] at h2
          have:=hlt q hmem
          have:=hbxlt _ _ h1
          omega
        · exact (hownS i q h1).2.1 hmem
    suffices hfin:∃ (A':Nat->Prop) (env':Env),Mod w0 N0 A' env' (setAll (retU ps rs (y,z) base fz bx cx) h) w1/\Ext A env w A' env' w1/\Den A' env' w1 (resV (resSV (bx.headD 0) rs y base)) (mkRes rvs) by
      have hthis:act.defers=[]∧∃ v,(results fn act.tmps).run P w1 = .ok v w1∧∃ v' y',Ending.returned v = .returned v'∧post dd y'∧∃ (A':Nat->Prop) (env':Env),Mod w0 N0 A' env' (setAll (retU ps rs y' base fz bx cx) h) w1/\Ext A env w A' env' w1/\Den A' env' w1 (resV (resSV (bx.headD 0) rs y'.1 base)) v' :=
        ⟨t'.dfr,_,hrun,_,(y,z),rfl,hpost,hfin⟩
      rcases hex with rfl|rfl
      · exact hthis
      · exact hthis
    unfold retU
    cases hk:keepF ps rs with
    | true =>
      obtain ⟨mf,xf⟩:=m.freeze a1
      have hback:∀ b,frzA A1 env1 (f1++f2) b->frzA A env fz b∨((boxBlk env (bx++somes cx) b∨w.heap.size<=b)/\b<w1.heap.size):=by
        intro b hb
        have hfo:FrzOk (lookN S'.H) (f1++f2):=by
          obtain ⟨b1,_⟩:=outR_sound (A':=frzA A1 env1 (f1++f2)) (env':=env1) t'.m hA2 (bx.headD 0) rs y _ _ f1 owr base ho hres hF1 (.inr fun b hb=>hb)
          obtain ⟨c1,_⟩:=outB_sound (A':=frzA A1 env1 (f1++f2)) (env':=env1) t'.m hA2 (bx.headD 0) ps z f2 owb bx 0 base hob hF2 (.inr fun b hb=>hb) hlen
          intro n b hh
          rcases List.mem_append.1 hh with hh|hh
          · exact b1 n b hh
          · exact c1 n b hh
        have hAlt:=(t'.m.freeze hfo).1.Alt b hb
        rcases hb with hb|⟨n,x,l,hx,he⟩
        · rcases t'.m.fresh b hb with h1|h1|h1
          · exact .inl h1
          · exact .inr ⟨.inl h1,hAlt⟩
          · exact .inr ⟨.inr h1,hAlt⟩
        · obtain ⟨E,t,xs,hl,_⟩:=hfo n x hx
          rcases t'.m.own n _ b l hl rfl he with h1|h1
          · exact .inr ⟨.inl h1,hAlt⟩
          · exact .inr ⟨.inr h1,hAlt⟩
      obtain ⟨env',k1,k2,k3⟩:=fin (frzA A env fz) (frzA A1 env1 (f1++f2)) (setAll fz h) mf (fun n hn=>setAll_other (hdj n hn)) (fun i hi=>by
          rw [setAll_other]
          · exact hun i hi
          · intro hmem
            obtain ⟨⟨n,x⟩,hx,he⟩:=List.mem_map.1 hmem
            simp only at he
            subst he
            obtain ⟨E,t,xs,hl,_⟩:=a1 _ _ hx
            rw [hun i hi] at hl;cases hl)
        (fun b hb => .inl (x'.imm b hb)) (fun b hb=>hb) hback (.inr fun b hb=>hb) (.inr fun b hb=>hb)
      refine ⟨_,env',?_,xf.trans k2,k3⟩
      rw [setAll_append];exact k1
    | false =>
      have hpl:rsPlain rs=true/\psPlain ps=true:=by
        simpa [keepF] using hk
      obtain ⟨env',k1,k2,k3⟩:=fin A A h m (fun n hn=>rfl) hun (fun b hb=>hb) (fun b hb => .inl (x'.imm b (.inl hb))) (fun b hb => .inl hb) (.inl hpl.1) (.inl hpl.2)
      refine ⟨_,env',?_,k2,k3⟩
      rw [List.append_nil];exact k1
def eqRs:(rs:List RK)->RDs rs->RDs rs->List Prop
  | [],_,_=>[]
  | _::rs,x,y=>(x.1=y.1)::eqRs rs x.2 y.2
def eqBs:(ps:List PK)->BDs ps->BDs ps->List Prop
  | [],_,_=>[]
  | .val _::ps,x,y=>eqBs ps x y
  | .agg _::ps,x,y=>eqBs ps x y
  | .own _ _::ps,x,y=>eqBs ps x y
  | .ago _::ps,x,y=>eqBs ps x y
  | .fn _ _::ps,x,y=>eqBs ps x y
  | .nils::ps,x,y=>eqBs ps x y
  | .box _ _::ps,x,y=>(x.1=y.1)::eqBs ps x.2 y.2
  | .row _ _::ps,x,y=>(x.1=y.1)::eqBs ps x.2 y.2
theorem eqRs_eq:∀ {rs:List RK} {x y:RDs rs},conj (eqRs rs x y)->x=y
  | [],x,y,_=>rfl
  | _::rs,x,y,h=>Prod.ext h.1 (eqRs_eq (rs:=rs) h.2)
theorem eqBs_eq:∀ {ps:List PK} {x y:BDs ps},conj (eqBs ps x y)->x=y
  | [],x,y,_=>rfl
  | .val _::ps,x,y,h=>eqBs_eq (ps:=ps) h
  | .agg _::ps,x,y,h=>eqBs_eq (ps:=ps) h
  | .own _ _::ps,x,y,h=>eqBs_eq (ps:=ps) h
  | .ago _::ps,x,y,h=>eqBs_eq (ps:=ps) h
  | .fn _ _::ps,x,y,h=>eqBs_eq (ps:=ps) h
  | .nils::ps,x,y,h=>eqBs_eq (ps:=ps) h
  | .box _ _::ps,x,y,h=>Prod.ext h.1 (eqBs_eq (ps:=ps) h.2)
  | .row _ _::ps,x,y,h=>Prod.ext h.1 (eqBs_eq (ps:=ps) h.2)
theorem eqRs_refl:∀ {rs:List RK} {x:RDs rs},conj (eqRs rs x x)
  | [],_=>trivial
  | _::rs,x=>⟨rfl,eqRs_refl (rs:=rs)⟩
theorem eqBs_refl:∀ {ps:List PK} {x:BDs ps},conj (eqBs ps x x)
  | [],_=>trivial
  | .val _::ps,x=>eqBs_refl (ps:=ps)
  | .agg _::ps,x=>eqBs_refl (ps:=ps)
  | .own _ _::ps,x=>eqBs_refl (ps:=ps)
  | .ago _::ps,x=>eqBs_refl (ps:=ps)
  | .fn _ _::ps,x=>eqBs_refl (ps:=ps)
  | .nils::ps,x=>eqBs_refl (ps:=ps)
  | .box _ _::ps,x=>⟨rfl,eqBs_refl (ps:=ps)⟩
  | .row _ _::ps,x=>⟨rfl,eqBs_refl (ps:=ps)⟩
theorem Ct.ok (c:Ct) {f:FuncId} {fn:Func} {code:Code} (hf:P.funcs[f]? = some fn) (hb:fn.body=some code) (hs:SpecsOK P sp) (hmix:P.follows .mixedOrders=true) (an:PDs c.ps->Anns)
    (vc:allP c.ps fun d=>wfP c.ps d->conjE (c.pre d)->forceSt (startSt c.ps d fn.ntmps) (sx P sp (an d) code (retG P c.ps c.rs fn.results.toList fun y=>conjE (eqRs c.rs y.1 (c.out d).1++eqBs c.ps y.2 (c.out d).2)))):SpecOK P sp.gl f c.spec:=by
  intro base svs h d r e hp w0 N0 A env w vs hG m hd
  unfold Ct.spec at e
  obtain ⟨⟨dd,fz,bx,cx⟩,q1,q2,e1,e2,rfl⟩:=Q.run_bind _ _ _ e
  split at e2
  case h_2=>cases e2
  rename_i hnm
  obtain ⟨rfl,hun⟩:=askUn_spec e2
  refine (run_ok (rs:=c.rs) (fun d y=>conjE (eqRs c.rs y.1 (c.out d).1++eqBs c.ps y.2 (c.out d).2)) hf hb hs hmix an e1 hnm hun (fun hw=>allP_iff.1 vc dd hw (conjE_iff.2 hp)) hG m hd).mono ?_
  rintro e' w' ⟨v,y,rfl,hy,A',env',h1,h2,h3⟩
  obtain ⟨hy1,hy2⟩:=conj_append.1 (conjE_iff.1 hy)
  have:y=c.out dd:=Prod.ext (eqRs_eq hy1) (eqBs_eq hy2)
  subst this
  exact ⟨v,rfl,(),A',env',trivial,h1,h2,h3⟩
theorem Cn.ok (c:Cn) {f:FuncId} {fn:Func} {code:Code} (hf:P.funcs[f]? = some fn) (hb:fn.body=some code) (hs:SpecsOK P sp) (hmix:P.follows .mixedOrders=true) (an:PDs c.ps->Anns)
    (vc:allP c.ps fun d=>wfP c.ps d->conjE (c.pre d)->forceSt (startSt c.ps d fn.ntmps) (sx P sp (an d) code (retG P c.ps c.rs fn.results.toList (c.post d)))):SpecOK P sp.gl f c.spec:=by
  intro base svs h d r e hp w0 N0 A env w vs hG m hd
  unfold Cn.spec at e
  obtain ⟨⟨dd,fz,bx,cx⟩,q1,q2,e1,e2,rfl⟩:=Q.run_bind _ _ _ e
  split at e2
  case h_2=>cases e2
  rename_i hnm
  obtain ⟨rfl,hun⟩:=askUn_spec e2
  refine (run_ok (rs:=c.rs) c.post hf hb hs hmix an e1 hnm hun (fun hw=>allP_iff.1 vc dd hw (conjE_iff.2 hp)) hG m hd).mono ?_
  rintro e' w' ⟨v,y,rfl,hy,A',env',h1,h2,h3⟩
  refine ⟨v,rfl,y,A',env',hy,?_,h2,h3⟩
  show Mod w0 N0 A' env' (setAll ((retUF c.ps c.rs base fz bx cx).map fun p=>(p.1,p.2 y)) h) w'
  rw [retUF_eq];exact h1
def Ct.nspec (c:Ct):Spec:=fun base svs=>(matchArgs none c.ps svs).bind fun p=>match namesOk p.2.1 p.2.2.1 p.2.2.2 with
  | true=>askUn base (nOwn c.rs+nOwnB c.ps) (.nd (RDs c.rs×BDs c.ps) (outQn c.rs c.ps) (c.pre p.1) (fun y=>conjE (eqRs c.rs y.1 (c.out p.1).1++eqBs c.ps y.2 (c.out p.1).2)) (fun _=>⟨c.out p.1,conjE_iff.2 (conj_append.2 ⟨eqRs_refl,eqBs_refl⟩)⟩)
      (fun y=>resV (resSV (p.2.2.1.headD 0) c.rs y.1 base)) (retUF c.ps c.rs base p.2.1 p.2.2.1 p.2.2.2))
  | false => .fail
theorem askUn_run {h:Heap} {dl d:Dl}:∀ {k n:Nat} {r:List Nat},(askUn n k dl).run h=some (d,r)→∀ dl',(askUn n k dl').run h=some (dl',r)
  | 0,n,r,e,dl'=>by
    simp only [askUn,Q.run,Option.some.injEq,Prod.mk.injEq] at e ⊢
    exact ⟨trivial,e.2⟩
  | k+1,n,r,e,dl'=>by
    simp only [askUn,Q.run] at e ⊢
    split at e
    · rename_i p q hk
      simp only [Option.some.injEq,Prod.mk.injEq] at e
      obtain ⟨rfl,rfl⟩:=e
      split at hk
      · rename_i hun
        have:=askUn_run hk dl'
        rw [this]
      · cases hk
    · cases e
universe u v
theorem Q.bind_run1 {h:Heap} {α:Type u} {β:Type v} (q:Q α) (f:α->Q β) {a:α} {r1:List Nat} {b:β} {r2:List Nat} (h1:q.run h=some (a,r1)) (h2:(f a).run h=some (b,r2)):(q.bind f).run h=some (b,r1++r2):=by
  induction q generalizing r1 with
  | ret x=>simp only [Q.run,Option.some.injEq,Prod.mk.injEq] at h1;obtain ⟨rfl,rfl⟩:=h1;simpa [Q.bind] using h2
  | ask n k ih =>
    simp only [Q.run] at h1
    split at h1
    · rename_i x y hk
      simp only [Option.some.injEq,Prod.mk.injEq] at h1
      obtain ⟨rfl,rfl⟩:=h1
      simp only [Q.bind,Q.run,ih _ hk,List.cons_append]
    · cases h1
  | fail=>cases h1
theorem Ct.named {G:Globs} {c:Ct} {f:FuncId} (ok:SpecOK P G f c.spec):SpecOK P G f c.nspec:=by
  intro base svs h d r e hp w0 N0 A env w vs hG m hd
  unfold Ct.nspec at e
  obtain ⟨⟨dd,fz,bx,cx⟩,q1,q2,e1,e2,rfl⟩:=Q.run_bind _ _ _ e
  split at e2
  case h_2=>cases e2
  rename_i hnm
  obtain ⟨rfl,hun⟩:=askUn_spec e2
  have e3:=askUn_run e2 (.det (c.pre dd) (resV (resSV (bx.headD 0) c.rs (c.out dd).1 base)) (retU c.ps c.rs (c.out dd) base fz bx cx))
  have e4:(c.spec base svs).run h=some (.det (c.pre dd) (resV (resSV (bx.headD 0) c.rs (c.out dd).1 base)) (retU c.ps c.rs (c.out dd) base fz bx cx),q1++q2):=by
    unfold Ct.spec
    refine Q.bind_run1 _ _ e1 ?_
    simp only at hnm ⊢
    rw [hnm]
    exact e3
  refine (ok base svs h _ _ e4 hp w0 N0 A env w vs hG m hd).mono ?_
  rintro e' w' ⟨v,he,x,A',env',_,h1,h2,h3⟩
  refine ⟨v,he,c.out dd,A',env',conjE_iff.2 (conj_append.2 ⟨eqRs_refl,eqBs_refl⟩),?_,h2,h3⟩
  show Mod w0 N0 A' env' (setAll ((retUF c.ps c.rs base fz bx cx).map fun p=>(p.1,p.2 (c.out dd))) h) w'
  rw [retUF_eq];exact h1
end
end Go.SX

/- SX, part 23: from a law's arguments to data, and a law's contract to its row. -/
namespace Go.SX
open Go.ChangeShapes Go.WideShapes Go.ChangeAt Go.RowKit
set_option linter.unusedVariables false
universe u v
def fieldsFit (P:Program) (f:CT->TypeId->Bool):List Field->CT->Nat->Bool
  | [],_,_=>false
  | [fd],t,o=>f t fd.type&&Nat.beq fd.offset o&&Nat.beq (P.cellsOf fd.type) t.size
  | fd::g::r,.pair a b,o=>f a fd.type&&Nat.beq fd.offset o&&Nat.beq (P.cellsOf fd.type) a.size&&fieldsFit P f (g::r) b (o+a.size)
  | _,_,_=>false
def arrFit (P:Program) (f:CT->TypeId->Bool) (e:TypeId):Nat->CT->Bool
  | 0,_=>false
  | 1,t=>f t e&&Nat.beq (P.cellsOf e) t.size
  | n+2,.pair a b=>f a e&&Nat.beq (P.cellsOf e) a.size&&arrFit P f e (n+1) b
  | _,_=>false
def fitsT (P:Program):Nat->CT->TypeId->Bool
  | 0,_,_=>false
  | n+1,t,τ=>match P.underlying τ,t with
    | some (.int k),.int k'=>kEq k k'
    | some .bool,.bool=>true
    | some .string,.str=>true
    | some (.slice e),.sl u=>fitsT P n u e&&Nat.beq (P.cellsOf e) u.size
    | some (.struct fs),t=>fieldsFit P (fitsT P n) fs.toList t 0
    | some (.array k e),t=>arrFit P (fitsT P n) e k t
    | _,_=>false
section
variable {H:Type} {enc:TypeId×Value->H} {P:Program} {w:World} {base:Nat} {held:Bool}
theorem Rd_part {A:Nat->Prop} {t:CT} {cs:List Value} {o sz:Nat} {d:t.D} (hs:sz=t.size) (h:Rd A w t (fun j=>((cs.drop o).take sz)[j]?) 0 d):Rd A w t (fun j=>cs[j]?) o d:=by
  have:=Rd_shift h o
  rw [Nat.zero_add] at this
  refine Rd_mono (fun _ h=>h) (fun _ _ _=>rfl) t _ _ _ _ (fun j hj => ?_) this
  simp only [List.getElem?_take,Nat.add_sub_cancel_left]
  rw [if_pos (by omega),List.getElem?_drop]
theorem fieldsFit_rd {A:Nat->Prop} {f:CT->TypeId->Bool} {cs:List Value} {n:Nat}
    (hf:∀ t τ cs x,f t τ=true->DataW.trod enc P w base (fun _=>true) held n τ cs=some x→∃ d,Rd A w t (fun j=>cs[j]?) 0 d) :
    ∀ (fs:List Field) (t:CT) (o:Nat),fieldsFit P f fs t o=true->(∀ fd∈fs,∃ x,DataW.trod enc P w base (fun _=>true) held n fd.type ((cs.drop fd.offset).take (P.cellsOf fd.type))=some x)→∃ d,Rd A w t (fun j=>cs[j]?) o d
  | [],t,o,h,_=>by cases h
  | [fd],t,o,h,hx=>by
    simp only [fieldsFit,Bool.and_eq_true] at h
    obtain ⟨⟨h1,h2⟩,h3⟩:=h
    have h2:=Nat.eq_of_beq_eq_true h2
    have h3:=Nat.eq_of_beq_eq_true h3
    obtain ⟨x,hx⟩:=hx fd (by simp)
    obtain ⟨d,hd⟩:=hf t fd.type _ x h1 hx
    rw [h2] at hd
    exact ⟨d,Rd_part h3 hd⟩
  | fd::g::r,.pair a b,o,h,hx=>by
    simp only [fieldsFit,Bool.and_eq_true] at h
    obtain ⟨⟨⟨h1,h2⟩,h3⟩,h4⟩:=h
    have h2:=Nat.eq_of_beq_eq_true h2
    have h3:=Nat.eq_of_beq_eq_true h3
    obtain ⟨x,hx1⟩:=hx fd (by simp)
    obtain ⟨d,hd⟩:=hf a fd.type _ x h1 hx1
    rw [h2] at hd
    obtain ⟨d',hd'⟩:=fieldsFit_rd hf (g::r) b (o+a.size) h4 (fun fd' hm=>hx fd' (List.mem_cons_of_mem _ hm))
    exact ⟨(d,d'),Rd_part h3 hd,hd'⟩
  | _::_::_,.int _,_,h,_=>by cases h
  | _::_::_,.bool,_,h,_=>by cases h
  | _::_::_,.str,_,h,_=>by cases h
  | _::_::_,.sl _,_,h,_=>by cases h
theorem arrFit_rd {A:Nat->Prop} {f:CT->TypeId->Bool} {cs:List Value} {n:Nat} {e:TypeId}
    (hf:∀ t τ cs x,f t τ=true->DataW.trod enc P w base (fun _=>true) held n τ cs=some x→∃ d,Rd A w t (fun j=>cs[j]?) 0 d) :
    ∀ (k:Nat) (t:CT) (i:Nat),arrFit P f e k t=true->(∀ j,i<=j->j<i+k→∃ x,DataW.trod enc P w base (fun _=>true) held n e ((cs.drop (j*P.cellsOf e)).take (P.cellsOf e))=some x)→∃ d,Rd A w t (fun j=>cs[j]?) (i*P.cellsOf e) d
  | 0,t,i,h,_=>by cases h
  | 1,t,i,h,hx=>by
    simp only [arrFit,Bool.and_eq_true] at h
    obtain ⟨h1,h2⟩:=h
    have h2:=Nat.eq_of_beq_eq_true h2
    obtain ⟨x,hx⟩:=hx i (by omega) (by omega)
    obtain ⟨d,hd⟩:=hf t e _ x h1 hx
    exact ⟨d,Rd_part h2 hd⟩
  | k+2,.pair a b,i,h,hx=>by
    simp only [arrFit,Bool.and_eq_true] at h
    obtain ⟨⟨h1,h2⟩,h4⟩:=h
    have h2:=Nat.eq_of_beq_eq_true h2
    obtain ⟨x,hx1⟩:=hx i (by omega) (by omega)
    obtain ⟨d,hd⟩:=hf a e _ x h1 hx1
    obtain ⟨d',hd'⟩:=arrFit_rd hf (k+1) b (i+1) h4 (fun j h1 h2=>hx j (by omega) (by omega))
    refine ⟨(d,d'),Rd_part h2 hd,?_⟩
    rw [Nat.add_mul,Nat.one_mul] at hd'
    rw [← h2];exact hd'
  | _+2,.int _,_,h,_=>by cases h
  | _+2,.bool,_,h,_=>by cases h
  | _+2,.str,_,h,_=>by cases h
  | _+2,.sl _,_,h,_=>by cases h
theorem list_of {α:Type} (n:Nat) (p:Nat->α->Prop) (h:∀ i,i<n→∃ a,p i a):∃ l:List α,l.length=n∧∀ i (hi:i<l.length),p i l[i]:=by
  induction n with
  | zero=>exact ⟨[],rfl,fun i hi=>by simp at hi⟩
  | succ n ih =>
    obtain ⟨l,hl,hp⟩:=ih fun i hi=>h i (by omega)
    obtain ⟨a,ha⟩:=h n (by omega)
    refine ⟨l++[a],by simp [hl],fun i hi => ?_⟩
    by_cases hlt:i<l.length
    · rw [List.getElem_append_left hlt];exact hp i hlt
    · have:i=l.length:=by simp at hi;omega
      subst this
      simp only [List.getElem_concat_length]
      rw [hl];exact ha
theorem addr_add (b off n:Nat):(⟨b,off,none⟩:Addr).add n=⟨b,off+n,none⟩:=by
  unfold Addr.add
  split
  · rename_i h;subst h;rfl
  · rfl
theorem lit_has {k:IntKind} {n:Int} (h:(Lit.int k n).wf=true):k.has n:=by
  simp only [Lit.wf,Bool.and_eq_true,decide_eq_true_eq] at h;exact h
theorem trod_rd:∀ (n:Nat) (t:CT) (τ:TypeId) (fuel:Nat) (cs:List Value) (x:DataW H×List MemPlace),fitsT P n t τ=true->DataW.trod enc P w base (fun _=>true) held fuel τ cs=some x →
    ∃ d,Rd (fun b=>b<w.heap.size) w t (fun j=>cs[j]?) 0 d
  | 0,t,τ,fuel,cs,x,h,_=>by cases h
  | n+1,t,τ,fuel,cs,x,h,hx=>by
    unfold fitsT at h
    split at h
    · rename_i k k' hu
      cases kEq_eq h
      obtain ⟨m,rfl,_,hw⟩:=DataW.trod_int hu hx
      exact ⟨m,by simp,lit_has hw⟩
    · rename_i hu
      obtain ⟨b,rfl,_⟩:=DataW.trod_bool hu hx
      exact ⟨b,by simp [Rd]⟩
    · rename_i hu
      obtain ⟨s,rfl,_,hs⟩:=DataW.trod_string hu hx
      exact ⟨s,by simp,hs⟩
    · rename_i e u hu
      simp only [Bool.and_eq_true] at h
      obtain ⟨h1,h2⟩:=h
      have h2:=Nat.eq_of_beq_eq_true h2
      rcases DataW.trod_slice hu hx with ⟨rfl,_⟩|⟨a,len,cap,elems,rest,m,_,rfl,_,_,hl,hm,hlen,hel,hsp,_⟩
      · exact ⟨[],Rd_sl.2 ⟨_,rfl,by simp,.inl ⟨⟨_,rfl⟩,rfl⟩⟩⟩
      · have hcap:=(hsp rfl)
        by_cases h0:cap=0
        · have:len=0:=by omega
          subst this h0
          exact ⟨[],Rd_sl.2 ⟨_,rfl,by simp,.inl ⟨⟨_,rfl⟩,rfl⟩⟩⟩
        · -- the cells that are there
          have first:∃ v,w.cell? a=some v:=by
            have hb:∃ cs',w.cells? base (a.add 0) (P.cellsOf e)=some cs':=by
              by_cases hl0:0<len
              · have:=hel 0 hl0
                rw [Nat.zero_mul] at this
                have hs:∃ y,elems[0]? = some y:=⟨_,List.getElem?_eq_getElem (by omega)⟩
                obtain ⟨y,hy⟩:=hs
                rw [hy,Option.bind_eq_some_iff] at this
                obtain ⟨cs',hcs,_⟩:=this
                exact ⟨cs',hcs⟩
              · have:=hcap.2 0 (by omega)
                have hz:(len+0)*P.cellsOf e=0:=by
                  have:len=0:=by omega
                  subst this;simp
                rw [hz] at this
                have hs:∃ y,rest[0]? = some y:=⟨_,List.getElem?_eq_getElem (by omega)⟩
                obtain ⟨y,hy⟩:=hs
                rw [hy,Option.bind_eq_some_iff] at this
                obtain ⟨cs',hcs,_⟩:=this
                exact ⟨cs',hcs⟩
            obtain ⟨cs',hcs⟩:=hb
            obtain ⟨_,hl1,hl2⟩:=World.cells?_some hcs
            have hp:=u.size_pos
            have:=hl2 0 (by omega)
            refine ⟨cs'[0]'(by omega),?_⟩
            rw [List.getElem?_eq_getElem (by omega)] at this
            simpa [Addr.add] using this
          obtain ⟨v0,hv0⟩:=first
          have hspot:=World.cell?_spot hv0
          obtain ⟨b,off,spot⟩:=a
          simp only at hspot
          subst hspot
          have hlt:b<w.heap.size:=by
            unfold World.cell? at hv0
            simp only at hv0
            split at hv0
            · rename_i c E sp hb
              exact (Array.getElem?_eq_some_iff.1 hb).1
            · cases hv0
          obtain ⟨xs,hxl,hxp⟩:=list_of len (fun i d=>Rd (fun b=>b<w.heap.size) w u (fun o=>w.cell? ⟨b,o,none⟩) (off+i*u.size) d) fun i hi=>by
            have:=hel i hi
            rw [List.getElem?_eq_getElem (by omega),Option.bind_eq_some_iff] at this
            obtain ⟨cs',hcs,ht⟩:=this
            obtain ⟨_,hl1,hl2⟩:=World.cells?_some hcs
            obtain ⟨d,hd⟩:=trod_rd n u e _ cs' _ h1 ht
            refine ⟨d,?_⟩
            have:=Rd_shift hd (off+i*u.size)
            rw [Nat.zero_add] at this
            refine Rd_mono (fun _ h=>h) (fun _ _ _=>rfl) u _ _ _ _ (fun j hj => ?_) this
            have:=hl2 j (by omega)
            rw [addr_add,addr_add,h2] at this
            rw [Nat.add_sub_cancel_left,← this]
          subst hxl
          exact ⟨xs,Rd_sl.2 ⟨_,rfl,by omega,.inr ⟨b,off,cap,rfl,hl,hm,hlt,fun i hi=>hxp i hi⟩⟩⟩
    · rename_i t' fs hu
      obtain ⟨xs,m,_,_,hl,hlen,hf⟩:=DataW.trod_struct hu hx
      refine fieldsFit_rd (n:=m) (fun t τ cs x h1 h2=>trod_rd n t τ m cs x h1 h2) fs.toList _ 0 h fun fd hm => ?_
      obtain ⟨i,hi,rfl⟩:=List.mem_iff_getElem.1 hm
      have:=hf i fs[i] (Array.getElem?_eq_getElem (by simpa using hi))
      have hi':i<fs.size:=by simpa using hi
      rw [List.getElem?_eq_getElem (by omega)] at this
      exact ⟨_,by simpa using this⟩
    · rename_i t' k e hu
      obtain ⟨xs,m,_,_,hl,hlen,hf⟩:=DataW.trod_array hu hx
      have:=arrFit_rd (n:=m) (cs:=cs) (e:=e) (fun t τ cs x h1 h2=>trod_rd n t τ m cs x h1 h2) k _ 0 h fun j _ hj=>by
        have:=hf j (by omega)
        rw [List.getElem?_eq_getElem (by omega)] at this
        exact ⟨_,this⟩
      simpa using this
    · cases h
abbrev LPs:=List (Bool×CT)
def lawPs:LPs->List PK
  | []=>[]
  | (true,t)::r => .agg t::lawPs r
  | (false,t)::r => .val t::lawPs r
def lawB:(l:LPs)->BDs (lawPs l)
  | []=>()
  | (true,_)::r=>lawB r
  | (false,_)::r=>lawB r
def lawCt (l:LPs):Ct:=⟨lawPs l,[.val .bool],fun _=>[],fun _=>((true,()),lawB l)⟩
def isAggT (P:Program) (τ:TypeId):Bool:=match P.underlying τ with
  | some (.struct _)=>true
  | some (.array _ _)=>true
  | _=>false
def flatOne:CT->Bool
  | .pair _ _=>false
  | _=>true
def lawFits (P:Program):LPs->List TypeId->Bool
  | [],[]=>true
  | (b,t)::r,τ::τs=>(match b,isAggT P τ with|true,true=>true|false,false=>flatOne t|_,_=>false)&&fitsT P 12 t τ&&Nat.beq (P.cellsOf τ) t.size&&lawFits P r τs
  | _,_=>false
theorem okWide_agg {r:Reach} {b0:Nat} {τ:TypeId} {v:Value} (h:isAggT P τ=true) (hv:Value.okWide P w r b0 τ v):∃ vs,v = .agg vs/\vs.size=P.cellsOf τ:=by
  unfold isAggT at h
  unfold Value.okWide at hv
  split at h
  · rename_i fs hu;rw [hu] at hv;obtain ⟨cs,h1,h2,_⟩:=hv;exact ⟨cs,h1,h2⟩
  · rename_i fs hu;rw [hu] at hv;obtain ⟨cs,h1,h2,_⟩:=hv;exact ⟨cs,h1,h2⟩
  · cases h
theorem okWide_bool1 {r:Reach} {b0:Nat} {τ:TypeId} {v:Value} (ht:P.underlying τ=some .bool) (h:Value.okWide P w r b0 τ v):∃ b,v = .bool b:=by
  simp only [Value.okWide,ht,Cell.okWide] at h
  cases v <;> simp_all [Cell.ok]
theorem okWide_one {r:Reach} {b0:Nat} {n:Nat} {t:CT} {τ:TypeId} {v:Value} (hf:flatOne t=true) (hq:isAggT P τ=false) (h:fitsT P n t τ=true) (hv:Value.okWide P w r b0 τ v):v.cells = #[v]:=by
  cases n with
  | zero=>cases h
  | succ n =>
    unfold fitsT at h
    split at h
    · rename_i k k' hu;obtain ⟨m,rfl⟩:=okWide_int hu hv;rfl
    · rename_i hu;obtain ⟨m,rfl⟩:=okWide_bool1 hu hv;rfl
    · rename_i hu;obtain ⟨m,rfl⟩:=okWide_string hu hv;rfl
    · rename_i e u hu;obtain ⟨a,l,c,rfl⟩:=okWide_slice hu hv;rfl
    · rename_i t' fs hu;unfold isAggT at hq;rw [hu] at hq;cases hq
    · rename_i t' k e hu;unfold isAggT at hq;rw [hu] at hq;cases hq
    · cases h
theorem kEq_refl (k:IntKind):kEq k k=true:=by cases k <;> rfl
theorem castL_refl {t:CT} {xs:List t.D}:castL t t xs=some xs:=by unfold castL;rw [dif_pos rfl]
theorem projC_flat {h:Heap}:∀ (t:CT) (d:t.D) (rest:List SV),(projC t (flat t d++rest)).run h=some ((d,rest,[]),[])
  | .int k,d,rest=>by simp only [flat,List.cons_append,List.nil_append,projC,kEq_refl];rfl
  | .bool,d,rest=>rfl
  | .str,d,rest=>rfl
  | .sl t,d,rest=>by simp only [flat,List.cons_append,List.nil_append,projC,castL_refl];rfl
  | .pair a b,d,rest=>by
    have bindrun:∀ {α β:Type} (q:Q α) (f:α->Q β) (x:α) (y:β),q.run h=some (x,[])->(f x).run h=some (y,[])->(q.bind f).run h=some (y,[]):=by
      intro α β q
      induction q with
      | ret a=>intro f x y h1 h2;simp only [Q.run,Option.some.injEq,Prod.mk.injEq] at h1;rw [← h1.1] at h2;exact h2
      | ask n k ih =>
        intro f x y h1 h2
        simp only [Q.run] at h1
        split at h1
        · simp only [Option.some.injEq,Prod.mk.injEq] at h1
          exact absurd h1.2 (by simp)
        · cases h1
      | fail=>intro f x y h1 h2;cases h1
    simp only [flat,List.append_assoc,projC]
    refine bindrun _ _ _ _ (projC_flat a d.1 (flat b d.2++rest)) ?_
    exact bindrun _ _ _ _ (projC_flat b d.2 rest) rfl
theorem Q.bind_run0 {h:Heap} {α:Type u} {β:Type v} (q:Q α) (f:α->Q β) (x:α) (y:β) (h1:q.run h=some (x,[])) (h2:(f x).run h=some (y,[])):(q.bind f).run h=some (y,[]):=by
  cases q with
  | ret a=>simp only [Q.run,Option.some.injEq,Prod.mk.injEq] at h1;rw [← h1.1] at h2;exact h2
  | ask n k =>
    simp only [Q.run] at h1
    split at h1
    · simp only [Option.some.injEq,Prod.mk.injEq] at h1
      exact absurd h1.2 (by simp)
    · cases h1
  | fail=>cases h1
theorem val1_flat {t:CT} (hf:flatOne t=true) (d:t.D):flat t d=[val1 t d]:=by
  cases t <;> first|rfl|cases hf
def lpsOk:LPs->Bool
  | []=>true
  | (b,t)::r=>(b||flatOne t)&&lpsOk r
theorem match_law {h:Heap}:∀ (l:LPs) (d:PDs (lawPs l)),lpsOk l=true->(matchArgs none (lawPs l) (argsOf (lawPs l) d 0 0)).run h=some ((d,[],[],[]),[])
  | [],d,_=>rfl
  | (true,t)::r,d,hok=>by
    simp only [lpsOk,Bool.and_eq_true] at hok
    simp only [lawPs,argsOf,matchArgs]
    refine Q.bind_run0 _ _ _ _ (by have:=projC_flat (h:=h) t d.1 [];rw [List.append_nil] at this;exact this) ?_
    exact Q.bind_run0 _ _ _ _ (match_law r d.2 hok.2) rfl
  | (false,t)::r,d,hok=>by
    simp only [lpsOk,Bool.and_eq_true,Bool.false_or] at hok
    simp only [lawPs,argsOf,matchArgs]
    refine Q.bind_run0 _ _ _ _ (by have:=projC_flat (h:=h) t d.1 [];rw [List.append_nil,val1_flat hok.1] at this;exact this) ?_
    exact Q.bind_run0 _ _ _ _ (match_law r d.2 hok.2) rfl
theorem law_args {r:Reach} {b0:Nat}:∀ (l:LPs) (τs:List TypeId) (vs:List Value) (ds:List (DataW H)) (ps:List MemPlace),lawFits P l τs=true->DataW.TrodAll enc P w base (fun _=>true) held τs vs ds ps →
    (∀ (j:Nat) t v,τs[j]? = some t->vs[j]? = some v->Value.okWide P w r b0 t v)->lpsOk l=true∧∃ d:PDs (lawPs l),DenL (fun b=>b<w.heap.size) (fun _ => .un) w (argsOf (lawPs l) d 0 0) vs
  | [],[],vs,ds,ps,h,ht,hv=>by
    obtain ⟨rfl,_,_⟩:=trodAll_nil ht
    exact ⟨rfl,(),by simp [lawPs,argsOf,DenL]⟩
  | (b,t)::l,τ::τs,vs,ds,ps,h,ht,hv=>by
    obtain ⟨v,vs',d,ds',p,q,rfl,rfl,rfl,h0,hr⟩:=trodAll_cons ht
    simp only [lawFits,Bool.and_eq_true] at h
    obtain ⟨⟨⟨h1,h2⟩,h3⟩,h4⟩:=h
    have h3:=Nat.eq_of_beq_eq_true h3
    obtain ⟨g1,d2,g2⟩:=law_args l τs vs' ds' q h4 hr (fun j t v ht hv'=>hv (j+1) t v (by simpa using ht) (by simpa using hv'))
    have hv0:=hv 0 τ v rfl rfl
    obtain ⟨fuel,hf⟩:=h0
    obtain ⟨d1,hd1⟩:=trod_rd 12 t τ fuel _ _ h2 hf
    cases b with
    | true =>
      have hag:isAggT P τ=true:=by
        cases hq:isAggT P τ with
        | true=>rfl
        | false=>rw [hq] at h1;cases h1
      obtain ⟨us,rfl,hus⟩:=okWide_agg hag hv0
      refine ⟨by simp [lpsOk,g1],(d1,d2),?_⟩
      simp only [lawPs,argsOf,DenL,Den]
      refine ⟨_,vs',rfl,⟨us,rfl,den_flatL (by simpa using hus.trans h3) (by simpa [Value.cells] using hd1)⟩,g2⟩
    | false =>
      have hq:isAggT P τ=false:=by
        cases hq:isAggT P τ with
        | true=>rw [hq] at h1;cases h1
        | false=>rfl
      rw [hq] at h1
      simp only at h1
      refine ⟨by simp [lpsOk,g1,h1],(d1,d2),?_⟩
      simp only [lawPs,argsOf,DenL]
      have hc:=okWide_one h1 hq h2 hv0
      rw [hc] at hd1
      exact ⟨v,vs',rfl,den_flat1 (rest:=[]) (by simpa using hd1),g2⟩
  | [],_::_,_,_,_,h,_,_=>by cases h
  | _::_,[],_,_,_,h,_,_=>by cases h
def GlobsOK (w:World) (G:Globs):Prop:=∀ g x,G g=some x->g<w.heap.size/\Rd (fun b=>b<w.heap.size) w x.1 (fun o=>w.cell? ⟨g,o,none⟩) 0 x.2
theorem law_walkG {G:Globs} (hG:GlobsOK w G) {f:FuncId} {l:LPs} (ok:SpecOK P G f (lawCt l).spec) {r:Reach} {b0:Nat} {τs:List TypeId} {args:Array Value} {ds:List (DataW H)} {ps:List MemPlace} (hl:lawFits P l τs=true)
    (ht:DataW.TrodAll enc P w base (fun _=>true) held τs args.toList ds ps) (hv:∀ (j:Nat) t v,τs.toArray[j]? = some t->args[j]? = some v->Value.okWide P w r b0 t v) :
    Calls P f args w fun e w'=>e = .returned (.bool true)/\Below w.heap.size w w':=by
  obtain ⟨hok,d,hd⟩:=law_args l τs args.toList ds ps hl ht (fun j t v h1 h2=>hv j t v (by simpa using h1) (by simpa using h2))
  have hkeep:keepF (lawPs l) [.val .bool]=false:=by
    have:∀ l:LPs,psPlain (lawPs l)=true:=by
      intro l
      induction l with
      | nil=>rfl
      | cons x l ih=>obtain ⟨b,t⟩:=x;cases b <;> exact ih
    simp only [keepF,this,rsPlain,CT.plain,Bool.and_self,Bool.not_true]
  have hbU:∀ nb,boxU 0 (lawPs l) (lawB l) [] nb=[]:=by
    intro nb
    induction l with
    | nil=>rfl
    | cons x l ih =>
      obtain ⟨b,t⟩:=x
      have:∀ l:LPs,boxU 0 (lawPs l) (lawB l) [] nb=[]:=by
        intro l
        induction l with
        | nil=>rfl
        | cons x l ih=>obtain ⟨b,t⟩:=x;cases b <;> exact ih
      cases b <;> exact this l
  have hnU:∀ (l:LPs) nb,newU (lawPs l) (lawB l) nb=[]:=by
    intro l nb
    induction l with
    | nil=>rfl
    | cons x l ih=>obtain ⟨b,t⟩:=x;cases b <;> exact ih
  have hnB:∀ (l:LPs),nOwnB (lawPs l)=0:=by
    intro l
    induction l with
    | nil=>rfl
    | cons x l ih=>obtain ⟨b,t⟩:=x;cases b <;> exact ih
  have hrun:((lawCt l).spec 0 (argsOf (lawPs l) d 0 0)).run (fun _ => .un)=some (Dl.det [] (.bool true) [],[]):=by
    unfold Ct.spec
    refine Q.bind_run0 _ _ _ _ (match_law l d hok) ?_
    simp only [namesOk,somes,List.append_nil,nodupN,disjN,lawCt,retU,hkeep,hbU,hnU,hnB,deadU,resH,resSV,resV,val1,flat,nOwn,askUn,List.headD_nil]
    rfl
  have m:Mod w ⟨fun _=>False,fun b=>b<w.heap.size,G⟩ (fun b=>b<w.heap.size) (fun _ => .un) (fun _ => .un) w :=
    ⟨rfl,rfl,rfl,Nat.le_refl _,fun _ _ _=>rfl,fun _ h=>h,fun _=>rfl,fun _ _ _ _ h=>(by cases h),fun _ _ _ _ _ _ _ h=>(by cases h),fun b hb => .inl hb,hG⟩
  have:=ok 0 (argsOf (lawPs l) d 0 0) (fun _ => .un) _ _ hrun trivial w _ _ _ w args.toList rfl m hd
  refine Calls.mono this ?_
  rintro e w' ⟨v,rfl,x,A',env',_,hm,_,hden⟩
  simp only [Dl.val,Den] at hden
  exact ⟨by rw [hden],hm.os,hm.tape,hm.output,hm.size,fun k hk=>hm.fr k hk (fun h=>h)⟩
theorem law_walk {f:FuncId} {l:LPs} (ok:SpecOK P (fun _=>none) f (lawCt l).spec) {r:Reach} {b0:Nat} {τs:List TypeId} {args:Array Value} {ds:List (DataW H)} {ps:List MemPlace} (hl:lawFits P l τs=true)
    (ht:DataW.TrodAll enc P w base (fun _=>true) held τs args.toList ds ps) (hv:∀ (j:Nat) t v,τs.toArray[j]? = some t->args[j]? = some v->Value.okWide P w r b0 t v) :
    Calls P f args w fun e w'=>e = .returned (.bool true)/\Below w.heap.size w w':=law_walkG (fun g x h=>by cases h) ok hl ht hv
def tysOk (P:Program):List TypeId->Bool
  | []=>true
  | t::r=>P.readableRec t&&decide (t<P.types.size)&&tysOk P r
theorem trodAll_below (hl:laidOutB P=true):∀ {τs:List TypeId} {vs:List Value} {ds:List (DataW H)} {ps:List MemPlace} {w':World},tysOk P τs=true →
    DataW.TrodAll enc P w 0 (fun _=>true) true τs vs ds ps->Below w.heap.size w w'→DataW.TrodAll enc P w' 0 (fun b=>decide (b<w.heap.size)) true τs vs ds ps
  | [],vs,ds,ps,w',_,h,hb=>by
    obtain ⟨rfl,rfl,rfl⟩:=trodAll_nil h
    exact trodAll_mk0
  | τ::τs,vs,ds,ps,w',hr,h,hb=>by
    obtain ⟨v,vs',d,ds',p,q,rfl,rfl,rfl,h0,hr'⟩:=trodAll_cons h
    simp only [tysOk,Bool.and_eq_true,decide_eq_true_eq] at hr
    have lt:∀ x∈p,x.block<w.heap.size:=by
      obtain ⟨m,hm⟩:=h0
      exact DataW.trod_lt m _ _ _ hm
    exact trodAll_cons_mk (Below.trod hl hr.1.1 hr.1.2 h0 hb lt) (trodAll_below hl hr.2 hr' hb)
end
end Go.SX

/- SX, part 24: what is to be shown of a function, under one name. -/
namespace Go.SX
set_option linter.unusedVariables false
def bodyOf (fn:Func):Code:=match fn.body with
  | some c=>c
  | none => .skip
def Ct.vc (P:Program) (sp:Specs) (c:Ct) (fn:Func) (an:PDs c.ps->Anns):Prop :=
  allP c.ps fun d=>wfP c.ps d->conjE (c.pre d)->forceSt (startSt c.ps d fn.ntmps) (sx P sp (an d) (bodyOf fn) (retG P c.ps c.rs fn.results.toList fun y=>conjE (eqRs c.rs y.1 (c.out d).1++eqBs c.ps y.2 (c.out d).2)))
structure Hide (p:Prop):Prop where
  out:p
theorem hideMp {p q:Prop} (h:p=q) (v:q):Hide p:=⟨Eq.mpr h v⟩
theorem Ct.okH {P:Program} {sp:Specs} (c:Ct) {f:FuncId} {fn:Func} (hf:P.funcs[f]? = some fn) (hb:fn.body=some (bodyOf fn)) (hs:SpecsOK P sp) (hmix:P.follows .mixedOrders=true) (an:PDs c.ps->Anns)
    (vc:Hide (Ct.vc P sp c fn an)):SpecOK P sp.gl f c.spec:=c.ok hf hb hs hmix an vc.out
def Cn.vc (P:Program) (sp:Specs) (c:Cn) (fn:Func) (an:PDs c.ps->Anns):Prop :=
  allP c.ps fun d=>wfP c.ps d->conjE (c.pre d)->forceSt (startSt c.ps d fn.ntmps) (sx P sp (an d) (bodyOf fn) (retG P c.ps c.rs fn.results.toList (c.post d)))
theorem Cn.okH {P:Program} {sp:Specs} (c:Cn) {f:FuncId} {fn:Func} (hf:P.funcs[f]? = some fn) (hb:fn.body=some (bodyOf fn)) (hs:SpecsOK P sp) (hmix:P.follows .mixedOrders=true) (an:PDs c.ps->Anns)
    (vc:Hide (Cn.vc P sp c fn an)):SpecOK P sp.gl f c.spec:=c.ok hf hb hs hmix an vc.out
def noSpecs (G:Globs):Specs:=⟨fun _=>none,G⟩
theorem noSpecs_ok {P:Program} {G:Globs}:SpecsOK P (noSpecs G):=fun f s h=>by cases h
def withSpec (sp:Specs) (f:FuncId) (s:Spec):Specs:=⟨fun g=>match Nat.beq g f with
  | true=>some s
  | false=>sp.fn g,sp.gl⟩
theorem withSpec_ok {P:Program} {sp:Specs} {f:FuncId} {s:Spec} (h:SpecsOK P sp) (hs:SpecOK P sp.gl f s):SpecsOK P (withSpec sp f s):=fun g t e=>by
  unfold withSpec at e
  simp only at e
  split at e
  · rename_i hb;cases e;rw [Nat.eq_of_beq_eq_true hb];exact hs
  · exact h g t e
def withOwn (sp:Specs) (d:Nat):Specs:=withSpec sp (4000000000+d) fun _ _ => .fail
theorem withOwn_ok {P:Program} {sp:Specs} {d:Nat} (h:SpecsOK P sp):SpecsOK P (withOwn sp d):=withSpec_ok h fun _ _ _ _ _ e=>by cases e
def withConc (sp:Specs) (d:Nat):Specs:=withSpec sp (4100000000+d) fun _ _ => .fail
theorem withConc_ok {P:Program} {sp:Specs} {d:Nat} (h:SpecsOK P sp):SpecsOK P (withConc sp d):=withSpec_ok h fun _ _ _ _ _ e=>by cases e
def withOpens (sp:Specs):Specs:=withSpec sp 4200000000 fun _ _ => .fail
theorem withOpens_ok {P:Program} {sp:Specs} (h:SpecsOK P sp):SpecsOK P (withOpens sp):=withSpec_ok h fun _ _ _ _ _ e=>by cases e
def withClose (sp:Specs) (d:Nat):Specs:=withSpec sp (4300000000+d) fun _ _ => .fail
theorem withClose_ok {P:Program} {sp:Specs} {d:Nat} (h:SpecsOK P sp):SpecsOK P (withClose sp d):=withSpec_ok h fun _ _ _ _ _ e=>by cases e
def withCloseAt (sp:Specs) (d n:Nat):Specs:=withSpec sp (4400000000+d) fun _ _ => .ask n fun _ => .fail
theorem withCloseAt_ok {P:Program} {sp:Specs} {d n:Nat} (h:SpecsOK P sp):SpecsOK P (withCloseAt sp d n):=withSpec_ok h fun _ _ _ _ _ e=>by simp [Q.run] at e
theorem ifP_iff {b:Bool} {y n:Prop}:ifP b y n↔(b=true->y)/\(b=false->n):=by cases b <;> simp [ifP]
end Go.SX

/- SX, plain lemmas for what is to be shown of functions. -/
namespace Go.SX
set_option linter.unusedVariables false
theorem w64 {n:Int} (h : -9223372036854775808<=n) (h':n<=9223372036854775807):IntKind.i64.wrap n=n:=IntWalk.i64_in n ⟨h,h'⟩
theorem wu32 {n:Int} (h:0<=n) (h':n<=4294967295):IntKind.u32.wrap n=n:=IntWalk.u32_in n ⟨h,h'⟩
theorem ifP_t {y n:Prop}:ifP true y n↔y:=Iff.rfl
theorem ifP_f {y n:Prop}:ifP false y n↔n:=Iff.rfl
theorem getD_mem {α:Type} [Inhabited α] {xs:List α} {i:Int} (h0:0<=i) (h1:i<xs.length):xs.getD i.toNat default∈xs:=by
  have h:i.toNat<xs.length:=by omega
  rw [List.getD_eq_getElem?_getD,List.getElem?_eq_getElem h];exact List.getElem_mem h
theorem tmod_lo {a b:Int} (ha:0<=a):0<=a.tmod b:=Int.tmod_nonneg b ha
theorem tmod_hi {a b:Int} (ha:0<=a) (hb:0<b):a.tmod b<b:=Int.tmod_lt_of_pos a hb
theorem ifP_split {b:Bool} {y n:Prop} (hy:b=true->y) (hn:b=false->n):ifP b y n:=ifP_iff.2 ⟨hy,hn⟩
theorem ri64 (n:Int) : -9223372036854775808<=IntKind.i64.wrap n/\IntKind.i64.wrap n<=9223372036854775807:=IntKind.wrap_has .i64 n
theorem ru32 (n:Int):0<=IntKind.u32.wrap n/\IntKind.u32.wrap n<=4294967295:=IntKind.wrap_has .u32 n
theorem getD_all {α:Type} [Inhabited α] {p:α->Prop} {xs:List α} (h:∀ x∈xs,p x) {i:Int} (h0:0<=i) (h1:i<xs.length):p (xs.getD i.toNat default):=h _ (getD_mem h0 h1)
theorem nd_t {p:Prop} [Decidable p] (h:(!decide p)=true):¬ p:=of_decide_eq_false (by simpa only [Bool.not_eq_true'] using h)
theorem nd_f {p:Prop} [Decidable p] (h:(!decide p)=false):p:=of_decide_eq_true (by simpa only [Bool.not_eq_false'] using h)
theorem ifP_or {a b:Bool} {y n:Prop} (hy:a=true∨b=true->y) (hn:a=false->b=false->n):ifP (bif a then true else b) y n:=by
  cases a with
  | true=>exact hy (.inl rfl)
  | false=>cases b with
    | true=>exact hy (.inr rfl)
    | false=>exact hn rfl rfl
theorem ifP_and {a b:Bool} {y n:Prop} (hy:a=true->b=true->y) (hn:a=false∨b=false->n):ifP (bif a then b else false) y n:=by
  cases a with
  | false=>exact hn (.inl rfl)
  | true=>cases b with
    | true=>exact hy rfl rfl
    | false=>exact hn (.inr rfl)
theorem getD_set {α:Type} [Inhabited α] {l:List α} {i:Nat} {a:α} (h:i<l.length):(l.set i a).getD i default=a:=by
  rw [List.getD_eq_getElem?_getD,List.getElem?_set_self h];rfl
theorem findI_at {α:Type} [Inhabited α] {q:α->Bool} {l:List α} {j:Int} (h0:0<=j) (h1:j<l.length) (h2:∀ x∈l.take j.toNat,q x=false) (h3:q (l.getD j.toNat default)=true) :
    j=if l.findIdx q<l.length then (l.findIdx q:Int) else -1:=by
  have hj:j.toNat<l.length:=by omega
  rw [List.getD_eq_getElem?_getD,List.getElem?_eq_getElem hj,Option.getD_some] at h3
  have e:l.findIdx q=j.toNat:=(List.findIdx_eq hj).2 ⟨h3,fun k hk=>h2 _ (List.mem_take_iff_getElem.2 ⟨k,by omega,rfl⟩)⟩
  rw [e,if_pos hj];omega
theorem findI_none {α:Type} [Inhabited α] {q:α->Bool} {l:List α} {j:Int} (h1:¬ j<l.length) (h2:∀ x∈l.take j.toNat,q x=false) :
    (-1:Int)=if l.findIdx q<l.length then (l.findIdx q:Int) else -1:=by
  rw [List.take_of_length_le (by omega)] at h2
  rw [List.findIdx_eq_length_of_false h2,if_neg (Nat.lt_irrefl _)]
theorem all_next {α:Type} [Inhabited α] {P:α->Prop} {l:List α} {j:Int} (h0:0<=j) (h1:j<l.length) (h2:∀ x∈l.take j.toNat,P x) (h3:P (l.getD j.toNat default)) :
    ∀ x∈l.take (j+1).toNat,P x:=by
  intro x hx
  have hj:j.toNat<l.length:=by omega
  rw [show (j+1).toNat=j.toNat+1 by omega,List.take_add_one,List.getElem?_eq_getElem hj] at hx
  rw [List.getD_eq_getElem?_getD,List.getElem?_eq_getElem hj,Option.getD_some] at h3
  rcases List.mem_append.1 hx with hx|hx
  · exact h2 x hx
  · simp at hx;rw [hx];exact h3
theorem take_next {α:Type} [Inhabited α] {l:List α} {k:Int} (h0:0<=k) (h1:k<l.length):l.take (k+1).toNat=l.take k.toNat++[l.getD k.toNat default]:=by
  have e:(k+1).toNat=k.toNat+1:=by omega
  have hk:k.toNat<l.length:=by omega
  rw [e,List.take_add_one,List.getElem?_eq_getElem hk,List.getD_eq_getElem?_getD,List.getElem?_eq_getElem hk]
  rfl
theorem bor_d {a b:Prop} [Decidable a] [Decidable b]:(bif decide a then true else decide b)=decide (a∨b):=by by_cases h:a <;> simp [h]
theorem band_d {a b:Prop} [Decidable a] [Decidable b]:(bif decide a then decide b else false)=decide (a/\b):=by by_cases h:a <;> simp [h]
theorem band_nn {a b:Prop} [Decidable a] [Decidable b]:(bif !decide a then !decide b else false)=decide (¬ a∧¬ b):=by by_cases h:a <;> simp [h]
theorem band_dn {a b:Prop} [Decidable a] [Decidable b]:(bif decide a then !decide b else false)=decide (a∧¬ b):=by by_cases h:a <;> simp [h]
theorem not_d {a:Prop} [Decidable a]:(!decide a)=decide (¬ a):=by by_cases h:a <;> simp [h]
end Go.SX

/- Base: data types of the program's values. -/
namespace Go.RS
open Go.SX Go.Proofs
set_option maxRecDepth 100000
set_option linter.unusedVariables false
abbrev R64 (x:Int):Prop := -9223372036854775808<=x/\x<=9223372036854775807
abbrev cBlock:CT := .pair (.pair (.int .u32) (.int .i64)) (.int .i64)
abbrev cBlocks:CT := .pair cBlock (.pair cBlock (.pair cBlock (.pair cBlock (.pair cBlock (.pair cBlock (.pair cBlock cBlock))))))
def blocksV:cBlocks.D:=(((0,8),1),((2130706432,8),2),((167772160,8),3),((2886729728,12),3),((3232235520,16),3),((2851995648,16),4),((3758096384,4),5),((4026531840,4),6))
def GL:Globs:=(fun n=>match n with|0=>some ⟨cBlocks,blocksV⟩|_=>none)
theorem hmix:Tryd.prog.follows .mixedOrders=true:=Tryd.checked.mixed
abbrev cI:CT := .int .i64
abbrev cU8:CT := .int .u8
abbrev cU32:CT := .int .u32
abbrev cCodes:CT := .pair (.sl cU8) cI
abbrev cBucket:CT := .pair cI cI
def okC (c:List Int×Int):Prop:=0<=c.2/\c.2<=c.1.length
end Go.RS

/- Draw: the choices of a law, with loose contracts: a number in its range. -/
namespace Go.RS
open Go.SX Go.Proofs
set_option maxRecDepth 100000
set_option linter.unusedVariables false
def ct_draw_New:Ct:=⟨[.val (.sl cU8),.val cI],[.box 57 cCodes],fun d=>[0<=d.2.1],fun d=>(((if (d.1.length:Int)<=d.2.1 then d.1 else d.1.take d.2.1.toNat,0),()),())⟩
def an_draw_New:PDs ct_draw_New.ps->Anns:=(fun _=>{})
theorem vc_draw_New :
 ∀(a:List Int) (b:Int),(a.length<=maxLen/\ ∀(c:Int),c∈a->0<=c/\c<=255)/\R64 b/\True->0<=b->ifP (decide (b< ↑a.length)) ((0:Int)<=0/\0<=b/\b<= ↑a.length/\(subL a (Int.toNat (0:Int)) b.toNat,(0:Int))=(if↑a.length<=b then a else List.take b.toNat a,(0:Int))) ((a,(0:Int))=(if↑a.length<=b then a else List.take b.toNat a,(0:Int))):=by
  rintro x y ⟨-,⟨h0,h1⟩,-⟩ h
  refine ifP_split (fun hb => ?_) (fun hb => ?_)
  · have hb:=of_decide_eq_true hb
    refine ⟨by omega,h,by omega,?_⟩
    rw [if_neg (by omega)]
    simp [subL]
  · have hb:=of_decide_eq_false hb
    rw [if_pos (by omega)]
theorem ok_draw_New:SpecOK Tryd.prog GL 6 ct_draw_New.spec:=Ct.okH _ Tryd.func6 (by kernel_rfl) noSpecs_ok hmix an_draw_New (hideMp (by kernel_rfl) vc_draw_New)
def ct_Next256:Cn:=⟨[.box 57 cCodes,.val cI],[.val cI],fun d=>[okC d.1,d.2.1<=256],fun d y=>0<=y.1.1/\(y.1.1<d.2.1∨y.1.1=0)/\okC y.2.1,fun d h=>⟨((0,()),(d.1,())),by simp,by simp,h.1⟩⟩
def an_Next256:PDs ct_Next256.ps->Anns:=(fun _=>{})
def Qbb0 (a:List Int) (b c:Int) :=
 c≠(0:Int)/\0<=Int.tmod (IntKind.wrap .i64 (a.getD b.toNat default)) c/\(Int.tmod (IntKind.wrap .i64 (a.getD b.toNat default)) c<c∨Int.tmod (IntKind.wrap .i64 (a.getD b.toNat default)) c=0)/\okC (a,IntKind.wrap .i64 (b+(1:Int)))
theorem vc_Next256 :
 ∀(a:List Int) (b c:Int),((a.length<=maxLen/\ ∀(d:Int),d∈a->0<=d/\d<=255)/\R64 b)/\R64 c/\True->okC (a,b)/\c<=256-> ∀(d:Bool),d=decide (a.length<=b)->((! d)->((! d)->(! d))/\True)/\(d=false->(! d))/\ifP (bif d then true else decide (c<1)) ((0:Int)<=0/\(0<c∨(0:Int)=0)/\okC (a,b)) (0<=b/\b< ↑a.length/\ifP (decide (256<c)) False (Qbb0 a b c)):=by
  delta Qbb0
  rintro l p n ⟨⟨⟨hl,hw⟩,h0,h1⟩,⟨h2,h3⟩,-⟩ ⟨⟨hc1,hc2⟩,hn⟩
  simp only [maxLen] at hl hc1 hc2
  (repeat (intro (b_:Bool) (hb_:b_=_);(repeat refine ⟨(by first|(simp;done)|(rw [hb_];simp;done)|(rw [hb_];simp;omega)|(rw [hb_];simp;intros;omega)|(rw [hb_];simp +contextual;done)),?_⟩);subst hb_))
  refine ifP_split (fun hb => ?_) (fun hb => ?_)
  · exact ⟨by omega,by simp,hc1,hc2⟩
  · simp at hb
    obtain ⟨hb1,hb2⟩:=hb
    obtain ⟨hm0,hm1⟩:=hw _ (getD_mem hc1 hb1)
    rw [w64 (by omega) (by omega),w64 (by omega) (by omega)]
    refine ⟨hc1,hb1,ifP_split (fun hb => ?_) (fun hb => ?_)⟩
    · have:=of_decide_eq_true hb;omega
    · exact ⟨by omega,tmod_lo hm0,.inl (tmod_hi hm0 (by omega)),by simp only [okC];omega⟩
theorem ok_Next256:SpecOK Tryd.prog GL 8 ct_Next256.spec:=Cn.okH _ Tryd.func8 (by kernel_rfl) noSpecs_ok hmix an_Next256 (hideMp (by kernel_rfl) vc_Next256)
def ct_Next:Cn:=⟨[.box 57 cCodes,.val cI],[.val cI],fun d=>[okC d.1],fun d y=>0<=y.1.1/\(y.1.1<d.2.1∨y.1.1=0)/\okC y.2.1,fun d h=>⟨((0,()),(d.1,())),by simp,by simp,h.1⟩⟩
def an_Next:PDs ct_Next.ps->Anns:=(fun _=>{})
def Qbb1 (a:List Int) (b e:Int) :=
 IntKind.wrap .i64 (IntKind.wrap .i64 ((256:Int)*IntKind.wrap .i64 (a.getD b.toNat default))+e)
theorem vc_Next :
 ∀(a:List Int) (b c:Int),((a.length<=maxLen/\ ∀(d:Int),d∈a->0<=d/\d<=255)/\R64 b)/\R64 c/\True->0<=b/\b<= ↑a.length-> ∀(d:Bool),d=decide (a.length<=b)->((! d)->((! d)->(! d))/\True)/\(d=false->(! d))/\ifP (bif d then true else decide (c<1)) ((0:Int)<=0/\(0<c∨(0:Int)=0)/\okC (a,b)) (0<=b/\b< ↑a.length/\ifP (decide (256<c)) (okC (a,IntKind.wrap .i64 (b+(1:Int)))/\(256:Int)<=256/\ ∀(e:Int) (f:List Int) (g:Int),0<=e/\(e<256∨e=0)/\okC (f,g)->c≠(0:Int)/\0<=Int.tmod (Qbb1 a b e) c/\(Int.tmod (Qbb1 a b e) c<c∨Int.tmod (Qbb1 a b e) c=0)/\okC (f,g)) (Qbb0 a b c)):=by
  delta Qbb0 Qbb1
  rintro l p n ⟨⟨⟨hl,hw⟩,h0,h1⟩,⟨h2,h3⟩,-⟩ ⟨hc1,hc2⟩
  simp only [maxLen] at hl hc1 hc2
  (repeat (intro (b_:Bool) (hb_:b_=_);(repeat refine ⟨(by first|(simp;done)|(rw [hb_];simp;done)|(rw [hb_];simp;omega)|(rw [hb_];simp;intros;omega)|(rw [hb_];simp +contextual;done)),?_⟩);subst hb_))
  refine ifP_split (fun hb => ?_) (fun hb => ?_)
  · exact ⟨by omega,by simp,hc1,hc2⟩
  · simp at hb
    obtain ⟨hb1,hb2⟩:=hb
    obtain ⟨hm0,hm1⟩:=hw _ (getD_mem hc1 hb1)
    rw [w64 (by omega) (by omega),w64 (n:=l.getD p.toNat default) (by omega) (by omega)]
    refine ⟨hc1,hb1,ifP_split (fun hb => ?_) (fun hb => ?_)⟩
    · refine ⟨by simp only [okC];omega,by omega,?_⟩
      rintro r l2 p2 ⟨hr0,hr1,hr2⟩
      rw [w64 (n:=256*_) (by omega) (by omega),w64 (by omega) (by omega)]
      exact ⟨by omega,tmod_lo (by omega),.inl (tmod_hi (by omega) (by omega)),hr2⟩
    · exact ⟨by omega,tmod_lo hm0,.inl (tmod_hi hm0 (by omega)),by simp only [okC];omega⟩
theorem ok_Next:SpecOK Tryd.prog GL 8 ct_Next.spec:=Cn.okH _ Tryd.func8 (by kernel_rfl) (withSpec_ok noSpecs_ok ok_Next256) hmix an_Next (hideMp (by kernel_rfl) vc_Next)
end Go.RS

/- Mix: the mixing of 64 bits: what it is, and that it is one to one. -/
namespace Go.RS
open Go.SX
set_option linter.unusedVariables false
def xs (k a:Nat):Nat:=a ^^^ a/2^k
end Go.RS

/- Balance: mixing, hashing, choosing; the law's draws. -/
namespace Go.RS
open Go.SX Go.Proofs
set_option maxRecDepth 100000
set_option linter.unusedVariables false
def ct_draw_Codes_Int:Cn:=⟨[.box 57 cCodes],[.val cI],fun d=>[okC d.1],fun d y=>okC y.2.1 ∧ -9223372036854775808<=y.1.1/\y.1.1<=9223372036854775807,fun d h=>⟨((0,()),(d.1,())),h.1,by simp,by simp⟩⟩
def an_draw_Codes_Int:PDs ct_draw_Codes_Int.ps->Anns:=(fun _=>{})
theorem vc_draw_Codes_Int :
 ∀(a:List Int) (b:Int),((a.length<=maxLen/\ ∀(c:Int),c∈a->0<=c/\c<=255)/\R64 b)/\True->0<=b/\b<= ↑a.length->okC (a,b)/\ ∀(c:Int) (d:List Int) (e:Int),0<=c/\(c<10∨c=0)/\okC (d,e)->ifP (decide (c=0)) (okC (d,e)/\ ∀(f:Int) (g:List Int) (h:Int),0<=f/\(f<3∨f=0)/\okC (g,h)->okC (g,h)/\ -9223372036854775808<=IntKind.wrap .i64 ((-1:Int) -f)/\IntKind.wrap .i64 ((-1:Int) -f)<=9223372036854775807) (ifP (decide (c=1)) (okC (d,e)/\ ∀(f:Int) (g:List Int) (h:Int),0<=f/\(f<14∨f=0)/\okC (g,h)->0<=f/\f< ↑(List.length [(9223372036854775807:Int),(-9223372036854775808:Int),(1125899906842624:Int),(1125899906842625:Int),(65535:Int),(65536:Int),(255:Int),(256:Int),(1023:Int),(1024:Int),(65534:Int),(65535:Int),(4294967296:Int),(4611686018427387905:Int)])/\okC (g,h)/\ -9223372036854775808<=List.getD
 [(9223372036854775807:Int),(-9223372036854775808:Int),(1125899906842624:Int),(1125899906842625:Int),(65535:Int),(65536:Int),(255:Int),(256:Int),(1023:Int),(1024:Int),(65534:Int),(65535:Int),(4294967296:Int),(4611686018427387905:Int)] f.toNat default/\List.getD [(9223372036854775807:Int),(-9223372036854775808:Int),(1125899906842624:Int),(1125899906842625:Int),(65535:Int),(65536:Int),(255:Int),(256:Int),(1023:Int),(1024:Int),(65534:Int),(65535:Int),(4294967296:Int),(4611686018427387905:Int)] f.toNat default<=9223372036854775807) (ifP (decide (c=2)) (okC (d,e)/\ ∀(f:Int) (g:List Int) (h:Int),0<=f/\(f<256∨f=0)/\okC (g,h)->okC (g,h)/\ ∀(i:Int) (j:List Int) (k:Int),0<=i/\(i<256∨i=0)/\okC (j,k)->okC (j,k)/\ -9223372036854775808<=IntKind.wrap .i64 (IntKind.wrap .i64 ((256:Int)*f)+i)/\IntKind.wrap .i64 (IntKind.wrap .i64 ((256:Int)*f)+i)<=9223372036854775807) (okC (d,e)/\ ∀(f:Int) (g:List Int)
 (h:Int),0<=f/\(f<40∨f=0)/\okC (g,h)->okC (g,h)/\R64 f))):=by
  rintro l p-h
  refine ⟨h,?_⟩
  rintro r l2 p2 ⟨h1,h2,h3⟩
  refine ifP_split (fun hb=>⟨h3,?_⟩) (fun hb=>ifP_split (fun hb=>⟨h3,?_⟩) (fun hb=>ifP_split (fun hb=>⟨h3,?_⟩) (fun hb=>⟨h3,?_⟩)))
  · rintro a l4 p4 ⟨h4,h5,h6⟩
    exact ⟨h6,ri64 _⟩
  · rintro a l4 p4 ⟨h4,h5,h6⟩
    refine ⟨h4,by simp;omega,h6,?_⟩
    exact getD_all (p:=fun v => -9223372036854775808<=v/\v<=9223372036854775807) (by simp) h4 (by simp;omega)
  · rintro a l4 p4 ⟨h4,h5,h6⟩
    refine ⟨h6,?_⟩
    rintro a l4 p4 ⟨h4,h5,h6⟩
    exact ⟨h6,ri64 _⟩
  · rintro a l4 p4 ⟨h4,h5,h6⟩
    exact ⟨h6,by omega,by omega⟩
theorem ok_draw_Codes_Int:SpecOK Tryd.prog GL 17 ct_draw_Codes_Int.spec:=Cn.okH _ Tryd.func17 (by kernel_rfl) (withSpec_ok noSpecs_ok ok_Next) hmix an_draw_Codes_Int (hideMp (by kernel_rfl) vc_draw_Codes_Int)
def ct_draw_Codes_Address:Cn:=⟨[.box 57 cCodes],[.val cU32],fun d=>[okC d.1],fun d y=>okC y.2.1/\0<=y.1.1/\y.1.1<=4294967295,fun d h=>⟨((0,()),(d.1,())),h.1,by simp,by simp⟩⟩
def an_draw_Codes_Address:PDs ct_draw_Codes_Address.ps->Anns:=(fun _=>{})
def Qbd0 (f i:Int) :=
 IntKind.wrap .i64 (IntKind.wrap .i64 ((167772160:Int)+shlI IntKind.i64 f (16:Int))+i)
theorem vc_draw_Codes_Address :
 ∀(a:List Int) (b:Int),((a.length<=maxLen/\ ∀(c:Int),c∈a->0<=c/\c<=255)/\R64 b)/\True->0<=b/\b<= ↑a.length->okC (a,b)/\ ∀(c:Int) (d:List Int) (e:Int),0<=c/\(c<12∨c=0)/\okC (d,e)->ifP (decide (c=11)) (okC (d,e)/\ ∀(f:Int) (g:List Int) (h:Int),0<=f/\(f<65536∨f=0)/\okC (g,h)->(0:Int)<=16/\okC (g,h)/\ ∀(i:Int) (j:List Int) (k:Int),0<=i/\(i<65536∨i=0)/\okC (j,k)->okC (j,k)/\0<=IntKind.wrap .u32 (IntKind.wrap .i64 (shlI IntKind.i64 f (16:Int)+i))/\IntKind.wrap .u32 (IntKind.wrap .i64 (shlI IntKind.i64 f (16:Int)+i))<=4294967295) (okC (d,e)/\ ∀(f:Int) (g:List Int) (h:Int),0<=f/\(f<3∨f=0)/\okC (g,h)->(0:Int)<=16/\okC (g,h)/\ ∀(i:Int) (j:List Int) (k:Int),0<=i/\(i<8∨i=0)/\okC (j,k)->okC (j,k)/\0<=IntKind.wrap .u32 (Qbd0 f i)/\IntKind.wrap .u32 (Qbd0 f i)<=4294967295):=by
  delta Qbd0
  rintro l p-h
  refine ⟨h,?_⟩
  rintro r l2 p2 ⟨h1,h2,h3⟩
  refine ifP_split (fun hb=>⟨h3,?_⟩) (fun hb=>⟨h3,?_⟩)
  · rintro a l4 p4 ⟨h4,h5,h6⟩
    refine ⟨by omega,h6,?_⟩
    rintro a l4 p4 ⟨h4,h5,h6⟩
    exact ⟨h6,ru32 _⟩
  · rintro a l4 p4 ⟨h4,h5,h6⟩
    refine ⟨by omega,h6,?_⟩
    rintro a l4 p4 ⟨h4,h5,h6⟩
    exact ⟨h6,ru32 _⟩
theorem ok_draw_Codes_Address:SpecOK Tryd.prog GL 18 ct_draw_Codes_Address.spec:=Cn.okH _ Tryd.func18 (by kernel_rfl) (withSpec_ok noSpecs_ok ok_Next) hmix an_draw_Codes_Address (hideMp (by kernel_rfl) vc_draw_Codes_Address)
end Go.RS

/- Ident: identifiers of answers. -/
namespace Go.RS
open Go.SX Go.Proofs
set_option maxRecDepth 100000
set_option linter.unusedVariables false
abbrev cPort:CT := .pair cU32 cI
abbrev cPrefix:CT := .pair cU32 cI
abbrev cRoute:CT := .pair cPrefix (.pair (.sl cI) cI)
abbrev cNode:CT := .pair (.sl cPort) (.pair cU32 (.pair cI (.pair .bool (.pair (.sl cRoute) (.pair cI (.pair cU32 (.pair cI (.pair cI (.pair cI (.pair cBucket (.pair .bool (.pair .bool (.pair cI cI)))))))))))))
abbrev Prefix:Type:=Int×Int
abbrev Route:Type:=Prefix×List Int×Int
abbrev Node:Type:=List (Int×Int)×Int×Int×Bool×List Route×Int×Int×Int×Int×Int×(Int×Int)×Bool×Bool×Int×Int
def nPorts (n:Node):=n.1
def nLoop (n:Node):=n.2.1
def nOwner (n:Node):=n.2.2.1
def nHost (n:Node):=n.2.2.2.1
def nRoutes (n:Node):=n.2.2.2.2.1
def nSource (n:Node):=n.2.2.2.2.2.1
def nFixed (n:Node):=n.2.2.2.2.2.2.1
def nID (n:Node):=n.2.2.2.2.2.2.2.1
def nBase (n:Node):=n.2.2.2.2.2.2.2.2.1
def nSpeed (n:Node):=n.2.2.2.2.2.2.2.2.2.1
def nLimit (n:Node):=n.2.2.2.2.2.2.2.2.2.2.1
def nOpaque (n:Node):=n.2.2.2.2.2.2.2.2.2.2.2.2.1
def nFirst (n:Node):=n.2.2.2.2.2.2.2.2.2.2.2.2.2.1
def nSeed (n:Node):=n.2.2.2.2.2.2.2.2.2.2.2.2.2.2
def idOK (n:Node):Bool:=decide (0<=nID n/\nID n<=5/\0<=nBase n/\nBase n<=65535/\0<=nSpeed n/\nSpeed n<=1000000)
def idCheck (n:Node):Int:=if idOK n then 0 else 1
def ct_identifier_Check:Ct:=⟨[.agg cNode],[.val cI],fun _=>[],fun d=>((idCheck d.1,()),())⟩
def an_identifier_Check:PDs ct_identifier_Check.ps->Anns:=(fun _=>{})
def Qbe0 (a:Node) :=
 CT.wf cNode a/\True->True-> ∀(b:Bool),b=decide (a.2.2.2.2.2.2.2.1<0)->((! b)->((! b)->(! b))/\True)/\((! b)->((! b)->(! b))/\True)/\(b=false->(! b))/\ ∀(c:Bool),(c=bif b then true else decide (5<a.2.2.2.2.2.2.2.1))->((! c)->((! c)->(! c))/\True)/\((! c)->((! c)->(! c))/\True)/\(c=false->(! c))/\ ∀(d:Bool),(d=bif c then true else decide (a.2.2.2.2.2.2.2.2.1<0))->((! d)->((! d)->(! d))/\True)/\((! d)->((! d)->(! d))/\True)/\(d=false->(! d))/\ ∀(e:Bool),(e=bif d then true else decide (65535<a.2.2.2.2.2.2.2.2.1))->((! e)->((! e)->(! e))/\True)/\((! e)->((! e)->(! e))/\True)/\(e=false->(! e))/\ ∀(f:Bool),(f=bif e then true else decide (a.2.2.2.2.2.2.2.2.2.1<0))->((! f)->((! f)->(! f))/\True)/\((! f)->((! f)->(! f))/\True)/\(f=false->(! f))/\ifP (bif f then true else decide (1000000<a.2.2.2.2.2.2.2.2.2.1)) ((1:Int)=idCheck a) ((0:Int)=idCheck a)
theorem vc_identifier_Check :
 ∀(a:Node),(Qbe0 a):=by
  delta Qbe0
  rintro d - -
  (repeat (intro (b_:Bool) (hb_:b_=_);(repeat refine ⟨(by first|(simp;done)|(rw [hb_];simp;done)|(rw [hb_];simp;omega)|(rw [hb_];simp;intros;omega)|(rw [hb_];simp +contextual;done)),?_⟩);subst hb_))
  unfold idCheck idOK nID nBase nSpeed
  generalize d.2.2.2.2.2.2.2.1=i
  generalize d.2.2.2.2.2.2.2.2.1=b
  generalize d.2.2.2.2.2.2.2.2.2.1=s
  refine ifP_split (fun h => ?_) (fun h => ?_)
  · simp at h
    rw [if_neg (by simp;omega)]
  · simp at h
    rw [if_pos (by simp;omega)]
theorem ok_identifier_Check:SpecOK Tryd.prog GL 57 ct_identifier_Check.spec:=Ct.okH _ Tryd.func57 (by kernel_rfl) noSpecs_ok hmix an_identifier_Check (hideMp (by kernel_rfl) vc_identifier_Check)
def ct_ref11_Check:Ct:=⟨[.agg cNode],[.val cI],fun _=>[],fun d=>((idCheck d.1,()),())⟩
def an_ref11_Check:PDs ct_ref11_Check.ps->Anns:=(fun _=>{})
theorem vc_ref11_Check :
 ∀(a:Node),(Qbe0 a):=by
  delta Qbe0
  rintro d - -
  (repeat (intro (b_:Bool) (hb_:b_=_);(repeat refine ⟨(by first|(simp;done)|(rw [hb_];simp;done)|(rw [hb_];simp;omega)|(rw [hb_];simp;intros;omega)|(rw [hb_];simp +contextual;done)),?_⟩);subst hb_))
  unfold idCheck idOK nID nBase nSpeed
  generalize d.2.2.2.2.2.2.2.1=i
  generalize d.2.2.2.2.2.2.2.2.1=b
  generalize d.2.2.2.2.2.2.2.2.2.1=s
  refine ifP_split (fun h => ?_) (fun h => ?_)
  · simp at h
    rw [if_neg (by simp;omega)]
  · simp at h
    rw [if_pos (by simp;omega)]
theorem ok_ref11_Check:SpecOK Tryd.prog GL 48 ct_ref11_Check.spec:=Ct.okH _ Tryd.func48 (by kernel_rfl) noSpecs_ok hmix an_ref11_Check (hideMp (by kernel_rfl) vc_ref11_Check)
end Go.RS

/- Wire: numbers in bytes, the Internet checksum. -/
namespace Go.RS
open Go.SX Go.Proofs
set_option maxRecDepth 100000
set_option linter.unusedVariables false
def oc (n:Int):Int:=if n=0 then 0 else (n-1)%65535+1
def sumF:Bool->List Int->Int
  | _,[]=>0
  | hi,x::r=>(if hi then x*256 else x)+sumF (!hi) r
def word16 (n:Int):Bool:=decide (0<=n/\n<=65535)
theorem shr_pow {n:Int} {k:Nat} (h0:0<=n) (hk:k<8):shrI .i64 n (8*k)=n/256^k:=by
  unfold shrI
  have hm:min ((8*(k:Int))).toNat IntKind.i64.bits=8*k:=by simp only [IntKind.bits];omega
  rw [hm,Int.fdiv_eq_ediv_of_nonneg _ (Int.le_of_lt (Int.pow_pos (by decide))),Int.pow_mul]
  rfl
end Go.RS

/- Transp: messages of three protocols. -/
namespace Go.RS
open Go.SX Go.Proofs
set_option maxRecDepth 100000
set_option linter.unusedVariables false
abbrev Echo:Type:=Bool×Int×Int×List Int
abbrev Dgram:Type:=Int×Int×List Int
abbrev Seg:Type:=Int×Int×Int×Int×Int×Int×List Int
def w2 (n:Int):List Int:=[n/256%256,n%256]
def w4 (n:Int):List Int:=[n/16777216%256,n/65536%256,n/256%256,n%256]
def csum (b:List Int):Int:=65535-oc (sumF true b)
def setW (b:List Int) (at':Nat) (n:Int):List Int:=(b.set at' (n/256%256)).set (at'+1) (n%256)
def echoErr (e:Echo):Int:=if ¬ (word16 e.2.1=true/\word16 e.2.2.1=true) then 1 else if (1472:Int)<e.2.2.2.length then 5 else 0
def echoBody (e:Echo):List Int:=[if e.1 then 0 else 8,0,0,0]++(w2 e.2.1++(w2 e.2.2.1++e.2.2.2))
def echoEnc (e:Echo):List Int:=if echoErr e=0 then setW (echoBody e) 2 (csum (echoBody e)) else []
def pseudoB (src dst proto:Int) (b:List Int):List Int:=w4 src++(w4 dst++(w2 proto++(w2 b.length++b)))
def pseudo (src dst proto:Int) (b:List Int):Int:=if ¬ (0<=proto/\proto<=255)∨(65535:Int)<b.length then 0 else csum (pseudoB src dst proto b)
def sumU (src dst:Int) (b:List Int):Int:=if pseudo src dst 17 b=0 then 65535 else pseudo src dst 17 b
def udpErr (u:Dgram):Int:=if ¬ (word16 u.1=true/\word16 u.2.1=true) then 1 else if (1472:Int)<u.2.2.length then 5 else 0
def udpBody (u:Dgram):List Int:=w2 u.1++(w2 u.2.1++(w2 (8+u.2.2.length)++([0,0]++u.2.2)))
def udpEnc (src dst:Int) (u:Dgram):List Int:=if udpErr u=0 then setW (udpBody u) 6 (sumU src dst (udpBody u)) else []
def tcpOK (s:Seg):Prop:=word16 s.1=true/\word16 s.2.1=true/\(0<=s.2.2.1/\s.2.2.1<=4294967295)/\(0<=s.2.2.2.1/\s.2.2.2.1<=4294967295)/\(0<=s.2.2.2.2.1/\s.2.2.2.2.1<=255)/\word16 s.2.2.2.2.2.1=true
instance (s:Seg):Decidable (tcpOK s):=by unfold tcpOK;infer_instance
def tcpErr (s:Seg):Int:=if ¬ tcpOK s then 1 else if (1460:Int)<s.2.2.2.2.2.2.length then 5 else 0
def tcpBody (s:Seg):List Int:=w2 s.1++(w2 s.2.1++(w4 s.2.2.1++(w4 s.2.2.2.1++([80,s.2.2.2.2.1]++(w2 s.2.2.2.2.2.1++([0,0,0,0]++s.2.2.2.2.2.2))))))
def tcpEnc (src dst:Int) (s:Seg):List Int:=if tcpErr s=0 then setW (tcpBody s) 16 (pseudo src dst 6 (tcpBody s)) else []
def bytes (l:List Int):Prop:=∀ x∈l,0<=x/\x<=255
theorem shr16 {n:Int} (h0:0<=n):shrI .i64 n 16=n/65536:=by
  have e:=shr_pow (n:=n) (k:=2) h0 (by omega)
  exact e
end Go.RS

/- Trdec: decoding messages. -/
namespace Go.RS
open Go.SX Go.Proofs
set_option maxRecDepth 100000
set_option linter.unusedVariables false
end Go.RS

/- Trback: messages are decoded from their encodings; what damage does. -/
namespace Go.RS
open Go.SX Go.Proofs
set_option maxRecDepth 100000
set_option linter.unusedVariables false
end Go.RS

/- Ipv4: packets without options. -/
namespace Go.RS
open Go.SX Go.Proofs
set_option maxRecDepth 100000
set_option linter.unusedVariables false
abbrev Header:Type:=Int×Int×Int×Int×Bool×Int×Int
abbrev Packet:Type:=Header×List Int
def in8 (n:Int):Prop:=0<=n/\n<=255
instance (n:Int):Decidable (in8 n):=by unfold in8;infer_instance
def hdrOK (h:Header):Prop:=in8 h.1/\in8 h.2.2.1/\in8 h.2.2.2.1/\0<=h.2.1/\h.2.1<=65535
instance (h:Header):Decidable (hdrOK h):=by unfold hdrOK;infer_instance
def hdrHead (h:Header) (n:Int):List Int:=[69,h.1]++(w2 n++(w2 h.2.1++(w2 (if h.2.2.2.2.1 then 16384 else 0)++[h.2.2.1,h.2.2.2.1])))
def hdrTail (h:Header):List Int:=w4 h.2.2.2.2.2.1++w4 h.2.2.2.2.2.2
def hdrBody (h:Header) (n:Int):List Int:=hdrHead h n++([0,0]++hdrTail h)
def hdrB (h:Header) (n:Int):List Int:=setW (hdrBody h n) 10 (csum (hdrBody h n))
def ipErr (p:Packet):Int:=if ¬ hdrOK p.1 then 1 else if (1480:Int)<p.2.length then 5 else 0
def ipEnc (p:Packet):List Int:=if ipErr p=0 then hdrB p.1 (20+p.2.length)++p.2 else []
end Go.RS

/- Probe: probes, their packets and keys. -/
namespace Go.RS
open Go.SX Go.Proofs
set_option maxRecDepth 100000
set_option linter.unusedVariables false
abbrev Probe:Type:=Int×Int×Int×Int×Int×Int
def protoOK (n:Int):Prop:=n=1∨n=6∨n=17
instance (n:Int):Decidable (protoOK n):=by unfold protoOK;infer_instance
def rangeOK (p:Probe):Prop:=(0<=p.2.2.2.1/\p.2.2.2.1<=1023)/\(0<=p.2.2.2.2.1/\p.2.2.2.2.1<=65534)/\1<=p.2.2.2.2.2/\p.2.2.2.2.2<=255
instance (p:Probe):Decidable (rangeOK p):=by unfold rangeOK;infer_instance
def probeErr (p:Probe):Int:=if ¬ protoOK p.2.2.1 then 16 else if ¬ rangeOK p then 1 else 0
def icmpN (p:Probe):Int:=oc (65535-(16384+p.2.2.2.1)+csum (echoBody (false,21075,p.2.2.2.2.1,[0,0])))
def udpX (p:Probe):Int:=oc (65535-(p.2.2.2.2.1+1)+pseudo p.1 p.2.1 17 (udpBody (20000+p.2.2.2.1,33434,[0,0])))
def udpN (p:Probe):Int:=if udpX p=0 then 65535 else udpX p
def conEcho (p:Probe):Echo:=(false,21075,p.2.2.2.2.1,w2 (icmpN p))
def conDgram (p:Probe):Dgram:=(20000+p.2.2.2.1,33434,w2 (udpN p))
def conSeg (p:Probe):Seg:=(20000+p.2.2.2.1,80,p.2.2.2.2.1,0,2,1024,[])
def conP (p:Probe):List Int:=if p.2.2.1=1 then echoEnc (conEcho p) else if p.2.2.1=17 then udpEnc p.1 p.2.1 (conDgram p) else tcpEnc p.1 p.2.1 (conSeg p)
def hdrP (p:Probe):Header:=(0,p.2.2.2.2.1,p.2.2.2.2.2,p.2.2.1,true,p.1,p.2.1)
def build (p:Probe):List Int:=if probeErr p=0 then ipEnc (hdrP p,conP p) else []
end Go.RS

/- Pback: probes read back from their packets. -/
namespace Go.RS
open Go.SX Go.Proofs
set_option maxRecDepth 100000
set_option linter.unusedVariables false
def u32 (n:Int):Prop:=0<=n/\n<=4294967295
end Go.RS

/- Addr: prefixes, and functions of Go's library over numbers. -/
namespace Go.RS
open Go.SX Go.Proofs
set_option maxRecDepth 100000
set_option linter.unusedVariables false
abbrev cPfx:CT := .pair cU32 cI
def icmp (a b:Int):Int:=if a<b then -1 else if b<a then 1 else 0
abbrev Pfx:Type:=Int×Int
def pcmp (p q:Pfx):Int:=if icmp p.1 q.1≠0 then icmp p.1 q.1 else icmp p.2 q.2
def firstNZ:List Int->Int
  | []=>0
  | x::xs=>if x≠0 then x else firstNZ xs
theorem drop_getD {l:List Int} {j:Int} (h0:0<=j) (h1:j<l.length):l.drop j.toNat=l.getD j.toNat default::l.drop (j+1).toNat:=by
  have hj:j.toNat<l.length:=by omega
  rw [List.drop_eq_getElem_cons hj,List.getD_eq_getElem?_getD,List.getElem?_eq_getElem hj,Option.getD_some]
  congr 2;omega
theorem mem_take_succ {α:Type} [Inhabited α] {l:List α} {j:Int} (h0:0<=j) (h1:j<l.length) {y:α} (hy:y∈l.take (j+1).toNat):y∈l.take j.toNat∨y=l.getD j.toNat default:=by
  have hj:j.toNat<l.length:=by omega
  have e:(j+1).toNat=j.toNat+1:=by omega
  rw [e,List.take_succ_eq_append_getElem hj] at hy
  rcases List.mem_append.1 hy with hy|hy
  · exact .inl hy
  · right
    simp at hy
    rw [List.getD_eq_getElem?_getD,List.getElem?_eq_getElem hj,Option.getD_some];exact hy
theorem idxOf_at {l:List Int} {v j:Int} (h0:0<=j) (h1:j<l.length) (hv:l.getD j.toNat default=v) (h2:∀ y∈l.take j.toNat,y≠v):l.idxOf v=j.toNat:=by
  have hj:j.toNat<l.length:=by omega
  rw [List.getD_eq_getElem?_getD,List.getElem?_eq_getElem hj,Option.getD_some] at hv
  have e:l=l.take j.toNat++l[j.toNat]::l.drop (j.toNat+1):=by
    rw [← List.drop_eq_getElem_cons hj,List.take_append_drop]
  rw [e,List.idxOf_append,if_neg (fun hm=>h2 v hm rfl),hv,List.idxOf_cons_self]
  simp;omega
def ct_cmp_isNaN_bef2:Ct:=⟨[.val cI],[.val .bool],fun _=>[],fun _=>((false,()),())⟩
def an_cmp_isNaN_bef2:PDs ct_cmp_isNaN_bef2.ps->Anns:=(fun _=>{})
theorem vc_cmp_isNaN_bef2 :
 ∀(a:Int),R64 a/\True->True->(! decide (a=a))=false:=by
  rintro x - -
  simp
theorem ok_cmp_isNaN_bef2:SpecOK Tryd.prog GL 91 ct_cmp_isNaN_bef2.spec:=Ct.okH _ Tryd.func91 (by kernel_rfl) noSpecs_ok hmix an_cmp_isNaN_bef2 (hideMp (by kernel_rfl) vc_cmp_isNaN_bef2)
def ct_cmp_isNaN_1748:Ct:=⟨[.val cU32],[.val .bool],fun _=>[],fun _=>((false,()),())⟩
def an_cmp_isNaN_1748:PDs ct_cmp_isNaN_1748.ps->Anns:=(fun _=>{})
theorem vc_cmp_isNaN_1748 :
 ∀(a:Int),(0<=a/\a<=4294967295)/\True->True->(! decide (a=a))=false:=by
  rintro x - -
  simp
theorem ok_cmp_isNaN_1748:SpecOK Tryd.prog GL 90 ct_cmp_isNaN_1748.spec:=Ct.okH _ Tryd.func90 (by kernel_rfl) noSpecs_ok hmix an_cmp_isNaN_1748 (hideMp (by kernel_rfl) vc_cmp_isNaN_1748)
def ct_cmp_Compare_bef2:Ct:=⟨[.val cI,.val cI],[.val cI],fun _=>[],fun d=>((icmp d.1 d.2.1,()),())⟩
def an_cmp_Compare_bef2:PDs ct_cmp_Compare_bef2.ps->Anns:=(fun _=>{})
def Qbm1 (a b:Int) :=
 ifP (decide (a<b)) ((-1:Int)=icmp a b) (ifP (decide (b<a)) ((1:Int)=icmp a b) ((0:Int)=icmp a b))
theorem vc_cmp_Compare_bef2 :
 ∀(a b:Int),R64 a/\R64 b/\True->True->(Qbm1 a b):=by
  delta Qbm1
  rintro x y - -
  unfold icmp
  refine ifP_split (fun h => ?_) (fun h=>ifP_split (fun h2 => ?_) (fun h2 => ?_))
  · rw [if_pos (of_decide_eq_true h)]
  · rw [if_neg (of_decide_eq_false h),if_pos (of_decide_eq_true h2)]
  · rw [if_neg (of_decide_eq_false h),if_neg (of_decide_eq_false h2)]
theorem ok_cmp_Compare_bef2:SpecOK Tryd.prog GL 81 ct_cmp_Compare_bef2.spec:=Ct.okH _ Tryd.func81 (by kernel_rfl) (withSpec_ok noSpecs_ok ok_cmp_isNaN_bef2) hmix an_cmp_Compare_bef2 (hideMp (by kernel_rfl) vc_cmp_Compare_bef2)
def ct_cmp_Compare_1748:Ct:=⟨[.val cU32,.val cU32],[.val cI],fun _=>[],fun d=>((icmp d.1 d.2.1,()),())⟩
def an_cmp_Compare_1748:PDs ct_cmp_Compare_1748.ps->Anns:=(fun _=>{})
theorem vc_cmp_Compare_1748 :
 ∀(a b:Int),(0<=a/\a<=4294967295)/\(0<=b/\b<=4294967295)/\True->True->(Qbm1 a b):=by
  delta Qbm1
  rintro x y - -
  unfold icmp
  refine ifP_split (fun h => ?_) (fun h=>ifP_split (fun h2 => ?_) (fun h2 => ?_))
  · rw [if_pos (of_decide_eq_true h)]
  · rw [if_neg (of_decide_eq_false h),if_pos (of_decide_eq_true h2)]
  · rw [if_neg (of_decide_eq_false h),if_neg (of_decide_eq_false h2)]
theorem ok_cmp_Compare_1748:SpecOK Tryd.prog GL 80 ct_cmp_Compare_1748.spec:=Ct.okH _ Tryd.func80 (by kernel_rfl) (withSpec_ok noSpecs_ok ok_cmp_isNaN_1748) hmix an_cmp_Compare_1748 (hideMp (by kernel_rfl) vc_cmp_Compare_1748)
def ct_cmp_Or_bef2:Ct:=⟨[.val (.sl cI)],[.val cI],fun _=>[],fun d=>((firstNZ d.1,()),())⟩
def an_cmp_Or_bef2:PDs ct_cmp_Or_bef2.ps->Anns:=(fun d=>{loops:=(fun n=>match n with|3=>some (fun S=>{ι:=Int,μ:=fun i=>(d.1.length-i).toNat,inv:=fun i=>0<=i/\i<=d.1.length/\firstNZ d.1=firstNZ (d.1.drop i.toNat),keep:=[3,6,7],slots:=fun i=>[(8,.int .i64 i)],names:=fun i=>[]})|_=>none)})
def Qbm2 (a:List Int) :=
 (a.length:Int)
theorem vc_cmp_Or_bef2 :
 ∀(a:List Int),(a.length<=maxLen/\ ∀(b:Int),b∈a->R64 b)/\True->True->(∃(b:Int),(0<=b/\b<=(Qbm2 a)/\firstNZ a=firstNZ (List.drop b.toNat a))/\(0:Int)=0/\a=a/\(Qbm2 a)=(Qbm2 a)/\(0:Int)=b/\True)/\ ∀(b:Int),0<=b/\b<=(Qbm2 a)/\firstNZ a=firstNZ (List.drop b.toNat a)->ifP (decide (b<(Qbm2 a))) (0<=b/\b<(Qbm2 a)/\ifP (! decide (a.getD b.toNat default=0)) (a.getD b.toNat default=firstNZ a) (∃(c:Int),(0<=c/\c<=(Qbm2 a)/\firstNZ a=firstNZ (List.drop c.toNat a))/\Int.toNat ((Qbm2 a) -c)<Int.toNat ((Qbm2 a) -b)/\(0:Int)=0/\a=a/\(Qbm2 a)=(Qbm2 a)/\IntKind.wrap .i64 (b+(1:Int))=c/\True)) ((0:Int)=firstNZ a):=by
  delta Qbm2
  rintro x ⟨⟨hl,-⟩,-⟩ -
  simp only [maxLen] at hl
  refine ⟨⟨0,⟨by omega,by omega,rfl⟩,(by repeat' first|exact trivial|refine ⟨trivial,?_⟩|refine ⟨(by with_reducible rfl),?_⟩|refine ⟨w64 (by omega) (by omega),?_⟩|refine ⟨rfl,?_⟩)⟩,?_⟩
  rintro j ⟨h0,h1,h2⟩
  refine ifP_split (fun hj => ?_) (fun hj => ?_)
  · have hj:=of_decide_eq_true hj
    have e:=drop_getD (l:=x) h0 hj
    rw [e] at h2
    refine ⟨h0,hj,ifP_split (fun hz => ?_) (fun hz => ?_)⟩
    · have hz:x.getD j.toNat default≠0:=by simpa only [Bool.not_eq_true',decide_eq_false_iff_not] using hz
      rw [h2,firstNZ,if_pos hz]
    · have hz:¬ x.getD j.toNat default≠0:=by simpa only [Bool.not_eq_false',decide_eq_true_eq,ne_eq,Decidable.not_not] using hz
      rw [firstNZ,if_neg hz] at h2
      exact ⟨j+1,⟨by omega,by omega,h2⟩,by omega,(by repeat' first|exact trivial|refine ⟨trivial,?_⟩|refine ⟨(by with_reducible rfl),?_⟩|refine ⟨w64 (by omega) (by omega),?_⟩|refine ⟨rfl,?_⟩)⟩
  · have hj:=of_decide_eq_false hj
    rw [h2,List.drop_eq_nil_of_le (by omega)];rfl
theorem ok_cmp_Or_bef2:SpecOK Tryd.prog GL 79 ct_cmp_Or_bef2.spec:=Ct.okH _ Tryd.func79 (by kernel_rfl) noSpecs_ok hmix an_cmp_Or_bef2 (hideMp (by kernel_rfl) vc_cmp_Or_bef2)
def ct_address_Compare:Ct:=⟨[.agg cPfx,.agg cPfx],[.val cI],fun _=>[],fun d=>((pcmp d.1 d.2.1,()),())⟩
def an_address_Compare:PDs ct_address_Compare.ps->Anns:=(fun _=>{})
theorem vc_address_Compare :
 ∀(a b c d:Int),((0<=a/\a<=4294967295)/\R64 b)/\((0<=c/\c<=4294967295)/\R64 d)/\True->True->firstNZ [icmp a c,icmp b d]=pcmp (a,b) (c,d):=by
  rintro x y z u - -
  simp only [firstNZ,pcmp]
  split
  · rfl
  · split
    · rfl
    · rename_i h;simp at h;exact h.symm
theorem ok_address_Compare:SpecOK Tryd.prog GL 66 ct_address_Compare.spec:=Ct.okH _ Tryd.func66 (by kernel_rfl) (withSpec_ok (withSpec_ok (withSpec_ok noSpecs_ok ok_cmp_Compare_1748) ok_cmp_Compare_bef2) ok_cmp_Or_bef2) hmix an_address_Compare (hideMp (by kernel_rfl) vc_address_Compare)
def ct_ref01_Order:Ct:=⟨[.val cI,.val cI],[.val cI],fun _=>[],fun d=>((icmp d.1 d.2.1,()),())⟩
def an_ref01_Order:PDs ct_ref01_Order.ps->Anns:=(fun _=>{})
theorem vc_ref01_Order :
 ∀(a b:Int),R64 a/\R64 b/\True->True->(Qbm1 a b):=by
  delta Qbm1
  rintro x y - -
  unfold icmp
  refine ifP_split (fun h => ?_) (fun h=>ifP_split (fun h2 => ?_) (fun h2 => ?_))
  · rw [if_pos (of_decide_eq_true h)]
  · rw [if_neg (of_decide_eq_false h),if_pos (of_decide_eq_true h2)]
  · rw [if_neg (of_decide_eq_false h),if_neg (of_decide_eq_false h2)]
theorem ok_ref01_Order:SpecOK Tryd.prog GL 84 ct_ref01_Order.spec:=Ct.okH _ Tryd.func84 (by kernel_rfl) noSpecs_ok hmix an_ref01_Order (hideMp (by kernel_rfl) vc_ref01_Order)
def ct_ref01_Compare:Ct:=⟨[.agg cPfx,.agg cPfx],[.val cI],fun _=>[],fun d=>((pcmp d.1 d.2.1,()),())⟩
def an_ref01_Compare:PDs ct_ref01_Compare.ps->Anns:=(fun _=>{})
theorem vc_ref01_Compare :
 ∀(a b c d:Int),((0<=a/\a<=4294967295)/\R64 b)/\((0<=c/\c<=4294967295)/\R64 d)/\True->True->ifP (! decide (a=c)) (icmp (IntKind.wrap .i64 a) (IntKind.wrap .i64 c)=pcmp (a,b) (c,d)) (icmp b d=pcmp (a,b) (c,d)):=by
  rintro x y z u ⟨⟨⟨h0,h1⟩,-⟩,⟨⟨h2,h3⟩,-⟩,-⟩ -
  unfold pcmp
  refine ifP_split (fun h => ?_) (fun h => ?_)
  · simp at h
    rw [w64 (by omega) (by omega),w64 (by omega) (by omega),if_pos (by simp only [icmp];split <;> first|omega|(split <;> omega))]
  · simp at h
    subst h
    rw [if_neg (by simp [icmp])]
theorem ok_ref01_Compare:SpecOK Tryd.prog GL 70 ct_ref01_Compare.spec:=Ct.okH _ Tryd.func70 (by kernel_rfl) (withSpec_ok noSpecs_ok ok_ref01_Order) hmix an_ref01_Compare (hideMp (by kernel_rfl) vc_ref01_Compare)
def sz (n:Int):Int:=2^(32-n).toNat
def pValid (p:Pfx):Bool:=decide (0<=p.2/\p.2<=32/\p.1%sz p.2=0)
def contains (p:Pfx) (a:Int):Bool:=pValid p&&decide (p.1<=a/\a<p.1+sz p.2)
theorem sz_pos (n:Int):0<sz n:=Int.pow_pos (by decide)
theorem sz_nat (n:Int):sz n=((2^(32-n).toNat:Nat):Int):=by unfold sz;rw [Int.natCast_pow];rfl
theorem sz_cases {n:Int} (h0:0<=n) (h1:n<=32):∃ k:Nat,k<=32/\n=32-k/\sz n=((2^k:Nat):Int):=⟨(32-n).toNat,by omega,by omega,sz_nat n⟩
theorem mask_eq {n:Int} (h0:0<=n) (h1:n<=32):shlI .u32 4294967295 (32-n)=4294967296-sz n:=by
  obtain ⟨k,hk,rfl,e⟩:=sz_cases h0 h1
  rw [e]
  have:(32:Int)-(32-(k:Int))=(k:Int):=by omega
  rw [this]
  unfold shlI
  rw [IntKind.wrap_u32]
  have hm:min ((k:Int)).toNat IntKind.u32.bits=k:=by simp only [IntKind.bits,Int.toNat_natCast];omega
  rw [hm]
  have hd:∀ k:Nat,k<=32->(4294967295*2^k:Int)%4294967296=4294967296-((2^k:Nat):Int):=by decide
  exact hd k hk
theorem size_eq {n:Int} (h0:0<=n) (h1:n<=32):shlI .i64 1 (32-n)=sz n:=by
  obtain ⟨k,hk,rfl,e⟩:=sz_cases h0 h1
  rw [e]
  have:(32:Int)-(32-(k:Int))=(k:Int):=by omega
  rw [this]
  unfold shlI
  have hm:min ((k:Int)).toNat IntKind.i64.bits=k:=by simp only [IntKind.bits,Int.toNat_natCast];omega
  rw [hm,Int.one_mul]
  have e2:((2:Int)^k)=((2^k:Nat):Int):=by rw [Int.natCast_pow];rfl
  have:(2:Nat)^k<=2^32:=Nat.pow_le_pow_right (by decide) hk
  rw [e2]
  generalize 2^k=s at this ⊢
  exact w64 (by omega) (by omega)
theorem mask_not {x n:Int} (h0:0<=x) (h1:x<=4294967295) (h2:0<=n) (h3:n<=32):bits .andNot .u32 x (4294967296-sz n)=x%sz n:=by
  obtain ⟨k,hk,rfl,e⟩:=sz_cases h2 h3
  have hp:(2:Nat)^k<=2^32:=Nat.pow_le_pow_right (by decide) hk
  have hp0:0<(2:Nat)^k:=Nat.two_pow_pos k
  rw [e,u32_andNot _ _ h0 (by omega) (by omega) (by omega)]
  have e1:4294967295-((4294967296:Int)-((2^k:Nat):Int)).toNat=2^k-1:=by omega
  rw [e1,Nat.and_two_pow_sub_one_eq_mod]
  obtain ⟨m,rfl⟩:=Int.eq_ofNat_of_zero_le h0
  rw [Int.toNat_natCast,Int.natCast_emod]
theorem and_high {a k:Nat} (hk:k<=32) (ha:a<4294967296):a &&& (4294967296-2^k)=a/2^k*2^k:=by
  have e:4294967296-2^k=(2^(32-k)-1) <<< k:=by
    rw [Nat.shiftLeft_eq,Nat.sub_mul,← Nat.pow_add,Nat.one_mul]
    congr 1
    rw [show 32-k+k=32 from by omega]
  rw [e,← Nat.shiftRight_eq_div_pow,← Nat.shiftLeft_eq]
  apply Nat.eq_of_testBit_eq
  intro i
  simp only [Nat.testBit_and,Nat.testBit_shiftLeft,Nat.testBit_two_pow_sub_one,Nat.testBit_shiftRight]
  by_cases hi:k<=i
  · have e2:k+(i-k)=i:=by omega
    simp only [hi,decide_true,Bool.true_and,e2]
    by_cases h32:i<32
    · have:i-k<32-k:=by omega
      simp [this]
    · have:a.testBit i=false:=Nat.testBit_lt_two_pow (Nat.lt_of_lt_of_le ha (Nat.pow_le_pow_right (show 0<2 by decide) (by omega:32<=i)))
      simp [this]
  · simp [hi]
theorem mask_and {a n x:Int} (h0:0<=a) (h1:a<=4294967295) (h2:0<=n) (h3:n<=32) (hx:0<=x) (hm:x%sz n=0) :
    (bits .and .u32 a (4294967296-sz n)=x)↔(x<=a/\a<x+sz n):=by
  obtain ⟨k,hk,rfl,e⟩:=sz_cases h2 h3
  have hp:(2:Nat)^k<=2^32:=Nat.pow_le_pow_right (by decide) hk
  have hp0:0<(2:Nat)^k:=Nat.two_pow_pos k
  rw [e] at hm ⊢
  rw [u32_and _ _ h0 (by omega) (by omega) (by omega)]
  have e1:((4294967296:Int)-((2^k:Nat):Int)).toNat=4294967296-2^k:=by omega
  rw [e1,and_high hk (by omega)]
  obtain ⟨m,rfl⟩:=Int.eq_ofNat_of_zero_le h0
  obtain ⟨y,rfl⟩:=Int.eq_ofNat_of_zero_le hx
  rw [Int.toNat_natCast]
  have hm:y%2^k=0:=by
    have:((y%2^k:Nat):Int)=0:=by rw [Int.natCast_emod];exact hm
    omega
  generalize 2^k=s at *
  have d:=Nat.div_add_mod m s
  have dl:=Nat.mod_lt m hp0
  have dy:=Nat.div_add_mod y s
  rw [hm] at dy
  rw [Nat.mul_comm] at d
  constructor
  · intro h;omega
  · rintro ⟨h,h'⟩
    have hq:m/s=y/s:=by
      apply Nat.le_antisymm
      · have:m<(y/s+1)*s:=by rw [Nat.add_mul,Nat.one_mul,Nat.mul_comm (y/s)];omega
        have:=Nat.div_lt_of_lt_mul (Nat.mul_comm _ _▸this:m<s*(y/s+1))
        omega
      · exact Nat.div_le_div_right (by omega)
    rw [hq,Nat.mul_comm];omega
theorem shift_valid {a n:Int} (h2:0<=n) (h3:n<=32) (h0:0<=a) (h1:a<=4294967295):pValid (shlI .u32 (shrI .u32 a (32-n)) (32-n),n)=true:=by
  obtain ⟨k,hk,rfl,e⟩:=sz_cases h2 h3
  have hp:(2:Nat)^k<=2^32:=Nat.pow_le_pow_right (by decide) hk
  have hp0:0<(2:Nat)^k:=Nat.two_pow_pos k
  have:(32:Int)-(32-(k:Int))=(k:Int):=by omega
  simp only [pValid,e,this,decide_eq_true_eq]
  refine ⟨by omega,by omega,?_⟩
  unfold shlI shrI
  have hm:min ((k:Int)).toNat IntKind.u32.bits=k:=by simp only [IntKind.bits,Int.toNat_natCast];omega
  rw [hm]
  have e2:((2:Int)^k)=((2^k:Nat):Int):=by rw [Int.natCast_pow];rfl
  obtain ⟨m,rfl⟩:=Int.eq_ofNat_of_zero_le h0
  rw [e2,Int.fdiv_eq_ediv_of_nonneg _ (by omega),← Int.natCast_ediv,← Int.natCast_mul,wu32 (by omega) (by
    have:=Nat.div_mul_le_self m (2^k)
    omega),← Int.natCast_emod,Nat.mul_mod_left]
  rfl
def ct_address_mask:Ct:=⟨[.val cI],[.val cU32],fun d=>[0<=d.1/\d.1<=32],fun d=>((4294967296-sz d.1,()),())⟩
def an_address_mask:PDs ct_address_mask.ps->Anns:=(fun _=>{})
theorem vc_address_mask :
 ∀(a:Int),R64 a/\True->0<=a/\a<=32->0<=IntKind.wrap .i64 ((32:Int) -a)/\shlI IntKind.u32 (4294967295:Int) (IntKind.wrap .i64 ((32:Int) -a))=4294967296 -sz a:=by
  rintro x-⟨h0,h1⟩
  rw [w64 (by omega) (by omega)]
  exact ⟨by omega,mask_eq h0 h1⟩
theorem ok_address_mask:SpecOK Tryd.prog GL 78 ct_address_mask.spec:=Ct.okH _ Tryd.func78 (by kernel_rfl) noSpecs_ok hmix an_address_mask (hideMp (by kernel_rfl) vc_address_mask)
def ct_address_Valid:Ct:=⟨[.agg cPfx],[.val .bool],fun _=>[],fun d=>((pValid d.1,()),())⟩
def an_address_Valid:PDs ct_address_Valid.ps->Anns:=(fun _=>{})
theorem vc_address_Valid :
 ∀(a b:Int),((0<=a/\a<=4294967295)/\R64 b)/\True->True-> ∀(c:Bool),c=decide (0<=b)->(c->(c->c)/\True)/\(c->(c->c)/\True)/\(c->c)/\ ∀(d:Bool),(d=bif c then decide (b<=32) else false)->(d->(d->d)/\True)/\(d->(d->d)/\True)/\(d->(d->d)/\(0<=b/\b<=32)/\True)/\(d->(d->d)/\(d->d)/\True)/\(d->(d->d)/\True)/\(d->d)/\(bif d then decide (bits BinOp.andNot IntKind.u32 a ((4294967296:Int) -sz b)=0) else false)=pValid (a,b):=by
  rintro x n ⟨⟨⟨h0,h1⟩,-⟩,-⟩ -
  (repeat (intro (b_:Bool) (hb_:b_=_);(repeat refine ⟨(by first|(simp;done)|(rw [hb_];simp;done)|(rw [hb_];simp;omega)|(rw [hb_];simp;intros;omega)|(rw [hb_];simp +contextual;done)),?_⟩);subst hb_))
  by_cases hn:0<=n/\n<=32
  · have:=mask_not (n:=n) h0 h1 hn.1 hn.2
    simp [pValid,hn,this]
  · simp only [pValid]
    by_cases h2:0<=n
    · have:¬ n<=32:=fun h=>hn ⟨h2,h⟩
      simp [this]
    · simp [h2]
theorem ok_address_Valid:SpecOK Tryd.prog GL 65 ct_address_Valid.spec:=Ct.okH _ Tryd.func65 (by kernel_rfl) (withSpec_ok noSpecs_ok ok_address_mask) hmix an_address_Valid (hideMp (by kernel_rfl) vc_address_Valid)
def ct_address_Contains:Ct:=⟨[.agg cPfx,.val cU32],[.val .bool],fun _=>[],fun d=>((contains d.1 d.2.1,()),())⟩
def an_address_Contains:PDs ct_address_Contains.ps->Anns:=(fun _=>{})
theorem vc_address_Contains :
 ∀(a b c:Int),((0<=a/\a<=4294967295)/\R64 b)/\(0<=c/\c<=4294967295)/\True->True-> ∀(d:Bool),d=pValid (a,b)->(d->(d->d)/\True)/\(d->(d->d)/\(0<=b/\b<=32)/\True)/\(d->(d->d)/\(d->d)/\True)/\(d->(d->d)/\True)/\(d->(d->d)/\(d->d)/\True)/\(d->d)/\(bif d then decide (bits BinOp.and IntKind.u32 c ((4294967296:Int) -sz b)=a) else false)=contains (a,b) c:=by
  rintro x n a ⟨⟨⟨h0,h1⟩,-⟩,⟨h2,h3⟩,-⟩ -
  have hv:∀ b:Bool,b=pValid (x,n)->b=true->0<=n/\n<=32/\x%sz n=0:=by
    rintro b rfl h;simpa [pValid] using h
  rintro b hb
  have hr:=hv b hb
  refine ⟨by simp,fun h=>⟨fun _=>h,⟨(hr h).1,(hr h).2.1⟩,trivial⟩,by simp,by simp,by simp,by simp,?_⟩
  unfold contains
  rw [← hb]
  cases b with
  | false=>rfl
  | true =>
    obtain ⟨r1,r2,r3⟩:=hr rfl
    have:=mask_and (n:=n) (x:=x) h2 h3 r1 r2 h0 r3
    rw [Bool.eq_iff_iff];simpa using this
theorem ok_address_Contains:SpecOK Tryd.prog GL 85 ct_address_Contains.spec:=Ct.okH _ Tryd.func85 (by kernel_rfl) (withSpec_ok (withSpec_ok noSpecs_ok ok_address_mask) ok_address_Valid) hmix an_address_Contains (hideMp (by kernel_rfl) vc_address_Contains)
def ct_ref01_size:Ct:=⟨[.val cI],[.val cI],fun d=>[0<=d.1/\d.1<=32],fun d=>((sz d.1,()),())⟩
def an_ref01_size:PDs ct_ref01_size.ps->Anns:=(fun _=>{})
theorem vc_ref01_size :
 ∀(a:Int),R64 a/\True->0<=a/\a<=32->0<=IntKind.wrap .i64 ((32:Int) -a)/\shlI IntKind.i64 (1:Int) (IntKind.wrap .i64 ((32:Int) -a))=sz a:=by
  rintro x-⟨h0,h1⟩
  rw [w64 (by omega) (by omega)]
  exact ⟨by omega,size_eq h0 h1⟩
theorem ok_ref01_size:SpecOK Tryd.prog GL 83 ct_ref01_size.spec:=Ct.okH _ Tryd.func83 (by kernel_rfl) noSpecs_ok hmix an_ref01_size (hideMp (by kernel_rfl) vc_ref01_size)
def ct_ref01_Valid:Ct:=⟨[.agg cPfx],[.val .bool],fun _=>[],fun d=>((pValid d.1,()),())⟩
def an_ref01_Valid:PDs ct_ref01_Valid.ps->Anns:=(fun _=>{})
theorem vc_ref01_Valid :
 ∀(a b:Int),((0<=a/\a<=4294967295)/\R64 b)/\True->True-> ∀(c:Bool),c=decide (0<=b)->(c->(c->c)/\True)/\(c->(c->c)/\True)/\(c->c)/\ ∀(d:Bool),(d=bif c then decide (b<=32) else false)->(d->(d->d)/\True)/\(d->(d->d)/\True)/\(d->(d->d)/\True)/\(d->(d->d)/\(0<=b/\b<=32)/\True)/\(d->(d->d)/\(d->d)/\sz b≠(0:Int)/\True)/\(d->(d->d)/\True)/\(d->d)/\(bif d then decide (Int.tmod (IntKind.wrap .i64 a) (sz b)=0) else false)=pValid (a,b):=by
  rintro x n ⟨⟨⟨h0,h1⟩,-⟩,-⟩ -
  have hp:=sz_pos n
  (repeat (intro (b_:Bool) (hb_:b_=_);(repeat refine ⟨(by first|(simp;done)|(rw [hb_];simp;done)|(rw [hb_];simp;omega)|(rw [hb_];simp;intros;omega)|(rw [hb_];simp +contextual;done)),?_⟩);subst hb_))
  rw [w64 (by omega) (by omega),Int.tmod_eq_emod_of_nonneg h0]
  simp only [pValid]
  by_cases h2:0<=n
  · by_cases h3:n<=32
    · simp [h2,h3]
    · simp [h2,h3]
  · simp [h2]
theorem ok_ref01_Valid:SpecOK Tryd.prog GL 69 ct_ref01_Valid.spec:=Ct.okH _ Tryd.func69 (by kernel_rfl) (withSpec_ok noSpecs_ok ok_ref01_size) hmix an_ref01_Valid (hideMp (by kernel_rfl) vc_ref01_Valid)
def ct_slices_Index_263e:Ct:=⟨[.val (.sl cI),.val cI],[.val cI],fun _=>[],fun d=>((if d.2.1∈d.1 then (d.1.idxOf d.2.1:Int) else -1,()),())⟩
def an_slices_Index_263e:PDs ct_slices_Index_263e.ps->Anns:=(fun d=>{loops:=(fun n=>match n with|2=>some (fun S=>{ι:=Int,μ:=fun i=>(d.1.length-i).toNat,inv:=fun i=>0<=i/\i<=d.1.length∧∀ y∈d.1.take i.toNat,y≠d.2.1,keep:=[0,1,6,7],slots:=fun i=>[(8,.int .i64 i)],names:=fun i=>[]})|_=>none)})
theorem vc_slices_Index_263e :
 ∀(a:List Int) (b:Int),(a.length<=maxLen/\ ∀(c:Int),c∈a->R64 c)/\R64 b/\True->True->(∃(c:Int),(0<=c/\c<=(Qbm2 a)/\ ∀(d:Int),d∈List.take c.toNat a->d≠b)/\a=a/\b=b/\a=a/\(Qbm2 a)=(Qbm2 a)/\(0:Int)=c/\True)/\ ∀(c:Int),(0<=c/\c<=(Qbm2 a)/\ ∀(d:Int),d∈List.take c.toNat a->d≠b)->ifP (decide (c<(Qbm2 a))) (0<=c/\c<(Qbm2 a)/\ifP (decide (b=a.getD c.toNat default)) (c=if b∈a then (↑(List.idxOf b a):Int) else (-1:Int)) (∃(d:Int),(0<=d/\d<=(Qbm2 a)/\ ∀(e:Int),e∈List.take d.toNat a->e≠b)/\Int.toNat ((Qbm2 a) -d)<Int.toNat ((Qbm2 a) -c)/\a=a/\b=b/\a=a/\(Qbm2 a)=(Qbm2 a)/\IntKind.wrap .i64 (c+(1:Int))=d/\True)) ((-1:Int)=if b∈a then (↑(List.idxOf b a):Int) else (-1:Int)):=by
  delta Qbm2
  rintro x v ⟨⟨hl,-⟩,-⟩ -
  simp only [maxLen] at hl
  refine ⟨⟨0,⟨by omega,by omega,by simp⟩,(by repeat' first|exact trivial|refine ⟨trivial,?_⟩|refine ⟨(by with_reducible rfl),?_⟩|refine ⟨w64 (by omega) (by omega),?_⟩|refine ⟨rfl,?_⟩)⟩,?_⟩
  rintro j ⟨h0,h1,h2⟩
  refine ifP_split (fun hj => ?_) (fun hj => ?_)
  · have hj:=of_decide_eq_true hj
    refine ⟨h0,hj,ifP_split (fun hz => ?_) (fun hz => ?_)⟩
    · have hz:=of_decide_eq_true hz
      have hm:v∈x:=by rw [hz];exact getD_mem h0 hj
      rw [if_pos hm]
      have:=idxOf_at (l:=x) (v:=v) h0 hj hz.symm h2
      omega
    · have hz:=of_decide_eq_false hz
      refine ⟨j+1,⟨by omega,by omega,fun y hy => ?_⟩,by omega,(by repeat' first|exact trivial|refine ⟨trivial,?_⟩|refine ⟨(by with_reducible rfl),?_⟩|refine ⟨w64 (by omega) (by omega),?_⟩|refine ⟨rfl,?_⟩)⟩
      rcases mem_take_succ h0 hj hy with hy|rfl
      · exact h2 y hy
      · exact fun e=>hz e.symm
  · have hj:=of_decide_eq_false hj
    rw [List.take_of_length_le (by omega)] at h2
    rw [if_neg (fun hm=>h2 v hm rfl)]
theorem ok_slices_Index_263e:SpecOK Tryd.prog GL 92 ct_slices_Index_263e.spec:=Ct.okH _ Tryd.func92 (by kernel_rfl) noSpecs_ok hmix an_slices_Index_263e (hideMp (by kernel_rfl) vc_slices_Index_263e)
def ct_slices_Contains_263e:Ct:=⟨[.val (.sl cI),.val cI],[.val .bool],fun _=>[],fun d=>((decide (d.2.1∈d.1),()),())⟩
def an_slices_Contains_263e:PDs ct_slices_Contains_263e.ps->Anns:=(fun _=>{})
theorem vc_slices_Contains_263e :
 ∀(a:List Int) (b:Int),(a.length<=maxLen/\ ∀(c:Int),c∈a->R64 c)/\R64 b/\True->True->decide (0<=if b∈a then (↑(List.idxOf b a):Int) else (-1:Int))=decide (b∈a):=by
  rintro x v - -
  by_cases h:v∈x
  · rw [if_pos h];simp [h];
  · rw [if_neg h];simp [h]
theorem ok_slices_Contains_263e:SpecOK Tryd.prog GL 82 ct_slices_Contains_263e.spec:=Ct.okH _ Tryd.func82 (by kernel_rfl) (withSpec_ok noSpecs_ok ok_slices_Index_263e) hmix an_slices_Contains_263e (hideMp (by kernel_rfl) vc_slices_Contains_263e)
def ct_draw_Codes_Prefix:Cn:=⟨[.box 57 cCodes],[.agg cPfx],fun d=>[okC d.1],fun d y=>okC y.2.1/\pValid y.1.1=true,fun d h=>⟨(((0,0),()),(d.1,())),h.1,by simp [pValid]⟩⟩
def an_draw_Codes_Prefix:PDs ct_draw_Codes_Prefix.ps->Anns:=(fun _=>{})
def Qbm0 (c:Int) :=
 (32:Int) -List.getD [(0:Int),(8:Int),(16:Int),(24:Int),(29:Int),(30:Int),(31:Int),(32:Int)] c.toNat default
theorem vc_draw_Codes_Prefix :
 ∀(a:List Int) (b:Int),((a.length<=maxLen/\ ∀(c:Int),c∈a->0<=c/\c<=255)/\R64 b)/\True->0<=b/\b<=(Qbm2 a)->okC (a,b)/\ ∀(c:Int) (d:List Int) (e:Int),0<=c/\(c<8∨c=0)/\okC (d,e)->0<=c/\c<((List.length [(0:Int),(8:Int),(16:Int),(24:Int),(29:Int),(30:Int),(31:Int),(32:Int)]):Int)/\ifP (decide (List.getD [(0:Int),(8:Int),(16:Int),(24:Int),(29:Int),(30:Int),(31:Int),(32:Int)] c.toNat default=0)) (okC (d,e)/\pValid ((0:Int),(0:Int))=true) (okC (d,e)/\ ∀(f:Int) (g:List Int) (h:Int),okC (g,h)/\0<=f/\f<=4294967295->0<=IntKind.wrap .i64 (Qbm0 c)/\0<=IntKind.wrap .i64 (Qbm0 c)/\okC (g,h)/\pValid (shlI IntKind.u32 (shrI IntKind.u32 f (IntKind.wrap .i64 (Qbm0 c))) (IntKind.wrap .i64 (Qbm0 c)),List.getD [(0:Int),(8:Int),(16:Int),(24:Int),(29:Int),(30:Int),(31:Int),(32:Int)] c.toNat default)=true):=by
  delta Qbm0 Qbm2
  rintro l p-h
  refine ⟨h,?_⟩
  rintro r l2 p2 ⟨h1,h2,h3⟩
  have hk:0<=([0,8,16,24,29,30,31,32]:List Int).getD r.toNat default/\([0,8,16,24,29,30,31,32]:List Int).getD r.toNat default<=32 :=
    getD_all (p:=fun v=>0<=v/\v<=(32:Int)) (by simp) h1 (by simp;omega)
  generalize ([0,8,16,24,29,30,31,32]:List Int).getD r.toNat default=n at hk ⊢
  refine ⟨h1,by simp;omega,ifP_split (fun hz=>⟨h3,by simp [pValid]⟩) (fun hz=>⟨h3,?_⟩)⟩
  rintro a l3 p3 ⟨h4,h5,h6⟩
  rw [w64 (by omega) (by omega)]
  exact ⟨by omega,by omega,h4,shift_valid hk.1 hk.2 h5 h6⟩
theorem ok_draw_Codes_Prefix:SpecOK Tryd.prog GL 19 ct_draw_Codes_Prefix.spec:=Cn.okH _ Tryd.func19 (by kernel_rfl) (withSpec_ok (withSpec_ok noSpecs_ok ok_Next) ok_draw_Codes_Address) hmix an_draw_Codes_Prefix (hideMp (by kernel_rfl) vc_draw_Codes_Prefix)
end Go.RS

/- Reply: answers. -/
namespace Go.RS
open Go.SX Go.Proofs
set_option maxRecDepth 100000
set_option linter.unusedVariables false
def special (a:Int):Int :=
  if a/16777216=0 then 1 else if a/16777216=127 then 2
  else if a/16777216=10∨(a/16777216=172/\16<=a/65536%256/\a/65536%256<32)∨(a/16777216=192/\a/65536%256=168) then 3
  else if a/16777216=169/\a/65536%256=254 then 4
  else if 224<=a/16777216/\a/16777216<240 then 5 else if 240<=a/16777216 then 6 else 0
def usable (a:Int):Prop:=special a=0∨special a=3
instance (a:Int):Decidable (usable a):=by unfold usable;infer_instance
theorem shr24 {n:Int} (h0:0<=n):shrI .i64 n 24=n/16777216:=by
  have e:=shr_pow (n:=n) (k:=3) h0 (by omega)
  exact e
theorem i64_and255 (n:Int):bits .and .i64 n 255=n%256:=by
  have h127:(BitVec.ofInt 64 255).toNat=2^8-1:=by decide
  have key:(BitVec.ofInt 64 n &&& BitVec.ofInt 64 255).toNat=(n%((2^64:Nat):Int)).toNat%2^8:=by
    rw [BitVec.toNat_and,BitVec.toNat_ofInt,h127,Nat.and_two_pow_sub_one_eq_mod]
  show IntKind.i64.wrap ((BitVec.ofInt 64 n &&& BitVec.ofInt 64 255).toNat:Nat)=n%256
  rw [key,IntKind.wrap_i64]
  omega
theorem ct_num {p n a s:Int} (hs:sz n=s) (hn:0<=n/\n<=32) (hp:p%s=0):contains (p,n) a=decide (p<=a/\a<p+s):=by
  unfold contains pValid
  simp only
  rw [hs,decide_eq_true ⟨hn.1,hn.2,hp⟩,Bool.true_and]
def blkP (k:Int):Pfx:=([(0,8),(2130706432,8),(167772160,8),(2886729728,12),(3232235520,16),(2851995648,16),(3758096384,4),(4026531840,4)]:List Pfx).getD k.toNat (0,0)
def ct_address_Special:Ct:=⟨[.val cU32],[.val cI],fun d=>[],fun d=>((special d.1,()),())⟩
def an_address_Special:PDs ct_address_Special.ps->Anns:=(fun d=>{cuts:=(fun n=>match n with|6=>some (fun S=>{ι:=Unit,inv:=fun i=>contains (blkP (S.i 6)) d.1=false,keep:=[0,5,6],slots:=fun i=>[],names:=fun i=>[]})|_=>none),unr:=fun n=>match n with|2=>9|_=>0})
def Qbn0 :=
 (2:Int)^IntKind.bits IntKind.i64
def Qbn4 :=
 (nat_lit 0+nat_lit 1)%Int.natAbs (Qbn0)+nat_lit 1
def Qbn1 :=
 ((Qbn4)%Int.natAbs (Qbn0)+nat_lit 1)%Int.natAbs (Qbn0)+nat_lit 1
def Qbn6 :=
 IntKind.wrap .i64 ((0:Int)+(1:Int))+(1:Int)
def Qbn2 :=
 IntKind.wrap .i64 (IntKind.wrap .i64 (Qbn6)+(1:Int))+(1:Int)
def Qbn3 :=
 ((Qbn1)%Int.natAbs (Qbn0)+nat_lit 1)%Int.natAbs (Qbn0)+nat_lit 1
def Qbn5 :=
 IntKind.wrap .i64 (IntKind.wrap .i64 (Qbn2)+(1:Int))+(1:Int)
def Qbn8 :=
 (2130706432:Int)
def Qbn9 :=
 (2886729728:Int)
def Qbn10 :=
 (3232235520:Int)
def Qbn11 :=
 (2851995648:Int)
def Qbn12 :=
 (3758096384:Int)
def Qbn13 :=
 (4026531840:Int)
def Qbn14 :=
 blkP (Int.ofNat (((Qbn4)%Int.natAbs (Qbn0)+nat_lit 1)%Int.natAbs (Qbn0)))
def Qbn15 :=
 blkP (Int.ofNat (((Qbn1)%Int.natAbs (Qbn0)+nat_lit 1)%Int.natAbs (Qbn0)))
def Qbn16 :=
 blkP (Int.ofNat (((Qbn3)%Int.natAbs (Qbn0)+nat_lit 1)%Int.natAbs (Qbn0)))
def Qbn18 :=
 (167772160:Int)
theorem vc_address_Special :
 ∀(a:Int),(0<=a/\a<=4294967295)/\True->True->ifP (contains ((0:Int),(8:Int)) a) ((1:Int)=special a) (∃(b:Unit),contains (blkP (0:Int)) a=false/\a=a/\(0:Int)=0/\(8:Int)=8/\(1:Int)=1/\(Qbn8)=2130706432/\(8:Int)=8/\(2:Int)=2/\(Qbn18)=167772160/\(8:Int)=8/\(3:Int)=3/\(Qbn9)=2886729728/\(12:Int)=12/\(3:Int)=3/\(Qbn10)=3232235520/\(16:Int)=16/\(3:Int)=3/\(Qbn11)=2851995648/\(16:Int)=16/\(4:Int)=4/\(Qbn12)=3758096384/\(4:Int)=4/\(5:Int)=5/\(Qbn13)=4026531840/\(4:Int)=4/\(6:Int)=6/\(0:Int)=0/\True)/\ ∀(b:Unit),contains (blkP (0:Int)) a=false->ifP (contains ((Qbn8),(8:Int)) a) ((2:Int)=special a) (∃(c:Unit),contains (blkP (Int.ofNat ((nat_lit 0+nat_lit 1)%Int.natAbs (Qbn0))))
 a=false/\a=a/\(0:Int)=0/\(8:Int)=8/\(1:Int)=1/\(Qbn8)=2130706432/\(8:Int)=8/\(2:Int)=2/\(Qbn18)=167772160/\(8:Int)=8/\(3:Int)=3/\(Qbn9)=2886729728/\(12:Int)=12/\(3:Int)=3/\(Qbn10)=3232235520/\(16:Int)=16/\(3:Int)=3/\(Qbn11)=2851995648/\(16:Int)=16/\(4:Int)=4/\(Qbn12)=3758096384/\(4:Int)=4/\(5:Int)=5/\(Qbn13)=4026531840/\(4:Int)=4/\(6:Int)=6/\IntKind.wrap .i64 ((0:Int)+(1:Int))=IntKind.wrap .i64 ((0:Int)+(1:Int))/\True)/\ ∀(c:Unit),contains (blkP (Int.ofNat ((nat_lit 0+nat_lit 1)%Int.natAbs (Qbn0)))) a=false->ifP (contains ((Qbn18),(8:Int)) a) ((3:Int)=special a) (∃(d:Unit),contains (blkP (Int.ofNat ((Qbn4)%Int.natAbs (Qbn0))))
 a=false/\a=a/\(0:Int)=0/\(8:Int)=8/\(1:Int)=1/\(Qbn8)=2130706432/\(8:Int)=8/\(2:Int)=2/\(Qbn18)=167772160/\(8:Int)=8/\(3:Int)=3/\(Qbn9)=2886729728/\(12:Int)=12/\(3:Int)=3/\(Qbn10)=3232235520/\(16:Int)=16/\(3:Int)=3/\(Qbn11)=2851995648/\(16:Int)=16/\(4:Int)=4/\(Qbn12)=3758096384/\(4:Int)=4/\(5:Int)=5/\(Qbn13)=4026531840/\(4:Int)=4/\(6:Int)=6/\IntKind.wrap .i64 (Qbn6)=IntKind.wrap .i64 (Qbn6)/\True)/\ ∀(d:Unit),contains (blkP (Int.ofNat ((Qbn4)%Int.natAbs (Qbn0)))) a=false->ifP (contains ((Qbn9),(12:Int)) a) ((3:Int)=special a) (∃(e:Unit),contains (Qbn14)
 a=false/\a=a/\(0:Int)=0/\(8:Int)=8/\(1:Int)=1/\(Qbn8)=2130706432/\(8:Int)=8/\(2:Int)=2/\(Qbn18)=167772160/\(8:Int)=8/\(3:Int)=3/\(Qbn9)=2886729728/\(12:Int)=12/\(3:Int)=3/\(Qbn10)=3232235520/\(16:Int)=16/\(3:Int)=3/\(Qbn11)=2851995648/\(16:Int)=16/\(4:Int)=4/\(Qbn12)=3758096384/\(4:Int)=4/\(5:Int)=5/\(Qbn13)=4026531840/\(4:Int)=4/\(6:Int)=6/\IntKind.wrap .i64 (IntKind.wrap .i64 (Qbn6)+(1:Int))=IntKind.wrap .i64 (IntKind.wrap .i64 (Qbn6)+(1:Int))/\True)/\ ∀(e:Unit),contains (Qbn14) a=false->ifP (contains ((Qbn10),(16:Int)) a) ((3:Int)=special a) (∃(f:Unit),contains (blkP (Int.ofNat ((Qbn1)%Int.natAbs (Qbn0))))
 a=false/\a=a/\(0:Int)=0/\(8:Int)=8/\(1:Int)=1/\(Qbn8)=2130706432/\(8:Int)=8/\(2:Int)=2/\(Qbn18)=167772160/\(8:Int)=8/\(3:Int)=3/\(Qbn9)=2886729728/\(12:Int)=12/\(3:Int)=3/\(Qbn10)=3232235520/\(16:Int)=16/\(3:Int)=3/\(Qbn11)=2851995648/\(16:Int)=16/\(4:Int)=4/\(Qbn12)=3758096384/\(4:Int)=4/\(5:Int)=5/\(Qbn13)=4026531840/\(4:Int)=4/\(6:Int)=6/\IntKind.wrap .i64 (Qbn2)=IntKind.wrap .i64 (Qbn2)/\True)/\ ∀(f:Unit),contains (blkP (Int.ofNat ((Qbn1)%Int.natAbs (Qbn0)))) a=false->ifP (contains ((Qbn11),(16:Int)) a) ((4:Int)=special a) (∃(g:Unit),contains (Qbn15)
 a=false/\a=a/\(0:Int)=0/\(8:Int)=8/\(1:Int)=1/\(Qbn8)=2130706432/\(8:Int)=8/\(2:Int)=2/\(Qbn18)=167772160/\(8:Int)=8/\(3:Int)=3/\(Qbn9)=2886729728/\(12:Int)=12/\(3:Int)=3/\(Qbn10)=3232235520/\(16:Int)=16/\(3:Int)=3/\(Qbn11)=2851995648/\(16:Int)=16/\(4:Int)=4/\(Qbn12)=3758096384/\(4:Int)=4/\(5:Int)=5/\(Qbn13)=4026531840/\(4:Int)=4/\(6:Int)=6/\IntKind.wrap .i64 (IntKind.wrap .i64 (Qbn2)+(1:Int))=IntKind.wrap .i64 (IntKind.wrap .i64 (Qbn2)+(1:Int))/\True)/\ ∀(g:Unit),contains (Qbn15) a=false->ifP (contains ((Qbn12),(4:Int)) a) ((5:Int)=special a) (∃(h:Unit),contains (blkP (Int.ofNat ((Qbn3)%Int.natAbs (Qbn0))))
 a=false/\a=a/\(0:Int)=0/\(8:Int)=8/\(1:Int)=1/\(Qbn8)=2130706432/\(8:Int)=8/\(2:Int)=2/\(Qbn18)=167772160/\(8:Int)=8/\(3:Int)=3/\(Qbn9)=2886729728/\(12:Int)=12/\(3:Int)=3/\(Qbn10)=3232235520/\(16:Int)=16/\(3:Int)=3/\(Qbn11)=2851995648/\(16:Int)=16/\(4:Int)=4/\(Qbn12)=3758096384/\(4:Int)=4/\(5:Int)=5/\(Qbn13)=4026531840/\(4:Int)=4/\(6:Int)=6/\IntKind.wrap .i64 (Qbn5)=IntKind.wrap .i64 (Qbn5)/\True)/\ ∀(h:Unit),contains (blkP (Int.ofNat ((Qbn3)%Int.natAbs (Qbn0)))) a=false->ifP (contains ((Qbn13),(4:Int)) a) ((6:Int)=special a) (∃(i:Unit),contains (Qbn16)
 a=false/\a=a/\(0:Int)=0/\(8:Int)=8/\(1:Int)=1/\(Qbn8)=2130706432/\(8:Int)=8/\(2:Int)=2/\(Qbn18)=167772160/\(8:Int)=8/\(3:Int)=3/\(Qbn9)=2886729728/\(12:Int)=12/\(3:Int)=3/\(Qbn10)=3232235520/\(16:Int)=16/\(3:Int)=3/\(Qbn11)=2851995648/\(16:Int)=16/\(4:Int)=4/\(Qbn12)=3758096384/\(4:Int)=4/\(5:Int)=5/\(Qbn13)=4026531840/\(4:Int)=4/\(6:Int)=6/\IntKind.wrap .i64 (IntKind.wrap .i64 (Qbn5)+(1:Int))=IntKind.wrap .i64 (IntKind.wrap .i64 (Qbn5)+(1:Int))/\True)/\ ∀(i:Unit),contains (Qbn16) a=false->(0:Int)=special a:=by
  delta Qbn0 Qbn1 Qbn2 Qbn3 Qbn4 Qbn5 Qbn6 Qbn8 Qbn9 Qbn10 Qbn11 Qbn12 Qbn13 Qbn14 Qbn15 Qbn16 Qbn18
  rintro a ⟨⟨a0,a1⟩,-⟩ -
  have q0:=ct_num (p:=0) (n:=8) (a:=a) (s:=16777216) rfl (by omega) (by omega)
  have q1:=ct_num (p:=2130706432) (n:=8) (a:=a) (s:=16777216) rfl (by omega) (by omega)
  have q2:=ct_num (p:=167772160) (n:=8) (a:=a) (s:=16777216) rfl (by omega) (by omega)
  have q3:=ct_num (p:=2886729728) (n:=12) (a:=a) (s:=1048576) rfl (by omega) (by omega)
  have q4:=ct_num (p:=3232235520) (n:=16) (a:=a) (s:=65536) rfl (by omega) (by omega)
  have q5:=ct_num (p:=2851995648) (n:=16) (a:=a) (s:=65536) rfl (by omega) (by omega)
  have q6:=ct_num (p:=3758096384) (n:=4) (a:=a) (s:=268435456) rfl (by omega) (by omega)
  have q7:=ct_num (p:=4026531840) (n:=4) (a:=a) (s:=268435456) rfl (by omega) (by omega)
  refine ⟨ifP_split (fun h => ?_) (fun h=>⟨(),h,(by repeat' first|exact trivial|refine ⟨trivial,?_⟩|refine ⟨(by with_reducible rfl),?_⟩|refine ⟨w64 (by omega) (by omega),?_⟩|refine ⟨rfl,?_⟩)⟩),?_⟩
  · rw [q0] at h
    have h:=of_decide_eq_true h
    unfold special;rw [if_pos (by omega)]
  rintro-h
  have h:contains (0,8) a=false:=h
  rw [q0] at h
  have h0:=of_decide_eq_false h
  refine ⟨ifP_split (fun h => ?_) (fun h=>⟨(),h,(by repeat' first|exact trivial|refine ⟨trivial,?_⟩|refine ⟨(by with_reducible rfl),?_⟩|refine ⟨w64 (by omega) (by omega),?_⟩|refine ⟨rfl,?_⟩)⟩),?_⟩
  · rw [q1] at h
    have h:=of_decide_eq_true h
    unfold special;rw [if_neg (by omega),if_pos (by omega)]
  rintro-h
  have h:contains (2130706432,8) a=false:=h
  rw [q1] at h
  have h1:=of_decide_eq_false h
  refine ⟨ifP_split (fun h => ?_) (fun h=>⟨(),h,(by repeat' first|exact trivial|refine ⟨trivial,?_⟩|refine ⟨(by with_reducible rfl),?_⟩|refine ⟨w64 (by omega) (by omega),?_⟩|refine ⟨rfl,?_⟩)⟩),?_⟩
  · rw [q2] at h
    have h:=of_decide_eq_true h
    unfold special;rw [if_neg (by omega),if_neg (by omega),if_pos (by omega)]
  rintro-h
  have h:contains (167772160,8) a=false:=h
  rw [q2] at h
  have h2:=of_decide_eq_false h
  refine ⟨ifP_split (fun h => ?_) (fun h=>⟨(),h,(by repeat' first|exact trivial|refine ⟨trivial,?_⟩|refine ⟨(by with_reducible rfl),?_⟩|refine ⟨w64 (by omega) (by omega),?_⟩|refine ⟨rfl,?_⟩)⟩),?_⟩
  · rw [q3] at h
    have h:=of_decide_eq_true h
    unfold special;rw [if_neg (by omega),if_neg (by omega),if_pos (by omega)]
  rintro-h
  have h:contains (2886729728,12) a=false:=h
  rw [q3] at h
  have h3:=of_decide_eq_false h
  refine ⟨ifP_split (fun h => ?_) (fun h=>⟨(),h,(by repeat' first|exact trivial|refine ⟨trivial,?_⟩|refine ⟨(by with_reducible rfl),?_⟩|refine ⟨w64 (by omega) (by omega),?_⟩|refine ⟨rfl,?_⟩)⟩),?_⟩
  · rw [q4] at h
    have h:=of_decide_eq_true h
    unfold special;rw [if_neg (by omega),if_neg (by omega),if_pos (by omega)]
  rintro-h
  have h:contains (3232235520,16) a=false:=h
  rw [q4] at h
  have h4:=of_decide_eq_false h
  refine ⟨ifP_split (fun h => ?_) (fun h=>⟨(),h,(by repeat' first|exact trivial|refine ⟨trivial,?_⟩|refine ⟨(by with_reducible rfl),?_⟩|refine ⟨w64 (by omega) (by omega),?_⟩|refine ⟨rfl,?_⟩)⟩),?_⟩
  · rw [q5] at h
    have h:=of_decide_eq_true h
    unfold special;rw [if_neg (by omega),if_neg (by omega),if_neg (by omega),if_pos (by omega)]
  rintro-h
  have h:contains (2851995648,16) a=false:=h
  rw [q5] at h
  have h5:=of_decide_eq_false h
  refine ⟨ifP_split (fun h => ?_) (fun h=>⟨(),h,(by repeat' first|exact trivial|refine ⟨trivial,?_⟩|refine ⟨(by with_reducible rfl),?_⟩|refine ⟨w64 (by omega) (by omega),?_⟩|refine ⟨rfl,?_⟩)⟩),?_⟩
  · rw [q6] at h
    have h:=of_decide_eq_true h
    unfold special;rw [if_neg (by omega),if_neg (by omega),if_neg (by omega),if_neg (by omega),if_pos (by omega)]
  rintro-h
  have h:contains (3758096384,4) a=false:=h
  rw [q6] at h
  have h6:=of_decide_eq_false h
  refine ⟨ifP_split (fun h => ?_) (fun h=>⟨(),h,(by repeat' first|exact trivial|refine ⟨trivial,?_⟩|refine ⟨(by with_reducible rfl),?_⟩|refine ⟨w64 (by omega) (by omega),?_⟩|refine ⟨rfl,?_⟩)⟩),?_⟩
  · rw [q7] at h
    have h:=of_decide_eq_true h
    unfold special;rw [if_neg (by omega),if_neg (by omega),if_neg (by omega),if_neg (by omega),if_neg (by omega),if_pos (by omega)]
  rintro-h
  have h:contains (4026531840,4) a=false:=h
  rw [q7] at h
  have h7:=of_decide_eq_false h
  unfold special;rw [if_neg (by omega),if_neg (by omega),if_neg (by omega),if_neg (by omega),if_neg (by omega),if_neg (by omega)]
theorem ok_address_Special:SpecOK Tryd.prog GL 73 ct_address_Special.spec:=Ct.okH _ Tryd.func73 (by kernel_rfl) (withConc_ok (withSpec_ok noSpecs_ok ok_address_Contains) (d:=8)) hmix an_address_Special (hideMp (by kernel_rfl) vc_address_Special)
def ct_ref01_Special:Ct:=⟨[.val cU32],[.val cI],fun d=>[],fun d=>((special d.1,()),())⟩
def an_ref01_Special:PDs ct_ref01_Special.ps->Anns:=(fun _=>{})
def Qbn7 (a:Int) :=
 IntKind.wrap .i64 a
def Qbn17 (a:Int) :=
 shrI IntKind.i64 (Qbn7 a) (16:Int)
theorem vc_ref01_Special :
 ∀(a:Int),(0<=a/\a<=4294967295)/\True->True->(0:Int)<=24/\(0:Int)<=16/\ifP (decide (shrI IntKind.i64 (Qbn7 a) (24:Int)=0)) ((1:Int)=special a) (ifP (decide (shrI IntKind.i64 (Qbn7 a) (24:Int)=127)) ((2:Int)=special a) (∀(b:Bool),b=decide (shrI IntKind.i64 (Qbn7 a) (24:Int)=10)->((! b)->((! b)->(! b))/\True)/\((! b)->((! b)->(! b))/\True)/\ ∀(c:Bool),c=decide (shrI IntKind.i64 (Qbn7 a) (24:Int)=172)->((! b&&c)->((! b&&c)->(! b&&c))/\True)/\((! b)->((! b)->(! b))/\(c->(! b&&c))/\True)/\((! b)->((! b)->(! b))/\True)/\ ∀(d:Bool),(d=bif c then decide (16<=bits BinOp.and IntKind.i64 (Qbn17 a) (255:Int)) else false)->((! b&&d)->((! b&&d)->(! b&&d))/\True)/\((! b)->((! b)->(! b))/\(d->(! b&&d))/\True)/\(b=false->(! b))/\ ∀(e:Bool),(e=bif b then true else bif d then decide (bits BinOp.and IntKind.i64 (Qbn17 a) (255:Int)<32) else false)->((! e)->((! e)->(! e))/\True)/\((! e)->((! e)->(! e))/\True)/\
 ∀(f:Bool),f=decide (shrI IntKind.i64 (Qbn7 a) (24:Int)=192)->((! e&&f)->((! e&&f)->(! e&&f))/\True)/\((! e)->((! e)->(! e))/\(f->(! e&&f))/\True)/\(e=false->(! e))/\ifP (bif e then true else bif f then decide (bits BinOp.and IntKind.i64 (Qbn17 a) (255:Int)=168) else false) ((3:Int)=special a) (∀(g:Bool),g=decide (shrI IntKind.i64 (Qbn7 a) (24:Int)=169)->(g->(g->g)/\True)/\(g->g)/\ifP (bif g then decide (bits BinOp.and IntKind.i64 (Qbn17 a) (255:Int)=254) else false) ((4:Int)=special a) (∀(h:Bool),h=decide (224<=shrI IntKind.i64 (Qbn7 a) (24:Int))->(h->(h->h)/\True)/\(h->h)/\ifP (bif h then decide (shrI IntKind.i64 (Qbn7 a) (24:Int)<240) else false) ((5:Int)=special a) (ifP (decide (240<=shrI IntKind.i64 (Qbn7 a) (24:Int))) ((6:Int)=special a) ((0:Int)=special a)))))):=by
  delta Qbn7 Qbn17
  rintro a ⟨⟨a0,a1⟩,-⟩ -
  rw [w64 (n:=a) (by omega) (by omega),shr24 a0,shr16 a0,i64_and255]
  refine ⟨by omega,by omega,ifP_split (fun h => ?_) (fun h => ?_)⟩
  · rw [special,if_pos (of_decide_eq_true h)]
  have h1:=of_decide_eq_false h
  refine ifP_split (fun h => ?_) (fun h => ?_)
  · rw [special,if_neg h1,if_pos (of_decide_eq_true h)]
  have h2:=of_decide_eq_false h
  rw [special,if_neg h1,if_neg h2]
  (repeat (intro (b_:Bool) (hb_:b_=_);(repeat refine ⟨(by first|(simp;done)|(rw [hb_];simp;done)|(rw [hb_];simp;omega)|(rw [hb_];simp;intros;omega)|(rw [hb_];simp +contextual;done)),?_⟩);subst hb_))
  refine ⟨fun h=>by rw [h];rfl,?_⟩
  refine ifP_split (fun h => ?_) (fun h => ?_)
  · rw [if_pos]
    simp [Bool.cond_eq_ite] at h;omega
  have h3:¬ (a/16777216=10∨(a/16777216=172/\16<=a/65536%256/\a/65536%256<32)∨(a/16777216=192/\a/65536%256=168)):=by
    simp [Bool.cond_eq_ite] at h;omega
  rw [if_neg h3]
  clear h
  (repeat (intro (b_:Bool) (hb_:b_=_);(repeat refine ⟨(by first|(simp;done)|(rw [hb_];simp;done)|(rw [hb_];simp;omega)|(rw [hb_];simp;intros;omega)|(rw [hb_];simp +contextual;done)),?_⟩);subst hb_))
  refine ifP_split (fun h => ?_) (fun h => ?_)
  · rw [if_pos]
    simp [Bool.cond_eq_ite] at h;omega
  have h4:¬ (a/16777216=169/\a/65536%256=254):=by
    simp [Bool.cond_eq_ite] at h;omega
  rw [if_neg h4]
  clear h
  (repeat (intro (b_:Bool) (hb_:b_=_);(repeat refine ⟨(by first|(simp;done)|(rw [hb_];simp;done)|(rw [hb_];simp;omega)|(rw [hb_];simp;intros;omega)|(rw [hb_];simp +contextual;done)),?_⟩);subst hb_))
  refine ifP_split (fun h => ?_) (fun h => ?_)
  · rw [if_pos]
    simp [Bool.cond_eq_ite] at h;omega
  have h5:¬ (224<=a/16777216/\a/16777216<240):=by
    simp [Bool.cond_eq_ite] at h;omega
  rw [if_neg h5]
  exact ifP_split (fun h=>by rw [if_pos (of_decide_eq_true h)]) (fun h=>by rw [if_neg (of_decide_eq_false h)])
theorem ok_ref01_Special:SpecOK Tryd.prog GL 68 ct_ref01_Special.spec:=Ct.okH _ Tryd.func68 (by kernel_rfl) noSpecs_ok hmix an_ref01_Special (hideMp (by kernel_rfl) vc_ref01_Special)
def ct_ref01_Usable:Ct:=⟨[.val cU32],[.val .bool],fun d=>[],fun d=>((decide (usable d.1),()),())⟩
def an_ref01_Usable:PDs ct_ref01_Usable.ps->Anns:=(fun _=>{})
theorem vc_ref01_Usable :
 ∀(a:Int),(0<=a/\a<=4294967295)/\True->True-> ∀(b:Bool),b=decide (special a=0)->((! b)->((! b)->(! b))/\True)/\((! b)->((! b)->(! b))/\True)/\(b=false->(! b))/\(bif b then true else decide (special a=3))=decide (usable a):=by
  rintro a - -
  (repeat (intro (b_:Bool) (hb_:b_=_);(repeat refine ⟨(by first|(simp;done)|(rw [hb_];simp;done)|(rw [hb_];simp;omega)|(rw [hb_];simp;intros;omega)|(rw [hb_];simp +contextual;done)),?_⟩);subst hb_))
  rw [Bool.eq_iff_iff,decide_eq_true_iff];simp [usable,Bool.cond_eq_ite]
theorem ok_ref01_Usable:SpecOK Tryd.prog GL 47 ct_ref01_Usable.spec:=Ct.okH _ Tryd.func47 (by kernel_rfl) (withSpec_ok noSpecs_ok ok_ref01_Special) hmix an_ref01_Usable (hideMp (by kernel_rfl) vc_ref01_Usable)
end Go.RS
