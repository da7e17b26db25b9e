/- SX, part 22: a function's contract, off its symbolic run (the proof). -/
import Derived.Test.YtfgcoeablgoccaaGreatDoorSx21
import Derived.ProofKit
import Derived.OpenShut
import Derived.ChangeOld
import Derived.Below
import Derived.KernelRfl
import Derived.Test.YtfgcoeablgoccaaGreatDoorChecked
import Derived.Laws.Bits64
import Derived.Laws.Bits128
import Derived.Laws.BitsAllLaws
namespace Go.SX
set_option linter.unusedVariables false
def boxR:List Nat->Nat->Rn
  | [],_=>[]
  | n::bx,j=>(n,some (PN+j))::boxR bx (j+1)
def resR:List (Option Nat)->Nat->Rn
  | [],_=>[]
  | o::r,n=>(n,o)::resR r (n+1)
theorem lookR_append {a b:Rn} {n:Nat}:lookR (a++b) n=(match lookR a n with|some x=>some x|none=>lookR b n):=by
  induction a with
  | nil=>rfl
  | cons p a ih =>
    obtain ⟨m,x⟩:=p
    simp only [List.cons_append,lookR_cons]
    split
    · rfl
    · exact ih
theorem boxR_look:∀ {bx:List Nat} {j n:Nat} {y:Option Nat},lookR (boxR bx j) n=some y→∃ i,bx[i]? = some n/\y=some (PN+(j+i))
  | [],j,n,y,h=>by simp [boxR,lookR] at h
  | m::bx,j,n,y,h=>by
    simp only [boxR,lookR_cons] at h
    split at h
    · rename_i e;cases h;exact ⟨0,by simp [e],rfl⟩
    · obtain ⟨i,h1,h2⟩:=boxR_look h
      exact ⟨i+1,by simpa using h1,by rw [h2,show j+1+i=j+(i+1) from by omega]⟩
theorem boxR_at:∀ {bx:List Nat} {j n i:Nat},bx.Nodup->bx[i]? = some n->lookR (boxR bx j) n=some (some (PN+(j+i)))
  | [],j,n,i,_,h=>by simp at h
  | m::bx,j,n,0,_,h=>by
    simp at h;subst h
    simp only [boxR,lookR_cons,if_pos,Nat.add_zero]
  | m::bx,j,n,i+1,hn,h=>by
    have h':bx[i]? = some n:=by simpa using h
    obtain ⟨h1,h2⟩:=List.nodup_cons.1 hn
    have hne:n≠m:=fun e=>h1 (e▸List.mem_of_getElem? h')
    simp only [boxR,lookR_cons,if_neg hne,boxR_at h2 h']
    rw [show j+1+i=j+(i+1) from by omega]
theorem boxR_none {bx:List Nat} {j n:Nat} (h:n ∉ bx):lookR (boxR bx j) n=none:=by
  cases hl:lookR (boxR bx j) n with
  | none=>rfl
  | some y=>obtain ⟨i,hi,_⟩:=boxR_look hl;exact absurd (List.mem_of_getElem? hi) h
theorem resR_look:∀ {ow:List (Option Nat)} {n0 n:Nat} {y:Option Nat},lookR (resR ow n0) n=some y→∃ i,ow[i]? = some y/\n=n0+i
  | [],n0,n,y,h=>by simp [resR,lookR] at h
  | o::ow,n0,n,y,h=>by
    simp only [resR,lookR_cons] at h
    split at h
    · rename_i e;cases h;exact ⟨0,by simp,by omega⟩
    · obtain ⟨i,h1,h2⟩:=resR_look h
      exact ⟨i+1,by simpa using h1,by omega⟩
theorem resR_at:∀ {ow:List (Option Nat)} {n0 i:Nat} {o:Option Nat},ow[i]? = some o->lookR (resR ow n0) (n0+i)=some o
  | [],n0,i,o,h=>by simp at h
  | p::ow,n0,0,o,h=>by simp at h;subst h;simp [resR,lookR_cons]
  | p::ow,n0,i+1,o,h=>by
    have h':ow[i]? = some o:=by simpa using h
    have:=resR_at (n0:=n0+1) h'
    simp only [resR,lookR_cons,if_neg (show ¬ n0+(i+1)=n0 from by omega)]
    rw [show n0+(i+1)=n0+1+i from by omega];exact this
theorem memO_iff {n:Nat}:∀ {l:List (Option Nat)},memO n l=true↔some n∈l
  | []=>by simp [memO]
  | none::r=>by simp [memO,memO_iff (l:=r)]
  | some m::r=>by simp [memO,memO_iff (l:=r)]
theorem ownOk_spec {fz:List (Nat×Nm)}:∀ {ow:List (Option Nat)},ownOk fz ow=true→∀ (i m:Nat),ow[i]? = some (some m)->(m<PN∨QN<=m)/\m ∉ fz.map (·.1)∧∀ i':Nat,ow[i']? = some (some m)->i=i'
  | [],_,i,m,h=>by simp at h
  | none::r,h,i,m,hi=>by
    simp only [ownOk] at h
    cases i with
    | zero=>simp at hi
    | succ i =>
      obtain ⟨h1,h2,h3⟩:=ownOk_spec h i m (by simpa using hi)
      refine ⟨h1,h2,fun i' hi' => ?_⟩
      cases i' with
      | zero=>simp at hi'
      | succ i'=>rw [h3 i' (by simpa using hi')]
  | some q::r,h,i,m,hi=>by
    simp only [ownOk,Bool.and_eq_true,Bool.or_eq_true,Bool.not_eq_true'] at h
    obtain ⟨⟨⟨h1,h2⟩,h3⟩,h4⟩:=h
    have hno:∀ i:Nat,r[i]? ≠ some (some q):=fun i hi=>by
      have:memO q r=true:=memO_iff.2 (List.mem_of_getElem? hi)
      rw [this] at h3;cases h3
    cases i with
    | zero =>
      simp at hi;subst hi
      refine ⟨h1.imp (fun h=>Nat.le_of_ble_eq_true h) (fun h=>Nat.le_of_ble_eq_true h),notIn_spec h2,fun i' hi' => ?_⟩
      cases i' with
      | zero=>rfl
      | succ i'=>exact absurd (by simpa using hi') (hno i')
    | succ i =>
      obtain ⟨g1,g2,g3⟩:=ownOk_spec h4 i m (by simpa using hi)
      refine ⟨g1,g2,fun i' hi' => ?_⟩
      cases i' with
      | zero=>simp at hi';subst hi';exact absurd (by simpa using hi) (hno i)
      | succ i'=>rw [g3 i' (by simpa using hi')]
theorem allLt_spec:∀ {fz:List (Nat×Nm)},allLt fz=true→∀ n,n∈fz.map (·.1)->n<PN∨QN<=n
  | [],_,n,h=>by simp at h
  | (m,b)::r,h,n,hn=>by
    simp only [allLt,Bool.and_eq_true,Bool.or_eq_true] at h
    rcases List.mem_cons.1 hn with e|hn
    · have e:n=m:=e
      subst e;exact h.1.imp (fun h=>Nat.le_of_ble_eq_true h) (fun h=>Nat.le_of_ble_eq_true h)
    · exact allLt_spec h.2 n hn
theorem disjN_spec {fz:List (Nat×Nm)}:∀ {bx:List Nat},disjN fz bx=true→∀ n,n∈bx->n ∉ fz.map (·.1)
  | [],_,n,h=>by simp at h
  | m::r,h,n,hn=>by
    simp only [disjN,Bool.and_eq_true] at h
    rcases List.mem_cons.1 hn with rfl|hn
    · exact notIn_spec h.1
    · exact disjN_spec h.2 n hn
theorem askUn_spec {h:Heap} {dl d:Dl}:∀ {k n:Nat} {r:List Nat},(askUn n k dl).run h=some (d,r)->d=dl∧∀ i,i<k->h (n+i) = .un
  | 0,n,r,e=>by
    simp only [askUn,Q.run,Option.some.injEq,Prod.mk.injEq] at e
    exact ⟨e.1.symm,fun i hi=>by omega⟩
  | k+1,n,r,e=>by
    simp only [askUn,Q.run] at e
    split at e
    · rename_i p q hk
      simp only [Option.some.injEq,Prod.mk.injEq] at e
      obtain ⟨rfl,rfl⟩:=e
      split at hk
      · rename_i hun
        obtain ⟨h1,h2⟩:=askUn_spec hk
        refine ⟨h1,fun i hi => ?_⟩
        cases i with
        | zero=>exact hun
        | succ i=>rw [show n+(i+1)=n+1+i from by omega];exact h2 i (by omega)
      · cases hk
    · cases e
theorem mem_deadU {n:Nat} {x:Nm}:∀ {cx:List (Option Nat)},(n,x)∈deadU cx->x = .dead/\n∈somes cx
  | [],h=>by simp [deadU] at h
  | none::r,h=>by simp only [deadU] at h;simpa only [somes] using mem_deadU (cx:=r) h
  | some m::r,h=>by
    simp only [deadU] at h
    rcases List.mem_cons.1 h with h|h
    · cases h;exact ⟨rfl,List.mem_cons_self ..⟩
    · obtain ⟨h1,h2⟩:=mem_deadU (cx:=r) h
      exact ⟨h1,List.mem_cons_of_mem _ h2⟩
theorem deadU_keys:∀ {cx:List (Option Nat)},(deadU cx).map (·.1)=somes cx
  | []=>rfl
  | none::r=>by simp only [deadU,somes];exact deadU_keys (cx:=r)
  | some m::r=>by simp only [deadU,somes,List.map_cons,deadU_keys (cx:=r)]
def sCell (P:Program) (ty:TypeId) (v:SV) (h:Heap):Option SV:=match v with
  | .ptr n off=>match h n with
    | .live (.cells _ cs)=>partS P ty cs off
    | _=>none
  | _=>none
def resSVs (P:Program):List ResultVar->List SV->Heap->Option (List SV)
  | [],_,_=>some []
  | .tmp t::r,sl,h=>match resSVs P r sl h with
    | some l=>some (getSl sl t::l)
    | none=>none
  | .cell a ty::r,sl,h=>match sCell P ty (getSl sl a) h,resSVs P r sl h with
    | some v,some l=>some (v::l)
    | _,_=>none
def mkRes (l:List Value):Value:=if h:l.toArray.size=1 then l.toArray[0] else .tuple l.toArray
theorem sCell_sound {P:Program} {w0:World} {N0:Old} {A:Nat->Prop} {env:Env} {h:Heap} {w:World} (m:Mod w0 N0 A env h w) {ty:TypeId} {s s':SV} {v:Value} (e:sCell P ty s h=some s') (hd:Den A env w s v) :
    ∃ u,(do loadVar ty (← asAddr v):Sem Value).run P w = .ok u w/\Den A env w s' u:=by
  unfold sCell at e
  split at e
  · rename_i n off
    split at e
    · rename_i E cs hl
      simp only [Den] at hd
      obtain ⟨b,l,he,rfl⟩:=hd
      obtain ⟨⟨vs,hh,hd⟩,_⟩:=m.live_blk hl he
      obtain ⟨u,hr,hv⟩:=partS_load (o:=0) (k:=b) e hd (fun j hj=>by rw [cell_of_row w b _ vs E (0,0) hh];simp)
      rw [Nat.zero_add] at hr
      exact ⟨u,by simp [asAddr,hr],hv⟩
    · cases e
  · cases e
theorem mapM_res {P:Program} {w0:World} {N0:Old} {A:Nat->Prop} {env:Env} {h:Heap} {w:World} (m:Mod w0 N0 A env h w) {sl:List SV} {a:Act} (f:FD A env w (getSl sl) a) {F:ResultVar->Sem Value}
    (h1:∀ t,F (.tmp t)=pure (a.tmps.getD t undef)) (h2:∀ t ty,F (.cell t ty)=do loadVar ty (← asAddr (a.tmps.getD t undef))):∀ (l:List ResultVar) (svs:List SV),resSVs P l sl h=some svs →
    ∃ vs,(l.mapM F).run P w = .ok vs w/\DenL A env w svs vs
  | [],svs,e=>by cases e;exact ⟨[],rfl,by simp [DenL]⟩
  | .tmp t::l,svs,e=>by
    simp only [resSVs] at e
    split at e
    · rename_i l' hl
      cases e
      obtain ⟨vs,hr,hd⟩:=mapM_res m f h1 h2 l l' hl
      refine ⟨a.tmps.getD t undef::vs,?_,by simp only [DenL];exact ⟨_,_,rfl,f t,hd⟩⟩
      rw [List.mapM_cons,h1]
      simp [hr]
    · cases e
  | .cell t ty::l,svs,e=>by
    simp only [resSVs] at e
    split at e
    · rename_i v l' hv hl
      cases e
      obtain ⟨vs,hr,hd⟩:=mapM_res m f h1 h2 l l' hl
      obtain ⟨u,hu,hdu⟩:=sCell_sound m hv (f t)
      refine ⟨u::vs,?_,by simp only [DenL];exact ⟨_,_,rfl,hdu,hd⟩⟩
      rw [List.mapM_cons,h2,Sem.run_bind,hu]
      simp [hr]
    · cases e
theorem results_run {P:Program} {w0:World} {N0:Old} {A:Nat->Prop} {env:Env} {h:Heap} {w:World} (m:Mod w0 N0 A env h w) {sl:List SV} {a:Act} (f:FD A env w (getSl sl) a) {fn:Func} {svs:List SV} (e:resSVs P fn.results.toList sl h=some svs) :
    ∃ vs,(results fn a.tmps).run P w = .ok (mkRes vs) w/\DenL A env w svs vs:=by
  unfold results
  rw [Array.mapM_eq_mapM_toList]
  obtain ⟨vs,hr,hd⟩:=mapM_res (P:=P) m f (F:=fun | .tmp t=>pure (a.tmps.getD t undef) | .cell t ty=>do loadVar ty (← asAddr (a.tmps.getD t undef))) (fun t=>rfl) (fun t ty=>rfl) fn.results.toList svs e
  refine ⟨vs,?_,hd⟩
  rw [Sem.run_bind,Sem.run_map]
  erw [hr]
  rfl
theorem resV_den {A:Nat->Prop} {env:Env} {w:World} {svs:List SV} {vs:List Value} (h:DenL A env w svs vs):Den A env w (resV svs) (mkRes vs):=by
  have hl:=DenL_length h
  unfold resV
  split
  · simp only [DenL] at h
    obtain ⟨v,r,rfl,h,rfl⟩:=h
    exact h
  · rename_i hne
    have:¬ vs.length=1:=fun e=>by
      rw [hl] at e
      obtain ⟨x,hx⟩:=List.length_eq_one_iff.1 e
      exact hne x hx
    simp only [mkRes,Den]
    rw [dif_neg (by simpa using this)]
    exact ⟨_,rfl,h⟩
def conjE:List Prop->Prop
  | []=>True
  | [p]=>p
  | p::q::r=>p/\conjE (q::r)
theorem conjE_iff:∀ {l:List Prop},conjE l↔conj l
  | []=>Iff.rfl
  | [p]=>by simp [conjE,conj]
  | p::q::r=>by rw [conjE,conj,conjE_iff]
def retG (P:Program) (ps:List PK) (rs:List RK) (rv:List ResultVar) (k:RDs rs×BDs ps->Prop):Ex->St->Prop:=fun e S=>match e with
  | .exit _=>False
  | _=>match resSVs P rv S.sl (lookN S.H) with
    | none=>False
    | some vs=>match outR (Nat.blt 0 (nBx ps)) rs vs (lookN S.H),outB ps 0 (lookN S.H) with
      | some (y,f1,ow),some (z,f2,ow2)=>match ownOk (f1++f2) (ow++ow2),allLt (f1++f2) with
        | true,true=>k (y,z)
        | _,_=>False
      | _,_=>False
def padS:List SV->Nat->List SV
  | _,0=>[]
  | [],n+1 => .junk::padS [] n
  | v::l,n+1=>v::padS l n
def startSt (ps:List PK) (d:PDs ps) (n:Nat):St:=⟨padS (argsOf ps d 0 0) n,boxesOf ps d 0 0++consOf ps d 0⟩
theorem padS_len:∀ {l:List SV} {n:Nat},(padS l n).length=n
  | _,0=>by simp [padS]
  | [],n+1=>by simp [padS,padS_len (l:=[]) (n:=n)]
  | v::l,n+1=>by simp [padS,padS_len (l:=l) (n:=n)]
theorem padS_get:∀ {l:List SV} {n i:Nat},getSl (padS l n) i = .junk∨∃ s,l[i]? = some s/\getSl (padS l n) i=s
  | _,0,i=>by left;simp [padS,getSl,getL]
  | [],n+1,0=>by left;simp [padS,getSl,getL]
  | [],n+1,i+1=>by
    rcases padS_get (l:=[]) (n:=n) (i:=i) with h|⟨s,h,_⟩
    · left;simpa [padS,getSl,getL] using h
    · simp at h
  | v::l,n+1,0=>by right;exact ⟨v,by simp,by simp [padS,getSl,getL]⟩
  | v::l,n+1,i+1=>by
    rcases padS_get (l:=l) (n:=n) (i:=i) with h|⟨s,h,h'⟩
    · left;simpa [padS,getSl,getL] using h
    · right;exact ⟨s,by simpa using h,by simpa [padS,getSl,getL] using h'⟩
section
variable {P:Program} {sp:Specs}
theorem run_ok {ps:List PK} {rs:List RK} (post:PDs ps->RDs rs×BDs ps->Prop) {f:FuncId} {fn:Func} {code:Code} (hf:P.funcs[f]? = some fn) (hb:fn.body=some code) (hs:SpecsOK P sp) (hmix:P.follows .mixedOrders=true) (an:PDs ps->Anns)
    {base:Nat} {svs:List SV} {h:Heap} {dd:PDs ps} {fz:List (Nat×Nm)} {bx:List Nat} {cx:List (Option Nat)} {q1:List Nat} (e1:(matchArgs none ps svs).run h=some ((dd,fz,bx,cx),q1)) (hnm:namesOk fz bx cx=true)
    (hun:∀ i,i<nOwn rs+nOwnB ps->h (base+i) = .un) (vc:wfP ps dd->forceSt (startSt ps dd fn.ntmps) (sx P sp (an dd) code (retG P ps rs fn.results.toList (post dd))))
    {w0:World} {N0:Old} {A:Nat->Prop} {env:Env} {w:World} {vs:List Value} (hG:N0.g=sp.gl) (m:Mod w0 N0 A env h w) (hd:DenL A env w svs vs) :
    Calls P f vs.toArray w fun e w'=>∃ v y,e = .returned v/\post dd y∧∃ (A':Nat->Prop) (env':Env),Mod w0 N0 A' env' (setAll (retU ps rs y base fz bx cx) h) w'∧Ext A env w A' env' w'∧Den A' env' w' (resV (resSV (bx.headD 0) rs y.1 base)) v:=by
  simp only [namesOk,Bool.and_eq_true] at hnm
  obtain ⟨⟨hnd,hdj⟩,hbl⟩:=hnm
  have hnd:=nodupN_iff hnd
  have hdj:=disjN_spec hdj
  have hbl:=Nat.le_of_ble_eq_true hbl
  obtain ⟨a1,a4,a6⟩:=matchArgs_sound (envc:=callEnv env bx cx) m (Ac:=frzA A env fz) (fun b hb => .inl hb) none ps svs vs dd fz bx cx q1 0 0 e1 hd (fun k hk => .inr hk)
  obtain ⟨dargs,lb,lc⟩:=a6 (fun _=>rfl) (fun n hn=>by cases hn) (fun k n hn=>by rw [Nat.zero_add];exact callEnv_bx hbl hn) (fun k q hq=>by rw [Nat.zero_add];exact callEnv_cx hq)
  rw [Nat.add_zero] at lb lc
  have mc:=m.call a1 hbl lb lc hdj hnd
  have hlen:bx.length=nBx ps:=by
    have:=lb.get.1
    rw [List.length_map,boxesOf_len] at this;exact this
  have hnd1:bx.Nodup:=(List.nodup_append.1 hnd).1
  have hvc:=vc a4
  rw [forceSt_eq] at hvc
  have hvl:=DenL_length dargs
  have live_ne:∀ q b,h q = .live b->env q ≠ .un:=fun q b hq=>by
    have:=m.nm q
    rw [hq] at this
    rcases this with ⟨k,len,e,_⟩|⟨e,_⟩ <;> rw [e] <;> simp
  have hlive:∀ n,n∈bx++somes cx→∃ b,h n = .live b/\b.mut=true/\env n ≠ .un:=fun n hn=>by
    rcases List.mem_append.1 hn with hn|hn
    · obtain ⟨i,hi⟩:=List.mem_iff_getElem?.1 hn
      obtain ⟨b',_,_,_,⟨q,b,e,h1,h2,_⟩|⟨e,_⟩⟩:=lb.get.2 i (some n) (by simp [hi])
      · cases e;exact ⟨b,h1,h2,live_ne _ _ h1⟩
      · cases e
    · obtain ⟨i,hi⟩:=List.mem_iff_getElem?.1 (mem_somes.1 hn)
      obtain ⟨b',_,_,_,⟨q,b,e,h1,h2,_⟩|⟨e,_⟩⟩:=lc.get.2 i (some n) hi
      · cases e;exact ⟨b,h1,h2,live_ne _ _ h1⟩
      · cases e
  refine calls_of_wp hf hb (sx_wp (N0:=⟨boxBlk env (bx++somes cx),frzA A env fz,N0.g⟩) ⟨hs,hG⟩ hmix code _ _ _ (frzA A env fz) (callEnv env bx cx) _ w hvc ⟨mc,?_,?_,rfl⟩ ?_)
  · simp only [St.fs,startSt,padS_len,Array.size_append,Array.size_replicate];omega
  · intro i
    simp only [St.fs,startSt]
    rcases padS_get (l:=argsOf ps dd 0 0) (n:=fn.ntmps) (i:=i) with hj|⟨s,h1,h2⟩
    · rw [hj];simp only [Den]
    · rw [h2]
      obtain ⟨v,hv,hdv⟩:=DenL_get i s dargs h1
      have hi:i<vs.length:=(List.getElem?_eq_some_iff.1 hv).1
      have:(vs.toArray++Array.replicate (fn.ntmps-vs.toArray.size) undef).getD i undef=v:=by
        have h3:(vs.toArray++Array.replicate (fn.ntmps-vs.toArray.size) undef)[i]? = some v:=by
          rw [Array.getElem?_append_left (by simpa using hi)];simpa using hv
        simp only [Array.getD_eq_getD_getElem?,h3,Option.getD_some]
      rw [this];exact hdv
  · intro ex S' A1 env1 act w1 hK t' x'
    have hend:∃ rsv y f1 owr z f2 owb,resSVs P fn.results.toList S'.sl (lookN S'.H)=some rsv/\outR (Nat.blt 0 (nBx ps)) rs rsv (lookN S'.H)=some (y,f1,owr)/\outB ps 0 (lookN S'.H)=some (z,f2,owb) ∧
        ownOk (f1++f2) (owr++owb)=true/\allLt (f1++f2)=true/\post dd (y,z)/\(ex = .normal∨ex = .ret):=by
      unfold retG at hK
      split at hK
      · exact hK.elim
      · rename_i hex
        split at hK
        · exact hK.elim
        · rename_i rsv hts
          split at hK
          · rename_i y f1 ow z f2 ow2 h1 h2
            split at hK
            · rename_i h3 h4
              refine ⟨rsv,y,f1,ow,z,f2,ow2,hts,h1,h2,h3,h4,hK,?_⟩
              cases ex with
              | normal=>exact .inl rfl
              | ret=>exact .inr rfl
              | exit i=>exact absurd rfl (hex i)
            · exact hK.elim
          · exact hK.elim
    obtain ⟨rsv,y,f1,owr,z,f2,owb,hts,ho,hob,hown,hlt,hpost,hex⟩:=hend
    obtain ⟨rvs,hrun,hres⟩:=results_run t'.m t'.f hts
    have hA2:∀ b,A1 b->frzA A1 env1 (f1++f2) b:=fun b hb => .inl hb
    have hF1:∀ k,FrzBlk env1 f1 k->frzA A1 env1 (f1++f2) k:=fun k ⟨n,x,l,hx,he⟩ => .inr ⟨n,x,l,List.mem_append_left _ hx,he⟩
    have hF2:∀ k,FrzBlk env1 f2 k->frzA A1 env1 (f1++f2) k:=fun k ⟨n,x,l,hx,he⟩ => .inr ⟨n,x,l,List.mem_append_right _ hx,he⟩
    have hlt:=allLt_spec hlt
    have hownS:=ownOk_spec hown
    have hPQ:QN=PN+PN:=rfl
    have fin:∀ (As A':Nat->Prop) (hs':Heap),Mod w0 N0 As env hs' w->(∀ n,n∈bx++somes cx->hs' n=h n)->(∀ i,i<nOwn rs+nOwnB ps->hs' (base+i) = .un)->(∀ b,As b->A' b)->(∀ b,A' b->frzA A1 env1 (f1++f2) b) →
        (∀ b,A' b->As b∨((boxBlk env (bx++somes cx) b∨w.heap.size<=b)/\b<w1.heap.size))->(rsPlain rs=true∨∀ b,frzA A1 env1 (f1++f2) b->A' b)->(psPlain ps=true∨∀ b,frzA A1 env1 (f1++f2) b->A' b) →
        ∃ env',Mod w0 N0 A' env' (setAll (boxU (bx.headD 0) ps z bx (base+nOwn rs)++(resH (bx.headD 0) rs y base++(newU ps z (base+nOwn rs)++deadU cx))) hs') w1/\Ext As env w A' env' w1/\Den A' env' w1 (resV (resSV (bx.headD 0) rs y base)) (mkRes rvs):=by
      intro As A' hs' ms hsb hsu hAA hA'2 hA1' L1 L2
      obtain ⟨b1,b2,b3⟩:=outR_sound (A':=A') (env':=retEnv (boxR bx 0++resR (owr++owb) base) env env1) t'.m hA2 (bx.headD 0) rs y _ _ f1 owr base ho hres hF1 L1
      obtain ⟨c1,c2,c3,c4⟩:=outB_sound (A':=A') (env':=retEnv (boxR bx 0++resR (owr++owb) base) env env1) t'.m hA2 (bx.headD 0) ps z f2 owb bx 0 (base+nOwn rs) hob hF2 L2 hlen
      have hfo:FrzOk (lookN S'.H) (f1++f2):=fun n b hh=>by
        rcases List.mem_append.1 hh with hh|hh
        · exact b1 n b hh
        · exact c1 n b hh
      have howl:(owr++owb).length=nOwn rs+nOwnB ps:=by rw [List.length_append,b2,c2]
      have hnotbx:∀ i,i<nOwn rs+nOwnB ps->base+i ∉ bx:=fun i hi hmem=>by
        have h1:=hsu i hi
        rw [hsb _ (List.mem_append_left _ hmem)] at h1
        obtain ⟨b,hb',_⟩:=hlive _ (List.mem_append_left _ hmem)
        rw [h1] at hb';cases hb'
      have hRbox:∀ i n,bx[i]? = some n->lookR (boxR bx 0++resR (owr++owb) base) n=some (some (PN+i)):=fun i n hi=>by
        rw [lookR_append,boxR_at (j:=0) hnd1 hi,Nat.zero_add]
      have hRres:∀ i o,(owr++owb)[i]? = some o->lookR (boxR bx 0++resR (owr++owb) base) (base+i)=some o:=fun i o hi=>by
        have hlti:i<nOwn rs+nOwnB ps:=by have:=(List.getElem?_eq_some_iff.1 hi).1;omega
        rw [lookR_append,boxR_none (hnotbx i hlti)]
        exact resR_at hi
      have hRinv:∀ n y,lookR (boxR bx 0++resR (owr++owb) base) n=some y->(∃ i,bx[i]? = some n/\y=some (PN+i))∨∃ i,(owr++owb)[i]? = some y/\n=base+i/\i<nOwn rs+nOwnB ps:=fun n y hy=>by
        rw [lookR_append] at hy
        split at hy
        · rename_i x hx
          cases hy
          obtain ⟨i,h1,h2⟩:=boxR_look hx
          rw [Nat.zero_add] at h2
          exact .inl ⟨i,h1,h2⟩
        · obtain ⟨i,h1,h2⟩:=resR_look hy
          exact .inr ⟨i,h1,h2,by have:=(List.getElem?_eq_some_iff.1 h1).1;omega⟩
      have hbxlt:∀ i n,bx[i]? = some n->i<PN:=fun i n hi=>by have:=(List.getElem?_eq_some_iff.1 hi).1;omega
      have henvp:∀ i n,bx[i]? = some n->env1 (PN+i)=env n:=fun i n hi=>by
        obtain ⟨b,_,_,hne⟩:=hlive n (List.mem_append_left _ (List.mem_of_getElem? hi))
        have:=hbxlt i n hi
        have:=x'.envp (PN+i) (by omega) (by omega) (by rw [callEnv_bx hbl hi];exact hne)
        rw [this,callEnv_bx hbl hi]
      have eenv:∀ i o,(owr++owb)[i]? = some o->retEnv (boxR bx 0++resR (owr++owb) base) env env1 (base+i)=evOf env1 o:=fun i o hi=>by
        unfold retEnv
        rw [hRres i o hi]
        simp only [renEnv,hRres i o hi]
        cases o <;> rfl
      have hhead:bx≠[]->retEnv (boxR bx 0++resR (owr++owb) base) env env1 (bx.headD 0)=env1 PN:=fun hne=>by
        obtain ⟨n0,r,hbx⟩:=List.exists_cons_of_ne_nil hne
        have h0:bx[0]? = some (bx.headD 0):=by rw [hbx];rfl
        unfold retEnv
        rw [hRbox 0 _ h0]
        simp only [renEnv,hRbox 0 _ h0,Nat.add_zero]
      obtain ⟨d1,d2⟩:=b3 (fun hal=>hhead (fun hnil=>by
          have h0:nBx ps=0:=by rw [← hlen,hnil];rfl
          rw [h0] at hal;cases hal)) (fun i o hi=>eenv i o (by rw [List.getElem?_append_left (List.getElem?_eq_some_iff.1 hi).1];exact hi))
      obtain ⟨d3,d4⟩:=c3 hhead (fun k q hq=>by
          have:=eenv (nOwn rs+k) q (by rw [List.getElem?_append_right (by omega),b2,Nat.add_sub_cancel_left];exact hq)
          rwa [← Nat.add_assoc] at this)
        (fun k q hq=>by
          unfold retEnv
          rw [hRbox k q hq]
          simp only [renEnv,hRbox k q hq,Nat.zero_add])
      have hlookA:∀ q b k l,lookN S'.H q = .live b->b.mut=true->env1 q = .blk k l->q ∉ (f1++f2).map (·.1)→¬ A' k:=fun q b k l hq hbm he hqn hA'=>by
        have mf:=(t'.m.freeze hfo).1
        have:setAll (f1++f2) S'.fs.h q = .live b:=by rw [setAll_other hqn];exact hq
        exact (mf.live_blk this he).2 hbm (hA'2 k hA')
      suffices hk:Mod w0 N0 A' (retEnv (boxR bx 0++resR (owr++owb) base) env env1) (setAll (boxU (bx.headD 0) ps z bx (base+nOwn rs)++(resH (bx.headD 0) rs y base++(newU ps z (base+nOwn rs)++deadU cx))) hs') w1/\Ext As env w A' (retEnv (boxR bx 0++resR (owr++owb) base) env env1) w1 by
        exact ⟨_,hk.1,hk.2,resV_den d1⟩
      have hnew:∀ {l:List (Nat×Nm)} {os:List (Option Nat)} {n0:Nat},LinkOK A' env1 (lookN S'.H) (retEnv (boxR bx 0++resR (owr++owb) base) env env1) w1 os l (base+n0)->(∀ i o,os[i]? = some o->(owr++owb)[n0+i]? = some o)→∀ n x,(n,x)∈l →
          ∃ b,x = .live b/\b.mut=true/\((∃ m b0,lookR (boxR bx 0++resR (owr++owb) base) n=some (some m)/\lookN S'.H m = .live b0/\b0.mut=true ∧
            (∀ k len,env1 m = .blk k len->BlkDen A' (retEnv (boxR bx 0++resR (owr++owb) base) env env1) w1 k len b)/\(env1 m = .nil→∃ E t,b = .row E t []))∨(lookR (boxR bx 0++resR (owr++owb) base) n=some none∧∃ E t,b = .row E t [])):=by
        intro l os n0 hl hos n x hx
        have:∀ {os:List (Option Nat)} {l:List (Nat×Nm)} {k0:Nat},LinkOK A' env1 (lookN S'.H) (retEnv (boxR bx 0++resR (owr++owb) base) env env1) w1 os l k0→∀ n x,(n,x)∈l→∃ i o b',os[i]? = some o/\n=k0+i/\x = .live b'∧b'.mut=true ∧
            ((∃ q b,o=some q/\lookN S'.H q = .live b/\b.mut=true/\(∀ k len,env1 q = .blk k len->BlkDen A' (retEnv (boxR bx 0++resR (owr++owb) base) env env1) w1 k len b')/\(env1 q = .nil→∃ E t,b' = .row E t []))∨(o=none∧∃ E t,b' = .row E t [])):=by
          intro os
          induction os with
          | nil=>intro l k0 hl n x hx;cases l with
            | nil=>cases hx
            | cons p l=>exact hl.elim
          | cons o os ih =>
            intro l k0 hl n x hx
            cases l with
            | nil=>cases hx
            | cons p l =>
              obtain ⟨m',y'⟩:=p
              obtain ⟨⟨hm,b',g1,g2,g3⟩,hr⟩:=hl
              rcases List.mem_cons.1 hx with e|hx
              · cases e;exact ⟨0,o,b',rfl,by omega,g1,g2,g3⟩
              · obtain ⟨i,o',b'',k1,k2,k3⟩:=ih hr n x hx
                exact ⟨i+1,o',b'',by simpa using k1,by omega,k3⟩
        obtain ⟨i,o,b',k1,rfl,k3,k4,k5⟩:=this hl n x hx
        have hr:=hRres _ _ (hos i o k1)
        rw [← Nat.add_assoc] at hr
        refine ⟨b',k3,k4,?_⟩
        rcases k5 with ⟨q,b,rfl,g1,g2,g3,g4⟩|⟨rfl,g1⟩
        · exact .inl ⟨q,b,hr,g1,g2,g3,g4⟩
        · exact .inr ⟨hr,g1⟩
      refine Mod.retn (R:=boxR bx 0++resR (owr++owb) base) (U:=boxU (bx.headD 0) ps z bx (base+nOwn rs)++(resH (bx.headD 0) rs y base++(newU ps z (base+nOwn rs)++deadU cx))) (A':=A') ms t'.m x'.shape ?_ ?_ ?_ ?_ ?_ hAA hA1' ?_
      · intro n x hx
        rcases List.mem_append.1 hx with hx|hx
        · obtain ⟨i,b,b0,h1,h2,h3,h4,h5,h6,h7⟩:=d4 n x hx
          rw [Nat.zero_add] at h4 h6 h7
          exact .inr ⟨b,h2,h3,.inl ⟨PN+i,b0,hRbox i n h1,h4,h5,h6,h7⟩⟩
        · rcases List.mem_append.1 hx with hx|hx
          · exact .inr (hnew (n0:=0) (by rw [Nat.add_zero];exact d2) (fun i o hi=>by rw [Nat.zero_add,List.getElem?_append_left (List.getElem?_eq_some_iff.1 hi).1];exact hi) n x hx)
          · rcases List.mem_append.1 hx with hx|hx
            · exact .inr (hnew d3 (fun i o hi=>by rw [List.getElem?_append_right (by omega),b2,Nat.add_sub_cancel_left];exact hi) n x hx)
            · exact .inl (mem_deadU hx).1
      · intro n hn
        obtain ⟨y',hy⟩:=Option.ne_none_iff_exists'.1 hn
        simp only [List.map_append]
        rcases hRinv n y' hy with ⟨i,h1,_⟩|⟨i,h1,rfl,hi⟩
        · exact List.mem_append_left _ (c4 n (List.mem_of_getElem? h1))
        · refine List.mem_append_right _ ?_
          by_cases hlt':i<nOwn rs
          · refine List.mem_append_left _ ?_
            obtain ⟨b',_,hmem,_⟩:=d2.get.2 i _ (by rw [List.getElem?_append_left (by omega)] at h1;exact h1)
            exact List.mem_map_of_mem (f:=(·.1)) hmem
          · refine List.mem_append_right _ (List.mem_append_left _ ?_)
            obtain ⟨b',_,hmem,_⟩:=d3.get.2 (i-nOwn rs) _ (by rw [List.getElem?_append_right (by omega),b2] at h1;exact h1)
            have:=List.mem_map_of_mem (f:=(·.1)) hmem
            rwa [show base+nOwn rs+(i-nOwn rs)=base+i from by omega] at this
      · intro n n' q hn hn'
        rcases hRinv n _ hn with ⟨i,h1,h2⟩|⟨i,h1,rfl,_⟩ <;> rcases hRinv n' _ hn' with ⟨i',h1',h2'⟩|⟨i',h1',rfl,_⟩
        · simp only [Option.some.injEq] at h2 h2'
          have:i=i':=by omega
          subst this
          rw [h1] at h1';exact Option.some.inj h1'
        · simp only [Option.some.injEq] at h2
          have:=(hownS i' q h1').1
          have:=hbxlt _ _ h1
          omega
        · simp only [Option.some.injEq] at h2'
          have:=(hownS i q h1).1
          have:=hbxlt _ _ h1'
          omega
        · rw [(hownS i q h1).2.2 i' h1']
      · intro n hn
        obtain ⟨y',hy⟩:=Option.ne_none_iff_exists'.1 hn
        rcases hRinv n y' hy with ⟨i,h1,rfl⟩|⟨i,h1,rfl,h2⟩
        · have hmem:n∈bx++somes cx:=List.mem_append_left _ (List.mem_of_getElem? h1)
          obtain ⟨b,g2',g3',_⟩:=hlive n hmem
          exact .inr ⟨b,by rw [hsb n hmem];exact g2',g3',by rw [renEnv_some hy];exact henvp i n h1⟩
        · exact .inl (hsu i h2)
      · rintro k ⟨n,l,hn,he⟩
        obtain ⟨b,g2',g3',_⟩:=hlive n hn
        refine ⟨n,b,l,?_,by rw [hsb n hn];exact g2',g3',he⟩
        simp only [List.map_append,deadU_keys]
        rcases List.mem_append.1 hn with hn|hn
        · exact List.mem_append_left _ (c4 n hn)
        · exact List.mem_append_right _ (List.mem_append_right _ (List.mem_append_right _ hn))
      · rintro q b k l hq hbm he ⟨n,hn⟩
        refine hlookA q b k l hq hbm he fun hmem => ?_
        rcases hRinv n _ hn with ⟨i,h1,h2⟩|⟨i,h1,rfl,_⟩
        · simp only [Option.some.injEq] at h2
          have:=hlt q hmem
          have:=hbxlt _ _ h1
          omega
        · exact (hownS i q h1).2.1 hmem
    suffices hfin:∃ (A':Nat->Prop) (env':Env),Mod w0 N0 A' env' (setAll (retU ps rs (y,z) base fz bx cx) h) w1/\Ext A env w A' env' w1/\Den A' env' w1 (resV (resSV (bx.headD 0) rs y base)) (mkRes rvs) by
      have hthis:act.defers=[]∧∃ v,(results fn act.tmps).run P w1 = .ok v w1∧∃ v' y',Ending.returned v = .returned v'∧post dd y'∧∃ (A':Nat->Prop) (env':Env),Mod w0 N0 A' env' (setAll (retU ps rs y' base fz bx cx) h) w1/\Ext A env w A' env' w1/\Den A' env' w1 (resV (resSV (bx.headD 0) rs y'.1 base)) v' :=
        ⟨t'.dfr,_,hrun,_,(y,z),rfl,hpost,hfin⟩
      rcases hex with rfl|rfl
      · exact hthis
      · exact hthis
    unfold retU
    cases hk:keepF ps rs with
    | true =>
      obtain ⟨mf,xf⟩:=m.freeze a1
      have hback:∀ b,frzA A1 env1 (f1++f2) b->frzA A env fz b∨((boxBlk env (bx++somes cx) b∨w.heap.size<=b)/\b<w1.heap.size):=by
        intro b hb
        have hfo:FrzOk (lookN S'.H) (f1++f2):=by
          obtain ⟨b1,_⟩:=outR_sound (A':=frzA A1 env1 (f1++f2)) (env':=env1) t'.m hA2 (bx.headD 0) rs y _ _ f1 owr base ho hres hF1 (.inr fun b hb=>hb)
          obtain ⟨c1,_⟩:=outB_sound (A':=frzA A1 env1 (f1++f2)) (env':=env1) t'.m hA2 (bx.headD 0) ps z f2 owb bx 0 base hob hF2 (.inr fun b hb=>hb) hlen
          intro n b hh
          rcases List.mem_append.1 hh with hh|hh
          · exact b1 n b hh
          · exact c1 n b hh
        have hAlt:=(t'.m.freeze hfo).1.Alt b hb
        rcases hb with hb|⟨n,x,l,hx,he⟩
        · rcases t'.m.fresh b hb with h1|h1|h1
          · exact .inl h1
          · exact .inr ⟨.inl h1,hAlt⟩
          · exact .inr ⟨.inr h1,hAlt⟩
        · obtain ⟨E,t,xs,hl,_⟩:=hfo n x hx
          rcases t'.m.own n _ b l hl rfl he with h1|h1
          · exact .inr ⟨.inl h1,hAlt⟩
          · exact .inr ⟨.inr h1,hAlt⟩
      obtain ⟨env',k1,k2,k3⟩:=fin (frzA A env fz) (frzA A1 env1 (f1++f2)) (setAll fz h) mf (fun n hn=>setAll_other (hdj n hn)) (fun i hi=>by
          rw [setAll_other]
          · exact hun i hi
          · intro hmem
            obtain ⟨⟨n,x⟩,hx,he⟩:=List.mem_map.1 hmem
            simp only at he
            subst he
            obtain ⟨E,t,xs,hl,_⟩:=a1 _ _ hx
            rw [hun i hi] at hl;cases hl)
        (fun b hb => .inl (x'.imm b hb)) (fun b hb=>hb) hback (.inr fun b hb=>hb) (.inr fun b hb=>hb)
      refine ⟨_,env',?_,xf.trans k2,k3⟩
      rw [setAll_append];exact k1
    | false =>
      have hpl:rsPlain rs=true/\psPlain ps=true:=by
        simpa [keepF] using hk
      obtain ⟨env',k1,k2,k3⟩:=fin A A h m (fun n hn=>rfl) hun (fun b hb=>hb) (fun b hb => .inl (x'.imm b (.inl hb))) (fun b hb => .inl hb) (.inl hpl.1) (.inl hpl.2)
      refine ⟨_,env',?_,k2,k3⟩
      rw [List.append_nil];exact k1
def eqRs:(rs:List RK)->RDs rs->RDs rs->List Prop
  | [],_,_=>[]
  | _::rs,x,y=>(x.1=y.1)::eqRs rs x.2 y.2
def eqBs:(ps:List PK)->BDs ps->BDs ps->List Prop
  | [],_,_=>[]
  | .val _::ps,x,y=>eqBs ps x y
  | .agg _::ps,x,y=>eqBs ps x y
  | .own _ _::ps,x,y=>eqBs ps x y
  | .ago _::ps,x,y=>eqBs ps x y
  | .fn _ _::ps,x,y=>eqBs ps x y
  | .nils::ps,x,y=>eqBs ps x y
  | .box _ _::ps,x,y=>(x.1=y.1)::eqBs ps x.2 y.2
  | .row _ _::ps,x,y=>(x.1=y.1)::eqBs ps x.2 y.2
theorem eqRs_eq:∀ {rs:List RK} {x y:RDs rs},conj (eqRs rs x y)->x=y
  | [],x,y,_=>rfl
  | _::rs,x,y,h=>Prod.ext h.1 (eqRs_eq (rs:=rs) h.2)
theorem eqBs_eq:∀ {ps:List PK} {x y:BDs ps},conj (eqBs ps x y)->x=y
  | [],x,y,_=>rfl
  | .val _::ps,x,y,h=>eqBs_eq (ps:=ps) h
  | .agg _::ps,x,y,h=>eqBs_eq (ps:=ps) h
  | .own _ _::ps,x,y,h=>eqBs_eq (ps:=ps) h
  | .ago _::ps,x,y,h=>eqBs_eq (ps:=ps) h
  | .fn _ _::ps,x,y,h=>eqBs_eq (ps:=ps) h
  | .nils::ps,x,y,h=>eqBs_eq (ps:=ps) h
  | .box _ _::ps,x,y,h=>Prod.ext h.1 (eqBs_eq (ps:=ps) h.2)
  | .row _ _::ps,x,y,h=>Prod.ext h.1 (eqBs_eq (ps:=ps) h.2)
theorem eqRs_refl:∀ {rs:List RK} {x:RDs rs},conj (eqRs rs x x)
  | [],_=>trivial
  | _::rs,x=>⟨rfl,eqRs_refl (rs:=rs)⟩
theorem eqBs_refl:∀ {ps:List PK} {x:BDs ps},conj (eqBs ps x x)
  | [],_=>trivial
  | .val _::ps,x=>eqBs_refl (ps:=ps)
  | .agg _::ps,x=>eqBs_refl (ps:=ps)
  | .own _ _::ps,x=>eqBs_refl (ps:=ps)
  | .ago _::ps,x=>eqBs_refl (ps:=ps)
  | .fn _ _::ps,x=>eqBs_refl (ps:=ps)
  | .nils::ps,x=>eqBs_refl (ps:=ps)
  | .box _ _::ps,x=>⟨rfl,eqBs_refl (ps:=ps)⟩
  | .row _ _::ps,x=>⟨rfl,eqBs_refl (ps:=ps)⟩
theorem Ct.ok (c:Ct) {f:FuncId} {fn:Func} {code:Code} (hf:P.funcs[f]? = some fn) (hb:fn.body=some code) (hs:SpecsOK P sp) (hmix:P.follows .mixedOrders=true) (an:PDs c.ps->Anns)
    (vc:allP c.ps fun d=>wfP c.ps d->conjE (c.pre d)->forceSt (startSt c.ps d fn.ntmps) (sx P sp (an d) code (retG P c.ps c.rs fn.results.toList fun y=>conjE (eqRs c.rs y.1 (c.out d).1++eqBs c.ps y.2 (c.out d).2)))):SpecOK P sp.gl f c.spec:=by
  intro base svs h d r e hp w0 N0 A env w vs hG m hd
  unfold Ct.spec at e
  obtain ⟨⟨dd,fz,bx,cx⟩,q1,q2,e1,e2,rfl⟩:=Q.run_bind _ _ _ e
  split at e2
  case h_2=>cases e2
  rename_i hnm
  obtain ⟨rfl,hun⟩:=askUn_spec e2
  refine (run_ok (rs:=c.rs) (fun d y=>conjE (eqRs c.rs y.1 (c.out d).1++eqBs c.ps y.2 (c.out d).2)) hf hb hs hmix an e1 hnm hun (fun hw=>allP_iff.1 vc dd hw (conjE_iff.2 hp)) hG m hd).mono ?_
  rintro e' w' ⟨v,y,rfl,hy,A',env',h1,h2,h3⟩
  obtain ⟨hy1,hy2⟩:=conj_append.1 (conjE_iff.1 hy)
  have:y=c.out dd:=Prod.ext (eqRs_eq hy1) (eqBs_eq hy2)
  subst this
  exact ⟨v,rfl,(),A',env',trivial,h1,h2,h3⟩
theorem Cn.ok (c:Cn) {f:FuncId} {fn:Func} {code:Code} (hf:P.funcs[f]? = some fn) (hb:fn.body=some code) (hs:SpecsOK P sp) (hmix:P.follows .mixedOrders=true) (an:PDs c.ps->Anns)
    (vc:allP c.ps fun d=>wfP c.ps d->conjE (c.pre d)->forceSt (startSt c.ps d fn.ntmps) (sx P sp (an d) code (retG P c.ps c.rs fn.results.toList (c.post d)))):SpecOK P sp.gl f c.spec:=by
  intro base svs h d r e hp w0 N0 A env w vs hG m hd
  unfold Cn.spec at e
  obtain ⟨⟨dd,fz,bx,cx⟩,q1,q2,e1,e2,rfl⟩:=Q.run_bind _ _ _ e
  split at e2
  case h_2=>cases e2
  rename_i hnm
  obtain ⟨rfl,hun⟩:=askUn_spec e2
  refine (run_ok (rs:=c.rs) c.post hf hb hs hmix an e1 hnm hun (fun hw=>allP_iff.1 vc dd hw (conjE_iff.2 hp)) hG m hd).mono ?_
  rintro e' w' ⟨v,y,rfl,hy,A',env',h1,h2,h3⟩
  refine ⟨v,rfl,y,A',env',hy,?_,h2,h3⟩
  show Mod w0 N0 A' env' (setAll ((retUF c.ps c.rs base fz bx cx).map fun p=>(p.1,p.2 y)) h) w'
  rw [retUF_eq];exact h1
def Ct.nspec (c:Ct):Spec:=fun base svs=>(matchArgs none c.ps svs).bind fun p=>match namesOk p.2.1 p.2.2.1 p.2.2.2 with
  | true=>askUn base (nOwn c.rs+nOwnB c.ps) (.nd (RDs c.rs×BDs c.ps) (outQn c.rs c.ps) (c.pre p.1) (fun y=>conjE (eqRs c.rs y.1 (c.out p.1).1++eqBs c.ps y.2 (c.out p.1).2)) (fun _=>⟨c.out p.1,conjE_iff.2 (conj_append.2 ⟨eqRs_refl,eqBs_refl⟩)⟩)
      (fun y=>resV (resSV (p.2.2.1.headD 0) c.rs y.1 base)) (retUF c.ps c.rs base p.2.1 p.2.2.1 p.2.2.2))
  | false => .fail
theorem askUn_run {h:Heap} {dl d:Dl}:∀ {k n:Nat} {r:List Nat},(askUn n k dl).run h=some (d,r)→∀ dl',(askUn n k dl').run h=some (dl',r)
  | 0,n,r,e,dl'=>by
    simp only [askUn,Q.run,Option.some.injEq,Prod.mk.injEq] at e ⊢
    exact ⟨trivial,e.2⟩
  | k+1,n,r,e,dl'=>by
    simp only [askUn,Q.run] at e ⊢
    split at e
    · rename_i p q hk
      simp only [Option.some.injEq,Prod.mk.injEq] at e
      obtain ⟨rfl,rfl⟩:=e
      split at hk
      · rename_i hun
        have:=askUn_run hk dl'
        rw [this]
      · cases hk
    · cases e
universe u v
theorem Q.bind_run1 {h:Heap} {α:Type u} {β:Type v} (q:Q α) (f:α->Q β) {a:α} {r1:List Nat} {b:β} {r2:List Nat} (h1:q.run h=some (a,r1)) (h2:(f a).run h=some (b,r2)):(q.bind f).run h=some (b,r1++r2):=by
  induction q generalizing r1 with
  | ret x=>simp only [Q.run,Option.some.injEq,Prod.mk.injEq] at h1;obtain ⟨rfl,rfl⟩:=h1;simpa [Q.bind] using h2
  | ask n k ih =>
    simp only [Q.run] at h1
    split at h1
    · rename_i x y hk
      simp only [Option.some.injEq,Prod.mk.injEq] at h1
      obtain ⟨rfl,rfl⟩:=h1
      simp only [Q.bind,Q.run,ih _ hk,List.cons_append]
    · cases h1
  | fail=>cases h1
theorem Ct.named {G:Globs} {c:Ct} {f:FuncId} (ok:SpecOK P G f c.spec):SpecOK P G f c.nspec:=by
  intro base svs h d r e hp w0 N0 A env w vs hG m hd
  unfold Ct.nspec at e
  obtain ⟨⟨dd,fz,bx,cx⟩,q1,q2,e1,e2,rfl⟩:=Q.run_bind _ _ _ e
  split at e2
  case h_2=>cases e2
  rename_i hnm
  obtain ⟨rfl,hun⟩:=askUn_spec e2
  have e3:=askUn_run e2 (.det (c.pre dd) (resV (resSV (bx.headD 0) c.rs (c.out dd).1 base)) (retU c.ps c.rs (c.out dd) base fz bx cx))
  have e4:(c.spec base svs).run h=some (.det (c.pre dd) (resV (resSV (bx.headD 0) c.rs (c.out dd).1 base)) (retU c.ps c.rs (c.out dd) base fz bx cx),q1++q2):=by
    unfold Ct.spec
    refine Q.bind_run1 _ _ e1 ?_
    simp only at hnm ⊢
    rw [hnm]
    exact e3
  refine (ok base svs h _ _ e4 hp w0 N0 A env w vs hG m hd).mono ?_
  rintro e' w' ⟨v,he,x,A',env',_,h1,h2,h3⟩
  refine ⟨v,he,c.out dd,A',env',conjE_iff.2 (conj_append.2 ⟨eqRs_refl,eqBs_refl⟩),?_,h2,h3⟩
  show Mod w0 N0 A' env' (setAll ((retUF c.ps c.rs base fz bx cx).map fun p=>(p.1,p.2 (c.out dd))) h) w'
  rw [retUF_eq];exact h1
end
end Go.SX

/- SX, part 23: from a law's arguments to data, and a law's contract to its row. -/
namespace Go.SX
open Go.ChangeShapes Go.WideShapes Go.ChangeAt Go.RowKit
set_option linter.unusedVariables false
universe u v
def fieldsFit (P:Program) (f:CT->TypeId->Bool):List Field->CT->Nat->Bool
  | [],_,_=>false
  | [fd],t,o=>f t fd.type&&Nat.beq fd.offset o&&Nat.beq (P.cellsOf fd.type) t.size
  | fd::g::r,.pair a b,o=>f a fd.type&&Nat.beq fd.offset o&&Nat.beq (P.cellsOf fd.type) a.size&&fieldsFit P f (g::r) b (o+a.size)
  | _,_,_=>false
def arrFit (P:Program) (f:CT->TypeId->Bool) (e:TypeId):Nat->CT->Bool
  | 0,_=>false
  | 1,t=>f t e&&Nat.beq (P.cellsOf e) t.size
  | n+2,.pair a b=>f a e&&Nat.beq (P.cellsOf e) a.size&&arrFit P f e (n+1) b
  | _,_=>false
def fitsT (P:Program):Nat->CT->TypeId->Bool
  | 0,_,_=>false
  | n+1,t,τ=>match P.underlying τ,t with
    | some (.int k),.int k'=>kEq k k'
    | some .bool,.bool=>true
    | some .string,.str=>true
    | some (.slice e),.sl u=>fitsT P n u e&&Nat.beq (P.cellsOf e) u.size
    | some (.struct fs),t=>fieldsFit P (fitsT P n) fs.toList t 0
    | some (.array k e),t=>arrFit P (fitsT P n) e k t
    | _,_=>false
section
variable {H:Type} {enc:TypeId×Value->H} {P:Program} {w:World} {base:Nat} {held:Bool}
theorem Rd_part {A:Nat->Prop} {t:CT} {cs:List Value} {o sz:Nat} {d:t.D} (hs:sz=t.size) (h:Rd A w t (fun j=>((cs.drop o).take sz)[j]?) 0 d):Rd A w t (fun j=>cs[j]?) o d:=by
  have:=Rd_shift h o
  rw [Nat.zero_add] at this
  refine Rd_mono (fun _ h=>h) (fun _ _ _=>rfl) t _ _ _ _ (fun j hj => ?_) this
  simp only [List.getElem?_take,Nat.add_sub_cancel_left]
  rw [if_pos (by omega),List.getElem?_drop]
theorem fieldsFit_rd {A:Nat->Prop} {f:CT->TypeId->Bool} {cs:List Value} {n:Nat}
    (hf:∀ t τ cs x,f t τ=true->DataW.trod enc P w base (fun _=>true) held n τ cs=some x→∃ d,Rd A w t (fun j=>cs[j]?) 0 d) :
    ∀ (fs:List Field) (t:CT) (o:Nat),fieldsFit P f fs t o=true->(∀ fd∈fs,∃ x,DataW.trod enc P w base (fun _=>true) held n fd.type ((cs.drop fd.offset).take (P.cellsOf fd.type))=some x)→∃ d,Rd A w t (fun j=>cs[j]?) o d
  | [],t,o,h,_=>by cases h
  | [fd],t,o,h,hx=>by
    simp only [fieldsFit,Bool.and_eq_true] at h
    obtain ⟨⟨h1,h2⟩,h3⟩:=h
    have h2:=Nat.eq_of_beq_eq_true h2
    have h3:=Nat.eq_of_beq_eq_true h3
    obtain ⟨x,hx⟩:=hx fd (by simp)
    obtain ⟨d,hd⟩:=hf t fd.type _ x h1 hx
    rw [h2] at hd
    exact ⟨d,Rd_part h3 hd⟩
  | fd::g::r,.pair a b,o,h,hx=>by
    simp only [fieldsFit,Bool.and_eq_true] at h
    obtain ⟨⟨⟨h1,h2⟩,h3⟩,h4⟩:=h
    have h2:=Nat.eq_of_beq_eq_true h2
    have h3:=Nat.eq_of_beq_eq_true h3
    obtain ⟨x,hx1⟩:=hx fd (by simp)
    obtain ⟨d,hd⟩:=hf a fd.type _ x h1 hx1
    rw [h2] at hd
    obtain ⟨d',hd'⟩:=fieldsFit_rd hf (g::r) b (o+a.size) h4 (fun fd' hm=>hx fd' (List.mem_cons_of_mem _ hm))
    exact ⟨(d,d'),Rd_part h3 hd,hd'⟩
  | _::_::_,.int _,_,h,_=>by cases h
  | _::_::_,.bool,_,h,_=>by cases h
  | _::_::_,.str,_,h,_=>by cases h
  | _::_::_,.sl _,_,h,_=>by cases h
theorem arrFit_rd {A:Nat->Prop} {f:CT->TypeId->Bool} {cs:List Value} {n:Nat} {e:TypeId}
    (hf:∀ t τ cs x,f t τ=true->DataW.trod enc P w base (fun _=>true) held n τ cs=some x→∃ d,Rd A w t (fun j=>cs[j]?) 0 d) :
    ∀ (k:Nat) (t:CT) (i:Nat),arrFit P f e k t=true->(∀ j,i<=j->j<i+k→∃ x,DataW.trod enc P w base (fun _=>true) held n e ((cs.drop (j*P.cellsOf e)).take (P.cellsOf e))=some x)→∃ d,Rd A w t (fun j=>cs[j]?) (i*P.cellsOf e) d
  | 0,t,i,h,_=>by cases h
  | 1,t,i,h,hx=>by
    simp only [arrFit,Bool.and_eq_true] at h
    obtain ⟨h1,h2⟩:=h
    have h2:=Nat.eq_of_beq_eq_true h2
    obtain ⟨x,hx⟩:=hx i (by omega) (by omega)
    obtain ⟨d,hd⟩:=hf t e _ x h1 hx
    exact ⟨d,Rd_part h2 hd⟩
  | k+2,.pair a b,i,h,hx=>by
    simp only [arrFit,Bool.and_eq_true] at h
    obtain ⟨⟨h1,h2⟩,h4⟩:=h
    have h2:=Nat.eq_of_beq_eq_true h2
    obtain ⟨x,hx1⟩:=hx i (by omega) (by omega)
    obtain ⟨d,hd⟩:=hf a e _ x h1 hx1
    obtain ⟨d',hd'⟩:=arrFit_rd hf (k+1) b (i+1) h4 (fun j h1 h2=>hx j (by omega) (by omega))
    refine ⟨(d,d'),Rd_part h2 hd,?_⟩
    rw [Nat.add_mul,Nat.one_mul] at hd'
    rw [← h2];exact hd'
  | _+2,.int _,_,h,_=>by cases h
  | _+2,.bool,_,h,_=>by cases h
  | _+2,.str,_,h,_=>by cases h
  | _+2,.sl _,_,h,_=>by cases h
theorem list_of {α:Type} (n:Nat) (p:Nat->α->Prop) (h:∀ i,i<n→∃ a,p i a):∃ l:List α,l.length=n∧∀ i (hi:i<l.length),p i l[i]:=by
  induction n with
  | zero=>exact ⟨[],rfl,fun i hi=>by simp at hi⟩
  | succ n ih =>
    obtain ⟨l,hl,hp⟩:=ih fun i hi=>h i (by omega)
    obtain ⟨a,ha⟩:=h n (by omega)
    refine ⟨l++[a],by simp [hl],fun i hi => ?_⟩
    by_cases hlt:i<l.length
    · rw [List.getElem_append_left hlt];exact hp i hlt
    · have:i=l.length:=by simp at hi;omega
      subst this
      simp only [List.getElem_concat_length]
      rw [hl];exact ha
theorem addr_add (b off n:Nat):(⟨b,off,none⟩:Addr).add n=⟨b,off+n,none⟩:=by
  unfold Addr.add
  split
  · rename_i h;subst h;rfl
  · rfl
theorem lit_has {k:IntKind} {n:Int} (h:(Lit.int k n).wf=true):k.has n:=by
  simp only [Lit.wf,Bool.and_eq_true,decide_eq_true_eq] at h;exact h
theorem trod_rd:∀ (n:Nat) (t:CT) (τ:TypeId) (fuel:Nat) (cs:List Value) (x:DataW H×List MemPlace),fitsT P n t τ=true->DataW.trod enc P w base (fun _=>true) held fuel τ cs=some x →
    ∃ d,Rd (fun b=>b<w.heap.size) w t (fun j=>cs[j]?) 0 d
  | 0,t,τ,fuel,cs,x,h,_=>by cases h
  | n+1,t,τ,fuel,cs,x,h,hx=>by
    unfold fitsT at h
    split at h
    · rename_i k k' hu
      cases kEq_eq h
      obtain ⟨m,rfl,_,hw⟩:=DataW.trod_int hu hx
      exact ⟨m,by simp,lit_has hw⟩
    · rename_i hu
      obtain ⟨b,rfl,_⟩:=DataW.trod_bool hu hx
      exact ⟨b,by simp [Rd]⟩
    · rename_i hu
      obtain ⟨s,rfl,_,hs⟩:=DataW.trod_string hu hx
      exact ⟨s,by simp,hs⟩
    · rename_i e u hu
      simp only [Bool.and_eq_true] at h
      obtain ⟨h1,h2⟩:=h
      have h2:=Nat.eq_of_beq_eq_true h2
      rcases DataW.trod_slice hu hx with ⟨rfl,_⟩|⟨a,len,cap,elems,rest,m,_,rfl,_,_,hl,hm,hlen,hel,hsp,_⟩
      · exact ⟨[],Rd_sl.2 ⟨_,rfl,by simp,.inl ⟨⟨_,rfl⟩,rfl⟩⟩⟩
      · have hcap:=(hsp rfl)
        by_cases h0:cap=0
        · have:len=0:=by omega
          subst this h0
          exact ⟨[],Rd_sl.2 ⟨_,rfl,by simp,.inl ⟨⟨_,rfl⟩,rfl⟩⟩⟩
        · -- the cells that are there
          have first:∃ v,w.cell? a=some v:=by
            have hb:∃ cs',w.cells? base (a.add 0) (P.cellsOf e)=some cs':=by
              by_cases hl0:0<len
              · have:=hel 0 hl0
                rw [Nat.zero_mul] at this
                have hs:∃ y,elems[0]? = some y:=⟨_,List.getElem?_eq_getElem (by omega)⟩
                obtain ⟨y,hy⟩:=hs
                rw [hy,Option.bind_eq_some_iff] at this
                obtain ⟨cs',hcs,_⟩:=this
                exact ⟨cs',hcs⟩
              · have:=hcap.2 0 (by omega)
                have hz:(len+0)*P.cellsOf e=0:=by
                  have:len=0:=by omega
                  subst this;simp
                rw [hz] at this
                have hs:∃ y,rest[0]? = some y:=⟨_,List.getElem?_eq_getElem (by omega)⟩
                obtain ⟨y,hy⟩:=hs
                rw [hy,Option.bind_eq_some_iff] at this
                obtain ⟨cs',hcs,_⟩:=this
                exact ⟨cs',hcs⟩
            obtain ⟨cs',hcs⟩:=hb
            obtain ⟨_,hl1,hl2⟩:=World.cells?_some hcs
            have hp:=u.size_pos
            have:=hl2 0 (by omega)
            refine ⟨cs'[0]'(by omega),?_⟩
            rw [List.getElem?_eq_getElem (by omega)] at this
            simpa [Addr.add] using this
          obtain ⟨v0,hv0⟩:=first
          have hspot:=World.cell?_spot hv0
          obtain ⟨b,off,spot⟩:=a
          simp only at hspot
          subst hspot
          have hlt:b<w.heap.size:=by
            unfold World.cell? at hv0
            simp only at hv0
            split at hv0
            · rename_i c E sp hb
              exact (Array.getElem?_eq_some_iff.1 hb).1
            · cases hv0
          obtain ⟨xs,hxl,hxp⟩:=list_of len (fun i d=>Rd (fun b=>b<w.heap.size) w u (fun o=>w.cell? ⟨b,o,none⟩) (off+i*u.size) d) fun i hi=>by
            have:=hel i hi
            rw [List.getElem?_eq_getElem (by omega),Option.bind_eq_some_iff] at this
            obtain ⟨cs',hcs,ht⟩:=this
            obtain ⟨_,hl1,hl2⟩:=World.cells?_some hcs
            obtain ⟨d,hd⟩:=trod_rd n u e _ cs' _ h1 ht
            refine ⟨d,?_⟩
            have:=Rd_shift hd (off+i*u.size)
            rw [Nat.zero_add] at this
            refine Rd_mono (fun _ h=>h) (fun _ _ _=>rfl) u _ _ _ _ (fun j hj => ?_) this
            have:=hl2 j (by omega)
            rw [addr_add,addr_add,h2] at this
            rw [Nat.add_sub_cancel_left,← this]
          subst hxl
          exact ⟨xs,Rd_sl.2 ⟨_,rfl,by omega,.inr ⟨b,off,cap,rfl,hl,hm,hlt,fun i hi=>hxp i hi⟩⟩⟩
    · rename_i t' fs hu
      obtain ⟨xs,m,_,_,hl,hlen,hf⟩:=DataW.trod_struct hu hx
      refine fieldsFit_rd (n:=m) (fun t τ cs x h1 h2=>trod_rd n t τ m cs x h1 h2) fs.toList _ 0 h fun fd hm => ?_
      obtain ⟨i,hi,rfl⟩:=List.mem_iff_getElem.1 hm
      have:=hf i fs[i] (Array.getElem?_eq_getElem (by simpa using hi))
      have hi':i<fs.size:=by simpa using hi
      rw [List.getElem?_eq_getElem (by omega)] at this
      exact ⟨_,by simpa using this⟩
    · rename_i t' k e hu
      obtain ⟨xs,m,_,_,hl,hlen,hf⟩:=DataW.trod_array hu hx
      have:=arrFit_rd (n:=m) (cs:=cs) (e:=e) (fun t τ cs x h1 h2=>trod_rd n t τ m cs x h1 h2) k _ 0 h fun j _ hj=>by
        have:=hf j (by omega)
        rw [List.getElem?_eq_getElem (by omega)] at this
        exact ⟨_,this⟩
      simpa using this
    · cases h
abbrev LPs:=List (Bool×CT)
def lawPs:LPs->List PK
  | []=>[]
  | (true,t)::r => .agg t::lawPs r
  | (false,t)::r => .val t::lawPs r
def lawB:(l:LPs)->BDs (lawPs l)
  | []=>()
  | (true,_)::r=>lawB r
  | (false,_)::r=>lawB r
def lawCt (l:LPs):Ct:=⟨lawPs l,[.val .bool],fun _=>[],fun _=>((true,()),lawB l)⟩
def isAggT (P:Program) (τ:TypeId):Bool:=match P.underlying τ with
  | some (.struct _)=>true
  | some (.array _ _)=>true
  | _=>false
def flatOne:CT->Bool
  | .pair _ _=>false
  | _=>true
def lawFits (P:Program):LPs->List TypeId->Bool
  | [],[]=>true
  | (b,t)::r,τ::τs=>(match b,isAggT P τ with|true,true=>true|false,false=>flatOne t|_,_=>false)&&fitsT P 12 t τ&&Nat.beq (P.cellsOf τ) t.size&&lawFits P r τs
  | _,_=>false
theorem okWide_agg {r:Reach} {b0:Nat} {τ:TypeId} {v:Value} (h:isAggT P τ=true) (hv:Value.okWide P w r b0 τ v):∃ vs,v = .agg vs/\vs.size=P.cellsOf τ:=by
  unfold isAggT at h
  unfold Value.okWide at hv
  split at h
  · rename_i fs hu;rw [hu] at hv;obtain ⟨cs,h1,h2,_⟩:=hv;exact ⟨cs,h1,h2⟩
  · rename_i fs hu;rw [hu] at hv;obtain ⟨cs,h1,h2,_⟩:=hv;exact ⟨cs,h1,h2⟩
  · cases h
theorem okWide_bool1 {r:Reach} {b0:Nat} {τ:TypeId} {v:Value} (ht:P.underlying τ=some .bool) (h:Value.okWide P w r b0 τ v):∃ b,v = .bool b:=by
  simp only [Value.okWide,ht,Cell.okWide] at h
  cases v <;> simp_all [Cell.ok]
theorem okWide_one {r:Reach} {b0:Nat} {n:Nat} {t:CT} {τ:TypeId} {v:Value} (hf:flatOne t=true) (hq:isAggT P τ=false) (h:fitsT P n t τ=true) (hv:Value.okWide P w r b0 τ v):v.cells = #[v]:=by
  cases n with
  | zero=>cases h
  | succ n =>
    unfold fitsT at h
    split at h
    · rename_i k k' hu;obtain ⟨m,rfl⟩:=okWide_int hu hv;rfl
    · rename_i hu;obtain ⟨m,rfl⟩:=okWide_bool1 hu hv;rfl
    · rename_i hu;obtain ⟨m,rfl⟩:=okWide_string hu hv;rfl
    · rename_i e u hu;obtain ⟨a,l,c,rfl⟩:=okWide_slice hu hv;rfl
    · rename_i t' fs hu;unfold isAggT at hq;rw [hu] at hq;cases hq
    · rename_i t' k e hu;unfold isAggT at hq;rw [hu] at hq;cases hq
    · cases h
theorem kEq_refl (k:IntKind):kEq k k=true:=by cases k <;> rfl
theorem castL_refl {t:CT} {xs:List t.D}:castL t t xs=some xs:=by unfold castL;rw [dif_pos rfl]
theorem projC_flat {h:Heap}:∀ (t:CT) (d:t.D) (rest:List SV),(projC t (flat t d++rest)).run h=some ((d,rest,[]),[])
  | .int k,d,rest=>by simp only [flat,List.cons_append,List.nil_append,projC,kEq_refl];rfl
  | .bool,d,rest=>rfl
  | .str,d,rest=>rfl
  | .sl t,d,rest=>by simp only [flat,List.cons_append,List.nil_append,projC,castL_refl];rfl
  | .pair a b,d,rest=>by
    have bindrun:∀ {α β:Type} (q:Q α) (f:α->Q β) (x:α) (y:β),q.run h=some (x,[])->(f x).run h=some (y,[])->(q.bind f).run h=some (y,[]):=by
      intro α β q
      induction q with
      | ret a=>intro f x y h1 h2;simp only [Q.run,Option.some.injEq,Prod.mk.injEq] at h1;rw [← h1.1] at h2;exact h2
      | ask n k ih =>
        intro f x y h1 h2
        simp only [Q.run] at h1
        split at h1
        · simp only [Option.some.injEq,Prod.mk.injEq] at h1
          exact absurd h1.2 (by simp)
        · cases h1
      | fail=>intro f x y h1 h2;cases h1
    simp only [flat,List.append_assoc,projC]
    refine bindrun _ _ _ _ (projC_flat a d.1 (flat b d.2++rest)) ?_
    exact bindrun _ _ _ _ (projC_flat b d.2 rest) rfl
theorem Q.bind_run0 {h:Heap} {α:Type u} {β:Type v} (q:Q α) (f:α->Q β) (x:α) (y:β) (h1:q.run h=some (x,[])) (h2:(f x).run h=some (y,[])):(q.bind f).run h=some (y,[]):=by
  cases q with
  | ret a=>simp only [Q.run,Option.some.injEq,Prod.mk.injEq] at h1;rw [← h1.1] at h2;exact h2
  | ask n k =>
    simp only [Q.run] at h1
    split at h1
    · simp only [Option.some.injEq,Prod.mk.injEq] at h1
      exact absurd h1.2 (by simp)
    · cases h1
  | fail=>cases h1
theorem val1_flat {t:CT} (hf:flatOne t=true) (d:t.D):flat t d=[val1 t d]:=by
  cases t <;> first|rfl|cases hf
def lpsOk:LPs->Bool
  | []=>true
  | (b,t)::r=>(b||flatOne t)&&lpsOk r
theorem match_law {h:Heap}:∀ (l:LPs) (d:PDs (lawPs l)),lpsOk l=true->(matchArgs none (lawPs l) (argsOf (lawPs l) d 0 0)).run h=some ((d,[],[],[]),[])
  | [],d,_=>rfl
  | (true,t)::r,d,hok=>by
    simp only [lpsOk,Bool.and_eq_true] at hok
    simp only [lawPs,argsOf,matchArgs]
    refine Q.bind_run0 _ _ _ _ (by have:=projC_flat (h:=h) t d.1 [];rw [List.append_nil] at this;exact this) ?_
    exact Q.bind_run0 _ _ _ _ (match_law r d.2 hok.2) rfl
  | (false,t)::r,d,hok=>by
    simp only [lpsOk,Bool.and_eq_true,Bool.false_or] at hok
    simp only [lawPs,argsOf,matchArgs]
    refine Q.bind_run0 _ _ _ _ (by have:=projC_flat (h:=h) t d.1 [];rw [List.append_nil,val1_flat hok.1] at this;exact this) ?_
    exact Q.bind_run0 _ _ _ _ (match_law r d.2 hok.2) rfl
theorem law_args {r:Reach} {b0:Nat}:∀ (l:LPs) (τs:List TypeId) (vs:List Value) (ds:List (DataW H)) (ps:List MemPlace),lawFits P l τs=true->DataW.TrodAll enc P w base (fun _=>true) held τs vs ds ps →
    (∀ (j:Nat) t v,τs[j]? = some t->vs[j]? = some v->Value.okWide P w r b0 t v)->lpsOk l=true∧∃ d:PDs (lawPs l),DenL (fun b=>b<w.heap.size) (fun _ => .un) w (argsOf (lawPs l) d 0 0) vs
  | [],[],vs,ds,ps,h,ht,hv=>by
    obtain ⟨rfl,_,_⟩:=trodAll_nil ht
    exact ⟨rfl,(),by simp [lawPs,argsOf,DenL]⟩
  | (b,t)::l,τ::τs,vs,ds,ps,h,ht,hv=>by
    obtain ⟨v,vs',d,ds',p,q,rfl,rfl,rfl,h0,hr⟩:=trodAll_cons ht
    simp only [lawFits,Bool.and_eq_true] at h
    obtain ⟨⟨⟨h1,h2⟩,h3⟩,h4⟩:=h
    have h3:=Nat.eq_of_beq_eq_true h3
    obtain ⟨g1,d2,g2⟩:=law_args l τs vs' ds' q h4 hr (fun j t v ht hv'=>hv (j+1) t v (by simpa using ht) (by simpa using hv'))
    have hv0:=hv 0 τ v rfl rfl
    obtain ⟨fuel,hf⟩:=h0
    obtain ⟨d1,hd1⟩:=trod_rd 12 t τ fuel _ _ h2 hf
    cases b with
    | true =>
      have hag:isAggT P τ=true:=by
        cases hq:isAggT P τ with
        | true=>rfl
        | false=>rw [hq] at h1;cases h1
      obtain ⟨us,rfl,hus⟩:=okWide_agg hag hv0
      refine ⟨by simp [lpsOk,g1],(d1,d2),?_⟩
      simp only [lawPs,argsOf,DenL,Den]
      refine ⟨_,vs',rfl,⟨us,rfl,den_flatL (by simpa using hus.trans h3) (by simpa [Value.cells] using hd1)⟩,g2⟩
    | false =>
      have hq:isAggT P τ=false:=by
        cases hq:isAggT P τ with
        | true=>rw [hq] at h1;cases h1
        | false=>rfl
      rw [hq] at h1
      simp only at h1
      refine ⟨by simp [lpsOk,g1,h1],(d1,d2),?_⟩
      simp only [lawPs,argsOf,DenL]
      have hc:=okWide_one h1 hq h2 hv0
      rw [hc] at hd1
      exact ⟨v,vs',rfl,den_flat1 (rest:=[]) (by simpa using hd1),g2⟩
  | [],_::_,_,_,_,h,_,_=>by cases h
  | _::_,[],_,_,_,h,_,_=>by cases h
def GlobsOK (w:World) (G:Globs):Prop:=∀ g x,G g=some x->g<w.heap.size/\Rd (fun b=>b<w.heap.size) w x.1 (fun o=>w.cell? ⟨g,o,none⟩) 0 x.2
theorem law_walkG {G:Globs} (hG:GlobsOK w G) {f:FuncId} {l:LPs} (ok:SpecOK P G f (lawCt l).spec) {r:Reach} {b0:Nat} {τs:List TypeId} {args:Array Value} {ds:List (DataW H)} {ps:List MemPlace} (hl:lawFits P l τs=true)
    (ht:DataW.TrodAll enc P w base (fun _=>true) held τs args.toList ds ps) (hv:∀ (j:Nat) t v,τs.toArray[j]? = some t->args[j]? = some v->Value.okWide P w r b0 t v) :
    Calls P f args w fun e w'=>e = .returned (.bool true)/\Below w.heap.size w w':=by
  obtain ⟨hok,d,hd⟩:=law_args l τs args.toList ds ps hl ht (fun j t v h1 h2=>hv j t v (by simpa using h1) (by simpa using h2))
  have hkeep:keepF (lawPs l) [.val .bool]=false:=by
    have:∀ l:LPs,psPlain (lawPs l)=true:=by
      intro l
      induction l with
      | nil=>rfl
      | cons x l ih=>obtain ⟨b,t⟩:=x;cases b <;> exact ih
    simp only [keepF,this,rsPlain,CT.plain,Bool.and_self,Bool.not_true]
  have hbU:∀ nb,boxU 0 (lawPs l) (lawB l) [] nb=[]:=by
    intro nb
    induction l with
    | nil=>rfl
    | cons x l ih =>
      obtain ⟨b,t⟩:=x
      have:∀ l:LPs,boxU 0 (lawPs l) (lawB l) [] nb=[]:=by
        intro l
        induction l with
        | nil=>rfl
        | cons x l ih=>obtain ⟨b,t⟩:=x;cases b <;> exact ih
      cases b <;> exact this l
  have hnU:∀ (l:LPs) nb,newU (lawPs l) (lawB l) nb=[]:=by
    intro l nb
    induction l with
    | nil=>rfl
    | cons x l ih=>obtain ⟨b,t⟩:=x;cases b <;> exact ih
  have hnB:∀ (l:LPs),nOwnB (lawPs l)=0:=by
    intro l
    induction l with
    | nil=>rfl
    | cons x l ih=>obtain ⟨b,t⟩:=x;cases b <;> exact ih
  have hrun:((lawCt l).spec 0 (argsOf (lawPs l) d 0 0)).run (fun _ => .un)=some (Dl.det [] (.bool true) [],[]):=by
    unfold Ct.spec
    refine Q.bind_run0 _ _ _ _ (match_law l d hok) ?_
    simp only [namesOk,somes,List.append_nil,nodupN,disjN,lawCt,retU,hkeep,hbU,hnU,hnB,deadU,resH,resSV,resV,val1,flat,nOwn,askUn,List.headD_nil]
    rfl
  have m:Mod w ⟨fun _=>False,fun b=>b<w.heap.size,G⟩ (fun b=>b<w.heap.size) (fun _ => .un) (fun _ => .un) w :=
    ⟨rfl,rfl,rfl,Nat.le_refl _,fun _ _ _=>rfl,fun _ h=>h,fun _=>rfl,fun _ _ _ _ h=>(by cases h),fun _ _ _ _ _ _ _ h=>(by cases h),fun b hb => .inl hb,hG⟩
  have:=ok 0 (argsOf (lawPs l) d 0 0) (fun _ => .un) _ _ hrun trivial w _ _ _ w args.toList rfl m hd
  refine Calls.mono this ?_
  rintro e w' ⟨v,rfl,x,A',env',_,hm,_,hden⟩
  simp only [Dl.val,Den] at hden
  exact ⟨by rw [hden],hm.os,hm.tape,hm.output,hm.size,fun k hk=>hm.fr k hk (fun h=>h)⟩
theorem law_walk {f:FuncId} {l:LPs} (ok:SpecOK P (fun _=>none) f (lawCt l).spec) {r:Reach} {b0:Nat} {τs:List TypeId} {args:Array Value} {ds:List (DataW H)} {ps:List MemPlace} (hl:lawFits P l τs=true)
    (ht:DataW.TrodAll enc P w base (fun _=>true) held τs args.toList ds ps) (hv:∀ (j:Nat) t v,τs.toArray[j]? = some t->args[j]? = some v->Value.okWide P w r b0 t v) :
    Calls P f args w fun e w'=>e = .returned (.bool true)/\Below w.heap.size w w':=law_walkG (fun g x h=>by cases h) ok hl ht hv
def tysOk (P:Program):List TypeId->Bool
  | []=>true
  | t::r=>P.readableRec t&&decide (t<P.types.size)&&tysOk P r
theorem trodAll_below (hl:laidOutB P=true):∀ {τs:List TypeId} {vs:List Value} {ds:List (DataW H)} {ps:List MemPlace} {w':World},tysOk P τs=true →
    DataW.TrodAll enc P w 0 (fun _=>true) true τs vs ds ps->Below w.heap.size w w'→DataW.TrodAll enc P w' 0 (fun b=>decide (b<w.heap.size)) true τs vs ds ps
  | [],vs,ds,ps,w',_,h,hb=>by
    obtain ⟨rfl,rfl,rfl⟩:=trodAll_nil h
    exact trodAll_mk0
  | τ::τs,vs,ds,ps,w',hr,h,hb=>by
    obtain ⟨v,vs',d,ds',p,q,rfl,rfl,rfl,h0,hr'⟩:=trodAll_cons h
    simp only [tysOk,Bool.and_eq_true,decide_eq_true_eq] at hr
    have lt:∀ x∈p,x.block<w.heap.size:=by
      obtain ⟨m,hm⟩:=h0
      exact DataW.trod_lt m _ _ _ hm
    exact trodAll_cons_mk (Below.trod hl hr.1.1 hr.1.2 h0 hb lt) (trodAll_below hl hr.2 hr' hb)
end
end Go.SX

/- SX, part 24: what is to be shown of a function, under one name. -/
namespace Go.SX
set_option linter.unusedVariables false
def bodyOf (fn:Func):Code:=match fn.body with
  | some c=>c
  | none => .skip
def Ct.vc (P:Program) (sp:Specs) (c:Ct) (fn:Func) (an:PDs c.ps->Anns):Prop :=
  allP c.ps fun d=>wfP c.ps d->conjE (c.pre d)->forceSt (startSt c.ps d fn.ntmps) (sx P sp (an d) (bodyOf fn) (retG P c.ps c.rs fn.results.toList fun y=>conjE (eqRs c.rs y.1 (c.out d).1++eqBs c.ps y.2 (c.out d).2)))
structure Hide (p:Prop):Prop where
  out:p
theorem hideMp {p q:Prop} (h:p=q) (v:q):Hide p:=⟨Eq.mpr h v⟩
theorem Ct.okH {P:Program} {sp:Specs} (c:Ct) {f:FuncId} {fn:Func} (hf:P.funcs[f]? = some fn) (hb:fn.body=some (bodyOf fn)) (hs:SpecsOK P sp) (hmix:P.follows .mixedOrders=true) (an:PDs c.ps->Anns)
    (vc:Hide (Ct.vc P sp c fn an)):SpecOK P sp.gl f c.spec:=c.ok hf hb hs hmix an vc.out
def Cn.vc (P:Program) (sp:Specs) (c:Cn) (fn:Func) (an:PDs c.ps->Anns):Prop :=
  allP c.ps fun d=>wfP c.ps d->conjE (c.pre d)->forceSt (startSt c.ps d fn.ntmps) (sx P sp (an d) (bodyOf fn) (retG P c.ps c.rs fn.results.toList (c.post d)))
theorem Cn.okH {P:Program} {sp:Specs} (c:Cn) {f:FuncId} {fn:Func} (hf:P.funcs[f]? = some fn) (hb:fn.body=some (bodyOf fn)) (hs:SpecsOK P sp) (hmix:P.follows .mixedOrders=true) (an:PDs c.ps->Anns)
    (vc:Hide (Cn.vc P sp c fn an)):SpecOK P sp.gl f c.spec:=c.ok hf hb hs hmix an vc.out
def noSpecs (G:Globs):Specs:=⟨fun _=>none,G⟩
theorem noSpecs_ok {P:Program} {G:Globs}:SpecsOK P (noSpecs G):=fun f s h=>by cases h
def withSpec (sp:Specs) (f:FuncId) (s:Spec):Specs:=⟨fun g=>match Nat.beq g f with
  | true=>some s
  | false=>sp.fn g,sp.gl⟩
theorem withSpec_ok {P:Program} {sp:Specs} {f:FuncId} {s:Spec} (h:SpecsOK P sp) (hs:SpecOK P sp.gl f s):SpecsOK P (withSpec sp f s):=fun g t e=>by
  unfold withSpec at e
  simp only at e
  split at e
  · rename_i hb;cases e;rw [Nat.eq_of_beq_eq_true hb];exact hs
  · exact h g t e
def withConc (sp:Specs) (d:Nat):Specs:=withSpec sp (4100000000+d) fun _ _ => .fail
theorem withConc_ok {P:Program} {sp:Specs} {d:Nat} (h:SpecsOK P sp):SpecsOK P (withConc sp d):=withSpec_ok h fun _ _ _ _ _ e=>by cases e
def withOpens (sp:Specs):Specs:=withSpec sp 4200000000 fun _ _ => .fail
theorem withOpens_ok {P:Program} {sp:Specs} (h:SpecsOK P sp):SpecsOK P (withOpens sp):=withSpec_ok h fun _ _ _ _ _ e=>by cases e
def withClose (sp:Specs) (d:Nat):Specs:=withSpec sp (4300000000+d) fun _ _ => .fail
theorem withClose_ok {P:Program} {sp:Specs} {d:Nat} (h:SpecsOK P sp):SpecsOK P (withClose sp d):=withSpec_ok h fun _ _ _ _ _ e=>by cases e
def withCloseAt (sp:Specs) (d n:Nat):Specs:=withSpec sp (4400000000+d) fun _ _ => .ask n fun _ => .fail
theorem withCloseAt_ok {P:Program} {sp:Specs} {d n:Nat} (h:SpecsOK P sp):SpecsOK P (withCloseAt sp d n):=withSpec_ok h fun _ _ _ _ _ e=>by simp [Q.run] at e
theorem ifP_iff {b:Bool} {y n:Prop}:ifP b y n↔(b=true->y)/\(b=false->n):=by cases b <;> simp [ifP]
end Go.SX

/- SX, plain lemmas for what is to be shown of functions. -/
namespace Go.SX
set_option linter.unusedVariables false
theorem w64 {n:Int} (h : -9223372036854775808<=n) (h':n<=9223372036854775807):IntKind.i64.wrap n=n:=IntWalk.i64_in n ⟨h,h'⟩
theorem wu32 {n:Int} (h:0<=n) (h':n<=4294967295):IntKind.u32.wrap n=n:=IntWalk.u32_in n ⟨h,h'⟩
theorem wu64 {n:Int} (h:0<=n) (h':n<=18446744073709551615):IntKind.u64.wrap n=n:=IntWalk.u64_in n ⟨h,h'⟩
theorem ifP_t {y n:Prop}:ifP true y n↔y:=Iff.rfl
theorem ifP_f {y n:Prop}:ifP false y n↔n:=Iff.rfl
theorem getD_mem {α:Type} [Inhabited α] {xs:List α} {i:Int} (h0:0<=i) (h1:i<xs.length):xs.getD i.toNat default∈xs:=by
  have h:i.toNat<xs.length:=by omega
  rw [List.getD_eq_getElem?_getD,List.getElem?_eq_getElem h];exact List.getElem_mem h
theorem tmod_lo {a b:Int} (ha:0<=a):0<=a.tmod b:=Int.tmod_nonneg b ha
theorem tmod_hi {a b:Int} (ha:0<=a) (hb:0<b):a.tmod b<b:=Int.tmod_lt_of_pos a hb
theorem ifP_split {b:Bool} {y n:Prop} (hy:b=true->y) (hn:b=false->n):ifP b y n:=ifP_iff.2 ⟨hy,hn⟩
theorem ri64 (n:Int) : -9223372036854775808<=IntKind.i64.wrap n/\IntKind.i64.wrap n<=9223372036854775807:=IntKind.wrap_has .i64 n
theorem ru32 (n:Int):0<=IntKind.u32.wrap n/\IntKind.u32.wrap n<=4294967295:=IntKind.wrap_has .u32 n
theorem getD_all {α:Type} [Inhabited α] {p:α->Prop} {xs:List α} (h:∀ x∈xs,p x) {i:Int} (h0:0<=i) (h1:i<xs.length):p (xs.getD i.toNat default):=h _ (getD_mem h0 h1)
theorem nd_t {p:Prop} [Decidable p] (h:(!decide p)=true):¬ p:=of_decide_eq_false (by simpa only [Bool.not_eq_true'] using h)
theorem nd_f {p:Prop} [Decidable p] (h:(!decide p)=false):p:=of_decide_eq_true (by simpa only [Bool.not_eq_false'] using h)
theorem ifP_or {a b:Bool} {y n:Prop} (hy:a=true∨b=true->y) (hn:a=false->b=false->n):ifP (bif a then true else b) y n:=by
  cases a with
  | true=>exact hy (.inl rfl)
  | false=>cases b with
    | true=>exact hy (.inr rfl)
    | false=>exact hn rfl rfl
theorem ifP_and {a b:Bool} {y n:Prop} (hy:a=true->b=true->y) (hn:a=false∨b=false->n):ifP (bif a then b else false) y n:=by
  cases a with
  | false=>exact hn (.inl rfl)
  | true=>cases b with
    | true=>exact hy rfl rfl
    | false=>exact hn (.inr rfl)
theorem getD_set {α:Type} [Inhabited α] {l:List α} {i:Nat} {a:α} (h:i<l.length):(l.set i a).getD i default=a:=by
  rw [List.getD_eq_getElem?_getD,List.getElem?_set_self h];rfl
theorem findI_at {α:Type} [Inhabited α] {q:α->Bool} {l:List α} {j:Int} (h0:0<=j) (h1:j<l.length) (h2:∀ x∈l.take j.toNat,q x=false) (h3:q (l.getD j.toNat default)=true) :
    j=if l.findIdx q<l.length then (l.findIdx q:Int) else -1:=by
  have hj:j.toNat<l.length:=by omega
  rw [List.getD_eq_getElem?_getD,List.getElem?_eq_getElem hj,Option.getD_some] at h3
  have e:l.findIdx q=j.toNat:=(List.findIdx_eq hj).2 ⟨h3,fun k hk=>h2 _ (List.mem_take_iff_getElem.2 ⟨k,by omega,rfl⟩)⟩
  rw [e,if_pos hj];omega
theorem findI_none {α:Type} [Inhabited α] {q:α->Bool} {l:List α} {j:Int} (h1:¬ j<l.length) (h2:∀ x∈l.take j.toNat,q x=false) :
    (-1:Int)=if l.findIdx q<l.length then (l.findIdx q:Int) else -1:=by
  rw [List.take_of_length_le (by omega)] at h2
  rw [List.findIdx_eq_length_of_false h2,if_neg (Nat.lt_irrefl _)]
theorem all_next {α:Type} [Inhabited α] {P:α->Prop} {l:List α} {j:Int} (h0:0<=j) (h1:j<l.length) (h2:∀ x∈l.take j.toNat,P x) (h3:P (l.getD j.toNat default)) :
    ∀ x∈l.take (j+1).toNat,P x:=by
  intro x hx
  have hj:j.toNat<l.length:=by omega
  rw [show (j+1).toNat=j.toNat+1 by omega,List.take_add_one,List.getElem?_eq_getElem hj] at hx
  rw [List.getD_eq_getElem?_getD,List.getElem?_eq_getElem hj,Option.getD_some] at h3
  rcases List.mem_append.1 hx with hx|hx
  · exact h2 x hx
  · simp at hx;rw [hx];exact h3
theorem take_next {α:Type} [Inhabited α] {l:List α} {k:Int} (h0:0<=k) (h1:k<l.length):l.take (k+1).toNat=l.take k.toNat++[l.getD k.toNat default]:=by
  have e:(k+1).toNat=k.toNat+1:=by omega
  have hk:k.toNat<l.length:=by omega
  rw [e,List.take_add_one,List.getElem?_eq_getElem hk,List.getD_eq_getElem?_getD,List.getElem?_eq_getElem hk]
  rfl
theorem bor_d {a b:Prop} [Decidable a] [Decidable b]:(bif decide a then true else decide b)=decide (a∨b):=by by_cases h:a <;> simp [h]
theorem band_d {a b:Prop} [Decidable a] [Decidable b]:(bif decide a then decide b else false)=decide (a/\b):=by by_cases h:a <;> simp [h]
theorem band_nn {a b:Prop} [Decidable a] [Decidable b]:(bif !decide a then !decide b else false)=decide (¬ a∧¬ b):=by by_cases h:a <;> simp [h]
theorem band_dn {a b:Prop} [Decidable a] [Decidable b]:(bif decide a then !decide b else false)=decide (a∧¬ b):=by by_cases h:a <;> simp [h]
theorem not_d {a:Prop} [Decidable a]:(!decide a)=decide (¬ a):=by by_cases h:a <;> simp [h]
end Go.SX

/- Base: data types of the program's values. -/
namespace Go.RS
open Go.SX Go.Proofs
set_option maxRecDepth 100000
set_option linter.unusedVariables false
abbrev R64 (x:Int):Prop := -9223372036854775808<=x/\x<=9223372036854775807
abbrev cBlock:CT := .pair (.pair (.int .u32) (.int .i64)) (.int .i64)
abbrev cBlocks:CT := .pair cBlock (.pair cBlock (.pair cBlock (.pair cBlock (.pair cBlock (.pair cBlock (.pair cBlock cBlock))))))
def blocksV:cBlocks.D:=(((0,8),1),((2130706432,8),2),((167772160,8),3),((2886729728,12),3),((3232235520,16),3),((2851995648,16),4),((3758096384,4),5),((4026531840,4),6))
def GL:Globs:=(fun n=>match n with|0=>some ⟨cBlocks,blocksV⟩|_=>none)
theorem hmix:Tryz.prog.follows .mixedOrders=true:=Tryz.checked.mixed
abbrev cI:CT := .int .i64
abbrev cU8:CT := .int .u8
abbrev cU32:CT := .int .u32
abbrev cU64:CT := .int .u64
abbrev cCodes:CT := .pair (.sl cU8) cI
abbrev cBucket:CT := .pair cI cI
abbrev cTokens:CT := .pair cI cI
abbrev cKey:CT := .pair cU32 (.pair cU32 (.pair cI (.pair cI cI)))
def okC (c:List Int×Int):Prop:=0<=c.2/\c.2<=c.1.length
end Go.RS

/- Draw: the choices of a law, with loose contracts: a number in its range. -/
namespace Go.RS
open Go.SX Go.Proofs
set_option maxRecDepth 100000
set_option linter.unusedVariables false
def ct_draw_New:Ct:=⟨[.val (.sl cU8),.val cI],[.box 96 cCodes],fun d=>[0<=d.2.1],fun d=>(((if (d.1.length:Int)<=d.2.1 then d.1 else d.1.take d.2.1.toNat,0),()),())⟩
def an_draw_New:PDs ct_draw_New.ps->Anns:=(fun _=>{})
theorem vc_draw_New :
 ∀(a:List Int) (b:Int),(a.length<=maxLen/\ ∀(c:Int),c∈a->0<=c/\c<=255)/\R64 b/\True->0<=b->ifP (decide (b< ↑a.length)) ((0:Int)<=0/\0<=b/\b<= ↑a.length/\(subL a (Int.toNat (0:Int)) b.toNat,(0:Int))=(if↑a.length<=b then a else List.take b.toNat a,(0:Int))) ((a,(0:Int))=(if↑a.length<=b then a else List.take b.toNat a,(0:Int))):=by
  rintro x y ⟨-,⟨h0,h1⟩,-⟩ h
  refine ifP_split (fun hb => ?_) (fun hb => ?_)
  · have hb:=of_decide_eq_true hb
    refine ⟨by omega,h,by omega,?_⟩
    rw [if_neg (by omega)]
    simp [subL]
  · have hb:=of_decide_eq_false hb
    rw [if_pos (by omega)]
theorem ok_draw_New:SpecOK Tryz.prog GL 10 ct_draw_New.spec:=Ct.okH _ Tryz.func10 (by kernel_rfl) noSpecs_ok hmix an_draw_New (hideMp (by kernel_rfl) vc_draw_New)
def ct_Next256:Cn:=⟨[.box 96 cCodes,.val cI],[.val cI],fun d=>[okC d.1,d.2.1<=256],fun d y=>0<=y.1.1/\(y.1.1<d.2.1∨y.1.1=0)/\okC y.2.1,fun d h=>⟨((0,()),(d.1,())),by simp,by simp,h.1⟩⟩
def an_Next256:PDs ct_Next256.ps->Anns:=(fun _=>{})
def Qbb0 (a:List Int) (b c:Int) :=
 c≠(0:Int)/\0<=Int.tmod (IntKind.wrap .i64 (a.getD b.toNat default)) c/\(Int.tmod (IntKind.wrap .i64 (a.getD b.toNat default)) c<c∨Int.tmod (IntKind.wrap .i64 (a.getD b.toNat default)) c=0)/\okC (a,IntKind.wrap .i64 (b+(1:Int)))
theorem vc_Next256 :
 ∀(a:List Int) (b c:Int),((a.length<=maxLen/\ ∀(d:Int),d∈a->0<=d/\d<=255)/\R64 b)/\R64 c/\True->okC (a,b)/\c<=256-> ∀(d:Bool),d=decide (a.length<=b)->((! d)->((! d)->(! d))/\True)/\(d=false->(! d))/\ifP (bif d then true else decide (c<1)) ((0:Int)<=0/\(0<c∨(0:Int)=0)/\okC (a,b)) (0<=b/\b< ↑a.length/\ifP (decide (256<c)) False (Qbb0 a b c)):=by
  delta Qbb0
  rintro l p n ⟨⟨⟨hl,hw⟩,h0,h1⟩,⟨h2,h3⟩,-⟩ ⟨⟨hc1,hc2⟩,hn⟩
  simp only [maxLen] at hl hc1 hc2
  (repeat (intro (b_:Bool) (hb_:b_=_);(repeat refine ⟨(by first|(simp;done)|(rw [hb_];simp;done)|(rw [hb_];simp;omega)|(rw [hb_];simp;intros;omega)|(rw [hb_];simp +contextual;done)),?_⟩);subst hb_))
  refine ifP_split (fun hb => ?_) (fun hb => ?_)
  · exact ⟨by omega,by simp,hc1,hc2⟩
  · simp at hb
    obtain ⟨hb1,hb2⟩:=hb
    obtain ⟨hm0,hm1⟩:=hw _ (getD_mem hc1 hb1)
    rw [w64 (by omega) (by omega),w64 (by omega) (by omega)]
    refine ⟨hc1,hb1,ifP_split (fun hb => ?_) (fun hb => ?_)⟩
    · have:=of_decide_eq_true hb;omega
    · exact ⟨by omega,tmod_lo hm0,.inl (tmod_hi hm0 (by omega)),by simp only [okC];omega⟩
theorem ok_Next256:SpecOK Tryz.prog GL 27 ct_Next256.spec:=Cn.okH _ Tryz.func27 (by kernel_rfl) noSpecs_ok hmix an_Next256 (hideMp (by kernel_rfl) vc_Next256)
def ct_Next:Cn:=⟨[.box 96 cCodes,.val cI],[.val cI],fun d=>[okC d.1],fun d y=>0<=y.1.1/\(y.1.1<d.2.1∨y.1.1=0)/\okC y.2.1,fun d h=>⟨((0,()),(d.1,())),by simp,by simp,h.1⟩⟩
def an_Next:PDs ct_Next.ps->Anns:=(fun _=>{})
def Qbb1 (a:List Int) (b e:Int) :=
 IntKind.wrap .i64 (IntKind.wrap .i64 ((256:Int)*IntKind.wrap .i64 (a.getD b.toNat default))+e)
theorem vc_Next :
 ∀(a:List Int) (b c:Int),((a.length<=maxLen/\ ∀(d:Int),d∈a->0<=d/\d<=255)/\R64 b)/\R64 c/\True->0<=b/\b<= ↑a.length-> ∀(d:Bool),d=decide (a.length<=b)->((! d)->((! d)->(! d))/\True)/\(d=false->(! d))/\ifP (bif d then true else decide (c<1)) ((0:Int)<=0/\(0<c∨(0:Int)=0)/\okC (a,b)) (0<=b/\b< ↑a.length/\ifP (decide (256<c)) (okC (a,IntKind.wrap .i64 (b+(1:Int)))/\(256:Int)<=256/\ ∀(e:Int) (f:List Int) (g:Int),0<=e/\(e<256∨e=0)/\okC (f,g)->c≠(0:Int)/\0<=Int.tmod (Qbb1 a b e) c/\(Int.tmod (Qbb1 a b e) c<c∨Int.tmod (Qbb1 a b e) c=0)/\okC (f,g)) (Qbb0 a b c)):=by
  delta Qbb0 Qbb1
  rintro l p n ⟨⟨⟨hl,hw⟩,h0,h1⟩,⟨h2,h3⟩,-⟩ ⟨hc1,hc2⟩
  simp only [maxLen] at hl hc1 hc2
  (repeat (intro (b_:Bool) (hb_:b_=_);(repeat refine ⟨(by first|(simp;done)|(rw [hb_];simp;done)|(rw [hb_];simp;omega)|(rw [hb_];simp;intros;omega)|(rw [hb_];simp +contextual;done)),?_⟩);subst hb_))
  refine ifP_split (fun hb => ?_) (fun hb => ?_)
  · exact ⟨by omega,by simp,hc1,hc2⟩
  · simp at hb
    obtain ⟨hb1,hb2⟩:=hb
    obtain ⟨hm0,hm1⟩:=hw _ (getD_mem hc1 hb1)
    rw [w64 (by omega) (by omega),w64 (n:=l.getD p.toNat default) (by omega) (by omega)]
    refine ⟨hc1,hb1,ifP_split (fun hb => ?_) (fun hb => ?_)⟩
    · refine ⟨by simp only [okC];omega,by omega,?_⟩
      rintro r l2 p2 ⟨hr0,hr1,hr2⟩
      rw [w64 (n:=256*_) (by omega) (by omega),w64 (by omega) (by omega)]
      exact ⟨by omega,tmod_lo (by omega),.inl (tmod_hi (by omega) (by omega)),hr2⟩
    · exact ⟨by omega,tmod_lo hm0,.inl (tmod_hi hm0 (by omega)),by simp only [okC];omega⟩
theorem ok_Next:SpecOK Tryz.prog GL 27 ct_Next.spec:=Cn.okH _ Tryz.func27 (by kernel_rfl) (withSpec_ok noSpecs_ok ok_Next256) hmix an_Next (hideMp (by kernel_rfl) vc_Next)
end Go.RS

/- Mix: the mixing of 64 bits: what it is, and that it is one to one. -/
namespace Go.RS
open Go.SX
set_option linter.unusedVariables false
def xs (k a:Nat):Nat:=a ^^^ a/2^k
def mu (c a:Nat):Nat:=a*c%18446744073709551616
def mixN (x:Nat):Nat:=xs 31 (mu 10723151780598845931 (xs 27 (mu 13787848793156543929 (xs 30 ((x+11400714819323198485)%18446744073709551616)))))
def mix (x:Int):Int:=(mixN x.toNat:Int)
theorem xs_lt {k a:Nat} (ha:a<18446744073709551616):xs k a<18446744073709551616:=by
  have h1:a<2^64:=by omega
  have h2:a/2^k<2^64:=Nat.lt_of_le_of_lt (Nat.div_le_self _ _) h1
  have h3:a ^^^ a/2^k<2^64:=Nat.xor_lt_two_pow h1 h2
  unfold xs
  omega
theorem mu_lt {c a:Nat}:mu c a<18446744073709551616:=by unfold mu;omega
theorem mixN_lt (x:Nat):mixN x<18446744073709551616:=by
  unfold mixN
  exact xs_lt mu_lt
theorem mix_lt (x:Int):0<=mix x/\mix x<=18446744073709551615:=by
  have:=mixN_lt x.toNat
  unfold mix
  omega
theorem wrap_u64_nat (n:Nat):IntKind.u64.wrap (n:Int)=((n%18446744073709551616:Nat):Int):=by
  rw [IntKind.wrap_u64,Int.natCast_emod]
  rfl
theorem shr_u64_nat (n k:Nat) (hk:k<=64):shrI .u64 (n:Int) (k:Int)=((n/2^k:Nat):Int):=by
  unfold shrI
  have:min (k:Int).toNat IntKind.u64.bits=k:=by simp only [IntKind.bits,Int.toNat_natCast];omega
  rw [this,Int.fdiv_eq_ediv_of_nonneg _ (Int.le_of_lt (Int.pow_pos (by decide))),Int.natCast_ediv,Int.natCast_pow]
  rfl
theorem xs_u64 (n k:Nat) (hk:k<=64) (hn:n<18446744073709551616):bits .xor .u64 (n:Int) (shrI .u64 (n:Int) (k:Int))=(xs k n:Int):=by
  rw [shr_u64_nat n k hk]
  exact bits_xor_u64_nat _ _ hn (Nat.lt_of_le_of_lt (Nat.div_le_self _ _) hn)
theorem mu_u64 (n c:Nat):IntKind.u64.wrap ((n:Int)*(c:Int))=(mu c n:Int):=by
  rw [← Int.natCast_mul,wrap_u64_nat];rfl
end Go.RS

/- Balance: mixing, hashing, choosing; the law's draws. -/
namespace Go.RS
open Go.SX Go.Proofs
set_option maxRecDepth 100000
set_option linter.unusedVariables false
def ct_draw_Codes_Int:Cn:=⟨[.box 96 cCodes],[.val cI],fun d=>[okC d.1],fun d y=>okC y.2.1 ∧ -9223372036854775808<=y.1.1/\y.1.1<=9223372036854775807,fun d h=>⟨((0,()),(d.1,())),h.1,by simp,by simp⟩⟩
def an_draw_Codes_Int:PDs ct_draw_Codes_Int.ps->Anns:=(fun _=>{})
theorem vc_draw_Codes_Int :
 ∀(a:List Int) (b:Int),((a.length<=maxLen/\ ∀(c:Int),c∈a->0<=c/\c<=255)/\R64 b)/\True->0<=b/\b<= ↑a.length->okC (a,b)/\ ∀(c:Int) (d:List Int) (e:Int),0<=c/\(c<10∨c=0)/\okC (d,e)->ifP (decide (c=0)) (okC (d,e)/\ ∀(f:Int) (g:List Int) (h:Int),0<=f/\(f<3∨f=0)/\okC (g,h)->okC (g,h)/\ -9223372036854775808<=IntKind.wrap .i64 ((-1:Int) -f)/\IntKind.wrap .i64 ((-1:Int) -f)<=9223372036854775807) (ifP (decide (c=1)) (okC (d,e)/\ ∀(f:Int) (g:List Int) (h:Int),0<=f/\(f<14∨f=0)/\okC (g,h)->0<=f/\f< ↑(List.length [(9223372036854775807:Int),(-9223372036854775808:Int),(1125899906842624:Int),(1125899906842625:Int),(65535:Int),(65536:Int),(255:Int),(256:Int),(1023:Int),(1024:Int),(65534:Int),(65535:Int),(4294967296:Int),(4611686018427387905:Int)])/\okC (g,h)/\ -9223372036854775808<=List.getD
 [(9223372036854775807:Int),(-9223372036854775808:Int),(1125899906842624:Int),(1125899906842625:Int),(65535:Int),(65536:Int),(255:Int),(256:Int),(1023:Int),(1024:Int),(65534:Int),(65535:Int),(4294967296:Int),(4611686018427387905:Int)] f.toNat default/\List.getD [(9223372036854775807:Int),(-9223372036854775808:Int),(1125899906842624:Int),(1125899906842625:Int),(65535:Int),(65536:Int),(255:Int),(256:Int),(1023:Int),(1024:Int),(65534:Int),(65535:Int),(4294967296:Int),(4611686018427387905:Int)] f.toNat default<=9223372036854775807) (ifP (decide (c=2)) (okC (d,e)/\ ∀(f:Int) (g:List Int) (h:Int),0<=f/\(f<256∨f=0)/\okC (g,h)->okC (g,h)/\ ∀(i:Int) (j:List Int) (k:Int),0<=i/\(i<256∨i=0)/\okC (j,k)->okC (j,k)/\ -9223372036854775808<=IntKind.wrap .i64 (IntKind.wrap .i64 ((256:Int)*f)+i)/\IntKind.wrap .i64 (IntKind.wrap .i64 ((256:Int)*f)+i)<=9223372036854775807) (okC (d,e)/\ ∀(f:Int) (g:List Int)
 (h:Int),0<=f/\(f<40∨f=0)/\okC (g,h)->okC (g,h)/\R64 f))):=by
  rintro l p-h
  refine ⟨h,?_⟩
  rintro r l2 p2 ⟨h1,h2,h3⟩
  refine ifP_split (fun hb=>⟨h3,?_⟩) (fun hb=>ifP_split (fun hb=>⟨h3,?_⟩) (fun hb=>ifP_split (fun hb=>⟨h3,?_⟩) (fun hb=>⟨h3,?_⟩)))
  · rintro a l4 p4 ⟨h4,h5,h6⟩
    exact ⟨h6,ri64 _⟩
  · rintro a l4 p4 ⟨h4,h5,h6⟩
    refine ⟨h4,by simp;omega,h6,?_⟩
    exact getD_all (p:=fun v => -9223372036854775808<=v/\v<=9223372036854775807) (by simp) h4 (by simp;omega)
  · rintro a l4 p4 ⟨h4,h5,h6⟩
    refine ⟨h6,?_⟩
    rintro a l4 p4 ⟨h4,h5,h6⟩
    exact ⟨h6,ri64 _⟩
  · rintro a l4 p4 ⟨h4,h5,h6⟩
    exact ⟨h6,by omega,by omega⟩
theorem ok_draw_Codes_Int:SpecOK Tryz.prog GL 43 ct_draw_Codes_Int.spec:=Cn.okH _ Tryz.func43 (by kernel_rfl) (withSpec_ok noSpecs_ok ok_Next) hmix an_draw_Codes_Int (hideMp (by kernel_rfl) vc_draw_Codes_Int)
def ct_draw_Codes_Address:Cn:=⟨[.box 96 cCodes],[.val cU32],fun d=>[okC d.1],fun d y=>okC y.2.1/\0<=y.1.1/\y.1.1<=4294967295,fun d h=>⟨((0,()),(d.1,())),h.1,by simp,by simp⟩⟩
def an_draw_Codes_Address:PDs ct_draw_Codes_Address.ps->Anns:=(fun _=>{})
def Qbd2 (f i:Int) :=
 IntKind.wrap .i64 (IntKind.wrap .i64 ((167772160:Int)+shlI IntKind.i64 f (16:Int))+i)
theorem vc_draw_Codes_Address :
 ∀(a:List Int) (b:Int),((a.length<=maxLen/\ ∀(c:Int),c∈a->0<=c/\c<=255)/\R64 b)/\True->0<=b/\b<= ↑a.length->okC (a,b)/\ ∀(c:Int) (d:List Int) (e:Int),0<=c/\(c<12∨c=0)/\okC (d,e)->ifP (decide (c=11)) (okC (d,e)/\ ∀(f:Int) (g:List Int) (h:Int),0<=f/\(f<65536∨f=0)/\okC (g,h)->(0:Int)<=16/\okC (g,h)/\ ∀(i:Int) (j:List Int) (k:Int),0<=i/\(i<65536∨i=0)/\okC (j,k)->okC (j,k)/\0<=IntKind.wrap .u32 (IntKind.wrap .i64 (shlI IntKind.i64 f (16:Int)+i))/\IntKind.wrap .u32 (IntKind.wrap .i64 (shlI IntKind.i64 f (16:Int)+i))<=4294967295) (okC (d,e)/\ ∀(f:Int) (g:List Int) (h:Int),0<=f/\(f<3∨f=0)/\okC (g,h)->(0:Int)<=16/\okC (g,h)/\ ∀(i:Int) (j:List Int) (k:Int),0<=i/\(i<8∨i=0)/\okC (j,k)->okC (j,k)/\0<=IntKind.wrap .u32 (Qbd2 f i)/\IntKind.wrap .u32 (Qbd2 f i)<=4294967295):=by
  delta Qbd2
  rintro l p-h
  refine ⟨h,?_⟩
  rintro r l2 p2 ⟨h1,h2,h3⟩
  refine ifP_split (fun hb=>⟨h3,?_⟩) (fun hb=>⟨h3,?_⟩)
  · rintro a l4 p4 ⟨h4,h5,h6⟩
    refine ⟨by omega,h6,?_⟩
    rintro a l4 p4 ⟨h4,h5,h6⟩
    exact ⟨h6,ru32 _⟩
  · rintro a l4 p4 ⟨h4,h5,h6⟩
    refine ⟨by omega,h6,?_⟩
    rintro a l4 p4 ⟨h4,h5,h6⟩
    exact ⟨h6,ru32 _⟩
theorem ok_draw_Codes_Address:SpecOK Tryz.prog GL 44 ct_draw_Codes_Address.spec:=Cn.okH _ Tryz.func44 (by kernel_rfl) (withSpec_ok noSpecs_ok ok_Next) hmix an_draw_Codes_Address (hideMp (by kernel_rfl) vc_draw_Codes_Address)
def ct_balance_Mix:Ct:=⟨[.val cU64],[.val cU64],fun _=>[],fun d=>((mix d.1,()),())⟩
def an_balance_Mix:PDs ct_balance_Mix.ps->Anns:=(fun _=>{})
def Qbd0 (a:Int) :=
 IntKind.wrap .u64 (bits BinOp.xor IntKind.u64 (IntKind.wrap .u64 (a+(11400714819323198485:Int))) (shrI IntKind.u64 (IntKind.wrap .u64 (a+(11400714819323198485:Int))) (30:Int))*(13787848793156543929:Int))
def Qbd1 (a:Int) :=
 IntKind.wrap .u64 (bits BinOp.xor IntKind.u64 (Qbd0 a) (shrI IntKind.u64 (Qbd0 a) (27:Int))*(10723151780598845931:Int))
theorem vc_balance_Mix :
 ∀(a:Int),(0<=a/\a<=18446744073709551615)/\True->True->(0:Int)<=30/\(0:Int)<=27/\(0:Int)<=31/\bits BinOp.xor IntKind.u64 (Qbd1 a) (shrI IntKind.u64 (Qbd1 a) (31:Int))=mix a:=by
  delta Qbd0 Qbd1
  rintro x ⟨⟨h0,h1⟩,-⟩ -
  refine ⟨by decide,by decide,by decide,?_⟩
  have h0:0<=x:=h0
  obtain ⟨n,rfl⟩:=Int.eq_ofNat_of_zero_le h0
  have e0:IntKind.u64.wrap ((n:Int)+11400714819323198485)=(((n+11400714819323198485)%18446744073709551616:Nat):Int):=wrap_u64_nat (n+11400714819323198485)
  have hm:(n+11400714819323198485)%18446744073709551616<18446744073709551616:=by omega
  have e1:=xs_u64 _ 30 (by decide) hm
  have e2:=mu_u64 (xs 30 ((n+11400714819323198485)%18446744073709551616)) 13787848793156543929
  have e3:=xs_u64 _ 27 (by decide) (mu_lt (c:=13787848793156543929) (a:=xs 30 ((n+11400714819323198485)%18446744073709551616)))
  have e4:=mu_u64 (xs 27 (mu 13787848793156543929 (xs 30 ((n+11400714819323198485)%18446744073709551616)))) 10723151780598845931
  have e5:=xs_u64 _ 31 (by decide) (mu_lt (c:=10723151780598845931) (a:=xs 27 (mu 13787848793156543929 (xs 30 ((n+11400714819323198485)%18446744073709551616)))))
  have c1:((30:Nat):Int)=30:=rfl
  have c2:((27:Nat):Int)=27:=rfl
  have c3:((31:Nat):Int)=31:=rfl
  have c4:((13787848793156543929:Nat):Int)=13787848793156543929:=rfl
  have c5:((10723151780598845931:Nat):Int)=10723151780598845931:=rfl
  rw [c1] at e1
  rw [c4] at e2
  rw [c2] at e3
  rw [c5] at e4
  rw [c3] at e5
  rw [e0,e1,e2,e3,e4,e5]
  unfold mix mixN
  rw [Int.toNat_natCast]
theorem ok_balance_Mix:SpecOK Tryz.prog GL 217 ct_balance_Mix.spec:=Ct.okH _ Tryz.func217 (by kernel_rfl) noSpecs_ok hmix an_balance_Mix (hideMp (by kernel_rfl) vc_balance_Mix)
abbrev Key:Type:=Int×Int×Int×Int×Int
def hstep (h x:Int):Int:=mix (bits .xor .u64 h (IntKind.wrap .u64 x))
def hash (seed:Int) (k:Key):Int:=hstep (hstep (hstep (hstep (hstep (mix (IntKind.wrap .u64 seed)) k.1) k.2.1) k.2.2.1) k.2.2.2.1) k.2.2.2.2
theorem hash_range (s:Int) (k:Key):0<=hash s k/\hash s k<=18446744073709551615:=mix_lt _
def hashAt (seed:Int) (k:Key) (j:Int):Int:=([k.1,k.2.1,k.2.2.1,k.2.2.2.1,k.2.2.2.2].take j.toNat).foldl hstep (mix (IntKind.wrap .u64 seed))
def ct_balance_Hash:Ct:=⟨[.val cI,.agg cKey],[.val cU64],fun _=>[],fun d=>((hash d.1 d.2.1,()),())⟩
def an_balance_Hash:PDs ct_balance_Hash.ps->Anns:=(fun d=>{loops:=(fun n=>match n with|3=>some (fun S=>{ι:=Int×Int,qn:=⟨fun k_=>∀ (j:Int) (h:Int),k_ (j,h),fun k_ h_ i=>h_ i.1 i.2,fun k_=>∃ (j:Int) (h:Int),k_ (j,h),fun k_ ⟨j,h,h_⟩=>⟨_,h_⟩⟩,μ:=fun i=>(5-i.1).toNat,inv:=fun i=>0<=i.1/\i.1<=5/\i.2=hashAt d.1 d.2.1 i.1,keep:=[23],slots:=fun i=>[(5,.int .u64 i.2),(24,.int .i64 i.1)],names:=fun i=>[]})|_=>none)})
theorem vc_balance_Hash :
 ∀ (x x_1 x_2 x_3 x_4 x_5:Int),R64 x/\((0<=x_1/\x_1<=4294967295)/\(0<=x_2/\x_2<=4294967295)/\R64 x_3/\R64 x_4/\R64 x_5)/\True->True->(∃ j h,(0<=j/\j<=5/\h=hashAt x (x_1,x_2,x_3,x_4,x_5) j)/\mix (IntKind.wrap .u64 x)=h/\IntKind.wrap .i64 x_1=IntKind.wrap .i64 x_1/\IntKind.wrap .i64 x_2=IntKind.wrap .i64 x_2/\x_3=x_3/\x_4=x_4/\x_5=x_5/\(0:Int)=j/\True)/\∀ (j h:Int),0<=j/\j<=5/\h=hashAt x (x_1,x_2,x_3,x_4,x_5) j->ifP (decide (j<5)) (0<=j/\j<↑(5:Nat)/\∃ j_1 h_1,(0<=j_1/\j_1<=5/\h_1=hashAt x (x_1,x_2,x_3,x_4,x_5) j_1)/\Int.toNat ((5:Int)-j_1)<Int.toNat ((5:Int)-j)/\mix (bits BinOp.xor IntKind.u64 h (IntKind.wrap .u64 (pickI [IntKind.wrap .i64 x_1,IntKind.wrap .i64 x_2,x_3,x_4,x_5] j.toNat)))=h_1/\IntKind.wrap .i64 x_1=IntKind.wrap .i64 x_1 /\
 IntKind.wrap .i64 x_2=IntKind.wrap .i64 x_2/\x_3=x_3/\x_4=x_4/\x_5=x_5/\IntKind.wrap .i64 (j+(1:Int))=j_1/\True) (h=hash x (x_1,x_2,x_3,x_4,x_5)):=by
  rintro x a b c e f ⟨-,⟨⟨a0,a1⟩,⟨b0,b1⟩,⟨c0,c1⟩,⟨e0,e1⟩,f0,f1⟩,-⟩ -
  refine ⟨⟨0,_,⟨by omega,by omega,rfl⟩,(by repeat' first|exact trivial|refine ⟨trivial,?_⟩|refine ⟨(by with_reducible rfl),?_⟩|refine ⟨w64 (by omega) (by omega),?_⟩|refine ⟨rfl,?_⟩)⟩,?_⟩
  rintro j h ⟨h0,h1,rfl⟩
  refine ifP_split (fun hj => ?_) (fun hj => ?_)
  · have hj:=of_decide_eq_true hj
    refine ⟨h0,by omega,j+1,hashAt x (a,b,c,e,f) (j+1),⟨by omega,by omega,rfl⟩,by omega,?_,rfl,rfl,rfl,rfl,rfl,w64 (by omega) (by omega),trivial⟩
    rw [w64 (n:=a) (by omega) (by omega),w64 (n:=b) (by omega) (by omega)]
    have:j=0∨j=1∨j=2∨j=3∨j=4:=by omega
    rcases this with rfl|rfl|rfl|rfl|rfl <;> rfl
  · have hj:=of_decide_eq_false hj
    have:j=5:=by omega
    subst this
    rfl
theorem ok_balance_Hash:SpecOK Tryz.prog GL 213 ct_balance_Hash.spec:=Ct.okH _ Tryz.func213 (by kernel_rfl) (withSpec_ok noSpecs_ok ok_balance_Mix) hmix an_balance_Hash (hideMp (by kernel_rfl) vc_balance_Hash)
def choose (way seed:Int) (k:Key) (count n:Int):Int×Int :=
  if n<1∨16<n∨count<0∨way<1∨3<way then (0,1) else
    (if way=1 then (hash seed k).tmod n else if way=2 then (hash seed (k.1,k.2.1,0,0,0)).tmod n else count.tmod n,0)
def ct_balance_Choose:Ct:=⟨[.val cI,.val cI,.agg cKey,.val cI,.val cI],[.val cI,.val cI],fun _=>[],fun d=>(((choose d.1 d.2.1 d.2.2.1 d.2.2.2.1 d.2.2.2.2.1).1,(choose d.1 d.2.1 d.2.2.1 d.2.2.2.1 d.2.2.2.2.1).2,()),())⟩
def an_balance_Choose:PDs ct_balance_Choose.ps->Anns:=(fun _=>{})
theorem vc_balance_Choose :
 ∀(a b c d e f g h i:Int),R64 a/\R64 b/\((0<=c/\c<=4294967295)/\(0<=d/\d<=4294967295)/\R64 e/\R64 f/\R64 g)/\R64 h/\R64 i/\True->True-> ∀(j:Bool),j=decide (i<1)->((! j)->((! j)->(! j))/\True)/\(j=false->(! j))/\ ∀(k:Bool),(k=bif j then true else decide (16<i))->((! k)->((! k)->(! k))/\True)/\(k=false->(! k))/\ifP (bif k then true else decide (h<0)) ((0:Int)=(choose a b (c,d,e,f,g) h i).1/\(1:Int)=(choose a b (c,d,e,f,g) h i).2) (ifP (decide (a=1)) (IntKind.wrap .u64 i≠(0:Int)/\IntKind.wrap .i64 (Int.tmod (hash b (c,d,e,f,g)) (IntKind.wrap .u64 i))=(choose a b (c,d,e,f,g) h i).1/\(0:Int)=(choose a b (c,d,e,f,g) h i).2) (ifP (decide (a=2)) (IntKind.wrap .u64 i≠(0:Int)/\IntKind.wrap .i64 (Int.tmod (hash b (c,d,(0:Int),(0:Int),(0:Int))) (IntKind.wrap .u64 i))=(choose a b (c,d,e,f,g) h i).1/\(0:Int)=(choose a b (c,d,e,f,g) h i).2) (ifP (decide (a=3)) (IntKind.wrap .u64 i≠(0:Int)/\IntKind.wrap
 .i64 (Int.tmod (IntKind.wrap .u64 h) (IntKind.wrap .u64 i))=(choose a b (c,d,e,f,g) h i).1/\(0:Int)=(choose a b (c,d,e,f,g) h i).2) ((0:Int)=(choose a b (c,d,e,f,g) h i).1/\(1:Int)=(choose a b (c,d,e,f,g) h i).2)))):=by
  rintro x s a b c e f cnt n ⟨-,-,-,⟨c0,c1⟩,⟨n0,n1⟩,-⟩ -
  (repeat (intro (b_:Bool) (hb_:b_=_);(repeat refine ⟨(by first|(simp;done)|(rw [hb_];simp;done)|(rw [hb_];simp;omega)|(rw [hb_];simp;intros;omega)|(rw [hb_];simp +contextual;done)),?_⟩);subst hb_))
  refine ifP_split (fun h => ?_) (fun h => ?_)
  · simp at h
    unfold choose;rw [if_pos (by omega)];exact ⟨rfl,rfl⟩
  · simp at h
    rw [wu64 (n:=n) (by omega) (by omega)]
    have hr:∀ k,0<=(hash s k).tmod n/\(hash s k).tmod n<n:=fun k=>⟨tmod_lo (hash_range _ _).1,tmod_hi (hash_range _ _).1 (by omega)⟩
    unfold choose
    refine ifP_split (fun hx => ?_) (fun hx=>ifP_split (fun hy => ?_) (fun hy=>ifP_split (fun hz => ?_) (fun hz => ?_)))
    · simp at hx
      subst hx
      have:=hr (a,b,c,e,f)
      rw [if_neg (by omega),if_pos rfl,w64 (by omega) (by omega)]
      exact ⟨by omega,rfl,rfl⟩
    · simp at hx hy
      subst hy
      have:=hr (a,b,0,0,0)
      rw [if_neg (by omega),if_neg (by omega),if_pos rfl,w64 (by omega) (by omega)]
      exact ⟨by omega,rfl,rfl⟩
    · simp at hx hy hz
      subst hz
      have q0:=tmod_lo (b:=n) (a:=cnt) (by omega)
      have q1:=tmod_hi (b:=n) (a:=cnt) (by omega) (by omega)
      rw [if_neg (by omega),if_neg (by omega),if_neg (by omega),wu64 (n:=cnt) (by omega) (by omega),w64 (by omega) (by omega)]
      exact ⟨by omega,rfl,rfl⟩
    · simp at hx hy hz
      rw [if_pos (by omega)]
      exact ⟨rfl,rfl⟩
theorem ok_balance_Choose:SpecOK Tryz.prog GL 199 ct_balance_Choose.spec:=Ct.okH _ Tryz.func199 (by kernel_rfl) (withSpec_ok noSpecs_ok ok_balance_Hash) hmix an_balance_Choose (hideMp (by kernel_rfl) vc_balance_Choose)
end Go.RS

/- Ident: identifiers of answers. -/
namespace Go.RS
open Go.SX Go.Proofs
set_option maxRecDepth 100000
set_option linter.unusedVariables false
abbrev cPort:CT := .pair cU32 cI
abbrev cPrefix:CT := .pair cU32 cI
abbrev cRoute:CT := .pair cPrefix (.pair (.sl cI) cI)
abbrev cNode:CT := .pair (.sl cPort) (.pair cU32 (.pair cI (.pair .bool (.pair (.sl cRoute) (.pair cI (.pair cU32 (.pair cI (.pair cI (.pair cI (.pair cBucket (.pair .bool (.pair .bool (.pair cI cI)))))))))))))
abbrev cState:CT := .pair (.sl cRoute) (.pair cI (.pair (.sl cI) (.pair cTokens cI)))
abbrev Prefix:Type:=Int×Int
abbrev Route:Type:=Prefix×List Int×Int
abbrev Node:Type:=List (Int×Int)×Int×Int×Bool×List Route×Int×Int×Int×Int×Int×(Int×Int)×Bool×Bool×Int×Int
abbrev NState:Type:=List Route×Int×List Int×(Int×Int)×Int
def nPorts (n:Node):=n.1
def nLoop (n:Node):=n.2.1
def nOwner (n:Node):=n.2.2.1
def nHost (n:Node):=n.2.2.2.1
def nRoutes (n:Node):=n.2.2.2.2.1
def nSource (n:Node):=n.2.2.2.2.2.1
def nFixed (n:Node):=n.2.2.2.2.2.2.1
def nID (n:Node):=n.2.2.2.2.2.2.2.1
def nBase (n:Node):=n.2.2.2.2.2.2.2.2.1
def nSpeed (n:Node):=n.2.2.2.2.2.2.2.2.2.1
def nLimit (n:Node):=n.2.2.2.2.2.2.2.2.2.2.1
def nSilent (n:Node):=n.2.2.2.2.2.2.2.2.2.2.2.1
def nOpaque (n:Node):=n.2.2.2.2.2.2.2.2.2.2.2.2.1
def nFirst (n:Node):=n.2.2.2.2.2.2.2.2.2.2.2.2.2.1
def nSeed (n:Node):=n.2.2.2.2.2.2.2.2.2.2.2.2.2.2
def sRoutes (s:NState):=s.1
def sSent (s:NState):=s.2.1
def sPortSent (s:NState):=s.2.2.1
def sTokens (s:NState):=s.2.2.2.1
def sBalanced (s:NState):=s.2.2.2.2
theorem i64_and65535 (n:Int):bits .and .i64 n 65535=n%65536:=by
  have h127:(BitVec.ofInt 64 65535).toNat=2^16-1:=by decide
  have key:(BitVec.ofInt 64 n &&& BitVec.ofInt 64 65535).toNat=(n%((2^64:Nat):Int)).toNat%2^16:=by
    rw [BitVec.toNat_and,BitVec.toNat_ofInt,h127,Nat.and_two_pow_sub_one_eq_mod]
  show IntKind.i64.wrap ((BitVec.ofInt 64 n &&& BitVec.ofInt 64 65535).toNat:Nat)=n%65536
  rw [key,IntKind.wrap_i64]
  omega
theorem u64_and65535 {n:Int} (h0:0<=n) (h1:n<=18446744073709551615):bits .and .u64 n 65535=n%65536:=by
  rw [u64_and n 65535 h0 (by omega) (by decide) (by decide)]
  have:(n.toNat &&& Int.toNat 65535)=n.toNat%65536:=Nat.and_two_pow_sub_one_eq_mod n.toNat 16
  rw [this];omega
def grown (speed a:Int):Int:=if speed<0∨1000000<speed∨a<0∨1125899906842624<a then 0 else speed*(a/1000000)+speed*(a%1000000)/1000000
theorem grown_in {speed a:Int}:0<=grown speed a/\grown speed a<=2251799813685248:=by
  unfold grown
  split
  · omega
  · rename_i h
    have a1:0<=a/1000000:=by omega
    have a2:a/1000000<=1125899907:=by omega
    have a3:0<=a%1000000:=by omega
    have a4:a%1000000<=999999:=by omega
    have b1:0<=speed*(a/1000000):=Int.mul_nonneg (by omega) a1
    have b2:speed*(a/1000000)<=1000000*1125899907:=Int.mul_le_mul (by omega) a2 a1 (by omega)
    have b3:0<=speed*(a%1000000):=Int.mul_nonneg (by omega) a3
    have b4:speed*(a%1000000)<=1000000*999999:=Int.mul_le_mul (by omega) a4 a3 (by omega)
    omega
theorem grown_wrap {x a:Int} (h:¬ (x<0∨1000000<x∨a<0∨1125899906842624<a)) :
    IntKind.wrap IntKind.i64 (IntKind.wrap IntKind.i64 (x*IntKind.wrap IntKind.i64 (Int.tdiv a 1000000))+IntKind.wrap IntKind.i64 (Int.tdiv (IntKind.wrap IntKind.i64 (x*Int.tmod a 1000000)) 1000000))=grown x a:=by
  have h2:=grown_in (speed:=x) (a:=a)
  unfold grown at h2 ⊢
  rw [if_neg h] at h2 ⊢
  have a1:0<=a/1000000:=by omega
  have a2:a/1000000<=1125899907:=by omega
  have a3:0<=a%1000000:=by omega
  have a4:a%1000000<=999999:=by omega
  have b1:0<=x*(a/1000000):=Int.mul_nonneg (by omega) a1
  have b2:x*(a/1000000)<=1000000*1125899907:=Int.mul_le_mul (by omega) a2 a1 (by omega)
  have b3:0<=x*(a%1000000):=Int.mul_nonneg (by omega) a3
  have b4:x*(a%1000000)<=1000000*999999:=Int.mul_le_mul (by omega) a4 a3 (by omega)
  rw [Int.tdiv_eq_ediv_of_nonneg (show 0<=a by omega),Int.tmod_eq_emod_of_nonneg (show 0<=a by omega),w64 (n:=a/1000000) (by omega) (by omega),w64 (n:=x*(a/1000000)) (by omega) (by omega),
    w64 (n:=x*(a%1000000)) (by omega) (by omega),Int.tdiv_eq_ediv_of_nonneg b3,w64 (n:=x*(a%1000000)/1000000) (by omega) (by omega),w64 (by omega) (by omega)]
def ct_identifier_Grown:Ct:=⟨[.val cI,.val cI],[.val cI],fun _=>[],fun d=>((grown d.1 d.2.1,()),())⟩
def an_identifier_Grown:PDs ct_identifier_Grown.ps->Anns:=(fun _=>{})
theorem vc_identifier_Grown :
 ∀(a b:Int),R64 a/\R64 b/\True->True-> ∀(c:Bool),c=decide (a<0)->((! c)->((! c)->(! c))/\True)/\(c=false->(! c))/\ ∀(d:Bool),(d=bif c then true else decide (1000000<a))->((! d)->((! d)->(! d))/\True)/\(d=false->(! d))/\ ∀(e:Bool),(e=bif d then true else decide (b<0))->((! e)->((! e)->(! e))/\True)/\(e=false->(! e))/\ifP (bif e then true else decide (1125899906842624<b)) ((0:Int)=grown a b) ((1000000:Int)≠(0:Int)/\(1000000:Int)≠(0:Int)/\(1000000:Int)≠(0:Int)/\IntKind.wrap .i64 (IntKind.wrap .i64 (a*IntKind.wrap .i64 (Int.tdiv b (1000000:Int)))+IntKind.wrap .i64 (Int.tdiv (IntKind.wrap .i64 (a*Int.tmod b (1000000:Int))) (1000000:Int)))=grown a b):=by
  rintro x a - -
  (repeat (intro (b_:Bool) (hb_:b_=_);(repeat refine ⟨(by first|(simp;done)|(rw [hb_];simp;done)|(rw [hb_];simp;omega)|(rw [hb_];simp;intros;omega)|(rw [hb_];simp +contextual;done)),?_⟩);subst hb_))
  refine ifP_split (fun h => ?_) (fun h => ?_)
  · simp at h
    unfold grown;rw [if_pos (by omega)]
  · simp at h
    refine ⟨by omega,by omega,by omega,grown_wrap (by omega)⟩
theorem ok_identifier_Grown:SpecOK Tryz.prog GL 212 ct_identifier_Grown.spec:=Ct.okH _ Tryz.func212 (by kernel_rfl) noSpecs_ok hmix an_identifier_Grown (hideMp (by kernel_rfl) vc_identifier_Grown)
def idOK (n:Node):Bool:=decide (0<=nID n/\nID n<=5/\0<=nBase n/\nBase n<=65535/\0<=nSpeed n/\nSpeed n<=1000000)
def idCheck (n:Node):Int:=if idOK n then 0 else 1
def ct_identifier_Check:Ct:=⟨[.agg cNode],[.val cI],fun _=>[],fun d=>((idCheck d.1,()),())⟩
def an_identifier_Check:PDs ct_identifier_Check.ps->Anns:=(fun _=>{})
def Qbe0 (a:Node) :=
 CT.wf cNode a/\True->True-> ∀(b:Bool),b=decide (a.2.2.2.2.2.2.2.1<0)->((! b)->((! b)->(! b))/\True)/\((! b)->((! b)->(! b))/\True)/\(b=false->(! b))/\ ∀(c:Bool),(c=bif b then true else decide (5<a.2.2.2.2.2.2.2.1))->((! c)->((! c)->(! c))/\True)/\((! c)->((! c)->(! c))/\True)/\(c=false->(! c))/\ ∀(d:Bool),(d=bif c then true else decide (a.2.2.2.2.2.2.2.2.1<0))->((! d)->((! d)->(! d))/\True)/\((! d)->((! d)->(! d))/\True)/\(d=false->(! d))/\ ∀(e:Bool),(e=bif d then true else decide (65535<a.2.2.2.2.2.2.2.2.1))->((! e)->((! e)->(! e))/\True)/\((! e)->((! e)->(! e))/\True)/\(e=false->(! e))/\ ∀(f:Bool),(f=bif e then true else decide (a.2.2.2.2.2.2.2.2.2.1<0))->((! f)->((! f)->(! f))/\True)/\((! f)->((! f)->(! f))/\True)/\(f=false->(! f))/\ifP (bif f then true else decide (1000000<a.2.2.2.2.2.2.2.2.2.1)) ((1:Int)=idCheck a) ((0:Int)=idCheck a)
theorem vc_identifier_Check :
 ∀(a:Node),(Qbe0 a):=by
  delta Qbe0
  rintro d - -
  (repeat (intro (b_:Bool) (hb_:b_=_);(repeat refine ⟨(by first|(simp;done)|(rw [hb_];simp;done)|(rw [hb_];simp;omega)|(rw [hb_];simp;intros;omega)|(rw [hb_];simp +contextual;done)),?_⟩);subst hb_))
  unfold idCheck idOK nID nBase nSpeed
  generalize d.2.2.2.2.2.2.2.1=i
  generalize d.2.2.2.2.2.2.2.2.1=b
  generalize d.2.2.2.2.2.2.2.2.2.1=s
  refine ifP_split (fun h => ?_) (fun h => ?_)
  · simp at h
    rw [if_neg (by simp;omega)]
  · simp at h
    rw [if_pos (by simp;omega)]
theorem ok_identifier_Check:SpecOK Tryz.prog GL 49 ct_identifier_Check.spec:=Ct.okH _ Tryz.func49 (by kernel_rfl) noSpecs_ok hmix an_identifier_Check (hideMp (by kernel_rfl) vc_identifier_Check)
def ct_ref11_Check:Ct:=⟨[.agg cNode],[.val cI],fun _=>[],fun d=>((idCheck d.1,()),())⟩
def an_ref11_Check:PDs ct_ref11_Check.ps->Anns:=(fun _=>{})
theorem vc_ref11_Check :
 ∀(a:Node),(Qbe0 a):=by
  delta Qbe0
  rintro d - -
  (repeat (intro (b_:Bool) (hb_:b_=_);(repeat refine ⟨(by first|(simp;done)|(rw [hb_];simp;done)|(rw [hb_];simp;omega)|(rw [hb_];simp;intros;omega)|(rw [hb_];simp +contextual;done)),?_⟩);subst hb_))
  unfold idCheck idOK nID nBase nSpeed
  generalize d.2.2.2.2.2.2.2.1=i
  generalize d.2.2.2.2.2.2.2.2.1=b
  generalize d.2.2.2.2.2.2.2.2.2.1=s
  refine ifP_split (fun h => ?_) (fun h => ?_)
  · simp at h
    rw [if_neg (by simp;omega)]
  · simp at h
    rw [if_pos (by simp;omega)]
theorem ok_ref11_Check:SpecOK Tryz.prog GL 54 ct_ref11_Check.spec:=Ct.okH _ Tryz.func54 (by kernel_rfl) noSpecs_ok hmix an_ref11_Check (hideMp (by kernel_rfl) vc_ref11_Check)
abbrev wI (n:Int):Int:=IntKind.i64.wrap n
def idSum (n:Node) (sent a:Int):Int:=wI (wI (nBase n+sent)+grown (nSpeed n) a)
def idCount (n:Node) (sent a:Int):Int:=idSum n sent a%65536
def ct_identifier_Next_1:Ct:=⟨[.val cI,.box 30 cNode,.box 3 cI],[.val cI],fun _=>[],fun d=>((idCount d.2.1 d.1 d.2.2.1,()),(d.2.1,d.2.2.1,()))⟩
def an_identifier_Next_1:PDs ct_identifier_Next_1.ps->Anns:=(fun _=>{})
theorem vc_identifier_Next_1 :
 ∀(a:Int) (b:Node) (c:Int),R64 a/\CT.wf cNode b/\R64 c/\True->True->bits BinOp.and IntKind.i64 (IntKind.wrap .i64 (IntKind.wrap .i64 (b.2.2.2.2.2.2.2.2.1+a)+grown b.2.2.2.2.2.2.2.2.2.1 c)) (65535:Int)=idCount b a c/\b=b/\c=c:=by
  rintro x d a - -
  exact ⟨i64_and65535 _,rfl,rfl⟩
theorem ok_identifier_Next_1:SpecOK Tryz.prog GL 211 ct_identifier_Next_1.spec:=Ct.okH _ Tryz.func211 (by kernel_rfl) (withSpec_ok noSpecs_ok ok_identifier_Grown) hmix an_identifier_Next_1 (hideMp (by kernel_rfl) vc_identifier_Next_1)
def idNext (n:Node) (s:NState) (port a asked dst:Int):Int :=
  if nID n=1 then nBase n else if nID n=2 then idCount n (sSent s) a
  else if nID n=3 then (if port<0∨(sPortSent s).length<=port then idCount n 0 a else idCount n ((sPortSent s).getD port.toNat default) a)
  else if nID n=4 then asked else if nID n=5 then hash (nBase n) (0,dst,0,sSent s,0)%65536 else 0
def ct_identifier_Next:Ct:=⟨[.agg cNode,.agg cState,.val cI,.val cI,.val cI,.val cU32],[.val cI],fun _=>[],fun d=>((idNext d.1 d.2.1 d.2.2.1 d.2.2.2.1 d.2.2.2.2.1 d.2.2.2.2.2.1,()),())⟩
def an_identifier_Next:PDs ct_identifier_Next.ps->Anns:=(fun _=>{})
theorem vc_identifier_Next :
 ∀(a:Node) (b:List Route) (c:Int) (d:List Int) (e f g h i j k:Int),CT.wf cNode a/\((b.length<=maxLen/\ ∀(l:Route),l∈b->((0<=l.1.1/\l.1.1<=4294967295)/\R64 l.1.2)/\(l.2.1.length<=maxLen/\ ∀(m:Int),m∈l.2.1->R64 m)/\R64 l.2.2)/\R64 c/\(d.length<=maxLen/\ ∀(l:Int),l∈d->R64 l)/\(R64 e/\R64 f)/\R64 g)/\R64 h/\R64 i/\R64 j/\(0<=k/\k<=4294967295)/\True->True->ifP (decide (a.2.2.2.2.2.2.2.1=1)) (a.2.2.2.2.2.2.2.2.1=idNext a (b,c,d,(e,f),g) h i j k) (ifP (decide (a.2.2.2.2.2.2.2.1=2)) (idCount a c i=idNext a (b,c,d,(e,f),g) h i j k) (ifP (decide (a.2.2.2.2.2.2.2.1=3)) (∀(l:Bool),l=decide (h<0)->((! l)->((! l)->(! l))/\True)/\((! l)->((! l)->(! l))/\True)/\((! l)->((! l)->(! l))/\((! l)->(! l))/\True)/\(l=false->(! l))/\ifP (bif l then true else decide (d.length<=h)) (idCount a (0:Int) i=idNext a (b,c,d,(e,f),g) h i j k) (0<=h/\h< ↑d.length/\idCount a (d.getD h.toNat default) i=idNext a
 (b,c,d,(e,f),g) h i j k)) (ifP (decide (a.2.2.2.2.2.2.2.1=4)) (j=idNext a (b,c,d,(e,f),g) h i j k) (ifP (decide (a.2.2.2.2.2.2.2.1=5)) (IntKind.wrap .i64 (bits BinOp.and IntKind.u64 (hash a.2.2.2.2.2.2.2.2.1 ((0:Int),k,(0:Int),c,(0:Int))) (65535:Int))=idNext a (b,c,d,(e,f),g) h i j k) ((0:Int)=idNext a (b,c,d,(e,f),g) h i j k))))):=by
  rintro d r se ps t1 t2 ba port a asked dst - -
  unfold idNext nID nBase sSent sPortSent
  simp only
  refine ifP_split (fun h => ?_) (fun h => ?_)
  · rw [if_pos (of_decide_eq_true h)]
  have h1:=of_decide_eq_false h
  rw [if_neg h1]
  refine ifP_split (fun h => ?_) (fun h => ?_)
  · rw [if_pos (of_decide_eq_true h)]
  have h2:=of_decide_eq_false h
  rw [if_neg h2]
  refine ifP_split (fun h => ?_) (fun h => ?_)
  · rw [if_pos (of_decide_eq_true h)]
    (repeat (intro (b_:Bool) (hb_:b_=_);(repeat refine ⟨(by first|(simp;done)|(rw [hb_];simp;done)|(rw [hb_];simp;omega)|(rw [hb_];simp;intros;omega)|(rw [hb_];simp +contextual;done)),?_⟩);subst hb_))
    refine ifP_split (fun h => ?_) (fun h => ?_)
    · simp at h
      rw [if_pos h]
    · simp at h
      exact ⟨by omega,by omega,by rw [if_neg (by omega)]⟩
  have h3:=of_decide_eq_false h
  rw [if_neg h3]
  refine ifP_split (fun h => ?_) (fun h => ?_)
  · rw [if_pos (of_decide_eq_true h)]
  have h4:=of_decide_eq_false h
  rw [if_neg h4]
  refine ifP_split (fun h => ?_) (fun h => ?_)
  · rw [if_pos (of_decide_eq_true h)]
    have hr:=hash_range d.2.2.2.2.2.2.2.2.1 (0,dst,0,se,0)
    rw [u64_and65535 hr.1 hr.2,w64 (by omega) (by omega)]
  · rw [if_neg (of_decide_eq_false h)]
theorem ok_identifier_Next:SpecOK Tryz.prog GL 194 ct_identifier_Next.spec:=Ct.okH _ Tryz.func194 (by kernel_rfl) (withSpec_ok (withSpec_ok noSpecs_ok ok_identifier_Next_1) ok_balance_Hash) hmix an_identifier_Next (hideMp (by kernel_rfl) vc_identifier_Next)
end Go.RS

/- Wire: numbers in bytes, the Internet checksum. -/
namespace Go.RS
open Go.SX Go.Proofs
set_option maxRecDepth 100000
set_option linter.unusedVariables false
def beT (n:Int) (w k:Nat):List Int:=(List.range k).map fun j=>n/256^(w-1-j)%256
def putBad (n w:Int):Prop:=w<1∨7<w∨n<0∨256^w.toNat<=n
instance (n w:Int):Decidable (putBad n w):=by unfold putBad;infer_instance
def putB (b:List Int) (n w:Int):List Int:=if putBad n w then [] else b++beT n w.toNat w.toNat
def putE (n w:Int):Int:=if putBad n w then 1 else 0
def numB (l:List Int):Int:=l.foldl (fun n x=>n*256+x) 0
def getV (b:List Int) (at' w:Int):Int:=if w<1∨7<w∨at'<0∨b.length-w<at' then 0 else numB ((b.drop at'.toNat).take w.toNat)
def getE (b:List Int) (at' w:Int):Int:=if w<1∨7<w∨at'<0 then 1 else if b.length-w<at' then 3 else 0
def oc (n:Int):Int:=if n=0 then 0 else (n-1)%65535+1
def sumF:Bool->List Int->Int
  | _,[]=>0
  | hi,x::r=>(if hi then x*256 else x)+sumF (!hi) r
def word16 (n:Int):Bool:=decide (0<=n/\n<=65535)
theorem i64_or_nat (a b:Nat) (ha:a<9223372036854775808) (hb:b<9223372036854775808):bits .or .i64 (a:Int) (b:Int)=((a ||| b:Nat):Int):=by
  have h:a ||| b<2^63:=Nat.or_lt_two_pow (by omega) (by omega)
  have key:(BitVec.ofInt 64 (a:Int) ||| BitVec.ofInt 64 (b:Int)).toNat=a ||| b:=by
    rw [BitVec.toNat_or,BitVec.toNat_ofInt,BitVec.toNat_ofInt]
    have e1:((a:Int)%((2^64:Nat):Int)).toNat=a:=by omega
    have e2:((b:Int)%((2^64:Nat):Int)).toNat=b:=by omega
    rw [e1,e2]
  show IntKind.i64.wrap ((BitVec.ofInt 64 (a:Int) ||| BitVec.ofInt 64 (b:Int)).toNat:Nat)=_
  rw [key,w64 (by omega) (by omega)]
theorem shl8 {n:Int} (h0:0<=n) (h1:n<=36028797018963967):shlI .i64 n 8=n*256:=by
  show IntKind.i64.wrap (n*2^(min 8 64))=_
  rw [w64 (by simp;omega) (by simp;omega)];rfl
theorem or8 {n x:Int} (h0:0<=n) (h1:n<=36028797018963966) (h2:0<=x) (h3:x<=255):bits .or .i64 (shlI .i64 n 8) (IntKind.wrap .i64 x)=n*256+x:=by
  rw [shl8 h0 (by omega),w64 (n:=x) (by omega) (by omega)]
  obtain ⟨m,rfl⟩:=Int.eq_ofNat_of_zero_le h0
  obtain ⟨y,rfl⟩:=Int.eq_ofNat_of_zero_le h2
  have:=i64_or_nat (m*256) y (by omega) (by omega)
  rw [nat_join 8 (m*256) y (by omega) (by omega)] at this
  push_cast at this
  exact this
theorem shr_pow {n:Int} {k:Nat} (h0:0<=n) (hk:k<8):shrI .i64 n (8*k)=n/256^k:=by
  unfold shrI
  have hm:min ((8*(k:Int))).toNat IntKind.i64.bits=8*k:=by simp only [IntKind.bits];omega
  rw [hm,Int.fdiv_eq_ediv_of_nonneg _ (Int.le_of_lt (Int.pow_pos (by decide))),Int.pow_mul]
  rfl
theorem shl_pow {w:Int} (h0:1<=w) (h1:w<=7):shlI .i64 1 (IntKind.wrap .i64 (8*w))=256^w.toNat:=by
  have:w=1∨w=2∨w=3∨w=4∨w=5∨w=6∨w=7:=by omega
  rcases this with rfl|rfl|rfl|rfl|rfl|rfl|rfl <;> decide
theorem beT_succ (n:Int) (w k:Nat):beT n w (k+1)=beT n w k++[n/256^(w-1-k)%256]:=by
  unfold beT;rw [List.range_succ,List.map_append];rfl
theorem beT_len (n:Int) (w k:Nat):(beT n w k).length=k:=by unfold beT;simp
theorem numB_snoc (l:List Int) (x:Int):numB (l++[x])=numB l*256+x:=by unfold numB;rw [List.foldl_append];rfl
theorem numB_bound:∀ (k:Nat) (l:List Int),l.length<=k->(∀ x∈l,0<=x/\x<=255)->0<=numB l/\numB l<256^k:=by
  intro k
  induction k with
  | zero =>
    intro l hl _
    have:l=[]:=List.eq_nil_of_length_eq_zero (by omega)
    subst this;exact ⟨by decide,by decide⟩
  | succ k ih =>
    intro l hl hx
    rcases List.eq_nil_or_concat l with rfl|⟨m,x,rfl⟩
    · exact ⟨by decide,Int.pow_pos (by decide)⟩
    · rw [List.concat_eq_append] at hl hx ⊢
      have h1:=ih m (by simp at hl;omega) (fun y hy=>hx y (List.mem_append_left _ hy))
      have h2:=hx x (by simp)
      rw [numB_snoc,Int.pow_succ]
      generalize (256:Int)^k=P at h1 ⊢
      omega
theorem numB_small {l:List Int} (hl:l.length<=6) (hx:∀ x∈l,0<=x/\x<=255):0<=numB l/\numB l<=281474976710655:=by
  have:=numB_bound 6 l hl hx
  have e:(256:Int)^6=281474976710656:=by decide
  omega
theorem oc_step {n:Int} (h:65535<n):oc (n/65536+n%65536)=oc n:=by
  unfold oc
  rw [if_neg (by omega),if_neg (by omega)];omega
theorem oc_small {n:Int} (h0:0<=n) (h1:n<=65535):oc n=n:=by
  unfold oc;split
  · omega
  · omega
theorem oc_range {n:Int} (h0:0<=n):0<=oc n/\oc n<=65535:=by unfold oc;split <;> omega
theorem oc_add {m x:Int} (h0:0<=m) (h1:0<=x):oc (oc m+x)=oc (m+x):=by
  unfold oc
  by_cases h:m=0
  · simp [h]
  · rw [if_neg h,if_neg (by omega),if_neg (by omega)];omega
theorem sumF_append (hi:Bool) (a b:List Int):sumF hi (a++b)=sumF hi a+sumF (if a.length%2=0 then hi else !hi) b:=by
  induction a generalizing hi with
  | nil=>simp [sumF]
  | cons x a ih =>
    rw [List.cons_append,sumF,sumF,ih,Int.add_assoc]
    congr 3
    rw [List.length_cons]
    by_cases h:a.length%2=0
    · rw [if_pos h,if_neg (by omega)]
    · rw [if_neg h,if_pos (by omega)];simp
theorem sumF_range (hi:Bool) (l:List Int) (hx:∀ x∈l,0<=x/\x<=255):0<=sumF hi l/\sumF hi l<=65280*l.length:=by
  induction l generalizing hi with
  | nil=>simp [sumF]
  | cons x l ih =>
    have h1:=ih (!hi) (fun y hy=>hx y (List.mem_cons_of_mem _ hy))
    have h2:=hx x List.mem_cons_self
    rw [sumF,List.length_cons]
    cases hi
    · simp at h1 ⊢;omega
    · simp at h1 ⊢;omega
theorem take_snoc {l:List Int} {j:Int} (h0:0<=j) (h1:j<l.length):l.take (j+1).toNat=l.take j.toNat++[l.getD j.toNat default]:=by
  have hj:j.toNat<l.length:=by omega
  rw [show (j+1).toNat=j.toNat+1 from by omega,List.take_succ_eq_append_getElem hj,List.getD_eq_getElem?_getD,List.getElem?_eq_getElem hj,Option.getD_some]
def ct_slices_Clone_b979:Ct:=⟨[.val (.sl cU8)],[.own 5 cU8],fun d=>[(d.1.length:Int)<=1099511627776],fun d=>((d.1,()),())⟩
def an_slices_Clone_b979:PDs ct_slices_Clone_b979.ps->Anns:=(fun _=>{})
def Qbf8 (a:List Int) :=
 a.length<=maxLen/\ ∀(b:Int),b∈a->0<=b/\b<=255
def Qbf2 (a:List Int) :=
 (a.length:Int)
theorem vc_slices_Clone_b979 :
 ∀(a:List Int),(Qbf8 a)/\True->(Qbf2 a)<=1099511627776-> ∀(b:Bool),(b=true->a.length=(0:Nat))->ifP b (([]:List Int)=a) (((0:Nat)+a.length)*(1:Nat)<=(140737488355328:Nat)/\a=a):=by
  delta Qbf2 Qbf8
  rintro x ⟨⟨hl,-⟩,-⟩ h b hb
  refine ifP_split (fun h1 => ?_) (fun h1=>⟨by omega,rfl⟩)
  have:=hb h1
  exact (List.eq_nil_of_length_eq_zero this).symm
theorem ok_slices_Clone_b979:SpecOK Tryz.prog GL 130 ct_slices_Clone_b979.spec:=Ct.okH _ Tryz.func130 (by kernel_rfl) noSpecs_ok hmix an_slices_Clone_b979 (hideMp (by kernel_rfl) vc_slices_Clone_b979)
def ct_wire_Put:Ct:=⟨[.val (.sl cU8),.val cI,.val cI],[.own 5 cU8,.val cI],fun d=>[(d.1.length:Int)<=1099511627776],fun d=>((putB d.1 d.2.1 d.2.2.1,putE d.2.1 d.2.2.1,()),())⟩
def an_wire_Put:PDs ct_wire_Put.ps->Anns:=(fun d=>{loops:=(fun n=>match n with|5=>some (fun S=>{ι:=Int×(List Int),qn:=⟨fun k_=>∀ (k:Int) (ys:(List Int)),k_ (k,ys),fun k_ h_ i=>h_ i.1 i.2,fun k_=>∃ (k:Int) (ys:(List Int)),k_ (k,ys),fun k_ ⟨k,ys,h_⟩=>⟨_,h_⟩⟩,μ:=fun i=>(d.2.2.1-i.1).toNat,inv:=fun i=>0<=i.1/\i.1<=d.2.2.1/\i.2=d.1++beT d.2.1 d.2.2.1.toNat i.1.toNat,keep:=[1,2],slots:=fun i=>[(8,.own 524288 1),(9,.int .i64 (8*(d.2.2.1-1-i.1)))],names:=fun i=>[(524288,.live (.row 5 cU8 i.2))]})|_=>none)})
def Qbf4 (a:List Int) :=
 a.length<=maxLen/\ ∀(d:Int),d∈a->0<=d/\d<=255
def Qbf7 (f:Bool) :=
 (! f)->((! f)->(! f))/\((! f)->(! f))/\True
theorem vc_wire_Put :
 ∀(a:List Int) (b c:Int),(Qbf4 a)/\R64 b/\R64 c/\True->(Qbf2 a)<=1099511627776-> ∀(d:Bool),d=decide (c<1)->((! d)->((! d)->(! d))/\True)/\(d=false->(! d))/\ ∀(e:Bool),(e=bif d then true else decide (7<c))->((! e)->((! e)->(! e))/\True)/\(e=false->(! e))/\ ∀(f:Bool),(f=bif e then true else decide (b<0))->((! f)->((! f)->(! f))/\True)/\((! f)->((! f)->(! f))/\0<=IntKind.wrap .i64 ((8:Int)*c)/\True)/\(Qbf7 f)/\(f=false->(! f))/\ifP (bif f then true else decide (shlI IntKind.i64 (1:Int) (IntKind.wrap .i64 ((8:Int)*c))<=b)) (([]:List Int)=putB a b c/\(1:Int)=putE b c) ((Qbf2 a)<=1099511627776/\(∃(g:Int) (h:List Int),(0<=g/\g<=c/\h=a++beT b c.toNat g.toNat)/\b=b/\c=c/\IntKind.wrap .i64 ((8:Int)*IntKind.wrap .i64 (c -(1:Int)))=8*(c -(1:Int) -g)/\a=h/\True)/\ ∀(g:Int) (h:List Int),0<=g/\g<=c/\h=a++beT b c.toNat g.toNat->ifP (decide ((0:Int)<=8*(c -(1:Int) -g))) ((0:Int)<=8*(c -(1:Int)
 -g)/\(h.length+List.length [IntKind.wrap .u8 (shrI IntKind.i64 b ((8:Int)*(c -(1:Int) -g)))])*(1:Nat)<=(140737488355328:Nat)/\ ∃(i:Int) (j:List Int),(0<=i/\i<=c/\j=a++beT b c.toNat i.toNat)/\Int.toNat (c -i)<Int.toNat (c -g)/\b=b/\c=c/\IntKind.wrap .i64 ((8:Int)*(c -(1:Int) -g) -(8:Int))=8*(c -(1:Int) -i)/\h++[IntKind.wrap .u8 (shrI IntKind.i64 b ((8:Int)*(c -(1:Int) -g)))]=j/\True) (h=putB a b c/\(0:Int)=putE b c)):=by
  delta Qbf2 Qbf4 Qbf7
  rintro b n w ⟨-,⟨n0,n1⟩,⟨w0,w1⟩,-⟩ hl
  rintro b1 rfl
  refine ⟨by simp,by simp,?_⟩
  rintro b1 rfl
  refine ⟨by simp,by simp,?_⟩
  rintro b1 rfl
  have hpre:(!(bif (bif decide (w<1) then true else decide (7<w)) then true else decide (n<0)))=true->1<=w/\w<=7/\0<=n:=by
    simp [Bool.cond_eq_ite];omega
  refine ⟨by simp,fun h=>⟨fun _=>h,by have:=hpre h;rw [w64 (by omega) (by omega)];omega,trivial⟩,fun h=>⟨fun _=>h,fun _=>h,trivial⟩,by simp,?_⟩
  refine ifP_split (fun hc => ?_) (fun hc => ?_)
  · have hbad:putBad n w:=by
      unfold putBad
      by_cases h:1<=w/\w<=7
      · rw [shl_pow h.1 h.2] at hc
        simp [Bool.cond_eq_ite] at hc;omega
      · omega
    rw [putB,putE,if_pos hbad,if_pos hbad];exact ⟨rfl,rfl⟩
  · have hw:1<=w/\w<=7/\0<=n:=hpre (by
      cases h:(bif (bif decide (w<1) then true else decide (7<w)) then true else decide (n<0)) with
      | false=>rfl
      | true=>rw [h] at hc;simp at hc)
    obtain ⟨h1,h7,hn⟩:=hw
    rw [shl_pow h1 h7] at hc
    have hgood:¬ putBad n w:=by
      unfold putBad
      simp [Bool.cond_eq_ite] at hc;omega
    rw [putB,putE,if_neg hgood,if_neg hgood]
    refine ⟨hl,⟨0,b,⟨by omega,by omega,by simp [beT]⟩,rfl,rfl,by rw [w64 (n:=w-1) (by omega) (by omega),w64 (by omega) (by omega)];omega,rfl,trivial⟩,?_⟩
    rintro k ys ⟨k0,k1,rfl⟩
    refine ifP_split (fun hk => ?_) (fun hk => ?_)
    · have hk:=of_decide_eq_true hk
      obtain ⟨j,hj⟩:=Int.eq_ofNat_of_zero_le (show 0<=w-1-k by omega)
      rw [hj,shr_pow hn (by omega),IntKind.wrap_u8']
      have hbl:=beT_len n w.toNat k.toNat
      refine ⟨by omega,by simp only [List.length_append,List.length_singleton,hbl];omega,k+1,_,⟨by omega,by omega,rfl⟩,by omega,rfl,rfl,by rw [w64 (by omega) (by omega)];omega,?_,trivial⟩
      rw [show (k+1).toNat=k.toNat+1 from by omega,beT_succ,List.append_assoc,show w.toNat-1-k.toNat=j from by omega]
    · have hk:=of_decide_eq_false hk
      rw [show k=w from by omega];exact ⟨rfl,rfl⟩
theorem ok_wire_Put:SpecOK Tryz.prog GL 132 ct_wire_Put.spec:=Ct.okH _ Tryz.func132 (by kernel_rfl) (withSpec_ok noSpecs_ok ok_slices_Clone_b979) hmix an_wire_Put (hideMp (by kernel_rfl) vc_wire_Put)
def ct_wire_Get:Ct:=⟨[.val (.sl cU8),.val cI,.val cI],[.val cI,.val cI],fun d=>[(d.1.length:Int)<=1099511627776],fun d=>((getV d.1 d.2.1 d.2.2.1,getE d.1 d.2.1 d.2.2.1,()),())⟩
def an_wire_Get:PDs ct_wire_Get.ps->Anns:=(fun d=>{loops:=(fun n=>match n with|7=>some (fun S=>{ι:=Int×Int,qn:=⟨fun k_=>∀ (j:Int) (n:Int),k_ (j,n),fun k_ h_ i=>h_ i.1 i.2,fun k_=>∃ (j:Int) (n:Int),k_ (j,n),fun k_ ⟨j,n,h_⟩=>⟨_,h_⟩⟩,μ:=fun i=>(d.2.2.1-i.1).toNat,inv:=fun i=>0<=i.1/\i.1<=d.2.2.1/\i.2=numB (((d.1.drop d.2.1.toNat).take d.2.2.1.toNat).take i.1.toNat),keep:=[34,35],slots:=fun i=>[(8,.int .i64 i.2),(36,.int .i64 i.1)],names:=fun i=>[]})|_=>none)})
def Qbf5 (b c:Int) :=
 Int.toNat (IntKind.wrap .i64 (b+c))
def Qbf0 (a:List Int) (b c:Int) :=
 ((List.length (subL a b.toNat (Qbf5 b c))):Int)
def Qbf6 (a:List Int) (b c:Int) :=
 List.take c.toNat (List.drop b.toNat a)
theorem vc_wire_Get :
 ∀(a:List Int) (b c:Int),(Qbf4 a)/\R64 b/\R64 c/\True->(Qbf2 a)<=1099511627776-> ∀(d:Bool),d=decide (c<1)->((! d)->((! d)->(! d))/\True)/\(d=false->(! d))/\ ∀(e:Bool),(e=bif d then true else decide (7<c))->((! e)->((! e)->(! e))/\True)/\(e=false->(! e))/\ifP (bif e then true else decide (b<0)) ((0:Int)=getV a b c/\(1:Int)=getE a b c) (ifP (decide (IntKind.wrap .i64 ((Qbf2 a) -c)<b)) ((0:Int)=getV a b c/\(3:Int)=getE a b c) (0<=b/\b<=IntKind.wrap .i64 (b+c)/\IntKind.wrap .i64 (b+c)<=(Qbf2 a)/\(∃(f:Int) (g:Int),(0<=f/\f<=c/\g=numB (List.take f.toNat (Qbf6 a b c)))/\(0:Int)=g/\subL a b.toNat (Qbf5 b c)=subL a b.toNat (Qbf5 b c)/\(Qbf0 a b c)=(Qbf0 a b c)/\(0:Int)=f/\True)/\ ∀(f g:Int),0<=f/\f<=c/\g=numB (List.take f.toNat (Qbf6 a b c))->ifP (decide (f<(Qbf0 a b c))) (0<=f/\f<(Qbf0 a b c)/\(0:Int)<=8/\ ∃(h:Int) (i:Int),(0<=h/\h<=c/\i=numB (List.take h.toNat (Qbf6 a b c)))/\Int.toNat (c
 -h)<Int.toNat (c -f)/\bits BinOp.or IntKind.i64 (shlI IntKind.i64 g (8:Int)) (IntKind.wrap .i64 (List.getD (subL a b.toNat (Qbf5 b c)) f.toNat default))=i/\subL a b.toNat (Qbf5 b c)=subL a b.toNat (Qbf5 b c)/\(Qbf0 a b c)=(Qbf0 a b c)/\IntKind.wrap .i64 (f+(1:Int))=h/\True) (g=getV a b c/\(0:Int)=getE a b c))):=by
  delta Qbf0 Qbf2 Qbf4 Qbf5 Qbf6
  rintro b a w ⟨⟨hl0,hx⟩,⟨a0,a1⟩,⟨w0,w1⟩,-⟩ hl
  (repeat (intro (b_:Bool) (hb_:b_=_);(repeat refine ⟨(by first|(simp;done)|(rw [hb_];simp;done)|(rw [hb_];simp;omega)|(rw [hb_];simp;intros;omega)|(rw [hb_];simp +contextual;done)),?_⟩);subst hb_))
  unfold getV getE
  refine ifP_split (fun hc => ?_) (fun hc => ?_)
  · have h:w<1∨7<w∨a<0:=by simp [Bool.cond_eq_ite] at hc;omega
    rw [if_pos (by omega),if_pos h];exact ⟨rfl,rfl⟩
  have h:¬ (w<1∨7<w∨a<0):=by simp [Bool.cond_eq_ite] at hc;omega
  rw [w64 (n:=(b.length:Int)-w) (by omega) (by omega),if_neg h]
  refine ifP_split (fun hd => ?_) (fun hd => ?_)
  · have hd:=of_decide_eq_true hd
    rw [if_pos (by omega),if_pos hd];exact ⟨rfl,rfl⟩
  have hd:=of_decide_eq_false hd
  rw [if_neg (by omega),if_neg hd,w64 (n:=a+w) (by omega) (by omega)]
  have hsub:subL b a.toNat (a+w).toNat=(b.drop a.toNat).take w.toNat:=by
    unfold subL;rw [List.drop_take,show (a+w).toNat-a.toNat=w.toNat from by omega]
  rw [hsub]
  have hlen:((b.drop a.toNat).take w.toNat).length=w.toNat:=by rw [List.length_take,List.length_drop];omega
  have hy:∀ y∈(b.drop a.toNat).take w.toNat,0<=y/\y<=255:=fun y hy=>hx y (List.mem_of_mem_drop (List.mem_of_mem_take hy))
  generalize (b.drop a.toNat).take w.toNat=m at *
  rw [hlen]
  refine ⟨by omega,by omega,by omega,⟨0,0,⟨by omega,by omega,by simp [numB]⟩,(by repeat' first|exact trivial|refine ⟨trivial,?_⟩|refine ⟨(by with_reducible rfl),?_⟩|refine ⟨w64 (by omega) (by omega),?_⟩|refine ⟨rfl,?_⟩)⟩,?_⟩
  rintro j n ⟨j0,j1,rfl⟩
  refine ifP_split (fun hj => ?_) (fun hj => ?_)
  · have hj:=of_decide_eq_true hj
    have ht:=take_snoc (l:=m) j0 (by omega)
    obtain ⟨x0,x1⟩:=hy _ (getD_mem (xs:=m) j0 (by omega))
    have hb:=numB_small (l:=m.take j.toNat) (by rw [List.length_take];omega) (fun y h=>hy y (List.mem_of_mem_take h))
    refine ⟨j0,hj,by omega,j+1,_,⟨by omega,by omega,rfl⟩,by omega,?_,rfl,rfl,w64 (by omega) (by omega),trivial⟩
    rw [ht,numB_snoc,or8 hb.1 (by omega) x0 x1]
  · have hj:=of_decide_eq_false hj
    rw [List.take_of_length_le (by omega)];exact ⟨rfl,rfl⟩
theorem ok_wire_Get:SpecOK Tryz.prog GL 135 ct_wire_Get.spec:=Ct.okH _ Tryz.func135 (by kernel_rfl) noSpecs_ok hmix an_wire_Get (hideMp (by kernel_rfl) vc_wire_Get)
def ct_wire_fold:Ct:=⟨[.val cI],[.val cI],fun d=>[0<=d.1],fun d=>((oc d.1,()),())⟩
def an_wire_fold:PDs ct_wire_fold.ps->Anns:=(fun d=>{loops:=(fun n=>match n with|1=>some (fun S=>{ι:=Int,μ:=fun i=>i.toNat,inv:=fun i=>0<=i/\i<=9223372036854775807/\oc i=oc d.1,keep:=[],slots:=fun i=>[(0,.int .i64 i)],names:=fun i=>[]})|_=>none)})
theorem vc_wire_fold :
 ∀(a:Int),R64 a/\True->0<=a->(∃(b:Int),(0<=b/\b<=9223372036854775807/\oc b=oc a)/\a=b/\True)/\ ∀(b:Int),0<=b/\b<=9223372036854775807/\oc b=oc a->ifP (decide (65535<b)) ((0:Int)<=16/\ ∃(c:Int),(0<=c/\c<=9223372036854775807/\oc c=oc a)/\c.toNat<b.toNat/\IntKind.wrap .i64 (shrI IntKind.i64 b (16:Int)+bits BinOp.and IntKind.i64 b (65535:Int))=c/\True) (b=oc a):=by
  rintro n ⟨⟨n0,n1⟩,-⟩ h
  refine ⟨⟨n,⟨h,n1,rfl⟩,rfl,trivial⟩,?_⟩
  rintro m ⟨m0,m1,m2⟩
  refine ifP_split (fun hm => ?_) (fun hm => ?_)
  · have hm:=of_decide_eq_true hm
    have e:=shr_pow (n:=m) (k:=2) m0 (by omega)
    have e2:(8:Int)*((2:Nat):Int)=16:=rfl
    rw [e2] at e
    rw [e,i64_and65535,w64 (by omega) (by omega)]
    have e3:(256:Int)^2=65536:=rfl
    rw [e3]
    exact ⟨by omega,_,⟨by omega,by omega,by rw [oc_step hm,m2]⟩,by omega,rfl,trivial⟩
  · have hm:=of_decide_eq_false hm
    rw [← m2,oc_small m0 (by omega)]
theorem ok_wire_fold:SpecOK Tryz.prog GL 204 ct_wire_fold.spec:=Ct.okH _ Tryz.func204 (by kernel_rfl) noSpecs_ok hmix an_wire_fold (hideMp (by kernel_rfl) vc_wire_fold)
theorem bit1 {j:Int} (h0:0<=j) (h1:j<=9223372036854775807):bits .and .i64 j 1=j%2:=by
  obtain ⟨m,rfl⟩:=Int.eq_ofNat_of_zero_le h0
  have key:(BitVec.ofInt 64 (m:Int) &&& BitVec.ofInt 64 1).toNat=m%2:=by
    rw [BitVec.toNat_and,BitVec.toNat_ofInt,show (BitVec.ofInt 64 1).toNat=1 from by decide]
    have e1:((m:Int)%((2^64:Nat):Int)).toNat=m:=by omega
    rw [e1,nat_mask1]
  show IntKind.i64.wrap ((BitVec.ofInt 64 (m:Int) &&& BitVec.ofInt 64 1).toNat:Nat)=_
  rw [key,w64 (by omega) (by omega)];omega
theorem shl0 {n:Int} (h0:0<=n) (h1:n<=36028797018963967):shlI .i64 n (IntKind.wrap .i64 (8*IntKind.wrap .i64 (1-1)))=n:=by
  show IntKind.i64.wrap (n*2^(min 0 64))=_
  rw [w64 (by simp;omega) (by simp;omega)];simp
def ct_wire_Sum:Ct:=⟨[.val (.sl cU8)],[.val cI],fun d=>[(d.1.length:Int)<=1099511627776],fun d=>((oc (sumF true d.1),()),())⟩
def an_wire_Sum:PDs ct_wire_Sum.ps->Anns:=(fun d=>{loops:=(fun n=>match n with|3=>some (fun S=>{ι:=Int×Int,qn:=⟨fun k_=>∀ (j:Int) (n:Int),k_ (j,n),fun k_ h_ i=>h_ i.1 i.2,fun k_=>∃ (j:Int) (n:Int),k_ (j,n),fun k_ ⟨j,n,h_⟩=>⟨_,h_⟩⟩,μ:=fun i=>(d.1.length-i.1).toNat,inv:=fun i=>0<=i.1/\i.1<=d.1.length/\i.2=sumF true (d.1.take i.1.toNat)/\0<=i.2/\i.2<=65280*i.1,keep:=[0,6,7],slots:=fun i=>[(3,.int .i64 i.2),(8,.int .i64 i.1)],names:=fun i=>[]})|_=>none)})
theorem vc_wire_Sum :
 ∀(a:List Int),(Qbf8 a)/\True->(Qbf2 a)<=1099511627776->(∃(b:Int) (c:Int),(0<=b/\b<=(Qbf2 a)/\c=sumF true (List.take b.toNat a)/\0<=c/\c<=65280*b)/\a=a/\(0:Int)=c/\a=a/\(Qbf2 a)=(Qbf2 a)/\(0:Int)=b/\True)/\ ∀(b c:Int),0<=b/\b<=(Qbf2 a)/\c=sumF true (List.take b.toNat a)/\0<=c/\c<=65280*b->ifP (decide (b<(Qbf2 a))) (0<=b/\b<(Qbf2 a)/\0<=IntKind.wrap .i64 ((8:Int)*IntKind.wrap .i64 ((1:Int) -bits BinOp.and IntKind.i64 b (1:Int)))/\ ∃(d:Int) (e:Int),(0<=d/\d<=(Qbf2 a)/\e=sumF true (List.take d.toNat a)/\0<=e/\e<=65280*d)/\Int.toNat ((Qbf2 a) -d)<Int.toNat ((Qbf2 a) -b)/\a=a/\IntKind.wrap .i64 (c+shlI IntKind.i64 (IntKind.wrap .i64 (a.getD b.toNat default)) (IntKind.wrap .i64 ((8:Int)*IntKind.wrap .i64 ((1:Int) -bits BinOp.and IntKind.i64 b (1:Int)))))=e/\a=a/\(Qbf2 a)=(Qbf2 a)/\IntKind.wrap .i64 (b+(1:Int))=d/\True) (0<=c/\oc c=oc (sumF true a)):=by
  delta Qbf2 Qbf8
  rintro l ⟨⟨-,hx⟩,-⟩ hl
  refine ⟨⟨0,0,⟨by omega,by omega,by simp [sumF],by omega,by omega⟩,(by repeat' first|exact trivial|refine ⟨trivial,?_⟩|refine ⟨(by with_reducible rfl),?_⟩|refine ⟨w64 (by omega) (by omega),?_⟩|refine ⟨rfl,?_⟩)⟩,?_⟩
  rintro j n ⟨j0,j1,rfl,n0,n1⟩
  refine ifP_split (fun hj => ?_) (fun hj => ?_)
  · have hj:=of_decide_eq_true hj
    obtain ⟨x0,x1⟩:=hx _ (getD_mem j0 hj)
    have ht:=take_snoc j0 hj
    have hs:=sumF_append true (l.take j.toNat) [l.getD j.toNat default]
    rw [← ht] at hs
    generalize l.getD j.toNat default=x at *
    have hb:=bit1 j0 (by omega)
    rw [hb]
    have hlen:(l.take j.toNat).length=j.toNat:=by rw [List.length_take];omega
    rw [hlen] at hs
    have hv:0<=IntKind.wrap .i64 (8*IntKind.wrap .i64 (1-j%2))/\shlI .i64 (IntKind.wrap .i64 x) (IntKind.wrap .i64 (8*IntKind.wrap .i64 (1-j%2)))=(if j%2=0 then x*256 else x):=by
      rw [w64 (n:=x) (by omega) (by omega)]
      by_cases he:j%2=0
      · rw [he,if_pos rfl];exact ⟨by decide,shl8 x0 (by omega)⟩
      · rw [show j%2=1 from by omega,if_neg (by decide)]
        exact ⟨by decide,shl0 x0 (by omega)⟩
    rw [hv.2]
    refine ⟨j0,hj,hv.1,j+1,sumF true (l.take (j+1).toNat),⟨by omega,by omega,rfl,?_,?_⟩,by omega,rfl,?_,rfl,rfl,w64 (by omega) (by omega),trivial⟩
    all_goals rw [hs]
    all_goals by_cases he:j%2=0
    all_goals first
      | rw [if_pos (show j.toNat%2=0 by omega)]
      | rw [if_neg (show ¬ j.toNat%2=0 by omega)]
    all_goals simp only [sumF,he,if_true,if_false,Bool.not_true,Bool.false_eq_true]
    all_goals try omega
    all_goals rw [w64 (by omega) (by omega)]
    all_goals omega
  · have hj:=of_decide_eq_false hj
    rw [List.take_of_length_le (by omega)] at n0 ⊢
    exact ⟨n0,rfl⟩
theorem ok_wire_Sum:SpecOK Tryz.prog GL 173 ct_wire_Sum.spec:=Ct.okH _ Tryz.func173 (by kernel_rfl) (withSpec_ok noSpecs_ok ok_wire_fold) hmix an_wire_Sum (hideMp (by kernel_rfl) vc_wire_Sum)
def ct_wire_Checksum:Ct:=⟨[.val (.sl cU8)],[.val cI],fun d=>[(d.1.length:Int)<=1099511627776],fun d=>((65535-oc (sumF true d.1),()),())⟩
def an_wire_Checksum:PDs ct_wire_Checksum.ps->Anns:=(fun _=>{})
def Qbf1 (a:List Int) :=
 (Qbf8 a)/\True->(Qbf2 a)<=1099511627776->(Qbf2 a)<=1099511627776/\IntKind.wrap .i64 ((65535:Int) -oc (sumF true a))=65535 -oc (sumF true a)
theorem vc_wire_Checksum :
 ∀(a:List Int),(Qbf1 a):=by
  delta Qbf1 Qbf2 Qbf8
  rintro l ⟨⟨-,hx⟩,-⟩ hl
  have:=oc_range (sumF_range true l hx).1
  exact ⟨hl,w64 (by omega) (by omega)⟩
theorem ok_wire_Checksum:SpecOK Tryz.prog GL 133 ct_wire_Checksum.spec:=Ct.okH _ Tryz.func133 (by kernel_rfl) (withSpec_ok noSpecs_ok ok_wire_Sum) hmix an_wire_Checksum (hideMp (by kernel_rfl) vc_wire_Checksum)
def ct_ref04_Put:Ct:=⟨[.val (.sl cU8),.val cI,.val cI],[.own 5 cU8,.val cI],fun d=>[(d.1.length:Int)<=1099511627776],fun d=>((putB d.1 d.2.1 d.2.2.1,putE d.2.1 d.2.2.1,()),())⟩
def an_ref04_Put:PDs ct_ref04_Put.ps->Anns:=(fun d=>{loops:=(fun n=>match n with|5=>some (fun S=>{ι:=Int×(List Int),qn:=⟨fun k_=>∀ (k:Int) (ys:(List Int)),k_ (k,ys),fun k_ h_ i=>h_ i.1 i.2,fun k_=>∃ (k:Int) (ys:(List Int)),k_ (k,ys),fun k_ ⟨k,ys,h_⟩=>⟨_,h_⟩⟩,μ:=fun i=>(d.2.2.1-i.1).toNat,inv:=fun i=>0<=i.1/\i.1<=d.2.2.1/\i.2=d.1++beT d.2.1 d.2.2.1.toNat i.1.toNat,keep:=[1,2],slots:=fun i=>[(8,.own 524288 1),(9,.int .i64 (d.2.2.1-1-i.1))],names:=fun i=>[(524288,.live (.row 5 cU8 i.2))]})|_=>none)})
theorem vc_ref04_Put :
 ∀(a:List Int) (b c:Int),(Qbf4 a)/\R64 b/\R64 c/\True->(Qbf2 a)<=1099511627776-> ∀(d:Bool),d=decide (c<1)->((! d)->((! d)->(! d))/\True)/\(d=false->(! d))/\ ∀(e:Bool),(e=bif d then true else decide (7<c))->((! e)->((! e)->(! e))/\True)/\(e=false->(! e))/\ ∀(f:Bool),(f=bif e then true else decide (b<0))->((! f)->((! f)->(! f))/\True)/\((! f)->((! f)->(! f))/\0<=IntKind.wrap .i64 ((8:Int)*c)/\True)/\(Qbf7 f)/\(f=false->(! f))/\ifP (bif f then true else decide (shlI IntKind.i64 (1:Int) (IntKind.wrap .i64 ((8:Int)*c))<=b)) (([]:List Int)=putB a b c/\(1:Int)=putE b c) (a.length*(1:Nat)<=(140737488355328:Nat)/\(∃(g:Int) (h:List Int),(0<=g/\g<=c/\h=a++beT b c.toNat g.toNat)/\b=b/\c=c/\IntKind.wrap .i64 (c -(1:Int))=c -(1:Int) -g/\a=h/\True)/\ ∀(g:Int) (h:List Int),0<=g/\g<=c/\h=a++beT b c.toNat g.toNat->ifP (decide (0<=c -(1:Int) -g)) (0<=IntKind.wrap .i64 ((8:Int)*(c -(1:Int)
 -g))/\(h.length+List.length [IntKind.wrap .u8 (shrI IntKind.i64 b (IntKind.wrap .i64 ((8:Int)*(c -(1:Int) -g))))])*(1:Nat)<=(140737488355328:Nat)/\ ∃(i:Int) (j:List Int),(0<=i/\i<=c/\j=a++beT b c.toNat i.toNat)/\Int.toNat (c -i)<Int.toNat (c -g)/\b=b/\c=c/\IntKind.wrap .i64 (c -(1:Int) -g -(1:Int))=c -(1:Int) -i/\h++[IntKind.wrap .u8 (shrI IntKind.i64 b (IntKind.wrap .i64 ((8:Int)*(c -(1:Int) -g))))]=j/\True) (h=putB a b c/\(0:Int)=putE b c)):=by
  delta Qbf2 Qbf4 Qbf7
  rintro b n w ⟨-,⟨n0,n1⟩,⟨w0,w1⟩,-⟩ hl
  rintro b1 rfl
  refine ⟨by simp,by simp,?_⟩
  rintro b1 rfl
  refine ⟨by simp,by simp,?_⟩
  rintro b1 rfl
  have hpre:(!(bif (bif decide (w<1) then true else decide (7<w)) then true else decide (n<0)))=true->1<=w/\w<=7/\0<=n:=by
    simp [Bool.cond_eq_ite];omega
  refine ⟨by simp,fun h=>⟨fun _=>h,by have:=hpre h;rw [w64 (by omega) (by omega)];omega,trivial⟩,fun h=>⟨fun _=>h,fun _=>h,trivial⟩,by simp,?_⟩
  refine ifP_split (fun hc => ?_) (fun hc => ?_)
  · have hbad:putBad n w:=by
      unfold putBad
      by_cases h:1<=w/\w<=7
      · rw [shl_pow h.1 h.2] at hc
        simp [Bool.cond_eq_ite] at hc;omega
      · omega
    rw [putB,putE,if_pos hbad,if_pos hbad];exact ⟨rfl,rfl⟩
  · have hw:1<=w/\w<=7/\0<=n:=hpre (by
      cases h:(bif (bif decide (w<1) then true else decide (7<w)) then true else decide (n<0)) with
      | false=>rfl
      | true=>rw [h] at hc;simp at hc)
    obtain ⟨h1,h7,hn⟩:=hw
    rw [shl_pow h1 h7] at hc
    have hgood:¬ putBad n w:=by
      unfold putBad
      simp [Bool.cond_eq_ite] at hc;omega
    rw [putB,putE,if_neg hgood,if_neg hgood]
    refine ⟨by omega,⟨0,b,⟨by omega,by omega,by simp [beT]⟩,rfl,rfl,by rw [w64 (by omega) (by omega)];omega,rfl,trivial⟩,?_⟩
    rintro k ys ⟨k0,k1,rfl⟩
    refine ifP_split (fun hk => ?_) (fun hk => ?_)
    · have hk:=of_decide_eq_true hk
      rw [w64 (n:=8*(w-1-k)) (by omega) (by omega)]
      obtain ⟨j,hj⟩:=Int.eq_ofNat_of_zero_le (show 0<=w-1-k by omega)
      rw [hj,shr_pow hn (by omega),IntKind.wrap_u8']
      have hbl:=beT_len n w.toNat k.toNat
      refine ⟨by omega,by simp only [List.length_append,List.length_singleton,hbl];omega,k+1,_,⟨by omega,by omega,rfl⟩,by omega,rfl,rfl,by rw [w64 (by omega) (by omega)];omega,?_,trivial⟩
      rw [show (k+1).toNat=k.toNat+1 from by omega,beT_succ,List.append_assoc,show w.toNat-1-k.toNat=j from by omega]
    · have hk:=of_decide_eq_false hk
      rw [show k=w from by omega];exact ⟨rfl,rfl⟩
theorem ok_ref04_Put:SpecOK Tryz.prog GL 169 ct_ref04_Put.spec:=Ct.okH _ Tryz.func169 (by kernel_rfl) noSpecs_ok hmix an_ref04_Put (hideMp (by kernel_rfl) vc_ref04_Put)
def ct_ref04_Push:Ct:=⟨[.val (.sl cU8),.val cI,.val cI],[.own 5 cU8],fun d=>[(d.1.length:Int)<=1099511627776],fun d=>((putB d.1 d.2.1 d.2.2.1,()),())⟩
def an_ref04_Push:PDs ct_ref04_Push.ps->Anns:=(fun _=>{})
theorem vc_ref04_Push :
 ∀(a:List Int) (b c:Int),(Qbf4 a)/\R64 b/\R64 c/\True->(Qbf2 a)<=1099511627776->(Qbf2 a)<=1099511627776/\putB a b c=putB a b c:=by
  delta Qbf2 Qbf4
  intro b n w _ h
  exact ⟨h,rfl⟩
theorem ok_ref04_Push:SpecOK Tryz.prog GL 124 ct_ref04_Push.spec:=Ct.okH _ Tryz.func124 (by kernel_rfl) (withSpec_ok noSpecs_ok ok_ref04_Put) hmix an_ref04_Push (hideMp (by kernel_rfl) vc_ref04_Push)
def ct_ref04_Get:Ct:=⟨[.val (.sl cU8),.val cI,.val cI],[.val cI,.val cI],fun d=>[(d.1.length:Int)<=1099511627776],fun d=>((getV d.1 d.2.1 d.2.2.1,getE d.1 d.2.1 d.2.2.1,()),())⟩
def an_ref04_Get:PDs ct_ref04_Get.ps->Anns:=(fun d=>{loops:=(fun n=>match n with|7=>some (fun S=>{ι:=Int×Int,qn:=⟨fun k_=>∀ (j:Int) (n:Int),k_ (j,n),fun k_ h_ i=>h_ i.1 i.2,fun k_=>∃ (j:Int) (n:Int),k_ (j,n),fun k_ ⟨j,n,h_⟩=>⟨_,h_⟩⟩,μ:=fun i=>(d.2.2.1-i.1).toNat,inv:=fun i=>0<=i.1/\i.1<=d.2.2.1/\i.2=numB (((d.1.drop d.2.1.toNat).take d.2.2.1.toNat).take i.1.toNat),keep:=[0,1,2],slots:=fun i=>[(8,.int .i64 i.2),(9,.int .i64 i.1)],names:=fun i=>[]})|_=>none)})
theorem vc_ref04_Get :
 ∀(a:List Int) (b c:Int),(Qbf4 a)/\R64 b/\R64 c/\True->(Qbf2 a)<=1099511627776-> ∀(d:Bool),d=decide (c<1)->((! d)->((! d)->(! d))/\True)/\(d=false->(! d))/\ ∀(e:Bool),(e=bif d then true else decide (7<c))->((! e)->((! e)->(! e))/\True)/\(e=false->(! e))/\ifP (bif e then true else decide (b<0)) ((0:Int)=getV a b c/\(1:Int)=getE a b c) (∀(f:Bool),f=decide ((Qbf2 a)<b)->((! f)->((! f)->(! f))/\True)/\(Qbf7 f)/\(Qbf7 f)/\(f=false->(! f))/\ifP (bif f then true else decide (IntKind.wrap .i64 ((Qbf2 a) -b)<c)) ((0:Int)=getV a b c/\(3:Int)=getE a b c) ((∃(g:Int) (h:Int),(0<=g/\g<=c/\h=numB (List.take g.toNat (Qbf6 a b c)))/\a=a/\b=b/\c=c/\(0:Int)=h/\(0:Int)=g/\True)/\ ∀(g h:Int),0<=g/\g<=c/\h=numB (List.take g.toNat (Qbf6 a b c))->ifP (decide (g<c)) ((0:Int)<=8/\0<=IntKind.wrap .i64 (b+g)/\IntKind.wrap .i64 (b+g)<(Qbf2 a)/\ ∃(i:Int) (j:Int),(0<=i/\i<=c/\j=numB (List.take i.toNat (Qbf6 a b
 c)))/\Int.toNat (c -i)<Int.toNat (c -g)/\a=a/\b=b/\c=c/\bits BinOp.or IntKind.i64 (shlI IntKind.i64 h (8:Int)) (IntKind.wrap .i64 (a.getD (Int.toNat (IntKind.wrap .i64 (b+g))) default))=j/\IntKind.wrap .i64 (g+(1:Int))=i/\True) (h=getV a b c/\(0:Int)=getE a b c))):=by
  delta Qbf2 Qbf4 Qbf6 Qbf7
  rintro b a w ⟨⟨hl0,hx⟩,⟨a0,a1⟩,⟨w0,w1⟩,-⟩ hl
  rintro b1 rfl
  refine ⟨by simp,by simp,?_⟩
  rintro b1 rfl
  refine ⟨by simp,by simp,?_⟩
  unfold getV getE
  refine ifP_split (fun hc => ?_) (fun hc => ?_)
  · have h:w<1∨7<w∨a<0:=by simp [Bool.cond_eq_ite] at hc;omega
    rw [if_pos (by omega),if_pos h];exact ⟨rfl,rfl⟩
  have h:¬ (w<1∨7<w∨a<0):=by simp [Bool.cond_eq_ite] at hc;omega
  rintro b1 rfl
  refine ⟨by simp,by simp,by simp,by simp,?_⟩
  rw [w64 (n:=(b.length:Int)-a) (by omega) (by omega),if_neg h]
  refine ifP_split (fun hd => ?_) (fun hd => ?_)
  · have hd:b.length<a∨b.length-a<w:=by simp [Bool.cond_eq_ite] at hd;omega
    rw [if_pos (by omega),if_pos (by omega)];exact ⟨rfl,rfl⟩
  have hd:¬ (b.length<a∨b.length-a<w):=by simp [Bool.cond_eq_ite] at hd;omega
  rw [if_neg (by omega),if_neg (by omega)]
  have hlen:((b.drop a.toNat).take w.toNat).length=w.toNat:=by rw [List.length_take,List.length_drop];omega
  have hy:∀ y∈(b.drop a.toNat).take w.toNat,0<=y/\y<=255:=fun y hy=>hx y (List.mem_of_mem_drop (List.mem_of_mem_take hy))
  have hget:∀ j:Int,0<=j->j<w->b.getD (a+j).toNat default=((b.drop a.toNat).take w.toNat).getD j.toNat default:=by
    intro j j0 j1
    rw [List.getD_eq_getElem?_getD,List.getD_eq_getElem?_getD,List.getElem?_take,if_pos (by omega),List.getElem?_drop]
    congr 2;omega
  generalize (b.drop a.toNat).take w.toNat=m at *
  refine ⟨⟨0,0,⟨by omega,by omega,by simp [numB]⟩,(by repeat' first|exact trivial|refine ⟨trivial,?_⟩|refine ⟨(by with_reducible rfl),?_⟩|refine ⟨w64 (by omega) (by omega),?_⟩|refine ⟨rfl,?_⟩)⟩,?_⟩
  rintro j n ⟨j0,j1,rfl⟩
  refine ifP_split (fun hj => ?_) (fun hj => ?_)
  · have hj:=of_decide_eq_true hj
    have ht:=take_snoc (l:=m) j0 (by omega)
    obtain ⟨x0,x1⟩:=hy _ (getD_mem (xs:=m) j0 (by omega))
    have hb:=numB_small (l:=m.take j.toNat) (by rw [List.length_take];omega) (fun y h=>hy y (List.mem_of_mem_take h))
    rw [w64 (n:=a+j) (by omega) (by omega),hget j j0 hj]
    refine ⟨by omega,by omega,by omega,j+1,_,⟨by omega,by omega,rfl⟩,by omega,rfl,rfl,rfl,?_,w64 (by omega) (by omega),trivial⟩
    rw [ht,numB_snoc,or8 hb.1 (by omega) x0 x1]
  · have hj:=of_decide_eq_false hj
    rw [List.take_of_length_le (by omega)];exact ⟨rfl,rfl⟩
theorem ok_ref04_Get:SpecOK Tryz.prog GL 121 ct_ref04_Get.spec:=Ct.okH _ Tryz.func121 (by kernel_rfl) noSpecs_ok hmix an_ref04_Get (hideMp (by kernel_rfl) vc_ref04_Get)
def ct_ref04_At:Ct:=⟨[.val (.sl cU8),.val cI,.val cI],[.val cI],fun d=>[(d.1.length:Int)<=1099511627776],fun d=>((getV d.1 d.2.1 d.2.2.1,()),())⟩
def an_ref04_At:PDs ct_ref04_At.ps->Anns:=(fun _=>{})
theorem vc_ref04_At :
 ∀(a:List Int) (b c:Int),(Qbf4 a)/\R64 b/\R64 c/\True->(Qbf2 a)<=1099511627776->(Qbf2 a)<=1099511627776/\getV a b c=getV a b c:=by
  delta Qbf2 Qbf4
  intro b n w _ h
  exact ⟨h,rfl⟩
theorem ok_ref04_At:SpecOK Tryz.prog GL 75 ct_ref04_At.spec:=Ct.okH _ Tryz.func75 (by kernel_rfl) (withSpec_ok noSpecs_ok ok_ref04_Get) hmix an_ref04_At (hideMp (by kernel_rfl) vc_ref04_At)
def ct_ref04_word:Ct:=⟨[.val cI],[.val .bool],fun d=>[],fun d=>((word16 d.1,()),())⟩
def an_ref04_word:PDs ct_ref04_word.ps->Anns:=(fun _=>{})
theorem vc_ref04_word :
 ∀(a:Int),R64 a/\True->True-> ∀(b:Bool),b=decide (0<=a)->(b->(b->b)/\True)/\(b->b)/\(bif b then decide (a<=65535) else false)=word16 a:=by
  rintro n - -
  (repeat (intro (b_:Bool) (hb_:b_=_);(repeat refine ⟨(by first|(simp;done)|(rw [hb_];simp;done)|(rw [hb_];simp;omega)|(rw [hb_];simp;intros;omega)|(rw [hb_];simp +contextual;done)),?_⟩);subst hb_))
  unfold word16
  by_cases h:0<=n <;> simp [h]
theorem ok_ref04_word:SpecOK Tryz.prog GL 203 ct_ref04_word.spec:=Ct.okH _ Tryz.func203 (by kernel_rfl) noSpecs_ok hmix an_ref04_word (hideMp (by kernel_rfl) vc_ref04_word)
def ct_ref04_Add:Ct:=⟨[.val cI,.val cI],[.val cI],fun d=>[],fun d=>((if word16 d.1&&word16 d.2.1 then oc (d.1+d.2.1) else 0,()),())⟩
def an_ref04_Add:PDs ct_ref04_Add.ps->Anns:=(fun _=>{})
theorem vc_ref04_Add :
 ∀(a b:Int),R64 a/\R64 b/\True->True-> ∀(c:Bool),c= ! word16 a->((! c)->((! c)->(! c))/\True)/\((! c)->((! c)->(! c))/\True)/\(c=false->(! c))/\ifP (bif c then true else ! word16 b) ((0:Int)=if (word16 a&&word16 b)=true then oc (a+b) else (0:Int)) ((0:Int)<=16/\IntKind.wrap .i64 (bits BinOp.and IntKind.i64 (IntKind.wrap .i64 (a+b)) (65535:Int)+shrI IntKind.i64 (IntKind.wrap .i64 (a+b)) (16:Int))=if (word16 a&&word16 b)=true then oc (a+b) else (0:Int)):=by
  rintro a b - -
  (repeat (intro (b_:Bool) (hb_:b_=_);(repeat refine ⟨(by first|(simp;done)|(rw [hb_];simp;done)|(rw [hb_];simp;omega)|(rw [hb_];simp;intros;omega)|(rw [hb_];simp +contextual;done)),?_⟩);subst hb_))
  refine ifP_split (fun hc => ?_) (fun hc => ?_)
  · rw [if_neg]
    intro h;simp at h;simp [h] at hc
  · have hw:word16 a=true/\word16 b=true:=by simpa [Bool.cond_eq_ite] using hc
    rw [if_pos (by simp [hw])]
    have ha:0<=a/\a<=65535:=of_decide_eq_true hw.1
    have hb:0<=b/\b<=65535:=of_decide_eq_true hw.2
    rw [w64 (n:=a+b) (by omega) (by omega)]
    have e:=shr_pow (n:=a+b) (k:=2) (by omega) (by omega)
    have e2:(8:Int)*((2:Nat):Int)=16:=rfl
    have e3:(256:Int)^2=65536:=rfl
    rw [e2,e3] at e
    rw [e,i64_and65535,w64 (by omega) (by omega)]
    refine ⟨by omega,?_⟩
    unfold oc;split <;> omega
theorem ok_ref04_Add:SpecOK Tryz.prog GL 170 ct_ref04_Add.spec:=Ct.okH _ Tryz.func170 (by kernel_rfl) (withSpec_ok noSpecs_ok ok_ref04_word) hmix an_ref04_Add (hideMp (by kernel_rfl) vc_ref04_Add)
def ct_ref04_Sum:Ct:=⟨[.val (.sl cU8)],[.val cI],fun d=>[(d.1.length:Int)<=1099511627776],fun d=>((oc (sumF true d.1),()),())⟩
def an_ref04_Sum:PDs ct_ref04_Sum.ps->Anns:=(fun d=>{loops:=(fun n=>match n with|3=>some (fun S=>{ι:=Int×Int,qn:=⟨fun k_=>∀ (k:Int) (s:Int),k_ (k,s),fun k_ h_ i=>h_ i.1 i.2,fun k_=>∃ (k:Int) (s:Int),k_ (k,s),fun k_ ⟨k,s,h_⟩=>⟨_,h_⟩⟩,μ:=fun i=>(d.1.length+1-2*i.1).toNat,inv:=fun i=>0<=i.1/\2*i.1<=d.1.length+1/\i.2=oc (sumF true (d.1.take (2*i.1).toNat))/\0<=i.2/\i.2<=65535,keep:=[0],slots:=fun i=>[(3,.int .i64 i.2),(4,.int .i64 (2*i.1))],names:=fun i=>[]})|_=>none)})
def Qbf3 (a:List Int) (b:Int) :=
 shlI IntKind.i64 (IntKind.wrap .i64 (a.getD (Int.toNat ((2:Int)*b)) default)) (8:Int)+IntKind.wrap .i64 (a.getD (Int.toNat (IntKind.wrap .i64 ((2:Int)*b+(1:Int)))) default)
def Qbf9 (a:List Int) (d e:Int) :=
 0<=d/\(2:Int)*d<=(Qbf2 a)+(1:Int)/\e=oc (sumF true (List.take (Int.toNat ((2:Int)*d)) a))/\0<=e/\e<=65535
theorem vc_ref04_Sum :
 ∀(a:List Int),(Qbf8 a)/\True->(Qbf2 a)<=1099511627776->(∃(b:Int) (c:Int),(0<=b/\(2:Int)*b<=(Qbf2 a)+(1:Int)/\c=oc (sumF true (List.take (Int.toNat ((2:Int)*b)) a))/\0<=c/\c<=65535)/\a=a/\(0:Int)=c/\(0:Int)=2*b/\True)/\ ∀(b c:Int),0<=b/\(2:Int)*b<=(Qbf2 a)+(1:Int)/\c=oc (sumF true (List.take (Int.toNat ((2:Int)*b)) a))/\0<=c/\c<=65535->ifP (decide ((2:Int)*b<(Qbf2 a))) ((0:Int)<=2*b/\(2:Int)*b<(Qbf2 a)/\(0:Int)<=8/\ifP (decide (IntKind.wrap .i64 ((2:Int)*b+(1:Int))<(Qbf2 a))) (0<=IntKind.wrap .i64 ((2:Int)*b+(1:Int))/\IntKind.wrap .i64 ((2:Int)*b+(1:Int))<(Qbf2 a)/\ ∃(d:Int) (e:Int),(Qbf9 a d e)/\Int.toNat ((Qbf2 a)+(1:Int) -(2:Int)*d)<Int.toNat ((Qbf2 a)+(1:Int) -(2:Int)*b)/\a=a/\(if (word16 c&&word16 (IntKind.wrap .i64 (Qbf3 a b)))=true then oc (c+IntKind.wrap .i64 (Qbf3 a b)) else (0:Int))=e/\IntKind.wrap .i64 ((2:Int)*b+(2:Int))=2*d/\True) (∃(d:Int) (e:Int),(Qbf9 a d e)/\Int.toNat
 ((Qbf2 a)+(1:Int) -(2:Int)*d)<Int.toNat ((Qbf2 a)+(1:Int) -(2:Int)*b)/\a=a/\(if (word16 c&&word16 (shlI IntKind.i64 (IntKind.wrap .i64 (a.getD (Int.toNat ((2:Int)*b)) default)) (8:Int)))=true then oc (c+shlI IntKind.i64 (IntKind.wrap .i64 (a.getD (Int.toNat ((2:Int)*b)) default)) (8:Int)) else (0:Int))=e/\IntKind.wrap .i64 ((2:Int)*b+(2:Int))=2*d/\True)) (c=oc (sumF true a)):=by
  delta Qbf2 Qbf3 Qbf8 Qbf9
  rintro l ⟨⟨-,hx⟩,-⟩ hl
  refine ⟨⟨0,0,⟨by omega,by omega,by simp [sumF,oc],by omega,by omega⟩,(by repeat' first|exact trivial|refine ⟨trivial,?_⟩|refine ⟨(by with_reducible rfl),?_⟩|refine ⟨w64 (by omega) (by omega),?_⟩|refine ⟨rfl,?_⟩)⟩,?_⟩
  rintro k s ⟨k0,k1,rfl,s0,s1⟩
  have hr:=sumF_range true (l.take (2*k).toNat) (fun y h=>hx y (List.mem_of_mem_take h))
  refine ifP_split (fun hk => ?_) (fun hk => ?_)
  · have hk:=of_decide_eq_true hk
    obtain ⟨x0,x1⟩:=hx _ (getD_mem (xs:=l) (i:=2*k) (by omega) hk)
    have ht:=take_snoc (l:=l) (j:=2*k) (by omega) hk
    have hlen:(l.take (2*k).toNat).length%2=0:=by rw [List.length_take];omega
    have hs:=sumF_append true (l.take (2*k).toNat)
    rw [if_pos hlen] at hs
    rw [w64 (n:=2*k+1) (by omega) (by omega),w64 (n:=l.getD (2*k).toNat default) (by omega) (by omega),shl8 x0 (by omega),w64 (n:=2*k+2) (by omega) (by omega)]
    refine ⟨by omega,hk,by omega,ifP_split (fun hc => ?_) (fun hc => ?_)⟩
    · have hc:=of_decide_eq_true hc
      obtain ⟨y0,y1⟩:=hx _ (getD_mem (xs:=l) (i:=2*k+1) (by omega) hc)
      have ht2:=take_snoc (l:=l) (j:=2*k+1) (by omega) hc
      rw [ht,List.append_assoc] at ht2
      rw [w64 (n:=l.getD (2*k+1).toNat default) (by omega) (by omega),w64 (n:=l.getD (2*k).toNat default*256+l.getD (2*k+1).toNat default) (by omega) (by omega)]
      rw [if_pos (by simp only [word16,Bool.and_eq_true,decide_eq_true_eq];omega),oc_add hr.1 (by omega)]
      have he:sumF true (l.take (2*(k+1)).toNat)=sumF true (l.take (2*k).toNat)+(l.getD (2*k).toNat default*256+l.getD (2*k+1).toNat default):=by
        rw [show 2*(k+1)=2*k+1+1 from by omega,ht2,hs]
        simp [sumF]
      refine ⟨by omega,hc,k+1,_,⟨by omega,by omega,rfl,?_,?_⟩,by omega,rfl,by rw [he],by omega,trivial⟩
      · rw [he];exact (oc_range (by omega)).1
      · rw [he];exact (oc_range (by omega)).2
    · have hc:=of_decide_eq_false hc
      rw [if_pos (by simp only [word16,Bool.and_eq_true,decide_eq_true_eq];omega),oc_add hr.1 (by omega)]
      have he:sumF true (l.take (2*(k+1)).toNat)=sumF true (l.take (2*k).toNat)+l.getD (2*k).toNat default*256:=by
        rw [show l.take (2*(k+1)).toNat=l.take (2*k+1).toNat from by rw [List.take_of_length_le (by omega),List.take_of_length_le (by omega)],ht,hs]
        simp [sumF]
      refine ⟨k+1,_,⟨by omega,by omega,rfl,?_,?_⟩,by omega,rfl,by rw [he],by omega,trivial⟩
      · rw [he];exact (oc_range (by omega)).1
      · rw [he];exact (oc_range (by omega)).2
  · have hk:=of_decide_eq_false hk
    rw [List.take_of_length_le (by omega)]
theorem ok_ref04_Sum:SpecOK Tryz.prog GL 200 ct_ref04_Sum.spec:=Ct.okH _ Tryz.func200 (by kernel_rfl) (withSpec_ok noSpecs_ok ok_ref04_Add) hmix an_ref04_Sum (hideMp (by kernel_rfl) vc_ref04_Sum)
def ct_ref04_Checksum:Ct:=⟨[.val (.sl cU8)],[.val cI],fun d=>[(d.1.length:Int)<=1099511627776],fun d=>((65535-oc (sumF true d.1),()),())⟩
def an_ref04_Checksum:PDs ct_ref04_Checksum.ps->Anns:=(fun _=>{})
theorem vc_ref04_Checksum :
 ∀(a:List Int),(Qbf1 a):=by
  delta Qbf1 Qbf2 Qbf8
  rintro l ⟨⟨-,hx⟩,-⟩ hl
  have:=oc_range (sumF_range true l hx).1
  exact ⟨hl,w64 (by omega) (by omega)⟩
theorem ok_ref04_Checksum:SpecOK Tryz.prog GL 162 ct_ref04_Checksum.spec:=Ct.okH _ Tryz.func162 (by kernel_rfl) (withSpec_ok noSpecs_ok ok_ref04_Sum) hmix an_ref04_Checksum (hideMp (by kernel_rfl) vc_ref04_Checksum)
end Go.RS
