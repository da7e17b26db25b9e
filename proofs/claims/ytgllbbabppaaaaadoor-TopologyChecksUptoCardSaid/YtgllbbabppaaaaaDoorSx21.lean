/- SX, part 19: a function's parameters. -/
import Derived.Test.YtgllbbabppaaaaaDoorSx18
import Derived.Laws.Sem
import Derived.Laws.NewBlocks
namespace Go.SX
set_option linter.unusedVariables false
inductive OT where
  | dat (t:CT)
  | row (E:TypeId) (t:CT)
  | rowg (E:TypeId) (t:CT)
  | fnc (f:FuncId)
  | ali
  | ref (E:TypeId) (o:OT)
  | pair (a b:OT)
@[reducible] def OT.D:OT->Type
  | .dat t=>t.D
  | .row _ t=>List t.D
  | .rowg _ t=>List t.D
  | .fnc _=>Unit
  | .ali=>Unit
  | .ref _ o=>o.D
  | .pair a b=>a.D×b.D
@[reducible] def OT.X:OT->Type
  | .dat t=>t.D
  | .row _ t=>List t.D
  | .rowg _ _=>Unit
  | .fnc _=>Unit
  | .ali=>Unit
  | .ref _ o=>o.X
  | .pair a b=>a.X×b.X
def OT.wf:(o:OT)->o.D->Prop
  | .dat t,d=>t.wf d
  | .row _ t,d=>d.length<=maxLen∧∀ x∈d,t.wf x
  | .rowg _ t,d=>d.length<=maxLen∧∀ x∈d,t.wf x
  | .fnc _,_=>True
  | .ali,_=>True
  | .ref _ o,d=>o.wf d
  | .pair a b,d=>a.wf d.1/\b.wf d.2
def OT.nb:OT->Nat
  | .ref _ o=>o.nb+1
  | .pair a b=>a.nb+b.nb
  | _=>0
def OT.nc:OT->Nat
  | .row _ _=>1
  | .rowg _ _=>1
  | .ref _ o=>o.nc
  | .pair a b=>a.nc+b.nc
  | _=>0
def OT.nr:OT->Nat
  | .row _ _=>1
  | .ref _ o=>o.nr
  | .pair a b=>a.nr+b.nr
  | _=>0
instance:Coe CT OT:=⟨OT.dat⟩
inductive PK where
  | val (t:CT)
  | agg (t:CT)
  | box (E:TypeId) (o:OT)
  | row (E:TypeId) (t:CT)
  | own (E:TypeId) (t:CT)
  | fn (f:FuncId) (k:Nat)
  | nils
  | ago (o:OT)
@[reducible] def PK.D:PK->Type
  | .val t=>t.D
  | .agg t=>t.D
  | .box _ o=>o.D
  | .row _ t=>List t.D
  | .own _ t=>List t.D
  | .fn _ _=>Unit
  | .nils=>Unit
  | .ago o=>o.D
@[reducible] def PDs:List PK->Type
  | []=>Unit
  | p::r=>p.D×PDs r
def PK.wf:(p:PK)->p.D->Prop
  | .val t,d=>t.wf d
  | .agg t,d=>t.wf d
  | .box _ o,d=>o.wf d
  | .row _ t,d=>d.length<=maxLen∧∀ x∈d,t.wf x
  | .own _ t,d=>d.length<=maxLen∧∀ x∈d,t.wf x
  | .fn _ _,_=>True
  | .nils,_=>True
  | .ago o,d=>o.wf d
def wfP:(ps:List PK)->PDs ps->Prop
  | [],_=>True
  | p::r,d=>p.wf d.1/\wfP r d.2
def allS:(t:CT)->(t.D->Prop)->Prop
  | .pair a b,k=>allS a fun x=>allS b fun y=>k (x,y)
  | .int _,k=>∀ x:Int,k x
  | .bool,k=>∀ x:Bool,k x
  | .str,k=>∀ x:ByteArray,k x
  | .sl t,k=>∀ x:List t.D,k x
theorem allS_iff:∀ {t:CT} {k:t.D->Prop},allS t k↔∀ d,k d
  | .pair a b,k=>by
    simp only [allS,allS_iff (t:=a),allS_iff (t:=b)]
    exact ⟨fun h d=>h d.1 d.2,fun h x y=>h (x,y)⟩
  | .int _,k=>Iff.rfl
  | .bool,k=>Iff.rfl
  | .str,k=>Iff.rfl
  | .sl t,k=>Iff.rfl
def allD (t:CT) (k:t.D->Prop):Prop:=match Nat.ble t.size 6 with
  | true=>allS t k
  | false=>∀ d:t.D,k d
theorem allD_iff {t:CT} {k:t.D->Prop}:allD t k↔∀ d,k d:=by
  unfold allD
  split
  · exact allS_iff
  · exact Iff.rfl
def allO:(o:OT)->(o.D->Prop)->Prop
  | .dat t,k=>allD t k
  | .row _ t,k=>∀ x:List t.D,k x
  | .rowg _ t,k=>∀ x:List t.D,k x
  | .fnc _,k=>k ()
  | .ali,k=>k ()
  | .ref _ o,k=>allO o k
  | .pair a b,k=>allO a fun x=>allO b fun y=>k (x,y)
theorem allO_iff:∀ {o:OT} {k:o.D->Prop},allO o k↔∀ d,k d
  | .dat t,k=>allD_iff
  | .row _ t,k=>Iff.rfl
  | .rowg _ t,k=>Iff.rfl
  | .fnc _,k=>⟨fun h _=>h,fun h=>h ()⟩
  | .ali,k=>⟨fun h _=>h,fun h=>h ()⟩
  | .ref _ o,k=>allO_iff (o:=o)
  | .pair a b,k=>by
    simp only [allO,allO_iff (o:=a),allO_iff (o:=b)]
    exact ⟨fun h d=>h d.1 d.2,fun h x y=>h (x,y)⟩
def PK.all:(p:PK)->(p.D->Prop)->Prop
  | .val t,k=>allD t k
  | .agg t,k=>allD t k
  | .box _ o,k=>allO o k
  | .row _ t,k=>∀ x:List t.D,k x
  | .own _ t,k=>∀ x:List t.D,k x
  | .fn _ _,k=>k ()
  | .nils,k=>k ()
  | .ago o,k=>allO o k
theorem PK.all_iff {p:PK} {k:p.D->Prop}:p.all k↔∀ d,k d:=by
  cases p <;> simp only [PK.all,allD_iff,allO_iff] <;> exact ⟨fun h _=>h,fun h=>h ()⟩
def allP:(ps:List PK)->(PDs ps->Prop)->Prop
  | [],k=>k ()
  | p::r,k=>p.all fun x=>allP r fun y=>k (x,y)
theorem allP_iff:∀ {ps:List PK} {k:PDs ps->Prop},allP ps k↔∀ d,k d
  | [],k=>⟨fun h d=>h,fun h=>h ()⟩
  | p::r,k=>by
    simp only [allP,PK.all_iff,allP_iff (ps:=r)]
    exact ⟨fun h d=>h d.1 d.2,fun h x y=>h (x,y)⟩
def takeRow (E:TypeId) (t:CT):List SV->Q (List t.D×List SV×Option Nat)
  | .own n sz::r => .ask n fun
    | .live (.row E' t' xs)=>match Nat.beq E E',Nat.beq sz t.size,castL t' t xs with
      | true,true,some ys => .ret (ys,r,some n)
      | _,_,_ => .fail
    | _ => .fail
  | .nilsl::r => .ret ([],r,none)
  | _ => .fail
def oMatch (a0:Option Nat):(o:OT)->List SV->Q (o.D×List SV×List (Nat×Nm)×List Nat×List (Option Nat))
  | .dat t,cs=>(projC t cs).bind fun p => .ret (p.1,p.2.1,p.2.2,[],[])
  | .row E t,cs=>(takeRow E t cs).bind fun p => .ret (p.1,p.2.1,[],[],[p.2.2])
  | .rowg E t,cs=>(takeRow E t cs).bind fun p => .ret (p.1,p.2.1,[],[],[p.2.2])
  | .fnc f,.fn g []::r=>match Nat.beq f g with
    | true => .ret ((),r,[],[],[])
    | false => .fail
  | .fnc _,_ => .fail
  | .ali,.ptr n 0::r=>match a0 with
    | some m=>match Nat.beq n m with
      | true => .ret ((),r,[],[],[])
      | false => .fail
    | none => .fail
  | .ali,_ => .fail
  | .ref E o,.ptr n 0::r => .ask n fun
    | .live (.cells E' cs)=>match Nat.beq E E' with
      | true=>(oMatch a0 o cs).bind fun p=>match p.2.1 with
        | [] => .ret (p.1,r,p.2.2.1,n::p.2.2.2.1,p.2.2.2.2)
        | _ => .fail
      | false => .fail
    | _ => .fail
  | .ref _ _,_ => .fail
  | .pair a b,cs=>(oMatch a0 a cs).bind fun p=>(oMatch a0 b p.2.1).bind fun q => .ret ((p.1,q.1),q.2.1,p.2.2.1++q.2.2.1,p.2.2.2.1++q.2.2.2.1,p.2.2.2.2++q.2.2.2.2)
def oCells:(o:OT)->o.D->Nat->Nat->List SV
  | .dat t,d,_,_=>flat t d
  | .row _ t,_,_,i=>[.own (QN+i) t.size]
  | .rowg _ t,_,_,i=>[.own (QN+i) t.size]
  | .fnc f,_,_,_=>[.fn f []]
  | .ali,_,_,_=>[.ptr PN 0]
  | .ref _ _,_,j,_=>[.ptr (PN+j) 0]
  | .pair a b,d,j,i=>oCells a d.1 j i++oCells b d.2 (j+a.nb) (i+a.nc)
def oBox:(o:OT)->o.D->Nat->Nat->List (Nat×Nm)
  | .dat _,_,_,_=>[]
  | .row _ _,_,_,_=>[]
  | .rowg _ _,_,_,_=>[]
  | .fnc _,_,_,_=>[]
  | .ali,_,_,_=>[]
  | .ref E o,d,j,i=>(PN+j,.live (.cells E (oCells o d (j+1) i)))::oBox o d (j+1) i
  | .pair a b,d,j,i=>oBox a d.1 j i++oBox b d.2 (j+a.nb) (i+a.nc)
def oCon:(o:OT)->o.D->Nat->List (Nat×Nm)
  | .dat _,_,_=>[]
  | .row E t,xs,i=>[(QN+i,.live (.row E t xs))]
  | .rowg E t,xs,i=>[(QN+i,.live (.row E t xs))]
  | .fnc _,_,_=>[]
  | .ali,_,_=>[]
  | .ref _ o,d,i=>oCon o d i
  | .pair a b,d,i=>oCon a d.1 i++oCon b d.2 (i+a.nc)
def val1 (t:CT) (d:t.D):SV:=match flat t d with
  | [s]=>s
  | _ => .junk
def or0:Option Nat->Nat->Option Nat
  | some m,_=>some m
  | none,n=>some n
def matchArgs:Option Nat->(ps:List PK)->List SV->Q (PDs ps×List (Nat×Nm)×List Nat×List (Option Nat))
  | _,[],[] => .ret ((),[],[],[])
  | a0,.val t::ps,v::vs=>(projC t [v]).bind fun p=>match p.2.1 with
    | []=>(matchArgs a0 ps vs).bind fun q => .ret ((p.1,q.1),p.2.2++q.2.1,q.2.2)
    | _ => .fail
  | a0,.agg t::ps,.agg cs::vs=>(projC t cs).bind fun p=>match p.2.1 with
    | []=>(matchArgs a0 ps vs).bind fun q => .ret ((p.1,q.1),p.2.2++q.2.1,q.2.2)
    | _ => .fail
  | a0,.nils::ps,.nilsl::vs=>(matchArgs a0 ps vs).bind fun q => .ret (((),q.1),q.2)
  | a0,.fn f k::ps,.fn g cs::vs=>match Nat.beq f g,Nat.beq cs.length k with
    | true,true=>(matchArgs a0 ps (cs++vs)).bind fun q => .ret (((),q.1),q.2)
    | _,_ => .fail
  | a0,.box E o::ps,.ptr n 0::vs => .ask n fun
    | .live (.cells E' cs)=>match Nat.beq E E' with
      | true=>(oMatch a0 o cs).bind fun p=>match p.2.1 with
        | []=>(matchArgs (or0 a0 n) ps vs).bind fun q => .ret ((p.1,q.1),p.2.2.1++q.2.1,n::(p.2.2.2.1++q.2.2.1),p.2.2.2.2++q.2.2.2)
        | _ => .fail
      | false => .fail
    | _ => .fail
  | a0,.row E t::ps,.own n sz::vs => .ask n fun
    | .live (.row E' t' xs)=>match Nat.beq E E',Nat.beq sz t.size,castL t' t xs with
      | true,true,some ys=>(matchArgs (or0 a0 n) ps vs).bind fun q => .ret ((ys,q.1),q.2.1,n::q.2.2.1,q.2.2.2)
      | _,_,_ => .fail
    | _ => .fail
  | a0,.own E t::ps,v::vs=>(takeRow E t [v]).bind fun p=>(matchArgs a0 ps vs).bind fun q => .ret ((p.1,q.1),q.2.1,q.2.2.1,p.2.2::q.2.2.2)
  | a0,.ago o::ps,.agg cs::vs=>match Nat.beq o.nb 0 with
    | true=>(oMatch a0 o cs).bind fun p=>match p.2.1 with
      | []=>(matchArgs a0 ps vs).bind fun q => .ret ((p.1,q.1),p.2.2.1++q.2.1,q.2.2.1,p.2.2.2.2++q.2.2.2)
      | _ => .fail
    | false => .fail
  | _,_,_ => .fail
def argsOf:(ps:List PK)->PDs ps->Nat->Nat->List SV
  | [],_,_,_=>[]
  | .val t::ps,d,j,i=>val1 t d.1::argsOf ps d.2 j i
  | .agg t::ps,d,j,i => .agg (flat t d.1)::argsOf ps d.2 j i
  | .box E o::ps,d,j,i => .ptr (PN+j) 0::argsOf ps d.2 (j+1+o.nb) (i+o.nc)
  | .row E t::ps,d,j,i => .own (PN+j) t.size::argsOf ps d.2 (j+1) i
  | .own E t::ps,d,j,i => .own (QN+i) t.size::argsOf ps d.2 j (i+1)
  | .fn f k::ps,d,j,i => .fn f ((argsOf ps d.2 j i).take k)::(argsOf ps d.2 j i).drop k
  | .nils::ps,d,j,i => .nilsl::argsOf ps d.2 j i
  | .ago o::ps,d,j,i => .agg (oCells o d.1 j i)::argsOf ps d.2 j (i+o.nc)
def boxesOf:(ps:List PK)->PDs ps->Nat->Nat->List (Nat×Nm)
  | [],_,_,_=>[]
  | .val t::ps,d,j,i=>boxesOf ps d.2 j i
  | .agg t::ps,d,j,i=>boxesOf ps d.2 j i
  | .box E o::ps,d,j,i=>(PN+j,.live (.cells E (oCells o d.1 (j+1) i)))::(oBox o d.1 (j+1) i++boxesOf ps d.2 (j+1+o.nb) (i+o.nc))
  | .row E t::ps,d,j,i=>(PN+j,.live (.row E t d.1))::boxesOf ps d.2 (j+1) i
  | .own E t::ps,d,j,i=>boxesOf ps d.2 j (i+1)
  | .fn f k::ps,d,j,i=>boxesOf ps d.2 j i
  | .nils::ps,d,j,i=>boxesOf ps d.2 j i
  | .ago o::ps,d,j,i=>boxesOf ps d.2 j (i+o.nc)
def consOf:(ps:List PK)->PDs ps->Nat->List (Nat×Nm)
  | [],_,_=>[]
  | .val t::ps,d,i=>consOf ps d.2 i
  | .agg t::ps,d,i=>consOf ps d.2 i
  | .box E o::ps,d,i=>oCon o d.1 i++consOf ps d.2 (i+o.nc)
  | .row E t::ps,d,i=>consOf ps d.2 i
  | .own E t::ps,d,i=>(QN+i,.live (.row E t d.1))::consOf ps d.2 (i+1)
  | .fn f k::ps,d,i=>consOf ps d.2 i
  | .nils::ps,d,i=>consOf ps d.2 i
  | .ago o::ps,d,i=>oCon o d.1 i++consOf ps d.2 (i+o.nc)
def evOf (env:Env):Option Nat->Ev
  | some m=>env m
  | none => .nil
section
variable {w0:World} {N0:Old} {A Ac:Nat->Prop} {env envc:Env} {h:Heap} {w:World}
def LinkOK (A':Nat->Prop) (env0:Env) (h0:Heap) (e':Env) (w:World):List (Option Nat)->List (Nat×Nm)->Nat->Prop
  | [],[],_=>True
  | o::os,(m,x)::l,n=>(m=n∧∃ b',x = .live b'∧b'.mut=true/\((∃ q b,o=some q/\h0 q = .live b/\b.mut=true/\(∀ k len,env0 q = .blk k len->BlkDen A' e' w k len b')/\(env0 q = .nil→∃ E t,b' = .row E t []))∨(o=none∧∃ E t,b' = .row E t [])))/\LinkOK A' env0 h0 e' w os l (n+1)
  | _,_,_=>False
theorem LinkOK.append {A':Nat->Prop} {env0:Env} {h0:Heap} {e':Env}:∀ {os os':List (Option Nat)} {l l':List (Nat×Nm)} {n:Nat},LinkOK A' env0 h0 e' w os l n->LinkOK A' env0 h0 e' w os' l' (n+os.length)->LinkOK A' env0 h0 e' w (os++os') (l++l') n
  | [],os',[],l',n,_,k=>by simpa using k
  | o::os,os',(m,x)::l,l',n,⟨h1,h2⟩,k=>by
    simp only [List.cons_append,LinkOK]
    refine ⟨h1,h2.append ?_⟩
    rw [List.length_cons] at k
    rwa [show n+1+os.length=n+(os.length+1) from by omega]
  | [],_,_::_,_,_,h,_=>h.elim
  | _::_,_,[],_,_,h,_=>h.elim
theorem LinkOK.get {A':Nat->Prop} {env0:Env} {h0:Heap} {e':Env}:∀ {os:List (Option Nat)} {l:List (Nat×Nm)} {n:Nat},LinkOK A' env0 h0 e' w os l n->os.length=l.length ∧
    ∀ i o,os[i]? = some o→∃ b',lookN l (n+i) = .live b'∧(n+i,Nm.live b')∈l/\b'.mut=true/\((∃ q b,o=some q/\h0 q = .live b/\b.mut=true/\(∀ k len,env0 q = .blk k len->BlkDen A' e' w k len b')/\(env0 q = .nil→∃ E t,b' = .row E t []))∨(o=none∧∃ E t,b' = .row E t []))
  | [],[],n,_=>⟨rfl,fun i n hi=>by simp at hi⟩
  | o::os,(m,x)::l,n,⟨⟨hm,b',h3,h4,h5⟩,hr⟩=>by
    obtain ⟨hl,hg⟩:=hr.get
    refine ⟨by simp [hl],fun i o' hi => ?_⟩
    cases i with
    | zero =>
      simp at hi
      subst hi
      subst h3
      exact ⟨b',by simp only [lookN,hm,Nat.add_zero,Nat.beq_refl],by rw [hm];exact List.mem_cons_self ..,h4,h5⟩
    | succ i =>
      obtain ⟨c',g1,g2,g3⟩:=hg i o' (by simpa using hi)
      rw [show n+1+i=n+(i+1) from by omega] at g1 g2
      refine ⟨c',?_,List.mem_cons_of_mem _ g2,g3⟩
      simp only [lookN]
      have:Nat.beq (n+(i+1)) m=false:=by
        cases hb:Nat.beq (n+(i+1)) m with
        | false=>rfl
        | true=>have:=Nat.eq_of_beq_eq_true hb;omega
      rw [this]
      exact g1
  | [],_::_,_,h=>h.elim
  | _::_,[],_,h=>h.elim
theorem LinkOK.keys {A':Nat->Prop} {env0:Env} {h0:Heap} {e':Env}:∀ {os:List (Option Nat)} {l:List (Nat×Nm)} {n:Nat},LinkOK A' env0 h0 e' w os l n→∀ c x,(c,x)∈l→∃ i o,c=n+i/\os[i]? = some o
  | [],[],n,_,c,x,hx=>by simp at hx
  | o::os,(m,y)::l,n,⟨⟨hm,_⟩,hr⟩,c,x,hx=>by
    rcases List.mem_cons.1 hx with e|hx
    · cases e;exact ⟨0,o,by omega,rfl⟩
    · obtain ⟨i,o',h1,h2⟩:=hr.keys c x hx
      exact ⟨i+1,o',by omega,by simpa using h2⟩
  | [],_::_,_,h,_,_,_=>h.elim
  | _::_,[],_,h,_,_,_=>h.elim
theorem den_flat1 {t:CT} {d:t.D} {v:Value} {rest:List SV} (hr:Rd A w t (fun j=>[v][j]?) 0 d):Den A env w (val1 t d) v:=by
  obtain ⟨vs,hl,hc,hd⟩:=flat_den (env:=env) t d _ 0 hr
  unfold val1
  split
  · rename_i s hs
    rw [hs] at hd
    simp only [DenL] at hd
    obtain ⟨u,r,rfl,hu,rfl⟩:=hd
    have h0:=hc 0 t.size_pos
    simp at h0
    rw [h0];exact hu
  · simp only [Den]
theorem den_flatL {t:CT} {d:t.D} {vs:List Value} (hl:vs.length=t.size) (hr:Rd A w t (fun j=>vs[j]?) 0 d):DenL A env w (flat t d) vs:=by
  obtain ⟨us,hlu,hc,hd⟩:=flat_den (env:=env) t d _ 0 hr
  have:us=vs:=by
    apply List.ext_getElem?
    intro j
    by_cases hj:j<t.size
    · have:=hc j hj
      simpa using this.symm
    · rw [List.getElem?_eq_none (by omega),List.getElem?_eq_none (by omega)]
  rw [← this];exact hd
theorem row_wf {k:Nat} {len:Nat×Nat} {E:TypeId} {t:CT} {xs:List t.D} (hr:RowDen A w k len E t xs):xs.length<=maxLen∧∀ x∈xs,t.wf x:=by
  obtain ⟨vs,cap,_,_,h2,h3,h4,h5⟩:=hr
  refine ⟨by omega,fun x hx => ?_⟩
  obtain ⟨i,hi,rfl⟩:=List.mem_iff_getElem.1 hx
  exact Rd_wf _ _ _ _ (h5 i hi)
theorem matchArgs_agg {a0:Option Nat} {t:CT} {ps:List PK} {svs:List SV} {x} (e:(matchArgs a0 (.agg t::ps) svs).run h=some x):∃ cs r,svs = .agg cs::r:=by
  cases svs with
  | nil=>cases e
  | cons s r=>cases s <;> first|exact ⟨_,_,rfl⟩|cases e
theorem matchArgs_ago {a0:Option Nat} {o:OT} {ps:List PK} {svs:List SV} {x} (e:(matchArgs a0 (.ago o::ps) svs).run h=some x):∃ cs r,svs = .agg cs::r:=by
  cases svs with
  | nil=>cases e
  | cons s r=>cases s <;> first|exact ⟨_,_,rfl⟩|cases e
theorem matchArgs_box {a0:Option Nat} {E:TypeId} {o:OT} {ps:List PK} {svs:List SV} {x} (e:(matchArgs a0 (.box E o::ps) svs).run h=some x):∃ n r,svs = .ptr n 0::r:=by
  cases svs with
  | nil=>cases e
  | cons s r =>
    cases s with
    | ptr n off=>cases off with
      | zero=>exact ⟨_,_,rfl⟩
      | succ k=>cases e
    | _=>cases e
theorem matchArgs_row {a0:Option Nat} {E:TypeId} {t:CT} {ps:List PK} {svs:List SV} {x} (e:(matchArgs a0 (.row E t::ps) svs).run h=some x):∃ n sz r,svs = .own n sz::r:=by
  cases svs with
  | nil=>cases e
  | cons s r=>cases s <;> first|exact ⟨_,_,_,rfl⟩|cases e
theorem matchArgs_own {a0:Option Nat} {E:TypeId} {t:CT} {ps:List PK} {svs:List SV} {x} (e:(matchArgs a0 (.own E t::ps) svs).run h=some x):∃ v r,svs=v::r:=by
  cases svs with
  | nil=>cases e
  | cons s r=>exact ⟨_,_,rfl⟩
theorem matchArgs_nils {a0:Option Nat} {ps:List PK} {svs:List SV} {x} (e:(matchArgs a0 (.nils::ps) svs).run h=some x):∃ r,svs = .nilsl::r:=by
  cases svs with
  | nil=>cases e
  | cons s r=>cases s <;> first|exact ⟨_,rfl⟩|cases e
theorem matchArgs_fn {a0:Option Nat} {f:FuncId} {k:Nat} {ps:List PK} {svs:List SV} {x} (e:(matchArgs a0 (.fn f k::ps) svs).run h=some x):∃ g cs r,svs = .fn g cs::r:=by
  cases svs with
  | nil=>cases e
  | cons s r=>cases s <;> first|exact ⟨_,_,_,rfl⟩|cases e
theorem oMatch_fnc {a0:Option Nat} {f:FuncId} {svs:List SV} {x} (e:(oMatch a0 (.fnc f) svs).run h=some x):∃ r,svs = .fn f []::r/\x=(((),r,[],[],[]),[]):=by
  cases svs with
  | nil=>cases e
  | cons s r =>
    cases s <;> first|cases e;done|skip
    rename_i g cs
    cases cs <;> first|cases e;done|skip
    simp only [oMatch] at e
    split at e
    · rename_i hb
      rw [Nat.eq_of_beq_eq_true hb]
      simp only [Q.run,Option.some.injEq] at e
      exact ⟨_,rfl,e.symm⟩
    · cases e
theorem oMatch_ref {a0:Option Nat} {E:TypeId} {o:OT} {svs:List SV} {x} (e:(oMatch a0 (.ref E o) svs).run h=some x):∃ n r,svs = .ptr n 0::r:=by
  cases svs with
  | nil=>cases e
  | cons s r =>
    cases s with
    | ptr n off=>cases off with
      | zero=>exact ⟨_,_,rfl⟩
      | succ k=>cases e
    | _=>cases e
theorem row_link (m:Mod w0 N0 A env h w) (hA:∀ b,A b->Ac b) {n:Nat} {E:TypeId} {t:CT} {xs:List t.D} (hl:h n = .live (.row E t xs)) :
    (xs.length<=maxLen∧∀ x∈xs,t.wf x)∧∀ (e':Env) (i:Nat),LinkOK Ac env h e' w [some n] [(i,.live (.row E t xs))] i:=by
  have hm:=m.nm n
  rw [hl] at hm
  refine ⟨?_,fun e' i=>⟨⟨rfl,_,rfl,rfl,.inl ⟨n,_,rfl,hl,rfl,fun k len he => ?_,fun he => ?_⟩⟩,trivial⟩⟩
  · rcases hm with ⟨k,len,hek,hb,_⟩|⟨hen,E2,t2,hb⟩
    · exact row_wf hb
    · rcases hb with hb|hb <;> cases hb
      exact ⟨by simp,by simp⟩
  · rcases hm with ⟨k',len',hek,hb,_⟩|⟨hen,_⟩
    · rw [he] at hek;cases hek
      obtain ⟨us,cap,g1,g2,g3,g4,g5,g6⟩:=hb
      exact ⟨us,cap,g1,g2,g3,g4,g5,fun i hi=>Rd_mono hA (fun _ _ _=>rfl) _ _ _ _ _ (fun _ _=>rfl) (g6 i hi)⟩
    · rw [he] at hen;cases hen
  · rcases hm with ⟨k',len',hek,hb,_⟩|⟨hen,E2,t2,hb⟩
    · rw [he] at hek;cases hek
    · rcases hb with hb|hb <;> cases hb
      exact ⟨_,_,rfl⟩
theorem takeRow_sound (m:Mod w0 N0 A env h w) (hA:∀ b,A b->Ac b) {E:TypeId} {t:CT} {cs rest:List SV} {vs:List Value} {ys:List t.D} {on:Option Nat} {r:List Nat}
    (e:(takeRow E t cs).run h=some ((ys,rest,on),r)) (hd:DenL A env w cs vs) :
    (ys.length<=maxLen∧∀ x∈ys,t.wf x)/\cs.length=rest.length+1/\(rest=cs.drop 1)∧∃ v vr,vs=v::vr/\DenL A env w rest vr∧∀ (e':Env) (i:Nat),e' i=evOf env on->Den Ac e' w (.own i t.size) v/\LinkOK Ac env h e' w [on] [(i,.live (.row E t ys))] i:=by
  cases cs with
  | nil=>cases e
  | cons s cs =>
  cases s with
  | own n sz =>
    simp only [takeRow,Q.run] at e
    split at e
    · rename_i p0 q0 hk
      simp only [Option.some.injEq,Prod.mk.injEq] at e
      obtain ⟨rfl,rfl⟩:=e
      split at hk
      · rename_i E' t' xs hl
        split at hk
        · rename_i zs hE hsz hc
          have hE:=Nat.eq_of_beq_eq_true hE
          subst hE
          have hsz:=Nat.eq_of_beq_eq_true hsz
          subst hsz
          obtain ⟨et,ez⟩:=castL_eq hc
          subst et
          simp only at ez
          subst ez
          simp only [Q.run,Option.some.injEq,Prod.mk.injEq] at hk
          obtain ⟨⟨rfl,rfl,rfl⟩,rfl⟩:=hk
          simp only [DenL,Den] at hd
          obtain ⟨x,vr,rfl,hv,hr⟩:=hd
          obtain ⟨h1,h2⟩:=row_link m hA hl
          refine ⟨h1,rfl,rfl,x,vr,rfl,hr,fun e' i he=>⟨?_,h2 e' i⟩⟩
          simp only [evOf] at he
          simp only [Den]
          rw [he];exact hv
        · cases hk
      · cases hk
    · cases e
  | nilsl =>
    simp only [takeRow,Q.run,Option.some.injEq,Prod.mk.injEq] at e
    obtain ⟨⟨rfl,rfl,rfl⟩,rfl⟩:=e
    simp only [DenL,Den] at hd
    obtain ⟨x,vr,rfl,rfl,hr⟩:=hd
    refine ⟨⟨by simp,by simp⟩,rfl,rfl,_,vr,rfl,hr,fun e' i he=>⟨?_,⟨rfl,_,rfl,rfl,.inr ⟨rfl,_,_,rfl⟩⟩,trivial⟩⟩
    simp only [Den]
    exact .inl ⟨he,_,rfl⟩
  | _=>cases e
theorem oMatch_ali {a0:Option Nat} {svs:List SV} {x} (e:(oMatch a0 .ali svs).run h=some x):∃ n r,svs = .ptr n 0::r/\a0=some n/\x=(((),r,[],[],[]),[]):=by
  cases svs with
  | nil=>cases e
  | cons s r =>
    cases s with
    | ptr n off=>cases off with
      | zero=>cases a0 with
        | none=>cases e
        | some m =>
          have e:(match Nat.beq n m with|true=>(Q.ret ((),r,[],[],[]):Q (Unit×List SV×List (Nat×Nm)×List Nat×List (Option Nat)))|false=>Q.fail).run h=some x:=e
          cases hb:Nat.beq n m with
          | false=>rw [hb] at e;cases e
          | true =>
            rw [hb] at e
            simp only [Q.run,Option.some.injEq] at e
            exact ⟨n,r,rfl,by rw [Nat.eq_of_beq_eq_true hb],e.symm⟩
      | succ k=>cases e
    | _=>cases e
theorem or0_ne {a0:Option Nat} {n:Nat} (h:or0 a0 n=none):False:=by cases a0 <;> cases h
theorem oMatch_sound (m:Mod w0 N0 A env h w) (hA:∀ b,A b->Ac b) (a0:Option Nat):∀ (o:OT) (cs:List SV) (vs:List Value) (d:o.D) (rest:List SV) (fz:List (Nat×Nm)) (bx:List Nat) (cx:List (Option Nat)) (r:List Nat) (j i:Nat),
    (oMatch a0 o cs).run h=some ((d,rest,fz,bx,cx),r)->DenL A env w cs vs->(∀ k,FrzBlk env fz k->Ac k) →
    FrzOk h fz/\o.wf d/\bx.length=o.nb/\cx.length=o.nc∧∃ us rs,vs=us++rs/\DenL A env w rest rs ∧
      ((∀ n,a0=some n->envc PN=env n)->(∀ k n,bx[k]? = some n->envc (PN+(j+k))=env n)->(∀ k q,cx[k]? = some q->envc (QN+(i+k))=evOf env q) →
        DenL Ac envc w (oCells o d j i) us/\LinkOK Ac env h envc w (bx.map some) (oBox o d j i) (PN+j)/\LinkOK Ac env h envc w cx (oCon o d i) (QN+i))
  | .dat t,cs,vs,d,rest,fz,bx,cx,r,j,i,e,hd,hF=>by
    simp only [oMatch] at e
    obtain ⟨⟨d1,r1,f1⟩,q1,q2,e1,e2,rfl⟩:=Q.run_bind _ _ _ e
    simp only [Q.run,Option.some.injEq,Prod.mk.injEq] at e2
    obtain ⟨⟨rfl,rfl,rfl,rfl,rfl⟩,rfl⟩:=e2
    obtain ⟨p1,p2,p3,p4,p5⟩:=projC_sound m t cs vs d1 r1 f1 q1 e1 hd hA hF
    refine ⟨p1,Rd_wf _ _ _ _ p4,rfl,rfl,vs.take t.size,vs.drop t.size,(List.take_append_drop _ _).symm,p5,fun _ _ _=>⟨?_,trivial,trivial⟩⟩
    simp only [oCells]
    refine den_flatL (by rw [List.length_take];omega) ?_
    refine Rd_mono (fun _ h=>h) (fun _ _ _=>rfl) t _ _ _ _ (fun k hk => ?_) p4
    simp only [Nat.zero_add,List.getElem?_take]
    rw [if_pos hk]
  | .row E t,cs,vs,d,rest,fz,bx,cx,r,j,i,e,hd,hF=>by
    simp only [oMatch] at e
    obtain ⟨⟨d1,r1,o1⟩,q1,q2,e1,e2,rfl⟩:=Q.run_bind _ _ _ e
    simp only [Q.run,Option.some.injEq,Prod.mk.injEq] at e2
    obtain ⟨⟨rfl,rfl,rfl,rfl,rfl⟩,rfl⟩:=e2
    obtain ⟨p1,-,-,v,vr,rfl,p2,p3⟩:=takeRow_sound m hA e1 hd
    refine ⟨fun n b hh=>by simp at hh,p1,rfl,rfl,[v],vr,rfl,p2,fun _ _ hc => ?_⟩
    obtain ⟨k1,k2⟩:=p3 envc (QN+i) (hc 0 _ rfl)
    simp only [oCells,oBox,oCon,DenL]
    exact ⟨⟨v,[],rfl,k1,rfl⟩,trivial,k2⟩
  | .rowg E t,cs,vs,d,rest,fz,bx,cx,r,j,i,e,hd,hF=>by
    simp only [oMatch] at e
    obtain ⟨⟨d1,r1,o1⟩,q1,q2,e1,e2,rfl⟩:=Q.run_bind _ _ _ e
    simp only [Q.run,Option.some.injEq,Prod.mk.injEq] at e2
    obtain ⟨⟨rfl,rfl,rfl,rfl,rfl⟩,rfl⟩:=e2
    obtain ⟨p1,-,-,v,vr,rfl,p2,p3⟩:=takeRow_sound m hA e1 hd
    refine ⟨fun n b hh=>by simp at hh,p1,rfl,rfl,[v],vr,rfl,p2,fun _ _ hc => ?_⟩
    obtain ⟨k1,k2⟩:=p3 envc (QN+i) (hc 0 _ rfl)
    simp only [oCells,oBox,oCon,DenL]
    exact ⟨⟨v,[],rfl,k1,rfl⟩,trivial,k2⟩
  | .fnc f,cs0,vs,d,rest,fz,bx,cx,r,j,i,e,hd,hF=>by
    obtain ⟨cs,rfl,e2⟩:=oMatch_fnc e
    simp only [Prod.mk.injEq] at e2
    obtain ⟨⟨-,rfl,rfl,rfl,rfl⟩,rfl⟩:=e2
    simp only [DenL] at hd
    obtain ⟨u,vr,rfl,hu,hvr⟩:=hd
    refine ⟨fun n b hh=>by simp at hh,trivial,rfl,rfl,[u],vr,rfl,hvr,fun _ _ _=>⟨?_,trivial,trivial⟩⟩
    simp only [oCells,DenL]
    simp only [Den,DenL] at hu
    refine ⟨u,[],rfl,?_,rfl⟩
    simp only [Den,DenL]
    exact hu
  | .ali,cs0,vs,d,rest,fz,bx,cx,r,j,i,e,hd,hF=>by
    obtain ⟨n,cs,rfl,h0,e2⟩:=oMatch_ali e
    simp only [Prod.mk.injEq] at e2
    obtain ⟨⟨-,rfl,rfl,rfl,rfl⟩,rfl⟩:=e2
    simp only [DenL,Den] at hd
    obtain ⟨u,vr,rfl,⟨k,len,hek,rfl⟩,hvr⟩:=hd
    refine ⟨fun n b hh=>by simp at hh,trivial,rfl,rfl,[_],vr,rfl,hvr,fun ha _ _=>⟨?_,trivial,trivial⟩⟩
    simp only [oCells,DenL,Den]
    exact ⟨_,[],rfl,⟨k,len,by rw [ha n h0];exact hek,rfl⟩,rfl⟩
  | .ref E o,cs0,vs,d,rest,fz,bx,cx,r,j,i,e,hd,hF=>by
    obtain ⟨n,cs,rfl⟩:=oMatch_ref e
    simp only [oMatch,Q.run] at e
    split at e
    · rename_i p0 q0 hk
      simp only [Option.some.injEq,Prod.mk.injEq] at e
      obtain ⟨rfl,rfl⟩:=e
      split at hk
      · rename_i E' cs' hl
        split at hk
        · rename_i hE
          have hE:=Nat.eq_of_beq_eq_true hE
          subst hE
          obtain ⟨⟨d1,r1,f1,b1,c1⟩,q1,q2,e1,e2,rfl⟩:=Q.run_bind _ _ _ hk
          split at e2
          · rename_i hr1
            simp only at hr1
            subst hr1
            simp only [Q.run,Option.some.injEq,Prod.mk.injEq] at e2
            obtain ⟨⟨rfl,rfl,rfl,rfl,rfl⟩,rfl⟩:=e2
            simp only [DenL,Den] at hd
            obtain ⟨x,vr,rfl,⟨k,len,hek,rfl⟩,hr⟩:=hd
            obtain ⟨⟨us,hus,hdu⟩,_⟩:=m.live_blk hl hek
            obtain ⟨s1,s2,s3,s4,us',rs',s5,s6,s7⟩:=oMatch_sound m hA a0 o cs' us.toList d1 [] f1 b1 c1 q1 (j+1) i e1 hdu hF
            simp only [DenL] at s6
            subst s6
            rw [List.append_nil] at s5
            subst s5
            refine ⟨s1,s2,by simp only [List.length_cons,s3,OT.nb],s4,[_],vr,rfl,hr,fun ha hb hc => ?_⟩
            have h0:=hb 0 n rfl
            rw [Nat.add_zero] at h0
            obtain ⟨k1,k2,k3⟩:=s7 ha (fun k n hn=>by have:=hb (k+1) n (by simpa using hn);rwa [show j+(k+1)=j+1+k from by omega] at this) hc
            refine ⟨?_,⟨⟨rfl,_,rfl,rfl,.inl ⟨n,_,rfl,hl,rfl,fun k' len' he => ?_,fun he => ?_⟩⟩,?_⟩,k3⟩
            · simp only [oCells,DenL,Den]
              exact ⟨_,[],rfl,⟨k,len,by rw [h0];exact hek,rfl⟩,rfl⟩
            · rw [hek] at he;cases he
              exact ⟨us,hus,k1⟩
            · rw [hek] at he;cases he
            · rw [show PN+j+1=PN+(j+1) from by omega];exact k2
          · cases e2
        · cases hk
      · cases hk
    · cases e
  | .pair a b,cs,vs,d,rest,fz,bx,cx,r,j,i,e,hd,hF=>by
    simp only [oMatch] at e
    obtain ⟨⟨d1,r1,f1,b1,c1⟩,q1,q2,e1,e2,rfl⟩:=Q.run_bind _ _ _ e
    obtain ⟨⟨d2,r2,f2,b2,c2⟩,q3,q4,e3,e4,rfl⟩:=Q.run_bind _ _ _ e2
    simp only [Q.run,Option.some.injEq,Prod.mk.injEq] at e4
    obtain ⟨⟨rfl,rfl,rfl,rfl,rfl⟩,rfl⟩:=e4
    have hF1:∀ k,FrzBlk env f1 k->Ac k:=fun k ⟨n,x,l,hx,he⟩=>hF k ⟨n,x,l,List.mem_append_left _ hx,he⟩
    have hF2:∀ k,FrzBlk env f2 k->Ac k:=fun k ⟨n,x,l,hx,he⟩=>hF k ⟨n,x,l,List.mem_append_right _ hx,he⟩
    obtain ⟨s1,s2,s3,s4,us,rs,rfl,s6,s7⟩:=oMatch_sound m hA a0 a cs vs d1 r1 f1 b1 c1 q1 j i e1 hd hF1
    obtain ⟨t1,t2,t3,t4,us',rs',rfl,t6,t7⟩:=oMatch_sound m hA a0 b r1 rs d2 r2 f2 b2 c2 q3 (j+a.nb) (i+a.nc) e3 s6 hF2
    refine ⟨fun n b hh => ?_,⟨s2,t2⟩,by simp only [List.length_append,s3,t3,OT.nb],by simp only [List.length_append,s4,t4,OT.nc],us++us',rs',by rw [List.append_assoc],t6,fun ha hb hc => ?_⟩
    · rcases List.mem_append.1 hh with hh|hh
      · exact s1 n b hh
      · exact t1 n b hh
    · obtain ⟨k1,k2,k3⟩:=s7 ha (fun k n hn=>hb k n (by rw [List.getElem?_append_left (List.getElem?_eq_some_iff.1 hn).1];exact hn)) (fun k q hq=>hc k q (by rw [List.getElem?_append_left (List.getElem?_eq_some_iff.1 hq).1];exact hq))
      obtain ⟨l1,l2,l3⟩:=t7 ha (fun k n hn=>by
          have:=hb (a.nb+k) n (by rw [List.getElem?_append_right (by omega),s3,Nat.add_sub_cancel_left];exact hn)
          rwa [show j+(a.nb+k)=j+a.nb+k from by omega] at this)
        (fun k q hq=>by
          have:=hc (a.nc+k) q (by rw [List.getElem?_append_right (by omega),s4,Nat.add_sub_cancel_left];exact hq)
          rwa [show i+(a.nc+k)=i+a.nc+k from by omega] at this)
      simp only [oCells,oBox,oCon]
      refine ⟨DenL_append k1 l1,?_,?_⟩
      · rw [List.map_append]
        exact k2.append (by rw [List.length_map,s3,Nat.add_assoc];exact l2)
      · exact k3.append (by rw [s4,Nat.add_assoc];exact l3)
theorem matchArgs_sound (m:Mod w0 N0 A env h w) (hA:∀ b,A b->Ac b):∀ (a0:Option Nat) (ps:List PK) (svs:List SV) (vs:List Value) (d:PDs ps) (fz:List (Nat×Nm)) (bx:List Nat) (cx:List (Option Nat)) (r:List Nat) (j i:Nat),
    (matchArgs a0 ps svs).run h=some ((d,fz,bx,cx),r)->DenL A env w svs vs->(∀ k,FrzBlk env fz k->Ac k) →
    FrzOk h fz/\wfP ps d/\((a0=none->j=0)->(∀ n,a0=some n->envc PN=env n)->(∀ k n,bx[k]? = some n->envc (PN+(j+k))=env n)->(∀ k q,cx[k]? = some q->envc (QN+(i+k))=evOf env q) →
      DenL Ac envc w (argsOf ps d j i) vs/\LinkOK Ac env h envc w (bx.map some) (boxesOf ps d j i) (PN+j)/\LinkOK Ac env h envc w cx (consOf ps d i) (QN+i))
  | a0,[],[],vs,d,fz,bx,cx,r,j,i,e,hd,hF=>by
    simp only [matchArgs,Q.run,Option.some.injEq,Prod.mk.injEq] at e
    obtain ⟨⟨-,rfl,rfl,rfl⟩,rfl⟩:=e
    exact ⟨fun n b hh=>by simp at hh,trivial,fun _ _ _ _=>⟨by simpa [argsOf,DenL] using hd,trivial,trivial⟩⟩
  | a0,.val t::ps,v::svs,vs,d,fz,bx,cx,r,j,i,e,hd,hF=>by
    simp only [matchArgs] at e
    obtain ⟨⟨d1,r1,f1⟩,q1,q2,e1,e2,rfl⟩:=Q.run_bind _ _ _ e
    split at e2
    · rename_i hr1
      simp only at hr1
      subst hr1
      obtain ⟨⟨d2,f2,b2,c2⟩,q3,q4,e3,e4,rfl⟩:=Q.run_bind _ _ _ e2
      simp only [Q.run,Option.some.injEq,Prod.mk.injEq] at e4
      obtain ⟨⟨rfl,rfl,rfl,rfl⟩,rfl⟩:=e4
      simp only [DenL] at hd
      obtain ⟨x,vr,rfl,hx,hr⟩:=hd
      have hF1:∀ k,FrzBlk env f1 k->Ac k:=fun k ⟨n,x,l,hx,he⟩=>hF k ⟨n,x,l,List.mem_append_left _ hx,he⟩
      have hF2:∀ k,FrzBlk env f2 k->Ac k:=fun k ⟨n,x,l,hx,he⟩=>hF k ⟨n,x,l,List.mem_append_right _ hx,he⟩
      obtain ⟨p1,p2,p3,p4,_⟩:=projC_sound m t [v] [x] d1 [] f1 q1 e1 (by simp only [DenL];exact ⟨x,[],rfl,hx,rfl⟩) hA hF1
      obtain ⟨s1,s4,s6⟩:=matchArgs_sound m hA a0 ps svs vr d2 f2 b2 c2 q3 j i e3 hr hF2
      refine ⟨fun n b hh => ?_,⟨Rd_wf _ _ _ _ p4,s4⟩,fun hj ha hb hc => ?_⟩
      · rcases List.mem_append.1 hh with hh|hh
        · exact p1 n b hh
        · exact s1 n b hh
      · obtain ⟨k1,k2,k3⟩:=s6 hj ha hb hc
        refine ⟨?_,k2,k3⟩
        simp only [argsOf,DenL]
        exact ⟨x,vr,rfl,den_flat1 (rest:=[]) p4,k1⟩
    · cases e2
  | a0,.nils::ps,svs0,vs,d,fz,bx,cx,r,j,i,e,hd,hF=>by
    obtain ⟨svs,rfl⟩:=matchArgs_nils e
    simp only [matchArgs] at e
    obtain ⟨⟨d2,f2,b2,c2⟩,q3,q4,e3,e4,rfl⟩:=Q.run_bind _ _ _ e
    simp only [Q.run,Option.some.injEq,Prod.mk.injEq] at e4
    obtain ⟨⟨rfl,rfl,rfl,rfl⟩,rfl⟩:=e4
    simp only [DenL,Den] at hd
    obtain ⟨x,vr,rfl,rfl,hr⟩:=hd
    obtain ⟨s1,s4,s6⟩:=matchArgs_sound m hA a0 ps svs vr d2 f2 b2 c2 q3 j i e3 hr hF
    refine ⟨s1,⟨trivial,s4⟩,fun hj ha hb hc => ?_⟩
    obtain ⟨k1,k2,k3⟩:=s6 hj ha hb hc
    refine ⟨?_,k2,k3⟩
    simp only [argsOf,DenL,Den]
    exact ⟨_,vr,rfl,rfl,k1⟩
  | a0,.fn f k::ps,svs0,vs,d,fz,bx,cx,r,j,i,e,hd,hF=>by
    obtain ⟨g,cs,svs,rfl⟩:=matchArgs_fn e
    simp only [matchArgs] at e
    split at e
    · rename_i hf hk
      have hf:=Nat.eq_of_beq_eq_true hf
      have hk:=Nat.eq_of_beq_eq_true hk
      subst hf
      obtain ⟨⟨d2,f2,b2,c2⟩,q3,q4,e3,e4,rfl⟩:=Q.run_bind _ _ _ e
      simp only [Q.run,Option.some.injEq,Prod.mk.injEq] at e4
      obtain ⟨⟨rfl,rfl,rfl,rfl⟩,rfl⟩:=e4
      simp only [DenL,Den] at hd
      obtain ⟨x,vr,rfl,⟨us,rfl,hu⟩,hr⟩:=hd
      have hul:=DenL_length hu
      obtain ⟨s1,s4,s6⟩:=matchArgs_sound m hA a0 ps (cs++svs) (us.toList++vr) d2 f2 b2 c2 q3 j i e3 (DenL_append hu hr) hF
      refine ⟨s1,⟨trivial,s4⟩,fun hj ha hb hc => ?_⟩
      obtain ⟨k1,k2,k3⟩:=s6 hj ha hb hc
      refine ⟨?_,k2,k3⟩
      simp only [argsOf,DenL,Den]
      refine ⟨_,vr,rfl,⟨us,rfl,?_⟩,?_⟩
      · have:=DenL_take k k1
        rwa [List.take_left' (by omega)] at this
      · have:=DenL_drop k k1
        rwa [List.drop_left' (by omega)] at this
    · cases e
  | a0,.agg t::ps,svs0,vs,d,fz,bx,cx,r,j,i,e,hd,hF=>by
    obtain ⟨cs,svs,rfl⟩:=matchArgs_agg e
    simp only [matchArgs] at e
    obtain ⟨⟨d1,r1,f1⟩,q1,q2,e1,e2,rfl⟩:=Q.run_bind _ _ _ e
    split at e2
    · rename_i hr1
      simp only at hr1
      subst hr1
      obtain ⟨⟨d2,f2,b2,c2⟩,q3,q4,e3,e4,rfl⟩:=Q.run_bind _ _ _ e2
      simp only [Q.run,Option.some.injEq,Prod.mk.injEq] at e4
      obtain ⟨⟨rfl,rfl,rfl,rfl⟩,rfl⟩:=e4
      simp only [DenL,Den] at hd
      obtain ⟨x,vr,rfl,⟨us,rfl,hx⟩,hr⟩:=hd
      have hF1:∀ k,FrzBlk env f1 k->Ac k:=fun k ⟨n,x,l,hx,he⟩=>hF k ⟨n,x,l,List.mem_append_left _ hx,he⟩
      have hF2:∀ k,FrzBlk env f2 k->Ac k:=fun k ⟨n,x,l,hx,he⟩=>hF k ⟨n,x,l,List.mem_append_right _ hx,he⟩
      obtain ⟨p1,p2,p3,p4,_⟩:=projC_sound m t cs us.toList d1 [] f1 q1 e1 hx hA hF1
      obtain ⟨s1,s4,s6⟩:=matchArgs_sound m hA a0 ps svs vr d2 f2 b2 c2 q3 j i e3 hr hF2
      refine ⟨fun n b hh => ?_,⟨Rd_wf _ _ _ _ p4,s4⟩,fun hj ha hb hc => ?_⟩
      · rcases List.mem_append.1 hh with hh|hh
        · exact p1 n b hh
        · exact s1 n b hh
      · obtain ⟨k1,k2,k3⟩:=s6 hj ha hb hc
        refine ⟨?_,k2,k3⟩
        simp only [argsOf,DenL,Den]
        exact ⟨_,vr,rfl,⟨us,rfl,den_flatL (by simpa using p3) p4⟩,k1⟩
    · cases e2
  | a0,.box E o::ps,svs0,vs,d,fz,bx,cx,r,j,i,e,hd,hF=>by
    obtain ⟨n,svs,rfl⟩:=matchArgs_box e
    simp only [matchArgs,Q.run] at e
    split at e
    · rename_i p0 q0 hk
      simp only [Option.some.injEq,Prod.mk.injEq] at e
      obtain ⟨rfl,rfl⟩:=e
      split at hk
      · rename_i E' cs hl
        split at hk
        · rename_i hE
          have hE:=Nat.eq_of_beq_eq_true hE
          subst hE
          obtain ⟨⟨d1,r1,f1,b1,c1⟩,q1,q2,e1,e2,rfl⟩:=Q.run_bind _ _ _ hk
          split at e2
          · rename_i hr1
            simp only at hr1
            subst hr1
            obtain ⟨⟨d2,f2,b2,c2⟩,q3,q4,e3,e4,rfl⟩:=Q.run_bind _ _ _ e2
            simp only [Q.run,Option.some.injEq,Prod.mk.injEq] at e4
            obtain ⟨⟨rfl,rfl,rfl,rfl⟩,rfl⟩:=e4
            simp only [DenL,Den] at hd
            obtain ⟨x,vr,rfl,⟨k,len,hek,rfl⟩,hr⟩:=hd
            obtain ⟨⟨us,hus,hdu⟩,_⟩:=m.live_blk hl hek
            have hF1:∀ k,FrzBlk env f1 k->Ac k:=fun k ⟨n,x,l,hx,he⟩=>hF k ⟨n,x,l,List.mem_append_left _ hx,he⟩
            have hF2:∀ k,FrzBlk env f2 k->Ac k:=fun k ⟨n,x,l,hx,he⟩=>hF k ⟨n,x,l,List.mem_append_right _ hx,he⟩
            obtain ⟨p1,p2,p3,p4,us',rs',p5,p6,p7⟩:=oMatch_sound (envc:=envc) m hA a0 o cs us.toList d1 [] f1 b1 c1 q1 (j+1) i e1 hdu hF1
            simp only [DenL] at p6
            subst p6
            rw [List.append_nil] at p5
            subst p5
            obtain ⟨s1,s4,s6⟩:=matchArgs_sound m hA (or0 a0 n) ps svs vr d2 f2 b2 c2 q3 (j+1+o.nb) (i+o.nc) e3 hr hF2
            refine ⟨fun n b hh => ?_,⟨p2,s4⟩,fun hj ha hb hc => ?_⟩
            · rcases List.mem_append.1 hh with hh|hh
              · exact p1 n b hh
              · exact s1 n b hh
            · have h0:=hb 0 n rfl
              rw [Nat.add_zero] at h0
              obtain ⟨k1,k2,k3⟩:=p7 ha
                (fun k n hn=>by
                  have:=hb (k+1) n (by simp only [List.getElem?_cons_succ];rw [List.getElem?_append_left (List.getElem?_eq_some_iff.1 hn).1];exact hn)
                  rwa [show j+(k+1)=j+1+k from by omega] at this)
                (fun k q hq=>hc k q (by rw [List.getElem?_append_left (List.getElem?_eq_some_iff.1 hq).1];exact hq))
              obtain ⟨l1,l2,l3⟩:=s6 (fun q=>(or0_ne q).elim) (fun n' hn=>by cases a0 with|some m=>exact ha n' hn|none=>cases hn;have e:=hj rfl;rw [e,Nat.add_zero] at h0;exact h0)
                (fun k n hn=>by
                  have:=hb (o.nb+k+1) n (by simp only [List.getElem?_cons_succ];rw [List.getElem?_append_right (by omega),p3,Nat.add_sub_cancel_left];exact hn)
                  rwa [show j+(o.nb+k+1)=j+1+o.nb+k from by omega] at this)
                (fun k q hq=>by
                  have:=hc (o.nc+k) q (by rw [List.getElem?_append_right (by omega),p4,Nat.add_sub_cancel_left];exact hq)
                  rwa [show i+(o.nc+k)=i+o.nc+k from by omega] at this)
              refine ⟨?_,⟨⟨rfl,_,rfl,rfl,.inl ⟨n,_,rfl,hl,rfl,fun k' len' he => ?_,fun he => ?_⟩⟩,?_⟩,?_⟩
              · simp only [argsOf,DenL,Den]
                exact ⟨_,vr,rfl,⟨k,len,by rw [h0];exact hek,rfl⟩,l1⟩
              · rw [hek] at he;cases he
                exact ⟨us,hus,k1⟩
              · rw [hek] at he;cases he
              · rw [List.map_append,show PN+j+1=PN+(j+1) from by omega]
                exact k2.append (by rw [List.length_map,p3,show PN+(j+1)+o.nb=PN+(j+1+o.nb) from by omega];exact l2)
              · exact k3.append (by rw [p4,Nat.add_assoc];exact l3)
          · cases e2
        · cases hk
      · cases hk
    · cases e
  | a0,.ago o::ps,svs0,vs,d,fz,bx,cx,r,j,i,e,hd,hF=>by
    obtain ⟨cs,svs,rfl⟩:=matchArgs_ago e
    simp only [matchArgs] at e
    split at e
    · rename_i hnb
      have hnb:=Nat.eq_of_beq_eq_true hnb
      obtain ⟨⟨d1,r1,f1,b1,c1⟩,q1,q2,e1,e2,rfl⟩:=Q.run_bind _ _ _ e
      split at e2
      · rename_i hr1
        simp only at hr1
        subst hr1
        obtain ⟨⟨d2,f2,b2,c2⟩,q3,q4,e3,e4,rfl⟩:=Q.run_bind _ _ _ e2
        simp only [Q.run,Option.some.injEq,Prod.mk.injEq] at e4
        obtain ⟨⟨rfl,rfl,rfl,rfl⟩,rfl⟩:=e4
        simp only [DenL,Den] at hd
        obtain ⟨x,vr,rfl,⟨us,rfl,hdu⟩,hr⟩:=hd
        have hF1:∀ k,FrzBlk env f1 k->Ac k:=fun k ⟨n,x,l,hx,he⟩=>hF k ⟨n,x,l,List.mem_append_left _ hx,he⟩
        have hF2:∀ k,FrzBlk env f2 k->Ac k:=fun k ⟨n,x,l,hx,he⟩=>hF k ⟨n,x,l,List.mem_append_right _ hx,he⟩
        obtain ⟨p1,p2,p3,p4,us',rs',p5,p6,p7⟩:=oMatch_sound (envc:=envc) m hA a0 o cs us.toList d1 [] f1 b1 c1 q1 j i e1 hdu hF1
        simp only [DenL] at p6
        subst p6
        rw [List.append_nil] at p5
        subst p5
        have hb1:b1=[]:=List.eq_nil_of_length_eq_zero (by rw [p3,hnb])
        subst hb1
        obtain ⟨s1,s4,s6⟩:=matchArgs_sound m hA a0 ps svs vr d2 f2 b2 c2 q3 j (i+o.nc) e3 hr hF2
        refine ⟨fun n b hh => ?_,⟨p2,s4⟩,fun hj ha hb hc => ?_⟩
        · rcases List.mem_append.1 hh with hh|hh
          · exact p1 n b hh
          · exact s1 n b hh
        · obtain ⟨k1,k2,k3⟩:=p7 ha (fun k n hn=>by simp at hn)
            (fun k q hq=>hc k q (by rw [List.getElem?_append_left (List.getElem?_eq_some_iff.1 hq).1];exact hq))
          obtain ⟨l1,l2,l3⟩:=s6 hj ha hb
            (fun k q hq=>by
              have:=hc (o.nc+k) q (by rw [List.getElem?_append_right (by omega),p4,Nat.add_sub_cancel_left];exact hq)
              rwa [show i+(o.nc+k)=i+o.nc+k from by omega] at this)
          refine ⟨?_,l2,?_⟩
          · simp only [argsOf,DenL,Den]
            exact ⟨_,vr,rfl,⟨us,rfl,k1⟩,l1⟩
          · exact k3.append (by rw [p4,Nat.add_assoc];exact l3)
      · cases e2
    · cases e
  | a0,.own E t::ps,svs0,vs,d,fz,bx,cx,r,j,i,e,hd,hF=>by
    obtain ⟨v,svs,rfl⟩:=matchArgs_own e
    simp only [matchArgs] at e
    obtain ⟨⟨d1,r1,o1⟩,q1,q2,e1,e2,rfl⟩:=Q.run_bind _ _ _ e
    obtain ⟨⟨d2,f2,b2,c2⟩,q3,q4,e3,e4,rfl⟩:=Q.run_bind _ _ _ e2
    simp only [Q.run,Option.some.injEq,Prod.mk.injEq] at e4
    obtain ⟨⟨rfl,rfl,rfl,rfl⟩,rfl⟩:=e4
    simp only [DenL] at hd
    obtain ⟨x,vr,rfl,hx,hr⟩:=hd
    obtain ⟨p1,-,-,v',vr',p2,-,p3⟩:=takeRow_sound m hA e1 (vs:=[x]) (by simp only [DenL];exact ⟨x,[],rfl,hx,rfl⟩)
    cases p2
    obtain ⟨s1,s4,s6⟩:=matchArgs_sound m hA a0 ps svs vr d2 f2 b2 c2 q3 j (i+1) e3 hr hF
    refine ⟨s1,⟨p1,s4⟩,fun hj ha hb hc => ?_⟩
    obtain ⟨k1,k2⟩:=p3 envc (QN+i) (hc 0 _ rfl)
    obtain ⟨l1,l2,l3⟩:=s6 hj ha hb (fun k q hq=>by have:=hc (k+1) q (by simpa using hq);rwa [show i+(k+1)=i+1+k from by omega] at this)
    refine ⟨?_,l2,?_⟩
    · simp only [argsOf,DenL]
      exact ⟨x,vr,rfl,k1,l1⟩
    · exact ⟨k2.1,by rw [show QN+i+1=QN+(i+1) from by omega];exact l3⟩
  | a0,.row E t::ps,svs0,vs,d,fz,bx,cx,r,j,i,e,hd,hF=>by
    obtain ⟨n,sz,svs,rfl⟩:=matchArgs_row e
    simp only [matchArgs,Q.run] at e
    split at e
    · rename_i p0 q0 hk
      simp only [Option.some.injEq,Prod.mk.injEq] at e
      obtain ⟨rfl,rfl⟩:=e
      split at hk
      · rename_i E' t' xs hl
        split at hk
        · rename_i ys hE hsz hc
          have hE:=Nat.eq_of_beq_eq_true hE
          subst hE
          have hsz:=Nat.eq_of_beq_eq_true hsz
          subst hsz
          obtain ⟨et,ez⟩:=castL_eq hc
          subst et
          simp only at ez
          subst ez
          obtain ⟨⟨d2,f2,b2,c2⟩,q3,q4,e3,e4,rfl⟩:=Q.run_bind _ _ _ hk
          simp only [Q.run,Option.some.injEq,Prod.mk.injEq] at e4
          obtain ⟨⟨rfl,rfl,rfl,rfl⟩,rfl⟩:=e4
          simp only [DenL,Den] at hd
          obtain ⟨x,vr,rfl,hv,hr⟩:=hd
          obtain ⟨s1,s4,s6⟩:=matchArgs_sound m hA (or0 a0 n) ps svs vr d2 f2 b2 c2 q3 (j+1) i e3 hr hF
          obtain ⟨hw,hlk⟩:=row_link m hA hl
          refine ⟨s1,⟨hw,s4⟩,fun hj ha hb hc => ?_⟩
          have h0:=hb 0 n rfl
          rw [Nat.add_zero] at h0
          obtain ⟨l1,l2,l3⟩:=s6 (fun q=>(or0_ne q).elim) (fun n' hn=>by cases a0 with|some m=>exact ha n' hn|none=>cases hn;have e:=hj rfl;rw [e,Nat.add_zero] at h0;exact h0) (fun k n hn=>by have:=hb (k+1) n (by simpa using hn);rwa [show j+(k+1)=j+1+k from by omega] at this) hc
          refine ⟨?_,⟨(hlk envc (PN+j)).1,by rw [show PN+j+1=PN+(j+1) from by omega];exact l2⟩,l3⟩
          simp only [argsOf,DenL,Den]
          exact ⟨_,vr,rfl,by rw [h0];exact hv,l1⟩
        · cases hk
      · cases hk
    · cases e
  | a0,[],_::_,_,_,_,_,_,_,_,_,e,_,_=>by simp [matchArgs,Q.run] at e
  | _,.val _::_,[],_,_,_,_,_,_,_,_,e,_,_=>by simp [matchArgs,Q.run] at e
end
end Go.SX

/- SX, part 20: into a function and out of it. -/
namespace Go.SX
set_option linter.unusedVariables false
section
variable {w0:World} {N0:Old} {A Ac:Nat->Prop} {env:Env} {h:Heap} {w:World}
def nodupN:List Nat->Bool
  | []=>true
  | n::r => !memN n r&&nodupN r
theorem nodupN_iff:∀ {l:List Nat},nodupN l=true->l.Nodup
  | [],_=>List.nodup_nil
  | n::r,h=>by
    simp only [nodupN,Bool.and_eq_true,Bool.not_eq_true'] at h
    refine List.nodup_cons.2 ⟨fun hm => ?_,nodupN_iff h.2⟩
    rw [memN_iff.2 hm] at h;cases h.1
def somes:List (Option Nat)->List Nat
  | []=>[]
  | none::r=>somes r
  | some n::r=>n::somes r
theorem mem_somes {n:Nat}:∀ {l:List (Option Nat)},n∈somes l↔some n∈l
  | []=>by simp [somes]
  | none::r=>by simp [somes,mem_somes (l:=r)]
  | some m::r=>by simp [somes,mem_somes (l:=r)]
theorem somes_at {n:Nat}:∀ {l:List (Option Nat)} {i i':Nat},(somes l).Nodup->l[i]? = some (some n)->l[i']? = some (some n)->i=i'
  | [],i,i',_,h,_=>by simp at h
  | none::r,i,i',hn,h,h'=>by
    cases i with
    | zero=>simp at h
    | succ i=>cases i' with
      | zero=>simp at h'
      | succ i'=>have:=somes_at (i:=i) (i':=i') (l:=r) hn (by simpa using h) (by simpa using h');omega
  | some m::r,i,i',hn,h,h'=>by
    obtain ⟨h1,h2⟩:=List.nodup_cons.1 hn
    cases i with
    | zero =>
      simp at h;subst h
      cases i' with
      | zero=>rfl
      | succ i'=>exact absurd (mem_somes.2 (List.mem_of_getElem? (by simpa using h'))) h1
    | succ i=>cases i' with
      | zero=>simp at h';subst h';exact absurd (mem_somes.2 (List.mem_of_getElem? (by simpa using h))) h1
      | succ i'=>have:=somes_at (i:=i) (i':=i') (l:=r) h2 (by simpa using h) (by simpa using h');omega
def srcN (bx:List Nat) (cx:List (Option Nat)) (n:Nat):Option (Option Nat):=match Nat.ble QN n with
  | true=>cx[n-QN]?
  | false=>match Nat.ble PN n with
    | true=>match bx[n-PN]? with
      | some m=>some (some m)
      | none=>none
    | false=>none
def callEnv (env:Env) (bx:List Nat) (cx:List (Option Nat)):Env:=fun n=>match srcN bx cx n with
  | some o=>evOf env o
  | none => .un
theorem srcN_bx {bx:List Nat} {cx:List (Option Nat)} {i n:Nat} (hl:bx.length<=PN) (hi:bx[i]? = some n):srcN bx cx (PN+i)=some (some n):=by
  have hlt:=(List.getElem?_eq_some_iff.1 hi).1
  have h2:QN=PN+PN:=rfl
  unfold srcN
  have h1:Nat.ble QN (PN+i)=false:=by
    cases hb:Nat.ble QN (PN+i) with
    | false=>rfl
    | true=>have:=Nat.le_of_ble_eq_true hb;omega
  rw [h1,Nat.ble_eq_true_of_le (by omega)]
  simp only [Nat.add_sub_cancel_left,hi]
theorem srcN_cx {bx:List Nat} {cx:List (Option Nat)} {i:Nat} {o:Option Nat} (hi:cx[i]? = some o):srcN bx cx (QN+i)=some o:=by
  unfold srcN
  rw [Nat.ble_eq_true_of_le (by omega)]
  simp only [Nat.add_sub_cancel_left,hi]
theorem srcN_inv {bx:List Nat} {cx:List (Option Nat)} {n:Nat} {o:Option Nat} (e:srcN bx cx n=some o):(∃ i m,bx[i]? = some m/\n=PN+i/\n<QN/\o=some m)∨∃ i,cx[i]? = some o/\n=QN+i:=by
  unfold srcN at e
  split at e
  · rename_i hb
    have:=Nat.le_of_ble_eq_true hb
    exact .inr ⟨n-QN,e,by omega⟩
  · rename_i hb
    have hlt:n<QN:=by
      refine Nat.lt_of_not_le fun hle => ?_
      rw [Nat.ble_eq_true_of_le hle] at hb;cases hb
    split at e
    · rename_i hb
      have:=Nat.le_of_ble_eq_true hb
      split at e
      · rename_i m hm;cases e;exact .inl ⟨n-PN,m,hm,by omega,hlt,rfl⟩
      · cases e
    · cases e
theorem callEnv_bx {bx:List Nat} {cx:List (Option Nat)} {i n:Nat} (hl:bx.length<=PN) (hi:bx[i]? = some n):callEnv env bx cx (PN+i)=env n:=by
  unfold callEnv;rw [srcN_bx hl hi];rfl
theorem callEnv_cx {bx:List Nat} {cx:List (Option Nat)} {i:Nat} {o:Option Nat} (hi:cx[i]? = some o):callEnv env bx cx (QN+i)=evOf env o:=by
  unfold callEnv;rw [srcN_cx hi]
def boxBlk (env:Env) (bx:List Nat) (k:Nat):Prop:=∃ n l,n∈bx/\env n = .blk k l
theorem lookN_app {a b:List (Nat×Nm)} {n:Nat}:lookN (a++b) n=if n∈a.map (·.1) then lookN a n else lookN b n:=by
  induction a with
  | nil=>simp
  | cons p a ih =>
    obtain ⟨m,x⟩:=p
    simp only [List.cons_append,lookN,List.map_cons,List.mem_cons]
    cases hb:Nat.beq n m with
    | true=>have:=Nat.eq_of_beq_eq_true hb;simp [this]
    | false =>
      have hne:¬ n=m:=fun e=>by rw [e,Nat.beq_refl] at hb;cases hb
      simp only [hne,false_or,ih]
theorem call_names {A':Nat->Prop} {e':Env} {bx:List Nat} {cx:List (Option Nat)} {lb lc:List (Nat×Nm)} (hl:bx.length<=PN) (hb:LinkOK A' env h e' w (bx.map some) lb PN) (hc:LinkOK A' env h e' w cx lc QN) :
    (∀ n o,srcN bx cx n=some o→∃ b',lookN (lb++lc) n = .live b'∧b'.mut=true/\((∃ q b,o=some q/\h q = .live b/\b.mut=true/\(∀ k len,env q = .blk k len->BlkDen A' e' w k len b')/\(env q = .nil→∃ E t,b' = .row E t []))∨(o=none∧∃ E t,b' = .row E t []))) ∧
    (∀ n,srcN bx cx n=none->lookN (lb++lc) n = .un):=by
  obtain ⟨hbl,hbg⟩:=hb.get
  obtain ⟨hcl,hcg⟩:=hc.get
  have kb:∀ n,n∈lb.map (·.1)→∃ i,i<bx.length/\n=PN+i:=fun n hn=>by
    obtain ⟨⟨n',x⟩,hx,rfl⟩:=List.mem_map.1 hn
    obtain ⟨i,o,h1,h2⟩:=hb.keys _ _ hx
    exact ⟨i,by have:=(List.getElem?_eq_some_iff.1 h2).1;simpa using this,h1⟩
  have kc:∀ n,n∈lc.map (·.1)→∃ i o,cx[i]? = some o/\n=QN+i:=fun n hn=>by
    obtain ⟨⟨n',x⟩,hx,rfl⟩:=List.mem_map.1 hn
    obtain ⟨i,o,h1,h2⟩:=hc.keys _ _ hx
    exact ⟨i,o,h2,h1⟩
  have h2:QN=PN+PN:=rfl
  refine ⟨fun n o e => ?_,fun n e => ?_⟩
  · rcases srcN_inv e with ⟨i,m,hi,rfl,hlt,rfl⟩|⟨i,hi,rfl⟩
    · obtain ⟨b',g1,g2,g3⟩:=hbg i (some m) (by simp [hi])
      refine ⟨b',?_,g3⟩
      rw [lookN_app,if_pos (List.mem_map_of_mem (f:=(·.1)) g2)];exact g1
    · obtain ⟨b',g1,g2,g3⟩:=hcg i o hi
      refine ⟨b',?_,g3⟩
      rw [lookN_app,if_neg]
      · exact g1
      · intro hmem
        obtain ⟨i',hi',e'⟩:=kb _ hmem
        omega
  · rw [lookN_app,if_neg]
    · refine lookN_none fun hmem => ?_
      obtain ⟨i,o,hi,rfl⟩:=kc n hmem
      rw [srcN_cx hi] at e;cases e
    · intro hmem
      obtain ⟨i,hi,rfl⟩:=kb n hmem
      rw [srcN_bx hl (List.getElem?_eq_getElem hi)] at e;cases e
theorem Mod.call (m:Mod w0 N0 A env h w) {lb lc:List (Nat×Nm)} {fz:List (Nat×Nm)} {bx:List Nat} {cx:List (Option Nat)} (hfz:FrzOk h fz) (hl:bx.length<=PN)
    (hb:LinkOK (frzA A env fz) env h (callEnv env bx cx) w (bx.map some) lb PN) (hc:LinkOK (frzA A env fz) env h (callEnv env bx cx) w cx lc QN)
    (hdj:∀ n,n∈bx++somes cx->n ∉ fz.map (·.1)) (hnd:(bx++somes cx).Nodup) :
    Mod w ⟨boxBlk env (bx++somes cx),frzA A env fz,N0.g⟩ (frzA A env fz) (callEnv env bx cx) (lookN (lb++lc)) w:=by
  obtain ⟨hg,hgn⟩:=call_names hl hb hc
  have mf:=(m.freeze hfz).1
  have memS:∀ {n o q},srcN bx cx n=some o->o=some q->q∈bx++somes cx:=fun {n o q} e eo=>by
    subst eo
    rcases srcN_inv e with ⟨i,m,hi,_,_,e⟩|⟨i,hi,_⟩
    · cases e;exact List.mem_append_left _ (List.mem_of_getElem? hi)
    · exact List.mem_append_right _ (mem_somes.2 (List.mem_of_getElem? hi))
  have inj:∀ {n n' q},srcN bx cx n=some (some q)->srcN bx cx n'=some (some q)->n=n':=fun {n n' q} e e'=>by
    obtain ⟨hn1,hn2,hn3⟩:=List.nodup_append.1 hnd
    rcases srcN_inv e with ⟨i,m,hi,rfl,_,em⟩|⟨i,hi,rfl⟩ <;> rcases srcN_inv e' with ⟨i',m',hi',rfl,_,em'⟩|⟨i',hi',rfl⟩
    · cases em;cases em'
      have:=(List.getElem?_inj (List.getElem?_eq_some_iff.1 hi).1 hn1).1 (hi.trans hi'.symm)
      rw [this]
    · cases em
      exact absurd rfl (hn3 _ (List.mem_of_getElem? hi) _ (mem_somes.2 (List.mem_of_getElem? hi')))
    · cases em'
      exact absurd rfl (hn3 _ (List.mem_of_getElem? hi') _ (mem_somes.2 (List.mem_of_getElem? hi)))
    · rw [somes_at hn2 hi hi']
  have blk:∀ {n k l},callEnv env bx cx n = .blk k l→∃ q,srcN bx cx n=some (some q)/\env q = .blk k l:=fun {n k l} he=>by
    unfold callEnv at he
    split at he
    · rename_i o ho
      cases o with
      | none=>cases he
      | some q=>exact ⟨q,ho,he⟩
    · cases he
  refine ⟨rfl,rfl,rfl,Nat.le_refl _,fun _ _ _=>rfl,mf.Alt,?_,?_,?_,fun b hb => .inl hb,mf.gl⟩
  · intro n
    cases hs:srcN bx cx n with
    | none =>
      rw [hgn n hs]
      show callEnv env bx cx n = .un
      unfold callEnv;rw [hs]
    | some o =>
      obtain ⟨b',g1,g4,g5⟩:=hg n o hs
      rw [g1]
      have he:callEnv env bx cx n=evOf env o:=by unfold callEnv;rw [hs]
      rcases g5 with ⟨q,b,rfl,g2,g3,g5,g6⟩|⟨rfl,E,t,e2⟩
      · have hm:=m.nm q
        rw [g2] at hm
        rcases hm with ⟨kk,len,e1,_⟩|⟨e1,_⟩
        · refine .inl ⟨kk,len,by rw [he];exact e1,g5 _ _ e1,fun _ hA => ?_⟩
          rcases hA with hA|⟨n',x',l',hx,he'⟩
          · exact (m.live_blk g2 e1).2 g3 hA
          · obtain ⟨E,t,xs,hl',_⟩:=hfz n' x' hx
            have:=m.inj q n' b _ kk len l' g2 hl' g3 rfl e1 he'
            subst this
            exact hdj q (memS hs rfl) (List.mem_map_of_mem (f:=(·.1)) hx)
        · obtain ⟨E,t,e⟩:=g6 e1
          exact .inr ⟨by rw [he];exact e1,E,t,.inl e⟩
      · exact .inr ⟨by rw [he];rfl,E,t,.inl e2⟩
  · intro n b k l hl hm he
    obtain ⟨q,hs,e2⟩:=blk he
    exact .inl ⟨q,l,memS hs rfl,e2⟩
  · intro n n' b c k l l' hl hl' hm hm' he he'
    obtain ⟨q,hs,e1⟩:=blk he
    obtain ⟨q',hs',e2⟩:=blk he'
    obtain ⟨b1,_,_,⟨q1,c1,e,g2,g3,_⟩|⟨e,_⟩⟩:=hg n _ hs
    · obtain ⟨b2,_,_,⟨q2,c2,e',f2,f3,_⟩|⟨e',_⟩⟩:=hg n' _ hs'
      · cases e;cases e'
        have:=m.inj q q' c1 c2 k l l' g2 f2 g3 f3 e1 e2
        subst this
        exact inj hs hs'
      · cases e'
    · cases e
def retEnv (R:Rn) (env env1:Env):Env:=fun n=>match lookR R n with
  | none=>env n
  | some _=>renEnv R env1 n
theorem Mod.retn {As A' A1:Nat->Prop} {env1:Env} {hs h1:Heap} {w1:World} {Nc:Old} {U:List (Nat×Nm)} {R:Rn}
    (ms:Mod w0 N0 As env hs w) (m1:Mod w Nc A1 env1 h1 w1) (hshape:∀ b s,w.shape? b=some s->w1.shape? b=some s)
    (hU:∀ n x,(n,x)∈U->x = .dead∨∃ b,x = .live b/\b.mut=true/\((∃ m b0,lookR R n=some (some m)/\h1 m = .live b0/\b0.mut=true ∧
      (∀ k len,env1 m = .blk k len->BlkDen A' (retEnv R env env1) w1 k len b)/\(env1 m = .nil→∃ E t,b = .row E t []))∨(lookR R n=some none∧∃ E t,b = .row E t [])))
    (hdom:∀ n,lookR R n≠none->n∈U.map (·.1)) (hinj:InjR R)
    (hold:∀ n,lookR R n≠none->hs n = .un∨∃ b,hs n = .live b/\b.mut=true/\(renEnv R env1 n=env n))
    (hNc:∀ k,Nc.n k→∃ n b l,n∈U.map (·.1)/\hs n = .live b/\b.mut=true/\env n = .blk k l)
    (hA:∀ b,As b->A' b) (hA1:∀ b,A' b->As b∨((Nc.n b∨w.heap.size<=b)/\b<w1.heap.size))
    (hAm:∀ m b k l,h1 m = .live b->b.mut=true->env1 m = .blk k l->(∃ n,lookR R n=some (some m))→¬ A' k) :
    Mod w0 N0 A' (retEnv R env env1) (setAll U hs) w1/\Ext As env w A' (retEnv R env env1) w1:=by
  have src:∀ k,(Nc.n k∨w.heap.size<=k)->Src (fun n=>n∈U.map (·.1)) env hs w k:=fun k hk=>by
    rcases hk with hk|hk
    · obtain ⟨n,b,l,e1,e2,e3,e4⟩:=hNc k hk
      exact .inr ⟨n,b,l,e1,e2,e3,e4⟩
    · exact .inl hk
  have mem:∀ n,n∈U.map (·.1)->(n,setAll U hs n)∈U:=fun n hn=>by
    have hl:∀ (V:List (Nat×Nm)) ,n∈V.map (·.1)->(n,setAll V hs n)∈V:=by
      intro V
      induction V with
      | nil=>intro h;simp at h
      | cons p V ih =>
        obtain ⟨q,y⟩:=p
        intro h
        by_cases hq:n=q
        · subst hq;simp [setAll]
        · rw [setAll,Heap.set_other _ _ hq]
          rcases List.mem_cons.1 h with e|h
          · exact absurd e hq
          · exact List.mem_cons_of_mem _ (ih h)
    exact hl U hn
  have envR:∀ n y,lookR R n=some y->retEnv R env env1 n=renEnv R env1 n:=fun n y hn=>by
    unfold retEnv;rw [hn]
  have u:Upd (fun n=>n∈U.map (·.1)) Nc.n As env hs w A' (retEnv R env env1) (setAll U hs) w1:=by
    refine ⟨⟨m1.os,m1.tape,m1.output,m1.size,m1.fr,hshape⟩,?_,hA,?_,?_,?_,fun n hn=>setAll_other hn,?_,?_,?_⟩
    · intro k hk
      obtain ⟨n,b,l,e1,e2,e3,e4⟩:=hNc k hk
      exact ⟨n,b,l,e1,e2,e3,e4⟩
    · intro b hb
      rcases hA1 b hb with h|⟨h,h'⟩
      · exact .inl h
      · exact .inr ⟨src b h,h'⟩
    · intro n hn
      unfold retEnv
      cases hl:lookR R n with
      | none=>rfl
      | some y=>exact absurd (hdom n (by rw [hl];simp)) hn
    · intro n hn
      unfold retEnv
      cases hl:lookR R n with
      | none=>rfl
      | some y =>
        rcases hold n (by rw [hl];simp) with h|⟨b,_,_,h⟩
        · exact absurd (by have:=ms.nm n;rw [h] at this;exact this) hn
        · exact h
    · intro n hn
      have hmem:=mem n hn
      rcases hU n _ hmem with e|⟨b,e,hmut,hh⟩
      · rw [e];trivial
      · rw [e]
        rcases hh with ⟨m',b0,e1,e2,e3,e4,e5⟩|⟨e1,E,t,e2⟩
        · have he:retEnv R env env1 n=env1 m':=by rw [envR n _ e1,renEnv_some e1]
          have hm':=m1.nm m'
          rw [e2] at hm'
          rcases hm' with ⟨k,len,he',_,_⟩|⟨he',_⟩
          · exact .inl ⟨k,len,he.trans he',e4 k len he',fun _=>hAm m' b0 k len e2 e3 he' ⟨n,e1⟩⟩
          · obtain ⟨E,t,e⟩:=e5 he'
            exact .inr ⟨he.trans he',E,t,.inl e⟩
        · exact .inr ⟨by rw [envR n _ e1,renEnv_nil e1],E,t,.inl e2⟩
    · intro n b k l hn hl hm he
      have hmem:=mem n hn
      rw [hl] at hmem
      rcases hU n _ hmem with e|⟨b',e,hmut,hh⟩
      · cases e
      · rcases hh with ⟨m',b0,e1,e2,e3,_⟩|⟨e1,_⟩
        · rw [envR n _ e1,renEnv_some e1] at he
          exact src k (m1.own m' b0 k l e2 e3 he)
        · rw [envR n _ e1,renEnv_nil e1] at he;cases he
    · intro n n' b c k l l' hn hn' hl hl' hm hm' he he'
      have hmem1:=mem n hn
      have hmem2:=mem n' hn'
      rw [hl] at hmem1
      rw [hl'] at hmem2
      rcases hU n _ hmem1 with e|⟨_,_,_,hh1⟩
      · cases e
      rcases hU n' _ hmem2 with e|⟨_,_,_,hh2⟩
      · cases e
      rcases hh1 with ⟨m',b0,e1,e2,e3,_⟩|⟨e1,_⟩
      · rw [envR n _ e1,renEnv_some e1] at he
        rcases hh2 with ⟨m2,c0,f1,f2,f3,_⟩|⟨f1,_⟩
        · rw [envR n' _ f1,renEnv_some f1] at he'
          have:=m1.inj m' m2 b0 c0 k l l' e2 f2 e3 f3 he he'
          subst this
          exact hinj n n' m' e1 f1
        · rw [envR n' _ f1,renEnv_nil f1] at he';cases he'
      · rw [envR n _ e1,renEnv_nil e1] at he;cases he
  exact ⟨ms.upd u,ms.ext u⟩
end
end Go.SX

/- SX, part 21: a function's contract, off its symbolic run. -/
namespace Go.SX
set_option linter.unusedVariables false
def CT.plain:CT->Bool
  | .sl _=>false
  | .pair a b=>a.plain&&b.plain
  | _=>true
theorem Rd_plain {A A':Nat->Prop} {w w':World}:∀ {t:CT} {cv:Nat->Option Value} {o:Nat} {d:t.D},t.plain=true->Rd A w t cv o d->Rd A' w' t cv o d
  | .int k,cv,o,d,_,h=>h
  | .bool,cv,o,d,_,h=>h
  | .str,cv,o,d,_,h=>h
  | .sl t,cv,o,d,hp,_=>by cases hp
  | .pair a b,cv,o,d,hp,h=>by
    simp only [CT.plain,Bool.and_eq_true] at hp
    exact ⟨Rd_plain hp.1 h.1,Rd_plain hp.2 h.2⟩
theorem Rd_lift {A A':Nat->Prop} {w:World} {t:CT} {cv:Nat->Option Value} {o:Nat} {d:t.D} (L:t.plain=true∨∀ b,A b->A' b) (h:Rd A w t cv o d):Rd A' w t cv o d:=by
  rcases L with L|L
  · exact Rd_plain L h
  · exact Rd_mono L (fun _ _ _=>rfl) t _ _ _ _ (fun _ _=>rfl) h
inductive RK where
  | val (t:CT)
  | agg (o:OT)
  | own (E:TypeId) (t:CT)
  | box (E:TypeId) (o:OT)
  | fn (f:FuncId) (k:Nat)
@[reducible] def RK.D:RK->Type
  | .val t=>t.D
  | .agg o=>o.X
  | .own _ t=>List t.D
  | .box _ o=>o.X
  | .fn _ _=>Unit
@[reducible] def RDs:List RK->Type
  | []=>Unit
  | p::r=>p.D×RDs r
@[reducible] def BDs:List PK->Type
  | []=>Unit
  | .val _::r=>BDs r
  | .agg _::r=>BDs r
  | .own _ _::r=>BDs r
  | .ago _::r=>BDs r
  | .fn _ _::r=>BDs r
  | .nils::r=>BDs r
  | .box _ o::r=>o.X×BDs r
  | .row _ t::r=>List t.D×BDs r
def OT.plain:OT->Bool
  | .dat t=>t.plain
  | .row _ t=>t.plain
  | .rowg _ _=>true
  | .fnc _=>true
  | .ali=>true
  | .ref _ o=>o.plain
  | .pair a b=>a.plain&&b.plain
def rsPlain:List RK->Bool
  | []=>true
  | .val t::r=>t.plain&&rsPlain r
  | .agg o::r=>o.plain&&rsPlain r
  | .own _ t::r=>t.plain&&rsPlain r
  | .box _ o::r=>o.plain&&rsPlain r
  | .fn _ _::r=>rsPlain r
def psPlain:List PK->Bool
  | []=>true
  | .val _::r=>psPlain r
  | .agg _::r=>psPlain r
  | .own _ _::r=>psPlain r
  | .ago _::r=>psPlain r
  | .fn _ _::r=>psPlain r
  | .nils::r=>psPlain r
  | .box _ o::r=>o.plain&&psPlain r
  | .row _ t::r=>t.plain&&psPlain r
structure Ct where
  ps:List PK
  rs:List RK
  pre:PDs ps->List Prop
  out:PDs ps->RDs rs×BDs ps
def takeRowH (E:TypeId) (t:CT) (h:Heap):List SV->Option (List t.D×List SV×Option Nat)
  | .own m sz::r=>match h m with
    | .live (.row E' t' xs)=>match Nat.beq E E',Nat.beq sz t.size,castL t' t xs with
      | true,true,some ys=>some (ys,r,some m)
      | _,_,_=>none
    | _=>none
  | .nilsl::r=>some ([],r,none)
  | _=>none
def oOut (h:Heap) (al:Bool):(o:OT)->Option Nat->List SV->Option (o.X×List SV×List (Nat×Nm)×List (Option Nat))
  | .dat t,_,cs=>match (projC t cs).run h with
    | some ((x,r,fz),_)=>some (x,r,fz,[])
    | none=>none
  | .row E t,_,cs=>match takeRowH E t h cs with
    | some (ys,r,o)=>some (ys,r,[],[o])
    | none=>none
  | .rowg _ _,_,_::r=>some ((),r,[],[])
  | .rowg _ _,_,[]=>none
  | .fnc f,_,.fn g []::r=>match Nat.beq f g with
    | true=>some ((),r,[],[])
    | false=>none
  | .fnc _,_,_=>none
  | .ali,_,.ptr m 0::r=>match al,Nat.beq m PN with
    | true,true=>some ((),r,[],[])
    | _,_=>none
  | .ali,_,_=>none
  | .ref E o,some j,.ptr m 0::r=>match Nat.beq m (PN+j),h m with
    | true,.live (.cells E' cs)=>match Nat.beq E E',oOut h al o (some (j+1)) cs with
      | true,some (x,[],fz,ow)=>some (x,r,fz,ow)
      | _,_=>none
    | _,_=>none
  | .ref _ _,_,_=>none
  | .pair a b,j,cs=>match oOut h al a j cs with
    | some (x,r,f,w)=>match oOut h al b (j.map (· + a.nb)) r with
      | some (y,r',f',w')=>some ((x,y),r',f++f',w++w')
      | none=>none
    | none=>none
def outR (al:Bool):(rs:List RK)->List SV->Heap->Option (RDs rs×List (Nat×Nm)×List (Option Nat))
  | [],[],_=>some ((),[],[])
  | .val t::rs,v::vs,h=>match (projC t [v]).run h with
    | some ((x,[],fz),_)=>match outR al rs vs h with
      | some (y,f,o)=>some ((x,y),fz++f,o)
      | none=>none
    | _=>none
  | .agg t::rs,.agg cs::vs,h=>match oOut h al t none cs with
    | some (x,[],fz,w)=>match outR al rs vs h with
      | some (y,f,o)=>some ((x,y),fz++f,w++o)
      | none=>none
    | _=>none
  | .own E t::rs,v::vs,h=>match takeRowH E t h [v] with
    | some (x,_,w)=>match outR al rs vs h with
      | some (y,f,o)=>some ((x,y),f,w::o)
      | none=>none
    | none=>none
  | .box E t::rs,.ptr m 0::vs,h=>match h m with
    | .live (.cells E' cs)=>match Nat.beq E E',oOut h al t none cs with
      | true,some (x,[],fz,w)=>match outR al rs vs h with
        | some (y,f,o)=>some ((x,y),fz++f,some m::(w++o))
        | none=>none
      | _,_=>none
    | _=>none
  | .fn f k::rs,.fn g cs::vs,h=>match Nat.beq f g,Nat.beq cs.length k with
    | true,true=>match outR al rs (cs++vs) h with
      | some (y,f',o)=>some (((),y),f',o)
      | none=>none
    | _,_=>none
  | _,_,_=>none
def outB:(ps:List PK)->Nat->Heap->Option (BDs ps×List (Nat×Nm)×List (Option Nat))
  | [],_,_=>some ((),[],[])
  | .val _::ps,j,h=>outB ps j h
  | .agg _::ps,j,h=>outB ps j h
  | .own _ _::ps,j,h=>outB ps j h
  | .ago _::ps,j,h=>outB ps j h
  | .fn _ _::ps,j,h=>outB ps j h
  | .nils::ps,j,h=>outB ps j h
  | .box E t::ps,j,h=>match h (PN+j) with
    | .live (.cells E' cs)=>match Nat.beq E E',oOut h true t (some (j+1)) cs with
      | true,some (x,[],fz,w)=>match outB ps (j+1+t.nb) h with
        | some (y,f,o)=>some ((x,y),fz++f,w++o)
        | none=>none
      | _,_=>none
    | _=>none
  | .row E t::ps,j,h=>match h (PN+j) with
    | .live (.row E' t' xs)=>match Nat.beq E E',castL t' t xs with
      | true,some ys=>match outB ps (j+1) h with
        | some (y,f,o)=>some ((ys,y),f,o)
        | none=>none
      | _,_=>none
    | _=>none
def memO (n:Nat):List (Option Nat)->Bool
  | []=>false
  | some m::r=>Nat.beq n m||memO n r
  | none::r=>memO n r
def ownOk (fz:List (Nat×Nm)):List (Option Nat)->Bool
  | []=>true
  | none::r=>ownOk fz r
  | some m::r=>(Nat.blt m PN||Nat.ble QN m)&&notIn m fz && !memO m r&&ownOk fz r
def allLt:List (Nat×Nm)->Bool
  | []=>true
  | (n,_)::r=>(Nat.blt n PN||Nat.ble QN n)&&allLt r
def xCells (b0:Nat):(o:OT)->o.X->List Nat->Nat->List SV
  | .dat t,x,_,_=>flat t x
  | .row _ t,_,_,n=>[.own n t.size]
  | .rowg _ _,_,_,_=>[.junk]
  | .fnc f,_,_,_=>[.fn f []]
  | .ali,_,_,_=>[.ptr b0 0]
  | .ref _ _,_,bx,_=>match bx with
    | q::_=>[.ptr q 0]
    | []=>[.junk]
  | .pair a b,x,bx,n=>xCells b0 a x.1 bx n++xCells b0 b x.2 (bx.drop a.nb) (n+a.nr)
def xBox (b0:Nat):(o:OT)->o.X->List Nat->Nat->List (Nat×Nm)
  | .dat _,_,_,_=>[]
  | .row _ _,_,_,_=>[]
  | .rowg _ _,_,_,_=>[]
  | .fnc _,_,_,_=>[]
  | .ali,_,_,_=>[]
  | .ref E o,x,bx,n=>match bx with
    | q::r=>(q,.live (.cells E (xCells b0 o x r n)))::xBox b0 o x r n
    | []=>[]
  | .pair a b,x,bx,n=>xBox b0 a x.1 bx n++xBox b0 b x.2 (bx.drop a.nb) (n+a.nr)
def xNew:(o:OT)->o.X->Nat->List (Nat×Nm)
  | .dat _,_,_=>[]
  | .row E t,x,n=>[(n,.live (.row E t x))]
  | .rowg _ _,_,_=>[]
  | .fnc _,_,_=>[]
  | .ali,_,_=>[]
  | .ref _ o,x,n=>xNew o x n
  | .pair a b,x,n=>xNew a x.1 n++xNew b x.2 (n+a.nr)
def resSV (b0:Nat):(rs:List RK)->RDs rs->Nat->List SV
  | [],_,_=>[]
  | .val t::rs,d,n=>val1 t d.1::resSV b0 rs d.2 n
  | .agg o::rs,d,n => .agg (xCells b0 o d.1 [] n)::resSV b0 rs d.2 (n+o.nr)
  | .own E t::rs,d,n => .own n t.size::resSV b0 rs d.2 (n+1)
  | .box E o::rs,d,n => .ptr n 0::resSV b0 rs d.2 (n+1+o.nr)
  | .fn f k::rs,d,n => .fn f ((resSV b0 rs d.2 n).take k)::(resSV b0 rs d.2 n).drop k
def resH (b0:Nat):(rs:List RK)->RDs rs->Nat->List (Nat×Nm)
  | [],_,_=>[]
  | .val t::rs,d,n=>resH b0 rs d.2 n
  | .agg o::rs,d,n=>xNew o d.1 n++resH b0 rs d.2 (n+o.nr)
  | .own E t::rs,d,n=>(n,.live (.row E t d.1))::resH b0 rs d.2 (n+1)
  | .box E o::rs,d,n=>(n,.live (.cells E (xCells b0 o d.1 [] (n+1))))::(xNew o d.1 (n+1)++resH b0 rs d.2 (n+1+o.nr))
  | .fn _ _::rs,d,n=>resH b0 rs d.2 n
def nOwn:List RK->Nat
  | []=>0
  | .own _ _::r=>nOwn r+1
  | .box _ o::r=>nOwn r+o.nr+1
  | .val _::r=>nOwn r
  | .agg o::r=>nOwn r+o.nr
  | .fn _ _::r=>nOwn r
def nOwnB:List PK->Nat
  | []=>0
  | .val _::r=>nOwnB r
  | .agg _::r=>nOwnB r
  | .own _ _::r=>nOwnB r
  | .ago _::r=>nOwnB r
  | .fn _ _::r=>nOwnB r
  | .nils::r=>nOwnB r
  | .box _ o::r=>nOwnB r+o.nr
  | .row _ _::r=>nOwnB r
def boxU (b0:Nat):(ps:List PK)->BDs ps->List Nat->Nat->List (Nat×Nm)
  | .val _::ps,d,bx,nb=>boxU b0 ps d bx nb
  | .agg _::ps,d,bx,nb=>boxU b0 ps d bx nb
  | .own _ _::ps,d,bx,nb=>boxU b0 ps d bx nb
  | .ago _::ps,d,bx,nb=>boxU b0 ps d bx nb
  | .fn _ _::ps,d,bx,nb=>boxU b0 ps d bx nb
  | .nils::ps,d,bx,nb=>boxU b0 ps d bx nb
  | .box E o::ps,d,n::bx,nb=>(n,.live (.cells E (xCells b0 o d.1 bx nb)))::(xBox b0 o d.1 bx nb++boxU b0 ps d.2 (bx.drop o.nb) (nb+o.nr))
  | .row E t::ps,d,n::bx,nb=>(n,.live (.row E t d.1))::boxU b0 ps d.2 bx nb
  | _,_,_,_=>[]
def newU:(ps:List PK)->BDs ps->Nat->List (Nat×Nm)
  | [],_,_=>[]
  | .val _::ps,d,nb=>newU ps d nb
  | .agg _::ps,d,nb=>newU ps d nb
  | .own _ _::ps,d,nb=>newU ps d nb
  | .ago _::ps,d,nb=>newU ps d nb
  | .fn _ _::ps,d,nb=>newU ps d nb
  | .nils::ps,d,nb=>newU ps d nb
  | .box E o::ps,d,nb=>xNew o d.1 nb++newU ps d.2 (nb+o.nr)
  | .row E t::ps,d,nb=>newU ps d.2 nb
def deadU:List (Option Nat)->List (Nat×Nm)
  | []=>[]
  | none::r=>deadU r
  | some n::r=>(n,.dead)::deadU r
def resV:List SV->SV
  | [v]=>v
  | l => .tup l
def disjN (fz:List (Nat×Nm)):List Nat->Bool
  | []=>true
  | n::r=>notIn n fz&&disjN fz r
def askUn:Nat->Nat->Dl->Q Dl
  | _,0,d => .ret d
  | n,k+1,d => .ask n fun
    | .un=>askUn (n+1) k d
    | _ => .fail
def keepF (ps:List PK) (rs:List RK):Bool := !(rsPlain rs&&psPlain ps)
def retU (ps:List PK) (rs:List RK) (y:RDs rs×BDs ps) (base:Nat) (fz:List (Nat×Nm)) (bx:List Nat) (cx:List (Option Nat)):List (Nat×Nm) :=
  (boxU (bx.headD 0) ps y.2 bx (base+nOwn rs)++(resH (bx.headD 0) rs y.1 base++(newU ps y.2 (base+nOwn rs)++deadU cx)))++(match keepF ps rs with|true=>fz|false=>[])
def namesOk (fz:List (Nat×Nm)) (bx:List Nat) (cx:List (Option Nat)):Bool:=nodupN (bx++somes cx)&&disjN fz (bx++somes cx)&&Nat.ble bx.length PN
def Ct.spec (c:Ct):Spec:=fun base svs=>(matchArgs none c.ps svs).bind fun p=>match namesOk p.2.1 p.2.2.1 p.2.2.2 with
  | true=>askUn base (nOwn c.rs+nOwnB c.ps) (.det (c.pre p.1) (resV (resSV (p.2.2.1.headD 0) c.rs (c.out p.1).1 base)) (retU c.ps c.rs (c.out p.1) base p.2.1 p.2.2.1 p.2.2.2))
  | false => .fail
structure Cn where
  ps:List PK
  rs:List RK
  pre:PDs ps->List Prop
  post:PDs ps->RDs rs×BDs ps->Prop
  inh:∀ d,conj (pre d)→∃ y,post d y
def xBoxF {X:Type} (b0:Nat):(o:OT)->(X->o.X)->List Nat->Nat->List (Nat×(X->Nm))
  | .dat _,_,_,_=>[]
  | .row _ _,_,_,_=>[]
  | .rowg _ _,_,_,_=>[]
  | .fnc _,_,_,_=>[]
  | .ali,_,_,_=>[]
  | .ref E o,x,bx,n=>match bx with
    | q::r=>(q,fun y => .live (.cells E (xCells b0 o (x y) r n)))::xBoxF b0 o x r n
    | []=>[]
  | .pair a b,x,bx,n=>xBoxF b0 a (fun y=>(x y).1) bx n++xBoxF b0 b (fun y=>(x y).2) (bx.drop a.nb) (n+a.nr)
def xNewF {X:Type}:(o:OT)->(X->o.X)->Nat->List (Nat×(X->Nm))
  | .dat _,_,_=>[]
  | .row E t,x,n=>[(n,fun y => .live (.row E t (x y)))]
  | .rowg _ _,_,_=>[]
  | .fnc _,_,_=>[]
  | .ali,_,_=>[]
  | .ref _ o,x,n=>xNewF o x n
  | .pair a b,x,n=>xNewF a (fun y=>(x y).1) n++xNewF b (fun y=>(x y).2) (n+a.nr)
def boxUF {X:Type} (b0:Nat):(ps:List PK)->(X->BDs ps)->List Nat->Nat->List (Nat×(X->Nm))
  | .val _::ps,d,bx,nb=>boxUF b0 ps d bx nb
  | .agg _::ps,d,bx,nb=>boxUF b0 ps d bx nb
  | .own _ _::ps,d,bx,nb=>boxUF b0 ps d bx nb
  | .ago _::ps,d,bx,nb=>boxUF b0 ps d bx nb
  | .fn _ _::ps,d,bx,nb=>boxUF b0 ps d bx nb
  | .nils::ps,d,bx,nb=>boxUF b0 ps d bx nb
  | .box E o::ps,d,n::bx,nb=>(n,fun x => .live (.cells E (xCells b0 o (d x).1 bx nb)))::(xBoxF b0 o (fun x=>(d x).1) bx nb++boxUF b0 ps (fun x=>(d x).2) (bx.drop o.nb) (nb+o.nr))
  | .row E t::ps,d,n::bx,nb=>(n,fun x => .live (.row E t (d x).1))::boxUF b0 ps (fun x=>(d x).2) bx nb
  | _,_,_,_=>[]
def newUF {X:Type}:(ps:List PK)->(X->BDs ps)->Nat->List (Nat×(X->Nm))
  | [],_,_=>[]
  | .val _::ps,d,nb=>newUF ps d nb
  | .agg _::ps,d,nb=>newUF ps d nb
  | .own _ _::ps,d,nb=>newUF ps d nb
  | .ago _::ps,d,nb=>newUF ps d nb
  | .fn _ _::ps,d,nb=>newUF ps d nb
  | .nils::ps,d,nb=>newUF ps d nb
  | .box E o::ps,d,nb=>xNewF o (fun x=>(d x).1) nb++newUF ps (fun x=>(d x).2) (nb+o.nr)
  | .row E t::ps,d,nb=>newUF ps (fun x=>(d x).2) nb
def resHF {X:Type} (b0:Nat):(rs:List RK)->(X->RDs rs)->Nat->List (Nat×(X->Nm))
  | [],_,_=>[]
  | .val t::rs,d,n=>resHF b0 rs (fun x=>(d x).2) n
  | .agg o::rs,d,n=>xNewF o (fun x=>(d x).1) n++resHF b0 rs (fun x=>(d x).2) (n+o.nr)
  | .own E t::rs,d,n=>(n,fun x => .live (.row E t (d x).1))::resHF b0 rs (fun x=>(d x).2) (n+1)
  | .box E o::rs,d,n=>(n,fun x => .live (.cells E (xCells b0 o (d x).1 [] (n+1))))::(xNewF o (fun x=>(d x).1) (n+1)++resHF b0 rs (fun x=>(d x).2) (n+1+o.nr))
  | .fn _ _::rs,d,n=>resHF b0 rs (fun x=>(d x).2) n
def fzF {X:Type}:List (Nat×Nm)->List (Nat×(X->Nm))
  | []=>[]
  | (n,b)::r=>(n,fun _=>b)::fzF r
def retUF (ps:List PK) (rs:List RK) (base:Nat) (fz:List (Nat×Nm)) (bx:List Nat) (cx:List (Option Nat)):List (Nat×(RDs rs×BDs ps->Nm)) :=
  (boxUF (bx.headD 0) ps (fun y:RDs rs×BDs ps=>y.2) bx (base+nOwn rs)++(resHF (bx.headD 0) rs (fun y:RDs rs×BDs ps=>y.1) base++(newUF ps (fun y:RDs rs×BDs ps=>y.2) (base+nOwn rs)++fzF (deadU cx))))++(match keepF ps rs with|true=>fzF fz|false=>[])
theorem xBoxF_eq {X:Type} {b0:Nat} (y:X):∀ (o:OT) (x:X->o.X) (bx:List Nat) (n:Nat),(xBoxF b0 o x bx n).map (fun p=>(p.1,p.2 y))=xBox b0 o (x y) bx n
  | .dat _,_,_,_=>rfl
  | .row _ _,_,_,_=>rfl
  | .rowg _ _,_,_,_=>rfl
  | .fnc _,_,_,_=>rfl
  | .ali,_,_,_=>rfl
  | .ref E o,x,[],n=>rfl
  | .ref E o,x,q::r,n=>by simp only [xBoxF,xBox,List.map_cons,xBoxF_eq y o]
  | .pair a b,x,bx,n=>by simp only [xBoxF,xBox,List.map_append,xBoxF_eq y a,xBoxF_eq y b]
theorem xNewF_eq {X:Type} (y:X):∀ (o:OT) (x:X->o.X) (n:Nat),(xNewF o x n).map (fun p=>(p.1,p.2 y))=xNew o (x y) n
  | .dat _,_,_=>rfl
  | .row _ _,_,_=>rfl
  | .rowg _ _,_,_=>rfl
  | .fnc _,_,_=>rfl
  | .ali,_,_=>rfl
  | .ref E o,x,n=>by simp only [xNewF,xNew,xNewF_eq y o]
  | .pair a b,x,n=>by simp only [xNewF,xNew,List.map_append,xNewF_eq y a,xNewF_eq y b]
theorem boxUF_eq {X:Type} {b0:Nat} (x:X):∀ (ps:List PK) (d:X->BDs ps) (bx:List Nat) (nb:Nat),(boxUF b0 ps d bx nb).map (fun p=>(p.1,p.2 x))=boxU b0 ps (d x) bx nb
  | [],_,_,_=>rfl
  | .val _::ps,d,bx,nb=>by simp only [boxUF,boxU];exact boxUF_eq x ps d bx nb
  | .agg _::ps,d,bx,nb=>by simp only [boxUF,boxU];exact boxUF_eq x ps d bx nb
  | .own _ _::ps,d,bx,nb=>by simp only [boxUF,boxU];exact boxUF_eq x ps d bx nb
  | .ago _::ps,d,bx,nb=>by simp only [boxUF,boxU];exact boxUF_eq x ps d bx nb
  | .fn _ _::ps,d,bx,nb=>by simp only [boxUF,boxU];exact boxUF_eq x ps d bx nb
  | .nils::ps,d,bx,nb=>by simp only [boxUF,boxU];exact boxUF_eq x ps d bx nb
  | .box E t::ps,d,[],_=>rfl
  | .row E t::ps,d,[],_=>rfl
  | .box E t::ps,d,n::bx,nb=>by simp only [boxUF,boxU,List.map_cons,List.map_append,xBoxF_eq x t,boxUF_eq x ps]
  | .row E t::ps,d,n::bx,nb=>by simp only [boxUF,boxU,List.map_cons,boxUF_eq x ps]
theorem newUF_eq {X:Type} (x:X):∀ (ps:List PK) (d:X->BDs ps) (nb:Nat),(newUF ps d nb).map (fun p=>(p.1,p.2 x))=newU ps (d x) nb
  | [],_,_=>rfl
  | .val _::ps,d,nb=>by simp only [newUF,newU];exact newUF_eq x ps d nb
  | .agg _::ps,d,nb=>by simp only [newUF,newU];exact newUF_eq x ps d nb
  | .own _ _::ps,d,nb=>by simp only [newUF,newU];exact newUF_eq x ps d nb
  | .ago _::ps,d,nb=>by simp only [newUF,newU];exact newUF_eq x ps d nb
  | .fn _ _::ps,d,nb=>by simp only [newUF,newU];exact newUF_eq x ps d nb
  | .nils::ps,d,nb=>by simp only [newUF,newU];exact newUF_eq x ps d nb
  | .box E t::ps,d,nb=>by simp only [newUF,newU,List.map_append,xNewF_eq x t,newUF_eq x ps]
  | .row E t::ps,d,nb=>by simp only [newUF,newU];exact newUF_eq x ps _ nb
theorem resHF_eq {X:Type} {b0:Nat} (x:X):∀ (rs:List RK) (d:X->RDs rs) (n:Nat),(resHF b0 rs d n).map (fun p=>(p.1,p.2 x))=resH b0 rs (d x) n
  | [],_,_=>rfl
  | .val t::rs,d,n=>by simp only [resHF,resH];exact resHF_eq x rs _ n
  | .agg t::rs,d,n=>by simp only [resHF,resH,List.map_append,xNewF_eq x t,resHF_eq x rs]
  | .own E t::rs,d,n=>by simp only [resHF,resH,List.map_cons,resHF_eq x rs]
  | .box E t::rs,d,n=>by simp only [resHF,resH,List.map_cons,List.map_append,xNewF_eq x t,resHF_eq x rs]
  | .fn _ _::rs,d,n=>by simp only [resHF,resH];exact resHF_eq x rs _ n
theorem fzF_eq {X:Type} (x:X):∀ (l:List (Nat×Nm)),(fzF (X:=X) l).map (fun p=>(p.1,p.2 x))=l
  | []=>rfl
  | (n,b)::r=>by simp only [fzF,List.map_cons,fzF_eq x r]
theorem retUF_eq {ps:List PK} {rs:List RK} {base:Nat} {fz:List (Nat×Nm)} {bx:List Nat} {cx:List (Option Nat)} (y:RDs rs×BDs ps):(retUF ps rs base fz bx cx).map (fun p=>(p.1,p.2 y))=retU ps rs y base fz bx cx:=by
  unfold retUF retU
  simp only [List.map_append,boxUF_eq,resHF_eq,newUF_eq,fzF_eq]
  cases keepF ps rs with
  | true=>simp only [fzF_eq]
  | false=>rfl
def allX:(o:OT)->(o.X->Prop)->Prop
  | .dat t,k=>allD t k
  | .row _ t,k=>∀ x:List t.D,k x
  | .rowg _ _,k=>k ()
  | .fnc _,k=>k ()
  | .ali,k=>k ()
  | .ref _ o,k=>allX o k
  | .pair a b,k=>allX a fun x=>allX b fun y=>k (x,y)
theorem allX_all:∀ {o:OT} {k:o.X->Prop},allX o k→∀ d,k d
  | .dat t,k,h,d=>allD_iff.1 h d
  | .row _ t,k,h,d=>h d
  | .rowg _ _,k,h,d=>h
  | .fnc _,k,h,d=>h
  | .ali,k,h,d=>h
  | .ref _ o,k,h,d=>allX_all (o:=o) h d
  | .pair a b,k,h,d=>allX_all (o:=b) (allX_all (o:=a) h d.1) d.2
def allR:(rs:List RK)->(RDs rs->Prop)->Prop
  | [],k=>k ()
  | .val t::r,k=>allD t fun x=>allR r fun y=>k (x,y)
  | .agg o::r,k=>allX o fun x=>allR r fun y=>k (x,y)
  | .own _ t::r,k=>∀ x:List t.D,allR r fun y=>k (x,y)
  | .box _ o::r,k=>allX o fun x=>allR r fun y=>k (x,y)
  | .fn _ _::r,k=>allR r fun y=>k ((),y)
theorem allR_all:∀ {rs:List RK} {k:RDs rs->Prop},allR rs k→∀ d,k d
  | [],k,h,d=>h
  | .val t::r,k,h,d=>allR_all (rs:=r) (allD_iff.1 h d.1) d.2
  | .agg o::r,k,h,d=>allR_all (rs:=r) (allX_all (o:=o) h d.1) d.2
  | .own _ t::r,k,h,d=>allR_all (rs:=r) (h d.1) d.2
  | .box _ o::r,k,h,d=>allR_all (rs:=r) (allX_all (o:=o) h d.1) d.2
  | .fn _ _::r,k,h,d=>allR_all (rs:=r) h d.2
def allB:(ps:List PK)->(BDs ps->Prop)->Prop
  | [],k=>k ()
  | .val _::r,k=>allB r k
  | .agg _::r,k=>allB r k
  | .own _ _::r,k=>allB r k
  | .ago _::r,k=>allB r k
  | .fn _ _::r,k=>allB r k
  | .nils::r,k=>allB r k
  | .box _ o::r,k=>allX o fun x=>allB r fun y=>k (x,y)
  | .row _ t::r,k=>∀ x:List t.D,allB r fun y=>k (x,y)
theorem allB_all:∀ {ps:List PK} {k:BDs ps->Prop},allB ps k→∀ d,k d
  | [],k,h,d=>h
  | .val _::r,k,h,d=>allB_all (ps:=r) h d
  | .agg _::r,k,h,d=>allB_all (ps:=r) h d
  | .own _ _::r,k,h,d=>allB_all (ps:=r) h d
  | .ago _::r,k,h,d=>allB_all (ps:=r) h d
  | .fn _ _::r,k,h,d=>allB_all (ps:=r) h d
  | .nils::r,k,h,d=>allB_all (ps:=r) h d
  | .box _ o::r,k,h,d=>allB_all (ps:=r) (allX_all (o:=o) h d.1) d.2
  | .row _ t::r,k,h,d=>allB_all (ps:=r) (h d.1) d.2
def outQn (rs:List RK) (ps:List PK):Qn (RDs rs×BDs ps) :=
  ⟨fun k=>allR rs fun y=>allB ps fun z=>k (y,z),fun k h x=>allB_all (allR_all h x.1) x.2,fun k=>∃ x,k x,fun _ h=>h⟩
def Cn.spec (c:Cn):Spec:=fun base svs=>(matchArgs none c.ps svs).bind fun p=>match namesOk p.2.1 p.2.2.1 p.2.2.2 with
  | true=>askUn base (nOwn c.rs+nOwnB c.ps) (.nd (RDs c.rs×BDs c.ps) (outQn c.rs c.ps) (c.pre p.1) (c.post p.1) (c.inh p.1) (fun y=>resV (resSV (p.2.2.1.headD 0) c.rs y.1 base)) (retUF c.ps c.rs base p.2.1 p.2.2.1 p.2.2.2))
  | false => .fail
section
variable {w0:World} {N0:Old} {A A' A1 A2:Nat->Prop} {env env1 env':Env} {h h1:Heap} {w w1:World}
theorem lift_l {a b c:Bool} {p:Prop} (h:(a&&b)=true∨p):a=true∨p:=by
  rcases h with h|h
  · exact .inl (by simp only [Bool.and_eq_true] at h;exact h.1)
  · exact .inr h
theorem lift_r {a b:Bool} {p:Prop} (h:(a&&b)=true∨p):b=true∨p:=by
  rcases h with h|h
  · exact .inl (by simp only [Bool.and_eq_true] at h;exact h.2)
  · exact .inr h
theorem outR_agg {al:Bool} {t:OT} {rs:List RK} {svs:List SV} {x} (e:outR al (.agg t::rs) svs h1=some x):∃ cs r,svs = .agg cs::r:=by
  cases svs with
  | nil=>cases e
  | cons s r=>cases s <;> first|exact ⟨_,_,rfl⟩|cases e
theorem outR_own {al:Bool} {E:TypeId} {t:CT} {rs:List RK} {svs:List SV} {x} (e:outR al (.own E t::rs) svs h1=some x):∃ v r,svs=v::r:=by
  cases svs with
  | nil=>cases e
  | cons s r=>exact ⟨_,_,rfl⟩
theorem outR_box {al:Bool} {E:TypeId} {t:OT} {rs:List RK} {svs:List SV} {x} (e:outR al (.box E t::rs) svs h1=some x):∃ m r,svs = .ptr m 0::r:=by
  cases svs with
  | nil=>cases e
  | cons s r=>cases s <;> first|cases e;done|(rename_i m o;cases o <;> first|exact ⟨_,_,rfl⟩|cases e)
theorem outR_fn {al:Bool} {f:FuncId} {k:Nat} {rs:List RK} {svs:List SV} {x} (e:outR al (.fn f k::rs) svs h1=some x):∃ g cs r,svs = .fn g cs::r:=by
  cases svs with
  | nil=>cases e
  | cons s r=>cases s <;> first|exact ⟨_,_,_,rfl⟩|cases e
theorem oOut_ref {al:Bool} {E:TypeId} {t:OT} {j:Option Nat} {svs:List SV} {x} (e:oOut h1 al (.ref E t) j svs=some x):∃ j0 m r,j=some j0/\svs = .ptr m 0::r:=by
  cases j with
  | none=>cases svs <;> cases e
  | some j0 =>
    cases svs with
    | nil=>cases e
    | cons s r=>cases s <;> first|cases e;done|(rename_i m o;cases o <;> first|exact ⟨_,_,_,rfl,rfl⟩|cases e)
theorem oOut_fnc {al:Bool} {f:FuncId} {j:Option Nat} {svs:List SV} {x} (e:oOut h1 al (.fnc f) j svs=some x):∃ r,svs = .fn f []::r/\x=((),r,[],[]):=by
  cases svs with
  | nil=>cases e
  | cons s r =>
    cases s <;> first|cases e;done|skip
    rename_i g cs
    cases cs <;> first|cases e;done|skip
    simp only [oOut] at e
    split at e
    · rename_i hb
      rw [Nat.eq_of_beq_eq_true hb]
      simp only [Option.some.injEq] at e
      exact ⟨_,rfl,e.symm⟩
    · cases e
theorem oOut_rowg {al:Bool} {E:TypeId} {t:CT} {j:Option Nat} {svs:List SV} {x} (e:oOut h1 al (.rowg E t) j svs=some x):∃ v r,svs=v::r:=by
  cases svs with
  | nil=>cases e
  | cons s r=>exact ⟨_,_,rfl⟩
theorem takeRowH_sound {Nc:Old} (m1:Mod w Nc A1 env1 h1 w1) (hA:∀ b,A1 b->A2 b) {E:TypeId} {t:CT} (L:t.plain=true∨∀ b,A2 b->A' b) {cs rest:List SV} {vs:List Value} {ys:List t.D} {on:Option Nat}
    (e:takeRowH E t h1 cs=some (ys,rest,on)) (hd:DenL A1 env1 w1 cs vs) :
    ∃ v vr,vs=v::vr/\rest=cs.drop 1/\DenL A1 env1 w1 rest vr∧∀ (e':Env) (i:Nat),e' i=evOf env1 on->Den A' e' w1 (.own i t.size) v/\LinkOK A' env1 h1 e' w1 [on] [(i,.live (.row E t ys))] i:=by
  cases cs with
  | nil=>cases e
  | cons s cs =>
  cases s with
  | own n sz =>
    simp only [takeRowH] at e
    split at e
    · rename_i E' t' xs hl
      split at e
      · rename_i zs hE hsz hc
        have hE:=Nat.eq_of_beq_eq_true hE
        subst hE
        have hsz:=Nat.eq_of_beq_eq_true hsz
        subst hsz
        obtain ⟨et,ez⟩:=castL_eq hc
        subst et
        simp only at ez
        subst ez
        simp only [Option.some.injEq,Prod.mk.injEq] at e
        obtain ⟨rfl,rfl,rfl⟩:=e
        simp only [DenL,Den] at hd
        obtain ⟨x,vr,rfl,hv,hr⟩:=hd
        have hm:=m1.nm n
        rw [hl] at hm
        refine ⟨x,vr,rfl,rfl,hr,fun e' i he=>⟨?_,⟨rfl,_,rfl,rfl,.inl ⟨n,_,rfl,hl,rfl,fun k len he => ?_,fun he => ?_⟩⟩,trivial⟩⟩
        · simp only [evOf] at he
          simp only [Den]
          rw [he];exact hv
        · rcases hm with ⟨k',len',he',hb,_⟩|⟨he',_⟩
          · rw [he] at he';cases he'
            obtain ⟨us,cap,g1,g2,g3,g4,g5,g6⟩:=hb
            exact ⟨us,cap,g1,g2,g3,g4,g5,fun i hi=>Rd_lift L (Rd_mono hA (fun _ _ _=>rfl) _ _ _ _ _ (fun _ _=>rfl) (g6 i hi))⟩
          · rw [he] at he';cases he'
        · rcases hm with ⟨k',len',he',hb,_⟩|⟨he',E2,t2,hb⟩
          · rw [he] at he';cases he'
          · rcases hb with hb|hb <;> cases hb
            exact ⟨_,_,rfl⟩
      · cases e
    · cases e
  | nilsl =>
    simp only [takeRowH,Option.some.injEq,Prod.mk.injEq] at e
    obtain ⟨rfl,rfl,rfl⟩:=e
    simp only [DenL,Den] at hd
    obtain ⟨x,vr,rfl,rfl,hr⟩:=hd
    refine ⟨_,vr,rfl,rfl,hr,fun e' i he=>⟨?_,⟨rfl,_,rfl,rfl,.inr ⟨rfl,_,_,rfl⟩⟩,trivial⟩⟩
    simp only [Den]
    exact .inl ⟨he,_,rfl⟩
  | _=>cases e
def BxOut (A':Nat->Prop) (env1:Env) (h1:Heap) (env':Env) (w1:World) (bx:List Nat) (j:Nat) (n:Nat) (x:Nm):Prop :=
  ∃ i b b0,bx[i]? = some n/\x = .live b/\b.mut=true/\h1 (PN+(j+i)) = .live b0/\b0.mut=true/\(∀ k len,env1 (PN+(j+i)) = .blk k len->BlkDen A' env' w1 k len b)/\(env1 (PN+(j+i)) = .nil→∃ E t,b = .row E t [])
theorem BxOut.shift {pre bx:List Nat} {j n:Nat} {x:Nm} (h:BxOut A' env1 h1 env' w1 bx (j+pre.length) n x):BxOut A' env1 h1 env' w1 (pre++bx) j n x:=by
  obtain ⟨i,b,b0,g1,g2,g3,g4,g5,g6,g7⟩:=h
  rw [show j+pre.length+i=j+(pre.length+i) from by omega] at g4 g6 g7
  exact ⟨pre.length+i,b,b0,by rw [List.getElem?_append_right (by omega),Nat.add_sub_cancel_left];exact g1,g2,g3,g4,g5,g6,g7⟩
theorem BxOut.grow {bx post:List Nat} {j n:Nat} {x:Nm} (h:BxOut A' env1 h1 env' w1 bx j n x):BxOut A' env1 h1 env' w1 (bx++post) j n x:=by
  obtain ⟨i,b,b0,g1,g2⟩:=h
  exact ⟨i,b,b0,by rw [List.getElem?_append_left (List.getElem?_eq_some_iff.1 g1).1];exact g1,g2⟩
theorem oOut_none {al:Bool}:∀ (o:OT) (cs:List SV) {x},oOut h1 al o none cs=some x->o.nb=0
  | .dat t,_,_,_=>rfl
  | .row _ t,_,_,_=>rfl
  | .rowg _ t,_,_,_=>rfl
  | .fnc _,_,_,_=>rfl
  | .ali,_,_,_=>rfl
  | .ref _ o,cs,x,e=>by obtain ⟨j0,m,r,hj,-⟩:=oOut_ref e;cases hj
  | .pair a b,cs,x,e=>by
    simp only [oOut] at e
    split at e
    · rename_i h1'
      split at e
      · rename_i h2'
        have k1:=oOut_none a _ h1'
        have k2:=oOut_none b _ h2'
        simp only [OT.nb];omega
      · cases e
    · cases e
theorem oOut_ali {al:Bool} {j:Option Nat} {svs:List SV} {x} (e:oOut h1 al .ali j svs=some x):∃ r,svs = .ptr PN 0::r/\al=true/\x=((),r,[],[]):=by
  cases svs with
  | nil=>cases e
  | cons s r =>
    cases s with
    | ptr m off=>cases off with
      | zero =>
        have e:(match (generalizing:=false) al,Nat.beq m PN with|true,true=>(some ((),r,[],[]):Option (Unit×List SV×List (Nat×Nm)×List (Option Nat)))|_,_=>none)=some x:=by
          cases j <;> exact e
        cases hb:Nat.beq m PN with
        | false=>rw [hb] at e;cases al <;> cases e
        | true =>
          rw [hb] at e
          cases al with
          | false=>cases e
          | true =>
            simp only [Option.some.injEq] at e
            exact ⟨r,by rw [Nat.eq_of_beq_eq_true hb],rfl,e.symm⟩
      | succ k=>cases e
    | _=>cases e
theorem oOut_sound {al:Bool} {Nc:Old} (m1:Mod w Nc A1 env1 h1 w1) (hA:∀ b,A1 b->A2 b) (b0:Nat):∀ (o:OT) (j:Option Nat) (cs:List SV) (vs:List Value) (x:o.X) (rest:List SV) (fz:List (Nat×Nm)) (ow:List (Option Nat)) (bx more:List Nat) (n:Nat),
    oOut h1 al o j cs=some (x,rest,fz,ow)->DenL A1 env1 w1 cs vs->(∀ k,FrzBlk env1 fz k->A2 k)->(o.plain=true∨∀ b,A2 b->A' b)->(j=none∨bx.length=o.nb) →
    FrzOk h1 fz/\ow.length=o.nr∧∃ us rs,vs=us++rs/\DenL A1 env1 w1 rest rs ∧
      ((al=true->env' b0=env1 PN)->(∀ k q,ow[k]? = some q->env' (n+k)=evOf env1 q)->(∀ j0 k q,j=some j0->bx[k]? = some q->env' q=env1 (PN+(j0+k))) →
        DenL A' env' w1 (xCells b0 o x (bx++more) n) us/\LinkOK A' env1 h1 env' w1 ow (xNew o x n) n/\(∀ q y,(q,y)∈xBox b0 o x (bx++more) n→∃ j0,j=some j0/\BxOut A' env1 h1 env' w1 bx j0 q y) ∧
        (j≠none→∀ q,q∈bx->q∈(xBox b0 o x (bx++more) n).map (·.1)))
  | .dat t,j,cs,vs,x,rest,fz,ow,bx,more,n,e,hd,hF,L,hbl=>by
    simp only [oOut] at e
    split at e
    · rename_i x1 r1 f1 q1 hp
      simp only [Option.some.injEq,Prod.mk.injEq] at e
      obtain ⟨rfl,rfl,rfl,rfl⟩:=e
      obtain ⟨p1,p2,p3,p4,p5⟩:=projC_sound m1 t cs vs x1 r1 f1 _ hp hd hA hF
      refine ⟨p1,rfl,vs.take t.size,vs.drop t.size,(List.take_append_drop _ _).symm,p5,fun _ _ _=>⟨?_,trivial,fun q y hh=>by simp [xBox] at hh,fun hj q hq => ?_⟩⟩
      · simp only [xCells]
        refine den_flatL (by rw [List.length_take];omega) (Rd_lift L ?_)
        refine Rd_mono (fun _ h=>h) (fun _ _ _=>rfl) t _ _ _ _ (fun k hk => ?_) p4
        simp only [Nat.zero_add,List.getElem?_take]
        rw [if_pos hk]
      · rcases hbl with hbl|hbl
        · exact absurd hbl hj
        · rw [List.length_eq_zero_iff.1 hbl] at hq;cases hq
    · cases e
  | .row E t,j,cs,vs,x,rest,fz,ow,bx,more,n,e,hd,hF,L,hbl=>by
    simp only [oOut] at e
    split at e
    · rename_i x1 r1 o1 hp
      simp only [Option.some.injEq,Prod.mk.injEq] at e
      obtain ⟨rfl,rfl,rfl,rfl⟩:=e
      obtain ⟨v,vr,rfl,-,p2,p3⟩:=takeRowH_sound (A':=A') m1 hA L hp hd
      refine ⟨fun n b hh=>by simp at hh,rfl,[v],vr,rfl,p2,fun _ ho _ => ?_⟩
      obtain ⟨k1,k2⟩:=p3 env' n (ho 0 _ rfl)
      refine ⟨?_,k2,fun q y hh=>by simp [xBox] at hh,fun hj q hq => ?_⟩
      · simp only [xCells,DenL];exact ⟨v,[],rfl,k1,rfl⟩
      · rcases hbl with hbl|hbl
        · exact absurd hbl hj
        · rw [List.length_eq_zero_iff.1 hbl] at hq;cases hq
    · cases e
  | .rowg E t,j,cs0,vs,x,rest,fz,ow,bx,more,n,e,hd,hF,L,hbl=>by
    obtain ⟨v,cs,rfl⟩:=oOut_rowg e
    simp only [oOut,Option.some.injEq,Prod.mk.injEq] at e
    obtain ⟨-,rfl,rfl,rfl⟩:=e
    simp only [DenL] at hd
    obtain ⟨u,vr,rfl,hu,hvr⟩:=hd
    refine ⟨fun n b hh=>by simp at hh,rfl,[u],vr,rfl,hvr,fun _ ho _=>⟨?_,trivial,fun q y hh=>by simp [xBox] at hh,fun hj q hq => ?_⟩⟩
    · simp only [xCells,DenL,Den];exact ⟨u,[],rfl,trivial,rfl⟩
    · rcases hbl with hbl|hbl
      · exact absurd hbl hj
      · rw [List.length_eq_zero_iff.1 hbl] at hq;cases hq
  | .fnc f,j,cs0,vs,x,rest,fz,ow,bx,more,n,e,hd,hF,L,hbl=>by
    obtain ⟨cs,rfl,e2⟩:=oOut_fnc e
    simp only [Prod.mk.injEq] at e2
    obtain ⟨-,rfl,rfl,rfl⟩:=e2
    simp only [DenL] at hd
    obtain ⟨u,vr,rfl,hu,hvr⟩:=hd
    refine ⟨fun n b hh=>by simp at hh,rfl,[u],vr,rfl,hvr,fun _ ho _=>⟨?_,trivial,fun q y hh=>by simp [xBox] at hh,fun hj q hq => ?_⟩⟩
    · simp only [xCells,DenL]
      simp only [Den,DenL] at hu
      refine ⟨u,[],rfl,?_,rfl⟩
      simp only [Den,DenL]
      exact hu
    · rcases hbl with hbl|hbl
      · exact absurd hbl hj
      · rw [List.length_eq_zero_iff.1 hbl] at hq;cases hq
  | .ali,j,cs0,vs,x,rest,fz,ow,bx,more,n,e,hd,hF,L,hbl=>by
    obtain ⟨cs,rfl,hj0,e2⟩:=oOut_ali e
    simp only [Prod.mk.injEq] at e2
    obtain ⟨-,rfl,rfl,rfl⟩:=e2
    simp only [DenL,Den] at hd
    obtain ⟨u,vr,rfl,⟨k,len,hek,rfl⟩,hvr⟩:=hd
    refine ⟨fun n b hh=>by simp at hh,rfl,[_],vr,rfl,hvr,fun hb0 ho _=>⟨?_,trivial,fun q y hh=>by simp [xBox] at hh,fun hj q hq => ?_⟩⟩
    · simp only [xCells,DenL,Den]
      exact ⟨_,[],rfl,⟨k,len,by rw [hb0 hj0];exact hek,rfl⟩,rfl⟩
    · rcases hbl with hbl|hbl
      · exact absurd hbl hj
      · rw [List.length_eq_zero_iff.1 hbl] at hq;cases hq
  | .ref E o,j,cs0,vs,x,rest,fz,ow,bx,more,n,e,hd,hF,L,hbl=>by
    obtain ⟨j0,m,cs,rfl,rfl⟩:=oOut_ref e
    simp only [oOut] at e
    split at e
    · rename_i E' cs' hm hl
      have hm:=Nat.eq_of_beq_eq_true hm
      subst hm
      split at e
      · rename_i x1 f1 w1' hE hp
        have hE:=Nat.eq_of_beq_eq_true hE
        subst hE
        simp only [Option.some.injEq,Prod.mk.injEq] at e
        obtain ⟨rfl,rfl,rfl,rfl⟩:=e
        simp only [DenL,Den] at hd
        obtain ⟨u,vr,rfl,⟨kb,lb,hkb,rfl⟩,hvr⟩:=hd
        obtain ⟨⟨us,hus,hdu⟩,_⟩:=m1.live_blk hl hkb
        cases bx with
        | nil=>rcases hbl with hbl|hbl <;> cases hbl
        | cons q0 bx =>
        have hbl':bx.length=o.nb:=by
          rcases hbl with hbl|hbl
          · cases hbl
          · simpa [OT.nb] using hbl
        obtain ⟨s1,s2,us',rs',s5,s6,s7⟩:=oOut_sound m1 hA b0 o (some (j0+1)) cs' us.toList x1 [] f1 w1' bx more n hp hdu hF L (.inr hbl')
        simp only [DenL] at s6
        subst s6
        rw [List.append_nil] at s5
        subst s5
        refine ⟨s1,s2,[_],vr,rfl,hvr,fun h0b ho hb => ?_⟩
        have h0:=hb j0 0 q0 rfl rfl
        rw [Nat.add_zero] at h0
        obtain ⟨k1,k2,k3,k4⟩:=s7 h0b ho (fun j1 k q hj hq=>by
          cases hj
          have:=hb j0 (k+1) q rfl (by simpa using hq)
          rwa [show j0+(k+1)=j0+1+k from by omega] at this)
        refine ⟨?_,k2,fun q y hh => ?_,fun _ q hq => ?_⟩
        · simp only [xCells,List.cons_append,DenL,Den]
          exact ⟨_,[],rfl,⟨kb,lb,by rw [h0];exact hkb,rfl⟩,rfl⟩
        · simp only [xBox,List.cons_append] at hh
          rcases List.mem_cons.1 hh with hh|hh
          · cases hh
            refine ⟨j0,rfl,0,_,_,rfl,rfl,rfl,hl,rfl,fun k len he => ?_,fun he => ?_⟩
            · rw [Nat.add_zero,hkb] at he;cases he
              exact ⟨us,hus,k1⟩
            · rw [Nat.add_zero,hkb] at he;cases he
          · obtain ⟨j1,hj1,hbx⟩:=k3 q y hh
            cases hj1
            exact ⟨j0,rfl,BxOut.shift (pre:=[q0]) hbx⟩
        · simp only [xBox,List.cons_append,List.map_cons]
          rcases List.mem_cons.1 hq with rfl|hq
          · exact List.mem_cons_self ..
          · exact List.mem_cons_of_mem _ (k4 (by simp) q hq)
      · cases e
    · cases e
  | .pair a b,j,cs,vs,x,rest,fz,ow,bx,more,n,e,hd,hF,L,hbl=>by
    simp only [oOut] at e
    split at e
    · rename_i x1 r1 f1 o1 h1'
      split at e
      · rename_i x2 r2 f2 o2 h2'
        simp only [Option.some.injEq,Prod.mk.injEq] at e
        obtain ⟨rfl,rfl,rfl,rfl⟩:=e
        have hF1:∀ k,FrzBlk env1 f1 k->A2 k:=fun k ⟨n,x,l,hx,he⟩=>hF k ⟨n,x,l,List.mem_append_left _ hx,he⟩
        have hF2:∀ k,FrzBlk env1 f2 k->A2 k:=fun k ⟨n,x,l,hx,he⟩=>hF k ⟨n,x,l,List.mem_append_right _ hx,he⟩
        have La:a.plain=true∨∀ b,A2 b->A' b:=lift_l (c:=true) L
        have Lb:b.plain=true∨∀ b,A2 b->A' b:=lift_r L
        have hla:j=none∨(bx.take a.nb).length=a.nb:=by
          rcases hbl with hbl|hbl
          · exact .inl hbl
          · simp only [OT.nb] at hbl
            exact .inr (by rw [List.length_take];omega)
        have hlb:j.map (· + a.nb)=none∨(bx.drop a.nb).length=b.nb:=by
          rcases hbl with hbl|hbl
          · exact .inl (by rw [hbl];rfl)
          · simp only [OT.nb] at hbl
            exact .inr (by rw [List.length_drop];omega)
        obtain ⟨s1,s2,us,rs,rfl,s6,s7⟩:=oOut_sound m1 hA b0 a j cs vs x1 r1 f1 o1 (bx.take a.nb) (bx.drop a.nb++more) n h1' hd hF1 La hla
        obtain ⟨t1,t2,us',rs',rfl,t6,t7⟩:=oOut_sound m1 hA b0 b (j.map (· + a.nb)) r1 rs x2 r2 f2 o2 (bx.drop a.nb) more (n+a.nr) h2' s6 hF2 Lb hlb
        refine ⟨fun n b hh => ?_,by simp only [List.length_append,s2,t2,OT.nr],us++us',rs',by rw [List.append_assoc],t6,fun h0b ho hb => ?_⟩
        · rcases List.mem_append.1 hh with hh|hh
          · exact s1 n b hh
          · exact t1 n b hh
        have eb:bx.take a.nb++(bx.drop a.nb++more)=bx++more:=by rw [← List.append_assoc,List.take_append_drop]
        obtain ⟨k1,k2,k3,k4⟩:=s7 h0b (fun k q hq=>ho k q (by rw [List.getElem?_append_left (List.getElem?_eq_some_iff.1 hq).1];exact hq))
          (fun j0 k q hj hq=>by
            refine hb j0 k q hj ?_
            rw [List.getElem?_take] at hq
            split at hq
            · exact hq
            · cases hq)
        obtain ⟨l1,l2,l3,l4⟩:=t7 h0b (fun k q hq=>by
            have:=ho (a.nr+k) q (by rw [List.getElem?_append_right (by omega),s2,Nat.add_sub_cancel_left];exact hq)
            rwa [show n+(a.nr+k)=n+a.nr+k from by omega] at this)
          (fun j1 k q hj hq=>by
            cases j with
            | none=>cases hj
            | some j0 =>
              simp only [Option.map_some,Option.some.injEq] at hj
              subst hj
              rw [List.getElem?_drop] at hq
              have:=hb j0 (a.nb+k) q rfl hq
              rwa [show j0+(a.nb+k)=j0+a.nb+k from by omega] at this)
        rw [eb] at k1 k3 k4
        have ed:(bx++more).drop a.nb=bx.drop a.nb++more:=by
          rcases hbl with hbl|hbl
          · subst hbl
            rw [oOut_none a _ h1',List.drop_zero,List.drop_zero]
          · simp only [OT.nb] at hbl
            rw [List.drop_append_of_le_length (by omega)]
        have tl:∀ j0,j=some j0->(bx.take a.nb).length=a.nb:=fun j0 hj=>by
          rcases hla with h|h
          · rw [hj] at h;cases h
          · exact h
        rw [← ed] at l1 l3 l4
        simp only [xCells,xBox,xNew]
        refine ⟨DenL_append k1 l1,k2.append (by rw [s2];exact l2),fun q y hh => ?_,fun hj q hq => ?_⟩
        · rcases List.mem_append.1 hh with hh|hh
          · obtain ⟨j0,hj,hx⟩:=k3 q y hh
            refine ⟨j0,hj,?_⟩
            have:=hx.grow (post:=bx.drop a.nb)
            rwa [List.take_append_drop] at this
          · obtain ⟨j1,hj1,hx⟩:=l3 q y hh
            cases j with
            | none=>cases hj1
            | some j0 =>
              simp only [Option.map_some,Option.some.injEq] at hj1
              subst hj1
              refine ⟨j0,rfl,?_⟩
              have:=BxOut.shift (pre:=bx.take a.nb) (bx:=bx.drop a.nb) (j:=j0) (n:=q) (x:=y) (by rw [tl j0 rfl];exact hx)
              rwa [List.take_append_drop] at this
        · rw [List.map_append]
          rw [← List.take_append_drop a.nb bx] at hq
          rcases List.mem_append.1 hq with hq|hq
          · exact List.mem_append_left _ (k4 hj q hq)
          · exact List.mem_append_right _ (l4 (by cases j with|none=>exact absurd rfl hj|some j0=>simp) q hq)
      · cases e
    · cases e
theorem xBox_keys {b0:Nat}:∀ {o:OT} {x:o.X} {bx more:List Nat} {n:Nat},bx.length=o.nb→∀ q,q∈bx->q∈(xBox b0 o x (bx++more) n).map (·.1)
  | .dat _,x,bx,more,n,hl,q,hq=>by rw [List.length_eq_zero_iff.1 hl] at hq;cases hq
  | .row _ _,x,bx,more,n,hl,q,hq=>by rw [List.length_eq_zero_iff.1 hl] at hq;cases hq
  | .rowg _ _,x,bx,more,n,hl,q,hq=>by rw [List.length_eq_zero_iff.1 hl] at hq;cases hq
  | .fnc _,x,bx,more,n,hl,q,hq=>by rw [List.length_eq_zero_iff.1 hl] at hq;cases hq
  | .ali,x,bx,more,n,hl,q,hq=>by rw [List.length_eq_zero_iff.1 hl] at hq;cases hq
  | .ref E o,x,[],more,n,hl,q,hq=>by cases hq
  | .ref E o,x,q0::bx,more,n,hl,q,hq=>by
    simp only [List.cons_append,xBox,List.map_cons]
    rcases List.mem_cons.1 hq with rfl|hq
    · exact List.mem_cons_self ..
    · exact List.mem_cons_of_mem _ (xBox_keys (o:=o) (by simpa [OT.nb] using hl) q hq)
  | .pair a b,x,bx,more,n,hl,q,hq=>by
    simp only [OT.nb] at hl
    simp only [xBox,List.map_append]
    rw [← List.take_append_drop a.nb bx] at hq
    have e1:bx++more=bx.take a.nb++(bx.drop a.nb++more):=by rw [← List.append_assoc,List.take_append_drop]
    rcases List.mem_append.1 hq with hq|hq
    · refine List.mem_append_left _ ?_
      rw [e1]
      exact xBox_keys (o:=a) (by rw [List.length_take];omega) q hq
    · refine List.mem_append_right _ ?_
      rw [List.drop_append_of_le_length (by omega)]
      exact xBox_keys (o:=b) (by rw [List.length_drop];omega) q hq
theorem outR_sound {al:Bool} {Nc:Old} (m1:Mod w Nc A1 env1 h1 w1) (hA:∀ b,A1 b->A2 b) (b0:Nat):∀ (rs:List RK) (d:RDs rs) (svs:List SV) (vs:List Value) (fz:List (Nat×Nm)) (ow:List (Option Nat)) (n:Nat),
    outR al rs svs h1=some (d,fz,ow)->DenL A1 env1 w1 svs vs->(∀ k,FrzBlk env1 fz k->A2 k)->(rsPlain rs=true∨∀ b,A2 b->A' b) →
    FrzOk h1 fz/\ow.length=nOwn rs/\((al=true->env' b0=env1 PN)->(∀ i o,ow[i]? = some o->env' (n+i)=evOf env1 o)->DenL A' env' w1 (resSV b0 rs d n) vs/\LinkOK A' env1 h1 env' w1 ow (resH b0 rs d n) n)
  | [],d,[],vs,fz,ow,n,e,hd,hF,L=>by
    simp only [outR,Option.some.injEq,Prod.mk.injEq] at e
    obtain ⟨-,rfl,rfl⟩:=e
    exact ⟨fun n b hh=>by simp at hh,rfl,fun _ _=>⟨by simpa [resSV,DenL] using hd,trivial⟩⟩
  | .val t::rs,d,v::svs,vs,fz,ow,n,e,hd,hF,L=>by
    simp only [outR] at e
    split at e
    · rename_i x f1 q hp
      split at e
      · rename_i ps f2 o hr
        simp only [Option.some.injEq,Prod.mk.injEq] at e
        obtain ⟨rfl,rfl,rfl⟩:=e
        simp only [DenL] at hd
        obtain ⟨u,vr,rfl,hu,hvr⟩:=hd
        have hF1:∀ k,FrzBlk env1 f1 k->A2 k:=fun k ⟨n,x,l,hx,he⟩=>hF k ⟨n,x,l,List.mem_append_left _ hx,he⟩
        have hF2:∀ k,FrzBlk env1 f2 k->A2 k:=fun k ⟨n,x,l,hx,he⟩=>hF k ⟨n,x,l,List.mem_append_right _ hx,he⟩
        obtain ⟨p1,_,p3,p4,_⟩:=projC_sound m1 t [v] [u] x [] f1 _ hp (by simp only [DenL];exact ⟨u,[],rfl,hu,rfl⟩) hA hF1
        obtain ⟨s1,s2,s3⟩:=outR_sound m1 hA b0 rs ps svs vr f2 o n hr hvr hF2 (lift_r L)
        refine ⟨fun n b hh => ?_,s2,fun hal he => ?_⟩
        · rcases List.mem_append.1 hh with hh|hh
          · exact p1 n b hh
          · exact s1 n b hh
        · obtain ⟨k1,k2⟩:=s3 hal he
          refine ⟨?_,k2⟩
          simp only [resSV,DenL]
          exact ⟨u,vr,rfl,den_flat1 (rest:=[]) (Rd_lift (lift_l (c:=true) L) p4),k1⟩
      · cases e
    · cases e
  | .agg t::rs,d,svs0,vs,fz,ow,n,e,hd,hF,L=>by
    obtain ⟨cs,svs,rfl⟩:=outR_agg e
    simp only [outR] at e
    split at e
    · rename_i x f1 w' hp
      split at e
      · rename_i ps f2 o hr
        simp only [Option.some.injEq,Prod.mk.injEq] at e
        obtain ⟨rfl,rfl,rfl⟩:=e
        simp only [DenL,Den] at hd
        obtain ⟨u,vr,rfl,⟨us,rfl,hu⟩,hvr⟩:=hd
        have hF1:∀ k,FrzBlk env1 f1 k->A2 k:=fun k ⟨n,x,l,hx,he⟩=>hF k ⟨n,x,l,List.mem_append_left _ hx,he⟩
        have hF2:∀ k,FrzBlk env1 f2 k->A2 k:=fun k ⟨n,x,l,hx,he⟩=>hF k ⟨n,x,l,List.mem_append_right _ hx,he⟩
        obtain ⟨p1,p2,us',rs',p3,p4,p5⟩:=oOut_sound (env':=env') m1 hA b0 t none cs us.toList x [] f1 w' [] [] n hp hu hF1 (lift_l (c:=true) L) (.inl rfl)
        simp only [DenL] at p4
        subst p4
        rw [List.append_nil] at p3
        subst p3
        obtain ⟨s1,s2,s3⟩:=outR_sound m1 hA b0 rs ps svs vr f2 o (n+t.nr) hr hvr hF2 (lift_r L)
        refine ⟨fun n b hh => ?_,by simp only [List.length_append,p2,s2,nOwn];omega,fun hal he => ?_⟩
        · rcases List.mem_append.1 hh with hh|hh
          · exact p1 n b hh
          · exact s1 n b hh
        · obtain ⟨l1,l2,_⟩:=p5 hal (fun k q hq=>he k q (by rw [List.getElem?_append_left (List.getElem?_eq_some_iff.1 hq).1];exact hq)) (fun j0 k q hj _=>by cases hj)
          obtain ⟨k1,k2⟩:=s3 hal (fun k q hq=>by
            have:=he (t.nr+k) q (by rw [List.getElem?_append_right (by omega),p2,Nat.add_sub_cancel_left];exact hq)
            rwa [show n+(t.nr+k)=n+t.nr+k from by omega] at this)
          simp only [resSV,resH,DenL,Den]
          exact ⟨⟨_,vr,rfl,⟨us,rfl,l1⟩,k1⟩,l2.append (by rw [p2];exact k2)⟩
      · cases e
    · cases e
  | .own E t::rs,d,svs0,vs,fz,ow,n,e,hd,hF,L=>by
    obtain ⟨v,svs,rfl⟩:=outR_own e
    simp only [outR] at e
    split at e
    · rename_i x r1 w' hp
      split at e
      · rename_i ps f2 o hr
        simp only [Option.some.injEq,Prod.mk.injEq] at e
        obtain ⟨rfl,rfl,rfl⟩:=e
        simp only [DenL] at hd
        obtain ⟨u,vr,rfl,hu,hvr⟩:=hd
        obtain ⟨v',vr',p1,-,-,p3⟩:=takeRowH_sound (A':=A') m1 hA (lift_l (c:=true) L) hp (vs:=[u]) (by simp only [DenL];exact ⟨u,[],rfl,hu,rfl⟩)
        cases p1
        obtain ⟨s1,s2,s3⟩:=outR_sound m1 hA b0 rs ps svs vr f2 o (n+1) hr hvr hF (lift_r L)
        refine ⟨s1,by simp only [List.length_cons,s2,nOwn],fun hal he => ?_⟩
        obtain ⟨l1,l2⟩:=p3 env' n (he 0 _ rfl)
        obtain ⟨k1,k2⟩:=s3 hal (fun k q hq=>by have:=he (k+1) q (by simpa using hq);rwa [show n+(k+1)=n+1+k from by omega] at this)
        simp only [resSV,resH,DenL]
        exact ⟨⟨u,vr,rfl,l1,k1⟩,l2.1,k2⟩
      · cases e
    · cases e
  | .box E t::rs,d,svs0,vs,fz,ow,n,e,hd,hF,L=>by
    obtain ⟨q,svs,rfl⟩:=outR_box e
    simp only [outR] at e
    split at e
    · rename_i E' cs hl
      split at e
      · rename_i x f1 w' hE hp
        have hE:=Nat.eq_of_beq_eq_true hE
        subst hE
        split at e
        · rename_i ps f2 o hr
          simp only [Option.some.injEq,Prod.mk.injEq] at e
          obtain ⟨rfl,rfl,rfl⟩:=e
          simp only [DenL,Den] at hd
          obtain ⟨u,vr,rfl,⟨kb,lb,hkb,rfl⟩,hvr⟩:=hd
          obtain ⟨⟨us,hus,hdu⟩,_⟩:=m1.live_blk hl hkb
          have hF1:∀ k,FrzBlk env1 f1 k->A2 k:=fun k ⟨n,x,l,hx,he⟩=>hF k ⟨n,x,l,List.mem_append_left _ hx,he⟩
          have hF2:∀ k,FrzBlk env1 f2 k->A2 k:=fun k ⟨n,x,l,hx,he⟩=>hF k ⟨n,x,l,List.mem_append_right _ hx,he⟩
          obtain ⟨p1,p2,us',rs',p3,p4,p5⟩:=oOut_sound (env':=env') m1 hA b0 t none cs us.toList x [] f1 w' [] [] (n+1) hp hdu hF1 (lift_l (c:=true) L) (.inl rfl)
          simp only [DenL] at p4
          subst p4
          rw [List.append_nil] at p3
          subst p3
          obtain ⟨s1,s2,s3⟩:=outR_sound m1 hA b0 rs ps svs vr f2 o (n+1+t.nr) hr hvr hF2 (lift_r L)
          refine ⟨fun n b hh => ?_,by simp only [List.length_cons,List.length_append,p2,s2,nOwn];omega,fun hal he => ?_⟩
          · rcases List.mem_append.1 hh with hh|hh
            · exact p1 n b hh
            · exact s1 n b hh
          · have h0:=he 0 (some q) rfl
            simp only [Nat.add_zero,evOf] at h0
            have he':∀ k q',(w'++o)[k]? = some q'→env' (n+1+k)=evOf env1 q':=fun k q' hq=>by
              have:=he (k+1) q' (by simpa using hq);rwa [show n+(k+1)=n+1+k from by omega] at this
            obtain ⟨l1,l2,_⟩:=p5 hal (fun k q hq=>he' k q (by rw [List.getElem?_append_left (List.getElem?_eq_some_iff.1 hq).1];exact hq)) (fun j0 k q hj _=>by cases hj)
            obtain ⟨k1,k2⟩:=s3 hal (fun k q hq=>by
              have:=he' (t.nr+k) q (by rw [List.getElem?_append_right (by omega),p2,Nat.add_sub_cancel_left];exact hq)
              rwa [show n+1+(t.nr+k)=n+1+t.nr+k from by omega] at this)
            simp only [resSV,resH,DenL,Den]
            refine ⟨⟨_,vr,rfl,⟨kb,lb,by rw [h0];exact hkb,rfl⟩,k1⟩,⟨rfl,_,rfl,rfl,.inl ⟨q,_,rfl,hl,rfl,fun k len hk => ?_,fun hk => ?_⟩⟩,l2.append (by rw [p2];exact k2)⟩
            · rw [hkb] at hk;cases hk
              exact ⟨us,hus,l1⟩
            · rw [hkb] at hk;cases hk
        · cases e
      · cases e
    · cases e
  | .fn f k::rs,d,svs0,vs,fz,ow,n,e,hd,hF,L=>by
    obtain ⟨g,cs,svs,rfl⟩:=outR_fn e
    simp only [outR] at e
    split at e
    · rename_i hf hk
      have hf:=Nat.eq_of_beq_eq_true hf
      have hk:=Nat.eq_of_beq_eq_true hk
      subst hf
      split at e
      · rename_i ps f2 o hr
        simp only [Option.some.injEq,Prod.mk.injEq] at e
        obtain ⟨rfl,rfl,rfl⟩:=e
        simp only [DenL,Den] at hd
        obtain ⟨x,vr,rfl,⟨us,rfl,hu⟩,hvr⟩:=hd
        have hul:=DenL_length hu
        obtain ⟨s1,s2,s3⟩:=outR_sound m1 hA b0 rs ps (cs++svs) (us.toList++vr) f2 o n hr (DenL_append hu hvr) hF L
        refine ⟨s1,s2,fun hal he => ?_⟩
        obtain ⟨k1,k2⟩:=s3 hal he
        refine ⟨?_,k2⟩
        simp only [resSV,DenL,Den]
        refine ⟨_,vr,rfl,⟨us,rfl,?_⟩,?_⟩
        · have:=DenL_take k k1
          rwa [List.take_left' (by omega)] at this
        · have:=DenL_drop k k1
          rwa [List.drop_left' (by omega)] at this
      · cases e
    · cases e
  | [],_,_::_,_,_,_,_,e,_,_,_=>by cases e
  | .val _::_,_,[],_,_,_,_,e,_,_,_=>by cases e
def nBx:List PK->Nat
  | []=>0
  | .val _::r=>nBx r
  | .agg _::r=>nBx r
  | .own _ _::r=>nBx r
  | .ago _::r=>nBx r
  | .fn _ _::r=>nBx r
  | .nils::r=>nBx r
  | .box _ o::r=>o.nb+nBx r+1
  | .row _ _::r=>nBx r+1
theorem oBox_len:∀ {o:OT} {d:o.D} {j i:Nat},(oBox o d j i).length=o.nb
  | .dat _,_,_,_=>rfl
  | .row _ _,_,_,_=>rfl
  | .rowg _ _,_,_,_=>rfl
  | .fnc _,_,_,_=>rfl
  | .ali,_,_,_=>rfl
  | .ref _ o,d,j,i=>by simp only [oBox,List.length_cons,oBox_len (o:=o),OT.nb]
  | .pair a b,d,j,i=>by simp only [oBox,List.length_append,oBox_len (o:=a),oBox_len (o:=b),OT.nb]
theorem boxesOf_len:∀ {ps:List PK} {d:PDs ps} {j i:Nat},(boxesOf ps d j i).length=nBx ps
  | [],_,_,_=>rfl
  | .val t::ps,d,j,i=>boxesOf_len (ps:=ps)
  | .agg t::ps,d,j,i=>boxesOf_len (ps:=ps)
  | .own _ t::ps,d,j,i=>boxesOf_len (ps:=ps)
  | .ago _::ps,d,j,i=>boxesOf_len (ps:=ps)
  | .fn _ _::ps,d,j,i=>boxesOf_len (ps:=ps)
  | .nils::ps,d,j,i=>boxesOf_len (ps:=ps)
  | .box E o::ps,d,j,i=>by simp only [boxesOf,List.length_cons,List.length_append,oBox_len,boxesOf_len (ps:=ps),nBx]
  | .row E t::ps,d,j,i=>by simp only [boxesOf,List.length_cons,boxesOf_len (ps:=ps),nBx]
theorem outB_sound {Nc:Old} (m1:Mod w Nc A1 env1 h1 w1) (hA:∀ b,A1 b->A2 b) (b0:Nat):∀ (ps:List PK) (d:BDs ps) (fz:List (Nat×Nm)) (ow:List (Option Nat)) (bx:List Nat) (j n:Nat),
    outB ps j h1=some (d,fz,ow)->(∀ k,FrzBlk env1 fz k->A2 k)->(psPlain ps=true∨∀ b,A2 b->A' b)->bx.length=nBx ps →
    FrzOk h1 fz/\ow.length=nOwnB ps/\((bx≠[]->env' b0=env1 PN)->(∀ k q,ow[k]? = some q->env' (n+k)=evOf env1 q)->(∀ k q,bx[k]? = some q->env' q=env1 (PN+(j+k))) →
      LinkOK A' env1 h1 env' w1 ow (newU ps d n) n/\(∀ q x,(q,x)∈boxU b0 ps d bx n->BxOut A' env1 h1 env' w1 bx j q x))∧∀ q,q∈bx->q∈(boxU b0 ps d bx n).map (·.1)
  | [],d,fz,ow,bx,j,n,e,hF,L,hl=>by
    simp only [outB,Option.some.injEq,Prod.mk.injEq] at e
    obtain ⟨-,rfl,rfl⟩:=e
    simp only [nBx,List.length_eq_zero_iff] at hl
    subst hl
    exact ⟨fun n b hh=>by simp at hh,rfl,fun _ _ _=>⟨trivial,fun q x hh=>by simp [boxU] at hh⟩,fun q hh=>by simp at hh⟩
  | .val t::ps,d,fz,ow,bx,j,n,e,hF,L,hl=>by
    simp only [boxU,newU,nOwnB]
    exact outB_sound m1 hA b0 ps d fz ow bx j n (by simpa only [outB] using e) hF (by simpa only [psPlain] using L) (by simpa only [nBx] using hl)
  | .agg t::ps,d,fz,ow,bx,j,n,e,hF,L,hl=>by
    simp only [boxU,newU,nOwnB]
    exact outB_sound m1 hA b0 ps d fz ow bx j n (by simpa only [outB] using e) hF (by simpa only [psPlain] using L) (by simpa only [nBx] using hl)
  | .own _ t::ps,d,fz,ow,bx,j,n,e,hF,L,hl=>by
    simp only [boxU,newU,nOwnB]
    exact outB_sound m1 hA b0 ps d fz ow bx j n (by simpa only [outB] using e) hF (by simpa only [psPlain] using L) (by simpa only [nBx] using hl)
  | .ago _::ps,d,fz,ow,bx,j,n,e,hF,L,hl=>by
    simp only [boxU,newU,nOwnB]
    exact outB_sound m1 hA b0 ps d fz ow bx j n (by simpa only [outB] using e) hF (by simpa only [psPlain] using L) (by simpa only [nBx] using hl)
  | .fn _ _::ps,d,fz,ow,bx,j,n,e,hF,L,hl=>by
    simp only [boxU,newU,nOwnB]
    exact outB_sound m1 hA b0 ps d fz ow bx j n (by simpa only [outB] using e) hF (by simpa only [psPlain] using L) (by simpa only [nBx] using hl)
  | .nils::ps,d,fz,ow,bx,j,n,e,hF,L,hl=>by
    simp only [boxU,newU,nOwnB]
    exact outB_sound m1 hA b0 ps d fz ow bx j n (by simpa only [outB] using e) hF (by simpa only [psPlain] using L) (by simpa only [nBx] using hl)
  | .box E o::ps,d,fz,ow,bx,j,n,e,hF,L,hl=>by
    cases bx with
    | nil=>simp [nBx] at hl
    | cons n0 bx =>
    simp only [outB] at e
    split at e
    · rename_i E' cs hlk
      split at e
      · rename_i x f1 w' hE hp
        have hE:=Nat.eq_of_beq_eq_true hE
        subst hE
        split at e
        · rename_i ps' f2 ow2 hr
          simp only [Option.some.injEq,Prod.mk.injEq] at e
          obtain ⟨rfl,rfl,rfl⟩:=e
          simp only [List.length_cons,nBx] at hl
          have hF1:∀ k,FrzBlk env1 f1 k->A2 k:=fun k ⟨n,x,l,hx,he⟩=>hF k ⟨n,x,l,List.mem_append_left _ hx,he⟩
          have hF2:∀ k,FrzBlk env1 f2 k->A2 k:=fun k ⟨n,x,l,hx,he⟩=>hF k ⟨n,x,l,List.mem_append_right _ hx,he⟩
          have hlt:(bx.take o.nb).length=o.nb:=by rw [List.length_take];omega
          have eb:bx.take o.nb++bx.drop o.nb=bx:=List.take_append_drop ..
          obtain ⟨s1,s2,s3,s4⟩:=outB_sound m1 hA b0 ps ps' f2 ow2 (bx.drop o.nb) (j+1+o.nb) (n+o.nr) hr hF2 (lift_r L) (by rw [List.length_drop];omega)
          have hm:=m1.nm (PN+j)
          rw [hlk] at hm
          have hbd:∃ kb lb us,env1 (PN+j) = .blk kb lb/\w1.heap[kb]? = some (.cells us E (0,0))/\DenL A1 env1 w1 cs us.toList:=by
            rcases hm with ⟨k',len',he',⟨us,hus,hdu⟩,_⟩|⟨he',_,_,hb|hb⟩
            · exact ⟨k',len',us,he',hus,hdu⟩
            · cases hb
            · cases hb
          obtain ⟨kb,lb,us,hkb,hus,hdu⟩:=hbd
          obtain ⟨p1,p2,us',rs',p3,p4,p5⟩:=oOut_sound (al:=true) (env':=env') m1 hA b0 o (some (j+1)) cs us.toList x [] f1 w' (bx.take o.nb) (bx.drop o.nb) n hp hdu hF1 (lift_l (c:=true) L) (.inr hlt)
          simp only [DenL] at p4
          subst p4
          rw [List.append_nil] at p3
          subst p3
          rw [eb] at p5
          refine ⟨fun n b hh => ?_,by simp only [List.length_append,p2,s2,nOwnB];omega,fun h0b ho hb => ?_,fun q hq => ?_⟩
          · rcases List.mem_append.1 hh with hh|hh
            · exact p1 n b hh
            · exact s1 n b hh
          · obtain ⟨l1,l2,l3,_⟩:=p5 (fun _=>h0b (by simp)) (fun k q hq=>ho k q (by rw [List.getElem?_append_left (List.getElem?_eq_some_iff.1 hq).1];exact hq))
              (fun j0 k q hj hq=>by
                cases hj
                rw [List.getElem?_take] at hq
                split at hq
                · have:=hb (k+1) q (by simpa using hq)
                  rwa [show j+(k+1)=j+1+k from by omega] at this
                · cases hq)
            obtain ⟨k1,k2⟩:=s3 (fun _=>h0b (by simp)) (fun k q hq=>by
                have:=ho (o.nr+k) q (by rw [List.getElem?_append_right (by omega),p2,Nat.add_sub_cancel_left];exact hq)
                rwa [show n+(o.nr+k)=n+o.nr+k from by omega] at this)
              (fun k q hq=>by
                rw [List.getElem?_drop] at hq
                have:=hb (o.nb+k+1) q (by simpa using hq)
                rwa [show j+(o.nb+k+1)=j+1+o.nb+k from by omega] at this)
            simp only [newU,boxU]
            refine ⟨l2.append (by rw [p2];exact k1),fun q y hh => ?_⟩
            rcases List.mem_cons.1 hh with hh|hh
            · cases hh
              refine ⟨0,_,_,rfl,rfl,rfl,hlk,rfl,fun k len he => ?_,fun he => ?_⟩
              · rw [Nat.add_zero,hkb] at he;cases he
                exact ⟨us,hus,l1⟩
              · rw [Nat.add_zero,hkb] at he;cases he
            · rcases List.mem_append.1 hh with hh|hh
              · obtain ⟨j0,hj,hx⟩:=l3 q y hh
                cases hj
                have:=(BxOut.shift (pre:=[n0]) (j:=j) hx).grow (post:=bx.drop o.nb)
                rwa [List.append_assoc,eb] at this
              · have:=BxOut.shift (pre:=n0::bx.take o.nb) (bx:=bx.drop o.nb) (j:=j) (n:=q) (x:=y) (by rw [List.length_cons,hlt,show j+(o.nb+1)=j+1+o.nb from by omega];exact k2 q y hh)
                rwa [List.cons_append,eb] at this
          · simp only [boxU,List.map_cons,List.map_append]
            rcases List.mem_cons.1 hq with rfl|hq
            · exact List.mem_cons_self ..
            · refine List.mem_cons_of_mem _ ?_
              rw [← eb] at hq
              rcases List.mem_append.1 hq with hq|hq
              · refine List.mem_append_left _ ?_
                have:=xBox_keys (b0:=b0) (o:=o) (x:=x) (n:=n) (more:=bx.drop o.nb) hlt q hq
                rwa [eb] at this
              · exact List.mem_append_right _ (s4 q hq)
        · cases e
      · cases e
    · cases e
  | .row E t::ps,d,fz,ow,bx,j,n,e,hF,L,hl=>by
    cases bx with
    | nil=>simp [nBx] at hl
    | cons n0 bx =>
    simp only [outB] at e
    split at e
    · rename_i E' t' xs hlk
      split at e
      · rename_i ys hE hcl
        have hE:=Nat.eq_of_beq_eq_true hE
        subst hE
        obtain ⟨et,ez⟩:=castL_eq hcl
        subst et
        simp only at ez
        subst ez
        split at e
        · rename_i ps' f2 ow2 hr
          simp only [Option.some.injEq,Prod.mk.injEq] at e
          obtain ⟨rfl,rfl,rfl⟩:=e
          obtain ⟨s1,s2,s3,s4⟩:=outB_sound m1 hA b0 ps ps' f2 ow2 bx (j+1) n hr hF (lift_r L) (by simpa [nBx] using hl)
          have hm:=m1.nm (PN+j)
          rw [hlk] at hm
          refine ⟨s1,s2,fun h0b ho hb => ?_,fun q hq => ?_⟩
          · obtain ⟨k1,k2⟩:=s3 (fun _=>h0b (by simp)) ho (fun k q hq=>by have:=hb (k+1) q (by simpa using hq);rwa [show j+(k+1)=j+1+k from by omega] at this)
            simp only [newU,boxU]
            refine ⟨k1,fun q y hh => ?_⟩
            rcases List.mem_cons.1 hh with hh|hh
            · cases hh
              refine ⟨0,_,_,rfl,rfl,rfl,hlk,rfl,fun k len he => ?_,fun he => ?_⟩
              · rcases hm with ⟨k',len',he',hb,_⟩|⟨he',_⟩
                · rw [Nat.add_zero] at he;rw [he] at he';cases he'
                  obtain ⟨us,cap,g1,g2,g3,g4,g5,g6⟩:=hb
                  exact ⟨us,cap,g1,g2,g3,g4,g5,fun i hi=>Rd_lift (lift_l (c:=true) L) (Rd_mono hA (fun _ _ _=>rfl) _ _ _ _ _ (fun _ _=>rfl) (g6 i hi))⟩
                · rw [Nat.add_zero] at he;rw [he] at he';cases he'
              · rcases hm with ⟨k',len',he',hb,_⟩|⟨he',E2,t2,hb⟩
                · rw [Nat.add_zero] at he;rw [he] at he';cases he'
                · rcases hb with hb|hb <;> cases hb
                  exact ⟨_,_,rfl⟩
            · exact BxOut.shift (pre:=[n0]) (k2 q y hh)
          · simp only [boxU,List.map_cons]
            rcases List.mem_cons.1 hq with rfl|hq
            · exact List.mem_cons_self ..
            · exact List.mem_cons_of_mem _ (s4 q hq)
        · cases e
      · cases e
    · cases e
end
end Go.SX
