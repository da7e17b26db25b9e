/- SX, part 25: package-level variables that hold known data. -/
import Derived.Test.YthmcfealplfaaaaGreatDoorIdent
import Derived.LaidMore
import Derived.Stop.Joined
import Derived.FnData
import Derived.MakeChecks
namespace Go.SX
open Go.ChangeShapes Go.WideShapes Go.ChangeAt Go.RowKit
set_option linter.unusedVariables false
def uz{H:Type}(f:(t:CT)->TypeId->t.D->DataW H):List Field->(t:CT)->t.D->List (DataW H)
 | [],_,_=>[]
 | [fd],t,d=>[f t fd.type d]
 | fd::g::r,.pair a b,(x,y)=>f a fd.type x::uz f (g::r) b y
 | _::_::_,_,_=>[]
def vH{H:Type}(f:(t:CT)->TypeId->t.D->DataW H)(e:TypeId):Nat->(t:CT)->t.D->List (DataW H)
 | 0,_,_=>[]
 | 1,t,d=>[f t e d]
 | n+2,.pair a b,(x,y)=>f a e x::vH f e (n+1) b y
 | _+2,_,_=>[]
def lP{H:Type}(P:Program):Nat->(t:CT)->TypeId->t.D->DataW H
 | 0,_,_,_ => .agg []
 | n+1,t,τ,d=>match P.underlying τ,t,d with
  | some (.int k),.int _,d => .lit (.int k d)
  | some .bool,.bool,d => .lit (.bool d)
  | some (.struct fs),t,d => .agg (uz (lP P n) fs.toList t d)
  | some (.array k e),t,d => .agg (vH (lP P n) e k t d)
  | _,_,_ => .agg []
def pP:CT->Bool
 | .int _=>true
 | .bool=>true
 | .pair a b=>pP a&&pP b
 | _=>false
section
variable {H:Type} {enc:TypeId×Value->H} {P:Program} {w:World} {base:Nat} {held:Bool}
theorem NM{A:Nat->Prop}{f:CT->TypeId->Bool}{F:(t:CT)->TypeId->t.D->DataW H}{cs:List Value}{n:Nat}
  (hf:∀ t τ cs d p,f t τ=true->pP t=true->DataW.trod enc P w base (fun _=>true) held n τ cs=some (F t τ d,p)->Rd A w t (fun j=>cs[j]?) 0 d) :
  ∀(fs:List Field)(t:CT)(o:Nat)(d:t.D)(xs:List (DataW H×List MemPlace)),qI P f fs t o=true->pP t=true->xs.length=fs.length->xs.map (·.1)=uz F fs t d →
   (∀ i (h1:i<fs.length) (h2:i<xs.length),DataW.trod enc P w base (fun _=>true) held n fs[i].type ((cs.drop fs[i].offset).take (P.cellsOf fs[i].type))=some xs[i])->Rd A w t (fun j=>cs[j]?) o d
 | [],t,o,d,xs,h,_,_,_,_=>by cases h
 | [fd],t,o,d,xs,h,ht,hl,he,hx=>by
  simp only[qI,Bool.and_eq_true] at h
  obtain⟨⟨h1,h2⟩,h3⟩:=h
  have h2:=Nat.eq_of_beq_eq_true h2
  have h3:=Nat.eq_of_beq_eq_true h3
  match xs,hl with
  | [x],_ =>
   have:=hx 0 (by simp) (by simp)
   simp only[List.getElem_cons_zero] at this
   simp only[List.map_cons,List.map_nil,uz,List.cons.injEq,and_true] at he
   have hd:=hf t fd.type _ d x.2 h1 ht (by rw[this,← he])
   rw[h2] at hd
   exact su h3 hd
 | fd::g::r,.pair a b,o,(d1,d2),xs,h,ht,hl,he,hx=>by
  simp only[qI,Bool.and_eq_true] at h
  obtain⟨⟨⟨h1,h2⟩,h3⟩,h4⟩:=h
  simp only[pP,Bool.and_eq_true] at ht
  have h2:=Nat.eq_of_beq_eq_true h2
  have h3:=Nat.eq_of_beq_eq_true h3
  match xs,hl with
  | x::ys,hl =>
   simp only[List.map_cons,uz,List.cons.injEq] at he
   have:=hx 0 (by simp) (by simp)
   simp only[List.getElem_cons_zero] at this
   have hd:=hf a fd.type _ d1 x.2 h1 ht.1 (by rw[this,← he.1])
   rw[h2] at hd
   have hd':=NM hf (g::r) b (o+a.size) d2 ys h4 ht.2 (by simpa using hl) he.2 (fun i k1 k2=>by
    have:=hx (i+1) (by simpa using k1) (by simpa using k2)
    simpa only[List.getElem_cons_succ] using this)
   exact⟨su h3 hd,hd'⟩
 | _::_::_,.int _,_,_,_,h,_,_,_,_=>by cases h
 | _::_::_,.bool,_,_,_,h,_,_,_,_=>by cases h
 | _::_::_,.str,_,_,_,h,_,_,_,_=>by cases h
 | _::_::_,.sl _,_,_,_,h,_,_,_,_=>by cases h
theorem NR{A:Nat->Prop}{f:CT->TypeId->Bool}{F:(t:CT)->TypeId->t.D->DataW H}{cs:List Value}{n:Nat}{e:TypeId}
  (hf:∀ t τ cs d p,f t τ=true->pP t=true->DataW.trod enc P w base (fun _=>true) held n τ cs=some (F t τ d,p)->Rd A w t (fun j=>cs[j]?) 0 d) :
  ∀(k:Nat)(t:CT)(i:Nat)(d:t.D)(xs:List (DataW H×List MemPlace)),qS P f e k t=true->pP t=true->xs.length=k->xs.map (·.1)=vH F e k t d →
   (∀ j (h2:j<xs.length),DataW.trod enc P w base (fun _=>true) held n e ((cs.drop ((i+j)*P.cellsOf e)).take (P.cellsOf e))=some xs[j])->Rd A w t (fun j=>cs[j]?) (i*P.cellsOf e) d
 | 0,t,i,d,xs,h,_,_,_,_=>by cases h
 | 1,t,i,d,xs,h,ht,hl,he,hx=>by
  simp only[qS,Bool.and_eq_true] at h
  obtain⟨h1,h2⟩:=h
  have h2:=Nat.eq_of_beq_eq_true h2
  match xs,hl with
  | [x],_ =>
   have:=hx 0 (by simp)
   simp only[List.getElem_cons_zero] at this
   simp only[List.map_cons,List.map_nil,vH,List.cons.injEq,and_true] at he
   have hd:=hf t e _ d x.2 h1 ht (by rw[this,← he])
   exact su h2 hd
 | k+2,.pair a b,i,(d1,d2),xs,h,ht,hl,he,hx=>by
  simp only[qS,Bool.and_eq_true] at h
  obtain⟨⟨h1,h2⟩,h4⟩:=h
  simp only[pP,Bool.and_eq_true] at ht
  have h2:=Nat.eq_of_beq_eq_true h2
  match xs,hl with
  | x::ys,hl =>
   simp only[List.map_cons,vH,List.cons.injEq] at he
   have:=hx 0 (by simp)
   simp only[List.getElem_cons_zero] at this
   have hd:=hf a e _ d1 x.2 h1 ht.1 (by rw[this,← he.1])
   have hd':=NR hf (k+1) b (i+1) d2 ys h4 ht.2 (by simpa using hl) he.2 (fun j k2=>by
    have:=hx (j+1) (by simpa using k2)
    simp only[List.getElem_cons_succ] at this
    rw[← this];congr 4;omega)
   refine⟨su h2 hd,?_⟩
   rw[Nat.add_mul,Nat.one_mul] at hd'
   rw[← h2];exact hd'
 | _+2,.int _,_,_,_,h,_,_,_,_=>by cases h
 | _+2,.bool,_,_,_,h,_,_,_,_=>by cases h
 | _+2,.str,_,_,_,h,_,_,_,_=>by cases h
 | _+2,.sl _,_,_,_,h,_,_,_,_=>by cases h
theorem BT:∀(n:Nat)(t:CT)(τ:TypeId)(fuel:Nat)(cs:List Value)(d:t.D)(p:List MemPlace),jE P n t τ=true->pP t=true->DataW.trod enc P w base (fun _=>true) held fuel τ cs=some (lP P n t τ d,p) →
  Rd (fun b=>b<w.heap.size) w t (fun j=>cs[j]?) 0 d
 | 0,t,τ,fuel,cs,d,p,h,_,_=>by cases h
 | n+1,t,τ,fuel,cs,d,p,h,ht,hx=>by
  cases hu:P.underlying τ with
  | none=>cases t <;> simp[jE,hu] at h
  | some ty =>
   cases ty with
   | int k =>
    cases t with
    | int k' =>
     simp only[jE,hu] at h
     cases jk h
     obtain⟨m,rfl,e,hw⟩:=DataW.trod_int hu hx
     unfold lP at e
     rw[hu] at e
     simp only[Prod.mk.injEq,DataW.lit.injEq,Lit.int.injEq,true_and] at e
     obtain⟨rfl,-⟩:=e
     exact⟨by simp,JH hw⟩
    | _=>simp[jE,hu] at h
   | bool =>
    cases t with
    | bool =>
     obtain⟨b,rfl,e⟩:=DataW.trod_bool hu hx
     unfold lP at e
     rw[hu] at e
     simp only[Prod.mk.injEq,DataW.lit.injEq,Lit.bool.injEq] at e
     obtain⟨rfl,-⟩:=e
     simp[Rd]
    | _=>simp[jE,hu] at h
   | struct fs =>
    have h':qI P (jE P n) fs.toList t 0=true:=by cases t <;> simpa[jE,hu] using h
    have ed:lP (H:=H) P (n+1) t τ d = .agg (uz (lP P n) fs.toList t d):=by
     cases t <;> first|(cases ht;done)|(unfold lP;rw[hu])
    obtain⟨xs,m,_,e,hl,hlen,hf⟩:=DataW.trod_struct hu hx
    rw[ed] at e
    simp only[Prod.mk.injEq,DataW.agg.injEq] at e
    refine NM (F:=lP P n) (n:=m) (fun t τ cs d p h1 h2 h3=>BT n t τ m cs d p h1 h2 h3) fs.toList _ 0 d xs h' ht (by simpa using hlen) e.1.symm fun i h1 h2=>?_
    have:=hf i fs[i] (Array.getElem?_eq_getElem (by simpa using h1))
    rw[List.getElem?_eq_getElem h2] at this
    simpa using this
   | array k e' =>
    have h':qS P (jE P n) e' k t=true:=by cases t <;> simpa[jE,hu] using h
    have ed:lP (H:=H) P (n+1) t τ d = .agg (vH (lP P n) e' k t d):=by
     cases t <;> first|(cases ht;done)|(unfold lP;rw[hu])
    obtain⟨xs,m,_,e,hl,hlen,hf⟩:=DataW.trod_array hu hx
    rw[ed] at e
    simp only[Prod.mk.injEq,DataW.agg.injEq] at e
    have:=NR (F:=lP P n) (n:=m) (cs:=cs) (e:=e') (fun t τ cs d p h1 h2 h3=>BT n t τ m cs d p h1 h2 h3) k _ 0 d xs h' ht hlen e.1.symm fun j h2=>by
     have:=hf j (by omega)
     rw[List.getElem?_eq_getElem h2] at this
     simpa using this
    simpa using this
   | _=>cases t <;> first|(cases ht;done)|(simp[jE,hu] at h;done)
end
theorem globs_one{P:Program}{w:World}{name:String}{t:CT}{v:t.D}{g n:Nat}{τ:TypeId}{d:DataW Unit}(h:laidMetH P [(name,d)] w)(hh:([(name,d)].all fun x=>x.2.handleName?.isNone)=true)
  (hg:P.globalNamed name=some g) (hτ:(P.globals[g]?).map (·.type)=some τ) (hf:jE P n t τ=true) (hs:pP t=true) (hd:d=lP P n t τ v) :
  g<w.heap.size/\Rd (fun b=>b<w.heap.size) w t (fun o=>w.cell? ⟨g,o,none⟩) 0 v:=by
 rw[MakeChecks.laidMetH_plain _ _ _ hh] at h
 obtain⟨ps,⟨g0,t0,cs0,f0,p0,q0,hg0,ht0,hv0,hd0,_,_⟩,_,_⟩:=h
 obtain rfl:=Option.some.inj (hg.symm.trans hg0)
 obtain rfl:=Option.some.inj (hτ.symm.trans ht0)
 rw[hd] at hd0
 have hr:=BT n t τ f0 cs0.toList v p0 hf hs hd0
 have hlt:g<w.heap.size:=by
  have hv:=hv0
  simp only[World.var?,hg,Option.bind_some] at hv
  split at hv
  ·rename_i hb;exact (Array.getElem?_eq_some_iff.1 hb).1
  ·cases hv
 refine⟨hlt,?_⟩
 refine fA (fun _ h=>h) (fun _ _ _=>rfl) t _ _ _ _ (fun j hj=>?_) hr
 have:=World.var?_cell hg hv0 j
 rw[Nat.zero_add,this];simp
end Go.SX
