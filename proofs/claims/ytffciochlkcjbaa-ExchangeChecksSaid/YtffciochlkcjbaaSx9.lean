/- The symbolic executor SX, part 1: data types, symbolic values, what they denote in a world, and how that is kept when the world grows. -/
import Derived.WalkKit
import Derived.LoopTactic
import Derived.Deep.LoopGhost
import Derived.Deep.MidRow
import Derived.Laws.Entries
import Derived.Laws.StructEq
namespace Go.SX
set_option linter.unusedVariables false
inductive CT where
 | int (k:IntKind)
 | bool
 | str
 | sl (t:CT)
 | pair (a b:CT)
 deriving DecidableEq
@[reducible] def CT.D:CT->Type
 | .int _=>Int
 | .bool=>Bool
 | .str=>ByteArray
 | .sl t=>List t.D
 | .pair a b=>a.D×b.D
def CT.size:CT->Nat
 | .pair a b=>a.size+b.size
 | _=>1
theorem CT.size_pos(t:CT):0<t.size:=by
 induction t with
 | pair a b iha ihb=>simp only[CT.size];omega
 | _=>simp[CT.size]
def CT.dflt:(t:CT)->t.D
 | .int _=>(0:Int)
 | .bool=>false
 | .str=>ByteArray.empty
 | .sl _=>[]
 | .pair a b=>(a.dflt,b.dflt)
def cw(t:CT)(xs:List t.D)(i:Nat):t.D:=xs.getD i t.dflt
def CT.wf:(t:CT)->t.D->Prop
 | .int k,n=>k.has n
 | .bool,_=>True
 | .str,s=>s.size<=maxLen
 | .sl t,xs=>xs.length<=maxLen∧∀ x∈xs,t.wf x
 | .pair a b,d=>a.wf d.1/\b.wf d.2
inductive SV where
 | int (k:IntKind) (n:Int)
 | bool (b:Bool)
 | str (s:ByteArray)
 | dsl (t:CT) (xs:List t.D)
 | dsx (t:CT) (xs:List t.D)
 | nilsl
 | own (n sz:Nat)
 | ptr (n off:Nat)
 | eptr (n sz i off:Nat)
 | dptr (t:CT) (d:t.D) (off:Nat)
 | nilp
 | fn (f:FuncId) (caps:List SV)
 | agg (cs:List SV)
 | tup (cs:List SV)
 | opt (b:Bool) (v:SV)
 | cv (v:Value)
 | gl (g:Nat)
 | csl (n len:Nat)
 | mapp (n:Nat)
 | part (n sz lo len:Nat)
 | hv (i:Nat) (s:SV)
 | junk
inductive cU where
 | cells (E:TypeId) (cs:List SV)
 | row (E:TypeId) (t:CT) (xs:List t.D)
 | frz (E:TypeId) (t:CT) (xs:List t.D)
 | mp (kk vk:IntKind) (l:List (Int×Int))
 | opn (E:TypeId) (t:CT) (xs:List t.D) (i:Nat) (cs:List SV)
def cU.mut:cU->Bool
 | .frz .. => false
 | _=>true
inductive Nm where
 | un
 | dead
 | live (b:cU)
inductive Ev where
 | un
 | nil
 | blk (b:Nat) (len:Nat×Nat)
 | val (v:Value) (s:SV)
abbrev aI:=Nat->Nm
abbrev ai:=Nat->Ev
def Rd(A:Nat->Prop)(w:World):(t:CT)->(Nat->Option Value)->Nat->t.D->Prop
 | .int k,cv,o,n=>cv o=some (.int k n)/\k.has n
 | .bool,cv,o,b=>cv o=some (.bool b)
 | .str,cv,o,s=>cv o=some (.string s)/\s.size<=maxLen
 | .sl t,cv,o,xs=>∃ v,cv o=some v/\xs.length<=maxLen/\(((∃ a,v = .slice a 0 0)/\xs=[]) ∨
   ∃ b off cap,v = .slice (some ⟨b,off,none⟩) xs.length cap/\xs.length<=cap/\cap<=maxLen/\A b ∧
    ∀ i (h:i<xs.length),Rd A w t (fun o=>w.cell? ⟨b,o,none⟩) (off+i*t.size) xs[i])
 | .pair a b,cv,o,d=>Rd A w a cv o d.1/\Rd A w b cv (o+a.size) d.2
def ep(A:Nat->Prop)(w:World)(t:CT)(v:Value)(xs:List t.D):Prop :=
 xs.length<=maxLen/\(((∃ a,v = .slice a 0 0)/\xs=[]) ∨
  ∃ b off cap,v = .slice (some ⟨b,off,none⟩) xs.length cap/\xs.length<=cap/\cap<=maxLen/\A b ∧
   ∀ i (h:i<xs.length),Rd A w t (fun o=>w.cell? ⟨b,o,none⟩) (off+i*t.size) xs[i])
theorem gf{A:Nat->Prop}{w:World}{t:CT}{cv:Nat->Option Value}{o:Nat}{xs:List t.D} :
  Rd A w (.sl t) cv o xs↔∃ v,cv o=some v/\ep A w t v xs:=Iff.rfl
theorem bR{A A':Nat->Prop}{w w':World}(hA:∀ b,A b->A' b)(hw:∀ b o,A b->w'.cell? ⟨b,o,none⟩=w.cell? ⟨b,o,none⟩) :
  ∀(t:CT)(cv cv':Nat->Option Value)(o:Nat)(d:t.D),(∀ j,j<t.size->cv' (o+j)=cv (o+j))->Rd A w t cv o d->Rd A' w' t cv' o d:=by
 intro t
 induction t with
 | int k=>intro cv cv' o d hc h;have:=hc 0 (by simp[CT.size]);simp only[Nat.add_zero] at this;simp only[Rd] at h ⊢;rw[this];exact h
 | bool=>intro cv cv' o d hc h;have:=hc 0 (by simp[CT.size]);simp only[Nat.add_zero] at this;simp only[Rd] at h ⊢;rw[this];exact h
 | str=>intro cv cv' o d hc h;have:=hc 0 (by simp[CT.size]);simp only[Nat.add_zero] at this;simp only[Rd] at h ⊢;rw[this];exact h
 | sl t ih =>
  intro cv cv' o d hc h
  have:=hc 0 (by simp[CT.size]);simp only[Nat.add_zero] at this
  simp only[Rd] at h ⊢;rw[this]
  obtain⟨v,hv,hl,h⟩:=h
  refine⟨v,hv,hl,?_⟩
  rcases h with h|⟨b,off,cap,rfl,h1,h2,h3,h4⟩
  ·exact .inl h
  ·exact .inr ⟨b,off,cap,rfl,h1,h2,hA b h3,fun i hi=>ih _ _ _ _ (fun j _=>hw b _ h3) (h4 i hi)⟩
 | pair a b iha ihb =>
  intro cv cv' o d hc h
  refine⟨iha _ _ _ _ (fun j hj=>hc j (by simp only[CT.size];omega)) h.1,ihb _ _ _ _ (fun j hj=>?_) h.2⟩
  have:=hc (a.size+j) (by simp only[CT.size];omega)
  simpa[Nat.add_assoc] using this
theorem mS{A:Nat->Prop}{w:World}:∀(t:CT)(cv:Nat->Option Value)(o:Nat)(d:t.D),Rd A w t cv o d->t.wf d:=by
 intro t
 induction t with
 | int k=>intro cv o d h;exact h.2
 | bool=>intro cv o d h;trivial
 | str=>intro cv o d h;exact h.2
 | sl t ih =>
  intro cv o d h
  obtain⟨v,hv,hl,h⟩:=h
  refine⟨hl,?_⟩
  rcases h with⟨_,rfl⟩|⟨b,off,cap,_,_,_,_,h4⟩
  ·intro x hx;simp at hx
  ·intro x hx
   obtain⟨i,hi,rfl⟩:=List.mem_iff_getElem.1 hx
   exact ih _ _ _ (h4 i hi)
 | pair a b iha ihb=>intro cv o d h;exact⟨iha _ _ _ h.1,ihb _ _ _ h.2⟩
mutual
def aa(A:Nat->Prop)(env:ai)(w:World):SV->Value->Prop
 | .int k n,v=>v = .int k n/\k.has n
 | .bool b,v=>v = .bool b
 | .str s,v=>v = .string s/\s.size<=maxLen
 | .dsl t xs,v=>ep A w t v xs
 | .nilsl,v=>v = .slice none 0 0
 | .dsx t xs,v=>ep A w t v xs∧∃ a,v = .slice a xs.length xs.length
 | .own n sz,v=>(env n = .nil∧∃ a,v = .slice a 0 0)∨∃ b len E c,env n = .blk b len/\w.shape? b=some (E,c)/\v = .slice (some ⟨b,len.1,none⟩) len.2 ((c-len.1)/sz)
 | .ptr n off,v=>∃ b len,env n = .blk b len/\v = .pointer (some ⟨b,off,none⟩)
 | .eptr n sz i off,v=>∃ b len,env n = .blk b len/\i<len.2/\v = .pointer (some ⟨b,len.1+(i*sz+off),none⟩)
 | .dptr t d off,v=>∃ b o,v = .pointer (some ⟨b,o+off,none⟩)/\A b/\Rd A w t (fun o=>w.cell? ⟨b,o,none⟩) o d
 | .nilp,v=>v = .pointer none
 | .fn f caps,v=>∃ vs,v = .func (.func f) #[] vs/\ac A env w caps vs.toList
 | .agg cs,v=>∃ vs,v = .agg vs/\ac A env w cs vs.toList
 | .tup cs,v=>∃ vs,v = .tuple vs/\ac A env w cs vs.toList
 | .opt b s,v=>match b with|true=>aa A env w s v|false=>v=undef
 | .cv x,v=>v=x
 | .gl g,v=>v = .pointer (some ⟨g,0,none⟩)
 | .csl n len,v=>∃ b l,(env n = .blk b l/\l.1=0)/\v = .slice (some ⟨b,0,none⟩) len len
 | .mapp n,v=>∃ b l,env n = .blk b l/\v = .map (some b)
 | .part n sz lo len,v=>(len=0∧∃ a,v = .slice a 0 0)∨∃ b l E c,env n = .blk b l/\lo+len<=l.2/\w.shape? b=some (E,c)/\v = .slice (some ⟨b,l.1+lo*sz,none⟩) len ((c-l.1)/sz-lo)
 | .hv i s,v=>env i = .val v s/\v.oneCell'=true
 | .junk,_=>True
def ac(A:Nat->Prop)(env:ai)(w:World):List SV->List Value->Prop
 | [],vs=>vs=[]
 | s::ss,vs=>∃ v r,vs=v::r/\aa A env w s v/\ac A env w ss r
end
structure aW (A:Nat->Prop) (env:ai) (w:World) (A':Nat->Prop) (env':ai) (w':World):Prop where
 imm:∀ b,A b->A' b
 envb:∀ n b l,env n = .blk b l->env' n = .blk b l
 envn:∀ n,env n = .nil->env' n = .nil
 envv:∀ n v s,env n = .val v s->env' n = .val v s
 keep:∀ b o,A b->w'.cell? ⟨b,o,none⟩=w.cell? ⟨b,o,none⟩
 shape:∀ b s,w.shape? b=some s->w'.shape? b=some s
theorem aW.refl{A:Nat->Prop}{env:ai}{w:World}:aW A env w A env w:=⟨fun _ h=>h,fun _ _ _ h=>h,fun _ h=>h,fun _ _ _ h=>h,fun _ _ _=>rfl,fun _ _ h=>h⟩
theorem aW.trans{A A' A'':Nat->Prop}{env env' env'':ai}{w w' w'':World}(h:aW A env w A' env' w')(k:aW A' env' w' A'' env'' w''):aW A env w A'' env'' w'' :=
 ⟨fun b hb=>k.imm b (h.imm b hb),fun n b l e=>k.envb n b l (h.envb n b l e),fun n e=>k.envn n (h.envn n e),fun n v s e=>k.envv n v s (h.envv n v s e),
  fun b o hb=>(k.keep b o (h.imm b hb)).trans (h.keep b o hb),fun b s e=>k.shape b s (h.shape b s e)⟩
theorem m7{A A':Nat->Prop}{w w':World}(hA:∀ b,A b->A' b)(hw:∀ b o,A b->w'.cell? ⟨b,o,none⟩=w.cell? ⟨b,o,none⟩)
  {t:CT} {v:Value} {xs:List t.D} (h:ep A w t v xs):ep A' w' t v xs:=by
 have:=bR hA hw (.sl t) (fun _=>some v) (fun _=>some v) 0 xs (fun _ _=>rfl) ⟨v,rfl,h⟩
 obtain⟨v',hv,h'⟩:=this
 cases hv
 exact h'
mutual
theorem gC{A A':Nat->Prop}{env env':ai}{w w':World}(x:aW A env w A' env' w'):∀(s:SV)(v:Value),aa A env w s v->aa A' env' w' s v
 | .int k n,v,h=>by simp only[aa] at h ⊢;exact h
 | .bool b,v,h=>by simp only[aa] at h ⊢;exact h
 | .str s,v,h=>by simp only[aa] at h ⊢;exact h
 | .dsl t xs,v,h=>by simp only[aa] at h ⊢;exact m7 x.imm x.keep h
 | .nilsl,v,h=>by simp only[aa] at h ⊢;exact h
 | .dsx t xs,v,h=>by simp only[aa] at h ⊢;exact⟨m7 x.imm x.keep h.1,h.2⟩
 | .own n sz,v,h=>by
  simp only[aa] at h ⊢
  rcases h with⟨h1,h2⟩|⟨b,len,E,c,h1,h2,h3⟩
  ·exact .inl ⟨x.envn _ h1,h2⟩
  ·exact .inr ⟨b,len,E,c,x.envb _ _ _ h1,x.shape _ _ h2,h3⟩
 | .ptr n off,v,h=>by simp only[aa] at h ⊢;obtain⟨b,len,h1,h2⟩:=h;exact⟨b,len,x.envb _ _ _ h1,h2⟩
 | .eptr n sz i off,v,h=>by simp only[aa] at h ⊢;obtain⟨b,len,h1,h2⟩:=h;exact⟨b,len,x.envb _ _ _ h1,h2⟩
 | .dptr t d off,v,h=>by
  simp only[aa] at h ⊢
  obtain⟨b,o,h1,h2,h3⟩:=h
  exact⟨b,o,h1,x.imm _ h2,bR x.imm x.keep t _ _ _ _ (fun j _=>x.keep _ _ h2) h3⟩
 | .nilp,v,h=>by simp only[aa] at h ⊢;exact h
 | .fn f caps,v,h=>by simp only[aa] at h ⊢;obtain⟨vs,h1,h2⟩:=h;exact⟨vs,h1,gg x caps _ h2⟩
 | .agg cs,v,h=>by simp only[aa] at h ⊢;obtain⟨vs,h1,h2⟩:=h;exact⟨vs,h1,gg x cs _ h2⟩
 | .tup cs,v,h=>by simp only[aa] at h ⊢;obtain⟨vs,h1,h2⟩:=h;exact⟨vs,h1,gg x cs _ h2⟩
 | .opt b s,v,h=>by
  cases b with
  | true=>simp only[aa] at h ⊢;exact gC x s v h
  | false=>simp only[aa] at h ⊢;exact h
 | .cv y,v,h=>by simp only[aa] at h ⊢;exact h
 | .gl g,v,h=>by simp only[aa] at h ⊢;exact h
 | .csl n len,v,h=>by simp only[aa] at h ⊢;obtain⟨b,l,h1,h2⟩:=h;exact⟨b,l,⟨x.envb _ _ _ h1.1,h1.2⟩,h2⟩
 | .mapp n,v,h=>by simp only[aa] at h ⊢;obtain⟨b,l,h1,h2⟩:=h;exact⟨b,l,x.envb _ _ _ h1,h2⟩
 | .part n sz lo len,v,h=>by
  simp only[aa] at h ⊢
  rcases h with h|⟨b,l,E,c,h1,h2,h3,h4⟩
  ·exact .inl h
  ·exact .inr ⟨b,l,E,c,x.envb _ _ _ h1,h2,x.shape _ _ h3,h4⟩
 | .hv i s,v,h=>by simp only[aa] at h ⊢;exact⟨x.envv _ _ _ h.1,h.2⟩
 | .junk,v,h=>by simp only[aa]
theorem gg{A A':Nat->Prop}{env env':ai}{w w':World}(x:aW A env w A' env' w'):∀(ss:List SV)(vs:List Value),ac A env w ss vs->ac A' env' w' ss vs
 | [],vs,h=>by simp only[ac] at h ⊢;exact h
 | s::ss,vs,h=>by
  simp only[ac] at h ⊢
  obtain⟨v,r,h1,h2,h3⟩:=h
  exact⟨v,r,h1,gC x s v h2,gg x ss r h3⟩
end
theorem cm{A:Nat->Prop}{env:ai}{w:World}:∀{ss:List SV}{vs:List Value},ac A env w ss vs->vs.length=ss.length
 | [],vs,h=>by simp only[ac] at h;simp[h]
 | s::ss,vs,h=>by
  simp only[ac] at h
  obtain⟨v,r,rfl,_,h3⟩:=h
  simp[cm h3]
theorem iN{A:Nat->Prop}{env:ai}{w:World}:∀{ss:List SV}{vs:List Value}(i:Nat)(s:SV) ,ac A env w ss vs->ss[i]? = some s→∃ v,vs[i]? = some v/\aa A env w s v
 | [],vs,i,s,h,hi=>by simp at hi
 | s0::ss,vs,i,s,h,hi=>by
  simp only[ac] at h
  obtain⟨v,r,rfl,h2,h3⟩:=h
  cases i with
  | zero=>simp at hi;subst hi;exact⟨v,by simp,h2⟩
  | succ i =>
   obtain⟨u,hu,hd⟩:=iN i s h3 (by simpa using hi)
   exact⟨u,by simpa using hu,hd⟩
theorem hB{A:Nat->Prop}{env:ai}{w:World}:∀{ss tt:List SV}{vs us:List Value},ac A env w ss vs->ac A env w tt us->ac A env w (ss++tt) (vs++us)
 | [],tt,vs,us,h,k=>by simp only[ac] at h;subst h;simpa using k
 | s::ss,tt,vs,us,h,k=>by
  simp only[ac] at h
  obtain⟨v,r,rfl,h2,h3⟩:=h
  simp only[List.cons_append,ac]
  exact⟨v,r++us,rfl,h2,hB h3 k⟩
def SV.one:SV->Bool
 | .agg _ | .tup _ | .opt _ _ | .junk=>false
 | .cv (.agg _) | .cv (.tuple _)=>false
 | _=>true
theorem n5{A:Nat->Prop}{env:ai}{w:World}{s:SV}{v:Value}(h:aa A env w s v)(ho:s.one=true):v.oneCell'=true:=by
 cases s <;> simp only[SV.one,Bool.false_eq_true] at ho <;> simp only[aa] at h
 case int=>rw[h.1];rfl
 case bool=>rw[h];rfl
 case str=>rw[h.1];rfl
 case dsl=>obtain⟨_,⟨⟨a,rfl⟩,_⟩|⟨b,off,cap,rfl,_⟩⟩:=h <;> rfl
 case dsx=>obtain⟨_,a,rfl⟩:=h;rfl
 case nilsl=>rw[h];rfl
 case own=>rcases h with⟨_,a,rfl⟩|⟨b,len,E,c,_,_,rfl⟩ <;> rfl
 case ptr=>obtain⟨b,len,_,rfl⟩:=h;rfl
 case eptr=>obtain⟨b,len,_,_,rfl⟩:=h;rfl
 case dptr=>obtain⟨b,off,rfl,_⟩:=h;rfl
 case nilp=>rw[h];rfl
 case fn=>obtain⟨vs,rfl,_⟩:=h;rfl
 case gl=>rw[h];rfl
 case csl=>obtain⟨b,l,_,rfl⟩:=h;rfl
 case mapp=>obtain⟨b,l,_,rfl⟩:=h;rfl
 case part=>rcases h with⟨_,a,rfl⟩|⟨b,l,E,c,_,_,_,rfl⟩ <;> rfl
 case hv=>exact h.2
 case cv x=>rw[h];cases x <;> first|rfl|simp_all
def gp:List SV->Bool
 | []=>true
 | s::ss=>s.one&&gp ss
theorem ly{A:Nat->Prop}{env:ai}{w:World}:∀{ss:List SV}{vs:List Value},ac A env w ss vs->gp ss=true→∀ v∈vs,v.oneCell'=true
 | [],vs,h,_=>by simp only[ac] at h;subst h;simp
 | s::ss,vs,h,ho=>by
  simp only[ac] at h
  obtain⟨v,r,rfl,h2,h3⟩:=h
  simp only[gp,Bool.and_eq_true] at ho
  intro u hu
  rcases List.mem_cons.1 hu with rfl|hu
  ·exact n5 h2 ho.1
  ·exact ly h3 ho.2 u hu
def SV.cells:SV->List SV
 | .agg cs=>cs
 | s=>[s]
end Go.SX

/- SX, part 2: a symbolic heap and the world that it describes; what an operation's change of the world asks. -/
namespace Go.SX
set_option linter.unusedVariables false
def ef(A:Nat->Prop)(w:World)(k:Nat)(len:Nat×Nat)(E:TypeId)(t:CT)(xs:List t.D):Prop :=
 ∃ vs cap,w.heap[k]? = some (.cells vs E (0,0))/\vs.size=len.1+cap*t.size/\xs.length=len.2/\len.2<=cap/\cap<=maxLen ∧
  ∀ i (h:i<xs.length),Rd A w t (fun o=>vs[o]?) (len.1+i*t.size) xs[i]
def cL(A:Nat->Prop)(env:ai)(w:World)(k:Nat)(len:Nat×Nat):cU->Prop
 | .cells E cs=>∃ vs,w.heap[k]? = some (.cells vs E (0,0))/\ac A env w cs vs.toList
 | .row E t xs=>ef A w k len E t xs
 | .frz E t xs=>A k/\ef A w k len E t xs
 | .mp kk vk l=>∃ es clk,w.heap[k]? = some (.map es clk)/\es.toList.map (fun e=>(e.key,e.val))=l.map (fun p=>(Value.int kk p.1,Value.int vk p.2))∧∀ p∈l,vk.has p.2
 | .opn E t xs i cs=>∃ vs cap es,w.heap[k]? = some (.cells vs E (0,0))/\vs.size=len.1+cap*t.size/\xs.length=len.2/\len.2<=cap/\cap<=maxLen/\i<len.2 ∧
   es.length=t.size/\(∀ q,q<t.size->vs[len.1+i*t.size+q]? = es[q]?)/\ac A env w cs es ∧
   ∀ j (h:j<xs.length),j≠i->Rd A w t (fun o=>vs[o]?) (len.1+j*t.size) xs[j]
def jB(A:Nat->Prop)(env:ai)(w:World)(n:Nat):Nm->Prop
 | .un=>env n = .un
 | .dead=>True
 | .live b=>(∃ k len,env n = .blk k len/\cL A env w k len b/\(b.mut=true→¬ A k)) ∨
   (env n = .nil∧∃ E t,b = .row E t []∨b = .frz E t [])
theorem cL.lt{A:Nat->Prop}{env:ai}{w:World}{k:Nat}{len:Nat×Nat}{b:cU}(h:cL A env w k len b):k<w.heap.size:=by
 cases b with
 | cells E cs=>obtain⟨vs,h,_⟩:=h;exact (Array.getElem?_eq_some_iff.1 h).1
 | row E t xs=>obtain⟨vs,cap,h,_⟩:=h;exact (Array.getElem?_eq_some_iff.1 h).1
 | frz E t xs=>obtain⟨_,vs,cap,h,_⟩:=h;exact (Array.getElem?_eq_some_iff.1 h).1
 | mp kk vk l=>obtain⟨es,clk,h,_⟩:=h;exact (Array.getElem?_eq_some_iff.1 h).1
 | opn E t xs i cs=>obtain⟨vs,cap,es,h,_⟩:=h;exact (Array.getElem?_eq_some_iff.1 h).1
theorem rK{A A':Nat->Prop}{env env':ai}{w w':World}(x:aW A env w A' env' w'){k:Nat}{len:Nat×Nat}(hk:w'.heap[k]? = w.heap[k]?)
  {E:TypeId} {t:CT} {xs:List t.D} (h:ef A w k len E t xs):ef A' w' k len E t xs:=by
 obtain⟨vs,cap,h,h1,h2,h3,h4,h5⟩:=h
 exact⟨vs,cap,by rw[hk];exact h,h1,h2,h3,h4,fun i hi=>bR x.imm x.keep t _ _ _ _ (fun _ _=>rfl) (h5 i hi)⟩
theorem DD{A A':Nat->Prop}{env env':ai}{w w':World}(x:aW A env w A' env' w'){k:Nat}{len:Nat×Nat}(hk:w'.heap[k]? = w.heap[k]?)
  {b:cU} (h:cL A env w k len b):cL A' env' w' k len b:=by
 cases b with
 | cells E cs=>obtain⟨vs,h,hd⟩:=h;exact⟨vs,by rw[hk];exact h,gg x _ _ hd⟩
 | row E t xs=>exact rK x hk h
 | frz E t xs=>exact⟨x.imm _ h.1,rK x hk h.2⟩
 | mp kk vk l=>obtain⟨es,clk,h,hd⟩:=h;exact⟨es,clk,by rw[hk];exact h,hd⟩
 | opn E t xs i cs =>
  obtain⟨vs,cap,es,h,h1,h2,h3,h4,h5,h6,h7,h8,h9⟩:=h
  exact⟨vs,cap,es,by rw[hk];exact h,h1,h2,h3,h4,h5,h6,h7,gg x _ _ h8,fun j hj hn=>bR x.imm x.keep t _ _ _ _ (fun _ _=>rfl) (h9 j hj hn)⟩
abbrev gm:=Nat->Option ((t:CT)×t.D)
structure bv where
 n:Nat->Prop
 a:Nat->Prop
 g:gm
structure aw (w0:World) (N0:bv) (A:Nat->Prop) (env:ai) (h:aI) (w:World):Prop where
 os:w.os=w0.os
 tape:w.tape=w0.tape
 output:w.output=w0.output
 size:w0.heap.size<=w.heap.size
 fr:∀ k,k<w0.heap.size→¬ N0.n k->w.heap[k]? = w0.heap[k]?
 Alt:∀ b,A b->b<w.heap.size
 nm:∀ n,jB A env w n (h n)
 own:∀ n b k l,h n = .live b->b.mut=true->env n = .blk k l->N0.n k∨w0.heap.size<=k
 inj:∀ n m b c k l l',h n = .live b->h m = .live c->b.mut=true->c.mut=true->env n = .blk k l->env m = .blk k l'→n=m
 fresh:∀ b,A b->N0.a b∨N0.n b∨w0.heap.size<=b
 gl:∀ g x,N0.g g=some x->A g/\Rd A w x.1 (fun o=>w.cell? ⟨g,o,none⟩) 0 x.2
structure aR (w w':World) (W:Nat->Prop):Prop where
 os:w'.os=w.os
 tape:w'.tape=w.tape
 output:w'.output=w.output
 size:w.heap.size<=w'.heap.size
 blk:∀ k,k<w.heap.size→¬ W k->w'.heap[k]? = w.heap[k]?
 shape:∀ k s,w.shape? k=some s->w'.shape? k=some s
theorem aR.refl(w:World)(W:Nat->Prop):aR w w W:=⟨rfl,rfl,rfl,Nat.le_refl _,fun _ _ _=>rfl,fun _ _ h=>h⟩
theorem aR.alloc(w:World)(o:Obj)(W:Nat->Prop):aR w (w.alloc o) W :=
 ⟨rfl,rfl,rfl,by simp,fun k hk _=>RowKit.Below.heap_alloc w o k hk,fun k s hs=>by
  unfold World.shape? at hs ⊢
  by_cases hk:k<w.heap.size
  ·rw[RowKit.Below.heap_alloc w o k hk];exact hs
  ·rw[Array.getElem?_eq_none (by omega)] at hs;cases hs⟩
theorem aR.drew(w:World)(W:Nat->Prop):aR w w.drew W:=⟨rfl,rfl,rfl,Nat.le_refl _,fun _ _ _=>rfl,fun _ _ h=>h⟩
theorem aR.trans{a b c:World}{W:Nat->Prop}(h:aR a b W)(k:aR b c W):aR a c W :=
 ⟨k.os.trans h.os,k.tape.trans h.tape,k.output.trans h.output,Nat.le_trans h.size k.size,
  fun i hi hw=>(k.blk i (Nat.lt_of_lt_of_le hi h.size) hw).trans (h.blk i hi hw),fun i s hs=>k.shape i s (h.shape i s hs)⟩
theorem aR.mono{w w':World}{W W':Nat->Prop}(h:aR w w' W)(hW:∀ k,W k->W' k):aR w w' W' :=
 ⟨h.os,h.tape,h.output,h.size,fun k hk hw=>h.blk k hk (fun x=>hw (hW k x)),h.shape⟩
def n4(ns:Nat->Prop)(env:ai)(h:aI)(w:World)(k:Nat):Prop :=
 w.heap.size<=k∨∃ m b l,ns m/\h m = .live b/\b.mut=true/\env m = .blk k l
structure cN (ns:Nat->Prop) (W:Nat->Prop) (A:Nat->Prop) (env:ai) (h:aI) (w:World) (A':Nat->Prop) (env':ai) (h':aI) (w':World):Prop where
 c:aR w w' W
 hW:∀ k,W k→∃ m b l,ns m/\h m = .live b/\b.mut=true/\env m = .blk k l
 hA:∀ b,A b->A' b
 hA':∀ b,A' b->A b∨(n4 ns env h w b/\b<w'.heap.size)
 he:∀ n,¬ ns n->env' n=env n
 he':∀ n,env n ≠ .un->env' n=env n
 hh:∀ n,¬ ns n->h' n=h n
 hn:∀ n,ns n->jB A' env' w' n (h' n)
 hs:∀ n b k l,ns n->h' n = .live b->b.mut=true->env' n = .blk k l->n4 ns env h w k
 hi:∀ n m b c k l l',ns n->ns m->h' n = .live b->h' m = .live c->b.mut=true->c.mut=true->env' n = .blk k l->env' m = .blk k l'→n=m
section
variable {w0:World} {N0:bv} {A A':Nat->Prop} {env env':ai} {h h':aI} {w w':World} {ns W:Nat->Prop}
theorem aw.live_blk(m:aw w0 N0 A env h w){n:Nat}{b:cU}{k:Nat}{l:Nat×Nat}(hl:h n = .live b)(he:env n = .blk k l):cL A env w k l b/\(b.mut=true→¬ A k):=by
 have:=m.nm n
 rw[hl] at this
 rcases this with⟨k',l',e,hb,hA⟩|⟨e,_⟩
 ·rw[he] at e;cases e;exact⟨hb,hA⟩
 ·rw[he] at e;cases e
theorem aw.ext(m:aw w0 N0 A env h w)(u:cN ns W A env h w A' env' h' w'):aW A env w A' env' w' :=
 ⟨u.hA,fun n b l e=>by rw[u.he' n (by rw[e];simp)];exact e,fun n e=>by rw[u.he' n (by rw[e];simp)];exact e,
  fun n v s e=>by rw[u.he' n (by rw[e];simp)];exact e,
  fun b o hb=>by
   have hW:¬ W b:=fun hw=>by
    obtain⟨mm,bb,l,_,hl,hm,he⟩:=u.hW b hw
    exact (m.live_blk hl he).2 hm hb
   exact World.cell?_of_block (a:=⟨b,o,none⟩) (u.c.blk b (m.Alt b hb) hW),u.c.shape⟩
theorem aw.upd(m:aw w0 N0 A env h w)(u:cN ns W A env h w A' env' h' w'):aw w0 N0 A' env' h' w':=by
 have x:=m.ext u
 have old:∀ n b k l,¬ ns n->h n = .live b->b.mut=true->env n = .blk k l→¬ n4 ns env h w k:=by
  intro n b k l hn hl hm he hs
  have hlt:=(m.live_blk hl he).1.lt
  rcases hs with hs|⟨mm,bb,l',hmm,hl',hm',he'⟩
  ·omega
  ·exact hn (m.inj n mm b bb k l l' hl hl' hm hm' he he'▸hmm)
 refine⟨u.c.os.trans m.os,u.c.tape.trans m.tape,u.c.output.trans m.output,Nat.le_trans m.size u.c.size,?_,?_,?_,?_,?_,?_,?_⟩
 ·intro k hk hN
  by_cases hW:W k
  ·obtain⟨mm,b,l,_,hl,hm,he⟩:=u.hW k hW
   rcases m.own mm b k l hl hm he with h1|h1
   ·exact absurd h1 hN
   ·omega
  ·rw[u.c.blk k (Nat.lt_of_lt_of_le hk m.size) hW];exact m.fr k hk hN
 ·intro b hb
  rcases u.hA' b hb with h1|⟨_,h1⟩
  ·exact Nat.lt_of_lt_of_le (m.Alt b h1) u.c.size
  ·exact h1
 ·intro n
  by_cases hn:ns n
  ·exact u.hn n hn
  ·rw[u.hh n hn]
   have:=m.nm n
   cases hl:h n with
   | un=>rw[hl] at this;simp only[jB] at this ⊢;rw[u.he n hn];exact this
   | dead=>trivial
   | live b =>
    rw[hl] at this
    rcases this with⟨k,l,e,hb,hA⟩|⟨e,hb⟩
    ·refine .inl ⟨k,l,by rw[u.he n hn];exact e,?_,?_⟩
     ·refine DD x ?_ hb
      by_cases hW:W k
      ·cases hm:b.mut with
       | true =>
        obtain⟨mm,bb,l',hmm,hl',hm',he'⟩:=u.hW k hW
        exact absurd (.inr ⟨mm,bb,l',hmm,hl',hm',he'⟩) (old n b k l hn hl hm e)
       | false =>
        obtain⟨mm,bb,l',hmm,hl',hm',he'⟩:=u.hW k hW
        cases b with
        | frz E t xs=>exact absurd hb.1 ((m.live_blk hl' he').2 hm')
        | cells E cs=>cases hm
        | row E t xs=>cases hm
        | mp kk vk l=>cases hm
        | opn E t xs i cs=>cases hm
      ·exact u.c.blk k hb.lt hW
     ·intro hm hA'
      rcases u.hA' k hA' with h1|⟨h1,_⟩
      ·exact hA hm h1
      ·exact old n b k l hn hl hm e h1
    ·exact .inr ⟨by rw[u.he n hn];exact e,hb⟩
 ·intro n b k l hl hm he
  by_cases hn:ns n
  ·rcases u.hs n b k l hn hl hm he with h1|⟨mm,bb,l',hmm,hl',hm',he'⟩
   ·exact .inr (Nat.le_trans m.size h1)
   ·exact m.own mm bb k l' hl' hm' he'
  ·rw[u.hh n hn] at hl;rw[u.he n hn] at he;exact m.own n b k l hl hm he
 ·intro n n' b c k l l' hl hl' hm hm' he he'
  by_cases hn:ns n <;> by_cases hn':ns n'
  ·exact u.hi n n' b c k l l' hn hn' hl hl' hm hm' he he'
  ·rw[u.hh n' hn'] at hl';rw[u.he n' hn'] at he'
   exact absurd (u.hs n b k l hn hl hm he) (old n' c k l' hn' hl' hm' he')
  ·rw[u.hh n hn] at hl;rw[u.he n hn] at he
   exact absurd (u.hs n' c k l' hn' hl' hm' he') (old n b k l hn hl hm he)
  ·rw[u.hh n hn] at hl;rw[u.he n hn] at he;rw[u.hh n' hn'] at hl';rw[u.he n' hn'] at he'
   exact m.inj n n' b c k l l' hl hl' hm hm' he he'
 ·intro b hb
  rcases u.hA' b hb with h1|⟨h1|⟨mm,bb,l',hmm,hl',hm',he'⟩,_⟩
  ·exact m.fresh b h1
  ·exact .inr (.inr (Nat.le_trans m.size h1))
  ·exact .inr (m.own mm bb b l' hl' hm' he')
 ·intro g y hg
  obtain⟨h1,h2⟩:=m.gl g y hg
  exact⟨u.hA g h1,bR x.imm x.keep _ _ _ _ _ (fun j _=>x.keep g _ h1) h2⟩
theorem cN.none(c:aR w w' fun _=>False):cN (fun _=>False) (fun _=>False) A env h w A env h w' :=
 ⟨c,fun _ h=>h.elim,fun _ h=>h,fun _ h=>.inl h,fun _ _=>rfl,fun _ _=>rfl,fun _ _=>rfl,fun _ h=>h.elim,fun _ _ _ _ h=>h.elim,fun _ _ _ _ _ _ _ h=>h.elim⟩
end
def aI.set(h:aI)(n:Nat)(x:Nm):aI:=fun m=>if m=n then x else h m
def ai.set(e:ai)(n:Nat)(x:Ev):ai:=fun m=>if m=n then x else e m
@[simp] theorem aI.set_same (h:aI) (n:Nat) (x:Nm):h.set n x n=x:=by simp[aI.set]
@[simp] theorem ai.set_same (e:ai) (n:Nat) (x:Ev):e.set n x n=x:=by simp[ai.set]
theorem aI.set_other(h:aI){n m:Nat}(x:Nm)(hm:m≠n):h.set n x m=h m:=by simp[aI.set,hm]
theorem ai.set_other(e:ai){n m:Nat}(x:Ev)(hm:m≠n):e.set n x m=e m:=by simp[ai.set,hm]
section
variable {w0:World} {N0:bv} {A:Nat->Prop} {env:ai} {h:aI} {w w':World}
theorem cN.fresh(m:aw w0 N0 A env h w){n:Nat}(hn:h n = .un){b:cU}{len:Nat×Nat}{o:Obj}(hmut:b.mut=true)(k:Nat)(hk:w.heap.size<=k)(hA:¬ A k)
  (c:aR w w' fun _=>False) (hb:cL A (env.set n (.blk k len)) w' k len b) :
  cN (fun m=>m=n) (fun _=>False) A env h w A (env.set n (.blk k len)) (h.set n (.live b)) w':=by
 have hu:env n = .un:=by have:=m.nm n;rw[hn] at this;exact this
 refine⟨c,fun _ h=>h.elim,fun _ h=>h,fun _ h=>.inl h,fun m hm=>ai.set_other _ _ hm,fun m hm=>?_,fun m hm=>aI.set_other _ _ hm,?_,?_,?_⟩
 ·exact ai.set_other _ _ (fun e=>hm (e▸hu))
 ·rintro _ rfl
  rw[aI.set_same]
  exact .inl ⟨k,len,ai.set_same _ _ _,hb,fun _=>hA⟩
 ·rintro _ b' k' l rfl _ _ he
  rw[ai.set_same] at he;cases he
  exact .inl hk
 ·rintro _ _ _ _ _ _ _ rfl rfl _ _ _ _ _ _;rfl
theorem cN.write(m:aw w0 N0 A env h w){n:Nat}{b b':cU}{k:Nat}{len:Nat×Nat}(hl:h n = .live b)(hm:b.mut=true)(he:env n = .blk k len)
  (c:aR w w' fun j=>j=k) (hb:cL A env w' k len b') (hm':b'.mut=true) :
  cN (fun m=>m=n) (fun j=>j=k) A env h w A env (h.set n (.live b')) w':=by
 refine⟨c,?_,fun _ h=>h,fun _ h=>.inl h,fun m _=>rfl,fun m hm=>rfl,fun m hm=>aI.set_other _ _ hm,?_,?_,?_⟩
 ·rintro _ rfl;exact⟨n,b,len,rfl,hl,hm,he⟩
 ·rintro _ rfl
  rw[aI.set_same]
  exact .inl ⟨k,len,he,hb,fun _=>(m.live_blk hl he).2 hm⟩
 ·rintro _ b'' k' l rfl _ _ he'
  rw[he] at he';cases he'
  exact .inr ⟨_,b,len,rfl,hl,hm,he⟩
 ·rintro _ _ _ _ _ _ _ rfl rfl _ _ _ _ _ _;rfl
end
end Go.SX

/- SX, part 3: what an operation does with symbolic values: the operations that leave memory alone. -/
namespace Go.SX
set_option linter.unusedVariables false
universe u v
inductive Q (α:Type u):Type u where
 | ret (a:α)
 | ask (n:Nat) (k:Nm->Q α)
 | fail
def Q.run{α:Type u}(h:aI):Q α->Option (α×List Nat)
 | .ret a=>some (a,[])
 | .ask n k=>match (k (h n)).run h with
  | some (a,r)=>some (a,n::r)
  | none=>none
 | .fail=>none
def Q.bind{α:Type u}{β:Type v}:Q α->(α->Q β)->Q β
 | .ret a,f=>f a
 | .ask n k,f => .ask n fun x=>(k x).bind f
 | .fail,_ => .fail
theorem Q.run_bind{α:Type u}{β:Type v}(h:aI)(q:Q α)(f:α->Q β){b:β}{r:List Nat}(e:(q.bind f).run h=some (b,r)) :
  ∃ a r1 r2,q.run h=some (a,r1)/\(f a).run h=some (b,r2)/\r=r1++r2:=by
 induction q generalizing r with
 | ret a=>exact⟨a,[],r,rfl,e,rfl⟩
 | ask n k ih =>
  simp only[Q.bind,Q.run] at e
  cases hk:((k (h n)).bind f).run h with
  | none=>rw[hk] at e;cases e
  | some p =>
   rw[hk] at e
   simp only[Option.some.injEq,Prod.mk.injEq] at e
   obtain⟨rfl,rfl⟩:=e
   obtain⟨a,r1,r2,h1,h2,h3⟩:=ih (h n) (r:=p.2) (by rw[hk])
   exact⟨a,n::r1,r2,by simp only[Q.run,h1],h2,by rw[h3];rfl⟩
 | fail=>cases e
theorem Q.run_local{α:Type u}{h h':aI}:∀(q:Q α){a:α}{r:List Nat},q.run h=some (a,r)->(∀ n∈r,h' n=h n)->q.run h'=some (a,r)
 | .ret a,b,r,e,_=>e
 | .ask n k,b,r,e,hh=>by
  simp only[Q.run] at e ⊢
  cases hk:(k (h n)).run h with
  | none=>rw[hk] at e;cases e
  | some p =>
   rw[hk] at e
   simp only[Option.some.injEq,Prod.mk.injEq] at e
   obtain⟨rfl,rfl⟩:=e
   rw[hh n (by simp),Q.run_local (k (h n)) hk (fun m hm=>hh m (List.mem_cons_of_mem _ hm))]
def aB:List Prop->Prop
 | []=>True
 | p::r=>p/\aB r
theorem eY{a b:List Prop}:aB (a++b)↔aB a/\aB b:=by
 induction a with
 | nil=>simp[aB]
 | cons p a ih=>simp[aB,ih,and_assoc]
structure Qn (X:Type) where
 all:(X->Prop)->Prop
 hall:∀ k,all k→∀ x,k x
 ex:(X->Prop)->Prop
 hex:∀ k,ex k→∃ x,k x
def Qn.plain(X:Type):Qn X:=⟨fun k=>∀ x,k x,fun _ h=>h,fun k=>∃ x,k x,fun _ h=>h⟩
inductive Dl:Type 1 where
 | det (pre:List Prop) (v:SV) (upd:List (Nat×Nm))
 | nd (X:Type) (qn:Qn X) (pre:List Prop) (R:X->Prop) (inh:aB pre→∃ x,R x) (v:X->SV) (upd:List (Nat×(X->Nm)))
def Dl.X:Dl->Type
 | .det .. => Unit
 | .nd X .. => X
def Dl.pre:Dl->List Prop
 | .det p .. => p
 | .nd _ _ p .. => p
def Dl.R:(d:Dl)->d.X->Prop
 | .det ..,_=>True
 | .nd _ _ _ R _ _ _,x=>R x
def Dl.val:(d:Dl)->d.X->SV
 | .det _ v _,_=>v
 | .nd _ _ _ _ _ v _,x=>v x
def aM:List (Nat×Nm)->aI->aI
 | [],h=>h
 | (n,b)::r,h=>(aM r h).set n b
def Dl.upd:(d:Dl)->d.X->List (Nat×Nm)
 | .det _ _ u,_=>u
 | .nd _ _ _ _ _ _ u,x=>u.map fun p=>(p.1,p.2 x)
def Dl.wr:Dl->List Nat
 | .det _ _ u=>u.map (·.1)
 | .nd _ _ _ _ _ _ u=>u.map (·.1)
def Dl.hp(d:Dl)(x:d.X)(h:aI):aI:=aM (d.upd x) h
theorem c7{u:List (Nat×Nm)}{h:aI}{n:Nat}(hn:n ∉ u.map (·.1)):aM u h n=h n:=by
 induction u with
 | nil=>rfl
 | cons p u ih =>
  simp only[List.map_cons,List.mem_cons,not_or] at hn
  rw[aM,aI.set_other _ _ hn.1,ih hn.2]
theorem Dl.wr_upd(d:Dl)(x:d.X):(d.upd x).map (·.1)=d.wr:=by
 cases d with
 | det p v u=>rfl
 | nd X qn p R i v u=>simp[Dl.upd,Dl.wr,Function.comp_def]
theorem Dl.ne(d:Dl)(h:aB d.pre):∃ x,d.R x:=by
 cases d with
 | det p v u=>exact⟨(),trivial⟩
 | nd X qn p R i v u=>exact i h
def bp(w0:World)(N0:bv)(A:Nat->Prop)(env:ai)(h:aI)(w:World)(d:Dl)(v:Value)(w':World):Prop :=
 ∃ (x:d.X) (A':Nat->Prop) (env':ai),d.R x/\aw w0 N0 A' env' (d.hp x h) w'∧aW A env w A' env' w'∧aa A' env' w' (d.val x) v
def av(P:Program)(o:Oper)(a:Act)(w0:World)(N0:bv)(A:Nat->Prop)(env:ai)(h:aI)(w:World)(d:Dl):Prop :=
 ∃ v w',((execOp a.eval o).run P w = .ok (.value v) w'∨((execOp a.eval o).run P w = .ok .skip w'∧v=undef))/\bp w0 N0 A env h w d v w'
def qd(k:IntKind)(n:Int):Bool:=decide (k.min<=n)&&decide (n<=k.max)
theorem vh{k:IntKind}{n:Int}(h:qd k n=true):k.has n:=by
 simp only[qd,Bool.and_eq_true,decide_eq_true_eq] at h;exact h
def jj:Value->SV
 | .int k n=>match qd k n with
  | true => .int k n
  | false => .cv (.int k n)
 | .bool b => .bool b
 | .slice none 0 0 => .nilsl
 | .pointer none => .nilp
 | v => .cv v
def ag(ρ:Nat->SV):Operand->SV
 | .tmp t=>ρ t
 | .const v=>jj v
 | .func f => .fn f []
 | .global g => .gl g
section
variable {P:Program} {w0:World} {N0:bv} {A:Nat->Prop} {env:ai} {h:aI} {w:World} {o:Oper} {a:Act}
theorem mJ(v:Value):aa A env w (jj v) v:=by
 unfold jj
 split
 ·rename_i k n
  split
  ·rename_i hb;simp only[aa];exact⟨trivial,vh hb⟩
  ·simp only[aa]
 all_goals simp only[aa]
def FD(A:Nat->Prop)(env:ai)(w:World)(ρ:Nat->SV)(a:Act):Prop:=∀ i,aa A env w (ρ i) (a.tmps.getD i undef)
theorem aT{ρ:Nat->SV}(f:FD A env w ρ a)(x:Operand):aa A env w (ag ρ x) (a.eval x):=by
 cases x with
 | tmp t=>exact f t
 | const v=>exact mJ v
 | global g=>simp only[ag,aa,Act.eval]
 | func f=>simp only[ag,aa,Act.eval];exact⟨#[],rfl,by simp[ac]⟩
theorem av.pure(m:aw w0 N0 A env h w){pre:List Prop}{s:SV}{v:Value}(hr:(execOp a.eval o).run P w = .ok (.value v) w)(hd:aa A env w s v) :
  av P o a w0 N0 A env h w (.det pre s []) :=
 ⟨v,w,.inl hr,(),A,env,trivial,m,aW.refl,hd⟩
end
theorem IntKind.wrap_has(k:IntKind)(n:Int):k.has (k.wrap n):=wrap_within k n
theorem wP(k:IntKind):k.min<=0/\0<=k.max:=by cases k <;> decide
theorem AY{k:IntKind}{x:Int}(h:k.has x)(y:Int):k.has (x.tmod y):=by
 obtain⟨h1,h2⟩:=h
 obtain⟨h3,h4⟩:=wP k
 have h5:=Int.natAbs_tmod x y
 have h6:=Nat.mod_le x.natAbs y.natAbs
 have h7:0<=x->0<=x.tmod y:=fun hx=>Int.tmod_nonneg y hx
 have h8:x<=0->x.tmod y<=0:=fun hx=>by
  have:=Int.tmod_nonneg (a := -x) y (by omega)
  rw[Int.neg_tmod] at this
  omega
 exact⟨by omega,by omega⟩
def gu(k:IntKind)(x y:Int):Int:=k.wrap (x*2^(min y.toNat k.bits))
def dR(k:IntKind)(x y:Int):Int:=x.fdiv (2^(min y.toNat k.bits))
def pY(k:IntKind)(n:Int):Int:=bits .xor k (if k.signed then -1 else k.max) n
theorem Br{k:IntKind}{x:Int}(h:k.has x)(y:Int):k.has (dR k x y):=by
 obtain⟨h1,h2⟩:=h
 obtain⟨h3,h4⟩:=wP k
 unfold dR
 have hp:(0:Int)<2^(min y.toNat k.bits):=Int.pow_pos (by decide)
 rw[Int.fdiv_eq_ediv_of_nonneg _ (Int.le_of_lt hp)]
 generalize (2:Int)^(min y.toNat k.bits)=p at *
 rcases Int.le_total 0 x with hx|hx
 ·have h5:=Int.ediv_nonneg hx (Int.le_of_lt hp)
  have h6:=Int.ediv_le_self p hx
  exact⟨by omega,by omega⟩
 ·have h5:x<=x/p:=by
   refine (Int.le_ediv_iff_mul_le hp).2 ?_
   have:=Int.mul_le_mul_of_nonneg_left (show (1:Int)<=p from by omega) (show 0 ≤ -x from by omega)
   rw[Int.neg_mul,Int.neg_mul] at this
   omega
  have h6:x/p<=0:=by
   have:=Int.ediv_le_ediv hp hx
   simpa using this
  exact⟨by omega,by omega⟩
theorem wL(op:BinOp)(k:IntKind)(x y:Int):k.has (bits op k x y):=IntKind.wrap_has k _
end Go.SX

/- SX, part 4: arithmetic, comparisons, conversions, the parts of values. -/
namespace Go.SX
set_option linter.unusedVariables false
def c6(k k':IntKind):Bool:=match k,k' with
 | .i8,.i8 | .i16,.i16 | .i32,.i32 | .i64,.i64 | .u8,.u8 | .u16,.u16 | .u32,.u32 | .u64,.u64=>true
 | _,_=>false
theorem dk{k k':IntKind}(h:c6 k k'=true):k=k':=by cases k <;> cases k' <;> first|rfl|cases h
def aL(v:SV):Q Dl := .ret (.det [] v [])
def sk(op:BinOp)(k:IntKind)(a b:Int):Q Dl:=match op with
 | .add=>aL (.int k (k.wrap (a+b)))
 | .sub=>aL (.int k (k.wrap (a-b)))
 | .mul=>aL (.int k (k.wrap (a*b)))
 | .quo => .ret (.det [b≠0] (.int k (k.wrap (a.tdiv b))) [])
 | .rem => .ret (.det [b≠0] (.int k (a.tmod b)) [])
 | .and=>aL (.int k (bits .and k a b))
 | .or=>aL (.int k (bits .or k a b))
 | .xor=>aL (.int k (bits .xor k a b))
 | .andNot=>aL (.int k (bits .andNot k a b))
 | .eql=>aL (.bool (decide (a=b)))
 | .neq=>aL (.bool (!decide (a=b)))
 | .lss=>aL (.bool (decide (a<b)))
 | .leq=>aL (.bool (decide (a<=b)))
 | .gtr=>aL (.bool (decide (b<a)))
 | .geq=>aL (.bool (decide (b<=a)))
 | .shl | .shr => .fail
def wx(op:BinOp)(k:IntKind)(a b:Int):Q Dl:=match op with
 | .shl => .ret (.det [0<=b] (.int k (gu k a b)) [])
 | .shr => .ret (.det [0<=b] (.int k (dR k a b)) [])
 | _ => .fail
def yH:BinOp->Bool
 | .shl | .shr=>true
 | _=>false
def dL{α:Type}:List α->Nat->Option α
 | [],_=>none
 | x::_,0=>some x
 | _::xs,n+1=>dL xs n
theorem i6{α:Type}:∀(l:List α)(n:Nat),dL l n=l[n]?
 | [],n=>by simp[dL]
 | x::xs,0=>rfl
 | x::xs,n+1=>by simp[dL,i6 xs n]
def ja(P:Program)(t:TypeId):Option Bool:=match P.underlying t with
 | some (.struct _)=>some true
 | some (.array _ _)=>some true
 | some _=>some false
 | none=>none
def bL(P:Program)(t:TypeId):Option Nat:=match P.info? t with
 | some i=>some i.size
 | none=>none
def d9(P:Program)(t:TypeId)(cs:List SV)(off:Nat):Option SV:=match ja P t with
 | some true=>match bL P t with
  | some n=>match Nat.ble (off+n) cs.length with
   | true=>some (.agg ((cs.drop off).take n))
   | false=>none
  | none=>none
 | some false=>dL cs off
 | none=>none
def iK(P:Program):Nat->TypeId->SV->SV->Option Bool
 | 0,_,_,_=>none
 | d+1,t,x,y=>match P.underlying t,x,y with
  | some (.int _),.int k a,.int k' b=>match c6 k k' with
   | true=>some (decide (a=b))
   | false=>none
  | some .bool,.bool a,.bool b=>some (a == b)
  | some (.struct fs),.agg xs,.agg ys=>match P.stoodInHeld t with
   | false=>eqFs (iK P d) fs.toList xs ys
   | true=>none
  | _,_,_=>none
where
 eqFs (q:TypeId->SV->SV->Option Bool):List Field->List SV->List SV->Option Bool
  | [],_,_=>some true
  | f :: fs, xs, ys => match f.name == "_" with
   | true=>none
   | false=>match d9 P f.type xs f.offset,d9 P f.type ys f.offset with
    | some x,some y=>match q f.type x y,eqFs q fs xs ys with
     | some b,some r=>some (b&&r)
     | _,_=>none
    | _,_=>none
def ql(P:Program)(t:TypeId)(xs ys:List SV):Option Bool :=
 match P.eqGuardType P.depth t with
 | false=>iK P 6 t (.agg xs) (.agg ys)
 | true=>none
def ka(op:BinOp)(n:Nat):Q Dl:=match op with
 | .eql => .ret (.nd Bool (Qn.plain Bool) [] (fun b=>b=true->n=0) (fun _=>⟨false,fun h=>by cases h⟩) (fun b=>.bool b) [])
 | .neq => .ret (.nd Bool (Qn.plain Bool) [] (fun b=>b=true->n=0) (fun _=>⟨false,fun h=>by cases h⟩) (fun b=>.bool (!b)) [])
 | _ => .fail
def wT(P:Program)(op:BinOp)(t:TypeId)(x:SV):Q Dl:=match P.underlying t,x with
 | some (.slice _),.dsl _ xs=>ka op xs.length
 | some (.slice _),.dsx _ xs=>ka op xs.length
 | some (.slice _),.nilsl=>ka op 0
 | some (.slice _),.own n _ => .ask n fun
  | .live (.row _ _ xs)=>ka op xs.length
  | .live (.frz _ _ xs)=>ka op xs.length
  | _ => .fail
 | _,_ => .fail
def pI(P:Program)(op:BinOp)(t:TypeId)(x y:SV):Q Dl:=match x,y with
 | .int k a,.int k' b=>match yH op with
  | true=>wx op k a b
  | false=>match c6 k k' with
   | true=>sk op k a b
   | false => .fail
 | .bool a,.bool b=>match P.underlying t,op with
  | some .bool,.eql=>aL (.bool (a == b))
  | some .bool,.neq=>aL (.bool (!(a == b)))
  | _,_ => .fail
 | .agg xs,.agg ys=>match ql P t xs ys,op with
  | some b,.eql=>aL (.bool b)
  | some b,.neq=>aL (.bool (!b))
  | _,_ => .fail
 | x,.nilsl=>wT P op t x
 | _,_ => .fail
def rN(op:UnOp)(x:SV):Q Dl:=match op,x with
 | .not,.bool b=>aL (.bool (!b))
 | .neg,.int k n=>aL (.int k (k.wrap (0-n)))
 | .xor,.int k n=>aL (.int k (pY k n))
 | _,_ => .fail
def rn(P:Program)(src dst:TypeId)(x:SV):Q Dl:=match x,P.underlying src,P.underlying dst with
 | .int _ n,some _,some (.int k')=>aL (.int k' (k'.wrap n))
 | _,_,_ => .fail
def nA:SV->Bool
 | .cv (.tuple vs)=>vs.isEmpty
 | _=>false
def nH:SV->Option (Bool×Option Bool)
 | .bool x=>some (x,none)
 | .opt g (.bool x)=>some (x,some g)
 | s=>match nA s with
  | true=>some (false,some false)
  | false=>none
def mg(g:Option Bool)(c:Prop):List Prop:=match g with
 | none=>[]
 | some g=>[c->g=true]
def rL(c a b:SV):Q Dl:=match c,nH a,nH b with
 | .bool cb,some (x,gx),some (y,gy) => .ret (.det (mg gx (cb=true)++mg gy (cb=false)) (.bool (bif cb then x else y)) [])
 | _,_,_ => .fail
section
variable {P:Program} {w0:World} {N0:bv} {A:Nat->Prop} {env:ai} {h:aI} {w:World} {o:Oper} {a:Act} {ρ:Nat->SV} {d:Dl} {r:List Nat}
theorem aK{α:Type 1}{x y:α}{r:List Nat}(e:(Q.ret x).run h=some (y,r)):x=y:=by
 simp only[Q.run,Option.some.injEq,Prod.mk.injEq] at e;exact e.1
theorem uw{s:SV}{v:Value}{x:Bool}{g:Option Bool}(e:nH s=some (x,g))(hd:aa A env w s v){c:Prop}(hp:aB (mg g c))(hc:c):v = .bool x:=by
 unfold nH at e
 split at e
 ·cases e;simpa only[aa] using hd
 ·cases e
  simp only[mg,aB,and_true] at hp
  have:=hp hc
  subst this
  simpa only[aa] using hd
 ·split at e
  ·cases e
   simp only[mg,aB,and_true] at hp
   exact absurd (hp hc) (by simp)
  ·cases e
theorem xM(m:aw w0 N0 A env h w)(f:FD A env w ρ a){c x y:Operand}(ho:o.op = .pick c x y)
  (e:(rL (ag ρ c) (ag ρ x) (ag ρ y)).run h=some (d,r)) (hp:aB d.pre):av P o a w0 N0 A env h w d:=by
 have dc:=aT f c
 have dx:=aT f x
 have dy:=aT f y
 unfold rL at e
 split at e
 ·rename_i cb b1 g1 b2 g2 hc hx hy
  cases aK e
  simp only[Dl.pre,eY] at hp
  rw[hc] at dc
  simp only[aa] at dc
  refine av.pure m (v := .bool (bif cb then b1 else b2)) ?_ (by simp only[aa])
  unfold execOp
  rw[ho]
  simp only[dc,asBool,Sem.run_bind,Sem.run_pure,Result.andThen_ok]
  cases cb with
  | true=>simp only[if_true,cond_true];rw[uw hx dx hp.1 rfl]
  | false=>simp only[Bool.false_eq_true,if_false,cond_false];rw[uw hy dy hp.2 rfl]
 ·cases e
theorem rI(op:BinOp)(t:TypeId)(x y:Operand)(k:IntKind)(u v:Int)(r:Value)
  (hr:(binOp op t (.int k u) (.int k v)).run P w = .ok r w) :
  ((do eqGuard op t x y (.int k u) (.int k v);binOp op t (.int k u) (.int k v):Sem Value).run P w) = .ok r w:=by
 rw[eqGuard_at_int]
 simpa using hr
theorem mr{t:TypeId}{b:Bool}(h:ja P t=some b)(w:World):(isAgg t).run P w = .ok b w:=by
 unfold ja at h
 unfold isAgg
 rw[Sem.run_bind]
 cases hu:P.underlying t with
 | none=>rw[hu] at h;cases h
 | some d =>
  rw[run_underlying hu w,Result.andThen_ok]
  rw[hu] at h
  cases d <;> simp only[Option.some.injEq] at h <;> subst h <;> rfl
theorem cz{t:TypeId}{n:Nat}(h:bL P t=some n)(w:World):(sizeOf t).run P w = .ok n w:=by
 unfold bL at h
 cases hi:P.info? t with
 | none=>rw[hi] at h;cases h
 | some i =>
  rw[hi] at h
  simp only[Option.some.injEq] at h
  simp[sizeOf,typeInfo,hi,h]
theorem lY{ss:List SV}{vs:List Value}(n:Nat)(h:ac A env w ss vs):ac A env w (ss.drop n) (vs.drop n):=by
 induction n generalizing ss vs with
 | zero=>simpa using h
 | succ n ih =>
  cases ss with
  | nil=>simp only[ac] at h;subst h;simp[ac]
  | cons s ss =>
   simp only[ac] at h
   obtain⟨v,r,rfl,_,h3⟩:=h
   simpa using ih h3
theorem lZ{ss:List SV}{vs:List Value}(n:Nat)(h:ac A env w ss vs):ac A env w (ss.take n) (vs.take n):=by
 induction n generalizing ss vs with
 | zero=>simp[ac]
 | succ n ih =>
  cases ss with
  | nil=>simp only[ac] at h;subst h;simp[ac]
  | cons s ss =>
   simp only[ac] at h
   obtain⟨v,r,rfl,h2,h3⟩:=h
   simp only[List.take_succ_cons,ac]
   exact⟨v,_,rfl,h2,ih h3⟩
theorem oN{t:TypeId}{cs:List SV}{off:Nat}{s:SV}{vs:Array Value}(e:d9 P t cs off=some s)(hd:ac A env w cs vs.toList) :
  ∃ v,(part t vs off).run P w = .ok v w/\aa A env w s v:=by
 unfold d9 at e
 split at e
 ·rename_i ha
  split at e
  ·rename_i n hn
   split at e
   ·rename_i hle
    cases e
    refine⟨.agg (vs.extract off (off+n)),?_,?_⟩
    ·unfold part;simp[Sem.run_bind,mr ha w,cz hn w]
    ·simp only[aa]
     refine⟨_,rfl,?_⟩
     have:=lZ n (lY off hd)
     simpa[Array.toList_extract,List.extract_eq_take_drop] using this
   ·cases e
  ·cases e
 ·rename_i ha
  rw[i6] at e
  obtain⟨v,hv,hd'⟩:=iN _ _ hd e
  refine⟨v,?_,hd'⟩
  have hv':vs[off]? = some v:=by rw[← Array.getElem?_toList];exact hv
  unfold part;simp[Sem.run_bind,mr ha w,hv']
 ·cases e
theorem wi{q:TypeId->SV->SV->Option Bool}{n:Nat}(hq:∀ t x y b u v,q t x y=some b->aa A env w x u->aa A env w y v->(Op.equalIn n t u v).run P w = .ok b w) :
  ∀(fs:List Field)(xs ys:List SV)(us vs:Array Value)(b:Bool),iK.eqFs P q fs xs ys=some b->ac A env w xs us.toList->ac A env w ys vs.toList →
   (Op.eqFields n us vs fs).run P w = .ok b w
 | [],xs,ys,us,vs,b,e,_,_=>by simp only[iK.eqFs] at e;cases e;simp[Op.eqFields]
 | f::fs,xs,ys,us,vs,b,e,hx,hy=>by
  simp only[iK.eqFs] at e
  split at e
  ·cases e
  ·rename_i hname
   have hne : f.name ≠ "_" := by simpa using hname
   split at e
   ·rename_i x y h1 h2
    split at e
    ·rename_i b1 r hb hr
     cases e
     obtain⟨u,p1,d1⟩:=oN h1 hx
     obtain⟨v,p2,d2⟩:=oN h2 hy
     have ih:=wi hq fs xs ys us vs r hr hx hy
     have hk:=hq _ _ _ _ _ _ hb d1 d2
     simp only[Op.eqFields,hne,ne_eq,not_false_eq_true,if_true,Sem.run_bind,p1,p2,Result.andThen_ok,hk]
     cases b1 <;> simp[ih]
    ·cases e
   ·cases e
theorem uS:∀(d:Nat)(n:Nat)(t:TypeId)(x y:SV)(b:Bool)(u v:Value),d<=n->iK P d t x y=some b->aa A env w x u->aa A env w y v->(Op.equalIn n t u v).run P w = .ok b w
 | 0,n,t,x,y,b,u,v,_,e,_,_=>by simp only[iK] at e;cases e
 | d+1,0,t,x,y,b,u,v,hn,_,_,_=>by omega
 | d+1,n+1,t,x,y,b,u,v,hn,e,hx,hy=>by
  simp only[iK] at e
  split at e
  ·rename_i k0 k1 a1 k2 a2 hu
   split at e
   ·rename_i hk
    cases e
    cases dk hk
    simp only[aa] at hx hy
    rw[hx.1,hy.1,run_equalIn_int w n t k1 k0 a1 a2 hu]
    congr 1
   ·cases e
  ·rename_i a1 a2 hu
   cases e
   simp only[aa] at hx hy
   rw[hx,hy,run_equalIn_bool' w n t a1 a2 hu]
  ·rename_i fs xs ys hu
   split at e
   ·rename_i hs
    simp only[aa] at hx hy
    obtain⟨us,rfl,hx⟩:=hx
    obtain⟨vs,rfl,hy⟩:=hy
    have hfo:P.underlying t=some (.struct (P.fieldsOf t)):=by simp[Program.fieldsOf,hu]
    have hff:P.fieldsOf t=fs:=by simp[Program.fieldsOf,hu]
    rw[run_equalIn_struct w n t us vs hfo hs,hff]
    exact wi (fun t' x' y' b' u' v' h1 h2 h3=>uS d n t' x' y' b' u' v' (by omega) h1 h2 h3) _ _ _ _ _ _ e hx hy
   ·cases e
  ·cases e
theorem A5(m:aw w0 N0 A env h w)(f:FD A env w ρ a){op:BinOp}{t yt:TypeId}{x y:Operand}(ho:o.op = .binOp op t x y yt)
  (e:(pI P op t (ag ρ x) (ag ρ y)).run h=some (d,r)) (hp:aB d.pre):av P o a w0 N0 A env h w d:=by
 have dx:=aT f x
 have dy:=aT f y
 have go:∀(v:Value),((do eqGuard op t x y (a.eval x) (a.eval y);binOp op t (a.eval x) (a.eval y):Sem Value).run P w) = .ok v w →
   (execOp a.eval o).run P w = .ok (.value v) w:=by
  intro v hv
  unfold execOp
  rw[ho]
  simp only[Sem.run_bind,Sem.run_pure] at hv ⊢
  rw[hv]
  rfl
 unfold pI at e
 split at e
 ·rename_i k u k' v hx hy
  rw[hx] at dx
  rw[hy] at dy
  simp only[aa] at dx dy
  rw[dx.1,dy.1] at go
  split at e
  ·unfold wx at e
   split at e
   ·cases aK e
    simp only[Dl.pre,aB,and_true] at hp
    refine av.pure m (go _ ?_) (s := .int k (gu k u v)) (v := .int k (gu k u v)) (by simp only[aa];exact⟨trivial,IntKind.wrap_has _ _⟩)
    rw[eqGuard_at_int,binOp_shl]
    have hn:¬ v<0:=by omega
    simp[Op.shift,hn,gu]
   ·cases aK e
    simp only[Dl.pre,aB,and_true] at hp
    refine av.pure m (go _ ?_) (s := .int k (dR k u v)) (v := .int k (dR k u v)) (by simp only[aa];exact⟨trivial,Br dx.2 v⟩)
    rw[eqGuard_at_int,binOp_shr]
    have hn:¬ v<0:=by omega
    simp[Op.shift,hn,dR]
   ·cases e
  ·split at e
   ·rename_i hk
    cases dk hk
    unfold sk aL at e
    have eqd:∀ u v:Int,(u == v)=decide (u=v):=fun u v=>by rw[Bool.eq_iff_iff];simp
    by_cases h1:op = .eql
    ·subst h1
     simp only at e
     cases aK e
     refine av.pure m (go (.bool (decide (u=v))) ?_) (by simp only[aa])
     exact rI _ _ _ _ _ _ _ _ (by rw[binOp_eql,eqd];rfl)
    by_cases h2:op = .neq
    ·subst h2
     simp only at e
     cases aK e
     refine av.pure m (go (.bool (!decide (u=v))) ?_) (by simp only[aa])
     exact rI _ _ _ _ _ _ _ _ (by rw[binOp_neq,bne,eqd];rfl)
    cases op <;> simp only at e <;> first
     | (exfalso;exact h1 rfl)
     | (exfalso;exact h2 rfl)
     | (cases aK e
        simp only[Dl.pre,aB,and_true] at hp
        refine av.pure m (go _ ?_) (by simp only[aa];first|exact⟨rfl,IntKind.wrap_has _ _⟩|exact⟨rfl,wL _ _ _ _⟩|exact⟨rfl,AY dx.2 _⟩|rfl)
        refine rI _ _ _ _ _ _ _ _ ?_
        first
         | (simp[binOp,Op.intArith];done)
         | (simp[binOp,Op.intDiv,hp];done)
         | (simp only[binOp_and,binOp_or,binOp_xor,binOp_andNot,intBits_and,intBits_or,intBits_xor,intBits_andNot,Sem.run_pure];done)
         | (simp[binOp,Op.intCmp];done))
     | cases e
   ·cases e
 ·rename_i u v hx hy
  rw[hx] at dx
  rw[hy] at dy
  simp only[aa] at dx dy
  rw[dx,dy] at go
  split at e
  ·rename_i hu
   unfold aL at e
   cases aK e
   refine av.pure m (go _ ?_) (s := .bool (u == v)) (v := .bool (u == v)) (by simp only[aa])
   rw[eqGuard_at_bool]
   simp[run_eql_bool w t u v hu]
  ·rename_i hu
   unfold aL at e
   cases aK e
   refine av.pure m (go _ ?_) (s := .bool (!(u == v))) (v := .bool (!(u == v))) (by simp only[aa])
   rw[eqGuard_at_bool]
   simp[run_neq_bool w t u v hu]
  ·cases e
 ·rename_i xs ys hx hy
  rw[hx] at dx
  rw[hy] at dy
  simp only[aa] at dx dy
  obtain⟨us,eu,du⟩:=dx
  obtain⟨vs,ev,dv⟩:=dy
  rw[eu,ev] at go
  have key:∀ b,ql P t xs ys=some b->(Op.equalIn 10000 t (.agg us) (.agg vs)).run P w = .ok b w/\(eqGuard op t x y (.agg us) (.agg vs)).run P w = .ok () w:=by
   intro b hb
   unfold ql at hb
   split at hb
   ·rename_i h2
    exact⟨uS 6 10000 t (.agg xs) (.agg ys) b _ _ (by omega) hb (by simp only[aa];exact⟨_,rfl,du⟩) (by simp only[aa];exact⟨_,rfl,dv⟩),run_eqGuard_agg w op t x y us vs h2⟩
   ·cases hb
  split at e
  ·rename_i b hb
   unfold aL at e
   cases aK e
   obtain⟨k1,k2⟩:=key b hb
   refine av.pure m (go _ ?_) (s := .bool b) (v := .bool b) (by simp only[aa])
   simp only[Sem.run_bind,k2,Result.andThen_ok,run_eql_struct,k1]
  ·rename_i b hb
   unfold aL at e
   cases aK e
   obtain⟨k1,k2⟩:=key b hb
   refine av.pure m (go _ ?_) (s := .bool (!b)) (v := .bool (!b)) (by simp only[aa])
   simp only[Sem.run_bind,k2,Result.andThen_ok,run_neq_struct,k1]
  ·cases e
 ·rename_i hy
  rw[hy] at dy
  simp only[aa] at dy
  rw[dy] at go
  have key:∀(d:Dl)(r:List Nat)(n:Nat)(E:TypeId),P.underlying t=some (.slice E)->(∃ b c,a.eval x = .slice b n c)->(∀ c,a.eval x = .slice none n c->n=0)->(ka op n).run h=some (d,r)->av P o a w0 N0 A env h w d:=by
   rintro d r n E hu ⟨b,c,ev⟩ hn en
   have hb:b.isNone=true->n=0:=fun hb=>by
    cases b with
    | none=>exact hn c ev
    | some _=>cases hb
   have heq:(Op.equalIn 10000 t (.slice b n c) (.slice none 0 0)).run P w = .ok b.isNone w:=by
    unfold Op.equalIn
    simp only[Sem.run_bind,run_underlying hu,Result.andThen_ok]
    cases b <;> simp
   have hg:(eqGuard op t x y (.slice b n c) (.slice none 0 0)).run P w = .ok () w:=by
    unfold eqGuard;split <;> simp
   unfold ka at en
   split at en
   ·cases aK en
    refine⟨.bool b.isNone,w,.inl (go _ ?_),b.isNone,A,env,hb,m,aW.refl,by simp only[Dl.val,aa]⟩
    rw[ev]
    simp only[Sem.run_bind,hg,Result.andThen_ok]
    simp[binOp,Op.equal,Op.maxDepth,heq]
   ·cases aK en
    refine⟨.bool (!b.isNone),w,.inl (go _ ?_),b.isNone,A,env,hb,m,aW.refl,by simp only[Dl.val,aa]⟩
    rw[ev]
    simp only[Sem.run_bind,hg,Result.andThen_ok]
    simp[binOp,Op.equal,Op.maxDepth,heq]
   ·cases en
  have data:∀{u:CT}{xs:List u.D},ep A w u (a.eval x) xs->(∃ b c,a.eval x = .slice b xs.length c)/\(∀ c,a.eval x = .slice none xs.length c->xs.length=0):=by
   rintro u xs ⟨_,⟨⟨q,e1⟩,rfl⟩|⟨b,off,cap,e1,_⟩⟩
   ·exact⟨⟨q,0,e1⟩,fun _ _=>rfl⟩
   ·exact⟨⟨_,_,e1⟩,fun c e2=>by rw[e1] at e2;cases e2⟩
  unfold wT at e
  split at e
  ·rename_i E u xs hu hx
   rw[hx] at dx;simp only[aa] at dx
   exact key _ _ _ E hu (data dx).1 (data dx).2 e
  ·rename_i E u xs hu hx
   rw[hx] at dx;simp only[aa] at dx
   exact key _ _ _ E hu (data dx.1).1 (data dx.1).2 e
  ·rename_i E hu hx
   rw[hx] at dx;simp only[aa] at dx
   exact key _ _ 0 E hu ⟨none,0,dx⟩ (fun _ _=>rfl) e
  ·rename_i E n sz hu hx
   rw[hx] at dx;simp only[aa] at dx
   simp only[Q.run] at e
   split at e
   ·rename_i p q hk
    simp only[Option.some.injEq,Prod.mk.injEq] at e
    obtain⟨rfl,rfl⟩:=e
    have own:∀{b:cU}{u:CT}{xs:List u.D}{E':TypeId},h n = .live b->(b = .row E' u xs∨b = .frz E' u xs)->(∃ b c,a.eval x = .slice b xs.length c)/\(∀ c,a.eval x = .slice none xs.length c->xs.length=0):=by
     intro b u xs E' hl hb
     rcases dx with⟨hnil,pa,ev⟩|⟨k,len,E2,c,hk2,hsh,ev⟩
     ·have hx0:xs=[]:=by
       have:=m.nm n
       rw[hl] at this
       rcases this with⟨k',l',he',_⟩|⟨_,E3,t3,hb3⟩
       ·rw[hnil] at he';cases he'
       ·rcases hb with rfl|rfl <;> rcases hb3 with hb3|hb3 <;> cases hb3 <;> rfl
      subst hx0
      exact⟨⟨pa,0,ev⟩,fun _ _=>rfl⟩
     ·have hlen:xs.length=len.2:=by
       have:=(m.live_blk hl hk2).1
       rcases hb with rfl|rfl
       ·obtain⟨_,_,_,_,h3,_⟩:=this;exact h3
       ·obtain⟨_,_,_,_,_,h3,_⟩:=this;exact h3
      exact⟨⟨_,_,by rw[hlen];exact ev⟩,fun c' e2=>by rw[ev] at e2;cases e2⟩
    split at hk
    ·rename_i hl
     have:=own hl (.inl rfl)
     exact key _ _ _ E hu this.1 this.2 hk
    ·rename_i hl
     have:=own hl (.inr rfl)
     exact key _ _ _ E hu this.1 this.2 hk
    ·cases hk
   ·cases e
  ·cases e
 ·cases e
theorem x7(m:aw w0 N0 A env h w)(f:FD A env w ρ a){op:UnOp}{t:TypeId}{x:Operand}(ho:o.op = .unOp op t x)
  (e:(rN op (ag ρ x)).run h=some (d,r)) (hp:aB d.pre):av P o a w0 N0 A env h w d:=by
 have dx:=aT f x
 unfold rN aL at e
 split at e
 ·rename_i b hx
  rw[hx] at dx;simp only[aa] at dx
  cases aK e
  exact av.pure m (v := .bool (!b)) (by unfold execOp;rw[ho];simp[dx,Op.unary]) (by simp only[aa])
 ·rename_i k n hx
  rw[hx] at dx;simp only[aa] at dx
  cases aK e
  exact av.pure m (v := .int k (k.wrap (0-n))) (by unfold execOp;rw[ho];simp[dx.1,Op.unary,Op.intArith]) (by simp only[aa];exact⟨trivial,IntKind.wrap_has _ _⟩)
 ·rename_i k n hx
  rw[hx] at dx;simp only[aa] at dx
  cases aK e
  exact av.pure m (v := .int k (pY k n)) (by unfold execOp;rw[ho];simp only[dx.1,Op.unary,intBits_xor,pY];rfl) (by simp only[aa];exact⟨trivial,wL _ _ _ _⟩)
 ·cases e
theorem zZ(m:aw w0 N0 A env h w)(f:FD A env w ρ a){s t:TypeId}{x:Operand}(ho:o.op = .convert s t x)
  (e:(rn P s t (ag ρ x)).run h=some (d,r)) (hp:aB d.pre):av P o a w0 N0 A env h w d:=by
 have dx:=aT f x
 unfold rn aL at e
 split at e
 ·rename_i k n dd k' hx hs ht
  rw[hx] at dx;simp only[aa] at dx
  cases aK e
  refine av.pure m (v := .int k' (k'.wrap n)) ?_ (by simp only[aa];exact⟨trivial,IntKind.wrap_has _ _⟩)
  unfold execOp;rw[ho]
  simp only[dx.1,convert,Sem.run_bind,run_underlying hs,run_underlying ht,Result.andThen_ok,Conv.intToInt,Sem.run_pure]
 ·cases e
end
end Go.SX

/- SX, part 5: the cells of structs and arrays; data out of cells. -/
namespace Go.SX
set_option linter.unusedVariables false
def bu:(t:CT)->t.D->List SV
 | .int k,n=>[.int k n]
 | .bool,b=>[.bool b]
 | .str,s=>[.str s]
 | .sl t,xs=>[.dsl t xs]
 | .pair a b,d=>bu a d.1++bu b d.2
theorem pS:∀(t:CT)(d:t.D),(bu t d).length=t.size
 | .int k,n=>rfl
 | .bool,b=>rfl
 | .str,s=>rfl
 | .sl t,xs=>rfl
 | .pair a b,d=>by simp[bu,CT.size,pS a d.1,pS b d.2]
theorem yX{a b:List SV}:gp (a++b)=(gp a&&gp b):=by
 induction a with
 | nil=>rfl
 | cons x a ih=>simp[gp,ih,Bool.and_assoc]
theorem oq:∀(t:CT)(d:t.D),gp (bu t d)=true
 | .int k,n=>rfl
 | .bool,b=>rfl
 | .str,s=>rfl
 | .sl t,xs=>rfl
 | .pair a b,d=>by simp[bu,yX,oq a d.1,oq b d.2]
theorem io{A:Nat->Prop}{env:ai}{w:World}:∀(t:CT)(d:t.D)(cv:Nat->Option Value)(o:Nat),Rd A w t cv o d →
  ∃ vs:List Value,vs.length=t.size/\(∀ j,j<t.size->cv (o+j)=vs[j]?)/\ac A env w (bu t d) vs
 | .int k,n,cv,o,h=>⟨[.int k n],rfl,fun j hj=>by
   simp only[CT.size] at hj;have:j=0:=by omega
   subst this;simpa using h.1,by simp only[bu,ac,aa];exact⟨_,[],rfl,⟨rfl,h.2⟩,rfl⟩⟩
 | .bool,b,cv,o,h=>⟨[.bool b],rfl,fun j hj=>by
   simp only[CT.size] at hj;have:j=0:=by omega
   subst this;simp only[Rd] at h;simpa using h,by simp only[bu,ac,aa];exact⟨_,[],rfl,rfl,rfl⟩⟩
 | .str,s,cv,o,h=>⟨[.string s],rfl,fun j hj=>by
   simp only[CT.size] at hj;have:j=0:=by omega
   subst this;simpa using h.1,by simp only[bu,ac,aa];exact⟨_,[],rfl,⟨rfl,h.2⟩,rfl⟩⟩
 | .sl t,xs,cv,o,h=>by
   obtain⟨v,hv,hs⟩:=gf.1 h
   exact⟨[v],rfl,fun j hj=>by
    simp only[CT.size] at hj;have:j=0:=by omega
    subst this;simpa using hv,by simp only[bu,ac,aa];exact⟨_,[],rfl,hs,rfl⟩⟩
 | .pair a b,d,cv,o,h=>by
   obtain⟨us,l1,c1,d1⟩:=io (env:=env) a d.1 cv o h.1
   obtain⟨vs,l2,c2,d2⟩:=io (env:=env) b d.2 cv (o+a.size) h.2
   refine⟨us++vs,by simp[CT.size,l1,l2],fun j hj=>?_,hB d1 d2⟩
   by_cases hlt:j<a.size
   ·rw[c1 j hlt,List.getElem?_append_left (by omega)]
   ·simp only[CT.size] at hj
    have:=c2 (j-a.size) (by omega)
    rw[show o+a.size+(j-a.size)=o+j from by omega] at this
    rw[this,List.getElem?_append_right (by omega),l1]
def bQ(t t':CT)(xs:List t.D):Option (List t'.D):=if h:t=t' then some (h▸xs) else none
theorem cD{t t':CT}{xs:List t.D}{ys:List t'.D}(h:bQ t t' xs=some ys):∃ e:t=t',ys=e▸xs:=by
 unfold bQ at h
 split at h
 ·rename_i e;cases h;exact⟨e,rfl⟩
 ·cases h
def cC:(t:CT)->List SV->Q (t.D×List SV×List (Nat×Nm))
 | .int k,.int k' n::r=>match c6 k k' with
  | true => .ret (n,r,[])
  | false => .fail
 | .bool,.bool b::r => .ret (b,r,[])
 | .str,.str s::r => .ret (s,r,[])
 | .sl t,.dsl t' xs::r=>match bQ t' t xs with
  | some ys => .ret (ys,r,[])
  | none => .fail
 | .sl t,.dsx t' xs::r=>match bQ t' t xs with
  | some ys => .ret (ys,r,[])
  | none => .fail
 | .sl t,.nilsl::r => .ret ([],r,[])
 | .sl t,.own n sz::r => .ask n fun
  | .live (.row E t' xs)=>match Nat.beq sz t'.size,bQ t' t xs with
   | true,some ys => .ret (ys,r,[(n,.live (.frz E t' xs))])
   | _,_ => .fail
  | .live (.frz E t' xs)=>match Nat.beq sz t'.size,bQ t' t xs with
   | true,some ys => .ret (ys,r,[])
   | _,_ => .fail
  | _ => .fail
 | .pair a b,cs=>(cC a cs).bind fun p=>(cC b p.2.1).bind fun q=>.ret ((p.1,q.1),q.2.1,p.2.2++q.2.2)
 | _,_ => .fail
def bM(env:ai)(fz:List (Nat×Nm))(k:Nat):Prop:=∃ n b l,(n,b)∈fz/\env n = .blk k l
def dW(h:aI)(fz:List (Nat×Nm)):Prop:=∀ n b,(n,b)∈fz→∃ E t xs,h n = .live (.row E t xs)/\b = .live (.frz E t xs)
section
variable {w0:World} {N0:bv} {A A':Nat->Prop} {env:ai} {h:aI} {w:World}
theorem lV(hA:∀ b,A b->A' b){k:Nat}{len:Nat×Nat}{E:TypeId}{t:CT}{xs:List t.D}(hr:ef A w k len E t xs)(hk:A' k){c:Nat}{E':TypeId}
  (hs:w.shape? k=some (E',c)):ep A' w t (.slice (some ⟨k,len.1,none⟩) len.2 ((c-len.1)/t.size)) xs:=by
 obtain⟨vs,cap,hh,h1,h2,h3,h4,h5⟩:=hr
 have hc:c=vs.size:=by
  unfold World.shape? at hs
  rw[hh] at hs
  simp only[Option.some.injEq,Prod.mk.injEq] at hs
  exact hs.2.symm
 have hcap:(c-len.1)/t.size=cap:=by rw[hc,h1,Nat.add_sub_cancel_left];exact Nat.mul_div_cancel _ t.size_pos
 rw[hcap,← h2]
 refine⟨by omega,.inr ⟨k,len.1,cap,rfl,by omega,h4,hk,fun i hi=>?_⟩⟩
 refine bR hA (fun _ _ _=>rfl) t _ _ _ _ (fun j _=>?_) (h5 i hi)
 rw[cell_of_row w k _ vs E (0,0) hh]
theorem sO{t:CT}{cv:Nat->Option Value}{o:Nat}{d:t.D}(hr:Rd A w t cv o d)(n:Nat):Rd A w t (fun j=>cv (j-n)) (o+n) d:=by
 have key:∀(t:CT)(cv:Nat->Option Value)(o:Nat)(d:t.D),Rd A w t cv o d->Rd A w t (fun j=>cv (j-n)) (o+n) d:=by
  intro t
  induction t with
  | pair a b iha ihb =>
   intro cv o d hh
   refine⟨iha _ _ _ hh.1,?_⟩
   have:=ihb _ _ _ hh.2
   rwa [show o+a.size+n=o+n+a.size from by omega] at this
  | int k=>intro cv o d hh;simpa[Rd] using hh
  | bool=>intro cv o d hh;simpa[Rd] using hh
  | str=>intro cv o d hh;simpa[Rd] using hh
  | sl t ih=>intro cv o d hh;simpa[Rd] using hh
 exact key t cv o d hr
theorem jK{t:CT}{cv:Nat->Option Value}{d:t.D}(hr:Rd A w t cv 0 d)(n:Nat):Rd A w t (fun j=>cv (j-n)) (0+n) d:=sO hr n
theorem f5(m:aw w0 N0 A env h w):∀(t:CT)(cs:List SV)(vs:List Value)(d:t.D)(rest:List SV)(fz:List (Nat×Nm))(r:List Nat),
  (cC t cs).run h=some ((d,rest,fz),r)->ac A env w cs vs->(∀ b,A b->A' b)->(∀ k,bM env fz k->A' k) →
  dW h fz/\(∀ n b,(n,b)∈fz->n∈r)/\vs.length=t.size+rest.length/\Rd A' w t (fun j=>vs[j]?) 0 d/\ac A env w rest (vs.drop t.size):=by
 intro t
 have hnil:∀{n:Nat}{b:Nm},(n,b)∈([]:List (Nat×Nm))->False:=fun hh=>by simp at hh
 induction t with
 | int k =>
  intro cs vs d rest fz r e hd hA hF
  match cs with
  | .int k' n::cs => ?_
  | [] | .bool _::_ | .str _::_ | .dsl _ _::_ | .dsx _ _::_ | .nilsl::_ | .own _ _::_ | .ptr _ _::_ | .eptr _ _ _ _::_ | .dptr _ _ _::_ | .nilp::_ | .fn _ _::_ | .agg _::_ | .tup _::_ | .opt _ _::_ | .cv _::_ | .gl _::_ | .csl _ _::_ | .mapp _::_ | .part _ _ _ _::_ | .hv _ _::_ | .junk::_=>cases e
  simp only[cC] at e
  split at e
  ·rename_i hk
   cases dk hk
   simp only[Q.run,Option.some.injEq,Prod.mk.injEq] at e
   obtain⟨⟨rfl,rfl,rfl⟩,rfl⟩:=e
   simp only[ac,aa] at hd
   obtain⟨v,r,rfl,⟨rfl,hh⟩,hr⟩:=hd
   have hl:=cm hr
   exact⟨fun _ _ h=>(hnil h).elim,fun _ _ h=>(hnil h).elim,by simp[CT.size,hl];omega,⟨by simp,hh⟩,by simpa[CT.size] using hr⟩
  ·cases e
 | bool =>
  intro cs vs d rest fz r e hd hA hF
  match cs with
  | .bool n::cs => ?_
  | [] | .int _ _::_ | .str _::_ | .dsl _ _::_ | .dsx _ _::_ | .nilsl::_ | .own _ _::_ | .ptr _ _::_ | .eptr _ _ _ _::_ | .dptr _ _ _::_ | .nilp::_ | .fn _ _::_ | .agg _::_ | .tup _::_ | .opt _ _::_ | .cv _::_ | .gl _::_ | .csl _ _::_ | .mapp _::_ | .part _ _ _ _::_ | .hv _ _::_ | .junk::_=>cases e
  simp only[cC] at e
  simp only[Q.run,Option.some.injEq,Prod.mk.injEq] at e
  obtain⟨⟨rfl,rfl,rfl⟩,rfl⟩:=e
  simp only[ac,aa] at hd
  obtain⟨v,r,rfl,rfl,hr⟩:=hd
  have hl:=cm hr
  exact⟨fun _ _ h=>(hnil h).elim,fun _ _ h=>(hnil h).elim,by simp[CT.size,hl];omega,by simp[Rd],by simpa[CT.size] using hr⟩
 | str =>
  intro cs vs d rest fz r e hd hA hF
  match cs with
  | .str n::cs => ?_
  | [] | .int _ _::_ | .bool _::_ | .dsl _ _::_ | .dsx _ _::_ | .nilsl::_ | .own _ _::_ | .ptr _ _::_ | .eptr _ _ _ _::_ | .dptr _ _ _::_ | .nilp::_ | .fn _ _::_ | .agg _::_ | .tup _::_ | .opt _ _::_ | .cv _::_ | .gl _::_ | .csl _ _::_ | .mapp _::_ | .part _ _ _ _::_ | .hv _ _::_ | .junk::_=>cases e
  simp only[cC] at e
  simp only[Q.run,Option.some.injEq,Prod.mk.injEq] at e
  obtain⟨⟨rfl,rfl,rfl⟩,rfl⟩:=e
  simp only[ac,aa] at hd
  obtain⟨v,r,rfl,⟨rfl,hh⟩,hr⟩:=hd
  have hl:=cm hr
  exact⟨fun _ _ h=>(hnil h).elim,fun _ _ h=>(hnil h).elim,by simp[CT.size,hl];omega,⟨by simp,hh⟩,by simpa[CT.size] using hr⟩
 | sl t ih =>
  intro cs vs d rest fz r e hd hA hF
  match cs with
  | .dsl t' xs::cs =>
   simp only[cC] at e
   split at e
   ·rename_i ys hc
    obtain⟨et,ey⟩:=cD hc
    subst et
    simp only[Q.run,Option.some.injEq,Prod.mk.injEq] at e
    obtain⟨⟨rfl,rfl,rfl⟩,rfl⟩:=e
    simp only at ey
    subst ey
    simp only[ac,aa] at hd
    obtain⟨v,r,rfl,hs,hr⟩:=hd
    have hl:=cm hr
    exact⟨fun _ _ h=>(hnil h).elim,fun _ _ h=>(hnil h).elim,by simp[CT.size,hl];omega,gf.2 ⟨v,by simp,m7 hA (fun _ _ _=>rfl) hs⟩,by simpa[CT.size] using hr⟩
   ·cases e
  | .dsx t' xs::cs =>
   simp only[cC] at e
   split at e
   ·rename_i ys hc
    obtain⟨et,ey⟩:=cD hc
    subst et
    simp only[Q.run,Option.some.injEq,Prod.mk.injEq] at e
    obtain⟨⟨rfl,rfl,rfl⟩,rfl⟩:=e
    simp only at ey
    subst ey
    simp only[ac,aa] at hd
    obtain⟨v,r,rfl,hs,hr⟩:=hd
    have hl:=cm hr
    exact⟨fun _ _ h=>(hnil h).elim,fun _ _ h=>(hnil h).elim,by simp[CT.size,hl];omega,gf.2 ⟨v,by simp,m7 hA (fun _ _ _=>rfl) hs.1⟩,by simpa[CT.size] using hr⟩
   ·cases e
  | .nilsl::cs =>
   simp only[cC] at e
   simp only[Q.run,Option.some.injEq,Prod.mk.injEq] at e
   obtain⟨⟨rfl,rfl,rfl⟩,rfl⟩:=e
   simp only[ac,aa] at hd
   obtain⟨v,r,rfl,rfl,hr⟩:=hd
   have hl:=cm hr
   exact⟨fun _ _ h=>(hnil h).elim,fun _ _ h=>(hnil h).elim,by simp[CT.size,hl];omega,gf.2 ⟨_,by simp;rfl,by simp,.inl ⟨⟨_,rfl⟩,rfl⟩⟩,by simpa[CT.size] using hr⟩
  | .own n sz::cs =>
   simp only[cC,Q.run] at e
   simp only[ac,aa] at hd
   obtain⟨v,r',rfl,hv,hr⟩:=hd
   have hl:=cm hr
   have hm:=m.nm n
   split at e
   ·rename_i p q hk
    simp only[Option.some.injEq,Prod.mk.injEq] at e
    obtain⟨rfl,rfl⟩:=e
    split at hk
    ·rename_i E t' xs hl'
     rw[hl'] at hm
     split at hk
     ·rename_i ys hsz hc
      obtain⟨et,ey⟩:=cD hc
      subst et
      simp only[Q.run,Option.some.injEq,Prod.mk.injEq] at hk
      obtain⟨⟨rfl,rfl,rfl⟩,rfl⟩:=hk
      simp only at ey
      subst ey
      have hsz:sz=t'.size:=Nat.eq_of_beq_eq_true hsz
      subst hsz
      refine⟨?_,?_,by simp[CT.size,hl];omega,?_,by simpa[CT.size] using hr⟩
      ·intro n' b' hh
       simp only[List.mem_singleton,Prod.mk.injEq] at hh
       obtain⟨rfl,rfl⟩:=hh
       exact⟨E,t',_,hl',rfl⟩
      ·intro n' b' hh
       simp only[List.mem_singleton,Prod.mk.injEq] at hh
       simp[hh.1]
      ·rcases hv with⟨he,a,rfl⟩|⟨b,len,E',c,he,hs,rfl⟩
       ·rcases hm with⟨k,len,he',_⟩|⟨_,E2,t2,hb⟩
        ·rw[he] at he';cases he'
        ·have hx:ys=[]:=by
          rcases hb with hb|hb <;> cases hb <;> rfl
         subst hx
         exact gf.2 ⟨_,by simp;rfl,by simp,.inl ⟨⟨_,rfl⟩,rfl⟩⟩
       ·rcases hm with⟨k,len',he',hb,_⟩|⟨he',_⟩
        ·rw[he] at he';cases he'
         exact gf.2 ⟨_,by simp,lV hA hb (hF b ⟨n,_,len,by simp;rfl,he⟩) hs⟩
        ·rw[he] at he';cases he'
     ·cases hk
    ·rename_i E t' xs hl'
     rw[hl'] at hm
     split at hk
     ·rename_i ys hsz hc
      obtain⟨et,ey⟩:=cD hc
      subst et
      simp only[Q.run,Option.some.injEq,Prod.mk.injEq] at hk
      obtain⟨⟨rfl,rfl,rfl⟩,rfl⟩:=hk
      simp only at ey
      subst ey
      have hsz:sz=t'.size:=Nat.eq_of_beq_eq_true hsz
      subst hsz
      refine⟨fun _ _ h=>(hnil h).elim,fun _ _ h=>(hnil h).elim,by simp[CT.size,hl];omega,?_,by simpa[CT.size] using hr⟩
      ·rcases hv with⟨he,a,rfl⟩|⟨b,len,E',c,he,hs,rfl⟩
       ·rcases hm with⟨k,len,he',_⟩|⟨_,E2,t2,hb⟩
        ·rw[he] at he';cases he'
        ·have hx:ys=[]:=by
          rcases hb with hb|hb <;> cases hb <;> rfl
         subst hx
         exact gf.2 ⟨_,by simp;rfl,by simp,.inl ⟨⟨_,rfl⟩,rfl⟩⟩
       ·rcases hm with⟨k,len',he',hb,_⟩|⟨he',_⟩
        ·rw[he] at he';cases he'
         exact gf.2 ⟨_,by simp,lV hA hb.2 (hA _ hb.1) hs⟩
        ·rw[he] at he';cases he'
     ·cases hk
    ·cases hk
   ·cases e
  | [] | .int _ _::_ | .bool _::_ | .str _::_ | .ptr _ _::_ | .eptr _ _ _ _::_ | .dptr _ _ _::_ | .nilp::_ | .fn _ _::_ | .agg _::_ | .tup _::_ | .opt _ _::_ | .cv _::_ | .gl _::_ | .csl _ _::_ | .mapp _::_ | .part _ _ _ _::_ | .hv _ _::_ | .junk::_=>cases e
 | pair a b iha ihb =>
  intro cs vs d rest fz r e hd hA hF
  simp only[cC] at e
  obtain⟨⟨d1,r1,f1⟩,q1,q2,e1,e2,rfl⟩:=Q.run_bind _ _ _ e
  obtain⟨⟨d2,r2,f2⟩,q3,q4,e3,e4,rfl⟩:=Q.run_bind _ _ _ e2
  simp only[Q.run,Option.some.injEq,Prod.mk.injEq] at e4
  obtain⟨⟨rfl,rfl,rfl⟩,rfl⟩:=e4
  have hF1:∀ k,bM env f1 k->A' k:=fun k ⟨n,x,l,hx,he⟩=>hF k ⟨n,x,l,List.mem_append_left _ hx,he⟩
  have hF2:∀ k,bM env f2 k->A' k:=fun k ⟨n,x,l,hx,he⟩=>hF k ⟨n,x,l,List.mem_append_right _ hx,he⟩
  obtain⟨o1,n1,l1,rd1,dr1⟩:=iha cs vs d1 r1 f1 q1 e1 hd hA hF1
  obtain⟨o2,n2,l2,rd2,dr2⟩:=ihb r1 _ d2 r2 f2 q3 e3 dr1 hA hF2
  refine⟨?_,?_,?_,⟨rd1,?_⟩,?_⟩
  ·intro n x hx
   rcases List.mem_append.1 hx with hx|hx
   ·exact o1 n x hx
   ·exact o2 n x hx
  ·intro n x hx
   rcases List.mem_append.1 hx with hx|hx
   ·exact List.mem_append_left _ (n1 n x hx)
   ·exact List.mem_append_right _ (List.mem_append_left _ (n2 n x hx))
  ·simp only[CT.size];simp at l2;omega
  ·refine bR (fun _ h=>h) (fun _ _ _=>rfl) b _ _ _ _ (fun j _=>?_) (jK rd2 a.size)
   simp[Nat.add_comm]
  ·simp only[CT.size]
   rw[← List.drop_drop]
   exact dr2
end
end Go.SX

/- SX, part 6: parts of structs and arrays, addresses, loads, lengths. -/
namespace Go.SX
set_option linter.unusedVariables false
def jg:Option SV->Q Dl
 | some v=>aL v
 | none => .fail
def nM(P:Program)(s:TypeId)(f:Nat):Option Field:=match P.underlying s with
 | some (.struct fs)=>fs[f]?
 | _=>none
def qT(P:Program)(s:TypeId)(f:Nat)(x:SV):Q Dl:=match x,nM P s f with
 | .agg cs,some fd=>jg (d9 P fd.type cs fd.offset)
 | _,_ => .fail
def ph(i:Nat)(x:SV):Q Dl:=match x with
 | .tup cs=>jg (dL cs i)
 | _ => .fail
def pR(x:SV):Q Dl:=match x with
 | .ptr n o=>aL (.ptr n o)
 | .eptr n s i o=>aL (.eptr n s i o)
 | .dptr t d o=>aL (.dptr t d o)
 | .fn f c=>aL (.fn f c)
 | _ => .fail
def pz(P:Program)(s:TypeId)(f:Nat)(x:SV):Q Dl:=match nM P s f with
 | some fd=>match bL P fd.type with
  | some (_+1)=>match x with
   | .ptr n o=>aL (.ptr n (o+fd.offset))
   | .eptr n sz i o=>aL (.eptr n sz i (o+fd.offset))
   | .dptr t d o=>aL (.dptr t d (o+fd.offset))
   | _ => .fail
  | _ => .fail
 | none => .fail
def lU(P:Program)(ty:TypeId)(x:SV):Q Dl:=match x with
 | .ptr n off => .ask n fun
  | .live (.cells _ cs)=>jg (d9 P ty cs off)
  | _ => .fail
 | .eptr n sz i off => .ask n fun
  | .live (.row _ t xs)=>match Nat.beq sz t.size with
   | true=>jg (d9 P ty (bu t (cw t xs i)) off)
   | false => .fail
  | .live (.frz _ t xs)=>match Nat.beq sz t.size with
   | true=>jg (d9 P ty (bu t (cw t xs i)) off)
   | false => .fail
  | _ => .fail
 | .dptr t d off=>jg (d9 P ty (bu t d) off)
 | _ => .fail
def fK(P:Program)(t:TypeId):Option (TypeId×Nat):=match P.underlying t with
 | some (.slice e)=>match bL P e with
  | some n=>some (e,n)
  | none=>none
 | _=>none
def pT(P:Program)(t:TypeId)(x i:SV):Q Dl:=match i,fK P t with
 | .int _ i,some (_,n)=>match x with
  | .dsl u xs=>match Nat.beq n u.size with
   | true => .ret (.det [0<=i,i<xs.length] (.dptr u (cw u xs i.toNat) 0) [])
   | false => .fail
  | .own m sz => .ask m fun
   | .live (.row _ u xs)=>match Nat.beq n u.size,Nat.beq sz u.size with
    | true,true => .ret (.det [0<=i,i<xs.length] (.eptr m sz i.toNat 0) [])
    | _,_ => .fail
   | .live (.frz _ u xs)=>match Nat.beq n u.size,Nat.beq sz u.size with
    | true,true => .ret (.det [0<=i,i<xs.length] (.eptr m sz i.toNat 0) [])
    | _,_ => .fail
   | _ => .fail
  | .csl m k=>match Nat.beq n 1,decide (0<=i)&&decide (i<k) with
   | true,true=>aL (.ptr m i.toNat)
   | _,_ => .fail
  | .part m sz lo len=>match Nat.beq n sz with
   | true => .ret (.det [0<=i,i<len] (.eptr m sz (lo+i.toNat) 0) [])
   | false => .fail
  | _ => .fail
 | _,_ => .fail
def eQ(P:Program)(t:TypeId)(x:SV):Q Dl:=match P.underlying t with
 | some (.slice _)=>match x with
  | .dsl _ xs=>aL (.int .i64 xs.length)
  | .dsx _ xs=>aL (.int .i64 xs.length)
  | .nilsl=>aL (.int .i64 0)
  | .own n _ => .ask n fun
   | .live (.row _ _ xs)=>aL (.int .i64 xs.length)
   | .live (.frz _ _ xs)=>aL (.int .i64 xs.length)
   | _ => .fail
  | .csl _ k=>match Nat.ble k maxLen with
   | true=>aL (.int .i64 k)
   | false => .fail
  | .part n _ lo len => .ask n fun
   | .live (.row _ _ _)=>aL (.int .i64 len)
   | _ => .fail
  | _ => .fail
 | _ => .fail
def qV(x y:SV):Q Dl:=match x,y with
 | .int k a,.int k' b=>match c6 k k' with
  | true=>aL (.int k (min a b))
  | false => .fail
 | _,_ => .fail
def qA(x y:SV):Q Dl:=match x,y with
 | .int k a,.int k' b=>match c6 k k' with
  | true=>aL (.int k (max a b))
  | false => .fail
 | _,_ => .fail
section
variable {P:Program} {w0:World} {N0:bv} {A:Nat->Prop} {env:ai} {h:aI} {w:World} {o:Oper} {a:Act} {ρ:Nat->SV} {d:Dl} {r:List Nat}
theorem lM{t:TypeId}{cs:List SV}{off:Nat}{s:SV}{us:List Value}{k o:Nat}(e:d9 P t cs off=some s)(hd:ac A env w cs us)
  (hc:∀ j,j<us.length->w.cell? ⟨k,o+j,none⟩=us[j]?) :
  ∃ v,(loadVar t ⟨k,o+off,none⟩).run P w = .ok v w/\aa A env w s v:=by
 unfold d9 at e
 split at e
 ·rename_i ha
  split at e
  ·rename_i n hn
   split at e
   ·rename_i hle
    cases e
    have hle:off+n<=cs.length:=Nat.le_of_ble_eq_true hle
    have hl:=cm hd
    have hrow:∃ dd,P.underlying t=some dd/\dd.isRow=true:=by
     unfold ja at ha
     split at ha
     ·rename_i hu;exact⟨_,hu,rfl⟩
     ·rename_i hu;exact⟨_,hu,rfl⟩
     ·cases ha
     ·cases ha
    obtain⟨dd,hu,hdd⟩:=hrow
    have hi:(P.info? t).map (·.size)=some ((us.drop off).take n).length:=by
     unfold bL at hn
     split at hn
     ·rename_i i hii;cases hn;rw[hii];simp;omega
     ·cases hn
    refine⟨.agg ((us.drop off).take n).toArray,run_loadVar_mid w k (o+off) t _ dd ?_ hu hdd hi,?_⟩
    ·intro j v hj
     have hj':=hj
     rw[List.getElem?_take] at hj
     split at hj
     ·rename_i hjn
      rw[List.getElem?_drop] at hj
      have hlt:off+j<us.length:=(List.getElem?_eq_some_iff.1 hj).1
      have:=hc (off+j) hlt
      rw[show o+off+j=o+(off+j) from by omega,this];exact hj
     ·cases hj
    ·simp only[aa]
     exact⟨_,rfl,by simpa using lZ n (lY off hd)⟩
   ·cases e
  ·cases e
 ·rename_i ha
  rw[i6] at e
  obtain⟨v,hv,hd'⟩:=iN _ _ hd e
  refine⟨v,?_,hd'⟩
  have hlt:off<us.length:=(List.getElem?_eq_some_iff.1 hv).1
  have hcell:=hc off hlt
  rw[hv] at hcell
  simp[loadVar,Sem.run_bind,mr ha w,hcell]
 ·cases e
theorem jr{x:Option SV}(e:(jg x).run h=some (d,r)):∃ s,x=some s/\d = .det [] s []:=by
 cases x with
 | none=>cases e
 | some s=>exact⟨s,rfl,(aK e).symm⟩
theorem vG{s:TypeId}{f:Nat}{fd:Field}(e:nM P s f=some fd):∃ fs,P.underlying s=some (.struct fs)/\fs[f]? = some fd:=by
 unfold nM at e
 split at e
 ·rename_i fs hu;exact⟨fs,hu,e⟩
 ·cases e
theorem D3(m:aw w0 N0 A env h w)(f:FD A env w ρ a){s:TypeId}{x:Operand}{i:Nat}(ho:o.op = .field s x i)
  (e:(qT P s i (ag ρ x)).run h=some (d,r)):av P o a w0 N0 A env h w d:=by
 have dx:=aT f x
 unfold qT at e
 split at e
 ·rename_i cs fd hx hf
  obtain⟨sv,e1,rfl⟩:=jr e
  obtain⟨fs,hu,hfs⟩:=vG hf
  rw[hx] at dx;simp only[aa] at dx
  obtain⟨vs,ev,dv⟩:=dx
  obtain⟨v,hr,hd⟩:=oN e1 dv
  refine av.pure m (v:=v) ?_ hd
  unfold execOp;rw[ho]
  simp[Instr.field,run_underlying hu,hfs,ev,asAgg,hr]
 ·cases e
theorem zM(m:aw w0 N0 A env h w)(f:FD A env w ρ a){x:Operand}{i:Nat}(ho:o.op = .extract x i)
  (e:(ph i (ag ρ x)).run h=some (d,r)):av P o a w0 N0 A env h w d:=by
 have dx:=aT f x
 unfold ph at e
 split at e
 ·rename_i cs hx
  obtain⟨sv,e1,rfl⟩:=jr e
  rw[hx] at dx;simp only[aa] at dx
  obtain⟨vs,ev,dv⟩:=dx
  rw[i6] at e1
  obtain⟨v,hv,hd⟩:=iN _ _ dv e1
  have hv':vs[i]? = some v:=by rw[← Array.getElem?_toList];exact hv
  refine av.pure m (v:=v) ?_ hd
  unfold execOp;rw[ho]
  simp[Instr.extract,ev,hv']
 ·cases e
theorem AZ(m:aw w0 N0 A env h w)(f:FD A env w ρ a){x:Operand}(ho:o.op = .nilCheck x)
  (e:(pR (ag ρ x)).run h=some (d,r)):av P o a w0 N0 A env h w d:=by
 have dx:=aT f x
 unfold pR aL at e
 split at e
 ·rename_i n o' hx
  cases aK e
  rw[hx] at dx
  have dx':=dx
  simp only[aa] at dx
  obtain⟨b,l,he,ev⟩:=dx
  exact av.pure m (v:=a.eval x) (by unfold execOp;rw[ho];simp[ev]) dx'
 ·rename_i n s i o' hx
  cases aK e
  rw[hx] at dx
  have dx':=dx
  simp only[aa] at dx
  obtain⟨b,l,he,hl,ev⟩:=dx
  exact av.pure m (v:=a.eval x) (by unfold execOp;rw[ho];simp[ev]) dx'
 ·rename_i t d' o' hx
  cases aK e
  rw[hx] at dx
  have dx':=dx
  simp only[aa] at dx
  obtain⟨b,l,ev,he⟩:=dx
  exact av.pure m (v:=a.eval x) (by unfold execOp;rw[ho];simp[ev]) dx'
 ·rename_i ff c hx
  cases aK e
  rw[hx] at dx
  have dx':=dx
  simp only[aa] at dx
  obtain⟨vs,ev,he⟩:=dx
  exact av.pure m (v:=a.eval x) (by unfold execOp;rw[ho];simp[ev]) dx'
 ·cases e
theorem BB(m:aw w0 N0 A env h w)(f:FD A env w ρ a){s:TypeId}{x:Operand}{i:Nat}(ho:o.op = .fieldAddr s x i)
  (e:(pz P s i (ag ρ x)).run h=some (d,r)):av P o a w0 N0 A env h w d:=by
 have dx:=aT f x
 unfold pz at e
 split at e
 ·rename_i fd hf
  obtain⟨fs,hu,hfs⟩:=vG hf
  split at e
  ·rename_i z hsz
   have go:∀(b off:Nat),a.eval x = .pointer (some ⟨b,off,none⟩)->(execOp a.eval o).run P w = .ok (.value (.pointer (some ⟨b,off+fd.offset,none⟩))) w:=by
    intro b off ev
    unfold execOp;rw[ho]
    have hz:¬ (z+1=0):=by omega
    simp[Instr.fieldAt,run_underlying hu,hfs,ev,Instr.sureAddr,fieldPlace,cz hsz,Addr.add_lit]
   split at e
   ·rename_i n o' hx
    unfold aL at e
    cases aK e
    rw[hx] at dx;simp only[aa] at dx
    obtain⟨b,l,he,ev⟩:=dx
    exact av.pure m (go b o' ev) (by simp only[aa];exact⟨b,l,he,rfl⟩)
   ·rename_i n s' i' o' hx
    unfold aL at e
    cases aK e
    rw[hx] at dx;simp only[aa] at dx
    obtain⟨b,l,he,hl,ev⟩:=dx
    exact av.pure m (go b _ ev) (by simp only[aa];exact⟨b,l,he,hl,by rw[Nat.add_assoc,Nat.add_assoc]⟩)
   ·rename_i t d' o' hx
    unfold aL at e
    cases aK e
    rw[hx] at dx;simp only[aa] at dx
    obtain⟨b,l,ev,hA,hr⟩:=dx
    exact av.pure m (go b _ ev) (by simp only[aa];exact⟨b,l,by rw[Nat.add_assoc],hA,hr⟩)
   ·cases e
  ·cases e
 ·cases e
theorem pv{t:CT}{xs:List t.D}{i:Nat}(hi:i<xs.length):cw t xs i=xs[i]:=by
 simp[cw,List.getD_eq_getElem?_getD,hi]
theorem kj{k:Nat}{len:Nat×Nat}{E:TypeId}{t:CT}{xs:List t.D}(hr:ef A w k len E t xs){i:Nat}(hi:i<len.2) :
  Rd A w t (fun o=>w.cell? ⟨k,o,none⟩) (len.1+i*t.size) (cw t xs i):=by
 obtain⟨vs,cap,hh,h1,h2,h3,h4,h5⟩:=hr
 rw[pv (by omega:i<xs.length)]
 refine bR (fun _ h=>h) (fun _ _ _=>rfl) t _ _ _ _ (fun j _=>?_) (h5 i (by omega))
 rw[cell_of_row w k _ vs E (0,0) hh]
theorem rh{t:CT}{d':t.D}{k ob off:Nat}{ty:TypeId}{s:SV}(hr:Rd A w t (fun o=>w.cell? ⟨k,o,none⟩) ob d')(e:d9 P ty (bu t d') off=some s) :
  ∃ v,(loadVar ty ⟨k,ob+off,none⟩).run P w = .ok v w/\aa A env w s v:=by
 obtain⟨us,hl,hc,hd⟩:=io (env:=env) t d' _ ob hr
 exact lM e hd (fun j hj=>hc j (by omega))
theorem qZ(m:aw w0 N0 A env h w){ty:TypeId}{x:Operand}(φ:Operand->SV)(dx:aa A env w (φ x) (a.eval x))(ho:o.op = .load ty x)
  (e:(lU P ty (φ x)).run h=some (d,r)):av P o a w0 N0 A env h w d:=by
 have go:∀{b off:Nat}{v:Value},a.eval x = .pointer (some ⟨b,off,none⟩)->(loadVar ty ⟨b,off,none⟩).run P w = .ok v w->(execOp a.eval o).run P w = .ok (.value v) w:=by
  intro b off v ev hr
  unfold execOp;rw[ho]
  simp only[ev,Instr.loadAt,Instr.sureAddr,Sem.run_bind,Sem.run_pure,Result.andThen_ok,hr]
 unfold lU at e
 split at e
 ·rename_i n off hx
  rw[hx] at dx;simp only[aa] at dx
  obtain⟨b,l,he,ev⟩:=dx
  simp only[Q.run] at e
  split at e
  ·rename_i p q hk
   simp only[Option.some.injEq,Prod.mk.injEq] at e
   obtain⟨rfl,rfl⟩:=e
   split at hk
   ·rename_i E cs hl
    obtain⟨s,e1,rfl⟩:=jr hk
    obtain⟨⟨vs,hh,hd⟩,_⟩:=m.live_blk hl he
    obtain⟨v,hr,hv⟩:=lM (o:=0) (k:=b) e1 hd (fun j hj=>by rw[cell_of_row w b _ vs E (0,0) hh];simp)
    rw[Nat.zero_add] at hr
    exact av.pure m (go ev hr) hv
   ·cases hk
  ·cases e
 ·rename_i n sz i off hx
  rw[hx] at dx;simp only[aa] at dx
  obtain⟨b,l,he,hil,ev⟩:=dx
  simp only[Q.run] at e
  split at e
  ·rename_i p q hk
   simp only[Option.some.injEq,Prod.mk.injEq] at e
   obtain⟨rfl,rfl⟩:=e
   split at hk
   ·rename_i E t xs hl
    split at hk
    ·rename_i hsz
     have hsz:sz=t.size:=Nat.eq_of_beq_eq_true hsz
     subst hsz
     obtain⟨s,e1,rfl⟩:=jr hk
     obtain⟨v,hr,hv⟩:=rh (env:=env) (kj (m.live_blk hl he).1 hil) e1
     rw[Nat.add_assoc] at hr
     exact av.pure m (go ev hr) hv
    ·cases hk
   ·rename_i E t xs hl
    split at hk
    ·rename_i hsz
     have hsz:sz=t.size:=Nat.eq_of_beq_eq_true hsz
     subst hsz
     obtain⟨s,e1,rfl⟩:=jr hk
     obtain⟨v,hr,hv⟩:=rh (env:=env) (kj (m.live_blk hl he).1.2 hil) e1
     rw[Nat.add_assoc] at hr
     exact av.pure m (go ev hr) hv
    ·cases hk
   ·cases hk
  ·cases e
 ·rename_i t d' off hx
  rw[hx] at dx;simp only[aa] at dx
  obtain⟨b,l,ev,hA,hr⟩:=dx
  obtain⟨s,e1,rfl⟩:=jr e
  obtain⟨v,hr,hv⟩:=rh (env:=env) hr e1
  exact av.pure m (go ev hr) hv
 ·cases e
theorem gr{t e:TypeId}{n:Nat}(hh:fK P t=some (e,n)):P.underlying t=some (.slice e)/\bL P e=some n:=by
 unfold fK at hh
 split at hh
 ·rename_i e' hu
  split at hh
  ·rename_i n' hn;cases hh;exact⟨hu,hn⟩
  ·cases hh
 ·cases hh
theorem B0(m:aw w0 N0 A env h w)(f:FD A env w ρ a){t:TypeId}{x i:Operand}(ho:o.op = .indexAddr t x i)
  (e:(pT P t (ag ρ x) (ag ρ i)).run h=some (d,r)) (hp:aB d.pre):av P o a w0 N0 A env h w d:=by
 have dx:=aT f x
 have di:=aT f i
 unfold pT at e
 split at e
 ·rename_i k iv E n hi he
  obtain⟨hu,hn⟩:=gr he
  rw[hi] at di;simp only[aa] at di
  have go:∀{b off len cap:Nat},a.eval x = .slice (some ⟨b,off,none⟩) len cap->0<=iv->iv<len →
    (execOp a.eval o).run P w = .ok (.value (.pointer (some ⟨b,off+iv.toNat*n,none⟩))) w:=by
   intro b off len cap ev h0 h1
   unfold execOp;rw[ho]
   simp[Instr.indexAt,ev,di.1,asIntOf,run_underlying hu,cz hn,h0,h1,Addr.add_lit]
  split at e
  ·rename_i u xs hx
   rw[hx] at dx;simp only[aa] at dx
   split at e
   ·rename_i hsz
    have hsz:n=u.size:=Nat.eq_of_beq_eq_true hsz
    cases aK e
    simp only[Dl.pre,aB,and_true] at hp
    obtain⟨hlen,⟨_,rfl⟩|⟨b,off,cap,ev,h1,h2,h3,h4⟩⟩:=dx
    ·simp at hp;try omega
    ·refine av.pure m (go ev hp.1 hp.2) ?_
     simp only[aa]
     have hlt:iv.toNat<xs.length:=by omega
     exact⟨b,off+iv.toNat*n,rfl,h3,by rw[pv hlt,hsz];exact h4 _ hlt⟩
   ·cases e
  ·rename_i mm sz hx
   rw[hx] at dx;simp only[aa] at dx
   simp only[Q.run] at e
   split at e
   ·rename_i p q hk
    simp only[Option.some.injEq,Prod.mk.injEq] at e
    obtain⟨rfl,rfl⟩:=e
    have fin:∀{E':TypeId}{u:CT}{xs:List u.D},(h mm = .live (.row E' u xs)∨h mm = .live (.frz E' u xs))->n=u.size->sz=u.size->0<=iv->iv<xs.length →
      av P o a w0 N0 A env h w (.det [0<=iv,iv<xs.length] (.eptr mm sz iv.toNat 0) []):=by
     intro E' u xs hl hn' hsz' h0 h1
     rcases dx with⟨hnil,_⟩|⟨b,len,E2,c,hb,_,ev⟩
     ·exfalso
      have:=m.nm mm
      rcases hl with hl|hl <;> rw[hl] at this <;> rcases this with⟨k',l',he',_⟩|⟨_,E3,t3,hb⟩
      ·rw[hnil] at he';cases he'
      ·(rcases hb with hb|hb <;> cases hb);simp at h1;try omega
      ·rw[hnil] at he';cases he'
      ·(rcases hb with hb|hb <;> cases hb);simp at h1;try omega
     ·have hlen:xs.length=len.2:=by
       rcases hl with hl|hl
       ·obtain⟨vs,cap,_,_,h2,_⟩:=(m.live_blk hl hb).1;exact h2
       ·obtain⟨_,vs,cap,_,_,h2,_⟩:=(m.live_blk hl hb).1;exact h2
      refine av.pure m (go ev h0 (by omega)) ?_
      simp only[aa]
      exact⟨b,len,hb,by omega,by rw[hn',hsz',Nat.add_zero]⟩
    split at hk
    ·rename_i E' u xs hl
     split at hk
     ·rename_i h1 h2
      cases aK hk
      simp only[Dl.pre,aB,and_true] at hp
      exact fin (.inl hl) (Nat.eq_of_beq_eq_true h1) (Nat.eq_of_beq_eq_true h2) hp.1 hp.2
     ·cases hk
    ·rename_i E' u xs hl
     split at hk
     ·rename_i h1 h2
      cases aK hk
      simp only[Dl.pre,aB,and_true] at hp
      exact fin (.inr hl) (Nat.eq_of_beq_eq_true h1) (Nat.eq_of_beq_eq_true h2) hp.1 hp.2
     ·cases hk
    ·cases hk
   ·cases e
  ·rename_i mm kk hx
   rw[hx] at dx;simp only[aa] at dx
   obtain⟨b,l,he',ev⟩:=dx
   split at e
   ·rename_i h1 h2
    have h1:=Nat.eq_of_beq_eq_true h1
    simp only[Bool.and_eq_true,decide_eq_true_eq] at h2
    unfold aL at e
    cases aK e
    exact av.pure m (go ev h2.1 h2.2) (by simp only[aa];exact⟨b,l,he'.1,by rw[h1,Nat.mul_one,Nat.zero_add]⟩)
   ·cases e
  ·rename_i mm sz lo len hx
   rw[hx] at dx;simp only[aa] at dx
   split at e
   ·rename_i h1
    have h1:=Nat.eq_of_beq_eq_true h1
    subst h1
    cases aK e
    simp only[Dl.pre,aB,and_true] at hp
    rcases dx with⟨h0,_⟩|⟨b,l,E2,c,hb,hle,_,ev⟩
    ·omega
    ·refine av.pure m (go ev hp.1 hp.2) ?_
     simp only[aa]
     exact⟨b,l,hb,by omega,by rw[Nat.add_mul,Nat.add_zero,Nat.add_assoc]⟩
   ·cases e
  ·cases e
 ·cases e
theorem hM{n:Nat}(h:n<=maxLen):IntKind.i64.has n:=by
 simp only[maxLen] at h
 exact⟨by have:IntKind.i64.min = -9223372036854775808:=by decide
          omega,by rw[IntKind.max_i64];omega⟩
theorem BH(m:aw w0 N0 A env h w)(f:FD A env w ρ a){t:TypeId}{x:Operand}(ho:o.op = .call {callee := .builtin .len,args := #[x],argTypes := #[t]})
  (e:(eQ P t (ag ρ x)).run h=some (d,r)):av P o a w0 N0 A env h w d:=by
 have dx:=aT f x
 unfold eQ at e
 split at e
 ·rename_i E hu
  have go:∀{p:Option Addr}{len cap:Nat},a.eval x = .slice p len cap->(execOp a.eval o).run P w = .ok (.value (.int .i64 len)) w:=by
   intro p len cap ev
   unfold execOp;rw[ho]
   simp[resolve,invoke,builtin,Builtin.len_,run_underlying hu,ev,goInt]
  split at e
  ·rename_i u xs hx
   unfold aL at e
   cases aK e
   rw[hx] at dx;simp only[aa] at dx
   obtain⟨hlen,⟨⟨p,ev⟩,rfl⟩|⟨b,off,cap,ev,_⟩⟩:=dx
   ·exact av.pure m (go ev) (by simp only[aa];exact⟨by simp,hM hlen⟩)
   ·exact av.pure m (go ev) (by simp only[aa];exact⟨trivial,hM hlen⟩)
  ·rename_i u xs hx
   unfold aL at e
   cases aK e
   rw[hx] at dx;simp only[aa] at dx
   obtain⟨hh,p,ev⟩:=dx
   exact av.pure m (go ev) (by simp only[aa];exact⟨trivial,hM hh.1⟩)
  ·rename_i hx
   unfold aL at e
   cases aK e
   rw[hx] at dx;simp only[aa] at dx
   exact av.pure m (go dx) (by simp only[aa];exact⟨by simp,hM (n:=0) (by simp)⟩)
  ·rename_i mm sz hx
   rw[hx] at dx;simp only[aa] at dx
   simp only[Q.run] at e
   split at e
   ·rename_i p q hk
    simp only[Option.some.injEq,Prod.mk.injEq] at e
    obtain⟨rfl,rfl⟩:=e
    have fin:∀{E':TypeId}{u:CT}{xs:List u.D},(h mm = .live (.row E' u xs)∨h mm = .live (.frz E' u xs)) →
      av P o a w0 N0 A env h w (.det [] (.int .i64 xs.length) []):=by
     intro E' u xs hl
     rcases dx with⟨hnil,p,ev⟩|⟨b,len,E2,c,hb,_,ev⟩
     ·have hx:xs.length=0:=by
       have:=m.nm mm
       rcases hl with hl|hl <;> rw[hl] at this <;> rcases this with⟨k',l',he',_⟩|⟨_,E3,t3,hb⟩
       ·rw[hnil] at he';cases he'
       ·rcases hb with hb|hb <;> cases hb;rfl
       ·rw[hnil] at he';cases he'
       ·rcases hb with hb|hb <;> cases hb;rfl
      exact av.pure m (go ev) (by simp only[aa];rw[hx];exact⟨by simp,hM (n:=0) (by simp)⟩)
     ·have hlen:xs.length=len.2/\len.2<=maxLen:=by
       rcases hl with hl|hl
       ·obtain⟨vs,cap,_,_,h2,h3,h4,_⟩:=(m.live_blk hl hb).1;exact⟨h2,by omega⟩
       ·obtain⟨_,vs,cap,_,_,h2,h3,h4,_⟩:=(m.live_blk hl hb).1;exact⟨h2,by omega⟩
      exact av.pure m (go ev) (by simp only[aa];rw[hlen.1];exact⟨rfl,hM hlen.2⟩)
    split at hk
    ·rename_i E' u xs hl
     unfold aL at hk
     cases aK hk
     exact fin (.inl hl)
    ·rename_i E' u xs hl
     unfold aL at hk
     cases aK hk
     exact fin (.inr hl)
    ·cases hk
   ·cases e
  ·rename_i mm kk hx
   rw[hx] at dx;simp only[aa] at dx
   obtain⟨b,l,he',ev⟩:=dx
   split at e
   ·rename_i h1
    unfold aL at e
    cases aK e
    exact av.pure m (go ev) (by simp only[aa];exact⟨trivial,hM (Nat.le_of_ble_eq_true h1)⟩)
   ·cases e
  ·rename_i mm sz lo kk hx
   rw[hx] at dx;simp only[aa] at dx
   simp only[Q.run] at e
   split at e
   ·rename_i p q hk
    simp only[Option.some.injEq,Prod.mk.injEq] at e
    obtain⟨rfl,rfl⟩:=e
    split at hk
    ·rename_i E' u xs hl
     unfold aL at hk
     cases aK hk
     rcases dx with⟨rfl,pp,ev⟩|⟨b,l,E2,c,hb,hle,_,ev⟩
     ·exact av.pure m (go ev) (by simp only[aa];exact⟨by simp,hM (n:=0) (by simp)⟩)
     ·obtain⟨vs,cap,_,_,h2,h3,h4,_⟩:=(m.live_blk hl hb).1
      exact av.pure m (go ev) (by simp only[aa];exact⟨trivial,hM (by omega)⟩)
    ·cases hk
   ·cases e
  ·cases e
 ·cases e
theorem DA(m:aw w0 N0 A env h w)(f:FD A env w ρ a){ts:Array TypeId}{x y:Operand}(ho:o.op = .call {callee := .builtin .min,args := #[x,y],argTypes:=ts})
  (e:(qV (ag ρ x) (ag ρ y)).run h=some (d,r)):av P o a w0 N0 A env h w d:=by
 have dx:=aT f x
 have dy:=aT f y
 unfold qV at e
 split at e
 ·rename_i k u k' v hx hy
  split at e
  ·rename_i hk
   cases dk hk
   unfold aL at e
   cases aK e
   rw[hx] at dx;rw[hy] at dy;simp only[aa] at dx dy
   refine av.pure m (v := .int k (min u v)) ?_ (by simp only[aa];refine⟨trivial,?_⟩;rcases Int.le_total u v with hh|hh;rw[Int.min_eq_left hh];exact dx.2;rw[Int.min_eq_right hh];exact dy.2)
   unfold execOp;rw[ho]
   have hm:(if v<u then v else u)=min u v:=by split <;> omega
   simp[resolve,invoke,builtin,dx.1,dy.1,run_min_int2,hm]
  ·cases e
 ·cases e
theorem Cd(m:aw w0 N0 A env h w)(f:FD A env w ρ a){ts:Array TypeId}{x y:Operand}(ho:o.op = .call {callee := .builtin .max,args := #[x,y],argTypes:=ts})
  (e:(qA (ag ρ x) (ag ρ y)).run h=some (d,r)):av P o a w0 N0 A env h w d:=by
 have dx:=aT f x
 have dy:=aT f y
 unfold qA at e
 split at e
 ·rename_i k u k' v hx hy
  split at e
  ·rename_i hk
   cases dk hk
   unfold aL at e
   cases aK e
   rw[hx] at dx;rw[hy] at dy;simp only[aa] at dx dy
   refine av.pure m (v := .int k (max u v)) ?_ (by simp only[aa];refine⟨trivial,?_⟩;rcases Int.le_total u v with hh|hh;rw[Int.max_eq_right hh];exact dy.2;rw[Int.max_eq_left hh];exact dx.2)
   unfold execOp;rw[ho]
   have hm:(if u<v then v else u)=max u v:=by split <;> omega
   simp[resolve,invoke,builtin,dx.1,dy.1,run_max_int2,hm]
  ·cases e
 ·cases e
end
end Go.SX

/- SX, part 7: operations that make or write memory: variables, struct literals, stores. -/
namespace Go.SX
set_option linter.unusedVariables false
def jo(s:SV):Option (List SV):=match s with
 | .agg cs=>match gp cs with
  | true=>some cs
  | false=>none
 | s=>match s.one with
  | true=>some [s]
  | false=>none
def zeroCells(P:Program)(E:TypeId):Option (List SV):=match P.info? E with
 | some i=>match i.zero with
  | some (.agg cs)=>match gp (cs.toList.map jj) with
   | true=>some (cs.toList.map jj)
   | false=>none
  | some v=>match (jj v).one with
   | true=>some [jj v]
   | false=>none
  | none=>none
 | none=>none
def kp(E:TypeId)(nm:Nat)(cs:Option (List SV)):Q Dl := .ask nm fun
 | .un=>match cs with
  | some cs => .ret (.det [] (.ptr nm 0) [(nm,.live (.cells E cs))])
  | none => .fail
 | _ => .fail
def ec(cs:List SV)(off:Nat)(vs:List SV):List SV:=cs.take off++(vs++cs.drop (off+vs.length))
def jn(n:Nat):List (Nat×Nm)->Bool
 | []=>true
 | (m,_)::r => !Nat.beq n m&&jn n r
def kC(P:Program)(ty:TypeId)(x y:SV):Q Dl:=match jo y,bL P ty with
 | some vs,some n=>match Nat.beq n vs.length with
  | true=>match x with
   | .ptr m off => .ask m fun
    | .live (.cells E cs)=>match Nat.ble (off+vs.length) cs.length with
     | true => .ret (.det [] (.cv undef) [(m,.live (.cells E (ec cs off vs)))])
     | false => .fail
    | _ => .fail
   | .eptr m sz i off => .ask m fun
    | .live (.row E t xs)=>match Nat.beq sz t.size,Nat.ble (off+vs.length) t.size with
     | true,true=>(cC t (ec (bu t (cw t xs i)) off vs)).bind fun p=>match jn m p.2.2 with
      | true => .ret (.det [] (.cv undef) ((m,.live (.row E t (xs.set i p.1)))::p.2.2))
      | false => .fail
     | _,_ => .fail
    | _ => .fail
   | _ => .fail
  | false => .fail
 | _,_ => .fail
section
variable {P:Program} {w0:World} {N0:bv} {A:Nat->Prop} {env:ai} {h:aI} {w:World} {o:Oper} {a:Act} {ρ:Nat->SV} {d:Dl} {r:List Nat}
theorem py{v:Value}(h:v.oneCell'=true):v.cells = #[v]:=by cases v <;> first|rfl|cases h
theorem mB{s:SV}{cs:List SV}{v:Value}(e:jo s=some cs)(hd:aa A env w s v):ac A env w cs v.cells.toList∧∀ u∈v.cells.toList,u.oneCell'=true:=by
 unfold jo at e
 split at e
 ·rename_i cs'
  split at e
  ·rename_i ho
   cases e
   simp only[aa] at hd
   obtain⟨vs,rfl,hd⟩:=hd
   exact⟨hd,ly hd ho⟩
  ·cases e
 ·split at e
  ·rename_i ho
   cases e
   have h1:=n5 hd ho
   rw[py h1]
   exact⟨by simp only[ac];exact⟨v,[],rfl,hd,rfl⟩,by simpa using h1⟩
  ·cases e
theorem bp.fresh(m:aw w0 N0 A env h w){nm:Nat}(hn:h nm = .un){b:cU}{len:Nat×Nat}{s:SV}{v:Value}{w':World}(hm:b.mut=true)(k:Nat)(hk:w.heap.size<=k)
  (c:aR w w' fun _=>False) (hb:∀ x:aW A env w A (env.set nm (.blk k len)) w',cL A (env.set nm (.blk k len)) w' k len b)
  (hd:aa A (env.set nm (.blk k len)) w' s v):bp w0 N0 A env h w (.det [] s [(nm,.live b)]) v w':=by
 have hu:env nm = .un:=by have:=m.nm nm;rw[hn] at this;exact this
 have hA:¬ A k:=fun hA=>by have:=m.Alt k hA;omega
 have x:aW A env w A (env.set nm (.blk k len)) w':=by
  refine⟨fun _ h=>h,fun n b l e=>?_,fun n e=>?_,fun n v s e=>?_,fun b o hb=>?_,c.shape⟩
  ·rw[ai.set_other];exact e;intro e';rw[e'] at e;rw[hu] at e;cases e
  ·rw[ai.set_other];exact e;intro e';rw[e'] at e;rw[hu] at e;cases e
  ·rw[ai.set_other];exact e;intro e';rw[e'] at e;rw[hu] at e;cases e
  ·exact World.cell?_of_block (a:=⟨b,o,none⟩) (c.blk b (m.Alt b hb) (fun x=>x))
 have u:=cN.fresh m hn (o:=default) hm k hk hA c (hb x)
 exact⟨(),A,env.set nm (.blk k len),trivial,m.upd u,x,hd⟩
theorem vO(m:aw w0 N0 A env h w){E:TypeId}{nm:Nat}{cs:List SV}(hn:h nm = .un){vs:Array Value}(hd:ac A env w cs vs.toList) :
  bp w0 N0 A env h w (.det [] (.ptr nm 0) [(nm,.live (.cells E cs))]) (.pointer (some ⟨w.heap.size,0,none⟩)) (w.alloc (.cells vs E)):=by
 refine bp.fresh m hn (len:=(0,0)) rfl w.heap.size (Nat.le_refl _) (aR.alloc w _ _) (fun x=>⟨vs,heap_alloc_new w _,gg x _ _ hd⟩) ?_
 simp only[aa]
 exact⟨_,(0,0),ai.set_same _ _ _,rfl⟩
theorem wM{E:TypeId}{nm:Nat}{cs:Option (List SV)}(e:(kp E nm cs).run h=some (d,r)) :
  h nm = .un∧∃ c,cs=some c/\d = .det [] (.ptr nm 0) [(nm,.live (.cells E c))]:=by
 simp only[kp,Q.run] at e
 split at e
 ·rename_i p q hk
  simp only[Option.some.injEq,Prod.mk.injEq] at e
  obtain⟨rfl,rfl⟩:=e
  split at hk
  ·rename_i hun
   split at hk
   ·exact⟨hun,_,rfl,(aK hk).symm⟩
   ·cases hk
  ·cases hk
 ·cases e
theorem CQ(m:aw w0 N0 A env h w)(f:FD A env w ρ a){E:TypeId}{x:Operand}{nm:Nat}(ho:o.op = .box E x)
  (e:(kp E nm (jo (ag ρ x))).run h=some (d,r)):av P o a w0 N0 A env h w d:=by
 obtain⟨hun,c,hc,rfl⟩:=wM e
 obtain⟨h1,h2⟩:=mB hc (aT f x)
 refine⟨_,_,.inl ?_,vO m hun h1⟩
 unfold execOp;rw[ho]
 simp[Instr.box,newVar,newRow]
theorem lr{E:TypeId}{cs:List SV}(e:zeroCells P E=some cs):∃ i z,P.info? E=some i/\i.zero=some z/\ac A env w cs z.cells.toList∧∀ u∈z.cells.toList,u.oneCell'=true:=by
 have key:∀ l:List Value,ac A env w (l.map jj) l:=by
  intro l
  induction l with
  | nil=>simp[ac]
  | cons v l ih=>simp only[List.map_cons,ac];exact⟨v,l,rfl,mJ v,ih⟩
 unfold zeroCells at e
 split at e
 ·rename_i i hi
  split at e
  ·rename_i cs' hz
   split at e
   ·rename_i ho
    cases e
    exact⟨i,_,hi,hz,key _,ly (A:=A) (env:=env) (w:=w) (key _) ho⟩
   ·cases e
  ·rename_i v hna hz
   split at e
   ·rename_i ho
    cases e
    have h1:=n5 (A:=A) (env:=env) (w:=w) (mJ v) ho
    refine⟨i,v,hi,hz,?_,?_⟩
    ·rw[py h1];simp only[ac];exact⟨v,[],rfl,mJ v,rfl⟩
    ·rw[py h1];simpa using h1
   ·cases e
  ·cases e
 ·cases e
theorem xD(m:aw w0 N0 A env h w){E:TypeId}{nm:Nat}(ho:o.op = .alloc E)
  (e:(kp E nm (zeroCells P E)).run h=some (d,r)):av P o a w0 N0 A env h w d:=by
 obtain⟨hun,c,hc,rfl⟩:=wM e
 obtain⟨i,z,hi,hz,h1,h2⟩:=lr (A:=A) (env:=env) (w:=w) hc
 refine⟨_,_,.inl ?_,vO m hun h1⟩
 unfold execOp;rw[ho]
 simp[Instr.alloc,zeroValue,typeInfo,hi,hz,newVar,newRow]
theorem oC:∀{fz:List (Nat×Nm)},dW h fz→∀{n:Nat},(∃ b,(n,b)∈fz)→∃ E t xs,h n = .live (.row E t xs)/\aM fz h n = .live (.frz E t xs)
 | [],_,n,hn=>by obtain⟨b,hb⟩:=hn;simp at hb
 | (m,b)::fz,ok,n,hn=>by
  by_cases hnm:n=m
  ·subst hnm
   obtain⟨E,t,xs,h1,h2⟩:=ok n b (by simp)
   exact⟨E,t,xs,h1,by simp[aM,h2]⟩
  ·have hn':∃ b,(n,b)∈fz:=by
    obtain⟨b',hb'⟩:=hn
    rcases List.mem_cons.1 hb' with hh|hh
    ·cases hh;exact absurd rfl hnm
    ·exact⟨b',hh⟩
   obtain⟨E,t,xs,h1,h2⟩:=oC (fz:=fz) (fun n b hb=>ok n b (List.mem_cons_of_mem _ hb)) hn'
   exact⟨E,t,xs,h1,by rw[aM,aI.set_other _ _ hnm];exact h2⟩
def bC(A:Nat->Prop)(env:ai)(fz:List (Nat×Nm)):Nat->Prop:=fun b=>A b∨bM env fz b
theorem uy(m:aw w0 N0 A env h w){fz:List (Nat×Nm)}(ok:dW h fz) :
  cN (fun n=>∃ b,(n,b)∈fz) (fun _=>False) A env h w (bC A env fz) env (aM fz h) w:=by
 have x:aW A env w (bC A env fz) env w:=⟨fun b hb=>.inl hb,fun _ _ _ h=>h,fun _ h=>h,fun _ _ _ h=>h,fun _ _ _=>rfl,fun _ _ h=>h⟩
 refine⟨aR.refl w _,fun _ h=>h.elim,fun b hb=>.inl hb,?_,fun _ _=>rfl,fun _ _=>rfl,?_,?_,?_,?_⟩
 ·rintro b (hb|⟨n,nb,l,hn,he⟩)
  ·exact .inl hb
  ·obtain⟨E,t,xs,h1,_⟩:=ok n nb hn
   exact .inr ⟨.inr ⟨n,_,l,⟨nb,hn⟩,h1,rfl,he⟩,(m.live_blk h1 he).1.lt⟩
 ·intro n hn
  exact c7 (fun hh=>by
   obtain⟨p,hp,rfl⟩:=List.mem_map.1 hh
   exact hn ⟨p.2,hp⟩)
 ·rintro n ⟨b,hn⟩
  obtain⟨E,t,xs,h1,h2⟩:=oC ok ⟨b,hn⟩
  rw[h2]
  have:=m.nm n
  rw[h1] at this
  rcases this with⟨k,l,he,hb,hA⟩|⟨he,E',t',hb⟩
  ·refine .inl ⟨k,l,he,⟨.inr ⟨n,b,l,hn,he⟩,rK x rfl hb⟩,fun hm=>by cases hm⟩
  ·refine .inr ⟨he,E',t',.inr ?_⟩
   rcases hb with hb|hb <;> cases hb;rfl
 ·rintro n b k l ⟨b',hn⟩ hl hm he
  obtain⟨E,t,xs,h1,h2⟩:=oC ok ⟨b',hn⟩
  rw[h2] at hl;cases hl;cases hm
 ·rintro n n' b c k l l' ⟨b',hn⟩ _ hl _ hm
  obtain⟨E,t,xs,h1,h2⟩:=oC ok ⟨b',hn⟩
  rw[h2] at hl;cases hl;cases hm
theorem aw.freeze(m:aw w0 N0 A env h w){fz:List (Nat×Nm)}(ok:dW h fz) :
  aw w0 N0 (bC A env fz) env (aM fz h) w/\aW A env w (bC A env fz) env w :=
 ⟨m.upd (uy m ok),m.ext (uy m ok)⟩
theorem kw{cs vs:List SV}{us ws:List Value}{off:Nat}(h1:ac A env w cs us)(h2:ac A env w vs ws) :
  ac A env w (ec cs off vs) (us.take off++(ws++us.drop (off+ws.length))):=by
 have hl:=cm h2
 rw[hl]
 exact hB (lZ _ h1) (hB h2 (lY _ h1))
theorem aR.setRow(w:World)(k:Nat)(vs us:Array Value)(E:TypeId)(hk:w.heap[k]? = some (.cells vs E (0,0)))(hs:us.size=vs.size):aR w (w.setRow k us) fun j=>j=k:=by
 refine⟨rfl,rfl,rfl,by simp,fun j _ hj=>setRow_other w k j us hj,?_⟩
 intro j s hj
 unfold World.shape? at hj ⊢
 by_cases hjk:j=k
 ·subst hjk
  rw[setRow_heap w j vs us E _ hk]
  rw[hk] at hj
  simp only at hj ⊢
  rw[hs];exact hj
 ·rw[setRow_other w k j us hjk];exact hj
theorem pm{ty:TypeId}{k off:Nat}{v:Value}{vs:Array Value}{E:TypeId}(hk:w.heap[k]? = some (.cells vs E (0,0)))(hsz:bL P ty=some v.cells.size)
  (hfit:off+v.cells.size<=vs.size) (h1:∀ u∈v.cells.toList,u.oneCell'=true) :
  (storeVar ty ⟨k,off,none⟩ v).run P w = .ok () (w.setRow k (vs.toList.take off++v.cells.toList++vs.toList.drop (off+v.cells.size)).toArray):=by
 have hst:=run_storeCells_at P k off E v.cells.toList 0 vs w hk (by simpa using hfit) h1
 simp only[Nat.add_zero,Array.length_toList] at hst
 simp[storeVar,cz hsz,hst]
theorem kR{n:Nat}:∀{fz:List (Nat×Nm)},jn n fz=true->n ∉ fz.map (·.1)
 | [],_=>by simp
 | (m,b)::fz,h=>by
  simp only[jn,Bool.and_eq_true,Bool.not_eq_true'] at h
  simp only[List.map_cons,List.mem_cons,not_or]
  exact⟨fun e=>by rw[e,Nat.beq_refl] at h;exact absurd h.1 (by simp),kR h.2⟩
theorem oP(m:aw w0 N0 A env h w)(f:FD A env w ρ a){ty:TypeId}{x y:Operand}(ho:o.op = .store ty x y)
  (e:(kC P ty (ag ρ x) (ag ρ y)).run h=some (d,r)):av P o a w0 N0 A env h w d:=by
 have dx:=aT f x
 have dy:=aT f y
 unfold kC at e
 split at e
 ·rename_i vs n hc hn
  obtain⟨dv,h1⟩:=mB hc dy
  have hlv:=cm dv
  split at e
  ·rename_i hb
   have hb:n=vs.length:=Nat.eq_of_beq_eq_true hb
   have hsz:bL P ty=some (a.eval y).cells.size:=by rw[hn,hb,← hlv,Array.length_toList]
   have go:∀{b off:Nat}{w':World},a.eval x = .pointer (some ⟨b,off,none⟩)->(storeVar ty ⟨b,off,none⟩ (a.eval y)).run P w = .ok () w'→(execOp a.eval o).run P w = .ok .skip w':=by
    intro b off w' ev hr
    unfold execOp;rw[ho]
    simp only[ev,Instr.storeAt,Instr.sureAddr,Sem.run_bind,Sem.run_pure,Result.andThen_ok,hr]
   split at e
   ·rename_i mm off hx
    rw[hx] at dx;simp only[aa] at dx
    obtain⟨b,l,he,ev⟩:=dx
    simp only[Q.run] at e
    split at e
    ·rename_i p q hk
     simp only[Option.some.injEq,Prod.mk.injEq] at e
     obtain⟨rfl,rfl⟩:=e
     split at hk
     ·rename_i E cs hl
      split at hk
      ·rename_i hle
       have hle:off+vs.length<=cs.length:=Nat.le_of_ble_eq_true hle
       cases aK hk
       obtain⟨⟨us,hh,hd⟩,_⟩:=m.live_blk hl he
       have hlu:=cm hd
       have hfit:off+(a.eval y).cells.size<=us.size:=by rw[← Array.length_toList,hlv,← Array.length_toList,hlu];exact hle
       have hrun:=pm hh hsz hfit h1
       refine⟨undef,_,.inr ⟨go ev hrun,rfl⟩,?_⟩
       have hdR:=kw (off:=off) hd dv
       have c:=aR.setRow w b us (us.toList.take off++(a.eval y).cells.toList++us.toList.drop (off+(a.eval y).cells.size)).toArray E hh
        (by simp only[List.size_toArray,List.length_append,List.length_take,List.length_drop,Array.length_toList];omega)
       have x:aW A env w A env (w.setRow b (us.toList.take off++(a.eval y).cells.toList++us.toList.drop (off+(a.eval y).cells.size)).toArray) :=
        ⟨fun _ h=>h,fun _ _ _ h=>h,fun _ h=>h,fun _ _ _ h=>h,fun b' o' hb'=>World.cell?_of_block (a:=⟨b',o',none⟩) (c.blk b' (m.Alt b' hb') (fun e'=>(m.live_blk hl he).2 rfl (e'▸hb'))),c.shape⟩
       have u:=cN.write (b' := .cells E (ec cs off vs)) m hl rfl he c ⟨_,setRow_heap w b us _ E _ hh,by
        have:=gg x _ _ hdR
        simpa[List.append_assoc] using this⟩ rfl
       exact⟨(),A,env,trivial,m.upd u,m.ext u,by simp only[Dl.val,aa]⟩
      ·cases hk
     ·cases hk
    ·cases e
   ·rename_i mm sz i off hx
    rw[hx] at dx;simp only[aa] at dx
    obtain⟨b,l,he,hil,ev⟩:=dx
    rw[← Nat.add_assoc] at ev
    simp only[Q.run] at e
    split at e
    ·rename_i p q hk
     simp only[Option.some.injEq,Prod.mk.injEq] at e
     obtain⟨rfl,rfl⟩:=e
     split at hk
     ·rename_i E t xs hl
      split at hk
      ·rename_i hs1 hle
       have hs1:sz=t.size:=Nat.eq_of_beq_eq_true hs1
       have hle:off+vs.length<=t.size:=Nat.le_of_ble_eq_true hle
       subst hs1
       obtain⟨⟨d',rest,fz⟩,r1,r2,e1,e2,rfl⟩:=Q.run_bind _ _ _ hk
       simp only at e2
       split at e2
       ·rename_i hni
        cases aK e2
        have hni:=kR hni
        obtain⟨us,cap,hh,hus,hxl,hlc,hcm,hrd⟩:=(m.live_blk hl he).1
        have hix:i<xs.length:=by omega
        obtain⟨es,hel,hec,hed⟩:=io (env:=env) t (cw t xs i) _ _ (kj (m.live_blk hl he).1 hil)
        have hdR:=kw (off:=off) hed dv
        have hle':(bu t (cw t xs i)).length=t.size:=pS _ _
        obtain⟨ok,_,hlen,hrd',_⟩:=f5 m t _ _ d' rest fz r1 e1 hdR (A':=bC A env fz) (fun b hb=>.inl hb) (fun k hk'=>.inr hk')
        obtain⟨m2,x2⟩:=m.freeze ok
        have hl2:aM fz h mm = .live (.row E t xs):=by rw[c7 hni];exact hl
        have hpos:l.1+i*t.size+t.size<=us.size:=by
         rw[hus]
         have:(i+1)*t.size<=cap*t.size:=Nat.mul_le_mul_right _ (by omega)
         rw[Nat.add_mul,Nat.one_mul] at this;omega
        have hsv:(a.eval y).cells.size=vs.length:=by rw[← Array.length_toList,hlv]
        have hfit:l.1+i*t.size+off+(a.eval y).cells.size<=us.size:=by omega
        have hrun:=pm hh hsz hfit h1
        refine⟨undef,_,.inr ⟨go ev hrun,rfl⟩,?_⟩
        have c:=aR.setRow w b us (us.toList.take (l.1+i*t.size+off)++(a.eval y).cells.toList++us.toList.drop (l.1+i*t.size+off+(a.eval y).cells.size)).toArray E hh
         (by simp only[List.size_toArray,List.length_append,List.length_take,List.length_drop,Array.length_toList];omega)
        have x3:aW (bC A env fz) env w (bC A env fz) env (w.setRow b (us.toList.take (l.1+i*t.size+off)++(a.eval y).cells.toList++us.toList.drop (l.1+i*t.size+off+(a.eval y).cells.size)).toArray) :=
         ⟨fun _ h=>h,fun _ _ _ h=>h,fun _ h=>h,fun _ _ _ h=>h,fun b' o' hb'=>World.cell?_of_block (a:=⟨b',o',none⟩) (c.blk b' (m2.Alt b' hb') (fun e'=>(m2.live_blk hl2 he).2 rfl (e'▸hb'))),c.shape⟩
        have hrow:ef (bC A env fz) (w.setRow b (us.toList.take (l.1+i*t.size+off)++(a.eval y).cells.toList++us.toList.drop (l.1+i*t.size+off+(a.eval y).cells.size)).toArray) b l E t (xs.set i d'):=by
         refine⟨_,cap,setRow_heap w b us _ E _ hh,?_,by simpa using hxl,hlc,hcm,?_⟩
         ·simp only[List.size_toArray,List.length_append,List.length_take,List.length_drop,Array.length_toList];omega
         ·intro j hj
          have hj':j<xs.length:=by simpa using hj
          rw[List.getElem_set]
          have cellAt:∀ p,(us.toList.take (l.1+i*t.size+off)++(a.eval y).cells.toList++us.toList.drop (l.1+i*t.size+off+(a.eval y).cells.size)).toArray[p]? =
            if p<l.1+i*t.size+off then us[p]? else if p<l.1+i*t.size+off+vs.length then (a.eval y).cells[p-(l.1+i*t.size+off)]? else us[p]? := by
           intro p
           rw[List.getElem?_toArray,List.append_assoc,List.getElem?_append]
           simp only[List.length_take,Array.length_toList]
           rw[show min (l.1+i*t.size+off) us.size=l.1+i*t.size+off from by omega]
           split
           ·rename_i hp;rw[List.getElem?_take,if_pos hp,Array.getElem?_toList]
           ·rename_i hp
            rw[List.getElem?_append]
            simp only[Array.length_toList,hsv]
            by_cases h2:p<l.1+i*t.size+off+vs.length
            ·rw[if_pos (by omega),if_pos h2,Array.getElem?_toList]
            ·rw[if_neg (by omega),if_neg h2,List.getElem?_drop,Array.getElem?_toList]
             congr 1;omega
          split
          ·rename_i hij
           subst hij
           have hsh:=jK hrd' (l.1+i*t.size)
           rw[Nat.zero_add] at hsh
           refine bR (fun _ h=>h) x3.keep t _ _ _ _ (fun q hq=>?_) hsh
           rw[cellAt]
           have hq2:l.1+i*t.size+q-(l.1+i*t.size)=q:=by omega
           simp only[hq2]
           have hel':es.length=t.size:=hel
           have hecq:=hec q hq
           rw[cell_of_row w b _ us E (0,0) hh] at hecq
           rw[List.getElem?_append]
           simp only[List.length_take,hel']
           rw[show min off t.size=off from by omega]
           by_cases c1:q<off
           ·rw[if_pos (by omega),if_pos c1,List.getElem?_take,if_pos c1,hecq]
           ·rw[if_neg (by omega),if_neg c1,List.getElem?_append]
            simp only[Array.length_toList,hsv]
            by_cases c2:q<off+vs.length
            ·rw[if_pos (by omega),if_pos (by omega),Array.getElem?_toList]
             congr 1;omega
            ·rw[if_neg (by omega),if_neg (by omega),List.getElem?_drop,hecq]
             congr 1;omega
          ·rename_i hij
           refine bR (fun b hb=>.inl hb) (fun b' o' hb'=>x3.keep b' o' (.inl hb')) t _ _ _ _ (fun q hq=>?_) (hrd j hj')
           rw[cellAt]
           have hjt:j*t.size+t.size<=i*t.size∨i*t.size+t.size<=j*t.size:=by
            rcases Nat.lt_or_gt_of_ne hij with hlt|hlt
            ·right
             have:(i+1)*t.size<=j*t.size:=Nat.mul_le_mul_right _ (by omega)
             rw[Nat.add_mul,Nat.one_mul] at this;exact this
            ·left
             have:(j+1)*t.size<=i*t.size:=Nat.mul_le_mul_right _ (by omega)
             rw[Nat.add_mul,Nat.one_mul] at this;exact this
           rcases hjt with hjt|hjt
           ·rw[if_pos (by omega)]
           ·rw[if_neg (by omega),if_neg (by omega)]
        have u:=cN.write (b' := .row E t (xs.set i d')) m2 hl2 rfl he c hrow rfl
        exact⟨(),_,env,trivial,m2.upd u,x2.trans (m2.ext u),by simp only[Dl.val,aa]⟩
       ·cases e2
      ·cases hk
     ·cases hk
    ·cases e
   ·cases e
  ·cases e
 ·cases e
end
end Go.SX

/- SX, part 8: struct and array values, new slices, append, slicing. -/
namespace Go.SX
set_option linter.unusedVariables false
def mq(P:Program)(t:TypeId)(i:Nat):Option (Nat×Nat):=match P.underlying t with
 | some (.struct fs)=>match fs[i]? with
  | some f=>match bL P f.type with
   | some n=>some (f.offset,n)
   | none=>none
  | none=>none
 | some (.array _ e)=>match bL P e with
  | some n=>some (i*n,n)
  | none=>none
 | _=>none
def pc(P:Program):List Field->Bool
 | []=>true
 | f::fs=>(bL P f.type).isSome&&pc P fs
def hJ(P:Program)(place:Nat->Option (Nat×Nat)):List SV->List (Nat×SV)->Option (List SV)
 | cs,[]=>some cs
 | cs,(i,v)::r=>match place i,jo v with
  | some (off,n),some vs=>match Nat.beq vs.length n,Nat.ble (off+n) cs.length with
   | true,true=>hJ P place (ec cs off vs) r
   | _,_=>none
  | _,_=>none
def xC(P:Program)(t:TypeId):Bool:=match P.underlying t with
 | some (.struct fs)=>pc P fs.toList
 | some (.array _ e)=>(bL P e).isSome
 | _=>false
def pL(P:Program)(t:TypeId)(ps:List (Nat×SV)):Q Dl:=match xC P t,zeroCells P t with
 | true,some z=>match hJ P (mq P t) z ps with
  | some cs=>aL (.agg cs)
  | none => .fail
 | _,_ => .fail
def wy(c:CT):Nat->Option CT
 | 0=>none
 | 1=>some c
 | n+1=>match wy c n with
  | some u=>some (.pair c u)
  | none=>none
def j3(P:Program):Nat->TypeId->Option CT
 | 0,_=>none
 | n+1,t=>match P.underlying t with
  | some (.int k)=>some (.int k)
  | some .bool=>some .bool
  | some .string=>some .str
  | some (.slice e)=>match j3 P n e with
   | some c=>some (.sl c)
   | none=>none
  | some (.array k e)=>match j3 P n e with
   | some c=>wy c k
   | none=>none
  | some (.struct fs)=>ctAll (j3 P n) fs.toList
  | _=>none
where
 ctAll (f:TypeId->Option CT):List Field->Option CT
  | []=>none
  | [x]=>f x.type
  | x::xs=>match f x.type,ctAll f xs with
   | some a,some b=>some (.pair a b)
   | _,_=>none
def lT(t:CT):Nat->List SV->Q (List t.D×List (Nat×Nm))
 | 0,_ => .ret ([],[])
 | n+1,cs=>(cC t cs).bind fun p=>(lT t n p.2.1).bind fun q=>.ret (p.1::q.1,p.2.2++q.2)
def cQ{α:Type}(l:List α):Nat->List α
 | 0=>[]
 | n+1=>l++cQ l n
def lQ(P:Program)(t:TypeId)(len nm:Nat)(ps:List (Nat×SV)):Q Dl:=match fK P t with
 | some (e,sz)=>match j3 P 8 e,zeroCells P e with
  | some u,some z=>match Nat.beq u.size sz,Nat.beq z.length sz,Nat.ble (len*sz) 16777216,hJ P (fun i=>some (i*sz,sz)) (cQ z len) ps with
   | true,true,true,some cs=>(lT u len cs).bind fun p=>.ask nm fun
    | .un=>match jn nm p.2 with
     | true => .ret (.det [] (.own nm sz) ((nm,.live (.row e u p.1))::p.2))
     | false => .fail
    | _ => .fail
   | _,_,_,_ => .fail
  | none,some z=>match Nat.beq z.length sz,Nat.beq sz 1,Nat.ble 1 len&&Nat.ble len 16777216,hJ P (fun i=>some (i*sz,sz)) (cQ z len) ps with
   | true,true,true,some cs => .ask nm fun
    | .un => .ret (.det [] (.csl nm len) [(nm,.live (.cells e cs))])
    | _ => .fail
   | _,_,_,_ => .fail
  | _,_ => .fail
 | none => .fail
def rf(P:Program)(t:TypeId)(nm:Nat)(l c:SV):Q Dl:=match fK P t,l,c with
 | some (e,sz),.int _ l,.int _ c=>match j3 P 8 e,zeroCells P e,P.info? e with
  | some u,some z,some i=>match Nat.beq u.size sz,Nat.beq z.length sz,Nat.ble 1 i.bytes,cC u z with
   | true,true,true,.ret (d,_,[]) => .ask nm fun
    | .un => .ret (.det [0<=l,l<=c,(i.bytes:Int)*c<=281474976710656] (.own nm sz) [(nm,.live (.row e u (List.replicate l.toNat d)))])
    | _ => .fail
   | _,_,_,_ => .fail
  | _,_,_ => .fail
 | _,_,_ => .fail
def g9(t:CT)(x:SV):Q (List t.D):=match x with
 | .dsl u ys=>match bQ u t ys with
  | some ys => .ret ys
  | none => .fail
 | .dsx u ys=>match bQ u t ys with
  | some ys => .ret ys
  | none => .fail
 | .nilsl => .ret []
 | .own n sz => .ask n fun
  | .live (.row _ u ys)=>match Nat.beq sz u.size,bQ u t ys with
   | true,some ys => .ret ys
   | _,_ => .fail
  | .live (.frz _ u ys)=>match Nat.beq sz u.size,bQ u t ys with
   | true,some ys => .ret ys
   | _,_ => .fail
  | _ => .fail
 | _ => .fail
def kL(P:Program)(t:TypeId)(nm:Nat)(s x:SV):Q Dl:=match fK P t with
 | some (e,sz)=>match P.info? e with
  | some i=>match Nat.ble 1 i.bytes,i.zero with
   | true,some z=>match Nat.beq z.cells.size sz with
    | true=>match s with
     | .own n sz' => .ask n fun
      | .live (.row E u xs)=>match Nat.beq E e,Nat.beq sz u.size,Nat.beq sz' u.size with
       | true,true,true=>(g9 u x).bind fun ys=>.ask nm fun
        | .un => .ret (.det [(xs.length+ys.length)*i.bytes<=140737488355328] (.own nm sz) [(nm,.live (.row e u (xs++ys))),(n,.dead)])
        | _ => .fail
       | _,_,_ => .fail
      | _ => .fail
     | .nilsl=>match j3 P 8 e with
      | some u=>match Nat.beq sz u.size with
       | true=>(g9 u x).bind fun ys=>.ask nm fun
        | .un => .ret (.det [ys.length*i.bytes<=140737488355328] (.own nm sz) [(nm,.live (.row e u ys))])
        | _ => .fail
       | false => .fail
      | none => .fail
     | .dsx u xs=>match Nat.beq sz u.size with
      | true=>(g9 u x).bind fun ys=>.ask nm fun
       | .un => .ret (.det [(xs.length+ys.length)*i.bytes<=140737488355328,xs=[]] (.own nm sz) [(nm,.live (.row e u ys))])
       | _ => .fail
      | false => .fail
     | _ => .fail
    | false => .fail
   | _,_ => .fail
  | none => .fail
 | none => .fail
def bf{α:Type}(xs:List α)(l h:Nat):List α:=(xs.take h).drop l
def dZ(x:Option SV)(dflt:Int):Option Int:=match x with
 | none=>some dflt
 | some (.int _ n)=>some n
 | _=>none
def rS(P:Program)(t:TypeId)(x:SV)(lo hi mx:Option SV):Q Dl:=match fK P t with
 | some (_,sz)=>match x with
  | .dsl u xs=>match Nat.beq sz u.size,dZ lo 0,dZ hi xs.length with
   | true,some l,some h=>match mx with
    | none => .ret (.det [0<=l,l<=h,h<=xs.length] (.dsl u (bf xs l.toNat h.toNat)) [])
    | some (.int _ mm)=>match hi with
     | some _ => .ret (.det [0<=l,l<=h,h=mm,h<=xs.length] (.dsx u (bf xs l.toNat h.toNat)) [])
     | none => .fail
    | _ => .fail
   | _,_,_ => .fail
  | .own n sz'=>match mx with
   | none => .ask n fun
    | .live (.row E u xs)=>match Nat.beq sz u.size,Nat.beq sz' u.size,dZ lo 0,dZ hi xs.length with
     | true,true,some l,some h => .ret (.det [0<=l,l<=h,h<=xs.length] (.dsl u (bf xs l.toNat h.toNat)) [(n,.live (.frz E u xs))])
     | _,_,_,_ => .fail
    | .live (.frz E u xs)=>match Nat.beq sz u.size,Nat.beq sz' u.size,dZ lo 0,dZ hi xs.length with
     | true,true,some l,some h => .ret (.det [0<=l,l<=h,h<=xs.length] (.dsl u (bf xs l.toNat h.toNat)) [])
     | _,_,_,_ => .fail
    | _ => .fail
   | _ => .fail
  | .nilsl=>match dZ lo 0,dZ hi 0,mx with
   | some l,some h,none => .ret (.det [l=0,h=0] .nilsl [])
   | _,_,_ => .fail
  | _ => .fail
 | none => .fail
def f6(l:List Int)(i:Nat):Int:=l.getD i 0
def gK(k:IntKind)(sz:Nat):List SV->Nat->Option (List Int)
 | [],_=>some []
 | .int k' n::cs,0=>match c6 k k',gK k sz cs (sz-1) with
  | true,some l=>some (n::l)
  | _,_=>none
 | _::_,0=>none
 | _::cs,s+1=>gK k sz cs s
def qU(P:Program)(t:TypeId)(x i:SV):Q Dl:=match x,i,P.underlying t with
 | .agg cs,.int _ i,some (.array len e)=>match P.underlying e,bL P e with
  | some (.int k),some 1=>match gK k 1 cs 0,Nat.beq cs.length len with
   | some l,true => .ret (.det [0<=i,i<len] (.int k (f6 l i.toNat)) [])
   | _,_ => .fail
  | some (.array 2 e2),some 2=>match P.underlying e2,bL P e2 with
   | some (.int k),some 1=>match gK k 2 cs 0,gK k 2 cs 1,Nat.beq cs.length (len*2) with
    | some l1,some l2,true => .ret (.det [0<=i,i<len] (.agg [.int k (f6 l1 i.toNat),.int k (f6 l2 i.toNat)]) [])
    | _,_,_ => .fail
   | _,_ => .fail
  | _,_ => .fail
 | _,_,_ => .fail
section
variable {P:Program} {w0:World} {N0:bv} {A:Nat->Prop} {env:ai} {h:aI} {w:World} {o:Oper} {a:Act} {ρ:Nat->SV} {d:Dl} {r:List Nat}
theorem wj{α β:Type}(f:α->Sem β)(g:α->β):∀(l:List α),(∀ x∈l,(f x).run P w = .ok (g x) w)->(l.mapM f).run P w = .ok (l.map g) w
 | [],_=>by simp
 | x::l,hx=>by
  have ih:=wj f g l (fun y hy=>hx y (List.mem_cons_of_mem _ hy))
  rw[List.mapM_cons]
  simp only[Sem.run_bind,hx x (by simp),Result.andThen_ok,ih,Sem.run_pure,List.map_cons]
theorem Ck{α β:Type}(f:α->Sem β)(g:α->β)(l:Array α)(hx:∀ x∈l.toList,(f x).run P w = .ok (g x) w):(l.mapM f).run P w = .ok (l.map g) w:=by
 rw[Array.mapM_eq_mapM_toList]
 have:=wj (P:=P) (w:=w) f g l.toList hx
 simp only[Sem.run_map,this,Result.andThen_ok]
 congr 1
 exact Array.ext' (by simp)
theorem EA(vs:List Value)(off:Nat)(cs:List Value)(hfit:off+vs.length<=cs.length) :
  (vs.toArray.zipIdx.foldl (fun cs (x:Value×Nat)=>cs.setIfInBounds (off+x.2) x.1) cs.toArray).toList=cs.take off++(vs++cs.drop (off+vs.length)):=by
 have key:∀(vs:List Value)(k:Nat)(pre mid suf:List Value),pre.length=off+k->mid.length=vs.length →
   ((vs.zipIdx k).foldl (fun (cs:Array Value) (x:Value×Nat)=>cs.setIfInBounds (off+x.2) x.1) (pre++(mid++suf)).toArray).toList=pre++(vs++suf):=by
  intro vs
  induction vs with
  | nil=>intro k pre mid suf _ hm;simp only[List.length_nil,List.length_eq_zero_iff] at hm;subst hm;simp
  | cons v vs ih =>
   intro k pre mid suf hp hm
   cases mid with
   | nil=>simp at hm
   | cons u mid =>
    simp only[List.zipIdx_cons,List.foldl_cons]
    have:(pre++(u::mid++suf)).toArray.setIfInBounds (off+k) v=((pre++[v])++(mid++suf)).toArray:=by
     apply Array.ext'
     simp only[Array.toList_setIfInBounds]
     rw[List.set_append_right _ _ (by omega),hp]
     simp
    rw[this,ih (k+1) (pre++[v]) mid suf (by simp[hp];omega) (by simpa using hm)]
    simp
 have:=key vs 0 (cs.take off) ((cs.drop off).take vs.length) (cs.drop (off+vs.length)) (by simp;omega) (by simp;omega)
 have e:cs.take off++((cs.drop off).take vs.length++cs.drop (off+vs.length))=cs:=by
  rw[← List.drop_drop,List.take_append_drop,List.take_append_drop]
 rw[e] at this
 rw[← this,← Array.foldl_toList,Array.toList_zipIdx]
theorem mA{place place':Nat->Option (Nat×Nat)}(hpl:∀ i p,place i=some p->place' i=some p):∀(ps:List (Nat×SV))(qs:List (Nat×Value))(cs rs:List SV)(us:Array Value),
  hJ P place cs ps=some rs->ac A env w cs us.toList->qs.map (·.1)=ps.map (·.1)->ac A env w (ps.map (·.2)) (qs.map (·.2)) →
  ∃ vs,Instr.fill place' us qs=some vs/\ac A env w rs vs.toList
 | [],qs,cs,rs,us,e,hd,hi,hq=>by
  have:qs=[]:=by simpa using hi
  subst this
  simp only[hJ] at e
  cases e
  exact⟨us,rfl,hd⟩
 | (i,v)::ps,qs,cs,rs,us,e,hd,hi,hq=>by
  match qs,hi with
  | (i',u)::qs,hi2 =>
   clear hi
   simp only[List.map_cons,List.cons.injEq] at hi2
   obtain⟨rfl,hi⟩:=hi2
   simp only[List.map_cons,ac] at hq
   obtain⟨u',r',hq1,hq2,hq3⟩:=hq
   simp only[List.cons.injEq] at hq1
   obtain⟨rfl,rfl⟩:=hq1
   simp only[hJ] at e
   split at e
   ·rename_i off n vs hp hc
    split at e
    ·rename_i hb1 hb2
     have hb1:vs.length=n:=Nat.eq_of_beq_eq_true hb1
     have hb2:off+n<=cs.length:=Nat.le_of_ble_eq_true hb2
     obtain⟨dv,_⟩:=mB hc hq2
     have hlv:=cm dv
     have hlu:=cm hd
     have hlv':u.cells.size=n:=by rw[← Array.length_toList,hlv,hb1]
     have hlu':us.size=cs.length:=by rw[← Array.length_toList,hlu]
     have hR:=kw (off:=off) hd dv
     have hfold:=EA u.cells.toList off us.toList (by simp;omega)
     obtain⟨ws,hw1,hw2⟩:=mA hpl ps qs (ec cs off vs) rs (u.cells.zipIdx.foldl (fun cs (x:Value×Nat)=>cs.setIfInBounds (off+x.2) x.1) us) e
      (by simp only[Array.toArray_toList] at hfold;rw[hfold];exact hR) hi hq3
     refine⟨ws,?_,hw2⟩
     simp only[Instr.fill,hpl i' _ hp]
     have c1:¬ (u.cells.size≠n∨us.size<off+u.cells.size):=by omega
     simp only[hlv',ne_eq,not_true_eq_false,decide_false,Bool.false_or,gt_iff_lt]
     rw[if_neg (by simp;omega)]
     exact hw1
    ·cases e
   ·cases e
theorem AO(m:aw w0 N0 A env h w)(f:FD A env w ρ a){t:TypeId}{parts:Array (Nat×Operand)}(ho:o.op = .build t parts)
  (e:(pL P t (parts.toList.map fun p=>(p.1,ag ρ p.2))).run h=some (d,r)):av P o a w0 N0 A env h w d:=by
 unfold pL at e
 split at e
 ·rename_i z hb hz
  split at e
  ·rename_i cs hf
   unfold aL at e
   cases aK e
   obtain⟨i,zv,hi,hzv,dz,_⟩:=lr (A:=A) (env:=env) (w:=w) hz
   have dps:ac A env w ((parts.toList.map fun p=>(p.1,ag ρ p.2)).map (·.2)) ((parts.toList.map fun p=>(p.1,a.eval p.2)).map (·.2)):=by
    generalize parts.toList=l
    induction l with
    | nil=>simp[ac]
    | cons p l ih=>simp only[List.map_cons,ac];exact⟨_,_,rfl,aT f p.2,ih⟩
   have exe:∀{vs:Array Value},(Instr.build t (parts.map fun (x:Nat×Operand)=>(x.1,a.eval x.2))).run P w = .ok (.agg vs) w->(execOp a.eval o).run P w = .ok (.value (.agg vs)) w:=by
    intro vs hv
    unfold execOp;rw[ho]
    simp only[Sem.run_bind,hv,Result.andThen_ok,Sem.run_pure]
   have hzr:(zeroValue t).run P w = .ok zv w:=by simp[zeroValue,typeInfo,hi,hzv]
   unfold xC at hb
   split at hb
   ·rename_i fs hu
    have hall:∀ x∈fs.toList,(bL P x.type).isSome=true:=by
     generalize fs.toList=l at hb
     induction l with
     | nil=>simp
     | cons x l ih =>
      simp only[pc,Bool.and_eq_true] at hb
      intro y hy
      rcases List.mem_cons.1 hy with rfl|hy
      ·exact hb.1
      ·exact ih hb.2 y hy
    have hmap:=Ck (P:=P) (w:=w) (fun (f:Field)=>(do pure (f.offset,← sizeOf f.type):Sem (Nat×Nat))) (fun f=>(f.offset,(bL P f.type).getD 0)) fs (fun x hx=>by
     obtain⟨n,hn⟩:=Option.isSome_iff_exists.1 (hall x hx)
     simp[cz hn,hn])
    obtain⟨vs,hv,dv⟩:=mA (A:=A) (env:=env) (w:=w) (place:=mq P t) (place':=fun i=>(fs.map fun f=>(f.offset,(bL P f.type).getD 0))[i]?) (fun i p hp=>by
     unfold mq at hp
     rw[hu] at hp
     simp only at hp
     split at hp
     ·rename_i f hf
      split at hp
      ·rename_i n hn;cases hp;simp[hf,hn]
      ·cases hp
     ·cases hp) (parts.toList.map fun p=>(p.1,ag ρ p.2)) (parts.toList.map fun p=>(p.1,a.eval p.2)) z cs zv.cells hf dz (by simp[Function.comp_def]) dps
    refine av.pure m (v := .agg vs) (exe ?_) (by simp only[aa];exact⟨vs,rfl,dv⟩)
    unfold Instr.build
    simp only[Sem.run_bind,hzr,Result.andThen_ok,run_underlying hu,hmap,Array.toList_map,hv,Sem.run_pure]
   ·rename_i len e' hu
    obtain⟨n,hn⟩:=Option.isSome_iff_exists.1 hb
    obtain⟨vs,hv,dv⟩:=mA (A:=A) (env:=env) (w:=w) (place:=mq P t) (place':=fun i=>some (i*n,n)) (fun i p hp=>by
     unfold mq at hp
     rw[hu] at hp
     simp only[hn] at hp
     exact hp) (parts.toList.map fun p=>(p.1,ag ρ p.2)) (parts.toList.map fun p=>(p.1,a.eval p.2)) z cs zv.cells hf dz (by simp[Function.comp_def]) dps
    refine av.pure m (v := .agg vs) (exe ?_) (by simp only[aa];exact⟨vs,rfl,dv⟩)
    unfold Instr.build
    simp only[Sem.run_bind,hzr,Result.andThen_ok,run_underlying hu,cz hn,Array.toList_map,hv,Sem.run_pure]
   ·cases hb
  ·cases e
 ·cases e
end
end Go.SX

/- SX, part 9: new slices, append, slicing: soundness. -/
namespace Go.SX
set_option linter.unusedVariables false
section
variable {P:Program} {w0:World} {N0:bv} {A:Nat->Prop} {env:ai} {h:aI} {w:World} {o:Oper} {a:Act} {ρ:Nat->SV} {d:Dl} {r:List Nat}
theorem rH(u v:List (Nat×Nm))(h:aI):aM (u++v) h=aM u (aM v h):=by
 induction u with
 | nil=>rfl
 | cons p u ih=>simp[aM,ih]
theorem bp.of_frz(m:aw w0 N0 A env h w){fz:List (Nat×Nm)}(ok:dW h fz){pre:List Prop}{s:SV}{upd:List (Nat×Nm)}{v:Value}{w':World}
  (g:bp w0 N0 (bC A env fz) env (aM fz h) w (.det pre s upd) v w'):bp w0 N0 A env h w (.det pre s (upd++fz)) v w':=by
 obtain⟨x,A',env',_,m',e',d'⟩:=g
 exact⟨(),A',env',trivial,by simpa only[Dl.hp,Dl.upd,rH] using m',(m.freeze ok).2.trans e',d'⟩
theorem uK(m:aw w0 N0 A env h w){A':Nat->Prop}(hA:∀ b,A b->A' b)(t:CT):∀(n:Nat)(cs:List SV)(vs:List Value)(xs:List t.D)(fz:List (Nat×Nm))(r:List Nat),
  (lT t n cs).run h=some ((xs,fz),r)->ac A env w cs vs->(∀ k,bM env fz k->A' k) →
  dW h fz/\xs.length=n/\n*t.size<=vs.length∧∀ i (hi:i<xs.length),Rd A' w t (fun j=>vs[j]?) (i*t.size) xs[i]
 | 0,cs,vs,xs,fz,r,e,hd,hF=>by
  simp only[lT,Q.run,Option.some.injEq,Prod.mk.injEq] at e
  obtain⟨⟨rfl,rfl⟩,rfl⟩:=e
  exact⟨fun n b hb=>by simp at hb,rfl,by simp,fun i hi=>by simp at hi⟩
 | n+1,cs,vs,xs,fz,r,e,hd,hF=>by
  simp only[lT] at e
  obtain⟨⟨d1,r1,f1⟩,q1,q2,e1,e2,rfl⟩:=Q.run_bind _ _ _ e
  obtain⟨⟨ds,f2⟩,q3,q4,e3,e4,rfl⟩:=Q.run_bind _ _ _ e2
  simp only[Q.run,Option.some.injEq,Prod.mk.injEq] at e4
  obtain⟨⟨rfl,rfl⟩,rfl⟩:=e4
  have hF1:∀ k,bM env f1 k->A' k:=fun k ⟨n,x,l,hx,he⟩=>hF k ⟨n,x,l,List.mem_append_left _ hx,he⟩
  have hF2:∀ k,bM env f2 k->A' k:=fun k ⟨n,x,l,hx,he⟩=>hF k ⟨n,x,l,List.mem_append_right _ hx,he⟩
  obtain⟨o1,n1,l1,rd1,dr1⟩:=f5 m t cs vs d1 r1 f1 q1 e1 hd hA hF1
  obtain⟨o2,n2,l2,rd2⟩:=uK m hA t n r1 _ ds f2 q3 e3 dr1 hF2
  simp only[List.length_drop] at l2
  have hr1:=cm dr1
  simp only[List.length_drop] at hr1
  refine⟨?_,by simp[n2],by rw[Nat.add_mul,Nat.one_mul];omega,?_⟩
  ·intro n x hx
   rcases List.mem_append.1 hx with hx|hx
   ·exact o1 n x hx
   ·exact o2 n x hx
  ·intro i hi
   cases i with
   | zero=>simpa using rd1
   | succ i =>
    have:=rd2 i (by simpa using hi)
    have sh:=sO this t.size
    rw[show i*t.size+t.size=(i+1)*t.size from by rw[Nat.add_mul,Nat.one_mul]] at sh
    simp only[List.getElem_cons_succ]
    refine bR (fun _ h=>h) (fun _ _ _=>rfl) t _ _ _ _ (fun j _=>?_) sh
    rw[List.getElem?_drop]
    congr 1
    have:(i+1)*t.size=i*t.size+t.size:=by rw[Nat.add_mul,Nat.one_mul]
    omega
theorem ou{α:Type}(l:List α)(n:Nat):(cQ l n).length=n*l.length:=by
 induction n with
 | zero=>simp[cQ]
 | succ n ih=>simp[cQ,ih,Nat.add_mul];omega
theorem lv{α:Type}(l:List α):∀(n i:Nat),i<n*l.length->(cQ l n)[i]? = l[i%l.length]?
 | 0,i,h=>by simp at h
 | n+1,i,h=>by
  simp only[cQ]
  by_cases hi:i<l.length
  ·rw[List.getElem?_append_left hi,Nat.mod_eq_of_lt hi]
  ·rw[List.getElem?_append_right (by omega),lv l n (i-l.length) (by rw[Nat.add_mul,Nat.one_mul] at h;omega)]
   congr 1
   rw[← Nat.mod_eq_sub_mod (by omega)]
theorem p9(z:Array Value)(n:Nat)(hz:0<z.size):(madeCells z (n*z.size)).toList=cQ z.toList n:=by
 apply List.ext_getElem?
 intro i
 by_cases hi:i<n*z.size
 ·rw[lv _ _ _ (by simpa using hi)]
  simp only[madeCells,Array.toList_map,Array.toList_range,List.getElem?_map,Array.length_toList,Array.getElem?_toList]
  rw[List.getElem?_range hi]
  have:i%z.size<z.size:=Nat.mod_lt _ hz
  simp[getElem!_pos,this]
 ·rw[List.getElem?_eq_none (by simp[madeCells];omega),List.getElem?_eq_none (by rw[ou];simpa using hi)]
theorem rp{z:List SV}{vs:List Value}(hd:ac A env w z vs):∀ n,ac A env w (cQ z n) (cQ vs n)
 | 0=>by simp[cQ,ac]
 | n+1=>hB hd (rp hd n)
theorem xk{place:Nat->Option (Nat×Nat)}:∀(ps:List (Nat×SV))(cs rs:List SV),hJ P place cs ps=some rs->rs.length=cs.length
 | [],cs,rs,e=>by simp only[hJ] at e;cases e;rfl
 | (i,v)::ps,cs,rs,e=>by
  simp only[hJ] at e
  split at e
  ·rename_i off n vs _ _
   split at e
   ·rename_i hb1 hb2
    have hb1:vs.length=n:=Nat.eq_of_beq_eq_true hb1
    have hb2:off+n<=cs.length:=Nat.le_of_ble_eq_true hb2
    rw[xk ps _ rs e]
    simp[ec];omega
   ·cases e
  ·cases e
theorem w7(m:aw w0 N0 A env h w){nm:Nat}(hn:h nm = .un){E:TypeId}{t:CT}{xs:List t.D}{w1 w':World}{vs:Array Value}{cap:Nat}{pre:List Prop}
  (c1:aR w w1 fun _=>False) (hw':w'=w1.alloc (.cells vs E)) (hs:vs.size=cap*t.size) (hl:xs.length<=cap) (hc:cap<=maxLen)
  (hr:∀ i (hi:i<xs.length),Rd A w t (fun o=>vs[o]?) (i*t.size) xs[i]) :
  bp w0 N0 A env h w (.det pre (.own nm t.size) [(nm,.live (.row E t xs))]) (.slice (some ⟨w1.heap.size,0,none⟩) xs.length cap) w':=by
 subst hw'
 have c:aR w (w1.alloc (.cells vs E)) fun _=>False:=c1.trans (aR.alloc w1 _ _)
 obtain⟨x,A',env',h1,h2,h3,h4⟩:=bp.fresh (s := .own nm t.size) (v := .slice (some ⟨w1.heap.size,0,none⟩) xs.length cap) m hn (b := .row E t xs) (len:=(0,xs.length)) rfl w1.heap.size c1.size c
  (fun x=>⟨vs,cap,heap_alloc_new w1 _,by simpa using hs,rfl,hl,hc,fun i hi=>bR x.imm x.keep t _ _ _ _ (fun _ _=>rfl) (by simpa using hr i hi)⟩) (by
   simp only[aa]
   refine .inr ⟨w1.heap.size,(0,xs.length),E,vs.size,ai.set_same _ _ _,?_,?_⟩
   ·unfold World.shape?;rw[heap_alloc_new]
   ·show _=Value.slice _ _ ((vs.size-0)/t.size)
    rw[Nat.sub_zero,hs,Nat.mul_div_cancel _ t.size_pos])
 exact⟨(),A',env',trivial,h2,h3,h4⟩
theorem xd(m:aw w0 N0 A env h w)(f:FD A env w ρ a){t:TypeId}{len nm:Nat}{parts:Array (Nat×Operand)}(ho:o.op = .buildSlice t len parts)
  (e:(lQ P t len nm (parts.toList.map fun p=>(p.1,ag ρ p.2))).run h=some (d,r)) :
  ∃ v w',(execOp a.eval o).run P w = .ok (.value v) w'∧bp w0 N0 A env h w d v w'∧v = .slice (some ⟨w.heap.size,0,none⟩) len len:=by
 unfold lQ at e
 split at e
 ·rename_i E sz he
  obtain⟨hu,hsz⟩:=gr he
  split at e
  ·rename_i u z hct hz
   split at e
   ·rename_i cs hb1 hb2 hb3 hf
    have hb1:u.size=sz:=Nat.eq_of_beq_eq_true hb1
    have hb2:z.length=sz:=Nat.eq_of_beq_eq_true hb2
    have hb3:len*sz<=16777216:=Nat.le_of_ble_eq_true hb3
    obtain⟨⟨xs,fz⟩,q1,q2,e1,e2,rfl⟩:=Q.run_bind _ _ _ e
    simp only[Q.run] at e2
    split at e2
    ·rename_i p q hk
     simp only[Option.some.injEq,Prod.mk.injEq] at e2
     obtain⟨rfl,rfl⟩:=e2
     split at hk
     ·rename_i hun
      split at hk
      ·rename_i hni
       have hni:=kR hni
       cases aK hk
       subst hb1
       obtain⟨i,zv,hi,hzv,dz,_⟩:=lr (A:=A) (env:=env) (w:=w) hz
       have hzl:zv.cells.size=u.size:=by rw[← Array.length_toList,cm dz,hb2]
       have dps:ac A env w ((parts.toList.map fun p=>(p.1,ag ρ p.2)).map (·.2)) ((parts.toList.map fun p=>(p.1,a.eval p.2)).map (·.2)):=by
        generalize parts.toList=l
        induction l with
        | nil=>simp[ac]
        | cons p l ih=>simp only[List.map_cons,ac];exact⟨_,_,rfl,aT f p.2,ih⟩
       have hmade:(madeCells zv.cells (len*u.size)).toList=cQ zv.cells.toList len:=by rw[← hzl];exact p9 _ _ (by rw[hzl];exact u.size_pos)
       obtain⟨vs,hv,dv⟩:=mA (A:=A) (env:=env) (w:=w) (place:=fun i=>some (i*u.size,u.size)) (place':=fun i=>some (i*u.size,u.size)) (fun i p hp=>hp)
        (parts.toList.map fun p=>(p.1,ag ρ p.2)) (parts.toList.map fun p=>(p.1,a.eval p.2)) (cQ z len) cs (madeCells zv.cells (len*u.size)) hf (by rw[hmade];exact rp dz len) (by simp[Function.comp_def]) dps
       obtain⟨ok,hxl,hle,hrd⟩:=uK m (A':=bC A env fz) (fun b hb=>.inl hb) u len cs vs.toList xs fz q1 e1 dv (fun k hk=>.inr hk)
       obtain⟨m2,x2⟩:=m.freeze ok
       have hcl:vs.size=len*u.size:=by
        rw[← Array.length_toList,cm dv,xk _ _ _ hf,ou,hb2]
       have hrun:(execOp a.eval o).run P w = .ok (.value (.slice (some ⟨w.heap.size,0,none⟩) len len)) (w.alloc (.cells vs E)):=by
        unfold execOp;rw[ho]
        have h24:¬ (len*u.size>2^24):=by omega
        have hz':(zeroValue E).run P w = .ok zv w:=by simp[zeroValue,typeInfo,hi,hzv]
        by_cases h0:len*u.size=0
        ·have hm0:madeCells zv.cells (len*u.size) = #[]:=by simp[h0,madeCells]
         rw[hm0] at hv
         have hr0:Array.range (len*u.size) = #[]:=by rw[h0];rfl
         simp only[Instr.buildSlice,Sem.run_bind,run_underlying hu,Result.andThen_ok,cz hsz,if_neg h24,if_pos h0,Sem.run_pure,hr0,List.map_toArray,List.map_nil,Array.toList_map,hv,newRow,run_newObj]
         rfl
        ·have hm0:((Array.range (len*u.size)).map (zv.cells[· % zv.cells.size]!))=madeCells zv.cells (len*u.size):=rfl
         simp only[Instr.buildSlice,Sem.run_bind,run_underlying hu,Result.andThen_ok,cz hsz,if_neg h24,if_neg h0,hz',Sem.run_pure,hm0,Array.toList_map,hv,newRow,run_newObj]
         rfl
       have hxl':xs.length=len:=hxl
       have hlm:len<=maxLen:=by
        have:len*1<=len*u.size:=Nat.mul_le_mul_left _ u.size_pos
        simp only[maxLen];omega
       have g:=w7 m2 (nm:=nm) (by rw[c7 hni];exact hun) (E:=E) (t:=u) (xs:=xs) (vs:=vs) (cap:=len) (pre:=[]) (aR.refl w _) rfl hcl (by omega) hlm (fun i hi=>by simpa using hrd i hi)
       rw[hxl'] at g
       exact⟨_,_,hrun,bp.of_frz m ok g,rfl⟩
      ·cases hk
     ·cases hk
    ·cases e2
   ·cases e
  ·rename_i z hct hz
   split at e
   ·rename_i cs hb1 hb2 hb3 hf
    have hb1:z.length=sz:=Nat.eq_of_beq_eq_true hb1
    have hb2:sz=1:=Nat.eq_of_beq_eq_true hb2
    simp only[Bool.and_eq_true] at hb3
    have hb4:1<=len:=Nat.le_of_ble_eq_true hb3.1
    have hb5:len<=16777216:=Nat.le_of_ble_eq_true hb3.2
    subst hb2
    simp only[Q.run] at e
    split at e
    ·rename_i p q hk
     simp only[Option.some.injEq,Prod.mk.injEq] at e
     obtain⟨rfl,rfl⟩:=e
     split at hk
     ·rename_i hun
      cases aK hk
      obtain⟨i,zv,hi,hzv,dz,_⟩:=lr (A:=A) (env:=env) (w:=w) hz
      have hzl:zv.cells.size=1:=by rw[← Array.length_toList,cm dz,hb1]
      have dps:ac A env w ((parts.toList.map fun p=>(p.1,ag ρ p.2)).map (·.2)) ((parts.toList.map fun p=>(p.1,a.eval p.2)).map (·.2)):=by
       generalize parts.toList=l
       induction l with
       | nil=>simp[ac]
       | cons p l ih=>simp only[List.map_cons,ac];exact⟨_,_,rfl,aT f p.2,ih⟩
      have hmade:(madeCells zv.cells (len*1)).toList=cQ zv.cells.toList len:=by
       have:=p9 zv.cells len (by omega)
       rw[hzl] at this;exact this
      obtain⟨vs,hv,dv⟩:=mA (A:=A) (env:=env) (w:=w) (place:=fun i=>some (i*1,1)) (place':=fun i=>some (i*1,1)) (fun i p hp=>hp)
       (parts.toList.map fun p=>(p.1,ag ρ p.2)) (parts.toList.map fun p=>(p.1,a.eval p.2)) (cQ z len) cs (madeCells zv.cells (len*1)) hf (by rw[hmade];exact rp dz len) (by simp[Function.comp_def]) dps
      have h24:¬ (len*1>2^24):=by omega
      have h0:¬ (len*1=0):=by omega
      have hz':(zeroValue E).run P w = .ok zv w:=by simp[zeroValue,typeInfo,hi,hzv]
      have hm0:((Array.range (len*1)).map (zv.cells[· % zv.cells.size]!))=madeCells zv.cells (len*1):=rfl
      have hrun:(execOp a.eval o).run P w = .ok (.value (.slice (some ⟨w.heap.size,0,none⟩) len len)) (w.alloc (.cells vs E)):=by
       unfold execOp;rw[ho]
       simp only[Instr.buildSlice,Sem.run_bind,run_underlying hu,Result.andThen_ok,cz hsz,if_neg h24,if_neg h0,hz',Sem.run_pure,hm0,Array.toList_map,hv,newRow,run_newObj]
       rfl
      refine⟨_,_,hrun,bp.fresh m hun (len:=(0,0)) rfl w.heap.size (Nat.le_refl _) (aR.alloc w _ _) (fun x=>⟨vs,heap_alloc_new w _,gg x _ _ dv⟩) ?_,rfl⟩
      simp only[aa]
      exact⟨_,(0,0),⟨ai.set_same _ _ _,rfl⟩,rfl⟩
     ·cases hk
    ·cases e
   ·cases e
  ·cases e
 ·cases e
theorem D8(m:aw w0 N0 A env h w)(f:FD A env w ρ a){t:TypeId}{len nm:Nat}{parts:Array (Nat×Operand)}(ho:o.op = .buildSlice t len parts)
  (e:(lQ P t len nm (parts.toList.map fun p=>(p.1,ag ρ p.2))).run h=some (d,r)):av P o a w0 N0 A env h w d:=by
 obtain⟨v,w',h1,h2,-⟩:=xd m f ho e
 exact⟨v,w',.inl h1,h2⟩
theorem zX(m:aw w0 N0 A env h w)(f:FD A env w ρ a){t:TypeId}{nm:Nat}{x y:Operand}(ho:o.op = .makeSlice t x y)
  (e:(rf P t nm (ag ρ x) (ag ρ y)).run h=some (d,r)) (hp:aB d.pre):av P o a w0 N0 A env h w d:=by
 have dx:=aT f x
 have dy:=aT f y
 unfold rf at e
 split at e
 ·rename_i E sz kl l kc c he hx hy
  obtain⟨hu,hsz⟩:=gr he
  rw[hx] at dx;rw[hy] at dy
  simp only[aa] at dx dy
  split at e
  ·rename_i u z i hct hz hi
   split at e
   ·rename_i dd rest hb1 hb2 hb3 hpz
    have hb1:u.size=sz:=Nat.eq_of_beq_eq_true hb1
    have hb2:z.length=sz:=Nat.eq_of_beq_eq_true hb2
    have hb3:1<=i.bytes:=Nat.le_of_ble_eq_true hb3
    subst hb1
    simp only[Q.run] at e
    split at e
    ·rename_i p q hk
     simp only[Option.some.injEq,Prod.mk.injEq] at e
     obtain⟨rfl,rfl⟩:=e
     split at hk
     ·rename_i hun
      cases aK hk
      simp only[Dl.pre,aB,and_true] at hp
      obtain⟨h0,hlc,hby⟩:=hp
      obtain⟨i',zv,hi',hzv,dz,_⟩:=lr (A:=A) (env:=env) (w:=w) hz
      rw[hi] at hi';cases hi'
      have hzl:zv.cells.size=u.size:=by rw[← Array.length_toList,cm dz,hb2]
      have hisz:i.size=u.size:=by
       unfold bL at hsz;rw[hi] at hsz;simpa using hsz
      have hc63:c<=9223372036854775807:=by
       have:(1:Int)*c<=(i.bytes:Int)*c:=Int.mul_le_mul_of_nonneg_right (by omega) (by omega)
       omega
      have hrun:=run_make (P:=P) w t E i zv hu hi hzv kl kc l c h0 hlc hby hc63
      rw[hisz] at hrun
      have hproj:=f5 m u z zv.cells.toList dd rest [] [] (by rw[hpz];rfl) dz (A':=A) (fun _ hb=>hb) (fun k ⟨n,b,l,hh,_⟩=>by simp at hh)
      have hmade:(madeCells zv.cells (c.toNat*u.size)).toList=cQ zv.cells.toList c.toNat:=by rw[← hzl];exact p9 _ _ (by rw[hzl];exact u.size_pos)
      have g:=w7 m (nm:=nm) hun (E:=E) (t:=u) (xs:=List.replicate l.toNat dd) (vs:=madeCells zv.cells (c.toNat*u.size)) (cap:=c.toNat) (pre:=[0<=l,l<=c,(i.bytes:Int)*c<=281474976710656]) (aR.refl w _) rfl
       (size_madeCells _ _) (by simp;omega) (by simp only[maxLen];omega) (fun j hj=>by
        simp only[List.length_replicate] at hj
        rw[List.getElem_replicate]
        have sh:=jK hproj.2.2.2.1 (j*u.size)
        rw[Nat.zero_add] at sh
        refine bR (fun _ h=>h) (fun _ _ _=>rfl) u _ _ _ _ (fun q hq=>?_) sh
        have hlt:j*u.size+q<c.toNat*u.size:=by
         have:(j+1)*u.size<=c.toNat*u.size:=Nat.mul_le_mul_right _ (by omega)
         rw[Nat.add_mul,Nat.one_mul] at this;omega
        rw[← Array.getElem?_toList,hmade,lv _ _ _ (by simpa[hzl] using hlt)]
        congr 1
        simp only[Array.length_toList,hzl]
        rw[Nat.add_comm,Nat.add_mul_mod_self_right,Nat.mod_eq_of_lt hq]
        omega)
      refine⟨_,_,.inl ?_,g⟩
      unfold execOp;rw[ho]
      simp only[dx.1,dy.1,Sem.run_bind,hrun,Result.andThen_ok,Sem.run_pure,List.length_replicate]
     ·cases hk
    ·cases e
   ·cases e
  ·cases e
 ·cases e
end
end Go.SX
