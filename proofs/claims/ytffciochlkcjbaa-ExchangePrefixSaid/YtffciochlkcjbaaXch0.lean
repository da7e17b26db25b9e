/- SX, part 21: a function's contract, off its symbolic run. -/
import Derived.Test.YtffciochlkcjbaaSx20
import Derived.Laws.Sem
import Derived.Laws.NewBlocks
import Derived.ProofKit
import Derived.OpenShut
import Derived.ChangeOld
import Derived.Below
import Derived.KernelRfl
import Derived.Test.YtffciochlkcjbaaChecked
import Derived.Laws.Bits64
import Derived.Laws.Bits128
import Derived.Laws.BitsAllLaws
namespace Go.SX
set_option linter.unusedVariables false
def CT.plain:CT->Bool
 | .sl _=>false
 | .pair a b=>a.plain&&b.plain
 | _=>true
theorem m6{A A':Nat->Prop}{w w':World}:∀{t:CT}{cv:Nat->Option Value}{o:Nat}{d:t.D},t.plain=true->Rd A w t cv o d->Rd A' w' t cv o d
 | .int k,cv,o,d,_,h=>h
 | .bool,cv,o,d,_,h=>h
 | .str,cv,o,d,_,h=>h
 | .sl t,cv,o,d,hp,_=>by cases hp
 | .pair a b,cv,o,d,hp,h=>by
  simp only[CT.plain,Bool.and_eq_true] at hp
  exact⟨m6 hp.1 h.1,m6 hp.2 h.2⟩
theorem lI{A A':Nat->Prop}{w:World}{t:CT}{cv:Nat->Option Value}{o:Nat}{d:t.D}(L:t.plain=true∨∀ b,A b->A' b)(h:Rd A w t cv o d):Rd A' w t cv o d:=by
 rcases L with L|L
 ·exact m6 L h
 ·exact bG L (fun _ _ _=>rfl) t _ _ _ _ (fun _ _=>rfl) h
inductive RK where
 | val (t:CT)
 | agg (o:OT)
 | own (E:TypeId) (t:CT)
 | box (E:TypeId) (o:OT)
 | fn (f:FuncId) (k:Nat)
@[reducible] def RK.D:RK->Type
 | .val t=>t.D
 | .agg o=>o.X
 | .own _ t=>List t.D
 | .box _ o=>o.X
 | .fn _ _=>Unit
@[reducible] def b7:List RK->Type
 | []=>Unit
 | p::r=>p.D×b7 r
@[reducible] def bo:List PK->Type
 | []=>Unit
 | .val _::r=>bo r
 | .agg _::r=>bo r
 | .own _ _::r=>bo r
 | .ago _::r=>bo r
 | .fn _ _::r=>bo r
 | .nils::r=>bo r
 | .box _ o::r=>o.X×bo r
 | .row _ t::r=>List t.D×bo r
def OT.plain:OT->Bool
 | .dat t=>t.plain
 | .row _ t=>t.plain
 | .rowg _ _=>true
 | .fnc _=>true
 | .ali=>true
 | .hole _=>true
 | .ref _ o=>o.plain
 | .pair a b=>a.plain&&b.plain
def fD:List RK->Bool
 | []=>true
 | .val t::r=>t.plain&&fD r
 | .agg o::r=>o.plain&&fD r
 | .own _ t::r=>t.plain&&fD r
 | .box _ o::r=>o.plain&&fD r
 | .fn _ _::r=>fD r
def cV:List PK->Bool
 | []=>true
 | .val _::r=>cV r
 | .agg _::r=>cV r
 | .own _ _::r=>cV r
 | .ago _::r=>cV r
 | .fn _ _::r=>cV r
 | .nils::r=>cV r
 | .box _ o::r=>o.plain&&cV r
 | .row _ t::r=>t.plain&&cV r
structure Ct where
 ps:List PK
 rs:List RK
 pre:aA ps->List Prop
 out:aA ps->b7 rs×bo ps
def j5(E:TypeId)(t:CT)(h:ar):List SV->Option (List t.D×List SV×Option Nat)
 | .own m sz::r=>match h m with
  | .live (.row E' t' xs)=>match Nat.beq E E',Nat.beq sz t.size,bv t' t xs with
   | true,true,some ys=>some (ys,r,some m)
   | _,_,_=>none
  | _=>none
 | .nilsl::r=>some ([],r,none)
 | _=>none
def cr(h:ar)(al:Bool):(o:OT)->Option Nat->List SV->Option (o.X×List SV×List (Nat×Nm)×List (Option Nat))
 | .dat t,_,cs=>match (bX t cs).run h with
  | some ((x,r,fz),_)=>some (x,r,fz,[])
  | none=>none
 | .row E t,_,cs=>match j5 E t h cs with
  | some (ys,r,o)=>some (ys,r,[],[o])
  | none=>none
 | .rowg _ _,_,_::r=>some ((),r,[],[])
 | .rowg _ _,_,[]=>none
 | .fnc f,_,.fn g []::r=>match Nat.beq f g with
  | true=>some ((),r,[],[])
  | false=>none
 | .fnc _,_,_=>none
 | .ali,_,.ptr m 0::r=>match al,Nat.beq m PN with
  | true,true=>some ((),r,[],[])
  | _,_=>none
 | .ali,_,_=>none
 | .hole i,_,.hv j s::r=>match Nat.beq j (HN+i) with
  | true=>some (s,r,[],[])
  | false=>none
 | .hole _,_,_=>none
 | .ref E o,some j,.ptr m 0::r=>match Nat.beq m (PN+j),h m with
  | true,.live (.cells E' cs)=>match Nat.beq E E',cr h al o (some (j+1)) cs with
   | true,some (x,[],fz,ow)=>some (x,r,fz,ow)
   | _,_=>none
  | _,_=>none
 | .ref _ _,_,_=>none
 | .pair a b,j,cs=>match cr h al a j cs with
  | some (x,r,f,w)=>match cr h al b (j.map (· + a.nb)) r with
   | some (y,r',f',w')=>some ((x,y),r',f++f',w++w')
   | none=>none
  | none=>none
def c7(al:Bool):(rs:List RK)->List SV->ar->Option (b7 rs×List (Nat×Nm)×List (Option Nat))
 | [],[],_=>some ((),[],[])
 | .val t::rs,v::vs,h=>match (bX t [v]).run h with
  | some ((x,[],fz),_)=>match c7 al rs vs h with
   | some (y,f,o)=>some ((x,y),fz++f,o)
   | none=>none
  | _=>none
 | .agg t::rs,.agg cs::vs,h=>match cr h al t none cs with
  | some (x,[],fz,w)=>match c7 al rs vs h with
   | some (y,f,o)=>some ((x,y),fz++f,w++o)
   | none=>none
  | _=>none
 | .own E t::rs,v::vs,h=>match j5 E t h [v] with
  | some (x,_,w)=>match c7 al rs vs h with
   | some (y,f,o)=>some ((x,y),f,w::o)
   | none=>none
  | none=>none
 | .box E t::rs,.ptr m 0::vs,h=>match h m with
  | .live (.cells E' cs)=>match Nat.beq E E',cr h al t none cs with
   | true,some (x,[],fz,w)=>match c7 al rs vs h with
    | some (y,f,o)=>some ((x,y),fz++f,some m::(w++o))
    | none=>none
   | _,_=>none
  | _=>none
 | .fn f k::rs,.fn g cs::vs,h=>match Nat.beq f g,Nat.beq cs.length k with
  | true,true=>match c7 al rs (cs++vs) h with
   | some (y,f',o)=>some (((),y),f',o)
   | none=>none
  | _,_=>none
 | _,_,_=>none
def cG:(ps:List PK)->Nat->ar->Option (bo ps×List (Nat×Nm)×List (Option Nat))
 | [],_,_=>some ((),[],[])
 | .val _::ps,j,h=>cG ps j h
 | .agg _::ps,j,h=>cG ps j h
 | .own _ _::ps,j,h=>cG ps j h
 | .ago _::ps,j,h=>cG ps j h
 | .fn _ _::ps,j,h=>cG ps j h
 | .nils::ps,j,h=>cG ps j h
 | .box E t::ps,j,h=>match h (PN+j) with
  | .live (.cells E' cs)=>match Nat.beq E E',cr h true t (some (j+1)) cs with
   | true,some (x,[],fz,w)=>match cG ps (j+1+t.nb) h with
    | some (y,f,o)=>some ((x,y),fz++f,w++o)
    | none=>none
   | _,_=>none
  | _=>none
 | .row E t::ps,j,h=>match h (PN+j) with
  | .live (.row E' t' xs)=>match Nat.beq E E',bv t' t xs with
   | true,some ys=>match cG ps (j+1) h with
    | some (y,f,o)=>some ((ys,y),f,o)
    | none=>none
   | _,_=>none
  | _=>none
def gN(n:Nat):List (Option Nat)->Bool
 | []=>false
 | some m::r=>Nat.beq n m||gN n r
 | none::r=>gN n r
def iq(fz:List (Nat×Nm)):List (Option Nat)->Bool
 | []=>true
 | none::r=>iq fz r
 | some m::r=>(Nat.blt m PN||Nat.ble QN m)&&gU m fz && !gN m r&&iq fz r
def ka:List (Nat×Nm)->Bool
 | []=>true
 | (n,_)::r=>(Nat.blt n PN||Nat.ble QN n)&&ka r
def cL(b0:Nat):(o:OT)->o.X->List Nat->Nat->List SV
 | .dat t,x,_,_=>bk t x
 | .row _ t,_,_,n=>[.own n t.size]
 | .rowg _ _,_,_,_=>[.junk]
 | .fnc f,_,_,_=>[.fn f []]
 | .ali,_,_,_=>[.ptr b0 0]
 | .hole _,s,_,_=>[s]
 | .ref _ _,_,bx,_=>match bx with
  | q::_=>[.ptr q 0]
  | []=>[.junk]
 | .pair a b,x,bx,n=>cL b0 a x.1 bx n++cL b0 b x.2 (bx.drop a.nb) (n+a.nr)
def cC(b0:Nat):(o:OT)->o.X->List Nat->Nat->List (Nat×Nm)
 | .dat _,_,_,_=>[]
 | .row _ _,_,_,_=>[]
 | .rowg _ _,_,_,_=>[]
 | .fnc _,_,_,_=>[]
 | .ali,_,_,_=>[]
 | .hole _,_,_,_=>[]
 | .ref E o,x,bx,n=>match bx with
  | q::r=>(q,.live (.cells E (cL b0 o x r n)))::cC b0 o x r n
  | []=>[]
 | .pair a b,x,bx,n=>cC b0 a x.1 bx n++cC b0 b x.2 (bx.drop a.nb) (n+a.nr)
def fc:(o:OT)->o.X->Nat->List (Nat×Nm)
 | .dat _,_,_=>[]
 | .row E t,x,n=>[(n,.live (.row E t x))]
 | .rowg _ _,_,_=>[]
 | .fnc _,_,_=>[]
 | .ali,_,_=>[]
 | .hole _,_,_=>[]
 | .ref _ o,x,n=>fc o x n
 | .pair a b,x,n=>fc a x.1 n++fc b x.2 (n+a.nr)
def cu(b0:Nat):(rs:List RK)->b7 rs->Nat->List SV
 | [],_,_=>[]
 | .val t::rs,d,n=>jb t d.1::cu b0 rs d.2 n
 | .agg o::rs,d,n => .agg (cL b0 o d.1 [] n)::cu b0 rs d.2 (n+o.nr)
 | .own E t::rs,d,n => .own n t.size::cu b0 rs d.2 (n+1)
 | .box E o::rs,d,n => .ptr n 0::cu b0 rs d.2 (n+1+o.nr)
 | .fn f k::rs,d,n => .fn f ((cu b0 rs d.2 n).take k)::(cu b0 rs d.2 n).drop k
def cK(b0:Nat):(rs:List RK)->b7 rs->Nat->List (Nat×Nm)
 | [],_,_=>[]
 | .val t::rs,d,n=>cK b0 rs d.2 n
 | .agg o::rs,d,n=>fc o d.1 n++cK b0 rs d.2 (n+o.nr)
 | .own E t::rs,d,n=>(n,.live (.row E t d.1))::cK b0 rs d.2 (n+1)
 | .box E o::rs,d,n=>(n,.live (.cells E (cL b0 o d.1 [] (n+1))))::(fc o d.1 (n+1)++cK b0 rs d.2 (n+1+o.nr))
 | .fn _ _::rs,d,n=>cK b0 rs d.2 n
def br:List RK->Nat
 | []=>0
 | .own _ _::r=>br r+1
 | .box _ o::r=>br r+o.nr+1
 | .val _::r=>br r
 | .agg o::r=>br r+o.nr
 | .fn _ _::r=>br r
def bZ:List PK->Nat
 | []=>0
 | .val _::r=>bZ r
 | .agg _::r=>bZ r
 | .own _ _::r=>bZ r
 | .ago _::r=>bZ r
 | .fn _ _::r=>bZ r
 | .nils::r=>bZ r
 | .box _ o::r=>bZ r+o.nr
 | .row _ _::r=>bZ r
def bp(b0:Nat):(ps:List PK)->bo ps->List Nat->Nat->List (Nat×Nm)
 | .val _::ps,d,bx,nb=>bp b0 ps d bx nb
 | .agg _::ps,d,bx,nb=>bp b0 ps d bx nb
 | .own _ _::ps,d,bx,nb=>bp b0 ps d bx nb
 | .ago _::ps,d,bx,nb=>bp b0 ps d bx nb
 | .fn _ _::ps,d,bx,nb=>bp b0 ps d bx nb
 | .nils::ps,d,bx,nb=>bp b0 ps d bx nb
 | .box E o::ps,d,n::bx,nb=>(n,.live (.cells E (cL b0 o d.1 bx nb)))::(cC b0 o d.1 bx nb++bp b0 ps d.2 (bx.drop o.nb) (nb+o.nr))
 | .row E t::ps,d,n::bx,nb=>(n,.live (.row E t d.1))::bp b0 ps d.2 bx nb
 | _,_,_,_=>[]
def bI:(ps:List PK)->bo ps->Nat->List (Nat×Nm)
 | [],_,_=>[]
 | .val _::ps,d,nb=>bI ps d nb
 | .agg _::ps,d,nb=>bI ps d nb
 | .own _ _::ps,d,nb=>bI ps d nb
 | .ago _::ps,d,nb=>bI ps d nb
 | .fn _ _::ps,d,nb=>bI ps d nb
 | .nils::ps,d,nb=>bI ps d nb
 | .box E o::ps,d,nb=>fc o d.1 nb++bI ps d.2 (nb+o.nr)
 | .row E t::ps,d,nb=>bI ps d.2 nb
def dI:List (Option Nat)->List (Nat×Nm)
 | []=>[]
 | none::r=>dI r
 | some n::r=>(n,.dead)::dI r
def eZ:List SV->SV
 | [v]=>v
 | l => .tup l
def jY(fz:List (Nat×Nm)):List Nat->Bool
 | []=>true
 | n::r=>gU n fz&&jY fz r
def eQ:Nat->Nat->Dl->Q Dl
 | _,0,d => .ret d
 | n,k+1,d => .ask n fun
  | .un=>eQ (n+1) k d
  | _ => .fail
def ik(ps:List PK)(rs:List RK):Bool := !(fD rs&&cV ps)
def fA(ps:List PK)(rs:List RK)(y:b7 rs×bo ps)(base:Nat)(fz:List (Nat×Nm))(bx:List Nat)(cx:List (Option Nat)):List (Nat×Nm) :=
 (bp (bx.headD 0) ps y.2 bx (base+br rs)++(cK (bx.headD 0) rs y.1 base++(bI ps y.2 (base+br rs)++dI cx)))++(match ik ps rs with|true=>fz|false=>[])
def gw:List RK->List Nat
 | []=>[]
 | .agg o::r=>o.hx++gw r
 | .box _ o::r=>o.hx++gw r
 | .val _::r=>gw r
 | .own _ _::r=>gw r
 | .fn _ _::r=>gw r
def k7(m:Nat):List Nat->Bool
 | []=>true
 | i::r=>Nat.blt i m&&k7 m r
def iZ(ps:List PK)(rs:List RK):Bool:=match gw rs with
 | []=>jr (cy ps)&&k7 524288 (cy ps)
 | _=>false
def jC(ps:List PK)(rs:List RK)(fz:List (Nat×Nm))(bx:List Nat)(cx:List (Option Nat)):Bool:=jr (bx++bM cx)&&jY fz (bx++bM cx)&&Nat.ble bx.length 524288&&iZ ps rs
def Ct.spec(c:Ct):Spec:=fun base svs=>(bw none c.ps svs).bind fun p=>match jC c.ps c.rs p.2.1 p.2.2.1 p.2.2.2 with
 | true=>eQ base (br c.rs+bZ c.ps) (.det (c.pre p.1) (eZ (cu (p.2.2.1.headD 0) c.rs (c.out p.1).1 base)) (fA c.ps c.rs (c.out p.1) base p.2.1 p.2.2.1 p.2.2.2))
 | false => .fail
structure Cn where
 ps:List PK
 rs:List RK
 pre:aA ps->List Prop
 post:aA ps->b7 rs×bo ps->Prop
 inh:∀ d,am (pre d)→∃ y,post d y
def hV{X:Type}(b0:Nat):(o:OT)->(X->o.X)->List Nat->Nat->List (Nat×(X->Nm))
 | .dat _,_,_,_=>[]
 | .row _ _,_,_,_=>[]
 | .rowg _ _,_,_,_=>[]
 | .fnc _,_,_,_=>[]
 | .ali,_,_,_=>[]
 | .hole _,_,_,_=>[]
 | .ref E o,x,bx,n=>match bx with
  | q::r=>(q,fun y=>.live (.cells E (cL b0 o (x y) r n)))::hV b0 o x r n
  | []=>[]
 | .pair a b,x,bx,n=>hV b0 a (fun y=>(x y).1) bx n++hV b0 b (fun y=>(x y).2) (bx.drop a.nb) (n+a.nr)
def f9{X:Type}:(o:OT)->(X->o.X)->Nat->List (Nat×(X->Nm))
 | .dat _,_,_=>[]
 | .row E t,x,n=>[(n,fun y=>.live (.row E t (x y)))]
 | .rowg _ _,_,_=>[]
 | .fnc _,_,_=>[]
 | .ali,_,_=>[]
 | .hole _,_,_=>[]
 | .ref _ o,x,n=>f9 o x n
 | .pair a b,x,n=>f9 a (fun y=>(x y).1) n++f9 b (fun y=>(x y).2) (n+a.nr)
def c8{X:Type}(b0:Nat):(ps:List PK)->(X->bo ps)->List Nat->Nat->List (Nat×(X->Nm))
 | .val _::ps,d,bx,nb=>c8 b0 ps d bx nb
 | .agg _::ps,d,bx,nb=>c8 b0 ps d bx nb
 | .own _ _::ps,d,bx,nb=>c8 b0 ps d bx nb
 | .ago _::ps,d,bx,nb=>c8 b0 ps d bx nb
 | .fn _ _::ps,d,bx,nb=>c8 b0 ps d bx nb
 | .nils::ps,d,bx,nb=>c8 b0 ps d bx nb
 | .box E o::ps,d,n::bx,nb=>(n,fun x=>.live (.cells E (cL b0 o (d x).1 bx nb)))::(hV b0 o (fun x=>(d x).1) bx nb++c8 b0 ps (fun x=>(d x).2) (bx.drop o.nb) (nb+o.nr))
 | .row E t::ps,d,n::bx,nb=>(n,fun x=>.live (.row E t (d x).1))::c8 b0 ps (fun x=>(d x).2) bx nb
 | _,_,_,_=>[]
def c5{X:Type}:(ps:List PK)->(X->bo ps)->Nat->List (Nat×(X->Nm))
 | [],_,_=>[]
 | .val _::ps,d,nb=>c5 ps d nb
 | .agg _::ps,d,nb=>c5 ps d nb
 | .own _ _::ps,d,nb=>c5 ps d nb
 | .ago _::ps,d,nb=>c5 ps d nb
 | .fn _ _::ps,d,nb=>c5 ps d nb
 | .nils::ps,d,nb=>c5 ps d nb
 | .box E o::ps,d,nb=>f9 o (fun x=>(d x).1) nb++c5 ps (fun x=>(d x).2) (nb+o.nr)
 | .row E t::ps,d,nb=>c5 ps (fun x=>(d x).2) nb
def eX{X:Type}(b0:Nat):(rs:List RK)->(X->b7 rs)->Nat->List (Nat×(X->Nm))
 | [],_,_=>[]
 | .val t::rs,d,n=>eX b0 rs (fun x=>(d x).2) n
 | .agg o::rs,d,n=>f9 o (fun x=>(d x).1) n++eX b0 rs (fun x=>(d x).2) (n+o.nr)
 | .own E t::rs,d,n=>(n,fun x=>.live (.row E t (d x).1))::eX b0 rs (fun x=>(d x).2) (n+1)
 | .box E o::rs,d,n=>(n,fun x=>.live (.cells E (cL b0 o (d x).1 [] (n+1))))::(f9 o (fun x=>(d x).1) (n+1)++eX b0 rs (fun x=>(d x).2) (n+1+o.nr))
 | .fn _ _::rs,d,n=>eX b0 rs (fun x=>(d x).2) n
def ko{X:Type}:List (Nat×Nm)->List (Nat×(X->Nm))
 | []=>[]
 | (n,b)::r=>(n,fun _=>b)::ko r
def iS(ps:List PK)(rs:List RK)(base:Nat)(fz:List (Nat×Nm))(bx:List Nat)(cx:List (Option Nat)):List (Nat×(b7 rs×bo ps->Nm)) :=
 (c8 (bx.headD 0) ps (fun y:b7 rs×bo ps=>y.2) bx (base+br rs)++(eX (bx.headD 0) rs (fun y:b7 rs×bo ps=>y.1) base++(c5 ps (fun y:b7 rs×bo ps=>y.2) (base+br rs)++ko (dI cx))))++(match ik ps rs with|true=>ko fz|false=>[])
theorem kU{X:Type}{b0:Nat}(y:X):∀(o:OT)(x:X->o.X)(bx:List Nat)(n:Nat),(hV b0 o x bx n).map (fun p=>(p.1,p.2 y))=cC b0 o (x y) bx n
 | .dat _,_,_,_=>rfl
 | .row _ _,_,_,_=>rfl
 | .rowg _ _,_,_,_=>rfl
 | .fnc _,_,_,_=>rfl
 | .ali,_,_,_=>rfl
 | .hole _,_,_,_=>rfl
 | .ref E o,x,[],n=>rfl
 | .ref E o,x,q::r,n=>by simp only[hV,cC,List.map_cons,kU y o]
 | .pair a b,x,bx,n=>by simp only[hV,cC,List.map_append,kU y a,kU y b]
theorem ja{X:Type}(y:X):∀(o:OT)(x:X->o.X)(n:Nat),(f9 o x n).map (fun p=>(p.1,p.2 y))=fc o (x y) n
 | .dat _,_,_=>rfl
 | .row _ _,_,_=>rfl
 | .rowg _ _,_,_=>rfl
 | .fnc _,_,_=>rfl
 | .ali,_,_=>rfl
 | .hole _,_,_=>rfl
 | .ref E o,x,n=>by simp only[f9,fc,ja y o]
 | .pair a b,x,n=>by simp only[f9,fc,List.map_append,ja y a,ja y b]
theorem gm{X:Type}{b0:Nat}(x:X):∀(ps:List PK)(d:X->bo ps)(bx:List Nat)(nb:Nat),(c8 b0 ps d bx nb).map (fun p=>(p.1,p.2 x))=bp b0 ps (d x) bx nb
 | [],_,_,_=>rfl
 | .val _::ps,d,bx,nb=>by simp only[c8,bp];exact gm x ps d bx nb
 | .agg _::ps,d,bx,nb=>by simp only[c8,bp];exact gm x ps d bx nb
 | .own _ _::ps,d,bx,nb=>by simp only[c8,bp];exact gm x ps d bx nb
 | .ago _::ps,d,bx,nb=>by simp only[c8,bp];exact gm x ps d bx nb
 | .fn _ _::ps,d,bx,nb=>by simp only[c8,bp];exact gm x ps d bx nb
 | .nils::ps,d,bx,nb=>by simp only[c8,bp];exact gm x ps d bx nb
 | .box E t::ps,d,[],_=>rfl
 | .row E t::ps,d,[],_=>rfl
 | .box E t::ps,d,n::bx,nb=>by simp only[c8,bp,List.map_cons,List.map_append,kU x t,gm x ps]
 | .row E t::ps,d,n::bx,nb=>by simp only[c8,bp,List.map_cons,gm x ps]
theorem f5{X:Type}(x:X):∀(ps:List PK)(d:X->bo ps)(nb:Nat),(c5 ps d nb).map (fun p=>(p.1,p.2 x))=bI ps (d x) nb
 | [],_,_=>rfl
 | .val _::ps,d,nb=>by simp only[c5,bI];exact f5 x ps d nb
 | .agg _::ps,d,nb=>by simp only[c5,bI];exact f5 x ps d nb
 | .own _ _::ps,d,nb=>by simp only[c5,bI];exact f5 x ps d nb
 | .ago _::ps,d,nb=>by simp only[c5,bI];exact f5 x ps d nb
 | .fn _ _::ps,d,nb=>by simp only[c5,bI];exact f5 x ps d nb
 | .nils::ps,d,nb=>by simp only[c5,bI];exact f5 x ps d nb
 | .box E t::ps,d,nb=>by simp only[c5,bI,List.map_append,ja x t,f5 x ps]
 | .row E t::ps,d,nb=>by simp only[c5,bI];exact f5 x ps _ nb
theorem jo{X:Type}{b0:Nat}(x:X):∀(rs:List RK)(d:X->b7 rs)(n:Nat),(eX b0 rs d n).map (fun p=>(p.1,p.2 x))=cK b0 rs (d x) n
 | [],_,_=>rfl
 | .val t::rs,d,n=>by simp only[eX,cK];exact jo x rs _ n
 | .agg t::rs,d,n=>by simp only[eX,cK,List.map_append,ja x t,jo x rs]
 | .own E t::rs,d,n=>by simp only[eX,cK,List.map_cons,jo x rs]
 | .box E t::rs,d,n=>by simp only[eX,cK,List.map_cons,List.map_append,ja x t,jo x rs]
 | .fn _ _::rs,d,n=>by simp only[eX,cK];exact jo x rs _ n
theorem nC{X:Type}(x:X):∀(l:List (Nat×Nm)),(ko (X:=X) l).map (fun p=>(p.1,p.2 x))=l
 | []=>rfl
 | (n,b)::r=>by simp only[ko,List.map_cons,nC x r]
theorem pH{ps:List PK}{rs:List RK}{base:Nat}{fz:List (Nat×Nm)}{bx:List Nat}{cx:List (Option Nat)}(y:b7 rs×bo ps):(iS ps rs base fz bx cx).map (fun p=>(p.1,p.2 y))=fA ps rs y base fz bx cx:=by
 unfold iS fA
 simp only[List.map_append,gm,jo,f5,nC]
 cases ik ps rs with
 | true=>simp only[nC]
 | false=>rfl
def ig:(o:OT)->(o.X->Prop)->Prop
 | .dat t,k=>io t k
 | .row _ t,k=>∀ x:List t.D,k x
 | .rowg _ _,k=>k ()
 | .fnc _,k=>k ()
 | .ali,k=>k ()
 | .hole _,k=>∀ s:SV,k s
 | .ref _ o,k=>ig o k
 | .pair a b,k=>ig a fun x=>ig b fun y=>k (x,y)
theorem je:∀{o:OT}{k:o.X->Prop},ig o k→∀ d,k d
 | .dat t,k,h,d=>kY.1 h d
 | .row _ t,k,h,d=>h d
 | .rowg _ _,k,h,d=>h
 | .fnc _,k,h,d=>h
 | .ali,k,h,d=>h
 | .hole _,k,h,d=>h d
 | .ref _ o,k,h,d=>je (o:=o) h d
 | .pair a b,k,h,d=>je (o:=b) (je (o:=a) h d.1) d.2
def iK:(rs:List RK)->(b7 rs->Prop)->Prop
 | [],k=>k ()
 | .val t::r,k=>io t fun x=>iK r fun y=>k (x,y)
 | .agg o::r,k=>ig o fun x=>iK r fun y=>k (x,y)
 | .own _ t::r,k=>∀ x:List t.D,iK r fun y=>k (x,y)
 | .box _ o::r,k=>ig o fun x=>iK r fun y=>k (x,y)
 | .fn _ _::r,k=>iK r fun y=>k ((),y)
theorem jt:∀{rs:List RK}{k:b7 rs->Prop},iK rs k→∀ d,k d
 | [],k,h,d=>h
 | .val t::r,k,h,d=>jt (rs:=r) (kY.1 h d.1) d.2
 | .agg o::r,k,h,d=>jt (rs:=r) (je (o:=o) h d.1) d.2
 | .own _ t::r,k,h,d=>jt (rs:=r) (h d.1) d.2
 | .box _ o::r,k,h,d=>jt (rs:=r) (je (o:=o) h d.1) d.2
 | .fn _ _::r,k,h,d=>jt (rs:=r) h d.2
def fS:(ps:List PK)->(bo ps->Prop)->Prop
 | [],k=>k ()
 | .val _::r,k=>fS r k
 | .agg _::r,k=>fS r k
 | .own _ _::r,k=>fS r k
 | .ago _::r,k=>fS r k
 | .fn _ _::r,k=>fS r k
 | .nils::r,k=>fS r k
 | .box _ o::r,k=>ig o fun x=>fS r fun y=>k (x,y)
 | .row _ t::r,k=>∀ x:List t.D,fS r fun y=>k (x,y)
theorem gq:∀{ps:List PK}{k:bo ps->Prop},fS ps k→∀ d,k d
 | [],k,h,d=>h
 | .val _::r,k,h,d=>gq (ps:=r) h d
 | .agg _::r,k,h,d=>gq (ps:=r) h d
 | .own _ _::r,k,h,d=>gq (ps:=r) h d
 | .ago _::r,k,h,d=>gq (ps:=r) h d
 | .fn _ _::r,k,h,d=>gq (ps:=r) h d
 | .nils::r,k,h,d=>gq (ps:=r) h d
 | .box _ o::r,k,h,d=>gq (ps:=r) (je (o:=o) h d.1) d.2
 | .row _ t::r,k,h,d=>gq (ps:=r) (h d.1) d.2
def sB(rs:List RK)(ps:List PK):Qn (b7 rs×bo ps) :=
 ⟨fun k=>iK rs fun y=>fS ps fun z=>k (y,z),fun k h x=>gq (jt h x.1) x.2,fun k=>∃ x,k x,fun _ h=>h⟩
def Cn.spec(c:Cn):Spec:=fun base svs=>(bw none c.ps svs).bind fun p=>match jC c.ps c.rs p.2.1 p.2.2.1 p.2.2.2 with
 | true=>eQ base (br c.rs+bZ c.ps) (.nd (b7 c.rs×bo c.ps) (sB c.rs c.ps) (c.pre p.1) (c.post p.1) (c.inh p.1) (fun y=>eZ (cu (p.2.2.1.headD 0) c.rs y.1 base)) (iS c.ps c.rs base p.2.1 p.2.2.1 p.2.2.2))
 | false => .fail
section
variable {w0:World} {N0:bg} {A A' A1 A2:Nat->Prop} {env env1 env':ad} {h h1:ar} {w w1:World}
theorem iF{a b c:Bool}{p:Prop}(h:(a&&b)=true∨p):a=true∨p:=by
 rcases h with h|h
 ·exact .inl (by simp only[Bool.and_eq_true] at h;exact h.1)
 ·exact .inr h
theorem ib{a b:Bool}{p:Prop}(h:(a&&b)=true∨p):b=true∨p:=by
 rcases h with h|h
 ·exact .inl (by simp only[Bool.and_eq_true] at h;exact h.2)
 ·exact .inr h
theorem Ae{al:Bool}{t:OT}{rs:List RK}{svs:List SV} {x} (e:c7 al (.agg t::rs) svs h1=some x):∃ cs r,svs = .agg cs::r:=by
 cases svs with
 | nil=>cases e
 | cons s r=>cases s <;> first|exact⟨_,_,rfl⟩|cases e
theorem w6{al:Bool}{E:TypeId}{t:CT}{rs:List RK}{svs:List SV} {x} (e:c7 al (.own E t::rs) svs h1=some x):∃ v r,svs=v::r:=by
 cases svs with
 | nil=>cases e
 | cons s r=>exact⟨_,_,rfl⟩
theorem wY{al:Bool}{E:TypeId}{t:OT}{rs:List RK}{svs:List SV} {x} (e:c7 al (.box E t::rs) svs h1=some x):∃ m r,svs = .ptr m 0::r:=by
 cases svs with
 | nil=>cases e
 | cons s r=>cases s <;> first|cases e;done|(rename_i m o;cases o <;> first|exact⟨_,_,rfl⟩|cases e)
theorem yW{al:Bool}{f:FuncId}{k:Nat}{rs:List RK}{svs:List SV} {x} (e:c7 al (.fn f k::rs) svs h1=some x):∃ g cs r,svs = .fn g cs::r:=by
 cases svs with
 | nil=>cases e
 | cons s r=>cases s <;> first|exact⟨_,_,_,rfl⟩|cases e
theorem pY{al:Bool}{E:TypeId}{t:OT}{j:Option Nat}{svs:List SV} {x} (e:cr h1 al (.ref E t) j svs=some x):∃ j0 m r,j=some j0/\svs = .ptr m 0::r:=by
 cases j with
 | none=>cases svs <;> cases e
 | some j0 =>
  cases svs with
  | nil=>cases e
  | cons s r=>cases s <;> first|cases e;done|(rename_i m o;cases o <;> first|exact⟨_,_,_,rfl,rfl⟩|cases e)
theorem vZ{al:Bool}{f:FuncId}{j:Option Nat}{svs:List SV} {x} (e:cr h1 al (.fnc f) j svs=some x):∃ r,svs = .fn f []::r/\x=((),r,[],[]):=by
 cases svs with
 | nil=>cases e
 | cons s r =>
  cases s <;> first|cases e;done|skip
  rename_i g cs
  cases cs <;> first|cases e;done|skip
  simp only[cr] at e
  split at e
  ·rename_i hb
   rw[Nat.eq_of_beq_eq_true hb]
   simp only[Option.some.injEq] at e
   exact⟨_,rfl,e.symm⟩
  ·cases e
theorem yM{al:Bool}{E:TypeId}{t:CT}{j:Option Nat}{svs:List SV} {x} (e:cr h1 al (.rowg E t) j svs=some x):∃ v r,svs=v::r:=by
 cases svs with
 | nil=>cases e
 | cons s r=>exact⟨_,_,rfl⟩
theorem rS{Nc:bg}(m1:ai w Nc A1 env1 h1 w1)(hA:∀ b,A1 b->A2 b){E:TypeId}{t:CT}(L:t.plain=true∨∀ b,A2 b->A' b){cs rest:List SV}{vs:List Value}{ys:List t.D}{on:Option Nat}
  (e:j5 E t h1 cs=some (ys,rest,on)) (hd:ab A1 env1 w1 cs vs) :
  ∃ v vr,vs=v::vr/\rest=cs.drop 1/\ab A1 env1 w1 rest vr∧∀(e':ad)(i:Nat),e' i=de env1 on->aa A' e' w1 (.own i t.size) v/\bQ A' env1 h1 e' w1 [on] [(i,.live (.row E t ys))] i:=by
 cases cs with
 | nil=>cases e
 | cons s cs =>
 cases s with
 | own n sz =>
  simp only[j5] at e
  split at e
  ·rename_i E' t' xs hl
   split at e
   ·rename_i zs hE hsz hc
    have hE:=Nat.eq_of_beq_eq_true hE
    subst hE
    have hsz:=Nat.eq_of_beq_eq_true hsz
    subst hsz
    obtain⟨et,ez⟩:=bW hc
    subst et
    simp only at ez
    subst ez
    simp only[Option.some.injEq,Prod.mk.injEq] at e
    obtain⟨rfl,rfl,rfl⟩:=e
    simp only[ab,aa] at hd
    obtain⟨x,vr,rfl,hv,hr⟩:=hd
    have hm:=m1.nm n
    rw[hl] at hm
    refine⟨x,vr,rfl,rfl,hr,fun e' i he=>⟨?_,⟨rfl,_,rfl,rfl,.inl ⟨n,_,rfl,hl,rfl,fun k len he=>?_,fun he=>?_⟩⟩,trivial⟩⟩
    ·simp only[de] at he
     simp only[aa]
     rw[he];exact hv
    ·rcases hm with⟨k',len',he',hb,_⟩|⟨he',_⟩
     ·rw[he] at he';cases he'
      obtain⟨us,cap,g1,g2,g3,g4,g5,g6⟩:=hb
      exact⟨us,cap,g1,g2,g3,g4,g5,fun i hi=>lI L (bG hA (fun _ _ _=>rfl) _ _ _ _ _ (fun _ _=>rfl) (g6 i hi))⟩
     ·rw[he] at he';cases he'
    ·rcases hm with⟨k',len',he',hb,_⟩|⟨he',E2,t2,hb⟩
     ·rw[he] at he';cases he'
     ·rcases hb with hb|hb <;> cases hb
      exact⟨_,_,rfl⟩
   ·cases e
  ·cases e
 | nilsl =>
  simp only[j5,Option.some.injEq,Prod.mk.injEq] at e
  obtain⟨rfl,rfl,rfl⟩:=e
  simp only[ab,aa] at hd
  obtain⟨x,vr,rfl,rfl,hr⟩:=hd
  refine⟨_,vr,rfl,rfl,hr,fun e' i he=>⟨?_,⟨rfl,_,rfl,rfl,.inr ⟨rfl,_,_,rfl⟩⟩,trivial⟩⟩
  simp only[aa]
  exact .inl ⟨he,_,rfl⟩
 | _=>cases e
def ef(A':Nat->Prop)(env1:ad)(h1:ar)(env':ad)(w1:World)(bx:List Nat)(j:Nat)(n:Nat)(x:Nm):Prop :=
 ∃ i b b0,bx[i]? = some n/\x = .live b/\b.mut=true/\h1 (PN+(j+i)) = .live b0/\b0.mut=true/\(∀ k len,env1 (PN+(j+i)) = .blk k len->cm A' env' w1 k len b)/\(env1 (PN+(j+i)) = .nil→∃ E t,b = .row E t [])
theorem ef.shift{pre bx:List Nat}{j n:Nat}{x:Nm}(h:ef A' env1 h1 env' w1 bx (j+pre.length) n x):ef A' env1 h1 env' w1 (pre++bx) j n x:=by
 obtain⟨i,b,b0,g1,g2,g3,g4,g5,g6,g7⟩:=h
 rw[show j+pre.length+i=j+(pre.length+i) from by omega] at g4 g6 g7
 exact⟨pre.length+i,b,b0,by rw[List.getElem?_append_right (by omega),Nat.add_sub_cancel_left];exact g1,g2,g3,g4,g5,g6,g7⟩
theorem ef.grow{bx post:List Nat}{j n:Nat}{x:Nm}(h:ef A' env1 h1 env' w1 bx j n x):ef A' env1 h1 env' w1 (bx++post) j n x:=by
 obtain⟨i,b,b0,g1,g2⟩:=h
 exact⟨i,b,b0,by rw[List.getElem?_append_left (List.getElem?_eq_some_iff.1 g1).1];exact g1,g2⟩
theorem nk{al:Bool}:∀(o:OT)(cs:List SV) {x},cr h1 al o none cs=some x->o.nb=0
 | .dat t,_,_,_=>rfl
 | .row _ t,_,_,_=>rfl
 | .rowg _ t,_,_,_=>rfl
 | .fnc _,_,_,_=>rfl
 | .ali,_,_,_=>rfl
 | .hole _,_,_,_=>rfl
 | .ref _ o,cs,x,e=>by obtain⟨j0,m,r,hj,-⟩:=pY e;cases hj
 | .pair a b,cs,x,e=>by
  simp only[cr] at e
  split at e
  ·rename_i h1'
   split at e
   ·rename_i h2'
    have k1:=nk a _ h1'
    have k2:=nk b _ h2'
    simp only[OT.nb];omega
   ·cases e
  ·cases e
theorem wv{al:Bool}{j:Option Nat}{svs:List SV} {x} (e:cr h1 al .ali j svs=some x):∃ r,svs = .ptr PN 0::r/\al=true/\x=((),r,[],[]):=by
 cases svs with
 | nil=>cases e
 | cons s r =>
  cases s with
  | ptr m off=>cases off with
   | zero =>
    have e:(match (generalizing:=false) al,Nat.beq m PN with|true,true=>(some ((),r,[],[]):Option (Unit×List SV×List (Nat×Nm)×List (Option Nat)))|_,_=>none)=some x:=by
     cases j <;> exact e
    cases hb:Nat.beq m PN with
    | false=>rw[hb] at e;cases al <;> cases e
    | true =>
     rw[hb] at e
     cases al with
     | false=>cases e
     | true =>
      simp only[Option.some.injEq] at e
      exact⟨r,by rw[Nat.eq_of_beq_eq_true hb],rfl,e.symm⟩
   | succ k=>cases e
  | _=>cases e
theorem vC{al:Bool}{i:Nat}{j:Option Nat}{svs:List SV}{x:SV}{rest:List SV}{fz:List (Nat×Nm)}{ow:List (Option Nat)}(e:cr h1 al (.hole i) j svs=some (x,rest,fz,ow)):∃ r,svs = .hv (HN+i) x::r/\rest=r/\fz=[]/\ow=[]:=by
 cases svs with
 | nil=>cases e
 | cons s r =>
  cases s <;> first|cases e;done|skip
  rename_i m s
  simp only[cr] at e
  split at e
  ·rename_i hb
   simp only[Option.some.injEq,Prod.mk.injEq] at e
   obtain⟨rfl,rfl,rfl,rfl⟩:=e
   exact⟨r,by rw[Nat.eq_of_beq_eq_true hb],rfl,rfl,rfl⟩
  ·cases e
theorem iy{al:Bool}{Nc:bg}(m1:ai w Nc A1 env1 h1 w1)(hA:∀ b,A1 b->A2 b)(b0:Nat):∀(o:OT)(j:Option Nat)(cs:List SV)(vs:List Value)(x:o.X)(rest:List SV)(fz:List (Nat×Nm))(ow:List (Option Nat))(bx more:List Nat)(n:Nat),
  cr h1 al o j cs=some (x,rest,fz,ow)->ab A1 env1 w1 cs vs->(∀ k,bB env1 fz k->A2 k)->(o.plain=true∨∀ b,A2 b->A' b)->(j=none∨bx.length=o.nb) →
  dF h1 fz/\ow.length=o.nr∧∃ us rs,vs=us++rs/\ab A1 env1 w1 rest rs ∧
   ((∀ i∈o.hx,∀ v s,env1 (HN+i) = .val v s->aa A' env' w1 s v)->(al=true->env' b0=env1 PN)->(∀ k q,ow[k]? = some q->env' (n+k)=de env1 q)->(∀ j0 k q,j=some j0->bx[k]? = some q->env' q=env1 (PN+(j0+k))) →
     ab A' env' w1 (cL b0 o x (bx++more) n) us/\bQ A' env1 h1 env' w1 ow (fc o x n) n/\(∀ q y,(q,y)∈cC b0 o x (bx++more) n→∃ j0,j=some j0/\ef A' env1 h1 env' w1 bx j0 q y) ∧
     (j≠none→∀ q,q∈bx->q∈(cC b0 o x (bx++more) n).map (·.1)))
 | .dat t,j,cs,vs,x,rest,fz,ow,bx,more,n,e,hd,hF,L,hbl=>by
  simp only[cr] at e
  split at e
  ·rename_i x1 r1 f1 q1 hp
   simp only[Option.some.injEq,Prod.mk.injEq] at e
   obtain⟨rfl,rfl,rfl,rfl⟩:=e
   obtain⟨p1,p2,p3,p4,p5⟩:=fk m1 t cs vs x1 r1 f1 _ hp hd hA hF
   refine⟨p1,rfl,vs.take t.size,vs.drop t.size,(List.take_append_drop _ _).symm,p5,fun _ _ _ _=>⟨?_,trivial,fun q y hh=>by simp[cC] at hh,fun hj q hq=>?_⟩⟩
   ·simp only[cL]
    refine kS (by rw[List.length_take];omega) (lI L ?_)
    refine bG (fun _ h=>h) (fun _ _ _=>rfl) t _ _ _ _ (fun k hk=>?_) p4
    simp only[Nat.zero_add,List.getElem?_take]
    rw[if_pos hk]
   ·rcases hbl with hbl|hbl
    ·exact absurd hbl hj
    ·rw[List.length_eq_zero_iff.1 hbl] at hq;cases hq
  ·cases e
 | .row E t,j,cs,vs,x,rest,fz,ow,bx,more,n,e,hd,hF,L,hbl=>by
  simp only[cr] at e
  split at e
  ·rename_i x1 r1 o1 hp
   simp only[Option.some.injEq,Prod.mk.injEq] at e
   obtain⟨rfl,rfl,rfl,rfl⟩:=e
   obtain⟨v,vr,rfl,-,p2,p3⟩:=rS (A':=A') m1 hA L hp hd
   refine⟨fun n b hh=>by simp at hh,rfl,[v],vr,rfl,p2,fun _ _ ho _=>?_⟩
   obtain⟨k1,k2⟩:=p3 env' n (ho 0 _ rfl)
   refine⟨?_,k2,fun q y hh=>by simp[cC] at hh,fun hj q hq=>?_⟩
   ·simp only[cL,ab];exact⟨v,[],rfl,k1,rfl⟩
   ·rcases hbl with hbl|hbl
    ·exact absurd hbl hj
    ·rw[List.length_eq_zero_iff.1 hbl] at hq;cases hq
  ·cases e
 | .rowg E t,j,cs0,vs,x,rest,fz,ow,bx,more,n,e,hd,hF,L,hbl=>by
  obtain⟨v,cs,rfl⟩:=yM e
  simp only[cr,Option.some.injEq,Prod.mk.injEq] at e
  obtain⟨-,rfl,rfl,rfl⟩:=e
  simp only[ab] at hd
  obtain⟨u,vr,rfl,hu,hvr⟩:=hd
  refine⟨fun n b hh=>by simp at hh,rfl,[u],vr,rfl,hvr,fun _ _ ho _=>⟨?_,trivial,fun q y hh=>by simp[cC] at hh,fun hj q hq=>?_⟩⟩
  ·simp only[cL,ab,aa];exact⟨u,[],rfl,trivial,rfl⟩
  ·rcases hbl with hbl|hbl
   ·exact absurd hbl hj
   ·rw[List.length_eq_zero_iff.1 hbl] at hq;cases hq
 | .fnc f,j,cs0,vs,x,rest,fz,ow,bx,more,n,e,hd,hF,L,hbl=>by
  obtain⟨cs,rfl,e2⟩:=vZ e
  simp only[Prod.mk.injEq] at e2
  obtain⟨-,rfl,rfl,rfl⟩:=e2
  simp only[ab] at hd
  obtain⟨u,vr,rfl,hu,hvr⟩:=hd
  refine⟨fun n b hh=>by simp at hh,rfl,[u],vr,rfl,hvr,fun _ _ ho _=>⟨?_,trivial,fun q y hh=>by simp[cC] at hh,fun hj q hq=>?_⟩⟩
  ·simp only[cL,ab]
   simp only[aa,ab] at hu
   refine⟨u,[],rfl,?_,rfl⟩
   simp only[aa,ab]
   exact hu
  ·rcases hbl with hbl|hbl
   ·exact absurd hbl hj
   ·rw[List.length_eq_zero_iff.1 hbl] at hq;cases hq
 | .ali,j,cs0,vs,x,rest,fz,ow,bx,more,n,e,hd,hF,L,hbl=>by
  obtain⟨cs,rfl,hj0,e2⟩:=wv e
  simp only[Prod.mk.injEq] at e2
  obtain⟨-,rfl,rfl,rfl⟩:=e2
  simp only[ab,aa] at hd
  obtain⟨u,vr,rfl,⟨k,len,hek,rfl⟩,hvr⟩:=hd
  refine⟨fun n b hh=>by simp at hh,rfl,[_],vr,rfl,hvr,fun _ hb0 ho _=>⟨?_,trivial,fun q y hh=>by simp[cC] at hh,fun hj q hq=>?_⟩⟩
  ·simp only[cL,ab,aa]
   exact⟨_,[],rfl,⟨k,len,by rw[hb0 hj0];exact hek,rfl⟩,rfl⟩
  ·rcases hbl with hbl|hbl
   ·exact absurd hbl hj
   ·rw[List.length_eq_zero_iff.1 hbl] at hq;cases hq
 | .hole i0,j,cs0,vs,x,rest,fz,ow,bx,more,n,e,hd,hF,L,hbl=>by
  obtain⟨cs,rfl,rfl,rfl,rfl⟩:=vC e
  simp only[ab,aa] at hd
  obtain⟨u,vr,rfl,⟨hu,_⟩,hvr⟩:=hd
  refine⟨fun n b hh=>by simp at hh,rfl,[u],vr,rfl,hvr,fun hH _ ho _=>⟨?_,trivial,fun q y hh=>by simp[cC] at hh,fun hj q hq=>?_⟩⟩
  ·simp only[cL,ab]
   exact⟨u,[],rfl,hH i0 (List.mem_singleton.2 rfl) _ _ hu,rfl⟩
  ·rcases hbl with hbl|hbl
   ·exact absurd hbl hj
   ·rw[List.length_eq_zero_iff.1 hbl] at hq;cases hq
 | .ref E o,j,cs0,vs,x,rest,fz,ow,bx,more,n,e,hd,hF,L,hbl=>by
  obtain⟨j0,m,cs,rfl,rfl⟩:=pY e
  simp only[cr] at e
  split at e
  ·rename_i E' cs' hm hl
   have hm:=Nat.eq_of_beq_eq_true hm
   subst hm
   split at e
   ·rename_i x1 f1 w1' hE hp
    have hE:=Nat.eq_of_beq_eq_true hE
    subst hE
    simp only[Option.some.injEq,Prod.mk.injEq] at e
    obtain⟨rfl,rfl,rfl,rfl⟩:=e
    simp only[ab,aa] at hd
    obtain⟨u,vr,rfl,⟨kb,lb,hkb,rfl⟩,hvr⟩:=hd
    obtain⟨⟨us,hus,hdu⟩,_⟩:=m1.live_blk hl hkb
    cases bx with
    | nil=>rcases hbl with hbl|hbl <;> cases hbl
    | cons q0 bx =>
    have hbl':bx.length=o.nb:=by
     rcases hbl with hbl|hbl
     ·cases hbl
     ·simpa[OT.nb] using hbl
    obtain⟨s1,s2,us',rs',s5,s6,s7⟩:=iy m1 hA b0 o (some (j0+1)) cs' us.toList x1 [] f1 w1' bx more n hp hdu hF L (.inr hbl')
    simp only[ab] at s6
    subst s6
    rw[List.append_nil] at s5
    subst s5
    refine⟨s1,s2,[_],vr,rfl,hvr,fun hH h0b ho hb=>?_⟩
    have h0:=hb j0 0 q0 rfl rfl
    rw[Nat.add_zero] at h0
    obtain⟨k1,k2,k3,k4⟩:=s7 hH h0b ho (fun j1 k q hj hq=>by
     cases hj
     have:=hb j0 (k+1) q rfl (by simpa using hq)
     rwa [show j0+(k+1)=j0+1+k from by omega] at this)
    refine⟨?_,k2,fun q y hh=>?_,fun _ q hq=>?_⟩
    ·simp only[cL,List.cons_append,ab,aa]
     exact⟨_,[],rfl,⟨kb,lb,by rw[h0];exact hkb,rfl⟩,rfl⟩
    ·simp only[cC,List.cons_append] at hh
     rcases List.mem_cons.1 hh with hh|hh
     ·cases hh
      refine⟨j0,rfl,0,_,_,rfl,rfl,rfl,hl,rfl,fun k len he=>?_,fun he=>?_⟩
      ·rw[Nat.add_zero,hkb] at he;cases he
       exact⟨us,hus,k1⟩
      ·rw[Nat.add_zero,hkb] at he;cases he
     ·obtain⟨j1,hj1,hbx⟩:=k3 q y hh
      cases hj1
      exact⟨j0,rfl,ef.shift (pre:=[q0]) hbx⟩
    ·simp only[cC,List.cons_append,List.map_cons]
     rcases List.mem_cons.1 hq with rfl|hq
     ·exact List.mem_cons_self ..
     ·exact List.mem_cons_of_mem _ (k4 (by simp) q hq)
   ·cases e
  ·cases e
 | .pair a b,j,cs,vs,x,rest,fz,ow,bx,more,n,e,hd,hF,L,hbl=>by
  simp only[cr] at e
  split at e
  ·rename_i x1 r1 f1 o1 h1'
   split at e
   ·rename_i x2 r2 f2 o2 h2'
    simp only[Option.some.injEq,Prod.mk.injEq] at e
    obtain⟨rfl,rfl,rfl,rfl⟩:=e
    have hF1:∀ k,bB env1 f1 k->A2 k:=fun k ⟨n,x,l,hx,he⟩=>hF k ⟨n,x,l,List.mem_append_left _ hx,he⟩
    have hF2:∀ k,bB env1 f2 k->A2 k:=fun k ⟨n,x,l,hx,he⟩=>hF k ⟨n,x,l,List.mem_append_right _ hx,he⟩
    have La:a.plain=true∨∀ b,A2 b->A' b:=iF (c:=true) L
    have Lb:b.plain=true∨∀ b,A2 b->A' b:=ib L
    have hla:j=none∨(bx.take a.nb).length=a.nb:=by
     rcases hbl with hbl|hbl
     ·exact .inl hbl
     ·simp only[OT.nb] at hbl
      exact .inr (by rw[List.length_take];omega)
    have hlb:j.map (· + a.nb)=none∨(bx.drop a.nb).length=b.nb:=by
     rcases hbl with hbl|hbl
     ·exact .inl (by rw[hbl];rfl)
     ·simp only[OT.nb] at hbl
      exact .inr (by rw[List.length_drop];omega)
    obtain⟨s1,s2,us,rs,rfl,s6,s7⟩:=iy m1 hA b0 a j cs vs x1 r1 f1 o1 (bx.take a.nb) (bx.drop a.nb++more) n h1' hd hF1 La hla
    obtain⟨t1,t2,us',rs',rfl,t6,t7⟩:=iy m1 hA b0 b (j.map (· + a.nb)) r1 rs x2 r2 f2 o2 (bx.drop a.nb) more (n+a.nr) h2' s6 hF2 Lb hlb
    refine⟨fun n b hh=>?_,by simp only[List.length_append,s2,t2,OT.nr],us++us',rs',by rw[List.append_assoc],t6,fun hH h0b ho hb=>?_⟩
    ·rcases List.mem_append.1 hh with hh|hh
     ·exact s1 n b hh
     ·exact t1 n b hh
    have eb:bx.take a.nb++(bx.drop a.nb++more)=bx++more:=by rw[← List.append_assoc,List.take_append_drop]
    obtain⟨k1,k2,k3,k4⟩:=s7 (fun i hi=>hH i (List.mem_append_left _ hi)) h0b (fun k q hq=>ho k q (by rw[List.getElem?_append_left (List.getElem?_eq_some_iff.1 hq).1];exact hq))
     (fun j0 k q hj hq=>by
      refine hb j0 k q hj ?_
      rw[List.getElem?_take] at hq
      split at hq
      ·exact hq
      ·cases hq)
    obtain⟨l1,l2,l3,l4⟩:=t7 (fun i hi=>hH i (List.mem_append_right _ hi)) h0b (fun k q hq=>by
      have:=ho (a.nr+k) q (by rw[List.getElem?_append_right (by omega),s2,Nat.add_sub_cancel_left];exact hq)
      rwa [show n+(a.nr+k)=n+a.nr+k from by omega] at this)
     (fun j1 k q hj hq=>by
      cases j with
      | none=>cases hj
      | some j0 =>
       simp only[Option.map_some,Option.some.injEq] at hj
       subst hj
       rw[List.getElem?_drop] at hq
       have:=hb j0 (a.nb+k) q rfl hq
       rwa [show j0+(a.nb+k)=j0+a.nb+k from by omega] at this)
    rw[eb] at k1 k3 k4
    have ed:(bx++more).drop a.nb=bx.drop a.nb++more:=by
     rcases hbl with hbl|hbl
     ·subst hbl
      rw[nk a _ h1',List.drop_zero,List.drop_zero]
     ·simp only[OT.nb] at hbl
      rw[List.drop_append_of_le_length (by omega)]
    have tl:∀ j0,j=some j0->(bx.take a.nb).length=a.nb:=fun j0 hj=>by
     rcases hla with h|h
     ·rw[hj] at h;cases h
     ·exact h
    rw[← ed] at l1 l3 l4
    simp only[cL,cC,fc]
    refine⟨fI k1 l1,k2.append (by rw[s2];exact l2),fun q y hh=>?_,fun hj q hq=>?_⟩
    ·rcases List.mem_append.1 hh with hh|hh
     ·obtain⟨j0,hj,hx⟩:=k3 q y hh
      refine⟨j0,hj,?_⟩
      have:=hx.grow (post:=bx.drop a.nb)
      rwa [List.take_append_drop] at this
     ·obtain⟨j1,hj1,hx⟩:=l3 q y hh
      cases j with
      | none=>cases hj1
      | some j0 =>
       simp only[Option.map_some,Option.some.injEq] at hj1
       subst hj1
       refine⟨j0,rfl,?_⟩
       have:=ef.shift (pre:=bx.take a.nb) (bx:=bx.drop a.nb) (j:=j0) (n:=q) (x:=y) (by rw[tl j0 rfl];exact hx)
       rwa [List.take_append_drop] at this
    ·rw[List.map_append]
     rw[← List.take_append_drop a.nb bx] at hq
     rcases List.mem_append.1 hq with hq|hq
     ·exact List.mem_append_left _ (k4 hj q hq)
     ·exact List.mem_append_right _ (l4 (by cases j with|none=>exact absurd rfl hj|some j0=>simp) q hq)
   ·cases e
  ·cases e
theorem kO{b0:Nat}:∀{o:OT}{x:o.X}{bx more:List Nat}{n:Nat},bx.length=o.nb→∀ q,q∈bx->q∈(cC b0 o x (bx++more) n).map (·.1)
 | .dat _,x,bx,more,n,hl,q,hq=>by rw[List.length_eq_zero_iff.1 hl] at hq;cases hq
 | .row _ _,x,bx,more,n,hl,q,hq=>by rw[List.length_eq_zero_iff.1 hl] at hq;cases hq
 | .rowg _ _,x,bx,more,n,hl,q,hq=>by rw[List.length_eq_zero_iff.1 hl] at hq;cases hq
 | .fnc _,x,bx,more,n,hl,q,hq=>by rw[List.length_eq_zero_iff.1 hl] at hq;cases hq
 | .ali,x,bx,more,n,hl,q,hq=>by rw[List.length_eq_zero_iff.1 hl] at hq;cases hq
 | .hole _,x,bx,more,n,hl,q,hq=>by rw[List.length_eq_zero_iff.1 hl] at hq;cases hq
 | .ref E o,x,[],more,n,hl,q,hq=>by cases hq
 | .ref E o,x,q0::bx,more,n,hl,q,hq=>by
  simp only[List.cons_append,cC,List.map_cons]
  rcases List.mem_cons.1 hq with rfl|hq
  ·exact List.mem_cons_self ..
  ·exact List.mem_cons_of_mem _ (kO (o:=o) (by simpa[OT.nb] using hl) q hq)
 | .pair a b,x,bx,more,n,hl,q,hq=>by
  simp only[OT.nb] at hl
  simp only[cC,List.map_append]
  rw[← List.take_append_drop a.nb bx] at hq
  have e1:bx++more=bx.take a.nb++(bx.drop a.nb++more):=by rw[← List.append_assoc,List.take_append_drop]
  rcases List.mem_append.1 hq with hq|hq
  ·refine List.mem_append_left _ ?_
   rw[e1]
   exact kO (o:=a) (by rw[List.length_take];omega) q hq
  ·refine List.mem_append_right _ ?_
   rw[List.drop_append_of_le_length (by omega)]
   exact kO (o:=b) (by rw[List.length_drop];omega) q hq
theorem hO{al:Bool}{Nc:bg}(m1:ai w Nc A1 env1 h1 w1)(hA:∀ b,A1 b->A2 b)(b0:Nat):∀(rs:List RK)(d:b7 rs)(svs:List SV)(vs:List Value)(fz:List (Nat×Nm))(ow:List (Option Nat))(n:Nat),
  c7 al rs svs h1=some (d,fz,ow)->ab A1 env1 w1 svs vs->(∀ k,bB env1 fz k->A2 k)->(fD rs=true∨∀ b,A2 b->A' b)->gw rs=[] →
  dF h1 fz/\ow.length=br rs/\((al=true->env' b0=env1 PN)->(∀ i o,ow[i]? = some o->env' (n+i)=de env1 o)->ab A' env' w1 (cu b0 rs d n) vs/\bQ A' env1 h1 env' w1 ow (cK b0 rs d n) n)
 | [],d,[],vs,fz,ow,n,e,hd,hF,L,hx=>by
  simp only[c7,Option.some.injEq,Prod.mk.injEq] at e
  obtain⟨-,rfl,rfl⟩:=e
  exact⟨fun n b hh=>by simp at hh,rfl,fun _ _=>⟨by simpa[cu,ab] using hd,trivial⟩⟩
 | .val t::rs,d,v::svs,vs,fz,ow,n,e,hd,hF,L,hx=>by
  simp only[c7] at e
  split at e
  ·rename_i x f1 q hp
   split at e
   ·rename_i ps f2 o hr
    simp only[Option.some.injEq,Prod.mk.injEq] at e
    obtain⟨rfl,rfl,rfl⟩:=e
    simp only[ab] at hd
    obtain⟨u,vr,rfl,hu,hvr⟩:=hd
    have hF1:∀ k,bB env1 f1 k->A2 k:=fun k ⟨n,x,l,hx,he⟩=>hF k ⟨n,x,l,List.mem_append_left _ hx,he⟩
    have hF2:∀ k,bB env1 f2 k->A2 k:=fun k ⟨n,x,l,hx,he⟩=>hF k ⟨n,x,l,List.mem_append_right _ hx,he⟩
    obtain⟨p1,_,p3,p4,_⟩:=fk m1 t [v] [u] x [] f1 _ hp (by simp only[ab];exact⟨u,[],rfl,hu,rfl⟩) hA hF1
    obtain⟨s1,s2,s3⟩:=hO m1 hA b0 rs ps svs vr f2 o n hr hvr hF2 (ib L) hx
    refine⟨fun n b hh=>?_,s2,fun hal he=>?_⟩
    ·rcases List.mem_append.1 hh with hh|hh
     ·exact p1 n b hh
     ·exact s1 n b hh
    ·obtain⟨k1,k2⟩:=s3 hal he
     refine⟨?_,k2⟩
     simp only[cu,ab]
     exact⟨u,vr,rfl,oC (rest:=[]) (lI (iF (c:=true) L) p4),k1⟩
   ·cases e
  ·cases e
 | .agg t::rs,d,svs0,vs,fz,ow,n,e,hd,hF,L,hx=>by
  obtain⟨cs,svs,rfl⟩:=Ae e
  simp only[c7] at e
  split at e
  ·rename_i x f1 w' hp
   split at e
   ·rename_i ps f2 o hr
    simp only[Option.some.injEq,Prod.mk.injEq] at e
    obtain⟨rfl,rfl,rfl⟩:=e
    simp only[ab,aa] at hd
    obtain⟨u,vr,rfl,⟨us,rfl,hu⟩,hvr⟩:=hd
    have hF1:∀ k,bB env1 f1 k->A2 k:=fun k ⟨n,x,l,hx,he⟩=>hF k ⟨n,x,l,List.mem_append_left _ hx,he⟩
    have hF2:∀ k,bB env1 f2 k->A2 k:=fun k ⟨n,x,l,hx,he⟩=>hF k ⟨n,x,l,List.mem_append_right _ hx,he⟩
    obtain⟨p1,p2,us',rs',p3,p4,p5⟩:=iy (env':=env') m1 hA b0 t none cs us.toList x [] f1 w' [] [] n hp hu hF1 (iF (c:=true) L) (.inl rfl)
    simp only[ab] at p4
    subst p4
    rw[List.append_nil] at p3
    subst p3
    obtain⟨s1,s2,s3⟩:=hO m1 hA b0 rs ps svs vr f2 o (n+t.nr) hr hvr hF2 (ib L) (List.append_eq_nil_iff.1 hx).2
    refine⟨fun n b hh=>?_,by simp only[List.length_append,p2,s2,br];omega,fun hal he=>?_⟩
    ·rcases List.mem_append.1 hh with hh|hh
     ·exact p1 n b hh
     ·exact s1 n b hh
    ·obtain⟨l1,l2,_⟩:=p5 (fun i hi=>by rw[(List.append_eq_nil_iff.1 hx).1] at hi;cases hi) hal (fun k q hq=>he k q (by rw[List.getElem?_append_left (List.getElem?_eq_some_iff.1 hq).1];exact hq)) (fun j0 k q hj _=>by cases hj)
     obtain⟨k1,k2⟩:=s3 hal (fun k q hq=>by
      have:=he (t.nr+k) q (by rw[List.getElem?_append_right (by omega),p2,Nat.add_sub_cancel_left];exact hq)
      rwa [show n+(t.nr+k)=n+t.nr+k from by omega] at this)
     simp only[cu,cK,ab,aa]
     exact⟨⟨_,vr,rfl,⟨us,rfl,l1⟩,k1⟩,l2.append (by rw[p2];exact k2)⟩
   ·cases e
  ·cases e
 | .own E t::rs,d,svs0,vs,fz,ow,n,e,hd,hF,L,hx=>by
  obtain⟨v,svs,rfl⟩:=w6 e
  simp only[c7] at e
  split at e
  ·rename_i x r1 w' hp
   split at e
   ·rename_i ps f2 o hr
    simp only[Option.some.injEq,Prod.mk.injEq] at e
    obtain⟨rfl,rfl,rfl⟩:=e
    simp only[ab] at hd
    obtain⟨u,vr,rfl,hu,hvr⟩:=hd
    obtain⟨v',vr',p1,-,-,p3⟩:=rS (A':=A') m1 hA (iF (c:=true) L) hp (vs:=[u]) (by simp only[ab];exact⟨u,[],rfl,hu,rfl⟩)
    cases p1
    obtain⟨s1,s2,s3⟩:=hO m1 hA b0 rs ps svs vr f2 o (n+1) hr hvr hF (ib L) hx
    refine⟨s1,by simp only[List.length_cons,s2,br],fun hal he=>?_⟩
    obtain⟨l1,l2⟩:=p3 env' n (he 0 _ rfl)
    obtain⟨k1,k2⟩:=s3 hal (fun k q hq=>by have:=he (k+1) q (by simpa using hq);rwa [show n+(k+1)=n+1+k from by omega] at this)
    simp only[cu,cK,ab]
    exact⟨⟨u,vr,rfl,l1,k1⟩,l2.1,k2⟩
   ·cases e
  ·cases e
 | .box E t::rs,d,svs0,vs,fz,ow,n,e,hd,hF,L,hx=>by
  obtain⟨q,svs,rfl⟩:=wY e
  simp only[c7] at e
  split at e
  ·rename_i E' cs hl
   split at e
   ·rename_i x f1 w' hE hp
    have hE:=Nat.eq_of_beq_eq_true hE
    subst hE
    split at e
    ·rename_i ps f2 o hr
     simp only[Option.some.injEq,Prod.mk.injEq] at e
     obtain⟨rfl,rfl,rfl⟩:=e
     simp only[ab,aa] at hd
     obtain⟨u,vr,rfl,⟨kb,lb,hkb,rfl⟩,hvr⟩:=hd
     obtain⟨⟨us,hus,hdu⟩,_⟩:=m1.live_blk hl hkb
     have hF1:∀ k,bB env1 f1 k->A2 k:=fun k ⟨n,x,l,hx,he⟩=>hF k ⟨n,x,l,List.mem_append_left _ hx,he⟩
     have hF2:∀ k,bB env1 f2 k->A2 k:=fun k ⟨n,x,l,hx,he⟩=>hF k ⟨n,x,l,List.mem_append_right _ hx,he⟩
     obtain⟨p1,p2,us',rs',p3,p4,p5⟩:=iy (env':=env') m1 hA b0 t none cs us.toList x [] f1 w' [] [] (n+1) hp hdu hF1 (iF (c:=true) L) (.inl rfl)
     simp only[ab] at p4
     subst p4
     rw[List.append_nil] at p3
     subst p3
     obtain⟨s1,s2,s3⟩:=hO m1 hA b0 rs ps svs vr f2 o (n+1+t.nr) hr hvr hF2 (ib L) (List.append_eq_nil_iff.1 hx).2
     refine⟨fun n b hh=>?_,by simp only[List.length_cons,List.length_append,p2,s2,br];omega,fun hal he=>?_⟩
     ·rcases List.mem_append.1 hh with hh|hh
      ·exact p1 n b hh
      ·exact s1 n b hh
     ·have h0:=he 0 (some q) rfl
      simp only[Nat.add_zero,de] at h0
      have he':∀ k q',(w'++o)[k]? = some q'→env' (n+1+k)=de env1 q':=fun k q' hq=>by
       have:=he (k+1) q' (by simpa using hq);rwa [show n+(k+1)=n+1+k from by omega] at this
      obtain⟨l1,l2,_⟩:=p5 (fun i hi=>by rw[(List.append_eq_nil_iff.1 hx).1] at hi;cases hi) hal (fun k q hq=>he' k q (by rw[List.getElem?_append_left (List.getElem?_eq_some_iff.1 hq).1];exact hq)) (fun j0 k q hj _=>by cases hj)
      obtain⟨k1,k2⟩:=s3 hal (fun k q hq=>by
       have:=he' (t.nr+k) q (by rw[List.getElem?_append_right (by omega),p2,Nat.add_sub_cancel_left];exact hq)
       rwa [show n+1+(t.nr+k)=n+1+t.nr+k from by omega] at this)
      simp only[cu,cK,ab,aa]
      refine⟨⟨_,vr,rfl,⟨kb,lb,by rw[h0];exact hkb,rfl⟩,k1⟩,⟨rfl,_,rfl,rfl,.inl ⟨q,_,rfl,hl,rfl,fun k len hk=>?_,fun hk=>?_⟩⟩,l2.append (by rw[p2];exact k2)⟩
      ·rw[hkb] at hk;cases hk
       exact⟨us,hus,l1⟩
      ·rw[hkb] at hk;cases hk
    ·cases e
   ·cases e
  ·cases e
 | .fn f k::rs,d,svs0,vs,fz,ow,n,e,hd,hF,L,hx=>by
  obtain⟨g,cs,svs,rfl⟩:=yW e
  simp only[c7] at e
  split at e
  ·rename_i hf hk
   have hf:=Nat.eq_of_beq_eq_true hf
   have hk:=Nat.eq_of_beq_eq_true hk
   subst hf
   split at e
   ·rename_i ps f2 o hr
    simp only[Option.some.injEq,Prod.mk.injEq] at e
    obtain⟨rfl,rfl,rfl⟩:=e
    simp only[ab,aa] at hd
    obtain⟨x,vr,rfl,⟨us,rfl,hu⟩,hvr⟩:=hd
    have hul:=bP hu
    obtain⟨s1,s2,s3⟩:=hO m1 hA b0 rs ps (cs++svs) (us.toList++vr) f2 o n hr (fI hu hvr) hF L hx
    refine⟨s1,s2,fun hal he=>?_⟩
    obtain⟨k1,k2⟩:=s3 hal he
    refine⟨?_,k2⟩
    simp only[cu,ab,aa]
    refine⟨_,vr,rfl,⟨us,rfl,?_⟩,?_⟩
    ·have:=ks k k1
     rwa [List.take_left' (by omega)] at this
    ·have:=ky k k1
     rwa [List.drop_left' (by omega)] at this
   ·cases e
  ·cases e
 | [],_,_::_,_,_,_,_,e,_,_,_,_=>by cases e
 | .val _::_,_,[],_,_,_,_,e,_,_,_,_=>by cases e
def bV:List PK->Nat
 | []=>0
 | .val _::r=>bV r
 | .agg _::r=>bV r
 | .own _ _::r=>bV r
 | .ago _::r=>bV r
 | .fn _ _::r=>bV r
 | .nils::r=>bV r
 | .box _ o::r=>o.nb+bV r+1
 | .row _ _::r=>bV r+1
theorem kZ:∀{o:OT}{d:o.D}{j i:Nat},(fh o d j i).length=o.nb
 | .dat _,_,_,_=>rfl
 | .row _ _,_,_,_=>rfl
 | .rowg _ _,_,_,_=>rfl
 | .fnc _,_,_,_=>rfl
 | .ali,_,_,_=>rfl
 | .hole _,_,_,_=>rfl
 | .ref _ o,d,j,i=>by simp only[fh,List.length_cons,kZ (o:=o),OT.nb]
 | .pair a b,d,j,i=>by simp only[fh,List.length_append,kZ (o:=a),kZ (o:=b),OT.nb]
theorem gk:∀{ps:List PK}{d:aA ps}{j i:Nat},(eI ps d j i).length=bV ps
 | [],_,_,_=>rfl
 | .val t::ps,d,j,i=>gk (ps:=ps)
 | .agg t::ps,d,j,i=>gk (ps:=ps)
 | .own _ t::ps,d,j,i=>gk (ps:=ps)
 | .ago _::ps,d,j,i=>gk (ps:=ps)
 | .fn _ _::ps,d,j,i=>gk (ps:=ps)
 | .nils::ps,d,j,i=>gk (ps:=ps)
 | .box E o::ps,d,j,i=>by simp only[eI,List.length_cons,List.length_append,kZ,gk (ps:=ps),bV]
 | .row E t::ps,d,j,i=>by simp only[eI,List.length_cons,gk (ps:=ps),bV]
theorem fU{Nc:bg}(m1:ai w Nc A1 env1 h1 w1)(hA:∀ b,A1 b->A2 b)(b0:Nat):∀(ps:List PK)(d:bo ps)(fz:List (Nat×Nm))(ow:List (Option Nat))(bx:List Nat)(j n:Nat),
  cG ps j h1=some (d,fz,ow)->(∀ k,bB env1 fz k->A2 k)->(cV ps=true∨∀ b,A2 b->A' b)->bx.length=bV ps →
  dF h1 fz/\ow.length=bZ ps/\((∀ i∈cy ps,∀ v s,env1 (HN+i) = .val v s->aa A' env' w1 s v)->(bx≠[]->env' b0=env1 PN)->(∀ k q,ow[k]? = some q->env' (n+k)=de env1 q)->(∀ k q,bx[k]? = some q->env' q=env1 (PN+(j+k))) →
   bQ A' env1 h1 env' w1 ow (bI ps d n) n/\(∀ q x,(q,x)∈bp b0 ps d bx n->ef A' env1 h1 env' w1 bx j q x))∧∀ q,q∈bx->q∈(bp b0 ps d bx n).map (·.1)
 | [],d,fz,ow,bx,j,n,e,hF,L,hl=>by
  simp only[cG,Option.some.injEq,Prod.mk.injEq] at e
  obtain⟨-,rfl,rfl⟩:=e
  simp only[bV,List.length_eq_zero_iff] at hl
  subst hl
  exact⟨fun n b hh=>by simp at hh,rfl,fun _ _ _ _=>⟨trivial,fun q x hh=>by simp[bp] at hh⟩,fun q hh=>by simp at hh⟩
 | .val t::ps,d,fz,ow,bx,j,n,e,hF,L,hl=>by
  simp only[bp,bI,bZ]
  exact fU m1 hA b0 ps d fz ow bx j n (by simpa only[cG] using e) hF (by simpa only[cV] using L) (by simpa only[bV] using hl)
 | .agg t::ps,d,fz,ow,bx,j,n,e,hF,L,hl=>by
  simp only[bp,bI,bZ]
  exact fU m1 hA b0 ps d fz ow bx j n (by simpa only[cG] using e) hF (by simpa only[cV] using L) (by simpa only[bV] using hl)
 | .own _ t::ps,d,fz,ow,bx,j,n,e,hF,L,hl=>by
  simp only[bp,bI,bZ]
  exact fU m1 hA b0 ps d fz ow bx j n (by simpa only[cG] using e) hF (by simpa only[cV] using L) (by simpa only[bV] using hl)
 | .ago _::ps,d,fz,ow,bx,j,n,e,hF,L,hl=>by
  simp only[bp,bI,bZ]
  obtain⟨s1,s2,s3,s4⟩:=fU m1 hA b0 ps d fz ow bx j n (by simpa only[cG] using e) hF (by simpa only[cV] using L) (by simpa only[bV] using hl)
  exact⟨s1,s2,fun hH=>s3 fun i hi=>hH i (List.mem_append_right _ hi),s4⟩
 | .fn _ _::ps,d,fz,ow,bx,j,n,e,hF,L,hl=>by
  simp only[bp,bI,bZ]
  exact fU m1 hA b0 ps d fz ow bx j n (by simpa only[cG] using e) hF (by simpa only[cV] using L) (by simpa only[bV] using hl)
 | .nils::ps,d,fz,ow,bx,j,n,e,hF,L,hl=>by
  simp only[bp,bI,bZ]
  exact fU m1 hA b0 ps d fz ow bx j n (by simpa only[cG] using e) hF (by simpa only[cV] using L) (by simpa only[bV] using hl)
 | .box E o::ps,d,fz,ow,bx,j,n,e,hF,L,hl=>by
  cases bx with
  | nil=>simp[bV] at hl
  | cons n0 bx =>
  simp only[cG] at e
  split at e
  ·rename_i E' cs hlk
   split at e
   ·rename_i x f1 w' hE hp
    have hE:=Nat.eq_of_beq_eq_true hE
    subst hE
    split at e
    ·rename_i ps' f2 ow2 hr
     simp only[Option.some.injEq,Prod.mk.injEq] at e
     obtain⟨rfl,rfl,rfl⟩:=e
     simp only[List.length_cons,bV] at hl
     have hF1:∀ k,bB env1 f1 k->A2 k:=fun k ⟨n,x,l,hx,he⟩=>hF k ⟨n,x,l,List.mem_append_left _ hx,he⟩
     have hF2:∀ k,bB env1 f2 k->A2 k:=fun k ⟨n,x,l,hx,he⟩=>hF k ⟨n,x,l,List.mem_append_right _ hx,he⟩
     have hlt:(bx.take o.nb).length=o.nb:=by rw[List.length_take];omega
     have eb:bx.take o.nb++bx.drop o.nb=bx:=List.take_append_drop ..
     obtain⟨s1,s2,s3,s4⟩:=fU m1 hA b0 ps ps' f2 ow2 (bx.drop o.nb) (j+1+o.nb) (n+o.nr) hr hF2 (ib L) (by rw[List.length_drop];omega)
     have hm:=m1.nm (PN+j)
     rw[hlk] at hm
     have hbd:∃ kb lb us,env1 (PN+j) = .blk kb lb/\w1.heap[kb]? = some (.cells us E (0,0))/\ab A1 env1 w1 cs us.toList:=by
      rcases hm with⟨k',len',he',⟨us,hus,hdu⟩,_⟩|⟨he',_,_,hb|hb⟩
      ·exact⟨k',len',us,he',hus,hdu⟩
      ·cases hb
      ·cases hb
     obtain⟨kb,lb,us,hkb,hus,hdu⟩:=hbd
     obtain⟨p1,p2,us',rs',p3,p4,p5⟩:=iy (al:=true) (env':=env') m1 hA b0 o (some (j+1)) cs us.toList x [] f1 w' (bx.take o.nb) (bx.drop o.nb) n hp hdu hF1 (iF (c:=true) L) (.inr hlt)
     simp only[ab] at p4
     subst p4
     rw[List.append_nil] at p3
     subst p3
     rw[eb] at p5
     refine⟨fun n b hh=>?_,by simp only[List.length_append,p2,s2,bZ];omega,fun hH h0b ho hb=>?_,fun q hq=>?_⟩
     ·rcases List.mem_append.1 hh with hh|hh
      ·exact p1 n b hh
      ·exact s1 n b hh
     ·obtain⟨l1,l2,l3,_⟩:=p5 (fun i hi=>hH i (List.mem_append_left _ hi)) (fun _=>h0b (by simp)) (fun k q hq=>ho k q (by rw[List.getElem?_append_left (List.getElem?_eq_some_iff.1 hq).1];exact hq))
       (fun j0 k q hj hq=>by
        cases hj
        rw[List.getElem?_take] at hq
        split at hq
        ·have:=hb (k+1) q (by simpa using hq)
         rwa [show j+(k+1)=j+1+k from by omega] at this
        ·cases hq)
      obtain⟨k1,k2⟩:=s3 (fun i hi=>hH i (List.mem_append_right _ hi)) (fun _=>h0b (by simp)) (fun k q hq=>by
        have:=ho (o.nr+k) q (by rw[List.getElem?_append_right (by omega),p2,Nat.add_sub_cancel_left];exact hq)
        rwa [show n+(o.nr+k)=n+o.nr+k from by omega] at this)
       (fun k q hq=>by
        rw[List.getElem?_drop] at hq
        have:=hb (o.nb+k+1) q (by simpa using hq)
        rwa [show j+(o.nb+k+1)=j+1+o.nb+k from by omega] at this)
      simp only[bI,bp]
      refine⟨l2.append (by rw[p2];exact k1),fun q y hh=>?_⟩
      rcases List.mem_cons.1 hh with hh|hh
      ·cases hh
       refine⟨0,_,_,rfl,rfl,rfl,hlk,rfl,fun k len he=>?_,fun he=>?_⟩
       ·rw[Nat.add_zero,hkb] at he;cases he
        exact⟨us,hus,l1⟩
       ·rw[Nat.add_zero,hkb] at he;cases he
      ·rcases List.mem_append.1 hh with hh|hh
       ·obtain⟨j0,hj,hx⟩:=l3 q y hh
        cases hj
        have:=(ef.shift (pre:=[n0]) (j:=j) hx).grow (post:=bx.drop o.nb)
        rwa [List.append_assoc,eb] at this
       ·have:=ef.shift (pre:=n0::bx.take o.nb) (bx:=bx.drop o.nb) (j:=j) (n:=q) (x:=y) (by rw[List.length_cons,hlt,show j+(o.nb+1)=j+1+o.nb from by omega];exact k2 q y hh)
        rwa [List.cons_append,eb] at this
     ·simp only[bp,List.map_cons,List.map_append]
      rcases List.mem_cons.1 hq with rfl|hq
      ·exact List.mem_cons_self ..
      ·refine List.mem_cons_of_mem _ ?_
       rw[← eb] at hq
       rcases List.mem_append.1 hq with hq|hq
       ·refine List.mem_append_left _ ?_
        have:=kO (b0:=b0) (o:=o) (x:=x) (n:=n) (more:=bx.drop o.nb) hlt q hq
        rwa [eb] at this
       ·exact List.mem_append_right _ (s4 q hq)
    ·cases e
   ·cases e
  ·cases e
 | .row E t::ps,d,fz,ow,bx,j,n,e,hF,L,hl=>by
  cases bx with
  | nil=>simp[bV] at hl
  | cons n0 bx =>
  simp only[cG] at e
  split at e
  ·rename_i E' t' xs hlk
   split at e
   ·rename_i ys hE hcl
    have hE:=Nat.eq_of_beq_eq_true hE
    subst hE
    obtain⟨et,ez⟩:=bW hcl
    subst et
    simp only at ez
    subst ez
    split at e
    ·rename_i ps' f2 ow2 hr
     simp only[Option.some.injEq,Prod.mk.injEq] at e
     obtain⟨rfl,rfl,rfl⟩:=e
     obtain⟨s1,s2,s3,s4⟩:=fU m1 hA b0 ps ps' f2 ow2 bx (j+1) n hr hF (ib L) (by simpa[bV] using hl)
     have hm:=m1.nm (PN+j)
     rw[hlk] at hm
     refine⟨s1,s2,fun hH h0b ho hb=>?_,fun q hq=>?_⟩
     ·obtain⟨k1,k2⟩:=s3 hH (fun _=>h0b (by simp)) ho (fun k q hq=>by have:=hb (k+1) q (by simpa using hq);rwa [show j+(k+1)=j+1+k from by omega] at this)
      simp only[bI,bp]
      refine⟨k1,fun q y hh=>?_⟩
      rcases List.mem_cons.1 hh with hh|hh
      ·cases hh
       refine⟨0,_,_,rfl,rfl,rfl,hlk,rfl,fun k len he=>?_,fun he=>?_⟩
       ·rcases hm with⟨k',len',he',hb,_⟩|⟨he',_⟩
        ·rw[Nat.add_zero] at he;rw[he] at he';cases he'
         obtain⟨us,cap,g1,g2,g3,g4,g5,g6⟩:=hb
         exact⟨us,cap,g1,g2,g3,g4,g5,fun i hi=>lI (iF (c:=true) L) (bG hA (fun _ _ _=>rfl) _ _ _ _ _ (fun _ _=>rfl) (g6 i hi))⟩
        ·rw[Nat.add_zero] at he;rw[he] at he';cases he'
       ·rcases hm with⟨k',len',he',hb,_⟩|⟨he',E2,t2,hb⟩
        ·rw[Nat.add_zero] at he;rw[he] at he';cases he'
        ·rcases hb with hb|hb <;> cases hb
         exact⟨_,_,rfl⟩
      ·exact ef.shift (pre:=[n0]) (k2 q y hh)
     ·simp only[bp,List.map_cons]
      rcases List.mem_cons.1 hq with rfl|hq
      ·exact List.mem_cons_self ..
      ·exact List.mem_cons_of_mem _ (s4 q hq)
    ·cases e
   ·cases e
  ·cases e
end
end Go.SX

/- SX, part 22: a function's contract, off its symbolic run (the proof). -/
namespace Go.SX
set_option linter.unusedVariables false
def bL:List Nat->Nat->Rn
 | [],_=>[]
 | n::bx,j=>(n,some (PN+j))::bL bx (j+1)
def bS:List (Option Nat)->Nat->Rn
 | [],_=>[]
 | o::r,n=>(n,o)::bS r (n+1)
theorem pl{a b:Rn}{n:Nat}:aH (a++b) n=(match aH a n with|some x=>some x|none=>aH b n):=by
 induction a with
 | nil=>rfl
 | cons p a ih =>
  obtain⟨m,x⟩:=p
  simp only[List.cons_append,dw]
  split
  ·rfl
  ·exact ih
theorem ox:∀{bx:List Nat}{j n:Nat}{y:Option Nat},aH (bL bx j) n=some y→∃ i,bx[i]? = some n/\y=some (PN+(j+i))
 | [],j,n,y,h=>by simp[bL,aH] at h
 | m::bx,j,n,y,h=>by
  simp only[bL,dw] at h
  split at h
  ·rename_i e;cases h;exact⟨0,by simp[e],rfl⟩
  ·obtain⟨i,h1,h2⟩:=ox h
   exact⟨i+1,by simpa using h1,by rw[h2,show j+1+i=j+(i+1) from by omega]⟩
theorem qb:∀{bx:List Nat}{j n i:Nat},bx.Nodup->bx[i]? = some n->aH (bL bx j) n=some (some (PN+(j+i)))
 | [],j,n,i,_,h=>by simp at h
 | m::bx,j,n,0,_,h=>by
  simp at h;subst h
  simp only[bL,dw,if_pos,Nat.add_zero]
 | m::bx,j,n,i+1,hn,h=>by
  have h':bx[i]? = some n:=by simpa using h
  obtain⟨h1,h2⟩:=List.nodup_cons.1 hn
  have hne:n≠m:=fun e=>h1 (e▸List.mem_of_getElem? h')
  simp only[bL,dw,if_neg hne,qb h2 h']
  rw[show j+1+i=j+(i+1) from by omega]
theorem vl{bx:List Nat}{j n:Nat}(h:n ∉ bx):aH (bL bx j) n=none:=by
 cases hl:aH (bL bx j) n with
 | none=>rfl
 | some y=>obtain⟨i,hi,_⟩:=ox hl;exact absurd (List.mem_of_getElem? hi) h
theorem qQ:∀{ow:List (Option Nat)}{n0 n:Nat}{y:Option Nat},aH (bS ow n0) n=some y→∃ i,ow[i]? = some y/\n=n0+i
 | [],n0,n,y,h=>by simp[bS,aH] at h
 | o::ow,n0,n,y,h=>by
  simp only[bS,dw] at h
  split at h
  ·rename_i e;cases h;exact⟨0,by simp,by omega⟩
  ·obtain⟨i,h1,h2⟩:=qQ h
   exact⟨i+1,by simpa using h1,by omega⟩
theorem tm:∀{ow:List (Option Nat)}{n0 i:Nat}{o:Option Nat},ow[i]? = some o->aH (bS ow n0) (n0+i)=some o
 | [],n0,i,o,h=>by simp at h
 | p::ow,n0,0,o,h=>by simp at h;subst h;simp[bS,dw]
 | p::ow,n0,i+1,o,h=>by
  have h':ow[i]? = some o:=by simpa using h
  have:=tm (n0:=n0+1) h'
  simp only[bS,dw,if_neg (show ¬ n0+(i+1)=n0 from by omega)]
  rw[show n0+(i+1)=n0+1+i from by omega];exact this
theorem mW{n:Nat}:∀{l:List (Option Nat)},gN n l=true↔some n∈l
 | []=>by simp[gN]
 | none::r=>by simp[gN,mW (l:=r)]
 | some m::r=>by simp[gN,mW (l:=r)]
theorem nj{fz:List (Nat×Nm)}:∀{ow:List (Option Nat)},iq fz ow=true→∀(i m:Nat),ow[i]? = some (some m)->(m<PN∨QN<=m)/\m ∉ fz.map (·.1)∧∀ i':Nat,ow[i']? = some (some m)->i=i'
 | [],_,i,m,h=>by simp at h
 | none::r,h,i,m,hi=>by
  simp only[iq] at h
  cases i with
  | zero=>simp at hi
  | succ i =>
   obtain⟨h1,h2,h3⟩:=nj h i m (by simpa using hi)
   refine⟨h1,h2,fun i' hi'=>?_⟩
   cases i' with
   | zero=>simp at hi'
   | succ i'=>rw[h3 i' (by simpa using hi')]
 | some q::r,h,i,m,hi=>by
  simp only[iq,Bool.and_eq_true,Bool.or_eq_true,Bool.not_eq_true'] at h
  obtain⟨⟨⟨h1,h2⟩,h3⟩,h4⟩:=h
  have hno:∀ i:Nat,r[i]? ≠ some (some q):=fun i hi=>by
   have:gN q r=true:=mW.2 (List.mem_of_getElem? hi)
   rw[this] at h3;cases h3
  cases i with
  | zero =>
   simp at hi;subst hi
   refine⟨h1.imp (fun h=>Nat.le_of_ble_eq_true h) (fun h=>Nat.le_of_ble_eq_true h),jk h2,fun i' hi'=>?_⟩
   cases i' with
   | zero=>rfl
   | succ i'=>exact absurd (by simpa using hi') (hno i')
  | succ i =>
   obtain⟨g1,g2,g3⟩:=nj h4 i m (by simpa using hi)
   refine⟨g1,g2,fun i' hi'=>?_⟩
   cases i' with
   | zero=>simp at hi';subst hi';exact absurd (by simpa using hi) (hno i)
   | succ i'=>rw[g3 i' (by simpa using hi')]
theorem sD:∀{fz:List (Nat×Nm)},ka fz=true→∀ n,n∈fz.map (·.1)->n<PN∨QN<=n
 | [],_,n,h=>by simp at h
 | (m,b)::r,h,n,hn=>by
  simp only[ka,Bool.and_eq_true,Bool.or_eq_true] at h
  rcases List.mem_cons.1 hn with e|hn
  ·have e:n=m:=e
   subst e;exact h.1.imp (fun h=>Nat.le_of_ble_eq_true h) (fun h=>Nat.le_of_ble_eq_true h)
  ·exact sD h.2 n hn
theorem ql{fz:List (Nat×Nm)}:∀{bx:List Nat},jY fz bx=true→∀ n,n∈bx->n ∉ fz.map (·.1)
 | [],_,n,h=>by simp at h
 | m::r,h,n,hn=>by
  simp only[jY,Bool.and_eq_true] at h
  rcases List.mem_cons.1 hn with rfl|hn
  ·exact jk h.1
  ·exact ql h.2 n hn
theorem k6{h:ar}{dl d:Dl}:∀{k n:Nat}{r:List Nat},(eQ n k dl).run h=some (d,r)->d=dl∧∀ i,i<k->h (n+i) = .un
 | 0,n,r,e=>by
  simp only[eQ,Q.run,Option.some.injEq,Prod.mk.injEq] at e
  exact⟨e.1.symm,fun i hi=>by omega⟩
 | k+1,n,r,e=>by
  simp only[eQ,Q.run] at e
  split at e
  ·rename_i p q hk
   simp only[Option.some.injEq,Prod.mk.injEq] at e
   obtain⟨rfl,rfl⟩:=e
   split at hk
   ·rename_i hun
    obtain⟨h1,h2⟩:=k6 hk
    refine⟨h1,fun i hi=>?_⟩
    cases i with
    | zero=>exact hun
    | succ i=>rw[show n+(i+1)=n+1+i from by omega];exact h2 i (by omega)
   ·cases hk
  ·cases e
theorem oO{n:Nat}{x:Nm}:∀{cx:List (Option Nat)},(n,x)∈dI cx->x = .dead/\n∈bM cx
 | [],h=>by simp[dI] at h
 | none::r,h=>by simp only[dI] at h;simpa only[bM] using oO (cx:=r) h
 | some m::r,h=>by
  simp only[dI] at h
  rcases List.mem_cons.1 h with h|h
  ·cases h;exact⟨rfl,List.mem_cons_self ..⟩
  ·obtain⟨h1,h2⟩:=oO (cx:=r) h
   exact⟨h1,List.mem_cons_of_mem _ h2⟩
theorem mP:∀{cx:List (Option Nat)},(dI cx).map (·.1)=bM cx
 | []=>rfl
 | none::r=>by simp only[dI,bM];exact mP (cx:=r)
 | some m::r=>by simp only[dI,bM,List.map_cons,mP (cx:=r)]
def pi(P:Program)(ty:TypeId)(v:SV)(h:ar):Option SV:=match v with
 | .ptr n off=>match h n with
  | .live (.cells _ cs)=>dk P ty cs off
  | _=>none
 | _=>none
def fN(P:Program):List ResultVar->List SV->ar->Option (List SV)
 | [],_,_=>some []
 | .tmp t::r,sl,h=>match fN P r sl h with
  | some l=>some (aR sl t::l)
  | none=>none
 | .cell a ty::r,sl,h=>match pi P ty (aR sl a) h,fN P r sl h with
  | some v,some l=>some (v::l)
  | _,_=>none
def iT(l:List Value):Value:=if h:l.toArray.size=1 then l.toArray[0] else .tuple l.toArray
theorem zK{P:Program}{w0:World}{N0:bg}{A:Nat->Prop}{env:ad}{h:ar}{w:World}(m:ai w0 N0 A env h w){ty:TypeId}{s s':SV}{v:Value}(e:pi P ty s h=some s')(hd:aa A env w s v) :
  ∃ u,(do loadVar ty (← asAddr v):Sem Value).run P w = .ok u w/\aa A env w s' u:=by
 unfold pi at e
 split at e
 ·rename_i n off
  split at e
  ·rename_i E cs hl
   simp only[aa] at hd
   obtain⟨b,l,he,rfl⟩:=hd
   obtain⟨⟨vs,hh,hd⟩,_⟩:=m.live_blk hl he
   obtain⟨u,hr,hv⟩:=jX (o:=0) (k:=b) e hd (fun j hj=>by rw[cell_of_row w b _ vs E (0,0) hh];simp)
   rw[Nat.zero_add] at hr
   exact⟨u,by simp[asAddr,hr],hv⟩
  ·cases e
 ·cases e
theorem o7{P:Program}{w0:World}{N0:bg}{A:Nat->Prop}{env:ad}{h:ar}{w:World}(m:ai w0 N0 A env h w){sl:List SV}{a:Act}(f:FD A env w (aR sl) a){F:ResultVar->Sem Value}
  (h1:∀ t,F (.tmp t)=pure (a.tmps.getD t undef)) (h2:∀ t ty,F (.cell t ty)=do loadVar ty (← asAddr (a.tmps.getD t undef))):∀(l:List ResultVar)(svs:List SV),fN P l sl h=some svs →
  ∃ vs,(l.mapM F).run P w = .ok vs w/\ab A env w svs vs
 | [],svs,e=>by cases e;exact⟨[],rfl,by simp[ab]⟩
 | .tmp t::l,svs,e=>by
  simp only[fN] at e
  split at e
  ·rename_i l' hl
   cases e
   obtain⟨vs,hr,hd⟩:=o7 m f h1 h2 l l' hl
   refine⟨a.tmps.getD t undef::vs,?_,by simp only[ab];exact⟨_,_,rfl,f t,hd⟩⟩
   rw[List.mapM_cons,h1]
   simp[hr]
  ·cases e
 | .cell t ty::l,svs,e=>by
  simp only[fN] at e
  split at e
  ·rename_i v l' hv hl
   cases e
   obtain⟨vs,hr,hd⟩:=o7 m f h1 h2 l l' hl
   obtain⟨u,hu,hdu⟩:=zK m hv (f t)
   refine⟨u::vs,?_,by simp only[ab];exact⟨_,_,rfl,hdu,hd⟩⟩
   rw[List.mapM_cons,h2,Sem.run_bind,hu]
   simp[hr]
  ·cases e
theorem pB{P:Program}{w0:World}{N0:bg}{A:Nat->Prop}{env:ad}{h:ar}{w:World}(m:ai w0 N0 A env h w){sl:List SV}{a:Act}(f:FD A env w (aR sl) a){fn:Func}{svs:List SV}(e:fN P fn.results.toList sl h=some svs) :
  ∃ vs,(results fn a.tmps).run P w = .ok (iT vs) w/\ab A env w svs vs:=by
 unfold results
 rw[Array.mapM_eq_mapM_toList]
 obtain⟨vs,hr,hd⟩:=o7 (P:=P) m f (F:=fun | .tmp t=>pure (a.tmps.getD t undef) | .cell t ty=>do loadVar ty (← asAddr (a.tmps.getD t undef))) (fun t=>rfl) (fun t ty=>rfl) fn.results.toList svs e
 refine⟨vs,?_,hd⟩
 rw[Sem.run_bind,Sem.run_map]
 erw [hr]
 rfl
theorem ta{A:Nat->Prop}{env:ad}{w:World}{svs:List SV}{vs:List Value}(h:ab A env w svs vs):aa A env w (eZ svs) (iT vs):=by
 have hl:=bP h
 unfold eZ
 split
 ·simp only[ab] at h
  obtain⟨v,r,rfl,h,rfl⟩:=h
  exact h
 ·rename_i hne
  have:¬ vs.length=1:=fun e=>by
   rw[hl] at e
   obtain⟨x,hx⟩:=List.length_eq_one_iff.1 e
   exact hne x hx
  simp only[iT,aa]
  rw[dif_neg (by simpa using this)]
  exact⟨_,rfl,h⟩
def dU:List Prop->Prop
 | []=>True
 | [p]=>p
 | p::q::r=>p/\dU (q::r)
theorem iM:∀{l:List Prop},dU l↔am l
 | []=>Iff.rfl
 | [p]=>by simp[dU,am]
 | p::q::r=>by rw[dU,am,iM]
def i7(P:Program)(ps:List PK)(rs:List RK)(rv:List ResultVar)(k:b7 rs×bo ps->Prop):Ex->St->Prop:=fun e S=>match e with
 | .exit _=>False
 | _=>match fN P rv S.sl (aN S.H) with
  | none=>False
  | some vs=>match c7 (Nat.blt 0 (bV ps)) rs vs (aN S.H),cG ps 0 (aN S.H) with
   | some (y,f1,ow),some (z,f2,ow2)=>match iq (f1++f2) (ow++ow2),ka (f1++f2) with
    | true,true=>k (y,z)
    | _,_=>False
   | _,_=>False
def dj:List SV->Nat->List SV
 | _,0=>[]
 | [],n+1 => .junk::dj [] n
 | v::l,n+1=>v::dj l n
def iA(ps:List PK)(d:aA ps)(n:Nat):St:=⟨dj (bK ps d 0 0) n,eI ps d 0 0++(fG ps d 0++fK (cy ps))⟩
theorem lV:∀{l:List SV}{n:Nat},(dj l n).length=n
 | _,0=>by simp[dj]
 | [],n+1=>by simp[dj,lV (l:=[]) (n:=n)]
 | v::l,n+1=>by simp[dj,lV (l:=l) (n:=n)]
theorem lP:∀{l:List SV}{n i:Nat},aR (dj l n) i = .junk∨∃ s,l[i]? = some s/\aR (dj l n) i=s
 | _,0,i=>by left;simp[dj,aR,df]
 | [],n+1,0=>by left;simp[dj,aR,df]
 | [],n+1,i+1=>by
  rcases lP (l:=[]) (n:=n) (i:=i) with h|⟨s,h,_⟩
  ·left;simpa[dj,aR,df] using h
  ·simp at h
 | v::l,n+1,0=>by right;exact⟨v,by simp,by simp[dj,aR,df]⟩
 | v::l,n+1,i+1=>by
  rcases lP (l:=l) (n:=n) (i:=i) with h|⟨s,h,h'⟩
  ·left;simpa[dj,aR,df] using h
  ·right;exact⟨s,by simpa using h,by simpa[dj,aR,df] using h'⟩
section
variable {P:Program} {sp:aY}
theorem qo{m:Nat}:∀{l:List Nat},k7 m l=true→∀ i∈l,i<m
 | [],_,i,hi=>by cases hi
 | j::r,h,i,hi=>by
  simp only[k7,Bool.and_eq_true] at h
  rcases List.mem_cons.1 hi with rfl|hi
  ·exact Nat.le_of_ble_eq_true h.1
  ·exact qo h.2 i hi
theorem qL{ps:List PK}{rs:List RK}(h:iZ ps rs=true):gw rs=[]/\(cy ps).Nodup∧∀ i∈cy ps,i<QN-HN:=by
 unfold iZ at h
 split at h
 ·rename_i hr
  simp only[Bool.and_eq_true] at h
  exact⟨hr,mF h.1,qo h.2⟩
 ·cases h
theorem qW{ps:List PK}{rs:List RK}(post:aA ps->b7 rs×bo ps->Prop){f:FuncId}{fn:Func}{code:Code}(hf:P.funcs[f]? = some fn)(hb:fn.body=some code)(hs:bY P sp)(az:P.follows .mixedOrders=true)(an:aA ps->aK)
  {base:Nat} {svs:List SV} {h:ar} {dd:aA ps} {fz:List (Nat×Nm)} {bx:List Nat} {cx:List (Option Nat)} {q1:List Nat} (e1:(bw none ps svs).run h=some ((dd,fz,bx,cx),q1)) (hnm:jC ps rs fz bx cx=true)
  (hun:∀ i,i<br rs+bZ ps->h (base+i) = .un) (vc:iG ps dd->fy (iA ps dd fn.ntmps) (sx P sp (an dd) code (i7 P ps rs fn.results.toList (post dd))))
  {w0:World} {N0:bg} {A:Nat->Prop} {env:ad} {w:World} {vs:List Value} (hG:N0.g=sp.gl) (m:ai w0 N0 A env h w) (hd:ab A env w svs vs) :
  Calls P f vs.toArray w fun e w'=>∃ v y,e = .returned v/\post dd y∧∃ (A':Nat->Prop) (env':ad),ai w0 N0 A' env' (ay (fA ps rs y base fz bx cx) h) w'∧aI A env w A' env' w'∧aa A' env' w' (eZ (cu (bx.headD 0) rs y.1 base)) v:=by
 simp only[jC,Bool.and_eq_true] at hnm
 obtain⟨⟨⟨hnd,hdj⟩,hbh⟩,hix⟩:=hnm
 have hnd:=mF hnd
 have hdj:=ql hdj
 have hbh:bx.length<=HN-PN:=Nat.le_of_ble_eq_true hbh
 have hbl:bx.length<=PN:=Nat.le_trans hbh (by decide)
 obtain⟨hxr,hxn,hxl⟩:=qL hix
 obtain⟨a1,a4,hol,hols,a6⟩:=gu m (Ac:=bj A env fz) (fun b hb=>.inl hb) none ps svs vs dd fz bx cx q1 0 0 e1 hd (fun k hk=>.inr hk)
 have holn:(hol.map (·.1)).Nodup:=by rw[hols.1];exact hxn
 have holv:∀ q∈hol,ce env bx cx hol (HN+q.1) = .val q.2.1 q.2.2:=fun q hq=>by
  have hq':q.1∈cy ps:=hols.1▸List.mem_map_of_mem (f:=(·.1)) hq
  unfold ce
  rw[tb hbh (hxl _ hq')]
  exact mO holn q hq
 obtain⟨dargs,lb,lc⟩:=a6 (ce env bx cx hol) (fun _=>rfl) (fun n hn=>by cases hn) (fun k n hn=>by rw[Nat.zero_add];exact ml hbl hn) (fun k q hq=>by rw[Nat.zero_add];exact qB hq) holv
 rw[Nat.add_zero] at lb lc
 have mc:=m.call hol a1 hbl lb lc hdj hnd
 rw[hols.1] at mc
 have hlen:bx.length=bV ps:=by
  have:=lb.get.1
  rw[List.length_map,gk] at this;exact this
 have hnd1:bx.Nodup:=(List.nodup_append.1 hnd).1
 have hvc:=vc a4
 rw[lT] at hvc
 have hvl:=bP dargs
 have live_ne:∀ q b,h q = .live b->env q ≠ .un:=fun q b hq=>by
  have:=m.nm q
  rw[hq] at this
  rcases this with⟨k,len,e,_⟩|⟨e,_⟩ <;> rw[e] <;> simp
 have hlive:∀ n,n∈bx++bM cx→∃ b,h n = .live b/\b.mut=true/\env n ≠ .un:=fun n hn=>by
  rcases List.mem_append.1 hn with hn|hn
  ·obtain⟨i,hi⟩:=List.mem_iff_getElem?.1 hn
   obtain⟨b',_,_,_,⟨q,b,e,h1,h2,_⟩|⟨e,_⟩⟩:=lb.get.2 i (some n) (by simp[hi])
   ·cases e;exact⟨b,h1,h2,live_ne _ _ h1⟩
   ·cases e
  ·obtain⟨i,hi⟩:=List.mem_iff_getElem?.1 (hB.1 hn)
   obtain⟨b',_,_,_,⟨q,b,e,h1,h2,_⟩|⟨e,_⟩⟩:=lc.get.2 i (some n) hi
   ·cases e;exact⟨b,h1,h2,live_ne _ _ h1⟩
   ·cases e
 refine calls_of_wp hf hb (qY (N0:=⟨jT env (bx++bM cx),bj A env fz,N0.g⟩) ⟨hs,hG⟩ az code _ _ _ (bj A env fz) (ce env bx cx hol) _ w hvc ⟨mc,?_,?_,rfl⟩ ?_)
 ·simp only[St.fs,iA,lV,Array.size_append,Array.size_replicate];omega
 ·intro i
  simp only[St.fs,iA]
  rcases lP (l:=bK ps dd 0 0) (n:=fn.ntmps) (i:=i) with hj|⟨s,h1,h2⟩
  ·rw[hj];simp only[aa]
  ·rw[h2]
   obtain⟨v,hv,hdv⟩:=gS i s dargs h1
   have hi:i<vs.length:=(List.getElem?_eq_some_iff.1 hv).1
   have:(vs.toArray++Array.replicate (fn.ntmps-vs.toArray.size) undef).getD i undef=v:=by
    have h3:(vs.toArray++Array.replicate (fn.ntmps-vs.toArray.size) undef)[i]? = some v:=by
     rw[Array.getElem?_append_left (by simpa using hi)];simpa using hv
    simp only[Array.getD_eq_getD_getElem?,h3,Option.getD_some]
   rw[this];exact hdv
 ·intro ex S' A1 env1 act w1 hK t' x'
  have hend:∃ rsv y f1 owr z f2 owb,fN P fn.results.toList S'.sl (aN S'.H)=some rsv/\c7 (Nat.blt 0 (bV ps)) rs rsv (aN S'.H)=some (y,f1,owr)/\cG ps 0 (aN S'.H)=some (z,f2,owb) ∧
    iq (f1++f2) (owr++owb)=true/\ka (f1++f2)=true/\post dd (y,z)/\(ex = .normal∨ex = .ret):=by
   unfold i7 at hK
   split at hK
   ·exact hK.elim
   ·rename_i hex
    split at hK
    ·exact hK.elim
    ·rename_i rsv hts
     split at hK
     ·rename_i y f1 ow z f2 ow2 h1 h2
      split at hK
      ·rename_i h3 h4
       refine⟨rsv,y,f1,ow,z,f2,ow2,hts,h1,h2,h3,h4,hK,?_⟩
       cases ex with
       | normal=>exact .inl rfl
       | ret=>exact .inr rfl
       | exit i=>exact absurd rfl (hex i)
      ·exact hK.elim
     ·exact hK.elim
  obtain⟨rsv,y,f1,owr,z,f2,owb,hts,ho,hob,hown,hlt,hpost,hex⟩:=hend
  obtain⟨rvs,hrun,hres⟩:=pB t'.m t'.f hts
  have hA2:∀ b,A1 b->bj A1 env1 (f1++f2) b:=fun b hb=>.inl hb
  have hF1:∀ k,bB env1 f1 k->bj A1 env1 (f1++f2) k:=fun k ⟨n,x,l,hx,he⟩=>.inr ⟨n,x,l,List.mem_append_left _ hx,he⟩
  have hF2:∀ k,bB env1 f2 k->bj A1 env1 (f1++f2) k:=fun k ⟨n,x,l,hx,he⟩=>.inr ⟨n,x,l,List.mem_append_right _ hx,he⟩
  have hlt:=sD hlt
  have hownS:=nj hown
  have hPQ:QN=PN+PN:=rfl
  have fin:∀(As A':Nat->Prop)(hs':ar),ai w0 N0 As env hs' w->(∀ n,n∈bx++bM cx->hs' n=h n)->(∀ i,i<br rs+bZ ps->hs' (base+i) = .un)->(∀ b,A b->As b)->(∀ b,As b->A' b)->(∀ b,A' b->bj A1 env1 (f1++f2) b) →
    (∀ b,A' b->As b∨((jT env (bx++bM cx) b∨w.heap.size<=b)/\b<w1.heap.size))->(fD rs=true∨∀ b,bj A1 env1 (f1++f2) b->A' b)->(cV ps=true∨∀ b,bj A1 env1 (f1++f2) b->A' b) →
    ∃ env',ai w0 N0 A' env' (ay (bp (bx.headD 0) ps z bx (base+br rs)++(cK (bx.headD 0) rs y base++(bI ps z (base+br rs)++dI cx))) hs') w1/\aI As env w A' env' w1/\aa A' env' w1 (eZ (cu (bx.headD 0) rs y base)) (iT rvs):=by
   intro As A' hs' ms hsb hsu hAs hAA hA'2 hA1' L1 L2
   obtain⟨b1,b2,b3⟩:=hO (A':=A') (env':=bh (bL bx 0++bS (owr++owb) base) env env1) t'.m hA2 (bx.headD 0) rs y _ _ f1 owr base ho hres hF1 L1 hxr
   obtain⟨c1,c2,c3,c4⟩:=fU (A':=A') (env':=bh (bL bx 0++bS (owr++owb) base) env env1) t'.m hA2 (bx.headD 0) ps z f2 owb bx 0 (base+br rs) hob hF2 L2 hlen
   have hfo:dF (aN S'.H) (f1++f2):=fun n b hh=>by
    rcases List.mem_append.1 hh with hh|hh
    ·exact b1 n b hh
    ·exact c1 n b hh
   have howl:(owr++owb).length=br rs+bZ ps:=by rw[List.length_append,b2,c2]
   have hnotbx:∀ i,i<br rs+bZ ps->base+i ∉ bx:=fun i hi hmem=>by
    have h1:=hsu i hi
    rw[hsb _ (List.mem_append_left _ hmem)] at h1
    obtain⟨b,hb',_⟩:=hlive _ (List.mem_append_left _ hmem)
    rw[h1] at hb';cases hb'
   have hRbox:∀ i n,bx[i]? = some n->aH (bL bx 0++bS (owr++owb) base) n=some (some (PN+i)):=fun i n hi=>by
    rw[pl,qb (j:=0) hnd1 hi,Nat.zero_add]
   have hRres:∀ i o,(owr++owb)[i]? = some o->aH (bL bx 0++bS (owr++owb) base) (base+i)=some o:=fun i o hi=>by
    have hlti:i<br rs+bZ ps:=by have:=(List.getElem?_eq_some_iff.1 hi).1;omega
    rw[pl,vl (hnotbx i hlti)]
    exact tm hi
   have hRinv:∀ n y,aH (bL bx 0++bS (owr++owb) base) n=some y->(∃ i,bx[i]? = some n/\y=some (PN+i))∨∃ i,(owr++owb)[i]? = some y/\n=base+i/\i<br rs+bZ ps:=fun n y hy=>by
    rw[pl] at hy
    split at hy
    ·rename_i x hx
     cases hy
     obtain⟨i,h1,h2⟩:=ox hx
     rw[Nat.zero_add] at h2
     exact .inl ⟨i,h1,h2⟩
    ·obtain⟨i,h1,h2⟩:=qQ hy
     exact .inr ⟨i,h1,h2,by have:=(List.getElem?_eq_some_iff.1 h1).1;omega⟩
   have hbxlt:∀ i n,bx[i]? = some n->i<PN:=fun i n hi=>by have:=(List.getElem?_eq_some_iff.1 hi).1;omega
   have henvp:∀ i n,bx[i]? = some n->env1 (PN+i)=env n:=fun i n hi=>by
    obtain⟨b,_,_,hne⟩:=hlive n (List.mem_append_left _ (List.mem_of_getElem? hi))
    have:=hbxlt i n hi
    have:=x'.envp (PN+i) (by omega) (by omega) (by rw[ml hbl hi];exact hne)
    rw[this,ml hbl hi]
   have eenv:∀ i o,(owr++owb)[i]? = some o->bh (bL bx 0++bS (owr++owb) base) env env1 (base+i)=de env1 o:=fun i o hi=>by
    unfold bh
    rw[hRres i o hi]
    simp only[bC,hRres i o hi]
    cases o <;> rfl
   have hhead:bx≠[]->bh (bL bx 0++bS (owr++owb) base) env env1 (bx.headD 0)=env1 PN:=fun hne=>by
    obtain⟨n0,r,hbx⟩:=List.exists_cons_of_ne_nil hne
    have h0:bx[0]? = some (bx.headD 0):=by rw[hbx];rfl
    unfold bh
    rw[hRbox 0 _ h0]
    simp only[bC,hRbox 0 _ h0,Nat.add_zero]
   obtain⟨d1,d2⟩:=b3 (fun hal=>hhead (fun hnil=>by
     have h0:bV ps=0:=by rw[← hlen,hnil];rfl
     rw[h0] at hal;cases hal)) (fun i o hi=>eenv i o (by rw[List.getElem?_append_left (List.getElem?_eq_some_iff.1 hi).1];exact hi))
   have hkeepE:∀ n,env n ≠ .un->bh (bL bx 0++bS (owr++owb) base) env env1 n=env n:=fun n hn=>by
    unfold bh
    cases hl:aH (bL bx 0++bS (owr++owb) base) n with
    | none=>rfl
    | some y =>
     rcases hRinv n y hl with⟨i,h1,rfl⟩|⟨i,h1,rfl,hi⟩
     ·simp only[bC,hl]
      exact henvp i n h1
     ·exact absurd (by have:=m.nm (base+i);rw[hun i hi] at this;exact this) hn
   have xg:aI A env w A' (bh (bL bx 0++bS (owr++owb) base) env env1) w1 :=
    ⟨fun b hb=>hAA b (hAs b hb),fun n b l e=>by rw[hkeepE n (by rw[e];simp)];exact e,fun n e=>by rw[hkeepE n (by rw[e];simp)];exact e,fun n v s e=>by rw[hkeepE n (by rw[e];simp)];exact e,
     fun b o hb=>x'.keep b o (.inl hb),x'.shape⟩
   have hHole:∀ i∈cy ps,∀ v s,env1 (HN+i) = .val v s->aa A' (bh (bL bx 0++bS (owr++owb) base) env env1) w1 s v:=fun i hi v s he=>by
    rw[← hols.1] at hi
    obtain⟨q,hq,rfl⟩:=List.mem_map.1 hi
    have h1:=holv q hq
    have hlq:=hxl q.1 (hols.1▸List.mem_map_of_mem (f:=(·.1)) hq)
    have h2:=x'.envp (HN+q.1) (by simp only[HN,PN];omega) (by simp only[HN,QN] at hlq ⊢;omega) (by rw[h1];simp)
    rw[h2,h1] at he
    cases he
    exact fq xg _ _ (hols.2 q hq)
   obtain⟨d3,d4⟩:=c3 hHole hhead (fun k q hq=>by
     have:=eenv (br rs+k) q (by rw[List.getElem?_append_right (by omega),b2,Nat.add_sub_cancel_left];exact hq)
     rwa [← Nat.add_assoc] at this)
    (fun k q hq=>by
     unfold bh
     rw[hRbox k q hq]
     simp only[bC,hRbox k q hq,Nat.zero_add])
   have hlookA:∀ q b k l,aN S'.H q = .live b->b.mut=true->env1 q = .blk k l->q ∉ (f1++f2).map (·.1)→¬ A' k:=fun q b k l hq hbm he hqn hA'=>by
    have mf:=(t'.m.freeze hfo).1
    have:ay (f1++f2) S'.fs.h q = .live b:=by rw[c6 hqn];exact hq
    exact (mf.live_blk this he).2 hbm (hA'2 k hA')
   suffices hk:ai w0 N0 A' (bh (bL bx 0++bS (owr++owb) base) env env1) (ay (bp (bx.headD 0) ps z bx (base+br rs)++(cK (bx.headD 0) rs y base++(bI ps z (base+br rs)++dI cx))) hs') w1/\aI As env w A' (bh (bL bx 0++bS (owr++owb) base) env env1) w1 by
    exact⟨_,hk.1,hk.2,ta d1⟩
   have hnew:∀{l:List (Nat×Nm)}{os:List (Option Nat)}{n0:Nat},bQ A' env1 (aN S'.H) (bh (bL bx 0++bS (owr++owb) base) env env1) w1 os l (base+n0)->(∀ i o,os[i]? = some o->(owr++owb)[n0+i]? = some o)→∀ n x,(n,x)∈l →
     ∃ b,x = .live b/\b.mut=true/\((∃ m b0,aH (bL bx 0++bS (owr++owb) base) n=some (some m)/\aN S'.H m = .live b0/\b0.mut=true ∧
      (∀ k len,env1 m = .blk k len->cm A' (bh (bL bx 0++bS (owr++owb) base) env env1) w1 k len b)/\(env1 m = .nil→∃ E t,b = .row E t []))∨(aH (bL bx 0++bS (owr++owb) base) n=some none∧∃ E t,b = .row E t [])):=by
    intro l os n0 hl hos n x hx
    have:∀{os:List (Option Nat)}{l:List (Nat×Nm)}{k0:Nat},bQ A' env1 (aN S'.H) (bh (bL bx 0++bS (owr++owb) base) env env1) w1 os l k0→∀ n x,(n,x)∈l→∃ i o b',os[i]? = some o/\n=k0+i/\x = .live b'∧b'.mut=true ∧
      ((∃ q b,o=some q/\aN S'.H q = .live b/\b.mut=true/\(∀ k len,env1 q = .blk k len->cm A' (bh (bL bx 0++bS (owr++owb) base) env env1) w1 k len b')/\(env1 q = .nil→∃ E t,b' = .row E t []))∨(o=none∧∃ E t,b' = .row E t [])):=by
     intro os
     induction os with
     | nil=>intro l k0 hl n x hx;cases l with
      | nil=>cases hx
      | cons p l=>exact hl.elim
     | cons o os ih =>
      intro l k0 hl n x hx
      cases l with
      | nil=>cases hx
      | cons p l =>
       obtain⟨m',y'⟩:=p
       obtain⟨⟨hm,b',g1,g2,g3⟩,hr⟩:=hl
       rcases List.mem_cons.1 hx with e|hx
       ·cases e;exact⟨0,o,b',rfl,by omega,g1,g2,g3⟩
       ·obtain⟨i,o',b'',k1,k2,k3⟩:=ih hr n x hx
        exact⟨i+1,o',b'',by simpa using k1,by omega,k3⟩
    obtain⟨i,o,b',k1,rfl,k3,k4,k5⟩:=this hl n x hx
    have hr:=hRres _ _ (hos i o k1)
    rw[← Nat.add_assoc] at hr
    refine⟨b',k3,k4,?_⟩
    rcases k5 with⟨q,b,rfl,g1,g2,g3,g4⟩|⟨rfl,g1⟩
    ·exact .inl ⟨q,b,hr,g1,g2,g3,g4⟩
    ·exact .inr ⟨hr,g1⟩
   refine ai.retn (R:=bL bx 0++bS (owr++owb) base) (U:=bp (bx.headD 0) ps z bx (base+br rs)++(cK (bx.headD 0) rs y base++(bI ps z (base+br rs)++dI cx))) (A':=A') ms t'.m x'.shape ?_ ?_ ?_ ?_ ?_ hAA hA1' ?_
   ·intro n x hx
    rcases List.mem_append.1 hx with hx|hx
    ·obtain⟨i,b,b0,h1,h2,h3,h4,h5,h6,h7⟩:=d4 n x hx
     rw[Nat.zero_add] at h4 h6 h7
     exact .inr ⟨b,h2,h3,.inl ⟨PN+i,b0,hRbox i n h1,h4,h5,h6,h7⟩⟩
    ·rcases List.mem_append.1 hx with hx|hx
     ·exact .inr (hnew (n0:=0) (by rw[Nat.add_zero];exact d2) (fun i o hi=>by rw[Nat.zero_add,List.getElem?_append_left (List.getElem?_eq_some_iff.1 hi).1];exact hi) n x hx)
     ·rcases List.mem_append.1 hx with hx|hx
      ·exact .inr (hnew d3 (fun i o hi=>by rw[List.getElem?_append_right (by omega),b2,Nat.add_sub_cancel_left];exact hi) n x hx)
      ·exact .inl (oO hx).1
   ·intro n hn
    obtain⟨y',hy⟩:=Option.ne_none_iff_exists'.1 hn
    simp only[List.map_append]
    rcases hRinv n y' hy with⟨i,h1,_⟩|⟨i,h1,rfl,hi⟩
    ·exact List.mem_append_left _ (c4 n (List.mem_of_getElem? h1))
    ·refine List.mem_append_right _ ?_
     by_cases hlt':i<br rs
     ·refine List.mem_append_left _ ?_
      obtain⟨b',_,hmem,_⟩:=d2.get.2 i _ (by rw[List.getElem?_append_left (by omega)] at h1;exact h1)
      exact List.mem_map_of_mem (f:=(·.1)) hmem
     ·refine List.mem_append_right _ (List.mem_append_left _ ?_)
      obtain⟨b',_,hmem,_⟩:=d3.get.2 (i-br rs) _ (by rw[List.getElem?_append_right (by omega),b2] at h1;exact h1)
      have:=List.mem_map_of_mem (f:=(·.1)) hmem
      rwa [show base+br rs+(i-br rs)=base+i from by omega] at this
   ·intro n n' q hn hn'
    rcases hRinv n _ hn with⟨i,h1,h2⟩|⟨i,h1,rfl,_⟩ <;> rcases hRinv n' _ hn' with⟨i',h1',h2'⟩|⟨i',h1',rfl,_⟩
    ·simp only[Option.some.injEq] at h2 h2'
     have:i=i':=by omega
     subst this
     rw[h1] at h1';exact Option.some.inj h1'
    ·simp only[Option.some.injEq] at h2
     have:=(hownS i' q h1').1
     have:=hbxlt _ _ h1
     omega
    ·simp only[Option.some.injEq] at h2'
     have:=(hownS i q h1).1
     have:=hbxlt _ _ h1'
     omega
    ·rw[(hownS i q h1).2.2 i' h1']
   ·intro n hn
    obtain⟨y',hy⟩:=Option.ne_none_iff_exists'.1 hn
    rcases hRinv n y' hy with⟨i,h1,rfl⟩|⟨i,h1,rfl,h2⟩
    ·have hmem:n∈bx++bM cx:=List.mem_append_left _ (List.mem_of_getElem? h1)
     obtain⟨b,g2',g3',_⟩:=hlive n hmem
     exact .inr ⟨b,by rw[hsb n hmem];exact g2',g3',by rw[eJ hy];exact henvp i n h1⟩
    ·exact .inl (hsu i h2)
   ·rintro k ⟨n,l,hn,he⟩
    obtain⟨b,g2',g3',_⟩:=hlive n hn
    refine⟨n,b,l,?_,by rw[hsb n hn];exact g2',g3',he⟩
    simp only[List.map_append,mP]
    rcases List.mem_append.1 hn with hn|hn
    ·exact List.mem_append_left _ (c4 n hn)
    ·exact List.mem_append_right _ (List.mem_append_right _ (List.mem_append_right _ hn))
   ·rintro q b k l hq hbm he ⟨n,hn⟩
    refine hlookA q b k l hq hbm he fun hmem=>?_
    rcases hRinv n _ hn with⟨i,h1,h2⟩|⟨i,h1,rfl,_⟩
    ·simp only[Option.some.injEq] at h2
     have:=hlt q hmem
     have:=hbxlt _ _ h1
     omega
    ·exact (hownS i q h1).2.1 hmem
  suffices hfin:∃ (A':Nat->Prop) (env':ad),ai w0 N0 A' env' (ay (fA ps rs (y,z) base fz bx cx) h) w1/\aI A env w A' env' w1/\aa A' env' w1 (eZ (cu (bx.headD 0) rs y base)) (iT rvs) by
   have hthis:act.defers=[]∧∃ v,(results fn act.tmps).run P w1 = .ok v w1∧∃ v' y',Ending.returned v = .returned v'∧post dd y'∧∃ (A':Nat->Prop) (env':ad),ai w0 N0 A' env' (ay (fA ps rs y' base fz bx cx) h) w1/\aI A env w A' env' w1/\aa A' env' w1 (eZ (cu (bx.headD 0) rs y'.1 base)) v' :=
    ⟨t'.dfr,_,hrun,_,(y,z),rfl,hpost,hfin⟩
   rcases hex with rfl|rfl
   ·exact hthis
   ·exact hthis
  unfold fA
  cases hk:ik ps rs with
  | true =>
   obtain⟨mf,xf⟩:=m.freeze a1
   have hback:∀ b,bj A1 env1 (f1++f2) b->bj A env fz b∨((jT env (bx++bM cx) b∨w.heap.size<=b)/\b<w1.heap.size):=by
    intro b hb
    have hfo:dF (aN S'.H) (f1++f2):=by
     obtain⟨b1,_⟩:=hO (A':=bj A1 env1 (f1++f2)) (env':=env1) t'.m hA2 (bx.headD 0) rs y _ _ f1 owr base ho hres hF1 (.inr fun b hb=>hb) hxr
     obtain⟨c1,_⟩:=fU (A':=bj A1 env1 (f1++f2)) (env':=env1) t'.m hA2 (bx.headD 0) ps z f2 owb bx 0 base hob hF2 (.inr fun b hb=>hb) hlen
     intro n b hh
     rcases List.mem_append.1 hh with hh|hh
     ·exact b1 n b hh
     ·exact c1 n b hh
    have hAlt:=(t'.m.freeze hfo).1.Alt b hb
    rcases hb with hb|⟨n,x,l,hx,he⟩
    ·rcases t'.m.fresh b hb with h1|h1|h1
     ·exact .inl h1
     ·exact .inr ⟨.inl h1,hAlt⟩
     ·exact .inr ⟨.inr h1,hAlt⟩
    ·obtain⟨E,t,xs,hl,_⟩:=hfo n x hx
     rcases t'.m.own n _ b l hl rfl he with h1|h1
     ·exact .inr ⟨.inl h1,hAlt⟩
     ·exact .inr ⟨.inr h1,hAlt⟩
   obtain⟨env',k1,k2,k3⟩:=fin (bj A env fz) (bj A1 env1 (f1++f2)) (ay fz h) mf (fun n hn=>c6 (hdj n hn)) (fun i hi=>by
     rw[c6]
     ·exact hun i hi
     ·intro hmem
      obtain⟨⟨n,x⟩,hx,he⟩:=List.mem_map.1 hmem
      simp only at he
      subst he
      obtain⟨E,t,xs,hl,_⟩:=a1 _ _ hx
      rw[hun i hi] at hl;cases hl)
    (fun b hb=>.inl hb) (fun b hb=>.inl (x'.imm b hb)) (fun b hb=>hb) hback (.inr fun b hb=>hb) (.inr fun b hb=>hb)
   refine⟨_,env',?_,xf.trans k2,k3⟩
   rw[ni];exact k1
  | false =>
   have hpl:fD rs=true/\cV ps=true:=by
    simpa[ik] using hk
   obtain⟨env',k1,k2,k3⟩:=fin A A h m (fun n hn=>rfl) hun (fun b hb=>hb) (fun b hb=>hb) (fun b hb=>.inl (x'.imm b (.inl hb))) (fun b hb=>.inl hb) (.inl hpl.1) (.inl hpl.2)
   refine⟨_,env',?_,k2,k3⟩
   rw[List.append_nil];exact k1
def iz:(rs:List RK)->b7 rs->b7 rs->List Prop
 | [],_,_=>[]
 | _::rs,x,y=>(x.1=y.1)::iz rs x.2 y.2
def dW:(ps:List PK)->bo ps->bo ps->List Prop
 | [],_,_=>[]
 | .val _::ps,x,y=>dW ps x y
 | .agg _::ps,x,y=>dW ps x y
 | .own _ _::ps,x,y=>dW ps x y
 | .ago _::ps,x,y=>dW ps x y
 | .fn _ _::ps,x,y=>dW ps x y
 | .nils::ps,x,y=>dW ps x y
 | .box _ _::ps,x,y=>(x.1=y.1)::dW ps x.2 y.2
 | .row _ _::ps,x,y=>(x.1=y.1)::dW ps x.2 y.2
theorem qF:∀{rs:List RK}{x y:b7 rs},am (iz rs x y)->x=y
 | [],x,y,_=>rfl
 | _::rs,x,y,h=>Prod.ext h.1 (qF (rs:=rs) h.2)
theorem gc:∀{ps:List PK}{x y:bo ps},am (dW ps x y)->x=y
 | [],x,y,_=>rfl
 | .val _::ps,x,y,h=>gc (ps:=ps) h
 | .agg _::ps,x,y,h=>gc (ps:=ps) h
 | .own _ _::ps,x,y,h=>gc (ps:=ps) h
 | .ago _::ps,x,y,h=>gc (ps:=ps) h
 | .fn _ _::ps,x,y,h=>gc (ps:=ps) h
 | .nils::ps,x,y,h=>gc (ps:=ps) h
 | .box _ _::ps,x,y,h=>Prod.ext h.1 (gc (ps:=ps) h.2)
 | .row _ _::ps,x,y,h=>Prod.ext h.1 (gc (ps:=ps) h.2)
theorem ol:∀{rs:List RK}{x:b7 rs},am (iz rs x x)
 | [],_=>trivial
 | _::rs,x=>⟨rfl,ol (rs:=rs)⟩
theorem ft:∀{ps:List PK}{x:bo ps},am (dW ps x x)
 | [],_=>trivial
 | .val _::ps,x=>ft (ps:=ps)
 | .agg _::ps,x=>ft (ps:=ps)
 | .own _ _::ps,x=>ft (ps:=ps)
 | .ago _::ps,x=>ft (ps:=ps)
 | .fn _ _::ps,x=>ft (ps:=ps)
 | .nils::ps,x=>ft (ps:=ps)
 | .box _ _::ps,x=>⟨rfl,ft (ps:=ps)⟩
 | .row _ _::ps,x=>⟨rfl,ft (ps:=ps)⟩
theorem Ct.ok(c:Ct){f:FuncId}{fn:Func}{code:Code}(hf:P.funcs[f]? = some fn)(hb:fn.body=some code)(hs:bY P sp)(az:P.follows .mixedOrders=true)(an:aA c.ps->aK)
  (vc:hJ c.ps fun d=>iG c.ps d->dU (c.pre d)->fy (iA c.ps d fn.ntmps) (sx P sp (an d) code (i7 P c.ps c.rs fn.results.toList fun y=>dU (iz c.rs y.1 (c.out d).1++dW c.ps y.2 (c.out d).2)))):aF P sp.gl f c.spec:=by
 intro base svs h d r e hp w0 N0 A env w vs hG m hd
 unfold Ct.spec at e
 obtain⟨⟨dd,fz,bx,cx⟩,q1,q2,e1,e2,rfl⟩:=Q.run_bind _ _ _ e
 split at e2
 case h_2=>cases e2
 rename_i hnm
 obtain⟨rfl,hun⟩:=k6 e2
 refine (qW (rs:=c.rs) (fun d y=>dU (iz c.rs y.1 (c.out d).1++dW c.ps y.2 (c.out d).2)) hf hb hs az an e1 hnm hun (fun hw=>nY.1 vc dd hw (iM.2 hp)) hG m hd).mono ?_
 rintro e' w' ⟨v,y,rfl,hy,A',env',h1,h2,h3⟩
 obtain⟨hy1,hy2⟩:=dS.1 (iM.1 hy)
 have:y=c.out dd:=Prod.ext (qF hy1) (gc hy2)
 subst this
 exact⟨v,rfl,(),A',env',trivial,h1,h2,h3⟩
theorem Cn.ok(c:Cn){f:FuncId}{fn:Func}{code:Code}(hf:P.funcs[f]? = some fn)(hb:fn.body=some code)(hs:bY P sp)(az:P.follows .mixedOrders=true)(an:aA c.ps->aK)
  (vc:hJ c.ps fun d=>iG c.ps d->dU (c.pre d)->fy (iA c.ps d fn.ntmps) (sx P sp (an d) code (i7 P c.ps c.rs fn.results.toList (c.post d)))):aF P sp.gl f c.spec:=by
 intro base svs h d r e hp w0 N0 A env w vs hG m hd
 unfold Cn.spec at e
 obtain⟨⟨dd,fz,bx,cx⟩,q1,q2,e1,e2,rfl⟩:=Q.run_bind _ _ _ e
 split at e2
 case h_2=>cases e2
 rename_i hnm
 obtain⟨rfl,hun⟩:=k6 e2
 refine (qW (rs:=c.rs) c.post hf hb hs az an e1 hnm hun (fun hw=>nY.1 vc dd hw (iM.2 hp)) hG m hd).mono ?_
 rintro e' w' ⟨v,y,rfl,hy,A',env',h1,h2,h3⟩
 refine⟨v,rfl,y,A',env',hy,?_,h2,h3⟩
 show ai w0 N0 A' env' (ay ((iS c.ps c.rs base fz bx cx).map fun p=>(p.1,p.2 y)) h) w'
 rw[pH];exact h1
def Ct.nspec(c:Ct):Spec:=fun base svs=>(bw none c.ps svs).bind fun p=>match jC c.ps c.rs p.2.1 p.2.2.1 p.2.2.2 with
 | true=>eQ base (br c.rs+bZ c.ps) (.nd (b7 c.rs×bo c.ps) (sB c.rs c.ps) (c.pre p.1) (fun y=>dU (iz c.rs y.1 (c.out p.1).1++dW c.ps y.2 (c.out p.1).2)) (fun _=>⟨c.out p.1,iM.2 (dS.2 ⟨ol,ft⟩)⟩)
   (fun y=>eZ (cu (p.2.2.1.headD 0) c.rs y.1 base)) (iS c.ps c.rs base p.2.1 p.2.2.1 p.2.2.2))
 | false => .fail
theorem tD{h:ar}{dl d:Dl}:∀{k n:Nat}{r:List Nat},(eQ n k dl).run h=some (d,r)→∀ dl',(eQ n k dl').run h=some (dl',r)
 | 0,n,r,e,dl'=>by
  simp only[eQ,Q.run,Option.some.injEq,Prod.mk.injEq] at e ⊢
  exact⟨trivial,e.2⟩
 | k+1,n,r,e,dl'=>by
  simp only[eQ,Q.run] at e ⊢
  split at e
  ·rename_i p q hk
   simp only[Option.some.injEq,Prod.mk.injEq] at e
   obtain⟨rfl,rfl⟩:=e
   split at hk
   ·rename_i hun
    have:=tD hk dl'
    rw[this]
   ·cases hk
  ·cases e
universe u v
theorem Q.bind_run1{h:ar}{α:Type u}{β:Type v}(q:Q α)(f:α->Q β){a:α}{r1:List Nat}{b:β}{r2:List Nat}(h1:q.run h=some (a,r1))(h2:(f a).run h=some (b,r2)):(q.bind f).run h=some (b,r1++r2):=by
 induction q generalizing r1 with
 | ret x=>simp only[Q.run,Option.some.injEq,Prod.mk.injEq] at h1;obtain⟨rfl,rfl⟩:=h1;simpa[Q.bind] using h2
 | ask n k ih =>
  simp only[Q.run] at h1
  split at h1
  ·rename_i x y hk
   simp only[Option.some.injEq,Prod.mk.injEq] at h1
   obtain⟨rfl,rfl⟩:=h1
   simp only[Q.bind,Q.run,ih _ hk,List.cons_append]
  ·cases h1
 | fail=>cases h1
theorem Ct.named{G:fW}{c:Ct}{f:FuncId}(ok:aF P G f c.spec):aF P G f c.nspec:=by
 intro base svs h d r e hp w0 N0 A env w vs hG m hd
 unfold Ct.nspec at e
 obtain⟨⟨dd,fz,bx,cx⟩,q1,q2,e1,e2,rfl⟩:=Q.run_bind _ _ _ e
 split at e2
 case h_2=>cases e2
 rename_i hnm
 obtain⟨rfl,hun⟩:=k6 e2
 have e3:=tD e2 (.det (c.pre dd) (eZ (cu (bx.headD 0) c.rs (c.out dd).1 base)) (fA c.ps c.rs (c.out dd) base fz bx cx))
 have e4:(c.spec base svs).run h=some (.det (c.pre dd) (eZ (cu (bx.headD 0) c.rs (c.out dd).1 base)) (fA c.ps c.rs (c.out dd) base fz bx cx),q1++q2):=by
  unfold Ct.spec
  refine Q.bind_run1 _ _ e1 ?_
  simp only at hnm ⊢
  rw[hnm]
  exact e3
 refine (ok base svs h _ _ e4 hp w0 N0 A env w vs hG m hd).mono ?_
 rintro e' w' ⟨v,he,x,A',env',_,h1,h2,h3⟩
 refine⟨v,he,c.out dd,A',env',iM.2 (dS.2 ⟨ol,ft⟩),?_,h2,h3⟩
 show ai w0 N0 A' env' (ay ((iS c.ps c.rs base fz bx cx).map fun p=>(p.1,p.2 (c.out dd))) h) w'
 rw[pH];exact h1
end
end Go.SX

/- SX, part 23: from a law's arguments to data, and a law's contract to its row. -/
namespace Go.SX
open Go.ChangeShapes Go.WideShapes Go.ChangeAt Go.RowKit
set_option linter.unusedVariables false
universe u v
def fY(P:Program)(f:CT->TypeId->Bool):List Field->CT->Nat->Bool
 | [],_,_=>false
 | [fd],t,o=>f t fd.type&&Nat.beq fd.offset o&&Nat.beq (P.cellsOf fd.type) t.size
 | fd::g::r,.pair a b,o=>f a fd.type&&Nat.beq fd.offset o&&Nat.beq (P.cellsOf fd.type) a.size&&fY P f (g::r) b (o+a.size)
 | _,_,_=>false
def ga(P:Program)(f:CT->TypeId->Bool)(e:TypeId):Nat->CT->Bool
 | 0,_=>false
 | 1,t=>f t e&&Nat.beq (P.cellsOf e) t.size
 | n+2,.pair a b=>f a e&&Nat.beq (P.cellsOf e) a.size&&ga P f e (n+1) b
 | _,_=>false
def cR(P:Program):Nat->CT->TypeId->Bool
 | 0,_,_=>false
 | n+1,t,τ=>match P.underlying τ,t with
  | some (.int k),.int k'=>cA k k'
  | some .bool,.bool=>true
  | some .string,.str=>true
  | some (.slice e),.sl u=>cR P n u e&&Nat.beq (P.cellsOf e) u.size
  | some (.struct fs),t=>fY P (cR P n) fs.toList t 0
  | some (.array k e),t=>ga P (cR P n) e k t
  | _,_=>false
section
variable {H:Type} {enc:TypeId×Value->H} {P:Program} {w:World} {base:Nat} {held:Bool}
theorem gT{A:Nat->Prop}{t:CT}{cs:List Value}{o sz:Nat}{d:t.D}(hs:sz=t.size)(h:Rd A w t (fun j=>((cs.drop o).take sz)[j]?) 0 d):Rd A w t (fun j=>cs[j]?) o d:=by
 have:=hX h o
 rw[Nat.zero_add] at this
 refine bG (fun _ h=>h) (fun _ _ _=>rfl) t _ _ _ _ (fun j hj=>?_) this
 simp only[List.getElem?_take,Nat.add_sub_cancel_left]
 rw[if_pos (by omega),List.getElem?_drop]
theorem si{A:Nat->Prop}{f:CT->TypeId->Bool}{cs:List Value}{n:Nat}
  (hf:∀ t τ cs x,f t τ=true->DataW.trod enc P w base (fun _=>true) held n τ cs=some x→∃ d,Rd A w t (fun j=>cs[j]?) 0 d) :
  ∀(fs:List Field)(t:CT)(o:Nat),fY P f fs t o=true->(∀ fd∈fs,∃ x,DataW.trod enc P w base (fun _=>true) held n fd.type ((cs.drop fd.offset).take (P.cellsOf fd.type))=some x)→∃ d,Rd A w t (fun j=>cs[j]?) o d
 | [],t,o,h,_=>by cases h
 | [fd],t,o,h,hx=>by
  simp only[fY,Bool.and_eq_true] at h
  obtain⟨⟨h1,h2⟩,h3⟩:=h
  have h2:=Nat.eq_of_beq_eq_true h2
  have h3:=Nat.eq_of_beq_eq_true h3
  obtain⟨x,hx⟩:=hx fd (by simp)
  obtain⟨d,hd⟩:=hf t fd.type _ x h1 hx
  rw[h2] at hd
  exact⟨d,gT h3 hd⟩
 | fd::g::r,.pair a b,o,h,hx=>by
  simp only[fY,Bool.and_eq_true] at h
  obtain⟨⟨⟨h1,h2⟩,h3⟩,h4⟩:=h
  have h2:=Nat.eq_of_beq_eq_true h2
  have h3:=Nat.eq_of_beq_eq_true h3
  obtain⟨x,hx1⟩:=hx fd (by simp)
  obtain⟨d,hd⟩:=hf a fd.type _ x h1 hx1
  rw[h2] at hd
  obtain⟨d',hd'⟩:=si hf (g::r) b (o+a.size) h4 (fun fd' hm=>hx fd' (List.mem_cons_of_mem _ hm))
  exact⟨(d,d'),gT h3 hd,hd'⟩
 | _::_::_,.int _,_,h,_=>by cases h
 | _::_::_,.bool,_,h,_=>by cases h
 | _::_::_,.str,_,h,_=>by cases h
 | _::_::_,.sl _,_,h,_=>by cases h
theorem sL{A:Nat->Prop}{f:CT->TypeId->Bool}{cs:List Value}{n:Nat}{e:TypeId}
  (hf:∀ t τ cs x,f t τ=true->DataW.trod enc P w base (fun _=>true) held n τ cs=some x→∃ d,Rd A w t (fun j=>cs[j]?) 0 d) :
  ∀(k:Nat)(t:CT)(i:Nat),ga P f e k t=true->(∀ j,i<=j->j<i+k→∃ x,DataW.trod enc P w base (fun _=>true) held n e ((cs.drop (j*P.cellsOf e)).take (P.cellsOf e))=some x)→∃ d,Rd A w t (fun j=>cs[j]?) (i*P.cellsOf e) d
 | 0,t,i,h,_=>by cases h
 | 1,t,i,h,hx=>by
  simp only[ga,Bool.and_eq_true] at h
  obtain⟨h1,h2⟩:=h
  have h2:=Nat.eq_of_beq_eq_true h2
  obtain⟨x,hx⟩:=hx i (by omega) (by omega)
  obtain⟨d,hd⟩:=hf t e _ x h1 hx
  exact⟨d,gT h2 hd⟩
 | k+2,.pair a b,i,h,hx=>by
  simp only[ga,Bool.and_eq_true] at h
  obtain⟨⟨h1,h2⟩,h4⟩:=h
  have h2:=Nat.eq_of_beq_eq_true h2
  obtain⟨x,hx1⟩:=hx i (by omega) (by omega)
  obtain⟨d,hd⟩:=hf a e _ x h1 hx1
  obtain⟨d',hd'⟩:=sL hf (k+1) b (i+1) h4 (fun j h1 h2=>hx j (by omega) (by omega))
  refine⟨(d,d'),gT h2 hd,?_⟩
  rw[Nat.add_mul,Nat.one_mul] at hd'
  rw[← h2];exact hd'
 | _+2,.int _,_,h,_=>by cases h
 | _+2,.bool,_,h,_=>by cases h
 | _+2,.str,_,h,_=>by cases h
 | _+2,.sl _,_,h,_=>by cases h
theorem vd{α:Type}(n:Nat)(p:Nat->α->Prop)(h:∀ i,i<n→∃ a,p i a):∃ l:List α,l.length=n∧∀ i (hi:i<l.length),p i l[i]:=by
 induction n with
 | zero=>exact⟨[],rfl,fun i hi=>by simp at hi⟩
 | succ n ih =>
  obtain⟨l,hl,hp⟩:=ih fun i hi=>h i (by omega)
  obtain⟨a,ha⟩:=h n (by omega)
  refine⟨l++[a],by simp[hl],fun i hi=>?_⟩
  by_cases hlt:i<l.length
  ·rw[List.getElem_append_left hlt];exact hp i hlt
  ·have:i=l.length:=by simp at hi;omega
   subst this
   simp only[List.getElem_concat_length]
   rw[hl];exact ha
theorem tJ(b off n:Nat):(⟨b,off,none⟩:Addr).add n=⟨b,off+n,none⟩:=by
 unfold Addr.add
 split
 ·rename_i h;subst h;rfl
 ·rfl
theorem rI{k:IntKind}{n:Int}(h:(Lit.int k n).wf=true):k.has n:=by
 simp only[Lit.wf,Bool.and_eq_true,decide_eq_true_eq] at h;exact h
theorem kX:∀(n:Nat)(t:CT)(τ:TypeId)(fuel:Nat)(cs:List Value)(x:DataW H×List MemPlace),cR P n t τ=true->DataW.trod enc P w base (fun _=>true) held fuel τ cs=some x →
  ∃ d,Rd (fun b=>b<w.heap.size) w t (fun j=>cs[j]?) 0 d
 | 0,t,τ,fuel,cs,x,h,_=>by cases h
 | n+1,t,τ,fuel,cs,x,h,hx=>by
  unfold cR at h
  split at h
  ·rename_i k k' hu
   cases cN h
   obtain⟨m,rfl,_,hw⟩:=DataW.trod_int hu hx
   exact⟨m,by simp,rI hw⟩
  ·rename_i hu
   obtain⟨b,rfl,_⟩:=DataW.trod_bool hu hx
   exact⟨b,by simp[Rd]⟩
  ·rename_i hu
   obtain⟨s,rfl,_,hs⟩:=DataW.trod_string hu hx
   exact⟨s,by simp,hs⟩
  ·rename_i e u hu
   simp only[Bool.and_eq_true] at h
   obtain⟨h1,h2⟩:=h
   have h2:=Nat.eq_of_beq_eq_true h2
   rcases DataW.trod_slice hu hx with⟨rfl,_⟩|⟨a,len,cap,elems,rest,m,_,rfl,_,_,hl,hm,hlen,hel,hsp,_⟩
   ·exact⟨[],fa.2 ⟨_,rfl,by simp,.inl ⟨⟨_,rfl⟩,rfl⟩⟩⟩
   ·have hcap:=(hsp rfl)
    by_cases h0:cap=0
    ·have:len=0:=by omega
     subst this h0
     exact⟨[],fa.2 ⟨_,rfl,by simp,.inl ⟨⟨_,rfl⟩,rfl⟩⟩⟩
    ·-- the cells that are there
     have first:∃ v,w.cell? a=some v:=by
      have hb:∃ cs',w.cells? base (a.add 0) (P.cellsOf e)=some cs':=by
       by_cases hl0:0<len
       ·have:=hel 0 hl0
        rw[Nat.zero_mul] at this
        have hs:∃ y,elems[0]? = some y:=⟨_,List.getElem?_eq_getElem (by omega)⟩
        obtain⟨y,hy⟩:=hs
        rw[hy,Option.bind_eq_some_iff] at this
        obtain⟨cs',hcs,_⟩:=this
        exact⟨cs',hcs⟩
       ·have:=hcap.2 0 (by omega)
        have hz:(len+0)*P.cellsOf e=0:=by
         have:len=0:=by omega
         subst this;simp
        rw[hz] at this
        have hs:∃ y,rest[0]? = some y:=⟨_,List.getElem?_eq_getElem (by omega)⟩
        obtain⟨y,hy⟩:=hs
        rw[hy,Option.bind_eq_some_iff] at this
        obtain⟨cs',hcs,_⟩:=this
        exact⟨cs',hcs⟩
      obtain⟨cs',hcs⟩:=hb
      obtain⟨_,hl1,hl2⟩:=World.cells?_some hcs
      have hp:=u.size_pos
      have:=hl2 0 (by omega)
      refine⟨cs'[0]'(by omega),?_⟩
      rw[List.getElem?_eq_getElem (by omega)] at this
      simpa[Addr.add] using this
     obtain⟨v0,hv0⟩:=first
     have hspot:=World.cell?_spot hv0
     obtain⟨b,off,spot⟩:=a
     simp only at hspot
     subst hspot
     have hlt:b<w.heap.size:=by
      unfold World.cell? at hv0
      simp only at hv0
      split at hv0
      ·rename_i c E sp hb
       exact (Array.getElem?_eq_some_iff.1 hb).1
      ·cases hv0
     obtain⟨xs,hxl,hxp⟩:=vd len (fun i d=>Rd (fun b=>b<w.heap.size) w u (fun o=>w.cell? ⟨b,o,none⟩) (off+i*u.size) d) fun i hi=>by
      have:=hel i hi
      rw[List.getElem?_eq_getElem (by omega),Option.bind_eq_some_iff] at this
      obtain⟨cs',hcs,ht⟩:=this
      obtain⟨_,hl1,hl2⟩:=World.cells?_some hcs
      obtain⟨d,hd⟩:=kX n u e _ cs' _ h1 ht
      refine⟨d,?_⟩
      have:=hX hd (off+i*u.size)
      rw[Nat.zero_add] at this
      refine bG (fun _ h=>h) (fun _ _ _=>rfl) u _ _ _ _ (fun j hj=>?_) this
      have:=hl2 j (by omega)
      rw[tJ,tJ,h2] at this
      rw[Nat.add_sub_cancel_left,← this]
     subst hxl
     exact⟨xs,fa.2 ⟨_,rfl,by omega,.inr ⟨b,off,cap,rfl,hl,hm,hlt,fun i hi=>hxp i hi⟩⟩⟩
  ·rename_i t' fs hu
   obtain⟨xs,m,_,_,hl,hlen,hf⟩:=DataW.trod_struct hu hx
   refine si (n:=m) (fun t τ cs x h1 h2=>kX n t τ m cs x h1 h2) fs.toList _ 0 h fun fd hm=>?_
   obtain⟨i,hi,rfl⟩:=List.mem_iff_getElem.1 hm
   have:=hf i fs[i] (Array.getElem?_eq_getElem (by simpa using hi))
   have hi':i<fs.size:=by simpa using hi
   rw[List.getElem?_eq_getElem (by omega)] at this
   exact⟨_,by simpa using this⟩
  ·rename_i t' k e hu
   obtain⟨xs,m,_,_,hl,hlen,hf⟩:=DataW.trod_array hu hx
   have:=sL (n:=m) (cs:=cs) (e:=e) (fun t τ cs x h1 h2=>kX n t τ m cs x h1 h2) k _ 0 h fun j _ hj=>by
    have:=hf j (by omega)
    rw[List.getElem?_eq_getElem (by omega)] at this
    exact⟨_,this⟩
   simpa using this
  ·cases h
abbrev d0:=List (Bool×CT)
def co:d0->List PK
 | []=>[]
 | (true,t)::r => .agg t::co r
 | (false,t)::r => .val t::co r
def jx:(l:d0)->bo (co l)
 | []=>()
 | (true,_)::r=>jx r
 | (false,_)::r=>jx r
def kf(l:d0):Ct:=⟨co l,[.val .bool],fun _=>[],fun _=>((true,()),jx l)⟩
def fC(P:Program)(τ:TypeId):Bool:=match P.underlying τ with
 | some (.struct _)=>true
 | some (.array _ _)=>true
 | _=>false
def lz:CT->Bool
 | .pair _ _=>false
 | _=>true
def jN(P:Program):d0->List TypeId->Bool
 | [],[]=>true
 | (b,t)::r,τ::τs=>(match b,fC P τ with|true,true=>true|false,false=>lz t|_,_=>false)&&cR P 12 t τ&&Nat.beq (P.cellsOf τ) t.size&&jN P r τs
 | _,_=>false
theorem wi{r:Reach}{b0:Nat}{τ:TypeId}{v:Value}(h:fC P τ=true)(hv:Value.okWide P w r b0 τ v):∃ vs,v = .agg vs/\vs.size=P.cellsOf τ:=by
 unfold fC at h
 unfold Value.okWide at hv
 split at h
 ·rename_i fs hu;rw[hu] at hv;obtain⟨cs,h1,h2,_⟩:=hv;exact⟨cs,h1,h2⟩
 ·rename_i fs hu;rw[hu] at hv;obtain⟨cs,h1,h2,_⟩:=hv;exact⟨cs,h1,h2⟩
 ·cases h
theorem uv{r:Reach}{b0:Nat}{τ:TypeId}{v:Value}(ht:P.underlying τ=some .bool)(h:Value.okWide P w r b0 τ v):∃ b,v = .bool b:=by
 simp only[Value.okWide,ht,Cell.okWide] at h
 cases v <;> simp_all[Cell.ok]
theorem vM{r:Reach}{b0:Nat}{n:Nat}{t:CT}{τ:TypeId}{v:Value}(hf:lz t=true)(hq:fC P τ=false)(h:cR P n t τ=true)(hv:Value.okWide P w r b0 τ v):v.cells = #[v]:=by
 cases n with
 | zero=>cases h
 | succ n =>
  unfold cR at h
  split at h
  ·rename_i k k' hu;obtain⟨m,rfl⟩:=okWide_int hu hv;rfl
  ·rename_i hu;obtain⟨m,rfl⟩:=uv hu hv;rfl
  ·rename_i hu;obtain⟨m,rfl⟩:=okWide_string hu hv;rfl
  ·rename_i e u hu;obtain⟨a,l,c,rfl⟩:=okWide_slice hu hv;rfl
  ·rename_i t' fs hu;unfold fC at hq;rw[hu] at hq;cases hq
  ·rename_i t' k e hu;unfold fC at hq;rw[hu] at hq;cases hq
  ·cases h
theorem Al(k:IntKind):cA k k=true:=by cases k <;> rfl
theorem we{t:CT}{xs:List t.D}:bv t t xs=some xs:=by unfold bv;rw[dif_pos rfl]
theorem lm{h:ar}:∀(t:CT)(d:t.D)(rest:List SV),(bX t (bk t d++rest)).run h=some ((d,rest,[]),[])
 | .int k,d,rest=>by simp only[bk,List.cons_append,List.nil_append,bX,Al];rfl
 | .bool,d,rest=>rfl
 | .str,d,rest=>rfl
 | .sl t,d,rest=>by simp only[bk,List.cons_append,List.nil_append,bX,we];rfl
 | .pair a b,d,rest=>by
  have bindrun:∀{α β:Type}(q:Q α)(f:α->Q β)(x:α)(y:β),q.run h=some (x,[])->(f x).run h=some (y,[])->(q.bind f).run h=some (y,[]):=by
   intro α β q
   induction q with
   | ret a=>intro f x y h1 h2;simp only[Q.run,Option.some.injEq,Prod.mk.injEq] at h1;rw[← h1.1] at h2;exact h2
   | ask n k ih =>
    intro f x y h1 h2
    simp only[Q.run] at h1
    split at h1
    ·simp only[Option.some.injEq,Prod.mk.injEq] at h1
     exact absurd h1.2 (by simp)
    ·cases h1
   | fail=>intro f x y h1 h2;cases h1
  simp only[bk,List.append_assoc,bX]
  refine bindrun _ _ _ _ (lm a d.1 (bk b d.2++rest)) ?_
  exact bindrun _ _ _ _ (lm b d.2 rest) rfl
theorem Q.bind_run0{h:ar}{α:Type u}{β:Type v}(q:Q α)(f:α->Q β)(x:α)(y:β)(h1:q.run h=some (x,[]))(h2:(f x).run h=some (y,[])):(q.bind f).run h=some (y,[]):=by
 cases q with
 | ret a=>simp only[Q.run,Option.some.injEq,Prod.mk.injEq] at h1;rw[← h1.1] at h2;exact h2
 | ask n k =>
  simp only[Q.run] at h1
  split at h1
  ·simp only[Option.some.injEq,Prod.mk.injEq] at h1
   exact absurd h1.2 (by simp)
  ·cases h1
 | fail=>cases h1
theorem yd{t:CT}(hf:lz t=true)(d:t.D):bk t d=[jb t d]:=by
 cases t <;> first|rfl|cases hf
def iI:d0->Bool
 | []=>true
 | (b,t)::r=>(b||lz t)&&iI r
theorem oP{h:ar}:∀(l:d0)(d:aA (co l)),iI l=true->(bw none (co l) (bK (co l) d 0 0)).run h=some ((d,[],[],[]),[])
 | [],d,_=>rfl
 | (true,t)::r,d,hok=>by
  simp only[iI,Bool.and_eq_true] at hok
  simp only[co,bK,bw]
  refine Q.bind_run0 _ _ _ _ (by have:=lm (h:=h) t d.1 [];rw[List.append_nil] at this;exact this) ?_
  exact Q.bind_run0 _ _ _ _ (oP r d.2 hok.2) rfl
 | (false,t)::r,d,hok=>by
  simp only[iI,Bool.and_eq_true,Bool.false_or] at hok
  simp only[co,bK,bw]
  refine Q.bind_run0 _ _ _ _ (by have:=lm (h:=h) t d.1 [];rw[List.append_nil,yd hok.1] at this;exact this) ?_
  exact Q.bind_run0 _ _ _ _ (oP r d.2 hok.2) rfl
theorem rN{r:Reach}{b0:Nat}:∀(l:d0)(τs:List TypeId)(vs:List Value)(ds:List (DataW H))(ps:List MemPlace),jN P l τs=true->DataW.TrodAll enc P w base (fun _=>true) held τs vs ds ps →
  (∀(j:Nat) t v,τs[j]? = some t->vs[j]? = some v->Value.okWide P w r b0 t v)->iI l=true∧∃ d:aA (co l),ab (fun b=>b<w.heap.size) (fun _=>.un) w (bK (co l) d 0 0) vs
 | [],[],vs,ds,ps,h,ht,hv=>by
  obtain⟨rfl,_,_⟩:=trodAll_nil ht
  exact⟨rfl,(),by simp[co,bK,ab]⟩
 | (b,t)::l,τ::τs,vs,ds,ps,h,ht,hv=>by
  obtain⟨v,vs',d,ds',p,q,rfl,rfl,rfl,h0,hr⟩:=trodAll_cons ht
  simp only[jN,Bool.and_eq_true] at h
  obtain⟨⟨⟨h1,h2⟩,h3⟩,h4⟩:=h
  have h3:=Nat.eq_of_beq_eq_true h3
  obtain⟨g1,d2,g2⟩:=rN l τs vs' ds' q h4 hr (fun j t v ht hv'=>hv (j+1) t v (by simpa using ht) (by simpa using hv'))
  have hv0:=hv 0 τ v rfl rfl
  obtain⟨fuel,hf⟩:=h0
  obtain⟨d1,hd1⟩:=kX 12 t τ fuel _ _ h2 hf
  cases b with
  | true =>
   have hag:fC P τ=true:=by
    cases hq:fC P τ with
    | true=>rfl
    | false=>rw[hq] at h1;cases h1
   obtain⟨us,rfl,hus⟩:=wi hag hv0
   refine⟨by simp[iI,g1],(d1,d2),?_⟩
   simp only[co,bK,ab,aa]
   refine⟨_,vs',rfl,⟨us,rfl,kS (by simpa using hus.trans h3) (by simpa[Value.cells] using hd1)⟩,g2⟩
  | false =>
   have hq:fC P τ=false:=by
    cases hq:fC P τ with
    | true=>rw[hq] at h1;cases h1
    | false=>rfl
   rw[hq] at h1
   simp only at h1
   refine⟨by simp[iI,g1,h1],(d1,d2),?_⟩
   simp only[co,bK,ab]
   have hc:=vM h1 hq h2 hv0
   rw[hc] at hd1
   exact⟨v,vs',rfl,oC (rest:=[]) (by simpa using hd1),g2⟩
 | [],_::_,_,_,_,h,_,_=>by cases h
 | _::_,[],_,_,_,h,_,_=>by cases h
def GlobsOK(w:World)(G:fW):Prop:=∀ g x,G g=some x->g<w.heap.size/\Rd (fun b=>b<w.heap.size) w x.1 (fun o=>w.cell? ⟨g,o,none⟩) 0 x.2
theorem law_walkG{G:fW}(hG:GlobsOK w G){f:FuncId}{l:d0}(ok:aF P G f (kf l).spec){r:Reach}{b0:Nat}{τs:List TypeId}{args:Array Value}{ds:List (DataW H)}{ps:List MemPlace}(hl:jN P l τs=true)
  (ht:DataW.TrodAll enc P w base (fun _=>true) held τs args.toList ds ps) (hv:∀(j:Nat) t v,τs.toArray[j]? = some t->args[j]? = some v->Value.okWide P w r b0 t v) :
  Calls P f args w fun e w'=>e = .returned (.bool true)/\Below w.heap.size w w':=by
 obtain⟨hok,d,hd⟩:=rN l τs args.toList ds ps hl ht (fun j t v h1 h2=>hv j t v (by simpa using h1) (by simpa using h2))
 have hkeep:ik (co l) [.val .bool]=false:=by
  have:∀ l:d0,cV (co l)=true:=by
   intro l
   induction l with
   | nil=>rfl
   | cons x l ih=>obtain⟨b,t⟩:=x;cases b <;> exact ih
  simp only[ik,this,fD,CT.plain,Bool.and_self,Bool.not_true]
 have hbU:∀ nb,bp 0 (co l) (jx l) [] nb=[]:=by
  intro nb
  induction l with
  | nil=>rfl
  | cons x l ih =>
   obtain⟨b,t⟩:=x
   have:∀ l:d0,bp 0 (co l) (jx l) [] nb=[]:=by
    intro l
    induction l with
    | nil=>rfl
    | cons x l ih=>obtain⟨b,t⟩:=x;cases b <;> exact ih
   cases b <;> exact this l
 have hnU:∀(l:d0) nb,bI (co l) (jx l) nb=[]:=by
  intro l nb
  induction l with
  | nil=>rfl
  | cons x l ih=>obtain⟨b,t⟩:=x;cases b <;> exact ih
 have hnB:∀(l:d0),bZ (co l)=0:=by
  intro l
  induction l with
  | nil=>rfl
  | cons x l ih=>obtain⟨b,t⟩:=x;cases b <;> exact ih
 have hxI:∀(l:d0),cy (co l)=[]:=by
  intro l
  induction l with
  | nil=>rfl
  | cons x l ih=>obtain⟨b,t⟩:=x;cases b <;> exact ih
 have hxO:iZ (co l) [.val .bool]=true:=by simp only[iZ,gw,hxI];rfl
 have hrun:((kf l).spec 0 (bK (co l) d 0 0)).run (fun _=>.un)=some (Dl.det [] (.bool true) [],[]):=by
  unfold Ct.spec
  refine Q.bind_run0 _ _ _ _ (oP l d hok) ?_
  simp only[jC,hxO,bM,List.append_nil,jr,jY,kf,fA,hkeep,hbU,hnU,hnB,dI,cK,cu,eZ,jb,bk,br,eQ,List.headD_nil]
  rfl
 have m:ai w ⟨fun _=>False,fun b=>b<w.heap.size,G⟩ (fun b=>b<w.heap.size) (fun _=>.un) (fun _=>.un) w :=
  ⟨rfl,rfl,rfl,Nat.le_refl _,fun _ _ _=>rfl,fun _ h=>h,fun _=>rfl,fun _ _ _ _ h=>(by cases h),fun _ _ _ _ _ _ _ h=>(by cases h),fun b hb=>.inl hb,hG⟩
 have:=ok 0 (bK (co l) d 0 0) (fun _=>.un) _ _ hrun trivial w _ _ _ w args.toList rfl m hd
 refine Calls.mono this ?_
 rintro e w' ⟨v,rfl,x,A',env',_,hm,_,hden⟩
 simp only[Dl.val,aa] at hden
 exact⟨by rw[hden],hm.os,hm.tape,hm.output,hm.size,fun k hk=>hm.fr k hk (fun h=>h)⟩
theorem law_walk{f:FuncId}{l:d0}(ok:aF P (fun _=>none) f (kf l).spec){r:Reach}{b0:Nat}{τs:List TypeId}{args:Array Value}{ds:List (DataW H)}{ps:List MemPlace}(hl:jN P l τs=true)
  (ht:DataW.TrodAll enc P w base (fun _=>true) held τs args.toList ds ps) (hv:∀(j:Nat) t v,τs.toArray[j]? = some t->args[j]? = some v->Value.okWide P w r b0 t v) :
  Calls P f args w fun e w'=>e = .returned (.bool true)/\Below w.heap.size w w':=law_walkG (fun g x h=>by cases h) ok hl ht hv
def oR(P:Program):List TypeId->Bool
 | []=>true
 | t::r=>P.readableRec t&&decide (t<P.types.size)&&oR P r
theorem trodAll_below(hl:laidOutB P=true):∀{τs:List TypeId}{vs:List Value}{ds:List (DataW H)}{ps:List MemPlace}{w':World},oR P τs=true →
  DataW.TrodAll enc P w 0 (fun _=>true) true τs vs ds ps->Below w.heap.size w w'→DataW.TrodAll enc P w' 0 (fun b=>decide (b<w.heap.size)) true τs vs ds ps
 | [],vs,ds,ps,w',_,h,hb=>by
  obtain⟨rfl,rfl,rfl⟩:=trodAll_nil h
  exact trodAll_mk0
 | τ::τs,vs,ds,ps,w',hr,h,hb=>by
  obtain⟨v,vs',d,ds',p,q,rfl,rfl,rfl,h0,hr'⟩:=trodAll_cons h
  simp only[oR,Bool.and_eq_true,decide_eq_true_eq] at hr
  have lt:∀ x∈p,x.block<w.heap.size:=by
   obtain⟨m,hm⟩:=h0
   exact DataW.trod_lt m _ _ _ hm
  exact trodAll_cons_mk (Below.trod hl hr.1.1 hr.1.2 h0 hb lt) (trodAll_below hl hr.2 hr' hb)
end
end Go.SX

/- SX, part 24: what is to be shown of a function, under one name. -/
namespace Go.SX
set_option linter.unusedVariables false
def gR(fn:Func):Code:=match fn.body with
 | some c=>c
 | none => .skip
def Ct.vc(P:Program)(sp:aY)(c:Ct)(fn:Func)(an:aA c.ps->aK):Prop :=
 hJ c.ps fun d=>iG c.ps d->dU (c.pre d)->fy (iA c.ps d fn.ntmps) (sx P sp (an d) (gR fn) (i7 P c.ps c.rs fn.results.toList fun y=>dU (iz c.rs y.1 (c.out d).1++dW c.ps y.2 (c.out d).2)))
structure mq (p:Prop):Prop where
 out:p
theorem aT{p q:Prop}(h:p=q)(v:q):mq p:=⟨Eq.mpr h v⟩
theorem Ct.okH{P:Program}{sp:aY}(c:Ct){f:FuncId}{fn:Func}(hf:P.funcs[f]? = some fn)(hb:fn.body=some (gR fn))(hs:bY P sp)(az:P.follows .mixedOrders=true)(an:aA c.ps->aK)
  (vc:mq (Ct.vc P sp c fn an)):aF P sp.gl f c.spec:=c.ok hf hb hs az an vc.out
def Cn.vc(P:Program)(sp:aY)(c:Cn)(fn:Func)(an:aA c.ps->aK):Prop :=
 hJ c.ps fun d=>iG c.ps d->dU (c.pre d)->fy (iA c.ps d fn.ntmps) (sx P sp (an d) (gR fn) (i7 P c.ps c.rs fn.results.toList (c.post d)))
theorem Cn.okH{P:Program}{sp:aY}(c:Cn){f:FuncId}{fn:Func}(hf:P.funcs[f]? = some fn)(hb:fn.body=some (gR fn))(hs:bY P sp)(az:P.follows .mixedOrders=true)(an:aA c.ps->aK)
  (vc:mq (Cn.vc P sp c fn an)):aF P sp.gl f c.spec:=c.ok hf hb hs az an vc.out
def zg(G:fW):aY:=⟨fun _=>none,G⟩
theorem aV{P:Program}{G:fW}:bY P (zg G):=fun f s h=>by cases h
def jW(sp:aY)(f:FuncId)(s:Spec):aY:=⟨fun g=>match Nat.beq g f with
 | true=>some s
 | false=>sp.fn g,sp.gl⟩
theorem aD{P:Program}{sp:aY}{f:FuncId}{s:Spec}(h:bY P sp)(hs:aF P sp.gl f s):bY P (jW sp f s):=fun g t e=>by
 unfold jW at e
 simp only at e
 split at e
 ·rename_i hb;cases e;rw[Nat.eq_of_beq_eq_true hb];exact hs
 ·exact h g t e
def yR(sp:aY)(d:Nat):aY:=jW sp (4000000000+d) fun _ _=>.fail
theorem rH{P:Program}{sp:aY}{d:Nat}(h:bY P sp):bY P (yR sp d):=aD h fun _ _ _ _ _ e=>by cases e
def zY(sp:aY)(d p off:Nat):aY:=jW sp (4600000000+d) fun _ _=>.ask p fun _=>.ask off fun _=>.fail
theorem qi{P:Program}{sp:aY}{d p off:Nat}(h:bY P sp):bY P (zY sp d p off):=aD h fun _ _ _ _ _ e=>by simp[Q.run] at e
def xI(sp:aY)(d:Nat):aY:=jW sp (4700000000+d) fun _ _=>.fail
theorem me{P:Program}{sp:aY}{d:Nat}(h:bY P sp):bY P (xI sp d):=aD h fun _ _ _ _ _ e=>by cases e
theorem vW{b:Bool}{y n:Prop}:ax b y n↔(b=true->y)/\(b=false->n):=by cases b <;> simp[ax]
end Go.SX

/- SX, plain lemmas for what is to be shown of functions. -/
namespace Go.SX
set_option linter.unusedVariables false
theorem au{n:Int}(h : -9223372036854775808<=n)(h':n<=9223372036854775807):IntKind.i64.wrap n=n:=IntWalk.i64_in n ⟨h,h'⟩
theorem dC{α:Type} [Inhabited α] {xs:List α} {i:Int} (h0:0<=i) (h1:i<xs.length):xs.getD i.toNat default∈xs:=by
 have h:i.toNat<xs.length:=by omega
 rw[List.getD_eq_getElem?_getD,List.getElem?_eq_getElem h];exact List.getElem_mem h
theorem oV{a b:Int}(ha:0<=a):0<=a.tmod b:=Int.tmod_nonneg b ha
theorem og{a b:Int}(ha:0<=a)(hb:0<b):a.tmod b<b:=Int.tmod_lt_of_pos a hb
theorem aM{b:Bool}{y n:Prop}(hy:b=true->y)(hn:b=false->n):ax b y n:=vW.2 ⟨hy,hn⟩
theorem qJ(n:Int) : -9223372036854775808<=IntKind.i64.wrap n/\IntKind.i64.wrap n<=9223372036854775807:=IntKind.wrap_has .i64 n
theorem wP{α:Type} [Inhabited α] {p:α->Prop} {xs:List α} (h:∀ x∈xs,p x) {i:Int} (h0:0<=i) (h1:i<xs.length):p (xs.getD i.toNat default):=h _ (dC h0 h1)
theorem rz{p:Prop} [Decidable p] (h:(!decide p)=true):¬ p:=of_decide_eq_false (by simpa only[Bool.not_eq_true'] using h)
theorem qd{p:Prop} [Decidable p] (h:(!decide p)=false):p:=of_decide_eq_true (by simpa only[Bool.not_eq_false'] using h)
theorem lB{a b:Bool}{y n:Prop}(hy:a=true∨b=true->y)(hn:a=false->b=false->n):ax (bif a then true else b) y n:=by
 cases a with
 | true=>exact hy (.inl rfl)
 | false=>cases b with
  | true=>exact hy (.inr rfl)
  | false=>exact hn rfl rfl
theorem kw{a b:Bool}{y n:Prop}(hy:a=true->b=true->y)(hn:a=false∨b=false->n):ax (bif a then b else false) y n:=by
 cases a with
 | false=>exact hn (.inl rfl)
 | true=>cases b with
  | true=>exact hy rfl rfl
  | false=>exact hn (.inr rfl)
theorem sV{α:Type} [Inhabited α] {l:List α} {i:Nat} {a:α} (h:i<l.length):(l.set i a).getD i default=a:=by
 rw[List.getD_eq_getElem?_getD,List.getElem?_set_self h];rfl
theorem zM{α:Type} [Inhabited α] {q:α->Bool} {l:List α} {j:Int} (h0:0<=j) (h1:j<l.length) (h2:∀ x∈l.take j.toNat,q x=false) (h3:q (l.getD j.toNat default)=true) :
  j=if l.findIdx q<l.length then (l.findIdx q:Int) else -1:=by
 have hj:j.toNat<l.length:=by omega
 rw[List.getD_eq_getElem?_getD,List.getElem?_eq_getElem hj,Option.getD_some] at h3
 have e:l.findIdx q=j.toNat:=(List.findIdx_eq hj).2 ⟨h3,fun k hk=>h2 _ (List.mem_take_iff_getElem.2 ⟨k,by omega,rfl⟩)⟩
 rw[e,if_pos hj];omega
theorem uL{α:Type} [Inhabited α] {q:α->Bool} {l:List α} {j:Int} (h1:¬ j<l.length) (h2:∀ x∈l.take j.toNat,q x=false) :
  (-1:Int)=if l.findIdx q<l.length then (l.findIdx q:Int) else -1:=by
 rw[List.take_of_length_le (by omega)] at h2
 rw[List.findIdx_eq_length_of_false h2,if_neg (Nat.lt_irrefl _)]
theorem yy{α:Type} [Inhabited α] {P:α->Prop} {l:List α} {j:Int} (h0:0<=j) (h1:j<l.length) (h2:∀ x∈l.take j.toNat,P x) (h3:P (l.getD j.toNat default)) :
  ∀ x∈l.take (j+1).toNat,P x:=by
 intro x hx
 have hj:j.toNat<l.length:=by omega
 rw[show (j+1).toNat=j.toNat+1 by omega,List.take_add_one,List.getElem?_eq_getElem hj] at hx
 rw[List.getD_eq_getElem?_getD,List.getElem?_eq_getElem hj,Option.getD_some] at h3
 rcases List.mem_append.1 hx with hx|hx
 ·exact h2 x hx
 ·simp at hx;rw[hx];exact h3
theorem fH{α:Type} [Inhabited α] {l:List α} {k:Int} (h0:0<=k) (h1:k<l.length):l.take (k+1).toNat=l.take k.toNat++[l.getD k.toNat default]:=by
 have e:(k+1).toNat=k.toNat+1:=by omega
 have hk:k.toNat<l.length:=by omega
 rw[e,List.take_add_one,List.getElem?_eq_getElem hk,List.getD_eq_getElem?_getD,List.getElem?_eq_getElem hk]
 rfl
theorem pn{a b:Prop} [Decidable a] [Decidable b]:(bif decide a then true else decide b)=decide (a∨b):=by by_cases h:a <;> simp[h]
theorem ux{a b:Prop} [Decidable a] [Decidable b]:(bif decide a then decide b else false)=decide (a/\b):=by by_cases h:a <;> simp[h]
theorem xM{a:Prop} [Decidable a]:(!decide a)=decide (¬ a):=by by_cases h:a <;> simp[h]
end Go.SX

/- Base: data types of the program's values. -/
namespace Go.RS
open Go.SX Go.Proofs
set_option maxRecDepth 100000
set_option linter.unusedVariables false
abbrev ak(x:Int):Prop := -9223372036854775808<=x/\x<=9223372036854775807
abbrev gI:CT := .pair (.pair (.int .u32) (.int .i64)) (.int .i64)
abbrev cBlocks:CT := .pair gI (.pair gI (.pair gI (.pair gI (.pair gI (.pair gI (.pair gI gI))))))
def blocksV:cBlocks.D:=(((0,8),1),((2130706432,8),2),((167772160,8),3),((2886729728,12),3),((3232235520,16),3),((2851995648,16),4),((3758096384,4),5),((4026531840,4),6))
def GL:fW:=(fun _=>none)
theorem az:Try.prog.follows .mixedOrders=true:=Try.checked.mixed
abbrev cI:CT := .int .i64
abbrev bc:CT := .int .u8
abbrev e9:CT := .pair (.sl bc) cI
def av(c:List Int×Int):Prop:=0<=c.2/\c.2<=c.1.length
end Go.RS

/- Draw: the choices of a law, with loose contracts: a number in its range. -/
namespace Go.RS
open Go.SX Go.Proofs
set_option maxRecDepth 100000
set_option linter.unusedVariables false
def rJ:Ct:=⟨[.val (.sl bc),.val cI],[.box 58 e9],fun d=>[0<=d.2.1],fun d=>(((if (d.1.length:Int)<=d.2.1 then d.1 else d.1.take d.2.1.toNat,0),()),())⟩
def yN:aA rJ.ps->aK:=(fun _=>{})
theorem vX :
 ∀(a:List Int)(b:Int),(a.length<=maxLen/\ ∀(c:Int),c∈a->0<=c/\c<=255)/\ak b/\True->0<=b->ax (decide (b< ↑a.length)) ((0:Int)<=0/\0<=b/\b<= ↑a.length/\(bH a (Int.toNat (0:Int)) b.toNat,(0:Int))=(if↑a.length<=b then a else List.take b.toNat a,(0:Int))) ((a,(0:Int))=(if↑a.length<=b then a else List.take b.toNat a,(0:Int))):=by
  rintro x y ⟨-,⟨h0,h1⟩,-⟩ h
  refine aM (fun hb=>?_) (fun hb=>?_)
  ·have hb:=of_decide_eq_true hb
   refine⟨by omega,h,by omega,?_⟩
   rw[if_neg (by omega)]
   simp[bH]
  ·have hb:=of_decide_eq_false hb
   rw[if_pos (by omega)]
theorem xT:aF Try.prog GL 10 rJ.spec:=Ct.okH _ Try.func10 (by kernel_rfl) aV az yN (aT (by kernel_rfl) vX)
def sk:Cn:=⟨[.box 58 e9,.val cI],[.val cI],fun d=>[av d.1,d.2.1<=256],fun d y=>0<=y.1.1/\(y.1.1<d.2.1∨y.1.1=0)/\av y.2.1,fun d h=>⟨((0,()),(d.1,())),by simp,by simp,h.1⟩⟩
def Aj:aA sk.ps->aK:=(fun _=>{})
def mb(a:List Int)(b c:Int) :=
 c≠(0:Int)/\0<=Int.tmod (IntKind.wrap .i64 (a.getD b.toNat default)) c/\(Int.tmod (IntKind.wrap .i64 (a.getD b.toNat default)) c<c∨Int.tmod (IntKind.wrap .i64 (a.getD b.toNat default)) c=0)/\av (a,IntKind.wrap .i64 (b+(1:Int)))
theorem wA :
 ∀(a:List Int)(b c:Int),((a.length<=maxLen/\ ∀(d:Int),d∈a->0<=d/\d<=255)/\ak b)/\ak c/\True->av (a,b)/\c<=256-> ∀(d:Bool),d=decide (a.length<=b)->((! d)->((! d)->(! d))/\True)/\(d=false->(! d))/\ax (bif d then true else decide (c<1)) ((0:Int)<=0/\(0<c∨(0:Int)=0)/\av (a,b)) (0<=b/\b< ↑a.length/\ax (decide (256<c)) False (mb a b c)):=by
  delta mb
  rintro l p n ⟨⟨⟨hl,hw⟩,h0,h1⟩,⟨h2,h3⟩,-⟩⟨⟨hc1,hc2⟩,hn⟩
  simp only[maxLen] at hl hc1 hc2
  (repeat (intro (b_:Bool) (hb_:b_=_);(repeat refine⟨(by first|(simp;done)|(rw[hb_];simp;done)|(rw[hb_];simp;omega)|(rw[hb_];simp;intros;omega)|(rw[hb_];simp +contextual;done)),?_⟩);subst hb_))
  refine aM (fun hb=>?_) (fun hb=>?_)
  ·exact⟨by omega,by simp,hc1,hc2⟩
  ·simp at hb
   obtain⟨hb1,hb2⟩:=hb
   obtain⟨hm0,hm1⟩:=hw _ (dC hc1 hb1)
   rw[au (by omega) (by omega),au (by omega) (by omega)]
   refine⟨hc1,hb1,aM (fun hb=>?_) (fun hb=>?_)⟩
   ·have:=of_decide_eq_true hb;omega
   ·exact⟨by omega,oV hm0,.inl (og hm0 (by omega)),by simp only[av];omega⟩
theorem vY:aF Try.prog GL 17 sk.spec:=Cn.okH _ Try.func17 (by kernel_rfl) aV az Aj (aT (by kernel_rfl) wA)
def rG:Cn:=⟨[.box 58 e9,.val cI],[.val cI],fun d=>[av d.1],fun d y=>0<=y.1.1/\(y.1.1<d.2.1∨y.1.1=0)/\av y.2.1,fun d h=>⟨((0,()),(d.1,())),by simp,by simp,h.1⟩⟩
def yr:aA rG.ps->aK:=(fun _=>{})
def mo(a:List Int)(b e:Int) :=
 IntKind.wrap .i64 (IntKind.wrap .i64 ((256:Int)*IntKind.wrap .i64 (a.getD b.toNat default))+e)
theorem xA :
 ∀(a:List Int)(b c:Int),((a.length<=maxLen/\ ∀(d:Int),d∈a->0<=d/\d<=255)/\ak b)/\ak c/\True->0<=b/\b<= ↑a.length-> ∀(d:Bool),d=decide (a.length<=b)->((! d)->((! d)->(! d))/\True)/\(d=false->(! d))/\ax (bif d then true else decide (c<1)) ((0:Int)<=0/\(0<c∨(0:Int)=0)/\av (a,b)) (0<=b/\b< ↑a.length/\ax (decide (256<c)) (av (a,IntKind.wrap .i64 (b+(1:Int)))/\(256:Int)<=256/\ ∀(e:Int)(f:List Int)(g:Int),0<=e/\(e<256∨e=0)/\av (f,g)->c≠(0:Int)/\0<=Int.tmod (mo a b e) c/\(Int.tmod (mo a b e) c<c∨Int.tmod (mo a b e) c=0)/\av (f,g)) (mb a b c)):=by
  delta mb mo
  rintro l p n ⟨⟨⟨hl,hw⟩,h0,h1⟩,⟨h2,h3⟩,-⟩⟨hc1,hc2⟩
  simp only[maxLen] at hl hc1 hc2
  (repeat (intro (b_:Bool) (hb_:b_=_);(repeat refine⟨(by first|(simp;done)|(rw[hb_];simp;done)|(rw[hb_];simp;omega)|(rw[hb_];simp;intros;omega)|(rw[hb_];simp +contextual;done)),?_⟩);subst hb_))
  refine aM (fun hb=>?_) (fun hb=>?_)
  ·exact⟨by omega,by simp,hc1,hc2⟩
  ·simp at hb
   obtain⟨hb1,hb2⟩:=hb
   obtain⟨hm0,hm1⟩:=hw _ (dC hc1 hb1)
   rw[au (by omega) (by omega),au (n:=l.getD p.toNat default) (by omega) (by omega)]
   refine⟨hc1,hb1,aM (fun hb=>?_) (fun hb=>?_)⟩
   ·refine⟨by simp only[av];omega,by omega,?_⟩
    rintro r l2 p2 ⟨hr0,hr1,hr2⟩
    rw[au (n:=256*_) (by omega) (by omega),au (by omega) (by omega)]
    exact⟨by omega,oV (by omega),.inl (og (by omega) (by omega)),hr2⟩
   ·exact⟨by omega,oV hm0,.inl (og hm0 (by omega)),by simp only[av];omega⟩
theorem lS:aF Try.prog GL 17 rG.spec:=Cn.okH _ Try.func17 (by kernel_rfl) (aD aV vY) az yr (aT (by kernel_rfl) xA)
end Go.RS

/- Mix: the mixing of 64 bits: what it is, and that it is one to one. -/
namespace Go.RS
open Go.SX
set_option linter.unusedVariables false
def xs(k a:Nat):Nat:=a ^^^ a/2^k
end Go.RS

/- Balance: mixing, hashing, choosing; the law's draws. -/
namespace Go.RS
open Go.SX Go.Proofs
set_option maxRecDepth 100000
set_option linter.unusedVariables false
def sI:Cn:=⟨[.box 58 e9],[.val cI],fun d=>[av d.1],fun d y=>av y.2.1 ∧ -9223372036854775808<=y.1.1/\y.1.1<=9223372036854775807,fun d h=>⟨((0,()),(d.1,())),h.1,by simp,by simp⟩⟩
def wX:aA sI.ps->aK:=(fun _=>{})
theorem wo :
 ∀(a:List Int)(b:Int),((a.length<=maxLen/\ ∀(c:Int),c∈a->0<=c/\c<=255)/\ak b)/\True->0<=b/\b<= ↑a.length->av (a,b)/\ ∀(c:Int)(d:List Int)(e:Int),0<=c/\(c<10∨c=0)/\av (d,e)->ax (decide (c=0)) (av (d,e)/\ ∀(f:Int)(g:List Int)(h:Int),0<=f/\(f<3∨f=0)/\av (g,h)->av (g,h)/\ -9223372036854775808<=IntKind.wrap .i64 ((-1:Int) -f)/\IntKind.wrap .i64 ((-1:Int) -f)<=9223372036854775807) (ax (decide (c=1)) (av (d,e)/\ ∀(f:Int)(g:List Int)(h:Int),0<=f/\(f<14∨f=0)/\av (g,h)->0<=f/\f< ↑(List.length [(9223372036854775807:Int),(-9223372036854775808:Int),(1125899906842624:Int),(1125899906842625:Int),(65535:Int),(65536:Int),(255:Int),(256:Int),(1023:Int),(1024:Int),(65534:Int),(65535:Int),(4294967296:Int),(4611686018427387905:Int)])/\av (g,h)/\ -9223372036854775808<=List.getD
 [(9223372036854775807:Int),(-9223372036854775808:Int),(1125899906842624:Int),(1125899906842625:Int),(65535:Int),(65536:Int),(255:Int),(256:Int),(1023:Int),(1024:Int),(65534:Int),(65535:Int),(4294967296:Int),(4611686018427387905:Int)] f.toNat default/\List.getD [(9223372036854775807:Int),(-9223372036854775808:Int),(1125899906842624:Int),(1125899906842625:Int),(65535:Int),(65536:Int),(255:Int),(256:Int),(1023:Int),(1024:Int),(65534:Int),(65535:Int),(4294967296:Int),(4611686018427387905:Int)] f.toNat default<=9223372036854775807) (ax (decide (c=2)) (av (d,e)/\ ∀(f:Int)(g:List Int)(h:Int),0<=f/\(f<256∨f=0)/\av (g,h)->av (g,h)/\ ∀(i:Int)(j:List Int)(k:Int),0<=i/\(i<256∨i=0)/\av (j,k)->av (j,k)/\ -9223372036854775808<=IntKind.wrap .i64 (IntKind.wrap .i64 ((256:Int)*f)+i)/\IntKind.wrap .i64 (IntKind.wrap .i64 ((256:Int)*f)+i)<=9223372036854775807) (av (d,e)/\ ∀(f:Int)(g:List Int)
 (h:Int),0<=f/\(f<40∨f=0)/\av (g,h)->av (g,h)/\ak f))):=by
  rintro l p-h
  refine⟨h,?_⟩
  rintro r l2 p2 ⟨h1,h2,h3⟩
  refine aM (fun hb=>⟨h3,?_⟩) (fun hb=>aM (fun hb=>⟨h3,?_⟩) (fun hb=>aM (fun hb=>⟨h3,?_⟩) (fun hb=>⟨h3,?_⟩)))
  ·rintro a l4 p4 ⟨h4,h5,h6⟩
   exact⟨h6,qJ _⟩
  ·rintro a l4 p4 ⟨h4,h5,h6⟩
   refine⟨h4,by simp;omega,h6,?_⟩
   exact wP (p:=fun v => -9223372036854775808<=v/\v<=9223372036854775807) (by simp) h4 (by simp;omega)
  ·rintro a l4 p4 ⟨h4,h5,h6⟩
   refine⟨h6,?_⟩
   rintro a l4 p4 ⟨h4,h5,h6⟩
   exact⟨h6,qJ _⟩
  ·rintro a l4 p4 ⟨h4,h5,h6⟩
   exact⟨h6,by omega,by omega⟩
theorem xn:aF Try.prog GL 22 sI.spec:=Cn.okH _ Try.func22 (by kernel_rfl) (aD aV lS) az wX (aT (by kernel_rfl) wo)
def f6(x n:Int):Int:=(IntKind.wrap .i64 (x.tmod n+n)).tmod n
def rB:Ct:=⟨[.val cI,.val cI],[.val cI],fun d=>[d.2.1≠0],fun d=>((f6 d.1 d.2.1,()),())⟩
def wk:aA rB.ps->aK:=(fun _=>{})
theorem zV :
 ∀(a b:Int),ak a/\ak b/\True->(b=0->False)->b≠(0:Int)/\b≠(0:Int)/\Int.tmod (IntKind.wrap .i64 (Int.tmod a b+b)) b=f6 a b:=by
  rintro x n-h
  exact⟨h,h,rfl⟩
theorem xm:aF Try.prog GL 39 rB.spec:=Ct.okH _ Try.func39 (by kernel_rfl) aV az wk (aT (by kernel_rfl) zV)
end Go.RS

/- Ident: identifiers of answers. -/
namespace Go.RS
open Go.SX Go.Proofs
set_option maxRecDepth 100000
set_option linter.unusedVariables false
end Go.RS

/- Wire: numbers in bytes, the Internet checksum. -/
namespace Go.RS
open Go.SX Go.Proofs
set_option maxRecDepth 100000
set_option linter.unusedVariables false
def cX(n:Int)(w k:Nat):List Int:=(List.range k).map fun j=>n/256^(w-1-j)%256
def cS(l:List Int):Int:=l.foldl (fun n x=>n*256+x) 0
def gE(b:List Int)(at' w:Int):Int:=if w<1∨7<w∨at'<0∨b.length-w<at' then 0 else cS ((b.drop at'.toNat).take w.toNat)
def j6(b:List Int)(at' w:Int):Int:=if w<1∨7<w∨at'<0 then 1 else if b.length-w<at' then 3 else 0
theorem w5(a b:Nat)(ha:a<9223372036854775808)(hb:b<9223372036854775808):bits .or .i64 (a:Int) (b:Int)=((a ||| b:Nat):Int):=by
 have h:a ||| b<2^63:=Nat.or_lt_two_pow (by omega) (by omega)
 have key:(BitVec.ofInt 64 (a:Int) ||| BitVec.ofInt 64 (b:Int)).toNat=a ||| b:=by
  rw[BitVec.toNat_or,BitVec.toNat_ofInt,BitVec.toNat_ofInt]
  have e1:((a:Int)%((2^64:Nat):Int)).toNat=a:=by omega
  have e2:((b:Int)%((2^64:Nat):Int)).toNat=b:=by omega
  rw[e1,e2]
 show IntKind.i64.wrap ((BitVec.ofInt 64 (a:Int) ||| BitVec.ofInt 64 (b:Int)).toNat:Nat)=_
 rw[key,au (by omega) (by omega)]
theorem ww{n:Int}(h0:0<=n)(h1:n<=36028797018963967):hS .i64 n 8=n*256:=by
 show IntKind.i64.wrap (n*2^(min 8 64))=_
 rw[au (by simp;omega) (by simp;omega)];rfl
theorem yz{n x:Int}(h0:0<=n)(h1:n<=36028797018963966)(h2:0<=x)(h3:x<=255):bits .or .i64 (hS .i64 n 8) (IntKind.wrap .i64 x)=n*256+x:=by
 rw[ww h0 (by omega),au (n:=x) (by omega) (by omega)]
 obtain⟨m,rfl⟩:=Int.eq_ofNat_of_zero_le h0
 obtain⟨y,rfl⟩:=Int.eq_ofNat_of_zero_le h2
 have:=w5 (m*256) y (by omega) (by omega)
 rw[nat_join 8 (m*256) y (by omega) (by omega)] at this
 push_cast at this
 exact this
theorem vH{n:Int}{k:Nat}(h0:0<=n)(hk:k<8):dP .i64 n (8*k)=n/256^k:=by
 unfold dP
 have hm:min ((8*(k:Int))).toNat IntKind.i64.bits=8*k:=by simp only[IntKind.bits];omega
 rw[hm,Int.fdiv_eq_ediv_of_nonneg _ (Int.le_of_lt (Int.pow_pos (by decide))),Int.pow_mul]
 rfl
theorem jO(n:Int)(w k:Nat):(cX n w k).length=k:=by unfold cX;simp
theorem rC(l:List Int)(x:Int):cS (l++[x])=cS l*256+x:=by unfold cS;rw[List.foldl_append];rfl
theorem vE:∀(k:Nat)(l:List Int),l.length<=k->(∀ x∈l,0<=x/\x<=255)->0<=cS l/\cS l<256^k:=by
 intro k
 induction k with
 | zero =>
  intro l hl _
  have:l=[]:=List.eq_nil_of_length_eq_zero (by omega)
  subst this;exact⟨by decide,by decide⟩
 | succ k ih =>
  intro l hl hx
  rcases List.eq_nil_or_concat l with rfl|⟨m,x,rfl⟩
  ·exact⟨by decide,Int.pow_pos (by decide)⟩
  ·rw[List.concat_eq_append] at hl hx ⊢
   have h1:=ih m (by simp at hl;omega) (fun y hy=>hx y (List.mem_append_left _ hy))
   have h2:=hx x (by simp)
   rw[rC,Int.pow_succ]
   generalize (256:Int)^k=P at h1 ⊢
   omega
theorem wb{l:List Int}(hl:l.length<=6)(hx:∀ x∈l,0<=x/\x<=255):0<=cS l/\cS l<=281474976710655:=by
 have:=vE 6 l hl hx
 have e:(256:Int)^6=281474976710656:=by decide
 omega
theorem nV{l:List Int}{j:Int}(h0:0<=j)(h1:j<l.length):l.take (j+1).toNat=l.take j.toNat++[l.getD j.toNat default]:=by
 have hj:j.toNat<l.length:=by omega
 rw[show (j+1).toNat=j.toNat+1 from by omega,List.take_succ_eq_append_getElem hj,List.getD_eq_getElem?_getD,List.getElem?_eq_getElem hj,Option.getD_some]
def r5:Ct:=⟨[.val (.sl bc)],[.own 5 bc],fun d=>[(d.1.length:Int)<=1099511627776],fun d=>((d.1,()),())⟩
def z8:aA r5.ps->aK:=(fun _=>{})
theorem v9 :
 ∀(a:List Int),(a.length<=maxLen/\ ∀(b:Int),b∈a->0<=b/\b<=255)/\True->(a.length:Int)<=1099511627776-> ∀(b:Bool),(b=true->a.length=(0:Nat))->ax b (([]:List Int)=a) (((0:Nat)+a.length)*(1:Nat)<=(140737488355328:Nat)/\a=a):=by
  rintro x ⟨⟨hl,-⟩,-⟩ h b hb
  refine aM (fun h1=>?_) (fun h1=>⟨by omega,rfl⟩)
  have:=hb h1
  exact (List.eq_nil_of_length_eq_zero this).symm
theorem js:aF Try.prog GL 37 r5.spec:=Ct.okH _ Try.func37 (by kernel_rfl) aV az z8 (aT (by kernel_rfl) v9)
def pF:Ct:=⟨[.val (.sl bc),.val cI,.val cI],[.val cI,.val cI],fun d=>[(d.1.length:Int)<=9223372036854775807],fun d=>((gE d.1 d.2.1 d.2.2.1,j6 d.1 d.2.1 d.2.2.1,()),())⟩
def uo:aA pF.ps->aK:=(fun d=>{loops:=(fun n=>match n with|7=>some (fun S=>{ι:=Int×Int,qn:=⟨fun k_=>∀(j:Int)(n:Int),k_ (j,n),fun k_ h_ i=>h_ i.1 i.2,fun k_=>∃ (j:Int) (n:Int),k_ (j,n),fun k_ ⟨j,n,h_⟩=>⟨_,h_⟩⟩,μ:=fun i=>(d.2.2.1-i.1).toNat,inv:=fun i=>0<=i.1/\i.1<=d.2.2.1/\i.2=cS (((d.1.drop d.2.1.toNat).take d.2.2.1.toNat).take i.1.toNat),keep:=[34,35],slots:=fun i=>[(8,.int .i64 i.2),(36,.int .i64 i.1)],names:=fun i=>[]})|_=>none)})
def ip(b c:Int) :=
 Int.toNat (IntKind.wrap .i64 (b+c))
def iw(a:List Int)(b c:Int) :=
 ((List.length (bH a b.toNat (ip b c))):Int)
theorem zE :
 ∀(a:List Int)(b c:Int),(a.length<=maxLen/\ ∀(d:Int),d∈a->0<=d/\d<=255)/\ak b/\ak c/\True->(a.length:Int)<=9223372036854775807-> ∀(d:Bool),d=decide (c<1)->((! d)->((! d)->(! d))/\True)/\(d=false->(! d))/\ ∀(e:Bool),(e=bif d then true else decide (7<c))->((! e)->((! e)->(! e))/\True)/\(e=false->(! e))/\ax (bif e then true else decide (b<0)) ((0:Int)=gE a b c/\(1:Int)=j6 a b c) (ax (decide (IntKind.wrap .i64 ((a.length:Int) -c)<b)) ((0:Int)=gE a b c/\(3:Int)=j6 a b c) (0<=b/\b<=IntKind.wrap .i64 (b+c)/\IntKind.wrap .i64 (b+c)<=(a.length:Int)/\(∃(f:Int) (g:Int),(0<=f/\f<=c/\g=cS (List.take f.toNat (List.take c.toNat (List.drop b.toNat a))))/\(0:Int)=g/\bH a b.toNat (ip b c)=bH a b.toNat (ip b c)/\(iw a b c)=(iw a b c)/\(0:Int)=f/\True)/\ ∀(f g:Int),0<=f/\f<=c/\g=cS (List.take f.toNat (List.take c.toNat (List.drop b.toNat a)))->ax (decide (f<(iw a b c)))
 (0<=f/\f<(iw a b c)/\(0:Int)<=8/\ ∃(h:Int) (i:Int),(0<=h/\h<=c/\i=cS (List.take h.toNat (List.take c.toNat (List.drop b.toNat a))))/\Int.toNat (c -h)<Int.toNat (c -f)/\bits BinOp.or IntKind.i64 (hS IntKind.i64 g (8:Int)) (IntKind.wrap .i64 (List.getD (bH a b.toNat (ip b c)) f.toNat default))=i/\bH a b.toNat (ip b c)=bH a b.toNat (ip b c)/\(iw a b c)=(iw a b c)/\IntKind.wrap .i64 (f+(1:Int))=h/\True) (g=gE a b c/\(0:Int)=j6 a b c))):=by
  delta iw ip
  rintro b a w ⟨⟨hl0,hx⟩,⟨a0,a1⟩,⟨w0,w1⟩,-⟩ hl
  (repeat (intro (b_:Bool) (hb_:b_=_);(repeat refine⟨(by first|(simp;done)|(rw[hb_];simp;done)|(rw[hb_];simp;omega)|(rw[hb_];simp;intros;omega)|(rw[hb_];simp +contextual;done)),?_⟩);subst hb_))
  unfold gE j6
  refine aM (fun hc=>?_) (fun hc=>?_)
  ·have h:w<1∨7<w∨a<0:=by simp[Bool.cond_eq_ite] at hc;omega
   rw[if_pos (by omega),if_pos h];exact⟨rfl,rfl⟩
  have h:¬ (w<1∨7<w∨a<0):=by simp[Bool.cond_eq_ite] at hc;omega
  rw[au (n:=(b.length:Int)-w) (by omega) (by omega),if_neg h]
  refine aM (fun hd=>?_) (fun hd=>?_)
  ·have hd:=of_decide_eq_true hd
   rw[if_pos (by omega),if_pos hd];exact⟨rfl,rfl⟩
  have hd:=of_decide_eq_false hd
  rw[if_neg (by omega),if_neg hd,au (n:=a+w) (by omega) (by omega)]
  have hsub:bH b a.toNat (a+w).toNat=(b.drop a.toNat).take w.toNat:=by
   unfold bH;rw[List.drop_take,show (a+w).toNat-a.toNat=w.toNat from by omega]
  rw[hsub]
  have hlen:((b.drop a.toNat).take w.toNat).length=w.toNat:=by rw[List.length_take,List.length_drop];omega
  have hy:∀ y∈(b.drop a.toNat).take w.toNat,0<=y/\y<=255:=fun y hy=>hx y (List.mem_of_mem_drop (List.mem_of_mem_take hy))
  generalize (b.drop a.toNat).take w.toNat=m at *
  rw[hlen]
  refine⟨by omega,by omega,by omega,⟨0,0,⟨by omega,by omega,by simp[cS]⟩,(by repeat' first|exact trivial|refine⟨trivial,?_⟩|refine⟨(by with_reducible rfl),?_⟩|refine⟨au (by omega) (by omega),?_⟩|refine⟨rfl,?_⟩)⟩,?_⟩
  rintro j n ⟨j0,j1,rfl⟩
  refine aM (fun hj=>?_) (fun hj=>?_)
  ·have hj:=of_decide_eq_true hj
   have ht:=nV (l:=m) j0 (by omega)
   obtain⟨x0,x1⟩:=hy _ (dC (xs:=m) j0 (by omega))
   have hb:=wb (l:=m.take j.toNat) (by rw[List.length_take];omega) (fun y h=>hy y (List.mem_of_mem_take h))
   refine⟨j0,hj,by omega,j+1,_,⟨by omega,by omega,rfl⟩,by omega,?_,rfl,rfl,au (by omega) (by omega),trivial⟩
   rw[ht,rC,yz hb.1 (by omega) x0 x1]
  ·have hj:=of_decide_eq_false hj
   rw[List.take_of_length_le (by omega)];exact⟨rfl,rfl⟩
theorem vm:aF Try.prog GL 92 pF.spec:=Ct.okH _ Try.func92 (by kernel_rfl) aV az uo (aT (by kernel_rfl) zE)
def sH:Ct:=⟨[.val (.sl bc),.val (.sl bc)],[.val .bool],fun d=>[],fun d=>((decide (d.1=d.2.1),()),())⟩
def yX:aA sH.ps->aK:=(fun d=>{loops:=(fun n=>match n with|4=>some (fun S=>{ι:=Int,μ:=fun i=>(d.1.length-i).toNat,inv:=fun i=>0<=i/\i<=d.1.length/\d.1.take i.toNat=d.2.1.take i.toNat,keep:=[0,1],slots:=fun i=>[(5,.int .i64 i)],names:=fun i=>[]})|_=>none)})
theorem uZ :
 ∀(a b:List Int),(a.length<=maxLen/\ ∀(c:Int),c∈a->0<=c/\c<=255)/\(b.length<=maxLen/\ ∀(c:Int),c∈b->0<=c/\c<=255)/\True->True->ax (! decide ((a.length:Int)=(b.length:Int))) (false=decide (a=b)) ((∃(c:Int),(0<=c/\c<=(a.length:Int)/\List.take c.toNat a=List.take c.toNat b)/\a=a/\b=b/\(0:Int)=c/\True)/\ ∀(c:Int),0<=c/\c<=(a.length:Int)/\List.take c.toNat a=List.take c.toNat b->ax (decide (c<(a.length:Int))) (0<=c/\c<(a.length:Int)/\0<=c/\c<(b.length:Int)/\ax (! decide (a.getD c.toNat default=b.getD c.toNat default)) (false=decide (a=b)) (∃(d:Int),(0<=d/\d<=(a.length:Int)/\List.take d.toNat a=List.take d.toNat b)/\Int.toNat ((a.length:Int) -d)<Int.toNat ((a.length:Int) -c)/\a=a/\b=b/\IntKind.wrap .i64 (c+(1:Int))=d/\True)) (true=decide (a=b))):=by
  rintro l m ⟨⟨hl,-⟩,⟨hm,-⟩,-⟩ -
  simp only[maxLen] at hl hm
  refine aM (fun hc=>?_) (fun hc=>?_)
  ·symm;apply decide_eq_false
   intro h;cases h;simp at hc
  ·have hc:l.length=m.length:=by simp at hc;omega
   refine⟨⟨0,⟨by omega,by omega,by simp⟩,(by repeat' first|exact trivial|refine⟨trivial,?_⟩|refine⟨(by with_reducible rfl),?_⟩|refine⟨au (by omega) (by omega),?_⟩|refine⟨rfl,?_⟩)⟩,?_⟩
   rintro i ⟨h0,h1,h2⟩
   refine aM (fun hi=>?_) (fun hi=>?_)
   ·have hi:=of_decide_eq_true hi
    refine⟨h0,hi,h0,by omega,aM (fun hq=>?_) (fun hq=>?_)⟩
    ·symm;apply decide_eq_false
     intro h;cases h;simp at hq
    ·simp only[Bool.not_eq_false',decide_eq_true_eq] at hq
     refine⟨i+1,⟨by omega,by omega,?_⟩,by omega,(by repeat' first|exact trivial|refine⟨trivial,?_⟩|refine⟨(by with_reducible rfl),?_⟩|refine⟨au (by omega) (by omega),?_⟩|refine⟨rfl,?_⟩)⟩
     rw[nV h0 hi,nV h0 (by omega),h2,hq]
   ·have hi:=of_decide_eq_false hi
    rw[List.take_of_length_le (by omega),List.take_of_length_le (by omega)] at h2
    symm;apply decide_eq_true;rw[h2]
theorem xt:aF Try.prog GL 36 sH.spec:=Ct.okH _ Try.func36 (by kernel_rfl) aV az yX (aT (by kernel_rfl) uZ)
end Go.RS

/- Xch0: what an exchange does: messages under way, what the receiver takes, a tick. -/
namespace Go.RS
open Go.SX Go.Proofs
set_option maxRecDepth 100000
set_option linter.unusedVariables false
abbrev ah:=Int×Int×List Int
abbrev aE:=Int×List Int
abbrev aL:=Bool×Int×Int
abbrev ao:=Int×Int×Int×List (List Int)×Int×List (List Int)×List aE×List ah×List ah
abbrev bE:CT := .pair cI (.pair cI (.sl bc))
abbrev dV:CT := .pair cI (.sl bc)
abbrev d7:CT := .pair .bool (.pair cI cI)
abbrev dQ:CT := .pair cI (.pair cI (.pair cI (.pair (.sl (.sl bc)) (.pair cI (.pair (.sl (.sl bc)) (.pair (.sl dV) (.pair (.sl bE) (.sl bE))))))))
def ae(c:ao):Int:=c.1
def bN(c:ao):Int:=c.2.1
def aO(c:ao):Int:=c.2.2.1
def aj(c:ao):List (List Int):=c.2.2.2.1
def aQ(c:ao):Int:=c.2.2.2.2.1
def aC(c:ao):List (List Int):=c.2.2.2.2.2.1
def cz(c:ao):List aE:=c.2.2.2.2.2.2.1
def bi(c:ao):List ah:=c.2.2.2.2.2.2.2.1
def bD(c:ao):List ah:=c.2.2.2.2.2.2.2.2
def bd(b:List Int)(at':Int):Int:=gE b at' 2
def ch(i:Int)(it:List Int):List Int:=68::(cX i 2 2++it)
def d8:List Int->List Int
 | []=>[]
 | i::r=>cX i 2 2++d8 r
def bT(g:Int)(es:List Int):List Int:=65::(cX g 2 2++d8 es)
def cT:List Int->List Int
 | a::b::r=>(a*256+b)::cT r
 | _=>[]
def u16(i:Int):Prop:=0<=i/\i<=65535
theorem fv(i:Int):cX i 2 2=[i/256%256,i%256]:=by
 unfold cX
 simp[List.range_succ]
theorem qg(a b:Int):cS [a,b]=a*256+b:=by unfold cS;simp
theorem r6{i:Int}(h:u16 i):cS (cX i 2 2)=i:=by
 unfold u16 at h
 rw[fv,qg];omega
theorem pj{b:List Int}{n:Nat}(h:n+2<=b.length):bd b n=cS ((b.drop n).take 2):=by
 unfold bd gE
 rw[if_neg (by omega)]
 rfl
theorem rL{i:Int}(h:u16 i)(it:List Int):bd (ch i it) 1=i:=by
 rw[show (1:Int)=((1:Nat):Int) from rfl,pj (by unfold ch;rw[List.length_cons,List.length_append,jO];omega)]
 unfold ch
 rw[fv]
 show cS [i/256%256,i%256]=i
 rw[← fv,r6 h]
theorem wV(i:Int)(it:List Int):(ch i it).drop 3=it:=by
 unfold ch;rw[fv];rfl
theorem mT(i:Int)(it:List Int):(ch i it).length=it.length+3:=by
 unfold ch;rw[fv];rfl
theorem pP:∀ es:List Int,(d8 es).length=2*es.length
 | []=>rfl
 | i::r=>by rw[d8,List.length_append,jO,pP r,List.length_cons];omega
theorem nh(g:Int)(es:List Int):(bT g es).length=3+2*es.length:=by
 unfold bT;rw[List.length_cons,List.length_append,jO,pP];omega
theorem oq{g:Int}(h:u16 g)(es:List Int):bd (bT g es) 1=g:=by
 rw[show (1:Int)=((1:Nat):Int) from rfl,pj (by rw[nh];omega)]
 unfold bT
 rw[fv]
 show cS [g/256%256,g%256]=g
 rw[← fv,r6 h]
theorem tf(g:Int)(es:List Int):(bT g es).drop 3=d8 es:=by
 unfold bT;rw[fv];rfl
theorem rR:∀{es:List Int},(∀ e∈es,u16 e)->cT (d8 es)=es
 | [],_=>rfl
 | i::r,h=>by
  have h0:=h i List.mem_cons_self
  unfold u16 at h0
  rw[d8,fv]
  show (i/256%256*256+i%256)::cT (d8 r)=_
  rw[rR fun e he=>h e (List.mem_cons_of_mem _ he),show i/256%256*256+i%256=i by omega]
def cF(l:List ah)(t:ah):List ah:=(l.takeWhile fun x=>decide (x.1<=t.1))++t::l.dropWhile fun x=>decide (x.1<=t.1)
def cj(now d:Int)(b:List Int):Nat->Int->Int×List ah->Int×List ah
 | 0,_,s=>s
 | n+1,k,s=>if s.2.length<4096 then cj now d b n (k+1) (s.1+1,cF s.2 (now+1+d+k,s.1,b)) else s
def bm(now:Int)(b:List Int)(f:aL)(s:Int×List ah):Int×List ah:=if f.1=true then s else cj now f.2.1 b (f.2.2+1).toNat 0 s
def bz(l:List aL)(i:Nat):aL:=l.getD i (false,0,0)
def cW(l:List aL):Prop:=∀ f∈l,(0<=f.2.1/\f.2.1<=1000)/\0<=f.2.2/\f.2.2<=8
def cQ:List aE->List (List Int)->List (List Int)×List aE
 | [],g=>(g,[])
 | x::r,g=>if x.1=g.length then cQ r (g++[x.2]) else (g,x::r)
def gM(l:List aE)(x:aE):List aE:=(l.takeWhile fun y=>decide (y.1<x.1))++x::l.dropWhile fun y=>decide (y.1<x.1)
def ct(lim:Int)(s:List (List Int)×List aE)(i:Int)(it:List Int):List (List Int)×List aE :=
 if i=s.1.length then cQ s.2 (s.1++[it]) else if i<s.1.length∨lim<=i∨(s.2.any fun x=>decide (x.1=i))=true then s else (s.1,gM s.2 (i,it))
def af(now:Int)(l:List ah):List ah:=l.takeWhile fun t=>decide (t.1<=now)
def a9(now:Int)(l:List ah):List ah:=l.dropWhile fun t=>decide (t.1<=now)
def cB(lim:Int)(l:List ah)(s:List (List Int)×List aE):List (List Int)×List aE:=l.foldl (fun s t=>ct lim s (bd t.2.2 1) (t.2.2.drop 3)) s
def cf(now:Int)(log:List (List Int))(down:List aL):List Int->Nat->Int×List ah->Int×List ah
 | [],_,s=>s
 | i::r,j,s=>cf now log down r (j+1) (bm now (ch i (log.getD i.toNat default)) (bz down j) s)
def dB(a b:Int):List Int:=(List.range (b-a).toNat).map fun k:Nat=>a+(k:Int)
def b8(k:Int)(l:List ah):Int:=l.foldl (fun k t=>max k (bd t.2.2 1)) k
def bU(l:List ah):List Int:=l.flatMap fun t=>cT (t.2.2.drop 3)
def a8(c:ao):List (List Int)×List aE:=cB (aQ c+aO c) (af (ae c+1) (bi c)) (aC c,cz c)
def aP(c:ao)(up:List aL):Int×List ah:=if af (ae c+1) (bi c)=[] then (bN c,bD c) else bm (ae c+1) (bT ((a8 c).1.length:Int) ((a8 c).2.map (·.1))) (bz up 0) (bN c,bD c)
def dZ(c:ao)(up:List aL):List ah:=af (ae c+1) (aP c up).2
def aJ(c:ao)(up:List aL):Int:=b8 (aQ c) (dZ c up)
def db(c:ao)(up:List aL):List Int:=(dB (aJ c up) (min ((aj c).length:Int) (aJ c up+aO c))).filter fun i => !(bU (dZ c up)).contains i
def dr(c:ao)(down up:List aL):Int×List ah:=cf (ae c+1) (aj c) down (db c up) 0 ((aP c up).1,a9 (ae c+1) (bi c))
def aS(c:ao)(down up:List aL):ao :=
 (ae c+1,(dr c down up).1,aO c,aj c,aJ c up,(a8 c).1,(a8 c).2,(dr c down up).2,a9 (ae c+1) (aP c up).2)
def a7:Nat->ao->ao
 | 0,c=>c
 | n+1,c=>a7 n (aS c [] [])
theorem tc:∀(m n:Nat)(c:ao),a7 n (a7 m c)=a7 (m+n) c
 | 0,n,c=>by rw[Nat.zero_add];rfl
 | m+1,n,c=>by rw[Nat.succ_add];exact tc m n (aS c [] [])
theorem gp:∀(n:Nat)(c:ao),a7 (n+1) c=aS (a7 n c) [] []
 | 0,c=>rfl
 | n+1,c=>gp n (aS c [] [])
def gn(c:ao)(it:List Int):ao:=(ae c,bN c,aO c,aj c++[it],aQ c,aC c,cz c,bi c,bD c)
def e6(w:Int):ao:=(0,0,w,[],0,[],[],[],[])
def sO(c:ao):Bool:=decide ((aC c).length=(aj c).length)&&decide (aQ c=(aj c).length)
theorem mem_range{a b i:Int}:i∈dB a b↔a<=i/\i<b:=by
 unfold dB
 rw[List.mem_map]
 constructor
 ·rintro⟨k,hk,rfl⟩
  have:=List.mem_range.1 hk
  omega
 ·intro h
  exact⟨(i-a).toNat,List.mem_range.2 (by omega),by omega⟩
end Go.RS
