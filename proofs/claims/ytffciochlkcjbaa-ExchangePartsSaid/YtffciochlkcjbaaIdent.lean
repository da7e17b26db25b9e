/- SX, part 21: a function's contract, off its symbolic run. -/
import Derived.Test.YtffciochlkcjbaaSx20
import Derived.Laws.Sem
import Derived.Laws.NewBlocks
import Derived.ProofKit
import Derived.OpenShut
import Derived.ChangeOld
import Derived.Below
import Derived.KernelRfl
import Derived.Test.YtffciochlkcjbaaChecked
import Derived.Laws.Bits64
import Derived.Laws.Bits128
import Derived.Laws.BitsAllLaws
namespace Go.SX
set_option linter.unusedVariables false
def CT.plain:CT->Bool
 | .sl _=>false
 | .pair a b=>a.plain&&b.plain
 | _=>true
theorem pG{A A':Nat->Prop}{w w':World}:∀{t:CT}{cv:Nat->Option Value}{o:Nat}{d:t.D},t.plain=true->Rd A w t cv o d->Rd A' w' t cv o d
 | .int k,cv,o,d,_,h=>h
 | .bool,cv,o,d,_,h=>h
 | .str,cv,o,d,_,h=>h
 | .sl t,cv,o,d,hp,_=>by cases hp
 | .pair a b,cv,o,d,hp,h=>by
  simp only[CT.plain,Bool.and_eq_true] at hp
  exact⟨pG hp.1 h.1,pG hp.2 h.2⟩
theorem mr{A A':Nat->Prop}{w:World}{t:CT}{cv:Nat->Option Value}{o:Nat}{d:t.D}(L:t.plain=true∨∀ b,A b->A' b)(h:Rd A w t cv o d):Rd A' w t cv o d:=by
 rcases L with L|L
 ·exact pG L h
 ·exact bQ L (fun _ _ _=>rfl) t _ _ _ _ (fun _ _=>rfl) h
inductive RK where
 | val (t:CT)
 | agg (o:OT)
 | own (E:TypeId) (t:CT)
 | box (E:TypeId) (o:OT)
 | fn (f:FuncId) (k:Nat)
@[reducible] def RK.D:RK->Type
 | .val t=>t.D
 | .agg o=>o.X
 | .own _ t=>List t.D
 | .box _ o=>o.X
 | .fn _ _=>Unit
@[reducible] def cj:List RK->Type
 | []=>Unit
 | p::r=>p.D×cj r
@[reducible] def bB:List PK->Type
 | []=>Unit
 | .val _::r=>bB r
 | .agg _::r=>bB r
 | .own _ _::r=>bB r
 | .ago _::r=>bB r
 | .fn _ _::r=>bB r
 | .nils::r=>bB r
 | .box _ o::r=>o.X×bB r
 | .row _ t::r=>List t.D×bB r
def OT.plain:OT->Bool
 | .dat t=>t.plain
 | .row _ t=>t.plain
 | .rowg _ _=>true
 | .fnc _=>true
 | .ali=>true
 | .hole _=>true
 | .ref _ o=>o.plain
 | .pair a b=>a.plain&&b.plain
def gh:List RK->Bool
 | []=>true
 | .val t::r=>t.plain&&gh r
 | .agg o::r=>o.plain&&gh r
 | .own _ t::r=>t.plain&&gh r
 | .box _ o::r=>o.plain&&gh r
 | .fn _ _::r=>gh r
def c7:List PK->Bool
 | []=>true
 | .val _::r=>c7 r
 | .agg _::r=>c7 r
 | .own _ _::r=>c7 r
 | .ago _::r=>c7 r
 | .fn _ _::r=>c7 r
 | .nils::r=>c7 r
 | .box _ o::r=>o.plain&&c7 r
 | .row _ t::r=>t.plain&&c7 r
structure Ct where
 ps:List PK
 rs:List RK
 pre:aI ps->List Prop
 out:aI ps->cj rs×bB ps
def kX(E:TypeId)(t:CT)(h:aC):List SV->Option (List t.D×List SV×Option Nat)
 | .own m sz::r=>match h m with
  | .live (.row E' t' xs)=>match Nat.beq E E',Nat.beq sz t.size,bN t' t xs with
   | true,true,some ys=>some (ys,r,some m)
   | _,_,_=>none
  | _=>none
 | .nilsl::r=>some ([],r,none)
 | _=>none
def cK(h:aC)(al:Bool):(o:OT)->Option Nat->List SV->Option (o.X×List SV×List (Nat×Nm)×List (Option Nat))
 | .dat t,_,cs=>match (cn t cs).run h with
  | some ((x,r,fz),_)=>some (x,r,fz,[])
  | none=>none
 | .row E t,_,cs=>match kX E t h cs with
  | some (ys,r,o)=>some (ys,r,[],[o])
  | none=>none
 | .rowg _ _,_,_::r=>some ((),r,[],[])
 | .rowg _ _,_,[]=>none
 | .fnc f,_,.fn g []::r=>match Nat.beq f g with
  | true=>some ((),r,[],[])
  | false=>none
 | .fnc _,_,_=>none
 | .ali,_,.ptr m 0::r=>match al,Nat.beq m PN with
  | true,true=>some ((),r,[],[])
  | _,_=>none
 | .ali,_,_=>none
 | .hole i,_,.hv j s::r=>match Nat.beq j (HN+i) with
  | true=>some (s,r,[],[])
  | false=>none
 | .hole _,_,_=>none
 | .ref E o,some j,.ptr m 0::r=>match Nat.beq m (PN+j),h m with
  | true,.live (.cells E' cs)=>match Nat.beq E E',cK h al o (some (j+1)) cs with
   | true,some (x,[],fz,ow)=>some (x,r,fz,ow)
   | _,_=>none
  | _,_=>none
 | .ref _ _,_,_=>none
 | .pair a b,j,cs=>match cK h al a j cs with
  | some (x,r,f,w)=>match cK h al b (j.map (· + a.nb)) r with
   | some (y,r',f',w')=>some ((x,y),r',f++f',w++w')
   | none=>none
  | none=>none
def dj(al:Bool):(rs:List RK)->List SV->aC->Option (cj rs×List (Nat×Nm)×List (Option Nat))
 | [],[],_=>some ((),[],[])
 | .val t::rs,v::vs,h=>match (cn t [v]).run h with
  | some ((x,[],fz),_)=>match dj al rs vs h with
   | some (y,f,o)=>some ((x,y),fz++f,o)
   | none=>none
  | _=>none
 | .agg t::rs,.agg cs::vs,h=>match cK h al t none cs with
  | some (x,[],fz,w)=>match dj al rs vs h with
   | some (y,f,o)=>some ((x,y),fz++f,w++o)
   | none=>none
  | _=>none
 | .own E t::rs,v::vs,h=>match kX E t h [v] with
  | some (x,_,w)=>match dj al rs vs h with
   | some (y,f,o)=>some ((x,y),f,w::o)
   | none=>none
  | none=>none
 | .box E t::rs,.ptr m 0::vs,h=>match h m with
  | .live (.cells E' cs)=>match Nat.beq E E',cK h al t none cs with
   | true,some (x,[],fz,w)=>match dj al rs vs h with
    | some (y,f,o)=>some ((x,y),fz++f,some m::(w++o))
    | none=>none
   | _,_=>none
  | _=>none
 | .fn f k::rs,.fn g cs::vs,h=>match Nat.beq f g,Nat.beq cs.length k with
  | true,true=>match dj al rs (cs++vs) h with
   | some (y,f',o)=>some (((),y),f',o)
   | none=>none
  | _,_=>none
 | _,_,_=>none
def cZ:(ps:List PK)->Nat->aC->Option (bB ps×List (Nat×Nm)×List (Option Nat))
 | [],_,_=>some ((),[],[])
 | .val _::ps,j,h=>cZ ps j h
 | .agg _::ps,j,h=>cZ ps j h
 | .own _ _::ps,j,h=>cZ ps j h
 | .ago _::ps,j,h=>cZ ps j h
 | .fn _ _::ps,j,h=>cZ ps j h
 | .nils::ps,j,h=>cZ ps j h
 | .box E t::ps,j,h=>match h (PN+j) with
  | .live (.cells E' cs)=>match Nat.beq E E',cK h true t (some (j+1)) cs with
   | true,some (x,[],fz,w)=>match cZ ps (j+1+t.nb) h with
    | some (y,f,o)=>some ((x,y),fz++f,w++o)
    | none=>none
   | _,_=>none
  | _=>none
 | .row E t::ps,j,h=>match h (PN+j) with
  | .live (.row E' t' xs)=>match Nat.beq E E',bN t' t xs with
   | true,some ys=>match cZ ps (j+1) h with
    | some (y,f,o)=>some ((ys,y),f,o)
    | none=>none
   | _,_=>none
  | _=>none
def hZ(n:Nat):List (Option Nat)->Bool
 | []=>false
 | some m::r=>Nat.beq n m||hZ n r
 | none::r=>hZ n r
def iV(fz:List (Nat×Nm)):List (Option Nat)->Bool
 | []=>true
 | none::r=>iV fz r
 | some m::r=>(Nat.blt m PN||Nat.ble QN m)&&iA m fz && !hZ m r&&iV fz r
def kG:List (Nat×Nm)->Bool
 | []=>true
 | (n,_)::r=>(Nat.blt n PN||Nat.ble QN n)&&kG r
def cY(b0:Nat):(o:OT)->o.X->List Nat->Nat->List SV
 | .dat t,x,_,_=>bt t x
 | .row _ t,_,_,n=>[.own n t.size]
 | .rowg _ _,_,_,_=>[.junk]
 | .fnc f,_,_,_=>[.fn f []]
 | .ali,_,_,_=>[.ptr b0 0]
 | .hole _,s,_,_=>[s]
 | .ref _ _,_,bx,_=>match bx with
  | q::_=>[.ptr q 0]
  | []=>[.junk]
 | .pair a b,x,bx,n=>cY b0 a x.1 bx n++cY b0 b x.2 (bx.drop a.nb) (n+a.nr)
def cP(b0:Nat):(o:OT)->o.X->List Nat->Nat->List (Nat×Nm)
 | .dat _,_,_,_=>[]
 | .row _ _,_,_,_=>[]
 | .rowg _ _,_,_,_=>[]
 | .fnc _,_,_,_=>[]
 | .ali,_,_,_=>[]
 | .hole _,_,_,_=>[]
 | .ref E o,x,bx,n=>match bx with
  | q::r=>(q,.live (.cells E (cY b0 o x r n)))::cP b0 o x r n
  | []=>[]
 | .pair a b,x,bx,n=>cP b0 a x.1 bx n++cP b0 b x.2 (bx.drop a.nb) (n+a.nr)
def fH:(o:OT)->o.X->Nat->List (Nat×Nm)
 | .dat _,_,_=>[]
 | .row E t,x,n=>[(n,.live (.row E t x))]
 | .rowg _ _,_,_=>[]
 | .fnc _,_,_=>[]
 | .ali,_,_=>[]
 | .hole _,_,_=>[]
 | .ref _ o,x,n=>fH o x n
 | .pair a b,x,n=>fH a x.1 n++fH b x.2 (n+a.nr)
def cF(b0:Nat):(rs:List RK)->cj rs->Nat->List SV
 | [],_,_=>[]
 | .val t::rs,d,n=>jA t d.1::cF b0 rs d.2 n
 | .agg o::rs,d,n => .agg (cY b0 o d.1 [] n)::cF b0 rs d.2 (n+o.nr)
 | .own E t::rs,d,n => .own n t.size::cF b0 rs d.2 (n+1)
 | .box E o::rs,d,n => .ptr n 0::cF b0 rs d.2 (n+1+o.nr)
 | .fn f k::rs,d,n => .fn f ((cF b0 rs d.2 n).take k)::(cF b0 rs d.2 n).drop k
def cX(b0:Nat):(rs:List RK)->cj rs->Nat->List (Nat×Nm)
 | [],_,_=>[]
 | .val t::rs,d,n=>cX b0 rs d.2 n
 | .agg o::rs,d,n=>fH o d.1 n++cX b0 rs d.2 (n+o.nr)
 | .own E t::rs,d,n=>(n,.live (.row E t d.1))::cX b0 rs d.2 (n+1)
 | .box E o::rs,d,n=>(n,.live (.cells E (cY b0 o d.1 [] (n+1))))::(fH o d.1 (n+1)++cX b0 rs d.2 (n+1+o.nr))
 | .fn _ _::rs,d,n=>cX b0 rs d.2 n
def bE:List RK->Nat
 | []=>0
 | .own _ _::r=>bE r+1
 | .box _ o::r=>bE r+o.nr+1
 | .val _::r=>bE r
 | .agg o::r=>bE r+o.nr
 | .fn _ _::r=>bE r
def co:List PK->Nat
 | []=>0
 | .val _::r=>co r
 | .agg _::r=>co r
 | .own _ _::r=>co r
 | .ago _::r=>co r
 | .fn _ _::r=>co r
 | .nils::r=>co r
 | .box _ o::r=>co r+o.nr
 | .row _ _::r=>co r
def bC(b0:Nat):(ps:List PK)->bB ps->List Nat->Nat->List (Nat×Nm)
 | .val _::ps,d,bx,nb=>bC b0 ps d bx nb
 | .agg _::ps,d,bx,nb=>bC b0 ps d bx nb
 | .own _ _::ps,d,bx,nb=>bC b0 ps d bx nb
 | .ago _::ps,d,bx,nb=>bC b0 ps d bx nb
 | .fn _ _::ps,d,bx,nb=>bC b0 ps d bx nb
 | .nils::ps,d,bx,nb=>bC b0 ps d bx nb
 | .box E o::ps,d,n::bx,nb=>(n,.live (.cells E (cY b0 o d.1 bx nb)))::(cP b0 o d.1 bx nb++bC b0 ps d.2 (bx.drop o.nb) (nb+o.nr))
 | .row E t::ps,d,n::bx,nb=>(n,.live (.row E t d.1))::bC b0 ps d.2 bx nb
 | _,_,_,_=>[]
def bU:(ps:List PK)->bB ps->Nat->List (Nat×Nm)
 | [],_,_=>[]
 | .val _::ps,d,nb=>bU ps d nb
 | .agg _::ps,d,nb=>bU ps d nb
 | .own _ _::ps,d,nb=>bU ps d nb
 | .ago _::ps,d,nb=>bU ps d nb
 | .fn _ _::ps,d,nb=>bU ps d nb
 | .nils::ps,d,nb=>bU ps d nb
 | .box E o::ps,d,nb=>fH o d.1 nb++bU ps d.2 (nb+o.nr)
 | .row E t::ps,d,nb=>bU ps d.2 nb
def dZ:List (Option Nat)->List (Nat×Nm)
 | []=>[]
 | none::r=>dZ r
 | some n::r=>(n,.dead)::dZ r
def fu:List SV->SV
 | [v]=>v
 | l => .tup l
def kJ(fz:List (Nat×Nm)):List Nat->Bool
 | []=>true
 | n::r=>iA n fz&&kJ fz r
def fv:Nat->Nat->Dl->Q Dl
 | _,0,d => .ret d
 | n,k+1,d => .ask n fun
  | .un=>fv (n+1) k d
  | _ => .fail
def i6(ps:List PK)(rs:List RK):Bool := !(gh rs&&c7 ps)
def gp(ps:List PK)(rs:List RK)(y:cj rs×bB ps)(base:Nat)(fz:List (Nat×Nm))(bx:List Nat)(cx:List (Option Nat)):List (Nat×Nm) :=
 (bC (bx.headD 0) ps y.2 bx (base+bE rs)++(cX (bx.headD 0) rs y.1 base++(bU ps y.2 (base+bE rs)++dZ cx)))++(match i6 ps rs with|true=>fz|false=>[])
def gJ:List RK->List Nat
 | []=>[]
 | .agg o::r=>o.hx++gJ r
 | .box _ o::r=>o.hx++gJ r
 | .val _::r=>gJ r
 | .own _ _::r=>gJ r
 | .fn _ _::r=>gJ r
def lC(m:Nat):List Nat->Bool
 | []=>true
 | i::r=>Nat.blt i m&&lC m r
def kg(ps:List PK)(rs:List RK):Bool:=match gJ rs with
 | []=>jR (cN ps)&&lC 524288 (cN ps)
 | _=>false
def kf(ps:List PK)(rs:List RK)(fz:List (Nat×Nm))(bx:List Nat)(cx:List (Option Nat)):Bool:=jR (bx++b8 cx)&&kJ fz (bx++b8 cx)&&Nat.ble bx.length 524288&&kg ps rs
def Ct.spec(c:Ct):Spec:=fun base svs=>(bL none c.ps svs).bind fun p=>match kf c.ps c.rs p.2.1 p.2.2.1 p.2.2.2 with
 | true=>fv base (bE c.rs+co c.ps) (.det (c.pre p.1) (fu (cF (p.2.2.1.headD 0) c.rs (c.out p.1).1 base)) (gp c.ps c.rs (c.out p.1) base p.2.1 p.2.2.1 p.2.2.2))
 | false => .fail
structure Cn where
 ps:List PK
 rs:List RK
 pre:aI ps->List Prop
 post:aI ps->cj rs×bB ps->Prop
 inh:∀ d,ax (pre d)→∃ y,post d y
def jq{X:Type}(b0:Nat):(o:OT)->(X->o.X)->List Nat->Nat->List (Nat×(X->Nm))
 | .dat _,_,_,_=>[]
 | .row _ _,_,_,_=>[]
 | .rowg _ _,_,_,_=>[]
 | .fnc _,_,_,_=>[]
 | .ali,_,_,_=>[]
 | .hole _,_,_,_=>[]
 | .ref E o,x,bx,n=>match bx with
  | q::r=>(q,fun y=>.live (.cells E (cY b0 o (x y) r n)))::jq b0 o x r n
  | []=>[]
 | .pair a b,x,bx,n=>jq b0 a (fun y=>(x y).1) bx n++jq b0 b (fun y=>(x y).2) (bx.drop a.nb) (n+a.nr)
def gD{X:Type}:(o:OT)->(X->o.X)->Nat->List (Nat×(X->Nm))
 | .dat _,_,_=>[]
 | .row E t,x,n=>[(n,fun y=>.live (.row E t (x y)))]
 | .rowg _ _,_,_=>[]
 | .fnc _,_,_=>[]
 | .ali,_,_=>[]
 | .hole _,_,_=>[]
 | .ref _ o,x,n=>gD o x n
 | .pair a b,x,n=>gD a (fun y=>(x y).1) n++gD b (fun y=>(x y).2) (n+a.nr)
def dp{X:Type}(b0:Nat):(ps:List PK)->(X->bB ps)->List Nat->Nat->List (Nat×(X->Nm))
 | .val _::ps,d,bx,nb=>dp b0 ps d bx nb
 | .agg _::ps,d,bx,nb=>dp b0 ps d bx nb
 | .own _ _::ps,d,bx,nb=>dp b0 ps d bx nb
 | .ago _::ps,d,bx,nb=>dp b0 ps d bx nb
 | .fn _ _::ps,d,bx,nb=>dp b0 ps d bx nb
 | .nils::ps,d,bx,nb=>dp b0 ps d bx nb
 | .box E o::ps,d,n::bx,nb=>(n,fun x=>.live (.cells E (cY b0 o (d x).1 bx nb)))::(jq b0 o (fun x=>(d x).1) bx nb++dp b0 ps (fun x=>(d x).2) (bx.drop o.nb) (nb+o.nr))
 | .row E t::ps,d,n::bx,nb=>(n,fun x=>.live (.row E t (d x).1))::dp b0 ps (fun x=>(d x).2) bx nb
 | _,_,_,_=>[]
def df{X:Type}:(ps:List PK)->(X->bB ps)->Nat->List (Nat×(X->Nm))
 | [],_,_=>[]
 | .val _::ps,d,nb=>df ps d nb
 | .agg _::ps,d,nb=>df ps d nb
 | .own _ _::ps,d,nb=>df ps d nb
 | .ago _::ps,d,nb=>df ps d nb
 | .fn _ _::ps,d,nb=>df ps d nb
 | .nils::ps,d,nb=>df ps d nb
 | .box E o::ps,d,nb=>gD o (fun x=>(d x).1) nb++df ps (fun x=>(d x).2) (nb+o.nr)
 | .row E t::ps,d,nb=>df ps (fun x=>(d x).2) nb
def fw{X:Type}(b0:Nat):(rs:List RK)->(X->cj rs)->Nat->List (Nat×(X->Nm))
 | [],_,_=>[]
 | .val t::rs,d,n=>fw b0 rs (fun x=>(d x).2) n
 | .agg o::rs,d,n=>gD o (fun x=>(d x).1) n++fw b0 rs (fun x=>(d x).2) (n+o.nr)
 | .own E t::rs,d,n=>(n,fun x=>.live (.row E t (d x).1))::fw b0 rs (fun x=>(d x).2) (n+1)
 | .box E o::rs,d,n=>(n,fun x=>.live (.cells E (cY b0 o (d x).1 [] (n+1))))::(gD o (fun x=>(d x).1) (n+1)++fw b0 rs (fun x=>(d x).2) (n+1+o.nr))
 | .fn _ _::rs,d,n=>fw b0 rs (fun x=>(d x).2) n
def kO{X:Type}:List (Nat×Nm)->List (Nat×(X->Nm))
 | []=>[]
 | (n,b)::r=>(n,fun _=>b)::kO r
def kq(ps:List PK)(rs:List RK)(base:Nat)(fz:List (Nat×Nm))(bx:List Nat)(cx:List (Option Nat)):List (Nat×(cj rs×bB ps->Nm)) :=
 (dp (bx.headD 0) ps (fun y:cj rs×bB ps=>y.2) bx (base+bE rs)++(fw (bx.headD 0) rs (fun y:cj rs×bB ps=>y.1) base++(df ps (fun y:cj rs×bB ps=>y.2) (base+bE rs)++kO (dZ cx))))++(match i6 ps rs with|true=>kO fz|false=>[])
theorem mN{X:Type}{b0:Nat}(y:X):∀(o:OT)(x:X->o.X)(bx:List Nat)(n:Nat),(jq b0 o x bx n).map (fun p=>(p.1,p.2 y))=cP b0 o (x y) bx n
 | .dat _,_,_,_=>rfl
 | .row _ _,_,_,_=>rfl
 | .rowg _ _,_,_,_=>rfl
 | .fnc _,_,_,_=>rfl
 | .ali,_,_,_=>rfl
 | .hole _,_,_,_=>rfl
 | .ref E o,x,[],n=>rfl
 | .ref E o,x,q::r,n=>by simp only[jq,cP,List.map_cons,mN y o]
 | .pair a b,x,bx,n=>by simp only[jq,cP,List.map_append,mN y a,mN y b]
theorem jX{X:Type}(y:X):∀(o:OT)(x:X->o.X)(n:Nat),(gD o x n).map (fun p=>(p.1,p.2 y))=fH o (x y) n
 | .dat _,_,_=>rfl
 | .row _ _,_,_=>rfl
 | .rowg _ _,_,_=>rfl
 | .fnc _,_,_=>rfl
 | .ali,_,_=>rfl
 | .hole _,_,_=>rfl
 | .ref E o,x,n=>by simp only[gD,fH,jX y o]
 | .pair a b,x,n=>by simp only[gD,fH,List.map_append,jX y a,jX y b]
theorem g8{X:Type}{b0:Nat}(x:X):∀(ps:List PK)(d:X->bB ps)(bx:List Nat)(nb:Nat),(dp b0 ps d bx nb).map (fun p=>(p.1,p.2 x))=bC b0 ps (d x) bx nb
 | [],_,_,_=>rfl
 | .val _::ps,d,bx,nb=>by simp only[dp,bC];exact g8 x ps d bx nb
 | .agg _::ps,d,bx,nb=>by simp only[dp,bC];exact g8 x ps d bx nb
 | .own _ _::ps,d,bx,nb=>by simp only[dp,bC];exact g8 x ps d bx nb
 | .ago _::ps,d,bx,nb=>by simp only[dp,bC];exact g8 x ps d bx nb
 | .fn _ _::ps,d,bx,nb=>by simp only[dp,bC];exact g8 x ps d bx nb
 | .nils::ps,d,bx,nb=>by simp only[dp,bC];exact g8 x ps d bx nb
 | .box E t::ps,d,[],_=>rfl
 | .row E t::ps,d,[],_=>rfl
 | .box E t::ps,d,n::bx,nb=>by simp only[dp,bC,List.map_cons,List.map_append,mN x t,g8 x ps]
 | .row E t::ps,d,n::bx,nb=>by simp only[dp,bC,List.map_cons,g8 x ps]
theorem gQ{X:Type}(x:X):∀(ps:List PK)(d:X->bB ps)(nb:Nat),(df ps d nb).map (fun p=>(p.1,p.2 x))=bU ps (d x) nb
 | [],_,_=>rfl
 | .val _::ps,d,nb=>by simp only[df,bU];exact gQ x ps d nb
 | .agg _::ps,d,nb=>by simp only[df,bU];exact gQ x ps d nb
 | .own _ _::ps,d,nb=>by simp only[df,bU];exact gQ x ps d nb
 | .ago _::ps,d,nb=>by simp only[df,bU];exact gQ x ps d nb
 | .fn _ _::ps,d,nb=>by simp only[df,bU];exact gQ x ps d nb
 | .nils::ps,d,nb=>by simp only[df,bU];exact gQ x ps d nb
 | .box E t::ps,d,nb=>by simp only[df,bU,List.map_append,jX x t,gQ x ps]
 | .row E t::ps,d,nb=>by simp only[df,bU];exact gQ x ps _ nb
theorem jZ{X:Type}{b0:Nat}(x:X):∀(rs:List RK)(d:X->cj rs)(n:Nat),(fw b0 rs d n).map (fun p=>(p.1,p.2 x))=cX b0 rs (d x) n
 | [],_,_=>rfl
 | .val t::rs,d,n=>by simp only[fw,cX];exact jZ x rs _ n
 | .agg t::rs,d,n=>by simp only[fw,cX,List.map_append,jX x t,jZ x rs]
 | .own E t::rs,d,n=>by simp only[fw,cX,List.map_cons,jZ x rs]
 | .box E t::rs,d,n=>by simp only[fw,cX,List.map_cons,List.map_append,jX x t,jZ x rs]
 | .fn _ _::rs,d,n=>by simp only[fw,cX];exact jZ x rs _ n
theorem o5{X:Type}(x:X):∀(l:List (Nat×Nm)),(kO (X:=X) l).map (fun p=>(p.1,p.2 x))=l
 | []=>rfl
 | (n,b)::r=>by simp only[kO,List.map_cons,o5 x r]
theorem sG{ps:List PK}{rs:List RK}{base:Nat}{fz:List (Nat×Nm)}{bx:List Nat}{cx:List (Option Nat)}(y:cj rs×bB ps):(kq ps rs base fz bx cx).map (fun p=>(p.1,p.2 y))=gp ps rs y base fz bx cx:=by
 unfold kq gp
 simp only[List.map_append,g8,jZ,gQ,o5]
 cases i6 ps rs with
 | true=>simp only[o5]
 | false=>rfl
def iW:(o:OT)->(o.X->Prop)->Prop
 | .dat t,k=>iZ t k
 | .row _ t,k=>∀ x:List t.D,k x
 | .rowg _ _,k=>k ()
 | .fnc _,k=>k ()
 | .ali,k=>k ()
 | .hole _,k=>∀ s:SV,k s
 | .ref _ o,k=>iW o k
 | .pair a b,k=>iW a fun x=>iW b fun y=>k (x,y)
theorem j5:∀{o:OT}{k:o.X->Prop},iW o k→∀ d,k d
 | .dat t,k,h,d=>lV.1 h d
 | .row _ t,k,h,d=>h d
 | .rowg _ _,k,h,d=>h
 | .fnc _,k,h,d=>h
 | .ali,k,h,d=>h
 | .hole _,k,h,d=>h d
 | .ref _ o,k,h,d=>j5 (o:=o) h d
 | .pair a b,k,h,d=>j5 (o:=b) (j5 (o:=a) h d.1) d.2
def jf:(rs:List RK)->(cj rs->Prop)->Prop
 | [],k=>k ()
 | .val t::r,k=>iZ t fun x=>jf r fun y=>k (x,y)
 | .agg o::r,k=>iW o fun x=>jf r fun y=>k (x,y)
 | .own _ t::r,k=>∀ x:List t.D,jf r fun y=>k (x,y)
 | .box _ o::r,k=>iW o fun x=>jf r fun y=>k (x,y)
 | .fn _ _::r,k=>jf r fun y=>k ((),y)
theorem j9:∀{rs:List RK}{k:cj rs->Prop},jf rs k→∀ d,k d
 | [],k,h,d=>h
 | .val t::r,k,h,d=>j9 (rs:=r) (lV.1 h d.1) d.2
 | .agg o::r,k,h,d=>j9 (rs:=r) (j5 (o:=o) h d.1) d.2
 | .own _ t::r,k,h,d=>j9 (rs:=r) (h d.1) d.2
 | .box _ o::r,k,h,d=>j9 (rs:=r) (j5 (o:=o) h d.1) d.2
 | .fn _ _::r,k,h,d=>j9 (rs:=r) h d.2
def f6:(ps:List PK)->(bB ps->Prop)->Prop
 | [],k=>k ()
 | .val _::r,k=>f6 r k
 | .agg _::r,k=>f6 r k
 | .own _ _::r,k=>f6 r k
 | .ago _::r,k=>f6 r k
 | .fn _ _::r,k=>f6 r k
 | .nils::r,k=>f6 r k
 | .box _ o::r,k=>iW o fun x=>f6 r fun y=>k (x,y)
 | .row _ t::r,k=>∀ x:List t.D,f6 r fun y=>k (x,y)
theorem gN:∀{ps:List PK}{k:bB ps->Prop},f6 ps k→∀ d,k d
 | [],k,h,d=>h
 | .val _::r,k,h,d=>gN (ps:=r) h d
 | .agg _::r,k,h,d=>gN (ps:=r) h d
 | .own _ _::r,k,h,d=>gN (ps:=r) h d
 | .ago _::r,k,h,d=>gN (ps:=r) h d
 | .fn _ _::r,k,h,d=>gN (ps:=r) h d
 | .nils::r,k,h,d=>gN (ps:=r) h d
 | .box _ o::r,k,h,d=>gN (ps:=r) (j5 (o:=o) h d.1) d.2
 | .row _ t::r,k,h,d=>gN (ps:=r) (h d.1) d.2
def qZ(rs:List RK)(ps:List PK):Qn (cj rs×bB ps) :=
 ⟨fun k=>jf rs fun y=>f6 ps fun z=>k (y,z),fun k h x=>gN (j9 h x.1) x.2,fun k=>∃ x,k x,fun _ h=>h⟩
def Cn.spec(c:Cn):Spec:=fun base svs=>(bL none c.ps svs).bind fun p=>match kf c.ps c.rs p.2.1 p.2.2.1 p.2.2.2 with
 | true=>fv base (bE c.rs+co c.ps) (.nd (cj c.rs×bB c.ps) (qZ c.rs c.ps) (c.pre p.1) (c.post p.1) (c.inh p.1) (fun y=>fu (cF (p.2.2.1.headD 0) c.rs y.1 base)) (kq c.ps c.rs base p.2.1 p.2.2.1 p.2.2.2))
 | false => .fail
section
variable {w0:World} {N0:bq} {A A' A1 A2:Nat->Prop} {env env1 env':ah} {h h1:aC} {w w1:World}
theorem jh{a b c:Bool}{p:Prop}(h:(a&&b)=true∨p):a=true∨p:=by
 rcases h with h|h
 ·exact .inl (by simp only[Bool.and_eq_true] at h;exact h.1)
 ·exact .inr h
theorem iO{a b:Bool}{p:Prop}(h:(a&&b)=true∨p):b=true∨p:=by
 rcases h with h|h
 ·exact .inl (by simp only[Bool.and_eq_true] at h;exact h.2)
 ·exact .inr h
theorem zK{al:Bool}{t:OT}{rs:List RK}{svs:List SV} {x} (e:dj al (.agg t::rs) svs h1=some x):∃ cs r,svs = .agg cs::r:=by
 cases svs with
 | nil=>cases e
 | cons s r=>cases s <;> first|exact⟨_,_,rfl⟩|cases e
theorem Ca{al:Bool}{E:TypeId}{t:CT}{rs:List RK}{svs:List SV} {x} (e:dj al (.own E t::rs) svs h1=some x):∃ v r,svs=v::r:=by
 cases svs with
 | nil=>cases e
 | cons s r=>exact⟨_,_,rfl⟩
theorem xJ{al:Bool}{E:TypeId}{t:OT}{rs:List RK}{svs:List SV} {x} (e:dj al (.box E t::rs) svs h1=some x):∃ m r,svs = .ptr m 0::r:=by
 cases svs with
 | nil=>cases e
 | cons s r=>cases s <;> first|cases e;done|(rename_i m o;cases o <;> first|exact⟨_,_,rfl⟩|cases e)
theorem yq{al:Bool}{f:FuncId}{k:Nat}{rs:List RK}{svs:List SV} {x} (e:dj al (.fn f k::rs) svs h1=some x):∃ g cs r,svs = .fn g cs::r:=by
 cases svs with
 | nil=>cases e
 | cons s r=>cases s <;> first|exact⟨_,_,_,rfl⟩|cases e
theorem rq{al:Bool}{E:TypeId}{t:OT}{j:Option Nat}{svs:List SV} {x} (e:cK h1 al (.ref E t) j svs=some x):∃ j0 m r,j=some j0/\svs = .ptr m 0::r:=by
 cases j with
 | none=>cases svs <;> cases e
 | some j0 =>
  cases svs with
  | nil=>cases e
  | cons s r=>cases s <;> first|cases e;done|(rename_i m o;cases o <;> first|exact⟨_,_,_,rfl,rfl⟩|cases e)
theorem zb{al:Bool}{f:FuncId}{j:Option Nat}{svs:List SV} {x} (e:cK h1 al (.fnc f) j svs=some x):∃ r,svs = .fn f []::r/\x=((),r,[],[]):=by
 cases svs with
 | nil=>cases e
 | cons s r =>
  cases s <;> first|cases e;done|skip
  rename_i g cs
  cases cs <;> first|cases e;done|skip
  simp only[cK] at e
  split at e
  ·rename_i hb
   rw[Nat.eq_of_beq_eq_true hb]
   simp only[Option.some.injEq] at e
   exact⟨_,rfl,e.symm⟩
  ·cases e
theorem zy{al:Bool}{E:TypeId}{t:CT}{j:Option Nat}{svs:List SV} {x} (e:cK h1 al (.rowg E t) j svs=some x):∃ v r,svs=v::r:=by
 cases svs with
 | nil=>cases e
 | cons s r=>exact⟨_,_,rfl⟩
theorem uo{Nc:bq}(m1:ar w Nc A1 env1 h1 w1)(hA:∀ b,A1 b->A2 b){E:TypeId}{t:CT}(L:t.plain=true∨∀ b,A2 b->A' b){cs rest:List SV}{vs:List Value}{ys:List t.D}{on:Option Nat}
  (e:kX E t h1 cs=some (ys,rest,on)) (hd:ac A1 env1 w1 cs vs) :
  ∃ v vr,vs=v::vr/\rest=cs.drop 1/\ac A1 env1 w1 rest vr∧∀(e':ah)(i:Nat),e' i=dt env1 on->aa A' e' w1 (.own i t.size) v/\cd A' env1 h1 e' w1 [on] [(i,.live (.row E t ys))] i:=by
 cases cs with
 | nil=>cases e
 | cons s cs =>
 cases s with
 | own n sz =>
  simp only[kX] at e
  split at e
  ·rename_i E' t' xs hl
   split at e
   ·rename_i zs hE hsz hc
    have hE:=Nat.eq_of_beq_eq_true hE
    subst hE
    have hsz:=Nat.eq_of_beq_eq_true hsz
    subst hsz
    obtain⟨et,ez⟩:=cr hc
    subst et
    simp only at ez
    subst ez
    simp only[Option.some.injEq,Prod.mk.injEq] at e
    obtain⟨rfl,rfl,rfl⟩:=e
    simp only[ac,aa] at hd
    obtain⟨x,vr,rfl,hv,hr⟩:=hd
    have hm:=m1.nm n
    rw[hl] at hm
    refine⟨x,vr,rfl,rfl,hr,fun e' i he=>⟨?_,⟨rfl,_,rfl,rfl,.inl ⟨n,_,rfl,hl,rfl,fun k len he=>?_,fun he=>?_⟩⟩,trivial⟩⟩
    ·simp only[dt] at he
     simp only[aa]
     rw[he];exact hv
    ·rcases hm with⟨k',len',he',hb,_⟩|⟨he',_⟩
     ·rw[he] at he';cases he'
      obtain⟨us,cap,g1,g2,g3,g4,g5,g6⟩:=hb
      exact⟨us,cap,g1,g2,g3,g4,g5,fun i hi=>mr L (bQ hA (fun _ _ _=>rfl) _ _ _ _ _ (fun _ _=>rfl) (g6 i hi))⟩
     ·rw[he] at he';cases he'
    ·rcases hm with⟨k',len',he',hb,_⟩|⟨he',E2,t2,hb⟩
     ·rw[he] at he';cases he'
     ·rcases hb with hb|hb <;> cases hb
      exact⟨_,_,rfl⟩
   ·cases e
  ·cases e
 | nilsl =>
  simp only[kX,Option.some.injEq,Prod.mk.injEq] at e
  obtain⟨rfl,rfl,rfl⟩:=e
  simp only[ac,aa] at hd
  obtain⟨x,vr,rfl,rfl,hr⟩:=hd
  refine⟨_,vr,rfl,rfl,hr,fun e' i he=>⟨?_,⟨rfl,_,rfl,rfl,.inr ⟨rfl,_,_,rfl⟩⟩,trivial⟩⟩
  simp only[aa]
  exact .inl ⟨he,_,rfl⟩
 | _=>cases e
def eV(A':Nat->Prop)(env1:ah)(h1:aC)(env':ah)(w1:World)(bx:List Nat)(j:Nat)(n:Nat)(x:Nm):Prop :=
 ∃ i b b0,bx[i]? = some n/\x = .live b/\b.mut=true/\h1 (PN+(j+i)) = .live b0/\b0.mut=true/\(∀ k len,env1 (PN+(j+i)) = .blk k len->cA A' env' w1 k len b)/\(env1 (PN+(j+i)) = .nil→∃ E t,b = .row E t [])
theorem eV.shift{pre bx:List Nat}{j n:Nat}{x:Nm}(h:eV A' env1 h1 env' w1 bx (j+pre.length) n x):eV A' env1 h1 env' w1 (pre++bx) j n x:=by
 obtain⟨i,b,b0,g1,g2,g3,g4,g5,g6,g7⟩:=h
 rw[show j+pre.length+i=j+(pre.length+i) from by omega] at g4 g6 g7
 exact⟨pre.length+i,b,b0,by rw[List.getElem?_append_right (by omega),Nat.add_sub_cancel_left];exact g1,g2,g3,g4,g5,g6,g7⟩
theorem eV.grow{bx post:List Nat}{j n:Nat}{x:Nm}(h:eV A' env1 h1 env' w1 bx j n x):eV A' env1 h1 env' w1 (bx++post) j n x:=by
 obtain⟨i,b,b0,g1,g2⟩:=h
 exact⟨i,b,b0,by rw[List.getElem?_append_left (List.getElem?_eq_some_iff.1 g1).1];exact g1,g2⟩
theorem pO{al:Bool}:∀(o:OT)(cs:List SV) {x},cK h1 al o none cs=some x->o.nb=0
 | .dat t,_,_,_=>rfl
 | .row _ t,_,_,_=>rfl
 | .rowg _ t,_,_,_=>rfl
 | .fnc _,_,_,_=>rfl
 | .ali,_,_,_=>rfl
 | .hole _,_,_,_=>rfl
 | .ref _ o,cs,x,e=>by obtain⟨j0,m,r,hj,-⟩:=rq e;cases hj
 | .pair a b,cs,x,e=>by
  simp only[cK] at e
  split at e
  ·rename_i h1'
   split at e
   ·rename_i h2'
    have k1:=pO a _ h1'
    have k2:=pO b _ h2'
    simp only[OT.nb];omega
   ·cases e
  ·cases e
theorem yo{al:Bool}{j:Option Nat}{svs:List SV} {x} (e:cK h1 al .ali j svs=some x):∃ r,svs = .ptr PN 0::r/\al=true/\x=((),r,[],[]):=by
 cases svs with
 | nil=>cases e
 | cons s r =>
  cases s with
  | ptr m off=>cases off with
   | zero =>
    have e:(match (generalizing:=false) al,Nat.beq m PN with|true,true=>(some ((),r,[],[]):Option (Unit×List SV×List (Nat×Nm)×List (Option Nat)))|_,_=>none)=some x:=by
     cases j <;> exact e
    cases hb:Nat.beq m PN with
    | false=>rw[hb] at e;cases al <;> cases e
    | true =>
     rw[hb] at e
     cases al with
     | false=>cases e
     | true =>
      simp only[Option.some.injEq] at e
      exact⟨r,by rw[Nat.eq_of_beq_eq_true hb],rfl,e.symm⟩
   | succ k=>cases e
  | _=>cases e
theorem wS{al:Bool}{i:Nat}{j:Option Nat}{svs:List SV}{x:SV}{rest:List SV}{fz:List (Nat×Nm)}{ow:List (Option Nat)}(e:cK h1 al (.hole i) j svs=some (x,rest,fz,ow)):∃ r,svs = .hv (HN+i) x::r/\rest=r/\fz=[]/\ow=[]:=by
 cases svs with
 | nil=>cases e
 | cons s r =>
  cases s <;> first|cases e;done|skip
  rename_i m s
  simp only[cK] at e
  split at e
  ·rename_i hb
   simp only[Option.some.injEq,Prod.mk.injEq] at e
   obtain⟨rfl,rfl,rfl,rfl⟩:=e
   exact⟨r,by rw[Nat.eq_of_beq_eq_true hb],rfl,rfl,rfl⟩
  ·cases e
theorem js{al:Bool}{Nc:bq}(m1:ar w Nc A1 env1 h1 w1)(hA:∀ b,A1 b->A2 b)(b0:Nat):∀(o:OT)(j:Option Nat)(cs:List SV)(vs:List Value)(x:o.X)(rest:List SV)(fz:List (Nat×Nm))(ow:List (Option Nat))(bx more:List Nat)(n:Nat),
  cK h1 al o j cs=some (x,rest,fz,ow)->ac A1 env1 w1 cs vs->(∀ k,bJ env1 fz k->A2 k)->(o.plain=true∨∀ b,A2 b->A' b)->(j=none∨bx.length=o.nb) →
  dI h1 fz/\ow.length=o.nr∧∃ us rs,vs=us++rs/\ac A1 env1 w1 rest rs ∧
   ((∀ i∈o.hx,∀ v s,env1 (HN+i) = .val v s->aa A' env' w1 s v)->(al=true->env' b0=env1 PN)->(∀ k q,ow[k]? = some q->env' (n+k)=dt env1 q)->(∀ j0 k q,j=some j0->bx[k]? = some q->env' q=env1 (PN+(j0+k))) →
     ac A' env' w1 (cY b0 o x (bx++more) n) us/\cd A' env1 h1 env' w1 ow (fH o x n) n/\(∀ q y,(q,y)∈cP b0 o x (bx++more) n→∃ j0,j=some j0/\eV A' env1 h1 env' w1 bx j0 q y) ∧
     (j≠none→∀ q,q∈bx->q∈(cP b0 o x (bx++more) n).map (·.1)))
 | .dat t,j,cs,vs,x,rest,fz,ow,bx,more,n,e,hd,hF,L,hbl=>by
  simp only[cK] at e
  split at e
  ·rename_i x1 r1 f1 q1 hp
   simp only[Option.some.injEq,Prod.mk.injEq] at e
   obtain⟨rfl,rfl,rfl,rfl⟩:=e
   obtain⟨p1,p2,p3,p4,p5⟩:=fI m1 t cs vs x1 r1 f1 _ hp hd hA hF
   refine⟨p1,rfl,vs.take t.size,vs.drop t.size,(List.take_append_drop _ _).symm,p5,fun _ _ _ _=>⟨?_,trivial,fun q y hh=>by simp[cP] at hh,fun hj q hq=>?_⟩⟩
   ·simp only[cY]
    refine mv (by rw[List.length_take];omega) (mr L ?_)
    refine bQ (fun _ h=>h) (fun _ _ _=>rfl) t _ _ _ _ (fun k hk=>?_) p4
    simp only[Nat.zero_add,List.getElem?_take]
    rw[if_pos hk]
   ·rcases hbl with hbl|hbl
    ·exact absurd hbl hj
    ·rw[List.length_eq_zero_iff.1 hbl] at hq;cases hq
  ·cases e
 | .row E t,j,cs,vs,x,rest,fz,ow,bx,more,n,e,hd,hF,L,hbl=>by
  simp only[cK] at e
  split at e
  ·rename_i x1 r1 o1 hp
   simp only[Option.some.injEq,Prod.mk.injEq] at e
   obtain⟨rfl,rfl,rfl,rfl⟩:=e
   obtain⟨v,vr,rfl,-,p2,p3⟩:=uo (A':=A') m1 hA L hp hd
   refine⟨fun n b hh=>by simp at hh,rfl,[v],vr,rfl,p2,fun _ _ ho _=>?_⟩
   obtain⟨k1,k2⟩:=p3 env' n (ho 0 _ rfl)
   refine⟨?_,k2,fun q y hh=>by simp[cP] at hh,fun hj q hq=>?_⟩
   ·simp only[cY,ac];exact⟨v,[],rfl,k1,rfl⟩
   ·rcases hbl with hbl|hbl
    ·exact absurd hbl hj
    ·rw[List.length_eq_zero_iff.1 hbl] at hq;cases hq
  ·cases e
 | .rowg E t,j,cs0,vs,x,rest,fz,ow,bx,more,n,e,hd,hF,L,hbl=>by
  obtain⟨v,cs,rfl⟩:=zy e
  simp only[cK,Option.some.injEq,Prod.mk.injEq] at e
  obtain⟨-,rfl,rfl,rfl⟩:=e
  simp only[ac] at hd
  obtain⟨u,vr,rfl,hu,hvr⟩:=hd
  refine⟨fun n b hh=>by simp at hh,rfl,[u],vr,rfl,hvr,fun _ _ ho _=>⟨?_,trivial,fun q y hh=>by simp[cP] at hh,fun hj q hq=>?_⟩⟩
  ·simp only[cY,ac,aa];exact⟨u,[],rfl,trivial,rfl⟩
  ·rcases hbl with hbl|hbl
   ·exact absurd hbl hj
   ·rw[List.length_eq_zero_iff.1 hbl] at hq;cases hq
 | .fnc f,j,cs0,vs,x,rest,fz,ow,bx,more,n,e,hd,hF,L,hbl=>by
  obtain⟨cs,rfl,e2⟩:=zb e
  simp only[Prod.mk.injEq] at e2
  obtain⟨-,rfl,rfl,rfl⟩:=e2
  simp only[ac] at hd
  obtain⟨u,vr,rfl,hu,hvr⟩:=hd
  refine⟨fun n b hh=>by simp at hh,rfl,[u],vr,rfl,hvr,fun _ _ ho _=>⟨?_,trivial,fun q y hh=>by simp[cP] at hh,fun hj q hq=>?_⟩⟩
  ·simp only[cY,ac]
   simp only[aa,ac] at hu
   refine⟨u,[],rfl,?_,rfl⟩
   simp only[aa,ac]
   exact hu
  ·rcases hbl with hbl|hbl
   ·exact absurd hbl hj
   ·rw[List.length_eq_zero_iff.1 hbl] at hq;cases hq
 | .ali,j,cs0,vs,x,rest,fz,ow,bx,more,n,e,hd,hF,L,hbl=>by
  obtain⟨cs,rfl,hj0,e2⟩:=yo e
  simp only[Prod.mk.injEq] at e2
  obtain⟨-,rfl,rfl,rfl⟩:=e2
  simp only[ac,aa] at hd
  obtain⟨u,vr,rfl,⟨k,len,hek,rfl⟩,hvr⟩:=hd
  refine⟨fun n b hh=>by simp at hh,rfl,[_],vr,rfl,hvr,fun _ hb0 ho _=>⟨?_,trivial,fun q y hh=>by simp[cP] at hh,fun hj q hq=>?_⟩⟩
  ·simp only[cY,ac,aa]
   exact⟨_,[],rfl,⟨k,len,by rw[hb0 hj0];exact hek,rfl⟩,rfl⟩
  ·rcases hbl with hbl|hbl
   ·exact absurd hbl hj
   ·rw[List.length_eq_zero_iff.1 hbl] at hq;cases hq
 | .hole i0,j,cs0,vs,x,rest,fz,ow,bx,more,n,e,hd,hF,L,hbl=>by
  obtain⟨cs,rfl,rfl,rfl,rfl⟩:=wS e
  simp only[ac,aa] at hd
  obtain⟨u,vr,rfl,⟨hu,_⟩,hvr⟩:=hd
  refine⟨fun n b hh=>by simp at hh,rfl,[u],vr,rfl,hvr,fun hH _ ho _=>⟨?_,trivial,fun q y hh=>by simp[cP] at hh,fun hj q hq=>?_⟩⟩
  ·simp only[cY,ac]
   exact⟨u,[],rfl,hH i0 (List.mem_singleton.2 rfl) _ _ hu,rfl⟩
  ·rcases hbl with hbl|hbl
   ·exact absurd hbl hj
   ·rw[List.length_eq_zero_iff.1 hbl] at hq;cases hq
 | .ref E o,j,cs0,vs,x,rest,fz,ow,bx,more,n,e,hd,hF,L,hbl=>by
  obtain⟨j0,m,cs,rfl,rfl⟩:=rq e
  simp only[cK] at e
  split at e
  ·rename_i E' cs' hm hl
   have hm:=Nat.eq_of_beq_eq_true hm
   subst hm
   split at e
   ·rename_i x1 f1 w1' hE hp
    have hE:=Nat.eq_of_beq_eq_true hE
    subst hE
    simp only[Option.some.injEq,Prod.mk.injEq] at e
    obtain⟨rfl,rfl,rfl,rfl⟩:=e
    simp only[ac,aa] at hd
    obtain⟨u,vr,rfl,⟨kb,lb,hkb,rfl⟩,hvr⟩:=hd
    obtain⟨⟨us,hus,hdu⟩,_⟩:=m1.live_blk hl hkb
    cases bx with
    | nil=>rcases hbl with hbl|hbl <;> cases hbl
    | cons q0 bx =>
    have hbl':bx.length=o.nb:=by
     rcases hbl with hbl|hbl
     ·cases hbl
     ·simpa[OT.nb] using hbl
    obtain⟨s1,s2,us',rs',s5,s6,s7⟩:=js m1 hA b0 o (some (j0+1)) cs' us.toList x1 [] f1 w1' bx more n hp hdu hF L (.inr hbl')
    simp only[ac] at s6
    subst s6
    rw[List.append_nil] at s5
    subst s5
    refine⟨s1,s2,[_],vr,rfl,hvr,fun hH h0b ho hb=>?_⟩
    have h0:=hb j0 0 q0 rfl rfl
    rw[Nat.add_zero] at h0
    obtain⟨k1,k2,k3,k4⟩:=s7 hH h0b ho (fun j1 k q hj hq=>by
     cases hj
     have:=hb j0 (k+1) q rfl (by simpa using hq)
     rwa [show j0+(k+1)=j0+1+k from by omega] at this)
    refine⟨?_,k2,fun q y hh=>?_,fun _ q hq=>?_⟩
    ·simp only[cY,List.cons_append,ac,aa]
     exact⟨_,[],rfl,⟨kb,lb,by rw[h0];exact hkb,rfl⟩,rfl⟩
    ·simp only[cP,List.cons_append] at hh
     rcases List.mem_cons.1 hh with hh|hh
     ·cases hh
      refine⟨j0,rfl,0,_,_,rfl,rfl,rfl,hl,rfl,fun k len he=>?_,fun he=>?_⟩
      ·rw[Nat.add_zero,hkb] at he;cases he
       exact⟨us,hus,k1⟩
      ·rw[Nat.add_zero,hkb] at he;cases he
     ·obtain⟨j1,hj1,hbx⟩:=k3 q y hh
      cases hj1
      exact⟨j0,rfl,eV.shift (pre:=[q0]) hbx⟩
    ·simp only[cP,List.cons_append,List.map_cons]
     rcases List.mem_cons.1 hq with rfl|hq
     ·exact List.mem_cons_self ..
     ·exact List.mem_cons_of_mem _ (k4 (by simp) q hq)
   ·cases e
  ·cases e
 | .pair a b,j,cs,vs,x,rest,fz,ow,bx,more,n,e,hd,hF,L,hbl=>by
  simp only[cK] at e
  split at e
  ·rename_i x1 r1 f1 o1 h1'
   split at e
   ·rename_i x2 r2 f2 o2 h2'
    simp only[Option.some.injEq,Prod.mk.injEq] at e
    obtain⟨rfl,rfl,rfl,rfl⟩:=e
    have hF1:∀ k,bJ env1 f1 k->A2 k:=fun k ⟨n,x,l,hx,he⟩=>hF k ⟨n,x,l,List.mem_append_left _ hx,he⟩
    have hF2:∀ k,bJ env1 f2 k->A2 k:=fun k ⟨n,x,l,hx,he⟩=>hF k ⟨n,x,l,List.mem_append_right _ hx,he⟩
    have La:a.plain=true∨∀ b,A2 b->A' b:=jh (c:=true) L
    have Lb:b.plain=true∨∀ b,A2 b->A' b:=iO L
    have hla:j=none∨(bx.take a.nb).length=a.nb:=by
     rcases hbl with hbl|hbl
     ·exact .inl hbl
     ·simp only[OT.nb] at hbl
      exact .inr (by rw[List.length_take];omega)
    have hlb:j.map (· + a.nb)=none∨(bx.drop a.nb).length=b.nb:=by
     rcases hbl with hbl|hbl
     ·exact .inl (by rw[hbl];rfl)
     ·simp only[OT.nb] at hbl
      exact .inr (by rw[List.length_drop];omega)
    obtain⟨s1,s2,us,rs,rfl,s6,s7⟩:=js m1 hA b0 a j cs vs x1 r1 f1 o1 (bx.take a.nb) (bx.drop a.nb++more) n h1' hd hF1 La hla
    obtain⟨t1,t2,us',rs',rfl,t6,t7⟩:=js m1 hA b0 b (j.map (· + a.nb)) r1 rs x2 r2 f2 o2 (bx.drop a.nb) more (n+a.nr) h2' s6 hF2 Lb hlb
    refine⟨fun n b hh=>?_,by simp only[List.length_append,s2,t2,OT.nr],us++us',rs',by rw[List.append_assoc],t6,fun hH h0b ho hb=>?_⟩
    ·rcases List.mem_append.1 hh with hh|hh
     ·exact s1 n b hh
     ·exact t1 n b hh
    have eb:bx.take a.nb++(bx.drop a.nb++more)=bx++more:=by rw[← List.append_assoc,List.take_append_drop]
    obtain⟨k1,k2,k3,k4⟩:=s7 (fun i hi=>hH i (List.mem_append_left _ hi)) h0b (fun k q hq=>ho k q (by rw[List.getElem?_append_left (List.getElem?_eq_some_iff.1 hq).1];exact hq))
     (fun j0 k q hj hq=>by
      refine hb j0 k q hj ?_
      rw[List.getElem?_take] at hq
      split at hq
      ·exact hq
      ·cases hq)
    obtain⟨l1,l2,l3,l4⟩:=t7 (fun i hi=>hH i (List.mem_append_right _ hi)) h0b (fun k q hq=>by
      have:=ho (a.nr+k) q (by rw[List.getElem?_append_right (by omega),s2,Nat.add_sub_cancel_left];exact hq)
      rwa [show n+(a.nr+k)=n+a.nr+k from by omega] at this)
     (fun j1 k q hj hq=>by
      cases j with
      | none=>cases hj
      | some j0 =>
       simp only[Option.map_some,Option.some.injEq] at hj
       subst hj
       rw[List.getElem?_drop] at hq
       have:=hb j0 (a.nb+k) q rfl hq
       rwa [show j0+(a.nb+k)=j0+a.nb+k from by omega] at this)
    rw[eb] at k1 k3 k4
    have ed:(bx++more).drop a.nb=bx.drop a.nb++more:=by
     rcases hbl with hbl|hbl
     ·subst hbl
      rw[pO a _ h1',List.drop_zero,List.drop_zero]
     ·simp only[OT.nb] at hbl
      rw[List.drop_append_of_le_length (by omega)]
    have tl:∀ j0,j=some j0->(bx.take a.nb).length=a.nb:=fun j0 hj=>by
     rcases hla with h|h
     ·rw[hj] at h;cases h
     ·exact h
    rw[← ed] at l1 l3 l4
    simp only[cY,cP,fH]
    refine⟨gk k1 l1,k2.append (by rw[s2];exact l2),fun q y hh=>?_,fun hj q hq=>?_⟩
    ·rcases List.mem_append.1 hh with hh|hh
     ·obtain⟨j0,hj,hx⟩:=k3 q y hh
      refine⟨j0,hj,?_⟩
      have:=hx.grow (post:=bx.drop a.nb)
      rwa [List.take_append_drop] at this
     ·obtain⟨j1,hj1,hx⟩:=l3 q y hh
      cases j with
      | none=>cases hj1
      | some j0 =>
       simp only[Option.map_some,Option.some.injEq] at hj1
       subst hj1
       refine⟨j0,rfl,?_⟩
       have:=eV.shift (pre:=bx.take a.nb) (bx:=bx.drop a.nb) (j:=j0) (n:=q) (x:=y) (by rw[tl j0 rfl];exact hx)
       rwa [List.take_append_drop] at this
    ·rw[List.map_append]
     rw[← List.take_append_drop a.nb bx] at hq
     rcases List.mem_append.1 hq with hq|hq
     ·exact List.mem_append_left _ (k4 hj q hq)
     ·exact List.mem_append_right _ (l4 (by cases j with|none=>exact absurd rfl hj|some j0=>simp) q hq)
   ·cases e
  ·cases e
theorem mb{b0:Nat}:∀{o:OT}{x:o.X}{bx more:List Nat}{n:Nat},bx.length=o.nb→∀ q,q∈bx->q∈(cP b0 o x (bx++more) n).map (·.1)
 | .dat _,x,bx,more,n,hl,q,hq=>by rw[List.length_eq_zero_iff.1 hl] at hq;cases hq
 | .row _ _,x,bx,more,n,hl,q,hq=>by rw[List.length_eq_zero_iff.1 hl] at hq;cases hq
 | .rowg _ _,x,bx,more,n,hl,q,hq=>by rw[List.length_eq_zero_iff.1 hl] at hq;cases hq
 | .fnc _,x,bx,more,n,hl,q,hq=>by rw[List.length_eq_zero_iff.1 hl] at hq;cases hq
 | .ali,x,bx,more,n,hl,q,hq=>by rw[List.length_eq_zero_iff.1 hl] at hq;cases hq
 | .hole _,x,bx,more,n,hl,q,hq=>by rw[List.length_eq_zero_iff.1 hl] at hq;cases hq
 | .ref E o,x,[],more,n,hl,q,hq=>by cases hq
 | .ref E o,x,q0::bx,more,n,hl,q,hq=>by
  simp only[List.cons_append,cP,List.map_cons]
  rcases List.mem_cons.1 hq with rfl|hq
  ·exact List.mem_cons_self ..
  ·exact List.mem_cons_of_mem _ (mb (o:=o) (by simpa[OT.nb] using hl) q hq)
 | .pair a b,x,bx,more,n,hl,q,hq=>by
  simp only[OT.nb] at hl
  simp only[cP,List.map_append]
  rw[← List.take_append_drop a.nb bx] at hq
  have e1:bx++more=bx.take a.nb++(bx.drop a.nb++more):=by rw[← List.append_assoc,List.take_append_drop]
  rcases List.mem_append.1 hq with hq|hq
  ·refine List.mem_append_left _ ?_
   rw[e1]
   exact mb (o:=a) (by rw[List.length_take];omega) q hq
  ·refine List.mem_append_right _ ?_
   rw[List.drop_append_of_le_length (by omega)]
   exact mb (o:=b) (by rw[List.length_drop];omega) q hq
theorem jc{al:Bool}{Nc:bq}(m1:ar w Nc A1 env1 h1 w1)(hA:∀ b,A1 b->A2 b)(b0:Nat):∀(rs:List RK)(d:cj rs)(svs:List SV)(vs:List Value)(fz:List (Nat×Nm))(ow:List (Option Nat))(n:Nat),
  dj al rs svs h1=some (d,fz,ow)->ac A1 env1 w1 svs vs->(∀ k,bJ env1 fz k->A2 k)->(gh rs=true∨∀ b,A2 b->A' b)->gJ rs=[] →
  dI h1 fz/\ow.length=bE rs/\((al=true->env' b0=env1 PN)->(∀ i o,ow[i]? = some o->env' (n+i)=dt env1 o)->ac A' env' w1 (cF b0 rs d n) vs/\cd A' env1 h1 env' w1 ow (cX b0 rs d n) n)
 | [],d,[],vs,fz,ow,n,e,hd,hF,L,hx=>by
  simp only[dj,Option.some.injEq,Prod.mk.injEq] at e
  obtain⟨-,rfl,rfl⟩:=e
  exact⟨fun n b hh=>by simp at hh,rfl,fun _ _=>⟨by simpa[cF,ac] using hd,trivial⟩⟩
 | .val t::rs,d,v::svs,vs,fz,ow,n,e,hd,hF,L,hx=>by
  simp only[dj] at e
  split at e
  ·rename_i x f1 q hp
   split at e
   ·rename_i ps f2 o hr
    simp only[Option.some.injEq,Prod.mk.injEq] at e
    obtain⟨rfl,rfl,rfl⟩:=e
    simp only[ac] at hd
    obtain⟨u,vr,rfl,hu,hvr⟩:=hd
    have hF1:∀ k,bJ env1 f1 k->A2 k:=fun k ⟨n,x,l,hx,he⟩=>hF k ⟨n,x,l,List.mem_append_left _ hx,he⟩
    have hF2:∀ k,bJ env1 f2 k->A2 k:=fun k ⟨n,x,l,hx,he⟩=>hF k ⟨n,x,l,List.mem_append_right _ hx,he⟩
    obtain⟨p1,_,p3,p4,_⟩:=fI m1 t [v] [u] x [] f1 _ hp (by simp only[ac];exact⟨u,[],rfl,hu,rfl⟩) hA hF1
    obtain⟨s1,s2,s3⟩:=jc m1 hA b0 rs ps svs vr f2 o n hr hvr hF2 (iO L) hx
    refine⟨fun n b hh=>?_,s2,fun hal he=>?_⟩
    ·rcases List.mem_append.1 hh with hh|hh
     ·exact p1 n b hh
     ·exact s1 n b hh
    ·obtain⟨k1,k2⟩:=s3 hal he
     refine⟨?_,k2⟩
     simp only[cF,ac]
     exact⟨u,vr,rfl,pP (rest:=[]) (mr (jh (c:=true) L) p4),k1⟩
   ·cases e
  ·cases e
 | .agg t::rs,d,svs0,vs,fz,ow,n,e,hd,hF,L,hx=>by
  obtain⟨cs,svs,rfl⟩:=zK e
  simp only[dj] at e
  split at e
  ·rename_i x f1 w' hp
   split at e
   ·rename_i ps f2 o hr
    simp only[Option.some.injEq,Prod.mk.injEq] at e
    obtain⟨rfl,rfl,rfl⟩:=e
    simp only[ac,aa] at hd
    obtain⟨u,vr,rfl,⟨us,rfl,hu⟩,hvr⟩:=hd
    have hF1:∀ k,bJ env1 f1 k->A2 k:=fun k ⟨n,x,l,hx,he⟩=>hF k ⟨n,x,l,List.mem_append_left _ hx,he⟩
    have hF2:∀ k,bJ env1 f2 k->A2 k:=fun k ⟨n,x,l,hx,he⟩=>hF k ⟨n,x,l,List.mem_append_right _ hx,he⟩
    obtain⟨p1,p2,us',rs',p3,p4,p5⟩:=js (env':=env') m1 hA b0 t none cs us.toList x [] f1 w' [] [] n hp hu hF1 (jh (c:=true) L) (.inl rfl)
    simp only[ac] at p4
    subst p4
    rw[List.append_nil] at p3
    subst p3
    obtain⟨s1,s2,s3⟩:=jc m1 hA b0 rs ps svs vr f2 o (n+t.nr) hr hvr hF2 (iO L) (List.append_eq_nil_iff.1 hx).2
    refine⟨fun n b hh=>?_,by simp only[List.length_append,p2,s2,bE];omega,fun hal he=>?_⟩
    ·rcases List.mem_append.1 hh with hh|hh
     ·exact p1 n b hh
     ·exact s1 n b hh
    ·obtain⟨l1,l2,_⟩:=p5 (fun i hi=>by rw[(List.append_eq_nil_iff.1 hx).1] at hi;cases hi) hal (fun k q hq=>he k q (by rw[List.getElem?_append_left (List.getElem?_eq_some_iff.1 hq).1];exact hq)) (fun j0 k q hj _=>by cases hj)
     obtain⟨k1,k2⟩:=s3 hal (fun k q hq=>by
      have:=he (t.nr+k) q (by rw[List.getElem?_append_right (by omega),p2,Nat.add_sub_cancel_left];exact hq)
      rwa [show n+(t.nr+k)=n+t.nr+k from by omega] at this)
     simp only[cF,cX,ac,aa]
     exact⟨⟨_,vr,rfl,⟨us,rfl,l1⟩,k1⟩,l2.append (by rw[p2];exact k2)⟩
   ·cases e
  ·cases e
 | .own E t::rs,d,svs0,vs,fz,ow,n,e,hd,hF,L,hx=>by
  obtain⟨v,svs,rfl⟩:=Ca e
  simp only[dj] at e
  split at e
  ·rename_i x r1 w' hp
   split at e
   ·rename_i ps f2 o hr
    simp only[Option.some.injEq,Prod.mk.injEq] at e
    obtain⟨rfl,rfl,rfl⟩:=e
    simp only[ac] at hd
    obtain⟨u,vr,rfl,hu,hvr⟩:=hd
    obtain⟨v',vr',p1,-,-,p3⟩:=uo (A':=A') m1 hA (jh (c:=true) L) hp (vs:=[u]) (by simp only[ac];exact⟨u,[],rfl,hu,rfl⟩)
    cases p1
    obtain⟨s1,s2,s3⟩:=jc m1 hA b0 rs ps svs vr f2 o (n+1) hr hvr hF (iO L) hx
    refine⟨s1,by simp only[List.length_cons,s2,bE],fun hal he=>?_⟩
    obtain⟨l1,l2⟩:=p3 env' n (he 0 _ rfl)
    obtain⟨k1,k2⟩:=s3 hal (fun k q hq=>by have:=he (k+1) q (by simpa using hq);rwa [show n+(k+1)=n+1+k from by omega] at this)
    simp only[cF,cX,ac]
    exact⟨⟨u,vr,rfl,l1,k1⟩,l2.1,k2⟩
   ·cases e
  ·cases e
 | .box E t::rs,d,svs0,vs,fz,ow,n,e,hd,hF,L,hx=>by
  obtain⟨q,svs,rfl⟩:=xJ e
  simp only[dj] at e
  split at e
  ·rename_i E' cs hl
   split at e
   ·rename_i x f1 w' hE hp
    have hE:=Nat.eq_of_beq_eq_true hE
    subst hE
    split at e
    ·rename_i ps f2 o hr
     simp only[Option.some.injEq,Prod.mk.injEq] at e
     obtain⟨rfl,rfl,rfl⟩:=e
     simp only[ac,aa] at hd
     obtain⟨u,vr,rfl,⟨kb,lb,hkb,rfl⟩,hvr⟩:=hd
     obtain⟨⟨us,hus,hdu⟩,_⟩:=m1.live_blk hl hkb
     have hF1:∀ k,bJ env1 f1 k->A2 k:=fun k ⟨n,x,l,hx,he⟩=>hF k ⟨n,x,l,List.mem_append_left _ hx,he⟩
     have hF2:∀ k,bJ env1 f2 k->A2 k:=fun k ⟨n,x,l,hx,he⟩=>hF k ⟨n,x,l,List.mem_append_right _ hx,he⟩
     obtain⟨p1,p2,us',rs',p3,p4,p5⟩:=js (env':=env') m1 hA b0 t none cs us.toList x [] f1 w' [] [] (n+1) hp hdu hF1 (jh (c:=true) L) (.inl rfl)
     simp only[ac] at p4
     subst p4
     rw[List.append_nil] at p3
     subst p3
     obtain⟨s1,s2,s3⟩:=jc m1 hA b0 rs ps svs vr f2 o (n+1+t.nr) hr hvr hF2 (iO L) (List.append_eq_nil_iff.1 hx).2
     refine⟨fun n b hh=>?_,by simp only[List.length_cons,List.length_append,p2,s2,bE];omega,fun hal he=>?_⟩
     ·rcases List.mem_append.1 hh with hh|hh
      ·exact p1 n b hh
      ·exact s1 n b hh
     ·have h0:=he 0 (some q) rfl
      simp only[Nat.add_zero,dt] at h0
      have he':∀ k q',(w'++o)[k]? = some q'→env' (n+1+k)=dt env1 q':=fun k q' hq=>by
       have:=he (k+1) q' (by simpa using hq);rwa [show n+(k+1)=n+1+k from by omega] at this
      obtain⟨l1,l2,_⟩:=p5 (fun i hi=>by rw[(List.append_eq_nil_iff.1 hx).1] at hi;cases hi) hal (fun k q hq=>he' k q (by rw[List.getElem?_append_left (List.getElem?_eq_some_iff.1 hq).1];exact hq)) (fun j0 k q hj _=>by cases hj)
      obtain⟨k1,k2⟩:=s3 hal (fun k q hq=>by
       have:=he' (t.nr+k) q (by rw[List.getElem?_append_right (by omega),p2,Nat.add_sub_cancel_left];exact hq)
       rwa [show n+1+(t.nr+k)=n+1+t.nr+k from by omega] at this)
      simp only[cF,cX,ac,aa]
      refine⟨⟨_,vr,rfl,⟨kb,lb,by rw[h0];exact hkb,rfl⟩,k1⟩,⟨rfl,_,rfl,rfl,.inl ⟨q,_,rfl,hl,rfl,fun k len hk=>?_,fun hk=>?_⟩⟩,l2.append (by rw[p2];exact k2)⟩
      ·rw[hkb] at hk;cases hk
       exact⟨us,hus,l1⟩
      ·rw[hkb] at hk;cases hk
    ·cases e
   ·cases e
  ·cases e
 | .fn f k::rs,d,svs0,vs,fz,ow,n,e,hd,hF,L,hx=>by
  obtain⟨g,cs,svs,rfl⟩:=yq e
  simp only[dj] at e
  split at e
  ·rename_i hf hk
   have hf:=Nat.eq_of_beq_eq_true hf
   have hk:=Nat.eq_of_beq_eq_true hk
   subst hf
   split at e
   ·rename_i ps f2 o hr
    simp only[Option.some.injEq,Prod.mk.injEq] at e
    obtain⟨rfl,rfl,rfl⟩:=e
    simp only[ac,aa] at hd
    obtain⟨x,vr,rfl,⟨us,rfl,hu⟩,hvr⟩:=hd
    have hul:=ca hu
    obtain⟨s1,s2,s3⟩:=jc m1 hA b0 rs ps (cs++svs) (us.toList++vr) f2 o n hr (gk hu hvr) hF L hx
    refine⟨s1,s2,fun hal he=>?_⟩
    obtain⟨k1,k2⟩:=s3 hal he
    refine⟨?_,k2⟩
    simp only[cF,ac,aa]
    refine⟨_,vr,rfl,⟨us,rfl,?_⟩,?_⟩
    ·have:=lp k k1
     rwa [List.take_left' (by omega)] at this
    ·have:=la k k1
     rwa [List.drop_left' (by omega)] at this
   ·cases e
  ·cases e
 | [],_,_::_,_,_,_,_,e,_,_,_,_=>by cases e
 | .val _::_,_,[],_,_,_,_,e,_,_,_,_=>by cases e
def ch:List PK->Nat
 | []=>0
 | .val _::r=>ch r
 | .agg _::r=>ch r
 | .own _ _::r=>ch r
 | .ago _::r=>ch r
 | .fn _ _::r=>ch r
 | .nils::r=>ch r
 | .box _ o::r=>o.nb+ch r+1
 | .row _ _::r=>ch r+1
theorem mu:∀{o:OT}{d:o.D}{j i:Nat},(fD o d j i).length=o.nb
 | .dat _,_,_,_=>rfl
 | .row _ _,_,_,_=>rfl
 | .rowg _ _,_,_,_=>rfl
 | .fnc _,_,_,_=>rfl
 | .ali,_,_,_=>rfl
 | .hole _,_,_,_=>rfl
 | .ref _ o,d,j,i=>by simp only[fD,List.length_cons,mu (o:=o),OT.nb]
 | .pair a b,d,j,i=>by simp only[fD,List.length_append,mu (o:=a),mu (o:=b),OT.nb]
theorem gM:∀{ps:List PK}{d:aI ps}{j i:Nat},(eY ps d j i).length=ch ps
 | [],_,_,_=>rfl
 | .val t::ps,d,j,i=>gM (ps:=ps)
 | .agg t::ps,d,j,i=>gM (ps:=ps)
 | .own _ t::ps,d,j,i=>gM (ps:=ps)
 | .ago _::ps,d,j,i=>gM (ps:=ps)
 | .fn _ _::ps,d,j,i=>gM (ps:=ps)
 | .nils::ps,d,j,i=>gM (ps:=ps)
 | .box E o::ps,d,j,i=>by simp only[eY,List.length_cons,List.length_append,mu,gM (ps:=ps),ch]
 | .row E t::ps,d,j,i=>by simp only[eY,List.length_cons,gM (ps:=ps),ch]
theorem gw{Nc:bq}(m1:ar w Nc A1 env1 h1 w1)(hA:∀ b,A1 b->A2 b)(b0:Nat):∀(ps:List PK)(d:bB ps)(fz:List (Nat×Nm))(ow:List (Option Nat))(bx:List Nat)(j n:Nat),
  cZ ps j h1=some (d,fz,ow)->(∀ k,bJ env1 fz k->A2 k)->(c7 ps=true∨∀ b,A2 b->A' b)->bx.length=ch ps →
  dI h1 fz/\ow.length=co ps/\((∀ i∈cN ps,∀ v s,env1 (HN+i) = .val v s->aa A' env' w1 s v)->(bx≠[]->env' b0=env1 PN)->(∀ k q,ow[k]? = some q->env' (n+k)=dt env1 q)->(∀ k q,bx[k]? = some q->env' q=env1 (PN+(j+k))) →
   cd A' env1 h1 env' w1 ow (bU ps d n) n/\(∀ q x,(q,x)∈bC b0 ps d bx n->eV A' env1 h1 env' w1 bx j q x))∧∀ q,q∈bx->q∈(bC b0 ps d bx n).map (·.1)
 | [],d,fz,ow,bx,j,n,e,hF,L,hl=>by
  simp only[cZ,Option.some.injEq,Prod.mk.injEq] at e
  obtain⟨-,rfl,rfl⟩:=e
  simp only[ch,List.length_eq_zero_iff] at hl
  subst hl
  exact⟨fun n b hh=>by simp at hh,rfl,fun _ _ _ _=>⟨trivial,fun q x hh=>by simp[bC] at hh⟩,fun q hh=>by simp at hh⟩
 | .val t::ps,d,fz,ow,bx,j,n,e,hF,L,hl=>by
  simp only[bC,bU,co]
  exact gw m1 hA b0 ps d fz ow bx j n (by simpa only[cZ] using e) hF (by simpa only[c7] using L) (by simpa only[ch] using hl)
 | .agg t::ps,d,fz,ow,bx,j,n,e,hF,L,hl=>by
  simp only[bC,bU,co]
  exact gw m1 hA b0 ps d fz ow bx j n (by simpa only[cZ] using e) hF (by simpa only[c7] using L) (by simpa only[ch] using hl)
 | .own _ t::ps,d,fz,ow,bx,j,n,e,hF,L,hl=>by
  simp only[bC,bU,co]
  exact gw m1 hA b0 ps d fz ow bx j n (by simpa only[cZ] using e) hF (by simpa only[c7] using L) (by simpa only[ch] using hl)
 | .ago _::ps,d,fz,ow,bx,j,n,e,hF,L,hl=>by
  simp only[bC,bU,co]
  obtain⟨s1,s2,s3,s4⟩:=gw m1 hA b0 ps d fz ow bx j n (by simpa only[cZ] using e) hF (by simpa only[c7] using L) (by simpa only[ch] using hl)
  exact⟨s1,s2,fun hH=>s3 fun i hi=>hH i (List.mem_append_right _ hi),s4⟩
 | .fn _ _::ps,d,fz,ow,bx,j,n,e,hF,L,hl=>by
  simp only[bC,bU,co]
  exact gw m1 hA b0 ps d fz ow bx j n (by simpa only[cZ] using e) hF (by simpa only[c7] using L) (by simpa only[ch] using hl)
 | .nils::ps,d,fz,ow,bx,j,n,e,hF,L,hl=>by
  simp only[bC,bU,co]
  exact gw m1 hA b0 ps d fz ow bx j n (by simpa only[cZ] using e) hF (by simpa only[c7] using L) (by simpa only[ch] using hl)
 | .box E o::ps,d,fz,ow,bx,j,n,e,hF,L,hl=>by
  cases bx with
  | nil=>simp[ch] at hl
  | cons n0 bx =>
  simp only[cZ] at e
  split at e
  ·rename_i E' cs hlk
   split at e
   ·rename_i x f1 w' hE hp
    have hE:=Nat.eq_of_beq_eq_true hE
    subst hE
    split at e
    ·rename_i ps' f2 ow2 hr
     simp only[Option.some.injEq,Prod.mk.injEq] at e
     obtain⟨rfl,rfl,rfl⟩:=e
     simp only[List.length_cons,ch] at hl
     have hF1:∀ k,bJ env1 f1 k->A2 k:=fun k ⟨n,x,l,hx,he⟩=>hF k ⟨n,x,l,List.mem_append_left _ hx,he⟩
     have hF2:∀ k,bJ env1 f2 k->A2 k:=fun k ⟨n,x,l,hx,he⟩=>hF k ⟨n,x,l,List.mem_append_right _ hx,he⟩
     have hlt:(bx.take o.nb).length=o.nb:=by rw[List.length_take];omega
     have eb:bx.take o.nb++bx.drop o.nb=bx:=List.take_append_drop ..
     obtain⟨s1,s2,s3,s4⟩:=gw m1 hA b0 ps ps' f2 ow2 (bx.drop o.nb) (j+1+o.nb) (n+o.nr) hr hF2 (iO L) (by rw[List.length_drop];omega)
     have hm:=m1.nm (PN+j)
     rw[hlk] at hm
     have hbd:∃ kb lb us,env1 (PN+j) = .blk kb lb/\w1.heap[kb]? = some (.cells us E (0,0))/\ac A1 env1 w1 cs us.toList:=by
      rcases hm with⟨k',len',he',⟨us,hus,hdu⟩,_⟩|⟨he',_,_,hb|hb⟩
      ·exact⟨k',len',us,he',hus,hdu⟩
      ·cases hb
      ·cases hb
     obtain⟨kb,lb,us,hkb,hus,hdu⟩:=hbd
     obtain⟨p1,p2,us',rs',p3,p4,p5⟩:=js (al:=true) (env':=env') m1 hA b0 o (some (j+1)) cs us.toList x [] f1 w' (bx.take o.nb) (bx.drop o.nb) n hp hdu hF1 (jh (c:=true) L) (.inr hlt)
     simp only[ac] at p4
     subst p4
     rw[List.append_nil] at p3
     subst p3
     rw[eb] at p5
     refine⟨fun n b hh=>?_,by simp only[List.length_append,p2,s2,co];omega,fun hH h0b ho hb=>?_,fun q hq=>?_⟩
     ·rcases List.mem_append.1 hh with hh|hh
      ·exact p1 n b hh
      ·exact s1 n b hh
     ·obtain⟨l1,l2,l3,_⟩:=p5 (fun i hi=>hH i (List.mem_append_left _ hi)) (fun _=>h0b (by simp)) (fun k q hq=>ho k q (by rw[List.getElem?_append_left (List.getElem?_eq_some_iff.1 hq).1];exact hq))
       (fun j0 k q hj hq=>by
        cases hj
        rw[List.getElem?_take] at hq
        split at hq
        ·have:=hb (k+1) q (by simpa using hq)
         rwa [show j+(k+1)=j+1+k from by omega] at this
        ·cases hq)
      obtain⟨k1,k2⟩:=s3 (fun i hi=>hH i (List.mem_append_right _ hi)) (fun _=>h0b (by simp)) (fun k q hq=>by
        have:=ho (o.nr+k) q (by rw[List.getElem?_append_right (by omega),p2,Nat.add_sub_cancel_left];exact hq)
        rwa [show n+(o.nr+k)=n+o.nr+k from by omega] at this)
       (fun k q hq=>by
        rw[List.getElem?_drop] at hq
        have:=hb (o.nb+k+1) q (by simpa using hq)
        rwa [show j+(o.nb+k+1)=j+1+o.nb+k from by omega] at this)
      simp only[bU,bC]
      refine⟨l2.append (by rw[p2];exact k1),fun q y hh=>?_⟩
      rcases List.mem_cons.1 hh with hh|hh
      ·cases hh
       refine⟨0,_,_,rfl,rfl,rfl,hlk,rfl,fun k len he=>?_,fun he=>?_⟩
       ·rw[Nat.add_zero,hkb] at he;cases he
        exact⟨us,hus,l1⟩
       ·rw[Nat.add_zero,hkb] at he;cases he
      ·rcases List.mem_append.1 hh with hh|hh
       ·obtain⟨j0,hj,hx⟩:=l3 q y hh
        cases hj
        have:=(eV.shift (pre:=[n0]) (j:=j) hx).grow (post:=bx.drop o.nb)
        rwa [List.append_assoc,eb] at this
       ·have:=eV.shift (pre:=n0::bx.take o.nb) (bx:=bx.drop o.nb) (j:=j) (n:=q) (x:=y) (by rw[List.length_cons,hlt,show j+(o.nb+1)=j+1+o.nb from by omega];exact k2 q y hh)
        rwa [List.cons_append,eb] at this
     ·simp only[bC,List.map_cons,List.map_append]
      rcases List.mem_cons.1 hq with rfl|hq
      ·exact List.mem_cons_self ..
      ·refine List.mem_cons_of_mem _ ?_
       rw[← eb] at hq
       rcases List.mem_append.1 hq with hq|hq
       ·refine List.mem_append_left _ ?_
        have:=mb (b0:=b0) (o:=o) (x:=x) (n:=n) (more:=bx.drop o.nb) hlt q hq
        rwa [eb] at this
       ·exact List.mem_append_right _ (s4 q hq)
    ·cases e
   ·cases e
  ·cases e
 | .row E t::ps,d,fz,ow,bx,j,n,e,hF,L,hl=>by
  cases bx with
  | nil=>simp[ch] at hl
  | cons n0 bx =>
  simp only[cZ] at e
  split at e
  ·rename_i E' t' xs hlk
   split at e
   ·rename_i ys hE hcl
    have hE:=Nat.eq_of_beq_eq_true hE
    subst hE
    obtain⟨et,ez⟩:=cr hcl
    subst et
    simp only at ez
    subst ez
    split at e
    ·rename_i ps' f2 ow2 hr
     simp only[Option.some.injEq,Prod.mk.injEq] at e
     obtain⟨rfl,rfl,rfl⟩:=e
     obtain⟨s1,s2,s3,s4⟩:=gw m1 hA b0 ps ps' f2 ow2 bx (j+1) n hr hF (iO L) (by simpa[ch] using hl)
     have hm:=m1.nm (PN+j)
     rw[hlk] at hm
     refine⟨s1,s2,fun hH h0b ho hb=>?_,fun q hq=>?_⟩
     ·obtain⟨k1,k2⟩:=s3 hH (fun _=>h0b (by simp)) ho (fun k q hq=>by have:=hb (k+1) q (by simpa using hq);rwa [show j+(k+1)=j+1+k from by omega] at this)
      simp only[bU,bC]
      refine⟨k1,fun q y hh=>?_⟩
      rcases List.mem_cons.1 hh with hh|hh
      ·cases hh
       refine⟨0,_,_,rfl,rfl,rfl,hlk,rfl,fun k len he=>?_,fun he=>?_⟩
       ·rcases hm with⟨k',len',he',hb,_⟩|⟨he',_⟩
        ·rw[Nat.add_zero] at he;rw[he] at he';cases he'
         obtain⟨us,cap,g1,g2,g3,g4,g5,g6⟩:=hb
         exact⟨us,cap,g1,g2,g3,g4,g5,fun i hi=>mr (jh (c:=true) L) (bQ hA (fun _ _ _=>rfl) _ _ _ _ _ (fun _ _=>rfl) (g6 i hi))⟩
        ·rw[Nat.add_zero] at he;rw[he] at he';cases he'
       ·rcases hm with⟨k',len',he',hb,_⟩|⟨he',E2,t2,hb⟩
        ·rw[Nat.add_zero] at he;rw[he] at he';cases he'
        ·rcases hb with hb|hb <;> cases hb
         exact⟨_,_,rfl⟩
      ·exact eV.shift (pre:=[n0]) (k2 q y hh)
     ·simp only[bC,List.map_cons]
      rcases List.mem_cons.1 hq with rfl|hq
      ·exact List.mem_cons_self ..
      ·exact List.mem_cons_of_mem _ (s4 q hq)
    ·cases e
   ·cases e
  ·cases e
end
end Go.SX

/- SX, part 22: a function's contract, off its symbolic run (the proof). -/
namespace Go.SX
set_option linter.unusedVariables false
def b7:List Nat->Nat->Rn
 | [],_=>[]
 | n::bx,j=>(n,some (PN+j))::b7 bx (j+1)
def ci:List (Option Nat)->Nat->Rn
 | [],_=>[]
 | o::r,n=>(n,o)::ci r (n+1)
theorem ot{a b:Rn}{n:Nat}:aS (a++b) n=(match aS a n with|some x=>some x|none=>aS b n):=by
 induction a with
 | nil=>rfl
 | cons p a ih =>
  obtain⟨m,x⟩:=p
  simp only[List.cons_append,dO]
  split
  ·rfl
  ·exact ih
theorem oW:∀{bx:List Nat}{j n:Nat}{y:Option Nat},aS (b7 bx j) n=some y→∃ i,bx[i]? = some n/\y=some (PN+(j+i))
 | [],j,n,y,h=>by simp[b7,aS] at h
 | m::bx,j,n,y,h=>by
  simp only[b7,dO] at h
  split at h
  ·rename_i e;cases h;exact⟨0,by simp[e],rfl⟩
  ·obtain⟨i,h1,h2⟩:=oW h
   exact⟨i+1,by simpa using h1,by rw[h2,show j+1+i=j+(i+1) from by omega]⟩
theorem tv:∀{bx:List Nat}{j n i:Nat},bx.Nodup->bx[i]? = some n->aS (b7 bx j) n=some (some (PN+(j+i)))
 | [],j,n,i,_,h=>by simp at h
 | m::bx,j,n,0,_,h=>by
  simp at h;subst h
  simp only[b7,dO,if_pos,Nat.add_zero]
 | m::bx,j,n,i+1,hn,h=>by
  have h':bx[i]? = some n:=by simpa using h
  obtain⟨h1,h2⟩:=List.nodup_cons.1 hn
  have hne:n≠m:=fun e=>h1 (e▸List.mem_of_getElem? h')
  simp only[b7,dO,if_neg hne,tv h2 h']
  rw[show j+1+i=j+(i+1) from by omega]
theorem yM{bx:List Nat}{j n:Nat}(h:n ∉ bx):aS (b7 bx j) n=none:=by
 cases hl:aS (b7 bx j) n with
 | none=>rfl
 | some y=>obtain⟨i,hi,_⟩:=oW hl;exact absurd (List.mem_of_getElem? hi) h
theorem sI:∀{ow:List (Option Nat)}{n0 n:Nat}{y:Option Nat},aS (ci ow n0) n=some y→∃ i,ow[i]? = some y/\n=n0+i
 | [],n0,n,y,h=>by simp[ci,aS] at h
 | o::ow,n0,n,y,h=>by
  simp only[ci,dO] at h
  split at h
  ·rename_i e;cases h;exact⟨0,by simp,by omega⟩
  ·obtain⟨i,h1,h2⟩:=sI h
   exact⟨i+1,by simpa using h1,by omega⟩
theorem tP:∀{ow:List (Option Nat)}{n0 i:Nat}{o:Option Nat},ow[i]? = some o->aS (ci ow n0) (n0+i)=some o
 | [],n0,i,o,h=>by simp at h
 | p::ow,n0,0,o,h=>by simp at h;subst h;simp[ci,dO]
 | p::ow,n0,i+1,o,h=>by
  have h':ow[i]? = some o:=by simpa using h
  have:=tP (n0:=n0+1) h'
  simp only[ci,dO,if_neg (show ¬ n0+(i+1)=n0 from by omega)]
  rw[show n0+(i+1)=n0+1+i from by omega];exact this
theorem oK{n:Nat}:∀{l:List (Option Nat)},hZ n l=true↔some n∈l
 | []=>by simp[hZ]
 | none::r=>by simp[hZ,oK (l:=r)]
 | some m::r=>by simp[hZ,oK (l:=r)]
theorem qb{fz:List (Nat×Nm)}:∀{ow:List (Option Nat)},iV fz ow=true→∀(i m:Nat),ow[i]? = some (some m)->(m<PN∨QN<=m)/\m ∉ fz.map (·.1)∧∀ i':Nat,ow[i']? = some (some m)->i=i'
 | [],_,i,m,h=>by simp at h
 | none::r,h,i,m,hi=>by
  simp only[iV] at h
  cases i with
  | zero=>simp at hi
  | succ i =>
   obtain⟨h1,h2,h3⟩:=qb h i m (by simpa using hi)
   refine⟨h1,h2,fun i' hi'=>?_⟩
   cases i' with
   | zero=>simp at hi'
   | succ i'=>rw[h3 i' (by simpa using hi')]
 | some q::r,h,i,m,hi=>by
  simp only[iV,Bool.and_eq_true,Bool.or_eq_true,Bool.not_eq_true'] at h
  obtain⟨⟨⟨h1,h2⟩,h3⟩,h4⟩:=h
  have hno:∀ i:Nat,r[i]? ≠ some (some q):=fun i hi=>by
   have:hZ q r=true:=oK.2 (List.mem_of_getElem? hi)
   rw[this] at h3;cases h3
  cases i with
  | zero =>
   simp at hi;subst hi
   refine⟨h1.imp (fun h=>Nat.le_of_ble_eq_true h) (fun h=>Nat.le_of_ble_eq_true h),jW h2,fun i' hi'=>?_⟩
   cases i' with
   | zero=>rfl
   | succ i'=>exact absurd (by simpa using hi') (hno i')
  | succ i =>
   obtain⟨g1,g2,g3⟩:=qb h4 i m (by simpa using hi)
   refine⟨g1,g2,fun i' hi'=>?_⟩
   cases i' with
   | zero=>simp at hi';subst hi';exact absurd (by simpa using hi) (hno i)
   | succ i'=>rw[g3 i' (by simpa using hi')]
theorem tY:∀{fz:List (Nat×Nm)},kG fz=true→∀ n,n∈fz.map (·.1)->n<PN∨QN<=n
 | [],_,n,h=>by simp at h
 | (m,b)::r,h,n,hn=>by
  simp only[kG,Bool.and_eq_true,Bool.or_eq_true] at h
  rcases List.mem_cons.1 hn with e|hn
  ·have e:n=m:=e
   subst e;exact h.1.imp (fun h=>Nat.le_of_ble_eq_true h) (fun h=>Nat.le_of_ble_eq_true h)
  ·exact tY h.2 n hn
theorem vI{fz:List (Nat×Nm)}:∀{bx:List Nat},kJ fz bx=true→∀ n,n∈bx->n ∉ fz.map (·.1)
 | [],_,n,h=>by simp at h
 | m::r,h,n,hn=>by
  simp only[kJ,Bool.and_eq_true] at h
  rcases List.mem_cons.1 hn with rfl|hn
  ·exact jW h.1
  ·exact vI h.2 n hn
theorem na{h:aC}{dl d:Dl}:∀{k n:Nat}{r:List Nat},(fv n k dl).run h=some (d,r)->d=dl∧∀ i,i<k->h (n+i) = .un
 | 0,n,r,e=>by
  simp only[fv,Q.run,Option.some.injEq,Prod.mk.injEq] at e
  exact⟨e.1.symm,fun i hi=>by omega⟩
 | k+1,n,r,e=>by
  simp only[fv,Q.run] at e
  split at e
  ·rename_i p q hk
   simp only[Option.some.injEq,Prod.mk.injEq] at e
   obtain⟨rfl,rfl⟩:=e
   split at hk
   ·rename_i hun
    obtain⟨h1,h2⟩:=na hk
    refine⟨h1,fun i hi=>?_⟩
    cases i with
    | zero=>exact hun
    | succ i=>rw[show n+(i+1)=n+1+i from by omega];exact h2 i (by omega)
   ·cases hk
  ·cases e
theorem pQ{n:Nat}{x:Nm}:∀{cx:List (Option Nat)},(n,x)∈dZ cx->x = .dead/\n∈b8 cx
 | [],h=>by simp[dZ] at h
 | none::r,h=>by simp only[dZ] at h;simpa only[b8] using pQ (cx:=r) h
 | some m::r,h=>by
  simp only[dZ] at h
  rcases List.mem_cons.1 h with h|h
  ·cases h;exact⟨rfl,List.mem_cons_self ..⟩
  ·obtain⟨h1,h2⟩:=pQ (cx:=r) h
   exact⟨h1,List.mem_cons_of_mem _ h2⟩
theorem pM:∀{cx:List (Option Nat)},(dZ cx).map (·.1)=b8 cx
 | []=>rfl
 | none::r=>by simp only[dZ,b8];exact pM (cx:=r)
 | some m::r=>by simp only[dZ,b8,List.map_cons,pM (cx:=r)]
def pm(P:Program)(ty:TypeId)(v:SV)(h:aC):Option SV:=match v with
 | .ptr n off=>match h n with
  | .live (.cells _ cs)=>dM P ty cs off
  | _=>none
 | _=>none
def gA(P:Program):List ResultVar->List SV->aC->Option (List SV)
 | [],_,_=>some []
 | .tmp t::r,sl,h=>match gA P r sl h with
  | some l=>some (a8 sl t::l)
  | none=>none
 | .cell a ty::r,sl,h=>match pm P ty (a8 sl a) h,gA P r sl h with
  | some v,some l=>some (v::l)
  | _,_=>none
def jL(l:List Value):Value:=if h:l.toArray.size=1 then l.toArray[0] else .tuple l.toArray
theorem Ai{P:Program}{w0:World}{N0:bq}{A:Nat->Prop}{env:ah}{h:aC}{w:World}(m:ar w0 N0 A env h w){ty:TypeId}{s s':SV}{v:Value}(e:pm P ty s h=some s')(hd:aa A env w s v) :
  ∃ u,(do loadVar ty (← asAddr v):Sem Value).run P w = .ok u w/\aa A env w s' u:=by
 unfold pm at e
 split at e
 ·rename_i n off
  split at e
  ·rename_i E cs hl
   simp only[aa] at hd
   obtain⟨b,l,he,rfl⟩:=hd
   obtain⟨⟨vs,hh,hd⟩,_⟩:=m.live_blk hl he
   obtain⟨u,hr,hv⟩:=kI (o:=0) (k:=b) e hd (fun j hj=>by rw[cell_of_row w b _ vs E (0,0) hh];simp)
   rw[Nat.zero_add] at hr
   exact⟨u,by simp[asAddr,hr],hv⟩
  ·cases e
 ·cases e
theorem ol{P:Program}{w0:World}{N0:bq}{A:Nat->Prop}{env:ah}{h:aC}{w:World}(m:ar w0 N0 A env h w){sl:List SV}{a:Act}(f:FD A env w (a8 sl) a){F:ResultVar->Sem Value}
  (h1:∀ t,F (.tmp t)=pure (a.tmps.getD t undef)) (h2:∀ t ty,F (.cell t ty)=do loadVar ty (← asAddr (a.tmps.getD t undef))):∀(l:List ResultVar)(svs:List SV),gA P l sl h=some svs →
  ∃ vs,(l.mapM F).run P w = .ok vs w/\ac A env w svs vs
 | [],svs,e=>by cases e;exact⟨[],rfl,by simp[ac]⟩
 | .tmp t::l,svs,e=>by
  simp only[gA] at e
  split at e
  ·rename_i l' hl
   cases e
   obtain⟨vs,hr,hd⟩:=ol m f h1 h2 l l' hl
   refine⟨a.tmps.getD t undef::vs,?_,by simp only[ac];exact⟨_,_,rfl,f t,hd⟩⟩
   rw[List.mapM_cons,h1]
   simp[hr]
  ·cases e
 | .cell t ty::l,svs,e=>by
  simp only[gA] at e
  split at e
  ·rename_i v l' hv hl
   cases e
   obtain⟨vs,hr,hd⟩:=ol m f h1 h2 l l' hl
   obtain⟨u,hu,hdu⟩:=Ai m hv (f t)
   refine⟨u::vs,?_,by simp only[ac];exact⟨_,_,rfl,hdu,hd⟩⟩
   rw[List.mapM_cons,h2,Sem.run_bind,hu]
   simp[hr]
  ·cases e
theorem uq{P:Program}{w0:World}{N0:bq}{A:Nat->Prop}{env:ah}{h:aC}{w:World}(m:ar w0 N0 A env h w){sl:List SV}{a:Act}(f:FD A env w (a8 sl) a){fn:Func}{svs:List SV}(e:gA P fn.results.toList sl h=some svs) :
  ∃ vs,(results fn a.tmps).run P w = .ok (jL vs) w/\ac A env w svs vs:=by
 unfold results
 rw[Array.mapM_eq_mapM_toList]
 obtain⟨vs,hr,hd⟩:=ol (P:=P) m f (F:=fun | .tmp t=>pure (a.tmps.getD t undef) | .cell t ty=>do loadVar ty (← asAddr (a.tmps.getD t undef))) (fun t=>rfl) (fun t ty=>rfl) fn.results.toList svs e
 refine⟨vs,?_,hd⟩
 rw[Sem.run_bind,Sem.run_map]
 erw [hr]
 rfl
theorem r7{A:Nat->Prop}{env:ah}{w:World}{svs:List SV}{vs:List Value}(h:ac A env w svs vs):aa A env w (fu svs) (jL vs):=by
 have hl:=ca h
 unfold fu
 split
 ·simp only[ac] at h
  obtain⟨v,r,rfl,h,rfl⟩:=h
  exact h
 ·rename_i hne
  have:¬ vs.length=1:=fun e=>by
   rw[hl] at e
   obtain⟨x,hx⟩:=List.length_eq_one_iff.1 e
   exact hne x hx
  simp only[jL,aa]
  rw[dif_neg (by simpa using this)]
  exact⟨_,rfl,h⟩
def eh:List Prop->Prop
 | []=>True
 | [p]=>p
 | p::q::r=>p/\eh (q::r)
theorem iR:∀{l:List Prop},eh l↔ax l
 | []=>Iff.rfl
 | [p]=>by simp[eh,ax]
 | p::q::r=>by rw[eh,ax,iR]
def jD(P:Program)(ps:List PK)(rs:List RK)(rv:List ResultVar)(k:cj rs×bB ps->Prop):Ex->St->Prop:=fun e S=>match e with
 | .exit _=>False
 | _=>match gA P rv S.sl (aY S.H) with
  | none=>False
  | some vs=>match dj (Nat.blt 0 (ch ps)) rs vs (aY S.H),cZ ps 0 (aY S.H) with
   | some (y,f1,ow),some (z,f2,ow2)=>match iV (f1++f2) (ow++ow2),kG (f1++f2) with
    | true,true=>k (y,z)
    | _,_=>False
   | _,_=>False
def dP:List SV->Nat->List SV
 | _,0=>[]
 | [],n+1 => .junk::dP [] n
 | v::l,n+1=>v::dP l n
def ju(ps:List PK)(d:aI ps)(n:Nat):St:=⟨dP (bW ps d 0 0) n,eY ps d 0 0++(fN ps d 0++gg (cN ps))⟩
theorem nD:∀{l:List SV}{n:Nat},(dP l n).length=n
 | _,0=>by simp[dP]
 | [],n+1=>by simp[dP,nD (l:=[]) (n:=n)]
 | v::l,n+1=>by simp[dP,nD (l:=l) (n:=n)]
theorem mU:∀{l:List SV}{n i:Nat},a8 (dP l n) i = .junk∨∃ s,l[i]? = some s/\a8 (dP l n) i=s
 | _,0,i=>by left;simp[dP,a8,dB]
 | [],n+1,0=>by left;simp[dP,a8,dB]
 | [],n+1,i+1=>by
  rcases mU (l:=[]) (n:=n) (i:=i) with h|⟨s,h,_⟩
  ·left;simpa[dP,a8,dB] using h
  ·simp at h
 | v::l,n+1,0=>by right;exact⟨v,by simp,by simp[dP,a8,dB]⟩
 | v::l,n+1,i+1=>by
  rcases mU (l:=l) (n:=n) (i:=i) with h|⟨s,h,h'⟩
  ·left;simpa[dP,a8,dB] using h
  ·right;exact⟨s,by simpa using h,by simpa[dP,a8,dB] using h'⟩
section
variable {P:Program} {sp:ba}
theorem rz{m:Nat}:∀{l:List Nat},lC m l=true→∀ i∈l,i<m
 | [],_,i,hi=>by cases hi
 | j::r,h,i,hi=>by
  simp only[lC,Bool.and_eq_true] at h
  rcases List.mem_cons.1 hi with rfl|hi
  ·exact Nat.le_of_ble_eq_true h.1
  ·exact rz h.2 i hi
theorem rn{ps:List PK}{rs:List RK}(h:kg ps rs=true):gJ rs=[]/\(cN ps).Nodup∧∀ i∈cN ps,i<QN-HN:=by
 unfold kg at h
 split at h
 ·rename_i hr
  simp only[Bool.and_eq_true] at h
  exact⟨hr,od h.1,rz h.2⟩
 ·cases h
theorem su{ps:List PK}{rs:List RK}(post:aI ps->cj rs×bB ps->Prop){f:FuncId}{fn:Func}{code:Code}(hf:P.funcs[f]? = some fn)(hb:fn.body=some code)(hs:ce P sp)(aH:P.follows .mixedOrders=true)(an:aI ps->aO)
  {base:Nat} {svs:List SV} {h:aC} {dd:aI ps} {fz:List (Nat×Nm)} {bx:List Nat} {cx:List (Option Nat)} {q1:List Nat} (e1:(bL none ps svs).run h=some ((dd,fz,bx,cx),q1)) (hnm:kf ps rs fz bx cx=true)
  (hun:∀ i,i<bE rs+co ps->h (base+i) = .un) (vc:iS ps dd->f8 (ju ps dd fn.ntmps) (sx P sp (an dd) code (jD P ps rs fn.results.toList (post dd))))
  {w0:World} {N0:bq} {A:Nat->Prop} {env:ah} {w:World} {vs:List Value} (hG:N0.g=sp.gl) (m:ar w0 N0 A env h w) (hd:ac A env w svs vs) :
  Calls P f vs.toArray w fun e w'=>∃ v y,e = .returned v/\post dd y∧∃ (A':Nat->Prop) (env':ah),ar w0 N0 A' env' (aM (gp ps rs y base fz bx cx) h) w'∧aT A env w A' env' w'∧aa A' env' w' (fu (cF (bx.headD 0) rs y.1 base)) v:=by
 simp only[kf,Bool.and_eq_true] at hnm
 obtain⟨⟨⟨hnd,hdj⟩,hbh⟩,hix⟩:=hnm
 have hnd:=od hnd
 have hdj:=vI hdj
 have hbh:bx.length<=HN-PN:=Nat.le_of_ble_eq_true hbh
 have hbl:bx.length<=PN:=Nat.le_trans hbh (by decide)
 obtain⟨hxr,hxn,hxl⟩:=rn hix
 obtain⟨a1,a4,hol,hols,a6⟩:=gE m (Ac:=bu A env fz) (fun b hb=>.inl hb) none ps svs vs dd fz bx cx q1 0 0 e1 hd (fun k hk=>.inr hk)
 have holn:(hol.map (·.1)).Nodup:=by rw[hols.1];exact hxn
 have holv:∀ q∈hol,cl env bx cx hol (HN+q.1) = .val q.2.1 q.2.2:=fun q hq=>by
  have hq':q.1∈cN ps:=hols.1▸List.mem_map_of_mem (f:=(·.1)) hq
  unfold cl
  rw[sE hbh (hxl _ hq')]
  exact qt holn q hq
 obtain⟨dargs,lb,lc⟩:=a6 (cl env bx cx hol) (fun _=>rfl) (fun n hn=>by cases hn) (fun k n hn=>by rw[Nat.zero_add];exact mA hbl hn) (fun k q hq=>by rw[Nat.zero_add];exact uu hq) holv
 rw[Nat.add_zero] at lb lc
 have mc:=m.call hol a1 hbl lb lc hdj hnd
 rw[hols.1] at mc
 have hlen:bx.length=ch ps:=by
  have:=lb.get.1
  rw[List.length_map,gM] at this;exact this
 have hnd1:bx.Nodup:=(List.nodup_append.1 hnd).1
 have hvc:=vc a4
 rw[lJ] at hvc
 have hvl:=ca dargs
 have live_ne:∀ q b,h q = .live b->env q ≠ .un:=fun q b hq=>by
  have:=m.nm q
  rw[hq] at this
  rcases this with⟨k,len,e,_⟩|⟨e,_⟩ <;> rw[e] <;> simp
 have hlive:∀ n,n∈bx++b8 cx→∃ b,h n = .live b/\b.mut=true/\env n ≠ .un:=fun n hn=>by
  rcases List.mem_append.1 hn with hn|hn
  ·obtain⟨i,hi⟩:=List.mem_iff_getElem?.1 hn
   obtain⟨b',_,_,_,⟨q,b,e,h1,h2,_⟩|⟨e,_⟩⟩:=lb.get.2 i (some n) (by simp[hi])
   ·cases e;exact⟨b,h1,h2,live_ne _ _ h1⟩
   ·cases e
  ·obtain⟨i,hi⟩:=List.mem_iff_getElem?.1 (iK.1 hn)
   obtain⟨b',_,_,_,⟨q,b,e,h1,h2,_⟩|⟨e,_⟩⟩:=lc.get.2 i (some n) hi
   ·cases e;exact⟨b,h1,h2,live_ne _ _ h1⟩
   ·cases e
 refine calls_of_wp hf hb (sM (N0:=⟨kP env (bx++b8 cx),bu A env fz,N0.g⟩) ⟨hs,hG⟩ aH code _ _ _ (bu A env fz) (cl env bx cx hol) _ w hvc ⟨mc,?_,?_,rfl⟩ ?_)
 ·simp only[St.fs,ju,nD,Array.size_append,Array.size_replicate];omega
 ·intro i
  simp only[St.fs,ju]
  rcases mU (l:=bW ps dd 0 0) (n:=fn.ntmps) (i:=i) with hj|⟨s,h1,h2⟩
  ·rw[hj];simp only[aa]
  ·rw[h2]
   obtain⟨v,hv,hdv⟩:=iG i s dargs h1
   have hi:i<vs.length:=(List.getElem?_eq_some_iff.1 hv).1
   have:(vs.toArray++Array.replicate (fn.ntmps-vs.toArray.size) undef).getD i undef=v:=by
    have h3:(vs.toArray++Array.replicate (fn.ntmps-vs.toArray.size) undef)[i]? = some v:=by
     rw[Array.getElem?_append_left (by simpa using hi)];simpa using hv
    simp only[Array.getD_eq_getD_getElem?,h3,Option.getD_some]
   rw[this];exact hdv
 ·intro ex S' A1 env1 act w1 hK t' x'
  have hend:∃ rsv y f1 owr z f2 owb,gA P fn.results.toList S'.sl (aY S'.H)=some rsv/\dj (Nat.blt 0 (ch ps)) rs rsv (aY S'.H)=some (y,f1,owr)/\cZ ps 0 (aY S'.H)=some (z,f2,owb) ∧
    iV (f1++f2) (owr++owb)=true/\kG (f1++f2)=true/\post dd (y,z)/\(ex = .normal∨ex = .ret):=by
   unfold jD at hK
   split at hK
   ·exact hK.elim
   ·rename_i hex
    split at hK
    ·exact hK.elim
    ·rename_i rsv hts
     split at hK
     ·rename_i y f1 ow z f2 ow2 h1 h2
      split at hK
      ·rename_i h3 h4
       refine⟨rsv,y,f1,ow,z,f2,ow2,hts,h1,h2,h3,h4,hK,?_⟩
       cases ex with
       | normal=>exact .inl rfl
       | ret=>exact .inr rfl
       | exit i=>exact absurd rfl (hex i)
      ·exact hK.elim
     ·exact hK.elim
  obtain⟨rsv,y,f1,owr,z,f2,owb,hts,ho,hob,hown,hlt,hpost,hex⟩:=hend
  obtain⟨rvs,hrun,hres⟩:=uq t'.m t'.f hts
  have hA2:∀ b,A1 b->bu A1 env1 (f1++f2) b:=fun b hb=>.inl hb
  have hF1:∀ k,bJ env1 f1 k->bu A1 env1 (f1++f2) k:=fun k ⟨n,x,l,hx,he⟩=>.inr ⟨n,x,l,List.mem_append_left _ hx,he⟩
  have hF2:∀ k,bJ env1 f2 k->bu A1 env1 (f1++f2) k:=fun k ⟨n,x,l,hx,he⟩=>.inr ⟨n,x,l,List.mem_append_right _ hx,he⟩
  have hlt:=tY hlt
  have hownS:=qb hown
  have hPQ:QN=PN+PN:=rfl
  have fin:∀(As A':Nat->Prop)(hs':aC),ar w0 N0 As env hs' w->(∀ n,n∈bx++b8 cx->hs' n=h n)->(∀ i,i<bE rs+co ps->hs' (base+i) = .un)->(∀ b,A b->As b)->(∀ b,As b->A' b)->(∀ b,A' b->bu A1 env1 (f1++f2) b) →
    (∀ b,A' b->As b∨((kP env (bx++b8 cx) b∨w.heap.size<=b)/\b<w1.heap.size))->(gh rs=true∨∀ b,bu A1 env1 (f1++f2) b->A' b)->(c7 ps=true∨∀ b,bu A1 env1 (f1++f2) b->A' b) →
    ∃ env',ar w0 N0 A' env' (aM (bC (bx.headD 0) ps z bx (base+bE rs)++(cX (bx.headD 0) rs y base++(bU ps z (base+bE rs)++dZ cx))) hs') w1/\aT As env w A' env' w1/\aa A' env' w1 (fu (cF (bx.headD 0) rs y base)) (jL rvs):=by
   intro As A' hs' ms hsb hsu hAs hAA hA'2 hA1' L1 L2
   obtain⟨b1,b2,b3⟩:=jc (A':=A') (env':=br (b7 bx 0++ci (owr++owb) base) env env1) t'.m hA2 (bx.headD 0) rs y _ _ f1 owr base ho hres hF1 L1 hxr
   obtain⟨c1,c2,c3,c4⟩:=gw (A':=A') (env':=br (b7 bx 0++ci (owr++owb) base) env env1) t'.m hA2 (bx.headD 0) ps z f2 owb bx 0 (base+bE rs) hob hF2 L2 hlen
   have hfo:dI (aY S'.H) (f1++f2):=fun n b hh=>by
    rcases List.mem_append.1 hh with hh|hh
    ·exact b1 n b hh
    ·exact c1 n b hh
   have howl:(owr++owb).length=bE rs+co ps:=by rw[List.length_append,b2,c2]
   have hnotbx:∀ i,i<bE rs+co ps->base+i ∉ bx:=fun i hi hmem=>by
    have h1:=hsu i hi
    rw[hsb _ (List.mem_append_left _ hmem)] at h1
    obtain⟨b,hb',_⟩:=hlive _ (List.mem_append_left _ hmem)
    rw[h1] at hb';cases hb'
   have hRbox:∀ i n,bx[i]? = some n->aS (b7 bx 0++ci (owr++owb) base) n=some (some (PN+i)):=fun i n hi=>by
    rw[ot,tv (j:=0) hnd1 hi,Nat.zero_add]
   have hRres:∀ i o,(owr++owb)[i]? = some o->aS (b7 bx 0++ci (owr++owb) base) (base+i)=some o:=fun i o hi=>by
    have hlti:i<bE rs+co ps:=by have:=(List.getElem?_eq_some_iff.1 hi).1;omega
    rw[ot,yM (hnotbx i hlti)]
    exact tP hi
   have hRinv:∀ n y,aS (b7 bx 0++ci (owr++owb) base) n=some y->(∃ i,bx[i]? = some n/\y=some (PN+i))∨∃ i,(owr++owb)[i]? = some y/\n=base+i/\i<bE rs+co ps:=fun n y hy=>by
    rw[ot] at hy
    split at hy
    ·rename_i x hx
     cases hy
     obtain⟨i,h1,h2⟩:=oW hx
     rw[Nat.zero_add] at h2
     exact .inl ⟨i,h1,h2⟩
    ·obtain⟨i,h1,h2⟩:=sI hy
     exact .inr ⟨i,h1,h2,by have:=(List.getElem?_eq_some_iff.1 h1).1;omega⟩
   have hbxlt:∀ i n,bx[i]? = some n->i<PN:=fun i n hi=>by have:=(List.getElem?_eq_some_iff.1 hi).1;omega
   have henvp:∀ i n,bx[i]? = some n->env1 (PN+i)=env n:=fun i n hi=>by
    obtain⟨b,_,_,hne⟩:=hlive n (List.mem_append_left _ (List.mem_of_getElem? hi))
    have:=hbxlt i n hi
    have:=x'.envp (PN+i) (by omega) (by omega) (by rw[mA hbl hi];exact hne)
    rw[this,mA hbl hi]
   have eenv:∀ i o,(owr++owb)[i]? = some o->br (b7 bx 0++ci (owr++owb) base) env env1 (base+i)=dt env1 o:=fun i o hi=>by
    unfold br
    rw[hRres i o hi]
    simp only[bH,hRres i o hi]
    cases o <;> rfl
   have hhead:bx≠[]->br (b7 bx 0++ci (owr++owb) base) env env1 (bx.headD 0)=env1 PN:=fun hne=>by
    obtain⟨n0,r,hbx⟩:=List.exists_cons_of_ne_nil hne
    have h0:bx[0]? = some (bx.headD 0):=by rw[hbx];rfl
    unfold br
    rw[hRbox 0 _ h0]
    simp only[bH,hRbox 0 _ h0,Nat.add_zero]
   obtain⟨d1,d2⟩:=b3 (fun hal=>hhead (fun hnil=>by
     have h0:ch ps=0:=by rw[← hlen,hnil];rfl
     rw[h0] at hal;cases hal)) (fun i o hi=>eenv i o (by rw[List.getElem?_append_left (List.getElem?_eq_some_iff.1 hi).1];exact hi))
   have hkeepE:∀ n,env n ≠ .un->br (b7 bx 0++ci (owr++owb) base) env env1 n=env n:=fun n hn=>by
    unfold br
    cases hl:aS (b7 bx 0++ci (owr++owb) base) n with
    | none=>rfl
    | some y =>
     rcases hRinv n y hl with⟨i,h1,rfl⟩|⟨i,h1,rfl,hi⟩
     ·simp only[bH,hl]
      exact henvp i n h1
     ·exact absurd (by have:=m.nm (base+i);rw[hun i hi] at this;exact this) hn
   have xg:aT A env w A' (br (b7 bx 0++ci (owr++owb) base) env env1) w1 :=
    ⟨fun b hb=>hAA b (hAs b hb),fun n b l e=>by rw[hkeepE n (by rw[e];simp)];exact e,fun n e=>by rw[hkeepE n (by rw[e];simp)];exact e,fun n v s e=>by rw[hkeepE n (by rw[e];simp)];exact e,
     fun b o hb=>x'.keep b o (.inl hb),x'.shape⟩
   have hHole:∀ i∈cN ps,∀ v s,env1 (HN+i) = .val v s->aa A' (br (b7 bx 0++ci (owr++owb) base) env env1) w1 s v:=fun i hi v s he=>by
    rw[← hols.1] at hi
    obtain⟨q,hq,rfl⟩:=List.mem_map.1 hi
    have h1:=holv q hq
    have hlq:=hxl q.1 (hols.1▸List.mem_map_of_mem (f:=(·.1)) hq)
    have h2:=x'.envp (HN+q.1) (by simp only[HN,PN];omega) (by simp only[HN,QN] at hlq ⊢;omega) (by rw[h1];simp)
    rw[h2,h1] at he
    cases he
    exact fR xg _ _ (hols.2 q hq)
   obtain⟨d3,d4⟩:=c3 hHole hhead (fun k q hq=>by
     have:=eenv (bE rs+k) q (by rw[List.getElem?_append_right (by omega),b2,Nat.add_sub_cancel_left];exact hq)
     rwa [← Nat.add_assoc] at this)
    (fun k q hq=>by
     unfold br
     rw[hRbox k q hq]
     simp only[bH,hRbox k q hq,Nat.zero_add])
   have hlookA:∀ q b k l,aY S'.H q = .live b->b.mut=true->env1 q = .blk k l->q ∉ (f1++f2).map (·.1)→¬ A' k:=fun q b k l hq hbm he hqn hA'=>by
    have mf:=(t'.m.freeze hfo).1
    have:aM (f1++f2) S'.fs.h q = .live b:=by rw[dh hqn];exact hq
    exact (mf.live_blk this he).2 hbm (hA'2 k hA')
   suffices hk:ar w0 N0 A' (br (b7 bx 0++ci (owr++owb) base) env env1) (aM (bC (bx.headD 0) ps z bx (base+bE rs)++(cX (bx.headD 0) rs y base++(bU ps z (base+bE rs)++dZ cx))) hs') w1/\aT As env w A' (br (b7 bx 0++ci (owr++owb) base) env env1) w1 by
    exact⟨_,hk.1,hk.2,r7 d1⟩
   have hnew:∀{l:List (Nat×Nm)}{os:List (Option Nat)}{n0:Nat},cd A' env1 (aY S'.H) (br (b7 bx 0++ci (owr++owb) base) env env1) w1 os l (base+n0)->(∀ i o,os[i]? = some o->(owr++owb)[n0+i]? = some o)→∀ n x,(n,x)∈l →
     ∃ b,x = .live b/\b.mut=true/\((∃ m b0,aS (b7 bx 0++ci (owr++owb) base) n=some (some m)/\aY S'.H m = .live b0/\b0.mut=true ∧
      (∀ k len,env1 m = .blk k len->cA A' (br (b7 bx 0++ci (owr++owb) base) env env1) w1 k len b)/\(env1 m = .nil→∃ E t,b = .row E t []))∨(aS (b7 bx 0++ci (owr++owb) base) n=some none∧∃ E t,b = .row E t [])):=by
    intro l os n0 hl hos n x hx
    have:∀{os:List (Option Nat)}{l:List (Nat×Nm)}{k0:Nat},cd A' env1 (aY S'.H) (br (b7 bx 0++ci (owr++owb) base) env env1) w1 os l k0→∀ n x,(n,x)∈l→∃ i o b',os[i]? = some o/\n=k0+i/\x = .live b'∧b'.mut=true ∧
      ((∃ q b,o=some q/\aY S'.H q = .live b/\b.mut=true/\(∀ k len,env1 q = .blk k len->cA A' (br (b7 bx 0++ci (owr++owb) base) env env1) w1 k len b')/\(env1 q = .nil→∃ E t,b' = .row E t []))∨(o=none∧∃ E t,b' = .row E t [])):=by
     intro os
     induction os with
     | nil=>intro l k0 hl n x hx;cases l with
      | nil=>cases hx
      | cons p l=>exact hl.elim
     | cons o os ih =>
      intro l k0 hl n x hx
      cases l with
      | nil=>cases hx
      | cons p l =>
       obtain⟨m',y'⟩:=p
       obtain⟨⟨hm,b',g1,g2,g3⟩,hr⟩:=hl
       rcases List.mem_cons.1 hx with e|hx
       ·cases e;exact⟨0,o,b',rfl,by omega,g1,g2,g3⟩
       ·obtain⟨i,o',b'',k1,k2,k3⟩:=ih hr n x hx
        exact⟨i+1,o',b'',by simpa using k1,by omega,k3⟩
    obtain⟨i,o,b',k1,rfl,k3,k4,k5⟩:=this hl n x hx
    have hr:=hRres _ _ (hos i o k1)
    rw[← Nat.add_assoc] at hr
    refine⟨b',k3,k4,?_⟩
    rcases k5 with⟨q,b,rfl,g1,g2,g3,g4⟩|⟨rfl,g1⟩
    ·exact .inl ⟨q,b,hr,g1,g2,g3,g4⟩
    ·exact .inr ⟨hr,g1⟩
   refine ar.retn (R:=b7 bx 0++ci (owr++owb) base) (U:=bC (bx.headD 0) ps z bx (base+bE rs)++(cX (bx.headD 0) rs y base++(bU ps z (base+bE rs)++dZ cx))) (A':=A') ms t'.m x'.shape ?_ ?_ ?_ ?_ ?_ hAA hA1' ?_
   ·intro n x hx
    rcases List.mem_append.1 hx with hx|hx
    ·obtain⟨i,b,b0,h1,h2,h3,h4,h5,h6,h7⟩:=d4 n x hx
     rw[Nat.zero_add] at h4 h6 h7
     exact .inr ⟨b,h2,h3,.inl ⟨PN+i,b0,hRbox i n h1,h4,h5,h6,h7⟩⟩
    ·rcases List.mem_append.1 hx with hx|hx
     ·exact .inr (hnew (n0:=0) (by rw[Nat.add_zero];exact d2) (fun i o hi=>by rw[Nat.zero_add,List.getElem?_append_left (List.getElem?_eq_some_iff.1 hi).1];exact hi) n x hx)
     ·rcases List.mem_append.1 hx with hx|hx
      ·exact .inr (hnew d3 (fun i o hi=>by rw[List.getElem?_append_right (by omega),b2,Nat.add_sub_cancel_left];exact hi) n x hx)
      ·exact .inl (pQ hx).1
   ·intro n hn
    obtain⟨y',hy⟩:=Option.ne_none_iff_exists'.1 hn
    simp only[List.map_append]
    rcases hRinv n y' hy with⟨i,h1,_⟩|⟨i,h1,rfl,hi⟩
    ·exact List.mem_append_left _ (c4 n (List.mem_of_getElem? h1))
    ·refine List.mem_append_right _ ?_
     by_cases hlt':i<bE rs
     ·refine List.mem_append_left _ ?_
      obtain⟨b',_,hmem,_⟩:=d2.get.2 i _ (by rw[List.getElem?_append_left (by omega)] at h1;exact h1)
      exact List.mem_map_of_mem (f:=(·.1)) hmem
     ·refine List.mem_append_right _ (List.mem_append_left _ ?_)
      obtain⟨b',_,hmem,_⟩:=d3.get.2 (i-bE rs) _ (by rw[List.getElem?_append_right (by omega),b2] at h1;exact h1)
      have:=List.mem_map_of_mem (f:=(·.1)) hmem
      rwa [show base+bE rs+(i-bE rs)=base+i from by omega] at this
   ·intro n n' q hn hn'
    rcases hRinv n _ hn with⟨i,h1,h2⟩|⟨i,h1,rfl,_⟩ <;> rcases hRinv n' _ hn' with⟨i',h1',h2'⟩|⟨i',h1',rfl,_⟩
    ·simp only[Option.some.injEq] at h2 h2'
     have:i=i':=by omega
     subst this
     rw[h1] at h1';exact Option.some.inj h1'
    ·simp only[Option.some.injEq] at h2
     have:=(hownS i' q h1').1
     have:=hbxlt _ _ h1
     omega
    ·simp only[Option.some.injEq] at h2'
     have:=(hownS i q h1).1
     have:=hbxlt _ _ h1'
     omega
    ·rw[(hownS i q h1).2.2 i' h1']
   ·intro n hn
    obtain⟨y',hy⟩:=Option.ne_none_iff_exists'.1 hn
    rcases hRinv n y' hy with⟨i,h1,rfl⟩|⟨i,h1,rfl,h2⟩
    ·have hmem:n∈bx++b8 cx:=List.mem_append_left _ (List.mem_of_getElem? h1)
     obtain⟨b,g2',g3',_⟩:=hlive n hmem
     exact .inr ⟨b,by rw[hsb n hmem];exact g2',g3',by rw[fa hy];exact henvp i n h1⟩
    ·exact .inl (hsu i h2)
   ·rintro k ⟨n,l,hn,he⟩
    obtain⟨b,g2',g3',_⟩:=hlive n hn
    refine⟨n,b,l,?_,by rw[hsb n hn];exact g2',g3',he⟩
    simp only[List.map_append,pM]
    rcases List.mem_append.1 hn with hn|hn
    ·exact List.mem_append_left _ (c4 n hn)
    ·exact List.mem_append_right _ (List.mem_append_right _ (List.mem_append_right _ hn))
   ·rintro q b k l hq hbm he ⟨n,hn⟩
    refine hlookA q b k l hq hbm he fun hmem=>?_
    rcases hRinv n _ hn with⟨i,h1,h2⟩|⟨i,h1,rfl,_⟩
    ·simp only[Option.some.injEq] at h2
     have:=hlt q hmem
     have:=hbxlt _ _ h1
     omega
    ·exact (hownS i q h1).2.1 hmem
  suffices hfin:∃ (A':Nat->Prop) (env':ah),ar w0 N0 A' env' (aM (gp ps rs (y,z) base fz bx cx) h) w1/\aT A env w A' env' w1/\aa A' env' w1 (fu (cF (bx.headD 0) rs y base)) (jL rvs) by
   have hthis:act.defers=[]∧∃ v,(results fn act.tmps).run P w1 = .ok v w1∧∃ v' y',Ending.returned v = .returned v'∧post dd y'∧∃ (A':Nat->Prop) (env':ah),ar w0 N0 A' env' (aM (gp ps rs y' base fz bx cx) h) w1/\aT A env w A' env' w1/\aa A' env' w1 (fu (cF (bx.headD 0) rs y'.1 base)) v' :=
    ⟨t'.dfr,_,hrun,_,(y,z),rfl,hpost,hfin⟩
   rcases hex with rfl|rfl
   ·exact hthis
   ·exact hthis
  unfold gp
  cases hk:i6 ps rs with
  | true =>
   obtain⟨mf,xf⟩:=m.freeze a1
   have hback:∀ b,bu A1 env1 (f1++f2) b->bu A env fz b∨((kP env (bx++b8 cx) b∨w.heap.size<=b)/\b<w1.heap.size):=by
    intro b hb
    have hfo:dI (aY S'.H) (f1++f2):=by
     obtain⟨b1,_⟩:=jc (A':=bu A1 env1 (f1++f2)) (env':=env1) t'.m hA2 (bx.headD 0) rs y _ _ f1 owr base ho hres hF1 (.inr fun b hb=>hb) hxr
     obtain⟨c1,_⟩:=gw (A':=bu A1 env1 (f1++f2)) (env':=env1) t'.m hA2 (bx.headD 0) ps z f2 owb bx 0 base hob hF2 (.inr fun b hb=>hb) hlen
     intro n b hh
     rcases List.mem_append.1 hh with hh|hh
     ·exact b1 n b hh
     ·exact c1 n b hh
    have hAlt:=(t'.m.freeze hfo).1.Alt b hb
    rcases hb with hb|⟨n,x,l,hx,he⟩
    ·rcases t'.m.fresh b hb with h1|h1|h1
     ·exact .inl h1
     ·exact .inr ⟨.inl h1,hAlt⟩
     ·exact .inr ⟨.inr h1,hAlt⟩
    ·obtain⟨E,t,xs,hl,_⟩:=hfo n x hx
     rcases t'.m.own n _ b l hl rfl he with h1|h1
     ·exact .inr ⟨.inl h1,hAlt⟩
     ·exact .inr ⟨.inr h1,hAlt⟩
   obtain⟨env',k1,k2,k3⟩:=fin (bu A env fz) (bu A1 env1 (f1++f2)) (aM fz h) mf (fun n hn=>dh (hdj n hn)) (fun i hi=>by
     rw[dh]
     ·exact hun i hi
     ·intro hmem
      obtain⟨⟨n,x⟩,hx,he⟩:=List.mem_map.1 hmem
      simp only at he
      subst he
      obtain⟨E,t,xs,hl,_⟩:=a1 _ _ hx
      rw[hun i hi] at hl;cases hl)
    (fun b hb=>.inl hb) (fun b hb=>.inl (x'.imm b hb)) (fun b hb=>hb) hback (.inr fun b hb=>hb) (.inr fun b hb=>hb)
   refine⟨_,env',?_,xf.trans k2,k3⟩
   rw[oS];exact k1
  | false =>
   have hpl:gh rs=true/\c7 ps=true:=by
    simpa[i6] using hk
   obtain⟨env',k1,k2,k3⟩:=fin A A h m (fun n hn=>rfl) hun (fun b hb=>hb) (fun b hb=>hb) (fun b hb=>.inl (x'.imm b (.inl hb))) (fun b hb=>.inl hb) (.inl hpl.1) (.inl hpl.2)
   refine⟨_,env',?_,k2,k3⟩
   rw[List.append_nil];exact k1
def jt:(rs:List RK)->cj rs->cj rs->List Prop
 | [],_,_=>[]
 | _::rs,x,y=>(x.1=y.1)::jt rs x.2 y.2
def eO:(ps:List PK)->bB ps->bB ps->List Prop
 | [],_,_=>[]
 | .val _::ps,x,y=>eO ps x y
 | .agg _::ps,x,y=>eO ps x y
 | .own _ _::ps,x,y=>eO ps x y
 | .ago _::ps,x,y=>eO ps x y
 | .fn _ _::ps,x,y=>eO ps x y
 | .nils::ps,x,y=>eO ps x y
 | .box _ _::ps,x,y=>(x.1=y.1)::eO ps x.2 y.2
 | .row _ _::ps,x,y=>(x.1=y.1)::eO ps x.2 y.2
theorem uD:∀{rs:List RK}{x y:cj rs},ax (jt rs x y)->x=y
 | [],x,y,_=>rfl
 | _::rs,x,y,h=>Prod.ext h.1 (uD (rs:=rs) h.2)
theorem gC:∀{ps:List PK}{x y:bB ps},ax (eO ps x y)->x=y
 | [],x,y,_=>rfl
 | .val _::ps,x,y,h=>gC (ps:=ps) h
 | .agg _::ps,x,y,h=>gC (ps:=ps) h
 | .own _ _::ps,x,y,h=>gC (ps:=ps) h
 | .ago _::ps,x,y,h=>gC (ps:=ps) h
 | .fn _ _::ps,x,y,h=>gC (ps:=ps) h
 | .nils::ps,x,y,h=>gC (ps:=ps) h
 | .box _ _::ps,x,y,h=>Prod.ext h.1 (gC (ps:=ps) h.2)
 | .row _ _::ps,x,y,h=>Prod.ext h.1 (gC (ps:=ps) h.2)
theorem ox:∀{rs:List RK}{x:cj rs},ax (jt rs x x)
 | [],_=>trivial
 | _::rs,x=>⟨rfl,ox (rs:=rs)⟩
theorem gu:∀{ps:List PK}{x:bB ps},ax (eO ps x x)
 | [],_=>trivial
 | .val _::ps,x=>gu (ps:=ps)
 | .agg _::ps,x=>gu (ps:=ps)
 | .own _ _::ps,x=>gu (ps:=ps)
 | .ago _::ps,x=>gu (ps:=ps)
 | .fn _ _::ps,x=>gu (ps:=ps)
 | .nils::ps,x=>gu (ps:=ps)
 | .box _ _::ps,x=>⟨rfl,gu (ps:=ps)⟩
 | .row _ _::ps,x=>⟨rfl,gu (ps:=ps)⟩
theorem Ct.ok(c:Ct){f:FuncId}{fn:Func}{code:Code}(hf:P.funcs[f]? = some fn)(hb:fn.body=some code)(hs:ce P sp)(aH:P.follows .mixedOrders=true)(an:aI c.ps->aO)
  (vc:iL c.ps fun d=>iS c.ps d->eh (c.pre d)->f8 (ju c.ps d fn.ntmps) (sx P sp (an d) code (jD P c.ps c.rs fn.results.toList fun y=>eh (jt c.rs y.1 (c.out d).1++eO c.ps y.2 (c.out d).2)))):aL P sp.gl f c.spec:=by
 intro base svs h d r e hp w0 N0 A env w vs hG m hd
 unfold Ct.spec at e
 obtain⟨⟨dd,fz,bx,cx⟩,q1,q2,e1,e2,rfl⟩:=Q.run_bind _ _ _ e
 split at e2
 case h_2=>cases e2
 rename_i hnm
 obtain⟨rfl,hun⟩:=na e2
 refine (su (rs:=c.rs) (fun d y=>eh (jt c.rs y.1 (c.out d).1++eO c.ps y.2 (c.out d).2)) hf hb hs aH an e1 hnm hun (fun hw=>pW.1 vc dd hw (iR.2 hp)) hG m hd).mono ?_
 rintro e' w' ⟨v,y,rfl,hy,A',env',h1,h2,h3⟩
 obtain⟨hy1,hy2⟩:=ee.1 (iR.1 hy)
 have:y=c.out dd:=Prod.ext (uD hy1) (gC hy2)
 subst this
 exact⟨v,rfl,(),A',env',trivial,h1,h2,h3⟩
theorem Cn.ok(c:Cn){f:FuncId}{fn:Func}{code:Code}(hf:P.funcs[f]? = some fn)(hb:fn.body=some code)(hs:ce P sp)(aH:P.follows .mixedOrders=true)(an:aI c.ps->aO)
  (vc:iL c.ps fun d=>iS c.ps d->eh (c.pre d)->f8 (ju c.ps d fn.ntmps) (sx P sp (an d) code (jD P c.ps c.rs fn.results.toList (c.post d)))):aL P sp.gl f c.spec:=by
 intro base svs h d r e hp w0 N0 A env w vs hG m hd
 unfold Cn.spec at e
 obtain⟨⟨dd,fz,bx,cx⟩,q1,q2,e1,e2,rfl⟩:=Q.run_bind _ _ _ e
 split at e2
 case h_2=>cases e2
 rename_i hnm
 obtain⟨rfl,hun⟩:=na e2
 refine (su (rs:=c.rs) c.post hf hb hs aH an e1 hnm hun (fun hw=>pW.1 vc dd hw (iR.2 hp)) hG m hd).mono ?_
 rintro e' w' ⟨v,y,rfl,hy,A',env',h1,h2,h3⟩
 refine⟨v,rfl,y,A',env',hy,?_,h2,h3⟩
 show ar w0 N0 A' env' (aM ((kq c.ps c.rs base fz bx cx).map fun p=>(p.1,p.2 y)) h) w'
 rw[sG];exact h1
def Ct.nspec(c:Ct):Spec:=fun base svs=>(bL none c.ps svs).bind fun p=>match kf c.ps c.rs p.2.1 p.2.2.1 p.2.2.2 with
 | true=>fv base (bE c.rs+co c.ps) (.nd (cj c.rs×bB c.ps) (qZ c.rs c.ps) (c.pre p.1) (fun y=>eh (jt c.rs y.1 (c.out p.1).1++eO c.ps y.2 (c.out p.1).2)) (fun _=>⟨c.out p.1,iR.2 (ee.2 ⟨ox,gu⟩)⟩)
   (fun y=>fu (cF (p.2.2.1.headD 0) c.rs y.1 base)) (kq c.ps c.rs base p.2.1 p.2.2.1 p.2.2.2))
 | false => .fail
theorem sy{h:aC}{dl d:Dl}:∀{k n:Nat}{r:List Nat},(fv n k dl).run h=some (d,r)→∀ dl',(fv n k dl').run h=some (dl',r)
 | 0,n,r,e,dl'=>by
  simp only[fv,Q.run,Option.some.injEq,Prod.mk.injEq] at e ⊢
  exact⟨trivial,e.2⟩
 | k+1,n,r,e,dl'=>by
  simp only[fv,Q.run] at e ⊢
  split at e
  ·rename_i p q hk
   simp only[Option.some.injEq,Prod.mk.injEq] at e
   obtain⟨rfl,rfl⟩:=e
   split at hk
   ·rename_i hun
    have:=sy hk dl'
    rw[this]
   ·cases hk
  ·cases e
universe u v
theorem Q.bind_run1{h:aC}{α:Type u}{β:Type v}(q:Q α)(f:α->Q β){a:α}{r1:List Nat}{b:β}{r2:List Nat}(h1:q.run h=some (a,r1))(h2:(f a).run h=some (b,r2)):(q.bind f).run h=some (b,r1++r2):=by
 induction q generalizing r1 with
 | ret x=>simp only[Q.run,Option.some.injEq,Prod.mk.injEq] at h1;obtain⟨rfl,rfl⟩:=h1;simpa[Q.bind] using h2
 | ask n k ih =>
  simp only[Q.run] at h1
  split at h1
  ·rename_i x y hk
   simp only[Option.some.injEq,Prod.mk.injEq] at h1
   obtain⟨rfl,rfl⟩:=h1
   simp only[Q.bind,Q.run,ih _ hk,List.cons_append]
  ·cases h1
 | fail=>cases h1
theorem Ct.named{G:fT}{c:Ct}{f:FuncId}(ok:aL P G f c.spec):aL P G f c.nspec:=by
 intro base svs h d r e hp w0 N0 A env w vs hG m hd
 unfold Ct.nspec at e
 obtain⟨⟨dd,fz,bx,cx⟩,q1,q2,e1,e2,rfl⟩:=Q.run_bind _ _ _ e
 split at e2
 case h_2=>cases e2
 rename_i hnm
 obtain⟨rfl,hun⟩:=na e2
 have e3:=sy e2 (.det (c.pre dd) (fu (cF (bx.headD 0) c.rs (c.out dd).1 base)) (gp c.ps c.rs (c.out dd) base fz bx cx))
 have e4:(c.spec base svs).run h=some (.det (c.pre dd) (fu (cF (bx.headD 0) c.rs (c.out dd).1 base)) (gp c.ps c.rs (c.out dd) base fz bx cx),q1++q2):=by
  unfold Ct.spec
  refine Q.bind_run1 _ _ e1 ?_
  simp only at hnm ⊢
  rw[hnm]
  exact e3
 refine (ok base svs h _ _ e4 hp w0 N0 A env w vs hG m hd).mono ?_
 rintro e' w' ⟨v,he,x,A',env',_,h1,h2,h3⟩
 refine⟨v,he,c.out dd,A',env',iR.2 (ee.2 ⟨ox,gu⟩),?_,h2,h3⟩
 show ar w0 N0 A' env' (aM ((kq c.ps c.rs base fz bx cx).map fun p=>(p.1,p.2 (c.out dd))) h) w'
 rw[sG];exact h1
end
end Go.SX

/- SX, part 23: from a law's arguments to data, and a law's contract to its row. -/
namespace Go.SX
open Go.ChangeShapes Go.WideShapes Go.ChangeAt Go.RowKit
set_option linter.unusedVariables false
universe u v
def hJ(P:Program)(f:CT->TypeId->Bool):List Field->CT->Nat->Bool
 | [],_,_=>false
 | [fd],t,o=>f t fd.type&&Nat.beq fd.offset o&&Nat.beq (P.cellsOf fd.type) t.size
 | fd::g::r,.pair a b,o=>f a fd.type&&Nat.beq fd.offset o&&Nat.beq (P.cellsOf fd.type) a.size&&hJ P f (g::r) b (o+a.size)
 | _,_,_=>false
def gU(P:Program)(f:CT->TypeId->Bool)(e:TypeId):Nat->CT->Bool
 | 0,_=>false
 | 1,t=>f t e&&Nat.beq (P.cellsOf e) t.size
 | n+2,.pair a b=>f a e&&Nat.beq (P.cellsOf e) a.size&&gU P f e (n+1) b
 | _,_=>false
def c6(P:Program):Nat->CT->TypeId->Bool
 | 0,_,_=>false
 | n+1,t,τ=>match P.underlying τ,t with
  | some (.int k),.int k'=>cQ k k'
  | some .bool,.bool=>true
  | some .string,.str=>true
  | some (.slice e),.sl u=>c6 P n u e&&Nat.beq (P.cellsOf e) u.size
  | some (.struct fs),t=>hJ P (c6 P n) fs.toList t 0
  | some (.array k e),t=>gU P (c6 P n) e k t
  | _,_=>false
section
variable {H:Type} {enc:TypeId×Value->H} {P:Program} {w:World} {base:Nat} {held:Bool}
theorem iJ{A:Nat->Prop}{t:CT}{cs:List Value}{o sz:Nat}{d:t.D}(hs:sz=t.size)(h:Rd A w t (fun j=>((cs.drop o).take sz)[j]?) 0 d):Rd A w t (fun j=>cs[j]?) o d:=by
 have:=i7 h o
 rw[Nat.zero_add] at this
 refine bQ (fun _ h=>h) (fun _ _ _=>rfl) t _ _ _ _ (fun j hj=>?_) this
 simp only[List.getElem?_take,Nat.add_sub_cancel_left]
 rw[if_pos (by omega),List.getElem?_drop]
theorem rY{A:Nat->Prop}{f:CT->TypeId->Bool}{cs:List Value}{n:Nat}
  (hf:∀ t τ cs x,f t τ=true->DataW.trod enc P w base (fun _=>true) held n τ cs=some x→∃ d,Rd A w t (fun j=>cs[j]?) 0 d) :
  ∀(fs:List Field)(t:CT)(o:Nat),hJ P f fs t o=true->(∀ fd∈fs,∃ x,DataW.trod enc P w base (fun _=>true) held n fd.type ((cs.drop fd.offset).take (P.cellsOf fd.type))=some x)→∃ d,Rd A w t (fun j=>cs[j]?) o d
 | [],t,o,h,_=>by cases h
 | [fd],t,o,h,hx=>by
  simp only[hJ,Bool.and_eq_true] at h
  obtain⟨⟨h1,h2⟩,h3⟩:=h
  have h2:=Nat.eq_of_beq_eq_true h2
  have h3:=Nat.eq_of_beq_eq_true h3
  obtain⟨x,hx⟩:=hx fd (by simp)
  obtain⟨d,hd⟩:=hf t fd.type _ x h1 hx
  rw[h2] at hd
  exact⟨d,iJ h3 hd⟩
 | fd::g::r,.pair a b,o,h,hx=>by
  simp only[hJ,Bool.and_eq_true] at h
  obtain⟨⟨⟨h1,h2⟩,h3⟩,h4⟩:=h
  have h2:=Nat.eq_of_beq_eq_true h2
  have h3:=Nat.eq_of_beq_eq_true h3
  obtain⟨x,hx1⟩:=hx fd (by simp)
  obtain⟨d,hd⟩:=hf a fd.type _ x h1 hx1
  rw[h2] at hd
  obtain⟨d',hd'⟩:=rY hf (g::r) b (o+a.size) h4 (fun fd' hm=>hx fd' (List.mem_cons_of_mem _ hm))
  exact⟨(d,d'),iJ h3 hd,hd'⟩
 | _::_::_,.int _,_,h,_=>by cases h
 | _::_::_,.bool,_,h,_=>by cases h
 | _::_::_,.str,_,h,_=>by cases h
 | _::_::_,.sl _,_,h,_=>by cases h
theorem vy{A:Nat->Prop}{f:CT->TypeId->Bool}{cs:List Value}{n:Nat}{e:TypeId}
  (hf:∀ t τ cs x,f t τ=true->DataW.trod enc P w base (fun _=>true) held n τ cs=some x→∃ d,Rd A w t (fun j=>cs[j]?) 0 d) :
  ∀(k:Nat)(t:CT)(i:Nat),gU P f e k t=true->(∀ j,i<=j->j<i+k→∃ x,DataW.trod enc P w base (fun _=>true) held n e ((cs.drop (j*P.cellsOf e)).take (P.cellsOf e))=some x)→∃ d,Rd A w t (fun j=>cs[j]?) (i*P.cellsOf e) d
 | 0,t,i,h,_=>by cases h
 | 1,t,i,h,hx=>by
  simp only[gU,Bool.and_eq_true] at h
  obtain⟨h1,h2⟩:=h
  have h2:=Nat.eq_of_beq_eq_true h2
  obtain⟨x,hx⟩:=hx i (by omega) (by omega)
  obtain⟨d,hd⟩:=hf t e _ x h1 hx
  exact⟨d,iJ h2 hd⟩
 | k+2,.pair a b,i,h,hx=>by
  simp only[gU,Bool.and_eq_true] at h
  obtain⟨⟨h1,h2⟩,h4⟩:=h
  have h2:=Nat.eq_of_beq_eq_true h2
  obtain⟨x,hx1⟩:=hx i (by omega) (by omega)
  obtain⟨d,hd⟩:=hf a e _ x h1 hx1
  obtain⟨d',hd'⟩:=vy hf (k+1) b (i+1) h4 (fun j h1 h2=>hx j (by omega) (by omega))
  refine⟨(d,d'),iJ h2 hd,?_⟩
  rw[Nat.add_mul,Nat.one_mul] at hd'
  rw[← h2];exact hd'
 | _+2,.int _,_,h,_=>by cases h
 | _+2,.bool,_,h,_=>by cases h
 | _+2,.str,_,h,_=>by cases h
 | _+2,.sl _,_,h,_=>by cases h
theorem zC{α:Type}(n:Nat)(p:Nat->α->Prop)(h:∀ i,i<n→∃ a,p i a):∃ l:List α,l.length=n∧∀ i (hi:i<l.length),p i l[i]:=by
 induction n with
 | zero=>exact⟨[],rfl,fun i hi=>by simp at hi⟩
 | succ n ih =>
  obtain⟨l,hl,hp⟩:=ih fun i hi=>h i (by omega)
  obtain⟨a,ha⟩:=h n (by omega)
  refine⟨l++[a],by simp[hl],fun i hi=>?_⟩
  by_cases hlt:i<l.length
  ·rw[List.getElem_append_left hlt];exact hp i hlt
  ·have:i=l.length:=by simp at hi;omega
   subst this
   simp only[List.getElem_concat_length]
   rw[hl];exact ha
theorem sd(b off n:Nat):(⟨b,off,none⟩:Addr).add n=⟨b,off+n,none⟩:=by
 unfold Addr.add
 split
 ·rename_i h;subst h;rfl
 ·rfl
theorem qR{k:IntKind}{n:Int}(h:(Lit.int k n).wf=true):k.has n:=by
 simp only[Lit.wf,Bool.and_eq_true,decide_eq_true_eq] at h;exact h
theorem mT:∀(n:Nat)(t:CT)(τ:TypeId)(fuel:Nat)(cs:List Value)(x:DataW H×List MemPlace),c6 P n t τ=true->DataW.trod enc P w base (fun _=>true) held fuel τ cs=some x →
  ∃ d,Rd (fun b=>b<w.heap.size) w t (fun j=>cs[j]?) 0 d
 | 0,t,τ,fuel,cs,x,h,_=>by cases h
 | n+1,t,τ,fuel,cs,x,h,hx=>by
  unfold c6 at h
  split at h
  ·rename_i k k' hu
   cases cU h
   obtain⟨m,rfl,_,hw⟩:=DataW.trod_int hu hx
   exact⟨m,by simp,qR hw⟩
  ·rename_i hu
   obtain⟨b,rfl,_⟩:=DataW.trod_bool hu hx
   exact⟨b,by simp[Rd]⟩
  ·rename_i hu
   obtain⟨s,rfl,_,hs⟩:=DataW.trod_string hu hx
   exact⟨s,by simp,hs⟩
  ·rename_i e u hu
   simp only[Bool.and_eq_true] at h
   obtain⟨h1,h2⟩:=h
   have h2:=Nat.eq_of_beq_eq_true h2
   rcases DataW.trod_slice hu hx with⟨rfl,_⟩|⟨a,len,cap,elems,rest,m,_,rfl,_,_,hl,hm,hlen,hel,hsp,_⟩
   ·exact⟨[],fE.2 ⟨_,rfl,by simp,.inl ⟨⟨_,rfl⟩,rfl⟩⟩⟩
   ·have hcap:=(hsp rfl)
    by_cases h0:cap=0
    ·have:len=0:=by omega
     subst this h0
     exact⟨[],fE.2 ⟨_,rfl,by simp,.inl ⟨⟨_,rfl⟩,rfl⟩⟩⟩
    ·-- the cells that are there
     have first:∃ v,w.cell? a=some v:=by
      have hb:∃ cs',w.cells? base (a.add 0) (P.cellsOf e)=some cs':=by
       by_cases hl0:0<len
       ·have:=hel 0 hl0
        rw[Nat.zero_mul] at this
        have hs:∃ y,elems[0]? = some y:=⟨_,List.getElem?_eq_getElem (by omega)⟩
        obtain⟨y,hy⟩:=hs
        rw[hy,Option.bind_eq_some_iff] at this
        obtain⟨cs',hcs,_⟩:=this
        exact⟨cs',hcs⟩
       ·have:=hcap.2 0 (by omega)
        have hz:(len+0)*P.cellsOf e=0:=by
         have:len=0:=by omega
         subst this;simp
        rw[hz] at this
        have hs:∃ y,rest[0]? = some y:=⟨_,List.getElem?_eq_getElem (by omega)⟩
        obtain⟨y,hy⟩:=hs
        rw[hy,Option.bind_eq_some_iff] at this
        obtain⟨cs',hcs,_⟩:=this
        exact⟨cs',hcs⟩
      obtain⟨cs',hcs⟩:=hb
      obtain⟨_,hl1,hl2⟩:=World.cells?_some hcs
      have hp:=u.size_pos
      have:=hl2 0 (by omega)
      refine⟨cs'[0]'(by omega),?_⟩
      rw[List.getElem?_eq_getElem (by omega)] at this
      simpa[Addr.add] using this
     obtain⟨v0,hv0⟩:=first
     have hspot:=World.cell?_spot hv0
     obtain⟨b,off,spot⟩:=a
     simp only at hspot
     subst hspot
     have hlt:b<w.heap.size:=by
      unfold World.cell? at hv0
      simp only at hv0
      split at hv0
      ·rename_i c E sp hb
       exact (Array.getElem?_eq_some_iff.1 hb).1
      ·cases hv0
     obtain⟨xs,hxl,hxp⟩:=zC len (fun i d=>Rd (fun b=>b<w.heap.size) w u (fun o=>w.cell? ⟨b,o,none⟩) (off+i*u.size) d) fun i hi=>by
      have:=hel i hi
      rw[List.getElem?_eq_getElem (by omega),Option.bind_eq_some_iff] at this
      obtain⟨cs',hcs,ht⟩:=this
      obtain⟨_,hl1,hl2⟩:=World.cells?_some hcs
      obtain⟨d,hd⟩:=mT n u e _ cs' _ h1 ht
      refine⟨d,?_⟩
      have:=i7 hd (off+i*u.size)
      rw[Nat.zero_add] at this
      refine bQ (fun _ h=>h) (fun _ _ _=>rfl) u _ _ _ _ (fun j hj=>?_) this
      have:=hl2 j (by omega)
      rw[sd,sd,h2] at this
      rw[Nat.add_sub_cancel_left,← this]
     subst hxl
     exact⟨xs,fE.2 ⟨_,rfl,by omega,.inr ⟨b,off,cap,rfl,hl,hm,hlt,fun i hi=>hxp i hi⟩⟩⟩
  ·rename_i t' fs hu
   obtain⟨xs,m,_,_,hl,hlen,hf⟩:=DataW.trod_struct hu hx
   refine rY (n:=m) (fun t τ cs x h1 h2=>mT n t τ m cs x h1 h2) fs.toList _ 0 h fun fd hm=>?_
   obtain⟨i,hi,rfl⟩:=List.mem_iff_getElem.1 hm
   have:=hf i fs[i] (Array.getElem?_eq_getElem (by simpa using hi))
   have hi':i<fs.size:=by simpa using hi
   rw[List.getElem?_eq_getElem (by omega)] at this
   exact⟨_,by simpa using this⟩
  ·rename_i t' k e hu
   obtain⟨xs,m,_,_,hl,hlen,hf⟩:=DataW.trod_array hu hx
   have:=vy (n:=m) (cs:=cs) (e:=e) (fun t τ cs x h1 h2=>mT n t τ m cs x h1 h2) k _ 0 h fun j _ hj=>by
    have:=hf j (by omega)
    rw[List.getElem?_eq_getElem (by omega)] at this
    exact⟨_,this⟩
   simpa using this
  ·cases h
abbrev ec:=List (Bool×CT)
def cB:ec->List PK
 | []=>[]
 | (true,t)::r => .agg t::cB r
 | (false,t)::r => .val t::cB r
def jE:(l:ec)->bB (cB l)
 | []=>()
 | (true,_)::r=>jE r
 | (false,_)::r=>jE r
def li(l:ec):Ct:=⟨cB l,[.val .bool],fun _=>[],fun _=>((true,()),jE l)⟩
def gz(P:Program)(τ:TypeId):Bool:=match P.underlying τ with
 | some (.struct _)=>true
 | some (.array _ _)=>true
 | _=>false
def lB:CT->Bool
 | .pair _ _=>false
 | _=>true
def lg(P:Program):ec->List TypeId->Bool
 | [],[]=>true
 | (b,t)::r,τ::τs=>(match b,gz P τ with|true,true=>true|false,false=>lB t|_,_=>false)&&c6 P 12 t τ&&Nat.beq (P.cellsOf τ) t.size&&lg P r τs
 | _,_=>false
theorem Al{r:Reach}{b0:Nat}{τ:TypeId}{v:Value}(h:gz P τ=true)(hv:Value.okWide P w r b0 τ v):∃ vs,v = .agg vs/\vs.size=P.cellsOf τ:=by
 unfold gz at h
 unfold Value.okWide at hv
 split at h
 ·rename_i fs hu;rw[hu] at hv;obtain⟨cs,h1,h2,_⟩:=hv;exact⟨cs,h1,h2⟩
 ·rename_i fs hu;rw[hu] at hv;obtain⟨cs,h1,h2,_⟩:=hv;exact⟨cs,h1,h2⟩
 ·cases h
theorem yN{r:Reach}{b0:Nat}{τ:TypeId}{v:Value}(ht:P.underlying τ=some .bool)(h:Value.okWide P w r b0 τ v):∃ b,v = .bool b:=by
 simp only[Value.okWide,ht,Cell.okWide] at h
 cases v <;> simp_all[Cell.ok]
theorem yC{r:Reach}{b0:Nat}{n:Nat}{t:CT}{τ:TypeId}{v:Value}(hf:lB t=true)(hq:gz P τ=false)(h:c6 P n t τ=true)(hv:Value.okWide P w r b0 τ v):v.cells = #[v]:=by
 cases n with
 | zero=>cases h
 | succ n =>
  unfold c6 at h
  split at h
  ·rename_i k k' hu;obtain⟨m,rfl⟩:=okWide_int hu hv;rfl
  ·rename_i hu;obtain⟨m,rfl⟩:=yN hu hv;rfl
  ·rename_i hu;obtain⟨m,rfl⟩:=okWide_string hu hv;rfl
  ·rename_i e u hu;obtain⟨a,l,c,rfl⟩:=okWide_slice hu hv;rfl
  ·rename_i t' fs hu;unfold gz at hq;rw[hu] at hq;cases hq
  ·rename_i t' k e hu;unfold gz at hq;rw[hu] at hq;cases hq
  ·cases h
theorem Ah(k:IntKind):cQ k k=true:=by cases k <;> rfl
theorem Au{t:CT}{xs:List t.D}:bN t t xs=some xs:=by unfold bN;rw[dif_pos rfl]
theorem lU{h:aC}:∀(t:CT)(d:t.D)(rest:List SV),(cn t (bt t d++rest)).run h=some ((d,rest,[]),[])
 | .int k,d,rest=>by simp only[bt,List.cons_append,List.nil_append,cn,Ah];rfl
 | .bool,d,rest=>rfl
 | .str,d,rest=>rfl
 | .sl t,d,rest=>by simp only[bt,List.cons_append,List.nil_append,cn,Au];rfl
 | .pair a b,d,rest=>by
  have bindrun:∀{α β:Type}(q:Q α)(f:α->Q β)(x:α)(y:β),q.run h=some (x,[])->(f x).run h=some (y,[])->(q.bind f).run h=some (y,[]):=by
   intro α β q
   induction q with
   | ret a=>intro f x y h1 h2;simp only[Q.run,Option.some.injEq,Prod.mk.injEq] at h1;rw[← h1.1] at h2;exact h2
   | ask n k ih =>
    intro f x y h1 h2
    simp only[Q.run] at h1
    split at h1
    ·simp only[Option.some.injEq,Prod.mk.injEq] at h1
     exact absurd h1.2 (by simp)
    ·cases h1
   | fail=>intro f x y h1 h2;cases h1
  simp only[bt,List.append_assoc,cn]
  refine bindrun _ _ _ _ (lU a d.1 (bt b d.2++rest)) ?_
  exact bindrun _ _ _ _ (lU b d.2 rest) rfl
theorem Q.bind_run0{h:aC}{α:Type u}{β:Type v}(q:Q α)(f:α->Q β)(x:α)(y:β)(h1:q.run h=some (x,[]))(h2:(f x).run h=some (y,[])):(q.bind f).run h=some (y,[]):=by
 cases q with
 | ret a=>simp only[Q.run,Option.some.injEq,Prod.mk.injEq] at h1;rw[← h1.1] at h2;exact h2
 | ask n k =>
  simp only[Q.run] at h1
  split at h1
  ·simp only[Option.some.injEq,Prod.mk.injEq] at h1
   exact absurd h1.2 (by simp)
  ·cases h1
 | fail=>cases h1
theorem yj{t:CT}(hf:lB t=true)(d:t.D):bt t d=[jA t d]:=by
 cases t <;> first|rfl|cases hf
def je:ec->Bool
 | []=>true
 | (b,t)::r=>(b||lB t)&&je r
theorem pZ{h:aC}:∀(l:ec)(d:aI (cB l)),je l=true->(bL none (cB l) (bW (cB l) d 0 0)).run h=some ((d,[],[],[]),[])
 | [],d,_=>rfl
 | (true,t)::r,d,hok=>by
  simp only[je,Bool.and_eq_true] at hok
  simp only[cB,bW,bL]
  refine Q.bind_run0 _ _ _ _ (by have:=lU (h:=h) t d.1 [];rw[List.append_nil] at this;exact this) ?_
  exact Q.bind_run0 _ _ _ _ (pZ r d.2 hok.2) rfl
 | (false,t)::r,d,hok=>by
  simp only[je,Bool.and_eq_true,Bool.false_or] at hok
  simp only[cB,bW,bL]
  refine Q.bind_run0 _ _ _ _ (by have:=lU (h:=h) t d.1 [];rw[List.append_nil,yj hok.1] at this;exact this) ?_
  exact Q.bind_run0 _ _ _ _ (pZ r d.2 hok.2) rfl
theorem uy{r:Reach}{b0:Nat}:∀(l:ec)(τs:List TypeId)(vs:List Value)(ds:List (DataW H))(ps:List MemPlace),lg P l τs=true->DataW.TrodAll enc P w base (fun _=>true) held τs vs ds ps →
  (∀(j:Nat) t v,τs[j]? = some t->vs[j]? = some v->Value.okWide P w r b0 t v)->je l=true∧∃ d:aI (cB l),ac (fun b=>b<w.heap.size) (fun _=>.un) w (bW (cB l) d 0 0) vs
 | [],[],vs,ds,ps,h,ht,hv=>by
  obtain⟨rfl,_,_⟩:=trodAll_nil ht
  exact⟨rfl,(),by simp[cB,bW,ac]⟩
 | (b,t)::l,τ::τs,vs,ds,ps,h,ht,hv=>by
  obtain⟨v,vs',d,ds',p,q,rfl,rfl,rfl,h0,hr⟩:=trodAll_cons ht
  simp only[lg,Bool.and_eq_true] at h
  obtain⟨⟨⟨h1,h2⟩,h3⟩,h4⟩:=h
  have h3:=Nat.eq_of_beq_eq_true h3
  obtain⟨g1,d2,g2⟩:=uy l τs vs' ds' q h4 hr (fun j t v ht hv'=>hv (j+1) t v (by simpa using ht) (by simpa using hv'))
  have hv0:=hv 0 τ v rfl rfl
  obtain⟨fuel,hf⟩:=h0
  obtain⟨d1,hd1⟩:=mT 12 t τ fuel _ _ h2 hf
  cases b with
  | true =>
   have hag:gz P τ=true:=by
    cases hq:gz P τ with
    | true=>rfl
    | false=>rw[hq] at h1;cases h1
   obtain⟨us,rfl,hus⟩:=Al hag hv0
   refine⟨by simp[je,g1],(d1,d2),?_⟩
   simp only[cB,bW,ac,aa]
   refine⟨_,vs',rfl,⟨us,rfl,mv (by simpa using hus.trans h3) (by simpa[Value.cells] using hd1)⟩,g2⟩
  | false =>
   have hq:gz P τ=false:=by
    cases hq:gz P τ with
    | true=>rw[hq] at h1;cases h1
    | false=>rfl
   rw[hq] at h1
   simp only at h1
   refine⟨by simp[je,g1,h1],(d1,d2),?_⟩
   simp only[cB,bW,ac]
   have hc:=yC h1 hq h2 hv0
   rw[hc] at hd1
   exact⟨v,vs',rfl,pP (rest:=[]) (by simpa using hd1),g2⟩
 | [],_::_,_,_,_,h,_,_=>by cases h
 | _::_,[],_,_,_,h,_,_=>by cases h
def GlobsOK(w:World)(G:fT):Prop:=∀ g x,G g=some x->g<w.heap.size/\Rd (fun b=>b<w.heap.size) w x.1 (fun o=>w.cell? ⟨g,o,none⟩) 0 x.2
theorem law_walkG{G:fT}(hG:GlobsOK w G){f:FuncId}{l:ec}(ok:aL P G f (li l).spec){r:Reach}{b0:Nat}{τs:List TypeId}{args:Array Value}{ds:List (DataW H)}{ps:List MemPlace}(hl:lg P l τs=true)
  (ht:DataW.TrodAll enc P w base (fun _=>true) held τs args.toList ds ps) (hv:∀(j:Nat) t v,τs.toArray[j]? = some t->args[j]? = some v->Value.okWide P w r b0 t v) :
  Calls P f args w fun e w'=>e = .returned (.bool true)/\Below w.heap.size w w':=by
 obtain⟨hok,d,hd⟩:=uy l τs args.toList ds ps hl ht (fun j t v h1 h2=>hv j t v (by simpa using h1) (by simpa using h2))
 have hkeep:i6 (cB l) [.val .bool]=false:=by
  have:∀ l:ec,c7 (cB l)=true:=by
   intro l
   induction l with
   | nil=>rfl
   | cons x l ih=>obtain⟨b,t⟩:=x;cases b <;> exact ih
  simp only[i6,this,gh,CT.plain,Bool.and_self,Bool.not_true]
 have hbU:∀ nb,bC 0 (cB l) (jE l) [] nb=[]:=by
  intro nb
  induction l with
  | nil=>rfl
  | cons x l ih =>
   obtain⟨b,t⟩:=x
   have:∀ l:ec,bC 0 (cB l) (jE l) [] nb=[]:=by
    intro l
    induction l with
    | nil=>rfl
    | cons x l ih=>obtain⟨b,t⟩:=x;cases b <;> exact ih
   cases b <;> exact this l
 have hnU:∀(l:ec) nb,bU (cB l) (jE l) nb=[]:=by
  intro l nb
  induction l with
  | nil=>rfl
  | cons x l ih=>obtain⟨b,t⟩:=x;cases b <;> exact ih
 have hnB:∀(l:ec),co (cB l)=0:=by
  intro l
  induction l with
  | nil=>rfl
  | cons x l ih=>obtain⟨b,t⟩:=x;cases b <;> exact ih
 have hxI:∀(l:ec),cN (cB l)=[]:=by
  intro l
  induction l with
  | nil=>rfl
  | cons x l ih=>obtain⟨b,t⟩:=x;cases b <;> exact ih
 have hxO:kg (cB l) [.val .bool]=true:=by simp only[kg,gJ,hxI];rfl
 have hrun:((li l).spec 0 (bW (cB l) d 0 0)).run (fun _=>.un)=some (Dl.det [] (.bool true) [],[]):=by
  unfold Ct.spec
  refine Q.bind_run0 _ _ _ _ (pZ l d hok) ?_
  simp only[kf,hxO,b8,List.append_nil,jR,kJ,li,gp,hkeep,hbU,hnU,hnB,dZ,cX,cF,fu,jA,bt,bE,fv,List.headD_nil]
  rfl
 have m:ar w ⟨fun _=>False,fun b=>b<w.heap.size,G⟩ (fun b=>b<w.heap.size) (fun _=>.un) (fun _=>.un) w :=
  ⟨rfl,rfl,rfl,Nat.le_refl _,fun _ _ _=>rfl,fun _ h=>h,fun _=>rfl,fun _ _ _ _ h=>(by cases h),fun _ _ _ _ _ _ _ h=>(by cases h),fun b hb=>.inl hb,hG⟩
 have:=ok 0 (bW (cB l) d 0 0) (fun _=>.un) _ _ hrun trivial w _ _ _ w args.toList rfl m hd
 refine Calls.mono this ?_
 rintro e w' ⟨v,rfl,x,A',env',_,hm,_,hden⟩
 simp only[Dl.val,aa] at hden
 exact⟨by rw[hden],hm.os,hm.tape,hm.output,hm.size,fun k hk=>hm.fr k hk (fun h=>h)⟩
theorem law_walk{f:FuncId}{l:ec}(ok:aL P (fun _=>none) f (li l).spec){r:Reach}{b0:Nat}{τs:List TypeId}{args:Array Value}{ds:List (DataW H)}{ps:List MemPlace}(hl:lg P l τs=true)
  (ht:DataW.TrodAll enc P w base (fun _=>true) held τs args.toList ds ps) (hv:∀(j:Nat) t v,τs.toArray[j]? = some t->args[j]? = some v->Value.okWide P w r b0 t v) :
  Calls P f args w fun e w'=>e = .returned (.bool true)/\Below w.heap.size w w':=law_walkG (fun g x h=>by cases h) ok hl ht hv
def pf(P:Program):List TypeId->Bool
 | []=>true
 | t::r=>P.readableRec t&&decide (t<P.types.size)&&pf P r
theorem trodAll_below(hl:laidOutB P=true):∀{τs:List TypeId}{vs:List Value}{ds:List (DataW H)}{ps:List MemPlace}{w':World},pf P τs=true →
  DataW.TrodAll enc P w 0 (fun _=>true) true τs vs ds ps->Below w.heap.size w w'→DataW.TrodAll enc P w' 0 (fun b=>decide (b<w.heap.size)) true τs vs ds ps
 | [],vs,ds,ps,w',_,h,hb=>by
  obtain⟨rfl,rfl,rfl⟩:=trodAll_nil h
  exact trodAll_mk0
 | τ::τs,vs,ds,ps,w',hr,h,hb=>by
  obtain⟨v,vs',d,ds',p,q,rfl,rfl,rfl,h0,hr'⟩:=trodAll_cons h
  simp only[pf,Bool.and_eq_true,decide_eq_true_eq] at hr
  have lt:∀ x∈p,x.block<w.heap.size:=by
   obtain⟨m,hm⟩:=h0
   exact DataW.trod_lt m _ _ _ hm
  exact trodAll_cons_mk (Below.trod hl hr.1.1 hr.1.2 h0 hb lt) (trodAll_below hl hr.2 hr' hb)
end
end Go.SX

/- SX, part 24: what is to be shown of a function, under one name. -/
namespace Go.SX
set_option linter.unusedVariables false
def ij(fn:Func):Code:=match fn.body with
 | some c=>c
 | none => .skip
def Ct.vc(P:Program)(sp:ba)(c:Ct)(fn:Func)(an:aI c.ps->aO):Prop :=
 iL c.ps fun d=>iS c.ps d->eh (c.pre d)->f8 (ju c.ps d fn.ntmps) (sx P sp (an d) (ij fn) (jD P c.ps c.rs fn.results.toList fun y=>eh (jt c.rs y.1 (c.out d).1++eO c.ps y.2 (c.out d).2)))
structure lN (p:Prop):Prop where
 out:p
theorem aW{p q:Prop}(h:p=q)(v:q):lN p:=⟨Eq.mpr h v⟩
theorem Ct.okH{P:Program}{sp:ba}(c:Ct){f:FuncId}{fn:Func}(hf:P.funcs[f]? = some fn)(hb:fn.body=some (ij fn))(hs:ce P sp)(aH:P.follows .mixedOrders=true)(an:aI c.ps->aO)
  (vc:lN (Ct.vc P sp c fn an)):aL P sp.gl f c.spec:=c.ok hf hb hs aH an vc.out
def Cn.vc(P:Program)(sp:ba)(c:Cn)(fn:Func)(an:aI c.ps->aO):Prop :=
 iL c.ps fun d=>iS c.ps d->eh (c.pre d)->f8 (ju c.ps d fn.ntmps) (sx P sp (an d) (ij fn) (jD P c.ps c.rs fn.results.toList (c.post d)))
theorem Cn.okH{P:Program}{sp:ba}(c:Cn){f:FuncId}{fn:Func}(hf:P.funcs[f]? = some fn)(hb:fn.body=some (ij fn))(hs:ce P sp)(aH:P.follows .mixedOrders=true)(an:aI c.ps->aO)
  (vc:lN (Cn.vc P sp c fn an)):aL P sp.gl f c.spec:=c.ok hf hb hs aH an vc.out
def xO(G:fT):ba:=⟨fun _=>none,G⟩
theorem aV{P:Program}{G:fT}:ce P (xO G):=fun f s h=>by cases h
def jJ(sp:ba)(f:FuncId)(s:Spec):ba:=⟨fun g=>match Nat.beq g f with
 | true=>some s
 | false=>sp.fn g,sp.gl⟩
theorem aJ{P:Program}{sp:ba}{f:FuncId}{s:Spec}(h:ce P sp)(hs:aL P sp.gl f s):ce P (jJ sp f s):=fun g t e=>by
 unfold jJ at e
 simp only at e
 split at e
 ·rename_i hb;cases e;rw[Nat.eq_of_beq_eq_true hb];exact hs
 ·exact h g t e
def Bs(sp:ba)(d:Nat):ba:=jJ sp (4000000000+d) fun _ _=>.fail
theorem tH{P:Program}{sp:ba}{d:Nat}(h:ce P sp):ce P (Bs sp d):=aJ h fun _ _ _ _ _ e=>by cases e
def yL(sp:ba)(d:Nat):ba:=jJ sp (4500000000+d) fun _ _=>.fail
theorem AW{P:Program}{sp:ba}{d:Nat}(h:ce P sp):ce P (yL sp d):=aJ h fun _ _ _ _ _ e=>by cases e
def yS(sp:ba)(d p off:Nat):ba:=jJ sp (4600000000+d) fun _ _=>.ask p fun _=>.ask off fun _=>.fail
theorem rK{P:Program}{sp:ba}{d p off:Nat}(h:ce P sp):ce P (yS sp d p off):=aJ h fun _ _ _ _ _ e=>by simp[Q.run] at e
def ym(sp:ba)(d:Nat):ba:=jJ sp (4700000000+d) fun _ _=>.fail
theorem mH{P:Program}{sp:ba}{d:Nat}(h:ce P sp):ce P (ym sp d):=aJ h fun _ _ _ _ _ e=>by cases e
theorem AH{b:Bool}{y n:Prop}:av b y n↔(b=true->y)/\(b=false->n):=by cases b <;> simp[av]
end Go.SX

/- SX, plain lemmas for what is to be shown of functions. -/
namespace Go.SX
set_option linter.unusedVariables false
theorem af{n:Int}(h : -9223372036854775808<=n)(h':n<=9223372036854775807):IntKind.i64.wrap n=n:=IntWalk.i64_in n ⟨h,h'⟩
theorem cy{α:Type} [Inhabited α] {xs:List α} {i:Int} (h0:0<=i) (h1:i<xs.length):xs.getD i.toNat default∈xs:=by
 have h:i.toNat<xs.length:=by omega
 rw[List.getD_eq_getElem?_getD,List.getElem?_eq_getElem h];exact List.getElem_mem h
theorem oA{a b:Int}(ha:0<=a):0<=a.tmod b:=Int.tmod_nonneg b ha
theorem p8{a b:Int}(ha:0<=a)(hb:0<b):a.tmod b<b:=Int.tmod_lt_of_pos a hb
theorem aG{b:Bool}{y n:Prop}(hy:b=true->y)(hn:b=false->n):av b y n:=AH.2 ⟨hy,hn⟩
theorem tq(n:Int) : -9223372036854775808<=IntKind.i64.wrap n/\IntKind.i64.wrap n<=9223372036854775807:=IntKind.wrap_has .i64 n
theorem AC{α:Type} [Inhabited α] {p:α->Prop} {xs:List α} (h:∀ x∈xs,p x) {i:Int} (h0:0<=i) (h1:i<xs.length):p (xs.getD i.toNat default):=h _ (cy h0 h1)
theorem mZ{p:Prop} [Decidable p] (h:(!decide p)=true):¬ p:=of_decide_eq_false (by simpa only[Bool.not_eq_true'] using h)
theorem lA{p:Prop} [Decidable p] (h:(!decide p)=false):p:=of_decide_eq_true (by simpa only[Bool.not_eq_false'] using h)
theorem ja{a b:Bool}{y n:Prop}(hy:a=true∨b=true->y)(hn:a=false->b=false->n):av (bif a then true else b) y n:=by
 cases a with
 | true=>exact hy (.inl rfl)
 | false=>cases b with
  | true=>exact hy (.inr rfl)
  | false=>exact hn rfl rfl
theorem gH{a b:Bool}{y n:Prop}(hy:a=true->b=true->y)(hn:a=false∨b=false->n):av (bif a then b else false) y n:=by
 cases a with
 | false=>exact hn (.inl rfl)
 | true=>cases b with
  | true=>exact hy rfl rfl
  | false=>exact hn (.inr rfl)
theorem vE{α:Type} [Inhabited α] {l:List α} {i:Nat} {a:α} (h:i<l.length):(l.set i a).getD i default=a:=by
 rw[List.getD_eq_getElem?_getD,List.getElem?_set_self h];rfl
theorem cG{α:Type} [Inhabited α] {l:List α} {k:Int} (h0:0<=k) (h1:k<l.length):l.take (k+1).toNat=l.take k.toNat++[l.getD k.toNat default]:=by
 have e:(k+1).toNat=k.toNat+1:=by omega
 have hk:k.toNat<l.length:=by omega
 rw[e,List.take_add_one,List.getElem?_eq_getElem hk,List.getD_eq_getElem?_getD,List.getElem?_eq_getElem hk]
 rfl
theorem rJ{a b:Prop} [Decidable a] [Decidable b]:(bif decide a then true else decide b)=decide (a∨b):=by by_cases h:a <;> simp[h]
theorem mq{a b:Prop} [Decidable a] [Decidable b]:(bif decide a then decide b else false)=decide (a/\b):=by by_cases h:a <;> simp[h]
theorem zp{a b:Prop} [Decidable a] [Decidable b]:(bif !decide a then true else decide b)=decide (¬ a∨b):=by by_cases h:a <;> simp[h]
theorem xq{a b:Prop} [Decidable a] [Decidable b]:(bif decide a then true else !decide b)=decide (a∨¬ b):=by by_cases h:a <;> simp[h]
theorem yk{a:Prop} [Decidable a]:(!decide a)=decide (¬ a):=by by_cases h:a <;> simp[h]
end Go.SX

/- Base: data types of the program's values. -/
namespace Go.RS
open Go.SX Go.Proofs
set_option maxRecDepth 100000
set_option linter.unusedVariables false
abbrev ao(x:Int):Prop := -9223372036854775808<=x/\x<=9223372036854775807
abbrev hS:CT := .pair (.pair (.int .u32) (.int .i64)) (.int .i64)
abbrev cBlocks:CT := .pair hS (.pair hS (.pair hS (.pair hS (.pair hS (.pair hS (.pair hS hS))))))
def blocksV:cBlocks.D:=(((0,8),1),((2130706432,8),2),((167772160,8),3),((2886729728,12),3),((3232235520,16),3),((2851995648,16),4),((3758096384,4),5),((4026531840,4),6))
def GL:fT:=(fun _=>none)
theorem aH:Try.prog.follows .mixedOrders=true:=Try.checked.mixed
abbrev cI:CT := .int .i64
abbrev aZ:CT := .int .u8
abbrev fx:CT := .pair (.sl aZ) cI
def aA(c:List Int×Int):Prop:=0<=c.2/\c.2<=c.1.length
end Go.RS

/- Draw: the choices of a law, with loose contracts: a number in its range. -/
namespace Go.RS
open Go.SX Go.Proofs
set_option maxRecDepth 100000
set_option linter.unusedVariables false
def qQ:Ct:=⟨[.val (.sl aZ),.val cI],[.box 58 fx],fun d=>[0<=d.2.1],fun d=>(((if (d.1.length:Int)<=d.2.1 then d.1 else d.1.take d.2.1.toNat,0),()),())⟩
def BD:aI qQ.ps->aO:=(fun _=>{})
theorem xD :
 ∀(a:List Int)(b:Int),(a.length<=maxLen/\ ∀(c:Int),c∈a->0<=c/\c<=255)/\ao b/\True->0<=b->av (decide (b< ↑a.length)) ((0:Int)<=0/\0<=b/\b<= ↑a.length/\(bf a (Int.toNat (0:Int)) b.toNat,(0:Int))=(if↑a.length<=b then a else List.take b.toNat a,(0:Int))) ((a,(0:Int))=(if↑a.length<=b then a else List.take b.toNat a,(0:Int))):=by
  rintro x y ⟨-,⟨h0,h1⟩,-⟩ h
  refine aG (fun hb=>?_) (fun hb=>?_)
  ·have hb:=of_decide_eq_true hb
   refine⟨by omega,h,by omega,?_⟩
   rw[if_neg (by omega)]
   simp[bf]
  ·have hb:=of_decide_eq_false hb
   rw[if_pos (by omega)]
theorem ye:aL Try.prog GL 10 qQ.spec:=Ct.okH _ Try.func10 (by kernel_rfl) aV aH BD (aW (by kernel_rfl) xD)
def tT:Cn:=⟨[.box 58 fx,.val cI],[.val cI],fun d=>[aA d.1,d.2.1<=256],fun d y=>0<=y.1.1/\(y.1.1<d.2.1∨y.1.1=0)/\aA y.2.1,fun d h=>⟨((0,()),(d.1,())),by simp,by simp,h.1⟩⟩
def BF:aI tT.ps->aO:=(fun _=>{})
def ml(a:List Int)(b c:Int) :=
 c≠(0:Int)/\0<=Int.tmod (IntKind.wrap .i64 (a.getD b.toNat default)) c/\(Int.tmod (IntKind.wrap .i64 (a.getD b.toNat default)) c<c∨Int.tmod (IntKind.wrap .i64 (a.getD b.toNat default)) c=0)/\aA (a,IntKind.wrap .i64 (b+(1:Int)))
theorem zl :
 ∀(a:List Int)(b c:Int),((a.length<=maxLen/\ ∀(d:Int),d∈a->0<=d/\d<=255)/\ao b)/\ao c/\True->aA (a,b)/\c<=256-> ∀(d:Bool),d=decide (a.length<=b)->((! d)->((! d)->(! d))/\True)/\(d=false->(! d))/\av (bif d then true else decide (c<1)) ((0:Int)<=0/\(0<c∨(0:Int)=0)/\aA (a,b)) (0<=b/\b< ↑a.length/\av (decide (256<c)) False (ml a b c)):=by
  delta ml
  rintro l p n ⟨⟨⟨hl,hw⟩,h0,h1⟩,⟨h2,h3⟩,-⟩⟨⟨hc1,hc2⟩,hn⟩
  simp only[maxLen] at hl hc1 hc2
  (repeat (intro (b_:Bool) (hb_:b_=_);(repeat refine⟨(by first|(simp;done)|(rw[hb_];simp;done)|(rw[hb_];simp;omega)|(rw[hb_];simp;intros;omega)|(rw[hb_];simp +contextual;done)),?_⟩);subst hb_))
  refine aG (fun hb=>?_) (fun hb=>?_)
  ·exact⟨by omega,by simp,hc1,hc2⟩
  ·simp at hb
   obtain⟨hb1,hb2⟩:=hb
   obtain⟨hm0,hm1⟩:=hw _ (cy hc1 hb1)
   rw[af (by omega) (by omega),af (by omega) (by omega)]
   refine⟨hc1,hb1,aG (fun hb=>?_) (fun hb=>?_)⟩
   ·have:=of_decide_eq_true hb;omega
   ·exact⟨by omega,oA hm0,.inl (p8 hm0 (by omega)),by simp only[aA];omega⟩
theorem yR:aL Try.prog GL 17 tT.spec:=Cn.okH _ Try.func17 (by kernel_rfl) aV aH BF (aW (by kernel_rfl) zl)
def sU:Cn:=⟨[.box 58 fx,.val cI],[.val cI],fun d=>[aA d.1],fun d y=>0<=y.1.1/\(y.1.1<d.2.1∨y.1.1=0)/\aA y.2.1,fun d h=>⟨((0,()),(d.1,())),by simp,by simp,h.1⟩⟩
def Bn:aI sU.ps->aO:=(fun _=>{})
def mQ(a:List Int)(b e:Int) :=
 IntKind.wrap .i64 (IntKind.wrap .i64 ((256:Int)*IntKind.wrap .i64 (a.getD b.toNat default))+e)
theorem zw :
 ∀(a:List Int)(b c:Int),((a.length<=maxLen/\ ∀(d:Int),d∈a->0<=d/\d<=255)/\ao b)/\ao c/\True->0<=b/\b<= ↑a.length-> ∀(d:Bool),d=decide (a.length<=b)->((! d)->((! d)->(! d))/\True)/\(d=false->(! d))/\av (bif d then true else decide (c<1)) ((0:Int)<=0/\(0<c∨(0:Int)=0)/\aA (a,b)) (0<=b/\b< ↑a.length/\av (decide (256<c)) (aA (a,IntKind.wrap .i64 (b+(1:Int)))/\(256:Int)<=256/\ ∀(e:Int)(f:List Int)(g:Int),0<=e/\(e<256∨e=0)/\aA (f,g)->c≠(0:Int)/\0<=Int.tmod (mQ a b e) c/\(Int.tmod (mQ a b e) c<c∨Int.tmod (mQ a b e) c=0)/\aA (f,g)) (ml a b c)):=by
  delta ml mQ
  rintro l p n ⟨⟨⟨hl,hw⟩,h0,h1⟩,⟨h2,h3⟩,-⟩⟨hc1,hc2⟩
  simp only[maxLen] at hl hc1 hc2
  (repeat (intro (b_:Bool) (hb_:b_=_);(repeat refine⟨(by first|(simp;done)|(rw[hb_];simp;done)|(rw[hb_];simp;omega)|(rw[hb_];simp;intros;omega)|(rw[hb_];simp +contextual;done)),?_⟩);subst hb_))
  refine aG (fun hb=>?_) (fun hb=>?_)
  ·exact⟨by omega,by simp,hc1,hc2⟩
  ·simp at hb
   obtain⟨hb1,hb2⟩:=hb
   obtain⟨hm0,hm1⟩:=hw _ (cy hc1 hb1)
   rw[af (by omega) (by omega),af (n:=l.getD p.toNat default) (by omega) (by omega)]
   refine⟨hc1,hb1,aG (fun hb=>?_) (fun hb=>?_)⟩
   ·refine⟨by simp only[aA];omega,by omega,?_⟩
    rintro r l2 p2 ⟨hr0,hr1,hr2⟩
    rw[af (n:=256*_) (by omega) (by omega),af (by omega) (by omega)]
    exact⟨by omega,oA (by omega),.inl (p8 (by omega) (by omega)),hr2⟩
   ·exact⟨by omega,oA hm0,.inl (p8 hm0 (by omega)),by simp only[aA];omega⟩
theorem mh:aL Try.prog GL 17 sU.spec:=Cn.okH _ Try.func17 (by kernel_rfl) (aJ aV yR) aH Bn (aW (by kernel_rfl) zw)
end Go.RS

/- Mix: the mixing of 64 bits: what it is, and that it is one to one. -/
namespace Go.RS
open Go.SX
set_option linter.unusedVariables false
def xs(k a:Nat):Nat:=a ^^^ a/2^k
end Go.RS

/- Balance: mixing, hashing, choosing; the law's draws. -/
namespace Go.RS
open Go.SX Go.Proofs
set_option maxRecDepth 100000
set_option linter.unusedVariables false
def sa:Cn:=⟨[.box 58 fx],[.val cI],fun d=>[aA d.1],fun d y=>aA y.2.1 ∧ -9223372036854775808<=y.1.1/\y.1.1<=9223372036854775807,fun d h=>⟨((0,()),(d.1,())),h.1,by simp,by simp⟩⟩
def yI:aI sa.ps->aO:=(fun _=>{})
theorem yA :
 ∀(a:List Int)(b:Int),((a.length<=maxLen/\ ∀(c:Int),c∈a->0<=c/\c<=255)/\ao b)/\True->0<=b/\b<= ↑a.length->aA (a,b)/\ ∀(c:Int)(d:List Int)(e:Int),0<=c/\(c<10∨c=0)/\aA (d,e)->av (decide (c=0)) (aA (d,e)/\ ∀(f:Int)(g:List Int)(h:Int),0<=f/\(f<3∨f=0)/\aA (g,h)->aA (g,h)/\ -9223372036854775808<=IntKind.wrap .i64 ((-1:Int) -f)/\IntKind.wrap .i64 ((-1:Int) -f)<=9223372036854775807) (av (decide (c=1)) (aA (d,e)/\ ∀(f:Int)(g:List Int)(h:Int),0<=f/\(f<14∨f=0)/\aA (g,h)->0<=f/\f< ↑(List.length [(9223372036854775807:Int),(-9223372036854775808:Int),(1125899906842624:Int),(1125899906842625:Int),(65535:Int),(65536:Int),(255:Int),(256:Int),(1023:Int),(1024:Int),(65534:Int),(65535:Int),(4294967296:Int),(4611686018427387905:Int)])/\aA (g,h)/\ -9223372036854775808<=List.getD
 [(9223372036854775807:Int),(-9223372036854775808:Int),(1125899906842624:Int),(1125899906842625:Int),(65535:Int),(65536:Int),(255:Int),(256:Int),(1023:Int),(1024:Int),(65534:Int),(65535:Int),(4294967296:Int),(4611686018427387905:Int)] f.toNat default/\List.getD [(9223372036854775807:Int),(-9223372036854775808:Int),(1125899906842624:Int),(1125899906842625:Int),(65535:Int),(65536:Int),(255:Int),(256:Int),(1023:Int),(1024:Int),(65534:Int),(65535:Int),(4294967296:Int),(4611686018427387905:Int)] f.toNat default<=9223372036854775807) (av (decide (c=2)) (aA (d,e)/\ ∀(f:Int)(g:List Int)(h:Int),0<=f/\(f<256∨f=0)/\aA (g,h)->aA (g,h)/\ ∀(i:Int)(j:List Int)(k:Int),0<=i/\(i<256∨i=0)/\aA (j,k)->aA (j,k)/\ -9223372036854775808<=IntKind.wrap .i64 (IntKind.wrap .i64 ((256:Int)*f)+i)/\IntKind.wrap .i64 (IntKind.wrap .i64 ((256:Int)*f)+i)<=9223372036854775807) (aA (d,e)/\ ∀(f:Int)(g:List Int)
 (h:Int),0<=f/\(f<40∨f=0)/\aA (g,h)->aA (g,h)/\ao f))):=by
  rintro l p-h
  refine⟨h,?_⟩
  rintro r l2 p2 ⟨h1,h2,h3⟩
  refine aG (fun hb=>⟨h3,?_⟩) (fun hb=>aG (fun hb=>⟨h3,?_⟩) (fun hb=>aG (fun hb=>⟨h3,?_⟩) (fun hb=>⟨h3,?_⟩)))
  ·rintro a l4 p4 ⟨h4,h5,h6⟩
   exact⟨h6,tq _⟩
  ·rintro a l4 p4 ⟨h4,h5,h6⟩
   refine⟨h4,by simp;omega,h6,?_⟩
   exact AC (p:=fun v => -9223372036854775808<=v/\v<=9223372036854775807) (by simp) h4 (by simp;omega)
  ·rintro a l4 p4 ⟨h4,h5,h6⟩
   refine⟨h6,?_⟩
   rintro a l4 p4 ⟨h4,h5,h6⟩
   exact⟨h6,tq _⟩
  ·rintro a l4 p4 ⟨h4,h5,h6⟩
   exact⟨h6,by omega,by omega⟩
theorem yJ:aL Try.prog GL 22 sa.spec:=Cn.okH _ Try.func22 (by kernel_rfl) (aJ aV mh) aH yI (aW (by kernel_rfl) yA)
def gW(x n:Int):Int:=(IntKind.wrap .i64 (x.tmod n+n)).tmod n
def uY:Ct:=⟨[.val cI,.val cI],[.val cI],fun d=>[d.2.1≠0],fun d=>((gW d.1 d.2.1,()),())⟩
def wj:aI uY.ps->aO:=(fun _=>{})
theorem Bl :
 ∀(a b:Int),ao a/\ao b/\True->(b=0->False)->b≠(0:Int)/\b≠(0:Int)/\Int.tmod (IntKind.wrap .i64 (Int.tmod a b+b)) b=gW a b:=by
  rintro x n-h
  exact⟨h,h,rfl⟩
theorem wM:aL Try.prog GL 39 uY.spec:=Ct.okH _ Try.func39 (by kernel_rfl) aV aH wj (aW (by kernel_rfl) Bl)
end Go.RS

/- Ident: identifiers of answers. -/
namespace Go.RS
open Go.SX Go.Proofs
set_option maxRecDepth 100000
set_option linter.unusedVariables false
end Go.RS
