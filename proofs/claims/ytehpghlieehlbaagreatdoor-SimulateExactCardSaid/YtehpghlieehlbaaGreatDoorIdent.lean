/- SX, part 21: a function's contract, off its symbolic run. -/
import Derived.Test.YtehpghlieehlbaaGreatDoorSx20
import Derived.Laws.Sem
import Derived.Laws.NewBlocks
import Derived.ProofKit
import Derived.OpenShut
import Derived.ChangeOld
import Derived.Below
import Derived.KernelRfl
import Derived.Test.YtehpghlieehlbaaGreatDoorSx9
import Derived.Test.YtehpghlieehlbaaGreatDoorChecked
import Derived.Laws.Bits64
import Derived.Laws.Bits128
import Derived.Laws.BitsAllLaws
set_option maxRecDepth 100000
set_option linter.unusedVariables false
open Int (toNat)
open List (take getD)
namespace Go.SX
def CT.plain:CT->Bool
 | .sl _=>false
 | .pair a b=>a.plain&&b.plain
 | _=>true
theorem FV{A A':Nat->Prop}{w w':World}:∀{t:CT}{cv:Nat->Option Value}{o:Nat}{d:t.D},t.plain=true->Rd A w t cv o d->Rd A' w' t cv o d
 | .int k,cv,o,d,_,h=>h
 | .bool,cv,o,d,_,h=>h
 | .str,cv,o,d,_,h=>h
 | .pair a b,cv,o,d,e,h=>by
  simp only[CT.plain,dr] at e;exact⟨FV e.1 h.1,FV e.2 h.2⟩
theorem Dj{A A':Nat->Prop}{w:World}{t:CT}{cv:Nat->Option Value}{o:Nat}{d:t.D}(L:t.plain=true∨∀ b,A b->A' b)(h:Rd A w t cv o d):Rd A' w t cv o d:=by
 rcases L with L|L
 .exact FV L h
 .exact iC L (λ_ _ _=>rfl) t _ _ _ _ (λ_ _=>rfl) h
inductive RK where
 | val (t:CT)
 | agg (o:OT)
 | own (E:TypeId) (t:CT)
 | box (E:TypeId) (o:OT)
 | fn (f:FuncId) (k:Nat)
@[reducible] def RK.D:RK->Type
 | .val t=>t.D
 | .agg o=>o.X
 | .own _ t=>List t.D
 | .box _ o=>o.X
 | .fn _ _=>Unit
@[reducible] def ju:List RK->Type
 | []=>Unit
 | p::r=>p.D×ju r
@[reducible] def gF:List PK->Type
 | []=>Unit
 | .val _::r=>gF r
 | .agg _::r=>gF r
 | .own _ _::r=>gF r
 | .ago _::r=>gF r
 | .fn _ _::r=>gF r
 | .nils::r=>gF r
 | .box _ o::r=>o.X×gF r
 | .row _ t::r=>List t.D×gF r
def OT.plain:OT->Bool
 | .dat t=>t.plain
 | .row _ t=>t.plain
 | .rowg _ _=>true
 | .fnc _=>true
 | .ali=>true
 | .ref _ o=>o.plain
 | .pair a b=>a.plain&&b.plain
def tO:List RK->Bool
 | []=>true
 | .val t::r=>t.plain&&tO r
 | .agg o::r=>o.plain&&tO r
 | .own _ t::r=>t.plain&&tO r
 | .box _ o::r=>o.plain&&tO r
 | .fn _ _::r=>tO r
def me:List PK->Bool
 | []=>true
 | .val _::r=>me r
 | .agg _::r=>me r
 | .own _ _::r=>me r
 | .ago _::r=>me r
 | .fn _ _::r=>me r
 | .nils::r=>me r
 | .box _ o::r=>o.plain&&me r
 | .row _ t::r=>t.plain&&me r
structure Ct where
 ps:List PK
 rs:List RK
 pre:bu ps->List Prop
 out:bu ps->ju rs×gF ps
def ED(E:TypeId)(t:CT)(h:bR):List SV->Option (List t.D×List SV×Option Nat)
 | .own m sz::r=>match h m with
  | .live (.row E' t' xs)=>match Nat.beq E E',Nat.beq sz t.size,hY t' t xs with
   | true,true,some ys=>some (ys,r,some m)
   | _,_,_=>none
  | _=>none
 | .nilsl::r=>some ([],r,none)
 | _=>none
def mi(h:bR)(al:Bool):(o:OT)->Option Nat->List SV->Option (o.X×List SV×List (Nat×Nm)×List (Option Nat))
 | .dat t,_,cs=>match (jw t cs).run h with
  | some ((x,r,fz),_)=>some (x,r,fz,[])
  | none=>none
 | .row E t,_,cs=>match ED E t h cs with
  | some (ys,r,o)=>some (ys,r,[],[o])
  | none=>none
 | .rowg _ _,_,_::r=>some ((),r,[],[])
 | .rowg _ _,_,[]=>none
 | .fnc f,_,.fn g []::r=>match Nat.beq f g with
  | true=>some ((),r,[],[])
  | false=>none
 | .fnc _,_,_=>none
 | .ali,_,.ptr m 0::r=>match al,Nat.beq m PN with
  | true,true=>some ((),r,[],[])
  | _,_=>none
 | .ali,_,_=>none
 | .ref E o,some j,.ptr m 0::r=>match Nat.beq m (PN+j),h m with
  | true,.live (.cells E' cs)=>match Nat.beq E E',mi h al o (some (j+1)) cs with
   | true,some (x,[],fz,ow)=>some (x,r,fz,ow)
   | _,_=>none
  | _,_=>none
 | .ref _ _,_,_=>none
 | .pair a b,j,cs=>match mi h al a j cs with
  | some (x,r,f,w)=>match mi h al b (j.map (· + a.nb)) r with
   | some (y,r',f',w')=>some ((x,y),r',f++f',w++w')
   | none=>none
  | none=>none
def mF(al:Bool):(rs:List RK)->List SV->bR->Option (ju rs×List (Nat×Nm)×List (Option Nat))
 | [],[],_=>some ((),[],[])
 | .val t::rs,v::vs,h=>match (jw t [v]).run h with
  | some ((x,[],fz),_)=>match mF al rs vs h with
   | some (y,f,o)=>some ((x,y),fz++f,o)
   | none=>none
  | _=>none
 | .agg t::rs,.agg cs::vs,h=>match mi h al t none cs with
  | some (x,[],fz,w)=>match mF al rs vs h with
   | some (y,f,o)=>some ((x,y),fz++f,w++o)
   | none=>none
  | _=>none
 | .own E t::rs,v::vs,h=>match ED E t h [v] with
  | some (x,_,w)=>match mF al rs vs h with
   | some (y,f,o)=>some ((x,y),f,w::o)
   | none=>none
  | none=>none
 | .box E t::rs,.ptr m 0::vs,h=>match h m with
  | .live (.cells E' cs)=>match Nat.beq E E',mi h al t none cs with
   | true,some (x,[],fz,w)=>match mF al rs vs h with
    | some (y,f,o)=>some ((x,y),fz++f,some m::(w++o))
    | none=>none
   | _,_=>none
  | _=>none
 | .fn f k::rs,.fn g cs::vs,h=>match Nat.beq f g,Nat.beq cs.length k with
  | true,true=>match mF al rs (cs++vs) h with
   | some (y,f',o)=>some (((),y),f',o)
   | none=>none
  | _,_=>none
 | _,_,_=>none
def lQ:(ps:List PK)->Nat->bR->Option (gF ps×List (Nat×Nm)×List (Option Nat))
 | [],_,_=>some ((),[],[])
 | .val _::ps,j,h=>lQ ps j h
 | .agg _::ps,j,h=>lQ ps j h
 | .own _ _::ps,j,h=>lQ ps j h
 | .ago _::ps,j,h=>lQ ps j h
 | .fn _ _::ps,j,h=>lQ ps j h
 | .nils::ps,j,h=>lQ ps j h
 | .box E t::ps,j,h=>match h (PN+j) with
  | .live (.cells E' cs)=>match Nat.beq E E',mi h true t (some (j+1)) cs with
   | true,some (x,[],fz,w)=>match lQ ps (j+1+t.nb) h with
    | some (y,f,o)=>some ((x,y),fz++f,w++o)
    | none=>none
   | _,_=>none
  | _=>none
 | .row E t::ps,j,h=>match h (PN+j) with
  | .live (.row E' t' xs)=>match Nat.beq E E',hY t' t xs with
   | true,some ys=>match lQ ps (j+1) h with
    | some (y,f,o)=>some ((ys,y),f,o)
    | none=>none
   | _,_=>none
  | _=>none
def ve(n:Nat):List (Option Nat)->Bool
 | []=>false
 | some m::r=>Nat.beq n m||ve n r
 | none::r=>ve n r
def xe(fz:List (Nat×Nm)):List (Option Nat)->Bool
 | []=>true
 | none::r=>xe fz r
 | some m::r=>(Nat.blt m PN||Nat.ble QN m)&&vT m fz && !ve m r&&xe fz r
def BU:List (Nat×Nm)->Bool
 | []=>true
 | (n,_)::r=>(Nat.blt n PN||Nat.ble QN n)&&BU r
def mZ(b0:Nat):(o:OT)->o.X->List Nat->Nat->List SV
 | .dat t,x,_,_=>cR t x
 | .row _ t,_,_,n=>[.own n t.size]
 | .rowg _ _,_,_,_=>[.junk]
 | .fnc f,_,_,_=>[.fn f []]
 | .ali,_,_,_=>[.ptr b0 0]
 | .ref _ _,_,bx,_=>match bx with
  | q::_=>[.ptr q 0]
  | []=>[.junk]
 | .pair a b,x,bx,n=>mZ b0 a x.1 bx n++mZ b0 b x.2 (bx.drop a.nb) (n+a.nr)
def lN(b0:Nat):(o:OT)->o.X->List Nat->Nat->List (Nat×Nm)
 | .dat _,_,_,_=>[]
 | .row _ _,_,_,_=>[]
 | .rowg _ _,_,_,_=>[]
 | .fnc _,_,_,_=>[]
 | .ali,_,_,_=>[]
 | .ref E o,x,bx,n=>match bx with
  | q::r=>(q,.live (.cells E (mZ b0 o x r n)))::lN b0 o x r n
  | []=>[]
 | .pair a b,x,bx,n=>lN b0 a x.1 bx n++lN b0 b x.2 (bx.drop a.nb) (n+a.nr)
def ry:(o:OT)->o.X->Nat->List (Nat×Nm)
 | .dat _,_,_=>[]
 | .row E t,x,n=>[(n,.live (.row E t x))]
 | .rowg _ _,_,_=>[]
 | .fnc _,_,_=>[]
 | .ali,_,_=>[]
 | .ref _ o,x,n=>ry o x n
 | .pair a b,x,n=>ry a x.1 n++ry b x.2 (n+a.nr)
def jV(b0:Nat):(rs:List RK)->ju rs->Nat->List SV
 | [],_,_=>[]
 | .val t::rs,d,n=>yk t d.1::jV b0 rs d.2 n
 | .agg o::rs,d,n => .agg (mZ b0 o d.1 [] n)::jV b0 rs d.2 (n+o.nr)
 | .own E t::rs,d,n => .own n t.size::jV b0 rs d.2 (n+1)
 | .box E o::rs,d,n => .ptr n 0::jV b0 rs d.2 (n+1+o.nr)
 | .fn f k::rs,d,n => .fn f ((jV b0 rs d.2 n).take k)::(jV b0 rs d.2 n).drop k
def lx(b0:Nat):(rs:List RK)->ju rs->Nat->List (Nat×Nm)
 | [],_,_=>[]
 | .val t::rs,d,n=>lx b0 rs d.2 n
 | .agg o::rs,d,n=>ry o d.1 n++lx b0 rs d.2 (n+o.nr)
 | .own E t::rs,d,n=>(n,.live (.row E t d.1))::lx b0 rs d.2 (n+1)
 | .box E o::rs,d,n=>(n,.live (.cells E (mZ b0 o d.1 [] (n+1))))::(ry o d.1 (n+1)++lx b0 rs d.2 (n+1+o.nr))
 | .fn _ _::rs,d,n=>lx b0 rs d.2 n
def gM:List RK->Nat
 | []=>0
 | .own _ _::r=>gM r+1
 | .box _ o::r=>gM r+o.nr+1
 | .val _::r=>gM r
 | .agg o::r=>gM r+o.nr
 | .fn _ _::r=>gM r
def js:List PK->Nat
 | []=>0
 | .val _::r=>js r
 | .agg _::r=>js r
 | .own _ _::r=>js r
 | .ago _::r=>js r
 | .fn _ _::r=>js r
 | .nils::r=>js r
 | .box _ o::r=>js r+o.nr
 | .row _ _::r=>js r
def gE(b0:Nat):(ps:List PK)->gF ps->List Nat->Nat->List (Nat×Nm)
 | .val _::ps,d,bx,nb=>gE b0 ps d bx nb
 | .agg _::ps,d,bx,nb=>gE b0 ps d bx nb
 | .own _ _::ps,d,bx,nb=>gE b0 ps d bx nb
 | .ago _::ps,d,bx,nb=>gE b0 ps d bx nb
 | .fn _ _::ps,d,bx,nb=>gE b0 ps d bx nb
 | .nils::ps,d,bx,nb=>gE b0 ps d bx nb
 | .box E o::ps,d,n::bx,nb=>(n,.live (.cells E (mZ b0 o d.1 bx nb)))::(lN b0 o d.1 bx nb++gE b0 ps d.2 (bx.drop o.nb) (nb+o.nr))
 | .row E t::ps,d,n::bx,nb=>(n,.live (.row E t d.1))::gE b0 ps d.2 bx nb
 | _,_,_,_=>[]
def iI:(ps:List PK)->gF ps->Nat->List (Nat×Nm)
 | [],_,_=>[]
 | .val _::ps,d,nb=>iI ps d nb
 | .agg _::ps,d,nb=>iI ps d nb
 | .own _ _::ps,d,nb=>iI ps d nb
 | .ago _::ps,d,nb=>iI ps d nb
 | .fn _ _::ps,d,nb=>iI ps d nb
 | .nils::ps,d,nb=>iI ps d nb
 | .box E o::ps,d,nb=>ry o d.1 nb++iI ps d.2 (nb+o.nr)
 | .row E t::ps,d,nb=>iI ps d.2 nb
def po:List (Option Nat)->List (Nat×Nm)
 | []=>[]
 | none::r=>po r
 | some n::r=>(n,.dead)::po r
def qr:List SV->SV
 | [v]=>v
 | l => .tup l
def Bh(fz:List (Nat×Nm)):List Nat->Bool
 | []=>true
 | n::r=>vT n fz&&Bh fz r
def qg:Nat->Nat->Dl->Q Dl
 | _,0,d => .ret d
 | n,k+1,d => .ask n fun
  | .un=>qg (n+1) k d
  | _ => .fail
def xd(ps:List PK)(rs:List RK):Bool := !(tO rs&&me ps)
def tu(ps:List PK)(rs:List RK)(y:ju rs×gF ps)(base:Nat)(fz:List (Nat×Nm))(bx:List Nat)(cx:List (Option Nat)):List (Nat×Nm) :=
 (gE (bx.headD 0) ps y.2 bx (base+gM rs)++(lx (bx.headD 0) rs y.1 base++(iI ps y.2 (base+gM rs)++po cx)))++(match xd ps rs with|true=>fz|false=>[])
def yM(fz:List (Nat×Nm))(bx:List Nat)(cx:List (Option Nat)):Bool:=Bk (bx++jB cx)&&Bh fz (bx++jB cx)&&Nat.ble bx.length PN
def Ct.spec(c:Ct):Spec:=λbase svs=>(gV none c.ps svs).bind λp=>match yM p.2.1 p.2.2.1 p.2.2.2 with
 | true=>qg base (gM c.rs+js c.ps) (.det (c.pre p.1) (qr (jV (p.2.2.1.headD 0) c.rs (c.out p.1).1 base)) (tu c.ps c.rs (c.out p.1) base p.2.1 p.2.2.1 p.2.2.2))
 | false => .fail
structure Cn where
 ps:List PK
 rs:List RK
 pre:bu ps->List Prop
 post:bu ps->ju rs×gF ps->Prop
 inh:∀ d,bU (pre d)→∃ y,post d y
def wS{X:Type}(b0:Nat):(o:OT)->(X->o.X)->List Nat->Nat->List (Nat×(X->Nm))
 | .dat _,_,_,_=>[]
 | .row _ _,_,_,_=>[]
 | .rowg _ _,_,_,_=>[]
 | .fnc _,_,_,_=>[]
 | .ali,_,_,_=>[]
 | .ref E o,x,bx,n=>match bx with
  | q::r=>(q,λy=>.live (.cells E (mZ b0 o (x y) r n)))::wS b0 o x r n
  | []=>[]
 | .pair a b,x,bx,n=>wS b0 a (λy=>(x y).1) bx n++wS b0 b (λy=>(x y).2) (bx.drop a.nb) (n+a.nr)
def uh{X:Type}:(o:OT)->(X->o.X)->Nat->List (Nat×(X->Nm))
 | .dat _,_,_=>[]
 | .row E t,x,n=>[(n,λy=>.live (.row E t (x y)))]
 | .rowg _ _,_,_=>[]
 | .fnc _,_,_=>[]
 | .ali,_,_=>[]
 | .ref _ o,x,n=>uh o x n
 | .pair a b,x,n=>uh a (λy=>(x y).1) n++uh b (λy=>(x y).2) (n+a.nr)
def mD{X:Type}(b0:Nat):(ps:List PK)->(X->gF ps)->List Nat->Nat->List (Nat×(X->Nm))
 | .val _::ps,d,bx,nb=>mD b0 ps d bx nb
 | .agg _::ps,d,bx,nb=>mD b0 ps d bx nb
 | .own _ _::ps,d,bx,nb=>mD b0 ps d bx nb
 | .ago _::ps,d,bx,nb=>mD b0 ps d bx nb
 | .fn _ _::ps,d,bx,nb=>mD b0 ps d bx nb
 | .nils::ps,d,bx,nb=>mD b0 ps d bx nb
 | .box E o::ps,d,n::bx,nb=>(n,λx=>.live (.cells E (mZ b0 o (d x).1 bx nb)))::(wS b0 o (λx=>(d x).1) bx nb++mD b0 ps (λx=>(d x).2) (bx.drop o.nb) (nb+o.nr))
 | .row E t::ps,d,n::bx,nb=>(n,λx=>.live (.row E t (d x).1))::mD b0 ps (λx=>(d x).2) bx nb
 | _,_,_,_=>[]
def mr{X:Type}:(ps:List PK)->(X->gF ps)->Nat->List (Nat×(X->Nm))
 | [],_,_=>[]
 | .val _::ps,d,nb=>mr ps d nb
 | .agg _::ps,d,nb=>mr ps d nb
 | .own _ _::ps,d,nb=>mr ps d nb
 | .ago _::ps,d,nb=>mr ps d nb
 | .fn _ _::ps,d,nb=>mr ps d nb
 | .nils::ps,d,nb=>mr ps d nb
 | .box E o::ps,d,nb=>uh o (λx=>(d x).1) nb++mr ps (λx=>(d x).2) (nb+o.nr)
 | .row E t::ps,d,nb=>mr ps (λx=>(d x).2) nb
def pR{X:Type}(b0:Nat):(rs:List RK)->(X->ju rs)->Nat->List (Nat×(X->Nm))
 | [],_,_=>[]
 | .val t::rs,d,n=>pR b0 rs (λx=>(d x).2) n
 | .agg o::rs,d,n=>uh o (λx=>(d x).1) n++pR b0 rs (λx=>(d x).2) (n+o.nr)
 | .own E t::rs,d,n=>(n,λx=>.live (.row E t (d x).1))::pR b0 rs (λx=>(d x).2) (n+1)
 | .box E o::rs,d,n=>(n,λx=>.live (.cells E (mZ b0 o (d x).1 [] (n+1))))::(uh o (λx=>(d x).1) (n+1)++pR b0 rs (λx=>(d x).2) (n+1+o.nr))
 | .fn _ _::rs,d,n=>pR b0 rs (λx=>(d x).2) n
def Bd{X:Type}:List (Nat×Nm)->List (Nat×(X->Nm))
 | []=>[]
 | (n,b)::r=>(n,λ_=>b)::Bd r
def yS(ps:List PK)(rs:List RK)(base:Nat)(fz:List (Nat×Nm))(bx:List Nat)(cx:List (Option Nat)):List (Nat×(ju rs×gF ps->Nm)) :=
 (mD (bx.headD 0) ps (λy:ju rs×gF ps=>y.2) bx (base+gM rs)++(pR (bx.headD 0) rs (λy:ju rs×gF ps=>y.1) base++(mr ps (λy:ju rs×gF ps=>y.2) (base+gM rs)++Bd (po cx))))++(match xd ps rs with|true=>Bd fz|false=>[])
theorem E8{X:Type}{b0:Nat}(y:X):∀(o:OT)(x:X->o.X)(bx:List Nat)(n:Nat),(wS b0 o x bx n).map (λp=>(p.1,p.2 y))=lN b0 o (x y) bx n
 | .dat _,_,_,_=>rfl
 | .row _ _,_,_,_=>rfl
 | .rowg _ _,_,_,_=>rfl
 | .fnc _,_,_,_=>rfl
 | .ali,_,_,_=>rfl
 | .ref E o,x,[],n=>rfl
 | .ref E o,x,q::r,n=>by simp only[wS,lN,fK,E8 y o]
 | .pair a b,x,bx,n=>by simp only[wS,lN,lr,E8 y a,E8 y b]
theorem xM{X:Type}(y:X):∀(o:OT)(x:X->o.X)(n:Nat),(uh o x n).map (λp=>(p.1,p.2 y))=ry o (x y) n
 | .dat _,_,_=>rfl
 | .row _ _,_,_=>rfl
 | .rowg _ _,_,_=>rfl
 | .fnc _,_,_=>rfl
 | .ali,_,_=>rfl
 | .ref E o,x,n=>by simp only[uh,ry,xM y o]
 | .pair a b,x,n=>by simp only[uh,ry,lr,xM y a,xM y b]
theorem t8{X:Type}{b0:Nat}(x:X):∀(ps:List PK)(d:X->gF ps)(bx:List Nat)(b:Nat),(mD b0 ps d bx b).map (λp=>(p.1,p.2 x))=gE b0 ps (d x) bx b
 | [],_,_,_=>rfl
 | .val _::ps,d,bx,b=>by simp only[mD,gE];exact t8 x ps d bx b
 | .agg _::ps,d,bx,b=>by simp only[mD,gE];exact t8 x ps d bx b
 | .own _ _::ps,d,bx,b=>by simp only[mD,gE];exact t8 x ps d bx b
 | .ago _::ps,d,bx,b=>by simp only[mD,gE];exact t8 x ps d bx b
 | .fn _ _::ps,d,bx,b=>by simp only[mD,gE];exact t8 x ps d bx b
 | .nils::ps,d,bx,b=>by simp only[mD,gE];exact t8 x ps d bx b
 | .box E t::ps,d,[],_=>rfl
 | .row E t::ps,d,[],_=>rfl
 | .box E t::ps,d,n::bx,b=>by simp only[mD,gE,fK,lr,E8 x t,t8 x ps]
 | .row E t::ps,d,n::bx,b=>by simp only[mD,gE,fK,t8 x ps]
theorem uE{X:Type}(x:X):∀(ps:List PK)(d:X->gF ps)(a:Nat),(mr ps d a).map (λp=>(p.1,p.2 x))=iI ps (d x) a
 | [],_,_=>rfl
 | .val _::ps,d,a=>by simp only[mr,iI];exact uE x ps d a
 | .agg _::ps,d,a=>by simp only[mr,iI];exact uE x ps d a
 | .own _ _::ps,d,a=>by simp only[mr,iI];exact uE x ps d a
 | .ago _::ps,d,a=>by simp only[mr,iI];exact uE x ps d a
 | .fn _ _::ps,d,a=>by simp only[mr,iI];exact uE x ps d a
 | .nils::ps,d,a=>by simp only[mr,iI];exact uE x ps d a
 | .box E t::ps,d,a=>by simp only[mr,iI,lr,xM x t,uE x ps]
 | .row E t::ps,d,a=>by simp only[mr,iI];exact uE x ps _ a
theorem zC{X:Type}{b0:Nat}(x:X):∀(rs:List RK)(d:X->ju rs)(n:Nat),(pR b0 rs d n).map (λp=>(p.1,p.2 x))=lx b0 rs (d x) n
 | [],_,_=>rfl
 | .val t::rs,d,n=>by simp only[pR,lx];exact zC x rs _ n
 | .agg t::rs,d,n=>by simp only[pR,lx,lr,xM x t,zC x rs]
 | .own E t::rs,d,n=>by simp only[pR,lx,fK,zC x rs]
 | .box E t::rs,d,n=>by simp only[pR,lx,fK,lr,xM x t,zC x rs]
 | .fn _ _::rs,d,n=>by simp only[pR,lx];exact zC x rs _ n
theorem HR{X:Type}(x:X):∀(l:List (Nat×Nm)),(Bd (X:=X) l).map (λp=>(p.1,p.2 x))=l
 | []=>rfl
 | (n,b)::r=>by simp only[Bd,fK,HR x r]
theorem OC{ps:List PK}{rs:List RK}{a:Nat}{fz:List (Nat×Nm)}{bx:List Nat}{cx:List (Option Nat)}(y:ju rs×gF ps):(yS ps rs a fz bx cx).map (λp=>(p.1,p.2 y))=tu ps rs y a fz bx cx:=by
 unfold yS tu
 simp only[lr,t8,zC,uE,HR]
 cases xd ps rs with
 | true=>simp only[HR]
 | false=>rfl
def xF:(o:OT)->(o.X->Prop)->Prop
 | .dat t,k=>xq t k
 | .row _ t,k=>∀ x:List t.D,k x
 | .rowg _ _,k=>k ()
 | .fnc _,k=>k ()
 | .ali,k=>k ()
 | .ref _ o,k=>xF o k
 | .pair a b,k=>xF a λx=>xF b λy=>k (x,y)
theorem xP:∀{o:OT}{k:o.X->Prop},xF o k→∀ d,k d
 | .dat t,k,h,d=>DJ.1 h d
 | .row _ t,k,h,d=>h d
 | .rowg _ _,k,h,d=>h
 | .fnc _,k,h,d=>h
 | .ali,k,h,d=>h
 | .ref _ o,k,h,d=>xP (o:=o) h d
 | .pair a b,k,h,d=>xP (xP (o:=a) h d.1) d.2
def wy:(rs:List RK)->(ju rs->Prop)->Prop
 | [],k=>k ()
 | .val t::r,k=>xq t λx=>wy r λy=>k (x,y)
 | .agg o::r,k=>xF o λx=>wy r λy=>k (x,y)
 | .own _ t::r,k=>∀ x:List t.D,wy r λy=>k (x,y)
 | .box _ o::r,k=>xF o λx=>wy r λy=>k (x,y)
 | .fn _ _::r,k=>wy r λy=>k ((),y)
theorem zc:∀{rs:List RK}{k:ju rs->Prop},wy rs k→∀ d,k d
 | [],k,h,d=>h
 | .val t::r,k,h,d=>zc (rs:=r) (DJ.1 h d.1) d.2
 | .agg o::r,k,h,d=>zc (xP h d.1) d.2
 | .own _ t::r,k,h,d=>zc (h d.1) d.2
 | .box _ o::r,k,h,d=>zc (xP h d.1) d.2
 | .fn _ _::r,k,h,d=>zc (rs:=r) h d.2
def sE:(ps:List PK)->(gF ps->Prop)->Prop
 | [],k=>k ()
 | .val _::r,k=>sE r k
 | .agg _::r,k=>sE r k
 | .own _ _::r,k=>sE r k
 | .ago _::r,k=>sE r k
 | .fn _ _::r,k=>sE r k
 | .nils::r,k=>sE r k
 | .box _ o::r,k=>xF o λx=>sE r λy=>k (x,y)
 | .row _ t::r,k=>∀ x:List t.D,sE r λy=>k (x,y)
theorem uz:∀{ps:List PK}{k:gF ps->Prop},sE ps k→∀ d,k d
 | [],k,h,d=>h
 | .val _::r,k,h,d=>uz (ps:=r) h d
 | .agg _::r,k,h,d=>uz (ps:=r) h d
 | .own _ _::r,k,h,d=>uz (ps:=r) h d
 | .ago _::r,k,h,d=>uz (ps:=r) h d
 | .fn _ _::r,k,h,d=>uz (ps:=r) h d
 | .nils::r,k,h,d=>uz (ps:=r) h d
 | .box _ o::r,k,h,d=>uz (xP h d.1) d.2
 | .row _ t::r,k,h,d=>uz (h d.1) d.2
def QC(rs:List RK)(ps:List PK):Qn (ju rs×gF ps) :=
 ⟨λk=>wy rs λy=>sE ps λz=>k (y,z),λk h x=>uz (zc h x.1) x.2,λk=>∃ x,k x,λ_ h=>h⟩
def Cn.spec(c:Cn):Spec:=λbase svs=>(gV none c.ps svs).bind λp=>match yM p.2.1 p.2.2.1 p.2.2.2 with
 | true=>qg base (gM c.rs+js c.ps) (.nd (ju c.rs×gF c.ps) (QC c.rs c.ps) (c.pre p.1) (c.post p.1) (c.inh p.1) (λy=>qr (jV (p.2.2.1.headD 0) c.rs y.1 base)) (yS c.ps c.rs base p.2.1 p.2.2.1 p.2.2.2))
 | false => .fail
section
variable {w0:World} {N0:fY} {A A' A1 A2:Nat->Prop} {env env1 env':bc} {h h1:bR} {w w1:World}
theorem vY{a b c:Bool}{p:Prop}(h:(a&&b)=true∨p):a=true∨p:=by
 grind
theorem wu{a b:Bool}{p:Prop}(h:(a&&b)=true∨p):b=true∨p:=by
 grind
theorem ac5{al:Bool}{t:OT}{rs:List RK}{a:List SV} {x} (e:mF al (.agg t::rs) a h1=some x):∃ cs r,a = .agg cs::r:=by
 cases a with
 | nil=>cases e
 | cons s r=>cases s <;> first|exact⟨_,_,rfl⟩|cases e
theorem SJ{al:Bool}{E:TypeId}{t:CT}{rs:List RK}{a:List SV} {x} (e:mF al (.own E t::rs) a h1=some x):∃ v r,a=v::r:=by
 cases a with
 | nil=>cases e
 | cons s r=>exact⟨_,_,rfl⟩
theorem Y0{al:Bool}{E:TypeId}{t:OT}{rs:List RK}{a:List SV} {x} (e:mF al (.box E t::rs) a h1=some x):∃ m r,a = .ptr m 0::r:=by
 cases a with
 | nil=>cases e
 | cons s r=>cases s <;> first|cases e;done|(rename_i m o;cases o <;> first|exact⟨_,_,rfl⟩|cases e)
theorem UE{al:Bool}{f:FuncId}{k:Nat}{rs:List RK}{a:List SV} {x} (e:mF al (.fn f k::rs) a h1=some x):∃ g cs r,a = .fn g cs::r:=by
 cases a with
 | nil=>cases e
 | cons s r=>cases s <;> first|exact⟨_,_,_,rfl⟩|cases e
theorem ak8{al:Bool}{E:TypeId}{t:OT}{j:Option Nat}{a:List SV} {x} (e:mi h1 al (.ref E t) j a=some x):∃ b m r,j=some b/\a = .ptr m 0::r:=by
 cases j with
 | none=>cases a <;> cases e
 | some b =>
  cases a with
  | nil=>cases e
  | cons s r=>cases s <;> first|cases e;done|(rename_i m o;cases o <;> first|exact⟨_,_,_,rfl,rfl⟩|cases e)
theorem ac3{al:Bool}{f:FuncId}{j:Option Nat}{a:List SV} {x} (e:mi h1 al (.fnc f) j a=some x):∃ r,a = .fn f []::r/\x=((),r,[],[]):=by
 cases a with
 | nil=>cases e
 | cons s r =>
  cases s <;> first|cases e;done|skip
  rename_i g cs;cases cs <;> first|cases e;done|skip
  simp only[mi] at e;split at e
  .simp_all
  .cases e
theorem ac6{al:Bool}{E:TypeId}{t:CT}{j:Option Nat}{a:List SV} {x} (e:mi h1 al (.rowg E t) j a=some x):∃ v r,a=v::r:=by
 cases a with
 | nil=>cases e
 | cons s r=>exact⟨_,_,rfl⟩
theorem Q8{Nc:fY}(m1:Mod w Nc A1 env1 h1 w1)(hA:∀ b,A1 b->A2 b){E:TypeId}{t:CT}(L:t.plain=true∨∀ b,A2 b->A' b){cs rest:List SV}{vs:List Value}{ys:List t.D}{j:Option Nat}
  (e:ED E t h1 cs=some (ys,rest,j)) (q:aS A1 env1 w1 cs vs) :
  ∃ v f,vs=v::f/\rest=cs.drop 1/\aS A1 env1 w1 rest f∧∀(g:bc)(i:Nat),g i=oU env1 j->aB A' g w1 (.own i t.size) v/\jA A' env1 h1 g w1 [j] [(i,.live (.row E t ys))] i:=by
 cases cs with
 | nil=>cases e
 | cons s cs =>
 cases s with
 | own n sz =>
  simp only[ED] at e;split at e
  .rename_i E' t' xs r;split at e
   .rename_i zs l d hc;have l:=bJ l;subst l;have d:=bJ d;subst d;obtain⟨et,ez⟩:=jC hc;subst et;subst ez;obtain⟨rfl,rfl,rfl⟩:=e;obtain⟨x,f,rfl,hv,m⟩:=q;have o:=m1.nm n;rw[r] at o;refine⟨x,f,rfl,rfl,m,λg i c=>⟨?_,⟨rfl,_,rfl,rfl,.inl ⟨n,_,rfl,r,rfl,λk len c=>?_,λc=>?_⟩⟩,trivial⟩⟩
    .simp only[oU] at c;simp only[aB];rw[c];exact hv
    .rcases o with⟨k',h,a,p,_⟩|⟨a,_⟩
     .rw[c] at a;cases a;obtain⟨us,cap,g1,g2,g3,g4,g5,g6⟩:=p;exact⟨us,cap,g1,g2,g3,g4,g5,λi hi=>Dj L (iC hA (λ_ _ _=>rfl) _ _ _ _ _ (λ_ _=>rfl) (g6 i hi))⟩
     .rw[c] at a;cases a
    .rcases o with⟨k',h,a,p,_⟩|⟨a,E2,t2,p⟩
     .rw[c] at a;cases a
     .simp_all
   .cases e
  .cases e
 | nilsl =>
  obtain⟨rfl,rfl,rfl⟩:=e;obtain⟨x,f,rfl,rfl,m⟩:=q;refine⟨_,f,rfl,rfl,m,λg i c=>⟨?_,⟨rfl,_,rfl,rfl,.inr ⟨rfl,_,_,rfl⟩⟩,trivial⟩⟩;exact .inl ⟨c,_,rfl⟩
 | _=>cases e
def pG(A':Nat->Prop)(env1:bc)(h1:bR)(env':bc)(w1:World)(bx:List Nat)(j:Nat)(n:Nat)(x:Nm):Prop :=
 ∃ i b b0,bx[i]? = some n/\x = .live b/\b.mut=true/\h1 (PN+(j+i)) = .live b0/\b0.mut=true/\(∀ k len,env1 (PN+(j+i)) = .blk k len->jK A' env' w1 k len b)/\(env1 (PN+(j+i)) = .nil→∃ E t,b = .row E t [])
theorem pG.shift{pre bx:List Nat}{j n:Nat}{x:Nm}(h:pG A' env1 h1 env' w1 bx (j+pre.length) n x):pG A' env1 h1 env' w1 (pre++bx) j n x:=by
 obtain⟨i,b,b0,g1,g2,g3,a,g5,c,d⟩:=h
 rw[show j+pre.length+i=j+(pre.length+i) from by omega] at a c d
 exact⟨pre.length+i,b,b0,by rw[kr (by omega),kL];exact g1,g2,g3,a,g5,c,d⟩
theorem pG.grow{bx post:List Nat}{j n:Nat}{x:Nm}(h:pG A' env1 h1 env' w1 bx j n x):pG A' env1 h1 env' w1 (bx++post) j n x:=by
 obtain⟨i,b,b0,a,g2⟩:=h
 exact⟨i,b,b0,by rw[kA (List.getElem?_eq_some_iff.1 a).1];exact a,g2⟩
theorem IC{al:Bool}:∀(o:OT)(cs:List SV) {x},mi h1 al o none cs=some x->o.nb=0
 | .dat t,_,_,_=>rfl
 | .row _ t,_,_,_=>rfl
 | .rowg _ t,_,_,_=>rfl
 | .fnc _,_,_,_=>rfl
 | .ali,_,_,_=>rfl
 | .pair a b,cs,x,e=>by
  simp only[mi] at e;split at e
  .rename_i c;split at e
   next d=>have k1:=IC a _ c;have k2:=IC b _ d;simp only[OT.nb];omega
   .cases e
  .cases e
theorem T5{al:Bool}{j:Option Nat}{a:List SV} {x} (e:mi h1 al .ali j a=some x):∃ r,a = .ptr PN 0::r/\al=true/\x=((),r,[],[]):=by
 cases a with
 | nil=>cases e
 | cons s r =>
  cases s with
  | ptr m off=>cases off with
   | zero =>
    have e:(match (generalizing:=false) al,Nat.beq m PN with|true,true=>(some ((),r,[],[]):Option (Unit×List SV×List (Nat×Nm)×List (Option Nat)))|_,_=>none)=some x:=by
     cases j <;> exact e
    cases hb:Nat.beq m PN with
    | false=>rw[hb] at e;cases al <;> cases e
    | true =>
     cases al with
     | false=>cases e
     | true =>
      simp_all
   | succ k=>cases e
  | _=>cases e
theorem zH{al:Bool}{Nc:fY}(m1:Mod w Nc A1 env1 h1 w1)(hA:∀ b,A1 b->A2 b)(b0:Nat):∀(o:OT)(j:Option Nat)(cs:List SV)(vs:List Value)(x:o.X)(rest:List SV)(fz:List (Nat×Nm))(ow:List (Option Nat))(bx more:List Nat)(n:Nat),
  mi h1 al o j cs=some (x,rest,fz,ow)->aS A1 env1 w1 cs vs->(∀ k,gT env1 fz k->A2 k)->(o.plain=true∨∀ b,A2 b->A' b)->(j=none∨bx.length=o.nb) →
  nu h1 fz/\ow.length=o.nr∧∃ us rs,vs=us++rs/\aS A1 env1 w1 rest rs ∧
   ((al=true->env' b0=env1 PN)->(∀ k q,ow[k]? = some q->env' (n+k)=oU env1 q)->(∀ j0 k q,j=some j0->bx[k]? = some q->env' q=env1 (PN+(j0+k))) →
     aS A' env' w1 (mZ b0 o x (bx++more) n) us/\jA A' env1 h1 env' w1 ow (ry o x n) n/\(∀ q y,(q,y)∈lN b0 o x (bx++more) n→∃ j0,j=some j0/\pG A' env1 h1 env' w1 bx j0 q y) ∧
     (j≠none→∀ q,q∈bx->q∈(lN b0 o x (bx++more) n).map (·.1)))
 | .dat t,j,cs,vs,x,rest,fz,ow,bx,more,n,e,hd,hF,L,hbl=>by
  simp only[mi] at e;split at e
  .rename_i x1 r1 f1 q1 hp;simp only[bp,br] at e;obtain⟨rfl,rfl,rfl,rfl⟩:=e;obtain⟨p1,p2,p3,p4,p5⟩:=qN m1 t cs vs x1 r1 f1 _ hp hd hA hF;refine⟨p1,rfl,vs.take t.size,vs.drop t.size,(mw _ _).symm,p5,λ_ _ _=>⟨?_,trivial,λq y hh=>by simp[lN] at hh,λhj q hq=>?_⟩⟩
   .simp only[mZ];refine CC (by rw[cW];omega) (Dj L ?_);refine iC (λ_ h=>h) (λ_ _ _=>rfl) t _ _ _ _ (λk hk=>?_) p4;simp only[gz,ot];rw[am hk]
   .rcases hbl with hbl|hbl
    .exact absurd hbl hj
    .rw[List.length_eq_zero_iff.1 hbl] at hq;cases hq
  .cases e
 | .row E t,j,cs,vs,x,rest,fz,ow,bx,more,n,e,hd,hF,L,hbl=>by
  simp only[mi] at e;split at e
  .rename_i x1 r1 o1 hp;simp only[bp,br] at e;obtain⟨rfl,rfl,rfl,rfl⟩:=e;obtain⟨v,vr,rfl,-,p2,p3⟩:=Q8 (A':=A') m1 hA L hp hd;refine⟨λn b hh=>by simp at hh,rfl,[v],vr,rfl,p2,λ_ ho _=>?_⟩;obtain⟨k1,k2⟩:=p3 env' n (ho 0 _ rfl);refine⟨?_,k2,λq y hh=>by simp[lN] at hh,λhj q hq=>?_⟩
   .simp only[mZ,aS];exact⟨v,[],rfl,k1,rfl⟩
   .rcases hbl with hbl|hbl
    .exact absurd hbl hj
    .rw[List.length_eq_zero_iff.1 hbl] at hq;cases hq
  .cases e
 | .rowg E t,j,cs0,vs,x,rest,fz,ow,bx,more,n,e,hd,hF,L,hbl=>by
  obtain⟨v,cs,rfl⟩:=ac6 e;simp only[mi,bp,br] at e;obtain⟨-,rfl,rfl,rfl⟩:=e;simp only[aS] at hd;obtain⟨u,vr,rfl,hu,hvr⟩:=hd;refine⟨λn b hh=>by simp at hh,rfl,[u],vr,rfl,hvr,λ_ ho _=>⟨?_,trivial,λq y hh=>by simp[lN] at hh,λhj q hq=>?_⟩⟩
  .simp only[mZ,aS,aB];exact⟨u,[],rfl,trivial,rfl⟩
  .rcases hbl with hbl|hbl
   .exact absurd hbl hj
   .rw[List.length_eq_zero_iff.1 hbl] at hq;cases hq
 | .fnc f,j,cs0,vs,x,rest,fz,ow,bx,more,n,e,hd,hF,L,hbl=>by
  obtain⟨cs,rfl,e2⟩:=ac3 e;simp only[br] at e2;obtain⟨-,rfl,rfl,rfl⟩:=e2;simp only[aS] at hd;obtain⟨u,vr,rfl,hu,hvr⟩:=hd;refine⟨λn b hh=>by simp at hh,rfl,[u],vr,rfl,hvr,λ_ ho _=>⟨?_,trivial,λq y hh=>by simp[lN] at hh,λhj q hq=>?_⟩⟩
  .simp only[mZ,aS];simp only[aB,aS] at hu;refine⟨u,[],rfl,?_,rfl⟩;simp only[aB,aS];exact hu
  .rcases hbl with hbl|hbl
   .exact absurd hbl hj
   .rw[List.length_eq_zero_iff.1 hbl] at hq;cases hq
 | .ali,j,cs0,vs,x,rest,fz,ow,bx,more,n,e,hd,hF,L,hbl=>by
  obtain⟨cs,rfl,hj0,e2⟩:=T5 e;simp only[br] at e2;obtain⟨-,rfl,rfl,rfl⟩:=e2;simp only[aS,aB] at hd;obtain⟨u,vr,rfl,⟨k,len,hek,rfl⟩,hvr⟩:=hd;refine⟨λn b hh=>by simp at hh,rfl,[_],vr,rfl,hvr,λhb0 ho _=>⟨?_,trivial,λq y hh=>by simp[lN] at hh,λhj q hq=>?_⟩⟩
  .simp only[mZ,aS,aB];exact⟨_,[],rfl,⟨k,len,by rw[hb0 hj0];exact hek,rfl⟩,rfl⟩
  .rcases hbl with hbl|hbl
   .exact absurd hbl hj
   .rw[List.length_eq_zero_iff.1 hbl] at hq;cases hq
 | .ref E o,j,cs0,vs,x,rest,fz,ow,bx,more,n,e,hd,hF,L,hbl=>by
  obtain⟨j0,m,cs,rfl,rfl⟩:=ak8 e;simp only[mi] at e;split at e
  .rename_i E' cs' hm hl;have hm:=bJ hm;subst hm;split at e
   .rename_i x1 f1 w1' hE hp;have hE:=bJ hE;subst hE;simp only[bp,br] at e;obtain⟨rfl,rfl,rfl,rfl⟩:=e;simp only[aS,aB] at hd;obtain⟨u,vr,rfl,⟨kb,lb,hkb,rfl⟩,hvr⟩:=hd;obtain⟨⟨us,hus,hdu⟩,_⟩:=m1.live_blk hl hkb;cases bx with
    | nil=>rcases hbl with hbl|hbl <;> cases hbl
    | cons q0 bx =>
    have hbl':bx.length=o.nb:=by
     rcases hbl with hbl|hbl
     .cases hbl
     .simpa[OT.nb] using hbl
    obtain⟨s1,s2,us',rs',s5,s6,s7⟩:=zH m1 hA b0 o (some (j0+1)) cs' us.toList x1 [] f1 w1' bx more n hp hdu hF L (.inr hbl');simp only[aS] at s6;subst s6;rw[ke] at s5;subst s5;refine⟨s1,s2,[_],vr,rfl,hvr,λh0b ho hb=>?_⟩;have h0:=hb j0 0 q0 rfl rfl;rw[iL] at h0;obtain⟨k1,k2,k3,k4⟩:=s7 h0b ho (λj1 k q hj hq=>by
     cases hj;have:=hb j0 (k+1) q rfl (by simpa using hq)
     rwa [show j0+(k+1)=j0+1+k from by omega] at this)
    refine⟨?_,k2,λq y hh=>?_,λ_ q hq=>?_⟩
    .simp only[mZ,jS,aS,aB];exact⟨_,[],rfl,⟨kb,lb,by rw[h0];exact hkb,rfl⟩,rfl⟩
    .simp only[lN,jS] at hh;rcases dj.1 hh with hh|hh
     .cases hh;refine⟨j0,rfl,0,_,_,rfl,rfl,rfl,hl,rfl,λk len he=>?_,λhe=>?_⟩
      .rw[iL,hkb] at he;cases he;exact⟨us,hus,k1⟩
      .rw[iL,hkb] at he;cases he
     .obtain⟨j1,hj1,hbx⟩:=k3 q y hh;cases hj1;exact⟨j0,rfl,pG.shift (pre:=[q0]) hbx⟩
    .simp only[lN,jS,fK];rcases dj.1 hq with rfl|hq
     .exact fF ..
     .exact fw _ (k4 (by simp) q hq)
   .cases e
  .cases e
 | .pair a b,j,cs,vs,x,rest,fz,ow,bx,more,n,e,hd,hF,L,hbl=>by
  simp only[mi] at e;split at e
  .rename_i x1 r1 f1 o1 h1';split at e
   .rename_i x2 r2 f2 o2 h2';simp only[bp,br] at e;obtain⟨rfl,rfl,rfl,rfl⟩:=e;have hF1:∀ k,gT env1 f1 k->A2 k:=λk ⟨n,x,l,hx,he⟩=>hF k ⟨n,x,l,g7 _ hx,he⟩;have hF2:∀ k,gT env1 f2 k->A2 k:=λk ⟨n,x,l,hx,he⟩=>hF k ⟨n,x,l,jd _ hx,he⟩;have La:a.plain=true∨∀ b,A2 b->A' b:=vY (c:=true) L;have Lb:b.plain=true∨∀ b,A2 b->A' b:=wu L;have hla:j=none∨(bx.take a.nb).length=a.nb:=by
     rcases hbl with hbl|hbl
     .exact .inl hbl
     .simp only[OT.nb] at hbl;exact .inr (by rw[cW];omega)
    have hlb:j.map (· + a.nb)=none∨(bx.drop a.nb).length=b.nb:=by
     rcases hbl with hbl|hbl
     .exact .inl (by rw[hbl];rfl)
     .simp only[OT.nb] at hbl;exact .inr (by rw[dR];omega)
    obtain⟨s1,s2,us,rs,rfl,s6,s7⟩:=zH m1 hA b0 a j cs vs x1 r1 f1 o1 (bx.take a.nb) (bx.drop a.nb++more) n h1' hd hF1 La hla;obtain⟨t1,t2,us',rs',rfl,t6,t7⟩:=zH m1 hA b0 b (j.map (· + a.nb)) r1 rs x2 r2 f2 o2 (bx.drop a.nb) more (n+a.nr) h2' s6 hF2 Lb hlb;refine⟨λn b hh=>?_,by simp only[cD,s2,t2,OT.nr],us++us',rs',by rw[iN],t6,λh0b ho hb=>?_⟩
    .rcases dH.1 hh with hh|hh
     .exact s1 n b hh
     .exact t1 n b hh
    have eb:bx.take a.nb++(bx.drop a.nb++more)=bx++more:=by rw[← iN,mw]
    obtain⟨k1,k2,k3,k4⟩:=s7 h0b (λk q hq=>ho k q (by rw[kA (List.getElem?_eq_some_iff.1 hq).1];exact hq))
     (λj0 k q hj hq=>by
      refine hb j0 k q hj ?_;rw[ot] at hq;split at hq
      .exact hq
      .cases hq)
    obtain⟨l1,l2,l3,l4⟩:=t7 h0b (λk q hq=>by
      have:=ho (a.nr+k) q (by rw[kr (by omega),s2,kL];exact hq)
      rwa [show n+(a.nr+k)=n+a.nr+k from by omega] at this)
     (λj1 k q hj hq=>by
      cases j with
      | none=>cases hj
      | some j0 =>
       simp only[Option.map_some,bp] at hj;subst hj;rw[pD] at hq;have:=hb j0 (a.nb+k) q rfl hq
       rwa [show j0+(a.nb+k)=j0+a.nb+k from by omega] at this)
    rw[eb] at k1 k3 k4;have ed:(bx++more).drop a.nb=bx.drop a.nb++more:=by
     rcases hbl with hbl|hbl
     .subst hbl;rw[IC a _ h1',List.drop_zero,List.drop_zero]
     .simp only[OT.nb] at hbl;rw[List.drop_append_of_le_length (by omega)]
    have tl:∀ j0,j=some j0->(bx.take a.nb).length=a.nb:=λj0 hj=>by
     rcases hla with h|h
     .rw[hj] at h;cases h
     .exact h
    rw[← ed] at l1 l3 l4;simp only[mZ,lN,ry];refine⟨tC k1 l1,k2.append (by rw[s2];exact l2),λq y hh=>?_,λhj q hq=>?_⟩
    .rcases dH.1 hh with hh|hh
     .obtain⟨j0,hj,hx⟩:=k3 q y hh;refine⟨j0,hj,?_⟩;have:=hx.grow (post:=bx.drop a.nb)
      rwa [mw] at this
     .obtain⟨j1,hj1,hx⟩:=l3 q y hh;cases j with
      | none=>cases hj1
      | some j0 =>
       simp only[Option.map_some,bp] at hj1;subst hj1;refine⟨j0,rfl,?_⟩;have:=pG.shift (pre:=bx.take a.nb) (bx:=bx.drop a.nb) (j:=j0) (n:=q) (x:=y) (by rw[tl j0 rfl];exact hx)
       rwa [mw] at this
    .rw[lr];rw[← mw a.nb bx] at hq;rcases dH.1 hq with hq|hq
     .exact g7 _ (k4 hj q hq)
     .exact jd _ (l4 (by cases j with|none=>exact absurd rfl hj|some j0=>simp) q hq)
   .cases e
  .cases e
theorem BY{b0:Nat}:∀{o:OT}{x:o.X}{bx more:List Nat}{n:Nat},bx.length=o.nb→∀ q,q∈bx->q∈(lN b0 o x (bx++more) n).map (·.1)
 | .dat _,x,bx,more,n,d,q,c=>by rw[List.length_eq_zero_iff.1 d] at c;cases c
 | .row _ _,x,bx,more,n,d,q,c=>by rw[List.length_eq_zero_iff.1 d] at c;cases c
 | .rowg _ _,x,bx,more,n,d,q,c=>by rw[List.length_eq_zero_iff.1 d] at c;cases c
 | .fnc _,x,bx,more,n,d,q,c=>by rw[List.length_eq_zero_iff.1 d] at c;cases c
 | .ali,x,bx,more,n,d,q,c=>by rw[List.length_eq_zero_iff.1 d] at c;cases c
 | .ref E o,x,q0::bx,more,n,d,q,c=>by
  simp only[jS,lN,fK];rcases dj.1 c with rfl|c
  .simp_all
  .exact fw _ (BY (o:=o) (by simpa[OT.nb] using d) q c)
 | .pair a b,x,bx,more,n,d,q,c=>by
  simp only[OT.nb] at d;simp only[lN,lr];rw[← mw a.nb bx] at c;have e1:bx++more=bx.take a.nb++(bx.drop a.nb++more):=by rw[← iN,mw]
  rcases dH.1 c with c|c
  .refine g7 _ ?_;rw[e1];exact BY (by rw[cW];omega) q c
  .refine jd _ ?_;rw[List.drop_append_of_le_length (by omega)];exact BY (by rw[dR];omega) q c
theorem wP{al:Bool}{Nc:fY}(m1:Mod w Nc A1 env1 h1 w1)(hA:∀ b,A1 b->A2 b)(b0:Nat):∀(rs:List RK)(d:ju rs)(svs:List SV)(vs:List Value)(fz:List (Nat×Nm))(ow:List (Option Nat))(n:Nat),
  mF al rs svs h1=some (d,fz,ow)->aS A1 env1 w1 svs vs->(∀ k,gT env1 fz k->A2 k)->(tO rs=true∨∀ b,A2 b->A' b) →
  nu h1 fz/\ow.length=gM rs/\((al=true->env' b0=env1 PN)->(∀ i o,ow[i]? = some o->env' (n+i)=oU env1 o)->aS A' env' w1 (jV b0 rs d n) vs/\jA A' env1 h1 env' w1 ow (lx b0 rs d n) n)
 | [],d,[],vs,fz,ow,n,e,hd,hF,L=>by
  simp only[mF,bp,br] at e;obtain⟨-,rfl,rfl⟩:=e;exact⟨λn b hh=>by simp at hh,rfl,λ_ _=>⟨by simpa[jV,aS] using hd,trivial⟩⟩
 | .val t::rs,d,v::svs,vs,fz,ow,n,e,hd,hF,L=>by
  simp only[mF] at e;split at e
  .rename_i x f1 q hp;split at e
   .rename_i ps f2 o hr;simp only[bp,br] at e;obtain⟨rfl,rfl,rfl⟩:=e;simp only[aS] at hd;obtain⟨u,vr,rfl,hu,hvr⟩:=hd;have hF1:∀ k,gT env1 f1 k->A2 k:=λk ⟨n,x,l,hx,he⟩=>hF k ⟨n,x,l,g7 _ hx,he⟩;have hF2:∀ k,gT env1 f2 k->A2 k:=λk ⟨n,x,l,hx,he⟩=>hF k ⟨n,x,l,jd _ hx,he⟩;obtain⟨p1,_,p3,p4,_⟩:=qN m1 t [v] [u] x [] f1 _ hp (by simp only[aS];exact⟨u,[],rfl,hu,rfl⟩) hA hF1;obtain⟨s1,s2,s3⟩:=wP m1 hA b0 rs ps svs vr f2 o n hr hvr hF2 (wu L);refine⟨λn b hh=>?_,s2,λhal he=>?_⟩
    .rcases dH.1 hh with hh|hh
     .exact p1 n b hh
     .exact s1 n b hh
    .obtain⟨k1,k2⟩:=s3 hal he;refine⟨?_,k2⟩;simp only[jV,aS];exact⟨u,vr,rfl,Jj (rest:=[]) (Dj (vY (c:=true) L) p4),k1⟩
   .cases e
  .cases e
 | .agg t::rs,d,svs0,vs,fz,ow,n,e,hd,hF,L=>by
  obtain⟨cs,svs,rfl⟩:=ac5 e;simp only[mF] at e;split at e
  .rename_i x f1 w' hp;split at e
   .rename_i ps f2 o hr;simp only[bp,br] at e;obtain⟨rfl,rfl,rfl⟩:=e;simp only[aS,aB] at hd;obtain⟨u,vr,rfl,⟨us,rfl,hu⟩,hvr⟩:=hd;have hF1:∀ k,gT env1 f1 k->A2 k:=λk ⟨n,x,l,hx,he⟩=>hF k ⟨n,x,l,g7 _ hx,he⟩;have hF2:∀ k,gT env1 f2 k->A2 k:=λk ⟨n,x,l,hx,he⟩=>hF k ⟨n,x,l,jd _ hx,he⟩;obtain⟨p1,p2,us',rs',p3,p4,p5⟩:=zH (env':=env') m1 hA b0 t none cs us.toList x [] f1 w' [] [] n hp hu hF1 (vY (c:=true) L) (.inl rfl);simp only[aS] at p4;subst p4;rw[ke] at p3;subst p3;obtain⟨s1,s2,s3⟩:=wP m1 hA b0 rs ps svs vr f2 o (n+t.nr) hr hvr hF2 (wu L);refine⟨λn b hh=>?_,by simp only[cD,p2,s2,gM];omega,λhal he=>?_⟩
    .rcases dH.1 hh with hh|hh
     .exact p1 n b hh
     .exact s1 n b hh
    .obtain⟨l1,l2,_⟩:=p5 hal (λk q hq=>he k q (by rw[kA (List.getElem?_eq_some_iff.1 hq).1];exact hq)) (λj0 k q hj _=>by cases hj);obtain⟨k1,k2⟩:=s3 hal (λk q hq=>by
      have:=he (t.nr+k) q (by rw[kr (by omega),p2,kL];exact hq)
      rwa [show n+(t.nr+k)=n+t.nr+k from by omega] at this)
     simp only[jV,lx,aS,aB];exact⟨⟨_,vr,rfl,⟨us,rfl,l1⟩,k1⟩,l2.append (by rw[p2];exact k2)⟩
   .cases e
  .cases e
 | .own E t::rs,d,svs0,vs,fz,ow,n,e,hd,hF,L=>by
  obtain⟨v,svs,rfl⟩:=SJ e;simp only[mF] at e;split at e
  .rename_i x r1 w' hp;split at e
   next ps f2 o hr=>simp only[bp,br] at e;obtain⟨rfl,rfl,rfl⟩:=e;simp only[aS] at hd;obtain⟨u,vr,rfl,hu,hvr⟩:=hd;obtain⟨v',vr',p1,-,-,p3⟩:=Q8 (A':=A') m1 hA (vY (c:=true) L) hp (vs:=[u]) (by simp only[aS];exact⟨u,[],rfl,hu,rfl⟩);cases p1;obtain⟨s1,s2,s3⟩:=wP m1 hA b0 rs ps svs vr f2 o (n+1) hr hvr hF (wu L);refine⟨s1,by simp only[cQ,s2,gM],λhal he=>?_⟩;obtain⟨l1,l2⟩:=p3 env' n (he 0 _ rfl);obtain⟨k1,k2⟩:=s3 hal (λk q hq=>by have:=he (k+1) q (by simpa using hq);rwa [show n+(k+1)=n+1+k from by omega] at this);simp only[jV,lx,aS];exact⟨⟨u,vr,rfl,l1,k1⟩,l2.1,k2⟩
   .cases e
  .cases e
 | .box E t::rs,d,svs0,vs,fz,ow,n,e,hd,hF,L=>by
  obtain⟨q,svs,rfl⟩:=Y0 e;simp only[mF] at e;split at e
  .rename_i E' cs hl;split at e
   .rename_i x f1 w' hE hp;have hE:=bJ hE;subst hE;split at e
    .rename_i ps f2 o hr;simp only[bp,br] at e;obtain⟨rfl,rfl,rfl⟩:=e;simp only[aS,aB] at hd;obtain⟨u,vr,rfl,⟨kb,lb,hkb,rfl⟩,hvr⟩:=hd;obtain⟨⟨us,hus,hdu⟩,_⟩:=m1.live_blk hl hkb;have hF1:∀ k,gT env1 f1 k->A2 k:=λk ⟨n,x,l,hx,he⟩=>hF k ⟨n,x,l,g7 _ hx,he⟩;have hF2:∀ k,gT env1 f2 k->A2 k:=λk ⟨n,x,l,hx,he⟩=>hF k ⟨n,x,l,jd _ hx,he⟩;obtain⟨p1,p2,us',rs',p3,p4,p5⟩:=zH (env':=env') m1 hA b0 t none cs us.toList x [] f1 w' [] [] (n+1) hp hdu hF1 (vY (c:=true) L) (.inl rfl);simp only[aS] at p4;subst p4;rw[ke] at p3;subst p3;obtain⟨s1,s2,s3⟩:=wP m1 hA b0 rs ps svs vr f2 o (n+1+t.nr) hr hvr hF2 (wu L);refine⟨λn b hh=>?_,by simp only[cQ,cD,p2,s2,gM];omega,λhal he=>?_⟩
     .rcases dH.1 hh with hh|hh
      .exact p1 n b hh
      .exact s1 n b hh
     .have h0:=he 0 (some q) rfl;simp only[iL,oU] at h0;have he':∀ k q',(w'++o)[k]? = some q'→env' (n+1+k)=oU env1 q':=λk q' hq=>by
       have:=he (k+1) q' (by simpa using hq);rwa [show n+(k+1)=n+1+k from by omega] at this
      obtain⟨l1,l2,_⟩:=p5 hal (λk q hq=>he' k q (by rw[kA (List.getElem?_eq_some_iff.1 hq).1];exact hq)) (λj0 k q hj _=>by cases hj);obtain⟨k1,k2⟩:=s3 hal (λk q hq=>by
       have:=he' (t.nr+k) q (by rw[kr (by omega),p2,kL];exact hq)
       rwa [show n+1+(t.nr+k)=n+1+t.nr+k from by omega] at this)
      simp only[jV,lx,aS,aB];refine⟨⟨_,vr,rfl,⟨kb,lb,by rw[h0];exact hkb,rfl⟩,k1⟩,⟨rfl,_,rfl,rfl,.inl ⟨q,_,rfl,hl,rfl,λk len hk=>?_,λhk=>?_⟩⟩,l2.append (by rw[p2];exact k2)⟩
      .rw[hkb] at hk;cases hk;exact⟨us,hus,l1⟩
      .rw[hkb] at hk;cases hk
    .cases e
   .cases e
  .cases e
 | .fn f k::rs,d,svs0,vs,fz,ow,n,e,hd,hF,L=>by
  obtain⟨g,cs,svs,rfl⟩:=UE e;simp only[mF] at e;split at e
  .rename_i hf hk;have hf:=bJ hf;have hk:=bJ hk;subst hf;split at e
   .rename_i ps f2 o hr;simp only[bp,br] at e;obtain⟨rfl,rfl,rfl⟩:=e;simp only[aS,aB] at hd;obtain⟨x,vr,rfl,⟨us,rfl,hu⟩,hvr⟩:=hd;have hul:=jg hu;obtain⟨s1,s2,s3⟩:=wP m1 hA b0 rs ps (cs++svs) (us.toList++vr) f2 o n hr (tC hu hvr) hF L;refine⟨s1,s2,λhal he=>?_⟩;obtain⟨k1,k2⟩:=s3 hal he;refine⟨?_,k2⟩;simp only[jV,aS,aB];refine⟨_,vr,rfl,⟨us,rfl,?_⟩,?_⟩
    .have:=AD k k1
     rwa [List.take_left' (by omega)] at this
    .have:=AT k k1
     rwa [List.drop_left' (by omega)] at this
   .cases e
  .cases e
 | [],_,_::_,_,_,_,_,e,_,_,_=>by cases e
 | .val _::_,_,[],_,_,_,_,e,_,_,_=>by cases e
def jn:List PK->Nat
 | []=>0
 | .val _::r=>jn r
 | .agg _::r=>jn r
 | .own _ _::r=>jn r
 | .ago _::r=>jn r
 | .fn _ _::r=>jn r
 | .nils::r=>jn r
 | .box _ o::r=>o.nb+jn r+1
 | .row _ _::r=>jn r+1
theorem Ch:∀{o:OT}{d:o.D}{j i:Nat},(vX o d j i).length=o.nb
 | .dat _,_,_,_=>rfl
 | .row _ _,_,_,_=>rfl
 | .rowg _ _,_,_,_=>rfl
 | .fnc _,_,_,_=>rfl
 | .ali,_,_,_=>rfl
 | .ref _ o,d,j,i=>by simp only[vX,cQ,Ch (o:=o),OT.nb]
 | .pair a b,d,j,i=>by simp only[vX,cD,Ch,Ch,OT.nb]
theorem uk:∀{ps:List PK}{d:bu ps}{j i:Nat},(pc ps d j i).length=jn ps
 | [],_,_,_=>rfl
 | .val t::ps,d,j,i=>uk (ps:=ps)
 | .agg t::ps,d,j,i=>uk (ps:=ps)
 | .own _ t::ps,d,j,i=>uk (ps:=ps)
 | .ago _::ps,d,j,i=>uk (ps:=ps)
 | .fn _ _::ps,d,j,i=>uk (ps:=ps)
 | .nils::ps,d,j,i=>uk (ps:=ps)
 | .box E o::ps,d,j,i=>by simp only[pc,cQ,cD,Ch,uk,jn]
 | .row E t::ps,d,j,i=>by simp only[pc,cQ,uk,jn]
theorem tJ{Nc:fY}(m1:Mod w Nc A1 env1 h1 w1)(hA:∀ b,A1 b->A2 b)(b0:Nat):∀(ps:List PK)(d:gF ps)(fz:List (Nat×Nm))(ow:List (Option Nat))(bx:List Nat)(j n:Nat),
  lQ ps j h1=some (d,fz,ow)->(∀ k,gT env1 fz k->A2 k)->(me ps=true∨∀ b,A2 b->A' b)->bx.length=jn ps →
  nu h1 fz/\ow.length=js ps/\((bx≠[]->env' b0=env1 PN)->(∀ k q,ow[k]? = some q->env' (n+k)=oU env1 q)->(∀ k q,bx[k]? = some q->env' q=env1 (PN+(j+k))) →
   jA A' env1 h1 env' w1 ow (iI ps d n) n/\(∀ q x,(q,x)∈gE b0 ps d bx n->pG A' env1 h1 env' w1 bx j q x))∧∀ q,q∈bx->q∈(gE b0 ps d bx n).map (·.1)
 | [],d,fz,ow,bx,j,n,e,hF,L,hl=>by
  simp only[lQ,bp,br] at e;obtain⟨-,rfl,rfl⟩:=e;simp only[jn,List.length_eq_zero_iff] at hl;subst hl;exact⟨λn b hh=>by simp at hh,rfl,λ_ _ _=>⟨trivial,λq x hh=>by simp[gE] at hh⟩,λq hh=>by simp at hh⟩
 | .val t::ps,d,fz,ow,bx,j,n,e,hF,L,hl=>by
  simp only[gE,iI,js];exact tJ m1 hA b0 ps d fz ow bx j n (by simpa only[lQ] using e) hF (by simpa only[me] using L) (by simpa only[jn] using hl)
 | .agg t::ps,d,fz,ow,bx,j,n,e,hF,L,hl=>by
  simp only[gE,iI,js];exact tJ m1 hA b0 ps d fz ow bx j n (by simpa only[lQ] using e) hF (by simpa only[me] using L) (by simpa only[jn] using hl)
 | .own _ t::ps,d,fz,ow,bx,j,n,e,hF,L,hl=>by
  simp only[gE,iI,js];exact tJ m1 hA b0 ps d fz ow bx j n (by simpa only[lQ] using e) hF (by simpa only[me] using L) (by simpa only[jn] using hl)
 | .ago _::ps,d,fz,ow,bx,j,n,e,hF,L,hl=>by
  simp only[gE,iI,js];exact tJ m1 hA b0 ps d fz ow bx j n (by simpa only[lQ] using e) hF (by simpa only[me] using L) (by simpa only[jn] using hl)
 | .fn _ _::ps,d,fz,ow,bx,j,n,e,hF,L,hl=>by
  simp only[gE,iI,js];exact tJ m1 hA b0 ps d fz ow bx j n (by simpa only[lQ] using e) hF (by simpa only[me] using L) (by simpa only[jn] using hl)
 | .nils::ps,d,fz,ow,bx,j,n,e,hF,L,hl=>by
  simp only[gE,iI,js];exact tJ m1 hA b0 ps d fz ow bx j n (by simpa only[lQ] using e) hF (by simpa only[me] using L) (by simpa only[jn] using hl)
 | .box E o::ps,d,fz,ow,bx,j,n,e,hF,L,hl=>by
  cases bx with
  | nil=>simp[jn] at hl
  | cons n0 bx =>
  simp only[lQ] at e;split at e
  .rename_i E' cs hlk;split at e
   .rename_i x f1 w' hE hp;have hE:=bJ hE;subst hE;split at e
    .rename_i ps' f2 ow2 hr;simp only[bp,br] at e;obtain⟨rfl,rfl,rfl⟩:=e;simp only[cQ,jn] at hl;have hF1:∀ k,gT env1 f1 k->A2 k:=λk ⟨n,x,l,hx,he⟩=>hF k ⟨n,x,l,g7 _ hx,he⟩;have hF2:∀ k,gT env1 f2 k->A2 k:=λk ⟨n,x,l,hx,he⟩=>hF k ⟨n,x,l,jd _ hx,he⟩;have hlt:(bx.take o.nb).length=o.nb:=by rw[cW];omega
     have eb:bx.take o.nb++bx.drop o.nb=bx:=mw ..;obtain⟨s1,s2,s3,s4⟩:=tJ m1 hA b0 ps ps' f2 ow2 (bx.drop o.nb) (j+1+o.nb) (n+o.nr) hr hF2 (wu L) (by rw[dR];omega);have hm:=m1.nm (PN+j);rw[hlk] at hm;have hbd:∃ kb lb us,env1 (PN+j) = .blk kb lb/\w1.heap[kb]? = some (.cells us E (0,0))/\aS A1 env1 w1 cs us.toList:=by
      rcases hm with⟨k',len',he',⟨us,hus,hdu⟩,_⟩|⟨he',_,_,hb|hb⟩
      .exact⟨k',len',us,he',hus,hdu⟩
      .cases hb
      .cases hb
     obtain⟨kb,lb,us,hkb,hus,hdu⟩:=hbd;obtain⟨p1,p2,us',rs',p3,p4,p5⟩:=zH (al:=true) (env':=env') m1 hA b0 o (some (j+1)) cs us.toList x [] f1 w' (bx.take o.nb) (bx.drop o.nb) n hp hdu hF1 (vY (c:=true) L) (.inr hlt);simp only[aS] at p4;subst p4;rw[ke] at p3;subst p3;rw[eb] at p5;refine⟨λn b hh=>?_,by simp only[cD,p2,s2,js];omega,λh0b ho hb=>?_,λq hq=>?_⟩
     .rcases dH.1 hh with hh|hh
      .exact p1 n b hh
      .exact s1 n b hh
     .obtain⟨l1,l2,l3,_⟩:=p5 (λ_=>h0b (by simp)) (λk q hq=>ho k q (by rw[kA (List.getElem?_eq_some_iff.1 hq).1];exact hq))
       (λj0 k q hj hq=>by
        cases hj;rw[ot] at hq;split at hq
        .have:=hb (k+1) q (by simpa using hq)
         rwa [show j+(k+1)=j+1+k from by omega] at this
        .cases hq)
      obtain⟨k1,k2⟩:=s3 (λ_=>h0b (by simp)) (λk q hq=>by
        have:=ho (o.nr+k) q (by rw[kr (by omega),p2,kL];exact hq)
        rwa [show n+(o.nr+k)=n+o.nr+k from by omega] at this)
       (λk q hq=>by
        rw[pD] at hq;have:=hb (o.nb+k+1) q (by simpa using hq)
        rwa [show j+(o.nb+k+1)=j+1+o.nb+k from by omega] at this)
      simp only[iI,gE];refine⟨l2.append (by rw[p2];exact k1),λq y hh=>?_⟩;rcases dj.1 hh with hh|hh
      .cases hh;refine⟨0,_,_,rfl,rfl,rfl,hlk,rfl,λk len he=>?_,λhe=>?_⟩
       .rw[iL,hkb] at he;cases he;exact⟨us,hus,l1⟩
       .rw[iL,hkb] at he;cases he
      .rcases dH.1 hh with hh|hh
       .obtain⟨j0,hj,hx⟩:=l3 q y hh;cases hj;have:=(pG.shift (pre:=[n0]) (j:=j) hx).grow (post:=bx.drop o.nb)
        rwa [iN,eb] at this
       .have:=pG.shift (pre:=n0::bx.take o.nb) (bx:=bx.drop o.nb) (j:=j) (n:=q) (x:=y) (by rw[cQ,hlt,show j+(o.nb+1)=j+1+o.nb from by omega];exact k2 q y hh)
        rwa [jS,eb] at this
     .simp only[gE,fK,lr];rcases dj.1 hq with rfl|hq
      .exact fF ..
      .refine fw _ ?_;rw[← eb] at hq;rcases dH.1 hq with hq|hq
       .refine g7 _ ?_;have:=BY (b0:=b0) (o:=o) (x:=x) (n:=n) (more:=bx.drop o.nb) hlt q hq
        rwa [eb] at this
       .exact jd _ (s4 q hq)
    .cases e
   .cases e
  .cases e
 | .row E t::ps,d,fz,ow,bx,j,n,e,hF,L,hl=>by
  cases bx with
  | nil=>simp[jn] at hl
  | cons n0 bx =>
  simp only[lQ] at e;split at e
  .rename_i E' t' xs hlk;split at e
   .rename_i ys hE hcl;have hE:=bJ hE;subst hE;obtain⟨et,ez⟩:=jC hcl;subst et;simp only at ez;subst ez;split at e
    .rename_i ps' f2 ow2 hr;simp only[bp,br] at e;obtain⟨rfl,rfl,rfl⟩:=e;obtain⟨s1,s2,s3,s4⟩:=tJ m1 hA b0 ps ps' f2 ow2 bx (j+1) n hr hF (wu L) (by simpa[jn] using hl);have hm:=m1.nm (PN+j);rw[hlk] at hm;refine⟨s1,s2,λh0b ho hb=>?_,λq hq=>?_⟩
     .obtain⟨k1,k2⟩:=s3 (λ_=>h0b (by simp)) ho (λk q hq=>by have:=hb (k+1) q (by simpa using hq);rwa [show j+(k+1)=j+1+k from by omega] at this);simp only[iI,gE];refine⟨k1,λq y hh=>?_⟩;rcases dj.1 hh with hh|hh
      .cases hh;refine⟨0,_,_,rfl,rfl,rfl,hlk,rfl,λk len he=>?_,λhe=>?_⟩
       .rcases hm with⟨k',len',he',hb,_⟩|⟨he',_⟩
        .rw[iL] at he;rw[he] at he';cases he';obtain⟨us,cap,g1,g2,g3,g4,g5,g6⟩:=hb;exact⟨us,cap,g1,g2,g3,g4,g5,λi hi=>Dj (vY (c:=true) L) (iC hA (λ_ _ _=>rfl) _ _ _ _ _ (λ_ _=>rfl) (g6 i hi))⟩
        .rw[iL] at he;rw[he] at he';cases he'
       .rcases hm with⟨k',len',he',hb,_⟩|⟨he',E2,t2,hb⟩
        .rw[iL] at he;rw[he] at he';cases he'
        .rcases hb with hb|hb <;> cases hb;exact⟨_,_,rfl⟩
      .exact pG.shift (pre:=[n0]) (k2 q y hh)
     .simp only[gE,fK];rcases dj.1 hq with rfl|hq
      .exact fF ..
      .exact fw _ (s4 q hq)
    .cases e
   .cases e
  .cases e
end
end Go.SX
namespace Go.SX
def jI:List Nat->Nat->Rn
 | [],_=>[]
 | n::bx,j=>(n,some (PN+j))::jI bx (j+1)
def kM:List (Option Nat)->Nat->Rn
 | [],_=>[]
 | o::r,n=>(n,o)::kM r (n+1)
theorem GX{a b:Rn}{n:Nat}:bw (a++b) n=(match bw a n with|some x=>some x|none=>bw b n):=by
 induction a with
 | nil=>rfl
 | cons p a ih =>
  obtain⟨m,x⟩:=p;simp only[jS,pe];grind
theorem Jm:∀{bx:List Nat}{j n:Nat}{y:Option Nat},bw (jI bx j) n=some y→∃ i,bx[i]? = some n/\y=some (PN+(j+i))
 | m::bx,j,n,y,h=>by
  simp only[jI,pe] at h;split at h
  next e=>cases h;exact⟨0,by simp[e],rfl⟩
  .obtain⟨i,h1,h2⟩:=Jm h;exact⟨i+1,by simpa using h1,by rw[h2,show j+1+i=j+(i+1) from by omega]⟩
theorem OE:∀{bx:List Nat}{j n i:Nat},bx.Nodup->bx[i]? = some n->bw (jI bx j) n=some (some (PN+(j+i)))
 | m::bx,j,n,0,_,h=>by
  simp at h;subst h;simp only[jI,pe,am,iL]
 | m::bx,j,n,i+1,hn,h=>by
  have b:bx[i]? = some n:=by simpa using h
  obtain⟨h1,h2⟩:=List.nodup_cons.1 hn;have a:n≠m:=λe=>h1 (e▸oS b);simp only[jI,pe,af a,OE h2 b];grind
theorem aI2{bx:List Nat}{j n:Nat}(h:n ∉ bx):bw (jI bx j) n=none:=by
 cases hl:bw (jI bx j) n with
 | none=>rfl
 | some y=>obtain⟨i,hi,_⟩:=Jm hl;exact absurd (oS hi) h
theorem LA:∀{a:List (Option Nat)}{n0 n:Nat}{y:Option Nat},bw (kM a n0) n=some y→∃ i,a[i]? = some y/\n=n0+i
 | o::a,n0,n,y,h=>by
  simp only[kM,pe] at h;split at h
  .simp_all
  .obtain⟨i,h1,h2⟩:=LA h;exact⟨i+1,by simpa using h1,ab⟩
theorem MM:∀{a:List (Option Nat)}{n0 i:Nat}{o:Option Nat},a[i]? = some o->bw (kM a n0) (n0+i)=some o
 | p::a,n0,0,o,h=>by simp at h;subst h;simp[kM,pe]
 | p::a,n0,i+1,o,h=>by
  have h':a[i]? = some o:=by simpa using h
  have:=MM (n0:=n0+1) h';simp only[kM,pe,af (show ¬ n0+(i+1)=n0 from by omega)];grind
theorem JQ{n:Nat}:∀{l:List (Option Nat)},ve n l=true↔some n∈l
 | []=>by simp[ve]
 | none::r=>by simp[ve,JQ (l:=r)]
 | some m::r=>by simp[ve,JQ]
theorem J8{fz:List (Nat×Nm)}:∀{a:List (Option Nat)},xe fz a=true→∀(i m:Nat),a[i]? = some (some m)->(m<PN∨QN<=m)/\m ∉ fz.map (·.1)∧∀ i':Nat,a[i']? = some (some m)->i=i'
 | none::r,h,i,m,hi=>by
  simp only[xe] at h;cases i with
  | zero=>simp at hi
  | succ i =>
   obtain⟨c,d,b⟩:=J8 h i m (by simpa using hi);grind
 | some q::r,h,i,m,hi=>by
  simp only[xe,dr,oo,oX] at h;obtain⟨⟨⟨c,d⟩,b⟩,h4⟩:=h;have hno:∀ i:Nat,r[i]? ≠ some (some q):=λi hi=>by
   have:ve q r=true:=JQ.2 (oS hi);rw[this] at b;cases b
  cases i with
  | zero =>
   simp at hi;subst hi;refine⟨c.imp (λh=>kT h) (λh=>kT h),zR d,λi' hi'=>?_⟩;grind
  | succ i =>
   obtain⟨g1,g2,g3⟩:=J8 h4 i m (by simpa using hi);grind
theorem Nx:∀{fz:List (Nat×Nm)},BU fz=true→∀ n,n∈fz.map (·.1)->n<PN∨QN<=n
 | (m,b)::r,h,n,a=>by
  simp only[BU,dr,oo] at h;rcases dj.1 a with e|a
  .simp_all
  .exact Nx h.2 n a
theorem Mt{fz:List (Nat×Nm)}:∀{bx:List Nat},Bh fz bx=true→∀ n,n∈bx->n ∉ fz.map (·.1)
 | m::r,h,n,a=>by
  simp only[Bh,dr] at h;rcases dj.1 a with rfl|a
  .exact zR h.1
  .exact Mt h.2 n a
theorem Dt{h:bR}{b d:Dl}:∀{k n:Nat}{r:List Nat},(qg n k b).run h=some (d,r)->d=b∧∀ i,i<k->h (n+i) = .un
 | 0,n,r,e=>by
  simp only[qg,Q.run,bp,br] at e;simp_all
 | k+1,n,r,e=>by
  simp only[qg,Q.run] at e;split at e
  .rename_i p q hk;obtain⟨rfl,rfl⟩:=e;split at hk
   .rename_i a;obtain⟨h1,h2⟩:=Dt hk;refine⟨h1,λi hi=>?_⟩;cases i with
    | zero=>exact a
    | succ i=>rw[show n+(i+1)=n+1+i from by omega];exact h2 i ab
   .cases hk
  .cases e
theorem G5{n:Nat}{x:Nm}:∀{cx:List (Option Nat)},(n,x)∈po cx->x = .dead/\n∈jB cx
 | none::r,h=>by simp only[po] at h;simpa only[jB] using G5 (cx:=r) h
 | some m::r,h=>by
  rcases dj.1 h with h|h
  .cases h;exact⟨rfl,fF ..⟩
  .obtain⟨h1,h2⟩:=G5 h;exact⟨h1,fw _ h2⟩
theorem Gj:∀{cx:List (Option Nat)},(po cx).map (·.1)=jB cx
 | []=>rfl
 | none::r=>by simp only[po,jB];exact Gj (cx:=r)
 | some m::r=>by simp only[po,jB,fK,Gj]
def It(P:Program)(ty:TypeId)(v:SV)(h:bR):Option SV:=match v with
 | .ptr n off=>match h n with
  | .live (.cells _ cs)=>nt P ty cs off
  | _=>none
 | _=>none
def vu(P:Program):List ResultVar->List SV->bR->Option (List SV)
 | [],_,_=>some []
 | .tmp t::r,sl,h=>match vu P r sl h with
  | some l=>some (dU sl t::l)
  | none=>none
 | .cell a ty::r,sl,h=>match It P ty (dU sl a) h,vu P r sl h with
  | some v,some l=>some (v::l)
  | _,_=>none
def Bs(l:List Value):Value:=if h:l.toArray.size=1 then l.toArray[0] else .tuple l.toArray
theorem S7{P:Program}{w0:World}{N0:fY}{A:Nat->Prop}{env:bc}{h:bR}{w:World}(m:Mod w0 N0 A env h w){ty:TypeId}{s s':SV}{v:Value}(e:It P ty s h=some s')(a:aB A env w s v) :
  ∃ u,(do loadVar ty (← asAddr v):Sem Value).run P w = .ok u w/\aB A env w s' u:=by
 unfold It at e
 split at e
 next n off=>
  split at e
  next E cs hl=>obtain⟨b,l,he,rfl⟩:=a;obtain⟨⟨vs,hh,a⟩,_⟩:=m.live_blk hl he;obtain⟨u,c,hv⟩:=BD (o:=0) e a (λj hj=>by rw[cell_of_row w b _ vs E (0,0) hh];simp);rw[gz] at c;exact⟨u,by simp[asAddr,c],hv⟩
  .cases e
 .cases e
theorem HF{P:Program}{w0:World}{N0:fY}{A:Nat->Prop}{env:bc}{h:bR}{w:World}(m:Mod w0 N0 A env h w){j:List SV}{a:Act}(f:FD A env w (dU j) a){F:ResultVar->Sem Value}
  (k:∀ t,F (.tmp t)=pure (a.tmps.getD t undef)) (c:∀ t ty,F (.cell t ty)=do loadVar ty (← asAddr (a.tmps.getD t undef))):∀(l:List ResultVar)(b:List SV),vu P l j h=some b →
  ∃ vs,(l.mapM F).run P w = .ok vs w/\aS A env w b vs
 | [],b,e=>by cases e;exact⟨[],rfl,by simp[aS]⟩
 | .tmp t::l,b,e=>by
  simp only[vu] at e;split at e
  next d hl=>cases e;obtain⟨vs,n,g⟩:=HF m f k c l d hl;refine⟨a.tmps.getD t undef::vs,?_,by simp only[aS];exact⟨_,_,rfl,f t,g⟩⟩;simp_all
  .cases e
 | .cell t ty::l,b,e=>by
  simp only[vu] at e;split at e
  next v d hv hl=>cases e;obtain⟨vs,n,g⟩:=HF m f k c l d hl;obtain⟨u,hu,i⟩:=S7 m hv (f t);refine⟨u::vs,?_,by simp only[aS];exact⟨_,_,rfl,i,g⟩⟩;rw[List.mapM_cons,c,Sem.run_bind,hu];simp[n]
  .cases e
theorem Zc{P:Program}{w0:World}{N0:fY}{A:Nat->Prop}{env:bc}{h:bR}{w:World}(m:Mod w0 N0 A env h w){d:List SV}{a:Act}(f:FD A env w (dU d) a){c:Func}{b:List SV}(e:vu P c.results.toList d h=some b) :
  ∃ vs,(results c a.tmps).run P w = .ok (Bs vs) w/\aS A env w b vs:=by
 unfold results
 rw[Array.mapM_eq_mapM_toList]
 obtain⟨vs,hr,hd⟩:=HF m f (F:=fun | .tmp t=>pure (a.tmps.getD t undef) | .cell t ty=>do loadVar ty (← asAddr (a.tmps.getD t undef))) (λt=>rfl) (λt ty=>rfl) c.results.toList b e
 refine⟨vs,?_,hd⟩
 rw[Sem.run_bind,Sem.run_map]
 erw [hr]
 rfl
theorem aJ4{A:Nat->Prop}{env:bc}{w:World}{a:List SV}{vs:List Value}(h:aS A env w a vs):aB A env w (qr a) (Bs vs):=by
 have hl:=jg h
 unfold qr
 split
 .simp only[aS] at h;obtain⟨v,r,rfl,h,rfl⟩:=h;exact h
 next b=>
  have:¬ vs.length=1:=λe=>by
   rw[hl] at e;obtain⟨x,hx⟩:=List.length_eq_one_iff.1 e;exact b x hx
  simp only[Bs,aB];simp_all
def qt:List Prop->Prop
 | []=>True
 | [p]=>p
 | p::q::r=>p/\qt (q::r)
theorem yy:∀{l:List Prop},qt l↔bU l
 | []=>lW
 | [p]=>by simp[qt,bU]
 | p::q::r=>by rw[qt,bU,yy]
def yE(P:Program)(ps:List PK)(rs:List RK)(rv:List ResultVar)(k:ju rs×gF ps->Prop):Ex->St->Prop:=λe S=>match e with
 | .exit _=>False
 | _=>match vu P rv S.sl (fe S.H) with
  | none=>False
  | some vs=>match mF (Nat.blt 0 (jn ps)) rs vs (fe S.H),lQ ps 0 (fe S.H) with
   | some (y,f1,ow),some (z,f2,ow2)=>match xe (f1++f2) (ow++ow2),BU (f1++f2) with
    | true,true=>k (y,z)
    | _,_=>False
   | _,_=>False
def nQ:List SV->Nat->List SV
 | _,0=>[]
 | [],n+1 => .junk::nQ [] n
 | v::l,n+1=>v::nQ l n
def xm(ps:List PK)(d:bu ps)(n:Nat):St:=⟨nQ (iM ps d 0 0) n,pc ps d 0 0++rV ps d 0⟩
theorem HL:∀{l:List SV}{n:Nat},(nQ l n).length=n
 | _,0=>by simp[nQ]
 | [],n+1=>by simp[nQ,HL (l:=[])]
 | v::l,n+1=>by simp[nQ,HL]
theorem Hg:∀{l:List SV}{n i:Nat},dU (nQ l n) i = .junk∨∃ s,l[i]? = some s/\dU (nQ l n) i=s
 | _,0,i=>by left;simp[nQ,dU,mQ]
 | [],n+1,0=>by left;simp[nQ,dU,mQ]
 | [],n+1,i+1=>by
  rcases Hg (l:=[]) with h|⟨s,h,_⟩
  .simpa[nQ,dU,mQ] using h
  .simp at h
 | v::l,n+1,0=>by right;exact⟨v,aC,by simp[nQ,dU,mQ]⟩
 | v::l,n+1,i+1=>by
  rcases Hg with h|⟨s,h,h'⟩
  .left;simpa[nQ,dU,mQ] using h
  .right;exact⟨s,by simpa using h,by simpa[nQ,dU,mQ] using h'⟩
section
variable {P:Program} {sp:d6}
theorem Si{ps:List PK}{rs:List RK}(post:bu ps->ju rs×gF ps->Prop){f:FuncId}{fn:Func}{code:Code}(hf:P.funcs[f]? = some fn)(hb:fn.body=some code)(hs:iQ P sp)(qk:P.follows .mixedOrders=true)(an:bu ps->bS)
  {base:Nat} {svs:List SV} {h:bR} {dd:bu ps} {fz:List (Nat×Nm)} {bx:List Nat} {cx:List (Option Nat)} {q1:List Nat} (e1:(gV none ps svs).run h=some ((dd,fz,bx,cx),q1)) (hnm:yM fz bx cx=true)
  (hun:∀ i,i<gM rs+js ps->h (base+i) = .un) (vc:xc ps dd->ur (xm ps dd fn.ntmps) (sx P sp (an dd) code (yE P ps rs fn.results.toList (post dd))))
  {w0:World} {N0:fY} {A:Nat->Prop} {env:bc} {w:World} {vs:List Value} (hG:N0.g=sp.gl) (m:Mod w0 N0 A env h w) (hd:aS A env w svs vs) :
  Calls P f vs.toArray w λe w'=>∃ v y,e = .returned v/\post dd y∧∃ (A':Nat->Prop) (env':bc),Mod w0 N0 A' env' (cT (tu ps rs y base fz bx cx) h) w'∧dh A env w A' env' w'∧aB A' env' w' (qr (jV (bx.headD 0) rs y.1 base)) v:=by
 simp only[yM,dr] at hnm
 obtain⟨⟨hnd,hdj⟩,hbl⟩:=hnm
 have hnd:=Kf hnd
 have hdj:=Mt hdj
 have hbl:=kT hbl
 obtain⟨a1,a4,a6⟩:=uf (envc:=nX env bx cx) m (Ac:=hV A env fz) (λb hb=>.inl hb) none ps svs vs dd fz bx cx q1 0 0 e1 hd (λk hk=>.inr hk)
 obtain⟨dargs,lb,lc⟩:=a6 (λ_=>rfl) (λn hn=>by cases hn) (λk n hn=>by rw[gz];exact Jy hbl hn) (λk q hq=>by rw[gz];exact Tq hq)
 rw[iL] at lb lc
 have mc:=m.call a1 hbl lb lc hdj hnd
 have hlen:bx.length=jn ps:=by
  have:=lb.get.1;rw[qm,uk] at this;exact this
 have hnd1:bx.Nodup:=(List.nodup_append.1 hnd).1
 have hvc:=vc a4
 rw[ID] at hvc
 have hvl:=jg dargs
 have live_ne:∀ q b,h q = .live b->env q ≠ .un:=λq b hq=>by
  have:=m.nm q;rw[hq] at this;rcases this with⟨k,len,e,_⟩|⟨e,_⟩ <;> rw[e] <;> simp
 have hlive:∀ n,n∈bx++jB cx→∃ b,h n = .live b/\b.mut=true/\env n ≠ .un:=λn hn=>by
  rcases dH.1 hn with hn|hn
  .obtain⟨i,hi⟩:=List.mem_iff_getElem?.1 hn;obtain⟨b',_,_,_,⟨q,b,e,h1,h2,_⟩|⟨e,_⟩⟩:=lb.get.2 i (some n) (by simp[hi])
   .simp_all
   .cases e
  .obtain⟨i,hi⟩:=List.mem_iff_getElem?.1 (vQ.1 hn);obtain⟨b',_,_,_,⟨q,b,e,h1,h2,_⟩|⟨e,_⟩⟩:=lc.get.2 i (some n) hi
   .simp_all
   .cases e
 refine calls_of_wp hf hb (Vy (N0:=⟨Eh env (bx++jB cx),hV A env fz,N0.g⟩) ⟨hs,hG⟩ qk code _ _ _ (hV A env fz) (nX env bx cx) _ w hvc ⟨mc,?_,?_,rfl⟩ ?_)
 .simp only[St.fs,xm,HL,Array.size_append,Array.size_replicate];omega
 .intro i;simp only[St.fs,xm];rcases Hg (l:=iM ps dd 0 0) (n:=fn.ntmps) (i:=i) with hj|⟨s,h1,h2⟩
  .rw[hj];simp only[aB]
  .rw[h2];obtain⟨v,hv,hdv⟩:=Ap i s dargs h1;have hi:i<vs.length:=(List.getElem?_eq_some_iff.1 hv).1;have:(vs.toArray++Array.replicate (fn.ntmps-vs.toArray.size) undef).getD i undef=v:=by
    have h3:(vs.toArray++Array.replicate (fn.ntmps-vs.toArray.size) undef)[i]? = some v:=by
     grind
    simp_all
   rw[this];exact hdv
 .intro ex S' A1 env1 act w1 hK t' x';have hend:∃ rsv y f1 owr z f2 owb,vu P fn.results.toList S'.sl (fe S'.H)=some rsv/\mF (Nat.blt 0 (jn ps)) rs rsv (fe S'.H)=some (y,f1,owr)/\lQ ps 0 (fe S'.H)=some (z,f2,owb) ∧
    xe (f1++f2) (owr++owb)=true/\BU (f1++f2)=true/\post dd (y,z)/\(ex = .normal∨ex = .ret):=by
   unfold yE at hK;split at hK
   .exact hK.elim
   .rename_i hex;split at hK
    .exact hK.elim
    .rename_i rsv hts;split at hK
     .rename_i y f1 ow z f2 ow2 h1 h2;split at hK
      .rename_i h3 h4;refine⟨rsv,y,f1,ow,z,f2,ow2,hts,h1,h2,h3,h4,hK,?_⟩;cases ex with
       | normal=>exact .inl rfl
       | ret=>exact .inr rfl
       | exit i=>exact absurd rfl (hex i)
      .exact hK.elim
     .exact hK.elim
  obtain⟨rsv,y,f1,owr,z,f2,owb,hts,ho,hob,hown,hlt,hpost,hex⟩:=hend;obtain⟨rvs,hrun,hres⟩:=Zc t'.m t'.f hts;have hA2:∀ b,A1 b->hV A1 env1 (f1++f2) b:=λb hb=>.inl hb;have hF1:∀ k,gT env1 f1 k->hV A1 env1 (f1++f2) k:=λk ⟨n,x,l,hx,he⟩=>.inr ⟨n,x,l,g7 _ hx,he⟩;have hF2:∀ k,gT env1 f2 k->hV A1 env1 (f1++f2) k:=λk ⟨n,x,l,hx,he⟩=>.inr ⟨n,x,l,jd _ hx,he⟩;have hlt:=Nx hlt;have hownS:=J8 hown;have hPQ:QN=PN+PN:=rfl;have fin:∀(As A':Nat->Prop)(hs':bR),Mod w0 N0 As env hs' w->(∀ n,n∈bx++jB cx->hs' n=h n)->(∀ i,i<gM rs+js ps->hs' (base+i) = .un)->(∀ b,As b->A' b)->(∀ b,A' b->hV A1 env1 (f1++f2) b) →
    (∀ b,A' b->As b∨((Eh env (bx++jB cx) b∨w.heap.size<=b)/\b<w1.heap.size))->(tO rs=true∨∀ b,hV A1 env1 (f1++f2) b->A' b)->(me ps=true∨∀ b,hV A1 env1 (f1++f2) b->A' b) →
    ∃ env',Mod w0 N0 A' env' (cT (gE (bx.headD 0) ps z bx (base+gM rs)++(lx (bx.headD 0) rs y base++(iI ps z (base+gM rs)++po cx))) hs') w1/\dh As env w A' env' w1/\aB A' env' w1 (qr (jV (bx.headD 0) rs y base)) (Bs rvs):=by
   intro As A' hs' ms hsb hsu hAA hA'2 hA1' L1 L2;obtain⟨b1,b2,b3⟩:=wP (A':=A') (env':=kU (jI bx 0++kM (owr++owb) base) env env1) t'.m hA2 (bx.headD 0) rs y _ _ f1 owr base ho hres hF1 L1;obtain⟨c1,c2,c3,c4⟩:=tJ (A':=A') (env':=kU (jI bx 0++kM (owr++owb) base) env env1) t'.m hA2 (bx.headD 0) ps z f2 owb bx 0 (base+gM rs) hob hF2 L2 hlen;have hfo:nu (fe S'.H) (f1++f2):=λn b hh=>by
    rcases dH.1 hh with hh|hh
    .exact b1 n b hh
    .exact c1 n b hh
   have howl:(owr++owb).length=gM rs+js ps:=by rw[cD,b2,c2]
   have hnotbx:∀ i,i<gM rs+js ps->base+i ∉ bx:=λi hi hmem=>by
    grind
   have hRbox:∀ i n,bx[i]? = some n->bw (jI bx 0++kM (owr++owb) base) n=some (some (PN+i)):=λi n hi=>by
    rw[GX,OE (j:=0) hnd1 hi,gz]
   have hRres:∀ i o,(owr++owb)[i]? = some o->bw (jI bx 0++kM (owr++owb) base) (base+i)=some o:=λi o hi=>by
    have hlti:i<gM rs+js ps:=by have:=(List.getElem?_eq_some_iff.1 hi).1;omega
    rw[GX,aI2 (hnotbx i hlti)];exact MM hi
   have hRinv:∀ n y,bw (jI bx 0++kM (owr++owb) base) n=some y->(∃ i,bx[i]? = some n/\y=some (PN+i))∨∃ i,(owr++owb)[i]? = some y/\n=base+i/\i<gM rs+js ps:=λn y hy=>by
    rw[GX] at hy;split at hy
    next x hx=>cases hy;obtain⟨i,h1,h2⟩:=Jm hx;rw[gz] at h2;exact .inl ⟨i,h1,h2⟩
    .obtain⟨i,h1,h2⟩:=LA hy;exact .inr ⟨i,h1,h2,by have:=(List.getElem?_eq_some_iff.1 h1).1;omega⟩
   have hbxlt:∀ i n,bx[i]? = some n->i<PN:=λi n hi=>by have:=(List.getElem?_eq_some_iff.1 hi).1;omega
   have henvp:∀ i n,bx[i]? = some n->env1 (PN+i)=env n:=λi n hi=>by
    obtain⟨b,_,_,hne⟩:=hlive n (g7 _ (oS hi));have:=hbxlt i n hi;have:=x'.envp (PN+i) ab ab (by rw[Jy hbl hi];exact hne);rw[this,Jy hbl hi]
   have eenv:∀ i o,(owr++owb)[i]? = some o->kU (jI bx 0++kM (owr++owb) base) env env1 (base+i)=oU env1 o:=λi o hi=>by
    unfold kU;rw[hRres i o hi];simp only[iO,hRres i o hi];cases o <;> rfl
   have hhead:bx≠[]->kU (jI bx 0++kM (owr++owb) base) env env1 (bx.headD 0)=env1 PN:=λhne=>by
    obtain⟨n0,r,hbx⟩:=List.exists_cons_of_ne_nil hne;have h0:bx[0]? = some (bx.headD 0):=by rw[hbx];rfl
    unfold kU;rw[hRbox 0 _ h0];simp only[iO,hRbox 0 _ h0,iL]
   obtain⟨d1,d2⟩:=b3 (λhal=>hhead (λhnil=>by
     have h0:jn ps=0:=by rw[← hlen,hnil];rfl
     rw[h0] at hal;cases hal)) (λi o hi=>eenv i o (by rw[kA (List.getElem?_eq_some_iff.1 hi).1];exact hi))
   obtain⟨d3,d4⟩:=c3 hhead (λk q hq=>by
     have:=eenv (gM rs+k) q (by rw[kr ab,b2,kL];exact hq)
     rwa [← gW] at this)
    (λk q hq=>by
     unfold kU;rw[hRbox k q hq];simp only[iO,hRbox k q hq,gz])
   have hlookA:∀ q b k l,fe S'.H q = .live b->b.mut=true->env1 q = .blk k l->q ∉ (f1++f2).map (·.1)→¬ A' k:=λq b k l hq hbm he hqn hA'=>by
    have mf:=(t'.m.freeze hfo).1;have:cT (f1++f2) S'.fs.h q = .live b:=by rw[nJ hqn];exact hq
    exact (mf.live_blk this he).2 hbm (hA'2 k hA')
   suffices hk:Mod w0 N0 A' (kU (jI bx 0++kM (owr++owb) base) env env1) (cT (gE (bx.headD 0) ps z bx (base+gM rs)++(lx (bx.headD 0) rs y base++(iI ps z (base+gM rs)++po cx))) hs') w1/\dh As env w A' (kU (jI bx 0++kM (owr++owb) base) env env1) w1 by
    exact⟨_,hk.1,hk.2,aJ4 d1⟩
   have hnew:∀{l:List (Nat×Nm)}{os:List (Option Nat)}{n0:Nat},jA A' env1 (fe S'.H) (kU (jI bx 0++kM (owr++owb) base) env env1) w1 os l (base+n0)->(∀ i o,os[i]? = some o->(owr++owb)[n0+i]? = some o)→∀ n x,(n,x)∈l →
     ∃ b,x = .live b/\b.mut=true/\((∃ m b0,bw (jI bx 0++kM (owr++owb) base) n=some (some m)/\fe S'.H m = .live b0/\b0.mut=true ∧
      (∀ k len,env1 m = .blk k len->jK A' (kU (jI bx 0++kM (owr++owb) base) env env1) w1 k len b)/\(env1 m = .nil→∃ E t,b = .row E t []))∨(bw (jI bx 0++kM (owr++owb) base) n=some none∧∃ E t,b = .row E t [])):=by
    intro l os n0 hl hos n x hx;have:∀{os:List (Option Nat)}{l:List (Nat×Nm)}{k0:Nat},jA A' env1 (fe S'.H) (kU (jI bx 0++kM (owr++owb) base) env env1) w1 os l k0→∀ n x,(n,x)∈l→∃ i o b',os[i]? = some o/\n=k0+i/\x = .live b'∧b'.mut=true ∧
      ((∃ q b,o=some q/\fe S'.H q = .live b/\b.mut=true/\(∀ k len,env1 q = .blk k len->jK A' (kU (jI bx 0++kM (owr++owb) base) env env1) w1 k len b')/\(env1 q = .nil→∃ E t,b' = .row E t []))∨(o=none∧∃ E t,b' = .row E t [])):=by
     intro os
     induction os with
     | nil=>intro l k0 hl n x hx;cases l with
      | nil=>cases hx
      | cons p l=>exact hl.elim
     | cons o os ih =>
      intro l k0 hl n x hx;cases l with
      | nil=>cases hx
      | cons p l =>
       obtain⟨m',y'⟩:=p;obtain⟨⟨hm,b',g1,g2,g3⟩,hr⟩:=hl;rcases dj.1 hx with e|hx
       .cases e;exact⟨0,o,b',rfl,ab,g1,g2,g3⟩
       .obtain⟨i,o',b'',k1,k2,k3⟩:=ih hr n x hx;exact⟨i+1,o',b'',by simpa using k1,ab,k3⟩
    obtain⟨i,o,b',k1,rfl,k3,k4,k5⟩:=this hl n x hx;have hr:=hRres _ _ (hos i o k1);rw[← gW] at hr;refine⟨b',k3,k4,?_⟩;rcases k5 with⟨q,b,rfl,g1,g2,g3,g4⟩|⟨rfl,g1⟩
    .exact .inl ⟨q,b,hr,g1,g2,g3,g4⟩
    .exact .inr ⟨hr,g1⟩
   refine Mod.retn (R:=jI bx 0++kM (owr++owb) base) (U:=gE (bx.headD 0) ps z bx (base+gM rs)++(lx (bx.headD 0) rs y base++(iI ps z (base+gM rs)++po cx))) (A':=A') ms t'.m x'.shape ?_ ?_ ?_ ?_ ?_ hAA hA1' ?_
   .intro n x hx;rcases dH.1 hx with hx|hx
    .obtain⟨i,b,b0,h1,h2,h3,h4,h5,h6,h7⟩:=d4 n x hx;rw[gz] at h4 h6 h7;exact .inr ⟨b,h2,h3,.inl ⟨PN+i,b0,hRbox i n h1,h4,h5,h6,h7⟩⟩
    .rcases dH.1 hx with hx|hx
     .exact .inr (hnew (n0:=0) (by rw[iL];exact d2) (λi o hi=>by rw[gz,kA (List.getElem?_eq_some_iff.1 hi).1];exact hi) n x hx)
     .rcases dH.1 hx with hx|hx
      .exact .inr (hnew d3 (λi o hi=>by rw[kr ab,b2,kL];exact hi) n x hx)
      .exact .inl (G5 hx).1
   .intro n hn;obtain⟨y',hy⟩:=Option.ne_none_iff_exists'.1 hn;simp only[lr];rcases hRinv n y' hy with⟨i,h1,_⟩|⟨i,h1,rfl,hi⟩
    .exact g7 _ (c4 n (oS h1))
    .refine jd _ ?_;by_cases hlt':i<gM rs
     .refine g7 _ ?_;obtain⟨b',_,hmem,_⟩:=d2.get.2 i _ (by rw[kA ab] at h1;exact h1);exact qM (f:=(·.1)) hmem
     .refine jd _ (g7 _ ?_);obtain⟨b',_,hmem,_⟩:=d3.get.2 (i-gM rs) _ (by rw[kr ab,b2] at h1;exact h1);have:=qM (f:=(·.1)) hmem
      rwa [show base+gM rs+(i-gM rs)=base+i from by omega] at this
   .intro n n' q hn hn';rcases hRinv n _ hn with⟨i,h1,h2⟩|⟨i,h1,rfl,_⟩ <;> rcases hRinv n' _ hn' with⟨i',h1',h2'⟩|⟨i',h1',rfl,_⟩
    .simp only[bp] at h2 h2';have:i=i':=ab;subst this;rw[h1] at h1';exact Option.some.inj h1'
    .simp only[bp] at h2;have:=(hownS i' q h1').1;have:=hbxlt _ _ h1;omega
    .simp only[bp] at h2';have:=(hownS i q h1).1;have:=hbxlt _ _ h1';omega
    .rw[(hownS i q h1).2.2 i' h1']
   .intro n hn;obtain⟨y',hy⟩:=Option.ne_none_iff_exists'.1 hn;rcases hRinv n y' hy with⟨i,h1,rfl⟩|⟨i,h1,rfl,h2⟩
    .have hmem:n∈bx++jB cx:=g7 _ (oS h1);obtain⟨b,g2',g3',_⟩:=hlive n hmem;exact .inr ⟨b,by rw[hsb n hmem];exact g2',g3',by rw[tE hy];exact henvp i n h1⟩
    .exact .inl (hsu i h2)
   .rintro k ⟨n,l,hn,he⟩;obtain⟨b,g2',g3',_⟩:=hlive n hn;refine⟨n,b,l,?_,by rw[hsb n hn];exact g2',g3',he⟩;simp only[lr,Gj];rcases dH.1 hn with hn|hn
    .exact g7 _ (c4 n hn)
    .exact jd _ (jd _ (jd _ hn))
   .rintro q b k l hq hbm he ⟨n,hn⟩;refine hlookA q b k l hq hbm he λhmem=>?_;rcases hRinv n _ hn with⟨i,h1,h2⟩|⟨i,h1,rfl,_⟩
    .simp only[bp] at h2;have:=hlt q hmem;have:=hbxlt _ _ h1;omega
    .exact (hownS i q h1).2.1 hmem
  suffices hfin:∃ (A':Nat->Prop) (env':bc),Mod w0 N0 A' env' (cT (tu ps rs (y,z) base fz bx cx) h) w1/\dh A env w A' env' w1/\aB A' env' w1 (qr (jV (bx.headD 0) rs y base)) (Bs rvs) by
   have hthis:act.defers=[]∧∃ v,(results fn act.tmps).run P w1 = .ok v w1∧∃ v' y',Ending.returned v = .returned v'∧post dd y'∧∃ (A':Nat->Prop) (env':bc),Mod w0 N0 A' env' (cT (tu ps rs y' base fz bx cx) h) w1/\dh A env w A' env' w1/\aB A' env' w1 (qr (jV (bx.headD 0) rs y'.1 base)) v' :=
    ⟨t'.dfr,_,hrun,_,(y,z),rfl,hpost,hfin⟩
   rcases hex with rfl|rfl
   .exact hthis
   .exact hthis
  unfold tu;cases hk:xd ps rs with
  | true =>
   obtain⟨mf,xf⟩:=m.freeze a1;have hback:∀ b,hV A1 env1 (f1++f2) b->hV A env fz b∨((Eh env (bx++jB cx) b∨w.heap.size<=b)/\b<w1.heap.size):=by
    intro b hb;have hfo:nu (fe S'.H) (f1++f2):=by
     obtain⟨b1,_⟩:=wP (A':=hV A1 env1 (f1++f2)) (env':=env1) t'.m hA2 (bx.headD 0) rs y _ _ f1 owr base ho hres hF1 (.inr λb hb=>hb);obtain⟨c1,_⟩:=tJ (A':=hV A1 env1 (f1++f2)) (env':=env1) t'.m hA2 (bx.headD 0) ps z f2 owb bx 0 base hob hF2 (.inr λb hb=>hb) hlen;intro n b hh;rcases dH.1 hh with hh|hh
     .exact b1 n b hh
     .exact c1 n b hh
    have hAlt:=(t'.m.freeze hfo).1.Alt b hb;rcases hb with hb|⟨n,x,l,hx,he⟩
    .rcases t'.m.fresh b hb with h1|h1|h1
     .exact .inl h1
     .grind
     .exact .inr ⟨.inr h1,hAlt⟩
    .obtain⟨E,t,xs,hl,_⟩:=hfo n x hx;rcases t'.m.own n _ b l hl rfl he with h1|h1
     .exact .inr ⟨.inl h1,hAlt⟩
     .exact .inr ⟨.inr h1,hAlt⟩
   obtain⟨env',k1,k2,k3⟩:=fin (hV A env fz) (hV A1 env1 (f1++f2)) (cT fz h) mf (λn hn=>nJ (hdj n hn)) (λi hi=>by
     rw[nJ]
     .exact hun i hi
     .intro hmem;obtain⟨⟨n,x⟩,hx,he⟩:=List.mem_map.1 hmem;simp only at he;subst he;obtain⟨E,t,xs,hl,_⟩:=a1 _ _ hx;rw[hun i hi] at hl;cases hl)
    (λb hb=>.inl (x'.imm b hb)) (λb hb=>hb) hback (.inr λb hb=>hb) (.inr λb hb=>hb)
   refine⟨_,env',?_,xf.trans k2,k3⟩;rw[J9];exact k1
  | false =>
   have hpl:tO rs=true/\me ps=true:=by
    simpa[xd] using hk
   obtain⟨env',k1,k2,k3⟩:=fin A A h m (λn hn=>rfl) hun (λb hb=>hb) (λb hb=>.inl (x'.imm b (.inl hb))) (λb hb=>.inl hb) (.inl hpl.1) (.inl hpl.2);refine⟨_,env',?_,k2,k3⟩;rw[ke];exact k1
def wF:(rs:List RK)->ju rs->ju rs->List Prop
 | [],_,_=>[]
 | _::rs,x,y=>(x.1=y.1)::wF rs x.2 y.2
def oZ:(ps:List PK)->gF ps->gF ps->List Prop
 | [],_,_=>[]
 | .val _::ps,x,y=>oZ ps x y
 | .agg _::ps,x,y=>oZ ps x y
 | .own _ _::ps,x,y=>oZ ps x y
 | .ago _::ps,x,y=>oZ ps x y
 | .fn _ _::ps,x,y=>oZ ps x y
 | .nils::ps,x,y=>oZ ps x y
 | .box _ _::ps,x,y=>(x.1=y.1)::oZ ps x.2 y.2
 | .row _ _::ps,x,y=>(x.1=y.1)::oZ ps x.2 y.2
theorem Qr:∀{rs:List RK}{x y:ju rs},bU (wF rs x y)->x=y
 | [],x,y,_=>rfl
 | _::rs,x,y,h=>Prod.ext h.1 (Qr (rs:=rs) h.2)
theorem uy:∀{ps:List PK}{x y:gF ps},bU (oZ ps x y)->x=y
 | [],x,y,_=>rfl
 | .val _::ps,x,y,h=>uy (ps:=ps) h
 | .agg _::ps,x,y,h=>uy (ps:=ps) h
 | .own _ _::ps,x,y,h=>uy (ps:=ps) h
 | .ago _::ps,x,y,h=>uy (ps:=ps) h
 | .fn _ _::ps,x,y,h=>uy (ps:=ps) h
 | .nils::ps,x,y,h=>uy (ps:=ps) h
 | .box _ _::ps,x,y,h=>Prod.ext h.1 (uy h.2)
 | .row _ _::ps,x,y,h=>Prod.ext h.1 (uy h.2)
theorem FK:∀{rs:List RK}{x:ju rs},bU (wF rs x x)
 | [],_=>trivial
 | _::rs,x=>⟨rfl,FK (rs:=rs)⟩
theorem rZ:∀{ps:List PK}{x:gF ps},bU (oZ ps x x)
 | [],_=>trivial
 | .val _::ps,x=>rZ (ps:=ps)
 | .agg _::ps,x=>rZ (ps:=ps)
 | .own _ _::ps,x=>rZ (ps:=ps)
 | .ago _::ps,x=>rZ (ps:=ps)
 | .fn _ _::ps,x=>rZ (ps:=ps)
 | .nils::ps,x=>rZ (ps:=ps)
 | .box _ _::ps,x=>⟨rfl,rZ⟩
 | .row _ _::ps,x=>⟨rfl,rZ⟩
theorem Ct.ok(c:Ct){f:FuncId}{b:Func}{code:Code}(hf:P.funcs[f]? = some b)(hb:b.body=some code)(hs:iQ P sp)(a:P.follows .mixedOrders=true)(n:bu c.ps->bS)
  (vc:wM c.ps λd=>xc c.ps d->qt (c.pre d)->ur (xm c.ps d b.ntmps) (sx P sp (n d) code (yE P c.ps c.rs b.results.toList λy=>qt (wF c.rs y.1 (c.out d).1++oZ c.ps y.2 (c.out d).2)))):nN P sp.gl f c.spec:=by
 intro base svs h d r e hp w0 N0 A env w vs hG m hd
 obtain⟨⟨o,fz,bx,cx⟩,q1,q2,e1,g,rfl⟩:=Q.run_bind _ _ _ e
 split at g
 case h_2=>cases g
 rename_i i
 obtain⟨rfl,j⟩:=Dt g
 refine (Si (λd y=>qt (wF c.rs y.1 (c.out d).1++oZ c.ps y.2 (c.out d).2)) hf hb hs a n e1 i j (λhw=>HQ.1 vc o hw (yy.2 hp)) hG m hd).mono ?_
 rintro e' w' ⟨v,y,rfl,hy,A',env',h1,h2,h3⟩
 obtain⟨k,l⟩:=pb.1 (yy.1 hy)
 have:y=c.out o:=Prod.ext (Qr k) (uy l)
 subst this
 exact⟨v,rfl,(),A',env',bv,h1,h2,h3⟩
theorem Cn.ok(c:Cn){f:FuncId}{g:Func}{code:Code}(hf:P.funcs[f]? = some g)(hb:g.body=some code)(hs:iQ P sp)(a:P.follows .mixedOrders=true)(l:bu c.ps->bS)
  (vc:wM c.ps λd=>xc c.ps d->qt (c.pre d)->ur (xm c.ps d g.ntmps) (sx P sp (l d) code (yE P c.ps c.rs g.results.toList (c.post d)))):nN P sp.gl f c.spec:=by
 intro b svs h d r e hp w0 N0 A env w vs hG m hd
 obtain⟨⟨dd,fz,bx,cx⟩,q1,q2,e1,i,rfl⟩:=Q.run_bind _ _ _ e
 split at i
 case h_2=>cases i
 rename_i j
 obtain⟨rfl,k⟩:=Dt i
 refine (Si c.post hf hb hs a l e1 j k (λhw=>HQ.1 vc dd hw (yy.2 hp)) hG m hd).mono ?_
 rintro e' w' ⟨v,y,rfl,hy,A',env',h1,h2,h3⟩
 refine⟨v,rfl,y,A',env',hy,?_,h2,h3⟩
 show Mod w0 N0 A' env' (cT ((yS c.ps c.rs b fz bx cx).map λp=>(p.1,p.2 y)) h) w'
 rw[OC];exact h1
def Ct.nspec(c:Ct):Spec:=λbase svs=>(gV none c.ps svs).bind λp=>match yM p.2.1 p.2.2.1 p.2.2.2 with
 | true=>qg base (gM c.rs+js c.ps) (.nd (ju c.rs×gF c.ps) (QC c.rs c.ps) (c.pre p.1) (λy=>qt (wF c.rs y.1 (c.out p.1).1++oZ c.ps y.2 (c.out p.1).2)) (λ_=>⟨c.out p.1,yy.2 (pb.2 ⟨FK,rZ⟩)⟩)
   (λy=>qr (jV (p.2.2.1.headD 0) c.rs y.1 base)) (yS c.ps c.rs base p.2.1 p.2.2.1 p.2.2.2))
 | false => .fail
theorem Nd{h:bR}{dl d:Dl}:∀{k n:Nat}{r:List Nat},(qg n k dl).run h=some (d,r)→∀ a,(qg n k a).run h=some (a,r)
 | 0,n,r,e,a=>by
  simp only[qg,Q.run,bp,br] at e ⊢;exact⟨bv,e.2⟩
 | k+1,n,r,e,a=>by
  simp only[qg,Q.run] at e ⊢;split at e
  .rename_i p q hk;obtain⟨rfl,rfl⟩:=e;split at hk
   next hun=>have:=Nd hk a;rw[this]
   .cases hk
  .cases e
universe u v
theorem Q.bind_run1{h:bR}{α:Type u}{β:Type v}(q:Q α)(f:α->Q β){a:α}{d:List Nat}{b:β}{r2:List Nat}(c:q.run h=some (a,d))(h2:(f a).run h=some (b,r2)):(q.bind f).run h=some (b,d++r2):=by
 induction q generalizing d with
 | ret x=>simp only[Q.run,bp,br] at c;obtain⟨rfl,rfl⟩:=c;simpa[Q.bind] using h2
 | ask n k ih =>
  simp only[Q.run] at c;split at c
  next x y hk=>obtain⟨rfl,rfl⟩:=c;simp only[Q.bind,Q.run,ih _ hk,jS]
  .cases c
 | fail=>cases c
theorem Ct.named{G:tG}{c:Ct}{f:FuncId}(ok:nN P G f c.spec):nN P G f c.nspec:=by
 intro a svs h d r e hp w0 N0 A env w vs hG m hd
 obtain⟨⟨b,fz,bx,cx⟩,q1,q2,e1,g,rfl⟩:=Q.run_bind _ _ _ e
 split at g
 case h_2=>cases g
 obtain⟨rfl,hun⟩:=Dt g
 have e3:=Nd g (.det (c.pre b) (qr (jV (bx.headD 0) c.rs (c.out b).1 a)) (tu c.ps c.rs (c.out b) a fz bx cx))
 have e4:(c.spec a svs).run h=some (.det (c.pre b) (qr (jV (bx.headD 0) c.rs (c.out b).1 a)) (tu c.ps c.rs (c.out b) a fz bx cx),q1++q2):=by
  refine Q.bind_run1 _ _ e1 ?_;simp_all
 refine (ok a svs h _ _ e4 hp w0 N0 A env w vs hG m hd).mono ?_
 rintro e' w' ⟨v,he,x,A',env',_,h1,h2,h3⟩
 refine⟨v,he,c.out b,A',env',yy.2 (pb.2 ⟨FK,rZ⟩),?_,h2,h3⟩
 show Mod w0 N0 A' env' (cT ((yS c.ps c.rs a fz bx cx).map λp=>(p.1,p.2 (c.out b))) h) w'
 rw[OC];exact h1
end
end Go.SX
namespace Go.SX
open Go.ChangeShapes Go.WideShapes Go.ChangeAt Go.RowKit
universe u v
def uI(P:Program)(f:CT->TypeId->Bool):List Field->CT->Nat->Bool
 | [],_,_=>false
 | [fd],t,o=>f t fd.type&&Nat.beq fd.offset o&&Nat.beq (P.cellsOf fd.type) t.size
 | fd::g::r,.pair a b,o=>f a fd.type&&Nat.beq fd.offset o&&Nat.beq (P.cellsOf fd.type) a.size&&uI P f (g::r) b (o+a.size)
 | _,_,_=>false
def tY(P:Program)(f:CT->TypeId->Bool)(e:TypeId):Nat->CT->Bool
 | 0,_=>false
 | 1,t=>f t e&&Nat.beq (P.cellsOf e) t.size
 | n+2,.pair a b=>f a e&&Nat.beq (P.cellsOf e) a.size&&tY P f e (n+1) b
 | _,_=>false
def mj(P:Program):Nat->CT->TypeId->Bool
 | 0,_,_=>false
 | n+1,t,τ=>match P.underlying τ,t with
  | some (.int k),.int k'=>lf k k'
  | some .bool,.bool=>true
  | some .string,.str=>true
  | some (.slice e),.sl u=>mj P n u e&&Nat.beq (P.cellsOf e) u.size
  | some (.struct fs),t=>uI P (mj P n) fs.toList t 0
  | some (.array k e),t=>tY P (mj P n) e k t
  | _,_=>false
section
variable {H:Type} {enc:TypeId×Value->H} {P:Program} {w:World} {base:Nat} {held:Bool}
theorem vl{A:Nat->Prop}{t:CT}{cs:List Value}{o sz:Nat}{d:t.D}(hs:sz=t.size)(h:Rd A w t (λj=>((cs.drop o).take sz)[j]?) 0 d):Rd A w t (λj=>cs[j]?) o d:=by
 have:=wW h o
 rw[gz] at this
 refine iC (λ_ h=>h) (λ_ _ _=>rfl) t _ _ _ _ (λj hj=>?_) this
 simp only[ot,kL]
 rw[am (by omega),pD]
theorem Qo{A:Nat->Prop}{f:CT->TypeId->Bool}{cs:List Value}{n:Nat}
  (hf:∀ t τ cs x,f t τ=true->DataW.trod enc P w base (λ_=>true) held n τ cs=some x→∃ d,Rd A w t (λj=>cs[j]?) 0 d) :
  ∀(fs:List Field)(t:CT)(o:Nat),uI P f fs t o=true->(∀ fd∈fs,∃ x,DataW.trod enc P w base (λ_=>true) held n fd.type ((cs.drop fd.offset).take (P.cellsOf fd.type))=some x)→∃ d,Rd A w t (λj=>cs[j]?) o d
 | [],t,o,h,_=>by cases h
 | [fd],t,o,h,hx=>by
  simp only[uI,dr] at h;obtain⟨⟨h1,h2⟩,h3⟩:=h;have h2:=bJ h2;have h3:=bJ h3;obtain⟨x,hx⟩:=hx fd (by simp);obtain⟨d,hd⟩:=hf t fd.type _ x h1 hx;rw[h2] at hd;exact⟨d,vl h3 hd⟩
 | fd::g::r,.pair a b,o,h,hx=>by
  simp only[uI,dr] at h;obtain⟨⟨⟨h1,h2⟩,h3⟩,h4⟩:=h;have h2:=bJ h2;have h3:=bJ h3;obtain⟨x,hx1⟩:=hx fd (by simp);obtain⟨d,hd⟩:=hf a fd.type _ x h1 hx1;rw[h2] at hd;obtain⟨d',hd'⟩:=Qo hf (g::r) b (o+a.size) h4 (λfd' hm=>hx fd' (fw _ hm));exact⟨(d,d'),vl h3 hd,hd'⟩
 | _::_::_,.int _,_,h,_=>by cases h
 | _::_::_,.bool,_,h,_=>by cases h
 | _::_::_,.str,_,h,_=>by cases h
 | _::_::_,.sl _,_,h,_=>by cases h
theorem K6{A:Nat->Prop}{f:CT->TypeId->Bool}{cs:List Value}{n:Nat}{e:TypeId}
  (hf:∀ t τ cs x,f t τ=true->DataW.trod enc P w base (λ_=>true) held n τ cs=some x→∃ d,Rd A w t (λj=>cs[j]?) 0 d) :
  ∀(k:Nat)(t:CT)(i:Nat),tY P f e k t=true->(∀ j,i<=j->j<i+k→∃ x,DataW.trod enc P w base (λ_=>true) held n e ((cs.drop (j*P.cellsOf e)).take (P.cellsOf e))=some x)→∃ d,Rd A w t (λj=>cs[j]?) (i*P.cellsOf e) d
 | 0,t,i,h,_=>by cases h
 | 1,t,i,h,hx=>by
  simp only[tY,dr] at h;obtain⟨h1,h2⟩:=h;have h2:=bJ h2;obtain⟨x,hx⟩:=hx i (by omega) (by omega);obtain⟨d,hd⟩:=hf t e _ x h1 hx;exact⟨d,vl h2 hd⟩
 | k+2,.pair a b,i,h,hx=>by
  simp only[tY,dr] at h;obtain⟨⟨h1,h2⟩,h4⟩:=h;have h2:=bJ h2;obtain⟨x,hx1⟩:=hx i (by omega) (by omega);obtain⟨d,hd⟩:=hf a e _ x h1 hx1;obtain⟨d',hd'⟩:=K6 hf (k+1) b (i+1) h4 (λj h1 h2=>hx j (by omega) (by omega));refine⟨(d,d'),vl h2 hd,?_⟩;rw[fN,jH] at hd';rw[← h2];exact hd'
 | _+2,.int _,_,h,_=>by cases h
 | _+2,.bool,_,h,_=>by cases h
 | _+2,.str,_,h,_=>by cases h
 | _+2,.sl _,_,h,_=>by cases h
theorem WN{α:Type}(n:Nat)(p:Nat->α->Prop)(h:∀ i,i<n→∃ a,p i a):∃ l:List α,l.length=n∧∀ i (hi:i<l.length),p i l[i]:=by
 induction n with
 | zero=>exact⟨[],rfl,λi hi=>by simp at hi⟩
 | succ n ih =>
  obtain⟨l,hl,hp⟩:=ih λi hi=>h i (by omega);obtain⟨a,ha⟩:=h n (by omega);refine⟨l++[a],by simp[hl],λi hi=>?_⟩;by_cases hlt:i<l.length
  .rw[List.getElem_append_left hlt];exact hp i hlt
  .have:i=l.length:=by simp at hi;omega
   subst this;simp only[List.getElem_concat_length];rw[hl];exact ha
theorem KW(b off n:Nat):(⟨b,off,none⟩:Addr).add n=⟨b,off+n,none⟩:=by
 unfold Addr.add
 split
 next h=>subst h;rfl
 .rfl
theorem Oi{k:IntKind}{n:Int}(h:(Lit.int k n).wf=true):k.has n:=by
 simp only[Lit.wf,dr,jz] at h;exact h
theorem CM:∀(n:Nat)(t:CT)(τ:TypeId)(fuel:Nat)(cs:List Value)(x:DataW H×List MemPlace),mj P n t τ=true->DataW.trod enc P w base (λ_=>true) held fuel τ cs=some x →
  ∃ d,Rd (λb=>b<w.heap.size) w t (λj=>cs[j]?) 0 d
 | 0,t,τ,fuel,cs,x,h,_=>by cases h
 | n+1,t,τ,fuel,cs,x,h,hx=>by
  unfold mj at h;split at h
  next k k' hu=>cases lM h;obtain⟨m,rfl,_,hw⟩:=DataW.trod_int hu hx;exact⟨m,by simp,Oi hw⟩
  next hu=>obtain⟨b,rfl,_⟩:=DataW.trod_bool hu hx;exact⟨b,by simp[Rd]⟩
  next hu=>obtain⟨s,rfl,_,hs⟩:=DataW.trod_string hu hx;exact⟨s,by simp,hs⟩
  .rename_i e u hu;simp only[dr] at h;obtain⟨h1,h2⟩:=h;have h2:=bJ h2;rcases DataW.trod_slice hu hx with⟨rfl,_⟩|⟨a,len,cap,elems,rest,m,_,rfl,_,_,hl,hm,hlen,hel,hsp,_⟩
   .exact⟨[],rE.2 ⟨_,rfl,by simp,.inl ⟨⟨_,rfl⟩,rfl⟩⟩⟩
   .have hcap:=(hsp rfl)
    by_cases h0:cap=0
    .have:len=0:=by omega
     subst this h0;exact⟨[],rE.2 ⟨_,rfl,by simp,.inl ⟨⟨_,rfl⟩,rfl⟩⟩⟩
    ·-- the cells that are there
     have first:∃ v,w.cell? a=some v:=by
      have hb:∃ cs',w.cells? base (a.add 0) (P.cellsOf e)=some cs':=by
       by_cases hl0:0<len
       .have:=hel 0 hl0;rw[Nat.zero_mul] at this;have hs:∃ y,elems[0]? = some y:=⟨_,cF (by omega)⟩
        obtain⟨y,hy⟩:=hs;rw[hy,Option.bind_eq_some_iff] at this;obtain⟨cs',hcs,_⟩:=this;exact⟨cs',hcs⟩
       .have:=hcap.2 0 (by omega);have hz:(len+0)*P.cellsOf e=0:=by
         have:len=0:=by omega
         subst this;simp
        rw[hz] at this;have hs:∃ y,rest[0]? = some y:=⟨_,cF (by omega)⟩
        obtain⟨y,hy⟩:=hs;rw[hy,Option.bind_eq_some_iff] at this;obtain⟨cs',hcs,_⟩:=this;exact⟨cs',hcs⟩
      obtain⟨cs',hcs⟩:=hb;obtain⟨_,hl1,hl2⟩:=World.cells?_some hcs;have hp:=u.size_pos;have:=hl2 0 (by omega);refine⟨cs'[0]'(by omega),?_⟩;rw[cF (by omega)] at this;simpa[Addr.add] using this
     obtain⟨v0,hv0⟩:=first
     have hspot:=World.cell?_spot hv0;obtain⟨b,off,spot⟩:=a;simp only at hspot;subst hspot;have hlt:b<w.heap.size:=by
      unfold World.cell? at hv0;simp only at hv0;split at hv0
      next c E sp hb=>exact (Array.getElem?_eq_some_iff.1 hb).1
      .cases hv0
     obtain⟨xs,hxl,hxp⟩:=WN len (λi d=>Rd (λb=>b<w.heap.size) w u (λo=>w.cell? ⟨b,o,none⟩) (off+i*u.size) d) λi hi=>by
      have:=hel i hi;rw[cF (by omega),Option.bind_eq_some_iff] at this;obtain⟨cs',hcs,ht⟩:=this;obtain⟨_,hl1,hl2⟩:=World.cells?_some hcs;obtain⟨d,hd⟩:=CM n u e _ cs' _ h1 ht;refine⟨d,?_⟩;have:=wW hd (off+i*u.size);rw[gz] at this;refine iC (λ_ h=>h) (λ_ _ _=>rfl) u _ _ _ _ (λj hj=>?_) this;have:=hl2 j (by omega);rw[KW,KW,h2] at this;rw[kL,← this]
     subst hxl;exact⟨xs,rE.2 ⟨_,rfl,by omega,.inr ⟨b,off,cap,rfl,hl,hm,hlt,λi hi=>hxp i hi⟩⟩⟩
  .rename_i t' fs hu;obtain⟨xs,m,_,_,hl,hlen,hf⟩:=DataW.trod_struct hu hx;refine Qo (n:=m) (λt τ cs x h1 h2=>CM n t τ m cs x h1 h2) fs.toList _ 0 h λfd hm=>?_;obtain⟨i,hi,rfl⟩:=List.mem_iff_getElem.1 hm;have:=hf i fs[i] (Array.getElem?_eq_getElem (by simpa using hi));have hi':i<fs.size:=by simpa using hi
   rw[cF (by omega)] at this;exact⟨_,by simpa using this⟩
  .rename_i t' k e hu;obtain⟨xs,m,_,_,hl,hlen,hf⟩:=DataW.trod_array hu hx;have:=K6 (n:=m) (cs:=cs) (e:=e) (λt τ cs x h1 h2=>CM n t τ m cs x h1 h2) k _ 0 h λj _ hj=>by
    have:=hf j (by omega);rw[cF (by omega)] at this;exact⟨_,this⟩
   simpa using this
  .cases h
abbrev oP:=List (Bool×CT)
def kz:oP->List PK
 | []=>[]
 | (true,t)::r => .agg t::kz r
 | (false,t)::r => .val t::kz r
def yb:(l:oP)->gF (kz l)
 | []=>()
 | (true,_)::r=>yb r
 | (false,_)::r=>yb r
def AW(l:oP):Ct:=⟨kz l,[.val .bool],λ_=>[],λ_=>((true,()),yb l)⟩
def sQ(P:Program)(τ:TypeId):Bool:=match P.underlying τ with
 | some (.struct _)=>true
 | some (.array _ _)=>true
 | _=>false
def DY:CT->Bool
 | .pair _ _=>false
 | _=>true
def zU(P:Program):oP->List TypeId->Bool
 | [],[]=>true
 | (b,t)::r,τ::τs=>(match b,sQ P τ with|true,true=>true|false,false=>DY t|_,_=>false)&&mj P 12 t τ&&Nat.beq (P.cellsOf τ) t.size&&zU P r τs
 | _,_=>false
theorem aj5{r:Reach}{b0:Nat}{τ:TypeId}{v:Value}(h:sQ P τ=true)(hv:Value.okWide P w r b0 τ v):∃ vs,v = .agg vs/\vs.size=P.cellsOf τ:=by
 unfold sQ at h
 unfold Value.okWide at hv
 split at h
 next fs hu=>rw[hu] at hv;obtain⟨cs,h1,h2,_⟩:=hv;exact⟨cs,h1,h2⟩
 next fs hu=>rw[hu] at hv;obtain⟨cs,h1,h2,_⟩:=hv;exact⟨cs,h1,h2⟩
 .cases h
theorem as6{r:Reach}{b0:Nat}{τ:TypeId}{v:Value}(ht:P.underlying τ=some .bool)(h:Value.okWide P w r b0 τ v):∃ b,v = .bool b:=by
 simp only[Value.okWide,ht,Cell.okWide] at h
 cases v <;> simp_all[Cell.ok]
theorem TU{r:Reach}{b0:Nat}{n:Nat}{t:CT}{τ:TypeId}{v:Value}(hf:DY t=true)(hq:sQ P τ=false)(h:mj P n t τ=true)(hv:Value.okWide P w r b0 τ v):v.cells = #[v]:=by
 cases n with
 | zero=>cases h
 | succ n =>
  unfold mj at h;split at h
  next k k' hu=>obtain⟨m,rfl⟩:=okWide_int hu hv;rfl
  next hu=>obtain⟨m,rfl⟩:=as6 hu hv;rfl
  next hu=>obtain⟨m,rfl⟩:=okWide_string hu hv;rfl
  next e u hu=>obtain⟨a,l,c,rfl⟩:=okWide_slice hu hv;rfl
  next t' fs hu=>unfold sQ at hq;rw[hu] at hq;cases hq
  next t' k e hu=>unfold sQ at hq;rw[hu] at hq;cases hq
  .cases h
theorem Sr(k:IntKind):lf k k=true:=by cases k <;> rfl
theorem ZM{t:CT}{xs:List t.D}:hY t t xs=some xs:=by unfold hY;rw[dif_pos rfl]
theorem Df{h:bR}:∀(t:CT)(d:t.D)(rest:List SV),(jw t (cR t d++rest)).run h=some ((d,rest,[]),[])
 | .int k,d,rest=>by simp only[cR,jS,pH,jw,Sr];rfl
 | .bool,d,rest=>rfl
 | .str,d,rest=>rfl
 | .sl t,d,rest=>by simp only[cR,jS,pH,jw,ZM];rfl
 | .pair a b,d,rest=>by
  have bindrun:∀{α β:Type}(q:Q α)(f:α->Q β)(x:α)(y:β),q.run h=some (x,[])->(f x).run h=some (y,[])->(q.bind f).run h=some (y,[]):=by
   intro α β q
   induction q with
   | ret a=>intro f x y h1 h2;simp only[Q.run,bp,br] at h1;rw[← h1.1] at h2;exact h2
   | ask n k ih =>
    intro f x y h1 h2;simp only[Q.run] at h1;split at h1
    .simp only[bp,br] at h1;exact absurd h1.2 (by simp)
    .cases h1
   | fail=>intro f x y h1 h2;cases h1
  simp only[cR,iN,jw];refine bindrun _ _ _ _ (Df a d.1 (cR b d.2++rest)) ?_;exact bindrun _ _ _ _ (Df b d.2 rest) rfl
theorem Q.bind_run0{h:bR}{α:Type u}{β:Type v}(q:Q α)(f:α->Q β)(x:α)(y:β)(h1:q.run h=some (x,[]))(h2:(f x).run h=some (y,[])):(q.bind f).run h=some (y,[]):=by
 cases q with
 | ret a=>simp only[Q.run,bp,br] at h1;rw[← h1.1] at h2;exact h2
 | ask n k =>
  simp only[Q.run] at h1;split at h1
  .simp only[bp,br] at h1;exact absurd h1.2 (by simp)
  .cases h1
 | fail=>cases h1
theorem ay4{t:CT}(hf:DY t=true)(d:t.D):cR t d=[yk t d]:=by
 cases t <;> first|rfl|cases hf
def wt:oP->Bool
 | []=>true
 | (b,t)::r=>(b||DY t)&&wt r
theorem FL{h:bR}:∀(l:oP)(d:bu (kz l)),wt l=true->(gV none (kz l) (iM (kz l) d 0 0)).run h=some ((d,[],[],[]),[])
 | [],d,_=>rfl
 | (true,t)::r,d,hok=>by
  simp only[wt,dr] at hok;simp only[kz,iM,gV];refine Q.bind_run0 _ _ _ _ (by have:=Df (h:=h) t d.1 [];rw[ke] at this;exact this) ?_;exact Q.bind_run0 _ _ _ _ (FL r d.2 hok.2) rfl
 | (false,t)::r,d,hok=>by
  simp only[wt,dr,Bool.false_or] at hok;simp only[kz,iM,gV];refine Q.bind_run0 _ _ _ _ (by have:=Df (h:=h) t d.1 [];rw[ke,ay4 hok.1] at this;exact this) ?_;exact Q.bind_run0 _ _ _ _ (FL r d.2 hok.2) rfl
theorem KK{r:Reach}{b0:Nat}:∀(l:oP)(τs:List TypeId)(vs:List Value)(ds:List (DataW H))(ps:List MemPlace),zU P l τs=true->DataW.TrodAll enc P w base (λ_=>true) held τs vs ds ps →
  (∀(j:Nat) t v,τs[j]? = some t->vs[j]? = some v->Value.okWide P w r b0 t v)->wt l=true∧∃ d:bu (kz l),aS (λb=>b<w.heap.size) (λ_=>.un) w (iM (kz l) d 0 0) vs
 | [],[],vs,ds,ps,h,ht,hv=>by
  obtain⟨rfl,_,_⟩:=trodAll_nil ht;exact⟨rfl,(),by simp[kz,iM,aS]⟩
 | (b,t)::l,τ::τs,vs,ds,ps,h,ht,hv=>by
  obtain⟨v,vs',d,ds',p,q,rfl,rfl,rfl,h0,hr⟩:=trodAll_cons ht;simp only[zU,dr] at h;obtain⟨⟨⟨h1,h2⟩,h3⟩,h4⟩:=h;have h3:=bJ h3;obtain⟨g1,d2,g2⟩:=KK l τs vs' ds' q h4 hr (λj t v ht hv'=>hv (j+1) t v (by simpa using ht) (by simpa using hv'));have hv0:=hv 0 τ v rfl rfl;obtain⟨fuel,hf⟩:=h0;obtain⟨d1,hd1⟩:=CM 12 t τ fuel _ _ h2 hf;cases b with
  | true =>
   have hag:sQ P τ=true:=by
    cases hq:sQ P τ with
    | true=>rfl
    | false=>rw[hq] at h1;cases h1
   obtain⟨us,rfl,hus⟩:=aj5 hag hv0;refine⟨by simp[wt,g1],(d1,d2),?_⟩;simp only[kz,iM,aS,aB];refine⟨_,vs',rfl,⟨us,rfl,CC (by simpa using hus.trans h3) (by simpa[Value.cells] using hd1)⟩,g2⟩
  | false =>
   have hq:sQ P τ=false:=by
    cases hq:sQ P τ with
    | true=>rw[hq] at h1;cases h1
    | false=>rfl
   rw[hq] at h1;simp only at h1;refine⟨by simp[wt,g1,h1],(d1,d2),?_⟩;simp only[kz,iM,aS];have hc:=TU h1 hq h2 hv0;rw[hc] at hd1;exact⟨v,vs',rfl,Jj (rest:=[]) (by simpa using hd1),g2⟩
 | [],_::_,_,_,_,h,_,_=>by cases h
 | _::_,[],_,_,_,h,_,_=>by cases h
def GlobsOK(w:World)(G:tG):Prop:=∀ g x,G g=some x->g<w.heap.size/\Rd (λb=>b<w.heap.size) w x.1 (λo=>w.cell? ⟨g,o,none⟩) 0 x.2
theorem law_walkG{G:tG}(hG:GlobsOK w G){f:FuncId}{l:oP}(ok:nN P G f (AW l).spec){r:Reach}{b0:Nat}{τs:List TypeId}{args:Array Value}{ds:List (DataW H)}{ps:List MemPlace}(hl:zU P l τs=true)
  (ht:DataW.TrodAll enc P w base (λ_=>true) held τs args.toList ds ps) (hv:∀(j:Nat) t v,τs.toArray[j]? = some t->args[j]? = some v->Value.okWide P w r b0 t v) :
  Calls P f args w λe w'=>e = .returned (.bool true)/\Below w.heap.size w w':=by
 obtain⟨hok,d,hd⟩:=KK l τs args.toList ds ps hl ht (λj t v h1 h2=>hv j t v (by simpa using h1) (by simpa using h2))
 have hkeep:xd (kz l) [.val .bool]=false:=by
  have:∀ l:oP,me (kz l)=true:=by
   intro l
   induction l with
   | nil=>rfl
   | cons x l ih=>obtain⟨b,t⟩:=x;cases b <;> exact ih
  simp only[xd,this,tO,CT.plain,Bool.and_self,Bool.not_true]
 have hbU:∀ nb,gE 0 (kz l) (yb l) [] nb=[]:=by
  intro nb
  induction l with
  | nil=>rfl
  | cons x l ih =>
   obtain⟨b,t⟩:=x;have:∀ l:oP,gE 0 (kz l) (yb l) [] nb=[]:=by
    intro l
    induction l with
    | nil=>rfl
    | cons x l ih=>obtain⟨b,t⟩:=x;cases b <;> exact ih
   cases b <;> exact this l
 have hnU:∀(l:oP) nb,iI (kz l) (yb l) nb=[]:=by
  intro l nb
  induction l with
  | nil=>rfl
  | cons x l ih=>obtain⟨b,t⟩:=x;cases b <;> exact ih
 have hnB:∀(l:oP),js (kz l)=0:=by
  intro l
  induction l with
  | nil=>rfl
  | cons x l ih=>obtain⟨b,t⟩:=x;cases b <;> exact ih
 have hrun:((AW l).spec 0 (iM (kz l) d 0 0)).run (λ_=>.un)=some (Dl.det [] (.bool true) [],[]):=by
  unfold Ct.spec;refine Q.bind_run0 _ _ _ _ (FL l d hok) ?_;simp only[yM,jB,ke,Bk,Bh,AW,tu,hkeep,hbU,hnU,hnB,po,lx,jV,qr,yk,cR,gM,qg,List.headD_nil];rfl
 have m:Mod w ⟨λ_=>False,λb=>b<w.heap.size,G⟩ (λb=>b<w.heap.size) (λ_=>.un) (λ_=>.un) w :=
  ⟨rfl,rfl,rfl,eZ _,λ_ _ _=>rfl,λ_ h=>h,λ_=>rfl,λ_ _ _ _ h=>(by cases h),λ_ _ _ _ _ _ _ h=>(by cases h),λb hb=>.inl hb,hG⟩
 have:=ok 0 (iM (kz l) d 0 0) (λ_=>.un) _ _ hrun trivial w _ _ _ w args.toList rfl m hd
 refine Calls.mono this ?_
 rintro e w' ⟨v,rfl,x,A',env',_,hm,_,hden⟩
 simp only[Dl.val,aB] at hden
 exact⟨by rw[hden],hm.os,hm.tape,hm.output,hm.size,λk hk=>hm.fr k hk (λh=>h)⟩
theorem law_walk{f:FuncId}{l:oP}(ok:nN P (λ_=>none) f (AW l).spec){r:Reach}{b0:Nat}{τs:List TypeId}{args:Array Value}{ds:List (DataW H)}{ps:List MemPlace}(hl:zU P l τs=true)
  (ht:DataW.TrodAll enc P w base (λ_=>true) held τs args.toList ds ps) (hv:∀(j:Nat) t v,τs.toArray[j]? = some t->args[j]? = some v->Value.okWide P w r b0 t v) :
  Calls P f args w λe w'=>e = .returned (.bool true)/\Below w.heap.size w w':=law_walkG (λg x h=>by cases h) ok hl ht hv
def H8(P:Program):List TypeId->Bool
 | []=>true
 | t::r=>P.readableRec t&&decide (t<P.types.size)&&H8 P r
theorem trodAll_below(hl:laidOutB P=true):∀{τs:List TypeId}{vs:List Value}{ds:List (DataW H)}{ps:List MemPlace}{w':World},H8 P τs=true →
  DataW.TrodAll enc P w 0 (λ_=>true) true τs vs ds ps->Below w.heap.size w w'→DataW.TrodAll enc P w' 0 (λb=>decide (b<w.heap.size)) true τs vs ds ps
 | [],vs,ds,ps,w',_,h,hb=>by
  obtain⟨rfl,rfl,rfl⟩:=trodAll_nil h;exact trodAll_mk0
 | τ::τs,vs,ds,ps,w',hr,h,hb=>by
  obtain⟨v,vs',d,ds',p,q,rfl,rfl,rfl,h0,hr'⟩:=trodAll_cons h;simp only[H8,dr,jz] at hr;have lt:∀ x∈p,x.block<w.heap.size:=by
   obtain⟨m,hm⟩:=h0;exact DataW.trod_lt m _ _ _ hm
  exact trodAll_cons_mk (Below.trod hl hr.1.1 hr.1.2 h0 hb lt) (trodAll_below hl hr.2 hr' hb)
end
end Go.SX
namespace Go.SX
def yJ(fn:Func):Code:=match fn.body with
 | some c=>c
 | none => .skip
def Ct.vc(P:Program)(sp:d6)(c:Ct)(fn:Func)(an:bu c.ps->bS):Prop :=
 wM c.ps λd=>xc c.ps d->qt (c.pre d)->ur (xm c.ps d fn.ntmps) (sx P sp (an d) (yJ fn) (yE P c.ps c.rs fn.results.toList λy=>qt (wF c.rs y.1 (c.out d).1++oZ c.ps y.2 (c.out d).2)))
structure IR (p:Prop):Prop where
 out:p
theorem K5{p q:Prop}(h:p=q)(v:q):IR p:=⟨Eq.mpr h v⟩
theorem Ct.okH{P:Program}{sp:d6}(c:Ct){f:FuncId}{fn:Func}(hf:P.funcs[f]? = some fn)(hb:fn.body=some (yJ fn))(hs:iQ P sp)(qk:P.follows .mixedOrders=true)(an:bu c.ps->bS)
  (vc:IR (Ct.vc P sp c fn an)):nN P sp.gl f c.spec:=c.ok hf hb hs qk an vc.out
def Cn.vc(P:Program)(sp:d6)(c:Cn)(fn:Func)(an:bu c.ps->bS):Prop :=
 wM c.ps λd=>xc c.ps d->qt (c.pre d)->ur (xm c.ps d fn.ntmps) (sx P sp (an d) (yJ fn) (yE P c.ps c.rs fn.results.toList (c.post d)))
theorem Cn.okH{P:Program}{sp:d6}(c:Cn){f:FuncId}{fn:Func}(hf:P.funcs[f]? = some fn)(hb:fn.body=some (yJ fn))(hs:iQ P sp)(qk:P.follows .mixedOrders=true)(an:bu c.ps->bS)
  (vc:IR (Cn.vc P sp c fn an)):nN P sp.gl f c.spec:=c.ok hf hb hs qk an vc.out
def Uu(G:tG):d6:=⟨λ_=>none,G⟩
theorem aE{P:Program}{G:tG}:iQ P (Uu G):=λf s h=>by cases h
def wh(sp:d6)(f:FuncId)(s:Spec):d6:=⟨λg=>match Nat.beq g f with
 | true=>some s
 | false=>sp.fn g,sp.gl⟩
theorem au{P:Program}{sp:d6}{f:FuncId}{s:Spec}(h:iQ P sp)(hs:nN P sp.gl f s):iQ P (wh sp f s):=λg t e=>by
 unfold wh at e
 simp only at e
 split at e
 next hb=>cases e;rw[bJ hb];exact hs
 .exact h g t e
def al0(sp:d6)(d:Nat):d6:=wh sp (4000000000+d) λ_ _=>.fail
theorem Cp{P:Program}{sp:d6}{d:Nat}(h:iQ P sp):iQ P (al0 sp d):=au h λ_ _ _ _ _ e=>by cases e
def ZK(sp:d6)(d:Nat):d6:=wh sp (4100000000+d) λ_ _=>.fail
theorem aV6{P:Program}{sp:d6}{d:Nat}(h:iQ P sp):iQ P (ZK sp d):=au h λ_ _ _ _ _ e=>by cases e
def aL5(sp:d6):d6:=wh sp 4200000000 λ_ _=>.fail
theorem aB6{P:Program}{sp:d6}(h:iQ P sp):iQ P (aL5 sp):=au h λ_ _ _ _ _ e=>by cases e
def aS6(sp:d6)(d:Nat):d6:=wh sp (4300000000+d) λ_ _=>.fail
theorem ar3{P:Program}{sp:d6}{d:Nat}(h:iQ P sp):iQ P (aS6 sp d):=au h λ_ _ _ _ _ e=>by cases e
def Yv(sp:d6)(d n:Nat):d6:=wh sp (4400000000+d) λ_ _=>.ask n λ_=>.fail
theorem af4{P:Program}{sp:d6}{d n:Nat}(h:iQ P sp):iQ P (Yv sp d n):=au h λ_ _ _ _ _ e=>by simp[Q.run] at e
theorem aw5{b:Bool}{y n:Prop}:ao b y n↔(b=true->y)/\(b=false->n):=by cases b <;> simp[ao]
theorem aQ{n:Int}(h : -9223372036854775808<=n)(h':n<=9223372036854775807):IntKind.i64.wrap n=n:=IntWalk.i64_in n ⟨h,h'⟩
theorem Oa{n:Int}(h:0<=n)(h':n<=255):IntKind.u8.wrap n=n:=IntWalk.u8_in n ⟨h,h'⟩
theorem oW{n:Int}(h:0<=n)(h':n<=4294967295):IntKind.u32.wrap n=n:=IntWalk.u32_in n ⟨h,h'⟩
theorem HI{n:Int}(h:0<=n)(h':n<=18446744073709551615):IntKind.u64.wrap n=n:=IntWalk.u64_in n ⟨h,h'⟩
theorem as5{y n:Prop}:ao true y n↔y:=lW
theorem H0{y n:Prop}:ao false y n↔n:=lW
theorem bW{α:Type} [Inhabited α] {xs:List α} {i:Int} (h0:0<=i) (h1:i<xs.length):xs.getD i.toNat default∈xs:=by
 have h:i.toNat<xs.length:=by omega
 rw[ce,cF h];exact List.getElem_mem h
theorem sn{a b:Int}(ha:0<=a):0<=a.tmod b:=Int.tmod_nonneg b ha
theorem th{a b:Int}(ha:0<=a)(hb:0<b):a.tmod b<b:=Int.tmod_lt_of_pos a hb
theorem av{b:Bool}{y n:Prop}(hy:b=true->y)(hn:b=false->n):ao b y n:=aw5.2 ⟨hy,hn⟩
theorem R0(n:Int) : -9223372036854775808<=IntKind.i64.wrap n/\IntKind.i64.wrap n<=9223372036854775807:=IntKind.wrap_has .i64 n
theorem MA(n:Int):0<=IntKind.u8.wrap n/\IntKind.u8.wrap n<=255:=IntKind.wrap_has .u8 n
theorem Lg(n:Int):0<=IntKind.u32.wrap n/\IntKind.u32.wrap n<=4294967295:=IntKind.wrap_has .u32 n
theorem JF{α:Type} [Inhabited α] {p:α->Prop} {xs:List α} (h:∀ x∈xs,p x) {i:Int} (h0:0<=i) (h1:i<xs.length):p (xs.getD i.toNat default):=h _ (bW h0 h1)
theorem fQ{p:Prop} [Decidable p] (h:(!decide p)=true):¬ p:=aO (by simpa only[oX] using h)
theorem gH{p:Prop} [Decidable p] (h:(!decide p)=false):p:=aL (by simpa only[rT] using h)
theorem oT{a b:Bool}{y n:Prop}(hy:a=true∨b=true->y)(hn:a=false->b=false->n):ao (bif a then true else b) y n:=by
 cases a with
 | true=>exact hy (.inl rfl)
 | false=>cases b with
  | true=>exact hy (.inr rfl)
  | false=>exact hn rfl rfl
theorem pT{a b:Bool}{y n:Prop}(hy:a=true->b=true->y)(hn:a=false∨b=false->n):ao (bif a then b else false) y n:=by
 cases a with
 | false=>exact hn (.inl rfl)
 | true=>cases b with
  | true=>exact hy rfl rfl
  | false=>exact hn (.inr rfl)
theorem jN{α:Type} [Inhabited α] {l:List α} {i:Nat} {a:α} (h:i<l.length):(l.set i a).getD i default=a:=by
 rw[ce,List.getElem?_set_self h];rfl
theorem xY{α:Type} [Inhabited α] {q:α->Bool} {l:List α} {j:Int} (h0:0<=j) (h1:j<l.length) (h2:∀ x∈l.take j.toNat,q x=false) (h3:q (l.getD j.toNat default)=true) :
  j=if l.findIdx q<l.length then (l.findIdx q:Int) else -1:=by
 have hj:j.toNat<l.length:=by omega
 rw[ce,cF hj,fu] at h3
 have e:l.findIdx q=j.toNat:=(List.findIdx_eq hj).2 ⟨h3,λk hk=>h2 _ (List.mem_take_iff_getElem.2 ⟨k,by omega,rfl⟩)⟩
 rw[e,am hj];omega
theorem zO{α:Type} [Inhabited α] {q:α->Bool} {l:List α} {j:Int} (h1:¬ j<l.length) (h2:∀ x∈l.take j.toNat,q x=false) :
  (-1:Int)=if l.findIdx q<l.length then (l.findIdx q:Int) else -1:=by
 rw[dm (by omega)] at h2
 rw[List.findIdx_eq_length_of_false h2,af (Nat.lt_irrefl _)]
theorem nY{α:Type} [Inhabited α] {P:α->Prop} {l:List α} {j:Int} (h0:0<=j) (h1:j<l.length) (h2:∀ x∈l.take j.toNat,P x) (h3:P (l.getD j.toNat default)) :
  ∀ x∈l.take (j+1).toNat,P x:=by
 intro x hx
 have hj:j.toNat<l.length:=by omega
 rw[show (j+1).toNat=j.toNat+1 by omega,List.take_add_one,cF hj] at hx
 rw[ce,cF hj,fu] at h3
 rcases dH.1 hx with hx|hx
 .exact h2 x hx
 .simp at hx;rw[hx];exact h3
theorem nK{α:Type} [Inhabited α] {l:List α} {k:Int} (h0:0<=k) (h1:k<l.length):l.take (k+1).toNat=l.take k.toNat++[l.getD k.toNat default]:=by
 have e:(k+1).toNat=k.toNat+1:=by omega
 have hk:k.toNat<l.length:=by omega
 rw[e,List.take_add_one,cF hk,ce,cF hk]
 rfl
theorem lR{a b:Prop} [Decidable a] [Decidable b]:(bif decide a then true else decide b)=decide (a∨b):=by by_cases h:a <;> simp[h]
theorem BW{a b:Prop} [Decidable a] [Decidable b]:(bif decide a then decide b else false)=decide (a/\b):=by by_cases h:a <;> simp[h]
theorem Hn{a b:Prop} [Decidable a] [Decidable b]:(bif !decide a then !decide b else false)=decide (¬ a∧¬ b):=by by_cases h:a <;> simp[h]
theorem as1{a b:Prop} [Decidable a] [Decidable b]:(bif decide a then !decide b else false)=decide (a∧¬ b):=by by_cases h:a <;> simp[h]
theorem En{a:Prop} [Decidable a]:(!decide a)=decide (¬ a):=by by_cases h:a <;> simp[h]
theorem aM{p:Prop}(h:p:=by repeat' first|exact trivial|refine⟨trivial,?_⟩|refine⟨(by with_reducible rfl),?_⟩|refine⟨aQ (by omega) (by omega),?_⟩|refine⟨rfl,?_⟩):p:=h
theorem bO{X:Bool}{P:Bool->Prop}(h:P X):∀ b,b=X->P b:=λ_ e=>e▸h
theorem bP{p q:Prop}(k:q)(h:p:=by first|(simp;done)|(simp;omega)|(simp;intros;omega)|(simp +contextual;done)):p/\q:=⟨h,k⟩
theorem iK{p q:Prop}(k:q)(h:p:=by first|exact trivial|with_reducible rfl|exact aQ (by omega) (by omega)):p/\q:=⟨h,k⟩
theorem gB{p q:Prop}(k:q)(h:p:=by with_reducible rfl):p/\q:=⟨h,k⟩
theorem bt{p:Prop} [Decidable p] {A B:Prop} (a:p->A) (b:¬p->B):ao (decide p) A B:=av (λh=>a (aL h)) λh=>b (aO h)
def fj{A B:Type}:Qn (A×B):=⟨λk=>∀(a:A)(b:B),k (a,b),λ_ h i=>h i.1 i.2,λk=>∃ (a:A) (b:B),k (a,b),λ_ ⟨a,b,h⟩=>⟨_,h⟩⟩
def qU{A B C:Type}:Qn (A×B×C):=⟨λk=>∀(a:A)(b:B)(c:C),k (a,b,c),λ_ h i=>h i.1 i.2.1 i.2.2,λk=>∃ (a:A) (b:B) (c:C),k (a,b,c),λ_ ⟨a,b,c,h⟩=>⟨_,h⟩⟩
def MZ{A B C D:Type}:Qn (A×B×C×D):=⟨λk=>∀(a:A)(b:B)(c:C)(d:D),k (a,b,c,d),λ_ h i=>h i.1 i.2.1 i.2.2.1 i.2.2.2,λk=>∃ (a:A) (b:B) (c:C) (d:D),k (a,b,c,d),λ_ ⟨a,b,c,d,h⟩=>⟨_,h⟩⟩
def bm{A:Type 1}(k:Nat)(c:A)(r:Nat->Option A):Nat->Option A:=λn=>match Nat.beq n k with|true=>some c|false=>r n
def ci{A:Type 1}:Nat->Option A:=λ_=>none
def aR{A:Type}:A->bS:=λ_=>{}
end Go.SX
namespace Go.RS
open Go.SX Go.Proofs
def ae(b:Bool):Prop:=b->(b->b)/\True
def aq(b:Bool):Prop:=b->b
def aF(b:Bool):Prop:=b=false → !b
def ai:Int->Int:=IntKind.wrap .i64
def ah {α} [Inhabited α] (l:List α) (i:Int):α:=l.getD i.toNat default
def ac {α} (l:List α):Int:=l.length
def zTe:Int:=1099511627776
abbrev aj(x:Int):Prop := -9223372036854775808<=x/\x<=9223372036854775807
abbrev vL:CT := .pair (.pair (.int .u32) (.int .i64)) (.int .i64)
abbrev cBlocks:CT := .pair vL (.pair vL (.pair vL (.pair vL (.pair vL (.pair vL (.pair vL vL))))))
def blocksV:cBlocks.D:=(((0,8),1),((2130706432,8),2),((167772160,8),3),((2886729728,12),3),((3232235520,16),3),((2851995648,16),4),((3758096384,4),5),((4026531840,4),6))
def GL:tG:=(λn=>match n with|0=>some ⟨cBlocks,blocksV⟩|_=>none)
theorem qk:Tryz.prog.follows .mixedOrders=true:=Tryz.checked.mixed
abbrev cI:CT := .int .i64
abbrev bz:CT := .int .u8
abbrev cy:CT := .int .u32
abbrev yF:CT := .int .u64
abbrev iA:CT := .pair (.sl bz) cI
abbrev sw:CT := .pair cI cI
abbrev ob:CT := .pair cI cI
abbrev uP:CT := .pair cy (.pair cy (.pair cI (.pair cI cI)))
def ay(c:ad×Int):Prop:=0<=c.2/\c.2<=c.1.length
theorem nC{sp:d6}{c:Cn}{f:FuncId}{fn:Func}{q:Prop}(hf:Tryz.prog.funcs[f]? = some fn)(hs:iQ Tryz.prog sp)(an:bu c.ps->bS)(vc:q)(hb:fn.body=some (yJ fn):=by kernel_rfl)(he:Cn.vc Tryz.prog sp c fn an=q:=by kernel_rfl):nN Tryz.prog sp.gl f c.spec:=Cn.okH c hf hb hs qk an (K5 he vc)
theorem aH{sp:d6}{c:Ct}{f:FuncId}{fn:Func}{q:Prop}(hf:Tryz.prog.funcs[f]? = some fn)(hs:iQ Tryz.prog sp)(an:bu c.ps->bS)(vc:q)(hb:fn.body=some (yJ fn):=by kernel_rfl)(he:Ct.vc Tryz.prog sp c fn an=q:=by kernel_rfl):nN Tryz.prog sp.gl f c.spec:=Ct.okH c hf hb hs qk an (K5 he vc)
abbrev aD(f:FuncId)(s:Go.SX.Spec):=nN Tryz.prog GL f s
def VE:Ct:=⟨[.val (.sl bz),.val cI],[.box 105 iA],λd=>[0<=d.2.1],λd=>(((if (d.1.length:Int)<=d.2.1 then d.1 else d.1.take d.2.1.toNat,0),()),())⟩
theorem an6 :
 ∀(a:ad)(b:Int),(a.length<=maxLen/\ ∀(c:Int),c∈a->0<=c/\c<=255)/\aj b/\True->0<=b->ao (decide (b< ↑a.length)) ((0:Int)<=0/\0<=b/\b<= ↑a.length/\(cA a (toNat 0) b.toNat,(0:Int))=(if↑a.length<=b then a else take b.toNat a,(0:Int))) ((a,(0:Int))=(if↑a.length<=b then a else take b.toNat a,(0:Int))):=by
  rintro x y ⟨-,⟨h0,h1⟩,-⟩ h;refine bt (λhb=>?_) (λhb=>?_)
  .refine⟨ab,h,ab,?_⟩;rw[af ab];simp[cA]
  .rw[am ab]
theorem ZE:aD 6 VE.spec:=aH Tryz.func6 aE aR an6
def aF9:Cn:=⟨[.box 105 iA,.val cI],[.val cI],λd=>[ay d.1,d.2.1<=256],λd y=>0<=y.1.1/\(y.1.1<d.2.1∨y.1.1=0)/\ay y.2.1,λd h=>⟨((0,()),(d.1,())),by simp,by simp,h.1⟩⟩
def Du(a:ad)(b c:Int) :=
 c≠(0:Int)/\0<=Int.tmod (ai (ah a b)) c/\(Int.tmod (ai (ah a b)) c<c∨Int.tmod (ai (ah a b)) c=0)/\ay (a,ai (b+1))
theorem SQ :
 ∀(a:ad)(b c:Int),((a.length<=maxLen/\ ∀(d:Int),d∈a->0<=d/\d<=255)/\aj b)/\aj c/\True->ay (a,b)/\c<=256-> ∀(d:Bool),d=decide (a.length<=b)->(ae (! d))/\(aF d)/\ao (bif d then true else decide (c<1)) ((0:Int)<=0/\(0<c∨(0:Int)=0)/\ay (a,b)) (0<=b/\b< ↑a.length/\ao (decide (256<c)) False (Du a b c)):=by
  delta Du ae aF ai ah;rintro l p n ⟨⟨⟨hl,hw⟩,h0,h1⟩,⟨h2,h3⟩,-⟩⟨⟨hc1,hc2⟩,hn⟩;simp only[maxLen] at hl hc1 hc2
  (repeat (refine bO ?_;repeat refine bP ?_));refine av (λhb=>?_) (λhb=>?_)
  .exact⟨ab,aC,hc1,hc2⟩
  .simp at hb;obtain⟨hb1,hb2⟩:=hb;obtain⟨hm0,hm1⟩:=hw _ (bW hc1 hb1);rw[aQ ab ab,aQ ab ab];refine⟨hc1,hb1,bt (λhb=>?_) (λhb=>?_)⟩
   .have:=hb;omega
   .exact⟨ab,sn hm0,.inl (th hm0 ab),by simp only[ay];omega⟩
theorem aG0:aD 13 aF9.spec:=nC Tryz.func13 aE aR SQ
def aW0:Cn:=⟨[.box 105 iA,.val cI],[.val cI],λd=>[ay d.1],λd y=>0<=y.1.1/\(y.1.1<d.2.1∨y.1.1=0)/\ay y.2.1,λd h=>⟨((0,()),(d.1,())),by simp,by simp,h.1⟩⟩
theorem Tt :
 ∀(a:ad)(b c:Int),((a.length<=maxLen/\ ∀(d:Int),d∈a->0<=d/\d<=255)/\aj b)/\aj c/\True->0<=b/\b<= ↑a.length-> ∀(d:Bool),d=decide (a.length<=b)->(ae (! d))/\(aF d)/\ao (bif d then true else decide (c<1)) ((0:Int)<=0/\(0<c∨(0:Int)=0)/\ay (a,b)) (0<=b/\b< ↑a.length/\ao (decide (256<c)) (ay (a,ai (b+1))/\(256:Int)<=256/\ ∀(e:Int)(f:ad)(g:Int),0<=e/\(e<256∨e=0)/\ay (f,g)->c≠(0:Int)/\0<=Int.tmod (ai (ai ((256:Int)*ai (ah a b))+e)) c/\(Int.tmod (ai (ai ((256:Int)*ai (ah a b))+e)) c<c∨Int.tmod (ai (ai ((256:Int)*ai (ah a b))+e)) c=0)/\ay (f,g)) (Du a b c)):=by
  delta Du ae aF ai ah;rintro l p n ⟨⟨⟨hl,hw⟩,h0,h1⟩,⟨h2,h3⟩,-⟩⟨hc1,hc2⟩;simp only[maxLen] at hl hc1 hc2
  (repeat (refine bO ?_;repeat refine bP ?_));refine av (λhb=>?_) (λhb=>?_)
  .exact⟨ab,aC,hc1,hc2⟩
  .simp at hb;obtain⟨hb1,hb2⟩:=hb;obtain⟨hm0,hm1⟩:=hw _ (bW hc1 hb1);rw[aQ ab ab,aQ (n:=l.getD p.toNat default) ab ab];refine⟨hc1,hb1,av (λhb=>?_) (λhb=>?_)⟩
   .refine⟨by simp only[ay];omega,ab,?_⟩;rintro r l2 p2 ⟨hr0,hr1,hr2⟩;rw[aQ (n:=256*_) ab ab,aQ ab ab];exact⟨ab,sn ab,.inl (th ab ab),hr2⟩
   .exact⟨ab,sn hm0,.inl (th hm0 ab),by simp only[ay];omega⟩
theorem ra:aD 13 aW0.spec:=nC Tryz.func13 (au aE aG0) aR Tt
open Go.SX
def xs(k a:Nat):Nat:=a ^^^ a/2^k
def mu(c a:Nat):Nat:=a*c%18446744073709551616
def A8(x:Nat):Nat:=xs 31 (mu 10723151780598845931 (xs 27 (mu 13787848793156543929 (xs 30 ((x+11400714819323198485)%18446744073709551616)))))
def ir(x:Int):Int:=(A8 x.toNat:Int)
theorem af6{k a:Nat}(ha:a<18446744073709551616):xs k a<18446744073709551616:=by
 have h1:a<2^64:=ab
 have h2:a/2^k<2^64:=Nat.lt_of_le_of_lt (Nat.div_le_self _ _) h1
 have h3:a ^^^ a/2^k<2^64:=Nat.xor_lt_two_pow h1 h2
 unfold xs
 omega
theorem zX{c a:Nat}:mu c a<18446744073709551616:=by unfold mu;omega
theorem XY(x:Nat):A8 x<18446744073709551616:=by
 unfold A8
 exact af6 zX
theorem Hu(x:Int):0<=ir x/\ir x<=18446744073709551615:=by
 have:=XY x.toNat
 unfold ir
 omega
theorem Co(n:Nat):IntKind.u64.wrap (n:Int)=((n%18446744073709551616:Nat):Int):=by
 rw[IntKind.wrap_u64,Int.natCast_emod]
 rfl
theorem aE6(n k:Nat)(hk:k<=64):de .u64 (n:Int) (k:Int)=((n/2^k:Nat):Int):=by
 unfold de
 have:min (k:Int).toNat IntKind.u64.bits=k:=by simp only[IntKind.bits,Int.toNat_natCast];omega
 rw[this,zm _ (Int.le_of_lt (Int.pow_pos bi)),Int.natCast_ediv,Int.natCast_pow]
 rfl
theorem yv(n k:Nat)(hk:k<=64)(hn:n<18446744073709551616):bits .xor .u64 (n:Int) (de .u64 (n:Int) (k:Int))=(xs k n:Int):=by
 rw[aE6 n k hk]
 exact bits_xor_u64_nat _ _ hn (Nat.lt_of_le_of_lt (Nat.div_le_self _ _) hn)
theorem D3(n c:Nat):IntKind.u64.wrap ((n:Int)*(c:Int))=(mu c n:Int):=by
 rw[← Int.natCast_mul,Co];rfl
end Go.RS
namespace Go.RS
open Go.SX Go.Proofs
def aE7:Cn:=⟨[.box 105 iA],[.val cI],λd=>[ay d.1],λd y=>ay y.2.1 ∧ -9223372036854775808<=y.1.1/\y.1.1<=9223372036854775807,λd h=>⟨((0,()),(d.1,())),h.1,by simp,by simp⟩⟩
theorem aW8 :
 ∀(a:ad)(b:Int),((a.length<=maxLen/\ ∀(c:Int),c∈a->0<=c/\c<=255)/\aj b)/\True->0<=b/\b<= ↑a.length->ay (a,b)/\ ∀(c:Int)(d:ad)(e:Int),0<=c/\(c<10∨c=0)/\ay (d,e)->ao (decide (c=0)) (ay (d,e)/\ ∀(f:Int)(g:ad)(h:Int),0<=f/\(f<3∨f=0)/\ay (g,h)->ay (g,h)/\ -9223372036854775808<=ai ((-1:Int) -f)/\ai ((-1:Int) -f)<=9223372036854775807) (ao (decide (c=1)) (ay (d,e)/\ ∀(f:Int)(g:ad)(h:Int),0<=f/\(f<14∨f=0)/\ay (g,h)->0<=f/\f< ↑(List.length [(9223372036854775807:Int),(-9223372036854775808:Int),(1125899906842624:Int),(1125899906842625:Int),(65535:Int),(65536:Int),(255:Int),(256:Int),(1023:Int),(1024:Int),(65534:Int),(65535:Int),(4294967296:Int),(4611686018427387905:Int)])/\ay (g,h)/\ -9223372036854775808<=getD
 [(9223372036854775807:Int),(-9223372036854775808:Int),(1125899906842624:Int),(1125899906842625:Int),(65535:Int),(65536:Int),(255:Int),(256:Int),(1023:Int),(1024:Int),(65534:Int),(65535:Int),(4294967296:Int),(4611686018427387905:Int)] f.toNat default/\getD [(9223372036854775807:Int),(-9223372036854775808:Int),(1125899906842624:Int),(1125899906842625:Int),(65535:Int),(65536:Int),(255:Int),(256:Int),(1023:Int),(1024:Int),(65534:Int),(65535:Int),(4294967296:Int),(4611686018427387905:Int)] f.toNat default<=9223372036854775807) (ao (decide (c=2)) (ay (d,e)/\ ∀(f:Int)(g:ad)(h:Int),0<=f/\(f<256∨f=0)/\ay (g,h)->ay (g,h)/\ ∀(i:Int)(j:ad)(k:Int),0<=i/\(i<256∨i=0)/\ay (j,k)->ay (j,k)/\ -9223372036854775808<=ai (ai ((256:Int)*f)+i)/\ai (ai ((256:Int)*f)+i)<=9223372036854775807) (ay (d,e)/\ ∀(f:Int)(g:ad)(h:Int),0<=f/\(f<40∨f=0)/\ay (g,h)->ay (g,h)/\aj f))):=by
  delta ai;rintro l p-h;refine⟨h,?_⟩;rintro r l2 p2 ⟨h1,h2,h3⟩;refine av (λhb=>⟨h3,?_⟩) (λhb=>av (λhb=>⟨h3,?_⟩) (λhb=>av (λhb=>⟨h3,?_⟩) (λhb=>⟨h3,?_⟩)))
  .rintro a l4 p4 ⟨h4,h5,h6⟩;exact⟨h6,R0 _⟩
  .rintro a l4 p4 ⟨h4,h5,h6⟩;refine⟨h4,by simp;omega,h6,?_⟩;exact JF (p:=λv => -9223372036854775808<=v/\v<=9223372036854775807) aC h4 (by simp;omega)
  .rintro a l4 p4 ⟨h4,h5,h6⟩;refine⟨h6,?_⟩;rintro a l4 p4 ⟨h4,h5,h6⟩;exact⟨h6,R0 _⟩
  .rintro a l4 p4 ⟨h4,h5,h6⟩;exact⟨h6,ab,ab⟩
theorem QS:aD 43 aE7.spec:=nC Tryz.func43 (au aE ra) aR aW8
def Uv:Cn:=⟨[.box 105 iA],[.val cy],λd=>[ay d.1],λd y=>ay y.2.1/\0<=y.1.1/\y.1.1<=4294967295,λd h=>⟨((0,()),(d.1,())),h.1,by simp,by simp⟩⟩
theorem aA6 :
 ∀(a:ad)(b:Int),((a.length<=maxLen/\ ∀(c:Int),c∈a->0<=c/\c<=255)/\aj b)/\True->0<=b/\b<= ↑a.length->ay (a,b)/\ ∀(c:Int)(d:ad)(e:Int),0<=c/\(c<12∨c=0)/\ay (d,e)->ao (decide (c=11)) (ay (d,e)/\ ∀(f:Int)(g:ad)(h:Int),0<=f/\(f<65536∨f=0)/\ay (g,h)->(0:Int)<=16/\ay (g,h)/\ ∀(i:Int)(j:ad)(k:Int),0<=i/\(i<65536∨i=0)/\ay (j,k)->ay (j,k)/\0<=IntKind.wrap .u32 (ai (dX IntKind.i64 f (16:Int)+i))/\IntKind.wrap .u32 (ai (dX IntKind.i64 f (16:Int)+i))<=4294967295) (ay (d,e)/\ ∀(f:Int)(g:ad)(h:Int),0<=f/\(f<3∨f=0)/\ay (g,h)->(0:Int)<=16/\ay (g,h)/\ ∀(i:Int)(j:ad)(k:Int),0<=i/\(i<8∨i=0)/\ay (j,k)->ay (j,k)/\0<=IntKind.wrap .u32 (ai (ai ((167772160:Int)+dX IntKind.i64 f (16:Int))+i))/\IntKind.wrap .u32 (ai (ai ((167772160:Int)+dX IntKind.i64 f (16:Int))+i))<=4294967295):=by
  delta ai;rintro l p-h;refine⟨h,?_⟩;rintro r l2 p2 ⟨h1,h2,h3⟩;refine av (λhb=>⟨h3,?_⟩) (λhb=>⟨h3,?_⟩)
  .rintro a l4 p4 ⟨h4,h5,h6⟩;refine⟨ab,h6,?_⟩;rintro a l4 p4 ⟨h4,h5,h6⟩;exact⟨h6,Lg _⟩
  .rintro a l4 p4 ⟨h4,h5,h6⟩;refine⟨ab,h6,?_⟩;rintro a l4 p4 ⟨h4,h5,h6⟩;exact⟨h6,Lg _⟩
theorem ES:aD 44 Uv.spec:=nC Tryz.func44 (au aE ra) aR aA6
def aj2:Cn:=⟨[.box 105 iA],[.val cI],λd=>[ay d.1],λd y=>ay y.2.1/\(y.1.1=17∨y.1.1=1∨y.1.1=6),λd h=>⟨((1,()),(d.1,())),h.1,by simp⟩⟩
theorem Zj :
 ∀(a:ad)(b:Int),((a.length<=maxLen/\ ∀(c:Int),c∈a->0<=c/\c<=255)/\aj b)/\True->0<=b/\b<= ↑a.length->ay (a,b)/\ ∀(c:Int)(d:ad)(e:Int),0<=c/\(c<3∨c=0)/\ay (d,e)->0<=c/\c< ↑(List.length [(17:Int),(1:Int),(6:Int)])/\ay (d,e)/\(getD [(17:Int),(1:Int),(6:Int)] c.toNat default=17∨getD [(17:Int),(1:Int),(6:Int)] c.toNat default=1∨getD [(17:Int),(1:Int),(6:Int)] c.toNat default=6):=by
  rintro l p-h;refine⟨h,?_⟩;rintro r l2 p2 ⟨h1,h2,h3⟩;refine⟨h1,by simp;omega,h3,?_⟩;exact JF (p:=λv=>v=17∨v=1∨v=6) aC h1 (by simp;omega)
theorem Nf:aD 72 aj2.spec:=nC Tryz.func72 (au aE ra) aR Zj
def ar4:Ct:=⟨[.val yF],[.val yF],λ_=>[],λd=>((ir d.1,()),())⟩
def CO(a:Int) :=
 IntKind.wrap .u64 (bits BinOp.xor IntKind.u64 (IntKind.wrap .u64 (a+11400714819323198485)) (de IntKind.u64 (IntKind.wrap .u64 (a+11400714819323198485)) (30:Int))*13787848793156543929)
def DR(a:Int) :=
 IntKind.wrap .u64 (bits BinOp.xor IntKind.u64 (CO a) (de IntKind.u64 (CO a) (27:Int))*10723151780598845931)
def CD(a:Int) :=
 (0<=a/\a<=18446744073709551615)/\True->True->(0:Int)<=30/\(0:Int)<=27/\(0:Int)<=31/\bits BinOp.xor IntKind.u64 (DR a) (de IntKind.u64 (DR a) (31:Int))=ir a
theorem aP5 :
 ∀(a:Int),(CD a):=by
  delta DR CO CD;rintro x ⟨⟨h0,h1⟩,-⟩ -;refine⟨bi,bi,bi,?_⟩;have h0:0<=x:=h0;obtain⟨n,rfl⟩:=nH h0;have e0:IntKind.u64.wrap ((n:Int)+11400714819323198485)=(((n+11400714819323198485)%18446744073709551616:Nat):Int):=Co (n+11400714819323198485);have hm:(n+11400714819323198485)%18446744073709551616<18446744073709551616:=ab;have e1:=yv _ 30 bi hm;have e2:=D3 (xs 30 ((n+11400714819323198485)%18446744073709551616)) 13787848793156543929;have e3:=yv _ 27 bi (zX (c:=13787848793156543929) (a:=xs 30 ((n+11400714819323198485)%18446744073709551616)));have e4:=D3 (xs 27 (mu 13787848793156543929 (xs 30 ((n+11400714819323198485)%18446744073709551616)))) 10723151780598845931;have e5:=yv _ 31 bi (zX (c:=10723151780598845931) (a:=xs 27 (mu 13787848793156543929 (xs 30 ((n+11400714819323198485)%18446744073709551616)))));have c1:((30:Nat):Int)=30:=rfl;have c2:((27:Nat):Int)=27:=rfl
  have c3:((31:Nat):Int)=31:=rfl;have c4:((13787848793156543929:Nat):Int)=13787848793156543929:=rfl;have c5:((10723151780598845931:Nat):Int)=10723151780598845931:=rfl;rw[c1] at e1;rw[c4] at e2;rw[c2] at e3;rw[c5] at e4;rw[c3] at e5;rw[e0,e1,e2,e3,e4,e5];unfold ir A8;rw[Int.toNat_natCast]
theorem L9:aD 176 ar4.spec:=aH Tryz.func176 aE aR aP5
def ay1:Ct:=⟨[.val yF],[.val yF],λ_=>[],λd=>((ir d.1,()),())⟩
theorem V4 :
 ∀(a:Int),(CD a):=by
  delta DR CO CD;rintro x ⟨⟨h0,h1⟩,-⟩ -;refine⟨bi,bi,bi,?_⟩;have h0:0<=x:=h0;obtain⟨n,rfl⟩:=nH h0;have e0:IntKind.u64.wrap ((n:Int)+11400714819323198485)=(((n+11400714819323198485)%18446744073709551616:Nat):Int):=Co (n+11400714819323198485);have hm:(n+11400714819323198485)%18446744073709551616<18446744073709551616:=ab;have e1:=yv _ 30 bi hm;have e2:=D3 (xs 30 ((n+11400714819323198485)%18446744073709551616)) 13787848793156543929;have e3:=yv _ 27 bi (zX (c:=13787848793156543929) (a:=xs 30 ((n+11400714819323198485)%18446744073709551616)));have e4:=D3 (xs 27 (mu 13787848793156543929 (xs 30 ((n+11400714819323198485)%18446744073709551616)))) 10723151780598845931;have e5:=yv _ 31 bi (zX (c:=10723151780598845931) (a:=xs 27 (mu 13787848793156543929 (xs 30 ((n+11400714819323198485)%18446744073709551616)))));have c1:((30:Nat):Int)=30:=rfl;have c2:((27:Nat):Int)=27:=rfl
  have c3:((31:Nat):Int)=31:=rfl;have c4:((13787848793156543929:Nat):Int)=13787848793156543929:=rfl;have c5:((10723151780598845931:Nat):Int)=10723151780598845931:=rfl;rw[c1] at e1;rw[c4] at e2;rw[c2] at e3;rw[c5] at e4;rw[c3] at e5;rw[e0,e1,e2,e3,e4,e5];unfold ir A8;rw[Int.toNat_natCast]
theorem MV:aD 125 ay1.spec:=aH Tryz.func125 aE aR V4
abbrev ph:Type:=Int×Int×Int×Int×Int
def zA(h x:Int):Int:=ir (bits .xor .u64 h (IntKind.wrap .u64 x))
def lv(seed:Int)(k:ph):Int:=zA (zA (zA (zA (zA (ir (IntKind.wrap .u64 seed)) k.1) k.2.1) k.2.2.1) k.2.2.2.1) k.2.2.2.2
def al8:Ct:=⟨[.val cI,.agg uP],[.val yF],λ_=>[],λd=>((lv d.1 d.2.1,()),())⟩
theorem US :
 ∀(a b c d e f:Int),aj a/\((0<=b/\b<=4294967295)/\(0<=c/\c<=4294967295)/\aj d/\aj e/\aj f)/\True->True->ir (bits BinOp.xor IntKind.u64 (ir (bits BinOp.xor IntKind.u64 (ir (bits BinOp.xor IntKind.u64 (ir (bits BinOp.xor IntKind.u64 (ir (bits BinOp.xor IntKind.u64 (ir (IntKind.wrap .u64 a)) (IntKind.wrap .u64 b))) (IntKind.wrap .u64 c))) (IntKind.wrap .u64 d))) (IntKind.wrap .u64 e))) (IntKind.wrap .u64 f))=lv a (b,c,d,e,f):=by
  rintro x a b c e f - -;rfl
theorem Rj:aD 252 al8.spec:=aH Tryz.func252 (au aE MV) aR US
theorem vy(s:Int)(k:ph):0<=lv s k/\lv s k<=18446744073709551615:=Hu _
def Bt(seed:Int)(k:ph)(j:Int):Int:=([k.1,k.2.1,k.2.2.1,k.2.2.2.1,k.2.2.2.2].take j.toNat).foldl zA (ir (IntKind.wrap .u64 seed))
def On:Ct:=⟨[.val cI,.agg uP],[.val yF],λ_=>[],λd=>((lv d.1 d.2.1,()),())⟩
def ai6:bu On.ps->bS:=(λd=>{loops:=(bm 3 (λS=>{ι:=Int×Int,qn:=fj,μ:=λi=>(5-i.1).toNat,inv:=λi=>0<=i.1/\i.1<=5/\i.2=Bt d.1 d.2.1 i.1,keep:=[23],slots:=λi=>[(5,.int .u64 i.2),(24,.int .i64 i.1)]}) ci)})
theorem ak3 :
 ∀(x x_1 x_2 x_3 x_4 x_5:Int),aj x/\((0<=x_1/\x_1<=4294967295)/\(0<=x_2/\x_2<=4294967295)/\aj x_3/\aj x_4/\aj x_5)/\True->True->(∃ j h,(0<=j/\j<=5/\h=Bt x (x_1,x_2,x_3,x_4,x_5) j)/\ir (IntKind.wrap .u64 x)=h/\ai x_1=ai x_1/\ai x_2=ai x_2/\x_3=x_3/\x_4=x_4/\x_5=x_5/\(0:Int)=j/\True)/\∀(j h:Int),0<=j/\j<=5/\h=Bt x (x_1,x_2,x_3,x_4,x_5) j->ao (decide (j<5)) (0<=j/\j<↑(5:Nat)/\∃ j_1 h_1,(0<=j_1/\j_1<=5/\h_1=Bt x (x_1,x_2,x_3,x_4,x_5) j_1)/\toNat ((5:Int)-j_1)<toNat ((5:Int)-j)/\ir (bits BinOp.xor IntKind.u64 h (IntKind.wrap .u64 (lK [ai x_1,ai x_2,x_3,x_4,x_5] j.toNat)))=h_1/\ai x_1=ai x_1/\ai x_2=ai x_2/\x_3=x_3/\x_4=x_4/\x_5=x_5/\ai (j+(1:Int))=j_1/\True) (h=lv x (x_1,
 x_2,x_3,x_4,x_5)):=by
  delta ai;rintro x a b c e f ⟨-,⟨⟨a0,a1⟩,⟨b0,b1⟩,⟨c0,c1⟩,⟨e0,e1⟩,f0,f1⟩,-⟩ -;refine⟨⟨0,_,⟨ab,ab,rfl⟩,aM⟩,?_⟩;rintro j h ⟨h0,h1,rfl⟩;refine bt (λhj=>?_) (λhj=>?_)
  .refine⟨h0,ab,j+1,Bt x (a,b,c,e,f) (j+1),⟨ab,ab,rfl⟩,ab,?_,rfl,rfl,rfl,rfl,rfl,aQ ab ab,bv⟩;rw[aQ (n:=a) ab ab,aQ (n:=b) ab ab];have:j=0∨j=1∨j=2∨j=3∨j=4:=ab;rcases this with rfl|rfl|rfl|rfl|rfl <;> rfl
  .have:j=5:=ab;subst this;rfl
theorem PV:aD 154 On.spec:=aH Tryz.func154 (au aE L9) ai6 ak3
def ik(way seed:Int)(k:ph)(count n:Int):Int×Int :=
 if n<1∨16<n∨count<0∨way<1∨3<way then (0,1) else
  (if way=1 then (lv seed k).tmod n else if way=2 then (lv seed (k.1,k.2.1,0,0,0)).tmod n else count.tmod n,0)
def S0:Ct:=⟨[.val cI,.val cI,.agg uP,.val cI,.val cI],[.val cI,.val cI],λ_=>[],λd=>(((ik d.1 d.2.1 d.2.2.1 d.2.2.2.1 d.2.2.2.2.1).1,(ik d.1 d.2.1 d.2.2.1 d.2.2.2.1 d.2.2.2.2.1).2,()),())⟩
def D4(a b c d e f g h i:Int) :=
 IntKind.wrap .u64 i≠(0:Int)/\ai (Int.tmod (lv b (c,d,(0:Int),(0:Int),(0:Int))) (IntKind.wrap .u64 i))=(ik a b (c,d,e,f,g) h i).1/\0=(ik a b (c,d,e,f,g) h i).2
def Cr(a b c d e f g h i:Int) :=
 IntKind.wrap .u64 i≠(0:Int)/\ai (Int.tmod (lv b (c,d,e,f,g)) (IntKind.wrap .u64 i))=(ik a b (c,d,e,f,g) h i).1/\0=(ik a b (c,d,e,f,g) h i).2
theorem T3 :
 ∀(a b c d e f g h i:Int),aj a/\aj b/\((0<=c/\c<=4294967295)/\(0<=d/\d<=4294967295)/\aj e/\aj f/\aj g)/\aj h/\aj i/\True->True-> ∀(j:Bool),j=decide (i<1)->(ae (! j))/\(aF j)/\ ∀(k:Bool),(k=bif j then true else decide (16<i))->(ae (! k))/\(aF k)/\ao (bif k then true else decide (h<0)) (0=(ik a b (c,d,e,f,g) h i).1/\1=(ik a b (c,d,e,f,g) h i).2) (ao (decide (a=1)) (Cr a b c d e f g h i) (ao (decide (a=2)) (D4 a b c d e f g h i) (ao (decide (a=3)) (IntKind.wrap .u64 i≠(0:Int)/\ai (Int.tmod (IntKind.wrap .u64 h) (IntKind.wrap .u64 i))=(ik a b (c,d,e,f,g) h i).1/\0=(ik a b (c,d,e,f,g) h i).2) (0=(ik a b (c,d,e,f,g) h i).1/\1=(ik a b (c,d,e,f,g) h i).2)))):=by
  delta D4 Cr ae aF ai;rintro x s a b c e f cnt n ⟨-,-,-,⟨c0,c1⟩,⟨n0,n1⟩,-⟩ -
  (repeat (refine bO ?_;repeat refine bP ?_));refine av (λh=>?_) (λh=>?_)
  .simp at h;unfold ik;rw[am ab];exact⟨rfl,rfl⟩
  .simp at h;rw[HI (n:=n) ab ab];have hr:∀ k,0<=(lv s k).tmod n/\(lv s k).tmod n<n:=λk=>⟨sn (vy _ _).1,th (vy _ _).1 ab⟩
   unfold ik;refine av (λhx=>?_) (λhx=>av (λhy=>?_) (λhy=>av (λhz=>?_) (λhz=>?_)))
   .simp at hx;subst hx;have:=hr (a,b,c,e,f);rw[af ab,am rfl,aQ ab ab];exact⟨ab,rfl,rfl⟩
   .simp at hx hy;subst hy;have:=hr (a,b,0,0,0);rw[af ab,af ab,am rfl,aQ ab ab];exact⟨ab,rfl,rfl⟩
   .simp at hx hy hz;subst hz;have q0:=sn (b:=n) (a:=cnt) ab;have q1:=th (b:=n) (a:=cnt) ab ab;rw[af ab,af ab,af ab,HI (n:=cnt) ab ab,aQ ab ab];exact⟨ab,rfl,rfl⟩
   .simp at hx hy hz;rw[am ab];exact⟨rfl,rfl⟩
theorem Yp:aD 80 S0.spec:=aH Tryz.func80 (au aE PV) aR T3
def UX:Ct:=⟨[.val cI,.val cI,.agg uP,.val cI,.val cI],[.val cI,.val cI],λ_=>[],λd=>(((ik d.1 d.2.1 d.2.2.1 d.2.2.2.1 d.2.2.2.2.1).1,(ik d.1 d.2.1 d.2.2.1 d.2.2.2.1 d.2.2.2.2.1).2,()),())⟩
theorem aZ9 :
 ∀(a b c d e f g h i:Int),aj a/\aj b/\((0<=c/\c<=4294967295)/\(0<=d/\d<=4294967295)/\aj e/\aj f/\aj g)/\aj h/\aj i/\True->True-> ∀(j:Bool),j=decide (a<1)->(ae (! j))/\(aF j)/\ ∀(k:Bool),(k=bif j then true else decide (3<a))->(ae (! k))/\(aF k)/\ ∀(l:Bool),(l=bif k then true else decide (i<1))->(ae (! l))/\(aF l)/\ ∀(m:Bool),(m=bif l then true else decide (16<i))->(ae (! m))/\(aF m)/\ao (bif m then true else decide (h<0)) (0=(ik a b (c,d,e,f,g) h i).1/\1=(ik a b (c,d,e,f,g) h i).2) (ao (decide (a=1)) (Cr a b c d e f g h i) (ao (decide (a=2)) (D4 a b c d e f g h i) (i≠(0:Int)/\Int.tmod h i=(ik a b (c,d,e,f,g) h i).1/\0=(ik a b (c,d,e,f,g) h i).2))):=by
  delta D4 Cr ae aF ai;rintro x s a b c e f cnt n ⟨-,-,-,⟨c0,c1⟩,⟨n0,n1⟩,-⟩ -
  (repeat (refine bO ?_;repeat refine bP ?_));refine av (λh=>?_) (λh=>?_)
  .simp at h;unfold ik;rw[am ab];exact⟨rfl,rfl⟩
  .simp at h;rw[HI (n:=n) ab ab];have hr:∀ k,0<=(lv s k).tmod n/\(lv s k).tmod n<n:=λk=>⟨sn (vy _ _).1,th (vy _ _).1 ab⟩
   unfold ik;refine av (λhx=>?_) (λhx=>av (λhy=>?_) (λhy=>?_))
   .simp at hx;subst hx;have:=hr (a,b,c,e,f);rw[af ab,am rfl,aQ ab ab];exact⟨ab,rfl,rfl⟩
   .simp at hx hy;subst hy;have:=hr (a,b,0,0,0);rw[af ab,af ab,am rfl,aQ ab ab];exact⟨ab,rfl,rfl⟩
   .simp at hx hy;rw[af ab,af ab,af ab];exact⟨ab,rfl,rfl⟩
theorem UK:aD 229 UX.spec:=aH Tryz.func229 (au aE Rj) aR aZ9
abbrev su:CT := .pair cy cI
abbrev T6:CT := .pair cy cI
abbrev Qe:CT := .pair T6 (.pair (.sl cI) cI)
abbrev bN:CT := .pair (.sl su) (.pair cy (.pair cI (.pair .bool (.pair (.sl Qe) (.pair cI (.pair cy (.pair cI (.pair cI (.pair cI (.pair sw (.pair .bool (.pair .bool (.pair cI cI)))))))))))))
abbrev i7:CT := .pair (.sl Qe) (.pair cI (.pair (.sl cI) (.pair ob cI)))
abbrev ap8:Type:=Int×Int
abbrev aG:Type:=ap8×ad×Int
abbrev ar:Type:=List (Int×Int)×Int×Int×Bool×List aG×Int×Int×Int×Int×Int×(Int×Int)×Bool×Bool×Int×Int
abbrev bY:Type:=List aG×Int×ad×(Int×Int)×Int
def aA(n:ar):=n.1
def fM(n:ar):=n.2.1
def JU(n:ar):=n.2.2.1
def mS(n:ar):=n.2.2.2.1
def bf(n:ar):=n.2.2.2.2.1
def lu(n:ar):=n.2.2.2.2.2.1
def pK(n:ar):=n.2.2.2.2.2.2.1
def mA(n:ar):=n.2.2.2.2.2.2.2.1
def jJ(n:ar):=n.2.2.2.2.2.2.2.2.1
def uJ(n:ar):=n.2.2.2.2.2.2.2.2.2.1
def jE(n:ar):=n.2.2.2.2.2.2.2.2.2.2.1
def jU(n:ar):=n.2.2.2.2.2.2.2.2.2.2.2.1
def dY(n:ar):=n.2.2.2.2.2.2.2.2.2.2.2.2.1
def jt(n:ar):=n.2.2.2.2.2.2.2.2.2.2.2.2.2.1
def Cv(n:ar):=n.2.2.2.2.2.2.2.2.2.2.2.2.2.2
def bn(s:bY):=s.1
def jy(s:bY):=s.2.1
def fD(s:bY):=s.2.2.1
def sN(s:bY):=s.2.2.2.1
def i9(s:bY):=s.2.2.2.2
theorem Ay(n:Int):bits .and .i64 n 65535=n%65536:=by
 have h127:(BitVec.ofInt 64 65535).toNat=2^16-1:=bi
 have key:(BitVec.ofInt 64 n &&& BitVec.ofInt 64 65535).toNat=(n%((2^64:Nat):Int)).toNat%2^16:=by
  rw[BitVec.toNat_and,BitVec.toNat_ofInt,h127,yd]
 show IntKind.i64.wrap ((BitVec.ofInt 64 n &&& BitVec.ofInt 64 65535).toNat:Nat)=n%65536
 rw[key,IntKind.wrap_i64]
 omega
theorem aU5{n:Int}(h0:0<=n)(h1:n<=18446744073709551615):bits .and .u64 n 65535=n%65536:=by
 rw[u64_and n 65535 h0 ab bi bi]
 have:(n.toNat &&& toNat 65535)=n.toNat%65536:=yd n.toNat 16
 rw[this];omega
def nL(speed a:Int):Int:=if speed<0∨1000000<speed∨a<0∨1125899906842624<a then 0 else speed*(a/1000000)+speed*(a%1000000)/1000000
theorem Nh{speed a:Int}:0<=nL speed a/\nL speed a<=2251799813685248:=by
 unfold nL
 split
 .omega
 next h=>have a1:0<=a/1000000:=ab;have a2:a/1000000<=1125899907:=ab;have a3:0<=a%1000000:=ab;have a4:a%1000000<=999999:=ab;have b1:0<=speed*(a/1000000):=Int.mul_nonneg ab a1;have b2:speed*(a/1000000)<=1000000*1125899907:=Int.mul_le_mul ab a2 a1 ab;have b3:0<=speed*(a%1000000):=Int.mul_nonneg ab a3;have b4:speed*(a%1000000)<=1000000*999999:=Int.mul_le_mul ab a4 a3 ab;omega
theorem MC{x a:Int}(h:¬ (x<0∨1000000<x∨a<0∨1125899906842624<a)) :
  IntKind.wrap IntKind.i64 (IntKind.wrap IntKind.i64 (x*IntKind.wrap IntKind.i64 (Int.tdiv a 1000000))+IntKind.wrap IntKind.i64 (Int.tdiv (IntKind.wrap IntKind.i64 (x*Int.tmod a 1000000)) 1000000))=nL x a:=by
 have h2:=Nh (speed:=x) (a:=a)
 unfold nL at h2 ⊢
 rw[af h] at h2 ⊢
 have a1:0<=a/1000000:=ab
 have a2:a/1000000<=1125899907:=ab
 have a3:0<=a%1000000:=ab
 have a4:a%1000000<=999999:=ab
 have b1:0<=x*(a/1000000):=Int.mul_nonneg ab a1
 have b2:x*(a/1000000)<=1000000*1125899907:=Int.mul_le_mul ab a2 a1 ab
 have b3:0<=x*(a%1000000):=Int.mul_nonneg ab a3
 have b4:x*(a%1000000)<=1000000*999999:=Int.mul_le_mul ab a4 a3 ab
 rw[Aj (show 0<=a by omega),uT (show 0<=a by omega),aQ (n:=a/1000000) ab ab,aQ (n:=x*(a/1000000)) ab ab,
  aQ (n:=x*(a%1000000)) ab ab,Aj b3,aQ (n:=x*(a%1000000)/1000000) ab ab,aQ ab ab]
def U3:Ct:=⟨[.val cI,.val cI],[.val cI],λ_=>[],λd=>((nL d.1 d.2.1,()),())⟩
def CS(a b:Int) :=
 aj a/\aj b/\True->True-> ∀(c:Bool),c=decide (a<0)->(ae (! c))/\(aF c)/\ ∀(d:Bool),(d=bif c then true else decide (1000000<a))->(ae (! d))/\(aF d)/\ ∀(e:Bool),(e=bif d then true else decide (b<0))->(ae (! e))/\(aF e)/\ao (bif e then true else decide (1125899906842624<b)) (0=nL a b) ((1000000:Int)≠(0:Int)/\(1000000:Int)≠(0:Int)/\(1000000:Int)≠(0:Int)/\ai (ai (a*ai (Int.tdiv b (1000000:Int)))+ai (Int.tdiv (ai (a*Int.tmod b (1000000:Int))) (1000000:Int)))=nL a b)
theorem XT :
 ∀(a b:Int),(CS a b):=by
  delta CS ae aF ai;rintro x a - -
  (repeat (refine bO ?_;repeat refine bP ?_));refine av (λh=>?_) (λh=>?_)
  .simp at h;unfold nL;rw[am ab]
  .simp at h;refine⟨ab,ab,ab,MC ab⟩
theorem aQ4:aD 284 U3.spec:=aH Tryz.func284 aE aR XT
def aa6:Ct:=⟨[.val cI,.val cI],[.val cI],λ_=>[],λd=>((nL d.1 d.2.1,()),())⟩
theorem aZ8 :
 ∀(a b:Int),(CS a b):=by
  delta CS ae aF ai;rintro x a - -
  (repeat (refine bO ?_;repeat refine bP ?_));refine av (λh=>?_) (λh=>?_)
  .simp at h;unfold nL;rw[am ab]
  .simp at h;refine⟨ab,ab,ab,MC ab⟩
theorem Z3:aD 251 aa6.spec:=aH Tryz.func251 aE aR aZ8
def HS(n:ar):Bool:=decide (0<=mA n/\mA n<=5/\0<=jJ n/\jJ n<=65535/\0<=uJ n/\uJ n<=1000000)
def io(n:ar):Int:=if HS n then 0 else 1
def VD:Ct:=⟨[.agg bN],[.val cI],λ_=>[],λd=>((io d.1,()),())⟩
def D9(a:ar) :=
 CT.wf bN a/\True->True-> ∀(b:Bool),b=decide (a.2.2.2.2.2.2.2.1<0)->(ae (! b))/\(ae (! b))/\(aF b)/\ ∀(c:Bool),(c=bif b then true else decide (5<a.2.2.2.2.2.2.2.1))->(ae (! c))/\(ae (! c))/\(aF c)/\ ∀(d:Bool),(d=bif c then true else decide (a.2.2.2.2.2.2.2.2.1<0))->(ae (! d))/\(ae (! d))/\(aF d)/\ ∀(e:Bool),(e=bif d then true else decide (65535<a.2.2.2.2.2.2.2.2.1))->(ae (! e))/\(ae (! e))/\(aF e)/\ ∀(f:Bool),(f=bif e then true else decide (a.2.2.2.2.2.2.2.2.2.1<0))->(ae (! f))/\(ae (! f))/\(aF f)/\ao (bif f then true else decide (1000000<a.2.2.2.2.2.2.2.2.2.1)) (1=io a) (0=io a)
theorem ZI :
 ∀(a:ar),(D9 a):=by
  delta D9 ae aF;rintro d - -
  (repeat (refine bO ?_;repeat refine bP ?_));unfold io HS mA jJ uJ;generalize d.2.2.2.2.2.2.2.1=i;generalize d.2.2.2.2.2.2.2.2.1=b;generalize d.2.2.2.2.2.2.2.2.2.1=s;refine av (λh=>?_) (λh=>?_)
  .simp at h;rw[af (by simp;omega)]
  .simp at h;rw[am (by simp;omega)]
theorem aL2:aD 210 VD.spec:=aH Tryz.func210 aE aR ZI
def Xe:Ct:=⟨[.agg bN],[.val cI],λ_=>[],λd=>((io d.1,()),())⟩
theorem aZ0 :
 ∀(a:ar),(D9 a):=by
  delta D9 ae aF;rintro d - -
  (repeat (refine bO ?_;repeat refine bP ?_));unfold io HS mA jJ uJ;generalize d.2.2.2.2.2.2.2.1=i;generalize d.2.2.2.2.2.2.2.2.1=b;generalize d.2.2.2.2.2.2.2.2.2.1=s;refine av (λh=>?_) (λh=>?_)
  .simp at h;rw[af (by simp;omega)]
  .simp at h;rw[am (by simp;omega)]
theorem U8:aD 110 Xe.spec:=aH Tryz.func110 aE aR aZ0
abbrev wI(n:Int):Int:=IntKind.i64.wrap n
def wJ(n:ar)(sent a:Int):Int:=wI (wI (jJ n+sent)+nL (uJ n) a)
def pW(n:ar)(sent a:Int):Int:=wJ n sent a%65536
def aq6:Ct:=⟨[.val cI,.box 103 bN,.box 3 cI],[.val cI],λ_=>[],λd=>((pW d.2.1 d.1 d.2.2.1,()),(d.2.1,d.2.2.1,()))⟩
theorem UO :
 ∀(a:Int)(b:ar)(c:Int),aj a/\CT.wf bN b/\aj c/\True->True->bits BinOp.and IntKind.i64 (ai (ai (b.2.2.2.2.2.2.2.2.1+a)+nL b.2.2.2.2.2.2.2.2.2.1 c)) (65535:Int)=pW b a c/\b=b/\c=c:=by
  delta ai;rintro x d a - -;exact⟨Ay _,rfl,rfl⟩
theorem Uq:aD 283 aq6.spec:=aH Tryz.func283 (au aE aQ4) aR UO
def kY(n:ar)(s:bY)(port a asked dst:Int):Int :=
 if mA n=1 then jJ n else if mA n=2 then pW n (jy s) a
 else if mA n=3 then (if port<0∨(fD s).length<=port then pW n 0 a else pW n ((fD s).getD port.toNat default) a)
 else if mA n=4 then asked else if mA n=5 then lv (jJ n) (0,dst,0,jy s,0)%65536 else 0
def Th:Ct:=⟨[.agg bN,.agg i7,.val cI,.val cI,.val cI,.val cy],[.val cI],λ_=>[],λd=>((kY d.1 d.2.1 d.2.2.1 d.2.2.2.1 d.2.2.2.2.1 d.2.2.2.2.2.1,()),())⟩
def B2(b:List aG)(c:Int)(d:ad)(e f g h i j k:Int) :=
 ((b.length<=maxLen/\ ∀(l:aG),l∈b->((0<=l.1.1/\l.1.1<=4294967295)/\aj l.1.2)/\(l.2.1.length<=maxLen/\ ∀(m:Int),m∈l.2.1->aj m)/\aj l.2.2)/\aj c/\(d.length<=maxLen/\ ∀(l:Int),l∈d->aj l)/\(aj e/\aj f)/\aj g)/\aj h/\aj i/\aj j/\(0<=k/\k<=4294967295)/\True
theorem Ym :
 ∀(a:ar)(b:List aG)(c:Int)(d:ad)(e f g h i j k:Int),CT.wf bN a/\(B2 b c d e f g h i j k)->True->ao (decide (a.2.2.2.2.2.2.2.1=1)) (a.2.2.2.2.2.2.2.2.1=kY a (b,c,d,(e,f),g) h i j k) (ao (decide (a.2.2.2.2.2.2.2.1=2)) (pW a c i=kY a (b,c,d,(e,f),g) h i j k) (ao (decide (a.2.2.2.2.2.2.2.1=3)) (∀(l:Bool),l=decide (h<0)->(ae (! l))/\(ae (! l))/\((! l)->(aq (! l))/\(aq (! l))/\True)/\(aF l)/\ao (bif l then true else decide (d.length<=h)) (pW a (0:Int) i=kY a (b,c,d,(e,f),g) h i j k) (0<=h/\h< ↑d.length/\pW a (ah d h) i=kY a (b,c,d,(e,f),g) h i j k)) (ao (decide (a.2.2.2.2.2.2.2.1=4)) (j=kY a (b,c,d,(e,f),g) h i j k) (ao (decide (a.2.2.2.2.2.2.2.1=5)) (ai (bits BinOp.and IntKind.u64 (lv a.2.2.2.2.2.2.2.2.1 ((0:Int),k,(0:Int),c,(0:Int))) (65535:Int))=kY a (b,c,d,(e,f),g) h i j k) (0=kY a (b,c,d,(e,f),g) h i j k))))):=by
  delta B2 ae aq aF ai ah;rintro d r se ps t1 t2 ba port a asked dst - -;unfold kY mA jJ jy fD;simp only;refine av (λh=>?_) (λh=>?_)
  .rw[am (aL h)]
  have h1:=aO h;rw[af h1];refine av (λh=>?_) (λh=>?_)
  .rw[am (aL h)]
  have h2:=aO h;rw[af h2];refine av (λh=>?_) (λh=>?_)
  .rw[am (aL h)]
   (repeat (refine bO ?_;repeat refine bP ?_));refine av (λh=>?_) (λh=>?_)
   .simp at h;rw[am h]
   .simp at h;exact⟨ab,ab,by rw[af ab]⟩
  have h3:=aO h;rw[af h3];refine av (λh=>?_) (λh=>?_)
  .rw[am (aL h)]
  have h4:=aO h;rw[af h4];refine bt (λh=>?_) (λh=>?_)
  .rw[am h];have hr:=vy d.2.2.2.2.2.2.2.2.1 (0,dst,0,se,0);rw[aU5 hr.1 hr.2,aQ ab ab]
  .rw[af h]
theorem K8:aD 272 Th.spec:=aH Tryz.func272 (au (au aE Uq) PV) aR Ym
def pM(n:ar)(s:bY)(port a asked dst:Int):Int :=
 if mA n=1 then jJ n else if mA n=2 then (wJ n (jy s) a).tmod 65536
 else if mA n=3 then (if port<0∨(fD s).length<=port then (wJ n 0 a).tmod 65536 else (wJ n ((fD s).getD port.toNat default) a).tmod 65536)
 else if mA n=4 then asked else if mA n=5 then lv (jJ n) (0,dst,0,jy s,0)%65536 else 0
def W7:Ct:=⟨[.agg bN,.agg i7,.val cI,.val cI,.val cI,.val cy],[.val cI],λ_=>[],λd=>((pM d.1 d.2.1 d.2.2.1 d.2.2.2.1 d.2.2.2.2.1 d.2.2.2.2.2.1,()),())⟩
theorem aT7 :
 ∀(a:ar)(b:List aG)(c:Int)(d:ad)(e f g h i j k:Int),CT.wf bN a/\(B2 b c d e f g h i j k)->True->ao (decide (a.2.2.2.2.2.2.2.1=1)) (a.2.2.2.2.2.2.2.2.1=pM a (b,c,d,(e,f),g) h i j k) (ao (decide (a.2.2.2.2.2.2.2.1=2)) ((65536:Int)≠(0:Int)/\Int.tmod (ai (ai (a.2.2.2.2.2.2.2.2.1+c)+nL a.2.2.2.2.2.2.2.2.2.1 i)) (65536:Int)=pM a (b,c,d,(e,f),g) h i j k) (ao (decide (a.2.2.2.2.2.2.2.1=3)) (∀(l:Bool),l=decide (0<=h)->(ae l)/\(ae l)/\(l->(aq l)/\(aq l)/\True)/\(aq l)/\ao (bif l then decide (h< ↑d.length) else false) (0<=h/\h< ↑d.length/\(65536:Int)≠(0:Int)/\Int.tmod (ai (ai (a.2.2.2.2.2.2.2.2.1+ah d h)+nL a.2.2.2.2.2.2.2.2.2.1 i)) (65536:Int)=pM a (b,c,d,(e,f),g) h i j k) ((65536:Int)≠(0:Int)/\Int.tmod (ai (ai (a.2.2.2.2.2.2.2.2.1+0)+nL a.2.2.2.2.2.2.2.2.2.1 i)) (65536:Int)=pM a (b,c,d,(e,f),g) h i j k)) (ao (decide
 (a.2.2.2.2.2.2.2.1=4)) (j=pM a (b,c,d,(e,f),g) h i j k) (ao (decide (a.2.2.2.2.2.2.2.1=5)) ((65536:Int)≠(0:Int)/\ai (Int.tmod (lv a.2.2.2.2.2.2.2.2.1 ((0:Int),k,(0:Int),c,(0:Int))) (65536:Int))=pM a (b,c,d,(e,f),g) h i j k) (0=pM a (b,c,d,(e,f),g) h i j k))))):=by
  delta B2 ae aq ai ah;rintro d r se ps t1 t2 ba port a asked dst - -;unfold pM wJ mA jJ uJ jy fD;simp only;refine av (λh=>?_) (λh=>?_)
  .rw[am (aL h)]
  have h1:=aO h;rw[af h1];refine av (λh=>?_) (λh=>?_)
  .rw[am (aL h)];exact⟨ab,rfl⟩
  have h2:=aO h;rw[af h2];refine av (λh=>?_) (λh=>?_)
  .rw[am (aL h)]
   (repeat (refine bO ?_;repeat refine bP ?_));refine av (λh=>?_) (λh=>?_)
   .simp at h;exact⟨ab,ab,ab,by rw[af ab]⟩
   .simp at h;exact⟨ab,by rw[am ab]⟩
  have h3:=aO h;rw[af h3];refine av (λh=>?_) (λh=>?_)
  .rw[am (aL h)]
  have h4:=aO h;rw[af h4];refine bt (λh=>?_) (λh=>?_)
  .rw[am h];have hr:=vy d.2.2.2.2.2.2.2.2.1 (0,dst,0,se,0);refine⟨ab,?_⟩;rw[uT hr.1,aQ ab ab]
  .rw[af h]
theorem at4:aD 227 W7.spec:=aH Tryz.func227 (au (au aE Z3) Rj) aR aT7
end Go.RS
