/- SX, part 21: a function's contract, off its symbolic run. -/
import Derived.Test.YtoipogagjfkjlaaGreatDoorSx20
import Derived.Laws.Sem
import Derived.Laws.NewBlocks
import Derived.ProofKit
import Derived.OpenShut
import Derived.ChangeOld
import Derived.Below
import Derived.KernelRfl
import Derived.Test.YtoipogagjfkjlaaGreatDoorSx9
import Derived.Test.YtoipogagjfkjlaaGreatDoorChecked
import Derived.Laws.Bits64
import Derived.Laws.Bits128
import Derived.Laws.BitsAllLaws
set_option maxRecDepth 100000
set_option linter.unusedVariables false
open List (take)
namespace Go.SX
def CT.plain:CT->Bool
 | .sl _=>false
 | .pair a b=>a.plain&&b.plain
 | _=>true
theorem On{A A':Nat->Prop}{w w':World}:∀{t:CT}{cv:Nat->Option Value}{o:Nat}{d:t.D},t.plain=true->Rd A w t cv o d->Rd A' w' t cv o d
 | .int k,cv,o,d,_,h=>h
 | .bool,cv,o,d,_,h=>h
 | .str,cv,o,d,_,h=>h
 | .pair a b,cv,o,d,e,h=>by
  simp only[CT.plain,fe] at e;exact⟨On e.1 h.1,On e.2 h.2⟩
theorem IM{A A':Nat->Prop}{w:World}{t:CT}{cv:Nat->Option Value}{o:Nat}{d:t.D}(L:t.plain=true∨∀ b,A b->A' b)(h:Rd A w t cv o d):Rd A' w t cv o d:=by
 rcases L with L|L
 .exact On L h
 .exact iL L (λ_ _ _=>rfl) t _ _ _ _ (λ_ _=>rfl) h
inductive RK where
 | val (t:CT)
 | agg (o:OT)
 | own (E:TypeId) (t:CT)
 | box (E:TypeId) (o:OT)
 | fn (f:FuncId) (k:Nat)
 | arr (k:IntKind) (n:Nat)
@[reducible] def RK.D:RK->Type
 | .val t=>t.D
 | .agg o=>o.X
 | .own _ t=>List t.D
 | .box _ o=>o.X
 | .fn _ _=>Unit
 | .arr _ _=>ac
@[reducible] def jr:List RK->Type
 | []=>Unit
 | p::r=>p.D×jr r
@[reducible] def gn:List PK->Type
 | []=>Unit
 | .val _::r=>gn r
 | .agg _::r=>gn r
 | .own _ _::r=>gn r
 | .ago _::r=>gn r
 | .fn _ _::r=>gn r
 | .nils::r=>gn r
 | .yld _ _::r=>gn r
 | .box _ o::r=>o.X×gn r
 | .row _ t::r=>List t.D×gn r
def OT.plain:OT->Bool
 | .dat t=>t.plain
 | .row _ t=>t.plain
 | .rowg _ _=>true
 | .fnc _=>true
 | .ali=>true
 | .ref _ o=>o.plain
 | .pair a b=>a.plain&&b.plain
def ua:List RK->Bool
 | []=>true
 | .val t::r=>t.plain&&ua r
 | .agg o::r=>o.plain&&ua r
 | .own _ t::r=>t.plain&&ua r
 | .box _ o::r=>o.plain&&ua r
 | .fn _ _::r=>ua r
 | .arr _ _::r=>ua r
def nF:List PK->Bool
 | []=>true
 | .val _::r=>nF r
 | .agg _::r=>nF r
 | .own _ _::r=>nF r
 | .ago _::r=>nF r
 | .fn _ _::r=>nF r
 | .nils::r=>nF r
 | .yld _ _::r=>nF r
 | .box _ o::r=>o.plain&&nF r
 | .row _ t::r=>t.plain&&nF r
structure Ct where
 ps:List PK
 rs:List RK
 pre:bp ps->List Prop
 out:bp ps->jr rs×gn ps
def HA(E:TypeId)(t:CT)(h:bX):List SV->Option (List t.D×List SV×Option Nat)
 | .own m sz::r=>match h m with
  | .live (.row E' t' xs)=>match Nat.beq E E',Nat.beq sz t.size,iK t' t xs with
   | true,true,some ys=>some (ys,r,some m)
   | _,_,_=>none
  | _=>none
 | .nilsl::r=>some ([],r,none)
 | _=>none
def oR(h:bX)(al:Bool):(o:OT)->Option Nat->List SV->Option (o.X×List SV×List (Nat×Nm)×List (Option Nat))
 | .dat t,_,cs=>match (kW t cs).run h with
  | some ((x,r,fz),_)=>some (x,r,fz,[])
  | none=>none
 | .row E t,_,cs=>match HA E t h cs with
  | some (ys,r,o)=>some (ys,r,[],[o])
  | none=>none
 | .rowg _ _,_,_::r=>some ((),r,[],[])
 | .rowg _ _,_,[]=>none
 | .fnc f,_,.fn g []::r=>match Nat.beq f g with
  | true=>some ((),r,[],[])
  | false=>none
 | .fnc _,_,_=>none
 | .ali,_,.ptr m 0::r=>match al,Nat.beq m PN with
  | true,true=>some ((),r,[],[])
  | _,_=>none
 | .ali,_,_=>none
 | .ref E o,some j,.ptr m 0::r=>match Nat.beq m (PN+j),h m with
  | true,.live (.cells E' cs)=>match Nat.beq E E',oR h al o (some (j+1)) cs with
   | true,some (x,[],fz,ow)=>some (x,r,fz,ow)
   | _,_=>none
  | _,_=>none
 | .ref _ _,_,_=>none
 | .pair a b,j,cs=>match oR h al a j cs with
  | some (x,r,f,w)=>match oR h al b (j.map (· + a.nb)) r with
   | some (y,r',f',w')=>some ((x,y),r',f++f',w++w')
   | none=>none
  | none=>none
def m3(al:Bool):(rs:List RK)->List SV->bX->Option (jr rs×List (Nat×Nm)×List (Option Nat))
 | [],[],_=>some ((),[],[])
 | .val t::rs,v::vs,h=>match (kW t [v]).run h with
  | some ((x,[],fz),_)=>match m3 al rs vs h with
   | some (y,f,o)=>some ((x,y),fz++f,o)
   | none=>none
  | _=>none
 | .agg t::rs,.agg cs::vs,h=>match oR h al t none cs with
  | some (x,[],fz,w)=>match m3 al rs vs h with
   | some (y,f,o)=>some ((x,y),fz++f,w++o)
   | none=>none
  | _=>none
 | .own E t::rs,v::vs,h=>match HA E t h [v] with
  | some (x,_,w)=>match m3 al rs vs h with
   | some (y,f,o)=>some ((x,y),f,w::o)
   | none=>none
  | none=>none
 | .box E t::rs,.ptr m 0::vs,h=>match h m with
  | .live (.cells E' cs)=>match Nat.beq E E',oR h al t none cs with
   | true,some (x,[],fz,w)=>match m3 al rs vs h with
    | some (y,f,o)=>some ((x,y),fz++f,some m::(w++o))
    | none=>none
   | _,_=>none
  | _=>none
 | .fn f k::rs,.fn g cs::vs,h=>match Nat.beq f g,Nat.beq cs.length k with
  | true,true=>match m3 al rs (cs++vs) h with
   | some (y,f',o)=>some (((),y),f',o)
   | none=>none
  | _,_=>none
 | .arr k n::rs,.arr k' m xs::vs,h=>match j8 k k',Nat.beq n m,m3 al rs vs h with
  | true,true,some (y,f,o)=>some ((xs,y),f,o)
  | _,_,_=>none
 | _,_,_=>none
def my:(ps:List PK)->Nat->bX->Option (gn ps×List (Nat×Nm)×List (Option Nat))
 | [],_,_=>some ((),[],[])
 | .val _::ps,j,h=>my ps j h
 | .agg _::ps,j,h=>my ps j h
 | .own _ _::ps,j,h=>my ps j h
 | .ago _::ps,j,h=>my ps j h
 | .fn _ _::ps,j,h=>my ps j h
 | .nils::ps,j,h=>my ps j h
 | .yld _ _::ps,j,h=>my ps j h
 | .box E t::ps,j,h=>match h (PN+j) with
  | .live (.cells E' cs)=>match Nat.beq E E',oR h true t (some (j+1)) cs with
   | true,some (x,[],fz,w)=>match my ps (j+1+t.nb) h with
    | some (y,f,o)=>some ((x,y),fz++f,w++o)
    | none=>none
   | _,_=>none
  | _=>none
 | .row E t::ps,j,h=>match h (PN+j) with
  | .live (.row E' t' xs)=>match Nat.beq E E',iK t' t xs with
   | true,some ys=>match my ps (j+1) h with
    | some (y,f,o)=>some ((ys,y),f,o)
    | none=>none
   | _,_=>none
  | _=>none
def Ad(n:Nat):List (Option Nat)->Bool
 | []=>false
 | some m::r=>Nat.beq n m||Ad n r
 | none::r=>Ad n r
def zI(fz:List (Nat×Nm)):List (Option Nat)->Bool
 | []=>true
 | none::r=>zI fz r
 | some m::r=>(Nat.blt m PN||Nat.ble QN m)&&zT m fz && !Ad m r&&zI fz r
def B4:List (Nat×Nm)->Bool
 | []=>true
 | (n,_)::r=>(Nat.blt n PN||Nat.ble QN n)&&B4 r
def pG(b0:Nat):(o:OT)->o.X->List Nat->Nat->List SV
 | .dat t,x,_,_=>cQ t x
 | .row _ t,_,_,n=>[.own n t.size]
 | .rowg _ _,_,_,_=>[.junk]
 | .fnc f,_,_,_=>[.fn f []]
 | .ali,_,_,_=>[.ptr b0 0]
 | .ref _ _,_,bx,_=>match bx with
  | q::_=>[.ptr q 0]
  | []=>[.junk]
 | .pair a b,x,bx,n=>pG b0 a x.1 bx n++pG b0 b x.2 (bx.drop a.nb) (n+a.nr)
def nT(b0:Nat):(o:OT)->o.X->List Nat->Nat->List (Nat×Nm)
 | .dat _,_,_,_=>[]
 | .row _ _,_,_,_=>[]
 | .rowg _ _,_,_,_=>[]
 | .fnc _,_,_,_=>[]
 | .ali,_,_,_=>[]
 | .ref E o,x,bx,n=>match bx with
  | q::r=>(q,.live (.cells E (pG b0 o x r n)))::nT b0 o x r n
  | []=>[]
 | .pair a b,x,bx,n=>nT b0 a x.1 bx n++nT b0 b x.2 (bx.drop a.nb) (n+a.nr)
def vv:(o:OT)->o.X->Nat->List (Nat×Nm)
 | .dat _,_,_=>[]
 | .row E t,x,n=>[(n,.live (.row E t x))]
 | .rowg _ _,_,_=>[]
 | .fnc _,_,_=>[]
 | .ali,_,_=>[]
 | .ref _ o,x,n=>vv o x n
 | .pair a b,x,n=>vv a x.1 n++vv b x.2 (n+a.nr)
def lJ(b0:Nat):(rs:List RK)->jr rs->Nat->List SV
 | [],_,_=>[]
 | .val t::rs,d,n=>Dq t d.1::lJ b0 rs d.2 n
 | .agg o::rs,d,n => .agg (pG b0 o d.1 [] n)::lJ b0 rs d.2 (n+o.nr)
 | .own E t::rs,d,n => .own n t.size::lJ b0 rs d.2 (n+1)
 | .box E o::rs,d,n => .ptr n 0::lJ b0 rs d.2 (n+1+o.nr)
 | .fn f k::rs,d,n => .fn f ((lJ b0 rs d.2 n).take k)::(lJ b0 rs d.2 n).drop k
 | .arr k m::rs,d,n => .arr k m d.1::lJ b0 rs d.2 n
def mS(b0:Nat):(rs:List RK)->jr rs->Nat->List (Nat×Nm)
 | [],_,_=>[]
 | .val t::rs,d,n=>mS b0 rs d.2 n
 | .agg o::rs,d,n=>vv o d.1 n++mS b0 rs d.2 (n+o.nr)
 | .own E t::rs,d,n=>(n,.live (.row E t d.1))::mS b0 rs d.2 (n+1)
 | .box E o::rs,d,n=>(n,.live (.cells E (pG b0 o d.1 [] (n+1))))::(vv o d.1 (n+1)++mS b0 rs d.2 (n+1+o.nr))
 | .fn _ _::rs,d,n=>mS b0 rs d.2 n
 | .arr _ _::rs,d,n=>mS b0 rs d.2 n
def gZ:List RK->Nat
 | []=>0
 | .own _ _::r=>gZ r+1
 | .box _ o::r=>gZ r+o.nr+1
 | .val _::r=>gZ r
 | .agg o::r=>gZ r+o.nr
 | .fn _ _::r=>gZ r
 | .arr _ _::r=>gZ r
def jz:List PK->Nat
 | []=>0
 | .val _::r=>jz r
 | .agg _::r=>jz r
 | .own _ _::r=>jz r
 | .ago _::r=>jz r
 | .fn _ _::r=>jz r
 | .nils::r=>jz r
 | .yld _ _::r=>jz r
 | .box _ o::r=>jz r+o.nr
 | .row _ _::r=>jz r
def gN(b0:Nat):(ps:List PK)->gn ps->List Nat->Nat->List (Nat×Nm)
 | .val _::ps,d,bx,nb=>gN b0 ps d bx nb
 | .agg _::ps,d,bx,nb=>gN b0 ps d bx nb
 | .own _ _::ps,d,bx,nb=>gN b0 ps d bx nb
 | .ago _::ps,d,bx,nb=>gN b0 ps d bx nb
 | .fn _ _::ps,d,bx,nb=>gN b0 ps d bx nb
 | .nils::ps,d,bx,nb=>gN b0 ps d bx nb
 | .yld _ _::ps,d,bx,nb=>gN b0 ps d bx nb
 | .box E o::ps,d,n::bx,nb=>(n,.live (.cells E (pG b0 o d.1 bx nb)))::(nT b0 o d.1 bx nb++gN b0 ps d.2 (bx.drop o.nb) (nb+o.nr))
 | .row E t::ps,d,n::bx,nb=>(n,.live (.row E t d.1))::gN b0 ps d.2 bx nb
 | _,_,_,_=>[]
def iP:(ps:List PK)->gn ps->Nat->List (Nat×Nm)
 | [],_,_=>[]
 | .val _::ps,d,nb=>iP ps d nb
 | .agg _::ps,d,nb=>iP ps d nb
 | .own _ _::ps,d,nb=>iP ps d nb
 | .ago _::ps,d,nb=>iP ps d nb
 | .fn _ _::ps,d,nb=>iP ps d nb
 | .nils::ps,d,nb=>iP ps d nb
 | .yld _ _::ps,d,nb=>iP ps d nb
 | .box E o::ps,d,nb=>vv o d.1 nb++iP ps d.2 (nb+o.nr)
 | .row E t::ps,d,nb=>iP ps d.2 nb
def sQ:List (Option Nat)->List (Nat×Nm)
 | []=>[]
 | none::r=>sQ r
 | some n::r=>(n,.dead)::sQ r
def tY:List SV->SV
 | [v]=>v
 | l => .tup l
def Gs(fz:List (Nat×Nm)):List Nat->Bool
 | []=>true
 | n::r=>zT n fz&&Gs fz r
def tV:Nat->Nat->Dl->Q Dl
 | _,0,d => .ret d
 | n,k+1,d => .ask n fun
  | .un=>tV (n+1) k d
  | _ => .fail
def Ba(ps:List PK)(rs:List RK):Bool := !(ua rs&&nF ps)
def ve(ps:List PK)(rs:List RK)(y:jr rs×gn ps)(base:Nat)(fz:List (Nat×Nm))(bx:List Nat)(cx:List (Option Nat)):List (Nat×Nm) :=
 (gN (bx.headD 0) ps y.2 bx (base+gZ rs)++(mS (bx.headD 0) rs y.1 base++(iP ps y.2 (base+gZ rs)++sQ cx)))++(match Ba ps rs with|true=>fz|false=>[])
def zh(fz:List (Nat×Nm))(bx:List Nat)(cx:List (Option Nat)):Bool:=Fb (bx++lH cx)&&Gs fz (bx++lH cx)&&Nat.ble bx.length PN
def Ct.spec(c:Ct):Spec:=λbase svs=>(iq none c.ps svs).bind λp=>match zh p.2.1 p.2.2.1 p.2.2.2 with
 | true=>tV base (gZ c.rs+jz c.ps) (.det (c.pre p.1) (tY (lJ (p.2.2.1.headD 0) c.rs (c.out p.1).1 base)) (ve c.ps c.rs (c.out p.1) base p.2.1 p.2.2.1 p.2.2.2))
 | false => .fail
structure Cn where
 ps:List PK
 rs:List RK
 pre:bp ps->List Prop
 post:bp ps->jr rs×gn ps->Prop
 inh:∀ d,bS (pre d)→∃ y,post d y
def Bb{X:Type}(b0:Nat):(o:OT)->(X->o.X)->List Nat->Nat->List (Nat×(X->Nm))
 | .dat _,_,_,_=>[]
 | .row _ _,_,_,_=>[]
 | .rowg _ _,_,_,_=>[]
 | .fnc _,_,_,_=>[]
 | .ali,_,_,_=>[]
 | .ref E o,x,bx,n=>match bx with
  | q::r=>(q,λy=>.live (.cells E (pG b0 o (x y) r n)))::Bb b0 o x r n
  | []=>[]
 | .pair a b,x,bx,n=>Bb b0 a (λy=>(x y).1) bx n++Bb b0 b (λy=>(x y).2) (bx.drop a.nb) (n+a.nr)
def xO{X:Type}:(o:OT)->(X->o.X)->Nat->List (Nat×(X->Nm))
 | .dat _,_,_=>[]
 | .row E t,x,n=>[(n,λy=>.live (.row E t (x y)))]
 | .rowg _ _,_,_=>[]
 | .fnc _,_,_=>[]
 | .ali,_,_=>[]
 | .ref _ o,x,n=>xO o x n
 | .pair a b,x,n=>xO a (λy=>(x y).1) n++xO b (λy=>(x y).2) (n+a.nr)
def oh{X:Type}(b0:Nat):(ps:List PK)->(X->gn ps)->List Nat->Nat->List (Nat×(X->Nm))
 | .val _::ps,d,bx,nb=>oh b0 ps d bx nb
 | .agg _::ps,d,bx,nb=>oh b0 ps d bx nb
 | .own _ _::ps,d,bx,nb=>oh b0 ps d bx nb
 | .ago _::ps,d,bx,nb=>oh b0 ps d bx nb
 | .fn _ _::ps,d,bx,nb=>oh b0 ps d bx nb
 | .nils::ps,d,bx,nb=>oh b0 ps d bx nb
 | .yld _ _::ps,d,bx,nb=>oh b0 ps d bx nb
 | .box E o::ps,d,n::bx,nb=>(n,λx=>.live (.cells E (pG b0 o (d x).1 bx nb)))::(Bb b0 o (λx=>(d x).1) bx nb++oh b0 ps (λx=>(d x).2) (bx.drop o.nb) (nb+o.nr))
 | .row E t::ps,d,n::bx,nb=>(n,λx=>.live (.row E t (d x).1))::oh b0 ps (λx=>(d x).2) bx nb
 | _,_,_,_=>[]
def nM{X:Type}:(ps:List PK)->(X->gn ps)->Nat->List (Nat×(X->Nm))
 | [],_,_=>[]
 | .val _::ps,d,nb=>nM ps d nb
 | .agg _::ps,d,nb=>nM ps d nb
 | .own _ _::ps,d,nb=>nM ps d nb
 | .ago _::ps,d,nb=>nM ps d nb
 | .fn _ _::ps,d,nb=>nM ps d nb
 | .nils::ps,d,nb=>nM ps d nb
 | .yld _ _::ps,d,nb=>nM ps d nb
 | .box E o::ps,d,nb=>xO o (λx=>(d x).1) nb++nM ps (λx=>(d x).2) (nb+o.nr)
 | .row E t::ps,d,nb=>nM ps (λx=>(d x).2) nb
def sa{X:Type}(b0:Nat):(rs:List RK)->(X->jr rs)->Nat->List (Nat×(X->Nm))
 | [],_,_=>[]
 | .val t::rs,d,n=>sa b0 rs (λx=>(d x).2) n
 | .agg o::rs,d,n=>xO o (λx=>(d x).1) n++sa b0 rs (λx=>(d x).2) (n+o.nr)
 | .own E t::rs,d,n=>(n,λx=>.live (.row E t (d x).1))::sa b0 rs (λx=>(d x).2) (n+1)
 | .box E o::rs,d,n=>(n,λx=>.live (.cells E (pG b0 o (d x).1 [] (n+1))))::(xO o (λx=>(d x).1) (n+1)++sa b0 rs (λx=>(d x).2) (n+1+o.nr))
 | .fn _ _::rs,d,n=>sa b0 rs (λx=>(d x).2) n
 | .arr _ _::rs,d,n=>sa b0 rs (λx=>(d x).2) n
def Gx{X:Type}:List (Nat×Nm)->List (Nat×(X->Nm))
 | []=>[]
 | (n,b)::r=>(n,λ_=>b)::Gx r
def AY(ps:List PK)(rs:List RK)(base:Nat)(fz:List (Nat×Nm))(bx:List Nat)(cx:List (Option Nat)):List (Nat×(jr rs×gn ps->Nm)) :=
 (oh (bx.headD 0) ps (λy:jr rs×gn ps=>y.2) bx (base+gZ rs)++(sa (bx.headD 0) rs (λy:jr rs×gn ps=>y.1) base++(nM ps (λy:jr rs×gn ps=>y.2) (base+gZ rs)++Gx (sQ cx))))++(match Ba ps rs with|true=>Gx fz|false=>[])
theorem IH{X:Type}{b0:Nat}(y:X):∀(o:OT)(x:X->o.X)(bx:List Nat)(n:Nat),(Bb b0 o x bx n).map (λp=>(p.1,p.2 y))=nT b0 o (x y) bx n
 | .dat _,_,_,_=>rfl
 | .row _ _,_,_,_=>rfl
 | .rowg _ _,_,_,_=>rfl
 | .fnc _,_,_,_=>rfl
 | .ali,_,_,_=>rfl
 | .ref E o,x,[],n=>rfl
 | .ref E o,x,q::r,n=>by simp only[Bb,nT,fV,IH y o]
 | .pair a b,x,bx,n=>by simp only[Bb,nT,lx,IH y a,IH y b]
theorem C3{X:Type}(y:X):∀(o:OT)(x:X->o.X)(n:Nat),(xO o x n).map (λp=>(p.1,p.2 y))=vv o (x y) n
 | .dat _,_,_=>rfl
 | .row _ _,_,_=>rfl
 | .rowg _ _,_,_=>rfl
 | .fnc _,_,_=>rfl
 | .ali,_,_=>rfl
 | .ref E o,x,n=>by simp only[xO,vv,C3 y o]
 | .pair a b,x,n=>by simp only[xO,vv,lx,C3 y a,C3 y b]
theorem wU{X:Type}{b0:Nat}(x:X):∀(ps:List PK)(d:X->gn ps)(bx:List Nat)(nb:Nat),(oh b0 ps d bx nb).map (λp=>(p.1,p.2 x))=gN b0 ps (d x) bx nb
 | [],_,_,_=>rfl
 | .val _::ps,d,bx,nb=>by simp only[oh,gN];exact wU x ps d bx nb
 | .agg _::ps,d,bx,nb=>by simp only[oh,gN];exact wU x ps d bx nb
 | .own _ _::ps,d,bx,nb=>by simp only[oh,gN];exact wU x ps d bx nb
 | .ago _::ps,d,bx,nb=>by simp only[oh,gN];exact wU x ps d bx nb
 | .fn _ _::ps,d,bx,nb=>by simp only[oh,gN];exact wU x ps d bx nb
 | .nils::ps,d,bx,nb=>by simp only[oh,gN];exact wU x ps d bx nb
 | .yld _ _::ps,d,bx,nb=>by simp only[oh,gN];exact wU x ps d bx nb
 | .box E t::ps,d,[],_=>rfl
 | .row E t::ps,d,[],_=>rfl
 | .box E t::ps,d,n::bx,nb=>by simp only[oh,gN,fV,lx,IH x t,wU x ps]
 | .row E t::ps,d,n::bx,nb=>by simp only[oh,gN,fV,wU x ps]
theorem xj{X:Type}(x:X):∀(ps:List PK)(d:X->gn ps)(nb:Nat),(nM ps d nb).map (λp=>(p.1,p.2 x))=iP ps (d x) nb
 | [],_,_=>rfl
 | .val _::ps,d,nb=>by simp only[nM,iP];exact xj x ps d nb
 | .agg _::ps,d,nb=>by simp only[nM,iP];exact xj x ps d nb
 | .own _ _::ps,d,nb=>by simp only[nM,iP];exact xj x ps d nb
 | .ago _::ps,d,nb=>by simp only[nM,iP];exact xj x ps d nb
 | .fn _ _::ps,d,nb=>by simp only[nM,iP];exact xj x ps d nb
 | .nils::ps,d,nb=>by simp only[nM,iP];exact xj x ps d nb
 | .yld _ _::ps,d,nb=>by simp only[nM,iP];exact xj x ps d nb
 | .box E t::ps,d,nb=>by simp only[nM,iP,lx,C3 x t,xj x ps]
 | .row E t::ps,d,nb=>by simp only[nM,iP];exact xj x ps _ nb
theorem AB{X:Type}{b0:Nat}(x:X):∀(rs:List RK)(d:X->jr rs)(n:Nat),(sa b0 rs d n).map (λp=>(p.1,p.2 x))=mS b0 rs (d x) n
 | [],_,_=>rfl
 | .val t::rs,d,n=>by simp only[sa,mS];exact AB x rs _ n
 | .agg t::rs,d,n=>by simp only[sa,mS,lx,C3 x t,AB x rs]
 | .own E t::rs,d,n=>by simp only[sa,mS,fV,AB x rs]
 | .box E t::rs,d,n=>by simp only[sa,mS,fV,lx,C3 x t,AB x rs]
 | .fn _ _::rs,d,n=>by simp only[sa,mS];exact AB x rs _ n
 | .arr _ _::rs,d,n=>by simp only[sa,mS];exact AB x rs _ n
theorem Og{X:Type}(x:X):∀(l:List (Nat×Nm)),(Gx (X:=X) l).map (λp=>(p.1,p.2 x))=l
 | []=>rfl
 | (n,b)::r=>by simp only[Gx,fV,Og x r]
theorem PA{ps:List PK}{rs:List RK}{a:Nat}{fz:List (Nat×Nm)}{bx:List Nat}{cx:List (Option Nat)}(y:jr rs×gn ps):(AY ps rs a fz bx cx).map (λp=>(p.1,p.2 y))=ve ps rs y a fz bx cx:=by
 unfold AY ve
 simp only[lx,wU,AB,xj,Og]
 cases Ba ps rs with
 | true=>simp only[Og]
 | false=>rfl
def AH:(o:OT)->(o.X->Prop)->Prop
 | .dat t,k=>iD t k
 | .row _ t,k=>∀ x:List t.D,k x
 | .rowg _ _,k=>k ()
 | .fnc _,k=>k ()
 | .ali,k=>k ()
 | .ref _ o,k=>AH o k
 | .pair a b,k=>AH a λx=>AH b λy=>k (x,y)
theorem C9:∀{o:OT}{k:o.X->Prop},AH o k→∀ d,k d
 | .dat t,k,h,d=>G0.1 h d
 | .row _ t,k,h,d=>h d
 | .rowg _ _,k,h,d=>h
 | .fnc _,k,h,d=>h
 | .ali,k,h,d=>h
 | .ref _ o,k,h,d=>C9 (o:=o) h d
 | .pair a b,k,h,d=>C9 (C9 (o:=a) h d.1) d.2
def yU:(rs:List RK)->(jr rs->Prop)->Prop
 | [],k=>k ()
 | .val t::r,k=>iD t λx=>yU r λy=>k (x,y)
 | .agg o::r,k=>AH o λx=>yU r λy=>k (x,y)
 | .own _ t::r,k=>∀ x:List t.D,yU r λy=>k (x,y)
 | .box _ o::r,k=>AH o λx=>yU r λy=>k (x,y)
 | .fn _ _::r,k=>yU r λy=>k ((),y)
 | .arr _ _::r,k=>∀ x:ac,yU r λy=>k (x,y)
theorem AI:∀{rs:List RK}{k:jr rs->Prop},yU rs k→∀ d,k d
 | [],k,h,d=>h
 | .val t::r,k,h,d=>AI (rs:=r) (G0.1 h d.1) d.2
 | .agg o::r,k,h,d=>AI (rs:=r) (C9 (o:=o) h d.1) d.2
 | .own _ t::r,k,h,d=>AI (rs:=r) (h d.1) d.2
 | .box _ o::r,k,h,d=>AI (rs:=r) (C9 (o:=o) h d.1) d.2
 | .fn _ _::r,k,h,d=>AI (rs:=r) h d.2
 | .arr _ _::r,k,h,d=>AI (rs:=r) (h d.1) d.2
def vo:(ps:List PK)->(gn ps->Prop)->Prop
 | [],k=>k ()
 | .val _::r,k=>vo r k
 | .agg _::r,k=>vo r k
 | .own _ _::r,k=>vo r k
 | .ago _::r,k=>vo r k
 | .fn _ _::r,k=>vo r k
 | .nils::r,k=>vo r k
 | .yld _ _::r,k=>vo r k
 | .box _ o::r,k=>AH o λx=>vo r λy=>k (x,y)
 | .row _ t::r,k=>∀ x:List t.D,vo r λy=>k (x,y)
theorem w7:∀{ps:List PK}{k:gn ps->Prop},vo ps k→∀ d,k d
 | [],k,h,d=>h
 | .val _::r,k,h,d=>w7 (ps:=r) h d
 | .agg _::r,k,h,d=>w7 (ps:=r) h d
 | .own _ _::r,k,h,d=>w7 (ps:=r) h d
 | .ago _::r,k,h,d=>w7 (ps:=r) h d
 | .fn _ _::r,k,h,d=>w7 (ps:=r) h d
 | .nils::r,k,h,d=>w7 (ps:=r) h d
 | .yld _ _::r,k,h,d=>w7 (ps:=r) h d
 | .box _ o::r,k,h,d=>w7 (ps:=r) (C9 (o:=o) h d.1) d.2
 | .row _ t::r,k,h,d=>w7 (ps:=r) (h d.1) d.2
def To(rs:List RK)(ps:List PK):Qn (jr rs×gn ps) :=
 ⟨λk=>yU rs λy=>vo ps λz=>k (y,z),λk h x=>w7 (AI h x.1) x.2,λk=>∃ x,k x,λ_ h=>h⟩
def Cn.spec(c:Cn):Spec:=λbase svs=>(iq none c.ps svs).bind λp=>match zh p.2.1 p.2.2.1 p.2.2.2 with
 | true=>tV base (gZ c.rs+jz c.ps) (.nd (jr c.rs×gn c.ps) (To c.rs c.ps) (c.pre p.1) (c.post p.1) (c.inh p.1) (λy=>tY (lJ (p.2.2.1.headD 0) c.rs y.1 base)) (AY c.ps c.rs base p.2.1 p.2.2.1 p.2.2.2))
 | false => .fail
section
variable {w0:World} {N0:fK} {A A' A1 A2:Nat->Prop} {env env1 env':bj} {h h1:bX} {w w1:World}
theorem Br{a b c:Bool}{p:Prop}(h:(a&&b)=true∨p):a=true∨p:=by
 grind
theorem AU{a b:Bool}{p:Prop}(h:(a&&b)=true∨p):b=true∨p:=by
 grind
theorem bz1{al:Bool}{t:OT}{rs:List RK}{a:List SV} {x} (e:m3 al (.agg t::rs) a h1=some x):∃ cs r,a = .agg cs::r:=by
 cases a with
 | nil=>cases e
 | cons s r=>cases s <;> first|exact⟨_,_,rfl⟩|cases e
theorem aa3{al:Bool}{E:TypeId}{t:CT}{rs:List RK}{a:List SV} {x} (e:m3 al (.own E t::rs) a h1=some x):∃ v r,a=v::r:=by
 cases a with
 | nil=>cases e
 | cons s r=>exact⟨_,_,rfl⟩
theorem aN4{al:Bool}{E:TypeId}{t:OT}{rs:List RK}{a:List SV} {x} (e:m3 al (.box E t::rs) a h1=some x):∃ m r,a = .ptr m 0::r:=by
 cases a with
 | nil=>cases e
 | cons s r=>cases s <;> first|cases e;done|(rename_i m o;cases o <;> first|exact⟨_,_,rfl⟩|cases e)
theorem bF9{al:Bool}{k:IntKind}{n:Nat}{rs:List RK}{svs:List SV} {x} (e:m3 al (.arr k n::rs) svs h1=some x):∃ k' m xs r,svs = .arr k' m xs::r:=by
 cases svs with
 | nil=>cases e
 | cons s r=>cases s <;> first|exact⟨_,_,_,_,rfl⟩|cases e
theorem ax1{al:Bool}{f:FuncId}{k:Nat}{rs:List RK}{a:List SV} {x} (e:m3 al (.fn f k::rs) a h1=some x):∃ g cs r,a = .fn g cs::r:=by
 cases a with
 | nil=>cases e
 | cons s r=>cases s <;> first|exact⟨_,_,_,rfl⟩|cases e
theorem bM4{al:Bool}{E:TypeId}{t:OT}{j:Option Nat}{a:List SV} {x} (e:oR h1 al (.ref E t) j a=some x):∃ b m r,j=some b/\a = .ptr m 0::r:=by
 cases j with
 | none=>cases a <;> cases e
 | some b =>
  cases a with
  | nil=>cases e
  | cons s r=>cases s <;> first|cases e;done|(rename_i m o;cases o <;> first|exact⟨_,_,_,rfl,rfl⟩|cases e)
theorem aD4{al:Bool}{f:FuncId}{j:Option Nat}{a:List SV} {x} (e:oR h1 al (.fnc f) j a=some x):∃ r,a = .fn f []::r/\x=((),r,[],[]):=by
 cases a with
 | nil=>cases e
 | cons s r =>
  cases s <;> first|cases e;done|skip
  rename_i g cs;cases cs <;> first|cases e;done|skip
  simp only[oR] at e;split at e
  .simp_all
  .cases e
theorem ae1{al:Bool}{E:TypeId}{t:CT}{j:Option Nat}{a:List SV} {x} (e:oR h1 al (.rowg E t) j a=some x):∃ v r,a=v::r:=by
 cases a with
 | nil=>cases e
 | cons s r=>exact⟨_,_,rfl⟩
theorem T6{Nc:fK}(m1:Mod w Nc A1 env1 h1 w1)(hA:∀ b,A1 b->A2 b){E:TypeId}{t:CT}(L:t.plain=true∨∀ b,A2 b->A' b){cs rest:List SV}{vs:List Value}{ys:List t.D}{j:Option Nat}
  (e:HA E t h1 cs=some (ys,rest,j)) (q:aO A1 env1 w1 cs vs) :
  ∃ v f,vs=v::f/\rest=cs.drop 1/\aO A1 env1 w1 rest f∧∀(g:bj)(i:Nat),g i=rS env1 j->az A' g w1 (.own i t.size) v/\lT A' env1 h1 g w1 [j] [(i,.live (.row E t ys))] i:=by
 cases cs with
 | nil=>cases e
 | cons s cs =>
 cases s with
 | own n sz =>
  simp only[HA] at e;split at e
  .rename_i E' t' xs r;split at e
   .rename_i zs l d hc;have l:=bK l;subst l;have d:=bK d;subst d;obtain⟨et,ez⟩:=lq hc;subst et;subst ez;obtain⟨rfl,rfl,rfl⟩:=e;obtain⟨x,f,rfl,hv,m⟩:=q;have o:=m1.nm n;rw[r] at o;refine⟨x,f,rfl,rfl,m,λg i c=>⟨?_,⟨rfl,_,rfl,rfl,.inl ⟨n,_,rfl,r,rfl,λk len c=>?_,λc=>?_⟩⟩,aN⟩⟩
    .simp only[rS] at c;simp only[az];rw[c];exact hv
    .rcases o with⟨k',h,a,p,_⟩|⟨a,_⟩
     .rw[c] at a;cases a;obtain⟨us,cap,g1,g2,g3,g4,g5,g6⟩:=p;exact⟨us,cap,g1,g2,g3,g4,g5,λi hi=>IM L (iL hA (λ_ _ _=>rfl) _ _ _ _ _ (λ_ _=>rfl) (g6 i hi))⟩
     .rw[c] at a;cases a
    .rcases o with⟨k',h,a,p,_⟩|⟨a,E2,t2,p⟩
     .rw[c] at a;cases a
     .simp_all
   .cases e
  .cases e
 | nilsl =>
  obtain⟨rfl,rfl,rfl⟩:=e;obtain⟨x,f,rfl,rfl,m⟩:=q;refine⟨_,f,rfl,rfl,m,λg i c=>⟨?_,⟨rfl,_,rfl,rfl,.inr ⟨rfl,_,_,rfl⟩⟩,aN⟩⟩;exact .inl ⟨c,_,rfl⟩
 | _=>cases e
def sO(A':Nat->Prop)(env1:bj)(h1:bX)(env':bj)(w1:World)(bx:List Nat)(j:Nat)(n:Nat)(x:Nm):Prop :=
 ∃ i b b0,bx[i]? = some n/\x = .live b/\b.mut=true/\h1 (PN+(j+i)) = .live b0/\b0.mut=true/\(∀ k len,env1 (PN+(j+i)) = .blk k len->kg A' env' w1 k len b)/\(env1 (PN+(j+i)) = .nil→∃ E t,b = .row E t [])
theorem sO.shift{pre bx:List Nat}{j n:Nat}{x:Nm}(h:sO A' env1 h1 env' w1 bx (j+pre.length) n x):sO A' env1 h1 env' w1 (pre++bx) j n x:=by
 obtain⟨i,b,b0,g1,g2,g3,a,g5,c,d⟩:=h
 rw[show j+pre.length+i=j+(pre.length+i) from by omega] at a c d
 exact⟨pre.length+i,b,b0,by rw[nD ab,ot];exact g1,g2,g3,a,g5,c,d⟩
theorem sO.grow{bx post:List Nat}{j n:Nat}{x:Nm}(h:sO A' env1 h1 env' w1 bx j n x):sO A' env1 h1 env' w1 (bx++post) j n x:=by
 obtain⟨i,b,b0,a,g2⟩:=h
 exact⟨i,b,b0,by rw[nV (List.getElem?_eq_some_iff.1 a).1];exact a,g2⟩
theorem PF{al:Bool}:∀(o:OT)(cs:List SV) {x},oR h1 al o none cs=some x->o.nb=0
 | .dat t,_,_,_=>rfl
 | .row _ t,_,_,_=>rfl
 | .rowg _ t,_,_,_=>rfl
 | .fnc _,_,_,_=>rfl
 | .ali,_,_,_=>rfl
 | .pair a b,cs,x,e=>by
  simp only[oR] at e;split at e
  .rename_i c;split at e
   next d=>have k1:=PF a _ c;have k2:=PF b _ d;simp only[OT.nb];omega
   .cases e
  .cases e
theorem aM6{al:Bool}{j:Option Nat}{a:List SV} {x} (e:oR h1 al .ali j a=some x):∃ r,a = .ptr PN 0::r/\al=true/\x=((),r,[],[]):=by
 cases a with
 | nil=>cases e
 | cons s r =>
  cases s with
  | ptr m off=>cases off with
   | zero =>
    have e:(match (generalizing:=false) al,Nat.beq m PN with|true,true=>(some ((),r,[],[]):Option (Unit×List SV×List (Nat×Nm)×List (Option Nat)))|_,_=>none)=some x:=by
     cases j <;> exact e
    cases hb:Nat.beq m PN with
    | false=>rw[hb] at e;cases al <;> cases e
    | true =>
     cases al with
     | false=>cases e
     | true =>
      simp_all
   | succ k=>cases e
  | _=>cases e
theorem Cx{al:Bool}{Nc:fK}(m1:Mod w Nc A1 env1 h1 w1)(hA:∀ b,A1 b->A2 b)(b0:Nat):∀(o:OT)(j:Option Nat)(cs:List SV)(vs:List Value)(x:o.X)(rest:List SV)(fz:List (Nat×Nm))(ow:List (Option Nat))(bx more:List Nat)(n:Nat),
  oR h1 al o j cs=some (x,rest,fz,ow)->aO A1 env1 w1 cs vs->(∀ k,iN env1 fz k->A2 k)->(o.plain=true∨∀ b,A2 b->A' b)->(j=none∨bx.length=o.nb) →
  pV h1 fz/\ow.length=o.nr∧∃ us rs,vs=us++rs/\aO A1 env1 w1 rest rs ∧
   ((al=true->env' b0=env1 PN)->(∀ k q,ow[k]? = some q->env' (n+k)=rS env1 q)->(∀ j0 k q,j=some j0->bx[k]? = some q->env' q=env1 (PN+(j0+k))) →
     aO A' env' w1 (pG b0 o x (bx++more) n) us/\lT A' env1 h1 env' w1 ow (vv o x n) n/\(∀ q y,(q,y)∈nT b0 o x (bx++more) n→∃ j0,j=some j0/\sO A' env1 h1 env' w1 bx j0 q y) ∧
     (j≠none→∀ q,q∈bx->q∈(nT b0 o x (bx++more) n).map (·.1)))
 | .dat t,j,cs,vs,x,rest,fz,ow,bx,more,n,e,hd,hF,L,hbl=>by
  simp only[oR] at e;split at e
  .rename_i x1 r1 f1 q1 hp;simp only[cE,cC] at e;obtain⟨rfl,rfl,rfl,rfl⟩:=e;obtain⟨p1,p2,p3,p4,p5⟩:=u9 m1 t cs vs x1 r1 f1 _ hp hd hA hF;refine⟨p1,rfl,vs.take t.size,vs.drop t.size,(nZ _ _).symm,p5,λ_ _ _=>⟨?_,aN,λq y hh=>by simp[nT] at hh,λhj q hq=>?_⟩⟩
   .simp only[pG];refine JB (by rw[dG];omega) (IM L ?_);refine iL (λ_ h=>h) (λ_ _ _=>rfl) t _ _ _ _ (λk hk=>?_) p4;simp_all
   .rcases hbl with hbl|hbl
    .exact absurd hbl hj
    .rw[List.length_eq_zero_iff.1 hbl] at hq;cases hq
  .cases e
 | .row E t,j,cs,vs,x,rest,fz,ow,bx,more,n,e,hd,hF,L,hbl=>by
  simp only[oR] at e;split at e
  .rename_i x1 r1 o1 hp;simp only[cE,cC] at e;obtain⟨rfl,rfl,rfl,rfl⟩:=e;obtain⟨v,vr,rfl,-,p2,p3⟩:=T6 (A':=A') m1 hA L hp hd;refine⟨λn b hh=>by simp at hh,rfl,[v],vr,rfl,p2,λ_ ho _=>?_⟩;obtain⟨k1,k2⟩:=p3 env' n (ho 0 _ rfl);refine⟨?_,k2,λq y hh=>by simp[nT] at hh,λhj q hq=>?_⟩
   .simp only[pG,aO];exact⟨v,[],rfl,k1,rfl⟩
   .rcases hbl with hbl|hbl
    .exact absurd hbl hj
    .rw[List.length_eq_zero_iff.1 hbl] at hq;cases hq
  .cases e
 | .rowg E t,j,cs0,vs,x,rest,fz,ow,bx,more,n,e,hd,hF,L,hbl=>by
  obtain⟨v,cs,rfl⟩:=ae1 e;simp only[oR,cE,cC] at e;obtain⟨-,rfl,rfl,rfl⟩:=e;simp only[aO] at hd;obtain⟨u,vr,rfl,hu,hvr⟩:=hd;refine⟨λn b hh=>by simp at hh,rfl,[u],vr,rfl,hvr,λ_ ho _=>⟨?_,aN,λq y hh=>by simp[nT] at hh,λhj q hq=>?_⟩⟩
  .simp only[pG,aO,az];exact⟨u,[],rfl,aN,rfl⟩
  .rcases hbl with hbl|hbl
   .exact absurd hbl hj
   .rw[List.length_eq_zero_iff.1 hbl] at hq;cases hq
 | .fnc f,j,cs0,vs,x,rest,fz,ow,bx,more,n,e,hd,hF,L,hbl=>by
  obtain⟨cs,rfl,e2⟩:=aD4 e;simp only[cC] at e2;obtain⟨-,rfl,rfl,rfl⟩:=e2;simp only[aO] at hd;obtain⟨u,vr,rfl,hu,hvr⟩:=hd;refine⟨λn b hh=>by simp at hh,rfl,[u],vr,rfl,hvr,λ_ ho _=>⟨?_,aN,λq y hh=>by simp[nT] at hh,λhj q hq=>?_⟩⟩
  .simp only[pG,aO];simp only[az,aO] at hu;refine⟨u,[],rfl,?_,rfl⟩;simp only[az,aO];exact hu
  .rcases hbl with hbl|hbl
   .exact absurd hbl hj
   .rw[List.length_eq_zero_iff.1 hbl] at hq;cases hq
 | .ali,j,cs0,vs,x,rest,fz,ow,bx,more,n,e,hd,hF,L,hbl=>by
  obtain⟨cs,rfl,hj0,e2⟩:=aM6 e;simp only[cC] at e2;obtain⟨-,rfl,rfl,rfl⟩:=e2;simp only[aO,az] at hd;obtain⟨u,vr,rfl,⟨k,len,hek,rfl⟩,hvr⟩:=hd;refine⟨λn b hh=>by simp at hh,rfl,[_],vr,rfl,hvr,λhb0 ho _=>⟨?_,aN,λq y hh=>by simp[nT] at hh,λhj q hq=>?_⟩⟩
  .simp only[pG,aO,az];simp_all
  .rcases hbl with hbl|hbl
   .exact absurd hbl hj
   .rw[List.length_eq_zero_iff.1 hbl] at hq;cases hq
 | .ref E o,j,cs0,vs,x,rest,fz,ow,bx,more,n,e,hd,hF,L,hbl=>by
  obtain⟨j0,m,cs,rfl,rfl⟩:=bM4 e;simp only[oR] at e;split at e
  .rename_i E' cs' hm hl;have hm:=bK hm;subst hm;split at e
   .rename_i x1 f1 w1' hE hp;have hE:=bK hE;subst hE;simp only[cE,cC] at e;obtain⟨rfl,rfl,rfl,rfl⟩:=e;simp only[aO,az] at hd;obtain⟨u,vr,rfl,⟨kb,lb,hkb,rfl⟩,hvr⟩:=hd;obtain⟨⟨us,hus,hdu⟩,_⟩:=m1.live_blk hl hkb;cases bx with
    | nil=>rcases hbl with hbl|hbl <;> cases hbl
    | cons q0 bx =>
    have hbl':bx.length=o.nb:=by
     rcases hbl with hbl|hbl
     .cases hbl
     .simpa[OT.nb] using hbl
    obtain⟨s1,s2,us',rs',s5,s6,s7⟩:=Cx m1 hA b0 o (some (j0+1)) cs' us.toList x1 [] f1 w1' bx more n hp hdu hF L (.inr hbl');simp only[aO] at s6;subst s6;rw[kY] at s5;subst s5;refine⟨s1,s2,[_],vr,rfl,hvr,λh0b ho hb=>?_⟩;have h0:=hb j0 0 q0 rfl rfl;rw[kP] at h0;obtain⟨k1,k2,k3,k4⟩:=s7 h0b ho (λj1 k q hj hq=>by
     cases hj;have:=hb j0 (k+1) q rfl (by simpa using hq)
     rwa [show j0+(k+1)=j0+1+k from by omega] at this)
    refine⟨?_,k2,λq y hh=>?_,λ_ q hq=>?_⟩
    .simp only[pG,nO,aO,az];simp_all
    .simp only[nT,nO] at hh;rcases eZ.1 hh with hh|hh
     .cases hh;refine⟨j0,rfl,0,_,_,rfl,rfl,rfl,hl,rfl,λk len he=>?_,λhe=>?_⟩
      .rw[kP,hkb] at he;cases he;exact⟨us,hus,k1⟩
      .simp_all
     .obtain⟨j1,hj1,hbx⟩:=k3 q y hh;cases hj1;exact⟨j0,rfl,sO.shift (pre:=[q0]) hbx⟩
    .simp only[nT,nO,fV];grind
   .cases e
  .cases e
 | .pair a b,j,cs,vs,x,rest,fz,ow,bx,more,n,e,hd,hF,L,hbl=>by
  simp only[oR] at e;split at e
  .rename_i x1 r1 f1 o1 h1';split at e
   .rename_i x2 r2 f2 o2 h2';simp only[cE,cC] at e;obtain⟨rfl,rfl,rfl,rfl⟩:=e;have hF1:∀ k,iN env1 f1 k->A2 k:=λk ⟨n,x,l,hx,he⟩=>hF k ⟨n,x,l,iA _ hx,he⟩;have hF2:∀ k,iN env1 f2 k->A2 k:=λk ⟨n,x,l,hx,he⟩=>hF k ⟨n,x,l,jD _ hx,he⟩;have La:a.plain=true∨∀ b,A2 b->A' b:=Br (c:=true) L;have Lb:b.plain=true∨∀ b,A2 b->A' b:=AU L;have hla:j=none∨(bx.take a.nb).length=a.nb:=by
     rcases hbl with hbl|hbl
     .exact .inl hbl
     .simp only[OT.nb] at hbl;simp_all
    have hlb:j.map (· + a.nb)=none∨(bx.drop a.nb).length=b.nb:=by
     rcases hbl with hbl|hbl
     .exact .inl (by rw[hbl];rfl)
     .simp only[OT.nb] at hbl;exact .inr (by rw[ib];omega)
    obtain⟨s1,s2,us,rs,rfl,s6,s7⟩:=Cx m1 hA b0 a j cs vs x1 r1 f1 o1 (bx.take a.nb) (bx.drop a.nb++more) n h1' hd hF1 La hla;obtain⟨t1,t2,us',rs',rfl,t6,t7⟩:=Cx m1 hA b0 b (j.map (· + a.nb)) r1 rs x2 r2 f2 o2 (bx.drop a.nb) more (n+a.nr) h2' s6 hF2 Lb hlb;refine⟨λn b hh=>?_,by simp only[cL,s2,t2,OT.nr],us++us',rs',by rw[je],t6,λh0b ho hb=>?_⟩
    .rcases fC.1 hh with hh|hh
     .exact s1 n b hh
     .exact t1 n b hh
    have eb:bx.take a.nb++(bx.drop a.nb++more)=bx++more:=by rw[← je,nZ]
    obtain⟨k1,k2,k3,k4⟩:=s7 h0b (λk q hq=>ho k q (by rw[nV (List.getElem?_eq_some_iff.1 hq).1];exact hq))
     (λj0 k q hj hq=>by
      refine hb j0 k q hj ?_;rw[vw] at hq;split at hq
      .exact hq
      .cases hq)
    obtain⟨l1,l2,l3,l4⟩:=t7 h0b (λk q hq=>by
      have:=ho (a.nr+k) q (by rw[nD ab,s2,ot];exact hq)
      rwa [show n+(a.nr+k)=n+a.nr+k from by omega] at this)
     (λj1 k q hj hq=>by
      cases j with
      | none=>cases hj
      | some j0 =>
       simp only[Option.map_some,cE] at hj;subst hj;rw[wH] at hq;have:=hb j0 (a.nb+k) q rfl hq
       rwa [show j0+(a.nb+k)=j0+a.nb+k from by omega] at this)
    rw[eb] at k1 k3 k4;have ed:(bx++more).drop a.nb=bx.drop a.nb++more:=by
     rcases hbl with hbl|hbl
     .subst hbl;rw[PF a _ h1',List.drop_zero,List.drop_zero]
     .simp only[OT.nb] at hbl;rw[List.drop_append_of_le_length ab]
    have tl:∀ j0,j=some j0->(bx.take a.nb).length=a.nb:=λj0 hj=>by
     rcases hla with h|h
     .rw[hj] at h;cases h
     .exact h
    rw[← ed] at l1 l3 l4;simp only[pG,nT,vv];refine⟨su k1 l1,k2.append (by rw[s2];exact l2),λq y hh=>?_,λhj q hq=>?_⟩
    .rcases fC.1 hh with hh|hh
     .obtain⟨j0,hj,hx⟩:=k3 q y hh;refine⟨j0,hj,?_⟩;have:=hx.grow (post:=bx.drop a.nb)
      rwa [nZ] at this
     .obtain⟨j1,hj1,hx⟩:=l3 q y hh;cases j with
      | none=>cases hj1
      | some j0 =>
       simp only[Option.map_some,cE] at hj1;subst hj1;refine⟨j0,rfl,?_⟩;have:=sO.shift (pre:=bx.take a.nb) (bx:=bx.drop a.nb) (j:=j0) (n:=q) (x:=y) (by rw[tl j0 rfl];exact hx)
       rwa [nZ] at this
    .rw[lx];rw[← nZ a.nb bx] at hq;rcases fC.1 hq with hq|hq
     .exact iA _ (k4 hj q hq)
     .exact jD _ (l4 (by cases j with|none=>exact absurd rfl hj|some j0=>simp) q hq)
   .cases e
  .cases e
theorem J9{b0:Nat}:∀{o:OT}{x:o.X}{bx more:List Nat}{n:Nat},bx.length=o.nb→∀ q,q∈bx->q∈(nT b0 o x (bx++more) n).map (·.1)
 | .dat _,x,bx,more,n,d,q,c=>by rw[List.length_eq_zero_iff.1 d] at c;cases c
 | .row _ _,x,bx,more,n,d,q,c=>by rw[List.length_eq_zero_iff.1 d] at c;cases c
 | .rowg _ _,x,bx,more,n,d,q,c=>by rw[List.length_eq_zero_iff.1 d] at c;cases c
 | .fnc _,x,bx,more,n,d,q,c=>by rw[List.length_eq_zero_iff.1 d] at c;cases c
 | .ali,x,bx,more,n,d,q,c=>by rw[List.length_eq_zero_iff.1 d] at c;cases c
 | .ref E o,x,q0::bx,more,n,d,q,c=>by
  simp only[nO,nT,fV];rcases eZ.1 c with rfl|c
  .simp_all
  .exact fu _ (J9 (o:=o) (by simpa[OT.nb] using d) q c)
 | .pair a b,x,bx,more,n,d,q,c=>by
  simp only[OT.nb] at d;simp only[nT,lx];rw[← nZ a.nb bx] at c;have e1:bx++more=bx.take a.nb++(bx.drop a.nb++more):=by rw[← je,nZ]
  rcases fC.1 c with c|c
  .refine iA _ ?_;rw[e1];exact J9 (by rw[dG];omega) q c
  .refine jD _ ?_;rw[List.drop_append_of_le_length ab];exact J9 (by rw[ib];omega) q c
theorem zM{al:Bool}{Nc:fK}(m1:Mod w Nc A1 env1 h1 w1)(hA:∀ b,A1 b->A2 b)(b0:Nat):∀(rs:List RK)(d:jr rs)(svs:List SV)(vs:List Value)(fz:List (Nat×Nm))(ow:List (Option Nat))(n:Nat),
  m3 al rs svs h1=some (d,fz,ow)->aO A1 env1 w1 svs vs->(∀ k,iN env1 fz k->A2 k)->(ua rs=true∨∀ b,A2 b->A' b) →
  pV h1 fz/\ow.length=gZ rs/\((al=true->env' b0=env1 PN)->(∀ i o,ow[i]? = some o->env' (n+i)=rS env1 o)->aO A' env' w1 (lJ b0 rs d n) vs/\lT A' env1 h1 env' w1 ow (mS b0 rs d n) n)
 | [],d,[],vs,fz,ow,n,e,hd,hF,L=>by
  simp only[m3,cE,cC] at e;obtain⟨-,rfl,rfl⟩:=e;exact⟨λn b hh=>by simp at hh,rfl,λ_ _=>⟨by simpa[lJ,aO] using hd,aN⟩⟩
 | .val t::rs,d,v::svs,vs,fz,ow,n,e,hd,hF,L=>by
  simp only[m3] at e;split at e
  .rename_i x f1 q hp;split at e
   .rename_i ps f2 o hr;simp only[cE,cC] at e;obtain⟨rfl,rfl,rfl⟩:=e;simp only[aO] at hd;obtain⟨u,vr,rfl,hu,hvr⟩:=hd;have hF1:∀ k,iN env1 f1 k->A2 k:=λk ⟨n,x,l,hx,he⟩=>hF k ⟨n,x,l,iA _ hx,he⟩;have hF2:∀ k,iN env1 f2 k->A2 k:=λk ⟨n,x,l,hx,he⟩=>hF k ⟨n,x,l,jD _ hx,he⟩;obtain⟨p1,_,p3,p4,_⟩:=u9 m1 t [v] [u] x [] f1 _ hp (by simp only[aO];exact⟨u,[],rfl,hu,rfl⟩) hA hF1;obtain⟨s1,s2,s3⟩:=zM m1 hA b0 rs ps svs vr f2 o n hr hvr hF2 (AU L);refine⟨λn b hh=>?_,s2,λhal he=>?_⟩
    .rcases fC.1 hh with hh|hh
     .exact p1 n b hh
     .exact s1 n b hh
    .obtain⟨k1,k2⟩:=s3 hal he;refine⟨?_,k2⟩;simp only[lJ,aO];exact⟨u,vr,rfl,ON (rest:=[]) (IM (Br (c:=true) L) p4),k1⟩
   .cases e
  .cases e
 | .arr k len::rs,d,svs0,vs,fz,ow,n,e,hd,hF,L=>by
  obtain⟨k',len',xs,svs,rfl⟩:=bF9 e;simp only[m3] at e;split at e
  next y f1 o hk hl hr=>have hk:=kK hk;have hl:=bK hl;subst hk hl;simp only[cE,cC] at e;obtain⟨rfl,rfl,rfl⟩:=e;simp only[aO,az] at hd;obtain⟨u,vr,rfl,hu,hvr⟩:=hd;obtain⟨s1,s2,s3⟩:=zM m1 hA b0 rs y svs vr f1 o n hr hvr hF (by simpa only[ua] using L);refine⟨s1,s2,λhal he=>?_⟩;obtain⟨k1,k2⟩:=s3 hal he;refine⟨?_,k2⟩;simp only[lJ,aO,az];exact⟨u,vr,rfl,hu,k1⟩
  .cases e
 | .agg t::rs,d,svs0,vs,fz,ow,n,e,hd,hF,L=>by
  obtain⟨cs,svs,rfl⟩:=bz1 e;simp only[m3] at e;split at e
  .rename_i x f1 w' hp;split at e
   .rename_i ps f2 o hr;simp only[cE,cC] at e;obtain⟨rfl,rfl,rfl⟩:=e;simp only[aO,az] at hd;obtain⟨u,vr,rfl,⟨us,rfl,hu⟩,hvr⟩:=hd;have hF1:∀ k,iN env1 f1 k->A2 k:=λk ⟨n,x,l,hx,he⟩=>hF k ⟨n,x,l,iA _ hx,he⟩;have hF2:∀ k,iN env1 f2 k->A2 k:=λk ⟨n,x,l,hx,he⟩=>hF k ⟨n,x,l,jD _ hx,he⟩;obtain⟨p1,p2,us',rs',p3,p4,p5⟩:=Cx (env':=env') m1 hA b0 t none cs us.toList x [] f1 w' [] [] n hp hu hF1 (Br (c:=true) L) (.inl rfl);simp only[aO] at p4;subst p4;rw[kY] at p3;subst p3;obtain⟨s1,s2,s3⟩:=zM m1 hA b0 rs ps svs vr f2 o (n+t.nr) hr hvr hF2 (AU L);refine⟨λn b hh=>?_,by simp only[cL,p2,s2,gZ];omega,λhal he=>?_⟩
    .rcases fC.1 hh with hh|hh
     .exact p1 n b hh
     .exact s1 n b hh
    .obtain⟨l1,l2,_⟩:=p5 hal (λk q hq=>he k q (by rw[nV (List.getElem?_eq_some_iff.1 hq).1];exact hq)) (λj0 k q hj _=>by cases hj);obtain⟨k1,k2⟩:=s3 hal (λk q hq=>by
      have:=he (t.nr+k) q (by rw[nD ab,p2,ot];exact hq)
      rwa [show n+(t.nr+k)=n+t.nr+k from by omega] at this)
     simp only[lJ,mS,aO,az];exact⟨⟨_,vr,rfl,⟨us,rfl,l1⟩,k1⟩,l2.append (by rw[p2];exact k2)⟩
   .cases e
  .cases e
 | .own E t::rs,d,svs0,vs,fz,ow,n,e,hd,hF,L=>by
  obtain⟨v,svs,rfl⟩:=aa3 e;simp only[m3] at e;split at e
  .rename_i x r1 w' hp;split at e
   next ps f2 o hr=>simp only[cE,cC] at e;obtain⟨rfl,rfl,rfl⟩:=e;simp only[aO] at hd;obtain⟨u,vr,rfl,hu,hvr⟩:=hd;obtain⟨v',vr',p1,-,-,p3⟩:=T6 (A':=A') m1 hA (Br (c:=true) L) hp (vs:=[u]) (by simp only[aO];exact⟨u,[],rfl,hu,rfl⟩);cases p1;obtain⟨s1,s2,s3⟩:=zM m1 hA b0 rs ps svs vr f2 o (n+1) hr hvr hF (AU L);refine⟨s1,by simp only[dP,s2,gZ],λhal he=>?_⟩;obtain⟨l1,l2⟩:=p3 env' n (he 0 _ rfl);obtain⟨k1,k2⟩:=s3 hal (λk q hq=>by have:=he (k+1) q (by simpa using hq);rwa [show n+(k+1)=n+1+k from by omega] at this);simp only[lJ,mS,aO];exact⟨⟨u,vr,rfl,l1,k1⟩,l2.1,k2⟩
   .cases e
  .cases e
 | .box E t::rs,d,svs0,vs,fz,ow,n,e,hd,hF,L=>by
  obtain⟨q,svs,rfl⟩:=aN4 e;simp only[m3] at e;split at e
  .rename_i E' cs hl;split at e
   .rename_i x f1 w' hE hp;have hE:=bK hE;subst hE;split at e
    .rename_i ps f2 o hr;simp only[cE,cC] at e;obtain⟨rfl,rfl,rfl⟩:=e;simp only[aO,az] at hd;obtain⟨u,vr,rfl,⟨kb,lb,hkb,rfl⟩,hvr⟩:=hd;obtain⟨⟨us,hus,hdu⟩,_⟩:=m1.live_blk hl hkb;have hF1:∀ k,iN env1 f1 k->A2 k:=λk ⟨n,x,l,hx,he⟩=>hF k ⟨n,x,l,iA _ hx,he⟩;have hF2:∀ k,iN env1 f2 k->A2 k:=λk ⟨n,x,l,hx,he⟩=>hF k ⟨n,x,l,jD _ hx,he⟩;obtain⟨p1,p2,us',rs',p3,p4,p5⟩:=Cx (env':=env') m1 hA b0 t none cs us.toList x [] f1 w' [] [] (n+1) hp hdu hF1 (Br (c:=true) L) (.inl rfl);simp only[aO] at p4;subst p4;rw[kY] at p3;subst p3;obtain⟨s1,s2,s3⟩:=zM m1 hA b0 rs ps svs vr f2 o (n+1+t.nr) hr hvr hF2 (AU L);refine⟨λn b hh=>?_,by simp only[dP,cL,p2,s2,gZ];omega,λhal he=>?_⟩
     .rcases fC.1 hh with hh|hh
      .exact p1 n b hh
      .exact s1 n b hh
     .have h0:=he 0 (some q) rfl;simp only[kP,rS] at h0;have he':∀ k q',(w'++o)[k]? = some q'→env' (n+1+k)=rS env1 q':=λk q' hq=>by
       have:=he (k+1) q' (by simpa using hq);rwa [show n+(k+1)=n+1+k from by omega] at this
      obtain⟨l1,l2,_⟩:=p5 hal (λk q hq=>he' k q (by rw[nV (List.getElem?_eq_some_iff.1 hq).1];exact hq)) (λj0 k q hj _=>by cases hj);obtain⟨k1,k2⟩:=s3 hal (λk q hq=>by
       have:=he' (t.nr+k) q (by rw[nD ab,p2,ot];exact hq)
       rwa [show n+1+(t.nr+k)=n+1+t.nr+k from by omega] at this)
      simp only[lJ,mS,aO,az];refine⟨⟨_,vr,rfl,⟨kb,lb,by rw[h0];exact hkb,rfl⟩,k1⟩,⟨rfl,_,rfl,rfl,.inl ⟨q,_,rfl,hl,rfl,λk len hk=>?_,λhk=>?_⟩⟩,l2.append (by rw[p2];exact k2)⟩
      .rw[hkb] at hk;cases hk;exact⟨us,hus,l1⟩
      .rw[hkb] at hk;cases hk
    .cases e
   .cases e
  .cases e
 | .fn f k::rs,d,svs0,vs,fz,ow,n,e,hd,hF,L=>by
  obtain⟨g,cs,svs,rfl⟩:=ax1 e;simp only[m3] at e;split at e
  .rename_i hf hk;have hf:=bK hf;have hk:=bK hk;subst hf;split at e
   .rename_i ps f2 o hr;simp only[cE,cC] at e;obtain⟨rfl,rfl,rfl⟩:=e;simp only[aO,az] at hd;obtain⟨x,vr,rfl,⟨us,rfl,hu⟩,hvr⟩:=hd;have hul:=jl hu;obtain⟨s1,s2,s3⟩:=zM m1 hA b0 rs ps (cs++svs) (us.toList++vr) f2 o n hr (su hu hvr) hF L;refine⟨s1,s2,λhal he=>?_⟩;obtain⟨k1,k2⟩:=s3 hal he;refine⟨?_,k2⟩;simp only[lJ,aO,az];refine⟨_,vr,rfl,⟨us,rfl,?_⟩,?_⟩
    .have:=AK k k1
     rwa [List.take_left' ab] at this
    .have:=A8 k k1
     rwa [List.drop_left' ab] at this
   .cases e
  .cases e
 | [],_,_::_,_,_,_,_,e,_,_,_=>by cases e
 | .val _::_,_,[],_,_,_,_,e,_,_,_=>by cases e
def jI:List PK->Nat
 | []=>0
 | .val _::r=>jI r
 | .agg _::r=>jI r
 | .own _ _::r=>jI r
 | .ago _::r=>jI r
 | .fn _ _::r=>jI r
 | .nils::r=>jI r
 | .yld _ _::r=>jI r
 | .box _ o::r=>o.nb+jI r+1
 | .row _ _::r=>jI r+1
theorem HW:∀{o:OT}{d:o.D}{j i:Nat},(zz o d j i).length=o.nb
 | .dat _,_,_,_=>rfl
 | .row _ _,_,_,_=>rfl
 | .rowg _ _,_,_,_=>rfl
 | .fnc _,_,_,_=>rfl
 | .ali,_,_,_=>rfl
 | .ref _ o,d,j,i=>by simp only[zz,dP,HW (o:=o),OT.nb]
 | .pair a b,d,j,i=>by simp only[zz,cL,HW,HW,OT.nb]
theorem we:∀{ps:List PK}{d:bp ps}{j i:Nat},(qF ps d j i).length=jI ps
 | [],_,_,_=>rfl
 | .val t::ps,d,j,i=>we (ps:=ps)
 | .agg t::ps,d,j,i=>we (ps:=ps)
 | .own _ t::ps,d,j,i=>we (ps:=ps)
 | .ago _::ps,d,j,i=>we (ps:=ps)
 | .fn _ _::ps,d,j,i=>we (ps:=ps)
 | .nils::ps,d,j,i=>we (ps:=ps)
 | .yld _ _::ps,d,j,i=>we (ps:=ps)
 | .box E o::ps,d,j,i=>by simp only[qF,dP,cL,HW,we (ps:=ps),jI]
 | .row E t::ps,d,j,i=>by simp only[qF,dP,we (ps:=ps),jI]
theorem uW{Nc:fK}(m1:Mod w Nc A1 env1 h1 w1)(hA:∀ b,A1 b->A2 b)(b0:Nat):∀(ps:List PK)(d:gn ps)(fz:List (Nat×Nm))(ow:List (Option Nat))(bx:List Nat)(j n:Nat),
  my ps j h1=some (d,fz,ow)->(∀ k,iN env1 fz k->A2 k)->(nF ps=true∨∀ b,A2 b->A' b)->bx.length=jI ps →
  pV h1 fz/\ow.length=jz ps/\((bx≠[]->env' b0=env1 PN)->(∀ k q,ow[k]? = some q->env' (n+k)=rS env1 q)->(∀ k q,bx[k]? = some q->env' q=env1 (PN+(j+k))) →
   lT A' env1 h1 env' w1 ow (iP ps d n) n/\(∀ q x,(q,x)∈gN b0 ps d bx n->sO A' env1 h1 env' w1 bx j q x))∧∀ q,q∈bx->q∈(gN b0 ps d bx n).map (·.1)
 | [],d,fz,ow,bx,j,n,e,hF,L,hl=>by
  simp only[my,cE,cC] at e;obtain⟨-,rfl,rfl⟩:=e;simp only[jI,List.length_eq_zero_iff] at hl;subst hl;exact⟨λn b hh=>by simp at hh,rfl,λ_ _ _=>⟨aN,λq x hh=>by simp[gN] at hh⟩,λq hh=>by simp at hh⟩
 | .val t::ps,d,fz,ow,bx,j,n,e,hF,L,hl=>by
  simp only[gN,iP,jz];exact uW m1 hA b0 ps d fz ow bx j n (by simpa only[my] using e) hF (by simpa only[nF] using L) (by simpa only[jI] using hl)
 | .agg t::ps,d,fz,ow,bx,j,n,e,hF,L,hl=>by
  simp only[gN,iP,jz];exact uW m1 hA b0 ps d fz ow bx j n (by simpa only[my] using e) hF (by simpa only[nF] using L) (by simpa only[jI] using hl)
 | .own _ t::ps,d,fz,ow,bx,j,n,e,hF,L,hl=>by
  simp only[gN,iP,jz];exact uW m1 hA b0 ps d fz ow bx j n (by simpa only[my] using e) hF (by simpa only[nF] using L) (by simpa only[jI] using hl)
 | .ago _::ps,d,fz,ow,bx,j,n,e,hF,L,hl=>by
  simp only[gN,iP,jz];exact uW m1 hA b0 ps d fz ow bx j n (by simpa only[my] using e) hF (by simpa only[nF] using L) (by simpa only[jI] using hl)
 | .fn _ _::ps,d,fz,ow,bx,j,n,e,hF,L,hl=>by
  simp only[gN,iP,jz];exact uW m1 hA b0 ps d fz ow bx j n (by simpa only[my] using e) hF (by simpa only[nF] using L) (by simpa only[jI] using hl)
 | .nils::ps,d,fz,ow,bx,j,n,e,hF,L,hl=>by
  simp only[gN,iP,jz];exact uW m1 hA b0 ps d fz ow bx j n (by simpa only[my] using e) hF (by simpa only[nF] using L) (by simpa only[jI] using hl)
 | .yld _ _::ps,d,fz,ow,bx,j,n,e,hF,L,hl=>by
  simp only[gN,iP,jz];exact uW m1 hA b0 ps d fz ow bx j n (by simpa only[my] using e) hF (by simpa only[nF] using L) (by simpa only[jI] using hl)
 | .box E o::ps,d,fz,ow,bx,j,n,e,hF,L,hl=>by
  cases bx with
  | nil=>simp[jI] at hl
  | cons n0 bx =>
  simp only[my] at e;split at e
  .rename_i E' cs hlk;split at e
   .rename_i x f1 w' hE hp;have hE:=bK hE;subst hE;split at e
    .rename_i ps' f2 ow2 hr;simp only[cE,cC] at e;obtain⟨rfl,rfl,rfl⟩:=e;simp only[dP,jI] at hl;have hF1:∀ k,iN env1 f1 k->A2 k:=λk ⟨n,x,l,hx,he⟩=>hF k ⟨n,x,l,iA _ hx,he⟩;have hF2:∀ k,iN env1 f2 k->A2 k:=λk ⟨n,x,l,hx,he⟩=>hF k ⟨n,x,l,jD _ hx,he⟩;have hlt:(bx.take o.nb).length=o.nb:=by rw[dG];omega
     have eb:bx.take o.nb++bx.drop o.nb=bx:=nZ ..;obtain⟨s1,s2,s3,s4⟩:=uW m1 hA b0 ps ps' f2 ow2 (bx.drop o.nb) (j+1+o.nb) (n+o.nr) hr hF2 (AU L) (by rw[ib];omega);have hm:=m1.nm (PN+j);rw[hlk] at hm;have hbd:∃ kb lb us,env1 (PN+j) = .blk kb lb/\w1.heap[kb]? = some (.cells us E (0,0))/\aO A1 env1 w1 cs us.toList:=by
      rcases hm with⟨k',len',he',⟨us,hus,hdu⟩,_⟩|⟨he',_,_,hb|hb⟩
      .exact⟨k',len',us,he',hus,hdu⟩
      .cases hb
      .cases hb
     obtain⟨kb,lb,us,hkb,hus,hdu⟩:=hbd;obtain⟨p1,p2,us',rs',p3,p4,p5⟩:=Cx (al:=true) (env':=env') m1 hA b0 o (some (j+1)) cs us.toList x [] f1 w' (bx.take o.nb) (bx.drop o.nb) n hp hdu hF1 (Br (c:=true) L) (.inr hlt);simp only[aO] at p4;subst p4;rw[kY] at p3;subst p3;rw[eb] at p5;refine⟨λn b hh=>?_,by simp only[cL,p2,s2,jz];omega,λh0b ho hb=>?_,λq hq=>?_⟩
     .rcases fC.1 hh with hh|hh
      .exact p1 n b hh
      .exact s1 n b hh
     .obtain⟨l1,l2,l3,_⟩:=p5 (λ_=>h0b aw) (λk q hq=>ho k q (by rw[nV (List.getElem?_eq_some_iff.1 hq).1];exact hq))
       (λj0 k q hj hq=>by
        cases hj;rw[vw] at hq;split at hq
        .have:=hb (k+1) q (by simpa using hq)
         rwa [show j+(k+1)=j+1+k from by omega] at this
        .cases hq)
      obtain⟨k1,k2⟩:=s3 (λ_=>h0b aw) (λk q hq=>by
        have:=ho (o.nr+k) q (by rw[nD ab,p2,ot];exact hq)
        rwa [show n+(o.nr+k)=n+o.nr+k from by omega] at this)
       (λk q hq=>by
        rw[wH] at hq;have:=hb (o.nb+k+1) q (by simpa using hq)
        rwa [show j+(o.nb+k+1)=j+1+o.nb+k from by omega] at this)
      simp only[iP,gN];refine⟨l2.append (by rw[p2];exact k1),λq y hh=>?_⟩;rcases eZ.1 hh with hh|hh
      .cases hh;refine⟨0,_,_,rfl,rfl,rfl,hlk,rfl,λk len he=>?_,λhe=>?_⟩
       .rw[kP,hkb] at he;cases he;exact⟨us,hus,l1⟩
       .rw[kP,hkb] at he;cases he
      .rcases fC.1 hh with hh|hh
       .obtain⟨j0,hj,hx⟩:=l3 q y hh;cases hj;have:=(sO.shift (pre:=[n0]) (j:=j) hx).grow (post:=bx.drop o.nb)
        rwa [je,eb] at this
       .have:=sO.shift (pre:=n0::bx.take o.nb) (bx:=bx.drop o.nb) (j:=j) (n:=q) (x:=y) (by rw[dP,hlt,show j+(o.nb+1)=j+1+o.nb from by omega];exact k2 q y hh)
        rwa [nO,eb] at this
     .simp only[gN,fV,lx];rcases eZ.1 hq with rfl|hq
      .exact fp ..
      .refine fu _ ?_;rw[← eb] at hq;rcases fC.1 hq with hq|hq
       .refine iA _ ?_;have:=J9 (b0:=b0) (o:=o) (x:=x) (n:=n) (more:=bx.drop o.nb) hlt q hq
        rwa [eb] at this
       .exact jD _ (s4 q hq)
    .cases e
   .cases e
  .cases e
 | .row E t::ps,d,fz,ow,bx,j,n,e,hF,L,hl=>by
  cases bx with
  | nil=>simp[jI] at hl
  | cons n0 bx =>
  simp only[my] at e;split at e
  .rename_i E' t' xs hlk;split at e
   .rename_i ys hE hcl;have hE:=bK hE;subst hE;obtain⟨et,ez⟩:=lq hcl;subst et;simp only at ez;subst ez;split at e
    .rename_i ps' f2 ow2 hr;simp only[cE,cC] at e;obtain⟨rfl,rfl,rfl⟩:=e;obtain⟨s1,s2,s3,s4⟩:=uW m1 hA b0 ps ps' f2 ow2 bx (j+1) n hr hF (AU L) (by simpa[jI] using hl);have hm:=m1.nm (PN+j);rw[hlk] at hm;refine⟨s1,s2,λh0b ho hb=>?_,λq hq=>?_⟩
     .obtain⟨k1,k2⟩:=s3 (λ_=>h0b aw) ho (λk q hq=>by have:=hb (k+1) q (by simpa using hq);rwa [show j+(k+1)=j+1+k from by omega] at this);simp only[iP,gN];refine⟨k1,λq y hh=>?_⟩;rcases eZ.1 hh with hh|hh
      .cases hh;refine⟨0,_,_,rfl,rfl,rfl,hlk,rfl,λk len he=>?_,λhe=>?_⟩
       .rcases hm with⟨k',len',he',hb,_⟩|⟨he',_⟩
        .rw[kP] at he;rw[he] at he';cases he';obtain⟨us,cap,g1,g2,g3,g4,g5,g6⟩:=hb;exact⟨us,cap,g1,g2,g3,g4,g5,λi hi=>IM (Br (c:=true) L) (iL hA (λ_ _ _=>rfl) _ _ _ _ _ (λ_ _=>rfl) (g6 i hi))⟩
        .rw[kP] at he;rw[he] at he';cases he'
       .rcases hm with⟨k',len',he',hb,_⟩|⟨he',E2,t2,hb⟩
        .rw[kP] at he;rw[he] at he';cases he'
        .rcases hb with hb|hb <;> cases hb;exact⟨_,_,rfl⟩
      .exact sO.shift (pre:=[n0]) (k2 q y hh)
     .simp only[gN,fV];rcases eZ.1 hq with rfl|hq
      .exact fp ..
      .exact fu _ (s4 q hq)
    .cases e
   .cases e
  .cases e
end
end Go.SX
namespace Go.SX
def mn:List Nat->Nat->Rn
 | [],_=>[]
 | n::bx,j=>(n,some (PN+j))::mn bx (j+1)
def mU:List (Option Nat)->Nat->Rn
 | [],_=>[]
 | o::r,n=>(n,o)::mU r (n+1)
theorem Lx{a b:Rn}{n:Nat}:cN (a++b) n=(match cN a n with|some x=>some x|none=>cN b n):=by
 induction a with
 | nil=>rfl
 | cons p a ih =>
  obtain⟨m,x⟩:=p;simp only[nO,sm];grind
theorem OB:∀{bx:List Nat}{j n:Nat}{y:Option Nat},cN (mn bx j) n=some y→∃ i,bx[i]? = some n/\y=some (PN+(j+i))
 | m::bx,j,n,y,h=>by
  simp only[mn,sm] at h;split at h
  next e=>cases h;exact⟨0,by simp[e],rfl⟩
  .obtain⟨i,h1,h2⟩:=OB h;exact⟨i+1,by simpa using h1,by rw[h2,show j+1+i=j+(i+1) from by omega]⟩
theorem Vp:∀{bx:List Nat}{j n i:Nat},bx.Nodup->bx[i]? = some n->cN (mn bx j) n=some (some (PN+(j+i)))
 | m::bx,j,n,0,_,h=>by
  simp at h;subst h;simp only[mn,sm,aj,kP]
 | m::bx,j,n,i+1,hn,h=>by
  have b:bx[i]? = some n:=by simpa using h
  obtain⟨h1,h2⟩:=List.nodup_cons.1 hn;have a:n≠m:=λe=>h1 (e▸sK b);simp only[mn,sm,ah a,Vp h2 b];grind
theorem bO7{bx:List Nat}{j n:Nat}(h:n ∉ bx):cN (mn bx j) n=none:=by
 cases hl:cN (mn bx j) n with
 | none=>rfl
 | some y=>obtain⟨i,hi,_⟩:=OB hl;exact absurd (sK hi) h
theorem Qg:∀{a:List (Option Nat)}{n0 n:Nat}{y:Option Nat},cN (mU a n0) n=some y→∃ i,a[i]? = some y/\n=n0+i
 | o::a,n0,n,y,h=>by
  simp only[mU,sm] at h;split at h
  .simp_all
  .obtain⟨i,h1,h2⟩:=Qg h;exact⟨i+1,by simpa using h1,ab⟩
theorem R9:∀{a:List (Option Nat)}{n0 i:Nat}{o:Option Nat},a[i]? = some o->cN (mU a n0) (n0+i)=some o
 | p::a,n0,0,o,h=>by simp at h;subst h;simp[mU,sm]
 | p::a,n0,i+1,o,h=>by
  have h':a[i]? = some o:=by simpa using h
  have:=R9 (n0:=n0+1) h';simp only[mU,sm,ah (show ¬ n0+(i+1)=n0 from by omega)];grind
theorem OG{n:Nat}:∀{l:List (Option Nat)},Ad n l=true↔some n∈l
 | []=>by simp[Ad]
 | none::r=>by simp[Ad,OG (l:=r)]
 | some m::r=>by simp[Ad,OG]
theorem Mo{fz:List (Nat×Nm)}:∀{a:List (Option Nat)},zI fz a=true→∀(i m:Nat),a[i]? = some (some m)->(m<PN∨QN<=m)/\m ∉ fz.map (·.1)∧∀ i':Nat,a[i']? = some (some m)->i=i'
 | none::r,h,i,m,hi=>by
  simp only[zI] at h;cases i with
  | zero=>simp at hi
  | succ i =>
   obtain⟨c,d,b⟩:=Mo h i m (by simpa using hi);grind
 | some q::r,h,i,m,hi=>by
  simp only[zI,fe,sD,pF] at h;obtain⟨⟨⟨c,d⟩,b⟩,h4⟩:=h;have hno:∀ i:Nat,r[i]? ≠ some (some q):=λi hi=>by
   have:Ad q r=true:=OG.2 (sK hi);rw[this] at b;cases b
  cases i with
  | zero =>
   simp at hi;subst hi;refine⟨c.imp (λh=>lZ h) (λh=>lZ h),DF d,λi' hi'=>?_⟩;grind
  | succ i =>
   obtain⟨g1,g2,g3⟩:=Mo h4 i m (by simpa using hi);grind
theorem Tc:∀{fz:List (Nat×Nm)},B4 fz=true→∀ n,n∈fz.map (·.1)->n<PN∨QN<=n
 | (m,b)::r,h,n,a=>by
  simp only[B4,fe,sD] at h;rcases eZ.1 a with e|a
  .simp_all
  .exact Tc h.2 n a
theorem Sa{fz:List (Nat×Nm)}:∀{bx:List Nat},Gs fz bx=true→∀ n,n∈bx->n ∉ fz.map (·.1)
 | m::r,h,n,a=>by
  simp only[Gs,fe] at h;rcases eZ.1 a with rfl|a
  .exact DF h.1
  .exact Sa h.2 n a
theorem CO{h:bX}{b d:Dl}:∀{k n:Nat}{r:List Nat},(tV n k b).run h=some (d,r)->d=b∧∀ i,i<k->h (n+i) = .un
 | 0,n,r,e=>by
  simp only[tV,Q.run,cE,cC] at e;simp_all
 | k+1,n,r,e=>by
  simp only[tV,Q.run] at e;split at e
  .rename_i p q hk;obtain⟨rfl,rfl⟩:=e;split at hk
   .rename_i a;obtain⟨h1,h2⟩:=CO hk;refine⟨h1,λi hi=>?_⟩;cases i with
    | zero=>exact a
    | succ i=>rw[show n+(i+1)=n+1+i from by omega];exact h2 i ab
   .cases hk
  .cases e
theorem K0{n:Nat}{x:Nm}:∀{cx:List (Option Nat)},(n,x)∈sQ cx->x = .dead/\n∈lH cx
 | none::r,h=>by simp only[sQ] at h;simpa only[lH] using K0 (cx:=r) h
 | some m::r,h=>by
  rcases eZ.1 h with h|h
  .cases h;exact⟨rfl,fp ..⟩
  .obtain⟨h1,h2⟩:=K0 h;exact⟨h1,fu _ h2⟩
theorem LI:∀{cx:List (Option Nat)},(sQ cx).map (·.1)=lH cx
 | []=>rfl
 | none::r=>by simp only[sQ,lH];exact LI (cx:=r)
 | some m::r=>by simp only[sQ,lH,fV,LI]
def NC(P:Program)(ty:TypeId)(v:SV)(h:bX):Option SV:=match v with
 | .ptr n off=>match h n with
  | .live (.cells _ cs)=>mJ P ty cs off
  | .live (.ary _ k l xs)=>match rD P ty,f8 P ty,off with
   | some true,some m,0=>match Nat.beq m l with
    | true=>some (.arr k l xs)
    | false=>none
   | _,_,_=>none
  | _=>none
 | _=>none
def xB(P:Program):List ResultVar->List SV->bX->Option (List SV)
 | [],_,_=>some []
 | .tmp t::r,sl,h=>match xB P r sl h with
  | some l=>some (dW sl t::l)
  | none=>none
 | .cell a ty::r,sl,h=>match NC P ty (dW sl a) h,xB P r sl h with
  | some v,some l=>some (v::l)
  | _,_=>none
def FV(l:List Value):Value:=if h:l.toArray.size=1 then l.toArray[0] else .tuple l.toArray
theorem bv4{P:Program}{w0:World}{N0:fK}{A:Nat->Prop}{env:bj}{h:bX}{w:World}(m:Mod w0 N0 A env h w){ty:TypeId}{s g:SV}{v:Value}(e:NC P ty s h=some g)(a:az A env w s v) :
  ∃ u,(do loadVar ty (← asAddr v):Sem Value).run P w = .ok u w/\az A env w g u:=by
 unfold NC at e
 split at e
 next n off=>
  split at e
  next E cs hl=>obtain⟨b,l,d,rfl⟩:=a;obtain⟨⟨vs,hh,a⟩,_⟩:=m.live_blk hl d;obtain⟨u,c,f⟩:=A7 (o:=0) e a (λj hj=>by rw[cell_of_row w b _ vs E (0,0) hh];simp);rw[gI] at c;exact⟨u,by simp[asAddr,c],f⟩
  .rename_i E k len xs hl;split at e
   .rename_i mm ha hs;split at e
    .rename_i i;cases e;have i:=bK i;obtain⟨b,l,d,rfl⟩:=a;obtain⟨⟨_,hn,vs,hh,a⟩,_⟩:=m.live_blk hl d;have hp:mJ P ty (xs.map (.int k)) 0=some (.agg (xs.map (.int k))):=by
      unfold mJ;have:Nat.ble (0+mm) (xs.map (SV.int k)).length=true:=by rw[Nat.ble_eq];simp;omega
      grind
     obtain⟨u,c,f⟩:=A7 (o:=0) hp a (λj hj=>by rw[cell_of_row w b _ vs E (0,0) hh];simp);refine⟨u,by simp[asAddr,c],?_⟩;obtain⟨us,rfl,a⟩:=f;obtain⟨h1,h2⟩:=zx a;exact⟨by rw[← h1],hn,h2⟩
    .cases e
   .cases e
  .cases e
 .cases e
theorem Le{P:Program}{w0:World}{N0:fK}{A:Nat->Prop}{env:bj}{h:bX}{w:World}(m:Mod w0 N0 A env h w){j:List SV}{a:Act}(f:FD A env w (dW j) a){F:ResultVar->Sem Value}
  (k:∀ t,F (.tmp t)=pure (a.tmps.getD t undef)) (c:∀ t ty,F (.cell t ty)=do loadVar ty (← asAddr (a.tmps.getD t undef))):∀(l:List ResultVar)(b:List SV),xB P l j h=some b →
  ∃ vs,(l.mapM F).run P w = .ok vs w/\aO A env w b vs
 | [],b,e=>by cases e;exact⟨[],rfl,by simp[aO]⟩
 | .tmp t::l,b,e=>by
  simp only[xB] at e;split at e
  next d hl=>cases e;obtain⟨vs,n,g⟩:=Le m f k c l d hl;refine⟨a.tmps.getD t undef::vs,?_,by simp only[aO];exact⟨_,_,rfl,f t,g⟩⟩;simp_all
  .cases e
 | .cell t ty::l,b,e=>by
  simp only[xB] at e;split at e
  next v d hv hl=>cases e;obtain⟨vs,n,g⟩:=Le m f k c l d hl;obtain⟨u,hu,i⟩:=bv4 m hv (f t);refine⟨u::vs,?_,by simp only[aO];exact⟨_,_,rfl,i,g⟩⟩;rw[List.mapM_cons,c,Sem.run_bind,hu];simp[n]
  .cases e
theorem ah5{P:Program}{w0:World}{N0:fK}{A:Nat->Prop}{env:bj}{h:bX}{w:World}(m:Mod w0 N0 A env h w){d:List SV}{a:Act}(f:FD A env w (dW d) a){c:Func}{b:List SV}(e:xB P c.results.toList d h=some b) :
  ∃ vs,(results c a.tmps).run P w = .ok (FV vs) w/\aO A env w b vs:=by
 unfold results
 rw[Array.mapM_eq_mapM_toList]
 obtain⟨vs,hr,hd⟩:=Le m f (F:=fun | .tmp t=>pure (a.tmps.getD t undef) | .cell t ty=>do loadVar ty (← asAddr (a.tmps.getD t undef))) (λt=>rfl) (λt ty=>rfl) c.results.toList b e
 refine⟨vs,?_,hd⟩
 rw[Sem.run_bind,Sem.run_map]
 erw [hr]
 rfl
theorem aZ9{A:Nat->Prop}{env:bj}{w:World}{a:List SV}{vs:List Value}(h:aO A env w a vs):az A env w (tY a) (FV vs):=by
 have hl:=jl h
 unfold tY
 split
 .simp only[aO] at h;obtain⟨v,r,rfl,h,rfl⟩:=h;exact h
 next b=>
  have:¬ vs.length=1:=λe=>by
   rw[hl] at e;obtain⟨x,hx⟩:=List.length_eq_one_iff.1 e;exact b x hx
  simp only[FV,az];simp_all
def qz:List Prop->Prop
 | []=>True
 | [p]=>p
 | p::q::r=>p/\qz (q::r)
theorem yD:∀{l:List Prop},qz l↔bS l
 | []=>sW
 | [p]=>by simp[qz,bS]
 | p::q::r=>by rw[qz,bS,yD]
def yR(P:Program)(ps:List PK)(rs:List RK)(rv:List ResultVar)(k:jr rs×gn ps->Prop):Ex->St->Prop:=λe S=>match e with
 | .exit _=>False
 | _=>match xB P rv S.sl (eM S.H) with
  | none=>False
  | some vs=>match m3 (Nat.blt 0 (jI ps)) rs vs (eM S.H),my ps 0 (eM S.H) with
   | some (y,f1,ow),some (z,f2,ow2)=>match zI (f1++f2) (ow++ow2),B4 (f1++f2) with
    | true,true=>k (y,z)
    | _,_=>False
   | _,_=>False
def pz:List SV->Nat->List SV
 | _,0=>[]
 | [],n+1 => .junk::pz [] n
 | v::l,n+1=>v::pz l n
def By(ps:List PK)(d:bp ps)(n:Nat):St:=⟨pz (gV ps d 0 0) n,qF ps d 0 0++tq ps d 0⟩
theorem F6:∀{l:List SV}{n:Nat},(pz l n).length=n
 | _,0=>by simp[pz]
 | [],n+1=>by simp[pz,F6 (l:=[])]
 | v::l,n+1=>by simp[pz,F6]
theorem HN:∀{l:List SV}{n i:Nat},dW (pz l n) i = .junk∨∃ s,l[i]? = some s/\dW (pz l n) i=s
 | _,0,i=>by left;simp[pz,dW,oX]
 | [],n+1,0=>by left;simp[pz,dW,oX]
 | [],n+1,i+1=>by
  rcases HN (l:=[]) with h|⟨s,h,_⟩
  .simpa[pz,dW,oX] using h
  .simp at h
 | v::l,n+1,0=>by right;exact⟨v,aw,by simp[pz,dW,oX]⟩
 | v::l,n+1,i+1=>by
  rcases HN with h|⟨s,h,h'⟩
  .left;simpa[pz,dW,oX] using h
  .right;exact⟨s,by simpa using h,by simpa[pz,dW,oX] using h'⟩
section
variable {P:Program} {sp:fx}
theorem V3{ps:List PK}{rs:List RK}
  {base:Nat} {svs:List SV} {h:bX} {dd:bp ps} {fz:List (Nat×Nm)} {bx:List Nat} {cx:List (Option Nat)} {q1:List Nat} (e1:(iq none ps svs).run h=some ((dd,fz,bx,cx),q1)) (hnm:zh fz bx cx=true)
  (hun:∀ i,i<gZ rs+jz ps->h (base+i) = .un)
  {w0:World} {N0:fK} {A:Nat->Prop} {env:bj} {w:World} {vs:List Value} (m:Mod w0 N0 A env h w) (hd:aO A env w svs vs) :
  uE ps dd∧∃ (Nc:fK) (Ac:Nat->Prop) (envc:bj),Nc.g=N0.g/\(∀ k,Nc.n k→∃ n b l,h n = .live b/\env n = .blk k l)/\Mod w Nc Ac envc (eM (qF ps dd 0 0++tq ps dd 0)) w/\aO Ac envc w (gV ps dd 0 0) vs ∧
   ∀(S':St)(A1:Nat->Prop)(env1:bj)(w1:World),Mod w Nc A1 env1 (eM S'.H) w1->sX Ac envc w A1 env1 w1→∀(rsv:List SV)(rvs:List Value)(y:jr rs)(f1:List (Nat×Nm))(owr:List (Option Nat))(z:gn ps)(f2:List (Nat×Nm))(owb:List (Option Nat)),
    aO A1 env1 w1 rsv rvs->m3 (Nat.blt 0 (jI ps)) rs rsv (eM S'.H)=some (y,f1,owr)->my ps 0 (eM S'.H)=some (z,f2,owb)->zI (f1++f2) (owr++owb)=true->B4 (f1++f2)=true →
    ∃ (A':Nat->Prop) (env':bj),Mod w0 N0 A' env' (dA (ve ps rs (y,z) base fz bx cx) h) w1/\dH A env w A' env' w1/\az A' env' w1 (tY (lJ (bx.headD 0) rs y base)) (FV rvs):=by
 simp only[zh,fe] at hnm
 obtain⟨⟨hnd,hdj⟩,hbl⟩:=hnm
 have hnd:=Qr hnd
 have hdj:=Sa hdj
 have hbl:=lZ hbl
 obtain⟨a1,a4,a6⟩:=wg (envc:=qP env bx cx) m (Ac:=jd A env fz) (λb hb=>.inl hb) none ps svs vs dd fz bx cx q1 0 0 e1 hd (λk hk=>.inr hk)
 obtain⟨dargs,lb,lc⟩:=a6 (λ_=>rfl) (λn hn=>by cases hn) (λk n hn=>by rw[gI];exact MJ hbl hn) (λk q hq=>by rw[gI];exact aC5 hq)
 rw[kP] at lb lc
 have mc:=m.call a1 hbl lb lc hdj hnd
 have hlen:bx.length=jI ps:=by
  have:=lb.get.1;rw[mg,we] at this;exact this
 have hnd1:bx.Nodup:=(List.nodup_append.1 hnd).1
 have live_ne:∀ q b,h q = .live b->env q ≠ .un:=λq b hq=>by
  have:=m.nm q;rw[hq] at this;rcases this with⟨k,len,e,_⟩|⟨e,_⟩ <;> rw[e] <;> simp
 have hlive:∀ n,n∈bx++lH cx→∃ b,h n = .live b/\b.mut=true/\env n ≠ .un:=λn hn=>by
  rcases fC.1 hn with hn|hn
  .obtain⟨i,hi⟩:=List.mem_iff_getElem?.1 hn;obtain⟨b',_,_,_,⟨q,b,e,h1,h2,_⟩|⟨e,_⟩⟩:=lb.get.2 i (some n) (by simp[hi])
   .cases e;exact⟨b,h1,h2,live_ne _ _ h1⟩
   .cases e
  .obtain⟨i,hi⟩:=List.mem_iff_getElem?.1 (y9.1 hn);obtain⟨b',_,_,_,⟨q,b,e,h1,h2,_⟩|⟨e,_⟩⟩:=lc.get.2 i (some n) hi
   .cases e;exact⟨b,h1,h2,live_ne _ _ h1⟩
   .cases e
 refine⟨a4,⟨Hv env (bx++lH cx),jd A env fz,N0.g⟩,jd A env fz,qP env bx cx,rfl,λk hk=>?_,mc,dargs,?_⟩
 .obtain⟨n,l,hn,he⟩:=hk;obtain⟨b,hb,_⟩:=hlive n hn;exact⟨n,b,l,hb,he⟩
 .intro S' A1 env1 w1 m' x' rsv rvs y f1 owr z f2 owb hres ho hob hown hlt;have hA2:∀ b,A1 b->jd A1 env1 (f1++f2) b:=λb hb=>.inl hb;have hF1:∀ k,iN env1 f1 k->jd A1 env1 (f1++f2) k:=λk ⟨n,x,l,hx,he⟩=>.inr ⟨n,x,l,iA _ hx,he⟩;have hF2:∀ k,iN env1 f2 k->jd A1 env1 (f1++f2) k:=λk ⟨n,x,l,hx,he⟩=>.inr ⟨n,x,l,jD _ hx,he⟩;have hlt:=Tc hlt;have hownS:=Mo hown;have hPQ:QN=PN+PN:=rfl;have fin:∀(As A':Nat->Prop)(hs':bX),Mod w0 N0 As env hs' w->(∀ n,n∈bx++lH cx->hs' n=h n)->(∀ i,i<gZ rs+jz ps->hs' (base+i) = .un)->(∀ b,As b->A' b)->(∀ b,A' b->jd A1 env1 (f1++f2) b) →
    (∀ b,A' b->As b∨((Hv env (bx++lH cx) b∨w.heap.size<=b)/\b<w1.heap.size))->(ua rs=true∨∀ b,jd A1 env1 (f1++f2) b->A' b)->(nF ps=true∨∀ b,jd A1 env1 (f1++f2) b->A' b) →
    ∃ env',Mod w0 N0 A' env' (dA (gN (bx.headD 0) ps z bx (base+gZ rs)++(mS (bx.headD 0) rs y base++(iP ps z (base+gZ rs)++sQ cx))) hs') w1/\dH As env w A' env' w1/\az A' env' w1 (tY (lJ (bx.headD 0) rs y base)) (FV rvs):=by
   intro As A' hs' ms hsb hsu hAA hA'2 hA1' L1 L2;obtain⟨b1,b2,b3⟩:=zM (A':=A') (env':=mN (mn bx 0++mU (owr++owb) base) env env1) m' hA2 (bx.headD 0) rs y _ _ f1 owr base ho hres hF1 L1;obtain⟨c1,c2,c3,c4⟩:=uW (A':=A') (env':=mN (mn bx 0++mU (owr++owb) base) env env1) m' hA2 (bx.headD 0) ps z f2 owb bx 0 (base+gZ rs) hob hF2 L2 hlen;have hfo:pV (eM S'.H) (f1++f2):=λn b hh=>by
    rcases fC.1 hh with hh|hh
    .exact b1 n b hh
    .exact c1 n b hh
   have howl:(owr++owb).length=gZ rs+jz ps:=by rw[cL,b2,c2]
   have hnotbx:∀ i,i<gZ rs+jz ps->base+i ∉ bx:=λi hi hmem=>by
    have h1:=hsu i hi;rw[hsb _ (iA _ hmem)] at h1;obtain⟨b,hb',_⟩:=hlive _ (iA _ hmem);rw[h1] at hb';cases hb'
   have hRbox:∀ i n,bx[i]? = some n->cN (mn bx 0++mU (owr++owb) base) n=some (some (PN+i)):=λi n hi=>by
    rw[Lx,Vp (j:=0) hnd1 hi,gI]
   have hRres:∀ i o,(owr++owb)[i]? = some o->cN (mn bx 0++mU (owr++owb) base) (base+i)=some o:=λi o hi=>by
    have hlti:i<gZ rs+jz ps:=by have:=(List.getElem?_eq_some_iff.1 hi).1;omega
    rw[Lx,bO7 (hnotbx i hlti)];exact R9 hi
   have hRinv:∀ n y,cN (mn bx 0++mU (owr++owb) base) n=some y->(∃ i,bx[i]? = some n/\y=some (PN+i))∨∃ i,(owr++owb)[i]? = some y/\n=base+i/\i<gZ rs+jz ps:=λn y hy=>by
    rw[Lx] at hy;split at hy
    next x hx=>cases hy;obtain⟨i,h1,h2⟩:=OB hx;rw[gI] at h2;exact .inl ⟨i,h1,h2⟩
    .obtain⟨i,h1,h2⟩:=Qg hy;exact .inr ⟨i,h1,h2,by have:=(List.getElem?_eq_some_iff.1 h1).1;omega⟩
   have hbxlt:∀ i n,bx[i]? = some n->i<PN:=λi n hi=>by have:=(List.getElem?_eq_some_iff.1 hi).1;omega
   have henvp:∀ i n,bx[i]? = some n->env1 (PN+i)=env n:=λi n hi=>by
    obtain⟨b,_,_,hne⟩:=hlive n (iA _ (sK hi));have:=hbxlt i n hi;have:=x'.envp (PN+i) ab ab (by rw[MJ hbl hi];exact hne);rw[this,MJ hbl hi]
   have eenv:∀ i o,(owr++owb)[i]? = some o->mN (mn bx 0++mU (owr++owb) base) env env1 (base+i)=rS env1 o:=λi o hi=>by
    unfold mN;rw[hRres i o hi];simp only[jJ,hRres i o hi];cases o <;> rfl
   have hhead:bx≠[]->mN (mn bx 0++mU (owr++owb) base) env env1 (bx.headD 0)=env1 PN:=λhne=>by
    obtain⟨n0,r,hbx⟩:=List.exists_cons_of_ne_nil hne;have h0:bx[0]? = some (bx.headD 0):=by rw[hbx];rfl
    unfold mN;rw[hRbox 0 _ h0];simp only[jJ,hRbox 0 _ h0,kP]
   obtain⟨d1,d2⟩:=b3 (λhal=>hhead (λhnil=>by
     have h0:jI ps=0:=by rw[← hlen,hnil];rfl
     rw[h0] at hal;cases hal)) (λi o hi=>eenv i o (by rw[nV (List.getElem?_eq_some_iff.1 hi).1];exact hi))
   obtain⟨d3,d4⟩:=c3 hhead (λk q hq=>by
     have:=eenv (gZ rs+k) q (by rw[nD ab,b2,ot];exact hq)
     rwa [← iz] at this)
    (λk q hq=>by
     unfold mN;rw[hRbox k q hq];simp only[jJ,hRbox k q hq,gI])
   have hlookA:∀ q b k l,eM S'.H q = .live b->b.mut=true->env1 q = .blk k l->q ∉ (f1++f2).map (·.1)→¬ A' k:=λq b k l hq hbm he hqn hA'=>by
    have mf:=(m'.freeze hfo).1;have:dA (f1++f2) (eM S'.H) q = .live b:=by rw[qH hqn];exact hq
    exact (mf.live_blk this he).2 hbm (hA'2 k hA')
   suffices hk:Mod w0 N0 A' (mN (mn bx 0++mU (owr++owb) base) env env1) (dA (gN (bx.headD 0) ps z bx (base+gZ rs)++(mS (bx.headD 0) rs y base++(iP ps z (base+gZ rs)++sQ cx))) hs') w1/\dH As env w A' (mN (mn bx 0++mU (owr++owb) base) env env1) w1 by
    exact⟨_,hk.1,hk.2,aZ9 d1⟩
   have hnew:∀{l:List (Nat×Nm)}{os:List (Option Nat)}{n0:Nat},lT A' env1 (eM S'.H) (mN (mn bx 0++mU (owr++owb) base) env env1) w1 os l (base+n0)->(∀ i o,os[i]? = some o->(owr++owb)[n0+i]? = some o)→∀ n x,(n,x)∈l →
     ∃ b,x = .live b/\b.mut=true/\((∃ m b0,cN (mn bx 0++mU (owr++owb) base) n=some (some m)/\eM S'.H m = .live b0/\b0.mut=true ∧
      (∀ k len,env1 m = .blk k len->kg A' (mN (mn bx 0++mU (owr++owb) base) env env1) w1 k len b)/\(env1 m = .nil→∃ E t,b = .row E t []))∨(cN (mn bx 0++mU (owr++owb) base) n=some none∧∃ E t,b = .row E t [])):=by
    intro l os n0 hl hos n x hx;have:∀{os:List (Option Nat)}{l:List (Nat×Nm)}{k0:Nat},lT A' env1 (eM S'.H) (mN (mn bx 0++mU (owr++owb) base) env env1) w1 os l k0→∀ n x,(n,x)∈l→∃ i o b',os[i]? = some o/\n=k0+i/\x = .live b'∧b'.mut=true ∧
      ((∃ q b,o=some q/\eM S'.H q = .live b/\b.mut=true/\(∀ k len,env1 q = .blk k len->kg A' (mN (mn bx 0++mU (owr++owb) base) env env1) w1 k len b')/\(env1 q = .nil→∃ E t,b' = .row E t []))∨(o=none∧∃ E t,b' = .row E t [])):=by
     intro os
     induction os with
     | nil=>intro l k0 hl n x hx;cases l with
      | nil=>cases hx
      | cons p l=>exact hl.elim
     | cons o os ih =>
      intro l k0 hl n x hx;cases l with
      | nil=>cases hx
      | cons p l =>
       obtain⟨m',y'⟩:=p;obtain⟨⟨hm,b',g1,g2,g3⟩,hr⟩:=hl;rcases eZ.1 hx with e|hx
       .cases e;exact⟨0,o,b',rfl,ab,g1,g2,g3⟩
       .obtain⟨i,o',b'',k1,k2,k3⟩:=ih hr n x hx;exact⟨i+1,o',b'',by simpa using k1,ab,k3⟩
    obtain⟨i,o,b',k1,rfl,k3,k4,k5⟩:=this hl n x hx;have hr:=hRres _ _ (hos i o k1);rw[← iz] at hr;refine⟨b',k3,k4,?_⟩;rcases k5 with⟨q,b,rfl,g1,g2,g3,g4⟩|⟨rfl,g1⟩
    .exact .inl ⟨q,b,hr,g1,g2,g3,g4⟩
    .exact .inr ⟨hr,g1⟩
   refine Mod.retn (R:=mn bx 0++mU (owr++owb) base) (U:=gN (bx.headD 0) ps z bx (base+gZ rs)++(mS (bx.headD 0) rs y base++(iP ps z (base+gZ rs)++sQ cx))) (A':=A') ms m' x'.shape ?_ ?_ ?_ ?_ ?_ hAA hA1' ?_
   .intro n x hx;rcases fC.1 hx with hx|hx
    .obtain⟨i,b,b0,h1,h2,h3,h4,h5,h6,h7⟩:=d4 n x hx;rw[gI] at h4 h6 h7;exact .inr ⟨b,h2,h3,.inl ⟨PN+i,b0,hRbox i n h1,h4,h5,h6,h7⟩⟩
    .rcases fC.1 hx with hx|hx
     .exact .inr (hnew (n0:=0) (by rw[kP];exact d2) (λi o hi=>by rw[gI,nV (List.getElem?_eq_some_iff.1 hi).1];exact hi) n x hx)
     .rcases fC.1 hx with hx|hx
      .exact .inr (hnew d3 (λi o hi=>by rw[nD ab,b2,ot];exact hi) n x hx)
      .exact .inl (K0 hx).1
   .intro n hn;obtain⟨y',hy⟩:=Option.ne_none_iff_exists'.1 hn;simp only[lx];rcases hRinv n y' hy with⟨i,h1,_⟩|⟨i,h1,rfl,hi⟩
    .exact iA _ (c4 n (sK h1))
    .refine jD _ ?_;by_cases hlt':i<gZ rs
     .refine iA _ ?_;obtain⟨b',_,hmem,_⟩:=d2.get.2 i _ (by rw[nV ab] at h1;exact h1);exact yd (f:=(·.1)) hmem
     .refine jD _ (iA _ ?_);obtain⟨b',_,hmem,_⟩:=d3.get.2 (i-gZ rs) _ (by rw[nD ab,b2] at h1;exact h1);have:=yd (f:=(·.1)) hmem
      rwa [show base+gZ rs+(i-gZ rs)=base+i from by omega] at this
   .intro n n' q hn hn';rcases hRinv n _ hn with⟨i,h1,h2⟩|⟨i,h1,rfl,_⟩ <;> rcases hRinv n' _ hn' with⟨i',h1',h2'⟩|⟨i',h1',rfl,_⟩
    .simp only[cE] at h2 h2';have:i=i':=ab;subst this;rw[h1] at h1';exact Option.some.inj h1'
    .simp only[cE] at h2;have:=(hownS i' q h1').1;have:=hbxlt _ _ h1;omega
    .simp only[cE] at h2';have:=(hownS i q h1).1;have:=hbxlt _ _ h1';omega
    .rw[(hownS i q h1).2.2 i' h1']
   .intro n hn;obtain⟨y',hy⟩:=Option.ne_none_iff_exists'.1 hn;rcases hRinv n y' hy with⟨i,h1,rfl⟩|⟨i,h1,rfl,h2⟩
    .have hmem:n∈bx++lH cx:=iA _ (sK h1);obtain⟨b,g2',g3',_⟩:=hlive n hmem;exact .inr ⟨b,by rw[hsb n hmem];exact g2',g3',by rw[wO hy];exact henvp i n h1⟩
    .exact .inl (hsu i h2)
   .rintro k ⟨n,l,hn,he⟩;obtain⟨b,g2',g3',_⟩:=hlive n hn;refine⟨n,b,l,?_,by rw[hsb n hn];exact g2',g3',he⟩;simp only[lx,LI];rcases fC.1 hn with hn|hn
    .exact iA _ (c4 n hn)
    .exact jD _ (jD _ (jD _ hn))
   .rintro q b k l hq hbm he ⟨n,hn⟩;refine hlookA q b k l hq hbm he λhmem=>?_;rcases hRinv n _ hn with⟨i,h1,h2⟩|⟨i,h1,rfl,_⟩
    .simp only[cE] at h2;have:=hlt q hmem;have:=hbxlt _ _ h1;omega
    .exact (hownS i q h1).2.1 hmem
  unfold ve;cases hk:Ba ps rs with
  | true =>
   obtain⟨mf,xf⟩:=m.freeze a1;have hback:∀ b,jd A1 env1 (f1++f2) b->jd A env fz b∨((Hv env (bx++lH cx) b∨w.heap.size<=b)/\b<w1.heap.size):=by
    intro b hb;have hfo:pV (eM S'.H) (f1++f2):=by
     obtain⟨b1,_⟩:=zM (A':=jd A1 env1 (f1++f2)) (env':=env1) m' hA2 (bx.headD 0) rs y _ _ f1 owr base ho hres hF1 (.inr λb hb=>hb);obtain⟨c1,_⟩:=uW (A':=jd A1 env1 (f1++f2)) (env':=env1) m' hA2 (bx.headD 0) ps z f2 owb bx 0 base hob hF2 (.inr λb hb=>hb) hlen;intro n b hh;rcases fC.1 hh with hh|hh
     .exact b1 n b hh
     .exact c1 n b hh
    have hAlt:=(m'.freeze hfo).1.Alt b hb;rcases hb with hb|⟨n,x,l,hx,he⟩
    .rcases m'.fresh b hb with h1|h1|h1
     .exact .inl h1
     .exact .inr ⟨.inl h1,hAlt⟩
     .exact .inr ⟨.inr h1,hAlt⟩
    .obtain⟨E,t,xs,hl,_⟩:=hfo n x hx;rcases m'.own n _ b l hl rfl he with h1|h1
     .exact .inr ⟨.inl h1,hAlt⟩
     .exact .inr ⟨.inr h1,hAlt⟩
   obtain⟨env',k1,k2,k3⟩:=fin (jd A env fz) (jd A1 env1 (f1++f2)) (dA fz h) mf (λn hn=>qH (hdj n hn)) (λi hi=>by
     rw[qH]
     .exact hun i hi
     .intro hmem;obtain⟨⟨n,x⟩,hx,he⟩:=List.mem_map.1 hmem;simp only at he;subst he;obtain⟨E,t,xs,hl,_⟩:=a1 _ _ hx;rw[hun i hi] at hl;cases hl)
    (λb hb=>.inl (x'.imm b hb)) (λb hb=>hb) hback (.inr λb hb=>hb) (.inr λb hb=>hb)
   refine⟨_,env',?_,xf.trans k2,k3⟩;rw[LF];exact k1
  | false =>
   have hpl:ua rs=true/\nF ps=true:=by
    simpa[Ba] using hk
   obtain⟨env',k1,k2,k3⟩:=fin A A h m (λn hn=>rfl) hun (λb hb=>hb) (λb hb=>.inl (x'.imm b (.inl hb))) (λb hb=>.inl hb) (.inl hpl.1) (.inl hpl.2);refine⟨_,env',?_,k2,k3⟩;rw[kY];exact k1
theorem rm.put{w0 w:World}{D:Nat}{o:Obj}:∀{ds:List Deferred},rm w0 w ds->(∀ e∈ds,e.target ≠ .collected D)->rm w0 (w.putObj D o) ds
 | [],_,_=>trivial
 | _::_,⟨E,h1,h2,h3,h4,h5⟩,hn=>⟨E,h1,h2,by rw[World.putObj_heap_other λe=>hn _ (fp ..) (by rw[h1,e])];exact h3,h4,h5.put λe he=>hn e (fu _ he)⟩
theorem hV.leaves{P:Program}{w0:World}{N0:fK}{A:Nat->Prop}{env:bj}{F:FS}{fn:Func}{R:Ending->World->Prop}:∀{ds:List Deferred}{a:Act}{w:World},a.defers=ds->hV w0 N0 A env F a w →
  (∀ w',hV w0 N0 A env F {a with defers:=[]} w'→sX A env w A env w'→LeavesIn Fence.wide 0 P fn a.tmps R [] .returning w')->LeavesInM Fence.wide 0 P fn a.tmps R ds .returning w
 | [],a,w,e,t,k=>k w ⟨t.m,t.len,t.f,aN⟩ dH.refl.ext0
 | d::ds,a,w,e,t,k=>by
  have hd:=t.dfr;rw[e] at hd;obtain⟨D,rfl,h1,h2,h3,h4⟩:=hd;have x:=Dy (A:=A) (env:=env) (o' := .deferred none) h2 rfl rfl;exact⟨aw,.inl ⟨D,_,rfl,run_takeDeferred h2,hV.leaves (a:={a with defers:=ds}) rfl
   ⟨t.m.put h2 rfl rfl h1 (.inl aw),t.len,λi=>BZ x _ _ (.inl aw) (t.f i),h4.put h3⟩ λw' t' x'=>k w' t' (x.ext0.trans x')⟩⟩
theorem X3{ps:List PK}{rs:List RK}(post:bp ps->jr rs×gn ps->Prop){f:FuncId}{fn:Func}{code:Code}(hf:P.funcs[f]? = some fn)(hb:fn.body=some code)(hs:jF P sp)(ij:P.follows .mixedOrders=true)(an:bp ps->bI)(hl:∀ d,∀ x∈jH code,∀ r,uR (an d).ln x r->(an d).lo r)
  {base:Nat} {svs:List SV} {h:bX} {dd:bp ps} {fz:List (Nat×Nm)} {bx:List Nat} {cx:List (Option Nat)} {q1:List Nat} (e1:(iq none ps svs).run h=some ((dd,fz,bx,cx),q1)) (hnm:zh fz bx cx=true)
  (hun:∀ i,i<gZ rs+jz ps->h (base+i) = .un) (vc:uE ps dd->wA (By ps dd fn.ntmps) (sx P sp (an dd) code (yR P ps rs fn.results.toList (post dd))))
  {w0:World} {N0:fK} {A:Nat->Prop} {env:bj} {w:World} {vs:List Value} (hG:N0.g=sp.gl) (m:Mod w0 N0 A env h w) (hd:aO A env w svs vs) :
  Calls P f vs.toArray w λe w'=>∃ v y,e = .returned v/\post dd y∧∃ (A':Nat->Prop) (env':bj),Mod w0 N0 A' env' (dA (ve ps rs y base fz bx cx) h) w'∧dH A env w A' env' w'∧az A' env' w' (tY (lJ (bx.headD 0) rs y.1 base)) v:=by
 obtain⟨a4,Nc,Ac,envc,hNg,_,mc,dargs,fin⟩:=V3 e1 hnm hun m hd
 have hvc:=vc a4
 rw[G5] at hvc
 have hvl:=jl dargs
 refine callsIn_wide.1 (callsIn_of_wp_marks (n:=0) hf hb trivial (Pw (ro:=none) (N0:=Nc) ⟨hs,hNg.trans hG⟩ ij code (λx hx=>⟨rfl,hl dd x hx⟩) _ _ _ Ac envc _ w hvc ⟨mc,?_,?_,aN⟩ ?_))
 .simp only[St.fs,By,F6,Array.size_append,Array.size_replicate];omega
 .intro i;simp only[St.fs,By];rcases HN (l:=gV ps dd 0 0) (n:=fn.ntmps) (i:=i) with hj|⟨s,h1,h2⟩
  .rw[hj];simp only[az]
  .rw[h2];obtain⟨v,hv,hdv⟩:=ES i s dargs h1;have hi:i<vs.length:=(List.getElem?_eq_some_iff.1 hv).1;have:(vs.toArray++Array.replicate (fn.ntmps-vs.toArray.size) undef).getD i undef=v:=by
    have h3:(vs.toArray++Array.replicate (fn.ntmps-vs.toArray.size) undef)[i]? = some v:=by
     rw[Array.getElem?_append_left (by simpa using hi)];simpa using hv
    simp only[rF,h3,jo]
   rw[this];exact hdv
 .intro ex S' A1 env1 act w1 hK t' x';have hend:∃ rsv y f1 owr z f2 owb,xB P fn.results.toList S'.sl (eM S'.H)=some rsv/\m3 (Nat.blt 0 (jI ps)) rs rsv (eM S'.H)=some (y,f1,owr)/\my ps 0 (eM S'.H)=some (z,f2,owb) ∧
    zI (f1++f2) (owr++owb)=true/\B4 (f1++f2)=true/\post dd (y,z)/\(ex = .normal∨ex = .ret):=by
   unfold yR at hK;split at hK
   .exact hK.elim
   .rename_i hex;split at hK
    .exact hK.elim
    .rename_i rsv hts;split at hK
     .rename_i y f1 ow z f2 ow2 h1 h2;split at hK
      .rename_i h3 h4;refine⟨rsv,y,f1,ow,z,f2,ow2,hts,h1,h2,h3,h4,hK,?_⟩;cases ex with
       | normal=>exact .inl rfl
       | ret=>exact .inr rfl
       | exit i=>exact absurd rfl (hex i)
      .exact hK.elim
     .exact hK.elim
  obtain⟨rsv,y,f1,owr,z,f2,owb,hts,ho,hob,hown,hlt,hpost,hex⟩:=hend;have key:=hV.leaves (P:=P) (fn:=fn) (R:=λe w'=>∃ v y,e = .returned v/\post dd y∧∃ (A':Nat->Prop) (env':bj),Mod w0 N0 A' env' (dA (ve ps rs y base fz bx cx) h) w'∧dH A env w A' env' w'∧az A' env' w' (tY (lJ (bx.headD 0) rs y.1 base)) v) rfl t' λw2 t2 x2=>by
   obtain⟨rvs,hrun,hres⟩:=ah5 t2.m t2.f hts;exact⟨_,hrun,_,(y,z),rfl,hpost,fin S' A1 env1 w2 t2.m (x'.trans x2) rsv rvs y f1 owr z f2 owb hres ho hob hown hlt⟩
  rcases hex with rfl|rfl <;> exact key
def xL:(rs:List RK)->jr rs->jr rs->List Prop
 | [],_,_=>[]
 | _::rs,x,y=>(x.1=y.1)::xL rs x.2 y.2
def pB:(ps:List PK)->gn ps->gn ps->List Prop
 | [],_,_=>[]
 | .val _::ps,x,y=>pB ps x y
 | .agg _::ps,x,y=>pB ps x y
 | .own _ _::ps,x,y=>pB ps x y
 | .ago _::ps,x,y=>pB ps x y
 | .fn _ _::ps,x,y=>pB ps x y
 | .nils::ps,x,y=>pB ps x y
 | .yld _ _::ps,x,y=>pB ps x y
 | .box _ _::ps,x,y=>(x.1=y.1)::pB ps x.2 y.2
 | .row _ _::ps,x,y=>(x.1=y.1)::pB ps x.2 y.2
theorem LX:∀{rs:List RK}{x y:jr rs},bS (xL rs x y)->x=y
 | [],x,y,_=>rfl
 | _::rs,x,y,h=>Prod.ext h.1 (LX (rs:=rs) h.2)
theorem vA:∀{ps:List PK}{x y:gn ps},bS (pB ps x y)->x=y
 | [],x,y,_=>rfl
 | .val _::ps,x,y,h=>vA (ps:=ps) h
 | .agg _::ps,x,y,h=>vA (ps:=ps) h
 | .own _ _::ps,x,y,h=>vA (ps:=ps) h
 | .ago _::ps,x,y,h=>vA (ps:=ps) h
 | .fn _ _::ps,x,y,h=>vA (ps:=ps) h
 | .nils::ps,x,y,h=>vA (ps:=ps) h
 | .yld _ _::ps,x,y,h=>vA (ps:=ps) h
 | .box _ _::ps,x,y,h=>Prod.ext h.1 (vA (ps:=ps) h.2)
 | .row _ _::ps,x,y,h=>Prod.ext h.1 (vA (ps:=ps) h.2)
theorem NB:∀{rs:List RK}{x:jr rs},bS (xL rs x x)
 | [],_=>trivial
 | _::rs,x=>⟨rfl,NB (rs:=rs)⟩
theorem uC:∀{ps:List PK}{x:gn ps},bS (pB ps x x)
 | [],_=>trivial
 | .val _::ps,x=>uC (ps:=ps)
 | .agg _::ps,x=>uC (ps:=ps)
 | .own _ _::ps,x=>uC (ps:=ps)
 | .ago _::ps,x=>uC (ps:=ps)
 | .fn _ _::ps,x=>uC (ps:=ps)
 | .nils::ps,x=>uC (ps:=ps)
 | .yld _ _::ps,x=>uC (ps:=ps)
 | .box _ _::ps,x=>⟨rfl,uC (ps:=ps)⟩
 | .row _ _::ps,x=>⟨rfl,uC (ps:=ps)⟩
theorem Ct.ok(c:Ct){f:FuncId}{fn:Func}{code:Code}(hf:P.funcs[f]? = some fn)(hb:fn.body=some code)(hs:jF P sp)(ij:P.follows .mixedOrders=true)(an:bp c.ps->bI)(hl:∀ d,∀ x∈jH code,∀ r,uR (an d).ln x r->(an d).lo r)
  (vc:yo c.ps λd=>uE c.ps d->qz (c.pre d)->wA (By c.ps d fn.ntmps) (sx P sp (an d) code (yR P c.ps c.rs fn.results.toList λy=>qz (xL c.rs y.1 (c.out d).1++pB c.ps y.2 (c.out d).2)))):m9 P sp.gl f c.spec:=by
 intro base svs h d r e hp w0 N0 A env w vs hG m hd
 unfold Ct.spec at e
 obtain⟨⟨dd,fz,bx,cx⟩,q1,q2,e1,e2,rfl⟩:=Q.run_bind _ _ _ e
 split at e2
 case h_2=>cases e2
 rename_i hnm
 obtain⟨rfl,hun⟩:=CO e2
 refine (X3 (rs:=c.rs) (λd y=>qz (xL c.rs y.1 (c.out d).1++pB c.ps y.2 (c.out d).2)) hf hb hs ij an hl e1 hnm hun (λhw=>F2.1 vc dd hw (yD.2 hp)) hG m hd).mono ?_
 rintro e' w' ⟨v,y,rfl,hy,A',env',h1,h2,h3⟩
 obtain⟨hy1,hy2⟩:=rQ.1 (yD.1 hy)
 have:y=c.out dd:=Prod.ext (LX hy1) (vA hy2)
 subst this
 exact⟨v,rfl,(),A',env',aN,h1,h2,h3⟩
theorem Cn.ok(c:Cn){f:FuncId}{fn:Func}{code:Code}(hf:P.funcs[f]? = some fn)(hb:fn.body=some code)(hs:jF P sp)(ij:P.follows .mixedOrders=true)(an:bp c.ps->bI)(hl:∀ d,∀ x∈jH code,∀ r,uR (an d).ln x r->(an d).lo r)
  (vc:yo c.ps λd=>uE c.ps d->qz (c.pre d)->wA (By c.ps d fn.ntmps) (sx P sp (an d) code (yR P c.ps c.rs fn.results.toList (c.post d)))):m9 P sp.gl f c.spec:=by
 intro base svs h d r e hp w0 N0 A env w vs hG m hd
 unfold Cn.spec at e
 obtain⟨⟨dd,fz,bx,cx⟩,q1,q2,e1,e2,rfl⟩:=Q.run_bind _ _ _ e
 split at e2
 case h_2=>cases e2
 rename_i hnm
 obtain⟨rfl,hun⟩:=CO e2
 refine (X3 (rs:=c.rs) c.post hf hb hs ij an hl e1 hnm hun (λhw=>F2.1 vc dd hw (yD.2 hp)) hG m hd).mono ?_
 rintro e' w' ⟨v,y,rfl,hy,A',env',h1,h2,h3⟩
 refine⟨v,rfl,y,A',env',hy,?_,h2,h3⟩
 show Mod w0 N0 A' env' (dA ((AY c.ps c.rs base fz bx cx).map λp=>(p.1,p.2 y)) h) w'
 rw[PA];exact h1
def Ct.nspec(c:Ct):Spec:=λbase svs=>(iq none c.ps svs).bind λp=>match zh p.2.1 p.2.2.1 p.2.2.2 with
 | true=>tV base (gZ c.rs+jz c.ps) (.nd (jr c.rs×gn c.ps) (To c.rs c.ps) (c.pre p.1) (λy=>qz (xL c.rs y.1 (c.out p.1).1++pB c.ps y.2 (c.out p.1).2)) (λ_=>⟨c.out p.1,yD.2 (rQ.2 ⟨NB,uC⟩)⟩)
   (λy=>tY (lJ (p.2.2.1.headD 0) c.rs y.1 base)) (AY c.ps c.rs base p.2.1 p.2.2.1 p.2.2.2))
 | false => .fail
theorem Xn{h:bX}{dl d:Dl}:∀{k n:Nat}{r:List Nat},(tV n k dl).run h=some (d,r)→∀ a,(tV n k a).run h=some (a,r)
 | 0,n,r,e,a=>by
  simp only[tV,Q.run,cE,cC] at e ⊢;exact⟨aN,e.2⟩
 | k+1,n,r,e,a=>by
  simp only[tV,Q.run] at e ⊢;split at e
  .rename_i p q hk;obtain⟨rfl,rfl⟩:=e;split at hk
   next hun=>have:=Xn hk a;rw[this]
   .cases hk
  .cases e
universe u v
theorem Q.bind_run1{h:bX}{α:Type u}{β:Type v}(q:Q α)(f:α->Q β){a:α}{d:List Nat}{b:β}{r2:List Nat}(c:q.run h=some (a,d))(h2:(f a).run h=some (b,r2)):(q.bind f).run h=some (b,d++r2):=by
 induction q generalizing d with
 | ret x=>simp only[Q.run,cE,cC] at c;obtain⟨rfl,rfl⟩:=c;simpa[Q.bind] using h2
 | ask n k ih =>
  simp only[Q.run] at c;split at c
  next x y hk=>obtain⟨rfl,rfl⟩:=c;simp only[Q.bind,Q.run,ih _ hk,nO]
  .cases c
 | fail=>cases c
theorem Ct.named{G:sN}{c:Ct}{f:FuncId}(ok:m9 P G f c.spec):m9 P G f c.nspec:=by
 intro a svs h d r e hp w0 N0 A env w vs hG m hd
 obtain⟨⟨b,fz,bx,cx⟩,q1,q2,e1,g,rfl⟩:=Q.run_bind _ _ _ e
 split at g
 case h_2=>cases g
 obtain⟨rfl,hun⟩:=CO g
 have e3:=Xn g (.det (c.pre b) (tY (lJ (bx.headD 0) c.rs (c.out b).1 a)) (ve c.ps c.rs (c.out b) a fz bx cx))
 have e4:(c.spec a svs).run h=some (.det (c.pre b) (tY (lJ (bx.headD 0) c.rs (c.out b).1 a)) (ve c.ps c.rs (c.out b) a fz bx cx),q1++q2):=by
  refine Q.bind_run1 _ _ e1 ?_;simp_all
 refine (ok a svs h _ _ e4 hp w0 N0 A env w vs hG m hd).mono ?_
 rintro e' w' ⟨v,he,x,A',env',_,h1,h2,h3⟩
 refine⟨v,he,c.out b,A',env',yD.2 (rQ.2 ⟨NB,uC⟩),?_,h2,h3⟩
 show Mod w0 N0 A' env' (dA ((AY c.ps c.rs a fz bx cx).map λp=>(p.1,p.2 (c.out b))) h) w'
 rw[PA];exact h1
end
end Go.SX
namespace Go.SX
open Go.ChangeShapes Go.WideShapes Go.ChangeAt Go.RowKit
universe u v
def yC(P:Program)(f:CT->TypeId->Bool):List Field->CT->Nat->Bool
 | [],_,_=>false
 | [fd],t,o=>f t fd.type&&Nat.beq fd.offset o&&Nat.beq (P.cellsOf fd.type) t.size
 | fd::g::r,.pair a b,o=>f a fd.type&&Nat.beq fd.offset o&&Nat.beq (P.cellsOf fd.type) a.size&&yC P f (g::r) b (o+a.size)
 | _,_,_=>false
def yv(P:Program)(f:CT->TypeId->Bool)(e:TypeId):Nat->CT->Bool
 | 0,_=>false
 | 1,t=>f t e&&Nat.beq (P.cellsOf e) t.size
 | n+2,.pair a b=>f a e&&Nat.beq (P.cellsOf e) a.size&&yv P f e (n+1) b
 | _,_=>false
def oM(P:Program):Nat->CT->TypeId->Bool
 | 0,_,_=>false
 | n+1,t,τ=>match P.underlying τ,t with
  | some (.int k),.int k'=>j8 k k'
  | some .bool,.bool=>true
  | some .string,.str=>true
  | some (.slice e),.sl u=>oM P n u e&&Nat.beq (P.cellsOf e) u.size
  | some (.struct fs),t=>yC P (oM P n) fs.toList t 0
  | some (.array k e),t=>yv P (oM P n) e k t
  | _,_=>false
section
variable {H:Type} {enc:TypeId×Value->H} {P:Program} {w:World} {base:Nat} {held:Bool}
theorem z4{A:Nat->Prop}{t:CT}{cs:List Value}{o a:Nat}{d:t.D}(hs:a=t.size)(h:Rd A w t (λj=>((cs.drop o).take a)[j]?) 0 d):Rd A w t (λj=>cs[j]?) o d:=by
 have:=AC h o
 rw[gI] at this
 refine iL (λ_ h=>h) (λ_ _ _=>rfl) t _ _ _ _ (λj hj=>?_) this
 simp_all
theorem V7{A:Nat->Prop}{f:CT->TypeId->Bool}{cs:List Value}{n:Nat}
  (m:∀ t τ cs x,f t τ=true->DataW.trod enc P w base (λ_=>true) held n τ cs=some x→∃ d,Rd A w t (λj=>cs[j]?) 0 d) :
  ∀(v:List Field)(t:CT)(o:Nat),yC P f v t o=true->(∀ c∈v,∃ x,DataW.trod enc P w base (λ_=>true) held n c.type ((cs.drop c.offset).take (P.cellsOf c.type))=some x)→∃ d,Rd A w t (λj=>cs[j]?) o d
 | [c],t,o,h,k=>by
  simp only[yC,fe] at h;obtain⟨⟨p,e⟩,i⟩:=h;have e:=bK e;have i:=bK i;obtain⟨x,k⟩:=k c aw;obtain⟨d,l⟩:=m t c.type _ x p k;rw[e] at l;exact⟨d,z4 i l⟩
 | c::g::r,.pair a b,o,h,k=>by
  simp only[yC,fe] at h;obtain⟨⟨⟨p,e⟩,i⟩,h4⟩:=h;have e:=bK e;have i:=bK i;obtain⟨x,q⟩:=k c aw;obtain⟨d,l⟩:=m a c.type _ x p q;rw[e] at l;obtain⟨d',s⟩:=V7 m (g::r) b (o+a.size) h4 (λu hm=>k u (fu _ hm));exact⟨(d,d'),z4 i l,s⟩
theorem SJ{A:Nat->Prop}{f:CT->TypeId->Bool}{cs:List Value}{n:Nat}{e:TypeId}
  (m:∀ t τ cs x,f t τ=true->DataW.trod enc P w base (λ_=>true) held n τ cs=some x→∃ d,Rd A w t (λj=>cs[j]?) 0 d) :
  ∀(k:Nat)(t:CT)(i:Nat),yv P f e k t=true->(∀ j,i<=j->j<i+k→∃ x,DataW.trod enc P w base (λ_=>true) held n e ((cs.drop (j*P.cellsOf e)).take (P.cellsOf e))=some x)→∃ d,Rd A w t (λj=>cs[j]?) (i*P.cellsOf e) d
 | 1,t,i,h,g=>by
  simp only[yv,fe] at h;obtain⟨l,c⟩:=h;have c:=bK c;obtain⟨x,g⟩:=g i ab ab;obtain⟨d,o⟩:=m t e _ x l g;exact⟨d,z4 c o⟩
 | k+2,.pair a b,i,h,g=>by
  simp only[yv,fe] at h;obtain⟨⟨l,c⟩,h4⟩:=h;have c:=bK c;obtain⟨x,p⟩:=g i ab ab;obtain⟨d,o⟩:=m a e _ x l p;obtain⟨d',hd'⟩:=SJ m (k+1) b (i+1) h4 (λj l c=>g j ab ab);refine⟨(d,d'),z4 c o,?_⟩;grind
theorem aL4{α:Type}(n:Nat)(p:Nat->α->Prop)(h:∀ i,i<n→∃ a,p i a):∃ l:List α,l.length=n∧∀ i (b:i<l.length),p i l[i]:=by
 induction n with
 | zero=>exact⟨[],rfl,λi b=>by simp at b⟩
 | succ n ih =>
  obtain⟨l,hl,hp⟩:=ih λi b=>h i ab;obtain⟨a,ha⟩:=h n ab;refine⟨l++[a],by simp[hl],λi b=>?_⟩;grind
theorem Tv(b off n:Nat):(⟨b,off,none⟩:Addr).add n=⟨b,off+n,none⟩:=by
 unfold Addr.add
 simp_all
theorem Tl{k:IntKind}{n:Int}(h:(Lit.int k n).wf=true):k.has n:=by
 simp only[Lit.wf,fe,pD] at h;exact h
theorem HS:∀(n:Nat)(t:CT)(τ:TypeId)(fuel:Nat)(cs:List Value)(x:DataW H×List MemPlace),oM P n t τ=true->DataW.trod enc P w base (λ_=>true) held fuel τ cs=some x →
  ∃ d,Rd (λb=>b<w.heap.size) w t (λj=>cs[j]?) 0 d
 | 0,t,τ,fuel,cs,x,h,_=>by cases h
 | n+1,t,τ,fuel,cs,x,h,hx=>by
  unfold oM at h;split at h
  next k k' hu=>cases kK h;obtain⟨m,rfl,_,hw⟩:=DataW.trod_int hu hx;exact⟨m,aw,Tl hw⟩
  next hu=>obtain⟨b,rfl,_⟩:=DataW.trod_bool hu hx;exact⟨b,by simp[Rd]⟩
  next hu=>obtain⟨s,rfl,_,hs⟩:=DataW.trod_string hu hx;exact⟨s,aw,hs⟩
  .rename_i e u hu;simp only[fe] at h;obtain⟨h1,h2⟩:=h;have h2:=bK h2;rcases DataW.trod_slice hu hx with⟨rfl,_⟩|⟨a,len,cap,elems,rest,m,_,rfl,_,_,hl,hm,hlen,hel,hsp,_⟩
   .exact⟨[],uY.2 ⟨_,rfl,aw,.inl ⟨⟨_,rfl⟩,rfl⟩⟩⟩
   .have hcap:=(hsp rfl)
    by_cases h0:cap=0
    .have:len=0:=ab;subst this h0;exact⟨[],uY.2 ⟨_,rfl,aw,.inl ⟨⟨_,rfl⟩,rfl⟩⟩⟩
    · -- the cells that are there
     have first:∃ v,w.cell? a=some v:=by
      have hb:∃ cs',w.cells? base (a.add 0) (P.cellsOf e)=some cs':=by
       by_cases hl0:0<len
       .have:=hel 0 hl0;rw[Nat.zero_mul] at this;have hs:∃ y,elems[0]? = some y:=⟨_,cM ab⟩
        obtain⟨y,hy⟩:=hs;rw[hy,Option.bind_eq_some_iff] at this;grind
       .have:=hcap.2 0 ab;have hz:(len+0)*P.cellsOf e=0:=by
         simp_all
        rw[hz] at this;have hs:∃ y,rest[0]? = some y:=⟨_,cM ab⟩
        obtain⟨y,hy⟩:=hs;rw[hy,Option.bind_eq_some_iff] at this;grind
      obtain⟨cs',hcs⟩:=hb;obtain⟨_,hl1,hl2⟩:=World.cells?_some hcs;have hp:=u.size_pos;have:=hl2 0 ab;refine⟨cs'[0]'ab,?_⟩;rw[cM ab] at this;simpa[Addr.add] using this
     obtain⟨v0,hv0⟩:=first
     have hspot:=World.cell?_spot hv0;obtain⟨b,off,spot⟩:=a;simp only at hspot;subst hspot;have hlt:b<w.heap.size:=by
      unfold World.cell? at hv0;simp only at hv0;split at hv0
      next c E sp hb=>exact (Array.getElem?_eq_some_iff.1 hb).1
      .cases hv0
     obtain⟨xs,hxl,hxp⟩:=aL4 len (λi d=>Rd (λb=>b<w.heap.size) w u (λo=>w.cell? ⟨b,o,none⟩) (off+i*u.size) d) λi hi=>by
      have:=hel i hi;rw[cM ab,Option.bind_eq_some_iff] at this;obtain⟨cs',hcs,ht⟩:=this;obtain⟨_,hl1,hl2⟩:=World.cells?_some hcs;obtain⟨d,hd⟩:=HS n u e _ cs' _ h1 ht;refine⟨d,?_⟩;have:=AC hd (off+i*u.size);rw[gI] at this;refine iL (λ_ h=>h) (λ_ _ _=>rfl) u _ _ _ _ (λj hj=>?_) this;have:=hl2 j ab;rw[Tv,Tv,h2] at this;rw[ot,← this]
     subst hxl;exact⟨xs,uY.2 ⟨_,rfl,ab,.inr ⟨b,off,cap,rfl,hl,hm,hlt,λi hi=>hxp i hi⟩⟩⟩
  .rename_i t' fs hu;obtain⟨xs,m,_,_,hl,hlen,hf⟩:=DataW.trod_struct hu hx;refine V7 (n:=m) (λt τ cs x h1 h2=>HS n t τ m cs x h1 h2) fs.toList _ 0 h λfd hm=>?_;obtain⟨i,hi,rfl⟩:=List.mem_iff_getElem.1 hm;have:=hf i fs[i] (Array.getElem?_eq_getElem (by simpa using hi));have hi':i<fs.size:=by simpa using hi
   rw[cM ab] at this;exact⟨_,by simpa using this⟩
  .rename_i t' k e hu;obtain⟨xs,m,_,_,hl,hlen,hf⟩:=DataW.trod_array hu hx;have:=SJ (n:=m) (cs:=cs) (e:=e) (λt τ cs x h1 h2=>HS n t τ m cs x h1 h2) k _ 0 h λj _ hj=>by
    have:=hf j ab;rw[cM ab] at this;exact⟨_,this⟩
   simpa using this
  .cases h
abbrev qY:=List (Bool×CT)
def mV:qY->List PK
 | []=>[]
 | (true,t)::r => .agg t::mV r
 | (false,t)::r => .val t::mV r
def CC:(l:qY)->gn (mV l)
 | []=>()
 | (true,_)::r=>CC r
 | (false,_)::r=>CC r
def Ep(l:qY):Ct:=⟨mV l,[.val .bool],λ_=>[],λ_=>((true,()),CC l)⟩
def ze(P:Program)(τ:TypeId):Bool:=match P.underlying τ with
 | some (.struct _)=>true
 | some (.array _ _)=>true
 | _=>false
def KN:CT->Bool
 | .pair _ _=>false
 | _=>true
def F0(P:Program):qY->List TypeId->Bool
 | [],[]=>true
 | (b,t)::r,τ::τs=>(match b,ze P τ with|true,true=>true|false,false=>KN t|_,_=>false)&&oM P 12 t τ&&Nat.beq (P.cellsOf τ) t.size&&F0 P r τs
 | _,_=>false
theorem aL9{r:Reach}{b0:Nat}{τ:TypeId}{v:Value}(h:ze P τ=true)(hv:Value.okWide P w r b0 τ v):∃ vs,v = .agg vs/\vs.size=P.cellsOf τ:=by
 unfold ze at h
 unfold Value.okWide at hv
 grind
theorem bm9{r:Reach}{b0:Nat}{τ:TypeId}{v:Value}(ht:P.underlying τ=some .bool)(h:Value.okWide P w r b0 τ v):∃ b,v = .bool b:=by
 simp only[Value.okWide,ht,Cell.okWide] at h
 cases v <;> simp_all[Cell.ok]
theorem af9{r:Reach}{b0:Nat}{n:Nat}{t:CT}{τ:TypeId}{v:Value}(hf:KN t=true)(d:ze P τ=false)(h:oM P n t τ=true)(hv:Value.okWide P w r b0 τ v):v.cells = #[v]:=by
 cases n with
 | zero=>cases h
 | succ n =>
  unfold oM at h;split at h
  next k k' b=>obtain⟨m,rfl⟩:=okWide_int b hv;rfl
  next b=>obtain⟨m,rfl⟩:=bm9 b hv;rfl
  next b=>obtain⟨m,rfl⟩:=okWide_string b hv;rfl
  next e u b=>obtain⟨a,l,c,rfl⟩:=okWide_slice b hv;rfl
  next t' fs b=>unfold ze at d;rw[b] at d;cases d
  next t' k e b=>unfold ze at d;rw[b] at d;cases d
  .cases h
theorem aL6(k:IntKind):j8 k k=true:=by cases k <;> rfl
theorem YW{t:CT}{xs:List t.D}:iK t t xs=some xs:=by unfold iK;rw[dif_pos rfl]
theorem JI{h:bX}:∀(t:CT)(d:t.D)(rest:List SV),(kW t (cQ t d++rest)).run h=some ((d,rest,[]),[])
 | .int k,d,rest=>by simp only[cQ,nO,uy,kW,aL6];rfl
 | .bool,d,rest=>rfl
 | .str,d,rest=>rfl
 | .sl t,d,rest=>by simp only[cQ,nO,uy,kW,YW];rfl
 | .pair a b,d,rest=>by
  have bindrun:∀{α β:Type}(q:Q α)(f:α->Q β)(x:α)(y:β),q.run h=some (x,[])->(f x).run h=some (y,[])->(q.bind f).run h=some (y,[]):=by
   intro α β q
   induction q with
   | ret a=>intro f x y h1 h2;simp only[Q.run,cE,cC] at h1;rw[← h1.1] at h2;exact h2
   | ask n k ih =>
    intro f x y h1 h2;simp only[Q.run] at h1;grind
   | fail=>intro f x y h1 h2;cases h1
  simp only[cQ,je,kW];refine bindrun _ _ _ _ (JI a d.1 (cQ b d.2++rest)) ?_;exact bindrun _ _ _ _ (JI b d.2 rest) rfl
theorem Q.bind_run0{h:bX}{α:Type u}{β:Type v}(q:Q α)(f:α->Q β)(x:α)(y:β)(b:q.run h=some (x,[]))(c:(f x).run h=some (y,[])):(q.bind f).run h=some (y,[]):=by
 cases q with
 | ret a=>simp only[Q.run,cE,cC] at b;rw[← b.1] at c;exact c
 | ask n k =>
  simp only[Q.run] at b;grind
 | fail=>cases b
theorem ap9{t:CT}(hf:KN t=true)(d:t.D):cQ t d=[Dq t d]:=by
 cases t <;> first|rfl|cases hf
def Ay:qY->Bool
 | []=>true
 | (b,t)::r=>(b||KN t)&&Ay r
theorem Hg{h:bX}:∀(l:qY)(d:bp (mV l)),Ay l=true->(iq none (mV l) (gV (mV l) d 0 0)).run h=some ((d,[],[],[]),[])
 | [],d,_=>rfl
 | (true,t)::r,d,a=>by
  simp only[Ay,fe] at a;refine Q.bind_run0 _ _ _ _ (by have:=JI (h:=h) t d.1 [];rw[kY] at this;exact this) ?_;exact Q.bind_run0 _ _ _ _ (Hg r d.2 a.2) rfl
 | (false,t)::r,d,a=>by
  simp only[Ay,fe,Bool.false_or] at a;refine Q.bind_run0 _ _ _ _ (by have:=JI (h:=h) t d.1 [];rw[kY,ap9 a.1] at this;exact this) ?_;exact Q.bind_run0 _ _ _ _ (Hg r d.2 a.2) rfl
theorem Q3{r:Reach}{b0:Nat}:∀(l:qY)(τs:List TypeId)(vs:List Value)(i:List (DataW H))(ps:List MemPlace),F0 P l τs=true->DataW.TrodAll enc P w base (λ_=>true) held τs vs i ps →
  (∀(j:Nat) t v,τs[j]? = some t->vs[j]? = some v->Value.okWide P w r b0 t v)->Ay l=true∧∃ d:bp (mV l),aO (λb=>b<w.heap.size) (λ_=>.un) w (gV (mV l) d 0 0) vs
 | [],[],vs,i,ps,h,e,hv=>by
  obtain⟨rfl,_,_⟩:=trodAll_nil e;exact⟨rfl,(),by simp[mV,gV,aO]⟩
 | (b,t)::l,τ::τs,vs,i,ps,h,e,hv=>by
  obtain⟨v,a,d,k,p,q,rfl,rfl,rfl,h0,hr⟩:=trodAll_cons e;simp only[F0,fe] at h;obtain⟨⟨⟨m,y⟩,n⟩,h4⟩:=h;have n:=bK n;obtain⟨z,A,B⟩:=Q3 l τs a k q h4 hr (λj t v e o=>hv (j+1) t v (by simpa using e) (by simpa using o));have f:=hv 0 τ v rfl rfl;obtain⟨g,hf⟩:=h0;obtain⟨C,c⟩:=HS 12 t τ g _ _ y hf;cases b with
  | true =>
   have u:ze P τ=true:=by
    grind
   obtain⟨us,rfl,x⟩:=aL9 u f;refine⟨by simp[Ay,z],(C,A),?_⟩;refine⟨_,a,rfl,⟨us,rfl,JB (by simpa using x.trans n) (by simpa[Value.cells] using c)⟩,B⟩
  | false =>
   have D:ze P τ=false:=by
    grind
   rw[D] at m;refine⟨by simp[Ay,z,m],(C,A),?_⟩;have hc:=af9 m D y f;rw[hc] at c;exact⟨v,a,rfl,ON (rest:=[]) (by simpa using c),B⟩
def GlobsOK(w:World)(G:sN):Prop:=∀ g x,G g=some x->g<w.heap.size/\Rd (λb=>b<w.heap.size) w x.1 (λo=>w.cell? ⟨g,o,none⟩) 0 x.2
theorem law_walkG{G:sN}(hG:GlobsOK w G){f:FuncId}{l:qY}(ok:m9 P G f (Ep l).spec){r:Reach}{b0:Nat}{τs:List TypeId}{args:Array Value}{ds:List (DataW H)}{ps:List MemPlace}(hl:F0 P l τs=true)
  (ht:DataW.TrodAll enc P w base (λ_=>true) held τs args.toList ds ps) (hv:∀(j:Nat) t v,τs.toArray[j]? = some t->args[j]? = some v->Value.okWide P w r b0 t v) :
  Calls P f args w λe w'=>e = .returned (.bool true)/\Below w.heap.size w w':=by
 obtain⟨hok,d,hd⟩:=Q3 l τs args.toList ds ps hl ht (λj t v h1 h2=>hv j t v (by simpa using h1) (by simpa using h2))
 have hkeep:Ba (mV l) [.val .bool]=false:=by
  have:∀ l:qY,nF (mV l)=true:=by
   intro l
   induction l with
   | nil=>rfl
   | cons x l ih=>obtain⟨b,t⟩:=x;cases b <;> exact ih
  simp only[Ba,this,ua,CT.plain,Bool.and_self,Bool.not_true]
 have hbU:∀ nb,gN 0 (mV l) (CC l) [] nb=[]:=by
  intro nb
  induction l with
  | nil=>rfl
  | cons x l ih =>
   obtain⟨b,t⟩:=x;have:∀ l:qY,gN 0 (mV l) (CC l) [] nb=[]:=by
    intro l
    induction l with
    | nil=>rfl
    | cons x l ih=>obtain⟨b,t⟩:=x;cases b <;> exact ih
   cases b <;> exact this l
 have hnU:∀(l:qY) nb,iP (mV l) (CC l) nb=[]:=by
  intro l nb
  induction l with
  | nil=>rfl
  | cons x l ih=>obtain⟨b,t⟩:=x;cases b <;> exact ih
 have hnB:∀(l:qY),jz (mV l)=0:=by
  intro l
  induction l with
  | nil=>rfl
  | cons x l ih=>obtain⟨b,t⟩:=x;cases b <;> exact ih
 have hrun:((Ep l).spec 0 (gV (mV l) d 0 0)).run (λ_=>.un)=some (Dl.det [] (.bool true) [],[]):=by
  unfold Ct.spec;refine Q.bind_run0 _ _ _ _ (Hg l d hok) ?_;simp only[zh,lH,kY,Fb,Gs,Ep,ve,hkeep,hbU,hnU,hnB,sQ,mS,lJ,tY,Dq,cQ,gZ,tV,List.headD_nil];rfl
 have m:Mod w ⟨λ_=>False,λb=>b<w.heap.size,G⟩ (λb=>b<w.heap.size) (λ_=>.un) (λ_=>.un) w :=
  ⟨rfl,rfl,rfl,eT _,eT _,λ_ _ _=>rfl,λ_ h=>h,λ_=>rfl,λ_ _ _ _ h=>(by cases h),λ_ _ _ _ _ _ _ h=>(by cases h),λb hb=>.inl hb,hG⟩
 have:=ok 0 (gV (mV l) d 0 0) (λ_=>.un) _ _ hrun trivial w _ _ _ w args.toList rfl m hd
 refine Calls.mono this ?_
 rintro e w' ⟨v,rfl,x,A',env',_,hm,_,hden⟩
 simp only[Dl.val,az] at hden
 exact⟨by rw[hden],hm.os,hm.tape,hm.output,hm.size,λk hk=>hm.fr k hk (λh=>h)⟩
theorem law_walk{f:FuncId}{l:qY}(ok:m9 P (λ_=>none) f (Ep l).spec){r:Reach}{b0:Nat}{τs:List TypeId}{a:Array Value}{ds:List (DataW H)}{ps:List MemPlace}(hl:F0 P l τs=true)
  (ht:DataW.TrodAll enc P w base (λ_=>true) held τs a.toList ds ps) (hv:∀(j:Nat) t v,τs.toArray[j]? = some t->a[j]? = some v->Value.okWide P w r b0 t v) :
  Calls P f a w λe w'=>e = .returned (.bool true)/\Below w.heap.size w w':=law_walkG (λg x h=>by cases h) ok hl ht hv
def NU(P:Program):List TypeId->Bool
 | []=>true
 | t::r=>P.readableRec t&&decide (t<P.types.size)&&NU P r
theorem trodAll_below(i:laidOutB P=true):∀{τs:List TypeId}{vs:List Value}{a:List (DataW H)}{ps:List MemPlace}{c:World},NU P τs=true →
  DataW.TrodAll enc P w 0 (λ_=>true) true τs vs a ps->Below w.heap.size w c->DataW.TrodAll enc P c 0 (λb=>decide (b<w.heap.size)) true τs vs a ps
 | [],vs,a,ps,c,_,h,f=>by
  obtain⟨rfl,rfl,rfl⟩:=trodAll_nil h;exact trodAll_mk0
 | τ::τs,vs,a,ps,c,e,h,f=>by
  obtain⟨v,vs',d,ds',p,q,rfl,rfl,rfl,j,g⟩:=trodAll_cons h;simp only[NU,fe,pD] at e;have lt:∀ x∈p,x.block<w.heap.size:=by
   obtain⟨m,hm⟩:=j;exact DataW.trod_lt m _ _ _ hm
  exact trodAll_cons_mk (Below.trod i e.1.1 e.1.2 j f lt) (trodAll_below i e.2 g f)
end
end Go.SX
namespace Go.SX
def oO(fn:Func):Code:=match fn.body with
 | some c=>c
 | none => .skip
def Ct.vc(P:Program)(sp:fx)(c:Ct)(fn:Func)(an:bp c.ps->bI):Prop :=
 yo c.ps λd=>uE c.ps d->qz (c.pre d)->wA (By c.ps d fn.ntmps) (sx P sp (an d) (oO fn) (yR P c.ps c.rs fn.results.toList λy=>qz (xL c.rs y.1 (c.out d).1++pB c.ps y.2 (c.out d).2)))
structure Be (p:Prop):Prop where
 out:p
theorem C5{p q:Prop}(h:p=q)(v:q):Be p:=⟨Eq.mpr h v⟩
theorem Ct.okH{P:Program}{sp:fx}(c:Ct){f:FuncId}{fn:Func}(hf:P.funcs[f]? = some fn)(hb:(fn.body,jH (oO fn))=(some (oO fn),[]))(hs:jF P sp)(ij:P.follows .mixedOrders=true)(an:bp c.ps->bI)
  (vc:Be (Ct.vc P sp c fn an)):m9 P sp.gl f c.spec:=c.ok hf (fj Prod.fst hb) hs ij an (λd x hx=>by rw[show jH (oO fn)=[] from fj Prod.snd hb] at hx;cases hx) vc.out
theorem Ct.okY{P:Program}{sp:fx}(c:Ct){f:FuncId}{fn:Func}(hf:P.funcs[f]? = some fn){x:Array Tmp×Code×Code}(hb:(fn.body,jH (oO fn))=(some (oO fn),[x]))(hs:jF P sp)(ij:P.follows .mixedOrders=true)(an:bp c.ps->bI)(hl:∀ d r,uR (an d).ln x r->(an d).lo r)
  (vc:Be (Ct.vc P sp c fn an)):m9 P sp.gl f c.spec:=c.ok hf (fj Prod.fst hb) hs ij an (λd y hy=>by rw[show jH (oO fn)=[x] from fj Prod.snd hb] at hy;rw[nz.1 hy];exact hl d) vc.out
def Cn.vc(P:Program)(sp:fx)(c:Cn)(fn:Func)(an:bp c.ps->bI):Prop :=
 yo c.ps λd=>uE c.ps d->qz (c.pre d)->wA (By c.ps d fn.ntmps) (sx P sp (an d) (oO fn) (yR P c.ps c.rs fn.results.toList (c.post d)))
theorem Cn.okH{P:Program}{sp:fx}(c:Cn){f:FuncId}{fn:Func}(hf:P.funcs[f]? = some fn)(hb:(fn.body,jH (oO fn))=(some (oO fn),[]))(hs:jF P sp)(ij:P.follows .mixedOrders=true)(an:bp c.ps->bI)
  (vc:Be (Cn.vc P sp c fn an)):m9 P sp.gl f c.spec:=c.ok hf (fj Prod.fst hb) hs ij an (λd x hx=>by rw[show jH (oO fn)=[] from fj Prod.snd hb] at hx;cases hx) vc.out
theorem Cn.okY{P:Program}{sp:fx}(c:Cn){f:FuncId}{fn:Func}(hf:P.funcs[f]? = some fn){x:Array Tmp×Code×Code}(hb:(fn.body,jH (oO fn))=(some (oO fn),[x]))(hs:jF P sp)(ij:P.follows .mixedOrders=true)(an:bp c.ps->bI)(hl:∀ d r,uR (an d).ln x r->(an d).lo r)
  (vc:Be (Cn.vc P sp c fn an)):m9 P sp.gl f c.spec:=c.ok hf (fj Prod.fst hb) hs ij an (λd y hy=>by rw[show jH (oO fn)=[x] from fj Prod.snd hb] at hy;rw[nz.1 hy];exact hl d) vc.out
def aX6(G:sN):fx:=⟨λ_=>none,G,none⟩
theorem aC{P:Program}{G:sN}:jF P (aX6 G):=λf s h=>by cases h
def HV(sp:fx)(f:FuncId)(s:Spec):fx:=⟨λg=>match Nat.beq g f with
 | true=>some s
 | false=>sp.fn g,sp.gl,sp.yl⟩
theorem am{P:Program}{sp:fx}{f:FuncId}{s:Spec}(h:jF P sp)(hs:m9 P sp.gl f s):jF P (HV sp f s):=λg t e=>by
 unfold HV at e
 simp only at e
 split at e
 next hb=>cases e;rw[bK hb];exact hs
 .exact h g t e
def a74(sp:fx)(s:Spec):fx:=⟨sp.fn,sp.gl,some s⟩
theorem Tb{P:Program}{sp:fx}{s:Spec}(h:jF P sp):jF P (a74 sp s):=h
def aS2(sp:fx)(d:Nat):fx:=HV sp (4000000000+d) λ_ _=>.fail
theorem K9{P:Program}{sp:fx}{d:Nat}(h:jF P sp):jF P (aS2 sp d):=am h λ_ _ _ _ _ e=>by cases e
def an2(sp:fx)(d:Nat):fx:=HV sp (4100000000+d) λ_ _=>.fail
theorem aq3{P:Program}{sp:fx}{d:Nat}(h:jF P sp):jF P (an2 sp d):=am h λ_ _ _ _ _ e=>by cases e
theorem a09{b:Bool}{y n:Prop}:au b y n↔(b=true->y)/\(b=false->n):=by cases b <;> simp[au]
theorem aL{n:Int}(h : -9223372036854775808<=n)(h':n<=9223372036854775807):IntKind.i64.wrap n=n:=IntWalk.i64_in n ⟨h,h'⟩
theorem wZ{n:Int}(h:0<=n)(h':n<=4294967295):IntKind.u32.wrap n=n:=IntWalk.u32_in n ⟨h,h'⟩
theorem U3{n:Int}(h:0<=n)(h':n<=18446744073709551615):IntKind.u64.wrap n=n:=IntWalk.u64_in n ⟨h,h'⟩
theorem Eh{y n:Prop}:au true y n↔y:=sW
theorem ml{y n:Prop}:au false y n↔n:=sW
theorem cA{α:Type} [Inhabited α] {xs:List α} {i:Int} (h0:0<=i) (h1:i<xs.length):xs.getD i.toNat default∈xs:=by
 have h:i.toNat<xs.length:=by omega
 rw[ct,cM h];exact List.getElem_mem h
theorem yu{a b:Int}(ha:0<=a):0<=a.tmod b:=Int.tmod_nonneg b ha
theorem yq{a b:Int}(ha:0<=a)(hb:0<b):a.tmod b<b:=Int.tmod_lt_of_pos a hb
theorem ay{b:Bool}{y n:Prop}(hy:b=true->y)(hn:b=false->n):au b y n:=a09.2 ⟨hy,hn⟩
theorem ke{p:Prop} [Decidable p] (h:(!decide p)=true):¬ p:=bi (by simpa only[pF] using h)
theorem kS{p:Prop} [Decidable p] (h:(!decide p)=false):p:=aX (by simpa only[zR] using h)
theorem vL{a b:Bool}{y n:Prop}(hy:a=true∨b=true->y)(hn:a=false->b=false->n):au (bif a then true else b) y n:=by
 cases a with
 | true=>exact hy (.inl rfl)
 | false=>cases b with
  | true=>exact hy (.inr rfl)
  | false=>exact hn rfl rfl
theorem z8{a b:Bool}{y n:Prop}(hy:a=true->b=true->y)(hn:a=false∨b=false->n):au (bif a then b else false) y n:=by
 cases a with
 | false=>exact hn (.inl rfl)
 | true=>cases b with
  | true=>exact hy rfl rfl
  | false=>exact hn (.inr rfl)
theorem lD{α:Type} [Inhabited α] {l:List α} {i:Nat} {a:α} (h:i<l.length):(l.set i a).getD i default=a:=by
 rw[ct,List.getElem?_set_self h];rfl
theorem EA{α:Type} [Inhabited α] {q:α->Bool} {l:List α} {j:Int} (h0:0<=j) (h1:j<l.length) (h2:∀ x∈l.take j.toNat,q x=false) (h3:q (l.getD j.toNat default)=true) :
  j=if l.findIdx q<l.length then (l.findIdx q:Int) else -1:=by
 have hj:j.toNat<l.length:=by omega
 rw[ct,cM hj,jo] at h3
 have e:l.findIdx q=j.toNat:=(List.findIdx_eq hj).2 ⟨h3,λk hk=>h2 _ (List.mem_take_iff_getElem.2 ⟨k,by omega,rfl⟩)⟩
 rw[e,aj hj];omega
theorem Ks{α:Type} [Inhabited α] {q:α->Bool} {l:List α} {j:Int} (h1:¬ j<l.length) (h2:∀ x∈l.take j.toNat,q x=false) :
  (-1:Int)=if l.findIdx q<l.length then (l.findIdx q:Int) else -1:=by
 rw[fH (by omega)] at h2
 rw[List.findIdx_eq_length_of_false h2,ah (Nat.lt_irrefl _)]
theorem xV{α:Type} [Inhabited α] {P:α->Prop} {l:List α} {j:Int} (h0:0<=j) (h1:j<l.length) (h2:∀ x∈l.take j.toNat,P x) (h3:P (l.getD j.toNat default)) :
  ∀ x∈l.take (j+1).toNat,P x:=by
 intro x hx
 have hj:j.toNat<l.length:=by omega
 rw[show (j+1).toNat=j.toNat+1 by omega,List.take_add_one,cM hj] at hx
 rw[ct,cM hj,jo] at h3
 rcases fC.1 hx with hx|hx
 .exact h2 x hx
 .simp at hx;rw[hx];exact h3
theorem oG{α:Type} [Inhabited α] {l:List α} {k:Int} (h0:0<=k) (h1:k<l.length):l.take (k+1).toNat=l.take k.toNat++[l.getD k.toNat default]:=by
 have e:(k+1).toNat=k.toNat+1:=by omega
 have hk:k.toNat<l.length:=by omega
 rw[e,List.take_add_one,cM hk,ct,cM hk]
 rfl
theorem LR{a b:Prop} [Decidable a] [Decidable b]:(bif decide a then true else decide b)=decide (a∨b):=by by_cases h:a <;> simp[h]
theorem P2{a b:Prop} [Decidable a] [Decidable b]:(bif decide a then decide b else false)=decide (a/\b):=by by_cases h:a <;> simp[h]
theorem ay5{a b:Prop} [Decidable a] [Decidable b]:(bif !decide a then !decide b else false)=decide (¬ a∧¬ b):=by by_cases h:a <;> simp[h]
theorem aK{p:Prop}(h:p:=by repeat' first|exact trivial|refine⟨trivial,?_⟩|refine⟨(by with_reducible rfl),?_⟩|refine⟨aL (by omega) (by omega),?_⟩|refine⟨rfl,?_⟩):p:=h
theorem dq{X:Bool}{P:Bool->Prop}(h:P X):∀ b,b=X->P b:=λ_ e=>e▸h
theorem dm{p q:Prop}(k:q)(h:p:=by first|(simp;done)|(simp;omega)|(simp;intros;omega)|(simp +contextual;done)):p/\q:=⟨h,k⟩
theorem fR{p q:Prop}(k:q)(h:p:=by first|exact trivial|with_reducible rfl|exact aL (by omega) (by omega)):p/\q:=⟨h,k⟩
theorem tW{p q:Prop}(k:q)(h:p:=by with_reducible rfl):p/\q:=⟨h,k⟩
theorem bP{p:Prop} [Decidable p] {A B:Prop} (a:p->A) (b:¬p->B):au (decide p) A B:=ay (λh=>a (aX h)) λh=>b (bi h)
def eO{A B:Type}:Qn (A×B):=⟨λk=>∀(a:A)(b:B),k (a,b),λ_ h i=>h i.1 i.2,λk=>∃ (a:A) (b:B),k (a,b),λ_ ⟨a,b,h⟩=>⟨_,h⟩⟩
def pI{A B C:Type}:Qn (A×B×C):=⟨λk=>∀(a:A)(b:B)(c:C),k (a,b,c),λ_ h i=>h i.1 i.2.1 i.2.2,λk=>∃ (a:A) (b:B) (c:C),k (a,b,c),λ_ ⟨a,b,c,h⟩=>⟨_,h⟩⟩
def HJ{A B C D:Type}:Qn (A×B×C×D):=⟨λk=>∀(a:A)(b:B)(c:C)(d:D),k (a,b,c,d),λ_ h i=>h i.1 i.2.1 i.2.2.1 i.2.2.2,λk=>∃ (a:A) (b:B) (c:C) (d:D),k (a,b,c,d),λ_ ⟨a,b,c,d,h⟩=>⟨_,h⟩⟩
def bt{A:Type 1}(k:Nat)(c:A)(r:Nat->Option A):Nat->Option A:=λn=>match Nat.beq n k with|true=>some c|false=>r n
def bZ{A:Type 1}:Nat->Option A:=λ_=>none
def aS{A:Type}:A->bI:=λ_=>{}
end Go.SX
namespace Go.RS
open Go.SX Go.Proofs
def si(b:Bool):Prop:=b->(b->b)/\True
def rA(b:Bool):Prop:=b->b
def zGc(b:Bool):Prop:=b=false → !b
def ap:Int->Int:=IntKind.wrap .i64
def af {α} [Inhabited α] (l:List α) (i:Int):α:=l.getD i.toNat default
def ae {α} (l:List α):Int:=l.length
def zTe:Int:=1099511627776
def yp {α} [Inhabited α] (l:List α) (i:Nat):α:=l.getD i default
abbrev Ju(x:Int):Prop := -9223372036854775808<=x/\x<=9223372036854775807
abbrev Al:CT := .pair (.pair (.int .u32) (.int .i64)) (.int .i64)
abbrev cBlocks:CT := .pair Al (.pair Al (.pair Al (.pair Al (.pair Al (.pair Al (.pair Al Al))))))
def blocksV:cBlocks.D:=(((0,8),1),((2130706432,8),2),((167772160,8),3),((2886729728,12),3),((3232235520,16),3),((2851995648,16),4),((3758096384,4),5),((4026531840,4),6))
abbrev wL:CT := .int .u32
abbrev Lc:Nat->CT
 | 0=>wL
 | n+1 => .pair wL (Lc n)
def TL:(n:Nat)->ac->(Lc n).D
 | 0,l=>l.headD 0
 | n+1,l=>(l.headD 0,TL n l.tail)
abbrev uS:CT := .pair wL (.pair wL (.pair wL (.pair wL (.pair wL (.pair wL (.pair wL wL))))))
def bl8:uS.D:=(0x6a09e667,0xbb67ae85,0x3c6ef372,0xa54ff53a,0x510e527f,0x9b05688c,0x1f83d9ab,0x5be0cd19)
abbrev GJ:CT:=Lc 63
def P3:GJ.D:=TL 63 [1116352408,1899447441,3049323471,3921009573,961987163,1508970993,2453635748,2870763221,3624381080,310598401,607225278,1426881987,1925078388,2162078206,2614888103,3248222580,3835390401,4022224774,264347078,604807628,770255983,1249150122,1555081692,1996064986,2554220882,2821834349,2952996808,3210313671,3336571891,3584528711,113926993,338241895,666307205,773529912,1294757372,1396182291,1695183700,1986661051,2177026350,2456956037,2730485921,2820302411,3259730800,3345764771,3516065817,3600352804,4094571909,275423344,430227734,506948616,659060556,883997877,958139571,1322822218,1537002063,1747873779,1955562222,2024104815,2227730452,2361852424,2428436474,2756734187,3204031479,3329325298]
def GL:sN:=(λn=>match n with|0=>some ⟨cBlocks,blocksV⟩|1=>some ⟨uS,bl8⟩|2=>some ⟨GJ,P3⟩|_=>none)
theorem ij:Tryz.prog.follows .mixedOrders=true:=Tryz.checked.mixed
abbrev cI:CT := .int .i64
abbrev bq:CT := .int .u8
abbrev db:CT := .int .u32
abbrev OF:CT := .int .u64
abbrev j7:CT := .pair (.sl bq) cI
abbrev xU:CT := .pair cI cI
abbrev xF:CT := .pair cI cI
abbrev O3:CT := .pair db (.pair db (.pair cI (.pair cI cI)))
def bH(c:ac×Int):Prop:=0<=c.2/\c.2<=c.1.length
theorem nB{sp:fx}{c:Cn}{f:FuncId}{fn:Func}{q:Prop}(hf:Tryz.prog.funcs[f]? = some fn)(hs:jF Tryz.prog sp)(an:bp c.ps->bI)(vc:q)(hb:(fn.body,jH (oO fn))=(some (oO fn),[]):=by kernel_rfl)(he:Cn.vc Tryz.prog sp c fn an=q:=by kernel_rfl):m9 Tryz.prog sp.gl f c.spec:=Cn.okH c hf hb hs ij an (C5 he vc)
theorem aF{sp:fx}{c:Ct}{f:FuncId}{fn:Func}{q:Prop}(hf:Tryz.prog.funcs[f]? = some fn)(hs:jF Tryz.prog sp)(an:bp c.ps->bI)(vc:q)(hb:(fn.body,jH (oO fn))=(some (oO fn),[]):=by kernel_rfl)(he:Ct.vc Tryz.prog sp c fn an=q:=by kernel_rfl):m9 Tryz.prog sp.gl f c.spec:=Ct.okH c hf hb hs ij an (C5 he vc)
abbrev aB(f:FuncId)(s:Go.SX.Spec):=m9 Tryz.prog GL f s
abbrev bT2:=Int×Int
abbrev bT3:=List bT2×Int×Int×Bool×List (bT2×ac×Int)×Int×Int×Int×Int×Int×bT2×Bool×Bool×Int×Int
abbrev bU3:=Int×Int×Int×Int×Int×Int
abbrev bU6:=Int×Int×Bool×bT2×ac×Int
abbrev bT8:=List bT3×List bU3×List bU6
abbrev bT9:=List (bT2×ac×Int)×Int×ac×bT2×Int
abbrev bU4:=Int×Int×Int×Int×Int×ac
abbrev bT7:=Int×Int×ac
abbrev bU2:=Int×Int×Int×Int×Int
abbrev aU8:=bT8×Int×Int×Int×List bT9×ac×List bU4×List bT7×List bU2
abbrev bV3:=Int×Int×Int×Int×Int×Int×Int
abbrev bT5:=Int×Int×(List bV3×Int×Int)×ac×Int×Int
abbrev bT4:=bU3×Int×Int×Bool×Bool×Int×Int×Int×Int×Int×Int×Int
abbrev bT0:=Int×Int×Int×Int×Int×Int×Int×Int×Bool×Bool×Int×Int×Int×Int×Int×Int×Int
abbrev bV0:=Int×Int×Int×Int×Int×List bT4×List bT0
abbrev bU7:=Int×Int×Int×ac
abbrev bU0:=Int×ac
abbrev bJ4:=bT5×bV0×Int×bU7×Int×Int×Int×Int×List ac×Int×List ac×List bU0×List bT7×List bT7
abbrev bT6:=Int×List bT0×List (Int×Int×Int×List bT0)
abbrev bU1:=List bT2
abbrev bU5:=List bJ4
abbrev bU8:=List ac
abbrev bU9:=Int×Int×Int×Int
abbrev bV1:=Int×Int×Int×Int×Int×Int×Int×Int
abbrev bV2:=List (Int×Int×Int)
abbrev bV4:=Int×ac×bT2×Int
def bI4:Ct:=⟨[.val (.sl bq),.val cI],[.box 88 j7],λd=>[0<=d.2.1],λd=>(((if (d.1.length:Int)<=d.2.1 then d.1 else d.1.take d.2.1.toNat,0),()),())⟩
def aI(a:Int):=a<=9223372036854775807
def aq(a:Int):=(-9223372036854775808)<=a/\aI a
def aD(a b:Int):=0<=a/\a<=b
def aV(a:ac):=a.length<=maxLen/\ ∀(b:Int),b∈a->aD b 255
def ao(a:Int)(b c:Prop):=0<=a/\b/\c
def ai(a:Prop):=a/\True
def bM(a b:Int)(c d:Prop):=ao a (a<=b) (c/\d)
def av(a b:Int):=decide (a<b)
theorem bn7:
 ∀(a:ac)(b:Int),aV a/\ai (aq b)->0<=b->au (av b (ae a)) (bM 0 b (b<=ae a) ((fA a (Int.toNat 0) b.toNat,(0:Int))=(if ae a<=b then a else take b.toNat a,(0:Int)))) ((a,(0:Int))=(if ae a<=b then a else take b.toNat a,(0:Int))):= by
  delta ae aq aI aV ao ai aD bM av
  rintro x y ⟨-,⟨h0,h1⟩,-⟩ h
  refine bP (λhb=>?_) (λhb=>?_)
  .refine⟨ab,h,ab,?_⟩
   rw[ah ab]
   simp[fA]
  .rw[aj ab]
theorem VZ:aB 5 bI4.spec:=aF Tryz.func5 aC aS bn7
def bK4:Cn:=⟨[.box 88 j7,.val cI],[.val cI],λd=>[bH d.1,d.2.1<=256],λd y=>0<=y.1.1/\(y.1.1<d.2.1∨y.1.1=0)/\bH y.2.1,λd h=>⟨((0,()),(d.1,())),by simp,by simp,h.1⟩⟩
def aT(a:Prop):=ai (a->a)
def bO(a:Bool):=!a->aT ( !a)
def bn(a b:Bool):=bif a then true else b
def br(a:Bool):=a=false-> !a
def jW(a b:Bool)(c d:Prop):=bO a/\br a/\au b c d
def nt(a b:Bool)(c d:Prop):=∀(e:Bool),e=a->jW e (bn e b) c d
def HY(a:Int)(b:ac)(c:Int):=a≠0/\ao (Int.tmod (ap (af b c)) a) (Int.tmod (ap (af b c)) a<a∨Int.tmod (ap (af b c)) a=0) (bH (b,ap (c+1)))
def fw(a b:Int)(c:Bool)(d e:Prop):=ao a (a<b) (au c d e)
theorem bH8:
 ∀(a:ac)(b c:Int),(aV a/\aq b)/\ai (aq c)->bH (a,b)/\c<=256->nt (decide (ae a<=b)) (av c 1) (ao 0 (0<c∨(0:Int)=(0:Int)) (bH (a,b))) (fw b (ae a) (av 256 c) False (HY c a b)):= by
  delta af ae ap aq aI bO aV aT bn ao br nt ai aD av HY jW fw
  rintro l p n ⟨⟨⟨hl,hw⟩,h0,h1⟩,⟨h2,h3⟩,-⟩⟨⟨hc1,hc2⟩,hn⟩
  simp only[maxLen] at hl hc1 hc2
  (repeat (refine dq ?_;repeat refine dm ?_))
  refine ay (λhb=>?_) (λhb=>?_)
  .exact⟨ab,aw,hc1,hc2⟩
  .simp at hb
   obtain⟨hb1,hb2⟩:=hb
   obtain⟨hm0,hm1⟩:=hw _ (cA hc1 hb1)
   rw[aL ab ab,aL ab ab]
   refine⟨hc1,hb1,bP (λhb=>?_) (λhb=>?_)⟩
   .have:=hb;omega
   .exact⟨ab,yu hm0,.inl (yq hm0 ab),by simp only[bH];omega⟩
theorem ag7:aB 22 bK4.spec:=nB Tryz.func22 aC aS bH8
def bw6:Cn:=⟨[.box 88 j7,.val cI],[.val cI],λd=>[bH d.1],λd y=>0<=y.1.1/\(y.1.1<d.2.1∨y.1.1=0)/\bH y.2.1,λd h=>⟨((0,()),(d.1,())),by simp,by simp,h.1⟩⟩
theorem a90:
 ∀(a:ac)(b c:Int),(aV a/\aq b)/\ai (aq c)->aD b (ae a)->nt (decide (ae a<=b)) (av c 1) (ao 0 (0<c∨(0:Int)=(0:Int)) (bH (a,b))) (fw b (ae a) (av 256 c) (bH (a,ap (b+1))/\(256:Int)<=(256:Int)/\ ∀(d:Int)(e:ac)(f:Int),ao d (d<256∨d=0) (bH (e,f))->c≠0/\ao (Int.tmod (ap (ap (256*ap (af a b))+d)) c) (Int.tmod (ap (ap (256*ap (af a b))+d)) c<c∨Int.tmod (ap (ap (256*ap (af a b))+d)) c=0) (bH (e,f))) (HY c a b)):= by
  delta af ae ap aq aI bO aV aT bn ao br nt ai aD av HY jW fw
  rintro l p n ⟨⟨⟨hl,hw⟩,h0,h1⟩,⟨h2,h3⟩,-⟩⟨hc1,hc2⟩
  simp only[maxLen] at hl hc1 hc2
  (repeat (refine dq ?_;repeat refine dm ?_))
  refine ay (λhb=>?_) (λhb=>?_)
  .exact⟨ab,aw,hc1,hc2⟩
  .simp at hb
   obtain⟨hb1,hb2⟩:=hb
   obtain⟨hm0,hm1⟩:=hw _ (cA hc1 hb1)
   rw[aL ab ab,aL (n:=l.getD p.toNat default) ab ab]
   refine⟨hc1,hb1,ay (λhb=>?_) (λhb=>?_)⟩
   .refine⟨by simp only[bH];omega,ab,?_⟩
    rintro r l2 p2 ⟨hr0,hr1,hr2⟩
    rw[aL (n:=256*_) ab ab,aL ab ab]
    exact⟨ab,yu ab,.inl (yq ab ab),hr2⟩
   .exact⟨ab,yu hm0,.inl (yq hm0 ab),by simp only[bH];omega⟩
theorem Ka:aB 22 bw6.spec:=nB Tryz.func22 (am aC ag7) aS a90
open Go.SX
def xs(k a:Nat):Nat:=a ^^^ a/2^k
def mu(c a:Nat):Nat:=a*c%18446744073709551616
def HR(x:Nat):Nat:=xs 31 (mu 10723151780598845931 (xs 27 (mu 13787848793156543929 (xs 30 ((x+11400714819323198485)%18446744073709551616)))))
def oz(x:Int):Int:=(HR x.toNat:Int)
theorem bD2{k a:Nat}(ha:a<18446744073709551616):xs k a<18446744073709551616:=by
 have h1:a<2^64:=ab
 have h2:a/2^k<2^64:=Nat.lt_of_le_of_lt (Nat.div_le_self _ _) h1
 have h3:a ^^^ a/2^k<2^64:=Nat.xor_lt_two_pow h1 h2
 unfold xs
 omega
theorem MD{c a:Nat}:mu c a<18446744073709551616:=by unfold mu;omega
theorem aS1(x:Nat):HR x<18446744073709551616:=by
 unfold HR
 exact bD2 MD
theorem QD(x:Int):0<=oz x/\oz x<=18446744073709551615:=by
 have:=aS1 x.toNat
 unfold oz
 omega
theorem PC(n:Nat):IntKind.u64.wrap (n:Int)=((n%18446744073709551616:Nat):Int):=by
 rw[IntKind.wrap_u64,Int.natCast_emod]
 rfl
theorem av8(n k:Nat)(hk:k<=64):fy .u64 (n:Int) (k:Int)=((n/2^k:Nat):Int):=by
 unfold fy
 have:min (k:Int).toNat IntKind.u64.bits=k:=by simp only[IntKind.bits,Int.toNat_natCast];omega
 rw[this,Fm _ (Int.le_of_lt (Int.pow_pos bo)),Int.natCast_ediv,Int.natCast_pow]
 rfl
theorem Nr(n k:Nat)(hk:k<=64)(hn:n<18446744073709551616):bits .xor .u64 (n:Int) (fy .u64 (n:Int) (k:Int))=(xs k n:Int):=by
 rw[av8 n k hk]
 exact bits_xor_u64_nat _ _ hn (Nat.lt_of_le_of_lt (Nat.div_le_self _ _) hn)
theorem WY(n c:Nat):IntKind.u64.wrap ((n:Int)*(c:Int))=(mu c n:Int):=by
 rw[← Int.natCast_mul,PC];rfl
end Go.RS
namespace Go.RS
open Go.SX Go.Proofs
def aK4:Ct:=⟨[.val OF],[.val OF],λ_=>[],λd=>((oz d.1,()),())⟩
def Ph(a:Int):=IntKind.wrap IntKind.u64 (bits BinOp.xor IntKind.u64 (IntKind.wrap IntKind.u64 (a+11400714819323198485)) (fy IntKind.u64 (IntKind.wrap IntKind.u64 (a+11400714819323198485)) 30)*13787848793156543929)
def ft(a b:Prop):=ai a->True->b
def NS(a:Int):=IntKind.wrap IntKind.u64 (bits BinOp.xor IntKind.u64 (Ph a) (fy IntKind.u64 (Ph a) 27)*10723151780598845931)
theorem aj1:
 ∀(a:Int),ft (aD a 18446744073709551615) (ao 30 ((0:Int)<=(27:Int)) ((0:Int)<=(31:Int)/\bits BinOp.xor IntKind.u64 (NS a) (fy IntKind.u64 (NS a) 31)=oz a)):= by
  delta ao Ph ai aD ft NS
  rintro x ⟨⟨h0,h1⟩,-⟩ -
  refine⟨bo,bo,bo,?_⟩
  have h0:0<=x:=h0
  obtain⟨n,rfl⟩:=sC h0
  have e0:IntKind.u64.wrap ((n:Int)+11400714819323198485)=(((n+11400714819323198485)%18446744073709551616:Nat):Int):=PC (n+11400714819323198485)
  have hm:(n+11400714819323198485)%18446744073709551616<18446744073709551616:=ab
  have e1:=Nr _ 30 bo hm
  have e2:=WY (xs 30 ((n+11400714819323198485)%18446744073709551616)) 13787848793156543929
  have e3:=Nr _ 27 bo (MD (c:=13787848793156543929) (a:=xs 30 ((n+11400714819323198485)%18446744073709551616)))
  have e4:=WY (xs 27 (mu 13787848793156543929 (xs 30 ((n+11400714819323198485)%18446744073709551616)))) 10723151780598845931
  have e5:=Nr _ 31 bo (MD (c:=10723151780598845931) (a:=xs 27 (mu 13787848793156543929 (xs 30 ((n+11400714819323198485)%18446744073709551616)))))
  have c1:((30:Nat):Int)=30:=rfl
  have c2:((27:Nat):Int)=27:=rfl
  have c3:((31:Nat):Int)=31:=rfl
  have c4:((13787848793156543929:Nat):Int)=13787848793156543929:=rfl
  have c5:((10723151780598845931:Nat):Int)=10723151780598845931:=rfl
  rw[c1] at e1
  rw[c4] at e2
  rw[c2] at e3
  rw[c5] at e4
  rw[c3] at e5
  rw[e0,e1,e2,e3,e4,e5]
  unfold oz HR
  rw[Int.toNat_natCast]
theorem Wn:aB 207 aK4.spec:=aF Tryz.func207 aC aS aj1
abbrev kx:Type:=Int×Int×Int×Int×Int
def BW(h x:Int):Int:=oz (bits .xor .u64 h (IntKind.wrap .u64 x))
def rO(seed:Int)(k:kx):Int:=BW (BW (BW (BW (BW (oz (IntKind.wrap .u64 seed)) k.1) k.2.1) k.2.2.1) k.2.2.2.1) k.2.2.2.2
theorem EH(s:Int)(k:kx):0<=rO s k/\rO s k<=18446744073709551615:=QD _
def Ew(seed:Int)(k:kx)(j:Int):Int:=([k.1,k.2.1,k.2.2.1,k.2.2.2.1,k.2.2.2.2].take j.toNat).foldl BW (oz (IntKind.wrap .u64 seed))
def Rw:Ct:=⟨[.val cI,.agg O3],[.val OF],λ_=>[],λd=>((rO d.1 d.2.1,()),())⟩
def YJ:bp Rw.ps->bI:=(λd=>{loops:=(bt 3 (λS=>{ι:=Int×Int,qn:=eO,μ:=λi=>(5-i.1).toNat,inv:=λi=>0<=i.1/\i.1<=5/\i.2=Ew d.1 d.2.1 i.1,keep:=[23],slots:=λi=>[(5,.int .u64 i.2),(24,.int .i64 i.1)]}) bZ)})
def aQ(a:Int):=aD a 4294967295
def aA(a:Int)(b c:Prop):=a=a/\b/\c
def aU(a b:Int)(c d:Prop):=aA a (b=b) (c/\d)
def cu(a b:Int):=a.toNat<b.toNat
def aZ(a b c:Int):=cu (a -b) (a -c)
def bN(a:Int):=[a]
def aY(a b:Int):=ap (a+1)=b
def ce(a b c d e:Int)(f g:Prop):=aU a b (c=c) (aU d e f g)
def fB(a b c:Int):=aq a/\aq b/\aq c
theorem bx4:
 ∀(a b c d e f:Int),aq a/\ai (aQ b/\aQ c/\fB d e f)->True->(∃(g h:Int),ao g (g<=5) (h=Ew a (b,c,d,e,f) g)/\oz (IntKind.wrap IntKind.u64 a)=h/\ce (ap b) (ap c) d e f (0=g) True)/\ ∀(g h:Int),ao g (g<=5) (h=Ew a (b,c,d,e,f) g)->au (av g 5) (ao g (g<(↑((5:Nat)):Int)) (∃(i j:Int),ao i (i<=5) (j=Ew a (b,c,d,e,f) i)/\aZ 5 i g/\oz (bits BinOp.xor IntKind.u64 h (IntKind.wrap IntKind.u64 (SX.pickI (ap b::ap c::d::e::bN f) g.toNat)))=j/\ce (ap b) (ap c) d e f (aY g i) True)) (h=rO a (b,c,d,e,f)):= by
  delta ap aq aI aQ aU aA aZ cu ao bN aY ce ai aD av fB
  rintro x a b c e f ⟨-,⟨⟨a0,a1⟩,⟨b0,b1⟩,⟨c0,c1⟩,⟨e0,e1⟩,f0,f1⟩,-⟩ -
  refine⟨⟨0,_,⟨ab,ab,rfl⟩,aK⟩,?_⟩
  rintro j h ⟨h0,h1,rfl⟩
  refine bP (λhj=>?_) (λhj=>?_)
  .refine⟨h0,ab,j+1,Ew x (a,b,c,e,f) (j+1),⟨ab,ab,rfl⟩,ab,?_,rfl,rfl,rfl,rfl,rfl,aL ab ab,aN⟩
   rw[aL (n:=a) ab ab,aL (n:=b) ab ab]
   have:j=0∨j=1∨j=2∨j=3∨j=4:=ab
   rcases this with rfl|rfl|rfl|rfl|rfl <;> rfl
  .have:j=5:=ab
   subst this
   rfl
theorem W9:aB 330 Rw.spec:=aF Tryz.func330 (am aC Wn) YJ bx4
def qt(way seed:Int)(k:kx)(count n:Int):Int×Int :=
 if n<1∨16<n∨count<0∨way<1∨3<way then (0,1) else
  (if way=1 then (rO seed k).tmod n else if way=2 then (rO seed (k.1,k.2.1,0,0,0)).tmod n else count.tmod n,0)
def at7:Ct:=⟨[.val cI,.val cI,.agg O3,.val cI,.val cI],[.val cI,.val cI],λ_=>[],λd=>(((qt d.1 d.2.1 d.2.2.1 d.2.2.2.1 d.2.2.2.2.1).1,(qt d.1 d.2.1 d.2.2.1 d.2.2.2.1 d.2.2.2.2.1).2,()),())⟩
def bG(a b:Int)(c d:Prop):=aq a/\aq b/\c/\d
def dI(a b:Int):=aq a/\ai (aq b)
def dw(a:Int):=av a 0
def HX(a b c d e:Int)(f:kx)(g:Int):=IntKind.wrap IntKind.u64 a≠0/\ap (Int.tmod b c)=(qt d e f g a).1/\0=(qt d e f g a).2
def zZ(a b c:Bool)(d e:Prop):=∀(f:Bool),f=a->bO f/\br f/\nt (bn f b) c d e
def iO(a:Int):=decide (a=1)
theorem aZ3:
 ∀(a b c d e f g h i:Int),bG a b (aQ c/\aQ d/\fB e f g) (dI h i)->True->zZ (av i 1) (av 16 i) (dw h) (0=(qt a b (c,d,e,f,g) h i).1/\1=(qt a b (c,d,e,f,g) h i).2) (au (iO a) (HX i (rO b (c,d,e,f,g)) (IntKind.wrap IntKind.u64 i) a b (c,d,e,f,g) h) (au (decide (a=2)) (HX i (rO b (c,d,0,0,0)) (IntKind.wrap IntKind.u64 i) a b (c,d,e,f,g) h) (au (decide (a=3)) (HX i (IntKind.wrap IntKind.u64 h) (IntKind.wrap IntKind.u64 i) a b (c,d,e,f,g) h) (0=(qt a b (c,d,e,f,g) h i).1/\1=(qt a b (c,d,e,f,g) h i).2)))):= by
  delta ap aq aI bO aQ aT bG bn br nt dI ai aD dw av HX zZ jW iO fB
  rintro x s a b c e f cnt n ⟨-,-,-,⟨c0,c1⟩,⟨n0,n1⟩,-⟩ -
  (repeat (refine dq ?_;repeat refine dm ?_))
  refine ay (λh=>?_) (λh=>?_)
  .simp at h
   unfold qt;rw[aj ab];exact⟨rfl,rfl⟩
  .simp at h
   rw[U3 (n:=n) ab ab]
   have hr:∀ k,0<=(rO s k).tmod n/\(rO s k).tmod n<n:=λk=>⟨yu (EH _ _).1,yq (EH _ _).1 ab⟩
   unfold qt
   refine ay (λhx=>?_) (λhx=>ay (λhy=>?_) (λhy=>ay (λhz=>?_) (λhz=>?_)))
   .simp at hx
    subst hx
    have:=hr (a,b,c,e,f)
    rw[ah ab,aj rfl,aL ab ab]
    exact⟨ab,rfl,rfl⟩
   .simp at hx hy
    subst hy
    have:=hr (a,b,0,0,0)
    rw[ah ab,ah ab,aj rfl,aL ab ab]
    exact⟨ab,rfl,rfl⟩
   .simp at hx hy hz
    subst hz
    have q0:=yu (b:=n) (a:=cnt) ab
    have q1:=yq (b:=n) (a:=cnt) ab ab
    rw[ah ab,ah ab,ah ab,U3 (n:=cnt) ab ab,aL ab ab]
    exact⟨ab,rfl,rfl⟩
   .simp at hx hy hz
    rw[aj ab]
    exact⟨rfl,rfl⟩
theorem ag4:aB 324 at7.spec:=aF Tryz.func324 (am aC W9) aS aZ3
abbrev wB:CT := .pair db cI
abbrev ar1:CT := .pair db cI
abbrev Xt:CT := .pair ar1 (.pair (.sl cI) cI)
abbrev dK:CT := .pair (.sl wB) (.pair db (.pair cI (.pair .bool (.pair (.sl Xt) (.pair cI (.pair db (.pair cI (.pair cI (.pair cI (.pair xU (.pair .bool (.pair .bool (.pair cI cI)))))))))))))
abbrev pi:CT := .pair (.sl Xt) (.pair cI (.pair (.sl cI) (.pair xF cI)))
abbrev bt3:Type:=Int×Int
abbrev ci:Type:=bt3×ac×Int
abbrev ar:Type:=List bT2×Int×Int×Bool×List ci×Int×Int×Int×Int×Int×bT2×Bool×Bool×Int×Int
abbrev NState:Type:=List ci×Int×ac×bT2×Int
def aM(n:ar):=n.1
def kT(n:ar):=n.2.1
def Ur(n:ar):=n.2.2.1
def pv(n:ar):=n.2.2.2.1
def bL(n:ar):=n.2.2.2.2.1
def oJ(n:ar):=n.2.2.2.2.2.1
def uf(n:ar):=n.2.2.2.2.2.2.1
def uJ(n:ar):=n.2.2.2.2.2.2.2.1
def pC(n:ar):=n.2.2.2.2.2.2.2.2.1
def CK(n:ar):=n.2.2.2.2.2.2.2.2.2.1
def mw(n:ar):=n.2.2.2.2.2.2.2.2.2.2.1
def oH(n:ar):=n.2.2.2.2.2.2.2.2.2.2.2.1
def gG(n:ar):=n.2.2.2.2.2.2.2.2.2.2.2.2.1
def lN(n:ar):=n.2.2.2.2.2.2.2.2.2.2.2.2.2.1
def GU(n:ar):=n.2.2.2.2.2.2.2.2.2.2.2.2.2.2
def cR(s:NState):=s.1
def sA(s:NState):=s.2.1
def mE(s:NState):=s.2.2.1
def wD(s:NState):=s.2.2.2.1
def pf(s:NState):=s.2.2.2.2
theorem EU(n:Int):bits .and .i64 n 65535=n%65536:=by
 have h127:(BitVec.ofInt 64 65535).toNat=2^16-1:=bo
 have key:(BitVec.ofInt 64 n &&& BitVec.ofInt 64 65535).toNat=(n%((2^64:Nat):Int)).toNat%2^16:=by
  rw[BitVec.toNat_and,BitVec.toNat_ofInt,h127,Es]
 show IntKind.i64.wrap ((BitVec.ofInt 64 n &&& BitVec.ofInt 64 65535).toNat:Nat)=n%65536
 rw[key,IntKind.wrap_i64]
 omega
theorem am6{n:Int}(h0:0<=n)(h1:n<=18446744073709551615):bits .and .u64 n 65535=n%65536:=by
 rw[u64_and n 65535 h0 ab bo bo]
 have:(n.toNat &&& Int.toNat 65535)=n.toNat%65536:=Es n.toNat 16
 rw[this];omega
def vM(speed a:Int):Int:=if speed<0∨1000000<speed∨a<0∨1125899906842624<a then 0 else speed*(a/1000000)+speed*(a%1000000)/1000000
theorem bs6{speed a:Int}:0<=vM speed a/\vM speed a<=2251799813685248:=by
 unfold vM
 split
 .omega
 next h=>have a1:0<=a/1000000:=ab;have a2:a/1000000<=1125899907:=ab;have a3:0<=a%1000000:=ab;have a4:a%1000000<=999999:=ab;have b1:0<=speed*(a/1000000):=Int.mul_nonneg ab a1;have b2:speed*(a/1000000)<=1000000*1125899907:=Int.mul_le_mul ab a2 a1 ab;have b3:0<=speed*(a%1000000):=Int.mul_nonneg ab a3;have b4:speed*(a%1000000)<=1000000*999999:=Int.mul_le_mul ab a4 a3 ab;omega
theorem ap8{x a:Int}(h:¬ (x<0∨1000000<x∨a<0∨1125899906842624<a)) :
  IntKind.wrap IntKind.i64 (IntKind.wrap IntKind.i64 (x*IntKind.wrap IntKind.i64 (Int.tdiv a 1000000))+IntKind.wrap IntKind.i64 (Int.tdiv (IntKind.wrap IntKind.i64 (x*Int.tmod a 1000000)) 1000000))=vM x a:=by
 have h2:=bs6 (speed:=x) (a:=a)
 unfold vM at h2 ⊢
 rw[ah h] at h2 ⊢
 have a1:0<=a/1000000:=ab
 have a2:a/1000000<=1125899907:=ab
 have a3:0<=a%1000000:=ab
 have a4:a%1000000<=999999:=ab
 have b1:0<=x*(a/1000000):=Int.mul_nonneg ab a1
 have b2:x*(a/1000000)<=1000000*1125899907:=Int.mul_le_mul ab a2 a1 ab
 have b3:0<=x*(a%1000000):=Int.mul_nonneg ab a3
 have b4:x*(a%1000000)<=1000000*999999:=Int.mul_le_mul ab a4 a3 ab
 rw[KG (show 0<=a by omega),Gn (show 0<=a by omega),aL (n:=a/1000000) ab ab,aL (n:=x*(a/1000000)) ab ab,
  aL (n:=x*(a%1000000)) ab ab,KG b3,aL (n:=x*(a%1000000)/1000000) ab ab,aL ab ab]
def bh5:Ct:=⟨[.val cI,.val cI],[.val cI],λ_=>[],λd=>((vM d.1 d.2.1,()),())⟩
def tc(a:Int):=av 1125899906842624 a
def vz(a b:Int):=ap (ap a+ap b)
theorem bl2:
 ∀(a b:Int),dI a b->True-> ∀(c:Bool),c=dw a->bO c/\br c/\zZ (bn c (av 1000000 a)) (dw b) (tc b) (0=vM a b) ((1000000:Int)≠(0:Int)/\(1000000:Int)≠(0:Int)/\(1000000:Int)≠(0:Int)/\vz (a*ap (Int.tdiv b 1000000)) (Int.tdiv (ap (a*Int.tmod b 1000000)) 1000000)=vM a b):= by
  delta ap aq aI bO aT bn br nt dI ai dw av zZ tc jW vz
  rintro x a - -
  (repeat (refine dq ?_;repeat refine dm ?_))
  refine ay (λh=>?_) (λh=>?_)
  .simp at h
   unfold vM;rw[aj ab]
  .simp at h
   refine⟨ab,ab,ab,ap8 ab⟩
theorem ai9:aB 329 bh5.spec:=aF Tryz.func329 aC aS bl2
def Qa(n:ar):Bool:=decide (0<=uJ n/\uJ n<=5/\0<=pC n/\pC n<=65535/\0<=CK n/\CK n<=1000000)
def pU(n:ar):Int:=if Qa n then 0 else 1
def ax5:Ct:=⟨[.agg dK],[.val cI],λ_=>[],λd=>((pU d.1,()),())⟩
def cX(a:Bool)(b c:Prop):=bO a/\bO a/\b/\c
def lw(a b:Bool)(c d:Prop):=∀(e:Bool),e=a->cX e (br e) (au (bn e b) c d)
def Dj(a b c d:Bool)(e f:Prop):=∀(g:Bool),g=a->cX g (br g) (∀(h:Bool),h=bn g b->cX h (br h) (lw (bn h c) d e f))
def CE(a b c d e:Bool)(f g:Prop):=∀(h:Bool),h=a->cX h (br h) (Dj (bn h b) c d e f g)
theorem aJ8:
 ∀(a:ar),ft (CT.wf dK a) (∀(b:Bool),b=dw a.2.2.2.2.2.2.2.1->cX b (br b) (CE (bn b (av 5 a.2.2.2.2.2.2.2.1)) (dw a.2.2.2.2.2.2.2.2.1) (av 65535 a.2.2.2.2.2.2.2.2.1) (dw a.2.2.2.2.2.2.2.2.2.1) (av 1000000 a.2.2.2.2.2.2.2.2.2.1) (1=pU a) (0=pU a))):= by
  delta bO aT bn cX br lw ai CE Dj dw av ft
  rintro d - -
  (repeat (refine dq ?_;repeat refine dm ?_))
  unfold pU Qa uJ pC CK
  generalize d.2.2.2.2.2.2.2.1=i
  generalize d.2.2.2.2.2.2.2.2.1=b
  generalize d.2.2.2.2.2.2.2.2.2.1=s
  refine ay (λh=>?_) (λh=>?_)
  .simp at h
   rw[ah (by simp;omega)]
  .simp at h
   rw[aj (by simp;omega)]
theorem aa5:aB 247 ax5.spec:=aF Tryz.func247 aC aS aJ8
abbrev wI(n:Int):Int:=IntKind.i64.wrap n
def aN3(n:ar)(sent a:Int):Int:=wI (wI (pC n+sent)+vM (CK n) a)
def uV(n:ar)(sent a:Int):Int:=aN3 n sent a%65536
def aC2:Ct:=⟨[.val cI,.box 117 dK,.box 3 cI],[.val cI],λ_=>[],λd=>((uV d.2.1 d.1 d.2.2.1,()),(d.2.1,d.2.2.1,()))⟩
theorem bo8:
 ∀(a:Int)(b:ar)(c:Int),aq a/\CT.wf dK b/\ai (aq c)->True->bits BinOp.and IntKind.i64 (ap (ap (b.2.2.2.2.2.2.2.2.1+a)+vM b.2.2.2.2.2.2.2.2.2.1 c)) 65535=uV b a c/\b=b/\c=c:= by
  delta ap aq aI ai
  rintro x d a - -
  exact⟨EU _,rfl,rfl⟩
theorem bS7:aB 328 aC2.spec:=aF Tryz.func328 (am aC ai9) aS bo8
def oP(n:ar)(s:NState)(port a asked dst:Int):Int :=
 if uJ n=1 then pC n else if uJ n=2 then uV n (sA s) a
 else if uJ n=3 then (if port<0∨(mE s).length<=port then uV n 0 a else uV n ((mE s).getD port.toNat default) a)
 else if uJ n=4 then asked else if uJ n=5 then rO (pC n) (0,dst,0,sA s,0)%65536 else 0
def bx5:Ct:=⟨[.agg dK,.agg pi,.val cI,.val cI,.val cI,.val db],[.val cI],λ_=>[],λd=>((oP d.1 d.2.1 d.2.2.1 d.2.2.2.1 d.2.2.2.2.1 d.2.2.2.2.2.1,()),())⟩
def cB(a:ac):=a.length<=maxLen/\ ∀(b:Int),b∈a->aq b
def cS(a b:Int)(c:ac)(d:Int):=(aQ a/\aq b)/\cB c/\aq d
def cO(a:List ci):=a.length<=maxLen/\ ∀(b:ci),b∈a->cS b.1.1 b.1.2 b.2.1 b.2.2
def d7(a:Prop):=(a->a)/\aT a
def fZ(a:Bool):=!a->d7 ( !a)
def gM(a:List ci)(b:Int)(c:ac)(d e f:Int):=cO a/\aq b/\cB c/\(aq d/\aq e)/\aq f
theorem ak6:
 ∀(a:ar)(b:List ci)(c:Int)(d:ac)(e f g h i j k:Int),CT.wf dK a/\gM b c d e f g/\bG h i (aq j) (ai (aQ k))->True->au (iO a.2.2.2.2.2.2.2.1) (a.2.2.2.2.2.2.2.2.1=oP a (b,c,d,(e,f),g) h i j k) (au (decide (a.2.2.2.2.2.2.2.1=2)) (uV a c i=oP a (b,c,d,(e,f),g) h i j k) (au (decide (a.2.2.2.2.2.2.2.1=3)) (∀(l:Bool),l=dw h->cX l (fZ l) (br l/\au (bn l (decide (ae d<=h))) (uV a 0 i=oP a (b,c,d,(e,f),g) h i j k) (ao h (h<ae d) (uV a (af d h) i=oP a (b,c,d,(e,f),g) h i j k)))) (au (decide (a.2.2.2.2.2.2.2.1=4)) (j=oP a (b,c,d,(e,f),g) h i j k) (au (decide (a.2.2.2.2.2.2.2.1=5)) (ap (bits BinOp.and IntKind.u64 (rO a.2.2.2.2.2.2.2.2.1 (0,k,0,c,0)) 65535)=oP a (b,c,d,(e,f),g) h i j k) (0=oP a (b,c,d,(e,f),g) h i j k))))):= by
  delta af ae ap aq aI bO aQ aT cO cS cB bG bn cX ao br fZ gM ai aD dw d7 av iO
  rintro d r se ps t1 t2 ba port a asked dst - -
  unfold oP uJ pC sA mE
  simp only
  refine ay (λh=>?_) (λh=>?_)
  .rw[aj (aX h)]
  have h1:=bi h
  rw[ah h1]
  refine ay (λh=>?_) (λh=>?_)
  .rw[aj (aX h)]
  have h2:=bi h
  rw[ah h2]
  refine ay (λh=>?_) (λh=>?_)
  .rw[aj (aX h)]
   (repeat (refine dq ?_;repeat refine dm ?_))
   refine ay (λh=>?_) (λh=>?_)
   .simp at h
    rw[aj h]
   .simp at h
    exact⟨ab,ab,by rw[ah ab]⟩
  have h3:=bi h
  rw[ah h3]
  refine ay (λh=>?_) (λh=>?_)
  .rw[aj (aX h)]
  have h4:=bi h
  rw[ah h4]
  refine bP (λh=>?_) (λh=>?_)
  .rw[aj h]
   have hr:=EH d.2.2.2.2.2.2.2.2.1 (0,dst,0,se,0)
   rw[am6 hr.1 hr.2,aL ab ab]
  .rw[ah h]
theorem T8:aB 319 bx5.spec:=aF Tryz.func319 (am (am aC bS7) W9) aS ak6
end Go.RS
