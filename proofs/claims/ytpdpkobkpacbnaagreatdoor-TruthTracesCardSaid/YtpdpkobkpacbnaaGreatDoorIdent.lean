/- SX, part 21: a function's contract, off its symbolic run. -/
import Derived.Test.YtpdpkobkpacbnaaGreatDoorSx20
import Derived.Laws.Sem
import Derived.Laws.NewBlocks
import Derived.ProofKit
import Derived.OpenShut
import Derived.ChangeOld
import Derived.Below
import Derived.KernelRfl
import Derived.Test.YtpdpkobkpacbnaaGreatDoorSx9
import Derived.Test.YtpdpkobkpacbnaaGreatDoorChecked
import Derived.Laws.Bits64
import Derived.Laws.Bits128
import Derived.Laws.BitsAllLaws
set_option maxRecDepth 100000
set_option linter.unusedVariables false
open Int (toNat)
open List (take getD)
namespace Go.SX
def CT.plain:CT->Bool
 | .sl _=>false
 | .pair a b=>a.plain&&b.plain
 | _=>true
theorem Kn{A A':Nat->Prop}{w w':World}:∀{t:CT}{cv:Nat->Option Value}{o:Nat}{d:t.D},t.plain=true->Rd A w t cv o d->Rd A' w' t cv o d
 | .int k,cv,o,d,_,h=>h
 | .bool,cv,o,d,_,h=>h
 | .str,cv,o,d,_,h=>h
 | .pair a b,cv,o,d,e,h=>by
  simp only[CT.plain,dM] at e;exact⟨Kn e.1 h.1,Kn e.2 h.2⟩
theorem CP{A A':Nat->Prop}{w:World}{t:CT}{cv:Nat->Option Value}{o:Nat}{d:t.D}(L:t.plain=true∨∀ b,A b->A' b)(h:Rd A w t cv o d):Rd A' w t cv o d:=by
 rcases L with L|L
 .exact Kn L h
 .exact ik L (λ_ _ _=>rfl) t _ _ _ _ (λ_ _=>rfl) h
inductive RK where
 | val (t:CT)
 | agg (o:OT)
 | own (E:TypeId) (t:CT)
 | box (E:TypeId) (o:OT)
 | fn (f:FuncId) (k:Nat)
@[reducible] def RK.D:RK->Type
 | .val t=>t.D
 | .agg o=>o.X
 | .own _ t=>List t.D
 | .box _ o=>o.X
 | .fn _ _=>Unit
@[reducible] def jC:List RK->Type
 | []=>Unit
 | p::r=>p.D×jC r
@[reducible] def gz:List PK->Type
 | []=>Unit
 | .val _::r=>gz r
 | .agg _::r=>gz r
 | .own _ _::r=>gz r
 | .ago _::r=>gz r
 | .fn _ _::r=>gz r
 | .nils::r=>gz r
 | .box _ o::r=>o.X×gz r
 | .row _ t::r=>List t.D×gz r
def OT.plain:OT->Bool
 | .dat t=>t.plain
 | .row _ t=>t.plain
 | .rowg _ _=>true
 | .fnc _=>true
 | .ali=>true
 | .ref _ o=>o.plain
 | .pair a b=>a.plain&&b.plain
def td:List RK->Bool
 | []=>true
 | .val t::r=>t.plain&&td r
 | .agg o::r=>o.plain&&td r
 | .own _ t::r=>t.plain&&td r
 | .box _ o::r=>o.plain&&td r
 | .fn _ _::r=>td r
def mO:List PK->Bool
 | []=>true
 | .val _::r=>mO r
 | .agg _::r=>mO r
 | .own _ _::r=>mO r
 | .ago _::r=>mO r
 | .fn _ _::r=>mO r
 | .nils::r=>mO r
 | .box _ o::r=>o.plain&&mO r
 | .row _ t::r=>t.plain&&mO r
structure Ct where
 ps:List PK
 rs:List RK
 pre:bw ps->List Prop
 out:bw ps->jC rs×gz ps
def D8(E:TypeId)(t:CT)(h:bP):List SV->Option (List t.D×List SV×Option Nat)
 | .own m sz::r=>match h m with
  | .live (.row E' t' xs)=>match Nat.beq E E',Nat.beq sz t.size,hY t' t xs with
   | true,true,some ys=>some (ys,r,some m)
   | _,_,_=>none
  | _=>none
 | .nilsl::r=>some ([],r,none)
 | _=>none
def my(h:bP)(al:Bool):(o:OT)->Option Nat->List SV->Option (o.X×List SV×List (Nat×Nm)×List (Option Nat))
 | .dat t,_,cs=>match (jz t cs).run h with
  | some ((x,r,fz),_)=>some (x,r,fz,[])
  | none=>none
 | .row E t,_,cs=>match D8 E t h cs with
  | some (ys,r,o)=>some (ys,r,[],[o])
  | none=>none
 | .rowg _ _,_,_::r=>some ((),r,[],[])
 | .rowg _ _,_,[]=>none
 | .fnc f,_,.fn g []::r=>match Nat.beq f g with
  | true=>some ((),r,[],[])
  | false=>none
 | .fnc _,_,_=>none
 | .ali,_,.ptr m 0::r=>match al,Nat.beq m PN with
  | true,true=>some ((),r,[],[])
  | _,_=>none
 | .ali,_,_=>none
 | .ref E o,some j,.ptr m 0::r=>match Nat.beq m (PN+j),h m with
  | true,.live (.cells E' cs)=>match Nat.beq E E',my h al o (some (j+1)) cs with
   | true,some (x,[],fz,ow)=>some (x,r,fz,ow)
   | _,_=>none
  | _,_=>none
 | .ref _ _,_,_=>none
 | .pair a b,j,cs=>match my h al a j cs with
  | some (x,r,f,w)=>match my h al b (j.map (· + a.nb)) r with
   | some (y,r',f',w')=>some ((x,y),r',f++f',w++w')
   | none=>none
  | none=>none
def mV(al:Bool):(rs:List RK)->List SV->bP->Option (jC rs×List (Nat×Nm)×List (Option Nat))
 | [],[],_=>some ((),[],[])
 | .val t::rs,v::vs,h=>match (jz t [v]).run h with
  | some ((x,[],fz),_)=>match mV al rs vs h with
   | some (y,f,o)=>some ((x,y),fz++f,o)
   | none=>none
  | _=>none
 | .agg t::rs,.agg cs::vs,h=>match my h al t none cs with
  | some (x,[],fz,w)=>match mV al rs vs h with
   | some (y,f,o)=>some ((x,y),fz++f,w++o)
   | none=>none
  | _=>none
 | .own E t::rs,v::vs,h=>match D8 E t h [v] with
  | some (x,_,w)=>match mV al rs vs h with
   | some (y,f,o)=>some ((x,y),f,w::o)
   | none=>none
  | none=>none
 | .box E t::rs,.ptr m 0::vs,h=>match h m with
  | .live (.cells E' cs)=>match Nat.beq E E',my h al t none cs with
   | true,some (x,[],fz,w)=>match mV al rs vs h with
    | some (y,f,o)=>some ((x,y),fz++f,some m::(w++o))
    | none=>none
   | _,_=>none
  | _=>none
 | .fn f k::rs,.fn g cs::vs,h=>match Nat.beq f g,Nat.beq cs.length k with
  | true,true=>match mV al rs (cs++vs) h with
   | some (y,f',o)=>some (((),y),f',o)
   | none=>none
  | _,_=>none
 | _,_,_=>none
def mb:(ps:List PK)->Nat->bP->Option (gz ps×List (Nat×Nm)×List (Option Nat))
 | [],_,_=>some ((),[],[])
 | .val _::ps,j,h=>mb ps j h
 | .agg _::ps,j,h=>mb ps j h
 | .own _ _::ps,j,h=>mb ps j h
 | .ago _::ps,j,h=>mb ps j h
 | .fn _ _::ps,j,h=>mb ps j h
 | .nils::ps,j,h=>mb ps j h
 | .box E t::ps,j,h=>match h (PN+j) with
  | .live (.cells E' cs)=>match Nat.beq E E',my h true t (some (j+1)) cs with
   | true,some (x,[],fz,w)=>match mb ps (j+1+t.nb) h with
    | some (y,f,o)=>some ((x,y),fz++f,w++o)
    | none=>none
   | _,_=>none
  | _=>none
 | .row E t::ps,j,h=>match h (PN+j) with
  | .live (.row E' t' xs)=>match Nat.beq E E',hY t' t xs with
   | true,some ys=>match mb ps (j+1) h with
    | some (y,f,o)=>some ((ys,y),f,o)
    | none=>none
   | _,_=>none
  | _=>none
def wm(n:Nat):List (Option Nat)->Bool
 | []=>false
 | some m::r=>Nat.beq n m||wm n r
 | none::r=>wm n r
def xT(fz:List (Nat×Nm)):List (Option Nat)->Bool
 | []=>true
 | none::r=>xT fz r
 | some m::r=>(Nat.blt m PN||Nat.ble QN m)&&vG m fz && !wm m r&&xT fz r
def Ca:List (Nat×Nm)->Bool
 | []=>true
 | (n,_)::r=>(Nat.blt n PN||Nat.ble QN n)&&Ca r
def nJ(b0:Nat):(o:OT)->o.X->List Nat->Nat->List SV
 | .dat t,x,_,_=>dU t x
 | .row _ t,_,_,n=>[.own n t.size]
 | .rowg _ _,_,_,_=>[.junk]
 | .fnc f,_,_,_=>[.fn f []]
 | .ali,_,_,_=>[.ptr b0 0]
 | .ref _ _,_,bx,_=>match bx with
  | q::_=>[.ptr q 0]
  | []=>[.junk]
 | .pair a b,x,bx,n=>nJ b0 a x.1 bx n++nJ b0 b x.2 (bx.drop a.nb) (n+a.nr)
def mj(b0:Nat):(o:OT)->o.X->List Nat->Nat->List (Nat×Nm)
 | .dat _,_,_,_=>[]
 | .row _ _,_,_,_=>[]
 | .rowg _ _,_,_,_=>[]
 | .fnc _,_,_,_=>[]
 | .ali,_,_,_=>[]
 | .ref E o,x,bx,n=>match bx with
  | q::r=>(q,.live (.cells E (nJ b0 o x r n)))::mj b0 o x r n
  | []=>[]
 | .pair a b,x,bx,n=>mj b0 a x.1 bx n++mj b0 b x.2 (bx.drop a.nb) (n+a.nr)
def rK:(o:OT)->o.X->Nat->List (Nat×Nm)
 | .dat _,_,_=>[]
 | .row E t,x,n=>[(n,.live (.row E t x))]
 | .rowg _ _,_,_=>[]
 | .fnc _,_,_=>[]
 | .ali,_,_=>[]
 | .ref _ o,x,n=>rK o x n
 | .pair a b,x,n=>rK a x.1 n++rK b x.2 (n+a.nr)
def kM(b0:Nat):(rs:List RK)->jC rs->Nat->List SV
 | [],_,_=>[]
 | .val t::rs,d,n=>Au t d.1::kM b0 rs d.2 n
 | .agg o::rs,d,n => .agg (nJ b0 o d.1 [] n)::kM b0 rs d.2 (n+o.nr)
 | .own E t::rs,d,n => .own n t.size::kM b0 rs d.2 (n+1)
 | .box E o::rs,d,n => .ptr n 0::kM b0 rs d.2 (n+1+o.nr)
 | .fn f k::rs,d,n => .fn f ((kM b0 rs d.2 n).take k)::(kM b0 rs d.2 n).drop k
def lU(b0:Nat):(rs:List RK)->jC rs->Nat->List (Nat×Nm)
 | [],_,_=>[]
 | .val t::rs,d,n=>lU b0 rs d.2 n
 | .agg o::rs,d,n=>rK o d.1 n++lU b0 rs d.2 (n+o.nr)
 | .own E t::rs,d,n=>(n,.live (.row E t d.1))::lU b0 rs d.2 (n+1)
 | .box E o::rs,d,n=>(n,.live (.cells E (nJ b0 o d.1 [] (n+1))))::(rK o d.1 (n+1)++lU b0 rs d.2 (n+1+o.nr))
 | .fn _ _::rs,d,n=>lU b0 rs d.2 n
def gF:List RK->Nat
 | []=>0
 | .own _ _::r=>gF r+1
 | .box _ o::r=>gF r+o.nr+1
 | .val _::r=>gF r
 | .agg o::r=>gF r+o.nr
 | .fn _ _::r=>gF r
def jy:List PK->Nat
 | []=>0
 | .val _::r=>jy r
 | .agg _::r=>jy r
 | .own _ _::r=>jy r
 | .ago _::r=>jy r
 | .fn _ _::r=>jy r
 | .nils::r=>jy r
 | .box _ o::r=>jy r+o.nr
 | .row _ _::r=>jy r
def gA(b0:Nat):(ps:List PK)->gz ps->List Nat->Nat->List (Nat×Nm)
 | .val _::ps,d,bx,nb=>gA b0 ps d bx nb
 | .agg _::ps,d,bx,nb=>gA b0 ps d bx nb
 | .own _ _::ps,d,bx,nb=>gA b0 ps d bx nb
 | .ago _::ps,d,bx,nb=>gA b0 ps d bx nb
 | .fn _ _::ps,d,bx,nb=>gA b0 ps d bx nb
 | .nils::ps,d,bx,nb=>gA b0 ps d bx nb
 | .box E o::ps,d,n::bx,nb=>(n,.live (.cells E (nJ b0 o d.1 bx nb)))::(mj b0 o d.1 bx nb++gA b0 ps d.2 (bx.drop o.nb) (nb+o.nr))
 | .row E t::ps,d,n::bx,nb=>(n,.live (.row E t d.1))::gA b0 ps d.2 bx nb
 | _,_,_,_=>[]
def iA:(ps:List PK)->gz ps->Nat->List (Nat×Nm)
 | [],_,_=>[]
 | .val _::ps,d,nb=>iA ps d nb
 | .agg _::ps,d,nb=>iA ps d nb
 | .own _ _::ps,d,nb=>iA ps d nb
 | .ago _::ps,d,nb=>iA ps d nb
 | .fn _ _::ps,d,nb=>iA ps d nb
 | .nils::ps,d,nb=>iA ps d nb
 | .box E o::ps,d,nb=>rK o d.1 nb++iA ps d.2 (nb+o.nr)
 | .row E t::ps,d,nb=>iA ps d.2 nb
def pZ:List (Option Nat)->List (Nat×Nm)
 | []=>[]
 | none::r=>pZ r
 | some n::r=>(n,.dead)::pZ r
def ru:List SV->SV
 | [v]=>v
 | l => .tup l
def Bs(fz:List (Nat×Nm)):List Nat->Bool
 | []=>true
 | n::r=>vG n fz&&Bs fz r
def rB:Nat->Nat->Dl->Q Dl
 | _,0,d => .ret d
 | n,k+1,d => .ask n fun
  | .un=>rB (n+1) k d
  | _ => .fail
def xi(ps:List PK)(rs:List RK):Bool := !(td rs&&mO ps)
def sP(ps:List PK)(rs:List RK)(y:jC rs×gz ps)(base:Nat)(fz:List (Nat×Nm))(bx:List Nat)(cx:List (Option Nat)):List (Nat×Nm) :=
 (gA (bx.headD 0) ps y.2 bx (base+gF rs)++(lU (bx.headD 0) rs y.1 base++(iA ps y.2 (base+gF rs)++pZ cx)))++(match xi ps rs with|true=>fz|false=>[])
def yD(fz:List (Nat×Nm))(bx:List Nat)(cx:List (Option Nat)):Bool:=Bp (bx++jM cx)&&Bs fz (bx++jM cx)&&Nat.ble bx.length PN
def Ct.spec(c:Ct):Spec:=λbase svs=>(gT none c.ps svs).bind λp=>match yD p.2.1 p.2.2.1 p.2.2.2 with
 | true=>rB base (gF c.rs+jy c.ps) (.det (c.pre p.1) (ru (kM (p.2.2.1.headD 0) c.rs (c.out p.1).1 base)) (sP c.ps c.rs (c.out p.1) base p.2.1 p.2.2.1 p.2.2.2))
 | false => .fail
structure Cn where
 ps:List PK
 rs:List RK
 pre:bw ps->List Prop
 post:bw ps->jC rs×gz ps->Prop
 inh:∀ d,bV (pre d)→∃ y,post d y
def wR{X:Type}(b0:Nat):(o:OT)->(X->o.X)->List Nat->Nat->List (Nat×(X->Nm))
 | .dat _,_,_,_=>[]
 | .row _ _,_,_,_=>[]
 | .rowg _ _,_,_,_=>[]
 | .fnc _,_,_,_=>[]
 | .ali,_,_,_=>[]
 | .ref E o,x,bx,n=>match bx with
  | q::r=>(q,λy=>.live (.cells E (nJ b0 o (x y) r n)))::wR b0 o x r n
  | []=>[]
 | .pair a b,x,bx,n=>wR b0 a (λy=>(x y).1) bx n++wR b0 b (λy=>(x y).2) (bx.drop a.nb) (n+a.nr)
def ur{X:Type}:(o:OT)->(X->o.X)->Nat->List (Nat×(X->Nm))
 | .dat _,_,_=>[]
 | .row E t,x,n=>[(n,λy=>.live (.row E t (x y)))]
 | .rowg _ _,_,_=>[]
 | .fnc _,_,_=>[]
 | .ali,_,_=>[]
 | .ref _ o,x,n=>ur o x n
 | .pair a b,x,n=>ur a (λy=>(x y).1) n++ur b (λy=>(x y).2) (n+a.nr)
def nh{X:Type}(b0:Nat):(ps:List PK)->(X->gz ps)->List Nat->Nat->List (Nat×(X->Nm))
 | .val _::ps,d,bx,nb=>nh b0 ps d bx nb
 | .agg _::ps,d,bx,nb=>nh b0 ps d bx nb
 | .own _ _::ps,d,bx,nb=>nh b0 ps d bx nb
 | .ago _::ps,d,bx,nb=>nh b0 ps d bx nb
 | .fn _ _::ps,d,bx,nb=>nh b0 ps d bx nb
 | .nils::ps,d,bx,nb=>nh b0 ps d bx nb
 | .box E o::ps,d,n::bx,nb=>(n,λx=>.live (.cells E (nJ b0 o (d x).1 bx nb)))::(wR b0 o (λx=>(d x).1) bx nb++nh b0 ps (λx=>(d x).2) (bx.drop o.nb) (nb+o.nr))
 | .row E t::ps,d,n::bx,nb=>(n,λx=>.live (.row E t (d x).1))::nh b0 ps (λx=>(d x).2) bx nb
 | _,_,_,_=>[]
def m6{X:Type}:(ps:List PK)->(X->gz ps)->Nat->List (Nat×(X->Nm))
 | [],_,_=>[]
 | .val _::ps,d,nb=>m6 ps d nb
 | .agg _::ps,d,nb=>m6 ps d nb
 | .own _ _::ps,d,nb=>m6 ps d nb
 | .ago _::ps,d,nb=>m6 ps d nb
 | .fn _ _::ps,d,nb=>m6 ps d nb
 | .nils::ps,d,nb=>m6 ps d nb
 | .box E o::ps,d,nb=>ur o (λx=>(d x).1) nb++m6 ps (λx=>(d x).2) (nb+o.nr)
 | .row E t::ps,d,nb=>m6 ps (λx=>(d x).2) nb
def qB{X:Type}(b0:Nat):(rs:List RK)->(X->jC rs)->Nat->List (Nat×(X->Nm))
 | [],_,_=>[]
 | .val t::rs,d,n=>qB b0 rs (λx=>(d x).2) n
 | .agg o::rs,d,n=>ur o (λx=>(d x).1) n++qB b0 rs (λx=>(d x).2) (n+o.nr)
 | .own E t::rs,d,n=>(n,λx=>.live (.row E t (d x).1))::qB b0 rs (λx=>(d x).2) (n+1)
 | .box E o::rs,d,n=>(n,λx=>.live (.cells E (nJ b0 o (d x).1 [] (n+1))))::(ur o (λx=>(d x).1) (n+1)++qB b0 rs (λx=>(d x).2) (n+1+o.nr))
 | .fn _ _::rs,d,n=>qB b0 rs (λx=>(d x).2) n
def CC{X:Type}:List (Nat×Nm)->List (Nat×(X->Nm))
 | []=>[]
 | (n,b)::r=>(n,λ_=>b)::CC r
def zi(ps:List PK)(rs:List RK)(base:Nat)(fz:List (Nat×Nm))(bx:List Nat)(cx:List (Option Nat)):List (Nat×(jC rs×gz ps->Nm)) :=
 (nh (bx.headD 0) ps (λy:jC rs×gz ps=>y.2) bx (base+gF rs)++(qB (bx.headD 0) rs (λy:jC rs×gz ps=>y.1) base++(m6 ps (λy:jC rs×gz ps=>y.2) (base+gF rs)++CC (pZ cx))))++(match xi ps rs with|true=>CC fz|false=>[])
theorem Fa{X:Type}{b0:Nat}(y:X):∀(o:OT)(x:X->o.X)(bx:List Nat)(n:Nat),(wR b0 o x bx n).map (λp=>(p.1,p.2 y))=mj b0 o (x y) bx n
 | .dat _,_,_,_=>rfl
 | .row _ _,_,_,_=>rfl
 | .rowg _ _,_,_,_=>rfl
 | .fnc _,_,_,_=>rfl
 | .ali,_,_,_=>rfl
 | .ref E o,x,[],n=>rfl
 | .ref E o,x,q::r,n=>by simp only[wR,mj,fF,Fa y o]
 | .pair a b,x,bx,n=>by simp only[wR,mj,lG,Fa y a,Fa y b]
theorem zV{X:Type}(y:X):∀(o:OT)(x:X->o.X)(n:Nat),(ur o x n).map (λp=>(p.1,p.2 y))=rK o (x y) n
 | .dat _,_,_=>rfl
 | .row _ _,_,_=>rfl
 | .rowg _ _,_,_=>rfl
 | .fnc _,_,_=>rfl
 | .ali,_,_=>rfl
 | .ref E o,x,n=>by simp only[ur,rK,zV y o]
 | .pair a b,x,n=>by simp only[ur,rK,lG,zV y a,zV y b]
theorem vh{X:Type}{b0:Nat}(x:X):∀(ps:List PK)(d:X->gz ps)(bx:List Nat)(b:Nat),(nh b0 ps d bx b).map (λp=>(p.1,p.2 x))=gA b0 ps (d x) bx b
 | [],_,_,_=>rfl
 | .val _::ps,d,bx,b=>by simp only[nh,gA];exact vh x ps d bx b
 | .agg _::ps,d,bx,b=>by simp only[nh,gA];exact vh x ps d bx b
 | .own _ _::ps,d,bx,b=>by simp only[nh,gA];exact vh x ps d bx b
 | .ago _::ps,d,bx,b=>by simp only[nh,gA];exact vh x ps d bx b
 | .fn _ _::ps,d,bx,b=>by simp only[nh,gA];exact vh x ps d bx b
 | .nils::ps,d,bx,b=>by simp only[nh,gA];exact vh x ps d bx b
 | .box E t::ps,d,[],_=>rfl
 | .row E t::ps,d,[],_=>rfl
 | .box E t::ps,d,n::bx,b=>by simp only[nh,gA,fF,lG,Fa x t,vh x ps]
 | .row E t::ps,d,n::bx,b=>by simp only[nh,gA,fF,vh x ps]
theorem u9{X:Type}(x:X):∀(ps:List PK)(d:X->gz ps)(a:Nat),(m6 ps d a).map (λp=>(p.1,p.2 x))=iA ps (d x) a
 | [],_,_=>rfl
 | .val _::ps,d,a=>by simp only[m6,iA];exact u9 x ps d a
 | .agg _::ps,d,a=>by simp only[m6,iA];exact u9 x ps d a
 | .own _ _::ps,d,a=>by simp only[m6,iA];exact u9 x ps d a
 | .ago _::ps,d,a=>by simp only[m6,iA];exact u9 x ps d a
 | .fn _ _::ps,d,a=>by simp only[m6,iA];exact u9 x ps d a
 | .nils::ps,d,a=>by simp only[m6,iA];exact u9 x ps d a
 | .box E t::ps,d,a=>by simp only[m6,iA,lG,zV x t,u9 x ps]
 | .row E t::ps,d,a=>by simp only[m6,iA];exact u9 x ps _ a
theorem yR{X:Type}{b0:Nat}(x:X):∀(rs:List RK)(d:X->jC rs)(n:Nat),(qB b0 rs d n).map (λp=>(p.1,p.2 x))=lU b0 rs (d x) n
 | [],_,_=>rfl
 | .val t::rs,d,n=>by simp only[qB,lU];exact yR x rs _ n
 | .agg t::rs,d,n=>by simp only[qB,lU,lG,zV x t,yR x rs]
 | .own E t::rs,d,n=>by simp only[qB,lU,fF,yR x rs]
 | .box E t::rs,d,n=>by simp only[qB,lU,fF,lG,zV x t,yR x rs]
 | .fn _ _::rs,d,n=>by simp only[qB,lU];exact yR x rs _ n
theorem HS{X:Type}(x:X):∀(l:List (Nat×Nm)),(CC (X:=X) l).map (λp=>(p.1,p.2 x))=l
 | []=>rfl
 | (n,b)::r=>by simp only[CC,fF,HS x r]
theorem K6{ps:List PK}{rs:List RK}{a:Nat}{fz:List (Nat×Nm)}{bx:List Nat}{cx:List (Option Nat)}(y:jC rs×gz ps):(zi ps rs a fz bx cx).map (λp=>(p.1,p.2 y))=sP ps rs y a fz bx cx:=by
 unfold zi sP
 simp only[lG,vh,yR,u9,HS]
 cases xi ps rs with
 | true=>simp only[HS]
 | false=>rfl
def xD:(o:OT)->(o.X->Prop)->Prop
 | .dat t,k=>yv t k
 | .row _ t,k=>∀ x:List t.D,k x
 | .rowg _ _,k=>k ()
 | .fnc _,k=>k ()
 | .ali,k=>k ()
 | .ref _ o,k=>xD o k
 | .pair a b,k=>xD a λx=>xD b λy=>k (x,y)
theorem yL:∀{o:OT}{k:o.X->Prop},xD o k→∀ d,k d
 | .dat t,k,h,d=>EL.1 h d
 | .row _ t,k,h,d=>h d
 | .rowg _ _,k,h,d=>h
 | .fnc _,k,h,d=>h
 | .ali,k,h,d=>h
 | .ref _ o,k,h,d=>yL (o:=o) h d
 | .pair a b,k,h,d=>yL (yL (o:=a) h d.1) d.2
def xW:(rs:List RK)->(jC rs->Prop)->Prop
 | [],k=>k ()
 | .val t::r,k=>yv t λx=>xW r λy=>k (x,y)
 | .agg o::r,k=>xD o λx=>xW r λy=>k (x,y)
 | .own _ t::r,k=>∀ x:List t.D,xW r λy=>k (x,y)
 | .box _ o::r,k=>xD o λx=>xW r λy=>k (x,y)
 | .fn _ _::r,k=>xW r λy=>k ((),y)
theorem zh:∀{rs:List RK}{k:jC rs->Prop},xW rs k→∀ d,k d
 | [],k,h,d=>h
 | .val t::r,k,h,d=>zh (rs:=r) (EL.1 h d.1) d.2
 | .agg o::r,k,h,d=>zh (yL h d.1) d.2
 | .own _ t::r,k,h,d=>zh (h d.1) d.2
 | .box _ o::r,k,h,d=>zh (yL h d.1) d.2
 | .fn _ _::r,k,h,d=>zh (rs:=r) h d.2
def tU:(ps:List PK)->(gz ps->Prop)->Prop
 | [],k=>k ()
 | .val _::r,k=>tU r k
 | .agg _::r,k=>tU r k
 | .own _ _::r,k=>tU r k
 | .ago _::r,k=>tU r k
 | .fn _ _::r,k=>tU r k
 | .nils::r,k=>tU r k
 | .box _ o::r,k=>xD o λx=>tU r λy=>k (x,y)
 | .row _ t::r,k=>∀ x:List t.D,tU r λy=>k (x,y)
theorem ve:∀{ps:List PK}{k:gz ps->Prop},tU ps k→∀ d,k d
 | [],k,h,d=>h
 | .val _::r,k,h,d=>ve (ps:=r) h d
 | .agg _::r,k,h,d=>ve (ps:=r) h d
 | .own _ _::r,k,h,d=>ve (ps:=r) h d
 | .ago _::r,k,h,d=>ve (ps:=r) h d
 | .fn _ _::r,k,h,d=>ve (ps:=r) h d
 | .nils::r,k,h,d=>ve (ps:=r) h d
 | .box _ o::r,k,h,d=>ve (yL h d.1) d.2
 | .row _ t::r,k,h,d=>ve (h d.1) d.2
def Qe(rs:List RK)(ps:List PK):Qn (jC rs×gz ps) :=
 ⟨λk=>xW rs λy=>tU ps λz=>k (y,z),λk h x=>ve (zh h x.1) x.2,λk=>∃ x,k x,λ_ h=>h⟩
def Cn.spec(c:Cn):Spec:=λbase svs=>(gT none c.ps svs).bind λp=>match yD p.2.1 p.2.2.1 p.2.2.2 with
 | true=>rB base (gF c.rs+jy c.ps) (.nd (jC c.rs×gz c.ps) (Qe c.rs c.ps) (c.pre p.1) (c.post p.1) (c.inh p.1) (λy=>ru (kM (p.2.2.1.headD 0) c.rs y.1 base)) (zi c.ps c.rs base p.2.1 p.2.2.1 p.2.2.2))
 | false => .fail
section
variable {w0:World} {N0:f5} {A A' A1 A2:Nat->Prop} {env env1 env':aZ} {h h1:bP} {w w1:World}
theorem xK{a b c:Bool}{p:Prop}(h:(a&&b)=true∨p):a=true∨p:=by
 grind
theorem wX{a b:Bool}{p:Prop}(h:(a&&b)=true∨p):b=true∨p:=by
 grind
theorem Tv{al:Bool}{t:OT}{rs:List RK}{a:List SV} {x} (e:mV al (.agg t::rs) a h1=some x):∃ cs r,a = .agg cs::r:=by
 cases a with
 | nil=>cases e
 | cons s r=>cases s <;> first|exact⟨_,_,rfl⟩|cases e
theorem al9{al:Bool}{E:TypeId}{t:CT}{rs:List RK}{a:List SV} {x} (e:mV al (.own E t::rs) a h1=some x):∃ v r,a=v::r:=by
 cases a with
 | nil=>cases e
 | cons s r=>exact⟨_,_,rfl⟩
theorem T8{al:Bool}{E:TypeId}{t:OT}{rs:List RK}{a:List SV} {x} (e:mV al (.box E t::rs) a h1=some x):∃ m r,a = .ptr m 0::r:=by
 cases a with
 | nil=>cases e
 | cons s r=>cases s <;> first|cases e;done|(rename_i m o;cases o <;> first|exact⟨_,_,rfl⟩|cases e)
theorem ap4{al:Bool}{f:FuncId}{k:Nat}{rs:List RK}{a:List SV} {x} (e:mV al (.fn f k::rs) a h1=some x):∃ g cs r,a = .fn g cs::r:=by
 cases a with
 | nil=>cases e
 | cons s r=>cases s <;> first|exact⟨_,_,_,rfl⟩|cases e
theorem Ub{al:Bool}{E:TypeId}{t:OT}{j:Option Nat}{a:List SV} {x} (e:my h1 al (.ref E t) j a=some x):∃ b m r,j=some b/\a = .ptr m 0::r:=by
 cases j with
 | none=>cases a <;> cases e
 | some b =>
  cases a with
  | nil=>cases e
  | cons s r=>cases s <;> first|cases e;done|(rename_i m o;cases o <;> first|exact⟨_,_,_,rfl,rfl⟩|cases e)
theorem aw4{al:Bool}{f:FuncId}{j:Option Nat}{a:List SV} {x} (e:my h1 al (.fnc f) j a=some x):∃ r,a = .fn f []::r/\x=((),r,[],[]):=by
 cases a with
 | nil=>cases e
 | cons s r =>
  cases s <;> first|cases e;done|skip
  rename_i g cs;cases cs <;> first|cases e;done|skip
  simp only[my] at e;split at e
  .simp_all
  .cases e
theorem WY{al:Bool}{E:TypeId}{t:CT}{j:Option Nat}{a:List SV} {x} (e:my h1 al (.rowg E t) j a=some x):∃ v r,a=v::r:=by
 cases a with
 | nil=>cases e
 | cons s r=>exact⟨_,_,rfl⟩
theorem QF{Nc:f5}(m1:Mod w Nc A1 env1 h1 w1)(hA:∀ b,A1 b->A2 b){E:TypeId}{t:CT}(L:t.plain=true∨∀ b,A2 b->A' b){cs rest:List SV}{vs:List Value}{ys:List t.D}{j:Option Nat}
  (e:D8 E t h1 cs=some (ys,rest,j)) (q:aR A1 env1 w1 cs vs) :
  ∃ v f,vs=v::f/\rest=cs.drop 1/\aR A1 env1 w1 rest f∧∀(g:aZ)(i:Nat),g i=pf env1 j->az A' g w1 (.own i t.size) v/\jU A' env1 h1 g w1 [j] [(i,.live (.row E t ys))] i:=by
 cases cs with
 | nil=>cases e
 | cons s cs =>
 cases s with
 | own n sz =>
  simp only[D8] at e;split at e
  .rename_i E' t' xs r;split at e
   .rename_i zs l d hc;have l:=bG l;subst l;have d:=bG d;subst d;obtain⟨et,ez⟩:=jN hc;subst et;subst ez;obtain⟨rfl,rfl,rfl⟩:=e;obtain⟨x,f,rfl,hv,m⟩:=q;have o:=m1.nm n;rw[r] at o;refine⟨x,f,rfl,rfl,m,λg i c=>⟨?_,⟨rfl,_,rfl,rfl,.inl ⟨n,_,rfl,r,rfl,λk len c=>?_,λc=>?_⟩⟩,trivial⟩⟩
    .simp only[pf] at c;simp only[az];rw[c];exact hv
    .rcases o with⟨k',h,a,p,_⟩|⟨a,_⟩
     .rw[c] at a;cases a;obtain⟨us,cap,g1,g2,g3,g4,g5,g6⟩:=p;exact⟨us,cap,g1,g2,g3,g4,g5,λi hi=>CP L (ik hA (λ_ _ _=>rfl) _ _ _ _ _ (λ_ _=>rfl) (g6 i hi))⟩
     .rw[c] at a;cases a
    .rcases o with⟨k',h,a,p,_⟩|⟨a,E2,t2,p⟩
     .rw[c] at a;cases a
     .simp_all
   .cases e
  .cases e
 | nilsl =>
  obtain⟨rfl,rfl,rfl⟩:=e;obtain⟨x,f,rfl,rfl,m⟩:=q;refine⟨_,f,rfl,rfl,m,λg i c=>⟨?_,⟨rfl,_,rfl,rfl,.inr ⟨rfl,_,_,rfl⟩⟩,trivial⟩⟩;exact .inl ⟨c,_,rfl⟩
 | _=>cases e
def p9(A':Nat->Prop)(env1:aZ)(h1:bP)(env':aZ)(w1:World)(bx:List Nat)(j:Nat)(n:Nat)(x:Nm):Prop :=
 ∃ i b b0,bx[i]? = some n/\x = .live b/\b.mut=true/\h1 (PN+(j+i)) = .live b0/\b0.mut=true/\(∀ k len,env1 (PN+(j+i)) = .blk k len->jX A' env' w1 k len b)/\(env1 (PN+(j+i)) = .nil→∃ E t,b = .row E t [])
theorem p9.shift{pre bx:List Nat}{j n:Nat}{x:Nm}(h:p9 A' env1 h1 env' w1 bx (j+pre.length) n x):p9 A' env1 h1 env' w1 (pre++bx) j n x:=by
 obtain⟨i,b,b0,g1,g2,g3,a,g5,c,d⟩:=h
 rw[show j+pre.length+i=j+(pre.length+i) from by omega] at a c d
 exact⟨pre.length+i,b,b0,by rw[kw (by omega),lu];exact g1,g2,g3,a,g5,c,d⟩
theorem p9.grow{bx post:List Nat}{j n:Nat}{x:Nm}(h:p9 A' env1 h1 env' w1 bx j n x):p9 A' env1 h1 env' w1 (bx++post) j n x:=by
 obtain⟨i,b,b0,a,g2⟩:=h
 exact⟨i,b,b0,by rw[lF (List.getElem?_eq_some_iff.1 a).1];exact a,g2⟩
theorem JD{al:Bool}:∀(o:OT)(cs:List SV) {x},my h1 al o none cs=some x->o.nb=0
 | .dat t,_,_,_=>rfl
 | .row _ t,_,_,_=>rfl
 | .rowg _ t,_,_,_=>rfl
 | .fnc _,_,_,_=>rfl
 | .ali,_,_,_=>rfl
 | .pair a b,cs,x,e=>by
  simp only[my] at e;split at e
  .rename_i c;split at e
   next d=>have k1:=JD a _ c;have k2:=JD b _ d;simp only[OT.nb];omega
   .cases e
  .cases e
theorem aJ3{al:Bool}{j:Option Nat}{a:List SV} {x} (e:my h1 al .ali j a=some x):∃ r,a = .ptr PN 0::r/\al=true/\x=((),r,[],[]):=by
 cases a with
 | nil=>cases e
 | cons s r =>
  cases s with
  | ptr m off=>cases off with
   | zero =>
    have e:(match (generalizing:=false) al,Nat.beq m PN with|true,true=>(some ((),r,[],[]):Option (Unit×List SV×List (Nat×Nm)×List (Option Nat)))|_,_=>none)=some x:=by
     cases j <;> exact e
    cases hb:Nat.beq m PN with
    | false=>rw[hb] at e;cases al <;> cases e
    | true =>
     cases al with
     | false=>cases e
     | true =>
      simp_all
   | succ k=>cases e
  | _=>cases e
theorem zk{al:Bool}{Nc:f5}(m1:Mod w Nc A1 env1 h1 w1)(hA:∀ b,A1 b->A2 b)(b0:Nat):∀(o:OT)(j:Option Nat)(cs:List SV)(vs:List Value)(x:o.X)(rest:List SV)(fz:List (Nat×Nm))(ow:List (Option Nat))(bx more:List Nat)(n:Nat),
  my h1 al o j cs=some (x,rest,fz,ow)->aR A1 env1 w1 cs vs->(∀ k,gM env1 fz k->A2 k)->(o.plain=true∨∀ b,A2 b->A' b)->(j=none∨bx.length=o.nb) →
  nQ h1 fz/\ow.length=o.nr∧∃ us rs,vs=us++rs/\aR A1 env1 w1 rest rs ∧
   ((al=true->env' b0=env1 PN)->(∀ k q,ow[k]? = some q->env' (n+k)=pf env1 q)->(∀ j0 k q,j=some j0->bx[k]? = some q->env' q=env1 (PN+(j0+k))) →
     aR A' env' w1 (nJ b0 o x (bx++more) n) us/\jU A' env1 h1 env' w1 ow (rK o x n) n/\(∀ q y,(q,y)∈mj b0 o x (bx++more) n→∃ j0,j=some j0/\p9 A' env1 h1 env' w1 bx j0 q y) ∧
     (j≠none→∀ q,q∈bx->q∈(mj b0 o x (bx++more) n).map (·.1)))
 | .dat t,j,cs,vs,x,rest,fz,ow,bx,more,n,e,hd,hF,L,hbl=>by
  simp only[my] at e;split at e
  .rename_i x1 r1 f1 q1 hp;simp only[bq,br] at e;obtain⟨rfl,rfl,rfl,rfl⟩:=e;obtain⟨p1,p2,p3,p4,p5⟩:=sC m1 t cs vs x1 r1 f1 _ hp hd hA hF;refine⟨p1,rfl,vs.take t.size,vs.drop t.size,(ng _ _).symm,p5,λ_ _ _=>⟨?_,trivial,λq y hh=>by simp[mj] at hh,λhj q hq=>?_⟩⟩
   .simp only[nJ];refine Dj (by rw[dA];omega) (CP L ?_);refine ik (λ_ h=>h) (λ_ _ _=>rfl) t _ _ _ _ (λk hk=>?_) p4;simp only[gh,qi];rw[am hk]
   .rcases hbl with hbl|hbl
    .exact absurd hbl hj
    .rw[List.length_eq_zero_iff.1 hbl] at hq;cases hq
  .cases e
 | .row E t,j,cs,vs,x,rest,fz,ow,bx,more,n,e,hd,hF,L,hbl=>by
  simp only[my] at e;split at e
  .rename_i x1 r1 o1 hp;simp only[bq,br] at e;obtain⟨rfl,rfl,rfl,rfl⟩:=e;obtain⟨v,vr,rfl,-,p2,p3⟩:=QF (A':=A') m1 hA L hp hd;refine⟨λn b hh=>by simp at hh,rfl,[v],vr,rfl,p2,λ_ ho _=>?_⟩;obtain⟨k1,k2⟩:=p3 env' n (ho 0 _ rfl);refine⟨?_,k2,λq y hh=>by simp[mj] at hh,λhj q hq=>?_⟩
   .simp only[nJ,aR];exact⟨v,[],rfl,k1,rfl⟩
   .rcases hbl with hbl|hbl
    .exact absurd hbl hj
    .rw[List.length_eq_zero_iff.1 hbl] at hq;cases hq
  .cases e
 | .rowg E t,j,cs0,vs,x,rest,fz,ow,bx,more,n,e,hd,hF,L,hbl=>by
  obtain⟨v,cs,rfl⟩:=WY e;simp only[my,bq,br] at e;obtain⟨-,rfl,rfl,rfl⟩:=e;simp only[aR] at hd;obtain⟨u,vr,rfl,hu,hvr⟩:=hd;refine⟨λn b hh=>by simp at hh,rfl,[u],vr,rfl,hvr,λ_ ho _=>⟨?_,trivial,λq y hh=>by simp[mj] at hh,λhj q hq=>?_⟩⟩
  .simp only[nJ,aR,az];exact⟨u,[],rfl,trivial,rfl⟩
  .rcases hbl with hbl|hbl
   .exact absurd hbl hj
   .rw[List.length_eq_zero_iff.1 hbl] at hq;cases hq
 | .fnc f,j,cs0,vs,x,rest,fz,ow,bx,more,n,e,hd,hF,L,hbl=>by
  obtain⟨cs,rfl,e2⟩:=aw4 e;simp only[br] at e2;obtain⟨-,rfl,rfl,rfl⟩:=e2;simp only[aR] at hd;obtain⟨u,vr,rfl,hu,hvr⟩:=hd;refine⟨λn b hh=>by simp at hh,rfl,[u],vr,rfl,hvr,λ_ ho _=>⟨?_,trivial,λq y hh=>by simp[mj] at hh,λhj q hq=>?_⟩⟩
  .simp only[nJ,aR];simp only[az,aR] at hu;refine⟨u,[],rfl,?_,rfl⟩;simp only[az,aR];exact hu
  .rcases hbl with hbl|hbl
   .exact absurd hbl hj
   .rw[List.length_eq_zero_iff.1 hbl] at hq;cases hq
 | .ali,j,cs0,vs,x,rest,fz,ow,bx,more,n,e,hd,hF,L,hbl=>by
  obtain⟨cs,rfl,hj0,e2⟩:=aJ3 e;simp only[br] at e2;obtain⟨-,rfl,rfl,rfl⟩:=e2;simp only[aR,az] at hd;obtain⟨u,vr,rfl,⟨k,len,hek,rfl⟩,hvr⟩:=hd;refine⟨λn b hh=>by simp at hh,rfl,[_],vr,rfl,hvr,λhb0 ho _=>⟨?_,trivial,λq y hh=>by simp[mj] at hh,λhj q hq=>?_⟩⟩
  .simp only[nJ,aR,az];exact⟨_,[],rfl,⟨k,len,by rw[hb0 hj0];exact hek,rfl⟩,rfl⟩
  .rcases hbl with hbl|hbl
   .exact absurd hbl hj
   .rw[List.length_eq_zero_iff.1 hbl] at hq;cases hq
 | .ref E o,j,cs0,vs,x,rest,fz,ow,bx,more,n,e,hd,hF,L,hbl=>by
  obtain⟨j0,m,cs,rfl,rfl⟩:=Ub e;simp only[my] at e;split at e
  .rename_i E' cs' hm hl;have hm:=bG hm;subst hm;split at e
   .rename_i x1 f1 w1' hE hp;have hE:=bG hE;subst hE;simp only[bq,br] at e;obtain⟨rfl,rfl,rfl,rfl⟩:=e;simp only[aR,az] at hd;obtain⟨u,vr,rfl,⟨kb,lb,hkb,rfl⟩,hvr⟩:=hd;obtain⟨⟨us,hus,hdu⟩,_⟩:=m1.live_blk hl hkb;cases bx with
    | nil=>rcases hbl with hbl|hbl <;> cases hbl
    | cons q0 bx =>
    have hbl':bx.length=o.nb:=by
     rcases hbl with hbl|hbl
     .cases hbl
     .simpa[OT.nb] using hbl
    obtain⟨s1,s2,us',rs',s5,s6,s7⟩:=zk m1 hA b0 o (some (j0+1)) cs' us.toList x1 [] f1 w1' bx more n hp hdu hF L (.inr hbl');simp only[aR] at s6;subst s6;rw[jx] at s5;subst s5;refine⟨s1,s2,[_],vr,rfl,hvr,λh0b ho hb=>?_⟩;have h0:=hb j0 0 q0 rfl rfl;rw[ip] at h0;obtain⟨k1,k2,k3,k4⟩:=s7 h0b ho (λj1 k q hj hq=>by
     cases hj;have:=hb j0 (k+1) q rfl (by simpa using hq)
     rwa [show j0+(k+1)=j0+1+k from by omega] at this)
    refine⟨?_,k2,λq y hh=>?_,λ_ q hq=>?_⟩
    .simp only[nJ,mF,aR,az];exact⟨_,[],rfl,⟨kb,lb,by rw[h0];exact hkb,rfl⟩,rfl⟩
    .simp only[mj,mF] at hh;rcases dK.1 hh with hh|hh
     .cases hh;refine⟨j0,rfl,0,_,_,rfl,rfl,rfl,hl,rfl,λk len he=>?_,λhe=>?_⟩
      .rw[ip,hkb] at he;cases he;exact⟨us,hus,k1⟩
      .rw[ip,hkb] at he;cases he
     .obtain⟨j1,hj1,hbx⟩:=k3 q y hh;cases hj1;exact⟨j0,rfl,p9.shift (pre:=[q0]) hbx⟩
    .simp only[mj,mF,fF];rcases dK.1 hq with rfl|hq
     .exact fY ..
     .exact fM _ (k4 (by simp) q hq)
   .cases e
  .cases e
 | .pair a b,j,cs,vs,x,rest,fz,ow,bx,more,n,e,hd,hF,L,hbl=>by
  simp only[my] at e;split at e
  .rename_i x1 r1 f1 o1 h1';split at e
   .rename_i x2 r2 f2 o2 h2';simp only[bq,br] at e;obtain⟨rfl,rfl,rfl,rfl⟩:=e;have hF1:∀ k,gM env1 f1 k->A2 k:=λk ⟨n,x,l,hx,he⟩=>hF k ⟨n,x,l,gu _ hx,he⟩;have hF2:∀ k,gM env1 f2 k->A2 k:=λk ⟨n,x,l,hx,he⟩=>hF k ⟨n,x,l,jd _ hx,he⟩;have La:a.plain=true∨∀ b,A2 b->A' b:=xK (c:=true) L;have Lb:b.plain=true∨∀ b,A2 b->A' b:=wX L;have hla:j=none∨(bx.take a.nb).length=a.nb:=by
     rcases hbl with hbl|hbl
     .exact .inl hbl
     .simp only[OT.nb] at hbl;exact .inr (by rw[dA];omega)
    have hlb:j.map (· + a.nb)=none∨(bx.drop a.nb).length=b.nb:=by
     rcases hbl with hbl|hbl
     .exact .inl (by rw[hbl];rfl)
     .simp only[OT.nb] at hbl;exact .inr (by rw[fy];omega)
    obtain⟨s1,s2,us,rs,rfl,s6,s7⟩:=zk m1 hA b0 a j cs vs x1 r1 f1 o1 (bx.take a.nb) (bx.drop a.nb++more) n h1' hd hF1 La hla;obtain⟨t1,t2,us',rs',rfl,t6,t7⟩:=zk m1 hA b0 b (j.map (· + a.nb)) r1 rs x2 r2 f2 o2 (bx.drop a.nb) more (n+a.nr) h2' s6 hF2 Lb hlb;refine⟨λn b hh=>?_,by simp only[cA,s2,t2,OT.nr],us++us',rs',by rw[iL],t6,λh0b ho hb=>?_⟩
    .rcases dB.1 hh with hh|hh
     .exact s1 n b hh
     .exact t1 n b hh
    have eb:bx.take a.nb++(bx.drop a.nb++more)=bx++more:=by rw[← iL,ng]
    obtain⟨k1,k2,k3,k4⟩:=s7 h0b (λk q hq=>ho k q (by rw[lF (List.getElem?_eq_some_iff.1 hq).1];exact hq))
     (λj0 k q hj hq=>by
      refine hb j0 k q hj ?_;rw[qi] at hq;split at hq
      .exact hq
      .cases hq)
    obtain⟨l1,l2,l3,l4⟩:=t7 h0b (λk q hq=>by
      have:=ho (a.nr+k) q (by rw[kw (by omega),s2,lu];exact hq)
      rwa [show n+(a.nr+k)=n+a.nr+k from by omega] at this)
     (λj1 k q hj hq=>by
      cases j with
      | none=>cases hj
      | some j0 =>
       simp only[Option.map_some,bq] at hj;subst hj;rw[pV] at hq;have:=hb j0 (a.nb+k) q rfl hq
       rwa [show j0+(a.nb+k)=j0+a.nb+k from by omega] at this)
    rw[eb] at k1 k3 k4;have ed:(bx++more).drop a.nb=bx.drop a.nb++more:=by
     rcases hbl with hbl|hbl
     .subst hbl;rw[JD a _ h1',List.drop_zero,List.drop_zero]
     .simp only[OT.nb] at hbl;rw[List.drop_append_of_le_length (by omega)]
    have tl:∀ j0,j=some j0->(bx.take a.nb).length=a.nb:=λj0 hj=>by
     rcases hla with h|h
     .rw[hj] at h;cases h
     .exact h
    rw[← ed] at l1 l3 l4;simp only[nJ,mj,rK];refine⟨tB k1 l1,k2.append (by rw[s2];exact l2),λq y hh=>?_,λhj q hq=>?_⟩
    .rcases dB.1 hh with hh|hh
     .obtain⟨j0,hj,hx⟩:=k3 q y hh;refine⟨j0,hj,?_⟩;have:=hx.grow (post:=bx.drop a.nb)
      rwa [ng] at this
     .obtain⟨j1,hj1,hx⟩:=l3 q y hh;cases j with
      | none=>cases hj1
      | some j0 =>
       simp only[Option.map_some,bq] at hj1;subst hj1;refine⟨j0,rfl,?_⟩;have:=p9.shift (pre:=bx.take a.nb) (bx:=bx.drop a.nb) (j:=j0) (n:=q) (x:=y) (by rw[tl j0 rfl];exact hx)
       rwa [ng] at this
    .rw[lG];rw[← ng a.nb bx] at hq;rcases dB.1 hq with hq|hq
     .exact gu _ (k4 hj q hq)
     .exact jd _ (l4 (by cases j with|none=>exact absurd rfl hj|some j0=>simp) q hq)
   .cases e
  .cases e
theorem Dn{b0:Nat}:∀{o:OT}{x:o.X}{bx more:List Nat}{n:Nat},bx.length=o.nb→∀ q,q∈bx->q∈(mj b0 o x (bx++more) n).map (·.1)
 | .dat _,x,bx,more,n,d,q,c=>by rw[List.length_eq_zero_iff.1 d] at c;cases c
 | .row _ _,x,bx,more,n,d,q,c=>by rw[List.length_eq_zero_iff.1 d] at c;cases c
 | .rowg _ _,x,bx,more,n,d,q,c=>by rw[List.length_eq_zero_iff.1 d] at c;cases c
 | .fnc _,x,bx,more,n,d,q,c=>by rw[List.length_eq_zero_iff.1 d] at c;cases c
 | .ali,x,bx,more,n,d,q,c=>by rw[List.length_eq_zero_iff.1 d] at c;cases c
 | .ref E o,x,q0::bx,more,n,d,q,c=>by
  simp only[mF,mj,fF];rcases dK.1 c with rfl|c
  .simp_all
  .exact fM _ (Dn (o:=o) (by simpa[OT.nb] using d) q c)
 | .pair a b,x,bx,more,n,d,q,c=>by
  simp only[OT.nb] at d;simp only[mj,lG];rw[← ng a.nb bx] at c;have e1:bx++more=bx.take a.nb++(bx.drop a.nb++more):=by rw[← iL,ng]
  rcases dB.1 c with c|c
  .refine gu _ ?_;rw[e1];exact Dn (by rw[dA];omega) q c
  .refine jd _ ?_;rw[List.drop_append_of_le_length (by omega)];exact Dn (by rw[fy];omega) q c
theorem xE{al:Bool}{Nc:f5}(m1:Mod w Nc A1 env1 h1 w1)(hA:∀ b,A1 b->A2 b)(b0:Nat):∀(rs:List RK)(d:jC rs)(svs:List SV)(vs:List Value)(fz:List (Nat×Nm))(ow:List (Option Nat))(n:Nat),
  mV al rs svs h1=some (d,fz,ow)->aR A1 env1 w1 svs vs->(∀ k,gM env1 fz k->A2 k)->(td rs=true∨∀ b,A2 b->A' b) →
  nQ h1 fz/\ow.length=gF rs/\((al=true->env' b0=env1 PN)->(∀ i o,ow[i]? = some o->env' (n+i)=pf env1 o)->aR A' env' w1 (kM b0 rs d n) vs/\jU A' env1 h1 env' w1 ow (lU b0 rs d n) n)
 | [],d,[],vs,fz,ow,n,e,hd,hF,L=>by
  simp only[mV,bq,br] at e;obtain⟨-,rfl,rfl⟩:=e;exact⟨λn b hh=>by simp at hh,rfl,λ_ _=>⟨by simpa[kM,aR] using hd,trivial⟩⟩
 | .val t::rs,d,v::svs,vs,fz,ow,n,e,hd,hF,L=>by
  simp only[mV] at e;split at e
  .rename_i x f1 q hp;split at e
   .rename_i ps f2 o hr;simp only[bq,br] at e;obtain⟨rfl,rfl,rfl⟩:=e;simp only[aR] at hd;obtain⟨u,vr,rfl,hu,hvr⟩:=hd;have hF1:∀ k,gM env1 f1 k->A2 k:=λk ⟨n,x,l,hx,he⟩=>hF k ⟨n,x,l,gu _ hx,he⟩;have hF2:∀ k,gM env1 f2 k->A2 k:=λk ⟨n,x,l,hx,he⟩=>hF k ⟨n,x,l,jd _ hx,he⟩;obtain⟨p1,_,p3,p4,_⟩:=sC m1 t [v] [u] x [] f1 _ hp (by simp only[aR];exact⟨u,[],rfl,hu,rfl⟩) hA hF1;obtain⟨s1,s2,s3⟩:=xE m1 hA b0 rs ps svs vr f2 o n hr hvr hF2 (wX L);refine⟨λn b hh=>?_,s2,λhal he=>?_⟩
    .rcases dB.1 hh with hh|hh
     .exact p1 n b hh
     .exact s1 n b hh
    .obtain⟨k1,k2⟩:=s3 hal he;refine⟨?_,k2⟩;simp only[kM,aR];exact⟨u,vr,rfl,Kx (rest:=[]) (CP (xK (c:=true) L) p4),k1⟩
   .cases e
  .cases e
 | .agg t::rs,d,svs0,vs,fz,ow,n,e,hd,hF,L=>by
  obtain⟨cs,svs,rfl⟩:=Tv e;simp only[mV] at e;split at e
  .rename_i x f1 w' hp;split at e
   .rename_i ps f2 o hr;simp only[bq,br] at e;obtain⟨rfl,rfl,rfl⟩:=e;simp only[aR,az] at hd;obtain⟨u,vr,rfl,⟨us,rfl,hu⟩,hvr⟩:=hd;have hF1:∀ k,gM env1 f1 k->A2 k:=λk ⟨n,x,l,hx,he⟩=>hF k ⟨n,x,l,gu _ hx,he⟩;have hF2:∀ k,gM env1 f2 k->A2 k:=λk ⟨n,x,l,hx,he⟩=>hF k ⟨n,x,l,jd _ hx,he⟩;obtain⟨p1,p2,us',rs',p3,p4,p5⟩:=zk (env':=env') m1 hA b0 t none cs us.toList x [] f1 w' [] [] n hp hu hF1 (xK (c:=true) L) (.inl rfl);simp only[aR] at p4;subst p4;rw[jx] at p3;subst p3;obtain⟨s1,s2,s3⟩:=xE m1 hA b0 rs ps svs vr f2 o (n+t.nr) hr hvr hF2 (wX L);refine⟨λn b hh=>?_,by simp only[cA,p2,s2,gF];omega,λhal he=>?_⟩
    .rcases dB.1 hh with hh|hh
     .exact p1 n b hh
     .exact s1 n b hh
    .obtain⟨l1,l2,_⟩:=p5 hal (λk q hq=>he k q (by rw[lF (List.getElem?_eq_some_iff.1 hq).1];exact hq)) (λj0 k q hj _=>by cases hj);obtain⟨k1,k2⟩:=s3 hal (λk q hq=>by
      have:=he (t.nr+k) q (by rw[kw (by omega),p2,lu];exact hq)
      rwa [show n+(t.nr+k)=n+t.nr+k from by omega] at this)
     simp only[kM,lU,aR,az];exact⟨⟨_,vr,rfl,⟨us,rfl,l1⟩,k1⟩,l2.append (by rw[p2];exact k2)⟩
   .cases e
  .cases e
 | .own E t::rs,d,svs0,vs,fz,ow,n,e,hd,hF,L=>by
  obtain⟨v,svs,rfl⟩:=al9 e;simp only[mV] at e;split at e
  .rename_i x r1 w' hp;split at e
   next ps f2 o hr=>simp only[bq,br] at e;obtain⟨rfl,rfl,rfl⟩:=e;simp only[aR] at hd;obtain⟨u,vr,rfl,hu,hvr⟩:=hd;obtain⟨v',vr',p1,-,-,p3⟩:=QF (A':=A') m1 hA (xK (c:=true) L) hp (vs:=[u]) (by simp only[aR];exact⟨u,[],rfl,hu,rfl⟩);cases p1;obtain⟨s1,s2,s3⟩:=xE m1 hA b0 rs ps svs vr f2 o (n+1) hr hvr hF (wX L);refine⟨s1,by simp only[dN,s2,gF],λhal he=>?_⟩;obtain⟨l1,l2⟩:=p3 env' n (he 0 _ rfl);obtain⟨k1,k2⟩:=s3 hal (λk q hq=>by have:=he (k+1) q (by simpa using hq);rwa [show n+(k+1)=n+1+k from by omega] at this);simp only[kM,lU,aR];exact⟨⟨u,vr,rfl,l1,k1⟩,l2.1,k2⟩
   .cases e
  .cases e
 | .box E t::rs,d,svs0,vs,fz,ow,n,e,hd,hF,L=>by
  obtain⟨q,svs,rfl⟩:=T8 e;simp only[mV] at e;split at e
  .rename_i E' cs hl;split at e
   .rename_i x f1 w' hE hp;have hE:=bG hE;subst hE;split at e
    .rename_i ps f2 o hr;simp only[bq,br] at e;obtain⟨rfl,rfl,rfl⟩:=e;simp only[aR,az] at hd;obtain⟨u,vr,rfl,⟨kb,lb,hkb,rfl⟩,hvr⟩:=hd;obtain⟨⟨us,hus,hdu⟩,_⟩:=m1.live_blk hl hkb;have hF1:∀ k,gM env1 f1 k->A2 k:=λk ⟨n,x,l,hx,he⟩=>hF k ⟨n,x,l,gu _ hx,he⟩;have hF2:∀ k,gM env1 f2 k->A2 k:=λk ⟨n,x,l,hx,he⟩=>hF k ⟨n,x,l,jd _ hx,he⟩;obtain⟨p1,p2,us',rs',p3,p4,p5⟩:=zk (env':=env') m1 hA b0 t none cs us.toList x [] f1 w' [] [] (n+1) hp hdu hF1 (xK (c:=true) L) (.inl rfl);simp only[aR] at p4;subst p4;rw[jx] at p3;subst p3;obtain⟨s1,s2,s3⟩:=xE m1 hA b0 rs ps svs vr f2 o (n+1+t.nr) hr hvr hF2 (wX L);refine⟨λn b hh=>?_,by simp only[dN,cA,p2,s2,gF];omega,λhal he=>?_⟩
     .rcases dB.1 hh with hh|hh
      .exact p1 n b hh
      .exact s1 n b hh
     .have h0:=he 0 (some q) rfl;simp only[ip,pf] at h0;have he':∀ k q',(w'++o)[k]? = some q'→env' (n+1+k)=pf env1 q':=λk q' hq=>by
       have:=he (k+1) q' (by simpa using hq);rwa [show n+(k+1)=n+1+k from by omega] at this
      obtain⟨l1,l2,_⟩:=p5 hal (λk q hq=>he' k q (by rw[lF (List.getElem?_eq_some_iff.1 hq).1];exact hq)) (λj0 k q hj _=>by cases hj);obtain⟨k1,k2⟩:=s3 hal (λk q hq=>by
       have:=he' (t.nr+k) q (by rw[kw (by omega),p2,lu];exact hq)
       rwa [show n+1+(t.nr+k)=n+1+t.nr+k from by omega] at this)
      simp only[kM,lU,aR,az];refine⟨⟨_,vr,rfl,⟨kb,lb,by rw[h0];exact hkb,rfl⟩,k1⟩,⟨rfl,_,rfl,rfl,.inl ⟨q,_,rfl,hl,rfl,λk len hk=>?_,λhk=>?_⟩⟩,l2.append (by rw[p2];exact k2)⟩
      .rw[hkb] at hk;cases hk;exact⟨us,hus,l1⟩
      .rw[hkb] at hk;cases hk
    .cases e
   .cases e
  .cases e
 | .fn f k::rs,d,svs0,vs,fz,ow,n,e,hd,hF,L=>by
  obtain⟨g,cs,svs,rfl⟩:=ap4 e;simp only[mV] at e;split at e
  .rename_i hf hk;have hf:=bG hf;have hk:=bG hk;subst hf;split at e
   .rename_i ps f2 o hr;simp only[bq,br] at e;obtain⟨rfl,rfl,rfl⟩:=e;simp only[aR,az] at hd;obtain⟨x,vr,rfl,⟨us,rfl,hu⟩,hvr⟩:=hd;have hul:=je hu;obtain⟨s1,s2,s3⟩:=xE m1 hA b0 rs ps (cs++svs) (us.toList++vr) f2 o n hr (tB hu hvr) hF L;refine⟨s1,s2,λhal he=>?_⟩;obtain⟨k1,k2⟩:=s3 hal he;refine⟨?_,k2⟩;simp only[kM,aR,az];refine⟨_,vr,rfl,⟨us,rfl,?_⟩,?_⟩
    .have:=Ce k k1
     rwa [List.take_left' (by omega)] at this
    .have:=Cx k k1
     rwa [List.drop_left' (by omega)] at this
   .cases e
  .cases e
 | [],_,_::_,_,_,_,_,e,_,_,_=>by cases e
 | .val _::_,_,[],_,_,_,_,e,_,_,_=>by cases e
def jv:List PK->Nat
 | []=>0
 | .val _::r=>jv r
 | .agg _::r=>jv r
 | .own _ _::r=>jv r
 | .ago _::r=>jv r
 | .fn _ _::r=>jv r
 | .nils::r=>jv r
 | .box _ o::r=>o.nb+jv r+1
 | .row _ _::r=>jv r+1
theorem Dh:∀{o:OT}{d:o.D}{j i:Nat},(vp o d j i).length=o.nb
 | .dat _,_,_,_=>rfl
 | .row _ _,_,_,_=>rfl
 | .rowg _ _,_,_,_=>rfl
 | .fnc _,_,_,_=>rfl
 | .ali,_,_,_=>rfl
 | .ref _ o,d,j,i=>by simp only[vp,dN,Dh (o:=o),OT.nb]
 | .pair a b,d,j,i=>by simp only[vp,cA,Dh,Dh,OT.nb]
theorem uA:∀{ps:List PK}{d:bw ps}{j i:Nat},(pM ps d j i).length=jv ps
 | [],_,_,_=>rfl
 | .val t::ps,d,j,i=>uA (ps:=ps)
 | .agg t::ps,d,j,i=>uA (ps:=ps)
 | .own _ t::ps,d,j,i=>uA (ps:=ps)
 | .ago _::ps,d,j,i=>uA (ps:=ps)
 | .fn _ _::ps,d,j,i=>uA (ps:=ps)
 | .nils::ps,d,j,i=>uA (ps:=ps)
 | .box E o::ps,d,j,i=>by simp only[pM,dN,cA,Dh,uA,jv]
 | .row E t::ps,d,j,i=>by simp only[pM,dN,uA,jv]
theorem sZ{Nc:f5}(m1:Mod w Nc A1 env1 h1 w1)(hA:∀ b,A1 b->A2 b)(b0:Nat):∀(ps:List PK)(d:gz ps)(fz:List (Nat×Nm))(ow:List (Option Nat))(bx:List Nat)(j n:Nat),
  mb ps j h1=some (d,fz,ow)->(∀ k,gM env1 fz k->A2 k)->(mO ps=true∨∀ b,A2 b->A' b)->bx.length=jv ps →
  nQ h1 fz/\ow.length=jy ps/\((bx≠[]->env' b0=env1 PN)->(∀ k q,ow[k]? = some q->env' (n+k)=pf env1 q)->(∀ k q,bx[k]? = some q->env' q=env1 (PN+(j+k))) →
   jU A' env1 h1 env' w1 ow (iA ps d n) n/\(∀ q x,(q,x)∈gA b0 ps d bx n->p9 A' env1 h1 env' w1 bx j q x))∧∀ q,q∈bx->q∈(gA b0 ps d bx n).map (·.1)
 | [],d,fz,ow,bx,j,n,e,hF,L,hl=>by
  simp only[mb,bq,br] at e;obtain⟨-,rfl,rfl⟩:=e;simp only[jv,List.length_eq_zero_iff] at hl;subst hl;exact⟨λn b hh=>by simp at hh,rfl,λ_ _ _=>⟨trivial,λq x hh=>by simp[gA] at hh⟩,λq hh=>by simp at hh⟩
 | .val t::ps,d,fz,ow,bx,j,n,e,hF,L,hl=>by
  simp only[gA,iA,jy];exact sZ m1 hA b0 ps d fz ow bx j n (by simpa only[mb] using e) hF (by simpa only[mO] using L) (by simpa only[jv] using hl)
 | .agg t::ps,d,fz,ow,bx,j,n,e,hF,L,hl=>by
  simp only[gA,iA,jy];exact sZ m1 hA b0 ps d fz ow bx j n (by simpa only[mb] using e) hF (by simpa only[mO] using L) (by simpa only[jv] using hl)
 | .own _ t::ps,d,fz,ow,bx,j,n,e,hF,L,hl=>by
  simp only[gA,iA,jy];exact sZ m1 hA b0 ps d fz ow bx j n (by simpa only[mb] using e) hF (by simpa only[mO] using L) (by simpa only[jv] using hl)
 | .ago _::ps,d,fz,ow,bx,j,n,e,hF,L,hl=>by
  simp only[gA,iA,jy];exact sZ m1 hA b0 ps d fz ow bx j n (by simpa only[mb] using e) hF (by simpa only[mO] using L) (by simpa only[jv] using hl)
 | .fn _ _::ps,d,fz,ow,bx,j,n,e,hF,L,hl=>by
  simp only[gA,iA,jy];exact sZ m1 hA b0 ps d fz ow bx j n (by simpa only[mb] using e) hF (by simpa only[mO] using L) (by simpa only[jv] using hl)
 | .nils::ps,d,fz,ow,bx,j,n,e,hF,L,hl=>by
  simp only[gA,iA,jy];exact sZ m1 hA b0 ps d fz ow bx j n (by simpa only[mb] using e) hF (by simpa only[mO] using L) (by simpa only[jv] using hl)
 | .box E o::ps,d,fz,ow,bx,j,n,e,hF,L,hl=>by
  cases bx with
  | nil=>simp[jv] at hl
  | cons n0 bx =>
  simp only[mb] at e;split at e
  .rename_i E' cs hlk;split at e
   .rename_i x f1 w' hE hp;have hE:=bG hE;subst hE;split at e
    .rename_i ps' f2 ow2 hr;simp only[bq,br] at e;obtain⟨rfl,rfl,rfl⟩:=e;simp only[dN,jv] at hl;have hF1:∀ k,gM env1 f1 k->A2 k:=λk ⟨n,x,l,hx,he⟩=>hF k ⟨n,x,l,gu _ hx,he⟩;have hF2:∀ k,gM env1 f2 k->A2 k:=λk ⟨n,x,l,hx,he⟩=>hF k ⟨n,x,l,jd _ hx,he⟩;have hlt:(bx.take o.nb).length=o.nb:=by rw[dA];omega
     have eb:bx.take o.nb++bx.drop o.nb=bx:=ng ..;obtain⟨s1,s2,s3,s4⟩:=sZ m1 hA b0 ps ps' f2 ow2 (bx.drop o.nb) (j+1+o.nb) (n+o.nr) hr hF2 (wX L) (by rw[fy];omega);have hm:=m1.nm (PN+j);rw[hlk] at hm;have hbd:∃ kb lb us,env1 (PN+j) = .blk kb lb/\w1.heap[kb]? = some (.cells us E (0,0))/\aR A1 env1 w1 cs us.toList:=by
      rcases hm with⟨k',len',he',⟨us,hus,hdu⟩,_⟩|⟨he',_,_,hb|hb⟩
      .exact⟨k',len',us,he',hus,hdu⟩
      .cases hb
      .cases hb
     obtain⟨kb,lb,us,hkb,hus,hdu⟩:=hbd;obtain⟨p1,p2,us',rs',p3,p4,p5⟩:=zk (al:=true) (env':=env') m1 hA b0 o (some (j+1)) cs us.toList x [] f1 w' (bx.take o.nb) (bx.drop o.nb) n hp hdu hF1 (xK (c:=true) L) (.inr hlt);simp only[aR] at p4;subst p4;rw[jx] at p3;subst p3;rw[eb] at p5;refine⟨λn b hh=>?_,by simp only[cA,p2,s2,jy];omega,λh0b ho hb=>?_,λq hq=>?_⟩
     .rcases dB.1 hh with hh|hh
      .exact p1 n b hh
      .exact s1 n b hh
     .obtain⟨l1,l2,l3,_⟩:=p5 (λ_=>h0b (by simp)) (λk q hq=>ho k q (by rw[lF (List.getElem?_eq_some_iff.1 hq).1];exact hq))
       (λj0 k q hj hq=>by
        cases hj;rw[qi] at hq;split at hq
        .have:=hb (k+1) q (by simpa using hq)
         rwa [show j+(k+1)=j+1+k from by omega] at this
        .cases hq)
      obtain⟨k1,k2⟩:=s3 (λ_=>h0b (by simp)) (λk q hq=>by
        have:=ho (o.nr+k) q (by rw[kw (by omega),p2,lu];exact hq)
        rwa [show n+(o.nr+k)=n+o.nr+k from by omega] at this)
       (λk q hq=>by
        rw[pV] at hq;have:=hb (o.nb+k+1) q (by simpa using hq)
        rwa [show j+(o.nb+k+1)=j+1+o.nb+k from by omega] at this)
      simp only[iA,gA];refine⟨l2.append (by rw[p2];exact k1),λq y hh=>?_⟩;rcases dK.1 hh with hh|hh
      .cases hh;refine⟨0,_,_,rfl,rfl,rfl,hlk,rfl,λk len he=>?_,λhe=>?_⟩
       .rw[ip,hkb] at he;cases he;exact⟨us,hus,l1⟩
       .rw[ip,hkb] at he;cases he
      .rcases dB.1 hh with hh|hh
       .obtain⟨j0,hj,hx⟩:=l3 q y hh;cases hj;have:=(p9.shift (pre:=[n0]) (j:=j) hx).grow (post:=bx.drop o.nb)
        rwa [iL,eb] at this
       .have:=p9.shift (pre:=n0::bx.take o.nb) (bx:=bx.drop o.nb) (j:=j) (n:=q) (x:=y) (by rw[dN,hlt,show j+(o.nb+1)=j+1+o.nb from by omega];exact k2 q y hh)
        rwa [mF,eb] at this
     .simp only[gA,fF,lG];rcases dK.1 hq with rfl|hq
      .exact fY ..
      .refine fM _ ?_;rw[← eb] at hq;rcases dB.1 hq with hq|hq
       .refine gu _ ?_;have:=Dn (b0:=b0) (o:=o) (x:=x) (n:=n) (more:=bx.drop o.nb) hlt q hq
        rwa [eb] at this
       .exact jd _ (s4 q hq)
    .cases e
   .cases e
  .cases e
 | .row E t::ps,d,fz,ow,bx,j,n,e,hF,L,hl=>by
  cases bx with
  | nil=>simp[jv] at hl
  | cons n0 bx =>
  simp only[mb] at e;split at e
  .rename_i E' t' xs hlk;split at e
   .rename_i ys hE hcl;have hE:=bG hE;subst hE;obtain⟨et,ez⟩:=jN hcl;subst et;simp only at ez;subst ez;split at e
    .rename_i ps' f2 ow2 hr;simp only[bq,br] at e;obtain⟨rfl,rfl,rfl⟩:=e;obtain⟨s1,s2,s3,s4⟩:=sZ m1 hA b0 ps ps' f2 ow2 bx (j+1) n hr hF (wX L) (by simpa[jv] using hl);have hm:=m1.nm (PN+j);rw[hlk] at hm;refine⟨s1,s2,λh0b ho hb=>?_,λq hq=>?_⟩
     .obtain⟨k1,k2⟩:=s3 (λ_=>h0b (by simp)) ho (λk q hq=>by have:=hb (k+1) q (by simpa using hq);rwa [show j+(k+1)=j+1+k from by omega] at this);simp only[iA,gA];refine⟨k1,λq y hh=>?_⟩;rcases dK.1 hh with hh|hh
      .cases hh;refine⟨0,_,_,rfl,rfl,rfl,hlk,rfl,λk len he=>?_,λhe=>?_⟩
       .rcases hm with⟨k',len',he',hb,_⟩|⟨he',_⟩
        .rw[ip] at he;rw[he] at he';cases he';obtain⟨us,cap,g1,g2,g3,g4,g5,g6⟩:=hb;exact⟨us,cap,g1,g2,g3,g4,g5,λi hi=>CP (xK (c:=true) L) (ik hA (λ_ _ _=>rfl) _ _ _ _ _ (λ_ _=>rfl) (g6 i hi))⟩
        .rw[ip] at he;rw[he] at he';cases he'
       .rcases hm with⟨k',len',he',hb,_⟩|⟨he',E2,t2,hb⟩
        .rw[ip] at he;rw[he] at he';cases he'
        .rcases hb with hb|hb <;> cases hb;exact⟨_,_,rfl⟩
      .exact p9.shift (pre:=[n0]) (k2 q y hh)
     .simp only[gA,fF];rcases dK.1 hq with rfl|hq
      .exact fY ..
      .exact fM _ (s4 q hq)
    .cases e
   .cases e
  .cases e
end
end Go.SX
namespace Go.SX
def jZ:List Nat->Nat->Rn
 | [],_=>[]
 | n::bx,j=>(n,some (PN+j))::jZ bx (j+1)
def lv:List (Option Nat)->Nat->Rn
 | [],_=>[]
 | o::r,n=>(n,o)::lv r (n+1)
theorem I0{a b:Rn}{n:Nat}:bf (a++b) n=(match bf a n with|some x=>some x|none=>bf b n):=by
 induction a with
 | nil=>rfl
 | cons p a ih =>
  obtain⟨m,x⟩:=p;simp only[mF,qf];grind
theorem FZ:∀{bx:List Nat}{j n:Nat}{y:Option Nat},bf (jZ bx j) n=some y→∃ i,bx[i]? = some n/\y=some (PN+(j+i))
 | m::bx,j,n,y,h=>by
  simp only[jZ,qf] at h;split at h
  next e=>cases h;exact⟨0,by simp[e],rfl⟩
  .obtain⟨i,h1,h2⟩:=FZ h;exact⟨i+1,by simpa using h1,by rw[h2,show j+1+i=j+(i+1) from by omega]⟩
theorem MS:∀{bx:List Nat}{j n i:Nat},bx.Nodup->bx[i]? = some n->bf (jZ bx j) n=some (some (PN+(j+i)))
 | m::bx,j,n,0,_,h=>by
  simp at h;subst h;simp only[jZ,qf,am,ip]
 | m::bx,j,n,i+1,hn,h=>by
  have b:bx[i]? = some n:=by simpa using h
  obtain⟨h1,h2⟩:=List.nodup_cons.1 hn;have a:n≠m:=λe=>h1 (e▸pb b);simp only[jZ,qf,af a,MS h2 b];grind
theorem aU3{bx:List Nat}{j n:Nat}(h:n ∉ bx):bf (jZ bx j) n=none:=by
 cases hl:bf (jZ bx j) n with
 | none=>rfl
 | some y=>obtain⟨i,hi,_⟩:=FZ hl;exact absurd (pb hi) h
theorem Pt:∀{a:List (Option Nat)}{n0 n:Nat}{y:Option Nat},bf (lv a n0) n=some y→∃ i,a[i]? = some y/\n=n0+i
 | o::a,n0,n,y,h=>by
  simp only[lv,qf] at h;split at h
  .simp_all
  .obtain⟨i,h1,h2⟩:=Pt h;exact⟨i+1,by simpa using h1,ab⟩
theorem QT:∀{a:List (Option Nat)}{n0 i:Nat}{o:Option Nat},a[i]? = some o->bf (lv a n0) (n0+i)=some o
 | p::a,n0,0,o,h=>by simp at h;subst h;simp[lv,qf]
 | p::a,n0,i+1,o,h=>by
  have h':a[i]? = some o:=by simpa using h
  have:=QT (n0:=n0+1) h';simp only[lv,qf,af (show ¬ n0+(i+1)=n0 from by omega)];grind
theorem IN{n:Nat}:∀{l:List (Option Nat)},wm n l=true↔some n∈l
 | []=>by simp[wm]
 | none::r=>by simp[wm,IN (l:=r)]
 | some m::r=>by simp[wm,IN]
theorem H3{fz:List (Nat×Nm)}:∀{a:List (Option Nat)},xT fz a=true→∀(i m:Nat),a[i]? = some (some m)->(m<PN∨QN<=m)/\m ∉ fz.map (·.1)∧∀ i':Nat,a[i']? = some (some m)->i=i'
 | none::r,h,i,m,hi=>by
  simp only[xT] at h;cases i with
  | zero=>simp at hi
  | succ i =>
   obtain⟨c,d,b⟩:=H3 h i m (by simpa using hi);grind
 | some q::r,h,i,m,hi=>by
  simp only[xT,dM,px,rP] at h;obtain⟨⟨⟨c,d⟩,b⟩,h4⟩:=h;have hno:∀ i:Nat,r[i]? ≠ some (some q):=λi hi=>by
   have:wm q r=true:=IN.2 (pb hi);rw[this] at b;cases b
  cases i with
  | zero =>
   simp at hi;subst hi;refine⟨c.imp (λh=>kO h) (λh=>kO h),Aj d,λi' hi'=>?_⟩;grind
  | succ i =>
   obtain⟨g1,g2,g3⟩:=H3 h4 i m (by simpa using hi);grind
theorem Lf:∀{fz:List (Nat×Nm)},Ca fz=true→∀ n,n∈fz.map (·.1)->n<PN∨QN<=n
 | (m,b)::r,h,n,a=>by
  simp only[Ca,dM,px] at h;rcases dK.1 a with e|a
  .simp_all
  .exact Lf h.2 n a
theorem NK{fz:List (Nat×Nm)}:∀{bx:List Nat},Bs fz bx=true→∀ n,n∈bx->n ∉ fz.map (·.1)
 | m::r,h,n,a=>by
  simp only[Bs,dM] at h;rcases dK.1 a with rfl|a
  .exact Aj h.1
  .exact NK h.2 n a
theorem CQ{h:bP}{b d:Dl}:∀{k n:Nat}{r:List Nat},(rB n k b).run h=some (d,r)->d=b∧∀ i,i<k->h (n+i) = .un
 | 0,n,r,e=>by
  simp only[rB,Q.run,bq,br] at e;simp_all
 | k+1,n,r,e=>by
  simp only[rB,Q.run] at e;split at e
  .rename_i p q hk;obtain⟨rfl,rfl⟩:=e;split at hk
   .rename_i a;obtain⟨h1,h2⟩:=CQ hk;refine⟨h1,λi hi=>?_⟩;cases i with
    | zero=>exact a
    | succ i=>rw[show n+(i+1)=n+1+i from by omega];exact h2 i ab
   .cases hk
  .cases e
theorem Hk{n:Nat}{x:Nm}:∀{cx:List (Option Nat)},(n,x)∈pZ cx->x = .dead/\n∈jM cx
 | none::r,h=>by simp only[pZ] at h;simpa only[jM] using Hk (cx:=r) h
 | some m::r,h=>by
  rcases dK.1 h with h|h
  .cases h;exact⟨rfl,fY ..⟩
  .obtain⟨h1,h2⟩:=Hk h;exact⟨h1,fM _ h2⟩
theorem Ky:∀{cx:List (Option Nat)},(pZ cx).map (·.1)=jM cx
 | []=>rfl
 | none::r=>by simp only[pZ,jM];exact Ky (cx:=r)
 | some m::r=>by simp only[pZ,jM,fF,Ky]
def KD(P:Program)(ty:TypeId)(v:SV)(h:bP):Option SV:=match v with
 | .ptr n off=>match h n with
  | .live (.cells _ cs)=>nR P ty cs off
  | _=>none
 | _=>none
def vE(P:Program):List ResultVar->List SV->bP->Option (List SV)
 | [],_,_=>some []
 | .tmp t::r,sl,h=>match vE P r sl h with
  | some l=>some (dX sl t::l)
  | none=>none
 | .cell a ty::r,sl,h=>match KD P ty (dX sl a) h,vE P r sl h with
  | some v,some l=>some (v::l)
  | _,_=>none
def AL(l:List Value):Value:=if h:l.toArray.size=1 then l.toArray[0] else .tuple l.toArray
theorem ax2{P:Program}{w0:World}{N0:f5}{A:Nat->Prop}{env:aZ}{h:bP}{w:World}(m:Mod w0 N0 A env h w){ty:TypeId}{s s':SV}{v:Value}(e:KD P ty s h=some s')(a:az A env w s v) :
  ∃ u,(do loadVar ty (← asAddr v):Sem Value).run P w = .ok u w/\az A env w s' u:=by
 unfold KD at e
 split at e
 next n off=>
  split at e
  next E cs hl=>obtain⟨b,l,he,rfl⟩:=a;obtain⟨⟨vs,hh,a⟩,_⟩:=m.live_blk hl he;obtain⟨u,c,hv⟩:=Bx (o:=0) e a (λj hj=>by rw[cell_of_row w b _ vs E (0,0) hh];simp);rw[gh] at c;exact⟨u,by simp[asAddr,c],hv⟩
  .cases e
 .cases e
theorem KE{P:Program}{w0:World}{N0:f5}{A:Nat->Prop}{env:aZ}{h:bP}{w:World}(m:Mod w0 N0 A env h w){j:List SV}{a:Act}(f:FD A env w (dX j) a){F:ResultVar->Sem Value}
  (k:∀ t,F (.tmp t)=pure (a.tmps.getD t undef)) (c:∀ t ty,F (.cell t ty)=do loadVar ty (← asAddr (a.tmps.getD t undef))):∀(l:List ResultVar)(b:List SV),vE P l j h=some b →
  ∃ vs,(l.mapM F).run P w = .ok vs w/\aR A env w b vs
 | [],b,e=>by cases e;exact⟨[],rfl,by simp[aR]⟩
 | .tmp t::l,b,e=>by
  simp only[vE] at e;split at e
  next d hl=>cases e;obtain⟨vs,n,g⟩:=KE m f k c l d hl;refine⟨a.tmps.getD t undef::vs,?_,by simp only[aR];exact⟨_,_,rfl,f t,g⟩⟩;simp_all
  .cases e
 | .cell t ty::l,b,e=>by
  simp only[vE] at e;split at e
  next v d hv hl=>cases e;obtain⟨vs,n,g⟩:=KE m f k c l d hl;obtain⟨u,hu,i⟩:=ax2 m hv (f t);refine⟨u::vs,?_,by simp only[aR];exact⟨_,_,rfl,i,g⟩⟩;rw[List.mapM_cons,c,Sem.run_bind,hu];simp[n]
  .cases e
theorem aL7{P:Program}{w0:World}{N0:f5}{A:Nat->Prop}{env:aZ}{h:bP}{w:World}(m:Mod w0 N0 A env h w){d:List SV}{a:Act}(f:FD A env w (dX d) a){c:Func}{b:List SV}(e:vE P c.results.toList d h=some b) :
  ∃ vs,(results c a.tmps).run P w = .ok (AL vs) w/\aR A env w b vs:=by
 unfold results
 rw[Array.mapM_eq_mapM_toList]
 obtain⟨vs,hr,hd⟩:=KE m f (F:=fun | .tmp t=>pure (a.tmps.getD t undef) | .cell t ty=>do loadVar ty (← asAddr (a.tmps.getD t undef))) (λt=>rfl) (λt ty=>rfl) c.results.toList b e
 refine⟨vs,?_,hd⟩
 rw[Sem.run_bind,Sem.run_map]
 erw [hr]
 rfl
theorem aH2{A:Nat->Prop}{env:aZ}{w:World}{a:List SV}{vs:List Value}(h:aR A env w a vs):az A env w (ru a) (AL vs):=by
 have hl:=je h
 unfold ru
 split
 .simp only[aR] at h;obtain⟨v,r,rfl,h,rfl⟩:=h;exact h
 next b=>
  have:¬ vs.length=1:=λe=>by
   rw[hl] at e;obtain⟨x,hx⟩:=List.length_eq_one_iff.1 e;exact b x hx
  simp only[AL,az];simp_all
def qO:List Prop->Prop
 | []=>True
 | [p]=>p
 | p::q::r=>p/\qO (q::r)
theorem zb:∀{l:List Prop},qO l↔bV l
 | []=>m5
 | [p]=>by simp[qO,bV]
 | p::q::r=>by rw[qO,bV,zb]
def Ap(P:Program)(ps:List PK)(rs:List RK)(rv:List ResultVar)(k:jC rs×gz ps->Prop):Ex->St->Prop:=λe S=>match e with
 | .exit _=>False
 | _=>match vE P rv S.sl (eJ S.H) with
  | none=>False
  | some vs=>match mV (Nat.blt 0 (jv ps)) rs vs (eJ S.H),mb ps 0 (eJ S.H) with
   | some (y,f1,ow),some (z,f2,ow2)=>match xT (f1++f2) (ow++ow2),Ca (f1++f2) with
    | true,true=>k (y,z)
    | _,_=>False
   | _,_=>False
def oz:List SV->Nat->List SV
 | _,0=>[]
 | [],n+1 => .junk::oz [] n
 | v::l,n+1=>v::oz l n
def yl(ps:List PK)(d:bw ps)(n:Nat):St:=⟨oz (iC ps d 0 0) n,pM ps d 0 0++tW ps d 0⟩
theorem GR:∀{l:List SV}{n:Nat},(oz l n).length=n
 | _,0=>by simp[oz]
 | [],n+1=>by simp[oz,GR (l:=[])]
 | v::l,n+1=>by simp[oz,GR]
theorem Kt:∀{l:List SV}{n i:Nat},dX (oz l n) i = .junk∨∃ s,l[i]? = some s/\dX (oz l n) i=s
 | _,0,i=>by left;simp[oz,dX,nA]
 | [],n+1,0=>by left;simp[oz,dX,nA]
 | [],n+1,i+1=>by
  rcases Kt (l:=[]) with h|⟨s,h,_⟩
  .simpa[oz,dX,nA] using h
  .simp at h
 | v::l,n+1,0=>by right;exact⟨v,aA,by simp[oz,dX,nA]⟩
 | v::l,n+1,i+1=>by
  rcases Kt with h|⟨s,h,h'⟩
  .left;simpa[oz,dX,nA] using h
  .right;exact⟨s,by simpa using h,by simpa[oz,dX,nA] using h'⟩
section
variable {P:Program} {sp:fi}
theorem MV{ps:List PK}{rs:List RK}(post:bw ps->jC rs×gz ps->Prop){f:FuncId}{fn:Func}{code:Code}(hf:P.funcs[f]? = some fn)(hb:fn.body=some code)(hs:jm P sp)(qZ:P.follows .mixedOrders=true)(an:bw ps->ce)
  {base:Nat} {svs:List SV} {h:bP} {dd:bw ps} {fz:List (Nat×Nm)} {bx:List Nat} {cx:List (Option Nat)} {q1:List Nat} (e1:(gT none ps svs).run h=some ((dd,fz,bx,cx),q1)) (hnm:yD fz bx cx=true)
  (hun:∀ i,i<gF rs+jy ps->h (base+i) = .un) (vc:yy ps dd->va (yl ps dd fn.ntmps) (sx P sp (an dd) code (Ap P ps rs fn.results.toList (post dd))))
  {w0:World} {N0:f5} {A:Nat->Prop} {env:aZ} {w:World} {vs:List Value} (hG:N0.g=sp.gl) (m:Mod w0 N0 A env h w) (hd:aR A env w svs vs) :
  Calls P f vs.toArray w λe w'=>∃ v y,e = .returned v/\post dd y∧∃ (A':Nat->Prop) (env':aZ),Mod w0 N0 A' env' (cZ (sP ps rs y base fz bx cx) h) w'∧dw A env w A' env' w'∧az A' env' w' (ru (kM (bx.headD 0) rs y.1 base)) v:=by
 simp only[yD,dM] at hnm
 obtain⟨⟨hnd,hdj⟩,hbl⟩:=hnm
 have hnd:=KN hnd
 have hdj:=NK hdj
 have hbl:=kO hbl
 obtain⟨a1,a4,a6⟩:=uo (envc:=oW env bx cx) m (Ac:=gV A env fz) (λb hb=>.inl hb) none ps svs vs dd fz bx cx q1 0 0 e1 hd (λk hk=>.inr hk)
 obtain⟨dargs,lb,lc⟩:=a6 (λ_=>rfl) (λn hn=>by cases hn) (λk n hn=>by rw[gh];exact Gx hbl hn) (λk q hq=>by rw[gh];exact am0 hq)
 rw[ip] at lb lc
 have mc:=m.call a1 hbl lb lc hdj hnd
 have hlen:bx.length=jv ps:=by
  have:=lb.get.1;rw[mq,uA] at this;exact this
 have hnd1:bx.Nodup:=(List.nodup_append.1 hnd).1
 have hvc:=vc a4
 rw[Gs] at hvc
 have hvl:=je dargs
 have live_ne:∀ q b,h q = .live b->env q ≠ .un:=λq b hq=>by
  have:=m.nm q;rw[hq] at this;rcases this with⟨k,len,e,_⟩|⟨e,_⟩ <;> rw[e] <;> simp
 have hlive:∀ n,n∈bx++jM cx→∃ b,h n = .live b/\b.mut=true/\env n ≠ .un:=λn hn=>by
  rcases dB.1 hn with hn|hn
  .obtain⟨i,hi⟩:=List.mem_iff_getElem?.1 hn;obtain⟨b',_,_,_,⟨q,b,e,h1,h2,_⟩|⟨e,_⟩⟩:=lb.get.2 i (some n) (by simp[hi])
   .simp_all
   .cases e
  .obtain⟨i,hi⟩:=List.mem_iff_getElem?.1 (vZ.1 hn);obtain⟨b',_,_,_,⟨q,b,e,h1,h2,_⟩|⟨e,_⟩⟩:=lc.get.2 i (some n) hi
   .simp_all
   .cases e
 refine calls_of_wp hf hb (ag0 (N0:=⟨DR env (bx++jM cx),gV A env fz,N0.g⟩) ⟨hs,hG⟩ qZ code _ _ _ (gV A env fz) (oW env bx cx) _ w hvc ⟨mc,?_,?_,rfl⟩ ?_)
 .simp only[St.fs,yl,GR,Array.size_append,Array.size_replicate];omega
 .intro i;simp only[St.fs,yl];rcases Kt (l:=iC ps dd 0 0) (n:=fn.ntmps) (i:=i) with hj|⟨s,h1,h2⟩
  .rw[hj];simp only[az]
  .rw[h2];obtain⟨v,hv,hdv⟩:=Cj i s dargs h1;have hi:i<vs.length:=(List.getElem?_eq_some_iff.1 hv).1;have:(vs.toArray++Array.replicate (fn.ntmps-vs.toArray.size) undef).getD i undef=v:=by
    have h3:(vs.toArray++Array.replicate (fn.ntmps-vs.toArray.size) undef)[i]? = some v:=by
     grind
    simp_all
   rw[this];exact hdv
 .intro ex S' A1 env1 act w1 hK t' x';have hend:∃ rsv y f1 owr z f2 owb,vE P fn.results.toList S'.sl (eJ S'.H)=some rsv/\mV (Nat.blt 0 (jv ps)) rs rsv (eJ S'.H)=some (y,f1,owr)/\mb ps 0 (eJ S'.H)=some (z,f2,owb) ∧
    xT (f1++f2) (owr++owb)=true/\Ca (f1++f2)=true/\post dd (y,z)/\(ex = .normal∨ex = .ret):=by
   unfold Ap at hK;split at hK
   .exact hK.elim
   .rename_i hex;split at hK
    .exact hK.elim
    .rename_i rsv hts;split at hK
     .rename_i y f1 ow z f2 ow2 h1 h2;split at hK
      .rename_i h3 h4;refine⟨rsv,y,f1,ow,z,f2,ow2,hts,h1,h2,h3,h4,hK,?_⟩;cases ex with
       | normal=>exact .inl rfl
       | ret=>exact .inr rfl
       | exit i=>exact absurd rfl (hex i)
      .exact hK.elim
     .exact hK.elim
  obtain⟨rsv,y,f1,owr,z,f2,owb,hts,ho,hob,hown,hlt,hpost,hex⟩:=hend;obtain⟨rvs,hrun,hres⟩:=aL7 t'.m t'.f hts;have hA2:∀ b,A1 b->gV A1 env1 (f1++f2) b:=λb hb=>.inl hb;have hF1:∀ k,gM env1 f1 k->gV A1 env1 (f1++f2) k:=λk ⟨n,x,l,hx,he⟩=>.inr ⟨n,x,l,gu _ hx,he⟩;have hF2:∀ k,gM env1 f2 k->gV A1 env1 (f1++f2) k:=λk ⟨n,x,l,hx,he⟩=>.inr ⟨n,x,l,jd _ hx,he⟩;have hlt:=Lf hlt;have hownS:=H3 hown;have hPQ:QN=PN+PN:=rfl;have fin:∀(As A':Nat->Prop)(hs':bP),Mod w0 N0 As env hs' w->(∀ n,n∈bx++jM cx->hs' n=h n)->(∀ i,i<gF rs+jy ps->hs' (base+i) = .un)->(∀ b,As b->A' b)->(∀ b,A' b->gV A1 env1 (f1++f2) b) →
    (∀ b,A' b->As b∨((DR env (bx++jM cx) b∨w.heap.size<=b)/\b<w1.heap.size))->(td rs=true∨∀ b,gV A1 env1 (f1++f2) b->A' b)->(mO ps=true∨∀ b,gV A1 env1 (f1++f2) b->A' b) →
    ∃ env',Mod w0 N0 A' env' (cZ (gA (bx.headD 0) ps z bx (base+gF rs)++(lU (bx.headD 0) rs y base++(iA ps z (base+gF rs)++pZ cx))) hs') w1/\dw As env w A' env' w1/\az A' env' w1 (ru (kM (bx.headD 0) rs y base)) (AL rvs):=by
   intro As A' hs' ms hsb hsu hAA hA'2 hA1' L1 L2;obtain⟨b1,b2,b3⟩:=xE (A':=A') (env':=kY (jZ bx 0++lv (owr++owb) base) env env1) t'.m hA2 (bx.headD 0) rs y _ _ f1 owr base ho hres hF1 L1;obtain⟨c1,c2,c3,c4⟩:=sZ (A':=A') (env':=kY (jZ bx 0++lv (owr++owb) base) env env1) t'.m hA2 (bx.headD 0) ps z f2 owb bx 0 (base+gF rs) hob hF2 L2 hlen;have hfo:nQ (eJ S'.H) (f1++f2):=λn b hh=>by
    rcases dB.1 hh with hh|hh
    .exact b1 n b hh
    .exact c1 n b hh
   have howl:(owr++owb).length=gF rs+jy ps:=by rw[cA,b2,c2]
   have hnotbx:∀ i,i<gF rs+jy ps->base+i ∉ bx:=λi hi hmem=>by
    grind
   have hRbox:∀ i n,bx[i]? = some n->bf (jZ bx 0++lv (owr++owb) base) n=some (some (PN+i)):=λi n hi=>by
    rw[I0,MS (j:=0) hnd1 hi,gh]
   have hRres:∀ i o,(owr++owb)[i]? = some o->bf (jZ bx 0++lv (owr++owb) base) (base+i)=some o:=λi o hi=>by
    have hlti:i<gF rs+jy ps:=by have:=(List.getElem?_eq_some_iff.1 hi).1;omega
    rw[I0,aU3 (hnotbx i hlti)];exact QT hi
   have hRinv:∀ n y,bf (jZ bx 0++lv (owr++owb) base) n=some y->(∃ i,bx[i]? = some n/\y=some (PN+i))∨∃ i,(owr++owb)[i]? = some y/\n=base+i/\i<gF rs+jy ps:=λn y hy=>by
    rw[I0] at hy;split at hy
    next x hx=>cases hy;obtain⟨i,h1,h2⟩:=FZ hx;rw[gh] at h2;exact .inl ⟨i,h1,h2⟩
    .obtain⟨i,h1,h2⟩:=Pt hy;exact .inr ⟨i,h1,h2,by have:=(List.getElem?_eq_some_iff.1 h1).1;omega⟩
   have hbxlt:∀ i n,bx[i]? = some n->i<PN:=λi n hi=>by have:=(List.getElem?_eq_some_iff.1 hi).1;omega
   have henvp:∀ i n,bx[i]? = some n->env1 (PN+i)=env n:=λi n hi=>by
    obtain⟨b,_,_,hne⟩:=hlive n (gu _ (pb hi));have:=hbxlt i n hi;have:=x'.envp (PN+i) ab ab (by rw[Gx hbl hi];exact hne);rw[this,Gx hbl hi]
   have eenv:∀ i o,(owr++owb)[i]? = some o->kY (jZ bx 0++lv (owr++owb) base) env env1 (base+i)=pf env1 o:=λi o hi=>by
    unfold kY;rw[hRres i o hi];simp only[iH,hRres i o hi];cases o <;> rfl
   have hhead:bx≠[]->kY (jZ bx 0++lv (owr++owb) base) env env1 (bx.headD 0)=env1 PN:=λhne=>by
    obtain⟨n0,r,hbx⟩:=List.exists_cons_of_ne_nil hne;have h0:bx[0]? = some (bx.headD 0):=by rw[hbx];rfl
    unfold kY;rw[hRbox 0 _ h0];simp only[iH,hRbox 0 _ h0,ip]
   obtain⟨d1,d2⟩:=b3 (λhal=>hhead (λhnil=>by
     have h0:jv ps=0:=by rw[← hlen,hnil];rfl
     rw[h0] at hal;cases hal)) (λi o hi=>eenv i o (by rw[lF (List.getElem?_eq_some_iff.1 hi).1];exact hi))
   obtain⟨d3,d4⟩:=c3 hhead (λk q hq=>by
     have:=eenv (gF rs+k) q (by rw[kw ab,b2,lu];exact hq)
     rwa [← gN] at this)
    (λk q hq=>by
     unfold kY;rw[hRbox k q hq];simp only[iH,hRbox k q hq,gh])
   have hlookA:∀ q b k l,eJ S'.H q = .live b->b.mut=true->env1 q = .blk k l->q ∉ (f1++f2).map (·.1)→¬ A' k:=λq b k l hq hbm he hqn hA'=>by
    have mf:=(t'.m.freeze hfo).1;have:cZ (f1++f2) S'.fs.h q = .live b:=by rw[nY hqn];exact hq
    exact (mf.live_blk this he).2 hbm (hA'2 k hA')
   suffices hk:Mod w0 N0 A' (kY (jZ bx 0++lv (owr++owb) base) env env1) (cZ (gA (bx.headD 0) ps z bx (base+gF rs)++(lU (bx.headD 0) rs y base++(iA ps z (base+gF rs)++pZ cx))) hs') w1/\dw As env w A' (kY (jZ bx 0++lv (owr++owb) base) env env1) w1 by
    exact⟨_,hk.1,hk.2,aH2 d1⟩
   have hnew:∀{l:List (Nat×Nm)}{os:List (Option Nat)}{n0:Nat},jU A' env1 (eJ S'.H) (kY (jZ bx 0++lv (owr++owb) base) env env1) w1 os l (base+n0)->(∀ i o,os[i]? = some o->(owr++owb)[n0+i]? = some o)→∀ n x,(n,x)∈l →
     ∃ b,x = .live b/\b.mut=true/\((∃ m b0,bf (jZ bx 0++lv (owr++owb) base) n=some (some m)/\eJ S'.H m = .live b0/\b0.mut=true ∧
      (∀ k len,env1 m = .blk k len->jX A' (kY (jZ bx 0++lv (owr++owb) base) env env1) w1 k len b)/\(env1 m = .nil→∃ E t,b = .row E t []))∨(bf (jZ bx 0++lv (owr++owb) base) n=some none∧∃ E t,b = .row E t [])):=by
    intro l os n0 hl hos n x hx;have:∀{os:List (Option Nat)}{l:List (Nat×Nm)}{k0:Nat},jU A' env1 (eJ S'.H) (kY (jZ bx 0++lv (owr++owb) base) env env1) w1 os l k0→∀ n x,(n,x)∈l→∃ i o b',os[i]? = some o/\n=k0+i/\x = .live b'∧b'.mut=true ∧
      ((∃ q b,o=some q/\eJ S'.H q = .live b/\b.mut=true/\(∀ k len,env1 q = .blk k len->jX A' (kY (jZ bx 0++lv (owr++owb) base) env env1) w1 k len b')/\(env1 q = .nil→∃ E t,b' = .row E t []))∨(o=none∧∃ E t,b' = .row E t [])):=by
     intro os
     induction os with
     | nil=>intro l k0 hl n x hx;cases l with
      | nil=>cases hx
      | cons p l=>exact hl.elim
     | cons o os ih =>
      intro l k0 hl n x hx;cases l with
      | nil=>cases hx
      | cons p l =>
       obtain⟨m',y'⟩:=p;obtain⟨⟨hm,b',g1,g2,g3⟩,hr⟩:=hl;rcases dK.1 hx with e|hx
       .cases e;exact⟨0,o,b',rfl,ab,g1,g2,g3⟩
       .obtain⟨i,o',b'',k1,k2,k3⟩:=ih hr n x hx;exact⟨i+1,o',b'',by simpa using k1,ab,k3⟩
    obtain⟨i,o,b',k1,rfl,k3,k4,k5⟩:=this hl n x hx;have hr:=hRres _ _ (hos i o k1);rw[← gN] at hr;refine⟨b',k3,k4,?_⟩;rcases k5 with⟨q,b,rfl,g1,g2,g3,g4⟩|⟨rfl,g1⟩
    .exact .inl ⟨q,b,hr,g1,g2,g3,g4⟩
    .exact .inr ⟨hr,g1⟩
   refine Mod.retn (R:=jZ bx 0++lv (owr++owb) base) (U:=gA (bx.headD 0) ps z bx (base+gF rs)++(lU (bx.headD 0) rs y base++(iA ps z (base+gF rs)++pZ cx))) (A':=A') ms t'.m x'.shape ?_ ?_ ?_ ?_ ?_ hAA hA1' ?_
   .intro n x hx;rcases dB.1 hx with hx|hx
    .obtain⟨i,b,b0,h1,h2,h3,h4,h5,h6,h7⟩:=d4 n x hx;rw[gh] at h4 h6 h7;exact .inr ⟨b,h2,h3,.inl ⟨PN+i,b0,hRbox i n h1,h4,h5,h6,h7⟩⟩
    .rcases dB.1 hx with hx|hx
     .exact .inr (hnew (n0:=0) (by rw[ip];exact d2) (λi o hi=>by rw[gh,lF (List.getElem?_eq_some_iff.1 hi).1];exact hi) n x hx)
     .rcases dB.1 hx with hx|hx
      .exact .inr (hnew d3 (λi o hi=>by rw[kw ab,b2,lu];exact hi) n x hx)
      .exact .inl (Hk hx).1
   .intro n hn;obtain⟨y',hy⟩:=Option.ne_none_iff_exists'.1 hn;simp only[lG];rcases hRinv n y' hy with⟨i,h1,_⟩|⟨i,h1,rfl,hi⟩
    .exact gu _ (c4 n (pb h1))
    .refine jd _ ?_;by_cases hlt':i<gF rs
     .refine gu _ ?_;obtain⟨b',_,hmem,_⟩:=d2.get.2 i _ (by rw[lF ab] at h1;exact h1);exact sr (f:=(·.1)) hmem
     .refine jd _ (gu _ ?_);obtain⟨b',_,hmem,_⟩:=d3.get.2 (i-gF rs) _ (by rw[kw ab,b2] at h1;exact h1);have:=sr (f:=(·.1)) hmem
      rwa [show base+gF rs+(i-gF rs)=base+i from by omega] at this
   .intro n n' q hn hn';rcases hRinv n _ hn with⟨i,h1,h2⟩|⟨i,h1,rfl,_⟩ <;> rcases hRinv n' _ hn' with⟨i',h1',h2'⟩|⟨i',h1',rfl,_⟩
    .simp only[bq] at h2 h2';have:i=i':=ab;subst this;rw[h1] at h1';exact Option.some.inj h1'
    .simp only[bq] at h2;have:=(hownS i' q h1').1;have:=hbxlt _ _ h1;omega
    .simp only[bq] at h2';have:=(hownS i q h1).1;have:=hbxlt _ _ h1';omega
    .rw[(hownS i q h1).2.2 i' h1']
   .intro n hn;obtain⟨y',hy⟩:=Option.ne_none_iff_exists'.1 hn;rcases hRinv n y' hy with⟨i,h1,rfl⟩|⟨i,h1,rfl,h2⟩
    .have hmem:n∈bx++jM cx:=gu _ (pb h1);obtain⟨b,g2',g3',_⟩:=hlive n hmem;exact .inr ⟨b,by rw[hsb n hmem];exact g2',g3',by rw[ug hy];exact henvp i n h1⟩
    .exact .inl (hsu i h2)
   .rintro k ⟨n,l,hn,he⟩;obtain⟨b,g2',g3',_⟩:=hlive n hn;refine⟨n,b,l,?_,by rw[hsb n hn];exact g2',g3',he⟩;simp only[lG,Ky];rcases dB.1 hn with hn|hn
    .exact gu _ (c4 n hn)
    .exact jd _ (jd _ (jd _ hn))
   .rintro q b k l hq hbm he ⟨n,hn⟩;refine hlookA q b k l hq hbm he λhmem=>?_;rcases hRinv n _ hn with⟨i,h1,h2⟩|⟨i,h1,rfl,_⟩
    .simp only[bq] at h2;have:=hlt q hmem;have:=hbxlt _ _ h1;omega
    .exact (hownS i q h1).2.1 hmem
  suffices hfin:∃ (A':Nat->Prop) (env':aZ),Mod w0 N0 A' env' (cZ (sP ps rs (y,z) base fz bx cx) h) w1/\dw A env w A' env' w1/\az A' env' w1 (ru (kM (bx.headD 0) rs y base)) (AL rvs) by
   have hthis:act.defers=[]∧∃ v,(results fn act.tmps).run P w1 = .ok v w1∧∃ v' y',Ending.returned v = .returned v'∧post dd y'∧∃ (A':Nat->Prop) (env':aZ),Mod w0 N0 A' env' (cZ (sP ps rs y' base fz bx cx) h) w1/\dw A env w A' env' w1/\az A' env' w1 (ru (kM (bx.headD 0) rs y'.1 base)) v' :=
    ⟨t'.dfr,_,hrun,_,(y,z),rfl,hpost,hfin⟩
   rcases hex with rfl|rfl
   .exact hthis
   .exact hthis
  unfold sP;cases hk:xi ps rs with
  | true =>
   obtain⟨mf,xf⟩:=m.freeze a1;have hback:∀ b,gV A1 env1 (f1++f2) b->gV A env fz b∨((DR env (bx++jM cx) b∨w.heap.size<=b)/\b<w1.heap.size):=by
    intro b hb;have hfo:nQ (eJ S'.H) (f1++f2):=by
     obtain⟨b1,_⟩:=xE (A':=gV A1 env1 (f1++f2)) (env':=env1) t'.m hA2 (bx.headD 0) rs y _ _ f1 owr base ho hres hF1 (.inr λb hb=>hb);obtain⟨c1,_⟩:=sZ (A':=gV A1 env1 (f1++f2)) (env':=env1) t'.m hA2 (bx.headD 0) ps z f2 owb bx 0 base hob hF2 (.inr λb hb=>hb) hlen;intro n b hh;rcases dB.1 hh with hh|hh
     .exact b1 n b hh
     .exact c1 n b hh
    have hAlt:=(t'.m.freeze hfo).1.Alt b hb;rcases hb with hb|⟨n,x,l,hx,he⟩
    .rcases t'.m.fresh b hb with h1|h1|h1
     .exact .inl h1
     .grind
     .exact .inr ⟨.inr h1,hAlt⟩
    .obtain⟨E,t,xs,hl,_⟩:=hfo n x hx;rcases t'.m.own n _ b l hl rfl he with h1|h1
     .exact .inr ⟨.inl h1,hAlt⟩
     .exact .inr ⟨.inr h1,hAlt⟩
   obtain⟨env',k1,k2,k3⟩:=fin (gV A env fz) (gV A1 env1 (f1++f2)) (cZ fz h) mf (λn hn=>nY (hdj n hn)) (λi hi=>by
     rw[nY]
     .exact hun i hi
     .intro hmem;obtain⟨⟨n,x⟩,hx,he⟩:=List.mem_map.1 hmem;simp only at he;subst he;obtain⟨E,t,xs,hl,_⟩:=a1 _ _ hx;rw[hun i hi] at hl;cases hl)
    (λb hb=>.inl (x'.imm b hb)) (λb hb=>hb) hback (.inr λb hb=>hb) (.inr λb hb=>hb)
   refine⟨_,env',?_,xf.trans k2,k3⟩;rw[H1];exact k1
  | false =>
   have hpl:td rs=true/\mO ps=true:=by
    simpa[xi] using hk
   obtain⟨env',k1,k2,k3⟩:=fin A A h m (λn hn=>rfl) hun (λb hb=>hb) (λb hb=>.inl (x'.imm b (.inl hb))) (λb hb=>.inl hb) (.inl hpl.1) (.inl hpl.2);refine⟨_,env',?_,k2,k3⟩;rw[jx];exact k1
def xC:(rs:List RK)->jC rs->jC rs->List Prop
 | [],_,_=>[]
 | _::rs,x,y=>(x.1=y.1)::xC rs x.2 y.2
def ph:(ps:List PK)->gz ps->gz ps->List Prop
 | [],_,_=>[]
 | .val _::ps,x,y=>ph ps x y
 | .agg _::ps,x,y=>ph ps x y
 | .own _ _::ps,x,y=>ph ps x y
 | .ago _::ps,x,y=>ph ps x y
 | .fn _ _::ps,x,y=>ph ps x y
 | .nils::ps,x,y=>ph ps x y
 | .box _ _::ps,x,y=>(x.1=y.1)::ph ps x.2 y.2
 | .row _ _::ps,x,y=>(x.1=y.1)::ph ps x.2 y.2
theorem Pk:∀{rs:List RK}{x y:jC rs},bV (xC rs x y)->x=y
 | [],x,y,_=>rfl
 | _::rs,x,y,h=>Prod.ext h.1 (Pk (rs:=rs) h.2)
theorem uB:∀{ps:List PK}{x y:gz ps},bV (ph ps x y)->x=y
 | [],x,y,_=>rfl
 | .val _::ps,x,y,h=>uB (ps:=ps) h
 | .agg _::ps,x,y,h=>uB (ps:=ps) h
 | .own _ _::ps,x,y,h=>uB (ps:=ps) h
 | .ago _::ps,x,y,h=>uB (ps:=ps) h
 | .fn _ _::ps,x,y,h=>uB (ps:=ps) h
 | .nils::ps,x,y,h=>uB (ps:=ps) h
 | .box _ _::ps,x,y,h=>Prod.ext h.1 (uB h.2)
 | .row _ _::ps,x,y,h=>Prod.ext h.1 (uB h.2)
theorem Hp:∀{rs:List RK}{x:jC rs},bV (xC rs x x)
 | [],_=>trivial
 | _::rs,x=>⟨rfl,Hp (rs:=rs)⟩
theorem th:∀{ps:List PK}{x:gz ps},bV (ph ps x x)
 | [],_=>trivial
 | .val _::ps,x=>th (ps:=ps)
 | .agg _::ps,x=>th (ps:=ps)
 | .own _ _::ps,x=>th (ps:=ps)
 | .ago _::ps,x=>th (ps:=ps)
 | .fn _ _::ps,x=>th (ps:=ps)
 | .nils::ps,x=>th (ps:=ps)
 | .box _ _::ps,x=>⟨rfl,th⟩
 | .row _ _::ps,x=>⟨rfl,th⟩
theorem Ct.ok(c:Ct){f:FuncId}{b:Func}{code:Code}(hf:P.funcs[f]? = some b)(hb:b.body=some code)(hs:jm P sp)(a:P.follows .mixedOrders=true)(n:bw c.ps->ce)
  (vc:xG c.ps λd=>yy c.ps d->qO (c.pre d)->va (yl c.ps d b.ntmps) (sx P sp (n d) code (Ap P c.ps c.rs b.results.toList λy=>qO (xC c.rs y.1 (c.out d).1++ph c.ps y.2 (c.out d).2)))):oT P sp.gl f c.spec:=by
 intro base svs h d r e hp w0 N0 A env w vs hG m hd
 obtain⟨⟨o,fz,bx,cx⟩,q1,q2,e1,g,rfl⟩:=Q.run_bind _ _ _ e
 split at g
 case h_2=>cases g
 rename_i i
 obtain⟨rfl,j⟩:=CQ g
 refine (MV (λd y=>qO (xC c.rs y.1 (c.out d).1++ph c.ps y.2 (c.out d).2)) hf hb hs a n e1 i j (λhw=>Ik.1 vc o hw (zb.2 hp)) hG m hd).mono ?_
 rintro e' w' ⟨v,y,rfl,hy,A',env',h1,h2,h3⟩
 obtain⟨k,l⟩:=qm.1 (zb.1 hy)
 have:y=c.out o:=Prod.ext (Pk k) (uB l)
 subst this
 exact⟨v,rfl,(),A',env',bv,h1,h2,h3⟩
theorem Cn.ok(c:Cn){f:FuncId}{g:Func}{code:Code}(hf:P.funcs[f]? = some g)(hb:g.body=some code)(hs:jm P sp)(a:P.follows .mixedOrders=true)(l:bw c.ps->ce)
  (vc:xG c.ps λd=>yy c.ps d->qO (c.pre d)->va (yl c.ps d g.ntmps) (sx P sp (l d) code (Ap P c.ps c.rs g.results.toList (c.post d)))):oT P sp.gl f c.spec:=by
 intro b svs h d r e hp w0 N0 A env w vs hG m hd
 obtain⟨⟨dd,fz,bx,cx⟩,q1,q2,e1,i,rfl⟩:=Q.run_bind _ _ _ e
 split at i
 case h_2=>cases i
 rename_i j
 obtain⟨rfl,k⟩:=CQ i
 refine (MV c.post hf hb hs a l e1 j k (λhw=>Ik.1 vc dd hw (zb.2 hp)) hG m hd).mono ?_
 rintro e' w' ⟨v,y,rfl,hy,A',env',h1,h2,h3⟩
 refine⟨v,rfl,y,A',env',hy,?_,h2,h3⟩
 show Mod w0 N0 A' env' (cZ ((zi c.ps c.rs b fz bx cx).map λp=>(p.1,p.2 y)) h) w'
 rw[K6];exact h1
def Ct.nspec(c:Ct):Spec:=λbase svs=>(gT none c.ps svs).bind λp=>match yD p.2.1 p.2.2.1 p.2.2.2 with
 | true=>rB base (gF c.rs+jy c.ps) (.nd (jC c.rs×gz c.ps) (Qe c.rs c.ps) (c.pre p.1) (λy=>qO (xC c.rs y.1 (c.out p.1).1++ph c.ps y.2 (c.out p.1).2)) (λ_=>⟨c.out p.1,zb.2 (qm.2 ⟨Hp,th⟩)⟩)
   (λy=>ru (kM (p.2.2.1.headD 0) c.rs y.1 base)) (zi c.ps c.rs base p.2.1 p.2.2.1 p.2.2.2))
 | false => .fail
theorem MQ{h:bP}{dl d:Dl}:∀{k n:Nat}{r:List Nat},(rB n k dl).run h=some (d,r)→∀ a,(rB n k a).run h=some (a,r)
 | 0,n,r,e,a=>by
  simp only[rB,Q.run,bq,br] at e ⊢;exact⟨bv,e.2⟩
 | k+1,n,r,e,a=>by
  simp only[rB,Q.run] at e ⊢;split at e
  .rename_i p q hk;obtain⟨rfl,rfl⟩:=e;split at hk
   next hun=>have:=MQ hk a;rw[this]
   .cases hk
  .cases e
universe u v
theorem Q.bind_run1{h:bP}{α:Type u}{β:Type v}(q:Q α)(f:α->Q β){a:α}{d:List Nat}{b:β}{r2:List Nat}(c:q.run h=some (a,d))(h2:(f a).run h=some (b,r2)):(q.bind f).run h=some (b,d++r2):=by
 induction q generalizing d with
 | ret x=>simp only[Q.run,bq,br] at c;obtain⟨rfl,rfl⟩:=c;simpa[Q.bind] using h2
 | ask n k ih =>
  simp only[Q.run] at c;split at c
  next x y hk=>obtain⟨rfl,rfl⟩:=c;simp only[Q.bind,Q.run,ih _ hk,mF]
  .cases c
 | fail=>cases c
theorem Ct.named{G:tx}{c:Ct}{f:FuncId}(ok:oT P G f c.spec):oT P G f c.nspec:=by
 intro a svs h d r e hp w0 N0 A env w vs hG m hd
 obtain⟨⟨b,fz,bx,cx⟩,q1,q2,e1,g,rfl⟩:=Q.run_bind _ _ _ e
 split at g
 case h_2=>cases g
 obtain⟨rfl,hun⟩:=CQ g
 have e3:=MQ g (.det (c.pre b) (ru (kM (bx.headD 0) c.rs (c.out b).1 a)) (sP c.ps c.rs (c.out b) a fz bx cx))
 have e4:(c.spec a svs).run h=some (.det (c.pre b) (ru (kM (bx.headD 0) c.rs (c.out b).1 a)) (sP c.ps c.rs (c.out b) a fz bx cx),q1++q2):=by
  refine Q.bind_run1 _ _ e1 ?_;simp_all
 refine (ok a svs h _ _ e4 hp w0 N0 A env w vs hG m hd).mono ?_
 rintro e' w' ⟨v,he,x,A',env',_,h1,h2,h3⟩
 refine⟨v,he,c.out b,A',env',zb.2 (qm.2 ⟨Hp,th⟩),?_,h2,h3⟩
 show Mod w0 N0 A' env' (cZ ((zi c.ps c.rs a fz bx cx).map λp=>(p.1,p.2 (c.out b))) h) w'
 rw[K6];exact h1
end
end Go.SX
namespace Go.SX
open Go.ChangeShapes Go.WideShapes Go.ChangeAt Go.RowKit
universe u v
def uy(P:Program)(f:CT->TypeId->Bool):List Field->CT->Nat->Bool
 | [],_,_=>false
 | [fd],t,o=>f t fd.type&&Nat.beq fd.offset o&&Nat.beq (P.cellsOf fd.type) t.size
 | fd::g::r,.pair a b,o=>f a fd.type&&Nat.beq fd.offset o&&Nat.beq (P.cellsOf fd.type) a.size&&uy P f (g::r) b (o+a.size)
 | _,_,_=>false
def vm(P:Program)(f:CT->TypeId->Bool)(e:TypeId):Nat->CT->Bool
 | 0,_=>false
 | 1,t=>f t e&&Nat.beq (P.cellsOf e) t.size
 | n+2,.pair a b=>f a e&&Nat.beq (P.cellsOf e) a.size&&vm P f e (n+1) b
 | _,_=>false
def mH(P:Program):Nat->CT->TypeId->Bool
 | 0,_,_=>false
 | n+1,t,τ=>match P.underlying τ,t with
  | some (.int k),.int k'=>lO k k'
  | some .bool,.bool=>true
  | some .string,.str=>true
  | some (.slice e),.sl u=>mH P n u e&&Nat.beq (P.cellsOf e) u.size
  | some (.struct fs),t=>uy P (mH P n) fs.toList t 0
  | some (.array k e),t=>vm P (mH P n) e k t
  | _,_=>false
section
variable {H:Type} {enc:TypeId×Value->H} {P:Program} {w:World} {base:Nat} {held:Bool}
theorem wy{A:Nat->Prop}{t:CT}{cs:List Value}{o sz:Nat}{d:t.D}(hs:sz=t.size)(h:Rd A w t (λj=>((cs.drop o).take sz)[j]?) 0 d):Rd A w t (λj=>cs[j]?) o d:=by
 have:=yo h o
 rw[gh] at this
 refine ik (λ_ h=>h) (λ_ _ _=>rfl) t _ _ _ _ (λj hj=>?_) this
 simp only[qi,lu]
 rw[am (by omega),pV]
theorem O4{A:Nat->Prop}{f:CT->TypeId->Bool}{cs:List Value}{n:Nat}
  (hf:∀ t τ cs x,f t τ=true->DataW.trod enc P w base (λ_=>true) held n τ cs=some x→∃ d,Rd A w t (λj=>cs[j]?) 0 d) :
  ∀(fs:List Field)(t:CT)(o:Nat),uy P f fs t o=true->(∀ fd∈fs,∃ x,DataW.trod enc P w base (λ_=>true) held n fd.type ((cs.drop fd.offset).take (P.cellsOf fd.type))=some x)→∃ d,Rd A w t (λj=>cs[j]?) o d
 | [],t,o,h,_=>by cases h
 | [fd],t,o,h,hx=>by
  simp only[uy,dM] at h;obtain⟨⟨h1,h2⟩,h3⟩:=h;have h2:=bG h2;have h3:=bG h3;obtain⟨x,hx⟩:=hx fd (by simp);obtain⟨d,hd⟩:=hf t fd.type _ x h1 hx;rw[h2] at hd;exact⟨d,wy h3 hd⟩
 | fd::g::r,.pair a b,o,h,hx=>by
  simp only[uy,dM] at h;obtain⟨⟨⟨h1,h2⟩,h3⟩,h4⟩:=h;have h2:=bG h2;have h3:=bG h3;obtain⟨x,hx1⟩:=hx fd (by simp);obtain⟨d,hd⟩:=hf a fd.type _ x h1 hx1;rw[h2] at hd;obtain⟨d',hd'⟩:=O4 hf (g::r) b (o+a.size) h4 (λfd' hm=>hx fd' (fM _ hm));exact⟨(d,d'),wy h3 hd,hd'⟩
 | _::_::_,.int _,_,h,_=>by cases h
 | _::_::_,.bool,_,h,_=>by cases h
 | _::_::_,.str,_,h,_=>by cases h
 | _::_::_,.sl _,_,h,_=>by cases h
theorem OO{A:Nat->Prop}{f:CT->TypeId->Bool}{cs:List Value}{n:Nat}{e:TypeId}
  (hf:∀ t τ cs x,f t τ=true->DataW.trod enc P w base (λ_=>true) held n τ cs=some x→∃ d,Rd A w t (λj=>cs[j]?) 0 d) :
  ∀(k:Nat)(t:CT)(i:Nat),vm P f e k t=true->(∀ j,i<=j->j<i+k→∃ x,DataW.trod enc P w base (λ_=>true) held n e ((cs.drop (j*P.cellsOf e)).take (P.cellsOf e))=some x)→∃ d,Rd A w t (λj=>cs[j]?) (i*P.cellsOf e) d
 | 0,t,i,h,_=>by cases h
 | 1,t,i,h,hx=>by
  simp only[vm,dM] at h;obtain⟨h1,h2⟩:=h;have h2:=bG h2;obtain⟨x,hx⟩:=hx i (by omega) (by omega);obtain⟨d,hd⟩:=hf t e _ x h1 hx;exact⟨d,wy h2 hd⟩
 | k+2,.pair a b,i,h,hx=>by
  simp only[vm,dM] at h;obtain⟨⟨h1,h2⟩,h4⟩:=h;have h2:=bG h2;obtain⟨x,hx1⟩:=hx i (by omega) (by omega);obtain⟨d,hd⟩:=hf a e _ x h1 hx1;obtain⟨d',hd'⟩:=OO hf (k+1) b (i+1) h4 (λj h1 h2=>hx j (by omega) (by omega));refine⟨(d,d'),wy h2 hd,?_⟩;rw[fS,kr] at hd';rw[← h2];exact hd'
 | _+2,.int _,_,h,_=>by cases h
 | _+2,.bool,_,h,_=>by cases h
 | _+2,.str,_,h,_=>by cases h
 | _+2,.sl _,_,h,_=>by cases h
theorem aC8{α:Type}(n:Nat)(p:Nat->α->Prop)(h:∀ i,i<n→∃ a,p i a):∃ l:List α,l.length=n∧∀ i (hi:i<l.length),p i l[i]:=by
 induction n with
 | zero=>exact⟨[],rfl,λi hi=>by simp at hi⟩
 | succ n ih =>
  obtain⟨l,hl,hp⟩:=ih λi hi=>h i (by omega);obtain⟨a,ha⟩:=h n (by omega);refine⟨l++[a],by simp[hl],λi hi=>?_⟩;by_cases hlt:i<l.length
  .rw[List.getElem_append_left hlt];exact hp i hlt
  .have:i=l.length:=by simp at hi;omega
   subst this;simp only[List.getElem_concat_length];rw[hl];exact ha
theorem KF(b off n:Nat):(⟨b,off,none⟩:Addr).add n=⟨b,off+n,none⟩:=by
 unfold Addr.add
 split
 next h=>subst h;rfl
 .rfl
theorem Oa{k:IntKind}{n:Int}(h:(Lit.int k n).wf=true):k.has n:=by
 simp only[Lit.wf,dM,mh] at h;exact h
theorem Da:∀(n:Nat)(t:CT)(τ:TypeId)(fuel:Nat)(cs:List Value)(x:DataW H×List MemPlace),mH P n t τ=true->DataW.trod enc P w base (λ_=>true) held fuel τ cs=some x →
  ∃ d,Rd (λb=>b<w.heap.size) w t (λj=>cs[j]?) 0 d
 | 0,t,τ,fuel,cs,x,h,_=>by cases h
 | n+1,t,τ,fuel,cs,x,h,hx=>by
  unfold mH at h;split at h
  next k k' hu=>cases lY h;obtain⟨m,rfl,_,hw⟩:=DataW.trod_int hu hx;exact⟨m,by simp,Oa hw⟩
  next hu=>obtain⟨b,rfl,_⟩:=DataW.trod_bool hu hx;exact⟨b,by simp[Rd]⟩
  next hu=>obtain⟨s,rfl,_,hs⟩:=DataW.trod_string hu hx;exact⟨s,by simp,hs⟩
  .rename_i e u hu;simp only[dM] at h;obtain⟨h1,h2⟩:=h;have h2:=bG h2;rcases DataW.trod_slice hu hx with⟨rfl,_⟩|⟨a,len,cap,elems,rest,m,_,rfl,_,_,hl,hm,hlen,hel,hsp,_⟩
   .exact⟨[],sw.2 ⟨_,rfl,by simp,.inl ⟨⟨_,rfl⟩,rfl⟩⟩⟩
   .have hcap:=(hsp rfl)
    by_cases h0:cap=0
    .have:len=0:=by omega
     subst this h0;exact⟨[],sw.2 ⟨_,rfl,by simp,.inl ⟨⟨_,rfl⟩,rfl⟩⟩⟩
    ·-- the cells that are there
     have first:∃ v,w.cell? a=some v:=by
      have hb:∃ cs',w.cells? base (a.add 0) (P.cellsOf e)=some cs':=by
       by_cases hl0:0<len
       .have:=hel 0 hl0;rw[Nat.zero_mul] at this;have hs:∃ y,elems[0]? = some y:=⟨_,cK (by omega)⟩
        obtain⟨y,hy⟩:=hs;rw[hy,Option.bind_eq_some_iff] at this;obtain⟨cs',hcs,_⟩:=this;exact⟨cs',hcs⟩
       .have:=hcap.2 0 (by omega);have hz:(len+0)*P.cellsOf e=0:=by
         have:len=0:=by omega
         subst this;simp
        rw[hz] at this;have hs:∃ y,rest[0]? = some y:=⟨_,cK (by omega)⟩
        obtain⟨y,hy⟩:=hs;rw[hy,Option.bind_eq_some_iff] at this;obtain⟨cs',hcs,_⟩:=this;exact⟨cs',hcs⟩
      obtain⟨cs',hcs⟩:=hb;obtain⟨_,hl1,hl2⟩:=World.cells?_some hcs;have hp:=u.size_pos;have:=hl2 0 (by omega);refine⟨cs'[0]'(by omega),?_⟩;rw[cK (by omega)] at this;simpa[Addr.add] using this
     obtain⟨v0,hv0⟩:=first
     have hspot:=World.cell?_spot hv0;obtain⟨b,off,spot⟩:=a;simp only at hspot;subst hspot;have hlt:b<w.heap.size:=by
      unfold World.cell? at hv0;simp only at hv0;split at hv0
      next c E sp hb=>exact (Array.getElem?_eq_some_iff.1 hb).1
      .cases hv0
     obtain⟨xs,hxl,hxp⟩:=aC8 len (λi d=>Rd (λb=>b<w.heap.size) w u (λo=>w.cell? ⟨b,o,none⟩) (off+i*u.size) d) λi hi=>by
      have:=hel i hi;rw[cK (by omega),Option.bind_eq_some_iff] at this;obtain⟨cs',hcs,ht⟩:=this;obtain⟨_,hl1,hl2⟩:=World.cells?_some hcs;obtain⟨d,hd⟩:=Da n u e _ cs' _ h1 ht;refine⟨d,?_⟩;have:=yo hd (off+i*u.size);rw[gh] at this;refine ik (λ_ h=>h) (λ_ _ _=>rfl) u _ _ _ _ (λj hj=>?_) this;have:=hl2 j (by omega);rw[KF,KF,h2] at this;rw[lu,← this]
     subst hxl;exact⟨xs,sw.2 ⟨_,rfl,by omega,.inr ⟨b,off,cap,rfl,hl,hm,hlt,λi hi=>hxp i hi⟩⟩⟩
  .rename_i t' fs hu;obtain⟨xs,m,_,_,hl,hlen,hf⟩:=DataW.trod_struct hu hx;refine O4 (n:=m) (λt τ cs x h1 h2=>Da n t τ m cs x h1 h2) fs.toList _ 0 h λfd hm=>?_;obtain⟨i,hi,rfl⟩:=List.mem_iff_getElem.1 hm;have:=hf i fs[i] (Array.getElem?_eq_getElem (by simpa using hi));have hi':i<fs.size:=by simpa using hi
   rw[cK (by omega)] at this;exact⟨_,by simpa using this⟩
  .rename_i t' k e hu;obtain⟨xs,m,_,_,hl,hlen,hf⟩:=DataW.trod_array hu hx;have:=OO (n:=m) (cs:=cs) (e:=e) (λt τ cs x h1 h2=>Da n t τ m cs x h1 h2) k _ 0 h λj _ hj=>by
    have:=hf j (by omega);rw[cK (by omega)] at this;exact⟨_,this⟩
   simpa using this
  .cases h
abbrev o7:=List (Bool×CT)
def kT:o7->List PK
 | []=>[]
 | (true,t)::r => .agg t::kT r
 | (false,t)::r => .val t::kT r
def yC:(l:o7)->gz (kT l)
 | []=>()
 | (true,_)::r=>yC r
 | (false,_)::r=>yC r
def CA(l:o7):Ct:=⟨kT l,[.val .bool],λ_=>[],λ_=>((true,()),yC l)⟩
def tm(P:Program)(τ:TypeId):Bool:=match P.underlying τ with
 | some (.struct _)=>true
 | some (.array _ _)=>true
 | _=>false
def C4:CT->Bool
 | .pair _ _=>false
 | _=>true
def AO(P:Program):o7->List TypeId->Bool
 | [],[]=>true
 | (b,t)::r,τ::τs=>(match b,tm P τ with|true,true=>true|false,false=>C4 t|_,_=>false)&&mH P 12 t τ&&Nat.beq (P.cellsOf τ) t.size&&AO P r τs
 | _,_=>false
theorem ai6{r:Reach}{b0:Nat}{τ:TypeId}{v:Value}(h:tm P τ=true)(hv:Value.okWide P w r b0 τ v):∃ vs,v = .agg vs/\vs.size=P.cellsOf τ:=by
 unfold tm at h
 unfold Value.okWide at hv
 split at h
 next fs hu=>rw[hu] at hv;obtain⟨cs,h1,h2,_⟩:=hv;exact⟨cs,h1,h2⟩
 next fs hu=>rw[hu] at hv;obtain⟨cs,h1,h2,_⟩:=hv;exact⟨cs,h1,h2⟩
 .cases h
theorem aF1{r:Reach}{b0:Nat}{τ:TypeId}{v:Value}(ht:P.underlying τ=some .bool)(h:Value.okWide P w r b0 τ v):∃ b,v = .bool b:=by
 simp only[Value.okWide,ht,Cell.okWide] at h
 cases v <;> simp_all[Cell.ok]
theorem ak1{r:Reach}{b0:Nat}{n:Nat}{t:CT}{τ:TypeId}{v:Value}(hf:C4 t=true)(hq:tm P τ=false)(h:mH P n t τ=true)(hv:Value.okWide P w r b0 τ v):v.cells = #[v]:=by
 cases n with
 | zero=>cases h
 | succ n =>
  unfold mH at h;split at h
  next k k' hu=>obtain⟨m,rfl⟩:=okWide_int hu hv;rfl
  next hu=>obtain⟨m,rfl⟩:=aF1 hu hv;rfl
  next hu=>obtain⟨m,rfl⟩:=okWide_string hu hv;rfl
  next e u hu=>obtain⟨a,l,c,rfl⟩:=okWide_slice hu hv;rfl
  next t' fs hu=>unfold tm at hq;rw[hu] at hq;cases hq
  next t' k e hu=>unfold tm at hq;rw[hu] at hq;cases hq
  .cases h
theorem ab8(k:IntKind):lO k k=true:=by cases k <;> rfl
theorem U7{t:CT}{xs:List t.D}:hY t t xs=some xs:=by unfold hY;rw[dif_pos rfl]
theorem ED{h:bP}:∀(t:CT)(d:t.D)(rest:List SV),(jz t (dU t d++rest)).run h=some ((d,rest,[]),[])
 | .int k,d,rest=>by simp only[dU,mF,si,jz,ab8];rfl
 | .bool,d,rest=>rfl
 | .str,d,rest=>rfl
 | .sl t,d,rest=>by simp only[dU,mF,si,jz,U7];rfl
 | .pair a b,d,rest=>by
  have bindrun:∀{α β:Type}(q:Q α)(f:α->Q β)(x:α)(y:β),q.run h=some (x,[])->(f x).run h=some (y,[])->(q.bind f).run h=some (y,[]):=by
   intro α β q
   induction q with
   | ret a=>intro f x y h1 h2;simp only[Q.run,bq,br] at h1;rw[← h1.1] at h2;exact h2
   | ask n k ih =>
    intro f x y h1 h2;simp only[Q.run] at h1;split at h1
    .simp only[bq,br] at h1;exact absurd h1.2 (by simp)
    .cases h1
   | fail=>intro f x y h1 h2;cases h1
  simp only[dU,iL,jz];refine bindrun _ _ _ _ (ED a d.1 (dU b d.2++rest)) ?_;exact bindrun _ _ _ _ (ED b d.2 rest) rfl
theorem Q.bind_run0{h:bP}{α:Type u}{β:Type v}(q:Q α)(f:α->Q β)(x:α)(y:β)(h1:q.run h=some (x,[]))(h2:(f x).run h=some (y,[])):(q.bind f).run h=some (y,[]):=by
 cases q with
 | ret a=>simp only[Q.run,bq,br] at h1;rw[← h1.1] at h2;exact h2
 | ask n k =>
  simp only[Q.run] at h1;split at h1
  .simp only[bq,br] at h1;exact absurd h1.2 (by simp)
  .cases h1
 | fail=>cases h1
theorem ae5{t:CT}(hf:C4 t=true)(d:t.D):dU t d=[Au t d]:=by
 cases t <;> first|rfl|cases hf
def yA:o7->Bool
 | []=>true
 | (b,t)::r=>(b||C4 t)&&yA r
theorem IA{h:bP}:∀(l:o7)(d:bw (kT l)),yA l=true->(gT none (kT l) (iC (kT l) d 0 0)).run h=some ((d,[],[],[]),[])
 | [],d,_=>rfl
 | (true,t)::r,d,hok=>by
  simp only[yA,dM] at hok;simp only[kT,iC,gT];refine Q.bind_run0 _ _ _ _ (by have:=ED (h:=h) t d.1 [];rw[jx] at this;exact this) ?_;exact Q.bind_run0 _ _ _ _ (IA r d.2 hok.2) rfl
 | (false,t)::r,d,hok=>by
  simp only[yA,dM,Bool.false_or] at hok;simp only[kT,iC,gT];refine Q.bind_run0 _ _ _ _ (by have:=ED (h:=h) t d.1 [];rw[jx,ae5 hok.1] at this;exact this) ?_;exact Q.bind_run0 _ _ _ _ (IA r d.2 hok.2) rfl
theorem Ns{r:Reach}{b0:Nat}:∀(l:o7)(τs:List TypeId)(vs:List Value)(ds:List (DataW H))(ps:List MemPlace),AO P l τs=true->DataW.TrodAll enc P w base (λ_=>true) held τs vs ds ps →
  (∀(j:Nat) t v,τs[j]? = some t->vs[j]? = some v->Value.okWide P w r b0 t v)->yA l=true∧∃ d:bw (kT l),aR (λb=>b<w.heap.size) (λ_=>.un) w (iC (kT l) d 0 0) vs
 | [],[],vs,ds,ps,h,ht,hv=>by
  obtain⟨rfl,_,_⟩:=trodAll_nil ht;exact⟨rfl,(),by simp[kT,iC,aR]⟩
 | (b,t)::l,τ::τs,vs,ds,ps,h,ht,hv=>by
  obtain⟨v,vs',d,ds',p,q,rfl,rfl,rfl,h0,hr⟩:=trodAll_cons ht;simp only[AO,dM] at h;obtain⟨⟨⟨h1,h2⟩,h3⟩,h4⟩:=h;have h3:=bG h3;obtain⟨g1,d2,g2⟩:=Ns l τs vs' ds' q h4 hr (λj t v ht hv'=>hv (j+1) t v (by simpa using ht) (by simpa using hv'));have hv0:=hv 0 τ v rfl rfl;obtain⟨fuel,hf⟩:=h0;obtain⟨d1,hd1⟩:=Da 12 t τ fuel _ _ h2 hf;cases b with
  | true =>
   have hag:tm P τ=true:=by
    cases hq:tm P τ with
    | true=>rfl
    | false=>rw[hq] at h1;cases h1
   obtain⟨us,rfl,hus⟩:=ai6 hag hv0;refine⟨by simp[yA,g1],(d1,d2),?_⟩;simp only[kT,iC,aR,az];refine⟨_,vs',rfl,⟨us,rfl,Dj (by simpa using hus.trans h3) (by simpa[Value.cells] using hd1)⟩,g2⟩
  | false =>
   have hq:tm P τ=false:=by
    cases hq:tm P τ with
    | true=>rw[hq] at h1;cases h1
    | false=>rfl
   rw[hq] at h1;simp only at h1;refine⟨by simp[yA,g1,h1],(d1,d2),?_⟩;simp only[kT,iC,aR];have hc:=ak1 h1 hq h2 hv0;rw[hc] at hd1;exact⟨v,vs',rfl,Kx (rest:=[]) (by simpa using hd1),g2⟩
 | [],_::_,_,_,_,h,_,_=>by cases h
 | _::_,[],_,_,_,h,_,_=>by cases h
def GlobsOK(w:World)(G:tx):Prop:=∀ g x,G g=some x->g<w.heap.size/\Rd (λb=>b<w.heap.size) w x.1 (λo=>w.cell? ⟨g,o,none⟩) 0 x.2
theorem law_walkG{G:tx}(hG:GlobsOK w G){f:FuncId}{l:o7}(ok:oT P G f (CA l).spec){r:Reach}{b0:Nat}{τs:List TypeId}{args:Array Value}{ds:List (DataW H)}{ps:List MemPlace}(hl:AO P l τs=true)
  (ht:DataW.TrodAll enc P w base (λ_=>true) held τs args.toList ds ps) (hv:∀(j:Nat) t v,τs.toArray[j]? = some t->args[j]? = some v->Value.okWide P w r b0 t v) :
  Calls P f args w λe w'=>e = .returned (.bool true)/\Below w.heap.size w w':=by
 obtain⟨hok,d,hd⟩:=Ns l τs args.toList ds ps hl ht (λj t v h1 h2=>hv j t v (by simpa using h1) (by simpa using h2))
 have hkeep:xi (kT l) [.val .bool]=false:=by
  have:∀ l:o7,mO (kT l)=true:=by
   intro l
   induction l with
   | nil=>rfl
   | cons x l ih=>obtain⟨b,t⟩:=x;cases b <;> exact ih
  simp only[xi,this,td,CT.plain,Bool.and_self,Bool.not_true]
 have hbU:∀ nb,gA 0 (kT l) (yC l) [] nb=[]:=by
  intro nb
  induction l with
  | nil=>rfl
  | cons x l ih =>
   obtain⟨b,t⟩:=x;have:∀ l:o7,gA 0 (kT l) (yC l) [] nb=[]:=by
    intro l
    induction l with
    | nil=>rfl
    | cons x l ih=>obtain⟨b,t⟩:=x;cases b <;> exact ih
   cases b <;> exact this l
 have hnU:∀(l:o7) nb,iA (kT l) (yC l) nb=[]:=by
  intro l nb
  induction l with
  | nil=>rfl
  | cons x l ih=>obtain⟨b,t⟩:=x;cases b <;> exact ih
 have hnB:∀(l:o7),jy (kT l)=0:=by
  intro l
  induction l with
  | nil=>rfl
  | cons x l ih=>obtain⟨b,t⟩:=x;cases b <;> exact ih
 have hrun:((CA l).spec 0 (iC (kT l) d 0 0)).run (λ_=>.un)=some (Dl.det [] (.bool true) [],[]):=by
  unfold Ct.spec;refine Q.bind_run0 _ _ _ _ (IA l d hok) ?_;simp only[yD,jM,jx,Bp,Bs,CA,sP,hkeep,hbU,hnU,hnB,pZ,lU,kM,ru,Au,dU,gF,rB,List.headD_nil];rfl
 have m:Mod w ⟨λ_=>False,λb=>b<w.heap.size,G⟩ (λb=>b<w.heap.size) (λ_=>.un) (λ_=>.un) w :=
  ⟨rfl,rfl,rfl,ir _,λ_ _ _=>rfl,λ_ h=>h,λ_=>rfl,λ_ _ _ _ h=>(by cases h),λ_ _ _ _ _ _ _ h=>(by cases h),λb hb=>.inl hb,hG⟩
 have:=ok 0 (iC (kT l) d 0 0) (λ_=>.un) _ _ hrun trivial w _ _ _ w args.toList rfl m hd
 refine Calls.mono this ?_
 rintro e w' ⟨v,rfl,x,A',env',_,hm,_,hden⟩
 simp only[Dl.val,az] at hden
 exact⟨by rw[hden],hm.os,hm.tape,hm.output,hm.size,λk hk=>hm.fr k hk (λh=>h)⟩
theorem law_walk{f:FuncId}{l:o7}(ok:oT P (λ_=>none) f (CA l).spec){r:Reach}{b0:Nat}{τs:List TypeId}{args:Array Value}{ds:List (DataW H)}{ps:List MemPlace}(hl:AO P l τs=true)
  (ht:DataW.TrodAll enc P w base (λ_=>true) held τs args.toList ds ps) (hv:∀(j:Nat) t v,τs.toArray[j]? = some t->args[j]? = some v->Value.okWide P w r b0 t v) :
  Calls P f args w λe w'=>e = .returned (.bool true)/\Below w.heap.size w w':=law_walkG (λg x h=>by cases h) ok hl ht hv
def Jc(P:Program):List TypeId->Bool
 | []=>true
 | t::r=>P.readableRec t&&decide (t<P.types.size)&&Jc P r
theorem trodAll_below(hl:laidOutB P=true):∀{τs:List TypeId}{vs:List Value}{ds:List (DataW H)}{ps:List MemPlace}{w':World},Jc P τs=true →
  DataW.TrodAll enc P w 0 (λ_=>true) true τs vs ds ps->Below w.heap.size w w'→DataW.TrodAll enc P w' 0 (λb=>decide (b<w.heap.size)) true τs vs ds ps
 | [],vs,ds,ps,w',_,h,hb=>by
  obtain⟨rfl,rfl,rfl⟩:=trodAll_nil h;exact trodAll_mk0
 | τ::τs,vs,ds,ps,w',hr,h,hb=>by
  obtain⟨v,vs',d,ds',p,q,rfl,rfl,rfl,h0,hr'⟩:=trodAll_cons h;simp only[Jc,dM,mh] at hr;have lt:∀ x∈p,x.block<w.heap.size:=by
   obtain⟨m,hm⟩:=h0;exact DataW.trod_lt m _ _ _ hm
  exact trodAll_cons_mk (Below.trod hl hr.1.1 hr.1.2 h0 hb lt) (trodAll_below hl hr.2 hr' hb)
end
end Go.SX
namespace Go.SX
def yQ(fn:Func):Code:=match fn.body with
 | some c=>c
 | none => .skip
def Ct.vc(P:Program)(sp:fi)(c:Ct)(fn:Func)(an:bw c.ps->ce):Prop :=
 xG c.ps λd=>yy c.ps d->qO (c.pre d)->va (yl c.ps d fn.ntmps) (sx P sp (an d) (yQ fn) (Ap P c.ps c.rs fn.results.toList λy=>qO (xC c.rs y.1 (c.out d).1++ph c.ps y.2 (c.out d).2)))
structure Jf (p:Prop):Prop where
 out:p
theorem NQ{p q:Prop}(h:p=q)(v:q):Jf p:=⟨Eq.mpr h v⟩
theorem Ct.okH{P:Program}{sp:fi}(c:Ct){f:FuncId}{fn:Func}(hf:P.funcs[f]? = some fn)(hb:fn.body=some (yQ fn))(hs:jm P sp)(qZ:P.follows .mixedOrders=true)(an:bw c.ps->ce)
  (vc:Jf (Ct.vc P sp c fn an)):oT P sp.gl f c.spec:=c.ok hf hb hs qZ an vc.out
def Cn.vc(P:Program)(sp:fi)(c:Cn)(fn:Func)(an:bw c.ps->ce):Prop :=
 xG c.ps λd=>yy c.ps d->qO (c.pre d)->va (yl c.ps d fn.ntmps) (sx P sp (an d) (yQ fn) (Ap P c.ps c.rs fn.results.toList (c.post d)))
theorem Cn.okH{P:Program}{sp:fi}(c:Cn){f:FuncId}{fn:Func}(hf:P.funcs[f]? = some fn)(hb:fn.body=some (yQ fn))(hs:jm P sp)(qZ:P.follows .mixedOrders=true)(an:bw c.ps->ce)
  (vc:Jf (Cn.vc P sp c fn an)):oT P sp.gl f c.spec:=c.ok hf hb hs qZ an vc.out
def am4(G:tx):fi:=⟨λ_=>none,G⟩
theorem aC{P:Program}{G:tx}:jm P (am4 G):=λf s h=>by cases h
def z5(sp:fi)(f:FuncId)(s:Spec):fi:=⟨λg=>match Nat.beq g f with
 | true=>some s
 | false=>sp.fn g,sp.gl⟩
theorem av{P:Program}{sp:fi}{f:FuncId}{s:Spec}(h:jm P sp)(hs:oT P sp.gl f s):jm P (z5 sp f s):=λg t e=>by
 unfold z5 at e
 simp only at e
 split at e
 next hb=>cases e;rw[bG hb];exact hs
 .exact h g t e
def av7(sp:fi)(d:Nat):fi:=z5 sp (4000000000+d) λ_ _=>.fail
theorem M8{P:Program}{sp:fi}{d:Nat}(h:jm P sp):jm P (av7 sp d):=av h λ_ _ _ _ _ e=>by cases e
def ar8(sp:fi)(d:Nat):fi:=z5 sp (4100000000+d) λ_ _=>.fail
theorem av5{P:Program}{sp:fi}{d:Nat}(h:jm P sp):jm P (ar8 sp d):=av h λ_ _ _ _ _ e=>by cases e
def ac8(sp:fi):fi:=z5 sp 4200000000 λ_ _=>.fail
theorem Xt{P:Program}{sp:fi}(h:jm P sp):jm P (ac8 sp):=av h λ_ _ _ _ _ e=>by cases e
def aV0(sp:fi)(d n:Nat):fi:=z5 sp (4400000000+d) λ_ _=>.ask n λ_=>.fail
theorem Zp{P:Program}{sp:fi}{d n:Nat}(h:jm P sp):jm P (aV0 sp d n):=av h λ_ _ _ _ _ e=>by simp[Q.run] at e
theorem aK8{b:Bool}{y n:Prop}:ao b y n↔(b=true->y)/\(b=false->n):=by cases b <;> simp[ao]
theorem aG{n:Int}(h : -9223372036854775808<=n)(h':n<=9223372036854775807):IntKind.i64.wrap n=n:=IntWalk.i64_in n ⟨h,h'⟩
theorem qy{n:Int}(h:0<=n)(h':n<=4294967295):IntKind.u32.wrap n=n:=IntWalk.u32_in n ⟨h,h'⟩
theorem Mv{n:Int}(h:0<=n)(h':n<=18446744073709551615):IntKind.u64.wrap n=n:=IntWalk.u64_in n ⟨h,h'⟩
theorem Wf{y n:Prop}:ao true y n↔y:=m5
theorem uM{y n:Prop}:ao false y n↔n:=m5
theorem bR{α:Type} [Inhabited α] {xs:List α} {i:Int} (h0:0<=i) (h1:i<xs.length):xs.getD i.toNat default∈xs:=by
 have h:i.toNat<xs.length:=by omega
 rw[bJ,cK h];exact List.getElem_mem h
theorem r5{a b:Int}(ha:0<=a):0<=a.tmod b:=Int.tmod_nonneg b ha
theorem rY{a b:Int}(ha:0<=a)(hb:0<b):a.tmod b<b:=Int.tmod_lt_of_pos a hb
theorem aw{b:Bool}{y n:Prop}(hy:b=true->y)(hn:b=false->n):ao b y n:=aK8.2 ⟨hy,hn⟩
theorem RZ(n:Int) : -9223372036854775808<=IntKind.i64.wrap n/\IntKind.i64.wrap n<=9223372036854775807:=IntKind.wrap_has .i64 n
theorem RX(n:Int):0<=IntKind.u32.wrap n/\IntKind.u32.wrap n<=4294967295:=IntKind.wrap_has .u32 n
theorem K5{α:Type} [Inhabited α] {p:α->Prop} {xs:List α} (h:∀ x∈xs,p x) {i:Int} (h0:0<=i) (h1:i<xs.length):p (xs.getD i.toNat default):=h _ (bR h0 h1)
theorem gH{p:Prop} [Decidable p] (h:(!decide p)=true):¬ p:=aL (by simpa only[rP] using h)
theorem iP{p:Prop} [Decidable p] (h:(!decide p)=false):p:=aI (by simpa only[vK] using h)
theorem rX{a b:Bool}{y n:Prop}(hy:a=true∨b=true->y)(hn:a=false->b=false->n):ao (bif a then true else b) y n:=by
 cases a with
 | true=>exact hy (.inl rfl)
 | false=>cases b with
  | true=>exact hy (.inr rfl)
  | false=>exact hn rfl rfl
theorem u5{a b:Bool}{y n:Prop}(hy:a=true->b=true->y)(hn:a=false∨b=false->n):ao (bif a then b else false) y n:=by
 cases a with
 | false=>exact hn (.inl rfl)
 | true=>cases b with
  | true=>exact hy rfl rfl
  | false=>exact hn (.inr rfl)
theorem kv{α:Type} [Inhabited α] {l:List α} {i:Nat} {a:α} (h:i<l.length):(l.set i a).getD i default=a:=by
 rw[bJ,List.getElem?_set_self h];rfl
theorem xx{α:Type} [Inhabited α] {q:α->Bool} {l:List α} {j:Int} (h0:0<=j) (h1:j<l.length) (h2:∀ x∈l.take j.toNat,q x=false) (h3:q (l.getD j.toNat default)=true) :
  j=if l.findIdx q<l.length then (l.findIdx q:Int) else -1:=by
 have hj:j.toNat<l.length:=by omega
 rw[bJ,cK hj,f9] at h3
 have e:l.findIdx q=j.toNat:=(List.findIdx_eq hj).2 ⟨h3,λk hk=>h2 _ (List.mem_take_iff_getElem.2 ⟨k,by omega,rfl⟩)⟩
 rw[e,am hj];omega
theorem xQ{α:Type} [Inhabited α] {q:α->Bool} {l:List α} {j:Int} (h1:¬ j<l.length) (h2:∀ x∈l.take j.toNat,q x=false) :
  (-1:Int)=if l.findIdx q<l.length then (l.findIdx q:Int) else -1:=by
 rw[fe (by omega)] at h2
 rw[List.findIdx_eq_length_of_false h2,af (Nat.lt_irrefl _)]
theorem nN{α:Type} [Inhabited α] {P:α->Prop} {l:List α} {j:Int} (h0:0<=j) (h1:j<l.length) (h2:∀ x∈l.take j.toNat,P x) (h3:P (l.getD j.toNat default)) :
  ∀ x∈l.take (j+1).toNat,P x:=by
 intro x hx
 have hj:j.toNat<l.length:=by omega
 rw[show (j+1).toNat=j.toNat+1 by omega,List.take_add_one,cK hj] at hx
 rw[bJ,cK hj,f9] at h3
 rcases dB.1 hx with hx|hx
 .exact h2 x hx
 .simp at hx;rw[hx];exact h3
theorem vx{α:Type} [Inhabited α] {l:List α} {k:Int} (h0:0<=k) (h1:k<l.length):l.take (k+1).toNat=l.take k.toNat++[l.getD k.toNat default]:=by
 have e:(k+1).toNat=k.toNat+1:=by omega
 have hk:k.toNat<l.length:=by omega
 rw[e,List.take_add_one,cK hk,bJ,cK hk]
 rfl
theorem kV{a b:Prop} [Decidable a] [Decidable b]:(bif decide a then true else decide b)=decide (a∨b):=by by_cases h:a <;> simp[h]
theorem uD{a b:Prop} [Decidable a] [Decidable b]:(bif decide a then decide b else false)=decide (a/\b):=by by_cases h:a <;> simp[h]
theorem Gc{a b:Prop} [Decidable a] [Decidable b]:(bif !decide a then !decide b else false)=decide (¬ a∧¬ b):=by by_cases h:a <;> simp[h]
theorem Vr{a b:Prop} [Decidable a] [Decidable b]:(bif decide a then !decide b else false)=decide (a∧¬ b):=by by_cases h:a <;> simp[h]
theorem DT{a:Prop} [Decidable a]:(!decide a)=decide (¬ a):=by by_cases h:a <;> simp[h]
theorem aP{p:Prop}(h:p:=by repeat' first|exact trivial|refine⟨trivial,?_⟩|refine⟨(by with_reducible rfl),?_⟩|refine⟨aG (by omega) (by omega),?_⟩|refine⟨rfl,?_⟩):p:=h
theorem bX{X:Bool}{P:Bool->Prop}(h:P X):∀ b,b=X->P b:=λ_ e=>e▸h
theorem bZ{p q:Prop}(k:q)(h:p:=by first|(simp;done)|(simp;omega)|(simp;intros;omega)|(simp +contextual;done)):p/\q:=⟨h,k⟩
theorem jp{p q:Prop}(k:q)(h:p:=by first|exact trivial|with_reducible rfl|exact aG (by omega) (by omega)):p/\q:=⟨h,k⟩
theorem qI{p q:Prop}(k:q)(h:p:=by with_reducible rfl):p/\q:=⟨h,k⟩
theorem bT{p:Prop} [Decidable p] {A B:Prop} (a:p->A) (b:¬p->B):ao (decide p) A B:=aw (λh=>a (aI h)) λh=>b (aL h)
def ft{A B:Type}:Qn (A×B):=⟨λk=>∀(a:A)(b:B),k (a,b),λ_ h i=>h i.1 i.2,λk=>∃ (a:A) (b:B),k (a,b),λ_ ⟨a,b,h⟩=>⟨_,h⟩⟩
def sf{A B C:Type}:Qn (A×B×C):=⟨λk=>∀(a:A)(b:B)(c:C),k (a,b,c),λ_ h i=>h i.1 i.2.1 i.2.2,λk=>∃ (a:A) (b:B) (c:C),k (a,b,c),λ_ ⟨a,b,c,h⟩=>⟨_,h⟩⟩
def QL{A B C D:Type}:Qn (A×B×C×D):=⟨λk=>∀(a:A)(b:B)(c:C)(d:D),k (a,b,c,d),λ_ h i=>h i.1 i.2.1 i.2.2.1 i.2.2.2,λk=>∃ (a:A) (b:B) (c:C) (d:D),k (a,b,c,d),λ_ ⟨a,b,c,d,h⟩=>⟨_,h⟩⟩
def bp{A:Type 1}(k:Nat)(c:A)(r:Nat->Option A):Nat->Option A:=λn=>match Nat.beq n k with|true=>some c|false=>r n
def cC{A:Type 1}:Nat->Option A:=λ_=>none
def aT{A:Type}:A->ce:=λ_=>{}
end Go.SX
namespace Go.RS
open Go.SX Go.Proofs
def ah(b:Bool):Prop:=b->(b->b)/\True
def ar(b:Bool):Prop:=b->b
def aE(b:Bool):Prop:=b=false → !b
def aj:Int->Int:=IntKind.wrap .i64
def ai {α} [Inhabited α] (l:List α) (i:Int):α:=l.getD i.toNat default
def ac {α} (l:List α):Int:=l.length
def zTe:Int:=1099511627776
abbrev aq(x:Int):Prop := -9223372036854775808<=x/\x<=9223372036854775807
abbrev wc:CT := .pair (.pair (.int .u32) (.int .i64)) (.int .i64)
abbrev cBlocks:CT := .pair wc (.pair wc (.pair wc (.pair wc (.pair wc (.pair wc (.pair wc wc))))))
def blocksV:cBlocks.D:=(((0,8),1),((2130706432,8),2),((167772160,8),3),((2886729728,12),3),((3232235520,16),3),((2851995648,16),4),((3758096384,4),5),((4026531840,4),6))
def GL:tx:=(λn=>match n with|0=>some ⟨cBlocks,blocksV⟩|_=>none)
theorem qZ:Tryz.prog.follows .mixedOrders=true:=Tryz.checked.mixed
abbrev cI:CT := .int .i64
abbrev bN:CT := .int .u8
abbrev cP:CT := .int .u32
abbrev Hu:CT := .int .u64
abbrev jW:CT := .pair (.sl bN) cI
abbrev xh:CT := .pair cI cI
abbrev wC:CT := .pair cI cI
abbrev yg:CT := .pair cP (.pair cP (.pair cI (.pair cI cI)))
def aS(c:ae×Int):Prop:=0<=c.2/\c.2<=c.1.length
theorem qw{sp:fi}{c:Cn}{f:FuncId}{fn:Func}{q:Prop}(hf:Tryz.prog.funcs[f]? = some fn)(hs:jm Tryz.prog sp)(an:bw c.ps->ce)(vc:q)(hb:fn.body=some (yQ fn):=by kernel_rfl)(he:Cn.vc Tryz.prog sp c fn an=q:=by kernel_rfl):oT Tryz.prog sp.gl f c.spec:=Cn.okH c hf hb hs qZ an (NQ he vc)
theorem aF{sp:fi}{c:Ct}{f:FuncId}{fn:Func}{q:Prop}(hf:Tryz.prog.funcs[f]? = some fn)(hs:jm Tryz.prog sp)(an:bw c.ps->ce)(vc:q)(hb:fn.body=some (yQ fn):=by kernel_rfl)(he:Ct.vc Tryz.prog sp c fn an=q:=by kernel_rfl):oT Tryz.prog sp.gl f c.spec:=Ct.okH c hf hb hs qZ an (NQ he vc)
abbrev aB(f:FuncId)(s:Go.SX.Spec):=oT Tryz.prog GL f s
def ai1:Ct:=⟨[.val (.sl bN),.val cI],[.box 83 jW],λd=>[0<=d.2.1],λd=>(((if (d.1.length:Int)<=d.2.1 then d.1 else d.1.take d.2.1.toNat,0),()),())⟩
theorem aV7 :
 ∀(a:ae)(b:Int),(a.length<=maxLen/\ ∀(c:Int),c∈a->0<=c/\c<=255)/\aq b/\True->0<=b->ao (decide (b< ↑a.length)) ((0:Int)<=0/\0<=b/\b<= ↑a.length/\(cL a (toNat 0) b.toNat,(0:Int))=(if↑a.length<=b then a else take b.toNat a,(0:Int))) ((a,(0:Int))=(if↑a.length<=b then a else take b.toNat a,(0:Int))):=by
  rintro x y ⟨-,⟨h0,h1⟩,-⟩ h;refine bT (λhb=>?_) (λhb=>?_)
  .refine⟨ab,h,ab,?_⟩;rw[af ab];simp[cL]
  .rw[am ab]
theorem Pz:aB 5 ai1.spec:=aF Tryz.func5 aC aT aV7
def at3:Cn:=⟨[.box 83 jW,.val cI],[.val cI],λd=>[aS d.1,d.2.1<=256],λd y=>0<=y.1.1/\(y.1.1<d.2.1∨y.1.1=0)/\aS y.2.1,λd h=>⟨((0,()),(d.1,())),by simp,by simp,h.1⟩⟩
def DB(a:ae)(b c:Int) :=
 c≠(0:Int)/\0<=Int.tmod (aj (ai a b)) c/\(Int.tmod (aj (ai a b)) c<c∨Int.tmod (aj (ai a b)) c=0)/\aS (a,aj (b+1))
theorem aJ9 :
 ∀(a:ae)(b c:Int),((a.length<=maxLen/\ ∀(d:Int),d∈a->0<=d/\d<=255)/\aq b)/\aq c/\True->aS (a,b)/\c<=256-> ∀(d:Bool),d=decide (a.length<=b)->(ah (! d))/\(aE d)/\ao (bif d then true else decide (c<1)) ((0:Int)<=0/\(0<c∨(0:Int)=0)/\aS (a,b)) (0<=b/\b< ↑a.length/\ao (decide (256<c)) False (DB a b c)):=by
  delta DB ah aE aj ai;rintro l p n ⟨⟨⟨hl,hw⟩,h0,h1⟩,⟨h2,h3⟩,-⟩⟨⟨hc1,hc2⟩,hn⟩;simp only[maxLen] at hl hc1 hc2
  (repeat (refine bX ?_;repeat refine bZ ?_));refine aw (λhb=>?_) (λhb=>?_)
  .exact⟨ab,aA,hc1,hc2⟩
  .simp at hb;obtain⟨hb1,hb2⟩:=hb;obtain⟨hm0,hm1⟩:=hw _ (bR hc1 hb1);rw[aG ab ab,aG ab ab];refine⟨hc1,hb1,bT (λhb=>?_) (λhb=>?_)⟩
   .have:=hb;omega
   .exact⟨ab,r5 hm0,.inl (rY hm0 ab),by simp only[aS];omega⟩
theorem aQ1:aB 26 at3.spec:=qw Tryz.func26 aC aT aJ9
def aM3:Cn:=⟨[.box 83 jW,.val cI],[.val cI],λd=>[aS d.1],λd y=>0<=y.1.1/\(y.1.1<d.2.1∨y.1.1=0)/\aS y.2.1,λd h=>⟨((0,()),(d.1,())),by simp,by simp,h.1⟩⟩
theorem Ya :
 ∀(a:ae)(b c:Int),((a.length<=maxLen/\ ∀(d:Int),d∈a->0<=d/\d<=255)/\aq b)/\aq c/\True->0<=b/\b<= ↑a.length-> ∀(d:Bool),d=decide (a.length<=b)->(ah (! d))/\(aE d)/\ao (bif d then true else decide (c<1)) ((0:Int)<=0/\(0<c∨(0:Int)=0)/\aS (a,b)) (0<=b/\b< ↑a.length/\ao (decide (256<c)) (aS (a,aj (b+1))/\(256:Int)<=256/\ ∀(e:Int)(f:ae)(g:Int),0<=e/\(e<256∨e=0)/\aS (f,g)->c≠(0:Int)/\0<=Int.tmod (aj (aj ((256:Int)*aj (ai a b))+e)) c/\(Int.tmod (aj (aj ((256:Int)*aj (ai a b))+e)) c<c∨Int.tmod (aj (aj ((256:Int)*aj (ai a b))+e)) c=0)/\aS (f,g)) (DB a b c)):=by
  delta DB ah aE aj ai;rintro l p n ⟨⟨⟨hl,hw⟩,h0,h1⟩,⟨h2,h3⟩,-⟩⟨hc1,hc2⟩;simp only[maxLen] at hl hc1 hc2
  (repeat (refine bX ?_;repeat refine bZ ?_));refine aw (λhb=>?_) (λhb=>?_)
  .exact⟨ab,aA,hc1,hc2⟩
  .simp at hb;obtain⟨hb1,hb2⟩:=hb;obtain⟨hm0,hm1⟩:=hw _ (bR hc1 hb1);rw[aG ab ab,aG (n:=l.getD p.toNat default) ab ab];refine⟨hc1,hb1,aw (λhb=>?_) (λhb=>?_)⟩
   .refine⟨by simp only[aS];omega,ab,?_⟩;rintro r l2 p2 ⟨hr0,hr1,hr2⟩;rw[aG (n:=256*_) ab ab,aG ab ab];exact⟨ab,r5 ab,.inl (rY ab ab),hr2⟩
   .exact⟨ab,r5 hm0,.inl (rY hm0 ab),by simp only[aS];omega⟩
theorem AI:aB 26 aM3.spec:=qw Tryz.func26 (av aC aQ1) aT Ya
open Go.SX
def xs(k a:Nat):Nat:=a ^^^ a/2^k
def mu(c a:Nat):Nat:=a*c%18446744073709551616
def EQ(x:Nat):Nat:=xs 31 (mu 10723151780598845931 (xs 27 (mu 13787848793156543929 (xs 30 ((x+11400714819323198485)%18446744073709551616)))))
def mG(x:Int):Int:=(EQ x.toNat:Int)
theorem Zr{k a:Nat}(ha:a<18446744073709551616):xs k a<18446744073709551616:=by
 have h1:a<2^64:=ab
 have h2:a/2^k<2^64:=Nat.lt_of_le_of_lt (Nat.div_le_self _ _) h1
 have h3:a ^^^ a/2^k<2^64:=Nat.xor_lt_two_pow h1 h2
 unfold xs
 omega
theorem J9{c a:Nat}:mu c a<18446744073709551616:=by unfold mu;omega
theorem Zz(x:Nat):EQ x<18446744073709551616:=by
 unfold EQ
 exact Zr J9
theorem KI(x:Int):0<=mG x/\mG x<=18446744073709551615:=by
 have:=Zz x.toNat
 unfold mG
 omega
theorem FY(n:Nat):IntKind.u64.wrap (n:Int)=((n%18446744073709551616:Nat):Int):=by
 rw[IntKind.wrap_u64,Int.natCast_emod]
 rfl
theorem Uj(n k:Nat)(hk:k<=64):dF .u64 (n:Int) (k:Int)=((n/2^k:Nat):Int):=by
 unfold dF
 have:min (k:Int).toNat IntKind.u64.bits=k:=by simp only[IntKind.bits,Int.toNat_natCast];omega
 rw[this,AS _ (Int.le_of_lt (Int.pow_pos bt)),Int.natCast_ediv,Int.natCast_pow]
 rfl
theorem FW(n k:Nat)(hk:k<=64)(hn:n<18446744073709551616):bits .xor .u64 (n:Int) (dF .u64 (n:Int) (k:Int))=(xs k n:Int):=by
 rw[Uj n k hk]
 exact bits_xor_u64_nat _ _ hn (Nat.lt_of_le_of_lt (Nat.div_le_self _ _) hn)
theorem P6(n c:Nat):IntKind.u64.wrap ((n:Int)*(c:Int))=(mu c n:Int):=by
 rw[← Int.natCast_mul,FY];rfl
end Go.RS
namespace Go.RS
open Go.SX Go.Proofs
def aq4:Cn:=⟨[.box 83 jW],[.val cI],λd=>[aS d.1],λd y=>aS y.2.1 ∧ -9223372036854775808<=y.1.1/\y.1.1<=9223372036854775807,λd h=>⟨((0,()),(d.1,())),h.1,by simp,by simp⟩⟩
theorem Sw :
 ∀(a:ae)(b:Int),((a.length<=maxLen/\ ∀(c:Int),c∈a->0<=c/\c<=255)/\aq b)/\True->0<=b/\b<= ↑a.length->aS (a,b)/\ ∀(c:Int)(d:ae)(e:Int),0<=c/\(c<10∨c=0)/\aS (d,e)->ao (decide (c=0)) (aS (d,e)/\ ∀(f:Int)(g:ae)(h:Int),0<=f/\(f<3∨f=0)/\aS (g,h)->aS (g,h)/\ -9223372036854775808<=aj ((-1:Int) -f)/\aj ((-1:Int) -f)<=9223372036854775807) (ao (decide (c=1)) (aS (d,e)/\ ∀(f:Int)(g:ae)(h:Int),0<=f/\(f<14∨f=0)/\aS (g,h)->0<=f/\f< ↑(List.length [(9223372036854775807:Int),(-9223372036854775808:Int),(1125899906842624:Int),(1125899906842625:Int),(65535:Int),(65536:Int),(255:Int),(256:Int),(1023:Int),(1024:Int),(65534:Int),(65535:Int),(4294967296:Int),(4611686018427387905:Int)])/\aS (g,h)/\ -9223372036854775808<=getD
 [(9223372036854775807:Int),(-9223372036854775808:Int),(1125899906842624:Int),(1125899906842625:Int),(65535:Int),(65536:Int),(255:Int),(256:Int),(1023:Int),(1024:Int),(65534:Int),(65535:Int),(4294967296:Int),(4611686018427387905:Int)] f.toNat default/\getD [(9223372036854775807:Int),(-9223372036854775808:Int),(1125899906842624:Int),(1125899906842625:Int),(65535:Int),(65536:Int),(255:Int),(256:Int),(1023:Int),(1024:Int),(65534:Int),(65535:Int),(4294967296:Int),(4611686018427387905:Int)] f.toNat default<=9223372036854775807) (ao (decide (c=2)) (aS (d,e)/\ ∀(f:Int)(g:ae)(h:Int),0<=f/\(f<256∨f=0)/\aS (g,h)->aS (g,h)/\ ∀(i:Int)(j:ae)(k:Int),0<=i/\(i<256∨i=0)/\aS (j,k)->aS (j,k)/\ -9223372036854775808<=aj (aj ((256:Int)*f)+i)/\aj (aj ((256:Int)*f)+i)<=9223372036854775807) (aS (d,e)/\ ∀(f:Int)(g:ae)(h:Int),0<=f/\(f<40∨f=0)/\aS (g,h)->aS (g,h)/\aq f))):=by
  delta aj;rintro l p-h;refine⟨h,?_⟩;rintro r l2 p2 ⟨h1,h2,h3⟩;refine aw (λhb=>⟨h3,?_⟩) (λhb=>aw (λhb=>⟨h3,?_⟩) (λhb=>aw (λhb=>⟨h3,?_⟩) (λhb=>⟨h3,?_⟩)))
  .rintro a l4 p4 ⟨h4,h5,h6⟩;exact⟨h6,RZ _⟩
  .rintro a l4 p4 ⟨h4,h5,h6⟩;refine⟨h4,by simp;omega,h6,?_⟩;exact K5 (p:=λv => -9223372036854775808<=v/\v<=9223372036854775807) aA h4 (by simp;omega)
  .rintro a l4 p4 ⟨h4,h5,h6⟩;refine⟨h6,?_⟩;rintro a l4 p4 ⟨h4,h5,h6⟩;exact⟨h6,RZ _⟩
  .rintro a l4 p4 ⟨h4,h5,h6⟩;exact⟨h6,ab,ab⟩
theorem ab3:aB 73 aq4.spec:=qw Tryz.func73 (av aC AI) aT Sw
def Yd:Cn:=⟨[.box 83 jW],[.val cP],λd=>[aS d.1],λd y=>aS y.2.1/\0<=y.1.1/\y.1.1<=4294967295,λd h=>⟨((0,()),(d.1,())),h.1,by simp,by simp⟩⟩
theorem ah4 :
 ∀(a:ae)(b:Int),((a.length<=maxLen/\ ∀(c:Int),c∈a->0<=c/\c<=255)/\aq b)/\True->0<=b/\b<= ↑a.length->aS (a,b)/\ ∀(c:Int)(d:ae)(e:Int),0<=c/\(c<12∨c=0)/\aS (d,e)->ao (decide (c=11)) (aS (d,e)/\ ∀(f:Int)(g:ae)(h:Int),0<=f/\(f<65536∨f=0)/\aS (g,h)->(0:Int)<=16/\aS (g,h)/\ ∀(i:Int)(j:ae)(k:Int),0<=i/\(i<65536∨i=0)/\aS (j,k)->aS (j,k)/\0<=IntKind.wrap .u32 (aj (eM IntKind.i64 f (16:Int)+i))/\IntKind.wrap .u32 (aj (eM IntKind.i64 f (16:Int)+i))<=4294967295) (aS (d,e)/\ ∀(f:Int)(g:ae)(h:Int),0<=f/\(f<3∨f=0)/\aS (g,h)->(0:Int)<=16/\aS (g,h)/\ ∀(i:Int)(j:ae)(k:Int),0<=i/\(i<8∨i=0)/\aS (j,k)->aS (j,k)/\0<=IntKind.wrap .u32 (aj (aj ((167772160:Int)+eM IntKind.i64 f (16:Int))+i))/\IntKind.wrap .u32 (aj (aj ((167772160:Int)+eM IntKind.i64 f (16:Int))+i))<=4294967295):=by
  delta aj;rintro l p-h;refine⟨h,?_⟩;rintro r l2 p2 ⟨h1,h2,h3⟩;refine aw (λhb=>⟨h3,?_⟩) (λhb=>⟨h3,?_⟩)
  .rintro a l4 p4 ⟨h4,h5,h6⟩;refine⟨ab,h6,?_⟩;rintro a l4 p4 ⟨h4,h5,h6⟩;exact⟨h6,RX _⟩
  .rintro a l4 p4 ⟨h4,h5,h6⟩;refine⟨ab,h6,?_⟩;rintro a l4 p4 ⟨h4,h5,h6⟩;exact⟨h6,RX _⟩
theorem Rm:aB 35 Yd.spec:=qw Tryz.func35 (av aC AI) aT ah4
def Yh:Cn:=⟨[.box 83 jW],[.val cI],λd=>[aS d.1],λd y=>aS y.2.1/\(y.1.1=17∨y.1.1=1∨y.1.1=6),λd h=>⟨((1,()),(d.1,())),h.1,by simp⟩⟩
theorem aX1 :
 ∀(a:ae)(b:Int),((a.length<=maxLen/\ ∀(c:Int),c∈a->0<=c/\c<=255)/\aq b)/\True->0<=b/\b<= ↑a.length->aS (a,b)/\ ∀(c:Int)(d:ae)(e:Int),0<=c/\(c<3∨c=0)/\aS (d,e)->0<=c/\c< ↑(List.length [(17:Int),(1:Int),(6:Int)])/\aS (d,e)/\(getD [(17:Int),(1:Int),(6:Int)] c.toNat default=17∨getD [(17:Int),(1:Int),(6:Int)] c.toNat default=1∨getD [(17:Int),(1:Int),(6:Int)] c.toNat default=6):=by
  rintro l p-h;refine⟨h,?_⟩;rintro r l2 p2 ⟨h1,h2,h3⟩;refine⟨h1,by simp;omega,h3,?_⟩;exact K5 (p:=λv=>v=17∨v=1∨v=6) aA h1 (by simp;omega)
theorem M7:aB 34 Yh.spec:=qw Tryz.func34 (av aC AI) aT aX1
def Xm:Ct:=⟨[.val Hu],[.val Hu],λ_=>[],λd=>((mG d.1,()),())⟩
def Km(a:Int) :=
 IntKind.wrap .u64 (bits BinOp.xor IntKind.u64 (IntKind.wrap .u64 (a+11400714819323198485)) (dF IntKind.u64 (IntKind.wrap .u64 (a+11400714819323198485)) (30:Int))*13787848793156543929)
def Io(a:Int) :=
 IntKind.wrap .u64 (bits BinOp.xor IntKind.u64 (Km a) (dF IntKind.u64 (Km a) (27:Int))*10723151780598845931)
theorem ar5 :
 ∀(a:Int),(0<=a/\a<=18446744073709551615)/\True->True->(0:Int)<=30/\(0:Int)<=27/\(0:Int)<=31/\bits BinOp.xor IntKind.u64 (Io a) (dF IntKind.u64 (Io a) (31:Int))=mG a:=by
  delta Km Io;rintro x ⟨⟨h0,h1⟩,-⟩ -;refine⟨bt,bt,bt,?_⟩;have h0:0<=x:=h0;obtain⟨n,rfl⟩:=pE h0;have e0:IntKind.u64.wrap ((n:Int)+11400714819323198485)=(((n+11400714819323198485)%18446744073709551616:Nat):Int):=FY (n+11400714819323198485);have hm:(n+11400714819323198485)%18446744073709551616<18446744073709551616:=ab;have e1:=FW _ 30 bt hm;have e2:=P6 (xs 30 ((n+11400714819323198485)%18446744073709551616)) 13787848793156543929;have e3:=FW _ 27 bt (J9 (c:=13787848793156543929) (a:=xs 30 ((n+11400714819323198485)%18446744073709551616)));have e4:=P6 (xs 27 (mu 13787848793156543929 (xs 30 ((n+11400714819323198485)%18446744073709551616)))) 10723151780598845931;have e5:=FW _ 31 bt (J9 (c:=10723151780598845931) (a:=xs 27 (mu 13787848793156543929 (xs 30 ((n+11400714819323198485)%18446744073709551616)))));have c1:((30:Nat):Int)=30:=rfl;have c2:((27:Nat):Int)=27:=rfl;have c3:((31:Nat):Int)=31:=rfl
  have c4:((13787848793156543929:Nat):Int)=13787848793156543929:=rfl;have c5:((10723151780598845931:Nat):Int)=10723151780598845931:=rfl;rw[c1] at e1;rw[c4] at e2;rw[c2] at e3;rw[c5] at e4;rw[c3] at e5;rw[e0,e1,e2,e3,e4,e5];unfold mG EQ;rw[Int.toNat_natCast]
theorem Qs:aB 159 Xm.spec:=aF Tryz.func159 aC aT ar5
abbrev d6:Type:=Int×Int×Int×Int×Int
def zR(h x:Int):Int:=mG (bits .xor .u64 h (IntKind.wrap .u64 x))
def nU(seed:Int)(k:d6):Int:=zR (zR (zR (zR (zR (mG (IntKind.wrap .u64 seed)) k.1) k.2.1) k.2.2.1) k.2.2.2.1) k.2.2.2.2
theorem xI(s:Int)(k:d6):0<=nU s k/\nU s k<=18446744073709551615:=KI _
def BT(seed:Int)(k:d6)(j:Int):Int:=([k.1,k.2.1,k.2.2.1,k.2.2.2.1,k.2.2.2.2].take j.toNat).foldl zR (mG (IntKind.wrap .u64 seed))
def M3:Ct:=⟨[.val cI,.agg yg],[.val Hu],λ_=>[],λd=>((nU d.1 d.2.1,()),())⟩
def Vw:bw M3.ps->ce:=(λd=>{loops:=(bp 3 (λS=>{ι:=Int×Int,qn:=ft,μ:=λi=>(5-i.1).toNat,inv:=λi=>0<=i.1/\i.1<=5/\i.2=BT d.1 d.2.1 i.1,keep:=[23],slots:=λi=>[(5,.int .u64 i.2),(24,.int .i64 i.1)]}) cC)})
theorem ao7 :
 ∀(x x_1 x_2 x_3 x_4 x_5:Int),aq x/\((0<=x_1/\x_1<=4294967295)/\(0<=x_2/\x_2<=4294967295)/\aq x_3/\aq x_4/\aq x_5)/\True->True->(∃ j h,(0<=j/\j<=5/\h=BT x (x_1,x_2,x_3,x_4,x_5) j)/\mG (IntKind.wrap .u64 x)=h/\aj x_1=aj x_1/\aj x_2=aj x_2/\x_3=x_3/\x_4=x_4/\x_5=x_5/\(0:Int)=j/\True)/\∀(j h:Int),0<=j/\j<=5/\h=BT x (x_1,x_2,x_3,x_4,x_5) j->ao (decide (j<5)) (0<=j/\j<↑(5:Nat)/\∃ j_1 h_1,(0<=j_1/\j_1<=5/\h_1=BT x (x_1,x_2,x_3,x_4,x_5) j_1)/\toNat ((5:Int)-j_1)<toNat ((5:Int)-j)/\mG (bits BinOp.xor IntKind.u64 h (IntKind.wrap .u64 (lP [aj x_1,aj x_2,x_3,x_4,x_5] j.toNat)))=h_1/\aj x_1=aj x_1/\aj x_2=aj x_2/\x_3=x_3/\x_4=x_4/\x_5=x_5/\aj (j+(1:Int))=j_1/\True) (h=nU x (x_1,
 x_2,x_3,x_4,x_5)):=by
  delta aj;rintro x a b c e f ⟨-,⟨⟨a0,a1⟩,⟨b0,b1⟩,⟨c0,c1⟩,⟨e0,e1⟩,f0,f1⟩,-⟩ -;refine⟨⟨0,_,⟨ab,ab,rfl⟩,aP⟩,?_⟩;rintro j h ⟨h0,h1,rfl⟩;refine bT (λhj=>?_) (λhj=>?_)
  .refine⟨h0,ab,j+1,BT x (a,b,c,e,f) (j+1),⟨ab,ab,rfl⟩,ab,?_,rfl,rfl,rfl,rfl,rfl,aG ab ab,bv⟩;rw[aG (n:=a) ab ab,aG (n:=b) ab ab];have:j=0∨j=1∨j=2∨j=3∨j=4:=ab;rcases this with rfl|rfl|rfl|rfl|rfl <;> rfl
  .have:j=5:=ab;subst this;rfl
theorem N6:aB 121 M3.spec:=aF Tryz.func121 (av aC Qs) Vw ao7
def jk(way seed:Int)(k:d6)(count n:Int):Int×Int :=
 if n<1∨16<n∨count<0∨way<1∨3<way then (0,1) else
  (if way=1 then (nU seed k).tmod n else if way=2 then (nU seed (k.1,k.2.1,0,0,0)).tmod n else count.tmod n,0)
def aS5:Ct:=⟨[.val cI,.val cI,.agg yg,.val cI,.val cI],[.val cI,.val cI],λ_=>[],λd=>(((jk d.1 d.2.1 d.2.2.1 d.2.2.2.1 d.2.2.2.2.1).1,(jk d.1 d.2.1 d.2.2.1 d.2.2.2.1 d.2.2.2.2.1).2,()),())⟩
theorem UL :
 ∀(a b c d e f g h i:Int),aq a/\aq b/\((0<=c/\c<=4294967295)/\(0<=d/\d<=4294967295)/\aq e/\aq f/\aq g)/\aq h/\aq i/\True->True-> ∀(j:Bool),j=decide (i<1)->(ah (! j))/\(aE j)/\ ∀(k:Bool),(k=bif j then true else decide (16<i))->(ah (! k))/\(aE k)/\ao (bif k then true else decide (h<0)) (0=(jk a b (c,d,e,f,g) h i).1/\1=(jk a b (c,d,e,f,g) h i).2) (ao (decide (a=1)) (IntKind.wrap .u64 i≠(0:Int)/\aj (Int.tmod (nU b (c,d,e,f,g)) (IntKind.wrap .u64 i))=(jk a b (c,d,e,f,g) h i).1/\0=(jk a b (c,d,e,f,g) h i).2) (ao (decide (a=2)) (IntKind.wrap .u64 i≠(0:Int)/\aj (Int.tmod (nU b (c,d,(0:Int),(0:Int),(0:Int))) (IntKind.wrap .u64 i))=(jk a b (c,d,e,f,g) h i).1/\0=(jk a b (c,d,e,f,g) h i).2) (ao (decide (a=3)) (IntKind.wrap .u64 i≠(0:Int)/\aj (Int.tmod (IntKind.wrap .u64 h) (IntKind.wrap .u64 i))=(jk a b (c,d,e,f,g) h i).1/\0=(jk a b (c,d,e,f,g) h
 i).2) (0=(jk a b (c,d,e,f,g) h i).1/\1=(jk a b (c,d,e,f,g) h i).2)))):=by
  delta ah aE aj;rintro x s a b c e f cnt n ⟨-,-,-,⟨c0,c1⟩,⟨n0,n1⟩,-⟩ -
  (repeat (refine bX ?_;repeat refine bZ ?_));refine aw (λh=>?_) (λh=>?_)
  .simp at h;unfold jk;rw[am ab];exact⟨rfl,rfl⟩
  .simp at h;rw[Mv (n:=n) ab ab];have hr:∀ k,0<=(nU s k).tmod n/\(nU s k).tmod n<n:=λk=>⟨r5 (xI _ _).1,rY (xI _ _).1 ab⟩
   unfold jk;refine aw (λhx=>?_) (λhx=>aw (λhy=>?_) (λhy=>aw (λhz=>?_) (λhz=>?_)))
   .simp at hx;subst hx;have:=hr (a,b,c,e,f);rw[af ab,am rfl,aG ab ab];exact⟨ab,rfl,rfl⟩
   .simp at hx hy;subst hy;have:=hr (a,b,0,0,0);rw[af ab,af ab,am rfl,aG ab ab];exact⟨ab,rfl,rfl⟩
   .simp at hx hy hz;subst hz;have q0:=r5 (b:=n) (a:=cnt) ab;have q1:=rY (b:=n) (a:=cnt) ab ab;rw[af ab,af ab,af ab,Mv (n:=cnt) ab ab,aG ab ab];exact⟨ab,rfl,rfl⟩
   .simp at hx hy hz;rw[am ab];exact⟨rfl,rfl⟩
theorem Q8:aB 52 aS5.spec:=aF Tryz.func52 (av aC N6) aT UL
abbrev tA:CT := .pair cP cI
abbrev Zb:CT := .pair cP cI
abbrev Ob:CT := .pair Zb (.pair (.sl cI) cI)
abbrev bU:CT := .pair (.sl tA) (.pair cP (.pair cI (.pair .bool (.pair (.sl Ob) (.pair cI (.pair cP (.pair cI (.pair cI (.pair cI (.pair xh (.pair .bool (.pair .bool (.pair cI cI)))))))))))))
abbrev qh:CT := .pair (.sl Ob) (.pair cI (.pair (.sl cI) (.pair wC cI)))
abbrev Vu:Type:=Int×Int
abbrev aN:Type:=Vu×ae×Int
abbrev au:Type:=List (Int×Int)×Int×Int×Bool×List aN×Int×Int×Int×Int×Int×(Int×Int)×Bool×Bool×Int×Int
abbrev ct:Type:=List aN×Int×ae×(Int×Int)×Int
def ay(n:au):=n.1
def fA(n:au):=n.2.1
def Gl(n:au):=n.2.2.1
def iG(n:au):=n.2.2.2.1
def aU(n:au):=n.2.2.2.2.1
def fX(n:au):=n.2.2.2.2.2.1
def oD(n:au):=n.2.2.2.2.2.2.1
def qK(n:au):=n.2.2.2.2.2.2.2.1
def mZ(n:au):=n.2.2.2.2.2.2.2.2.1
def wP(n:au):=n.2.2.2.2.2.2.2.2.2.1
def jT(n:au):=n.2.2.2.2.2.2.2.2.2.2.1
def j4(n:au):=n.2.2.2.2.2.2.2.2.2.2.2.1
def dI(n:au):=n.2.2.2.2.2.2.2.2.2.2.2.2.1
def iE(n:au):=n.2.2.2.2.2.2.2.2.2.2.2.2.2.1
def rG(n:au):=n.2.2.2.2.2.2.2.2.2.2.2.2.2.2
def bS(s:ct):=s.1
def pL(s:ct):=s.2.1
def lI(s:ct):=s.2.2.1
def tq(s:ct):=s.2.2.2.1
def jI(s:ct):=s.2.2.2.2
theorem Cs(n:Int):bits .and .i64 n 65535=n%65536:=by
 have h127:(BitVec.ofInt 64 65535).toNat=2^16-1:=bt
 have key:(BitVec.ofInt 64 n &&& BitVec.ofInt 64 65535).toNat=(n%((2^64:Nat):Int)).toNat%2^16:=by
  rw[BitVec.toNat_and,BitVec.toNat_ofInt,h127,zd]
 show IntKind.i64.wrap ((BitVec.ofInt 64 n &&& BitVec.ofInt 64 65535).toNat:Nat)=n%65536
 rw[key,IntKind.wrap_i64]
 omega
theorem Zm{n:Int}(h0:0<=n)(h1:n<=18446744073709551615):bits .and .u64 n 65535=n%65536:=by
 rw[u64_and n 65535 h0 ab bt bt]
 have:(n.toNat &&& toNat 65535)=n.toNat%65536:=zd n.toNat 16
 rw[this];omega
def rQ(speed a:Int):Int:=if speed<0∨1000000<speed∨a<0∨1125899906842624<a then 0 else speed*(a/1000000)+speed*(a%1000000)/1000000
theorem aO5{speed a:Int}:0<=rQ speed a/\rQ speed a<=2251799813685248:=by
 unfold rQ
 split
 .omega
 next h=>have a1:0<=a/1000000:=ab;have a2:a/1000000<=1125899907:=ab;have a3:0<=a%1000000:=ab;have a4:a%1000000<=999999:=ab;have b1:0<=speed*(a/1000000):=Int.mul_nonneg ab a1;have b2:speed*(a/1000000)<=1000000*1125899907:=Int.mul_le_mul ab a2 a1 ab;have b3:0<=speed*(a%1000000):=Int.mul_nonneg ab a3;have b4:speed*(a%1000000)<=1000000*999999:=Int.mul_le_mul ab a4 a3 ab;omega
theorem S9{x a:Int}(h:¬ (x<0∨1000000<x∨a<0∨1125899906842624<a)) :
  IntKind.wrap IntKind.i64 (IntKind.wrap IntKind.i64 (x*IntKind.wrap IntKind.i64 (Int.tdiv a 1000000))+IntKind.wrap IntKind.i64 (Int.tdiv (IntKind.wrap IntKind.i64 (x*Int.tmod a 1000000)) 1000000))=rQ x a:=by
 have h2:=aO5 (speed:=x) (a:=a)
 unfold rQ at h2 ⊢
 rw[af h] at h2 ⊢
 have a1:0<=a/1000000:=ab
 have a2:a/1000000<=1125899907:=ab
 have a3:0<=a%1000000:=ab
 have a4:a%1000000<=999999:=ab
 have b1:0<=x*(a/1000000):=Int.mul_nonneg ab a1
 have b2:x*(a/1000000)<=1000000*1125899907:=Int.mul_le_mul ab a2 a1 ab
 have b3:0<=x*(a%1000000):=Int.mul_nonneg ab a3
 have b4:x*(a%1000000)<=1000000*999999:=Int.mul_le_mul ab a4 a3 ab
 rw[DI (show 0<=a by omega),Gi (show 0<=a by omega),aG (n:=a/1000000) ab ab,aG (n:=x*(a/1000000)) ab ab,
  aG (n:=x*(a%1000000)) ab ab,DI b3,aG (n:=x*(a%1000000)/1000000) ab ab,aG ab ab]
def XZ:Ct:=⟨[.val cI,.val cI],[.val cI],λ_=>[],λd=>((rQ d.1 d.2.1,()),())⟩
theorem ap7 :
 ∀(a b:Int),aq a/\aq b/\True->True-> ∀(c:Bool),c=decide (a<0)->(ah (! c))/\(aE c)/\ ∀(d:Bool),(d=bif c then true else decide (1000000<a))->(ah (! d))/\(aE d)/\ ∀(e:Bool),(e=bif d then true else decide (b<0))->(ah (! e))/\(aE e)/\ao (bif e then true else decide (1125899906842624<b)) (0=rQ a b) ((1000000:Int)≠(0:Int)/\(1000000:Int)≠(0:Int)/\(1000000:Int)≠(0:Int)/\aj (aj (a*aj (Int.tdiv b (1000000:Int)))+aj (Int.tdiv (aj (a*Int.tmod b (1000000:Int))) (1000000:Int)))=rQ a b):=by
  delta ah aE aj;rintro x a - -
  (repeat (refine bX ?_;repeat refine bZ ?_));refine aw (λh=>?_) (λh=>?_)
  .simp at h;unfold rQ;rw[am ab]
  .simp at h;refine⟨ab,ab,ab,S9 ab⟩
theorem Vy:aB 233 XZ.spec:=aF Tryz.func233 aC aT ap7
def GA(n:au):Bool:=decide (0<=qK n/\qK n<=5/\0<=mZ n/\mZ n<=65535/\0<=wP n/\wP n<=1000000)
def iW(n:au):Int:=if GA n then 0 else 1
def aN8:Ct:=⟨[.agg bU],[.val cI],λ_=>[],λd=>((iW d.1,()),())⟩
def FG(a:au) :=
 CT.wf bU a/\True->True-> ∀(b:Bool),b=decide (a.2.2.2.2.2.2.2.1<0)->(ah (! b))/\(ah (! b))/\(aE b)/\ ∀(c:Bool),(c=bif b then true else decide (5<a.2.2.2.2.2.2.2.1))->(ah (! c))/\(ah (! c))/\(aE c)/\ ∀(d:Bool),(d=bif c then true else decide (a.2.2.2.2.2.2.2.2.1<0))->(ah (! d))/\(ah (! d))/\(aE d)/\ ∀(e:Bool),(e=bif d then true else decide (65535<a.2.2.2.2.2.2.2.2.1))->(ah (! e))/\(ah (! e))/\(aE e)/\ ∀(f:Bool),(f=bif e then true else decide (a.2.2.2.2.2.2.2.2.2.1<0))->(ah (! f))/\(ah (! f))/\(aE f)/\ao (bif f then true else decide (1000000<a.2.2.2.2.2.2.2.2.2.1)) (1=iW a) (0=iW a)
theorem W3 :
 ∀(a:au),(FG a):=by
  delta FG ah aE;rintro d - -
  (repeat (refine bX ?_;repeat refine bZ ?_));unfold iW GA qK mZ wP;generalize d.2.2.2.2.2.2.2.1=i;generalize d.2.2.2.2.2.2.2.2.1=b;generalize d.2.2.2.2.2.2.2.2.2.1=s;refine aw (λh=>?_) (λh=>?_)
  .simp at h;rw[af (by simp;omega)]
  .simp at h;rw[am (by simp;omega)]
theorem ar2:aB 180 aN8.spec:=aF Tryz.func180 aC aT W3
def V5:Ct:=⟨[.agg bU],[.val cI],λ_=>[],λd=>((iW d.1,()),())⟩
theorem Wx :
 ∀(a:au),(FG a):=by
  delta FG ah aE;rintro d - -
  (repeat (refine bX ?_;repeat refine bZ ?_));unfold iW GA qK mZ wP;generalize d.2.2.2.2.2.2.2.1=i;generalize d.2.2.2.2.2.2.2.2.1=b;generalize d.2.2.2.2.2.2.2.2.2.1=s;refine aw (λh=>?_) (λh=>?_)
  .simp at h;rw[af (by simp;omega)]
  .simp at h;rw[am (by simp;omega)]
theorem av4:aB 67 V5.spec:=aF Tryz.func67 aC aT Wx
abbrev wI(n:Int):Int:=IntKind.i64.wrap n
def Y4(n:au)(sent a:Int):Int:=wI (wI (mZ n+sent)+rQ (wP n) a)
def rV(n:au)(sent a:Int):Int:=Y4 n sent a%65536
def YN:Ct:=⟨[.val cI,.box 92 bU,.box 3 cI],[.val cI],λ_=>[],λd=>((rV d.2.1 d.1 d.2.2.1,()),(d.2.1,d.2.2.1,()))⟩
theorem VC :
 ∀(a:Int)(b:au)(c:Int),aq a/\CT.wf bU b/\aq c/\True->True->bits BinOp.and IntKind.i64 (aj (aj (b.2.2.2.2.2.2.2.2.1+a)+rQ b.2.2.2.2.2.2.2.2.2.1 c)) (65535:Int)=rV b a c/\b=b/\c=c:=by
  delta aj;rintro x d a - -;exact⟨Cs _,rfl,rfl⟩
theorem Yb:aB 232 YN.spec:=aF Tryz.func232 (av aC Vy) aT VC
def mJ(n:au)(s:ct)(port a asked dst:Int):Int :=
 if qK n=1 then mZ n else if qK n=2 then rV n (pL s) a
 else if qK n=3 then (if port<0∨(lI s).length<=port then rV n 0 a else rV n ((lI s).getD port.toNat default) a)
 else if qK n=4 then asked else if qK n=5 then nU (mZ n) (0,dst,0,pL s,0)%65536 else 0
def aV6:Ct:=⟨[.agg bU,.agg qh,.val cI,.val cI,.val cI,.val cP],[.val cI],λ_=>[],λd=>((mJ d.1 d.2.1 d.2.2.1 d.2.2.2.1 d.2.2.2.2.1 d.2.2.2.2.2.1,()),())⟩
theorem Tl :
 ∀(a:au)(b:List aN)(c:Int)(d:ae)(e f g h i j k:Int),CT.wf bU a/\((b.length<=maxLen/\ ∀(l:aN),l∈b->((0<=l.1.1/\l.1.1<=4294967295)/\aq l.1.2)/\(l.2.1.length<=maxLen/\ ∀(m:Int),m∈l.2.1->aq m)/\aq l.2.2)/\aq c/\(d.length<=maxLen/\ ∀(l:Int),l∈d->aq l)/\(aq e/\aq f)/\aq g)/\aq h/\aq i/\aq j/\(0<=k/\k<=4294967295)/\True->True->ao (decide (a.2.2.2.2.2.2.2.1=1)) (a.2.2.2.2.2.2.2.2.1=mJ a (b,c,d,(e,f),g) h i j k) (ao (decide (a.2.2.2.2.2.2.2.1=2)) (rV a c i=mJ a (b,c,d,(e,f),g) h i j k) (ao (decide (a.2.2.2.2.2.2.2.1=3)) (∀(l:Bool),l=decide (h<0)->(ah (! l))/\(ah (! l))/\((! l)->(ar (! l))/\(ar (! l))/\True)/\(aE l)/\ao (bif l then true else decide (d.length<=h)) (rV a (0:Int) i=mJ a (b,c,d,(e,f),g) h i j k) (0<=h/\h< ↑d.length/\rV a (ai d h) i=mJ a (b,c,d,(e,f),g) h i j k)) (ao (decide (a.2.2.2.2.2.2.2.1=4)) (j=mJ a
 (b,c,d,(e,f),g) h i j k) (ao (decide (a.2.2.2.2.2.2.2.1=5)) (aj (bits BinOp.and IntKind.u64 (nU a.2.2.2.2.2.2.2.2.1 ((0:Int),k,(0:Int),c,(0:Int))) (65535:Int))=mJ a (b,c,d,(e,f),g) h i j k) (0=mJ a (b,c,d,(e,f),g) h i j k))))):=by
  delta ah ar aE aj ai;rintro d r se ps t1 t2 ba port a asked dst - -;unfold mJ qK mZ pL lI;simp only;refine aw (λh=>?_) (λh=>?_)
  .rw[am (aI h)]
  have h1:=aL h;rw[af h1];refine aw (λh=>?_) (λh=>?_)
  .rw[am (aI h)]
  have h2:=aL h;rw[af h2];refine aw (λh=>?_) (λh=>?_)
  .rw[am (aI h)]
   (repeat (refine bX ?_;repeat refine bZ ?_));refine aw (λh=>?_) (λh=>?_)
   .simp at h;rw[am h]
   .simp at h;exact⟨ab,ab,by rw[af ab]⟩
  have h3:=aL h;rw[af h3];refine aw (λh=>?_) (λh=>?_)
  .rw[am (aI h)]
  have h4:=aL h;rw[af h4];refine bT (λh=>?_) (λh=>?_)
  .rw[am h];have hr:=xI d.2.2.2.2.2.2.2.2.1 (0,dst,0,se,0);rw[Zm hr.1 hr.2,aG ab ab]
  .rw[af h]
theorem RH:aB 222 aV6.spec:=aF Tryz.func222 (av (av aC Yb) N6) aT Tl
end Go.RS
