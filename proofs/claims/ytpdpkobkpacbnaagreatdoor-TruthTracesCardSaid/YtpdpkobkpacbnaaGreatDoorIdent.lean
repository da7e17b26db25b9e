/- SX, part 21: a function's contract, off its symbolic run. -/
import Derived.Test.YtpdpkobkpacbnaaGreatDoorSx20
import Derived.Laws.Sem
import Derived.Laws.NewBlocks
import Derived.ProofKit
import Derived.OpenShut
import Derived.ChangeOld
import Derived.Below
import Derived.KernelRfl
import Derived.Test.YtpdpkobkpacbnaaGreatDoorSx9
import Derived.Test.YtpdpkobkpacbnaaGreatDoorChecked
import Derived.Laws.Bits64
import Derived.Laws.Bits128
import Derived.Laws.BitsAllLaws
set_option maxRecDepth 100000
set_option linter.unusedVariables false
open Int (toNat)
open List (take getD)
namespace Go.SX
def CT.plain:CT->Bool
 | .sl _=>false
 | .pair a b=>a.plain&&b.plain
 | _=>true
theorem Jn{A A':Nat->Prop}{w w':World}:∀{t:CT}{cv:Nat->Option Value}{o:Nat}{d:t.D},t.plain=true->Rd A w t cv o d->Rd A' w' t cv o d
 | .int k,cv,o,d,_,h=>h
 | .bool,cv,o,d,_,h=>h
 | .str,cv,o,d,_,h=>h
 | .pair a b,cv,o,d,e,h=>by
  simp only[CT.plain,dK] at e;exact⟨Jn e.1 h.1,Jn e.2 h.2⟩
theorem CZ{A A':Nat->Prop}{w:World}{t:CT}{cv:Nat->Option Value}{o:Nat}{d:t.D}(L:t.plain=true∨∀ b,A b->A' b)(h:Rd A w t cv o d):Rd A' w t cv o d:=by
 rcases L with L|L
 .exact Jn L h
 .exact iA L (λ_ _ _=>rfl) t _ _ _ _ (λ_ _=>rfl) h
inductive RK where
 | val (t:CT)
 | agg (o:OT)
 | own (E:TypeId) (t:CT)
 | box (E:TypeId) (o:OT)
 | fn (f:FuncId) (k:Nat)
@[reducible] def RK.D:RK->Type
 | .val t=>t.D
 | .agg o=>o.X
 | .own _ t=>List t.D
 | .box _ o=>o.X
 | .fn _ _=>Unit
@[reducible] def jE:List RK->Type
 | []=>Unit
 | p::r=>p.D×jE r
@[reducible] def gA:List PK->Type
 | []=>Unit
 | .val _::r=>gA r
 | .agg _::r=>gA r
 | .own _ _::r=>gA r
 | .ago _::r=>gA r
 | .fn _ _::r=>gA r
 | .nils::r=>gA r
 | .box _ o::r=>o.X×gA r
 | .row _ t::r=>List t.D×gA r
def OT.plain:OT->Bool
 | .dat t=>t.plain
 | .row _ t=>t.plain
 | .rowg _ _=>true
 | .fnc _=>true
 | .ali=>true
 | .ref _ o=>o.plain
 | .pair a b=>a.plain&&b.plain
def uk:List RK->Bool
 | []=>true
 | .val t::r=>t.plain&&uk r
 | .agg o::r=>o.plain&&uk r
 | .own _ t::r=>t.plain&&uk r
 | .box _ o::r=>o.plain&&uk r
 | .fn _ _::r=>uk r
def mQ:List PK->Bool
 | []=>true
 | .val _::r=>mQ r
 | .agg _::r=>mQ r
 | .own _ _::r=>mQ r
 | .ago _::r=>mQ r
 | .fn _ _::r=>mQ r
 | .nils::r=>mQ r
 | .box _ o::r=>o.plain&&mQ r
 | .row _ t::r=>t.plain&&mQ r
structure Ct where
 ps:List PK
 rs:List RK
 pre:bw ps->List Prop
 out:bw ps->jE rs×gA ps
def FT(E:TypeId)(t:CT)(h:bN):List SV->Option (List t.D×List SV×Option Nat)
 | .own m sz::r=>match h m with
  | .live (.row E' t' xs)=>match Nat.beq E E',Nat.beq sz t.size,gX t' t xs with
   | true,true,some ys=>some (ys,r,some m)
   | _,_,_=>none
  | _=>none
 | .nilsl::r=>some ([],r,none)
 | _=>none
def mJ(h:bN)(al:Bool):(o:OT)->Option Nat->List SV->Option (o.X×List SV×List (Nat×Nm)×List (Option Nat))
 | .dat t,_,cs=>match (jH t cs).run h with
  | some ((x,r,fz),_)=>some (x,r,fz,[])
  | none=>none
 | .row E t,_,cs=>match FT E t h cs with
  | some (ys,r,o)=>some (ys,r,[],[o])
  | none=>none
 | .rowg _ _,_,_::r=>some ((),r,[],[])
 | .rowg _ _,_,[]=>none
 | .fnc f,_,.fn g []::r=>match Nat.beq f g with
  | true=>some ((),r,[],[])
  | false=>none
 | .fnc _,_,_=>none
 | .ali,_,.ptr m 0::r=>match al,Nat.beq m PN with
  | true,true=>some ((),r,[],[])
  | _,_=>none
 | .ali,_,_=>none
 | .ref E o,some j,.ptr m 0::r=>match Nat.beq m (PN+j),h m with
  | true,.live (.cells E' cs)=>match Nat.beq E E',mJ h al o (some (j+1)) cs with
   | true,some (x,[],fz,ow)=>some (x,r,fz,ow)
   | _,_=>none
  | _,_=>none
 | .ref _ _,_,_=>none
 | .pair a b,j,cs=>match mJ h al a j cs with
  | some (x,r,f,w)=>match mJ h al b (j.map (· + a.nb)) r with
   | some (y,r',f',w')=>some ((x,y),r',f++f',w++w')
   | none=>none
  | none=>none
def nq(al:Bool):(rs:List RK)->List SV->bN->Option (jE rs×List (Nat×Nm)×List (Option Nat))
 | [],[],_=>some ((),[],[])
 | .val t::rs,v::vs,h=>match (jH t [v]).run h with
  | some ((x,[],fz),_)=>match nq al rs vs h with
   | some (y,f,o)=>some ((x,y),fz++f,o)
   | none=>none
  | _=>none
 | .agg t::rs,.agg cs::vs,h=>match mJ h al t none cs with
  | some (x,[],fz,w)=>match nq al rs vs h with
   | some (y,f,o)=>some ((x,y),fz++f,w++o)
   | none=>none
  | _=>none
 | .own E t::rs,v::vs,h=>match FT E t h [v] with
  | some (x,_,w)=>match nq al rs vs h with
   | some (y,f,o)=>some ((x,y),f,w::o)
   | none=>none
  | none=>none
 | .box E t::rs,.ptr m 0::vs,h=>match h m with
  | .live (.cells E' cs)=>match Nat.beq E E',mJ h al t none cs with
   | true,some (x,[],fz,w)=>match nq al rs vs h with
    | some (y,f,o)=>some ((x,y),fz++f,some m::(w++o))
    | none=>none
   | _,_=>none
  | _=>none
 | .fn f k::rs,.fn g cs::vs,h=>match Nat.beq f g,Nat.beq cs.length k with
  | true,true=>match nq al rs (cs++vs) h with
   | some (y,f',o)=>some (((),y),f',o)
   | none=>none
  | _,_=>none
 | _,_,_=>none
def mb:(ps:List PK)->Nat->bN->Option (gA ps×List (Nat×Nm)×List (Option Nat))
 | [],_,_=>some ((),[],[])
 | .val _::ps,j,h=>mb ps j h
 | .agg _::ps,j,h=>mb ps j h
 | .own _ _::ps,j,h=>mb ps j h
 | .ago _::ps,j,h=>mb ps j h
 | .fn _ _::ps,j,h=>mb ps j h
 | .nils::ps,j,h=>mb ps j h
 | .box E t::ps,j,h=>match h (PN+j) with
  | .live (.cells E' cs)=>match Nat.beq E E',mJ h true t (some (j+1)) cs with
   | true,some (x,[],fz,w)=>match mb ps (j+1+t.nb) h with
    | some (y,f,o)=>some ((x,y),fz++f,w++o)
    | none=>none
   | _,_=>none
  | _=>none
 | .row E t::ps,j,h=>match h (PN+j) with
  | .live (.row E' t' xs)=>match Nat.beq E E',gX t' t xs with
   | true,some ys=>match mb ps (j+1) h with
    | some (y,f,o)=>some ((ys,y),f,o)
    | none=>none
   | _,_=>none
  | _=>none
def we(n:Nat):List (Option Nat)->Bool
 | []=>false
 | some m::r=>Nat.beq n m||we n r
 | none::r=>we n r
def xQ(fz:List (Nat×Nm)):List (Option Nat)->Bool
 | []=>true
 | none::r=>xQ fz r
 | some m::r=>(Nat.blt m PN||Nat.ble QN m)&&vY m fz && !we m r&&xQ fz r
def BS:List (Nat×Nm)->Bool
 | []=>true
 | (n,_)::r=>(Nat.blt n PN||Nat.ble QN n)&&BS r
def nF(b0:Nat):(o:OT)->o.X->List Nat->Nat->List SV
 | .dat t,x,_,_=>dU t x
 | .row _ t,_,_,n=>[.own n t.size]
 | .rowg _ _,_,_,_=>[.junk]
 | .fnc f,_,_,_=>[.fn f []]
 | .ali,_,_,_=>[.ptr b0 0]
 | .ref _ _,_,bx,_=>match bx with
  | q::_=>[.ptr q 0]
  | []=>[.junk]
 | .pair a b,x,bx,n=>nF b0 a x.1 bx n++nF b0 b x.2 (bx.drop a.nb) (n+a.nr)
def mg(b0:Nat):(o:OT)->o.X->List Nat->Nat->List (Nat×Nm)
 | .dat _,_,_,_=>[]
 | .row _ _,_,_,_=>[]
 | .rowg _ _,_,_,_=>[]
 | .fnc _,_,_,_=>[]
 | .ali,_,_,_=>[]
 | .ref E o,x,bx,n=>match bx with
  | q::r=>(q,.live (.cells E (nF b0 o x r n)))::mg b0 o x r n
  | []=>[]
 | .pair a b,x,bx,n=>mg b0 a x.1 bx n++mg b0 b x.2 (bx.drop a.nb) (n+a.nr)
def r4:(o:OT)->o.X->Nat->List (Nat×Nm)
 | .dat _,_,_=>[]
 | .row E t,x,n=>[(n,.live (.row E t x))]
 | .rowg _ _,_,_=>[]
 | .fnc _,_,_=>[]
 | .ali,_,_=>[]
 | .ref _ o,x,n=>r4 o x n
 | .pair a b,x,n=>r4 a x.1 n++r4 b x.2 (n+a.nr)
def kA(b0:Nat):(rs:List RK)->jE rs->Nat->List SV
 | [],_,_=>[]
 | .val t::rs,d,n=>zM t d.1::kA b0 rs d.2 n
 | .agg o::rs,d,n => .agg (nF b0 o d.1 [] n)::kA b0 rs d.2 (n+o.nr)
 | .own E t::rs,d,n => .own n t.size::kA b0 rs d.2 (n+1)
 | .box E o::rs,d,n => .ptr n 0::kA b0 rs d.2 (n+1+o.nr)
 | .fn f k::rs,d,n => .fn f ((kA b0 rs d.2 n).take k)::(kA b0 rs d.2 n).drop k
def mv(b0:Nat):(rs:List RK)->jE rs->Nat->List (Nat×Nm)
 | [],_,_=>[]
 | .val t::rs,d,n=>mv b0 rs d.2 n
 | .agg o::rs,d,n=>r4 o d.1 n++mv b0 rs d.2 (n+o.nr)
 | .own E t::rs,d,n=>(n,.live (.row E t d.1))::mv b0 rs d.2 (n+1)
 | .box E o::rs,d,n=>(n,.live (.cells E (nF b0 o d.1 [] (n+1))))::(r4 o d.1 (n+1)++mv b0 rs d.2 (n+1+o.nr))
 | .fn _ _::rs,d,n=>mv b0 rs d.2 n
def gE:List RK->Nat
 | []=>0
 | .own _ _::r=>gE r+1
 | .box _ o::r=>gE r+o.nr+1
 | .val _::r=>gE r
 | .agg o::r=>gE r+o.nr
 | .fn _ _::r=>gE r
def jA:List PK->Nat
 | []=>0
 | .val _::r=>jA r
 | .agg _::r=>jA r
 | .own _ _::r=>jA r
 | .ago _::r=>jA r
 | .fn _ _::r=>jA r
 | .nils::r=>jA r
 | .box _ o::r=>jA r+o.nr
 | .row _ _::r=>jA r
def gC(b0:Nat):(ps:List PK)->gA ps->List Nat->Nat->List (Nat×Nm)
 | .val _::ps,d,bx,nb=>gC b0 ps d bx nb
 | .agg _::ps,d,bx,nb=>gC b0 ps d bx nb
 | .own _ _::ps,d,bx,nb=>gC b0 ps d bx nb
 | .ago _::ps,d,bx,nb=>gC b0 ps d bx nb
 | .fn _ _::ps,d,bx,nb=>gC b0 ps d bx nb
 | .nils::ps,d,bx,nb=>gC b0 ps d bx nb
 | .box E o::ps,d,n::bx,nb=>(n,.live (.cells E (nF b0 o d.1 bx nb)))::(mg b0 o d.1 bx nb++gC b0 ps d.2 (bx.drop o.nb) (nb+o.nr))
 | .row E t::ps,d,n::bx,nb=>(n,.live (.row E t d.1))::gC b0 ps d.2 bx nb
 | _,_,_,_=>[]
def iz:(ps:List PK)->gA ps->Nat->List (Nat×Nm)
 | [],_,_=>[]
 | .val _::ps,d,nb=>iz ps d nb
 | .agg _::ps,d,nb=>iz ps d nb
 | .own _ _::ps,d,nb=>iz ps d nb
 | .ago _::ps,d,nb=>iz ps d nb
 | .fn _ _::ps,d,nb=>iz ps d nb
 | .nils::ps,d,nb=>iz ps d nb
 | .box E o::ps,d,nb=>r4 o d.1 nb++iz ps d.2 (nb+o.nr)
 | .row E t::ps,d,nb=>iz ps d.2 nb
def p9:List (Option Nat)->List (Nat×Nm)
 | []=>[]
 | none::r=>p9 r
 | some n::r=>(n,.dead)::p9 r
def qZ:List SV->SV
 | [v]=>v
 | l => .tup l
def BH(fz:List (Nat×Nm)):List Nat->Bool
 | []=>true
 | n::r=>vY n fz&&BH fz r
def rp:Nat->Nat->Dl->Q Dl
 | _,0,d => .ret d
 | n,k+1,d => .ask n fun
  | .un=>rp (n+1) k d
  | _ => .fail
def xt(ps:List PK)(rs:List RK):Bool := !(uk rs&&mQ ps)
def tK(ps:List PK)(rs:List RK)(y:jE rs×gA ps)(base:Nat)(fz:List (Nat×Nm))(bx:List Nat)(cx:List (Option Nat)):List (Nat×Nm) :=
 (gC (bx.headD 0) ps y.2 bx (base+gE rs)++(mv (bx.headD 0) rs y.1 base++(iz ps y.2 (base+gE rs)++p9 cx)))++(match xt ps rs with|true=>fz|false=>[])
def z5(fz:List (Nat×Nm))(bx:List Nat)(cx:List (Option Nat)):Bool:=AS (bx++jX cx)&&BH fz (bx++jX cx)&&Nat.ble bx.length PN
def Ct.spec(c:Ct):Spec:=λbase svs=>(gM none c.ps svs).bind λp=>match z5 p.2.1 p.2.2.1 p.2.2.2 with
 | true=>rp base (gE c.rs+jA c.ps) (.det (c.pre p.1) (qZ (kA (p.2.2.1.headD 0) c.rs (c.out p.1).1 base)) (tK c.ps c.rs (c.out p.1) base p.2.1 p.2.2.1 p.2.2.2))
 | false => .fail
structure Cn where
 ps:List PK
 rs:List RK
 pre:bw ps->List Prop
 post:bw ps->jE rs×gA ps->Prop
 inh:∀ d,bV (pre d)→∃ y,post d y
def yn{X:Type}(b0:Nat):(o:OT)->(X->o.X)->List Nat->Nat->List (Nat×(X->Nm))
 | .dat _,_,_,_=>[]
 | .row _ _,_,_,_=>[]
 | .rowg _ _,_,_,_=>[]
 | .fnc _,_,_,_=>[]
 | .ali,_,_,_=>[]
 | .ref E o,x,bx,n=>match bx with
  | q::r=>(q,λy=>.live (.cells E (nF b0 o (x y) r n)))::yn b0 o x r n
  | []=>[]
 | .pair a b,x,bx,n=>yn b0 a (λy=>(x y).1) bx n++yn b0 b (λy=>(x y).2) (bx.drop a.nb) (n+a.nr)
def vo{X:Type}:(o:OT)->(X->o.X)->Nat->List (Nat×(X->Nm))
 | .dat _,_,_=>[]
 | .row E t,x,n=>[(n,λy=>.live (.row E t (x y)))]
 | .rowg _ _,_,_=>[]
 | .fnc _,_,_=>[]
 | .ali,_,_=>[]
 | .ref _ o,x,n=>vo o x n
 | .pair a b,x,n=>vo a (λy=>(x y).1) n++vo b (λy=>(x y).2) (n+a.nr)
def m4{X:Type}(b0:Nat):(ps:List PK)->(X->gA ps)->List Nat->Nat->List (Nat×(X->Nm))
 | .val _::ps,d,bx,nb=>m4 b0 ps d bx nb
 | .agg _::ps,d,bx,nb=>m4 b0 ps d bx nb
 | .own _ _::ps,d,bx,nb=>m4 b0 ps d bx nb
 | .ago _::ps,d,bx,nb=>m4 b0 ps d bx nb
 | .fn _ _::ps,d,bx,nb=>m4 b0 ps d bx nb
 | .nils::ps,d,bx,nb=>m4 b0 ps d bx nb
 | .box E o::ps,d,n::bx,nb=>(n,λx=>.live (.cells E (nF b0 o (d x).1 bx nb)))::(yn b0 o (λx=>(d x).1) bx nb++m4 b0 ps (λx=>(d x).2) (bx.drop o.nb) (nb+o.nr))
 | .row E t::ps,d,n::bx,nb=>(n,λx=>.live (.row E t (d x).1))::m4 b0 ps (λx=>(d x).2) bx nb
 | _,_,_,_=>[]
def ni{X:Type}:(ps:List PK)->(X->gA ps)->Nat->List (Nat×(X->Nm))
 | [],_,_=>[]
 | .val _::ps,d,nb=>ni ps d nb
 | .agg _::ps,d,nb=>ni ps d nb
 | .own _ _::ps,d,nb=>ni ps d nb
 | .ago _::ps,d,nb=>ni ps d nb
 | .fn _ _::ps,d,nb=>ni ps d nb
 | .nils::ps,d,nb=>ni ps d nb
 | .box E o::ps,d,nb=>vo o (λx=>(d x).1) nb++ni ps (λx=>(d x).2) (nb+o.nr)
 | .row E t::ps,d,nb=>ni ps (λx=>(d x).2) nb
def qw{X:Type}(b0:Nat):(rs:List RK)->(X->jE rs)->Nat->List (Nat×(X->Nm))
 | [],_,_=>[]
 | .val t::rs,d,n=>qw b0 rs (λx=>(d x).2) n
 | .agg o::rs,d,n=>vo o (λx=>(d x).1) n++qw b0 rs (λx=>(d x).2) (n+o.nr)
 | .own E t::rs,d,n=>(n,λx=>.live (.row E t (d x).1))::qw b0 rs (λx=>(d x).2) (n+1)
 | .box E o::rs,d,n=>(n,λx=>.live (.cells E (nF b0 o (d x).1 [] (n+1))))::(vo o (λx=>(d x).1) (n+1)++qw b0 rs (λx=>(d x).2) (n+1+o.nr))
 | .fn _ _::rs,d,n=>qw b0 rs (λx=>(d x).2) n
def AO{X:Type}:List (Nat×Nm)->List (Nat×(X->Nm))
 | []=>[]
 | (n,b)::r=>(n,λ_=>b)::AO r
def yK(ps:List PK)(rs:List RK)(base:Nat)(fz:List (Nat×Nm))(bx:List Nat)(cx:List (Option Nat)):List (Nat×(jE rs×gA ps->Nm)) :=
 (m4 (bx.headD 0) ps (λy:jE rs×gA ps=>y.2) bx (base+gE rs)++(qw (bx.headD 0) rs (λy:jE rs×gA ps=>y.1) base++(ni ps (λy:jE rs×gA ps=>y.2) (base+gE rs)++AO (p9 cx))))++(match xt ps rs with|true=>AO fz|false=>[])
theorem Er{X:Type}{b0:Nat}(y:X):∀(o:OT)(x:X->o.X)(bx:List Nat)(n:Nat),(yn b0 o x bx n).map (λp=>(p.1,p.2 y))=mg b0 o (x y) bx n
 | .dat _,_,_,_=>rfl
 | .row _ _,_,_,_=>rfl
 | .rowg _ _,_,_,_=>rfl
 | .fnc _,_,_,_=>rfl
 | .ali,_,_,_=>rfl
 | .ref E o,x,[],n=>rfl
 | .ref E o,x,q::r,n=>by simp only[yn,mg,fF,Er y o]
 | .pair a b,x,bx,n=>by simp only[yn,mg,lL,Er y a,Er y b]
theorem Ag{X:Type}(y:X):∀(o:OT)(x:X->o.X)(n:Nat),(vo o x n).map (λp=>(p.1,p.2 y))=r4 o (x y) n
 | .dat _,_,_=>rfl
 | .row _ _,_,_=>rfl
 | .rowg _ _,_,_=>rfl
 | .fnc _,_,_=>rfl
 | .ali,_,_=>rfl
 | .ref E o,x,n=>by simp only[vo,r4,Ag y o]
 | .pair a b,x,n=>by simp only[vo,r4,lL,Ag y a,Ag y b]
theorem uF{X:Type}{b0:Nat}(x:X):∀(ps:List PK)(d:X->gA ps)(bx:List Nat)(b:Nat),(m4 b0 ps d bx b).map (λp=>(p.1,p.2 x))=gC b0 ps (d x) bx b
 | [],_,_,_=>rfl
 | .val _::ps,d,bx,b=>by simp only[m4,gC];exact uF x ps d bx b
 | .agg _::ps,d,bx,b=>by simp only[m4,gC];exact uF x ps d bx b
 | .own _ _::ps,d,bx,b=>by simp only[m4,gC];exact uF x ps d bx b
 | .ago _::ps,d,bx,b=>by simp only[m4,gC];exact uF x ps d bx b
 | .fn _ _::ps,d,bx,b=>by simp only[m4,gC];exact uF x ps d bx b
 | .nils::ps,d,bx,b=>by simp only[m4,gC];exact uF x ps d bx b
 | .box E t::ps,d,[],_=>rfl
 | .row E t::ps,d,[],_=>rfl
 | .box E t::ps,d,n::bx,b=>by simp only[m4,gC,fF,lL,Er x t,uF x ps]
 | .row E t::ps,d,n::bx,b=>by simp only[m4,gC,fF,uF x ps]
theorem uM{X:Type}(x:X):∀(ps:List PK)(d:X->gA ps)(a:Nat),(ni ps d a).map (λp=>(p.1,p.2 x))=iz ps (d x) a
 | [],_,_=>rfl
 | .val _::ps,d,a=>by simp only[ni,iz];exact uM x ps d a
 | .agg _::ps,d,a=>by simp only[ni,iz];exact uM x ps d a
 | .own _ _::ps,d,a=>by simp only[ni,iz];exact uM x ps d a
 | .ago _::ps,d,a=>by simp only[ni,iz];exact uM x ps d a
 | .fn _ _::ps,d,a=>by simp only[ni,iz];exact uM x ps d a
 | .nils::ps,d,a=>by simp only[ni,iz];exact uM x ps d a
 | .box E t::ps,d,a=>by simp only[ni,iz,lL,Ag x t,uM x ps]
 | .row E t::ps,d,a=>by simp only[ni,iz];exact uM x ps _ a
theorem yS{X:Type}{b0:Nat}(x:X):∀(rs:List RK)(d:X->jE rs)(n:Nat),(qw b0 rs d n).map (λp=>(p.1,p.2 x))=mv b0 rs (d x) n
 | [],_,_=>rfl
 | .val t::rs,d,n=>by simp only[qw,mv];exact yS x rs _ n
 | .agg t::rs,d,n=>by simp only[qw,mv,lL,Ag x t,yS x rs]
 | .own E t::rs,d,n=>by simp only[qw,mv,fF,yS x rs]
 | .box E t::rs,d,n=>by simp only[qw,mv,fF,lL,Ag x t,yS x rs]
 | .fn _ _::rs,d,n=>by simp only[qw,mv];exact yS x rs _ n
theorem Ia{X:Type}(x:X):∀(l:List (Nat×Nm)),(AO (X:=X) l).map (λp=>(p.1,p.2 x))=l
 | []=>rfl
 | (n,b)::r=>by simp only[AO,fF,Ia x r]
theorem LY{ps:List PK}{rs:List RK}{a:Nat}{fz:List (Nat×Nm)}{bx:List Nat}{cx:List (Option Nat)}(y:jE rs×gA ps):(yK ps rs a fz bx cx).map (λp=>(p.1,p.2 y))=tK ps rs y a fz bx cx:=by
 unfold yK tK
 simp only[lL,uF,yS,uM,Ia]
 cases xt ps rs with
 | true=>simp only[Ia]
 | false=>rfl
def ym:(o:OT)->(o.X->Prop)->Prop
 | .dat t,k=>xH t k
 | .row _ t,k=>∀ x:List t.D,k x
 | .rowg _ _,k=>k ()
 | .fnc _,k=>k ()
 | .ali,k=>k ()
 | .ref _ o,k=>ym o k
 | .pair a b,k=>ym a λx=>ym b λy=>k (x,y)
theorem zk:∀{o:OT}{k:o.X->Prop},ym o k→∀ d,k d
 | .dat t,k,h,d=>Fr.1 h d
 | .row _ t,k,h,d=>h d
 | .rowg _ _,k,h,d=>h
 | .fnc _,k,h,d=>h
 | .ali,k,h,d=>h
 | .ref _ o,k,h,d=>zk (o:=o) h d
 | .pair a b,k,h,d=>zk (zk (o:=a) h d.1) d.2
def xX:(rs:List RK)->(jE rs->Prop)->Prop
 | [],k=>k ()
 | .val t::r,k=>xH t λx=>xX r λy=>k (x,y)
 | .agg o::r,k=>ym o λx=>xX r λy=>k (x,y)
 | .own _ t::r,k=>∀ x:List t.D,xX r λy=>k (x,y)
 | .box _ o::r,k=>ym o λx=>xX r λy=>k (x,y)
 | .fn _ _::r,k=>xX r λy=>k ((),y)
theorem za:∀{rs:List RK}{k:jE rs->Prop},xX rs k→∀ d,k d
 | [],k,h,d=>h
 | .val t::r,k,h,d=>za (rs:=r) (Fr.1 h d.1) d.2
 | .agg o::r,k,h,d=>za (zk h d.1) d.2
 | .own _ t::r,k,h,d=>za (h d.1) d.2
 | .box _ o::r,k,h,d=>za (zk h d.1) d.2
 | .fn _ _::r,k,h,d=>za (rs:=r) h d.2
def tY:(ps:List PK)->(gA ps->Prop)->Prop
 | [],k=>k ()
 | .val _::r,k=>tY r k
 | .agg _::r,k=>tY r k
 | .own _ _::r,k=>tY r k
 | .ago _::r,k=>tY r k
 | .fn _ _::r,k=>tY r k
 | .nils::r,k=>tY r k
 | .box _ o::r,k=>ym o λx=>tY r λy=>k (x,y)
 | .row _ t::r,k=>∀ x:List t.D,tY r λy=>k (x,y)
theorem uJ:∀{ps:List PK}{k:gA ps->Prop},tY ps k→∀ d,k d
 | [],k,h,d=>h
 | .val _::r,k,h,d=>uJ (ps:=r) h d
 | .agg _::r,k,h,d=>uJ (ps:=r) h d
 | .own _ _::r,k,h,d=>uJ (ps:=r) h d
 | .ago _::r,k,h,d=>uJ (ps:=r) h d
 | .fn _ _::r,k,h,d=>uJ (ps:=r) h d
 | .nils::r,k,h,d=>uJ (ps:=r) h d
 | .box _ o::r,k,h,d=>uJ (zk h d.1) d.2
 | .row _ t::r,k,h,d=>uJ (h d.1) d.2
def OE(rs:List RK)(ps:List PK):Qn (jE rs×gA ps) :=
 ⟨λk=>xX rs λy=>tY ps λz=>k (y,z),λk h x=>uJ (za h x.1) x.2,λk=>∃ x,k x,λ_ h=>h⟩
def Cn.spec(c:Cn):Spec:=λbase svs=>(gM none c.ps svs).bind λp=>match z5 p.2.1 p.2.2.1 p.2.2.2 with
 | true=>rp base (gE c.rs+jA c.ps) (.nd (jE c.rs×gA c.ps) (OE c.rs c.ps) (c.pre p.1) (c.post p.1) (c.inh p.1) (λy=>qZ (kA (p.2.2.1.headD 0) c.rs y.1 base)) (yK c.ps c.rs base p.2.1 p.2.2.1 p.2.2.2))
 | false => .fail
section
variable {w0:World} {N0:f5} {A A' A1 A2:Nat->Prop} {env env1 env':aZ} {h h1:bN} {w w1:World}
theorem wR{a b c:Bool}{p:Prop}(h:(a&&b)=true∨p):a=true∨p:=by
 grind
theorem xn{a b:Bool}{p:Prop}(h:(a&&b)=true∨p):b=true∨p:=by
 grind
theorem ax7{al:Bool}{t:OT}{rs:List RK}{a:List SV} {x} (e:nq al (.agg t::rs) a h1=some x):∃ cs r,a = .agg cs::r:=by
 cases a with
 | nil=>cases e
 | cons s r=>cases s <;> first|exact⟨_,_,rfl⟩|cases e
theorem T1{al:Bool}{E:TypeId}{t:CT}{rs:List RK}{a:List SV} {x} (e:nq al (.own E t::rs) a h1=some x):∃ v r,a=v::r:=by
 cases a with
 | nil=>cases e
 | cons s r=>exact⟨_,_,rfl⟩
theorem aR6{al:Bool}{E:TypeId}{t:OT}{rs:List RK}{a:List SV} {x} (e:nq al (.box E t::rs) a h1=some x):∃ m r,a = .ptr m 0::r:=by
 cases a with
 | nil=>cases e
 | cons s r=>cases s <;> first|cases e;done|(rename_i m o;cases o <;> first|exact⟨_,_,rfl⟩|cases e)
theorem VO{al:Bool}{f:FuncId}{k:Nat}{rs:List RK}{a:List SV} {x} (e:nq al (.fn f k::rs) a h1=some x):∃ g cs r,a = .fn g cs::r:=by
 cases a with
 | nil=>cases e
 | cons s r=>cases s <;> first|exact⟨_,_,_,rfl⟩|cases e
theorem ad7{al:Bool}{E:TypeId}{t:OT}{j:Option Nat}{a:List SV} {x} (e:mJ h1 al (.ref E t) j a=some x):∃ b m r,j=some b/\a = .ptr m 0::r:=by
 cases j with
 | none=>cases a <;> cases e
 | some b =>
  cases a with
  | nil=>cases e
  | cons s r=>cases s <;> first|cases e;done|(rename_i m o;cases o <;> first|exact⟨_,_,_,rfl,rfl⟩|cases e)
theorem Sr{al:Bool}{f:FuncId}{j:Option Nat}{a:List SV} {x} (e:mJ h1 al (.fnc f) j a=some x):∃ r,a = .fn f []::r/\x=((),r,[],[]):=by
 cases a with
 | nil=>cases e
 | cons s r =>
  cases s <;> first|cases e;done|skip
  rename_i g cs;cases cs <;> first|cases e;done|skip
  simp only[mJ] at e;split at e
  .simp_all
  .cases e
theorem SR{al:Bool}{E:TypeId}{t:CT}{j:Option Nat}{a:List SV} {x} (e:mJ h1 al (.rowg E t) j a=some x):∃ v r,a=v::r:=by
 cases a with
 | nil=>cases e
 | cons s r=>exact⟨_,_,rfl⟩
theorem QP{Nc:f5}(m1:Mod w Nc A1 env1 h1 w1)(hA:∀ b,A1 b->A2 b){E:TypeId}{t:CT}(L:t.plain=true∨∀ b,A2 b->A' b){cs rest:List SV}{vs:List Value}{ys:List t.D}{j:Option Nat}
  (e:FT E t h1 cs=some (ys,rest,j)) (q:aR A1 env1 w1 cs vs) :
  ∃ v f,vs=v::f/\rest=cs.drop 1/\aR A1 env1 w1 rest f∧∀(g:aZ)(i:Nat),g i=pk env1 j->az A' g w1 (.own i t.size) v/\jP A' env1 h1 g w1 [j] [(i,.live (.row E t ys))] i:=by
 cases cs with
 | nil=>cases e
 | cons s cs =>
 cases s with
 | own n sz =>
  simp only[FT] at e;split at e
  .rename_i E' t' xs r;split at e
   .rename_i zs l d hc;have l:=bG l;subst l;have d:=bG d;subst d;obtain⟨et,ez⟩:=jR hc;subst et;subst ez;obtain⟨rfl,rfl,rfl⟩:=e;obtain⟨x,f,rfl,hv,m⟩:=q;have o:=m1.nm n;rw[r] at o;refine⟨x,f,rfl,rfl,m,λg i c=>⟨?_,⟨rfl,_,rfl,rfl,.inl ⟨n,_,rfl,r,rfl,λk len c=>?_,λc=>?_⟩⟩,trivial⟩⟩
    .simp only[pk] at c;simp only[az];rw[c];exact hv
    .rcases o with⟨k',h,a,p,_⟩|⟨a,_⟩
     .rw[c] at a;cases a;obtain⟨us,cap,g1,g2,g3,g4,g5,g6⟩:=p;exact⟨us,cap,g1,g2,g3,g4,g5,λi hi=>CZ L (iA hA (λ_ _ _=>rfl) _ _ _ _ _ (λ_ _=>rfl) (g6 i hi))⟩
     .rw[c] at a;cases a
    .rcases o with⟨k',h,a,p,_⟩|⟨a,E2,t2,p⟩
     .rw[c] at a;cases a
     .simp_all
   .cases e
  .cases e
 | nilsl =>
  obtain⟨rfl,rfl,rfl⟩:=e;obtain⟨x,f,rfl,rfl,m⟩:=q;refine⟨_,f,rfl,rfl,m,λg i c=>⟨?_,⟨rfl,_,rfl,rfl,.inr ⟨rfl,_,_,rfl⟩⟩,trivial⟩⟩;exact .inl ⟨c,_,rfl⟩
 | _=>cases e
def qd(A':Nat->Prop)(env1:aZ)(h1:bN)(env':aZ)(w1:World)(bx:List Nat)(j:Nat)(n:Nat)(x:Nm):Prop :=
 ∃ i b b0,bx[i]? = some n/\x = .live b/\b.mut=true/\h1 (PN+(j+i)) = .live b0/\b0.mut=true/\(∀ k len,env1 (PN+(j+i)) = .blk k len->j9 A' env' w1 k len b)/\(env1 (PN+(j+i)) = .nil→∃ E t,b = .row E t [])
theorem qd.shift{pre bx:List Nat}{j n:Nat}{x:Nm}(h:qd A' env1 h1 env' w1 bx (j+pre.length) n x):qd A' env1 h1 env' w1 (pre++bx) j n x:=by
 obtain⟨i,b,b0,g1,g2,g3,a,g5,c,d⟩:=h
 rw[show j+pre.length+i=j+(pre.length+i) from by omega] at a c d
 exact⟨pre.length+i,b,b0,by rw[jU (by omega),lC];exact g1,g2,g3,a,g5,c,d⟩
theorem qd.grow{bx post:List Nat}{j n:Nat}{x:Nm}(h:qd A' env1 h1 env' w1 bx j n x):qd A' env1 h1 env' w1 (bx++post) j n x:=by
 obtain⟨i,b,b0,a,g2⟩:=h
 exact⟨i,b,b0,by rw[kP (List.getElem?_eq_some_iff.1 a).1];exact a,g2⟩
theorem Ha{al:Bool}:∀(o:OT)(cs:List SV) {x},mJ h1 al o none cs=some x->o.nb=0
 | .dat t,_,_,_=>rfl
 | .row _ t,_,_,_=>rfl
 | .rowg _ t,_,_,_=>rfl
 | .fnc _,_,_,_=>rfl
 | .ali,_,_,_=>rfl
 | .pair a b,cs,x,e=>by
  simp only[mJ] at e;split at e
  .rename_i c;split at e
   next d=>have k1:=Ha a _ c;have k2:=Ha b _ d;simp only[OT.nb];omega
   .cases e
  .cases e
theorem XP{al:Bool}{j:Option Nat}{a:List SV} {x} (e:mJ h1 al .ali j a=some x):∃ r,a = .ptr PN 0::r/\al=true/\x=((),r,[],[]):=by
 cases a with
 | nil=>cases e
 | cons s r =>
  cases s with
  | ptr m off=>cases off with
   | zero =>
    have e:(match (generalizing:=false) al,Nat.beq m PN with|true,true=>(some ((),r,[],[]):Option (Unit×List SV×List (Nat×Nm)×List (Option Nat)))|_,_=>none)=some x:=by
     cases j <;> exact e
    cases hb:Nat.beq m PN with
    | false=>rw[hb] at e;cases al <;> cases e
    | true =>
     cases al with
     | false=>cases e
     | true =>
      simp_all
   | succ k=>cases e
  | _=>cases e
theorem zA{al:Bool}{Nc:f5}(m1:Mod w Nc A1 env1 h1 w1)(hA:∀ b,A1 b->A2 b)(b0:Nat):∀(o:OT)(j:Option Nat)(cs:List SV)(vs:List Value)(x:o.X)(rest:List SV)(fz:List (Nat×Nm))(ow:List (Option Nat))(bx more:List Nat)(n:Nat),
  mJ h1 al o j cs=some (x,rest,fz,ow)->aR A1 env1 w1 cs vs->(∀ k,gJ env1 fz k->A2 k)->(o.plain=true∨∀ b,A2 b->A' b)->(j=none∨bx.length=o.nb) →
  oe h1 fz/\ow.length=o.nr∧∃ us rs,vs=us++rs/\aR A1 env1 w1 rest rs ∧
   ((al=true->env' b0=env1 PN)->(∀ k q,ow[k]? = some q->env' (n+k)=pk env1 q)->(∀ j0 k q,j=some j0->bx[k]? = some q->env' q=env1 (PN+(j0+k))) →
     aR A' env' w1 (nF b0 o x (bx++more) n) us/\jP A' env1 h1 env' w1 ow (r4 o x n) n/\(∀ q y,(q,y)∈mg b0 o x (bx++more) n→∃ j0,j=some j0/\qd A' env1 h1 env' w1 bx j0 q y) ∧
     (j≠none→∀ q,q∈bx->q∈(mg b0 o x (bx++more) n).map (·.1)))
 | .dat t,j,cs,vs,x,rest,fz,ow,bx,more,n,e,hd,hF,L,hbl=>by
  simp only[mJ] at e;split at e
  .rename_i x1 r1 f1 q1 hp;simp only[bp,br] at e;obtain⟨rfl,rfl,rfl,rfl⟩:=e;obtain⟨p1,p2,p3,p4,p5⟩:=sr m1 t cs vs x1 r1 f1 _ hp hd hA hF;refine⟨p1,rfl,vs.take t.size,vs.drop t.size,(mZ _ _).symm,p5,λ_ _ _=>⟨?_,trivial,λq y hh=>by simp[mg] at hh,λhj q hq=>?_⟩⟩
   .simp only[nF];refine DX (by rw[dA];omega) (CZ L ?_);refine iA (λ_ h=>h) (λ_ _ _=>rfl) t _ _ _ _ (λk hk=>?_) p4;simp only[gk,pE];rw[am hk]
   .rcases hbl with hbl|hbl
    .exact absurd hbl hj
    .rw[List.length_eq_zero_iff.1 hbl] at hq;cases hq
  .cases e
 | .row E t,j,cs,vs,x,rest,fz,ow,bx,more,n,e,hd,hF,L,hbl=>by
  simp only[mJ] at e;split at e
  .rename_i x1 r1 o1 hp;simp only[bp,br] at e;obtain⟨rfl,rfl,rfl,rfl⟩:=e;obtain⟨v,vr,rfl,-,p2,p3⟩:=QP (A':=A') m1 hA L hp hd;refine⟨λn b hh=>by simp at hh,rfl,[v],vr,rfl,p2,λ_ ho _=>?_⟩;obtain⟨k1,k2⟩:=p3 env' n (ho 0 _ rfl);refine⟨?_,k2,λq y hh=>by simp[mg] at hh,λhj q hq=>?_⟩
   .simp only[nF,aR];exact⟨v,[],rfl,k1,rfl⟩
   .rcases hbl with hbl|hbl
    .exact absurd hbl hj
    .rw[List.length_eq_zero_iff.1 hbl] at hq;cases hq
  .cases e
 | .rowg E t,j,cs0,vs,x,rest,fz,ow,bx,more,n,e,hd,hF,L,hbl=>by
  obtain⟨v,cs,rfl⟩:=SR e;simp only[mJ,bp,br] at e;obtain⟨-,rfl,rfl,rfl⟩:=e;simp only[aR] at hd;obtain⟨u,vr,rfl,hu,hvr⟩:=hd;refine⟨λn b hh=>by simp at hh,rfl,[u],vr,rfl,hvr,λ_ ho _=>⟨?_,trivial,λq y hh=>by simp[mg] at hh,λhj q hq=>?_⟩⟩
  .simp only[nF,aR,az];exact⟨u,[],rfl,trivial,rfl⟩
  .rcases hbl with hbl|hbl
   .exact absurd hbl hj
   .rw[List.length_eq_zero_iff.1 hbl] at hq;cases hq
 | .fnc f,j,cs0,vs,x,rest,fz,ow,bx,more,n,e,hd,hF,L,hbl=>by
  obtain⟨cs,rfl,e2⟩:=Sr e;simp only[br] at e2;obtain⟨-,rfl,rfl,rfl⟩:=e2;simp only[aR] at hd;obtain⟨u,vr,rfl,hu,hvr⟩:=hd;refine⟨λn b hh=>by simp at hh,rfl,[u],vr,rfl,hvr,λ_ ho _=>⟨?_,trivial,λq y hh=>by simp[mg] at hh,λhj q hq=>?_⟩⟩
  .simp only[nF,aR];simp only[az,aR] at hu;refine⟨u,[],rfl,?_,rfl⟩;simp only[az,aR];exact hu
  .rcases hbl with hbl|hbl
   .exact absurd hbl hj
   .rw[List.length_eq_zero_iff.1 hbl] at hq;cases hq
 | .ali,j,cs0,vs,x,rest,fz,ow,bx,more,n,e,hd,hF,L,hbl=>by
  obtain⟨cs,rfl,hj0,e2⟩:=XP e;simp only[br] at e2;obtain⟨-,rfl,rfl,rfl⟩:=e2;simp only[aR,az] at hd;obtain⟨u,vr,rfl,⟨k,len,hek,rfl⟩,hvr⟩:=hd;refine⟨λn b hh=>by simp at hh,rfl,[_],vr,rfl,hvr,λhb0 ho _=>⟨?_,trivial,λq y hh=>by simp[mg] at hh,λhj q hq=>?_⟩⟩
  .simp only[nF,aR,az];exact⟨_,[],rfl,⟨k,len,by rw[hb0 hj0];exact hek,rfl⟩,rfl⟩
  .rcases hbl with hbl|hbl
   .exact absurd hbl hj
   .rw[List.length_eq_zero_iff.1 hbl] at hq;cases hq
 | .ref E o,j,cs0,vs,x,rest,fz,ow,bx,more,n,e,hd,hF,L,hbl=>by
  obtain⟨j0,m,cs,rfl,rfl⟩:=ad7 e;simp only[mJ] at e;split at e
  .rename_i E' cs' hm hl;have hm:=bG hm;subst hm;split at e
   .rename_i x1 f1 w1' hE hp;have hE:=bG hE;subst hE;simp only[bp,br] at e;obtain⟨rfl,rfl,rfl,rfl⟩:=e;simp only[aR,az] at hd;obtain⟨u,vr,rfl,⟨kb,lb,hkb,rfl⟩,hvr⟩:=hd;obtain⟨⟨us,hus,hdu⟩,_⟩:=m1.live_blk hl hkb;cases bx with
    | nil=>rcases hbl with hbl|hbl <;> cases hbl
    | cons q0 bx =>
    have hbl':bx.length=o.nb:=by
     rcases hbl with hbl|hbl
     .cases hbl
     .simpa[OT.nb] using hbl
    obtain⟨s1,s2,us',rs',s5,s6,s7⟩:=zA m1 hA b0 o (some (j0+1)) cs' us.toList x1 [] f1 w1' bx more n hp hdu hF L (.inr hbl');simp only[aR] at s6;subst s6;rw[jG] at s5;subst s5;refine⟨s1,s2,[_],vr,rfl,hvr,λh0b ho hb=>?_⟩;have h0:=hb j0 0 q0 rfl rfl;rw[ix] at h0;obtain⟨k1,k2,k3,k4⟩:=s7 h0b ho (λj1 k q hj hq=>by
     cases hj;have:=hb j0 (k+1) q rfl (by simpa using hq)
     rwa [show j0+(k+1)=j0+1+k from by omega] at this)
    refine⟨?_,k2,λq y hh=>?_,λ_ q hq=>?_⟩
    .simp only[nF,me,aR,az];exact⟨_,[],rfl,⟨kb,lb,by rw[h0];exact hkb,rfl⟩,rfl⟩
    .simp only[mg,me] at hh;rcases dL.1 hh with hh|hh
     .cases hh;refine⟨j0,rfl,0,_,_,rfl,rfl,rfl,hl,rfl,λk len he=>?_,λhe=>?_⟩
      .rw[ix,hkb] at he;cases he;exact⟨us,hus,k1⟩
      .rw[ix,hkb] at he;cases he
     .obtain⟨j1,hj1,hbx⟩:=k3 q y hh;cases hj1;exact⟨j0,rfl,qd.shift (pre:=[q0]) hbx⟩
    .simp only[mg,me,fF];rcases dL.1 hq with rfl|hq
     .exact fW ..
     .exact fL _ (k4 (by simp) q hq)
   .cases e
  .cases e
 | .pair a b,j,cs,vs,x,rest,fz,ow,bx,more,n,e,hd,hF,L,hbl=>by
  simp only[mJ] at e;split at e
  .rename_i x1 r1 f1 o1 h1';split at e
   .rename_i x2 r2 f2 o2 h2';simp only[bp,br] at e;obtain⟨rfl,rfl,rfl,rfl⟩:=e;have hF1:∀ k,gJ env1 f1 k->A2 k:=λk ⟨n,x,l,hx,he⟩=>hF k ⟨n,x,l,gv _ hx,he⟩;have hF2:∀ k,gJ env1 f2 k->A2 k:=λk ⟨n,x,l,hx,he⟩=>hF k ⟨n,x,l,i5 _ hx,he⟩;have La:a.plain=true∨∀ b,A2 b->A' b:=wR (c:=true) L;have Lb:b.plain=true∨∀ b,A2 b->A' b:=xn L;have hla:j=none∨(bx.take a.nb).length=a.nb:=by
     rcases hbl with hbl|hbl
     .exact .inl hbl
     .simp only[OT.nb] at hbl;exact .inr (by rw[dA];omega)
    have hlb:j.map (· + a.nb)=none∨(bx.drop a.nb).length=b.nb:=by
     rcases hbl with hbl|hbl
     .exact .inl (by rw[hbl];rfl)
     .simp only[OT.nb] at hbl;exact .inr (by rw[fv];omega)
    obtain⟨s1,s2,us,rs,rfl,s6,s7⟩:=zA m1 hA b0 a j cs vs x1 r1 f1 o1 (bx.take a.nb) (bx.drop a.nb++more) n h1' hd hF1 La hla;obtain⟨t1,t2,us',rs',rfl,t6,t7⟩:=zA m1 hA b0 b (j.map (· + a.nb)) r1 rs x2 r2 f2 o2 (bx.drop a.nb) more (n+a.nr) h2' s6 hF2 Lb hlb;refine⟨λn b hh=>?_,by simp only[cu,s2,t2,OT.nr],us++us',rs',by rw[ia],t6,λh0b ho hb=>?_⟩
    .rcases dw.1 hh with hh|hh
     .exact s1 n b hh
     .exact t1 n b hh
    have eb:bx.take a.nb++(bx.drop a.nb++more)=bx++more:=by rw[← ia,mZ]
    obtain⟨k1,k2,k3,k4⟩:=s7 h0b (λk q hq=>ho k q (by rw[kP (List.getElem?_eq_some_iff.1 hq).1];exact hq))
     (λj0 k q hj hq=>by
      refine hb j0 k q hj ?_;rw[pE] at hq;split at hq
      .exact hq
      .cases hq)
    obtain⟨l1,l2,l3,l4⟩:=t7 h0b (λk q hq=>by
      have:=ho (a.nr+k) q (by rw[jU (by omega),s2,lC];exact hq)
      rwa [show n+(a.nr+k)=n+a.nr+k from by omega] at this)
     (λj1 k q hj hq=>by
      cases j with
      | none=>cases hj
      | some j0 =>
       simp only[Option.map_some,bp] at hj;subst hj;rw[pd] at hq;have:=hb j0 (a.nb+k) q rfl hq
       rwa [show j0+(a.nb+k)=j0+a.nb+k from by omega] at this)
    rw[eb] at k1 k3 k4;have ed:(bx++more).drop a.nb=bx.drop a.nb++more:=by
     rcases hbl with hbl|hbl
     .subst hbl;rw[Ha a _ h1',List.drop_zero,List.drop_zero]
     .simp only[OT.nb] at hbl;rw[List.drop_append_of_le_length (by omega)]
    have tl:∀ j0,j=some j0->(bx.take a.nb).length=a.nb:=λj0 hj=>by
     rcases hla with h|h
     .rw[hj] at h;cases h
     .exact h
    rw[← ed] at l1 l3 l4;simp only[nF,mg,r4];refine⟨uh k1 l1,k2.append (by rw[s2];exact l2),λq y hh=>?_,λhj q hq=>?_⟩
    .rcases dw.1 hh with hh|hh
     .obtain⟨j0,hj,hx⟩:=k3 q y hh;refine⟨j0,hj,?_⟩;have:=hx.grow (post:=bx.drop a.nb)
      rwa [mZ] at this
     .obtain⟨j1,hj1,hx⟩:=l3 q y hh;cases j with
      | none=>cases hj1
      | some j0 =>
       simp only[Option.map_some,bp] at hj1;subst hj1;refine⟨j0,rfl,?_⟩;have:=qd.shift (pre:=bx.take a.nb) (bx:=bx.drop a.nb) (j:=j0) (n:=q) (x:=y) (by rw[tl j0 rfl];exact hx)
       rwa [mZ] at this
    .rw[lL];rw[← mZ a.nb bx] at hq;rcases dw.1 hq with hq|hq
     .exact gv _ (k4 hj q hq)
     .exact i5 _ (l4 (by cases j with|none=>exact absurd rfl hj|some j0=>simp) q hq)
   .cases e
  .cases e
theorem Dp{b0:Nat}:∀{o:OT}{x:o.X}{bx more:List Nat}{n:Nat},bx.length=o.nb→∀ q,q∈bx->q∈(mg b0 o x (bx++more) n).map (·.1)
 | .dat _,x,bx,more,n,d,q,c=>by rw[List.length_eq_zero_iff.1 d] at c;cases c
 | .row _ _,x,bx,more,n,d,q,c=>by rw[List.length_eq_zero_iff.1 d] at c;cases c
 | .rowg _ _,x,bx,more,n,d,q,c=>by rw[List.length_eq_zero_iff.1 d] at c;cases c
 | .fnc _,x,bx,more,n,d,q,c=>by rw[List.length_eq_zero_iff.1 d] at c;cases c
 | .ali,x,bx,more,n,d,q,c=>by rw[List.length_eq_zero_iff.1 d] at c;cases c
 | .ref E o,x,q0::bx,more,n,d,q,c=>by
  simp only[me,mg,fF];rcases dL.1 c with rfl|c
  .simp_all
  .exact fL _ (Dp (o:=o) (by simpa[OT.nb] using d) q c)
 | .pair a b,x,bx,more,n,d,q,c=>by
  simp only[OT.nb] at d;simp only[mg,lL];rw[← mZ a.nb bx] at c;have e1:bx++more=bx.take a.nb++(bx.drop a.nb++more):=by rw[← ia,mZ]
  rcases dw.1 c with c|c
  .refine gv _ ?_;rw[e1];exact Dp (by rw[dA];omega) q c
  .refine i5 _ ?_;rw[List.drop_append_of_le_length (by omega)];exact Dp (by rw[fv];omega) q c
theorem yf{al:Bool}{Nc:f5}(m1:Mod w Nc A1 env1 h1 w1)(hA:∀ b,A1 b->A2 b)(b0:Nat):∀(rs:List RK)(d:jE rs)(svs:List SV)(vs:List Value)(fz:List (Nat×Nm))(ow:List (Option Nat))(n:Nat),
  nq al rs svs h1=some (d,fz,ow)->aR A1 env1 w1 svs vs->(∀ k,gJ env1 fz k->A2 k)->(uk rs=true∨∀ b,A2 b->A' b) →
  oe h1 fz/\ow.length=gE rs/\((al=true->env' b0=env1 PN)->(∀ i o,ow[i]? = some o->env' (n+i)=pk env1 o)->aR A' env' w1 (kA b0 rs d n) vs/\jP A' env1 h1 env' w1 ow (mv b0 rs d n) n)
 | [],d,[],vs,fz,ow,n,e,hd,hF,L=>by
  simp only[nq,bp,br] at e;obtain⟨-,rfl,rfl⟩:=e;exact⟨λn b hh=>by simp at hh,rfl,λ_ _=>⟨by simpa[kA,aR] using hd,trivial⟩⟩
 | .val t::rs,d,v::svs,vs,fz,ow,n,e,hd,hF,L=>by
  simp only[nq] at e;split at e
  .rename_i x f1 q hp;split at e
   .rename_i ps f2 o hr;simp only[bp,br] at e;obtain⟨rfl,rfl,rfl⟩:=e;simp only[aR] at hd;obtain⟨u,vr,rfl,hu,hvr⟩:=hd;have hF1:∀ k,gJ env1 f1 k->A2 k:=λk ⟨n,x,l,hx,he⟩=>hF k ⟨n,x,l,gv _ hx,he⟩;have hF2:∀ k,gJ env1 f2 k->A2 k:=λk ⟨n,x,l,hx,he⟩=>hF k ⟨n,x,l,i5 _ hx,he⟩;obtain⟨p1,_,p3,p4,_⟩:=sr m1 t [v] [u] x [] f1 _ hp (by simp only[aR];exact⟨u,[],rfl,hu,rfl⟩) hA hF1;obtain⟨s1,s2,s3⟩:=yf m1 hA b0 rs ps svs vr f2 o n hr hvr hF2 (xn L);refine⟨λn b hh=>?_,s2,λhal he=>?_⟩
    .rcases dw.1 hh with hh|hh
     .exact p1 n b hh
     .exact s1 n b hh
    .obtain⟨k1,k2⟩:=s3 hal he;refine⟨?_,k2⟩;simp only[kA,aR];exact⟨u,vr,rfl,I8 (rest:=[]) (CZ (wR (c:=true) L) p4),k1⟩
   .cases e
  .cases e
 | .agg t::rs,d,svs0,vs,fz,ow,n,e,hd,hF,L=>by
  obtain⟨cs,svs,rfl⟩:=ax7 e;simp only[nq] at e;split at e
  .rename_i x f1 w' hp;split at e
   .rename_i ps f2 o hr;simp only[bp,br] at e;obtain⟨rfl,rfl,rfl⟩:=e;simp only[aR,az] at hd;obtain⟨u,vr,rfl,⟨us,rfl,hu⟩,hvr⟩:=hd;have hF1:∀ k,gJ env1 f1 k->A2 k:=λk ⟨n,x,l,hx,he⟩=>hF k ⟨n,x,l,gv _ hx,he⟩;have hF2:∀ k,gJ env1 f2 k->A2 k:=λk ⟨n,x,l,hx,he⟩=>hF k ⟨n,x,l,i5 _ hx,he⟩;obtain⟨p1,p2,us',rs',p3,p4,p5⟩:=zA (env':=env') m1 hA b0 t none cs us.toList x [] f1 w' [] [] n hp hu hF1 (wR (c:=true) L) (.inl rfl);simp only[aR] at p4;subst p4;rw[jG] at p3;subst p3;obtain⟨s1,s2,s3⟩:=yf m1 hA b0 rs ps svs vr f2 o (n+t.nr) hr hvr hF2 (xn L);refine⟨λn b hh=>?_,by simp only[cu,p2,s2,gE];omega,λhal he=>?_⟩
    .rcases dw.1 hh with hh|hh
     .exact p1 n b hh
     .exact s1 n b hh
    .obtain⟨l1,l2,_⟩:=p5 hal (λk q hq=>he k q (by rw[kP (List.getElem?_eq_some_iff.1 hq).1];exact hq)) (λj0 k q hj _=>by cases hj);obtain⟨k1,k2⟩:=s3 hal (λk q hq=>by
      have:=he (t.nr+k) q (by rw[jU (by omega),p2,lC];exact hq)
      rwa [show n+(t.nr+k)=n+t.nr+k from by omega] at this)
     simp only[kA,mv,aR,az];exact⟨⟨_,vr,rfl,⟨us,rfl,l1⟩,k1⟩,l2.append (by rw[p2];exact k2)⟩
   .cases e
  .cases e
 | .own E t::rs,d,svs0,vs,fz,ow,n,e,hd,hF,L=>by
  obtain⟨v,svs,rfl⟩:=T1 e;simp only[nq] at e;split at e
  .rename_i x r1 w' hp;split at e
   next ps f2 o hr=>simp only[bp,br] at e;obtain⟨rfl,rfl,rfl⟩:=e;simp only[aR] at hd;obtain⟨u,vr,rfl,hu,hvr⟩:=hd;obtain⟨v',vr',p1,-,-,p3⟩:=QP (A':=A') m1 hA (wR (c:=true) L) hp (vs:=[u]) (by simp only[aR];exact⟨u,[],rfl,hu,rfl⟩);cases p1;obtain⟨s1,s2,s3⟩:=yf m1 hA b0 rs ps svs vr f2 o (n+1) hr hvr hF (xn L);refine⟨s1,by simp only[dM,s2,gE],λhal he=>?_⟩;obtain⟨l1,l2⟩:=p3 env' n (he 0 _ rfl);obtain⟨k1,k2⟩:=s3 hal (λk q hq=>by have:=he (k+1) q (by simpa using hq);rwa [show n+(k+1)=n+1+k from by omega] at this);simp only[kA,mv,aR];exact⟨⟨u,vr,rfl,l1,k1⟩,l2.1,k2⟩
   .cases e
  .cases e
 | .box E t::rs,d,svs0,vs,fz,ow,n,e,hd,hF,L=>by
  obtain⟨q,svs,rfl⟩:=aR6 e;simp only[nq] at e;split at e
  .rename_i E' cs hl;split at e
   .rename_i x f1 w' hE hp;have hE:=bG hE;subst hE;split at e
    .rename_i ps f2 o hr;simp only[bp,br] at e;obtain⟨rfl,rfl,rfl⟩:=e;simp only[aR,az] at hd;obtain⟨u,vr,rfl,⟨kb,lb,hkb,rfl⟩,hvr⟩:=hd;obtain⟨⟨us,hus,hdu⟩,_⟩:=m1.live_blk hl hkb;have hF1:∀ k,gJ env1 f1 k->A2 k:=λk ⟨n,x,l,hx,he⟩=>hF k ⟨n,x,l,gv _ hx,he⟩;have hF2:∀ k,gJ env1 f2 k->A2 k:=λk ⟨n,x,l,hx,he⟩=>hF k ⟨n,x,l,i5 _ hx,he⟩;obtain⟨p1,p2,us',rs',p3,p4,p5⟩:=zA (env':=env') m1 hA b0 t none cs us.toList x [] f1 w' [] [] (n+1) hp hdu hF1 (wR (c:=true) L) (.inl rfl);simp only[aR] at p4;subst p4;rw[jG] at p3;subst p3;obtain⟨s1,s2,s3⟩:=yf m1 hA b0 rs ps svs vr f2 o (n+1+t.nr) hr hvr hF2 (xn L);refine⟨λn b hh=>?_,by simp only[dM,cu,p2,s2,gE];omega,λhal he=>?_⟩
     .rcases dw.1 hh with hh|hh
      .exact p1 n b hh
      .exact s1 n b hh
     .have h0:=he 0 (some q) rfl;simp only[ix,pk] at h0;have he':∀ k q',(w'++o)[k]? = some q'→env' (n+1+k)=pk env1 q':=λk q' hq=>by
       have:=he (k+1) q' (by simpa using hq);rwa [show n+(k+1)=n+1+k from by omega] at this
      obtain⟨l1,l2,_⟩:=p5 hal (λk q hq=>he' k q (by rw[kP (List.getElem?_eq_some_iff.1 hq).1];exact hq)) (λj0 k q hj _=>by cases hj);obtain⟨k1,k2⟩:=s3 hal (λk q hq=>by
       have:=he' (t.nr+k) q (by rw[jU (by omega),p2,lC];exact hq)
       rwa [show n+1+(t.nr+k)=n+1+t.nr+k from by omega] at this)
      simp only[kA,mv,aR,az];refine⟨⟨_,vr,rfl,⟨kb,lb,by rw[h0];exact hkb,rfl⟩,k1⟩,⟨rfl,_,rfl,rfl,.inl ⟨q,_,rfl,hl,rfl,λk len hk=>?_,λhk=>?_⟩⟩,l2.append (by rw[p2];exact k2)⟩
      .rw[hkb] at hk;cases hk;exact⟨us,hus,l1⟩
      .rw[hkb] at hk;cases hk
    .cases e
   .cases e
  .cases e
 | .fn f k::rs,d,svs0,vs,fz,ow,n,e,hd,hF,L=>by
  obtain⟨g,cs,svs,rfl⟩:=VO e;simp only[nq] at e;split at e
  .rename_i hf hk;have hf:=bG hf;have hk:=bG hk;subst hf;split at e
   .rename_i ps f2 o hr;simp only[bp,br] at e;obtain⟨rfl,rfl,rfl⟩:=e;simp only[aR,az] at hd;obtain⟨x,vr,rfl,⟨us,rfl,hu⟩,hvr⟩:=hd;have hul:=jf hu;obtain⟨s1,s2,s3⟩:=yf m1 hA b0 rs ps (cs++svs) (us.toList++vr) f2 o n hr (uh hu hvr) hF L;refine⟨s1,s2,λhal he=>?_⟩;obtain⟨k1,k2⟩:=s3 hal he;refine⟨?_,k2⟩;simp only[kA,aR,az];refine⟨_,vr,rfl,⟨us,rfl,?_⟩,?_⟩
    .have:=A5 k k1
     rwa [List.take_left' (by omega)] at this
    .have:=Cr k k1
     rwa [List.drop_left' (by omega)] at this
   .cases e
  .cases e
 | [],_,_::_,_,_,_,_,e,_,_,_=>by cases e
 | .val _::_,_,[],_,_,_,_,e,_,_,_=>by cases e
def jh:List PK->Nat
 | []=>0
 | .val _::r=>jh r
 | .agg _::r=>jh r
 | .own _ _::r=>jh r
 | .ago _::r=>jh r
 | .fn _ _::r=>jh r
 | .nils::r=>jh r
 | .box _ o::r=>o.nb+jh r+1
 | .row _ _::r=>jh r+1
theorem FP:∀{o:OT}{d:o.D}{j i:Nat},(vF o d j i).length=o.nb
 | .dat _,_,_,_=>rfl
 | .row _ _,_,_,_=>rfl
 | .rowg _ _,_,_,_=>rfl
 | .fnc _,_,_,_=>rfl
 | .ali,_,_,_=>rfl
 | .ref _ o,d,j,i=>by simp only[vF,dM,FP (o:=o),OT.nb]
 | .pair a b,d,j,i=>by simp only[vF,cu,FP,FP,OT.nb]
theorem ur:∀{ps:List PK}{d:bw ps}{j i:Nat},(qm ps d j i).length=jh ps
 | [],_,_,_=>rfl
 | .val t::ps,d,j,i=>ur (ps:=ps)
 | .agg t::ps,d,j,i=>ur (ps:=ps)
 | .own _ t::ps,d,j,i=>ur (ps:=ps)
 | .ago _::ps,d,j,i=>ur (ps:=ps)
 | .fn _ _::ps,d,j,i=>ur (ps:=ps)
 | .nils::ps,d,j,i=>ur (ps:=ps)
 | .box E o::ps,d,j,i=>by simp only[qm,dM,cu,FP,ur,jh]
 | .row E t::ps,d,j,i=>by simp only[qm,dM,ur,jh]
theorem tf{Nc:f5}(m1:Mod w Nc A1 env1 h1 w1)(hA:∀ b,A1 b->A2 b)(b0:Nat):∀(ps:List PK)(d:gA ps)(fz:List (Nat×Nm))(ow:List (Option Nat))(bx:List Nat)(j n:Nat),
  mb ps j h1=some (d,fz,ow)->(∀ k,gJ env1 fz k->A2 k)->(mQ ps=true∨∀ b,A2 b->A' b)->bx.length=jh ps →
  oe h1 fz/\ow.length=jA ps/\((bx≠[]->env' b0=env1 PN)->(∀ k q,ow[k]? = some q->env' (n+k)=pk env1 q)->(∀ k q,bx[k]? = some q->env' q=env1 (PN+(j+k))) →
   jP A' env1 h1 env' w1 ow (iz ps d n) n/\(∀ q x,(q,x)∈gC b0 ps d bx n->qd A' env1 h1 env' w1 bx j q x))∧∀ q,q∈bx->q∈(gC b0 ps d bx n).map (·.1)
 | [],d,fz,ow,bx,j,n,e,hF,L,hl=>by
  simp only[mb,bp,br] at e;obtain⟨-,rfl,rfl⟩:=e;simp only[jh,List.length_eq_zero_iff] at hl;subst hl;exact⟨λn b hh=>by simp at hh,rfl,λ_ _ _=>⟨trivial,λq x hh=>by simp[gC] at hh⟩,λq hh=>by simp at hh⟩
 | .val t::ps,d,fz,ow,bx,j,n,e,hF,L,hl=>by
  simp only[gC,iz,jA];exact tf m1 hA b0 ps d fz ow bx j n (by simpa only[mb] using e) hF (by simpa only[mQ] using L) (by simpa only[jh] using hl)
 | .agg t::ps,d,fz,ow,bx,j,n,e,hF,L,hl=>by
  simp only[gC,iz,jA];exact tf m1 hA b0 ps d fz ow bx j n (by simpa only[mb] using e) hF (by simpa only[mQ] using L) (by simpa only[jh] using hl)
 | .own _ t::ps,d,fz,ow,bx,j,n,e,hF,L,hl=>by
  simp only[gC,iz,jA];exact tf m1 hA b0 ps d fz ow bx j n (by simpa only[mb] using e) hF (by simpa only[mQ] using L) (by simpa only[jh] using hl)
 | .ago _::ps,d,fz,ow,bx,j,n,e,hF,L,hl=>by
  simp only[gC,iz,jA];exact tf m1 hA b0 ps d fz ow bx j n (by simpa only[mb] using e) hF (by simpa only[mQ] using L) (by simpa only[jh] using hl)
 | .fn _ _::ps,d,fz,ow,bx,j,n,e,hF,L,hl=>by
  simp only[gC,iz,jA];exact tf m1 hA b0 ps d fz ow bx j n (by simpa only[mb] using e) hF (by simpa only[mQ] using L) (by simpa only[jh] using hl)
 | .nils::ps,d,fz,ow,bx,j,n,e,hF,L,hl=>by
  simp only[gC,iz,jA];exact tf m1 hA b0 ps d fz ow bx j n (by simpa only[mb] using e) hF (by simpa only[mQ] using L) (by simpa only[jh] using hl)
 | .box E o::ps,d,fz,ow,bx,j,n,e,hF,L,hl=>by
  cases bx with
  | nil=>simp[jh] at hl
  | cons n0 bx =>
  simp only[mb] at e;split at e
  .rename_i E' cs hlk;split at e
   .rename_i x f1 w' hE hp;have hE:=bG hE;subst hE;split at e
    .rename_i ps' f2 ow2 hr;simp only[bp,br] at e;obtain⟨rfl,rfl,rfl⟩:=e;simp only[dM,jh] at hl;have hF1:∀ k,gJ env1 f1 k->A2 k:=λk ⟨n,x,l,hx,he⟩=>hF k ⟨n,x,l,gv _ hx,he⟩;have hF2:∀ k,gJ env1 f2 k->A2 k:=λk ⟨n,x,l,hx,he⟩=>hF k ⟨n,x,l,i5 _ hx,he⟩;have hlt:(bx.take o.nb).length=o.nb:=by rw[dA];omega
     have eb:bx.take o.nb++bx.drop o.nb=bx:=mZ ..;obtain⟨s1,s2,s3,s4⟩:=tf m1 hA b0 ps ps' f2 ow2 (bx.drop o.nb) (j+1+o.nb) (n+o.nr) hr hF2 (xn L) (by rw[fv];omega);have hm:=m1.nm (PN+j);rw[hlk] at hm;have hbd:∃ kb lb us,env1 (PN+j) = .blk kb lb/\w1.heap[kb]? = some (.cells us E (0,0))/\aR A1 env1 w1 cs us.toList:=by
      rcases hm with⟨k',len',he',⟨us,hus,hdu⟩,_⟩|⟨he',_,_,hb|hb⟩
      .exact⟨k',len',us,he',hus,hdu⟩
      .cases hb
      .cases hb
     obtain⟨kb,lb,us,hkb,hus,hdu⟩:=hbd;obtain⟨p1,p2,us',rs',p3,p4,p5⟩:=zA (al:=true) (env':=env') m1 hA b0 o (some (j+1)) cs us.toList x [] f1 w' (bx.take o.nb) (bx.drop o.nb) n hp hdu hF1 (wR (c:=true) L) (.inr hlt);simp only[aR] at p4;subst p4;rw[jG] at p3;subst p3;rw[eb] at p5;refine⟨λn b hh=>?_,by simp only[cu,p2,s2,jA];omega,λh0b ho hb=>?_,λq hq=>?_⟩
     .rcases dw.1 hh with hh|hh
      .exact p1 n b hh
      .exact s1 n b hh
     .obtain⟨l1,l2,l3,_⟩:=p5 (λ_=>h0b (by simp)) (λk q hq=>ho k q (by rw[kP (List.getElem?_eq_some_iff.1 hq).1];exact hq))
       (λj0 k q hj hq=>by
        cases hj;rw[pE] at hq;split at hq
        .have:=hb (k+1) q (by simpa using hq)
         rwa [show j+(k+1)=j+1+k from by omega] at this
        .cases hq)
      obtain⟨k1,k2⟩:=s3 (λ_=>h0b (by simp)) (λk q hq=>by
        have:=ho (o.nr+k) q (by rw[jU (by omega),p2,lC];exact hq)
        rwa [show n+(o.nr+k)=n+o.nr+k from by omega] at this)
       (λk q hq=>by
        rw[pd] at hq;have:=hb (o.nb+k+1) q (by simpa using hq)
        rwa [show j+(o.nb+k+1)=j+1+o.nb+k from by omega] at this)
      simp only[iz,gC];refine⟨l2.append (by rw[p2];exact k1),λq y hh=>?_⟩;rcases dL.1 hh with hh|hh
      .cases hh;refine⟨0,_,_,rfl,rfl,rfl,hlk,rfl,λk len he=>?_,λhe=>?_⟩
       .rw[ix,hkb] at he;cases he;exact⟨us,hus,l1⟩
       .rw[ix,hkb] at he;cases he
      .rcases dw.1 hh with hh|hh
       .obtain⟨j0,hj,hx⟩:=l3 q y hh;cases hj;have:=(qd.shift (pre:=[n0]) (j:=j) hx).grow (post:=bx.drop o.nb)
        rwa [ia,eb] at this
       .have:=qd.shift (pre:=n0::bx.take o.nb) (bx:=bx.drop o.nb) (j:=j) (n:=q) (x:=y) (by rw[dM,hlt,show j+(o.nb+1)=j+1+o.nb from by omega];exact k2 q y hh)
        rwa [me,eb] at this
     .simp only[gC,fF,lL];rcases dL.1 hq with rfl|hq
      .exact fW ..
      .refine fL _ ?_;rw[← eb] at hq;rcases dw.1 hq with hq|hq
       .refine gv _ ?_;have:=Dp (b0:=b0) (o:=o) (x:=x) (n:=n) (more:=bx.drop o.nb) hlt q hq
        rwa [eb] at this
       .exact i5 _ (s4 q hq)
    .cases e
   .cases e
  .cases e
 | .row E t::ps,d,fz,ow,bx,j,n,e,hF,L,hl=>by
  cases bx with
  | nil=>simp[jh] at hl
  | cons n0 bx =>
  simp only[mb] at e;split at e
  .rename_i E' t' xs hlk;split at e
   .rename_i ys hE hcl;have hE:=bG hE;subst hE;obtain⟨et,ez⟩:=jR hcl;subst et;simp only at ez;subst ez;split at e
    .rename_i ps' f2 ow2 hr;simp only[bp,br] at e;obtain⟨rfl,rfl,rfl⟩:=e;obtain⟨s1,s2,s3,s4⟩:=tf m1 hA b0 ps ps' f2 ow2 bx (j+1) n hr hF (xn L) (by simpa[jh] using hl);have hm:=m1.nm (PN+j);rw[hlk] at hm;refine⟨s1,s2,λh0b ho hb=>?_,λq hq=>?_⟩
     .obtain⟨k1,k2⟩:=s3 (λ_=>h0b (by simp)) ho (λk q hq=>by have:=hb (k+1) q (by simpa using hq);rwa [show j+(k+1)=j+1+k from by omega] at this);simp only[iz,gC];refine⟨k1,λq y hh=>?_⟩;rcases dL.1 hh with hh|hh
      .cases hh;refine⟨0,_,_,rfl,rfl,rfl,hlk,rfl,λk len he=>?_,λhe=>?_⟩
       .rcases hm with⟨k',len',he',hb,_⟩|⟨he',_⟩
        .rw[ix] at he;rw[he] at he';cases he';obtain⟨us,cap,g1,g2,g3,g4,g5,g6⟩:=hb;exact⟨us,cap,g1,g2,g3,g4,g5,λi hi=>CZ (wR (c:=true) L) (iA hA (λ_ _ _=>rfl) _ _ _ _ _ (λ_ _=>rfl) (g6 i hi))⟩
        .rw[ix] at he;rw[he] at he';cases he'
       .rcases hm with⟨k',len',he',hb,_⟩|⟨he',E2,t2,hb⟩
        .rw[ix] at he;rw[he] at he';cases he'
        .rcases hb with hb|hb <;> cases hb;exact⟨_,_,rfl⟩
      .exact qd.shift (pre:=[n0]) (k2 q y hh)
     .simp only[gC,fF];rcases dL.1 hq with rfl|hq
      .exact fW ..
      .exact fL _ (s4 q hq)
    .cases e
   .cases e
  .cases e
end
end Go.SX
namespace Go.SX
def jY:List Nat->Nat->Rn
 | [],_=>[]
 | n::bx,j=>(n,some (PN+j))::jY bx (j+1)
def kU:List (Option Nat)->Nat->Rn
 | [],_=>[]
 | o::r,n=>(n,o)::kU r (n+1)
theorem GZ{a b:Rn}{n:Nat}:bf (a++b) n=(match bf a n with|some x=>some x|none=>bf b n):=by
 induction a with
 | nil=>rfl
 | cons p a ih =>
  obtain⟨m,x⟩:=p;simp only[me,qf];grind
theorem Ko:∀{bx:List Nat}{j n:Nat}{y:Option Nat},bf (jY bx j) n=some y→∃ i,bx[i]? = some n/\y=some (PN+(j+i))
 | m::bx,j,n,y,h=>by
  simp only[jY,qf] at h;split at h
  next e=>cases h;exact⟨0,by simp[e],rfl⟩
  .obtain⟨i,h1,h2⟩:=Ko h;exact⟨i+1,by simpa using h1,by rw[h2,show j+1+i=j+(i+1) from by omega]⟩
theorem O2:∀{bx:List Nat}{j n i:Nat},bx.Nodup->bx[i]? = some n->bf (jY bx j) n=some (some (PN+(j+i)))
 | m::bx,j,n,0,_,h=>by
  simp at h;subst h;simp only[jY,qf,am,ix]
 | m::bx,j,n,i+1,hn,h=>by
  have b:bx[i]? = some n:=by simpa using h
  obtain⟨h1,h2⟩:=List.nodup_cons.1 hn;have a:n≠m:=λe=>h1 (e▸pm b);simp only[jY,qf,af a,O2 h2 b];grind
theorem aD1{bx:List Nat}{j n:Nat}(h:n ∉ bx):bf (jY bx j) n=none:=by
 cases hl:bf (jY bx j) n with
 | none=>rfl
 | some y=>obtain⟨i,hi,_⟩:=Ko hl;exact absurd (pm hi) h
theorem N4:∀{a:List (Option Nat)}{n0 n:Nat}{y:Option Nat},bf (kU a n0) n=some y→∃ i,a[i]? = some y/\n=n0+i
 | o::a,n0,n,y,h=>by
  simp only[kU,qf] at h;split at h
  .simp_all
  .obtain⟨i,h1,h2⟩:=N4 h;exact⟨i+1,by simpa using h1,by omega⟩
theorem Rb:∀{a:List (Option Nat)}{n0 i:Nat}{o:Option Nat},a[i]? = some o->bf (kU a n0) (n0+i)=some o
 | p::a,n0,0,o,h=>by simp at h;subst h;simp[kU,qf]
 | p::a,n0,i+1,o,h=>by
  have h':a[i]? = some o:=by simpa using h
  have:=Rb (n0:=n0+1) h';simp only[kU,qf,af (show ¬ n0+(i+1)=n0 from by omega)];grind
theorem JC{n:Nat}:∀{l:List (Option Nat)},we n l=true↔some n∈l
 | []=>by simp[we]
 | none::r=>by simp[we,JC (l:=r)]
 | some m::r=>by simp[we,JC]
theorem Jw{fz:List (Nat×Nm)}:∀{a:List (Option Nat)},xQ fz a=true→∀(i m:Nat),a[i]? = some (some m)->(m<PN∨QN<=m)/\m ∉ fz.map (·.1)∧∀ i':Nat,a[i']? = some (some m)->i=i'
 | none::r,h,i,m,hi=>by
  simp only[xQ] at h;cases i with
  | zero=>simp at hi
  | succ i =>
   obtain⟨c,d,b⟩:=Jw h i m (by simpa using hi);grind
 | some q::r,h,i,m,hi=>by
  simp only[xQ,dK,pb,sa] at h;obtain⟨⟨⟨c,d⟩,b⟩,h4⟩:=h;have hno:∀ i:Nat,r[i]? ≠ some (some q):=λi hi=>by
   have:we q r=true:=JC.2 (pm hi);rw[this] at b;cases b
  cases i with
  | zero =>
   simp at hi;subst hi;refine⟨c.imp (λh=>lG h) (λh=>lG h),zF d,λi' hi'=>?_⟩;grind
  | succ i =>
   obtain⟨g1,g2,g3⟩:=Jw h4 i m (by simpa using hi);grind
theorem KF:∀{fz:List (Nat×Nm)},BS fz=true→∀ n,n∈fz.map (·.1)->n<PN∨QN<=n
 | (m,b)::r,h,n,a=>by
  simp only[BS,dK,pb] at h;rcases dL.1 a with e|a
  .simp_all
  .exact KF h.2 n a
theorem OD{fz:List (Nat×Nm)}:∀{bx:List Nat},BH fz bx=true→∀ n,n∈bx->n ∉ fz.map (·.1)
 | m::r,h,n,a=>by
  simp only[BH,dK] at h;rcases dL.1 a with rfl|a
  .exact zF h.1
  .exact OD h.2 n a
theorem DC{h:bN}{b d:Dl}:∀{k n:Nat}{r:List Nat},(rp n k b).run h=some (d,r)->d=b∧∀ i,i<k->h (n+i) = .un
 | 0,n,r,e=>by
  simp only[rp,Q.run,bp,br] at e;simp_all
 | k+1,n,r,e=>by
  simp only[rp,Q.run] at e;split at e
  .rename_i p q hk;obtain⟨rfl,rfl⟩:=e;split at hk
   .rename_i a;obtain⟨h1,h2⟩:=DC hk;refine⟨h1,λi hi=>?_⟩;cases i with
    | zero=>exact a
    | succ i=>rw[show n+(i+1)=n+1+i from by omega];exact h2 i (by omega)
   .cases hk
  .cases e
theorem H5{n:Nat}{x:Nm}:∀{cx:List (Option Nat)},(n,x)∈p9 cx->x = .dead/\n∈jX cx
 | none::r,h=>by simp only[p9] at h;simpa only[jX] using H5 (cx:=r) h
 | some m::r,h=>by
  rcases dL.1 h with h|h
  .cases h;exact⟨rfl,fW ..⟩
  .obtain⟨h1,h2⟩:=H5 h;exact⟨h1,fL _ h2⟩
theorem H7:∀{cx:List (Option Nat)},(p9 cx).map (·.1)=jX cx
 | []=>rfl
 | none::r=>by simp only[p9,jX];exact H7 (cx:=r)
 | some m::r=>by simp only[p9,jX,fF,H7]
def JN(P:Program)(ty:TypeId)(v:SV)(h:bN):Option SV:=match v with
 | .ptr n off=>match h n with
  | .live (.cells _ cs)=>n8 P ty cs off
  | _=>none
 | _=>none
def wE(P:Program):List ResultVar->List SV->bN->Option (List SV)
 | [],_,_=>some []
 | .tmp t::r,sl,h=>match wE P r sl h with
  | some l=>some (dV sl t::l)
  | none=>none
 | .cell a ty::r,sl,h=>match JN P ty (dV sl a) h,wE P r sl h with
  | some v,some l=>some (v::l)
  | _,_=>none
def A0(l:List Value):Value:=if h:l.toArray.size=1 then l.toArray[0] else .tuple l.toArray
theorem Xk{P:Program}{w0:World}{N0:f5}{A:Nat->Prop}{env:aZ}{h:bN}{w:World}(m:Mod w0 N0 A env h w){ty:TypeId}{s s':SV}{v:Value}(e:JN P ty s h=some s')(a:az A env w s v) :
  ∃ u,(do loadVar ty (← asAddr v):Sem Value).run P w = .ok u w/\az A env w s' u:=by
 unfold JN at e
 split at e
 next n off=>
  split at e
  next E cs hl=>obtain⟨b,l,he,rfl⟩:=a;obtain⟨⟨vs,hh,a⟩,_⟩:=m.live_blk hl he;obtain⟨u,c,hv⟩:=BV (o:=0) e a (λj hj=>by rw[cell_of_row w b _ vs E (0,0) hh];simp);rw[gk] at c;exact⟨u,by simp[asAddr,c],hv⟩
  .cases e
 .cases e
theorem GG{P:Program}{w0:World}{N0:f5}{A:Nat->Prop}{env:aZ}{h:bN}{w:World}(m:Mod w0 N0 A env h w){j:List SV}{a:Act}(f:FD A env w (dV j) a){F:ResultVar->Sem Value}
  (k:∀ t,F (.tmp t)=pure (a.tmps.getD t undef)) (c:∀ t ty,F (.cell t ty)=do loadVar ty (← asAddr (a.tmps.getD t undef))):∀(l:List ResultVar)(b:List SV),wE P l j h=some b →
  ∃ vs,(l.mapM F).run P w = .ok vs w/\aR A env w b vs
 | [],b,e=>by cases e;exact⟨[],rfl,by simp[aR]⟩
 | .tmp t::l,b,e=>by
  simp only[wE] at e;split at e
  next d hl=>cases e;obtain⟨vs,n,g⟩:=GG m f k c l d hl;refine⟨a.tmps.getD t undef::vs,?_,by simp only[aR];exact⟨_,_,rfl,f t,g⟩⟩;simp_all
  .cases e
 | .cell t ty::l,b,e=>by
  simp only[wE] at e;split at e
  next v d hv hl=>cases e;obtain⟨vs,n,g⟩:=GG m f k c l d hl;obtain⟨u,hu,i⟩:=Xk m hv (f t);refine⟨u::vs,?_,by simp only[aR];exact⟨_,_,rfl,i,g⟩⟩;rw[List.mapM_cons,c,Sem.run_bind,hu];simp[n]
  .cases e
theorem WE{P:Program}{w0:World}{N0:f5}{A:Nat->Prop}{env:aZ}{h:bN}{w:World}(m:Mod w0 N0 A env h w){d:List SV}{a:Act}(f:FD A env w (dV d) a){c:Func}{b:List SV}(e:wE P c.results.toList d h=some b) :
  ∃ vs,(results c a.tmps).run P w = .ok (A0 vs) w/\aR A env w b vs:=by
 unfold results
 rw[Array.mapM_eq_mapM_toList]
 obtain⟨vs,hr,hd⟩:=GG m f (F:=fun | .tmp t=>pure (a.tmps.getD t undef) | .cell t ty=>do loadVar ty (← asAddr (a.tmps.getD t undef))) (λt=>rfl) (λt ty=>rfl) c.results.toList b e
 refine⟨vs,?_,hd⟩
 rw[Sem.run_bind,Sem.run_map]
 erw [hr]
 rfl
theorem ag5{A:Nat->Prop}{env:aZ}{w:World}{a:List SV}{vs:List Value}(h:aR A env w a vs):az A env w (qZ a) (A0 vs):=by
 have hl:=jf h
 unfold qZ
 split
 .simp only[aR] at h;obtain⟨v,r,rfl,h,rfl⟩:=h;exact h
 next b=>
  have:¬ vs.length=1:=λe=>by
   rw[hl] at e;obtain⟨x,hx⟩:=List.length_eq_one_iff.1 e;exact b x hx
  simp only[A0,az];simp_all
def qL:List Prop->Prop
 | []=>True
 | [p]=>p
 | p::q::r=>p/\qL (q::r)
theorem zt:∀{l:List Prop},qL l↔bV l
 | []=>nh
 | [p]=>by simp[qL,bV]
 | p::q::r=>by rw[qL,bV,zt]
def Ai(P:Program)(ps:List PK)(rs:List RK)(rv:List ResultVar)(k:jE rs×gA ps->Prop):Ex->St->Prop:=λe S=>match e with
 | .exit _=>False
 | _=>match wE P rv S.sl (eI S.H) with
  | none=>False
  | some vs=>match nq (Nat.blt 0 (jh ps)) rs vs (eI S.H),mb ps 0 (eI S.H) with
   | some (y,f1,ow),some (z,f2,ow2)=>match xQ (f1++f2) (ow++ow2),BS (f1++f2) with
    | true,true=>k (y,z)
    | _,_=>False
   | _,_=>False
def oO:List SV->Nat->List SV
 | _,0=>[]
 | [],n+1 => .junk::oO [] n
 | v::l,n+1=>v::oO l n
def xW(ps:List PK)(d:bw ps)(n:Nat):St:=⟨oO (iO ps d 0 0) n,qm ps d 0 0++tE ps d 0⟩
theorem KE:∀{l:List SV}{n:Nat},(oO l n).length=n
 | _,0=>by simp[oO]
 | [],n+1=>by simp[oO,KE (l:=[])]
 | v::l,n+1=>by simp[oO,KE]
theorem Gq:∀{l:List SV}{n i:Nat},dV (oO l n) i = .junk∨∃ s,l[i]? = some s/\dV (oO l n) i=s
 | _,0,i=>by left;simp[oO,dV,nK]
 | [],n+1,0=>by left;simp[oO,dV,nK]
 | [],n+1,i+1=>by
  rcases Gq (l:=[]) with h|⟨s,h,_⟩
  .simpa[oO,dV,nK] using h
  .simp at h
 | v::l,n+1,0=>by right;exact⟨v,by simp,by simp[oO,dV,nK]⟩
 | v::l,n+1,i+1=>by
  rcases Gq with h|⟨s,h,h'⟩
  .left;simpa[oO,dV,nK] using h
  .right;exact⟨s,by simpa using h,by simpa[oO,dV,nK] using h'⟩
section
variable {P:Program} {sp:fh}
theorem Rx{ps:List PK}{rs:List RK}(post:bw ps->jE rs×gA ps->Prop){f:FuncId}{fn:Func}{code:Code}(hf:P.funcs[f]? = some fn)(hb:fn.body=some code)(hs:jo P sp)(rG:P.follows .mixedOrders=true)(an:bw ps->ce)
  {base:Nat} {svs:List SV} {h:bN} {dd:bw ps} {fz:List (Nat×Nm)} {bx:List Nat} {cx:List (Option Nat)} {q1:List Nat} (e1:(gM none ps svs).run h=some ((dd,fz,bx,cx),q1)) (hnm:z5 fz bx cx=true)
  (hun:∀ i,i<gE rs+jA ps->h (base+i) = .un) (vc:xV ps dd->ux (xW ps dd fn.ntmps) (sx P sp (an dd) code (Ai P ps rs fn.results.toList (post dd))))
  {w0:World} {N0:f5} {A:Nat->Prop} {env:aZ} {w:World} {vs:List Value} (hG:N0.g=sp.gl) (m:Mod w0 N0 A env h w) (hd:aR A env w svs vs) :
  Calls P f vs.toArray w λe w'=>∃ v y,e = .returned v/\post dd y∧∃ (A':Nat->Prop) (env':aZ),Mod w0 N0 A' env' (cZ (tK ps rs y base fz bx cx) h) w'∧dB A env w A' env' w'∧az A' env' w' (qZ (kA (bx.headD 0) rs y.1 base)) v:=by
 simp only[z5,dK] at hnm
 obtain⟨⟨hnd,hdj⟩,hbl⟩:=hnm
 have hnd:=Qx hnd
 have hdj:=OD hdj
 have hbl:=lG hbl
 obtain⟨a1,a4,a6⟩:=uY (envc:=oS env bx cx) m (Ac:=g9 A env fz) (λb hb=>.inl hb) none ps svs vs dd fz bx cx q1 0 0 e1 hd (λk hk=>.inr hk)
 obtain⟨dargs,lb,lc⟩:=a6 (λ_=>rfl) (λn hn=>by cases hn) (λk n hn=>by rw[gk];exact Km hbl hn) (λk q hq=>by rw[gk];exact al5 hq)
 rw[ix] at lb lc
 have mc:=m.call a1 hbl lb lc hdj hnd
 have hlen:bx.length=jh ps:=by
  have:=lb.get.1;rw[mh,ur] at this;exact this
 have hnd1:bx.Nodup:=(List.nodup_append.1 hnd).1
 have hvc:=vc a4
 rw[Ji] at hvc
 have hvl:=jf dargs
 have live_ne:∀ q b,h q = .live b->env q ≠ .un:=λq b hq=>by
  have:=m.nm q;rw[hq] at this;rcases this with⟨k,len,e,_⟩|⟨e,_⟩ <;> rw[e] <;> simp
 have hlive:∀ n,n∈bx++jX cx→∃ b,h n = .live b/\b.mut=true/\env n ≠ .un:=λn hn=>by
  rcases dw.1 hn with hn|hn
  .obtain⟨i,hi⟩:=List.mem_iff_getElem?.1 hn;obtain⟨b',_,_,_,⟨q,b,e,h1,h2,_⟩|⟨e,_⟩⟩:=lb.get.2 i (some n) (by simp[hi])
   .simp_all
   .cases e
  .obtain⟨i,hi⟩:=List.mem_iff_getElem?.1 (vX.1 hn);obtain⟨b',_,_,_,⟨q,b,e,h1,h2,_⟩|⟨e,_⟩⟩:=lc.get.2 i (some n) hi
   .simp_all
   .cases e
 refine calls_of_wp hf hb (aw3 (N0:=⟨CI env (bx++jX cx),g9 A env fz,N0.g⟩) ⟨hs,hG⟩ rG code _ _ _ (g9 A env fz) (oS env bx cx) _ w hvc ⟨mc,?_,?_,rfl⟩ ?_)
 .simp only[St.fs,xW,KE,Array.size_append,Array.size_replicate];omega
 .intro i;simp only[St.fs,xW];rcases Gq (l:=iO ps dd 0 0) (n:=fn.ntmps) (i:=i) with hj|⟨s,h1,h2⟩
  .rw[hj];simp only[az]
  .rw[h2];obtain⟨v,hv,hdv⟩:=Bj i s dargs h1;have hi:i<vs.length:=(List.getElem?_eq_some_iff.1 hv).1;have:(vs.toArray++Array.replicate (fn.ntmps-vs.toArray.size) undef).getD i undef=v:=by
    have h3:(vs.toArray++Array.replicate (fn.ntmps-vs.toArray.size) undef)[i]? = some v:=by
     grind
    simp_all
   rw[this];exact hdv
 .intro ex S' A1 env1 act w1 hK t' x';have hend:∃ rsv y f1 owr z f2 owb,wE P fn.results.toList S'.sl (eI S'.H)=some rsv/\nq (Nat.blt 0 (jh ps)) rs rsv (eI S'.H)=some (y,f1,owr)/\mb ps 0 (eI S'.H)=some (z,f2,owb) ∧
    xQ (f1++f2) (owr++owb)=true/\BS (f1++f2)=true/\post dd (y,z)/\(ex = .normal∨ex = .ret):=by
   unfold Ai at hK;split at hK
   .exact hK.elim
   .rename_i hex;split at hK
    .exact hK.elim
    .rename_i rsv hts;split at hK
     .rename_i y f1 ow z f2 ow2 h1 h2;split at hK
      .rename_i h3 h4;refine⟨rsv,y,f1,ow,z,f2,ow2,hts,h1,h2,h3,h4,hK,?_⟩;cases ex with
       | normal=>exact .inl rfl
       | ret=>exact .inr rfl
       | exit i=>exact absurd rfl (hex i)
      .exact hK.elim
     .exact hK.elim
  obtain⟨rsv,y,f1,owr,z,f2,owb,hts,ho,hob,hown,hlt,hpost,hex⟩:=hend;obtain⟨rvs,hrun,hres⟩:=WE t'.m t'.f hts;have hA2:∀ b,A1 b->g9 A1 env1 (f1++f2) b:=λb hb=>.inl hb;have hF1:∀ k,gJ env1 f1 k->g9 A1 env1 (f1++f2) k:=λk ⟨n,x,l,hx,he⟩=>.inr ⟨n,x,l,gv _ hx,he⟩;have hF2:∀ k,gJ env1 f2 k->g9 A1 env1 (f1++f2) k:=λk ⟨n,x,l,hx,he⟩=>.inr ⟨n,x,l,i5 _ hx,he⟩;have hlt:=KF hlt;have hownS:=Jw hown;have hPQ:QN=PN+PN:=rfl;have fin:∀(As A':Nat->Prop)(hs':bN),Mod w0 N0 As env hs' w->(∀ n,n∈bx++jX cx->hs' n=h n)->(∀ i,i<gE rs+jA ps->hs' (base+i) = .un)->(∀ b,As b->A' b)->(∀ b,A' b->g9 A1 env1 (f1++f2) b) →
    (∀ b,A' b->As b∨((CI env (bx++jX cx) b∨w.heap.size<=b)/\b<w1.heap.size))->(uk rs=true∨∀ b,g9 A1 env1 (f1++f2) b->A' b)->(mQ ps=true∨∀ b,g9 A1 env1 (f1++f2) b->A' b) →
    ∃ env',Mod w0 N0 A' env' (cZ (gC (bx.headD 0) ps z bx (base+gE rs)++(mv (bx.headD 0) rs y base++(iz ps z (base+gE rs)++p9 cx))) hs') w1/\dB As env w A' env' w1/\az A' env' w1 (qZ (kA (bx.headD 0) rs y base)) (A0 rvs):=by
   intro As A' hs' ms hsb hsu hAA hA'2 hA1' L1 L2;obtain⟨b1,b2,b3⟩:=yf (A':=A') (env':=ld (jY bx 0++kU (owr++owb) base) env env1) t'.m hA2 (bx.headD 0) rs y _ _ f1 owr base ho hres hF1 L1;obtain⟨c1,c2,c3,c4⟩:=tf (A':=A') (env':=ld (jY bx 0++kU (owr++owb) base) env env1) t'.m hA2 (bx.headD 0) ps z f2 owb bx 0 (base+gE rs) hob hF2 L2 hlen;have hfo:oe (eI S'.H) (f1++f2):=λn b hh=>by
    rcases dw.1 hh with hh|hh
    .exact b1 n b hh
    .exact c1 n b hh
   have howl:(owr++owb).length=gE rs+jA ps:=by rw[cu,b2,c2]
   have hnotbx:∀ i,i<gE rs+jA ps->base+i ∉ bx:=λi hi hmem=>by
    grind
   have hRbox:∀ i n,bx[i]? = some n->bf (jY bx 0++kU (owr++owb) base) n=some (some (PN+i)):=λi n hi=>by
    rw[GZ,O2 (j:=0) hnd1 hi,gk]
   have hRres:∀ i o,(owr++owb)[i]? = some o->bf (jY bx 0++kU (owr++owb) base) (base+i)=some o:=λi o hi=>by
    have hlti:i<gE rs+jA ps:=by have:=(List.getElem?_eq_some_iff.1 hi).1;omega
    rw[GZ,aD1 (hnotbx i hlti)];exact Rb hi
   have hRinv:∀ n y,bf (jY bx 0++kU (owr++owb) base) n=some y->(∃ i,bx[i]? = some n/\y=some (PN+i))∨∃ i,(owr++owb)[i]? = some y/\n=base+i/\i<gE rs+jA ps:=λn y hy=>by
    rw[GZ] at hy;split at hy
    next x hx=>cases hy;obtain⟨i,h1,h2⟩:=Ko hx;rw[gk] at h2;exact .inl ⟨i,h1,h2⟩
    .obtain⟨i,h1,h2⟩:=N4 hy;exact .inr ⟨i,h1,h2,by have:=(List.getElem?_eq_some_iff.1 h1).1;omega⟩
   have hbxlt:∀ i n,bx[i]? = some n->i<PN:=λi n hi=>by have:=(List.getElem?_eq_some_iff.1 hi).1;omega
   have henvp:∀ i n,bx[i]? = some n->env1 (PN+i)=env n:=λi n hi=>by
    obtain⟨b,_,_,hne⟩:=hlive n (gv _ (pm hi));have:=hbxlt i n hi;have:=x'.envp (PN+i) ab ab (by rw[Km hbl hi];exact hne);rw[this,Km hbl hi]
   have eenv:∀ i o,(owr++owb)[i]? = some o->ld (jY bx 0++kU (owr++owb) base) env env1 (base+i)=pk env1 o:=λi o hi=>by
    unfold ld;rw[hRres i o hi];simp only[iK,hRres i o hi];cases o <;> rfl
   have hhead:bx≠[]->ld (jY bx 0++kU (owr++owb) base) env env1 (bx.headD 0)=env1 PN:=λhne=>by
    obtain⟨n0,r,hbx⟩:=List.exists_cons_of_ne_nil hne;have h0:bx[0]? = some (bx.headD 0):=by rw[hbx];rfl
    unfold ld;rw[hRbox 0 _ h0];simp only[iK,hRbox 0 _ h0,ix]
   obtain⟨d1,d2⟩:=b3 (λhal=>hhead (λhnil=>by
     have h0:jh ps=0:=by rw[← hlen,hnil];rfl
     rw[h0] at hal;cases hal)) (λi o hi=>eenv i o (by rw[kP (List.getElem?_eq_some_iff.1 hi).1];exact hi))
   obtain⟨d3,d4⟩:=c3 hhead (λk q hq=>by
     have:=eenv (gE rs+k) q (by rw[jU ab,b2,lC];exact hq)
     rwa [← gP] at this)
    (λk q hq=>by
     unfold ld;rw[hRbox k q hq];simp only[iK,hRbox k q hq,gk])
   have hlookA:∀ q b k l,eI S'.H q = .live b->b.mut=true->env1 q = .blk k l->q ∉ (f1++f2).map (·.1)→¬ A' k:=λq b k l hq hbm he hqn hA'=>by
    have mf:=(t'.m.freeze hfo).1;have:cZ (f1++f2) S'.fs.h q = .live b:=by rw[nN hqn];exact hq
    exact (mf.live_blk this he).2 hbm (hA'2 k hA')
   suffices hk:Mod w0 N0 A' (ld (jY bx 0++kU (owr++owb) base) env env1) (cZ (gC (bx.headD 0) ps z bx (base+gE rs)++(mv (bx.headD 0) rs y base++(iz ps z (base+gE rs)++p9 cx))) hs') w1/\dB As env w A' (ld (jY bx 0++kU (owr++owb) base) env env1) w1 by
    exact⟨_,hk.1,hk.2,ag5 d1⟩
   have hnew:∀{l:List (Nat×Nm)}{os:List (Option Nat)}{n0:Nat},jP A' env1 (eI S'.H) (ld (jY bx 0++kU (owr++owb) base) env env1) w1 os l (base+n0)->(∀ i o,os[i]? = some o->(owr++owb)[n0+i]? = some o)→∀ n x,(n,x)∈l →
     ∃ b,x = .live b/\b.mut=true/\((∃ m b0,bf (jY bx 0++kU (owr++owb) base) n=some (some m)/\eI S'.H m = .live b0/\b0.mut=true ∧
      (∀ k len,env1 m = .blk k len->j9 A' (ld (jY bx 0++kU (owr++owb) base) env env1) w1 k len b)/\(env1 m = .nil→∃ E t,b = .row E t []))∨(bf (jY bx 0++kU (owr++owb) base) n=some none∧∃ E t,b = .row E t [])):=by
    intro l os n0 hl hos n x hx;have:∀{os:List (Option Nat)}{l:List (Nat×Nm)}{k0:Nat},jP A' env1 (eI S'.H) (ld (jY bx 0++kU (owr++owb) base) env env1) w1 os l k0→∀ n x,(n,x)∈l→∃ i o b',os[i]? = some o/\n=k0+i/\x = .live b'∧b'.mut=true ∧
      ((∃ q b,o=some q/\eI S'.H q = .live b/\b.mut=true/\(∀ k len,env1 q = .blk k len->j9 A' (ld (jY bx 0++kU (owr++owb) base) env env1) w1 k len b')/\(env1 q = .nil→∃ E t,b' = .row E t []))∨(o=none∧∃ E t,b' = .row E t [])):=by
     intro os
     induction os with
     | nil=>intro l k0 hl n x hx;cases l with
      | nil=>cases hx
      | cons p l=>exact hl.elim
     | cons o os ih =>
      intro l k0 hl n x hx;cases l with
      | nil=>cases hx
      | cons p l =>
       obtain⟨m',y'⟩:=p;obtain⟨⟨hm,b',g1,g2,g3⟩,hr⟩:=hl;rcases dL.1 hx with e|hx
       .cases e;exact⟨0,o,b',rfl,ab,g1,g2,g3⟩
       .obtain⟨i,o',b'',k1,k2,k3⟩:=ih hr n x hx;exact⟨i+1,o',b'',by simpa using k1,ab,k3⟩
    obtain⟨i,o,b',k1,rfl,k3,k4,k5⟩:=this hl n x hx;have hr:=hRres _ _ (hos i o k1);rw[← gP] at hr;refine⟨b',k3,k4,?_⟩;rcases k5 with⟨q,b,rfl,g1,g2,g3,g4⟩|⟨rfl,g1⟩
    .exact .inl ⟨q,b,hr,g1,g2,g3,g4⟩
    .exact .inr ⟨hr,g1⟩
   refine Mod.retn (R:=jY bx 0++kU (owr++owb) base) (U:=gC (bx.headD 0) ps z bx (base+gE rs)++(mv (bx.headD 0) rs y base++(iz ps z (base+gE rs)++p9 cx))) (A':=A') ms t'.m x'.shape ?_ ?_ ?_ ?_ ?_ hAA hA1' ?_
   .intro n x hx;rcases dw.1 hx with hx|hx
    .obtain⟨i,b,b0,h1,h2,h3,h4,h5,h6,h7⟩:=d4 n x hx;rw[gk] at h4 h6 h7;exact .inr ⟨b,h2,h3,.inl ⟨PN+i,b0,hRbox i n h1,h4,h5,h6,h7⟩⟩
    .rcases dw.1 hx with hx|hx
     .exact .inr (hnew (n0:=0) (by rw[ix];exact d2) (λi o hi=>by rw[gk,kP (List.getElem?_eq_some_iff.1 hi).1];exact hi) n x hx)
     .rcases dw.1 hx with hx|hx
      .exact .inr (hnew d3 (λi o hi=>by rw[jU ab,b2,lC];exact hi) n x hx)
      .exact .inl (H5 hx).1
   .intro n hn;obtain⟨y',hy⟩:=Option.ne_none_iff_exists'.1 hn;simp only[lL];rcases hRinv n y' hy with⟨i,h1,_⟩|⟨i,h1,rfl,hi⟩
    .exact gv _ (c4 n (pm h1))
    .refine i5 _ ?_;by_cases hlt':i<gE rs
     .refine gv _ ?_;obtain⟨b',_,hmem,_⟩:=d2.get.2 i _ (by rw[kP ab] at h1;exact h1);exact sk (f:=(·.1)) hmem
     .refine i5 _ (gv _ ?_);obtain⟨b',_,hmem,_⟩:=d3.get.2 (i-gE rs) _ (by rw[jU ab,b2] at h1;exact h1);have:=sk (f:=(·.1)) hmem
      rwa [show base+gE rs+(i-gE rs)=base+i from by omega] at this
   .intro n n' q hn hn';rcases hRinv n _ hn with⟨i,h1,h2⟩|⟨i,h1,rfl,_⟩ <;> rcases hRinv n' _ hn' with⟨i',h1',h2'⟩|⟨i',h1',rfl,_⟩
    .simp only[bp] at h2 h2';have:i=i':=ab;subst this;rw[h1] at h1';exact Option.some.inj h1'
    .simp only[bp] at h2;have:=(hownS i' q h1').1;have:=hbxlt _ _ h1;omega
    .simp only[bp] at h2';have:=(hownS i q h1).1;have:=hbxlt _ _ h1';omega
    .rw[(hownS i q h1).2.2 i' h1']
   .intro n hn;obtain⟨y',hy⟩:=Option.ne_none_iff_exists'.1 hn;rcases hRinv n y' hy with⟨i,h1,rfl⟩|⟨i,h1,rfl,h2⟩
    .have hmem:n∈bx++jX cx:=gv _ (pm h1);obtain⟨b,g2',g3',_⟩:=hlive n hmem;exact .inr ⟨b,by rw[hsb n hmem];exact g2',g3',by rw[tP hy];exact henvp i n h1⟩
    .exact .inl (hsu i h2)
   .rintro k ⟨n,l,hn,he⟩;obtain⟨b,g2',g3',_⟩:=hlive n hn;refine⟨n,b,l,?_,by rw[hsb n hn];exact g2',g3',he⟩;simp only[lL,H7];rcases dw.1 hn with hn|hn
    .exact gv _ (c4 n hn)
    .exact i5 _ (i5 _ (i5 _ hn))
   .rintro q b k l hq hbm he ⟨n,hn⟩;refine hlookA q b k l hq hbm he λhmem=>?_;rcases hRinv n _ hn with⟨i,h1,h2⟩|⟨i,h1,rfl,_⟩
    .simp only[bp] at h2;have:=hlt q hmem;have:=hbxlt _ _ h1;omega
    .exact (hownS i q h1).2.1 hmem
  suffices hfin:∃ (A':Nat->Prop) (env':aZ),Mod w0 N0 A' env' (cZ (tK ps rs (y,z) base fz bx cx) h) w1/\dB A env w A' env' w1/\az A' env' w1 (qZ (kA (bx.headD 0) rs y base)) (A0 rvs) by
   have hthis:act.defers=[]∧∃ v,(results fn act.tmps).run P w1 = .ok v w1∧∃ v' y',Ending.returned v = .returned v'∧post dd y'∧∃ (A':Nat->Prop) (env':aZ),Mod w0 N0 A' env' (cZ (tK ps rs y' base fz bx cx) h) w1/\dB A env w A' env' w1/\az A' env' w1 (qZ (kA (bx.headD 0) rs y'.1 base)) v' :=
    ⟨t'.dfr,_,hrun,_,(y,z),rfl,hpost,hfin⟩
   rcases hex with rfl|rfl
   .exact hthis
   .exact hthis
  unfold tK;cases hk:xt ps rs with
  | true =>
   obtain⟨mf,xf⟩:=m.freeze a1;have hback:∀ b,g9 A1 env1 (f1++f2) b->g9 A env fz b∨((CI env (bx++jX cx) b∨w.heap.size<=b)/\b<w1.heap.size):=by
    intro b hb;have hfo:oe (eI S'.H) (f1++f2):=by
     obtain⟨b1,_⟩:=yf (A':=g9 A1 env1 (f1++f2)) (env':=env1) t'.m hA2 (bx.headD 0) rs y _ _ f1 owr base ho hres hF1 (.inr λb hb=>hb);obtain⟨c1,_⟩:=tf (A':=g9 A1 env1 (f1++f2)) (env':=env1) t'.m hA2 (bx.headD 0) ps z f2 owb bx 0 base hob hF2 (.inr λb hb=>hb) hlen;intro n b hh;rcases dw.1 hh with hh|hh
     .exact b1 n b hh
     .exact c1 n b hh
    have hAlt:=(t'.m.freeze hfo).1.Alt b hb;rcases hb with hb|⟨n,x,l,hx,he⟩
    .rcases t'.m.fresh b hb with h1|h1|h1
     .exact .inl h1
     .grind
     .exact .inr ⟨.inr h1,hAlt⟩
    .obtain⟨E,t,xs,hl,_⟩:=hfo n x hx;rcases t'.m.own n _ b l hl rfl he with h1|h1
     .exact .inr ⟨.inl h1,hAlt⟩
     .exact .inr ⟨.inr h1,hAlt⟩
   obtain⟨env',k1,k2,k3⟩:=fin (g9 A env fz) (g9 A1 env1 (f1++f2)) (cZ fz h) mf (λn hn=>nN (hdj n hn)) (λi hi=>by
     rw[nN]
     .exact hun i hi
     .intro hmem;obtain⟨⟨n,x⟩,hx,he⟩:=List.mem_map.1 hmem;simp only at he;subst he;obtain⟨E,t,xs,hl,_⟩:=a1 _ _ hx;rw[hun i hi] at hl;cases hl)
    (λb hb=>.inl (x'.imm b hb)) (λb hb=>hb) hback (.inr λb hb=>hb) (.inr λb hb=>hb)
   refine⟨_,env',?_,xf.trans k2,k3⟩;rw[Gi];exact k1
  | false =>
   have hpl:uk rs=true/\mQ ps=true:=by
    simpa[xt] using hk
   obtain⟨env',k1,k2,k3⟩:=fin A A h m (λn hn=>rfl) hun (λb hb=>hb) (λb hb=>.inl (x'.imm b (.inl hb))) (λb hb=>.inl hb) (.inl hpl.1) (.inl hpl.2);refine⟨_,env',?_,k2,k3⟩;rw[jG];exact k1
def wL:(rs:List RK)->jE rs->jE rs->List Prop
 | [],_,_=>[]
 | _::rs,x,y=>(x.1=y.1)::wL rs x.2 y.2
def o9:(ps:List PK)->gA ps->gA ps->List Prop
 | [],_,_=>[]
 | .val _::ps,x,y=>o9 ps x y
 | .agg _::ps,x,y=>o9 ps x y
 | .own _ _::ps,x,y=>o9 ps x y
 | .ago _::ps,x,y=>o9 ps x y
 | .fn _ _::ps,x,y=>o9 ps x y
 | .nils::ps,x,y=>o9 ps x y
 | .box _ _::ps,x,y=>(x.1=y.1)::o9 ps x.2 y.2
 | .row _ _::ps,x,y=>(x.1=y.1)::o9 ps x.2 y.2
theorem Qp:∀{rs:List RK}{x y:jE rs},bV (wL rs x y)->x=y
 | [],x,y,_=>rfl
 | _::rs,x,y,h=>Prod.ext h.1 (Qp (rs:=rs) h.2)
theorem uw:∀{ps:List PK}{x y:gA ps},bV (o9 ps x y)->x=y
 | [],x,y,_=>rfl
 | .val _::ps,x,y,h=>uw (ps:=ps) h
 | .agg _::ps,x,y,h=>uw (ps:=ps) h
 | .own _ _::ps,x,y,h=>uw (ps:=ps) h
 | .ago _::ps,x,y,h=>uw (ps:=ps) h
 | .fn _ _::ps,x,y,h=>uw (ps:=ps) h
 | .nils::ps,x,y,h=>uw (ps:=ps) h
 | .box _ _::ps,x,y,h=>Prod.ext h.1 (uw h.2)
 | .row _ _::ps,x,y,h=>Prod.ext h.1 (uw h.2)
theorem Jz:∀{rs:List RK}{x:jE rs},bV (wL rs x x)
 | [],_=>trivial
 | _::rs,x=>⟨rfl,Jz (rs:=rs)⟩
theorem tx:∀{ps:List PK}{x:gA ps},bV (o9 ps x x)
 | [],_=>trivial
 | .val _::ps,x=>tx (ps:=ps)
 | .agg _::ps,x=>tx (ps:=ps)
 | .own _ _::ps,x=>tx (ps:=ps)
 | .ago _::ps,x=>tx (ps:=ps)
 | .fn _ _::ps,x=>tx (ps:=ps)
 | .nils::ps,x=>tx (ps:=ps)
 | .box _ _::ps,x=>⟨rfl,tx⟩
 | .row _ _::ps,x=>⟨rfl,tx⟩
theorem Ct.ok(c:Ct){f:FuncId}{b:Func}{code:Code}(hf:P.funcs[f]? = some b)(hb:b.body=some code)(hs:jo P sp)(a:P.follows .mixedOrders=true)(n:bw c.ps->ce)
  (vc:yg c.ps λd=>xV c.ps d->qL (c.pre d)->ux (xW c.ps d b.ntmps) (sx P sp (n d) code (Ai P c.ps c.rs b.results.toList λy=>qL (wL c.rs y.1 (c.out d).1++o9 c.ps y.2 (c.out d).2)))):oQ P sp.gl f c.spec:=by
 intro base svs h d r e hp w0 N0 A env w vs hG m hd
 obtain⟨⟨o,fz,bx,cx⟩,q1,q2,e1,g,rfl⟩:=Q.run_bind _ _ _ e
 split at g
 case h_2=>cases g
 rename_i i
 obtain⟨rfl,j⟩:=DC g
 refine (Rx (λd y=>qL (wL c.rs y.1 (c.out d).1++o9 c.ps y.2 (c.out d).2)) hf hb hs a n e1 i j (λhw=>J1.1 vc o hw (zt.2 hp)) hG m hd).mono ?_
 rintro e' w' ⟨v,y,rfl,hy,A',env',h1,h2,h3⟩
 obtain⟨k,l⟩:=pO.1 (zt.1 hy)
 have:y=c.out o:=Prod.ext (Qp k) (uw l)
 subst this
 exact⟨v,rfl,(),A',env',bv,h1,h2,h3⟩
theorem Cn.ok(c:Cn){f:FuncId}{g:Func}{code:Code}(hf:P.funcs[f]? = some g)(hb:g.body=some code)(hs:jo P sp)(a:P.follows .mixedOrders=true)(l:bw c.ps->ce)
  (vc:yg c.ps λd=>xV c.ps d->qL (c.pre d)->ux (xW c.ps d g.ntmps) (sx P sp (l d) code (Ai P c.ps c.rs g.results.toList (c.post d)))):oQ P sp.gl f c.spec:=by
 intro b svs h d r e hp w0 N0 A env w vs hG m hd
 obtain⟨⟨dd,fz,bx,cx⟩,q1,q2,e1,i,rfl⟩:=Q.run_bind _ _ _ e
 split at i
 case h_2=>cases i
 rename_i j
 obtain⟨rfl,k⟩:=DC i
 refine (Rx c.post hf hb hs a l e1 j k (λhw=>J1.1 vc dd hw (zt.2 hp)) hG m hd).mono ?_
 rintro e' w' ⟨v,y,rfl,hy,A',env',h1,h2,h3⟩
 refine⟨v,rfl,y,A',env',hy,?_,h2,h3⟩
 show Mod w0 N0 A' env' (cZ ((yK c.ps c.rs b fz bx cx).map λp=>(p.1,p.2 y)) h) w'
 rw[LY];exact h1
def Ct.nspec(c:Ct):Spec:=λbase svs=>(gM none c.ps svs).bind λp=>match z5 p.2.1 p.2.2.1 p.2.2.2 with
 | true=>rp base (gE c.rs+jA c.ps) (.nd (jE c.rs×gA c.ps) (OE c.rs c.ps) (c.pre p.1) (λy=>qL (wL c.rs y.1 (c.out p.1).1++o9 c.ps y.2 (c.out p.1).2)) (λ_=>⟨c.out p.1,zt.2 (pO.2 ⟨Jz,tx⟩)⟩)
   (λy=>qZ (kA (p.2.2.1.headD 0) c.rs y.1 base)) (yK c.ps c.rs base p.2.1 p.2.2.1 p.2.2.2))
 | false => .fail
theorem Mo{h:bN}{dl d:Dl}:∀{k n:Nat}{r:List Nat},(rp n k dl).run h=some (d,r)→∀ a,(rp n k a).run h=some (a,r)
 | 0,n,r,e,a=>by
  simp only[rp,Q.run,bp,br] at e ⊢;exact⟨trivial,e.2⟩
 | k+1,n,r,e,a=>by
  simp only[rp,Q.run] at e ⊢;split at e
  .rename_i p q hk;obtain⟨rfl,rfl⟩:=e;split at hk
   next hun=>have:=Mo hk a;rw[this]
   .cases hk
  .cases e
universe u v
theorem Q.bind_run1{h:bN}{α:Type u}{β:Type v}(q:Q α)(f:α->Q β){a:α}{d:List Nat}{b:β}{r2:List Nat}(c:q.run h=some (a,d))(h2:(f a).run h=some (b,r2)):(q.bind f).run h=some (b,d++r2):=by
 induction q generalizing d with
 | ret x=>simp only[Q.run,bp,br] at c;obtain⟨rfl,rfl⟩:=c;simpa[Q.bind] using h2
 | ask n k ih =>
  simp only[Q.run] at c;split at c
  next x y hk=>obtain⟨rfl,rfl⟩:=c;simp only[Q.bind,Q.run,ih _ hk,me]
  .cases c
 | fail=>cases c
theorem Ct.named{G:tM}{c:Ct}{f:FuncId}(ok:oQ P G f c.spec):oQ P G f c.nspec:=by
 intro a svs h d r e hp w0 N0 A env w vs hG m hd
 obtain⟨⟨b,fz,bx,cx⟩,q1,q2,e1,g,rfl⟩:=Q.run_bind _ _ _ e
 split at g
 case h_2=>cases g
 obtain⟨rfl,hun⟩:=DC g
 have e3:=Mo g (.det (c.pre b) (qZ (kA (bx.headD 0) c.rs (c.out b).1 a)) (tK c.ps c.rs (c.out b) a fz bx cx))
 have e4:(c.spec a svs).run h=some (.det (c.pre b) (qZ (kA (bx.headD 0) c.rs (c.out b).1 a)) (tK c.ps c.rs (c.out b) a fz bx cx),q1++q2):=by
  refine Q.bind_run1 _ _ e1 ?_;simp_all
 refine (ok a svs h _ _ e4 hp w0 N0 A env w vs hG m hd).mono ?_
 rintro e' w' ⟨v,he,x,A',env',_,h1,h2,h3⟩
 refine⟨v,he,c.out b,A',env',zt.2 (pO.2 ⟨Jz,tx⟩),?_,h2,h3⟩
 show Mod w0 N0 A' env' (cZ ((yK c.ps c.rs a fz bx cx).map λp=>(p.1,p.2 (c.out b))) h) w'
 rw[LY];exact h1
end
end Go.SX
namespace Go.SX
open Go.ChangeShapes Go.WideShapes Go.ChangeAt Go.RowKit
universe u v
def uN(P:Program)(f:CT->TypeId->Bool):List Field->CT->Nat->Bool
 | [],_,_=>false
 | [fd],t,o=>f t fd.type&&Nat.beq fd.offset o&&Nat.beq (P.cellsOf fd.type) t.size
 | fd::g::r,.pair a b,o=>f a fd.type&&Nat.beq fd.offset o&&Nat.beq (P.cellsOf fd.type) a.size&&uN P f (g::r) b (o+a.size)
 | _,_,_=>false
def uu(P:Program)(f:CT->TypeId->Bool)(e:TypeId):Nat->CT->Bool
 | 0,_=>false
 | 1,t=>f t e&&Nat.beq (P.cellsOf e) t.size
 | n+2,.pair a b=>f a e&&Nat.beq (P.cellsOf e) a.size&&uu P f e (n+1) b
 | _,_=>false
def mP(P:Program):Nat->CT->TypeId->Bool
 | 0,_,_=>false
 | n+1,t,τ=>match P.underlying τ,t with
  | some (.int k),.int k'=>lH k k'
  | some .bool,.bool=>true
  | some .string,.str=>true
  | some (.slice e),.sl u=>mP P n u e&&Nat.beq (P.cellsOf e) u.size
  | some (.struct fs),t=>uN P (mP P n) fs.toList t 0
  | some (.array k e),t=>uu P (mP P n) e k t
  | _,_=>false
section
variable {H:Type} {enc:TypeId×Value->H} {P:Program} {w:World} {base:Nat} {held:Bool}
theorem vT{A:Nat->Prop}{t:CT}{cs:List Value}{o sz:Nat}{d:t.D}(hs:sz=t.size)(h:Rd A w t (λj=>((cs.drop o).take sz)[j]?) 0 d):Rd A w t (λj=>cs[j]?) o d:=by
 have:=wZ h o
 rw[gk] at this
 refine iA (λ_ h=>h) (λ_ _ _=>rfl) t _ _ _ _ (λj hj=>?_) this
 simp only[pE,lC]
 rw[am (by omega),pd]
theorem NW{A:Nat->Prop}{f:CT->TypeId->Bool}{cs:List Value}{n:Nat}
  (hf:∀ t τ cs x,f t τ=true->DataW.trod enc P w base (λ_=>true) held n τ cs=some x→∃ d,Rd A w t (λj=>cs[j]?) 0 d) :
  ∀(fs:List Field)(t:CT)(o:Nat),uN P f fs t o=true->(∀ fd∈fs,∃ x,DataW.trod enc P w base (λ_=>true) held n fd.type ((cs.drop fd.offset).take (P.cellsOf fd.type))=some x)→∃ d,Rd A w t (λj=>cs[j]?) o d
 | [],t,o,h,_=>by cases h
 | [fd],t,o,h,hx=>by
  simp only[uN,dK] at h;obtain⟨⟨h1,h2⟩,h3⟩:=h;have h2:=bG h2;have h3:=bG h3;obtain⟨x,hx⟩:=hx fd (by simp);obtain⟨d,hd⟩:=hf t fd.type _ x h1 hx;rw[h2] at hd;exact⟨d,vT h3 hd⟩
 | fd::g::r,.pair a b,o,h,hx=>by
  simp only[uN,dK] at h;obtain⟨⟨⟨h1,h2⟩,h3⟩,h4⟩:=h;have h2:=bG h2;have h3:=bG h3;obtain⟨x,hx1⟩:=hx fd (by simp);obtain⟨d,hd⟩:=hf a fd.type _ x h1 hx1;rw[h2] at hd;obtain⟨d',hd'⟩:=NW hf (g::r) b (o+a.size) h4 (λfd' hm=>hx fd' (fL _ hm));exact⟨(d,d'),vT h3 hd,hd'⟩
 | _::_::_,.int _,_,h,_=>by cases h
 | _::_::_,.bool,_,h,_=>by cases h
 | _::_::_,.str,_,h,_=>by cases h
 | _::_::_,.sl _,_,h,_=>by cases h
theorem OY{A:Nat->Prop}{f:CT->TypeId->Bool}{cs:List Value}{n:Nat}{e:TypeId}
  (hf:∀ t τ cs x,f t τ=true->DataW.trod enc P w base (λ_=>true) held n τ cs=some x→∃ d,Rd A w t (λj=>cs[j]?) 0 d) :
  ∀(k:Nat)(t:CT)(i:Nat),uu P f e k t=true->(∀ j,i<=j->j<i+k→∃ x,DataW.trod enc P w base (λ_=>true) held n e ((cs.drop (j*P.cellsOf e)).take (P.cellsOf e))=some x)→∃ d,Rd A w t (λj=>cs[j]?) (i*P.cellsOf e) d
 | 0,t,i,h,_=>by cases h
 | 1,t,i,h,hx=>by
  simp only[uu,dK] at h;obtain⟨h1,h2⟩:=h;have h2:=bG h2;obtain⟨x,hx⟩:=hx i (by omega) (by omega);obtain⟨d,hd⟩:=hf t e _ x h1 hx;exact⟨d,vT h2 hd⟩
 | k+2,.pair a b,i,h,hx=>by
  simp only[uu,dK] at h;obtain⟨⟨h1,h2⟩,h4⟩:=h;have h2:=bG h2;obtain⟨x,hx1⟩:=hx i (by omega) (by omega);obtain⟨d,hd⟩:=hf a e _ x h1 hx1;obtain⟨d',hd'⟩:=OY hf (k+1) b (i+1) h4 (λj h1 h2=>hx j (by omega) (by omega));refine⟨(d,d'),vT h2 hd,?_⟩;rw[fP,jZ] at hd';rw[← h2];exact hd'
 | _+2,.int _,_,h,_=>by cases h
 | _+2,.bool,_,h,_=>by cases h
 | _+2,.str,_,h,_=>by cases h
 | _+2,.sl _,_,h,_=>by cases h
theorem ae7{α:Type}(n:Nat)(p:Nat->α->Prop)(h:∀ i,i<n→∃ a,p i a):∃ l:List α,l.length=n∧∀ i (hi:i<l.length),p i l[i]:=by
 induction n with
 | zero=>exact⟨[],rfl,λi hi=>by simp at hi⟩
 | succ n ih =>
  obtain⟨l,hl,hp⟩:=ih λi hi=>h i (by omega);obtain⟨a,ha⟩:=h n (by omega);refine⟨l++[a],by simp[hl],λi hi=>?_⟩;by_cases hlt:i<l.length
  .rw[List.getElem_append_left hlt];exact hp i hlt
  .have:i=l.length:=by simp at hi;omega
   subst this;simp only[List.getElem_concat_length];rw[hl];exact ha
theorem L4(b off n:Nat):(⟨b,off,none⟩:Addr).add n=⟨b,off+n,none⟩:=by
 unfold Addr.add
 split
 next h=>subst h;rfl
 .rfl
theorem Lh{k:IntKind}{n:Int}(h:(Lit.int k n).wf=true):k.has n:=by
 simp only[Lit.wf,dK,lU] at h;exact h
theorem CN:∀(n:Nat)(t:CT)(τ:TypeId)(fuel:Nat)(cs:List Value)(x:DataW H×List MemPlace),mP P n t τ=true->DataW.trod enc P w base (λ_=>true) held fuel τ cs=some x →
  ∃ d,Rd (λb=>b<w.heap.size) w t (λj=>cs[j]?) 0 d
 | 0,t,τ,fuel,cs,x,h,_=>by cases h
 | n+1,t,τ,fuel,cs,x,h,hx=>by
  unfold mP at h;split at h
  next k k' hu=>cases mo h;obtain⟨m,rfl,_,hw⟩:=DataW.trod_int hu hx;exact⟨m,by simp,Lh hw⟩
  next hu=>obtain⟨b,rfl,_⟩:=DataW.trod_bool hu hx;exact⟨b,by simp[Rd]⟩
  next hu=>obtain⟨s,rfl,_,hs⟩:=DataW.trod_string hu hx;exact⟨s,by simp,hs⟩
  .rename_i e u hu;simp only[dK] at h;obtain⟨h1,h2⟩:=h;have h2:=bG h2;rcases DataW.trod_slice hu hx with⟨rfl,_⟩|⟨a,len,cap,elems,rest,m,_,rfl,_,_,hl,hm,hlen,hel,hsp,_⟩
   .exact⟨[],rU.2 ⟨_,rfl,by simp,.inl ⟨⟨_,rfl⟩,rfl⟩⟩⟩
   .have hcap:=(hsp rfl)
    by_cases h0:cap=0
    .have:len=0:=by omega
     subst this h0;exact⟨[],rU.2 ⟨_,rfl,by simp,.inl ⟨⟨_,rfl⟩,rfl⟩⟩⟩
    ·-- the cells that are there
     have first:∃ v,w.cell? a=some v:=by
      have hb:∃ cs',w.cells? base (a.add 0) (P.cellsOf e)=some cs':=by
       by_cases hl0:0<len
       .have:=hel 0 hl0;rw[Nat.zero_mul] at this;have hs:∃ y,elems[0]? = some y:=⟨_,cK (by omega)⟩
        obtain⟨y,hy⟩:=hs;rw[hy,Option.bind_eq_some_iff] at this;obtain⟨cs',hcs,_⟩:=this;exact⟨cs',hcs⟩
       .have:=hcap.2 0 (by omega);have hz:(len+0)*P.cellsOf e=0:=by
         have:len=0:=by omega
         subst this;simp
        rw[hz] at this;have hs:∃ y,rest[0]? = some y:=⟨_,cK (by omega)⟩
        obtain⟨y,hy⟩:=hs;rw[hy,Option.bind_eq_some_iff] at this;obtain⟨cs',hcs,_⟩:=this;exact⟨cs',hcs⟩
      obtain⟨cs',hcs⟩:=hb;obtain⟨_,hl1,hl2⟩:=World.cells?_some hcs;have hp:=u.size_pos;have:=hl2 0 (by omega);refine⟨cs'[0]'(by omega),?_⟩;rw[cK (by omega)] at this;simpa[Addr.add] using this
     obtain⟨v0,hv0⟩:=first
     have hspot:=World.cell?_spot hv0;obtain⟨b,off,spot⟩:=a;simp only at hspot;subst hspot;have hlt:b<w.heap.size:=by
      unfold World.cell? at hv0;simp only at hv0;split at hv0
      next c E sp hb=>exact (Array.getElem?_eq_some_iff.1 hb).1
      .cases hv0
     obtain⟨xs,hxl,hxp⟩:=ae7 len (λi d=>Rd (λb=>b<w.heap.size) w u (λo=>w.cell? ⟨b,o,none⟩) (off+i*u.size) d) λi hi=>by
      have:=hel i hi;rw[cK (by omega),Option.bind_eq_some_iff] at this;obtain⟨cs',hcs,ht⟩:=this;obtain⟨_,hl1,hl2⟩:=World.cells?_some hcs;obtain⟨d,hd⟩:=CN n u e _ cs' _ h1 ht;refine⟨d,?_⟩;have:=wZ hd (off+i*u.size);rw[gk] at this;refine iA (λ_ h=>h) (λ_ _ _=>rfl) u _ _ _ _ (λj hj=>?_) this;have:=hl2 j (by omega);rw[L4,L4,h2] at this;rw[lC,← this]
     subst hxl;exact⟨xs,rU.2 ⟨_,rfl,by omega,.inr ⟨b,off,cap,rfl,hl,hm,hlt,λi hi=>hxp i hi⟩⟩⟩
  .rename_i t' fs hu;obtain⟨xs,m,_,_,hl,hlen,hf⟩:=DataW.trod_struct hu hx;refine NW (n:=m) (λt τ cs x h1 h2=>CN n t τ m cs x h1 h2) fs.toList _ 0 h λfd hm=>?_;obtain⟨i,hi,rfl⟩:=List.mem_iff_getElem.1 hm;have:=hf i fs[i] (Array.getElem?_eq_getElem (by simpa using hi));have hi':i<fs.size:=by simpa using hi
   rw[cK (by omega)] at this;exact⟨_,by simpa using this⟩
  .rename_i t' k e hu;obtain⟨xs,m,_,_,hl,hlen,hf⟩:=DataW.trod_array hu hx;have:=OY (n:=m) (cs:=cs) (e:=e) (λt τ cs x h1 h2=>CN n t τ m cs x h1 h2) k _ 0 h λj _ hj=>by
    have:=hf j (by omega);rw[cK (by omega)] at this;exact⟨_,this⟩
   simpa using this
  .cases h
abbrev pz:=List (Bool×CT)
def lv:pz->List PK
 | []=>[]
 | (true,t)::r => .agg t::lv r
 | (false,t)::r => .val t::lv r
def zY:(l:pz)->gA (lv l)
 | []=>()
 | (true,_)::r=>zY r
 | (false,_)::r=>zY r
def Bg(l:pz):Ct:=⟨lv l,[.val .bool],λ_=>[],λ_=>((true,()),zY l)⟩
def tN(P:Program)(τ:TypeId):Bool:=match P.underlying τ with
 | some (.struct _)=>true
 | some (.array _ _)=>true
 | _=>false
def FL:CT->Bool
 | .pair _ _=>false
 | _=>true
def AL(P:Program):pz->List TypeId->Bool
 | [],[]=>true
 | (b,t)::r,τ::τs=>(match b,tN P τ with|true,true=>true|false,false=>FL t|_,_=>false)&&mP P 12 t τ&&Nat.beq (P.cellsOf τ) t.size&&AL P r τs
 | _,_=>false
theorem aJ6{r:Reach}{b0:Nat}{τ:TypeId}{v:Value}(h:tN P τ=true)(hv:Value.okWide P w r b0 τ v):∃ vs,v = .agg vs/\vs.size=P.cellsOf τ:=by
 unfold tN at h
 unfold Value.okWide at hv
 split at h
 next fs hu=>rw[hu] at hv;obtain⟨cs,h1,h2,_⟩:=hv;exact⟨cs,h1,h2⟩
 next fs hu=>rw[hu] at hv;obtain⟨cs,h1,h2,_⟩:=hv;exact⟨cs,h1,h2⟩
 .cases h
theorem ap9{r:Reach}{b0:Nat}{τ:TypeId}{v:Value}(ht:P.underlying τ=some .bool)(h:Value.okWide P w r b0 τ v):∃ b,v = .bool b:=by
 simp only[Value.okWide,ht,Cell.okWide] at h
 cases v <;> simp_all[Cell.ok]
theorem Wn{r:Reach}{b0:Nat}{n:Nat}{t:CT}{τ:TypeId}{v:Value}(hf:FL t=true)(hq:tN P τ=false)(h:mP P n t τ=true)(hv:Value.okWide P w r b0 τ v):v.cells = #[v]:=by
 cases n with
 | zero=>cases h
 | succ n =>
  unfold mP at h;split at h
  next k k' hu=>obtain⟨m,rfl⟩:=okWide_int hu hv;rfl
  next hu=>obtain⟨m,rfl⟩:=ap9 hu hv;rfl
  next hu=>obtain⟨m,rfl⟩:=okWide_string hu hv;rfl
  next e u hu=>obtain⟨a,l,c,rfl⟩:=okWide_slice hu hv;rfl
  next t' fs hu=>unfold tN at hq;rw[hu] at hq;cases hq
  next t' k e hu=>unfold tN at hq;rw[hu] at hq;cases hq
  .cases h
theorem Vr(k:IntKind):lH k k=true:=by cases k <;> rfl
theorem aI5{t:CT}{xs:List t.D}:gX t t xs=some xs:=by unfold gX;rw[dif_pos rfl]
theorem Fu{h:bN}:∀(t:CT)(d:t.D)(rest:List SV),(jH t (dU t d++rest)).run h=some ((d,rest,[]),[])
 | .int k,d,rest=>by simp only[dU,me,rx,jH,Vr];rfl
 | .bool,d,rest=>rfl
 | .str,d,rest=>rfl
 | .sl t,d,rest=>by simp only[dU,me,rx,jH,aI5];rfl
 | .pair a b,d,rest=>by
  have bindrun:∀{α β:Type}(q:Q α)(f:α->Q β)(x:α)(y:β),q.run h=some (x,[])->(f x).run h=some (y,[])->(q.bind f).run h=some (y,[]):=by
   intro α β q
   induction q with
   | ret a=>intro f x y h1 h2;simp only[Q.run,bp,br] at h1;rw[← h1.1] at h2;exact h2
   | ask n k ih =>
    intro f x y h1 h2;simp only[Q.run] at h1;split at h1
    .simp only[bp,br] at h1;exact absurd h1.2 (by simp)
    .cases h1
   | fail=>intro f x y h1 h2;cases h1
  simp only[dU,ia,jH];refine bindrun _ _ _ _ (Fu a d.1 (dU b d.2++rest)) ?_;exact bindrun _ _ _ _ (Fu b d.2 rest) rfl
theorem Q.bind_run0{h:bN}{α:Type u}{β:Type v}(q:Q α)(f:α->Q β)(x:α)(y:β)(h1:q.run h=some (x,[]))(h2:(f x).run h=some (y,[])):(q.bind f).run h=some (y,[]):=by
 cases q with
 | ret a=>simp only[Q.run,bp,br] at h1;rw[← h1.1] at h2;exact h2
 | ask n k =>
  simp only[Q.run] at h1;split at h1
  .simp only[bp,br] at h1;exact absurd h1.2 (by simp)
  .cases h1
 | fail=>cases h1
theorem aX8{t:CT}(hf:FL t=true)(d:t.D):dU t d=[zM t d]:=by
 cases t <;> first|rfl|cases hf
def xP:pz->Bool
 | []=>true
 | (b,t)::r=>(b||FL t)&&xP r
theorem HI{h:bN}:∀(l:pz)(d:bw (lv l)),xP l=true->(gM none (lv l) (iO (lv l) d 0 0)).run h=some ((d,[],[],[]),[])
 | [],d,_=>rfl
 | (true,t)::r,d,hok=>by
  simp only[xP,dK] at hok;simp only[lv,iO,gM];refine Q.bind_run0 _ _ _ _ (by have:=Fu (h:=h) t d.1 [];rw[jG] at this;exact this) ?_;exact Q.bind_run0 _ _ _ _ (HI r d.2 hok.2) rfl
 | (false,t)::r,d,hok=>by
  simp only[xP,dK,Bool.false_or] at hok;simp only[lv,iO,gM];refine Q.bind_run0 _ _ _ _ (by have:=Fu (h:=h) t d.1 [];rw[jG,aX8 hok.1] at this;exact this) ?_;exact Q.bind_run0 _ _ _ _ (HI r d.2 hok.2) rfl
theorem PP{r:Reach}{b0:Nat}:∀(l:pz)(τs:List TypeId)(vs:List Value)(ds:List (DataW H))(ps:List MemPlace),AL P l τs=true->DataW.TrodAll enc P w base (λ_=>true) held τs vs ds ps →
  (∀(j:Nat) t v,τs[j]? = some t->vs[j]? = some v->Value.okWide P w r b0 t v)->xP l=true∧∃ d:bw (lv l),aR (λb=>b<w.heap.size) (λ_=>.un) w (iO (lv l) d 0 0) vs
 | [],[],vs,ds,ps,h,ht,hv=>by
  obtain⟨rfl,_,_⟩:=trodAll_nil ht;exact⟨rfl,(),by simp[lv,iO,aR]⟩
 | (b,t)::l,τ::τs,vs,ds,ps,h,ht,hv=>by
  obtain⟨v,vs',d,ds',p,q,rfl,rfl,rfl,h0,hr⟩:=trodAll_cons ht;simp only[AL,dK] at h;obtain⟨⟨⟨h1,h2⟩,h3⟩,h4⟩:=h;have h3:=bG h3;obtain⟨g1,d2,g2⟩:=PP l τs vs' ds' q h4 hr (λj t v ht hv'=>hv (j+1) t v (by simpa using ht) (by simpa using hv'));have hv0:=hv 0 τ v rfl rfl;obtain⟨fuel,hf⟩:=h0;obtain⟨d1,hd1⟩:=CN 12 t τ fuel _ _ h2 hf;cases b with
  | true =>
   have hag:tN P τ=true:=by
    cases hq:tN P τ with
    | true=>rfl
    | false=>rw[hq] at h1;cases h1
   obtain⟨us,rfl,hus⟩:=aJ6 hag hv0;refine⟨by simp[xP,g1],(d1,d2),?_⟩;simp only[lv,iO,aR,az];refine⟨_,vs',rfl,⟨us,rfl,DX (by simpa using hus.trans h3) (by simpa[Value.cells] using hd1)⟩,g2⟩
  | false =>
   have hq:tN P τ=false:=by
    cases hq:tN P τ with
    | true=>rw[hq] at h1;cases h1
    | false=>rfl
   rw[hq] at h1;simp only at h1;refine⟨by simp[xP,g1,h1],(d1,d2),?_⟩;simp only[lv,iO,aR];have hc:=Wn h1 hq h2 hv0;rw[hc] at hd1;exact⟨v,vs',rfl,I8 (rest:=[]) (by simpa using hd1),g2⟩
 | [],_::_,_,_,_,h,_,_=>by cases h
 | _::_,[],_,_,_,h,_,_=>by cases h
def GlobsOK(w:World)(G:tM):Prop:=∀ g x,G g=some x->g<w.heap.size/\Rd (λb=>b<w.heap.size) w x.1 (λo=>w.cell? ⟨g,o,none⟩) 0 x.2
theorem law_walkG{G:tM}(hG:GlobsOK w G){f:FuncId}{l:pz}(ok:oQ P G f (Bg l).spec){r:Reach}{b0:Nat}{τs:List TypeId}{args:Array Value}{ds:List (DataW H)}{ps:List MemPlace}(hl:AL P l τs=true)
  (ht:DataW.TrodAll enc P w base (λ_=>true) held τs args.toList ds ps) (hv:∀(j:Nat) t v,τs.toArray[j]? = some t->args[j]? = some v->Value.okWide P w r b0 t v) :
  Calls P f args w λe w'=>e = .returned (.bool true)/\Below w.heap.size w w':=by
 obtain⟨hok,d,hd⟩:=PP l τs args.toList ds ps hl ht (λj t v h1 h2=>hv j t v (by simpa using h1) (by simpa using h2))
 have hkeep:xt (lv l) [.val .bool]=false:=by
  have:∀ l:pz,mQ (lv l)=true:=by
   intro l
   induction l with
   | nil=>rfl
   | cons x l ih=>obtain⟨b,t⟩:=x;cases b <;> exact ih
  simp only[xt,this,uk,CT.plain,Bool.and_self,Bool.not_true]
 have hbU:∀ nb,gC 0 (lv l) (zY l) [] nb=[]:=by
  intro nb
  induction l with
  | nil=>rfl
  | cons x l ih =>
   obtain⟨b,t⟩:=x;have:∀ l:pz,gC 0 (lv l) (zY l) [] nb=[]:=by
    intro l
    induction l with
    | nil=>rfl
    | cons x l ih=>obtain⟨b,t⟩:=x;cases b <;> exact ih
   cases b <;> exact this l
 have hnU:∀(l:pz) nb,iz (lv l) (zY l) nb=[]:=by
  intro l nb
  induction l with
  | nil=>rfl
  | cons x l ih=>obtain⟨b,t⟩:=x;cases b <;> exact ih
 have hnB:∀(l:pz),jA (lv l)=0:=by
  intro l
  induction l with
  | nil=>rfl
  | cons x l ih=>obtain⟨b,t⟩:=x;cases b <;> exact ih
 have hrun:((Bg l).spec 0 (iO (lv l) d 0 0)).run (λ_=>.un)=some (Dl.det [] (.bool true) [],[]):=by
  unfold Ct.spec;refine Q.bind_run0 _ _ _ _ (HI l d hok) ?_;simp only[z5,jX,jG,AS,BH,Bg,tK,hkeep,hbU,hnU,hnB,p9,mv,kA,qZ,zM,dU,gE,rp,List.headD_nil];rfl
 have m:Mod w ⟨λ_=>False,λb=>b<w.heap.size,G⟩ (λb=>b<w.heap.size) (λ_=>.un) (λ_=>.un) w :=
  ⟨rfl,rfl,rfl,iq _,λ_ _ _=>rfl,λ_ h=>h,λ_=>rfl,λ_ _ _ _ h=>(by cases h),λ_ _ _ _ _ _ _ h=>(by cases h),λb hb=>.inl hb,hG⟩
 have:=ok 0 (iO (lv l) d 0 0) (λ_=>.un) _ _ hrun trivial w _ _ _ w args.toList rfl m hd
 refine Calls.mono this ?_
 rintro e w' ⟨v,rfl,x,A',env',_,hm,_,hden⟩
 simp only[Dl.val,az] at hden
 exact⟨by rw[hden],hm.os,hm.tape,hm.output,hm.size,λk hk=>hm.fr k hk (λh=>h)⟩
theorem law_walk{f:FuncId}{l:pz}(ok:oQ P (λ_=>none) f (Bg l).spec){r:Reach}{b0:Nat}{τs:List TypeId}{args:Array Value}{ds:List (DataW H)}{ps:List MemPlace}(hl:AL P l τs=true)
  (ht:DataW.TrodAll enc P w base (λ_=>true) held τs args.toList ds ps) (hv:∀(j:Nat) t v,τs.toArray[j]? = some t->args[j]? = some v->Value.okWide P w r b0 t v) :
  Calls P f args w λe w'=>e = .returned (.bool true)/\Below w.heap.size w w':=law_walkG (λg x h=>by cases h) ok hl ht hv
def JE(P:Program):List TypeId->Bool
 | []=>true
 | t::r=>P.readableRec t&&decide (t<P.types.size)&&JE P r
theorem trodAll_below(hl:laidOutB P=true):∀{τs:List TypeId}{vs:List Value}{ds:List (DataW H)}{ps:List MemPlace}{w':World},JE P τs=true →
  DataW.TrodAll enc P w 0 (λ_=>true) true τs vs ds ps->Below w.heap.size w w'→DataW.TrodAll enc P w' 0 (λb=>decide (b<w.heap.size)) true τs vs ds ps
 | [],vs,ds,ps,w',_,h,hb=>by
  obtain⟨rfl,rfl,rfl⟩:=trodAll_nil h;exact trodAll_mk0
 | τ::τs,vs,ds,ps,w',hr,h,hb=>by
  obtain⟨v,vs',d,ds',p,q,rfl,rfl,rfl,h0,hr'⟩:=trodAll_cons h;simp only[JE,dK,lU] at hr;have lt:∀ x∈p,x.block<w.heap.size:=by
   obtain⟨m,hm⟩:=h0;exact DataW.trod_lt m _ _ _ hm
  exact trodAll_cons_mk (Below.trod hl hr.1.1 hr.1.2 h0 hb lt) (trodAll_below hl hr.2 hr' hb)
end
end Go.SX
namespace Go.SX
def zX(fn:Func):Code:=match fn.body with
 | some c=>c
 | none => .skip
def Ct.vc(P:Program)(sp:fh)(c:Ct)(fn:Func)(an:bw c.ps->ce):Prop :=
 yg c.ps λd=>xV c.ps d->qL (c.pre d)->ux (xW c.ps d fn.ntmps) (sx P sp (an d) (zX fn) (Ai P c.ps c.rs fn.results.toList λy=>qL (wL c.rs y.1 (c.out d).1++o9 c.ps y.2 (c.out d).2)))
structure GN (p:Prop):Prop where
 out:p
theorem Ox{p q:Prop}(h:p=q)(v:q):GN p:=⟨Eq.mpr h v⟩
theorem Ct.okH{P:Program}{sp:fh}(c:Ct){f:FuncId}{fn:Func}(hf:P.funcs[f]? = some fn)(hb:fn.body=some (zX fn))(hs:jo P sp)(rG:P.follows .mixedOrders=true)(an:bw c.ps->ce)
  (vc:GN (Ct.vc P sp c fn an)):oQ P sp.gl f c.spec:=c.ok hf hb hs rG an vc.out
def Cn.vc(P:Program)(sp:fh)(c:Cn)(fn:Func)(an:bw c.ps->ce):Prop :=
 yg c.ps λd=>xV c.ps d->qL (c.pre d)->ux (xW c.ps d fn.ntmps) (sx P sp (an d) (zX fn) (Ai P c.ps c.rs fn.results.toList (c.post d)))
theorem Cn.okH{P:Program}{sp:fh}(c:Cn){f:FuncId}{fn:Func}(hf:P.funcs[f]? = some fn)(hb:fn.body=some (zX fn))(hs:jo P sp)(rG:P.follows .mixedOrders=true)(an:bw c.ps->ce)
  (vc:GN (Cn.vc P sp c fn an)):oQ P sp.gl f c.spec:=c.ok hf hb hs rG an vc.out
def aA7(G:tM):fh:=⟨λ_=>none,G⟩
theorem aD{P:Program}{G:tM}:jo P (aA7 G):=λf s h=>by cases h
def AH(sp:fh)(f:FuncId)(s:Spec):fh:=⟨λg=>match Nat.beq g f with
 | true=>some s
 | false=>sp.fn g,sp.gl⟩
theorem av{P:Program}{sp:fh}{f:FuncId}{s:Spec}(h:jo P sp)(hs:oQ P sp.gl f s):jo P (AH sp f s):=λg t e=>by
 unfold AH at e
 simp only at e
 split at e
 next hb=>cases e;rw[bG hb];exact hs
 .exact h g t e
def TM(sp:fh)(d:Nat):fh:=AH sp (4000000000+d) λ_ _=>.fail
theorem LW{P:Program}{sp:fh}{d:Nat}(h:jo P sp):jo P (TM sp d):=av h λ_ _ _ _ _ e=>by cases e
def af3(sp:fh)(d:Nat):fh:=AH sp (4100000000+d) λ_ _=>.fail
theorem Zv{P:Program}{sp:fh}{d:Nat}(h:jo P sp):jo P (af3 sp d):=av h λ_ _ _ _ _ e=>by cases e
def Z2(sp:fh):fh:=AH sp 4200000000 λ_ _=>.fail
theorem Z7{P:Program}{sp:fh}(h:jo P sp):jo P (Z2 sp):=av h λ_ _ _ _ _ e=>by cases e
def T0(sp:fh)(d n:Nat):fh:=AH sp (4400000000+d) λ_ _=>.ask n λ_=>.fail
theorem Vg{P:Program}{sp:fh}{d n:Nat}(h:jo P sp):jo P (T0 sp d n):=av h λ_ _ _ _ _ e=>by simp[Q.run] at e
theorem aj6{b:Bool}{y n:Prop}:ao b y n↔(b=true->y)/\(b=false->n):=by cases b <;> simp[ao]
theorem aG{n:Int}(h : -9223372036854775808<=n)(h':n<=9223372036854775807):IntKind.i64.wrap n=n:=IntWalk.i64_in n ⟨h,h'⟩
theorem rC{n:Int}(h:0<=n)(h':n<=4294967295):IntKind.u32.wrap n=n:=IntWalk.u32_in n ⟨h,h'⟩
theorem NL{n:Int}(h:0<=n)(h':n<=18446744073709551615):IntKind.u64.wrap n=n:=IntWalk.u64_in n ⟨h,h'⟩
theorem aq9{y n:Prop}:ao true y n↔y:=nh
theorem uy{y n:Prop}:ao false y n↔n:=nh
theorem bS{α:Type} [Inhabited α] {xs:List α} {i:Int} (h0:0<=i) (h1:i<xs.length):xs.getD i.toNat default∈xs:=by
 have h:i.toNat<xs.length:=by omega
 rw[bL,cK h];exact List.getElem_mem h
theorem sO{a b:Int}(ha:0<=a):0<=a.tmod b:=Int.tmod_nonneg b ha
theorem rK{a b:Int}(ha:0<=a)(hb:0<b):a.tmod b<b:=Int.tmod_lt_of_pos a hb
theorem aw{b:Bool}{y n:Prop}(hy:b=true->y)(hn:b=false->n):ao b y n:=aj6.2 ⟨hy,hn⟩
theorem OM(n:Int) : -9223372036854775808<=IntKind.i64.wrap n/\IntKind.i64.wrap n<=9223372036854775807:=IntKind.wrap_has .i64 n
theorem L8(n:Int):0<=IntKind.u32.wrap n/\IntKind.u32.wrap n<=4294967295:=IntKind.wrap_has .u32 n
theorem Lm{α:Type} [Inhabited α] {p:α->Prop} {xs:List α} (h:∀ x∈xs,p x) {i:Int} (h0:0<=i) (h1:i<xs.length):p (xs.getD i.toNat default):=h _ (bS h0 h1)
theorem gF{p:Prop} [Decidable p] (h:(!decide p)=true):¬ p:=aL (by simpa only[sa] using h)
theorem iD{p:Prop} [Decidable p] (h:(!decide p)=false):p:=aI (by simpa only[wB] using h)
theorem sF{a b:Bool}{y n:Prop}(hy:a=true∨b=true->y)(hn:a=false->b=false->n):ao (bif a then true else b) y n:=by
 cases a with
 | true=>exact hy (.inl rfl)
 | false=>cases b with
  | true=>exact hy (.inr rfl)
  | false=>exact hn rfl rfl
theorem uD{a b:Bool}{y n:Prop}(hy:a=true->b=true->y)(hn:a=false∨b=false->n):ao (bif a then b else false) y n:=by
 cases a with
 | false=>exact hn (.inl rfl)
 | true=>cases b with
  | true=>exact hy rfl rfl
  | false=>exact hn (.inr rfl)
theorem kw{α:Type} [Inhabited α] {l:List α} {i:Nat} {a:α} (h:i<l.length):(l.set i a).getD i default=a:=by
 rw[bL,List.getElem?_set_self h];rfl
theorem xA{α:Type} [Inhabited α] {q:α->Bool} {l:List α} {j:Int} (h0:0<=j) (h1:j<l.length) (h2:∀ x∈l.take j.toNat,q x=false) (h3:q (l.getD j.toNat default)=true) :
  j=if l.findIdx q<l.length then (l.findIdx q:Int) else -1:=by
 have hj:j.toNat<l.length:=by omega
 rw[bL,cK hj,fZ] at h3
 have e:l.findIdx q=j.toNat:=(List.findIdx_eq hj).2 ⟨h3,λk hk=>h2 _ (List.mem_take_iff_getElem.2 ⟨k,by omega,rfl⟩)⟩
 rw[e,am hj];omega
theorem yd{α:Type} [Inhabited α] {q:α->Bool} {l:List α} {j:Int} (h1:¬ j<l.length) (h2:∀ x∈l.take j.toNat,q x=false) :
  (-1:Int)=if l.findIdx q<l.length then (l.findIdx q:Int) else -1:=by
 rw[fi (by omega)] at h2
 rw[List.findIdx_eq_length_of_false h2,af (Nat.lt_irrefl _)]
theorem nW{α:Type} [Inhabited α] {P:α->Prop} {l:List α} {j:Int} (h0:0<=j) (h1:j<l.length) (h2:∀ x∈l.take j.toNat,P x) (h3:P (l.getD j.toNat default)) :
  ∀ x∈l.take (j+1).toNat,P x:=by
 intro x hx
 have hj:j.toNat<l.length:=by omega
 rw[show (j+1).toNat=j.toNat+1 by omega,List.take_add_one,cK hj] at hx
 rw[bL,cK hj,fZ] at h3
 rcases dw.1 hx with hx|hx
 .exact h2 x hx
 .simp at hx;rw[hx];exact h3
theorem wc{α:Type} [Inhabited α] {l:List α} {k:Int} (h0:0<=k) (h1:k<l.length):l.take (k+1).toNat=l.take k.toNat++[l.getD k.toNat default]:=by
 have e:(k+1).toNat=k.toNat+1:=by omega
 have hk:k.toNat<l.length:=by omega
 rw[e,List.take_add_one,cK hk,bL,cK hk]
 rfl
theorem lx{a b:Prop} [Decidable a] [Decidable b]:(bif decide a then true else decide b)=decide (a∨b):=by by_cases h:a <;> simp[h]
theorem uL{a b:Prop} [Decidable a] [Decidable b]:(bif decide a then decide b else false)=decide (a/\b):=by by_cases h:a <;> simp[h]
theorem F7{a b:Prop} [Decidable a] [Decidable b]:(bif !decide a then !decide b else false)=decide (¬ a∧¬ b):=by by_cases h:a <;> simp[h]
theorem aN2{a b:Prop} [Decidable a] [Decidable b]:(bif decide a then !decide b else false)=decide (a∧¬ b):=by by_cases h:a <;> simp[h]
theorem EB{a:Prop} [Decidable a]:(!decide a)=decide (¬ a):=by by_cases h:a <;> simp[h]
theorem aP{p:Prop}(h:p:=by repeat' first|exact trivial|refine⟨trivial,?_⟩|refine⟨(by with_reducible rfl),?_⟩|refine⟨aG (by omega) (by omega),?_⟩|refine⟨rfl,?_⟩):p:=h
theorem bY{X:Bool}{P:Bool->Prop}(h:P X):∀ b,b=X->P b:=λ_ e=>e▸h
theorem bZ{p q:Prop}(k:q)(h:p:=by first|(simp;done)|(simp;omega)|(simp;intros;omega)|(simp +contextual;done)):p/\q:=⟨h,k⟩
theorem js{p q:Prop}(k:q)(h:p:=by first|exact trivial|with_reducible rfl|exact aG (by omega) (by omega)):p/\q:=⟨h,k⟩
theorem qq{p q:Prop}(k:q)(h:p:=by with_reducible rfl):p/\q:=⟨h,k⟩
theorem bU{p:Prop} [Decidable p] {A B:Prop} (a:p->A) (b:¬p->B):ao (decide p) A B:=aw (λh=>a (aI h)) λh=>b (aL h)
def fj{A B:Type}:Qn (A×B):=⟨λk=>∀(a:A)(b:B),k (a,b),λ_ h i=>h i.1 i.2,λk=>∃ (a:A) (b:B),k (a,b),λ_ ⟨a,b,h⟩=>⟨_,h⟩⟩
def rH{A B C:Type}:Qn (A×B×C):=⟨λk=>∀(a:A)(b:B)(c:C),k (a,b,c),λ_ h i=>h i.1 i.2.1 i.2.2,λk=>∃ (a:A) (b:B) (c:C),k (a,b,c),λ_ ⟨a,b,c,h⟩=>⟨_,h⟩⟩
def Qm{A B C D:Type}:Qn (A×B×C×D):=⟨λk=>∀(a:A)(b:B)(c:C)(d:D),k (a,b,c,d),λ_ h i=>h i.1 i.2.1 i.2.2.1 i.2.2.2,λk=>∃ (a:A) (b:B) (c:C) (d:D),k (a,b,c,d),λ_ ⟨a,b,c,d,h⟩=>⟨_,h⟩⟩
def bq{A:Type 1}(k:Nat)(c:A)(r:Nat->Option A):Nat->Option A:=λn=>match Nat.beq n k with|true=>some c|false=>r n
def cC{A:Type 1}:Nat->Option A:=λ_=>none
def aT{A:Type}:A->ce:=λ_=>{}
end Go.SX
namespace Go.RS
open Go.SX Go.Proofs
def ah(b:Bool):Prop:=b->(b->b)/\True
def ar(b:Bool):Prop:=b->b
def aE(b:Bool):Prop:=b=false → !b
def aj:Int->Int:=IntKind.wrap .i64
def ai {α} [Inhabited α] (l:List α) (i:Int):α:=l.getD i.toNat default
def ac {α} (l:List α):Int:=l.length
def zTe:Int:=1099511627776
abbrev aq(x:Int):Prop := -9223372036854775808<=x/\x<=9223372036854775807
abbrev wu:CT := .pair (.pair (.int .u32) (.int .i64)) (.int .i64)
abbrev cBlocks:CT := .pair wu (.pair wu (.pair wu (.pair wu (.pair wu (.pair wu (.pair wu wu))))))
def blocksV:cBlocks.D:=(((0,8),1),((2130706432,8),2),((167772160,8),3),((2886729728,12),3),((3232235520,16),3),((2851995648,16),4),((3758096384,4),5),((4026531840,4),6))
def GL:tM:=(λn=>match n with|0=>some ⟨cBlocks,blocksV⟩|_=>none)
theorem rG:Tryz.prog.follows .mixedOrders=true:=Tryz.checked.mixed
abbrev cI:CT := .int .i64
abbrev bP:CT := .int .u8
abbrev cP:CT := .int .u32
abbrev IN:CT := .int .u64
abbrev jN:CT := .pair (.sl bP) cI
abbrev xO:CT := .pair cI cI
abbrev vM:CT := .pair cI cI
abbrev xh:CT := .pair cP (.pair cP (.pair cI (.pair cI cI)))
def aS(c:ae×Int):Prop:=0<=c.2/\c.2<=c.1.length
theorem qV{sp:fh}{c:Cn}{f:FuncId}{fn:Func}{q:Prop}(hf:Tryz.prog.funcs[f]? = some fn)(hs:jo Tryz.prog sp)(an:bw c.ps->ce)(vc:q)(hb:fn.body=some (zX fn):=by kernel_rfl)(he:Cn.vc Tryz.prog sp c fn an=q:=by kernel_rfl):oQ Tryz.prog sp.gl f c.spec:=Cn.okH c hf hb hs rG an (Ox he vc)
theorem aF{sp:fh}{c:Ct}{f:FuncId}{fn:Func}{q:Prop}(hf:Tryz.prog.funcs[f]? = some fn)(hs:jo Tryz.prog sp)(an:bw c.ps->ce)(vc:q)(hb:fn.body=some (zX fn):=by kernel_rfl)(he:Ct.vc Tryz.prog sp c fn an=q:=by kernel_rfl):oQ Tryz.prog sp.gl f c.spec:=Ct.okH c hf hb hs rG an (Ox he vc)
abbrev aB(f:FuncId)(s:Go.SX.Spec):=oQ Tryz.prog GL f s
def YX:Ct:=⟨[.val (.sl bP),.val cI],[.box 83 jN],λd=>[0<=d.2.1],λd=>(((if (d.1.length:Int)<=d.2.1 then d.1 else d.1.take d.2.1.toNat,0),()),())⟩
theorem aC3 :
 ∀(a:ae)(b:Int),(a.length<=maxLen/\ ∀(c:Int),c∈a->0<=c/\c<=255)/\aq b/\True->0<=b->ao (decide (b< ↑a.length)) ((0:Int)<=0/\0<=b/\b<= ↑a.length/\(cO a (toNat 0) b.toNat,(0:Int))=(if↑a.length<=b then a else take b.toNat a,(0:Int))) ((a,(0:Int))=(if↑a.length<=b then a else take b.toNat a,(0:Int))):=by
  rintro x y ⟨-,⟨h0,h1⟩,-⟩ h;refine bU (λhb=>?_) (λhb=>?_)
  .refine⟨ab,h,ab,?_⟩;rw[af ab];simp[cO]
  .rw[am ab]
theorem Mk:aB 5 YX.spec:=aF Tryz.func5 aD aT aC3
def WP:Cn:=⟨[.box 83 jN,.val cI],[.val cI],λd=>[aS d.1,d.2.1<=256],λd y=>0<=y.1.1/\(y.1.1<d.2.1∨y.1.1=0)/\aS y.2.1,λd h=>⟨((0,()),(d.1,())),by simp,by simp,h.1⟩⟩
def E6(a:ae)(b c:Int) :=
 c≠(0:Int)/\0<=Int.tmod (aj (ai a b)) c/\(Int.tmod (aj (ai a b)) c<c∨Int.tmod (aj (ai a b)) c=0)/\aS (a,aj (b+1))
theorem VV :
 ∀(a:ae)(b c:Int),((a.length<=maxLen/\ ∀(d:Int),d∈a->0<=d/\d<=255)/\aq b)/\aq c/\True->aS (a,b)/\c<=256-> ∀(d:Bool),d=decide (a.length<=b)->(ah (! d))/\(aE d)/\ao (bif d then true else decide (c<1)) ((0:Int)<=0/\(0<c∨(0:Int)=0)/\aS (a,b)) (0<=b/\b< ↑a.length/\ao (decide (256<c)) False (E6 a b c)):=by
  delta E6 ah aE aj ai;rintro l p n ⟨⟨⟨hl,hw⟩,h0,h1⟩,⟨h2,h3⟩,-⟩⟨⟨hc1,hc2⟩,hn⟩;simp only[maxLen] at hl hc1 hc2
  (repeat (refine bY ?_;repeat refine bZ ?_));refine aw (λhb=>?_) (λhb=>?_)
  .exact⟨ab,aA,hc1,hc2⟩
  .simp at hb;obtain⟨hb1,hb2⟩:=hb;obtain⟨hm0,hm1⟩:=hw _ (bS hc1 hb1);rw[aG ab ab,aG ab ab];refine⟨hc1,hb1,bU (λhb=>?_) (λhb=>?_)⟩
   .have:=hb;omega
   .exact⟨ab,sO hm0,.inl (rK hm0 ab),by simp only[aS];omega⟩
theorem ae1:aB 26 WP.spec:=qV Tryz.func26 aD aT VV
def Tl:Cn:=⟨[.box 83 jN,.val cI],[.val cI],λd=>[aS d.1],λd y=>0<=y.1.1/\(y.1.1<d.2.1∨y.1.1=0)/\aS y.2.1,λd h=>⟨((0,()),(d.1,())),by simp,by simp,h.1⟩⟩
theorem Y9 :
 ∀(a:ae)(b c:Int),((a.length<=maxLen/\ ∀(d:Int),d∈a->0<=d/\d<=255)/\aq b)/\aq c/\True->0<=b/\b<= ↑a.length-> ∀(d:Bool),d=decide (a.length<=b)->(ah (! d))/\(aE d)/\ao (bif d then true else decide (c<1)) ((0:Int)<=0/\(0<c∨(0:Int)=0)/\aS (a,b)) (0<=b/\b< ↑a.length/\ao (decide (256<c)) (aS (a,aj (b+1))/\(256:Int)<=256/\ ∀(e:Int)(f:ae)(g:Int),0<=e/\(e<256∨e=0)/\aS (f,g)->c≠(0:Int)/\0<=Int.tmod (aj (aj ((256:Int)*aj (ai a b))+e)) c/\(Int.tmod (aj (aj ((256:Int)*aj (ai a b))+e)) c<c∨Int.tmod (aj (aj ((256:Int)*aj (ai a b))+e)) c=0)/\aS (f,g)) (E6 a b c)):=by
  delta E6 ah aE aj ai;rintro l p n ⟨⟨⟨hl,hw⟩,h0,h1⟩,⟨h2,h3⟩,-⟩⟨hc1,hc2⟩;simp only[maxLen] at hl hc1 hc2
  (repeat (refine bY ?_;repeat refine bZ ?_));refine aw (λhb=>?_) (λhb=>?_)
  .exact⟨ab,aA,hc1,hc2⟩
  .simp at hb;obtain⟨hb1,hb2⟩:=hb;obtain⟨hm0,hm1⟩:=hw _ (bS hc1 hb1);rw[aG ab ab,aG (n:=l.getD p.toNat default) ab ab];refine⟨hc1,hb1,aw (λhb=>?_) (λhb=>?_)⟩
   .refine⟨by simp only[aS];omega,ab,?_⟩;rintro r l2 p2 ⟨hr0,hr1,hr2⟩;rw[aG (n:=256*_) ab ab,aG ab ab];exact⟨ab,sO ab,.inl (rK ab ab),hr2⟩
   .exact⟨ab,sO hm0,.inl (rK hm0 ab),by simp only[aS];omega⟩
theorem Aj:aB 26 Tl.spec:=qV Tryz.func26 (av aD ae1) aT Y9
open Go.SX
def xs(k a:Nat):Nat:=a ^^^ a/2^k
def mu(c a:Nat):Nat:=a*c%18446744073709551616
def Fk(x:Nat):Nat:=xs 31 (mu 10723151780598845931 (xs 27 (mu 13787848793156543929 (xs 30 ((x+11400714819323198485)%18446744073709551616)))))
def mA(x:Int):Int:=(Fk x.toNat:Int)
theorem Zq{k a:Nat}(ha:a<18446744073709551616):xs k a<18446744073709551616:=by
 have h1:a<2^64:=ab
 have h2:a/2^k<2^64:=Nat.lt_of_le_of_lt (Nat.div_le_self _ _) h1
 have h3:a ^^^ a/2^k<2^64:=Nat.xor_lt_two_pow h1 h2
 unfold xs
 omega
theorem IS{c a:Nat}:mu c a<18446744073709551616:=by unfold mu;omega
theorem aP5(x:Nat):Fk x<18446744073709551616:=by
 unfold Fk
 exact Zq IS
theorem Rh(x:Int):0<=mA x/\mA x<=18446744073709551615:=by
 have:=aP5 x.toNat
 unfold mA
 omega
theorem HD(n:Nat):IntKind.u64.wrap (n:Int)=((n%18446744073709551616:Nat):Int):=by
 rw[IntKind.wrap_u64,Int.natCast_emod]
 rfl
theorem UR(n k:Nat)(hk:k<=64):dF .u64 (n:Int) (k:Int)=((n/2^k:Nat):Int):=by
 unfold dF
 have:min (k:Int).toNat IntKind.u64.bits=k:=by simp only[IntKind.bits,Int.toNat_natCast];omega
 rw[this,Cx _ (Int.le_of_lt (Int.pow_pos bt)),Int.natCast_ediv,Int.natCast_pow]
 rfl
theorem Gj(n k:Nat)(hk:k<=64)(hn:n<18446744073709551616):bits .xor .u64 (n:Int) (dF .u64 (n:Int) (k:Int))=(xs k n:Int):=by
 rw[UR n k hk]
 exact bits_xor_u64_nat _ _ hn (Nat.lt_of_le_of_lt (Nat.div_le_self _ _) hn)
theorem Oh(n c:Nat):IntKind.u64.wrap ((n:Int)*(c:Int))=(mu c n:Int):=by
 rw[← Int.natCast_mul,HD];rfl
end Go.RS
namespace Go.RS
open Go.SX Go.Proofs
def TG:Cn:=⟨[.box 83 jN],[.val cI],λd=>[aS d.1],λd y=>aS y.2.1 ∧ -9223372036854775808<=y.1.1/\y.1.1<=9223372036854775807,λd h=>⟨((0,()),(d.1,())),h.1,by simp,by simp⟩⟩
theorem SB :
 ∀(a:ae)(b:Int),((a.length<=maxLen/\ ∀(c:Int),c∈a->0<=c/\c<=255)/\aq b)/\True->0<=b/\b<= ↑a.length->aS (a,b)/\ ∀(c:Int)(d:ae)(e:Int),0<=c/\(c<10∨c=0)/\aS (d,e)->ao (decide (c=0)) (aS (d,e)/\ ∀(f:Int)(g:ae)(h:Int),0<=f/\(f<3∨f=0)/\aS (g,h)->aS (g,h)/\ -9223372036854775808<=aj ((-1:Int) -f)/\aj ((-1:Int) -f)<=9223372036854775807) (ao (decide (c=1)) (aS (d,e)/\ ∀(f:Int)(g:ae)(h:Int),0<=f/\(f<14∨f=0)/\aS (g,h)->0<=f/\f< ↑(List.length [(9223372036854775807:Int),(-9223372036854775808:Int),(1125899906842624:Int),(1125899906842625:Int),(65535:Int),(65536:Int),(255:Int),(256:Int),(1023:Int),(1024:Int),(65534:Int),(65535:Int),(4294967296:Int),(4611686018427387905:Int)])/\aS (g,h)/\ -9223372036854775808<=getD
 [(9223372036854775807:Int),(-9223372036854775808:Int),(1125899906842624:Int),(1125899906842625:Int),(65535:Int),(65536:Int),(255:Int),(256:Int),(1023:Int),(1024:Int),(65534:Int),(65535:Int),(4294967296:Int),(4611686018427387905:Int)] f.toNat default/\getD [(9223372036854775807:Int),(-9223372036854775808:Int),(1125899906842624:Int),(1125899906842625:Int),(65535:Int),(65536:Int),(255:Int),(256:Int),(1023:Int),(1024:Int),(65534:Int),(65535:Int),(4294967296:Int),(4611686018427387905:Int)] f.toNat default<=9223372036854775807) (ao (decide (c=2)) (aS (d,e)/\ ∀(f:Int)(g:ae)(h:Int),0<=f/\(f<256∨f=0)/\aS (g,h)->aS (g,h)/\ ∀(i:Int)(j:ae)(k:Int),0<=i/\(i<256∨i=0)/\aS (j,k)->aS (j,k)/\ -9223372036854775808<=aj (aj ((256:Int)*f)+i)/\aj (aj ((256:Int)*f)+i)<=9223372036854775807) (aS (d,e)/\ ∀(f:Int)(g:ae)(h:Int),0<=f/\(f<40∨f=0)/\aS (g,h)->aS (g,h)/\aq f))):=by
  delta aj;rintro l p-h;refine⟨h,?_⟩;rintro r l2 p2 ⟨h1,h2,h3⟩;refine aw (λhb=>⟨h3,?_⟩) (λhb=>aw (λhb=>⟨h3,?_⟩) (λhb=>aw (λhb=>⟨h3,?_⟩) (λhb=>⟨h3,?_⟩)))
  .rintro a l4 p4 ⟨h4,h5,h6⟩;exact⟨h6,OM _⟩
  .rintro a l4 p4 ⟨h4,h5,h6⟩;refine⟨h4,by simp;omega,h6,?_⟩;exact Lm (p:=λv => -9223372036854775808<=v/\v<=9223372036854775807) aA h4 (by simp;omega)
  .rintro a l4 p4 ⟨h4,h5,h6⟩;refine⟨h6,?_⟩;rintro a l4 p4 ⟨h4,h5,h6⟩;exact⟨h6,OM _⟩
  .rintro a l4 p4 ⟨h4,h5,h6⟩;exact⟨h6,ab,ab⟩
theorem aM8:aB 73 TG.spec:=qV Tryz.func73 (av aD Aj) aT SB
def az8:Cn:=⟨[.box 83 jN],[.val cP],λd=>[aS d.1],λd y=>aS y.2.1/\0<=y.1.1/\y.1.1<=4294967295,λd h=>⟨((0,()),(d.1,())),h.1,by simp,by simp⟩⟩
theorem av8 :
 ∀(a:ae)(b:Int),((a.length<=maxLen/\ ∀(c:Int),c∈a->0<=c/\c<=255)/\aq b)/\True->0<=b/\b<= ↑a.length->aS (a,b)/\ ∀(c:Int)(d:ae)(e:Int),0<=c/\(c<12∨c=0)/\aS (d,e)->ao (decide (c=11)) (aS (d,e)/\ ∀(f:Int)(g:ae)(h:Int),0<=f/\(f<65536∨f=0)/\aS (g,h)->(0:Int)<=16/\aS (g,h)/\ ∀(i:Int)(j:ae)(k:Int),0<=i/\(i<65536∨i=0)/\aS (j,k)->aS (j,k)/\0<=IntKind.wrap .u32 (aj (eO IntKind.i64 f (16:Int)+i))/\IntKind.wrap .u32 (aj (eO IntKind.i64 f (16:Int)+i))<=4294967295) (aS (d,e)/\ ∀(f:Int)(g:ae)(h:Int),0<=f/\(f<3∨f=0)/\aS (g,h)->(0:Int)<=16/\aS (g,h)/\ ∀(i:Int)(j:ae)(k:Int),0<=i/\(i<8∨i=0)/\aS (j,k)->aS (j,k)/\0<=IntKind.wrap .u32 (aj (aj ((167772160:Int)+eO IntKind.i64 f (16:Int))+i))/\IntKind.wrap .u32 (aj (aj ((167772160:Int)+eO IntKind.i64 f (16:Int))+i))<=4294967295):=by
  delta aj;rintro l p-h;refine⟨h,?_⟩;rintro r l2 p2 ⟨h1,h2,h3⟩;refine aw (λhb=>⟨h3,?_⟩) (λhb=>⟨h3,?_⟩)
  .rintro a l4 p4 ⟨h4,h5,h6⟩;refine⟨ab,h6,?_⟩;rintro a l4 p4 ⟨h4,h5,h6⟩;exact⟨h6,L8 _⟩
  .rintro a l4 p4 ⟨h4,h5,h6⟩;refine⟨ab,h6,?_⟩;rintro a l4 p4 ⟨h4,h5,h6⟩;exact⟨h6,L8 _⟩
theorem Qw:aB 35 az8.spec:=qV Tryz.func35 (av aD Aj) aT av8
def aF7:Cn:=⟨[.box 83 jN],[.val cI],λd=>[aS d.1],λd y=>aS y.2.1/\(y.1.1=17∨y.1.1=1∨y.1.1=6),λd h=>⟨((1,()),(d.1,())),h.1,by simp⟩⟩
theorem aP0 :
 ∀(a:ae)(b:Int),((a.length<=maxLen/\ ∀(c:Int),c∈a->0<=c/\c<=255)/\aq b)/\True->0<=b/\b<= ↑a.length->aS (a,b)/\ ∀(c:Int)(d:ae)(e:Int),0<=c/\(c<3∨c=0)/\aS (d,e)->0<=c/\c< ↑(List.length [(17:Int),(1:Int),(6:Int)])/\aS (d,e)/\(getD [(17:Int),(1:Int),(6:Int)] c.toNat default=17∨getD [(17:Int),(1:Int),(6:Int)] c.toNat default=1∨getD [(17:Int),(1:Int),(6:Int)] c.toNat default=6):=by
  rintro l p-h;refine⟨h,?_⟩;rintro r l2 p2 ⟨h1,h2,h3⟩;refine⟨h1,by simp;omega,h3,?_⟩;exact Lm (p:=λv=>v=17∨v=1∨v=6) aA h1 (by simp;omega)
theorem Mn:aB 34 aF7.spec:=qV Tryz.func34 (av aD Aj) aT aP0
def Uj:Ct:=⟨[.val IN],[.val IN],λ_=>[],λd=>((mA d.1,()),())⟩
def Jy(a:Int) :=
 IntKind.wrap .u64 (bits BinOp.xor IntKind.u64 (IntKind.wrap .u64 (a+11400714819323198485)) (dF IntKind.u64 (IntKind.wrap .u64 (a+11400714819323198485)) (30:Int))*13787848793156543929)
def JX(a:Int) :=
 IntKind.wrap .u64 (bits BinOp.xor IntKind.u64 (Jy a) (dF IntKind.u64 (Jy a) (27:Int))*10723151780598845931)
theorem aJ5 :
 ∀(a:Int),(0<=a/\a<=18446744073709551615)/\True->True->(0:Int)<=30/\(0:Int)<=27/\(0:Int)<=31/\bits BinOp.xor IntKind.u64 (JX a) (dF IntKind.u64 (JX a) (31:Int))=mA a:=by
  delta Jy JX;rintro x ⟨⟨h0,h1⟩,-⟩ -;refine⟨bt,bt,bt,?_⟩;have h0:0<=x:=h0;obtain⟨n,rfl⟩:=pS h0;have e0:IntKind.u64.wrap ((n:Int)+11400714819323198485)=(((n+11400714819323198485)%18446744073709551616:Nat):Int):=HD (n+11400714819323198485);have hm:(n+11400714819323198485)%18446744073709551616<18446744073709551616:=ab;have e1:=Gj _ 30 bt hm;have e2:=Oh (xs 30 ((n+11400714819323198485)%18446744073709551616)) 13787848793156543929;have e3:=Gj _ 27 bt (IS (c:=13787848793156543929) (a:=xs 30 ((n+11400714819323198485)%18446744073709551616)));have e4:=Oh (xs 27 (mu 13787848793156543929 (xs 30 ((n+11400714819323198485)%18446744073709551616)))) 10723151780598845931;have e5:=Gj _ 31 bt (IS (c:=10723151780598845931) (a:=xs 27 (mu 13787848793156543929 (xs 30 ((n+11400714819323198485)%18446744073709551616)))));have c1:((30:Nat):Int)=30:=rfl;have c2:((27:Nat):Int)=27:=rfl;have c3:((31:Nat):Int)=31:=rfl
  have c4:((13787848793156543929:Nat):Int)=13787848793156543929:=rfl;have c5:((10723151780598845931:Nat):Int)=10723151780598845931:=rfl;rw[c1] at e1;rw[c4] at e2;rw[c2] at e3;rw[c5] at e4;rw[c3] at e5;rw[e0,e1,e2,e3,e4,e5];unfold mA Fk;rw[Int.toNat_natCast]
theorem LB:aB 159 Uj.spec:=aF Tryz.func159 aD aT aJ5
abbrev dZ:Type:=Int×Int×Int×Int×Int
def AC(h x:Int):Int:=mA (bits .xor .u64 h (IntKind.wrap .u64 x))
def nU(seed:Int)(k:dZ):Int:=AC (AC (AC (AC (AC (mA (IntKind.wrap .u64 seed)) k.1) k.2.1) k.2.2.1) k.2.2.2.1) k.2.2.2.2
theorem xT(s:Int)(k:dZ):0<=nU s k/\nU s k<=18446744073709551615:=Rh _
def B4(seed:Int)(k:dZ)(j:Int):Int:=([k.1,k.2.1,k.2.2.1,k.2.2.2.1,k.2.2.2.2].take j.toNat).foldl AC (mA (IntKind.wrap .u64 seed))
def K2:Ct:=⟨[.val cI,.agg xh],[.val IN],λ_=>[],λd=>((nU d.1 d.2.1,()),())⟩
def V0:bw K2.ps->ce:=(λd=>{loops:=(bq 3 (λS=>{ι:=Int×Int,qn:=fj,μ:=λi=>(5-i.1).toNat,inv:=λi=>0<=i.1/\i.1<=5/\i.2=B4 d.1 d.2.1 i.1,keep:=[23],slots:=λi=>[(5,.int .u64 i.2),(24,.int .i64 i.1)]}) cC)})
theorem aK0 :
 ∀(x x_1 x_2 x_3 x_4 x_5:Int),aq x/\((0<=x_1/\x_1<=4294967295)/\(0<=x_2/\x_2<=4294967295)/\aq x_3/\aq x_4/\aq x_5)/\True->True->(∃ j h,(0<=j/\j<=5/\h=B4 x (x_1,x_2,x_3,x_4,x_5) j)/\mA (IntKind.wrap .u64 x)=h/\aj x_1=aj x_1/\aj x_2=aj x_2/\x_3=x_3/\x_4=x_4/\x_5=x_5/\(0:Int)=j/\True)/\∀(j h:Int),0<=j/\j<=5/\h=B4 x (x_1,x_2,x_3,x_4,x_5) j->ao (decide (j<5)) (0<=j/\j<↑(5:Nat)/\∃ j_1 h_1,(0<=j_1/\j_1<=5/\h_1=B4 x (x_1,x_2,x_3,x_4,x_5) j_1)/\toNat ((5:Int)-j_1)<toNat ((5:Int)-j)/\mA (bits BinOp.xor IntKind.u64 h (IntKind.wrap .u64 (lO [aj x_1,aj x_2,x_3,x_4,x_5] j.toNat)))=h_1/\aj x_1=aj x_1/\aj x_2=aj x_2/\x_3=x_3/\x_4=x_4/\x_5=x_5/\aj (j+(1:Int))=j_1/\True) (h=nU x (x_1,
 x_2,x_3,x_4,x_5)):=by
  delta aj;rintro x a b c e f ⟨-,⟨⟨a0,a1⟩,⟨b0,b1⟩,⟨c0,c1⟩,⟨e0,e1⟩,f0,f1⟩,-⟩ -;refine⟨⟨0,_,⟨ab,ab,rfl⟩,aP⟩,?_⟩;rintro j h ⟨h0,h1,rfl⟩;refine bU (λhj=>?_) (λhj=>?_)
  .refine⟨h0,ab,j+1,B4 x (a,b,c,e,f) (j+1),⟨ab,ab,rfl⟩,ab,?_,rfl,rfl,rfl,rfl,rfl,aG ab ab,bv⟩;rw[aG (n:=a) ab ab,aG (n:=b) ab ab];have:j=0∨j=1∨j=2∨j=3∨j=4:=ab;rcases this with rfl|rfl|rfl|rfl|rfl <;> rfl
  .have:j=5:=ab;subst this;rfl
theorem MJ:aB 121 K2.spec:=aF Tryz.func121 (av aD LB) V0 aK0
def ju(way seed:Int)(k:dZ)(count n:Int):Int×Int :=
 if n<1∨16<n∨count<0∨way<1∨3<way then (0,1) else
  (if way=1 then (nU seed k).tmod n else if way=2 then (nU seed (k.1,k.2.1,0,0,0)).tmod n else count.tmod n,0)
def Zf:Ct:=⟨[.val cI,.val cI,.agg xh,.val cI,.val cI],[.val cI,.val cI],λ_=>[],λd=>(((ju d.1 d.2.1 d.2.2.1 d.2.2.2.1 d.2.2.2.2.1).1,(ju d.1 d.2.1 d.2.2.1 d.2.2.2.1 d.2.2.2.2.1).2,()),())⟩
theorem ZW :
 ∀(a b c d e f g h i:Int),aq a/\aq b/\((0<=c/\c<=4294967295)/\(0<=d/\d<=4294967295)/\aq e/\aq f/\aq g)/\aq h/\aq i/\True->True-> ∀(j:Bool),j=decide (i<1)->(ah (! j))/\(aE j)/\ ∀(k:Bool),(k=bif j then true else decide (16<i))->(ah (! k))/\(aE k)/\ao (bif k then true else decide (h<0)) (0=(ju a b (c,d,e,f,g) h i).1/\1=(ju a b (c,d,e,f,g) h i).2) (ao (decide (a=1)) (IntKind.wrap .u64 i≠(0:Int)/\aj (Int.tmod (nU b (c,d,e,f,g)) (IntKind.wrap .u64 i))=(ju a b (c,d,e,f,g) h i).1/\0=(ju a b (c,d,e,f,g) h i).2) (ao (decide (a=2)) (IntKind.wrap .u64 i≠(0:Int)/\aj (Int.tmod (nU b (c,d,(0:Int),(0:Int),(0:Int))) (IntKind.wrap .u64 i))=(ju a b (c,d,e,f,g) h i).1/\0=(ju a b (c,d,e,f,g) h i).2) (ao (decide (a=3)) (IntKind.wrap .u64 i≠(0:Int)/\aj (Int.tmod (IntKind.wrap .u64 h) (IntKind.wrap .u64 i))=(ju a b (c,d,e,f,g) h i).1/\0=(ju a b (c,d,e,f,g) h
 i).2) (0=(ju a b (c,d,e,f,g) h i).1/\1=(ju a b (c,d,e,f,g) h i).2)))):=by
  delta ah aE aj;rintro x s a b c e f cnt n ⟨-,-,-,⟨c0,c1⟩,⟨n0,n1⟩,-⟩ -
  (repeat (refine bY ?_;repeat refine bZ ?_));refine aw (λh=>?_) (λh=>?_)
  .simp at h;unfold ju;rw[am ab];exact⟨rfl,rfl⟩
  .simp at h;rw[NL (n:=n) ab ab];have hr:∀ k,0<=(nU s k).tmod n/\(nU s k).tmod n<n:=λk=>⟨sO (xT _ _).1,rK (xT _ _).1 ab⟩
   unfold ju;refine aw (λhx=>?_) (λhx=>aw (λhy=>?_) (λhy=>aw (λhz=>?_) (λhz=>?_)))
   .simp at hx;subst hx;have:=hr (a,b,c,e,f);rw[af ab,am rfl,aG ab ab];exact⟨ab,rfl,rfl⟩
   .simp at hx hy;subst hy;have:=hr (a,b,0,0,0);rw[af ab,af ab,am rfl,aG ab ab];exact⟨ab,rfl,rfl⟩
   .simp at hx hy hz;subst hz;have q0:=sO (b:=n) (a:=cnt) ab;have q1:=rK (b:=n) (a:=cnt) ab ab;rw[af ab,af ab,af ab,NL (n:=cnt) ab ab,aG ab ab];exact⟨ab,rfl,rfl⟩
   .simp at hx hy hz;rw[am ab];exact⟨rfl,rfl⟩
theorem QW:aB 52 Zf.spec:=aF Tryz.func52 (av aD MJ) aT ZW
abbrev sX:CT := .pair cP cI
abbrev YB:CT := .pair cP cI
abbrev OW:CT := .pair YB (.pair (.sl cI) cI)
abbrev bR:CT := .pair (.sl sX) (.pair cP (.pair cI (.pair .bool (.pair (.sl OW) (.pair cI (.pair cP (.pair cI (.pair cI (.pair cI (.pair xO (.pair .bool (.pair .bool (.pair cI cI)))))))))))))
abbrev pZ:CT := .pair (.sl OW) (.pair cI (.pair (.sl cI) (.pair vM cI)))
abbrev aF0:Type:=Int×Int
abbrev aN:Type:=aF0×ae×Int
abbrev au:Type:=List (Int×Int)×Int×Int×Bool×List aN×Int×Int×Int×Int×Int×(Int×Int)×Bool×Bool×Int×Int
abbrev ct:Type:=List aN×Int×ae×(Int×Int)×Int
def ay(n:au):=n.1
def fy(n:au):=n.2.1
def JJ(n:au):=n.2.2.1
def iL(n:au):=n.2.2.2.1
def aU(n:au):=n.2.2.2.2.1
def fS(n:au):=n.2.2.2.2.2.1
def oB(n:au):=n.2.2.2.2.2.2.1
def qF(n:au):=n.2.2.2.2.2.2.2.1
def mY(n:au):=n.2.2.2.2.2.2.2.2.1
def xB(n:au):=n.2.2.2.2.2.2.2.2.2.1
def jV(n:au):=n.2.2.2.2.2.2.2.2.2.2.1
def ku(n:au):=n.2.2.2.2.2.2.2.2.2.2.2.1
def dJ(n:au):=n.2.2.2.2.2.2.2.2.2.2.2.2.1
def iM(n:au):=n.2.2.2.2.2.2.2.2.2.2.2.2.2.1
def sw(n:au):=n.2.2.2.2.2.2.2.2.2.2.2.2.2.2
def bT(s:ct):=s.1
def qa(s:ct):=s.2.1
def lP(s:ct):=s.2.2.1
def sR(s:ct):=s.2.2.2.1
def jz(s:ct):=s.2.2.2.2
theorem AQ(n:Int):bits .and .i64 n 65535=n%65536:=by
 have h127:(BitVec.ofInt 64 65535).toNat=2^16-1:=bt
 have key:(BitVec.ofInt 64 n &&& BitVec.ofInt 64 65535).toNat=(n%((2^64:Nat):Int)).toNat%2^16:=by
  rw[BitVec.toNat_and,BitVec.toNat_ofInt,h127,yT]
 show IntKind.i64.wrap ((BitVec.ofInt 64 n &&& BitVec.ofInt 64 65535).toNat:Nat)=n%65536
 rw[key,IntKind.wrap_i64]
 omega
theorem Ud{n:Int}(h0:0<=n)(h1:n<=18446744073709551615):bits .and .u64 n 65535=n%65536:=by
 rw[u64_and n 65535 h0 ab bt bt]
 have:(n.toNat &&& toNat 65535)=n.toNat%65536:=yT n.toNat 16
 rw[this];omega
def si(speed a:Int):Int:=if speed<0∨1000000<speed∨a<0∨1125899906842624<a then 0 else speed*(a/1000000)+speed*(a%1000000)/1000000
theorem aJ7{speed a:Int}:0<=si speed a/\si speed a<=2251799813685248:=by
 unfold si
 split
 .omega
 next h=>have a1:0<=a/1000000:=ab;have a2:a/1000000<=1125899907:=ab;have a3:0<=a%1000000:=ab;have a4:a%1000000<=999999:=ab;have b1:0<=speed*(a/1000000):=Int.mul_nonneg ab a1;have b2:speed*(a/1000000)<=1000000*1125899907:=Int.mul_le_mul ab a2 a1 ab;have b3:0<=speed*(a%1000000):=Int.mul_nonneg ab a3;have b4:speed*(a%1000000)<=1000000*999999:=Int.mul_le_mul ab a4 a3 ab;omega
theorem Vc{x a:Int}(h:¬ (x<0∨1000000<x∨a<0∨1125899906842624<a)) :
  IntKind.wrap IntKind.i64 (IntKind.wrap IntKind.i64 (x*IntKind.wrap IntKind.i64 (Int.tdiv a 1000000))+IntKind.wrap IntKind.i64 (Int.tdiv (IntKind.wrap IntKind.i64 (x*Int.tmod a 1000000)) 1000000))=si x a:=by
 have h2:=aJ7 (speed:=x) (a:=a)
 unfold si at h2 ⊢
 rw[af h] at h2 ⊢
 have a1:0<=a/1000000:=ab
 have a2:a/1000000<=1125899907:=ab
 have a3:0<=a%1000000:=ab
 have a4:a%1000000<=999999:=ab
 have b1:0<=x*(a/1000000):=Int.mul_nonneg ab a1
 have b2:x*(a/1000000)<=1000000*1125899907:=Int.mul_le_mul ab a2 a1 ab
 have b3:0<=x*(a%1000000):=Int.mul_nonneg ab a3
 have b4:x*(a%1000000)<=1000000*999999:=Int.mul_le_mul ab a4 a3 ab
 rw[EN (show 0<=a by omega),HA (show 0<=a by omega),aG (n:=a/1000000) ab ab,aG (n:=x*(a/1000000)) ab ab,
  aG (n:=x*(a%1000000)) ab ab,EN b3,aG (n:=x*(a%1000000)/1000000) ab ab,aG ab ab]
def ay7:Ct:=⟨[.val cI,.val cI],[.val cI],λ_=>[],λd=>((si d.1 d.2.1,()),())⟩
theorem ac6 :
 ∀(a b:Int),aq a/\aq b/\True->True-> ∀(c:Bool),c=decide (a<0)->(ah (! c))/\(aE c)/\ ∀(d:Bool),(d=bif c then true else decide (1000000<a))->(ah (! d))/\(aE d)/\ ∀(e:Bool),(e=bif d then true else decide (b<0))->(ah (! e))/\(aE e)/\ao (bif e then true else decide (1125899906842624<b)) (0=si a b) ((1000000:Int)≠(0:Int)/\(1000000:Int)≠(0:Int)/\(1000000:Int)≠(0:Int)/\aj (aj (a*aj (Int.tdiv b (1000000:Int)))+aj (Int.tdiv (aj (a*Int.tmod b (1000000:Int))) (1000000:Int)))=si a b):=by
  delta ah aE aj;rintro x a - -
  (repeat (refine bY ?_;repeat refine bZ ?_));refine aw (λh=>?_) (λh=>?_)
  .simp at h;unfold si;rw[am ab]
  .simp at h;refine⟨ab,ab,ab,Vc ab⟩
theorem aT0:aB 233 ay7.spec:=aF Tryz.func233 aD aT ac6
def HG(n:au):Bool:=decide (0<=qF n/\qF n<=5/\0<=mY n/\mY n<=65535/\0<=xB n/\xB n<=1000000)
def iZ(n:au):Int:=if HG n then 0 else 1
def Tz:Ct:=⟨[.agg bR],[.val cI],λ_=>[],λd=>((iZ d.1,()),())⟩
def Dm(a:au) :=
 CT.wf bR a/\True->True-> ∀(b:Bool),b=decide (a.2.2.2.2.2.2.2.1<0)->(ah (! b))/\(ah (! b))/\(aE b)/\ ∀(c:Bool),(c=bif b then true else decide (5<a.2.2.2.2.2.2.2.1))->(ah (! c))/\(ah (! c))/\(aE c)/\ ∀(d:Bool),(d=bif c then true else decide (a.2.2.2.2.2.2.2.2.1<0))->(ah (! d))/\(ah (! d))/\(aE d)/\ ∀(e:Bool),(e=bif d then true else decide (65535<a.2.2.2.2.2.2.2.2.1))->(ah (! e))/\(ah (! e))/\(aE e)/\ ∀(f:Bool),(f=bif e then true else decide (a.2.2.2.2.2.2.2.2.2.1<0))->(ah (! f))/\(ah (! f))/\(aE f)/\ao (bif f then true else decide (1000000<a.2.2.2.2.2.2.2.2.2.1)) (1=iZ a) (0=iZ a)
theorem aH4 :
 ∀(a:au),(Dm a):=by
  delta Dm ah aE;rintro d - -
  (repeat (refine bY ?_;repeat refine bZ ?_));unfold iZ HG qF mY xB;generalize d.2.2.2.2.2.2.2.1=i;generalize d.2.2.2.2.2.2.2.2.1=b;generalize d.2.2.2.2.2.2.2.2.2.1=s;refine aw (λh=>?_) (λh=>?_)
  .simp at h;rw[af (by simp;omega)]
  .simp at h;rw[am (by simp;omega)]
theorem an4:aB 180 Tz.spec:=aF Tryz.func180 aD aT aH4
def an9:Ct:=⟨[.agg bR],[.val cI],λ_=>[],λd=>((iZ d.1,()),())⟩
theorem ar6 :
 ∀(a:au),(Dm a):=by
  delta Dm ah aE;rintro d - -
  (repeat (refine bY ?_;repeat refine bZ ?_));unfold iZ HG qF mY xB;generalize d.2.2.2.2.2.2.2.1=i;generalize d.2.2.2.2.2.2.2.2.1=b;generalize d.2.2.2.2.2.2.2.2.2.1=s;refine aw (λh=>?_) (λh=>?_)
  .simp at h;rw[af (by simp;omega)]
  .simp at h;rw[am (by simp;omega)]
theorem Vf:aB 67 an9.spec:=aF Tryz.func67 aD aT ar6
abbrev wI(n:Int):Int:=IntKind.i64.wrap n
def aB6(n:au)(sent a:Int):Int:=wI (wI (mY n+sent)+si (xB n) a)
def r7(n:au)(sent a:Int):Int:=aB6 n sent a%65536
def aC9:Ct:=⟨[.val cI,.box 92 bR,.box 3 cI],[.val cI],λ_=>[],λd=>((r7 d.2.1 d.1 d.2.2.1,()),(d.2.1,d.2.2.1,()))⟩
theorem YK :
 ∀(a:Int)(b:au)(c:Int),aq a/\CT.wf bR b/\aq c/\True->True->bits BinOp.and IntKind.i64 (aj (aj (b.2.2.2.2.2.2.2.2.1+a)+si b.2.2.2.2.2.2.2.2.2.1 c)) (65535:Int)=r7 b a c/\b=b/\c=c:=by
  delta aj;rintro x d a - -;exact⟨AQ _,rfl,rfl⟩
theorem Tu:aB 232 aC9.spec:=aF Tryz.func232 (av aD aT0) aT YK
def mD(n:au)(s:ct)(port a asked dst:Int):Int :=
 if qF n=1 then mY n else if qF n=2 then r7 n (qa s) a
 else if qF n=3 then (if port<0∨(lP s).length<=port then r7 n 0 a else r7 n ((lP s).getD port.toNat default) a)
 else if qF n=4 then asked else if qF n=5 then nU (mY n) (0,dst,0,qa s,0)%65536 else 0
def aB3:Ct:=⟨[.agg bR,.agg pZ,.val cI,.val cI,.val cI,.val cP],[.val cI],λ_=>[],λd=>((mD d.1 d.2.1 d.2.2.1 d.2.2.2.1 d.2.2.2.2.1 d.2.2.2.2.2.1,()),())⟩
theorem aS2 :
 ∀(a:au)(b:List aN)(c:Int)(d:ae)(e f g h i j k:Int),CT.wf bR a/\((b.length<=maxLen/\ ∀(l:aN),l∈b->((0<=l.1.1/\l.1.1<=4294967295)/\aq l.1.2)/\(l.2.1.length<=maxLen/\ ∀(m:Int),m∈l.2.1->aq m)/\aq l.2.2)/\aq c/\(d.length<=maxLen/\ ∀(l:Int),l∈d->aq l)/\(aq e/\aq f)/\aq g)/\aq h/\aq i/\aq j/\(0<=k/\k<=4294967295)/\True->True->ao (decide (a.2.2.2.2.2.2.2.1=1)) (a.2.2.2.2.2.2.2.2.1=mD a (b,c,d,(e,f),g) h i j k) (ao (decide (a.2.2.2.2.2.2.2.1=2)) (r7 a c i=mD a (b,c,d,(e,f),g) h i j k) (ao (decide (a.2.2.2.2.2.2.2.1=3)) (∀(l:Bool),l=decide (h<0)->(ah (! l))/\(ah (! l))/\((! l)->(ar (! l))/\(ar (! l))/\True)/\(aE l)/\ao (bif l then true else decide (d.length<=h)) (r7 a (0:Int) i=mD a (b,c,d,(e,f),g) h i j k) (0<=h/\h< ↑d.length/\r7 a (ai d h) i=mD a (b,c,d,(e,f),g) h i j k)) (ao (decide (a.2.2.2.2.2.2.2.1=4)) (j=mD a
 (b,c,d,(e,f),g) h i j k) (ao (decide (a.2.2.2.2.2.2.2.1=5)) (aj (bits BinOp.and IntKind.u64 (nU a.2.2.2.2.2.2.2.2.1 ((0:Int),k,(0:Int),c,(0:Int))) (65535:Int))=mD a (b,c,d,(e,f),g) h i j k) (0=mD a (b,c,d,(e,f),g) h i j k))))):=by
  delta ah ar aE aj ai;rintro d r se ps t1 t2 ba port a asked dst - -;unfold mD qF mY qa lP;simp only;refine aw (λh=>?_) (λh=>?_)
  .rw[am (aI h)]
  have h1:=aL h;rw[af h1];refine aw (λh=>?_) (λh=>?_)
  .rw[am (aI h)]
  have h2:=aL h;rw[af h2];refine aw (λh=>?_) (λh=>?_)
  .rw[am (aI h)]
   (repeat (refine bY ?_;repeat refine bZ ?_));refine aw (λh=>?_) (λh=>?_)
   .simp at h;rw[am h]
   .simp at h;exact⟨ab,ab,by rw[af ab]⟩
  have h3:=aL h;rw[af h3];refine aw (λh=>?_) (λh=>?_)
  .rw[am (aI h)]
  have h4:=aL h;rw[af h4];refine bU (λh=>?_) (λh=>?_)
  .rw[am h];have hr:=xT d.2.2.2.2.2.2.2.2.1 (0,dst,0,se,0);rw[Ud hr.1 hr.2,aG ab ab]
  .rw[af h]
theorem Rs:aB 222 aB3.spec:=aF Tryz.func222 (av (av aD Tu) MJ) aT aS2
end Go.RS
