/- SX, part 21: a function's contract, off its symbolic run. -/
import Derived.Test.YthmcfealplfaaaaGreatDoorSx20
import Derived.Laws.Sem
import Derived.Laws.NewBlocks
import Derived.ProofKit
import Derived.OpenShut
import Derived.ChangeOld
import Derived.Below
import Derived.KernelRfl
import Derived.Test.YthmcfealplfaaaaGreatDoorChecked
import Derived.Laws.Bits64
import Derived.Laws.Bits128
import Derived.Laws.BitsAllLaws
namespace Go.SX
set_option linter.unusedVariables false
def CT.plain:CT->Bool
 | .sl _=>false
 | .pair a b=>a.plain&&b.plain
 | _=>true
theorem EC{A A':Nat->Prop}{w w':World}:∀{t:CT}{cv:Nat->Option Value}{o:Nat}{d:t.D},t.plain=true->Rd A w t cv o d->Rd A' w' t cv o d
 | .int k,cv,o,d,_,h=>h
 | .bool,cv,o,d,_,h=>h
 | .str,cv,o,d,_,h=>h
 | .sl t,cv,o,d,hp,_=>by cases hp
 | .pair a b,cv,o,d,hp,h=>by
  simp only[CT.plain,Bool.and_eq_true] at hp
  exact⟨EC hp.1 h.1,EC hp.2 h.2⟩
theorem BA{A A':Nat->Prop}{w:World}{t:CT}{cv:Nat->Option Value}{o:Nat}{d:t.D}(L:t.plain=true∨∀ b,A b->A' b)(h:Rd A w t cv o d):Rd A' w t cv o d:=by
 rcases L with L|L
 ·exact EC L h
 ·exact fA L (fun _ _ _=>rfl) t _ _ _ _ (fun _ _=>rfl) h
inductive RK where
 | val (t:CT)
 | agg (o:OT)
 | own (E:TypeId) (t:CT)
 | box (E:TypeId) (o:OT)
 | fn (f:FuncId) (k:Nat)
@[reducible] def RK.D:RK->Type
 | .val t=>t.D
 | .agg o=>o.X
 | .own _ t=>List t.D
 | .box _ o=>o.X
 | .fn _ _=>Unit
@[reducible] def gw:List RK->Type
 | []=>Unit
 | p::r=>p.D×gw r
@[reducible] def d7:List PK->Type
 | []=>Unit
 | .val _::r=>d7 r
 | .agg _::r=>d7 r
 | .own _ _::r=>d7 r
 | .ago _::r=>d7 r
 | .fn _ _::r=>d7 r
 | .nils::r=>d7 r
 | .box _ o::r=>o.X×d7 r
 | .row _ t::r=>List t.D×d7 r
def OT.plain:OT->Bool
 | .dat t=>t.plain
 | .row _ t=>t.plain
 | .rowg _ _=>true
 | .fnc _=>true
 | .ali=>true
 | .ref _ o=>o.plain
 | .pair a b=>a.plain&&b.plain
def pS:List RK->Bool
 | []=>true
 | .val t::r=>t.plain&&pS r
 | .agg o::r=>o.plain&&pS r
 | .own _ t::r=>t.plain&&pS r
 | .box _ o::r=>o.plain&&pS r
 | .fn _ _::r=>pS r
def jB:List PK->Bool
 | []=>true
 | .val _::r=>jB r
 | .agg _::r=>jB r
 | .own _ _::r=>jB r
 | .ago _::r=>jB r
 | .fn _ _::r=>jB r
 | .nils::r=>jB r
 | .box _ o::r=>o.plain&&jB r
 | .row _ t::r=>t.plain&&jB r
structure Ct where
 ps:List PK
 rs:List RK
 pre:ar ps->List Prop
 out:ar ps->gw rs×d7 ps
def wV(E:TypeId)(t:CT)(h:aX):List SV->Option (List t.D×List SV×Option Nat)
 | .own m sz::r=>match h m with
  | .live (.row E' t' xs)=>match Nat.beq E E',Nat.beq sz t.size,fi t' t xs with
   | true,true,some ys=>some (ys,r,some m)
   | _,_,_=>none
  | _=>none
 | .nilsl::r=>some ([],r,none)
 | _=>none
def jJ(h:aX)(al:Bool):(o:OT)->Option Nat->List SV->Option (o.X×List SV×List (Nat×Nm)×List (Option Nat))
 | .dat t,_,cs=>match (gE t cs).run h with
  | some ((x,r,fz),_)=>some (x,r,fz,[])
  | none=>none
 | .row E t,_,cs=>match wV E t h cs with
  | some (ys,r,o)=>some (ys,r,[],[o])
  | none=>none
 | .rowg _ _,_,_::r=>some ((),r,[],[])
 | .rowg _ _,_,[]=>none
 | .fnc f,_,.fn g []::r=>match Nat.beq f g with
  | true=>some ((),r,[],[])
  | false=>none
 | .fnc _,_,_=>none
 | .ali,_,.ptr m 0::r=>match al,Nat.beq m PN with
  | true,true=>some ((),r,[],[])
  | _,_=>none
 | .ali,_,_=>none
 | .ref E o,some j,.ptr m 0::r=>match Nat.beq m (PN+j),h m with
  | true,.live (.cells E' cs)=>match Nat.beq E E',jJ h al o (some (j+1)) cs with
   | true,some (x,[],fz,ow)=>some (x,r,fz,ow)
   | _,_=>none
  | _,_=>none
 | .ref _ _,_,_=>none
 | .pair a b,j,cs=>match jJ h al a j cs with
  | some (x,r,f,w)=>match jJ h al b (j.map (· + a.nb)) r with
   | some (y,r',f',w')=>some ((x,y),r',f++f',w++w')
   | none=>none
  | none=>none
def kg(al:Bool):(rs:List RK)->List SV->aX->Option (gw rs×List (Nat×Nm)×List (Option Nat))
 | [],[],_=>some ((),[],[])
 | .val t::rs,v::vs,h=>match (gE t [v]).run h with
  | some ((x,[],fz),_)=>match kg al rs vs h with
   | some (y,f,o)=>some ((x,y),fz++f,o)
   | none=>none
  | _=>none
 | .agg t::rs,.agg cs::vs,h=>match jJ h al t none cs with
  | some (x,[],fz,w)=>match kg al rs vs h with
   | some (y,f,o)=>some ((x,y),fz++f,w++o)
   | none=>none
  | _=>none
 | .own E t::rs,v::vs,h=>match wV E t h [v] with
  | some (x,_,w)=>match kg al rs vs h with
   | some (y,f,o)=>some ((x,y),f,w::o)
   | none=>none
  | none=>none
 | .box E t::rs,.ptr m 0::vs,h=>match h m with
  | .live (.cells E' cs)=>match Nat.beq E E',jJ h al t none cs with
   | true,some (x,[],fz,w)=>match kg al rs vs h with
    | some (y,f,o)=>some ((x,y),fz++f,some m::(w++o))
    | none=>none
   | _,_=>none
  | _=>none
 | .fn f k::rs,.fn g cs::vs,h=>match Nat.beq f g,Nat.beq cs.length k with
  | true,true=>match kg al rs (cs++vs) h with
   | some (y,f',o)=>some (((),y),f',o)
   | none=>none
  | _,_=>none
 | _,_,_=>none
def jq:(ps:List PK)->Nat->aX->Option (d7 ps×List (Nat×Nm)×List (Option Nat))
 | [],_,_=>some ((),[],[])
 | .val _::ps,j,h=>jq ps j h
 | .agg _::ps,j,h=>jq ps j h
 | .own _ _::ps,j,h=>jq ps j h
 | .ago _::ps,j,h=>jq ps j h
 | .fn _ _::ps,j,h=>jq ps j h
 | .nils::ps,j,h=>jq ps j h
 | .box E t::ps,j,h=>match h (PN+j) with
  | .live (.cells E' cs)=>match Nat.beq E E',jJ h true t (some (j+1)) cs with
   | true,some (x,[],fz,w)=>match jq ps (j+1+t.nb) h with
    | some (y,f,o)=>some ((x,y),fz++f,w++o)
    | none=>none
   | _,_=>none
  | _=>none
 | .row E t::ps,j,h=>match h (PN+j) with
  | .live (.row E' t' xs)=>match Nat.beq E E',fi t' t xs with
   | true,some ys=>match jq ps (j+1) h with
    | some (y,f,o)=>some ((ys,y),f,o)
    | none=>none
   | _,_=>none
  | _=>none
def rZ(n:Nat):List (Option Nat)->Bool
 | []=>false
 | some m::r=>Nat.beq n m||rZ n r
 | none::r=>rZ n r
def t9(fz:List (Nat×Nm)):List (Option Nat)->Bool
 | []=>true
 | none::r=>t9 fz r
 | some m::r=>(Nat.blt m PN||Nat.ble QN m)&&rA m fz && !rZ m r&&t9 fz r
def ye:List (Nat×Nm)->Bool
 | []=>true
 | (n,_)::r=>(Nat.blt n PN||Nat.ble QN n)&&ye r
def kz(b0:Nat):(o:OT)->o.X->List Nat->Nat->List SV
 | .dat t,x,_,_=>cB t x
 | .row _ t,_,_,n=>[.own n t.size]
 | .rowg _ _,_,_,_=>[.junk]
 | .fnc f,_,_,_=>[.fn f []]
 | .ali,_,_,_=>[.ptr b0 0]
 | .ref _ _,_,bx,_=>match bx with
  | q::_=>[.ptr q 0]
  | []=>[.junk]
 | .pair a b,x,bx,n=>kz b0 a x.1 bx n++kz b0 b x.2 (bx.drop a.nb) (n+a.nr)
def jl(b0:Nat):(o:OT)->o.X->List Nat->Nat->List (Nat×Nm)
 | .dat _,_,_,_=>[]
 | .row _ _,_,_,_=>[]
 | .rowg _ _,_,_,_=>[]
 | .fnc _,_,_,_=>[]
 | .ali,_,_,_=>[]
 | .ref E o,x,bx,n=>match bx with
  | q::r=>(q,.live (.cells E (kz b0 o x r n)))::jl b0 o x r n
  | []=>[]
 | .pair a b,x,bx,n=>jl b0 a x.1 bx n++jl b0 b x.2 (bx.drop a.nb) (n+a.nr)
def oW:(o:OT)->o.X->Nat->List (Nat×Nm)
 | .dat _,_,_=>[]
 | .row E t,x,n=>[(n,.live (.row E t x))]
 | .rowg _ _,_,_=>[]
 | .fnc _,_,_=>[]
 | .ali,_,_=>[]
 | .ref _ o,x,n=>oW o x n
 | .pair a b,x,n=>oW a x.1 n++oW b x.2 (n+a.nr)
def iu(b0:Nat):(rs:List RK)->gw rs->Nat->List SV
 | [],_,_=>[]
 | .val t::rs,d,n=>vq t d.1::iu b0 rs d.2 n
 | .agg o::rs,d,n => .agg (kz b0 o d.1 [] n)::iu b0 rs d.2 (n+o.nr)
 | .own E t::rs,d,n => .own n t.size::iu b0 rs d.2 (n+1)
 | .box E o::rs,d,n => .ptr n 0::iu b0 rs d.2 (n+1+o.nr)
 | .fn f k::rs,d,n => .fn f ((iu b0 rs d.2 n).take k)::(iu b0 rs d.2 n).drop k
def jo(b0:Nat):(rs:List RK)->gw rs->Nat->List (Nat×Nm)
 | [],_,_=>[]
 | .val t::rs,d,n=>jo b0 rs d.2 n
 | .agg o::rs,d,n=>oW o d.1 n++jo b0 rs d.2 (n+o.nr)
 | .own E t::rs,d,n=>(n,.live (.row E t d.1))::jo b0 rs d.2 (n+1)
 | .box E o::rs,d,n=>(n,.live (.cells E (kz b0 o d.1 [] (n+1))))::(oW o d.1 (n+1)++jo b0 rs d.2 (n+1+o.nr))
 | .fn _ _::rs,d,n=>jo b0 rs d.2 n
def eI:List RK->Nat
 | []=>0
 | .own _ _::r=>eI r+1
 | .box _ o::r=>eI r+o.nr+1
 | .val _::r=>eI r
 | .agg o::r=>eI r+o.nr
 | .fn _ _::r=>eI r
def gB:List PK->Nat
 | []=>0
 | .val _::r=>gB r
 | .agg _::r=>gB r
 | .own _ _::r=>gB r
 | .ago _::r=>gB r
 | .fn _ _::r=>gB r
 | .nils::r=>gB r
 | .box _ o::r=>gB r+o.nr
 | .row _ _::r=>gB r
def dZ(b0:Nat):(ps:List PK)->d7 ps->List Nat->Nat->List (Nat×Nm)
 | .val _::ps,d,bx,nb=>dZ b0 ps d bx nb
 | .agg _::ps,d,bx,nb=>dZ b0 ps d bx nb
 | .own _ _::ps,d,bx,nb=>dZ b0 ps d bx nb
 | .ago _::ps,d,bx,nb=>dZ b0 ps d bx nb
 | .fn _ _::ps,d,bx,nb=>dZ b0 ps d bx nb
 | .nils::ps,d,bx,nb=>dZ b0 ps d bx nb
 | .box E o::ps,d,n::bx,nb=>(n,.live (.cells E (kz b0 o d.1 bx nb)))::(jl b0 o d.1 bx nb++dZ b0 ps d.2 (bx.drop o.nb) (nb+o.nr))
 | .row E t::ps,d,n::bx,nb=>(n,.live (.row E t d.1))::dZ b0 ps d.2 bx nb
 | _,_,_,_=>[]
def fC:(ps:List PK)->d7 ps->Nat->List (Nat×Nm)
 | [],_,_=>[]
 | .val _::ps,d,nb=>fC ps d nb
 | .agg _::ps,d,nb=>fC ps d nb
 | .own _ _::ps,d,nb=>fC ps d nb
 | .ago _::ps,d,nb=>fC ps d nb
 | .fn _ _::ps,d,nb=>fC ps d nb
 | .nils::ps,d,nb=>fC ps d nb
 | .box E o::ps,d,nb=>oW o d.1 nb++fC ps d.2 (nb+o.nr)
 | .row E t::ps,d,nb=>fC ps d.2 nb
def ly:List (Option Nat)->List (Nat×Nm)
 | []=>[]
 | none::r=>ly r
 | some n::r=>(n,.dead)::ly r
def nL:List SV->SV
 | [v]=>v
 | l => .tup l
def xZ(fz:List (Nat×Nm)):List Nat->Bool
 | []=>true
 | n::r=>rA n fz&&xZ fz r
def nj:Nat->Nat->Dl->Q Dl
 | _,0,d => .ret d
 | n,k+1,d => .ask n fun
  | .un=>nj (n+1) k d
  | _ => .fail
def uh(ps:List PK)(rs:List RK):Bool := !(pS rs&&jB ps)
def qr(ps:List PK)(rs:List RK)(y:gw rs×d7 ps)(base:Nat)(fz:List (Nat×Nm))(bx:List Nat)(cx:List (Option Nat)):List (Nat×Nm) :=
 (dZ (bx.headD 0) ps y.2 bx (base+eI rs)++(jo (bx.headD 0) rs y.1 base++(fC ps y.2 (base+eI rs)++ly cx)))++(match uh ps rs with|true=>fz|false=>[])
def wD(fz:List (Nat×Nm))(bx:List Nat)(cx:List (Option Nat)):Bool:=wX (bx++gK cx)&&xZ fz (bx++gK cx)&&Nat.ble bx.length PN
def Ct.spec(c:Ct):Spec:=fun base svs=>(eZ none c.ps svs).bind fun p=>match wD p.2.1 p.2.2.1 p.2.2.2 with
 | true=>nj base (eI c.rs+gB c.ps) (.det (c.pre p.1) (nL (iu (p.2.2.1.headD 0) c.rs (c.out p.1).1 base)) (qr c.ps c.rs (c.out p.1) base p.2.1 p.2.2.1 p.2.2.2))
 | false => .fail
structure Cn where
 ps:List PK
 rs:List RK
 pre:ar ps->List Prop
 post:ar ps->gw rs×d7 ps->Prop
 inh:∀ d,bc (pre d)→∃ y,post d y
def sR{X:Type}(b0:Nat):(o:OT)->(X->o.X)->List Nat->Nat->List (Nat×(X->Nm))
 | .dat _,_,_,_=>[]
 | .row _ _,_,_,_=>[]
 | .rowg _ _,_,_,_=>[]
 | .fnc _,_,_,_=>[]
 | .ali,_,_,_=>[]
 | .ref E o,x,bx,n=>match bx with
  | q::r=>(q,fun y=>.live (.cells E (kz b0 o (x y) r n)))::sR b0 o x r n
  | []=>[]
 | .pair a b,x,bx,n=>sR b0 a (fun y=>(x y).1) bx n++sR b0 b (fun y=>(x y).2) (bx.drop a.nb) (n+a.nr)
def rf{X:Type}:(o:OT)->(X->o.X)->Nat->List (Nat×(X->Nm))
 | .dat _,_,_=>[]
 | .row E t,x,n=>[(n,fun y=>.live (.row E t (x y)))]
 | .rowg _ _,_,_=>[]
 | .fnc _,_,_=>[]
 | .ali,_,_=>[]
 | .ref _ o,x,n=>rf o x n
 | .pair a b,x,n=>rf a (fun y=>(x y).1) n++rf b (fun y=>(x y).2) (n+a.nr)
def jX{X:Type}(b0:Nat):(ps:List PK)->(X->d7 ps)->List Nat->Nat->List (Nat×(X->Nm))
 | .val _::ps,d,bx,nb=>jX b0 ps d bx nb
 | .agg _::ps,d,bx,nb=>jX b0 ps d bx nb
 | .own _ _::ps,d,bx,nb=>jX b0 ps d bx nb
 | .ago _::ps,d,bx,nb=>jX b0 ps d bx nb
 | .fn _ _::ps,d,bx,nb=>jX b0 ps d bx nb
 | .nils::ps,d,bx,nb=>jX b0 ps d bx nb
 | .box E o::ps,d,n::bx,nb=>(n,fun x=>.live (.cells E (kz b0 o (d x).1 bx nb)))::(sR b0 o (fun x=>(d x).1) bx nb++jX b0 ps (fun x=>(d x).2) (bx.drop o.nb) (nb+o.nr))
 | .row E t::ps,d,n::bx,nb=>(n,fun x=>.live (.row E t (d x).1))::jX b0 ps (fun x=>(d x).2) bx nb
 | _,_,_,_=>[]
def jW{X:Type}:(ps:List PK)->(X->d7 ps)->Nat->List (Nat×(X->Nm))
 | [],_,_=>[]
 | .val _::ps,d,nb=>jW ps d nb
 | .agg _::ps,d,nb=>jW ps d nb
 | .own _ _::ps,d,nb=>jW ps d nb
 | .ago _::ps,d,nb=>jW ps d nb
 | .fn _ _::ps,d,nb=>jW ps d nb
 | .nils::ps,d,nb=>jW ps d nb
 | .box E o::ps,d,nb=>rf o (fun x=>(d x).1) nb++jW ps (fun x=>(d x).2) (nb+o.nr)
 | .row E t::ps,d,nb=>jW ps (fun x=>(d x).2) nb
def nM{X:Type}(b0:Nat):(rs:List RK)->(X->gw rs)->Nat->List (Nat×(X->Nm))
 | [],_,_=>[]
 | .val t::rs,d,n=>nM b0 rs (fun x=>(d x).2) n
 | .agg o::rs,d,n=>rf o (fun x=>(d x).1) n++nM b0 rs (fun x=>(d x).2) (n+o.nr)
 | .own E t::rs,d,n=>(n,fun x=>.live (.row E t (d x).1))::nM b0 rs (fun x=>(d x).2) (n+1)
 | .box E o::rs,d,n=>(n,fun x=>.live (.cells E (kz b0 o (d x).1 [] (n+1))))::(rf o (fun x=>(d x).1) (n+1)++nM b0 rs (fun x=>(d x).2) (n+1+o.nr))
 | .fn _ _::rs,d,n=>nM b0 rs (fun x=>(d x).2) n
def yq{X:Type}:List (Nat×Nm)->List (Nat×(X->Nm))
 | []=>[]
 | (n,b)::r=>(n,fun _=>b)::yq r
def vP(ps:List PK)(rs:List RK)(base:Nat)(fz:List (Nat×Nm))(bx:List Nat)(cx:List (Option Nat)):List (Nat×(gw rs×d7 ps->Nm)) :=
 (jX (bx.headD 0) ps (fun y:gw rs×d7 ps=>y.2) bx (base+eI rs)++(nM (bx.headD 0) rs (fun y:gw rs×d7 ps=>y.1) base++(jW ps (fun y:gw rs×d7 ps=>y.2) (base+eI rs)++yq (ly cx))))++(match uh ps rs with|true=>yq fz|false=>[])
theorem yZ{X:Type}{b0:Nat}(y:X):∀(o:OT)(x:X->o.X)(bx:List Nat)(n:Nat),(sR b0 o x bx n).map (fun p=>(p.1,p.2 y))=jl b0 o (x y) bx n
 | .dat _,_,_,_=>rfl
 | .row _ _,_,_,_=>rfl
 | .rowg _ _,_,_,_=>rfl
 | .fnc _,_,_,_=>rfl
 | .ali,_,_,_=>rfl
 | .ref E o,x,[],n=>rfl
 | .ref E o,x,q::r,n=>by simp only[sR,jl,List.map_cons,yZ y o]
 | .pair a b,x,bx,n=>by simp only[sR,jl,List.map_append,yZ y a,yZ y b]
theorem wx{X:Type}(y:X):∀(o:OT)(x:X->o.X)(n:Nat),(rf o x n).map (fun p=>(p.1,p.2 y))=oW o (x y) n
 | .dat _,_,_=>rfl
 | .row _ _,_,_=>rfl
 | .rowg _ _,_,_=>rfl
 | .fnc _,_,_=>rfl
 | .ali,_,_=>rfl
 | .ref E o,x,n=>by simp only[rf,oW,wx y o]
 | .pair a b,x,n=>by simp only[rf,oW,List.map_append,wx y a,wx y b]
theorem qK{X:Type}{b0:Nat}(x:X):∀(ps:List PK)(d:X->d7 ps)(bx:List Nat)(nb:Nat),(jX b0 ps d bx nb).map (fun p=>(p.1,p.2 x))=dZ b0 ps (d x) bx nb
 | [],_,_,_=>rfl
 | .val _::ps,d,bx,nb=>by simp only[jX,dZ];exact qK x ps d bx nb
 | .agg _::ps,d,bx,nb=>by simp only[jX,dZ];exact qK x ps d bx nb
 | .own _ _::ps,d,bx,nb=>by simp only[jX,dZ];exact qK x ps d bx nb
 | .ago _::ps,d,bx,nb=>by simp only[jX,dZ];exact qK x ps d bx nb
 | .fn _ _::ps,d,bx,nb=>by simp only[jX,dZ];exact qK x ps d bx nb
 | .nils::ps,d,bx,nb=>by simp only[jX,dZ];exact qK x ps d bx nb
 | .box E t::ps,d,[],_=>rfl
 | .row E t::ps,d,[],_=>rfl
 | .box E t::ps,d,n::bx,nb=>by simp only[jX,dZ,List.map_cons,List.map_append,yZ x t,qK x ps]
 | .row E t::ps,d,n::bx,nb=>by simp only[jX,dZ,List.map_cons,qK x ps]
theorem qN{X:Type}(x:X):∀(ps:List PK)(d:X->d7 ps)(nb:Nat),(jW ps d nb).map (fun p=>(p.1,p.2 x))=fC ps (d x) nb
 | [],_,_=>rfl
 | .val _::ps,d,nb=>by simp only[jW,fC];exact qN x ps d nb
 | .agg _::ps,d,nb=>by simp only[jW,fC];exact qN x ps d nb
 | .own _ _::ps,d,nb=>by simp only[jW,fC];exact qN x ps d nb
 | .ago _::ps,d,nb=>by simp only[jW,fC];exact qN x ps d nb
 | .fn _ _::ps,d,nb=>by simp only[jW,fC];exact qN x ps d nb
 | .nils::ps,d,nb=>by simp only[jW,fC];exact qN x ps d nb
 | .box E t::ps,d,nb=>by simp only[jW,fC,List.map_append,wx x t,qN x ps]
 | .row E t::ps,d,nb=>by simp only[jW,fC];exact qN x ps _ nb
theorem wv{X:Type}{b0:Nat}(x:X):∀(rs:List RK)(d:X->gw rs)(n:Nat),(nM b0 rs d n).map (fun p=>(p.1,p.2 x))=jo b0 rs (d x) n
 | [],_,_=>rfl
 | .val t::rs,d,n=>by simp only[nM,jo];exact wv x rs _ n
 | .agg t::rs,d,n=>by simp only[nM,jo,List.map_append,wx x t,wv x rs]
 | .own E t::rs,d,n=>by simp only[nM,jo,List.map_cons,wv x rs]
 | .box E t::rs,d,n=>by simp only[nM,jo,List.map_cons,List.map_append,wx x t,wv x rs]
 | .fn _ _::rs,d,n=>by simp only[nM,jo];exact wv x rs _ n
theorem Du{X:Type}(x:X):∀(l:List (Nat×Nm)),(yq (X:=X) l).map (fun p=>(p.1,p.2 x))=l
 | []=>rfl
 | (n,b)::r=>by simp only[yq,List.map_cons,Du x r]
theorem LJ{ps:List PK}{rs:List RK}{base:Nat}{fz:List (Nat×Nm)}{bx:List Nat}{cx:List (Option Nat)}(y:gw rs×d7 ps):(vP ps rs base fz bx cx).map (fun p=>(p.1,p.2 y))=qr ps rs y base fz bx cx:=by
 unfold vP qr
 simp only[List.map_append,qK,wv,qN,Du]
 cases uh ps rs with
 | true=>simp only[Du]
 | false=>rfl
def uk:(o:OT)->(o.X->Prop)->Prop
 | .dat t,k=>tJ t k
 | .row _ t,k=>∀ x:List t.D,k x
 | .rowg _ _,k=>k ()
 | .fnc _,k=>k ()
 | .ali,k=>k ()
 | .ref _ o,k=>uk o k
 | .pair a b,k=>uk a fun x=>uk b fun y=>k (x,y)
theorem uS:∀{o:OT}{k:o.X->Prop},uk o k→∀ d,k d
 | .dat t,k,h,d=>Aa.1 h d
 | .row _ t,k,h,d=>h d
 | .rowg _ _,k,h,d=>h
 | .fnc _,k,h,d=>h
 | .ali,k,h,d=>h
 | .ref _ o,k,h,d=>uS (o:=o) h d
 | .pair a b,k,h,d=>uS (o:=b) (uS (o:=a) h d.1) d.2
def sX:(rs:List RK)->(gw rs->Prop)->Prop
 | [],k=>k ()
 | .val t::r,k=>tJ t fun x=>sX r fun y=>k (x,y)
 | .agg o::r,k=>uk o fun x=>sX r fun y=>k (x,y)
 | .own _ t::r,k=>∀ x:List t.D,sX r fun y=>k (x,y)
 | .box _ o::r,k=>uk o fun x=>sX r fun y=>k (x,y)
 | .fn _ _::r,k=>sX r fun y=>k ((),y)
theorem we:∀{rs:List RK}{k:gw rs->Prop},sX rs k→∀ d,k d
 | [],k,h,d=>h
 | .val t::r,k,h,d=>we (rs:=r) (Aa.1 h d.1) d.2
 | .agg o::r,k,h,d=>we (rs:=r) (uS (o:=o) h d.1) d.2
 | .own _ t::r,k,h,d=>we (rs:=r) (h d.1) d.2
 | .box _ o::r,k,h,d=>we (rs:=r) (uS (o:=o) h d.1) d.2
 | .fn _ _::r,k,h,d=>we (rs:=r) h d.2
def pT:(ps:List PK)->(d7 ps->Prop)->Prop
 | [],k=>k ()
 | .val _::r,k=>pT r k
 | .agg _::r,k=>pT r k
 | .own _ _::r,k=>pT r k
 | .ago _::r,k=>pT r k
 | .fn _ _::r,k=>pT r k
 | .nils::r,k=>pT r k
 | .box _ o::r,k=>uk o fun x=>pT r fun y=>k (x,y)
 | .row _ t::r,k=>∀ x:List t.D,pT r fun y=>k (x,y)
theorem rg:∀{ps:List PK}{k:d7 ps->Prop},pT ps k→∀ d,k d
 | [],k,h,d=>h
 | .val _::r,k,h,d=>rg (ps:=r) h d
 | .agg _::r,k,h,d=>rg (ps:=r) h d
 | .own _ _::r,k,h,d=>rg (ps:=r) h d
 | .ago _::r,k,h,d=>rg (ps:=r) h d
 | .fn _ _::r,k,h,d=>rg (ps:=r) h d
 | .nils::r,k,h,d=>rg (ps:=r) h d
 | .box _ o::r,k,h,d=>rg (ps:=r) (uS (o:=o) h d.1) d.2
 | .row _ t::r,k,h,d=>rg (ps:=r) (h d.1) d.2
def H1(rs:List RK)(ps:List PK):Qn (gw rs×d7 ps) :=
 ⟨fun k=>sX rs fun y=>pT ps fun z=>k (y,z),fun k h x=>rg (we h x.1) x.2,fun k=>∃ x,k x,fun _ h=>h⟩
def Cn.spec(c:Cn):Spec:=fun base svs=>(eZ none c.ps svs).bind fun p=>match wD p.2.1 p.2.2.1 p.2.2.2 with
 | true=>nj base (eI c.rs+gB c.ps) (.nd (gw c.rs×d7 c.ps) (H1 c.rs c.ps) (c.pre p.1) (c.post p.1) (c.inh p.1) (fun y=>nL (iu (p.2.2.1.headD 0) c.rs y.1 base)) (vP c.ps c.rs base p.2.1 p.2.2.1 p.2.2.2))
 | false => .fail
section
variable {w0:World} {N0:dG} {A A' A1 A2:Nat->Prop} {env env1 env':aL} {h h1:aX} {w w1:World}
theorem sU{a b c:Bool}{p:Prop}(h:(a&&b)=true∨p):a=true∨p:=by
 rcases h with h|h
 ·exact .inl (by simp only[Bool.and_eq_true] at h;exact h.1)
 ·exact .inr h
theorem td{a b:Bool}{p:Prop}(h:(a&&b)=true∨p):b=true∨p:=by
 rcases h with h|h
 ·exact .inl (by simp only[Bool.and_eq_true] at h;exact h.2)
 ·exact .inr h
theorem S9{al:Bool}{t:OT}{rs:List RK}{svs:List SV} {x} (e:kg al (.agg t::rs) svs h1=some x):∃ cs r,svs = .agg cs::r:=by
 cases svs with
 | nil=>cases e
 | cons s r=>cases s <;> first|exact⟨_,_,rfl⟩|cases e
theorem Xk{al:Bool}{E:TypeId}{t:CT}{rs:List RK}{svs:List SV} {x} (e:kg al (.own E t::rs) svs h1=some x):∃ v r,svs=v::r:=by
 cases svs with
 | nil=>cases e
 | cons s r=>exact⟨_,_,rfl⟩
theorem aj7{al:Bool}{E:TypeId}{t:OT}{rs:List RK}{svs:List SV} {x} (e:kg al (.box E t::rs) svs h1=some x):∃ m r,svs = .ptr m 0::r:=by
 cases svs with
 | nil=>cases e
 | cons s r=>cases s <;> first|cases e;done|(rename_i m o;cases o <;> first|exact⟨_,_,rfl⟩|cases e)
theorem SL{al:Bool}{f:FuncId}{k:Nat}{rs:List RK}{svs:List SV} {x} (e:kg al (.fn f k::rs) svs h1=some x):∃ g cs r,svs = .fn g cs::r:=by
 cases svs with
 | nil=>cases e
 | cons s r=>cases s <;> first|exact⟨_,_,_,rfl⟩|cases e
theorem H6{al:Bool}{E:TypeId}{t:OT}{j:Option Nat}{svs:List SV} {x} (e:jJ h1 al (.ref E t) j svs=some x):∃ j0 m r,j=some j0/\svs = .ptr m 0::r:=by
 cases j with
 | none=>cases svs <;> cases e
 | some j0 =>
  cases svs with
  | nil=>cases e
  | cons s r=>cases s <;> first|cases e;done|(rename_i m o;cases o <;> first|exact⟨_,_,_,rfl,rfl⟩|cases e)
theorem Tc{al:Bool}{f:FuncId}{j:Option Nat}{svs:List SV} {x} (e:jJ h1 al (.fnc f) j svs=some x):∃ r,svs = .fn f []::r/\x=((),r,[],[]):=by
 cases svs with
 | nil=>cases e
 | cons s r =>
  cases s <;> first|cases e;done|skip
  rename_i g cs
  cases cs <;> first|cases e;done|skip
  simp only[jJ] at e
  split at e
  ·rename_i hb
   rw[Nat.eq_of_beq_eq_true hb]
   simp only[Option.some.injEq] at e
   exact⟨_,rfl,e.symm⟩
  ·cases e
theorem YY{al:Bool}{E:TypeId}{t:CT}{j:Option Nat}{svs:List SV} {x} (e:jJ h1 al (.rowg E t) j svs=some x):∃ v r,svs=v::r:=by
 cases svs with
 | nil=>cases e
 | cons s r=>exact⟨_,_,rfl⟩
theorem JO{Nc:dG}(m1:aT w Nc A1 env1 h1 w1)(hA:∀ b,A1 b->A2 b){E:TypeId}{t:CT}(L:t.plain=true∨∀ b,A2 b->A' b){cs rest:List SV}{vs:List Value}{ys:List t.D}{on:Option Nat}
  (e:wV E t h1 cs=some (ys,rest,on)) (hd:aB A1 env1 w1 cs vs) :
  ∃ v vr,vs=v::vr/\rest=cs.drop 1/\aB A1 env1 w1 rest vr∧∀(e':aL)(i:Nat),e' i=lC env1 on->af A' e' w1 (.own i t.size) v/\gA A' env1 h1 e' w1 [on] [(i,.live (.row E t ys))] i:=by
 cases cs with
 | nil=>cases e
 | cons s cs =>
 cases s with
 | own n sz =>
  simp only[wV] at e
  split at e
  ·rename_i E' t' xs hl
   split at e
   ·rename_i zs hE hsz hc
    have hE:=Nat.eq_of_beq_eq_true hE
    subst hE
    have hsz:=Nat.eq_of_beq_eq_true hsz
    subst hsz
    obtain⟨et,ez⟩:=gR hc
    subst et
    simp only at ez
    subst ez
    simp only[Option.some.injEq,Prod.mk.injEq] at e
    obtain⟨rfl,rfl,rfl⟩:=e
    simp only[aB,af] at hd
    obtain⟨x,vr,rfl,hv,hr⟩:=hd
    have hm:=m1.nm n
    rw[hl] at hm
    refine⟨x,vr,rfl,rfl,hr,fun e' i he=>⟨?_,⟨rfl,_,rfl,rfl,.inl ⟨n,_,rfl,hl,rfl,fun k len he=>?_,fun he=>?_⟩⟩,trivial⟩⟩
    ·simp only[lC] at he
     simp only[af]
     rw[he];exact hv
    ·rcases hm with⟨k',len',he',hb,_⟩|⟨he',_⟩
     ·rw[he] at he';cases he'
      obtain⟨us,cap,g1,g2,g3,g4,g5,g6⟩:=hb
      exact⟨us,cap,g1,g2,g3,g4,g5,fun i hi=>BA L (fA hA (fun _ _ _=>rfl) _ _ _ _ _ (fun _ _=>rfl) (g6 i hi))⟩
     ·rw[he] at he';cases he'
    ·rcases hm with⟨k',len',he',hb,_⟩|⟨he',E2,t2,hb⟩
     ·rw[he] at he';cases he'
     ·rcases hb with hb|hb <;> cases hb
      exact⟨_,_,rfl⟩
   ·cases e
  ·cases e
 | nilsl =>
  simp only[wV,Option.some.injEq,Prod.mk.injEq] at e
  obtain⟨rfl,rfl,rfl⟩:=e
  simp only[aB,af] at hd
  obtain⟨x,vr,rfl,rfl,hr⟩:=hd
  refine⟨_,vr,rfl,rfl,hr,fun e' i he=>⟨?_,⟨rfl,_,rfl,rfl,.inr ⟨rfl,_,_,rfl⟩⟩,trivial⟩⟩
  simp only[af]
  exact .inl ⟨he,_,rfl⟩
 | _=>cases e
def mE(A':Nat->Prop)(env1:aL)(h1:aX)(env':aL)(w1:World)(bx:List Nat)(j:Nat)(n:Nat)(x:Nm):Prop :=
 ∃ i b b0,bx[i]? = some n/\x = .live b/\b.mut=true/\h1 (PN+(j+i)) = .live b0/\b0.mut=true/\(∀ k len,env1 (PN+(j+i)) = .blk k len->gY A' env' w1 k len b)/\(env1 (PN+(j+i)) = .nil→∃ E t,b = .row E t [])
theorem mE.shift{pre bx:List Nat}{j n:Nat}{x:Nm}(h:mE A' env1 h1 env' w1 bx (j+pre.length) n x):mE A' env1 h1 env' w1 (pre++bx) j n x:=by
 obtain⟨i,b,b0,g1,g2,g3,g4,g5,g6,g7⟩:=h
 rw[show j+pre.length+i=j+(pre.length+i) from by omega] at g4 g6 g7
 exact⟨pre.length+i,b,b0,by rw[List.getElem?_append_right (by omega),Nat.add_sub_cancel_left];exact g1,g2,g3,g4,g5,g6,g7⟩
theorem mE.grow{bx post:List Nat}{j n:Nat}{x:Nm}(h:mE A' env1 h1 env' w1 bx j n x):mE A' env1 h1 env' w1 (bx++post) j n x:=by
 obtain⟨i,b,b0,g1,g2⟩:=h
 exact⟨i,b,b0,by rw[List.getElem?_append_left (List.getElem?_eq_some_iff.1 g1).1];exact g1,g2⟩
theorem Dk{al:Bool}:∀(o:OT)(cs:List SV) {x},jJ h1 al o none cs=some x->o.nb=0
 | .dat t,_,_,_=>rfl
 | .row _ t,_,_,_=>rfl
 | .rowg _ t,_,_,_=>rfl
 | .fnc _,_,_,_=>rfl
 | .ali,_,_,_=>rfl
 | .ref _ o,cs,x,e=>by obtain⟨j0,m,r,hj,-⟩:=H6 e;cases hj
 | .pair a b,cs,x,e=>by
  simp only[jJ] at e
  split at e
  ·rename_i h1'
   split at e
   ·rename_i h2'
    have k1:=Dk a _ h1'
    have k2:=Dk b _ h2'
    simp only[OT.nb];omega
   ·cases e
  ·cases e
theorem Wi{al:Bool}{j:Option Nat}{svs:List SV} {x} (e:jJ h1 al .ali j svs=some x):∃ r,svs = .ptr PN 0::r/\al=true/\x=((),r,[],[]):=by
 cases svs with
 | nil=>cases e
 | cons s r =>
  cases s with
  | ptr m off=>cases off with
   | zero =>
    have e:(match (generalizing:=false) al,Nat.beq m PN with|true,true=>(some ((),r,[],[]):Option (Unit×List SV×List (Nat×Nm)×List (Option Nat)))|_,_=>none)=some x:=by
     cases j <;> exact e
    cases hb:Nat.beq m PN with
    | false=>rw[hb] at e;cases al <;> cases e
    | true =>
     rw[hb] at e
     cases al with
     | false=>cases e
     | true =>
      simp only[Option.some.injEq] at e
      exact⟨r,by rw[Nat.eq_of_beq_eq_true hb],rfl,e.symm⟩
   | succ k=>cases e
  | _=>cases e
theorem wb{al:Bool}{Nc:dG}(m1:aT w Nc A1 env1 h1 w1)(hA:∀ b,A1 b->A2 b)(b0:Nat):∀(o:OT)(j:Option Nat)(cs:List SV)(vs:List Value)(x:o.X)(rest:List SV)(fz:List (Nat×Nm))(ow:List (Option Nat))(bx more:List Nat)(n:Nat),
  jJ h1 al o j cs=some (x,rest,fz,ow)->aB A1 env1 w1 cs vs->(∀ k,fh env1 fz k->A2 k)->(o.plain=true∨∀ b,A2 b->A' b)->(j=none∨bx.length=o.nb) →
  lE h1 fz/\ow.length=o.nr∧∃ us rs,vs=us++rs/\aB A1 env1 w1 rest rs ∧
   ((al=true->env' b0=env1 PN)->(∀ k q,ow[k]? = some q->env' (n+k)=lC env1 q)->(∀ j0 k q,j=some j0->bx[k]? = some q->env' q=env1 (PN+(j0+k))) →
     aB A' env' w1 (kz b0 o x (bx++more) n) us/\gA A' env1 h1 env' w1 ow (oW o x n) n/\(∀ q y,(q,y)∈jl b0 o x (bx++more) n→∃ j0,j=some j0/\mE A' env1 h1 env' w1 bx j0 q y) ∧
     (j≠none→∀ q,q∈bx->q∈(jl b0 o x (bx++more) n).map (·.1)))
 | .dat t,j,cs,vs,x,rest,fz,ow,bx,more,n,e,hd,hF,L,hbl=>by
  simp only[jJ] at e
  split at e
  ·rename_i x1 r1 f1 q1 hp
   simp only[Option.some.injEq,Prod.mk.injEq] at e
   obtain⟨rfl,rfl,rfl,rfl⟩:=e
   obtain⟨p1,p2,p3,p4,p5⟩:=ot m1 t cs vs x1 r1 f1 _ hp hd hA hF
   refine⟨p1,rfl,vs.take t.size,vs.drop t.size,(List.take_append_drop _ _).symm,p5,fun _ _ _=>⟨?_,trivial,fun q y hh=>by simp[jl] at hh,fun hj q hq=>?_⟩⟩
   ·simp only[kz]
    refine Bf (by rw[List.length_take];omega) (BA L ?_)
    refine fA (fun _ h=>h) (fun _ _ _=>rfl) t _ _ _ _ (fun k hk=>?_) p4
    simp only[Nat.zero_add,List.getElem?_take]
    rw[if_pos hk]
   ·rcases hbl with hbl|hbl
    ·exact absurd hbl hj
    ·rw[List.length_eq_zero_iff.1 hbl] at hq;cases hq
  ·cases e
 | .row E t,j,cs,vs,x,rest,fz,ow,bx,more,n,e,hd,hF,L,hbl=>by
  simp only[jJ] at e
  split at e
  ·rename_i x1 r1 o1 hp
   simp only[Option.some.injEq,Prod.mk.injEq] at e
   obtain⟨rfl,rfl,rfl,rfl⟩:=e
   obtain⟨v,vr,rfl,-,p2,p3⟩:=JO (A':=A') m1 hA L hp hd
   refine⟨fun n b hh=>by simp at hh,rfl,[v],vr,rfl,p2,fun _ ho _=>?_⟩
   obtain⟨k1,k2⟩:=p3 env' n (ho 0 _ rfl)
   refine⟨?_,k2,fun q y hh=>by simp[jl] at hh,fun hj q hq=>?_⟩
   ·simp only[kz,aB];exact⟨v,[],rfl,k1,rfl⟩
   ·rcases hbl with hbl|hbl
    ·exact absurd hbl hj
    ·rw[List.length_eq_zero_iff.1 hbl] at hq;cases hq
  ·cases e
 | .rowg E t,j,cs0,vs,x,rest,fz,ow,bx,more,n,e,hd,hF,L,hbl=>by
  obtain⟨v,cs,rfl⟩:=YY e
  simp only[jJ,Option.some.injEq,Prod.mk.injEq] at e
  obtain⟨-,rfl,rfl,rfl⟩:=e
  simp only[aB] at hd
  obtain⟨u,vr,rfl,hu,hvr⟩:=hd
  refine⟨fun n b hh=>by simp at hh,rfl,[u],vr,rfl,hvr,fun _ ho _=>⟨?_,trivial,fun q y hh=>by simp[jl] at hh,fun hj q hq=>?_⟩⟩
  ·simp only[kz,aB,af];exact⟨u,[],rfl,trivial,rfl⟩
  ·rcases hbl with hbl|hbl
   ·exact absurd hbl hj
   ·rw[List.length_eq_zero_iff.1 hbl] at hq;cases hq
 | .fnc f,j,cs0,vs,x,rest,fz,ow,bx,more,n,e,hd,hF,L,hbl=>by
  obtain⟨cs,rfl,e2⟩:=Tc e
  simp only[Prod.mk.injEq] at e2
  obtain⟨-,rfl,rfl,rfl⟩:=e2
  simp only[aB] at hd
  obtain⟨u,vr,rfl,hu,hvr⟩:=hd
  refine⟨fun n b hh=>by simp at hh,rfl,[u],vr,rfl,hvr,fun _ ho _=>⟨?_,trivial,fun q y hh=>by simp[jl] at hh,fun hj q hq=>?_⟩⟩
  ·simp only[kz,aB]
   simp only[af,aB] at hu
   refine⟨u,[],rfl,?_,rfl⟩
   simp only[af,aB]
   exact hu
  ·rcases hbl with hbl|hbl
   ·exact absurd hbl hj
   ·rw[List.length_eq_zero_iff.1 hbl] at hq;cases hq
 | .ali,j,cs0,vs,x,rest,fz,ow,bx,more,n,e,hd,hF,L,hbl=>by
  obtain⟨cs,rfl,hj0,e2⟩:=Wi e
  simp only[Prod.mk.injEq] at e2
  obtain⟨-,rfl,rfl,rfl⟩:=e2
  simp only[aB,af] at hd
  obtain⟨u,vr,rfl,⟨k,len,hek,rfl⟩,hvr⟩:=hd
  refine⟨fun n b hh=>by simp at hh,rfl,[_],vr,rfl,hvr,fun hb0 ho _=>⟨?_,trivial,fun q y hh=>by simp[jl] at hh,fun hj q hq=>?_⟩⟩
  ·simp only[kz,aB,af]
   exact⟨_,[],rfl,⟨k,len,by rw[hb0 hj0];exact hek,rfl⟩,rfl⟩
  ·rcases hbl with hbl|hbl
   ·exact absurd hbl hj
   ·rw[List.length_eq_zero_iff.1 hbl] at hq;cases hq
 | .ref E o,j,cs0,vs,x,rest,fz,ow,bx,more,n,e,hd,hF,L,hbl=>by
  obtain⟨j0,m,cs,rfl,rfl⟩:=H6 e
  simp only[jJ] at e
  split at e
  ·rename_i E' cs' hm hl
   have hm:=Nat.eq_of_beq_eq_true hm
   subst hm
   split at e
   ·rename_i x1 f1 w1' hE hp
    have hE:=Nat.eq_of_beq_eq_true hE
    subst hE
    simp only[Option.some.injEq,Prod.mk.injEq] at e
    obtain⟨rfl,rfl,rfl,rfl⟩:=e
    simp only[aB,af] at hd
    obtain⟨u,vr,rfl,⟨kb,lb,hkb,rfl⟩,hvr⟩:=hd
    obtain⟨⟨us,hus,hdu⟩,_⟩:=m1.live_blk hl hkb
    cases bx with
    | nil=>rcases hbl with hbl|hbl <;> cases hbl
    | cons q0 bx =>
    have hbl':bx.length=o.nb:=by
     rcases hbl with hbl|hbl
     ·cases hbl
     ·simpa[OT.nb] using hbl
    obtain⟨s1,s2,us',rs',s5,s6,s7⟩:=wb m1 hA b0 o (some (j0+1)) cs' us.toList x1 [] f1 w1' bx more n hp hdu hF L (.inr hbl')
    simp only[aB] at s6
    subst s6
    rw[List.append_nil] at s5
    subst s5
    refine⟨s1,s2,[_],vr,rfl,hvr,fun h0b ho hb=>?_⟩
    have h0:=hb j0 0 q0 rfl rfl
    rw[Nat.add_zero] at h0
    obtain⟨k1,k2,k3,k4⟩:=s7 h0b ho (fun j1 k q hj hq=>by
     cases hj
     have:=hb j0 (k+1) q rfl (by simpa using hq)
     rwa [show j0+(k+1)=j0+1+k from by omega] at this)
    refine⟨?_,k2,fun q y hh=>?_,fun _ q hq=>?_⟩
    ·simp only[kz,List.cons_append,aB,af]
     exact⟨_,[],rfl,⟨kb,lb,by rw[h0];exact hkb,rfl⟩,rfl⟩
    ·simp only[jl,List.cons_append] at hh
     rcases List.mem_cons.1 hh with hh|hh
     ·cases hh
      refine⟨j0,rfl,0,_,_,rfl,rfl,rfl,hl,rfl,fun k len he=>?_,fun he=>?_⟩
      ·rw[Nat.add_zero,hkb] at he;cases he
       exact⟨us,hus,k1⟩
      ·rw[Nat.add_zero,hkb] at he;cases he
     ·obtain⟨j1,hj1,hbx⟩:=k3 q y hh
      cases hj1
      exact⟨j0,rfl,mE.shift (pre:=[q0]) hbx⟩
    ·simp only[jl,List.cons_append,List.map_cons]
     rcases List.mem_cons.1 hq with rfl|hq
     ·exact List.mem_cons_self ..
     ·exact List.mem_cons_of_mem _ (k4 (by simp) q hq)
   ·cases e
  ·cases e
 | .pair a b,j,cs,vs,x,rest,fz,ow,bx,more,n,e,hd,hF,L,hbl=>by
  simp only[jJ] at e
  split at e
  ·rename_i x1 r1 f1 o1 h1'
   split at e
   ·rename_i x2 r2 f2 o2 h2'
    simp only[Option.some.injEq,Prod.mk.injEq] at e
    obtain⟨rfl,rfl,rfl,rfl⟩:=e
    have hF1:∀ k,fh env1 f1 k->A2 k:=fun k ⟨n,x,l,hx,he⟩=>hF k ⟨n,x,l,List.mem_append_left _ hx,he⟩
    have hF2:∀ k,fh env1 f2 k->A2 k:=fun k ⟨n,x,l,hx,he⟩=>hF k ⟨n,x,l,List.mem_append_right _ hx,he⟩
    have La:a.plain=true∨∀ b,A2 b->A' b:=sU (c:=true) L
    have Lb:b.plain=true∨∀ b,A2 b->A' b:=td L
    have hla:j=none∨(bx.take a.nb).length=a.nb:=by
     rcases hbl with hbl|hbl
     ·exact .inl hbl
     ·simp only[OT.nb] at hbl
      exact .inr (by rw[List.length_take];omega)
    have hlb:j.map (· + a.nb)=none∨(bx.drop a.nb).length=b.nb:=by
     rcases hbl with hbl|hbl
     ·exact .inl (by rw[hbl];rfl)
     ·simp only[OT.nb] at hbl
      exact .inr (by rw[List.length_drop];omega)
    obtain⟨s1,s2,us,rs,rfl,s6,s7⟩:=wb m1 hA b0 a j cs vs x1 r1 f1 o1 (bx.take a.nb) (bx.drop a.nb++more) n h1' hd hF1 La hla
    obtain⟨t1,t2,us',rs',rfl,t6,t7⟩:=wb m1 hA b0 b (j.map (· + a.nb)) r1 rs x2 r2 f2 o2 (bx.drop a.nb) more (n+a.nr) h2' s6 hF2 Lb hlb
    refine⟨fun n b hh=>?_,by simp only[List.length_append,s2,t2,OT.nr],us++us',rs',by rw[List.append_assoc],t6,fun h0b ho hb=>?_⟩
    ·rcases List.mem_append.1 hh with hh|hh
     ·exact s1 n b hh
     ·exact t1 n b hh
    have eb:bx.take a.nb++(bx.drop a.nb++more)=bx++more:=by rw[← List.append_assoc,List.take_append_drop]
    obtain⟨k1,k2,k3,k4⟩:=s7 h0b (fun k q hq=>ho k q (by rw[List.getElem?_append_left (List.getElem?_eq_some_iff.1 hq).1];exact hq))
     (fun j0 k q hj hq=>by
      refine hb j0 k q hj ?_
      rw[List.getElem?_take] at hq
      split at hq
      ·exact hq
      ·cases hq)
    obtain⟨l1,l2,l3,l4⟩:=t7 h0b (fun k q hq=>by
      have:=ho (a.nr+k) q (by rw[List.getElem?_append_right (by omega),s2,Nat.add_sub_cancel_left];exact hq)
      rwa [show n+(a.nr+k)=n+a.nr+k from by omega] at this)
     (fun j1 k q hj hq=>by
      cases j with
      | none=>cases hj
      | some j0 =>
       simp only[Option.map_some,Option.some.injEq] at hj
       subst hj
       rw[List.getElem?_drop] at hq
       have:=hb j0 (a.nb+k) q rfl hq
       rwa [show j0+(a.nb+k)=j0+a.nb+k from by omega] at this)
    rw[eb] at k1 k3 k4
    have ed:(bx++more).drop a.nb=bx.drop a.nb++more:=by
     rcases hbl with hbl|hbl
     ·subst hbl
      rw[Dk a _ h1',List.drop_zero,List.drop_zero]
     ·simp only[OT.nb] at hbl
      rw[List.drop_append_of_le_length (by omega)]
    have tl:∀ j0,j=some j0->(bx.take a.nb).length=a.nb:=fun j0 hj=>by
     rcases hla with h|h
     ·rw[hj] at h;cases h
     ·exact h
    rw[← ed] at l1 l3 l4
    simp only[kz,jl,oW]
    refine⟨pn k1 l1,k2.append (by rw[s2];exact l2),fun q y hh=>?_,fun hj q hq=>?_⟩
    ·rcases List.mem_append.1 hh with hh|hh
     ·obtain⟨j0,hj,hx⟩:=k3 q y hh
      refine⟨j0,hj,?_⟩
      have:=hx.grow (post:=bx.drop a.nb)
      rwa [List.take_append_drop] at this
     ·obtain⟨j1,hj1,hx⟩:=l3 q y hh
      cases j with
      | none=>cases hj1
      | some j0 =>
       simp only[Option.map_some,Option.some.injEq] at hj1
       subst hj1
       refine⟨j0,rfl,?_⟩
       have:=mE.shift (pre:=bx.take a.nb) (bx:=bx.drop a.nb) (j:=j0) (n:=q) (x:=y) (by rw[tl j0 rfl];exact hx)
       rwa [List.take_append_drop] at this
    ·rw[List.map_append]
     rw[← List.take_append_drop a.nb bx] at hq
     rcases List.mem_append.1 hq with hq|hq
     ·exact List.mem_append_left _ (k4 hj q hq)
     ·exact List.mem_append_right _ (l4 (by cases j with|none=>exact absurd rfl hj|some j0=>simp) q hq)
   ·cases e
  ·cases e
theorem z5{b0:Nat}:∀{o:OT}{x:o.X}{bx more:List Nat}{n:Nat},bx.length=o.nb→∀ q,q∈bx->q∈(jl b0 o x (bx++more) n).map (·.1)
 | .dat _,x,bx,more,n,hl,q,hq=>by rw[List.length_eq_zero_iff.1 hl] at hq;cases hq
 | .row _ _,x,bx,more,n,hl,q,hq=>by rw[List.length_eq_zero_iff.1 hl] at hq;cases hq
 | .rowg _ _,x,bx,more,n,hl,q,hq=>by rw[List.length_eq_zero_iff.1 hl] at hq;cases hq
 | .fnc _,x,bx,more,n,hl,q,hq=>by rw[List.length_eq_zero_iff.1 hl] at hq;cases hq
 | .ali,x,bx,more,n,hl,q,hq=>by rw[List.length_eq_zero_iff.1 hl] at hq;cases hq
 | .ref E o,x,[],more,n,hl,q,hq=>by cases hq
 | .ref E o,x,q0::bx,more,n,hl,q,hq=>by
  simp only[List.cons_append,jl,List.map_cons]
  rcases List.mem_cons.1 hq with rfl|hq
  ·exact List.mem_cons_self ..
  ·exact List.mem_cons_of_mem _ (z5 (o:=o) (by simpa[OT.nb] using hl) q hq)
 | .pair a b,x,bx,more,n,hl,q,hq=>by
  simp only[OT.nb] at hl
  simp only[jl,List.map_append]
  rw[← List.take_append_drop a.nb bx] at hq
  have e1:bx++more=bx.take a.nb++(bx.drop a.nb++more):=by rw[← List.append_assoc,List.take_append_drop]
  rcases List.mem_append.1 hq with hq|hq
  ·refine List.mem_append_left _ ?_
   rw[e1]
   exact z5 (o:=a) (by rw[List.length_take];omega) q hq
  ·refine List.mem_append_right _ ?_
   rw[List.drop_append_of_le_length (by omega)]
   exact z5 (o:=b) (by rw[List.length_drop];omega) q hq
theorem sP{al:Bool}{Nc:dG}(m1:aT w Nc A1 env1 h1 w1)(hA:∀ b,A1 b->A2 b)(b0:Nat):∀(rs:List RK)(d:gw rs)(svs:List SV)(vs:List Value)(fz:List (Nat×Nm))(ow:List (Option Nat))(n:Nat),
  kg al rs svs h1=some (d,fz,ow)->aB A1 env1 w1 svs vs->(∀ k,fh env1 fz k->A2 k)->(pS rs=true∨∀ b,A2 b->A' b) →
  lE h1 fz/\ow.length=eI rs/\((al=true->env' b0=env1 PN)->(∀ i o,ow[i]? = some o->env' (n+i)=lC env1 o)->aB A' env' w1 (iu b0 rs d n) vs/\gA A' env1 h1 env' w1 ow (jo b0 rs d n) n)
 | [],d,[],vs,fz,ow,n,e,hd,hF,L=>by
  simp only[kg,Option.some.injEq,Prod.mk.injEq] at e
  obtain⟨-,rfl,rfl⟩:=e
  exact⟨fun n b hh=>by simp at hh,rfl,fun _ _=>⟨by simpa[iu,aB] using hd,trivial⟩⟩
 | .val t::rs,d,v::svs,vs,fz,ow,n,e,hd,hF,L=>by
  simp only[kg] at e
  split at e
  ·rename_i x f1 q hp
   split at e
   ·rename_i ps f2 o hr
    simp only[Option.some.injEq,Prod.mk.injEq] at e
    obtain⟨rfl,rfl,rfl⟩:=e
    simp only[aB] at hd
    obtain⟨u,vr,rfl,hu,hvr⟩:=hd
    have hF1:∀ k,fh env1 f1 k->A2 k:=fun k ⟨n,x,l,hx,he⟩=>hF k ⟨n,x,l,List.mem_append_left _ hx,he⟩
    have hF2:∀ k,fh env1 f2 k->A2 k:=fun k ⟨n,x,l,hx,he⟩=>hF k ⟨n,x,l,List.mem_append_right _ hx,he⟩
    obtain⟨p1,_,p3,p4,_⟩:=ot m1 t [v] [u] x [] f1 _ hp (by simp only[aB];exact⟨u,[],rfl,hu,rfl⟩) hA hF1
    obtain⟨s1,s2,s3⟩:=sP m1 hA b0 rs ps svs vr f2 o n hr hvr hF2 (td L)
    refine⟨fun n b hh=>?_,s2,fun hal he=>?_⟩
    ·rcases List.mem_append.1 hh with hh|hh
     ·exact p1 n b hh
     ·exact s1 n b hh
    ·obtain⟨k1,k2⟩:=s3 hal he
     refine⟨?_,k2⟩
     simp only[iu,aB]
     exact⟨u,vr,rfl,FJ (rest:=[]) (BA (sU (c:=true) L) p4),k1⟩
   ·cases e
  ·cases e
 | .agg t::rs,d,svs0,vs,fz,ow,n,e,hd,hF,L=>by
  obtain⟨cs,svs,rfl⟩:=S9 e
  simp only[kg] at e
  split at e
  ·rename_i x f1 w' hp
   split at e
   ·rename_i ps f2 o hr
    simp only[Option.some.injEq,Prod.mk.injEq] at e
    obtain⟨rfl,rfl,rfl⟩:=e
    simp only[aB,af] at hd
    obtain⟨u,vr,rfl,⟨us,rfl,hu⟩,hvr⟩:=hd
    have hF1:∀ k,fh env1 f1 k->A2 k:=fun k ⟨n,x,l,hx,he⟩=>hF k ⟨n,x,l,List.mem_append_left _ hx,he⟩
    have hF2:∀ k,fh env1 f2 k->A2 k:=fun k ⟨n,x,l,hx,he⟩=>hF k ⟨n,x,l,List.mem_append_right _ hx,he⟩
    obtain⟨p1,p2,us',rs',p3,p4,p5⟩:=wb (env':=env') m1 hA b0 t none cs us.toList x [] f1 w' [] [] n hp hu hF1 (sU (c:=true) L) (.inl rfl)
    simp only[aB] at p4
    subst p4
    rw[List.append_nil] at p3
    subst p3
    obtain⟨s1,s2,s3⟩:=sP m1 hA b0 rs ps svs vr f2 o (n+t.nr) hr hvr hF2 (td L)
    refine⟨fun n b hh=>?_,by simp only[List.length_append,p2,s2,eI];omega,fun hal he=>?_⟩
    ·rcases List.mem_append.1 hh with hh|hh
     ·exact p1 n b hh
     ·exact s1 n b hh
    ·obtain⟨l1,l2,_⟩:=p5 hal (fun k q hq=>he k q (by rw[List.getElem?_append_left (List.getElem?_eq_some_iff.1 hq).1];exact hq)) (fun j0 k q hj _=>by cases hj)
     obtain⟨k1,k2⟩:=s3 hal (fun k q hq=>by
      have:=he (t.nr+k) q (by rw[List.getElem?_append_right (by omega),p2,Nat.add_sub_cancel_left];exact hq)
      rwa [show n+(t.nr+k)=n+t.nr+k from by omega] at this)
     simp only[iu,jo,aB,af]
     exact⟨⟨_,vr,rfl,⟨us,rfl,l1⟩,k1⟩,l2.append (by rw[p2];exact k2)⟩
   ·cases e
  ·cases e
 | .own E t::rs,d,svs0,vs,fz,ow,n,e,hd,hF,L=>by
  obtain⟨v,svs,rfl⟩:=Xk e
  simp only[kg] at e
  split at e
  ·rename_i x r1 w' hp
   split at e
   ·rename_i ps f2 o hr
    simp only[Option.some.injEq,Prod.mk.injEq] at e
    obtain⟨rfl,rfl,rfl⟩:=e
    simp only[aB] at hd
    obtain⟨u,vr,rfl,hu,hvr⟩:=hd
    obtain⟨v',vr',p1,-,-,p3⟩:=JO (A':=A') m1 hA (sU (c:=true) L) hp (vs:=[u]) (by simp only[aB];exact⟨u,[],rfl,hu,rfl⟩)
    cases p1
    obtain⟨s1,s2,s3⟩:=sP m1 hA b0 rs ps svs vr f2 o (n+1) hr hvr hF (td L)
    refine⟨s1,by simp only[List.length_cons,s2,eI],fun hal he=>?_⟩
    obtain⟨l1,l2⟩:=p3 env' n (he 0 _ rfl)
    obtain⟨k1,k2⟩:=s3 hal (fun k q hq=>by have:=he (k+1) q (by simpa using hq);rwa [show n+(k+1)=n+1+k from by omega] at this)
    simp only[iu,jo,aB]
    exact⟨⟨u,vr,rfl,l1,k1⟩,l2.1,k2⟩
   ·cases e
  ·cases e
 | .box E t::rs,d,svs0,vs,fz,ow,n,e,hd,hF,L=>by
  obtain⟨q,svs,rfl⟩:=aj7 e
  simp only[kg] at e
  split at e
  ·rename_i E' cs hl
   split at e
   ·rename_i x f1 w' hE hp
    have hE:=Nat.eq_of_beq_eq_true hE
    subst hE
    split at e
    ·rename_i ps f2 o hr
     simp only[Option.some.injEq,Prod.mk.injEq] at e
     obtain⟨rfl,rfl,rfl⟩:=e
     simp only[aB,af] at hd
     obtain⟨u,vr,rfl,⟨kb,lb,hkb,rfl⟩,hvr⟩:=hd
     obtain⟨⟨us,hus,hdu⟩,_⟩:=m1.live_blk hl hkb
     have hF1:∀ k,fh env1 f1 k->A2 k:=fun k ⟨n,x,l,hx,he⟩=>hF k ⟨n,x,l,List.mem_append_left _ hx,he⟩
     have hF2:∀ k,fh env1 f2 k->A2 k:=fun k ⟨n,x,l,hx,he⟩=>hF k ⟨n,x,l,List.mem_append_right _ hx,he⟩
     obtain⟨p1,p2,us',rs',p3,p4,p5⟩:=wb (env':=env') m1 hA b0 t none cs us.toList x [] f1 w' [] [] (n+1) hp hdu hF1 (sU (c:=true) L) (.inl rfl)
     simp only[aB] at p4
     subst p4
     rw[List.append_nil] at p3
     subst p3
     obtain⟨s1,s2,s3⟩:=sP m1 hA b0 rs ps svs vr f2 o (n+1+t.nr) hr hvr hF2 (td L)
     refine⟨fun n b hh=>?_,by simp only[List.length_cons,List.length_append,p2,s2,eI];omega,fun hal he=>?_⟩
     ·rcases List.mem_append.1 hh with hh|hh
      ·exact p1 n b hh
      ·exact s1 n b hh
     ·have h0:=he 0 (some q) rfl
      simp only[Nat.add_zero,lC] at h0
      have he':∀ k q',(w'++o)[k]? = some q'→env' (n+1+k)=lC env1 q':=fun k q' hq=>by
       have:=he (k+1) q' (by simpa using hq);rwa [show n+(k+1)=n+1+k from by omega] at this
      obtain⟨l1,l2,_⟩:=p5 hal (fun k q hq=>he' k q (by rw[List.getElem?_append_left (List.getElem?_eq_some_iff.1 hq).1];exact hq)) (fun j0 k q hj _=>by cases hj)
      obtain⟨k1,k2⟩:=s3 hal (fun k q hq=>by
       have:=he' (t.nr+k) q (by rw[List.getElem?_append_right (by omega),p2,Nat.add_sub_cancel_left];exact hq)
       rwa [show n+1+(t.nr+k)=n+1+t.nr+k from by omega] at this)
      simp only[iu,jo,aB,af]
      refine⟨⟨_,vr,rfl,⟨kb,lb,by rw[h0];exact hkb,rfl⟩,k1⟩,⟨rfl,_,rfl,rfl,.inl ⟨q,_,rfl,hl,rfl,fun k len hk=>?_,fun hk=>?_⟩⟩,l2.append (by rw[p2];exact k2)⟩
      ·rw[hkb] at hk;cases hk
       exact⟨us,hus,l1⟩
      ·rw[hkb] at hk;cases hk
    ·cases e
   ·cases e
  ·cases e
 | .fn f k::rs,d,svs0,vs,fz,ow,n,e,hd,hF,L=>by
  obtain⟨g,cs,svs,rfl⟩:=SL e
  simp only[kg] at e
  split at e
  ·rename_i hf hk
   have hf:=Nat.eq_of_beq_eq_true hf
   have hk:=Nat.eq_of_beq_eq_true hk
   subst hf
   split at e
   ·rename_i ps f2 o hr
    simp only[Option.some.injEq,Prod.mk.injEq] at e
    obtain⟨rfl,rfl,rfl⟩:=e
    simp only[aB,af] at hd
    obtain⟨x,vr,rfl,⟨us,rfl,hu⟩,hvr⟩:=hd
    have hul:=f9 hu
    obtain⟨s1,s2,s3⟩:=sP m1 hA b0 rs ps (cs++svs) (us.toList++vr) f2 o n hr (pn hu hvr) hF L
    refine⟨s1,s2,fun hal he=>?_⟩
    obtain⟨k1,k2⟩:=s3 hal he
    refine⟨?_,k2⟩
    simp only[iu,aB,af]
    refine⟨_,vr,rfl,⟨us,rfl,?_⟩,?_⟩
    ·have:=yy k k1
     rwa [List.take_left' (by omega)] at this
    ·have:=xI k k1
     rwa [List.drop_left' (by omega)] at this
   ·cases e
  ·cases e
 | [],_,_::_,_,_,_,_,e,_,_,_=>by cases e
 | .val _::_,_,[],_,_,_,_,e,_,_,_=>by cases e
def gq:List PK->Nat
 | []=>0
 | .val _::r=>gq r
 | .agg _::r=>gq r
 | .own _ _::r=>gq r
 | .ago _::r=>gq r
 | .fn _ _::r=>gq r
 | .nils::r=>gq r
 | .box _ o::r=>o.nb+gq r+1
 | .row _ _::r=>gq r+1
theorem zh:∀{o:OT}{d:o.D}{j i:Nat},(oz o d j i).length=o.nb
 | .dat _,_,_,_=>rfl
 | .row _ _,_,_,_=>rfl
 | .rowg _ _,_,_,_=>rfl
 | .fnc _,_,_,_=>rfl
 | .ali,_,_,_=>rfl
 | .ref _ o,d,j,i=>by simp only[oz,List.length_cons,zh (o:=o),OT.nb]
 | .pair a b,d,j,i=>by simp only[oz,List.length_append,zh (o:=a),zh (o:=b),OT.nb]
theorem qZ:∀{ps:List PK}{d:ar ps}{j i:Nat},(mI ps d j i).length=gq ps
 | [],_,_,_=>rfl
 | .val t::ps,d,j,i=>qZ (ps:=ps)
 | .agg t::ps,d,j,i=>qZ (ps:=ps)
 | .own _ t::ps,d,j,i=>qZ (ps:=ps)
 | .ago _::ps,d,j,i=>qZ (ps:=ps)
 | .fn _ _::ps,d,j,i=>qZ (ps:=ps)
 | .nils::ps,d,j,i=>qZ (ps:=ps)
 | .box E o::ps,d,j,i=>by simp only[mI,List.length_cons,List.length_append,zh,qZ (ps:=ps),gq]
 | .row E t::ps,d,j,i=>by simp only[mI,List.length_cons,qZ (ps:=ps),gq]
theorem qe{Nc:dG}(m1:aT w Nc A1 env1 h1 w1)(hA:∀ b,A1 b->A2 b)(b0:Nat):∀(ps:List PK)(d:d7 ps)(fz:List (Nat×Nm))(ow:List (Option Nat))(bx:List Nat)(j n:Nat),
  jq ps j h1=some (d,fz,ow)->(∀ k,fh env1 fz k->A2 k)->(jB ps=true∨∀ b,A2 b->A' b)->bx.length=gq ps →
  lE h1 fz/\ow.length=gB ps/\((bx≠[]->env' b0=env1 PN)->(∀ k q,ow[k]? = some q->env' (n+k)=lC env1 q)->(∀ k q,bx[k]? = some q->env' q=env1 (PN+(j+k))) →
   gA A' env1 h1 env' w1 ow (fC ps d n) n/\(∀ q x,(q,x)∈dZ b0 ps d bx n->mE A' env1 h1 env' w1 bx j q x))∧∀ q,q∈bx->q∈(dZ b0 ps d bx n).map (·.1)
 | [],d,fz,ow,bx,j,n,e,hF,L,hl=>by
  simp only[jq,Option.some.injEq,Prod.mk.injEq] at e
  obtain⟨-,rfl,rfl⟩:=e
  simp only[gq,List.length_eq_zero_iff] at hl
  subst hl
  exact⟨fun n b hh=>by simp at hh,rfl,fun _ _ _=>⟨trivial,fun q x hh=>by simp[dZ] at hh⟩,fun q hh=>by simp at hh⟩
 | .val t::ps,d,fz,ow,bx,j,n,e,hF,L,hl=>by
  simp only[dZ,fC,gB]
  exact qe m1 hA b0 ps d fz ow bx j n (by simpa only[jq] using e) hF (by simpa only[jB] using L) (by simpa only[gq] using hl)
 | .agg t::ps,d,fz,ow,bx,j,n,e,hF,L,hl=>by
  simp only[dZ,fC,gB]
  exact qe m1 hA b0 ps d fz ow bx j n (by simpa only[jq] using e) hF (by simpa only[jB] using L) (by simpa only[gq] using hl)
 | .own _ t::ps,d,fz,ow,bx,j,n,e,hF,L,hl=>by
  simp only[dZ,fC,gB]
  exact qe m1 hA b0 ps d fz ow bx j n (by simpa only[jq] using e) hF (by simpa only[jB] using L) (by simpa only[gq] using hl)
 | .ago _::ps,d,fz,ow,bx,j,n,e,hF,L,hl=>by
  simp only[dZ,fC,gB]
  exact qe m1 hA b0 ps d fz ow bx j n (by simpa only[jq] using e) hF (by simpa only[jB] using L) (by simpa only[gq] using hl)
 | .fn _ _::ps,d,fz,ow,bx,j,n,e,hF,L,hl=>by
  simp only[dZ,fC,gB]
  exact qe m1 hA b0 ps d fz ow bx j n (by simpa only[jq] using e) hF (by simpa only[jB] using L) (by simpa only[gq] using hl)
 | .nils::ps,d,fz,ow,bx,j,n,e,hF,L,hl=>by
  simp only[dZ,fC,gB]
  exact qe m1 hA b0 ps d fz ow bx j n (by simpa only[jq] using e) hF (by simpa only[jB] using L) (by simpa only[gq] using hl)
 | .box E o::ps,d,fz,ow,bx,j,n,e,hF,L,hl=>by
  cases bx with
  | nil=>simp[gq] at hl
  | cons n0 bx =>
  simp only[jq] at e
  split at e
  ·rename_i E' cs hlk
   split at e
   ·rename_i x f1 w' hE hp
    have hE:=Nat.eq_of_beq_eq_true hE
    subst hE
    split at e
    ·rename_i ps' f2 ow2 hr
     simp only[Option.some.injEq,Prod.mk.injEq] at e
     obtain⟨rfl,rfl,rfl⟩:=e
     simp only[List.length_cons,gq] at hl
     have hF1:∀ k,fh env1 f1 k->A2 k:=fun k ⟨n,x,l,hx,he⟩=>hF k ⟨n,x,l,List.mem_append_left _ hx,he⟩
     have hF2:∀ k,fh env1 f2 k->A2 k:=fun k ⟨n,x,l,hx,he⟩=>hF k ⟨n,x,l,List.mem_append_right _ hx,he⟩
     have hlt:(bx.take o.nb).length=o.nb:=by rw[List.length_take];omega
     have eb:bx.take o.nb++bx.drop o.nb=bx:=List.take_append_drop ..
     obtain⟨s1,s2,s3,s4⟩:=qe m1 hA b0 ps ps' f2 ow2 (bx.drop o.nb) (j+1+o.nb) (n+o.nr) hr hF2 (td L) (by rw[List.length_drop];omega)
     have hm:=m1.nm (PN+j)
     rw[hlk] at hm
     have hbd:∃ kb lb us,env1 (PN+j) = .blk kb lb/\w1.heap[kb]? = some (.cells us E (0,0))/\aB A1 env1 w1 cs us.toList:=by
      rcases hm with⟨k',len',he',⟨us,hus,hdu⟩,_⟩|⟨he',_,_,hb|hb⟩
      ·exact⟨k',len',us,he',hus,hdu⟩
      ·cases hb
      ·cases hb
     obtain⟨kb,lb,us,hkb,hus,hdu⟩:=hbd
     obtain⟨p1,p2,us',rs',p3,p4,p5⟩:=wb (al:=true) (env':=env') m1 hA b0 o (some (j+1)) cs us.toList x [] f1 w' (bx.take o.nb) (bx.drop o.nb) n hp hdu hF1 (sU (c:=true) L) (.inr hlt)
     simp only[aB] at p4
     subst p4
     rw[List.append_nil] at p3
     subst p3
     rw[eb] at p5
     refine⟨fun n b hh=>?_,by simp only[List.length_append,p2,s2,gB];omega,fun h0b ho hb=>?_,fun q hq=>?_⟩
     ·rcases List.mem_append.1 hh with hh|hh
      ·exact p1 n b hh
      ·exact s1 n b hh
     ·obtain⟨l1,l2,l3,_⟩:=p5 (fun _=>h0b (by simp)) (fun k q hq=>ho k q (by rw[List.getElem?_append_left (List.getElem?_eq_some_iff.1 hq).1];exact hq))
       (fun j0 k q hj hq=>by
        cases hj
        rw[List.getElem?_take] at hq
        split at hq
        ·have:=hb (k+1) q (by simpa using hq)
         rwa [show j+(k+1)=j+1+k from by omega] at this
        ·cases hq)
      obtain⟨k1,k2⟩:=s3 (fun _=>h0b (by simp)) (fun k q hq=>by
        have:=ho (o.nr+k) q (by rw[List.getElem?_append_right (by omega),p2,Nat.add_sub_cancel_left];exact hq)
        rwa [show n+(o.nr+k)=n+o.nr+k from by omega] at this)
       (fun k q hq=>by
        rw[List.getElem?_drop] at hq
        have:=hb (o.nb+k+1) q (by simpa using hq)
        rwa [show j+(o.nb+k+1)=j+1+o.nb+k from by omega] at this)
      simp only[fC,dZ]
      refine⟨l2.append (by rw[p2];exact k1),fun q y hh=>?_⟩
      rcases List.mem_cons.1 hh with hh|hh
      ·cases hh
       refine⟨0,_,_,rfl,rfl,rfl,hlk,rfl,fun k len he=>?_,fun he=>?_⟩
       ·rw[Nat.add_zero,hkb] at he;cases he
        exact⟨us,hus,l1⟩
       ·rw[Nat.add_zero,hkb] at he;cases he
      ·rcases List.mem_append.1 hh with hh|hh
       ·obtain⟨j0,hj,hx⟩:=l3 q y hh
        cases hj
        have:=(mE.shift (pre:=[n0]) (j:=j) hx).grow (post:=bx.drop o.nb)
        rwa [List.append_assoc,eb] at this
       ·have:=mE.shift (pre:=n0::bx.take o.nb) (bx:=bx.drop o.nb) (j:=j) (n:=q) (x:=y) (by rw[List.length_cons,hlt,show j+(o.nb+1)=j+1+o.nb from by omega];exact k2 q y hh)
        rwa [List.cons_append,eb] at this
     ·simp only[dZ,List.map_cons,List.map_append]
      rcases List.mem_cons.1 hq with rfl|hq
      ·exact List.mem_cons_self ..
      ·refine List.mem_cons_of_mem _ ?_
       rw[← eb] at hq
       rcases List.mem_append.1 hq with hq|hq
       ·refine List.mem_append_left _ ?_
        have:=z5 (b0:=b0) (o:=o) (x:=x) (n:=n) (more:=bx.drop o.nb) hlt q hq
        rwa [eb] at this
       ·exact List.mem_append_right _ (s4 q hq)
    ·cases e
   ·cases e
  ·cases e
 | .row E t::ps,d,fz,ow,bx,j,n,e,hF,L,hl=>by
  cases bx with
  | nil=>simp[gq] at hl
  | cons n0 bx =>
  simp only[jq] at e
  split at e
  ·rename_i E' t' xs hlk
   split at e
   ·rename_i ys hE hcl
    have hE:=Nat.eq_of_beq_eq_true hE
    subst hE
    obtain⟨et,ez⟩:=gR hcl
    subst et
    simp only at ez
    subst ez
    split at e
    ·rename_i ps' f2 ow2 hr
     simp only[Option.some.injEq,Prod.mk.injEq] at e
     obtain⟨rfl,rfl,rfl⟩:=e
     obtain⟨s1,s2,s3,s4⟩:=qe m1 hA b0 ps ps' f2 ow2 bx (j+1) n hr hF (td L) (by simpa[gq] using hl)
     have hm:=m1.nm (PN+j)
     rw[hlk] at hm
     refine⟨s1,s2,fun h0b ho hb=>?_,fun q hq=>?_⟩
     ·obtain⟨k1,k2⟩:=s3 (fun _=>h0b (by simp)) ho (fun k q hq=>by have:=hb (k+1) q (by simpa using hq);rwa [show j+(k+1)=j+1+k from by omega] at this)
      simp only[fC,dZ]
      refine⟨k1,fun q y hh=>?_⟩
      rcases List.mem_cons.1 hh with hh|hh
      ·cases hh
       refine⟨0,_,_,rfl,rfl,rfl,hlk,rfl,fun k len he=>?_,fun he=>?_⟩
       ·rcases hm with⟨k',len',he',hb,_⟩|⟨he',_⟩
        ·rw[Nat.add_zero] at he;rw[he] at he';cases he'
         obtain⟨us,cap,g1,g2,g3,g4,g5,g6⟩:=hb
         exact⟨us,cap,g1,g2,g3,g4,g5,fun i hi=>BA (sU (c:=true) L) (fA hA (fun _ _ _=>rfl) _ _ _ _ _ (fun _ _=>rfl) (g6 i hi))⟩
        ·rw[Nat.add_zero] at he;rw[he] at he';cases he'
       ·rcases hm with⟨k',len',he',hb,_⟩|⟨he',E2,t2,hb⟩
        ·rw[Nat.add_zero] at he;rw[he] at he';cases he'
        ·rcases hb with hb|hb <;> cases hb
         exact⟨_,_,rfl⟩
      ·exact mE.shift (pre:=[n0]) (k2 q y hh)
     ·simp only[dZ,List.map_cons]
      rcases List.mem_cons.1 hq with rfl|hq
      ·exact List.mem_cons_self ..
      ·exact List.mem_cons_of_mem _ (s4 q hq)
    ·cases e
   ·cases e
  ·cases e
end
end Go.SX

/- SX, part 22: a function's contract, off its symbolic run (the proof). -/
namespace Go.SX
set_option linter.unusedVariables false
def gP:List Nat->Nat->Rn
 | [],_=>[]
 | n::bx,j=>(n,some (PN+j))::gP bx (j+1)
def iD:List (Option Nat)->Nat->Rn
 | [],_=>[]
 | o::r,n=>(n,o)::iD r (n+1)
theorem C2{a b:Rn}{n:Nat}:aZ (a++b) n=(match aZ a n with|some x=>some x|none=>aZ b n):=by
 induction a with
 | nil=>rfl
 | cons p a ih =>
  obtain⟨m,x⟩:=p
  simp only[List.cons_append,mz]
  split
  ·rfl
  ·exact ih
theorem CR:∀{bx:List Nat}{j n:Nat}{y:Option Nat},aZ (gP bx j) n=some y→∃ i,bx[i]? = some n/\y=some (PN+(j+i))
 | [],j,n,y,h=>by simp[gP,aZ] at h
 | m::bx,j,n,y,h=>by
  simp only[gP,mz] at h
  split at h
  ·rename_i e;cases h;exact⟨0,by simp[e],rfl⟩
  ·obtain⟨i,h1,h2⟩:=CR h
   exact⟨i+1,by simpa using h1,by rw[h2,show j+1+i=j+(i+1) from by omega]⟩
theorem Mr:∀{bx:List Nat}{j n i:Nat},bx.Nodup->bx[i]? = some n->aZ (gP bx j) n=some (some (PN+(j+i)))
 | [],j,n,i,_,h=>by simp at h
 | m::bx,j,n,0,_,h=>by
  simp at h;subst h
  simp only[gP,mz,if_pos,Nat.add_zero]
 | m::bx,j,n,i+1,hn,h=>by
  have h':bx[i]? = some n:=by simpa using h
  obtain⟨h1,h2⟩:=List.nodup_cons.1 hn
  have hne:n≠m:=fun e=>h1 (e▸List.mem_of_getElem? h')
  simp only[gP,mz,if_neg hne,Mr h2 h']
  rw[show j+1+i=j+(i+1) from by omega]
theorem ab6{bx:List Nat}{j n:Nat}(h:n ∉ bx):aZ (gP bx j) n=none:=by
 cases hl:aZ (gP bx j) n with
 | none=>rfl
 | some y=>obtain⟨i,hi,_⟩:=CR hl;exact absurd (List.mem_of_getElem? hi) h
theorem Oj:∀{ow:List (Option Nat)}{n0 n:Nat}{y:Option Nat},aZ (iD ow n0) n=some y→∃ i,ow[i]? = some y/\n=n0+i
 | [],n0,n,y,h=>by simp[iD,aZ] at h
 | o::ow,n0,n,y,h=>by
  simp only[iD,mz] at h
  split at h
  ·rename_i e;cases h;exact⟨0,by simp,by omega⟩
  ·obtain⟨i,h1,h2⟩:=Oj h
   exact⟨i+1,by simpa using h1,by omega⟩
theorem G4:∀{ow:List (Option Nat)}{n0 i:Nat}{o:Option Nat},ow[i]? = some o->aZ (iD ow n0) (n0+i)=some o
 | [],n0,i,o,h=>by simp at h
 | p::ow,n0,0,o,h=>by simp at h;subst h;simp[iD,mz]
 | p::ow,n0,i+1,o,h=>by
  have h':ow[i]? = some o:=by simpa using h
  have:=G4 (n0:=n0+1) h'
  simp only[iD,mz,if_neg (show ¬ n0+(i+1)=n0 from by omega)]
  rw[show n0+(i+1)=n0+1+i from by omega];exact this
theorem CX{n:Nat}:∀{l:List (Option Nat)},rZ n l=true↔some n∈l
 | []=>by simp[rZ]
 | none::r=>by simp[rZ,CX (l:=r)]
 | some m::r=>by simp[rZ,CX (l:=r)]
theorem CW{fz:List (Nat×Nm)}:∀{ow:List (Option Nat)},t9 fz ow=true→∀(i m:Nat),ow[i]? = some (some m)->(m<PN∨QN<=m)/\m ∉ fz.map (·.1)∧∀ i':Nat,ow[i']? = some (some m)->i=i'
 | [],_,i,m,h=>by simp at h
 | none::r,h,i,m,hi=>by
  simp only[t9] at h
  cases i with
  | zero=>simp at hi
  | succ i =>
   obtain⟨h1,h2,h3⟩:=CW h i m (by simpa using hi)
   refine⟨h1,h2,fun i' hi'=>?_⟩
   cases i' with
   | zero=>simp at hi'
   | succ i'=>rw[h3 i' (by simpa using hi')]
 | some q::r,h,i,m,hi=>by
  simp only[t9,Bool.and_eq_true,Bool.or_eq_true,Bool.not_eq_true'] at h
  obtain⟨⟨⟨h1,h2⟩,h3⟩,h4⟩:=h
  have hno:∀ i:Nat,r[i]? ≠ some (some q):=fun i hi=>by
   have:rZ q r=true:=CX.2 (List.mem_of_getElem? hi)
   rw[this] at h3;cases h3
  cases i with
  | zero =>
   simp at hi;subst hi
   refine⟨h1.imp (fun h=>Nat.le_of_ble_eq_true h) (fun h=>Nat.le_of_ble_eq_true h),wO h2,fun i' hi'=>?_⟩
   cases i' with
   | zero=>rfl
   | succ i'=>exact absurd (by simpa using hi') (hno i')
  | succ i =>
   obtain⟨g1,g2,g3⟩:=CW h4 i m (by simpa using hi)
   refine⟨g1,g2,fun i' hi'=>?_⟩
   cases i' with
   | zero=>simp at hi';subst hi';exact absurd (by simpa using hi) (hno i)
   | succ i'=>rw[g3 i' (by simpa using hi')]
theorem NL:∀{fz:List (Nat×Nm)},ye fz=true→∀ n,n∈fz.map (·.1)->n<PN∨QN<=n
 | [],_,n,h=>by simp at h
 | (m,b)::r,h,n,hn=>by
  simp only[ye,Bool.and_eq_true,Bool.or_eq_true] at h
  rcases List.mem_cons.1 hn with e|hn
  ·have e:n=m:=e
   subst e;exact h.1.imp (fun h=>Nat.le_of_ble_eq_true h) (fun h=>Nat.le_of_ble_eq_true h)
  ·exact NL h.2 n hn
theorem Np{fz:List (Nat×Nm)}:∀{bx:List Nat},xZ fz bx=true→∀ n,n∈bx->n ∉ fz.map (·.1)
 | [],_,n,h=>by simp at h
 | m::r,h,n,hn=>by
  simp only[xZ,Bool.and_eq_true] at h
  rcases List.mem_cons.1 hn with rfl|hn
  ·exact wO h.1
  ·exact Np h.2 n hn
theorem zw{h:aX}{dl d:Dl}:∀{k n:Nat}{r:List Nat},(nj n k dl).run h=some (d,r)->d=dl∧∀ i,i<k->h (n+i) = .un
 | 0,n,r,e=>by
  simp only[nj,Q.run,Option.some.injEq,Prod.mk.injEq] at e
  exact⟨e.1.symm,fun i hi=>by omega⟩
 | k+1,n,r,e=>by
  simp only[nj,Q.run] at e
  split at e
  ·rename_i p q hk
   simp only[Option.some.injEq,Prod.mk.injEq] at e
   obtain⟨rfl,rfl⟩:=e
   split at hk
   ·rename_i hun
    obtain⟨h1,h2⟩:=zw hk
    refine⟨h1,fun i hi=>?_⟩
    cases i with
    | zero=>exact hun
    | succ i=>rw[show n+(i+1)=n+1+i from by omega];exact h2 i (by omega)
   ·cases hk
  ·cases e
theorem CO{n:Nat}{x:Nm}:∀{cx:List (Option Nat)},(n,x)∈ly cx->x = .dead/\n∈gK cx
 | [],h=>by simp[ly] at h
 | none::r,h=>by simp only[ly] at h;simpa only[gK] using CO (cx:=r) h
 | some m::r,h=>by
  simp only[ly] at h
  rcases List.mem_cons.1 h with h|h
  ·cases h;exact⟨rfl,List.mem_cons_self ..⟩
  ·obtain⟨h1,h2⟩:=CO (cx:=r) h
   exact⟨h1,List.mem_cons_of_mem _ h2⟩
theorem Gr:∀{cx:List (Option Nat)},(ly cx).map (·.1)=gK cx
 | []=>rfl
 | none::r=>by simp only[ly,gK];exact Gr (cx:=r)
 | some m::r=>by simp only[ly,gK,List.map_cons,Gr (cx:=r)]
def FR(P:Program)(ty:TypeId)(v:SV)(h:aX):Option SV:=match v with
 | .ptr n off=>match h n with
  | .live (.cells _ cs)=>kM P ty cs off
  | _=>none
 | _=>none
def rH(P:Program):List ResultVar->List SV->aX->Option (List SV)
 | [],_,_=>some []
 | .tmp t::r,sl,h=>match rH P r sl h with
  | some l=>some (cF sl t::l)
  | none=>none
 | .cell a ty::r,sl,h=>match FR P ty (cF sl a) h,rH P r sl h with
  | some v,some l=>some (v::l)
  | _,_=>none
def ya(l:List Value):Value:=if h:l.toArray.size=1 then l.toArray[0] else .tuple l.toArray
theorem SZ{P:Program}{w0:World}{N0:dG}{A:Nat->Prop}{env:aL}{h:aX}{w:World}(m:aT w0 N0 A env h w){ty:TypeId}{s s':SV}{v:Value}(e:FR P ty s h=some s')(hd:af A env w s v) :
  ∃ u,(do loadVar ty (← asAddr v):Sem Value).run P w = .ok u w/\af A env w s' u:=by
 unfold FR at e
 split at e
 ·rename_i n off
  split at e
  ·rename_i E cs hl
   simp only[af] at hd
   obtain⟨b,l,he,rfl⟩:=hd
   obtain⟨⟨vs,hh,hd⟩,_⟩:=m.live_blk hl he
   obtain⟨u,hr,hv⟩:=yB (o:=0) (k:=b) e hd (fun j hj=>by rw[cell_of_row w b _ vs E (0,0) hh];simp)
   rw[Nat.zero_add] at hr
   exact⟨u,by simp[asAddr,hr],hv⟩
  ·cases e
 ·cases e
theorem GA{P:Program}{w0:World}{N0:dG}{A:Nat->Prop}{env:aL}{h:aX}{w:World}(m:aT w0 N0 A env h w){sl:List SV}{a:Act}(f:FD A env w (cF sl) a){F:ResultVar->Sem Value}
  (h1:∀ t,F (.tmp t)=pure (a.tmps.getD t undef)) (h2:∀ t ty,F (.cell t ty)=do loadVar ty (← asAddr (a.tmps.getD t undef))):∀(l:List ResultVar)(svs:List SV),rH P l sl h=some svs →
  ∃ vs,(l.mapM F).run P w = .ok vs w/\aB A env w svs vs
 | [],svs,e=>by cases e;exact⟨[],rfl,by simp[aB]⟩
 | .tmp t::l,svs,e=>by
  simp only[rH] at e
  split at e
  ·rename_i l' hl
   cases e
   obtain⟨vs,hr,hd⟩:=GA m f h1 h2 l l' hl
   refine⟨a.tmps.getD t undef::vs,?_,by simp only[aB];exact⟨_,_,rfl,f t,hd⟩⟩
   rw[List.mapM_cons,h1]
   simp[hr]
  ·cases e
 | .cell t ty::l,svs,e=>by
  simp only[rH] at e
  split at e
  ·rename_i v l' hv hl
   cases e
   obtain⟨vs,hr,hd⟩:=GA m f h1 h2 l l' hl
   obtain⟨u,hu,hdu⟩:=SZ m hv (f t)
   refine⟨u::vs,?_,by simp only[aB];exact⟨_,_,rfl,hdu,hd⟩⟩
   rw[List.mapM_cons,h2,Sem.run_bind,hu]
   simp[hr]
  ·cases e
theorem Qu{P:Program}{w0:World}{N0:dG}{A:Nat->Prop}{env:aL}{h:aX}{w:World}(m:aT w0 N0 A env h w){sl:List SV}{a:Act}(f:FD A env w (cF sl) a){fn:Func}{svs:List SV}(e:rH P fn.results.toList sl h=some svs) :
  ∃ vs,(results fn a.tmps).run P w = .ok (ya vs) w/\aB A env w svs vs:=by
 unfold results
 rw[Array.mapM_eq_mapM_toList]
 obtain⟨vs,hr,hd⟩:=GA (P:=P) m f (F:=fun | .tmp t=>pure (a.tmps.getD t undef) | .cell t ty=>do loadVar ty (← asAddr (a.tmps.getD t undef))) (fun t=>rfl) (fun t ty=>rfl) fn.results.toList svs e
 refine⟨vs,?_,hd⟩
 rw[Sem.run_bind,Sem.run_map]
 erw [hr]
 rfl
theorem WE{A:Nat->Prop}{env:aL}{w:World}{svs:List SV}{vs:List Value}(h:aB A env w svs vs):af A env w (nL svs) (ya vs):=by
 have hl:=f9 h
 unfold nL
 split
 ·simp only[aB] at h
  obtain⟨v,r,rfl,h,rfl⟩:=h
  exact h
 ·rename_i hne
  have:¬ vs.length=1:=fun e=>by
   rw[hl] at e
   obtain⟨x,hx⟩:=List.length_eq_one_iff.1 e
   exact hne x hx
  simp only[ya,af]
  rw[dif_neg (by simpa using this)]
  exact⟨_,rfl,h⟩
def nZ:List Prop->Prop
 | []=>True
 | [p]=>p
 | p::q::r=>p/\nZ (q::r)
theorem u6:∀{l:List Prop},nZ l↔bc l
 | []=>Iff.rfl
 | [p]=>by simp[nZ,bc]
 | p::q::r=>by rw[nZ,bc,u6]
def wB(P:Program)(ps:List PK)(rs:List RK)(rv:List ResultVar)(k:gw rs×d7 ps->Prop):Ex->St->Prop:=fun e S=>match e with
 | .exit _=>False
 | _=>match rH P rv S.sl (cP S.H) with
  | none=>False
  | some vs=>match kg (Nat.blt 0 (gq ps)) rs vs (cP S.H),jq ps 0 (cP S.H) with
   | some (y,f1,ow),some (z,f2,ow2)=>match t9 (f1++f2) (ow++ow2),ye (f1++f2) with
    | true,true=>k (y,z)
    | _,_=>False
   | _,_=>False
def lK:List SV->Nat->List SV
 | _,0=>[]
 | [],n+1 => .junk::lK [] n
 | v::l,n+1=>v::lK l n
def sV(ps:List PK)(d:ar ps)(n:Nat):St:=⟨lK (fJ ps d 0 0) n,mI ps d 0 0++pg ps d 0⟩
theorem Gp:∀{l:List SV}{n:Nat},(lK l n).length=n
 | _,0=>by simp[lK]
 | [],n+1=>by simp[lK,Gp (l:=[]) (n:=n)]
 | v::l,n+1=>by simp[lK,Gp (l:=l) (n:=n)]
theorem EW:∀{l:List SV}{n i:Nat},cF (lK l n) i = .junk∨∃ s,l[i]? = some s/\cF (lK l n) i=s
 | _,0,i=>by left;simp[lK,cF,kL]
 | [],n+1,0=>by left;simp[lK,cF,kL]
 | [],n+1,i+1=>by
  rcases EW (l:=[]) (n:=n) (i:=i) with h|⟨s,h,_⟩
  ·left;simpa[lK,cF,kL] using h
  ·simp at h
 | v::l,n+1,0=>by right;exact⟨v,by simp,by simp[lK,cF,kL]⟩
 | v::l,n+1,i+1=>by
  rcases EW (l:=l) (n:=n) (i:=i) with h|⟨s,h,h'⟩
  ·left;simpa[lK,cF,kL] using h
  ·right;exact⟨s,by simpa using h,by simpa[lK,cF,kL] using h'⟩
section
variable {P:Program} {sp:dQ}
theorem MO{ps:List PK}{rs:List RK}(post:ar ps->gw rs×d7 ps->Prop){f:FuncId}{fn:Func}{code:Code}(hf:P.funcs[f]? = some fn)(hb:fn.body=some code)(hs:i5 P sp)(av:P.follows .mixedOrders=true)(an:ar ps->az)
  {base:Nat} {svs:List SV} {h:aX} {dd:ar ps} {fz:List (Nat×Nm)} {bx:List Nat} {cx:List (Option Nat)} {q1:List Nat} (e1:(eZ none ps svs).run h=some ((dd,fz,bx,cx),q1)) (hnm:wD fz bx cx=true)
  (hun:∀ i,i<eI rs+gB ps->h (base+i) = .un) (vc:te ps dd->rk (sV ps dd fn.ntmps) (sx P sp (an dd) code (wB P ps rs fn.results.toList (post dd))))
  {w0:World} {N0:dG} {A:Nat->Prop} {env:aL} {w:World} {vs:List Value} (hG:N0.g=sp.gl) (m:aT w0 N0 A env h w) (hd:aB A env w svs vs) :
  Calls P f vs.toArray w fun e w'=>∃ v y,e = .returned v/\post dd y∧∃ (A':Nat->Prop) (env':aL),aT w0 N0 A' env' (bR (qr ps rs y base fz bx cx) h) w'∧ce A env w A' env' w'∧af A' env' w' (nL (iu (bx.headD 0) rs y.1 base)) v:=by
 simp only[wD,Bool.and_eq_true] at hnm
 obtain⟨⟨hnd,hdj⟩,hbl⟩:=hnm
 have hnd:=Nu hnd
 have hdj:=Np hdj
 have hbl:=Nat.le_of_ble_eq_true hbl
 obtain⟨a1,a4,a6⟩:=qT (envc:=lf env bx cx) m (Ac:=fm A env fz) (fun b hb=>.inl hb) none ps svs vs dd fz bx cx q1 0 0 e1 hd (fun k hk=>.inr hk)
 obtain⟨dargs,lb,lc⟩:=a6 (fun _=>rfl) (fun n hn=>by cases hn) (fun k n hn=>by rw[Nat.zero_add];exact EZ hbl hn) (fun k q hq=>by rw[Nat.zero_add];exact UW hq)
 rw[Nat.add_zero] at lb lc
 have mc:=m.call a1 hbl lb lc hdj hnd
 have hlen:bx.length=gq ps:=by
  have:=lb.get.1
  rw[List.length_map,qZ] at this;exact this
 have hnd1:bx.Nodup:=(List.nodup_append.1 hnd).1
 have hvc:=vc a4
 rw[Dc] at hvc
 have hvl:=f9 dargs
 have live_ne:∀ q b,h q = .live b->env q ≠ .un:=fun q b hq=>by
  have:=m.nm q
  rw[hq] at this
  rcases this with⟨k,len,e,_⟩|⟨e,_⟩ <;> rw[e] <;> simp
 have hlive:∀ n,n∈bx++gK cx→∃ b,h n = .live b/\b.mut=true/\env n ≠ .un:=fun n hn=>by
  rcases List.mem_append.1 hn with hn|hn
  ·obtain⟨i,hi⟩:=List.mem_iff_getElem?.1 hn
   obtain⟨b',_,_,_,⟨q,b,e,h1,h2,_⟩|⟨e,_⟩⟩:=lb.get.2 i (some n) (by simp[hi])
   ·cases e;exact⟨b,h1,h2,live_ne _ _ h1⟩
   ·cases e
  ·obtain⟨i,hi⟩:=List.mem_iff_getElem?.1 (sA.1 hn)
   obtain⟨b',_,_,_,⟨q,b,e,h1,h2,_⟩|⟨e,_⟩⟩:=lc.get.2 i (some n) hi
   ·cases e;exact⟨b,h1,h2,live_ne _ _ h1⟩
   ·cases e
 refine calls_of_wp hf hb (PP (N0:=⟨AO env (bx++gK cx),fm A env fz,N0.g⟩) ⟨hs,hG⟩ av code _ _ _ (fm A env fz) (lf env bx cx) _ w hvc ⟨mc,?_,?_,rfl⟩ ?_)
 ·simp only[St.fs,sV,Gp,Array.size_append,Array.size_replicate];omega
 ·intro i
  simp only[St.fs,sV]
  rcases EW (l:=fJ ps dd 0 0) (n:=fn.ntmps) (i:=i) with hj|⟨s,h1,h2⟩
  ·rw[hj];simp only[af]
  ·rw[h2]
   obtain⟨v,hv,hdv⟩:=yo i s dargs h1
   have hi:i<vs.length:=(List.getElem?_eq_some_iff.1 hv).1
   have:(vs.toArray++Array.replicate (fn.ntmps-vs.toArray.size) undef).getD i undef=v:=by
    have h3:(vs.toArray++Array.replicate (fn.ntmps-vs.toArray.size) undef)[i]? = some v:=by
     rw[Array.getElem?_append_left (by simpa using hi)];simpa using hv
    simp only[Array.getD_eq_getD_getElem?,h3,Option.getD_some]
   rw[this];exact hdv
 ·intro ex S' A1 env1 act w1 hK t' x'
  have hend:∃ rsv y f1 owr z f2 owb,rH P fn.results.toList S'.sl (cP S'.H)=some rsv/\kg (Nat.blt 0 (gq ps)) rs rsv (cP S'.H)=some (y,f1,owr)/\jq ps 0 (cP S'.H)=some (z,f2,owb) ∧
    t9 (f1++f2) (owr++owb)=true/\ye (f1++f2)=true/\post dd (y,z)/\(ex = .normal∨ex = .ret):=by
   unfold wB at hK
   split at hK
   ·exact hK.elim
   ·rename_i hex
    split at hK
    ·exact hK.elim
    ·rename_i rsv hts
     split at hK
     ·rename_i y f1 ow z f2 ow2 h1 h2
      split at hK
      ·rename_i h3 h4
       refine⟨rsv,y,f1,ow,z,f2,ow2,hts,h1,h2,h3,h4,hK,?_⟩
       cases ex with
       | normal=>exact .inl rfl
       | ret=>exact .inr rfl
       | exit i=>exact absurd rfl (hex i)
      ·exact hK.elim
     ·exact hK.elim
  obtain⟨rsv,y,f1,owr,z,f2,owb,hts,ho,hob,hown,hlt,hpost,hex⟩:=hend
  obtain⟨rvs,hrun,hres⟩:=Qu t'.m t'.f hts
  have hA2:∀ b,A1 b->fm A1 env1 (f1++f2) b:=fun b hb=>.inl hb
  have hF1:∀ k,fh env1 f1 k->fm A1 env1 (f1++f2) k:=fun k ⟨n,x,l,hx,he⟩=>.inr ⟨n,x,l,List.mem_append_left _ hx,he⟩
  have hF2:∀ k,fh env1 f2 k->fm A1 env1 (f1++f2) k:=fun k ⟨n,x,l,hx,he⟩=>.inr ⟨n,x,l,List.mem_append_right _ hx,he⟩
  have hlt:=NL hlt
  have hownS:=CW hown
  have hPQ:QN=PN+PN:=rfl
  have fin:∀(As A':Nat->Prop)(hs':aX),aT w0 N0 As env hs' w->(∀ n,n∈bx++gK cx->hs' n=h n)->(∀ i,i<eI rs+gB ps->hs' (base+i) = .un)->(∀ b,As b->A' b)->(∀ b,A' b->fm A1 env1 (f1++f2) b) →
    (∀ b,A' b->As b∨((AO env (bx++gK cx) b∨w.heap.size<=b)/\b<w1.heap.size))->(pS rs=true∨∀ b,fm A1 env1 (f1++f2) b->A' b)->(jB ps=true∨∀ b,fm A1 env1 (f1++f2) b->A' b) →
    ∃ env',aT w0 N0 A' env' (bR (dZ (bx.headD 0) ps z bx (base+eI rs)++(jo (bx.headD 0) rs y base++(fC ps z (base+eI rs)++ly cx))) hs') w1/\ce As env w A' env' w1/\af A' env' w1 (nL (iu (bx.headD 0) rs y base)) (ya rvs):=by
   intro As A' hs' ms hsb hsu hAA hA'2 hA1' L1 L2
   obtain⟨b1,b2,b3⟩:=sP (A':=A') (env':=iO (gP bx 0++iD (owr++owb) base) env env1) t'.m hA2 (bx.headD 0) rs y _ _ f1 owr base ho hres hF1 L1
   obtain⟨c1,c2,c3,c4⟩:=qe (A':=A') (env':=iO (gP bx 0++iD (owr++owb) base) env env1) t'.m hA2 (bx.headD 0) ps z f2 owb bx 0 (base+eI rs) hob hF2 L2 hlen
   have hfo:lE (cP S'.H) (f1++f2):=fun n b hh=>by
    rcases List.mem_append.1 hh with hh|hh
    ·exact b1 n b hh
    ·exact c1 n b hh
   have howl:(owr++owb).length=eI rs+gB ps:=by rw[List.length_append,b2,c2]
   have hnotbx:∀ i,i<eI rs+gB ps->base+i ∉ bx:=fun i hi hmem=>by
    have h1:=hsu i hi
    rw[hsb _ (List.mem_append_left _ hmem)] at h1
    obtain⟨b,hb',_⟩:=hlive _ (List.mem_append_left _ hmem)
    rw[h1] at hb';cases hb'
   have hRbox:∀ i n,bx[i]? = some n->aZ (gP bx 0++iD (owr++owb) base) n=some (some (PN+i)):=fun i n hi=>by
    rw[C2,Mr (j:=0) hnd1 hi,Nat.zero_add]
   have hRres:∀ i o,(owr++owb)[i]? = some o->aZ (gP bx 0++iD (owr++owb) base) (base+i)=some o:=fun i o hi=>by
    have hlti:i<eI rs+gB ps:=by have:=(List.getElem?_eq_some_iff.1 hi).1;omega
    rw[C2,ab6 (hnotbx i hlti)]
    exact G4 hi
   have hRinv:∀ n y,aZ (gP bx 0++iD (owr++owb) base) n=some y->(∃ i,bx[i]? = some n/\y=some (PN+i))∨∃ i,(owr++owb)[i]? = some y/\n=base+i/\i<eI rs+gB ps:=fun n y hy=>by
    rw[C2] at hy
    split at hy
    ·rename_i x hx
     cases hy
     obtain⟨i,h1,h2⟩:=CR hx
     rw[Nat.zero_add] at h2
     exact .inl ⟨i,h1,h2⟩
    ·obtain⟨i,h1,h2⟩:=Oj hy
     exact .inr ⟨i,h1,h2,by have:=(List.getElem?_eq_some_iff.1 h1).1;omega⟩
   have hbxlt:∀ i n,bx[i]? = some n->i<PN:=fun i n hi=>by have:=(List.getElem?_eq_some_iff.1 hi).1;omega
   have henvp:∀ i n,bx[i]? = some n->env1 (PN+i)=env n:=fun i n hi=>by
    obtain⟨b,_,_,hne⟩:=hlive n (List.mem_append_left _ (List.mem_of_getElem? hi))
    have:=hbxlt i n hi
    have:=x'.envp (PN+i) (by omega) (by omega) (by rw[EZ hbl hi];exact hne)
    rw[this,EZ hbl hi]
   have eenv:∀ i o,(owr++owb)[i]? = some o->iO (gP bx 0++iD (owr++owb) base) env env1 (base+i)=lC env1 o:=fun i o hi=>by
    unfold iO
    rw[hRres i o hi]
    simp only[fN,hRres i o hi]
    cases o <;> rfl
   have hhead:bx≠[]->iO (gP bx 0++iD (owr++owb) base) env env1 (bx.headD 0)=env1 PN:=fun hne=>by
    obtain⟨n0,r,hbx⟩:=List.exists_cons_of_ne_nil hne
    have h0:bx[0]? = some (bx.headD 0):=by rw[hbx];rfl
    unfold iO
    rw[hRbox 0 _ h0]
    simp only[fN,hRbox 0 _ h0,Nat.add_zero]
   obtain⟨d1,d2⟩:=b3 (fun hal=>hhead (fun hnil=>by
     have h0:gq ps=0:=by rw[← hlen,hnil];rfl
     rw[h0] at hal;cases hal)) (fun i o hi=>eenv i o (by rw[List.getElem?_append_left (List.getElem?_eq_some_iff.1 hi).1];exact hi))
   obtain⟨d3,d4⟩:=c3 hhead (fun k q hq=>by
     have:=eenv (eI rs+k) q (by rw[List.getElem?_append_right (by omega),b2,Nat.add_sub_cancel_left];exact hq)
     rwa [← Nat.add_assoc] at this)
    (fun k q hq=>by
     unfold iO
     rw[hRbox k q hq]
     simp only[fN,hRbox k q hq,Nat.zero_add])
   have hlookA:∀ q b k l,cP S'.H q = .live b->b.mut=true->env1 q = .blk k l->q ∉ (f1++f2).map (·.1)→¬ A' k:=fun q b k l hq hbm he hqn hA'=>by
    have mf:=(t'.m.freeze hfo).1
    have:bR (f1++f2) S'.fs.h q = .live b:=by rw[ld hqn];exact hq
    exact (mf.live_blk this he).2 hbm (hA'2 k hA')
   suffices hk:aT w0 N0 A' (iO (gP bx 0++iD (owr++owb) base) env env1) (bR (dZ (bx.headD 0) ps z bx (base+eI rs)++(jo (bx.headD 0) rs y base++(fC ps z (base+eI rs)++ly cx))) hs') w1/\ce As env w A' (iO (gP bx 0++iD (owr++owb) base) env env1) w1 by
    exact⟨_,hk.1,hk.2,WE d1⟩
   have hnew:∀{l:List (Nat×Nm)}{os:List (Option Nat)}{n0:Nat},gA A' env1 (cP S'.H) (iO (gP bx 0++iD (owr++owb) base) env env1) w1 os l (base+n0)->(∀ i o,os[i]? = some o->(owr++owb)[n0+i]? = some o)→∀ n x,(n,x)∈l →
     ∃ b,x = .live b/\b.mut=true/\((∃ m b0,aZ (gP bx 0++iD (owr++owb) base) n=some (some m)/\cP S'.H m = .live b0/\b0.mut=true ∧
      (∀ k len,env1 m = .blk k len->gY A' (iO (gP bx 0++iD (owr++owb) base) env env1) w1 k len b)/\(env1 m = .nil→∃ E t,b = .row E t []))∨(aZ (gP bx 0++iD (owr++owb) base) n=some none∧∃ E t,b = .row E t [])):=by
    intro l os n0 hl hos n x hx
    have:∀{os:List (Option Nat)}{l:List (Nat×Nm)}{k0:Nat},gA A' env1 (cP S'.H) (iO (gP bx 0++iD (owr++owb) base) env env1) w1 os l k0→∀ n x,(n,x)∈l→∃ i o b',os[i]? = some o/\n=k0+i/\x = .live b'∧b'.mut=true ∧
      ((∃ q b,o=some q/\cP S'.H q = .live b/\b.mut=true/\(∀ k len,env1 q = .blk k len->gY A' (iO (gP bx 0++iD (owr++owb) base) env env1) w1 k len b')/\(env1 q = .nil→∃ E t,b' = .row E t []))∨(o=none∧∃ E t,b' = .row E t [])):=by
     intro os
     induction os with
     | nil=>intro l k0 hl n x hx;cases l with
      | nil=>cases hx
      | cons p l=>exact hl.elim
     | cons o os ih =>
      intro l k0 hl n x hx
      cases l with
      | nil=>cases hx
      | cons p l =>
       obtain⟨m',y'⟩:=p
       obtain⟨⟨hm,b',g1,g2,g3⟩,hr⟩:=hl
       rcases List.mem_cons.1 hx with e|hx
       ·cases e;exact⟨0,o,b',rfl,by omega,g1,g2,g3⟩
       ·obtain⟨i,o',b'',k1,k2,k3⟩:=ih hr n x hx
        exact⟨i+1,o',b'',by simpa using k1,by omega,k3⟩
    obtain⟨i,o,b',k1,rfl,k3,k4,k5⟩:=this hl n x hx
    have hr:=hRres _ _ (hos i o k1)
    rw[← Nat.add_assoc] at hr
    refine⟨b',k3,k4,?_⟩
    rcases k5 with⟨q,b,rfl,g1,g2,g3,g4⟩|⟨rfl,g1⟩
    ·exact .inl ⟨q,b,hr,g1,g2,g3,g4⟩
    ·exact .inr ⟨hr,g1⟩
   refine aT.retn (R:=gP bx 0++iD (owr++owb) base) (U:=dZ (bx.headD 0) ps z bx (base+eI rs)++(jo (bx.headD 0) rs y base++(fC ps z (base+eI rs)++ly cx))) (A':=A') ms t'.m x'.shape ?_ ?_ ?_ ?_ ?_ hAA hA1' ?_
   ·intro n x hx
    rcases List.mem_append.1 hx with hx|hx
    ·obtain⟨i,b,b0,h1,h2,h3,h4,h5,h6,h7⟩:=d4 n x hx
     rw[Nat.zero_add] at h4 h6 h7
     exact .inr ⟨b,h2,h3,.inl ⟨PN+i,b0,hRbox i n h1,h4,h5,h6,h7⟩⟩
    ·rcases List.mem_append.1 hx with hx|hx
     ·exact .inr (hnew (n0:=0) (by rw[Nat.add_zero];exact d2) (fun i o hi=>by rw[Nat.zero_add,List.getElem?_append_left (List.getElem?_eq_some_iff.1 hi).1];exact hi) n x hx)
     ·rcases List.mem_append.1 hx with hx|hx
      ·exact .inr (hnew d3 (fun i o hi=>by rw[List.getElem?_append_right (by omega),b2,Nat.add_sub_cancel_left];exact hi) n x hx)
      ·exact .inl (CO hx).1
   ·intro n hn
    obtain⟨y',hy⟩:=Option.ne_none_iff_exists'.1 hn
    simp only[List.map_append]
    rcases hRinv n y' hy with⟨i,h1,_⟩|⟨i,h1,rfl,hi⟩
    ·exact List.mem_append_left _ (c4 n (List.mem_of_getElem? h1))
    ·refine List.mem_append_right _ ?_
     by_cases hlt':i<eI rs
     ·refine List.mem_append_left _ ?_
      obtain⟨b',_,hmem,_⟩:=d2.get.2 i _ (by rw[List.getElem?_append_left (by omega)] at h1;exact h1)
      exact List.mem_map_of_mem (f:=(·.1)) hmem
     ·refine List.mem_append_right _ (List.mem_append_left _ ?_)
      obtain⟨b',_,hmem,_⟩:=d3.get.2 (i-eI rs) _ (by rw[List.getElem?_append_right (by omega),b2] at h1;exact h1)
      have:=List.mem_map_of_mem (f:=(·.1)) hmem
      rwa [show base+eI rs+(i-eI rs)=base+i from by omega] at this
   ·intro n n' q hn hn'
    rcases hRinv n _ hn with⟨i,h1,h2⟩|⟨i,h1,rfl,_⟩ <;> rcases hRinv n' _ hn' with⟨i',h1',h2'⟩|⟨i',h1',rfl,_⟩
    ·simp only[Option.some.injEq] at h2 h2'
     have:i=i':=by omega
     subst this
     rw[h1] at h1';exact Option.some.inj h1'
    ·simp only[Option.some.injEq] at h2
     have:=(hownS i' q h1').1
     have:=hbxlt _ _ h1
     omega
    ·simp only[Option.some.injEq] at h2'
     have:=(hownS i q h1).1
     have:=hbxlt _ _ h1'
     omega
    ·rw[(hownS i q h1).2.2 i' h1']
   ·intro n hn
    obtain⟨y',hy⟩:=Option.ne_none_iff_exists'.1 hn
    rcases hRinv n y' hy with⟨i,h1,rfl⟩|⟨i,h1,rfl,h2⟩
    ·have hmem:n∈bx++gK cx:=List.mem_append_left _ (List.mem_of_getElem? h1)
     obtain⟨b,g2',g3',_⟩:=hlive n hmem
     exact .inr ⟨b,by rw[hsb n hmem];exact g2',g3',by rw[pR hy];exact henvp i n h1⟩
    ·exact .inl (hsu i h2)
   ·rintro k ⟨n,l,hn,he⟩
    obtain⟨b,g2',g3',_⟩:=hlive n hn
    refine⟨n,b,l,?_,by rw[hsb n hn];exact g2',g3',he⟩
    simp only[List.map_append,Gr]
    rcases List.mem_append.1 hn with hn|hn
    ·exact List.mem_append_left _ (c4 n hn)
    ·exact List.mem_append_right _ (List.mem_append_right _ (List.mem_append_right _ hn))
   ·rintro q b k l hq hbm he ⟨n,hn⟩
    refine hlookA q b k l hq hbm he fun hmem=>?_
    rcases hRinv n _ hn with⟨i,h1,h2⟩|⟨i,h1,rfl,_⟩
    ·simp only[Option.some.injEq] at h2
     have:=hlt q hmem
     have:=hbxlt _ _ h1
     omega
    ·exact (hownS i q h1).2.1 hmem
  suffices hfin:∃ (A':Nat->Prop) (env':aL),aT w0 N0 A' env' (bR (qr ps rs (y,z) base fz bx cx) h) w1/\ce A env w A' env' w1/\af A' env' w1 (nL (iu (bx.headD 0) rs y base)) (ya rvs) by
   have hthis:act.defers=[]∧∃ v,(results fn act.tmps).run P w1 = .ok v w1∧∃ v' y',Ending.returned v = .returned v'∧post dd y'∧∃ (A':Nat->Prop) (env':aL),aT w0 N0 A' env' (bR (qr ps rs y' base fz bx cx) h) w1/\ce A env w A' env' w1/\af A' env' w1 (nL (iu (bx.headD 0) rs y'.1 base)) v' :=
    ⟨t'.dfr,_,hrun,_,(y,z),rfl,hpost,hfin⟩
   rcases hex with rfl|rfl
   ·exact hthis
   ·exact hthis
  unfold qr
  cases hk:uh ps rs with
  | true =>
   obtain⟨mf,xf⟩:=m.freeze a1
   have hback:∀ b,fm A1 env1 (f1++f2) b->fm A env fz b∨((AO env (bx++gK cx) b∨w.heap.size<=b)/\b<w1.heap.size):=by
    intro b hb
    have hfo:lE (cP S'.H) (f1++f2):=by
     obtain⟨b1,_⟩:=sP (A':=fm A1 env1 (f1++f2)) (env':=env1) t'.m hA2 (bx.headD 0) rs y _ _ f1 owr base ho hres hF1 (.inr fun b hb=>hb)
     obtain⟨c1,_⟩:=qe (A':=fm A1 env1 (f1++f2)) (env':=env1) t'.m hA2 (bx.headD 0) ps z f2 owb bx 0 base hob hF2 (.inr fun b hb=>hb) hlen
     intro n b hh
     rcases List.mem_append.1 hh with hh|hh
     ·exact b1 n b hh
     ·exact c1 n b hh
    have hAlt:=(t'.m.freeze hfo).1.Alt b hb
    rcases hb with hb|⟨n,x,l,hx,he⟩
    ·rcases t'.m.fresh b hb with h1|h1|h1
     ·exact .inl h1
     ·exact .inr ⟨.inl h1,hAlt⟩
     ·exact .inr ⟨.inr h1,hAlt⟩
    ·obtain⟨E,t,xs,hl,_⟩:=hfo n x hx
     rcases t'.m.own n _ b l hl rfl he with h1|h1
     ·exact .inr ⟨.inl h1,hAlt⟩
     ·exact .inr ⟨.inr h1,hAlt⟩
   obtain⟨env',k1,k2,k3⟩:=fin (fm A env fz) (fm A1 env1 (f1++f2)) (bR fz h) mf (fun n hn=>ld (hdj n hn)) (fun i hi=>by
     rw[ld]
     ·exact hun i hi
     ·intro hmem
      obtain⟨⟨n,x⟩,hx,he⟩:=List.mem_map.1 hmem
      simp only at he
      subst he
      obtain⟨E,t,xs,hl,_⟩:=a1 _ _ hx
      rw[hun i hi] at hl;cases hl)
    (fun b hb=>.inl (x'.imm b hb)) (fun b hb=>hb) hback (.inr fun b hb=>hb) (.inr fun b hb=>hb)
   refine⟨_,env',?_,xf.trans k2,k3⟩
   rw[C8];exact k1
  | false =>
   have hpl:pS rs=true/\jB ps=true:=by
    simpa[uh] using hk
   obtain⟨env',k1,k2,k3⟩:=fin A A h m (fun n hn=>rfl) hun (fun b hb=>hb) (fun b hb=>.inl (x'.imm b (.inl hb))) (fun b hb=>.inl hb) (.inl hpl.1) (.inl hpl.2)
   refine⟨_,env',?_,k2,k3⟩
   rw[List.append_nil];exact k1
def s8:(rs:List RK)->gw rs->gw rs->List Prop
 | [],_,_=>[]
 | _::rs,x,y=>(x.1=y.1)::s8 rs x.2 y.2
def lQ:(ps:List PK)->d7 ps->d7 ps->List Prop
 | [],_,_=>[]
 | .val _::ps,x,y=>lQ ps x y
 | .agg _::ps,x,y=>lQ ps x y
 | .own _ _::ps,x,y=>lQ ps x y
 | .ago _::ps,x,y=>lQ ps x y
 | .fn _ _::ps,x,y=>lQ ps x y
 | .nils::ps,x,y=>lQ ps x y
 | .box _ _::ps,x,y=>(x.1=y.1)::lQ ps x.2 y.2
 | .row _ _::ps,x,y=>(x.1=y.1)::lQ ps x.2 y.2
theorem G8:∀{rs:List RK}{x y:gw rs},bc (s8 rs x y)->x=y
 | [],x,y,_=>rfl
 | _::rs,x,y,h=>Prod.ext h.1 (G8 (rs:=rs) h.2)
theorem qH:∀{ps:List PK}{x y:d7 ps},bc (lQ ps x y)->x=y
 | [],x,y,_=>rfl
 | .val _::ps,x,y,h=>qH (ps:=ps) h
 | .agg _::ps,x,y,h=>qH (ps:=ps) h
 | .own _ _::ps,x,y,h=>qH (ps:=ps) h
 | .ago _::ps,x,y,h=>qH (ps:=ps) h
 | .fn _ _::ps,x,y,h=>qH (ps:=ps) h
 | .nils::ps,x,y,h=>qH (ps:=ps) h
 | .box _ _::ps,x,y,h=>Prod.ext h.1 (qH (ps:=ps) h.2)
 | .row _ _::ps,x,y,h=>Prod.ext h.1 (qH (ps:=ps) h.2)
theorem DX:∀{rs:List RK}{x:gw rs},bc (s8 rs x x)
 | [],_=>trivial
 | _::rs,x=>⟨rfl,DX (rs:=rs)⟩
theorem qf:∀{ps:List PK}{x:d7 ps},bc (lQ ps x x)
 | [],_=>trivial
 | .val _::ps,x=>qf (ps:=ps)
 | .agg _::ps,x=>qf (ps:=ps)
 | .own _ _::ps,x=>qf (ps:=ps)
 | .ago _::ps,x=>qf (ps:=ps)
 | .fn _ _::ps,x=>qf (ps:=ps)
 | .nils::ps,x=>qf (ps:=ps)
 | .box _ _::ps,x=>⟨rfl,qf (ps:=ps)⟩
 | .row _ _::ps,x=>⟨rfl,qf (ps:=ps)⟩
theorem Ct.ok(c:Ct){f:FuncId}{fn:Func}{code:Code}(hf:P.funcs[f]? = some fn)(hb:fn.body=some code)(hs:i5 P sp)(av:P.follows .mixedOrders=true)(an:ar c.ps->az)
  (vc:sW c.ps fun d=>te c.ps d->nZ (c.pre d)->rk (sV c.ps d fn.ntmps) (sx P sp (an d) code (wB P c.ps c.rs fn.results.toList fun y=>nZ (s8 c.rs y.1 (c.out d).1++lQ c.ps y.2 (c.out d).2)))):ax P sp.gl f c.spec:=by
 intro base svs h d r e hp w0 N0 A env w vs hG m hd
 unfold Ct.spec at e
 obtain⟨⟨dd,fz,bx,cx⟩,q1,q2,e1,e2,rfl⟩:=Q.run_bind _ _ _ e
 split at e2
 case h_2=>cases e2
 rename_i hnm
 obtain⟨rfl,hun⟩:=zw e2
 refine (MO (rs:=c.rs) (fun d y=>nZ (s8 c.rs y.1 (c.out d).1++lQ c.ps y.2 (c.out d).2)) hf hb hs av an e1 hnm hun (fun hw=>Gv.1 vc dd hw (u6.2 hp)) hG m hd).mono ?_
 rintro e' w' ⟨v,y,rfl,hy,A',env',h1,h2,h3⟩
 obtain⟨hy1,hy2⟩:=mT.1 (u6.1 hy)
 have:y=c.out dd:=Prod.ext (G8 hy1) (qH hy2)
 subst this
 exact⟨v,rfl,(),A',env',trivial,h1,h2,h3⟩
theorem Cn.ok(c:Cn){f:FuncId}{fn:Func}{code:Code}(hf:P.funcs[f]? = some fn)(hb:fn.body=some code)(hs:i5 P sp)(av:P.follows .mixedOrders=true)(an:ar c.ps->az)
  (vc:sW c.ps fun d=>te c.ps d->nZ (c.pre d)->rk (sV c.ps d fn.ntmps) (sx P sp (an d) code (wB P c.ps c.rs fn.results.toList (c.post d)))):ax P sp.gl f c.spec:=by
 intro base svs h d r e hp w0 N0 A env w vs hG m hd
 unfold Cn.spec at e
 obtain⟨⟨dd,fz,bx,cx⟩,q1,q2,e1,e2,rfl⟩:=Q.run_bind _ _ _ e
 split at e2
 case h_2=>cases e2
 rename_i hnm
 obtain⟨rfl,hun⟩:=zw e2
 refine (MO (rs:=c.rs) c.post hf hb hs av an e1 hnm hun (fun hw=>Gv.1 vc dd hw (u6.2 hp)) hG m hd).mono ?_
 rintro e' w' ⟨v,y,rfl,hy,A',env',h1,h2,h3⟩
 refine⟨v,rfl,y,A',env',hy,?_,h2,h3⟩
 show aT w0 N0 A' env' (bR ((vP c.ps c.rs base fz bx cx).map fun p=>(p.1,p.2 y)) h) w'
 rw[LJ];exact h1
def Ct.nspec(c:Ct):Spec:=fun base svs=>(eZ none c.ps svs).bind fun p=>match wD p.2.1 p.2.2.1 p.2.2.2 with
 | true=>nj base (eI c.rs+gB c.ps) (.nd (gw c.rs×d7 c.ps) (H1 c.rs c.ps) (c.pre p.1) (fun y=>nZ (s8 c.rs y.1 (c.out p.1).1++lQ c.ps y.2 (c.out p.1).2)) (fun _=>⟨c.out p.1,u6.2 (mT.2 ⟨DX,qf⟩)⟩)
   (fun y=>nL (iu (p.2.2.1.headD 0) c.rs y.1 base)) (vP c.ps c.rs base p.2.1 p.2.2.1 p.2.2.2))
 | false => .fail
theorem Ha{h:aX}{dl d:Dl}:∀{k n:Nat}{r:List Nat},(nj n k dl).run h=some (d,r)→∀ dl',(nj n k dl').run h=some (dl',r)
 | 0,n,r,e,dl'=>by
  simp only[nj,Q.run,Option.some.injEq,Prod.mk.injEq] at e ⊢
  exact⟨trivial,e.2⟩
 | k+1,n,r,e,dl'=>by
  simp only[nj,Q.run] at e ⊢
  split at e
  ·rename_i p q hk
   simp only[Option.some.injEq,Prod.mk.injEq] at e
   obtain⟨rfl,rfl⟩:=e
   split at hk
   ·rename_i hun
    have:=Ha hk dl'
    rw[this]
   ·cases hk
  ·cases e
universe u v
theorem Q.bind_run1{h:aX}{α:Type u}{β:Type v}(q:Q α)(f:α->Q β){a:α}{r1:List Nat}{b:β}{r2:List Nat}(h1:q.run h=some (a,r1))(h2:(f a).run h=some (b,r2)):(q.bind f).run h=some (b,r1++r2):=by
 induction q generalizing r1 with
 | ret x=>simp only[Q.run,Option.some.injEq,Prod.mk.injEq] at h1;obtain⟨rfl,rfl⟩:=h1;simpa[Q.bind] using h2
 | ask n k ih =>
  simp only[Q.run] at h1
  split at h1
  ·rename_i x y hk
   simp only[Option.some.injEq,Prod.mk.injEq] at h1
   obtain⟨rfl,rfl⟩:=h1
   simp only[Q.bind,Q.run,ih _ hk,List.cons_append]
  ·cases h1
 | fail=>cases h1
theorem Ct.named{G:pH}{c:Ct}{f:FuncId}(ok:ax P G f c.spec):ax P G f c.nspec:=by
 intro base svs h d r e hp w0 N0 A env w vs hG m hd
 unfold Ct.nspec at e
 obtain⟨⟨dd,fz,bx,cx⟩,q1,q2,e1,e2,rfl⟩:=Q.run_bind _ _ _ e
 split at e2
 case h_2=>cases e2
 rename_i hnm
 obtain⟨rfl,hun⟩:=zw e2
 have e3:=Ha e2 (.det (c.pre dd) (nL (iu (bx.headD 0) c.rs (c.out dd).1 base)) (qr c.ps c.rs (c.out dd) base fz bx cx))
 have e4:(c.spec base svs).run h=some (.det (c.pre dd) (nL (iu (bx.headD 0) c.rs (c.out dd).1 base)) (qr c.ps c.rs (c.out dd) base fz bx cx),q1++q2):=by
  unfold Ct.spec
  refine Q.bind_run1 _ _ e1 ?_
  simp only at hnm ⊢
  rw[hnm]
  exact e3
 refine (ok base svs h _ _ e4 hp w0 N0 A env w vs hG m hd).mono ?_
 rintro e' w' ⟨v,he,x,A',env',_,h1,h2,h3⟩
 refine⟨v,he,c.out dd,A',env',u6.2 (mT.2 ⟨DX,qf⟩),?_,h2,h3⟩
 show aT w0 N0 A' env' (bR ((vP c.ps c.rs base fz bx cx).map fun p=>(p.1,p.2 (c.out dd))) h) w'
 rw[LJ];exact h1
end
end Go.SX

/- SX, part 23: from a law's arguments to data, and a law's contract to its row. -/
namespace Go.SX
open Go.ChangeShapes Go.WideShapes Go.ChangeAt Go.RowKit
set_option linter.unusedVariables false
universe u v
def qI(P:Program)(f:CT->TypeId->Bool):List Field->CT->Nat->Bool
 | [],_,_=>false
 | [fd],t,o=>f t fd.type&&Nat.beq fd.offset o&&Nat.beq (P.cellsOf fd.type) t.size
 | fd::g::r,.pair a b,o=>f a fd.type&&Nat.beq fd.offset o&&Nat.beq (P.cellsOf fd.type) a.size&&qI P f (g::r) b (o+a.size)
 | _,_,_=>false
def qS(P:Program)(f:CT->TypeId->Bool)(e:TypeId):Nat->CT->Bool
 | 0,_=>false
 | 1,t=>f t e&&Nat.beq (P.cellsOf e) t.size
 | n+2,.pair a b=>f a e&&Nat.beq (P.cellsOf e) a.size&&qS P f e (n+1) b
 | _,_=>false
def jE(P:Program):Nat->CT->TypeId->Bool
 | 0,_,_=>false
 | n+1,t,τ=>match P.underlying τ,t with
  | some (.int k),.int k'=>ja k k'
  | some .bool,.bool=>true
  | some .string,.str=>true
  | some (.slice e),.sl u=>jE P n u e&&Nat.beq (P.cellsOf e) u.size
  | some (.struct fs),t=>qI P (jE P n) fs.toList t 0
  | some (.array k e),t=>qS P (jE P n) e k t
  | _,_=>false
section
variable {H:Type} {enc:TypeId×Value->H} {P:Program} {w:World} {base:Nat} {held:Bool}
theorem su{A:Nat->Prop}{t:CT}{cs:List Value}{o sz:Nat}{d:t.D}(hs:sz=t.size)(h:Rd A w t (fun j=>((cs.drop o).take sz)[j]?) 0 d):Rd A w t (fun j=>cs[j]?) o d:=by
 have:=sQ h o
 rw[Nat.zero_add] at this
 refine fA (fun _ h=>h) (fun _ _ _=>rfl) t _ _ _ _ (fun j hj=>?_) this
 simp only[List.getElem?_take,Nat.add_sub_cancel_left]
 rw[if_pos (by omega),List.getElem?_drop]
theorem G6{A:Nat->Prop}{f:CT->TypeId->Bool}{cs:List Value}{n:Nat}
  (hf:∀ t τ cs x,f t τ=true->DataW.trod enc P w base (fun _=>true) held n τ cs=some x→∃ d,Rd A w t (fun j=>cs[j]?) 0 d) :
  ∀(fs:List Field)(t:CT)(o:Nat),qI P f fs t o=true->(∀ fd∈fs,∃ x,DataW.trod enc P w base (fun _=>true) held n fd.type ((cs.drop fd.offset).take (P.cellsOf fd.type))=some x)→∃ d,Rd A w t (fun j=>cs[j]?) o d
 | [],t,o,h,_=>by cases h
 | [fd],t,o,h,hx=>by
  simp only[qI,Bool.and_eq_true] at h
  obtain⟨⟨h1,h2⟩,h3⟩:=h
  have h2:=Nat.eq_of_beq_eq_true h2
  have h3:=Nat.eq_of_beq_eq_true h3
  obtain⟨x,hx⟩:=hx fd (by simp)
  obtain⟨d,hd⟩:=hf t fd.type _ x h1 hx
  rw[h2] at hd
  exact⟨d,su h3 hd⟩
 | fd::g::r,.pair a b,o,h,hx=>by
  simp only[qI,Bool.and_eq_true] at h
  obtain⟨⟨⟨h1,h2⟩,h3⟩,h4⟩:=h
  have h2:=Nat.eq_of_beq_eq_true h2
  have h3:=Nat.eq_of_beq_eq_true h3
  obtain⟨x,hx1⟩:=hx fd (by simp)
  obtain⟨d,hd⟩:=hf a fd.type _ x h1 hx1
  rw[h2] at hd
  obtain⟨d',hd'⟩:=G6 hf (g::r) b (o+a.size) h4 (fun fd' hm=>hx fd' (List.mem_cons_of_mem _ hm))
  exact⟨(d,d'),su h3 hd,hd'⟩
 | _::_::_,.int _,_,h,_=>by cases h
 | _::_::_,.bool,_,h,_=>by cases h
 | _::_::_,.str,_,h,_=>by cases h
 | _::_::_,.sl _,_,h,_=>by cases h
theorem Of{A:Nat->Prop}{f:CT->TypeId->Bool}{cs:List Value}{n:Nat}{e:TypeId}
  (hf:∀ t τ cs x,f t τ=true->DataW.trod enc P w base (fun _=>true) held n τ cs=some x→∃ d,Rd A w t (fun j=>cs[j]?) 0 d) :
  ∀(k:Nat)(t:CT)(i:Nat),qS P f e k t=true->(∀ j,i<=j->j<i+k→∃ x,DataW.trod enc P w base (fun _=>true) held n e ((cs.drop (j*P.cellsOf e)).take (P.cellsOf e))=some x)→∃ d,Rd A w t (fun j=>cs[j]?) (i*P.cellsOf e) d
 | 0,t,i,h,_=>by cases h
 | 1,t,i,h,hx=>by
  simp only[qS,Bool.and_eq_true] at h
  obtain⟨h1,h2⟩:=h
  have h2:=Nat.eq_of_beq_eq_true h2
  obtain⟨x,hx⟩:=hx i (by omega) (by omega)
  obtain⟨d,hd⟩:=hf t e _ x h1 hx
  exact⟨d,su h2 hd⟩
 | k+2,.pair a b,i,h,hx=>by
  simp only[qS,Bool.and_eq_true] at h
  obtain⟨⟨h1,h2⟩,h4⟩:=h
  have h2:=Nat.eq_of_beq_eq_true h2
  obtain⟨x,hx1⟩:=hx i (by omega) (by omega)
  obtain⟨d,hd⟩:=hf a e _ x h1 hx1
  obtain⟨d',hd'⟩:=Of hf (k+1) b (i+1) h4 (fun j h1 h2=>hx j (by omega) (by omega))
  refine⟨(d,d'),su h2 hd,?_⟩
  rw[Nat.add_mul,Nat.one_mul] at hd'
  rw[← h2];exact hd'
 | _+2,.int _,_,h,_=>by cases h
 | _+2,.bool,_,h,_=>by cases h
 | _+2,.str,_,h,_=>by cases h
 | _+2,.sl _,_,h,_=>by cases h
theorem Wk{α:Type}(n:Nat)(p:Nat->α->Prop)(h:∀ i,i<n→∃ a,p i a):∃ l:List α,l.length=n∧∀ i (hi:i<l.length),p i l[i]:=by
 induction n with
 | zero=>exact⟨[],rfl,fun i hi=>by simp at hi⟩
 | succ n ih =>
  obtain⟨l,hl,hp⟩:=ih fun i hi=>h i (by omega)
  obtain⟨a,ha⟩:=h n (by omega)
  refine⟨l++[a],by simp[hl],fun i hi=>?_⟩
  by_cases hlt:i<l.length
  ·rw[List.getElem_append_left hlt];exact hp i hlt
  ·have:i=l.length:=by simp at hi;omega
   subst this
   simp only[List.getElem_concat_length]
   rw[hl];exact ha
theorem GJ(b off n:Nat):(⟨b,off,none⟩:Addr).add n=⟨b,off+n,none⟩:=by
 unfold Addr.add
 split
 ·rename_i h;subst h;rfl
 ·rfl
theorem JH{k:IntKind}{n:Int}(h:(Lit.int k n).wf=true):k.has n:=by
 simp only[Lit.wf,Bool.and_eq_true,decide_eq_true_eq] at h;exact h
theorem zF:∀(n:Nat)(t:CT)(τ:TypeId)(fuel:Nat)(cs:List Value)(x:DataW H×List MemPlace),jE P n t τ=true->DataW.trod enc P w base (fun _=>true) held fuel τ cs=some x →
  ∃ d,Rd (fun b=>b<w.heap.size) w t (fun j=>cs[j]?) 0 d
 | 0,t,τ,fuel,cs,x,h,_=>by cases h
 | n+1,t,τ,fuel,cs,x,h,hx=>by
  unfold jE at h
  split at h
  ·rename_i k k' hu
   cases jk h
   obtain⟨m,rfl,_,hw⟩:=DataW.trod_int hu hx
   exact⟨m,by simp,JH hw⟩
  ·rename_i hu
   obtain⟨b,rfl,_⟩:=DataW.trod_bool hu hx
   exact⟨b,by simp[Rd]⟩
  ·rename_i hu
   obtain⟨s,rfl,_,hs⟩:=DataW.trod_string hu hx
   exact⟨s,by simp,hs⟩
  ·rename_i e u hu
   simp only[Bool.and_eq_true] at h
   obtain⟨h1,h2⟩:=h
   have h2:=Nat.eq_of_beq_eq_true h2
   rcases DataW.trod_slice hu hx with⟨rfl,_⟩|⟨a,len,cap,elems,rest,m,_,rfl,_,_,hl,hm,hlen,hel,hsp,_⟩
   ·exact⟨[],oH.2 ⟨_,rfl,by simp,.inl ⟨⟨_,rfl⟩,rfl⟩⟩⟩
   ·have hcap:=(hsp rfl)
    by_cases h0:cap=0
    ·have:len=0:=by omega
     subst this h0
     exact⟨[],oH.2 ⟨_,rfl,by simp,.inl ⟨⟨_,rfl⟩,rfl⟩⟩⟩
    ·-- the cells that are there
     have first:∃ v,w.cell? a=some v:=by
      have hb:∃ cs',w.cells? base (a.add 0) (P.cellsOf e)=some cs':=by
       by_cases hl0:0<len
       ·have:=hel 0 hl0
        rw[Nat.zero_mul] at this
        have hs:∃ y,elems[0]? = some y:=⟨_,List.getElem?_eq_getElem (by omega)⟩
        obtain⟨y,hy⟩:=hs
        rw[hy,Option.bind_eq_some_iff] at this
        obtain⟨cs',hcs,_⟩:=this
        exact⟨cs',hcs⟩
       ·have:=hcap.2 0 (by omega)
        have hz:(len+0)*P.cellsOf e=0:=by
         have:len=0:=by omega
         subst this;simp
        rw[hz] at this
        have hs:∃ y,rest[0]? = some y:=⟨_,List.getElem?_eq_getElem (by omega)⟩
        obtain⟨y,hy⟩:=hs
        rw[hy,Option.bind_eq_some_iff] at this
        obtain⟨cs',hcs,_⟩:=this
        exact⟨cs',hcs⟩
      obtain⟨cs',hcs⟩:=hb
      obtain⟨_,hl1,hl2⟩:=World.cells?_some hcs
      have hp:=u.size_pos
      have:=hl2 0 (by omega)
      refine⟨cs'[0]'(by omega),?_⟩
      rw[List.getElem?_eq_getElem (by omega)] at this
      simpa[Addr.add] using this
     obtain⟨v0,hv0⟩:=first
     have hspot:=World.cell?_spot hv0
     obtain⟨b,off,spot⟩:=a
     simp only at hspot
     subst hspot
     have hlt:b<w.heap.size:=by
      unfold World.cell? at hv0
      simp only at hv0
      split at hv0
      ·rename_i c E sp hb
       exact (Array.getElem?_eq_some_iff.1 hb).1
      ·cases hv0
     obtain⟨xs,hxl,hxp⟩:=Wk len (fun i d=>Rd (fun b=>b<w.heap.size) w u (fun o=>w.cell? ⟨b,o,none⟩) (off+i*u.size) d) fun i hi=>by
      have:=hel i hi
      rw[List.getElem?_eq_getElem (by omega),Option.bind_eq_some_iff] at this
      obtain⟨cs',hcs,ht⟩:=this
      obtain⟨_,hl1,hl2⟩:=World.cells?_some hcs
      obtain⟨d,hd⟩:=zF n u e _ cs' _ h1 ht
      refine⟨d,?_⟩
      have:=sQ hd (off+i*u.size)
      rw[Nat.zero_add] at this
      refine fA (fun _ h=>h) (fun _ _ _=>rfl) u _ _ _ _ (fun j hj=>?_) this
      have:=hl2 j (by omega)
      rw[GJ,GJ,h2] at this
      rw[Nat.add_sub_cancel_left,← this]
     subst hxl
     exact⟨xs,oH.2 ⟨_,rfl,by omega,.inr ⟨b,off,cap,rfl,hl,hm,hlt,fun i hi=>hxp i hi⟩⟩⟩
  ·rename_i t' fs hu
   obtain⟨xs,m,_,_,hl,hlen,hf⟩:=DataW.trod_struct hu hx
   refine G6 (n:=m) (fun t τ cs x h1 h2=>zF n t τ m cs x h1 h2) fs.toList _ 0 h fun fd hm=>?_
   obtain⟨i,hi,rfl⟩:=List.mem_iff_getElem.1 hm
   have:=hf i fs[i] (Array.getElem?_eq_getElem (by simpa using hi))
   have hi':i<fs.size:=by simpa using hi
   rw[List.getElem?_eq_getElem (by omega)] at this
   exact⟨_,by simpa using this⟩
  ·rename_i t' k e hu
   obtain⟨xs,m,_,_,hl,hlen,hf⟩:=DataW.trod_array hu hx
   have:=Of (n:=m) (cs:=cs) (e:=e) (fun t τ cs x h1 h2=>zF n t τ m cs x h1 h2) k _ 0 h fun j _ hj=>by
    have:=hf j (by omega)
    rw[List.getElem?_eq_getElem (by omega)] at this
    exact⟨_,this⟩
   simpa using this
  ·cases h
abbrev lY:=List (Bool×CT)
def iI:lY->List PK
 | []=>[]
 | (true,t)::r => .agg t::iI r
 | (false,t)::r => .val t::iI r
def vW:(l:lY)->d7 (iI l)
 | []=>()
 | (true,_)::r=>vW r
 | (false,_)::r=>vW r
def xo(l:lY):Ct:=⟨iI l,[.val .bool],fun _=>[],fun _=>((true,()),vW l)⟩
def pj(P:Program)(τ:TypeId):Bool:=match P.underlying τ with
 | some (.struct _)=>true
 | some (.array _ _)=>true
 | _=>false
def yP:CT->Bool
 | .pair _ _=>false
 | _=>true
def yD(P:Program):lY->List TypeId->Bool
 | [],[]=>true
 | (b,t)::r,τ::τs=>(match b,pj P τ with|true,true=>true|false,false=>yP t|_,_=>false)&&jE P 12 t τ&&Nat.beq (P.cellsOf τ) t.size&&yD P r τs
 | _,_=>false
theorem QO{r:Reach}{b0:Nat}{τ:TypeId}{v:Value}(h:pj P τ=true)(hv:Value.okWide P w r b0 τ v):∃ vs,v = .agg vs/\vs.size=P.cellsOf τ:=by
 unfold pj at h
 unfold Value.okWide at hv
 split at h
 ·rename_i fs hu;rw[hu] at hv;obtain⟨cs,h1,h2,_⟩:=hv;exact⟨cs,h1,h2⟩
 ·rename_i fs hu;rw[hu] at hv;obtain⟨cs,h1,h2,_⟩:=hv;exact⟨cs,h1,h2⟩
 ·cases h
theorem Xz{r:Reach}{b0:Nat}{τ:TypeId}{v:Value}(ht:P.underlying τ=some .bool)(h:Value.okWide P w r b0 τ v):∃ b,v = .bool b:=by
 simp only[Value.okWide,ht,Cell.okWide] at h
 cases v <;> simp_all[Cell.ok]
theorem U5{r:Reach}{b0:Nat}{n:Nat}{t:CT}{τ:TypeId}{v:Value}(hf:yP t=true)(hq:pj P τ=false)(h:jE P n t τ=true)(hv:Value.okWide P w r b0 τ v):v.cells = #[v]:=by
 cases n with
 | zero=>cases h
 | succ n =>
  unfold jE at h
  split at h
  ·rename_i k k' hu;obtain⟨m,rfl⟩:=okWide_int hu hv;rfl
  ·rename_i hu;obtain⟨m,rfl⟩:=Xz hu hv;rfl
  ·rename_i hu;obtain⟨m,rfl⟩:=okWide_string hu hv;rfl
  ·rename_i e u hu;obtain⟨a,l,c,rfl⟩:=okWide_slice hu hv;rfl
  ·rename_i t' fs hu;unfold pj at hq;rw[hu] at hq;cases hq
  ·rename_i t' k e hu;unfold pj at hq;rw[hu] at hq;cases hq
  ·cases h
theorem TS(k:IntKind):ja k k=true:=by cases k <;> rfl
theorem PI{t:CT}{xs:List t.D}:fi t t xs=some xs:=by unfold fi;rw[dif_pos rfl]
theorem Ax{h:aX}:∀(t:CT)(d:t.D)(rest:List SV),(gE t (cB t d++rest)).run h=some ((d,rest,[]),[])
 | .int k,d,rest=>by simp only[cB,List.cons_append,List.nil_append,gE,TS];rfl
 | .bool,d,rest=>rfl
 | .str,d,rest=>rfl
 | .sl t,d,rest=>by simp only[cB,List.cons_append,List.nil_append,gE,PI];rfl
 | .pair a b,d,rest=>by
  have bindrun:∀{α β:Type}(q:Q α)(f:α->Q β)(x:α)(y:β),q.run h=some (x,[])->(f x).run h=some (y,[])->(q.bind f).run h=some (y,[]):=by
   intro α β q
   induction q with
   | ret a=>intro f x y h1 h2;simp only[Q.run,Option.some.injEq,Prod.mk.injEq] at h1;rw[← h1.1] at h2;exact h2
   | ask n k ih =>
    intro f x y h1 h2
    simp only[Q.run] at h1
    split at h1
    ·simp only[Option.some.injEq,Prod.mk.injEq] at h1
     exact absurd h1.2 (by simp)
    ·cases h1
   | fail=>intro f x y h1 h2;cases h1
  simp only[cB,List.append_assoc,gE]
  refine bindrun _ _ _ _ (Ax a d.1 (cB b d.2++rest)) ?_
  exact bindrun _ _ _ _ (Ax b d.2 rest) rfl
theorem Q.bind_run0{h:aX}{α:Type u}{β:Type v}(q:Q α)(f:α->Q β)(x:α)(y:β)(h1:q.run h=some (x,[]))(h2:(f x).run h=some (y,[])):(q.bind f).run h=some (y,[]):=by
 cases q with
 | ret a=>simp only[Q.run,Option.some.injEq,Prod.mk.injEq] at h1;rw[← h1.1] at h2;exact h2
 | ask n k =>
  simp only[Q.run] at h1
  split at h1
  ·simp only[Option.some.injEq,Prod.mk.injEq] at h1
   exact absurd h1.2 (by simp)
  ·cases h1
 | fail=>cases h1
theorem SR{t:CT}(hf:yP t=true)(d:t.D):cB t d=[vq t d]:=by
 cases t <;> first|rfl|cases hf
def tg:lY->Bool
 | []=>true
 | (b,t)::r=>(b||yP t)&&tg r
theorem Da{h:aX}:∀(l:lY)(d:ar (iI l)),tg l=true->(eZ none (iI l) (fJ (iI l) d 0 0)).run h=some ((d,[],[],[]),[])
 | [],d,_=>rfl
 | (true,t)::r,d,hok=>by
  simp only[tg,Bool.and_eq_true] at hok
  simp only[iI,fJ,eZ]
  refine Q.bind_run0 _ _ _ _ (by have:=Ax (h:=h) t d.1 [];rw[List.append_nil] at this;exact this) ?_
  exact Q.bind_run0 _ _ _ _ (Da r d.2 hok.2) rfl
 | (false,t)::r,d,hok=>by
  simp only[tg,Bool.and_eq_true,Bool.false_or] at hok
  simp only[iI,fJ,eZ]
  refine Q.bind_run0 _ _ _ _ (by have:=Ax (h:=h) t d.1 [];rw[List.append_nil,SR hok.1] at this;exact this) ?_
  exact Q.bind_run0 _ _ _ _ (Da r d.2 hok.2) rfl
theorem Hy{r:Reach}{b0:Nat}:∀(l:lY)(τs:List TypeId)(vs:List Value)(ds:List (DataW H))(ps:List MemPlace),yD P l τs=true->DataW.TrodAll enc P w base (fun _=>true) held τs vs ds ps →
  (∀(j:Nat) t v,τs[j]? = some t->vs[j]? = some v->Value.okWide P w r b0 t v)->tg l=true∧∃ d:ar (iI l),aB (fun b=>b<w.heap.size) (fun _=>.un) w (fJ (iI l) d 0 0) vs
 | [],[],vs,ds,ps,h,ht,hv=>by
  obtain⟨rfl,_,_⟩:=trodAll_nil ht
  exact⟨rfl,(),by simp[iI,fJ,aB]⟩
 | (b,t)::l,τ::τs,vs,ds,ps,h,ht,hv=>by
  obtain⟨v,vs',d,ds',p,q,rfl,rfl,rfl,h0,hr⟩:=trodAll_cons ht
  simp only[yD,Bool.and_eq_true] at h
  obtain⟨⟨⟨h1,h2⟩,h3⟩,h4⟩:=h
  have h3:=Nat.eq_of_beq_eq_true h3
  obtain⟨g1,d2,g2⟩:=Hy l τs vs' ds' q h4 hr (fun j t v ht hv'=>hv (j+1) t v (by simpa using ht) (by simpa using hv'))
  have hv0:=hv 0 τ v rfl rfl
  obtain⟨fuel,hf⟩:=h0
  obtain⟨d1,hd1⟩:=zF 12 t τ fuel _ _ h2 hf
  cases b with
  | true =>
   have hag:pj P τ=true:=by
    cases hq:pj P τ with
    | true=>rfl
    | false=>rw[hq] at h1;cases h1
   obtain⟨us,rfl,hus⟩:=QO hag hv0
   refine⟨by simp[tg,g1],(d1,d2),?_⟩
   simp only[iI,fJ,aB,af]
   refine⟨_,vs',rfl,⟨us,rfl,Bf (by simpa using hus.trans h3) (by simpa[Value.cells] using hd1)⟩,g2⟩
  | false =>
   have hq:pj P τ=false:=by
    cases hq:pj P τ with
    | true=>rw[hq] at h1;cases h1
    | false=>rfl
   rw[hq] at h1
   simp only at h1
   refine⟨by simp[tg,g1,h1],(d1,d2),?_⟩
   simp only[iI,fJ,aB]
   have hc:=U5 h1 hq h2 hv0
   rw[hc] at hd1
   exact⟨v,vs',rfl,FJ (rest:=[]) (by simpa using hd1),g2⟩
 | [],_::_,_,_,_,h,_,_=>by cases h
 | _::_,[],_,_,_,h,_,_=>by cases h
def GlobsOK(w:World)(G:pH):Prop:=∀ g x,G g=some x->g<w.heap.size/\Rd (fun b=>b<w.heap.size) w x.1 (fun o=>w.cell? ⟨g,o,none⟩) 0 x.2
theorem law_walkG{G:pH}(hG:GlobsOK w G){f:FuncId}{l:lY}(ok:ax P G f (xo l).spec){r:Reach}{b0:Nat}{τs:List TypeId}{args:Array Value}{ds:List (DataW H)}{ps:List MemPlace}(hl:yD P l τs=true)
  (ht:DataW.TrodAll enc P w base (fun _=>true) held τs args.toList ds ps) (hv:∀(j:Nat) t v,τs.toArray[j]? = some t->args[j]? = some v->Value.okWide P w r b0 t v) :
  Calls P f args w fun e w'=>e = .returned (.bool true)/\Below w.heap.size w w':=by
 obtain⟨hok,d,hd⟩:=Hy l τs args.toList ds ps hl ht (fun j t v h1 h2=>hv j t v (by simpa using h1) (by simpa using h2))
 have hkeep:uh (iI l) [.val .bool]=false:=by
  have:∀ l:lY,jB (iI l)=true:=by
   intro l
   induction l with
   | nil=>rfl
   | cons x l ih=>obtain⟨b,t⟩:=x;cases b <;> exact ih
  simp only[uh,this,pS,CT.plain,Bool.and_self,Bool.not_true]
 have hbU:∀ nb,dZ 0 (iI l) (vW l) [] nb=[]:=by
  intro nb
  induction l with
  | nil=>rfl
  | cons x l ih =>
   obtain⟨b,t⟩:=x
   have:∀ l:lY,dZ 0 (iI l) (vW l) [] nb=[]:=by
    intro l
    induction l with
    | nil=>rfl
    | cons x l ih=>obtain⟨b,t⟩:=x;cases b <;> exact ih
   cases b <;> exact this l
 have hnU:∀(l:lY) nb,fC (iI l) (vW l) nb=[]:=by
  intro l nb
  induction l with
  | nil=>rfl
  | cons x l ih=>obtain⟨b,t⟩:=x;cases b <;> exact ih
 have hnB:∀(l:lY),gB (iI l)=0:=by
  intro l
  induction l with
  | nil=>rfl
  | cons x l ih=>obtain⟨b,t⟩:=x;cases b <;> exact ih
 have hrun:((xo l).spec 0 (fJ (iI l) d 0 0)).run (fun _=>.un)=some (Dl.det [] (.bool true) [],[]):=by
  unfold Ct.spec
  refine Q.bind_run0 _ _ _ _ (Da l d hok) ?_
  simp only[wD,gK,List.append_nil,wX,xZ,xo,qr,hkeep,hbU,hnU,hnB,ly,jo,iu,nL,vq,cB,eI,nj,List.headD_nil]
  rfl
 have m:aT w ⟨fun _=>False,fun b=>b<w.heap.size,G⟩ (fun b=>b<w.heap.size) (fun _=>.un) (fun _=>.un) w :=
  ⟨rfl,rfl,rfl,Nat.le_refl _,fun _ _ _=>rfl,fun _ h=>h,fun _=>rfl,fun _ _ _ _ h=>(by cases h),fun _ _ _ _ _ _ _ h=>(by cases h),fun b hb=>.inl hb,hG⟩
 have:=ok 0 (fJ (iI l) d 0 0) (fun _=>.un) _ _ hrun trivial w _ _ _ w args.toList rfl m hd
 refine Calls.mono this ?_
 rintro e w' ⟨v,rfl,x,A',env',_,hm,_,hden⟩
 simp only[Dl.val,af] at hden
 exact⟨by rw[hden],hm.os,hm.tape,hm.output,hm.size,fun k hk=>hm.fr k hk (fun h=>h)⟩
theorem law_walk{f:FuncId}{l:lY}(ok:ax P (fun _=>none) f (xo l).spec){r:Reach}{b0:Nat}{τs:List TypeId}{args:Array Value}{ds:List (DataW H)}{ps:List MemPlace}(hl:yD P l τs=true)
  (ht:DataW.TrodAll enc P w base (fun _=>true) held τs args.toList ds ps) (hv:∀(j:Nat) t v,τs.toArray[j]? = some t->args[j]? = some v->Value.okWide P w r b0 t v) :
  Calls P f args w fun e w'=>e = .returned (.bool true)/\Below w.heap.size w w':=law_walkG (fun g x h=>by cases h) ok hl ht hv
def EY(P:Program):List TypeId->Bool
 | []=>true
 | t::r=>P.readableRec t&&decide (t<P.types.size)&&EY P r
theorem trodAll_below(hl:laidOutB P=true):∀{τs:List TypeId}{vs:List Value}{ds:List (DataW H)}{ps:List MemPlace}{w':World},EY P τs=true →
  DataW.TrodAll enc P w 0 (fun _=>true) true τs vs ds ps->Below w.heap.size w w'→DataW.TrodAll enc P w' 0 (fun b=>decide (b<w.heap.size)) true τs vs ds ps
 | [],vs,ds,ps,w',_,h,hb=>by
  obtain⟨rfl,rfl,rfl⟩:=trodAll_nil h
  exact trodAll_mk0
 | τ::τs,vs,ds,ps,w',hr,h,hb=>by
  obtain⟨v,vs',d,ds',p,q,rfl,rfl,rfl,h0,hr'⟩:=trodAll_cons h
  simp only[EY,Bool.and_eq_true,decide_eq_true_eq] at hr
  have lt:∀ x∈p,x.block<w.heap.size:=by
   obtain⟨m,hm⟩:=h0
   exact DataW.trod_lt m _ _ _ hm
  exact trodAll_cons_mk (Below.trod hl hr.1.1 hr.1.2 h0 hb lt) (trodAll_below hl hr.2 hr' hb)
end
end Go.SX

/- SX, part 24: what is to be shown of a function, under one name. -/
namespace Go.SX
set_option linter.unusedVariables false
def zb(fn:Func):Code:=match fn.body with
 | some c=>c
 | none => .skip
def Ct.vc(P:Program)(sp:dQ)(c:Ct)(fn:Func)(an:ar c.ps->az):Prop :=
 sW c.ps fun d=>te c.ps d->nZ (c.pre d)->rk (sV c.ps d fn.ntmps) (sx P sp (an d) (zb fn) (wB P c.ps c.rs fn.results.toList fun y=>nZ (s8 c.rs y.1 (c.out d).1++lQ c.ps y.2 (c.out d).2)))
structure DQ (p:Prop):Prop where
 out:p
theorem aC{p q:Prop}(h:p=q)(v:q):DQ p:=⟨Eq.mpr h v⟩
theorem Ct.okH{P:Program}{sp:dQ}(c:Ct){f:FuncId}{fn:Func}(hf:P.funcs[f]? = some fn)(hb:fn.body=some (zb fn))(hs:i5 P sp)(av:P.follows .mixedOrders=true)(an:ar c.ps->az)
  (vc:DQ (Ct.vc P sp c fn an)):ax P sp.gl f c.spec:=c.ok hf hb hs av an vc.out
def Cn.vc(P:Program)(sp:dQ)(c:Cn)(fn:Func)(an:ar c.ps->az):Prop :=
 sW c.ps fun d=>te c.ps d->nZ (c.pre d)->rk (sV c.ps d fn.ntmps) (sx P sp (an d) (zb fn) (wB P c.ps c.rs fn.results.toList (c.post d)))
theorem Cn.okH{P:Program}{sp:dQ}(c:Cn){f:FuncId}{fn:Func}(hf:P.funcs[f]? = some fn)(hb:fn.body=some (zb fn))(hs:i5 P sp)(av:P.follows .mixedOrders=true)(an:ar c.ps->az)
  (vc:DQ (Cn.vc P sp c fn an)):ax P sp.gl f c.spec:=c.ok hf hb hs av an vc.out
def av7(G:pH):dQ:=⟨fun _=>none,G⟩
theorem aD{P:Program}{G:pH}:i5 P (av7 G):=fun f s h=>by cases h
def zj(sp:dQ)(f:FuncId)(s:Spec):dQ:=⟨fun g=>match Nat.beq g f with
 | true=>some s
 | false=>sp.fn g,sp.gl⟩
theorem ah{P:Program}{sp:dQ}{f:FuncId}{s:Spec}(h:i5 P sp)(hs:ax P sp.gl f s):i5 P (zj sp f s):=fun g t e=>by
 unfold zj at e
 simp only at e
 split at e
 ·rename_i hb;cases e;rw[Nat.eq_of_beq_eq_true hb];exact hs
 ·exact h g t e
def ar5(sp:dQ)(d:Nat):dQ:=zj sp (4000000000+d) fun _ _=>.fail
theorem F7{P:Program}{sp:dQ}{d:Nat}(h:i5 P sp):i5 P (ar5 sp d):=ah h fun _ _ _ _ _ e=>by cases e
def ZP(sp:dQ)(d:Nat):dQ:=zj sp (4100000000+d) fun _ _=>.fail
theorem am7{P:Program}{sp:dQ}{d:Nat}(h:i5 P sp):i5 P (ZP sp d):=ah h fun _ _ _ _ _ e=>by cases e
theorem SS{b:Bool}{y n:Prop}:ad b y n↔(b=true->y)/\(b=false->n):=by cases b <;> simp[ad]
end Go.SX

/- SX, plain lemmas for what is to be shown of functions. -/
namespace Go.SX
set_option linter.unusedVariables false
theorem ai{n:Int}(h : -9223372036854775808<=n)(h':n<=9223372036854775807):IntKind.i64.wrap n=n:=IntWalk.i64_in n ⟨h,h'⟩
theorem pV{n:Int}(h:0<=n)(h':n<=4294967295):IntKind.u32.wrap n=n:=IntWalk.u32_in n ⟨h,h'⟩
theorem H8{n:Int}(h:0<=n)(h':n<=18446744073709551615):IntKind.u64.wrap n=n:=IntWalk.u64_in n ⟨h,h'⟩
theorem Qe{y n:Prop}:ad true y n↔y:=Iff.rfl
theorem C3{y n:Prop}:ad false y n↔n:=Iff.rfl
theorem bL{α:Type} [Inhabited α] {xs:List α} {i:Int} (h0:0<=i) (h1:i<xs.length):xs.getD i.toNat default∈xs:=by
 have h:i.toNat<xs.length:=by omega
 rw[List.getD_eq_getElem?_getD,List.getElem?_eq_getElem h];exact List.getElem_mem h
theorem sy{a b:Int}(ha:0<=a):0<=a.tmod b:=Int.tmod_nonneg b ha
theorem sC{a b:Int}(ha:0<=a)(hb:0<b):a.tmod b<b:=Int.tmod_lt_of_pos a hb
theorem ae{b:Bool}{y n:Prop}(hy:b=true->y)(hn:b=false->n):ad b y n:=SS.2 ⟨hy,hn⟩
theorem Kh(n:Int) : -9223372036854775808<=IntKind.i64.wrap n/\IntKind.i64.wrap n<=9223372036854775807:=IntKind.wrap_has .i64 n
theorem Le(n:Int):0<=IntKind.u8.wrap n/\IntKind.u8.wrap n<=255:=IntKind.wrap_has .u8 n
theorem HI(n:Int):0<=IntKind.u32.wrap n/\IntKind.u32.wrap n<=4294967295:=IntKind.wrap_has .u32 n
theorem O0{α:Type} [Inhabited α] {p:α->Prop} {xs:List α} (h:∀ x∈xs,p x) {i:Int} (h0:0<=i) (h1:i<xs.length):p (xs.getD i.toNat default):=h _ (bL h0 h1)
theorem gC{p:Prop} [Decidable p] (h:(!decide p)=true):¬ p:=of_decide_eq_false (by simpa only[Bool.not_eq_true'] using h)
theorem hT{p:Prop} [Decidable p] (h:(!decide p)=false):p:=of_decide_eq_true (by simpa only[Bool.not_eq_false'] using h)
theorem qp{a b:Bool}{y n:Prop}(hy:a=true∨b=true->y)(hn:a=false->b=false->n):ad (bif a then true else b) y n:=by
 cases a with
 | true=>exact hy (.inl rfl)
 | false=>cases b with
  | true=>exact hy (.inr rfl)
  | false=>exact hn rfl rfl
theorem r8{a b:Bool}{y n:Prop}(hy:a=true->b=true->y)(hn:a=false∨b=false->n):ad (bif a then b else false) y n:=by
 cases a with
 | false=>exact hn (.inl rfl)
 | true=>cases b with
  | true=>exact hy rfl rfl
  | false=>exact hn (.inr rfl)
theorem iA{α:Type} [Inhabited α] {l:List α} {i:Nat} {a:α} (h:i<l.length):(l.set i a).getD i default=a:=by
 rw[List.getD_eq_getElem?_getD,List.getElem?_set_self h];rfl
theorem yV{α:Type} [Inhabited α] {q:α->Bool} {l:List α} {j:Int} (h0:0<=j) (h1:j<l.length) (h2:∀ x∈l.take j.toNat,q x=false) (h3:q (l.getD j.toNat default)=true) :
  j=if l.findIdx q<l.length then (l.findIdx q:Int) else -1:=by
 have hj:j.toNat<l.length:=by omega
 rw[List.getD_eq_getElem?_getD,List.getElem?_eq_getElem hj,Option.getD_some] at h3
 have e:l.findIdx q=j.toNat:=(List.findIdx_eq hj).2 ⟨h3,fun k hk=>h2 _ (List.mem_take_iff_getElem.2 ⟨k,by omega,rfl⟩)⟩
 rw[e,if_pos hj];omega
theorem DL{α:Type} [Inhabited α] {q:α->Bool} {l:List α} {j:Int} (h1:¬ j<l.length) (h2:∀ x∈l.take j.toNat,q x=false) :
  (-1:Int)=if l.findIdx q<l.length then (l.findIdx q:Int) else -1:=by
 rw[List.take_of_length_le (by omega)] at h2
 rw[List.findIdx_eq_length_of_false h2,if_neg (Nat.lt_irrefl _)]
theorem rz{α:Type} [Inhabited α] {P:α->Prop} {l:List α} {j:Int} (h0:0<=j) (h1:j<l.length) (h2:∀ x∈l.take j.toNat,P x) (h3:P (l.getD j.toNat default)) :
  ∀ x∈l.take (j+1).toNat,P x:=by
 intro x hx
 have hj:j.toNat<l.length:=by omega
 rw[show (j+1).toNat=j.toNat+1 by omega,List.take_add_one,List.getElem?_eq_getElem hj] at hx
 rw[List.getD_eq_getElem?_getD,List.getElem?_eq_getElem hj,Option.getD_some] at h3
 rcases List.mem_append.1 hx with hx|hx
 ·exact h2 x hx
 ·simp at hx;rw[hx];exact h3
theorem r9{α:Type} [Inhabited α] {l:List α} {k:Int} (h0:0<=k) (h1:k<l.length):l.take (k+1).toNat=l.take k.toNat++[l.getD k.toNat default]:=by
 have e:(k+1).toNat=k.toNat+1:=by omega
 have hk:k.toNat<l.length:=by omega
 rw[e,List.take_add_one,List.getElem?_eq_getElem hk,List.getD_eq_getElem?_getD,List.getElem?_eq_getElem hk]
 rfl
theorem Ew{a b:Prop} [Decidable a] [Decidable b]:(bif decide a then true else decide b)=decide (a∨b):=by by_cases h:a <;> simp[h]
theorem FW{a b:Prop} [Decidable a] [Decidable b]:(bif decide a then decide b else false)=decide (a/\b):=by by_cases h:a <;> simp[h]
theorem YJ{a b:Prop} [Decidable a] [Decidable b]:(bif !decide a then !decide b else false)=decide (¬ a∧¬ b):=by by_cases h:a <;> simp[h]
end Go.SX

/- Base: data types of the program's values. -/
namespace Go.RS
open Go.SX Go.Proofs
set_option maxRecDepth 100000
set_option linter.unusedVariables false
abbrev ab(x:Int):Prop := -9223372036854775808<=x/\x<=9223372036854775807
abbrev sF:CT := .pair (.pair (.int .u32) (.int .i64)) (.int .i64)
abbrev cBlocks:CT := .pair sF (.pair sF (.pair sF (.pair sF (.pair sF (.pair sF (.pair sF sF))))))
def blocksV:cBlocks.D:=(((0,8),1),((2130706432,8),2),((167772160,8),3),((2886729728,12),3),((3232235520,16),3),((2851995648,16),4),((3758096384,4),5),((4026531840,4),6))
def GL:pH:=(fun n=>match n with|0=>some ⟨cBlocks,blocksV⟩|_=>none)
theorem av:Tryz.prog.follows .mixedOrders=true:=Tryz.checked.mixed
abbrev cI:CT := .int .i64
abbrev bj:CT := .int .u8
abbrev cj:CT := .int .u32
abbrev Dv:CT := .int .u64
abbrev f8:CT := .pair (.sl bj) cI
abbrev uI:CT := .pair cI cI
abbrev rT:CT := .pair cI cI
abbrev Dn:CT := .pair cj (.pair cj (.pair cI (.pair cI cI)))
def ay(c:List Int×Int):Prop:=0<=c.2/\c.2<=c.1.length
end Go.RS

/- Draw: the choices of a law, with loose contracts: a number in its range. -/
namespace Go.RS
open Go.SX Go.Proofs
set_option maxRecDepth 100000
set_option linter.unusedVariables false
def O7:Ct:=⟨[.val (.sl bj),.val cI],[.box 109 f8],fun d=>[0<=d.2.1],fun d=>(((if (d.1.length:Int)<=d.2.1 then d.1 else d.1.take d.2.1.toNat,0),()),())⟩
def UG:ar O7.ps->az:=(fun _=>{})
theorem Vo :
 ∀(a:List Int)(b:Int),(a.length<=maxLen/\ ∀(c:Int),c∈a->0<=c/\c<=255)/\ab b/\True->0<=b->ad (decide (b< ↑a.length)) ((0:Int)<=0/\0<=b/\b<= ↑a.length/\(cf a (Int.toNat (0:Int)) b.toNat,(0:Int))=(if↑a.length<=b then a else List.take b.toNat a,(0:Int))) ((a,(0:Int))=(if↑a.length<=b then a else List.take b.toNat a,(0:Int))):=by
  rintro x y ⟨-,⟨h0,h1⟩,-⟩ h
  refine ae (fun hb=>?_) (fun hb=>?_)
  ·have hb:=of_decide_eq_true hb
   refine⟨by omega,h,by omega,?_⟩
   rw[if_neg (by omega)]
   simp[cf]
  ·have hb:=of_decide_eq_false hb
   rw[if_pos (by omega)]
theorem aa3:ax Tryz.prog GL 9 O7.spec:=Ct.okH _ Tryz.func9 (by kernel_rfl) aD av UG (aC (by kernel_rfl) Vo)
def NQ:Cn:=⟨[.box 109 f8,.val cI],[.val cI],fun d=>[ay d.1,d.2.1<=256],fun d y=>0<=y.1.1/\(y.1.1<d.2.1∨y.1.1=0)/\ay y.2.1,fun d h=>⟨((0,()),(d.1,())),by simp,by simp,h.1⟩⟩
def Yh:ar NQ.ps->az:=(fun _=>{})
def Bp(a:List Int)(b c:Int) :=
 c≠(0:Int)/\0<=Int.tmod (IntKind.wrap .i64 (a.getD b.toNat default)) c/\(Int.tmod (IntKind.wrap .i64 (a.getD b.toNat default)) c<c∨Int.tmod (IntKind.wrap .i64 (a.getD b.toNat default)) c=0)/\ay (a,IntKind.wrap .i64 (b+(1:Int)))
theorem Zs :
 ∀(a:List Int)(b c:Int),((a.length<=maxLen/\ ∀(d:Int),d∈a->0<=d/\d<=255)/\ab b)/\ab c/\True->ay (a,b)/\c<=256-> ∀(d:Bool),d=decide (a.length<=b)->((! d)->((! d)->(! d))/\True)/\(d=false->(! d))/\ad (bif d then true else decide (c<1)) ((0:Int)<=0/\(0<c∨(0:Int)=0)/\ay (a,b)) (0<=b/\b< ↑a.length/\ad (decide (256<c)) False (Bp a b c)):=by
  delta Bp
  rintro l p n ⟨⟨⟨hl,hw⟩,h0,h1⟩,⟨h2,h3⟩,-⟩⟨⟨hc1,hc2⟩,hn⟩
  simp only[maxLen] at hl hc1 hc2
  (repeat (intro (b_:Bool) (hb_:b_=_);(repeat refine⟨(by first|(simp;done)|(rw[hb_];simp;done)|(rw[hb_];simp;omega)|(rw[hb_];simp;intros;omega)|(rw[hb_];simp +contextual;done)),?_⟩);subst hb_))
  refine ae (fun hb=>?_) (fun hb=>?_)
  ·exact⟨by omega,by simp,hc1,hc2⟩
  ·simp at hb
   obtain⟨hb1,hb2⟩:=hb
   obtain⟨hm0,hm1⟩:=hw _ (bL hc1 hb1)
   rw[ai (by omega) (by omega),ai (by omega) (by omega)]
   refine⟨hc1,hb1,ae (fun hb=>?_) (fun hb=>?_)⟩
   ·have:=of_decide_eq_true hb;omega
   ·exact⟨by omega,sy hm0,.inl (sC hm0 (by omega)),by simp only[ay];omega⟩
theorem ak2:ax Tryz.prog GL 11 NQ.spec:=Cn.okH _ Tryz.func11 (by kernel_rfl) aD av Yh (aC (by kernel_rfl) Zs)
def JI:Cn:=⟨[.box 109 f8,.val cI],[.val cI],fun d=>[ay d.1],fun d y=>0<=y.1.1/\(y.1.1<d.2.1∨y.1.1=0)/\ay y.2.1,fun d h=>⟨((0,()),(d.1,())),by simp,by simp,h.1⟩⟩
def XN:ar JI.ps->az:=(fun _=>{})
def Ad(a:List Int)(b e:Int) :=
 IntKind.wrap .i64 (IntKind.wrap .i64 ((256:Int)*IntKind.wrap .i64 (a.getD b.toNat default))+e)
theorem Zf :
 ∀(a:List Int)(b c:Int),((a.length<=maxLen/\ ∀(d:Int),d∈a->0<=d/\d<=255)/\ab b)/\ab c/\True->0<=b/\b<= ↑a.length-> ∀(d:Bool),d=decide (a.length<=b)->((! d)->((! d)->(! d))/\True)/\(d=false->(! d))/\ad (bif d then true else decide (c<1)) ((0:Int)<=0/\(0<c∨(0:Int)=0)/\ay (a,b)) (0<=b/\b< ↑a.length/\ad (decide (256<c)) (ay (a,IntKind.wrap .i64 (b+(1:Int)))/\(256:Int)<=256/\ ∀(e:Int)(f:List Int)(g:Int),0<=e/\(e<256∨e=0)/\ay (f,g)->c≠(0:Int)/\0<=Int.tmod (Ad a b e) c/\(Int.tmod (Ad a b e) c<c∨Int.tmod (Ad a b e) c=0)/\ay (f,g)) (Bp a b c)):=by
  delta Bp Ad
  rintro l p n ⟨⟨⟨hl,hw⟩,h0,h1⟩,⟨h2,h3⟩,-⟩⟨hc1,hc2⟩
  simp only[maxLen] at hl hc1 hc2
  (repeat (intro (b_:Bool) (hb_:b_=_);(repeat refine⟨(by first|(simp;done)|(rw[hb_];simp;done)|(rw[hb_];simp;omega)|(rw[hb_];simp;intros;omega)|(rw[hb_];simp +contextual;done)),?_⟩);subst hb_))
  refine ae (fun hb=>?_) (fun hb=>?_)
  ·exact⟨by omega,by simp,hc1,hc2⟩
  ·simp at hb
   obtain⟨hb1,hb2⟩:=hb
   obtain⟨hm0,hm1⟩:=hw _ (bL hc1 hb1)
   rw[ai (by omega) (by omega),ai (n:=l.getD p.toNat default) (by omega) (by omega)]
   refine⟨hc1,hb1,ae (fun hb=>?_) (fun hb=>?_)⟩
   ·refine⟨by simp only[ay];omega,by omega,?_⟩
    rintro r l2 p2 ⟨hr0,hr1,hr2⟩
    rw[ai (n:=256*_) (by omega) (by omega),ai (by omega) (by omega)]
    exact⟨by omega,sy (by omega),.inl (sC (by omega) (by omega)),hr2⟩
   ·exact⟨by omega,sy hm0,.inl (sC hm0 (by omega)),by simp only[ay];omega⟩
theorem pQ:ax Tryz.prog GL 11 JI.spec:=Cn.okH _ Tryz.func11 (by kernel_rfl) (ah aD ak2) av XN (aC (by kernel_rfl) Zf)
end Go.RS

/- Mix: the mixing of 64 bits: what it is, and that it is one to one. -/
namespace Go.RS
open Go.SX
set_option linter.unusedVariables false
def xs(k a:Nat):Nat:=a ^^^ a/2^k
def mu(c a:Nat):Nat:=a*c%18446744073709551616
def An(x:Nat):Nat:=xs 31 (mu 10723151780598845931 (xs 27 (mu 13787848793156543929 (xs 30 ((x+11400714819323198485)%18446744073709551616)))))
def kC(x:Int):Int:=(An x.toNat:Int)
theorem TN{k a:Nat}(ha:a<18446744073709551616):xs k a<18446744073709551616:=by
 have h1:a<2^64:=by omega
 have h2:a/2^k<2^64:=Nat.lt_of_le_of_lt (Nat.div_le_self _ _) h1
 have h3:a ^^^ a/2^k<2^64:=Nat.xor_lt_two_pow h1 h2
 unfold xs
 omega
theorem Ep{c a:Nat}:mu c a<18446744073709551616:=by unfold mu;omega
theorem UH(x:Nat):An x<18446744073709551616:=by
 unfold An
 exact TN Ep
theorem J3(x:Int):0<=kC x/\kC x<=18446744073709551615:=by
 have:=UH x.toNat
 unfold kC
 omega
theorem Fx(n:Nat):IntKind.u64.wrap (n:Int)=((n%18446744073709551616:Nat):Int):=by
 rw[IntKind.wrap_u64,Int.natCast_emod]
 rfl
theorem Xc(n k:Nat)(hk:k<=64):cT .u64 (n:Int) (k:Int)=((n/2^k:Nat):Int):=by
 unfold cT
 have:min (k:Int).toNat IntKind.u64.bits=k:=by simp only[IntKind.bits,Int.toNat_natCast];omega
 rw[this,Int.fdiv_eq_ediv_of_nonneg _ (Int.le_of_lt (Int.pow_pos (by decide))),Int.natCast_ediv,Int.natCast_pow]
 rfl
theorem Cf(n k:Nat)(hk:k<=64)(hn:n<18446744073709551616):bits .xor .u64 (n:Int) (cT .u64 (n:Int) (k:Int))=(xs k n:Int):=by
 rw[Xc n k hk]
 exact bits_xor_u64_nat _ _ hn (Nat.lt_of_le_of_lt (Nat.div_le_self _ _) hn)
theorem O2(n c:Nat):IntKind.u64.wrap ((n:Int)*(c:Int))=(mu c n:Int):=by
 rw[← Int.natCast_mul,Fx];rfl
end Go.RS

/- Balance: mixing, hashing, choosing; the law's draws. -/
namespace Go.RS
open Go.SX Go.Proofs
set_option maxRecDepth 100000
set_option linter.unusedVariables false
def Jy:Cn:=⟨[.box 109 f8],[.val cI],fun d=>[ay d.1],fun d y=>ay y.2.1 ∧ -9223372036854775808<=y.1.1/\y.1.1<=9223372036854775807,fun d h=>⟨((0,()),(d.1,())),h.1,by simp,by simp⟩⟩
def Tw:ar Jy.ps->az:=(fun _=>{})
theorem ae1 :
 ∀(a:List Int)(b:Int),((a.length<=maxLen/\ ∀(c:Int),c∈a->0<=c/\c<=255)/\ab b)/\True->0<=b/\b<= ↑a.length->ay (a,b)/\ ∀(c:Int)(d:List Int)(e:Int),0<=c/\(c<10∨c=0)/\ay (d,e)->ad (decide (c=0)) (ay (d,e)/\ ∀(f:Int)(g:List Int)(h:Int),0<=f/\(f<3∨f=0)/\ay (g,h)->ay (g,h)/\ -9223372036854775808<=IntKind.wrap .i64 ((-1:Int) -f)/\IntKind.wrap .i64 ((-1:Int) -f)<=9223372036854775807) (ad (decide (c=1)) (ay (d,e)/\ ∀(f:Int)(g:List Int)(h:Int),0<=f/\(f<14∨f=0)/\ay (g,h)->0<=f/\f< ↑(List.length [(9223372036854775807:Int),(-9223372036854775808:Int),(1125899906842624:Int),(1125899906842625:Int),(65535:Int),(65536:Int),(255:Int),(256:Int),(1023:Int),(1024:Int),(65534:Int),(65535:Int),(4294967296:Int),(4611686018427387905:Int)])/\ay (g,h)/\ -9223372036854775808<=List.getD
 [(9223372036854775807:Int),(-9223372036854775808:Int),(1125899906842624:Int),(1125899906842625:Int),(65535:Int),(65536:Int),(255:Int),(256:Int),(1023:Int),(1024:Int),(65534:Int),(65535:Int),(4294967296:Int),(4611686018427387905:Int)] f.toNat default/\List.getD [(9223372036854775807:Int),(-9223372036854775808:Int),(1125899906842624:Int),(1125899906842625:Int),(65535:Int),(65536:Int),(255:Int),(256:Int),(1023:Int),(1024:Int),(65534:Int),(65535:Int),(4294967296:Int),(4611686018427387905:Int)] f.toNat default<=9223372036854775807) (ad (decide (c=2)) (ay (d,e)/\ ∀(f:Int)(g:List Int)(h:Int),0<=f/\(f<256∨f=0)/\ay (g,h)->ay (g,h)/\ ∀(i:Int)(j:List Int)(k:Int),0<=i/\(i<256∨i=0)/\ay (j,k)->ay (j,k)/\ -9223372036854775808<=IntKind.wrap .i64 (IntKind.wrap .i64 ((256:Int)*f)+i)/\IntKind.wrap .i64 (IntKind.wrap .i64 ((256:Int)*f)+i)<=9223372036854775807) (ay (d,e)/\ ∀(f:Int)(g:List Int)
 (h:Int),0<=f/\(f<40∨f=0)/\ay (g,h)->ay (g,h)/\ab f))):=by
  rintro l p-h
  refine⟨h,?_⟩
  rintro r l2 p2 ⟨h1,h2,h3⟩
  refine ae (fun hb=>⟨h3,?_⟩) (fun hb=>ae (fun hb=>⟨h3,?_⟩) (fun hb=>ae (fun hb=>⟨h3,?_⟩) (fun hb=>⟨h3,?_⟩)))
  ·rintro a l4 p4 ⟨h4,h5,h6⟩
   exact⟨h6,Kh _⟩
  ·rintro a l4 p4 ⟨h4,h5,h6⟩
   refine⟨h4,by simp;omega,h6,?_⟩
   exact O0 (p:=fun v => -9223372036854775808<=v/\v<=9223372036854775807) (by simp) h4 (by simp;omega)
  ·rintro a l4 p4 ⟨h4,h5,h6⟩
   refine⟨h6,?_⟩
   rintro a l4 p4 ⟨h4,h5,h6⟩
   exact⟨h6,Kh _⟩
  ·rintro a l4 p4 ⟨h4,h5,h6⟩
   exact⟨h6,by omega,by omega⟩
theorem RG:ax Tryz.prog GL 52 Jy.spec:=Cn.okH _ Tryz.func52 (by kernel_rfl) (ah aD pQ) av Tw (aC (by kernel_rfl) ae1)
def I0:Cn:=⟨[.box 109 f8],[.val cj],fun d=>[ay d.1],fun d y=>ay y.2.1/\0<=y.1.1/\y.1.1<=4294967295,fun d h=>⟨((0,()),(d.1,())),h.1,by simp,by simp⟩⟩
def am0:ar I0.ps->az:=(fun _=>{})
def F9(f i:Int) :=
 IntKind.wrap .i64 (IntKind.wrap .i64 ((167772160:Int)+de IntKind.i64 f (16:Int))+i)
theorem at2 :
 ∀(a:List Int)(b:Int),((a.length<=maxLen/\ ∀(c:Int),c∈a->0<=c/\c<=255)/\ab b)/\True->0<=b/\b<= ↑a.length->ay (a,b)/\ ∀(c:Int)(d:List Int)(e:Int),0<=c/\(c<12∨c=0)/\ay (d,e)->ad (decide (c=11)) (ay (d,e)/\ ∀(f:Int)(g:List Int)(h:Int),0<=f/\(f<65536∨f=0)/\ay (g,h)->(0:Int)<=16/\ay (g,h)/\ ∀(i:Int)(j:List Int)(k:Int),0<=i/\(i<65536∨i=0)/\ay (j,k)->ay (j,k)/\0<=IntKind.wrap .u32 (IntKind.wrap .i64 (de IntKind.i64 f (16:Int)+i))/\IntKind.wrap .u32 (IntKind.wrap .i64 (de IntKind.i64 f (16:Int)+i))<=4294967295) (ay (d,e)/\ ∀(f:Int)(g:List Int)(h:Int),0<=f/\(f<3∨f=0)/\ay (g,h)->(0:Int)<=16/\ay (g,h)/\ ∀(i:Int)(j:List Int)(k:Int),0<=i/\(i<8∨i=0)/\ay (j,k)->ay (j,k)/\0<=IntKind.wrap .u32 (F9 f i)/\IntKind.wrap .u32 (F9 f i)<=4294967295):=by
  delta F9
  rintro l p-h
  refine⟨h,?_⟩
  rintro r l2 p2 ⟨h1,h2,h3⟩
  refine ae (fun hb=>⟨h3,?_⟩) (fun hb=>⟨h3,?_⟩)
  ·rintro a l4 p4 ⟨h4,h5,h6⟩
   refine⟨by omega,h6,?_⟩
   rintro a l4 p4 ⟨h4,h5,h6⟩
   exact⟨h6,HI _⟩
  ·rintro a l4 p4 ⟨h4,h5,h6⟩
   refine⟨by omega,h6,?_⟩
   rintro a l4 p4 ⟨h4,h5,h6⟩
   exact⟨h6,HI _⟩
theorem Hs:ax Tryz.prog GL 53 I0.spec:=Cn.okH _ Tryz.func53 (by kernel_rfl) (ah aD pQ) av am0 (aC (by kernel_rfl) at2)
def Js:Cn:=⟨[.box 109 f8],[.val cI],fun d=>[ay d.1],fun d y=>ay y.2.1/\(y.1.1=17∨y.1.1=1∨y.1.1=6),fun d h=>⟨((1,()),(d.1,())),h.1,by simp⟩⟩
def an8:ar Js.ps->az:=(fun _=>{})
theorem XJ :
 ∀(a:List Int)(b:Int),((a.length<=maxLen/\ ∀(c:Int),c∈a->0<=c/\c<=255)/\ab b)/\True->0<=b/\b<= ↑a.length->ay (a,b)/\ ∀(c:Int)(d:List Int)(e:Int),0<=c/\(c<3∨c=0)/\ay (d,e)->0<=c/\c< ↑(List.length [(17:Int),(1:Int),(6:Int)])/\ay (d,e)/\(List.getD [(17:Int),(1:Int),(6:Int)] c.toNat default=17∨List.getD [(17:Int),(1:Int),(6:Int)] c.toNat default=1∨List.getD [(17:Int),(1:Int),(6:Int)] c.toNat default=6):=by
  rintro l p-h
  refine⟨h,?_⟩
  rintro r l2 p2 ⟨h1,h2,h3⟩
  refine⟨h1,by simp;omega,h3,?_⟩
  exact O0 (p:=fun v=>v=17∨v=1∨v=6) (by simp) h1 (by simp;omega)
theorem If:ax Tryz.prog GL 76 Js.spec:=Cn.okH _ Tryz.func76 (by kernel_rfl) (ah aD pQ) av an8 (aC (by kernel_rfl) XJ)
def HU:Ct:=⟨[.val Dv],[.val Dv],fun _=>[],fun d=>((kC d.1,()),())⟩
def an1:ar HU.ps->az:=(fun _=>{})
def Eu(a:Int) :=
 IntKind.wrap .u64 (bits BinOp.xor IntKind.u64 (IntKind.wrap .u64 (a+(11400714819323198485:Int))) (cT IntKind.u64 (IntKind.wrap .u64 (a+(11400714819323198485:Int))) (30:Int))*(13787848793156543929:Int))
def De(a:Int) :=
 IntKind.wrap .u64 (bits BinOp.xor IntKind.u64 (Eu a) (cT IntKind.u64 (Eu a) (27:Int))*(10723151780598845931:Int))
theorem R4 :
 ∀(a:Int),(0<=a/\a<=18446744073709551615)/\True->True->(0:Int)<=30/\(0:Int)<=27/\(0:Int)<=31/\bits BinOp.xor IntKind.u64 (De a) (cT IntKind.u64 (De a) (31:Int))=kC a:=by
  delta Eu De
  rintro x ⟨⟨h0,h1⟩,-⟩ -
  refine⟨by decide,by decide,by decide,?_⟩
  have h0:0<=x:=h0
  obtain⟨n,rfl⟩:=Int.eq_ofNat_of_zero_le h0
  have e0:IntKind.u64.wrap ((n:Int)+11400714819323198485)=(((n+11400714819323198485)%18446744073709551616:Nat):Int):=Fx (n+11400714819323198485)
  have hm:(n+11400714819323198485)%18446744073709551616<18446744073709551616:=by omega
  have e1:=Cf _ 30 (by decide) hm
  have e2:=O2 (xs 30 ((n+11400714819323198485)%18446744073709551616)) 13787848793156543929
  have e3:=Cf _ 27 (by decide) (Ep (c:=13787848793156543929) (a:=xs 30 ((n+11400714819323198485)%18446744073709551616)))
  have e4:=O2 (xs 27 (mu 13787848793156543929 (xs 30 ((n+11400714819323198485)%18446744073709551616)))) 10723151780598845931
  have e5:=Cf _ 31 (by decide) (Ep (c:=10723151780598845931) (a:=xs 27 (mu 13787848793156543929 (xs 30 ((n+11400714819323198485)%18446744073709551616)))))
  have c1:((30:Nat):Int)=30:=rfl
  have c2:((27:Nat):Int)=27:=rfl
  have c3:((31:Nat):Int)=31:=rfl
  have c4:((13787848793156543929:Nat):Int)=13787848793156543929:=rfl
  have c5:((10723151780598845931:Nat):Int)=10723151780598845931:=rfl
  rw[c1] at e1
  rw[c4] at e2
  rw[c2] at e3
  rw[c5] at e4
  rw[c3] at e5
  rw[e0,e1,e2,e3,e4,e5]
  unfold kC An
  rw[Int.toNat_natCast]
theorem L7:ax Tryz.prog GL 168 HU.spec:=Ct.okH _ Tryz.func168 (by kernel_rfl) aD av an1 (aC (by kernel_rfl) R4)
abbrev mA:Type:=Int×Int×Int×Int×Int
def uq(h x:Int):Int:=kC (bits .xor .u64 h (IntKind.wrap .u64 x))
def mb(seed:Int)(k:mA):Int:=uq (uq (uq (uq (uq (kC (IntKind.wrap .u64 seed)) k.1) k.2.1) k.2.2.1) k.2.2.2.1) k.2.2.2.2
theorem yv(s:Int)(k:mA):0<=mb s k/\mb s k<=18446744073709551615:=J3 _
def xW(seed:Int)(k:mA)(j:Int):Int:=([k.1,k.2.1,k.2.2.1,k.2.2.2.1,k.2.2.2.2].take j.toNat).foldl uq (kC (IntKind.wrap .u64 seed))
def Il:Ct:=⟨[.val cI,.agg Dn],[.val Dv],fun _=>[],fun d=>((mb d.1 d.2.1,()),())⟩
def TM:ar Il.ps->az:=(fun d=>{loops:=(fun n=>match n with|3=>some (fun S=>{ι:=Int×Int,qn:=⟨fun k_=>∀(j:Int)(h:Int),k_ (j,h),fun k_ h_ i=>h_ i.1 i.2,fun k_=>∃ (j:Int) (h:Int),k_ (j,h),fun k_ ⟨j,h,h_⟩=>⟨_,h_⟩⟩,μ:=fun i=>(5-i.1).toNat,inv:=fun i=>0<=i.1/\i.1<=5/\i.2=xW d.1 d.2.1 i.1,keep:=[23],slots:=fun i=>[(5,.int .u64 i.2),(24,.int .i64 i.1)],names:=fun i=>[]})|_=>none)})
theorem ai4 :
 ∀(x x_1 x_2 x_3 x_4 x_5:Int),ab x/\((0<=x_1/\x_1<=4294967295)/\(0<=x_2/\x_2<=4294967295)/\ab x_3/\ab x_4/\ab x_5)/\True->True->(∃ j h,(0<=j/\j<=5/\h=xW x (x_1,x_2,x_3,x_4,x_5) j)/\kC (IntKind.wrap .u64 x)=h/\IntKind.wrap .i64 x_1=IntKind.wrap .i64 x_1/\IntKind.wrap .i64 x_2=IntKind.wrap .i64 x_2/\x_3=x_3/\x_4=x_4/\x_5=x_5/\(0:Int)=j/\True)/\∀(j h:Int),0<=j/\j<=5/\h=xW x (x_1,x_2,x_3,x_4,x_5) j->ad (decide (j<5)) (0<=j/\j<↑(5:Nat)/\∃ j_1 h_1,(0<=j_1/\j_1<=5/\h_1=xW x (x_1,x_2,x_3,x_4,x_5) j_1)/\Int.toNat ((5:Int)-j_1)<Int.toNat ((5:Int)-j)/\kC (bits BinOp.xor IntKind.u64 h (IntKind.wrap .u64 (jS [IntKind.wrap .i64 x_1,IntKind.wrap .i64 x_2,x_3,x_4,x_5] j.toNat)))=h_1/\IntKind.wrap .i64 x_1=IntKind.wrap .i64 x_1 /\
 IntKind.wrap .i64 x_2=IntKind.wrap .i64 x_2/\x_3=x_3/\x_4=x_4/\x_5=x_5/\IntKind.wrap .i64 (j+(1:Int))=j_1/\True) (h=mb x (x_1,x_2,x_3,x_4,x_5)):=by
  rintro x a b c e f ⟨-,⟨⟨a0,a1⟩,⟨b0,b1⟩,⟨c0,c1⟩,⟨e0,e1⟩,f0,f1⟩,-⟩ -
  refine⟨⟨0,_,⟨by omega,by omega,rfl⟩,(by repeat' first|exact trivial|refine⟨trivial,?_⟩|refine⟨(by with_reducible rfl),?_⟩|refine⟨ai (by omega) (by omega),?_⟩|refine⟨rfl,?_⟩)⟩,?_⟩
  rintro j h ⟨h0,h1,rfl⟩
  refine ae (fun hj=>?_) (fun hj=>?_)
  ·have hj:=of_decide_eq_true hj
   refine⟨h0,by omega,j+1,xW x (a,b,c,e,f) (j+1),⟨by omega,by omega,rfl⟩,by omega,?_,rfl,rfl,rfl,rfl,rfl,ai (by omega) (by omega),trivial⟩
   rw[ai (n:=a) (by omega) (by omega),ai (n:=b) (by omega) (by omega)]
   have:j=0∨j=1∨j=2∨j=3∨j=4:=by omega
   rcases this with rfl|rfl|rfl|rfl|rfl <;> rfl
  ·have hj:=of_decide_eq_false hj
   have:j=5:=by omega
   subst this
   rfl
theorem L6:ax Tryz.prog GL 158 Il.spec:=Ct.okH _ Tryz.func158 (by kernel_rfl) (ah aD L7) av TM (aC (by kernel_rfl) ai4)
def i7(way seed:Int)(k:mA)(count n:Int):Int×Int :=
 if n<1∨16<n∨count<0∨way<1∨3<way then (0,1) else
  (if way=1 then (mb seed k).tmod n else if way=2 then (mb seed (k.1,k.2.1,0,0,0)).tmod n else count.tmod n,0)
def Pl:Ct:=⟨[.val cI,.val cI,.agg Dn,.val cI,.val cI],[.val cI,.val cI],fun _=>[],fun d=>(((i7 d.1 d.2.1 d.2.2.1 d.2.2.2.1 d.2.2.2.2.1).1,(i7 d.1 d.2.1 d.2.2.1 d.2.2.2.1 d.2.2.2.2.1).2,()),())⟩
def Yb:ar Pl.ps->az:=(fun _=>{})
theorem Zt :
 ∀(a b c d e f g h i:Int),ab a/\ab b/\((0<=c/\c<=4294967295)/\(0<=d/\d<=4294967295)/\ab e/\ab f/\ab g)/\ab h/\ab i/\True->True-> ∀(j:Bool),j=decide (i<1)->((! j)->((! j)->(! j))/\True)/\(j=false->(! j))/\ ∀(k:Bool),(k=bif j then true else decide (16<i))->((! k)->((! k)->(! k))/\True)/\(k=false->(! k))/\ad (bif k then true else decide (h<0)) ((0:Int)=(i7 a b (c,d,e,f,g) h i).1/\(1:Int)=(i7 a b (c,d,e,f,g) h i).2) (ad (decide (a=1)) (IntKind.wrap .u64 i≠(0:Int)/\IntKind.wrap .i64 (Int.tmod (mb b (c,d,e,f,g)) (IntKind.wrap .u64 i))=(i7 a b (c,d,e,f,g) h i).1/\(0:Int)=(i7 a b (c,d,e,f,g) h i).2) (ad (decide (a=2)) (IntKind.wrap .u64 i≠(0:Int)/\IntKind.wrap .i64 (Int.tmod (mb b (c,d,(0:Int),(0:Int),(0:Int))) (IntKind.wrap .u64 i))=(i7 a b (c,d,e,f,g) h i).1/\(0:Int)=(i7 a b (c,d,e,f,g) h i).2) (ad (decide (a=3)) (IntKind.wrap .u64 i≠(0:Int)/\IntKind.wrap
 .i64 (Int.tmod (IntKind.wrap .u64 h) (IntKind.wrap .u64 i))=(i7 a b (c,d,e,f,g) h i).1/\(0:Int)=(i7 a b (c,d,e,f,g) h i).2) ((0:Int)=(i7 a b (c,d,e,f,g) h i).1/\(1:Int)=(i7 a b (c,d,e,f,g) h i).2)))):=by
  rintro x s a b c e f cnt n ⟨-,-,-,⟨c0,c1⟩,⟨n0,n1⟩,-⟩ -
  (repeat (intro (b_:Bool) (hb_:b_=_);(repeat refine⟨(by first|(simp;done)|(rw[hb_];simp;done)|(rw[hb_];simp;omega)|(rw[hb_];simp;intros;omega)|(rw[hb_];simp +contextual;done)),?_⟩);subst hb_))
  refine ae (fun h=>?_) (fun h=>?_)
  ·simp at h
   unfold i7;rw[if_pos (by omega)];exact⟨rfl,rfl⟩
  ·simp at h
   rw[H8 (n:=n) (by omega) (by omega)]
   have hr:∀ k,0<=(mb s k).tmod n/\(mb s k).tmod n<n:=fun k=>⟨sy (yv _ _).1,sC (yv _ _).1 (by omega)⟩
   unfold i7
   refine ae (fun hx=>?_) (fun hx=>ae (fun hy=>?_) (fun hy=>ae (fun hz=>?_) (fun hz=>?_)))
   ·simp at hx
    subst hx
    have:=hr (a,b,c,e,f)
    rw[if_neg (by omega),if_pos rfl,ai (by omega) (by omega)]
    exact⟨by omega,rfl,rfl⟩
   ·simp at hx hy
    subst hy
    have:=hr (a,b,0,0,0)
    rw[if_neg (by omega),if_neg (by omega),if_pos rfl,ai (by omega) (by omega)]
    exact⟨by omega,rfl,rfl⟩
   ·simp at hx hy hz
    subst hz
    have q0:=sy (b:=n) (a:=cnt) (by omega)
    have q1:=sC (b:=n) (a:=cnt) (by omega) (by omega)
    rw[if_neg (by omega),if_neg (by omega),if_neg (by omega),H8 (n:=cnt) (by omega) (by omega),ai (by omega) (by omega)]
    exact⟨by omega,rfl,rfl⟩
   ·simp at hx hy hz
    rw[if_pos (by omega)]
    exact⟨rfl,rfl⟩
theorem VL:ax Tryz.prog GL 84 Pl.spec:=Ct.okH _ Tryz.func84 (by kernel_rfl) (ah aD L6) av Yb (aC (by kernel_rfl) Zt)
end Go.RS

/- Ident: identifiers of answers. -/
namespace Go.RS
open Go.SX Go.Proofs
set_option maxRecDepth 100000
set_option linter.unusedVariables false
abbrev pz:CT := .pair cj cI
abbrev as2:CT := .pair cj cI
abbrev HP:CT := .pair as2 (.pair (.sl cI) cI)
abbrev bH:CT := .pair (.sl pz) (.pair cj (.pair cI (.pair .bool (.pair (.sl HP) (.pair cI (.pair cj (.pair cI (.pair cI (.pair cI (.pair uI (.pair .bool (.pair .bool (.pair cI cI)))))))))))))
abbrev mX:CT := .pair (.sl HP) (.pair cI (.pair (.sl cI) (.pair rT cI)))
abbrev UD:Type:=Int×Int
abbrev aF:Type:=UD×List Int×Int
abbrev ac:Type:=List (Int×Int)×Int×Int×Bool×List aF×Int×Int×Int×Int×Int×(Int×Int)×Bool×Bool×Int×Int
abbrev bq:Type:=List aF×Int×List Int×(Int×Int)×Int
def aA(n:ac):=n.1
def gg(n:ac):=n.2.1
def NE(n:ac):=n.2.2.1
def lH(n:ac):=n.2.2.2.1
def aQ(n:ac):=n.2.2.2.2.1
def jQ(n:ac):=n.2.2.2.2.2.1
def nP(n:ac):=n.2.2.2.2.2.2.1
def oP(n:ac):=n.2.2.2.2.2.2.2.1
def kH(n:ac):=n.2.2.2.2.2.2.2.2.1
def wj(n:ac):=n.2.2.2.2.2.2.2.2.2.1
def iq(n:ac):=n.2.2.2.2.2.2.2.2.2.2.1
def jM(n:ac):=n.2.2.2.2.2.2.2.2.2.2.2.1
def dq(n:ac):=n.2.2.2.2.2.2.2.2.2.2.2.2.1
def gM(n:ac):=n.2.2.2.2.2.2.2.2.2.2.2.2.2.1
def Bs(n:ac):=n.2.2.2.2.2.2.2.2.2.2.2.2.2.2
def bh(s:bq):=s.1
def mK(s:bq):=s.2.1
def jc(s:bq):=s.2.2.1
def pt(s:bq):=s.2.2.2.1
def kP(s:bq):=s.2.2.2.2
theorem w7(n:Int):bits .and .i64 n 65535=n%65536:=by
 have h127:(BitVec.ofInt 64 65535).toNat=2^16-1:=by decide
 have key:(BitVec.ofInt 64 n &&& BitVec.ofInt 64 65535).toNat=(n%((2^64:Nat):Int)).toNat%2^16:=by
  rw[BitVec.toNat_and,BitVec.toNat_ofInt,h127,Nat.and_two_pow_sub_one_eq_mod]
 show IntKind.i64.wrap ((BitVec.ofInt 64 n &&& BitVec.ofInt 64 65535).toNat:Nat)=n%65536
 rw[key,IntKind.wrap_i64]
 omega
theorem aq0{n:Int}(h0:0<=n)(h1:n<=18446744073709551615):bits .and .u64 n 65535=n%65536:=by
 rw[u64_and n 65535 h0 (by omega) (by decide) (by decide)]
 have:(n.toNat &&& Int.toNat 65535)=n.toNat%65536:=Nat.and_two_pow_sub_one_eq_mod n.toNat 16
 rw[this];omega
def oG(speed a:Int):Int:=if speed<0∨1000000<speed∨a<0∨1125899906842624<a then 0 else speed*(a/1000000)+speed*(a%1000000)/1000000
theorem af6{speed a:Int}:0<=oG speed a/\oG speed a<=2251799813685248:=by
 unfold oG
 split
 ·omega
 ·rename_i h
  have a1:0<=a/1000000:=by omega
  have a2:a/1000000<=1125899907:=by omega
  have a3:0<=a%1000000:=by omega
  have a4:a%1000000<=999999:=by omega
  have b1:0<=speed*(a/1000000):=Int.mul_nonneg (by omega) a1
  have b2:speed*(a/1000000)<=1000000*1125899907:=Int.mul_le_mul (by omega) a2 a1 (by omega)
  have b3:0<=speed*(a%1000000):=Int.mul_nonneg (by omega) a3
  have b4:speed*(a%1000000)<=1000000*999999:=Int.mul_le_mul (by omega) a4 a3 (by omega)
  omega
theorem Uo{x a:Int}(h:¬ (x<0∨1000000<x∨a<0∨1125899906842624<a)) :
  IntKind.wrap IntKind.i64 (IntKind.wrap IntKind.i64 (x*IntKind.wrap IntKind.i64 (Int.tdiv a 1000000))+IntKind.wrap IntKind.i64 (Int.tdiv (IntKind.wrap IntKind.i64 (x*Int.tmod a 1000000)) 1000000))=oG x a:=by
 have h2:=af6 (speed:=x) (a:=a)
 unfold oG at h2 ⊢
 rw[if_neg h] at h2 ⊢
 have a1:0<=a/1000000:=by omega
 have a2:a/1000000<=1125899907:=by omega
 have a3:0<=a%1000000:=by omega
 have a4:a%1000000<=999999:=by omega
 have b1:0<=x*(a/1000000):=Int.mul_nonneg (by omega) a1
 have b2:x*(a/1000000)<=1000000*1125899907:=Int.mul_le_mul (by omega) a2 a1 (by omega)
 have b3:0<=x*(a%1000000):=Int.mul_nonneg (by omega) a3
 have b4:x*(a%1000000)<=1000000*999999:=Int.mul_le_mul (by omega) a4 a3 (by omega)
 rw[Int.tdiv_eq_ediv_of_nonneg (show 0<=a by omega),Int.tmod_eq_emod_of_nonneg (show 0<=a by omega),ai (n:=a/1000000) (by omega) (by omega),ai (n:=x*(a/1000000)) (by omega) (by omega),
  ai (n:=x*(a%1000000)) (by omega) (by omega),Int.tdiv_eq_ediv_of_nonneg b3,ai (n:=x*(a%1000000)/1000000) (by omega) (by omega),ai (by omega) (by omega)]
def Mn:Ct:=⟨[.val cI,.val cI],[.val cI],fun _=>[],fun d=>((oG d.1 d.2.1,()),())⟩
def am1:ar Mn.ps->az:=(fun _=>{})
theorem XC :
 ∀(a b:Int),ab a/\ab b/\True->True-> ∀(c:Bool),c=decide (a<0)->((! c)->((! c)->(! c))/\True)/\(c=false->(! c))/\ ∀(d:Bool),(d=bif c then true else decide (1000000<a))->((! d)->((! d)->(! d))/\True)/\(d=false->(! d))/\ ∀(e:Bool),(e=bif d then true else decide (b<0))->((! e)->((! e)->(! e))/\True)/\(e=false->(! e))/\ad (bif e then true else decide (1125899906842624<b)) ((0:Int)=oG a b) ((1000000:Int)≠(0:Int)/\(1000000:Int)≠(0:Int)/\(1000000:Int)≠(0:Int)/\IntKind.wrap .i64 (IntKind.wrap .i64 (a*IntKind.wrap .i64 (Int.tdiv b (1000000:Int)))+IntKind.wrap .i64 (Int.tdiv (IntKind.wrap .i64 (a*Int.tmod b (1000000:Int))) (1000000:Int)))=oG a b):=by
  rintro x a - -
  (repeat (intro (b_:Bool) (hb_:b_=_);(repeat refine⟨(by first|(simp;done)|(rw[hb_];simp;done)|(rw[hb_];simp;omega)|(rw[hb_];simp;intros;omega)|(rw[hb_];simp +contextual;done)),?_⟩);subst hb_))
  refine ae (fun h=>?_) (fun h=>?_)
  ·simp at h
   unfold oG;rw[if_pos (by omega)]
  ·simp at h
   refine⟨by omega,by omega,by omega,Uo (by omega)⟩
theorem QV:ax Tryz.prog GL 288 Mn.spec:=Ct.okH _ Tryz.func288 (by kernel_rfl) aD av am1 (aC (by kernel_rfl) XC)
def LG(n:ac):Bool:=decide (0<=oP n/\oP n<=5/\0<=kH n/\kH n<=65535/\0<=wj n/\wj n<=1000000)
def ir(n:ac):Int:=if LG n then 0 else 1
def G5:Ct:=⟨[.agg bH],[.val cI],fun _=>[],fun d=>((ir d.1,()),())⟩
def Q0:ar G5.ps->az:=(fun _=>{})
theorem am6 :
 ∀(a:ac),CT.wf bH a/\True->True-> ∀(b:Bool),b=decide (a.2.2.2.2.2.2.2.1<0)->((! b)->((! b)->(! b))/\True)/\((! b)->((! b)->(! b))/\True)/\(b=false->(! b))/\ ∀(c:Bool),(c=bif b then true else decide (5<a.2.2.2.2.2.2.2.1))->((! c)->((! c)->(! c))/\True)/\((! c)->((! c)->(! c))/\True)/\(c=false->(! c))/\ ∀(d:Bool),(d=bif c then true else decide (a.2.2.2.2.2.2.2.2.1<0))->((! d)->((! d)->(! d))/\True)/\((! d)->((! d)->(! d))/\True)/\(d=false->(! d))/\ ∀(e:Bool),(e=bif d then true else decide (65535<a.2.2.2.2.2.2.2.2.1))->((! e)->((! e)->(! e))/\True)/\((! e)->((! e)->(! e))/\True)/\(e=false->(! e))/\ ∀(f:Bool),(f=bif e then true else decide (a.2.2.2.2.2.2.2.2.2.1<0))->((! f)->((! f)->(! f))/\True)/\((! f)->((! f)->(! f))/\True)/\(f=false->(! f))/\ad (bif f then true else decide (1000000<a.2.2.2.2.2.2.2.2.2.1)) ((1:Int)=ir a) ((0:Int)=ir a):=by
  rintro d - -
  (repeat (intro (b_:Bool) (hb_:b_=_);(repeat refine⟨(by first|(simp;done)|(rw[hb_];simp;done)|(rw[hb_];simp;omega)|(rw[hb_];simp;intros;omega)|(rw[hb_];simp +contextual;done)),?_⟩);subst hb_))
  unfold ir LG oP kH wj
  generalize d.2.2.2.2.2.2.2.1=i
  generalize d.2.2.2.2.2.2.2.2.1=b
  generalize d.2.2.2.2.2.2.2.2.2.1=s
  refine ae (fun h=>?_) (fun h=>?_)
  ·simp at h
   rw[if_neg (by simp;omega)]
  ·simp at h
   rw[if_pos (by simp;omega)]
theorem TH:ax Tryz.prog GL 218 G5.spec:=Ct.okH _ Tryz.func218 (by kernel_rfl) aD av Q0 (aC (by kernel_rfl) am6)
abbrev wI(n:Int):Int:=IntKind.i64.wrap n
def al0(n:ac)(sent a:Int):Int:=wI (wI (kH n+sent)+oG (wj n) a)
def oI(n:ac)(sent a:Int):Int:=al0 n sent a%65536
def OG:Ct:=⟨[.val cI,.box 107 bH,.box 3 cI],[.val cI],fun _=>[],fun d=>((oI d.2.1 d.1 d.2.2.1,()),(d.2.1,d.2.2.1,()))⟩
def au7:ar OG.ps->az:=(fun _=>{})
theorem ab3 :
 ∀(a:Int)(b:ac)(c:Int),ab a/\CT.wf bH b/\ab c/\True->True->bits BinOp.and IntKind.i64 (IntKind.wrap .i64 (IntKind.wrap .i64 (b.2.2.2.2.2.2.2.2.1+a)+oG b.2.2.2.2.2.2.2.2.2.1 c)) (65535:Int)=oI b a c/\b=b/\c=c:=by
  rintro x d a - -
  exact⟨w7 _,rfl,rfl⟩
theorem SO:ax Tryz.prog GL 287 OG.spec:=Ct.okH _ Tryz.func287 (by kernel_rfl) (ah aD QV) av au7 (aC (by kernel_rfl) ab3)
def jF(n:ac)(s:bq)(port a asked dst:Int):Int :=
 if oP n=1 then kH n else if oP n=2 then oI n (mK s) a
 else if oP n=3 then (if port<0∨(jc s).length<=port then oI n 0 a else oI n ((jc s).getD port.toNat default) a)
 else if oP n=4 then asked else if oP n=5 then mb (kH n) (0,dst,0,mK s,0)%65536 else 0
def JG:Ct:=⟨[.agg bH,.agg mX,.val cI,.val cI,.val cI,.val cj],[.val cI],fun _=>[],fun d=>((jF d.1 d.2.1 d.2.2.1 d.2.2.2.1 d.2.2.2.2.1 d.2.2.2.2.2.1,()),())⟩
def Ti:ar JG.ps->az:=(fun _=>{})
theorem Su :
 ∀(a:ac)(b:List aF)(c:Int)(d:List Int)(e f g h i j k:Int),CT.wf bH a/\((b.length<=maxLen/\ ∀(l:aF),l∈b->((0<=l.1.1/\l.1.1<=4294967295)/\ab l.1.2)/\(l.2.1.length<=maxLen/\ ∀(m:Int),m∈l.2.1->ab m)/\ab l.2.2)/\ab c/\(d.length<=maxLen/\ ∀(l:Int),l∈d->ab l)/\(ab e/\ab f)/\ab g)/\ab h/\ab i/\ab j/\(0<=k/\k<=4294967295)/\True->True->ad (decide (a.2.2.2.2.2.2.2.1=1)) (a.2.2.2.2.2.2.2.2.1=jF a (b,c,d,(e,f),g) h i j k) (ad (decide (a.2.2.2.2.2.2.2.1=2)) (oI a c i=jF a (b,c,d,(e,f),g) h i j k) (ad (decide (a.2.2.2.2.2.2.2.1=3)) (∀(l:Bool),l=decide (h<0)->((! l)->((! l)->(! l))/\True)/\((! l)->((! l)->(! l))/\True)/\((! l)->((! l)->(! l))/\((! l)->(! l))/\True)/\(l=false->(! l))/\ad (bif l then true else decide (d.length<=h)) (oI a (0:Int) i=jF a (b,c,d,(e,f),g) h i j k) (0<=h/\h< ↑d.length/\oI a (d.getD h.toNat default) i=jF a
 (b,c,d,(e,f),g) h i j k)) (ad (decide (a.2.2.2.2.2.2.2.1=4)) (j=jF a (b,c,d,(e,f),g) h i j k) (ad (decide (a.2.2.2.2.2.2.2.1=5)) (IntKind.wrap .i64 (bits BinOp.and IntKind.u64 (mb a.2.2.2.2.2.2.2.2.1 ((0:Int),k,(0:Int),c,(0:Int))) (65535:Int))=jF a (b,c,d,(e,f),g) h i j k) ((0:Int)=jF a (b,c,d,(e,f),g) h i j k))))):=by
  rintro d r se ps t1 t2 ba port a asked dst - -
  unfold jF oP kH mK jc
  simp only
  refine ae (fun h=>?_) (fun h=>?_)
  ·rw[if_pos (of_decide_eq_true h)]
  have h1:=of_decide_eq_false h
  rw[if_neg h1]
  refine ae (fun h=>?_) (fun h=>?_)
  ·rw[if_pos (of_decide_eq_true h)]
  have h2:=of_decide_eq_false h
  rw[if_neg h2]
  refine ae (fun h=>?_) (fun h=>?_)
  ·rw[if_pos (of_decide_eq_true h)]
   (repeat (intro (b_:Bool) (hb_:b_=_);(repeat refine⟨(by first|(simp;done)|(rw[hb_];simp;done)|(rw[hb_];simp;omega)|(rw[hb_];simp;intros;omega)|(rw[hb_];simp +contextual;done)),?_⟩);subst hb_))
   refine ae (fun h=>?_) (fun h=>?_)
   ·simp at h
    rw[if_pos h]
   ·simp at h
    exact⟨by omega,by omega,by rw[if_neg (by omega)]⟩
  have h3:=of_decide_eq_false h
  rw[if_neg h3]
  refine ae (fun h=>?_) (fun h=>?_)
  ·rw[if_pos (of_decide_eq_true h)]
  have h4:=of_decide_eq_false h
  rw[if_neg h4]
  refine ae (fun h=>?_) (fun h=>?_)
  ·rw[if_pos (of_decide_eq_true h)]
   have hr:=yv d.2.2.2.2.2.2.2.2.1 (0,dst,0,se,0)
   rw[aq0 hr.1 hr.2,ai (by omega) (by omega)]
  ·rw[if_neg (of_decide_eq_false h)]
theorem NN:ax Tryz.prog GL 275 JG.spec:=Ct.okH _ Tryz.func275 (by kernel_rfl) (ah (ah aD SO) L6) av Ti (aC (by kernel_rfl) Su)
end Go.RS
