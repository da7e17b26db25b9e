/- SX, part 21: a function's contract, off its symbolic run. -/
import Derived.Test.YthmcfealplfaaaaGreatDoorSx20
import Derived.Laws.Sem
import Derived.Laws.NewBlocks
import Derived.ProofKit
import Derived.OpenShut
import Derived.ChangeOld
import Derived.Below
import Derived.KernelRfl
import Derived.Test.YthmcfealplfaaaaGreatDoorChecked
import Derived.Laws.Bits64
import Derived.Laws.Bits128
import Derived.Laws.BitsAllLaws
namespace Go.SX
set_option linter.unusedVariables false
def CT.plain:CT->Bool
 | .sl _=>false
 | .pair a b=>a.plain&&b.plain
 | _=>true
theorem Cs{A A':Nat->Prop}{w w':World}:∀{t:CT}{cv:Nat->Option Value}{o:Nat}{d:t.D},t.plain=true->Rd A w t cv o d->Rd A' w' t cv o d
 | .int k,cv,o,d,_,h=>h
 | .bool,cv,o,d,_,h=>h
 | .str,cv,o,d,_,h=>h
 | .sl t,cv,o,d,hp,_=>by cases hp
 | .pair a b,cv,o,d,hp,h=>by
  simp only[CT.plain,Bool.and_eq_true] at hp
  exact⟨Cs hp.1 h.1,Cs hp.2 h.2⟩
theorem zZ{A A':Nat->Prop}{w:World}{t:CT}{cv:Nat->Option Value}{o:Nat}{d:t.D}(L:t.plain=true∨∀ b,A b->A' b)(h:Rd A w t cv o d):Rd A' w t cv o d:=by
 rcases L with L|L
 ·exact Cs L h
 ·exact fG L (fun _ _ _=>rfl) t _ _ _ _ (fun _ _=>rfl) h
inductive RK where
 | val (t:CT)
 | agg (o:OT)
 | own (E:TypeId) (t:CT)
 | box (E:TypeId) (o:OT)
 | fn (f:FuncId) (k:Nat)
@[reducible] def RK.D:RK->Type
 | .val t=>t.D
 | .agg o=>o.X
 | .own _ t=>List t.D
 | .box _ o=>o.X
 | .fn _ _=>Unit
@[reducible] def gC:List RK->Type
 | []=>Unit
 | p::r=>p.D×gC r
@[reducible] def d5:List PK->Type
 | []=>Unit
 | .val _::r=>d5 r
 | .agg _::r=>d5 r
 | .own _ _::r=>d5 r
 | .ago _::r=>d5 r
 | .fn _ _::r=>d5 r
 | .nils::r=>d5 r
 | .box _ o::r=>o.X×d5 r
 | .row _ t::r=>List t.D×d5 r
def OT.plain:OT->Bool
 | .dat t=>t.plain
 | .row _ t=>t.plain
 | .rowg _ _=>true
 | .fnc _=>true
 | .ali=>true
 | .ref _ o=>o.plain
 | .pair a b=>a.plain&&b.plain
def pn:List RK->Bool
 | []=>true
 | .val t::r=>t.plain&&pn r
 | .agg o::r=>o.plain&&pn r
 | .own _ t::r=>t.plain&&pn r
 | .box _ o::r=>o.plain&&pn r
 | .fn _ _::r=>pn r
def jH:List PK->Bool
 | []=>true
 | .val _::r=>jH r
 | .agg _::r=>jH r
 | .own _ _::r=>jH r
 | .ago _::r=>jH r
 | .fn _ _::r=>jH r
 | .nils::r=>jH r
 | .box _ o::r=>o.plain&&jH r
 | .row _ t::r=>t.plain&&jH r
structure Ct where
 ps:List PK
 rs:List RK
 pre:ar ps->List Prop
 out:ar ps->gC rs×d5 ps
def xT(E:TypeId)(t:CT)(h:bd):List SV->Option (List t.D×List SV×Option Nat)
 | .own m sz::r=>match h m with
  | .live (.row E' t' xs)=>match Nat.beq E E',Nat.beq sz t.size,fp t' t xs with
   | true,true,some ys=>some (ys,r,some m)
   | _,_,_=>none
  | _=>none
 | .nilsl::r=>some ([],r,none)
 | _=>none
def jL(h:bd)(al:Bool):(o:OT)->Option Nat->List SV->Option (o.X×List SV×List (Nat×Nm)×List (Option Nat))
 | .dat t,_,cs=>match (gB t cs).run h with
  | some ((x,r,fz),_)=>some (x,r,fz,[])
  | none=>none
 | .row E t,_,cs=>match xT E t h cs with
  | some (ys,r,o)=>some (ys,r,[],[o])
  | none=>none
 | .rowg _ _,_,_::r=>some ((),r,[],[])
 | .rowg _ _,_,[]=>none
 | .fnc f,_,.fn g []::r=>match Nat.beq f g with
  | true=>some ((),r,[],[])
  | false=>none
 | .fnc _,_,_=>none
 | .ali,_,.ptr m 0::r=>match al,Nat.beq m PN with
  | true,true=>some ((),r,[],[])
  | _,_=>none
 | .ali,_,_=>none
 | .ref E o,some j,.ptr m 0::r=>match Nat.beq m (PN+j),h m with
  | true,.live (.cells E' cs)=>match Nat.beq E E',jL h al o (some (j+1)) cs with
   | true,some (x,[],fz,ow)=>some (x,r,fz,ow)
   | _,_=>none
  | _,_=>none
 | .ref _ _,_,_=>none
 | .pair a b,j,cs=>match jL h al a j cs with
  | some (x,r,f,w)=>match jL h al b (j.map (· + a.nb)) r with
   | some (y,r',f',w')=>some ((x,y),r',f++f',w++w')
   | none=>none
  | none=>none
def kf(al:Bool):(rs:List RK)->List SV->bd->Option (gC rs×List (Nat×Nm)×List (Option Nat))
 | [],[],_=>some ((),[],[])
 | .val t::rs,v::vs,h=>match (gB t [v]).run h with
  | some ((x,[],fz),_)=>match kf al rs vs h with
   | some (y,f,o)=>some ((x,y),fz++f,o)
   | none=>none
  | _=>none
 | .agg t::rs,.agg cs::vs,h=>match jL h al t none cs with
  | some (x,[],fz,w)=>match kf al rs vs h with
   | some (y,f,o)=>some ((x,y),fz++f,w++o)
   | none=>none
  | _=>none
 | .own E t::rs,v::vs,h=>match xT E t h [v] with
  | some (x,_,w)=>match kf al rs vs h with
   | some (y,f,o)=>some ((x,y),f,w::o)
   | none=>none
  | none=>none
 | .box E t::rs,.ptr m 0::vs,h=>match h m with
  | .live (.cells E' cs)=>match Nat.beq E E',jL h al t none cs with
   | true,some (x,[],fz,w)=>match kf al rs vs h with
    | some (y,f,o)=>some ((x,y),fz++f,some m::(w++o))
    | none=>none
   | _,_=>none
  | _=>none
 | .fn f k::rs,.fn g cs::vs,h=>match Nat.beq f g,Nat.beq cs.length k with
  | true,true=>match kf al rs (cs++vs) h with
   | some (y,f',o)=>some (((),y),f',o)
   | none=>none
  | _,_=>none
 | _,_,_=>none
def jm:(ps:List PK)->Nat->bd->Option (d5 ps×List (Nat×Nm)×List (Option Nat))
 | [],_,_=>some ((),[],[])
 | .val _::ps,j,h=>jm ps j h
 | .agg _::ps,j,h=>jm ps j h
 | .own _ _::ps,j,h=>jm ps j h
 | .ago _::ps,j,h=>jm ps j h
 | .fn _ _::ps,j,h=>jm ps j h
 | .nils::ps,j,h=>jm ps j h
 | .box E t::ps,j,h=>match h (PN+j) with
  | .live (.cells E' cs)=>match Nat.beq E E',jL h true t (some (j+1)) cs with
   | true,some (x,[],fz,w)=>match jm ps (j+1+t.nb) h with
    | some (y,f,o)=>some ((x,y),fz++f,w++o)
    | none=>none
   | _,_=>none
  | _=>none
 | .row E t::ps,j,h=>match h (PN+j) with
  | .live (.row E' t' xs)=>match Nat.beq E E',fp t' t xs with
   | true,some ys=>match jm ps (j+1) h with
    | some (y,f,o)=>some ((ys,y),f,o)
    | none=>none
   | _,_=>none
  | _=>none
def rL(n:Nat):List (Option Nat)->Bool
 | []=>false
 | some m::r=>Nat.beq n m||rL n r
 | none::r=>rL n r
def tH(fz:List (Nat×Nm)):List (Option Nat)->Bool
 | []=>true
 | none::r=>tH fz r
 | some m::r=>(Nat.blt m PN||Nat.ble QN m)&&r7 m fz && !rL m r&&tH fz r
def xH:List (Nat×Nm)->Bool
 | []=>true
 | (n,_)::r=>(Nat.blt n PN||Nat.ble QN n)&&xH r
def kK(b0:Nat):(o:OT)->o.X->List Nat->Nat->List SV
 | .dat t,x,_,_=>cy t x
 | .row _ t,_,_,n=>[.own n t.size]
 | .rowg _ _,_,_,_=>[.junk]
 | .fnc f,_,_,_=>[.fn f []]
 | .ali,_,_,_=>[.ptr b0 0]
 | .ref _ _,_,bx,_=>match bx with
  | q::_=>[.ptr q 0]
  | []=>[.junk]
 | .pair a b,x,bx,n=>kK b0 a x.1 bx n++kK b0 b x.2 (bx.drop a.nb) (n+a.nr)
def jy(b0:Nat):(o:OT)->o.X->List Nat->Nat->List (Nat×Nm)
 | .dat _,_,_,_=>[]
 | .row _ _,_,_,_=>[]
 | .rowg _ _,_,_,_=>[]
 | .fnc _,_,_,_=>[]
 | .ali,_,_,_=>[]
 | .ref E o,x,bx,n=>match bx with
  | q::r=>(q,.live (.cells E (kK b0 o x r n)))::jy b0 o x r n
  | []=>[]
 | .pair a b,x,bx,n=>jy b0 a x.1 bx n++jy b0 b x.2 (bx.drop a.nb) (n+a.nr)
def pd:(o:OT)->o.X->Nat->List (Nat×Nm)
 | .dat _,_,_=>[]
 | .row E t,x,n=>[(n,.live (.row E t x))]
 | .rowg _ _,_,_=>[]
 | .fnc _,_,_=>[]
 | .ali,_,_=>[]
 | .ref _ o,x,n=>pd o x n
 | .pair a b,x,n=>pd a x.1 n++pd b x.2 (n+a.nr)
def iB(b0:Nat):(rs:List RK)->gC rs->Nat->List SV
 | [],_,_=>[]
 | .val t::rs,d,n=>uS t d.1::iB b0 rs d.2 n
 | .agg o::rs,d,n => .agg (kK b0 o d.1 [] n)::iB b0 rs d.2 (n+o.nr)
 | .own E t::rs,d,n => .own n t.size::iB b0 rs d.2 (n+1)
 | .box E o::rs,d,n => .ptr n 0::iB b0 rs d.2 (n+1+o.nr)
 | .fn f k::rs,d,n => .fn f ((iB b0 rs d.2 n).take k)::(iB b0 rs d.2 n).drop k
def jq(b0:Nat):(rs:List RK)->gC rs->Nat->List (Nat×Nm)
 | [],_,_=>[]
 | .val t::rs,d,n=>jq b0 rs d.2 n
 | .agg o::rs,d,n=>pd o d.1 n++jq b0 rs d.2 (n+o.nr)
 | .own E t::rs,d,n=>(n,.live (.row E t d.1))::jq b0 rs d.2 (n+1)
 | .box E o::rs,d,n=>(n,.live (.cells E (kK b0 o d.1 [] (n+1))))::(pd o d.1 (n+1)++jq b0 rs d.2 (n+1+o.nr))
 | .fn _ _::rs,d,n=>jq b0 rs d.2 n
def eG:List RK->Nat
 | []=>0
 | .own _ _::r=>eG r+1
 | .box _ o::r=>eG r+o.nr+1
 | .val _::r=>eG r
 | .agg o::r=>eG r+o.nr
 | .fn _ _::r=>eG r
def gF:List PK->Nat
 | []=>0
 | .val _::r=>gF r
 | .agg _::r=>gF r
 | .own _ _::r=>gF r
 | .ago _::r=>gF r
 | .fn _ _::r=>gF r
 | .nils::r=>gF r
 | .box _ o::r=>gF r+o.nr
 | .row _ _::r=>gF r
def d6(b0:Nat):(ps:List PK)->d5 ps->List Nat->Nat->List (Nat×Nm)
 | .val _::ps,d,bx,nb=>d6 b0 ps d bx nb
 | .agg _::ps,d,bx,nb=>d6 b0 ps d bx nb
 | .own _ _::ps,d,bx,nb=>d6 b0 ps d bx nb
 | .ago _::ps,d,bx,nb=>d6 b0 ps d bx nb
 | .fn _ _::ps,d,bx,nb=>d6 b0 ps d bx nb
 | .nils::ps,d,bx,nb=>d6 b0 ps d bx nb
 | .box E o::ps,d,n::bx,nb=>(n,.live (.cells E (kK b0 o d.1 bx nb)))::(jy b0 o d.1 bx nb++d6 b0 ps d.2 (bx.drop o.nb) (nb+o.nr))
 | .row E t::ps,d,n::bx,nb=>(n,.live (.row E t d.1))::d6 b0 ps d.2 bx nb
 | _,_,_,_=>[]
def fB:(ps:List PK)->d5 ps->Nat->List (Nat×Nm)
 | [],_,_=>[]
 | .val _::ps,d,nb=>fB ps d nb
 | .agg _::ps,d,nb=>fB ps d nb
 | .own _ _::ps,d,nb=>fB ps d nb
 | .ago _::ps,d,nb=>fB ps d nb
 | .fn _ _::ps,d,nb=>fB ps d nb
 | .nils::ps,d,nb=>fB ps d nb
 | .box E o::ps,d,nb=>pd o d.1 nb++fB ps d.2 (nb+o.nr)
 | .row E t::ps,d,nb=>fB ps d.2 nb
def lN:List (Option Nat)->List (Nat×Nm)
 | []=>[]
 | none::r=>lN r
 | some n::r=>(n,.dead)::lN r
def nF:List SV->SV
 | [v]=>v
 | l => .tup l
def xR(fz:List (Nat×Nm)):List Nat->Bool
 | []=>true
 | n::r=>r7 n fz&&xR fz r
def nU:Nat->Nat->Dl->Q Dl
 | _,0,d => .ret d
 | n,k+1,d => .ask n fun
  | .un=>nU (n+1) k d
  | _ => .fail
def sU(ps:List PK)(rs:List RK):Bool := !(pn rs&&jH ps)
def qi(ps:List PK)(rs:List RK)(y:gC rs×d5 ps)(base:Nat)(fz:List (Nat×Nm))(bx:List Nat)(cx:List (Option Nat)):List (Nat×Nm) :=
 (d6 (bx.headD 0) ps y.2 bx (base+eG rs)++(jq (bx.headD 0) rs y.1 base++(fB ps y.2 (base+eG rs)++lN cx)))++(match sU ps rs with|true=>fz|false=>[])
def uZ(fz:List (Nat×Nm))(bx:List Nat)(cx:List (Option Nat)):Bool:=yE (bx++gT cx)&&xR fz (bx++gT cx)&&Nat.ble bx.length PN
def Ct.spec(c:Ct):Spec:=fun base svs=>(fg none c.ps svs).bind fun p=>match uZ p.2.1 p.2.2.1 p.2.2.2 with
 | true=>nU base (eG c.rs+gF c.ps) (.det (c.pre p.1) (nF (iB (p.2.2.1.headD 0) c.rs (c.out p.1).1 base)) (qi c.ps c.rs (c.out p.1) base p.2.1 p.2.2.1 p.2.2.2))
 | false => .fail
structure Cn where
 ps:List PK
 rs:List RK
 pre:ar ps->List Prop
 post:ar ps->gC rs×d5 ps->Prop
 inh:∀ d,bg (pre d)→∃ y,post d y
def sS{X:Type}(b0:Nat):(o:OT)->(X->o.X)->List Nat->Nat->List (Nat×(X->Nm))
 | .dat _,_,_,_=>[]
 | .row _ _,_,_,_=>[]
 | .rowg _ _,_,_,_=>[]
 | .fnc _,_,_,_=>[]
 | .ali,_,_,_=>[]
 | .ref E o,x,bx,n=>match bx with
  | q::r=>(q,fun y=>.live (.cells E (kK b0 o (x y) r n)))::sS b0 o x r n
  | []=>[]
 | .pair a b,x,bx,n=>sS b0 a (fun y=>(x y).1) bx n++sS b0 b (fun y=>(x y).2) (bx.drop a.nb) (n+a.nr)
def rD{X:Type}:(o:OT)->(X->o.X)->Nat->List (Nat×(X->Nm))
 | .dat _,_,_=>[]
 | .row E t,x,n=>[(n,fun y=>.live (.row E t (x y)))]
 | .rowg _ _,_,_=>[]
 | .fnc _,_,_=>[]
 | .ali,_,_=>[]
 | .ref _ o,x,n=>rD o x n
 | .pair a b,x,n=>rD a (fun y=>(x y).1) n++rD b (fun y=>(x y).2) (n+a.nr)
def kq{X:Type}(b0:Nat):(ps:List PK)->(X->d5 ps)->List Nat->Nat->List (Nat×(X->Nm))
 | .val _::ps,d,bx,nb=>kq b0 ps d bx nb
 | .agg _::ps,d,bx,nb=>kq b0 ps d bx nb
 | .own _ _::ps,d,bx,nb=>kq b0 ps d bx nb
 | .ago _::ps,d,bx,nb=>kq b0 ps d bx nb
 | .fn _ _::ps,d,bx,nb=>kq b0 ps d bx nb
 | .nils::ps,d,bx,nb=>kq b0 ps d bx nb
 | .box E o::ps,d,n::bx,nb=>(n,fun x=>.live (.cells E (kK b0 o (d x).1 bx nb)))::(sS b0 o (fun x=>(d x).1) bx nb++kq b0 ps (fun x=>(d x).2) (bx.drop o.nb) (nb+o.nr))
 | .row E t::ps,d,n::bx,nb=>(n,fun x=>.live (.row E t (d x).1))::kq b0 ps (fun x=>(d x).2) bx nb
 | _,_,_,_=>[]
def jX{X:Type}:(ps:List PK)->(X->d5 ps)->Nat->List (Nat×(X->Nm))
 | [],_,_=>[]
 | .val _::ps,d,nb=>jX ps d nb
 | .agg _::ps,d,nb=>jX ps d nb
 | .own _ _::ps,d,nb=>jX ps d nb
 | .ago _::ps,d,nb=>jX ps d nb
 | .fn _ _::ps,d,nb=>jX ps d nb
 | .nils::ps,d,nb=>jX ps d nb
 | .box E o::ps,d,nb=>rD o (fun x=>(d x).1) nb++jX ps (fun x=>(d x).2) (nb+o.nr)
 | .row E t::ps,d,nb=>jX ps (fun x=>(d x).2) nb
def oo{X:Type}(b0:Nat):(rs:List RK)->(X->gC rs)->Nat->List (Nat×(X->Nm))
 | [],_,_=>[]
 | .val t::rs,d,n=>oo b0 rs (fun x=>(d x).2) n
 | .agg o::rs,d,n=>rD o (fun x=>(d x).1) n++oo b0 rs (fun x=>(d x).2) (n+o.nr)
 | .own E t::rs,d,n=>(n,fun x=>.live (.row E t (d x).1))::oo b0 rs (fun x=>(d x).2) (n+1)
 | .box E o::rs,d,n=>(n,fun x=>.live (.cells E (kK b0 o (d x).1 [] (n+1))))::(rD o (fun x=>(d x).1) (n+1)++oo b0 rs (fun x=>(d x).2) (n+1+o.nr))
 | .fn _ _::rs,d,n=>oo b0 rs (fun x=>(d x).2) n
def wY{X:Type}:List (Nat×Nm)->List (Nat×(X->Nm))
 | []=>[]
 | (n,b)::r=>(n,fun _=>b)::wY r
def vf(ps:List PK)(rs:List RK)(base:Nat)(fz:List (Nat×Nm))(bx:List Nat)(cx:List (Option Nat)):List (Nat×(gC rs×d5 ps->Nm)) :=
 (kq (bx.headD 0) ps (fun y:gC rs×d5 ps=>y.2) bx (base+eG rs)++(oo (bx.headD 0) rs (fun y:gC rs×d5 ps=>y.1) base++(jX ps (fun y:gC rs×d5 ps=>y.2) (base+eG rs)++wY (lN cx))))++(match sU ps rs with|true=>wY fz|false=>[])
theorem Aa{X:Type}{b0:Nat}(y:X):∀(o:OT)(x:X->o.X)(bx:List Nat)(n:Nat),(sS b0 o x bx n).map (fun p=>(p.1,p.2 y))=jy b0 o (x y) bx n
 | .dat _,_,_,_=>rfl
 | .row _ _,_,_,_=>rfl
 | .rowg _ _,_,_,_=>rfl
 | .fnc _,_,_,_=>rfl
 | .ali,_,_,_=>rfl
 | .ref E o,x,[],n=>rfl
 | .ref E o,x,q::r,n=>by simp only[sS,jy,List.map_cons,Aa y o]
 | .pair a b,x,bx,n=>by simp only[sS,jy,List.map_append,Aa y a,Aa y b]
theorem wa{X:Type}(y:X):∀(o:OT)(x:X->o.X)(n:Nat),(rD o x n).map (fun p=>(p.1,p.2 y))=pd o (x y) n
 | .dat _,_,_=>rfl
 | .row _ _,_,_=>rfl
 | .rowg _ _,_,_=>rfl
 | .fnc _,_,_=>rfl
 | .ali,_,_=>rfl
 | .ref E o,x,n=>by simp only[rD,pd,wa y o]
 | .pair a b,x,n=>by simp only[rD,pd,List.map_append,wa y a,wa y b]
theorem qT{X:Type}{b0:Nat}(x:X):∀(ps:List PK)(d:X->d5 ps)(bx:List Nat)(nb:Nat),(kq b0 ps d bx nb).map (fun p=>(p.1,p.2 x))=d6 b0 ps (d x) bx nb
 | [],_,_,_=>rfl
 | .val _::ps,d,bx,nb=>by simp only[kq,d6];exact qT x ps d bx nb
 | .agg _::ps,d,bx,nb=>by simp only[kq,d6];exact qT x ps d bx nb
 | .own _ _::ps,d,bx,nb=>by simp only[kq,d6];exact qT x ps d bx nb
 | .ago _::ps,d,bx,nb=>by simp only[kq,d6];exact qT x ps d bx nb
 | .fn _ _::ps,d,bx,nb=>by simp only[kq,d6];exact qT x ps d bx nb
 | .nils::ps,d,bx,nb=>by simp only[kq,d6];exact qT x ps d bx nb
 | .box E t::ps,d,[],_=>rfl
 | .row E t::ps,d,[],_=>rfl
 | .box E t::ps,d,n::bx,nb=>by simp only[kq,d6,List.map_cons,List.map_append,Aa x t,qT x ps]
 | .row E t::ps,d,n::bx,nb=>by simp only[kq,d6,List.map_cons,qT x ps]
theorem qL{X:Type}(x:X):∀(ps:List PK)(d:X->d5 ps)(nb:Nat),(jX ps d nb).map (fun p=>(p.1,p.2 x))=fB ps (d x) nb
 | [],_,_=>rfl
 | .val _::ps,d,nb=>by simp only[jX,fB];exact qL x ps d nb
 | .agg _::ps,d,nb=>by simp only[jX,fB];exact qL x ps d nb
 | .own _ _::ps,d,nb=>by simp only[jX,fB];exact qL x ps d nb
 | .ago _::ps,d,nb=>by simp only[jX,fB];exact qL x ps d nb
 | .fn _ _::ps,d,nb=>by simp only[jX,fB];exact qL x ps d nb
 | .nils::ps,d,nb=>by simp only[jX,fB];exact qL x ps d nb
 | .box E t::ps,d,nb=>by simp only[jX,fB,List.map_append,wa x t,qL x ps]
 | .row E t::ps,d,nb=>by simp only[jX,fB];exact qL x ps _ nb
theorem wK{X:Type}{b0:Nat}(x:X):∀(rs:List RK)(d:X->gC rs)(n:Nat),(oo b0 rs d n).map (fun p=>(p.1,p.2 x))=jq b0 rs (d x) n
 | [],_,_=>rfl
 | .val t::rs,d,n=>by simp only[oo,jq];exact wK x rs _ n
 | .agg t::rs,d,n=>by simp only[oo,jq,List.map_append,wa x t,wK x rs]
 | .own E t::rs,d,n=>by simp only[oo,jq,List.map_cons,wK x rs]
 | .box E t::rs,d,n=>by simp only[oo,jq,List.map_cons,List.map_append,wa x t,wK x rs]
 | .fn _ _::rs,d,n=>by simp only[oo,jq];exact wK x rs _ n
theorem En{X:Type}(x:X):∀(l:List (Nat×Nm)),(wY (X:=X) l).map (fun p=>(p.1,p.2 x))=l
 | []=>rfl
 | (n,b)::r=>by simp only[wY,List.map_cons,En x r]
theorem LZ{ps:List PK}{rs:List RK}{base:Nat}{fz:List (Nat×Nm)}{bx:List Nat}{cx:List (Option Nat)}(y:gC rs×d5 ps):(vf ps rs base fz bx cx).map (fun p=>(p.1,p.2 y))=qi ps rs y base fz bx cx:=by
 unfold vf qi
 simp only[List.map_append,qT,wK,qL,En]
 cases sU ps rs with
 | true=>simp only[En]
 | false=>rfl
def tc:(o:OT)->(o.X->Prop)->Prop
 | .dat t,k=>te t k
 | .row _ t,k=>∀ x:List t.D,k x
 | .rowg _ _,k=>k ()
 | .fnc _,k=>k ()
 | .ali,k=>k ()
 | .ref _ o,k=>tc o k
 | .pair a b,k=>tc a fun x=>tc b fun y=>k (x,y)
theorem vL:∀{o:OT}{k:o.X->Prop},tc o k→∀ d,k d
 | .dat t,k,h,d=>BW.1 h d
 | .row _ t,k,h,d=>h d
 | .rowg _ _,k,h,d=>h
 | .fnc _,k,h,d=>h
 | .ali,k,h,d=>h
 | .ref _ o,k,h,d=>vL (o:=o) h d
 | .pair a b,k,h,d=>vL (o:=b) (vL (o:=a) h d.1) d.2
def sZ:(rs:List RK)->(gC rs->Prop)->Prop
 | [],k=>k ()
 | .val t::r,k=>te t fun x=>sZ r fun y=>k (x,y)
 | .agg o::r,k=>tc o fun x=>sZ r fun y=>k (x,y)
 | .own _ t::r,k=>∀ x:List t.D,sZ r fun y=>k (x,y)
 | .box _ o::r,k=>tc o fun x=>sZ r fun y=>k (x,y)
 | .fn _ _::r,k=>sZ r fun y=>k ((),y)
theorem wu:∀{rs:List RK}{k:gC rs->Prop},sZ rs k→∀ d,k d
 | [],k,h,d=>h
 | .val t::r,k,h,d=>wu (rs:=r) (BW.1 h d.1) d.2
 | .agg o::r,k,h,d=>wu (rs:=r) (vL (o:=o) h d.1) d.2
 | .own _ t::r,k,h,d=>wu (rs:=r) (h d.1) d.2
 | .box _ o::r,k,h,d=>wu (rs:=r) (vL (o:=o) h d.1) d.2
 | .fn _ _::r,k,h,d=>wu (rs:=r) h d.2
def qk:(ps:List PK)->(d5 ps->Prop)->Prop
 | [],k=>k ()
 | .val _::r,k=>qk r k
 | .agg _::r,k=>qk r k
 | .own _ _::r,k=>qk r k
 | .ago _::r,k=>qk r k
 | .fn _ _::r,k=>qk r k
 | .nils::r,k=>qk r k
 | .box _ o::r,k=>tc o fun x=>qk r fun y=>k (x,y)
 | .row _ t::r,k=>∀ x:List t.D,qk r fun y=>k (x,y)
theorem rC:∀{ps:List PK}{k:d5 ps->Prop},qk ps k→∀ d,k d
 | [],k,h,d=>h
 | .val _::r,k,h,d=>rC (ps:=r) h d
 | .agg _::r,k,h,d=>rC (ps:=r) h d
 | .own _ _::r,k,h,d=>rC (ps:=r) h d
 | .ago _::r,k,h,d=>rC (ps:=r) h d
 | .fn _ _::r,k,h,d=>rC (ps:=r) h d
 | .nils::r,k,h,d=>rC (ps:=r) h d
 | .box _ o::r,k,h,d=>rC (ps:=r) (vL (o:=o) h d.1) d.2
 | .row _ t::r,k,h,d=>rC (ps:=r) (h d.1) d.2
def LA(rs:List RK)(ps:List PK):Qn (gC rs×d5 ps) :=
 ⟨fun k=>sZ rs fun y=>qk ps fun z=>k (y,z),fun k h x=>rC (wu h x.1) x.2,fun k=>∃ x,k x,fun _ h=>h⟩
def Cn.spec(c:Cn):Spec:=fun base svs=>(fg none c.ps svs).bind fun p=>match uZ p.2.1 p.2.2.1 p.2.2.2 with
 | true=>nU base (eG c.rs+gF c.ps) (.nd (gC c.rs×d5 c.ps) (LA c.rs c.ps) (c.pre p.1) (c.post p.1) (c.inh p.1) (fun y=>nF (iB (p.2.2.1.headD 0) c.rs y.1 base)) (vf c.ps c.rs base p.2.1 p.2.2.1 p.2.2.2))
 | false => .fail
section
variable {w0:World} {N0:dM} {A A' A1 A2:Nat->Prop} {env env1 env':aJ} {h h1:bd} {w w1:World}
theorem tD{a b c:Bool}{p:Prop}(h:(a&&b)=true∨p):a=true∨p:=by
 rcases h with h|h
 ·exact .inl (by simp only[Bool.and_eq_true] at h;exact h.1)
 ·exact .inr h
theorem uk{a b:Bool}{p:Prop}(h:(a&&b)=true∨p):b=true∨p:=by
 rcases h with h|h
 ·exact .inl (by simp only[Bool.and_eq_true] at h;exact h.2)
 ·exact .inr h
theorem al1{al:Bool}{t:OT}{rs:List RK}{svs:List SV} {x} (e:kf al (.agg t::rs) svs h1=some x):∃ cs r,svs = .agg cs::r:=by
 cases svs with
 | nil=>cases e
 | cons s r=>cases s <;> first|exact⟨_,_,rfl⟩|cases e
theorem WX{al:Bool}{E:TypeId}{t:CT}{rs:List RK}{svs:List SV} {x} (e:kf al (.own E t::rs) svs h1=some x):∃ v r,svs=v::r:=by
 cases svs with
 | nil=>cases e
 | cons s r=>exact⟨_,_,rfl⟩
theorem Ww{al:Bool}{E:TypeId}{t:OT}{rs:List RK}{svs:List SV} {x} (e:kf al (.box E t::rs) svs h1=some x):∃ m r,svs = .ptr m 0::r:=by
 cases svs with
 | nil=>cases e
 | cons s r=>cases s <;> first|cases e;done|(rename_i m o;cases o <;> first|exact⟨_,_,rfl⟩|cases e)
theorem ai8{al:Bool}{f:FuncId}{k:Nat}{rs:List RK}{svs:List SV} {x} (e:kf al (.fn f k::rs) svs h1=some x):∃ g cs r,svs = .fn g cs::r:=by
 cases svs with
 | nil=>cases e
 | cons s r=>cases s <;> first|exact⟨_,_,_,rfl⟩|cases e
theorem Hu{al:Bool}{E:TypeId}{t:OT}{j:Option Nat}{svs:List SV} {x} (e:jL h1 al (.ref E t) j svs=some x):∃ j0 m r,j=some j0/\svs = .ptr m 0::r:=by
 cases j with
 | none=>cases svs <;> cases e
 | some j0 =>
  cases svs with
  | nil=>cases e
  | cons s r=>cases s <;> first|cases e;done|(rename_i m o;cases o <;> first|exact⟨_,_,_,rfl,rfl⟩|cases e)
theorem TJ{al:Bool}{f:FuncId}{j:Option Nat}{svs:List SV} {x} (e:jL h1 al (.fnc f) j svs=some x):∃ r,svs = .fn f []::r/\x=((),r,[],[]):=by
 cases svs with
 | nil=>cases e
 | cons s r =>
  cases s <;> first|cases e;done|skip
  rename_i g cs
  cases cs <;> first|cases e;done|skip
  simp only[jL] at e
  split at e
  ·rename_i hb
   rw[Nat.eq_of_beq_eq_true hb]
   simp only[Option.some.injEq] at e
   exact⟨_,rfl,e.symm⟩
  ·cases e
theorem Yb{al:Bool}{E:TypeId}{t:CT}{j:Option Nat}{svs:List SV} {x} (e:jL h1 al (.rowg E t) j svs=some x):∃ v r,svs=v::r:=by
 cases svs with
 | nil=>cases e
 | cons s r=>exact⟨_,_,rfl⟩
theorem NX{Nc:dM}(m1:aY w Nc A1 env1 h1 w1)(hA:∀ b,A1 b->A2 b){E:TypeId}{t:CT}(L:t.plain=true∨∀ b,A2 b->A' b){cs rest:List SV}{vs:List Value}{ys:List t.D}{on:Option Nat}
  (e:xT E t h1 cs=some (ys,rest,on)) (hd:aE A1 env1 w1 cs vs) :
  ∃ v vr,vs=v::vr/\rest=cs.drop 1/\aE A1 env1 w1 rest vr∧∀(e':aJ)(i:Nat),e' i=ly env1 on->ai A' e' w1 (.own i t.size) v/\gD A' env1 h1 e' w1 [on] [(i,.live (.row E t ys))] i:=by
 cases cs with
 | nil=>cases e
 | cons s cs =>
 cases s with
 | own n sz =>
  simp only[xT] at e
  split at e
  ·rename_i E' t' xs hl
   split at e
   ·rename_i zs hE hsz hc
    have hE:=Nat.eq_of_beq_eq_true hE
    subst hE
    have hsz:=Nat.eq_of_beq_eq_true hsz
    subst hsz
    obtain⟨et,ez⟩:=gN hc
    subst et
    simp only at ez
    subst ez
    simp only[Option.some.injEq,Prod.mk.injEq] at e
    obtain⟨rfl,rfl,rfl⟩:=e
    simp only[aE,ai] at hd
    obtain⟨x,vr,rfl,hv,hr⟩:=hd
    have hm:=m1.nm n
    rw[hl] at hm
    refine⟨x,vr,rfl,rfl,hr,fun e' i he=>⟨?_,⟨rfl,_,rfl,rfl,.inl ⟨n,_,rfl,hl,rfl,fun k len he=>?_,fun he=>?_⟩⟩,trivial⟩⟩
    ·simp only[ly] at he
     simp only[ai]
     rw[he];exact hv
    ·rcases hm with⟨k',len',he',hb,_⟩|⟨he',_⟩
     ·rw[he] at he';cases he'
      obtain⟨us,cap,g1,g2,g3,g4,g5,g6⟩:=hb
      exact⟨us,cap,g1,g2,g3,g4,g5,fun i hi=>zZ L (fG hA (fun _ _ _=>rfl) _ _ _ _ _ (fun _ _=>rfl) (g6 i hi))⟩
     ·rw[he] at he';cases he'
    ·rcases hm with⟨k',len',he',hb,_⟩|⟨he',E2,t2,hb⟩
     ·rw[he] at he';cases he'
     ·rcases hb with hb|hb <;> cases hb
      exact⟨_,_,rfl⟩
   ·cases e
  ·cases e
 | nilsl =>
  simp only[xT,Option.some.injEq,Prod.mk.injEq] at e
  obtain⟨rfl,rfl,rfl⟩:=e
  simp only[aE,ai] at hd
  obtain⟨x,vr,rfl,rfl,hr⟩:=hd
  refine⟨_,vr,rfl,rfl,hr,fun e' i he=>⟨?_,⟨rfl,_,rfl,rfl,.inr ⟨rfl,_,_,rfl⟩⟩,trivial⟩⟩
  simp only[ai]
  exact .inl ⟨he,_,rfl⟩
 | _=>cases e
def m5(A':Nat->Prop)(env1:aJ)(h1:bd)(env':aJ)(w1:World)(bx:List Nat)(j:Nat)(n:Nat)(x:Nm):Prop :=
 ∃ i b b0,bx[i]? = some n/\x = .live b/\b.mut=true/\h1 (PN+(j+i)) = .live b0/\b0.mut=true/\(∀ k len,env1 (PN+(j+i)) = .blk k len->ie A' env' w1 k len b)/\(env1 (PN+(j+i)) = .nil→∃ E t,b = .row E t [])
theorem m5.shift{pre bx:List Nat}{j n:Nat}{x:Nm}(h:m5 A' env1 h1 env' w1 bx (j+pre.length) n x):m5 A' env1 h1 env' w1 (pre++bx) j n x:=by
 obtain⟨i,b,b0,g1,g2,g3,g4,g5,g6,g7⟩:=h
 rw[show j+pre.length+i=j+(pre.length+i) from by omega] at g4 g6 g7
 exact⟨pre.length+i,b,b0,by rw[List.getElem?_append_right (by omega),Nat.add_sub_cancel_left];exact g1,g2,g3,g4,g5,g6,g7⟩
theorem m5.grow{bx post:List Nat}{j n:Nat}{x:Nm}(h:m5 A' env1 h1 env' w1 bx j n x):m5 A' env1 h1 env' w1 (bx++post) j n x:=by
 obtain⟨i,b,b0,g1,g2⟩:=h
 exact⟨i,b,b0,by rw[List.getElem?_append_left (List.getElem?_eq_some_iff.1 g1).1];exact g1,g2⟩
theorem Ch{al:Bool}:∀(o:OT)(cs:List SV) {x},jL h1 al o none cs=some x->o.nb=0
 | .dat t,_,_,_=>rfl
 | .row _ t,_,_,_=>rfl
 | .rowg _ t,_,_,_=>rfl
 | .fnc _,_,_,_=>rfl
 | .ali,_,_,_=>rfl
 | .ref _ o,cs,x,e=>by obtain⟨j0,m,r,hj,-⟩:=Hu e;cases hj
 | .pair a b,cs,x,e=>by
  simp only[jL] at e
  split at e
  ·rename_i h1'
   split at e
   ·rename_i h2'
    have k1:=Ch a _ h1'
    have k2:=Ch b _ h2'
    simp only[OT.nb];omega
   ·cases e
  ·cases e
theorem Wy{al:Bool}{j:Option Nat}{svs:List SV} {x} (e:jL h1 al .ali j svs=some x):∃ r,svs = .ptr PN 0::r/\al=true/\x=((),r,[],[]):=by
 cases svs with
 | nil=>cases e
 | cons s r =>
  cases s with
  | ptr m off=>cases off with
   | zero =>
    have e:(match (generalizing:=false) al,Nat.beq m PN with|true,true=>(some ((),r,[],[]):Option (Unit×List SV×List (Nat×Nm)×List (Option Nat)))|_,_=>none)=some x:=by
     cases j <;> exact e
    cases hb:Nat.beq m PN with
    | false=>rw[hb] at e;cases al <;> cases e
    | true =>
     rw[hb] at e
     cases al with
     | false=>cases e
     | true =>
      simp only[Option.some.injEq] at e
      exact⟨r,by rw[Nat.eq_of_beq_eq_true hb],rfl,e.symm⟩
   | succ k=>cases e
  | _=>cases e
theorem vC{al:Bool}{Nc:dM}(m1:aY w Nc A1 env1 h1 w1)(hA:∀ b,A1 b->A2 b)(b0:Nat):∀(o:OT)(j:Option Nat)(cs:List SV)(vs:List Value)(x:o.X)(rest:List SV)(fz:List (Nat×Nm))(ow:List (Option Nat))(bx more:List Nat)(n:Nat),
  jL h1 al o j cs=some (x,rest,fz,ow)->aE A1 env1 w1 cs vs->(∀ k,fa env1 fz k->A2 k)->(o.plain=true∨∀ b,A2 b->A' b)->(j=none∨bx.length=o.nb) →
  lI h1 fz/\ow.length=o.nr∧∃ us rs,vs=us++rs/\aE A1 env1 w1 rest rs ∧
   ((al=true->env' b0=env1 PN)->(∀ k q,ow[k]? = some q->env' (n+k)=ly env1 q)->(∀ j0 k q,j=some j0->bx[k]? = some q->env' q=env1 (PN+(j0+k))) →
     aE A' env' w1 (kK b0 o x (bx++more) n) us/\gD A' env1 h1 env' w1 ow (pd o x n) n/\(∀ q y,(q,y)∈jy b0 o x (bx++more) n→∃ j0,j=some j0/\m5 A' env1 h1 env' w1 bx j0 q y) ∧
     (j≠none→∀ q,q∈bx->q∈(jy b0 o x (bx++more) n).map (·.1)))
 | .dat t,j,cs,vs,x,rest,fz,ow,bx,more,n,e,hd,hF,L,hbl=>by
  simp only[jL] at e
  split at e
  ·rename_i x1 r1 f1 q1 hp
   simp only[Option.some.injEq,Prod.mk.injEq] at e
   obtain⟨rfl,rfl,rfl,rfl⟩:=e
   obtain⟨p1,p2,p3,p4,p5⟩:=oE m1 t cs vs x1 r1 f1 _ hp hd hA hF
   refine⟨p1,rfl,vs.take t.size,vs.drop t.size,(List.take_append_drop _ _).symm,p5,fun _ _ _=>⟨?_,trivial,fun q y hh=>by simp[jy] at hh,fun hj q hq=>?_⟩⟩
   ·simp only[kK]
    refine A5 (by rw[List.length_take];omega) (zZ L ?_)
    refine fG (fun _ h=>h) (fun _ _ _=>rfl) t _ _ _ _ (fun k hk=>?_) p4
    simp only[Nat.zero_add,List.getElem?_take]
    rw[if_pos hk]
   ·rcases hbl with hbl|hbl
    ·exact absurd hbl hj
    ·rw[List.length_eq_zero_iff.1 hbl] at hq;cases hq
  ·cases e
 | .row E t,j,cs,vs,x,rest,fz,ow,bx,more,n,e,hd,hF,L,hbl=>by
  simp only[jL] at e
  split at e
  ·rename_i x1 r1 o1 hp
   simp only[Option.some.injEq,Prod.mk.injEq] at e
   obtain⟨rfl,rfl,rfl,rfl⟩:=e
   obtain⟨v,vr,rfl,-,p2,p3⟩:=NX (A':=A') m1 hA L hp hd
   refine⟨fun n b hh=>by simp at hh,rfl,[v],vr,rfl,p2,fun _ ho _=>?_⟩
   obtain⟨k1,k2⟩:=p3 env' n (ho 0 _ rfl)
   refine⟨?_,k2,fun q y hh=>by simp[jy] at hh,fun hj q hq=>?_⟩
   ·simp only[kK,aE];exact⟨v,[],rfl,k1,rfl⟩
   ·rcases hbl with hbl|hbl
    ·exact absurd hbl hj
    ·rw[List.length_eq_zero_iff.1 hbl] at hq;cases hq
  ·cases e
 | .rowg E t,j,cs0,vs,x,rest,fz,ow,bx,more,n,e,hd,hF,L,hbl=>by
  obtain⟨v,cs,rfl⟩:=Yb e
  simp only[jL,Option.some.injEq,Prod.mk.injEq] at e
  obtain⟨-,rfl,rfl,rfl⟩:=e
  simp only[aE] at hd
  obtain⟨u,vr,rfl,hu,hvr⟩:=hd
  refine⟨fun n b hh=>by simp at hh,rfl,[u],vr,rfl,hvr,fun _ ho _=>⟨?_,trivial,fun q y hh=>by simp[jy] at hh,fun hj q hq=>?_⟩⟩
  ·simp only[kK,aE,ai];exact⟨u,[],rfl,trivial,rfl⟩
  ·rcases hbl with hbl|hbl
   ·exact absurd hbl hj
   ·rw[List.length_eq_zero_iff.1 hbl] at hq;cases hq
 | .fnc f,j,cs0,vs,x,rest,fz,ow,bx,more,n,e,hd,hF,L,hbl=>by
  obtain⟨cs,rfl,e2⟩:=TJ e
  simp only[Prod.mk.injEq] at e2
  obtain⟨-,rfl,rfl,rfl⟩:=e2
  simp only[aE] at hd
  obtain⟨u,vr,rfl,hu,hvr⟩:=hd
  refine⟨fun n b hh=>by simp at hh,rfl,[u],vr,rfl,hvr,fun _ ho _=>⟨?_,trivial,fun q y hh=>by simp[jy] at hh,fun hj q hq=>?_⟩⟩
  ·simp only[kK,aE]
   simp only[ai,aE] at hu
   refine⟨u,[],rfl,?_,rfl⟩
   simp only[ai,aE]
   exact hu
  ·rcases hbl with hbl|hbl
   ·exact absurd hbl hj
   ·rw[List.length_eq_zero_iff.1 hbl] at hq;cases hq
 | .ali,j,cs0,vs,x,rest,fz,ow,bx,more,n,e,hd,hF,L,hbl=>by
  obtain⟨cs,rfl,hj0,e2⟩:=Wy e
  simp only[Prod.mk.injEq] at e2
  obtain⟨-,rfl,rfl,rfl⟩:=e2
  simp only[aE,ai] at hd
  obtain⟨u,vr,rfl,⟨k,len,hek,rfl⟩,hvr⟩:=hd
  refine⟨fun n b hh=>by simp at hh,rfl,[_],vr,rfl,hvr,fun hb0 ho _=>⟨?_,trivial,fun q y hh=>by simp[jy] at hh,fun hj q hq=>?_⟩⟩
  ·simp only[kK,aE,ai]
   exact⟨_,[],rfl,⟨k,len,by rw[hb0 hj0];exact hek,rfl⟩,rfl⟩
  ·rcases hbl with hbl|hbl
   ·exact absurd hbl hj
   ·rw[List.length_eq_zero_iff.1 hbl] at hq;cases hq
 | .ref E o,j,cs0,vs,x,rest,fz,ow,bx,more,n,e,hd,hF,L,hbl=>by
  obtain⟨j0,m,cs,rfl,rfl⟩:=Hu e
  simp only[jL] at e
  split at e
  ·rename_i E' cs' hm hl
   have hm:=Nat.eq_of_beq_eq_true hm
   subst hm
   split at e
   ·rename_i x1 f1 w1' hE hp
    have hE:=Nat.eq_of_beq_eq_true hE
    subst hE
    simp only[Option.some.injEq,Prod.mk.injEq] at e
    obtain⟨rfl,rfl,rfl,rfl⟩:=e
    simp only[aE,ai] at hd
    obtain⟨u,vr,rfl,⟨kb,lb,hkb,rfl⟩,hvr⟩:=hd
    obtain⟨⟨us,hus,hdu⟩,_⟩:=m1.live_blk hl hkb
    cases bx with
    | nil=>rcases hbl with hbl|hbl <;> cases hbl
    | cons q0 bx =>
    have hbl':bx.length=o.nb:=by
     rcases hbl with hbl|hbl
     ·cases hbl
     ·simpa[OT.nb] using hbl
    obtain⟨s1,s2,us',rs',s5,s6,s7⟩:=vC m1 hA b0 o (some (j0+1)) cs' us.toList x1 [] f1 w1' bx more n hp hdu hF L (.inr hbl')
    simp only[aE] at s6
    subst s6
    rw[List.append_nil] at s5
    subst s5
    refine⟨s1,s2,[_],vr,rfl,hvr,fun h0b ho hb=>?_⟩
    have h0:=hb j0 0 q0 rfl rfl
    rw[Nat.add_zero] at h0
    obtain⟨k1,k2,k3,k4⟩:=s7 h0b ho (fun j1 k q hj hq=>by
     cases hj
     have:=hb j0 (k+1) q rfl (by simpa using hq)
     rwa [show j0+(k+1)=j0+1+k from by omega] at this)
    refine⟨?_,k2,fun q y hh=>?_,fun _ q hq=>?_⟩
    ·simp only[kK,List.cons_append,aE,ai]
     exact⟨_,[],rfl,⟨kb,lb,by rw[h0];exact hkb,rfl⟩,rfl⟩
    ·simp only[jy,List.cons_append] at hh
     rcases List.mem_cons.1 hh with hh|hh
     ·cases hh
      refine⟨j0,rfl,0,_,_,rfl,rfl,rfl,hl,rfl,fun k len he=>?_,fun he=>?_⟩
      ·rw[Nat.add_zero,hkb] at he;cases he
       exact⟨us,hus,k1⟩
      ·rw[Nat.add_zero,hkb] at he;cases he
     ·obtain⟨j1,hj1,hbx⟩:=k3 q y hh
      cases hj1
      exact⟨j0,rfl,m5.shift (pre:=[q0]) hbx⟩
    ·simp only[jy,List.cons_append,List.map_cons]
     rcases List.mem_cons.1 hq with rfl|hq
     ·exact List.mem_cons_self ..
     ·exact List.mem_cons_of_mem _ (k4 (by simp) q hq)
   ·cases e
  ·cases e
 | .pair a b,j,cs,vs,x,rest,fz,ow,bx,more,n,e,hd,hF,L,hbl=>by
  simp only[jL] at e
  split at e
  ·rename_i x1 r1 f1 o1 h1'
   split at e
   ·rename_i x2 r2 f2 o2 h2'
    simp only[Option.some.injEq,Prod.mk.injEq] at e
    obtain⟨rfl,rfl,rfl,rfl⟩:=e
    have hF1:∀ k,fa env1 f1 k->A2 k:=fun k ⟨n,x,l,hx,he⟩=>hF k ⟨n,x,l,List.mem_append_left _ hx,he⟩
    have hF2:∀ k,fa env1 f2 k->A2 k:=fun k ⟨n,x,l,hx,he⟩=>hF k ⟨n,x,l,List.mem_append_right _ hx,he⟩
    have La:a.plain=true∨∀ b,A2 b->A' b:=tD (c:=true) L
    have Lb:b.plain=true∨∀ b,A2 b->A' b:=uk L
    have hla:j=none∨(bx.take a.nb).length=a.nb:=by
     rcases hbl with hbl|hbl
     ·exact .inl hbl
     ·simp only[OT.nb] at hbl
      exact .inr (by rw[List.length_take];omega)
    have hlb:j.map (· + a.nb)=none∨(bx.drop a.nb).length=b.nb:=by
     rcases hbl with hbl|hbl
     ·exact .inl (by rw[hbl];rfl)
     ·simp only[OT.nb] at hbl
      exact .inr (by rw[List.length_drop];omega)
    obtain⟨s1,s2,us,rs,rfl,s6,s7⟩:=vC m1 hA b0 a j cs vs x1 r1 f1 o1 (bx.take a.nb) (bx.drop a.nb++more) n h1' hd hF1 La hla
    obtain⟨t1,t2,us',rs',rfl,t6,t7⟩:=vC m1 hA b0 b (j.map (· + a.nb)) r1 rs x2 r2 f2 o2 (bx.drop a.nb) more (n+a.nr) h2' s6 hF2 Lb hlb
    refine⟨fun n b hh=>?_,by simp only[List.length_append,s2,t2,OT.nr],us++us',rs',by rw[List.append_assoc],t6,fun h0b ho hb=>?_⟩
    ·rcases List.mem_append.1 hh with hh|hh
     ·exact s1 n b hh
     ·exact t1 n b hh
    have eb:bx.take a.nb++(bx.drop a.nb++more)=bx++more:=by rw[← List.append_assoc,List.take_append_drop]
    obtain⟨k1,k2,k3,k4⟩:=s7 h0b (fun k q hq=>ho k q (by rw[List.getElem?_append_left (List.getElem?_eq_some_iff.1 hq).1];exact hq))
     (fun j0 k q hj hq=>by
      refine hb j0 k q hj ?_
      rw[List.getElem?_take] at hq
      split at hq
      ·exact hq
      ·cases hq)
    obtain⟨l1,l2,l3,l4⟩:=t7 h0b (fun k q hq=>by
      have:=ho (a.nr+k) q (by rw[List.getElem?_append_right (by omega),s2,Nat.add_sub_cancel_left];exact hq)
      rwa [show n+(a.nr+k)=n+a.nr+k from by omega] at this)
     (fun j1 k q hj hq=>by
      cases j with
      | none=>cases hj
      | some j0 =>
       simp only[Option.map_some,Option.some.injEq] at hj
       subst hj
       rw[List.getElem?_drop] at hq
       have:=hb j0 (a.nb+k) q rfl hq
       rwa [show j0+(a.nb+k)=j0+a.nb+k from by omega] at this)
    rw[eb] at k1 k3 k4
    have ed:(bx++more).drop a.nb=bx.drop a.nb++more:=by
     rcases hbl with hbl|hbl
     ·subst hbl
      rw[Ch a _ h1',List.drop_zero,List.drop_zero]
     ·simp only[OT.nb] at hbl
      rw[List.drop_append_of_le_length (by omega)]
    have tl:∀ j0,j=some j0->(bx.take a.nb).length=a.nb:=fun j0 hj=>by
     rcases hla with h|h
     ·rw[hj] at h;cases h
     ·exact h
    rw[← ed] at l1 l3 l4
    simp only[kK,jy,pd]
    refine⟨pS k1 l1,k2.append (by rw[s2];exact l2),fun q y hh=>?_,fun hj q hq=>?_⟩
    ·rcases List.mem_append.1 hh with hh|hh
     ·obtain⟨j0,hj,hx⟩:=k3 q y hh
      refine⟨j0,hj,?_⟩
      have:=hx.grow (post:=bx.drop a.nb)
      rwa [List.take_append_drop] at this
     ·obtain⟨j1,hj1,hx⟩:=l3 q y hh
      cases j with
      | none=>cases hj1
      | some j0 =>
       simp only[Option.map_some,Option.some.injEq] at hj1
       subst hj1
       refine⟨j0,rfl,?_⟩
       have:=m5.shift (pre:=bx.take a.nb) (bx:=bx.drop a.nb) (j:=j0) (n:=q) (x:=y) (by rw[tl j0 rfl];exact hx)
       rwa [List.take_append_drop] at this
    ·rw[List.map_append]
     rw[← List.take_append_drop a.nb bx] at hq
     rcases List.mem_append.1 hq with hq|hq
     ·exact List.mem_append_left _ (k4 hj q hq)
     ·exact List.mem_append_right _ (l4 (by cases j with|none=>exact absurd rfl hj|some j0=>simp) q hq)
   ·cases e
  ·cases e
theorem y8{b0:Nat}:∀{o:OT}{x:o.X}{bx more:List Nat}{n:Nat},bx.length=o.nb→∀ q,q∈bx->q∈(jy b0 o x (bx++more) n).map (·.1)
 | .dat _,x,bx,more,n,hl,q,hq=>by rw[List.length_eq_zero_iff.1 hl] at hq;cases hq
 | .row _ _,x,bx,more,n,hl,q,hq=>by rw[List.length_eq_zero_iff.1 hl] at hq;cases hq
 | .rowg _ _,x,bx,more,n,hl,q,hq=>by rw[List.length_eq_zero_iff.1 hl] at hq;cases hq
 | .fnc _,x,bx,more,n,hl,q,hq=>by rw[List.length_eq_zero_iff.1 hl] at hq;cases hq
 | .ali,x,bx,more,n,hl,q,hq=>by rw[List.length_eq_zero_iff.1 hl] at hq;cases hq
 | .ref E o,x,[],more,n,hl,q,hq=>by cases hq
 | .ref E o,x,q0::bx,more,n,hl,q,hq=>by
  simp only[List.cons_append,jy,List.map_cons]
  rcases List.mem_cons.1 hq with rfl|hq
  ·exact List.mem_cons_self ..
  ·exact List.mem_cons_of_mem _ (y8 (o:=o) (by simpa[OT.nb] using hl) q hq)
 | .pair a b,x,bx,more,n,hl,q,hq=>by
  simp only[OT.nb] at hl
  simp only[jy,List.map_append]
  rw[← List.take_append_drop a.nb bx] at hq
  have e1:bx++more=bx.take a.nb++(bx.drop a.nb++more):=by rw[← List.append_assoc,List.take_append_drop]
  rcases List.mem_append.1 hq with hq|hq
  ·refine List.mem_append_left _ ?_
   rw[e1]
   exact y8 (o:=a) (by rw[List.length_take];omega) q hq
  ·refine List.mem_append_right _ ?_
   rw[List.drop_append_of_le_length (by omega)]
   exact y8 (o:=b) (by rw[List.length_drop];omega) q hq
theorem um{al:Bool}{Nc:dM}(m1:aY w Nc A1 env1 h1 w1)(hA:∀ b,A1 b->A2 b)(b0:Nat):∀(rs:List RK)(d:gC rs)(svs:List SV)(vs:List Value)(fz:List (Nat×Nm))(ow:List (Option Nat))(n:Nat),
  kf al rs svs h1=some (d,fz,ow)->aE A1 env1 w1 svs vs->(∀ k,fa env1 fz k->A2 k)->(pn rs=true∨∀ b,A2 b->A' b) →
  lI h1 fz/\ow.length=eG rs/\((al=true->env' b0=env1 PN)->(∀ i o,ow[i]? = some o->env' (n+i)=ly env1 o)->aE A' env' w1 (iB b0 rs d n) vs/\gD A' env1 h1 env' w1 ow (jq b0 rs d n) n)
 | [],d,[],vs,fz,ow,n,e,hd,hF,L=>by
  simp only[kf,Option.some.injEq,Prod.mk.injEq] at e
  obtain⟨-,rfl,rfl⟩:=e
  exact⟨fun n b hh=>by simp at hh,rfl,fun _ _=>⟨by simpa[iB,aE] using hd,trivial⟩⟩
 | .val t::rs,d,v::svs,vs,fz,ow,n,e,hd,hF,L=>by
  simp only[kf] at e
  split at e
  ·rename_i x f1 q hp
   split at e
   ·rename_i ps f2 o hr
    simp only[Option.some.injEq,Prod.mk.injEq] at e
    obtain⟨rfl,rfl,rfl⟩:=e
    simp only[aE] at hd
    obtain⟨u,vr,rfl,hu,hvr⟩:=hd
    have hF1:∀ k,fa env1 f1 k->A2 k:=fun k ⟨n,x,l,hx,he⟩=>hF k ⟨n,x,l,List.mem_append_left _ hx,he⟩
    have hF2:∀ k,fa env1 f2 k->A2 k:=fun k ⟨n,x,l,hx,he⟩=>hF k ⟨n,x,l,List.mem_append_right _ hx,he⟩
    obtain⟨p1,_,p3,p4,_⟩:=oE m1 t [v] [u] x [] f1 _ hp (by simp only[aE];exact⟨u,[],rfl,hu,rfl⟩) hA hF1
    obtain⟨s1,s2,s3⟩:=um m1 hA b0 rs ps svs vr f2 o n hr hvr hF2 (uk L)
    refine⟨fun n b hh=>?_,s2,fun hal he=>?_⟩
    ·rcases List.mem_append.1 hh with hh|hh
     ·exact p1 n b hh
     ·exact s1 n b hh
    ·obtain⟨k1,k2⟩:=s3 hal he
     refine⟨?_,k2⟩
     simp only[iB,aE]
     exact⟨u,vr,rfl,Gu (rest:=[]) (zZ (tD (c:=true) L) p4),k1⟩
   ·cases e
  ·cases e
 | .agg t::rs,d,svs0,vs,fz,ow,n,e,hd,hF,L=>by
  obtain⟨cs,svs,rfl⟩:=al1 e
  simp only[kf] at e
  split at e
  ·rename_i x f1 w' hp
   split at e
   ·rename_i ps f2 o hr
    simp only[Option.some.injEq,Prod.mk.injEq] at e
    obtain⟨rfl,rfl,rfl⟩:=e
    simp only[aE,ai] at hd
    obtain⟨u,vr,rfl,⟨us,rfl,hu⟩,hvr⟩:=hd
    have hF1:∀ k,fa env1 f1 k->A2 k:=fun k ⟨n,x,l,hx,he⟩=>hF k ⟨n,x,l,List.mem_append_left _ hx,he⟩
    have hF2:∀ k,fa env1 f2 k->A2 k:=fun k ⟨n,x,l,hx,he⟩=>hF k ⟨n,x,l,List.mem_append_right _ hx,he⟩
    obtain⟨p1,p2,us',rs',p3,p4,p5⟩:=vC (env':=env') m1 hA b0 t none cs us.toList x [] f1 w' [] [] n hp hu hF1 (tD (c:=true) L) (.inl rfl)
    simp only[aE] at p4
    subst p4
    rw[List.append_nil] at p3
    subst p3
    obtain⟨s1,s2,s3⟩:=um m1 hA b0 rs ps svs vr f2 o (n+t.nr) hr hvr hF2 (uk L)
    refine⟨fun n b hh=>?_,by simp only[List.length_append,p2,s2,eG];omega,fun hal he=>?_⟩
    ·rcases List.mem_append.1 hh with hh|hh
     ·exact p1 n b hh
     ·exact s1 n b hh
    ·obtain⟨l1,l2,_⟩:=p5 hal (fun k q hq=>he k q (by rw[List.getElem?_append_left (List.getElem?_eq_some_iff.1 hq).1];exact hq)) (fun j0 k q hj _=>by cases hj)
     obtain⟨k1,k2⟩:=s3 hal (fun k q hq=>by
      have:=he (t.nr+k) q (by rw[List.getElem?_append_right (by omega),p2,Nat.add_sub_cancel_left];exact hq)
      rwa [show n+(t.nr+k)=n+t.nr+k from by omega] at this)
     simp only[iB,jq,aE,ai]
     exact⟨⟨_,vr,rfl,⟨us,rfl,l1⟩,k1⟩,l2.append (by rw[p2];exact k2)⟩
   ·cases e
  ·cases e
 | .own E t::rs,d,svs0,vs,fz,ow,n,e,hd,hF,L=>by
  obtain⟨v,svs,rfl⟩:=WX e
  simp only[kf] at e
  split at e
  ·rename_i x r1 w' hp
   split at e
   ·rename_i ps f2 o hr
    simp only[Option.some.injEq,Prod.mk.injEq] at e
    obtain⟨rfl,rfl,rfl⟩:=e
    simp only[aE] at hd
    obtain⟨u,vr,rfl,hu,hvr⟩:=hd
    obtain⟨v',vr',p1,-,-,p3⟩:=NX (A':=A') m1 hA (tD (c:=true) L) hp (vs:=[u]) (by simp only[aE];exact⟨u,[],rfl,hu,rfl⟩)
    cases p1
    obtain⟨s1,s2,s3⟩:=um m1 hA b0 rs ps svs vr f2 o (n+1) hr hvr hF (uk L)
    refine⟨s1,by simp only[List.length_cons,s2,eG],fun hal he=>?_⟩
    obtain⟨l1,l2⟩:=p3 env' n (he 0 _ rfl)
    obtain⟨k1,k2⟩:=s3 hal (fun k q hq=>by have:=he (k+1) q (by simpa using hq);rwa [show n+(k+1)=n+1+k from by omega] at this)
    simp only[iB,jq,aE]
    exact⟨⟨u,vr,rfl,l1,k1⟩,l2.1,k2⟩
   ·cases e
  ·cases e
 | .box E t::rs,d,svs0,vs,fz,ow,n,e,hd,hF,L=>by
  obtain⟨q,svs,rfl⟩:=Ww e
  simp only[kf] at e
  split at e
  ·rename_i E' cs hl
   split at e
   ·rename_i x f1 w' hE hp
    have hE:=Nat.eq_of_beq_eq_true hE
    subst hE
    split at e
    ·rename_i ps f2 o hr
     simp only[Option.some.injEq,Prod.mk.injEq] at e
     obtain⟨rfl,rfl,rfl⟩:=e
     simp only[aE,ai] at hd
     obtain⟨u,vr,rfl,⟨kb,lb,hkb,rfl⟩,hvr⟩:=hd
     obtain⟨⟨us,hus,hdu⟩,_⟩:=m1.live_blk hl hkb
     have hF1:∀ k,fa env1 f1 k->A2 k:=fun k ⟨n,x,l,hx,he⟩=>hF k ⟨n,x,l,List.mem_append_left _ hx,he⟩
     have hF2:∀ k,fa env1 f2 k->A2 k:=fun k ⟨n,x,l,hx,he⟩=>hF k ⟨n,x,l,List.mem_append_right _ hx,he⟩
     obtain⟨p1,p2,us',rs',p3,p4,p5⟩:=vC (env':=env') m1 hA b0 t none cs us.toList x [] f1 w' [] [] (n+1) hp hdu hF1 (tD (c:=true) L) (.inl rfl)
     simp only[aE] at p4
     subst p4
     rw[List.append_nil] at p3
     subst p3
     obtain⟨s1,s2,s3⟩:=um m1 hA b0 rs ps svs vr f2 o (n+1+t.nr) hr hvr hF2 (uk L)
     refine⟨fun n b hh=>?_,by simp only[List.length_cons,List.length_append,p2,s2,eG];omega,fun hal he=>?_⟩
     ·rcases List.mem_append.1 hh with hh|hh
      ·exact p1 n b hh
      ·exact s1 n b hh
     ·have h0:=he 0 (some q) rfl
      simp only[Nat.add_zero,ly] at h0
      have he':∀ k q',(w'++o)[k]? = some q'→env' (n+1+k)=ly env1 q':=fun k q' hq=>by
       have:=he (k+1) q' (by simpa using hq);rwa [show n+(k+1)=n+1+k from by omega] at this
      obtain⟨l1,l2,_⟩:=p5 hal (fun k q hq=>he' k q (by rw[List.getElem?_append_left (List.getElem?_eq_some_iff.1 hq).1];exact hq)) (fun j0 k q hj _=>by cases hj)
      obtain⟨k1,k2⟩:=s3 hal (fun k q hq=>by
       have:=he' (t.nr+k) q (by rw[List.getElem?_append_right (by omega),p2,Nat.add_sub_cancel_left];exact hq)
       rwa [show n+1+(t.nr+k)=n+1+t.nr+k from by omega] at this)
      simp only[iB,jq,aE,ai]
      refine⟨⟨_,vr,rfl,⟨kb,lb,by rw[h0];exact hkb,rfl⟩,k1⟩,⟨rfl,_,rfl,rfl,.inl ⟨q,_,rfl,hl,rfl,fun k len hk=>?_,fun hk=>?_⟩⟩,l2.append (by rw[p2];exact k2)⟩
      ·rw[hkb] at hk;cases hk
       exact⟨us,hus,l1⟩
      ·rw[hkb] at hk;cases hk
    ·cases e
   ·cases e
  ·cases e
 | .fn f k::rs,d,svs0,vs,fz,ow,n,e,hd,hF,L=>by
  obtain⟨g,cs,svs,rfl⟩:=ai8 e
  simp only[kf] at e
  split at e
  ·rename_i hf hk
   have hf:=Nat.eq_of_beq_eq_true hf
   have hk:=Nat.eq_of_beq_eq_true hk
   subst hf
   split at e
   ·rename_i ps f2 o hr
    simp only[Option.some.injEq,Prod.mk.injEq] at e
    obtain⟨rfl,rfl,rfl⟩:=e
    simp only[aE,ai] at hd
    obtain⟨x,vr,rfl,⟨us,rfl,hu⟩,hvr⟩:=hd
    have hul:=gc hu
    obtain⟨s1,s2,s3⟩:=um m1 hA b0 rs ps (cs++svs) (us.toList++vr) f2 o n hr (pS hu hvr) hF L
    refine⟨s1,s2,fun hal he=>?_⟩
    obtain⟨k1,k2⟩:=s3 hal he
    refine⟨?_,k2⟩
    simp only[iB,aE,ai]
    refine⟨_,vr,rfl,⟨us,rfl,?_⟩,?_⟩
    ·have:=xZ k k1
     rwa [List.take_left' (by omega)] at this
    ·have:=yh k k1
     rwa [List.drop_left' (by omega)] at this
   ·cases e
  ·cases e
 | [],_,_::_,_,_,_,_,e,_,_,_=>by cases e
 | .val _::_,_,[],_,_,_,_,e,_,_,_=>by cases e
def gu:List PK->Nat
 | []=>0
 | .val _::r=>gu r
 | .agg _::r=>gu r
 | .own _ _::r=>gu r
 | .ago _::r=>gu r
 | .fn _ _::r=>gu r
 | .nils::r=>gu r
 | .box _ o::r=>o.nb+gu r+1
 | .row _ _::r=>gu r+1
theorem Bi:∀{o:OT}{d:o.D}{j i:Nat},(oM o d j i).length=o.nb
 | .dat _,_,_,_=>rfl
 | .row _ _,_,_,_=>rfl
 | .rowg _ _,_,_,_=>rfl
 | .fnc _,_,_,_=>rfl
 | .ali,_,_,_=>rfl
 | .ref _ o,d,j,i=>by simp only[oM,List.length_cons,Bi (o:=o),OT.nb]
 | .pair a b,d,j,i=>by simp only[oM,List.length_append,Bi (o:=a),Bi (o:=b),OT.nb]
theorem qO:∀{ps:List PK}{d:ar ps}{j i:Nat},(mZ ps d j i).length=gu ps
 | [],_,_,_=>rfl
 | .val t::ps,d,j,i=>qO (ps:=ps)
 | .agg t::ps,d,j,i=>qO (ps:=ps)
 | .own _ t::ps,d,j,i=>qO (ps:=ps)
 | .ago _::ps,d,j,i=>qO (ps:=ps)
 | .fn _ _::ps,d,j,i=>qO (ps:=ps)
 | .nils::ps,d,j,i=>qO (ps:=ps)
 | .box E o::ps,d,j,i=>by simp only[mZ,List.length_cons,List.length_append,Bi,qO (ps:=ps),gu]
 | .row E t::ps,d,j,i=>by simp only[mZ,List.length_cons,qO (ps:=ps),gu]
theorem qt{Nc:dM}(m1:aY w Nc A1 env1 h1 w1)(hA:∀ b,A1 b->A2 b)(b0:Nat):∀(ps:List PK)(d:d5 ps)(fz:List (Nat×Nm))(ow:List (Option Nat))(bx:List Nat)(j n:Nat),
  jm ps j h1=some (d,fz,ow)->(∀ k,fa env1 fz k->A2 k)->(jH ps=true∨∀ b,A2 b->A' b)->bx.length=gu ps →
  lI h1 fz/\ow.length=gF ps/\((bx≠[]->env' b0=env1 PN)->(∀ k q,ow[k]? = some q->env' (n+k)=ly env1 q)->(∀ k q,bx[k]? = some q->env' q=env1 (PN+(j+k))) →
   gD A' env1 h1 env' w1 ow (fB ps d n) n/\(∀ q x,(q,x)∈d6 b0 ps d bx n->m5 A' env1 h1 env' w1 bx j q x))∧∀ q,q∈bx->q∈(d6 b0 ps d bx n).map (·.1)
 | [],d,fz,ow,bx,j,n,e,hF,L,hl=>by
  simp only[jm,Option.some.injEq,Prod.mk.injEq] at e
  obtain⟨-,rfl,rfl⟩:=e
  simp only[gu,List.length_eq_zero_iff] at hl
  subst hl
  exact⟨fun n b hh=>by simp at hh,rfl,fun _ _ _=>⟨trivial,fun q x hh=>by simp[d6] at hh⟩,fun q hh=>by simp at hh⟩
 | .val t::ps,d,fz,ow,bx,j,n,e,hF,L,hl=>by
  simp only[d6,fB,gF]
  exact qt m1 hA b0 ps d fz ow bx j n (by simpa only[jm] using e) hF (by simpa only[jH] using L) (by simpa only[gu] using hl)
 | .agg t::ps,d,fz,ow,bx,j,n,e,hF,L,hl=>by
  simp only[d6,fB,gF]
  exact qt m1 hA b0 ps d fz ow bx j n (by simpa only[jm] using e) hF (by simpa only[jH] using L) (by simpa only[gu] using hl)
 | .own _ t::ps,d,fz,ow,bx,j,n,e,hF,L,hl=>by
  simp only[d6,fB,gF]
  exact qt m1 hA b0 ps d fz ow bx j n (by simpa only[jm] using e) hF (by simpa only[jH] using L) (by simpa only[gu] using hl)
 | .ago _::ps,d,fz,ow,bx,j,n,e,hF,L,hl=>by
  simp only[d6,fB,gF]
  exact qt m1 hA b0 ps d fz ow bx j n (by simpa only[jm] using e) hF (by simpa only[jH] using L) (by simpa only[gu] using hl)
 | .fn _ _::ps,d,fz,ow,bx,j,n,e,hF,L,hl=>by
  simp only[d6,fB,gF]
  exact qt m1 hA b0 ps d fz ow bx j n (by simpa only[jm] using e) hF (by simpa only[jH] using L) (by simpa only[gu] using hl)
 | .nils::ps,d,fz,ow,bx,j,n,e,hF,L,hl=>by
  simp only[d6,fB,gF]
  exact qt m1 hA b0 ps d fz ow bx j n (by simpa only[jm] using e) hF (by simpa only[jH] using L) (by simpa only[gu] using hl)
 | .box E o::ps,d,fz,ow,bx,j,n,e,hF,L,hl=>by
  cases bx with
  | nil=>simp[gu] at hl
  | cons n0 bx =>
  simp only[jm] at e
  split at e
  ·rename_i E' cs hlk
   split at e
   ·rename_i x f1 w' hE hp
    have hE:=Nat.eq_of_beq_eq_true hE
    subst hE
    split at e
    ·rename_i ps' f2 ow2 hr
     simp only[Option.some.injEq,Prod.mk.injEq] at e
     obtain⟨rfl,rfl,rfl⟩:=e
     simp only[List.length_cons,gu] at hl
     have hF1:∀ k,fa env1 f1 k->A2 k:=fun k ⟨n,x,l,hx,he⟩=>hF k ⟨n,x,l,List.mem_append_left _ hx,he⟩
     have hF2:∀ k,fa env1 f2 k->A2 k:=fun k ⟨n,x,l,hx,he⟩=>hF k ⟨n,x,l,List.mem_append_right _ hx,he⟩
     have hlt:(bx.take o.nb).length=o.nb:=by rw[List.length_take];omega
     have eb:bx.take o.nb++bx.drop o.nb=bx:=List.take_append_drop ..
     obtain⟨s1,s2,s3,s4⟩:=qt m1 hA b0 ps ps' f2 ow2 (bx.drop o.nb) (j+1+o.nb) (n+o.nr) hr hF2 (uk L) (by rw[List.length_drop];omega)
     have hm:=m1.nm (PN+j)
     rw[hlk] at hm
     have hbd:∃ kb lb us,env1 (PN+j) = .blk kb lb/\w1.heap[kb]? = some (.cells us E (0,0))/\aE A1 env1 w1 cs us.toList:=by
      rcases hm with⟨k',len',he',⟨us,hus,hdu⟩,_⟩|⟨he',_,_,hb|hb⟩
      ·exact⟨k',len',us,he',hus,hdu⟩
      ·cases hb
      ·cases hb
     obtain⟨kb,lb,us,hkb,hus,hdu⟩:=hbd
     obtain⟨p1,p2,us',rs',p3,p4,p5⟩:=vC (al:=true) (env':=env') m1 hA b0 o (some (j+1)) cs us.toList x [] f1 w' (bx.take o.nb) (bx.drop o.nb) n hp hdu hF1 (tD (c:=true) L) (.inr hlt)
     simp only[aE] at p4
     subst p4
     rw[List.append_nil] at p3
     subst p3
     rw[eb] at p5
     refine⟨fun n b hh=>?_,by simp only[List.length_append,p2,s2,gF];omega,fun h0b ho hb=>?_,fun q hq=>?_⟩
     ·rcases List.mem_append.1 hh with hh|hh
      ·exact p1 n b hh
      ·exact s1 n b hh
     ·obtain⟨l1,l2,l3,_⟩:=p5 (fun _=>h0b (by simp)) (fun k q hq=>ho k q (by rw[List.getElem?_append_left (List.getElem?_eq_some_iff.1 hq).1];exact hq))
       (fun j0 k q hj hq=>by
        cases hj
        rw[List.getElem?_take] at hq
        split at hq
        ·have:=hb (k+1) q (by simpa using hq)
         rwa [show j+(k+1)=j+1+k from by omega] at this
        ·cases hq)
      obtain⟨k1,k2⟩:=s3 (fun _=>h0b (by simp)) (fun k q hq=>by
        have:=ho (o.nr+k) q (by rw[List.getElem?_append_right (by omega),p2,Nat.add_sub_cancel_left];exact hq)
        rwa [show n+(o.nr+k)=n+o.nr+k from by omega] at this)
       (fun k q hq=>by
        rw[List.getElem?_drop] at hq
        have:=hb (o.nb+k+1) q (by simpa using hq)
        rwa [show j+(o.nb+k+1)=j+1+o.nb+k from by omega] at this)
      simp only[fB,d6]
      refine⟨l2.append (by rw[p2];exact k1),fun q y hh=>?_⟩
      rcases List.mem_cons.1 hh with hh|hh
      ·cases hh
       refine⟨0,_,_,rfl,rfl,rfl,hlk,rfl,fun k len he=>?_,fun he=>?_⟩
       ·rw[Nat.add_zero,hkb] at he;cases he
        exact⟨us,hus,l1⟩
       ·rw[Nat.add_zero,hkb] at he;cases he
      ·rcases List.mem_append.1 hh with hh|hh
       ·obtain⟨j0,hj,hx⟩:=l3 q y hh
        cases hj
        have:=(m5.shift (pre:=[n0]) (j:=j) hx).grow (post:=bx.drop o.nb)
        rwa [List.append_assoc,eb] at this
       ·have:=m5.shift (pre:=n0::bx.take o.nb) (bx:=bx.drop o.nb) (j:=j) (n:=q) (x:=y) (by rw[List.length_cons,hlt,show j+(o.nb+1)=j+1+o.nb from by omega];exact k2 q y hh)
        rwa [List.cons_append,eb] at this
     ·simp only[d6,List.map_cons,List.map_append]
      rcases List.mem_cons.1 hq with rfl|hq
      ·exact List.mem_cons_self ..
      ·refine List.mem_cons_of_mem _ ?_
       rw[← eb] at hq
       rcases List.mem_append.1 hq with hq|hq
       ·refine List.mem_append_left _ ?_
        have:=y8 (b0:=b0) (o:=o) (x:=x) (n:=n) (more:=bx.drop o.nb) hlt q hq
        rwa [eb] at this
       ·exact List.mem_append_right _ (s4 q hq)
    ·cases e
   ·cases e
  ·cases e
 | .row E t::ps,d,fz,ow,bx,j,n,e,hF,L,hl=>by
  cases bx with
  | nil=>simp[gu] at hl
  | cons n0 bx =>
  simp only[jm] at e
  split at e
  ·rename_i E' t' xs hlk
   split at e
   ·rename_i ys hE hcl
    have hE:=Nat.eq_of_beq_eq_true hE
    subst hE
    obtain⟨et,ez⟩:=gN hcl
    subst et
    simp only at ez
    subst ez
    split at e
    ·rename_i ps' f2 ow2 hr
     simp only[Option.some.injEq,Prod.mk.injEq] at e
     obtain⟨rfl,rfl,rfl⟩:=e
     obtain⟨s1,s2,s3,s4⟩:=qt m1 hA b0 ps ps' f2 ow2 bx (j+1) n hr hF (uk L) (by simpa[gu] using hl)
     have hm:=m1.nm (PN+j)
     rw[hlk] at hm
     refine⟨s1,s2,fun h0b ho hb=>?_,fun q hq=>?_⟩
     ·obtain⟨k1,k2⟩:=s3 (fun _=>h0b (by simp)) ho (fun k q hq=>by have:=hb (k+1) q (by simpa using hq);rwa [show j+(k+1)=j+1+k from by omega] at this)
      simp only[fB,d6]
      refine⟨k1,fun q y hh=>?_⟩
      rcases List.mem_cons.1 hh with hh|hh
      ·cases hh
       refine⟨0,_,_,rfl,rfl,rfl,hlk,rfl,fun k len he=>?_,fun he=>?_⟩
       ·rcases hm with⟨k',len',he',hb,_⟩|⟨he',_⟩
        ·rw[Nat.add_zero] at he;rw[he] at he';cases he'
         obtain⟨us,cap,g1,g2,g3,g4,g5,g6⟩:=hb
         exact⟨us,cap,g1,g2,g3,g4,g5,fun i hi=>zZ (tD (c:=true) L) (fG hA (fun _ _ _=>rfl) _ _ _ _ _ (fun _ _=>rfl) (g6 i hi))⟩
        ·rw[Nat.add_zero] at he;rw[he] at he';cases he'
       ·rcases hm with⟨k',len',he',hb,_⟩|⟨he',E2,t2,hb⟩
        ·rw[Nat.add_zero] at he;rw[he] at he';cases he'
        ·rcases hb with hb|hb <;> cases hb
         exact⟨_,_,rfl⟩
      ·exact m5.shift (pre:=[n0]) (k2 q y hh)
     ·simp only[d6,List.map_cons]
      rcases List.mem_cons.1 hq with rfl|hq
      ·exact List.mem_cons_self ..
      ·exact List.mem_cons_of_mem _ (s4 q hq)
    ·cases e
   ·cases e
  ·cases e
end
end Go.SX

/- SX, part 22: a function's contract, off its symbolic run (the proof). -/
namespace Go.SX
set_option linter.unusedVariables false
def gP:List Nat->Nat->Rn
 | [],_=>[]
 | n::bx,j=>(n,some (PN+j))::gP bx (j+1)
def iD:List (Option Nat)->Nat->Rn
 | [],_=>[]
 | o::r,n=>(n,o)::iD r (n+1)
theorem Gy{a b:Rn}{n:Nat}:bh (a++b) n=(match bh a n with|some x=>some x|none=>bh b n):=by
 induction a with
 | nil=>rfl
 | cons p a ih =>
  obtain⟨m,x⟩:=p
  simp only[List.cons_append,m7]
  split
  ·rfl
  ·exact ih
theorem B5:∀{bx:List Nat}{j n:Nat}{y:Option Nat},bh (gP bx j) n=some y→∃ i,bx[i]? = some n/\y=some (PN+(j+i))
 | [],j,n,y,h=>by simp[gP,bh] at h
 | m::bx,j,n,y,h=>by
  simp only[gP,m7] at h
  split at h
  ·rename_i e;cases h;exact⟨0,by simp[e],rfl⟩
  ·obtain⟨i,h1,h2⟩:=B5 h
   exact⟨i+1,by simpa using h1,by rw[h2,show j+1+i=j+(i+1) from by omega]⟩
theorem Ns:∀{bx:List Nat}{j n i:Nat},bx.Nodup->bx[i]? = some n->bh (gP bx j) n=some (some (PN+(j+i)))
 | [],j,n,i,_,h=>by simp at h
 | m::bx,j,n,0,_,h=>by
  simp at h;subst h
  simp only[gP,m7,if_pos,Nat.add_zero]
 | m::bx,j,n,i+1,hn,h=>by
  have h':bx[i]? = some n:=by simpa using h
  obtain⟨h1,h2⟩:=List.nodup_cons.1 hn
  have hne:n≠m:=fun e=>h1 (e▸List.mem_of_getElem? h')
  simp only[gP,m7,if_neg hne,Ns h2 h']
  rw[show j+1+i=j+(i+1) from by omega]
theorem W7{bx:List Nat}{j n:Nat}(h:n ∉ bx):bh (gP bx j) n=none:=by
 cases hl:bh (gP bx j) n with
 | none=>rfl
 | some y=>obtain⟨i,hi,_⟩:=B5 hl;exact absurd (List.mem_of_getElem? hi) h
theorem Lp:∀{ow:List (Option Nat)}{n0 n:Nat}{y:Option Nat},bh (iD ow n0) n=some y→∃ i,ow[i]? = some y/\n=n0+i
 | [],n0,n,y,h=>by simp[iD,bh] at h
 | o::ow,n0,n,y,h=>by
  simp only[iD,m7] at h
  split at h
  ·rename_i e;cases h;exact⟨0,by simp,by omega⟩
  ·obtain⟨i,h1,h2⟩:=Lp h
   exact⟨i+1,by simpa using h1,by omega⟩
theorem LQ:∀{ow:List (Option Nat)}{n0 i:Nat}{o:Option Nat},ow[i]? = some o->bh (iD ow n0) (n0+i)=some o
 | [],n0,i,o,h=>by simp at h
 | p::ow,n0,0,o,h=>by simp at h;subst h;simp[iD,m7]
 | p::ow,n0,i+1,o,h=>by
  have h':ow[i]? = some o:=by simpa using h
  have:=LQ (n0:=n0+1) h'
  simp only[iD,m7,if_neg (show ¬ n0+(i+1)=n0 from by omega)]
  rw[show n0+(i+1)=n0+1+i from by omega];exact this
theorem CR{n:Nat}:∀{l:List (Option Nat)},rL n l=true↔some n∈l
 | []=>by simp[rL]
 | none::r=>by simp[rL,CR (l:=r)]
 | some m::r=>by simp[rL,CR (l:=r)]
theorem Fh{fz:List (Nat×Nm)}:∀{ow:List (Option Nat)},tH fz ow=true→∀(i m:Nat),ow[i]? = some (some m)->(m<PN∨QN<=m)/\m ∉ fz.map (·.1)∧∀ i':Nat,ow[i']? = some (some m)->i=i'
 | [],_,i,m,h=>by simp at h
 | none::r,h,i,m,hi=>by
  simp only[tH] at h
  cases i with
  | zero=>simp at hi
  | succ i =>
   obtain⟨h1,h2,h3⟩:=Fh h i m (by simpa using hi)
   refine⟨h1,h2,fun i' hi'=>?_⟩
   cases i' with
   | zero=>simp at hi'
   | succ i'=>rw[h3 i' (by simpa using hi')]
 | some q::r,h,i,m,hi=>by
  simp only[tH,Bool.and_eq_true,Bool.or_eq_true,Bool.not_eq_true'] at h
  obtain⟨⟨⟨h1,h2⟩,h3⟩,h4⟩:=h
  have hno:∀ i:Nat,r[i]? ≠ some (some q):=fun i hi=>by
   have:rL q r=true:=CR.2 (List.mem_of_getElem? hi)
   rw[this] at h3;cases h3
  cases i with
  | zero =>
   simp at hi;subst hi
   refine⟨h1.imp (fun h=>Nat.le_of_ble_eq_true h) (fun h=>Nat.le_of_ble_eq_true h),wj h2,fun i' hi'=>?_⟩
   cases i' with
   | zero=>rfl
   | succ i'=>exact absurd (by simpa using hi') (hno i')
  | succ i =>
   obtain⟨g1,g2,g3⟩:=Fh h4 i m (by simpa using hi)
   refine⟨g1,g2,fun i' hi'=>?_⟩
   cases i' with
   | zero=>simp at hi';subst hi';exact absurd (by simpa using hi) (hno i)
   | succ i'=>rw[g3 i' (by simpa using hi')]
theorem On:∀{fz:List (Nat×Nm)},xH fz=true→∀ n,n∈fz.map (·.1)->n<PN∨QN<=n
 | [],_,n,h=>by simp at h
 | (m,b)::r,h,n,hn=>by
  simp only[xH,Bool.and_eq_true,Bool.or_eq_true] at h
  rcases List.mem_cons.1 hn with e|hn
  ·have e:n=m:=e
   subst e;exact h.1.imp (fun h=>Nat.le_of_ble_eq_true h) (fun h=>Nat.le_of_ble_eq_true h)
  ·exact On h.2 n hn
theorem KW{fz:List (Nat×Nm)}:∀{bx:List Nat},xR fz bx=true→∀ n,n∈bx->n ∉ fz.map (·.1)
 | [],_,n,h=>by simp at h
 | m::r,h,n,hn=>by
  simp only[xR,Bool.and_eq_true] at h
  rcases List.mem_cons.1 hn with rfl|hn
  ·exact wj h.1
  ·exact KW h.2 n hn
theorem z8{h:bd}{dl d:Dl}:∀{k n:Nat}{r:List Nat},(nU n k dl).run h=some (d,r)->d=dl∧∀ i,i<k->h (n+i) = .un
 | 0,n,r,e=>by
  simp only[nU,Q.run,Option.some.injEq,Prod.mk.injEq] at e
  exact⟨e.1.symm,fun i hi=>by omega⟩
 | k+1,n,r,e=>by
  simp only[nU,Q.run] at e
  split at e
  ·rename_i p q hk
   simp only[Option.some.injEq,Prod.mk.injEq] at e
   obtain⟨rfl,rfl⟩:=e
   split at hk
   ·rename_i hun
    obtain⟨h1,h2⟩:=z8 hk
    refine⟨h1,fun i hi=>?_⟩
    cases i with
    | zero=>exact hun
    | succ i=>rw[show n+(i+1)=n+1+i from by omega];exact h2 i (by omega)
   ·cases hk
  ·cases e
theorem Cx{n:Nat}{x:Nm}:∀{cx:List (Option Nat)},(n,x)∈lN cx->x = .dead/\n∈gT cx
 | [],h=>by simp[lN] at h
 | none::r,h=>by simp only[lN] at h;simpa only[gT] using Cx (cx:=r) h
 | some m::r,h=>by
  simp only[lN] at h
  rcases List.mem_cons.1 h with h|h
  ·cases h;exact⟨rfl,List.mem_cons_self ..⟩
  ·obtain⟨h1,h2⟩:=Cx (cx:=r) h
   exact⟨h1,List.mem_cons_of_mem _ h2⟩
theorem Cb:∀{cx:List (Option Nat)},(lN cx).map (·.1)=gT cx
 | []=>rfl
 | none::r=>by simp only[lN,gT];exact Cb (cx:=r)
 | some m::r=>by simp only[lN,gT,List.map_cons,Cb (cx:=r)]
def CZ(P:Program)(ty:TypeId)(v:SV)(h:bd):Option SV:=match v with
 | .ptr n off=>match h n with
  | .live (.cells _ cs)=>ld P ty cs off
  | _=>none
 | _=>none
def sI(P:Program):List ResultVar->List SV->bd->Option (List SV)
 | [],_,_=>some []
 | .tmp t::r,sl,h=>match sI P r sl h with
  | some l=>some (cF sl t::l)
  | none=>none
 | .cell a ty::r,sl,h=>match CZ P ty (cF sl a) h,sI P r sl h with
  | some v,some l=>some (v::l)
  | _,_=>none
def yA(l:List Value):Value:=if h:l.toArray.size=1 then l.toArray[0] else .tuple l.toArray
theorem Y6{P:Program}{w0:World}{N0:dM}{A:Nat->Prop}{env:aJ}{h:bd}{w:World}(m:aY w0 N0 A env h w){ty:TypeId}{s s':SV}{v:Value}(e:CZ P ty s h=some s')(hd:ai A env w s v) :
  ∃ u,(do loadVar ty (← asAddr v):Sem Value).run P w = .ok u w/\ai A env w s' u:=by
 unfold CZ at e
 split at e
 ·rename_i n off
  split at e
  ·rename_i E cs hl
   simp only[ai] at hd
   obtain⟨b,l,he,rfl⟩:=hd
   obtain⟨⟨vs,hh,hd⟩,_⟩:=m.live_blk hl he
   obtain⟨u,hr,hv⟩:=xY (o:=0) (k:=b) e hd (fun j hj=>by rw[cell_of_row w b _ vs E (0,0) hh];simp)
   rw[Nat.zero_add] at hr
   exact⟨u,by simp[asAddr,hr],hv⟩
  ·cases e
 ·cases e
theorem C3{P:Program}{w0:World}{N0:dM}{A:Nat->Prop}{env:aJ}{h:bd}{w:World}(m:aY w0 N0 A env h w){sl:List SV}{a:Act}(f:FD A env w (cF sl) a){F:ResultVar->Sem Value}
  (h1:∀ t,F (.tmp t)=pure (a.tmps.getD t undef)) (h2:∀ t ty,F (.cell t ty)=do loadVar ty (← asAddr (a.tmps.getD t undef))):∀(l:List ResultVar)(svs:List SV),sI P l sl h=some svs →
  ∃ vs,(l.mapM F).run P w = .ok vs w/\aE A env w svs vs
 | [],svs,e=>by cases e;exact⟨[],rfl,by simp[aE]⟩
 | .tmp t::l,svs,e=>by
  simp only[sI] at e
  split at e
  ·rename_i l' hl
   cases e
   obtain⟨vs,hr,hd⟩:=C3 m f h1 h2 l l' hl
   refine⟨a.tmps.getD t undef::vs,?_,by simp only[aE];exact⟨_,_,rfl,f t,hd⟩⟩
   rw[List.mapM_cons,h1]
   simp[hr]
  ·cases e
 | .cell t ty::l,svs,e=>by
  simp only[sI] at e
  split at e
  ·rename_i v l' hv hl
   cases e
   obtain⟨vs,hr,hd⟩:=C3 m f h1 h2 l l' hl
   obtain⟨u,hu,hdu⟩:=Y6 m hv (f t)
   refine⟨u::vs,?_,by simp only[aE];exact⟨_,_,rfl,hdu,hd⟩⟩
   rw[List.mapM_cons,h2,Sem.run_bind,hu]
   simp[hr]
  ·cases e
theorem SD{P:Program}{w0:World}{N0:dM}{A:Nat->Prop}{env:aJ}{h:bd}{w:World}(m:aY w0 N0 A env h w){sl:List SV}{a:Act}(f:FD A env w (cF sl) a){fn:Func}{svs:List SV}(e:sI P fn.results.toList sl h=some svs) :
  ∃ vs,(results fn a.tmps).run P w = .ok (yA vs) w/\aE A env w svs vs:=by
 unfold results
 rw[Array.mapM_eq_mapM_toList]
 obtain⟨vs,hr,hd⟩:=C3 (P:=P) m f (F:=fun | .tmp t=>pure (a.tmps.getD t undef) | .cell t ty=>do loadVar ty (← asAddr (a.tmps.getD t undef))) (fun t=>rfl) (fun t ty=>rfl) fn.results.toList svs e
 refine⟨vs,?_,hd⟩
 rw[Sem.run_bind,Sem.run_map]
 erw [hr]
 rfl
theorem X5{A:Nat->Prop}{env:aJ}{w:World}{svs:List SV}{vs:List Value}(h:aE A env w svs vs):ai A env w (nF svs) (yA vs):=by
 have hl:=gc h
 unfold nF
 split
 ·simp only[aE] at h
  obtain⟨v,r,rfl,h,rfl⟩:=h
  exact h
 ·rename_i hne
  have:¬ vs.length=1:=fun e=>by
   rw[hl] at e
   obtain⟨x,hx⟩:=List.length_eq_one_iff.1 e
   exact hne x hx
  simp only[yA,ai]
  rw[dif_neg (by simpa using this)]
  exact⟨_,rfl,h⟩
def oq:List Prop->Prop
 | []=>True
 | [p]=>p
 | p::q::r=>p/\oq (q::r)
theorem ve:∀{l:List Prop},oq l↔bg l
 | []=>Iff.rfl
 | [p]=>by simp[oq,bg]
 | p::q::r=>by rw[oq,bg,ve]
def u5(P:Program)(ps:List PK)(rs:List RK)(rv:List ResultVar)(k:gC rs×d5 ps->Prop):Ex->St->Prop:=fun e S=>match e with
 | .exit _=>False
 | _=>match sI P rv S.sl (cQ S.H) with
  | none=>False
  | some vs=>match kf (Nat.blt 0 (gu ps)) rs vs (cQ S.H),jm ps 0 (cQ S.H) with
   | some (y,f1,ow),some (z,f2,ow2)=>match tH (f1++f2) (ow++ow2),xH (f1++f2) with
    | true,true=>k (y,z)
    | _,_=>False
   | _,_=>False
def lv:List SV->Nat->List SV
 | _,0=>[]
 | [],n+1 => .junk::lv [] n
 | v::l,n+1=>v::lv l n
def t5(ps:List PK)(d:ar ps)(n:Nat):St:=⟨lv (fH ps d 0 0) n,mZ ps d 0 0++qw ps d 0⟩
theorem Cu:∀{l:List SV}{n:Nat},(lv l n).length=n
 | _,0=>by simp[lv]
 | [],n+1=>by simp[lv,Cu (l:=[]) (n:=n)]
 | v::l,n+1=>by simp[lv,Cu (l:=l) (n:=n)]
theorem GG:∀{l:List SV}{n i:Nat},cF (lv l n) i = .junk∨∃ s,l[i]? = some s/\cF (lv l n) i=s
 | _,0,i=>by left;simp[lv,cF,kI]
 | [],n+1,0=>by left;simp[lv,cF,kI]
 | [],n+1,i+1=>by
  rcases GG (l:=[]) (n:=n) (i:=i) with h|⟨s,h,_⟩
  ·left;simpa[lv,cF,kI] using h
  ·simp at h
 | v::l,n+1,0=>by right;exact⟨v,by simp,by simp[lv,cF,kI]⟩
 | v::l,n+1,i+1=>by
  rcases GG (l:=l) (n:=n) (i:=i) with h|⟨s,h,h'⟩
  ·left;simpa[lv,cF,kI] using h
  ·right;exact⟨s,by simpa using h,by simpa[lv,cF,kI] using h'⟩
section
variable {P:Program} {sp:dS}
theorem Py{ps:List PK}{rs:List RK}(post:ar ps->gC rs×d5 ps->Prop){f:FuncId}{fn:Func}{code:Code}(hf:P.funcs[f]? = some fn)(hb:fn.body=some code)(hs:i9 P sp)(au:P.follows .mixedOrders=true)(an:ar ps->ay)
  {base:Nat} {svs:List SV} {h:bd} {dd:ar ps} {fz:List (Nat×Nm)} {bx:List Nat} {cx:List (Option Nat)} {q1:List Nat} (e1:(fg none ps svs).run h=some ((dd,fz,bx,cx),q1)) (hnm:uZ fz bx cx=true)
  (hun:∀ i,i<eG rs+gF ps->h (base+i) = .un) (vc:tq ps dd->rB (t5 ps dd fn.ntmps) (sx P sp (an dd) code (u5 P ps rs fn.results.toList (post dd))))
  {w0:World} {N0:dM} {A:Nat->Prop} {env:aJ} {w:World} {vs:List Value} (hG:N0.g=sp.gl) (m:aY w0 N0 A env h w) (hd:aE A env w svs vs) :
  Calls P f vs.toArray w fun e w'=>∃ v y,e = .returned v/\post dd y∧∃ (A':Nat->Prop) (env':aJ),aY w0 N0 A' env' (bR (qi ps rs y base fz bx cx) h) w'∧bZ A env w A' env' w'∧ai A' env' w' (nF (iB (bx.headD 0) rs y.1 base)) v:=by
 simp only[uZ,Bool.and_eq_true] at hnm
 obtain⟨⟨hnd,hdj⟩,hbl⟩:=hnm
 have hnd:=Ps hnd
 have hdj:=KW hdj
 have hbl:=Nat.le_of_ble_eq_true hbl
 obtain⟨a1,a4,a6⟩:=qE (envc:=lP env bx cx) m (Ac:=fh A env fz) (fun b hb=>.inl hb) none ps svs vs dd fz bx cx q1 0 0 e1 hd (fun k hk=>.inr hk)
 obtain⟨dargs,lb,lc⟩:=a6 (fun _=>rfl) (fun n hn=>by cases hn) (fun k n hn=>by rw[Nat.zero_add];exact CX hbl hn) (fun k q hq=>by rw[Nat.zero_add];exact W4 hq)
 rw[Nat.add_zero] at lb lc
 have mc:=m.call a1 hbl lb lc hdj hnd
 have hlen:bx.length=gu ps:=by
  have:=lb.get.1
  rw[List.length_map,qO] at this;exact this
 have hnd1:bx.Nodup:=(List.nodup_append.1 hnd).1
 have hvc:=vc a4
 rw[FZ] at hvc
 have hvl:=gc dargs
 have live_ne:∀ q b,h q = .live b->env q ≠ .un:=fun q b hq=>by
  have:=m.nm q
  rw[hq] at this
  rcases this with⟨k,len,e,_⟩|⟨e,_⟩ <;> rw[e] <;> simp
 have hlive:∀ n,n∈bx++gT cx→∃ b,h n = .live b/\b.mut=true/\env n ≠ .un:=fun n hn=>by
  rcases List.mem_append.1 hn with hn|hn
  ·obtain⟨i,hi⟩:=List.mem_iff_getElem?.1 hn
   obtain⟨b',_,_,_,⟨q,b,e,h1,h2,_⟩|⟨e,_⟩⟩:=lb.get.2 i (some n) (by simp[hi])
   ·cases e;exact⟨b,h1,h2,live_ne _ _ h1⟩
   ·cases e
  ·obtain⟨i,hi⟩:=List.mem_iff_getElem?.1 (sk.1 hn)
   obtain⟨b',_,_,_,⟨q,b,e,h1,h2,_⟩|⟨e,_⟩⟩:=lc.get.2 i (some n) hi
   ·cases e;exact⟨b,h1,h2,live_ne _ _ h1⟩
   ·cases e
 refine calls_of_wp hf hb (Uu (N0:=⟨zC env (bx++gT cx),fh A env fz,N0.g⟩) ⟨hs,hG⟩ au code _ _ _ (fh A env fz) (lP env bx cx) _ w hvc ⟨mc,?_,?_,rfl⟩ ?_)
 ·simp only[St.fs,t5,Cu,Array.size_append,Array.size_replicate];omega
 ·intro i
  simp only[St.fs,t5]
  rcases GG (l:=fH ps dd 0 0) (n:=fn.ntmps) (i:=i) with hj|⟨s,h1,h2⟩
  ·rw[hj];simp only[ai]
  ·rw[h2]
   obtain⟨v,hv,hdv⟩:=xq i s dargs h1
   have hi:i<vs.length:=(List.getElem?_eq_some_iff.1 hv).1
   have:(vs.toArray++Array.replicate (fn.ntmps-vs.toArray.size) undef).getD i undef=v:=by
    have h3:(vs.toArray++Array.replicate (fn.ntmps-vs.toArray.size) undef)[i]? = some v:=by
     rw[Array.getElem?_append_left (by simpa using hi)];simpa using hv
    simp only[Array.getD_eq_getD_getElem?,h3,Option.getD_some]
   rw[this];exact hdv
 ·intro ex S' A1 env1 act w1 hK t' x'
  have hend:∃ rsv y f1 owr z f2 owb,sI P fn.results.toList S'.sl (cQ S'.H)=some rsv/\kf (Nat.blt 0 (gu ps)) rs rsv (cQ S'.H)=some (y,f1,owr)/\jm ps 0 (cQ S'.H)=some (z,f2,owb) ∧
    tH (f1++f2) (owr++owb)=true/\xH (f1++f2)=true/\post dd (y,z)/\(ex = .normal∨ex = .ret):=by
   unfold u5 at hK
   split at hK
   ·exact hK.elim
   ·rename_i hex
    split at hK
    ·exact hK.elim
    ·rename_i rsv hts
     split at hK
     ·rename_i y f1 ow z f2 ow2 h1 h2
      split at hK
      ·rename_i h3 h4
       refine⟨rsv,y,f1,ow,z,f2,ow2,hts,h1,h2,h3,h4,hK,?_⟩
       cases ex with
       | normal=>exact .inl rfl
       | ret=>exact .inr rfl
       | exit i=>exact absurd rfl (hex i)
      ·exact hK.elim
     ·exact hK.elim
  obtain⟨rsv,y,f1,owr,z,f2,owb,hts,ho,hob,hown,hlt,hpost,hex⟩:=hend
  obtain⟨rvs,hrun,hres⟩:=SD t'.m t'.f hts
  have hA2:∀ b,A1 b->fh A1 env1 (f1++f2) b:=fun b hb=>.inl hb
  have hF1:∀ k,fa env1 f1 k->fh A1 env1 (f1++f2) k:=fun k ⟨n,x,l,hx,he⟩=>.inr ⟨n,x,l,List.mem_append_left _ hx,he⟩
  have hF2:∀ k,fa env1 f2 k->fh A1 env1 (f1++f2) k:=fun k ⟨n,x,l,hx,he⟩=>.inr ⟨n,x,l,List.mem_append_right _ hx,he⟩
  have hlt:=On hlt
  have hownS:=Fh hown
  have hPQ:QN=PN+PN:=rfl
  have fin:∀(As A':Nat->Prop)(hs':bd),aY w0 N0 As env hs' w->(∀ n,n∈bx++gT cx->hs' n=h n)->(∀ i,i<eG rs+gF ps->hs' (base+i) = .un)->(∀ b,As b->A' b)->(∀ b,A' b->fh A1 env1 (f1++f2) b) →
    (∀ b,A' b->As b∨((zC env (bx++gT cx) b∨w.heap.size<=b)/\b<w1.heap.size))->(pn rs=true∨∀ b,fh A1 env1 (f1++f2) b->A' b)->(jH ps=true∨∀ b,fh A1 env1 (f1++f2) b->A' b) →
    ∃ env',aY w0 N0 A' env' (bR (d6 (bx.headD 0) ps z bx (base+eG rs)++(jq (bx.headD 0) rs y base++(fB ps z (base+eG rs)++lN cx))) hs') w1/\bZ As env w A' env' w1/\ai A' env' w1 (nF (iB (bx.headD 0) rs y base)) (yA rvs):=by
   intro As A' hs' ms hsb hsu hAA hA'2 hA1' L1 L2
   obtain⟨b1,b2,b3⟩:=um (A':=A') (env':=iW (gP bx 0++iD (owr++owb) base) env env1) t'.m hA2 (bx.headD 0) rs y _ _ f1 owr base ho hres hF1 L1
   obtain⟨c1,c2,c3,c4⟩:=qt (A':=A') (env':=iW (gP bx 0++iD (owr++owb) base) env env1) t'.m hA2 (bx.headD 0) ps z f2 owb bx 0 (base+eG rs) hob hF2 L2 hlen
   have hfo:lI (cQ S'.H) (f1++f2):=fun n b hh=>by
    rcases List.mem_append.1 hh with hh|hh
    ·exact b1 n b hh
    ·exact c1 n b hh
   have howl:(owr++owb).length=eG rs+gF ps:=by rw[List.length_append,b2,c2]
   have hnotbx:∀ i,i<eG rs+gF ps->base+i ∉ bx:=fun i hi hmem=>by
    have h1:=hsu i hi
    rw[hsb _ (List.mem_append_left _ hmem)] at h1
    obtain⟨b,hb',_⟩:=hlive _ (List.mem_append_left _ hmem)
    rw[h1] at hb';cases hb'
   have hRbox:∀ i n,bx[i]? = some n->bh (gP bx 0++iD (owr++owb) base) n=some (some (PN+i)):=fun i n hi=>by
    rw[Gy,Ns (j:=0) hnd1 hi,Nat.zero_add]
   have hRres:∀ i o,(owr++owb)[i]? = some o->bh (gP bx 0++iD (owr++owb) base) (base+i)=some o:=fun i o hi=>by
    have hlti:i<eG rs+gF ps:=by have:=(List.getElem?_eq_some_iff.1 hi).1;omega
    rw[Gy,W7 (hnotbx i hlti)]
    exact LQ hi
   have hRinv:∀ n y,bh (gP bx 0++iD (owr++owb) base) n=some y->(∃ i,bx[i]? = some n/\y=some (PN+i))∨∃ i,(owr++owb)[i]? = some y/\n=base+i/\i<eG rs+gF ps:=fun n y hy=>by
    rw[Gy] at hy
    split at hy
    ·rename_i x hx
     cases hy
     obtain⟨i,h1,h2⟩:=B5 hx
     rw[Nat.zero_add] at h2
     exact .inl ⟨i,h1,h2⟩
    ·obtain⟨i,h1,h2⟩:=Lp hy
     exact .inr ⟨i,h1,h2,by have:=(List.getElem?_eq_some_iff.1 h1).1;omega⟩
   have hbxlt:∀ i n,bx[i]? = some n->i<PN:=fun i n hi=>by have:=(List.getElem?_eq_some_iff.1 hi).1;omega
   have henvp:∀ i n,bx[i]? = some n->env1 (PN+i)=env n:=fun i n hi=>by
    obtain⟨b,_,_,hne⟩:=hlive n (List.mem_append_left _ (List.mem_of_getElem? hi))
    have:=hbxlt i n hi
    have:=x'.envp (PN+i) (by omega) (by omega) (by rw[CX hbl hi];exact hne)
    rw[this,CX hbl hi]
   have eenv:∀ i o,(owr++owb)[i]? = some o->iW (gP bx 0++iD (owr++owb) base) env env1 (base+i)=ly env1 o:=fun i o hi=>by
    unfold iW
    rw[hRres i o hi]
    simp only[fN,hRres i o hi]
    cases o <;> rfl
   have hhead:bx≠[]->iW (gP bx 0++iD (owr++owb) base) env env1 (bx.headD 0)=env1 PN:=fun hne=>by
    obtain⟨n0,r,hbx⟩:=List.exists_cons_of_ne_nil hne
    have h0:bx[0]? = some (bx.headD 0):=by rw[hbx];rfl
    unfold iW
    rw[hRbox 0 _ h0]
    simp only[fN,hRbox 0 _ h0,Nat.add_zero]
   obtain⟨d1,d2⟩:=b3 (fun hal=>hhead (fun hnil=>by
     have h0:gu ps=0:=by rw[← hlen,hnil];rfl
     rw[h0] at hal;cases hal)) (fun i o hi=>eenv i o (by rw[List.getElem?_append_left (List.getElem?_eq_some_iff.1 hi).1];exact hi))
   obtain⟨d3,d4⟩:=c3 hhead (fun k q hq=>by
     have:=eenv (eG rs+k) q (by rw[List.getElem?_append_right (by omega),b2,Nat.add_sub_cancel_left];exact hq)
     rwa [← Nat.add_assoc] at this)
    (fun k q hq=>by
     unfold iW
     rw[hRbox k q hq]
     simp only[fN,hRbox k q hq,Nat.zero_add])
   have hlookA:∀ q b k l,cQ S'.H q = .live b->b.mut=true->env1 q = .blk k l->q ∉ (f1++f2).map (·.1)→¬ A' k:=fun q b k l hq hbm he hqn hA'=>by
    have mf:=(t'.m.freeze hfo).1
    have:bR (f1++f2) S'.fs.h q = .live b:=by rw[kQ hqn];exact hq
    exact (mf.live_blk this he).2 hbm (hA'2 k hA')
   suffices hk:aY w0 N0 A' (iW (gP bx 0++iD (owr++owb) base) env env1) (bR (d6 (bx.headD 0) ps z bx (base+eG rs)++(jq (bx.headD 0) rs y base++(fB ps z (base+eG rs)++lN cx))) hs') w1/\bZ As env w A' (iW (gP bx 0++iD (owr++owb) base) env env1) w1 by
    exact⟨_,hk.1,hk.2,X5 d1⟩
   have hnew:∀{l:List (Nat×Nm)}{os:List (Option Nat)}{n0:Nat},gD A' env1 (cQ S'.H) (iW (gP bx 0++iD (owr++owb) base) env env1) w1 os l (base+n0)->(∀ i o,os[i]? = some o->(owr++owb)[n0+i]? = some o)→∀ n x,(n,x)∈l →
     ∃ b,x = .live b/\b.mut=true/\((∃ m b0,bh (gP bx 0++iD (owr++owb) base) n=some (some m)/\cQ S'.H m = .live b0/\b0.mut=true ∧
      (∀ k len,env1 m = .blk k len->ie A' (iW (gP bx 0++iD (owr++owb) base) env env1) w1 k len b)/\(env1 m = .nil→∃ E t,b = .row E t []))∨(bh (gP bx 0++iD (owr++owb) base) n=some none∧∃ E t,b = .row E t [])):=by
    intro l os n0 hl hos n x hx
    have:∀{os:List (Option Nat)}{l:List (Nat×Nm)}{k0:Nat},gD A' env1 (cQ S'.H) (iW (gP bx 0++iD (owr++owb) base) env env1) w1 os l k0→∀ n x,(n,x)∈l→∃ i o b',os[i]? = some o/\n=k0+i/\x = .live b'∧b'.mut=true ∧
      ((∃ q b,o=some q/\cQ S'.H q = .live b/\b.mut=true/\(∀ k len,env1 q = .blk k len->ie A' (iW (gP bx 0++iD (owr++owb) base) env env1) w1 k len b')/\(env1 q = .nil→∃ E t,b' = .row E t []))∨(o=none∧∃ E t,b' = .row E t [])):=by
     intro os
     induction os with
     | nil=>intro l k0 hl n x hx;cases l with
      | nil=>cases hx
      | cons p l=>exact hl.elim
     | cons o os ih =>
      intro l k0 hl n x hx
      cases l with
      | nil=>cases hx
      | cons p l =>
       obtain⟨m',y'⟩:=p
       obtain⟨⟨hm,b',g1,g2,g3⟩,hr⟩:=hl
       rcases List.mem_cons.1 hx with e|hx
       ·cases e;exact⟨0,o,b',rfl,by omega,g1,g2,g3⟩
       ·obtain⟨i,o',b'',k1,k2,k3⟩:=ih hr n x hx
        exact⟨i+1,o',b'',by simpa using k1,by omega,k3⟩
    obtain⟨i,o,b',k1,rfl,k3,k4,k5⟩:=this hl n x hx
    have hr:=hRres _ _ (hos i o k1)
    rw[← Nat.add_assoc] at hr
    refine⟨b',k3,k4,?_⟩
    rcases k5 with⟨q,b,rfl,g1,g2,g3,g4⟩|⟨rfl,g1⟩
    ·exact .inl ⟨q,b,hr,g1,g2,g3,g4⟩
    ·exact .inr ⟨hr,g1⟩
   refine aY.retn (R:=gP bx 0++iD (owr++owb) base) (U:=d6 (bx.headD 0) ps z bx (base+eG rs)++(jq (bx.headD 0) rs y base++(fB ps z (base+eG rs)++lN cx))) (A':=A') ms t'.m x'.shape ?_ ?_ ?_ ?_ ?_ hAA hA1' ?_
   ·intro n x hx
    rcases List.mem_append.1 hx with hx|hx
    ·obtain⟨i,b,b0,h1,h2,h3,h4,h5,h6,h7⟩:=d4 n x hx
     rw[Nat.zero_add] at h4 h6 h7
     exact .inr ⟨b,h2,h3,.inl ⟨PN+i,b0,hRbox i n h1,h4,h5,h6,h7⟩⟩
    ·rcases List.mem_append.1 hx with hx|hx
     ·exact .inr (hnew (n0:=0) (by rw[Nat.add_zero];exact d2) (fun i o hi=>by rw[Nat.zero_add,List.getElem?_append_left (List.getElem?_eq_some_iff.1 hi).1];exact hi) n x hx)
     ·rcases List.mem_append.1 hx with hx|hx
      ·exact .inr (hnew d3 (fun i o hi=>by rw[List.getElem?_append_right (by omega),b2,Nat.add_sub_cancel_left];exact hi) n x hx)
      ·exact .inl (Cx hx).1
   ·intro n hn
    obtain⟨y',hy⟩:=Option.ne_none_iff_exists'.1 hn
    simp only[List.map_append]
    rcases hRinv n y' hy with⟨i,h1,_⟩|⟨i,h1,rfl,hi⟩
    ·exact List.mem_append_left _ (c4 n (List.mem_of_getElem? h1))
    ·refine List.mem_append_right _ ?_
     by_cases hlt':i<eG rs
     ·refine List.mem_append_left _ ?_
      obtain⟨b',_,hmem,_⟩:=d2.get.2 i _ (by rw[List.getElem?_append_left (by omega)] at h1;exact h1)
      exact List.mem_map_of_mem (f:=(·.1)) hmem
     ·refine List.mem_append_right _ (List.mem_append_left _ ?_)
      obtain⟨b',_,hmem,_⟩:=d3.get.2 (i-eG rs) _ (by rw[List.getElem?_append_right (by omega),b2] at h1;exact h1)
      have:=List.mem_map_of_mem (f:=(·.1)) hmem
      rwa [show base+eG rs+(i-eG rs)=base+i from by omega] at this
   ·intro n n' q hn hn'
    rcases hRinv n _ hn with⟨i,h1,h2⟩|⟨i,h1,rfl,_⟩ <;> rcases hRinv n' _ hn' with⟨i',h1',h2'⟩|⟨i',h1',rfl,_⟩
    ·simp only[Option.some.injEq] at h2 h2'
     have:i=i':=by omega
     subst this
     rw[h1] at h1';exact Option.some.inj h1'
    ·simp only[Option.some.injEq] at h2
     have:=(hownS i' q h1').1
     have:=hbxlt _ _ h1
     omega
    ·simp only[Option.some.injEq] at h2'
     have:=(hownS i q h1).1
     have:=hbxlt _ _ h1'
     omega
    ·rw[(hownS i q h1).2.2 i' h1']
   ·intro n hn
    obtain⟨y',hy⟩:=Option.ne_none_iff_exists'.1 hn
    rcases hRinv n y' hy with⟨i,h1,rfl⟩|⟨i,h1,rfl,h2⟩
    ·have hmem:n∈bx++gT cx:=List.mem_append_left _ (List.mem_of_getElem? h1)
     obtain⟨b,g2',g3',_⟩:=hlive n hmem
     exact .inr ⟨b,by rw[hsb n hmem];exact g2',g3',by rw[pK hy];exact henvp i n h1⟩
    ·exact .inl (hsu i h2)
   ·rintro k ⟨n,l,hn,he⟩
    obtain⟨b,g2',g3',_⟩:=hlive n hn
    refine⟨n,b,l,?_,by rw[hsb n hn];exact g2',g3',he⟩
    simp only[List.map_append,Cb]
    rcases List.mem_append.1 hn with hn|hn
    ·exact List.mem_append_left _ (c4 n hn)
    ·exact List.mem_append_right _ (List.mem_append_right _ (List.mem_append_right _ hn))
   ·rintro q b k l hq hbm he ⟨n,hn⟩
    refine hlookA q b k l hq hbm he fun hmem=>?_
    rcases hRinv n _ hn with⟨i,h1,h2⟩|⟨i,h1,rfl,_⟩
    ·simp only[Option.some.injEq] at h2
     have:=hlt q hmem
     have:=hbxlt _ _ h1
     omega
    ·exact (hownS i q h1).2.1 hmem
  suffices hfin:∃ (A':Nat->Prop) (env':aJ),aY w0 N0 A' env' (bR (qi ps rs (y,z) base fz bx cx) h) w1/\bZ A env w A' env' w1/\ai A' env' w1 (nF (iB (bx.headD 0) rs y base)) (yA rvs) by
   have hthis:act.defers=[]∧∃ v,(results fn act.tmps).run P w1 = .ok v w1∧∃ v' y',Ending.returned v = .returned v'∧post dd y'∧∃ (A':Nat->Prop) (env':aJ),aY w0 N0 A' env' (bR (qi ps rs y' base fz bx cx) h) w1/\bZ A env w A' env' w1/\ai A' env' w1 (nF (iB (bx.headD 0) rs y'.1 base)) v' :=
    ⟨t'.dfr,_,hrun,_,(y,z),rfl,hpost,hfin⟩
   rcases hex with rfl|rfl
   ·exact hthis
   ·exact hthis
  unfold qi
  cases hk:sU ps rs with
  | true =>
   obtain⟨mf,xf⟩:=m.freeze a1
   have hback:∀ b,fh A1 env1 (f1++f2) b->fh A env fz b∨((zC env (bx++gT cx) b∨w.heap.size<=b)/\b<w1.heap.size):=by
    intro b hb
    have hfo:lI (cQ S'.H) (f1++f2):=by
     obtain⟨b1,_⟩:=um (A':=fh A1 env1 (f1++f2)) (env':=env1) t'.m hA2 (bx.headD 0) rs y _ _ f1 owr base ho hres hF1 (.inr fun b hb=>hb)
     obtain⟨c1,_⟩:=qt (A':=fh A1 env1 (f1++f2)) (env':=env1) t'.m hA2 (bx.headD 0) ps z f2 owb bx 0 base hob hF2 (.inr fun b hb=>hb) hlen
     intro n b hh
     rcases List.mem_append.1 hh with hh|hh
     ·exact b1 n b hh
     ·exact c1 n b hh
    have hAlt:=(t'.m.freeze hfo).1.Alt b hb
    rcases hb with hb|⟨n,x,l,hx,he⟩
    ·rcases t'.m.fresh b hb with h1|h1|h1
     ·exact .inl h1
     ·exact .inr ⟨.inl h1,hAlt⟩
     ·exact .inr ⟨.inr h1,hAlt⟩
    ·obtain⟨E,t,xs,hl,_⟩:=hfo n x hx
     rcases t'.m.own n _ b l hl rfl he with h1|h1
     ·exact .inr ⟨.inl h1,hAlt⟩
     ·exact .inr ⟨.inr h1,hAlt⟩
   obtain⟨env',k1,k2,k3⟩:=fin (fh A env fz) (fh A1 env1 (f1++f2)) (bR fz h) mf (fun n hn=>kQ (hdj n hn)) (fun i hi=>by
     rw[kQ]
     ·exact hun i hi
     ·intro hmem
      obtain⟨⟨n,x⟩,hx,he⟩:=List.mem_map.1 hmem
      simp only at he
      subst he
      obtain⟨E,t,xs,hl,_⟩:=a1 _ _ hx
      rw[hun i hi] at hl;cases hl)
    (fun b hb=>.inl (x'.imm b hb)) (fun b hb=>hb) hback (.inr fun b hb=>hb) (.inr fun b hb=>hb)
   refine⟨_,env',?_,xf.trans k2,k3⟩
   rw[Es];exact k1
  | false =>
   have hpl:pn rs=true/\jH ps=true:=by
    simpa[sU] using hk
   obtain⟨env',k1,k2,k3⟩:=fin A A h m (fun n hn=>rfl) hun (fun b hb=>hb) (fun b hb=>.inl (x'.imm b (.inl hb))) (fun b hb=>.inl hb) (.inl hpl.1) (.inl hpl.2)
   refine⟨_,env',?_,k2,k3⟩
   rw[List.append_nil];exact k1
def tJ:(rs:List RK)->gC rs->gC rs->List Prop
 | [],_,_=>[]
 | _::rs,x,y=>(x.1=y.1)::tJ rs x.2 y.2
def md:(ps:List PK)->d5 ps->d5 ps->List Prop
 | [],_,_=>[]
 | .val _::ps,x,y=>md ps x y
 | .agg _::ps,x,y=>md ps x y
 | .own _ _::ps,x,y=>md ps x y
 | .ago _::ps,x,y=>md ps x y
 | .fn _ _::ps,x,y=>md ps x y
 | .nils::ps,x,y=>md ps x y
 | .box _ _::ps,x,y=>(x.1=y.1)::md ps x.2 y.2
 | .row _ _::ps,x,y=>(x.1=y.1)::md ps x.2 y.2
theorem Nj:∀{rs:List RK}{x y:gC rs},bg (tJ rs x y)->x=y
 | [],x,y,_=>rfl
 | _::rs,x,y,h=>Prod.ext h.1 (Nj (rs:=rs) h.2)
theorem qJ:∀{ps:List PK}{x y:d5 ps},bg (md ps x y)->x=y
 | [],x,y,_=>rfl
 | .val _::ps,x,y,h=>qJ (ps:=ps) h
 | .agg _::ps,x,y,h=>qJ (ps:=ps) h
 | .own _ _::ps,x,y,h=>qJ (ps:=ps) h
 | .ago _::ps,x,y,h=>qJ (ps:=ps) h
 | .fn _ _::ps,x,y,h=>qJ (ps:=ps) h
 | .nils::ps,x,y,h=>qJ (ps:=ps) h
 | .box _ _::ps,x,y,h=>Prod.ext h.1 (qJ (ps:=ps) h.2)
 | .row _ _::ps,x,y,h=>Prod.ext h.1 (qJ (ps:=ps) h.2)
theorem Ds:∀{rs:List RK}{x:gC rs},bg (tJ rs x x)
 | [],_=>trivial
 | _::rs,x=>⟨rfl,Ds (rs:=rs)⟩
theorem pE:∀{ps:List PK}{x:d5 ps},bg (md ps x x)
 | [],_=>trivial
 | .val _::ps,x=>pE (ps:=ps)
 | .agg _::ps,x=>pE (ps:=ps)
 | .own _ _::ps,x=>pE (ps:=ps)
 | .ago _::ps,x=>pE (ps:=ps)
 | .fn _ _::ps,x=>pE (ps:=ps)
 | .nils::ps,x=>pE (ps:=ps)
 | .box _ _::ps,x=>⟨rfl,pE (ps:=ps)⟩
 | .row _ _::ps,x=>⟨rfl,pE (ps:=ps)⟩
theorem Ct.ok(c:Ct){f:FuncId}{fn:Func}{code:Code}(hf:P.funcs[f]? = some fn)(hb:fn.body=some code)(hs:i9 P sp)(au:P.follows .mixedOrders=true)(an:ar c.ps->ay)
  (vc:ug c.ps fun d=>tq c.ps d->oq (c.pre d)->rB (t5 c.ps d fn.ntmps) (sx P sp (an d) code (u5 P c.ps c.rs fn.results.toList fun y=>oq (tJ c.rs y.1 (c.out d).1++md c.ps y.2 (c.out d).2)))):av P sp.gl f c.spec:=by
 intro base svs h d r e hp w0 N0 A env w vs hG m hd
 unfold Ct.spec at e
 obtain⟨⟨dd,fz,bx,cx⟩,q1,q2,e1,e2,rfl⟩:=Q.run_bind _ _ _ e
 split at e2
 case h_2=>cases e2
 rename_i hnm
 obtain⟨rfl,hun⟩:=z8 e2
 refine (Py (rs:=c.rs) (fun d y=>oq (tJ c.rs y.1 (c.out d).1++md c.ps y.2 (c.out d).2)) hf hb hs au an e1 hnm hun (fun hw=>Gr.1 vc dd hw (ve.2 hp)) hG m hd).mono ?_
 rintro e' w' ⟨v,y,rfl,hy,A',env',h1,h2,h3⟩
 obtain⟨hy1,hy2⟩:=mB.1 (ve.1 hy)
 have:y=c.out dd:=Prod.ext (Nj hy1) (qJ hy2)
 subst this
 exact⟨v,rfl,(),A',env',trivial,h1,h2,h3⟩
theorem Cn.ok(c:Cn){f:FuncId}{fn:Func}{code:Code}(hf:P.funcs[f]? = some fn)(hb:fn.body=some code)(hs:i9 P sp)(au:P.follows .mixedOrders=true)(an:ar c.ps->ay)
  (vc:ug c.ps fun d=>tq c.ps d->oq (c.pre d)->rB (t5 c.ps d fn.ntmps) (sx P sp (an d) code (u5 P c.ps c.rs fn.results.toList (c.post d)))):av P sp.gl f c.spec:=by
 intro base svs h d r e hp w0 N0 A env w vs hG m hd
 unfold Cn.spec at e
 obtain⟨⟨dd,fz,bx,cx⟩,q1,q2,e1,e2,rfl⟩:=Q.run_bind _ _ _ e
 split at e2
 case h_2=>cases e2
 rename_i hnm
 obtain⟨rfl,hun⟩:=z8 e2
 refine (Py (rs:=c.rs) c.post hf hb hs au an e1 hnm hun (fun hw=>Gr.1 vc dd hw (ve.2 hp)) hG m hd).mono ?_
 rintro e' w' ⟨v,y,rfl,hy,A',env',h1,h2,h3⟩
 refine⟨v,rfl,y,A',env',hy,?_,h2,h3⟩
 show aY w0 N0 A' env' (bR ((vf c.ps c.rs base fz bx cx).map fun p=>(p.1,p.2 y)) h) w'
 rw[LZ];exact h1
def Ct.nspec(c:Ct):Spec:=fun base svs=>(fg none c.ps svs).bind fun p=>match uZ p.2.1 p.2.2.1 p.2.2.2 with
 | true=>nU base (eG c.rs+gF c.ps) (.nd (gC c.rs×d5 c.ps) (LA c.rs c.ps) (c.pre p.1) (fun y=>oq (tJ c.rs y.1 (c.out p.1).1++md c.ps y.2 (c.out p.1).2)) (fun _=>⟨c.out p.1,ve.2 (mB.2 ⟨Ds,pE⟩)⟩)
   (fun y=>nF (iB (p.2.2.1.headD 0) c.rs y.1 base)) (vf c.ps c.rs base p.2.1 p.2.2.1 p.2.2.2))
 | false => .fail
theorem Ol{h:bd}{dl d:Dl}:∀{k n:Nat}{r:List Nat},(nU n k dl).run h=some (d,r)→∀ dl',(nU n k dl').run h=some (dl',r)
 | 0,n,r,e,dl'=>by
  simp only[nU,Q.run,Option.some.injEq,Prod.mk.injEq] at e ⊢
  exact⟨trivial,e.2⟩
 | k+1,n,r,e,dl'=>by
  simp only[nU,Q.run] at e ⊢
  split at e
  ·rename_i p q hk
   simp only[Option.some.injEq,Prod.mk.injEq] at e
   obtain⟨rfl,rfl⟩:=e
   split at hk
   ·rename_i hun
    have:=Ol hk dl'
    rw[this]
   ·cases hk
  ·cases e
universe u v
theorem Q.bind_run1{h:bd}{α:Type u}{β:Type v}(q:Q α)(f:α->Q β){a:α}{r1:List Nat}{b:β}{r2:List Nat}(h1:q.run h=some (a,r1))(h2:(f a).run h=some (b,r2)):(q.bind f).run h=some (b,r1++r2):=by
 induction q generalizing r1 with
 | ret x=>simp only[Q.run,Option.some.injEq,Prod.mk.injEq] at h1;obtain⟨rfl,rfl⟩:=h1;simpa[Q.bind] using h2
 | ask n k ih =>
  simp only[Q.run] at h1
  split at h1
  ·rename_i x y hk
   simp only[Option.some.injEq,Prod.mk.injEq] at h1
   obtain⟨rfl,rfl⟩:=h1
   simp only[Q.bind,Q.run,ih _ hk,List.cons_append]
  ·cases h1
 | fail=>cases h1
theorem Ct.named{G:pz}{c:Ct}{f:FuncId}(ok:av P G f c.spec):av P G f c.nspec:=by
 intro base svs h d r e hp w0 N0 A env w vs hG m hd
 unfold Ct.nspec at e
 obtain⟨⟨dd,fz,bx,cx⟩,q1,q2,e1,e2,rfl⟩:=Q.run_bind _ _ _ e
 split at e2
 case h_2=>cases e2
 rename_i hnm
 obtain⟨rfl,hun⟩:=z8 e2
 have e3:=Ol e2 (.det (c.pre dd) (nF (iB (bx.headD 0) c.rs (c.out dd).1 base)) (qi c.ps c.rs (c.out dd) base fz bx cx))
 have e4:(c.spec base svs).run h=some (.det (c.pre dd) (nF (iB (bx.headD 0) c.rs (c.out dd).1 base)) (qi c.ps c.rs (c.out dd) base fz bx cx),q1++q2):=by
  unfold Ct.spec
  refine Q.bind_run1 _ _ e1 ?_
  simp only at hnm ⊢
  rw[hnm]
  exact e3
 refine (ok base svs h _ _ e4 hp w0 N0 A env w vs hG m hd).mono ?_
 rintro e' w' ⟨v,he,x,A',env',_,h1,h2,h3⟩
 refine⟨v,he,c.out dd,A',env',ve.2 (mB.2 ⟨Ds,pE⟩),?_,h2,h3⟩
 show aY w0 N0 A' env' (bR ((vf c.ps c.rs base fz bx cx).map fun p=>(p.1,p.2 (c.out dd))) h) w'
 rw[LZ];exact h1
end
end Go.SX

/- SX, part 23: from a law's arguments to data, and a law's contract to its row. -/
namespace Go.SX
open Go.ChangeShapes Go.WideShapes Go.ChangeAt Go.RowKit
set_option linter.unusedVariables false
universe u v
def rb(P:Program)(f:CT->TypeId->Bool):List Field->CT->Nat->Bool
 | [],_,_=>false
 | [fd],t,o=>f t fd.type&&Nat.beq fd.offset o&&Nat.beq (P.cellsOf fd.type) t.size
 | fd::g::r,.pair a b,o=>f a fd.type&&Nat.beq fd.offset o&&Nat.beq (P.cellsOf fd.type) a.size&&rb P f (g::r) b (o+a.size)
 | _,_,_=>false
def rx(P:Program)(f:CT->TypeId->Bool)(e:TypeId):Nat->CT->Bool
 | 0,_=>false
 | 1,t=>f t e&&Nat.beq (P.cellsOf e) t.size
 | n+2,.pair a b=>f a e&&Nat.beq (P.cellsOf e) a.size&&rx P f e (n+1) b
 | _,_=>false
def jS(P:Program):Nat->CT->TypeId->Bool
 | 0,_,_=>false
 | n+1,t,τ=>match P.underlying τ,t with
  | some (.int k),.int k'=>i5 k k'
  | some .bool,.bool=>true
  | some .string,.str=>true
  | some (.slice e),.sl u=>jS P n u e&&Nat.beq (P.cellsOf e) u.size
  | some (.struct fs),t=>rb P (jS P n) fs.toList t 0
  | some (.array k e),t=>rx P (jS P n) e k t
  | _,_=>false
section
variable {H:Type} {enc:TypeId×Value->H} {P:Program} {w:World} {base:Nat} {held:Bool}
theorem rG{A:Nat->Prop}{t:CT}{cs:List Value}{o sz:Nat}{d:t.D}(hs:sz=t.size)(h:Rd A w t (fun j=>((cs.drop o).take sz)[j]?) 0 d):Rd A w t (fun j=>cs[j]?) o d:=by
 have:=tU h o
 rw[Nat.zero_add] at this
 refine fG (fun _ h=>h) (fun _ _ _=>rfl) t _ _ _ _ (fun j hj=>?_) this
 simp only[List.getElem?_take,Nat.add_sub_cancel_left]
 rw[if_pos (by omega),List.getElem?_drop]
theorem Oh{A:Nat->Prop}{f:CT->TypeId->Bool}{cs:List Value}{n:Nat}
  (hf:∀ t τ cs x,f t τ=true->DataW.trod enc P w base (fun _=>true) held n τ cs=some x→∃ d,Rd A w t (fun j=>cs[j]?) 0 d) :
  ∀(fs:List Field)(t:CT)(o:Nat),rb P f fs t o=true->(∀ fd∈fs,∃ x,DataW.trod enc P w base (fun _=>true) held n fd.type ((cs.drop fd.offset).take (P.cellsOf fd.type))=some x)→∃ d,Rd A w t (fun j=>cs[j]?) o d
 | [],t,o,h,_=>by cases h
 | [fd],t,o,h,hx=>by
  simp only[rb,Bool.and_eq_true] at h
  obtain⟨⟨h1,h2⟩,h3⟩:=h
  have h2:=Nat.eq_of_beq_eq_true h2
  have h3:=Nat.eq_of_beq_eq_true h3
  obtain⟨x,hx⟩:=hx fd (by simp)
  obtain⟨d,hd⟩:=hf t fd.type _ x h1 hx
  rw[h2] at hd
  exact⟨d,rG h3 hd⟩
 | fd::g::r,.pair a b,o,h,hx=>by
  simp only[rb,Bool.and_eq_true] at h
  obtain⟨⟨⟨h1,h2⟩,h3⟩,h4⟩:=h
  have h2:=Nat.eq_of_beq_eq_true h2
  have h3:=Nat.eq_of_beq_eq_true h3
  obtain⟨x,hx1⟩:=hx fd (by simp)
  obtain⟨d,hd⟩:=hf a fd.type _ x h1 hx1
  rw[h2] at hd
  obtain⟨d',hd'⟩:=Oh hf (g::r) b (o+a.size) h4 (fun fd' hm=>hx fd' (List.mem_cons_of_mem _ hm))
  exact⟨(d,d'),rG h3 hd,hd'⟩
 | _::_::_,.int _,_,h,_=>by cases h
 | _::_::_,.bool,_,h,_=>by cases h
 | _::_::_,.str,_,h,_=>by cases h
 | _::_::_,.sl _,_,h,_=>by cases h
theorem Jh{A:Nat->Prop}{f:CT->TypeId->Bool}{cs:List Value}{n:Nat}{e:TypeId}
  (hf:∀ t τ cs x,f t τ=true->DataW.trod enc P w base (fun _=>true) held n τ cs=some x→∃ d,Rd A w t (fun j=>cs[j]?) 0 d) :
  ∀(k:Nat)(t:CT)(i:Nat),rx P f e k t=true->(∀ j,i<=j->j<i+k→∃ x,DataW.trod enc P w base (fun _=>true) held n e ((cs.drop (j*P.cellsOf e)).take (P.cellsOf e))=some x)→∃ d,Rd A w t (fun j=>cs[j]?) (i*P.cellsOf e) d
 | 0,t,i,h,_=>by cases h
 | 1,t,i,h,hx=>by
  simp only[rx,Bool.and_eq_true] at h
  obtain⟨h1,h2⟩:=h
  have h2:=Nat.eq_of_beq_eq_true h2
  obtain⟨x,hx⟩:=hx i (by omega) (by omega)
  obtain⟨d,hd⟩:=hf t e _ x h1 hx
  exact⟨d,rG h2 hd⟩
 | k+2,.pair a b,i,h,hx=>by
  simp only[rx,Bool.and_eq_true] at h
  obtain⟨⟨h1,h2⟩,h4⟩:=h
  have h2:=Nat.eq_of_beq_eq_true h2
  obtain⟨x,hx1⟩:=hx i (by omega) (by omega)
  obtain⟨d,hd⟩:=hf a e _ x h1 hx1
  obtain⟨d',hd'⟩:=Jh hf (k+1) b (i+1) h4 (fun j h1 h2=>hx j (by omega) (by omega))
  refine⟨(d,d'),rG h2 hd,?_⟩
  rw[Nat.add_mul,Nat.one_mul] at hd'
  rw[← h2];exact hd'
 | _+2,.int _,_,h,_=>by cases h
 | _+2,.bool,_,h,_=>by cases h
 | _+2,.str,_,h,_=>by cases h
 | _+2,.sl _,_,h,_=>by cases h
theorem T0{α:Type}(n:Nat)(p:Nat->α->Prop)(h:∀ i,i<n→∃ a,p i a):∃ l:List α,l.length=n∧∀ i (hi:i<l.length),p i l[i]:=by
 induction n with
 | zero=>exact⟨[],rfl,fun i hi=>by simp at hi⟩
 | succ n ih =>
  obtain⟨l,hl,hp⟩:=ih fun i hi=>h i (by omega)
  obtain⟨a,ha⟩:=h n (by omega)
  refine⟨l++[a],by simp[hl],fun i hi=>?_⟩
  by_cases hlt:i<l.length
  ·rw[List.getElem_append_left hlt];exact hp i hlt
  ·have:i=l.length:=by simp at hi;omega
   subst this
   simp only[List.getElem_concat_length]
   rw[hl];exact ha
theorem Nr(b off n:Nat):(⟨b,off,none⟩:Addr).add n=⟨b,off+n,none⟩:=by
 unfold Addr.add
 split
 ·rename_i h;subst h;rfl
 ·rfl
theorem O2{k:IntKind}{n:Int}(h:(Lit.int k n).wf=true):k.has n:=by
 simp only[Lit.wf,Bool.and_eq_true,decide_eq_true_eq] at h;exact h
theorem AM:∀(n:Nat)(t:CT)(τ:TypeId)(fuel:Nat)(cs:List Value)(x:DataW H×List MemPlace),jS P n t τ=true->DataW.trod enc P w base (fun _=>true) held fuel τ cs=some x →
  ∃ d,Rd (fun b=>b<w.heap.size) w t (fun j=>cs[j]?) 0 d
 | 0,t,τ,fuel,cs,x,h,_=>by cases h
 | n+1,t,τ,fuel,cs,x,h,hx=>by
  unfold jS at h
  split at h
  ·rename_i k k' hu
   cases jr h
   obtain⟨m,rfl,_,hw⟩:=DataW.trod_int hu hx
   exact⟨m,by simp,O2 hw⟩
  ·rename_i hu
   obtain⟨b,rfl,_⟩:=DataW.trod_bool hu hx
   exact⟨b,by simp[Rd]⟩
  ·rename_i hu
   obtain⟨s,rfl,_,hs⟩:=DataW.trod_string hu hx
   exact⟨s,by simp,hs⟩
  ·rename_i e u hu
   simp only[Bool.and_eq_true] at h
   obtain⟨h1,h2⟩:=h
   have h2:=Nat.eq_of_beq_eq_true h2
   rcases DataW.trod_slice hu hx with⟨rfl,_⟩|⟨a,len,cap,elems,rest,m,_,rfl,_,_,hl,hm,hlen,hel,hsp,_⟩
   ·exact⟨[],oH.2 ⟨_,rfl,by simp,.inl ⟨⟨_,rfl⟩,rfl⟩⟩⟩
   ·have hcap:=(hsp rfl)
    by_cases h0:cap=0
    ·have:len=0:=by omega
     subst this h0
     exact⟨[],oH.2 ⟨_,rfl,by simp,.inl ⟨⟨_,rfl⟩,rfl⟩⟩⟩
    ·-- the cells that are there
     have first:∃ v,w.cell? a=some v:=by
      have hb:∃ cs',w.cells? base (a.add 0) (P.cellsOf e)=some cs':=by
       by_cases hl0:0<len
       ·have:=hel 0 hl0
        rw[Nat.zero_mul] at this
        have hs:∃ y,elems[0]? = some y:=⟨_,List.getElem?_eq_getElem (by omega)⟩
        obtain⟨y,hy⟩:=hs
        rw[hy,Option.bind_eq_some_iff] at this
        obtain⟨cs',hcs,_⟩:=this
        exact⟨cs',hcs⟩
       ·have:=hcap.2 0 (by omega)
        have hz:(len+0)*P.cellsOf e=0:=by
         have:len=0:=by omega
         subst this;simp
        rw[hz] at this
        have hs:∃ y,rest[0]? = some y:=⟨_,List.getElem?_eq_getElem (by omega)⟩
        obtain⟨y,hy⟩:=hs
        rw[hy,Option.bind_eq_some_iff] at this
        obtain⟨cs',hcs,_⟩:=this
        exact⟨cs',hcs⟩
      obtain⟨cs',hcs⟩:=hb
      obtain⟨_,hl1,hl2⟩:=World.cells?_some hcs
      have hp:=u.size_pos
      have:=hl2 0 (by omega)
      refine⟨cs'[0]'(by omega),?_⟩
      rw[List.getElem?_eq_getElem (by omega)] at this
      simpa[Addr.add] using this
     obtain⟨v0,hv0⟩:=first
     have hspot:=World.cell?_spot hv0
     obtain⟨b,off,spot⟩:=a
     simp only at hspot
     subst hspot
     have hlt:b<w.heap.size:=by
      unfold World.cell? at hv0
      simp only at hv0
      split at hv0
      ·rename_i c E sp hb
       exact (Array.getElem?_eq_some_iff.1 hb).1
      ·cases hv0
     obtain⟨xs,hxl,hxp⟩:=T0 len (fun i d=>Rd (fun b=>b<w.heap.size) w u (fun o=>w.cell? ⟨b,o,none⟩) (off+i*u.size) d) fun i hi=>by
      have:=hel i hi
      rw[List.getElem?_eq_getElem (by omega),Option.bind_eq_some_iff] at this
      obtain⟨cs',hcs,ht⟩:=this
      obtain⟨_,hl1,hl2⟩:=World.cells?_some hcs
      obtain⟨d,hd⟩:=AM n u e _ cs' _ h1 ht
      refine⟨d,?_⟩
      have:=tU hd (off+i*u.size)
      rw[Nat.zero_add] at this
      refine fG (fun _ h=>h) (fun _ _ _=>rfl) u _ _ _ _ (fun j hj=>?_) this
      have:=hl2 j (by omega)
      rw[Nr,Nr,h2] at this
      rw[Nat.add_sub_cancel_left,← this]
     subst hxl
     exact⟨xs,oH.2 ⟨_,rfl,by omega,.inr ⟨b,off,cap,rfl,hl,hm,hlt,fun i hi=>hxp i hi⟩⟩⟩
  ·rename_i t' fs hu
   obtain⟨xs,m,_,_,hl,hlen,hf⟩:=DataW.trod_struct hu hx
   refine Oh (n:=m) (fun t τ cs x h1 h2=>AM n t τ m cs x h1 h2) fs.toList _ 0 h fun fd hm=>?_
   obtain⟨i,hi,rfl⟩:=List.mem_iff_getElem.1 hm
   have:=hf i fs[i] (Array.getElem?_eq_getElem (by simpa using hi))
   have hi':i<fs.size:=by simpa using hi
   rw[List.getElem?_eq_getElem (by omega)] at this
   exact⟨_,by simpa using this⟩
  ·rename_i t' k e hu
   obtain⟨xs,m,_,_,hl,hlen,hf⟩:=DataW.trod_array hu hx
   have:=Jh (n:=m) (cs:=cs) (e:=e) (fun t τ cs x h1 h2=>AM n t τ m cs x h1 h2) k _ 0 h fun j _ hj=>by
    have:=hf j (by omega)
    rw[List.getElem?_eq_getElem (by omega)] at this
    exact⟨_,this⟩
   simpa using this
  ·cases h
abbrev mw:=List (Bool×CT)
def iL:mw->List PK
 | []=>[]
 | (true,t)::r => .agg t::iL r
 | (false,t)::r => .val t::iL r
def u3:(l:mw)->d5 (iL l)
 | []=>()
 | (true,_)::r=>u3 r
 | (false,_)::r=>u3 r
def xc(l:mw):Ct:=⟨iL l,[.val .bool],fun _=>[],fun _=>((true,()),u3 l)⟩
def qj(P:Program)(τ:TypeId):Bool:=match P.underlying τ with
 | some (.struct _)=>true
 | some (.array _ _)=>true
 | _=>false
def yX:CT->Bool
 | .pair _ _=>false
 | _=>true
def yj(P:Program):mw->List TypeId->Bool
 | [],[]=>true
 | (b,t)::r,τ::τs=>(match b,qj P τ with|true,true=>true|false,false=>yX t|_,_=>false)&&jS P 12 t τ&&Nat.beq (P.cellsOf τ) t.size&&yj P r τs
 | _,_=>false
theorem Ws{r:Reach}{b0:Nat}{τ:TypeId}{v:Value}(h:qj P τ=true)(hv:Value.okWide P w r b0 τ v):∃ vs,v = .agg vs/\vs.size=P.cellsOf τ:=by
 unfold qj at h
 unfold Value.okWide at hv
 split at h
 ·rename_i fs hu;rw[hu] at hv;obtain⟨cs,h1,h2,_⟩:=hv;exact⟨cs,h1,h2⟩
 ·rename_i fs hu;rw[hu] at hv;obtain⟨cs,h1,h2,_⟩:=hv;exact⟨cs,h1,h2⟩
 ·cases h
theorem WB{r:Reach}{b0:Nat}{τ:TypeId}{v:Value}(ht:P.underlying τ=some .bool)(h:Value.okWide P w r b0 τ v):∃ b,v = .bool b:=by
 simp only[Value.okWide,ht,Cell.okWide] at h
 cases v <;> simp_all[Cell.ok]
theorem Z2{r:Reach}{b0:Nat}{n:Nat}{t:CT}{τ:TypeId}{v:Value}(hf:yX t=true)(hq:qj P τ=false)(h:jS P n t τ=true)(hv:Value.okWide P w r b0 τ v):v.cells = #[v]:=by
 cases n with
 | zero=>cases h
 | succ n =>
  unfold jS at h
  split at h
  ·rename_i k k' hu;obtain⟨m,rfl⟩:=okWide_int hu hv;rfl
  ·rename_i hu;obtain⟨m,rfl⟩:=WB hu hv;rfl
  ·rename_i hu;obtain⟨m,rfl⟩:=okWide_string hu hv;rfl
  ·rename_i e u hu;obtain⟨a,l,c,rfl⟩:=okWide_slice hu hv;rfl
  ·rename_i t' fs hu;unfold qj at hq;rw[hu] at hq;cases hq
  ·rename_i t' k e hu;unfold qj at hq;rw[hu] at hq;cases hq
  ·cases h
theorem Wx(k:IntKind):i5 k k=true:=by cases k <;> rfl
theorem Wh{t:CT}{xs:List t.D}:fp t t xs=some xs:=by unfold fp;rw[dif_pos rfl]
theorem Bz{h:bd}:∀(t:CT)(d:t.D)(rest:List SV),(gB t (cy t d++rest)).run h=some ((d,rest,[]),[])
 | .int k,d,rest=>by simp only[cy,List.cons_append,List.nil_append,gB,Wx];rfl
 | .bool,d,rest=>rfl
 | .str,d,rest=>rfl
 | .sl t,d,rest=>by simp only[cy,List.cons_append,List.nil_append,gB,Wh];rfl
 | .pair a b,d,rest=>by
  have bindrun:∀{α β:Type}(q:Q α)(f:α->Q β)(x:α)(y:β),q.run h=some (x,[])->(f x).run h=some (y,[])->(q.bind f).run h=some (y,[]):=by
   intro α β q
   induction q with
   | ret a=>intro f x y h1 h2;simp only[Q.run,Option.some.injEq,Prod.mk.injEq] at h1;rw[← h1.1] at h2;exact h2
   | ask n k ih =>
    intro f x y h1 h2
    simp only[Q.run] at h1
    split at h1
    ·simp only[Option.some.injEq,Prod.mk.injEq] at h1
     exact absurd h1.2 (by simp)
    ·cases h1
   | fail=>intro f x y h1 h2;cases h1
  simp only[cy,List.append_assoc,gB]
  refine bindrun _ _ _ _ (Bz a d.1 (cy b d.2++rest)) ?_
  exact bindrun _ _ _ _ (Bz b d.2 rest) rfl
theorem Q.bind_run0{h:bd}{α:Type u}{β:Type v}(q:Q α)(f:α->Q β)(x:α)(y:β)(h1:q.run h=some (x,[]))(h2:(f x).run h=some (y,[])):(q.bind f).run h=some (y,[]):=by
 cases q with
 | ret a=>simp only[Q.run,Option.some.injEq,Prod.mk.injEq] at h1;rw[← h1.1] at h2;exact h2
 | ask n k =>
  simp only[Q.run] at h1
  split at h1
  ·simp only[Option.some.injEq,Prod.mk.injEq] at h1
   exact absurd h1.2 (by simp)
  ·cases h1
 | fail=>cases h1
theorem Rm{t:CT}(hf:yX t=true)(d:t.D):cy t d=[uS t d]:=by
 cases t <;> first|rfl|cases hf
def tB:mw->Bool
 | []=>true
 | (b,t)::r=>(b||yX t)&&tB r
theorem Ga{h:bd}:∀(l:mw)(d:ar (iL l)),tB l=true->(fg none (iL l) (fH (iL l) d 0 0)).run h=some ((d,[],[],[]),[])
 | [],d,_=>rfl
 | (true,t)::r,d,hok=>by
  simp only[tB,Bool.and_eq_true] at hok
  simp only[iL,fH,fg]
  refine Q.bind_run0 _ _ _ _ (by have:=Bz (h:=h) t d.1 [];rw[List.append_nil] at this;exact this) ?_
  exact Q.bind_run0 _ _ _ _ (Ga r d.2 hok.2) rfl
 | (false,t)::r,d,hok=>by
  simp only[tB,Bool.and_eq_true,Bool.false_or] at hok
  simp only[iL,fH,fg]
  refine Q.bind_run0 _ _ _ _ (by have:=Bz (h:=h) t d.1 [];rw[List.append_nil,Rm hok.1] at this;exact this) ?_
  exact Q.bind_run0 _ _ _ _ (Ga r d.2 hok.2) rfl
theorem Hi{r:Reach}{b0:Nat}:∀(l:mw)(τs:List TypeId)(vs:List Value)(ds:List (DataW H))(ps:List MemPlace),yj P l τs=true->DataW.TrodAll enc P w base (fun _=>true) held τs vs ds ps →
  (∀(j:Nat) t v,τs[j]? = some t->vs[j]? = some v->Value.okWide P w r b0 t v)->tB l=true∧∃ d:ar (iL l),aE (fun b=>b<w.heap.size) (fun _=>.un) w (fH (iL l) d 0 0) vs
 | [],[],vs,ds,ps,h,ht,hv=>by
  obtain⟨rfl,_,_⟩:=trodAll_nil ht
  exact⟨rfl,(),by simp[iL,fH,aE]⟩
 | (b,t)::l,τ::τs,vs,ds,ps,h,ht,hv=>by
  obtain⟨v,vs',d,ds',p,q,rfl,rfl,rfl,h0,hr⟩:=trodAll_cons ht
  simp only[yj,Bool.and_eq_true] at h
  obtain⟨⟨⟨h1,h2⟩,h3⟩,h4⟩:=h
  have h3:=Nat.eq_of_beq_eq_true h3
  obtain⟨g1,d2,g2⟩:=Hi l τs vs' ds' q h4 hr (fun j t v ht hv'=>hv (j+1) t v (by simpa using ht) (by simpa using hv'))
  have hv0:=hv 0 τ v rfl rfl
  obtain⟨fuel,hf⟩:=h0
  obtain⟨d1,hd1⟩:=AM 12 t τ fuel _ _ h2 hf
  cases b with
  | true =>
   have hag:qj P τ=true:=by
    cases hq:qj P τ with
    | true=>rfl
    | false=>rw[hq] at h1;cases h1
   obtain⟨us,rfl,hus⟩:=Ws hag hv0
   refine⟨by simp[tB,g1],(d1,d2),?_⟩
   simp only[iL,fH,aE,ai]
   refine⟨_,vs',rfl,⟨us,rfl,A5 (by simpa using hus.trans h3) (by simpa[Value.cells] using hd1)⟩,g2⟩
  | false =>
   have hq:qj P τ=false:=by
    cases hq:qj P τ with
    | true=>rw[hq] at h1;cases h1
    | false=>rfl
   rw[hq] at h1
   simp only at h1
   refine⟨by simp[tB,g1,h1],(d1,d2),?_⟩
   simp only[iL,fH,aE]
   have hc:=Z2 h1 hq h2 hv0
   rw[hc] at hd1
   exact⟨v,vs',rfl,Gu (rest:=[]) (by simpa using hd1),g2⟩
 | [],_::_,_,_,_,h,_,_=>by cases h
 | _::_,[],_,_,_,h,_,_=>by cases h
def GlobsOK(w:World)(G:pz):Prop:=∀ g x,G g=some x->g<w.heap.size/\Rd (fun b=>b<w.heap.size) w x.1 (fun o=>w.cell? ⟨g,o,none⟩) 0 x.2
theorem law_walkG{G:pz}(hG:GlobsOK w G){f:FuncId}{l:mw}(ok:av P G f (xc l).spec){r:Reach}{b0:Nat}{τs:List TypeId}{args:Array Value}{ds:List (DataW H)}{ps:List MemPlace}(hl:yj P l τs=true)
  (ht:DataW.TrodAll enc P w base (fun _=>true) held τs args.toList ds ps) (hv:∀(j:Nat) t v,τs.toArray[j]? = some t->args[j]? = some v->Value.okWide P w r b0 t v) :
  Calls P f args w fun e w'=>e = .returned (.bool true)/\Below w.heap.size w w':=by
 obtain⟨hok,d,hd⟩:=Hi l τs args.toList ds ps hl ht (fun j t v h1 h2=>hv j t v (by simpa using h1) (by simpa using h2))
 have hkeep:sU (iL l) [.val .bool]=false:=by
  have:∀ l:mw,jH (iL l)=true:=by
   intro l
   induction l with
   | nil=>rfl
   | cons x l ih=>obtain⟨b,t⟩:=x;cases b <;> exact ih
  simp only[sU,this,pn,CT.plain,Bool.and_self,Bool.not_true]
 have hbU:∀ nb,d6 0 (iL l) (u3 l) [] nb=[]:=by
  intro nb
  induction l with
  | nil=>rfl
  | cons x l ih =>
   obtain⟨b,t⟩:=x
   have:∀ l:mw,d6 0 (iL l) (u3 l) [] nb=[]:=by
    intro l
    induction l with
    | nil=>rfl
    | cons x l ih=>obtain⟨b,t⟩:=x;cases b <;> exact ih
   cases b <;> exact this l
 have hnU:∀(l:mw) nb,fB (iL l) (u3 l) nb=[]:=by
  intro l nb
  induction l with
  | nil=>rfl
  | cons x l ih=>obtain⟨b,t⟩:=x;cases b <;> exact ih
 have hnB:∀(l:mw),gF (iL l)=0:=by
  intro l
  induction l with
  | nil=>rfl
  | cons x l ih=>obtain⟨b,t⟩:=x;cases b <;> exact ih
 have hrun:((xc l).spec 0 (fH (iL l) d 0 0)).run (fun _=>.un)=some (Dl.det [] (.bool true) [],[]):=by
  unfold Ct.spec
  refine Q.bind_run0 _ _ _ _ (Ga l d hok) ?_
  simp only[uZ,gT,List.append_nil,yE,xR,xc,qi,hkeep,hbU,hnU,hnB,lN,jq,iB,nF,uS,cy,eG,nU,List.headD_nil]
  rfl
 have m:aY w ⟨fun _=>False,fun b=>b<w.heap.size,G⟩ (fun b=>b<w.heap.size) (fun _=>.un) (fun _=>.un) w :=
  ⟨rfl,rfl,rfl,Nat.le_refl _,fun _ _ _=>rfl,fun _ h=>h,fun _=>rfl,fun _ _ _ _ h=>(by cases h),fun _ _ _ _ _ _ _ h=>(by cases h),fun b hb=>.inl hb,hG⟩
 have:=ok 0 (fH (iL l) d 0 0) (fun _=>.un) _ _ hrun trivial w _ _ _ w args.toList rfl m hd
 refine Calls.mono this ?_
 rintro e w' ⟨v,rfl,x,A',env',_,hm,_,hden⟩
 simp only[Dl.val,ai] at hden
 exact⟨by rw[hden],hm.os,hm.tape,hm.output,hm.size,fun k hk=>hm.fr k hk (fun h=>h)⟩
theorem law_walk{f:FuncId}{l:mw}(ok:av P (fun _=>none) f (xc l).spec){r:Reach}{b0:Nat}{τs:List TypeId}{args:Array Value}{ds:List (DataW H)}{ps:List MemPlace}(hl:yj P l τs=true)
  (ht:DataW.TrodAll enc P w base (fun _=>true) held τs args.toList ds ps) (hv:∀(j:Nat) t v,τs.toArray[j]? = some t->args[j]? = some v->Value.okWide P w r b0 t v) :
  Calls P f args w fun e w'=>e = .returned (.bool true)/\Below w.heap.size w w':=law_walkG (fun g x h=>by cases h) ok hl ht hv
def Df(P:Program):List TypeId->Bool
 | []=>true
 | t::r=>P.readableRec t&&decide (t<P.types.size)&&Df P r
theorem trodAll_below(hl:laidOutB P=true):∀{τs:List TypeId}{vs:List Value}{ds:List (DataW H)}{ps:List MemPlace}{w':World},Df P τs=true →
  DataW.TrodAll enc P w 0 (fun _=>true) true τs vs ds ps->Below w.heap.size w w'→DataW.TrodAll enc P w' 0 (fun b=>decide (b<w.heap.size)) true τs vs ds ps
 | [],vs,ds,ps,w',_,h,hb=>by
  obtain⟨rfl,rfl,rfl⟩:=trodAll_nil h
  exact trodAll_mk0
 | τ::τs,vs,ds,ps,w',hr,h,hb=>by
  obtain⟨v,vs',d,ds',p,q,rfl,rfl,rfl,h0,hr'⟩:=trodAll_cons h
  simp only[Df,Bool.and_eq_true,decide_eq_true_eq] at hr
  have lt:∀ x∈p,x.block<w.heap.size:=by
   obtain⟨m,hm⟩:=h0
   exact DataW.trod_lt m _ _ _ hm
  exact trodAll_cons_mk (Below.trod hl hr.1.1 hr.1.2 h0 hb lt) (trodAll_below hl hr.2 hr' hb)
end
end Go.SX

/- SX, part 24: what is to be shown of a function, under one name. -/
namespace Go.SX
set_option linter.unusedVariables false
def Am(fn:Func):Code:=match fn.body with
 | some c=>c
 | none => .skip
def Ct.vc(P:Program)(sp:dS)(c:Ct)(fn:Func)(an:ar c.ps->ay):Prop :=
 ug c.ps fun d=>tq c.ps d->oq (c.pre d)->rB (t5 c.ps d fn.ntmps) (sx P sp (an d) (Am fn) (u5 P c.ps c.rs fn.results.toList fun y=>oq (tJ c.rs y.1 (c.out d).1++md c.ps y.2 (c.out d).2)))
structure G2 (p:Prop):Prop where
 out:p
theorem aB{p q:Prop}(h:p=q)(v:q):G2 p:=⟨Eq.mpr h v⟩
theorem Ct.okH{P:Program}{sp:dS}(c:Ct){f:FuncId}{fn:Func}(hf:P.funcs[f]? = some fn)(hb:fn.body=some (Am fn))(hs:i9 P sp)(au:P.follows .mixedOrders=true)(an:ar c.ps->ay)
  (vc:G2 (Ct.vc P sp c fn an)):av P sp.gl f c.spec:=c.ok hf hb hs au an vc.out
def Cn.vc(P:Program)(sp:dS)(c:Cn)(fn:Func)(an:ar c.ps->ay):Prop :=
 ug c.ps fun d=>tq c.ps d->oq (c.pre d)->rB (t5 c.ps d fn.ntmps) (sx P sp (an d) (Am fn) (u5 P c.ps c.rs fn.results.toList (c.post d)))
theorem Cn.okH{P:Program}{sp:dS}(c:Cn){f:FuncId}{fn:Func}(hf:P.funcs[f]? = some fn)(hb:fn.body=some (Am fn))(hs:i9 P sp)(au:P.follows .mixedOrders=true)(an:ar c.ps->ay)
  (vc:G2 (Cn.vc P sp c fn an)):av P sp.gl f c.spec:=c.ok hf hb hs au an vc.out
def Ua(G:pz):dS:=⟨fun _=>none,G⟩
theorem aA{P:Program}{G:pz}:i9 P (Ua G):=fun f s h=>by cases h
def BN(sp:dS)(f:FuncId)(s:Spec):dS:=⟨fun g=>match Nat.beq g f with
 | true=>some s
 | false=>sp.fn g,sp.gl⟩
theorem ah{P:Program}{sp:dS}{f:FuncId}{s:Spec}(h:i9 P sp)(hs:av P sp.gl f s):i9 P (BN sp f s):=fun g t e=>by
 unfold BN at e
 simp only at e
 split at e
 ·rename_i hb;cases e;rw[Nat.eq_of_beq_eq_true hb];exact hs
 ·exact h g t e
def Rv(sp:dS)(d:Nat):dS:=BN sp (4000000000+d) fun _ _=>.fail
theorem Gl{P:Program}{sp:dS}{d:Nat}(h:i9 P sp):i9 P (Rv sp d):=ah h fun _ _ _ _ _ e=>by cases e
def ae5(sp:dS)(d:Nat):dS:=BN sp (4100000000+d) fun _ _=>.fail
theorem Td{P:Program}{sp:dS}{d:Nat}(h:i9 P sp):i9 P (ae5 sp d):=ah h fun _ _ _ _ _ e=>by cases e
theorem YQ{b:Bool}{y n:Prop}:ad b y n↔(b=true->y)/\(b=false->n):=by cases b <;> simp[ad]
end Go.SX

/- SX, plain lemmas for what is to be shown of functions. -/
namespace Go.SX
set_option linter.unusedVariables false
theorem af{n:Int}(h : -9223372036854775808<=n)(h':n<=9223372036854775807):IntKind.i64.wrap n=n:=IntWalk.i64_in n ⟨h,h'⟩
theorem pR{n:Int}(h:0<=n)(h':n<=4294967295):IntKind.u32.wrap n=n:=IntWalk.u32_in n ⟨h,h'⟩
theorem K1{n:Int}(h:0<=n)(h':n<=18446744073709551615):IntKind.u64.wrap n=n:=IntWalk.u64_in n ⟨h,h'⟩
theorem SU{y n:Prop}:ad true y n↔y:=Iff.rfl
theorem Dt{y n:Prop}:ad false y n↔n:=Iff.rfl
theorem bL{α:Type} [Inhabited α] {xs:List α} {i:Int} (h0:0<=i) (h1:i<xs.length):xs.getD i.toNat default∈xs:=by
 have h:i.toNat<xs.length:=by omega
 rw[List.getD_eq_getElem?_getD,List.getElem?_eq_getElem h];exact List.getElem_mem h
theorem sN{a b:Int}(ha:0<=a):0<=a.tmod b:=Int.tmod_nonneg b ha
theorem sf{a b:Int}(ha:0<=a)(hb:0<b):a.tmod b<b:=Int.tmod_lt_of_pos a hb
theorem ae{b:Bool}{y n:Prop}(hy:b=true->y)(hn:b=false->n):ad b y n:=YQ.2 ⟨hy,hn⟩
theorem MB(n:Int) : -9223372036854775808<=IntKind.i64.wrap n/\IntKind.i64.wrap n<=9223372036854775807:=IntKind.wrap_has .i64 n
theorem H4(n:Int):0<=IntKind.u8.wrap n/\IntKind.u8.wrap n<=255:=IntKind.wrap_has .u8 n
theorem H0(n:Int):0<=IntKind.u32.wrap n/\IntKind.u32.wrap n<=4294967295:=IntKind.wrap_has .u32 n
theorem Jq{α:Type} [Inhabited α] {p:α->Prop} {xs:List α} (h:∀ x∈xs,p x) {i:Int} (h0:0<=i) (h1:i<xs.length):p (xs.getD i.toNat default):=h _ (bL h0 h1)
theorem fY{p:Prop} [Decidable p] (h:(!decide p)=true):¬ p:=of_decide_eq_false (by simpa only[Bool.not_eq_true'] using h)
theorem gz{p:Prop} [Decidable p] (h:(!decide p)=false):p:=of_decide_eq_true (by simpa only[Bool.not_eq_false'] using h)
theorem p8{a b:Bool}{y n:Prop}(hy:a=true∨b=true->y)(hn:a=false->b=false->n):ad (bif a then true else b) y n:=by
 cases a with
 | true=>exact hy (.inl rfl)
 | false=>cases b with
  | true=>exact hy (.inr rfl)
  | false=>exact hn rfl rfl
theorem su{a b:Bool}{y n:Prop}(hy:a=true->b=true->y)(hn:a=false∨b=false->n):ad (bif a then b else false) y n:=by
 cases a with
 | false=>exact hn (.inl rfl)
 | true=>cases b with
  | true=>exact hy rfl rfl
  | false=>exact hn (.inr rfl)
theorem iw{α:Type} [Inhabited α] {l:List α} {i:Nat} {a:α} (h:i<l.length):(l.set i a).getD i default=a:=by
 rw[List.getD_eq_getElem?_getD,List.getElem?_set_self h];rfl
theorem BM{α:Type} [Inhabited α] {q:α->Bool} {l:List α} {j:Int} (h0:0<=j) (h1:j<l.length) (h2:∀ x∈l.take j.toNat,q x=false) (h3:q (l.getD j.toNat default)=true) :
  j=if l.findIdx q<l.length then (l.findIdx q:Int) else -1:=by
 have hj:j.toNat<l.length:=by omega
 rw[List.getD_eq_getElem?_getD,List.getElem?_eq_getElem hj,Option.getD_some] at h3
 have e:l.findIdx q=j.toNat:=(List.findIdx_eq hj).2 ⟨h3,fun k hk=>h2 _ (List.mem_take_iff_getElem.2 ⟨k,by omega,rfl⟩)⟩
 rw[e,if_pos hj];omega
theorem DA{α:Type} [Inhabited α] {q:α->Bool} {l:List α} {j:Int} (h1:¬ j<l.length) (h2:∀ x∈l.take j.toNat,q x=false) :
  (-1:Int)=if l.findIdx q<l.length then (l.findIdx q:Int) else -1:=by
 rw[List.take_of_length_le (by omega)] at h2
 rw[List.findIdx_eq_length_of_false h2,if_neg (Nat.lt_irrefl _)]
theorem rM{α:Type} [Inhabited α] {P:α->Prop} {l:List α} {j:Int} (h0:0<=j) (h1:j<l.length) (h2:∀ x∈l.take j.toNat,P x) (h3:P (l.getD j.toNat default)) :
  ∀ x∈l.take (j+1).toNat,P x:=by
 intro x hx
 have hj:j.toNat<l.length:=by omega
 rw[show (j+1).toNat=j.toNat+1 by omega,List.take_add_one,List.getElem?_eq_getElem hj] at hx
 rw[List.getD_eq_getElem?_getD,List.getElem?_eq_getElem hj,Option.getD_some] at h3
 rcases List.mem_append.1 hx with hx|hx
 ·exact h2 x hx
 ·simp at hx;rw[hx];exact h3
theorem mb{α:Type} [Inhabited α] {l:List α} {k:Int} (h0:0<=k) (h1:k<l.length):l.take (k+1).toNat=l.take k.toNat++[l.getD k.toNat default]:=by
 have e:(k+1).toNat=k.toNat+1:=by omega
 have hk:k.toNat<l.length:=by omega
 rw[e,List.take_add_one,List.getElem?_eq_getElem hk,List.getD_eq_getElem?_getD,List.getElem?_eq_getElem hk]
 rfl
theorem Fa{a b:Prop} [Decidable a] [Decidable b]:(bif decide a then true else decide b)=decide (a∨b):=by by_cases h:a <;> simp[h]
theorem D9{a b:Prop} [Decidable a] [Decidable b]:(bif decide a then decide b else false)=decide (a/\b):=by by_cases h:a <;> simp[h]
theorem P9{a b:Prop} [Decidable a] [Decidable b]:(bif !decide a then !decide b else false)=decide (¬ a∧¬ b):=by by_cases h:a <;> simp[h]
end Go.SX

/- Base: data types of the program's values. -/
namespace Go.RS
open Go.SX Go.Proofs
set_option maxRecDepth 100000
set_option linter.unusedVariables false
abbrev ab(x:Int):Prop := -9223372036854775808<=x/\x<=9223372036854775807
abbrev rK:CT := .pair (.pair (.int .u32) (.int .i64)) (.int .i64)
abbrev cBlocks:CT := .pair rK (.pair rK (.pair rK (.pair rK (.pair rK (.pair rK (.pair rK rK))))))
def blocksV:cBlocks.D:=(((0,8),1),((2130706432,8),2),((167772160,8),3),((2886729728,12),3),((3232235520,16),3),((2851995648,16),4),((3758096384,4),5),((4026531840,4),6))
def GL:pz:=(fun n=>match n with|0=>some ⟨cBlocks,blocksV⟩|_=>none)
theorem au:Tryz.prog.follows .mixedOrders=true:=Tryz.checked.mixed
abbrev cI:CT := .int .i64
abbrev bm:CT := .int .u8
abbrev ck:CT := .int .u32
abbrev CA:CT := .int .u64
abbrev f6:CT := .pair (.sl bm) cI
abbrev wG:CT := .pair cI cI
abbrev r6:CT := .pair cI cI
abbrev Gg:CT := .pair ck (.pair ck (.pair cI (.pair cI cI)))
def az(c:List Int×Int):Prop:=0<=c.2/\c.2<=c.1.length
end Go.RS

/- Draw: the choices of a law, with loose contracts: a number in its range. -/
namespace Go.RS
open Go.SX Go.Proofs
set_option maxRecDepth 100000
set_option linter.unusedVariables false
def Nz:Ct:=⟨[.val (.sl bm),.val cI],[.box 109 f6],fun d=>[0<=d.2.1],fun d=>(((if (d.1.length:Int)<=d.2.1 then d.1 else d.1.take d.2.1.toNat,0),()),())⟩
def Wn:ar Nz.ps->ay:=(fun _=>{})
theorem Qm :
 ∀(a:List Int)(b:Int),(a.length<=maxLen/\ ∀(c:Int),c∈a->0<=c/\c<=255)/\ab b/\True->0<=b->ad (decide (b< ↑a.length)) ((0:Int)<=0/\0<=b/\b<= ↑a.length/\(ce a (Int.toNat (0:Int)) b.toNat,(0:Int))=(if↑a.length<=b then a else List.take b.toNat a,(0:Int))) ((a,(0:Int))=(if↑a.length<=b then a else List.take b.toNat a,(0:Int))):=by
  rintro x y ⟨-,⟨h0,h1⟩,-⟩ h
  refine ae (fun hb=>?_) (fun hb=>?_)
  ·have hb:=of_decide_eq_true hb
   refine⟨by omega,h,by omega,?_⟩
   rw[if_neg (by omega)]
   simp[ce]
  ·have hb:=of_decide_eq_false hb
   rw[if_pos (by omega)]
theorem am2:av Tryz.prog GL 9 Nz.spec:=Ct.okH _ Tryz.func9 (by kernel_rfl) aA au Wn (aB (by kernel_rfl) Qm)
def J9:Cn:=⟨[.box 109 f6,.val cI],[.val cI],fun d=>[az d.1,d.2.1<=256],fun d y=>0<=y.1.1/\(y.1.1<d.2.1∨y.1.1=0)/\az y.2.1,fun d h=>⟨((0,()),(d.1,())),by simp,by simp,h.1⟩⟩
def Wr:ar J9.ps->ay:=(fun _=>{})
def Bf(a:List Int)(b c:Int) :=
 c≠(0:Int)/\0<=Int.tmod (IntKind.wrap .i64 (a.getD b.toNat default)) c/\(Int.tmod (IntKind.wrap .i64 (a.getD b.toNat default)) c<c∨Int.tmod (IntKind.wrap .i64 (a.getD b.toNat default)) c=0)/\az (a,IntKind.wrap .i64 (b+(1:Int)))
theorem aA0 :
 ∀(a:List Int)(b c:Int),((a.length<=maxLen/\ ∀(d:Int),d∈a->0<=d/\d<=255)/\ab b)/\ab c/\True->az (a,b)/\c<=256-> ∀(d:Bool),d=decide (a.length<=b)->((! d)->((! d)->(! d))/\True)/\(d=false->(! d))/\ad (bif d then true else decide (c<1)) ((0:Int)<=0/\(0<c∨(0:Int)=0)/\az (a,b)) (0<=b/\b< ↑a.length/\ad (decide (256<c)) False (Bf a b c)):=by
  delta Bf
  rintro l p n ⟨⟨⟨hl,hw⟩,h0,h1⟩,⟨h2,h3⟩,-⟩⟨⟨hc1,hc2⟩,hn⟩
  simp only[maxLen] at hl hc1 hc2
  (repeat (intro (b_:Bool) (hb_:b_=_);(repeat refine⟨(by first|(simp;done)|(rw[hb_];simp;done)|(rw[hb_];simp;omega)|(rw[hb_];simp;intros;omega)|(rw[hb_];simp +contextual;done)),?_⟩);subst hb_))
  refine ae (fun hb=>?_) (fun hb=>?_)
  ·exact⟨by omega,by simp,hc1,hc2⟩
  ·simp at hb
   obtain⟨hb1,hb2⟩:=hb
   obtain⟨hm0,hm1⟩:=hw _ (bL hc1 hb1)
   rw[af (by omega) (by omega),af (by omega) (by omega)]
   refine⟨hc1,hb1,ae (fun hb=>?_) (fun hb=>?_)⟩
   ·have:=of_decide_eq_true hb;omega
   ·exact⟨by omega,sN hm0,.inl (sf hm0 (by omega)),by simp only[az];omega⟩
theorem Ye:av Tryz.prog GL 11 J9.spec:=Cn.okH _ Tryz.func11 (by kernel_rfl) aA au Wr (aB (by kernel_rfl) aA0)
def HQ:Cn:=⟨[.box 109 f6,.val cI],[.val cI],fun d=>[az d.1],fun d y=>0<=y.1.1/\(y.1.1<d.2.1∨y.1.1=0)/\az y.2.1,fun d h=>⟨((0,()),(d.1,())),by simp,by simp,h.1⟩⟩
def Y3:ar HQ.ps->ay:=(fun _=>{})
def zH(a:List Int)(b e:Int) :=
 IntKind.wrap .i64 (IntKind.wrap .i64 ((256:Int)*IntKind.wrap .i64 (a.getD b.toNat default))+e)
theorem Y2 :
 ∀(a:List Int)(b c:Int),((a.length<=maxLen/\ ∀(d:Int),d∈a->0<=d/\d<=255)/\ab b)/\ab c/\True->0<=b/\b<= ↑a.length-> ∀(d:Bool),d=decide (a.length<=b)->((! d)->((! d)->(! d))/\True)/\(d=false->(! d))/\ad (bif d then true else decide (c<1)) ((0:Int)<=0/\(0<c∨(0:Int)=0)/\az (a,b)) (0<=b/\b< ↑a.length/\ad (decide (256<c)) (az (a,IntKind.wrap .i64 (b+(1:Int)))/\(256:Int)<=256/\ ∀(e:Int)(f:List Int)(g:Int),0<=e/\(e<256∨e=0)/\az (f,g)->c≠(0:Int)/\0<=Int.tmod (zH a b e) c/\(Int.tmod (zH a b e) c<c∨Int.tmod (zH a b e) c=0)/\az (f,g)) (Bf a b c)):=by
  delta Bf zH
  rintro l p n ⟨⟨⟨hl,hw⟩,h0,h1⟩,⟨h2,h3⟩,-⟩⟨hc1,hc2⟩
  simp only[maxLen] at hl hc1 hc2
  (repeat (intro (b_:Bool) (hb_:b_=_);(repeat refine⟨(by first|(simp;done)|(rw[hb_];simp;done)|(rw[hb_];simp;omega)|(rw[hb_];simp;intros;omega)|(rw[hb_];simp +contextual;done)),?_⟩);subst hb_))
  refine ae (fun hb=>?_) (fun hb=>?_)
  ·exact⟨by omega,by simp,hc1,hc2⟩
  ·simp at hb
   obtain⟨hb1,hb2⟩:=hb
   obtain⟨hm0,hm1⟩:=hw _ (bL hc1 hb1)
   rw[af (by omega) (by omega),af (n:=l.getD p.toNat default) (by omega) (by omega)]
   refine⟨hc1,hb1,ae (fun hb=>?_) (fun hb=>?_)⟩
   ·refine⟨by simp only[az];omega,by omega,?_⟩
    rintro r l2 p2 ⟨hr0,hr1,hr2⟩
    rw[af (n:=256*_) (by omega) (by omega),af (by omega) (by omega)]
    exact⟨by omega,sN (by omega),.inl (sf (by omega) (by omega)),hr2⟩
   ·exact⟨by omega,sN hm0,.inl (sf hm0 (by omega)),by simp only[az];omega⟩
theorem qU:av Tryz.prog GL 11 HQ.spec:=Cn.okH _ Tryz.func11 (by kernel_rfl) (ah aA Ye) au Y3 (aB (by kernel_rfl) Y2)
end Go.RS

/- Mix: the mixing of 64 bits: what it is, and that it is one to one. -/
namespace Go.RS
open Go.SX
set_option linter.unusedVariables false
def xs(k a:Nat):Nat:=a ^^^ a/2^k
def mu(c a:Nat):Nat:=a*c%18446744073709551616
def yT(x:Nat):Nat:=xs 31 (mu 10723151780598845931 (xs 27 (mu 13787848793156543929 (xs 30 ((x+11400714819323198485)%18446744073709551616)))))
def ky(x:Int):Int:=(yT x.toNat:Int)
theorem WD{k a:Nat}(ha:a<18446744073709551616):xs k a<18446744073709551616:=by
 have h1:a<2^64:=by omega
 have h2:a/2^k<2^64:=Nat.lt_of_le_of_lt (Nat.div_le_self _ _) h1
 have h3:a ^^^ a/2^k<2^64:=Nat.xor_lt_two_pow h1 h2
 unfold xs
 omega
theorem Ez{c a:Nat}:mu c a<18446744073709551616:=by unfold mu;omega
theorem ap7(x:Nat):yT x<18446744073709551616:=by
 unfold yT
 exact WD Ez
theorem LW(x:Int):0<=ky x/\ky x<=18446744073709551615:=by
 have:=ap7 x.toNat
 unfold ky
 omega
theorem C2(n:Nat):IntKind.u64.wrap (n:Int)=((n%18446744073709551616:Nat):Int):=by
 rw[IntKind.wrap_u64,Int.natCast_emod]
 rfl
theorem WU(n k:Nat)(hk:k<=64):cU .u64 (n:Int) (k:Int)=((n/2^k:Nat):Int):=by
 unfold cU
 have:min (k:Int).toNat IntKind.u64.bits=k:=by simp only[IntKind.bits,Int.toNat_natCast];omega
 rw[this,Int.fdiv_eq_ediv_of_nonneg _ (Int.le_of_lt (Int.pow_pos (by decide))),Int.natCast_ediv,Int.natCast_pow]
 rfl
theorem Dq(n k:Nat)(hk:k<=64)(hn:n<18446744073709551616):bits .xor .u64 (n:Int) (cU .u64 (n:Int) (k:Int))=(xs k n:Int):=by
 rw[WU n k hk]
 exact bits_xor_u64_nat _ _ hn (Nat.lt_of_le_of_lt (Nat.div_le_self _ _) hn)
theorem Pc(n c:Nat):IntKind.u64.wrap ((n:Int)*(c:Int))=(mu c n:Int):=by
 rw[← Int.natCast_mul,C2];rfl
end Go.RS

/- Balance: mixing, hashing, choosing; the law's draws. -/
namespace Go.RS
open Go.SX Go.Proofs
set_option maxRecDepth 100000
set_option linter.unusedVariables false
def Jx:Cn:=⟨[.box 109 f6],[.val cI],fun d=>[az d.1],fun d y=>az y.2.1 ∧ -9223372036854775808<=y.1.1/\y.1.1<=9223372036854775807,fun d h=>⟨((0,()),(d.1,())),h.1,by simp,by simp⟩⟩
def Xa:ar Jx.ps->ay:=(fun _=>{})
theorem ae0 :
 ∀(a:List Int)(b:Int),((a.length<=maxLen/\ ∀(c:Int),c∈a->0<=c/\c<=255)/\ab b)/\True->0<=b/\b<= ↑a.length->az (a,b)/\ ∀(c:Int)(d:List Int)(e:Int),0<=c/\(c<10∨c=0)/\az (d,e)->ad (decide (c=0)) (az (d,e)/\ ∀(f:Int)(g:List Int)(h:Int),0<=f/\(f<3∨f=0)/\az (g,h)->az (g,h)/\ -9223372036854775808<=IntKind.wrap .i64 ((-1:Int) -f)/\IntKind.wrap .i64 ((-1:Int) -f)<=9223372036854775807) (ad (decide (c=1)) (az (d,e)/\ ∀(f:Int)(g:List Int)(h:Int),0<=f/\(f<14∨f=0)/\az (g,h)->0<=f/\f< ↑(List.length [(9223372036854775807:Int),(-9223372036854775808:Int),(1125899906842624:Int),(1125899906842625:Int),(65535:Int),(65536:Int),(255:Int),(256:Int),(1023:Int),(1024:Int),(65534:Int),(65535:Int),(4294967296:Int),(4611686018427387905:Int)])/\az (g,h)/\ -9223372036854775808<=List.getD
 [(9223372036854775807:Int),(-9223372036854775808:Int),(1125899906842624:Int),(1125899906842625:Int),(65535:Int),(65536:Int),(255:Int),(256:Int),(1023:Int),(1024:Int),(65534:Int),(65535:Int),(4294967296:Int),(4611686018427387905:Int)] f.toNat default/\List.getD [(9223372036854775807:Int),(-9223372036854775808:Int),(1125899906842624:Int),(1125899906842625:Int),(65535:Int),(65536:Int),(255:Int),(256:Int),(1023:Int),(1024:Int),(65534:Int),(65535:Int),(4294967296:Int),(4611686018427387905:Int)] f.toNat default<=9223372036854775807) (ad (decide (c=2)) (az (d,e)/\ ∀(f:Int)(g:List Int)(h:Int),0<=f/\(f<256∨f=0)/\az (g,h)->az (g,h)/\ ∀(i:Int)(j:List Int)(k:Int),0<=i/\(i<256∨i=0)/\az (j,k)->az (j,k)/\ -9223372036854775808<=IntKind.wrap .i64 (IntKind.wrap .i64 ((256:Int)*f)+i)/\IntKind.wrap .i64 (IntKind.wrap .i64 ((256:Int)*f)+i)<=9223372036854775807) (az (d,e)/\ ∀(f:Int)(g:List Int)
 (h:Int),0<=f/\(f<40∨f=0)/\az (g,h)->az (g,h)/\ab f))):=by
  rintro l p-h
  refine⟨h,?_⟩
  rintro r l2 p2 ⟨h1,h2,h3⟩
  refine ae (fun hb=>⟨h3,?_⟩) (fun hb=>ae (fun hb=>⟨h3,?_⟩) (fun hb=>ae (fun hb=>⟨h3,?_⟩) (fun hb=>⟨h3,?_⟩)))
  ·rintro a l4 p4 ⟨h4,h5,h6⟩
   exact⟨h6,MB _⟩
  ·rintro a l4 p4 ⟨h4,h5,h6⟩
   refine⟨h4,by simp;omega,h6,?_⟩
   exact Jq (p:=fun v => -9223372036854775808<=v/\v<=9223372036854775807) (by simp) h4 (by simp;omega)
  ·rintro a l4 p4 ⟨h4,h5,h6⟩
   refine⟨h6,?_⟩
   rintro a l4 p4 ⟨h4,h5,h6⟩
   exact⟨h6,MB _⟩
  ·rintro a l4 p4 ⟨h4,h5,h6⟩
   exact⟨h6,by omega,by omega⟩
theorem TM:av Tryz.prog GL 52 Jx.spec:=Cn.okH _ Tryz.func52 (by kernel_rfl) (ah aA qU) au Xa (aB (by kernel_rfl) ae0)
def Je:Cn:=⟨[.box 109 f6],[.val ck],fun d=>[az d.1],fun d y=>az y.2.1/\0<=y.1.1/\y.1.1<=4294967295,fun d h=>⟨((0,()),(d.1,())),h.1,by simp,by simp⟩⟩
def YU:ar Je.ps->ay:=(fun _=>{})
def EQ(f i:Int) :=
 IntKind.wrap .i64 (IntKind.wrap .i64 ((167772160:Int)+dm IntKind.i64 f (16:Int))+i)
theorem V8 :
 ∀(a:List Int)(b:Int),((a.length<=maxLen/\ ∀(c:Int),c∈a->0<=c/\c<=255)/\ab b)/\True->0<=b/\b<= ↑a.length->az (a,b)/\ ∀(c:Int)(d:List Int)(e:Int),0<=c/\(c<12∨c=0)/\az (d,e)->ad (decide (c=11)) (az (d,e)/\ ∀(f:Int)(g:List Int)(h:Int),0<=f/\(f<65536∨f=0)/\az (g,h)->(0:Int)<=16/\az (g,h)/\ ∀(i:Int)(j:List Int)(k:Int),0<=i/\(i<65536∨i=0)/\az (j,k)->az (j,k)/\0<=IntKind.wrap .u32 (IntKind.wrap .i64 (dm IntKind.i64 f (16:Int)+i))/\IntKind.wrap .u32 (IntKind.wrap .i64 (dm IntKind.i64 f (16:Int)+i))<=4294967295) (az (d,e)/\ ∀(f:Int)(g:List Int)(h:Int),0<=f/\(f<3∨f=0)/\az (g,h)->(0:Int)<=16/\az (g,h)/\ ∀(i:Int)(j:List Int)(k:Int),0<=i/\(i<8∨i=0)/\az (j,k)->az (j,k)/\0<=IntKind.wrap .u32 (EQ f i)/\IntKind.wrap .u32 (EQ f i)<=4294967295):=by
  delta EQ
  rintro l p-h
  refine⟨h,?_⟩
  rintro r l2 p2 ⟨h1,h2,h3⟩
  refine ae (fun hb=>⟨h3,?_⟩) (fun hb=>⟨h3,?_⟩)
  ·rintro a l4 p4 ⟨h4,h5,h6⟩
   refine⟨by omega,h6,?_⟩
   rintro a l4 p4 ⟨h4,h5,h6⟩
   exact⟨h6,H0 _⟩
  ·rintro a l4 p4 ⟨h4,h5,h6⟩
   refine⟨by omega,h6,?_⟩
   rintro a l4 p4 ⟨h4,h5,h6⟩
   exact⟨h6,H0 _⟩
theorem LH:av Tryz.prog GL 53 Je.spec:=Cn.okH _ Tryz.func53 (by kernel_rfl) (ah aA qU) au YU (aB (by kernel_rfl) V8)
def MA:Cn:=⟨[.box 109 f6],[.val cI],fun d=>[az d.1],fun d y=>az y.2.1/\(y.1.1=17∨y.1.1=1∨y.1.1=6),fun d h=>⟨((1,()),(d.1,())),h.1,by simp⟩⟩
def Sy:ar MA.ps->ay:=(fun _=>{})
theorem az7 :
 ∀(a:List Int)(b:Int),((a.length<=maxLen/\ ∀(c:Int),c∈a->0<=c/\c<=255)/\ab b)/\True->0<=b/\b<= ↑a.length->az (a,b)/\ ∀(c:Int)(d:List Int)(e:Int),0<=c/\(c<3∨c=0)/\az (d,e)->0<=c/\c< ↑(List.length [(17:Int),(1:Int),(6:Int)])/\az (d,e)/\(List.getD [(17:Int),(1:Int),(6:Int)] c.toNat default=17∨List.getD [(17:Int),(1:Int),(6:Int)] c.toNat default=1∨List.getD [(17:Int),(1:Int),(6:Int)] c.toNat default=6):=by
  rintro l p-h
  refine⟨h,?_⟩
  rintro r l2 p2 ⟨h1,h2,h3⟩
  refine⟨h1,by simp;omega,h3,?_⟩
  exact Jq (p:=fun v=>v=17∨v=1∨v=6) (by simp) h1 (by simp;omega)
theorem JD:av Tryz.prog GL 76 MA.spec:=Cn.okH _ Tryz.func76 (by kernel_rfl) (ah aA qU) au Sy (aB (by kernel_rfl) az7)
def G9:Ct:=⟨[.val CA],[.val CA],fun _=>[],fun d=>((ky d.1,()),())⟩
def Wg:ar G9.ps->ay:=(fun _=>{})
def CE(a:Int) :=
 IntKind.wrap .u64 (bits BinOp.xor IntKind.u64 (IntKind.wrap .u64 (a+(11400714819323198485:Int))) (cU IntKind.u64 (IntKind.wrap .u64 (a+(11400714819323198485:Int))) (30:Int))*(13787848793156543929:Int))
def GD(a:Int) :=
 IntKind.wrap .u64 (bits BinOp.xor IntKind.u64 (CE a) (cU IntKind.u64 (CE a) (27:Int))*(10723151780598845931:Int))
theorem V4 :
 ∀(a:Int),(0<=a/\a<=18446744073709551615)/\True->True->(0:Int)<=30/\(0:Int)<=27/\(0:Int)<=31/\bits BinOp.xor IntKind.u64 (GD a) (cU IntKind.u64 (GD a) (31:Int))=ky a:=by
  delta CE GD
  rintro x ⟨⟨h0,h1⟩,-⟩ -
  refine⟨by decide,by decide,by decide,?_⟩
  have h0:0<=x:=h0
  obtain⟨n,rfl⟩:=Int.eq_ofNat_of_zero_le h0
  have e0:IntKind.u64.wrap ((n:Int)+11400714819323198485)=(((n+11400714819323198485)%18446744073709551616:Nat):Int):=C2 (n+11400714819323198485)
  have hm:(n+11400714819323198485)%18446744073709551616<18446744073709551616:=by omega
  have e1:=Dq _ 30 (by decide) hm
  have e2:=Pc (xs 30 ((n+11400714819323198485)%18446744073709551616)) 13787848793156543929
  have e3:=Dq _ 27 (by decide) (Ez (c:=13787848793156543929) (a:=xs 30 ((n+11400714819323198485)%18446744073709551616)))
  have e4:=Pc (xs 27 (mu 13787848793156543929 (xs 30 ((n+11400714819323198485)%18446744073709551616)))) 10723151780598845931
  have e5:=Dq _ 31 (by decide) (Ez (c:=10723151780598845931) (a:=xs 27 (mu 13787848793156543929 (xs 30 ((n+11400714819323198485)%18446744073709551616)))))
  have c1:((30:Nat):Int)=30:=rfl
  have c2:((27:Nat):Int)=27:=rfl
  have c3:((31:Nat):Int)=31:=rfl
  have c4:((13787848793156543929:Nat):Int)=13787848793156543929:=rfl
  have c5:((10723151780598845931:Nat):Int)=10723151780598845931:=rfl
  rw[c1] at e1
  rw[c4] at e2
  rw[c2] at e3
  rw[c5] at e4
  rw[c3] at e5
  rw[e0,e1,e2,e3,e4,e5]
  unfold ky yT
  rw[Int.toNat_natCast]
theorem Ii:av Tryz.prog GL 168 G9.spec:=Ct.okH _ Tryz.func168 (by kernel_rfl) aA au Wg (aB (by kernel_rfl) V4)
abbrev mL:Type:=Int×Int×Int×Int×Int
def wh(h x:Int):Int:=ky (bits .xor .u64 h (IntKind.wrap .u64 x))
def lU(seed:Int)(k:mL):Int:=wh (wh (wh (wh (wh (ky (IntKind.wrap .u64 seed)) k.1) k.2.1) k.2.2.1) k.2.2.2.1) k.2.2.2.2
theorem xX(s:Int)(k:mL):0<=lU s k/\lU s k<=18446744073709551615:=LW _
def yQ(seed:Int)(k:mL)(j:Int):Int:=([k.1,k.2.1,k.2.2.1,k.2.2.2.1,k.2.2.2.2].take j.toNat).foldl wh (ky (IntKind.wrap .u64 seed))
def Pt:Ct:=⟨[.val cI,.agg Gg],[.val CA],fun _=>[],fun d=>((lU d.1 d.2.1,()),())⟩
def an6:ar Pt.ps->ay:=(fun d=>{loops:=(fun n=>match n with|3=>some (fun S=>{ι:=Int×Int,qn:=⟨fun k_=>∀(j:Int)(h:Int),k_ (j,h),fun k_ h_ i=>h_ i.1 i.2,fun k_=>∃ (j:Int) (h:Int),k_ (j,h),fun k_ ⟨j,h,h_⟩=>⟨_,h_⟩⟩,μ:=fun i=>(5-i.1).toNat,inv:=fun i=>0<=i.1/\i.1<=5/\i.2=yQ d.1 d.2.1 i.1,keep:=[23],slots:=fun i=>[(5,.int .u64 i.2),(24,.int .i64 i.1)],names:=fun i=>[]})|_=>none)})
theorem QD :
 ∀(x x_1 x_2 x_3 x_4 x_5:Int),ab x/\((0<=x_1/\x_1<=4294967295)/\(0<=x_2/\x_2<=4294967295)/\ab x_3/\ab x_4/\ab x_5)/\True->True->(∃ j h,(0<=j/\j<=5/\h=yQ x (x_1,x_2,x_3,x_4,x_5) j)/\ky (IntKind.wrap .u64 x)=h/\IntKind.wrap .i64 x_1=IntKind.wrap .i64 x_1/\IntKind.wrap .i64 x_2=IntKind.wrap .i64 x_2/\x_3=x_3/\x_4=x_4/\x_5=x_5/\(0:Int)=j/\True)/\∀(j h:Int),0<=j/\j<=5/\h=yQ x (x_1,x_2,x_3,x_4,x_5) j->ad (decide (j<5)) (0<=j/\j<↑(5:Nat)/\∃ j_1 h_1,(0<=j_1/\j_1<=5/\h_1=yQ x (x_1,x_2,x_3,x_4,x_5) j_1)/\Int.toNat ((5:Int)-j_1)<Int.toNat ((5:Int)-j)/\ky (bits BinOp.xor IntKind.u64 h (IntKind.wrap .u64 (jU [IntKind.wrap .i64 x_1,IntKind.wrap .i64 x_2,x_3,x_4,x_5] j.toNat)))=h_1/\IntKind.wrap .i64 x_1=IntKind.wrap .i64 x_1 /\
 IntKind.wrap .i64 x_2=IntKind.wrap .i64 x_2/\x_3=x_3/\x_4=x_4/\x_5=x_5/\IntKind.wrap .i64 (j+(1:Int))=j_1/\True) (h=lU x (x_1,x_2,x_3,x_4,x_5)):=by
  rintro x a b c e f ⟨-,⟨⟨a0,a1⟩,⟨b0,b1⟩,⟨c0,c1⟩,⟨e0,e1⟩,f0,f1⟩,-⟩ -
  refine⟨⟨0,_,⟨by omega,by omega,rfl⟩,(by repeat' first|exact trivial|refine⟨trivial,?_⟩|refine⟨(by with_reducible rfl),?_⟩|refine⟨af (by omega) (by omega),?_⟩|refine⟨rfl,?_⟩)⟩,?_⟩
  rintro j h ⟨h0,h1,rfl⟩
  refine ae (fun hj=>?_) (fun hj=>?_)
  ·have hj:=of_decide_eq_true hj
   refine⟨h0,by omega,j+1,yQ x (a,b,c,e,f) (j+1),⟨by omega,by omega,rfl⟩,by omega,?_,rfl,rfl,rfl,rfl,rfl,af (by omega) (by omega),trivial⟩
   rw[af (n:=a) (by omega) (by omega),af (n:=b) (by omega) (by omega)]
   have:j=0∨j=1∨j=2∨j=3∨j=4:=by omega
   rcases this with rfl|rfl|rfl|rfl|rfl <;> rfl
  ·have hj:=of_decide_eq_false hj
   have:j=5:=by omega
   subst this
   rfl
theorem M9:av Tryz.prog GL 158 Pt.spec:=Ct.okH _ Tryz.func158 (by kernel_rfl) (ah aA Ii) au an6 (aB (by kernel_rfl) QD)
def jh(way seed:Int)(k:mL)(count n:Int):Int×Int :=
 if n<1∨16<n∨count<0∨way<1∨3<way then (0,1) else
  (if way=1 then (lU seed k).tmod n else if way=2 then (lU seed (k.1,k.2.1,0,0,0)).tmod n else count.tmod n,0)
def Hc:Ct:=⟨[.val cI,.val cI,.agg Gg,.val cI,.val cI],[.val cI,.val cI],fun _=>[],fun d=>(((jh d.1 d.2.1 d.2.2.1 d.2.2.2.1 d.2.2.2.2.1).1,(jh d.1 d.2.1 d.2.2.1 d.2.2.2.1 d.2.2.2.2.1).2,()),())⟩
def ag0:ar Hc.ps->ay:=(fun _=>{})
theorem Ud :
 ∀(a b c d e f g h i:Int),ab a/\ab b/\((0<=c/\c<=4294967295)/\(0<=d/\d<=4294967295)/\ab e/\ab f/\ab g)/\ab h/\ab i/\True->True-> ∀(j:Bool),j=decide (i<1)->((! j)->((! j)->(! j))/\True)/\(j=false->(! j))/\ ∀(k:Bool),(k=bif j then true else decide (16<i))->((! k)->((! k)->(! k))/\True)/\(k=false->(! k))/\ad (bif k then true else decide (h<0)) ((0:Int)=(jh a b (c,d,e,f,g) h i).1/\(1:Int)=(jh a b (c,d,e,f,g) h i).2) (ad (decide (a=1)) (IntKind.wrap .u64 i≠(0:Int)/\IntKind.wrap .i64 (Int.tmod (lU b (c,d,e,f,g)) (IntKind.wrap .u64 i))=(jh a b (c,d,e,f,g) h i).1/\(0:Int)=(jh a b (c,d,e,f,g) h i).2) (ad (decide (a=2)) (IntKind.wrap .u64 i≠(0:Int)/\IntKind.wrap .i64 (Int.tmod (lU b (c,d,(0:Int),(0:Int),(0:Int))) (IntKind.wrap .u64 i))=(jh a b (c,d,e,f,g) h i).1/\(0:Int)=(jh a b (c,d,e,f,g) h i).2) (ad (decide (a=3)) (IntKind.wrap .u64 i≠(0:Int)/\IntKind.wrap
 .i64 (Int.tmod (IntKind.wrap .u64 h) (IntKind.wrap .u64 i))=(jh a b (c,d,e,f,g) h i).1/\(0:Int)=(jh a b (c,d,e,f,g) h i).2) ((0:Int)=(jh a b (c,d,e,f,g) h i).1/\(1:Int)=(jh a b (c,d,e,f,g) h i).2)))):=by
  rintro x s a b c e f cnt n ⟨-,-,-,⟨c0,c1⟩,⟨n0,n1⟩,-⟩ -
  (repeat (intro (b_:Bool) (hb_:b_=_);(repeat refine⟨(by first|(simp;done)|(rw[hb_];simp;done)|(rw[hb_];simp;omega)|(rw[hb_];simp;intros;omega)|(rw[hb_];simp +contextual;done)),?_⟩);subst hb_))
  refine ae (fun h=>?_) (fun h=>?_)
  ·simp at h
   unfold jh;rw[if_pos (by omega)];exact⟨rfl,rfl⟩
  ·simp at h
   rw[K1 (n:=n) (by omega) (by omega)]
   have hr:∀ k,0<=(lU s k).tmod n/\(lU s k).tmod n<n:=fun k=>⟨sN (xX _ _).1,sf (xX _ _).1 (by omega)⟩
   unfold jh
   refine ae (fun hx=>?_) (fun hx=>ae (fun hy=>?_) (fun hy=>ae (fun hz=>?_) (fun hz=>?_)))
   ·simp at hx
    subst hx
    have:=hr (a,b,c,e,f)
    rw[if_neg (by omega),if_pos rfl,af (by omega) (by omega)]
    exact⟨by omega,rfl,rfl⟩
   ·simp at hx hy
    subst hy
    have:=hr (a,b,0,0,0)
    rw[if_neg (by omega),if_neg (by omega),if_pos rfl,af (by omega) (by omega)]
    exact⟨by omega,rfl,rfl⟩
   ·simp at hx hy hz
    subst hz
    have q0:=sN (b:=n) (a:=cnt) (by omega)
    have q1:=sf (b:=n) (a:=cnt) (by omega) (by omega)
    rw[if_neg (by omega),if_neg (by omega),if_neg (by omega),K1 (n:=cnt) (by omega) (by omega),af (by omega) (by omega)]
    exact⟨by omega,rfl,rfl⟩
   ·simp at hx hy hz
    rw[if_pos (by omega)]
    exact⟨rfl,rfl⟩
theorem ZB:av Tryz.prog GL 84 Hc.spec:=Ct.okH _ Tryz.func84 (by kernel_rfl) (ah aA M9) au ag0 (aB (by kernel_rfl) Ud)
end Go.RS

/- Ident: identifiers of answers. -/
namespace Go.RS
open Go.SX Go.Proofs
set_option maxRecDepth 100000
set_option linter.unusedVariables false
abbrev qB:CT := .pair ck cI
abbrev Z7:CT := .pair ck cI
abbrev MH:CT := .pair Z7 (.pair (.sl cI) cI)
abbrev bH:CT := .pair (.sl qB) (.pair ck (.pair cI (.pair .bool (.pair (.sl MH) (.pair cI (.pair ck (.pair cI (.pair cI (.pair cI (.pair wG (.pair .bool (.pair .bool (.pair cI cI)))))))))))))
abbrev lQ:CT := .pair (.sl MH) (.pair cI (.pair (.sl cI) (.pair r6 cI)))
abbrev TG:Type:=Int×Int
abbrev aD:Type:=TG×List Int×Int
abbrev ac:Type:=List (Int×Int)×Int×Int×Bool×List aD×Int×Int×Int×Int×Int×(Int×Int)×Bool×Bool×Int×Int
abbrev bt:Type:=List aD×Int×List Int×(Int×Int)×Int
def aC(n:ac):=n.1
def gw(n:ac):=n.2.1
def LV(n:ac):=n.2.2.1
def lE(n:ac):=n.2.2.2.1
def aV(n:ac):=n.2.2.2.2.1
def jG(n:ac):=n.2.2.2.2.2.1
def oe(n:ac):=n.2.2.2.2.2.2.1
def o3(n:ac):=n.2.2.2.2.2.2.2.1
def kC(n:ac):=n.2.2.2.2.2.2.2.2.1
def uW(n:ac):=n.2.2.2.2.2.2.2.2.2.1
def iG(n:ac):=n.2.2.2.2.2.2.2.2.2.2.1
def jN(n:ac):=n.2.2.2.2.2.2.2.2.2.2.2.1
def dC(n:ac):=n.2.2.2.2.2.2.2.2.2.2.2.2.1
def gJ(n:ac):=n.2.2.2.2.2.2.2.2.2.2.2.2.2.1
def zW(n:ac):=n.2.2.2.2.2.2.2.2.2.2.2.2.2.2
def bn(s:bt):=s.1
def nk(s:bt):=s.2.1
def jf(s:bt):=s.2.2.1
def px(s:bt):=s.2.2.2.1
def kV(s:bt):=s.2.2.2.2
theorem xO(n:Int):bits .and .i64 n 65535=n%65536:=by
 have h127:(BitVec.ofInt 64 65535).toNat=2^16-1:=by decide
 have key:(BitVec.ofInt 64 n &&& BitVec.ofInt 64 65535).toNat=(n%((2^64:Nat):Int)).toNat%2^16:=by
  rw[BitVec.toNat_and,BitVec.toNat_ofInt,h127,Nat.and_two_pow_sub_one_eq_mod]
 show IntKind.i64.wrap ((BitVec.ofInt 64 n &&& BitVec.ofInt 64 65535).toNat:Nat)=n%65536
 rw[key,IntKind.wrap_i64]
 omega
theorem Xe{n:Int}(h0:0<=n)(h1:n<=18446744073709551615):bits .and .u64 n 65535=n%65536:=by
 rw[u64_and n 65535 h0 (by omega) (by decide) (by decide)]
 have:(n.toNat &&& Int.toNat 65535)=n.toNat%65536:=Nat.and_two_pow_sub_one_eq_mod n.toNat 16
 rw[this];omega
def oD(speed a:Int):Int:=if speed<0∨1000000<speed∨a<0∨1125899906842624<a then 0 else speed*(a/1000000)+speed*(a%1000000)/1000000
theorem an0{speed a:Int}:0<=oD speed a/\oD speed a<=2251799813685248:=by
 unfold oD
 split
 ·omega
 ·rename_i h
  have a1:0<=a/1000000:=by omega
  have a2:a/1000000<=1125899907:=by omega
  have a3:0<=a%1000000:=by omega
  have a4:a%1000000<=999999:=by omega
  have b1:0<=speed*(a/1000000):=Int.mul_nonneg (by omega) a1
  have b2:speed*(a/1000000)<=1000000*1125899907:=Int.mul_le_mul (by omega) a2 a1 (by omega)
  have b3:0<=speed*(a%1000000):=Int.mul_nonneg (by omega) a3
  have b4:speed*(a%1000000)<=1000000*999999:=Int.mul_le_mul (by omega) a4 a3 (by omega)
  omega
theorem Um{x a:Int}(h:¬ (x<0∨1000000<x∨a<0∨1125899906842624<a)) :
  IntKind.wrap IntKind.i64 (IntKind.wrap IntKind.i64 (x*IntKind.wrap IntKind.i64 (Int.tdiv a 1000000))+IntKind.wrap IntKind.i64 (Int.tdiv (IntKind.wrap IntKind.i64 (x*Int.tmod a 1000000)) 1000000))=oD x a:=by
 have h2:=an0 (speed:=x) (a:=a)
 unfold oD at h2 ⊢
 rw[if_neg h] at h2 ⊢
 have a1:0<=a/1000000:=by omega
 have a2:a/1000000<=1125899907:=by omega
 have a3:0<=a%1000000:=by omega
 have a4:a%1000000<=999999:=by omega
 have b1:0<=x*(a/1000000):=Int.mul_nonneg (by omega) a1
 have b2:x*(a/1000000)<=1000000*1125899907:=Int.mul_le_mul (by omega) a2 a1 (by omega)
 have b3:0<=x*(a%1000000):=Int.mul_nonneg (by omega) a3
 have b4:x*(a%1000000)<=1000000*999999:=Int.mul_le_mul (by omega) a4 a3 (by omega)
 rw[Int.tdiv_eq_ediv_of_nonneg (show 0<=a by omega),Int.tmod_eq_emod_of_nonneg (show 0<=a by omega),af (n:=a/1000000) (by omega) (by omega),af (n:=x*(a/1000000)) (by omega) (by omega),
  af (n:=x*(a%1000000)) (by omega) (by omega),Int.tdiv_eq_ediv_of_nonneg b3,af (n:=x*(a%1000000)/1000000) (by omega) (by omega),af (by omega) (by omega)]
def M6:Ct:=⟨[.val cI,.val cI],[.val cI],fun _=>[],fun d=>((oD d.1 d.2.1,()),())⟩
def Qi:ar M6.ps->ay:=(fun _=>{})
theorem Yx :
 ∀(a b:Int),ab a/\ab b/\True->True-> ∀(c:Bool),c=decide (a<0)->((! c)->((! c)->(! c))/\True)/\(c=false->(! c))/\ ∀(d:Bool),(d=bif c then true else decide (1000000<a))->((! d)->((! d)->(! d))/\True)/\(d=false->(! d))/\ ∀(e:Bool),(e=bif d then true else decide (b<0))->((! e)->((! e)->(! e))/\True)/\(e=false->(! e))/\ad (bif e then true else decide (1125899906842624<b)) ((0:Int)=oD a b) ((1000000:Int)≠(0:Int)/\(1000000:Int)≠(0:Int)/\(1000000:Int)≠(0:Int)/\IntKind.wrap .i64 (IntKind.wrap .i64 (a*IntKind.wrap .i64 (Int.tdiv b (1000000:Int)))+IntKind.wrap .i64 (Int.tdiv (IntKind.wrap .i64 (a*Int.tmod b (1000000:Int))) (1000000:Int)))=oD a b):=by
  rintro x a - -
  (repeat (intro (b_:Bool) (hb_:b_=_);(repeat refine⟨(by first|(simp;done)|(rw[hb_];simp;done)|(rw[hb_];simp;omega)|(rw[hb_];simp;intros;omega)|(rw[hb_];simp +contextual;done)),?_⟩);subst hb_))
  refine ae (fun h=>?_) (fun h=>?_)
  ·simp at h
   unfold oD;rw[if_pos (by omega)]
  ·simp at h
   refine⟨by omega,by omega,by omega,Um (by omega)⟩
theorem az4:av Tryz.prog GL 288 M6.spec:=Ct.okH _ Tryz.func288 (by kernel_rfl) aA au Qi (aB (by kernel_rfl) Yx)
def Li(n:ac):Bool:=decide (0<=o3 n/\o3 n<=5/\0<=kC n/\kC n<=65535/\0<=uW n/\uW n<=1000000)
def iH(n:ac):Int:=if Li n then 0 else 1
def OU:Ct:=⟨[.agg bH],[.val cI],fun _=>[],fun d=>((iH d.1,()),())⟩
def VD:ar OU.ps->ay:=(fun _=>{})
theorem at9 :
 ∀(a:ac),CT.wf bH a/\True->True-> ∀(b:Bool),b=decide (a.2.2.2.2.2.2.2.1<0)->((! b)->((! b)->(! b))/\True)/\((! b)->((! b)->(! b))/\True)/\(b=false->(! b))/\ ∀(c:Bool),(c=bif b then true else decide (5<a.2.2.2.2.2.2.2.1))->((! c)->((! c)->(! c))/\True)/\((! c)->((! c)->(! c))/\True)/\(c=false->(! c))/\ ∀(d:Bool),(d=bif c then true else decide (a.2.2.2.2.2.2.2.2.1<0))->((! d)->((! d)->(! d))/\True)/\((! d)->((! d)->(! d))/\True)/\(d=false->(! d))/\ ∀(e:Bool),(e=bif d then true else decide (65535<a.2.2.2.2.2.2.2.2.1))->((! e)->((! e)->(! e))/\True)/\((! e)->((! e)->(! e))/\True)/\(e=false->(! e))/\ ∀(f:Bool),(f=bif e then true else decide (a.2.2.2.2.2.2.2.2.2.1<0))->((! f)->((! f)->(! f))/\True)/\((! f)->((! f)->(! f))/\True)/\(f=false->(! f))/\ad (bif f then true else decide (1000000<a.2.2.2.2.2.2.2.2.2.1)) ((1:Int)=iH a) ((0:Int)=iH a):=by
  rintro d - -
  (repeat (intro (b_:Bool) (hb_:b_=_);(repeat refine⟨(by first|(simp;done)|(rw[hb_];simp;done)|(rw[hb_];simp;omega)|(rw[hb_];simp;intros;omega)|(rw[hb_];simp +contextual;done)),?_⟩);subst hb_))
  unfold iH Li o3 kC uW
  generalize d.2.2.2.2.2.2.2.1=i
  generalize d.2.2.2.2.2.2.2.2.1=b
  generalize d.2.2.2.2.2.2.2.2.2.1=s
  refine ae (fun h=>?_) (fun h=>?_)
  ·simp at h
   rw[if_neg (by simp;omega)]
  ·simp at h
   rw[if_pos (by simp;omega)]
theorem ac8:av Tryz.prog GL 218 OU.spec:=Ct.okH _ Tryz.func218 (by kernel_rfl) aA au VD (aB (by kernel_rfl) at9)
abbrev wI(n:Int):Int:=IntKind.i64.wrap n
def as8(n:ac)(sent a:Int):Int:=wI (wI (kC n+sent)+oD (uW n) a)
def o4(n:ac)(sent a:Int):Int:=as8 n sent a%65536
def Nx:Ct:=⟨[.val cI,.box 107 bH,.box 3 cI],[.val cI],fun _=>[],fun d=>((o4 d.2.1 d.1 d.2.2.1,()),(d.2.1,d.2.2.1,()))⟩
def YE:ar Nx.ps->ay:=(fun _=>{})
theorem UQ :
 ∀(a:Int)(b:ac)(c:Int),ab a/\CT.wf bH b/\ab c/\True->True->bits BinOp.and IntKind.i64 (IntKind.wrap .i64 (IntKind.wrap .i64 (b.2.2.2.2.2.2.2.2.1+a)+oD b.2.2.2.2.2.2.2.2.2.1 c)) (65535:Int)=o4 b a c/\b=b/\c=c:=by
  rintro x d a - -
  exact⟨xO _,rfl,rfl⟩
theorem U6:av Tryz.prog GL 287 Nx.spec:=Ct.okH _ Tryz.func287 (by kernel_rfl) (ah aA az4) au YE (aB (by kernel_rfl) UQ)
def jK(n:ac)(s:bt)(port a asked dst:Int):Int :=
 if o3 n=1 then kC n else if o3 n=2 then o4 n (nk s) a
 else if o3 n=3 then (if port<0∨(jf s).length<=port then o4 n 0 a else o4 n ((jf s).getD port.toNat default) a)
 else if o3 n=4 then asked else if o3 n=5 then lU (kC n) (0,dst,0,nk s,0)%65536 else 0
def H8:Ct:=⟨[.agg bH,.agg lQ,.val cI,.val cI,.val cI,.val ck],[.val cI],fun _=>[],fun d=>((jK d.1 d.2.1 d.2.2.1 d.2.2.2.1 d.2.2.2.2.1 d.2.2.2.2.2.1,()),())⟩
def TD:ar H8.ps->ay:=(fun _=>{})
theorem RH :
 ∀(a:ac)(b:List aD)(c:Int)(d:List Int)(e f g h i j k:Int),CT.wf bH a/\((b.length<=maxLen/\ ∀(l:aD),l∈b->((0<=l.1.1/\l.1.1<=4294967295)/\ab l.1.2)/\(l.2.1.length<=maxLen/\ ∀(m:Int),m∈l.2.1->ab m)/\ab l.2.2)/\ab c/\(d.length<=maxLen/\ ∀(l:Int),l∈d->ab l)/\(ab e/\ab f)/\ab g)/\ab h/\ab i/\ab j/\(0<=k/\k<=4294967295)/\True->True->ad (decide (a.2.2.2.2.2.2.2.1=1)) (a.2.2.2.2.2.2.2.2.1=jK a (b,c,d,(e,f),g) h i j k) (ad (decide (a.2.2.2.2.2.2.2.1=2)) (o4 a c i=jK a (b,c,d,(e,f),g) h i j k) (ad (decide (a.2.2.2.2.2.2.2.1=3)) (∀(l:Bool),l=decide (h<0)->((! l)->((! l)->(! l))/\True)/\((! l)->((! l)->(! l))/\True)/\((! l)->((! l)->(! l))/\((! l)->(! l))/\True)/\(l=false->(! l))/\ad (bif l then true else decide (d.length<=h)) (o4 a (0:Int) i=jK a (b,c,d,(e,f),g) h i j k) (0<=h/\h< ↑d.length/\o4 a (d.getD h.toNat default) i=jK a
 (b,c,d,(e,f),g) h i j k)) (ad (decide (a.2.2.2.2.2.2.2.1=4)) (j=jK a (b,c,d,(e,f),g) h i j k) (ad (decide (a.2.2.2.2.2.2.2.1=5)) (IntKind.wrap .i64 (bits BinOp.and IntKind.u64 (lU a.2.2.2.2.2.2.2.2.1 ((0:Int),k,(0:Int),c,(0:Int))) (65535:Int))=jK a (b,c,d,(e,f),g) h i j k) ((0:Int)=jK a (b,c,d,(e,f),g) h i j k))))):=by
  rintro d r se ps t1 t2 ba port a asked dst - -
  unfold jK o3 kC nk jf
  simp only
  refine ae (fun h=>?_) (fun h=>?_)
  ·rw[if_pos (of_decide_eq_true h)]
  have h1:=of_decide_eq_false h
  rw[if_neg h1]
  refine ae (fun h=>?_) (fun h=>?_)
  ·rw[if_pos (of_decide_eq_true h)]
  have h2:=of_decide_eq_false h
  rw[if_neg h2]
  refine ae (fun h=>?_) (fun h=>?_)
  ·rw[if_pos (of_decide_eq_true h)]
   (repeat (intro (b_:Bool) (hb_:b_=_);(repeat refine⟨(by first|(simp;done)|(rw[hb_];simp;done)|(rw[hb_];simp;omega)|(rw[hb_];simp;intros;omega)|(rw[hb_];simp +contextual;done)),?_⟩);subst hb_))
   refine ae (fun h=>?_) (fun h=>?_)
   ·simp at h
    rw[if_pos h]
   ·simp at h
    exact⟨by omega,by omega,by rw[if_neg (by omega)]⟩
  have h3:=of_decide_eq_false h
  rw[if_neg h3]
  refine ae (fun h=>?_) (fun h=>?_)
  ·rw[if_pos (of_decide_eq_true h)]
  have h4:=of_decide_eq_false h
  rw[if_neg h4]
  refine ae (fun h=>?_) (fun h=>?_)
  ·rw[if_pos (of_decide_eq_true h)]
   have hr:=xX d.2.2.2.2.2.2.2.2.1 (0,dst,0,se,0)
   rw[Xe hr.1 hr.2,af (by omega) (by omega)]
  ·rw[if_neg (of_decide_eq_false h)]
theorem MV:av Tryz.prog GL 275 H8.spec:=Ct.okH _ Tryz.func275 (by kernel_rfl) (ah (ah aA U6) M9) au TD (aB (by kernel_rfl) RH)
end Go.RS
