/- SX, part 21: a function's contract, off its symbolic run. -/
import Derived.Test.YtgcnlmckfpcgpaaGreatDoorSx20
import Derived.Laws.Sem
import Derived.Laws.NewBlocks
import Derived.ProofKit
import Derived.OpenShut
import Derived.ChangeOld
import Derived.Below
import Derived.KernelRfl
import Derived.Test.YtgcnlmckfpcgpaaGreatDoorSx9
import Derived.Test.YtgcnlmckfpcgpaaGreatDoorChecked
import Derived.Laws.Bits64
import Derived.Laws.Bits128
import Derived.Laws.BitsAllLaws
set_option maxRecDepth 100000
set_option linter.all false
open List (take)
open Array renaming replicate->cx7
open BitVec renaming ofInt->cc8
open Bool renaming false->bZ6,true->bZ3
open Decidable renaming decide->bZ2
open Go renaming Func->cr0,FuncId->cf8,IntKind->cb7,MemPlace->cp1,Program->ca7,Reach->cB1,ResultVar->cv6,TypeId->bZ8,Value->ca2,World->ca8,asAddr->cA3
open Go.Addr renaming add->cE6
open Go.BinOp renaming and->cc6,xor->cd6
open Go.DataW renaming TrodAll->cj6,trod->ch0
open Go.Fence renaming wide->ci3
open Go.IntKind renaming i64->bZ4,u32->bZ7,u64->ca1,wrap->bZ5
open Go.Sem renaming run_bind->ca6
open Go.Value renaming okWide->cg2
open Go.World renaming cells?_some->cv7
open Inhabited renaming default->Sk
open Int renaming mul_le_mul->cl8,mul_nonneg->cl7,tdiv->cd2,tmod->cd8,toNat->it,toNat_natCast->cb6
open List renaming drop_append_of_le_length->co4,drop_zero->cm3,getD->Om,getElem?_eq_some_iff->ca5,length->be,length_eq_zero_iff->cc2,mem_iff_getElem?->ct0,take_add_one->cw6
open Nat renaming beq->ca0,ble->cd9,blt->cq8,div_le_self->cz5,lt_of_le_of_lt->cw7
open Option renaming bind_eq_some_iff->cj9,map_some->ck3,ne_none_iff_exists'->co6,none->bZ9,some->bZ1
open Prod renaming ext->ct3,fst->ct4,snd->ct5
namespace Go.SX
def CT.plain:CT->Bool
 | .sl _=>bZ6
 | .pair a b=>a.plain&&b.plain
 | _=>bZ3
theorem Pi{A A':Nat->Prop}{w w':ca8}:∀{t:CT}{cv:Nat->Option ca2}{o:Nat}{d:t.D},t.plain=bZ3->Rd A w t cv o d->Rd A' w' t cv o d
 | .int k,cv,o,d,_,h=>h
 | .bool,cv,o,d,_,h=>h
 | .str,cv,o,d,_,h=>h
 | .pair a b,cv,o,d,e,h=>by
  simp only[CT.plain,fx] at e;exact⟨Pi e.1 h.1,Pi e.2 h.2⟩
theorem Jk{A A':Nat->Prop}{w:ca8}{t:CT}{cv:Nat->Option ca2}{o:Nat}{d:t.D}(L:t.plain=bZ3∨∀ b,A b->A' b)(h:Rd A w t cv o d):Rd A' w t cv o d:=by
 obtain L|L:=L
 .exact Pi L h
 .exact iQ L (λ_ _ _=>rfl) t _ _ _ _ (λ_ _=>rfl) h
inductive RK where
 | val (t:CT)
 | agg (o:OT)
 | own (E:bZ8) (t:CT)
 | box (E:bZ8) (o:OT)
 | fn (f:cf8) (k:Nat)
 | arr (k:cb7) (n:Nat)
@[reducible] def RK.D:RK->Type
 | .val t=>t.D
 | .agg o=>o.X
 | .own _ t=>List t.D
 | .box _ o=>o.X
 | .fn _ _=>Unit
 | .arr _ _=>ad
@[reducible] def jp:List RK->Type
 | []=>Unit
 | p::r=>p.D×jp r
@[reducible] def gk:List PK->Type
 | []=>Unit
 | .val _::r=>gk r
 | .agg _::r=>gk r
 | .own _ _::r=>gk r
 | .ago _::r=>gk r
 | .fn _ _::r=>gk r
 | .nils::r=>gk r
 | .yld _ _::r=>gk r
 | .box _ o::r=>o.X×gk r
 | .row _ t::r=>List t.D×gk r
def OT.plain:OT->Bool
 | .dat t=>t.plain
 | .row _ t=>t.plain
 | .rowg _ _=>bZ3
 | .fnc _=>bZ3
 | .ali=>bZ3
 | .ref _ o=>o.plain
 | .pair a b=>a.plain&&b.plain
def uw:List RK->Bool
 | []=>bZ3
 | .val t::r=>t.plain&&uw r
 | .agg o::r=>o.plain&&uw r
 | .own _ t::r=>t.plain&&uw r
 | .box _ o::r=>o.plain&&uw r
 | .fn _ _::r=>uw r
 | .arr _ _::r=>uw r
def nk:List PK->Bool
 | []=>bZ3
 | .val _::r=>nk r
 | .agg _::r=>nk r
 | .own _ _::r=>nk r
 | .ago _::r=>nk r
 | .fn _ _::r=>nk r
 | .nils::r=>nk r
 | .yld _ _::r=>nk r
 | .box _ o::r=>o.plain&&nk r
 | .row _ t::r=>t.plain&&nk r
structure Ct where
 ps:List PK
 rs:List RK
 pre:bw ps->List Prop
 out:bw ps->jp rs×gk ps
def Lf(E:bZ8)(t:CT)(h:bZ):List SV->Option (List t.D×List SV×Option Nat)
 | .own m sz::r=>match h m with
  | .live (.row E' t' xs)=>match ca0 E E',ca0 sz t.size,iq t' t xs with
   | true,bZ3,bZ1 ys=>bZ1 (ys,r,bZ1 m)
   | _,_,_=>bZ9
  | _=>bZ9
 | .nilsl::r=>bZ1 ([],r,bZ9)
 | _=>bZ9
def oz(h:bZ)(al:Bool):(o:OT)->Option Nat->List SV->Option (o.X×List SV×List (Nat×Nm)×List (Option Nat))
 | .dat t,_,cs=>match (kS t cs).run h with
  | some ((x,r,fz),_)=>bZ1 (x,r,fz,[])
  | none=>bZ9
 | .row E t,_,cs=>match Lf E t h cs with
  | some (ys,r,o)=>bZ1 (ys,r,[],[o])
  | none=>bZ9
 | .rowg _ _,_,_::r=>bZ1 ((),r,[],[])
 | .rowg _ _,_,[]=>bZ9
 | .fnc f,_,.fn g []::r=>match ca0 f g with
  | true=>bZ1 ((),r,[],[])
  | false=>bZ9
 | .fnc _,_,_=>bZ9
 | .ali,_,.ptr m 0::r=>match al,ca0 m PN with
  | true,bZ3=>bZ1 ((),r,[],[])
  | _,_=>bZ9
 | .ali,_,_=>bZ9
 | .ref E o,bZ1 j,.ptr m 0::r=>match ca0 m (PN+j),h m with
  | true,.live (.cells E' cs)=>match ca0 E E',oz h al o (bZ1 (j+1)) cs with
   | true,bZ1 (x,[],fz,ow)=>bZ1 (x,r,fz,ow)
   | _,_=>bZ9
  | _,_=>bZ9
 | .ref _ _,_,_=>bZ9
 | .pair a b,j,cs=>match oz h al a j cs with
  | some (x,r,f,w)=>match oz h al b (j.map (· + a.nb)) r with
   | some (y,r',f',w')=>bZ1 ((x,y),r',f++f',w++w')
   | none=>bZ9
  | none=>bZ9
def mW(al:Bool):(rs:List RK)->List SV->bZ->Option (jp rs×List (Nat×Nm)×List (Option Nat))
 | [],[],_=>bZ1 ((),[],[])
 | .val t::rs,v::vs,h=>match (kS t [v]).run h with
  | some ((x,[],fz),_)=>match mW al rs vs h with
   | some (y,f,o)=>bZ1 ((x,y),fz++f,o)
   | none=>bZ9
  | _=>bZ9
 | .agg t::rs,.agg cs::vs,h=>match oz h al t bZ9 cs with
  | some (x,[],fz,w)=>match mW al rs vs h with
   | some (y,f,o)=>bZ1 ((x,y),fz++f,w++o)
   | none=>bZ9
  | _=>bZ9
 | .own E t::rs,v::vs,h=>match Lf E t h [v] with
  | some (x,_,w)=>match mW al rs vs h with
   | some (y,f,o)=>bZ1 ((x,y),f,w::o)
   | none=>bZ9
  | none=>bZ9
 | .box E t::rs,.ptr m 0::vs,h=>match h m with
  | .live (.cells E' cs)=>match ca0 E E',oz h al t bZ9 cs with
   | true,bZ1 (x,[],fz,w)=>match mW al rs vs h with
    | some (y,f,o)=>bZ1 ((x,y),fz++f,bZ1 m::(w++o))
    | none=>bZ9
   | _,_=>bZ9
  | _=>bZ9
 | .fn f k::rs,.fn g cs::vs,h=>match ca0 f g,ca0 (be cs) k with
  | true,bZ3=>match mW al rs (cs++vs) h with
   | some (y,f',o)=>bZ1 (((),y),f',o)
   | none=>bZ9
  | _,_=>bZ9
 | .arr k n::rs,.arr k' m xs::vs,h=>match jW k k',ca0 n m,mW al rs vs h with
  | true,bZ3,bZ1 (y,f,o)=>bZ1 ((xs,y),f,o)
  | _,_,_=>bZ9
 | _,_,_=>bZ9
def mK:(ps:List PK)->Nat->bZ->Option (gk ps×List (Nat×Nm)×List (Option Nat))
 | [],_,_=>bZ1 ((),[],[])
 | .val _::ps,j,h=>mK ps j h
 | .agg _::ps,j,h=>mK ps j h
 | .own _ _::ps,j,h=>mK ps j h
 | .ago _::ps,j,h=>mK ps j h
 | .fn _ _::ps,j,h=>mK ps j h
 | .nils::ps,j,h=>mK ps j h
 | .yld _ _::ps,j,h=>mK ps j h
 | .box E t::ps,j,h=>match h (PN+j) with
  | .live (.cells E' cs)=>match ca0 E E',oz h bZ3 t (bZ1 (j+1)) cs with
   | true,bZ1 (x,[],fz,w)=>match mK ps (j+1+t.nb) h with
    | some (y,f,o)=>bZ1 ((x,y),fz++f,w++o)
    | none=>bZ9
   | _,_=>bZ9
  | _=>bZ9
 | .row E t::ps,j,h=>match h (PN+j) with
  | .live (.row E' t' xs)=>match ca0 E E',iq t' t xs with
   | true,bZ1 ys=>match mK ps (j+1) h with
    | some (y,f,o)=>bZ1 ((ys,y),f,o)
    | none=>bZ9
   | _,_=>bZ9
  | _=>bZ9
def AB(n:Nat):List (Option Nat)->Bool
 | []=>bZ6
 | some m::r=>ca0 n m||AB n r
 | none::r=>AB n r
def Ad(fz:List (Nat×Nm)):List (Option Nat)->Bool
 | []=>bZ3
 | none::r=>Ad fz r
 | some m::r=>(cq8 m PN||cd9 QN m)&&AF m fz && !AB m r&&Ad fz r
def Ey:List (Nat×Nm)->Bool
 | []=>bZ3
 | (n,_)::r=>(cq8 n PN||cd9 QN n)&&Ey r
def pY(b0:Nat):(o:OT)->o.X->List Nat->Nat->List SV
 | .dat t,x,_,_=>cF t x
 | .row _ t,_,_,n=>[.own n t.size]
 | .rowg _ _,_,_,_=>[.junk]
 | .fnc f,_,_,_=>[.fn f []]
 | .ali,_,_,_=>[.ptr b0 0]
 | .ref _ _,_,bx,_=>match bx with
  | q::_=>[.ptr q 0]
  | []=>[.junk]
 | .pair a b,x,bx,n=>pY b0 a x.1 bx n++pY b0 b x.2 (bx.drop a.nb) (n+a.nr)
def nN(b0:Nat):(o:OT)->o.X->List Nat->Nat->List (Nat×Nm)
 | .dat _,_,_,_=>[]
 | .row _ _,_,_,_=>[]
 | .rowg _ _,_,_,_=>[]
 | .fnc _,_,_,_=>[]
 | .ali,_,_,_=>[]
 | .ref E o,x,bx,n=>match bx with
  | q::r=>(q,.live (.cells E (pY b0 o x r n)))::nN b0 o x r n
  | []=>[]
 | .pair a b,x,bx,n=>nN b0 a x.1 bx n++nN b0 b x.2 (bx.drop a.nb) (n+a.nr)
def vH:(o:OT)->o.X->Nat->List (Nat×Nm)
 | .dat _,_,_=>[]
 | .row E t,x,n=>[(n,.live (.row E t x))]
 | .rowg _ _,_,_=>[]
 | .fnc _,_,_=>[]
 | .ali,_,_=>[]
 | .ref _ o,x,n=>vH o x n
 | .pair a b,x,n=>vH a x.1 n++vH b x.2 (n+a.nr)
def lQ(b0:Nat):(rs:List RK)->jp rs->Nat->List SV
 | [],_,_=>[]
 | .val t::rs,d,n=>Da t d.1::lQ b0 rs d.2 n
 | .agg o::rs,d,n => .agg (pY b0 o d.1 [] n)::lQ b0 rs d.2 (n+o.nr)
 | .own E t::rs,d,n => .own n t.size::lQ b0 rs d.2 (n+1)
 | .box E o::rs,d,n => .ptr n 0::lQ b0 rs d.2 (n+1+o.nr)
 | .fn f k::rs,d,n => .fn f ((lQ b0 rs d.2 n).take k)::(lQ b0 rs d.2 n).drop k
 | .arr k m::rs,d,n => .arr k m d.1::lQ b0 rs d.2 n
def ni(b0:Nat):(rs:List RK)->jp rs->Nat->List (Nat×Nm)
 | [],_,_=>[]
 | .val t::rs,d,n=>ni b0 rs d.2 n
 | .agg o::rs,d,n=>vH o d.1 n++ni b0 rs d.2 (n+o.nr)
 | .own E t::rs,d,n=>(n,.live (.row E t d.1))::ni b0 rs d.2 (n+1)
 | .box E o::rs,d,n=>(n,.live (.cells E (pY b0 o d.1 [] (n+1))))::(vH o d.1 (n+1)++ni b0 rs d.2 (n+1+o.nr))
 | .fn _ _::rs,d,n=>ni b0 rs d.2 n
 | .arr _ _::rs,d,n=>ni b0 rs d.2 n
def gW:List RK->Nat
 | []=>0
 | .own _ _::r=>gW r+1
 | .box _ o::r=>gW r+o.nr+1
 | .val _::r=>gW r
 | .agg o::r=>gW r+o.nr
 | .fn _ _::r=>gW r
 | .arr _ _::r=>gW r
def jB:List PK->Nat
 | []=>0
 | .val _::r=>jB r
 | .agg _::r=>jB r
 | .own _ _::r=>jB r
 | .ago _::r=>jB r
 | .fn _ _::r=>jB r
 | .nils::r=>jB r
 | .yld _ _::r=>jB r
 | .box _ o::r=>jB r+o.nr
 | .row _ _::r=>jB r
def gC(b0:Nat):(ps:List PK)->gk ps->List Nat->Nat->List (Nat×Nm)
 | .val _::ps,d,bx,nb=>gC b0 ps d bx nb
 | .agg _::ps,d,bx,nb=>gC b0 ps d bx nb
 | .own _ _::ps,d,bx,nb=>gC b0 ps d bx nb
 | .ago _::ps,d,bx,nb=>gC b0 ps d bx nb
 | .fn _ _::ps,d,bx,nb=>gC b0 ps d bx nb
 | .nils::ps,d,bx,nb=>gC b0 ps d bx nb
 | .yld _ _::ps,d,bx,nb=>gC b0 ps d bx nb
 | .box E o::ps,d,n::bx,nb=>(n,.live (.cells E (pY b0 o d.1 bx nb)))::(nN b0 o d.1 bx nb++gC b0 ps d.2 (bx.drop o.nb) (nb+o.nr))
 | .row E t::ps,d,n::bx,nb=>(n,.live (.row E t d.1))::gC b0 ps d.2 bx nb
 | _,_,_,_=>[]
def iE:(ps:List PK)->gk ps->Nat->List (Nat×Nm)
 | [],_,_=>[]
 | .val _::ps,d,nb=>iE ps d nb
 | .agg _::ps,d,nb=>iE ps d nb
 | .own _ _::ps,d,nb=>iE ps d nb
 | .ago _::ps,d,nb=>iE ps d nb
 | .fn _ _::ps,d,nb=>iE ps d nb
 | .nils::ps,d,nb=>iE ps d nb
 | .yld _ _::ps,d,nb=>iE ps d nb
 | .box E o::ps,d,nb=>vH o d.1 nb++iE ps d.2 (nb+o.nr)
 | .row E t::ps,d,nb=>iE ps d.2 nb
def th:List (Option Nat)->List (Nat×Nm)
 | []=>[]
 | none::r=>th r
 | some n::r=>(n,.dead)::th r
def uY:List SV->SV
 | [v]=>v
 | l => .tup l
def FZ(fz:List (Nat×Nm)):List Nat->Bool
 | []=>bZ3
 | n::r=>AF n fz&&FZ fz r
def u3:Nat->Nat->Dl->Q Dl
 | _,0,d => .ret d
 | n,k+1,d => .ask n fun
  | .un=>u3 (n+1) k d
  | _ => .fail
def Ba(ps:List PK)(rs:List RK):Bool := !(uw rs&&nk ps)
def vl(ps:List PK)(rs:List RK)(y:jp rs×gk ps)(base:Nat)(fz:List (Nat×Nm))(bx:List Nat)(cx:List (Option Nat)):List (Nat×Nm) :=
 (gC (bx.headD 0) ps y.2 bx (base+gW rs)++(ni (bx.headD 0) rs y.1 base++(iE ps y.2 (base+gW rs)++th cx)))++(match Ba ps rs with|true=>fz|false=>[])
def AL(fz:List (Nat×Nm))(bx:List Nat)(cx:List (Option Nat)):Bool:=Gl (bx++lO cx)&&FZ fz (bx++lO cx)&&cd9 (be bx) PN
def Ct.spec(c:Ct):Spec:=λbase svs=>(gX bZ9 c.ps svs).bind λp=>match AL p.2.1 p.2.2.1 p.2.2.2 with
 | true=>u3 base (gW c.rs+jB c.ps) (.det (c.pre p.1) (uY (lQ (p.2.2.1.headD 0) c.rs (c.out p.1).1 base)) (vl c.ps c.rs (c.out p.1) base p.2.1 p.2.2.1 p.2.2.2))
 | false => .fail
structure Cn where
 ps:List PK
 rs:List RK
 pre:bw ps->List Prop
 post:bw ps->jp rs×gk ps->Prop
 inh:∀ d,bQ (pre d)→∃ y,post d y
def Bq{X:Type}(b0:Nat):(o:OT)->(X->o.X)->List Nat->Nat->List (Nat×(X->Nm))
 | .dat _,_,_,_=>[]
 | .row _ _,_,_,_=>[]
 | .rowg _ _,_,_,_=>[]
 | .fnc _,_,_,_=>[]
 | .ali,_,_,_=>[]
 | .ref E o,x,bx,n=>match bx with
  | q::r=>(q,λy=>.live (.cells E (pY b0 o (x y) r n)))::Bq b0 o x r n
  | []=>[]
 | .pair a b,x,bx,n=>Bq b0 a (λy=>(x y).1) bx n++Bq b0 b (λy=>(x y).2) (bx.drop a.nb) (n+a.nr)
def yc{X:Type}:(o:OT)->(X->o.X)->Nat->List (Nat×(X->Nm))
 | .dat _,_,_=>[]
 | .row E t,x,n=>[(n,λy=>.live (.row E t (x y)))]
 | .rowg _ _,_,_=>[]
 | .fnc _,_,_=>[]
 | .ali,_,_=>[]
 | .ref _ o,x,n=>yc o x n
 | .pair a b,x,n=>yc a (λy=>(x y).1) n++yc b (λy=>(x y).2) (n+a.nr)
def oe{X:Type}(b0:Nat):(ps:List PK)->(X->gk ps)->List Nat->Nat->List (Nat×(X->Nm))
 | .val _::ps,d,bx,nb=>oe b0 ps d bx nb
 | .agg _::ps,d,bx,nb=>oe b0 ps d bx nb
 | .own _ _::ps,d,bx,nb=>oe b0 ps d bx nb
 | .ago _::ps,d,bx,nb=>oe b0 ps d bx nb
 | .fn _ _::ps,d,bx,nb=>oe b0 ps d bx nb
 | .nils::ps,d,bx,nb=>oe b0 ps d bx nb
 | .yld _ _::ps,d,bx,nb=>oe b0 ps d bx nb
 | .box E o::ps,d,n::bx,nb=>(n,λx=>.live (.cells E (pY b0 o (d x).1 bx nb)))::(Bq b0 o (λx=>(d x).1) bx nb++oe b0 ps (λx=>(d x).2) (bx.drop o.nb) (nb+o.nr))
 | .row E t::ps,d,n::bx,nb=>(n,λx=>.live (.row E t (d x).1))::oe b0 ps (λx=>(d x).2) bx nb
 | _,_,_,_=>[]
def nY{X:Type}:(ps:List PK)->(X->gk ps)->Nat->List (Nat×(X->Nm))
 | [],_,_=>[]
 | .val _::ps,d,nb=>nY ps d nb
 | .agg _::ps,d,nb=>nY ps d nb
 | .own _ _::ps,d,nb=>nY ps d nb
 | .ago _::ps,d,nb=>nY ps d nb
 | .fn _ _::ps,d,nb=>nY ps d nb
 | .nils::ps,d,nb=>nY ps d nb
 | .yld _ _::ps,d,nb=>nY ps d nb
 | .box E o::ps,d,nb=>yc o (λx=>(d x).1) nb++nY ps (λx=>(d x).2) (nb+o.nr)
 | .row E t::ps,d,nb=>nY ps (λx=>(d x).2) nb
def rV{X:Type}(b0:Nat):(rs:List RK)->(X->jp rs)->Nat->List (Nat×(X->Nm))
 | [],_,_=>[]
 | .val t::rs,d,n=>rV b0 rs (λx=>(d x).2) n
 | .agg o::rs,d,n=>yc o (λx=>(d x).1) n++rV b0 rs (λx=>(d x).2) (n+o.nr)
 | .own E t::rs,d,n=>(n,λx=>.live (.row E t (d x).1))::rV b0 rs (λx=>(d x).2) (n+1)
 | .box E o::rs,d,n=>(n,λx=>.live (.cells E (pY b0 o (d x).1 [] (n+1))))::(yc o (λx=>(d x).1) (n+1)++rV b0 rs (λx=>(d x).2) (n+1+o.nr))
 | .fn _ _::rs,d,n=>rV b0 rs (λx=>(d x).2) n
 | .arr _ _::rs,d,n=>rV b0 rs (λx=>(d x).2) n
def FV{X:Type}:List (Nat×Nm)->List (Nat×(X->Nm))
 | []=>[]
 | (n,b)::r=>(n,λ_=>b)::FV r
def BM(ps:List PK)(rs:List RK)(base:Nat)(fz:List (Nat×Nm))(bx:List Nat)(cx:List (Option Nat)):List (Nat×(jp rs×gk ps->Nm)) :=
 (oe (bx.headD 0) ps (λy:jp rs×gk ps=>y.2) bx (base+gW rs)++(rV (bx.headD 0) rs (λy:jp rs×gk ps=>y.1) base++(nY ps (λy:jp rs×gk ps=>y.2) (base+gW rs)++FV (th cx))))++(match Ba ps rs with|true=>FV fz|false=>[])
theorem HL{X:Type}{b0:Nat}(y:X):∀(o:OT)(x:X->o.X)(bx:List Nat)(n:Nat),(Bq b0 o x bx n).map (λp=>(p.1,p.2 y))=nN b0 o (x y) bx n
 | .dat _,_,_,_=>rfl
 | .row _ _,_,_,_=>rfl
 | .rowg _ _,_,_,_=>rfl
 | .fnc _,_,_,_=>rfl
 | .ali,_,_,_=>rfl
 | .ref E o,x,[],n=>rfl
 | .ref E o,x,q::r,n=>by simp only[Bq,nN,fF,HL y o]
 | .pair a b,x,bx,n=>by simp only[Bq,nN,kJ,HL y a,HL y b]
theorem DG{X:Type}(y:X):∀(o:OT)(x:X->o.X)(n:Nat),(yc o x n).map (λp=>(p.1,p.2 y))=vH o (x y) n
 | .dat _,_,_=>rfl
 | .row _ _,_,_=>rfl
 | .rowg _ _,_,_=>rfl
 | .fnc _,_,_=>rfl
 | .ali,_,_=>rfl
 | .ref E o,x,n=>by simp only[yc,vH,DG y o]
 | .pair a b,x,n=>by simp only[yc,vH,kJ,DG y a,DG y b]
theorem wG{X:Type}{b0:Nat}(x:X):∀(ps:List PK)(d:X->gk ps)(bx:List Nat)(nb:Nat),(oe b0 ps d bx nb).map (λp=>(p.1,p.2 x))=gC b0 ps (d x) bx nb
 | [],_,_,_=>rfl
 | .val _::ps,d,bx,nb=>by simp only[oe,gC];exact wG x ps d bx nb
 | .agg _::ps,d,bx,nb=>by simp only[oe,gC];exact wG x ps d bx nb
 | .own _ _::ps,d,bx,nb=>by simp only[oe,gC];exact wG x ps d bx nb
 | .ago _::ps,d,bx,nb=>by simp only[oe,gC];exact wG x ps d bx nb
 | .fn _ _::ps,d,bx,nb=>by simp only[oe,gC];exact wG x ps d bx nb
 | .nils::ps,d,bx,nb=>by simp only[oe,gC];exact wG x ps d bx nb
 | .yld _ _::ps,d,bx,nb=>by simp only[oe,gC];exact wG x ps d bx nb
 | .box E t::ps,d,[],_=>rfl
 | .row E t::ps,d,[],_=>rfl
 | .box E t::ps,d,n::bx,nb=>by simp only[oe,gC,fF,kJ,HL x t,wG x ps]
 | .row E t::ps,d,n::bx,nb=>by simp only[oe,gC,fF,wG x ps]
theorem wO{X:Type}(x:X):∀(ps:List PK)(d:X->gk ps)(nb:Nat),(nY ps d nb).map (λp=>(p.1,p.2 x))=iE ps (d x) nb
 | [],_,_=>rfl
 | .val _::ps,d,nb=>by simp only[nY,iE];exact wO x ps d nb
 | .agg _::ps,d,nb=>by simp only[nY,iE];exact wO x ps d nb
 | .own _ _::ps,d,nb=>by simp only[nY,iE];exact wO x ps d nb
 | .ago _::ps,d,nb=>by simp only[nY,iE];exact wO x ps d nb
 | .fn _ _::ps,d,nb=>by simp only[nY,iE];exact wO x ps d nb
 | .nils::ps,d,nb=>by simp only[nY,iE];exact wO x ps d nb
 | .yld _ _::ps,d,nb=>by simp only[nY,iE];exact wO x ps d nb
 | .box E t::ps,d,nb=>by simp only[nY,iE,kJ,DG x t,wO x ps]
 | .row E t::ps,d,nb=>by simp only[nY,iE];exact wO x ps _ nb
theorem Bi{X:Type}{b0:Nat}(x:X):∀(rs:List RK)(d:X->jp rs)(n:Nat),(rV b0 rs d n).map (λp=>(p.1,p.2 x))=ni b0 rs (d x) n
 | [],_,_=>rfl
 | .val t::rs,d,n=>by simp only[rV,ni];exact Bi x rs _ n
 | .agg t::rs,d,n=>by simp only[rV,ni,kJ,DG x t,Bi x rs]
 | .own E t::rs,d,n=>by simp only[rV,ni,fF,Bi x rs]
 | .box E t::rs,d,n=>by simp only[rV,ni,fF,kJ,DG x t,Bi x rs]
 | .fn _ _::rs,d,n=>by simp only[rV,ni];exact Bi x rs _ n
 | .arr _ _::rs,d,n=>by simp only[rV,ni];exact Bi x rs _ n
theorem N3{X:Type}(x:X):∀(l:List (Nat×Nm)),(FV (X:=X) l).map (λp=>(p.1,p.2 x))=l
 | []=>rfl
 | (n,b)::r=>by simp only[FV,fF,N3 x r]
theorem MY{ps:List PK}{rs:List RK}{a:Nat}{fz:List (Nat×Nm)}{bx:List Nat}{cx:List (Option Nat)}(y:jp rs×gk ps):(BM ps rs a fz bx cx).map (λp=>(p.1,p.2 y))=vl ps rs y a fz bx cx:=by
 unfold BM vl
 simp only[kJ,wG,Bi,wO,N3]
 cases Ba ps rs with
 | true=>simp only[N3]
 | false=>rfl
def BD:(o:OT)->(o.X->Prop)->Prop
 | .dat t,k=>BW t k
 | .row _ t,k=>∀ x:List t.D,k x
 | .rowg _ _,k=>k ()
 | .fnc _,k=>k ()
 | .ali,k=>k ()
 | .ref _ o,k=>BD o k
 | .pair a b,k=>BD a λx=>BD b λy=>k (x,y)
theorem Dp:∀{o:OT}{k:o.X->Prop},BD o k→∀ d,k d
 | .dat t,k,h,d=>Iu.1 h d
 | .row _ t,k,h,d=>h d
 | .rowg _ _,k,h,d=>h
 | .fnc _,k,h,d=>h
 | .ali,k,h,d=>h
 | .ref _ o,k,h,d=>Dp (o:=o) h d
 | .pair a b,k,h,d=>Dp (Dp (o:=a) h d.1) d.2
def AW:(rs:List RK)->(jp rs->Prop)->Prop
 | [],k=>k ()
 | .val t::r,k=>BW t λx=>AW r λy=>k (x,y)
 | .agg o::r,k=>BD o λx=>AW r λy=>k (x,y)
 | .own _ t::r,k=>∀ x:List t.D,AW r λy=>k (x,y)
 | .box _ o::r,k=>BD o λx=>AW r λy=>k (x,y)
 | .fn _ _::r,k=>AW r λy=>k ((),y)
 | .arr _ _::r,k=>∀ x:ad,AW r λy=>k (x,y)
theorem Ch:∀{rs:List RK}{k:jp rs->Prop},AW rs k→∀ d,k d
 | [],k,h,d=>h
 | .val t::r,k,h,d=>Ch (rs:=r) (Iu.1 h d.1) d.2
 | .agg o::r,k,h,d=>Ch (rs:=r) (Dp (o:=o) h d.1) d.2
 | .own _ t::r,k,h,d=>Ch (rs:=r) (h d.1) d.2
 | .box _ o::r,k,h,d=>Ch (rs:=r) (Dp (o:=o) h d.1) d.2
 | .fn _ _::r,k,h,d=>Ch (rs:=r) h d.2
 | .arr _ _::r,k,h,d=>Ch (rs:=r) (h d.1) d.2
def va:(ps:List PK)->(gk ps->Prop)->Prop
 | [],k=>k ()
 | .val _::r,k=>va r k
 | .agg _::r,k=>va r k
 | .own _ _::r,k=>va r k
 | .ago _::r,k=>va r k
 | .fn _ _::r,k=>va r k
 | .nils::r,k=>va r k
 | .yld _ _::r,k=>va r k
 | .box _ o::r,k=>BD o λx=>va r λy=>k (x,y)
 | .row _ t::r,k=>∀ x:List t.D,va r λy=>k (x,y)
theorem wW:∀{ps:List PK}{k:gk ps->Prop},va ps k→∀ d,k d
 | [],k,h,d=>h
 | .val _::r,k,h,d=>wW (ps:=r) h d
 | .agg _::r,k,h,d=>wW (ps:=r) h d
 | .own _ _::r,k,h,d=>wW (ps:=r) h d
 | .ago _::r,k,h,d=>wW (ps:=r) h d
 | .fn _ _::r,k,h,d=>wW (ps:=r) h d
 | .nils::r,k,h,d=>wW (ps:=r) h d
 | .yld _ _::r,k,h,d=>wW (ps:=r) h d
 | .box _ o::r,k,h,d=>wW (ps:=r) (Dp (o:=o) h d.1) d.2
 | .row _ t::r,k,h,d=>wW (ps:=r) (h d.1) d.2
def YV(rs:List RK)(ps:List PK):Qn (jp rs×gk ps) :=
 ⟨λk=>AW rs λy=>va ps λz=>k (y,z),λk h x=>wW (Ch h x.1) x.2,λk=>∃ x,k x,λ_ h=>h⟩
def Cn.spec(c:Cn):Spec:=λbase svs=>(gX bZ9 c.ps svs).bind λp=>match AL p.2.1 p.2.2.1 p.2.2.2 with
 | true=>u3 base (gW c.rs+jB c.ps) (.nd (jp c.rs×gk c.ps) (YV c.rs c.ps) (c.pre p.1) (c.post p.1) (c.inh p.1) (λy=>uY (lQ (p.2.2.1.headD 0) c.rs y.1 base)) (BM c.ps c.rs base p.2.1 p.2.2.1 p.2.2.2))
 | false => .fail
section
variable {w0:ca8} {N0:fI} {A A' A1 A2:Nat->Prop} {env env1 env':bi} {h h1:bZ} {w w1:ca8}
theorem Bk{a b c:Bool}{p:Prop}(h:(a&&b)=bZ3∨p):a=bZ3∨p:=by
 grind
theorem Cb{a b:Bool}{p:Prop}(h:(a&&b)=bZ3∨p):b=bZ3∨p:=by
 grind
theorem be0{al:Bool}{t:OT}{rs:List RK}{a:List SV} {x} (e:mW al (.agg t::rs) a h1=bZ1 x):∃ cs r,a = .agg cs::r:=by
 cases a with
 | nil=>cases e
 | cons s r=>cases s <;> first|exact⟨_,_,rfl⟩|cases e
theorem az9{al:Bool}{E:bZ8}{t:CT}{rs:List RK}{a:List SV} {x} (e:mW al (.own E t::rs) a h1=bZ1 x):∃ v r,a=v::r:=by
 cases a with
 | nil=>cases e
 | cons s r=>exact⟨_,_,rfl⟩
theorem aC1{al:Bool}{E:bZ8}{t:OT}{rs:List RK}{a:List SV} {x} (e:mW al (.box E t::rs) a h1=bZ1 x):∃ m r,a = .ptr m 0::r:=by
 cases a with
 | nil=>cases e
 | cons s r=>cases s <;> first|cases e;done|(rename_i m o;cases o <;> first|exact⟨_,_,rfl⟩|cases e)
theorem bx1{al:Bool}{k:cb7}{n:Nat}{rs:List RK}{svs:List SV} {x} (e:mW al (.arr k n::rs) svs h1=bZ1 x):∃ k' m xs r,svs = .arr k' m xs::r:=by
 cases svs with
 | nil=>cases e
 | cons s r=>cases s <;> first|exact⟨_,_,_,_,rfl⟩|cases e
theorem ao4{al:Bool}{f:cf8}{k:Nat}{rs:List RK}{a:List SV} {x} (e:mW al (.fn f k::rs) a h1=bZ1 x):∃ g cs r,a = .fn g cs::r:=by
 cases a with
 | nil=>cases e
 | cons s r=>cases s <;> first|exact⟨_,_,_,rfl⟩|cases e
theorem bJ6{al:Bool}{E:bZ8}{t:OT}{j:Option Nat}{a:List SV} {x} (e:oz h1 al (.ref E t) j a=bZ1 x):∃ b m r,j=bZ1 b/\a = .ptr m 0::r:=by
 cases j with
 | none=>cases a <;> cases e
 | some b =>
  cases a with
  | nil=>cases e
  | cons s r=>cases s <;> first|cases e;done|(rename_i m o;cases o <;> first|exact⟨_,_,_,rfl,rfl⟩|cases e)
theorem a34{al:Bool}{f:cf8}{j:Option Nat}{a:List SV} {x} (e:oz h1 al (.fnc f) j a=bZ1 x):∃ r,a = .fn f []::r/\x=((),r,[],[]):=by
 cases a with
 | nil=>cases e
 | cons s r =>
  cases s <;> first|cases e;done|skip
  rename_i g cs;cases cs <;> first|cases e;done|skip
  simp only[oz] at e;split at e
  .simp_all
  .cases e
theorem bz0{al:Bool}{E:bZ8}{t:CT}{j:Option Nat}{a:List SV} {x} (e:oz h1 al (.rowg E t) j a=bZ1 x):∃ v r,a=v::r:=by
 cases a with
 | nil=>cases e
 | cons s r=>exact⟨_,_,rfl⟩
theorem Xu{Nc:fI}(m1:Mod w Nc A1 env1 h1 w1)(hA:∀ b,A1 b->A2 b){E:bZ8}{t:CT}(L:t.plain=bZ3∨∀ b,A2 b->A' b){cs rest:List SV}{vs:List ca2}{ys:List t.D}{j:Option Nat}
  (e:Lf E t h1 cs=bZ1 (ys,rest,j)) (q:aM A1 env1 w1 cs vs) :
  ∃ v f,vs=v::f/\rest=cs.drop 1/\aM A1 env1 w1 rest f∧∀(g:bi)(i:Nat),g i=si env1 j->aA A' g w1 (.own i t.size) v/\lI A' env1 h1 g w1 [j] [(i,.live (.row E t ys))] i:=by
 cases cs with
 | nil=>cases e
 | cons s cs =>
 cases s with
 | own n sz =>
  simp only[Lf] at e;split at e
  .rename_i E' t' xs r;split at e
   .rename_i zs l d hc;have l:=bK l;subst l;have d:=bK d;subst d;have ⟨et,ez⟩:=kC hc;subst et;subst ez;obtain⟨rfl,rfl,rfl⟩:=e;obtain⟨x,f,rfl,hv,m⟩:=q;have o:=m1.nm n;rw[r] at o;refine⟨x,f,rfl,rfl,m,λg i c=>⟨?_,⟨rfl,_,rfl,rfl,.inl ⟨n,_,rfl,r,rfl,λk len c=>?_,λc=>?_⟩⟩,aP⟩⟩
    .simp only[si] at c;simp only[aA];rw[c];exact hv
    .obtain⟨k',h,a,p,_⟩|⟨a,_⟩:=o
     .rw[c] at a;cases a;have ⟨us,cap,g1,g2,g3,g4,g5,g6⟩:=p;exact⟨us,cap,g1,g2,g3,g4,g5,λi hi=>Jk L (iQ hA (λ_ _ _=>rfl) _ _ _ _ _ (λ_ _=>rfl) (g6 i hi))⟩
     .rw[c] at a;cases a
    .obtain⟨k',h,a,p,_⟩|⟨a,E2,t2,p⟩:=o
     .rw[c] at a;cases a
     .simp_all
   .cases e
  .cases e
 | nilsl =>
  obtain⟨rfl,rfl,rfl⟩:=e;obtain⟨x,f,rfl,rfl,m⟩:=q;refine⟨_,f,rfl,rfl,m,λg i c=>⟨?_,⟨rfl,_,rfl,rfl,.inr ⟨rfl,_,_,rfl⟩⟩,aP⟩⟩;exact .inl ⟨c,_,rfl⟩
 | _=>cases e
def tU(A':Nat->Prop)(env1:bi)(h1:bZ)(env':bi)(w1:ca8)(bx:List Nat)(j:Nat)(n:Nat)(x:Nm):Prop :=
 ∃ i b b0,bx[i]? = bZ1 n/\x = .live b/\b.mut=bZ3/\h1 (PN+(j+i)) = .live b0/\b0.mut=bZ3/\(∀ k len,env1 (PN+(j+i)) = .blk k len->kv A' env' w1 k len b)/\(env1 (PN+(j+i)) = .nil→∃ E t,b = .row E t [])
theorem tU.shift{pre bx:List Nat}{j n:Nat}{x:Nm}(h:tU A' env1 h1 env' w1 bx (j+be pre) n x):tU A' env1 h1 env' w1 (pre++bx) j n x:=by
 have ⟨i,b,b0,g1,g2,g3,a,g5,c,d⟩:=h
 rw[show j+be pre+i=j+(be pre+i) from by omega] at a c d
 exact⟨be pre+i,b,b0,by rw[nX ab,nI];exact g1,g2,g3,a,g5,c,d⟩
theorem tU.grow{bx post:List Nat}{j n:Nat}{x:Nm}(h:tU A' env1 h1 env' w1 bx j n x):tU A' env1 h1 env' w1 (bx++post) j n x:=by
 have ⟨i,b,b0,a,g2⟩:=h
 exact⟨i,b,b0,by rw[mC (ca5.1 a).1];exact a,g2⟩
theorem Oo{al:Bool}:∀(o:OT)(cs:List SV) {x},oz h1 al o bZ9 cs=bZ1 x->o.nb=0
 | .dat t,_,_,_=>rfl
 | .row _ t,_,_,_=>rfl
 | .rowg _ t,_,_,_=>rfl
 | .fnc _,_,_,_=>rfl
 | .ali,_,_,_=>rfl
 | .pair a b,cs,x,e=>by
  simp only[oz] at e;split at e
  .rename_i c;split at e
   next d=>have k1:=Oo a _ c;have k2:=Oo b _ d;simp only[OT.nb];omega
   .cases e
  .cases e
theorem au6{al:Bool}{j:Option Nat}{a:List SV} {x} (e:oz h1 al .ali j a=bZ1 x):∃ r,a = .ptr PN 0::r/\al=bZ3/\x=((),r,[],[]):=by
 cases a with
 | nil=>cases e
 | cons s r =>
  cases s with
  | ptr m off=>cases off with
   | zero =>
    have e:(match (generalizing:=false) al,ca0 m PN with|true,bZ3=>(bZ1 ((),r,[],[]):Option (Unit×List SV×List (Nat×Nm)×List (Option Nat)))|_,_=>bZ9)=bZ1 x:=by
     cases j <;> exact e
    cases hb:ca0 m PN with
    | false=>rw[hb] at e;cases al <;> cases e
    | true =>
     cases al with
     | false=>cases e
     | true =>
      simp_all
   | succ k=>cases e
  | _=>cases e
theorem Db{al:Bool}{Nc:fI}(m1:Mod w Nc A1 env1 h1 w1)(hA:∀ b,A1 b->A2 b)(b0:Nat):∀(o:OT)(j:Option Nat)(cs:List SV)(vs:List ca2)(x:o.X)(rest:List SV)(fz:List (Nat×Nm))(ow:List (Option Nat))(bx more:List Nat)(n:Nat),
  oz h1 al o j cs=bZ1 (x,rest,fz,ow)->aM A1 env1 w1 cs vs->(∀ k,iG env1 fz k->A2 k)->(o.plain=bZ3∨∀ b,A2 b->A' b)->(j=bZ9∨be bx=o.nb) →
  pJ h1 fz/\be ow=o.nr∧∃ us rs,vs=us++rs/\aM A1 env1 w1 rest rs ∧
   ((al=bZ3->env' b0=env1 PN)->(∀ k q,ow[k]? = bZ1 q->env' (n+k)=si env1 q)->(∀ j0 k q,j=bZ1 j0->bx[k]? = bZ1 q->env' q=env1 (PN+(j0+k))) →
     aM A' env' w1 (pY b0 o x (bx++more) n) us/\lI A' env1 h1 env' w1 ow (vH o x n) n/\(∀ q y,(q,y)∈nN b0 o x (bx++more) n→∃ j0,j=bZ1 j0/\tU A' env1 h1 env' w1 bx j0 q y) ∧
     (j≠bZ9→∀ q,q∈bx->q∈(nN b0 o x (bx++more) n).map (·.1)))
 | .dat t,j,cs,vs,x,rest,fz,ow,bx,more,n,e,hd,hF,L,hbl=>by
  simp only[oz] at e;split at e
  .rename_i x1 r1 f1 q1 hp;simp only[cE,cy] at e;obtain⟨rfl,rfl,rfl,rfl⟩:=e;have ⟨p1,p2,p3,p4,p5⟩:=wA m1 t cs vs x1 r1 f1 _ hp hd hA hF;refine⟨p1,rfl,vs.take t.size,vs.drop t.size,(kP _ _).symm,p5,λ_ _ _=>⟨?_,aP,λq y hh=>by simp[nN] at hh,λhj q hq=>?_⟩⟩
   .simp only[pY];refine KR (by rw[eM];omega) (Jk L ?_);refine iQ (λ_ h=>h) (λ_ _ _=>rfl) t _ _ _ _ (λk hk=>?_) p4;simp_all
   .obtain hbl|hbl:=hbl
    .exact absurd hbl hj
    .rw[cc2.1 hbl] at hq;cases hq
  .cases e
 | .row E t,j,cs,vs,x,rest,fz,ow,bx,more,n,e,hd,hF,L,hbl=>by
  simp only[oz] at e;split at e
  .rename_i x1 r1 o1 hp;simp only[cE,cy] at e;obtain⟨rfl,rfl,rfl,rfl⟩:=e;obtain⟨v,vr,rfl,-,p2,p3⟩:=Xu (A':=A') m1 hA L hp hd;refine⟨λn b hh=>by simp at hh,rfl,[v],vr,rfl,p2,λ_ ho _=>?_⟩;have ⟨k1,k2⟩:=p3 env' n (ho 0 _ rfl);refine⟨?_,k2,λq y hh=>by simp[nN] at hh,λhj q hq=>?_⟩
   .simp only[pY,aM];exact⟨v,[],rfl,k1,rfl⟩
   .obtain hbl|hbl:=hbl
    .exact absurd hbl hj
    .rw[cc2.1 hbl] at hq;cases hq
  .cases e
 | .rowg E t,j,cs0,vs,x,rest,fz,ow,bx,more,n,e,hd,hF,L,hbl=>by
  obtain⟨v,cs,rfl⟩:=bz0 e;simp only[oz,cE,cy] at e;obtain⟨-,rfl,rfl,rfl⟩:=e;simp only[aM] at hd;obtain⟨u,vr,rfl,hu,hvr⟩:=hd;refine⟨λn b hh=>by simp at hh,rfl,[u],vr,rfl,hvr,λ_ ho _=>⟨?_,aP,λq y hh=>by simp[nN] at hh,λhj q hq=>?_⟩⟩
  .simp only[pY,aM,aA];exact⟨u,[],rfl,aP,rfl⟩
  .obtain hbl|hbl:=hbl
   .exact absurd hbl hj
   .rw[cc2.1 hbl] at hq;cases hq
 | .fnc f,j,cs0,vs,x,rest,fz,ow,bx,more,n,e,hd,hF,L,hbl=>by
  obtain⟨cs,rfl,e2⟩:=a34 e;simp only[cy] at e2;obtain⟨-,rfl,rfl,rfl⟩:=e2;simp only[aM] at hd;obtain⟨u,vr,rfl,hu,hvr⟩:=hd;refine⟨λn b hh=>by simp at hh,rfl,[u],vr,rfl,hvr,λ_ ho _=>⟨?_,aP,λq y hh=>by simp[nN] at hh,λhj q hq=>?_⟩⟩
  .simp only[pY,aM];simp only[aA,aM] at hu;refine⟨u,[],rfl,?_,rfl⟩;simp only[aA,aM];exact hu
  .obtain hbl|hbl:=hbl
   .exact absurd hbl hj
   .rw[cc2.1 hbl] at hq;cases hq
 | .ali,j,cs0,vs,x,rest,fz,ow,bx,more,n,e,hd,hF,L,hbl=>by
  obtain⟨cs,rfl,hj0,e2⟩:=au6 e;simp only[cy] at e2;obtain⟨-,rfl,rfl,rfl⟩:=e2;simp only[aM,aA] at hd;obtain⟨u,vr,rfl,⟨k,len,hek,rfl⟩,hvr⟩:=hd;refine⟨λn b hh=>by simp at hh,rfl,[_],vr,rfl,hvr,λhb0 ho _=>⟨?_,aP,λq y hh=>by simp[nN] at hh,λhj q hq=>?_⟩⟩
  .simp only[pY,aM,aA];simp_all
  .obtain hbl|hbl:=hbl
   .exact absurd hbl hj
   .rw[cc2.1 hbl] at hq;cases hq
 | .ref E o,j,cs0,vs,x,rest,fz,ow,bx,more,n,e,hd,hF,L,hbl=>by
  obtain⟨j0,m,cs,rfl,rfl⟩:=bJ6 e;simp only[oz] at e;split at e
  .rename_i E' cs' hm hl;have hm:=bK hm;subst hm;split at e
   .rename_i x1 f1 w1' hE hp;have hE:=bK hE;subst hE;simp only[cE,cy] at e;obtain⟨rfl,rfl,rfl,rfl⟩:=e;simp only[aM,aA] at hd;obtain⟨u,vr,rfl,⟨kb,lb,hkb,rfl⟩,hvr⟩:=hd;have ⟨⟨us,hus,hdu⟩,_⟩:=m1.live_blk hl hkb;cases bx with
    | nil=>obtain hbl|hbl:=hbl <;> cases hbl
    | cons q0 bx =>
    have hbl':be bx=o.nb:=by
     obtain hbl|hbl:=hbl
     .cases hbl
     .simpa[OT.nb] using hbl
    have ⟨s1,s2,us',rs',s5,s6,s7⟩:=Db m1 hA b0 o (bZ1 (j0+1)) cs' us.toList x1 [] f1 w1' bx more n hp hdu hF L (.inr hbl');simp only[aM] at s6;subst s6;rw[iX] at s5;subst s5;refine⟨s1,s2,[_],vr,rfl,hvr,λh0b ho hb=>?_⟩;have h0:=hb j0 0 q0 rfl rfl;rw[kf] at h0;have ⟨k1,k2,k3,k4⟩:=s7 h0b ho (λj1 k q hj hq=>by
     cases hj;have:=hb j0 (k+1) q rfl (by simpa using hq)
     rwa [show j0+(k+1)=j0+1+k from by omega] at this)
    refine⟨?_,k2,λq y hh=>?_,λ_ q hq=>?_⟩
    .simp only[pY,kO,aM,aA];simp_all
    .simp only[nN,kO] at hh;obtain hh|hh:=dO.1 hh
     .cases hh;refine⟨j0,rfl,0,_,_,rfl,rfl,rfl,hl,rfl,λk len he=>?_,λhe=>?_⟩
      .rw[kf,hkb] at he;cases he;exact⟨us,hus,k1⟩
      .simp_all
     .have ⟨j1,hj1,hbx⟩:=k3 q y hh;cases hj1;exact⟨j0,rfl,tU.shift (pre:=[q0]) hbx⟩
    .simp only[nN,kO,fF];grind
   .cases e
  .cases e
 | .pair a b,j,cs,vs,x,rest,fz,ow,bx,more,n,e,hd,hF,L,hbl=>by
  simp only[oz] at e;split at e
  .rename_i x1 r1 f1 o1 h1';split at e
   .rename_i x2 r2 f2 o2 h2';simp only[cE,cy] at e;obtain⟨rfl,rfl,rfl,rfl⟩:=e;have hF1:∀ k,iG env1 f1 k->A2 k:=λk ⟨n,x,l,hx,he⟩=>hF k ⟨n,x,l,ip _ hx,he⟩;have hF2:∀ k,iG env1 f2 k->A2 k:=λk ⟨n,x,l,hx,he⟩=>hF k ⟨n,x,l,jv _ hx,he⟩;have La:=Bk (c:=true) L;have Lb:=Cb L;have hla:j=bZ9∨be (bx.take a.nb)=a.nb:=by
     obtain hbl|hbl:=hbl
     .exact .inl hbl
     .simp only[OT.nb] at hbl;simp_all
    have hlb:j.map (· + a.nb)=bZ9∨be (bx.drop a.nb)=b.nb:=by
     obtain hbl|hbl:=hbl
     .exact .inl (by rw[hbl];rfl)
     .simp only[OT.nb] at hbl;exact .inr (by rw[gw];omega)
    obtain⟨s1,s2,us,rs,rfl,s6,s7⟩:=Db m1 hA b0 a j cs vs x1 r1 f1 o1 (bx.take a.nb) (bx.drop a.nb++more) n h1' hd hF1 La hla;obtain⟨t1,t2,us',rs',rfl,t6,t7⟩:=Db m1 hA b0 b (j.map (· + a.nb)) r1 rs x2 r2 f2 o2 (bx.drop a.nb) more (n+a.nr) h2' s6 hF2 Lb hlb;refine⟨λn b hh=>?_,by simp only[bM,s2,t2,OT.nr],us++us',rs',by rw[fV],t6,λh0b ho hb=>?_⟩
    .obtain hh|hh:=dI.1 hh
     .exact s1 n b hh
     .exact t1 n b hh
    have eb:bx.take a.nb++(bx.drop a.nb++more)=bx++more:=by rw[← fV,kP]
    have ⟨k1,k2,k3,k4⟩:=s7 h0b (λk q hq=>ho k q (by rw[mC (ca5.1 hq).1];exact hq))
     (λj0 k q hj hq=>by
      refine hb j0 k q hj ?_;rw[wE] at hq;split at hq
      .exact hq
      .cases hq)
    have ⟨l1,l2,l3,l4⟩:=t7 h0b (λk q hq=>by
      have:=ho (a.nr+k) q (by rw[nX ab,s2,nI];exact hq)
      rwa [show n+(a.nr+k)=n+a.nr+k from by omega] at this)
     (λj1 k q hj hq=>by
      cases j with
      | none=>cases hj
      | some j0 =>
       simp only[ck3,cE] at hj;subst hj;rw[wp] at hq;have:=hb j0 (a.nb+k) q rfl hq
       rwa [show j0+(a.nb+k)=j0+a.nb+k from by omega] at this)
    rw[eb] at k1 k3 k4;have ed:(bx++more).drop a.nb=bx.drop a.nb++more:=by
     obtain hbl|hbl:=hbl
     .subst hbl;rw[Oo a _ h1',cm3,cm3]
     .simp only[OT.nb] at hbl;rw[co4 ab]
    have tl:∀ j0,j=bZ1 j0->be (bx.take a.nb)=a.nb:=λj0 hj=>by
     obtain h|h:=hla
     .rw[hj] at h;cases h
     .exact h
    rw[← ed] at l1 l3 l4;simp only[pY,nN,vH];refine⟨tF k1 l1,k2.append (by rw[s2];exact l2),λq y hh=>?_,λhj q hq=>?_⟩
    .obtain hh|hh:=dI.1 hh
     .have ⟨j0,hj,hx⟩:=k3 q y hh;refine⟨j0,hj,?_⟩;have:=hx.grow (post:=bx.drop a.nb)
      rwa [kP] at this
     .have ⟨j1,hj1,hx⟩:=l3 q y hh;cases j with
      | none=>cases hj1
      | some j0 =>
       simp only[ck3,cE] at hj1;subst hj1;refine⟨j0,rfl,?_⟩;have:=tU.shift (pre:=bx.take a.nb) (bx:=bx.drop a.nb) (j:=j0) (n:=q) (x:=y) (by rw[tl j0 rfl];exact hx)
       rwa [kP] at this
    .rw[kJ];rw[← kP a.nb bx] at hq;obtain hq|hq:=dI.1 hq
     .exact ip _ (k4 hj q hq)
     .exact jv _ (l4 (by cases j with|none=>exact absurd rfl hj|some j0=>simp) q hq)
   .cases e
  .cases e
theorem K5{b0:Nat}:∀{o:OT}{x:o.X}{bx more:List Nat}{n:Nat},be bx=o.nb→∀ q,q∈bx->q∈(nN b0 o x (bx++more) n).map (·.1)
 | .dat _,x,bx,more,n,d,q,c=>by rw[cc2.1 d] at c;cases c
 | .row _ _,x,bx,more,n,d,q,c=>by rw[cc2.1 d] at c;cases c
 | .rowg _ _,x,bx,more,n,d,q,c=>by rw[cc2.1 d] at c;cases c
 | .fnc _,x,bx,more,n,d,q,c=>by rw[cc2.1 d] at c;cases c
 | .ali,x,bx,more,n,d,q,c=>by rw[cc2.1 d] at c;cases c
 | .ref E o,x,q0::bx,more,n,d,q,c=>by
  simp only[kO,nN,fF];rcases dO.1 c with rfl|c
  .simp_all
  .exact fu _ (K5 (o:=o) (by simpa[OT.nb] using d) q c)
 | .pair a b,x,bx,more,n,d,q,c=>by
  simp only[OT.nb] at d;simp only[nN,kJ];rw[← kP a.nb bx] at c;have e1:bx++more=bx.take a.nb++(bx.drop a.nb++more):=by rw[← fV,kP]
  obtain c|c:=dI.1 c
  .refine ip _ ?_;rw[e1];exact K5 (by rw[eM];omega) q c
  .refine jv _ ?_;rw[co4 ab];exact K5 (by rw[gw];omega) q c
theorem zW{al:Bool}{Nc:fI}(m1:Mod w Nc A1 env1 h1 w1)(hA:∀ b,A1 b->A2 b)(b0:Nat):∀(rs:List RK)(d:jp rs)(svs:List SV)(vs:List ca2)(fz:List (Nat×Nm))(ow:List (Option Nat))(n:Nat),
  mW al rs svs h1=bZ1 (d,fz,ow)->aM A1 env1 w1 svs vs->(∀ k,iG env1 fz k->A2 k)->(uw rs=bZ3∨∀ b,A2 b->A' b) →
  pJ h1 fz/\be ow=gW rs/\((al=bZ3->env' b0=env1 PN)->(∀ i o,ow[i]? = bZ1 o->env' (n+i)=si env1 o)->aM A' env' w1 (lQ b0 rs d n) vs/\lI A' env1 h1 env' w1 ow (ni b0 rs d n) n)
 | [],d,[],vs,fz,ow,n,e,hd,hF,L=>by
  simp only[mW,cE,cy] at e;obtain⟨-,rfl,rfl⟩:=e;exact⟨λn b hh=>by simp at hh,rfl,λ_ _=>⟨by simpa[lQ,aM] using hd,aP⟩⟩
 | .val t::rs,d,v::svs,vs,fz,ow,n,e,hd,hF,L=>by
  simp only[mW] at e;split at e
  .rename_i x f1 q hp;split at e
   .rename_i ps f2 o hr;simp only[cE,cy] at e;obtain⟨rfl,rfl,rfl⟩:=e;simp only[aM] at hd;obtain⟨u,vr,rfl,hu,hvr⟩:=hd;have hF1:∀ k,iG env1 f1 k->A2 k:=λk ⟨n,x,l,hx,he⟩=>hF k ⟨n,x,l,ip _ hx,he⟩;have hF2:∀ k,iG env1 f2 k->A2 k:=λk ⟨n,x,l,hx,he⟩=>hF k ⟨n,x,l,jv _ hx,he⟩;have ⟨p1,_,p3,p4,_⟩:=wA m1 t [v] [u] x [] f1 _ hp (by simp only[aM];exact⟨u,[],rfl,hu,rfl⟩) hA hF1;have ⟨s1,s2,s3⟩:=zW m1 hA b0 rs ps svs vr f2 o n hr hvr hF2 (Cb L);refine⟨λn b hh=>?_,s2,λhal he=>?_⟩
    .obtain hh|hh:=dI.1 hh
     .exact p1 n b hh
     .exact s1 n b hh
    .have ⟨k1,k2⟩:=s3 hal he;refine⟨?_,k2⟩;simp only[lQ,aM];exact⟨u,vr,rfl,NS (rest:=[]) (Jk (Bk (c:=true) L) p4),k1⟩
   .cases e
  .cases e
 | .arr k len::rs,d,svs0,vs,fz,ow,n,e,hd,hF,L=>by
  obtain⟨k',len',xs,svs,rfl⟩:=bx1 e;simp only[mW] at e;split at e
  next y f1 o hk hl hr=>have hk:=j6 hk;have hl:=bK hl;subst hk hl;simp only[cE,cy] at e;obtain⟨rfl,rfl,rfl⟩:=e;simp only[aM,aA] at hd;obtain⟨u,vr,rfl,hu,hvr⟩:=hd;have ⟨s1,s2,s3⟩:=zW m1 hA b0 rs y svs vr f1 o n hr hvr hF (by simpa only[uw] using L);refine⟨s1,s2,λhal he=>?_⟩;have ⟨k1,k2⟩:=s3 hal he;refine⟨?_,k2⟩;simp only[lQ,aM,aA];exact⟨u,vr,rfl,hu,k1⟩
  .cases e
 | .agg t::rs,d,svs0,vs,fz,ow,n,e,hd,hF,L=>by
  obtain⟨cs,svs,rfl⟩:=be0 e;simp only[mW] at e;split at e
  .rename_i x f1 w' hp;split at e
   .rename_i ps f2 o hr;simp only[cE,cy] at e;obtain⟨rfl,rfl,rfl⟩:=e;simp only[aM,aA] at hd;obtain⟨u,vr,rfl,⟨us,rfl,hu⟩,hvr⟩:=hd;have hF1:∀ k,iG env1 f1 k->A2 k:=λk ⟨n,x,l,hx,he⟩=>hF k ⟨n,x,l,ip _ hx,he⟩;have hF2:∀ k,iG env1 f2 k->A2 k:=λk ⟨n,x,l,hx,he⟩=>hF k ⟨n,x,l,jv _ hx,he⟩;have ⟨p1,p2,us',rs',p3,p4,p5⟩:=Db (env':=env') m1 hA b0 t bZ9 cs us.toList x [] f1 w' [] [] n hp hu hF1 (Bk (c:=true) L) (.inl rfl);simp only[aM] at p4;subst p4;rw[iX] at p3;subst p3;have ⟨s1,s2,s3⟩:=zW m1 hA b0 rs ps svs vr f2 o (n+t.nr) hr hvr hF2 (Cb L);refine⟨λn b hh=>?_,by simp only[bM,p2,s2,gW];omega,λhal he=>?_⟩
    .obtain hh|hh:=dI.1 hh
     .exact p1 n b hh
     .exact s1 n b hh
    .have ⟨l1,l2,_⟩:=p5 hal (λk q hq=>he k q (by rw[mC (ca5.1 hq).1];exact hq)) (λj0 k q hj _=>by cases hj);have ⟨k1,k2⟩:=s3 hal (λk q hq=>by
      have:=he (t.nr+k) q (by rw[nX ab,p2,nI];exact hq)
      rwa [show n+(t.nr+k)=n+t.nr+k from by omega] at this)
     simp only[lQ,ni,aM,aA];exact⟨⟨_,vr,rfl,⟨us,rfl,l1⟩,k1⟩,l2.append (by rw[p2];exact k2)⟩
   .cases e
  .cases e
 | .own E t::rs,d,svs0,vs,fz,ow,n,e,hd,hF,L=>by
  obtain⟨v,svs,rfl⟩:=az9 e;simp only[mW] at e;split at e
  .rename_i x r1 w' hp;split at e
   next ps f2 o hr=>simp only[cE,cy] at e;obtain⟨rfl,rfl,rfl⟩:=e;simp only[aM] at hd;obtain⟨u,vr,rfl,hu,hvr⟩:=hd;obtain⟨v',vr',p1,-,-,p3⟩:=Xu (A':=A') m1 hA (Bk (c:=true) L) hp (vs:=[u]) (by simp only[aM];exact⟨u,[],rfl,hu,rfl⟩);cases p1;have ⟨s1,s2,s3⟩:=zW m1 hA b0 rs ps svs vr f2 o (n+1) hr hvr hF (Cb L);refine⟨s1,by simp only[cX,s2,gW],λhal he=>?_⟩;have ⟨l1,l2⟩:=p3 env' n (he 0 _ rfl);have ⟨k1,k2⟩:=s3 hal (λk q hq=>by have:=he (k+1) q (by simpa using hq);rwa [show n+(k+1)=n+1+k from by omega] at this);simp only[lQ,ni,aM];exact⟨⟨u,vr,rfl,l1,k1⟩,l2.1,k2⟩
   .cases e
  .cases e
 | .box E t::rs,d,svs0,vs,fz,ow,n,e,hd,hF,L=>by
  obtain⟨q,svs,rfl⟩:=aC1 e;simp only[mW] at e;split at e
  .rename_i E' cs hl;split at e
   .rename_i x f1 w' hE hp;have hE:=bK hE;subst hE;split at e
    .rename_i ps f2 o hr;simp only[cE,cy] at e;obtain⟨rfl,rfl,rfl⟩:=e;simp only[aM,aA] at hd;obtain⟨u,vr,rfl,⟨kb,lb,hkb,rfl⟩,hvr⟩:=hd;have ⟨⟨us,hus,hdu⟩,_⟩:=m1.live_blk hl hkb;have hF1:∀ k,iG env1 f1 k->A2 k:=λk ⟨n,x,l,hx,he⟩=>hF k ⟨n,x,l,ip _ hx,he⟩;have hF2:∀ k,iG env1 f2 k->A2 k:=λk ⟨n,x,l,hx,he⟩=>hF k ⟨n,x,l,jv _ hx,he⟩;have ⟨p1,p2,us',rs',p3,p4,p5⟩:=Db (env':=env') m1 hA b0 t bZ9 cs us.toList x [] f1 w' [] [] (n+1) hp hdu hF1 (Bk (c:=true) L) (.inl rfl);simp only[aM] at p4;subst p4;rw[iX] at p3;subst p3;have ⟨s1,s2,s3⟩:=zW m1 hA b0 rs ps svs vr f2 o (n+1+t.nr) hr hvr hF2 (Cb L);refine⟨λn b hh=>?_,by simp only[cX,bM,p2,s2,gW];omega,λhal he=>?_⟩
     .obtain hh|hh:=dI.1 hh
      .exact p1 n b hh
      .exact s1 n b hh
     .have h0:=he 0 (bZ1 q) rfl;simp only[kf,si] at h0;have he':∀ k q',(w'++o)[k]? = bZ1 q'→env' (n+1+k)=si env1 q':=λk q' hq=>by
       have:=he (k+1) q' (by simpa using hq);rwa [show n+(k+1)=n+1+k from by omega] at this
      have ⟨l1,l2,_⟩:=p5 hal (λk q hq=>he' k q (by rw[mC (ca5.1 hq).1];exact hq)) (λj0 k q hj _=>by cases hj);have ⟨k1,k2⟩:=s3 hal (λk q hq=>by
       have:=he' (t.nr+k) q (by rw[nX ab,p2,nI];exact hq)
       rwa [show n+1+(t.nr+k)=n+1+t.nr+k from by omega] at this)
      simp only[lQ,ni,aM,aA];refine⟨⟨_,vr,rfl,⟨kb,lb,by rw[h0];exact hkb,rfl⟩,k1⟩,⟨rfl,_,rfl,rfl,.inl ⟨q,_,rfl,hl,rfl,λk len hk=>?_,λhk=>?_⟩⟩,l2.append (by rw[p2];exact k2)⟩
      .rw[hkb] at hk;cases hk;exact⟨us,hus,l1⟩
      .rw[hkb] at hk;cases hk
    .cases e
   .cases e
  .cases e
 | .fn f k::rs,d,svs0,vs,fz,ow,n,e,hd,hF,L=>by
  obtain⟨g,cs,svs,rfl⟩:=ao4 e;simp only[mW] at e;split at e
  .rename_i hf hk;have hf:=bK hf;have hk:=bK hk;subst hf;split at e
   .rename_i ps f2 o hr;simp only[cE,cy] at e;obtain⟨rfl,rfl,rfl⟩:=e;simp only[aM,aA] at hd;obtain⟨x,vr,rfl,⟨us,rfl,hu⟩,hvr⟩:=hd;have hul:=jb hu;have ⟨s1,s2,s3⟩:=zW m1 hA b0 rs ps (cs++svs) (us.toList++vr) f2 o n hr (tF hu hvr) hF L;refine⟨s1,s2,λhal he=>?_⟩;have ⟨k1,k2⟩:=s3 hal he;refine⟨?_,k2⟩;simp only[lQ,aM,aA];refine⟨_,vr,rfl,⟨us,rfl,?_⟩,?_⟩
    .have:=A7 k k1
     rwa [List.take_left' ab] at this
    .have:=B8 k k1
     rwa [List.drop_left' ab] at this
   .cases e
  .cases e
 | [],_,_::_,_,_,_,_,e,_,_,_=>by cases e
 | .val _::_,_,[],_,_,_,_,e,_,_,_=>by cases e
def jz:List PK->Nat
 | []=>0
 | .val _::r=>jz r
 | .agg _::r=>jz r
 | .own _ _::r=>jz r
 | .ago _::r=>jz r
 | .fn _ _::r=>jz r
 | .nils::r=>jz r
 | .yld _ _::r=>jz r
 | .box _ o::r=>o.nb+jz r+1
 | .row _ _::r=>jz r+1
theorem In:∀{o:OT}{d:o.D}{j i:Nat},be (zz o d j i)=o.nb
 | .dat _,_,_,_=>rfl
 | .row _ _,_,_,_=>rfl
 | .rowg _ _,_,_,_=>rfl
 | .fnc _,_,_,_=>rfl
 | .ali,_,_,_=>rfl
 | .ref _ o,d,j,i=>by simp only[zz,cX,In (o:=o),OT.nb]
 | .pair a b,d,j,i=>by simp only[zz,bM,In,In,OT.nb]
theorem w7:∀{ps:List PK}{d:bw ps}{j i:Nat},be (qk ps d j i)=jz ps
 | [],_,_,_=>rfl
 | .val t::ps,d,j,i=>w7 (ps:=ps)
 | .agg t::ps,d,j,i=>w7 (ps:=ps)
 | .own _ t::ps,d,j,i=>w7 (ps:=ps)
 | .ago _::ps,d,j,i=>w7 (ps:=ps)
 | .fn _ _::ps,d,j,i=>w7 (ps:=ps)
 | .nils::ps,d,j,i=>w7 (ps:=ps)
 | .yld _ _::ps,d,j,i=>w7 (ps:=ps)
 | .box E o::ps,d,j,i=>by simp only[qk,cX,bM,In,w7 (ps:=ps),jz]
 | .row E t::ps,d,j,i=>by simp only[qk,cX,w7 (ps:=ps),jz]
theorem vu{Nc:fI}(m1:Mod w Nc A1 env1 h1 w1)(hA:∀ b,A1 b->A2 b)(b0:Nat):∀(ps:List PK)(d:gk ps)(fz:List (Nat×Nm))(ow:List (Option Nat))(bx:List Nat)(j n:Nat),
  mK ps j h1=bZ1 (d,fz,ow)->(∀ k,iG env1 fz k->A2 k)->(nk ps=bZ3∨∀ b,A2 b->A' b)->be bx=jz ps →
  pJ h1 fz/\be ow=jB ps/\((bx≠[]->env' b0=env1 PN)->(∀ k q,ow[k]? = bZ1 q->env' (n+k)=si env1 q)->(∀ k q,bx[k]? = bZ1 q->env' q=env1 (PN+(j+k))) →
   lI A' env1 h1 env' w1 ow (iE ps d n) n/\(∀ q x,(q,x)∈gC b0 ps d bx n->tU A' env1 h1 env' w1 bx j q x))∧∀ q,q∈bx->q∈(gC b0 ps d bx n).map (·.1)
 | [],d,fz,ow,bx,j,n,e,hF,L,hl=>by
  simp only[mK,cE,cy] at e;obtain⟨-,rfl,rfl⟩:=e;simp only[jz,cc2] at hl;subst hl;exact⟨λn b hh=>by simp at hh,rfl,λ_ _ _=>⟨aP,λq x hh=>by simp[gC] at hh⟩,λq hh=>by simp at hh⟩
 | .val t::ps,d,fz,ow,bx,j,n,e,hF,L,hl=>by
  simp only[gC,iE,jB];exact vu m1 hA b0 ps d fz ow bx j n (by simpa only[mK] using e) hF (by simpa only[nk] using L) (by simpa only[jz] using hl)
 | .agg t::ps,d,fz,ow,bx,j,n,e,hF,L,hl=>by
  simp only[gC,iE,jB];exact vu m1 hA b0 ps d fz ow bx j n (by simpa only[mK] using e) hF (by simpa only[nk] using L) (by simpa only[jz] using hl)
 | .own _ t::ps,d,fz,ow,bx,j,n,e,hF,L,hl=>by
  simp only[gC,iE,jB];exact vu m1 hA b0 ps d fz ow bx j n (by simpa only[mK] using e) hF (by simpa only[nk] using L) (by simpa only[jz] using hl)
 | .ago _::ps,d,fz,ow,bx,j,n,e,hF,L,hl=>by
  simp only[gC,iE,jB];exact vu m1 hA b0 ps d fz ow bx j n (by simpa only[mK] using e) hF (by simpa only[nk] using L) (by simpa only[jz] using hl)
 | .fn _ _::ps,d,fz,ow,bx,j,n,e,hF,L,hl=>by
  simp only[gC,iE,jB];exact vu m1 hA b0 ps d fz ow bx j n (by simpa only[mK] using e) hF (by simpa only[nk] using L) (by simpa only[jz] using hl)
 | .nils::ps,d,fz,ow,bx,j,n,e,hF,L,hl=>by
  simp only[gC,iE,jB];exact vu m1 hA b0 ps d fz ow bx j n (by simpa only[mK] using e) hF (by simpa only[nk] using L) (by simpa only[jz] using hl)
 | .yld _ _::ps,d,fz,ow,bx,j,n,e,hF,L,hl=>by
  simp only[gC,iE,jB];exact vu m1 hA b0 ps d fz ow bx j n (by simpa only[mK] using e) hF (by simpa only[nk] using L) (by simpa only[jz] using hl)
 | .box E o::ps,d,fz,ow,bx,j,n,e,hF,L,hl=>by
  cases bx with
  | nil=>simp[jz] at hl
  | cons n0 bx =>
  simp only[mK] at e;split at e
  .rename_i E' cs hlk;split at e
   .rename_i x f1 w' hE hp;have hE:=bK hE;subst hE;split at e
    .rename_i ps' f2 ow2 hr;simp only[cE,cy] at e;obtain⟨rfl,rfl,rfl⟩:=e;simp only[cX,jz] at hl;have hF1:∀ k,iG env1 f1 k->A2 k:=λk ⟨n,x,l,hx,he⟩=>hF k ⟨n,x,l,ip _ hx,he⟩;have hF2:∀ k,iG env1 f2 k->A2 k:=λk ⟨n,x,l,hx,he⟩=>hF k ⟨n,x,l,jv _ hx,he⟩;have hlt:be (bx.take o.nb)=o.nb:=by rw[eM];omega
     have eb:bx.take o.nb++bx.drop o.nb=bx:=kP ..;have ⟨s1,s2,s3,s4⟩:=vu m1 hA b0 ps ps' f2 ow2 (bx.drop o.nb) (j+1+o.nb) (n+o.nr) hr hF2 (Cb L) (by rw[gw];omega);have hm:=m1.nm (PN+j);rw[hlk] at hm;have hbd:∃ kb lb us,env1 (PN+j) = .blk kb lb/\w1.heap[kb]? = bZ1 (.cells us E (0,0))/\aM A1 env1 w1 cs us.toList:=by
      obtain⟨k',len',he',⟨us,hus,hdu⟩,_⟩|⟨he',_,_,hb|hb⟩:=hm
      .exact⟨k',len',us,he',hus,hdu⟩
      .cases hb
      .cases hb
     have ⟨kb,lb,us,hkb,hus,hdu⟩:=hbd;have ⟨p1,p2,us',rs',p3,p4,p5⟩:=Db (al:=true) (env':=env') m1 hA b0 o (bZ1 (j+1)) cs us.toList x [] f1 w' (bx.take o.nb) (bx.drop o.nb) n hp hdu hF1 (Bk (c:=true) L) (.inr hlt);simp only[aM] at p4;subst p4;rw[iX] at p3;subst p3;rw[eb] at p5;refine⟨λn b hh=>?_,by simp only[bM,p2,s2,jB];omega,λh0b ho hb=>?_,λq hq=>?_⟩
     .obtain hh|hh:=dI.1 hh
      .exact p1 n b hh
      .exact s1 n b hh
     .have ⟨l1,l2,l3,_⟩:=p5 (λ_=>h0b az) (λk q hq=>ho k q (by rw[mC (ca5.1 hq).1];exact hq))
       (λj0 k q hj hq=>by
        cases hj;rw[wE] at hq;split at hq
        .have:=hb (k+1) q (by simpa using hq)
         rwa [show j+(k+1)=j+1+k from by omega] at this
        .cases hq)
      have ⟨k1,k2⟩:=s3 (λ_=>h0b az) (λk q hq=>by
        have:=ho (o.nr+k) q (by rw[nX ab,p2,nI];exact hq)
        rwa [show n+(o.nr+k)=n+o.nr+k from by omega] at this)
       (λk q hq=>by
        rw[wp] at hq;have:=hb (o.nb+k+1) q (by simpa using hq)
        rwa [show j+(o.nb+k+1)=j+1+o.nb+k from by omega] at this)
      simp only[iE,gC];refine⟨l2.append (by rw[p2];exact k1),λq y hh=>?_⟩;obtain hh|hh:=dO.1 hh
      .cases hh;refine⟨0,_,_,rfl,rfl,rfl,hlk,rfl,λk len he=>?_,λhe=>?_⟩
       .rw[kf,hkb] at he;cases he;exact⟨us,hus,l1⟩
       .rw[kf,hkb] at he;cases he
      .obtain hh|hh:=dI.1 hh
       .have ⟨j0,hj,hx⟩:=l3 q y hh;cases hj;have:=(tU.shift (pre:=[n0]) (j:=j) hx).grow (post:=bx.drop o.nb)
        rwa [fV,eb] at this
       .have:=tU.shift (pre:=n0::bx.take o.nb) (bx:=bx.drop o.nb) (j:=j) (n:=q) (x:=y) (by rw[cX,hlt,show j+(o.nb+1)=j+1+o.nb from by omega];exact k2 q y hh)
        rwa [kO,eb] at this
     .simp only[gC,fF,kJ];obtain rfl|hq:=dO.1 hq
      .exact eV ..
      .refine fu _ ?_;rw[← eb] at hq;obtain hq|hq:=dI.1 hq
       .refine ip _ ?_;have:=K5 (b0:=b0) (o:=o) (x:=x) (n:=n) (more:=bx.drop o.nb) hlt q hq
        rwa [eb] at this
       .exact jv _ (s4 q hq)
    .cases e
   .cases e
  .cases e
 | .row E t::ps,d,fz,ow,bx,j,n,e,hF,L,hl=>by
  cases bx with
  | nil=>simp[jz] at hl
  | cons n0 bx =>
  simp only[mK] at e;split at e
  .rename_i E' t' xs hlk;split at e
   .rename_i ys hE hcl;have hE:=bK hE;subst hE;have ⟨et,ez⟩:=kC hcl;subst et;simp only at ez;subst ez;split at e
    .rename_i ps' f2 ow2 hr;simp only[cE,cy] at e;obtain⟨rfl,rfl,rfl⟩:=e;have ⟨s1,s2,s3,s4⟩:=vu m1 hA b0 ps ps' f2 ow2 bx (j+1) n hr hF (Cb L) (by simpa[jz] using hl);have hm:=m1.nm (PN+j);rw[hlk] at hm;refine⟨s1,s2,λh0b ho hb=>?_,λq hq=>?_⟩
     .have ⟨k1,k2⟩:=s3 (λ_=>h0b az) ho (λk q hq=>by have:=hb (k+1) q (by simpa using hq);rwa [show j+(k+1)=j+1+k from by omega] at this);simp only[iE,gC];refine⟨k1,λq y hh=>?_⟩;obtain hh|hh:=dO.1 hh
      .cases hh;refine⟨0,_,_,rfl,rfl,rfl,hlk,rfl,λk len he=>?_,λhe=>?_⟩
       .obtain⟨k',len',he',hb,_⟩|⟨he',_⟩:=hm
        .rw[kf] at he;rw[he] at he';cases he';have ⟨us,cap,g1,g2,g3,g4,g5,g6⟩:=hb;exact⟨us,cap,g1,g2,g3,g4,g5,λi hi=>Jk (Bk (c:=true) L) (iQ hA (λ_ _ _=>rfl) _ _ _ _ _ (λ_ _=>rfl) (g6 i hi))⟩
        .rw[kf] at he;rw[he] at he';cases he'
       .obtain⟨k',len',he',hb,_⟩|⟨he',E2,t2,hb⟩:=hm
        .rw[kf] at he;rw[he] at he';cases he'
        .obtain hb|hb:=hb <;> cases hb;exact⟨_,_,rfl⟩
      .exact tU.shift (pre:=[n0]) (k2 q y hh)
     .simp only[gC,fF];obtain rfl|hq:=dO.1 hq
      .exact eV ..
      .exact fu _ (s4 q hq)
    .cases e
   .cases e
  .cases e
end
end Go.SX
namespace Go.SX
def l6:List Nat->Nat->Rn
 | [],_=>[]
 | n::bx,j=>(n,bZ1 (PN+j))::l6 bx (j+1)
def mT:List (Option Nat)->Nat->Rn
 | [],_=>[]
 | o::r,n=>(n,o)::mT r (n+1)
theorem Qr{a b:Rn}{n:Nat}:cR (a++b) n=(match cR a n with|some x=>bZ1 x|none=>cR b n):=by
 induction a with
 | nil=>rfl
 | cons p a ih =>
  have ⟨m,x⟩:=p;simp only[kO,sW];grind
theorem LD:∀{bx:List Nat}{j n:Nat}{y:Option Nat},cR (l6 bx j) n=bZ1 y→∃ i,bx[i]? = bZ1 n/\y=bZ1 (PN+(j+i))
 | m::bx,j,n,y,h=>by
  simp only[l6,sW] at h;split at h
  next e=>cases h;exact⟨0,by simp[e],rfl⟩
  .obtain⟨i,h1,h2⟩:=LD h;exact⟨i+1,by simpa using h1,by rw[h2,show j+1+i=j+(i+1) from by omega]⟩
theorem Ry:∀{bx:List Nat}{j n i:Nat},bx.Nodup->bx[i]? = bZ1 n->cR (l6 bx j) n=bZ1 (bZ1 (PN+(j+i)))
 | m::bx,j,n,0,_,h=>by
  simp at h;subst h;simp only[l6,sW,aj,kf]
 | m::bx,j,n,i+1,hn,h=>by
  have b:bx[i]? = bZ1 n:=by simpa using h
  have ⟨h1,h2⟩:=List.nodup_cons.1 hn;have a:n≠m:=λe=>h1 (e▸rS b);simp only[l6,sW,ah a,Ry h2 b];grind
theorem bF2{bx:List Nat}{j n:Nat}(h:n ∉ bx):cR (l6 bx j) n=none:=by
 cases hl:cR (l6 bx j) n with
 | none=>rfl
 | some y=>have ⟨i,hi,_⟩:=LD hl;exact absurd (rS hi) h
theorem Sr:∀{a:List (Option Nat)}{n0 n:Nat}{y:Option Nat},cR (mT a n0) n=bZ1 y→∃ i,a[i]? = bZ1 y/\n=n0+i
 | o::a,n0,n,y,h=>by
  simp only[mT,sW] at h;split at h
  .simp_all
  .obtain⟨i,h1,h2⟩:=Sr h;exact⟨i+1,by simpa using h1,ab⟩
theorem RL:∀{a:List (Option Nat)}{n0 i:Nat}{o:Option Nat},a[i]? = bZ1 o->cR (mT a n0) (n0+i)=bZ1 o
 | p::a,n0,0,o,h=>by simp at h;subst h;simp[mT,sW]
 | p::a,n0,i+1,o,h=>by
  have h':a[i]? = bZ1 o:=by simpa using h
  have:=RL (n0:=n0+1) h';simp only[mT,sW,ah (show ¬ n0+(i+1)=n0 from by omega)];grind
theorem Qb{n:Nat}:∀{l:List (Option Nat)},AB n l=bZ3↔bZ1 n∈l
 | []=>by simp[AB]
 | none::r=>by simp[AB,Qb (l:=r)]
 | some m::r=>by simp[AB,Qb]
theorem Qe{fz:List (Nat×Nm)}:∀{a:List (Option Nat)},Ad fz a=bZ3→∀(i m:Nat),a[i]? = bZ1 (bZ1 m)->(m<PN∨QN<=m)/\m ∉ fz.map (·.1)∧∀ i':Nat,a[i']? = bZ1 (bZ1 m)->i=i'
 | none::r,h,i,m,hi=>by
  simp only[Ad] at h;cases i with
  | zero=>simp at hi
  | succ i =>
   obtain⟨c,d,b⟩:=Qe h i m (by simpa using hi);grind
 | some q::r,h,i,m,hi=>by
  simp only[Ad,fx,sS,qE] at h;have ⟨⟨⟨c,d⟩,b⟩,h4⟩:=h;have hno:∀ i,r[i]? ≠ bZ1 (bZ1 q):=λi hi=>by
   have:AB q r=true:=Qb.2 (rS hi);rw[this] at b;cases b
  cases i with
  | zero =>
   simp at hi;subst hi;refine⟨c.imp (λh=>md h) (λh=>md h),DO d,λi' hi'=>?_⟩;grind
  | succ i =>
   have ⟨g1,g2,g3⟩:=Qe h4 i m (by simpa using hi);grind
theorem Sa:∀{fz:List (Nat×Nm)},Ey fz=bZ3→∀ n,n∈fz.map (·.1)->n<PN∨QN<=n
 | (m,b)::r,h,n,a=>by
  simp only[Ey,fx,sS] at h;obtain e|a:=dO.1 a
  .simp_all
  .exact Sa h.2 n a
theorem Xj{fz:List (Nat×Nm)}:∀{bx:List Nat},FZ fz bx=bZ3→∀ n,n∈bx->n ∉ fz.map (·.1)
 | m::r,h,n,a=>by
  simp only[FZ,fx] at h;obtain rfl|a:=dO.1 a
  .exact DO h.1
  .exact Xj h.2 n a
theorem Cq{h:bZ}{b d:Dl}:∀{k n:Nat}{r:List Nat},(u3 n k b).run h=bZ1 (d,r)->d=b∧∀ i,i<k->h (n+i) = .un
 | 0,n,r,e=>by
  simp only[u3,Q.run,cE,cy] at e;simp_all
 | k+1,n,r,e=>by
  simp only[u3,Q.run] at e;split at e
  .rename_i p q hk;obtain⟨rfl,rfl⟩:=e;split at hk
   .rename_i a;have ⟨h1,h2⟩:=Cq hk;refine⟨h1,λi hi=>?_⟩;cases i with
    | zero=>exact a
    | succ i=>rw[show n+(i+1)=n+1+i from by omega];exact h2 i ab
   .cases hk
  .cases e
theorem LF{n:Nat}{x:Nm}:∀{cx:List (Option Nat)},(n,x)∈th cx->x = .dead/\n∈lO cx
 | none::r,h=>by simp only[th] at h;simpa only[lO] using LF (cx:=r) h
 | some m::r,h=>by
  obtain h|h:=dO.1 h
  .cases h;exact⟨rfl,eV ..⟩
  .have ⟨h1,h2⟩:=LF h;exact⟨h1,fu _ h2⟩
theorem P2:∀{cx:List (Option Nat)},(th cx).map (·.1)=lO cx
 | []=>rfl
 | none::r=>by simp only[th,lO];exact P2 (cx:=r)
 | some m::r=>by simp only[th,lO,fF,P2]
def NT(P:ca7)(ty:bZ8)(v:SV)(h:bZ):Option SV:=match v with
 | .ptr n off=>match h n with
  | .live (.cells _ cs)=>mU P ty cs off
  | .live (.ary _ k l xs)=>match sG P ty,f9 P ty,off with
   | some bZ3,bZ1 m,0=>match ca0 m l with
    | true=>bZ1 (.arr k l xs)
    | false=>bZ9
   | _,_,_=>bZ9
  | _=>bZ9
 | _=>bZ9
def yP(P:ca7):List cv6->List SV->bZ->Option (List SV)
 | [],_,_=>bZ1 []
 | .tmp t::r,sl,h=>match yP P r sl h with
  | some l=>bZ1 (d9 sl t::l)
  | none=>bZ9
 | .cell a ty::r,sl,h=>match NT P ty (d9 sl a) h,yP P r sl h with
  | some v,bZ1 l=>bZ1 (v::l)
  | _,_=>bZ9
def G9(l:List ca2):ca2:=if h:l.toArray.size=1 then l.toArray[0] else .tuple l.toArray
theorem aq3{P:ca7}{w0:ca8}{N0:fI}{A:Nat->Prop}{env:bi}{h:bZ}{w:ca8}(m:Mod w0 N0 A env h w){ty:bZ8}{s g:SV}{v:ca2}(e:NT P ty s h=bZ1 g)(a:aA A env w s v) :
  ∃ u,(do loadVar ty (← cA3 v):Sem ca2).run P w = .ok u w/\aA A env w g u:=by
 unfold NT at e
 split at e
 next n off=>
  split at e
  next E cs hl=>obtain⟨b,l,d,rfl⟩:=a;have ⟨⟨vs,hh,a⟩,_⟩:=m.live_blk hl d;obtain⟨u,c,f⟩:=Be (o:=0) e a (λj hj=>by rw[cell_of_row w b _ vs E (0,0) hh];simp);rw[gJ] at c;exact⟨u,by simp[cA3,c],f⟩
  .rename_i E k len xs hl;split at e
   .rename_i mm ha hs;split at e
    .rename_i i;cases e;have i:=bK i;obtain⟨b,l,d,rfl⟩:=a;have ⟨⟨_,hn,vs,hh,a⟩,_⟩:=m.live_blk hl d;have hp:mU P ty (xs.map (.int k)) 0=bZ1 (.agg (xs.map (.int k))):=by
      unfold mU;have:cd9 (0+mm) (be (xs.map (SV.int k)))=true:=by rw[Nat.ble_eq];simp;omega
      grind
     obtain⟨u,c,f⟩:=Be (o:=0) hp a (λj hj=>by rw[cell_of_row w b _ vs E (0,0) hh];simp);refine⟨u,by simp[cA3,c],?_⟩;obtain⟨us,rfl,a⟩:=f;have ⟨h1,h2⟩:=yA a;exact⟨by rw[← h1],hn,h2⟩
    .cases e
   .cases e
  .cases e
 .cases e
theorem QA{P:ca7}{w0:ca8}{N0:fI}{A:Nat->Prop}{env:bi}{h:bZ}{w:ca8}(m:Mod w0 N0 A env h w){j:List SV}{a:Act}(f:FD A env w (d9 j) a){F:cv6->Sem ca2}
  (k:∀ t,F (.tmp t)=pure (a.tmps.getD t undef)) (c:∀ t ty,F (.cell t ty)=do loadVar ty (← cA3 (a.tmps.getD t undef))):∀(l:List cv6)(b:List SV),yP P l j h=bZ1 b →
  ∃ vs,(l.mapM F).run P w = .ok vs w/\aM A env w b vs
 | [],b,e=>by cases e;exact⟨[],rfl,by simp[aM]⟩
 | .tmp t::l,b,e=>by
  simp only[yP] at e;split at e
  next d hl=>cases e;obtain⟨vs,n,g⟩:=QA m f k c l d hl;refine⟨a.tmps.getD t undef::vs,?_,by simp only[aM];exact⟨_,_,rfl,f t,g⟩⟩;simp_all
  .cases e
 | .cell t ty::l,b,e=>by
  simp only[yP] at e;split at e
  next v d hv hl=>cases e;have ⟨vs,n,g⟩:=QA m f k c l d hl;have ⟨u,hu,i⟩:=aq3 m hv (f t);refine⟨u::vs,?_,by simp only[aM];exact⟨_,_,rfl,i,g⟩⟩;rw[List.mapM_cons,c,ca6,hu];simp[n]
  .cases e
theorem bI6{P:ca7}{w0:ca8}{N0:fI}{A:Nat->Prop}{env:bi}{h:bZ}{w:ca8}(m:Mod w0 N0 A env h w){d:List SV}{a:Act}(f:FD A env w (d9 d) a){c:cr0}{b:List SV}(e:yP P c.results.toList d h=bZ1 b) :
  ∃ vs,(results c a.tmps).run P w = .ok (G9 vs) w/\aM A env w b vs:=by
 unfold results
 rw[Array.mapM_eq_mapM_toList]
 have ⟨vs,hr,hd⟩:=QA m f (F:=fun | .tmp t=>pure (a.tmps.getD t undef) | .cell t ty=>do loadVar ty (← cA3 (a.tmps.getD t undef))) (λt=>rfl) (λt ty=>rfl) c.results.toList b e
 refine⟨vs,?_,hd⟩
 rw[ca6,Sem.run_map]
 erw [hr]
 rfl
theorem aX0{A:Nat->Prop}{env:bi}{w:ca8}{a:List SV}{vs:List ca2}(h:aM A env w a vs):aA A env w (uY a) (G9 vs):=by
 have hl:=jb h
 unfold uY
 split
 .simp only[aM] at h;obtain⟨v,r,rfl,h,rfl⟩:=h;exact h
 next b=>
  have:¬ be vs=1:=λe=>by
   rw[hl] at e;have ⟨x,hx⟩:=List.length_eq_one_iff.1 e;exact b x hx
  simp only[G9,aA];simp_all
def qD:List Prop->Prop
 | []=>True
 | [p]=>p
 | p::q::r=>p/\qD (q::r)
theorem yD:∀{l:List Prop},qD l↔bQ l
 | []=>rg
 | [p]=>by simp[qD,bQ]
 | p::q::r=>by rw[qD,bQ,yD]
def AI(P:ca7)(ps:List PK)(rs:List RK)(rv:List cv6)(k:jp rs×gk ps->Prop):Ex->St->Prop:=λe S=>match e with
 | .exit _=>False
 | _=>match yP P rv S.sl (fa S.H) with
  | none=>False
  | some vs=>match mW (cq8 0 (jz ps)) rs vs (fa S.H),mK ps 0 (fa S.H) with
   | some (y,f1,ow),bZ1 (z,f2,ow2)=>match Ad (f1++f2) (ow++ow2),Ey (f1++f2) with
    | true,bZ3=>k (y,z)
    | _,_=>False
   | _,_=>False
def p9:List SV->Nat->List SV
 | _,0=>[]
 | [],n+1 => .junk::p9 [] n
 | v::l,n+1=>v::p9 l n
def A8(ps:List PK)(d:bw ps)(n:Nat):St:=⟨p9 (g9 ps d 0 0) n,qk ps d 0 0++tA ps d 0⟩
theorem Fl:∀{l:List SV}{n:Nat},be (p9 l n)=n
 | _,0=>by simp[p9]
 | [],n+1=>by simp[p9,Fl (l:=[])]
 | v::l,n+1=>by simp[p9,Fl]
theorem KP:∀{l:List SV}{n i:Nat},d9 (p9 l n) i = .junk∨∃ s,l[i]? = bZ1 s/\d9 (p9 l n) i=s
 | _,0,i=>by left;simp[p9,d9,pj]
 | [],n+1,0=>by left;simp[p9,d9,pj]
 | [],n+1,i+1=>by
  rcases KP (l:=[]) with h|⟨s,h,_⟩
  .simpa[p9,d9,pj] using h
  .simp at h
 | v::l,n+1,0=>by right;exact⟨v,az,by simp[p9,d9,pj]⟩
 | v::l,n+1,i+1=>by
  obtain h|⟨s,h,h'⟩:=KP
  .left;simpa[p9,d9,pj] using h
  .right;exact⟨s,by simpa using h,by simpa[p9,d9,pj] using h'⟩
section
variable {P:ca7} {sp:fe}
theorem WB{ps:List PK}{rs:List RK}
  {base:Nat} {svs:List SV} {h:bZ} {dd:bw ps} {fz:List (Nat×Nm)} {bx:List Nat} {cx:List (Option Nat)} {q1:List Nat} (e1:(gX bZ9 ps svs).run h=bZ1 ((dd,fz,bx,cx),q1)) (hnm:AL fz bx cx=bZ3)
  (hun:∀ i,i<gW rs+jB ps->h (base+i) = .un)
  {w0:ca8} {N0:fI} {A:Nat->Prop} {env:bi} {w:ca8} {vs:List ca2} (m:Mod w0 N0 A env h w) (hd:aM A env w svs vs) :
  vD ps dd∧∃ (Nc:fI) (Ac:Nat->Prop) (envc:bi),Nc.g=N0.g/\(∀ k,Nc.n k→∃ n b l,h n = .live b/\env n = .blk k l)/\Mod w Nc Ac envc (fa (qk ps dd 0 0++tA ps dd 0)) w/\aM Ac envc w (g9 ps dd 0 0) vs ∧
   ∀(S':St)(A1:Nat->Prop)(env1:bi)(w1:ca8),Mod w Nc A1 env1 (fa S'.H) w1->tW Ac envc w A1 env1 w1→∀(rsv:List SV)(rvs:List ca2)(y:jp rs)(f1:List (Nat×Nm))(owr:List (Option Nat))(z:gk ps)(f2:List (Nat×Nm))(owb:List (Option Nat)),
    aM A1 env1 w1 rsv rvs->mW (cq8 0 (jz ps)) rs rsv (fa S'.H)=bZ1 (y,f1,owr)->mK ps 0 (fa S'.H)=bZ1 (z,f2,owb)->Ad (f1++f2) (owr++owb)=bZ3->Ey (f1++f2)=bZ3 →
    ∃ (A':Nat->Prop) (env':bi),Mod w0 N0 A' env' (dJ (vl ps rs (y,z) base fz bx cx) h) w1/\dM A env w A' env' w1/\aA A' env' w1 (uY (lQ (bx.headD 0) rs y base)) (G9 rvs):=by
 simp only[AL,fx] at hnm
 have ⟨⟨hnd,hdj⟩,hbl⟩:=hnm
 have hnd:=S9 hnd
 have hdj:=Xj hdj
 have hbl:=md hbl
 have ⟨a1,a4,a6⟩:=wP (envc:=rR env bx cx) m (Ac:=jc A env fz) (λb hb=>.inl hb) bZ9 ps svs vs dd fz bx cx q1 0 0 e1 hd (λk hk=>.inr hk)
 have ⟨dargs,lb,lc⟩:=a6 (λ_=>rfl) (λn hn=>by cases hn) (λk n hn=>by rw[gJ];exact My hbl hn) (λk q hq=>by rw[gJ];exact bl1 hq)
 rw[kf] at lb lc
 have mc:=m.call a1 hbl lb lc hdj hnd
 have hlen:be bx=jz ps:=by
  have:=lb.get.1;rw[kW,w7] at this;exact this
 have hnd1:=(List.nodup_append.1 hnd).1
 have live_ne:∀ q b,h q = .live b->env q ≠ .un:=λq b hq=>by
  have:=m.nm q;rw[hq] at this;obtain⟨k,len,e,_⟩|⟨e,_⟩:=this <;> rw[e] <;> simp
 have hlive:∀ n,n∈bx++lO cx→∃ b,h n = .live b/\b.mut=bZ3/\env n ≠ .un:=λn hn=>by
  obtain hn|hn:=dI.1 hn
  .have ⟨i,hi⟩:=ct0.1 hn;obtain⟨b',_,_,_,⟨q,b,e,h1,h2,_⟩|⟨e,_⟩⟩:=lb.get.2 i (bZ1 n) (by simp[hi])
   .cases e;exact⟨b,h1,h2,live_ne _ _ h1⟩
   .cases e
  .have ⟨i,hi⟩:=ct0.1 (zO.1 hn);obtain⟨b',_,_,_,⟨q,b,e,h1,h2,_⟩|⟨e,_⟩⟩:=lc.get.2 i (bZ1 n) hi
   .cases e;exact⟨b,h1,h2,live_ne _ _ h1⟩
   .cases e
 refine⟨a4,⟨K6 env (bx++lO cx),jc A env fz,N0.g⟩,jc A env fz,rR env bx cx,rfl,λk hk=>?_,mc,dargs,?_⟩
 .have ⟨n,l,hn,he⟩:=hk;have ⟨b,hb,_⟩:=hlive n hn;exact⟨n,b,l,hb,he⟩
 .intro S' A1 env1 w1 m' x' rsv rvs y f1 owr z f2 owb hres ho hob hown hlt;have hA2:∀ b,A1 b->jc A1 env1 (f1++f2) b:=λb hb=>.inl hb;have hF1:∀ k,iG env1 f1 k->jc A1 env1 (f1++f2) k:=λk ⟨n,x,l,hx,he⟩=>.inr ⟨n,x,l,ip _ hx,he⟩;have hF2:∀ k,iG env1 f2 k->jc A1 env1 (f1++f2) k:=λk ⟨n,x,l,hx,he⟩=>.inr ⟨n,x,l,jv _ hx,he⟩;have hlt:=Sa hlt;have hownS:=Qe hown;have hPQ:QN=PN+PN:=rfl;have fin:∀(As A':Nat->Prop)(hs':bZ),Mod w0 N0 As env hs' w->(∀ n,n∈bx++lO cx->hs' n=h n)->(∀ i,i<gW rs+jB ps->hs' (base+i) = .un)->(∀ b,As b->A' b)->(∀ b,A' b->jc A1 env1 (f1++f2) b) →
    (∀ b,A' b->As b∨((K6 env (bx++lO cx) b∨w.heap.size<=b)/\b<w1.heap.size))->(uw rs=bZ3∨∀ b,jc A1 env1 (f1++f2) b->A' b)->(nk ps=bZ3∨∀ b,jc A1 env1 (f1++f2) b->A' b) →
    ∃ env',Mod w0 N0 A' env' (dJ (gC (bx.headD 0) ps z bx (base+gW rs)++(ni (bx.headD 0) rs y base++(iE ps z (base+gW rs)++th cx))) hs') w1/\dM As env w A' env' w1/\aA A' env' w1 (uY (lQ (bx.headD 0) rs y base)) (G9 rvs):=by
   intro As A' hs' ms hsb hsu hAA hA'2 hA1' L1 L2;have ⟨b1,b2,b3⟩:=zW (A':=A') (env':=mV (l6 bx 0++mT (owr++owb) base) env env1) m' hA2 (bx.headD 0) rs y _ _ f1 owr base ho hres hF1 L1;have ⟨c1,c2,c3,c4⟩:=vu (A':=A') (env':=mV (l6 bx 0++mT (owr++owb) base) env env1) m' hA2 (bx.headD 0) ps z f2 owb bx 0 (base+gW rs) hob hF2 L2 hlen;have hfo:pJ (fa S'.H) (f1++f2):=λn b hh=>by
    obtain hh|hh:=dI.1 hh
    .exact b1 n b hh
    .exact c1 n b hh
   have howl:be (owr++owb)=gW rs+jB ps:=by rw[bM,b2,c2]
   have hnotbx:∀ i,i<gW rs+jB ps->base+i ∉ bx:=λi hi hmem=>by
    have h1:=hsu i hi;rw[hsb _ (ip _ hmem)] at h1;have ⟨b,hb',_⟩:=hlive _ (ip _ hmem);rw[h1] at hb';cases hb'
   have hRbox:∀ i n,bx[i]? = bZ1 n->cR (l6 bx 0++mT (owr++owb) base) n=bZ1 (bZ1 (PN+i)):=λi n hi=>by
    rw[Qr,Ry (j:=0) hnd1 hi,gJ]
   have hRres:∀ i o,(owr++owb)[i]? = bZ1 o->cR (l6 bx 0++mT (owr++owb) base) (base+i)=bZ1 o:=λi o hi=>by
    have hlti:i<gW rs+jB ps:=by have:=(ca5.1 hi).1;omega
    rw[Qr,bF2 (hnotbx i hlti)];exact RL hi
   have hRinv:∀ n y,cR (l6 bx 0++mT (owr++owb) base) n=bZ1 y->(∃ i,bx[i]? = bZ1 n/\y=bZ1 (PN+i))∨∃ i,(owr++owb)[i]? = bZ1 y/\n=base+i/\i<gW rs+jB ps:=λn y hy=>by
    rw[Qr] at hy;split at hy
    next x hx=>cases hy;have ⟨i,h1,h2⟩:=LD hx;rw[gJ] at h2;exact .inl ⟨i,h1,h2⟩
    .have ⟨i,h1,h2⟩:=Sr hy;exact .inr ⟨i,h1,h2,by have:=(ca5.1 h1).1;omega⟩
   have hbxlt:∀ i n,bx[i]? = bZ1 n->i<PN:=λi n hi=>by have:=(ca5.1 hi).1;omega
   have henvp:∀ i n,bx[i]? = bZ1 n->env1 (PN+i)=env n:=λi n hi=>by
    have ⟨b,_,_,hne⟩:=hlive n (ip _ (rS hi));have:=hbxlt i n hi;have:=x'.envp (PN+i) ab ab (by rw[My hbl hi];exact hne);rw[this,My hbl hi]
   have eenv:∀ i o,(owr++owb)[i]? = bZ1 o->mV (l6 bx 0++mT (owr++owb) base) env env1 (base+i)=si env1 o:=λi o hi=>by
    unfold mV;rw[hRres i o hi];simp only[jF,hRres i o hi];cases o <;> rfl
   have hhead:bx≠[]->mV (l6 bx 0++mT (owr++owb) base) env env1 (bx.headD 0)=env1 PN:=λhne=>by
    have ⟨n0,r,hbx⟩:=List.exists_cons_of_ne_nil hne;have h0:bx[0]? = bZ1 (bx.headD 0):=by rw[hbx];rfl
    unfold mV;rw[hRbox 0 _ h0];simp only[jF,hRbox 0 _ h0,kf]
   have ⟨d1,d2⟩:=b3 (λhal=>hhead (λhnil=>by
     have h0:jz ps=0:=by rw[← hlen,hnil];rfl
     rw[h0] at hal;cases hal)) (λi o hi=>eenv i o (by rw[mC (ca5.1 hi).1];exact hi))
   have ⟨d3,d4⟩:=c3 hhead (λk q hq=>by
     have:=eenv (gW rs+k) q (by rw[nX ab,b2,nI];exact hq)
     rwa [← gG] at this)
    (λk q hq=>by
     unfold mV;rw[hRbox k q hq];simp only[jF,hRbox k q hq,gJ])
   have hlookA:∀ q b k l,fa S'.H q = .live b->b.mut=bZ3->env1 q = .blk k l->q ∉ (f1++f2).map (·.1)→¬ A' k:=λq b k l hq hbm he hqn hA'=>by
    have mf:=(m'.freeze hfo).1;have:dJ (f1++f2) (fa S'.H) q = .live b:=by rw[qo hqn];exact hq
    exact (mf.live_blk this he).2 hbm (hA'2 k hA')
   suffices hk:Mod w0 N0 A' (mV (l6 bx 0++mT (owr++owb) base) env env1) (dJ (gC (bx.headD 0) ps z bx (base+gW rs)++(ni (bx.headD 0) rs y base++(iE ps z (base+gW rs)++th cx))) hs') w1/\dM As env w A' (mV (l6 bx 0++mT (owr++owb) base) env env1) w1 by
    exact⟨_,hk.1,hk.2,aX0 d1⟩
   have hnew:∀{l:List (Nat×Nm)}{os:List (Option Nat)}{n0:Nat},lI A' env1 (fa S'.H) (mV (l6 bx 0++mT (owr++owb) base) env env1) w1 os l (base+n0)->(∀ i o,os[i]? = bZ1 o->(owr++owb)[n0+i]? = bZ1 o)→∀ n x,(n,x)∈l →
     ∃ b,x = .live b/\b.mut=bZ3/\((∃ m b0,cR (l6 bx 0++mT (owr++owb) base) n=bZ1 (bZ1 m)/\fa S'.H m = .live b0/\b0.mut=bZ3 ∧
      (∀ k len,env1 m = .blk k len->kv A' (mV (l6 bx 0++mT (owr++owb) base) env env1) w1 k len b)/\(env1 m = .nil→∃ E t,b = .row E t []))∨(cR (l6 bx 0++mT (owr++owb) base) n=bZ1 bZ9∧∃ E t,b = .row E t [])):=by
    intro l os n0 hl hos n x hx;have:∀{os:List (Option Nat)}{l:List (Nat×Nm)}{k0:Nat},lI A' env1 (fa S'.H) (mV (l6 bx 0++mT (owr++owb) base) env env1) w1 os l k0→∀ n x,(n,x)∈l→∃ i o b',os[i]? = bZ1 o/\n=k0+i/\x = .live b'∧b'.mut=bZ3 ∧
      ((∃ q b,o=bZ1 q/\fa S'.H q = .live b/\b.mut=bZ3/\(∀ k len,env1 q = .blk k len->kv A' (mV (l6 bx 0++mT (owr++owb) base) env env1) w1 k len b')/\(env1 q = .nil→∃ E t,b' = .row E t []))∨(o=bZ9∧∃ E t,b' = .row E t [])):=by
     intro os
     induction os with
     | nil=>intro l k0 hl n x hx;cases l with
      | nil=>cases hx
      | cons p l=>exact hl.elim
     | cons o os ih =>
      intro l k0 hl n x hx;cases l with
      | nil=>cases hx
      | cons p l =>
       have ⟨m',y'⟩:=p;have ⟨⟨hm,b',g1,g2,g3⟩,hr⟩:=hl;obtain e|hx:=dO.1 hx
       .cases e;exact⟨0,o,b',rfl,ab,g1,g2,g3⟩
       .have ⟨i,o',b'',k1,k2,k3⟩:=ih hr n x hx;exact⟨i+1,o',b'',by simpa using k1,ab,k3⟩
    obtain⟨i,o,b',k1,rfl,k3,k4,k5⟩:=this hl n x hx;have hr:=hRres _ _ (hos i o k1);rw[← gG] at hr;refine⟨b',k3,k4,?_⟩;obtain⟨q,b,rfl,g1,g2,g3,g4⟩|⟨rfl,g1⟩:=k5
    .exact .inl ⟨q,b,hr,g1,g2,g3,g4⟩
    .exact .inr ⟨hr,g1⟩
   refine Mod.retn (R:=l6 bx 0++mT (owr++owb) base) (U:=gC (bx.headD 0) ps z bx (base+gW rs)++(ni (bx.headD 0) rs y base++(iE ps z (base+gW rs)++th cx))) (A':=A') ms m' x'.shape ?_ ?_ ?_ ?_ ?_ hAA hA1' ?_
   .intro n x hx;obtain hx|hx:=dI.1 hx
    .have ⟨i,b,b0,h1,h2,h3,h4,h5,h6,h7⟩:=d4 n x hx;rw[gJ] at h4 h6 h7;exact .inr ⟨b,h2,h3,.inl ⟨PN+i,b0,hRbox i n h1,h4,h5,h6,h7⟩⟩
    .obtain hx|hx:=dI.1 hx
     .exact .inr (hnew (n0:=0) (by rw[kf];exact d2) (λi o hi=>by rw[gJ,mC (ca5.1 hi).1];exact hi) n x hx)
     .obtain hx|hx:=dI.1 hx
      .exact .inr (hnew d3 (λi o hi=>by rw[nX ab,b2,nI];exact hi) n x hx)
      .exact .inl (LF hx).1
   .intro n hn;have ⟨y',hy⟩:=co6.1 hn;simp only[kJ];obtain⟨i,h1,_⟩|⟨i,h1,rfl,hi⟩:=hRinv n y' hy
    .exact ip _ (c4 n (rS h1))
    .refine jv _ ?_;by_cases hlt':i<gW rs
     .refine ip _ ?_;obtain⟨b',_,hmem,_⟩:=d2.get.2 i _ (by rw[mC ab] at h1;exact h1);exact zb (f:=(·.1)) hmem
     .refine jv _ (ip _ ?_);obtain⟨b',_,hmem,_⟩:=d3.get.2 (i-gW rs) _ (by rw[nX ab,b2] at h1;exact h1);have:=zb (f:=(·.1)) hmem
      rwa [show base+gW rs+(i-gW rs)=base+i from by omega] at this
   .intro n n' q hn hn';obtain⟨i,h1,h2⟩|⟨i,h1,rfl,_⟩:=hRinv n _ hn <;> obtain⟨i',h1',h2'⟩|⟨i',h1',rfl,_⟩:=hRinv n' _ hn'
    .simp only[cE] at h2 h2';have:i=i':=ab;subst this;rw[h1] at h1';exact Option.some.inj h1'
    .simp only[cE] at h2;have:=(hownS i' q h1').1;have:=hbxlt _ _ h1;omega
    .simp only[cE] at h2';have:=(hownS i q h1).1;have:=hbxlt _ _ h1';omega
    .rw[(hownS i q h1).2.2 i' h1']
   .intro n hn;have ⟨y',hy⟩:=co6.1 hn;obtain⟨i,h1,rfl⟩|⟨i,h1,rfl,h2⟩:=hRinv n y' hy
    .have hmem:n∈bx++lO cx:=ip _ (rS h1);have ⟨b,g2',g3',_⟩:=hlive n hmem;exact .inr ⟨b,by rw[hsb n hmem];exact g2',g3',by rw[wC hy];exact henvp i n h1⟩
    .exact .inl (hsu i h2)
   .rintro k ⟨n,l,hn,he⟩;have ⟨b,g2',g3',_⟩:=hlive n hn;refine⟨n,b,l,?_,by rw[hsb n hn];exact g2',g3',he⟩;simp only[kJ,P2];obtain hn|hn:=dI.1 hn
    .exact ip _ (c4 n hn)
    .exact jv _ (jv _ (jv _ hn))
   .rintro q b k l hq hbm he ⟨n,hn⟩;refine hlookA q b k l hq hbm he λhmem=>?_;obtain⟨i,h1,h2⟩|⟨i,h1,rfl,_⟩:=hRinv n _ hn
    .simp only[cE] at h2;have:=hlt q hmem;have:=hbxlt _ _ h1;omega
    .exact (hownS i q h1).2.1 hmem
  unfold vl;cases hk:Ba ps rs with
  | true =>
   have ⟨mf,xf⟩:=m.freeze a1;have hback:∀ b,jc A1 env1 (f1++f2) b->jc A env fz b∨((K6 env (bx++lO cx) b∨w.heap.size<=b)/\b<w1.heap.size):=by
    intro b hb;have hfo:pJ (fa S'.H) (f1++f2):=by
     have ⟨b1,_⟩:=zW (A':=jc A1 env1 (f1++f2)) (env':=env1) m' hA2 (bx.headD 0) rs y _ _ f1 owr base ho hres hF1 (.inr λb hb=>hb);have ⟨c1,_⟩:=vu (A':=jc A1 env1 (f1++f2)) (env':=env1) m' hA2 (bx.headD 0) ps z f2 owb bx 0 base hob hF2 (.inr λb hb=>hb) hlen;intro n b hh;obtain hh|hh:=dI.1 hh
     .exact b1 n b hh
     .exact c1 n b hh
    have hAlt:=(m'.freeze hfo).1.Alt b hb;obtain hb|⟨n,x,l,hx,he⟩:=hb
    .obtain h1|h1|h1:=m'.fresh b hb
     .exact .inl h1
     .exact .inr ⟨.inl h1,hAlt⟩
     .exact .inr ⟨.inr h1,hAlt⟩
    .have ⟨E,t,xs,hl,_⟩:=hfo n x hx;obtain h1|h1:=m'.own n _ b l hl rfl he
     .exact .inr ⟨.inl h1,hAlt⟩
     .exact .inr ⟨.inr h1,hAlt⟩
   have ⟨env',k1,k2,k3⟩:=fin (jc A env fz) (jc A1 env1 (f1++f2)) (dJ fz h) mf (λn hn=>qo (hdj n hn)) (λi hi=>by
     rw[qo]
     .exact hun i hi
     .intro hmem;have ⟨⟨n,x⟩,hx,he⟩:=List.mem_map.1 hmem;simp only at he;subst he;have ⟨E,t,xs,hl,_⟩:=a1 _ _ hx;rw[hun i hi] at hl;cases hl)
    (λb hb=>.inl (x'.imm b hb)) (λb hb=>hb) hback (.inr λb hb=>hb) (.inr λb hb=>hb)
   refine⟨_,env',?_,xf.trans k2,k3⟩;rw[P7];exact k1
  | false =>
   have hpl:uw rs=bZ3/\nk ps=true:=by
    simpa[Ba] using hk
   have ⟨env',k1,k2,k3⟩:=fin A A h m (λn hn=>rfl) hun (λb hb=>hb) (λb hb=>.inl (x'.imm b (.inl hb))) (λb hb=>.inl hb) (.inl hpl.1) (.inl hpl.2);refine⟨_,env',?_,k2,k3⟩;rw[iX];exact k1
theorem rE.put{w0 w:ca8}{D:Nat}{o:Obj}:∀{ds:List Deferred},rE w0 w ds->(∀ e∈ds,e.target ≠ .collected D)->rE w0 (w.putObj D o) ds
 | [],_,_=>trivial
 | _::_,⟨E,h1,h2,h3,h4,h5⟩,hn=>⟨E,h1,h2,by rw[World.putObj_heap_other λe=>hn _ (eV ..) (by rw[h1,e])];exact h3,h4,h5.put λe he=>hn e (fu _ he)⟩
theorem gR.leaves{P:ca7}{w0:ca8}{N0:fI}{A:Nat->Prop}{env:bi}{F:FS}{fn:cr0}{R:Ending->ca8->Prop}:∀{ds:List Deferred}{a:Act}{w:ca8},a.defers=ds->gR w0 N0 A env F a w →
  (∀ w',gR w0 N0 A env F {a with defers:=[]} w'→tW A env w A env w'→LeavesIn ci3 0 P fn a.tmps R [] .returning w')->LeavesInM ci3 0 P fn a.tmps R ds .returning w
 | [],a,w,e,t,k=>k w ⟨t.m,t.len,t.f,aP⟩ dM.refl.ext0
 | d::ds,a,w,e,t,k=>by
  have hd:=t.dfr;rw[e] at hd;obtain⟨D,rfl,h1,h2,h3,h4⟩:=hd;have x:=Du (A:=A) (env:=env) (o' := .deferred bZ9) h2 rfl rfl;exact⟨az,.inl ⟨D,_,rfl,run_takeDeferred h2,gR.leaves (a:={a with defers:=ds}) rfl
   ⟨t.m.put h2 rfl rfl h1 (.inl az),t.len,λi=>DE x _ _ (.inl az) (t.f i),h4.put h3⟩ λw' t' x'=>k w' t' (x.ext0.trans x')⟩⟩
theorem VQ{ps:List PK}{rs:List RK}(post:bw ps->jp rs×gk ps->Prop){f:cf8}{fn:cr0}{code:Code}(hf:P.funcs[f]? = bZ1 fn)(hb:fn.body=bZ1 code)(hs:je P sp)(ir:P.follows .mixedOrders=bZ3)(an:bw ps->bL)(hl:∀ d,∀ x∈jy code,∀ r,vf (an d).ln x r->(an d).lo r)
  {base:Nat} {svs:List SV} {h:bZ} {dd:bw ps} {fz:List (Nat×Nm)} {bx:List Nat} {cx:List (Option Nat)} {q1:List Nat} (e1:(gX bZ9 ps svs).run h=bZ1 ((dd,fz,bx,cx),q1)) (hnm:AL fz bx cx=bZ3)
  (hun:∀ i,i<gW rs+jB ps->h (base+i) = .un) (vc:vD ps dd->xm (A8 ps dd fn.ntmps) (sx P sp (an dd) code (AI P ps rs fn.results.toList (post dd))))
  {w0:ca8} {N0:fI} {A:Nat->Prop} {env:bi} {w:ca8} {vs:List ca2} (hG:N0.g=sp.gl) (m:Mod w0 N0 A env h w) (hd:aM A env w svs vs) :
  Calls P f vs.toArray w λe w'=>∃ v y,e = .returned v/\post dd y∧∃ (A':Nat->Prop) (env':bi),Mod w0 N0 A' env' (dJ (vl ps rs y base fz bx cx) h) w'∧dM A env w A' env' w'∧aA A' env' w' (uY (lQ (bx.headD 0) rs y.1 base)) v:=by
 have ⟨a4,Nc,Ac,envc,hNg,_,mc,dargs,fin⟩:=WB e1 hnm hun m hd
 have hvc:=vc a4
 rw[HK] at hvc
 have hvl:=jb dargs
 refine callsIn_wide.1 (callsIn_of_wp_marks (n:=0) hf hb trivial (Na (ro:=bZ9) (N0:=Nc) ⟨hs,hNg.trans hG⟩ ir code (λx hx=>⟨rfl,hl dd x hx⟩) _ _ _ Ac envc _ w hvc ⟨mc,?_,?_,aP⟩ ?_))
 .simp only[St.fs,A8,Fl,Array.size_append,Array.size_replicate];omega
 .intro i;simp only[St.fs,A8];obtain hj|⟨s,h1,h2⟩:=KP (l:=g9 ps dd 0 0) (n:=fn.ntmps) (i:=i)
  .rw[hj];simp only[aA]
  .rw[h2];have ⟨v,hv,hdv⟩:=GJ i s dargs h1;have hi:=(ca5.1 hv).1;have:(vs.toArray++cx7 (fn.ntmps-vs.toArray.size) undef).getD i undef=v:=by
    have h3:(vs.toArray++cx7 (fn.ntmps-vs.toArray.size) undef)[i]? = bZ1 v:=by
     rw[Array.getElem?_append_left (by simpa using hi)];simpa using hv
    simp only[sQ,h3,iA]
   rw[this];exact hdv
 .intro ex S' A1 env1 act w1 hK t' x';have hend:∃ rsv y f1 owr z f2 owb,yP P fn.results.toList S'.sl (fa S'.H)=bZ1 rsv/\mW (cq8 0 (jz ps)) rs rsv (fa S'.H)=bZ1 (y,f1,owr)/\mK ps 0 (fa S'.H)=bZ1 (z,f2,owb) ∧
    Ad (f1++f2) (owr++owb)=bZ3/\Ey (f1++f2)=bZ3/\post dd (y,z)/\(ex = .normal∨ex = .ret):=by
   unfold AI at hK;split at hK
   .exact hK.elim
   .rename_i hex;split at hK
    .exact hK.elim
    .rename_i rsv hts;split at hK
     .rename_i y f1 ow z f2 ow2 h1 h2;split at hK
      .rename_i h3 h4;refine⟨rsv,y,f1,ow,z,f2,ow2,hts,h1,h2,h3,h4,hK,?_⟩;cases ex with
       | normal=>exact .inl rfl
       | ret=>exact .inr rfl
       | exit i=>exact absurd rfl (hex i)
      .exact hK.elim
     .exact hK.elim
  have ⟨rsv,y,f1,owr,z,f2,owb,hts,ho,hob,hown,hlt,hpost,hex⟩:=hend;have key:=gR.leaves (P:=P) (fn:=fn) (R:=λe w'=>∃ v y,e = .returned v/\post dd y∧∃ (A':Nat->Prop) (env':bi),Mod w0 N0 A' env' (dJ (vl ps rs y base fz bx cx) h) w'∧dM A env w A' env' w'∧aA A' env' w' (uY (lQ (bx.headD 0) rs y.1 base)) v) rfl t' λw2 t2 x2=>by
   have ⟨rvs,hrun,hres⟩:=bI6 t2.m t2.f hts;exact⟨_,hrun,_,(y,z),rfl,hpost,fin S' A1 env1 w2 t2.m (x'.trans x2) rsv rvs y f1 owr z f2 owb hres ho hob hown hlt⟩
  obtain rfl|rfl:=hex <;> exact key
def yR:(rs:List RK)->jp rs->jp rs->List Prop
 | [],_,_=>[]
 | _::rs,x,y=>(x.1=y.1)::yR rs x.2 y.2
def qc:(ps:List PK)->gk ps->gk ps->List Prop
 | [],_,_=>[]
 | .val _::ps,x,y=>qc ps x y
 | .agg _::ps,x,y=>qc ps x y
 | .own _ _::ps,x,y=>qc ps x y
 | .ago _::ps,x,y=>qc ps x y
 | .fn _ _::ps,x,y=>qc ps x y
 | .nils::ps,x,y=>qc ps x y
 | .yld _ _::ps,x,y=>qc ps x y
 | .box _ _::ps,x,y=>(x.1=y.1)::qc ps x.2 y.2
 | .row _ _::ps,x,y=>(x.1=y.1)::qc ps x.2 y.2
theorem PD:∀{rs:List RK}{x y:jp rs},bQ (yR rs x y)->x=y
 | [],x,y,_=>rfl
 | _::rs,x,y,h=>ct3 h.1 (PD (rs:=rs) h.2)
theorem vy:∀{ps:List PK}{x y:gk ps},bQ (qc ps x y)->x=y
 | [],x,y,_=>rfl
 | .val _::ps,x,y,h=>vy (ps:=ps) h
 | .agg _::ps,x,y,h=>vy (ps:=ps) h
 | .own _ _::ps,x,y,h=>vy (ps:=ps) h
 | .ago _::ps,x,y,h=>vy (ps:=ps) h
 | .fn _ _::ps,x,y,h=>vy (ps:=ps) h
 | .nils::ps,x,y,h=>vy (ps:=ps) h
 | .yld _ _::ps,x,y,h=>vy (ps:=ps) h
 | .box _ _::ps,x,y,h=>ct3 h.1 (vy (ps:=ps) h.2)
 | .row _ _::ps,x,y,h=>ct3 h.1 (vy (ps:=ps) h.2)
theorem O9:∀{rs:List RK}{x:jp rs},bQ (yR rs x x)
 | [],_=>trivial
 | _::rs,x=>⟨rfl,O9 (rs:=rs)⟩
theorem vB:∀{ps:List PK}{x:gk ps},bQ (qc ps x x)
 | [],_=>trivial
 | .val _::ps,x=>vB (ps:=ps)
 | .agg _::ps,x=>vB (ps:=ps)
 | .own _ _::ps,x=>vB (ps:=ps)
 | .ago _::ps,x=>vB (ps:=ps)
 | .fn _ _::ps,x=>vB (ps:=ps)
 | .nils::ps,x=>vB (ps:=ps)
 | .yld _ _::ps,x=>vB (ps:=ps)
 | .box _ _::ps,x=>⟨rfl,vB (ps:=ps)⟩
 | .row _ _::ps,x=>⟨rfl,vB (ps:=ps)⟩
theorem Ct.ok(c:Ct){f:cf8}{fn:cr0}{code:Code}(hf:P.funcs[f]? = bZ1 fn)(hb:fn.body=bZ1 code)(hs:je P sp)(ir:P.follows .mixedOrders=bZ3)(an:bw c.ps->bL)(hl:∀ d,∀ x∈jy code,∀ r,vf (an d).ln x r->(an d).lo r)
  (vc:yU c.ps λd=>vD c.ps d->qD (c.pre d)->xm (A8 c.ps d fn.ntmps) (sx P sp (an d) code (AI P c.ps c.rs fn.results.toList λy=>qD (yR c.rs y.1 (c.out d).1++qc c.ps y.2 (c.out d).2)))):mH P sp.gl f c.spec:=by
 intro base svs h d r e hp w0 N0 A env w vs hG m hd
 unfold Ct.spec at e
 obtain⟨⟨dd,fz,bx,cx⟩,q1,q2,e1,e2,rfl⟩:=Q.run_bind _ _ _ e
 split at e2
 case h_2=>cases e2
 rename_i hnm
 obtain⟨rfl,hun⟩:=Cq e2
 refine (VQ (rs:=c.rs) (λd y=>qD (yR c.rs y.1 (c.out d).1++qc c.ps y.2 (c.out d).2)) hf hb hs ir an hl e1 hnm hun (λhw=>E4.1 vc dd hw (yD.2 hp)) hG m hd).mono ?_
 rintro e' w' ⟨v,y,rfl,hy,A',env',h1,h2,h3⟩
 have ⟨hy1,hy2⟩:=sJ.1 (yD.1 hy)
 have:y=c.out dd:=ct3 (PD hy1) (vy hy2)
 subst this
 exact⟨v,rfl,(),A',env',aP,h1,h2,h3⟩
theorem Cn.ok(c:Cn){f:cf8}{fn:cr0}{code:Code}(hf:P.funcs[f]? = bZ1 fn)(hb:fn.body=bZ1 code)(hs:je P sp)(ir:P.follows .mixedOrders=bZ3)(an:bw c.ps->bL)(hl:∀ d,∀ x∈jy code,∀ r,vf (an d).ln x r->(an d).lo r)
  (vc:yU c.ps λd=>vD c.ps d->qD (c.pre d)->xm (A8 c.ps d fn.ntmps) (sx P sp (an d) code (AI P c.ps c.rs fn.results.toList (c.post d)))):mH P sp.gl f c.spec:=by
 intro base svs h d r e hp w0 N0 A env w vs hG m hd
 unfold Cn.spec at e
 obtain⟨⟨dd,fz,bx,cx⟩,q1,q2,e1,e2,rfl⟩:=Q.run_bind _ _ _ e
 split at e2
 case h_2=>cases e2
 rename_i hnm
 obtain⟨rfl,hun⟩:=Cq e2
 refine (VQ (rs:=c.rs) c.post hf hb hs ir an hl e1 hnm hun (λhw=>E4.1 vc dd hw (yD.2 hp)) hG m hd).mono ?_
 rintro e' w' ⟨v,y,rfl,hy,A',env',h1,h2,h3⟩
 refine⟨v,rfl,y,A',env',hy,?_,h2,h3⟩
 show Mod w0 N0 A' env' (dJ ((BM c.ps c.rs base fz bx cx).map λp=>(p.1,p.2 y)) h) w'
 rw[MY];exact h1
def Ct.nspec(c:Ct):Spec:=λbase svs=>(gX bZ9 c.ps svs).bind λp=>match AL p.2.1 p.2.2.1 p.2.2.2 with
 | true=>u3 base (gW c.rs+jB c.ps) (.nd (jp c.rs×gk c.ps) (YV c.rs c.ps) (c.pre p.1) (λy=>qD (yR c.rs y.1 (c.out p.1).1++qc c.ps y.2 (c.out p.1).2)) (λ_=>⟨c.out p.1,yD.2 (sJ.2 ⟨O9,vB⟩)⟩)
   (λy=>uY (lQ (p.2.2.1.headD 0) c.rs y.1 base)) (BM c.ps c.rs base p.2.1 p.2.2.1 p.2.2.2))
 | false => .fail
theorem Yf{h:bZ}{dl d:Dl}:∀{k n:Nat}{r:List Nat},(u3 n k dl).run h=bZ1 (d,r)→∀ a,(u3 n k a).run h=bZ1 (a,r)
 | 0,n,r,e,a=>by
  simp only[u3,Q.run,cE,cy] at e ⊢;exact⟨aP,e.2⟩
 | k+1,n,r,e,a=>by
  simp only[u3,Q.run] at e ⊢;split at e
  .rename_i p q hk;obtain⟨rfl,rfl⟩:=e;split at hk
   next hun=>have:=Yf hk a;rw[this]
   .cases hk
  .cases e
universe u v
theorem Q.bind_run1{h:bZ}{α:Type u}{β:Type v}(q:Q α)(f:α->Q β){a:α}{d:List Nat}{b:β}{r2:List Nat}(c:q.run h=bZ1 (a,d))(h2:(f a).run h=bZ1 (b,r2)):(q.bind f).run h=bZ1 (b,d++r2):=by
 induction q generalizing d with
 | ret x=>simp only[Q.run,cE,cy] at c;obtain⟨rfl,rfl⟩:=c;simpa[Q.bind] using h2
 | ask n k ih =>
  simp only[Q.run] at c;split at c
  next x y hk=>obtain⟨rfl,rfl⟩:=c;simp only[Q.bind,Q.run,ih _ hk,kO]
  .cases c
 | fail=>cases c
theorem Ct.named{G:sH}{c:Ct}{f:cf8}(ok:mH P G f c.spec):mH P G f c.nspec:=by
 intro a svs h d r e hp w0 N0 A env w vs hG m hd
 obtain⟨⟨b,fz,bx,cx⟩,q1,q2,e1,g,rfl⟩:=Q.run_bind _ _ _ e
 split at g
 case h_2=>cases g
 obtain⟨rfl,hun⟩:=Cq g
 have e3:=Yf g (.det (c.pre b) (uY (lQ (bx.headD 0) c.rs (c.out b).1 a)) (vl c.ps c.rs (c.out b) a fz bx cx))
 have e4:(c.spec a svs).run h=bZ1 (.det (c.pre b) (uY (lQ (bx.headD 0) c.rs (c.out b).1 a)) (vl c.ps c.rs (c.out b) a fz bx cx),q1++q2):=by
  refine Q.bind_run1 _ _ e1 ?_;simp_all
 refine (ok a svs h _ _ e4 hp w0 N0 A env w vs hG m hd).mono ?_
 rintro e' w' ⟨v,he,x,A',env',_,h1,h2,h3⟩
 refine⟨v,he,c.out b,A',env',yD.2 (sJ.2 ⟨O9,vB⟩),?_,h2,h3⟩
 show Mod w0 N0 A' env' (dJ ((BM c.ps c.rs a fz bx cx).map λp=>(p.1,p.2 (c.out b))) h) w'
 rw[MY];exact h1
end
end Go.SX
namespace Go.SX
open Go.ChangeShapes Go.WideShapes Go.ChangeAt Go.RowKit
universe u v
def yo(P:ca7)(f:CT->bZ8->Bool):List Field->CT->Nat->Bool
 | [],_,_=>bZ6
 | [fd],t,o=>f t fd.type&&ca0 fd.offset o&&ca0 (P.cellsOf fd.type) t.size
 | fd::g::r,.pair a b,o=>f a fd.type&&ca0 fd.offset o&&ca0 (P.cellsOf fd.type) a.size&&yo P f (g::r) b (o+a.size)
 | _,_,_=>bZ6
def yW(P:ca7)(f:CT->bZ8->Bool)(e:bZ8):Nat->CT->Bool
 | 0,_=>bZ6
 | 1,t=>f t e&&ca0 (P.cellsOf e) t.size
 | n+2,.pair a b=>f a e&&ca0 (P.cellsOf e) a.size&&yW P f e (n+1) b
 | _,_=>bZ6
def oT(P:ca7):Nat->CT->bZ8->Bool
 | 0,_,_=>bZ6
 | n+1,t,τ=>match P.underlying τ,t with
  | some (.int k),.int k'=>jW k k'
  | some .bool,.bool=>bZ3
  | some .string,.str=>bZ3
  | some (.slice e),.sl u=>oT P n u e&&ca0 (P.cellsOf e) u.size
  | some (.struct fs),t=>yo P (oT P n) fs.toList t 0
  | some (.array k e),t=>yW P (oT P n) e k t
  | _,_=>bZ6
section
variable {H:Type} {enc:bZ8×ca2->H} {P:ca7} {w:ca8} {base:Nat} {held:Bool}
theorem Ai{A:Nat->Prop}{t:CT}{cs:List ca2}{o a:Nat}{d:t.D}(hs:a=t.size)(h:Rd A w t (λj=>((cs.drop o).take a)[j]?) 0 d):Rd A w t (λj=>cs[j]?) o d:=by
 have:=B7 h o
 rw[gJ] at this
 refine iQ (λ_ h=>h) (λ_ _ _=>rfl) t _ _ _ _ (λj hj=>?_) this
 simp_all
theorem SL{A:Nat->Prop}{f:CT->bZ8->Bool}{cs:List ca2}{n:Nat}
  (m:∀ t τ cs x,f t τ=bZ3->ch0 enc P w base (λ_=>bZ3) held n τ cs=bZ1 x→∃ d,Rd A w t (λj=>cs[j]?) 0 d) :
  ∀(v:List Field)(t:CT)(o:Nat),yo P f v t o=bZ3->(∀ c∈v,∃ x,ch0 enc P w base (λ_=>bZ3) held n c.type ((cs.drop c.offset).take (P.cellsOf c.type))=bZ1 x)→∃ d,Rd A w t (λj=>cs[j]?) o d
 | [c],t,o,h,k=>by
  simp only[yo,fx] at h;obtain⟨⟨p,e⟩,i⟩:=h;have e:=bK e;have i:=bK i;have ⟨x,k⟩:=k c az;have ⟨d,l⟩:=m t c.type _ x p k;rw[e] at l;exact⟨d,Ai i l⟩
 | c::g::r,.pair a b,o,h,k=>by
  simp only[yo,fx] at h;have ⟨⟨⟨p,e⟩,i⟩,h4⟩:=h;have e:=bK e;have i:=bK i;have ⟨x,q⟩:=k c az;have ⟨d,l⟩:=m a c.type _ x p q;rw[e] at l;have ⟨d',s⟩:=SL m (g::r) b (o+a.size) h4 (λu hm=>k u (fu _ hm));exact⟨(d,d'),Ai i l,s⟩
theorem Zj{A:Nat->Prop}{f:CT->bZ8->Bool}{cs:List ca2}{n:Nat}{e:bZ8}
  (m:∀ t τ cs x,f t τ=bZ3->ch0 enc P w base (λ_=>bZ3) held n τ cs=bZ1 x→∃ d,Rd A w t (λj=>cs[j]?) 0 d) :
  ∀(k:Nat)(t:CT)(i:Nat),yW P f e k t=bZ3->(∀ j,i<=j->j<i+k→∃ x,ch0 enc P w base (λ_=>bZ3) held n e ((cs.drop (j*P.cellsOf e)).take (P.cellsOf e))=bZ1 x)→∃ d,Rd A w t (λj=>cs[j]?) (i*P.cellsOf e) d
 | 1,t,i,h,g=>by
  simp only[yW,fx] at h;obtain⟨l,c⟩:=h;have c:=bK c;have ⟨x,g⟩:=g i ab ab;have ⟨d,o⟩:=m t e _ x l g;exact⟨d,Ai c o⟩
 | k+2,.pair a b,i,h,g=>by
  simp only[yW,fx] at h;have ⟨⟨l,c⟩,h4⟩:=h;have c:=bK c;have ⟨x,p⟩:=g i ab ab;have ⟨d,o⟩:=m a e _ x l p;have ⟨d',hd'⟩:=Zj m (k+1) b (i+1) h4 (λj l c=>g j ab ab);refine⟨(d,d'),Ai c o,?_⟩;grind
theorem aT3{α:Type}(n:Nat)(p:Nat->α->Prop)(h:∀ i,i<n→∃ a,p i a):∃ l:List α,be l=n∧∀ i (b:i<be l),p i l[i]:=by
 induction n with
 | zero=>exact⟨[],rfl,λi b=>by simp at b⟩
 | succ n ih =>
  have ⟨l,hl,hp⟩:=ih λi b=>h i ab;have ⟨a,ha⟩:=h n ab;refine⟨l++[a],by simp[hl],λi b=>?_⟩;grind
theorem Rl(b off n:Nat):(⟨b,off,bZ9⟩:Addr).add n=⟨b,off+n,bZ9⟩:=by
 unfold cE6
 simp_all
theorem Xq{k:cb7}{n:Int}(h:(Lit.int k n).wf=bZ3):k.has n:=by
 simp only[Lit.wf,fx,rF] at h;exact h
theorem Jl:∀(n:Nat)(t:CT)(τ:bZ8)(fuel:Nat)(cs:List ca2)(x:DataW H×List cp1),oT P n t τ=bZ3->ch0 enc P w base (λ_=>bZ3) held fuel τ cs=bZ1 x →
  ∃ d,Rd (λb=>b<w.heap.size) w t (λj=>cs[j]?) 0 d
 | 0,t,τ,fuel,cs,x,h,_=>by cases h
 | n+1,t,τ,fuel,cs,x,h,hx=>by
  unfold oT at h;split at h
  next k k' hu=>cases j6 h;obtain⟨m,rfl,_,hw⟩:=DataW.trod_int hu hx;exact⟨m,az,Xq hw⟩
  next hu=>obtain⟨b,rfl,_⟩:=DataW.trod_bool hu hx;exact⟨b,by simp[Rd]⟩
  next hu=>obtain⟨s,rfl,_,hs⟩:=DataW.trod_string hu hx;exact⟨s,az,hs⟩
  .rename_i e u hu;simp only[fx] at h;have ⟨h1,h2⟩:=h;have h2:=bK h2;obtain⟨rfl,_⟩|⟨a,len,cap,elems,rest,m,_,rfl,_,_,hl,hm,hlen,hel,hsp,_⟩:=DataW.trod_slice hu hx
   .exact⟨[],wn.2 ⟨_,rfl,az,.inl ⟨⟨_,rfl⟩,rfl⟩⟩⟩
   .have hcap:=(hsp rfl)
    by_cases h0:cap=0
    .have:len=0:=ab;subst this h0;exact⟨[],wn.2 ⟨_,rfl,az,.inl ⟨⟨_,rfl⟩,rfl⟩⟩⟩
    · -- the cells that are there
     have first:∃ v,w.cell? a=bZ1 v:=by
      have hb:∃ cs',w.cells? base (a.add 0) (P.cellsOf e)=bZ1 cs':=by
       by_cases hl0:0<len
       .have:=hel 0 hl0;rw[Nat.zero_mul] at this;have hs:∃ y,elems[0]? = bZ1 y:=⟨_,cG ab⟩
        have ⟨y,hy⟩:=hs;rw[hy,cj9] at this;grind
       .have:=hcap.2 0 ab;have hz:(len+0)*P.cellsOf e=0:=by
         simp_all
        rw[hz] at this;have hs:∃ y,rest[0]? = bZ1 y:=⟨_,cG ab⟩
        have ⟨y,hy⟩:=hs;rw[hy,cj9] at this;grind
      have ⟨cs',hcs⟩:=hb;have ⟨_,hl1,hl2⟩:=cv7 hcs;have hp:=u.size_pos;have:=hl2 0 ab;refine⟨cs'[0]'ab,?_⟩;rw[cG ab] at this;simpa[cE6] using this
     have ⟨v0,hv0⟩:=first
     have hspot:=World.cell?_spot hv0;have ⟨b,off,spot⟩:=a;simp only at hspot;subst hspot;have hlt:b<w.heap.size:=by
      unfold World.cell? at hv0;simp only at hv0;split at hv0
      next c E sp hb=>exact (Array.getElem?_eq_some_iff.1 hb).1
      .cases hv0
     have ⟨xs,hxl,hxp⟩:=aT3 len (λi d=>Rd (λb=>b<w.heap.size) w u (λo=>w.cell? ⟨b,o,bZ9⟩) (off+i*u.size) d) λi hi=>by
      have:=hel i hi;rw[cG ab,cj9] at this;have ⟨cs',hcs,ht⟩:=this;have ⟨_,hl1,hl2⟩:=cv7 hcs;have ⟨d,hd⟩:=Jl n u e _ cs' _ h1 ht;refine⟨d,?_⟩;have:=B7 hd (off+i*u.size);rw[gJ] at this;refine iQ (λ_ h=>h) (λ_ _ _=>rfl) u _ _ _ _ (λj hj=>?_) this;have:=hl2 j ab;rw[Rl,Rl,h2] at this;rw[nI,← this]
     subst hxl;exact⟨xs,wn.2 ⟨_,rfl,ab,.inr ⟨b,off,cap,rfl,hl,hm,hlt,λi hi=>hxp i hi⟩⟩⟩
  .rename_i t' fs hu;have ⟨xs,m,_,_,hl,hlen,hf⟩:=DataW.trod_struct hu hx;refine SL (n:=m) (λt τ cs x h1 h2=>Jl n t τ m cs x h1 h2) fs.toList _ 0 h λfd hm=>?_;obtain⟨i,hi,rfl⟩:=List.mem_iff_getElem.1 hm;have:=hf i fs[i] (Array.getElem?_eq_getElem (by simpa using hi));have hi':i<fs.size:=by simpa using hi
   rw[cG ab] at this;exact⟨_,by simpa using this⟩
  .rename_i t' k e hu;have ⟨xs,m,_,_,hl,hlen,hf⟩:=DataW.trod_array hu hx;have:=Zj (n:=m) (cs:=cs) (e:=e) (λt τ cs x h1 h2=>Jl n t τ m cs x h1 h2) k _ 0 h λj _ hj=>by
    have:=hf j ab;rw[cG ab] at this;exact⟨_,this⟩
   simpa using this
  .cases h
abbrev tc:=List (Bool×CT)
def nG:tc->List PK
 | []=>[]
 | (bZ3,t)::r => .agg t::nG r
 | (bZ6,t)::r => .val t::nG r
def DI:(l:tc)->gk (nG l)
 | []=>()
 | (bZ3,_)::r=>DI r
 | (bZ6,_)::r=>DI r
def EM(l:tc):Ct:=⟨nG l,[.val .bool],λ_=>[],λ_=>((bZ3,()),DI l)⟩
def A4(P:ca7)(τ:bZ8):Bool:=match P.underlying τ with
 | some (.struct _)=>bZ3
 | some (.array _ _)=>bZ3
 | _=>bZ6
def J6:CT->Bool
 | .pair _ _=>bZ6
 | _=>bZ3
def FI(P:ca7):tc->List bZ8->Bool
 | [],[]=>bZ3
 | (b,t)::r,τ::τs=>(match b,A4 P τ with|true,bZ3=>bZ3|false,bZ6=>J6 t|_,_=>bZ6)&&oT P 12 t τ&&ca0 (P.cellsOf τ) t.size&&FI P r τs
 | _,_=>bZ6
theorem Z9{r:cB1}{b0:Nat}{τ:bZ8}{v:ca2}(h:A4 P τ=bZ3)(hv:cg2 P w r b0 τ v):∃ vs,v = .agg vs/\vs.size=P.cellsOf τ:=by
 unfold A4 at h
 unfold cg2 at hv
 grind
theorem bc4{r:cB1}{b0:Nat}{τ:bZ8}{v:ca2}(ht:P.underlying τ=bZ1 .bool)(h:cg2 P w r b0 τ v):∃ b,v = .bool b:=by
 simp only[cg2,ht,Cell.okWide] at h
 cases v <;> simp_all[Cell.ok]
theorem ar0{r:cB1}{b0:Nat}{n:Nat}{t:CT}{τ:bZ8}{v:ca2}(hf:J6 t=bZ3)(d:A4 P τ=bZ6)(h:oT P n t τ=bZ3)(hv:cg2 P w r b0 τ v):v.cells = #[v]:=by
 cases n with
 | zero=>cases h
 | succ n =>
  unfold oT at h;split at h
  next k k' b=>obtain⟨m,rfl⟩:=okWide_int b hv;rfl
  next b=>obtain⟨m,rfl⟩:=bc4 b hv;rfl
  next b=>obtain⟨m,rfl⟩:=okWide_string b hv;rfl
  next e u b=>obtain⟨a,l,c,rfl⟩:=okWide_slice b hv;rfl
  next t' fs b=>unfold A4 at d;rw[b] at d;cases d
  next t' k e b=>unfold A4 at d;rw[b] at d;cases d
  .cases h
theorem aB9(k:cb7):jW k k=true:=by cases k <;> rfl
theorem ap6{t:CT}{xs:List t.D}:iq t t xs=bZ1 xs:=by unfold iq;rw[dif_pos rfl]
theorem Hn{h:bZ}:∀(t:CT)(d:t.D)(rest:List SV),(kS t (cF t d++rest)).run h=bZ1 ((d,rest,[]),[])
 | .int k,d,rest=>by simp only[cF,kO,yv,kS,aB9];rfl
 | .bool,d,rest=>rfl
 | .str,d,rest=>rfl
 | .sl t,d,rest=>by simp only[cF,kO,yv,kS,ap6];rfl
 | .pair a b,d,rest=>by
  have bindrun:∀{α β:Type}(q:Q α)(f:α->Q β)(x:α)(y:β),q.run h=bZ1 (x,[])->(f x).run h=bZ1 (y,[])->(q.bind f).run h=bZ1 (y,[]):=by
   intro α β q
   induction q with
   | ret a=>intro f x y h1 h2;simp only[Q.run,cE,cy] at h1;rw[← h1.1] at h2;exact h2
   | ask n k ih =>
    intro f x y h1 h2;simp only[Q.run] at h1;grind
   | fail=>intro f x y h1 h2;cases h1
  simp only[cF,fV,kS];refine bindrun _ _ _ _ (Hn a d.1 (cF b d.2++rest)) ?_;exact bindrun _ _ _ _ (Hn b d.2 rest) rfl
theorem Q.bind_run0{h:bZ}{α:Type u}{β:Type v}(q:Q α)(f:α->Q β)(x:α)(y:β)(b:q.run h=bZ1 (x,[]))(c:(f x).run h=bZ1 (y,[])):(q.bind f).run h=bZ1 (y,[]):=by
 cases q with
 | ret a=>simp only[Q.run,cE,cy] at b;rw[← b.1] at c;exact c
 | ask n k =>
  simp only[Q.run] at b;grind
 | fail=>cases b
theorem bR3{t:CT}(hf:J6 t=bZ3)(d:t.D):cF t d=[Da t d]:=by
 cases t <;> first|rfl|cases hf
def Cr:tc->Bool
 | []=>bZ3
 | (b,t)::r=>(b||J6 t)&&Cr r
theorem JV{h:bZ}:∀(l:tc)(d:bw (nG l)),Cr l=bZ3->(gX bZ9 (nG l) (g9 (nG l) d 0 0)).run h=bZ1 ((d,[],[],[]),[])
 | [],d,_=>rfl
 | (bZ3,t)::r,d,a=>by
  simp only[Cr,fx] at a;refine Q.bind_run0 _ _ _ _ (by have:=Hn (h:=h) t d.1 [];rw[iX] at this;exact this) ?_;exact Q.bind_run0 _ _ _ _ (JV r d.2 a.2) rfl
 | (bZ6,t)::r,d,a=>by
  simp only[Cr,fx,Bool.false_or] at a;refine Q.bind_run0 _ _ _ _ (by have:=Hn (h:=h) t d.1 [];rw[iX,bR3 a.1] at this;exact this) ?_;exact Q.bind_run0 _ _ _ _ (JV r d.2 a.2) rfl
theorem VZ{r:cB1}{b0:Nat}:∀(l:tc)(τs:List bZ8)(vs:List ca2)(i:List (DataW H))(ps:List cp1),FI P l τs=bZ3->cj6 enc P w base (λ_=>bZ3) held τs vs i ps →
  (∀(j:Nat) t v,τs[j]? = bZ1 t->vs[j]? = bZ1 v->cg2 P w r b0 t v)->Cr l=bZ3∧∃ d:bw (nG l),aM (λb=>b<w.heap.size) (λ_=>.un) w (g9 (nG l) d 0 0) vs
 | [],[],vs,i,ps,h,e,hv=>by
  obtain⟨rfl,_,_⟩:=trodAll_nil e;exact⟨rfl,(),by simp[nG,g9,aM]⟩
 | (b,t)::l,τ::τs,vs,i,ps,h,e,hv=>by
  obtain⟨v,a,d,k,p,q,rfl,rfl,rfl,h0,hr⟩:=trodAll_cons e;simp only[FI,fx] at h;have ⟨⟨⟨m,y⟩,n⟩,h4⟩:=h;have n:=bK n;have ⟨z,A,B⟩:=VZ l τs a k q h4 hr (λj t v e o=>hv (j+1) t v (by simpa using e) (by simpa using o));have f:=hv 0 τ v rfl rfl;have ⟨g,hf⟩:=h0;have ⟨C,c⟩:=Jl 12 t τ g _ _ y hf;cases b with
  | true =>
   have u:A4 P τ=true:=by
    grind
   obtain⟨us,rfl,x⟩:=Z9 u f;refine⟨by simp[Cr,z],(C,A),?_⟩;refine⟨_,a,rfl,⟨us,rfl,KR (by simpa using x.trans n) (by simpa[Value.cells] using c)⟩,B⟩
  | false =>
   have D:A4 P τ=false:=by
    grind
   rw[D] at m;refine⟨by simp[Cr,z,m],(C,A),?_⟩;have hc:=ar0 m D y f;rw[hc] at c;exact⟨v,a,rfl,NS (rest:=[]) (by simpa using c),B⟩
def GlobsOK(w:ca8)(G:sH):Prop:=∀ g x,G g=bZ1 x->g<w.heap.size/\Rd (λb=>b<w.heap.size) w x.1 (λo=>w.cell? ⟨g,o,bZ9⟩) 0 x.2
theorem law_walkG{G:sH}(hG:GlobsOK w G){f:cf8}{l:tc}(ok:mH P G f (EM l).spec){r:cB1}{b0:Nat}{τs:List bZ8}{args:Array ca2}{ds:List (DataW H)}{ps:List cp1}(hl:FI P l τs=bZ3)
  (ht:cj6 enc P w base (λ_=>bZ3) held τs args.toList ds ps) (hv:∀(j:Nat) t v,τs.toArray[j]? = bZ1 t->args[j]? = bZ1 v->cg2 P w r b0 t v) :
  Calls P f args w λe w'=>e = .returned (.bool bZ3)/\Below w.heap.size w w':=by
 have ⟨hok,d,hd⟩:=VZ l τs args.toList ds ps hl ht (λj t v h1 h2=>hv j t v (by simpa using h1) (by simpa using h2))
 have hkeep:Ba (nG l) [.val .bool]=false:=by
  have:∀ l,nk (nG l)=true:=by
   intro l
   induction l with
   | nil=>rfl
   | cons x l ih=>have ⟨b,t⟩:=x;cases b <;> exact ih
  simp only[Ba,this,uw,CT.plain,Bool.and_self,Bool.not_true]
 have hbU:∀ nb,gC 0 (nG l) (DI l) [] nb=[]:=by
  intro nb
  induction l with
  | nil=>rfl
  | cons x l ih =>
   have ⟨b,t⟩:=x;have:∀ l,gC 0 (nG l) (DI l) [] nb=[]:=by
    intro l
    induction l with
    | nil=>rfl
    | cons x l ih=>have ⟨b,t⟩:=x;cases b <;> exact ih
   cases b <;> exact this l
 have hnU:∀(l:tc) nb,iE (nG l) (DI l) nb=[]:=by
  intro l nb
  induction l with
  | nil=>rfl
  | cons x l ih=>have ⟨b,t⟩:=x;cases b <;> exact ih
 have hnB:∀(l:tc),jB (nG l)=0:=by
  intro l
  induction l with
  | nil=>rfl
  | cons x l ih=>have ⟨b,t⟩:=x;cases b <;> exact ih
 have hrun:((EM l).spec 0 (g9 (nG l) d 0 0)).run (λ_=>.un)=bZ1 (Dl.det [] (.bool bZ3) [],[]):=by
  unfold Ct.spec;refine Q.bind_run0 _ _ _ _ (JV l d hok) ?_;simp only[AL,lO,iX,Gl,FZ,EM,vl,hkeep,hbU,hnU,hnB,th,ni,lQ,uY,Da,cF,gW,u3,List.headD_nil];rfl
 have m:Mod w ⟨λ_=>False,λb=>b<w.heap.size,G⟩ (λb=>b<w.heap.size) (λ_=>.un) (λ_=>.un) w :=
  ⟨rfl,rfl,rfl,dq _,dq _,λ_ _ _=>rfl,λ_ h=>h,λ_=>rfl,λ_ _ _ _ h=>(by cases h),λ_ _ _ _ _ _ _ h=>(by cases h),λb hb=>.inl hb,hG⟩
 have:=ok 0 (g9 (nG l) d 0 0) (λ_=>.un) _ _ hrun trivial w _ _ _ w args.toList rfl m hd
 refine Calls.mono this ?_
 rintro e w' ⟨v,rfl,x,A',env',_,hm,_,hden⟩
 simp only[Dl.val,aA] at hden
 exact⟨by rw[hden],hm.os,hm.tape,hm.output,hm.size,λk hk=>hm.fr k hk (λh=>h)⟩
theorem law_walk{f:cf8}{l:tc}(ok:mH P (λ_=>bZ9) f (EM l).spec){r:cB1}{b0:Nat}{τs:List bZ8}{a:Array ca2}{ds:List (DataW H)}{ps:List cp1}(hl:FI P l τs=bZ3)
  (ht:cj6 enc P w base (λ_=>bZ3) held τs a.toList ds ps) (hv:∀(j:Nat) t v,τs.toArray[j]? = bZ1 t->a[j]? = bZ1 v->cg2 P w r b0 t v) :
  Calls P f a w λe w'=>e = .returned (.bool bZ3)/\Below w.heap.size w w':=law_walkG (λg x h=>by cases h) ok hl ht hv
def Qs(P:ca7):List bZ8->Bool
 | []=>bZ3
 | t::r=>P.readableRec t&&bZ2 (t<P.types.size)&&Qs P r
theorem trodAll_below(i:laidOutB P=bZ3):∀{τs:List bZ8}{vs:List ca2}{a:List (DataW H)}{ps:List cp1}{c:ca8},Qs P τs=bZ3 →
  cj6 enc P w 0 (λ_=>bZ3) bZ3 τs vs a ps->Below w.heap.size w c->cj6 enc P c 0 (λb=>bZ2 (b<w.heap.size)) bZ3 τs vs a ps
 | [],vs,a,ps,c,_,h,f=>by
  obtain⟨rfl,rfl,rfl⟩:=trodAll_nil h;exact trodAll_mk0
 | τ::τs,vs,a,ps,c,e,h,f=>by
  obtain⟨v,vs',d,ds',p,q,rfl,rfl,rfl,j,g⟩:=trodAll_cons h;simp only[Qs,fx,rF] at e;have lt:∀ x∈p,x.block<w.heap.size:=by
   have ⟨m,hm⟩:=j;exact DataW.trod_lt m _ _ _ hm
  exact trodAll_cons_mk (Below.trod i e.1.1 e.1.2 j f lt) (trodAll_below i e.2 g f)
end
end Go.SX
namespace Go.SX
def oO(fn:cr0):Code:=match fn.body with
 | some c=>c
 | none => .skip
def Ct.vc(P:ca7)(sp:fe)(c:Ct)(fn:cr0)(an:bw c.ps->bL):Prop :=
 yU c.ps λd=>vD c.ps d->qD (c.pre d)->xm (A8 c.ps d fn.ntmps) (sx P sp (an d) (oO fn) (AI P c.ps c.rs fn.results.toList λy=>qD (yR c.rs y.1 (c.out d).1++qc c.ps y.2 (c.out d).2)))
structure Bg (p:Prop):Prop where
 out:p
theorem BG{p q:Prop}(h:p=q)(v:q):Bg p:=⟨Eq.mpr h v⟩
theorem Ct.okH{P:ca7}{sp:fe}(c:Ct){f:cf8}{fn:cr0}(hf:P.funcs[f]? = bZ1 fn)(hb:(fn.body,jy (oO fn))=(bZ1 (oO fn),[]))(hs:je P sp)(ir:P.follows .mixedOrders=bZ3)(an:bw c.ps->bL)
  (vc:Bg (Ct.vc P sp c fn an)):mH P sp.gl f c.spec:=c.ok hf (dP ct4 hb) hs ir an (λd x hx=>by rw[show jy (oO fn)=[] from dP ct5 hb] at hx;cases hx) vc.out
theorem Ct.okY{P:ca7}{sp:fe}(c:Ct){f:cf8}{fn:cr0}(hf:P.funcs[f]? = bZ1 fn){x:Array Tmp×Code×Code}(hb:(fn.body,jy (oO fn))=(bZ1 (oO fn),[x]))(hs:je P sp)(ir:P.follows .mixedOrders=bZ3)(an:bw c.ps->bL)(hl:∀ d r,vf (an d).ln x r->(an d).lo r)
  (vc:Bg (Ct.vc P sp c fn an)):mH P sp.gl f c.spec:=c.ok hf (dP ct4 hb) hs ir an (λd y hy=>by rw[show jy (oO fn)=[x] from dP ct5 hb] at hy;rw[kY.1 hy];exact hl d) vc.out
def Cn.vc(P:ca7)(sp:fe)(c:Cn)(fn:cr0)(an:bw c.ps->bL):Prop :=
 yU c.ps λd=>vD c.ps d->qD (c.pre d)->xm (A8 c.ps d fn.ntmps) (sx P sp (an d) (oO fn) (AI P c.ps c.rs fn.results.toList (c.post d)))
theorem Cn.okH{P:ca7}{sp:fe}(c:Cn){f:cf8}{fn:cr0}(hf:P.funcs[f]? = bZ1 fn)(hb:(fn.body,jy (oO fn))=(bZ1 (oO fn),[]))(hs:je P sp)(ir:P.follows .mixedOrders=bZ3)(an:bw c.ps->bL)
  (vc:Bg (Cn.vc P sp c fn an)):mH P sp.gl f c.spec:=c.ok hf (dP ct4 hb) hs ir an (λd x hx=>by rw[show jy (oO fn)=[] from dP ct5 hb] at hx;cases hx) vc.out
theorem Cn.okY{P:ca7}{sp:fe}(c:Cn){f:cf8}{fn:cr0}(hf:P.funcs[f]? = bZ1 fn){x:Array Tmp×Code×Code}(hb:(fn.body,jy (oO fn))=(bZ1 (oO fn),[x]))(hs:je P sp)(ir:P.follows .mixedOrders=bZ3)(an:bw c.ps->bL)(hl:∀ d r,vf (an d).ln x r->(an d).lo r)
  (vc:Bg (Cn.vc P sp c fn an)):mH P sp.gl f c.spec:=c.ok hf (dP ct4 hb) hs ir an (λd y hy=>by rw[show jy (oO fn)=[x] from dP ct5 hb] at hy;rw[kY.1 hy];exact hl d) vc.out
def bK4(G:sH):fe:=⟨λ_=>bZ9,G,bZ9⟩
theorem aD{P:ca7}{G:sH}:je P (bK4 G):=λf s h=>by cases h
def FH(sp:fe)(f:cf8)(s:Spec):fe:=⟨λg=>match ca0 g f with
 | true=>bZ1 s
 | false=>sp.fn g,sp.gl,sp.yl⟩
theorem ap{P:ca7}{sp:fe}{f:cf8}{s:Spec}(h:je P sp)(hs:mH P sp.gl f s):je P (FH sp f s):=λg t e=>by
 unfold FH at e
 simp only at e
 split at e
 next hb=>cases e;rw[bK hb];exact hs
 .exact h g t e
def aR0(sp:fe)(s:Spec):fe:=⟨sp.fn,sp.gl,bZ1 s⟩
theorem S8{P:ca7}{sp:fe}{s:Spec}(h:je P sp):je P (aR0 sp s):=h
def bo2(sp:fe)(d:Nat):fe:=FH sp (4000000000+d) λ_ _=>.fail
theorem Gx{P:ca7}{sp:fe}{d:Nat}(h:je P sp):je P (bo2 sp d):=ap h λ_ _ _ _ _ e=>by cases e
def bB4(sp:fe)(d:Nat):fe:=FH sp (4500000000+d) λ_ _=>.fail
theorem a24{P:ca7}{sp:fe}{d:Nat}(h:je P sp):je P (bB4 sp d):=ap h λ_ _ _ _ _ e=>by cases e
def a92(sp:fe)(d:Nat):fe:=FH sp (4100000000+d) λ_ _=>.fail
theorem Xl{P:ca7}{sp:fe}{d:Nat}(h:je P sp):je P (a92 sp d):=ap h λ_ _ _ _ _ e=>by cases e
theorem bh9{b:Bool}{y n:Prop}:ar b y n↔(b=bZ3->y)/\(b=bZ6->n):=by cases b <;> simp[ar]
theorem aG{n:Int}(h : -9223372036854775808<=n)(h':n<=9223372036854775807):bZ4.wrap n=n:=IntWalk.i64_in n ⟨h,h'⟩
theorem ug{n:Int}(h:0<=n)(h':n<=4294967295):bZ7.wrap n=n:=IntWalk.u32_in n ⟨h,h'⟩
theorem Yn{n:Int}(h:0<=n)(h':n<=18446744073709551615):ca1.wrap n=n:=IntWalk.u64_in n ⟨h,h'⟩
theorem Mj{y n:Prop}:ar bZ3 y n↔y:=rg
theorem iu{y n:Prop}:ar bZ6 y n↔n:=rg
theorem dm{α:Type} [Inhabited α] {xs:List α} {i:Int} (h0:0<=i) (h1:i<be xs):Om xs (it i) Sk∈xs:=by
 have h:it i<be xs:=ab
 rw[cq,cG h];exact List.getElem_mem h
theorem AD{a b:Int}(ha:0<=a):0<=a.tmod b:=Int.tmod_nonneg b ha
theorem zq{a b:Int}(ha:0<=a)(hb:0<b):a.tmod b<b:=Int.tmod_lt_of_pos a hb
theorem aw{b:Bool}{y n:Prop}(hy:b=bZ3->y)(hn:b=bZ6->n):ar b y n:=bh9.2 ⟨hy,hn⟩
theorem VW(n:Int):0<=bZ7.wrap n/\bZ7.wrap n<=4294967295:=IntKind.wrap_has .u32 n
theorem bQ5{α:Type} [Inhabited α] {p:α->Prop} {xs:List α} (h:∀ x∈xs,p x) {i:Int} (h0:0<=i) (h1:i<be xs):p (Om xs (it i) Sk):=h _ (dm h0 h1)
theorem jC{p:Prop} [Decidable p] (h:(!decide p)=bZ3):¬ p:=bg (by simpa only[qE] using h)
theorem jx{p:Prop} [Decidable p] (h:(!decide p)=bZ6):p:=aX (by simpa only[Ak] using h)
theorem uH{a b:Bool}{y n:Prop}(hy:a=bZ3∨b=bZ3->y)(hn:a=bZ6->b=bZ6->n):ar (bif a then bZ3 else b) y n:=by
 cases a with
 | true=>exact hy (.inl rfl)
 | false=>cases b with
  | true=>exact hy (.inr rfl)
  | false=>exact hn rfl rfl
theorem AM{a b:Bool}{y n:Prop}(hy:a=bZ3->b=bZ3->y)(hn:a=bZ6∨b=bZ6->n):ar (bif a then b else bZ6) y n:=by
 cases a with
 | false=>exact hn (.inl rfl)
 | true=>cases b with
  | true=>exact hy rfl rfl
  | false=>exact hn (.inr rfl)
theorem lH{α:Type} [Inhabited α] {l:List α} {i:Nat} {a:α} (h:i<be l):Om (l.set i a) i Sk=a:=by
 rw[cq,List.getElem?_set_self h];rfl
theorem Fx{α:Type} [Inhabited α] {q:α->Bool} {l:List α} {j:Int} (h0:0<=j) (h1:j<be l) (h2:∀ x∈l.take (it j),q x=bZ6) (h3:q (Om l (it j) Sk)=bZ3) :
  j=if l.findIdx q<be l then (l.findIdx q:Int) else -1:=by
 have hj:it j<be l:=ab
 rw[cq,cG hj,iA] at h3
 have e:=(List.findIdx_eq hj).2 ⟨h3,λk hk=>h2 _ (List.mem_take_iff_getElem.2 ⟨k,ab,rfl⟩)⟩
 rw[e,aj hj];omega
theorem IT{α:Type} [Inhabited α] {q:α->Bool} {l:List α} {j:Int} (h1:¬ j<be l) (h2:∀ x∈l.take (it j),q x=bZ6) :
  (-1:Int)=if l.findIdx q<be l then (l.findIdx q:Int) else -1:=by
 rw[gN ab] at h2
 rw[List.findIdx_eq_length_of_false h2,ah (Nat.lt_irrefl _)]
theorem yG{α:Type} [Inhabited α] {P:α->Prop} {l:List α} {j:Int} (h0:0<=j) (h1:j<be l) (h2:∀ x∈l.take (it j),P x) (h3:P (Om l (it j) Sk)) :
  ∀ x∈l.take (it (j+1)),P x:=by
 intro x hx
 have hj:it j<be l:=ab
 rw[show it (j+1)=it j+1 by omega,cw6,cG hj] at hx
 rw[cq,cG hj,iA] at h3
 obtain hx|hx:=dI.1 hx
 .exact h2 x hx
 .simp at hx;rw[hx];exact h3
theorem qZ{α:Type} [Inhabited α] {l:List α} {k:Int} (h0:0<=k) (h1:k<be l):l.take (it (k+1))=l.take (it k)++[Om l (it k) Sk]:=by
 have e:it (k+1)=it k+1:=ab
 have hk:it k<be l:=ab
 rw[e,cw6,cG hk,cq,cG hk]
 rfl
theorem M6{a b:Prop} [Decidable a] [Decidable b]:(bif decide a then bZ3 else decide b)=bZ2 (a∨b):=by by_cases h:a <;> simp[h]
theorem zV{a b:Prop} [Decidable a] [Decidable b]:(bif decide a then decide b else bZ6)=bZ2 (a/\b):=by by_cases h:a <;> simp[h]
theorem bV7{a b:Prop} [Decidable a] [Decidable b]:(bif !decide a then !decide b else bZ6)=bZ2 (¬ a∧¬ b):=by by_cases h:a <;> simp[h]
theorem Xs{a b:Prop} [Decidable a] [Decidable b]:(bif !decide a then bZ3 else decide b)=bZ2 (¬ a∨b):=by by_cases h:a <;> simp[h]
theorem aI{p:Prop}(h:p:=by repeat' first|exact trivial|refine⟨trivial,?_⟩|refine⟨(by with_reducible rfl),?_⟩|refine⟨aG (by omega) (by omega),?_⟩|refine⟨rfl,?_⟩):p:=h
theorem cL{X:Bool}{P:Bool->Prop}(h:P X):∀ b,b=X->P b:=λ_ e=>e▸h
theorem cK{p q:Prop}(k:q)(h:p:=by first|(simp;done)|(simp;omega)|(simp;intros;omega)|(simp +contextual;done)):p/\q:=⟨h,k⟩
theorem ik{p q:Prop}(k:q)(h:p:=by first|exact trivial|with_reducible rfl|exact aG (by omega) (by omega)):p/\q:=⟨h,k⟩
theorem uI{p q:Prop}(k:q)(h:p:=by with_reducible rfl):p/\q:=⟨h,k⟩
theorem ci{p:Prop} [Decidable p] {A B:Prop} (a:p->A) (b:¬p->B):ar (decide p) A B:=aw (λh=>a (aX h)) λh=>b (bg h)
def fH{A B:Type}:Qn (A×B):=⟨λk=>∀(a:A)(b:B),k (a,b),λ_ h i=>h i.1 i.2,λk=>∃ (a:A) (b:B),k (a,b),λ_ ⟨a,b,h⟩=>⟨_,h⟩⟩
def oB{A B C:Type}:Qn (A×B×C):=⟨λk=>∀(a:A)(b:B)(c:C),k (a,b,c),λ_ h i=>h i.1 i.2.1 i.2.2,λk=>∃ (a:A) (b:B) (c:C),k (a,b,c),λ_ ⟨a,b,c,h⟩=>⟨_,h⟩⟩
def Q2{A B C D:Type}:Qn (A×B×C×D):=⟨λk=>∀(a:A)(b:B)(c:C)(d:D),k (a,b,c,d),λ_ h i=>h i.1 i.2.1 i.2.2.1 i.2.2.2,λk=>∃ (a:A) (b:B) (c:C) (d:D),k (a,b,c,d),λ_ ⟨a,b,c,d,h⟩=>⟨_,h⟩⟩
def bu{A:Type 1}(k:Nat)(c:A)(r:Nat->Option A):Nat->Option A:=λn=>match ca0 n k with|true=>bZ1 c|false=>r n
def cC{A:Type 1}:Nat->Option A:=λ_=>bZ9
def aU{A:Type}:A->bL:=λ_=>{}
end Go.SX
namespace Go.RS
open Go.SX Go.Proofs
def tf(b:Bool):Prop:=b->(b->b)/\True
def rf(b:Bool):Prop:=b->b
def zGc(b:Bool):Prop:=b=bZ6 → !b
def ao:Int->Int:=bZ5 .i64
def ae {α} [Inhabited α] (l:List α) (i:Int):α:=Om l (it i) Sk
def ac {α} (l:List α):Int:=be l
def zTe:Int:=1099511627776
def iK {α} [Inhabited α] (l:List α) (i:Nat):α:=Om l i Sk
abbrev KO(x:Int):Prop := -9223372036854775808<=x/\x<=9223372036854775807
abbrev Af:CT := .pair (.pair (.int .u32) (.int .i64)) (.int .i64)
abbrev cBlocks:CT := .pair Af (.pair Af (.pair Af (.pair Af (.pair Af (.pair Af (.pair Af Af))))))
def blocksV:cBlocks.D:=(((0,8),1),((2130706432,8),2),((167772160,8),3),((2886729728,12),3),((3232235520,16),3),((2851995648,16),4),((3758096384,4),5),((4026531840,4),6))
abbrev xS:CT := .int .u32
abbrev Pk:Nat->CT
 | 0=>xS
 | n+1 => .pair xS (Pk n)
def Xx:(n:Nat)->ad->(Pk n).D
 | 0,l=>l.headD 0
 | n+1,l=>(l.headD 0,Xx n l.tail)
abbrev cSt8:CT := .pair xS (.pair xS (.pair xS (.pair xS (.pair xS (.pair xS (.pair xS xS))))))
def startV8:cSt8.D:=(0x6a09e667,0xbb67ae85,0x3c6ef372,0xa54ff53a,0x510e527f,0x9b05688c,0x1f83d9ab,0x5be0cd19)
abbrev cKeys:CT:=Pk 63
def keysV:cKeys.D:=Xx 63 [1116352408,1899447441,3049323471,3921009573,961987163,1508970993,2453635748,2870763221,3624381080,310598401,607225278,1426881987,1925078388,2162078206,2614888103,3248222580,3835390401,4022224774,264347078,604807628,770255983,1249150122,1555081692,1996064986,2554220882,2821834349,2952996808,3210313671,3336571891,3584528711,113926993,338241895,666307205,773529912,1294757372,1396182291,1695183700,1986661051,2177026350,2456956037,2730485921,2820302411,3259730800,3345764771,3516065817,3600352804,4094571909,275423344,430227734,506948616,659060556,883997877,958139571,1322822218,1537002063,1747873779,1955562222,2024104815,2227730452,2361852424,2428436474,2756734187,3204031479,3329325298]
def GL:sH:=(λn=>match n with|1=>bZ1 ⟨cBlocks,blocksV⟩|0=>bZ1 ⟨cSt8,startV8⟩|2=>bZ1 ⟨cKeys,keysV⟩|_=>bZ9)
theorem ir:Tryz.prog.follows .mixedOrders=true:=Tryz.checked.mixed
abbrev cI:CT := .int .i64
abbrev bm:CT := .int .u8
abbrev dw:CT := .int .u32
abbrev QL:CT := .int .u64
abbrev jw:CT := .pair (.sl bm) cI
abbrev xp:CT := .pair cI cI
abbrev yT:CT := .pair cI cI
abbrev Mz:CT := .pair dw (.pair dw (.pair cI (.pair cI cI)))
def f6(c:ad×Int):Prop:=0<=c.2/\c.2<=be c.1
theorem lL{sp:fe}{c:Cn}{f:cf8}{fn:cr0}{q:Prop}(hf:Tryz.prog.funcs[f]? = bZ1 fn)(hs:je Tryz.prog sp)(an:bw c.ps->bL)(vc:q)(hb:(fn.body,jy (oO fn))=(bZ1 (oO fn),[]):=by kernel_rfl)(he:Cn.vc Tryz.prog sp c fn an=q:=by kernel_rfl):mH Tryz.prog sp.gl f c.spec:=Cn.okH c hf hb hs ir an (BG he vc)
theorem aF{sp:fe}{c:Ct}{f:cf8}{fn:cr0}{q:Prop}(hf:Tryz.prog.funcs[f]? = bZ1 fn)(hs:je Tryz.prog sp)(an:bw c.ps->bL)(vc:q)(hb:(fn.body,jy (oO fn))=(bZ1 (oO fn),[]):=by kernel_rfl)(he:Ct.vc Tryz.prog sp c fn an=q:=by kernel_rfl):mH Tryz.prog sp.gl f c.spec:=Ct.okH c hf hb hs ir an (BG he vc)
abbrev aC(f:cf8)(s:Go.SX.Spec):=mH Tryz.prog GL f s
abbrev bg8:=Int×Int
abbrev bX9:=List bg8×Int×Int×Bool×List (bg8×ad×Int)×Int×Int×Int×Int×Int×bg8×Bool×Bool×Int×Int
abbrev bY8:=List (bg8×ad×Int)×Int×ad×bg8×Int
abbrev af1:=(List bX9×List (Int×Int×Int×Int×Int×Int)×List (Int×Int×Bool×bg8×ad×Int))×Int×Int×Int×List bY8×ad×List (Int×Int×Int×Int×Int×ad)×List (Int×Int×ad)×List (Int×Int×Int×Int×Int)
abbrev bn0:=Int×Int×Int×Int×Int×Int×Int×Int×Bool×Bool×Int×Int×Int×Int×Int×Int×Int
abbrev bX8:=List bg8
abbrev bY0:=List ad
abbrev bY1:=ad×Int
abbrev bY2:=Int×Int×Int×Int
abbrev bY3:=Int×Int×Int×Int×Int×Int×Int
abbrev bY4:=Int×Int×Int×ad
abbrev bY5:=Int×Nat
abbrev bY6:=Int×Int×Int×Int×Int×Int×Int×Int
abbrev bY7:=List (Int×Int×Int)
abbrev bY9:=Int×ad
abbrev bZ0:=Int×ad×bg8×Int
def as6:Ct:=⟨[.val (.sl bm),.val cI],[.box 83 jw],λd=>[0<=d.2.1],λd=>(((if (be d.1:Int)<=d.2.1 then d.1 else d.1.take (it d.2.1),0),()),())⟩
def aK(a:Int):=a<=9223372036854775807
def aq(a:Int):=(-9223372036854775808)<=a/\aK a
def aQ(a:ad):=be a<=maxLen/\ ∀(b:Int),b∈a->0<=b/\b<=255
def am(a:Int)(b c:Prop):=0<=a/\b/\c
def fU(a:ad)(b c:Int):=bY a (it b) (it c)
def bt(a b:Int)(c d:Prop):=am a (a<=b) (c/\d)
def ai(a:Prop):=a/\True
def ax(a b:Int):=bZ2 (a<b)
theorem bG3:
 ∀(a:ad)(b:Int),aQ a/\ai (aq b)->0<=b->ar (ax b (ac a)) (bt 0 b (b<=ac a) ((fU a 0 b,(0:Int))=(if ac a<=b then a else take (it b) a,(0:Int)))) ((a,(0:Int))=(if ac a<=b then a else take (it b) a,(0:Int))):= by
  delta ac aq aK aQ am fU bt ai ax
  rintro x y ⟨-,⟨h0,h1⟩,-⟩ h
  refine ci (λhb=>?_) (λhb=>?_)
  .refine⟨ab,h,ab,?_⟩
   rw[ah ab]
   simp[bY]
  .rw[aj ab]
theorem Se:aC 5 as6.spec:=aF Tryz.func5 aD aU bG3
open Go.SX
def xs(k a:Nat):Nat:=a ^^^ a/2^k
def mu(c a:Nat):Nat:=a*c%18446744073709551616
def Iy(x:Nat):Nat:=xs 31 (mu 10723151780598845931 (xs 27 (mu 13787848793156543929 (xs 30 ((x+11400714819323198485)%18446744073709551616)))))
def oJ(x:Int):Int:=(Iy (it x):Int)
theorem bC8{k a:Nat}(ha:a<18446744073709551616):xs k a<18446744073709551616:=by
 have h1:a<2^64:=ab
 have h2:a/2^k<2^64:=cw7 (cz5 _ _) h1
 have h3:=Nat.xor_lt_two_pow h1 h2
 unfold xs
 omega
theorem Qy{c a:Nat}:mu c a<18446744073709551616:=by unfold mu;omega
theorem aK9(x:Nat):Iy x<18446744073709551616:=by
 unfold Iy
 exact bC8 Qy
theorem Sg(x:Int):0<=oJ x/\oJ x<=18446744073709551615:=by
 have:=aK9 (it x)
 unfold oJ
 omega
theorem PB(n:Nat):ca1.wrap (n:Int)=((n%18446744073709551616:Nat):Int):=by
 rw[IntKind.wrap_u64,Int.natCast_emod]
 rfl
theorem aL8(n k:Nat)(hk:k<=64):eZ .u64 (n:Int) (k:Int)=((n/2^k:Nat):Int):=by
 unfold eZ
 have:min (it (k:Int)) ca1.bits=k:=by simp only[IntKind.bits,cb6];omega
 rw[this,Er _ (Int.le_of_lt (Int.pow_pos aB)),Int.natCast_ediv,Int.natCast_pow]
 rfl
theorem Mi(n k:Nat)(hk:k<=64)(hn:n<18446744073709551616):bits .xor .u64 (n:Int) (eZ .u64 (n:Int) (k:Int))=(xs k n:Int):=by
 rw[aL8 n k hk]
 exact bits_xor_u64_nat _ _ hn (cw7 (cz5 _ _) hn)
theorem Us(n c:Nat):ca1.wrap ((n:Int)*(c:Int))=(mu c n:Int):=by
 rw[← Int.natCast_mul,PB];rfl
end Go.RS
namespace Go.RS
open Go.SX Go.Proofs
def ag2:Ct:=⟨[.val QL],[.val QL],λ_=>[],λd=>((oJ d.1,()),())⟩
def OJ(a:Int):=bZ5 ca1 (bits cd6 ca1 (bZ5 ca1 (a+11400714819323198485)) (eZ ca1 (bZ5 ca1 (a+11400714819323198485)) 30)*13787848793156543929)
def dW(a b:Prop):=ai a->True->b
def Oh(a:Int):=bZ5 ca1 (bits cd6 ca1 (OJ a) (eZ ca1 (OJ a) 27)*10723151780598845931)
theorem aU7:
 ∀(a:Int),dW (0<=a/\a<=18446744073709551615) (am 30 ((0:Int)<=(27:Int)) ((0:Int)<=(31:Int)/\bits cd6 ca1 (Oh a) (eZ ca1 (Oh a) 31)=oJ a)):= by
  delta am OJ ai dW Oh
  rintro x ⟨⟨h0,h1⟩,-⟩ -
  refine⟨aB,aB,aB,?_⟩
  have h0:=h0
  obtain⟨n,rfl⟩:=rx h0
  have e0:ca1.wrap ((n:Int)+11400714819323198485)=(((n+11400714819323198485)%18446744073709551616:Nat):Int):=PB (n+11400714819323198485)
  have hm:(n+11400714819323198485)%18446744073709551616<18446744073709551616:=ab
  have e1:=Mi _ 30 aB hm
  have e2:=Us (xs 30 ((n+11400714819323198485)%18446744073709551616)) 13787848793156543929
  have e3:=Mi _ 27 aB (Qy (c:=13787848793156543929) (a:=xs 30 ((n+11400714819323198485)%18446744073709551616)))
  have e4:=Us (xs 27 (mu 13787848793156543929 (xs 30 ((n+11400714819323198485)%18446744073709551616)))) 10723151780598845931
  have e5:=Mi _ 31 aB (Qy (c:=10723151780598845931) (a:=xs 27 (mu 13787848793156543929 (xs 30 ((n+11400714819323198485)%18446744073709551616)))))
  have c1:((30:Nat):Int)=30:=rfl
  have c2:((27:Nat):Int)=27:=rfl
  have c3:((31:Nat):Int)=31:=rfl
  have c4:((13787848793156543929:Nat):Int)=13787848793156543929:=rfl
  have c5:((10723151780598845931:Nat):Int)=10723151780598845931:=rfl
  rw[c1] at e1
  rw[c4] at e2
  rw[c2] at e3
  rw[c5] at e4
  rw[c3] at e5
  rw[e0,e1,e2,e3,e4,e5]
  unfold oJ Iy
  rw[cb6]
theorem UB:aC 183 ag2.spec:=aF Tryz.func183 aD aU aU7
abbrev lD:Type:=Int×Int×Int×Int×Int
def C7(h x:Int):Int:=oJ (bits .xor .u64 h (bZ5 .u64 x))
def sA(seed:Int)(k:lD):Int:=C7 (C7 (C7 (C7 (C7 (oJ (bZ5 .u64 seed)) k.1) k.2.1) k.2.2.1) k.2.2.2.1) k.2.2.2.2
theorem GU(s:Int)(k:lD):0<=sA s k/\sA s k<=18446744073709551615:=Sg _
def GY(seed:Int)(k:lD)(j:Int):Int:=([k.1,k.2.1,k.2.2.1,k.2.2.2.1,k.2.2.2.2].take (it j)).foldl C7 (oJ (bZ5 .u64 seed))
def Sz:Ct:=⟨[.val cI,.agg Mz],[.val QL],λ_=>[],λd=>((sA d.1 d.2.1,()),())⟩
def bf9:bw Sz.ps->bL:=(λd=>{loops:=(bu 3 (λS=>{ι:=Int×Int,qn:=fH,μ:=λi=>it (5-i.1),inv:=λi=>0<=i.1/\i.1<=5/\i.2=GY d.1 d.2.1 i.1,keep:=[23],slots:=λi=>[(5,.int .u64 i.2),(24,.int .i64 i.1)]}) cC)})
def bn(a b c d:Int)(e f:Prop):=a=b/\c=d/\e/\f
def bp(a b:Int)(c d:Prop):=bn a a b b c d
def bN(a b c:Int)(d e:Prop):=bp a b (c=c) (d/\e)
def aZ(a b c d:Int)(e f:Prop):=bN a b c (d=d) (e/\f)
def aO(a:Int):=0<=a/\a<=4294967295
def cN(a b:Int):=it a<it b
def bj(a b c:Int):=cN (a -b) (a -c)
def bz(a:Int):=[a]
def bf(a b:Int):=ao (a+1)=b
theorem aN0:
 ∀(a b c d e f:Int),aq a/\ai (aO b/\aO c/\aq d/\aq e/\aq f)->True->(∃(g h:Int),am g (g<=5) (h=GY a (b,c,d,e,f) g)/\oJ (bZ5 ca1 a)=h/\aZ (ao b) (ao c) d e (f=f) (ai (0=g)))/\ ∀(g h:Int),am g (g<=5) (h=GY a (b,c,d,e,f) g)->ar (ax g 5) (am g (g<(↑((5:Nat)):Int)) (∃(i j:Int),am i (i<=5) (j=GY a (b,c,d,e,f) i)/\bj 5 i g/\oJ (bits cd6 ca1 h (bZ5 ca1 (SX.pickI (ao b::ao c::d::e::bz f) (it g))))=j/\aZ (ao b) (ao c) d e (f=f) (ai (bf g i)))) (h=sA a (b,c,d,e,f)):= by
  delta ao aq aK aZ bN bp aO bj am bz ai bf cN ax bn
  rintro x a b c e f ⟨-,⟨⟨a0,a1⟩,⟨b0,b1⟩,⟨c0,c1⟩,⟨e0,e1⟩,f0,f1⟩,-⟩ -
  refine⟨⟨0,_,⟨ab,ab,rfl⟩,aI⟩,?_⟩
  rintro j h ⟨h0,h1,rfl⟩
  refine ci (λhj=>?_) (λhj=>?_)
  .refine⟨h0,ab,j+1,GY x (a,b,c,e,f) (j+1),⟨ab,ab,rfl⟩,ab,?_,rfl,rfl,rfl,rfl,rfl,aG ab ab,aP⟩
   rw[aG (n:=a) ab ab,aG (n:=b) ab ab]
   have:j=0∨j=1∨j=2∨j=3∨j=4:=ab
   obtain rfl|rfl|rfl|rfl|rfl:=this <;> rfl
  .have:j=5:=ab
   subst this
   rfl
theorem UA:aC 316 Sz.spec:=aF Tryz.func316 (ap aD UB) bf9 aN0
def qA(way seed:Int)(k:lD)(count n:Int):Int×Int :=
 if n<1∨16<n∨count<0∨way<1∨3<way then (0,1) else
  (if way=1 then (sA seed k).tmod n else if way=2 then (sA seed (k.1,k.2.1,0,0,0)).tmod n else count.tmod n,0)
def aL0:Ct:=⟨[.val cI,.val cI,.agg Mz,.val cI,.val cI],[.val cI,.val cI],λ_=>[],λd=>(((qA d.1 d.2.1 d.2.2.1 d.2.2.2.1 d.2.2.2.2.1).1,(qA d.1 d.2.1 d.2.2.1 d.2.2.2.1 d.2.2.2.2.1).2,()),())⟩
def aJ(a:Prop):=ai (a->a)
def bR(a:Bool):=!a->aJ ( !a)
def bG(a b:Int)(c d:Prop):=aq a/\aq b/\c/\d
def bq(a b:Bool):=bif a then bZ3 else b
def bv(a:Bool):=a=bZ6-> !a
def sk(a b c:Bool)(d e:Prop):=a=bq b c->bR a/\d/\e
def dV(a b:Int):=aq a/\ai (aq b)
def dH(a:Int):=ax a 0
def Jv(a b c d e:Int)(f:lD)(g:Int):=bZ5 ca1 a≠0/\ao (cd8 b c)=(qA d e f g a).1/\0=(qA d e f g a).2
def iN(a:Int):=bZ2 (a=1)
def zJ(a b c:Bool)(d e:Prop):=∀(f:Bool),sk f a b (bv f) (ar (bq f c) d e)
theorem aX3:
 ∀(a b c d e f g h i:Int),bG a b (aO c/\aO d/\aq e/\aq f/\aq g) (dV h i)->True-> ∀(j:Bool),j=ax i 1->bR j/\bv j/\zJ j (ax 16 i) (dH h) (0=(qA a b (c,d,e,f,g) h i).1/\1=(qA a b (c,d,e,f,g) h i).2) (ar (iN a) (Jv i (sA b (c,d,e,f,g)) (bZ5 ca1 i) a b (c,d,e,f,g) h) (ar (bZ2 (a=2)) (Jv i (sA b (c,d,0,0,0)) (bZ5 ca1 i) a b (c,d,e,f,g) h) (ar (bZ2 (a=3)) (Jv i (bZ5 ca1 h) (bZ5 ca1 i) a b (c,d,e,f,g) h) (0=(qA a b (c,d,e,f,g) h i).1/\1=(qA a b (c,d,e,f,g) h i).2)))):= by
  delta ao aq aK bR aJ aO bG bq bv sk ai dV dH Jv ax iN zJ
  rintro x s a b c e f cnt n ⟨-,-,-,⟨c0,c1⟩,⟨n0,n1⟩,-⟩ -
  (repeat (refine cL ?_;repeat refine cK ?_))
  refine aw (λh=>?_) (λh=>?_)
  .simp at h
   unfold qA;rw[aj ab];exact⟨rfl,rfl⟩
  .simp at h
   rw[Yn (n:=n) ab ab]
   have hr:∀ k,0<=(sA s k).tmod n/\(sA s k).tmod n<n:=λk=>⟨AD (GU _ _).1,zq (GU _ _).1 ab⟩
   unfold qA
   refine aw (λhx=>?_) (λhx=>aw (λhy=>?_) (λhy=>aw (λhz=>?_) (λhz=>?_)))
   .simp at hx
    subst hx
    have:=hr (a,b,c,e,f)
    rw[ah ab,aj rfl,aG ab ab]
    exact⟨ab,rfl,rfl⟩
   .simp at hx hy
    subst hy
    have:=hr (a,b,0,0,0)
    rw[ah ab,ah ab,aj rfl,aG ab ab]
    exact⟨ab,rfl,rfl⟩
   .simp at hx hy hz
    subst hz
    have q0:=AD (b:=n) (a:=cnt) ab
    have q1:=zq (b:=n) (a:=cnt) ab ab
    rw[ah ab,ah ab,ah ab,Yn (n:=cnt) ab ab,aG ab ab]
    exact⟨ab,rfl,rfl⟩
   .simp at hx hy hz
    rw[aj ab]
    exact⟨rfl,rfl⟩
theorem ak4:aC 309 aL0.spec:=aF Tryz.func309 (ap aD UA) aU aX3
abbrev xq:CT := .pair dw cI
abbrev as7:CT := .pair dw cI
abbrev TU:CT := .pair as7 (.pair (.sl cI) cI)
abbrev eh:CT := .pair (.sl xq) (.pair dw (.pair cI (.pair .bool (.pair (.sl TU) (.pair cI (.pair dw (.pair cI (.pair cI (.pair cI (.pair xp (.pair .bool (.pair .bool (.pair cI cI)))))))))))))
abbrev tv:CT := .pair (.sl TU) (.pair cI (.pair (.sl cI) (.pair yT cI)))
abbrev aD3:Type:=Int×Int
abbrev cz:Type:=aD3×ad×Int
abbrev au:Type:=List bg8×Int×Int×Bool×List cz×Int×Int×Int×Int×Int×bg8×Bool×Bool×Int×Int
abbrev NState:Type:=List cz×Int×ad×bg8×Int
def aS(n:au):=n.1
def kL(n:au):=n.2.1
def UE(n:au):=n.2.2.1
def qf(n:au):=n.2.2.2.1
def bW(n:au):=n.2.2.2.2.1
def oQ(n:au):=n.2.2.2.2.2.1
def uV(n:au):=n.2.2.2.2.2.2.1
def vA(n:au):=n.2.2.2.2.2.2.2.1
def p8(n:au):=n.2.2.2.2.2.2.2.2.1
def Ef(n:au):=n.2.2.2.2.2.2.2.2.2.1
def mX(n:au):=n.2.2.2.2.2.2.2.2.2.2.1
def oA(n:au):=n.2.2.2.2.2.2.2.2.2.2.2.1
def gB(n:au):=n.2.2.2.2.2.2.2.2.2.2.2.2.1
def lK(n:au):=n.2.2.2.2.2.2.2.2.2.2.2.2.2.1
def I5(n:au):=n.2.2.2.2.2.2.2.2.2.2.2.2.2.2
def cW(s:NState):=s.1
def tQ(s:NState):=s.2.1
def nL(s:NState):=s.2.2.1
def xd(s:NState):=s.2.2.2.1
def o5(s:NState):=s.2.2.2.2
theorem FU(n:Int):bits .and .i64 n 65535=n%65536:=by
 have h127:(cc8 64 65535).toNat=2^16-1:=aB
 have key:(cc8 64 n &&& cc8 64 65535).toNat=(n%((2^64:Nat):Int)).toNat%2^16:=by
  rw[BitVec.toNat_and,BitVec.toNat_ofInt,h127,Hb]
 show bZ4.wrap ((cc8 64 n &&& cc8 64 65535).toNat:Nat)=n%65536
 rw[key,IntKind.wrap_i64]
 omega
theorem am5{n:Int}(h0:0<=n)(h1:n<=18446744073709551615):bits .and .u64 n 65535=n%65536:=by
 rw[u64_and n 65535 h0 ab aB aB]
 have:(it n &&& it 65535)=it n%65536:=Hb (it n) 16
 rw[this];omega
def wm(speed a:Int):Int:=if speed<0∨1000000<speed∨a<0∨1125899906842624<a then 0 else speed*(a/1000000)+speed*(a%1000000)/1000000
theorem aa2{speed a:Int}:0<=wm speed a/\wm speed a<=2251799813685248:=by
 unfold wm
 split
 .omega
 next h=>have a1:0<=a/1000000:=ab;have a2:a/1000000<=1125899907:=ab;have a3:0<=a%1000000:=ab;have a4:a%1000000<=999999:=ab;have b1:0<=speed*(a/1000000):=cl7 ab a1;have b2:speed*(a/1000000)<=1000000*1125899907:=cl8 ab a2 a1 ab;have b3:0<=speed*(a%1000000):=cl7 ab a3;have b4:speed*(a%1000000)<=1000000*999999:=cl8 ab a4 a3 ab;omega
theorem bI3{x a:Int}(h:¬ (x<0∨1000000<x∨a<0∨1125899906842624<a)) :
  bZ5 bZ4 (bZ5 bZ4 (x*bZ5 bZ4 (cd2 a 1000000))+bZ5 bZ4 (cd2 (bZ5 bZ4 (x*cd8 a 1000000)) 1000000))=wm x a:=by
 have h2:=aa2 (speed:=x) (a:=a)
 unfold wm at h2 ⊢
 rw[ah h] at h2 ⊢
 have a1:0<=a/1000000:=ab
 have a2:a/1000000<=1125899907:=ab
 have a3:0<=a%1000000:=ab
 have a4:a%1000000<=999999:=ab
 have b1:=cl7 ab a1
 have b2:=cl8 ab a2 a1 ab
 have b3:0<=x*(a%1000000):=cl7 ab a3
 have b4:x*(a%1000000)<=1000000*999999:=cl8 ab a4 a3 ab
 rw[z9 ab,Ce ab,aG (n:=a/1000000) ab ab,aG (n:=x*(a/1000000)) ab ab,
  aG (n:=x*(a%1000000)) ab ab,z9 b3,aG (n:=x*(a%1000000)/1000000) ab ab,aG ab ab]
def a57:Ct:=⟨[.val cI,.val cI],[.val cI],λ_=>[],λd=>((wm d.1 d.2.1,()),())⟩
def vx(a:Int):=ax 1125899906842624 a
theorem bw6:
 ∀(a b:Int),dV a b->True-> ∀(c:Bool),c=dH a->bR c/\bv c/\ ∀(d:Bool),sk d c (ax 1000000 a) (bv d) (zJ d (dH b) (vx b) (0=wm a b) ((1000000:Int)≠(0:Int)/\(1000000:Int)≠(0:Int)/\(1000000:Int)≠(0:Int)/\ao (ao (a*ao (cd2 b 1000000))+ao (cd2 (ao (a*cd8 b 1000000)) 1000000))=wm a b)):= by
  delta ao aq aK bR aJ bq bv sk ai dV dH vx ax zJ
  rintro x a - -
  (repeat (refine cL ?_;repeat refine cK ?_))
  refine aw (λh=>?_) (λh=>?_)
  .simp at h
   unfold wm;rw[aj ab]
  .simp at h
   refine⟨ab,ab,ab,bI3 ab⟩
theorem ac6:aC 315 a57.spec:=aF Tryz.func315 aD aU bw6
def Rv(n:au):Bool:=bZ2 (0<=vA n/\vA n<=5/\0<=p8 n/\p8 n<=65535/\0<=Ef n/\Ef n<=1000000)
def qr(n:au):Int:=if Rv n then 0 else 1
def aU1:Ct:=⟨[.agg eh],[.val cI],λ_=>[],λd=>((qr d.1,()),())⟩
def cV(a:Bool)(b c:Prop):=bR a/\bR a/\b/\c
def lC(a b:Bool)(c d:Prop):=∀(e:Bool),e=a->cV e (bv e) (ar (bq e b) c d)
def CU(a b c d:Bool)(e f:Prop):=∀(g:Bool),g=a->cV g (bv g) (∀(h:Bool),h=bq g b->cV h (bv h) (lC (bq h c) d e f))
def Dk(a b c d e:Bool)(f g:Prop):=∀(h:Bool),h=a->cV h (bv h) (CU (bq h b) c d e f g)
theorem aU8:
 ∀(a:au),dW (CT.wf eh a) (∀(b:Bool),b=dH a.2.2.2.2.2.2.2.1->cV b (bv b) (Dk (bq b (ax 5 a.2.2.2.2.2.2.2.1)) (dH a.2.2.2.2.2.2.2.2.1) (ax 65535 a.2.2.2.2.2.2.2.2.1) (dH a.2.2.2.2.2.2.2.2.2.1) (ax 1000000 a.2.2.2.2.2.2.2.2.2.1) (1=qr a) (0=qr a))):= by
  delta bR aJ bq cV bv lC ai Dk CU dH dW ax
  rintro d - -
  (repeat (refine cL ?_;repeat refine cK ?_))
  unfold qr Rv vA p8 Ef
  generalize d.2.2.2.2.2.2.2.1=i
  generalize d.2.2.2.2.2.2.2.2.1=b
  generalize d.2.2.2.2.2.2.2.2.2.1=s
  refine aw (λh=>?_) (λh=>?_)
  .simp at h
   rw[ah (by simp;omega)]
  .simp at h
   rw[aj (by simp;omega)]
theorem a00:aC 216 aU1.spec:=aF Tryz.func216 aD aU aU8
abbrev wI(n:Int):Int:=bZ4.wrap n
def as3(n:au)(sent a:Int):Int:=wI (wI (p8 n+sent)+wm (Ef n) a)
def vY(n:au)(sent a:Int):Int:=as3 n sent a%65536
def bC6:Ct:=⟨[.val cI,.box 130 eh,.box 3 cI],[.val cI],λ_=>[],λd=>((vY d.2.1 d.1 d.2.2.1,()),(d.2.1,d.2.2.1,()))⟩
theorem az4:
 ∀(a:Int)(b:au)(c:Int),aq a/\CT.wf eh b/\ai (aq c)->True->bits cc6 bZ4 (ao (ao (b.2.2.2.2.2.2.2.2.1+a)+wm b.2.2.2.2.2.2.2.2.2.1 c)) 65535=vY b a c/\b=b/\c=c:= by
  delta ao aq aK ai
  rintro x d a - -
  exact⟨FU _,rfl,rfl⟩
theorem bu5:aC 314 bC6.spec:=aF Tryz.func314 (ap aD ac6) aU az4
def oD(n:au)(s:NState)(port a asked dst:Int):Int :=
 if vA n=1 then p8 n else if vA n=2 then vY n (tQ s) a
 else if vA n=3 then (if port<0∨be (nL s)<=port then vY n 0 a else vY n (Om (nL s) (it port) Sk) a)
 else if vA n=4 then asked else if vA n=5 then sA (p8 n) (0,dst,0,tQ s,0)%65536 else 0
def bU8:Ct:=⟨[.agg eh,.agg tv,.val cI,.val cI,.val cI,.val dw],[.val cI],λ_=>[],λd=>((oD d.1 d.2.1 d.2.2.1 d.2.2.2.1 d.2.2.2.2.1 d.2.2.2.2.2.1,()),())⟩
def cS(a:ad):=be a<=maxLen/\ ∀(b:Int),b∈a->aq b
def dB(a b:Int)(c:ad)(d:Int):=(aO a/\aq b)/\cS c/\aq d
def c9(a:List cz):=be a<=maxLen/\ ∀(b:cz),b∈a->dB b.1.1 b.1.2 b.2.1 b.2.2
def dA(a:Prop):=(a->a)/\aJ a
def gq(a:Bool):=!a->dA ( !a)
def gY(a:List cz)(b:Int)(c:ad)(d e f:Int):=c9 a/\aq b/\cS c/\(aq d/\aq e)/\aq f
theorem aI6:
 ∀(a:au)(b:List cz)(c:Int)(d:ad)(e f g h i j k:Int),CT.wf eh a/\gY b c d e f g/\bG h i (aq j) (ai (aO k))->True->ar (iN a.2.2.2.2.2.2.2.1) (a.2.2.2.2.2.2.2.2.1=oD a (b,c,d,(e,f),g) h i j k) (ar (bZ2 (a.2.2.2.2.2.2.2.1=2)) (vY a c i=oD a (b,c,d,(e,f),g) h i j k) (ar (bZ2 (a.2.2.2.2.2.2.2.1=3)) (∀(l:Bool),l=dH h->cV l (gq l) (bv l/\ar (bq l (bZ2 (ac d<=h))) (vY a 0 i=oD a (b,c,d,(e,f),g) h i j k) (am h (h<ac d) (vY a (ae d h) i=oD a (b,c,d,(e,f),g) h i j k)))) (ar (bZ2 (a.2.2.2.2.2.2.2.1=4)) (j=oD a (b,c,d,(e,f),g) h i j k) (ar (bZ2 (a.2.2.2.2.2.2.2.1=5)) (ao (bits cc6 ca1 (sA a.2.2.2.2.2.2.2.2.1 (0,k,0,c,0)) 65535)=oD a (b,c,d,(e,f),g) h i j k) (0=oD a (b,c,d,(e,f),g) h i j k))))):= by
  delta ae ac ao aq aK bR aJ c9 dB aO cS bG bq cV am bv gq gY ai dA dH ax iN
  rintro d r se ps t1 t2 ba port a asked dst - -
  unfold oD vA p8 tQ nL
  simp only
  refine aw (λh=>?_) (λh=>?_)
  .rw[aj (aX h)]
  have h1:=bg h
  rw[ah h1]
  refine aw (λh=>?_) (λh=>?_)
  .rw[aj (aX h)]
  have h2:=bg h
  rw[ah h2]
  refine aw (λh=>?_) (λh=>?_)
  .rw[aj (aX h)]
   (repeat (refine cL ?_;repeat refine cK ?_))
   refine aw (λh=>?_) (λh=>?_)
   .simp at h
    rw[aj h]
   .simp at h
    exact⟨ab,ab,by rw[ah ab]⟩
  have h3:=bg h
  rw[ah h3]
  refine aw (λh=>?_) (λh=>?_)
  .rw[aj (aX h)]
  have h4:=bg h
  rw[ah h4]
  refine ci (λh=>?_) (λh=>?_)
  .rw[aj h]
   have hr:=GU d.2.2.2.2.2.2.2.2.1 (0,dst,0,se,0)
   rw[am5 hr.1 hr.2,aG ab ab]
  .rw[ah h]
theorem X5:aC 304 bU8.spec:=aF Tryz.func304 (ap (ap aD bu5) UA) aU aI6
end Go.RS
