/- SX, part 20: into a function and out of it. -/
import Derived.Test.YtffciochlkcjbaaSx19
import Derived.Laws.Sem
import Derived.Laws.NewBlocks
import Derived.ProofKit
import Derived.OpenShut
import Derived.ChangeOld
import Derived.Below
import Derived.KernelRfl
import Derived.Test.YtffciochlkcjbaaChecked
import Derived.Laws.Bits64
namespace Go.SX
set_option linter.unusedVariables false
section
variable {w0:World} {N0:bv} {A Ac:Nat->Prop} {env:ai} {h:aI} {w:World}
def kG:List Nat->Bool
 | []=>true
 | n::r => !eP n r&&kG r
theorem rY:∀{l:List Nat},kG l=true->l.Nodup
 | [],_=>List.nodup_nil
 | n::r,h=>by
  simp only[kG,Bool.and_eq_true,Bool.not_eq_true'] at h
  refine List.nodup_cons.2 ⟨fun hm=>?_,rY h.2⟩
  rw[jS.2 hm] at h;cases h.1
def cj:List (Option Nat)->List Nat
 | []=>[]
 | none::r=>cj r
 | some n::r=>n::cj r
theorem iZ{n:Nat}:∀{l:List (Option Nat)},n∈cj l↔some n∈l
 | []=>by simp[cj]
 | none::r=>by simp[cj,iZ (l:=r)]
 | some m::r=>by simp[cj,iZ (l:=r)]
theorem qP{n:Nat}:∀{l:List (Option Nat)}{i i':Nat},(cj l).Nodup->l[i]? = some (some n)->l[i']? = some (some n)->i=i'
 | [],i,i',_,h,_=>by simp at h
 | none::r,i,i',hn,h,h'=>by
  cases i with
  | zero=>simp at h
  | succ i=>cases i' with
   | zero=>simp at h'
   | succ i'=>have:=qP (i:=i) (i':=i') (l:=r) hn (by simpa using h) (by simpa using h');omega
 | some m::r,i,i',hn,h,h'=>by
  obtain⟨h1,h2⟩:=List.nodup_cons.1 hn
  cases i with
  | zero =>
   simp at h;subst h
   cases i' with
   | zero=>rfl
   | succ i'=>exact absurd (iZ.2 (List.mem_of_getElem? (by simpa using h'))) h1
  | succ i=>cases i' with
   | zero=>simp at h';subst h';exact absurd (iZ.2 (List.mem_of_getElem? (by simpa using h))) h1
   | succ i'=>have:=qP (i:=i) (i':=i') (l:=r) h2 (by simpa using h) (by simpa using h');omega
def dX(bx:List Nat)(cx:List (Option Nat))(n:Nat):Option (Option Nat):=match Nat.ble QN n with
 | true=>cx[n-QN]?
 | false=>match Nat.ble PN n with
  | true=>match bx[n-PN]? with
   | some m=>some (some m)
   | none=>none
  | false=>none
def iH:List (Nat×Value×SV)->Nat->Ev
 | [],_ => .un
 | (i,v,s)::r,n=>match Nat.beq n (HN+i) with
  | true => .val v s
  | false=>iH r n
def cB(env:ai)(bx:List Nat)(cx:List (Option Nat))(hl:List (Nat×Value×SV)):ai:=fun n=>match dX bx cx n with
 | some o=>dS env o
 | none=>iH hl n
theorem tm{bx:List Nat}{cx:List (Option Nat)}{i n:Nat}(hl:bx.length<=PN)(hi:bx[i]? = some n):dX bx cx (PN+i)=some (some n):=by
 have hlt:=(List.getElem?_eq_some_iff.1 hi).1
 have h2:QN=PN+PN:=rfl
 unfold dX
 have h1:Nat.ble QN (PN+i)=false:=by
  cases hb:Nat.ble QN (PN+i) with
  | false=>rfl
  | true=>have:=Nat.le_of_ble_eq_true hb;omega
 rw[h1,Nat.ble_eq_true_of_le (by omega)]
 simp only[Nat.add_sub_cancel_left,hi]
theorem uZ{bx:List Nat}{cx:List (Option Nat)}{i:Nat}{o:Option Nat}(hi:cx[i]? = some o):dX bx cx (QN+i)=some o:=by
 unfold dX
 rw[Nat.ble_eq_true_of_le (by omega)]
 simp only[Nat.add_sub_cancel_left,hi]
theorem nf{bx:List Nat}{cx:List (Option Nat)}{n:Nat}{o:Option Nat}(e:dX bx cx n=some o):(∃ i m,bx[i]? = some m/\n=PN+i/\n<QN/\o=some m)∨∃ i,cx[i]? = some o/\n=QN+i:=by
 unfold dX at e
 split at e
 ·rename_i hb
  have:=Nat.le_of_ble_eq_true hb
  exact .inr ⟨n-QN,e,by omega⟩
 ·rename_i hb
  have hlt:n<QN:=by
   refine Nat.lt_of_not_le fun hle=>?_
   rw[Nat.ble_eq_true_of_le hle] at hb;cases hb
  split at e
  ·rename_i hb
   have:=Nat.le_of_ble_eq_true hb
   split at e
   ·rename_i m hm;cases e;exact .inl ⟨n-PN,m,hm,by omega,hlt,rfl⟩
   ·cases e
  ·cases e
theorem nZ{hv:List (Nat×Value×SV)}{bx:List Nat}{cx:List (Option Nat)}{i n:Nat}(hl:bx.length<=PN)(hi:bx[i]? = some n):cB env bx cx hv (PN+i)=env n:=by
 unfold cB;rw[tm hl hi];rfl
theorem sV{hv:List (Nat×Value×SV)}{bx:List Nat}{cx:List (Option Nat)}{i:Nat}{o:Option Nat}(hi:cx[i]? = some o):cB env bx cx hv (QN+i)=dS env o:=by
 unfold cB;rw[uZ hi]
theorem sX{bx:List Nat}{cx:List (Option Nat)}{i:Nat}(hb:bx.length<=HN-PN)(hi:i<QN-HN):dX bx cx (HN+i)=none:=by
 have h1:QN=2097152:=rfl
 have h2:PN=1048576:=rfl
 have h3:HN=1572864:=rfl
 unfold dX
 have hf:Nat.ble QN (HN+i)=false:=by
  cases hb:Nat.ble QN (HN+i) with
  | false=>rfl
  | true=>have:=Nat.le_of_ble_eq_true hb;omega
 rw[hf,Nat.ble_eq_true_of_le (by omega)]
 simp only
 rw[List.getElem?_eq_none (by omega)]
theorem rM:∀{hl:List (Nat×Value×SV)},(hl.map (·.1)).Nodup→∀ p∈hl,iH hl (HN+p.1) = .val p.2.1 p.2.2
 | [],_,p,hp=>by cases hp
 | (i,v,s)::r,hn,p,hp=>by
  simp only[List.map_cons,List.nodup_cons] at hn
  simp only[iH]
  rcases List.mem_cons.1 hp with rfl|hp
  ·rw[Nat.beq_refl]
  ·have hne:Nat.beq (HN+p.1) (HN+i)=false:=by
    cases hb:Nat.beq (HN+p.1) (HN+i) with
    | false=>rfl
    | true =>
     have:=Nat.eq_of_beq_eq_true hb
     have:p.1=i:=by omega
     exact absurd (this▸List.mem_map_of_mem (f:=(·.1)) hp) hn.1
   rw[hne]
   exact rM hn.2 p hp
theorem uQ:∀{hl:List (Nat×Value×SV)}{n:Nat},(∀ i,i∈hl.map (·.1)->n≠HN+i)->iH hl n = .un
 | [],n,_=>rfl
 | (i,v,s)::r,n,h=>by
  simp only[iH]
  have hne:Nat.beq n (HN+i)=false:=by
   cases hb:Nat.beq n (HN+i) with
   | false=>rfl
   | true=>exact absurd (Nat.eq_of_beq_eq_true hb) (h i (by simp))
  rw[hne]
  exact uQ fun i hi=>h i (by simp[hi])
theorem DZ{hl:List (Nat×Value×SV)}{n k:Nat}{l:Nat×Nat}:iH hl n ≠ .blk k l:=by
 induction hl with
 | nil=>simp[iH]
 | cons p r ih =>
  obtain⟨i,v,s⟩:=p
  simp only[iH]
  split
  ·simp
  ·exact ih
theorem uo:∀{l:List Nat}{n:Nat},(aZ (gO l) n = .dead∧∃ i∈l,n=HN+i)∨(aZ (gO l) n = .un∧∀ i∈l,n≠HN+i)
 | [],n => .inr ⟨rfl,by simp⟩
 | i::r,n=>by
  simp only[gO,aZ]
  cases hb:Nat.beq n (HN+i) with
  | true=>exact .inl ⟨rfl,i,by simp,Nat.eq_of_beq_eq_true hb⟩
  | false =>
   rcases uo (l:=r) (n:=n) with⟨h1,i',h2,h3⟩|⟨h1,h2⟩
   ·exact .inl ⟨h1,i',by simp[h2],h3⟩
   ·refine .inr ⟨h1,fun j hj=>?_⟩
    rcases List.mem_cons.1 hj with rfl|hj
    ·intro e;rw[e,Nat.beq_refl] at hb;cases hb
    ·exact h2 j hj
def lE(env:ai)(bx:List Nat)(k:Nat):Prop:=∃ n l,n∈bx/\env n = .blk k l
theorem ml{a b:List (Nat×Nm)}{n:Nat}:aZ (a++b) n=if n∈a.map (·.1) then aZ a n else aZ b n:=by
 induction a with
 | nil=>simp
 | cons p a ih =>
  obtain⟨m,x⟩:=p
  simp only[List.cons_append,aZ,List.map_cons,List.mem_cons]
  cases hb:Nat.beq n m with
  | true=>have:=Nat.eq_of_beq_eq_true hb;simp[this]
  | false =>
   have hne:¬ n=m:=fun e=>by rw[e,Nat.beq_refl] at hb;cases hb
   simp only[hne,false_or,ih]
theorem AP{A':Nat->Prop}{e':ai}{bx:List Nat}{cx:List (Option Nat)}{lb lc:List (Nat×Nm)}(ix:List Nat)(hl:bx.length<=PN)(hb:cl A' env h e' w (bx.map some) lb PN)(hc:cl A' env h e' w cx lc QN) :
  (∀ n o,dX bx cx n=some o→∃ b',aZ (lb++(lc++gO ix)) n = .live b'∧b'.mut=true/\((∃ q b,o=some q/\h q = .live b/\b.mut=true/\(∀ k len,env q = .blk k len->cL A' e' w k len b')/\(env q = .nil→∃ E t,b' = .row E t []))∨(o=none∧∃ E t,b' = .row E t []))) ∧
  (∀ n,dX bx cx n=none->aZ (lb++(lc++gO ix)) n=aZ (gO ix) n):=by
 obtain⟨hbl,hbg⟩:=hb.get
 obtain⟨hcl,hcg⟩:=hc.get
 have kb:∀ n,n∈lb.map (·.1)→∃ i,i<bx.length/\n=PN+i:=fun n hn=>by
  obtain⟨⟨n',x⟩,hx,rfl⟩:=List.mem_map.1 hn
  obtain⟨i,o,h1,h2⟩:=hb.keys _ _ hx
  exact⟨i,by have:=(List.getElem?_eq_some_iff.1 h2).1;simpa using this,h1⟩
 have kc:∀ n,n∈lc.map (·.1)→∃ i o,cx[i]? = some o/\n=QN+i:=fun n hn=>by
  obtain⟨⟨n',x⟩,hx,rfl⟩:=List.mem_map.1 hn
  obtain⟨i,o,h1,h2⟩:=hc.keys _ _ hx
  exact⟨i,o,h2,h1⟩
 have h2:QN=PN+PN:=rfl
 refine⟨fun n o e=>?_,fun n e=>?_⟩
 ·rcases nf e with⟨i,m,hi,rfl,hlt,rfl⟩|⟨i,hi,rfl⟩
  ·obtain⟨b',g1,g2,g3⟩:=hbg i (some m) (by simp[hi])
   refine⟨b',?_,g3⟩
   rw[ml,if_pos (List.mem_map_of_mem (f:=(·.1)) g2)];exact g1
  ·obtain⟨b',g1,g2,g3⟩:=hcg i o hi
   refine⟨b',?_,g3⟩
   rw[ml,if_neg]
   ·rw[ml,if_pos (List.mem_map_of_mem (f:=(·.1)) g2)];exact g1
   ·intro hmem
    obtain⟨i',hi',e'⟩:=kb _ hmem
    omega
 ·rw[ml,if_neg]
  ·rw[ml,if_neg]
   intro hmem
   obtain⟨i,o,hi,rfl⟩:=kc n hmem
   rw[uZ hi] at e;cases e
  ·intro hmem
   obtain⟨i,hi,rfl⟩:=kb n hmem
   rw[tm hl (List.getElem?_eq_getElem hi)] at e;cases e
theorem aw.call(m:aw w0 N0 A env h w){lb lc:List (Nat×Nm)}{fz:List (Nat×Nm)}{bx:List Nat}{cx:List (Option Nat)}(hv:List (Nat×Value×SV))(hfz:dW h fz)(hl:bx.length<=PN)
  (hb:cl (bC A env fz) env h (cB env bx cx hv) w (bx.map some) lb PN) (hc:cl (bC A env fz) env h (cB env bx cx hv) w cx lc QN)
  (hdj:∀ n,n∈bx++cj cx->n ∉ fz.map (·.1)) (hnd:(bx++cj cx).Nodup) :
  aw w ⟨lE env (bx++cj cx),bC A env fz,N0.g⟩ (bC A env fz) (cB env bx cx hv) (aZ (lb++(lc++gO (hv.map (·.1))))) w:=by
 obtain⟨hg,hgn⟩:=AP (hv.map (·.1)) hl hb hc
 have mf:=(m.freeze hfz).1
 have memS:∀ {n o q},dX bx cx n=some o->o=some q->q∈bx++cj cx:=fun {n o q} e eo=>by
  subst eo
  rcases nf e with⟨i,m,hi,_,_,e⟩|⟨i,hi,_⟩
  ·cases e;exact List.mem_append_left _ (List.mem_of_getElem? hi)
  ·exact List.mem_append_right _ (iZ.2 (List.mem_of_getElem? hi))
 have inj:∀ {n n' q},dX bx cx n=some (some q)->dX bx cx n'=some (some q)->n=n':=fun {n n' q} e e'=>by
  obtain⟨hn1,hn2,hn3⟩:=List.nodup_append.1 hnd
  rcases nf e with⟨i,m,hi,rfl,_,em⟩|⟨i,hi,rfl⟩ <;> rcases nf e' with⟨i',m',hi',rfl,_,em'⟩|⟨i',hi',rfl⟩
  ·cases em;cases em'
   have:=(List.getElem?_inj (List.getElem?_eq_some_iff.1 hi).1 hn1).1 (hi.trans hi'.symm)
   rw[this]
  ·cases em
   exact absurd rfl (hn3 _ (List.mem_of_getElem? hi) _ (iZ.2 (List.mem_of_getElem? hi')))
  ·cases em'
   exact absurd rfl (hn3 _ (List.mem_of_getElem? hi') _ (iZ.2 (List.mem_of_getElem? hi)))
  ·rw[qP hn2 hi hi']
 have blk:∀ {n k l},cB env bx cx hv n = .blk k l→∃ q,dX bx cx n=some (some q)/\env q = .blk k l:=fun {n k l} he=>by
  unfold cB at he
  split at he
  ·rename_i o ho
   cases o with
   | none=>cases he
   | some q=>exact⟨q,ho,he⟩
  ·exact absurd he DZ
 refine⟨rfl,rfl,rfl,Nat.le_refl _,fun _ _ _=>rfl,mf.Alt,?_,?_,?_,fun b hb=>.inl hb,mf.gl⟩
 ·intro n
  cases hs:dX bx cx n with
  | none =>
   rw[hgn n hs]
   rcases uo (l:=hv.map (·.1)) (n:=n) with⟨h1,_⟩|⟨h1,h2⟩
   ·rw[h1];trivial
   ·rw[h1]
    show cB env bx cx hv n = .un
    unfold cB;rw[hs]
    exact uQ h2
  | some o =>
   obtain⟨b',g1,g4,g5⟩:=hg n o hs
   rw[g1]
   have he:cB env bx cx hv n=dS env o:=by unfold cB;rw[hs]
   rcases g5 with⟨q,b,rfl,g2,g3,g5,g6⟩|⟨rfl,E,t,e2⟩
   ·have hm:=m.nm q
    rw[g2] at hm
    rcases hm with⟨kk,len,e1,_⟩|⟨e1,_⟩
    ·refine .inl ⟨kk,len,by rw[he];exact e1,g5 _ _ e1,fun _ hA=>?_⟩
     rcases hA with hA|⟨n',x',l',hx,he'⟩
     ·exact (m.live_blk g2 e1).2 g3 hA
     ·obtain⟨E,t,xs,hl',_⟩:=hfz n' x' hx
      have:=m.inj q n' b _ kk len l' g2 hl' g3 rfl e1 he'
      subst this
      exact hdj q (memS hs rfl) (List.mem_map_of_mem (f:=(·.1)) hx)
    ·obtain⟨E,t,e⟩:=g6 e1
     exact .inr ⟨by rw[he];exact e1,E,t,.inl e⟩
   ·exact .inr ⟨by rw[he];rfl,E,t,.inl e2⟩
 ·intro n b k l hl hm he
  obtain⟨q,hs,e2⟩:=blk he
  exact .inl ⟨q,l,memS hs rfl,e2⟩
 ·intro n n' b c k l l' hl hl' hm hm' he he'
  obtain⟨q,hs,e1⟩:=blk he
  obtain⟨q',hs',e2⟩:=blk he'
  obtain⟨b1,_,_,⟨q1,c1,e,g2,g3,_⟩|⟨e,_⟩⟩:=hg n _ hs
  ·obtain⟨b2,_,_,⟨q2,c2,e',f2,f3,_⟩|⟨e',_⟩⟩:=hg n' _ hs'
   ·cases e;cases e'
    have:=m.inj q q' c1 c2 k l l' g2 f2 g3 f3 e1 e2
    subst this
    exact inj hs hs'
   ·cases e'
  ·cases e
def bw(R:Rn)(env env1:ai):ai:=fun n=>match aY R n with
 | none=>env n
 | some _=>bP R env1 n
theorem aw.retn{As A' A1:Nat->Prop}{env1:ai}{hs h1:aI}{w1:World}{Nc:bv}{U:List (Nat×Nm)}{R:Rn}
  (ms:aw w0 N0 As env hs w) (m1:aw w Nc A1 env1 h1 w1) (hshape:∀ b s,w.shape? b=some s->w1.shape? b=some s)
  (hU:∀ n x,(n,x)∈U->x = .dead∨∃ b,x = .live b/\b.mut=true/\((∃ m b0,aY R n=some (some m)/\h1 m = .live b0/\b0.mut=true ∧
   (∀ k len,env1 m = .blk k len->cL A' (bw R env env1) w1 k len b)/\(env1 m = .nil→∃ E t,b = .row E t []))∨(aY R n=some none∧∃ E t,b = .row E t [])))
  (hdom:∀ n,aY R n≠none->n∈U.map (·.1)) (hinj:bO R)
  (hold:∀ n,aY R n≠none->hs n = .un∨∃ b,hs n = .live b/\b.mut=true/\(bP R env1 n=env n))
  (hNc:∀ k,Nc.n k→∃ n b l,n∈U.map (·.1)/\hs n = .live b/\b.mut=true/\env n = .blk k l)
  (hA:∀ b,As b->A' b) (hA1:∀ b,A' b->As b∨((Nc.n b∨w.heap.size<=b)/\b<w1.heap.size))
  (hAm:∀ m b k l,h1 m = .live b->b.mut=true->env1 m = .blk k l->(∃ n,aY R n=some (some m))→¬ A' k) :
  aw w0 N0 A' (bw R env env1) (aM U hs) w1/\aW As env w A' (bw R env env1) w1:=by
 have src:∀ k,(Nc.n k∨w.heap.size<=k)->n4 (fun n=>n∈U.map (·.1)) env hs w k:=fun k hk=>by
  rcases hk with hk|hk
  ·obtain⟨n,b,l,e1,e2,e3,e4⟩:=hNc k hk
   exact .inr ⟨n,b,l,e1,e2,e3,e4⟩
  ·exact .inl hk
 have mem:∀ n,n∈U.map (·.1)->(n,aM U hs n)∈U:=fun n hn=>by
  have hl:∀(V:List (Nat×Nm)) ,n∈V.map (·.1)->(n,aM V hs n)∈V:=by
   intro V
   induction V with
   | nil=>intro h;simp at h
   | cons p V ih =>
    obtain⟨q,y⟩:=p
    intro h
    by_cases hq:n=q
    ·subst hq;simp[aM]
    ·rw[aM,aI.set_other _ _ hq]
     rcases List.mem_cons.1 h with e|h
     ·exact absurd e hq
     ·exact List.mem_cons_of_mem _ (ih h)
  exact hl U hn
 have envR:∀ n y,aY R n=some y->bw R env env1 n=bP R env1 n:=fun n y hn=>by
  unfold bw;rw[hn]
 have u:cN (fun n=>n∈U.map (·.1)) Nc.n As env hs w A' (bw R env env1) (aM U hs) w1:=by
  refine⟨⟨m1.os,m1.tape,m1.output,m1.size,m1.fr,hshape⟩,?_,hA,?_,?_,?_,fun n hn=>c7 hn,?_,?_,?_⟩
  ·intro k hk
   obtain⟨n,b,l,e1,e2,e3,e4⟩:=hNc k hk
   exact⟨n,b,l,e1,e2,e3,e4⟩
  ·intro b hb
   rcases hA1 b hb with h|⟨h,h'⟩
   ·exact .inl h
   ·exact .inr ⟨src b h,h'⟩
  ·intro n hn
   unfold bw
   cases hl:aY R n with
   | none=>rfl
   | some y=>exact absurd (hdom n (by rw[hl];simp)) hn
  ·intro n hn
   unfold bw
   cases hl:aY R n with
   | none=>rfl
   | some y =>
    rcases hold n (by rw[hl];simp) with h|⟨b,_,_,h⟩
    ·exact absurd (by have:=ms.nm n;rw[h] at this;exact this) hn
    ·exact h
  ·intro n hn
   have hmem:=mem n hn
   rcases hU n _ hmem with e|⟨b,e,hmut,hh⟩
   ·rw[e];trivial
   ·rw[e]
    rcases hh with⟨m',b0,e1,e2,e3,e4,e5⟩|⟨e1,E,t,e2⟩
    ·have he:bw R env env1 n=env1 m':=by rw[envR n _ e1,fF e1]
     have hm':=m1.nm m'
     rw[e2] at hm'
     rcases hm' with⟨k,len,he',_,_⟩|⟨he',_⟩
     ·exact .inl ⟨k,len,he.trans he',e4 k len he',fun _=>hAm m' b0 k len e2 e3 he' ⟨n,e1⟩⟩
     ·obtain⟨E,t,e⟩:=e5 he'
      exact .inr ⟨he.trans he',E,t,.inl e⟩
    ·exact .inr ⟨by rw[envR n _ e1,ma e1],E,t,.inl e2⟩
  ·intro n b k l hn hl hm he
   have hmem:=mem n hn
   rw[hl] at hmem
   rcases hU n _ hmem with e|⟨b',e,hmut,hh⟩
   ·cases e
   ·rcases hh with⟨m',b0,e1,e2,e3,_⟩|⟨e1,_⟩
    ·rw[envR n _ e1,fF e1] at he
     exact src k (m1.own m' b0 k l e2 e3 he)
    ·rw[envR n _ e1,ma e1] at he;cases he
  ·intro n n' b c k l l' hn hn' hl hl' hm hm' he he'
   have hmem1:=mem n hn
   have hmem2:=mem n' hn'
   rw[hl] at hmem1
   rw[hl'] at hmem2
   rcases hU n _ hmem1 with e|⟨_,_,_,hh1⟩
   ·cases e
   rcases hU n' _ hmem2 with e|⟨_,_,_,hh2⟩
   ·cases e
   rcases hh1 with⟨m',b0,e1,e2,e3,_⟩|⟨e1,_⟩
   ·rw[envR n _ e1,fF e1] at he
    rcases hh2 with⟨m2,c0,f1,f2,f3,_⟩|⟨f1,_⟩
    ·rw[envR n' _ f1,fF f1] at he'
     have:=m1.inj m' m2 b0 c0 k l l' e2 f2 e3 f3 he he'
     subst this
     exact hinj n n' m' e1 f1
    ·rw[envR n' _ f1,ma f1] at he';cases he'
   ·rw[envR n _ e1,ma e1] at he;cases he
 exact⟨ms.upd u,ms.ext u⟩
end
end Go.SX

/- SX, part 21: a function's contract, off its symbolic run. -/
namespace Go.SX
set_option linter.unusedVariables false
def CT.plain:CT->Bool
 | .sl _=>false
 | .pair a b=>a.plain&&b.plain
 | _=>true
theorem qc{A A':Nat->Prop}{w w':World}:∀{t:CT}{cv:Nat->Option Value}{o:Nat}{d:t.D},t.plain=true->Rd A w t cv o d->Rd A' w' t cv o d
 | .int k,cv,o,d,_,h=>h
 | .bool,cv,o,d,_,h=>h
 | .str,cv,o,d,_,h=>h
 | .sl t,cv,o,d,hp,_=>by cases hp
 | .pair a b,cv,o,d,hp,h=>by
  simp only[CT.plain,Bool.and_eq_true] at hp
  exact⟨qc hp.1 h.1,qc hp.2 h.2⟩
theorem oB{A A':Nat->Prop}{w:World}{t:CT}{cv:Nat->Option Value}{o:Nat}{d:t.D}(L:t.plain=true∨∀ b,A b->A' b)(h:Rd A w t cv o d):Rd A' w t cv o d:=by
 rcases L with L|L
 ·exact qc L h
 ·exact bR L (fun _ _ _=>rfl) t _ _ _ _ (fun _ _=>rfl) h
inductive RK where
 | val (t:CT)
 | agg (o:OT)
 | own (E:TypeId) (t:CT)
 | box (E:TypeId) (o:OT)
 | fn (f:FuncId) (k:Nat)
 | alp
@[reducible] def RK.D:RK->Type
 | .val t=>t.D
 | .agg o=>o.X
 | .own _ t=>List t.D
 | .box _ o=>o.X
 | .fn _ _=>Unit
 | .alp=>Unit
@[reducible] def cr:List RK->Type
 | []=>Unit
 | p::r=>p.D×cr r
@[reducible] def bH:List PK->Type
 | []=>Unit
 | .val _::r=>bH r
 | .agg _::r=>bH r
 | .own _ _::r=>bH r
 | .ago _::r=>bH r
 | .fn _ _::r=>bH r
 | .nils::r=>bH r
 | .box _ o::r=>o.X×bH r
 | .row _ t::r=>List t.D×bH r
def OT.plain:OT->Bool
 | .dat t=>t.plain
 | .row _ t=>t.plain
 | .rowg _ _=>true
 | .fnc _=>true
 | .ali=>true
 | .hole _=>true
 | .ref _ o=>o.plain
 | .pair a b=>a.plain&&b.plain
def f9:List RK->Bool
 | []=>true
 | .val t::r=>t.plain&&f9 r
 | .agg o::r=>o.plain&&f9 r
 | .own _ t::r=>t.plain&&f9 r
 | .box _ o::r=>o.plain&&f9 r
 | .fn _ _::r=>f9 r
 | .alp::r=>f9 r
def dB:List PK->Bool
 | []=>true
 | .val _::r=>dB r
 | .agg _::r=>dB r
 | .own _ _::r=>dB r
 | .ago _::r=>dB r
 | .fn _ _::r=>dB r
 | .nils::r=>dB r
 | .box _ o::r=>o.plain&&dB r
 | .row _ t::r=>t.plain&&dB r
structure Ct where
 ps:List PK
 rs:List RK
 pre:aC ps->List Prop
 out:aC ps->cr rs×bH ps
def lz(E:TypeId)(t:CT)(h:aI):List SV->Option (List t.D×List SV×Option Nat)
 | .own m sz::r=>match h m with
  | .live (.row E' t' xs)=>match Nat.beq E E',Nat.beq sz t.size,bQ t' t xs with
   | true,true,some ys=>some (ys,r,some m)
   | _,_,_=>none
  | _=>none
 | .nilsl::r=>some ([],r,none)
 | _=>none
def cX(h:aI)(al:Bool):(o:OT)->Option Nat->List SV->Option (o.X×List SV×List (Nat×Nm)×List (Option Nat))
 | .dat t,_,cs=>match (cC t cs).run h with
  | some ((x,r,fz),_)=>some (x,r,fz,[])
  | none=>none
 | .row E t,_,cs=>match lz E t h cs with
  | some (ys,r,o)=>some (ys,r,[],[o])
  | none=>none
 | .rowg _ _,_,_::r=>some ((),r,[],[])
 | .rowg _ _,_,[]=>none
 | .fnc f,_,.fn g []::r=>match Nat.beq f g with
  | true=>some ((),r,[],[])
  | false=>none
 | .fnc _,_,_=>none
 | .ali,_,.ptr m 0::r=>match al,Nat.beq m PN with
  | true,true=>some ((),r,[],[])
  | _,_=>none
 | .ali,_,_=>none
 | .hole i,_,.hv j s::r=>match Nat.beq j (HN+i) with
  | true=>some (s,r,[],[])
  | false=>none
 | .hole _,_,_=>none
 | .ref E o,some j,.ptr m 0::r=>match Nat.beq m (PN+j),h m with
  | true,.live (.cells E' cs)=>match Nat.beq E E',cX h al o (some (j+1)) cs with
   | true,some (x,[],fz,ow)=>some (x,r,fz,ow)
   | _,_=>none
  | _,_=>none
 | .ref _ _,_,_=>none
 | .pair a b,j,cs=>match cX h al a j cs with
  | some (x,r,f,w)=>match cX h al b (j.map (· + a.nb)) r with
   | some (y,r',f',w')=>some ((x,y),r',f++f',w++w')
   | none=>none
  | none=>none
def cS(al:Bool):(rs:List RK)->List SV->aI->Option (cr rs×List (Nat×Nm)×List (Option Nat))
 | [],[],_=>some ((),[],[])
 | .val t::rs,v::vs,h=>match (cC t [v]).run h with
  | some ((x,[],fz),_)=>match cS al rs vs h with
   | some (y,f,o)=>some ((x,y),fz++f,o)
   | none=>none
  | _=>none
 | .agg t::rs,.agg cs::vs,h=>match cX h al t none cs with
  | some (x,[],fz,w)=>match cS al rs vs h with
   | some (y,f,o)=>some ((x,y),fz++f,w++o)
   | none=>none
  | _=>none
 | .own E t::rs,v::vs,h=>match lz E t h [v] with
  | some (x,_,w)=>match cS al rs vs h with
   | some (y,f,o)=>some ((x,y),f,w::o)
   | none=>none
  | none=>none
 | .box E t::rs,.ptr m 0::vs,h=>match h m with
  | .live (.cells E' cs)=>match Nat.beq E E',cX h al t none cs with
   | true,some (x,[],fz,w)=>match cS al rs vs h with
    | some (y,f,o)=>some ((x,y),fz++f,some m::(w++o))
    | none=>none
   | _,_=>none
  | _=>none
 | .fn f k::rs,.fn g cs::vs,h=>match Nat.beq f g,Nat.beq cs.length k with
  | true,true=>match cS al rs (cs++vs) h with
   | some (y,f',o)=>some (((),y),f',o)
   | none=>none
  | _,_=>none
 | .alp::rs,.ptr m 0::vs,h=>match al,Nat.beq m PN with
  | true,true=>match cS al rs vs h with
   | some (y,f',o)=>some (((),y),f',o)
   | none=>none
  | _,_=>none
 | _,_,_=>none
def dh:(ps:List PK)->Nat->aI->Option (bH ps×List (Nat×Nm)×List (Option Nat))
 | [],_,_=>some ((),[],[])
 | .val _::ps,j,h=>dh ps j h
 | .agg _::ps,j,h=>dh ps j h
 | .own _ _::ps,j,h=>dh ps j h
 | .ago _::ps,j,h=>dh ps j h
 | .fn _ _::ps,j,h=>dh ps j h
 | .nils::ps,j,h=>dh ps j h
 | .box E t::ps,j,h=>match h (PN+j) with
  | .live (.cells E' cs)=>match Nat.beq E E',cX h true t (some (j+1)) cs with
   | true,some (x,[],fz,w)=>match dh ps (j+1+t.nb) h with
    | some (y,f,o)=>some ((x,y),fz++f,w++o)
    | none=>none
   | _,_=>none
  | _=>none
 | .row E t::ps,j,h=>match h (PN+j) with
  | .live (.row E' t' xs)=>match Nat.beq E E',bQ t' t xs with
   | true,some ys=>match dh ps (j+1) h with
    | some (y,f,o)=>some ((ys,y),f,o)
    | none=>none
   | _,_=>none
  | _=>none
def iT(n:Nat):List (Option Nat)->Bool
 | []=>false
 | some m::r=>Nat.beq n m||iT n r
 | none::r=>iT n r
def j6(fz:List (Nat×Nm)):List (Option Nat)->Bool
 | []=>true
 | none::r=>j6 fz r
 | some m::r=>(Nat.blt m PN||Nat.ble QN m)&&jn m fz && !iT m r&&j6 fz r
def lN:List (Nat×Nm)->Bool
 | []=>true
 | (n,_)::r=>(Nat.blt n PN||Nat.ble QN n)&&lN r
def dp(b0:Nat):(o:OT)->o.X->List Nat->Nat->List SV
 | .dat t,x,_,_=>bu t x
 | .row _ t,_,_,n=>[.own n t.size]
 | .rowg _ _,_,_,_=>[.junk]
 | .fnc f,_,_,_=>[.fn f []]
 | .ali,_,_,_=>[.ptr b0 0]
 | .hole _,s,_,_=>[s]
 | .ref _ _,_,bx,_=>match bx with
  | q::_=>[.ptr q 0]
  | []=>[.junk]
 | .pair a b,x,bx,n=>dp b0 a x.1 bx n++dp b0 b x.2 (bx.drop a.nb) (n+a.nr)
def da(b0:Nat):(o:OT)->o.X->List Nat->Nat->List (Nat×Nm)
 | .dat _,_,_,_=>[]
 | .row _ _,_,_,_=>[]
 | .rowg _ _,_,_,_=>[]
 | .fnc _,_,_,_=>[]
 | .ali,_,_,_=>[]
 | .hole _,_,_,_=>[]
 | .ref E o,x,bx,n=>match bx with
  | q::r=>(q,.live (.cells E (dp b0 o x r n)))::da b0 o x r n
  | []=>[]
 | .pair a b,x,bx,n=>da b0 a x.1 bx n++da b0 b x.2 (bx.drop a.nb) (n+a.nr)
def f7:(o:OT)->o.X->Nat->List (Nat×Nm)
 | .dat _,_,_=>[]
 | .row E t,x,n=>[(n,.live (.row E t x))]
 | .rowg _ _,_,_=>[]
 | .fnc _,_,_=>[]
 | .ali,_,_=>[]
 | .hole _,_,_=>[]
 | .ref _ o,x,n=>f7 o x n
 | .pair a b,x,n=>f7 a x.1 n++f7 b x.2 (n+a.nr)
def cE(b0:Nat):(rs:List RK)->cr rs->Nat->List SV
 | [],_,_=>[]
 | .val t::rs,d,n=>kJ t d.1::cE b0 rs d.2 n
 | .agg o::rs,d,n => .agg (dp b0 o d.1 [] n)::cE b0 rs d.2 (n+o.nr)
 | .own E t::rs,d,n => .own n t.size::cE b0 rs d.2 (n+1)
 | .box E o::rs,d,n => .ptr n 0::cE b0 rs d.2 (n+1+o.nr)
 | .fn f k::rs,d,n => .fn f ((cE b0 rs d.2 n).take k)::(cE b0 rs d.2 n).drop k
 | .alp::rs,d,n => .ptr b0 0::cE b0 rs d.2 n
def c5(b0:Nat):(rs:List RK)->cr rs->Nat->List (Nat×Nm)
 | [],_,_=>[]
 | .val t::rs,d,n=>c5 b0 rs d.2 n
 | .agg o::rs,d,n=>f7 o d.1 n++c5 b0 rs d.2 (n+o.nr)
 | .own E t::rs,d,n=>(n,.live (.row E t d.1))::c5 b0 rs d.2 (n+1)
 | .box E o::rs,d,n=>(n,.live (.cells E (dp b0 o d.1 [] (n+1))))::(f7 o d.1 (n+1)++c5 b0 rs d.2 (n+1+o.nr))
 | .fn _ _::rs,d,n=>c5 b0 rs d.2 n
 | .alp::rs,d,n=>c5 b0 rs d.2 n
def bG:List RK->Nat
 | []=>0
 | .own _ _::r=>bG r+1
 | .box _ o::r=>bG r+o.nr+1
 | .val _::r=>bG r
 | .agg o::r=>bG r+o.nr
 | .fn _ _::r=>bG r
 | .alp::r=>bG r
def cy:List PK->Nat
 | []=>0
 | .val _::r=>cy r
 | .agg _::r=>cy r
 | .own _ _::r=>cy r
 | .ago _::r=>cy r
 | .fn _ _::r=>cy r
 | .nils::r=>cy r
 | .box _ o::r=>cy r+o.nr
 | .row _ _::r=>cy r
def bI(b0:Nat):(ps:List PK)->bH ps->List Nat->Nat->List (Nat×Nm)
 | .val _::ps,d,bx,nb=>bI b0 ps d bx nb
 | .agg _::ps,d,bx,nb=>bI b0 ps d bx nb
 | .own _ _::ps,d,bx,nb=>bI b0 ps d bx nb
 | .ago _::ps,d,bx,nb=>bI b0 ps d bx nb
 | .fn _ _::ps,d,bx,nb=>bI b0 ps d bx nb
 | .nils::ps,d,bx,nb=>bI b0 ps d bx nb
 | .box E o::ps,d,n::bx,nb=>(n,.live (.cells E (dp b0 o d.1 bx nb)))::(da b0 o d.1 bx nb++bI b0 ps d.2 (bx.drop o.nb) (nb+o.nr))
 | .row E t::ps,d,n::bx,nb=>(n,.live (.row E t d.1))::bI b0 ps d.2 bx nb
 | _,_,_,_=>[]
def bW:(ps:List PK)->bH ps->Nat->List (Nat×Nm)
 | [],_,_=>[]
 | .val _::ps,d,nb=>bW ps d nb
 | .agg _::ps,d,nb=>bW ps d nb
 | .own _ _::ps,d,nb=>bW ps d nb
 | .ago _::ps,d,nb=>bW ps d nb
 | .fn _ _::ps,d,nb=>bW ps d nb
 | .nils::ps,d,nb=>bW ps d nb
 | .box E o::ps,d,nb=>f7 o d.1 nb++bW ps d.2 (nb+o.nr)
 | .row E t::ps,d,nb=>bW ps d.2 nb
def eV:List (Option Nat)->List (Nat×Nm)
 | []=>[]
 | none::r=>eV r
 | some n::r=>(n,.dead)::eV r
def fT:List SV->SV
 | [v]=>v
 | l => .tup l
def md(fz:List (Nat×Nm)):List Nat->Bool
 | []=>true
 | n::r=>jn n fz&&md fz r
def fM:Nat->Nat->Dl->Q Dl
 | _,0,d => .ret d
 | n,k+1,d => .ask n fun
  | .un=>fM (n+1) k d
  | _ => .fail
def jQ(ps:List PK)(rs:List RK):Bool := !(f9 rs&&dB ps)
def gI(ps:List PK)(rs:List RK)(y:cr rs×bH ps)(base:Nat)(fz:List (Nat×Nm))(bx:List Nat)(cx:List (Option Nat)):List (Nat×Nm) :=
 (bI (bx.headD 0) ps y.2 bx (base+bG rs)++(c5 (bx.headD 0) rs y.1 base++(bW ps y.2 (base+bG rs)++eV cx)))++(match jQ ps rs with|true=>fz|false=>[])
def gP:List RK->List Nat
 | []=>[]
 | .agg o::r=>o.hx++gP r
 | .box _ o::r=>o.hx++gP r
 | .val _::r=>gP r
 | .own _ _::r=>gP r
 | .fn _ _::r=>gP r
 | .alp::r=>gP r
def mK(m:Nat):List Nat->Bool
 | []=>true
 | i::r=>Nat.blt i m&&mK m r
def kV(ps:List PK)(rs:List RK):Bool:=match gP rs with
 | []=>kG (cY ps)&&mK 524288 (cY ps)
 | _=>false
def kS(ps:List PK)(rs:List RK)(fz:List (Nat×Nm))(bx:List Nat)(cx:List (Option Nat)):Bool:=kG (bx++cj cx)&&md fz (bx++cj cx)&&Nat.ble bx.length 524288&&kV ps rs
def Ct.spec(c:Ct):Spec:=fun base svs=>(bN none c.ps svs).bind fun p=>match kS c.ps c.rs p.2.1 p.2.2.1 p.2.2.2 with
 | true=>fM base (bG c.rs+cy c.ps) (.det (c.pre p.1) (fT (cE (p.2.2.1.headD 0) c.rs (c.out p.1).1 base)) (gI c.ps c.rs (c.out p.1) base p.2.1 p.2.2.1 p.2.2.2))
 | false => .fail
structure Cn where
 ps:List PK
 rs:List RK
 pre:aC ps->List Prop
 post:aC ps->cr rs×bH ps->Prop
 inh:∀ d,aB (pre d)→∃ y,post d y
def ke{X:Type}(b0:Nat):(o:OT)->(X->o.X)->List Nat->Nat->List (Nat×(X->Nm))
 | .dat _,_,_,_=>[]
 | .row _ _,_,_,_=>[]
 | .rowg _ _,_,_,_=>[]
 | .fnc _,_,_,_=>[]
 | .ali,_,_,_=>[]
 | .hole _,_,_,_=>[]
 | .ref E o,x,bx,n=>match bx with
  | q::r=>(q,fun y=>.live (.cells E (dp b0 o (x y) r n)))::ke b0 o x r n
  | []=>[]
 | .pair a b,x,bx,n=>ke b0 a (fun y=>(x y).1) bx n++ke b0 b (fun y=>(x y).2) (bx.drop a.nb) (n+a.nr)
def iJ{X:Type}:(o:OT)->(X->o.X)->Nat->List (Nat×(X->Nm))
 | .dat _,_,_=>[]
 | .row E t,x,n=>[(n,fun y=>.live (.row E t (x y)))]
 | .rowg _ _,_,_=>[]
 | .fnc _,_,_=>[]
 | .ali,_,_=>[]
 | .hole _,_,_=>[]
 | .ref _ o,x,n=>iJ o x n
 | .pair a b,x,n=>iJ a (fun y=>(x y).1) n++iJ b (fun y=>(x y).2) (n+a.nr)
def dF{X:Type}(b0:Nat):(ps:List PK)->(X->bH ps)->List Nat->Nat->List (Nat×(X->Nm))
 | .val _::ps,d,bx,nb=>dF b0 ps d bx nb
 | .agg _::ps,d,bx,nb=>dF b0 ps d bx nb
 | .own _ _::ps,d,bx,nb=>dF b0 ps d bx nb
 | .ago _::ps,d,bx,nb=>dF b0 ps d bx nb
 | .fn _ _::ps,d,bx,nb=>dF b0 ps d bx nb
 | .nils::ps,d,bx,nb=>dF b0 ps d bx nb
 | .box E o::ps,d,n::bx,nb=>(n,fun x=>.live (.cells E (dp b0 o (d x).1 bx nb)))::(ke b0 o (fun x=>(d x).1) bx nb++dF b0 ps (fun x=>(d x).2) (bx.drop o.nb) (nb+o.nr))
 | .row E t::ps,d,n::bx,nb=>(n,fun x=>.live (.row E t (d x).1))::dF b0 ps (fun x=>(d x).2) bx nb
 | _,_,_,_=>[]
def dI{X:Type}:(ps:List PK)->(X->bH ps)->Nat->List (Nat×(X->Nm))
 | [],_,_=>[]
 | .val _::ps,d,nb=>dI ps d nb
 | .agg _::ps,d,nb=>dI ps d nb
 | .own _ _::ps,d,nb=>dI ps d nb
 | .ago _::ps,d,nb=>dI ps d nb
 | .fn _ _::ps,d,nb=>dI ps d nb
 | .nils::ps,d,nb=>dI ps d nb
 | .box E o::ps,d,nb=>iJ o (fun x=>(d x).1) nb++dI ps (fun x=>(d x).2) (nb+o.nr)
 | .row E t::ps,d,nb=>dI ps (fun x=>(d x).2) nb
def fu{X:Type}(b0:Nat):(rs:List RK)->(X->cr rs)->Nat->List (Nat×(X->Nm))
 | [],_,_=>[]
 | .val t::rs,d,n=>fu b0 rs (fun x=>(d x).2) n
 | .agg o::rs,d,n=>iJ o (fun x=>(d x).1) n++fu b0 rs (fun x=>(d x).2) (n+o.nr)
 | .own E t::rs,d,n=>(n,fun x=>.live (.row E t (d x).1))::fu b0 rs (fun x=>(d x).2) (n+1)
 | .box E o::rs,d,n=>(n,fun x=>.live (.cells E (dp b0 o (d x).1 [] (n+1))))::(iJ o (fun x=>(d x).1) (n+1)++fu b0 rs (fun x=>(d x).2) (n+1+o.nr))
 | .fn _ _::rs,d,n=>fu b0 rs (fun x=>(d x).2) n
 | .alp::rs,d,n=>fu b0 rs (fun x=>(d x).2) n
def mh{X:Type}:List (Nat×Nm)->List (Nat×(X->Nm))
 | []=>[]
 | (n,b)::r=>(n,fun _=>b)::mh r
def lj(ps:List PK)(rs:List RK)(base:Nat)(fz:List (Nat×Nm))(bx:List Nat)(cx:List (Option Nat)):List (Nat×(cr rs×bH ps->Nm)) :=
 (dF (bx.headD 0) ps (fun y:cr rs×bH ps=>y.2) bx (base+bG rs)++(fu (bx.headD 0) rs (fun y:cr rs×bH ps=>y.1) base++(dI ps (fun y:cr rs×bH ps=>y.2) (base+bG rs)++mh (eV cx))))++(match jQ ps rs with|true=>mh fz|false=>[])
theorem n9{X:Type}{b0:Nat}(y:X):∀(o:OT)(x:X->o.X)(bx:List Nat)(n:Nat),(ke b0 o x bx n).map (fun p=>(p.1,p.2 y))=da b0 o (x y) bx n
 | .dat _,_,_,_=>rfl
 | .row _ _,_,_,_=>rfl
 | .rowg _ _,_,_,_=>rfl
 | .fnc _,_,_,_=>rfl
 | .ali,_,_,_=>rfl
 | .hole _,_,_,_=>rfl
 | .ref E o,x,[],n=>rfl
 | .ref E o,x,q::r,n=>by simp only[ke,da,List.map_cons,n9 y o]
 | .pair a b,x,bx,n=>by simp only[ke,da,List.map_append,n9 y a,n9 y b]
theorem ky{X:Type}(y:X):∀(o:OT)(x:X->o.X)(n:Nat),(iJ o x n).map (fun p=>(p.1,p.2 y))=f7 o (x y) n
 | .dat _,_,_=>rfl
 | .row _ _,_,_=>rfl
 | .rowg _ _,_,_=>rfl
 | .fnc _,_,_=>rfl
 | .ali,_,_=>rfl
 | .hole _,_,_=>rfl
 | .ref E o,x,n=>by simp only[iJ,f7,ky y o]
 | .pair a b,x,n=>by simp only[iJ,f7,List.map_append,ky y a,ky y b]
theorem iF{X:Type}{b0:Nat}(x:X):∀(ps:List PK)(d:X->bH ps)(bx:List Nat)(nb:Nat),(dF b0 ps d bx nb).map (fun p=>(p.1,p.2 x))=bI b0 ps (d x) bx nb
 | [],_,_,_=>rfl
 | .val _::ps,d,bx,nb=>by simp only[dF,bI];exact iF x ps d bx nb
 | .agg _::ps,d,bx,nb=>by simp only[dF,bI];exact iF x ps d bx nb
 | .own _ _::ps,d,bx,nb=>by simp only[dF,bI];exact iF x ps d bx nb
 | .ago _::ps,d,bx,nb=>by simp only[dF,bI];exact iF x ps d bx nb
 | .fn _ _::ps,d,bx,nb=>by simp only[dF,bI];exact iF x ps d bx nb
 | .nils::ps,d,bx,nb=>by simp only[dF,bI];exact iF x ps d bx nb
 | .box E t::ps,d,[],_=>rfl
 | .row E t::ps,d,[],_=>rfl
 | .box E t::ps,d,n::bx,nb=>by simp only[dF,bI,List.map_cons,List.map_append,n9 x t,iF x ps]
 | .row E t::ps,d,n::bx,nb=>by simp only[dF,bI,List.map_cons,iF x ps]
theorem iD{X:Type}(x:X):∀(ps:List PK)(d:X->bH ps)(nb:Nat),(dI ps d nb).map (fun p=>(p.1,p.2 x))=bW ps (d x) nb
 | [],_,_=>rfl
 | .val _::ps,d,nb=>by simp only[dI,bW];exact iD x ps d nb
 | .agg _::ps,d,nb=>by simp only[dI,bW];exact iD x ps d nb
 | .own _ _::ps,d,nb=>by simp only[dI,bW];exact iD x ps d nb
 | .ago _::ps,d,nb=>by simp only[dI,bW];exact iD x ps d nb
 | .fn _ _::ps,d,nb=>by simp only[dI,bW];exact iD x ps d nb
 | .nils::ps,d,nb=>by simp only[dI,bW];exact iD x ps d nb
 | .box E t::ps,d,nb=>by simp only[dI,bW,List.map_append,ky x t,iD x ps]
 | .row E t::ps,d,nb=>by simp only[dI,bW];exact iD x ps _ nb
theorem jH{X:Type}{b0:Nat}(x:X):∀(rs:List RK)(d:X->cr rs)(n:Nat),(fu b0 rs d n).map (fun p=>(p.1,p.2 x))=c5 b0 rs (d x) n
 | [],_,_=>rfl
 | .val t::rs,d,n=>by simp only[fu,c5];exact jH x rs _ n
 | .agg t::rs,d,n=>by simp only[fu,c5,List.map_append,ky x t,jH x rs]
 | .own E t::rs,d,n=>by simp only[fu,c5,List.map_cons,jH x rs]
 | .box E t::rs,d,n=>by simp only[fu,c5,List.map_cons,List.map_append,ky x t,jH x rs]
 | .fn _ _::rs,d,n=>by simp only[fu,c5];exact jH x rs _ n
 | .alp::rs,d,n=>by simp only[fu,c5];exact jH x rs _ n
theorem qL{X:Type}(x:X):∀(l:List (Nat×Nm)),(mh (X:=X) l).map (fun p=>(p.1,p.2 x))=l
 | []=>rfl
 | (n,b)::r=>by simp only[mh,List.map_cons,qL x r]
theorem ue{ps:List PK}{rs:List RK}{base:Nat}{fz:List (Nat×Nm)}{bx:List Nat}{cx:List (Option Nat)}(y:cr rs×bH ps):(lj ps rs base fz bx cx).map (fun p=>(p.1,p.2 y))=gI ps rs y base fz bx cx:=by
 unfold lj gI
 simp only[List.map_append,iF,jH,iD,qL]
 cases jQ ps rs with
 | true=>simp only[qL]
 | false=>rfl
def kd:(o:OT)->(o.X->Prop)->Prop
 | .dat t,k=>jJ t k
 | .row _ t,k=>∀ x:List t.D,k x
 | .rowg _ _,k=>k ()
 | .fnc _,k=>k ()
 | .ali,k=>k ()
 | .hole _,k=>∀ s:SV,k s
 | .ref _ o,k=>kd o k
 | .pair a b,k=>kd a fun x=>kd b fun y=>k (x,y)
theorem kT:∀{o:OT}{k:o.X->Prop},kd o k→∀ d,k d
 | .dat t,k,h,d=>nB.1 h d
 | .row _ t,k,h,d=>h d
 | .rowg _ _,k,h,d=>h
 | .fnc _,k,h,d=>h
 | .ali,k,h,d=>h
 | .hole _,k,h,d=>h d
 | .ref _ o,k,h,d=>kT (o:=o) h d
 | .pair a b,k,h,d=>kT (o:=b) (kT (o:=a) h d.1) d.2
def jh:(rs:List RK)->(cr rs->Prop)->Prop
 | [],k=>k ()
 | .val t::r,k=>jJ t fun x=>jh r fun y=>k (x,y)
 | .agg o::r,k=>kd o fun x=>jh r fun y=>k (x,y)
 | .own _ t::r,k=>∀ x:List t.D,jh r fun y=>k (x,y)
 | .box _ o::r,k=>kd o fun x=>jh r fun y=>k (x,y)
 | .fn _ _::r,k=>jh r fun y=>k ((),y)
 | .alp::r,k=>jh r fun y=>k ((),y)
theorem j9:∀{rs:List RK}{k:cr rs->Prop},jh rs k→∀ d,k d
 | [],k,h,d=>h
 | .val t::r,k,h,d=>j9 (rs:=r) (nB.1 h d.1) d.2
 | .agg o::r,k,h,d=>j9 (rs:=r) (kT (o:=o) h d.1) d.2
 | .own _ t::r,k,h,d=>j9 (rs:=r) (h d.1) d.2
 | .box _ o::r,k,h,d=>j9 (rs:=r) (kT (o:=o) h d.1) d.2
 | .fn _ _::r,k,h,d=>j9 (rs:=r) h d.2
 | .alp::r,k,h,d=>j9 (rs:=r) h d.2
def gz:(ps:List PK)->(bH ps->Prop)->Prop
 | [],k=>k ()
 | .val _::r,k=>gz r k
 | .agg _::r,k=>gz r k
 | .own _ _::r,k=>gz r k
 | .ago _::r,k=>gz r k
 | .fn _ _::r,k=>gz r k
 | .nils::r,k=>gz r k
 | .box _ o::r,k=>kd o fun x=>gz r fun y=>k (x,y)
 | .row _ t::r,k=>∀ x:List t.D,gz r fun y=>k (x,y)
theorem iI:∀{ps:List PK}{k:bH ps->Prop},gz ps k→∀ d,k d
 | [],k,h,d=>h
 | .val _::r,k,h,d=>iI (ps:=r) h d
 | .agg _::r,k,h,d=>iI (ps:=r) h d
 | .own _ _::r,k,h,d=>iI (ps:=r) h d
 | .ago _::r,k,h,d=>iI (ps:=r) h d
 | .fn _ _::r,k,h,d=>iI (ps:=r) h d
 | .nils::r,k,h,d=>iI (ps:=r) h d
 | .box _ o::r,k,h,d=>iI (ps:=r) (kT (o:=o) h d.1) d.2
 | .row _ t::r,k,h,d=>iI (ps:=r) (h d.1) d.2
def sf(rs:List RK)(ps:List PK):Qn (cr rs×bH ps) :=
 ⟨fun k=>jh rs fun y=>gz ps fun z=>k (y,z),fun k h x=>iI (j9 h x.1) x.2,fun k=>∃ x,k x,fun _ h=>h⟩
def Cn.spec(c:Cn):Spec:=fun base svs=>(bN none c.ps svs).bind fun p=>match kS c.ps c.rs p.2.1 p.2.2.1 p.2.2.2 with
 | true=>fM base (bG c.rs+cy c.ps) (.nd (cr c.rs×bH c.ps) (sf c.rs c.ps) (c.pre p.1) (c.post p.1) (c.inh p.1) (fun y=>fT (cE (p.2.2.1.headD 0) c.rs y.1 base)) (lj c.ps c.rs base p.2.1 p.2.2.1 p.2.2.2))
 | false => .fail
section
variable {w0:World} {N0:bv} {A A' A1 A2:Nat->Prop} {env env1 env':ai} {h h1:aI} {w w1:World}
theorem jI{a b c:Bool}{p:Prop}(h:(a&&b)=true∨p):a=true∨p:=by
 rcases h with h|h
 ·exact .inl (by simp only[Bool.and_eq_true] at h;exact h.1)
 ·exact .inr h
theorem jN{a b:Bool}{p:Prop}(h:(a&&b)=true∨p):b=true∨p:=by
 rcases h with h|h
 ·exact .inl (by simp only[Bool.and_eq_true] at h;exact h.2)
 ·exact .inr h
theorem yI{al:Bool}{t:OT}{rs:List RK}{svs:List SV} {x} (e:cS al (.agg t::rs) svs h1=some x):∃ cs r,svs = .agg cs::r:=by
 cases svs with
 | nil=>cases e
 | cons s r=>cases s <;> first|exact⟨_,_,rfl⟩|cases e
theorem A7{al:Bool}{E:TypeId}{t:CT}{rs:List RK}{svs:List SV} {x} (e:cS al (.own E t::rs) svs h1=some x):∃ v r,svs=v::r:=by
 cases svs with
 | nil=>cases e
 | cons s r=>exact⟨_,_,rfl⟩
theorem C7{al:Bool}{E:TypeId}{t:OT}{rs:List RK}{svs:List SV} {x} (e:cS al (.box E t::rs) svs h1=some x):∃ m r,svs = .ptr m 0::r:=by
 cases svs with
 | nil=>cases e
 | cons s r=>cases s <;> first|cases e;done|(rename_i m o;cases o <;> first|exact⟨_,_,rfl⟩|cases e)
theorem CJ{al:Bool}{f:FuncId}{k:Nat}{rs:List RK}{svs:List SV} {x} (e:cS al (.fn f k::rs) svs h1=some x):∃ g cs r,svs = .fn g cs::r:=by
 cases svs with
 | nil=>cases e
 | cons s r=>cases s <;> first|exact⟨_,_,_,rfl⟩|cases e
theorem yY{al:Bool}{rs:List RK}{svs:List SV} {x} (e:cS al (.alp::rs) svs h1=some x):∃ r y f o,svs = .ptr PN 0::r/\al=true/\cS al rs r h1=some (y,f,o)/\x=(((),y),f,o):=by
 cases svs with
 | nil=>cases e
 | cons s r =>
  cases s with
  | ptr m off=>cases off with
   | zero =>
    have e:(match (generalizing:=false) al,Nat.beq m PN with|true,true=>(match (generalizing:=false) cS al rs r h1 with|some (y,f',o)=>some (((),y),f',o)|none=>none:Option (cr (.alp::rs)×List (Nat×Nm)×List (Option Nat)))|_,_=>none)=some x:=e
    cases hb:Nat.beq m PN with
    | false=>rw[hb] at e;cases al <;> cases e
    | true =>
     rw[hb] at e
     cases al with
     | false=>cases e
     | true =>
      cases hr:cS true rs r h1 with
      | none=>rw[hr] at e;cases e
      | some q =>
       rw[hr] at e
       simp only[Option.some.injEq] at e
       exact⟨r,_,_,_,by rw[Nat.eq_of_beq_eq_true hb],rfl,hr,e.symm⟩
   | succ k=>cases e
  | _=>cases e
theorem wO{al:Bool}{E:TypeId}{t:OT}{j:Option Nat}{svs:List SV} {x} (e:cX h1 al (.ref E t) j svs=some x):∃ j0 m r,j=some j0/\svs = .ptr m 0::r:=by
 cases j with
 | none=>cases svs <;> cases e
 | some j0 =>
  cases svs with
  | nil=>cases e
  | cons s r=>cases s <;> first|cases e;done|(rename_i m o;cases o <;> first|exact⟨_,_,_,rfl,rfl⟩|cases e)
theorem B4{al:Bool}{f:FuncId}{j:Option Nat}{svs:List SV} {x} (e:cX h1 al (.fnc f) j svs=some x):∃ r,svs = .fn f []::r/\x=((),r,[],[]):=by
 cases svs with
 | nil=>cases e
 | cons s r =>
  cases s <;> first|cases e;done|skip
  rename_i g cs
  cases cs <;> first|cases e;done|skip
  simp only[cX] at e
  split at e
  ·rename_i hb
   rw[Nat.eq_of_beq_eq_true hb]
   simp only[Option.some.injEq] at e
   exact⟨_,rfl,e.symm⟩
  ·cases e
theorem AJ{al:Bool}{E:TypeId}{t:CT}{j:Option Nat}{svs:List SV} {x} (e:cX h1 al (.rowg E t) j svs=some x):∃ v r,svs=v::r:=by
 cases svs with
 | nil=>cases e
 | cons s r=>exact⟨_,_,rfl⟩
theorem wJ{Nc:bv}(m1:aw w Nc A1 env1 h1 w1)(hA:∀ b,A1 b->A2 b){E:TypeId}{t:CT}(L:t.plain=true∨∀ b,A2 b->A' b){cs rest:List SV}{vs:List Value}{ys:List t.D}{on:Option Nat}
  (e:lz E t h1 cs=some (ys,rest,on)) (hd:ac A1 env1 w1 cs vs) :
  ∃ v vr,vs=v::vr/\rest=cs.drop 1/\ac A1 env1 w1 rest vr∧∀(e':ai)(i:Nat),e' i=dS env1 on->aa A' e' w1 (.own i t.size) v/\cl A' env1 h1 e' w1 [on] [(i,.live (.row E t ys))] i:=by
 cases cs with
 | nil=>cases e
 | cons s cs =>
 cases s with
 | own n sz =>
  simp only[lz] at e
  split at e
  ·rename_i E' t' xs hl
   split at e
   ·rename_i zs hE hsz hc
    have hE:=Nat.eq_of_beq_eq_true hE
    subst hE
    have hsz:=Nat.eq_of_beq_eq_true hsz
    subst hsz
    obtain⟨et,ez⟩:=cD hc
    subst et
    simp only at ez
    subst ez
    simp only[Option.some.injEq,Prod.mk.injEq] at e
    obtain⟨rfl,rfl,rfl⟩:=e
    simp only[ac,aa] at hd
    obtain⟨x,vr,rfl,hv,hr⟩:=hd
    have hm:=m1.nm n
    rw[hl] at hm
    refine⟨x,vr,rfl,rfl,hr,fun e' i he=>⟨?_,⟨rfl,_,rfl,rfl,.inl ⟨n,_,rfl,hl,rfl,fun k len he=>?_,fun he=>?_⟩⟩,trivial⟩⟩
    ·simp only[dS] at he
     simp only[aa]
     rw[he];exact hv
    ·rcases hm with⟨k',len',he',hb,_⟩|⟨he',_⟩
     ·rw[he] at he';cases he'
      obtain⟨us,cap,g1,g2,g3,g4,g5,g6⟩:=hb
      exact⟨us,cap,g1,g2,g3,g4,g5,fun i hi=>oB L (bR hA (fun _ _ _=>rfl) _ _ _ _ _ (fun _ _=>rfl) (g6 i hi))⟩
     ·rw[he] at he';cases he'
    ·rcases hm with⟨k',len',he',hb,_⟩|⟨he',E2,t2,hb⟩
     ·rw[he] at he';cases he'
     ·rcases hb with hb|hb <;> cases hb
      exact⟨_,_,rfl⟩
   ·cases e
  ·cases e
 | nilsl =>
  simp only[lz,Option.some.injEq,Prod.mk.injEq] at e
  obtain⟨rfl,rfl,rfl⟩:=e
  simp only[ac,aa] at hd
  obtain⟨x,vr,rfl,rfl,hr⟩:=hd
  refine⟨_,vr,rfl,rfl,hr,fun e' i he=>⟨?_,⟨rfl,_,rfl,rfl,.inr ⟨rfl,_,_,rfl⟩⟩,trivial⟩⟩
  simp only[aa]
  exact .inl ⟨he,_,rfl⟩
 | _=>cases e
def fH(A':Nat->Prop)(env1:ai)(h1:aI)(env':ai)(w1:World)(bx:List Nat)(j:Nat)(n:Nat)(x:Nm):Prop :=
 ∃ i b b0,bx[i]? = some n/\x = .live b/\b.mut=true/\h1 (PN+(j+i)) = .live b0/\b0.mut=true/\(∀ k len,env1 (PN+(j+i)) = .blk k len->cL A' env' w1 k len b)/\(env1 (PN+(j+i)) = .nil→∃ E t,b = .row E t [])
theorem fH.shift{pre bx:List Nat}{j n:Nat}{x:Nm}(h:fH A' env1 h1 env' w1 bx (j+pre.length) n x):fH A' env1 h1 env' w1 (pre++bx) j n x:=by
 obtain⟨i,b,b0,g1,g2,g3,g4,g5,g6,g7⟩:=h
 rw[show j+pre.length+i=j+(pre.length+i) from by omega] at g4 g6 g7
 exact⟨pre.length+i,b,b0,by rw[List.getElem?_append_right (by omega),Nat.add_sub_cancel_left];exact g1,g2,g3,g4,g5,g6,g7⟩
theorem fH.grow{bx post:List Nat}{j n:Nat}{x:Nm}(h:fH A' env1 h1 env' w1 bx j n x):fH A' env1 h1 env' w1 (bx++post) j n x:=by
 obtain⟨i,b,b0,g1,g2⟩:=h
 exact⟨i,b,b0,by rw[List.getElem?_append_left (List.getElem?_eq_some_iff.1 g1).1];exact g1,g2⟩
theorem px{al:Bool}:∀(o:OT)(cs:List SV) {x},cX h1 al o none cs=some x->o.nb=0
 | .dat t,_,_,_=>rfl
 | .row _ t,_,_,_=>rfl
 | .rowg _ t,_,_,_=>rfl
 | .fnc _,_,_,_=>rfl
 | .ali,_,_,_=>rfl
 | .hole _,_,_,_=>rfl
 | .ref _ o,cs,x,e=>by obtain⟨j0,m,r,hj,-⟩:=wO e;cases hj
 | .pair a b,cs,x,e=>by
  simp only[cX] at e
  split at e
  ·rename_i h1'
   split at e
   ·rename_i h2'
    have k1:=px a _ h1'
    have k2:=px b _ h2'
    simp only[OT.nb];omega
   ·cases e
  ·cases e
theorem A8{al:Bool}{j:Option Nat}{svs:List SV} {x} (e:cX h1 al .ali j svs=some x):∃ r,svs = .ptr PN 0::r/\al=true/\x=((),r,[],[]):=by
 cases svs with
 | nil=>cases e
 | cons s r =>
  cases s with
  | ptr m off=>cases off with
   | zero =>
    have e:(match (generalizing:=false) al,Nat.beq m PN with|true,true=>(some ((),r,[],[]):Option (Unit×List SV×List (Nat×Nm)×List (Option Nat)))|_,_=>none)=some x:=by
     cases j <;> exact e
    cases hb:Nat.beq m PN with
    | false=>rw[hb] at e;cases al <;> cases e
    | true =>
     rw[hb] at e
     cases al with
     | false=>cases e
     | true =>
      simp only[Option.some.injEq] at e
      exact⟨r,by rw[Nat.eq_of_beq_eq_true hb],rfl,e.symm⟩
   | succ k=>cases e
  | _=>cases e
theorem xU{al:Bool}{i:Nat}{j:Option Nat}{svs:List SV}{x:SV}{rest:List SV}{fz:List (Nat×Nm)}{ow:List (Option Nat)}(e:cX h1 al (.hole i) j svs=some (x,rest,fz,ow)):∃ r,svs = .hv (HN+i) x::r/\rest=r/\fz=[]/\ow=[]:=by
 cases svs with
 | nil=>cases e
 | cons s r =>
  cases s <;> first|cases e;done|skip
  rename_i m s
  simp only[cX] at e
  split at e
  ·rename_i hb
   simp only[Option.some.injEq,Prod.mk.injEq] at e
   obtain⟨rfl,rfl,rfl,rfl⟩:=e
   exact⟨r,by rw[Nat.eq_of_beq_eq_true hb],rfl,rfl,rfl⟩
  ·cases e
theorem jD{al:Bool}{Nc:bv}(m1:aw w Nc A1 env1 h1 w1)(hA:∀ b,A1 b->A2 b)(b0:Nat):∀(o:OT)(j:Option Nat)(cs:List SV)(vs:List Value)(x:o.X)(rest:List SV)(fz:List (Nat×Nm))(ow:List (Option Nat))(bx more:List Nat)(n:Nat),
  cX h1 al o j cs=some (x,rest,fz,ow)->ac A1 env1 w1 cs vs->(∀ k,bM env1 fz k->A2 k)->(o.plain=true∨∀ b,A2 b->A' b)->(j=none∨bx.length=o.nb) →
  dW h1 fz/\ow.length=o.nr∧∃ us rs,vs=us++rs/\ac A1 env1 w1 rest rs ∧
   ((∀ i∈o.hx,∀ v s,env1 (HN+i) = .val v s->aa A' env' w1 s v)->(al=true->env' b0=env1 PN)->(∀ k q,ow[k]? = some q->env' (n+k)=dS env1 q)->(∀ j0 k q,j=some j0->bx[k]? = some q->env' q=env1 (PN+(j0+k))) →
     ac A' env' w1 (dp b0 o x (bx++more) n) us/\cl A' env1 h1 env' w1 ow (f7 o x n) n/\(∀ q y,(q,y)∈da b0 o x (bx++more) n→∃ j0,j=some j0/\fH A' env1 h1 env' w1 bx j0 q y) ∧
     (j≠none→∀ q,q∈bx->q∈(da b0 o x (bx++more) n).map (·.1)))
 | .dat t,j,cs,vs,x,rest,fz,ow,bx,more,n,e,hd,hF,L,hbl=>by
  simp only[cX] at e
  split at e
  ·rename_i x1 r1 f1 q1 hp
   simp only[Option.some.injEq,Prod.mk.injEq] at e
   obtain⟨rfl,rfl,rfl,rfl⟩:=e
   obtain⟨p1,p2,p3,p4,p5⟩:=f5 m1 t cs vs x1 r1 f1 _ hp hd hA hF
   refine⟨p1,rfl,vs.take t.size,vs.drop t.size,(List.take_append_drop _ _).symm,p5,fun _ _ _ _=>⟨?_,trivial,fun q y hh=>by simp[da] at hh,fun hj q hq=>?_⟩⟩
   ·simp only[dp]
    refine nw (by rw[List.length_take];omega) (oB L ?_)
    refine bR (fun _ h=>h) (fun _ _ _=>rfl) t _ _ _ _ (fun k hk=>?_) p4
    simp only[Nat.zero_add,List.getElem?_take]
    rw[if_pos hk]
   ·rcases hbl with hbl|hbl
    ·exact absurd hbl hj
    ·rw[List.length_eq_zero_iff.1 hbl] at hq;cases hq
  ·cases e
 | .row E t,j,cs,vs,x,rest,fz,ow,bx,more,n,e,hd,hF,L,hbl=>by
  simp only[cX] at e
  split at e
  ·rename_i x1 r1 o1 hp
   simp only[Option.some.injEq,Prod.mk.injEq] at e
   obtain⟨rfl,rfl,rfl,rfl⟩:=e
   obtain⟨v,vr,rfl,-,p2,p3⟩:=wJ (A':=A') m1 hA L hp hd
   refine⟨fun n b hh=>by simp at hh,rfl,[v],vr,rfl,p2,fun _ _ ho _=>?_⟩
   obtain⟨k1,k2⟩:=p3 env' n (ho 0 _ rfl)
   refine⟨?_,k2,fun q y hh=>by simp[da] at hh,fun hj q hq=>?_⟩
   ·simp only[dp,ac];exact⟨v,[],rfl,k1,rfl⟩
   ·rcases hbl with hbl|hbl
    ·exact absurd hbl hj
    ·rw[List.length_eq_zero_iff.1 hbl] at hq;cases hq
  ·cases e
 | .rowg E t,j,cs0,vs,x,rest,fz,ow,bx,more,n,e,hd,hF,L,hbl=>by
  obtain⟨v,cs,rfl⟩:=AJ e
  simp only[cX,Option.some.injEq,Prod.mk.injEq] at e
  obtain⟨-,rfl,rfl,rfl⟩:=e
  simp only[ac] at hd
  obtain⟨u,vr,rfl,hu,hvr⟩:=hd
  refine⟨fun n b hh=>by simp at hh,rfl,[u],vr,rfl,hvr,fun _ _ ho _=>⟨?_,trivial,fun q y hh=>by simp[da] at hh,fun hj q hq=>?_⟩⟩
  ·simp only[dp,ac,aa];exact⟨u,[],rfl,trivial,rfl⟩
  ·rcases hbl with hbl|hbl
   ·exact absurd hbl hj
   ·rw[List.length_eq_zero_iff.1 hbl] at hq;cases hq
 | .fnc f,j,cs0,vs,x,rest,fz,ow,bx,more,n,e,hd,hF,L,hbl=>by
  obtain⟨cs,rfl,e2⟩:=B4 e
  simp only[Prod.mk.injEq] at e2
  obtain⟨-,rfl,rfl,rfl⟩:=e2
  simp only[ac] at hd
  obtain⟨u,vr,rfl,hu,hvr⟩:=hd
  refine⟨fun n b hh=>by simp at hh,rfl,[u],vr,rfl,hvr,fun _ _ ho _=>⟨?_,trivial,fun q y hh=>by simp[da] at hh,fun hj q hq=>?_⟩⟩
  ·simp only[dp,ac]
   simp only[aa,ac] at hu
   refine⟨u,[],rfl,?_,rfl⟩
   simp only[aa,ac]
   exact hu
  ·rcases hbl with hbl|hbl
   ·exact absurd hbl hj
   ·rw[List.length_eq_zero_iff.1 hbl] at hq;cases hq
 | .ali,j,cs0,vs,x,rest,fz,ow,bx,more,n,e,hd,hF,L,hbl=>by
  obtain⟨cs,rfl,hj0,e2⟩:=A8 e
  simp only[Prod.mk.injEq] at e2
  obtain⟨-,rfl,rfl,rfl⟩:=e2
  simp only[ac,aa] at hd
  obtain⟨u,vr,rfl,⟨k,len,hek,rfl⟩,hvr⟩:=hd
  refine⟨fun n b hh=>by simp at hh,rfl,[_],vr,rfl,hvr,fun _ hb0 ho _=>⟨?_,trivial,fun q y hh=>by simp[da] at hh,fun hj q hq=>?_⟩⟩
  ·simp only[dp,ac,aa]
   exact⟨_,[],rfl,⟨k,len,by rw[hb0 hj0];exact hek,rfl⟩,rfl⟩
  ·rcases hbl with hbl|hbl
   ·exact absurd hbl hj
   ·rw[List.length_eq_zero_iff.1 hbl] at hq;cases hq
 | .hole i0,j,cs0,vs,x,rest,fz,ow,bx,more,n,e,hd,hF,L,hbl=>by
  obtain⟨cs,rfl,rfl,rfl,rfl⟩:=xU e
  simp only[ac,aa] at hd
  obtain⟨u,vr,rfl,⟨hu,_⟩,hvr⟩:=hd
  refine⟨fun n b hh=>by simp at hh,rfl,[u],vr,rfl,hvr,fun hH _ ho _=>⟨?_,trivial,fun q y hh=>by simp[da] at hh,fun hj q hq=>?_⟩⟩
  ·simp only[dp,ac]
   exact⟨u,[],rfl,hH i0 (List.mem_singleton.2 rfl) _ _ hu,rfl⟩
  ·rcases hbl with hbl|hbl
   ·exact absurd hbl hj
   ·rw[List.length_eq_zero_iff.1 hbl] at hq;cases hq
 | .ref E o,j,cs0,vs,x,rest,fz,ow,bx,more,n,e,hd,hF,L,hbl=>by
  obtain⟨j0,m,cs,rfl,rfl⟩:=wO e
  simp only[cX] at e
  split at e
  ·rename_i E' cs' hm hl
   have hm:=Nat.eq_of_beq_eq_true hm
   subst hm
   split at e
   ·rename_i x1 f1 w1' hE hp
    have hE:=Nat.eq_of_beq_eq_true hE
    subst hE
    simp only[Option.some.injEq,Prod.mk.injEq] at e
    obtain⟨rfl,rfl,rfl,rfl⟩:=e
    simp only[ac,aa] at hd
    obtain⟨u,vr,rfl,⟨kb,lb,hkb,rfl⟩,hvr⟩:=hd
    obtain⟨⟨us,hus,hdu⟩,_⟩:=m1.live_blk hl hkb
    cases bx with
    | nil=>rcases hbl with hbl|hbl <;> cases hbl
    | cons q0 bx =>
    have hbl':bx.length=o.nb:=by
     rcases hbl with hbl|hbl
     ·cases hbl
     ·simpa[OT.nb] using hbl
    obtain⟨s1,s2,us',rs',s5,s6,s7⟩:=jD m1 hA b0 o (some (j0+1)) cs' us.toList x1 [] f1 w1' bx more n hp hdu hF L (.inr hbl')
    simp only[ac] at s6
    subst s6
    rw[List.append_nil] at s5
    subst s5
    refine⟨s1,s2,[_],vr,rfl,hvr,fun hH h0b ho hb=>?_⟩
    have h0:=hb j0 0 q0 rfl rfl
    rw[Nat.add_zero] at h0
    obtain⟨k1,k2,k3,k4⟩:=s7 hH h0b ho (fun j1 k q hj hq=>by
     cases hj
     have:=hb j0 (k+1) q rfl (by simpa using hq)
     rwa [show j0+(k+1)=j0+1+k from by omega] at this)
    refine⟨?_,k2,fun q y hh=>?_,fun _ q hq=>?_⟩
    ·simp only[dp,List.cons_append,ac,aa]
     exact⟨_,[],rfl,⟨kb,lb,by rw[h0];exact hkb,rfl⟩,rfl⟩
    ·simp only[da,List.cons_append] at hh
     rcases List.mem_cons.1 hh with hh|hh
     ·cases hh
      refine⟨j0,rfl,0,_,_,rfl,rfl,rfl,hl,rfl,fun k len he=>?_,fun he=>?_⟩
      ·rw[Nat.add_zero,hkb] at he;cases he
       exact⟨us,hus,k1⟩
      ·rw[Nat.add_zero,hkb] at he;cases he
     ·obtain⟨j1,hj1,hbx⟩:=k3 q y hh
      cases hj1
      exact⟨j0,rfl,fH.shift (pre:=[q0]) hbx⟩
    ·simp only[da,List.cons_append,List.map_cons]
     rcases List.mem_cons.1 hq with rfl|hq
     ·exact List.mem_cons_self ..
     ·exact List.mem_cons_of_mem _ (k4 (by simp) q hq)
   ·cases e
  ·cases e
 | .pair a b,j,cs,vs,x,rest,fz,ow,bx,more,n,e,hd,hF,L,hbl=>by
  simp only[cX] at e
  split at e
  ·rename_i x1 r1 f1 o1 h1'
   split at e
   ·rename_i x2 r2 f2 o2 h2'
    simp only[Option.some.injEq,Prod.mk.injEq] at e
    obtain⟨rfl,rfl,rfl,rfl⟩:=e
    have hF1:∀ k,bM env1 f1 k->A2 k:=fun k ⟨n,x,l,hx,he⟩=>hF k ⟨n,x,l,List.mem_append_left _ hx,he⟩
    have hF2:∀ k,bM env1 f2 k->A2 k:=fun k ⟨n,x,l,hx,he⟩=>hF k ⟨n,x,l,List.mem_append_right _ hx,he⟩
    have La:a.plain=true∨∀ b,A2 b->A' b:=jI (c:=true) L
    have Lb:b.plain=true∨∀ b,A2 b->A' b:=jN L
    have hla:j=none∨(bx.take a.nb).length=a.nb:=by
     rcases hbl with hbl|hbl
     ·exact .inl hbl
     ·simp only[OT.nb] at hbl
      exact .inr (by rw[List.length_take];omega)
    have hlb:j.map (· + a.nb)=none∨(bx.drop a.nb).length=b.nb:=by
     rcases hbl with hbl|hbl
     ·exact .inl (by rw[hbl];rfl)
     ·simp only[OT.nb] at hbl
      exact .inr (by rw[List.length_drop];omega)
    obtain⟨s1,s2,us,rs,rfl,s6,s7⟩:=jD m1 hA b0 a j cs vs x1 r1 f1 o1 (bx.take a.nb) (bx.drop a.nb++more) n h1' hd hF1 La hla
    obtain⟨t1,t2,us',rs',rfl,t6,t7⟩:=jD m1 hA b0 b (j.map (· + a.nb)) r1 rs x2 r2 f2 o2 (bx.drop a.nb) more (n+a.nr) h2' s6 hF2 Lb hlb
    refine⟨fun n b hh=>?_,by simp only[List.length_append,s2,t2,OT.nr],us++us',rs',by rw[List.append_assoc],t6,fun hH h0b ho hb=>?_⟩
    ·rcases List.mem_append.1 hh with hh|hh
     ·exact s1 n b hh
     ·exact t1 n b hh
    have eb:bx.take a.nb++(bx.drop a.nb++more)=bx++more:=by rw[← List.append_assoc,List.take_append_drop]
    obtain⟨k1,k2,k3,k4⟩:=s7 (fun i hi=>hH i (List.mem_append_left _ hi)) h0b (fun k q hq=>ho k q (by rw[List.getElem?_append_left (List.getElem?_eq_some_iff.1 hq).1];exact hq))
     (fun j0 k q hj hq=>by
      refine hb j0 k q hj ?_
      rw[List.getElem?_take] at hq
      split at hq
      ·exact hq
      ·cases hq)
    obtain⟨l1,l2,l3,l4⟩:=t7 (fun i hi=>hH i (List.mem_append_right _ hi)) h0b (fun k q hq=>by
      have:=ho (a.nr+k) q (by rw[List.getElem?_append_right (by omega),s2,Nat.add_sub_cancel_left];exact hq)
      rwa [show n+(a.nr+k)=n+a.nr+k from by omega] at this)
     (fun j1 k q hj hq=>by
      cases j with
      | none=>cases hj
      | some j0 =>
       simp only[Option.map_some,Option.some.injEq] at hj
       subst hj
       rw[List.getElem?_drop] at hq
       have:=hb j0 (a.nb+k) q rfl hq
       rwa [show j0+(a.nb+k)=j0+a.nb+k from by omega] at this)
    rw[eb] at k1 k3 k4
    have ed:(bx++more).drop a.nb=bx.drop a.nb++more:=by
     rcases hbl with hbl|hbl
     ·subst hbl
      rw[px a _ h1',List.drop_zero,List.drop_zero]
     ·simp only[OT.nb] at hbl
      rw[List.drop_append_of_le_length (by omega)]
    have tl:∀ j0,j=some j0->(bx.take a.nb).length=a.nb:=fun j0 hj=>by
     rcases hla with h|h
     ·rw[hj] at h;cases h
     ·exact h
    rw[← ed] at l1 l3 l4
    simp only[dp,da,f7]
    refine⟨hB k1 l1,k2.append (by rw[s2];exact l2),fun q y hh=>?_,fun hj q hq=>?_⟩
    ·rcases List.mem_append.1 hh with hh|hh
     ·obtain⟨j0,hj,hx⟩:=k3 q y hh
      refine⟨j0,hj,?_⟩
      have:=hx.grow (post:=bx.drop a.nb)
      rwa [List.take_append_drop] at this
     ·obtain⟨j1,hj1,hx⟩:=l3 q y hh
      cases j with
      | none=>cases hj1
      | some j0 =>
       simp only[Option.map_some,Option.some.injEq] at hj1
       subst hj1
       refine⟨j0,rfl,?_⟩
       have:=fH.shift (pre:=bx.take a.nb) (bx:=bx.drop a.nb) (j:=j0) (n:=q) (x:=y) (by rw[tl j0 rfl];exact hx)
       rwa [List.take_append_drop] at this
    ·rw[List.map_append]
     rw[← List.take_append_drop a.nb bx] at hq
     rcases List.mem_append.1 hq with hq|hq
     ·exact List.mem_append_left _ (k4 hj q hq)
     ·exact List.mem_append_right _ (l4 (by cases j with|none=>exact absurd rfl hj|some j0=>simp) q hq)
   ·cases e
  ·cases e
theorem nv{b0:Nat}:∀{o:OT}{x:o.X}{bx more:List Nat}{n:Nat},bx.length=o.nb→∀ q,q∈bx->q∈(da b0 o x (bx++more) n).map (·.1)
 | .dat _,x,bx,more,n,hl,q,hq=>by rw[List.length_eq_zero_iff.1 hl] at hq;cases hq
 | .row _ _,x,bx,more,n,hl,q,hq=>by rw[List.length_eq_zero_iff.1 hl] at hq;cases hq
 | .rowg _ _,x,bx,more,n,hl,q,hq=>by rw[List.length_eq_zero_iff.1 hl] at hq;cases hq
 | .fnc _,x,bx,more,n,hl,q,hq=>by rw[List.length_eq_zero_iff.1 hl] at hq;cases hq
 | .ali,x,bx,more,n,hl,q,hq=>by rw[List.length_eq_zero_iff.1 hl] at hq;cases hq
 | .hole _,x,bx,more,n,hl,q,hq=>by rw[List.length_eq_zero_iff.1 hl] at hq;cases hq
 | .ref E o,x,[],more,n,hl,q,hq=>by cases hq
 | .ref E o,x,q0::bx,more,n,hl,q,hq=>by
  simp only[List.cons_append,da,List.map_cons]
  rcases List.mem_cons.1 hq with rfl|hq
  ·exact List.mem_cons_self ..
  ·exact List.mem_cons_of_mem _ (nv (o:=o) (by simpa[OT.nb] using hl) q hq)
 | .pair a b,x,bx,more,n,hl,q,hq=>by
  simp only[OT.nb] at hl
  simp only[da,List.map_append]
  rw[← List.take_append_drop a.nb bx] at hq
  have e1:bx++more=bx.take a.nb++(bx.drop a.nb++more):=by rw[← List.append_assoc,List.take_append_drop]
  rcases List.mem_append.1 hq with hq|hq
  ·refine List.mem_append_left _ ?_
   rw[e1]
   exact nv (o:=a) (by rw[List.length_take];omega) q hq
  ·refine List.mem_append_right _ ?_
   rw[List.drop_append_of_le_length (by omega)]
   exact nv (o:=b) (by rw[List.length_drop];omega) q hq
theorem iQ{al:Bool}{Nc:bv}(m1:aw w Nc A1 env1 h1 w1)(hA:∀ b,A1 b->A2 b)(b0:Nat):∀(rs:List RK)(d:cr rs)(svs:List SV)(vs:List Value)(fz:List (Nat×Nm))(ow:List (Option Nat))(n:Nat),
  cS al rs svs h1=some (d,fz,ow)->ac A1 env1 w1 svs vs->(∀ k,bM env1 fz k->A2 k)->(f9 rs=true∨∀ b,A2 b->A' b)->gP rs=[] →
  dW h1 fz/\ow.length=bG rs/\((al=true->env' b0=env1 PN)->(∀ i o,ow[i]? = some o->env' (n+i)=dS env1 o)->ac A' env' w1 (cE b0 rs d n) vs/\cl A' env1 h1 env' w1 ow (c5 b0 rs d n) n)
 | [],d,[],vs,fz,ow,n,e,hd,hF,L,hx=>by
  simp only[cS,Option.some.injEq,Prod.mk.injEq] at e
  obtain⟨-,rfl,rfl⟩:=e
  exact⟨fun n b hh=>by simp at hh,rfl,fun _ _=>⟨by simpa[cE,ac] using hd,trivial⟩⟩
 | .val t::rs,d,v::svs,vs,fz,ow,n,e,hd,hF,L,hx=>by
  simp only[cS] at e
  split at e
  ·rename_i x f1 q hp
   split at e
   ·rename_i ps f2 o hr
    simp only[Option.some.injEq,Prod.mk.injEq] at e
    obtain⟨rfl,rfl,rfl⟩:=e
    simp only[ac] at hd
    obtain⟨u,vr,rfl,hu,hvr⟩:=hd
    have hF1:∀ k,bM env1 f1 k->A2 k:=fun k ⟨n,x,l,hx,he⟩=>hF k ⟨n,x,l,List.mem_append_left _ hx,he⟩
    have hF2:∀ k,bM env1 f2 k->A2 k:=fun k ⟨n,x,l,hx,he⟩=>hF k ⟨n,x,l,List.mem_append_right _ hx,he⟩
    obtain⟨p1,_,p3,p4,_⟩:=f5 m1 t [v] [u] x [] f1 _ hp (by simp only[ac];exact⟨u,[],rfl,hu,rfl⟩) hA hF1
    obtain⟨s1,s2,s3⟩:=iQ m1 hA b0 rs ps svs vr f2 o n hr hvr hF2 (jN L) hx
    refine⟨fun n b hh=>?_,s2,fun hal he=>?_⟩
    ·rcases List.mem_append.1 hh with hh|hh
     ·exact p1 n b hh
     ·exact s1 n b hh
    ·obtain⟨k1,k2⟩:=s3 hal he
     refine⟨?_,k2⟩
     simp only[cE,ac]
     exact⟨u,vr,rfl,qt (rest:=[]) (oB (jI (c:=true) L) p4),k1⟩
   ·cases e
  ·cases e
 | .agg t::rs,d,svs0,vs,fz,ow,n,e,hd,hF,L,hx=>by
  obtain⟨cs,svs,rfl⟩:=yI e
  simp only[cS] at e
  split at e
  ·rename_i x f1 w' hp
   split at e
   ·rename_i ps f2 o hr
    simp only[Option.some.injEq,Prod.mk.injEq] at e
    obtain⟨rfl,rfl,rfl⟩:=e
    simp only[ac,aa] at hd
    obtain⟨u,vr,rfl,⟨us,rfl,hu⟩,hvr⟩:=hd
    have hF1:∀ k,bM env1 f1 k->A2 k:=fun k ⟨n,x,l,hx,he⟩=>hF k ⟨n,x,l,List.mem_append_left _ hx,he⟩
    have hF2:∀ k,bM env1 f2 k->A2 k:=fun k ⟨n,x,l,hx,he⟩=>hF k ⟨n,x,l,List.mem_append_right _ hx,he⟩
    obtain⟨p1,p2,us',rs',p3,p4,p5⟩:=jD (env':=env') m1 hA b0 t none cs us.toList x [] f1 w' [] [] n hp hu hF1 (jI (c:=true) L) (.inl rfl)
    simp only[ac] at p4
    subst p4
    rw[List.append_nil] at p3
    subst p3
    obtain⟨s1,s2,s3⟩:=iQ m1 hA b0 rs ps svs vr f2 o (n+t.nr) hr hvr hF2 (jN L) (List.append_eq_nil_iff.1 hx).2
    refine⟨fun n b hh=>?_,by simp only[List.length_append,p2,s2,bG];omega,fun hal he=>?_⟩
    ·rcases List.mem_append.1 hh with hh|hh
     ·exact p1 n b hh
     ·exact s1 n b hh
    ·obtain⟨l1,l2,_⟩:=p5 (fun i hi=>by rw[(List.append_eq_nil_iff.1 hx).1] at hi;cases hi) hal (fun k q hq=>he k q (by rw[List.getElem?_append_left (List.getElem?_eq_some_iff.1 hq).1];exact hq)) (fun j0 k q hj _=>by cases hj)
     obtain⟨k1,k2⟩:=s3 hal (fun k q hq=>by
      have:=he (t.nr+k) q (by rw[List.getElem?_append_right (by omega),p2,Nat.add_sub_cancel_left];exact hq)
      rwa [show n+(t.nr+k)=n+t.nr+k from by omega] at this)
     simp only[cE,c5,ac,aa]
     exact⟨⟨_,vr,rfl,⟨us,rfl,l1⟩,k1⟩,l2.append (by rw[p2];exact k2)⟩
   ·cases e
  ·cases e
 | .own E t::rs,d,svs0,vs,fz,ow,n,e,hd,hF,L,hx=>by
  obtain⟨v,svs,rfl⟩:=A7 e
  simp only[cS] at e
  split at e
  ·rename_i x r1 w' hp
   split at e
   ·rename_i ps f2 o hr
    simp only[Option.some.injEq,Prod.mk.injEq] at e
    obtain⟨rfl,rfl,rfl⟩:=e
    simp only[ac] at hd
    obtain⟨u,vr,rfl,hu,hvr⟩:=hd
    obtain⟨v',vr',p1,-,-,p3⟩:=wJ (A':=A') m1 hA (jI (c:=true) L) hp (vs:=[u]) (by simp only[ac];exact⟨u,[],rfl,hu,rfl⟩)
    cases p1
    obtain⟨s1,s2,s3⟩:=iQ m1 hA b0 rs ps svs vr f2 o (n+1) hr hvr hF (jN L) hx
    refine⟨s1,by simp only[List.length_cons,s2,bG],fun hal he=>?_⟩
    obtain⟨l1,l2⟩:=p3 env' n (he 0 _ rfl)
    obtain⟨k1,k2⟩:=s3 hal (fun k q hq=>by have:=he (k+1) q (by simpa using hq);rwa [show n+(k+1)=n+1+k from by omega] at this)
    simp only[cE,c5,ac]
    exact⟨⟨u,vr,rfl,l1,k1⟩,l2.1,k2⟩
   ·cases e
  ·cases e
 | .box E t::rs,d,svs0,vs,fz,ow,n,e,hd,hF,L,hx=>by
  obtain⟨q,svs,rfl⟩:=C7 e
  simp only[cS] at e
  split at e
  ·rename_i E' cs hl
   split at e
   ·rename_i x f1 w' hE hp
    have hE:=Nat.eq_of_beq_eq_true hE
    subst hE
    split at e
    ·rename_i ps f2 o hr
     simp only[Option.some.injEq,Prod.mk.injEq] at e
     obtain⟨rfl,rfl,rfl⟩:=e
     simp only[ac,aa] at hd
     obtain⟨u,vr,rfl,⟨kb,lb,hkb,rfl⟩,hvr⟩:=hd
     obtain⟨⟨us,hus,hdu⟩,_⟩:=m1.live_blk hl hkb
     have hF1:∀ k,bM env1 f1 k->A2 k:=fun k ⟨n,x,l,hx,he⟩=>hF k ⟨n,x,l,List.mem_append_left _ hx,he⟩
     have hF2:∀ k,bM env1 f2 k->A2 k:=fun k ⟨n,x,l,hx,he⟩=>hF k ⟨n,x,l,List.mem_append_right _ hx,he⟩
     obtain⟨p1,p2,us',rs',p3,p4,p5⟩:=jD (env':=env') m1 hA b0 t none cs us.toList x [] f1 w' [] [] (n+1) hp hdu hF1 (jI (c:=true) L) (.inl rfl)
     simp only[ac] at p4
     subst p4
     rw[List.append_nil] at p3
     subst p3
     obtain⟨s1,s2,s3⟩:=iQ m1 hA b0 rs ps svs vr f2 o (n+1+t.nr) hr hvr hF2 (jN L) (List.append_eq_nil_iff.1 hx).2
     refine⟨fun n b hh=>?_,by simp only[List.length_cons,List.length_append,p2,s2,bG];omega,fun hal he=>?_⟩
     ·rcases List.mem_append.1 hh with hh|hh
      ·exact p1 n b hh
      ·exact s1 n b hh
     ·have h0:=he 0 (some q) rfl
      simp only[Nat.add_zero,dS] at h0
      have he':∀ k q',(w'++o)[k]? = some q'→env' (n+1+k)=dS env1 q':=fun k q' hq=>by
       have:=he (k+1) q' (by simpa using hq);rwa [show n+(k+1)=n+1+k from by omega] at this
      obtain⟨l1,l2,_⟩:=p5 (fun i hi=>by rw[(List.append_eq_nil_iff.1 hx).1] at hi;cases hi) hal (fun k q hq=>he' k q (by rw[List.getElem?_append_left (List.getElem?_eq_some_iff.1 hq).1];exact hq)) (fun j0 k q hj _=>by cases hj)
      obtain⟨k1,k2⟩:=s3 hal (fun k q hq=>by
       have:=he' (t.nr+k) q (by rw[List.getElem?_append_right (by omega),p2,Nat.add_sub_cancel_left];exact hq)
       rwa [show n+1+(t.nr+k)=n+1+t.nr+k from by omega] at this)
      simp only[cE,c5,ac,aa]
      refine⟨⟨_,vr,rfl,⟨kb,lb,by rw[h0];exact hkb,rfl⟩,k1⟩,⟨rfl,_,rfl,rfl,.inl ⟨q,_,rfl,hl,rfl,fun k len hk=>?_,fun hk=>?_⟩⟩,l2.append (by rw[p2];exact k2)⟩
      ·rw[hkb] at hk;cases hk
       exact⟨us,hus,l1⟩
      ·rw[hkb] at hk;cases hk
    ·cases e
   ·cases e
  ·cases e
 | .fn f k::rs,d,svs0,vs,fz,ow,n,e,hd,hF,L,hx=>by
  obtain⟨g,cs,svs,rfl⟩:=CJ e
  simp only[cS] at e
  split at e
  ·rename_i hf hk
   have hf:=Nat.eq_of_beq_eq_true hf
   have hk:=Nat.eq_of_beq_eq_true hk
   subst hf
   split at e
   ·rename_i ps f2 o hr
    simp only[Option.some.injEq,Prod.mk.injEq] at e
    obtain⟨rfl,rfl,rfl⟩:=e
    simp only[ac,aa] at hd
    obtain⟨x,vr,rfl,⟨us,rfl,hu⟩,hvr⟩:=hd
    have hul:=cm hu
    obtain⟨s1,s2,s3⟩:=iQ m1 hA b0 rs ps (cs++svs) (us.toList++vr) f2 o n hr (hB hu hvr) hF L hx
    refine⟨s1,s2,fun hal he=>?_⟩
    obtain⟨k1,k2⟩:=s3 hal he
    refine⟨?_,k2⟩
    simp only[cE,ac,aa]
    refine⟨_,vr,rfl,⟨us,rfl,?_⟩,?_⟩
    ·have:=lZ k k1
     rwa [List.take_left' (by omega)] at this
    ·have:=lY k k1
     rwa [List.drop_left' (by omega)] at this
   ·cases e
  ·cases e
 | .alp::rs,d,svs0,vs,fz,ow,n,e,hd,hF,L,hx=>by
  obtain⟨svs,ps,f2,o,rfl,hal0,hr,e2⟩:=yY e
  simp only[Prod.mk.injEq] at e2
  obtain⟨rfl,rfl,rfl⟩:=e2
  simp only[ac,aa] at hd
  obtain⟨u,vr,rfl,⟨k,len,hek,rfl⟩,hvr⟩:=hd
  obtain⟨s1,s2,s3⟩:=iQ m1 hA b0 rs ps svs vr _ _ n hr hvr hF L hx
  refine⟨s1,s2,fun hal he=>?_⟩
  obtain⟨k1,k2⟩:=s3 hal he
  refine⟨?_,k2⟩
  simp only[cE,ac,aa]
  exact⟨_,vr,rfl,⟨k,len,by rw[hal hal0];exact hek,rfl⟩,k1⟩
 | [],_,_::_,_,_,_,_,e,_,_,_,_=>by cases e
 | .val _::_,_,[],_,_,_,_,e,_,_,_,_=>by cases e
def ct:List PK->Nat
 | []=>0
 | .val _::r=>ct r
 | .agg _::r=>ct r
 | .own _ _::r=>ct r
 | .ago _::r=>ct r
 | .fn _ _::r=>ct r
 | .nils::r=>ct r
 | .box _ o::r=>o.nb+ct r+1
 | .row _ _::r=>ct r+1
theorem nT:∀{o:OT}{d:o.D}{j i:Nat},(gk o d j i).length=o.nb
 | .dat _,_,_,_=>rfl
 | .row _ _,_,_,_=>rfl
 | .rowg _ _,_,_,_=>rfl
 | .fnc _,_,_,_=>rfl
 | .ali,_,_,_=>rfl
 | .hole _,_,_,_=>rfl
 | .ref _ o,d,j,i=>by simp only[gk,List.length_cons,nT (o:=o),OT.nb]
 | .pair a b,d,j,i=>by simp only[gk,List.length_append,nT (o:=a),nT (o:=b),OT.nb]
theorem hV:∀{ps:List PK}{d:aC ps}{j i:Nat},(fy ps d j i).length=ct ps
 | [],_,_,_=>rfl
 | .val t::ps,d,j,i=>hV (ps:=ps)
 | .agg t::ps,d,j,i=>hV (ps:=ps)
 | .own _ t::ps,d,j,i=>hV (ps:=ps)
 | .ago _::ps,d,j,i=>hV (ps:=ps)
 | .fn _ _::ps,d,j,i=>hV (ps:=ps)
 | .nils::ps,d,j,i=>hV (ps:=ps)
 | .box E o::ps,d,j,i=>by simp only[fy,List.length_cons,List.length_append,nT,hV (ps:=ps),ct]
 | .row E t::ps,d,j,i=>by simp only[fy,List.length_cons,hV (ps:=ps),ct]
theorem gM{Nc:bv}(m1:aw w Nc A1 env1 h1 w1)(hA:∀ b,A1 b->A2 b)(b0:Nat):∀(ps:List PK)(d:bH ps)(fz:List (Nat×Nm))(ow:List (Option Nat))(bx:List Nat)(j n:Nat),
  dh ps j h1=some (d,fz,ow)->(∀ k,bM env1 fz k->A2 k)->(dB ps=true∨∀ b,A2 b->A' b)->bx.length=ct ps →
  dW h1 fz/\ow.length=cy ps/\((∀ i∈cY ps,∀ v s,env1 (HN+i) = .val v s->aa A' env' w1 s v)->(bx≠[]->env' b0=env1 PN)->(∀ k q,ow[k]? = some q->env' (n+k)=dS env1 q)->(∀ k q,bx[k]? = some q->env' q=env1 (PN+(j+k))) →
   cl A' env1 h1 env' w1 ow (bW ps d n) n/\(∀ q x,(q,x)∈bI b0 ps d bx n->fH A' env1 h1 env' w1 bx j q x))∧∀ q,q∈bx->q∈(bI b0 ps d bx n).map (·.1)
 | [],d,fz,ow,bx,j,n,e,hF,L,hl=>by
  simp only[dh,Option.some.injEq,Prod.mk.injEq] at e
  obtain⟨-,rfl,rfl⟩:=e
  simp only[ct,List.length_eq_zero_iff] at hl
  subst hl
  exact⟨fun n b hh=>by simp at hh,rfl,fun _ _ _ _=>⟨trivial,fun q x hh=>by simp[bI] at hh⟩,fun q hh=>by simp at hh⟩
 | .val t::ps,d,fz,ow,bx,j,n,e,hF,L,hl=>by
  simp only[bI,bW,cy]
  exact gM m1 hA b0 ps d fz ow bx j n (by simpa only[dh] using e) hF (by simpa only[dB] using L) (by simpa only[ct] using hl)
 | .agg t::ps,d,fz,ow,bx,j,n,e,hF,L,hl=>by
  simp only[bI,bW,cy]
  exact gM m1 hA b0 ps d fz ow bx j n (by simpa only[dh] using e) hF (by simpa only[dB] using L) (by simpa only[ct] using hl)
 | .own _ t::ps,d,fz,ow,bx,j,n,e,hF,L,hl=>by
  simp only[bI,bW,cy]
  exact gM m1 hA b0 ps d fz ow bx j n (by simpa only[dh] using e) hF (by simpa only[dB] using L) (by simpa only[ct] using hl)
 | .ago _::ps,d,fz,ow,bx,j,n,e,hF,L,hl=>by
  simp only[bI,bW,cy]
  obtain⟨s1,s2,s3,s4⟩:=gM m1 hA b0 ps d fz ow bx j n (by simpa only[dh] using e) hF (by simpa only[dB] using L) (by simpa only[ct] using hl)
  exact⟨s1,s2,fun hH=>s3 fun i hi=>hH i (List.mem_append_right _ hi),s4⟩
 | .fn _ _::ps,d,fz,ow,bx,j,n,e,hF,L,hl=>by
  simp only[bI,bW,cy]
  exact gM m1 hA b0 ps d fz ow bx j n (by simpa only[dh] using e) hF (by simpa only[dB] using L) (by simpa only[ct] using hl)
 | .nils::ps,d,fz,ow,bx,j,n,e,hF,L,hl=>by
  simp only[bI,bW,cy]
  exact gM m1 hA b0 ps d fz ow bx j n (by simpa only[dh] using e) hF (by simpa only[dB] using L) (by simpa only[ct] using hl)
 | .box E o::ps,d,fz,ow,bx,j,n,e,hF,L,hl=>by
  cases bx with
  | nil=>simp[ct] at hl
  | cons n0 bx =>
  simp only[dh] at e
  split at e
  ·rename_i E' cs hlk
   split at e
   ·rename_i x f1 w' hE hp
    have hE:=Nat.eq_of_beq_eq_true hE
    subst hE
    split at e
    ·rename_i ps' f2 ow2 hr
     simp only[Option.some.injEq,Prod.mk.injEq] at e
     obtain⟨rfl,rfl,rfl⟩:=e
     simp only[List.length_cons,ct] at hl
     have hF1:∀ k,bM env1 f1 k->A2 k:=fun k ⟨n,x,l,hx,he⟩=>hF k ⟨n,x,l,List.mem_append_left _ hx,he⟩
     have hF2:∀ k,bM env1 f2 k->A2 k:=fun k ⟨n,x,l,hx,he⟩=>hF k ⟨n,x,l,List.mem_append_right _ hx,he⟩
     have hlt:(bx.take o.nb).length=o.nb:=by rw[List.length_take];omega
     have eb:bx.take o.nb++bx.drop o.nb=bx:=List.take_append_drop ..
     obtain⟨s1,s2,s3,s4⟩:=gM m1 hA b0 ps ps' f2 ow2 (bx.drop o.nb) (j+1+o.nb) (n+o.nr) hr hF2 (jN L) (by rw[List.length_drop];omega)
     have hm:=m1.nm (PN+j)
     rw[hlk] at hm
     have hbd:∃ kb lb us,env1 (PN+j) = .blk kb lb/\w1.heap[kb]? = some (.cells us E (0,0))/\ac A1 env1 w1 cs us.toList:=by
      rcases hm with⟨k',len',he',⟨us,hus,hdu⟩,_⟩|⟨he',_,_,hb|hb⟩
      ·exact⟨k',len',us,he',hus,hdu⟩
      ·cases hb
      ·cases hb
     obtain⟨kb,lb,us,hkb,hus,hdu⟩:=hbd
     obtain⟨p1,p2,us',rs',p3,p4,p5⟩:=jD (al:=true) (env':=env') m1 hA b0 o (some (j+1)) cs us.toList x [] f1 w' (bx.take o.nb) (bx.drop o.nb) n hp hdu hF1 (jI (c:=true) L) (.inr hlt)
     simp only[ac] at p4
     subst p4
     rw[List.append_nil] at p3
     subst p3
     rw[eb] at p5
     refine⟨fun n b hh=>?_,by simp only[List.length_append,p2,s2,cy];omega,fun hH h0b ho hb=>?_,fun q hq=>?_⟩
     ·rcases List.mem_append.1 hh with hh|hh
      ·exact p1 n b hh
      ·exact s1 n b hh
     ·obtain⟨l1,l2,l3,_⟩:=p5 (fun i hi=>hH i (List.mem_append_left _ hi)) (fun _=>h0b (by simp)) (fun k q hq=>ho k q (by rw[List.getElem?_append_left (List.getElem?_eq_some_iff.1 hq).1];exact hq))
       (fun j0 k q hj hq=>by
        cases hj
        rw[List.getElem?_take] at hq
        split at hq
        ·have:=hb (k+1) q (by simpa using hq)
         rwa [show j+(k+1)=j+1+k from by omega] at this
        ·cases hq)
      obtain⟨k1,k2⟩:=s3 (fun i hi=>hH i (List.mem_append_right _ hi)) (fun _=>h0b (by simp)) (fun k q hq=>by
        have:=ho (o.nr+k) q (by rw[List.getElem?_append_right (by omega),p2,Nat.add_sub_cancel_left];exact hq)
        rwa [show n+(o.nr+k)=n+o.nr+k from by omega] at this)
       (fun k q hq=>by
        rw[List.getElem?_drop] at hq
        have:=hb (o.nb+k+1) q (by simpa using hq)
        rwa [show j+(o.nb+k+1)=j+1+o.nb+k from by omega] at this)
      simp only[bW,bI]
      refine⟨l2.append (by rw[p2];exact k1),fun q y hh=>?_⟩
      rcases List.mem_cons.1 hh with hh|hh
      ·cases hh
       refine⟨0,_,_,rfl,rfl,rfl,hlk,rfl,fun k len he=>?_,fun he=>?_⟩
       ·rw[Nat.add_zero,hkb] at he;cases he
        exact⟨us,hus,l1⟩
       ·rw[Nat.add_zero,hkb] at he;cases he
      ·rcases List.mem_append.1 hh with hh|hh
       ·obtain⟨j0,hj,hx⟩:=l3 q y hh
        cases hj
        have:=(fH.shift (pre:=[n0]) (j:=j) hx).grow (post:=bx.drop o.nb)
        rwa [List.append_assoc,eb] at this
       ·have:=fH.shift (pre:=n0::bx.take o.nb) (bx:=bx.drop o.nb) (j:=j) (n:=q) (x:=y) (by rw[List.length_cons,hlt,show j+(o.nb+1)=j+1+o.nb from by omega];exact k2 q y hh)
        rwa [List.cons_append,eb] at this
     ·simp only[bI,List.map_cons,List.map_append]
      rcases List.mem_cons.1 hq with rfl|hq
      ·exact List.mem_cons_self ..
      ·refine List.mem_cons_of_mem _ ?_
       rw[← eb] at hq
       rcases List.mem_append.1 hq with hq|hq
       ·refine List.mem_append_left _ ?_
        have:=nv (b0:=b0) (o:=o) (x:=x) (n:=n) (more:=bx.drop o.nb) hlt q hq
        rwa [eb] at this
       ·exact List.mem_append_right _ (s4 q hq)
    ·cases e
   ·cases e
  ·cases e
 | .row E t::ps,d,fz,ow,bx,j,n,e,hF,L,hl=>by
  cases bx with
  | nil=>simp[ct] at hl
  | cons n0 bx =>
  simp only[dh] at e
  split at e
  ·rename_i E' t' xs hlk
   split at e
   ·rename_i ys hE hcl
    have hE:=Nat.eq_of_beq_eq_true hE
    subst hE
    obtain⟨et,ez⟩:=cD hcl
    subst et
    simp only at ez
    subst ez
    split at e
    ·rename_i ps' f2 ow2 hr
     simp only[Option.some.injEq,Prod.mk.injEq] at e
     obtain⟨rfl,rfl,rfl⟩:=e
     obtain⟨s1,s2,s3,s4⟩:=gM m1 hA b0 ps ps' f2 ow2 bx (j+1) n hr hF (jN L) (by simpa[ct] using hl)
     have hm:=m1.nm (PN+j)
     rw[hlk] at hm
     refine⟨s1,s2,fun hH h0b ho hb=>?_,fun q hq=>?_⟩
     ·obtain⟨k1,k2⟩:=s3 hH (fun _=>h0b (by simp)) ho (fun k q hq=>by have:=hb (k+1) q (by simpa using hq);rwa [show j+(k+1)=j+1+k from by omega] at this)
      simp only[bW,bI]
      refine⟨k1,fun q y hh=>?_⟩
      rcases List.mem_cons.1 hh with hh|hh
      ·cases hh
       refine⟨0,_,_,rfl,rfl,rfl,hlk,rfl,fun k len he=>?_,fun he=>?_⟩
       ·rcases hm with⟨k',len',he',hb,_⟩|⟨he',_⟩
        ·rw[Nat.add_zero] at he;rw[he] at he';cases he'
         obtain⟨us,cap,g1,g2,g3,g4,g5,g6⟩:=hb
         exact⟨us,cap,g1,g2,g3,g4,g5,fun i hi=>oB (jI (c:=true) L) (bR hA (fun _ _ _=>rfl) _ _ _ _ _ (fun _ _=>rfl) (g6 i hi))⟩
        ·rw[Nat.add_zero] at he;rw[he] at he';cases he'
       ·rcases hm with⟨k',len',he',hb,_⟩|⟨he',E2,t2,hb⟩
        ·rw[Nat.add_zero] at he;rw[he] at he';cases he'
        ·rcases hb with hb|hb <;> cases hb
         exact⟨_,_,rfl⟩
      ·exact fH.shift (pre:=[n0]) (k2 q y hh)
     ·simp only[bI,List.map_cons]
      rcases List.mem_cons.1 hq with rfl|hq
      ·exact List.mem_cons_self ..
      ·exact List.mem_cons_of_mem _ (s4 q hq)
    ·cases e
   ·cases e
  ·cases e
end
end Go.SX

/- SX, part 22: a function's contract, off its symbolic run (the proof). -/
namespace Go.SX
set_option linter.unusedVariables false
def ci:List Nat->Nat->Rn
 | [],_=>[]
 | n::bx,j=>(n,some (PN+j))::ci bx (j+1)
def cq:List (Option Nat)->Nat->Rn
 | [],_=>[]
 | o::r,n=>(n,o)::cq r (n+1)
theorem pt{a b:Rn}{n:Nat}:aY (a++b) n=(match aY a n with|some x=>some x|none=>aY b n):=by
 induction a with
 | nil=>rfl
 | cons p a ih =>
  obtain⟨m,x⟩:=p
  simp only[List.cons_append,eI]
  split
  ·rfl
  ·exact ih
theorem qW:∀{bx:List Nat}{j n:Nat}{y:Option Nat},aY (ci bx j) n=some y→∃ i,bx[i]? = some n/\y=some (PN+(j+i))
 | [],j,n,y,h=>by simp[ci,aY] at h
 | m::bx,j,n,y,h=>by
  simp only[ci,eI] at h
  split at h
  ·rename_i e;cases h;exact⟨0,by simp[e],rfl⟩
  ·obtain⟨i,h1,h2⟩:=qW h
   exact⟨i+1,by simpa using h1,by rw[h2,show j+1+i=j+(i+1) from by omega]⟩
theorem tL:∀{bx:List Nat}{j n i:Nat},bx.Nodup->bx[i]? = some n->aY (ci bx j) n=some (some (PN+(j+i)))
 | [],j,n,i,_,h=>by simp at h
 | m::bx,j,n,0,_,h=>by
  simp at h;subst h
  simp only[ci,eI,if_pos,Nat.add_zero]
 | m::bx,j,n,i+1,hn,h=>by
  have h':bx[i]? = some n:=by simpa using h
  obtain⟨h1,h2⟩:=List.nodup_cons.1 hn
  have hne:n≠m:=fun e=>h1 (e▸List.mem_of_getElem? h')
  simp only[ci,eI,if_neg hne,tL h2 h']
  rw[show j+1+i=j+(i+1) from by omega]
theorem EC{bx:List Nat}{j n:Nat}(h:n ∉ bx):aY (ci bx j) n=none:=by
 cases hl:aY (ci bx j) n with
 | none=>rfl
 | some y=>obtain⟨i,hi,_⟩:=qW hl;exact absurd (List.mem_of_getElem? hi) h
theorem wA:∀{ow:List (Option Nat)}{n0 n:Nat}{y:Option Nat},aY (cq ow n0) n=some y→∃ i,ow[i]? = some y/\n=n0+i
 | [],n0,n,y,h=>by simp[cq,aY] at h
 | o::ow,n0,n,y,h=>by
  simp only[cq,eI] at h
  split at h
  ·rename_i e;cases h;exact⟨0,by simp,by omega⟩
  ·obtain⟨i,h1,h2⟩:=wA h
   exact⟨i+1,by simpa using h1,by omega⟩
theorem vV:∀{ow:List (Option Nat)}{n0 i:Nat}{o:Option Nat},ow[i]? = some o->aY (cq ow n0) (n0+i)=some o
 | [],n0,i,o,h=>by simp at h
 | p::ow,n0,0,o,h=>by simp at h;subst h;simp[cq,eI]
 | p::ow,n0,i+1,o,h=>by
  have h':ow[i]? = some o:=by simpa using h
  have:=vV (n0:=n0+1) h'
  simp only[cq,eI,if_neg (show ¬ n0+(i+1)=n0 from by omega)]
  rw[show n0+(i+1)=n0+1+i from by omega];exact this
theorem qM{n:Nat}:∀{l:List (Option Nat)},iT n l=true↔some n∈l
 | []=>by simp[iT]
 | none::r=>by simp[iT,qM (l:=r)]
 | some m::r=>by simp[iT,qM (l:=r)]
theorem rV{fz:List (Nat×Nm)}:∀{ow:List (Option Nat)},j6 fz ow=true→∀(i m:Nat),ow[i]? = some (some m)->(m<PN∨QN<=m)/\m ∉ fz.map (·.1)∧∀ i':Nat,ow[i']? = some (some m)->i=i'
 | [],_,i,m,h=>by simp at h
 | none::r,h,i,m,hi=>by
  simp only[j6] at h
  cases i with
  | zero=>simp at hi
  | succ i =>
   obtain⟨h1,h2,h3⟩:=rV h i m (by simpa using hi)
   refine⟨h1,h2,fun i' hi'=>?_⟩
   cases i' with
   | zero=>simp at hi'
   | succ i'=>rw[h3 i' (by simpa using hi')]
 | some q::r,h,i,m,hi=>by
  simp only[j6,Bool.and_eq_true,Bool.or_eq_true,Bool.not_eq_true'] at h
  obtain⟨⟨⟨h1,h2⟩,h3⟩,h4⟩:=h
  have hno:∀ i:Nat,r[i]? ≠ some (some q):=fun i hi=>by
   have:iT q r=true:=qM.2 (List.mem_of_getElem? hi)
   rw[this] at h3;cases h3
  cases i with
  | zero =>
   simp at hi;subst hi
   refine⟨h1.imp (fun h=>Nat.le_of_ble_eq_true h) (fun h=>Nat.le_of_ble_eq_true h),kR h2,fun i' hi'=>?_⟩
   cases i' with
   | zero=>rfl
   | succ i'=>exact absurd (by simpa using hi') (hno i')
  | succ i =>
   obtain⟨g1,g2,g3⟩:=rV h4 i m (by simpa using hi)
   refine⟨g1,g2,fun i' hi'=>?_⟩
   cases i' with
   | zero=>simp at hi';subst hi';exact absurd (by simpa using hi) (hno i)
   | succ i'=>rw[g3 i' (by simpa using hi')]
theorem sR:∀{fz:List (Nat×Nm)},lN fz=true→∀ n,n∈fz.map (·.1)->n<PN∨QN<=n
 | [],_,n,h=>by simp at h
 | (m,b)::r,h,n,hn=>by
  simp only[lN,Bool.and_eq_true,Bool.or_eq_true] at h
  rcases List.mem_cons.1 hn with e|hn
  ·have e:n=m:=e
   subst e;exact h.1.imp (fun h=>Nat.le_of_ble_eq_true h) (fun h=>Nat.le_of_ble_eq_true h)
  ·exact sR h.2 n hn
theorem v5{fz:List (Nat×Nm)}:∀{bx:List Nat},md fz bx=true→∀ n,n∈bx->n ∉ fz.map (·.1)
 | [],_,n,h=>by simp at h
 | m::r,h,n,hn=>by
  simp only[md,Bool.and_eq_true] at h
  rcases List.mem_cons.1 hn with rfl|hn
  ·exact kR h.1
  ·exact v5 h.2 n hn
theorem oD{h:aI}{dl d:Dl}:∀{k n:Nat}{r:List Nat},(fM n k dl).run h=some (d,r)->d=dl∧∀ i,i<k->h (n+i) = .un
 | 0,n,r,e=>by
  simp only[fM,Q.run,Option.some.injEq,Prod.mk.injEq] at e
  exact⟨e.1.symm,fun i hi=>by omega⟩
 | k+1,n,r,e=>by
  simp only[fM,Q.run] at e
  split at e
  ·rename_i p q hk
   simp only[Option.some.injEq,Prod.mk.injEq] at e
   obtain⟨rfl,rfl⟩:=e
   split at hk
   ·rename_i hun
    obtain⟨h1,h2⟩:=oD hk
    refine⟨h1,fun i hi=>?_⟩
    cases i with
    | zero=>exact hun
    | succ i=>rw[show n+(i+1)=n+1+i from by omega];exact h2 i (by omega)
   ·cases hk
  ·cases e
theorem pl{n:Nat}{x:Nm}:∀{cx:List (Option Nat)},(n,x)∈eV cx->x = .dead/\n∈cj cx
 | [],h=>by simp[eV] at h
 | none::r,h=>by simp only[eV] at h;simpa only[cj] using pl (cx:=r) h
 | some m::r,h=>by
  simp only[eV] at h
  rcases List.mem_cons.1 h with h|h
  ·cases h;exact⟨rfl,List.mem_cons_self ..⟩
  ·obtain⟨h1,h2⟩:=pl (cx:=r) h
   exact⟨h1,List.mem_cons_of_mem _ h2⟩
theorem qk:∀{cx:List (Option Nat)},(eV cx).map (·.1)=cj cx
 | []=>rfl
 | none::r=>by simp only[eV,cj];exact qk (cx:=r)
 | some m::r=>by simp only[eV,cj,List.map_cons,qk (cx:=r)]
def pM(P:Program)(ty:TypeId)(v:SV)(h:aI):Option SV:=match v with
 | .ptr n off=>match h n with
  | .live (.cells _ cs)=>d9 P ty cs off
  | _=>none
 | _=>none
def gH(P:Program):List ResultVar->List SV->aI->Option (List SV)
 | [],_,_=>some []
 | .tmp t::r,sl,h=>match gH P r sl h with
  | some l=>some (bd sl t::l)
  | none=>none
 | .cell a ty::r,sl,h=>match pM P ty (bd sl a) h,gH P r sl h with
  | some v,some l=>some (v::l)
  | _,_=>none
def kD(l:List Value):Value:=if h:l.toArray.size=1 then l.toArray[0] else .tuple l.toArray
theorem Cm{P:Program}{w0:World}{N0:bv}{A:Nat->Prop}{env:ai}{h:aI}{w:World}(m:aw w0 N0 A env h w){ty:TypeId}{s s':SV}{v:Value}(e:pM P ty s h=some s')(hd:aa A env w s v) :
  ∃ u,(do loadVar ty (← asAddr v):Sem Value).run P w = .ok u w/\aa A env w s' u:=by
 unfold pM at e
 split at e
 ·rename_i n off
  split at e
  ·rename_i E cs hl
   simp only[aa] at hd
   obtain⟨b,l,he,rfl⟩:=hd
   obtain⟨⟨vs,hh,hd⟩,_⟩:=m.live_blk hl he
   obtain⟨u,hr,hv⟩:=lM (o:=0) (k:=b) e hd (fun j hj=>by rw[cell_of_row w b _ vs E (0,0) hh];simp)
   rw[Nat.zero_add] at hr
   exact⟨u,by simp[asAddr,hr],hv⟩
  ·cases e
 ·cases e
theorem rB{P:Program}{w0:World}{N0:bv}{A:Nat->Prop}{env:ai}{h:aI}{w:World}(m:aw w0 N0 A env h w){sl:List SV}{a:Act}(f:FD A env w (bd sl) a){F:ResultVar->Sem Value}
  (h1:∀ t,F (.tmp t)=pure (a.tmps.getD t undef)) (h2:∀ t ty,F (.cell t ty)=do loadVar ty (← asAddr (a.tmps.getD t undef))):∀(l:List ResultVar)(svs:List SV),gH P l sl h=some svs →
  ∃ vs,(l.mapM F).run P w = .ok vs w/\ac A env w svs vs
 | [],svs,e=>by cases e;exact⟨[],rfl,by simp[ac]⟩
 | .tmp t::l,svs,e=>by
  simp only[gH] at e
  split at e
  ·rename_i l' hl
   cases e
   obtain⟨vs,hr,hd⟩:=rB m f h1 h2 l l' hl
   refine⟨a.tmps.getD t undef::vs,?_,by simp only[ac];exact⟨_,_,rfl,f t,hd⟩⟩
   rw[List.mapM_cons,h1]
   simp[hr]
  ·cases e
 | .cell t ty::l,svs,e=>by
  simp only[gH] at e
  split at e
  ·rename_i v l' hv hl
   cases e
   obtain⟨vs,hr,hd⟩:=rB m f h1 h2 l l' hl
   obtain⟨u,hu,hdu⟩:=Cm m hv (f t)
   refine⟨u::vs,?_,by simp only[ac];exact⟨_,_,rfl,hdu,hd⟩⟩
   rw[List.mapM_cons,h2,Sem.run_bind,hu]
   simp[hr]
  ·cases e
theorem vg{P:Program}{w0:World}{N0:bv}{A:Nat->Prop}{env:ai}{h:aI}{w:World}(m:aw w0 N0 A env h w){sl:List SV}{a:Act}(f:FD A env w (bd sl) a){fn:Func}{svs:List SV}(e:gH P fn.results.toList sl h=some svs) :
  ∃ vs,(results fn a.tmps).run P w = .ok (kD vs) w/\ac A env w svs vs:=by
 unfold results
 rw[Array.mapM_eq_mapM_toList]
 obtain⟨vs,hr,hd⟩:=rB (P:=P) m f (F:=fun | .tmp t=>pure (a.tmps.getD t undef) | .cell t ty=>do loadVar ty (← asAddr (a.tmps.getD t undef))) (fun t=>rfl) (fun t ty=>rfl) fn.results.toList svs e
 refine⟨vs,?_,hd⟩
 rw[Sem.run_bind,Sem.run_map]
 erw [hr]
 rfl
theorem td{A:Nat->Prop}{env:ai}{w:World}{svs:List SV}{vs:List Value}(h:ac A env w svs vs):aa A env w (fT svs) (kD vs):=by
 have hl:=cm h
 unfold fT
 split
 ·simp only[ac] at h
  obtain⟨v,r,rfl,h,rfl⟩:=h
  exact h
 ·rename_i hne
  have:¬ vs.length=1:=fun e=>by
   rw[hl] at e
   obtain⟨x,hx⟩:=List.length_eq_one_iff.1 e
   exact hne x hx
  simp only[kD,aa]
  rw[dif_neg (by simpa using this)]
  exact⟨_,rfl,h⟩
def fl:List Prop->Prop
 | []=>True
 | [p]=>p
 | p::q::r=>p/\fl (q::r)
theorem jT:∀{l:List Prop},fl l↔aB l
 | []=>Iff.rfl
 | [p]=>by simp[fl,aB]
 | p::q::r=>by rw[fl,aB,jT]
def ld(P:Program)(ps:List PK)(rs:List RK)(rv:List ResultVar)(k:cr rs×bH ps->Prop):Ex->St->Prop:=fun e S=>match e with
 | .exit _=>False
 | _=>match gH P rv S.sl (aZ S.H) with
  | none=>False
  | some vs=>match cS (Nat.blt 0 (ct ps)) rs vs (aZ S.H),dh ps 0 (aZ S.H) with
   | some (y,f1,ow),some (z,f2,ow2)=>match j6 (f1++f2) (ow++ow2),lN (f1++f2) with
    | true,true=>k (y,z)
    | _,_=>False
   | _,_=>False
def ek:List SV->Nat->List SV
 | _,0=>[]
 | [],n+1 => .junk::ek [] n
 | v::l,n+1=>v::ek l n
def jU(ps:List PK)(d:aC ps)(n:Nat):St:=⟨ek (bY ps d 0 0) n,fy ps d 0 0++(gA ps d 0++gO (cY ps))⟩
theorem nL:∀{l:List SV}{n:Nat},(ek l n).length=n
 | _,0=>by simp[ek]
 | [],n+1=>by simp[ek,nL (l:=[]) (n:=n)]
 | v::l,n+1=>by simp[ek,nL (l:=l) (n:=n)]
theorem mX:∀{l:List SV}{n i:Nat},bd (ek l n) i = .junk∨∃ s,l[i]? = some s/\bd (ek l n) i=s
 | _,0,i=>by left;simp[ek,bd,dL]
 | [],n+1,0=>by left;simp[ek,bd,dL]
 | [],n+1,i+1=>by
  rcases mX (l:=[]) (n:=n) (i:=i) with h|⟨s,h,_⟩
  ·left;simpa[ek,bd,dL] using h
  ·simp at h
 | v::l,n+1,0=>by right;exact⟨v,by simp,by simp[ek,bd,dL]⟩
 | v::l,n+1,i+1=>by
  rcases mX (l:=l) (n:=n) (i:=i) with h|⟨s,h,h'⟩
  ·left;simpa[ek,bd,dL] using h
  ·right;exact⟨s,by simpa using h,by simpa[ek,bd,dL] using h'⟩
section
variable {P:Program} {sp:bc}
theorem wt{m:Nat}:∀{l:List Nat},mK m l=true→∀ i∈l,i<m
 | [],_,i,hi=>by cases hi
 | j::r,h,i,hi=>by
  simp only[mK,Bool.and_eq_true] at h
  rcases List.mem_cons.1 hi with rfl|hi
  ·exact Nat.le_of_ble_eq_true h.1
  ·exact wt h.2 i hi
theorem wq{ps:List PK}{rs:List RK}(h:kV ps rs=true):gP rs=[]/\(cY ps).Nodup∧∀ i∈cY ps,i<QN-HN:=by
 unfold kV at h
 split at h
 ·rename_i hr
  simp only[Bool.and_eq_true] at h
  exact⟨hr,rY h.1,wt h.2⟩
 ·cases h
theorem wm{ps:List PK}{rs:List RK}(post:aC ps->cr rs×bH ps->Prop){f:FuncId}{fn:Func}{code:Code}(hf:P.funcs[f]? = some fn)(hb:fn.body=some code)(hs:ca P sp)(aD:P.follows .mixedOrders=true)(an:aC ps->aN)
  {base:Nat} {svs:List SV} {h:aI} {dd:aC ps} {fz:List (Nat×Nm)} {bx:List Nat} {cx:List (Option Nat)} {q1:List Nat} (e1:(bN none ps svs).run h=some ((dd,fz,bx,cx),q1)) (hnm:kS ps rs fz bx cx=true)
  (hun:∀ i,i<bG rs+cy ps->h (base+i) = .un) (vc:jA ps dd->g8 (jU ps dd fn.ntmps) (sx P sp (an dd) code (ld P ps rs fn.results.toList (post dd))))
  {w0:World} {N0:bv} {A:Nat->Prop} {env:ai} {w:World} {vs:List Value} (hG:N0.g=sp.gl) (m:aw w0 N0 A env h w) (hd:ac A env w svs vs) :
  Calls P f vs.toArray w fun e w'=>∃ v y,e = .returned v/\post dd y∧∃ (A':Nat->Prop) (env':ai),aw w0 N0 A' env' (aM (gI ps rs y base fz bx cx) h) w'∧aW A env w A' env' w'∧aa A' env' w' (fT (cE (bx.headD 0) rs y.1 base)) v:=by
 simp only[kS,Bool.and_eq_true] at hnm
 obtain⟨⟨⟨hnd,hdj⟩,hbh⟩,hix⟩:=hnm
 have hnd:=rY hnd
 have hdj:=v5 hdj
 have hbh:bx.length<=HN-PN:=Nat.le_of_ble_eq_true hbh
 have hbl:bx.length<=PN:=Nat.le_trans hbh (by decide)
 obtain⟨hxr,hxn,hxl⟩:=wq hix
 obtain⟨a1,a4,hol,hols,a6⟩:=ie m (Ac:=bC A env fz) (fun b hb=>.inl hb) none ps svs vs dd fz bx cx q1 0 0 e1 hd (fun k hk=>.inr hk)
 have holn:(hol.map (·.1)).Nodup:=by rw[hols.1];exact hxn
 have holv:∀ q∈hol,cB env bx cx hol (HN+q.1) = .val q.2.1 q.2.2:=fun q hq=>by
  have hq':q.1∈cY ps:=hols.1▸List.mem_map_of_mem (f:=(·.1)) hq
  unfold cB
  rw[sX hbh (hxl _ hq')]
  exact rM holn q hq
 obtain⟨dargs,lb,lc⟩:=a6 (cB env bx cx hol) (fun _=>rfl) (fun n hn=>by cases hn) (fun k n hn=>by rw[Nat.zero_add];exact nZ hbl hn) (fun k q hq=>by rw[Nat.zero_add];exact sV hq) holv
 rw[Nat.add_zero] at lb lc
 have mc:=m.call hol a1 hbl lb lc hdj hnd
 rw[hols.1] at mc
 have hlen:bx.length=ct ps:=by
  have:=lb.get.1
  rw[List.length_map,hV] at this;exact this
 have hnd1:bx.Nodup:=(List.nodup_append.1 hnd).1
 have hvc:=vc a4
 rw[nl] at hvc
 have hvl:=cm dargs
 have live_ne:∀ q b,h q = .live b->env q ≠ .un:=fun q b hq=>by
  have:=m.nm q
  rw[hq] at this
  rcases this with⟨k,len,e,_⟩|⟨e,_⟩ <;> rw[e] <;> simp
 have hlive:∀ n,n∈bx++cj cx→∃ b,h n = .live b/\b.mut=true/\env n ≠ .un:=fun n hn=>by
  rcases List.mem_append.1 hn with hn|hn
  ·obtain⟨i,hi⟩:=List.mem_iff_getElem?.1 hn
   obtain⟨b',_,_,_,⟨q,b,e,h1,h2,_⟩|⟨e,_⟩⟩:=lb.get.2 i (some n) (by simp[hi])
   ·cases e;exact⟨b,h1,h2,live_ne _ _ h1⟩
   ·cases e
  ·obtain⟨i,hi⟩:=List.mem_iff_getElem?.1 (iZ.1 hn)
   obtain⟨b',_,_,_,⟨q,b,e,h1,h2,_⟩|⟨e,_⟩⟩:=lc.get.2 i (some n) hi
   ·cases e;exact⟨b,h1,h2,live_ne _ _ h1⟩
   ·cases e
 refine calls_of_wp hf hb (tz (N0:=⟨lE env (bx++cj cx),bC A env fz,N0.g⟩) ⟨hs,hG⟩ aD code _ _ _ (bC A env fz) (cB env bx cx hol) _ w hvc ⟨mc,?_,?_,rfl⟩ ?_)
 ·simp only[St.fs,jU,nL,Array.size_append,Array.size_replicate];omega
 ·intro i
  simp only[St.fs,jU]
  rcases mX (l:=bY ps dd 0 0) (n:=fn.ntmps) (i:=i) with hj|⟨s,h1,h2⟩
  ·rw[hj];simp only[aa]
  ·rw[h2]
   obtain⟨v,hv,hdv⟩:=iN i s dargs h1
   have hi:i<vs.length:=(List.getElem?_eq_some_iff.1 hv).1
   have:(vs.toArray++Array.replicate (fn.ntmps-vs.toArray.size) undef).getD i undef=v:=by
    have h3:(vs.toArray++Array.replicate (fn.ntmps-vs.toArray.size) undef)[i]? = some v:=by
     rw[Array.getElem?_append_left (by simpa using hi)];simpa using hv
    simp only[Array.getD_eq_getD_getElem?,h3,Option.getD_some]
   rw[this];exact hdv
 ·intro ex S' A1 env1 act w1 hK t' x'
  have hend:∃ rsv y f1 owr z f2 owb,gH P fn.results.toList S'.sl (aZ S'.H)=some rsv/\cS (Nat.blt 0 (ct ps)) rs rsv (aZ S'.H)=some (y,f1,owr)/\dh ps 0 (aZ S'.H)=some (z,f2,owb) ∧
    j6 (f1++f2) (owr++owb)=true/\lN (f1++f2)=true/\post dd (y,z)/\(ex = .normal∨ex = .ret):=by
   unfold ld at hK
   split at hK
   ·exact hK.elim
   ·rename_i hex
    split at hK
    ·exact hK.elim
    ·rename_i rsv hts
     split at hK
     ·rename_i y f1 ow z f2 ow2 h1 h2
      split at hK
      ·rename_i h3 h4
       refine⟨rsv,y,f1,ow,z,f2,ow2,hts,h1,h2,h3,h4,hK,?_⟩
       cases ex with
       | normal=>exact .inl rfl
       | ret=>exact .inr rfl
       | exit i=>exact absurd rfl (hex i)
      ·exact hK.elim
     ·exact hK.elim
  obtain⟨rsv,y,f1,owr,z,f2,owb,hts,ho,hob,hown,hlt,hpost,hex⟩:=hend
  obtain⟨rvs,hrun,hres⟩:=vg t'.m t'.f hts
  have hA2:∀ b,A1 b->bC A1 env1 (f1++f2) b:=fun b hb=>.inl hb
  have hF1:∀ k,bM env1 f1 k->bC A1 env1 (f1++f2) k:=fun k ⟨n,x,l,hx,he⟩=>.inr ⟨n,x,l,List.mem_append_left _ hx,he⟩
  have hF2:∀ k,bM env1 f2 k->bC A1 env1 (f1++f2) k:=fun k ⟨n,x,l,hx,he⟩=>.inr ⟨n,x,l,List.mem_append_right _ hx,he⟩
  have hlt:=sR hlt
  have hownS:=rV hown
  have hPQ:QN=PN+PN:=rfl
  have fin:∀(As A':Nat->Prop)(hs':aI),aw w0 N0 As env hs' w->(∀ n,n∈bx++cj cx->hs' n=h n)->(∀ i,i<bG rs+cy ps->hs' (base+i) = .un)->(∀ b,A b->As b)->(∀ b,As b->A' b)->(∀ b,A' b->bC A1 env1 (f1++f2) b) →
    (∀ b,A' b->As b∨((lE env (bx++cj cx) b∨w.heap.size<=b)/\b<w1.heap.size))->(f9 rs=true∨∀ b,bC A1 env1 (f1++f2) b->A' b)->(dB ps=true∨∀ b,bC A1 env1 (f1++f2) b->A' b) →
    ∃ env',aw w0 N0 A' env' (aM (bI (bx.headD 0) ps z bx (base+bG rs)++(c5 (bx.headD 0) rs y base++(bW ps z (base+bG rs)++eV cx))) hs') w1/\aW As env w A' env' w1/\aa A' env' w1 (fT (cE (bx.headD 0) rs y base)) (kD rvs):=by
   intro As A' hs' ms hsb hsu hAs hAA hA'2 hA1' L1 L2
   obtain⟨b1,b2,b3⟩:=iQ (A':=A') (env':=bw (ci bx 0++cq (owr++owb) base) env env1) t'.m hA2 (bx.headD 0) rs y _ _ f1 owr base ho hres hF1 L1 hxr
   obtain⟨c1,c2,c3,c4⟩:=gM (A':=A') (env':=bw (ci bx 0++cq (owr++owb) base) env env1) t'.m hA2 (bx.headD 0) ps z f2 owb bx 0 (base+bG rs) hob hF2 L2 hlen
   have hfo:dW (aZ S'.H) (f1++f2):=fun n b hh=>by
    rcases List.mem_append.1 hh with hh|hh
    ·exact b1 n b hh
    ·exact c1 n b hh
   have howl:(owr++owb).length=bG rs+cy ps:=by rw[List.length_append,b2,c2]
   have hnotbx:∀ i,i<bG rs+cy ps->base+i ∉ bx:=fun i hi hmem=>by
    have h1:=hsu i hi
    rw[hsb _ (List.mem_append_left _ hmem)] at h1
    obtain⟨b,hb',_⟩:=hlive _ (List.mem_append_left _ hmem)
    rw[h1] at hb';cases hb'
   have hRbox:∀ i n,bx[i]? = some n->aY (ci bx 0++cq (owr++owb) base) n=some (some (PN+i)):=fun i n hi=>by
    rw[pt,tL (j:=0) hnd1 hi,Nat.zero_add]
   have hRres:∀ i o,(owr++owb)[i]? = some o->aY (ci bx 0++cq (owr++owb) base) (base+i)=some o:=fun i o hi=>by
    have hlti:i<bG rs+cy ps:=by have:=(List.getElem?_eq_some_iff.1 hi).1;omega
    rw[pt,EC (hnotbx i hlti)]
    exact vV hi
   have hRinv:∀ n y,aY (ci bx 0++cq (owr++owb) base) n=some y->(∃ i,bx[i]? = some n/\y=some (PN+i))∨∃ i,(owr++owb)[i]? = some y/\n=base+i/\i<bG rs+cy ps:=fun n y hy=>by
    rw[pt] at hy
    split at hy
    ·rename_i x hx
     cases hy
     obtain⟨i,h1,h2⟩:=qW hx
     rw[Nat.zero_add] at h2
     exact .inl ⟨i,h1,h2⟩
    ·obtain⟨i,h1,h2⟩:=wA hy
     exact .inr ⟨i,h1,h2,by have:=(List.getElem?_eq_some_iff.1 h1).1;omega⟩
   have hbxlt:∀ i n,bx[i]? = some n->i<PN:=fun i n hi=>by have:=(List.getElem?_eq_some_iff.1 hi).1;omega
   have henvp:∀ i n,bx[i]? = some n->env1 (PN+i)=env n:=fun i n hi=>by
    obtain⟨b,_,_,hne⟩:=hlive n (List.mem_append_left _ (List.mem_of_getElem? hi))
    have:=hbxlt i n hi
    have:=x'.envp (PN+i) (by omega) (by omega) (by rw[nZ hbl hi];exact hne)
    rw[this,nZ hbl hi]
   have eenv:∀ i o,(owr++owb)[i]? = some o->bw (ci bx 0++cq (owr++owb) base) env env1 (base+i)=dS env1 o:=fun i o hi=>by
    unfold bw
    rw[hRres i o hi]
    simp only[bP,hRres i o hi]
    cases o <;> rfl
   have hhead:bx≠[]->bw (ci bx 0++cq (owr++owb) base) env env1 (bx.headD 0)=env1 PN:=fun hne=>by
    obtain⟨n0,r,hbx⟩:=List.exists_cons_of_ne_nil hne
    have h0:bx[0]? = some (bx.headD 0):=by rw[hbx];rfl
    unfold bw
    rw[hRbox 0 _ h0]
    simp only[bP,hRbox 0 _ h0,Nat.add_zero]
   obtain⟨d1,d2⟩:=b3 (fun hal=>hhead (fun hnil=>by
     have h0:ct ps=0:=by rw[← hlen,hnil];rfl
     rw[h0] at hal;cases hal)) (fun i o hi=>eenv i o (by rw[List.getElem?_append_left (List.getElem?_eq_some_iff.1 hi).1];exact hi))
   have hkeepE:∀ n,env n ≠ .un->bw (ci bx 0++cq (owr++owb) base) env env1 n=env n:=fun n hn=>by
    unfold bw
    cases hl:aY (ci bx 0++cq (owr++owb) base) n with
    | none=>rfl
    | some y =>
     rcases hRinv n y hl with⟨i,h1,rfl⟩|⟨i,h1,rfl,hi⟩
     ·simp only[bP,hl]
      exact henvp i n h1
     ·exact absurd (by have:=m.nm (base+i);rw[hun i hi] at this;exact this) hn
   have xg:aW A env w A' (bw (ci bx 0++cq (owr++owb) base) env env1) w1 :=
    ⟨fun b hb=>hAA b (hAs b hb),fun n b l e=>by rw[hkeepE n (by rw[e];simp)];exact e,fun n e=>by rw[hkeepE n (by rw[e];simp)];exact e,fun n v s e=>by rw[hkeepE n (by rw[e];simp)];exact e,
     fun b o hb=>x'.keep b o (.inl hb),x'.shape⟩
   have hHole:∀ i∈cY ps,∀ v s,env1 (HN+i) = .val v s->aa A' (bw (ci bx 0++cq (owr++owb) base) env env1) w1 s v:=fun i hi v s he=>by
    rw[← hols.1] at hi
    obtain⟨q,hq,rfl⟩:=List.mem_map.1 hi
    have h1:=holv q hq
    have hlq:=hxl q.1 (hols.1▸List.mem_map_of_mem (f:=(·.1)) hq)
    have h2:=x'.envp (HN+q.1) (by simp only[HN,PN];omega) (by simp only[HN,QN] at hlq ⊢;omega) (by rw[h1];simp)
    rw[h2,h1] at he
    cases he
    exact gC xg _ _ (hols.2 q hq)
   obtain⟨d3,d4⟩:=c3 hHole hhead (fun k q hq=>by
     have:=eenv (bG rs+k) q (by rw[List.getElem?_append_right (by omega),b2,Nat.add_sub_cancel_left];exact hq)
     rwa [← Nat.add_assoc] at this)
    (fun k q hq=>by
     unfold bw
     rw[hRbox k q hq]
     simp only[bP,hRbox k q hq,Nat.zero_add])
   have hlookA:∀ q b k l,aZ S'.H q = .live b->b.mut=true->env1 q = .blk k l->q ∉ (f1++f2).map (·.1)→¬ A' k:=fun q b k l hq hbm he hqn hA'=>by
    have mf:=(t'.m.freeze hfo).1
    have:aM (f1++f2) S'.fs.h q = .live b:=by rw[c7 hqn];exact hq
    exact (mf.live_blk this he).2 hbm (hA'2 k hA')
   suffices hk:aw w0 N0 A' (bw (ci bx 0++cq (owr++owb) base) env env1) (aM (bI (bx.headD 0) ps z bx (base+bG rs)++(c5 (bx.headD 0) rs y base++(bW ps z (base+bG rs)++eV cx))) hs') w1/\aW As env w A' (bw (ci bx 0++cq (owr++owb) base) env env1) w1 by
    exact⟨_,hk.1,hk.2,td d1⟩
   have hnew:∀{l:List (Nat×Nm)}{os:List (Option Nat)}{n0:Nat},cl A' env1 (aZ S'.H) (bw (ci bx 0++cq (owr++owb) base) env env1) w1 os l (base+n0)->(∀ i o,os[i]? = some o->(owr++owb)[n0+i]? = some o)→∀ n x,(n,x)∈l →
     ∃ b,x = .live b/\b.mut=true/\((∃ m b0,aY (ci bx 0++cq (owr++owb) base) n=some (some m)/\aZ S'.H m = .live b0/\b0.mut=true ∧
      (∀ k len,env1 m = .blk k len->cL A' (bw (ci bx 0++cq (owr++owb) base) env env1) w1 k len b)/\(env1 m = .nil→∃ E t,b = .row E t []))∨(aY (ci bx 0++cq (owr++owb) base) n=some none∧∃ E t,b = .row E t [])):=by
    intro l os n0 hl hos n x hx
    have:∀{os:List (Option Nat)}{l:List (Nat×Nm)}{k0:Nat},cl A' env1 (aZ S'.H) (bw (ci bx 0++cq (owr++owb) base) env env1) w1 os l k0→∀ n x,(n,x)∈l→∃ i o b',os[i]? = some o/\n=k0+i/\x = .live b'∧b'.mut=true ∧
      ((∃ q b,o=some q/\aZ S'.H q = .live b/\b.mut=true/\(∀ k len,env1 q = .blk k len->cL A' (bw (ci bx 0++cq (owr++owb) base) env env1) w1 k len b')/\(env1 q = .nil→∃ E t,b' = .row E t []))∨(o=none∧∃ E t,b' = .row E t [])):=by
     intro os
     induction os with
     | nil=>intro l k0 hl n x hx;cases l with
      | nil=>cases hx
      | cons p l=>exact hl.elim
     | cons o os ih =>
      intro l k0 hl n x hx
      cases l with
      | nil=>cases hx
      | cons p l =>
       obtain⟨m',y'⟩:=p
       obtain⟨⟨hm,b',g1,g2,g3⟩,hr⟩:=hl
       rcases List.mem_cons.1 hx with e|hx
       ·cases e;exact⟨0,o,b',rfl,by omega,g1,g2,g3⟩
       ·obtain⟨i,o',b'',k1,k2,k3⟩:=ih hr n x hx
        exact⟨i+1,o',b'',by simpa using k1,by omega,k3⟩
    obtain⟨i,o,b',k1,rfl,k3,k4,k5⟩:=this hl n x hx
    have hr:=hRres _ _ (hos i o k1)
    rw[← Nat.add_assoc] at hr
    refine⟨b',k3,k4,?_⟩
    rcases k5 with⟨q,b,rfl,g1,g2,g3,g4⟩|⟨rfl,g1⟩
    ·exact .inl ⟨q,b,hr,g1,g2,g3,g4⟩
    ·exact .inr ⟨hr,g1⟩
   refine aw.retn (R:=ci bx 0++cq (owr++owb) base) (U:=bI (bx.headD 0) ps z bx (base+bG rs)++(c5 (bx.headD 0) rs y base++(bW ps z (base+bG rs)++eV cx))) (A':=A') ms t'.m x'.shape ?_ ?_ ?_ ?_ ?_ hAA hA1' ?_
   ·intro n x hx
    rcases List.mem_append.1 hx with hx|hx
    ·obtain⟨i,b,b0,h1,h2,h3,h4,h5,h6,h7⟩:=d4 n x hx
     rw[Nat.zero_add] at h4 h6 h7
     exact .inr ⟨b,h2,h3,.inl ⟨PN+i,b0,hRbox i n h1,h4,h5,h6,h7⟩⟩
    ·rcases List.mem_append.1 hx with hx|hx
     ·exact .inr (hnew (n0:=0) (by rw[Nat.add_zero];exact d2) (fun i o hi=>by rw[Nat.zero_add,List.getElem?_append_left (List.getElem?_eq_some_iff.1 hi).1];exact hi) n x hx)
     ·rcases List.mem_append.1 hx with hx|hx
      ·exact .inr (hnew d3 (fun i o hi=>by rw[List.getElem?_append_right (by omega),b2,Nat.add_sub_cancel_left];exact hi) n x hx)
      ·exact .inl (pl hx).1
   ·intro n hn
    obtain⟨y',hy⟩:=Option.ne_none_iff_exists'.1 hn
    simp only[List.map_append]
    rcases hRinv n y' hy with⟨i,h1,_⟩|⟨i,h1,rfl,hi⟩
    ·exact List.mem_append_left _ (c4 n (List.mem_of_getElem? h1))
    ·refine List.mem_append_right _ ?_
     by_cases hlt':i<bG rs
     ·refine List.mem_append_left _ ?_
      obtain⟨b',_,hmem,_⟩:=d2.get.2 i _ (by rw[List.getElem?_append_left (by omega)] at h1;exact h1)
      exact List.mem_map_of_mem (f:=(·.1)) hmem
     ·refine List.mem_append_right _ (List.mem_append_left _ ?_)
      obtain⟨b',_,hmem,_⟩:=d3.get.2 (i-bG rs) _ (by rw[List.getElem?_append_right (by omega),b2] at h1;exact h1)
      have:=List.mem_map_of_mem (f:=(·.1)) hmem
      rwa [show base+bG rs+(i-bG rs)=base+i from by omega] at this
   ·intro n n' q hn hn'
    rcases hRinv n _ hn with⟨i,h1,h2⟩|⟨i,h1,rfl,_⟩ <;> rcases hRinv n' _ hn' with⟨i',h1',h2'⟩|⟨i',h1',rfl,_⟩
    ·simp only[Option.some.injEq] at h2 h2'
     have:i=i':=by omega
     subst this
     rw[h1] at h1';exact Option.some.inj h1'
    ·simp only[Option.some.injEq] at h2
     have:=(hownS i' q h1').1
     have:=hbxlt _ _ h1
     omega
    ·simp only[Option.some.injEq] at h2'
     have:=(hownS i q h1).1
     have:=hbxlt _ _ h1'
     omega
    ·rw[(hownS i q h1).2.2 i' h1']
   ·intro n hn
    obtain⟨y',hy⟩:=Option.ne_none_iff_exists'.1 hn
    rcases hRinv n y' hy with⟨i,h1,rfl⟩|⟨i,h1,rfl,h2⟩
    ·have hmem:n∈bx++cj cx:=List.mem_append_left _ (List.mem_of_getElem? h1)
     obtain⟨b,g2',g3',_⟩:=hlive n hmem
     exact .inr ⟨b,by rw[hsb n hmem];exact g2',g3',by rw[fF hy];exact henvp i n h1⟩
    ·exact .inl (hsu i h2)
   ·rintro k ⟨n,l,hn,he⟩
    obtain⟨b,g2',g3',_⟩:=hlive n hn
    refine⟨n,b,l,?_,by rw[hsb n hn];exact g2',g3',he⟩
    simp only[List.map_append,qk]
    rcases List.mem_append.1 hn with hn|hn
    ·exact List.mem_append_left _ (c4 n hn)
    ·exact List.mem_append_right _ (List.mem_append_right _ (List.mem_append_right _ hn))
   ·rintro q b k l hq hbm he ⟨n,hn⟩
    refine hlookA q b k l hq hbm he fun hmem=>?_
    rcases hRinv n _ hn with⟨i,h1,h2⟩|⟨i,h1,rfl,_⟩
    ·simp only[Option.some.injEq] at h2
     have:=hlt q hmem
     have:=hbxlt _ _ h1
     omega
    ·exact (hownS i q h1).2.1 hmem
  suffices hfin:∃ (A':Nat->Prop) (env':ai),aw w0 N0 A' env' (aM (gI ps rs (y,z) base fz bx cx) h) w1/\aW A env w A' env' w1/\aa A' env' w1 (fT (cE (bx.headD 0) rs y base)) (kD rvs) by
   have hthis:act.defers=[]∧∃ v,(results fn act.tmps).run P w1 = .ok v w1∧∃ v' y',Ending.returned v = .returned v'∧post dd y'∧∃ (A':Nat->Prop) (env':ai),aw w0 N0 A' env' (aM (gI ps rs y' base fz bx cx) h) w1/\aW A env w A' env' w1/\aa A' env' w1 (fT (cE (bx.headD 0) rs y'.1 base)) v' :=
    ⟨t'.dfr,_,hrun,_,(y,z),rfl,hpost,hfin⟩
   rcases hex with rfl|rfl
   ·exact hthis
   ·exact hthis
  unfold gI
  cases hk:jQ ps rs with
  | true =>
   obtain⟨mf,xf⟩:=m.freeze a1
   have hback:∀ b,bC A1 env1 (f1++f2) b->bC A env fz b∨((lE env (bx++cj cx) b∨w.heap.size<=b)/\b<w1.heap.size):=by
    intro b hb
    have hfo:dW (aZ S'.H) (f1++f2):=by
     obtain⟨b1,_⟩:=iQ (A':=bC A1 env1 (f1++f2)) (env':=env1) t'.m hA2 (bx.headD 0) rs y _ _ f1 owr base ho hres hF1 (.inr fun b hb=>hb) hxr
     obtain⟨c1,_⟩:=gM (A':=bC A1 env1 (f1++f2)) (env':=env1) t'.m hA2 (bx.headD 0) ps z f2 owb bx 0 base hob hF2 (.inr fun b hb=>hb) hlen
     intro n b hh
     rcases List.mem_append.1 hh with hh|hh
     ·exact b1 n b hh
     ·exact c1 n b hh
    have hAlt:=(t'.m.freeze hfo).1.Alt b hb
    rcases hb with hb|⟨n,x,l,hx,he⟩
    ·rcases t'.m.fresh b hb with h1|h1|h1
     ·exact .inl h1
     ·exact .inr ⟨.inl h1,hAlt⟩
     ·exact .inr ⟨.inr h1,hAlt⟩
    ·obtain⟨E,t,xs,hl,_⟩:=hfo n x hx
     rcases t'.m.own n _ b l hl rfl he with h1|h1
     ·exact .inr ⟨.inl h1,hAlt⟩
     ·exact .inr ⟨.inr h1,hAlt⟩
   obtain⟨env',k1,k2,k3⟩:=fin (bC A env fz) (bC A1 env1 (f1++f2)) (aM fz h) mf (fun n hn=>c7 (hdj n hn)) (fun i hi=>by
     rw[c7]
     ·exact hun i hi
     ·intro hmem
      obtain⟨⟨n,x⟩,hx,he⟩:=List.mem_map.1 hmem
      simp only at he
      subst he
      obtain⟨E,t,xs,hl,_⟩:=a1 _ _ hx
      rw[hun i hi] at hl;cases hl)
    (fun b hb=>.inl hb) (fun b hb=>.inl (x'.imm b hb)) (fun b hb=>hb) hback (.inr fun b hb=>hb) (.inr fun b hb=>hb)
   refine⟨_,env',?_,xf.trans k2,k3⟩
   rw[rH];exact k1
  | false =>
   have hpl:f9 rs=true/\dB ps=true:=by
    simpa[jQ] using hk
   obtain⟨env',k1,k2,k3⟩:=fin A A h m (fun n hn=>rfl) hun (fun b hb=>hb) (fun b hb=>hb) (fun b hb=>.inl (x'.imm b (.inl hb))) (fun b hb=>.inl hb) (.inl hpl.1) (.inl hpl.2)
   refine⟨_,env',?_,k2,k3⟩
   rw[List.append_nil];exact k1
def jL:(rs:List RK)->cr rs->cr rs->List Prop
 | [],_,_=>[]
 | _::rs,x,y=>(x.1=y.1)::jL rs x.2 y.2
def fq:(ps:List PK)->bH ps->bH ps->List Prop
 | [],_,_=>[]
 | .val _::ps,x,y=>fq ps x y
 | .agg _::ps,x,y=>fq ps x y
 | .own _ _::ps,x,y=>fq ps x y
 | .ago _::ps,x,y=>fq ps x y
 | .fn _ _::ps,x,y=>fq ps x y
 | .nils::ps,x,y=>fq ps x y
 | .box _ _::ps,x,y=>(x.1=y.1)::fq ps x.2 y.2
 | .row _ _::ps,x,y=>(x.1=y.1)::fq ps x.2 y.2
theorem ux:∀{rs:List RK}{x y:cr rs},aB (jL rs x y)->x=y
 | [],x,y,_=>rfl
 | _::rs,x,y,h=>Prod.ext h.1 (ux (rs:=rs) h.2)
theorem iz:∀{ps:List PK}{x y:bH ps},aB (fq ps x y)->x=y
 | [],x,y,_=>rfl
 | .val _::ps,x,y,h=>iz (ps:=ps) h
 | .agg _::ps,x,y,h=>iz (ps:=ps) h
 | .own _ _::ps,x,y,h=>iz (ps:=ps) h
 | .ago _::ps,x,y,h=>iz (ps:=ps) h
 | .fn _ _::ps,x,y,h=>iz (ps:=ps) h
 | .nils::ps,x,y,h=>iz (ps:=ps) h
 | .box _ _::ps,x,y,h=>Prod.ext h.1 (iz (ps:=ps) h.2)
 | .row _ _::ps,x,y,h=>Prod.ext h.1 (iz (ps:=ps) h.2)
theorem qY:∀{rs:List RK}{x:cr rs},aB (jL rs x x)
 | [],_=>trivial
 | _::rs,x=>⟨rfl,qY (rs:=rs)⟩
theorem gB:∀{ps:List PK}{x:bH ps},aB (fq ps x x)
 | [],_=>trivial
 | .val _::ps,x=>gB (ps:=ps)
 | .agg _::ps,x=>gB (ps:=ps)
 | .own _ _::ps,x=>gB (ps:=ps)
 | .ago _::ps,x=>gB (ps:=ps)
 | .fn _ _::ps,x=>gB (ps:=ps)
 | .nils::ps,x=>gB (ps:=ps)
 | .box _ _::ps,x=>⟨rfl,gB (ps:=ps)⟩
 | .row _ _::ps,x=>⟨rfl,gB (ps:=ps)⟩
theorem Ct.ok(c:Ct){f:FuncId}{fn:Func}{code:Code}(hf:P.funcs[f]? = some fn)(hb:fn.body=some code)(hs:ca P sp)(aD:P.follows .mixedOrders=true)(an:aC c.ps->aN)
  (vc:jV c.ps fun d=>jA c.ps d->fl (c.pre d)->g8 (jU c.ps d fn.ntmps) (sx P sp (an d) code (ld P c.ps c.rs fn.results.toList fun y=>fl (jL c.rs y.1 (c.out d).1++fq c.ps y.2 (c.out d).2)))):aG P sp.gl f c.spec:=by
 intro base svs h d r e hp w0 N0 A env w vs hG m hd
 unfold Ct.spec at e
 obtain⟨⟨dd,fz,bx,cx⟩,q1,q2,e1,e2,rfl⟩:=Q.run_bind _ _ _ e
 split at e2
 case h_2=>cases e2
 rename_i hnm
 obtain⟨rfl,hun⟩:=oD e2
 refine (wm (rs:=c.rs) (fun d y=>fl (jL c.rs y.1 (c.out d).1++fq c.ps y.2 (c.out d).2)) hf hb hs aD an e1 hnm hun (fun hw=>oX.1 vc dd hw (jT.2 hp)) hG m hd).mono ?_
 rintro e' w' ⟨v,y,rfl,hy,A',env',h1,h2,h3⟩
 obtain⟨hy1,hy2⟩:=eY.1 (jT.1 hy)
 have:y=c.out dd:=Prod.ext (ux hy1) (iz hy2)
 subst this
 exact⟨v,rfl,(),A',env',trivial,h1,h2,h3⟩
theorem Cn.ok(c:Cn){f:FuncId}{fn:Func}{code:Code}(hf:P.funcs[f]? = some fn)(hb:fn.body=some code)(hs:ca P sp)(aD:P.follows .mixedOrders=true)(an:aC c.ps->aN)
  (vc:jV c.ps fun d=>jA c.ps d->fl (c.pre d)->g8 (jU c.ps d fn.ntmps) (sx P sp (an d) code (ld P c.ps c.rs fn.results.toList (c.post d)))):aG P sp.gl f c.spec:=by
 intro base svs h d r e hp w0 N0 A env w vs hG m hd
 unfold Cn.spec at e
 obtain⟨⟨dd,fz,bx,cx⟩,q1,q2,e1,e2,rfl⟩:=Q.run_bind _ _ _ e
 split at e2
 case h_2=>cases e2
 rename_i hnm
 obtain⟨rfl,hun⟩:=oD e2
 refine (wm (rs:=c.rs) c.post hf hb hs aD an e1 hnm hun (fun hw=>oX.1 vc dd hw (jT.2 hp)) hG m hd).mono ?_
 rintro e' w' ⟨v,y,rfl,hy,A',env',h1,h2,h3⟩
 refine⟨v,rfl,y,A',env',hy,?_,h2,h3⟩
 show aw w0 N0 A' env' (aM ((lj c.ps c.rs base fz bx cx).map fun p=>(p.1,p.2 y)) h) w'
 rw[ue];exact h1
def Ct.nspec(c:Ct):Spec:=fun base svs=>(bN none c.ps svs).bind fun p=>match kS c.ps c.rs p.2.1 p.2.2.1 p.2.2.2 with
 | true=>fM base (bG c.rs+cy c.ps) (.nd (cr c.rs×bH c.ps) (sf c.rs c.ps) (c.pre p.1) (fun y=>fl (jL c.rs y.1 (c.out p.1).1++fq c.ps y.2 (c.out p.1).2)) (fun _=>⟨c.out p.1,jT.2 (eY.2 ⟨qY,gB⟩)⟩)
   (fun y=>fT (cE (p.2.2.1.headD 0) c.rs y.1 base)) (lj c.ps c.rs base p.2.1 p.2.2.1 p.2.2.2))
 | false => .fail
theorem vQ{h:aI}{dl d:Dl}:∀{k n:Nat}{r:List Nat},(fM n k dl).run h=some (d,r)→∀ dl',(fM n k dl').run h=some (dl',r)
 | 0,n,r,e,dl'=>by
  simp only[fM,Q.run,Option.some.injEq,Prod.mk.injEq] at e ⊢
  exact⟨trivial,e.2⟩
 | k+1,n,r,e,dl'=>by
  simp only[fM,Q.run] at e ⊢
  split at e
  ·rename_i p q hk
   simp only[Option.some.injEq,Prod.mk.injEq] at e
   obtain⟨rfl,rfl⟩:=e
   split at hk
   ·rename_i hun
    have:=vQ hk dl'
    rw[this]
   ·cases hk
  ·cases e
universe u v
theorem Q.bind_run1{h:aI}{α:Type u}{β:Type v}(q:Q α)(f:α->Q β){a:α}{r1:List Nat}{b:β}{r2:List Nat}(h1:q.run h=some (a,r1))(h2:(f a).run h=some (b,r2)):(q.bind f).run h=some (b,r1++r2):=by
 induction q generalizing r1 with
 | ret x=>simp only[Q.run,Option.some.injEq,Prod.mk.injEq] at h1;obtain⟨rfl,rfl⟩:=h1;simpa[Q.bind] using h2
 | ask n k ih =>
  simp only[Q.run] at h1
  split at h1
  ·rename_i x y hk
   simp only[Option.some.injEq,Prod.mk.injEq] at h1
   obtain⟨rfl,rfl⟩:=h1
   simp only[Q.bind,Q.run,ih _ hk,List.cons_append]
  ·cases h1
 | fail=>cases h1
theorem Ct.named{G:gm}{c:Ct}{f:FuncId}(ok:aG P G f c.spec):aG P G f c.nspec:=by
 intro base svs h d r e hp w0 N0 A env w vs hG m hd
 unfold Ct.nspec at e
 obtain⟨⟨dd,fz,bx,cx⟩,q1,q2,e1,e2,rfl⟩:=Q.run_bind _ _ _ e
 split at e2
 case h_2=>cases e2
 rename_i hnm
 obtain⟨rfl,hun⟩:=oD e2
 have e3:=vQ e2 (.det (c.pre dd) (fT (cE (bx.headD 0) c.rs (c.out dd).1 base)) (gI c.ps c.rs (c.out dd) base fz bx cx))
 have e4:(c.spec base svs).run h=some (.det (c.pre dd) (fT (cE (bx.headD 0) c.rs (c.out dd).1 base)) (gI c.ps c.rs (c.out dd) base fz bx cx),q1++q2):=by
  unfold Ct.spec
  refine Q.bind_run1 _ _ e1 ?_
  simp only at hnm ⊢
  rw[hnm]
  exact e3
 refine (ok base svs h _ _ e4 hp w0 N0 A env w vs hG m hd).mono ?_
 rintro e' w' ⟨v,he,x,A',env',_,h1,h2,h3⟩
 refine⟨v,he,c.out dd,A',env',jT.2 (eY.2 ⟨qY,gB⟩),?_,h2,h3⟩
 show aw w0 N0 A' env' (aM ((lj c.ps c.rs base fz bx cx).map fun p=>(p.1,p.2 (c.out dd))) h) w'
 rw[ue];exact h1
end
end Go.SX

/- SX, part 23: from a law's arguments to data, and a law's contract to its row. -/
namespace Go.SX
open Go.ChangeShapes Go.WideShapes Go.ChangeAt Go.RowKit
set_option linter.unusedVariables false
universe u v
def iw(P:Program)(f:CT->TypeId->Bool):List Field->CT->Nat->Bool
 | [],_,_=>false
 | [fd],t,o=>f t fd.type&&Nat.beq fd.offset o&&Nat.beq (P.cellsOf fd.type) t.size
 | fd::g::r,.pair a b,o=>f a fd.type&&Nat.beq fd.offset o&&Nat.beq (P.cellsOf fd.type) a.size&&iw P f (g::r) b (o+a.size)
 | _,_,_=>false
def ib(P:Program)(f:CT->TypeId->Bool)(e:TypeId):Nat->CT->Bool
 | 0,_=>false
 | 1,t=>f t e&&Nat.beq (P.cellsOf e) t.size
 | n+2,.pair a b=>f a e&&Nat.beq (P.cellsOf e) a.size&&ib P f e (n+1) b
 | _,_=>false
def dw(P:Program):Nat->CT->TypeId->Bool
 | 0,_,_=>false
 | n+1,t,τ=>match P.underlying τ,t with
  | some (.int k),.int k'=>c6 k k'
  | some .bool,.bool=>true
  | some .string,.str=>true
  | some (.slice e),.sl u=>dw P n u e&&Nat.beq (P.cellsOf e) u.size
  | some (.struct fs),t=>iw P (dw P n) fs.toList t 0
  | some (.array k e),t=>ib P (dw P n) e k t
  | _,_=>false
section
variable {H:Type} {enc:TypeId×Value->H} {P:Program} {w:World} {base:Nat} {held:Bool}
theorem iL{A:Nat->Prop}{t:CT}{cs:List Value}{o sz:Nat}{d:t.D}(hs:sz=t.size)(h:Rd A w t (fun j=>((cs.drop o).take sz)[j]?) 0 d):Rd A w t (fun j=>cs[j]?) o d:=by
 have:=jK h o
 rw[Nat.zero_add] at this
 refine bR (fun _ h=>h) (fun _ _ _=>rfl) t _ _ _ _ (fun j hj=>?_) this
 simp only[List.getElem?_take,Nat.add_sub_cancel_left]
 rw[if_pos (by omega),List.getElem?_drop]
theorem vf{A:Nat->Prop}{f:CT->TypeId->Bool}{cs:List Value}{n:Nat}
  (hf:∀ t τ cs x,f t τ=true->DataW.trod enc P w base (fun _=>true) held n τ cs=some x→∃ d,Rd A w t (fun j=>cs[j]?) 0 d) :
  ∀(fs:List Field)(t:CT)(o:Nat),iw P f fs t o=true->(∀ fd∈fs,∃ x,DataW.trod enc P w base (fun _=>true) held n fd.type ((cs.drop fd.offset).take (P.cellsOf fd.type))=some x)→∃ d,Rd A w t (fun j=>cs[j]?) o d
 | [],t,o,h,_=>by cases h
 | [fd],t,o,h,hx=>by
  simp only[iw,Bool.and_eq_true] at h
  obtain⟨⟨h1,h2⟩,h3⟩:=h
  have h2:=Nat.eq_of_beq_eq_true h2
  have h3:=Nat.eq_of_beq_eq_true h3
  obtain⟨x,hx⟩:=hx fd (by simp)
  obtain⟨d,hd⟩:=hf t fd.type _ x h1 hx
  rw[h2] at hd
  exact⟨d,iL h3 hd⟩
 | fd::g::r,.pair a b,o,h,hx=>by
  simp only[iw,Bool.and_eq_true] at h
  obtain⟨⟨⟨h1,h2⟩,h3⟩,h4⟩:=h
  have h2:=Nat.eq_of_beq_eq_true h2
  have h3:=Nat.eq_of_beq_eq_true h3
  obtain⟨x,hx1⟩:=hx fd (by simp)
  obtain⟨d,hd⟩:=hf a fd.type _ x h1 hx1
  rw[h2] at hd
  obtain⟨d',hd'⟩:=vf hf (g::r) b (o+a.size) h4 (fun fd' hm=>hx fd' (List.mem_cons_of_mem _ hm))
  exact⟨(d,d'),iL h3 hd,hd'⟩
 | _::_::_,.int _,_,h,_=>by cases h
 | _::_::_,.bool,_,h,_=>by cases h
 | _::_::_,.str,_,h,_=>by cases h
 | _::_::_,.sl _,_,h,_=>by cases h
theorem vq{A:Nat->Prop}{f:CT->TypeId->Bool}{cs:List Value}{n:Nat}{e:TypeId}
  (hf:∀ t τ cs x,f t τ=true->DataW.trod enc P w base (fun _=>true) held n τ cs=some x→∃ d,Rd A w t (fun j=>cs[j]?) 0 d) :
  ∀(k:Nat)(t:CT)(i:Nat),ib P f e k t=true->(∀ j,i<=j->j<i+k→∃ x,DataW.trod enc P w base (fun _=>true) held n e ((cs.drop (j*P.cellsOf e)).take (P.cellsOf e))=some x)→∃ d,Rd A w t (fun j=>cs[j]?) (i*P.cellsOf e) d
 | 0,t,i,h,_=>by cases h
 | 1,t,i,h,hx=>by
  simp only[ib,Bool.and_eq_true] at h
  obtain⟨h1,h2⟩:=h
  have h2:=Nat.eq_of_beq_eq_true h2
  obtain⟨x,hx⟩:=hx i (by omega) (by omega)
  obtain⟨d,hd⟩:=hf t e _ x h1 hx
  exact⟨d,iL h2 hd⟩
 | k+2,.pair a b,i,h,hx=>by
  simp only[ib,Bool.and_eq_true] at h
  obtain⟨⟨h1,h2⟩,h4⟩:=h
  have h2:=Nat.eq_of_beq_eq_true h2
  obtain⟨x,hx1⟩:=hx i (by omega) (by omega)
  obtain⟨d,hd⟩:=hf a e _ x h1 hx1
  obtain⟨d',hd'⟩:=vq hf (k+1) b (i+1) h4 (fun j h1 h2=>hx j (by omega) (by omega))
  refine⟨(d,d'),iL h2 hd,?_⟩
  rw[Nat.add_mul,Nat.one_mul] at hd'
  rw[← h2];exact hd'
 | _+2,.int _,_,h,_=>by cases h
 | _+2,.bool,_,h,_=>by cases h
 | _+2,.str,_,h,_=>by cases h
 | _+2,.sl _,_,h,_=>by cases h
theorem D6{α:Type}(n:Nat)(p:Nat->α->Prop)(h:∀ i,i<n→∃ a,p i a):∃ l:List α,l.length=n∧∀ i (hi:i<l.length),p i l[i]:=by
 induction n with
 | zero=>exact⟨[],rfl,fun i hi=>by simp at hi⟩
 | succ n ih =>
  obtain⟨l,hl,hp⟩:=ih fun i hi=>h i (by omega)
  obtain⟨a,ha⟩:=h n (by omega)
  refine⟨l++[a],by simp[hl],fun i hi=>?_⟩
  by_cases hlt:i<l.length
  ·rw[List.getElem_append_left hlt];exact hp i hlt
  ·have:i=l.length:=by simp at hi;omega
   subst this
   simp only[List.getElem_concat_length]
   rw[hl];exact ha
theorem wN(b off n:Nat):(⟨b,off,none⟩:Addr).add n=⟨b,off+n,none⟩:=by
 unfold Addr.add
 split
 ·rename_i h;subst h;rfl
 ·rfl
theorem uk{k:IntKind}{n:Int}(h:(Lit.int k n).wf=true):k.has n:=by
 simp only[Lit.wf,Bool.and_eq_true,decide_eq_true_eq] at h;exact h
theorem oQ:∀(n:Nat)(t:CT)(τ:TypeId)(fuel:Nat)(cs:List Value)(x:DataW H×List MemPlace),dw P n t τ=true->DataW.trod enc P w base (fun _=>true) held fuel τ cs=some x →
  ∃ d,Rd (fun b=>b<w.heap.size) w t (fun j=>cs[j]?) 0 d
 | 0,t,τ,fuel,cs,x,h,_=>by cases h
 | n+1,t,τ,fuel,cs,x,h,hx=>by
  unfold dw at h
  split at h
  ·rename_i k k' hu
   cases dk h
   obtain⟨m,rfl,_,hw⟩:=DataW.trod_int hu hx
   exact⟨m,by simp,uk hw⟩
  ·rename_i hu
   obtain⟨b,rfl,_⟩:=DataW.trod_bool hu hx
   exact⟨b,by simp[Rd]⟩
  ·rename_i hu
   obtain⟨s,rfl,_,hs⟩:=DataW.trod_string hu hx
   exact⟨s,by simp,hs⟩
  ·rename_i e u hu
   simp only[Bool.and_eq_true] at h
   obtain⟨h1,h2⟩:=h
   have h2:=Nat.eq_of_beq_eq_true h2
   rcases DataW.trod_slice hu hx with⟨rfl,_⟩|⟨a,len,cap,elems,rest,m,_,rfl,_,_,hl,hm,hlen,hel,hsp,_⟩
   ·exact⟨[],gf.2 ⟨_,rfl,by simp,.inl ⟨⟨_,rfl⟩,rfl⟩⟩⟩
   ·have hcap:=(hsp rfl)
    by_cases h0:cap=0
    ·have:len=0:=by omega
     subst this h0
     exact⟨[],gf.2 ⟨_,rfl,by simp,.inl ⟨⟨_,rfl⟩,rfl⟩⟩⟩
    ·-- the cells that are there
     have first:∃ v,w.cell? a=some v:=by
      have hb:∃ cs',w.cells? base (a.add 0) (P.cellsOf e)=some cs':=by
       by_cases hl0:0<len
       ·have:=hel 0 hl0
        rw[Nat.zero_mul] at this
        have hs:∃ y,elems[0]? = some y:=⟨_,List.getElem?_eq_getElem (by omega)⟩
        obtain⟨y,hy⟩:=hs
        rw[hy,Option.bind_eq_some_iff] at this
        obtain⟨cs',hcs,_⟩:=this
        exact⟨cs',hcs⟩
       ·have:=hcap.2 0 (by omega)
        have hz:(len+0)*P.cellsOf e=0:=by
         have:len=0:=by omega
         subst this;simp
        rw[hz] at this
        have hs:∃ y,rest[0]? = some y:=⟨_,List.getElem?_eq_getElem (by omega)⟩
        obtain⟨y,hy⟩:=hs
        rw[hy,Option.bind_eq_some_iff] at this
        obtain⟨cs',hcs,_⟩:=this
        exact⟨cs',hcs⟩
      obtain⟨cs',hcs⟩:=hb
      obtain⟨_,hl1,hl2⟩:=World.cells?_some hcs
      have hp:=u.size_pos
      have:=hl2 0 (by omega)
      refine⟨cs'[0]'(by omega),?_⟩
      rw[List.getElem?_eq_getElem (by omega)] at this
      simpa[Addr.add] using this
     obtain⟨v0,hv0⟩:=first
     have hspot:=World.cell?_spot hv0
     obtain⟨b,off,spot⟩:=a
     simp only at hspot
     subst hspot
     have hlt:b<w.heap.size:=by
      unfold World.cell? at hv0
      simp only at hv0
      split at hv0
      ·rename_i c E sp hb
       exact (Array.getElem?_eq_some_iff.1 hb).1
      ·cases hv0
     obtain⟨xs,hxl,hxp⟩:=D6 len (fun i d=>Rd (fun b=>b<w.heap.size) w u (fun o=>w.cell? ⟨b,o,none⟩) (off+i*u.size) d) fun i hi=>by
      have:=hel i hi
      rw[List.getElem?_eq_getElem (by omega),Option.bind_eq_some_iff] at this
      obtain⟨cs',hcs,ht⟩:=this
      obtain⟨_,hl1,hl2⟩:=World.cells?_some hcs
      obtain⟨d,hd⟩:=oQ n u e _ cs' _ h1 ht
      refine⟨d,?_⟩
      have:=jK hd (off+i*u.size)
      rw[Nat.zero_add] at this
      refine bR (fun _ h=>h) (fun _ _ _=>rfl) u _ _ _ _ (fun j hj=>?_) this
      have:=hl2 j (by omega)
      rw[wN,wN,h2] at this
      rw[Nat.add_sub_cancel_left,← this]
     subst hxl
     exact⟨xs,gf.2 ⟨_,rfl,by omega,.inr ⟨b,off,cap,rfl,hl,hm,hlt,fun i hi=>hxp i hi⟩⟩⟩
  ·rename_i t' fs hu
   obtain⟨xs,m,_,_,hl,hlen,hf⟩:=DataW.trod_struct hu hx
   refine vf (n:=m) (fun t τ cs x h1 h2=>oQ n t τ m cs x h1 h2) fs.toList _ 0 h fun fd hm=>?_
   obtain⟨i,hi,rfl⟩:=List.mem_iff_getElem.1 hm
   have:=hf i fs[i] (Array.getElem?_eq_getElem (by simpa using hi))
   have hi':i<fs.size:=by simpa using hi
   rw[List.getElem?_eq_getElem (by omega)] at this
   exact⟨_,by simpa using this⟩
  ·rename_i t' k e hu
   obtain⟨xs,m,_,_,hl,hlen,hf⟩:=DataW.trod_array hu hx
   have:=vq (n:=m) (cs:=cs) (e:=e) (fun t τ cs x h1 h2=>oQ n t τ m cs x h1 h2) k _ 0 h fun j _ hj=>by
    have:=hf j (by omega)
    rw[List.getElem?_eq_getElem (by omega)] at this
    exact⟨_,this⟩
   simpa using this
  ·cases h
abbrev fh:=List (Bool×CT)
def cM:fh->List PK
 | []=>[]
 | (true,t)::r => .agg t::cM r
 | (false,t)::r => .val t::cM r
def kf:(l:fh)->bH (cM l)
 | []=>()
 | (true,_)::r=>kf r
 | (false,_)::r=>kf r
def lu(l:fh):Ct:=⟨cM l,[.val .bool],fun _=>[],fun _=>((true,()),kf l)⟩
def gG(P:Program)(τ:TypeId):Bool:=match P.underlying τ with
 | some (.struct _)=>true
 | some (.array _ _)=>true
 | _=>false
def nN:CT->Bool
 | .pair _ _=>false
 | _=>true
def my(P:Program):fh->List TypeId->Bool
 | [],[]=>true
 | (b,t)::r,τ::τs=>(match b,gG P τ with|true,true=>true|false,false=>nN t|_,_=>false)&&dw P 12 t τ&&Nat.beq (P.cellsOf τ) t.size&&my P r τs
 | _,_=>false
theorem A0{r:Reach}{b0:Nat}{τ:TypeId}{v:Value}(h:gG P τ=true)(hv:Value.okWide P w r b0 τ v):∃ vs,v = .agg vs/\vs.size=P.cellsOf τ:=by
 unfold gG at h
 unfold Value.okWide at hv
 split at h
 ·rename_i fs hu;rw[hu] at hv;obtain⟨cs,h1,h2,_⟩:=hv;exact⟨cs,h1,h2⟩
 ·rename_i fs hu;rw[hu] at hv;obtain⟨cs,h1,h2,_⟩:=hv;exact⟨cs,h1,h2⟩
 ·cases h
theorem DQ{r:Reach}{b0:Nat}{τ:TypeId}{v:Value}(ht:P.underlying τ=some .bool)(h:Value.okWide P w r b0 τ v):∃ b,v = .bool b:=by
 simp only[Value.okWide,ht,Cell.okWide] at h
 cases v <;> simp_all[Cell.ok]
theorem DH{r:Reach}{b0:Nat}{n:Nat}{t:CT}{τ:TypeId}{v:Value}(hf:nN t=true)(hq:gG P τ=false)(h:dw P n t τ=true)(hv:Value.okWide P w r b0 τ v):v.cells = #[v]:=by
 cases n with
 | zero=>cases h
 | succ n =>
  unfold dw at h
  split at h
  ·rename_i k k' hu;obtain⟨m,rfl⟩:=okWide_int hu hv;rfl
  ·rename_i hu;obtain⟨m,rfl⟩:=DQ hu hv;rfl
  ·rename_i hu;obtain⟨m,rfl⟩:=okWide_string hu hv;rfl
  ·rename_i e u hu;obtain⟨a,l,c,rfl⟩:=okWide_slice hu hv;rfl
  ·rename_i t' fs hu;unfold gG at hq;rw[hu] at hq;cases hq
  ·rename_i t' k e hu;unfold gG at hq;rw[hu] at hq;cases hq
  ·cases h
theorem yN(k:IntKind):c6 k k=true:=by cases k <;> rfl
theorem Dz{t:CT}{xs:List t.D}:bQ t t xs=some xs:=by unfold bQ;rw[dif_pos rfl]
theorem nY{h:aI}:∀(t:CT)(d:t.D)(rest:List SV),(cC t (bu t d++rest)).run h=some ((d,rest,[]),[])
 | .int k,d,rest=>by simp only[bu,List.cons_append,List.nil_append,cC,yN];rfl
 | .bool,d,rest=>rfl
 | .str,d,rest=>rfl
 | .sl t,d,rest=>by simp only[bu,List.cons_append,List.nil_append,cC,Dz];rfl
 | .pair a b,d,rest=>by
  have bindrun:∀{α β:Type}(q:Q α)(f:α->Q β)(x:α)(y:β),q.run h=some (x,[])->(f x).run h=some (y,[])->(q.bind f).run h=some (y,[]):=by
   intro α β q
   induction q with
   | ret a=>intro f x y h1 h2;simp only[Q.run,Option.some.injEq,Prod.mk.injEq] at h1;rw[← h1.1] at h2;exact h2
   | ask n k ih =>
    intro f x y h1 h2
    simp only[Q.run] at h1
    split at h1
    ·simp only[Option.some.injEq,Prod.mk.injEq] at h1
     exact absurd h1.2 (by simp)
    ·cases h1
   | fail=>intro f x y h1 h2;cases h1
  simp only[bu,List.append_assoc,cC]
  refine bindrun _ _ _ _ (nY a d.1 (bu b d.2++rest)) ?_
  exact bindrun _ _ _ _ (nY b d.2 rest) rfl
theorem Q.bind_run0{h:aI}{α:Type u}{β:Type v}(q:Q α)(f:α->Q β)(x:α)(y:β)(h1:q.run h=some (x,[]))(h2:(f x).run h=some (y,[])):(q.bind f).run h=some (y,[]):=by
 cases q with
 | ret a=>simp only[Q.run,Option.some.injEq,Prod.mk.injEq] at h1;rw[← h1.1] at h2;exact h2
 | ask n k =>
  simp only[Q.run] at h1
  split at h1
  ·simp only[Option.some.injEq,Prod.mk.injEq] at h1
   exact absurd h1.2 (by simp)
  ·cases h1
 | fail=>cases h1
theorem Ag{t:CT}(hf:nN t=true)(d:t.D):bu t d=[kJ t d]:=by
 cases t <;> first|rfl|cases hf
def jt:fh->Bool
 | []=>true
 | (b,t)::r=>(b||nN t)&&jt r
theorem qf{h:aI}:∀(l:fh)(d:aC (cM l)),jt l=true->(bN none (cM l) (bY (cM l) d 0 0)).run h=some ((d,[],[],[]),[])
 | [],d,_=>rfl
 | (true,t)::r,d,hok=>by
  simp only[jt,Bool.and_eq_true] at hok
  simp only[cM,bY,bN]
  refine Q.bind_run0 _ _ _ _ (by have:=nY (h:=h) t d.1 [];rw[List.append_nil] at this;exact this) ?_
  exact Q.bind_run0 _ _ _ _ (qf r d.2 hok.2) rfl
 | (false,t)::r,d,hok=>by
  simp only[jt,Bool.and_eq_true,Bool.false_or] at hok
  simp only[cM,bY,bN]
  refine Q.bind_run0 _ _ _ _ (by have:=nY (h:=h) t d.1 [];rw[List.append_nil,Ag hok.1] at this;exact this) ?_
  exact Q.bind_run0 _ _ _ _ (qf r d.2 hok.2) rfl
theorem wu{r:Reach}{b0:Nat}:∀(l:fh)(τs:List TypeId)(vs:List Value)(ds:List (DataW H))(ps:List MemPlace),my P l τs=true->DataW.TrodAll enc P w base (fun _=>true) held τs vs ds ps →
  (∀(j:Nat) t v,τs[j]? = some t->vs[j]? = some v->Value.okWide P w r b0 t v)->jt l=true∧∃ d:aC (cM l),ac (fun b=>b<w.heap.size) (fun _=>.un) w (bY (cM l) d 0 0) vs
 | [],[],vs,ds,ps,h,ht,hv=>by
  obtain⟨rfl,_,_⟩:=trodAll_nil ht
  exact⟨rfl,(),by simp[cM,bY,ac]⟩
 | (b,t)::l,τ::τs,vs,ds,ps,h,ht,hv=>by
  obtain⟨v,vs',d,ds',p,q,rfl,rfl,rfl,h0,hr⟩:=trodAll_cons ht
  simp only[my,Bool.and_eq_true] at h
  obtain⟨⟨⟨h1,h2⟩,h3⟩,h4⟩:=h
  have h3:=Nat.eq_of_beq_eq_true h3
  obtain⟨g1,d2,g2⟩:=wu l τs vs' ds' q h4 hr (fun j t v ht hv'=>hv (j+1) t v (by simpa using ht) (by simpa using hv'))
  have hv0:=hv 0 τ v rfl rfl
  obtain⟨fuel,hf⟩:=h0
  obtain⟨d1,hd1⟩:=oQ 12 t τ fuel _ _ h2 hf
  cases b with
  | true =>
   have hag:gG P τ=true:=by
    cases hq:gG P τ with
    | true=>rfl
    | false=>rw[hq] at h1;cases h1
   obtain⟨us,rfl,hus⟩:=A0 hag hv0
   refine⟨by simp[jt,g1],(d1,d2),?_⟩
   simp only[cM,bY,ac,aa]
   refine⟨_,vs',rfl,⟨us,rfl,nw (by simpa using hus.trans h3) (by simpa[Value.cells] using hd1)⟩,g2⟩
  | false =>
   have hq:gG P τ=false:=by
    cases hq:gG P τ with
    | true=>rw[hq] at h1;cases h1
    | false=>rfl
   rw[hq] at h1
   simp only at h1
   refine⟨by simp[jt,g1,h1],(d1,d2),?_⟩
   simp only[cM,bY,ac]
   have hc:=DH h1 hq h2 hv0
   rw[hc] at hd1
   exact⟨v,vs',rfl,qt (rest:=[]) (by simpa using hd1),g2⟩
 | [],_::_,_,_,_,h,_,_=>by cases h
 | _::_,[],_,_,_,h,_,_=>by cases h
def GlobsOK(w:World)(G:gm):Prop:=∀ g x,G g=some x->g<w.heap.size/\Rd (fun b=>b<w.heap.size) w x.1 (fun o=>w.cell? ⟨g,o,none⟩) 0 x.2
theorem law_walkG{G:gm}(hG:GlobsOK w G){f:FuncId}{l:fh}(ok:aG P G f (lu l).spec){r:Reach}{b0:Nat}{τs:List TypeId}{args:Array Value}{ds:List (DataW H)}{ps:List MemPlace}(hl:my P l τs=true)
  (ht:DataW.TrodAll enc P w base (fun _=>true) held τs args.toList ds ps) (hv:∀(j:Nat) t v,τs.toArray[j]? = some t->args[j]? = some v->Value.okWide P w r b0 t v) :
  Calls P f args w fun e w'=>e = .returned (.bool true)/\Below w.heap.size w w':=by
 obtain⟨hok,d,hd⟩:=wu l τs args.toList ds ps hl ht (fun j t v h1 h2=>hv j t v (by simpa using h1) (by simpa using h2))
 have hkeep:jQ (cM l) [.val .bool]=false:=by
  have:∀ l:fh,dB (cM l)=true:=by
   intro l
   induction l with
   | nil=>rfl
   | cons x l ih=>obtain⟨b,t⟩:=x;cases b <;> exact ih
  simp only[jQ,this,f9,CT.plain,Bool.and_self,Bool.not_true]
 have hbU:∀ nb,bI 0 (cM l) (kf l) [] nb=[]:=by
  intro nb
  induction l with
  | nil=>rfl
  | cons x l ih =>
   obtain⟨b,t⟩:=x
   have:∀ l:fh,bI 0 (cM l) (kf l) [] nb=[]:=by
    intro l
    induction l with
    | nil=>rfl
    | cons x l ih=>obtain⟨b,t⟩:=x;cases b <;> exact ih
   cases b <;> exact this l
 have hnU:∀(l:fh) nb,bW (cM l) (kf l) nb=[]:=by
  intro l nb
  induction l with
  | nil=>rfl
  | cons x l ih=>obtain⟨b,t⟩:=x;cases b <;> exact ih
 have hnB:∀(l:fh),cy (cM l)=0:=by
  intro l
  induction l with
  | nil=>rfl
  | cons x l ih=>obtain⟨b,t⟩:=x;cases b <;> exact ih
 have hxI:∀(l:fh),cY (cM l)=[]:=by
  intro l
  induction l with
  | nil=>rfl
  | cons x l ih=>obtain⟨b,t⟩:=x;cases b <;> exact ih
 have hxO:kV (cM l) [.val .bool]=true:=by simp only[kV,gP,hxI];rfl
 have hrun:((lu l).spec 0 (bY (cM l) d 0 0)).run (fun _=>.un)=some (Dl.det [] (.bool true) [],[]):=by
  unfold Ct.spec
  refine Q.bind_run0 _ _ _ _ (qf l d hok) ?_
  simp only[kS,hxO,cj,List.append_nil,kG,md,lu,gI,hkeep,hbU,hnU,hnB,eV,c5,cE,fT,kJ,bu,bG,fM,List.headD_nil]
  rfl
 have m:aw w ⟨fun _=>False,fun b=>b<w.heap.size,G⟩ (fun b=>b<w.heap.size) (fun _=>.un) (fun _=>.un) w :=
  ⟨rfl,rfl,rfl,Nat.le_refl _,fun _ _ _=>rfl,fun _ h=>h,fun _=>rfl,fun _ _ _ _ h=>(by cases h),fun _ _ _ _ _ _ _ h=>(by cases h),fun b hb=>.inl hb,hG⟩
 have:=ok 0 (bY (cM l) d 0 0) (fun _=>.un) _ _ hrun trivial w _ _ _ w args.toList rfl m hd
 refine Calls.mono this ?_
 rintro e w' ⟨v,rfl,x,A',env',_,hm,_,hden⟩
 simp only[Dl.val,aa] at hden
 exact⟨by rw[hden],hm.os,hm.tape,hm.output,hm.size,fun k hk=>hm.fr k hk (fun h=>h)⟩
theorem law_walk{f:FuncId}{l:fh}(ok:aG P (fun _=>none) f (lu l).spec){r:Reach}{b0:Nat}{τs:List TypeId}{args:Array Value}{ds:List (DataW H)}{ps:List MemPlace}(hl:my P l τs=true)
  (ht:DataW.TrodAll enc P w base (fun _=>true) held τs args.toList ds ps) (hv:∀(j:Nat) t v,τs.toArray[j]? = some t->args[j]? = some v->Value.okWide P w r b0 t v) :
  Calls P f args w fun e w'=>e = .returned (.bool true)/\Below w.heap.size w w':=law_walkG (fun g x h=>by cases h) ok hl ht hv
def pg(P:Program):List TypeId->Bool
 | []=>true
 | t::r=>P.readableRec t&&decide (t<P.types.size)&&pg P r
theorem trodAll_below(hl:laidOutB P=true):∀{τs:List TypeId}{vs:List Value}{ds:List (DataW H)}{ps:List MemPlace}{w':World},pg P τs=true →
  DataW.TrodAll enc P w 0 (fun _=>true) true τs vs ds ps->Below w.heap.size w w'→DataW.TrodAll enc P w' 0 (fun b=>decide (b<w.heap.size)) true τs vs ds ps
 | [],vs,ds,ps,w',_,h,hb=>by
  obtain⟨rfl,rfl,rfl⟩:=trodAll_nil h
  exact trodAll_mk0
 | τ::τs,vs,ds,ps,w',hr,h,hb=>by
  obtain⟨v,vs',d,ds',p,q,rfl,rfl,rfl,h0,hr'⟩:=trodAll_cons h
  simp only[pg,Bool.and_eq_true,decide_eq_true_eq] at hr
  have lt:∀ x∈p,x.block<w.heap.size:=by
   obtain⟨m,hm⟩:=h0
   exact DataW.trod_lt m _ _ _ hm
  exact trodAll_cons_mk (Below.trod hl hr.1.1 hr.1.2 h0 hb lt) (trodAll_below hl hr.2 hr' hb)
end
end Go.SX

/- SX, part 24: what is to be shown of a function, under one name. -/
namespace Go.SX
set_option linter.unusedVariables false
def jf(fn:Func):Code:=match fn.body with
 | some c=>c
 | none => .skip
def Ct.vc(P:Program)(sp:bc)(c:Ct)(fn:Func)(an:aC c.ps->aN):Prop :=
 jV c.ps fun d=>jA c.ps d->fl (c.pre d)->g8 (jU c.ps d fn.ntmps) (sx P sp (an d) (jf fn) (ld P c.ps c.rs fn.results.toList fun y=>fl (jL c.rs y.1 (c.out d).1++fq c.ps y.2 (c.out d).2)))
structure nP (p:Prop):Prop where
 out:p
theorem aQ{p q:Prop}(h:p=q)(v:q):nP p:=⟨Eq.mpr h v⟩
theorem Ct.okH{P:Program}{sp:bc}(c:Ct){f:FuncId}{fn:Func}(hf:P.funcs[f]? = some fn)(hb:fn.body=some (jf fn))(hs:ca P sp)(aD:P.follows .mixedOrders=true)(an:aC c.ps->aN)
  (vc:nP (Ct.vc P sp c fn an)):aG P sp.gl f c.spec:=c.ok hf hb hs aD an vc.out
def Cn.vc(P:Program)(sp:bc)(c:Cn)(fn:Func)(an:aC c.ps->aN):Prop :=
 jV c.ps fun d=>jA c.ps d->fl (c.pre d)->g8 (jU c.ps d fn.ntmps) (sx P sp (an d) (jf fn) (ld P c.ps c.rs fn.results.toList (c.post d)))
theorem Cn.okH{P:Program}{sp:bc}(c:Cn){f:FuncId}{fn:Func}(hf:P.funcs[f]? = some fn)(hb:fn.body=some (jf fn))(hs:ca P sp)(aD:P.follows .mixedOrders=true)(an:aC c.ps->aN)
  (vc:nP (Cn.vc P sp c fn an)):aG P sp.gl f c.spec:=c.ok hf hb hs aD an vc.out
def zA(G:gm):bc:=⟨fun _=>none,G⟩
theorem aP{P:Program}{G:gm}:ca P (zA G):=fun f s h=>by cases h
def kX(sp:bc)(f:FuncId)(s:Spec):bc:=⟨fun g=>match Nat.beq g f with
 | true=>some s
 | false=>sp.fn g,sp.gl⟩
theorem ay{P:Program}{sp:bc}{f:FuncId}{s:Spec}(h:ca P sp)(hs:aG P sp.gl f s):ca P (kX sp f s):=fun g t e=>by
 unfold kX at e
 simp only at e
 split at e
 ·rename_i hb;cases e;rw[Nat.eq_of_beq_eq_true hb];exact hs
 ·exact h g t e
def lD{α:Type _}:Q α->Q α->Q α
 | .ret a,_ => .ret a
 | .ask n k,t => .ask n fun x=>lD (k x) t
 | .fail,t=>t
theorem tC{α:Type _}{h:aI}:∀{q t:Q α}{d:α}{r:List Nat},(lD q t).run h=some (d,r)->(∃ r,q.run h=some (d,r))∨∃ r,t.run h=some (d,r)
 | .ret a,t,d,r,e => .inl ⟨r,e⟩
 | .fail,t,d,r,e => .inr ⟨r,e⟩
 | .ask n k,t,d,r,e=>by
  simp only[lD,Q.run] at e
  cases hk:(lD (k (h n)) t).run h with
  | none=>rw[hk] at e;cases e
  | some p =>
   rw[hk] at e
   simp only[Option.some.injEq,Prod.mk.injEq] at e
   obtain⟨rfl,rfl⟩:=e
   rcases tC (q:=k (h n)) (d:=p.1) (r:=p.2) hk with⟨r,q⟩|q
   ·exact .inl ⟨n::r,by simp only[Q.run,q]⟩
   ·exact .inr q
def t9(sp:bc)(f:FuncId)(s:Spec):bc:=⟨fun g=>match Nat.beq g f with
 | true=>match sp.fn f with
  | some t=>some fun b l=>lD (s b l) (t b l)
  | none=>some s
 | false=>sp.fn g,sp.gl⟩
theorem uc{P:Program}{sp:bc}{f:FuncId}{s:Spec}(h:ca P sp)(hs:aG P sp.gl f s):ca P (t9 sp f s):=fun g t e=>by
 unfold t9 at e
 simp only at e
 split at e
 ·rename_i hb
  rw[Nat.eq_of_beq_eq_true hb]
  split at e
  ·rename_i t0 ht
   cases e
   intro base svs hp d r e2
   rcases tC e2 with⟨r,q⟩|⟨r,q⟩
   ·exact hs base svs hp d r q
   ·exact h f t0 ht base svs hp d r q
  ·cases e;exact hs
 ·exact h g t e
def zC(sp:bc)(d:Nat):bc:=kX sp (4000000000+d) fun _ _=>.fail
theorem v4{P:Program}{sp:bc}{d:Nat}(h:ca P sp):ca P (zC sp d):=ay h fun _ _ _ _ _ e=>by cases e
def AQ(sp:bc)(d:Nat):bc:=kX sp (4500000000+d) fun _ _=>.fail
theorem jR{P:Program}{sp:bc}{d:Nat}(h:ca P sp):ca P (AQ sp d):=ay h fun _ _ _ _ _ e=>by cases e
def EL(sp:bc)(d p off:Nat):bc:=kX sp (4600000000+d) fun _ _=>.ask p fun _=>.ask off fun _=>.fail
theorem sH{P:Program}{sp:bc}{d p off:Nat}(h:ca P sp):ca P (EL sp d p off):=ay h fun _ _ _ _ _ e=>by simp[Q.run] at e
def xX(sp:bc)(d:Nat):bc:=kX sp (4700000000+d) fun _ _=>.fail
theorem oM{P:Program}{sp:bc}{d:Nat}(h:ca P sp):ca P (xX sp d):=ay h fun _ _ _ _ _ e=>by cases e
theorem Bo{b:Bool}{y n:Prop}:ah b y n↔(b=true->y)/\(b=false->n):=by cases b <;> simp[ah]
end Go.SX

/- SX, plain lemmas for what is to be shown of functions. -/
namespace Go.SX
set_option linter.unusedVariables false
theorem ad{n:Int}(h : -9223372036854775808<=n)(h':n<=9223372036854775807):IntKind.i64.wrap n=n:=IntWalk.i64_in n ⟨h,h'⟩
theorem ce{α:Type} [Inhabited α] {xs:List α} {i:Int} (h0:0<=i) (h1:i<xs.length):xs.getD i.toNat default∈xs:=by
 have h:i.toNat<xs.length:=by omega
 rw[List.getD_eq_getElem?_getD,List.getElem?_eq_getElem h];exact List.getElem_mem h
theorem pU{a b:Int}(ha:0<=a):0<=a.tmod b:=Int.tmod_nonneg b ha
theorem po{a b:Int}(ha:0<=a)(hb:0<b):a.tmod b<b:=Int.tmod_lt_of_pos a hb
theorem aq{b:Bool}{y n:Prop}(hy:b=true->y)(hn:b=false->n):ah b y n:=Bo.2 ⟨hy,hn⟩
theorem vY(n:Int) : -9223372036854775808<=IntKind.i64.wrap n/\IntKind.i64.wrap n<=9223372036854775807:=IntKind.wrap_has .i64 n
theorem BL{α:Type} [Inhabited α] {p:α->Prop} {xs:List α} (h:∀ x∈xs,p x) {i:Int} (h0:0<=i) (h1:i<xs.length):p (xs.getD i.toNat default):=h _ (ce h0 h1)
theorem ls{p:Prop} [Decidable p] (h:(!decide p)=true):¬ p:=of_decide_eq_false (by simpa only[Bool.not_eq_true'] using h)
theorem lO{p:Prop} [Decidable p] (h:(!decide p)=false):p:=of_decide_eq_true (by simpa only[Bool.not_eq_false'] using h)
theorem lg{a b:Bool}{y n:Prop}(hy:a=true∨b=true->y)(hn:a=false->b=false->n):ah (bif a then true else b) y n:=by
 cases a with
 | true=>exact hy (.inl rfl)
 | false=>cases b with
  | true=>exact hy (.inr rfl)
  | false=>exact hn rfl rfl
theorem iA{a b:Bool}{y n:Prop}(hy:a=true->b=true->y)(hn:a=false∨b=false->n):ah (bif a then b else false) y n:=by
 cases a with
 | false=>exact hn (.inl rfl)
 | true=>cases b with
  | true=>exact hy rfl rfl
  | false=>exact hn (.inr rfl)
theorem th{α:Type} [Inhabited α] {l:List α} {i:Nat} {a:α} (h:i<l.length):(l.set i a).getD i default=a:=by
 rw[List.getD_eq_getElem?_getD,List.getElem?_set_self h];rfl
theorem rg{α:Type} [Inhabited α] {q:α->Bool} {l:List α} {j:Int} (h0:0<=j) (h1:j<l.length) (h2:∀ x∈l.take j.toNat,q x=false) (h3:q (l.getD j.toNat default)=true) :
  j=if l.findIdx q<l.length then (l.findIdx q:Int) else -1:=by
 have hj:j.toNat<l.length:=by omega
 rw[List.getD_eq_getElem?_getD,List.getElem?_eq_getElem hj,Option.getD_some] at h3
 have e:l.findIdx q=j.toNat:=(List.findIdx_eq hj).2 ⟨h3,fun k hk=>h2 _ (List.mem_take_iff_getElem.2 ⟨k,by omega,rfl⟩)⟩
 rw[e,if_pos hj];omega
theorem qD{α:Type} [Inhabited α] {q:α->Bool} {l:List α} {j:Int} (h1:¬ j<l.length) (h2:∀ x∈l.take j.toNat,q x=false) :
  (-1:Int)=if l.findIdx q<l.length then (l.findIdx q:Int) else -1:=by
 rw[List.take_of_length_le (by omega)] at h2
 rw[List.findIdx_eq_length_of_false h2,if_neg (Nat.lt_irrefl _)]
theorem lJ{α:Type} [Inhabited α] {P:α->Prop} {l:List α} {j:Int} (h0:0<=j) (h1:j<l.length) (h2:∀ x∈l.take j.toNat,P x) (h3:P (l.getD j.toNat default)) :
  ∀ x∈l.take (j+1).toNat,P x:=by
 intro x hx
 have hj:j.toNat<l.length:=by omega
 rw[show (j+1).toNat=j.toNat+1 by omega,List.take_add_one,List.getElem?_eq_getElem hj] at hx
 rw[List.getD_eq_getElem?_getD,List.getElem?_eq_getElem hj,Option.getD_some] at h3
 rcases List.mem_append.1 hx with hx|hx
 ·exact h2 x hx
 ·simp at hx;rw[hx];exact h3
theorem dK{α:Type} [Inhabited α] {l:List α} {k:Int} (h0:0<=k) (h1:k<l.length):l.take (k+1).toNat=l.take k.toNat++[l.getD k.toNat default]:=by
 have e:(k+1).toNat=k.toNat+1:=by omega
 have hk:k.toNat<l.length:=by omega
 rw[e,List.take_add_one,List.getElem?_eq_getElem hk,List.getD_eq_getElem?_getD,List.getElem?_eq_getElem hk]
 rfl
theorem Ai{a b:Prop} [Decidable a] [Decidable b]:(bif decide a then true else decide b)=decide (a∨b):=by by_cases h:a <;> simp[h]
theorem om{a b:Prop} [Decidable a] [Decidable b]:(bif decide a then decide b else false)=decide (a/\b):=by by_cases h:a <;> simp[h]
end Go.SX

/- Base: data types of the program's values. -/
namespace Go.RS
open Go.SX Go.Proofs
set_option maxRecDepth 100000
set_option linter.unusedVariables false
abbrev ao(x:Int):Prop := -9223372036854775808<=x/\x<=9223372036854775807
abbrev iU:CT := .pair (.pair (.int .u32) (.int .i64)) (.int .i64)
abbrev cBlocks:CT := .pair iU (.pair iU (.pair iU (.pair iU (.pair iU (.pair iU (.pair iU iU))))))
def blocksV:cBlocks.D:=(((0,8),1),((2130706432,8),2),((167772160,8),3),((2886729728,12),3),((3232235520,16),3),((2851995648,16),4),((3758096384,4),5),((4026531840,4),6))
def GL:gm:=(fun _=>none)
theorem aD:Try.prog.follows .mixedOrders=true:=Try.checked.mixed
abbrev cI:CT := .int .i64
abbrev aV:CT := .int .u8
abbrev gh:CT := .pair (.sl aV) cI
def ar(c:List Int×Int):Prop:=0<=c.2/\c.2<=c.1.length
end Go.RS

/- Draw: the choices of a law, with loose contracts: a number in its range. -/
namespace Go.RS
open Go.SX Go.Proofs
set_option maxRecDepth 100000
set_option linter.unusedVariables false
def s9:Ct:=⟨[.val (.sl aV),.val cI],[.box 58 gh],fun d=>[0<=d.2.1],fun d=>(((if (d.1.length:Int)<=d.2.1 then d.1 else d.1.take d.2.1.toNat,0),()),())⟩
def B6:aC s9.ps->aN:=(fun _=>{})
theorem DN :
 ∀(a:List Int)(b:Int),(a.length<=maxLen/\ ∀(c:Int),c∈a->0<=c/\c<=255)/\ao b/\True->0<=b->ah (decide (b< ↑a.length)) ((0:Int)<=0/\0<=b/\b<= ↑a.length/\(bf a (Int.toNat (0:Int)) b.toNat,(0:Int))=(if↑a.length<=b then a else List.take b.toNat a,(0:Int))) ((a,(0:Int))=(if↑a.length<=b then a else List.take b.toNat a,(0:Int))):=by
  rintro x y ⟨-,⟨h0,h1⟩,-⟩ h
  refine aq (fun hb=>?_) (fun hb=>?_)
  ·have hb:=of_decide_eq_true hb
   refine⟨by omega,h,by omega,?_⟩
   rw[if_neg (by omega)]
   simp[bf]
  ·have hb:=of_decide_eq_false hb
   rw[if_pos (by omega)]
theorem AG:aG Try.prog GL 10 s9.spec:=Ct.okH _ Try.func10 (by kernel_rfl) aP aD B6 (aQ (by kernel_rfl) DN)
def sj:Cn:=⟨[.box 58 gh,.val cI],[.val cI],fun d=>[ar d.1,d.2.1<=256],fun d y=>0<=y.1.1/\(y.1.1<d.2.1∨y.1.1=0)/\ar y.2.1,fun d h=>⟨((0,()),(d.1,())),by simp,by simp,h.1⟩⟩
def zc:aC sj.ps->aN:=(fun _=>{})
def oJ(a:List Int)(b c:Int) :=
 c≠(0:Int)/\0<=Int.tmod (IntKind.wrap .i64 (a.getD b.toNat default)) c/\(Int.tmod (IntKind.wrap .i64 (a.getD b.toNat default)) c<c∨Int.tmod (IntKind.wrap .i64 (a.getD b.toNat default)) c=0)/\ar (a,IntKind.wrap .i64 (b+(1:Int)))
theorem CL :
 ∀(a:List Int)(b c:Int),((a.length<=maxLen/\ ∀(d:Int),d∈a->0<=d/\d<=255)/\ao b)/\ao c/\True->ar (a,b)/\c<=256-> ∀(d:Bool),d=decide (a.length<=b)->((! d)->((! d)->(! d))/\True)/\(d=false->(! d))/\ah (bif d then true else decide (c<1)) ((0:Int)<=0/\(0<c∨(0:Int)=0)/\ar (a,b)) (0<=b/\b< ↑a.length/\ah (decide (256<c)) False (oJ a b c)):=by
  delta oJ
  rintro l p n ⟨⟨⟨hl,hw⟩,h0,h1⟩,⟨h2,h3⟩,-⟩⟨⟨hc1,hc2⟩,hn⟩
  simp only[maxLen] at hl hc1 hc2
  (repeat (intro (b_:Bool) (hb_:b_=_);(repeat refine⟨(by first|(simp;done)|(rw[hb_];simp;done)|(rw[hb_];simp;omega)|(rw[hb_];simp;intros;omega)|(rw[hb_];simp +contextual;done)),?_⟩);subst hb_))
  refine aq (fun hb=>?_) (fun hb=>?_)
  ·exact⟨by omega,by simp,hc1,hc2⟩
  ·simp at hb
   obtain⟨hb1,hb2⟩:=hb
   obtain⟨hm0,hm1⟩:=hw _ (ce hc1 hb1)
   rw[ad (by omega) (by omega),ad (by omega) (by omega)]
   refine⟨hc1,hb1,aq (fun hb=>?_) (fun hb=>?_)⟩
   ·have:=of_decide_eq_true hb;omega
   ·exact⟨by omega,pU hm0,.inl (po hm0 (by omega)),by simp only[ar];omega⟩
theorem C9:aG Try.prog GL 17 sj.spec:=Cn.okH _ Try.func17 (by kernel_rfl) aP aD zc (aQ (by kernel_rfl) CL)
def uD:Cn:=⟨[.box 58 gh,.val cI],[.val cI],fun d=>[ar d.1],fun d y=>0<=y.1.1/\(y.1.1<d.2.1∨y.1.1=0)/\ar y.2.1,fun d h=>⟨((0,()),(d.1,())),by simp,by simp,h.1⟩⟩
def xN:aC uD.ps->aN:=(fun _=>{})
def mV(a:List Int)(b e:Int) :=
 IntKind.wrap .i64 (IntKind.wrap .i64 ((256:Int)*IntKind.wrap .i64 (a.getD b.toNat default))+e)
theorem BF :
 ∀(a:List Int)(b c:Int),((a.length<=maxLen/\ ∀(d:Int),d∈a->0<=d/\d<=255)/\ao b)/\ao c/\True->0<=b/\b<= ↑a.length-> ∀(d:Bool),d=decide (a.length<=b)->((! d)->((! d)->(! d))/\True)/\(d=false->(! d))/\ah (bif d then true else decide (c<1)) ((0:Int)<=0/\(0<c∨(0:Int)=0)/\ar (a,b)) (0<=b/\b< ↑a.length/\ah (decide (256<c)) (ar (a,IntKind.wrap .i64 (b+(1:Int)))/\(256:Int)<=256/\ ∀(e:Int)(f:List Int)(g:Int),0<=e/\(e<256∨e=0)/\ar (f,g)->c≠(0:Int)/\0<=Int.tmod (mV a b e) c/\(Int.tmod (mV a b e) c<c∨Int.tmod (mV a b e) c=0)/\ar (f,g)) (oJ a b c)):=by
  delta oJ mV
  rintro l p n ⟨⟨⟨hl,hw⟩,h0,h1⟩,⟨h2,h3⟩,-⟩⟨hc1,hc2⟩
  simp only[maxLen] at hl hc1 hc2
  (repeat (intro (b_:Bool) (hb_:b_=_);(repeat refine⟨(by first|(simp;done)|(rw[hb_];simp;done)|(rw[hb_];simp;omega)|(rw[hb_];simp;intros;omega)|(rw[hb_];simp +contextual;done)),?_⟩);subst hb_))
  refine aq (fun hb=>?_) (fun hb=>?_)
  ·exact⟨by omega,by simp,hc1,hc2⟩
  ·simp at hb
   obtain⟨hb1,hb2⟩:=hb
   obtain⟨hm0,hm1⟩:=hw _ (ce hc1 hb1)
   rw[ad (by omega) (by omega),ad (n:=l.getD p.toNat default) (by omega) (by omega)]
   refine⟨hc1,hb1,aq (fun hb=>?_) (fun hb=>?_)⟩
   ·refine⟨by simp only[ar];omega,by omega,?_⟩
    rintro r l2 p2 ⟨hr0,hr1,hr2⟩
    rw[ad (n:=256*_) (by omega) (by omega),ad (by omega) (by omega)]
    exact⟨by omega,pU (by omega),.inl (po (by omega) (by omega)),hr2⟩
   ·exact⟨by omega,pU hm0,.inl (po hm0 (by omega)),by simp only[ar];omega⟩
theorem lx:aG Try.prog GL 17 uD.spec:=Cn.okH _ Try.func17 (by kernel_rfl) (ay aP C9) aD xN (aQ (by kernel_rfl) BF)
end Go.RS

/- Mix: the mixing of 64 bits: what it is, and that it is one to one. -/
namespace Go.RS
open Go.SX
set_option linter.unusedVariables false
def xs(k a:Nat):Nat:=a ^^^ a/2^k
end Go.RS
