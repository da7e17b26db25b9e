/- Netr: routes of drawn networks: what holds of them at any time. -/
import Derived.Test.YthmcfealplfaaaaGreatDoorDrawsome
import Derived.Test.YthmcfealplfaaaaGreatDoorNodek
namespace Go.RS
open Go.SX Go.Proofs
set_option maxRecDepth 100000
set_option linter.unusedVariables false
theorem C4{α:Type} [DecidableEq α]:∀{l m:List α},l.Nodup->(∀ x∈l,x∈m)->l.length<=m.length
 | [],m,_,_=>by simp
 | x::l,m,h,hs=>by
  have hx:=hs x List.mem_cons_self
  have hn:=List.nodup_cons.1 h
  have:=C4 (l:=l) (m:=m.erase x) hn.2 fun y hy=>(List.mem_erase_of_ne (fun e:y=x=>hn.1 (e▸hy))).2 (hs y (List.mem_cons_of_mem _ hy))
  rw[List.length_erase_of_mem hx] at this
  have hp:=List.length_pos_of_mem hx
  rw[List.length_cons];omega
theorem wg{α β:Type}(I:β->Prop)(f:β->α->β):∀{l:List α}{b:β},I b->(∀ x∈l,∀ b,I b->I (f b x))->I (l.foldl f b)
 | [],b,h,_=>h
 | x::l,b,h,hf=>wg I f (l:=l) (hf x List.mem_cons_self b h) fun y hy=>hf y (List.mem_cons_of_mem _ hy)
theorem FP{k x:Int}:∀{l:List Int},x∈iS k l->x=k∨x∈l
 | [],h=>by simp[iS] at h;exact .inl h
 | y::r,h=>by
  rw[iS] at h
  split at h
  ·rcases List.mem_cons.1 h with e|h
   ·exact .inl e
   ·exact .inr h
  ·rcases List.mem_cons.1 h with e|h
   ·exact .inr (e▸List.mem_cons_self)
   ·rcases FP h with e|h
    ·exact .inl e
    ·exact .inr (List.mem_cons_of_mem _ h)
theorem HE{k:Int}:∀{l:List Int},l.Pairwise (· < ·)->k ∉ l->(iS k l).Pairwise (· < ·)
 | [],_,_=>by rw[iS];exact List.pairwise_singleton _ _
 | y::r,h,hk=>by
  have h:=List.pairwise_cons.1 h
  rw[iS]
  split
  ·rename_i hy
   refine List.pairwise_cons.2 ⟨fun z hz=>?_,List.pairwise_cons.2 h⟩
   rcases List.mem_cons.1 hz with rfl|hz
   ·exact hy
   ·exact Int.lt_trans hy (h.1 z hz)
  ·rename_i hy
   have:k≠y:=fun e=>hk (e▸List.mem_cons_self)
   refine List.pairwise_cons.2 ⟨fun z hz=>?_,HE h.2 fun e=>hk (List.mem_cons_of_mem _ e)⟩
   rcases FP hz with rfl|hz
   ·omega
   ·exact h.1 z hz
theorem TS(k:Int)(l:List Int):iS k l≠[]:=by
 intro e
 have:=Fc k l
 rw[e] at this;simp at this
theorem Pe{l:List Rt}{r x:Rt}(h:x∈dP l r):x=r∨x∈l:=by
 unfold dP at h
 rcases List.mem_append.1 h with h|h
 ·exact .inr (List.mem_filter.1 h).1
 ·rcases List.mem_cons.1 h with e|h
  ·exact .inl e
  ·exact .inr (List.mem_filter.1 h).1
def lnk(ls:List aF)(i k:Int):Prop:=0<=k/\k<ls.length/\(lA (ls.getD k.toNat default)=i∨lB (ls.getD k.toNat default)=i)
structure CD (ls:List aF) (aa:List Int) (i:Int) (r:Rt):Prop where
 len:r.1.2=32
 mem:r.1.1∈aa
 ne:r.2.1≠[]
 pw:r.2.1.Pairwise (· < ·)
 ln:∀ k∈r.2.1,lnk ls i k
 w0:1<=r.2.2
 w1:r.2.2<=3
def kU(ls:List aF)(aa:List Int)(i:Int)(t:List Rt):Prop:=bM t∧∀ r∈t,CD ls aa i r
theorem Fd{ls:List aF}{aa:List Int}{i:Int}{t:List Rt}(h:kU ls aa i t):t.length<=aa.length:=by
 have hn:(t.map fun r=>r.1.1).Nodup:=by
  refine List.Pairwise.map (R:=fun a b:Rt=>a.1.1≠b.1.1) _ (fun a b h=>h) (h.1.imp_of_mem fun {a b} ha hb k=>?_)
  have e1:=(h.2 a ha).len
  have e2:=(h.2 b hb).len
  unfold bc at k
  omega
 have:=C4 hn (m:=aa) fun x hx=>by
  obtain⟨r,hr,rfl⟩:=List.mem_map.1 hx
  exact (h.2 r hr).mem
 simpa using this
theorem DY{ls:List aF}{aa:List Int}{i:Int}{r:Rt}(h:CD ls aa i r):r.2.1.length<=ls.length:=by
 have hn:r.2.1.Nodup:=h.pw.imp fun k=>by omega
 have:=C4 hn (m:=(List.range ls.length).map fun (n:Nat)=>(n:Int)) fun x hx=>by
  obtain⟨k0,k1,_⟩:=h.ln x hx
  exact List.mem_map.2 ⟨x.toNat,List.mem_range.2 (by omega),by omega⟩
 simpa using this
theorem Si{ls:List aF}{aa:List Int}{i:Int}{t:List Rt}(h:kU ls aa i t){p:cM}{k way:Int}(hp:p.2=32)(ha:p.1∈aa)(hk:lnk ls i k)(h0:1<=way)(h1:way<=3) :
  kU ls aa i (sy t p k way):=by
 have put:∀ r:Rt,CD ls aa i r->kU ls aa i (dP t r):=fun r hr =>
  ⟨Cf h.1,fun x hx=>by
   rcases Pe hx with rfl|hx
   ·exact hr
   ·exact h.2 x hx⟩
 unfold sy
 split
 ·rename_i hf
  have hx:t.getD (pb t p) default∈t:=by
   have:=bL (xs:=t) (i:=(pb t p:Nat)) (by omega) (by omega)
   simpa using this
  have hx:=h.2 _ hx
  split
  ·exact h
  ·rename_i hn
   exact put _ ⟨hp,ha,TS _ _,HE hx.pw hn,fun y hy=>by
    rcases FP hy with rfl|hy
    ·exact hk
    ·exact hx.ln y hy,hx.w0,hx.w1⟩
 ·exact put _ ⟨hp,ha,by simp,List.pairwise_singleton _ _,fun y hy=>by rw[List.mem_singleton.1 hy];exact hk,h0,h1⟩
structure RI (ls:List aF) (aa:List Int) (ns0 ns:List ac):Prop where
 n:ns.length=ns0.length
 e:∀ i:Nat,i<ns0.length->u9 (ns.getD i default) []=u9 (ns0.getD i default) []
 t:∀ i:Nat,i<ns0.length->kU ls aa i (aV (ns.getD i default))
theorem RI.ports {ls aa ns0 ns} (h:RI ls aa ns0 ns) {i:Nat} (hi:i<ns0.length):aC (ns.getD i default)=aC (ns0.getD i default):=by
 have:=congrArg aC (h.e i hi);exact this
theorem RI.host {ls aa ns0 ns} (h:RI ls aa ns0 ns) {i:Nat} (hi:i<ns0.length):lE (ns.getD i default)=lE (ns0.getD i default):=by
 have:=congrArg lE (h.e i hi);exact this
theorem RI.route {ls aa ns0 ns} (h:RI ls aa ns0 ns) {a:Int} {p:cM} {k way:Int} (a0:0<=a) (a1:a<ns0.length) (hp:p.2=32) (ha:p.1∈aa) (hk:lnk ls a k) (h0:1<=way) (h1:way<=3) :
  RI ls aa ns0 (oS ns a p k way):=by
 have hl:a.toNat<ns.length:=by have:=h.n;omega
 unfold oS
 refine⟨by rw[List.length_set];exact h.n,fun i hi=>?_,fun i hi=>?_⟩
 ·by_cases e:a.toNat=i
  ·subst e
   rw[iw hl];exact h.e _ hi
  ·rw[kA e];exact h.e _ hi
 ·by_cases e:a.toNat=i
  ·subst e
   rw[iw hl]
   have:=Si (h.t _ hi) (p:=p) (k:=k) (way:=way) hp ha (by rwa [show ((a.toNat:Nat):Int)=a by omega]) h0 h1
   exact this
  ·rw[kA e];exact h.t _ hi
theorem RI.step {ls aa ns0 ns} (h:RI ls aa ns0 ns) {d:List Int} {to:Int} {p:cM} {plain:Bool} {k way a b:Int} (a0:0<=a) (a1:a<ns0.length) (hp:p.2=32) (ha:p.1∈aa) (hk:lnk ls a k) (h0:1<=way) (h1:way<=3) :
  RI ls aa ns0 (oF d to p plain k way ns a b):=by
 unfold oF
 split
 ·exact h
 ·split
  ·exact h
  ·exact h.route a0 a1 hp ha hk h0 h1
def fX(n:Nat)(ls:List aF):Prop:=∀ l∈ls,0<=l.1/\l.1<n/\0<=l.2.1/\l.2.1<n
theorem fX.at'{n:Nat}{ls:List aF}(hg:fX n ls){k:Nat}(hk:k<ls.length):(0<=lA (ls.getD k default)/\lA (ls.getD k default)<n)/\0<=lB (ls.getD k default)/\lB (ls.getD k default)<n:=by
 have hx:ls.getD k default∈ls:=by
  have:=bL (xs:=ls) (i:=(k:Nat)) (by omega) (by omega)
  simpa using this
 obtain⟨q1,q2,q3,q4⟩:=hg _ hx
 exact⟨⟨q1,q2⟩,q3,q4⟩
theorem OB{ls:List aF}{k:Nat}(hk:k<ls.length):lnk ls (lA (ls.getD k default)) k:=⟨by omega,by omega,.inl (by simp)⟩
theorem P6{ls:List aF}{k:Nat}(hk:k<ls.length):lnk ls (lB (ls.getD k default)) k:=⟨by omega,by omega,.inr (by simp)⟩
theorem RI.stepK {ls aa ns0 ns} (h:RI ls aa ns0 ns) (hg:fX ns0.length ls) {d:List Int} {to:Int} {p:cM} {plain:Bool} {way:Int} {k:Nat} (hk:k<ls.length) (hp:p.2=32) (ha:p.1∈aa) (h0:1<=way) (h1:way<=3) :
  RI ls aa ns0 (stepK ls d to p plain way ns k):=by
 have hh:=hg.at' hk
 unfold Go.RS.stepK
 exact (h.step hh.1.1 hh.1.2 hp ha (OB hk) h0 h1).step hh.2.1 hh.2.2 hp ha (P6 hk) h0 h1
theorem RI.stepKs {ls aa ns0 ns} (h:RI ls aa ns0 ns) (hg:fX ns0.length ls) {d:List Int} {to:Int} {p:cM} {plain:Bool} {way:Int} (hp:p.2=32) (ha:p.1∈aa) (h0:1<=way) (h1:way<=3) {n:Nat} (hn:n<=ls.length) :
  RI ls aa ns0 ((List.range n).foldl (Go.RS.stepK ls d to p plain way) ns) :=
 wg _ _ h fun k hk b hb=>hb.stepK hg (by have:=List.mem_range.1 hk;omega) hp ha h0 h1
theorem RI.stepP {ls aa ns0 ns} (h:RI ls aa ns0 ns) (hg:fX ns0.length ls) {d:List Int} {to:Int} {plain:Bool} {way:Int} {q:l8} (ha:q.1∈aa) (h0:1<=way) (h1:way<=3) :
  RI ls aa ns0 (stepP ls d to plain way ns q) :=
 h.stepKs (p:=(q.1,32)) hg rfl ha h0 h1 (Nat.le_refl _)
def f9(ns:List ac):List Int:=ns.flatMap fun x=>(aC x).map (·.1)
theorem Ll{ns:List ac}{i:Nat}(hi:i<ns.length){q:l8}(hq:q∈aC (ns.getD i default)):q.1∈f9 ns:=by
 have hx:ns.getD i default∈ns:=by
  have:=bL (xs:=ns) (i:=(i:Nat)) (by omega) (by omega)
  simpa using this
 exact List.mem_flatMap.2 ⟨_,hx,List.mem_map.2 ⟨q,hq,rfl⟩⟩
theorem RI.stepPs {ls ns0 ns} (h:RI ls (f9 ns0) ns0 ns) (hg:fX ns0.length ls) {d:List Int} {to:Int} {plain:Bool} {way:Int} (h0:1<=way) (h1:way<=3) {l:List l8} (hl:∀ q∈l,q.1∈f9 ns0) :
  RI ls (f9 ns0) ns0 (l.foldl (Go.RS.stepP ls d to plain way) ns) :=
 wg _ _ h fun q hq b hb=>hb.stepP hg (hl q hq) h0 h1
theorem Jz{c:aH}(h:bS c):bS (lO c).2/\1<=(lO c).1/\(lO c).1<=3:=by
 have k:=ci h 3
 have k2:=ci k.1 3
 have:=cV h (n:=3) (by omega)
 unfold lO
 split
 ·refine⟨k2.1,?_⟩
  dsimp only
  split <;> omega
 ·exact⟨k.1,by dsimp only;omega,by dsimp only;omega⟩
theorem RI.stepT {ls ns0} {s:List ac×aH} (h:RI ls (f9 ns0) ns0 s.1/\bS s.2) (hg:fX ns0.length ls) {plain:Bool} {to:Nat} (ht:to<ns0.length) :
  RI ls (f9 ns0) ns0 (stepT ls plain s to).1/\bS (stepT ls plain s to).2:=by
 have w:=Jz h.2
 unfold Go.RS.stepT
 refine⟨h.1.stepPs hg w.2.1 w.2.2 fun q hq=>?_,w.1⟩
 rw[h.1.ports ht] at hq
 exact Ll ht hq
theorem RI.stepTs {ls ns0} {s:List ac×aH} (h:RI ls (f9 ns0) ns0 s.1/\bS s.2) (hg:fX ns0.length ls) {plain:Bool} {n:Nat} (hn:n<=ns0.length) :
  RI ls (f9 ns0) ns0 ((List.range n).foldl (Go.RS.stepT ls plain) s).1/\bS ((List.range n).foldl (Go.RS.stepT ls plain) s).2 :=
 wg (fun s:List ac×aH=>RI ls (f9 ns0) ns0 s.1/\bS s.2) _ h fun k hk b hb=>RI.stepT hb hg (by have:=List.mem_range.1 hk;omega)
theorem RI.start{ls:List aF}{ns0:List ac}(h:∀ x∈ns0,aV x=[]):RI ls (f9 ns0) ns0 ns0:=by
 refine⟨rfl,fun _ _=>rfl,fun i hi=>?_⟩
 have hx:ns0.getD i default∈ns0:=by
  have:=bL (xs:=ns0) (i:=(i:Nat)) (by omega) (by omega)
  simpa using this
 rw[h _ hx]
 exact⟨List.Pairwise.nil,fun r hr=>by cases hr⟩
end Go.RS

/- Netg: how drawn networks grow: what holds of their nodes and links. -/
namespace Go.RS
open Go.SX Go.Proofs
set_option maxRecDepth 100000
set_option linter.unusedVariables false
def mT(i:Int)(k:Nat)(l:aF):List l8:=(if lA l=i then [(dX k+1,(k:Int))] else [])++(if lB l=i then [(dX k+2,(k:Int))] else [])
def portsF(i:Int):Nat->List aF->List l8
 | _,[]=>[]
 | k,l::r=>mT i k l++portsF i (k+1) r
theorem Ju(i:Int)(l:aF):∀(k:Nat)(ls:List aF),portsF i k (ls++[l])=portsF i k ls++mT i (k+ls.length) l
 | k,[]=>by simp[portsF]
 | k,x::r=>by
  rw[List.cons_append,portsF,Ju i l (k+1) r,portsF,List.append_assoc,List.length_cons,show k+1+r.length=k+(r.length+1) by omega]
theorem ZA(i:Int)(k:Nat)(l:aF):(mT i k l).length<=2:=by
 unfold mT
 split <;> split <;> simp
theorem xh(i:Int):∀(k:Nat)(ls:List aF),(portsF i k ls).length<=2*ls.length
 | k,[]=>by simp[portsF]
 | k,x::r=>by
  have:=xh i (k+1) r
  have:=ZA i k x
  rw[portsF,List.length_append,List.length_cons];omega
theorem N9{i:Int}:∀{k:Nat}{ls:List aF},(∀ x∈ls,lA x≠i/\lB x≠i)->portsF i k ls=[]
 | k,[],_=>rfl
 | k,x::r,h=>by
  have hx:=h x List.mem_cons_self
  rw[portsF,N9 fun y hy=>h y (List.mem_cons_of_mem _ hy),mT,if_neg hx.1,if_neg hx.2];rfl
theorem yH{i:Int}{q:l8}:∀{k:Nat}{ls:List aF},q∈portsF i k ls↔∃ j,j<ls.length/\((lA (ls.getD j default)=i/\q=(dX (k+j:Nat)+1,((k+j:Nat):Int)))∨(lB (ls.getD j default)=i/\q=(dX (k+j:Nat)+2,((k+j:Nat):Int))))
 | k,[]=>by simp[portsF]
 | k,x::r=>by
  rw[portsF,List.mem_append,yH (k:=k+1) (ls:=r)]
  constructor
  ·rintro (h|⟨j,hj,h⟩)
   ·refine⟨0,by simp,?_⟩
    unfold mT at h
    rcases List.mem_append.1 h with h|h
    ·split at h
     ·rename_i e
      exact .inl ⟨e,by simpa using h⟩
     ·cases h
    ·split at h
     ·rename_i e
      exact .inr ⟨e,by simpa using h⟩
     ·cases h
   ·refine⟨j+1,by rw[List.length_cons];omega,?_⟩
    rw[List.getD_cons_succ,show k+(j+1)=k+1+j by omega];exact h
  ·rintro⟨j,hj,h⟩
   cases j with
   | zero =>
    refine .inl ?_
    rw[List.getD_cons_zero] at h
    unfold mT
    rcases h with⟨e,h⟩|⟨e,h⟩
    ·rw[if_pos e];exact List.mem_append.2 (.inl (by simpa using h))
    ·rw[if_pos e];exact List.mem_append.2 (.inr (by simpa using h))
   | succ j =>
    refine .inr ⟨j,by rw[List.length_cons] at hj;omega,?_⟩
    rw[List.getD_cons_succ,show k+(j+1)=k+1+j by omega] at h;exact h
theorem Iz{α:Type} [Inhabited α] {l m:List α} {i:Nat} (h:i<l.length):(l++m).getD i default=l.getD i default:=by
 rw[List.getD_eq_getElem?_getD,List.getElem?_append_left h,List.getD_eq_getElem?_getD]
theorem Pa{α:Type} [Inhabited α] {l:List α} {x:α}:(l++[x]).getD l.length default=x:=by
 rw[List.getD_eq_getElem?_getD];simp
theorem By{ns:List ac}{x:Int}{p:l8}(x0:0<=x){i:Nat}(hi:i<ns.length) :
  (iA ns x p).getD i default=((ns.getD i default).1++(if x=i then [p] else []),(ns.getD i default).2):=by
 unfold iA
 by_cases e:x=i
 ·have:x.toNat=i:=by omega
  rw[this,iw hi,if_pos e]
 ·have:x.toNat≠i:=by omega
  rw[kA this,if_neg e,List.append_nil]
theorem Gz(ns:List ac)(x:Int)(p:l8):(iA ns x p).length=ns.length:=by unfold iA;exact List.length_set
structure GI (s:aR) (nn nl:Nat):Prop where
 n:s.1.1.length=nn
 l:s.1.2.1.length=nl
 h:s.1.2.2=[]
 c:bS s.2
 g:∀ x∈s.1.2.1,(0<=lA x/\lA x<nn)/\(0<=lB x/\lB x<nn)/\lA x≠lB x/\(1<=kR x/\kR x<=20)/\ia x=0/\o6 x=0/\0<=sg x/\sg x<=255
 p:∀ i:Nat,i<nn->aC (s.1.1.getD i default)=portsF i 0 s.1.2.1
 d:∀ i:Nat,i<nn→∃ host f sd,(s.1.1.getD i default).2=(oQ i host f sd).2/\(f=64∨f=255∨f=128)/\0<=sd/\sd<=255
theorem GI.node{s:aR}{nn nl:Nat}(h:GI s nn nl)(host:Bool):GI (iu s host) (nn+1) nl:=by
 have k3:=cV h.c (n:=3) (by omega)
 have c3:=(ci h.c 3).1
 have k4:=cV c3 (n:=256) (by omega)
 have c4:=(ci c3 256).1
 refine⟨by simp only[iu,List.length_append,List.length_cons,List.length_nil,h.n],h.l,h.h,c4,fun x hx=>?_,fun i hi=>?_,fun i hi=>?_⟩
 ·have:=h.g x hx
  omega
 ·by_cases e:i<nn
  ·rw[show (iu s host).1.1.getD i default=s.1.1.getD i default from Iz (by rw[h.n];exact e)]
   exact h.p i e
  ·have e:i=s.1.1.length:=by rw[h.n];omega
   subst e
   rw[show (iu s host).1.1.getD s.1.1.length default=oQ s.1.1.length host _ _ from Pa]
   refine (N9 fun x hx=>?_).symm
   have:=h.g x hx
   have:=h.n
   omega
 ·by_cases e:i<nn
  ·rw[show (iu s host).1.1.getD i default=s.1.1.getD i default from Iz (by rw[h.n];exact e)]
   exact h.d i e
  ·have e:i=s.1.1.length:=by rw[h.n];omega
   subst e
   rw[show (iu s host).1.1.getD s.1.1.length default=oQ s.1.1.length host _ _ from Pa]
   refine⟨host,_,_,rfl,?_,k4.1,by omega⟩
   rcases (show (aj s.2 3).1=0∨(aj s.2 3).1=1∨(aj s.2 3).1=2 by omega) with e|e|e <;> rw[e] <;> simp
theorem GI.link{s:aR}{nn nl:Nat}(h:GI s nn nl){a b:Int}(a0:0<=a)(a1:a<nn)(b0:0<=b)(b1:b<nn)(ne:a≠b):GI (gp s a b) nn (nl+1):=by
 have k3:=cV h.c (n:=20) (by omega)
 have c3:=(ci h.c 20).1
 have k4:=cV c3 (n:=256) (by omega)
 have c4:=(ci c3 256).1
 refine⟨by simp only[gp,Gz,h.n],by simp only[gp,List.length_append,List.length_cons,List.length_nil,h.l],h.h,c4,fun x hx=>?_,fun i hi=>?_,fun i hi=>?_⟩
 ·rcases List.mem_append.1 hx with hx|hx
  ·exact h.g x hx
  ·rw[List.mem_singleton.1 hx]
   refine⟨⟨a0,a1⟩,⟨b0,b1⟩,ne,?_,rfl,rfl,k4.1,?_⟩
   ·show 1<=1+(aj s.2 20).1/\1+(aj s.2 20).1<=20
    omega
   ·show (aj (aj s.2 20).2 256).1<=255
    omega
 ·have hp:=h.p i hi
  unfold gp
  dsimp only
  rw[By b0 (by rw[Gz,h.n];exact hi),By a0 (by rw[h.n];exact hi),Ju,← hp,Nat.zero_add]
  simp only[aC,mT,lA,lB,List.append_assoc]
  rfl
 ·unfold gp
  dsimp only
  rw[By b0 (by rw[Gz,h.n];exact hi),By a0 (by rw[h.n];exact hi)]
  exact h.d i hi
theorem GI.codes{s:aR}{nn nl:Nat}(h:GI s nn nl){c:aH}(hc:bS c):GI (s.1,c) nn nl:=⟨h.n,h.l,h.h,hc,h.g,h.p,h.d⟩
theorem GI.start{c:aH}(hc:bS c):GI (([],[],[]),c) 0 0 :=
 ⟨rfl,rfl,rfl,hc,fun x hx=>(by cases hx),fun i hi=>(by omega),fun i hi=>(by omega)⟩
theorem GI.routes{s:aR}{nn nl:Nat}(h:GI s nn nl):∀ x∈s.1.1,aV x=[]:=fun x hx=>by
 obtain⟨i,hi,e⟩:=List.mem_iff_getElem.1 hx
 obtain⟨host,f,sd,hd,-⟩:=h.d i (by rw[← h.n];exact hi)
 have:s.1.1.getD i default=x:=by rw[List.getD_eq_getElem?_getD,List.getElem?_eq_getElem hi,e];rfl
 rw[this] at hd
 show x.2.2.2.2.1=[]
 rw[hd];rfl
theorem GI.plen{s:aR}{nn nl:Nat}(h:GI s nn nl):∀ x∈s.1.1,x.1.length<=2*nl:=fun x hx=>by
 obtain⟨i,hi,e⟩:=List.mem_iff_getElem.1 hx
 have hp:=h.p i (by rw[← h.n];exact hi)
 have:s.1.1.getD i default=x:=by rw[List.getD_eq_getElem?_getD,List.getElem?_eq_getElem hi,e];rfl
 rw[this] at hp
 have:=xh i 0 s.1.2.1
 rw[← hp,h.l] at this;exact this
theorem zR:∀{ns:List ac}{m:Nat},(∀ x∈ns,x.1.length<=m)->(f9 ns).length<=ns.length*m
 | [],m,_=>by simp[f9]
 | x::r,m,h=>by
  have k:=zR (ns:=r) (m:=m) fun y hy=>h y (List.mem_cons_of_mem _ hy)
  have hx:=h x List.mem_cons_self
  unfold f9 at k ⊢
  rw[List.flatMap_cons,List.length_append,List.length_map,List.length_cons,Nat.succ_mul]
  show (aC x).length+_<=_
  have:(aC x).length<=m:=hx
  omega
theorem GI.ends{s:aR}{nn nl:Nat}(h:GI s nn nl):fX s.1.1.length s.1.2.1:=fun x hx=>by
 have:=h.g x hx
 rw[h.n]
 exact⟨this.1.1,this.1.2,this.2.1.1,this.2.1.2⟩
theorem GI.chain{s:aR}(h:GI s 1 0):∀ k:Nat,GI ((List.range k).foldl oA s) (k+1) k
 | 0=>h
 | k+1=>by
  rw[List.range_succ,List.foldl_append]
  exact ((GI.chain h k).node false).link (by omega) (by omega) (by omega) (by omega) (by omega)
def bj(c:aH):Int:=1+(aj (iu (([],[],[]),c) true).2 5).1
def r4(c:aH):aR:=((iu (([],[],[]),c) true).1,(aj (iu (([],[],[]),c) true).2 5).2)
theorem NQ{c:aH}(h:bS c):GI (r4 c) 1 0:=((GI.start h).node true).codes (ci ((GI.start h).node true).c 5).1
theorem sJ{c:aH}(h:bS c):1<=bj c/\bj c<=5:=by
 have:=cV ((GI.start h).node true).c (n:=5) (by omega)
 unfold bj;omega
theorem EZ(c:aH):kY c=(bj c,gp (iu ((List.range (bj c).toNat).foldl oA (r4 c)) true) (bj c) (bj c+1)):=rfl
theorem Bb{c:aH}(h:bS c):GI (kY c).2 ((bj c).toNat+2) ((bj c).toNat+1):=by
 have:=sJ h
 rw[EZ]
 exact (((NQ h).chain _).node true).link (by omega) (by omega) (by omega) (by omega) (by omega)
theorem GI.short{s:aR}{nn nl:Nat}(h:GI s nn nl){n:Int}(n1:1<=n)(hn:n+2<=nn):∃ m,nl<=m/\m<=nl+1/\GI (pL n s) nn m:=by
 have ka:=cV h.c (n:=n) (by omega)
 have ca:=(ci h.c n).1
 have kb:=cV ca (n:=n) (by omega)
 have cb:=(ci ca n).1
 unfold pL
 dsimp only
 split
 ·exact⟨nl,by omega,by omega,h.codes cb⟩
 ·rename_i e
  exact⟨nl+1,by omega,by omega,(h.codes cb).link (by omega) (by omega) (by omega) (by omega) (by omega)⟩
theorem GI.shorts{s:aR}{nn nl:Nat}(h:GI s nn nl){n:Int}(n1:1<=n)(hn:n+2<=nn):∀ k:Nat,∃ m,nl<=m/\m<=nl+k/\GI ((List.range k).foldl (fun s _=>pL n s) s) nn m
 | 0=>⟨nl,by omega,by omega,h⟩
 | k+1=>by
  obtain⟨m,m0,m1,hm⟩:=GI.shorts h n1 hn k
  obtain⟨m',q0,q1,hq⟩:=hm.short n1 hn
  refine⟨m',by omega,by omega,?_⟩
  rw[List.range_succ,List.foldl_append];exact hq
def nR(plain:Bool)(n:Int)(s:aR)(k:Nat):aR:=if 1<n/\plain=false then (List.range k).foldl (fun s _=>pL n s) (s.1,(aj s.2 4).2) else (s.1,(aj s.2 4).2)
theorem Mb{s:aR}{nn nl:Nat}(h:GI s nn nl){plain:Bool}{n:Int}(n1:1<=n)(hn:n+2<=nn)(k:Nat):∃ m,nl<=m/\m<=nl+k/\GI (nR plain n s k) nn m:=by
 have hc:=h.codes (ci h.c 4).1
 unfold nR
 split
 ·exact hc.shorts n1 hn k
 ·exact⟨nl,by omega,by omega,hc⟩
theorem CN(plain:Bool)(n:Int)(s:aR):uD plain n s=(let s1:=nR plain n s (aj s.2 4).1.toNat
  if plain=true/\2<n then
   if (aj s1.2 2).1=1 then gp (s1.1,(aj (aj s1.2 2).2 (n-1)).2) (1+(aj (aj s1.2 2).2 (n-1)).1) n else (s1.1,(aj s1.2 2).2)
  else s1):=rfl
theorem Yu{s:aR}{nn nl:Nat}(h:GI s nn nl){plain:Bool}{n:Int}(n1:1<=n)(hn:n+2<=nn):∃ m,nl<=m/\m<=nl+4/\GI (uD plain n s) nn m:=by
 have k4:=cV h.c (n:=4) (by omega)
 obtain⟨m,m0,m1,hm⟩:=Mb h (plain:=plain) n1 hn (aj s.2 4).1.toNat
 rw[CN]
 dsimp only
 generalize nR plain n s (aj s.2 4).1.toNat=t at hm ⊢
 have c2:=(ci hm.c 2).1
 have c3:=(ci c2 (n-1)).1
 split
 ·rename_i e
  split
  ·have k5:=cV c2 (n:=n-1) (by omega)
   exact⟨m+1,by omega,by omega,(hm.codes c3).link (by omega) (by omega) (by omega) (by omega) (by omega)⟩
  ·exact⟨m,by omega,by omega,hm.codes c2⟩
 ·exact⟨m,by omega,by omega,hm⟩
theorem AC{c:aH}(h:bS c)(plain:Bool):∃ m,2<=m/\m<=10/\GI (uD plain (kY c).1 (kY c).2) ((bj c).toNat+2) m:=by
 have hn:=sJ h
 obtain⟨m,m0,m1,hm⟩:=Yu (Bb h) (plain:=plain) (n:=bj c) hn.1 (by omega)
 exact⟨m,by omega,by omega,hm⟩
end Go.RS

/- Netdraw: the program text that draws networks does what Netd says. -/
namespace Go.RS
open Go.SX Go.Proofs
set_option maxRecDepth 100000
set_option linter.unusedVariables false
abbrev wn:OT := .pair (.pair (.row 107 bH) (.pair (.row 99 fy) (.row 129 dZ))) (.ref 109 f6)
def sL(s:aR):List aF:=s.1.2.1
def nY(s:aR):Prop:=az s.2/\(s.1.1.length:Int)<=1000/\(s.1.2.1.length:Int)<=1000/\(s.1.2.2.length:Int)<=1000∧∀ x∈s.1.1,(x.1.length:Int)<=1000
def inN(ns:List ac)(a:Int):Prop:=0<=a/\a<ns.length
def NS:Ct:=⟨[.box 109 f6,.val cI],[.val cI],fun d=>[az d.1,d.2.1<=256],fun d=>(((kL d.1 d.2.1).1,()),((kL d.1 d.2.1).2,()))⟩
def Wm:ar NS.ps->ay:=(fun _=>{})
theorem YK :
 ∀(a:List Int)(b c:Int),((a.length<=maxLen/\ ∀(d:Int),d∈a->0<=d/\d<=255)/\ab b)/\ab c/\True->az (a,b)/\c<=256-> ∀(d:Bool),d=decide ((a.length:Int)<=b)->((! d)->((! d)->(! d))/\True)/\(d=false->(! d))/\ad (bif d then true else decide (c<1)) ((0:Int)=(kL (a,b) c).1/\(a,b)=(kL (a,b) c).2) (0<=b/\b<(a.length:Int)/\ad (decide (256<c)) False (c≠(0:Int)/\Int.tmod (IntKind.wrap .i64 (a.getD b.toNat default)) c=(kL (a,b) c).1/\(a,IntKind.wrap .i64 (b+(1:Int)))=(kL (a,b) c).2)):=by
  rintro l p n ⟨⟨⟨hl,hw⟩,h0,h1⟩,⟨h2,h3⟩,-⟩⟨⟨hc1,hc2⟩,hn⟩
  simp only[maxLen] at hl hc1 hc2
  (repeat (intro (b_:Bool) (hb_:b_=_);(repeat refine⟨(by first|(simp;done)|(rw[hb_];simp;done)|(rw[hb_];simp;omega)|(rw[hb_];simp;intros;omega)|(rw[hb_];simp +contextual;done)),?_⟩);subst hb_))
  refine p8 (fun hb=>?_) (fun hb1 hb2=>?_)
  ·have hb:(l.length:Int)<=p∨n<1:=by simpa using hb
   rw[kL,if_pos hb];exact⟨rfl,rfl⟩
  ·have hb1:=of_decide_eq_false hb1
   have hb2:=of_decide_eq_false hb2
   have hb:¬ ((l.length:Int)<=p∨n<1):=by omega
   obtain⟨hm0,hm1⟩:=hw _ (bL hc1 (show p<l.length by omega))
   refine⟨hc1,by omega,ae (fun k=>?_) (fun _=>⟨by omega,?_⟩)⟩
   ·have:=of_decide_eq_true k;omega
   ·rw[kL,if_neg hb,af (by omega) (by omega),af (by omega) (by omega)];exact⟨rfl,rfl⟩
theorem ao5:av Tryz.prog GL 11 NS.spec:=Ct.okH _ Tryz.func11 (by kernel_rfl) aA au Wm (aB (by kernel_rfl) YK)
def PA:Ct:=⟨[.box 109 f6,.val cI],[.val cI],fun d=>[az d.1],fun d=>(((aj d.1 d.2.1).1,()),((aj d.1 d.2.1).2,()))⟩
def aa0:ar PA.ps->ay:=(fun _=>{})
theorem at0 :
 ∀(a:List Int)(b c:Int),((a.length<=maxLen/\ ∀(d:Int),d∈a->0<=d/\d<=255)/\ab b)/\ab c/\True->0<=b/\b<=(a.length:Int)-> ∀(d:Bool),d=decide ((a.length:Int)<=b)->((! d)->((! d)->(! d))/\True)/\(d=false->(! d))/\ad (bif d then true else decide (c<1)) ((0:Int)=(aj (a,b) c).1/\(a,b)=(aj (a,b) c).2) (0<=b/\b<(a.length:Int)/\ad (decide (256<c)) (az (a,IntKind.wrap .i64 (b+(1:Int)))/\(256:Int)<=256/\c≠(0:Int)/\Int.tmod (IntKind.wrap .i64 (IntKind.wrap .i64 ((256:Int)*IntKind.wrap .i64 (a.getD b.toNat default))+(kL (a,IntKind.wrap .i64 (b+(1:Int))) (256:Int)).1)) c=(aj (a,b) c).1/\(kL (a,IntKind.wrap .i64 (b+(1:Int))) (256:Int)).2=(aj (a,b) c).2) (c≠(0:Int)/\Int.tmod (IntKind.wrap .i64 (a.getD b.toNat default)) c=(aj (a,b) c).1/\(a,IntKind.wrap .i64 (b+(1:Int)))=(aj (a,b) c).2)):=by
  rintro l p n ⟨⟨⟨hl,hw⟩,h0,h1⟩,⟨h2,h3⟩,-⟩⟨hc1,hc2⟩
  simp only[maxLen] at hl hc1 hc2
  (repeat (intro (b_:Bool) (hb_:b_=_);(repeat refine⟨(by first|(simp;done)|(rw[hb_];simp;done)|(rw[hb_];simp;omega)|(rw[hb_];simp;intros;omega)|(rw[hb_];simp +contextual;done)),?_⟩);subst hb_))
  refine p8 (fun hb=>?_) (fun hb1 hb2=>?_)
  ·have hb:(l.length:Int)<=p∨n<1:=by simpa using hb
   rw[aj,if_pos hb];exact⟨rfl,rfl⟩
  ·have hb1:=of_decide_eq_false hb1
   have hb2:=of_decide_eq_false hb2
   have hb:¬ ((l.length:Int)<=p∨n<1):=by omega
   obtain⟨hm0,hm1⟩:=hw _ (bL hc1 (show p<l.length by omega))
   rw[af (n:=p+1) (by omega) (by omega),af (n:=l.getD p.toNat default) (by omega) (by omega)]
   refine⟨hc1,by omega,ae (fun k=>?_) (fun k=>⟨by omega,?_⟩)⟩
   ·have k:=of_decide_eq_true k
    have hok:bS (l,p+1):=⟨⟨by show 0<=p+1;omega,by show p+1<=l.length;omega⟩,hw⟩
    have hr:=NW hok 256
    refine⟨hok.at',by omega,by omega,?_⟩
    rw[aj,if_neg hb,if_pos k,af (n:=256*_) (by omega) (by omega),af (by omega) (by omega)]
    exact⟨rfl,rfl⟩
   ·rw[aj,if_neg hb,if_neg (of_decide_eq_false k)];exact⟨rfl,rfl⟩
theorem wA:av Tryz.prog GL 11 PA.spec:=Ct.okH _ Tryz.func11 (by kernel_rfl) (ah aA ao5) au aa0 (aB (by kernel_rfl) at0)
def Hp:Ct:=⟨[.box 119 wn,.val .bool],[.val cI],fun d=>[nY d.1],fun d=>(((d.1.1.1.length:Int),()),(iu d.1 d.2.1,()))⟩
def aw3:ar Hp.ps->ay:=(fun _=>{})
def dF(b:List aF) :=
 (b.length:Int)
def vR(a:List ac)(b:List aF)(c:List aN)(d:List Int)(e:Int) :=
 ((a.length<=maxLen/\ ∀(g:ac),g∈a->CT.wf bH g)/\(b.length<=maxLen/\ ∀(g:aF),g∈b->CT.wf fy g)/\c.length<=maxLen/\ ∀(g:aN),g∈c->CT.wf dZ g)/\(d.length<=maxLen/\ ∀(g:Int),g∈d->0<=g/\g<=255)/\ab e
def dJ(a:List ac) :=
 (a.length:Int)
def Ej(a:List ac)(d:List Int)(e:Int)(f:Bool) :=
 (([]:List (Int×Int)),(0:Int),IntKind.wrap .i64 ((1:Int)+IntKind.wrap .i64 (Int.tdiv (dJ a) (3:Int))),f,([]:List aD),(1:Int),(0:Int),(0:Int),(0:Int),(0:Int),((0:Int),(0:Int)),false,false,List.getD [(64:Int),(255:Int),(128:Int)] (Int.toNat (aj (d,e) (3:Int)).1) default,(aj (aj (d,e) (3:Int)).2 (256:Int)).1)
def mn :=
 (140737488355328:Nat)
theorem Uk :
 ∀(a:List ac)(b:List aF)(c:List aN)(d:List Int)(e:Int)(f:Bool),(vR a b c d e)/\True/\True->(az (d,e)/\(dJ a)<=1000/\(dF b)<=1000/\(c.length:Int)<=1000/\ ∀(g:ac),g∈a->(g.1.length:Int)<=1000)->az (d,e)/\0<=(aj (d,e) (3:Int)).1/\(aj (d,e) (3:Int)).1<((List.length [(64:Int),(255:Int),(128:Int)]):Int)/\az (aj (d,e) (3:Int)).2/\(3:Int)≠(0:Int)/\(a.length+List.length [(Ej a d e f)])*(152:Nat)<=(mn)/\(dJ a)=(dJ a)/\((a++[(Ej a d e f)],b,c),(aj (aj (d,e) (3:Int)).2 (256:Int)).2)=iu ((a,b,c),d,e) f:=by
  delta vR Ej dF mn dJ
  rintro ns ls hs l p b ⟨⟨-,⟨hl,hw⟩,-⟩,-,-⟩⟨hc,h1,h2,h3,h4⟩
  have hok:bS (l,p):=⟨hc,hw⟩
  have r1:=ci hok 3
  have r2:=cV hok (n:=3) (by omega)
  have e:Int.tdiv (ns.length:Int) 3=(ns.length:Int)/3:=Int.tdiv_eq_ediv_of_nonneg (by omega)
  refine⟨hc,r2.1,by simpa using r2.2,r1.1.at',by omega,by simp only[List.length_singleton];omega,rfl,?_⟩
  rw[e,af (n:=(ns.length:Int)/3) (by omega) (by omega),af (by omega) (by omega)]
  rfl
theorem Qg:av Tryz.prog GL 48 Hp.spec:=Ct.okH _ Tryz.func48 (by kernel_rfl) (ah aA wA) au aw3 (aB (by kernel_rfl) Uk)
def my(ns:List ac)(a b l k:Int):List ac:=if k=0 then ns else if k=1 then iA ns a (dX l+1,l) else iA (iA ns a (dX l+1,l)) b (dX l+2,l)
def Nv:Ct:=⟨[.box 119 wn,.val cI,.val cI],[.val cI],fun d=>[nY d.1,inN d.1.1.1 d.2.1,inN d.1.1.1 d.2.2.1],fun d=>(((d.1.1.2.1.length:Int),()),(gp d.1 d.2.1 d.2.2.1,()))⟩
def ai7:ar Nv.ps->ay:=(fun d=>{loops:=(fun n=>match n with|5=>some (fun S=>{ι:=Int×(List ac),qn:=⟨fun k_=>∀(k:Int)(ns:(List ac)),k_ (k,ns),fun k_ h_ i=>h_ i.1 i.2,fun k_=>∃ (k:Int) (ns:(List ac)),k_ (k,ns),fun k_ ⟨k,ns,h_⟩=>⟨_,h_⟩⟩,μ:=fun i=>(2-i.1).toNat,inv:=fun i=>0<=i.1/\i.1<=2/\i.2=my d.1.1.1 d.2.1 d.2.2.1 d.1.1.2.1.length i.1,keep:=[0,1,2,6,7,8],slots:=fun i=>[(9,.int .i64 i.1)],keepN:=[1048577,2097154],names:=fun i=>[(1048576,.live (.cells 119 [.own 524288 16,.own 524289 6,.own 2097154 7,.ptr 1048577 0])),(524288,.live (.row 107 bH i.2)),(524289,.live (.row 99 fy (sL (gp d.1 d.2.1 d.2.2.1))))]})|_=>none)})
def vv(b:List aF) :=
 IntKind.wrap .i64 ((167837696:Int)+IntKind.wrap .i64 ((4:Int)*(dF b)))
def oh(d:List Int)(e:Int) :=
 aj (aj (d,e) (20:Int)).2 (256:Int)
def vZ(f g h:Int) :=
 Int.toNat (List.getD [f,g] h.toNat default)
def F2(b:List aF)(h:Int) :=
 (IntKind.wrap .u32 (IntKind.wrap .u32 (IntKind.wrap .u32 (vv b)+(1:Int))+IntKind.wrap .u32 h),(dF b))
theorem VZ :
 ∀(a:List ac)(b:List aF)(c:List aN)(d:List Int)(e f g:Int),(((a.length<=maxLen/\ ∀(h:ac),h∈a->CT.wf bH h)/\(b.length<=maxLen/\ ∀(h:aF),h∈b->CT.wf fy h)/\c.length<=maxLen/\ ∀(h:aN),h∈c->CT.wf dZ h)/\(d.length<=maxLen/\ ∀(h:Int),h∈d->0<=h/\h<=255)/\ab e)/\ab f/\ab g/\True->nY ((a,b,c),d,e)/\inN a f/\0<=g/\g<(dJ a)->az (d,e)/\az (aj (d,e) (20:Int)).2/\(b.length+List.length [(f,g,IntKind.wrap .i64 ((1:Int)+(aj (d,e) (20:Int)).1),(0:Int),(0:Int),(oh d e).1)])*(48:Nat)<=(mn)/\(∃(h:Int) (i:List ac),(0<=h/\h<=2/\i=my a f g (dF b) h)/\f=f/\g=g/\(0:Int)=0/\(dF b)=(dF b)/\IntKind.wrap .u32 (vv b)=IntKind.wrap .u32 (vv b)/\(0:Int)=h/\(oh d e).2.1=(oh d e).2.1/\(oh d e).2.2=(oh d e).2.2/\c=c/\a=i/\b++[(f,g,IntKind.wrap .i64 ((1:Int)+(aj (d,e) (20:Int)).1),(0:Int),(0:Int),(oh d e).1)]=sL (gp ((a,b,c),d,e) f
 g)/\True)/\ ∀(h:Int)(i:List ac),0<=h/\h<=2/\i=my a f g (dF b) h->ad (decide (h<2)) (0<=h/\h<((List.length [f,g]):Int)/\0<=List.getD [f,g] h.toNat default/\List.getD [f,g] h.toNat default<(i.length:Int)/\List.length (i.getD (vZ f g h) default).1*(16:Nat)<=(mn)/\(List.length (i.getD (vZ f g h) default).1+List.length [(F2 b h)])*(16:Nat)<=(mn)/\0<=List.getD [f,g] h.toNat default/\List.getD [f,g] h.toNat default<(i.length:Int)/\ ∃(j:Int) (k:List ac),(0<=j/\j<=2/\k=my a f g (dF b) j)/\Int.toNat ((2:Int) -j)<Int.toNat ((2:Int) -h)/\f=f/\g=g/\(0:Int)=0/\(dF b)=(dF b)/\IntKind.wrap .u32 (vv b)=IntKind.wrap .u32 (vv b)/\IntKind.wrap .i64 (h+(1:Int))=j/\(oh d e).2.1=(oh d e).2.1/\(oh d e).2.2=(oh d e).2.2/\c=c/\List.set i (vZ f g h) ((i.getD (vZ f g h) default).1++[(F2 b h)],(i.getD (vZ f g h) default).2)=k/\sL (gp
 ((a,b,c),d,e) f g)=sL (gp ((a,b,c),d,e) f g)/\True) ((dF b)=(dF b)/\((i,sL (gp ((a,b,c),d,e) f g),c),(oh d e).2)=gp ((a,b,c),d,e) f g):=by
  delta vv oh dF vZ mn dJ F2
  rintro ns ls hs l p a b ⟨⟨-,⟨hl,hw⟩,-⟩,⟨ha1,ha2⟩,⟨hb1,hb2⟩,-⟩⟨⟨hc,h1,h2,h3,h4⟩,⟨a0,a1⟩,b0,b1⟩
  simp only at h1 h2 h3 h4 a1
  have hok:bS (l,p):=⟨hc,hw⟩
  have r1:=ci hok 20
  have r2:=cV hok (n:=20) (by omega)
  have e1:IntKind.i64.wrap (1+(aj (l,p) 20).1)=1+(aj (l,p) 20).1:=af (by omega) (by omega)
  rw[e1,af (n:=4*(ls.length:Int)) (by omega) (by omega),af (n:=167837696+4*(ls.length:Int)) (by omega) (by omega),pR (n:=167837696+4*(ls.length:Int)) (by omega) (by omega),pR (n:=167837696+4*(ls.length:Int)+1) (by omega) (by omega)]
  refine⟨hc,r1.1.at',by simp only[List.length_singleton];omega,⟨0,ns,⟨by omega,by omega,by rw[my,if_pos rfl]⟩,?_⟩,?_⟩
  ·(repeat refine⟨(by with_reducible rfl),?_⟩)
   exact⟨rfl,trivial⟩
  rintro k ms ⟨k0,k2,rfl⟩
  have hlen:∀ m:Int,(my ns a b ls.length m).length=ns.length:=fun m=>by
   unfold my iA;split
   ·rfl
   ·split <;> simp
  refine ae (fun hk=>?_) (fun hk=>?_)
  ·have hk:=of_decide_eq_true hk
   rw[hlen]
   have hk':k=0∨k=1:=by omega
   have hports:∀ x:Int,0<=x->x<ns.length->((ns.getD x.toNat default).1.length:Int)<=1000:=fun x x0 x1=>h4 _ (bL x0 x1)
   rcases hk' with rfl|rfl
   ·have e0:my ns a b ls.length 0=ns:=by rw[my,if_pos rfl]
    rw[e0]
    have:=hports a a0 a1
    have e3:([a,b]:List Int).getD (Int.toNat 0) default=a:=rfl
    rw[e3]
    refine⟨by omega,by simp,a0,a1,by omega,by simp only[List.length_singleton];omega,a0,a1,1,_,⟨by omega,by omega,rfl⟩,by omega,?_⟩
    (repeat refine⟨(by with_reducible rfl),?_⟩)
    refine⟨af (by omega) (by omega),?_⟩
    (repeat refine⟨(by with_reducible rfl),?_⟩)
    refine⟨?_,?_⟩
    ·rw[my,if_neg (by omega),if_pos rfl]
     have:IntKind.u32.wrap (167837696+4*(ls.length:Int)+1+IntKind.u32.wrap 0)=dX ls.length+1:=by
      rw[pR (n:=0) (by omega) (by omega),pR (by omega) (by omega)];unfold dX;omega
     rw[this];rfl
    ·exact⟨rfl,trivial⟩
   ·have e0:my ns a b ls.length 1=iA ns a (dX ls.length+1,ls.length):=by rw[my,if_neg (by omega),if_pos rfl]
    rw[e0]
    have e3:([a,b]:List Int).getD (Int.toNat 1) default=b:=rfl
    rw[e3]
    have hpb:(((iA ns a (dX ls.length+1,ls.length)).getD b.toNat default).1.length:Int)<=1001:=by
     unfold iA
     by_cases hab:a.toNat=b.toNat
     ·rw[hab,iw (by omega)]
      have:=hports b b0 b1
      simp only[List.length_append,List.length_singleton];omega
     ·rw[kA hab]
      have:=hports b b0 b1;omega
    refine⟨by omega,by simp,b0,b1,by omega,by simp only[List.length_singleton];omega,b0,b1,2,_,⟨by omega,by omega,rfl⟩,by omega,?_⟩
    (repeat refine⟨(by with_reducible rfl),?_⟩)
    refine⟨af (by omega) (by omega),?_⟩
    (repeat refine⟨(by with_reducible rfl),?_⟩)
    refine⟨?_,?_⟩
    ·rw[my,if_neg (by omega),if_neg (by omega)]
     have:IntKind.u32.wrap (167837696+4*(ls.length:Int)+1+IntKind.u32.wrap 1)=dX ls.length+2:=by
      rw[pR (n:=1) (by omega) (by omega),pR (by omega) (by omega)];unfold dX;omega
     rw[this];rfl
    ·exact⟨rfl,trivial⟩
  ·have hk:=of_decide_eq_false hk
   have:k=2:=by omega
   subst this
   refine⟨rfl,?_⟩
   rw[my,if_neg (by omega),if_neg (by omega)]
   rfl
theorem WK:av Tryz.prog GL 49 Nv.spec:=Ct.okH _ Tryz.func49 (by kernel_rfl) (ah aA wA) au ai7 (aB (by kernel_rfl) VZ)
def yk(k:Int)(done:List Int)(f:Bool)(l:List Int):Prop:=(f=false/\l=done∧∀ x∈done,¬ k<x)∨(f=true/\l=iS k done∧∃ x∈done,k<x)
def Mc:Ct:=⟨[.box 119 wn,.val cI,.agg kD,.val cI,.val cI],[],fun d=>[inN d.1.1.1 d.2.1,bM (aV (d.1.1.1.getD d.2.1.toNat default)),okL (aV (d.1.1.1.getD d.2.1.toNat default)),∀ r∈aV (d.1.1.1.getD d.2.1.toNat default),(r.2.1.length:Int)<=1000],fun d=>((),(((oS d.1.1.1 d.2.1 d.2.2.1 d.2.2.2.1 d.2.2.2.2.1,d.1.1.2),d.1.2),()))⟩
def aw7:ar Mc.ps->ay:=(fun d=>{loops:=(fun n=>match n with|3=>some (fun S=>{ι:=Int,μ:=fun i=>((aV (d.1.1.1.getD d.2.1.toNat default)).length-i).toNat,inv:=fun i=>0<=i/\i<=(aV (d.1.1.1.getD d.2.1.toNat default)).length∧∀ r∈(aV (d.1.1.1.getD d.2.1.toNat default)).take i.toNat,decide (r.1=d.2.2.1)=false,keep:=[0,1,3,4,7,8,9,10],slots:=fun i=>[(11,.int .i64 i)],keepN:=[1048576,1048577,2097152,2097153,2097154,128],names:=fun i=>[]})|7=>some (fun S=>{ι:=Int,μ:=fun i=>(((aV (d.1.1.1.getD d.2.1.toNat default)).getD (S.i 11).toNat default).2.1.length-i).toNat,inv:=fun i=>0<=i/\i<=((aV (d.1.1.1.getD d.2.1.toNat default)).getD (S.i 11).toNat default).2.1.length∧∀ x∈((aV (d.1.1.1.getD d.2.1.toNat default)).getD (S.i 11).toNat default).2.1.take i.toNat,x≠d.2.2.2.1,keep:=[0,1,3,4,7,8,9,10,11],slots:=fun i=>[(12,.int .i64 i)],keepN:=[1048576,1048577,2097152,2097153,2097154,128],names:=fun i=>[]})|13=>some (fun S=>{ι:=Int×Bool×(List Int),qn:=⟨fun k_=>∀(k:Int)(f:Bool)(l:(List Int)),k_ (k,f,l),fun k_ h_ i=>h_ i.1 i.2.1 i.2.2,fun k_=>∃ (k:Int) (f:Bool) (l:(List Int)),k_ (k,f,l),fun k_ ⟨k,f,l,h_⟩=>⟨_,h_⟩⟩,μ:=fun i=>(((aV (d.1.1.1.getD d.2.1.toNat default)).getD (S.i 11).toNat default).2.1.length-i.1).toNat,inv:=fun i=>0<=i.1/\i.1<=((aV (d.1.1.1.getD d.2.1.toNat default)).getD (S.i 11).toNat default).2.1.length/\yk d.2.2.2.1 (((aV (d.1.1.1.getD d.2.1.toNat default)).getD (S.i 11).toNat default).2.1.take i.1.toNat) i.2.1 i.2.2,keep:=[0,1,3,4,7,8,9,10,11,13],slots:=fun i=>[(14,.bool i.2.1),(15,.int .i64 i.1)],keepN:=[1048576,1048577,2097152,2097153,2097154,128],names:=fun i=>[(224,.live (.cells 97 [.int .u32 d.2.2.1.1,.int .i64 d.2.2.1.2,.own 524288 1,.int .i64 ((aV (d.1.1.1.getD d.2.1.toNat default)).getD (S.i 11).toNat default).2.2])),(524288,.live (.row 3 cI i.2.2))]})|_=>none)})
def eM(a:List ac)(f:Int) :=
 a.getD f.toNat default
def lh(a:List ac)(f k:Int) :=
 List.getD (aV (eM a f)) k.toNat default
def oz(a:List ac)(f k:Int) :=
 List.getD (eM a f).2.2.2.2.1 k.toNat default
def lX(a:List ac)(f k:Int) :=
 ((List.length (lh a f k).2.1):Int)
def qy(a:List ac)(f:Int) :=
 ((List.length (eM a f).2.2.2.2.1):Int)
def uw(a:List ac)(f:Int) :=
 ((List.length (aV (eM a f))):Int)
def tV(a:List ac)(f k:Int) :=
 ((List.length (oz a f k).2.1):Int)
theorem Wc :
 ∀(a:List ac)(b:List aF)(c:List aN)(d:List Int)(e f g h i j:Int),(((a.length<=maxLen/\ ∀(k:ac),k∈a->CT.wf bH k)/\(b.length<=maxLen/\ ∀(k:aF),k∈b->CT.wf fy k)/\c.length<=maxLen/\ ∀(k:aN),k∈c->CT.wf dZ k)/\(d.length<=maxLen/\ ∀(k:Int),k∈d->0<=k/\k<=255)/\ab e)/\ab f/\((0<=g/\g<=4294967295)/\ab h)/\ab i/\ab j/\True->(inN a f/\bM (aV (eM a f))/\okL (aV (eM a f))/\ ∀(k:aD),k∈aV (eM a f)->(k.2.1.length:Int)<=1000)->0<=f/\f<(dJ a)/\(∃(k:Int),(0<=k/\k<=(uw a f)/\ ∀(l:aD),l∈List.take k.toNat (aV (eM a f))->decide (l.1=(g,h))=false)/\f=f/\i=i/\j=j/\f.toNat=f.toNat/\(0:Int)=k/\d=d/\e=e/\a=a/\b=b/\c=c/\g=g/\h=h/\True)/\ ∀(k:Int),(0<=k/\k<=(uw a f)/\ ∀(l:aD),l∈List.take k.toNat (aV (eM a f))->decide (l.1=(g,h))=false)->ad (decide (k<(qy a f))) (0<=k/\k<(qy a f)/\ad (decide ((oz a f
 k).1.1=g)&&(decide ((oz a f k).1.2=h)&&true)) ((∃(l:Int),(0<=l/\l<=(lX a f k)/\ ∀(m:Int),m∈List.take l.toNat (lh a f k).2.1->m≠i)/\f=f/\i=i/\j=j/\f.toNat=f.toNat/\k=k/\(0:Int)=l/\d=d/\e=e/\a=a/\b=b/\c=c/\g=g/\h=h/\True)/\ ∀(l:Int),(0<=l/\l<=(lX a f k)/\ ∀(m:Int),m∈List.take l.toNat (lh a f k).2.1->m≠i)->0<=k/\k<(qy a f)/\ad (decide (l<(tV a f k))) (0<=k/\k<(qy a f)/\0<=l/\l<(tV a f k)/\ad (decide (List.getD (oz a f k).2.1 l.toNat default=i)) (((a,b,c),d,e)=((oS a f (g,h) i j,b,c),d,e)) (∃(m:Int),(0<=m/\m<=(lX a f k)/\ ∀(n:Int),n∈List.take m.toNat (lh a f k).2.1->n≠i)/\Int.toNat ((lX a f k) -m)<Int.toNat ((lX a f k) -l)/\f=f/\i=i/\j=j/\f.toNat=f.toNat/\k=k/\IntKind.wrap .i64 (l+(1:Int))=m/\d=d/\e=e/\a=a/\b=b/\c=c/\g=g/\h=h/\True)) (0<=k/\k<(qy a f)/\(∃(m:Int) (n:Bool),∃(o:List Int),(0<=m/\m<=(lX a f k)/\yk i (List.take m.toNat (lh a
 f k).2.1) n o)/\f=f/\i=i/\j=j/\f.toNat=f.toNat/\k=k/\false=n/\(0:Int)=m/\d=d/\e=e/\a=a/\b=b/\c=c/\g=g/\h=h/\g=g/\h=h/\(oz a f k).2.2=(lh a f k).2.2/\o=([]:List Int)/\True)/\ ∀(m:Int)(n:Bool)(o:List Int),0<=m/\m<=(lX a f k)/\yk i (List.take m.toNat (lh a f k).2.1) n o->0<=k/\k<(qy a f)/\ad (decide (m<(tV a f k))) (∀(p:Bool),p= ! n->(p->(p->p)/\True)/\(p->(p->p)/\True)/\(p->(p->p)/\True)/\(p->(p->p)/\(p->p)/\0<=k/\k<(qy a f)/\True)/\(p->(p->p)/\True)/\(p->(p->p)/\True)/\(p->(p->p)/\(p->p)/\0<=m/\m<(tV a f k)/\True)/\(p->(p->p)/\True)/\(p->(p->p)/\(p->p)/\True)/\(p->p)/\ad (bif p then decide (i<List.getD (oz a f k).2.1 m.toNat default) else false) ((o.length+List.length [i])*(8:Nat)<=(mn)/\0<=k/\k<(qy a f)/\0<=m/\m<(tV a f k)/\(List.length (o++[i])+List.length [List.getD (oz a f k).2.1 m.toNat default])*(8:Nat)<=(mn)/\ ∃(q:Int)
 (r:Bool),∃(s:List Int),(0<=q/\q<=(lX a f k)/\yk i (List.take q.toNat (lh a f k).2.1) r s)/\Int.toNat ((lX a f k) -q)<Int.toNat ((lX a f k) -m)/\f=f/\i=i/\j=j/\f.toNat=f.toNat/\k=k/\true=r/\IntKind.wrap .i64 (m+(1:Int))=q/\d=d/\e=e/\a=a/\b=b/\c=c/\g=g/\h=h/\g=g/\h=h/\(lh a f k).2.2=(lh a f k).2.2/\o++[i]++[List.getD (oz a f k).2.1 m.toNat default]=s/\True) (0<=k/\k<(qy a f)/\0<=m/\m<(tV a f k)/\(o.length+List.length [List.getD (oz a f k).2.1 m.toNat default])*(8:Nat)<=(mn)/\ ∃(q:Int) (r:Bool),∃(s:List Int),(0<=q/\q<=(lX a f k)/\yk i (List.take q.toNat (lh a f k).2.1) r s)/\Int.toNat ((lX a f k) -q)<Int.toNat ((lX a f k) -m)/\f=f/\i=i/\j=j/\f.toNat=f.toNat/\k=k/\n=r/\IntKind.wrap .i64 (m+(1:Int))=q/\d=d/\e=e/\a=a/\b=b/\c=c/\g=g/\h=h/\g=g/\h=h/\(lh a f k).2.2=(lh a f k).2.2/\o++[List.getD (oz a f k).2.1 m.toNat default]=s/\True)) (ad (!
 n) ((o.length+List.length [i])*(8:Nat)<=(mn)/\bM (eM a f).2.2.2.2.1/\okL (eM a f).2.2.2.2.1/\((List.length (o++[i])):Int)<=1099511627776/\((List.set a f.toNat ((eM a f).1,(eM a f).2.1,(eM a f).2.2.1,(eM a f).2.2.2.1,dP (eM a f).2.2.2.2.1 ((g,h),o++[i],(lh a f k).2.2),(eM a f).2.2.2.2.2),b,c),d,e)=((oS a f (g,h) i j,b,c),d,e)) (bM (eM a f).2.2.2.2.1/\okL (eM a f).2.2.2.2.1/\(o.length:Int)<=1099511627776/\((List.set a f.toNat ((eM a f).1,(eM a f).2.1,(eM a f).2.2.1,(eM a f).2.2.2.1,dP (eM a f).2.2.2.2.1 ((g,h),o,(lh a f k).2.2),(eM a f).2.2.2.2.2),b,c),d,e)=((oS a f (g,h) i j,b,c),d,e))))) (∃(l:Int),(0<=l/\l<=(uw a f)/\ ∀(m:aD),m∈List.take l.toNat (aV (eM a f))->decide (m.1=(g,h))=false)/\Int.toNat ((uw a f) -l)<Int.toNat ((uw a f) -k)/\f=f/\i=i/\j=j/\f.toNat=f.toNat/\IntKind.wrap .i64
 (k+(1:Int))=l/\d=d/\e=e/\a=a/\b=b/\c=c/\g=g/\h=h/\True)) (bM (eM a f).2.2.2.2.1/\okL (eM a f).2.2.2.2.1/\((List.length [i]):Int)<=1099511627776/\((List.set a f.toNat ((eM a f).1,(eM a f).2.1,(eM a f).2.2.1,(eM a f).2.2.2.1,dP (eM a f).2.2.2.2.1 ((g,h),[i],j),(eM a f).2.2.2.2.2),b,c),d,e)=((oS a f (g,h) i j,b,c),d,e)):=by
  delta lh eM oz lX qy mn dJ uw tV
  rintro ns ls hs cl cp n a pl k way-⟨⟨n0,n1⟩,hsr,hol,hnx⟩
  have eR:(ns.getD n.toNat default).2.2.2.2.1=aV (ns.getD n.toNat default):=rfl
  simp only[eR]
  have fin:∀ l',sy (aV (ns.getD n.toNat default)) (a,pl) k way=l'→((ns.set n.toNat ((ns.getD n.toNat default).1,(ns.getD n.toNat default).2.1,(ns.getD n.toNat default).2.2.1,(ns.getD n.toNat default).2.2.2.1,l',(ns.getD n.toNat default).2.2.2.2.2),ls,hs),cl,cp)=((oS ns n (a,pl) k way,ls,hs),cl,cp):=by
   rintro _ rfl;rfl
  have same:sy (aV (ns.getD n.toNat default)) (a,pl) k way=aV (ns.getD n.toNat default)->((ns,ls,hs),cl,cp)=((oS ns n (a,pl) k way,ls,hs),cl,cp):=fun h=>by
   have h2:=fin _ h
   rw[← h2]
   have hn:n.toNat<ns.length:=by omega
   have e:((ns.getD n.toNat default).1,(ns.getD n.toNat default).2.1,(ns.getD n.toNat default).2.2.1,(ns.getD n.toNat default).2.2.2.1,aV (ns.getD n.toNat default),(ns.getD n.toNat default).2.2.2.2.2)=ns.getD n.toNat default:=rfl
   rw[e]
   have:ns.set n.toNat (ns.getD n.toNat default)=ns:=by
    rw[List.getD_eq_getElem?_getD,List.getElem?_eq_getElem hn,Option.getD_some,List.set_getElem_self]
   rw[this]
  generalize aV (ns.getD n.toNat default)=R at *
  have hlR:=hol.1
  refine⟨n0,n1,⟨0,⟨by omega,by omega,by simp⟩,(by repeat' first|exact trivial|refine⟨trivial,?_⟩|refine⟨(by with_reducible rfl),?_⟩|refine⟨af (by omega) (by omega),?_⟩|refine⟨rfl,?_⟩)⟩,?_⟩
  rintro i ⟨i0,i1,hi⟩
  refine ae (fun hk=>?_) (fun hk=>?_)
  rotate_left
  ·have hk:=of_decide_eq_false hk
   rw[List.take_of_length_le (by omega)] at hi
   refine⟨hsr,hol,by simp,fin _ ?_⟩
   have e:pb R (a,pl)=R.length:=List.findIdx_eq_length_of_false hi
   rw[sy,e,if_neg (Nat.lt_irrefl _)]
  have hk:=of_decide_eq_true hk
  refine⟨i0,hk,ae (fun hm=>?_) (fun hm=>?_)⟩
  rotate_left
  ·have hf:decide ((R.getD i.toNat default).1=(a,pl))=false:=by
    refine decide_eq_false fun q=>?_
    rw[q] at hm;simp at hm
   exact⟨i+1,⟨by omega,by omega,rM i0 hk hi hf⟩,by omega,(by repeat' first|exact trivial|refine⟨trivial,?_⟩|refine⟨(by with_reducible rfl),?_⟩|refine⟨af (by omega) (by omega),?_⟩|refine⟨rfl,?_⟩)⟩
  have hm:decide ((R.getD i.toNat default).1=(a,pl))=true:=by
   generalize R.getD i.toNat default=z at hm
   obtain⟨⟨z1,z2⟩,z3,z4⟩:=z
   simp at hm
   simp[hm]
  have hfi:i=if pb R (a,pl)<R.length then (pb R (a,pl):Int) else -1:=BM i0 hk hi hm
  have hfl:pb R (a,pl)<R.length:=Classical.byContradiction fun q=>by rw[if_neg q] at hfi;omega
  rw[if_pos hfl] at hfi
  have hfe:pb R (a,pl)=i.toNat:=by omega
  have hrl:=hnx _ (bL i0 hk)
  have eL:sy R (a,pl) k way=if k∈(R.getD i.toNat default).2.1 then R else dP R ((a,pl),iS k (R.getD i.toNat default).2.1,(R.getD i.toNat default).2.2):=by
   rw[sy,if_pos hfl,hfe]
  generalize hZ:R.getD i.toNat default=Z at *
  refine⟨⟨0,⟨by omega,by omega,by simp⟩,(by repeat' first|exact trivial|refine⟨trivial,?_⟩|refine⟨(by with_reducible rfl),?_⟩|refine⟨af (by omega) (by omega),?_⟩|refine⟨rfl,?_⟩)⟩,?_⟩
  rintro j ⟨j0,j1,hj⟩
  refine⟨i0,hk,ae (fun hjk=>?_) (fun hjk=>?_)⟩
  ·have hjk:=of_decide_eq_true hjk
   refine⟨i0,hk,j0,hjk,ae (fun he=>same ?_) (fun he=>?_)⟩
   ·have he:=of_decide_eq_true he
    rw[eL,if_pos (he▸bL j0 hjk)]
   ·exact⟨j+1,⟨by omega,by omega,rM (P:=fun x=>x≠k) j0 hjk hj (of_decide_eq_false he)⟩,by omega,(by repeat' first|exact trivial|refine⟨trivial,?_⟩|refine⟨(by with_reducible rfl),?_⟩|refine⟨af (by omega) (by omega),?_⟩|refine⟨rfl,?_⟩)⟩
  have hjk:=of_decide_eq_false hjk
  rw[List.take_of_length_le (by omega)] at hj
  have hnk:¬ k∈Z.2.1:=fun q=>hj k q rfl
  rw[if_neg hnk] at eL
  refine⟨i0,hk,⟨0,false,[],⟨by omega,by omega,.inl ⟨rfl,by simp,by simp⟩⟩,(by repeat' first|exact trivial|refine⟨trivial,?_⟩|refine⟨(by with_reducible rfl),?_⟩|refine⟨af (by omega) (by omega),?_⟩|refine⟨rfl,?_⟩)⟩,?_⟩
  rintro m f l ⟨m0,m1,hins⟩
  have hll:(l.length:Int)<=1001:=by
   rcases hins with⟨-,rfl,-⟩|⟨-,rfl,-⟩
   ·rw[List.length_take];omega
   ·rw[Fc,List.length_take];omega
  refine⟨i0,hk,ae (fun hmk=>?_) (fun hmk=>?_)⟩
  ·have hmk:=of_decide_eq_true hmk
   (repeat (intro (b_:Bool) (hb_:b_=_);(repeat refine⟨(by first|(simp +contextual;done)|(rw[hb_];simp +contextual;done)|(rw[hb_];simp;omega)|(rw[hb_];simp;intros;omega)|(rw[hb_];simp +contextual;intros;omega)|(intros;simp_all;done)|(intros;simp_all;omega)),?_⟩)));(repeat (subst hb_))
   refine su (fun h1 h2=>?_) (fun h1=>?_)
   ·have h1:f=false:=by simpa using h1
    have h2:=of_decide_eq_true h2
    subst h1
    rcases hins with⟨-,rfl,hin⟩|⟨q,-⟩
    ·refine⟨by simp only[List.length_singleton];omega,i0,hk,m0,hmk,by simp only[List.length_append,List.length_singleton];omega,m+1,true,_,⟨by omega,by omega,.inr ⟨rfl,rfl,Z.2.1.getD m.toNat default,?_,h2⟩⟩,by omega,?_⟩
     ·rw[mb m0 hmk];exact List.mem_append_right _ (by simp)
     ·(repeat first|refine⟨trivial,?_⟩|refine⟨(by with_reducible rfl),?_⟩|refine⟨af (by omega) (by omega),?_⟩)
      refine⟨?_,trivial⟩
      rw[mb m0 hmk,HW hin h2]
    ·cases q
   ·refine⟨i0,hk,m0,hmk,by simp only[List.length_singleton];omega,m+1,f,l++[Z.2.1.getD m.toNat default],⟨by omega,by omega,?_⟩,by omega,(by repeat' first|exact trivial|refine⟨trivial,?_⟩|refine⟨(by with_reducible rfl),?_⟩|refine⟨af (by omega) (by omega),?_⟩|refine⟨rfl,?_⟩)⟩
    rw[mb m0 hmk]
    rcases hins with⟨rfl,rfl,hin⟩|⟨rfl,rfl,hin⟩
    ·refine .inl ⟨rfl,rfl,fun x hx=>?_⟩
     rcases List.mem_append.1 hx with hx|hx
     ·exact hin x hx
     ·rw[List.mem_singleton.1 hx]
      rcases h1 with h1|h1
      ·cases h1
      ·exact of_decide_eq_false h1
    ·obtain⟨x,hx,hx2⟩:=hin
     exact .inr ⟨rfl,(IT ⟨x,hx,hx2⟩).symm,x,List.mem_append_left _ hx,hx2⟩
  have hmk:=of_decide_eq_false hmk
  rw[List.take_of_length_le (by omega)] at hins
  refine ae (fun hf=>?_) (fun hf=>?_)
  ·have hf:f=false:=by simpa using hf
   rcases hins with⟨-,rfl,hin⟩|⟨q,-⟩
   ·refine⟨by simp only[List.length_singleton];omega,hsr,hol,by simp only[List.length_append,List.length_singleton];omega,fin _ ?_⟩
    rw[eL,Jb hin]
   ·rw[hf] at q;cases q
  ·have hf:f=true:=by simpa using hf
   rcases hins with⟨q,-⟩|⟨-,rfl,hin⟩
   ·rw[hf] at q;cases q
   ·exact⟨hsr,hol,by omega,fin _ eL⟩
theorem ZR:av Tryz.prog GL 111 Mc.spec:=Ct.okH _ Tryz.func111 (by kernel_rfl) (ah aA Uh) au aw7 (aB (by kernel_rfl) Wc)
def SN(n:Nat)(to:Int):List Int:=(List.replicate n (1000:Int)).set to.toNat 0
def nB(n:Nat)(ls:List aF)(to:Int)(k:Nat):List Int:=(List.range k).foldl (fun d _=>ls.foldl oZ d) (SN n to)
theorem as9{n:Nat}{i:Int}(h0:0<=i)(h1:i<n):(List.replicate i.toNat (1000:Int)++List.replicate (n-i.toNat) 0).set i.toNat 1000=List.replicate (i+1).toNat 1000++List.replicate (n-(i+1).toNat) 0:=by
 have e:(i+1).toNat=i.toNat+1:=by omega
 have e2:n-i.toNat=(n-(i.toNat+1))+1:=by omega
 rw[e,e2,List.set_append_right _ _ (by simp),List.length_replicate,Nat.sub_self,List.replicate_succ,List.set_cons_zero,List.replicate_succ',List.append_assoc]
 rfl
def pj(n:Nat)(d:List Int):Prop:=d.length=n∧∀ x∈d,0<=x/\x<=1000
theorem Em{n:Nat}{d:List Int}{i:Nat}{v:Int}(h:pj n d)(h0:0<=v)(h1:v<=1000):pj n (d.set i v):=by
 refine⟨by rw[List.length_set];exact h.1,fun x hx=>?_⟩
 rcases List.mem_or_eq_of_mem_set hx with hx|rfl
 ·exact h.2 x hx
 ·exact⟨h0,h1⟩
theorem Mg{n:Nat}{d:List Int}(h:pj n d){i:Int}(h0:0<=i)(h1:i<n):0<=d.getD i.toNat default/\d.getD i.toNat default<=1000:=h.2 _ (bL h0 (by rw[h.1];exact h1))
theorem Qh{n:Nat}{d:List Int}{l:aF}(h:pj n d)(hl:0<=l.1/\l.1<n/\0<=l.2.1/\l.2.1<n):pj n (oZ d l):=by
 have ha:=Mg h hl.1 hl.2.1
 have hb:=Mg h hl.2.2.1 hl.2.2.2
 unfold oZ lA lB
 exact Em (Em h (by omega) (by omega)) (by omega) (by omega)
theorem EA{n:Nat}:∀{ls:List aF}{d:List Int},fX n ls->pj n d->pj n (ls.foldl oZ d)
 | [],d,_,h=>h
 | l::ls,d,hg,h=>EA (ls:=ls) (fun x hx=>hg x (List.mem_cons_of_mem _ hx)) (Qh h (hg l List.mem_cons_self))
theorem Q2{n:Nat}{ls:List aF}{d:List Int}(hg:fX n ls)(h:pj n d)(j:Nat):pj n ((ls.take j).foldl oZ d) :=
 EA (fun x hx=>hg x (List.mem_of_mem_take hx)) h
theorem FJ(n:Nat)(ls:List aF)(to:Int)(hg:fX n ls):∀ k,pj n (nB n ls to k)
 | 0=>Em ⟨List.length_replicate,fun x hx=>by rw[(List.mem_replicate.1 hx).2];omega⟩ (by omega) (by omega)
 | k+1=>by
  have:=EA hg (FJ n ls to hg k)
  unfold nB at this ⊢
  rw[List.range_succ,List.foldl_append];exact this
def Ks:Ct:=⟨[.box 119 wn,.val cI],[.own 3 cI],fun d=>[(d.1.1.1.length:Int)<=1000,(d.1.1.2.1.length:Int)<=1000,inN d.1.1.1 d.2.1,fX d.1.1.1.length d.1.1.2.1],fun d=>((cT d.1.1.1.length d.1.1.2.1 d.2.1,()),(d.1,()))⟩
def ad1:ar Ks.ps->ay:=(fun d=>{loops:=(fun n=>match n with|3=>some (fun S=>{ι:=Int×(List Int),qn:=⟨fun k_=>∀(i:Int)(l:(List Int)),k_ (i,l),fun k_ h_ i=>h_ i.1 i.2,fun k_=>∃ (i:Int) (l:(List Int)),k_ (i,l),fun k_ ⟨i,l,h_⟩=>⟨_,h_⟩⟩,μ:=fun i=>(d.1.1.1.length-i.1).toNat,inv:=fun i=>0<=i.1/\i.1<=d.1.1.1.length/\i.2=List.replicate i.1.toNat 1000++List.replicate (d.1.1.1.length-i.1.toNat) 0,keep:=[0,1],slots:=fun i=>[(6,.int .i64 i.1),(5,.own 524288 1)],keepN:=[1048576,1048577,2097152,2097153,2097154],names:=fun i=>[(524288,.live (.row 3 cI i.2))]})|8=>some (fun S=>{ι:=Int×(List Int),qn:=⟨fun k_=>∀(k:Int)(l:(List Int)),k_ (k,l),fun k_ h_ i=>h_ i.1 i.2,fun k_=>∃ (k:Int) (l:(List Int)),k_ (k,l),fun k_ ⟨k,l,h_⟩=>⟨_,h_⟩⟩,μ:=fun i=>(d.1.1.1.length-i.1).toNat,inv:=fun i=>0<=i.1/\i.1<=d.1.1.1.length/\i.2=nB d.1.1.1.length d.1.1.2.1 d.2.1 i.1.toNat,keep:=[0,1],slots:=fun i=>[(7,.int .i64 i.1),(5,.own 524288 1)],keepN:=[1048576,1048577,2097152,2097153,2097154],names:=fun i=>[(524288,.live (.row 3 cI i.2))]})|11=>some (fun S=>{ι:=Int×(List Int),qn:=⟨fun k_=>∀(i:Int)(l:(List Int)),k_ (i,l),fun k_ h_ i=>h_ i.1 i.2,fun k_=>∃ (i:Int) (l:(List Int)),k_ (i,l),fun k_ ⟨i,l,h_⟩=>⟨_,h_⟩⟩,μ:=fun i=>(d.1.1.2.1.length-i.1).toNat,inv:=fun i=>0<=i.1/\i.1<=d.1.1.2.1.length/\i.2=(d.1.1.2.1.take i.1.toNat).foldl oZ (nB d.1.1.1.length d.1.1.2.1 d.2.1 (S.i 7).toNat),keep:=[0,1,7],slots:=fun i=>[(8,.int .i64 i.1),(5,.own 524288 1)],keepN:=[1048576,1048577,2097152,2097153,2097154],names:=fun i=>[(524288,.live (.row 3 cI i.2))]})|_=>none)})
def jE(b:List aF)(k:Int) :=
 b.getD k.toNat default
def GU(b:List aF)(k:Int)(l:List Int) :=
 List.set l (Int.toNat (jE b k).1) (min (l.getD (Int.toNat (jE b k).1) default) (IntKind.wrap .i64 (l.getD (Int.toNat (jE b k).2.1) default+(1:Int))))
theorem W6 :
 ∀(a:List ac)(b:List aF)(c:List aN)(d:List Int)(e f:Int),(vR a b c d e)/\ab f/\True->((dJ a)<=1000/\(dF b)<=1000/\inN a f/\ ∀(g:aF),g∈b->0<=g.1/\g.1<(dJ a)/\0<=g.2.1/\g.2.1<(dJ a))->0<=(dJ a)/\(dJ a)<=(dJ a)/\(↑(8:Nat):Int)*(dJ a)<=281474976710656/\(∃(g:Int) (h:List Int),(0<=g/\g<=(dJ a)/\h=List.replicate g.toNat (1000:Int)++List.replicate (a.length -g.toNat) (0:Int))/\f=f/\(0:Int)=g/\d=d/\e=e/\a=a/\b=b/\c=c/\List.replicate (Int.toNat (dJ a)) (0:Int)=h/\True)/\ ∀(g:Int)(h:List Int),0<=g/\g<=(dJ a)/\h=List.replicate g.toNat (1000:Int)++List.replicate (a.length -g.toNat) (0:Int)->ad (decide (g<(h.length:Int))) (0<=g/\g<(h.length:Int)/\ ∃(i:Int) (j:List Int),(0<=i/\i<=(dJ a)/\j=List.replicate i.toNat (1000:Int)++List.replicate (a.length -i.toNat) (0:Int))/\Int.toNat ((dJ a) -i)<Int.toNat ((dJ a) -g)/\f=f/\IntKind.wrap .i64
 (g+(1:Int))=i/\d=d/\e=e/\a=a/\b=b/\c=c/\List.set h g.toNat (1000:Int)=j/\True) (0<=f/\f<(h.length:Int)/\(∃(i:Int) (j:List Int),(0<=i/\i<=(dJ a)/\j=nB a.length b f i.toNat)/\f=f/\(0:Int)=i/\d=d/\e=e/\a=a/\b=b/\c=c/\List.set h f.toNat (0:Int)=j/\True)/\ ∀(i:Int)(j:List Int),0<=i/\i<=(dJ a)/\j=nB a.length b f i.toNat->ad (decide (i<(j.length:Int))) ((∃(k:Int) (l:List Int),(0<=k/\k<=(dF b)/\l=List.foldl oZ (nB a.length b f i.toNat) (List.take k.toNat b))/\f=f/\i=i/\(0:Int)=k/\d=d/\e=e/\a=a/\b=b/\c=c/\j=l/\True)/\ ∀(k:Int)(l:List Int),0<=k/\k<=(dF b)/\l=List.foldl oZ (nB a.length b f i.toNat) (List.take k.toNat b)->ad (decide (k<(dF b))) (0<=k/\k<(dF b)/\0<=(jE b k).1/\(jE b k).1<(l.length:Int)/\0<=(jE b k).2.1/\(jE b k).2.1<(l.length:Int)/\0<=(jE b k).2.1/\(jE b k).2.1<(l.length:Int)/\0<=(jE b k).1/\(jE b
 k).1<(l.length:Int)/\0<=(jE b k).1/\(jE b k).1<(l.length:Int)/\0<=(jE b k).2.1/\(jE b k).2.1<((List.length (GU b k l)):Int)/\ ∃(m:Int) (n:List Int),(0<=m/\m<=(dF b)/\n=List.foldl oZ (nB a.length b f i.toNat) (List.take m.toNat b))/\Int.toNat ((dF b) -m)<Int.toNat ((dF b) -k)/\f=f/\i=i/\IntKind.wrap .i64 (k+(1:Int))=m/\d=d/\e=e/\a=a/\b=b/\c=c/\List.set (GU b k l) (Int.toNat (jE b k).2.1) (min (l.getD (Int.toNat (jE b k).2.1) default) (IntKind.wrap .i64 (l.getD (Int.toNat (jE b k).1) default+(1:Int))))=n/\True) (∃(m:Int) (n:List Int),(0<=m/\m<=(dJ a)/\n=nB a.length b f m.toNat)/\Int.toNat ((dJ a) -m)<Int.toNat ((dJ a) -i)/\f=f/\IntKind.wrap .i64 (i+(1:Int))=m/\d=d/\e=e/\a=a/\b=b/\c=c/\l=n/\True)) (j=cT a.length b f/\((a,b,c),d,e)=((a,b,c),d,e))):=by
  delta vR jE dF GU dJ
  rintro ns ls hs l p to-⟨h1,h2,⟨t0,t1⟩,hg⟩
  have hn0:Int.toNat (ns.length:Int)=ns.length:=by omega
  refine⟨by omega,by omega,by omega,⟨0,_,⟨by omega,by omega,rfl⟩,?_⟩,?_⟩
  ·(repeat refine⟨(by with_reducible rfl),?_⟩)
   refine⟨?_,trivial⟩
   simp
  rintro i d ⟨i0,i1,rfl⟩
  have hlen:(List.replicate i.toNat (1000:Int)++List.replicate (ns.length-i.toNat) 0).length=ns.length:=by
   simp only[List.length_append,List.length_replicate];omega
  rw[hlen]
  refine ae (fun hk=>?_) (fun hk=>?_)
  ·have hk:=of_decide_eq_true hk
   refine⟨i0,hk,i+1,_,⟨by omega,by omega,rfl⟩,by omega,?_⟩
   (repeat refine⟨(by with_reducible rfl),?_⟩)
   refine⟨af (by omega) (by omega),?_⟩
   (repeat refine⟨(by with_reducible rfl),?_⟩)
   refine⟨?_,trivial⟩
   exact as9 i0 hk
  have hk:=of_decide_eq_false hk
  have e:i.toNat=ns.length:=by omega
  rw[e,Nat.sub_self,List.replicate_zero,List.append_nil]
  refine⟨t0,t1,⟨0,_,⟨by omega,by omega,rfl⟩,?_⟩,?_⟩
  ·(repeat refine⟨(by with_reducible rfl),?_⟩)
   exact⟨rfl,trivial⟩
  rintro k d ⟨k0,k1,rfl⟩
  have dl:=FJ (ns.length) ls to hg
  rw[(dl k.toNat).1]
  refine ae (fun hk2=>?_) (fun hk2=>?_)
  rotate_left
  ·have hk2:=of_decide_eq_false hk2
   have e:k.toNat=ns.length:=by omega
   rw[e];exact⟨rfl,rfl⟩
  have hk2:=of_decide_eq_true hk2
  refine⟨⟨0,_,⟨by omega,by omega,rfl⟩,?_⟩,?_⟩
  ·(repeat refine⟨(by with_reducible rfl),?_⟩)
   exact⟨rfl,trivial⟩
  rintro j d ⟨j0,j1,rfl⟩
  have fl:=Q2 hg (dl k.toNat) j.toNat
  refine ae (fun hj=>?_) (fun hj=>?_)
  rotate_left
  ·have hj:=of_decide_eq_false hj
   refine⟨k+1,_,⟨by omega,by omega,rfl⟩,by omega,?_⟩
   (repeat refine⟨(by with_reducible rfl),?_⟩)
   refine⟨af (by omega) (by omega),?_⟩
   (repeat refine⟨(by with_reducible rfl),?_⟩)
   refine⟨?_,trivial⟩
   rw[List.take_of_length_le (by omega),show (k+1).toNat=k.toNat+1 by omega]
   unfold nB
   rw[List.range_succ,List.foldl_append];rfl
  have hj:=of_decide_eq_true hj
  obtain⟨g1,g2,g3,g4⟩:=hg _ (bL j0 hj)
  generalize hX:List.foldl oZ (nB ns.length ls to k.toNat) (ls.take j.toNat)=X at fl
  have xa:=fl.2 _ (bL g1 (show _<(X.length:Int) by rw[fl.1];exact g2))
  have xb:=fl.2 _ (bL g3 (show _<(X.length:Int) by rw[fl.1];exact g4))
  simp only[List.length_set]
  rw[fl.1]
  refine⟨j0,hj,g1,g2,g3,g4,g3,g4,g1,g2,g1,g2,g3,g4,j+1,_,⟨by omega,by omega,rfl⟩,by omega,?_⟩
  (repeat first|refine⟨trivial,?_⟩|refine⟨(by with_reducible rfl),?_⟩|refine⟨af (by omega) (by omega),?_⟩)
  refine⟨?_,trivial⟩
  rw[af (by omega) (by omega),af (by omega) (by omega),mb j0 hj,List.foldl_append,hX]
  rfl
theorem Wd:av Tryz.prog GL 109 Ks.spec:=Ct.okH _ Tryz.func109 (by kernel_rfl) aA au ad1 (aB (by kernel_rfl) W6)
def O0:Ct:=⟨[.val (.sl cu),.agg kD],[.val .bool],fun d=>[okL d.1],fun d=>((lZ d.1 d.2.1,()),())⟩
def Z3:ar O0.ps->ay:=(fun _=>{})
theorem ae3 :
 ∀(a:List aD)(b c:Int),(a.length<=maxLen/\ ∀(d:aD),d∈a->((0<=d.1.1/\d.1.1<=4294967295)/\ab d.1.2)/\(d.2.1.length<=maxLen/\ ∀(e:Int),e∈d.2.1->ab e)/\ab d.2.2)/\((0<=b/\b<=4294967295)/\ab c)/\True->((a.length:Int)<=134217728/\ ∀(d:Rt),d∈a->(d.2.1.length:Int)<=1099511627776)->okL a/\lZ a (b,c)=lZ a (b,c):=by
  rintro l a n-h
  exact⟨h,rfl⟩
theorem Re:av Tryz.prog GL 110 O0.spec:=Ct.okH _ Tryz.func110 (by kernel_rfl) (ah aA Wv) au Z3 (aB (by kernel_rfl) ae3)
def IA:Ct:=⟨[.box 109 f6],[.val ck],fun d=>[az d.1],fun d=>((IntKind.u32.wrap (167837696+(aj d.1 40).1),()),((aj d.1 40).2,()))⟩
def Xk:ar IA.ps->ay:=(fun _=>{})
theorem an2 :
 ∀(a:List Int)(b:Int),((a.length<=maxLen/\ ∀(c:Int),c∈a->0<=c/\c<=255)/\ab b)/\True->0<=b/\b<=(a.length:Int)->az (a,b)/\IntKind.wrap .u32 (IntKind.wrap .i64 ((167837696:Int)+(aj (a,b) (40:Int)).1))=IntKind.wrap .u32 ((167837696:Int)+(aj (a,b) (40:Int)).1)/\(aj (a,b) (40:Int)).2=(aj (a,b) (40:Int)).2:=by
  rintro l p ⟨⟨⟨hl,hw⟩,-⟩,-⟩ hc
  have hok:bS (l,p):=⟨hc,hw⟩
  have r2:=cV hok (n:=40) (by omega)
  refine⟨hc,?_,rfl⟩
  rw[af (n:=167837696+_) (by omega) (by omega)]
theorem Qj:av Tryz.prog GL 112 IA.spec:=Ct.okH _ Tryz.func112 (by kernel_rfl) (ah aA wA) au Xk (aB (by kernel_rfl) an2)
def mh(d:List Int)(to:Int)(p:cM)(plain:Bool)(k way:Int)(ns:List ac)(l:aF)(e:Int):List ac :=
 if e=0 then ns else if e=1 then oF d to p plain k way ns (lA l) (lB l) else oF d to p plain k way (oF d to p plain k way ns (lA l) (lB l)) (lB l) (lA l)
structure preR (s:aR):Prop where
 c:az s.2
 n:(s.1.1.length:Int)<=1000
 l:(s.1.2.1.length:Int)<=1000
 g:fX s.1.1.length s.1.2.1
 r:∀ x∈s.1.1,aV x=[]
 a:((f9 s.1.1).length:Int)<=100000
theorem ZE{ns:List ac}{i:Nat}(hi:i<ns.length):(aC (ns.getD i default)).length<=(f9 ns).length:=by
 have hx:ns.getD i default∈ns:=by
  have:=bL (xs:=ns) (i:=(i:Nat)) (by omega) (by omega)
  simpa using this
 unfold f9
 generalize ns.getD i default=x at hx ⊢
 obtain⟨u,v,e⟩:=List.append_of_mem hx
 rw[e];simp only[List.flatMap_append,List.flatMap_cons,List.length_append,List.length_map];omega
theorem RI.pre{ls:List aF}{ns0 ns:List ac}(h:RI ls (f9 ns0) ns0 ns)(ha:((f9 ns0).length:Int)<=100000)(hl:(ls.length:Int)<=1000){u:Int}(u0:0<=u)(u1:u<ns0.length) :
  inN ns u/\bM (aV (ns.getD u.toNat default))/\okL (aV (ns.getD u.toNat default))∧∀ r∈aV (ns.getD u.toNat default),(r.2.1.length:Int)<=1000:=by
 have t:=h.t u.toNat (by omega)
 have tl:=Fd t
 have rl:∀ r∈aV (ns.getD u.toNat default),(r.2.1.length:Int)<=1000:=fun r hr=>by have:=DY (t.2 r hr);omega
 refine⟨⟨u0,by rw[h.n];exact u1⟩,t.1,⟨by omega,fun r hr=>?_⟩,rl⟩
 have:=rl r hr;omega
def Ia:Ct:=⟨[.box 119 wn,.val .bool],[],fun d=>[preR d.1],fun d=>((),(xx d.1 d.2.1,()))⟩
def ar1:ar Ia.ps->ay:=(fun d=>{loops:=(fun n=>match n with|1=>some (fun S=>{ι:=Int×(List ac)×aH,qn:=⟨fun k_=>∀(to:Int)(ns:(List ac))(cs:aH),k_ (to,ns,cs),fun k_ h_ i=>h_ i.1 i.2.1 i.2.2,fun k_=>∃ (to:Int) (ns:(List ac)) (cs:aH),k_ (to,ns,cs),fun k_ ⟨to,ns,cs,h_⟩=>⟨_,h_⟩⟩,μ:=fun i=>(d.1.1.1.length-i.1).toNat,inv:=fun i=>0<=i.1/\i.1<=d.1.1.1.length/\(i.2.1,i.2.2)=(List.range i.1.toNat).foldl (stepT d.1.1.2.1 d.2.1) (d.1.1.1,d.1.2),keep:=[0,1],slots:=fun i=>[(4,.int .i64 i.1)],names:=fun i=>[(1048576,.live (.cells 119 [.own 524288 16,.own 524289 6,.own 524290 7,.ptr 1048577 0])),(524288,.live (.row 107 bH i.2.1)),(524289,.live (.row 99 fy d.1.1.2.1)),(524290,.live (.row 129 dZ d.1.1.2.2)),(1048577,.live (.cells 109 (cy f6 i.2.2)))]})|9=>some (fun S=>{ι:=Int×(List ac),qn:=⟨fun k_=>∀(i:Int)(ns:(List ac)),k_ (i,ns),fun k_ h_ i=>h_ i.1 i.2,fun k_=>∃ (i:Int) (ns:(List ac)),k_ (i,ns),fun k_ ⟨i,ns,h_⟩=>⟨_,h_⟩⟩,μ:=fun i=>((S.l qB 7).length-i.1).toNat,inv:=fun i=>0<=i.1/\i.1<=(S.l qB 7).length/\i.2=((S.l qB 7).take i.1.toNat).foldl (stepP d.1.1.2.1 (cT d.1.1.1.length d.1.1.2.1 (S.i 4)) (S.i 4) d.2.1 (S.i 6)) (S.r bH 449),keep:=[0,1,4,5,6,7],slots:=fun i=>[(8,.int .i64 i.1)],keepN:=[448,1048577],names:=fun i=>[(1048576,.live (.cells 119 [.own 524288 16,.own 524289 6,.own 524290 7,.ptr 1048577 0])),(524288,.live (.row 107 bH i.2)),(524289,.live (.row 99 fy d.1.1.2.1)),(524290,.live (.row 129 dZ d.1.1.2.2))]})|13=>some (fun S=>{ι:=Int×(List ac),qn:=⟨fun k_=>∀(k:Int)(ns:(List ac)),k_ (k,ns),fun k_ h_ i=>h_ i.1 i.2,fun k_=>∃ (k:Int) (ns:(List ac)),k_ (k,ns),fun k_ ⟨k,ns,h_⟩=>⟨_,h_⟩⟩,μ:=fun i=>(d.1.1.2.1.length-i.1).toNat,inv:=fun i=>0<=i.1/\i.1<=d.1.1.2.1.length/\i.2=(List.range i.1.toNat).foldl (stepK d.1.1.2.1 (cT d.1.1.1.length d.1.1.2.1 (S.i 4)) (S.i 4) (S.c kD 160) d.2.1 (S.i 6)) (S.r bH 524288),keep:=[0,1,4,5,6,7,8,9],slots:=fun i=>[(10,.int .i64 i.1)],keepN:=[160,448,1048577],names:=fun i=>[(1048576,.live (.cells 119 [.own 524288 16,.own 524289 6,.own 524290 7,.ptr 1048577 0])),(524288,.live (.row 107 bH i.2)),(524289,.live (.row 99 fy d.1.1.2.1)),(524290,.live (.row 129 dZ d.1.1.2.2))]})|18=>some (fun S=>{ι:=Int×(List ac),qn:=⟨fun k_=>∀(e:Int)(ns:(List ac)),k_ (e,ns),fun k_ h_ i=>h_ i.1 i.2,fun k_=>∃ (e:Int) (ns:(List ac)),k_ (e,ns),fun k_ ⟨e,ns,h_⟩=>⟨_,h_⟩⟩,μ:=fun i=>(2-i.1).toNat,inv:=fun i=>0<=i.1/\i.1<=2/\i.2=mh (cT d.1.1.1.length d.1.1.2.1 (S.i 4)) (S.i 4) (S.c kD 160) d.2.1 (S.i 10) (S.i 6) (S.r bH 524288) (S.c fy 192) i.1,keep:=[0,1,4,5,6,7,8,9,10,11,12],slots:=fun i=>[(13,.int .i64 i.1)],keepN:=[160,192,448,1504,1048577],names:=fun i=>[(1048576,.live (.cells 119 [.own 524288 16,.own 524289 6,.own 524290 7,.ptr 1048577 0])),(524288,.live (.row 107 bH i.2)),(524289,.live (.row 99 fy d.1.1.2.1)),(524290,.live (.row 129 dZ d.1.1.2.2))]})|_=>none),cuts:=(fun n=>match n with|7=>some (fun S=>{ι:=Int×aH,qn:=⟨fun k_=>∀(way:Int)(cs:aH),k_ (way,cs),fun k_ h_ i=>h_ i.1 i.2,fun k_=>∃ (way:Int) (cs:aH),k_ (way,cs),fun k_ ⟨way,cs,h_⟩=>⟨_,h_⟩⟩,inv:=fun i=>(i.1,i.2)=lO ((List.range (S.i 4).toNat).foldl (stepT d.1.1.2.1 d.2.1) (d.1.1.1,d.1.2)).2,keep:=[0,1,4,5],slots:=fun i=>[(6,.int .i64 i.1)],keepN:=[448,1048576,449,450,451],names:=fun i=>[(1048577,.live (.cells 109 (cy f6 i.2)))]})|_=>none)})
def cj(b:List aF)(n:Int) :=
 b.getD n.toNat default
def oJ(b:List aF)(n:Int) :=
 ((cj b n).2.1,(cj b n).1)
def o8(b:List aF)(n:Int) :=
 ((cj b n).1,(cj b n).2.1)
def js(b:List aF)(n p:Int) :=
 List.getD [(o8 b n),(oJ b n)] p.toNat default
def iM(g:Int)(h:List ac) :=
 h.getD g.toNat default
def lS(g:Int)(h:List ac)(l:Int) :=
 List.getD (iM g h).1 l.toNat default
def sQ(r s:Bool) :=
 (! r&&s)->((! r&&s)->(! r&&s))/\True
def sO(g:Int)(h:List ac) :=
 ((List.length (iM g h).1):Int)
def o9(g:Int)(h:List ac)(l:Int) :=
 ((lS g h l).1,(32:Int))
def uX(i:aH) :=
 aj (aj i 3).2 (3:Int)
theorem Sr :
 ∀(a:List ac)(b:List aF)(c:List aN)(d:List Int)(e:Int)(f:Bool),(vR a b c d e)/\True/\True->preR ((a,b,c),d,e)->(∃(g:Int) (h:List ac),∃(i:aH),(0<=g/\g<=(dJ a)/\(h,i)=List.foldl (stepT b f) (a,d,e) (List.range g.toNat))/\f=f/\(0:Int)=g/\a=h/\b=b/\c=c/\d=i.1/\e=i.2/\True)/\ ∀(g:Int)(h:List ac)(i:aH),0<=g/\g<=(dJ a)/\(h,i)=List.foldl (stepT b f) (a,d,e) (List.range g.toNat)->ad (decide (g<(h.length:Int))) ((h.length:Int)<=1000/\(dF b)<=1000/\inN h g/\fX h.length b/\az i/\(∀(j:Bool),j=decide (IntKind.wrap .i64 ((1:Int)+(aj i 3).1)=3)->(j->(j->j)/\True)/\(j->(j->j)/\True)/\(j->(j->j)/\True)/\ad j ((j->j)/\az (aj i 3).2/\(j->j)/\ad (bif j then decide (0<(uX i).1) else false) (∃(k:Int) (l:aH),(k,l)=lO (List.foldl (stepT b f) (a,d,e) (List.range g.toNat)).2/\f=f/\g=g/\(1:Int)=k/\cT h.length b g=cT h.length b
 g/\h=h/\b=b/\c=c/\(uX i).2.1=l.1/\(uX i).2.2=l.2/\True) (∃(k:Int) (l:aH),(k,l)=lO (List.foldl (stepT b f) (a,d,e) (List.range g.toNat)).2/\f=f/\g=g/\IntKind.wrap .i64 ((1:Int)+(aj i 3).1)=k/\cT h.length b g=cT h.length b g/\h=h/\b=b/\c=c/\(uX i).2.1=l.1/\(uX i).2.2=l.2/\True)) (j=false/\(j->false=true)/\ad (bif j then false else false) (∃(k:Int) (l:aH),(k,l)=lO (List.foldl (stepT b f) (a,d,e) (List.range g.toNat)).2/\f=f/\g=g/\(1:Int)=k/\cT h.length b g=cT h.length b g/\h=h/\b=b/\c=c/\(aj i 3).2.1=l.1/\(aj i 3).2.2=l.2/\True) (∃(k:Int) (l:aH),(k,l)=lO (List.foldl (stepT b f) (a,d,e) (List.range g.toNat)).2/\f=f/\g=g/\IntKind.wrap .i64 ((1:Int)+(aj i 3).1)=k/\cT h.length b g=cT h.length b g/\h=h/\b=b/\c=c/\(aj i 3).2.1=l.1/\(aj i 3).2.2=l.2/\True)))/\ ∀(j:Int)(k:aH),(j,k)=lO (List.foldl (stepT b f) (a,d,e) (List.range
 g.toNat)).2->0<=g/\g<(h.length:Int)/\(∃(l:Int) (m:List ac),(0<=l/\l<=(sO g h)/\m=List.foldl (stepP b (cT a.length b g) g f j) h (List.take l.toNat (iM g h).1))/\f=f/\g=g/\j=j/\(iM g h).1=(iM g h).1/\(0:Int)=l/\cT h.length b g=cT h.length b g/\k.1=k.1/\k.2=k.2/\h=m/\b=b/\c=c/\True)/\ ∀(l:Int)(m:List ac),0<=l/\l<=(sO g h)/\m=List.foldl (stepP b (cT a.length b g) g f j) h (List.take l.toNat (iM g h).1)->ad (decide (l<(sO g h))) (0<=l/\l<(sO g h)/\(∃(n:Int) (o:List ac),(0<=n/\n<=(dF b)/\o=List.foldl (stepK b (cT a.length b g) g (o9 g h l) f j) m (List.range n.toNat))/\f=f/\g=g/\j=j/\(iM g h).1=(iM g h).1/\l=l/\(0:Int)=n/\(lS g h l).1=(lS g h l).1/\(32:Int)=32/\cT h.length b g=cT h.length b g/\k.1=k.1/\k.2=k.2/\m=o/\b=b/\c=c/\True)/\ ∀(n:Int)(o:List ac),0<=n/\n<=(dF b)/\o=List.foldl (stepK b (cT a.length b g) g
 (o9 g h l) f j) m (List.range n.toNat)->ad (decide (n<(dF b))) (0<=n/\n<(dF b)/\(∃(p:Int) (q:List ac),(0<=p/\p<=2/\q=mh (cT a.length b g) g (o9 g h l) f n j o (cj b n) p)/\f=f/\g=g/\j=j/\(iM g h).1=(iM g h).1/\l=l/\n=n/\(0:Int)=p/\(lS g h l).1=(lS g h l).1/\(32:Int)=32/\(cj b n).1=(cj b n).1/\(cj b n).2.1=(cj b n).2.1/\(cj b n).2.2.1=(cj b n).2.2.1/\(cj b n).2.2.2.1=(cj b n).2.2.2.1/\(cj b n).2.2.2.2.1=(cj b n).2.2.2.2.1/\(cj b n).2.2.2.2.2=(cj b n).2.2.2.2.2/\cT h.length b g=cT h.length b g/\[(o8 b n),(oJ b n)]=[(o8 b n),(oJ b n)]/\k.1=k.1/\k.2=k.2/\o=q/\b=b/\c=c/\True)/\ ∀(p:Int)(q:List ac),0<=p/\p<=2/\q=mh (cT a.length b g) g (o9 g h l) f n j o (cj b n) p->ad (decide (p<2)) (0<=p/\p<((List.length [(o8 b n),(oJ b n)]):Int)/\0<=(js b n p).1/\(js b n p).1<((List.length (cT h.length b
 g)):Int)/\0<=(js b n p).2/\(js b n p).2<((List.length (cT h.length b g)):Int)/\ ∀(r:Bool),r= ! decide (List.getD (cT h.length b g) (Int.toNat (js b n p).1) default=IntKind.wrap .i64 (List.getD (cT h.length b g) (Int.toNat (js b n p).2) default+(1:Int)))->((! r)->((! r)->(! r))/\True)/\((! r)->((! r)->(! r))/\((! r)->(! r))/\True)/\((! r)->((! r)->(! r))/\True)/\ ∀(s:Bool),s= ! decide ((js b n p).2=g)->(sQ r s)/\(sQ r s)/\(sQ r s)/\(sQ r s)/\(sQ r s)/\((! r&&s)->((! r&&s)->(! r&&s))/\((! r&&s)->(! r&&s))/\0<=(js b n p).2/\(js b n p).2<(q.length:Int)/\True)/\(sQ r s)/\(sQ r s)/\((! r)->((! r)->(! r))/\(s->(! r&&s))/\True)/\(r=false->(! r))/\ad (bif r then true else bif s then (q.getD (Int.toNat (js b n p).2) default).2.2.2.1 else false) (∃(t:Int) (u:List ac),(0<=t/\t<=2/\u=mh (cT a.length b g) g (o9 g h l) f n j o (cj b n)
 t)/\Int.toNat ((2:Int) -t)<Int.toNat ((2:Int) -p)/\f=f/\g=g/\j=j/\(iM g h).1=(iM g h).1/\l=l/\n=n/\IntKind.wrap .i64 (p+(1:Int))=t/\(lS g h l).1=(lS g h l).1/\(32:Int)=32/\(cj b n).1=(cj b n).1/\(cj b n).2.1=(cj b n).2.1/\(cj b n).2.2.1=(cj b n).2.2.1/\(cj b n).2.2.2.1=(cj b n).2.2.2.1/\(cj b n).2.2.2.2.1=(cj b n).2.2.2.2.1/\(cj b n).2.2.2.2.2=(cj b n).2.2.2.2.2/\cT h.length b g=cT h.length b g/\[(o8 b n),(oJ b n)]=[(o8 b n),(oJ b n)]/\k.1=k.1/\k.2=k.2/\q=u/\b=b/\c=c/\True) (∀(t:Bool),t=f->(t->(t->t)/\True)/\(t->(t->t)/\True)/\(t->(t->t)/\True)/\(t->(t->t)/\True)/\(t->(t->t)/\True)/\(t->(t->t)/\(t->t)/\0<=(js b n p).1/\(js b n p).1<(q.length:Int)/\True)/\(t->(t->t)/\True)/\(t->(t->t)/\True)/\(t->(t->t)/\(t->t)/\okL (q.getD (Int.toNat (js b n p).1) default).2.2.2.2.1/\True)/\(t->t)/\ad (bif t then lZ (q.getD (Int.toNat (js b
 n p).1) default).2.2.2.2.1 (o9 g h l) else false) (∃(u:Int) (v:List ac),(0<=u/\u<=2/\v=mh (cT a.length b g) g (o9 g h l) f n j o (cj b n) u)/\Int.toNat ((2:Int) -u)<Int.toNat ((2:Int) -p)/\f=f/\g=g/\j=j/\(iM g h).1=(iM g h).1/\l=l/\n=n/\IntKind.wrap .i64 (p+(1:Int))=u/\(lS g h l).1=(lS g h l).1/\(32:Int)=32/\(cj b n).1=(cj b n).1/\(cj b n).2.1=(cj b n).2.1/\(cj b n).2.2.1=(cj b n).2.2.1/\(cj b n).2.2.2.1=(cj b n).2.2.2.1/\(cj b n).2.2.2.2.1=(cj b n).2.2.2.2.1/\(cj b n).2.2.2.2.2=(cj b n).2.2.2.2.2/\cT h.length b g=cT h.length b g/\[(o8 b n),(oJ b n)]=[(o8 b n),(oJ b n)]/\k.1=k.1/\k.2=k.2/\q=v/\b=b/\c=c/\True) (inN q (js b n p).1/\bM (aV (q.getD (Int.toNat (js b n p).1) default))/\okL (aV (q.getD (Int.toNat (js b n p).1) default))/\(∀(u:aD),u∈aV (q.getD (Int.toNat (js b n p).1)
 default)->(u.2.1.length:Int)<=1000)/\ ∃(u:Int) (v:List ac),(0<=u/\u<=2/\v=mh (cT a.length b g) g (o9 g h l) f n j o (cj b n) u)/\Int.toNat ((2:Int) -u)<Int.toNat ((2:Int) -p)/\f=f/\g=g/\j=j/\(iM g h).1=(iM g h).1/\l=l/\n=n/\IntKind.wrap .i64 (p+(1:Int))=u/\(lS g h l).1=(lS g h l).1/\(32:Int)=32/\(cj b n).1=(cj b n).1/\(cj b n).2.1=(cj b n).2.1/\(cj b n).2.2.1=(cj b n).2.2.1/\(cj b n).2.2.2.1=(cj b n).2.2.2.1/\(cj b n).2.2.2.2.1=(cj b n).2.2.2.2.1/\(cj b n).2.2.2.2.2=(cj b n).2.2.2.2.2/\cT h.length b g=cT h.length b g/\[(o8 b n),(oJ b n)]=[(o8 b n),(oJ b n)]/\k.1=k.1/\k.2=k.2/\oS q (js b n p).1 (o9 g h l) n j=v/\b=b/\c=c/\True))) (∃(r:Int) (s:List ac),(0<=r/\r<=(dF b)/\s=List.foldl (stepK b (cT a.length b g) g (o9 g h l) f j) m (List.range r.toNat))/\Int.toNat ((dF b) -r)<Int.toNat ((dF b)
 -n)/\f=f/\g=g/\j=j/\(iM g h).1=(iM g h).1/\l=l/\IntKind.wrap .i64 (n+(1:Int))=r/\(lS g h l).1=(lS g h l).1/\(32:Int)=32/\cT h.length b g=cT h.length b g/\k.1=k.1/\k.2=k.2/\q=s/\b=b/\c=c/\True)) (∃(p:Int) (q:List ac),(0<=p/\p<=(sO g h)/\q=List.foldl (stepP b (cT a.length b g) g f j) h (List.take p.toNat (iM g h).1))/\Int.toNat ((sO g h) -p)<Int.toNat ((sO g h) -l)/\f=f/\g=g/\j=j/\(iM g h).1=(iM g h).1/\IntKind.wrap .i64 (l+(1:Int))=p/\cT h.length b g=cT h.length b g/\k.1=k.1/\k.2=k.2/\o=q/\b=b/\c=c/\True)) (∃(n:Int) (o:List ac),∃(p:aH),(0<=n/\n<=(dJ a)/\(o,p)=List.foldl (stepT b f) (a,d,e) (List.range n.toNat))/\Int.toNat ((dJ a) -n)<Int.toNat ((dJ a) -g)/\f=f/\IntKind.wrap .i64 (g+(1:Int))=n/\m=o/\b=b/\c=c/\k.1=p.1/\k.2=p.2/\True)) (((h,b,c),i)=xx ((a,b,c),d,e) f):=by
  delta js cj lS iM vR sQ o8 oJ dF sO dJ o9 uX
  rintro ns0 ls hs l p plain ⟨⟨-,⟨hl,hw⟩,-⟩,-⟩⟨hc,h1,h2,hg,hr,ha⟩
  dsimp only at hc h1 h2 hg hr ha
  have hB:bS (l,p):=⟨hc,hw⟩
  have base:∀ n,n<=ns0.length->RI ls (f9 ns0) ns0 ((List.range n).foldl (stepT ls plain) (ns0,(l,p))).1/\bS ((List.range n).foldl (stepT ls plain) (ns0,(l,p))).2:=fun n hn=>RI.stepTs (ns0:=ns0) (s:=(ns0,(l,p))) ⟨RI.start hr,hB⟩ hg hn
  refine⟨⟨0,ns0,(l,p),⟨by omega,by omega,rfl⟩,(by repeat' first|exact trivial|refine⟨trivial,?_⟩|refine⟨(by with_reducible rfl),?_⟩|refine⟨af (by omega) (by omega),?_⟩|refine⟨rfl,?_⟩)⟩,?_⟩
  rintro to ns cs ⟨t0,t1,hF⟩
  obtain⟨R,hcs⟩:=base to.toNat (by omega)
  have e1:=(congrArg Prod.fst hF).symm
  have e2:=(congrArg Prod.snd hF).symm
  dsimp only at e1 e2
  rw[e1] at R
  rw[e2] at hcs ⊢
  have hn:=R.n
  simp only[hn]
  refine ae (fun ht=>?_) (fun ht=>?_)
  rotate_left
  ·have ht:=of_decide_eq_false ht
   have e:to.toNat=ns0.length:=by omega
   rw[e] at e1 e2
   unfold xx
   dsimp only
   rw[e1,e2]
  have ht:=of_decide_eq_true ht
  have v3:=cV hcs (n:=3) (by omega)
  have k1:=(ci hcs 3).1
  have k2:=(ci k1 3).1
  refine⟨h1,h2,⟨t0,by rw[hn];exact ht⟩,hg,hcs.at',?_,?_⟩
  ·rw[af (n:=1+_) (by omega) (by omega)]
   (repeat (intro (b_:Bool) (hb_:b_=_);(repeat refine⟨(by first|(simp;done)|(rw[hb_];simp;done)|(rw[hb_];simp;omega)|(rw[hb_];simp;intros;omega)|(rw[hb_];simp +contextual;done)),?_⟩);subst hb_))
   refine ae (fun kb=>?_) (fun kb=>?_)
   ·simp only[kb,cond_true]
    have kb:=of_decide_eq_true kb
    refine⟨fun h=>h,k1.at',fun h=>h,ae (fun kc=>?_) (fun kc=>?_)⟩
    ·have kc:=of_decide_eq_true kc
     refine⟨1,_,?_,(by repeat' first|exact trivial|refine⟨trivial,?_⟩|refine⟨(by with_reducible rfl),?_⟩|refine⟨af (by omega) (by omega),?_⟩|refine⟨rfl,?_⟩)⟩
     rw[lO,if_pos kb,if_pos kc]
    ·have kc:=of_decide_eq_false kc
     refine⟨_,_,?_,(by repeat' first|exact trivial|refine⟨trivial,?_⟩|refine⟨(by with_reducible rfl),?_⟩|refine⟨af (by omega) (by omega),?_⟩|refine⟨rfl,?_⟩)⟩
     rw[lO,if_pos kb,if_neg kc,kb]
   ·simp only[kb,cond_false]
    have kb:=of_decide_eq_false kb
    refine⟨trivial,fun h=>h,?_⟩
    rw[Dt]
    refine⟨_,_,?_,(by repeat' first|exact trivial|refine⟨trivial,?_⟩|refine⟨(by with_reducible rfl),?_⟩|refine⟨af (by omega) (by omega),?_⟩|refine⟨rfl,?_⟩)⟩
    rw[lO,if_neg kb]
  rintro way cs' hW
  have hw3:=Jz hcs
  rw[← hW] at hw3
  obtain⟨hcs',w0,w1⟩:=hw3
  dsimp only at hcs' w0 w1
  have hD:pj ns0.length (cT ns0.length ls to):=FJ ns0.length ls to hg _
  generalize eD:cT ns0.length ls to=D at hD ⊢
  have hP:∀ q∈(ns.getD to.toNat default).1,q.1∈f9 ns0:=fun q hq=>by
   have:aC (ns.getD to.toNat default)=aC (ns0.getD to.toNat default):=R.ports (by omega)
   refine Ll (i:=to.toNat) (by omega) (q:=q) ?_
   rw[← this];exact hq
  have hPl:((ns.getD to.toNat default).1.length:Int)<=100000:=by
   have:aC (ns.getD to.toNat default)=aC (ns0.getD to.toNat default):=R.ports (by omega)
   have e:(ns.getD to.toNat default).1=aC (ns0.getD to.toNat default):=this
   rw[e]
   have:=ZE (ns:=ns0) (i:=to.toNat) (by omega)
   omega
  generalize eP:(ns.getD to.toNat default).1=P at hP hPl ⊢
  refine⟨t0,ht,⟨0,ns,⟨by omega,by omega,rfl⟩,(by repeat' first|exact trivial|refine⟨trivial,?_⟩|refine⟨(by with_reducible rfl),?_⟩|refine⟨af (by omega) (by omega),?_⟩|refine⟨rfl,?_⟩)⟩,?_⟩
  rintro i ns1 ⟨i0,i1,hn1⟩
  have R1:RI ls (f9 ns0) ns0 ns1:=by
   rw[hn1];exact R.stepPs hg w0 w1 fun q hq=>hP q (List.mem_of_mem_take hq)
  refine ae (fun hi=>?_) (fun hi=>?_)
  rotate_left
  ·have hi:=of_decide_eq_false hi
   refine⟨to+1,ns1,cs',⟨by omega,by omega,?_⟩,by omega,(by repeat' first|exact trivial|refine⟨trivial,?_⟩|refine⟨(by with_reducible rfl),?_⟩|refine⟨af (by omega) (by omega),?_⟩|refine⟨rfl,?_⟩)⟩
   rw[show (to+1).toNat=to.toNat+1 by omega,List.range_succ,List.foldl_append,← hF,List.foldl_cons,List.foldl_nil,stepT]
   dsimp only
   rw[← hW,hn,show ((to.toNat:Nat):Int)=to by omega,eD,hn1,List.take_of_length_le (by omega),← eP]
   rfl
  have hi:=of_decide_eq_true hi
  have hq:=hP _ (bL i0 hi)
  generalize eq:(P.getD i.toNat default).1=q at hq ⊢
  refine⟨i0,hi,⟨0,ns1,⟨by omega,by omega,rfl⟩,(by repeat' first|exact trivial|refine⟨trivial,?_⟩|refine⟨(by with_reducible rfl),?_⟩|refine⟨af (by omega) (by omega),?_⟩|refine⟨rfl,?_⟩)⟩,?_⟩
  rintro k ns2 ⟨k0,kl,hn2⟩
  have R2:RI ls (f9 ns0) ns0 ns2:=by
   rw[hn2];exact R1.stepKs (p:=(q,32)) hg rfl hq w0 w1 (by omega)
  refine ae (fun hk=>?_) (fun hk=>?_)
  rotate_left
  ·have hk:=of_decide_eq_false hk
   refine⟨i+1,ns2,⟨by omega,by omega,?_⟩,by omega,(by repeat' first|exact trivial|refine⟨trivial,?_⟩|refine⟨(by with_reducible rfl),?_⟩|refine⟨af (by omega) (by omega),?_⟩|refine⟨rfl,?_⟩)⟩
   rw[mb i0 hi,List.foldl_append,← hn1,List.foldl_cons,List.foldl_nil,stepP,hn2,eq,show k.toNat=ls.length by omega]
  have hk:=of_decide_eq_true hk
  have hh:=hg.at' (k:=k.toNat) (by omega)
  have la:=OB (ls:=ls) (k:=k.toNat) (by omega)
  have lb:=P6 (ls:=ls) (k:=k.toNat) (by omega)
  rw[show ((k.toNat:Nat):Int)=k by omega] at la lb
  refine⟨k0,hk,⟨0,ns2,⟨by omega,by omega,rfl⟩,(by repeat' first|exact trivial|refine⟨trivial,?_⟩|refine⟨(by with_reducible rfl),?_⟩|refine⟨af (by omega) (by omega),?_⟩|refine⟨rfl,?_⟩)⟩,?_⟩
  rintro e ns3 ⟨e0,el,hn3⟩
  refine ae (fun he=>?_) (fun he=>?_)
  rotate_left
  ·have he:=of_decide_eq_false he
   have he:e=2:=by omega
   subst he
   refine⟨k+1,ns3,⟨by omega,by omega,?_⟩,by omega,(by repeat' first|exact trivial|refine⟨trivial,?_⟩|refine⟨(by with_reducible rfl),?_⟩|refine⟨af (by omega) (by omega),?_⟩|refine⟨rfl,?_⟩)⟩
   rw[show (k+1).toNat=k.toNat+1 by omega,List.range_succ,List.foldl_append,← hn2,List.foldl_cons,List.foldl_nil,stepK,hn3,mh,if_neg (by omega),if_neg (by omega),show ((k.toNat:Nat):Int)=k by omega]
  have he:=of_decide_eq_true he
  obtain⟨u,v,hL,hS,hu,hv,hk',R3⟩:∃ u v,([((ls.getD k.toNat default).1,(ls.getD k.toNat default).2.1),((ls.getD k.toNat default).2.1,(ls.getD k.toNat default).1)]:List (Int×Int)).getD e.toNat default=(u,v) ∧
    mh D to (q,32) plain k way ns2 (ls.getD k.toNat default) (e+1)=oF D to (q,32) plain k way ns3 u v/\(0<=u/\u<ns0.length)/\(0<=v/\v<ns0.length)/\lnk ls u k/\RI ls (f9 ns0) ns0 ns3:=by
   rcases (show e=0∨e=1 by omega) with rfl|rfl
   ·refine⟨_,_,rfl,?_,hh.1,hh.2,la,?_⟩
    ·rw[hn3,mh,mh,if_neg (by omega),if_pos (by omega),if_pos rfl];rfl
    ·rw[hn3,mh,if_pos rfl];exact R2
   ·refine⟨_,_,rfl,?_,hh.2,hh.1,lb,?_⟩
    ·rw[hn3,mh,mh,if_neg (by omega),if_neg (by omega),if_neg (by omega),if_pos rfl];rfl
    ·rw[hn3,mh,if_neg (by omega),if_pos rfl]
     exact R2.step (p:=(q,32)) hh.1.1 hh.1.2 rfl hq la w0 w1
  have hn3':=R3.n
  simp only[hL,hn3',hD.1]
  have dv:=hD.2 _ (bL hv.1 (show v<D.length by rw[hD.1];exact hv.2))
  rw[af (n:=D.getD v.toNat default+1) (by omega) (by omega)]
  have pr:=R3.pre ha h2 hu.1 hu.2
  refine⟨e0,by simp only[List.length_cons,List.length_nil];omega,hu.1,hu.2,hv.1,hv.2,?_⟩
  intro b hb
  refine⟨by simp,by simp,by simp,?_⟩
  intro b1 hb1
  refine⟨by simp,by simp,by simp,by simp,by simp,fun h=>⟨fun _=>h,fun _=>h,hv.1,hv.2,trivial⟩,by simp,by simp,fun h=>⟨fun _=>h,fun h1=>by simp only[h,h1];rfl,trivial⟩,fun h=>by rw[h];rfl,?_⟩
  refine p8 (fun ho=>?_) (fun ho1 ho2=>?_)
  ·refine⟨e+1,ns3,⟨by omega,by omega,?_⟩,by omega,(by repeat' first|exact trivial|refine⟨trivial,?_⟩|refine⟨(by with_reducible rfl),?_⟩|refine⟨af (by omega) (by omega),?_⟩|refine⟨rfl,?_⟩)⟩
   rw[hS,oF,if_pos]
   rcases ho with ho|ho
   ·rw[hb] at ho;exact .inl (fY ho)
   ·rcases b1 with _|_
    ·cases ho
    ·exact .inr ⟨fY hb1.symm,ho⟩
  have hN:¬ (D.getD u.toNat default≠D.getD v.toNat default+1∨(v≠to/\lE (ns3.getD v.toNat default)=true)):=by
   rw[hb] at ho1
   rintro (h|⟨h,h'⟩)
   ·exact h (gz ho1)
   ·rw[hb1,decide_eq_false h] at ho2
    rw[show lE (ns3.getD v.toNat default)=(ns3.getD v.toNat default).2.2.2.1 from rfl] at h'
    rw[h'] at ho2;cases ho2
  intro b2 hb2
  subst hb2
  refine⟨by simp,by simp,by simp,by simp,by simp,fun h=>⟨fun _=>h,fun _=>h,hu.1,hu.2,trivial⟩,by simp,by simp,fun h=>⟨fun _=>h,fun _=>h,pr.2.2.1,trivial⟩,fun h=>h,?_⟩
  refine su (fun ha1 ha2=>?_) (fun hna=>?_)
  ·refine⟨e+1,ns3,⟨by omega,by omega,?_⟩,by omega,(by repeat' first|exact trivial|refine⟨trivial,?_⟩|refine⟨(by with_reducible rfl),?_⟩|refine⟨af (by omega) (by omega),?_⟩|refine⟨rfl,?_⟩)⟩
   rw[hS,oF,if_neg hN,if_pos ⟨ha1,ha2⟩]
  ·refine⟨pr.1,pr.2.1,pr.2.2.1,pr.2.2.2,e+1,_,⟨by omega,by omega,?_⟩,by omega,(by repeat' first|exact trivial|refine⟨trivial,?_⟩|refine⟨(by with_reducible rfl),?_⟩|refine⟨af (by omega) (by omega),?_⟩|refine⟨rfl,?_⟩)⟩
   rw[hS,oF,if_neg hN,if_neg]
   rintro⟨x1,x2⟩
   rcases hna with h|h
   ·rw[h] at x1;cases x1
   ·rw[show aV (ns3.getD u.toNat default)=(ns3.getD u.toNat default).2.2.2.2.1 from rfl,h] at x2;cases x2
theorem Ym:av Tryz.prog GL 50 Ia.spec:=Ct.okH _ Tryz.func50 (by kernel_rfl) (ah (ah (ah (ah aA Wd) wA) Re) ZR) au ar1 (aB (by kernel_rfl) Sr)
structure preO (s:aR):Prop where
 c:az s.2
 n0:0<s.1.1.length
 n:(s.1.1.length:Int)<=1000
 l:(s.1.2.1.length:Int)<=1000
 g:fX s.1.1.length s.1.2.1
 h:s.1.2.2=[]
 a:((f9 s.1.1).length:Int)<=100000
 p:∀ x∈s.1.1,aV x≠[]->0<(aC x).length/\(aC x).length<=1000/\(aV x).length<=100000
def oN(s:aR)(i:Int):List ac×aH:=(List.range i.toNat).foldl tp (s.1.1,s.2)
def oL(s:aR)(i:Int):(List ac×List aF)×aH:=(List.range i.toNat).foldl pQ (((oN s s.1.1.length).1,s.1.2.1),(oN s s.1.1.length).2)
def oC(s:aR)(i:Nat):List aN×Int×aH:=(List.range i).foldl (fun c _=>mE (oL s s.1.2.1.length).1.1 c) ([],0,(aj (oL s s.1.2.1.length).2 4).2)
def oK(s:aR):Int:=(aj (oL s s.1.2.1.length).2 4).1
structure AG (ns0 ns:List ac):Prop where
 n:ns.length=ns0.length
 e:∀ i:Nat,i<ns0.length->aC (ns.getD i default)=aC (ns0.getD i default)/\aV (ns.getD i default)=aV (ns0.getD i default)
theorem AG.set{ns0 ns:List ac}(h:AG ns0 ns){i:Nat}(hi:i<ns0.length){x:ac}(hx:aC x=aC (ns.getD i default)/\aV x=aV (ns.getD i default)):AG ns0 (ns.set i x):=by
 refine⟨by rw[List.length_set];exact h.n,fun j hj=>?_⟩
 by_cases e:i=j
 ·subst e
  rw[iw (by rw[h.n];exact hi)]
  exact⟨hx.1.trans (h.e _ hj).1,hx.2.trans (h.e _ hj).2⟩
 ·rw[kA e];exact h.e _ hj
theorem at4(x:ac)(i:Int)(c:aH):aC (fx x i c).1=aC x/\aV (fx x i c).1=aV x:=by
 unfold fx
 dsimp only
 repeat' split
 all_goals exact⟨rfl,rfl⟩
theorem Fq{x:ac}{i:Int}{c:aH}(h:bS c):bS (fx x i c).2:=by
 unfold fx
 dsimp only
 repeat' split
 all_goals first|exact (ci h _).1|exact (ci (ci h _).1 _).1|exact (ci (ci (ci h _).1 _).1 _).1
theorem au2(x:ac)(i:Int)(c:aH):aC (tw x i c).1=aC x/\aV (tw x i c).1=aV x:=at4 x i c
theorem Vi{x:ac}{i:Int}{c:aH}(h:bS c):bS (tw x i c).2:=by
 have k:=Fq (x:=x) (i:=i) h
 exact (ci (ci (ci k _).1 _).1 _).1
theorem FH(s:aR)(h:bS s.2){i:Int}(hi:i<=s.1.1.length):AG s.1.1 (oN s i).1/\bS (oN s i).2:=by
 refine wg (fun c:List ac×aH=>AG s.1.1 c.1/\bS c.2) _ ⟨⟨rfl,fun _ _=>⟨rfl,rfl⟩⟩,h⟩ fun k hk c hc=>?_
 have hk:=List.mem_range.1 hk
 exact⟨hc.1.set (by omega) (au2 _ _ _),Vi hc.2⟩
theorem Na(s:aR){i:Int}(h0:0<=i):oN s (i+1)=tp (oN s i) i.toNat:=by
 unfold oN
 rw[show (i+1).toNat=i.toNat+1 by omega,List.range_succ,List.foldl_append];rfl
theorem NN(l:aF)(c:aH):lA (odLink l c).1=lA l/\lB (odLink l c).1=lB l:=by
 unfold odLink
 dsimp only
 repeat' split
 all_goals exact⟨rfl,rfl⟩
theorem aj8{l:aF}{c:aH}(h:bS c):bS (odLink l c).2:=by
 unfold odLink
 dsimp only
 repeat' split
 all_goals first|exact (ci h _).1|exact (ci (ci h _).1 _).1
theorem fX.set{n:Nat}{ls:List aF}(h:fX n ls){x:aF}(hx:0<=x.1/\x.1<n/\0<=x.2.1/\x.2.1<n)(i:Nat):fX n (ls.set i x):=fun y hy=>by
 rcases List.mem_or_eq_of_mem_set hy with hy|rfl
 ·exact h y hy
 ·exact hx
theorem fX.odLink{n:Nat}{ls:List aF}(h:fX n ls){i:Nat}(hi:i<ls.length)(c:aH):fX n (ls.set i (odLink (ls.getD i default) c).1):=by
 have k:=NN (ls.getD i default) c
 have g:=h.at' hi
 refine h.set ?_ i
 show 0<=lA _/\lA _<_/\0<=lB _/\lB _<_
 rw[k.1,k.2]
 exact⟨g.1.1,g.1.2,g.2.1,g.2.2⟩
theorem R8{ns0 ns:List ac}(h:AG ns0 ns){l:aF}(hl:0<=lB l/\lB l<ns0.length):AG ns0 (o7 ns l):=by
 unfold o7
 split
 ·exact h.set (by omega) ⟨rfl,rfl⟩
 ·exact h
theorem tY(s:aR)(h:bS s.2)(hg:fX s.1.1.length s.1.2.1){i:Int}(hi:i<=s.1.2.1.length) :
  AG s.1.1 (oL s i).1.1/\bS (oL s i).2/\fX s.1.1.length (oL s i).1.2/\(oL s i).1.2.length=s.1.2.1.length:=by
 have b:=FH s h (i:=s.1.1.length) (by omega)
 refine wg (fun c:(List ac×List aF)×aH=>AG s.1.1 c.1.1/\bS c.2/\fX s.1.1.length c.1.2/\c.1.2.length=s.1.2.1.length) _ ⟨b.1,b.2,hg,rfl⟩ fun k hk c hc=>?_
 have hk:=List.mem_range.1 hk
 obtain⟨c1,c2,c3,c4⟩:=hc
 have hk2:k<c.1.2.length:=by omega
 have g:=c3.at' hk2
 have e:=NN (c.1.2.getD k default) c.2
 refine⟨R8 c1 ?_,aj8 c2,c3.odLink hk2 _,by simp only[pQ,List.length_set];exact c4⟩
 rw[e.2];exact g.2
theorem LJ(s:aR){i:Int}(h0:0<=i):oL s (i+1)=pQ (oL s i) i.toNat:=by
 unfold oL
 rw[show (i+1).toNat=i.toNat+1 by omega,List.range_succ,List.foldl_append];rfl
theorem Dv(s:aR)(i:Nat):oC s (i+1)=mE (oL s s.1.2.1.length).1.1 (oC s i):=by
 unfold oC
 rw[List.range_succ,List.foldl_append];rfl
theorem QT{ns:List ac}{s:List aN×Int×aH}(h:bS s.2.2):bS (mE ns s).2.2/\s.2.1<=(mE ns s).2.1/\(mE ns s).2.1<=s.2.1+60/\(mE ns s).1.length<=s.1.length+1:=by
 have a:=cV h (n:=60) (by omega)
 have k1:=(ci h 60).1
 have k2:=(ci k1 ns.length).1
 unfold mE
 dsimp only
 split
 ·exact⟨k2,by dsimp only;omega,by dsimp only;omega,by dsimp only;omega⟩
 ·exact⟨(ci (ci (ci k2 _).1 _).1 _).1,by dsimp only;omega,by dsimp only;omega,by simp only[List.length_append,List.length_cons,List.length_nil];omega⟩
theorem DP(s:aR)(h:bS s.2)(hg:fX s.1.1.length s.1.2.1):∀ i:Nat,bS (oC s i).2.2/\0<=(oC s i).2.1/\(oC s i).2.1<=60*i/\(oC s i).1.length<=i
 | 0=>⟨(ci (tY s h hg (Int.le_refl _)).2.1 4).1,Int.le_refl _,Int.le_refl _,Nat.le_refl _⟩
 | i+1=>by
  have k:=DP s h hg i
  have m:=QT (ns:=(oL s s.1.2.1.length).1.1) k.1
  rw[Dv]
  exact⟨m.1,by omega,by omega,by omega⟩
def Kg:Ct:=⟨[.box 119 wn],[],fun d=>[preO d.1],fun d=>((),(mr d.1,()))⟩
def YF:ar Kg.ps->ay:=(fun d=>{loops:=(fun n=>match n with|2=>some (fun S=>{ι:=Int×(List ac)×aH,qn:=⟨fun k_=>∀(i:Int)(ns:(List ac))(cs:aH),k_ (i,ns,cs),fun k_ h_ i=>h_ i.1 i.2.1 i.2.2,fun k_=>∃ (i:Int) (ns:(List ac)) (cs:aH),k_ (i,ns,cs),fun k_ ⟨i,ns,cs,h_⟩=>⟨_,h_⟩⟩,μ:=fun i=>(d.1.1.1.length-i.1).toNat,inv:=fun i=>0<=i.1/\i.1<=d.1.1.1.length/\(i.2.1,i.2.2)=oN d.1 i.1,keep:=[0,2],slots:=fun i=>[(3,.int .i64 i.1)],keepN:=[1048576,2097153,2097154],names:=fun i=>[(2097152,.live (.row 107 bH i.2.1)),(1048577,.live (.cells 109 (cy f6 i.2.2)))]})|20=>some (fun S=>{ι:=Int×(List ac)×(List aF)×aH,qn:=⟨fun k_=>∀(i:Int)(ns:(List ac))(ls:(List aF))(cs:aH),k_ (i,ns,ls,cs),fun k_ h_ i=>h_ i.1 i.2.1 i.2.2.1 i.2.2.2,fun k_=>∃ (i:Int) (ns:(List ac)) (ls:(List aF)) (cs:aH),k_ (i,ns,ls,cs),fun k_ ⟨i,ns,ls,cs,h_⟩=>⟨_,h_⟩⟩,μ:=fun i=>(d.1.1.2.1.length-i.1).toNat,inv:=fun i=>0<=i.1/\i.1<=d.1.1.2.1.length/\((i.2.1,i.2.2.1),i.2.2.2)=oL d.1 i.1,keep:=[0,2],slots:=fun i=>[(5,.int .i64 i.1)],keepN:=[1048576,2097154],names:=fun i=>[(2097152,.live (.row 107 bH i.2.1)),(2097153,.live (.row 99 fy i.2.2.1)),(1048577,.live (.cells 109 (cy f6 i.2.2.2)))]})|32=>some (fun S=>{ι:=Int×Int×(List aN)×aH,qn:=⟨fun k_=>∀(k:Int)(a:Int)(hs:(List aN))(cs:aH),k_ (k,a,hs,cs),fun k_ h_ i=>h_ i.1 i.2.1 i.2.2.1 i.2.2.2,fun k_=>∃ (k:Int) (a:Int) (hs:(List aN)) (cs:aH),k_ (k,a,hs,cs),fun k_ ⟨k,a,hs,cs,h_⟩=>⟨_,h_⟩⟩,μ:=fun i=>i.1.toNat,inv:=fun i=>0<=i.1/\i.1<=oK d.1/\(i.2.2.1,i.2.1,i.2.2.2)=oC d.1 (oK d.1-i.1).toNat,keep:=[0,2],slots:=fun i=>[(8,.int .i64 i.1),(7,.int .i64 i.2.1)],keepN:=[2097152,2097153],names:=fun i=>[(1048576,.live (.cells 119 [.own 2097152 16,.own 2097153 6,.own 524288 7,.ptr 1048577 0])),(524288,.live (.row 129 dZ i.2.2.1)),(1048577,.live (.cells 109 (cy f6 i.2.2.2)))]})|_=>none),cuts:=(fun n=>match n with|18=>some (fun S=>{ι:=(List ac)×aH,qn:=⟨fun k_=>∀(ns:(List ac))(cs:aH),k_ (ns,cs),fun k_ h_ i=>h_ i.1 i.2,fun k_=>∃ (ns:(List ac)) (cs:aH),k_ (ns,cs),fun k_ ⟨ns,cs,h_⟩=>⟨_,h_⟩⟩,inv:=fun i=>i.1=(oN d.1 (S.i 3)).1.set (S.i 3).toNat (fx ((oN d.1 (S.i 3)).1.getD (S.i 3).toNat default) (S.i 3) (oN d.1 (S.i 3)).2).1/\i.2=(fx ((oN d.1 (S.i 3)).1.getD (S.i 3).toNat default) (S.i 3) (oN d.1 (S.i 3)).2).2,keep:=[0,2,3,4],slots:=fun i=>[],keepN:=[1048576,2097153,2097154],names:=fun i=>[(2097152,.live (.row 107 bH i.1)),(1048577,.live (.cells 109 (cy f6 i.2)))]})|28=>some (fun S=>{ι:=(List aF)×aH,qn:=⟨fun k_=>∀(ls:(List aF))(cs:aH),k_ (ls,cs),fun k_ h_ i=>h_ i.1 i.2,fun k_=>∃ (ls:(List aF)) (cs:aH),k_ (ls,cs),fun k_ ⟨ls,cs,h_⟩=>⟨_,h_⟩⟩,inv:=fun i=>i.1=(oL d.1 (S.i 5)).1.2.set (S.i 5).toNat (odLink ((oL d.1 (S.i 5)).1.2.getD (S.i 5).toNat default) (oL d.1 (S.i 5)).2).1/\i.2=(odLink ((oL d.1 (S.i 5)).1.2.getD (S.i 5).toNat default) (oL d.1 (S.i 5)).2).2,keep:=[0,2,5,6],slots:=fun i=>[],keepN:=[1048576,2097152,2097154],names:=fun i=>[(2097153,.live (.row 99 fy i.1)),(1048577,.live (.cells 109 (cy f6 i.2)))]})|_=>none)})
def EW(f:Int)(i:List ac)(j:aH) :=
 List.set i f.toNat ((i.getD f.toNat default).1,(i.getD f.toNat default).2.1,(i.getD f.toNat default).2.2.1,(i.getD f.toNat default).2.2.2.1,(i.getD f.toNat default).2.2.2.2.1,(i.getD f.toNat default).2.2.2.2.2.1,(i.getD f.toNat default).2.2.2.2.2.2.1,(aj j 6).1,(i.getD f.toNat default).2.2.2.2.2.2.2.2)
def pD(f:Int)(i:List ac)(j:aH) :=
 List.getD (EW f i j) f.toNat default
def B8(f:Int)(i:List ac)(j:aH) :=
 List.set (EW f i j) f.toNat ((pD f i j).1,(pD f i j).2.1,(pD f i j).2.2.1,(pD f i j).2.2.2.1,(pD f i j).2.2.2.2.1,(pD f i j).2.2.2.2.2.1,(pD f i j).2.2.2.2.2.2.1,(pD f i j).2.2.2.2.2.2.2.1,(aj (aj j 6).2 (65536:Int)).1,(pD f i j).2.2.2.2.2.2.2.2.2)
def oP(j:List ac)(p:aH) :=
 aj (aj p 60).2 (j.length:Int)
def r5(j:List ac)(p:aH) :=
 j.getD (Int.toNat (oP j p).1) default
def wP(j:List ac)(p:aH) :=
 aj (oP j p).2 ((List.length (r5 j p).2.2.2.2.1):Int)
def ct(f:Int)(g:List ac) :=
 g.getD f.toNat default
def EK(f:Int)(g:List ac)(h:aH) :=
 List.set g f.toNat ((ct f g).1,(ct f g).2.1,(ct f g).2.2.1,(ct f g).2.2.2.1,(ct f g).2.2.2.2.1,(ct f g).2.2.2.2.2.1,IntKind.wrap .u32 ((167837696:Int)+(aj (aj h 10).2 (40:Int)).1),(ct f g).2.2.2.2.2.2.2)
def up(a:List ac)(b:List aF)(c:List aN)(d:List Int)(e f:Int) :=
 fx (List.getD (oN ((a,b,c),d,e) f).1 f.toNat default) f (oN ((a,b,c),d,e) f).2
def tW(f:Int)(g:List ac) :=
 List.getD (List.set g f.toNat ((ct f g).1,IntKind.wrap .u32 (IntKind.wrap .i64 ((167903232:Int)+f)),(ct f g).2.2)) f.toNat default
def qp(i:Int)(m:List aF) :=
 m.getD i.toNat default
def lH(i:Int)(j:List ac)(m:List aF) :=
 j.getD (Int.toNat (qp i m).2.1) default
def ru(a:List ac)(b:List aF)(c:List aN)(d:List Int)(e i:Int) :=
 odLink (List.getD (oL ((a,b,c),d,e) i).1.2 i.toNat default) (oL ((a,b,c),d,e) i).2
def qm(j:List ac)(p:aH) :=
 aj (wP j p).2 ((List.length (r5 j p).1):Int)
def tA(j:List ac)(p:aH) :=
 List.getD (r5 j p).2.2.2.2.1 (Int.toNat (wP j p).1) default
def tO(a:List ac)(b:List aF)(c:List aN)(d:List Int)(e f:Int)(i:List ac)(j:aH) :=
 i=List.set (oN ((a,b,c),d,e) f).1 f.toNat (up a b c d e f).1/\j=(up a b c d e f).2
def pf(f:Int)(i:List ac)(j:aH) :=
 List.getD (B8 f i j) f.toNat default
def DW(j:List ac)(n:Int)(p:aH) :=
 (IntKind.wrap .i64 (n+(aj p 60).1),(oP j p).1,false,(tA j p).1,[(List.getD (r5 j p).1 (Int.toNat (qm j p).1) default).2],(tA j p).2.2)
def xS(h j:aH) :=
 (aj h 10).2.1=j.1/\(aj h 10).2.2=j.2/\True
def ud(f:Int)(g:List ac)(h:aH) :=
 List.getD (EK f g h) f.toNat default
def zb(j:aH) :=
 aj (aj (aj j 6).2 (65536:Int)).2 (1000:Int)
def po(i:Int)(k:List aF) :=
 k.getD i.toNat default
def vE(h:aH) :=
 aj (aj h 10).2 (3:Int)
def wx(l:aH) :=
 aj (aj l 6).2 (3:Int)
theorem ak0 :
 ∀(a:List ac)(b:List aF)(c:List aN)(d:List Int)(e:Int),(((a.length<=maxLen/\ ∀(f:ac),f∈a->CT.wf bH f)/\(b.length<=maxLen/\ ∀(f:aF),f∈b->CT.wf fy f)/\c.length<=maxLen/\ ∀(f:aN),f∈c->CT.wf dZ f)/\(d.length<=maxLen/\ ∀(f:Int),f∈d->0<=f/\f<=255)/\ab e)/\True->preO ((a,b,c),d,e)->(∃(f:Int) (g:List ac),∃(h:aH),(0<=f/\f<=(dJ a)/\(g,h)=oN ((a,b,c),d,e) f)/\(0:Int)=f/\b=b/\c=c/\a=g/\d=h.1/\e=h.2/\True)/\ ∀(f:Int)(g:List ac)(h:aH),0<=f/\f<=(dJ a)/\(g,h)=oN ((a,b,c),d,e) f->ad (decide (f<(g.length:Int))) (0<=f/\f<(g.length:Int)/\(az h/\ad (decide ((aj h 10).1=1)) (∃(i:List ac) (j:aH),(tO a b c d e f i j)/\f=f/\f.toNat=f.toNat/\b=b/\c=c/\List.set g f.toNat ((ct f g).1,(ct f g).2.1,(ct f g).2.2.1,(ct f g).2.2.2.1,(ct f g).2.2.2.2.1,(ct f g).2.2.2.2.2.1,(ct f g).2.2.2.2.2.2.1,(ct f g).2.2.2.2.2.2.2.1,(ct f
 g).2.2.2.2.2.2.2.2.1,(ct f g).2.2.2.2.2.2.2.2.2.1,(ct f g).2.2.2.2.2.2.2.2.2.2.1,true,(ct f g).2.2.2.2.2.2.2.2.2.2.2.2)=i/\(xS h j)) (ad (decide ((aj h 10).1=2)) (az (aj h 10).2/\az (vE h).2/\ ∃(i:List ac) (j:aH),(tO a b c d e f i j)/\f=f/\f.toNat=f.toNat/\b=b/\c=c/\List.set g f.toNat ((ct f g).1,(ct f g).2.1,(ct f g).2.2.1,(ct f g).2.2.2.1,(ct f g).2.2.2.2.1,(ct f g).2.2.2.2.2.1,(ct f g).2.2.2.2.2.2.1,(ct f g).2.2.2.2.2.2.2.1,(ct f g).2.2.2.2.2.2.2.2.1,(ct f g).2.2.2.2.2.2.2.2.2.1,(IntKind.wrap .i64 ((1:Int)+(vE h).1),IntKind.wrap .i64 ((1:Int)+(aj (vE h).2 (200:Int)).1)),(ct f g).2.2.2.2.2.2.2.2.2.2.2)=i/\(aj (vE h).2 (200:Int)).2.1=j.1/\(aj (vE h).2 (200:Int)).2.2=j.2/\True) (ad (decide ((aj h 10).1=3)) (∀(i:Bool),i= ! (ct f
 g).2.2.2.1->(i->(i->i)/\(2:Int)≠(0:Int)/\True)/\(i->(i->i)/\True)/\(i->i)/\ ∃(j:List ac) (k:aH),(j=List.set (oN ((a,b,c),d,e) f).1 f.toNat (up a b c d e f).1/\k=(up a b c d e f).2)/\f=f/\f.toNat=f.toNat/\b=b/\c=c/\List.set g f.toNat ((ct f g).1,(ct f g).2.1,(ct f g).2.2.1,(ct f g).2.2.2.1,(ct f g).2.2.2.2.1,(ct f g).2.2.2.2.2.1,(ct f g).2.2.2.2.2.2.1,(ct f g).2.2.2.2.2.2.2.1,(ct f g).2.2.2.2.2.2.2.2.1,(ct f g).2.2.2.2.2.2.2.2.2.1,(ct f g).2.2.2.2.2.2.2.2.2.2.1,(ct f g).2.2.2.2.2.2.2.2.2.2.2.1,bif i then decide (Int.tmod f (2:Int)=1) else false,(ct f g).2.2.2.2.2.2.2.2.2.2.2.2.2)=j/\(aj h 10).2.1=k.1/\(aj h 10).2.2=k.2/\True) (ad (decide ((aj h 10).1=4)) (∃(i:List ac) (j:aH),(tO a b c d e f i j)/\f=f/\f.toNat=f.toNat/\b=b/\c=c/\List.set g f.toNat ((ct f g).1,(ct f g).2.1,(ct f g).2.2.1,(ct f g).2.2.2.1,(ct f
 g).2.2.2.2.1,(2:Int),(ct f g).2.2.2.2.2.2)=i/\(xS h j)) (ad (decide ((aj h 10).1=5)) (∃(i:List ac) (j:aH),(tO a b c d e f i j)/\f=f/\f.toNat=f.toNat/\b=b/\c=c/\List.set (List.set g f.toNat ((ct f g).1,IntKind.wrap .u32 (IntKind.wrap .i64 ((167903232:Int)+f)),(ct f g).2.2)) f.toNat ((tW f g).1,(tW f g).2.1,(tW f g).2.2.1,(tW f g).2.2.2.1,(tW f g).2.2.2.2.1,(3:Int),(tW f g).2.2.2.2.2.2)=i/\(xS h j)) (ad (decide ((aj h 10).1=6)) (az (aj h 10).2/\ ∃(i:List ac) (j:aH),(tO a b c d e f i j)/\f=f/\f.toNat=f.toNat/\b=b/\c=c/\List.set (EK f g h) f.toNat ((ud f g h).1,(ud f g h).2.1,(ud f g h).2.2.1,(ud f g h).2.2.2.1,(ud f g h).2.2.2.2.1,(4:Int),(ud f g h).2.2.2.2.2.2)=i/\(aj (aj h 10).2 (40:Int)).2.1=j.1/\(aj (aj h 10).2 (40:Int)).2.2=j.2/\True) (∃(i:List ac) (j:aH),(tO a b c d e f i
 j)/\f=f/\f.toNat=f.toNat/\b=b/\c=c/\g=i/\(xS h j))))))))/\ ∀(i:List ac)(j:aH),i=List.set (oN ((a,b,c),d,e) f).1 f.toNat (up a b c d e f).1/\j=(up a b c d e f).2->az j/\az (aj j 6).2/\az (aj (aj j 6).2 (65536:Int)).2/\ ∃(k:Int) (l:List ac),∃(m:aH),(0<=k/\k<=(dJ a)/\(l,m)=oN ((a,b,c),d,e) k)/\Int.toNat ((dJ a) -k)<Int.toNat ((dJ a) -f)/\IntKind.wrap .i64 (f+(1:Int))=k/\b=b/\c=c/\List.set (B8 f i j) f.toNat ((pf f i j).1,(pf f i j).2.1,(pf f i j).2.2.1,(pf f i j).2.2.2.1,(pf f i j).2.2.2.2.1,(pf f i j).2.2.2.2.2.1,(pf f i j).2.2.2.2.2.2.1,(pf f i j).2.2.2.2.2.2.2.1,(pf f i j).2.2.2.2.2.2.2.2.1,(zb j).1,(pf f i j).2.2.2.2.2.2.2.2.2.2)=l/\(zb j).2.1=m.1/\(zb j).2.2=m.2/\True) ((∃(i:Int) (j:List ac),∃(k:List aF) (l:aH),(0<=i/\i<=(dF b)/\((j,k),l)=oL ((a,b,c),d,e)
 i)/\(0:Int)=i/\c=c/\g=j/\b=k/\h.1=l.1/\h.2=l.2/\True)/\ ∀(i:Int)(j:List ac)(k:List aF)(l:aH),0<=i/\i<=(dF b)/\((j,k),l)=oL ((a,b,c),d,e) i->ad (decide (i<(k.length:Int))) (0<=i/\i<(k.length:Int)/\(az l/\ad (decide ((aj l 6).1=1)) (az (aj l 6).2/\ ∃(m:List aF) (n:aH),(m=List.set (oL ((a,b,c),d,e) i).1.2 i.toNat (ru a b c d e i).1/\n=(ru a b c d e i).2)/\i=i/\i.toNat=i.toNat/\j=j/\c=c/\List.set k i.toNat ((po i k).1,(po i k).2.1,(po i k).2.2.1,(aj (aj l 6).2 (10:Int)).1,(po i k).2.2.2.2)=m/\(aj (aj l 6).2 (10:Int)).2.1=n.1/\(aj (aj l 6).2 (10:Int)).2.2=n.2/\True) (ad (decide ((aj l 6).1=2)) (az (aj l 6).2/\0<=(wx l).1/\(wx l).1<((List.length [(65536:Int),(20000:Int),(3:Int)]):Int)/\ ∃(m:List aF) (n:aH),(m=List.set (oL ((a,b,c),d,e) i).1.2 i.toNat (ru a b c d e i).1/\n=(ru a b c d e
 i).2)/\i=i/\i.toNat=i.toNat/\j=j/\c=c/\List.set k i.toNat ((po i k).1,(po i k).2.1,(po i k).2.2.1,(po i k).2.2.2.1,List.getD [(65536:Int),(20000:Int),(3:Int)] (Int.toNat (wx l).1) default,(po i k).2.2.2.2.2)=m/\(wx l).2.1=n.1/\(wx l).2.2=n.2/\True) (∃(m:List aF) (n:aH),(m=List.set (oL ((a,b,c),d,e) i).1.2 i.toNat (ru a b c d e i).1/\n=(ru a b c d e i).2)/\i=i/\i.toNat=i.toNat/\j=j/\c=c/\k=m/\(aj l 6).2.1=n.1/\(aj l 6).2.2=n.2/\True)))/\ ∀(m:List aF)(n:aH),m=List.set (oL ((a,b,c),d,e) i).1.2 i.toNat (ru a b c d e i).1/\n=(ru a b c d e i).2->0<=(qp i m).1/\(qp i m).1<(j.length:Int)/\ ∀(o:Bool),o=(j.getD (Int.toNat (qp i m).1) default).2.2.2.2.2.2.2.2.2.2.2.2.1->(o->(o->o)/\True)/\(o->(o->o)/\True)/\(o->(o->o)/\True)/\(o->(o->o)/\True)/\(o->(o->o)/\True)/\(o->(o->o)/\True)/\(o->(o->o)/\True)/\(o->(o->o)/\(o->o)/\0<=(qp i
 m).2.1/\(qp i m).2.1<(j.length:Int)/\True)/\(o->(o->o)/\True)/\(o->(o->o)/\True)/\(o->o)/\ad (bif o then (lH i j m).2.2.2.2.2.2.2.2.2.2.2.2.1 else false) (0<=(qp i m).2.1/\(qp i m).2.1<(j.length:Int)/\ ∃(p:Int) (q:List ac),∃(r:List aF) (s:aH),(0<=p/\p<=(dF b)/\((q,r),s)=oL ((a,b,c),d,e) p)/\Int.toNat ((dF b) -p)<Int.toNat ((dF b) -i)/\IntKind.wrap .i64 (i+(1:Int))=p/\c=c/\List.set j (Int.toNat (qp i m).2.1) ((lH i j m).1,(lH i j m).2.1,(lH i j m).2.2.1,(lH i j m).2.2.2.1,(lH i j m).2.2.2.2.1,(lH i j m).2.2.2.2.2.1,(lH i j m).2.2.2.2.2.2.1,(lH i j m).2.2.2.2.2.2.2.1,(lH i j m).2.2.2.2.2.2.2.2.1,(lH i j m).2.2.2.2.2.2.2.2.2.1,(lH i j m).2.2.2.2.2.2.2.2.2.2.1,(lH i j m).2.2.2.2.2.2.2.2.2.2.2.1,false,(lH i j m).2.2.2.2.2.2.2.2.2.2.2.2.2)=q/\m=r/\n.1=s.1/\n.2=s.2/\True) (∃(p:Int) (q:List ac),∃(r:List aF)
 (s:aH),(0<=p/\p<=(dF b)/\((q,r),s)=oL ((a,b,c),d,e) p)/\Int.toNat ((dF b) -p)<Int.toNat ((dF b) -i)/\IntKind.wrap .i64 (i+(1:Int))=p/\c=c/\j=q/\m=r/\n.1=s.1/\n.2=s.2/\True)) (az l/\(∃(m:Int) (n:Int),∃(o:List aN) (p:aH),(0<=m/\m<=oK ((a,b,c),d,e)/\(o,n,p)=oC ((a,b,c),d,e) (Int.toNat (oK ((a,b,c),d,e) -m)))/\(0:Int)=n/\(aj l 4).1=m/\j=j/\k=k/\c=o/\(aj l 4).2.1=p.1/\(aj l 4).2.2=p.2/\True)/\ ∀(m n:Int)(o:List aN)(p:aH),0<=m/\m<=oK ((a,b,c),d,e)/\(o,n,p)=oC ((a,b,c),d,e) (Int.toNat (oK ((a,b,c),d,e) -m))->ad (decide (0<m)) (az p/\az (aj p 60).2/\0<=(oP j p).1/\(oP j p).1<(j.length:Int)/\ad (decide (((List.length (r5 j p).2.2.2.2.1):Int)=0)) (∃(q:Int) (r:Int),∃(s:List aN) (t:aH),(0<=q/\q<=oK ((a,b,c),d,e)/\(s,r,t)=oC ((a,b,c),d,e) (Int.toNat (oK ((a,b,c),d,e) -q)))/\q.toNat<m.toNat/\IntKind.wrap .i64 (n+(aj p
 60).1)=r/\IntKind.wrap .i64 (m -(1:Int))=q/\j=j/\k=k/\o=s/\(oP j p).2.1=t.1/\(oP j p).2.2=t.2/\True) (az (oP j p).2/\0<=(wP j p).1/\(wP j p).1<((List.length (r5 j p).2.2.2.2.1):Int)/\az (wP j p).2/\0<=(qm j p).1/\(qm j p).1<((List.length (r5 j p).1):Int)/\az (qm j p).2/\ad (decide ((aj (qm j p).2 (4:Int)).1=3)) ((o.length+List.length [(IntKind.wrap .i64 (n+(aj p 60).1),(oP j p).1,false,(tA j p).1,([]:List Int),(tA j p).2.2)])*(72:Nat)<=(mn)/\ ∃(q:Int) (r:Int),∃(s:List aN) (t:aH),(0<=q/\q<=oK ((a,b,c),d,e)/\(s,r,t)=oC ((a,b,c),d,e) (Int.toNat (oK ((a,b,c),d,e) -q)))/\q.toNat<m.toNat/\IntKind.wrap .i64 (n+(aj p 60).1)=r/\IntKind.wrap .i64 (m -(1:Int))=q/\j=j/\k=k/\o++[(IntKind.wrap .i64 (n+(aj p 60).1),(oP j p).1,false,(tA j p).1,([]:List Int),(tA j p).2.2)]=s/\(aj (qm j p).2 (4:Int)).2.1=t.1/\(aj (qm j
 p).2 (4:Int)).2.2=t.2/\True) ((o.length+List.length [(DW j n p)])*(72:Nat)<=(mn)/\ ∃(q:Int) (r:Int),∃(s:List aN) (t:aH),(0<=q/\q<=oK ((a,b,c),d,e)/\(s,r,t)=oC ((a,b,c),d,e) (Int.toNat (oK ((a,b,c),d,e) -q)))/\q.toNat<m.toNat/\IntKind.wrap .i64 (n+(aj p 60).1)=r/\IntKind.wrap .i64 (m -(1:Int))=q/\j=j/\k=k/\o++[(DW j n p)]=s/\(aj (qm j p).2 (4:Int)).2.1=t.1/\(aj (qm j p).2 (4:Int)).2.2=t.2/\True))) (((j,k,o),p)=mr ((a,b,c),d,e)))):=by
  delta B8 wP EW EK r5 up ct tW lH ru qm tA tO oP pf pD dF mn dJ DW xS ud zb po vE wx qp
  rintro ns0 ls0 hs0 l p ⟨⟨⟨hnl,hnw⟩,⟨hl,hw⟩,-⟩,-⟩⟨hc,n0,h1,h2,hg,hh,ha,hp⟩
  dsimp only at hc n0 h1 h2 hg hh ha hp
  subst hh
  have hB:bS (l,p):=⟨hc,hw⟩
  generalize eS:(((ns0,ls0,[]),l,p):aR)=Z
  have z1:Z.1.1=ns0:=by rw[← eS]
  have z2:Z.1.2.1=ls0:=by rw[← eS]
  have z3:Z.2=(l,p):=by rw[← eS]
  have zB:bS Z.2:=by rw[z3];exact hB
  have zG:fX Z.1.1.length Z.1.2.1:=by rw[z1,z2];exact hg
  refine⟨⟨0,ns0,(l,p),⟨by omega,by omega,by rw[← eS];rfl⟩,(by repeat' first|exact trivial|refine⟨trivial,?_⟩|refine⟨(by with_reducible rfl),?_⟩|refine⟨af (by omega) (by omega),?_⟩|refine⟨rfl,?_⟩)⟩,?_⟩
  rintro i ns cs ⟨i0,il,hF⟩
  obtain⟨A1,hcs⟩:=FH Z zB (i:=i) (by rw[z1];exact il)
  rw[← hF] at A1 hcs
  dsimp only at A1 hcs
  rw[← hF]
  dsimp only
  have hn:=A1.n
  rw[z1] at hn
  refine ae (fun hi=>?_) (fun hi=>?_)
  ·have hi:=of_decide_eq_true hi
   have hi':i.toNat<ns.length:=by omega
   have k10:=(ci hcs 10).1
   refine⟨i0,hi,⟨hcs.at',?_⟩,?_⟩
   ·simp only[List.set_set,iw hi']
    refine ae (fun c=>?_) (fun c1=>?_)
    ·have c:=of_decide_eq_true c
     refine⟨_,_,⟨?_,?_⟩,(by repeat' first|exact trivial|refine⟨trivial,?_⟩|refine⟨(by with_reducible rfl),?_⟩|refine⟨af (by omega) (by omega),?_⟩|refine⟨rfl,?_⟩)⟩
     ·rw[fx,if_pos c];rfl
     ·rw[fx,if_pos c]
    have c1:=of_decide_eq_false c1
    refine ae (fun c=>?_) (fun c2=>?_)
    ·have c:=of_decide_eq_true c
     have k3:=cV k10 (n:=3) (by omega)
     have k11:=(ci k10 3).1
     have k4:=cV k11 (n:=200) (by omega)
     refine⟨k10.at',k11.at',_,_,⟨?_,?_⟩,(by repeat' first|exact trivial|refine⟨trivial,?_⟩|refine⟨(by with_reducible rfl),?_⟩|refine⟨af (by omega) (by omega),?_⟩|refine⟨rfl,?_⟩)⟩
     ·rw[fx,if_neg c1,if_pos c,af (n:=1+_) (by omega) (by omega),af (n:=1+_) (by omega) (by omega)];rfl
     ·rw[fx,if_neg c1,if_pos c]
    have c2:=of_decide_eq_false c2
    refine ae (fun c=>?_) (fun c3=>?_)
    ·have c:=of_decide_eq_true c
     intro b hb
     refine⟨by simp,by simp,by simp,_,_,⟨?_,?_⟩,(by repeat' first|exact trivial|refine⟨trivial,?_⟩|refine⟨(by with_reducible rfl),?_⟩|refine⟨af (by omega) (by omega),?_⟩|refine⟨rfl,?_⟩)⟩
     ·have eb:(bif b then decide (i%2=1) else false)=(!lE (ns.getD i.toNat default)&&decide (i%2=1)):=by
       rw[show b = !lE (ns.getD i.toNat default) from hb]
       cases lE (ns.getD i.toNat default) <;> rfl
      rw[fx,if_neg c1,if_neg c2,if_pos c,Int.tmod_eq_emod_of_nonneg i0,eb];rfl
     ·rw[fx,if_neg c1,if_neg c2,if_pos c]
    have c3:=of_decide_eq_false c3
    refine ae (fun c=>?_) (fun c4=>?_)
    ·have c:=of_decide_eq_true c
     refine⟨_,_,⟨?_,?_⟩,(by repeat' first|exact trivial|refine⟨trivial,?_⟩|refine⟨(by with_reducible rfl),?_⟩|refine⟨af (by omega) (by omega),?_⟩|refine⟨rfl,?_⟩)⟩
     ·rw[fx,if_neg c1,if_neg c2,if_neg c3,if_pos c];rfl
     ·rw[fx,if_neg c1,if_neg c2,if_neg c3,if_pos c]
    have c4:=of_decide_eq_false c4
    refine ae (fun c=>?_) (fun c5=>?_)
    ·have c:=of_decide_eq_true c
     refine⟨_,_,⟨?_,?_⟩,(by repeat' first|exact trivial|refine⟨trivial,?_⟩|refine⟨(by with_reducible rfl),?_⟩|refine⟨af (by omega) (by omega),?_⟩|refine⟨rfl,?_⟩)⟩
     ·rw[fx,if_neg c1,if_neg c2,if_neg c3,if_neg c4,if_pos c,af (n:=167903232+i) (by omega) (by omega),pR (n:=167903232+i) (by omega) (by omega)];rfl
     ·rw[fx,if_neg c1,if_neg c2,if_neg c3,if_neg c4,if_pos c]
    have c5:=of_decide_eq_false c5
    refine ae (fun c=>?_) (fun c6=>?_)
    ·have c:=of_decide_eq_true c
     have k4:=cV k10 (n:=40) (by omega)
     refine⟨k10.at',_,_,⟨?_,?_⟩,(by repeat' first|exact trivial|refine⟨trivial,?_⟩|refine⟨(by with_reducible rfl),?_⟩|refine⟨af (by omega) (by omega),?_⟩|refine⟨rfl,?_⟩)⟩
     ·rw[fx,if_neg c1,if_neg c2,if_neg c3,if_neg c4,if_neg c5,if_pos c,pR (n:=167837696+_) (by omega) (by omega)];rfl
     ·rw[fx,if_neg c1,if_neg c2,if_neg c3,if_neg c4,if_neg c5,if_pos c]
    have c6:=of_decide_eq_false c6
    refine⟨ns,_,⟨?_,?_⟩,(by repeat' first|exact trivial|refine⟨trivial,?_⟩|refine⟨(by with_reducible rfl),?_⟩|refine⟨af (by omega) (by omega),?_⟩|refine⟨rfl,?_⟩)⟩
    ·rw[fx,if_neg c1,if_neg c2,if_neg c3,if_neg c4,if_neg c5,if_neg c6]
     exact (pk i0 hi).symm
    ·rw[fx,if_neg c1,if_neg c2,if_neg c3,if_neg c4,if_neg c5,if_neg c6]
   ·rintro nsx csx ⟨hx1,hx2⟩
    have kc:=Fq (x:=ns.getD i.toNat default) (i:=i) hcs
    rw[← hx2] at kc
    have ka:=(ci kc 6).1
    have kb:=(ci ka 65536).1
    have hxl:i.toNat<nsx.length:=by rw[hx1,List.length_set];exact hi'
    simp only[List.set_set,iw hxl]
    refine⟨kc.at',ka.at',kb.at',i+1,_,_,⟨by omega,by omega,?_⟩,by omega,(by repeat' first|exact trivial|refine⟨trivial,?_⟩|refine⟨(by with_reducible rfl),?_⟩|refine⟨af (by omega) (by omega),?_⟩|refine⟨rfl,?_⟩)⟩
    rw[Na Z i0,← hF]
    unfold tp tw
    dsimp only
    rw[show ((i.toNat:Nat):Int)=i by omega,← hx2,hx1,iw hi',List.set_set]
    rfl
  have hi:=of_decide_eq_false hi
  have e:i=Z.1.1.length:=by rw[z1];omega
  subst e
  refine⟨⟨0,ns,ls0,cs,⟨by omega,by omega,?_⟩,(by repeat' first|exact trivial|refine⟨trivial,?_⟩|refine⟨(by with_reducible rfl),?_⟩|refine⟨af (by omega) (by omega),?_⟩|refine⟨rfl,?_⟩)⟩,?_⟩
  ·unfold oL
   rw[← hF,z2];rfl
  clear hF A1 hcs hn hi i0 il
  rintro i ns ls cs ⟨i0,il,hF⟩
  obtain⟨A1,hcs,lg,ll⟩:=tY Z zB zG (i:=i) (by rw[z2];exact il)
  rw[← hF] at A1 hcs lg ll
  dsimp only at A1 hcs lg ll
  rw[← hF]
  dsimp only
  have hn:=A1.n
  rw[z1] at hn lg
  rw[z2] at ll
  refine ae (fun hi=>?_) (fun hi=>?_)
  ·have hi:=of_decide_eq_true hi
   have hi':i.toNat<ls.length:=by omega
   have k6:=(ci hcs 6).1
   refine⟨i0,hi,⟨hcs.at',?_⟩,?_⟩
   ·refine ae (fun c=>?_) (fun c1=>?_)
    ·have c:=of_decide_eq_true c
     refine⟨k6.at',_,_,⟨?_,?_⟩,(by repeat' first|exact trivial|refine⟨trivial,?_⟩|refine⟨(by with_reducible rfl),?_⟩|refine⟨af (by omega) (by omega),?_⟩|refine⟨rfl,?_⟩)⟩
     ·rw[odLink,if_pos c]
     ·rw[odLink,if_pos c]
    have c1:=of_decide_eq_false c1
    refine ae (fun c=>?_) (fun c2=>?_)
    ·have c:=of_decide_eq_true c
     have k3:=cV k6 (n:=3) (by omega)
     refine⟨k6.at',k3.1,k3.2,_,_,⟨?_,?_⟩,(by repeat' first|exact trivial|refine⟨trivial,?_⟩|refine⟨(by with_reducible rfl),?_⟩|refine⟨af (by omega) (by omega),?_⟩|refine⟨rfl,?_⟩)⟩
     ·rw[odLink,if_neg c1,if_pos c]
     ·rw[odLink,if_neg c1,if_pos c]
    have c2:=of_decide_eq_false c2
    refine⟨ls,_,⟨?_,?_⟩,(by repeat' first|exact trivial|refine⟨trivial,?_⟩|refine⟨(by with_reducible rfl),?_⟩|refine⟨af (by omega) (by omega),?_⟩|refine⟨rfl,?_⟩)⟩
    ·rw[odLink,if_neg c1,if_neg c2]
     exact (pk i0 hi).symm
    ·rw[odLink,if_neg c1,if_neg c2]
   ·rintro lsx csx ⟨hx1,hx2⟩
    have lgx:=lg.odLink hi' cs
    rw[← hx1] at lgx
    have lxl:i.toNat<lsx.length:=by rw[hx1,List.length_set];exact hi'
    have g:=lgx.at' lxl
    have e1:(odLink (ls.getD i.toNat default) cs).1=lsx.getD i.toNat default:=by rw[hx1,iw hi']
    have nx:((o7 ns (lsx.getD i.toNat default),lsx),csx)=oL Z (i+1):=by
     rw[LJ Z i0,← hF]
     unfold pQ
     dsimp only
     rw[← hx1,← hx2,e1]
    unfold o7 at nx
    refine⟨g.1.1,by rw[hn];exact g.1.2,?_⟩
    intro b hb
    refine⟨by simp,by simp,by simp,by simp,by simp,by simp,by simp,fun h=>⟨fun _=>h,fun _=>h,g.2.1,by rw[hn];exact g.2.2,trivial⟩,by simp,by simp,fun h=>h,?_⟩
    refine su (fun ha1 ha2=>?_) (fun hna=>?_)
    ·refine⟨g.2.1,by rw[hn];exact g.2.2,i+1,_,_,_,⟨by omega,by omega,?_⟩,by omega,(by repeat' first|exact trivial|refine⟨trivial,?_⟩|refine⟨(by with_reducible rfl),?_⟩|refine⟨af (by omega) (by omega),?_⟩|refine⟨rfl,?_⟩)⟩
     rw[← nx,if_pos ⟨hb.symm.trans ha1,ha2⟩];rfl
    ·refine⟨i+1,_,_,_,⟨by omega,by omega,?_⟩,by omega,(by repeat' first|exact trivial|refine⟨trivial,?_⟩|refine⟨(by with_reducible rfl),?_⟩|refine⟨af (by omega) (by omega),?_⟩|refine⟨rfl,?_⟩)⟩
     rw[← nx,if_neg]
     rintro⟨x1,x2⟩
     rcases hna with h|h
     ·rw[hb] at h
      rw[show dC (ns.getD (lA (lsx.getD i.toNat default)).toNat default)=(ns.getD (lsx.getD i.toNat default).1.toNat default).2.2.2.2.2.2.2.2.2.2.2.2.1 from rfl,h] at x1
      cases x1
     ·rw[show dC (ns.getD (lB (lsx.getD i.toNat default)).toNat default)=(ns.getD (lsx.getD i.toNat default).2.1.toNat default).2.2.2.2.2.2.2.2.2.2.2.2.1 from rfl,h] at x2
      cases x2
  have hi:=of_decide_eq_false hi
  have e:i=Z.1.2.1.length:=by rw[z2];omega
  subst e
  have k4:=cV hcs (n:=4) (by omega)
  have eK:oK Z=(aj cs 4).1:=by unfold oK;rw[← hF]
  refine⟨hcs.at',⟨_,0,[],(aj cs 4).2,⟨k4.1,by rw[eK];exact Int.le_refl _,?_⟩,(by repeat' first|exact trivial|refine⟨trivial,?_⟩|refine⟨(by with_reducible rfl),?_⟩|refine⟨af (by omega) (by omega),?_⟩|refine⟨rfl,?_⟩)⟩,?_⟩
  ·rw[eK,Int.sub_self]
   unfold oC
   rw[← hF];rfl
  clear i0 il hi
  rintro k a hs cs2 ⟨k0,kl,hC⟩
  have cok:=DP Z zB zG (oK Z-k).toNat
  rw[← hC] at cok
  dsimp only at cok
  obtain⟨ok2,a0,al,hsl⟩:=cok
  rw[eK] at kl al hsl
  refine ae (fun hk=>?_) (fun hk=>?_)
  rotate_left
  ·have hk:=of_decide_eq_false hk
   have e:k=0:=by omega
   subst e
   rw[Int.sub_zero] at hC
   have:mr Z=(((oL Z Z.1.2.1.length).1.1,(oL Z Z.1.2.1.length).1.2,(oC Z (oK Z).toNat).1),(oC Z (oK Z).toNat).2.2):=by
    unfold mr oC oK oL oN
    rfl
   rw[this,← hC,← hF]
  have hk:=of_decide_eq_true hk
  have q1:=cV ok2 (n:=60) (by omega)
  have b1:=(ci ok2 60).1
  have q2:=cV b1 (n:=(ns.length:Int)) (by omega)
  have b2:=(ci b1 (ns.length:Int)).1
  have en:oC Z (oK Z-(k-1)).toNat=mE ns (hs,a,cs2):=by
   rw[show (oK Z-(k-1)).toNat=(oK Z-k).toNat+1 by omega,Dv,← hC,← hF]
  unfold mE at en
  dsimp only at en
  generalize eW:(aj (aj cs2 60).2 (ns.length:Int))=W at q2 b2 en ⊢
  generalize eX:ns.getD W.1.toNat default=X at en ⊢
  have hX:aC X=aC (ns0.getD W.1.toNat default)/\aV X=aV (ns0.getD W.1.toNat default):=by
   have:=A1.e W.1.toNat (by rw[z1];omega)
   rw[z1,eX] at this;exact this
  have hM:ns0.getD W.1.toNat default∈ns0:=bL q2.1 (by omega)
  rw[af (n:=a+_) (by omega) (by omega),af (n:=k-1) (by omega) (by omega)]
  refine⟨ok2.at',b1.at',q2.1,q2.2,?_⟩
  refine ae (fun hr=>?_) (fun hr=>?_)
  ·have hr:((aV X).length:Int)=0:=of_decide_eq_true hr
   refine⟨k-1,_,_,_,⟨by omega,by omega,?_⟩,by omega,(by repeat' first|exact trivial|refine⟨trivial,?_⟩|refine⟨(by with_reducible rfl),?_⟩|refine⟨af (by omega) (by omega),?_⟩|refine⟨rfl,?_⟩)⟩
   rw[en,if_pos (show (aV X).length=0 from by omega)]
  have hr:=of_decide_eq_false hr
  have hr':¬ (aV X).length=0:=fun e=>hr (by rw[show X.2.2.2.2.1=aV X from rfl,e];rfl)
  have hpp:=hp _ hM (by rw[← hX.2];exact fun e=>hr' (by rw[e];rfl))
  rw[← hX.1,← hX.2] at hpp
  have q3:=cV b2 (n:=((aV X).length:Int)) (by omega)
  have b3:=(ci b2 ((aV X).length:Int)).1
  have q4:=cV b3 (n:=((aC X).length:Int)) (by omega)
  have b4:=(ci b3 ((aC X).length:Int)).1
  rw[if_neg hr'] at en
  refine⟨b2.at',q3.1,q3.2,b3.at',q4.1,q4.2,b4.at',?_⟩
  refine ae (fun hz=>?_) (fun hz=>?_)
  ·have hz:(aj (aj (aj W.2 ((aV X).length:Int)).2 ((aC X).length:Int)).2 4).1=3:=of_decide_eq_true hz
   refine⟨by simp only[List.length_cons,List.length_nil];omega,k-1,_,_,_,⟨by omega,by omega,?_⟩,by omega,(by repeat' first|exact trivial|refine⟨trivial,?_⟩|refine⟨(by with_reducible rfl),?_⟩|refine⟨af (by omega) (by omega),?_⟩|refine⟨rfl,?_⟩)⟩
   rw[en,if_pos hz];rfl
  ·have hz:¬ (aj (aj (aj W.2 ((aV X).length:Int)).2 ((aC X).length:Int)).2 4).1=3:=of_decide_eq_false hz
   refine⟨by simp only[List.length_cons,List.length_nil];omega,k-1,_,_,_,⟨by omega,by omega,?_⟩,by omega,(by repeat' first|exact trivial|refine⟨trivial,?_⟩|refine⟨(by with_reducible rfl),?_⟩|refine⟨af (by omega) (by omega),?_⟩|refine⟨rfl,?_⟩)⟩
   rw[en,if_neg hz];rfl
theorem ao4:av Tryz.prog GL 51 Kg.spec:=Ct.okH _ Tryz.func51 (by kernel_rfl) (ah (ah aA wA) Qj) au YF (aB (by kernel_rfl) ak0)
theorem GI.small{s:aR}{nn nl:Nat}(h:GI s nn nl)(hn:nn<=100)(hl:nl<=100):nY s :=
 ⟨h.c.at',by rw[h.n];omega,by rw[h.l];omega,by rw[h.h];decide,fun x hx=>by have:=h.plen x hx;omega⟩
theorem GI.inN{s:aR}{nn nl:Nat}(h:GI s nn nl){a:Int}(h0:0<=a)(h1:a<nn):inN s.1.1 a:=⟨h0,by rw[h.n];exact h1⟩
theorem GI.preR{s:aR}{nn nl:Nat}(h:GI s nn nl)(hn:nn<=100)(hl:nl<=100):preR s:=by
 refine⟨h.c.at',by rw[h.n];omega,by rw[h.l];omega,h.ends,h.routes,?_⟩
 have:=zR h.plen
 rw[h.n] at this
 have:=Nat.mul_le_mul hn (show 2*nl<=200 by omega)
 omega
structure RS (s:aR) (nn nl:Nat) (r:aR):Prop where
 g:GI s nn nl
 i:RI s.1.2.1 (f9 s.1.1) s.1.1 r.1.1
 c:bS r.2
 l:r.1.2=s.1.2
theorem GI.rs{s:aR}{nn nl:Nat}(h:GI s nn nl)(plain:Bool):RS s nn nl (xx s plain):=by
 have:=RI.stepTs (ns0:=s.1.1) (ls:=s.1.2.1) (s:=(s.1.1,s.2)) ⟨RI.start h.routes,h.c⟩ h.ends (plain:=plain) (Nat.le_refl _)
 exact⟨h,this.1,this.2,rfl⟩
theorem RS.ports{s r:aR}{nn nl:Nat}(h:RS s nn nl r){i:Nat}(hi:i<nn):aC (r.1.1.getD i default)=portsF i 0 s.1.2.1 :=
 (h.i.ports (by rw[h.g.n];exact hi)).trans (h.g.p i hi)
theorem RS.mem{s r:aR}{nn nl:Nat}(h:RS s nn nl r){x:ac}(hx:x∈r.1.1):∃ i,i<nn/\r.1.1.getD i default=x:=by
 obtain⟨i,hi,e⟩:=List.mem_iff_getElem.1 hx
 exact⟨i,by have:=h.i.n;have:=h.g.n;omega,by rw[List.getD_eq_getElem?_getD,List.getElem?_eq_getElem hi,e];rfl⟩
theorem RS.tab{s r:aR}{nn nl:Nat}(h:RS s nn nl r){i:Nat}(hi:i<nn):kU s.1.2.1 (f9 s.1.1) i (aV (r.1.1.getD i default)):=h.i.t i (by rw[h.g.n];exact hi)
theorem RS.preO{s r:aR}{nn nl:Nat}(h:RS s nn nl r)(hn:nn<=100)(hl:nl<=100)(h0:0<nn):preO r:=by
 have pl:∀ x∈r.1.1,x.1.length<=2*nl:=fun x hx=>by
  obtain⟨i,hi,rfl⟩:=h.mem hx
  have:=xh i 0 s.1.2.1
  rw[← h.ports hi,h.g.l] at this
  exact this
 have rn:r.1.1.length=nn:=h.i.n.trans h.g.n
 have al:=zR h.g.plen
 rw[h.g.n] at al
 have al2:=Nat.mul_le_mul hn (show 2*nl<=200 by omega)
 refine⟨h.c.at',by omega,by omega,?_,?_,?_,?_,fun x hx hr=>?_⟩
 ·rw[h.l,h.g.l];omega
 ·have:=h.g.ends
  rw[h.l,rn,← h.g.n];exact this
 ·rw[h.l];exact h.g.h
 ·have:=zR pl
  rw[rn] at this
  omega
 ·have hp:=pl x hx
  obtain⟨i,hi,rfl⟩:=h.mem hx
  have t:=h.tab hi
  have tl:=Fd t
  refine⟨?_,by have:(aC (r.1.1.getD i default)).length<=2*nl:=hp;omega,by omega⟩
  obtain⟨y,ys,e⟩:=List.exists_cons_of_ne_nil hr
  have ty:=t.2 y (by rw[e];exact List.mem_cons_self)
  obtain⟨k,ks,ek⟩:=List.exists_cons_of_ne_nil ty.ne
  obtain⟨k0,k1,kk⟩:=ty.ln k (by rw[ek];exact List.mem_cons_self)
  rw[h.ports hi]
  rcases kk with kk|kk
  ·exact List.length_pos_of_mem (yH.2 ⟨k.toNat,by omega,.inl ⟨kk,rfl⟩⟩)
  ·exact List.length_pos_of_mem (yH.2 ⟨k.toNat,by omega,.inr ⟨kk,rfl⟩⟩)
def u7(plain:Bool)(c:aH):aR:=uD plain (kY c).1 (kY c).2
def kN(c:aH):Int:=(aj (kY c).2.2 4).1
def m8(plain:Bool)(c:aH)(k:Int):aR:=nR plain (bj c) (kY c).2 (kN c-k).toNat
theorem Tj(l m:List ac):(List.brecOn.go (motive:=fun (x:List ac)=>List ac->List ac) l List.append._f).1 m=l++m:=by kernel_rfl
theorem aa1{plain:Bool}{c:aH}{k:Int}(k0:0<k)(k1:k<=kN c)(h1:1<bj c)(h2:plain=false):m8 plain c (k-1)=pL (bj c) (m8 plain c k):=by
 unfold m8 nR
 rw[if_pos ⟨h1,h2⟩,if_pos ⟨h1,h2⟩,show (kN c-(k-1)).toNat=(kN c-k).toNat+1 by omega,List.range_succ,List.foldl_append];rfl
theorem al4{plain:Bool}{c:aH}{k:Int}(h:k=0∨¬ (1<bj c/\plain=false)):m8 plain c k=nR plain (bj c) (kY c).2 (aj (kY c).2.2 4).1.toNat:=by
 rcases h with h|h
 ·subst h
  unfold m8 kN
  rw[Int.sub_zero]
 ·unfold m8 nR
  rw[if_neg h,if_neg h]
theorem Uo{c:aH}(h:bS c)(plain:Bool)(k:Int)(k0:0<=k):∃ m,m<=9/\GI (m8 plain c k) ((bj c).toNat+2) m:=by
 have hn:=sJ h
 have hl:=Bb h
 have h4:=cV hl.c (n:=4) (by omega)
 obtain⟨m,m0,m1,hm⟩:=Mb hl (plain:=plain) (n:=bj c) hn.1 (by omega) (kN c-k).toNat
 unfold kN at m1
 exact⟨m,by omega,hm⟩
def G6:Ct:=⟨[.box 109 f6,.val .bool],[.agg iC],fun d=>[az d.1],fun d=>((ou d.2.1 d.1,()),(u4 d.2.1 d.1,()))⟩
def U3:ar G6.ps->ay:=(fun d=>{loops:=(fun n=>match n with|6=>some (fun S=>{ι:=Int×aR,qn:=⟨fun k_=>∀(i:Int)(s:aR),k_ (i,s),fun k_ h_ i=>h_ i.1 i.2,fun k_=>∃ (i:Int) (s:aR),k_ (i,s),fun k_ ⟨i,s,h_⟩=>⟨_,h_⟩⟩,μ:=fun i=>(bj d.1-i.1).toNat,inv:=fun i=>0<=i.1/\i.1<=bj d.1/\i.2=(List.range i.1.toNat).foldl oA (r4 d.1),keep:=[0,1,4,5],slots:=fun i=>[(7,.int .i64 (bj d.1)),(9,.int .i64 i.1),(8,.int .i64 i.1)],keepN:=[80],names:=fun i=>[(288,.live (.cells 119 [.own 524288 16,.own 524289 6,.own 524290 7,.ptr 1048576 0])),(524288,.live (.row 107 bH i.2.1.1)),(524289,.live (.row 99 fy i.2.1.2.1)),(524290,.live (.row 129 dZ i.2.1.2.2)),(1048576,.live (.cells 109 (cy f6 i.2.2)))]})|14=>some (fun S=>{ι:=Int×aR,qn:=⟨fun k_=>∀(k:Int)(s:aR),k_ (k,s),fun k_ h_ i=>h_ i.1 i.2,fun k_=>∃ (k:Int) (s:aR),k_ (k,s),fun k_ ⟨k,s,h_⟩=>⟨_,h_⟩⟩,μ:=fun i=>i.1.toNat,inv:=fun i=>0<=i.1/\i.1<=kN d.1/\i.2=m8 d.2.1 d.1 i.1,keep:=[0,1,4,5],slots:=fun i=>[(7,.int .i64 (bj d.1)),(12,.int .i64 i.1)],keepN:=[80],names:=fun i=>[(288,.live (.cells 119 [.own 524288 16,.own 524289 6,.own 524290 7,.ptr 1048576 0])),(524288,.live (.row 107 bH i.2.1.1)),(524289,.live (.row 99 fy i.2.1.2.1)),(524290,.live (.row 129 dZ i.2.1.2.2)),(1048576,.live (.cells 109 (cy f6 i.2.2)))]})|_=>none),cuts:=(fun n=>match n with|21=>some (fun S=>{ι:=aR,inv:=fun i=>i=u7 d.2.1 d.1,keep:=[0,1,4,5],slots:=fun i=>[],keepN:=[80],names:=fun i=>[(288,.live (.cells 119 [.own 524288 16,.own 524289 6,.own 524290 7,.ptr 1048576 0])),(524288,.live (.row 107 bH i.1.1)),(524289,.live (.row 99 fy i.1.2.1)),(524290,.live (.row 129 dZ i.1.2.2)),(1048576,.live (.cells 109 (cy f6 i.2)))]})|_=>none)})
def qH(c:Bool)(j:aR) :=
 List.foldl (stepT j.1.2.1 c) (j.1.1,j.2) (List.range j.1.1.length)
def vX(c:Bool)(j:aR) :=
 List.foldl pQ (((List.foldl tp (qH c j) (List.range (List.length (qH c j).1))).1,j.1.2.1),(List.foldl tp (qH c j) (List.range (List.length (qH c j).1))).2) (List.range j.1.2.1.length)
def ya(e:aR) :=
 List.getD [(64:Int),(255:Int),(128:Int)] (Int.toNat (aj e.2 3).1) default
def pV(e:aR) :=
 aj (aj e.2 3).2 (256:Int)
def py(a:List Int)(b:Int) :=
 IntKind.wrap .i64 (bj (a,b) -(1:Int))
def nL(a:List Int)(b:Int)(g:aR) :=
 aj (aj g.2 (bj (a,b))).2 (bj (a,b))
def ra(e:aR) :=
 aj (aj (pV e).2 (20:Int)).2 (256:Int)
def Ee(c:Bool)(j:aR) :=
 List.foldl (fun (k:List aN×Int×aH) (l:Nat)=>mE (vX c j).1.1 k) (([]:List aN),(0:Int),(aj (vX c j).2 (4:Int)).2) (List.range (Int.toNat (aj (vX c j).2 (4:Int)).1))
def n6(e:aR) :=
 (e.1.1.length:Int)
def ry(a:List Int)(b:Int)(g:aR) :=
 aj (aj g.2 2).2 (py a b)
def mR(g:aR) :=
 (g.1.2.1.length:Int)
def wz(a:List Int)(b:Int) :=
 aj (aj (a,b) (3:Int)).2 (256:Int)
def Bl(e:aR) :=
 e.1.1++[oQ (n6 e) false (ya e) (pV e).1]
def A4(e:aR) :=
 e.1.1++[oQ (n6 e) true (ya e) (pV e).1]
def qN(e:aR) :=
 (e.1.2.1.length:Int)
theorem Zo :
 ∀(a:List Int)(b:Int)(c:Bool),((a.length<=maxLen/\ ∀(d:Int),d∈a->0<=d/\d<=255)/\ab b)/\True/\True->0<=b/\b<=(a.length:Int)->nY ((([]:List ac),([]:List aF),([]:List aN)),a,b)/\az (wz a b).2/\(∃(d:Int) (e:aR),(0<=d/\d<=bj (a,b)/\e=List.foldl oA (r4 (a,b)) (List.range d.toNat))/\c=c/\IntKind.wrap .i64 ((1:Int)+(aj (wz a b).2 (5:Int)).1)=bj (a,b)/\(↑(0:Nat):Int)=d/\(0:Int)=d/\[oQ (↑(0:Nat):Int) true (List.getD [(64:Int),(255:Int),(128:Int)] (Int.toNat (aj (a,b) (3:Int)).1) default) (wz a b).1]=e.1.1/\([]:List aF)=e.1.2.1/\([]:List aN)=e.1.2.2/\(aj (wz a b).2 (5:Int)).2.1=e.2.1/\(aj (wz a b).2 (5:Int)).2.2=e.2.2/\True)/\ ∀(d:Int)(e:aR),0<=d/\d<=bj (a,b)/\e=List.foldl oA (r4 (a,b)) (List.range d.toNat)->ad (decide (d<bj (a,b))) (nY e/\nY (((List.brecOn.go (motive:=fun (f:List ac)=>List ac->List
 ac) e.1.1 List.append._f).1 [oQ (n6 e) false (ya e) (pV e).1],e.1.2),(pV e).2)/\inN (Bl e) d/\inN (Bl e) (n6 e)/\ ∃(f:Int) (g:aR),(0<=f/\f<=bj (a,b)/\g=List.foldl oA (r4 (a,b)) (List.range f.toNat))/\Int.toNat (bj (a,b) -f)<Int.toNat (bj (a,b) -d)/\c=c/\bj (a,b)=bj (a,b)/\(n6 e)=f/\IntKind.wrap .i64 (d+(1:Int))=f/\iA (iA (Bl e) d (dX (qN e)+(1:Int),(qN e))) (n6 e) (dX (qN e)+(2:Int),(qN e))=g.1.1/\e.1.2.1++[(d,(n6 e),(1:Int)+(aj (pV e).2 (20:Int)).1,(0:Int),(0:Int),(ra e).1)]=g.1.2.1/\e.1.2.2=g.1.2.2/\(ra e).2.1=g.2.1/\(ra e).2.2=g.2.2/\True) (nY e/\nY (((List.brecOn.go (motive:=fun (f:List ac)=>List ac->List ac) e.1.1 List.append._f).1 [oQ (n6 e) true (ya e) (pV e).1],e.1.2),(pV e).2)/\inN (A4 e) d/\inN (A4 e) (n6 e)/\az (ra
 e).2/\(∃(f:Int) (g:aR),(0<=f/\f<=kN (a,b)/\g=m8 c (a,b) f)/\c=c/\bj (a,b)=bj (a,b)/\(aj (ra e).2 (4:Int)).1=f/\iA (iA (A4 e) d (dX (qN e)+(1:Int),(qN e))) (n6 e) (dX (qN e)+(2:Int),(qN e))=g.1.1/\e.1.2.1++[(d,(n6 e),(1:Int)+(aj (pV e).2 (20:Int)).1,(0:Int),(0:Int),(ra e).1)]=g.1.2.1/\e.1.2.2=g.1.2.2/\(aj (ra e).2 (4:Int)).2.1=g.2.1/\(aj (ra e).2 (4:Int)).2.2=g.2.2/\True)/\ ∀(f:Int)(g:aR),0<=f/\f<=kN (a,b)/\g=m8 c (a,b) f-> ∀(h:Bool),h=decide (0<f)->(h->(h->h)/\True)/\(h->h)/\ ∀(i:Bool),(i=bif h then decide (1<bj (a,b)) else false)->(i->(i->i)/\True)/\(i->i)/\ad (bif i then ! c else false) (az g.2/\az (aj g.2 (bj (a,b))).2/\ad (! decide (IntKind.wrap .i64 ((1:Int)+(aj g.2 (bj (a,b))).1)=IntKind.wrap .i64 ((1:Int)+(nL a b g).1))) (nY (g.1,(nL a b g).2)/\inN g.1.1 (IntKind.wrap
 .i64 ((1:Int)+(aj g.2 (bj (a,b))).1))/\inN g.1.1 (IntKind.wrap .i64 ((1:Int)+(nL a b g).1))/\ ∃(j:Int) (k:aR),(0<=j/\j<=kN (a,b)/\k=m8 c (a,b) j)/\j.toNat<f.toNat/\c=c/\bj (a,b)=bj (a,b)/\IntKind.wrap .i64 (f -(1:Int))=j/\iA (iA g.1.1 (IntKind.wrap .i64 ((1:Int)+(aj g.2 (bj (a,b))).1)) (dX (mR g)+(1:Int),(mR g))) (IntKind.wrap .i64 ((1:Int)+(nL a b g).1)) (dX (mR g)+(2:Int),(mR g))=k.1.1/\g.1.2.1++[(IntKind.wrap .i64 ((1:Int)+(aj g.2 (bj (a,b))).1),IntKind.wrap .i64 ((1:Int)+(nL a b g).1),(1:Int)+(aj (nL a b g).2 (20:Int)).1,(0:Int),(0:Int),(aj (aj (nL a b g).2 (20:Int)).2 (256:Int)).1)]=k.1.2.1/\g.1.2.2=k.1.2.2/\(aj (aj (nL a b g).2 (20:Int)).2 (256:Int)).2.1=k.2.1/\(aj (aj (nL a b g).2 (20:Int)).2 (256:Int)).2.2=k.2.2/\True) (∃(j:Int) (k:aR),(0<=j/\j<=kN (a,b)/\k=m8 c (a,b)
 j)/\j.toNat<f.toNat/\c=c/\bj (a,b)=bj (a,b)/\IntKind.wrap .i64 (f -(1:Int))=j/\g.1.1=k.1.1/\g.1.2.1=k.1.2.1/\g.1.2.2=k.1.2.2/\(nL a b g).2.1=k.2.1/\(nL a b g).2.2=k.2.2/\True)) ((∀(j:Bool),j=c->(j->(j->j)/\True)/\(j->j)/\ ∀(k:Bool),(k=bif j then decide (2<bj (a,b)) else false)->ad k ((k->k)/\az g.2/\(k->k)/\ad (bif k then decide ((aj g.2 2).1=1) else false) (az (aj g.2 2).2/\nY (g.1,(ry a b g).2)/\inN g.1.1 (IntKind.wrap .i64 ((1:Int)+(ry a b g).1))/\inN g.1.1 (bj (a,b))/\ ∃(l:aR),l=u7 c (a,b)/\c=c/\iA (iA g.1.1 (IntKind.wrap .i64 ((1:Int)+(ry a b g).1)) (dX (mR g)+(1:Int),(mR g))) (bj (a,b)) (dX (mR g)+(2:Int),(mR g))=l.1.1/\g.1.2.1++[(IntKind.wrap .i64 ((1:Int)+(ry a b g).1),bj (a,b),(1:Int)+(aj (ry a b g).2 (20:Int)).1,(0:Int),(0:Int),(aj (aj (ry a b g).2 (20:Int)).2
 (256:Int)).1)]=l.1.2.1/\g.1.2.2=l.1.2.2/\(aj (aj (ry a b g).2 (20:Int)).2 (256:Int)).2.1=l.2.1/\(aj (aj (ry a b g).2 (20:Int)).2 (256:Int)).2.2=l.2.2/\True) (∃(l:aR),l=u7 c (a,b)/\c=c/\g.1.1=l.1.1/\g.1.2.1=l.1.2.1/\g.1.2.2=l.1.2.2/\(aj g.2 2).2.1=l.2.1/\(aj g.2 2).2.2=l.2.2/\True)) (k=false/\(k->false=true)/\ad (bif k then false else false) (az g.2/\nY (g.1,(aj g.2 (py a b)).2)/\inN g.1.1 (IntKind.wrap .i64 ((1:Int)+(aj g.2 (py a b)).1))/\inN g.1.1 (bj (a,b))/\ ∃(l:aR),l=u7 c (a,b)/\c=c/\iA (iA g.1.1 (IntKind.wrap .i64 ((1:Int)+(aj g.2 (py a b)).1)) (dX (mR g)+(1:Int),(mR g))) (bj (a,b)) (dX (mR g)+(2:Int),(mR g))=l.1.1/\g.1.2.1++[(IntKind.wrap .i64 ((1:Int)+(aj g.2 (py a b)).1),bj (a,b),(1:Int)+(aj (aj g.2 (py a b)).2 (20:Int)).1,(0:Int),(0:Int),(aj (aj (aj g.2 (py
 a b)).2 (20:Int)).2 (256:Int)).1)]=l.1.2.1/\g.1.2.2=l.1.2.2/\(aj (aj (aj g.2 (py a b)).2 (20:Int)).2 (256:Int)).2.1=l.2.1/\(aj (aj (aj g.2 (py a b)).2 (20:Int)).2 (256:Int)).2.2=l.2.2/\True) (∃(l:aR),l=u7 c (a,b)/\c=c/\g.1.1=l.1.1/\g.1.2.1=l.1.2.1/\g.1.2.2=l.1.2.2/\g.2.1=l.2.1/\g.2.2=l.2.2/\True)))/\ ∀(j:aR),j=u7 c (a,b)->preR j/\ad (! c) (preO (((qH c j).1,j.1.2),(qH c j).2)/\((vX c j).1.1,(vX c j).1.2,(Ee c j).1)=ou c (a,b)/\(Ee c j).2.2=u4 c (a,b)) (((qH c j).1,j.1.2)=ou c (a,b)/\(qH c j).2=u4 c (a,b)))):=by
  delta vX ya pV py qH nL ra Ee n6 ry mR wz Bl A4 qN
  rintro l p plain ⟨⟨⟨hl,hw⟩,-⟩,-⟩ hc
  have hB:bS (l,p):=⟨hc,hw⟩
  generalize ((l,p):aH)=c at hB hc ⊢
  have hN:=sJ hB
  have g0:=GI.start hB
  have g1:=g0.node true
  have hw5:IntKind.i64.wrap (1+(aj (aj (aj c 3).2 256).2 5).1)=bj c:=af (n:=bj c) (by omega) (by omega)
  rw[hw5]
  refine⟨g0.small (by omega) (by omega),g1.c.at',⟨0,r4 c,⟨by omega,by omega,rfl⟩,(by repeat' first|exact trivial|refine⟨trivial,?_⟩|refine⟨(by with_reducible rfl),?_⟩|refine⟨af (by omega) (by omega),?_⟩|refine⟨rfl,?_⟩)⟩,?_⟩
  rintro i s ⟨i0,il,hs⟩
  have hg:GI s (i.toNat+1) i.toNat:=by rw[hs];exact (NQ hB).chain _
  have e1:(s.1.1.length:Int)=i+1:=by rw[hg.n];omega
  simp only[Tj]
  refine ae (fun hi=>?_) (fun hi=>?_)
  ·have hi:=of_decide_eq_true hi
   have hg2:=hg.node false
   refine⟨hg.small (by omega) (by omega),hg2.small (by omega) (by omega),hg2.inN i0 (by omega),hg2.inN (by omega) (by omega),i+1,gp (iu s false) i s.1.1.length,⟨by omega,by omega,?_⟩,by omega,?_⟩
   ·rw[show (i+1).toNat=i.toNat+1 by omega,List.range_succ,List.foldl_append,← hs,List.foldl_cons,List.foldl_nil,oA,show ((i.toNat:Nat):Int)=i by omega,e1]
   ·repeat' first|exact trivial|refine⟨trivial,?_⟩|refine⟨(by with_reducible rfl),?_⟩|refine⟨e1,?_⟩|refine⟨af (by omega) (by omega),?_⟩|refine⟨rfl,?_⟩
  have hi:=of_decide_eq_false hi
  have hi:i=bj c:=by omega
  subst hi
  have hg2:=hg.node true
  have eL:gp (iu s true) (bj c) s.1.1.length=(kY c).2:=by rw[EZ,← hs,e1]
  have gL:=Bb hB
  rw[← eL] at gL
  have h4:=cV gL.c (n:=4) (by omega)
  have eK:(aj (gp (iu s true) (bj c) s.1.1.length).2 4).1=kN c:=by rw[eL];rfl
  refine⟨hg.small (by omega) (by omega),hg2.small (by omega) (by omega),hg2.inN i0 (by omega),hg2.inN (by omega) (by omega),gL.c.at',⟨(aj (gp (iu s true) (bj c) s.1.1.length).2 4).1,((gp (iu s true) (bj c) s.1.1.length).1,(aj (gp (iu s true) (bj c) s.1.1.length).2 4).2),⟨h4.1,by omega,?_⟩,(by repeat' first|exact trivial|refine⟨trivial,?_⟩|refine⟨(by with_reducible rfl),?_⟩|refine⟨af (by omega) (by omega),?_⟩|refine⟨rfl,?_⟩)⟩,?_⟩
  ·rw[eK]
   unfold m8 nR
   rw[Int.sub_self,← eL]
   split <;> rfl
  clear hs hg e1 hg2 eL gL h4 eK il i0
  clear s
  rintro k s ⟨k0,k1,hs⟩
  obtain⟨m,hm,hg⟩:=Uo hB plain k k0
  rw[← hs] at hg
  have hkN:kN c<=4:=by
   have:=cV (Bb hB).c (n:=4) (by omega)
   unfold kN;omega
  have ka:=cV hg.c (n:=bj c) (by omega)
  have ca:=(ci hg.c (bj c)).1
  have kb:=cV ca (n:=bj c) (by omega)
  have cb:=(ci ca (bj c)).1
  intro b hb
  refine⟨by simp,by simp,?_⟩
  intro b1 hb1
  refine⟨by simp,by simp,?_⟩
  refine su (fun x1 x2=>?_) (fun hno=>?_)
  ·have hk:0<k/\1<bj c:=by
    rw[x1] at hb1
    rcases b with _|_
    ·cases hb1
    ·exact⟨of_decide_eq_true hb.symm,of_decide_eq_true hb1.symm⟩
   have hpl:plain=false:=by simpa using x2
   have nx:=aa1 (plain:=plain) hk.1 k1 hk.2 hpl
   rw[← hs] at nx
   unfold pL at nx
   dsimp only at nx
   rw[af (n:=1+(aj s.2 (bj c)).1) (by omega) (by omega),af (n:=1+(aj (aj s.2 (bj c)).2 (bj c)).1) (by omega) (by omega),af (n:=k-1) (by omega) (by omega)]
   refine⟨hg.c.at',ca.at',?_⟩
   have hgc:=hg.codes cb
   refine ae (fun hne=>?_) (fun hne=>?_)
   ·have hne:=fY hne
    rw[if_neg (by omega)] at nx
    exact⟨hgc.small (by omega) (by omega),hgc.inN (by omega) (by omega),hgc.inN (by omega) (by omega),k-1,_,⟨by omega,by omega,nx.symm⟩,by omega,(by repeat' first|exact trivial|refine⟨trivial,?_⟩|refine⟨(by with_reducible rfl),?_⟩|refine⟨af (by omega) (by omega),?_⟩|refine⟨rfl,?_⟩)⟩
   ·have hne:=gz hne
    rw[if_pos (by omega)] at nx
    exact⟨k-1,_,⟨by omega,by omega,nx.symm⟩,by omega,(by repeat' first|exact trivial|refine⟨trivial,?_⟩|refine⟨(by with_reducible rfl),?_⟩|refine⟨af (by omega) (by omega),?_⟩|refine⟨rfl,?_⟩)⟩
  have he:k=0∨¬ (1<bj c/\plain=false):=by
   by_cases z:k=0
   ·exact .inl z
   ·refine .inr ?_
    rintro⟨z1,z2⟩
    rw[hb,show decide (0<k)=true from decide_eq_true (by omega),show decide (1<bj c)=true from decide_eq_true z1] at hb1
    rcases hno with h|h
    ·rw[h] at hb1;cases hb1
    ·rw[z2] at h;cases h
  rw[al4 he] at hs
  clear hno hb1 hb b1 b k0 k1 he
  have hF:=CN plain (bj c) (kY c).2
  dsimp only at hF
  rw[← hs] at hF
  have c2:=(ci hg.c 2).1
  refine⟨?_,?_⟩
  ·intro b hb
   (repeat refine⟨by simp,?_⟩)
   intro b2 hb2
   refine ae (fun h=>?_) (fun h=>?_)
   ·have hk:plain=true/\2<bj c:=by
     rw[h,hb] at hb2
     rcases plain with _|_
     ·cases hb2
     ·exact⟨rfl,of_decide_eq_true hb2.symm⟩
    simp only[h,cond_true]
    rw[if_pos hk] at hF
    refine⟨fun h=>h,hg.c.at',fun h=>h,ae (fun h2=>?_) (fun h2=>?_)⟩
    ·have h2:=of_decide_eq_true h2
     rw[if_pos h2] at hF
     have kd:=cV c2 (n:=bj c-1) (by omega)
     have cd:=(ci c2 (bj c-1)).1
     have hgc:=hg.codes cd
     rw[af (n:=bj c-1) (by omega) (by omega),af (n:=1+(aj (aj s.2 2).2 (bj c-1)).1) (by omega) (by omega)]
     exact⟨c2.at',hgc.small (by omega) (by omega),hgc.inN (by omega) (by omega),hgc.inN (by omega) (by omega),_,hF.symm,(by repeat' first|exact trivial|refine⟨trivial,?_⟩|refine⟨(by with_reducible rfl),?_⟩|refine⟨af (by omega) (by omega),?_⟩|refine⟨rfl,?_⟩)⟩
    ·have h2:=of_decide_eq_false h2
     rw[if_neg h2] at hF
     exact⟨_,hF.symm,(by repeat' first|exact trivial|refine⟨trivial,?_⟩|refine⟨(by with_reducible rfl),?_⟩|refine⟨af (by omega) (by omega),?_⟩|refine⟨rfl,?_⟩)⟩
   ·have hk:¬ (plain=true/\2<bj c):=by
     rintro⟨z1,z2⟩
     rw[h,hb,z1,show decide (2<bj c)=true from decide_eq_true z2] at hb2
     cases hb2
    simp only[h,cond_false]
    rw[if_neg hk] at hF
    refine⟨trivial,fun h=>h,?_⟩
    rw[Dt]
    exact⟨s,hF.symm,(by repeat' first|exact trivial|refine⟨trivial,?_⟩|refine⟨(by with_reducible rfl),?_⟩|refine⟨af (by omega) (by omega),?_⟩|refine⟨rfl,?_⟩)⟩
  rintro t ht
  obtain⟨m',-,m1,hG⟩:=AC hB plain
  have hG:GI t ((bj c).toNat+2) m':=by rw[ht];exact hG
  refine⟨hG.preR (by omega) (by omega),?_⟩
  have hR:=hG.rs plain
  have hO:=hR.preO (by omega) (by omega) (by omega)
  subst ht
  rcases plain with _|_
  ·rw[show (!false)=true from rfl,SU]
   exact⟨hO,rfl,rfl⟩
  ·rw[show (!true)=false from rfl,Dt]
   exact⟨rfl,rfl⟩
theorem aa8:av Tryz.prog GL 15 G6.spec:=Ct.okH _ Tryz.func15 (by kernel_rfl) (ah (ah (ah (ah (ah aA Qg) wA) WK) Ym) ao4) au U3 (aB (by kernel_rfl) Zo)
end Go.RS
