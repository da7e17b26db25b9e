/- Netr: routes of drawn networks: what holds of them at any time. -/
import Derived.Test.YthmcfealplfaaaaGreatDoorDrawsome
import Derived.Test.YthmcfealplfaaaaGreatDoorNodek
namespace Go.RS
open Go.SX Go.Proofs
set_option maxRecDepth 100000
set_option linter.unusedVariables false
theorem D1{α:Type} [DecidableEq α]:∀{l m:List α},l.Nodup->(∀ x∈l,x∈m)->l.length<=m.length
 | [],m,_,_=>by simp
 | x::l,m,h,hs=>by
  have hx:=hs x List.mem_cons_self
  have hn:=List.nodup_cons.1 h
  have:=D1 (l:=l) (m:=m.erase x) hn.2 fun y hy=>(List.mem_erase_of_ne (fun e:y=x=>hn.1 (e▸hy))).2 (hs y (List.mem_cons_of_mem _ hy))
  rw[List.length_erase_of_mem hx] at this
  have hp:=List.length_pos_of_mem hx
  rw[List.length_cons];omega
theorem vC{α β:Type}(I:β->Prop)(f:β->α->β):∀{l:List α}{b:β},I b->(∀ x∈l,∀ b,I b->I (f b x))->I (l.foldl f b)
 | [],b,h,_=>h
 | x::l,b,h,hf=>vC I f (l:=l) (hf x List.mem_cons_self b h) fun y hy=>hf y (List.mem_cons_of_mem _ hy)
theorem DY{k x:Int}:∀{l:List Int},x∈iR k l->x=k∨x∈l
 | [],h=>by simp[iR] at h;exact .inl h
 | y::r,h=>by
  rw[iR] at h
  split at h
  ·rcases List.mem_cons.1 h with e|h
   ·exact .inl e
   ·exact .inr h
  ·rcases List.mem_cons.1 h with e|h
   ·exact .inr (e▸List.mem_cons_self)
   ·rcases DY h with e|h
    ·exact .inl e
    ·exact .inr (List.mem_cons_of_mem _ h)
theorem JP{k:Int}:∀{l:List Int},l.Pairwise (· < ·)->k ∉ l->(iR k l).Pairwise (· < ·)
 | [],_,_=>by rw[iR];exact List.pairwise_singleton _ _
 | y::r,h,hk=>by
  have h:=List.pairwise_cons.1 h
  rw[iR]
  split
  ·rename_i hy
   refine List.pairwise_cons.2 ⟨fun z hz=>?_,List.pairwise_cons.2 h⟩
   rcases List.mem_cons.1 hz with rfl|hz
   ·exact hy
   ·exact Int.lt_trans hy (h.1 z hz)
  ·rename_i hy
   have:k≠y:=fun e=>hk (e▸List.mem_cons_self)
   refine List.pairwise_cons.2 ⟨fun z hz=>?_,JP h.2 fun e=>hk (List.mem_cons_of_mem _ e)⟩
   rcases DY hz with rfl|hz
   ·omega
   ·exact h.1 z hz
theorem U1(k:Int)(l:List Int):iR k l≠[]:=by
 intro e
 have:=Dp k l
 rw[e] at this;simp at this
theorem Pn{l:List Rt}{r x:Rt}(h:x∈dN l r):x=r∨x∈l:=by
 unfold dN at h
 rcases List.mem_append.1 h with h|h
 ·exact .inr (List.mem_filter.1 h).1
 ·rcases List.mem_cons.1 h with e|h
  ·exact .inl e
  ·exact .inr (List.mem_filter.1 h).1
def lnk(ls:List aE)(i k:Int):Prop:=0<=k/\k<ls.length/\(lA (ls.getD k.toNat default)=i∨lB (ls.getD k.toNat default)=i)
structure EK (ls:List aE) (aa:List Int) (i:Int) (r:Rt):Prop where
 len:r.1.2=32
 mem:r.1.1∈aa
 ne:r.2.1≠[]
 pw:r.2.1.Pairwise (· < ·)
 ln:∀ k∈r.2.1,lnk ls i k
 w0:1<=r.2.2
 w1:r.2.2<=3
def kW(ls:List aE)(aa:List Int)(i:Int)(t:List Rt):Prop:=bM t∧∀ r∈t,EK ls aa i r
theorem CG{ls:List aE}{aa:List Int}{i:Int}{t:List Rt}(h:kW ls aa i t):t.length<=aa.length:=by
 have hn:(t.map fun r=>r.1.1).Nodup:=by
  refine List.Pairwise.map (R:=fun a b:Rt=>a.1.1≠b.1.1) _ (fun a b h=>h) (h.1.imp_of_mem fun {a b} ha hb k=>?_)
  have e1:=(h.2 a ha).len
  have e2:=(h.2 b hb).len
  unfold aW at k
  omega
 have:=D1 hn (m:=aa) fun x hx=>by
  obtain⟨r,hr,rfl⟩:=List.mem_map.1 hx
  exact (h.2 r hr).mem
 simpa using this
theorem C4{ls:List aE}{aa:List Int}{i:Int}{r:Rt}(h:EK ls aa i r):r.2.1.length<=ls.length:=by
 have hn:r.2.1.Nodup:=h.pw.imp fun k=>by omega
 have:=D1 hn (m:=(List.range ls.length).map fun (n:Nat)=>(n:Int)) fun x hx=>by
  obtain⟨k0,k1,_⟩:=h.ln x hx
  exact List.mem_map.2 ⟨x.toNat,List.mem_range.2 (by omega),by omega⟩
 simpa using this
theorem Wa{ls:List aE}{aa:List Int}{i:Int}{t:List Rt}(h:kW ls aa i t){p:cO}{k way:Int}(hp:p.2=32)(ha:p.1∈aa)(hk:lnk ls i k)(h0:1<=way)(h1:way<=3) :
  kW ls aa i (r5 t p k way):=by
 have put:∀ r:Rt,EK ls aa i r->kW ls aa i (dN t r):=fun r hr =>
  ⟨F5 h.1,fun x hx=>by
   rcases Pn hx with rfl|hx
   ·exact hr
   ·exact h.2 x hx⟩
 unfold r5
 split
 ·rename_i hf
  have hx:t.getD (o7 t p) default∈t:=by
   have:=bL (xs:=t) (i:=(o7 t p:Nat)) (by omega) (by omega)
   simpa using this
  have hx:=h.2 _ hx
  split
  ·exact h
  ·rename_i hn
   exact put _ ⟨hp,ha,U1 _ _,JP hx.pw hn,fun y hy=>by
    rcases DY hy with rfl|hy
    ·exact hk
    ·exact hx.ln y hy,hx.w0,hx.w1⟩
 ·exact put _ ⟨hp,ha,by simp,List.pairwise_singleton _ _,fun y hy=>by rw[List.mem_singleton.1 hy];exact hk,h0,h1⟩
structure RI (ls:List aE) (aa:List Int) (ns0 ns:List ac):Prop where
 n:ns.length=ns0.length
 e:∀ i:Nat,i<ns0.length->uG (ns.getD i default) []=uG (ns0.getD i default) []
 t:∀ i:Nat,i<ns0.length->kW ls aa i (aQ (ns.getD i default))
theorem RI.ports {ls aa ns0 ns} (h:RI ls aa ns0 ns) {i:Nat} (hi:i<ns0.length):aA (ns.getD i default)=aA (ns0.getD i default):=by
 have:=congrArg aA (h.e i hi);exact this
theorem RI.host {ls aa ns0 ns} (h:RI ls aa ns0 ns) {i:Nat} (hi:i<ns0.length):lH (ns.getD i default)=lH (ns0.getD i default):=by
 have:=congrArg lH (h.e i hi);exact this
theorem RI.route {ls aa ns0 ns} (h:RI ls aa ns0 ns) {a:Int} {p:cO} {k way:Int} (a0:0<=a) (a1:a<ns0.length) (hp:p.2=32) (ha:p.1∈aa) (hk:lnk ls a k) (h0:1<=way) (h1:way<=3) :
  RI ls aa ns0 (pc ns a p k way):=by
 have hl:a.toNat<ns.length:=by have:=h.n;omega
 unfold pc
 refine⟨by rw[List.length_set];exact h.n,fun i hi=>?_,fun i hi=>?_⟩
 ·by_cases e:a.toNat=i
  ·subst e
   rw[iA hl];exact h.e _ hi
  ·rw[kJ e];exact h.e _ hi
 ·by_cases e:a.toNat=i
  ·subst e
   rw[iA hl]
   have:=Wa (h.t _ hi) (p:=p) (k:=k) (way:=way) hp ha (by rwa [show ((a.toNat:Nat):Int)=a by omega]) h0 h1
   exact this
  ·rw[kJ e];exact h.t _ hi
theorem RI.step {ls aa ns0 ns} (h:RI ls aa ns0 ns) {d:List Int} {to:Int} {p:cO} {plain:Bool} {k way a b:Int} (a0:0<=a) (a1:a<ns0.length) (hp:p.2=32) (ha:p.1∈aa) (hk:lnk ls a k) (h0:1<=way) (h1:way<=3) :
  RI ls aa ns0 (ou d to p plain k way ns a b):=by
 unfold ou
 split
 ·exact h
 ·split
  ·exact h
  ·exact h.route a0 a1 hp ha hk h0 h1
def fO(n:Nat)(ls:List aE):Prop:=∀ l∈ls,0<=l.1/\l.1<n/\0<=l.2.1/\l.2.1<n
theorem fO.at'{n:Nat}{ls:List aE}(hg:fO n ls){k:Nat}(hk:k<ls.length):(0<=lA (ls.getD k default)/\lA (ls.getD k default)<n)/\0<=lB (ls.getD k default)/\lB (ls.getD k default)<n:=by
 have hx:ls.getD k default∈ls:=by
  have:=bL (xs:=ls) (i:=(k:Nat)) (by omega) (by omega)
  simpa using this
 obtain⟨q1,q2,q3,q4⟩:=hg _ hx
 exact⟨⟨q1,q2⟩,q3,q4⟩
theorem IU{ls:List aE}{k:Nat}(hk:k<ls.length):lnk ls (lA (ls.getD k default)) k:=⟨by omega,by omega,.inl (by simp)⟩
theorem Os{ls:List aE}{k:Nat}(hk:k<ls.length):lnk ls (lB (ls.getD k default)) k:=⟨by omega,by omega,.inr (by simp)⟩
theorem RI.stepK {ls aa ns0 ns} (h:RI ls aa ns0 ns) (hg:fO ns0.length ls) {d:List Int} {to:Int} {p:cO} {plain:Bool} {way:Int} {k:Nat} (hk:k<ls.length) (hp:p.2=32) (ha:p.1∈aa) (h0:1<=way) (h1:way<=3) :
  RI ls aa ns0 (stepK ls d to p plain way ns k):=by
 have hh:=hg.at' hk
 unfold Go.RS.stepK
 exact (h.step hh.1.1 hh.1.2 hp ha (IU hk) h0 h1).step hh.2.1 hh.2.2 hp ha (Os hk) h0 h1
theorem RI.stepKs {ls aa ns0 ns} (h:RI ls aa ns0 ns) (hg:fO ns0.length ls) {d:List Int} {to:Int} {p:cO} {plain:Bool} {way:Int} (hp:p.2=32) (ha:p.1∈aa) (h0:1<=way) (h1:way<=3) {n:Nat} (hn:n<=ls.length) :
  RI ls aa ns0 ((List.range n).foldl (Go.RS.stepK ls d to p plain way) ns) :=
 vC _ _ h fun k hk b hb=>hb.stepK hg (by have:=List.mem_range.1 hk;omega) hp ha h0 h1
theorem RI.stepP {ls aa ns0 ns} (h:RI ls aa ns0 ns) (hg:fO ns0.length ls) {d:List Int} {to:Int} {plain:Bool} {way:Int} {q:mg} (ha:q.1∈aa) (h0:1<=way) (h1:way<=3) :
  RI ls aa ns0 (stepP ls d to plain way ns q) :=
 h.stepKs (p:=(q.1,32)) hg rfl ha h0 h1 (Nat.le_refl _)
def fZ(ns:List ac):List Int:=ns.flatMap fun x=>(aA x).map (·.1)
theorem II{ns:List ac}{i:Nat}(hi:i<ns.length){q:mg}(hq:q∈aA (ns.getD i default)):q.1∈fZ ns:=by
 have hx:ns.getD i default∈ns:=by
  have:=bL (xs:=ns) (i:=(i:Nat)) (by omega) (by omega)
  simpa using this
 exact List.mem_flatMap.2 ⟨_,hx,List.mem_map.2 ⟨q,hq,rfl⟩⟩
theorem RI.stepPs {ls ns0 ns} (h:RI ls (fZ ns0) ns0 ns) (hg:fO ns0.length ls) {d:List Int} {to:Int} {plain:Bool} {way:Int} (h0:1<=way) (h1:way<=3) {l:List mg} (hl:∀ q∈l,q.1∈fZ ns0) :
  RI ls (fZ ns0) ns0 (l.foldl (Go.RS.stepP ls d to plain way) ns) :=
 vC _ _ h fun q hq b hb=>hb.stepP hg (hl q hq) h0 h1
theorem Nd{c:aI}(h:bS c):bS (lv c).2/\1<=(lv c).1/\(lv c).1<=3:=by
 have k:=bZ h 3
 have k2:=bZ k.1 3
 have:=cW h (n:=3) (by omega)
 unfold lv
 split
 ·refine⟨k2.1,?_⟩
  dsimp only
  split <;> omega
 ·exact⟨k.1,by dsimp only;omega,by dsimp only;omega⟩
theorem RI.stepT {ls ns0} {s:List ac×aI} (h:RI ls (fZ ns0) ns0 s.1/\bS s.2) (hg:fO ns0.length ls) {plain:Bool} {to:Nat} (ht:to<ns0.length) :
  RI ls (fZ ns0) ns0 (stepT ls plain s to).1/\bS (stepT ls plain s to).2:=by
 have w:=Nd h.2
 unfold Go.RS.stepT
 refine⟨h.1.stepPs hg w.2.1 w.2.2 fun q hq=>?_,w.1⟩
 rw[h.1.ports ht] at hq
 exact II ht hq
theorem RI.stepTs {ls ns0} {s:List ac×aI} (h:RI ls (fZ ns0) ns0 s.1/\bS s.2) (hg:fO ns0.length ls) {plain:Bool} {n:Nat} (hn:n<=ns0.length) :
  RI ls (fZ ns0) ns0 ((List.range n).foldl (Go.RS.stepT ls plain) s).1/\bS ((List.range n).foldl (Go.RS.stepT ls plain) s).2 :=
 vC (fun s:List ac×aI=>RI ls (fZ ns0) ns0 s.1/\bS s.2) _ h fun k hk b hb=>RI.stepT hb hg (by have:=List.mem_range.1 hk;omega)
theorem RI.start{ls:List aE}{ns0:List ac}(h:∀ x∈ns0,aQ x=[]):RI ls (fZ ns0) ns0 ns0:=by
 refine⟨rfl,fun _ _=>rfl,fun i hi=>?_⟩
 have hx:ns0.getD i default∈ns0:=by
  have:=bL (xs:=ns0) (i:=(i:Nat)) (by omega) (by omega)
  simpa using this
 rw[h _ hx]
 exact⟨List.Pairwise.nil,fun r hr=>by cases hr⟩
end Go.RS

/- Netg: how drawn networks grow: what holds of their nodes and links. -/
namespace Go.RS
open Go.SX Go.Proofs
set_option maxRecDepth 100000
set_option linter.unusedVariables false
def m6(i:Int)(k:Nat)(l:aE):List mg:=(if lA l=i then [(dS k+1,(k:Int))] else [])++(if lB l=i then [(dS k+2,(k:Int))] else [])
def portsF(i:Int):Nat->List aE->List mg
 | _,[]=>[]
 | k,l::r=>m6 i k l++portsF i (k+1) r
theorem JZ(i:Int)(l:aE):∀(k:Nat)(ls:List aE),portsF i k (ls++[l])=portsF i k ls++m6 i (k+ls.length) l
 | k,[]=>by simp[portsF]
 | k,x::r=>by
  rw[List.cons_append,portsF,JZ i l (k+1) r,portsF,List.append_assoc,List.length_cons,show k+1+r.length=k+(r.length+1) by omega]
theorem aq6(i:Int)(k:Nat)(l:aE):(m6 i k l).length<=2:=by
 unfold m6
 split <;> split <;> simp
theorem yF(i:Int):∀(k:Nat)(ls:List aE),(portsF i k ls).length<=2*ls.length
 | k,[]=>by simp[portsF]
 | k,x::r=>by
  have:=yF i (k+1) r
  have:=aq6 i k x
  rw[portsF,List.length_append,List.length_cons];omega
theorem PA{i:Int}:∀{k:Nat}{ls:List aE},(∀ x∈ls,lA x≠i/\lB x≠i)->portsF i k ls=[]
 | k,[],_=>rfl
 | k,x::r,h=>by
  have hx:=h x List.mem_cons_self
  rw[portsF,PA fun y hy=>h y (List.mem_cons_of_mem _ hy),m6,if_neg hx.1,if_neg hx.2];rfl
theorem xy{i:Int}{q:mg}:∀{k:Nat}{ls:List aE},q∈portsF i k ls↔∃ j,j<ls.length/\((lA (ls.getD j default)=i/\q=(dS (k+j:Nat)+1,((k+j:Nat):Int)))∨(lB (ls.getD j default)=i/\q=(dS (k+j:Nat)+2,((k+j:Nat):Int))))
 | k,[]=>by simp[portsF]
 | k,x::r=>by
  rw[portsF,List.mem_append,xy (k:=k+1) (ls:=r)]
  constructor
  ·rintro (h|⟨j,hj,h⟩)
   ·refine⟨0,by simp,?_⟩
    unfold m6 at h
    rcases List.mem_append.1 h with h|h
    ·split at h
     ·rename_i e
      exact .inl ⟨e,by simpa using h⟩
     ·cases h
    ·split at h
     ·rename_i e
      exact .inr ⟨e,by simpa using h⟩
     ·cases h
   ·refine⟨j+1,by rw[List.length_cons];omega,?_⟩
    rw[List.getD_cons_succ,show k+(j+1)=k+1+j by omega];exact h
  ·rintro⟨j,hj,h⟩
   cases j with
   | zero =>
    refine .inl ?_
    rw[List.getD_cons_zero] at h
    unfold m6
    rcases h with⟨e,h⟩|⟨e,h⟩
    ·rw[if_pos e];exact List.mem_append.2 (.inl (by simpa using h))
    ·rw[if_pos e];exact List.mem_append.2 (.inr (by simpa using h))
   | succ j =>
    refine .inr ⟨j,by rw[List.length_cons] at hj;omega,?_⟩
    rw[List.getD_cons_succ,show k+(j+1)=k+1+j by omega] at h;exact h
theorem IQ{α:Type} [Inhabited α] {l m:List α} {i:Nat} (h:i<l.length):(l++m).getD i default=l.getD i default:=by
 rw[List.getD_eq_getElem?_getD,List.getElem?_append_left h,List.getD_eq_getElem?_getD]
theorem IE{α:Type} [Inhabited α] {l:List α} {x:α}:(l++[x]).getD l.length default=x:=by
 rw[List.getD_eq_getElem?_getD];simp
theorem Aq{ns:List ac}{x:Int}{p:mg}(x0:0<=x){i:Nat}(hi:i<ns.length) :
  (ij ns x p).getD i default=((ns.getD i default).1++(if x=i then [p] else []),(ns.getD i default).2):=by
 unfold ij
 by_cases e:x=i
 ·have:x.toNat=i:=by omega
  rw[this,iA hi,if_pos e]
 ·have:x.toNat≠i:=by omega
  rw[kJ this,if_neg e,List.append_nil]
theorem Ek(ns:List ac)(x:Int)(p:mg):(ij ns x p).length=ns.length:=by unfold ij;exact List.length_set
structure GI (s:aO) (nn nl:Nat):Prop where
 n:s.1.1.length=nn
 l:s.1.2.1.length=nl
 h:s.1.2.2=[]
 c:bS s.2
 g:∀ x∈s.1.2.1,(0<=lA x/\lA x<nn)/\(0<=lB x/\lB x<nn)/\lA x≠lB x/\(1<=kO x/\kO x<=20)/\gV x=0/\md x=0/\0<=rW x/\rW x<=255
 p:∀ i:Nat,i<nn->aA (s.1.1.getD i default)=portsF i 0 s.1.2.1
 d:∀ i:Nat,i<nn→∃ host f sd,(s.1.1.getD i default).2=(o9 i host f sd).2/\(f=64∨f=255∨f=128)/\0<=sd/\sd<=255
theorem GI.node{s:aO}{nn nl:Nat}(h:GI s nn nl)(host:Bool):GI (iz s host) (nn+1) nl:=by
 have k3:=cW h.c (n:=3) (by omega)
 have c3:=(bZ h.c 3).1
 have k4:=cW c3 (n:=256) (by omega)
 have c4:=(bZ c3 256).1
 refine⟨by simp only[iz,List.length_append,List.length_cons,List.length_nil,h.n],h.l,h.h,c4,fun x hx=>?_,fun i hi=>?_,fun i hi=>?_⟩
 ·have:=h.g x hx
  omega
 ·by_cases e:i<nn
  ·rw[show (iz s host).1.1.getD i default=s.1.1.getD i default from IQ (by rw[h.n];exact e)]
   exact h.p i e
  ·have e:i=s.1.1.length:=by rw[h.n];omega
   subst e
   rw[show (iz s host).1.1.getD s.1.1.length default=o9 s.1.1.length host _ _ from IE]
   refine (PA fun x hx=>?_).symm
   have:=h.g x hx
   have:=h.n
   omega
 ·by_cases e:i<nn
  ·rw[show (iz s host).1.1.getD i default=s.1.1.getD i default from IQ (by rw[h.n];exact e)]
   exact h.d i e
  ·have e:i=s.1.1.length:=by rw[h.n];omega
   subst e
   rw[show (iz s host).1.1.getD s.1.1.length default=o9 s.1.1.length host _ _ from IE]
   refine⟨host,_,_,rfl,?_,k4.1,by omega⟩
   rcases (show (aj s.2 3).1=0∨(aj s.2 3).1=1∨(aj s.2 3).1=2 by omega) with e|e|e <;> rw[e] <;> simp
theorem GI.link{s:aO}{nn nl:Nat}(h:GI s nn nl){a b:Int}(a0:0<=a)(a1:a<nn)(b0:0<=b)(b1:b<nn)(ne:a≠b):GI (gm s a b) nn (nl+1):=by
 have k3:=cW h.c (n:=20) (by omega)
 have c3:=(bZ h.c 20).1
 have k4:=cW c3 (n:=256) (by omega)
 have c4:=(bZ c3 256).1
 refine⟨by simp only[gm,Ek,h.n],by simp only[gm,List.length_append,List.length_cons,List.length_nil,h.l],h.h,c4,fun x hx=>?_,fun i hi=>?_,fun i hi=>?_⟩
 ·rcases List.mem_append.1 hx with hx|hx
  ·exact h.g x hx
  ·rw[List.mem_singleton.1 hx]
   refine⟨⟨a0,a1⟩,⟨b0,b1⟩,ne,?_,rfl,rfl,k4.1,?_⟩
   ·show 1<=1+(aj s.2 20).1/\1+(aj s.2 20).1<=20
    omega
   ·show (aj (aj s.2 20).2 256).1<=255
    omega
 ·have hp:=h.p i hi
  unfold gm
  dsimp only
  rw[Aq b0 (by rw[Ek,h.n];exact hi),Aq a0 (by rw[h.n];exact hi),JZ,← hp,Nat.zero_add]
  simp only[aA,m6,lA,lB,List.append_assoc]
  rfl
 ·unfold gm
  dsimp only
  rw[Aq b0 (by rw[Ek,h.n];exact hi),Aq a0 (by rw[h.n];exact hi)]
  exact h.d i hi
theorem GI.codes{s:aO}{nn nl:Nat}(h:GI s nn nl){c:aI}(hc:bS c):GI (s.1,c) nn nl:=⟨h.n,h.l,h.h,hc,h.g,h.p,h.d⟩
theorem GI.start{c:aI}(hc:bS c):GI (([],[],[]),c) 0 0 :=
 ⟨rfl,rfl,rfl,hc,fun x hx=>(by cases hx),fun i hi=>(by omega),fun i hi=>(by omega)⟩
theorem GI.routes{s:aO}{nn nl:Nat}(h:GI s nn nl):∀ x∈s.1.1,aQ x=[]:=fun x hx=>by
 obtain⟨i,hi,e⟩:=List.mem_iff_getElem.1 hx
 obtain⟨host,f,sd,hd,-⟩:=h.d i (by rw[← h.n];exact hi)
 have:s.1.1.getD i default=x:=by rw[List.getD_eq_getElem?_getD,List.getElem?_eq_getElem hi,e];rfl
 rw[this] at hd
 show x.2.2.2.2.1=[]
 rw[hd];rfl
theorem GI.plen{s:aO}{nn nl:Nat}(h:GI s nn nl):∀ x∈s.1.1,x.1.length<=2*nl:=fun x hx=>by
 obtain⟨i,hi,e⟩:=List.mem_iff_getElem.1 hx
 have hp:=h.p i (by rw[← h.n];exact hi)
 have:s.1.1.getD i default=x:=by rw[List.getD_eq_getElem?_getD,List.getElem?_eq_getElem hi,e];rfl
 rw[this] at hp
 have:=yF i 0 s.1.2.1
 rw[← hp,h.l] at this;exact this
theorem BN:∀{ns:List ac}{m:Nat},(∀ x∈ns,x.1.length<=m)->(fZ ns).length<=ns.length*m
 | [],m,_=>by simp[fZ]
 | x::r,m,h=>by
  have k:=BN (ns:=r) (m:=m) fun y hy=>h y (List.mem_cons_of_mem _ hy)
  have hx:=h x List.mem_cons_self
  unfold fZ at k ⊢
  rw[List.flatMap_cons,List.length_append,List.length_map,List.length_cons,Nat.succ_mul]
  show (aA x).length+_<=_
  have:(aA x).length<=m:=hx
  omega
theorem GI.ends{s:aO}{nn nl:Nat}(h:GI s nn nl):fO s.1.1.length s.1.2.1:=fun x hx=>by
 have:=h.g x hx
 rw[h.n]
 exact⟨this.1.1,this.1.2,this.2.1.1,this.2.1.2⟩
theorem GI.chain{s:aO}(h:GI s 1 0):∀ k:Nat,GI ((List.range k).foldl oq s) (k+1) k
 | 0=>h
 | k+1=>by
  rw[List.range_succ,List.foldl_append]
  exact ((GI.chain h k).node false).link (by omega) (by omega) (by omega) (by omega) (by omega)
def bg(c:aI):Int:=1+(aj (iz (([],[],[]),c) true).2 5).1
def rR(c:aI):aO:=((iz (([],[],[]),c) true).1,(aj (iz (([],[],[]),c) true).2 5).2)
theorem HS{c:aI}(h:bS c):GI (rR c) 1 0:=((GI.start h).node true).codes (bZ ((GI.start h).node true).c 5).1
theorem rD{c:aI}(h:bS c):1<=bg c/\bg c<=5:=by
 have:=cW ((GI.start h).node true).c (n:=5) (by omega)
 unfold bg;omega
theorem FB(c:aI):kT c=(bg c,gm (iz ((List.range (bg c).toNat).foldl oq (rR c)) true) (bg c) (bg c+1)):=rfl
theorem A0{c:aI}(h:bS c):GI (kT c).2 ((bg c).toNat+2) ((bg c).toNat+1):=by
 have:=rD h
 rw[FB]
 exact (((HS h).chain _).node true).link (by omega) (by omega) (by omega) (by omega) (by omega)
theorem GI.short{s:aO}{nn nl:Nat}(h:GI s nn nl){n:Int}(n1:1<=n)(hn:n+2<=nn):∃ m,nl<=m/\m<=nl+1/\GI (pI n s) nn m:=by
 have ka:=cW h.c (n:=n) (by omega)
 have ca:=(bZ h.c n).1
 have kb:=cW ca (n:=n) (by omega)
 have cb:=(bZ ca n).1
 unfold pI
 dsimp only
 split
 ·exact⟨nl,by omega,by omega,h.codes cb⟩
 ·rename_i e
  exact⟨nl+1,by omega,by omega,(h.codes cb).link (by omega) (by omega) (by omega) (by omega) (by omega)⟩
theorem GI.shorts{s:aO}{nn nl:Nat}(h:GI s nn nl){n:Int}(n1:1<=n)(hn:n+2<=nn):∀ k:Nat,∃ m,nl<=m/\m<=nl+k/\GI ((List.range k).foldl (fun s _=>pI n s) s) nn m
 | 0=>⟨nl,by omega,by omega,h⟩
 | k+1=>by
  obtain⟨m,m0,m1,hm⟩:=GI.shorts h n1 hn k
  obtain⟨m',q0,q1,hq⟩:=hm.short n1 hn
  refine⟨m',by omega,by omega,?_⟩
  rw[List.range_succ,List.foldl_append];exact hq
def nU(plain:Bool)(n:Int)(s:aO)(k:Nat):aO:=if 1<n/\plain=false then (List.range k).foldl (fun s _=>pI n s) (s.1,(aj s.2 4).2) else (s.1,(aj s.2 4).2)
theorem OC{s:aO}{nn nl:Nat}(h:GI s nn nl){plain:Bool}{n:Int}(n1:1<=n)(hn:n+2<=nn)(k:Nat):∃ m,nl<=m/\m<=nl+k/\GI (nU plain n s k) nn m:=by
 have hc:=h.codes (bZ h.c 4).1
 unfold nU
 split
 ·exact hc.shorts n1 hn k
 ·exact⟨nl,by omega,by omega,hc⟩
theorem EA(plain:Bool)(n:Int)(s:aO):ux plain n s=(let s1:=nU plain n s (aj s.2 4).1.toNat
  if plain=true/\2<n then
   if (aj s1.2 2).1=1 then gm (s1.1,(aj (aj s1.2 2).2 (n-1)).2) (1+(aj (aj s1.2 2).2 (n-1)).1) n else (s1.1,(aj s1.2 2).2)
  else s1):=rfl
theorem af0{s:aO}{nn nl:Nat}(h:GI s nn nl){plain:Bool}{n:Int}(n1:1<=n)(hn:n+2<=nn):∃ m,nl<=m/\m<=nl+4/\GI (ux plain n s) nn m:=by
 have k4:=cW h.c (n:=4) (by omega)
 obtain⟨m,m0,m1,hm⟩:=OC h (plain:=plain) n1 hn (aj s.2 4).1.toNat
 rw[EA]
 dsimp only
 generalize nU plain n s (aj s.2 4).1.toNat=t at hm ⊢
 have c2:=(bZ hm.c 2).1
 have c3:=(bZ c2 (n-1)).1
 split
 ·rename_i e
  split
  ·have k5:=cW c2 (n:=n-1) (by omega)
   exact⟨m+1,by omega,by omega,(hm.codes c3).link (by omega) (by omega) (by omega) (by omega) (by omega)⟩
  ·exact⟨m,by omega,by omega,hm.codes c2⟩
 ·exact⟨m,by omega,by omega,hm⟩
theorem AS{c:aI}(h:bS c)(plain:Bool):∃ m,2<=m/\m<=10/\GI (ux plain (kT c).1 (kT c).2) ((bg c).toNat+2) m:=by
 have hn:=rD h
 obtain⟨m,m0,m1,hm⟩:=af0 (A0 h) (plain:=plain) (n:=bg c) hn.1 (by omega)
 exact⟨m,by omega,by omega,hm⟩
end Go.RS

/- Netdraw: the program text that draws networks does what Netd says. -/
namespace Go.RS
open Go.SX Go.Proofs
set_option maxRecDepth 100000
set_option linter.unusedVariables false
abbrev vv:OT := .pair (.pair (.row 107 bH) (.pair (.row 99 fB) (.row 129 d8))) (.ref 109 f8)
def sL(s:aO):List aE:=s.1.2.1
def nN(s:aO):Prop:=ay s.2/\(s.1.1.length:Int)<=1000/\(s.1.2.1.length:Int)<=1000/\(s.1.2.2.length:Int)<=1000∧∀ x∈s.1.1,(x.1.length:Int)<=1000
def inN(ns:List ac)(a:Int):Prop:=0<=a/\a<ns.length
def Nl:Ct:=⟨[.box 109 f8,.val cI],[.val cI],fun d=>[ay d.1,d.2.1<=256],fun d=>(((kF d.1 d.2.1).1,()),((kF d.1 d.2.1).2,()))⟩
def TU:ar Nl.ps->az:=(fun _=>{})
theorem WO :
 ∀(a:List Int)(b c:Int),((a.length<=maxLen/\ ∀(d:Int),d∈a->0<=d/\d<=255)/\ab b)/\ab c/\True->ay (a,b)/\c<=256-> ∀(d:Bool),d=decide ((a.length:Int)<=b)->((! d)->((! d)->(! d))/\True)/\(d=false->(! d))/\ad (bif d then true else decide (c<1)) ((0:Int)=(kF (a,b) c).1/\(a,b)=(kF (a,b) c).2) (0<=b/\b<(a.length:Int)/\ad (decide (256<c)) False (c≠(0:Int)/\Int.tmod (IntKind.wrap .i64 (a.getD b.toNat default)) c=(kF (a,b) c).1/\(a,IntKind.wrap .i64 (b+(1:Int)))=(kF (a,b) c).2)):=by
  rintro l p n ⟨⟨⟨hl,hw⟩,h0,h1⟩,⟨h2,h3⟩,-⟩⟨⟨hc1,hc2⟩,hn⟩
  simp only[maxLen] at hl hc1 hc2
  (repeat (intro (b_:Bool) (hb_:b_=_);(repeat refine⟨(by first|(simp;done)|(rw[hb_];simp;done)|(rw[hb_];simp;omega)|(rw[hb_];simp;intros;omega)|(rw[hb_];simp +contextual;done)),?_⟩);subst hb_))
  refine qp (fun hb=>?_) (fun hb1 hb2=>?_)
  ·have hb:(l.length:Int)<=p∨n<1:=by simpa using hb
   rw[kF,if_pos hb];exact⟨rfl,rfl⟩
  ·have hb1:=of_decide_eq_false hb1
   have hb2:=of_decide_eq_false hb2
   have hb:¬ ((l.length:Int)<=p∨n<1):=by omega
   obtain⟨hm0,hm1⟩:=hw _ (bL hc1 (show p<l.length by omega))
   refine⟨hc1,by omega,ae (fun k=>?_) (fun _=>⟨by omega,?_⟩)⟩
   ·have:=of_decide_eq_true k;omega
   ·rw[kF,if_neg hb,ai (by omega) (by omega),ai (by omega) (by omega)];exact⟨rfl,rfl⟩
theorem ZI:ax Tryz.prog GL 11 Nl.spec:=Ct.okH _ Tryz.func11 (by kernel_rfl) aD av TU (aC (by kernel_rfl) WO)
def PC:Ct:=⟨[.box 109 f8,.val cI],[.val cI],fun d=>[ay d.1],fun d=>(((aj d.1 d.2.1).1,()),((aj d.1 d.2.1).2,()))⟩
def Yv:ar PC.ps->az:=(fun _=>{})
theorem aa2 :
 ∀(a:List Int)(b c:Int),((a.length<=maxLen/\ ∀(d:Int),d∈a->0<=d/\d<=255)/\ab b)/\ab c/\True->0<=b/\b<=(a.length:Int)-> ∀(d:Bool),d=decide ((a.length:Int)<=b)->((! d)->((! d)->(! d))/\True)/\(d=false->(! d))/\ad (bif d then true else decide (c<1)) ((0:Int)=(aj (a,b) c).1/\(a,b)=(aj (a,b) c).2) (0<=b/\b<(a.length:Int)/\ad (decide (256<c)) (ay (a,IntKind.wrap .i64 (b+(1:Int)))/\(256:Int)<=256/\c≠(0:Int)/\Int.tmod (IntKind.wrap .i64 (IntKind.wrap .i64 ((256:Int)*IntKind.wrap .i64 (a.getD b.toNat default))+(kF (a,IntKind.wrap .i64 (b+(1:Int))) (256:Int)).1)) c=(aj (a,b) c).1/\(kF (a,IntKind.wrap .i64 (b+(1:Int))) (256:Int)).2=(aj (a,b) c).2) (c≠(0:Int)/\Int.tmod (IntKind.wrap .i64 (a.getD b.toNat default)) c=(aj (a,b) c).1/\(a,IntKind.wrap .i64 (b+(1:Int)))=(aj (a,b) c).2)):=by
  rintro l p n ⟨⟨⟨hl,hw⟩,h0,h1⟩,⟨h2,h3⟩,-⟩⟨hc1,hc2⟩
  simp only[maxLen] at hl hc1 hc2
  (repeat (intro (b_:Bool) (hb_:b_=_);(repeat refine⟨(by first|(simp;done)|(rw[hb_];simp;done)|(rw[hb_];simp;omega)|(rw[hb_];simp;intros;omega)|(rw[hb_];simp +contextual;done)),?_⟩);subst hb_))
  refine qp (fun hb=>?_) (fun hb1 hb2=>?_)
  ·have hb:(l.length:Int)<=p∨n<1:=by simpa using hb
   rw[aj,if_pos hb];exact⟨rfl,rfl⟩
  ·have hb1:=of_decide_eq_false hb1
   have hb2:=of_decide_eq_false hb2
   have hb:¬ ((l.length:Int)<=p∨n<1):=by omega
   obtain⟨hm0,hm1⟩:=hw _ (bL hc1 (show p<l.length by omega))
   rw[ai (n:=p+1) (by omega) (by omega),ai (n:=l.getD p.toNat default) (by omega) (by omega)]
   refine⟨hc1,by omega,ae (fun k=>?_) (fun k=>⟨by omega,?_⟩)⟩
   ·have k:=of_decide_eq_true k
    have hok:bS (l,p+1):=⟨⟨by show 0<=p+1;omega,by show p+1<=l.length;omega⟩,hw⟩
    have hr:=K0 hok 256
    refine⟨hok.at',by omega,by omega,?_⟩
    rw[aj,if_neg hb,if_pos k,ai (n:=256*_) (by omega) (by omega),ai (by omega) (by omega)]
    exact⟨rfl,rfl⟩
   ·rw[aj,if_neg hb,if_neg (of_decide_eq_false k)];exact⟨rfl,rfl⟩
theorem vO:ax Tryz.prog GL 11 PC.spec:=Ct.okH _ Tryz.func11 (by kernel_rfl) (ah aD ZI) av Yv (aC (by kernel_rfl) aa2)
def NX:Ct:=⟨[.box 119 vv,.val .bool],[.val cI],fun d=>[nN d.1],fun d=>(((d.1.1.1.length:Int),()),(iz d.1 d.2.1,()))⟩
def Qg:ar NX.ps->az:=(fun _=>{})
def dA(b:List aE) :=
 (b.length:Int)
def wc(a:List ac)(b:List aE)(c:List aM)(d:List Int)(e:Int) :=
 ((a.length<=maxLen/\ ∀(g:ac),g∈a->CT.wf bH g)/\(b.length<=maxLen/\ ∀(g:aE),g∈b->CT.wf fB g)/\c.length<=maxLen/\ ∀(g:aM),g∈c->CT.wf d8 g)/\(d.length<=maxLen/\ ∀(g:Int),g∈d->0<=g/\g<=255)/\ab e
def dL(a:List ac) :=
 (a.length:Int)
def FA(a:List ac)(d:List Int)(e:Int)(f:Bool) :=
 (([]:List (Int×Int)),(0:Int),IntKind.wrap .i64 ((1:Int)+IntKind.wrap .i64 (Int.tdiv (dL a) (3:Int))),f,([]:List aF),(1:Int),(0:Int),(0:Int),(0:Int),(0:Int),((0:Int),(0:Int)),false,false,List.getD [(64:Int),(255:Int),(128:Int)] (Int.toNat (aj (d,e) (3:Int)).1) default,(aj (aj (d,e) (3:Int)).2 (256:Int)).1)
def mh :=
 (140737488355328:Nat)
theorem YO :
 ∀(a:List ac)(b:List aE)(c:List aM)(d:List Int)(e:Int)(f:Bool),(wc a b c d e)/\True/\True->(ay (d,e)/\(dL a)<=1000/\(dA b)<=1000/\(c.length:Int)<=1000/\ ∀(g:ac),g∈a->(g.1.length:Int)<=1000)->ay (d,e)/\0<=(aj (d,e) (3:Int)).1/\(aj (d,e) (3:Int)).1<((List.length [(64:Int),(255:Int),(128:Int)]):Int)/\ay (aj (d,e) (3:Int)).2/\(3:Int)≠(0:Int)/\(a.length+List.length [(FA a d e f)])*(152:Nat)<=(mh)/\(dL a)=(dL a)/\((a++[(FA a d e f)],b,c),(aj (aj (d,e) (3:Int)).2 (256:Int)).2)=iz ((a,b,c),d,e) f:=by
  delta wc FA dA mh dL
  rintro ns ls hs l p b ⟨⟨-,⟨hl,hw⟩,-⟩,-,-⟩⟨hc,h1,h2,h3,h4⟩
  have hok:bS (l,p):=⟨hc,hw⟩
  have r1:=bZ hok 3
  have r2:=cW hok (n:=3) (by omega)
  have e:Int.tdiv (ns.length:Int) 3=(ns.length:Int)/3:=Int.tdiv_eq_ediv_of_nonneg (by omega)
  refine⟨hc,r2.1,by simpa using r2.2,r1.1.at',by omega,by simp only[List.length_singleton];omega,rfl,?_⟩
  rw[e,ai (n:=(ns.length:Int)/3) (by omega) (by omega),ai (by omega) (by omega)]
  rfl
theorem YE:ax Tryz.prog GL 48 NX.spec:=Ct.okH _ Tryz.func48 (by kernel_rfl) (ah aD vO) av Qg (aC (by kernel_rfl) YO)
def lR(ns:List ac)(a b l k:Int):List ac:=if k=0 then ns else if k=1 then ij ns a (dS l+1,l) else ij (ij ns a (dS l+1,l)) b (dS l+2,l)
def GU:Ct:=⟨[.box 119 vv,.val cI,.val cI],[.val cI],fun d=>[nN d.1,inN d.1.1.1 d.2.1,inN d.1.1.1 d.2.2.1],fun d=>(((d.1.1.2.1.length:Int),()),(gm d.1 d.2.1 d.2.2.1,()))⟩
def Ym:ar GU.ps->az:=(fun d=>{loops:=(fun n=>match n with|5=>some (fun S=>{ι:=Int×(List ac),qn:=⟨fun k_=>∀(k:Int)(ns:(List ac)),k_ (k,ns),fun k_ h_ i=>h_ i.1 i.2,fun k_=>∃ (k:Int) (ns:(List ac)),k_ (k,ns),fun k_ ⟨k,ns,h_⟩=>⟨_,h_⟩⟩,μ:=fun i=>(2-i.1).toNat,inv:=fun i=>0<=i.1/\i.1<=2/\i.2=lR d.1.1.1 d.2.1 d.2.2.1 d.1.1.2.1.length i.1,keep:=[0,1,2,6,7,8],slots:=fun i=>[(9,.int .i64 i.1)],keepN:=[1048577,2097154],names:=fun i=>[(1048576,.live (.cells 119 [.own 524288 16,.own 524289 6,.own 2097154 7,.ptr 1048577 0])),(524288,.live (.row 107 bH i.2)),(524289,.live (.row 99 fB (sL (gm d.1 d.2.1 d.2.2.1))))]})|_=>none)})
def uQ(b:List aE) :=
 IntKind.wrap .i64 ((167837696:Int)+IntKind.wrap .i64 ((4:Int)*(dA b)))
def nW(d:List Int)(e:Int) :=
 aj (aj (d,e) (20:Int)).2 (256:Int)
def ve(f g h:Int) :=
 Int.toNat (List.getD [f,g] h.toNat default)
def DB(b:List aE)(h:Int) :=
 (IntKind.wrap .u32 (IntKind.wrap .u32 (IntKind.wrap .u32 (uQ b)+(1:Int))+IntKind.wrap .u32 h),(dA b))
theorem P9 :
 ∀(a:List ac)(b:List aE)(c:List aM)(d:List Int)(e f g:Int),(((a.length<=maxLen/\ ∀(h:ac),h∈a->CT.wf bH h)/\(b.length<=maxLen/\ ∀(h:aE),h∈b->CT.wf fB h)/\c.length<=maxLen/\ ∀(h:aM),h∈c->CT.wf d8 h)/\(d.length<=maxLen/\ ∀(h:Int),h∈d->0<=h/\h<=255)/\ab e)/\ab f/\ab g/\True->nN ((a,b,c),d,e)/\inN a f/\0<=g/\g<(dL a)->ay (d,e)/\ay (aj (d,e) (20:Int)).2/\(b.length+List.length [(f,g,IntKind.wrap .i64 ((1:Int)+(aj (d,e) (20:Int)).1),(0:Int),(0:Int),(nW d e).1)])*(48:Nat)<=(mh)/\(∃(h:Int) (i:List ac),(0<=h/\h<=2/\i=lR a f g (dA b) h)/\f=f/\g=g/\(0:Int)=0/\(dA b)=(dA b)/\IntKind.wrap .u32 (uQ b)=IntKind.wrap .u32 (uQ b)/\(0:Int)=h/\(nW d e).2.1=(nW d e).2.1/\(nW d e).2.2=(nW d e).2.2/\c=c/\a=i/\b++[(f,g,IntKind.wrap .i64 ((1:Int)+(aj (d,e) (20:Int)).1),(0:Int),(0:Int),(nW d e).1)]=sL (gm ((a,b,c),d,e) f
 g)/\True)/\ ∀(h:Int)(i:List ac),0<=h/\h<=2/\i=lR a f g (dA b) h->ad (decide (h<2)) (0<=h/\h<((List.length [f,g]):Int)/\0<=List.getD [f,g] h.toNat default/\List.getD [f,g] h.toNat default<(i.length:Int)/\List.length (i.getD (ve f g h) default).1*(16:Nat)<=(mh)/\(List.length (i.getD (ve f g h) default).1+List.length [(DB b h)])*(16:Nat)<=(mh)/\0<=List.getD [f,g] h.toNat default/\List.getD [f,g] h.toNat default<(i.length:Int)/\ ∃(j:Int) (k:List ac),(0<=j/\j<=2/\k=lR a f g (dA b) j)/\Int.toNat ((2:Int) -j)<Int.toNat ((2:Int) -h)/\f=f/\g=g/\(0:Int)=0/\(dA b)=(dA b)/\IntKind.wrap .u32 (uQ b)=IntKind.wrap .u32 (uQ b)/\IntKind.wrap .i64 (h+(1:Int))=j/\(nW d e).2.1=(nW d e).2.1/\(nW d e).2.2=(nW d e).2.2/\c=c/\List.set i (ve f g h) ((i.getD (ve f g h) default).1++[(DB b h)],(i.getD (ve f g h) default).2)=k/\sL (gm
 ((a,b,c),d,e) f g)=sL (gm ((a,b,c),d,e) f g)/\True) ((dA b)=(dA b)/\((i,sL (gm ((a,b,c),d,e) f g),c),(nW d e).2)=gm ((a,b,c),d,e) f g):=by
  delta uQ nW dA ve mh dL DB
  rintro ns ls hs l p a b ⟨⟨-,⟨hl,hw⟩,-⟩,⟨ha1,ha2⟩,⟨hb1,hb2⟩,-⟩⟨⟨hc,h1,h2,h3,h4⟩,⟨a0,a1⟩,b0,b1⟩
  simp only at h1 h2 h3 h4 a1
  have hok:bS (l,p):=⟨hc,hw⟩
  have r1:=bZ hok 20
  have r2:=cW hok (n:=20) (by omega)
  have e1:IntKind.i64.wrap (1+(aj (l,p) 20).1)=1+(aj (l,p) 20).1:=ai (by omega) (by omega)
  rw[e1,ai (n:=4*(ls.length:Int)) (by omega) (by omega),ai (n:=167837696+4*(ls.length:Int)) (by omega) (by omega),pV (n:=167837696+4*(ls.length:Int)) (by omega) (by omega),pV (n:=167837696+4*(ls.length:Int)+1) (by omega) (by omega)]
  refine⟨hc,r1.1.at',by simp only[List.length_singleton];omega,⟨0,ns,⟨by omega,by omega,by rw[lR,if_pos rfl]⟩,?_⟩,?_⟩
  ·(repeat refine⟨(by with_reducible rfl),?_⟩)
   exact⟨rfl,trivial⟩
  rintro k ms ⟨k0,k2,rfl⟩
  have hlen:∀ m:Int,(lR ns a b ls.length m).length=ns.length:=fun m=>by
   unfold lR ij;split
   ·rfl
   ·split <;> simp
  refine ae (fun hk=>?_) (fun hk=>?_)
  ·have hk:=of_decide_eq_true hk
   rw[hlen]
   have hk':k=0∨k=1:=by omega
   have hports:∀ x:Int,0<=x->x<ns.length->((ns.getD x.toNat default).1.length:Int)<=1000:=fun x x0 x1=>h4 _ (bL x0 x1)
   rcases hk' with rfl|rfl
   ·have e0:lR ns a b ls.length 0=ns:=by rw[lR,if_pos rfl]
    rw[e0]
    have:=hports a a0 a1
    have e3:([a,b]:List Int).getD (Int.toNat 0) default=a:=rfl
    rw[e3]
    refine⟨by omega,by simp,a0,a1,by omega,by simp only[List.length_singleton];omega,a0,a1,1,_,⟨by omega,by omega,rfl⟩,by omega,?_⟩
    (repeat refine⟨(by with_reducible rfl),?_⟩)
    refine⟨ai (by omega) (by omega),?_⟩
    (repeat refine⟨(by with_reducible rfl),?_⟩)
    refine⟨?_,?_⟩
    ·rw[lR,if_neg (by omega),if_pos rfl]
     have:IntKind.u32.wrap (167837696+4*(ls.length:Int)+1+IntKind.u32.wrap 0)=dS ls.length+1:=by
      rw[pV (n:=0) (by omega) (by omega),pV (by omega) (by omega)];unfold dS;omega
     rw[this];rfl
    ·exact⟨rfl,trivial⟩
   ·have e0:lR ns a b ls.length 1=ij ns a (dS ls.length+1,ls.length):=by rw[lR,if_neg (by omega),if_pos rfl]
    rw[e0]
    have e3:([a,b]:List Int).getD (Int.toNat 1) default=b:=rfl
    rw[e3]
    have hpb:(((ij ns a (dS ls.length+1,ls.length)).getD b.toNat default).1.length:Int)<=1001:=by
     unfold ij
     by_cases hab:a.toNat=b.toNat
     ·rw[hab,iA (by omega)]
      have:=hports b b0 b1
      simp only[List.length_append,List.length_singleton];omega
     ·rw[kJ hab]
      have:=hports b b0 b1;omega
    refine⟨by omega,by simp,b0,b1,by omega,by simp only[List.length_singleton];omega,b0,b1,2,_,⟨by omega,by omega,rfl⟩,by omega,?_⟩
    (repeat refine⟨(by with_reducible rfl),?_⟩)
    refine⟨ai (by omega) (by omega),?_⟩
    (repeat refine⟨(by with_reducible rfl),?_⟩)
    refine⟨?_,?_⟩
    ·rw[lR,if_neg (by omega),if_neg (by omega)]
     have:IntKind.u32.wrap (167837696+4*(ls.length:Int)+1+IntKind.u32.wrap 1)=dS ls.length+2:=by
      rw[pV (n:=1) (by omega) (by omega),pV (by omega) (by omega)];unfold dS;omega
     rw[this];rfl
    ·exact⟨rfl,trivial⟩
  ·have hk:=of_decide_eq_false hk
   have:k=2:=by omega
   subst this
   refine⟨rfl,?_⟩
   rw[lR,if_neg (by omega),if_neg (by omega)]
   rfl
theorem Wx:ax Tryz.prog GL 49 GU.spec:=Ct.okH _ Tryz.func49 (by kernel_rfl) (ah aD vO) av Ym (aC (by kernel_rfl) P9)
def xE(k:Int)(done:List Int)(f:Bool)(l:List Int):Prop:=(f=false/\l=done∧∀ x∈done,¬ k<x)∨(f=true/\l=iR k done∧∃ x∈done,k<x)
def NA:Ct:=⟨[.box 119 vv,.val cI,.agg kr,.val cI,.val cI],[],fun d=>[inN d.1.1.1 d.2.1,bM (aQ (d.1.1.1.getD d.2.1.toNat default)),okL (aQ (d.1.1.1.getD d.2.1.toNat default)),∀ r∈aQ (d.1.1.1.getD d.2.1.toNat default),(r.2.1.length:Int)<=1000],fun d=>((),(((pc d.1.1.1 d.2.1 d.2.2.1 d.2.2.2.1 d.2.2.2.2.1,d.1.1.2),d.1.2),()))⟩
def PV:ar NA.ps->az:=(fun d=>{loops:=(fun n=>match n with|3=>some (fun S=>{ι:=Int,μ:=fun i=>((aQ (d.1.1.1.getD d.2.1.toNat default)).length-i).toNat,inv:=fun i=>0<=i/\i<=(aQ (d.1.1.1.getD d.2.1.toNat default)).length∧∀ r∈(aQ (d.1.1.1.getD d.2.1.toNat default)).take i.toNat,decide (r.1=d.2.2.1)=false,keep:=[0,1,3,4,7,8,9,10],slots:=fun i=>[(11,.int .i64 i)],keepN:=[1048576,1048577,2097152,2097153,2097154,128],names:=fun i=>[]})|7=>some (fun S=>{ι:=Int,μ:=fun i=>(((aQ (d.1.1.1.getD d.2.1.toNat default)).getD (S.i 11).toNat default).2.1.length-i).toNat,inv:=fun i=>0<=i/\i<=((aQ (d.1.1.1.getD d.2.1.toNat default)).getD (S.i 11).toNat default).2.1.length∧∀ x∈((aQ (d.1.1.1.getD d.2.1.toNat default)).getD (S.i 11).toNat default).2.1.take i.toNat,x≠d.2.2.2.1,keep:=[0,1,3,4,7,8,9,10,11],slots:=fun i=>[(12,.int .i64 i)],keepN:=[1048576,1048577,2097152,2097153,2097154,128],names:=fun i=>[]})|13=>some (fun S=>{ι:=Int×Bool×(List Int),qn:=⟨fun k_=>∀(k:Int)(f:Bool)(l:(List Int)),k_ (k,f,l),fun k_ h_ i=>h_ i.1 i.2.1 i.2.2,fun k_=>∃ (k:Int) (f:Bool) (l:(List Int)),k_ (k,f,l),fun k_ ⟨k,f,l,h_⟩=>⟨_,h_⟩⟩,μ:=fun i=>(((aQ (d.1.1.1.getD d.2.1.toNat default)).getD (S.i 11).toNat default).2.1.length-i.1).toNat,inv:=fun i=>0<=i.1/\i.1<=((aQ (d.1.1.1.getD d.2.1.toNat default)).getD (S.i 11).toNat default).2.1.length/\xE d.2.2.2.1 (((aQ (d.1.1.1.getD d.2.1.toNat default)).getD (S.i 11).toNat default).2.1.take i.1.toNat) i.2.1 i.2.2,keep:=[0,1,3,4,7,8,9,10,11,13],slots:=fun i=>[(14,.bool i.2.1),(15,.int .i64 i.1)],keepN:=[1048576,1048577,2097152,2097153,2097154,128],names:=fun i=>[(224,.live (.cells 97 [.int .u32 d.2.2.1.1,.int .i64 d.2.2.1.2,.own 524288 1,.int .i64 ((aQ (d.1.1.1.getD d.2.1.toNat default)).getD (S.i 11).toNat default).2.2])),(524288,.live (.row 3 cI i.2.2))]})|_=>none)})
def eJ(a:List ac)(f:Int) :=
 a.getD f.toNat default
def kV(a:List ac)(f k:Int) :=
 List.getD (aQ (eJ a f)) k.toNat default
def oo(a:List ac)(f k:Int) :=
 List.getD (eJ a f).2.2.2.2.1 k.toNat default
def mj(a:List ac)(f k:Int) :=
 ((List.length (kV a f k).2.1):Int)
def px(a:List ac)(f:Int) :=
 ((List.length (eJ a f).2.2.2.2.1):Int)
def wn(a:List ac)(f:Int) :=
 ((List.length (aQ (eJ a f))):Int)
def uf(a:List ac)(f k:Int) :=
 ((List.length (oo a f k).2.1):Int)
theorem at5 :
 ∀(a:List ac)(b:List aE)(c:List aM)(d:List Int)(e f g h i j:Int),(((a.length<=maxLen/\ ∀(k:ac),k∈a->CT.wf bH k)/\(b.length<=maxLen/\ ∀(k:aE),k∈b->CT.wf fB k)/\c.length<=maxLen/\ ∀(k:aM),k∈c->CT.wf d8 k)/\(d.length<=maxLen/\ ∀(k:Int),k∈d->0<=k/\k<=255)/\ab e)/\ab f/\((0<=g/\g<=4294967295)/\ab h)/\ab i/\ab j/\True->(inN a f/\bM (aQ (eJ a f))/\okL (aQ (eJ a f))/\ ∀(k:aF),k∈aQ (eJ a f)->(k.2.1.length:Int)<=1000)->0<=f/\f<(dL a)/\(∃(k:Int),(0<=k/\k<=(wn a f)/\ ∀(l:aF),l∈List.take k.toNat (aQ (eJ a f))->decide (l.1=(g,h))=false)/\f=f/\i=i/\j=j/\f.toNat=f.toNat/\(0:Int)=k/\d=d/\e=e/\a=a/\b=b/\c=c/\g=g/\h=h/\True)/\ ∀(k:Int),(0<=k/\k<=(wn a f)/\ ∀(l:aF),l∈List.take k.toNat (aQ (eJ a f))->decide (l.1=(g,h))=false)->ad (decide (k<(px a f))) (0<=k/\k<(px a f)/\ad (decide ((oo a f
 k).1.1=g)&&(decide ((oo a f k).1.2=h)&&true)) ((∃(l:Int),(0<=l/\l<=(mj a f k)/\ ∀(m:Int),m∈List.take l.toNat (kV a f k).2.1->m≠i)/\f=f/\i=i/\j=j/\f.toNat=f.toNat/\k=k/\(0:Int)=l/\d=d/\e=e/\a=a/\b=b/\c=c/\g=g/\h=h/\True)/\ ∀(l:Int),(0<=l/\l<=(mj a f k)/\ ∀(m:Int),m∈List.take l.toNat (kV a f k).2.1->m≠i)->0<=k/\k<(px a f)/\ad (decide (l<(uf a f k))) (0<=k/\k<(px a f)/\0<=l/\l<(uf a f k)/\ad (decide (List.getD (oo a f k).2.1 l.toNat default=i)) (((a,b,c),d,e)=((pc a f (g,h) i j,b,c),d,e)) (∃(m:Int),(0<=m/\m<=(mj a f k)/\ ∀(n:Int),n∈List.take m.toNat (kV a f k).2.1->n≠i)/\Int.toNat ((mj a f k) -m)<Int.toNat ((mj a f k) -l)/\f=f/\i=i/\j=j/\f.toNat=f.toNat/\k=k/\IntKind.wrap .i64 (l+(1:Int))=m/\d=d/\e=e/\a=a/\b=b/\c=c/\g=g/\h=h/\True)) (0<=k/\k<(px a f)/\(∃(m:Int) (n:Bool),∃(o:List Int),(0<=m/\m<=(mj a f k)/\xE i (List.take m.toNat (kV a
 f k).2.1) n o)/\f=f/\i=i/\j=j/\f.toNat=f.toNat/\k=k/\false=n/\(0:Int)=m/\d=d/\e=e/\a=a/\b=b/\c=c/\g=g/\h=h/\g=g/\h=h/\(oo a f k).2.2=(kV a f k).2.2/\o=([]:List Int)/\True)/\ ∀(m:Int)(n:Bool)(o:List Int),0<=m/\m<=(mj a f k)/\xE i (List.take m.toNat (kV a f k).2.1) n o->0<=k/\k<(px a f)/\ad (decide (m<(uf a f k))) (∀(p:Bool),p= ! n->(p->(p->p)/\True)/\(p->(p->p)/\True)/\(p->(p->p)/\True)/\(p->(p->p)/\(p->p)/\0<=k/\k<(px a f)/\True)/\(p->(p->p)/\True)/\(p->(p->p)/\True)/\(p->(p->p)/\(p->p)/\0<=m/\m<(uf a f k)/\True)/\(p->(p->p)/\True)/\(p->(p->p)/\(p->p)/\True)/\(p->p)/\ad (bif p then decide (i<List.getD (oo a f k).2.1 m.toNat default) else false) ((o.length+List.length [i])*(8:Nat)<=(mh)/\0<=k/\k<(px a f)/\0<=m/\m<(uf a f k)/\(List.length (o++[i])+List.length [List.getD (oo a f k).2.1 m.toNat default])*(8:Nat)<=(mh)/\ ∃(q:Int)
 (r:Bool),∃(s:List Int),(0<=q/\q<=(mj a f k)/\xE i (List.take q.toNat (kV a f k).2.1) r s)/\Int.toNat ((mj a f k) -q)<Int.toNat ((mj a f k) -m)/\f=f/\i=i/\j=j/\f.toNat=f.toNat/\k=k/\true=r/\IntKind.wrap .i64 (m+(1:Int))=q/\d=d/\e=e/\a=a/\b=b/\c=c/\g=g/\h=h/\g=g/\h=h/\(kV a f k).2.2=(kV a f k).2.2/\o++[i]++[List.getD (oo a f k).2.1 m.toNat default]=s/\True) (0<=k/\k<(px a f)/\0<=m/\m<(uf a f k)/\(o.length+List.length [List.getD (oo a f k).2.1 m.toNat default])*(8:Nat)<=(mh)/\ ∃(q:Int) (r:Bool),∃(s:List Int),(0<=q/\q<=(mj a f k)/\xE i (List.take q.toNat (kV a f k).2.1) r s)/\Int.toNat ((mj a f k) -q)<Int.toNat ((mj a f k) -m)/\f=f/\i=i/\j=j/\f.toNat=f.toNat/\k=k/\n=r/\IntKind.wrap .i64 (m+(1:Int))=q/\d=d/\e=e/\a=a/\b=b/\c=c/\g=g/\h=h/\g=g/\h=h/\(kV a f k).2.2=(kV a f k).2.2/\o++[List.getD (oo a f k).2.1 m.toNat default]=s/\True)) (ad (!
 n) ((o.length+List.length [i])*(8:Nat)<=(mh)/\bM (eJ a f).2.2.2.2.1/\okL (eJ a f).2.2.2.2.1/\((List.length (o++[i])):Int)<=1099511627776/\((List.set a f.toNat ((eJ a f).1,(eJ a f).2.1,(eJ a f).2.2.1,(eJ a f).2.2.2.1,dN (eJ a f).2.2.2.2.1 ((g,h),o++[i],(kV a f k).2.2),(eJ a f).2.2.2.2.2),b,c),d,e)=((pc a f (g,h) i j,b,c),d,e)) (bM (eJ a f).2.2.2.2.1/\okL (eJ a f).2.2.2.2.1/\(o.length:Int)<=1099511627776/\((List.set a f.toNat ((eJ a f).1,(eJ a f).2.1,(eJ a f).2.2.1,(eJ a f).2.2.2.1,dN (eJ a f).2.2.2.2.1 ((g,h),o,(kV a f k).2.2),(eJ a f).2.2.2.2.2),b,c),d,e)=((pc a f (g,h) i j,b,c),d,e))))) (∃(l:Int),(0<=l/\l<=(wn a f)/\ ∀(m:aF),m∈List.take l.toNat (aQ (eJ a f))->decide (m.1=(g,h))=false)/\Int.toNat ((wn a f) -l)<Int.toNat ((wn a f) -k)/\f=f/\i=i/\j=j/\f.toNat=f.toNat/\IntKind.wrap .i64
 (k+(1:Int))=l/\d=d/\e=e/\a=a/\b=b/\c=c/\g=g/\h=h/\True)) (bM (eJ a f).2.2.2.2.1/\okL (eJ a f).2.2.2.2.1/\((List.length [i]):Int)<=1099511627776/\((List.set a f.toNat ((eJ a f).1,(eJ a f).2.1,(eJ a f).2.2.1,(eJ a f).2.2.2.1,dN (eJ a f).2.2.2.2.1 ((g,h),[i],j),(eJ a f).2.2.2.2.2),b,c),d,e)=((pc a f (g,h) i j,b,c),d,e)):=by
  delta kV eJ oo mj px mh dL wn uf
  rintro ns ls hs cl cp n a pl k way-⟨⟨n0,n1⟩,hsr,hol,hnx⟩
  have eR:(ns.getD n.toNat default).2.2.2.2.1=aQ (ns.getD n.toNat default):=rfl
  simp only[eR]
  have fin:∀ l',r5 (aQ (ns.getD n.toNat default)) (a,pl) k way=l'→((ns.set n.toNat ((ns.getD n.toNat default).1,(ns.getD n.toNat default).2.1,(ns.getD n.toNat default).2.2.1,(ns.getD n.toNat default).2.2.2.1,l',(ns.getD n.toNat default).2.2.2.2.2),ls,hs),cl,cp)=((pc ns n (a,pl) k way,ls,hs),cl,cp):=by
   rintro _ rfl;rfl
  have same:r5 (aQ (ns.getD n.toNat default)) (a,pl) k way=aQ (ns.getD n.toNat default)->((ns,ls,hs),cl,cp)=((pc ns n (a,pl) k way,ls,hs),cl,cp):=fun h=>by
   have h2:=fin _ h
   rw[← h2]
   have hn:n.toNat<ns.length:=by omega
   have e:((ns.getD n.toNat default).1,(ns.getD n.toNat default).2.1,(ns.getD n.toNat default).2.2.1,(ns.getD n.toNat default).2.2.2.1,aQ (ns.getD n.toNat default),(ns.getD n.toNat default).2.2.2.2.2)=ns.getD n.toNat default:=rfl
   rw[e]
   have:ns.set n.toNat (ns.getD n.toNat default)=ns:=by
    rw[List.getD_eq_getElem?_getD,List.getElem?_eq_getElem hn,Option.getD_some,List.set_getElem_self]
   rw[this]
  generalize aQ (ns.getD n.toNat default)=R at *
  have hlR:=hol.1
  refine⟨n0,n1,⟨0,⟨by omega,by omega,by simp⟩,(by repeat' first|exact trivial|refine⟨trivial,?_⟩|refine⟨(by with_reducible rfl),?_⟩|refine⟨ai (by omega) (by omega),?_⟩|refine⟨rfl,?_⟩)⟩,?_⟩
  rintro i ⟨i0,i1,hi⟩
  refine ae (fun hk=>?_) (fun hk=>?_)
  rotate_left
  ·have hk:=of_decide_eq_false hk
   rw[List.take_of_length_le (by omega)] at hi
   refine⟨hsr,hol,by simp,fin _ ?_⟩
   have e:o7 R (a,pl)=R.length:=List.findIdx_eq_length_of_false hi
   rw[r5,e,if_neg (Nat.lt_irrefl _)]
  have hk:=of_decide_eq_true hk
  refine⟨i0,hk,ae (fun hm=>?_) (fun hm=>?_)⟩
  rotate_left
  ·have hf:decide ((R.getD i.toNat default).1=(a,pl))=false:=by
    refine decide_eq_false fun q=>?_
    rw[q] at hm;simp at hm
   exact⟨i+1,⟨by omega,by omega,rz i0 hk hi hf⟩,by omega,(by repeat' first|exact trivial|refine⟨trivial,?_⟩|refine⟨(by with_reducible rfl),?_⟩|refine⟨ai (by omega) (by omega),?_⟩|refine⟨rfl,?_⟩)⟩
  have hm:decide ((R.getD i.toNat default).1=(a,pl))=true:=by
   generalize R.getD i.toNat default=z at hm
   obtain⟨⟨z1,z2⟩,z3,z4⟩:=z
   simp at hm
   simp[hm]
  have hfi:i=if o7 R (a,pl)<R.length then (o7 R (a,pl):Int) else -1:=yV i0 hk hi hm
  have hfl:o7 R (a,pl)<R.length:=Classical.byContradiction fun q=>by rw[if_neg q] at hfi;omega
  rw[if_pos hfl] at hfi
  have hfe:o7 R (a,pl)=i.toNat:=by omega
  have hrl:=hnx _ (bL i0 hk)
  have eL:r5 R (a,pl) k way=if k∈(R.getD i.toNat default).2.1 then R else dN R ((a,pl),iR k (R.getD i.toNat default).2.1,(R.getD i.toNat default).2.2):=by
   rw[r5,if_pos hfl,hfe]
  generalize hZ:R.getD i.toNat default=Z at *
  refine⟨⟨0,⟨by omega,by omega,by simp⟩,(by repeat' first|exact trivial|refine⟨trivial,?_⟩|refine⟨(by with_reducible rfl),?_⟩|refine⟨ai (by omega) (by omega),?_⟩|refine⟨rfl,?_⟩)⟩,?_⟩
  rintro j ⟨j0,j1,hj⟩
  refine⟨i0,hk,ae (fun hjk=>?_) (fun hjk=>?_)⟩
  ·have hjk:=of_decide_eq_true hjk
   refine⟨i0,hk,j0,hjk,ae (fun he=>same ?_) (fun he=>?_)⟩
   ·have he:=of_decide_eq_true he
    rw[eL,if_pos (he▸bL j0 hjk)]
   ·exact⟨j+1,⟨by omega,by omega,rz (P:=fun x=>x≠k) j0 hjk hj (of_decide_eq_false he)⟩,by omega,(by repeat' first|exact trivial|refine⟨trivial,?_⟩|refine⟨(by with_reducible rfl),?_⟩|refine⟨ai (by omega) (by omega),?_⟩|refine⟨rfl,?_⟩)⟩
  have hjk:=of_decide_eq_false hjk
  rw[List.take_of_length_le (by omega)] at hj
  have hnk:¬ k∈Z.2.1:=fun q=>hj k q rfl
  rw[if_neg hnk] at eL
  refine⟨i0,hk,⟨0,false,[],⟨by omega,by omega,.inl ⟨rfl,by simp,by simp⟩⟩,(by repeat' first|exact trivial|refine⟨trivial,?_⟩|refine⟨(by with_reducible rfl),?_⟩|refine⟨ai (by omega) (by omega),?_⟩|refine⟨rfl,?_⟩)⟩,?_⟩
  rintro m f l ⟨m0,m1,hins⟩
  have hll:(l.length:Int)<=1001:=by
   rcases hins with⟨-,rfl,-⟩|⟨-,rfl,-⟩
   ·rw[List.length_take];omega
   ·rw[Dp,List.length_take];omega
  refine⟨i0,hk,ae (fun hmk=>?_) (fun hmk=>?_)⟩
  ·have hmk:=of_decide_eq_true hmk
   (repeat (intro (b_:Bool) (hb_:b_=_);(repeat refine⟨(by first|(simp +contextual;done)|(rw[hb_];simp +contextual;done)|(rw[hb_];simp;omega)|(rw[hb_];simp;intros;omega)|(rw[hb_];simp +contextual;intros;omega)|(intros;simp_all;done)|(intros;simp_all;omega)),?_⟩)));(repeat (subst hb_))
   refine r8 (fun h1 h2=>?_) (fun h1=>?_)
   ·have h1:f=false:=by simpa using h1
    have h2:=of_decide_eq_true h2
    subst h1
    rcases hins with⟨-,rfl,hin⟩|⟨q,-⟩
    ·refine⟨by simp only[List.length_singleton];omega,i0,hk,m0,hmk,by simp only[List.length_append,List.length_singleton];omega,m+1,true,_,⟨by omega,by omega,.inr ⟨rfl,rfl,Z.2.1.getD m.toNat default,?_,h2⟩⟩,by omega,?_⟩
     ·rw[r9 m0 hmk];exact List.mem_append_right _ (by simp)
     ·(repeat first|refine⟨trivial,?_⟩|refine⟨(by with_reducible rfl),?_⟩|refine⟨ai (by omega) (by omega),?_⟩)
      refine⟨?_,trivial⟩
      rw[r9 m0 hmk,OH hin h2]
    ·cases q
   ·refine⟨i0,hk,m0,hmk,by simp only[List.length_singleton];omega,m+1,f,l++[Z.2.1.getD m.toNat default],⟨by omega,by omega,?_⟩,by omega,(by repeat' first|exact trivial|refine⟨trivial,?_⟩|refine⟨(by with_reducible rfl),?_⟩|refine⟨ai (by omega) (by omega),?_⟩|refine⟨rfl,?_⟩)⟩
    rw[r9 m0 hmk]
    rcases hins with⟨rfl,rfl,hin⟩|⟨rfl,rfl,hin⟩
    ·refine .inl ⟨rfl,rfl,fun x hx=>?_⟩
     rcases List.mem_append.1 hx with hx|hx
     ·exact hin x hx
     ·rw[List.mem_singleton.1 hx]
      rcases h1 with h1|h1
      ·cases h1
      ·exact of_decide_eq_false h1
    ·obtain⟨x,hx,hx2⟩:=hin
     exact .inr ⟨rfl,(H3 ⟨x,hx,hx2⟩).symm,x,List.mem_append_left _ hx,hx2⟩
  have hmk:=of_decide_eq_false hmk
  rw[List.take_of_length_le (by omega)] at hins
  refine ae (fun hf=>?_) (fun hf=>?_)
  ·have hf:f=false:=by simpa using hf
   rcases hins with⟨-,rfl,hin⟩|⟨q,-⟩
   ·refine⟨by simp only[List.length_singleton];omega,hsr,hol,by simp only[List.length_append,List.length_singleton];omega,fin _ ?_⟩
    rw[eL,KL hin]
   ·rw[hf] at q;cases q
  ·have hf:f=true:=by simpa using hf
   rcases hins with⟨q,-⟩|⟨-,rfl,hin⟩
   ·rw[hf] at q;cases q
   ·exact⟨hsr,hol,by omega,fin _ eL⟩
theorem WY:ax Tryz.prog GL 111 NA.spec:=Ct.okH _ Tryz.func111 (by kernel_rfl) (ah aD QL) av PV (aC (by kernel_rfl) at5)
def W8(n:Nat)(to:Int):List Int:=(List.replicate n (1000:Int)).set to.toNat 0
def nK(n:Nat)(ls:List aE)(to:Int)(k:Nat):List Int:=(List.range k).foldl (fun d _=>ls.foldl oZ d) (W8 n to)
theorem UU{n:Nat}{i:Int}(h0:0<=i)(h1:i<n):(List.replicate i.toNat (1000:Int)++List.replicate (n-i.toNat) 0).set i.toNat 1000=List.replicate (i+1).toNat 1000++List.replicate (n-(i+1).toNat) 0:=by
 have e:(i+1).toNat=i.toNat+1:=by omega
 have e2:n-i.toNat=(n-(i.toNat+1))+1:=by omega
 rw[e,e2,List.set_append_right _ _ (by simp),List.length_replicate,Nat.sub_self,List.replicate_succ,List.set_cons_zero,List.replicate_succ',List.append_assoc]
 rfl
def oO(n:Nat)(d:List Int):Prop:=d.length=n∧∀ x∈d,0<=x/\x<=1000
theorem EX{n:Nat}{d:List Int}{i:Nat}{v:Int}(h:oO n d)(h0:0<=v)(h1:v<=1000):oO n (d.set i v):=by
 refine⟨by rw[List.length_set];exact h.1,fun x hx=>?_⟩
 rcases List.mem_or_eq_of_mem_set hx with hx|rfl
 ·exact h.2 x hx
 ·exact⟨h0,h1⟩
theorem KY{n:Nat}{d:List Int}(h:oO n d){i:Int}(h0:0<=i)(h1:i<n):0<=d.getD i.toNat default/\d.getD i.toNat default<=1000:=h.2 _ (bL h0 (by rw[h.1];exact h1))
theorem TO{n:Nat}{d:List Int}{l:aE}(h:oO n d)(hl:0<=l.1/\l.1<n/\0<=l.2.1/\l.2.1<n):oO n (oZ d l):=by
 have ha:=KY h hl.1 hl.2.1
 have hb:=KY h hl.2.2.1 hl.2.2.2
 unfold oZ lA lB
 exact EX (EX h (by omega) (by omega)) (by omega) (by omega)
theorem Fe{n:Nat}:∀{ls:List aE}{d:List Int},fO n ls->oO n d->oO n (ls.foldl oZ d)
 | [],d,_,h=>h
 | l::ls,d,hg,h=>Fe (ls:=ls) (fun x hx=>hg x (List.mem_cons_of_mem _ hx)) (TO h (hg l List.mem_cons_self))
theorem ag0{n:Nat}{ls:List aE}{d:List Int}(hg:fO n ls)(h:oO n d)(j:Nat):oO n ((ls.take j).foldl oZ d) :=
 Fe (fun x hx=>hg x (List.mem_of_mem_take hx)) h
theorem GC(n:Nat)(ls:List aE)(to:Int)(hg:fO n ls):∀ k,oO n (nK n ls to k)
 | 0=>EX ⟨List.length_replicate,fun x hx=>by rw[(List.mem_replicate.1 hx).2];omega⟩ (by omega) (by omega)
 | k+1=>by
  have:=Fe hg (GC n ls to hg k)
  unfold nK at this ⊢
  rw[List.range_succ,List.foldl_append];exact this
def Lt:Ct:=⟨[.box 119 vv,.val cI],[.own 3 cI],fun d=>[(d.1.1.1.length:Int)<=1000,(d.1.1.2.1.length:Int)<=1000,inN d.1.1.1 d.2.1,fO d.1.1.1.length d.1.1.2.1],fun d=>((cR d.1.1.1.length d.1.1.2.1 d.2.1,()),(d.1,()))⟩
def PM:ar Lt.ps->az:=(fun d=>{loops:=(fun n=>match n with|3=>some (fun S=>{ι:=Int×(List Int),qn:=⟨fun k_=>∀(i:Int)(l:(List Int)),k_ (i,l),fun k_ h_ i=>h_ i.1 i.2,fun k_=>∃ (i:Int) (l:(List Int)),k_ (i,l),fun k_ ⟨i,l,h_⟩=>⟨_,h_⟩⟩,μ:=fun i=>(d.1.1.1.length-i.1).toNat,inv:=fun i=>0<=i.1/\i.1<=d.1.1.1.length/\i.2=List.replicate i.1.toNat 1000++List.replicate (d.1.1.1.length-i.1.toNat) 0,keep:=[0,1],slots:=fun i=>[(6,.int .i64 i.1),(5,.own 524288 1)],keepN:=[1048576,1048577,2097152,2097153,2097154],names:=fun i=>[(524288,.live (.row 3 cI i.2))]})|8=>some (fun S=>{ι:=Int×(List Int),qn:=⟨fun k_=>∀(k:Int)(l:(List Int)),k_ (k,l),fun k_ h_ i=>h_ i.1 i.2,fun k_=>∃ (k:Int) (l:(List Int)),k_ (k,l),fun k_ ⟨k,l,h_⟩=>⟨_,h_⟩⟩,μ:=fun i=>(d.1.1.1.length-i.1).toNat,inv:=fun i=>0<=i.1/\i.1<=d.1.1.1.length/\i.2=nK d.1.1.1.length d.1.1.2.1 d.2.1 i.1.toNat,keep:=[0,1],slots:=fun i=>[(7,.int .i64 i.1),(5,.own 524288 1)],keepN:=[1048576,1048577,2097152,2097153,2097154],names:=fun i=>[(524288,.live (.row 3 cI i.2))]})|11=>some (fun S=>{ι:=Int×(List Int),qn:=⟨fun k_=>∀(i:Int)(l:(List Int)),k_ (i,l),fun k_ h_ i=>h_ i.1 i.2,fun k_=>∃ (i:Int) (l:(List Int)),k_ (i,l),fun k_ ⟨i,l,h_⟩=>⟨_,h_⟩⟩,μ:=fun i=>(d.1.1.2.1.length-i.1).toNat,inv:=fun i=>0<=i.1/\i.1<=d.1.1.2.1.length/\i.2=(d.1.1.2.1.take i.1.toNat).foldl oZ (nK d.1.1.1.length d.1.1.2.1 d.2.1 (S.i 7).toNat),keep:=[0,1,7],slots:=fun i=>[(8,.int .i64 i.1),(5,.own 524288 1)],keepN:=[1048576,1048577,2097152,2097153,2097154],names:=fun i=>[(524288,.live (.row 3 cI i.2))]})|_=>none)})
def jC(b:List aE)(k:Int) :=
 b.getD k.toNat default
def DM(b:List aE)(k:Int)(l:List Int) :=
 List.set l (Int.toNat (jC b k).1) (min (l.getD (Int.toNat (jC b k).1) default) (IntKind.wrap .i64 (l.getD (Int.toNat (jC b k).2.1) default+(1:Int))))
theorem W7 :
 ∀(a:List ac)(b:List aE)(c:List aM)(d:List Int)(e f:Int),(wc a b c d e)/\ab f/\True->((dL a)<=1000/\(dA b)<=1000/\inN a f/\ ∀(g:aE),g∈b->0<=g.1/\g.1<(dL a)/\0<=g.2.1/\g.2.1<(dL a))->0<=(dL a)/\(dL a)<=(dL a)/\(↑(8:Nat):Int)*(dL a)<=281474976710656/\(∃(g:Int) (h:List Int),(0<=g/\g<=(dL a)/\h=List.replicate g.toNat (1000:Int)++List.replicate (a.length -g.toNat) (0:Int))/\f=f/\(0:Int)=g/\d=d/\e=e/\a=a/\b=b/\c=c/\List.replicate (Int.toNat (dL a)) (0:Int)=h/\True)/\ ∀(g:Int)(h:List Int),0<=g/\g<=(dL a)/\h=List.replicate g.toNat (1000:Int)++List.replicate (a.length -g.toNat) (0:Int)->ad (decide (g<(h.length:Int))) (0<=g/\g<(h.length:Int)/\ ∃(i:Int) (j:List Int),(0<=i/\i<=(dL a)/\j=List.replicate i.toNat (1000:Int)++List.replicate (a.length -i.toNat) (0:Int))/\Int.toNat ((dL a) -i)<Int.toNat ((dL a) -g)/\f=f/\IntKind.wrap .i64
 (g+(1:Int))=i/\d=d/\e=e/\a=a/\b=b/\c=c/\List.set h g.toNat (1000:Int)=j/\True) (0<=f/\f<(h.length:Int)/\(∃(i:Int) (j:List Int),(0<=i/\i<=(dL a)/\j=nK a.length b f i.toNat)/\f=f/\(0:Int)=i/\d=d/\e=e/\a=a/\b=b/\c=c/\List.set h f.toNat (0:Int)=j/\True)/\ ∀(i:Int)(j:List Int),0<=i/\i<=(dL a)/\j=nK a.length b f i.toNat->ad (decide (i<(j.length:Int))) ((∃(k:Int) (l:List Int),(0<=k/\k<=(dA b)/\l=List.foldl oZ (nK a.length b f i.toNat) (List.take k.toNat b))/\f=f/\i=i/\(0:Int)=k/\d=d/\e=e/\a=a/\b=b/\c=c/\j=l/\True)/\ ∀(k:Int)(l:List Int),0<=k/\k<=(dA b)/\l=List.foldl oZ (nK a.length b f i.toNat) (List.take k.toNat b)->ad (decide (k<(dA b))) (0<=k/\k<(dA b)/\0<=(jC b k).1/\(jC b k).1<(l.length:Int)/\0<=(jC b k).2.1/\(jC b k).2.1<(l.length:Int)/\0<=(jC b k).2.1/\(jC b k).2.1<(l.length:Int)/\0<=(jC b k).1/\(jC b
 k).1<(l.length:Int)/\0<=(jC b k).1/\(jC b k).1<(l.length:Int)/\0<=(jC b k).2.1/\(jC b k).2.1<((List.length (DM b k l)):Int)/\ ∃(m:Int) (n:List Int),(0<=m/\m<=(dA b)/\n=List.foldl oZ (nK a.length b f i.toNat) (List.take m.toNat b))/\Int.toNat ((dA b) -m)<Int.toNat ((dA b) -k)/\f=f/\i=i/\IntKind.wrap .i64 (k+(1:Int))=m/\d=d/\e=e/\a=a/\b=b/\c=c/\List.set (DM b k l) (Int.toNat (jC b k).2.1) (min (l.getD (Int.toNat (jC b k).2.1) default) (IntKind.wrap .i64 (l.getD (Int.toNat (jC b k).1) default+(1:Int))))=n/\True) (∃(m:Int) (n:List Int),(0<=m/\m<=(dL a)/\n=nK a.length b f m.toNat)/\Int.toNat ((dL a) -m)<Int.toNat ((dL a) -i)/\f=f/\IntKind.wrap .i64 (i+(1:Int))=m/\d=d/\e=e/\a=a/\b=b/\c=c/\l=n/\True)) (j=cR a.length b f/\((a,b,c),d,e)=((a,b,c),d,e))):=by
  delta wc jC dA DM dL
  rintro ns ls hs l p to-⟨h1,h2,⟨t0,t1⟩,hg⟩
  have hn0:Int.toNat (ns.length:Int)=ns.length:=by omega
  refine⟨by omega,by omega,by omega,⟨0,_,⟨by omega,by omega,rfl⟩,?_⟩,?_⟩
  ·(repeat refine⟨(by with_reducible rfl),?_⟩)
   refine⟨?_,trivial⟩
   simp
  rintro i d ⟨i0,i1,rfl⟩
  have hlen:(List.replicate i.toNat (1000:Int)++List.replicate (ns.length-i.toNat) 0).length=ns.length:=by
   simp only[List.length_append,List.length_replicate];omega
  rw[hlen]
  refine ae (fun hk=>?_) (fun hk=>?_)
  ·have hk:=of_decide_eq_true hk
   refine⟨i0,hk,i+1,_,⟨by omega,by omega,rfl⟩,by omega,?_⟩
   (repeat refine⟨(by with_reducible rfl),?_⟩)
   refine⟨ai (by omega) (by omega),?_⟩
   (repeat refine⟨(by with_reducible rfl),?_⟩)
   refine⟨?_,trivial⟩
   exact UU i0 hk
  have hk:=of_decide_eq_false hk
  have e:i.toNat=ns.length:=by omega
  rw[e,Nat.sub_self,List.replicate_zero,List.append_nil]
  refine⟨t0,t1,⟨0,_,⟨by omega,by omega,rfl⟩,?_⟩,?_⟩
  ·(repeat refine⟨(by with_reducible rfl),?_⟩)
   exact⟨rfl,trivial⟩
  rintro k d ⟨k0,k1,rfl⟩
  have dl:=GC (ns.length) ls to hg
  rw[(dl k.toNat).1]
  refine ae (fun hk2=>?_) (fun hk2=>?_)
  rotate_left
  ·have hk2:=of_decide_eq_false hk2
   have e:k.toNat=ns.length:=by omega
   rw[e];exact⟨rfl,rfl⟩
  have hk2:=of_decide_eq_true hk2
  refine⟨⟨0,_,⟨by omega,by omega,rfl⟩,?_⟩,?_⟩
  ·(repeat refine⟨(by with_reducible rfl),?_⟩)
   exact⟨rfl,trivial⟩
  rintro j d ⟨j0,j1,rfl⟩
  have fl:=ag0 hg (dl k.toNat) j.toNat
  refine ae (fun hj=>?_) (fun hj=>?_)
  rotate_left
  ·have hj:=of_decide_eq_false hj
   refine⟨k+1,_,⟨by omega,by omega,rfl⟩,by omega,?_⟩
   (repeat refine⟨(by with_reducible rfl),?_⟩)
   refine⟨ai (by omega) (by omega),?_⟩
   (repeat refine⟨(by with_reducible rfl),?_⟩)
   refine⟨?_,trivial⟩
   rw[List.take_of_length_le (by omega),show (k+1).toNat=k.toNat+1 by omega]
   unfold nK
   rw[List.range_succ,List.foldl_append];rfl
  have hj:=of_decide_eq_true hj
  obtain⟨g1,g2,g3,g4⟩:=hg _ (bL j0 hj)
  generalize hX:List.foldl oZ (nK ns.length ls to k.toNat) (ls.take j.toNat)=X at fl
  have xa:=fl.2 _ (bL g1 (show _<(X.length:Int) by rw[fl.1];exact g2))
  have xb:=fl.2 _ (bL g3 (show _<(X.length:Int) by rw[fl.1];exact g4))
  simp only[List.length_set]
  rw[fl.1]
  refine⟨j0,hj,g1,g2,g3,g4,g3,g4,g1,g2,g1,g2,g3,g4,j+1,_,⟨by omega,by omega,rfl⟩,by omega,?_⟩
  (repeat first|refine⟨trivial,?_⟩|refine⟨(by with_reducible rfl),?_⟩|refine⟨ai (by omega) (by omega),?_⟩)
  refine⟨?_,trivial⟩
  rw[ai (by omega) (by omega),ai (by omega) (by omega),r9 j0 hj,List.foldl_append,hX]
  rfl
theorem an0:ax Tryz.prog GL 109 Lt.spec:=Ct.okH _ Tryz.func109 (by kernel_rfl) aD av PM (aC (by kernel_rfl) W7)
def MG:Ct:=⟨[.val (.sl cG),.agg kr],[.val .bool],fun d=>[okL d.1],fun d=>((l8 d.1 d.2.1,()),())⟩
def Rs:ar MG.ps->az:=(fun _=>{})
theorem Q2 :
 ∀(a:List aF)(b c:Int),(a.length<=maxLen/\ ∀(d:aF),d∈a->((0<=d.1.1/\d.1.1<=4294967295)/\ab d.1.2)/\(d.2.1.length<=maxLen/\ ∀(e:Int),e∈d.2.1->ab e)/\ab d.2.2)/\((0<=b/\b<=4294967295)/\ab c)/\True->((a.length:Int)<=134217728/\ ∀(d:Rt),d∈a->(d.2.1.length:Int)<=1099511627776)->okL a/\l8 a (b,c)=l8 a (b,c):=by
  rintro l a n-h
  exact⟨h,rfl⟩
theorem Ve:ax Tryz.prog GL 110 MG.spec:=Ct.okH _ Tryz.func110 (by kernel_rfl) (ah aD Uk) av Rs (aC (by kernel_rfl) Q2)
def LV:Ct:=⟨[.box 109 f8],[.val cj],fun d=>[ay d.1],fun d=>((IntKind.u32.wrap (167837696+(aj d.1 40).1),()),((aj d.1 40).2,()))⟩
def Vd:ar LV.ps->az:=(fun _=>{})
theorem TY :
 ∀(a:List Int)(b:Int),((a.length<=maxLen/\ ∀(c:Int),c∈a->0<=c/\c<=255)/\ab b)/\True->0<=b/\b<=(a.length:Int)->ay (a,b)/\IntKind.wrap .u32 (IntKind.wrap .i64 ((167837696:Int)+(aj (a,b) (40:Int)).1))=IntKind.wrap .u32 ((167837696:Int)+(aj (a,b) (40:Int)).1)/\(aj (a,b) (40:Int)).2=(aj (a,b) (40:Int)).2:=by
  rintro l p ⟨⟨⟨hl,hw⟩,-⟩,-⟩ hc
  have hok:bS (l,p):=⟨hc,hw⟩
  have r2:=cW hok (n:=40) (by omega)
  refine⟨hc,?_,rfl⟩
  rw[ai (n:=167837696+_) (by omega) (by omega)]
theorem QF:ax Tryz.prog GL 112 LV.spec:=Ct.okH _ Tryz.func112 (by kernel_rfl) (ah aD vO) av Vd (aC (by kernel_rfl) TY)
def lT(d:List Int)(to:Int)(p:cO)(plain:Bool)(k way:Int)(ns:List ac)(l:aE)(e:Int):List ac :=
 if e=0 then ns else if e=1 then ou d to p plain k way ns (lA l) (lB l) else ou d to p plain k way (ou d to p plain k way ns (lA l) (lB l)) (lB l) (lA l)
structure preR (s:aO):Prop where
 c:ay s.2
 n:(s.1.1.length:Int)<=1000
 l:(s.1.2.1.length:Int)<=1000
 g:fO s.1.1.length s.1.2.1
 r:∀ x∈s.1.1,aQ x=[]
 a:((fZ s.1.1).length:Int)<=100000
theorem Ru{ns:List ac}{i:Nat}(hi:i<ns.length):(aA (ns.getD i default)).length<=(fZ ns).length:=by
 have hx:ns.getD i default∈ns:=by
  have:=bL (xs:=ns) (i:=(i:Nat)) (by omega) (by omega)
  simpa using this
 unfold fZ
 generalize ns.getD i default=x at hx ⊢
 obtain⟨u,v,e⟩:=List.append_of_mem hx
 rw[e];simp only[List.flatMap_append,List.flatMap_cons,List.length_append,List.length_map];omega
theorem RI.pre{ls:List aE}{ns0 ns:List ac}(h:RI ls (fZ ns0) ns0 ns)(ha:((fZ ns0).length:Int)<=100000)(hl:(ls.length:Int)<=1000){u:Int}(u0:0<=u)(u1:u<ns0.length) :
  inN ns u/\bM (aQ (ns.getD u.toNat default))/\okL (aQ (ns.getD u.toNat default))∧∀ r∈aQ (ns.getD u.toNat default),(r.2.1.length:Int)<=1000:=by
 have t:=h.t u.toNat (by omega)
 have tl:=CG t
 have rl:∀ r∈aQ (ns.getD u.toNat default),(r.2.1.length:Int)<=1000:=fun r hr=>by have:=C4 (t.2 r hr);omega
 refine⟨⟨u0,by rw[h.n];exact u1⟩,t.1,⟨by omega,fun r hr=>?_⟩,rl⟩
 have:=rl r hr;omega
def Oz:Ct:=⟨[.box 119 vv,.val .bool],[],fun d=>[preR d.1],fun d=>((),(yK d.1 d.2.1,()))⟩
def ar3:ar Oz.ps->az:=(fun d=>{loops:=(fun n=>match n with|1=>some (fun S=>{ι:=Int×(List ac)×aI,qn:=⟨fun k_=>∀(to:Int)(ns:(List ac))(cs:aI),k_ (to,ns,cs),fun k_ h_ i=>h_ i.1 i.2.1 i.2.2,fun k_=>∃ (to:Int) (ns:(List ac)) (cs:aI),k_ (to,ns,cs),fun k_ ⟨to,ns,cs,h_⟩=>⟨_,h_⟩⟩,μ:=fun i=>(d.1.1.1.length-i.1).toNat,inv:=fun i=>0<=i.1/\i.1<=d.1.1.1.length/\(i.2.1,i.2.2)=(List.range i.1.toNat).foldl (stepT d.1.1.2.1 d.2.1) (d.1.1.1,d.1.2),keep:=[0,1],slots:=fun i=>[(4,.int .i64 i.1)],names:=fun i=>[(1048576,.live (.cells 119 [.own 524288 16,.own 524289 6,.own 524290 7,.ptr 1048577 0])),(524288,.live (.row 107 bH i.2.1)),(524289,.live (.row 99 fB d.1.1.2.1)),(524290,.live (.row 129 d8 d.1.1.2.2)),(1048577,.live (.cells 109 (cB f8 i.2.2)))]})|9=>some (fun S=>{ι:=Int×(List ac),qn:=⟨fun k_=>∀(i:Int)(ns:(List ac)),k_ (i,ns),fun k_ h_ i=>h_ i.1 i.2,fun k_=>∃ (i:Int) (ns:(List ac)),k_ (i,ns),fun k_ ⟨i,ns,h_⟩=>⟨_,h_⟩⟩,μ:=fun i=>((S.l pz 7).length-i.1).toNat,inv:=fun i=>0<=i.1/\i.1<=(S.l pz 7).length/\i.2=((S.l pz 7).take i.1.toNat).foldl (stepP d.1.1.2.1 (cR d.1.1.1.length d.1.1.2.1 (S.i 4)) (S.i 4) d.2.1 (S.i 6)) (S.r bH 449),keep:=[0,1,4,5,6,7],slots:=fun i=>[(8,.int .i64 i.1)],keepN:=[448,1048577],names:=fun i=>[(1048576,.live (.cells 119 [.own 524288 16,.own 524289 6,.own 524290 7,.ptr 1048577 0])),(524288,.live (.row 107 bH i.2)),(524289,.live (.row 99 fB d.1.1.2.1)),(524290,.live (.row 129 d8 d.1.1.2.2))]})|13=>some (fun S=>{ι:=Int×(List ac),qn:=⟨fun k_=>∀(k:Int)(ns:(List ac)),k_ (k,ns),fun k_ h_ i=>h_ i.1 i.2,fun k_=>∃ (k:Int) (ns:(List ac)),k_ (k,ns),fun k_ ⟨k,ns,h_⟩=>⟨_,h_⟩⟩,μ:=fun i=>(d.1.1.2.1.length-i.1).toNat,inv:=fun i=>0<=i.1/\i.1<=d.1.1.2.1.length/\i.2=(List.range i.1.toNat).foldl (stepK d.1.1.2.1 (cR d.1.1.1.length d.1.1.2.1 (S.i 4)) (S.i 4) (S.c kr 160) d.2.1 (S.i 6)) (S.r bH 524288),keep:=[0,1,4,5,6,7,8,9],slots:=fun i=>[(10,.int .i64 i.1)],keepN:=[160,448,1048577],names:=fun i=>[(1048576,.live (.cells 119 [.own 524288 16,.own 524289 6,.own 524290 7,.ptr 1048577 0])),(524288,.live (.row 107 bH i.2)),(524289,.live (.row 99 fB d.1.1.2.1)),(524290,.live (.row 129 d8 d.1.1.2.2))]})|18=>some (fun S=>{ι:=Int×(List ac),qn:=⟨fun k_=>∀(e:Int)(ns:(List ac)),k_ (e,ns),fun k_ h_ i=>h_ i.1 i.2,fun k_=>∃ (e:Int) (ns:(List ac)),k_ (e,ns),fun k_ ⟨e,ns,h_⟩=>⟨_,h_⟩⟩,μ:=fun i=>(2-i.1).toNat,inv:=fun i=>0<=i.1/\i.1<=2/\i.2=lT (cR d.1.1.1.length d.1.1.2.1 (S.i 4)) (S.i 4) (S.c kr 160) d.2.1 (S.i 10) (S.i 6) (S.r bH 524288) (S.c fB 192) i.1,keep:=[0,1,4,5,6,7,8,9,10,11,12],slots:=fun i=>[(13,.int .i64 i.1)],keepN:=[160,192,448,1504,1048577],names:=fun i=>[(1048576,.live (.cells 119 [.own 524288 16,.own 524289 6,.own 524290 7,.ptr 1048577 0])),(524288,.live (.row 107 bH i.2)),(524289,.live (.row 99 fB d.1.1.2.1)),(524290,.live (.row 129 d8 d.1.1.2.2))]})|_=>none),cuts:=(fun n=>match n with|7=>some (fun S=>{ι:=Int×aI,qn:=⟨fun k_=>∀(way:Int)(cs:aI),k_ (way,cs),fun k_ h_ i=>h_ i.1 i.2,fun k_=>∃ (way:Int) (cs:aI),k_ (way,cs),fun k_ ⟨way,cs,h_⟩=>⟨_,h_⟩⟩,inv:=fun i=>(i.1,i.2)=lv ((List.range (S.i 4).toNat).foldl (stepT d.1.1.2.1 d.2.1) (d.1.1.1,d.1.2)).2,keep:=[0,1,4,5],slots:=fun i=>[(6,.int .i64 i.1)],keepN:=[448,1048576,449,450,451],names:=fun i=>[(1048577,.live (.cells 109 (cB f8 i.2)))]})|_=>none)})
def ck(b:List aE)(n:Int) :=
 b.getD n.toNat default
def oQ(b:List aE)(n:Int) :=
 ((ck b n).1,(ck b n).2.1)
def oA(b:List aE)(n:Int) :=
 ((ck b n).2.1,(ck b n).1)
def jw(b:List aE)(n p:Int) :=
 List.getD [(oQ b n),(oA b n)] p.toNat default
def iM(g:Int)(h:List ac) :=
 h.getD g.toNat default
def lU(g:Int)(h:List ac)(l:Int) :=
 List.getD (iM g h).1 l.toNat default
def sj(r s:Bool) :=
 (! r&&s)->((! r&&s)->(! r&&s))/\True
def rI(g:Int)(h:List ac) :=
 ((List.length (iM g h).1):Int)
def oD(g:Int)(h:List ac)(l:Int) :=
 ((lU g h l).1,(32:Int))
def uH(i:aI) :=
 aj (aj i 3).2 (3:Int)
theorem Sr :
 ∀(a:List ac)(b:List aE)(c:List aM)(d:List Int)(e:Int)(f:Bool),(wc a b c d e)/\True/\True->preR ((a,b,c),d,e)->(∃(g:Int) (h:List ac),∃(i:aI),(0<=g/\g<=(dL a)/\(h,i)=List.foldl (stepT b f) (a,d,e) (List.range g.toNat))/\f=f/\(0:Int)=g/\a=h/\b=b/\c=c/\d=i.1/\e=i.2/\True)/\ ∀(g:Int)(h:List ac)(i:aI),0<=g/\g<=(dL a)/\(h,i)=List.foldl (stepT b f) (a,d,e) (List.range g.toNat)->ad (decide (g<(h.length:Int))) ((h.length:Int)<=1000/\(dA b)<=1000/\inN h g/\fO h.length b/\ay i/\(∀(j:Bool),j=decide (IntKind.wrap .i64 ((1:Int)+(aj i 3).1)=3)->(j->(j->j)/\True)/\(j->(j->j)/\True)/\(j->(j->j)/\True)/\ad j ((j->j)/\ay (aj i 3).2/\(j->j)/\ad (bif j then decide (0<(uH i).1) else false) (∃(k:Int) (l:aI),(k,l)=lv (List.foldl (stepT b f) (a,d,e) (List.range g.toNat)).2/\f=f/\g=g/\(1:Int)=k/\cR h.length b g=cR h.length b
 g/\h=h/\b=b/\c=c/\(uH i).2.1=l.1/\(uH i).2.2=l.2/\True) (∃(k:Int) (l:aI),(k,l)=lv (List.foldl (stepT b f) (a,d,e) (List.range g.toNat)).2/\f=f/\g=g/\IntKind.wrap .i64 ((1:Int)+(aj i 3).1)=k/\cR h.length b g=cR h.length b g/\h=h/\b=b/\c=c/\(uH i).2.1=l.1/\(uH i).2.2=l.2/\True)) (j=false/\(j->false=true)/\ad (bif j then false else false) (∃(k:Int) (l:aI),(k,l)=lv (List.foldl (stepT b f) (a,d,e) (List.range g.toNat)).2/\f=f/\g=g/\(1:Int)=k/\cR h.length b g=cR h.length b g/\h=h/\b=b/\c=c/\(aj i 3).2.1=l.1/\(aj i 3).2.2=l.2/\True) (∃(k:Int) (l:aI),(k,l)=lv (List.foldl (stepT b f) (a,d,e) (List.range g.toNat)).2/\f=f/\g=g/\IntKind.wrap .i64 ((1:Int)+(aj i 3).1)=k/\cR h.length b g=cR h.length b g/\h=h/\b=b/\c=c/\(aj i 3).2.1=l.1/\(aj i 3).2.2=l.2/\True)))/\ ∀(j:Int)(k:aI),(j,k)=lv (List.foldl (stepT b f) (a,d,e) (List.range
 g.toNat)).2->0<=g/\g<(h.length:Int)/\(∃(l:Int) (m:List ac),(0<=l/\l<=(rI g h)/\m=List.foldl (stepP b (cR a.length b g) g f j) h (List.take l.toNat (iM g h).1))/\f=f/\g=g/\j=j/\(iM g h).1=(iM g h).1/\(0:Int)=l/\cR h.length b g=cR h.length b g/\k.1=k.1/\k.2=k.2/\h=m/\b=b/\c=c/\True)/\ ∀(l:Int)(m:List ac),0<=l/\l<=(rI g h)/\m=List.foldl (stepP b (cR a.length b g) g f j) h (List.take l.toNat (iM g h).1)->ad (decide (l<(rI g h))) (0<=l/\l<(rI g h)/\(∃(n:Int) (o:List ac),(0<=n/\n<=(dA b)/\o=List.foldl (stepK b (cR a.length b g) g (oD g h l) f j) m (List.range n.toNat))/\f=f/\g=g/\j=j/\(iM g h).1=(iM g h).1/\l=l/\(0:Int)=n/\(lU g h l).1=(lU g h l).1/\(32:Int)=32/\cR h.length b g=cR h.length b g/\k.1=k.1/\k.2=k.2/\m=o/\b=b/\c=c/\True)/\ ∀(n:Int)(o:List ac),0<=n/\n<=(dA b)/\o=List.foldl (stepK b (cR a.length b g) g
 (oD g h l) f j) m (List.range n.toNat)->ad (decide (n<(dA b))) (0<=n/\n<(dA b)/\(∃(p:Int) (q:List ac),(0<=p/\p<=2/\q=lT (cR a.length b g) g (oD g h l) f n j o (ck b n) p)/\f=f/\g=g/\j=j/\(iM g h).1=(iM g h).1/\l=l/\n=n/\(0:Int)=p/\(lU g h l).1=(lU g h l).1/\(32:Int)=32/\(ck b n).1=(ck b n).1/\(ck b n).2.1=(ck b n).2.1/\(ck b n).2.2.1=(ck b n).2.2.1/\(ck b n).2.2.2.1=(ck b n).2.2.2.1/\(ck b n).2.2.2.2.1=(ck b n).2.2.2.2.1/\(ck b n).2.2.2.2.2=(ck b n).2.2.2.2.2/\cR h.length b g=cR h.length b g/\[(oQ b n),(oA b n)]=[(oQ b n),(oA b n)]/\k.1=k.1/\k.2=k.2/\o=q/\b=b/\c=c/\True)/\ ∀(p:Int)(q:List ac),0<=p/\p<=2/\q=lT (cR a.length b g) g (oD g h l) f n j o (ck b n) p->ad (decide (p<2)) (0<=p/\p<((List.length [(oQ b n),(oA b n)]):Int)/\0<=(jw b n p).1/\(jw b n p).1<((List.length (cR h.length b
 g)):Int)/\0<=(jw b n p).2/\(jw b n p).2<((List.length (cR h.length b g)):Int)/\ ∀(r:Bool),r= ! decide (List.getD (cR h.length b g) (Int.toNat (jw b n p).1) default=IntKind.wrap .i64 (List.getD (cR h.length b g) (Int.toNat (jw b n p).2) default+(1:Int)))->((! r)->((! r)->(! r))/\True)/\((! r)->((! r)->(! r))/\((! r)->(! r))/\True)/\((! r)->((! r)->(! r))/\True)/\ ∀(s:Bool),s= ! decide ((jw b n p).2=g)->(sj r s)/\(sj r s)/\(sj r s)/\(sj r s)/\(sj r s)/\((! r&&s)->((! r&&s)->(! r&&s))/\((! r&&s)->(! r&&s))/\0<=(jw b n p).2/\(jw b n p).2<(q.length:Int)/\True)/\(sj r s)/\(sj r s)/\((! r)->((! r)->(! r))/\(s->(! r&&s))/\True)/\(r=false->(! r))/\ad (bif r then true else bif s then (q.getD (Int.toNat (jw b n p).2) default).2.2.2.1 else false) (∃(t:Int) (u:List ac),(0<=t/\t<=2/\u=lT (cR a.length b g) g (oD g h l) f n j o (ck b n)
 t)/\Int.toNat ((2:Int) -t)<Int.toNat ((2:Int) -p)/\f=f/\g=g/\j=j/\(iM g h).1=(iM g h).1/\l=l/\n=n/\IntKind.wrap .i64 (p+(1:Int))=t/\(lU g h l).1=(lU g h l).1/\(32:Int)=32/\(ck b n).1=(ck b n).1/\(ck b n).2.1=(ck b n).2.1/\(ck b n).2.2.1=(ck b n).2.2.1/\(ck b n).2.2.2.1=(ck b n).2.2.2.1/\(ck b n).2.2.2.2.1=(ck b n).2.2.2.2.1/\(ck b n).2.2.2.2.2=(ck b n).2.2.2.2.2/\cR h.length b g=cR h.length b g/\[(oQ b n),(oA b n)]=[(oQ b n),(oA b n)]/\k.1=k.1/\k.2=k.2/\q=u/\b=b/\c=c/\True) (∀(t:Bool),t=f->(t->(t->t)/\True)/\(t->(t->t)/\True)/\(t->(t->t)/\True)/\(t->(t->t)/\True)/\(t->(t->t)/\True)/\(t->(t->t)/\(t->t)/\0<=(jw b n p).1/\(jw b n p).1<(q.length:Int)/\True)/\(t->(t->t)/\True)/\(t->(t->t)/\True)/\(t->(t->t)/\(t->t)/\okL (q.getD (Int.toNat (jw b n p).1) default).2.2.2.2.1/\True)/\(t->t)/\ad (bif t then l8 (q.getD (Int.toNat (jw b
 n p).1) default).2.2.2.2.1 (oD g h l) else false) (∃(u:Int) (v:List ac),(0<=u/\u<=2/\v=lT (cR a.length b g) g (oD g h l) f n j o (ck b n) u)/\Int.toNat ((2:Int) -u)<Int.toNat ((2:Int) -p)/\f=f/\g=g/\j=j/\(iM g h).1=(iM g h).1/\l=l/\n=n/\IntKind.wrap .i64 (p+(1:Int))=u/\(lU g h l).1=(lU g h l).1/\(32:Int)=32/\(ck b n).1=(ck b n).1/\(ck b n).2.1=(ck b n).2.1/\(ck b n).2.2.1=(ck b n).2.2.1/\(ck b n).2.2.2.1=(ck b n).2.2.2.1/\(ck b n).2.2.2.2.1=(ck b n).2.2.2.2.1/\(ck b n).2.2.2.2.2=(ck b n).2.2.2.2.2/\cR h.length b g=cR h.length b g/\[(oQ b n),(oA b n)]=[(oQ b n),(oA b n)]/\k.1=k.1/\k.2=k.2/\q=v/\b=b/\c=c/\True) (inN q (jw b n p).1/\bM (aQ (q.getD (Int.toNat (jw b n p).1) default))/\okL (aQ (q.getD (Int.toNat (jw b n p).1) default))/\(∀(u:aF),u∈aQ (q.getD (Int.toNat (jw b n p).1)
 default)->(u.2.1.length:Int)<=1000)/\ ∃(u:Int) (v:List ac),(0<=u/\u<=2/\v=lT (cR a.length b g) g (oD g h l) f n j o (ck b n) u)/\Int.toNat ((2:Int) -u)<Int.toNat ((2:Int) -p)/\f=f/\g=g/\j=j/\(iM g h).1=(iM g h).1/\l=l/\n=n/\IntKind.wrap .i64 (p+(1:Int))=u/\(lU g h l).1=(lU g h l).1/\(32:Int)=32/\(ck b n).1=(ck b n).1/\(ck b n).2.1=(ck b n).2.1/\(ck b n).2.2.1=(ck b n).2.2.1/\(ck b n).2.2.2.1=(ck b n).2.2.2.1/\(ck b n).2.2.2.2.1=(ck b n).2.2.2.2.1/\(ck b n).2.2.2.2.2=(ck b n).2.2.2.2.2/\cR h.length b g=cR h.length b g/\[(oQ b n),(oA b n)]=[(oQ b n),(oA b n)]/\k.1=k.1/\k.2=k.2/\pc q (jw b n p).1 (oD g h l) n j=v/\b=b/\c=c/\True))) (∃(r:Int) (s:List ac),(0<=r/\r<=(dA b)/\s=List.foldl (stepK b (cR a.length b g) g (oD g h l) f j) m (List.range r.toNat))/\Int.toNat ((dA b) -r)<Int.toNat ((dA b)
 -n)/\f=f/\g=g/\j=j/\(iM g h).1=(iM g h).1/\l=l/\IntKind.wrap .i64 (n+(1:Int))=r/\(lU g h l).1=(lU g h l).1/\(32:Int)=32/\cR h.length b g=cR h.length b g/\k.1=k.1/\k.2=k.2/\q=s/\b=b/\c=c/\True)) (∃(p:Int) (q:List ac),(0<=p/\p<=(rI g h)/\q=List.foldl (stepP b (cR a.length b g) g f j) h (List.take p.toNat (iM g h).1))/\Int.toNat ((rI g h) -p)<Int.toNat ((rI g h) -l)/\f=f/\g=g/\j=j/\(iM g h).1=(iM g h).1/\IntKind.wrap .i64 (l+(1:Int))=p/\cR h.length b g=cR h.length b g/\k.1=k.1/\k.2=k.2/\o=q/\b=b/\c=c/\True)) (∃(n:Int) (o:List ac),∃(p:aI),(0<=n/\n<=(dL a)/\(o,p)=List.foldl (stepT b f) (a,d,e) (List.range n.toNat))/\Int.toNat ((dL a) -n)<Int.toNat ((dL a) -g)/\f=f/\IntKind.wrap .i64 (g+(1:Int))=n/\m=o/\b=b/\c=c/\k.1=p.1/\k.2=p.2/\True)) (((h,b,c),i)=yK ((a,b,c),d,e) f):=by
  delta jw ck lU iM wc sj oQ oA dA rI dL oD uH
  rintro ns0 ls hs l p plain ⟨⟨-,⟨hl,hw⟩,-⟩,-⟩⟨hc,h1,h2,hg,hr,ha⟩
  dsimp only at hc h1 h2 hg hr ha
  have hB:bS (l,p):=⟨hc,hw⟩
  have base:∀ n,n<=ns0.length->RI ls (fZ ns0) ns0 ((List.range n).foldl (stepT ls plain) (ns0,(l,p))).1/\bS ((List.range n).foldl (stepT ls plain) (ns0,(l,p))).2:=fun n hn=>RI.stepTs (ns0:=ns0) (s:=(ns0,(l,p))) ⟨RI.start hr,hB⟩ hg hn
  refine⟨⟨0,ns0,(l,p),⟨by omega,by omega,rfl⟩,(by repeat' first|exact trivial|refine⟨trivial,?_⟩|refine⟨(by with_reducible rfl),?_⟩|refine⟨ai (by omega) (by omega),?_⟩|refine⟨rfl,?_⟩)⟩,?_⟩
  rintro to ns cs ⟨t0,t1,hF⟩
  obtain⟨R,hcs⟩:=base to.toNat (by omega)
  have e1:=(congrArg Prod.fst hF).symm
  have e2:=(congrArg Prod.snd hF).symm
  dsimp only at e1 e2
  rw[e1] at R
  rw[e2] at hcs ⊢
  have hn:=R.n
  simp only[hn]
  refine ae (fun ht=>?_) (fun ht=>?_)
  rotate_left
  ·have ht:=of_decide_eq_false ht
   have e:to.toNat=ns0.length:=by omega
   rw[e] at e1 e2
   unfold yK
   dsimp only
   rw[e1,e2]
  have ht:=of_decide_eq_true ht
  have v3:=cW hcs (n:=3) (by omega)
  have k1:=(bZ hcs 3).1
  have k2:=(bZ k1 3).1
  refine⟨h1,h2,⟨t0,by rw[hn];exact ht⟩,hg,hcs.at',?_,?_⟩
  ·rw[ai (n:=1+_) (by omega) (by omega)]
   (repeat (intro (b_:Bool) (hb_:b_=_);(repeat refine⟨(by first|(simp;done)|(rw[hb_];simp;done)|(rw[hb_];simp;omega)|(rw[hb_];simp;intros;omega)|(rw[hb_];simp +contextual;done)),?_⟩);subst hb_))
   refine ae (fun kb=>?_) (fun kb=>?_)
   ·simp only[kb,cond_true]
    have kb:=of_decide_eq_true kb
    refine⟨fun h=>h,k1.at',fun h=>h,ae (fun kc=>?_) (fun kc=>?_)⟩
    ·have kc:=of_decide_eq_true kc
     refine⟨1,_,?_,(by repeat' first|exact trivial|refine⟨trivial,?_⟩|refine⟨(by with_reducible rfl),?_⟩|refine⟨ai (by omega) (by omega),?_⟩|refine⟨rfl,?_⟩)⟩
     rw[lv,if_pos kb,if_pos kc]
    ·have kc:=of_decide_eq_false kc
     refine⟨_,_,?_,(by repeat' first|exact trivial|refine⟨trivial,?_⟩|refine⟨(by with_reducible rfl),?_⟩|refine⟨ai (by omega) (by omega),?_⟩|refine⟨rfl,?_⟩)⟩
     rw[lv,if_pos kb,if_neg kc,kb]
   ·simp only[kb,cond_false]
    have kb:=of_decide_eq_false kb
    refine⟨trivial,fun h=>h,?_⟩
    rw[C3]
    refine⟨_,_,?_,(by repeat' first|exact trivial|refine⟨trivial,?_⟩|refine⟨(by with_reducible rfl),?_⟩|refine⟨ai (by omega) (by omega),?_⟩|refine⟨rfl,?_⟩)⟩
    rw[lv,if_neg kb]
  rintro way cs' hW
  have hw3:=Nd hcs
  rw[← hW] at hw3
  obtain⟨hcs',w0,w1⟩:=hw3
  dsimp only at hcs' w0 w1
  have hD:oO ns0.length (cR ns0.length ls to):=GC ns0.length ls to hg _
  generalize eD:cR ns0.length ls to=D at hD ⊢
  have hP:∀ q∈(ns.getD to.toNat default).1,q.1∈fZ ns0:=fun q hq=>by
   have:aA (ns.getD to.toNat default)=aA (ns0.getD to.toNat default):=R.ports (by omega)
   refine II (i:=to.toNat) (by omega) (q:=q) ?_
   rw[← this];exact hq
  have hPl:((ns.getD to.toNat default).1.length:Int)<=100000:=by
   have:aA (ns.getD to.toNat default)=aA (ns0.getD to.toNat default):=R.ports (by omega)
   have e:(ns.getD to.toNat default).1=aA (ns0.getD to.toNat default):=this
   rw[e]
   have:=Ru (ns:=ns0) (i:=to.toNat) (by omega)
   omega
  generalize eP:(ns.getD to.toNat default).1=P at hP hPl ⊢
  refine⟨t0,ht,⟨0,ns,⟨by omega,by omega,rfl⟩,(by repeat' first|exact trivial|refine⟨trivial,?_⟩|refine⟨(by with_reducible rfl),?_⟩|refine⟨ai (by omega) (by omega),?_⟩|refine⟨rfl,?_⟩)⟩,?_⟩
  rintro i ns1 ⟨i0,i1,hn1⟩
  have R1:RI ls (fZ ns0) ns0 ns1:=by
   rw[hn1];exact R.stepPs hg w0 w1 fun q hq=>hP q (List.mem_of_mem_take hq)
  refine ae (fun hi=>?_) (fun hi=>?_)
  rotate_left
  ·have hi:=of_decide_eq_false hi
   refine⟨to+1,ns1,cs',⟨by omega,by omega,?_⟩,by omega,(by repeat' first|exact trivial|refine⟨trivial,?_⟩|refine⟨(by with_reducible rfl),?_⟩|refine⟨ai (by omega) (by omega),?_⟩|refine⟨rfl,?_⟩)⟩
   rw[show (to+1).toNat=to.toNat+1 by omega,List.range_succ,List.foldl_append,← hF,List.foldl_cons,List.foldl_nil,stepT]
   dsimp only
   rw[← hW,hn,show ((to.toNat:Nat):Int)=to by omega,eD,hn1,List.take_of_length_le (by omega),← eP]
   rfl
  have hi:=of_decide_eq_true hi
  have hq:=hP _ (bL i0 hi)
  generalize eq:(P.getD i.toNat default).1=q at hq ⊢
  refine⟨i0,hi,⟨0,ns1,⟨by omega,by omega,rfl⟩,(by repeat' first|exact trivial|refine⟨trivial,?_⟩|refine⟨(by with_reducible rfl),?_⟩|refine⟨ai (by omega) (by omega),?_⟩|refine⟨rfl,?_⟩)⟩,?_⟩
  rintro k ns2 ⟨k0,kl,hn2⟩
  have R2:RI ls (fZ ns0) ns0 ns2:=by
   rw[hn2];exact R1.stepKs (p:=(q,32)) hg rfl hq w0 w1 (by omega)
  refine ae (fun hk=>?_) (fun hk=>?_)
  rotate_left
  ·have hk:=of_decide_eq_false hk
   refine⟨i+1,ns2,⟨by omega,by omega,?_⟩,by omega,(by repeat' first|exact trivial|refine⟨trivial,?_⟩|refine⟨(by with_reducible rfl),?_⟩|refine⟨ai (by omega) (by omega),?_⟩|refine⟨rfl,?_⟩)⟩
   rw[r9 i0 hi,List.foldl_append,← hn1,List.foldl_cons,List.foldl_nil,stepP,hn2,eq,show k.toNat=ls.length by omega]
  have hk:=of_decide_eq_true hk
  have hh:=hg.at' (k:=k.toNat) (by omega)
  have la:=IU (ls:=ls) (k:=k.toNat) (by omega)
  have lb:=Os (ls:=ls) (k:=k.toNat) (by omega)
  rw[show ((k.toNat:Nat):Int)=k by omega] at la lb
  refine⟨k0,hk,⟨0,ns2,⟨by omega,by omega,rfl⟩,(by repeat' first|exact trivial|refine⟨trivial,?_⟩|refine⟨(by with_reducible rfl),?_⟩|refine⟨ai (by omega) (by omega),?_⟩|refine⟨rfl,?_⟩)⟩,?_⟩
  rintro e ns3 ⟨e0,el,hn3⟩
  refine ae (fun he=>?_) (fun he=>?_)
  rotate_left
  ·have he:=of_decide_eq_false he
   have he:e=2:=by omega
   subst he
   refine⟨k+1,ns3,⟨by omega,by omega,?_⟩,by omega,(by repeat' first|exact trivial|refine⟨trivial,?_⟩|refine⟨(by with_reducible rfl),?_⟩|refine⟨ai (by omega) (by omega),?_⟩|refine⟨rfl,?_⟩)⟩
   rw[show (k+1).toNat=k.toNat+1 by omega,List.range_succ,List.foldl_append,← hn2,List.foldl_cons,List.foldl_nil,stepK,hn3,lT,if_neg (by omega),if_neg (by omega),show ((k.toNat:Nat):Int)=k by omega]
  have he:=of_decide_eq_true he
  obtain⟨u,v,hL,hS,hu,hv,hk',R3⟩:∃ u v,([((ls.getD k.toNat default).1,(ls.getD k.toNat default).2.1),((ls.getD k.toNat default).2.1,(ls.getD k.toNat default).1)]:List (Int×Int)).getD e.toNat default=(u,v) ∧
    lT D to (q,32) plain k way ns2 (ls.getD k.toNat default) (e+1)=ou D to (q,32) plain k way ns3 u v/\(0<=u/\u<ns0.length)/\(0<=v/\v<ns0.length)/\lnk ls u k/\RI ls (fZ ns0) ns0 ns3:=by
   rcases (show e=0∨e=1 by omega) with rfl|rfl
   ·refine⟨_,_,rfl,?_,hh.1,hh.2,la,?_⟩
    ·rw[hn3,lT,lT,if_neg (by omega),if_pos (by omega),if_pos rfl];rfl
    ·rw[hn3,lT,if_pos rfl];exact R2
   ·refine⟨_,_,rfl,?_,hh.2,hh.1,lb,?_⟩
    ·rw[hn3,lT,lT,if_neg (by omega),if_neg (by omega),if_neg (by omega),if_pos rfl];rfl
    ·rw[hn3,lT,if_neg (by omega),if_pos rfl]
     exact R2.step (p:=(q,32)) hh.1.1 hh.1.2 rfl hq la w0 w1
  have hn3':=R3.n
  simp only[hL,hn3',hD.1]
  have dv:=hD.2 _ (bL hv.1 (show v<D.length by rw[hD.1];exact hv.2))
  rw[ai (n:=D.getD v.toNat default+1) (by omega) (by omega)]
  have pr:=R3.pre ha h2 hu.1 hu.2
  refine⟨e0,by simp only[List.length_cons,List.length_nil];omega,hu.1,hu.2,hv.1,hv.2,?_⟩
  intro b hb
  refine⟨by simp,by simp,by simp,?_⟩
  intro b1 hb1
  refine⟨by simp,by simp,by simp,by simp,by simp,fun h=>⟨fun _=>h,fun _=>h,hv.1,hv.2,trivial⟩,by simp,by simp,fun h=>⟨fun _=>h,fun h1=>by simp only[h,h1];rfl,trivial⟩,fun h=>by rw[h];rfl,?_⟩
  refine qp (fun ho=>?_) (fun ho1 ho2=>?_)
  ·refine⟨e+1,ns3,⟨by omega,by omega,?_⟩,by omega,(by repeat' first|exact trivial|refine⟨trivial,?_⟩|refine⟨(by with_reducible rfl),?_⟩|refine⟨ai (by omega) (by omega),?_⟩|refine⟨rfl,?_⟩)⟩
   rw[hS,ou,if_pos]
   rcases ho with ho|ho
   ·rw[hb] at ho;exact .inl (gC ho)
   ·rcases b1 with _|_
    ·cases ho
    ·exact .inr ⟨gC hb1.symm,ho⟩
  have hN:¬ (D.getD u.toNat default≠D.getD v.toNat default+1∨(v≠to/\lH (ns3.getD v.toNat default)=true)):=by
   rw[hb] at ho1
   rintro (h|⟨h,h'⟩)
   ·exact h (hT ho1)
   ·rw[hb1,decide_eq_false h] at ho2
    rw[show lH (ns3.getD v.toNat default)=(ns3.getD v.toNat default).2.2.2.1 from rfl] at h'
    rw[h'] at ho2;cases ho2
  intro b2 hb2
  subst hb2
  refine⟨by simp,by simp,by simp,by simp,by simp,fun h=>⟨fun _=>h,fun _=>h,hu.1,hu.2,trivial⟩,by simp,by simp,fun h=>⟨fun _=>h,fun _=>h,pr.2.2.1,trivial⟩,fun h=>h,?_⟩
  refine r8 (fun ha1 ha2=>?_) (fun hna=>?_)
  ·refine⟨e+1,ns3,⟨by omega,by omega,?_⟩,by omega,(by repeat' first|exact trivial|refine⟨trivial,?_⟩|refine⟨(by with_reducible rfl),?_⟩|refine⟨ai (by omega) (by omega),?_⟩|refine⟨rfl,?_⟩)⟩
   rw[hS,ou,if_neg hN,if_pos ⟨ha1,ha2⟩]
  ·refine⟨pr.1,pr.2.1,pr.2.2.1,pr.2.2.2,e+1,_,⟨by omega,by omega,?_⟩,by omega,(by repeat' first|exact trivial|refine⟨trivial,?_⟩|refine⟨(by with_reducible rfl),?_⟩|refine⟨ai (by omega) (by omega),?_⟩|refine⟨rfl,?_⟩)⟩
   rw[hS,ou,if_neg hN,if_neg]
   rintro⟨x1,x2⟩
   rcases hna with h|h
   ·rw[h] at x1;cases x1
   ·rw[show aQ (ns3.getD u.toNat default)=(ns3.getD u.toNat default).2.2.2.2.1 from rfl,h] at x2;cases x2
theorem UV:ax Tryz.prog GL 50 Oz.spec:=Ct.okH _ Tryz.func50 (by kernel_rfl) (ah (ah (ah (ah aD an0) vO) Ve) WY) av ar3 (aC (by kernel_rfl) Sr)
structure preO (s:aO):Prop where
 c:ay s.2
 n0:0<s.1.1.length
 n:(s.1.1.length:Int)<=1000
 l:(s.1.2.1.length:Int)<=1000
 g:fO s.1.1.length s.1.2.1
 h:s.1.2.2=[]
 a:((fZ s.1.1).length:Int)<=100000
 p:∀ x∈s.1.1,aQ x≠[]->0<(aA x).length/\(aA x).length<=1000/\(aQ x).length<=100000
def oN(s:aO)(i:Int):List ac×aI:=(List.range i.toNat).foldl tO (s.1.1,s.2)
def oL(s:aO)(i:Int):(List ac×List aE)×aI:=(List.range i.toNat).foldl qq (((oN s s.1.1.length).1,s.1.2.1),(oN s s.1.1.length).2)
def oC(s:aO)(i:Nat):List aM×Int×aI:=(List.range i).foldl (fun c _=>mS (oL s s.1.2.1.length).1.1 c) ([],0,(aj (oL s s.1.2.1.length).2 4).2)
def oK(s:aO):Int:=(aj (oL s s.1.2.1.length).2 4).1
structure AG (ns0 ns:List ac):Prop where
 n:ns.length=ns0.length
 e:∀ i:Nat,i<ns0.length->aA (ns.getD i default)=aA (ns0.getD i default)/\aQ (ns.getD i default)=aQ (ns0.getD i default)
theorem AG.set{ns0 ns:List ac}(h:AG ns0 ns){i:Nat}(hi:i<ns0.length){x:ac}(hx:aA x=aA (ns.getD i default)/\aQ x=aQ (ns.getD i default)):AG ns0 (ns.set i x):=by
 refine⟨by rw[List.length_set];exact h.n,fun j hj=>?_⟩
 by_cases e:i=j
 ·subst e
  rw[iA (by rw[h.n];exact hi)]
  exact⟨hx.1.trans (h.e _ hj).1,hx.2.trans (h.e _ hj).2⟩
 ·rw[kJ e];exact h.e _ hj
theorem Yn(x:ac)(i:Int)(c:aI):aA (fE x i c).1=aA x/\aQ (fE x i c).1=aQ x:=by
 unfold fE
 dsimp only
 repeat' split
 all_goals exact⟨rfl,rfl⟩
theorem Gw{x:ac}{i:Int}{c:aI}(h:bS c):bS (fE x i c).2:=by
 unfold fE
 dsimp only
 repeat' split
 all_goals first|exact (bZ h _).1|exact (bZ (bZ h _).1 _).1|exact (bZ (bZ (bZ h _).1 _).1 _).1
theorem S0(x:ac)(i:Int)(c:aI):aA (tp x i c).1=aA x/\aQ (tp x i c).1=aQ x:=Yn x i c
theorem RA{x:ac}{i:Int}{c:aI}(h:bS c):bS (tp x i c).2:=by
 have k:=Gw (x:=x) (i:=i) h
 exact (bZ (bZ (bZ k _).1 _).1 _).1
theorem B1(s:aO)(h:bS s.2){i:Int}(hi:i<=s.1.1.length):AG s.1.1 (oN s i).1/\bS (oN s i).2:=by
 refine vC (fun c:List ac×aI=>AG s.1.1 c.1/\bS c.2) _ ⟨⟨rfl,fun _ _=>⟨rfl,rfl⟩⟩,h⟩ fun k hk c hc=>?_
 have hk:=List.mem_range.1 hk
 exact⟨hc.1.set (by omega) (S0 _ _ _),RA hc.2⟩
theorem OM(s:aO){i:Int}(h0:0<=i):oN s (i+1)=tO (oN s i) i.toNat:=by
 unfold oN
 rw[show (i+1).toNat=i.toNat+1 by omega,List.range_succ,List.foldl_append];rfl
theorem Ls(l:aE)(c:aI):lA (odLink l c).1=lA l/\lB (odLink l c).1=lB l:=by
 unfold odLink
 dsimp only
 repeat' split
 all_goals exact⟨rfl,rfl⟩
theorem Tl{l:aE}{c:aI}(h:bS c):bS (odLink l c).2:=by
 unfold odLink
 dsimp only
 repeat' split
 all_goals first|exact (bZ h _).1|exact (bZ (bZ h _).1 _).1
theorem fO.set{n:Nat}{ls:List aE}(h:fO n ls){x:aE}(hx:0<=x.1/\x.1<n/\0<=x.2.1/\x.2.1<n)(i:Nat):fO n (ls.set i x):=fun y hy=>by
 rcases List.mem_or_eq_of_mem_set hy with hy|rfl
 ·exact h y hy
 ·exact hx
theorem fO.odLink{n:Nat}{ls:List aE}(h:fO n ls){i:Nat}(hi:i<ls.length)(c:aI):fO n (ls.set i (odLink (ls.getD i default) c).1):=by
 have k:=Ls (ls.getD i default) c
 have g:=h.at' hi
 refine h.set ?_ i
 show 0<=lA _/\lA _<_/\0<=lB _/\lB _<_
 rw[k.1,k.2]
 exact⟨g.1.1,g.1.2,g.2.1,g.2.2⟩
theorem YH{ns0 ns:List ac}(h:AG ns0 ns){l:aE}(hl:0<=lB l/\lB l<ns0.length):AG ns0 (oY ns l):=by
 unfold oY
 split
 ·exact h.set (by omega) ⟨rfl,rfl⟩
 ·exact h
theorem tw(s:aO)(h:bS s.2)(hg:fO s.1.1.length s.1.2.1){i:Int}(hi:i<=s.1.2.1.length) :
  AG s.1.1 (oL s i).1.1/\bS (oL s i).2/\fO s.1.1.length (oL s i).1.2/\(oL s i).1.2.length=s.1.2.1.length:=by
 have b:=B1 s h (i:=s.1.1.length) (by omega)
 refine vC (fun c:(List ac×List aE)×aI=>AG s.1.1 c.1.1/\bS c.2/\fO s.1.1.length c.1.2/\c.1.2.length=s.1.2.1.length) _ ⟨b.1,b.2,hg,rfl⟩ fun k hk c hc=>?_
 have hk:=List.mem_range.1 hk
 obtain⟨c1,c2,c3,c4⟩:=hc
 have hk2:k<c.1.2.length:=by omega
 have g:=c3.at' hk2
 have e:=Ls (c.1.2.getD k default) c.2
 refine⟨YH c1 ?_,Tl c2,c3.odLink hk2 _,by simp only[qq,List.length_set];exact c4⟩
 rw[e.2];exact g.2
theorem On(s:aO){i:Int}(h0:0<=i):oL s (i+1)=qq (oL s i) i.toNat:=by
 unfold oL
 rw[show (i+1).toNat=i.toNat+1 by omega,List.range_succ,List.foldl_append];rfl
theorem FF(s:aO)(i:Nat):oC s (i+1)=mS (oL s s.1.2.1.length).1.1 (oC s i):=by
 unfold oC
 rw[List.range_succ,List.foldl_append];rfl
theorem as1{ns:List ac}{s:List aM×Int×aI}(h:bS s.2.2):bS (mS ns s).2.2/\s.2.1<=(mS ns s).2.1/\(mS ns s).2.1<=s.2.1+60/\(mS ns s).1.length<=s.1.length+1:=by
 have a:=cW h (n:=60) (by omega)
 have k1:=(bZ h 60).1
 have k2:=(bZ k1 ns.length).1
 unfold mS
 dsimp only
 split
 ·exact⟨k2,by dsimp only;omega,by dsimp only;omega,by dsimp only;omega⟩
 ·exact⟨(bZ (bZ (bZ k2 _).1 _).1 _).1,by dsimp only;omega,by dsimp only;omega,by simp only[List.length_append,List.length_cons,List.length_nil];omega⟩
theorem C7(s:aO)(h:bS s.2)(hg:fO s.1.1.length s.1.2.1):∀ i:Nat,bS (oC s i).2.2/\0<=(oC s i).2.1/\(oC s i).2.1<=60*i/\(oC s i).1.length<=i
 | 0=>⟨(bZ (tw s h hg (Int.le_refl _)).2.1 4).1,Int.le_refl _,Int.le_refl _,Nat.le_refl _⟩
 | i+1=>by
  have k:=C7 s h hg i
  have m:=as1 (ns:=(oL s s.1.2.1.length).1.1) k.1
  rw[FF]
  exact⟨m.1,by omega,by omega,by omega⟩
def IH:Ct:=⟨[.box 119 vv],[],fun d=>[preO d.1],fun d=>((),(ma d.1,()))⟩
def al5:ar IH.ps->az:=(fun d=>{loops:=(fun n=>match n with|2=>some (fun S=>{ι:=Int×(List ac)×aI,qn:=⟨fun k_=>∀(i:Int)(ns:(List ac))(cs:aI),k_ (i,ns,cs),fun k_ h_ i=>h_ i.1 i.2.1 i.2.2,fun k_=>∃ (i:Int) (ns:(List ac)) (cs:aI),k_ (i,ns,cs),fun k_ ⟨i,ns,cs,h_⟩=>⟨_,h_⟩⟩,μ:=fun i=>(d.1.1.1.length-i.1).toNat,inv:=fun i=>0<=i.1/\i.1<=d.1.1.1.length/\(i.2.1,i.2.2)=oN d.1 i.1,keep:=[0,2],slots:=fun i=>[(3,.int .i64 i.1)],keepN:=[1048576,2097153,2097154],names:=fun i=>[(2097152,.live (.row 107 bH i.2.1)),(1048577,.live (.cells 109 (cB f8 i.2.2)))]})|20=>some (fun S=>{ι:=Int×(List ac)×(List aE)×aI,qn:=⟨fun k_=>∀(i:Int)(ns:(List ac))(ls:(List aE))(cs:aI),k_ (i,ns,ls,cs),fun k_ h_ i=>h_ i.1 i.2.1 i.2.2.1 i.2.2.2,fun k_=>∃ (i:Int) (ns:(List ac)) (ls:(List aE)) (cs:aI),k_ (i,ns,ls,cs),fun k_ ⟨i,ns,ls,cs,h_⟩=>⟨_,h_⟩⟩,μ:=fun i=>(d.1.1.2.1.length-i.1).toNat,inv:=fun i=>0<=i.1/\i.1<=d.1.1.2.1.length/\((i.2.1,i.2.2.1),i.2.2.2)=oL d.1 i.1,keep:=[0,2],slots:=fun i=>[(5,.int .i64 i.1)],keepN:=[1048576,2097154],names:=fun i=>[(2097152,.live (.row 107 bH i.2.1)),(2097153,.live (.row 99 fB i.2.2.1)),(1048577,.live (.cells 109 (cB f8 i.2.2.2)))]})|32=>some (fun S=>{ι:=Int×Int×(List aM)×aI,qn:=⟨fun k_=>∀(k:Int)(a:Int)(hs:(List aM))(cs:aI),k_ (k,a,hs,cs),fun k_ h_ i=>h_ i.1 i.2.1 i.2.2.1 i.2.2.2,fun k_=>∃ (k:Int) (a:Int) (hs:(List aM)) (cs:aI),k_ (k,a,hs,cs),fun k_ ⟨k,a,hs,cs,h_⟩=>⟨_,h_⟩⟩,μ:=fun i=>i.1.toNat,inv:=fun i=>0<=i.1/\i.1<=oK d.1/\(i.2.2.1,i.2.1,i.2.2.2)=oC d.1 (oK d.1-i.1).toNat,keep:=[0,2],slots:=fun i=>[(8,.int .i64 i.1),(7,.int .i64 i.2.1)],keepN:=[2097152,2097153],names:=fun i=>[(1048576,.live (.cells 119 [.own 2097152 16,.own 2097153 6,.own 524288 7,.ptr 1048577 0])),(524288,.live (.row 129 d8 i.2.2.1)),(1048577,.live (.cells 109 (cB f8 i.2.2.2)))]})|_=>none),cuts:=(fun n=>match n with|18=>some (fun S=>{ι:=(List ac)×aI,qn:=⟨fun k_=>∀(ns:(List ac))(cs:aI),k_ (ns,cs),fun k_ h_ i=>h_ i.1 i.2,fun k_=>∃ (ns:(List ac)) (cs:aI),k_ (ns,cs),fun k_ ⟨ns,cs,h_⟩=>⟨_,h_⟩⟩,inv:=fun i=>i.1=(oN d.1 (S.i 3)).1.set (S.i 3).toNat (fE ((oN d.1 (S.i 3)).1.getD (S.i 3).toNat default) (S.i 3) (oN d.1 (S.i 3)).2).1/\i.2=(fE ((oN d.1 (S.i 3)).1.getD (S.i 3).toNat default) (S.i 3) (oN d.1 (S.i 3)).2).2,keep:=[0,2,3,4],slots:=fun i=>[],keepN:=[1048576,2097153,2097154],names:=fun i=>[(2097152,.live (.row 107 bH i.1)),(1048577,.live (.cells 109 (cB f8 i.2)))]})|28=>some (fun S=>{ι:=(List aE)×aI,qn:=⟨fun k_=>∀(ls:(List aE))(cs:aI),k_ (ls,cs),fun k_ h_ i=>h_ i.1 i.2,fun k_=>∃ (ls:(List aE)) (cs:aI),k_ (ls,cs),fun k_ ⟨ls,cs,h_⟩=>⟨_,h_⟩⟩,inv:=fun i=>i.1=(oL d.1 (S.i 5)).1.2.set (S.i 5).toNat (odLink ((oL d.1 (S.i 5)).1.2.getD (S.i 5).toNat default) (oL d.1 (S.i 5)).2).1/\i.2=(odLink ((oL d.1 (S.i 5)).1.2.getD (S.i 5).toNat default) (oL d.1 (S.i 5)).2).2,keep:=[0,2,5,6],slots:=fun i=>[],keepN:=[1048576,2097152,2097154],names:=fun i=>[(2097153,.live (.row 99 fB i.1)),(1048577,.live (.cells 109 (cB f8 i.2)))]})|_=>none)})
def C9(f:Int)(i:List ac)(j:aI) :=
 List.set i f.toNat ((i.getD f.toNat default).1,(i.getD f.toNat default).2.1,(i.getD f.toNat default).2.2.1,(i.getD f.toNat default).2.2.2.1,(i.getD f.toNat default).2.2.2.2.1,(i.getD f.toNat default).2.2.2.2.2.1,(i.getD f.toNat default).2.2.2.2.2.2.1,(aj j 6).1,(i.getD f.toNat default).2.2.2.2.2.2.2.2)
def qt(f:Int)(i:List ac)(j:aI) :=
 List.getD (C9 f i j) f.toNat default
def BS(f:Int)(i:List ac)(j:aI) :=
 List.set (C9 f i j) f.toNat ((qt f i j).1,(qt f i j).2.1,(qt f i j).2.2.1,(qt f i j).2.2.2.1,(qt f i j).2.2.2.2.1,(qt f i j).2.2.2.2.2.1,(qt f i j).2.2.2.2.2.2.1,(qt f i j).2.2.2.2.2.2.2.1,(aj (aj j 6).2 (65536:Int)).1,(qt f i j).2.2.2.2.2.2.2.2.2)
def oR(j:List ac)(p:aI) :=
 aj (aj p 60).2 (j.length:Int)
def sE(j:List ac)(p:aI) :=
 j.getD (Int.toNat (oR j p).1) default
def uT(j:List ac)(p:aI) :=
 aj (oR j p).2 ((List.length (sE j p).2.2.2.2.1):Int)
def ct(f:Int)(g:List ac) :=
 g.getD f.toNat default
def Dg(f:Int)(g:List ac)(h:aI) :=
 List.set g f.toNat ((ct f g).1,(ct f g).2.1,(ct f g).2.2.1,(ct f g).2.2.2.1,(ct f g).2.2.2.2.1,(ct f g).2.2.2.2.2.1,IntKind.wrap .u32 ((167837696:Int)+(aj (aj h 10).2 (40:Int)).1),(ct f g).2.2.2.2.2.2.2)
def tm(a:List ac)(b:List aE)(c:List aM)(d:List Int)(e f:Int) :=
 fE (List.getD (oN ((a,b,c),d,e) f).1 f.toNat default) f (oN ((a,b,c),d,e) f).2
def tV(f:Int)(g:List ac) :=
 List.getD (List.set g f.toNat ((ct f g).1,IntKind.wrap .u32 (IntKind.wrap .i64 ((167903232:Int)+f)),(ct f g).2.2)) f.toNat default
def pN(i:Int)(m:List aE) :=
 m.getD i.toNat default
def lz(i:Int)(j:List ac)(m:List aE) :=
 j.getD (Int.toNat (pN i m).2.1) default
def qW(a:List ac)(b:List aE)(c:List aM)(d:List Int)(e i:Int) :=
 odLink (List.getD (oL ((a,b,c),d,e) i).1.2 i.toNat default) (oL ((a,b,c),d,e) i).2
def pe(j:List ac)(p:aI) :=
 aj (uT j p).2 ((List.length (sE j p).1):Int)
def tv(j:List ac)(p:aI) :=
 List.getD (sE j p).2.2.2.2.1 (Int.toNat (uT j p).1) default
def tx(a:List ac)(b:List aE)(c:List aM)(d:List Int)(e f:Int)(i:List ac)(j:aI) :=
 i=List.set (oN ((a,b,c),d,e) f).1 f.toNat (tm a b c d e f).1/\j=(tm a b c d e f).2
def oJ(f:Int)(i:List ac)(j:aI) :=
 List.getD (BS f i j) f.toNat default
def EF(j:List ac)(n:Int)(p:aI) :=
 (IntKind.wrap .i64 (n+(aj p 60).1),(oR j p).1,false,(tv j p).1,[(List.getD (sE j p).1 (Int.toNat (pe j p).1) default).2],(tv j p).2.2)
def w8(h j:aI) :=
 (aj h 10).2.1=j.1/\(aj h 10).2.2=j.2/\True
def ua(f:Int)(g:List ac)(h:aI) :=
 List.getD (Dg f g h) f.toNat default
def zx(j:aI) :=
 aj (aj (aj j 6).2 (65536:Int)).2 (1000:Int)
def pB(i:Int)(k:List aE) :=
 k.getD i.toNat default
def vR(h:aI) :=
 aj (aj h 10).2 (3:Int)
def vn(l:aI) :=
 aj (aj l 6).2 (3:Int)
theorem Ts :
 ∀(a:List ac)(b:List aE)(c:List aM)(d:List Int)(e:Int),(((a.length<=maxLen/\ ∀(f:ac),f∈a->CT.wf bH f)/\(b.length<=maxLen/\ ∀(f:aE),f∈b->CT.wf fB f)/\c.length<=maxLen/\ ∀(f:aM),f∈c->CT.wf d8 f)/\(d.length<=maxLen/\ ∀(f:Int),f∈d->0<=f/\f<=255)/\ab e)/\True->preO ((a,b,c),d,e)->(∃(f:Int) (g:List ac),∃(h:aI),(0<=f/\f<=(dL a)/\(g,h)=oN ((a,b,c),d,e) f)/\(0:Int)=f/\b=b/\c=c/\a=g/\d=h.1/\e=h.2/\True)/\ ∀(f:Int)(g:List ac)(h:aI),0<=f/\f<=(dL a)/\(g,h)=oN ((a,b,c),d,e) f->ad (decide (f<(g.length:Int))) (0<=f/\f<(g.length:Int)/\(ay h/\ad (decide ((aj h 10).1=1)) (∃(i:List ac) (j:aI),(tx a b c d e f i j)/\f=f/\f.toNat=f.toNat/\b=b/\c=c/\List.set g f.toNat ((ct f g).1,(ct f g).2.1,(ct f g).2.2.1,(ct f g).2.2.2.1,(ct f g).2.2.2.2.1,(ct f g).2.2.2.2.2.1,(ct f g).2.2.2.2.2.2.1,(ct f g).2.2.2.2.2.2.2.1,(ct f
 g).2.2.2.2.2.2.2.2.1,(ct f g).2.2.2.2.2.2.2.2.2.1,(ct f g).2.2.2.2.2.2.2.2.2.2.1,true,(ct f g).2.2.2.2.2.2.2.2.2.2.2.2)=i/\(w8 h j)) (ad (decide ((aj h 10).1=2)) (ay (aj h 10).2/\ay (vR h).2/\ ∃(i:List ac) (j:aI),(tx a b c d e f i j)/\f=f/\f.toNat=f.toNat/\b=b/\c=c/\List.set g f.toNat ((ct f g).1,(ct f g).2.1,(ct f g).2.2.1,(ct f g).2.2.2.1,(ct f g).2.2.2.2.1,(ct f g).2.2.2.2.2.1,(ct f g).2.2.2.2.2.2.1,(ct f g).2.2.2.2.2.2.2.1,(ct f g).2.2.2.2.2.2.2.2.1,(ct f g).2.2.2.2.2.2.2.2.2.1,(IntKind.wrap .i64 ((1:Int)+(vR h).1),IntKind.wrap .i64 ((1:Int)+(aj (vR h).2 (200:Int)).1)),(ct f g).2.2.2.2.2.2.2.2.2.2.2)=i/\(aj (vR h).2 (200:Int)).2.1=j.1/\(aj (vR h).2 (200:Int)).2.2=j.2/\True) (ad (decide ((aj h 10).1=3)) (∀(i:Bool),i= ! (ct f
 g).2.2.2.1->(i->(i->i)/\(2:Int)≠(0:Int)/\True)/\(i->(i->i)/\True)/\(i->i)/\ ∃(j:List ac) (k:aI),(j=List.set (oN ((a,b,c),d,e) f).1 f.toNat (tm a b c d e f).1/\k=(tm a b c d e f).2)/\f=f/\f.toNat=f.toNat/\b=b/\c=c/\List.set g f.toNat ((ct f g).1,(ct f g).2.1,(ct f g).2.2.1,(ct f g).2.2.2.1,(ct f g).2.2.2.2.1,(ct f g).2.2.2.2.2.1,(ct f g).2.2.2.2.2.2.1,(ct f g).2.2.2.2.2.2.2.1,(ct f g).2.2.2.2.2.2.2.2.1,(ct f g).2.2.2.2.2.2.2.2.2.1,(ct f g).2.2.2.2.2.2.2.2.2.2.1,(ct f g).2.2.2.2.2.2.2.2.2.2.2.1,bif i then decide (Int.tmod f (2:Int)=1) else false,(ct f g).2.2.2.2.2.2.2.2.2.2.2.2.2)=j/\(aj h 10).2.1=k.1/\(aj h 10).2.2=k.2/\True) (ad (decide ((aj h 10).1=4)) (∃(i:List ac) (j:aI),(tx a b c d e f i j)/\f=f/\f.toNat=f.toNat/\b=b/\c=c/\List.set g f.toNat ((ct f g).1,(ct f g).2.1,(ct f g).2.2.1,(ct f g).2.2.2.1,(ct f
 g).2.2.2.2.1,(2:Int),(ct f g).2.2.2.2.2.2)=i/\(w8 h j)) (ad (decide ((aj h 10).1=5)) (∃(i:List ac) (j:aI),(tx a b c d e f i j)/\f=f/\f.toNat=f.toNat/\b=b/\c=c/\List.set (List.set g f.toNat ((ct f g).1,IntKind.wrap .u32 (IntKind.wrap .i64 ((167903232:Int)+f)),(ct f g).2.2)) f.toNat ((tV f g).1,(tV f g).2.1,(tV f g).2.2.1,(tV f g).2.2.2.1,(tV f g).2.2.2.2.1,(3:Int),(tV f g).2.2.2.2.2.2)=i/\(w8 h j)) (ad (decide ((aj h 10).1=6)) (ay (aj h 10).2/\ ∃(i:List ac) (j:aI),(tx a b c d e f i j)/\f=f/\f.toNat=f.toNat/\b=b/\c=c/\List.set (Dg f g h) f.toNat ((ua f g h).1,(ua f g h).2.1,(ua f g h).2.2.1,(ua f g h).2.2.2.1,(ua f g h).2.2.2.2.1,(4:Int),(ua f g h).2.2.2.2.2.2)=i/\(aj (aj h 10).2 (40:Int)).2.1=j.1/\(aj (aj h 10).2 (40:Int)).2.2=j.2/\True) (∃(i:List ac) (j:aI),(tx a b c d e f i
 j)/\f=f/\f.toNat=f.toNat/\b=b/\c=c/\g=i/\(w8 h j))))))))/\ ∀(i:List ac)(j:aI),i=List.set (oN ((a,b,c),d,e) f).1 f.toNat (tm a b c d e f).1/\j=(tm a b c d e f).2->ay j/\ay (aj j 6).2/\ay (aj (aj j 6).2 (65536:Int)).2/\ ∃(k:Int) (l:List ac),∃(m:aI),(0<=k/\k<=(dL a)/\(l,m)=oN ((a,b,c),d,e) k)/\Int.toNat ((dL a) -k)<Int.toNat ((dL a) -f)/\IntKind.wrap .i64 (f+(1:Int))=k/\b=b/\c=c/\List.set (BS f i j) f.toNat ((oJ f i j).1,(oJ f i j).2.1,(oJ f i j).2.2.1,(oJ f i j).2.2.2.1,(oJ f i j).2.2.2.2.1,(oJ f i j).2.2.2.2.2.1,(oJ f i j).2.2.2.2.2.2.1,(oJ f i j).2.2.2.2.2.2.2.1,(oJ f i j).2.2.2.2.2.2.2.2.1,(zx j).1,(oJ f i j).2.2.2.2.2.2.2.2.2.2)=l/\(zx j).2.1=m.1/\(zx j).2.2=m.2/\True) ((∃(i:Int) (j:List ac),∃(k:List aE) (l:aI),(0<=i/\i<=(dA b)/\((j,k),l)=oL ((a,b,c),d,e)
 i)/\(0:Int)=i/\c=c/\g=j/\b=k/\h.1=l.1/\h.2=l.2/\True)/\ ∀(i:Int)(j:List ac)(k:List aE)(l:aI),0<=i/\i<=(dA b)/\((j,k),l)=oL ((a,b,c),d,e) i->ad (decide (i<(k.length:Int))) (0<=i/\i<(k.length:Int)/\(ay l/\ad (decide ((aj l 6).1=1)) (ay (aj l 6).2/\ ∃(m:List aE) (n:aI),(m=List.set (oL ((a,b,c),d,e) i).1.2 i.toNat (qW a b c d e i).1/\n=(qW a b c d e i).2)/\i=i/\i.toNat=i.toNat/\j=j/\c=c/\List.set k i.toNat ((pB i k).1,(pB i k).2.1,(pB i k).2.2.1,(aj (aj l 6).2 (10:Int)).1,(pB i k).2.2.2.2)=m/\(aj (aj l 6).2 (10:Int)).2.1=n.1/\(aj (aj l 6).2 (10:Int)).2.2=n.2/\True) (ad (decide ((aj l 6).1=2)) (ay (aj l 6).2/\0<=(vn l).1/\(vn l).1<((List.length [(65536:Int),(20000:Int),(3:Int)]):Int)/\ ∃(m:List aE) (n:aI),(m=List.set (oL ((a,b,c),d,e) i).1.2 i.toNat (qW a b c d e i).1/\n=(qW a b c d e
 i).2)/\i=i/\i.toNat=i.toNat/\j=j/\c=c/\List.set k i.toNat ((pB i k).1,(pB i k).2.1,(pB i k).2.2.1,(pB i k).2.2.2.1,List.getD [(65536:Int),(20000:Int),(3:Int)] (Int.toNat (vn l).1) default,(pB i k).2.2.2.2.2)=m/\(vn l).2.1=n.1/\(vn l).2.2=n.2/\True) (∃(m:List aE) (n:aI),(m=List.set (oL ((a,b,c),d,e) i).1.2 i.toNat (qW a b c d e i).1/\n=(qW a b c d e i).2)/\i=i/\i.toNat=i.toNat/\j=j/\c=c/\k=m/\(aj l 6).2.1=n.1/\(aj l 6).2.2=n.2/\True)))/\ ∀(m:List aE)(n:aI),m=List.set (oL ((a,b,c),d,e) i).1.2 i.toNat (qW a b c d e i).1/\n=(qW a b c d e i).2->0<=(pN i m).1/\(pN i m).1<(j.length:Int)/\ ∀(o:Bool),o=(j.getD (Int.toNat (pN i m).1) default).2.2.2.2.2.2.2.2.2.2.2.2.1->(o->(o->o)/\True)/\(o->(o->o)/\True)/\(o->(o->o)/\True)/\(o->(o->o)/\True)/\(o->(o->o)/\True)/\(o->(o->o)/\True)/\(o->(o->o)/\True)/\(o->(o->o)/\(o->o)/\0<=(pN i
 m).2.1/\(pN i m).2.1<(j.length:Int)/\True)/\(o->(o->o)/\True)/\(o->(o->o)/\True)/\(o->o)/\ad (bif o then (lz i j m).2.2.2.2.2.2.2.2.2.2.2.2.1 else false) (0<=(pN i m).2.1/\(pN i m).2.1<(j.length:Int)/\ ∃(p:Int) (q:List ac),∃(r:List aE) (s:aI),(0<=p/\p<=(dA b)/\((q,r),s)=oL ((a,b,c),d,e) p)/\Int.toNat ((dA b) -p)<Int.toNat ((dA b) -i)/\IntKind.wrap .i64 (i+(1:Int))=p/\c=c/\List.set j (Int.toNat (pN i m).2.1) ((lz i j m).1,(lz i j m).2.1,(lz i j m).2.2.1,(lz i j m).2.2.2.1,(lz i j m).2.2.2.2.1,(lz i j m).2.2.2.2.2.1,(lz i j m).2.2.2.2.2.2.1,(lz i j m).2.2.2.2.2.2.2.1,(lz i j m).2.2.2.2.2.2.2.2.1,(lz i j m).2.2.2.2.2.2.2.2.2.1,(lz i j m).2.2.2.2.2.2.2.2.2.2.1,(lz i j m).2.2.2.2.2.2.2.2.2.2.2.1,false,(lz i j m).2.2.2.2.2.2.2.2.2.2.2.2.2)=q/\m=r/\n.1=s.1/\n.2=s.2/\True) (∃(p:Int) (q:List ac),∃(r:List aE)
 (s:aI),(0<=p/\p<=(dA b)/\((q,r),s)=oL ((a,b,c),d,e) p)/\Int.toNat ((dA b) -p)<Int.toNat ((dA b) -i)/\IntKind.wrap .i64 (i+(1:Int))=p/\c=c/\j=q/\m=r/\n.1=s.1/\n.2=s.2/\True)) (ay l/\(∃(m:Int) (n:Int),∃(o:List aM) (p:aI),(0<=m/\m<=oK ((a,b,c),d,e)/\(o,n,p)=oC ((a,b,c),d,e) (Int.toNat (oK ((a,b,c),d,e) -m)))/\(0:Int)=n/\(aj l 4).1=m/\j=j/\k=k/\c=o/\(aj l 4).2.1=p.1/\(aj l 4).2.2=p.2/\True)/\ ∀(m n:Int)(o:List aM)(p:aI),0<=m/\m<=oK ((a,b,c),d,e)/\(o,n,p)=oC ((a,b,c),d,e) (Int.toNat (oK ((a,b,c),d,e) -m))->ad (decide (0<m)) (ay p/\ay (aj p 60).2/\0<=(oR j p).1/\(oR j p).1<(j.length:Int)/\ad (decide (((List.length (sE j p).2.2.2.2.1):Int)=0)) (∃(q:Int) (r:Int),∃(s:List aM) (t:aI),(0<=q/\q<=oK ((a,b,c),d,e)/\(s,r,t)=oC ((a,b,c),d,e) (Int.toNat (oK ((a,b,c),d,e) -q)))/\q.toNat<m.toNat/\IntKind.wrap .i64 (n+(aj p
 60).1)=r/\IntKind.wrap .i64 (m -(1:Int))=q/\j=j/\k=k/\o=s/\(oR j p).2.1=t.1/\(oR j p).2.2=t.2/\True) (ay (oR j p).2/\0<=(uT j p).1/\(uT j p).1<((List.length (sE j p).2.2.2.2.1):Int)/\ay (uT j p).2/\0<=(pe j p).1/\(pe j p).1<((List.length (sE j p).1):Int)/\ay (pe j p).2/\ad (decide ((aj (pe j p).2 (4:Int)).1=3)) ((o.length+List.length [(IntKind.wrap .i64 (n+(aj p 60).1),(oR j p).1,false,(tv j p).1,([]:List Int),(tv j p).2.2)])*(72:Nat)<=(mh)/\ ∃(q:Int) (r:Int),∃(s:List aM) (t:aI),(0<=q/\q<=oK ((a,b,c),d,e)/\(s,r,t)=oC ((a,b,c),d,e) (Int.toNat (oK ((a,b,c),d,e) -q)))/\q.toNat<m.toNat/\IntKind.wrap .i64 (n+(aj p 60).1)=r/\IntKind.wrap .i64 (m -(1:Int))=q/\j=j/\k=k/\o++[(IntKind.wrap .i64 (n+(aj p 60).1),(oR j p).1,false,(tv j p).1,([]:List Int),(tv j p).2.2)]=s/\(aj (pe j p).2 (4:Int)).2.1=t.1/\(aj (pe j
 p).2 (4:Int)).2.2=t.2/\True) ((o.length+List.length [(EF j n p)])*(72:Nat)<=(mh)/\ ∃(q:Int) (r:Int),∃(s:List aM) (t:aI),(0<=q/\q<=oK ((a,b,c),d,e)/\(s,r,t)=oC ((a,b,c),d,e) (Int.toNat (oK ((a,b,c),d,e) -q)))/\q.toNat<m.toNat/\IntKind.wrap .i64 (n+(aj p 60).1)=r/\IntKind.wrap .i64 (m -(1:Int))=q/\j=j/\k=k/\o++[(EF j n p)]=s/\(aj (pe j p).2 (4:Int)).2.1=t.1/\(aj (pe j p).2 (4:Int)).2.2=t.2/\True))) (((j,k,o),p)=ma ((a,b,c),d,e)))):=by
  delta BS uT C9 Dg sE tm ct tV lz qW pe tv tx oR oJ qt dA mh dL EF w8 ua zx pB vR vn pN
  rintro ns0 ls0 hs0 l p ⟨⟨⟨hnl,hnw⟩,⟨hl,hw⟩,-⟩,-⟩⟨hc,n0,h1,h2,hg,hh,ha,hp⟩
  dsimp only at hc n0 h1 h2 hg hh ha hp
  subst hh
  have hB:bS (l,p):=⟨hc,hw⟩
  generalize eS:(((ns0,ls0,[]),l,p):aO)=Z
  have z1:Z.1.1=ns0:=by rw[← eS]
  have z2:Z.1.2.1=ls0:=by rw[← eS]
  have z3:Z.2=(l,p):=by rw[← eS]
  have zB:bS Z.2:=by rw[z3];exact hB
  have zG:fO Z.1.1.length Z.1.2.1:=by rw[z1,z2];exact hg
  refine⟨⟨0,ns0,(l,p),⟨by omega,by omega,by rw[← eS];rfl⟩,(by repeat' first|exact trivial|refine⟨trivial,?_⟩|refine⟨(by with_reducible rfl),?_⟩|refine⟨ai (by omega) (by omega),?_⟩|refine⟨rfl,?_⟩)⟩,?_⟩
  rintro i ns cs ⟨i0,il,hF⟩
  obtain⟨A1,hcs⟩:=B1 Z zB (i:=i) (by rw[z1];exact il)
  rw[← hF] at A1 hcs
  dsimp only at A1 hcs
  rw[← hF]
  dsimp only
  have hn:=A1.n
  rw[z1] at hn
  refine ae (fun hi=>?_) (fun hi=>?_)
  ·have hi:=of_decide_eq_true hi
   have hi':i.toNat<ns.length:=by omega
   have k10:=(bZ hcs 10).1
   refine⟨i0,hi,⟨hcs.at',?_⟩,?_⟩
   ·simp only[List.set_set,iA hi']
    refine ae (fun c=>?_) (fun c1=>?_)
    ·have c:=of_decide_eq_true c
     refine⟨_,_,⟨?_,?_⟩,(by repeat' first|exact trivial|refine⟨trivial,?_⟩|refine⟨(by with_reducible rfl),?_⟩|refine⟨ai (by omega) (by omega),?_⟩|refine⟨rfl,?_⟩)⟩
     ·rw[fE,if_pos c];rfl
     ·rw[fE,if_pos c]
    have c1:=of_decide_eq_false c1
    refine ae (fun c=>?_) (fun c2=>?_)
    ·have c:=of_decide_eq_true c
     have k3:=cW k10 (n:=3) (by omega)
     have k11:=(bZ k10 3).1
     have k4:=cW k11 (n:=200) (by omega)
     refine⟨k10.at',k11.at',_,_,⟨?_,?_⟩,(by repeat' first|exact trivial|refine⟨trivial,?_⟩|refine⟨(by with_reducible rfl),?_⟩|refine⟨ai (by omega) (by omega),?_⟩|refine⟨rfl,?_⟩)⟩
     ·rw[fE,if_neg c1,if_pos c,ai (n:=1+_) (by omega) (by omega),ai (n:=1+_) (by omega) (by omega)];rfl
     ·rw[fE,if_neg c1,if_pos c]
    have c2:=of_decide_eq_false c2
    refine ae (fun c=>?_) (fun c3=>?_)
    ·have c:=of_decide_eq_true c
     intro b hb
     refine⟨by simp,by simp,by simp,_,_,⟨?_,?_⟩,(by repeat' first|exact trivial|refine⟨trivial,?_⟩|refine⟨(by with_reducible rfl),?_⟩|refine⟨ai (by omega) (by omega),?_⟩|refine⟨rfl,?_⟩)⟩
     ·have eb:(bif b then decide (i%2=1) else false)=(!lH (ns.getD i.toNat default)&&decide (i%2=1)):=by
       rw[show b = !lH (ns.getD i.toNat default) from hb]
       cases lH (ns.getD i.toNat default) <;> rfl
      rw[fE,if_neg c1,if_neg c2,if_pos c,Int.tmod_eq_emod_of_nonneg i0,eb];rfl
     ·rw[fE,if_neg c1,if_neg c2,if_pos c]
    have c3:=of_decide_eq_false c3
    refine ae (fun c=>?_) (fun c4=>?_)
    ·have c:=of_decide_eq_true c
     refine⟨_,_,⟨?_,?_⟩,(by repeat' first|exact trivial|refine⟨trivial,?_⟩|refine⟨(by with_reducible rfl),?_⟩|refine⟨ai (by omega) (by omega),?_⟩|refine⟨rfl,?_⟩)⟩
     ·rw[fE,if_neg c1,if_neg c2,if_neg c3,if_pos c];rfl
     ·rw[fE,if_neg c1,if_neg c2,if_neg c3,if_pos c]
    have c4:=of_decide_eq_false c4
    refine ae (fun c=>?_) (fun c5=>?_)
    ·have c:=of_decide_eq_true c
     refine⟨_,_,⟨?_,?_⟩,(by repeat' first|exact trivial|refine⟨trivial,?_⟩|refine⟨(by with_reducible rfl),?_⟩|refine⟨ai (by omega) (by omega),?_⟩|refine⟨rfl,?_⟩)⟩
     ·rw[fE,if_neg c1,if_neg c2,if_neg c3,if_neg c4,if_pos c,ai (n:=167903232+i) (by omega) (by omega),pV (n:=167903232+i) (by omega) (by omega)];rfl
     ·rw[fE,if_neg c1,if_neg c2,if_neg c3,if_neg c4,if_pos c]
    have c5:=of_decide_eq_false c5
    refine ae (fun c=>?_) (fun c6=>?_)
    ·have c:=of_decide_eq_true c
     have k4:=cW k10 (n:=40) (by omega)
     refine⟨k10.at',_,_,⟨?_,?_⟩,(by repeat' first|exact trivial|refine⟨trivial,?_⟩|refine⟨(by with_reducible rfl),?_⟩|refine⟨ai (by omega) (by omega),?_⟩|refine⟨rfl,?_⟩)⟩
     ·rw[fE,if_neg c1,if_neg c2,if_neg c3,if_neg c4,if_neg c5,if_pos c,pV (n:=167837696+_) (by omega) (by omega)];rfl
     ·rw[fE,if_neg c1,if_neg c2,if_neg c3,if_neg c4,if_neg c5,if_pos c]
    have c6:=of_decide_eq_false c6
    refine⟨ns,_,⟨?_,?_⟩,(by repeat' first|exact trivial|refine⟨trivial,?_⟩|refine⟨(by with_reducible rfl),?_⟩|refine⟨ai (by omega) (by omega),?_⟩|refine⟨rfl,?_⟩)⟩
    ·rw[fE,if_neg c1,if_neg c2,if_neg c3,if_neg c4,if_neg c5,if_neg c6]
     exact (qh i0 hi).symm
    ·rw[fE,if_neg c1,if_neg c2,if_neg c3,if_neg c4,if_neg c5,if_neg c6]
   ·rintro nsx csx ⟨hx1,hx2⟩
    have kc:=Gw (x:=ns.getD i.toNat default) (i:=i) hcs
    rw[← hx2] at kc
    have ka:=(bZ kc 6).1
    have kb:=(bZ ka 65536).1
    have hxl:i.toNat<nsx.length:=by rw[hx1,List.length_set];exact hi'
    simp only[List.set_set,iA hxl]
    refine⟨kc.at',ka.at',kb.at',i+1,_,_,⟨by omega,by omega,?_⟩,by omega,(by repeat' first|exact trivial|refine⟨trivial,?_⟩|refine⟨(by with_reducible rfl),?_⟩|refine⟨ai (by omega) (by omega),?_⟩|refine⟨rfl,?_⟩)⟩
    rw[OM Z i0,← hF]
    unfold tO tp
    dsimp only
    rw[show ((i.toNat:Nat):Int)=i by omega,← hx2,hx1,iA hi',List.set_set]
    rfl
  have hi:=of_decide_eq_false hi
  have e:i=Z.1.1.length:=by rw[z1];omega
  subst e
  refine⟨⟨0,ns,ls0,cs,⟨by omega,by omega,?_⟩,(by repeat' first|exact trivial|refine⟨trivial,?_⟩|refine⟨(by with_reducible rfl),?_⟩|refine⟨ai (by omega) (by omega),?_⟩|refine⟨rfl,?_⟩)⟩,?_⟩
  ·unfold oL
   rw[← hF,z2];rfl
  clear hF A1 hcs hn hi i0 il
  rintro i ns ls cs ⟨i0,il,hF⟩
  obtain⟨A1,hcs,lg,ll⟩:=tw Z zB zG (i:=i) (by rw[z2];exact il)
  rw[← hF] at A1 hcs lg ll
  dsimp only at A1 hcs lg ll
  rw[← hF]
  dsimp only
  have hn:=A1.n
  rw[z1] at hn lg
  rw[z2] at ll
  refine ae (fun hi=>?_) (fun hi=>?_)
  ·have hi:=of_decide_eq_true hi
   have hi':i.toNat<ls.length:=by omega
   have k6:=(bZ hcs 6).1
   refine⟨i0,hi,⟨hcs.at',?_⟩,?_⟩
   ·refine ae (fun c=>?_) (fun c1=>?_)
    ·have c:=of_decide_eq_true c
     refine⟨k6.at',_,_,⟨?_,?_⟩,(by repeat' first|exact trivial|refine⟨trivial,?_⟩|refine⟨(by with_reducible rfl),?_⟩|refine⟨ai (by omega) (by omega),?_⟩|refine⟨rfl,?_⟩)⟩
     ·rw[odLink,if_pos c]
     ·rw[odLink,if_pos c]
    have c1:=of_decide_eq_false c1
    refine ae (fun c=>?_) (fun c2=>?_)
    ·have c:=of_decide_eq_true c
     have k3:=cW k6 (n:=3) (by omega)
     refine⟨k6.at',k3.1,k3.2,_,_,⟨?_,?_⟩,(by repeat' first|exact trivial|refine⟨trivial,?_⟩|refine⟨(by with_reducible rfl),?_⟩|refine⟨ai (by omega) (by omega),?_⟩|refine⟨rfl,?_⟩)⟩
     ·rw[odLink,if_neg c1,if_pos c]
     ·rw[odLink,if_neg c1,if_pos c]
    have c2:=of_decide_eq_false c2
    refine⟨ls,_,⟨?_,?_⟩,(by repeat' first|exact trivial|refine⟨trivial,?_⟩|refine⟨(by with_reducible rfl),?_⟩|refine⟨ai (by omega) (by omega),?_⟩|refine⟨rfl,?_⟩)⟩
    ·rw[odLink,if_neg c1,if_neg c2]
     exact (qh i0 hi).symm
    ·rw[odLink,if_neg c1,if_neg c2]
   ·rintro lsx csx ⟨hx1,hx2⟩
    have lgx:=lg.odLink hi' cs
    rw[← hx1] at lgx
    have lxl:i.toNat<lsx.length:=by rw[hx1,List.length_set];exact hi'
    have g:=lgx.at' lxl
    have e1:(odLink (ls.getD i.toNat default) cs).1=lsx.getD i.toNat default:=by rw[hx1,iA hi']
    have nx:((oY ns (lsx.getD i.toNat default),lsx),csx)=oL Z (i+1):=by
     rw[On Z i0,← hF]
     unfold qq
     dsimp only
     rw[← hx1,← hx2,e1]
    unfold oY at nx
    refine⟨g.1.1,by rw[hn];exact g.1.2,?_⟩
    intro b hb
    refine⟨by simp,by simp,by simp,by simp,by simp,by simp,by simp,fun h=>⟨fun _=>h,fun _=>h,g.2.1,by rw[hn];exact g.2.2,trivial⟩,by simp,by simp,fun h=>h,?_⟩
    refine r8 (fun ha1 ha2=>?_) (fun hna=>?_)
    ·refine⟨g.2.1,by rw[hn];exact g.2.2,i+1,_,_,_,⟨by omega,by omega,?_⟩,by omega,(by repeat' first|exact trivial|refine⟨trivial,?_⟩|refine⟨(by with_reducible rfl),?_⟩|refine⟨ai (by omega) (by omega),?_⟩|refine⟨rfl,?_⟩)⟩
     rw[← nx,if_pos ⟨hb.symm.trans ha1,ha2⟩];rfl
    ·refine⟨i+1,_,_,_,⟨by omega,by omega,?_⟩,by omega,(by repeat' first|exact trivial|refine⟨trivial,?_⟩|refine⟨(by with_reducible rfl),?_⟩|refine⟨ai (by omega) (by omega),?_⟩|refine⟨rfl,?_⟩)⟩
     rw[← nx,if_neg]
     rintro⟨x1,x2⟩
     rcases hna with h|h
     ·rw[hb] at h
      rw[show dq (ns.getD (lA (lsx.getD i.toNat default)).toNat default)=(ns.getD (lsx.getD i.toNat default).1.toNat default).2.2.2.2.2.2.2.2.2.2.2.2.1 from rfl,h] at x1
      cases x1
     ·rw[show dq (ns.getD (lB (lsx.getD i.toNat default)).toNat default)=(ns.getD (lsx.getD i.toNat default).2.1.toNat default).2.2.2.2.2.2.2.2.2.2.2.2.1 from rfl,h] at x2
      cases x2
  have hi:=of_decide_eq_false hi
  have e:i=Z.1.2.1.length:=by rw[z2];omega
  subst e
  have k4:=cW hcs (n:=4) (by omega)
  have eK:oK Z=(aj cs 4).1:=by unfold oK;rw[← hF]
  refine⟨hcs.at',⟨_,0,[],(aj cs 4).2,⟨k4.1,by rw[eK];exact Int.le_refl _,?_⟩,(by repeat' first|exact trivial|refine⟨trivial,?_⟩|refine⟨(by with_reducible rfl),?_⟩|refine⟨ai (by omega) (by omega),?_⟩|refine⟨rfl,?_⟩)⟩,?_⟩
  ·rw[eK,Int.sub_self]
   unfold oC
   rw[← hF];rfl
  clear i0 il hi
  rintro k a hs cs2 ⟨k0,kl,hC⟩
  have cok:=C7 Z zB zG (oK Z-k).toNat
  rw[← hC] at cok
  dsimp only at cok
  obtain⟨ok2,a0,al,hsl⟩:=cok
  rw[eK] at kl al hsl
  refine ae (fun hk=>?_) (fun hk=>?_)
  rotate_left
  ·have hk:=of_decide_eq_false hk
   have e:k=0:=by omega
   subst e
   rw[Int.sub_zero] at hC
   have:ma Z=(((oL Z Z.1.2.1.length).1.1,(oL Z Z.1.2.1.length).1.2,(oC Z (oK Z).toNat).1),(oC Z (oK Z).toNat).2.2):=by
    unfold ma oC oK oL oN
    rfl
   rw[this,← hC,← hF]
  have hk:=of_decide_eq_true hk
  have q1:=cW ok2 (n:=60) (by omega)
  have b1:=(bZ ok2 60).1
  have q2:=cW b1 (n:=(ns.length:Int)) (by omega)
  have b2:=(bZ b1 (ns.length:Int)).1
  have en:oC Z (oK Z-(k-1)).toNat=mS ns (hs,a,cs2):=by
   rw[show (oK Z-(k-1)).toNat=(oK Z-k).toNat+1 by omega,FF,← hC,← hF]
  unfold mS at en
  dsimp only at en
  generalize eW:(aj (aj cs2 60).2 (ns.length:Int))=W at q2 b2 en ⊢
  generalize eX:ns.getD W.1.toNat default=X at en ⊢
  have hX:aA X=aA (ns0.getD W.1.toNat default)/\aQ X=aQ (ns0.getD W.1.toNat default):=by
   have:=A1.e W.1.toNat (by rw[z1];omega)
   rw[z1,eX] at this;exact this
  have hM:ns0.getD W.1.toNat default∈ns0:=bL q2.1 (by omega)
  rw[ai (n:=a+_) (by omega) (by omega),ai (n:=k-1) (by omega) (by omega)]
  refine⟨ok2.at',b1.at',q2.1,q2.2,?_⟩
  refine ae (fun hr=>?_) (fun hr=>?_)
  ·have hr:((aQ X).length:Int)=0:=of_decide_eq_true hr
   refine⟨k-1,_,_,_,⟨by omega,by omega,?_⟩,by omega,(by repeat' first|exact trivial|refine⟨trivial,?_⟩|refine⟨(by with_reducible rfl),?_⟩|refine⟨ai (by omega) (by omega),?_⟩|refine⟨rfl,?_⟩)⟩
   rw[en,if_pos (show (aQ X).length=0 from by omega)]
  have hr:=of_decide_eq_false hr
  have hr':¬ (aQ X).length=0:=fun e=>hr (by rw[show X.2.2.2.2.1=aQ X from rfl,e];rfl)
  have hpp:=hp _ hM (by rw[← hX.2];exact fun e=>hr' (by rw[e];rfl))
  rw[← hX.1,← hX.2] at hpp
  have q3:=cW b2 (n:=((aQ X).length:Int)) (by omega)
  have b3:=(bZ b2 ((aQ X).length:Int)).1
  have q4:=cW b3 (n:=((aA X).length:Int)) (by omega)
  have b4:=(bZ b3 ((aA X).length:Int)).1
  rw[if_neg hr'] at en
  refine⟨b2.at',q3.1,q3.2,b3.at',q4.1,q4.2,b4.at',?_⟩
  refine ae (fun hz=>?_) (fun hz=>?_)
  ·have hz:(aj (aj (aj W.2 ((aQ X).length:Int)).2 ((aA X).length:Int)).2 4).1=3:=of_decide_eq_true hz
   refine⟨by simp only[List.length_cons,List.length_nil];omega,k-1,_,_,_,⟨by omega,by omega,?_⟩,by omega,(by repeat' first|exact trivial|refine⟨trivial,?_⟩|refine⟨(by with_reducible rfl),?_⟩|refine⟨ai (by omega) (by omega),?_⟩|refine⟨rfl,?_⟩)⟩
   rw[en,if_pos hz];rfl
  ·have hz:¬ (aj (aj (aj W.2 ((aQ X).length:Int)).2 ((aA X).length:Int)).2 4).1=3:=of_decide_eq_false hz
   refine⟨by simp only[List.length_cons,List.length_nil];omega,k-1,_,_,_,⟨by omega,by omega,?_⟩,by omega,(by repeat' first|exact trivial|refine⟨trivial,?_⟩|refine⟨(by with_reducible rfl),?_⟩|refine⟨ai (by omega) (by omega),?_⟩|refine⟨rfl,?_⟩)⟩
   rw[en,if_neg hz];rfl
theorem Vz:ax Tryz.prog GL 51 IH.spec:=Ct.okH _ Tryz.func51 (by kernel_rfl) (ah (ah aD vO) QF) av al5 (aC (by kernel_rfl) Ts)
theorem GI.small{s:aO}{nn nl:Nat}(h:GI s nn nl)(hn:nn<=100)(hl:nl<=100):nN s :=
 ⟨h.c.at',by rw[h.n];omega,by rw[h.l];omega,by rw[h.h];decide,fun x hx=>by have:=h.plen x hx;omega⟩
theorem GI.inN{s:aO}{nn nl:Nat}(h:GI s nn nl){a:Int}(h0:0<=a)(h1:a<nn):inN s.1.1 a:=⟨h0,by rw[h.n];exact h1⟩
theorem GI.preR{s:aO}{nn nl:Nat}(h:GI s nn nl)(hn:nn<=100)(hl:nl<=100):preR s:=by
 refine⟨h.c.at',by rw[h.n];omega,by rw[h.l];omega,h.ends,h.routes,?_⟩
 have:=BN h.plen
 rw[h.n] at this
 have:=Nat.mul_le_mul hn (show 2*nl<=200 by omega)
 omega
structure RS (s:aO) (nn nl:Nat) (r:aO):Prop where
 g:GI s nn nl
 i:RI s.1.2.1 (fZ s.1.1) s.1.1 r.1.1
 c:bS r.2
 l:r.1.2=s.1.2
theorem GI.rs{s:aO}{nn nl:Nat}(h:GI s nn nl)(plain:Bool):RS s nn nl (yK s plain):=by
 have:=RI.stepTs (ns0:=s.1.1) (ls:=s.1.2.1) (s:=(s.1.1,s.2)) ⟨RI.start h.routes,h.c⟩ h.ends (plain:=plain) (Nat.le_refl _)
 exact⟨h,this.1,this.2,rfl⟩
theorem RS.ports{s r:aO}{nn nl:Nat}(h:RS s nn nl r){i:Nat}(hi:i<nn):aA (r.1.1.getD i default)=portsF i 0 s.1.2.1 :=
 (h.i.ports (by rw[h.g.n];exact hi)).trans (h.g.p i hi)
theorem RS.mem{s r:aO}{nn nl:Nat}(h:RS s nn nl r){x:ac}(hx:x∈r.1.1):∃ i,i<nn/\r.1.1.getD i default=x:=by
 obtain⟨i,hi,e⟩:=List.mem_iff_getElem.1 hx
 exact⟨i,by have:=h.i.n;have:=h.g.n;omega,by rw[List.getD_eq_getElem?_getD,List.getElem?_eq_getElem hi,e];rfl⟩
theorem RS.tab{s r:aO}{nn nl:Nat}(h:RS s nn nl r){i:Nat}(hi:i<nn):kW s.1.2.1 (fZ s.1.1) i (aQ (r.1.1.getD i default)):=h.i.t i (by rw[h.g.n];exact hi)
theorem RS.preO{s r:aO}{nn nl:Nat}(h:RS s nn nl r)(hn:nn<=100)(hl:nl<=100)(h0:0<nn):preO r:=by
 have pl:∀ x∈r.1.1,x.1.length<=2*nl:=fun x hx=>by
  obtain⟨i,hi,rfl⟩:=h.mem hx
  have:=yF i 0 s.1.2.1
  rw[← h.ports hi,h.g.l] at this
  exact this
 have rn:r.1.1.length=nn:=h.i.n.trans h.g.n
 have al:=BN h.g.plen
 rw[h.g.n] at al
 have al2:=Nat.mul_le_mul hn (show 2*nl<=200 by omega)
 refine⟨h.c.at',by omega,by omega,?_,?_,?_,?_,fun x hx hr=>?_⟩
 ·rw[h.l,h.g.l];omega
 ·have:=h.g.ends
  rw[h.l,rn,← h.g.n];exact this
 ·rw[h.l];exact h.g.h
 ·have:=BN pl
  rw[rn] at this
  omega
 ·have hp:=pl x hx
  obtain⟨i,hi,rfl⟩:=h.mem hx
  have t:=h.tab hi
  have tl:=CG t
  refine⟨?_,by have:(aA (r.1.1.getD i default)).length<=2*nl:=hp;omega,by omega⟩
  obtain⟨y,ys,e⟩:=List.exists_cons_of_ne_nil hr
  have ty:=t.2 y (by rw[e];exact List.mem_cons_self)
  obtain⟨k,ks,ek⟩:=List.exists_cons_of_ne_nil ty.ne
  obtain⟨k0,k1,kk⟩:=ty.ln k (by rw[ek];exact List.mem_cons_self)
  rw[h.ports hi]
  rcases kk with kk|kk
  ·exact List.length_pos_of_mem (xy.2 ⟨k.toNat,by omega,.inl ⟨kk,rfl⟩⟩)
  ·exact List.length_pos_of_mem (xy.2 ⟨k.toNat,by omega,.inr ⟨kk,rfl⟩⟩)
def vQ(plain:Bool)(c:aI):aO:=ux plain (kT c).1 (kT c).2
def kN(c:aI):Int:=(aj (kT c).2.2 4).1
def mR(plain:Bool)(c:aI)(k:Int):aO:=nU plain (bg c) (kT c).2 (kN c-k).toNat
theorem ad9(l m:List ac):(List.brecOn.go (motive:=fun (x:List ac)=>List ac->List ac) l List.append._f).1 m=l++m:=by kernel_rfl
theorem Wb{plain:Bool}{c:aI}{k:Int}(k0:0<k)(k1:k<=kN c)(h1:1<bg c)(h2:plain=false):mR plain c (k-1)=pI (bg c) (mR plain c k):=by
 unfold mR nU
 rw[if_pos ⟨h1,h2⟩,if_pos ⟨h1,h2⟩,show (kN c-(k-1)).toNat=(kN c-k).toNat+1 by omega,List.range_succ,List.foldl_append];rfl
theorem Wv{plain:Bool}{c:aI}{k:Int}(h:k=0∨¬ (1<bg c/\plain=false)):mR plain c k=nU plain (bg c) (kT c).2 (aj (kT c).2.2 4).1.toNat:=by
 rcases h with h|h
 ·subst h
  unfold mR kN
  rw[Int.sub_zero]
 ·unfold mR nU
  rw[if_neg h,if_neg h]
theorem R9{c:aI}(h:bS c)(plain:Bool)(k:Int)(k0:0<=k):∃ m,m<=9/\GI (mR plain c k) ((bg c).toNat+2) m:=by
 have hn:=rD h
 have hl:=A0 h
 have h4:=cW hl.c (n:=4) (by omega)
 obtain⟨m,m0,m1,hm⟩:=OC hl (plain:=plain) (n:=bg c) hn.1 (by omega) (kN c-k).toNat
 unfold kN at m1
 exact⟨m,by omega,hm⟩
def H4:Ct:=⟨[.box 109 f8,.val .bool],[.agg ig],fun d=>[ay d.1],fun d=>((o3 d.2.1 d.1,()),(wm d.2.1 d.1,()))⟩
def ZJ:ar H4.ps->az:=(fun d=>{loops:=(fun n=>match n with|6=>some (fun S=>{ι:=Int×aO,qn:=⟨fun k_=>∀(i:Int)(s:aO),k_ (i,s),fun k_ h_ i=>h_ i.1 i.2,fun k_=>∃ (i:Int) (s:aO),k_ (i,s),fun k_ ⟨i,s,h_⟩=>⟨_,h_⟩⟩,μ:=fun i=>(bg d.1-i.1).toNat,inv:=fun i=>0<=i.1/\i.1<=bg d.1/\i.2=(List.range i.1.toNat).foldl oq (rR d.1),keep:=[0,1,4,5],slots:=fun i=>[(7,.int .i64 (bg d.1)),(9,.int .i64 i.1),(8,.int .i64 i.1)],keepN:=[80],names:=fun i=>[(288,.live (.cells 119 [.own 524288 16,.own 524289 6,.own 524290 7,.ptr 1048576 0])),(524288,.live (.row 107 bH i.2.1.1)),(524289,.live (.row 99 fB i.2.1.2.1)),(524290,.live (.row 129 d8 i.2.1.2.2)),(1048576,.live (.cells 109 (cB f8 i.2.2)))]})|14=>some (fun S=>{ι:=Int×aO,qn:=⟨fun k_=>∀(k:Int)(s:aO),k_ (k,s),fun k_ h_ i=>h_ i.1 i.2,fun k_=>∃ (k:Int) (s:aO),k_ (k,s),fun k_ ⟨k,s,h_⟩=>⟨_,h_⟩⟩,μ:=fun i=>i.1.toNat,inv:=fun i=>0<=i.1/\i.1<=kN d.1/\i.2=mR d.2.1 d.1 i.1,keep:=[0,1,4,5],slots:=fun i=>[(7,.int .i64 (bg d.1)),(12,.int .i64 i.1)],keepN:=[80],names:=fun i=>[(288,.live (.cells 119 [.own 524288 16,.own 524289 6,.own 524290 7,.ptr 1048576 0])),(524288,.live (.row 107 bH i.2.1.1)),(524289,.live (.row 99 fB i.2.1.2.1)),(524290,.live (.row 129 d8 i.2.1.2.2)),(1048576,.live (.cells 109 (cB f8 i.2.2)))]})|_=>none),cuts:=(fun n=>match n with|21=>some (fun S=>{ι:=aO,inv:=fun i=>i=vQ d.2.1 d.1,keep:=[0,1,4,5],slots:=fun i=>[],keepN:=[80],names:=fun i=>[(288,.live (.cells 119 [.own 524288 16,.own 524289 6,.own 524290 7,.ptr 1048576 0])),(524288,.live (.row 107 bH i.1.1)),(524289,.live (.row 99 fB i.1.2.1)),(524290,.live (.row 129 d8 i.1.2.2)),(1048576,.live (.cells 109 (cB f8 i.2)))]})|_=>none)})
def qF(c:Bool)(j:aO) :=
 List.foldl (stepT j.1.2.1 c) (j.1.1,j.2) (List.range j.1.1.length)
def uv(c:Bool)(j:aO) :=
 List.foldl qq (((List.foldl tO (qF c j) (List.range (List.length (qF c j).1))).1,j.1.2.1),(List.foldl tO (qF c j) (List.range (List.length (qF c j).1))).2) (List.range j.1.2.1.length)
def xT(e:aO) :=
 List.getD [(64:Int),(255:Int),(128:Int)] (Int.toNat (aj e.2 3).1) default
def pd(e:aO) :=
 aj (aj e.2 3).2 (256:Int)
def p9(a:List Int)(b:Int) :=
 IntKind.wrap .i64 (bg (a,b) -(1:Int))
def ni(a:List Int)(b:Int)(g:aO) :=
 aj (aj g.2 (bg (a,b))).2 (bg (a,b))
def ra(e:aO) :=
 aj (aj (pd e).2 (20:Int)).2 (256:Int)
def Gl(c:Bool)(j:aO) :=
 List.foldl (fun (k:List aM×Int×aI) (l:Nat)=>mS (uv c j).1.1 k) (([]:List aM),(0:Int),(aj (uv c j).2 (4:Int)).2) (List.range (Int.toNat (aj (uv c j).2 (4:Int)).1))
def nX(e:aO) :=
 (e.1.1.length:Int)
def qP(a:List Int)(b:Int)(g:aO) :=
 aj (aj g.2 2).2 (p9 a b)
def mN(g:aO) :=
 (g.1.2.1.length:Int)
def wC(a:List Int)(b:Int) :=
 aj (aj (a,b) (3:Int)).2 (256:Int)
def Bn(e:aO) :=
 e.1.1++[o9 (nX e) false (xT e) (pd e).1]
def zy(e:aO) :=
 e.1.1++[o9 (nX e) true (xT e) (pd e).1]
def qB(e:aO) :=
 (e.1.2.1.length:Int)
theorem S6 :
 ∀(a:List Int)(b:Int)(c:Bool),((a.length<=maxLen/\ ∀(d:Int),d∈a->0<=d/\d<=255)/\ab b)/\True/\True->0<=b/\b<=(a.length:Int)->nN ((([]:List ac),([]:List aE),([]:List aM)),a,b)/\ay (wC a b).2/\(∃(d:Int) (e:aO),(0<=d/\d<=bg (a,b)/\e=List.foldl oq (rR (a,b)) (List.range d.toNat))/\c=c/\IntKind.wrap .i64 ((1:Int)+(aj (wC a b).2 (5:Int)).1)=bg (a,b)/\(↑(0:Nat):Int)=d/\(0:Int)=d/\[o9 (↑(0:Nat):Int) true (List.getD [(64:Int),(255:Int),(128:Int)] (Int.toNat (aj (a,b) (3:Int)).1) default) (wC a b).1]=e.1.1/\([]:List aE)=e.1.2.1/\([]:List aM)=e.1.2.2/\(aj (wC a b).2 (5:Int)).2.1=e.2.1/\(aj (wC a b).2 (5:Int)).2.2=e.2.2/\True)/\ ∀(d:Int)(e:aO),0<=d/\d<=bg (a,b)/\e=List.foldl oq (rR (a,b)) (List.range d.toNat)->ad (decide (d<bg (a,b))) (nN e/\nN (((List.brecOn.go (motive:=fun (f:List ac)=>List ac->List
 ac) e.1.1 List.append._f).1 [o9 (nX e) false (xT e) (pd e).1],e.1.2),(pd e).2)/\inN (Bn e) d/\inN (Bn e) (nX e)/\ ∃(f:Int) (g:aO),(0<=f/\f<=bg (a,b)/\g=List.foldl oq (rR (a,b)) (List.range f.toNat))/\Int.toNat (bg (a,b) -f)<Int.toNat (bg (a,b) -d)/\c=c/\bg (a,b)=bg (a,b)/\(nX e)=f/\IntKind.wrap .i64 (d+(1:Int))=f/\ij (ij (Bn e) d (dS (qB e)+(1:Int),(qB e))) (nX e) (dS (qB e)+(2:Int),(qB e))=g.1.1/\e.1.2.1++[(d,(nX e),(1:Int)+(aj (pd e).2 (20:Int)).1,(0:Int),(0:Int),(ra e).1)]=g.1.2.1/\e.1.2.2=g.1.2.2/\(ra e).2.1=g.2.1/\(ra e).2.2=g.2.2/\True) (nN e/\nN (((List.brecOn.go (motive:=fun (f:List ac)=>List ac->List ac) e.1.1 List.append._f).1 [o9 (nX e) true (xT e) (pd e).1],e.1.2),(pd e).2)/\inN (zy e) d/\inN (zy e) (nX e)/\ay (ra
 e).2/\(∃(f:Int) (g:aO),(0<=f/\f<=kN (a,b)/\g=mR c (a,b) f)/\c=c/\bg (a,b)=bg (a,b)/\(aj (ra e).2 (4:Int)).1=f/\ij (ij (zy e) d (dS (qB e)+(1:Int),(qB e))) (nX e) (dS (qB e)+(2:Int),(qB e))=g.1.1/\e.1.2.1++[(d,(nX e),(1:Int)+(aj (pd e).2 (20:Int)).1,(0:Int),(0:Int),(ra e).1)]=g.1.2.1/\e.1.2.2=g.1.2.2/\(aj (ra e).2 (4:Int)).2.1=g.2.1/\(aj (ra e).2 (4:Int)).2.2=g.2.2/\True)/\ ∀(f:Int)(g:aO),0<=f/\f<=kN (a,b)/\g=mR c (a,b) f-> ∀(h:Bool),h=decide (0<f)->(h->(h->h)/\True)/\(h->h)/\ ∀(i:Bool),(i=bif h then decide (1<bg (a,b)) else false)->(i->(i->i)/\True)/\(i->i)/\ad (bif i then ! c else false) (ay g.2/\ay (aj g.2 (bg (a,b))).2/\ad (! decide (IntKind.wrap .i64 ((1:Int)+(aj g.2 (bg (a,b))).1)=IntKind.wrap .i64 ((1:Int)+(ni a b g).1))) (nN (g.1,(ni a b g).2)/\inN g.1.1 (IntKind.wrap
 .i64 ((1:Int)+(aj g.2 (bg (a,b))).1))/\inN g.1.1 (IntKind.wrap .i64 ((1:Int)+(ni a b g).1))/\ ∃(j:Int) (k:aO),(0<=j/\j<=kN (a,b)/\k=mR c (a,b) j)/\j.toNat<f.toNat/\c=c/\bg (a,b)=bg (a,b)/\IntKind.wrap .i64 (f -(1:Int))=j/\ij (ij g.1.1 (IntKind.wrap .i64 ((1:Int)+(aj g.2 (bg (a,b))).1)) (dS (mN g)+(1:Int),(mN g))) (IntKind.wrap .i64 ((1:Int)+(ni a b g).1)) (dS (mN g)+(2:Int),(mN g))=k.1.1/\g.1.2.1++[(IntKind.wrap .i64 ((1:Int)+(aj g.2 (bg (a,b))).1),IntKind.wrap .i64 ((1:Int)+(ni a b g).1),(1:Int)+(aj (ni a b g).2 (20:Int)).1,(0:Int),(0:Int),(aj (aj (ni a b g).2 (20:Int)).2 (256:Int)).1)]=k.1.2.1/\g.1.2.2=k.1.2.2/\(aj (aj (ni a b g).2 (20:Int)).2 (256:Int)).2.1=k.2.1/\(aj (aj (ni a b g).2 (20:Int)).2 (256:Int)).2.2=k.2.2/\True) (∃(j:Int) (k:aO),(0<=j/\j<=kN (a,b)/\k=mR c (a,b)
 j)/\j.toNat<f.toNat/\c=c/\bg (a,b)=bg (a,b)/\IntKind.wrap .i64 (f -(1:Int))=j/\g.1.1=k.1.1/\g.1.2.1=k.1.2.1/\g.1.2.2=k.1.2.2/\(ni a b g).2.1=k.2.1/\(ni a b g).2.2=k.2.2/\True)) ((∀(j:Bool),j=c->(j->(j->j)/\True)/\(j->j)/\ ∀(k:Bool),(k=bif j then decide (2<bg (a,b)) else false)->ad k ((k->k)/\ay g.2/\(k->k)/\ad (bif k then decide ((aj g.2 2).1=1) else false) (ay (aj g.2 2).2/\nN (g.1,(qP a b g).2)/\inN g.1.1 (IntKind.wrap .i64 ((1:Int)+(qP a b g).1))/\inN g.1.1 (bg (a,b))/\ ∃(l:aO),l=vQ c (a,b)/\c=c/\ij (ij g.1.1 (IntKind.wrap .i64 ((1:Int)+(qP a b g).1)) (dS (mN g)+(1:Int),(mN g))) (bg (a,b)) (dS (mN g)+(2:Int),(mN g))=l.1.1/\g.1.2.1++[(IntKind.wrap .i64 ((1:Int)+(qP a b g).1),bg (a,b),(1:Int)+(aj (qP a b g).2 (20:Int)).1,(0:Int),(0:Int),(aj (aj (qP a b g).2 (20:Int)).2
 (256:Int)).1)]=l.1.2.1/\g.1.2.2=l.1.2.2/\(aj (aj (qP a b g).2 (20:Int)).2 (256:Int)).2.1=l.2.1/\(aj (aj (qP a b g).2 (20:Int)).2 (256:Int)).2.2=l.2.2/\True) (∃(l:aO),l=vQ c (a,b)/\c=c/\g.1.1=l.1.1/\g.1.2.1=l.1.2.1/\g.1.2.2=l.1.2.2/\(aj g.2 2).2.1=l.2.1/\(aj g.2 2).2.2=l.2.2/\True)) (k=false/\(k->false=true)/\ad (bif k then false else false) (ay g.2/\nN (g.1,(aj g.2 (p9 a b)).2)/\inN g.1.1 (IntKind.wrap .i64 ((1:Int)+(aj g.2 (p9 a b)).1))/\inN g.1.1 (bg (a,b))/\ ∃(l:aO),l=vQ c (a,b)/\c=c/\ij (ij g.1.1 (IntKind.wrap .i64 ((1:Int)+(aj g.2 (p9 a b)).1)) (dS (mN g)+(1:Int),(mN g))) (bg (a,b)) (dS (mN g)+(2:Int),(mN g))=l.1.1/\g.1.2.1++[(IntKind.wrap .i64 ((1:Int)+(aj g.2 (p9 a b)).1),bg (a,b),(1:Int)+(aj (aj g.2 (p9 a b)).2 (20:Int)).1,(0:Int),(0:Int),(aj (aj (aj g.2 (p9
 a b)).2 (20:Int)).2 (256:Int)).1)]=l.1.2.1/\g.1.2.2=l.1.2.2/\(aj (aj (aj g.2 (p9 a b)).2 (20:Int)).2 (256:Int)).2.1=l.2.1/\(aj (aj (aj g.2 (p9 a b)).2 (20:Int)).2 (256:Int)).2.2=l.2.2/\True) (∃(l:aO),l=vQ c (a,b)/\c=c/\g.1.1=l.1.1/\g.1.2.1=l.1.2.1/\g.1.2.2=l.1.2.2/\g.2.1=l.2.1/\g.2.2=l.2.2/\True)))/\ ∀(j:aO),j=vQ c (a,b)->preR j/\ad (! c) (preO (((qF c j).1,j.1.2),(qF c j).2)/\((uv c j).1.1,(uv c j).1.2,(Gl c j).1)=o3 c (a,b)/\(Gl c j).2.2=wm c (a,b)) (((qF c j).1,j.1.2)=o3 c (a,b)/\(qF c j).2=wm c (a,b)))):=by
  delta uv xT pd p9 qF ni ra Gl nX qP mN wC Bn zy qB
  rintro l p plain ⟨⟨⟨hl,hw⟩,-⟩,-⟩ hc
  have hB:bS (l,p):=⟨hc,hw⟩
  generalize ((l,p):aI)=c at hB hc ⊢
  have hN:=rD hB
  have g0:=GI.start hB
  have g1:=g0.node true
  have hw5:IntKind.i64.wrap (1+(aj (aj (aj c 3).2 256).2 5).1)=bg c:=ai (n:=bg c) (by omega) (by omega)
  rw[hw5]
  refine⟨g0.small (by omega) (by omega),g1.c.at',⟨0,rR c,⟨by omega,by omega,rfl⟩,(by repeat' first|exact trivial|refine⟨trivial,?_⟩|refine⟨(by with_reducible rfl),?_⟩|refine⟨ai (by omega) (by omega),?_⟩|refine⟨rfl,?_⟩)⟩,?_⟩
  rintro i s ⟨i0,il,hs⟩
  have hg:GI s (i.toNat+1) i.toNat:=by rw[hs];exact (HS hB).chain _
  have e1:(s.1.1.length:Int)=i+1:=by rw[hg.n];omega
  simp only[ad9]
  refine ae (fun hi=>?_) (fun hi=>?_)
  ·have hi:=of_decide_eq_true hi
   have hg2:=hg.node false
   refine⟨hg.small (by omega) (by omega),hg2.small (by omega) (by omega),hg2.inN i0 (by omega),hg2.inN (by omega) (by omega),i+1,gm (iz s false) i s.1.1.length,⟨by omega,by omega,?_⟩,by omega,?_⟩
   ·rw[show (i+1).toNat=i.toNat+1 by omega,List.range_succ,List.foldl_append,← hs,List.foldl_cons,List.foldl_nil,oq,show ((i.toNat:Nat):Int)=i by omega,e1]
   ·repeat' first|exact trivial|refine⟨trivial,?_⟩|refine⟨(by with_reducible rfl),?_⟩|refine⟨e1,?_⟩|refine⟨ai (by omega) (by omega),?_⟩|refine⟨rfl,?_⟩
  have hi:=of_decide_eq_false hi
  have hi:i=bg c:=by omega
  subst hi
  have hg2:=hg.node true
  have eL:gm (iz s true) (bg c) s.1.1.length=(kT c).2:=by rw[FB,← hs,e1]
  have gL:=A0 hB
  rw[← eL] at gL
  have h4:=cW gL.c (n:=4) (by omega)
  have eK:(aj (gm (iz s true) (bg c) s.1.1.length).2 4).1=kN c:=by rw[eL];rfl
  refine⟨hg.small (by omega) (by omega),hg2.small (by omega) (by omega),hg2.inN i0 (by omega),hg2.inN (by omega) (by omega),gL.c.at',⟨(aj (gm (iz s true) (bg c) s.1.1.length).2 4).1,((gm (iz s true) (bg c) s.1.1.length).1,(aj (gm (iz s true) (bg c) s.1.1.length).2 4).2),⟨h4.1,by omega,?_⟩,(by repeat' first|exact trivial|refine⟨trivial,?_⟩|refine⟨(by with_reducible rfl),?_⟩|refine⟨ai (by omega) (by omega),?_⟩|refine⟨rfl,?_⟩)⟩,?_⟩
  ·rw[eK]
   unfold mR nU
   rw[Int.sub_self,← eL]
   split <;> rfl
  clear hs hg e1 hg2 eL gL h4 eK il i0
  clear s
  rintro k s ⟨k0,k1,hs⟩
  obtain⟨m,hm,hg⟩:=R9 hB plain k k0
  rw[← hs] at hg
  have hkN:kN c<=4:=by
   have:=cW (A0 hB).c (n:=4) (by omega)
   unfold kN;omega
  have ka:=cW hg.c (n:=bg c) (by omega)
  have ca:=(bZ hg.c (bg c)).1
  have kb:=cW ca (n:=bg c) (by omega)
  have cb:=(bZ ca (bg c)).1
  intro b hb
  refine⟨by simp,by simp,?_⟩
  intro b1 hb1
  refine⟨by simp,by simp,?_⟩
  refine r8 (fun x1 x2=>?_) (fun hno=>?_)
  ·have hk:0<k/\1<bg c:=by
    rw[x1] at hb1
    rcases b with _|_
    ·cases hb1
    ·exact⟨of_decide_eq_true hb.symm,of_decide_eq_true hb1.symm⟩
   have hpl:plain=false:=by simpa using x2
   have nx:=Wb (plain:=plain) hk.1 k1 hk.2 hpl
   rw[← hs] at nx
   unfold pI at nx
   dsimp only at nx
   rw[ai (n:=1+(aj s.2 (bg c)).1) (by omega) (by omega),ai (n:=1+(aj (aj s.2 (bg c)).2 (bg c)).1) (by omega) (by omega),ai (n:=k-1) (by omega) (by omega)]
   refine⟨hg.c.at',ca.at',?_⟩
   have hgc:=hg.codes cb
   refine ae (fun hne=>?_) (fun hne=>?_)
   ·have hne:=gC hne
    rw[if_neg (by omega)] at nx
    exact⟨hgc.small (by omega) (by omega),hgc.inN (by omega) (by omega),hgc.inN (by omega) (by omega),k-1,_,⟨by omega,by omega,nx.symm⟩,by omega,(by repeat' first|exact trivial|refine⟨trivial,?_⟩|refine⟨(by with_reducible rfl),?_⟩|refine⟨ai (by omega) (by omega),?_⟩|refine⟨rfl,?_⟩)⟩
   ·have hne:=hT hne
    rw[if_pos (by omega)] at nx
    exact⟨k-1,_,⟨by omega,by omega,nx.symm⟩,by omega,(by repeat' first|exact trivial|refine⟨trivial,?_⟩|refine⟨(by with_reducible rfl),?_⟩|refine⟨ai (by omega) (by omega),?_⟩|refine⟨rfl,?_⟩)⟩
  have he:k=0∨¬ (1<bg c/\plain=false):=by
   by_cases z:k=0
   ·exact .inl z
   ·refine .inr ?_
    rintro⟨z1,z2⟩
    rw[hb,show decide (0<k)=true from decide_eq_true (by omega),show decide (1<bg c)=true from decide_eq_true z1] at hb1
    rcases hno with h|h
    ·rw[h] at hb1;cases hb1
    ·rw[z2] at h;cases h
  rw[Wv he] at hs
  clear hno hb1 hb b1 b k0 k1 he
  have hF:=EA plain (bg c) (kT c).2
  dsimp only at hF
  rw[← hs] at hF
  have c2:=(bZ hg.c 2).1
  refine⟨?_,?_⟩
  ·intro b hb
   (repeat refine⟨by simp,?_⟩)
   intro b2 hb2
   refine ae (fun h=>?_) (fun h=>?_)
   ·have hk:plain=true/\2<bg c:=by
     rw[h,hb] at hb2
     rcases plain with _|_
     ·cases hb2
     ·exact⟨rfl,of_decide_eq_true hb2.symm⟩
    simp only[h,cond_true]
    rw[if_pos hk] at hF
    refine⟨fun h=>h,hg.c.at',fun h=>h,ae (fun h2=>?_) (fun h2=>?_)⟩
    ·have h2:=of_decide_eq_true h2
     rw[if_pos h2] at hF
     have kd:=cW c2 (n:=bg c-1) (by omega)
     have cd:=(bZ c2 (bg c-1)).1
     have hgc:=hg.codes cd
     rw[ai (n:=bg c-1) (by omega) (by omega),ai (n:=1+(aj (aj s.2 2).2 (bg c-1)).1) (by omega) (by omega)]
     exact⟨c2.at',hgc.small (by omega) (by omega),hgc.inN (by omega) (by omega),hgc.inN (by omega) (by omega),_,hF.symm,(by repeat' first|exact trivial|refine⟨trivial,?_⟩|refine⟨(by with_reducible rfl),?_⟩|refine⟨ai (by omega) (by omega),?_⟩|refine⟨rfl,?_⟩)⟩
    ·have h2:=of_decide_eq_false h2
     rw[if_neg h2] at hF
     exact⟨_,hF.symm,(by repeat' first|exact trivial|refine⟨trivial,?_⟩|refine⟨(by with_reducible rfl),?_⟩|refine⟨ai (by omega) (by omega),?_⟩|refine⟨rfl,?_⟩)⟩
   ·have hk:¬ (plain=true/\2<bg c):=by
     rintro⟨z1,z2⟩
     rw[h,hb,z1,show decide (2<bg c)=true from decide_eq_true z2] at hb2
     cases hb2
    simp only[h,cond_false]
    rw[if_neg hk] at hF
    refine⟨trivial,fun h=>h,?_⟩
    rw[C3]
    exact⟨s,hF.symm,(by repeat' first|exact trivial|refine⟨trivial,?_⟩|refine⟨(by with_reducible rfl),?_⟩|refine⟨ai (by omega) (by omega),?_⟩|refine⟨rfl,?_⟩)⟩
  rintro t ht
  obtain⟨m',-,m1,hG⟩:=AS hB plain
  have hG:GI t ((bg c).toNat+2) m':=by rw[ht];exact hG
  refine⟨hG.preR (by omega) (by omega),?_⟩
  have hR:=hG.rs plain
  have hO:=hR.preO (by omega) (by omega) (by omega)
  subst ht
  rcases plain with _|_
  ·rw[show (!false)=true from rfl,Qe]
   exact⟨hO,rfl,rfl⟩
  ·rw[show (!true)=false from rfl,C3]
   exact⟨rfl,rfl⟩
theorem QZ:ax Tryz.prog GL 15 H4.spec:=Ct.okH _ Tryz.func15 (by kernel_rfl) (ah (ah (ah (ah (ah aD YE) vO) Wx) UV) Vz) av ZJ (aC (by kernel_rfl) S6)
end Go.RS
