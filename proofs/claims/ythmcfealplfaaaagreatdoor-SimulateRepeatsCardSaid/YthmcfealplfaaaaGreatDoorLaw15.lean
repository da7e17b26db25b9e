/- Drawn4: drawn networks are in order. -/
import Derived.Test.YthmcfealplfaaaaGreatDoorSx28
import Derived.Test.YthmcfealplfaaaaGreatDoorLaw13c
import Derived.Test.YthmcfealplfaaaaGreatDoorDrawsome
namespace Go.RS
open Go.SX Go.Proofs
set_option maxRecDepth 100000
set_option linter.unusedVariables false
theorem Ke(i:Int):∀(k:Nat)(ls:List aE),(∀ l∈ls,lA l≠lB l)->(portsF i k ls).Pairwise (fun a b=>a.2<b.2/\a.1<b.1)∧∀ q∈portsF i k ls,(k:Int)<=q.2/\dS k<q.1
 | _,[],_=>by simp[portsF]
 | k,l::r,h=>by
  obtain⟨h1,h2⟩:=Ke i (k+1) r (fun x hx=>h x (List.mem_cons_of_mem _ hx))
  have hl:=h l List.mem_cons_self
  have e:m6 i k l=[]∨∃ a:Int,(a=1∨a=2)/\m6 i k l=[(dS k+a,(k:Int))]:=by
   unfold m6
   by_cases ha:lA l=i
   ·rw[if_pos ha,if_neg (by omega)];exact .inr ⟨1,.inl rfl,rfl⟩
   ·rw[if_neg ha]
    by_cases hb:lB l=i
    ·rw[if_pos hb];exact .inr ⟨2,.inr rfl,rfl⟩
    ·rw[if_neg hb];exact .inl rfl
  rw[portsF]
  unfold dS at *
  rcases e with e|⟨a,ha,e⟩ <;> rw[e]
  ·rw[List.nil_append]
   exact⟨h1,fun q hq=>by have:=h2 q hq;omega⟩
  ·rw[List.singleton_append]
   refine⟨List.pairwise_cons.2 ⟨fun q hq=>?_,h1⟩,fun q hq=>?_⟩
   ·have:=h2 q hq;simp only;omega
   ·rcases List.mem_cons.1 hq with rfl|hq
    ·simp only;omega
    ·have:=h2 q hq;omega
theorem ON{l:List mg}{q:mg->Bool}{i:Nat}(hi:i<l.length)(hq:q (l.getD i default)=true)(hn:∀ j:Nat,j<i->q (l.getD j default)=false):fR q l=i:=by
 have e:l.findIdx q=i:=by
  rw[List.findIdx_eq hi]
  refine⟨by rwa [List.getD_eq_getElem?_getD,List.getElem?_eq_getElem hi,Option.getD_some] at hq,fun j hj=>?_⟩
  have:=hn j hj
  rwa [List.getD_eq_getElem?_getD,List.getElem?_eq_getElem (by omega),Option.getD_some] at this
 unfold fR
 rw[e,if_pos hi]
theorem Qw{q:Int×Int->Bool}{l:List (Int×Int)}{y:Int×Int}(hy:y∈l)(hq:q y=true):0<=fR q l:=by
 have hlt:l.findIdx q<l.length:=List.findIdx_lt_length_of_exists ⟨y,hy,hq⟩
 unfold fR;rw[if_pos hlt];omega
theorem Kr{α:Type} [Inhabited α] {R:α->α->Prop} {l:List α} (h:l.Pairwise R) {k j:Nat} (hk:k<j) (hj:j<l.length):R (l.getD k default) (l.getD j default):=by
 rw[List.getD_eq_getElem?_getD,List.getD_eq_getElem?_getD,List.getElem?_eq_getElem hj,List.getElem?_eq_getElem (by omega),Option.getD_some,Option.getD_some]
 exact List.pairwise_iff_getElem.1 h _ _ _ _ hk
theorem DS{a:Int}(h:167837696<=a/\a<=167903300):fq a:=by
 right
 unfold fL
 have:a/16777216=10:=by omega
 rw[if_neg (by omega),if_neg (by omega),if_pos (.inl this)]
theorem T6{a n:Int}(h:n=32):iU (a,n)=true:=by
 subst h
 unfold iU
 have:sz 32=1:=by decide
 rw[this]
 simp only[decide_eq_true_eq]
 omega
theorem LS{links:List Int}:∀{l:List Rt}{q:Option cO},bM l->(∀ p,q=some p→∀ r∈l,aW p r.1)->(∀ r∈l,iU r.1=true/\ke r links)->chk links q l=0
 | [],_,_,_,_=>rfl
 | r::rs,q,hs,hq,hr=>by
  obtain⟨v,w⟩:=hr r List.mem_cons_self
  obtain⟨s1,s2⟩:=List.pairwise_cons.1 hs
  rw[chk,if_neg (by rw[v];simp)]
  have e:q.any (fun q=>decide (0<=fj q r.1))=false:=by
   cases q with
   | none=>rfl
   | some p =>
    have:=hq p rfl r List.mem_cons_self
    simp only[Option.any_some,decide_eq_false_iff_not]
    rw[Gm];exact fun k=>k this
  rw[if_neg (by rw[e];simp),if_neg (by simpa using w)]
  exact LS s2 (fun p hp x hx=>by cases hp;exact s1 x hx) (fun x hx=>hr x (List.mem_cons_of_mem _ hx))
structure GT (m:Nat) (links:List Int) (l:List Rt):Prop where
 s:bM l
 n:l.length<=m
 r:∀ r∈l,iU r.1=true/\ke r links
theorem GT.ok{m:Nat}{links:List Int}{l:List Rt}(h:GT m links l)(hm:m<=64):dF l links=0:=by
 have:=h.n
 unfold dF
 rw[if_neg (by omega)]
 exact LS h.s (fun p hp=>by cases hp) h.r
theorem DN.gt{n:bw}(h:DN n){i:Nat}(hi:i<n.1.length):GT 20 (bv (n.1.getD i default)) (aQ (n.1.getD i default)):=by
 have t:=h.t i hi
 refine⟨t.1,Mg t,fun r hr=>?_⟩
 have k:=t.2 r hr
 have l10:=h.l10
 have hl:=C4 k
 refine⟨T6 k.len,⟨by omega,fun j hj=>⟨fun h0=>?_,?_⟩⟩,k.w0,k.w1⟩
 ·rw[List.getD_eq_getElem?_getD,List.getD_eq_getElem?_getD,List.getElem?_eq_getElem hj,List.getElem?_eq_getElem (by omega),Option.getD_some,Option.getD_some]
  exact List.pairwise_iff_getElem.1 k.pw _ _ _ _ (by omega)
 ·rw[(h.links hi)]
  rw[List.getD_eq_getElem?_getD,List.getElem?_eq_getElem hj,Option.getD_some]
  exact k.ln _ (List.getElem_mem hj)
theorem DN.pw{n:bw}(h:DN n){i:Nat}(hi:i<n.1.length):(aA (n.1.getD i default)).Pairwise (fun a b=>a.2<b.2/\a.1<b.1):=by
 rw[h.p i hi]
 exact (Ke i 0 n.2.1 fun l hl=>(h.g l hl).2.2.1).1
theorem DN.node{n:bw}(h:DN n){i:Nat}(hi:i<n.1.length)(hp:0<(aA (n.1.getD i default)).length):eU (n.1.getD i default)=0:=by
 have pw:=h.pw hi
 have d:=h.d i hi
 have n7:=h.n7
 have l10:=h.l10
 have hlen:(aA (n.1.getD i default)).length<=20:=by
  rw[h.p i hi]
  have:=yF i 0 n.2.1;omega
 have gt:=h.gt hi
 have ports:∀ j:Nat,j<(aA (n.1.getD i default)).length->fQ (n.1.getD i default) j=0:=fun j hj=>by
  have hm:(aA (n.1.getD i default)).getD j default∈aA (n.1.getD i default):=mF hj
  have hadr:=h.padr hi (List.mem_map_of_mem (f:=(·.1)) hm)
  have hlnk:=(h.links hi).1 (List.mem_map_of_mem (f:=(·.2)) hm)
  have ne:∀ k:Nat,k<j->((aA (n.1.getD i default)).getD k default).2<((aA (n.1.getD i default)).getD j default).2/\((aA (n.1.getD i default)).getD k default).1<((aA (n.1.getD i default)).getD j default).1:=fun k hk=>Kr pw hk hj
  have ea:j4 (n.1.getD i default) ((aA (n.1.getD i default)).getD j default).1=j:=ON hj (by simp[jb]) (fun k hk=>by have:=ne k hk;simp only[jb,decide_eq_false_iff_not];omega)
  have el:cM (n.1.getD i default) ((aA (n.1.getD i default)).getD j default).2=j:=ON hj (by simp[gI]) (fun k hk=>by have:=ne k hk;simp only[gI,decide_eq_false_iff_not];omega)
  have hu:fq ((aA (n.1.getD i default)).getD j default).1:=DS (by omega)
  unfold fQ
  have:=hlnk.1
  rw[ea,el,if_neg (by rintro (k|k);exact k hu;omega),if_neg (by omega)]
 have hloop:¬ lZ (n.1.getD i default):=by
  rintro⟨k0,k⟩
  have hl:=d.loop.resolve_left k0
  rcases k with k|k
  ·exact k (DS (by omega))
  ·have:=h.padr hi (U8.1 k)
   omega
 have hform:¬ kQ (n.1.getD i default):=by
  have o:=d.own
  have f:=d.first
  unfold kQ
  rintro (k|k|⟨k1,k2⟩|⟨k1,k2⟩|⟨k1,k2⟩|k|k)
  ·omega
  ·rcases d.src with s|⟨s,-⟩|⟨s,-⟩ <;> omega
  ·rcases d.src with s|⟨s,s2⟩|⟨s,-⟩ <;> omega
  ·have:=d.fix.resolve_left k1
   exact k2 (DS (by omega))
  ·rcases d.src with s|⟨s,s2⟩|⟨s,s2⟩ <;> omega
  ·omega
  ·omega
 have hid:ir (n.1.getD i default)=0:=by
  unfold ir
  rw[if_pos]
  obtain⟨⟨a,b⟩,⟨c,e⟩,f,g⟩:=d.id
  exact decide_eq_true ⟨a,b,c,e,f,g⟩
 have hb:gQ (iq (n.1.getD i default))=0:=by
  unfold gQ
  rw[if_pos]
  rcases d.lim with k|k
  ·exact .inl k
  ·right;omega
 rw[MI (by omega) (Bm ports) hloop hform,if_neg (fun k=>k hid),if_neg (fun k=>k hb)]
 exact gt.ok (by omega)
theorem OX(ns:List ac)(a:Int):∀ k:Nat,dX a (d6 ns k)=true↔∃ j:Nat,j<k/\a∈fc (ns.getD j default)
 | 0=>by simp[d6,dX]
 | k+1=>by
  have e:d6 ns (k+1)=jU k (fc (ns.getD k default)) (d6 ns k):=by unfold d6;rw[List.range_succ,List.foldl_append];rfl
  rw[e,Em.1,Bool.or_eq_true,decide_eq_true_iff,OX ns a k]
  constructor
  ·rintro (h|⟨j,hj,h⟩)
   ·exact⟨k,by omega,h⟩
   ·exact⟨j,by omega,h⟩
  ·rintro⟨j,hj,h⟩
   by_cases e:j=k
   ·subst e;exact .inl h
   ·exact .inr ⟨j,by omega,h⟩
theorem DN.tabs{n:bw}(h:DN n):∀ i:Nat,i<=n.2.2.length→∀ k:Nat,k<n.1.length->GT (20+i) (bv (n.1.getD k default)) ((cY n i).getD k default)
 | 0,_,k,hk=>by
  rw[cY,xz hk];exact h.gt hk
 | i+1,hi,k,hk=>by
  have ih:=h.tabs i (by omega)
  have hc:=h.c _ (mF (i:=i) (xs:=n.2.2) (by omega))
  rw[cY]
  by_cases e:(bu (n.2.2.getD i default)).toNat=k
  ·rw[e,iA (by rw[oF];omega)]
   have g:=ih k hk
   obtain⟨r,hr,p1,p2⟩:=hc.p
   rw[e] at hr
   have gr:=(h.gt hk).r r hr
   have hx:=hc.x
   rw[e] at hx
   refine⟨?_,?_,fun x hx'=>?_⟩
   ·unfold fK;rw[if_neg (by rw[hc.r];simp)];exact F5 g.s
   ·unfold fK;rw[if_neg (by rw[hc.r];simp)]
    have:=K3 ((cY n i).getD k default) (db (n.2.2.getD i default))
    have:=g.n
    omega
   ·unfold fK at hx';rw[if_neg (by rw[hc.r];simp)] at hx'
    rcases Pn hx' with rfl|hx'
    ·refine⟨by rw[p1];exact gr.1,⟨?_,by rw[p2];exact gr.2.2⟩⟩
     rcases hx with q|⟨y,hy,q⟩ <;> rw[q]
     ·exact⟨by simp,fun j hj=>absurd hj (by simp)⟩
     ·refine⟨by simp,fun j hj=>?_⟩
      have:j=0:=by simpa using hj
      subst this
      exact⟨fun k=>absurd k (by omega),List.mem_map_of_mem (f:=(·.2)) hy⟩
    ·exact g.r x hx'
  ·have g:=ih k hk
   have e2:((cY n i).set (bu (n.2.2.getD i default)).toNat (fK ((cY n i).getD (bu (n.2.2.getD i default)).toNat default) (n.2.2.getD i default))).getD k default=(cY n i).getD k default:=by
    exact kJ e
   rw[e2]
   exact⟨g.s,by have:=g.n;omega,g.r⟩
theorem DN.right{n:bw}(h:DN n)(hp:∀ i:Nat,i<n.1.length->0<(aA (n.1.getD i default)).length):d9 n=0:=by
 have n3:=h.n3
 have n7:=h.n7
 have l10:=h.l10
 have h3:=h.h3
 have e1:nD n=0:=by unfold nD;rw[if_neg (by omega)]
 have e2:lx n=0:=by
  unfold lx
  rw[if_pos]
  rw[List.all_eq_true]
  intro l hl
  obtain⟨a,b,c,d,e,f,g⟩:=h.g l hl
  refine decide_eq_true ?_
  unfold iK
  omega
 have e3:lq n=0:=Bm fun i hi=>by
  unfold mn
  rw[if_neg (fun k=>k (h.node hi (hp i hi))),if_neg]
  rw[List.any_eq_true]
  rintro⟨k,hk,hs⟩
  obtain⟨a,b,c⟩:=(h.links hi).1 hk
  unfold nF at hs
  simp only[Bool.or_eq_true,Bool.not_eq_true',decide_eq_true_eq,Bool.or_eq_false_iff,decide_eq_false_iff_not] at hs
  rcases hs with hs|⟨s1,s2⟩
  ·omega
  ·rcases c with c|c
   ·exact s1 c
   ·exact s2 c
 have e4:nt n=0:=by
  unfold nt
  rw[if_neg]
  rw[List.any_eq_true]
  rintro⟨k,hk,hs⟩
  have hk:=List.mem_range.1 hk
  obtain⟨⟨a0,a1⟩,⟨b0,b1⟩,-⟩:=h.g _ (mF hk)
  unfold nH at hs
  simp only[Bool.or_eq_true,decide_eq_true_eq] at hs
  have key:∀ i:Int,0<=i->i<n.1.length->(lA (n.2.1.getD k default)=i∨lB (n.2.1.getD k default)=i)→¬ cM (n.1.getD i.toNat default) k<0:=fun i i0 i1 hq hlt=>by
   have hi:i.toNat<n.1.length:=by omega
   have:(k:Int)∈bv (n.1.getD i.toNat default):=(h.links hi).2 ⟨by omega,by omega,by rw[Int.toNat_natCast];rcases hq with q|q;left;omega;right;omega⟩
   obtain⟨y,hy,e⟩:=List.mem_map.1 this
   have:=Qw (q:=gI k) hy (by simp[gI,e])
   have e5:cM (n.1.getD i.toNat default) k=fR (gI k) (aA (n.1.getD i.toNat default)):=rfl
   omega
  rcases hs with hs|hs
  ·exact key _ a0 a1 (.inl rfl) hs
  ·exact key _ b0 b1 (.inr rfl) hs
 have e5:qu n=0:=by
  unfold qu
  rw[if_neg]
  unfold Ij
  rw[List.any_eq_true]
  rintro⟨i,hi,hs⟩
  have hi:=List.mem_range.1 hi
  obtain⟨a,ha,hm⟩:=List.any_eq_true.1 hs
  obtain⟨j,hj,hb⟩:=(OX n.1 a i).1 hm
  have:=h.apart (i:=i) (j:=j) hi (by omega) ha hb
  omega
 have e6:oe n=0:=by
  unfold oe
  rw[if_neg]
  rw[List.any_eq_true]
  rintro⟨l,hl,hs⟩
  rw[h.o l hl] at hs;cases hs
 have e7:mO n=0:=Bm fun i hi=>by
  have hc:=h.c _ (mF (i:=i) (xs:=n.2.2) hi)
  have ha:=hc.at'
  have hw:=hc.w
  have hk:(bu (n.2.2.getD i default)).toNat<n.1.length:=by omega
  have hs:0<i->fY (n.2.2.getD (i-1) default)<=fY (n.2.2.getD i default):=fun h0=>Kr h.s (by omega) hi
  have g:=h.tabs (i+1) (by omega) _ hk
  rw[cY,iA (by rw[oF];omega)] at g
  unfold iw mq
  rw[if_neg (by omega),if_neg (by rintro⟨k0,k1⟩;have:=hs k0;omega),if_neg (by omega),if_neg (by rintro⟨k0,-⟩;rw[hc.r] at k0;cases k0)]
  exact g.ok (by omega)
 unfold d9 ng
 simp[e1,e2,e3,e4,e5,e6,e7]
end Go.RS

/- Law15a: what the laws about the simulator draw. -/
namespace Go.RS
open Go.SX Go.Proofs
set_option maxRecDepth 100000
set_option linter.unusedVariables false
set_option maxHeartbeats 1000000
theorem Ob{k:Int}{n:bw}(h:Jl k n)(hk:k<=1000000):mP n:=by
 obtain⟨h1,h2,h3,h4,h5⟩:=h
 refine⟨by omega,by omega,by omega,fun x hx=>?_,fun c hc=>?_⟩
 ·obtain⟨a,b,c⟩:=h4 x hx
  exact⟨by show (x.1.length:Int)<=1000000;omega,by omega,fun r hr=>by have:=c r hr;omega⟩
 ·have:=h5 c hc
  show (c.2.2.2.2.1.length:Int)<=_
  omega
theorem cL.new{n:bw}{B:Int}(h:d9 n=0)(ha:tN n)(hc:mP n)(h0:0<=B)(h1:B<=549755813888):cL B (jv n):=by
 have e:ic (jv n)=0:=rfl
 exact⟨h1,by rw[e];exact (cu.new h).more (by omega),ha,hc,fun x hx=>(by cases hx),by rw[e];show ((0:Nat):Int)+2*((0:Nat):Int)<=B;omega,by rw[e];show ((0:Nat):Int)+((0:Nat):Int)<=B;omega⟩
theorem Zm{n:bw}{f:aH}(hb:bytes (c9 f)):na n f<=1114:=by
 have:=NG hb
 unfold na
 have h1:(if dq (n.1.getD (aN f).toNat default)=true then 1 else 0)<=1:=by split <;> omega
 have h2:(if dW f = -1 then 2 else 0)<=2:=by split <;> omega
 have h3:(if cq (c9 f) then 600 else 0)<=600:=by split <;> omega
 omega
theorem cL.send{w:au}{B:Int}(h:cL B w)(hB:B+4000<=549755813888){at' who:Int}{b:List Int}(he:fX w at' who=0)(hb:bytes b)(hl:(b.length:Int)<=2000) :
  cL (B+4000) (gb w at' who b)/\aS (gb w at' who b)=aS w+1/\ao (gb w at' who b)=ao w:=by
 unfold fX at he
 split at he
 ·cases he
 rename_i q1
 split at he
 ·cases he
 rename_i q2
 split at he
 ·cases he
 rename_i q3
 split at he
 ·cases he
 rename_i q4
 obtain⟨s1,s2⟩:=h.sB.send (by omega) (at':=at') (who:=who) (b:=b) ⟨by omega,by omega⟩ ⟨by omega,by omega⟩ hb hl (by omega)
 have hp:ic (gb w at' who b)=ic w+na (ao w) (at',aS w,who,-1,aS w,b):=OZ _ _ _
 have hf:na (ao w) (at',aS w,who,-1,aS w,b)<=1114:=Zm hb
 have h1:=h.e
 have h2:=h.d
 exact⟨⟨hB,s1.more (by omega),h.a,h.c,h.dd,by show ((bf w).length:Int)+_<=_;omega,by show ((bz w).length:Int)+_<=_;omega⟩,s2,rfl⟩
theorem DN.newOk{n:bw}(h:DN n)(hp:∀ i,i<n.1.length->0<(aA (n.1.getD i default)).length):cL 4000 (jv n):=cL.new (h.right hp) (fun i hi=>ao2 h hi) (Ob h.nb (by decide)) (by decide) (by decide)
def m3:bw:=([([(167772161,0)],0,0,true,[((0,0),[0],1)],1,0,0,0,0,(0,0),false,false,64,0),([(167772162,0)],0,0,false,[((0,0),[0],1)],1,0,0,0,0,(0,0),false,false,64,0)],[(0,1,10,0,0,0)],[])
def rS:List Int:=build (167772161,167772169,17,0,0,1)
theorem FZ:d9 m3=0:=by decide +kernel
theorem UJ:(bz (j5 (gb (jv m3) 0 0 rS) 100)).length=1/\((bz (j5 (gb (jv m3) 0 0 rS) 100)).getD 0 default).1=20/\aV (j5 (gb (jv m3) 0 0 rS) 100)=100:=by decide +kernel
theorem ap7:tN m3:=by
 intro i hi
 have hi:i<2:=hi
 match i,hi with
 | 0,_=>unfold o5 u32;decide
 | 1,_=>unfold o5 u32;decide
theorem Ir:mP m3:=by
 refine⟨by decide,by decide,by decide,fun x hx=>?_,fun c hc=>by cases hc⟩
 have hx:x∈[(([(167772161,0)],0,0,true,[((0,0),[0],1)],1,0,0,0,0,(0,0),false,false,64,0):ac),([(167772162,0)],0,0,false,[((0,0),[0],1)],1,0,0,0,0,(0,0),false,false,64,0)]:=hx
 unfold okL
 rcases List.mem_cons.1 hx with rfl|hx
 ·decide
 ·rcases List.mem_cons.1 hx with rfl|hx
  ·decide
  ·cases hx
theorem B9:cL 4000 (jv m3):=cL.new FZ ap7 Ir (by decide) (by decide)
theorem BP:fX (jv m3) 0 0=0:=by decide +kernel
structure j7 (m:Int) (w:au):Prop where
 ok:cL (4000+4000*m) w
 m9:0<=m/\m<=9
 now:aV w=0
 fn:((am w).length:Int)=m
 ord:aS w=m
 en:bf w=[]
 dl:bz w=[]
 at':∀ f∈am w,aq f<=40
 og:∀ o,0<=o->o<aS w->tD (jh o (am w)) (kZ o (bf w))
theorem j7.new{n:bw}(h:cL 4000 (jv n)):j7 0 (jv n) :=
 ⟨h.more (by decide) (by decide),⟨by decide,by decide⟩,rfl,rfl,rfl,rfl,rfl,fun f hf=>(by cases hf),fun o h0 h1=>by have h1:o<0:=h1;omega⟩
theorem j7.send{w:au}{m:Int}(h:j7 m w)(hm:m+1<=9){at':Int}{b:List Int}(h0:0<=at')(h1:at'<=40)(hb:bytes b)(hl:(b.length:Int)<=2000):fX w at' 0=0/\j7 (m+1) (gb w at' 0 b):=by
 have hm0:=h.m9
 have he:fX w at' 0=0:=by
  have hn:=tq h.ok.s.net
  have:=h.now
  have:=h.fn
  unfold fX
  rw[if_neg (by omega),if_neg (by omega),if_neg (by omega),if_neg (by omega)]
 obtain⟨k1,k2,k3⟩:=h.ok.send (by omega) he hb hl
 have hf:∀ f∈am w,dM f<aS w:=fun f hf=>(h.ok.s.fo f hf).g.2
 obtain⟨g1,g2⟩:=Ry (w:=w) (at':=at') (who:=0) (b:=b) hf (fun e he=>by rw[h.en] at he;cases he)
 have ho:=h.ord
 have hfn:=h.fn
 refine⟨he,k1.more (by omega) (by omega),⟨by omega,by omega⟩,h.now,?_,by rw[k2];omega,h.en,h.dl,fun f hf=>?_,fun o o0 o1=>?_⟩
 ·show ((bT (am w) (at',aS w,0,-1,aS w,b)).length:Int)=_
  rw[vw];omega
 ·rcases rN.1 hf with rfl|hf
  ·exact h1
  ·exact h.at' f hf
 ·by_cases e:o=aS w
  ·rw[e];exact g1
  ·obtain⟨e1,e2⟩:=g2 o e
   rw[e1,e2]
   exact h.og o o0 (by rw[k2] at o1;omega)
theorem j7.aw:j7 0 (jv m3):=j7.new B9
def Mt:Cn:=⟨[.agg ig],[.val cj,.val cj],fun _=>[],fun d y=>u32 y.1.1/\u32 y.1.2.1,fun d h=>⟨((0,0,()),()),by unfold u32;decide,by unfold u32;decide⟩⟩
def at3:ar Mt.ps->az:=(fun d=>{loops:=(fun n=>match n with|4=>some (fun S=>{ι:=Int,μ:=fun i=>i.toNat,inv:=fun i=>0<=i/\i+1<=d.1.1.length/\0<(aA (d.1.1.getD 0 default)).length,keep:=[1],slots:=fun i=>[(4,.int .i64 i)],keepN:=[32],names:=fun i=>[]})|_=>none)})
def uB(a:List ac) :=
 a.getD (Int.toNat (0:Int)) default
def uZ(d:Bool) :=
 (! d)->((! d)->(! d))/\True
def BB(a:List ac) :=
 (0:Nat)<List.length (aA (a.getD (0:Nat) default))
def Bw(a:List ac) :=
 List.getD (uB a).1 (Int.toNat (0:Int)) default
theorem ZV :
 ∀(a:List ac)(b:List aE)(c:List aM),((a.length<=maxLen/\ ∀(d:ac),d∈a->CT.wf bH d)/\(b.length<=maxLen/\ ∀(d:aE),d∈b->CT.wf fB d)/\c.length<=maxLen/\ ∀(d:aM),d∈c->CT.wf d8 d)/\True->True-> ∀(d:Bool),d=decide ((a.length:Int)=0)->(uZ d)/\((! d)->((! d)->(! d))/\(0:Int)<=0/\0<(a.length:Int)/\True)/\(uZ d)/\(uZ d)/\(uZ d)/\(uZ d)/\(d=false->(! d))/\ad (bif d then true else decide (((List.length (uB a).1):Int)=0)) (u32 (0:Int)/\u32 (0:Int)) ((∃(e:Int),(0<=e/\e+1<=(a.length:Int)/\(BB a))/\IntKind.wrap .i64 ((a.length:Int) -(1:Int))=e/\a=a/\b=b/\c=c/\True)/\ ∀(e:Int),0<=e/\e+1<=(a.length:Int)/\(BB a)->ad (decide (0<e)) (0<=e/\e<(a.length:Int)/\ ∀(f:Bool),f=(a.getD e.toNat default).2.2.2.1->(f->(f->f)/\True)/\(f->(f->f)/\(f->f)/\0<=e/\e<(a.length:Int)/\True)/\(f->(f->f)/\True)/\(f->(f->f)/\True)/\(f->(f->f)/\True)/\(f->(f->f)/\True)/\(f->f)/\ad (bif f
 then decide (0<((List.length (a.getD e.toNat default).1):Int)) else false) ((0:Int)<=0/\0<(a.length:Int)/\(0:Int)<=0/\0<((List.length (uB a).1):Int)/\0<=e/\e<(a.length:Int)/\(0:Int)<=0/\0<((List.length (a.getD e.toNat default).1):Int)/\u32 (Bw a).1/\u32 (List.getD (a.getD e.toNat default).1 (Int.toNat (0:Int)) default).1) (∃(g:Int),(0<=g/\g+1<=(a.length:Int)/\(BB a))/\g.toNat<e.toNat/\IntKind.wrap .i64 (e -(1:Int))=g/\a=a/\b=b/\c=c/\True)) ((0:Int)<=0/\0<(a.length:Int)/\(0:Int)<=0/\0<((List.length (uB a).1):Int)/\(0:Int)<=0/\0<(a.length:Int)/\(0:Int)<=0/\0<((List.length (uB a).1):Int)/\u32 (Bw a).1/\u32 (Bw a).1)):=by
  delta uB uZ BB Bw
  rintro ns ls hs ⟨⟨⟨hnl,hw⟩,-⟩,-⟩ -
  simp only[maxLen] at hnl
  have hu:∀ j:Int,0<=j->j<ns.length->(0:Int)<((ns.getD j.toNat default).1.length:Int)->u32 ((ns.getD j.toNat default).1.getD (Int.toNat 0) default).1:=by
   intro j j0 j1 hp
   exact ((hw _ (bL j0 j1)).1.2 _ (bL (by decide) hp)).1
  intro b hb
  (repeat refine⟨fun h_=>(by first|exact⟨fun _=>h_,by omega,by rw[hb] at h_;have:=gC h_;omega,trivial⟩|(simp;done)|(simp[h_];done)|(simp_all;done)),?_⟩)
  rw[hb,Ew]
  refine ae (fun h=>?_) (fun h=>?_)
  ·exact⟨by unfold u32;decide,by unfold u32;decide⟩
  have h:=of_decide_eq_false h
  have hn0:0<ns.length:=by omega
  have hp0:0<(aA (ns.getD 0 default)).length:=by show 0<(ns.getD (Int.toNat 0) default).1.length;omega
  have hz:(0:Int)<((ns.getD (Int.toNat 0) default).1.length:Int):=by show (0:Int)<((aA (ns.getD 0 default)).length:Int);omega
  rw[ai (n:=(ns.length:Int)-1) (by omega) (by omega)]
  refine⟨⟨(ns.length:Int)-1,⟨by omega,by omega,hp0⟩,(by repeat' first|exact trivial|refine⟨trivial,?_⟩|refine⟨(by with_reducible rfl),?_⟩|refine⟨ai (by omega) (by omega),?_⟩|refine⟨rfl,?_⟩)⟩,?_⟩
  rintro i ⟨i0,i1,-⟩
  refine ae (fun hi=>?_) (fun hi=>?_)
  ·have hi:=of_decide_eq_true hi
   refine⟨i0,by omega,?_⟩
   intro b2 hb2
   (repeat refine⟨fun h_=>(by first|exact⟨fun _=>h_,fun _=>h_,i0,by omega,trivial⟩|(simp;done)|(simp[h_];done)|(simp_all;done)),?_⟩)
   refine r8 (fun k1 k2=>?_) (fun k=>?_)
   ·have k2:=of_decide_eq_true k2
    exact⟨by omega,by omega,by omega,hz,i0,by omega,by omega,k2,hu 0 (by omega) (by omega) hz,hu i i0 (by omega) k2⟩
   ·rw[ai (by omega) (by omega)]
    exact⟨i-1,⟨by omega,by omega,hp0⟩,by omega,(by repeat' first|exact trivial|refine⟨trivial,?_⟩|refine⟨(by with_reducible rfl),?_⟩|refine⟨ai (by omega) (by omega),?_⟩|refine⟨rfl,?_⟩)⟩
  ·exact⟨by omega,by omega,by omega,hz,by omega,by omega,by omega,hz,hu 0 (by omega) (by omega) hz,hu 0 (by omega) (by omega) hz⟩
theorem Y5:ax Tryz.prog GL 32 Mt.spec:=Cn.okH _ Tryz.func32 (by kernel_rfl) aD av at3 (aC (by kernel_rfl) ZV)
def JV:Cn:=⟨[.box 109 f8,.val (.sl bj)],[.own 5 bj],fun d=>[ay d.1,(d.2.1.length:Int)<=1000000],fun d y=>(y.1.1.length:Int)<=d.2.1.length+1/\bytes y.1.1/\ay y.2.1,fun d h=>⟨(([],()),(d.1,())),by simp;omega,fun x hx=>(by cases hx),h.1⟩⟩
def Rp:ar JV.ps->az:=(fun _=>{})
def FM(c:List Int)(d j:Int) :=
 List.set c d.toNat (bits BinOp.xor IntKind.u8 (c.getD d.toNat default) (IntKind.wrap .u8 (IntKind.wrap .i64 ((1:Int)+j))))
def jR(c:List Int) :=
 (c.length:Int)
theorem Sg :
 ∀(a:List Int)(b:Int)(c:List Int),((a.length<=maxLen/\ ∀(d:Int),d∈a->0<=d/\d<=255)/\ab b)/\(c.length<=maxLen/\ ∀(d:Int),d∈c->0<=d/\d<=255)/\True->ay (a,b)/\(jR c)<=1000000->c.length*(1:Nat)<=(140737488355328:Nat)/\ad (decide ((jR c)=0)) (ay (a,b)/\ ∀(d:Int)(e:List Int)(f:Int),0<=d/\(d<256∨d=0)/\ay (e,f)->((List.length [IntKind.wrap .u8 d]):Int)<=(jR c)+(1:Int)/\bytes [IntKind.wrap .u8 d]/\ay (e,f)) (ay (a,b)/\ ∀(d:Int)(e:List Int)(f:Int),0<=d/\(d<(jR c)∨d=0)/\ay (e,f)->ay (e,f)/\ ∀(g:Int)(h:List Int)(i:Int),0<=g/\(g<4∨g=0)/\ay (h,i)->ad (decide (g=0)) (0<=d/\d<=(jR c)/\0<=IntKind.wrap .i64 (d+(1:Int))/\IntKind.wrap .i64 (d+(1:Int))<=(jR c)/\(jR c)<=(jR c)/\(List.length (List.take d.toNat c)+List.length (cf c (Int.toNat (IntKind.wrap .i64 (d+(1:Int)))) (Int.toNat (jR c))))*(1:Nat)<=(140737488355328:Nat)/\((List.length (List.take d.toNat c++cf c
 (Int.toNat (IntKind.wrap .i64 (d+(1:Int)))) (Int.toNat (jR c)))):Int)<=(jR c)+(1:Int)/\bytes (List.take d.toNat c++cf c (Int.toNat (IntKind.wrap .i64 (d+(1:Int)))) (Int.toNat (jR c)))/\ay (h,i)) (ad (decide (g=1)) (ay (h,i)/\ ∀(j:Int)(k:List Int)(l:Int),0<=j/\(j<256∨j=0)/\ay (k,l)->(c.length+List.length [IntKind.wrap .u8 j])*(1:Nat)<=(140737488355328:Nat)/\((List.length (c++[IntKind.wrap .u8 j])):Int)<=(jR c)+(1:Int)/\bytes (c++[IntKind.wrap .u8 j])/\ay (k,l)) (0<=d/\d<(jR c)/\ay (h,i)/\ ∀(j:Int)(k:List Int)(l:Int),0<=j/\(j<255∨j=0)/\ay (k,l)->0<=d/\d<(jR c)/\((List.length (FM c d j)):Int)<=(jR c)+(1:Int)/\bytes (FM c d j)/\ay (k,l)))):=by
  delta FM jR
  rintro l p b ⟨-,⟨-,hb⟩,-⟩⟨hc,hl⟩
  have hb:bytes b:=hb
  have u8:∀ x:Int,bytes [IntKind.wrap .u8 x]:=fun x y hy=>by rw[List.mem_singleton.1 hy];exact Le x
  have app:∀{x y:List Int},bytes x->bytes y->bytes (x++y):=fun hx hy z hz=>by rcases List.mem_append.1 hz with q|q;exact hx z q;exact hy z q
  refine⟨by omega,ae (fun h=>⟨hc,?_⟩) (fun h=>⟨hc,?_⟩)⟩
  ·rintro x l2 p2 ⟨-,-,h3⟩
   exact⟨by simp only[List.length_singleton];omega,u8 x,h3⟩
  have h:=of_decide_eq_false h
  rintro k l2 p2 ⟨k0,k1,hc⟩
  have hk:k<b.length:=by omega
  refine⟨hc,?_⟩
  rintro w l3 p3 ⟨w0,w1,hc⟩
  refine ae (fun _=>?_) (fun _=>ae (fun _=>⟨hc,?_⟩) (fun _=>⟨k0,hk,hc,?_⟩))
  ·rw[ai (n:=k+1) (by omega) (by omega)]
   refine⟨k0,by omega,by omega,by omega,by omega,?_,?_,?_,hc⟩
   ·rw[si,List.length_take,List.length_drop];omega
   ·rw[List.length_append,si,List.length_take,List.length_drop];omega
   ·rw[si]
    exact app (Bi hb) (rX hb)
  ·rintro x l4 p4 ⟨-,-,h4⟩
   exact⟨by simp only[List.length_singleton];omega,by simp only[List.length_append,List.length_singleton];omega,app hb (u8 x),h4⟩
  ·rintro x l4 p4 ⟨-,-,h4⟩
   refine⟨k0,hk,by rw[List.length_set];omega,fun z hz=>?_,h4⟩
   rcases List.mem_or_eq_of_mem_set hz with q|q
   ·exact hb z q
   ·rw[q];exact Le _
theorem UX:ax Tryz.prog GL 69 JV.spec:=Cn.okH _ Tryz.func69 (by kernel_rfl) (F7 (ah aD pQ) (d:=26)) av Rp (aC (by kernel_rfl) Sg)
def Kl:Cn:=⟨[.box 109 f8,.agg ig],[.val (.sl bj)],fun d=>[ay d.1],fun d y=>ay y.2.1/\bytes y.1.1/\(y.1.1.length:Int)<=1600,fun d h=>⟨(([],()),(d.1,())),h.1,fun x hx=>(by cases hx),by simp⟩⟩
def QU:ar Kl.ps->az:=(fun _=>{})
theorem Uu :
 ∀(a:List Int)(b:Int)(c:List ac)(d:List aE)(e:List aM),((a.length<=maxLen/\ ∀(f:Int),f∈a->0<=f/\f<=255)/\ab b)/\((c.length<=maxLen/\ ∀(f:ac),f∈c->CT.wf bH f)/\(d.length<=maxLen/\ ∀(f:aE),f∈d->CT.wf fB f)/\e.length<=maxLen/\ ∀(f:aM),f∈e->CT.wf d8 f)/\True->0<=b/\b<=(a.length:Int)->ay (a,b)/\ ∀(f g h i j k:Int)(l:List Int)(m:Int),ay (l,m)/\u32 f/\u32 g/\dI (f,g,h,i,j,k)=0-> ∀(n o:Int),u32 n/\u32 o->ay (l,m)/\ ∀(p:Int)(q:List Int)(r:Int),ay (q,r)/\0<=p/\p<=4294967295-> ∀(s:List Int)(t:Int),s=build (n,p,h,i,j,k)/\t=dI (n,p,h,i,j,k)->ay (q,r)/\ ∀(u:Int)(v:List Int)(w:Int),0<=u/\(u<12∨u=0)/\ay (v,w)->ad (decide (u=11)) (ay (v,w)/\(s.length:Int)<=1000000/\ ∀(x y:List Int)(z:Int),(x.length:Int)<=(s.length:Int)+(1:Int)/\bytes x/\ay (y,z)->ay (y,z)/\bytes x/\(x.length:Int)<=1600) (ay (v,w)/\bytes s/\(s.length:Int)<=1600):=by
  rintro l p ns ls hs-hc
  refine⟨hc,?_⟩
  rintro a b c e f g l2 p2 ⟨hc2,-,-,-⟩
  rintro a1 a2 -
  refine⟨hc2,?_⟩
  rintro d l3 p3 ⟨hc3,-,-⟩
  rintro bb q ⟨rfl,-⟩
  have hbl:=DJ (a1,d,c,e,f,g)
  refine⟨hc3,?_⟩
  rintro x l4 p4 ⟨-,-,hc4⟩
  refine ae (fun _=>⟨hc4,by omega,?_⟩) (fun _=>⟨hc4,E8 _,by omega⟩)
  rintro y l5 p5 ⟨k1,k2,k3⟩
  exact⟨k3,k2,by omega⟩
theorem ar1:ax Tryz.prog GL 25 Kl.spec:=Cn.okH _ Tryz.func25 (by kernel_rfl) (ah (ah (ah (ah (ah (ah aD P8) Y5) Qv) (Ct.named Jm)) pQ) UX) av QU (aC (by kernel_rfl) Uu)
def Lv:Ct:=⟨[],[.val .bool],fun _=>[],fun _=>((true,()),())⟩
def RT:ar Lv.ps->az:=(fun _=>{})
def ze :=
 ([([((167772161:Int),(0:Int))],(0:Int),(0:Int),true,[(((0:Int),(0:Int)),[(0:Int)],(1:Int))],(1:Int),(0:Int),(0:Int),(0:Int),(0:Int),((0:Int),(0:Int)),false,false,(64:Int),(0:Int)),([((167772162:Int),(0:Int))],(0:Int),(0:Int),false,[(((0:Int),(0:Int)),[(0:Int)],(1:Int))],(1:Int),(0:Int),(0:Int),(0:Int),(0:Int),((0:Int),(0:Int)),false,false,(64:Int),(0:Int))],[((0:Int),(1:Int),(10:Int),(0:Int),(0:Int),(0:Int))],([]:List aM))
def BQ :=
 ((167772161:Int),(167772169:Int),(17:Int),(0:Int),(0:Int),(1:Int))
theorem aa7 :
 True->True->mP (ze)/\ ∀(a:(List ac×List aE×List aM)×Int×Int×Int×List (List aF×Int×List Int×(Int×Int)×Int)×List Int×List (Int×Int×Int×Int×Int×List Int)×List (Int×Int×List Int)×List (Int×Int×Int×Int×Int))(b:Int),a=tF (ze)/\b=d9 (ze)-> ∀(c:List Int)(d:Int),c=build (BQ)/\d=dI (BQ)->jt a/\(jR c)<=1000000/\ ∀(e:(List ac×List aE×List aM)×Int×Int×Int×List (List aF×Int×List Int×(Int×Int)×Int)×List Int×List (Int×Int×Int×Int×Int×List Int)×List (Int×Int×List Int)×List (Int×Int×Int×Int×Int))(f g:Int),e=kw a (0:Int) (0:Int) c/\f=me a (0:Int) (0:Int)/\g=fX a (0:Int) (0:Int)->jt e/\ ∀(h:(List ac×List aE×List aM)×Int×Int×Int×List (List aF×Int×List Int×(Int×Int)×Int)×List Int×List (Int×Int×Int×Int×Int×List Int)×List (Int×Int×List Int)×List (Int×Int×Int×Int×Int))(i:Int),h=mw e (100:Int)/\i=jd e (100:Int)-> ∀(j:Bool),j=decide
 (b=0)->(j->(j->j)/\True)/\(j->j)/\ ∀(k:Bool),(k=bif j then decide (g=0) else false)->(k->(k->k)/\True)/\(k->k)/\ ∀(l:Bool),(l=bif k then decide (i=0) else false)->(l->(l->l)/\True)/\(l->(l->l)/\True)/\(l->(l->l)/\True)/\(l->l)/\ ∀(m:Bool),(m=bif l then decide ((h.2.2.2.2.2.2.2.1.length:Int)=1) else false)->(m->(m->m)/\True)/\(m->(m->m)/\(0:Int)<=0/\0<(h.2.2.2.2.2.2.2.1.length:Int)/\True)/\(m->(m->m)/\True)/\(m->(m->m)/\True)/\(m->(m->m)/\True)/\(m->m)/\ ∀(n:Bool),(n=bif m then decide ((List.getD h.2.2.2.2.2.2.2.1 (Int.toNat (0:Int)) default).1=20) else false)->(n->(n->n)/\True)/\(n->(n->n)/\True)/\(n->n)/\(bif n then decide (h.2.1=100) else false)=true:=by
  delta ze jR BQ
  rintro - -
  refine⟨Ir,?_⟩
  rintro d x ⟨hd,hx⟩
  rintro b e ⟨rfl,-⟩
  have hd:d=jv m3:=by rw[hd];exact if_pos FZ
  have hx:x=0:=by rw[hx];exact FZ
  subst hd hx
  refine⟨.inl B9.sim,by have:=DJ (167772161,167772169,17,0,0,1);omega,?_⟩
  rintro d2 o e2 ⟨hd2,-,he2⟩
  have he2:e2=0:=he2.trans BP
  have hd2:d2=gb (jv m3) 0 0 rS:=by rw[hd2];unfold kw;rw[if_pos BP];rfl
  subst he2
  have hbl:((rS).length:Int)<=2000:=by have:=DJ (167772161,167772169,17,0,0,1);unfold rS;omega
  have ok2:=(B9.send (by decide) BP (b:=rS) (E8 _) hbl).1
  rw[← hd2] at ok2
  refine⟨.inl ok2.sim,?_⟩
  rintro d3 e3 ⟨hd3,he3⟩
  have hn:aV d2=0:=by rw[hd2];rfl
  have hr:jd d2 100=0:=by unfold jd;rw[hn];decide
  have he3:e3=0:=he3.trans hr
  subst he3
  have hd3:d3=j5 (gb (jv m3) 0 0 rS) 100:=by rw[hd3,← hd2];unfold mw;rw[if_pos hr]
  obtain⟨r1,r2,r3⟩:=UJ
  rw[← hd3] at r1 r2 r3
  have r1:d3.2.2.2.2.2.2.2.1.length=1:=r1
  have r2:(d3.2.2.2.2.2.2.2.1.getD (Int.toNat 0) default).1=20:=r2
  have r3:d3.2.1=100:=r3
  have rl:(d3.2.2.2.2.2.2.2.1.length:Int)=1:=by omega
  intro b1 hb1
  have hb1:b1=true:=by rw[hb1];decide
  subst hb1
  (repeat refine⟨(by simp),?_⟩)
  intro b2 hb2
  have hb2:b2=true:=by rw[hb2];decide
  subst hb2
  (repeat refine⟨(by simp),?_⟩)
  intro b3 hb3
  have hb3:b3=true:=by rw[hb3];decide
  subst hb3
  (repeat refine⟨(by simp),?_⟩)
  intro b4 hb4
  have hb4:b4=true:=by rw[hb4,rl];decide
  subst hb4
  (repeat refine⟨(by first|(simp;done)|(simp;omega)),?_⟩)
  intro b5 hb5
  have hb5:b5=true:=by rw[hb5,r2];decide
  subst hb5
  (repeat refine⟨(by simp),?_⟩)
  rw[r3];decide
theorem U3:ax Tryz.prog GL 8 Lv.spec:=Ct.okH _ Tryz.func8 (by kernel_rfl) (ah (ah (ah (ah aD (Ct.named Kf)) (Ct.named Jm)) (Ct.named F8)) (Ct.named He)) av RT (aC (by kernel_rfl) aa7)
def Nb:Cn:=⟨[.box 109 f8],[.agg mZ,.val .bool],fun d=>[ay d.1],fun d y=>ay y.2.1/\y.1.2.1=true∧∃ m,j7 m y.1.1,fun d h=>⟨((jv m3,true,()),(d.1,())),h.1,rfl,0,j7.aw⟩⟩
def aj5:ar Nb.ps->az:=(fun d=>{loops:=(fun n=>match n with|5=>some (fun S=>{ι:=Int×(List Int×Int)×au,qn:=⟨fun k_=>∀(k:Int)(c:(List Int×Int))(w:au),k_ (k,c,w),fun k_ h_ i=>h_ i.1 i.2.1 i.2.2,fun k_=>∃ (k:Int) (c:(List Int×Int)) (w:au),k_ (k,c,w),fun k_ ⟨k,c,w,h_⟩=>⟨_,h_⟩⟩,μ:=fun i=>i.1.toNat,inv:=fun i=>0<=i.1/\ay i.2.1∧∃ m,j7 m i.2.2/\m+i.1<=8,keep:=[0,2,4],slots:=fun i=>[(5,.ptr 96 0),(7,.bool true),(8,.int .i64 i.1)],keepN:=[48,80],names:=fun i=>[(1048576,.live (.cells 109 (cB f8 i.2.1))),(96,.live (.cells 37 (cB mZ i.2.2)))]})|_=>none)})
theorem Xb :
 ∀(a:List Int)(b:Int),((a.length<=maxLen/\ ∀(c:Int),c∈a->0<=c/\c<=255)/\ab b)/\True->0<=b/\b<=(a.length:Int)->ay (a,b)/\ ∀(c:List ac)(d:List aE)(e:List aM)(f:List Int)(g:Int),(c,d,e)=o3 false (a,b)/\(f,g)=wm false (a,b)->mP (c,d,e)/\ ∀(h:(List ac×List aE×List aM)×Int×Int×Int×List (List aF×Int×List Int×(Int×Int)×Int)×List Int×List (Int×Int×Int×Int×Int×List Int)×List (Int×Int×List Int)×List (Int×Int×Int×Int×Int))(i:Int),h=tF (c,d,e)/\i=d9 (c,d,e)->ay (f,g)/\ ∀(j:Int)(k:List Int)(l:Int),0<=j/\(j<8∨j=0)/\ay (k,l)->(∃(m:Int) (n:List Int×Int),∃(o:au),(0<=m/\ay n/\ ∃(p:Int),j7 p o/\p+m<=8)/\decide (i=0)=true/\IntKind.wrap .i64
 ((1:Int)+j)=m/\(0:Int)=0/\(0:Int)=0/\(0:Int)=0/\c=c/\d=d/\e=e/\k=n.1/\l=n.2/\h.1.1=o.1.1/\h.1.2.1=o.1.2.1/\h.1.2.2=o.1.2.2/\h.2.1=o.2.1/\h.2.2.1=o.2.2.1/\h.2.2.2.1=o.2.2.2.1/\h.2.2.2.2.1=o.2.2.2.2.1/\h.2.2.2.2.2.1=o.2.2.2.2.2.1/\h.2.2.2.2.2.2.1=o.2.2.2.2.2.2.1/\h.2.2.2.2.2.2.2.1=o.2.2.2.2.2.2.2.1/\h.2.2.2.2.2.2.2.2=o.2.2.2.2.2.2.2.2/\True)/\ ∀(m:Int)(n:List Int×Int)(o:au),(0<=m/\ay n/\ ∃(p:Int),j7 p o/\p+m<=8)->ad (decide (0<m)) (ay n/\ ∀(p:Int)(q:List Int)(r:Int),0<=p/\(p<40∨p=0)/\ay (q,r)->ay (q,r)/\ ∀(s t:List Int)(u:Int),ay (t,u)/\bytes s/\(s.length:Int)<=1600->jt o/\(s.length:Int)<=1000000/\ ∀(v:(List ac×List aE×List aM)×Int×Int×Int×List (List aF×Int×List Int×(Int×Int)×Int)×List Int×List (Int×Int×Int×Int×Int×List Int)×List (Int×Int×List Int)×List (Int×Int×Int×Int×Int))(w x:Int),v=kw o p (0:Int) s/\w=me o p (0:Int)/\x=fX o p (0:Int)->
 ∀(y:Bool),y->(y->(y->y)/\True)/\(y->y)/\ ∃(z:Int) (A:List Int×Int),∃(B:au),(0<=z/\ay A/\ ∃(C:Int),j7 C B/\C+z<=8)/\z.toNat<m.toNat/\(bif y then decide (x=0) else false)=true/\IntKind.wrap .i64 (m -(1:Int))=z/\(0:Int)=0/\(0:Int)=0/\(0:Int)=0/\c=c/\d=d/\e=e/\t=A.1/\u=A.2/\v.1.1=B.1.1/\v.1.2.1=B.1.2.1/\v.1.2.2=B.1.2.2/\v.2.1=B.2.1/\v.2.2.1=B.2.2.1/\v.2.2.2.1=B.2.2.2.1/\v.2.2.2.2.1=B.2.2.2.2.1/\v.2.2.2.2.2.1=B.2.2.2.2.2.1/\v.2.2.2.2.2.2.1=B.2.2.2.2.2.2.1/\v.2.2.2.2.2.2.2.1=B.2.2.2.2.2.2.2.1/\v.2.2.2.2.2.2.2.2=B.2.2.2.2.2.2.2.2/\True) (ay n/\true=true/\ ∃(p:Int),j7 p o):=by
  rintro l p ⟨⟨⟨-,hw⟩,-⟩,-⟩ hc
  have hB:bS (l,p):=⟨hc,hw⟩
  have hdn:=OL hB false
  have hports:=fun (i:Nat)=>am4 hB false (i:=i)
  have hcB:=am5 hB false
  refine⟨hc,?_⟩
  rintro ns ls hs l1 p1 ⟨hnet,hcod⟩
  rw[← hnet] at hdn hports
  rw[← hcod] at hcB
  have hok:=hdn.newOk hports
  have hchk:=hdn.right hports
  refine⟨Ob hdn.nb (by decide),?_⟩
  rintro d x ⟨hd,hx⟩
  have hd:d=jv (ns,ls,hs):=by rw[hd];exact if_pos hchk
  have hx:x=0:=by rw[hx];exact hchk
  subst hd hx
  refine⟨hcB.1,?_⟩
  rintro k l2 p2 ⟨k0,k1,hc2⟩
  refine⟨⟨1+k,(l2,p2),jv (ns,ls,hs),⟨by omega,hc2,0,j7.new hok,by omega⟩,by decide,(by repeat' first|exact trivial|refine⟨trivial,?_⟩|refine⟨(by with_reducible rfl),?_⟩|refine⟨ai (by omega) (by omega),?_⟩|refine⟨rfl,?_⟩)⟩,?_⟩
  rintro k c w ⟨k0,hc3,m,hm,hmk⟩
  refine ae (fun hk=>?_) (fun hk=>⟨hc3,rfl,m,hm⟩)
  have hk:=of_decide_eq_true hk
  refine⟨hc3,?_⟩
  rintro t l4 p4 ⟨t0,t1,hc4⟩
  refine⟨hc4,?_⟩
  rintro b l5 p5 ⟨hc5,hb,hbl⟩
  obtain⟨he,hs'⟩:=hm.send (by omega) t0 (by omega) hb (by omega)
  refine⟨.inl hm.ok.sim,by omega,?_⟩
  rintro d o e ⟨hd,-,he'⟩
  have hd:d=gb w t 0 b:=by rw[hd];exact if_pos he
  have he':e=0:=he'.trans he
  subst hd he'
  rintro b1 rfl
  (repeat refine⟨(by simp;done),?_⟩)
  rw[ai (by have:=hm.m9;omega) (by have:=hm.m9;omega)]
  exact⟨k-1,(l5,p5),gb w t 0 b,⟨by omega,hc5,m+1,hs',by omega⟩,by omega,by decide,(by repeat' first|exact trivial|refine⟨trivial,?_⟩|refine⟨(by with_reducible rfl),?_⟩|refine⟨ai (by omega) (by omega),?_⟩|refine⟨rfl,?_⟩)⟩
theorem ap5:ax Tryz.prog GL 10 Nb.spec:=Cn.okH _ Tryz.func10 (by kernel_rfl) (ah (ah (ah (ah (ah aD (Ct.named QZ)) (Ct.named Kf)) pQ) ar1) (Ct.named F8)) av aj5 (aC (by kernel_rfl) Xb)
end Go.RS

/- Law15: the laws about the simulator. -/
namespace Go.RS
open Go.SX Go.Proofs
set_option maxRecDepth 100000
set_option linter.unusedVariables false
set_option maxHeartbeats 2000000
def VY:lY:=[(false,.sl bj),(false,.sl bj)]
structure yh (sent:Int) (v:au) (t:Int):Prop where
 ok:rb v
 t0:0<=t/\t<=aV v
 s:0<=sent
 en:∀ e∈bf v,0<=xn e/\0<=tZ e/\tZ e<sent
 fl:∀ f∈am v,0<=dM f/\dM f<sent
 og:∀ o,0<=o->o<sent->tD (jh o (am v)) (kZ o (bf v))
theorem cL.wait{v:au}{B to:Int}(h:cL B v)(hb:gG v to=false)(ha:0<=to/\to<=1125899906842624):cL B (bU v to):=⟨h.b,h.sB.wait hb ha,h.a,h.c,h.dd,h.e,h.d⟩
theorem cL.runs{w:au}{B to:Int}(h:cL B w)(ha:0<=to/\to<=1125899906842624):cL B (j5 w to):=by
 obtain⟨k1,k2,-⟩:=h.run (to:=to) _ (Nat.le_refl _)
 exact (k1.wait k2 ha).change
theorem cL.lands{w:au}{B:Int}(h:cL B w){f:aH}{r:List aH}(e:am w=f::r):Cv (dh w) f (cH w):=by
 have a:=h.at e
 have es:cH w=dD (dh w) (f7 w):=rfl
 rw[es,a.eF]
 exact Go.RS.lands a.s.weak a.fk.wk a.now.symm (by rw[a.net];exact h.a)
theorem yh.step{s t:Int}{v:au}(h:yh s v t){f:aH}{r:List aH}(e:am v=f::r):t<=aV (cH v)/\yh s (cH v) (aV (cH v)):=by
 have a:=h.ok.at e
 obtain⟨es,l1,l2,l3⟩:=(h.ok.lands e).a
 obtain⟨-,-,s3,-⟩:=h.ok.s.weak.step e
 have hfk:=h.ok.s.fo f (by rw[e];exact List.mem_cons_self)
 have hof:=h.fl f (by rw[e];exact List.mem_cons_self)
 have ht:=hfk.t
 have hn:=h.ok.s.now
 rw[a.en] at l2
 rw[a.fl] at l3
 have h0:=h.t0
 refine⟨by omega,(h.ok.step e).1,⟨by omega,Int.le_refl _⟩,h.s,fun x hx=>?_,fun g hg=>?_,fun o o0 o1=>al8 h.ok.s.weak h.ok.a e (h.og o o0 o1)⟩
 ·rw[l2] at hx
  rcases List.mem_append.1 hx with hx|hx
  ·exact h.en x hx
  ·obtain⟨q1,q2⟩:=l1 x hx
   rw[q1,q2]
   exact⟨by omega,hof⟩
 ·have hr:∀ g∈r,0<=dM g/\dM g<s:=fun g hg=>h.fl g (by rw[e];exact List.mem_cons_of_mem _ hg)
  rcases l3 with⟨q,-⟩|⟨g2,q1,-,q,-⟩
  ·rw[q] at hg;exact hr g hg
  ·rw[q] at hg
   rcases rN.1 hg with rfl|hg
   ·rw[q1];exact hof
   ·exact hr g hg
theorem yh.new{d:au}{m:Int}(h:j7 m d):yh (aS d) d 0 :=
 ⟨h.ok.sim,⟨Int.le_refl _,by rw[h.now];exact Int.le_refl _⟩,by have:=h.m9;rw[h.ord];omega,fun e he=>(by rw[h.en] at he;cases he),fun f hf=>(h.ok.s.fo f hf).g,h.og⟩
def wk(B:Int)(w:au):Prop:=cL B w∨mH w
theorem wk.e{B:Int}{w:au}(h:wk B w):jt w:=h.elim (fun q=>.inl q.sim) .inr
theorem wk.more{B B':Int}{w:au}(h:wk B w)(h1:B<=B')(h2:B'<=549755813888):wk B' w:=h.elim (fun q=>.inl (q.more h1 h2)) .inr
theorem Xe:mH wo:=⟨rfl,Int.le_refl _,by decide⟩
theorem wk.step{B:Int}{w:au}(h:wk B w):wk B (Mj w):=by
 unfold Mj
 split
 ·exact h
 ·rename_i k
  rcases h with h|h
  ·cases e:am w with
   | nil=>exact absurd e k
   | cons f r=>exact .inl (h.step e).1
  ·exact absurd h.fl k
theorem wk.run{B to:Int}{w:au}(h:wk B w):wk B (mw w to):=by
 unfold mw
 split
 ·rename_i k
  unfold jd at k
  split at k
  ·cases k
  rename_i k1
  split at k
  ·cases k
  rename_i k2
  rcases h with h|h
  ·have:=h.s.now
   exact .inl (h.runs ⟨by omega,by omega⟩)
  ·refine .inr ?_
   have e:j5 w to=bU wo to:=by rw[h.1];rfl
   rw[e]
   have:=h.2
   exact⟨rfl,by show 0<=to;omega,by show to<=_;omega⟩
 ·exact .inr Xe
theorem wk.send{B:Int}{w:au}(h:wk B w)(hB:B+4000<=549755813888){at' who:Int}{b:List Int}(he:fX w at' who=0)(hb:bytes b)(hl:(b.length:Int)<=2000):wk (B+4000) (kw w at' who b):=by
 unfold kw
 rw[if_pos he]
 rcases h with h|h
 ·exact .inl (h.send hB he hb hl).1
 ·unfold fX at he
  have e0:((ao w).1.length:Int)=0:=by rw[h.1];rfl
  rw[if_pos (by omega)] at he
  cases he
def Ow:Ct:=xo VY
def WW:ar Ow.ps->az:=(fun _=>{})
def AA(h m:Int) :=
 IntKind.wrap .i64 (IntKind.wrap .i64 (h+(1:Int))+m)
theorem X1 :
 ∀(a b:List Int),(a.length<=maxLen/\ ∀(c:Int),c∈a->0<=c/\c<=255)/\(b.length<=maxLen/\ ∀(c:Int),c∈b->0<=c/\c<=255)/\True->True-> ∀(c:Bool),c= ! true->((! c)->((! c)->(! c))/\True)/\((! c)->((! c)->(! c))/\True)/\(c=false->(! c))/\ad (bif c then true else decide (1500<(b.length:Int))) (decide (1500<(b.length:Int))=true) ((0:Int)<=500/\ay (if (a.length:Int)<=500 then a else List.take (Int.toNat (500:Int)) a,(0:Int))/\ ∀(d:(List ac×List aE×List aM)×Int×Int×Int×List (List aF×Int×List Int×(Int×Int)×Int)×List Int×List (Int×Int×Int×Int×Int×List Int)×List (Int×Int×List Int)×List (Int×Int×Int×Int×Int))(e:Bool)(f:List Int)(g:Int),(ay (f,g)/\e=true/\ ∃(h:Int),j7 h d)->ad (! e) (false=true) (ay (f,g)/\ ∀(h:Int)(i:List Int)(j:Int),0<=h/\(h<60∨h=0)/\ay (i,j)->jt d/\ ∀(k:(List ac×List aE×List aM)×Int×Int×Int×List (List aF×Int×List Int×(Int×Int)×Int)×List Int×List
 (Int×Int×Int×Int×Int×List Int)×List (Int×Int×List Int)×List (Int×Int×Int×Int×Int)) (l:Int),k=mw d h/\l=jd d h->ay (i,j)/\ ∀(m:Int)(n:List Int)(o:Int),0<=m/\(m<9∨m=0)/\ay (n,o)->jt d/\(b.length:Int)<=1000000/\ ∀(p:(List ac×List aE×List aM)×Int×Int×Int×List (List aF×Int×List Int×(Int×Int)×Int)×List Int×List (Int×Int×Int×Int×Int×List Int)×List (Int×Int×List Int)×List (Int×Int×Int×Int×Int))(q r:Int),p=kw d (AA h m) (0:Int) b/\q=me d (AA h m) (0:Int)/\r=fX d (AA h m) (0:Int)->jt p/\ ∀(s:(List ac×List aE×List aM)×Int×Int×Int×List (List aF×Int×List Int×(Int×Int)×Int)×List Int×List (Int×Int×Int×Int×Int×List Int)×List (Int×Int×List Int)×List (Int×Int×Int×Int×Int))(t:Int),s=mw p h/\t=jd p h-> ∀(u:Bool),u= ! decide (l=0)->((! u)->((! u)->(! u))/\True)/\(u=false->(! u))/\ ∀(v:Bool),(v=bif u then true else ! decide (r=0))->((! v)->((! v)->(!
 v))/\True)/\(v=false->(! v))/\ad (bif v then true else ! decide (t=0)) (false=true) (∀(w:Bool),w=decide (k.2.2.2.2.2.2.2.2=s.2.2.2.2.2.2.2.2)->(w->(w->w)/\True)/\(w->(w->w)/\True)/\(w->(w->w)/\True)/\(w->(w->w)/\True)/\(w->(w->w)/\(w->w)/\True)/\(w->w)/\ ∀(x:Bool),(x=bif w then decide ((k.2.2.2.2.2.2.2.1.length:Int)=(s.2.2.2.2.2.2.2.1.length:Int)) else false)->(x->(x->x)/\True)/\(x->(x->x)/\True)/\(x->(x->x)/\True)/\(x->(x->x)/\True)/\(x->(x->x)/\True)/\(x->(x->x)/\(x->x)/\True)/\(x->x)/\(bif x then decide (IntKind.wrap .i64 ((k.2.2.2.2.2.2.1.length:Int)+(1:Int))=(s.2.2.2.2.2.2.1.length:Int)) else false)=true))):=by
  delta AA
  rintro a b ⟨-,⟨hbm,hb⟩,-⟩ -
  (repeat (intro (b_:Bool) (hb_:b_=_);(repeat refine⟨(by first|(simp;done)|(rw[hb_];simp;done)|(rw[hb_];simp;omega)|(rw[hb_];simp;intros;omega)|(rw[hb_];simp +contextual;done)),?_⟩);subst hb_))
  refine ae (fun h=>h) (fun h=>?_)
  have hl:(b.length:Int)<=1500:=by
   have h:decide ((1500:Int)<(b.length:Int))=false:=h
   have:=of_decide_eq_false h;omega
  have hb:bytes b:=hb
  refine⟨by decide,⟨Int.le_refl _,Int.natCast_nonneg _⟩,?_⟩
  rintro d ok l2 p2 ⟨hc2,hok,m,hm⟩
  have hok:ok=true:=hok
  subst hok
  refine ae (fun h=>absurd h (by decide)) (fun _=>?_)
  refine⟨hc2,?_⟩
  rintro dw l3 p3 ⟨k0,k1,hc3⟩
  have hm9:=hm.m9
  have hnow:=hm.now
  have hE:jd d dw=0:=by unfold jd;rw[if_neg (by omega),if_neg (by omega)]
  refine⟨.inl hm.ok.sim,?_⟩
  rintro d1 e1 ⟨hd1,he1⟩
  have hd1:d1=j5 d dw:=by rw[hd1];exact if_pos hE
  have he1:e1=0:=he1.trans hE
  subst he1
  refine⟨hc3,?_⟩
  rintro k l4 p4 ⟨j0,j1,hc4⟩
  refine⟨.inl hm.ok.sim,by omega,?_⟩
  rintro d2 o e2 ⟨hd2,-,he2⟩
  rw[ai (n:=dw+1) (by omega) (by omega),ai (n:=dw+1+k) (by omega) (by omega)] at hd2 he2
  have hS:fX d (dw+1+k) 0=0:=by
   have hn:=tq hm.ok.s.net
   have:=hm.fn
   unfold fX
   rw[if_neg (by omega),if_neg (by omega),if_neg (by omega),if_neg (by omega)]
  have hd2:d2=gb d (dw+1+k) 0 b:=by rw[hd2];exact if_pos hS
  have he2:e2=0:=he2.trans hS
  subst he2
  obtain⟨g1,-,-⟩:=hm.ok.send (by omega) hS hb (by omega)
  rw[← hd2] at g1
  refine⟨.inl g1.sim,?_⟩
  rintro d3 e3 ⟨hd3,he3⟩
  have hn2:aV d2=0:=by rw[hd2];exact hnow
  have hE2:jd d2 dw=0:=by unfold jd;rw[if_neg (by omega),if_neg (by omega)]
  have hd3:d3=j5 d2 dw:=by rw[hd3];exact if_pos hE2
  have he3:e3=0:=he3.trans hE2
  subst he3
  have hfn:=(hm.ok.runs (to:=dw) ⟨by omega,by omega⟩).s.fn
  have R:=au9 hm.ok.s.weak (c:=dw) (at':=dw+1+k) (who:=0) (b:=b) (by omega) (by have:=hm.fn;omega)
  rw[← hd2,← hd3,← hd1] at R
  rw[← hd1] at hfn
  obtain⟨r1,r2,r3⟩:=R
  have r1:d1.2.2.2.2.2.2.2.2=d3.2.2.2.2.2.2.2.2:=r1.symm
  have r2:d1.2.2.2.2.2.2.2.1=d3.2.2.2.2.2.2.2.1:=r2.symm
  have r3:d3.2.2.2.2.2.2.1.length=d1.2.2.2.2.2.2.1.length+1:=r3
  have hfn:d1.2.2.2.2.2.2.1.length<=4096:=hfn
  clear hd1 hd2 hd3 g1 hm
  intro b1 hb1
  have hb1:b1=false:=by rw[hb1];rfl
  subst hb1
  (repeat refine⟨(by simp;done),?_⟩)
  intro b1 hb1
  have hb1:b1=false:=by rw[hb1];rfl
  subst hb1
  (repeat refine⟨(by simp;done),?_⟩)
  refine ae (fun h=>absurd h (by decide)) (fun _=>?_)
  intro b1 hb1
  have hb1:b1=true:=by rw[hb1];exact decide_eq_true r1
  subst hb1
  (repeat refine⟨(by simp;done),?_⟩)
  intro b2 hb2
  have hb2:b2=true:=by rw[hb2,r2];simp
  subst hb2
  (repeat refine⟨(by simp;done),?_⟩)
  rw[ai (by omega) (by omega),r3]
  simp
theorem ok_law15_SimulateRepeats:ax Tryz.prog GL 3 Ow.spec:=Ct.okH _ Tryz.func3 (by kernel_rfl) (ah (ah (ah (ah (ah (ah (ah aD U3) aa3) ap5) pQ) (Ct.named He)) (Ct.named F8)) YP) av WW (aC (by kernel_rfl) X1)
end Go.RS
