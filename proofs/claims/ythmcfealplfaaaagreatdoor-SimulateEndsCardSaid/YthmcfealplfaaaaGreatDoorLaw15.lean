/- Drawn4: drawn networks are in order. -/
import Derived.Test.YthmcfealplfaaaaGreatDoorSx25
import Derived.Test.YthmcfealplfaaaaGreatDoorLaw13c
import Derived.Test.YthmcfealplfaaaaGreatDoorDrawsome
namespace Go.RS
open Go.SX Go.Proofs
set_option maxRecDepth 100000
set_option linter.unusedVariables false
theorem HV(i:Int):∀(k:Nat)(ls:List aE),(∀ l∈ls,lA l≠lB l)->(portsF i k ls).Pairwise (fun a b=>a.2<b.2/\a.1<b.1)∧∀ q∈portsF i k ls,(k:Int)<=q.2/\dQ k<q.1
 | _,[],_=>by simp[portsF]
 | k,l::r,h=>by
  obtain⟨h1,h2⟩:=HV i (k+1) r (fun x hx=>h x (List.mem_cons_of_mem _ hx))
  have hl:=h l List.mem_cons_self
  have e:mZ i k l=[]∨∃ a:Int,(a=1∨a=2)/\mZ i k l=[(dQ k+a,(k:Int))]:=by
   unfold mZ
   by_cases ha:lA l=i
   ·rw[if_pos ha,if_neg (by omega)];exact .inr ⟨1,.inl rfl,rfl⟩
   ·rw[if_neg ha]
    by_cases hb:lB l=i
    ·rw[if_pos hb];exact .inr ⟨2,.inr rfl,rfl⟩
    ·rw[if_neg hb];exact .inl rfl
  rw[portsF]
  unfold dQ at *
  rcases e with e|⟨a,ha,e⟩ <;> rw[e]
  ·rw[List.nil_append]
   exact⟨h1,fun q hq=>by have:=h2 q hq;omega⟩
  ·rw[List.singleton_append]
   refine⟨List.pairwise_cons.2 ⟨fun q hq=>?_,h1⟩,fun q hq=>?_⟩
   ·have:=h2 q hq;simp only;omega
   ·rcases List.mem_cons.1 hq with rfl|hq
    ·simp only;omega
    ·have:=h2 q hq;omega
theorem KV{l:List lO}{q:lO->Bool}{i:Nat}(hi:i<l.length)(hq:q (l.getD i default)=true)(hn:∀ j:Nat,j<i->q (l.getD j default)=false):fM q l=i:=by
 have e:l.findIdx q=i:=by
  rw[List.findIdx_eq hi]
  refine⟨by rwa [List.getD_eq_getElem?_getD,List.getElem?_eq_getElem hi,Option.getD_some] at hq,fun j hj=>?_⟩
  have:=hn j hj
  rwa [List.getD_eq_getElem?_getD,List.getElem?_eq_getElem (by omega),Option.getD_some] at this
 unfold fM
 rw[e,if_pos hi]
theorem Wz{q:Int×Int->Bool}{l:List (Int×Int)}{y:Int×Int}(hy:y∈l)(hq:q y=true):0<=fM q l:=by
 have hlt:l.findIdx q<l.length:=List.findIdx_lt_length_of_exists ⟨y,hy,hq⟩
 unfold fM;rw[if_pos hlt];omega
theorem L7{α:Type} [Inhabited α] {R:α->α->Prop} {l:List α} (h:l.Pairwise R) {k j:Nat} (hk:k<j) (hj:j<l.length):R (l.getD k default) (l.getD j default):=by
 rw[List.getD_eq_getElem?_getD,List.getD_eq_getElem?_getD,List.getElem?_eq_getElem hj,List.getElem?_eq_getElem (by omega),Option.getD_some,Option.getD_some]
 exact List.pairwise_iff_getElem.1 h _ _ _ _ hk
theorem DZ{a:Int}(h:167837696<=a/\a<=167903300):fg a:=by
 right
 unfold fJ
 have:a/16777216=10:=by omega
 rw[if_neg (by omega),if_neg (by omega),if_pos (.inl this)]
theorem at6{a n:Int}(h:n=32):jb (a,n)=true:=by
 subst h
 unfold jb
 have:sz 32=1:=by decide
 rw[this]
 simp only[decide_eq_true_eq]
 omega
theorem IB{links:List Int}:∀{l:List Rt}{q:Option cJ},bI l->(∀ p,q=some p→∀ r∈l,aW p r.1)->(∀ r∈l,jb r.1=true/\jS r links)->chk links q l=0
 | [],_,_,_,_=>rfl
 | r::rs,q,hs,hq,hr=>by
  obtain⟨v,w⟩:=hr r List.mem_cons_self
  obtain⟨s1,s2⟩:=List.pairwise_cons.1 hs
  rw[chk,if_neg (by rw[v];simp)]
  have e:q.any (fun q=>decide (0<=fa q r.1))=false:=by
   cases q with
   | none=>rfl
   | some p =>
    have:=hq p rfl r List.mem_cons_self
    simp only[Option.any_some,decide_eq_false_iff_not]
    rw[EM];exact fun k=>k this
  rw[if_neg (by rw[e];simp),if_neg (by simpa using w)]
  exact IB s2 (fun p hp x hx=>by cases hp;exact s1 x hx) (fun x hx=>hr x (List.mem_cons_of_mem _ hx))
structure GT (m:Nat) (links:List Int) (l:List Rt):Prop where
 s:bI l
 n:l.length<=m
 r:∀ r∈l,jb r.1=true/\jS r links
theorem GT.ok{m:Nat}{links:List Int}{l:List Rt}(h:GT m links l)(hm:m<=64):dj l links=0:=by
 have:=h.n
 unfold dj
 rw[if_neg (by omega)]
 exact IB h.s (fun p hp=>by cases hp) h.r
theorem DN.gt{n:bt}(h:DN n){i:Nat}(hi:i<n.1.length):GT 20 (br (n.1.getD i default)) (aQ (n.1.getD i default)):=by
 have t:=h.t i hi
 refine⟨t.1,Nl t,fun r hr=>?_⟩
 have k:=t.2 r hr
 have l10:=h.l10
 have hl:=Dj k
 refine⟨at6 k.len,⟨by omega,fun j hj=>⟨fun h0=>?_,?_⟩⟩,k.w0,k.w1⟩
 ·rw[List.getD_eq_getElem?_getD,List.getD_eq_getElem?_getD,List.getElem?_eq_getElem hj,List.getElem?_eq_getElem (by omega),Option.getD_some,Option.getD_some]
  exact List.pairwise_iff_getElem.1 k.pw _ _ _ _ (by omega)
 ·rw[(h.links hi)]
  rw[List.getD_eq_getElem?_getD,List.getElem?_eq_getElem hj,Option.getD_some]
  exact k.ln _ (List.getElem_mem hj)
theorem DN.pw{n:bt}(h:DN n){i:Nat}(hi:i<n.1.length):(aA (n.1.getD i default)).Pairwise (fun a b=>a.2<b.2/\a.1<b.1):=by
 rw[h.p i hi]
 exact (HV i 0 n.2.1 fun l hl=>(h.g l hl).2.2.1).1
theorem DN.node{n:bt}(h:DN n){i:Nat}(hi:i<n.1.length)(hp:0<(aA (n.1.getD i default)).length):eh (n.1.getD i default)=0:=by
 have pw:=h.pw hi
 have d:=h.d i hi
 have n7:=h.n7
 have l10:=h.l10
 have hlen:(aA (n.1.getD i default)).length<=20:=by
  rw[h.p i hi]
  have:=yl i 0 n.2.1;omega
 have gt:=h.gt hi
 have ports:∀ j:Nat,j<(aA (n.1.getD i default)).length->fN (n.1.getD i default) j=0:=fun j hj=>by
  have hm:(aA (n.1.getD i default)).getD j default∈aA (n.1.getD i default):=mq hj
  have hadr:=h.padr hi (List.mem_map_of_mem (f:=(·.1)) hm)
  have hlnk:=(h.links hi).1 (List.mem_map_of_mem (f:=(·.2)) hm)
  have ne:∀ k:Nat,k<j->((aA (n.1.getD i default)).getD k default).2<((aA (n.1.getD i default)).getD j default).2/\((aA (n.1.getD i default)).getD k default).1<((aA (n.1.getD i default)).getD j default).1:=fun k hk=>L7 pw hk hj
  have ea:jQ (n.1.getD i default) ((aA (n.1.getD i default)).getD j default).1=j:=KV hj (by simp[iX]) (fun k hk=>by have:=ne k hk;simp only[iX,decide_eq_false_iff_not];omega)
  have el:cF (n.1.getD i default) ((aA (n.1.getD i default)).getD j default).2=j:=KV hj (by simp[gG]) (fun k hk=>by have:=ne k hk;simp only[gG,decide_eq_false_iff_not];omega)
  have hu:fg ((aA (n.1.getD i default)).getD j default).1:=DZ (by omega)
  unfold fN
  have:=hlnk.1
  rw[ea,el,if_neg (by rintro (k|k);exact k hu;omega),if_neg (by omega)]
 have hloop:¬ mb (n.1.getD i default):=by
  rintro⟨k0,k⟩
  have hl:=d.loop.resolve_left k0
  rcases k with k|k
  ·exact k (DZ (by omega))
  ·have:=h.padr hi (Rw.1 k)
   omega
 have hform:¬ kL (n.1.getD i default):=by
  have o:=d.own
  have f:=d.first
  unfold kL
  rintro (k|k|⟨k1,k2⟩|⟨k1,k2⟩|⟨k1,k2⟩|k|k)
  ·omega
  ·rcases d.src with s|⟨s,-⟩|⟨s,-⟩ <;> omega
  ·rcases d.src with s|⟨s,s2⟩|⟨s,-⟩ <;> omega
  ·have:=d.fix.resolve_left k1
   exact k2 (DZ (by omega))
  ·rcases d.src with s|⟨s,s2⟩|⟨s,s2⟩ <;> omega
  ·omega
  ·omega
 have hid:iw (n.1.getD i default)=0:=by
  unfold iw
  rw[if_pos]
  obtain⟨⟨a,b⟩,⟨c,e⟩,f,g⟩:=d.id
  exact decide_eq_true ⟨a,b,c,e,f,g⟩
 have hb:gD (io (n.1.getD i default))=0:=by
  unfold gD
  rw[if_pos]
  rcases d.lim with k|k
  ·exact .inl k
  ·right;omega
 rw[LM (by omega) (BM ports) hloop hform,if_neg (fun k=>k hid),if_neg (fun k=>k hb)]
 exact gt.ok (by omega)
theorem GQ(ns:List ac)(a:Int):∀ k:Nat,dM a (dZ ns k)=true↔∃ j:Nat,j<k/\a∈eZ (ns.getD j default)
 | 0=>by simp[dZ,dM]
 | k+1=>by
  have e:dZ ns (k+1)=jV k (eZ (ns.getD k default)) (dZ ns k):=by unfold dZ;rw[List.range_succ,List.foldl_append];rfl
  rw[e,BP.1,Bool.or_eq_true,decide_eq_true_iff,GQ ns a k]
  constructor
  ·rintro (h|⟨j,hj,h⟩)
   ·exact⟨k,by omega,h⟩
   ·exact⟨j,by omega,h⟩
  ·rintro⟨j,hj,h⟩
   by_cases e:j=k
   ·subst e;exact .inl h
   ·exact .inr ⟨j,by omega,h⟩
theorem DN.tabs{n:bt}(h:DN n):∀ i:Nat,i<=n.2.2.length→∀ k:Nat,k<n.1.length->GT (20+i) (br (n.1.getD k default)) ((cU n i).getD k default)
 | 0,_,k,hk=>by
  rw[cU,xK hk];exact h.gt hk
 | i+1,hi,k,hk=>by
  have ih:=h.tabs i (by omega)
  have hc:=h.c _ (mq (i:=i) (xs:=n.2.2) (by omega))
  rw[cU]
  by_cases e:(bq (n.2.2.getD i default)).toNat=k
  ·rw[e,ic (by rw[oa];omega)]
   have g:=ih k hk
   obtain⟨r,hr,p1,p2⟩:=hc.p
   rw[e] at hr
   have gr:=(h.gt hk).r r hr
   have hx:=hc.x
   rw[e] at hx
   refine⟨?_,?_,fun x hx'=>?_⟩
   ·unfold fF;rw[if_neg (by rw[hc.r];simp)];exact FC g.s
   ·unfold fF;rw[if_neg (by rw[hc.r];simp)]
    have:=Mt ((cU n i).getD k default) (cX (n.2.2.getD i default))
    have:=g.n
    omega
   ·unfold fF at hx';rw[if_neg (by rw[hc.r];simp)] at hx'
    rcases IY hx' with rfl|hx'
    ·refine⟨by rw[p1];exact gr.1,⟨?_,by rw[p2];exact gr.2.2⟩⟩
     rcases hx with q|⟨y,hy,q⟩ <;> rw[q]
     ·exact⟨by simp,fun j hj=>absurd hj (by simp)⟩
     ·refine⟨by simp,fun j hj=>?_⟩
      have:j=0:=by simpa using hj
      subst this
      exact⟨fun k=>absurd k (by omega),List.mem_map_of_mem (f:=(·.2)) hy⟩
    ·exact g.r x hx'
  ·have g:=ih k hk
   have e2:((cU n i).set (bq (n.2.2.getD i default)).toNat (fF ((cU n i).getD (bq (n.2.2.getD i default)).toNat default) (n.2.2.getD i default))).getD k default=(cU n i).getD k default:=by
    exact j9 e
   rw[e2]
   exact⟨g.s,by have:=g.n;omega,g.r⟩
theorem DN.right{n:bt}(h:DN n)(hp:∀ i:Nat,i<n.1.length->0<(aA (n.1.getD i default)).length):dV n=0:=by
 have n3:=h.n3
 have n7:=h.n7
 have l10:=h.l10
 have h3:=h.h3
 have e1:nE n=0:=by unfold nE;rw[if_neg (by omega)]
 have e2:lw n=0:=by
  unfold lw
  rw[if_pos]
  rw[List.all_eq_true]
  intro l hl
  obtain⟨a,b,c,d,e,f,g⟩:=h.g l hl
  refine decide_eq_true ?_
  unfold iB
  omega
 have e3:lp n=0:=BM fun i hi=>by
  unfold lX
  rw[if_neg (fun k=>k (h.node hi (hp i hi))),if_neg]
  rw[List.any_eq_true]
  rintro⟨k,hk,hs⟩
  obtain⟨a,b,c⟩:=(h.links hi).1 hk
  unfold nL at hs
  simp only[Bool.or_eq_true,Bool.not_eq_true',decide_eq_true_eq,Bool.or_eq_false_iff,decide_eq_false_iff_not] at hs
  rcases hs with hs|⟨s1,s2⟩
  ·omega
  ·rcases c with c|c
   ·exact s1 c
   ·exact s2 c
 have e4:nX n=0:=by
  unfold nX
  rw[if_neg]
  rw[List.any_eq_true]
  rintro⟨k,hk,hs⟩
  have hk:=List.mem_range.1 hk
  obtain⟨⟨a0,a1⟩,⟨b0,b1⟩,-⟩:=h.g _ (mq hk)
  unfold nQ at hs
  simp only[Bool.or_eq_true,decide_eq_true_eq] at hs
  have key:∀ i:Int,0<=i->i<n.1.length->(lA (n.2.1.getD k default)=i∨lB (n.2.1.getD k default)=i)→¬ cF (n.1.getD i.toNat default) k<0:=fun i i0 i1 hq hlt=>by
   have hi:i.toNat<n.1.length:=by omega
   have:(k:Int)∈br (n.1.getD i.toNat default):=(h.links hi).2 ⟨by omega,by omega,by rw[Int.toNat_natCast];rcases hq with q|q;left;omega;right;omega⟩
   obtain⟨y,hy,e⟩:=List.mem_map.1 this
   have:=Wz (q:=gG k) hy (by simp[gG,e])
   have e5:cF (n.1.getD i.toNat default) k=fM (gG k) (aA (n.1.getD i.toNat default)):=rfl
   omega
  rcases hs with hs|hs
  ·exact key _ a0 a1 (.inl rfl) hs
  ·exact key _ b0 b1 (.inr rfl) hs
 have e5:pd n=0:=by
  unfold pd
  rw[if_neg]
  unfold LO
  rw[List.any_eq_true]
  rintro⟨i,hi,hs⟩
  have hi:=List.mem_range.1 hi
  obtain⟨a,ha,hm⟩:=List.any_eq_true.1 hs
  obtain⟨j,hj,hb⟩:=(GQ n.1 a i).1 hm
  have:=h.apart (i:=i) (j:=j) hi (by omega) ha hb
  omega
 have e6:oG n=0:=by
  unfold oG
  rw[if_neg]
  rw[List.any_eq_true]
  rintro⟨l,hl,hs⟩
  rw[h.o l hl] at hs;cases hs
 have e7:m4 n=0:=BM fun i hi=>by
  have hc:=h.c _ (mq (i:=i) (xs:=n.2.2) hi)
  have ha:=hc.at'
  have hw:=hc.w
  have hk:(bq (n.2.2.getD i default)).toNat<n.1.length:=by omega
  have hs:0<i->fW (n.2.2.getD (i-1) default)<=fW (n.2.2.getD i default):=fun h0=>L7 h.s (by omega) hi
  have g:=h.tabs (i+1) (by omega) _ hk
  rw[cU,ic (by rw[oa];omega)] at g
  unfold ig mw
  rw[if_neg (by omega),if_neg (by rintro⟨k0,k1⟩;have:=hs k0;omega),if_neg (by omega),if_neg (by rintro⟨k0,-⟩;rw[hc.r] at k0;cases k0)]
  exact g.ok (by omega)
 unfold dV mH
 simp[e1,e2,e3,e4,e5,e6,e7]
end Go.RS

/- Law15a: what the laws about the simulator draw. -/
namespace Go.RS
open Go.SX Go.Proofs
set_option maxRecDepth 100000
set_option linter.unusedVariables false
set_option maxHeartbeats 1000000
theorem J0{k:Int}{n:bt}(h:M7 k n)(hk:k<=1000000):mR n:=by
 obtain⟨h1,h2,h3,h4,h5⟩:=h
 refine⟨by omega,by omega,by omega,fun x hx=>?_,fun c hc=>?_⟩
 ·obtain⟨a,b,c⟩:=h4 x hx
  exact⟨by show (x.1.length:Int)<=1000000;omega,by omega,fun r hr=>by have:=c r hr;omega⟩
 ·have:=h5 c hc
  show (c.2.2.2.2.1.length:Int)<=_
  omega
theorem cE.new{n:bt}{B:Int}(h:dV n=0)(ha:tZ n)(hc:mR n)(h0:0<=B)(h1:B<=549755813888):cE B (js n):=by
 have e:gb (js n)=0:=rfl
 exact⟨h1,by rw[e];exact (ck.new h).more (by omega),ha,hc,fun x hx=>(by cases hx),by rw[e];show ((0:Nat):Int)+2*((0:Nat):Int)<=B;omega,by rw[e];show ((0:Nat):Int)+((0:Nat):Int)<=B;omega⟩
theorem VQ{n:bt}{f:aL}(hb:bytes (cW f)):mW n f<=1114:=by
 have:=HJ hb
 unfold mW
 have h1:(if dw (n.1.getD (aN f).toNat default)=true then 1 else 0)<=1:=by split <;> omega
 have h2:(if dP f = -1 then 2 else 0)<=2:=by split <;> omega
 have h3:(if cf (cW f) then 600 else 0)<=600:=by split <;> omega
 omega
theorem cE.send{w:aq}{B:Int}(h:cE B w)(hB:B+4000<=549755813888){at' who:Int}{b:List Int}(he:gN w at' who=0)(hb:bytes b)(hl:(b.length:Int)<=2000) :
  cE (B+4000) (iQ w at' who b)/\aX (iQ w at' who b)=aX w+1/\am (iQ w at' who b)=am w:=by
 unfold gN at he
 split at he
 ·cases he
 rename_i q1
 split at he
 ·cases he
 rename_i q2
 split at he
 ·cases he
 rename_i q3
 split at he
 ·cases he
 rename_i q4
 obtain⟨s1,s2⟩:=h.sB.send (by omega) (at':=at') (who:=who) (b:=b) ⟨by omega,by omega⟩ ⟨by omega,by omega⟩ hb hl (by omega)
 have hp:gb (iQ w at' who b)=gb w+mW (am w) (at',aX w,who,-1,aX w,b):=Lf _ _ _
 have hf:mW (am w) (at',aX w,who,-1,aX w,b)<=1114:=VQ hb
 have h1:=h.e
 have h2:=h.d
 exact⟨⟨hB,s1.more (by omega),h.a,h.c,h.dd,by show ((aR w).length:Int)+_<=_;omega,by show ((bv w).length:Int)+_<=_;omega⟩,s2,rfl⟩
theorem DN.newOk{n:bt}(h:DN n)(hp:∀ i,i<n.1.length->0<(aA (n.1.getD i default)).length):cE 4000 (js n):=cE.new (h.right hp) (fun i hi=>Uw h hi) (J0 h.nb (by decide)) (by decide) (by decide)
def mM:bt:=([([(167772161,0)],0,0,true,[((0,0),[0],1)],1,0,0,0,0,(0,0),false,false,64,0),([(167772162,0)],0,0,false,[((0,0),[0],1)],1,0,0,0,0,(0,0),false,false,64,0)],[(0,1,10,0,0,0)],[])
def rJ:List Int:=build (167772161,167772169,17,0,0,1)
theorem Cc:dV mM=0:=by decide +kernel
theorem aq2:(bv (tG (iQ (js mM) 0 0 rJ) 100)).length=1/\((bv (tG (iQ (js mM) 0 0 rJ) 100)).getD 0 default).1=20/\aV (tG (iQ (js mM) 0 0 rJ) 100)=100:=by decide +kernel
theorem Ye:tZ mM:=by
 intro i hi
 have hi:i<2:=hi
 match i,hi with
 | 0,_=>unfold oM u32;decide
 | 1,_=>unfold oM u32;decide
theorem MA:mR mM:=by
 refine⟨by decide,by decide,by decide,fun x hx=>?_,fun c hc=>by cases hc⟩
 have hx:x∈[(([(167772161,0)],0,0,true,[((0,0),[0],1)],1,0,0,0,0,(0,0),false,false,64,0):ac),([(167772162,0)],0,0,false,[((0,0),[0],1)],1,0,0,0,0,(0,0),false,false,64,0)]:=hx
 unfold okL
 rcases List.mem_cons.1 hx with rfl|hx
 ·decide
 ·rcases List.mem_cons.1 hx with rfl|hx
  ·decide
  ·cases hx
theorem DW:cE 4000 (js mM):=cE.new Cc Ye MA (by decide) (by decide)
theorem Du:gN (js mM) 0 0=0:=by decide +kernel
structure jY (m:Int) (w:aq):Prop where
 ok:cE (4000+4000*m) w
 m9:0<=m/\m<=9
 now:aV w=0
 fn:((au w).length:Int)=m
 ord:aX w=m
 en:aR w=[]
 dl:bv w=[]
 at':∀ f∈au w,ax f<=40
 og:∀ o,0<=o->o<aX w->pX (ja o (au w)) (fc o (aR w))
theorem jY.new{n:bt}(h:cE 4000 (js n)):jY 0 (js n) :=
 ⟨h.more (by decide) (by decide),⟨by decide,by decide⟩,rfl,rfl,rfl,rfl,rfl,fun f hf=>(by cases hf),fun o h0 h1=>by have h1:o<0:=h1;omega⟩
theorem jY.send{w:aq}{m:Int}(h:jY m w)(hm:m+1<=9){at':Int}{b:List Int}(h0:0<=at')(h1:at'<=40)(hb:bytes b)(hl:(b.length:Int)<=2000):gN w at' 0=0/\jY (m+1) (iQ w at' 0 b):=by
 have hm0:=h.m9
 have he:gN w at' 0=0:=by
  have hn:=wK h.ok.s.net
  have:=h.now
  have:=h.fn
  unfold gN
  rw[if_neg (by omega),if_neg (by omega),if_neg (by omega),if_neg (by omega)]
 obtain⟨k1,k2,k3⟩:=h.ok.send (by omega) he hb hl
 have hf:∀ f∈au w,dK f<aX w:=fun f hf=>(h.ok.s.fo f hf).g.2
 obtain⟨g1,g2⟩:=VK (w:=w) (at':=at') (who:=0) (b:=b) hf (fun e he=>by rw[h.en] at he;cases he)
 have ho:=h.ord
 have hfn:=h.fn
 refine⟨he,k1.more (by omega) (by omega),⟨by omega,by omega⟩,h.now,?_,by rw[k2];omega,h.en,h.dl,fun f hf=>?_,fun o o0 o1=>?_⟩
 ·show ((cY (au w) (at',aX w,0,-1,aX w,b)).length:Int)=_
  rw[zp];omega
 ·rcases uS.1 hf with rfl|hf
  ·exact h1
  ·exact h.at' f hf
 ·by_cases e:o=aX w
  ·rw[e];exact g1
  ·obtain⟨e1,e2⟩:=g2 o e
   rw[e1,e2]
   exact h.og o o0 (by rw[k2] at o1;omega)
theorem jY.aw:jY 0 (js mM):=jY.new DW
def ML:Cn:=⟨[.agg iq],[.val ce,.val ce],fun _=>[],fun d y=>u32 y.1.1/\u32 y.1.2.1,fun d h=>⟨((0,0,()),()),by unfold u32;decide,by unfold u32;decide⟩⟩
def Yq:ao ML.ps->az:=(fun d=>{loops:=(fun n=>match n with|4=>some (fun S=>{ι:=Int,μ:=fun i=>i.toNat,inv:=fun i=>0<=i/\i+1<=d.1.1.length/\0<(aA (d.1.1.getD 0 default)).length,keep:=[1],slots:=fun i=>[(4,.int .i64 i)],keepN:=[32],names:=fun i=>[]})|_=>none)})
def wG(a:List ac) :=
 a.getD (Int.toNat (0:Int)) default
def vd(d:Bool) :=
 (! d)->((! d)->(! d))/\True
def BN(a:List ac) :=
 (0:Nat)<List.length (aA (a.getD (0:Nat) default))
def Bh(a:List ac) :=
 List.getD (wG a).1 (Int.toNat (0:Int)) default
theorem P7 :
 ∀(a:List ac)(b:List aE)(c:List aM),((a.length<=maxLen/\ ∀(d:ac),d∈a->CT.wf bw d)/\(b.length<=maxLen/\ ∀(d:aE),d∈b->CT.wf ft d)/\c.length<=maxLen/\ ∀(d:aM),d∈c->CT.wf dX d)/\True->True-> ∀(d:Bool),d=decide ((a.length:Int)=0)->(vd d)/\((! d)->((! d)->(! d))/\(0:Int)<=0/\0<(a.length:Int)/\True)/\(vd d)/\(vd d)/\(vd d)/\(vd d)/\(d=false->(! d))/\ad (bif d then true else decide (((List.length (wG a).1):Int)=0)) (u32 (0:Int)/\u32 (0:Int)) ((∃(e:Int),(0<=e/\e+1<=(a.length:Int)/\(BN a))/\IntKind.wrap .i64 ((a.length:Int) -(1:Int))=e/\a=a/\b=b/\c=c/\True)/\ ∀(e:Int),0<=e/\e+1<=(a.length:Int)/\(BN a)->ad (decide (0<e)) (0<=e/\e<(a.length:Int)/\ ∀(f:Bool),f=(a.getD e.toNat default).2.2.2.1->(f->(f->f)/\True)/\(f->(f->f)/\(f->f)/\0<=e/\e<(a.length:Int)/\True)/\(f->(f->f)/\True)/\(f->(f->f)/\True)/\(f->(f->f)/\True)/\(f->(f->f)/\True)/\(f->f)/\ad (bif f
 then decide (0<((List.length (a.getD e.toNat default).1):Int)) else false) ((0:Int)<=0/\0<(a.length:Int)/\(0:Int)<=0/\0<((List.length (wG a).1):Int)/\0<=e/\e<(a.length:Int)/\(0:Int)<=0/\0<((List.length (a.getD e.toNat default).1):Int)/\u32 (Bh a).1/\u32 (List.getD (a.getD e.toNat default).1 (Int.toNat (0:Int)) default).1) (∃(g:Int),(0<=g/\g+1<=(a.length:Int)/\(BN a))/\g.toNat<e.toNat/\IntKind.wrap .i64 (e -(1:Int))=g/\a=a/\b=b/\c=c/\True)) ((0:Int)<=0/\0<(a.length:Int)/\(0:Int)<=0/\0<((List.length (wG a).1):Int)/\(0:Int)<=0/\0<(a.length:Int)/\(0:Int)<=0/\0<((List.length (wG a).1):Int)/\u32 (Bh a).1/\u32 (Bh a).1)):=by
  delta wG vd BN Bh
  rintro ns ls hs ⟨⟨⟨hnl,hw⟩,-⟩,-⟩ -
  simp only[maxLen] at hnl
  have hu:∀ j:Int,0<=j->j<ns.length->(0:Int)<((ns.getD j.toNat default).1.length:Int)->u32 ((ns.getD j.toNat default).1.getD (Int.toNat 0) default).1:=by
   intro j j0 j1 hp
   exact ((hw _ (bH j0 j1)).1.2 _ (bH (by decide) hp)).1
  intro b hb
  (repeat refine⟨fun h_=>(by first|exact⟨fun _=>h_,by omega,by rw[hb] at h_;have:=gn h_;omega,trivial⟩|(simp;done)|(simp[h_];done)|(simp_all;done)),?_⟩)
  rw[hb,ET]
  refine ae (fun h=>?_) (fun h=>?_)
  ·exact⟨by unfold u32;decide,by unfold u32;decide⟩
  have h:=of_decide_eq_false h
  have hn0:0<ns.length:=by omega
  have hp0:0<(aA (ns.getD 0 default)).length:=by show 0<(ns.getD (Int.toNat 0) default).1.length;omega
  have hz:(0:Int)<((ns.getD (Int.toNat 0) default).1.length:Int):=by show (0:Int)<((aA (ns.getD 0 default)).length:Int);omega
  rw[af (n:=(ns.length:Int)-1) (by omega) (by omega)]
  refine⟨⟨(ns.length:Int)-1,⟨by omega,by omega,hp0⟩,(by repeat' first|exact trivial|refine⟨trivial,?_⟩|refine⟨(by with_reducible rfl),?_⟩|refine⟨af (by omega) (by omega),?_⟩|refine⟨rfl,?_⟩)⟩,?_⟩
  rintro i ⟨i0,i1,-⟩
  refine ae (fun hi=>?_) (fun hi=>?_)
  ·have hi:=of_decide_eq_true hi
   refine⟨i0,by omega,?_⟩
   intro b2 hb2
   (repeat refine⟨fun h_=>(by first|exact⟨fun _=>h_,fun _=>h_,i0,by omega,trivial⟩|(simp;done)|(simp[h_];done)|(simp_all;done)),?_⟩)
   refine rQ (fun k1 k2=>?_) (fun k=>?_)
   ·have k2:=of_decide_eq_true k2
    exact⟨by omega,by omega,by omega,hz,i0,by omega,by omega,k2,hu 0 (by omega) (by omega) hz,hu i i0 (by omega) k2⟩
   ·rw[af (by omega) (by omega)]
    exact⟨i-1,⟨by omega,by omega,hp0⟩,by omega,(by repeat' first|exact trivial|refine⟨trivial,?_⟩|refine⟨(by with_reducible rfl),?_⟩|refine⟨af (by omega) (by omega),?_⟩|refine⟨rfl,?_⟩)⟩
  ·exact⟨by omega,by omega,by omega,hz,by omega,by omega,by omega,hz,hu 0 (by omega) (by omega) hz,hu 0 (by omega) (by omega) hz⟩
theorem We:av Tryz.prog GL 32 ML.spec:=Cn.okH _ Tryz.func32 (by kernel_rfl) aC ar Yq (aD (by kernel_rfl) P7)
def NS:Cn:=⟨[.box 109 fT,.val (.sl bj)],[.own 5 bj],fun d=>[ay d.1,(d.2.1.length:Int)<=1000000],fun d y=>(y.1.1.length:Int)<=d.2.1.length+1/\bytes y.1.1/\ay y.2.1,fun d h=>⟨(([],()),(d.1,())),by simp;omega,fun x hx=>(by cases hx),h.1⟩⟩
def Sy:ao NS.ps->az:=(fun _=>{})
def DK(c:List Int)(d j:Int) :=
 List.set c d.toNat (bits BinOp.xor IntKind.u8 (c.getD d.toNat default) (IntKind.wrap .u8 (IntKind.wrap .i64 ((1:Int)+j))))
def jA(c:List Int) :=
 (c.length:Int)
theorem PS :
 ∀(a:List Int)(b:Int)(c:List Int),((a.length<=maxLen/\ ∀(d:Int),d∈a->0<=d/\d<=255)/\ab b)/\(c.length<=maxLen/\ ∀(d:Int),d∈c->0<=d/\d<=255)/\True->ay (a,b)/\(jA c)<=1000000->c.length*(1:Nat)<=(140737488355328:Nat)/\ad (decide ((jA c)=0)) (ay (a,b)/\ ∀(d:Int)(e:List Int)(f:Int),0<=d/\(d<256∨d=0)/\ay (e,f)->((List.length [IntKind.wrap .u8 d]):Int)<=(jA c)+(1:Int)/\bytes [IntKind.wrap .u8 d]/\ay (e,f)) (ay (a,b)/\ ∀(d:Int)(e:List Int)(f:Int),0<=d/\(d<(jA c)∨d=0)/\ay (e,f)->ay (e,f)/\ ∀(g:Int)(h:List Int)(i:Int),0<=g/\(g<4∨g=0)/\ay (h,i)->ad (decide (g=0)) (0<=d/\d<=(jA c)/\0<=IntKind.wrap .i64 (d+(1:Int))/\IntKind.wrap .i64 (d+(1:Int))<=(jA c)/\(jA c)<=(jA c)/\(List.length (List.take d.toNat c)+List.length (bW c (Int.toNat (IntKind.wrap .i64 (d+(1:Int)))) (Int.toNat (jA c))))*(1:Nat)<=(140737488355328:Nat)/\((List.length (List.take d.toNat c++bW c
 (Int.toNat (IntKind.wrap .i64 (d+(1:Int)))) (Int.toNat (jA c)))):Int)<=(jA c)+(1:Int)/\bytes (List.take d.toNat c++bW c (Int.toNat (IntKind.wrap .i64 (d+(1:Int)))) (Int.toNat (jA c)))/\ay (h,i)) (ad (decide (g=1)) (ay (h,i)/\ ∀(j:Int)(k:List Int)(l:Int),0<=j/\(j<256∨j=0)/\ay (k,l)->(c.length+List.length [IntKind.wrap .u8 j])*(1:Nat)<=(140737488355328:Nat)/\((List.length (c++[IntKind.wrap .u8 j])):Int)<=(jA c)+(1:Int)/\bytes (c++[IntKind.wrap .u8 j])/\ay (k,l)) (0<=d/\d<(jA c)/\ay (h,i)/\ ∀(j:Int)(k:List Int)(l:Int),0<=j/\(j<255∨j=0)/\ay (k,l)->0<=d/\d<(jA c)/\((List.length (DK c d j)):Int)<=(jA c)+(1:Int)/\bytes (DK c d j)/\ay (k,l)))):=by
  delta DK jA
  rintro l p b ⟨-,⟨-,hb⟩,-⟩⟨hc,hl⟩
  have hb:bytes b:=hb
  have u8:∀ x:Int,bytes [IntKind.wrap .u8 x]:=fun x y hy=>by rw[List.mem_singleton.1 hy];exact Md x
  have app:∀{x y:List Int},bytes x->bytes y->bytes (x++y):=fun hx hy z hz=>by rcases List.mem_append.1 hz with q|q;exact hx z q;exact hy z q
  refine⟨by omega,ae (fun h=>⟨hc,?_⟩) (fun h=>⟨hc,?_⟩)⟩
  ·rintro x l2 p2 ⟨-,-,h3⟩
   exact⟨by simp only[List.length_singleton];omega,u8 x,h3⟩
  have h:=of_decide_eq_false h
  rintro k l2 p2 ⟨k0,k1,hc⟩
  have hk:k<b.length:=by omega
  refine⟨hc,?_⟩
  rintro w l3 p3 ⟨w0,w1,hc⟩
  refine ae (fun _=>?_) (fun _=>ae (fun _=>⟨hc,?_⟩) (fun _=>⟨k0,hk,hc,?_⟩))
  ·rw[af (n:=k+1) (by omega) (by omega)]
   refine⟨k0,by omega,by omega,by omega,by omega,?_,?_,?_,hc⟩
   ·rw[si,List.length_take,List.length_drop];omega
   ·rw[List.length_append,si,List.length_take,List.length_drop];omega
   ·rw[si]
    exact app (z9 hb) (rF hb)
  ·rintro x l4 p4 ⟨-,-,h4⟩
   exact⟨by simp only[List.length_singleton];omega,by simp only[List.length_append,List.length_singleton];omega,app hb (u8 x),h4⟩
  ·rintro x l4 p4 ⟨-,-,h4⟩
   refine⟨k0,hk,by rw[List.length_set];omega,fun z hz=>?_,h4⟩
   rcases List.mem_or_eq_of_mem_set hz with q|q
   ·exact hb z q
   ·rw[q];exact Md _
theorem PR:av Tryz.prog GL 69 NS.spec:=Cn.okH _ Tryz.func69 (by kernel_rfl) (B2 (ai aC qO) (d:=26)) ar Sy (aD (by kernel_rfl) PS)
def Oy:Cn:=⟨[.box 109 fT,.agg iq],[.val (.sl bj)],fun d=>[ay d.1],fun d y=>ay y.2.1/\bytes y.1.1/\(y.1.1.length:Int)<=1600,fun d h=>⟨(([],()),(d.1,())),h.1,fun x hx=>(by cases hx),by simp⟩⟩
def YQ:ao Oy.ps->az:=(fun _=>{})
theorem UL :
 ∀(a:List Int)(b:Int)(c:List ac)(d:List aE)(e:List aM),((a.length<=maxLen/\ ∀(f:Int),f∈a->0<=f/\f<=255)/\ab b)/\((c.length<=maxLen/\ ∀(f:ac),f∈c->CT.wf bw f)/\(d.length<=maxLen/\ ∀(f:aE),f∈d->CT.wf ft f)/\e.length<=maxLen/\ ∀(f:aM),f∈e->CT.wf dX f)/\True->0<=b/\b<=(a.length:Int)->ay (a,b)/\ ∀(f g h i j k:Int)(l:List Int)(m:Int),ay (l,m)/\u32 f/\u32 g/\dI (f,g,h,i,j,k)=0-> ∀(n o:Int),u32 n/\u32 o->ay (l,m)/\ ∀(p:Int)(q:List Int)(r:Int),ay (q,r)/\0<=p/\p<=4294967295-> ∀(s:List Int)(t:Int),s=build (n,p,h,i,j,k)/\t=dI (n,p,h,i,j,k)->ay (q,r)/\ ∀(u:Int)(v:List Int)(w:Int),0<=u/\(u<12∨u=0)/\ay (v,w)->ad (decide (u=11)) (ay (v,w)/\(s.length:Int)<=1000000/\ ∀(x y:List Int)(z:Int),(x.length:Int)<=(s.length:Int)+(1:Int)/\bytes x/\ay (y,z)->ay (y,z)/\bytes x/\(x.length:Int)<=1600) (ay (v,w)/\bytes s/\(s.length:Int)<=1600):=by
  rintro l p ns ls hs-hc
  refine⟨hc,?_⟩
  rintro a b c e f g l2 p2 ⟨hc2,-,-,-⟩
  rintro a1 a2 -
  refine⟨hc2,?_⟩
  rintro d l3 p3 ⟨hc3,-,-⟩
  rintro bb q ⟨rfl,-⟩
  have hbl:=Cw (a1,d,c,e,f,g)
  refine⟨hc3,?_⟩
  rintro x l4 p4 ⟨-,-,hc4⟩
  refine ae (fun _=>⟨hc4,by omega,?_⟩) (fun _=>⟨hc4,DG _,by omega⟩)
  rintro y l5 p5 ⟨k1,k2,k3⟩
  exact⟨k3,k2,by omega⟩
theorem U5:av Tryz.prog GL 25 Oy.spec:=Cn.okH _ Tryz.func25 (by kernel_rfl) (ai (ai (ai (ai (ai (ai aC Xt) We) QX) (Ct.named Oi)) qO) PR) ar YQ (aD (by kernel_rfl) UL)
def Ml:Ct:=⟨[],[.val .bool],fun _=>[],fun _=>((true,()),())⟩
def Wx:ao Ml.ps->az:=(fun _=>{})
def zw :=
 ([([((167772161:Int),(0:Int))],(0:Int),(0:Int),true,[(((0:Int),(0:Int)),[(0:Int)],(1:Int))],(1:Int),(0:Int),(0:Int),(0:Int),(0:Int),((0:Int),(0:Int)),false,false,(64:Int),(0:Int)),([((167772162:Int),(0:Int))],(0:Int),(0:Int),false,[(((0:Int),(0:Int)),[(0:Int)],(1:Int))],(1:Int),(0:Int),(0:Int),(0:Int),(0:Int),((0:Int),(0:Int)),false,false,(64:Int),(0:Int))],[((0:Int),(1:Int),(10:Int),(0:Int),(0:Int),(0:Int))],([]:List aM))
def DO :=
 ((167772161:Int),(167772169:Int),(17:Int),(0:Int),(0:Int),(1:Int))
theorem VY :
 True->True->mR (zw)/\ ∀(a:(List ac×List aE×List aM)×Int×Int×Int×List (List aF×Int×List Int×(Int×Int)×Int)×List Int×List (Int×Int×Int×Int×Int×List Int)×List (Int×Int×List Int)×List (Int×Int×Int×Int×Int))(b:Int),a=tX (zw)/\b=dV (zw)-> ∀(c:List Int)(d:Int),c=build (DO)/\d=dI (DO)->ju a/\(jA c)<=1000000/\ ∀(e:(List ac×List aE×List aM)×Int×Int×Int×List (List aF×Int×List Int×(Int×Int)×Int)×List Int×List (Int×Int×Int×Int×Int×List Int)×List (Int×Int×List Int)×List (Int×Int×Int×Int×Int))(f g:Int),e=kU a (0:Int) (0:Int) c/\f=mP a (0:Int) (0:Int)/\g=gN a (0:Int) (0:Int)->ju e/\ ∀(h:(List ac×List aE×List aM)×Int×Int×Int×List (List aF×Int×List Int×(Int×Int)×Int)×List Int×List (Int×Int×Int×Int×Int×List Int)×List (Int×Int×List Int)×List (Int×Int×Int×Int×Int))(i:Int),h=oS e (100:Int)/\i=lI e (100:Int)-> ∀(j:Bool),j=decide
 (b=0)->(j->(j->j)/\True)/\(j->j)/\ ∀(k:Bool),(k=bif j then decide (g=0) else false)->(k->(k->k)/\True)/\(k->k)/\ ∀(l:Bool),(l=bif k then decide (i=0) else false)->(l->(l->l)/\True)/\(l->(l->l)/\True)/\(l->(l->l)/\True)/\(l->l)/\ ∀(m:Bool),(m=bif l then decide ((h.2.2.2.2.2.2.2.1.length:Int)=1) else false)->(m->(m->m)/\True)/\(m->(m->m)/\(0:Int)<=0/\0<(h.2.2.2.2.2.2.2.1.length:Int)/\True)/\(m->(m->m)/\True)/\(m->(m->m)/\True)/\(m->(m->m)/\True)/\(m->m)/\ ∀(n:Bool),(n=bif m then decide ((List.getD h.2.2.2.2.2.2.2.1 (Int.toNat (0:Int)) default).1=20) else false)->(n->(n->n)/\True)/\(n->(n->n)/\True)/\(n->n)/\(bif n then decide (h.2.1=100) else false)=true:=by
  delta zw jA DO
  rintro - -
  refine⟨MA,?_⟩
  rintro d x ⟨hd,hx⟩
  rintro b e ⟨rfl,-⟩
  have hd:d=js mM:=by rw[hd];exact if_pos Cc
  have hx:x=0:=by rw[hx];exact Cc
  subst hd hx
  refine⟨.inl DW.sim,by have:=Cw (167772161,167772169,17,0,0,1);omega,?_⟩
  rintro d2 o e2 ⟨hd2,-,he2⟩
  have he2:e2=0:=he2.trans Du
  have hd2:d2=iQ (js mM) 0 0 rJ:=by rw[hd2];unfold kU;rw[if_pos Du];rfl
  subst he2
  have hbl:((rJ).length:Int)<=2000:=by have:=Cw (167772161,167772169,17,0,0,1);unfold rJ;omega
  have ok2:=(DW.send (by decide) Du (b:=rJ) (DG _) hbl).1
  rw[← hd2] at ok2
  refine⟨.inl ok2.sim,?_⟩
  rintro d3 e3 ⟨hd3,he3⟩
  have hn:aV d2=0:=by rw[hd2];rfl
  have hr:lI d2 100=0:=by unfold lI;rw[hn];decide
  have he3:e3=0:=he3.trans hr
  subst he3
  have hd3:d3=tG (iQ (js mM) 0 0 rJ) 100:=by rw[hd3,← hd2];unfold oS;rw[if_pos hr]
  obtain⟨r1,r2,r3⟩:=aq2
  rw[← hd3] at r1 r2 r3
  have r1:d3.2.2.2.2.2.2.2.1.length=1:=r1
  have r2:(d3.2.2.2.2.2.2.2.1.getD (Int.toNat 0) default).1=20:=r2
  have r3:d3.2.1=100:=r3
  have rl:(d3.2.2.2.2.2.2.2.1.length:Int)=1:=by omega
  intro b1 hb1
  have hb1:b1=true:=by rw[hb1];decide
  subst hb1
  (repeat refine⟨(by simp),?_⟩)
  intro b2 hb2
  have hb2:b2=true:=by rw[hb2];decide
  subst hb2
  (repeat refine⟨(by simp),?_⟩)
  intro b3 hb3
  have hb3:b3=true:=by rw[hb3];decide
  subst hb3
  (repeat refine⟨(by simp),?_⟩)
  intro b4 hb4
  have hb4:b4=true:=by rw[hb4,rl];decide
  subst hb4
  (repeat refine⟨(by first|(simp;done)|(simp;omega)),?_⟩)
  intro b5 hb5
  have hb5:b5=true:=by rw[hb5,r2];decide
  subst hb5
  (repeat refine⟨(by simp),?_⟩)
  rw[r3];decide
theorem VW:av Tryz.prog GL 8 Ml.spec:=Ct.okH _ Tryz.func8 (by kernel_rfl) (ai (ai (ai (ai aC (Ct.named Ls)) (Ct.named Oi)) (Ct.named I1)) (Ct.named Q0)) ar Wx (aD (by kernel_rfl) VY)
def LC:Cn:=⟨[.box 109 fT],[.agg iI,.val .bool],fun d=>[ay d.1],fun d y=>ay y.2.1/\y.1.2.1=true∧∃ m,jY m y.1.1,fun d h=>⟨((js mM,true,()),(d.1,())),h.1,rfl,0,jY.aw⟩⟩
def R0:ao LC.ps->az:=(fun d=>{loops:=(fun n=>match n with|5=>some (fun S=>{ι:=Int×(List Int×Int)×aq,qn:=⟨fun k_=>∀(k:Int)(c:(List Int×Int))(w:aq),k_ (k,c,w),fun k_ h_ i=>h_ i.1 i.2.1 i.2.2,fun k_=>∃ (k:Int) (c:(List Int×Int)) (w:aq),k_ (k,c,w),fun k_ ⟨k,c,w,h_⟩=>⟨_,h_⟩⟩,μ:=fun i=>i.1.toNat,inv:=fun i=>0<=i.1/\ay i.2.1∧∃ m,jY m i.2.2/\m+i.1<=8,keep:=[0,2,4],slots:=fun i=>[(5,.ptr 96 0),(7,.bool true),(8,.int .i64 i.1)],keepN:=[48,80],names:=fun i=>[(1048576,.live (.cells 109 (cj fT i.2.1))),(96,.live (.cells 37 (cj iI i.2.2)))]})|_=>none)})
theorem PV :
 ∀(a:List Int)(b:Int),((a.length<=maxLen/\ ∀(c:Int),c∈a->0<=c/\c<=255)/\ab b)/\True->0<=b/\b<=(a.length:Int)->ay (a,b)/\ ∀(c:List ac)(d:List aE)(e:List aM)(f:List Int)(g:Int),(c,d,e)=oz false (a,b)/\(f,g)=uN false (a,b)->mR (c,d,e)/\ ∀(h:(List ac×List aE×List aM)×Int×Int×Int×List (List aF×Int×List Int×(Int×Int)×Int)×List Int×List (Int×Int×Int×Int×Int×List Int)×List (Int×Int×List Int)×List (Int×Int×Int×Int×Int))(i:Int),h=tX (c,d,e)/\i=dV (c,d,e)->ay (f,g)/\ ∀(j:Int)(k:List Int)(l:Int),0<=j/\(j<8∨j=0)/\ay (k,l)->(∃(m:Int) (n:List Int×Int),∃(o:aq),(0<=m/\ay n/\ ∃(p:Int),jY p o/\p+m<=8)/\decide (i=0)=true/\IntKind.wrap .i64
 ((1:Int)+j)=m/\(0:Int)=0/\(0:Int)=0/\(0:Int)=0/\c=c/\d=d/\e=e/\k=n.1/\l=n.2/\h.1.1=o.1.1/\h.1.2.1=o.1.2.1/\h.1.2.2=o.1.2.2/\h.2.1=o.2.1/\h.2.2.1=o.2.2.1/\h.2.2.2.1=o.2.2.2.1/\h.2.2.2.2.1=o.2.2.2.2.1/\h.2.2.2.2.2.1=o.2.2.2.2.2.1/\h.2.2.2.2.2.2.1=o.2.2.2.2.2.2.1/\h.2.2.2.2.2.2.2.1=o.2.2.2.2.2.2.2.1/\h.2.2.2.2.2.2.2.2=o.2.2.2.2.2.2.2.2/\True)/\ ∀(m:Int)(n:List Int×Int)(o:aq),(0<=m/\ay n/\ ∃(p:Int),jY p o/\p+m<=8)->ad (decide (0<m)) (ay n/\ ∀(p:Int)(q:List Int)(r:Int),0<=p/\(p<40∨p=0)/\ay (q,r)->ay (q,r)/\ ∀(s t:List Int)(u:Int),ay (t,u)/\bytes s/\(s.length:Int)<=1600->ju o/\(s.length:Int)<=1000000/\ ∀(v:(List ac×List aE×List aM)×Int×Int×Int×List (List aF×Int×List Int×(Int×Int)×Int)×List Int×List (Int×Int×Int×Int×Int×List Int)×List (Int×Int×List Int)×List (Int×Int×Int×Int×Int))(w x:Int),v=kU o p (0:Int) s/\w=mP o p (0:Int)/\x=gN o p (0:Int)->
 ∀(y:Bool),y->(y->(y->y)/\True)/\(y->y)/\ ∃(z:Int) (A:List Int×Int),∃(B:aq),(0<=z/\ay A/\ ∃(C:Int),jY C B/\C+z<=8)/\z.toNat<m.toNat/\(bif y then decide (x=0) else false)=true/\IntKind.wrap .i64 (m -(1:Int))=z/\(0:Int)=0/\(0:Int)=0/\(0:Int)=0/\c=c/\d=d/\e=e/\t=A.1/\u=A.2/\v.1.1=B.1.1/\v.1.2.1=B.1.2.1/\v.1.2.2=B.1.2.2/\v.2.1=B.2.1/\v.2.2.1=B.2.2.1/\v.2.2.2.1=B.2.2.2.1/\v.2.2.2.2.1=B.2.2.2.2.1/\v.2.2.2.2.2.1=B.2.2.2.2.2.1/\v.2.2.2.2.2.2.1=B.2.2.2.2.2.2.1/\v.2.2.2.2.2.2.2.1=B.2.2.2.2.2.2.2.1/\v.2.2.2.2.2.2.2.2=B.2.2.2.2.2.2.2.2/\True) (ay n/\true=true/\ ∃(p:Int),jY p o):=by
  rintro l p ⟨⟨⟨-,hw⟩,-⟩,-⟩ hc
  have hB:bM (l,p):=⟨hc,hw⟩
  have hdn:=KA hB false
  have hports:=fun (i:Nat)=>Ue hB false (i:=i)
  have hcB:=UH hB false
  refine⟨hc,?_⟩
  rintro ns ls hs l1 p1 ⟨hnet,hcod⟩
  rw[← hnet] at hdn hports
  rw[← hcod] at hcB
  have hok:=hdn.newOk hports
  have hchk:=hdn.right hports
  refine⟨J0 hdn.nb (by decide),?_⟩
  rintro d x ⟨hd,hx⟩
  have hd:d=js (ns,ls,hs):=by rw[hd];exact if_pos hchk
  have hx:x=0:=by rw[hx];exact hchk
  subst hd hx
  refine⟨hcB.1,?_⟩
  rintro k l2 p2 ⟨k0,k1,hc2⟩
  refine⟨⟨1+k,(l2,p2),js (ns,ls,hs),⟨by omega,hc2,0,jY.new hok,by omega⟩,by decide,(by repeat' first|exact trivial|refine⟨trivial,?_⟩|refine⟨(by with_reducible rfl),?_⟩|refine⟨af (by omega) (by omega),?_⟩|refine⟨rfl,?_⟩)⟩,?_⟩
  rintro k c w ⟨k0,hc3,m,hm,hmk⟩
  refine ae (fun hk=>?_) (fun hk=>⟨hc3,rfl,m,hm⟩)
  have hk:=of_decide_eq_true hk
  refine⟨hc3,?_⟩
  rintro t l4 p4 ⟨t0,t1,hc4⟩
  refine⟨hc4,?_⟩
  rintro b l5 p5 ⟨hc5,hb,hbl⟩
  obtain⟨he,hs'⟩:=hm.send (by omega) t0 (by omega) hb (by omega)
  refine⟨.inl hm.ok.sim,by omega,?_⟩
  rintro d o e ⟨hd,-,he'⟩
  have hd:d=iQ w t 0 b:=by rw[hd];exact if_pos he
  have he':e=0:=he'.trans he
  subst hd he'
  rintro b1 rfl
  (repeat refine⟨(by simp;done),?_⟩)
  rw[af (by have:=hm.m9;omega) (by have:=hm.m9;omega)]
  exact⟨k-1,(l5,p5),iQ w t 0 b,⟨by omega,hc5,m+1,hs',by omega⟩,by omega,by decide,(by repeat' first|exact trivial|refine⟨trivial,?_⟩|refine⟨(by with_reducible rfl),?_⟩|refine⟨af (by omega) (by omega),?_⟩|refine⟨rfl,?_⟩)⟩
theorem Wk:av Tryz.prog GL 10 LC.spec:=Cn.okH _ Tryz.func10 (by kernel_rfl) (ai (ai (ai (ai (ai aC (Ct.named Zh)) (Ct.named Ls)) qO) U5) (Ct.named I1)) ar R0 (aD (by kernel_rfl) PV)
end Go.RS

/- Law15: the laws about the simulator. -/
namespace Go.RS
open Go.SX Go.Proofs
set_option maxRecDepth 100000
set_option linter.unusedVariables false
set_option maxHeartbeats 2000000
def Xs:lK:=[(false,.sl bj)]
structure oP (sent:Int) (v:aq) (t:Int):Prop where
 ok:o7 v
 t0:0<=t/\t<=aV v
 s:0<=sent
 en:∀ e∈aR v,0<=md e/\0<=nJ e/\nJ e<sent
 fl:∀ f∈au v,0<=dK f/\dK f<sent
 og:∀ o,0<=o->o<sent->pX (ja o (au v)) (fc o (aR v))
def gz(l:List fA):Int×Int×Int:=l.foldl (fun s e=>(md e,if kv e=2 then s.2.1+1 else s.2.1,if kv e=2 then s.2.2 else s.2.2+1)) (-1,0,0)
theorem cE.wait{v:aq}{B to:Int}(h:cE B v)(hb:iW v to=false)(ha:0<=to/\to<=1125899906842624):cE B (cD v to):=⟨h.b,h.sB.wait hb ha,h.a,h.c,h.dd,h.e,h.d⟩
theorem cE.runs{w:aq}{B to:Int}(h:cE B w)(ha:0<=to/\to<=1125899906842624):cE B (tG w to):=by
 obtain⟨k1,k2,-⟩:=h.run (to:=to) _ (Nat.le_refl _)
 exact (k1.wait k2 ha).change
theorem cE.lands{w:aq}{B:Int}(h:cE B w){f:aL}{r:List aL}(e:au w=f::r):BX (c9 w) f (cO w):=by
 have a:=h.at e
 have es:cO w=fq (c9 w) (fU w):=rfl
 rw[es,a.eF]
 exact Go.RS.lands a.s.weak a.fk.wk a.now.symm (by rw[a.net];exact h.a)
theorem oP.step{s t:Int}{v:aq}(h:oP s v t){f:aL}{r:List aL}(e:au v=f::r):t<=aV (cO v)/\oP s (cO v) (aV (cO v)):=by
 have a:=h.ok.at e
 obtain⟨es,l1,l2,l3⟩:=(h.ok.lands e).a
 obtain⟨-,-,s3,-⟩:=h.ok.s.weak.step e
 have hfk:=h.ok.s.fo f (by rw[e];exact List.mem_cons_self)
 have hof:=h.fl f (by rw[e];exact List.mem_cons_self)
 have ht:=hfk.t
 have hn:=h.ok.s.now
 rw[a.en] at l2
 rw[a.fl] at l3
 have h0:=h.t0
 refine⟨by omega,(h.ok.step e).1,⟨by omega,Int.le_refl _⟩,h.s,fun x hx=>?_,fun g hg=>?_,fun o o0 o1=>XM h.ok.s.weak h.ok.a e (h.og o o0 o1)⟩
 ·rw[l2] at hx
  rcases List.mem_append.1 hx with hx|hx
  ·exact h.en x hx
  ·obtain⟨q1,q2⟩:=l1 x hx
   rw[q1,q2]
   exact⟨by omega,hof⟩
 ·have hr:∀ g∈r,0<=dK g/\dK g<s:=fun g hg=>h.fl g (by rw[e];exact List.mem_cons_of_mem _ hg)
  rcases l3 with⟨q,-⟩|⟨g2,q1,-,q,-⟩
  ·rw[q] at hg;exact hr g hg
  ·rw[q] at hg
   rcases uS.1 hg with rfl|hg
   ·rw[q1];exact hof
   ·exact hr g hg
theorem oP.new{d:aq}{m:Int}(h:jY m d):oP (aX d) d 0 :=
 ⟨h.ok.sim,⟨Int.le_refl _,by rw[h.now];exact Int.le_refl _⟩,by have:=h.m9;rw[h.ord];omega,fun e he=>(by rw[h.en] at he;cases he),fun f hf=>(h.ok.s.fo f hf).g,h.og⟩
theorem LE:gz []=(-1,0,0):=rfl
theorem yd(l:List fA)(e:fA):gz (l++[e])=(md e,if kv e=2 then (gz l).2.1+1 else (gz l).2.1,if kv e=2 then (gz l).2.2 else (gz l).2.2+1):=by
 unfold gz;rw[List.foldl_append];rfl
theorem SA{l:List fA}(h:pX [] l)(h0:∀ e∈l,0<=md e){p q:List fA}{x:fA}(e:l=p++x::q) :
  (gz p).1<=md x/\(kv x=2->(gz p).2.2<=0)/\(0<=(gz p).2.1/\(gz p).2.1<=1)/\0<=(gz p).2.2/\(gz p).2.2<=1:=by
 have hx:=h0 x (by rw[e];simp)
 rcases h with⟨f,q1,-⟩|⟨f,e0,q1,-⟩|⟨-,y,rfl,h2⟩|⟨-,a,y,rfl,h2,h3,h4⟩
 ·cases q1
 ·cases q1
 ·cases p with
  | nil=>exact⟨by rw[LE];show (-1:Int)<=_;omega,fun _=>by decide,by decide,by decide⟩
  | cons z p=>rw[List.cons_append,List.cons.injEq] at e;have:=e.2;simp at this
 ·match p,e with
  | [],e=>exact⟨by rw[LE];show (-1:Int)<=_;omega,fun _=>by decide,by decide,by decide⟩
  | [z],e =>
   rw[List.cons_append,List.cons.injEq,List.nil_append,List.cons.injEq] at e
   obtain⟨rfl,rfl,-⟩:=e
   have es:gz [a]=(md a,1,0):=by
    have:=yd [] a
    rw[if_pos h2,if_pos h2] at this
    exact this
   rw[es]
   exact⟨h4,fun q=>absurd q h3,⟨(by decide:(0:Int)<=1),(by decide:(1:Int)<=1)⟩,(by decide:(0:Int)<=0),(by decide:(0:Int)<=1)⟩
  | z::z2::p,e=>rw[List.cons_append,List.cons.injEq,List.cons_append,List.cons.injEq] at e;have:=e.2.2;simp at this
theorem as4{l:List fA}(h:pX [] l):(gz l).2.1<=1/\(gz l).2.2=1:=by
 rcases h with⟨f,q1,-⟩|⟨f,e0,q1,-⟩|⟨-,y,rfl,h2⟩|⟨-,a,y,rfl,h2,h3,h4⟩
 ·cases q1
 ·cases q1
 ·have:=yd [] y
  rw[if_neg h2,if_neg h2] at this
  rw[show ([y]:List fA)=[]++[y] from rfl,this]
  exact⟨(by decide:(0:Int)<=1),rfl⟩
 ·have k:=yd [] a
  rw[if_pos h2,if_pos h2] at k
  have:=yd [a] y
  rw[if_neg h3,if_neg h3] at this
  rw[show ([a,y]:List fA)=[a]++[y] from rfl,this,show ([a]:List fA)=[]++[a] from rfl,k]
  exact⟨(by decide:(1:Int)<=1),rfl⟩
theorem Rx{o:Int}{l:List fA}{i:Int}(i0:0<=i)(i1:i<l.length)(h:nJ (l.getD i.toNat default)=o) :
  fc o l=fc o (l.take i.toNat)++(l.getD i.toNat default)::fc o (l.drop (i.toNat+1)):=by
 have hi:i.toNat<l.length:=by omega
 have e:l.getD i.toNat default=l[i.toNat]:=by rw[List.getD_eq_getElem?_getD,List.getElem?_eq_getElem hi];rfl
 have:l=l.take i.toNat++l[i.toNat]::l.drop (i.toNat+1):=by rw[← List.drop_eq_getElem_cons hi,List.take_append_drop]
 rw[e] at h ⊢
 conv=>lhs;rw[this]
 rw[Bz]
 congr 1
 exact List.filter_cons_of_pos (by simpa using h)
theorem ab4{o:Int}{l:List fA}{i:Int}(i0:0<=i)(i1:i<l.length):gz (fc o (l.take (i+1).toNat)) =
  if nJ (l.getD i.toNat default)=o then (md (l.getD i.toNat default),if kv (l.getD i.toNat default)=2 then (gz (fc o (l.take i.toNat))).2.1+1 else (gz (fc o (l.take i.toNat))).2.1,if kv (l.getD i.toNat default)=2 then (gz (fc o (l.take i.toNat))).2.2 else (gz (fc o (l.take i.toNat))).2.2+1) else gz (fc o (l.take i.toNat)):=by
 rw[sQ i0 i1,Bz]
 split
 ·rename_i h
  rw[show fc o [l.getD i.toNat default]=[l.getD i.toNat default] from List.filter_cons_of_pos (by simpa using h),yd]
 ·rename_i h
  rw[show fc o [l.getD i.toNat default]=[] from List.filter_cons_of_neg (by simpa using h),List.append_nil]
def wk(B:Int)(w:aq):Prop:=cE B w∨lW w
theorem wk.e{B:Int}{w:aq}(h:wk B w):ju w:=h.elim (fun q=>.inl q.sim) .inr
theorem wk.more{B B':Int}{w:aq}(h:wk B w)(h1:B<=B')(h2:B'<=549755813888):wk B' w:=h.elim (fun q=>.inl (q.more h1 h2)) .inr
theorem TZ:lW uZ:=⟨rfl,Int.le_refl _,by decide⟩
theorem wk.step{B:Int}{w:aq}(h:wk B w):wk B (rD w):=by
 unfold rD
 split
 ·exact h
 ·rename_i k
  rcases h with h|h
  ·cases e:au w with
   | nil=>exact absurd e k
   | cons f r=>exact .inl (h.step e).1
  ·exact absurd h.fl k
theorem wk.run{B to:Int}{w:aq}(h:wk B w):wk B (oS w to):=by
 unfold oS
 split
 ·rename_i k
  unfold lI at k
  split at k
  ·cases k
  rename_i k1
  split at k
  ·cases k
  rename_i k2
  rcases h with h|h
  ·have:=h.s.now
   exact .inl (h.runs ⟨by omega,by omega⟩)
  ·refine .inr ?_
   have e:tG w to=cD uZ to:=by rw[h.1];rfl
   rw[e]
   have:=h.2
   exact⟨rfl,by show 0<=to;omega,by show to<=_;omega⟩
 ·exact .inr TZ
theorem wk.send{B:Int}{w:aq}(h:wk B w)(hB:B+4000<=549755813888){at' who:Int}{b:List Int}(he:gN w at' who=0)(hb:bytes b)(hl:(b.length:Int)<=2000):wk (B+4000) (kU w at' who b):=by
 unfold kU
 rw[if_pos he]
 rcases h with h|h
 ·exact .inl (h.send hB he hb hl).1
 ·unfold gN at he
  have e0:((am w).1.length:Int)=0:=by rw[h.1];rfl
  rw[if_pos (by omega)] at he
  cases he
def OJ:Ct:=xP Xs
def ai6:ao OJ.ps->az:=(fun d=>{loops:=(fun n=>match n with|8=>some (fun S=>{ι:=aq×Int,qn:=⟨fun k_=>∀(v:aq)(t:Int),k_ (v,t),fun k_ h_ i=>h_ i.1 i.2,fun k_=>∃ (v:aq) (t:Int),k_ (v,t),fun k_ ⟨v,t,h_⟩=>⟨_,h_⟩⟩,μ:=fun i=>gb i.1,inv:=fun i=>oP (S.i 5) i.1 i.2,keep:=[5],slots:=fun i=>[(3,.ptr 64 0),(6,.int .i64 i.2)],names:=fun i=>[(64,.live (.cells 37 (cj iI i.1)))]})|15=>some (fun S=>{ι:=Int,μ:=fun i=>(S.i 5-i).toNat,inv:=fun i=>0<=i/\i<=S.i 5,keep:=[3,5],slots:=fun i=>[(9,.int .i64 i)],keepN:=[64],names:=fun i=>[]})|20=>some (fun S=>{ι:=Int×Int×Int×Int,qn:=⟨fun k_=>∀(i:Int)(last:Int)(ans:Int)(oth:Int),k_ (i,last,ans,oth),fun k_ h_ i=>h_ i.1 i.2.1 i.2.2.1 i.2.2.2,fun k_=>∃ (i:Int) (last:Int) (ans:Int) (oth:Int),k_ (i,last,ans,oth),fun k_ ⟨i,last,ans,oth,h_⟩=>⟨_,h_⟩⟩,μ:=fun i=>((aR (S.c iI 64)).length-i.1).toNat,inv:=fun i=>0<=i.1/\i.1<=(aR (S.c iI 64)).length/\(i.2.1,i.2.2.1,i.2.2.2)=gz (fc (S.i 9) ((aR (S.c iI 64)).take i.1.toNat)),keep:=[3,5,9],slots:=fun i=>[(10,.int .i64 i.2.1),(11,.int .i64 i.2.2.1),(12,.int .i64 i.2.2.2),(13,.int .i64 i.1)],keepN:=[64],names:=fun i=>[]})|34=>some (fun S=>{ι:=Int,μ:=fun i=>((aR (S.c iI 64)).length-i).toNat,inv:=fun i=>0<=i/\i<=(aR (S.c iI 64)).length,keep:=[3,5],slots:=fun i=>[(14,.int .i64 i)],keepN:=[64],names:=fun i=>[]})|_=>none)})
def ro(f:aq) :=
 f.1.1=f.1.1/\f.1.2.1=f.1.2.1/\f.1.2.2=f.1.2.2/\f.2.1=f.2.1/\f.2.2.1=f.2.2.1/\f.2.2.2.1=f.2.2.2.1/\f.2.2.2.2.1=f.2.2.2.2.1/\f.2.2.2.2.2.1=f.2.2.2.2.2.1/\f.2.2.2.2.2.2.1=f.2.2.2.2.2.2.1/\f.2.2.2.2.2.2.2.1=f.2.2.2.2.2.2.2.1/\f.2.2.2.2.2.2.2.2=f.2.2.2.2.2.2.2.2/\True
def ld(f:aq) :=
 ((List.length (aR f)):Int)
def tA(f:aq)(k:Int) :=
 List.getD f.2.2.2.2.2.2.2.2 k.toNat default
def sj(f:aq) :=
 (f.2.2.2.2.2.2.2.2.length:Int)
def zd(f:aq)(j o p q r:Int) :=
 0<=o/\o<=(ld f)/\(p,q,r)=gz (fc j (List.take o.toNat (aR f)))
theorem Vi :
 ∀(a:List Int),(a.length<=maxLen/\ ∀(b:Int),b∈a->0<=b/\b<=255)/\True->True->(0:Int)<=500/\ay (if (a.length:Int)<=500 then a else List.take (Int.toNat (500:Int)) a,(0:Int))/\ ∀(b:(List ac×List aE×List aM)×Int×Int×Int×List (List aF×Int×List Int×(Int×Int)×Int)×List Int×List (Int×Int×Int×Int×Int×List Int)×List (Int×Int×List Int)×List (Int×Int×Int×Int×Int))(c:Bool)(d:List Int)(e:Int),(ay (d,e)/\c=true/\ ∃(f:Int),jY f b)->ad (! c) (false=true) ((∃(f:aq) (g:Int),oP b.2.2.1 f g/\b.2.2.1=b.2.2.1/\(0:Int)=g/\b.1.1=f.1.1/\b.1.2.1=f.1.2.1/\b.1.2.2=f.1.2.2/\b.2.1=f.2.1/\b.2.2.1=f.2.2.1/\b.2.2.2.1=f.2.2.2.1/\b.2.2.2.2.1=f.2.2.2.2.1/\b.2.2.2.2.2.1=f.2.2.2.2.2.1/\b.2.2.2.2.2.2.1=f.2.2.2.2.2.2.1/\b.2.2.2.2.2.2.2.1=f.2.2.2.2.2.2.2.1/\b.2.2.2.2.2.2.2.2=f.2.2.2.2.2.2.2.2/\True)/\ ∀(f:aq)(g:Int),oP b.2.2.1 f g->ju f/\ ∀(h:(List ac×List aE×List aM)×Int×Int×Int×List (List
 aF×Int×List Int×(Int×Int)×Int)×List Int×List (Int×Int×Int×Int×Int×List Int)×List (Int×Int×List Int)×List (Int×Int×Int×Int×Int)) (i:Bool),h=rD f/\i=iY f->ad (! i) ((∃(j:Int),(0<=j/\j<=b.2.2.1)/\b.2.2.1=b.2.2.1/\(0:Int)=j/\(ro f))/\ ∀(j:Int),0<=j/\j<=b.2.2.1->ad (decide (j<b.2.2.1)) ((∃(k:Int) (l:Int),∃(m:Int) (n:Int),(0<=k/\k<=(ld f)/\(l,m,n)=gz (fc j (List.take k.toNat (aR f))))/\b.2.2.1=b.2.2.1/\j=j/\(-1:Int)=l/\(0:Int)=m/\(0:Int)=n/\(0:Int)=k/\(ro f))/\ ∀(k l m n:Int),0<=k/\k<=(ld f)/\(l,m,n)=gz (fc j (List.take k.toNat (aR f)))->ad (decide (k<(sj f))) (0<=k/\k<(sj f)/\ad (! decide ((tA f k).1=j)) (∃(o:Int) (p:Int),∃(q:Int) (r:Int),(zd f j o p q r)/\Int.toNat ((ld f) -o)<Int.toNat ((ld f) -k)/\b.2.2.1=b.2.2.1/\j=j/\l=p/\m=q/\n=r/\IntKind.wrap .i64 (k+(1:Int))=o/\(ro f)) (0<=k/\k<(sj f)/\ad (decide ((tA f k).2.1<l)) (false=true)
 (0<=k/\k<(sj f)/\0<=k/\k<(sj f)/\ad (decide ((tA f k).2.2.2.2=2)) (ad (decide (0<n)) (false=true) (∃(o:Int) (p:Int),∃(q:Int) (r:Int),(zd f j o p q r)/\Int.toNat ((ld f) -o)<Int.toNat ((ld f) -k)/\b.2.2.1=b.2.2.1/\j=j/\(tA f k).2.1=p/\IntKind.wrap .i64 (m+(1:Int))=q/\n=r/\IntKind.wrap .i64 (k+(1:Int))=o/\(ro f))) (∃(o:Int) (p:Int),∃(q:Int) (r:Int),(zd f j o p q r)/\Int.toNat ((ld f) -o)<Int.toNat ((ld f) -k)/\b.2.2.1=b.2.2.1/\j=j/\(tA f k).2.1=p/\m=q/\IntKind.wrap .i64 (n+(1:Int))=r/\IntKind.wrap .i64 (k+(1:Int))=o/\(ro f))))) (∀(o:Bool),o=decide (1<m)->((! o)->((! o)->(! o))/\True)/\(o=false->(! o))/\ad (bif o then true else ! decide (n=1)) (false=true) (∃(p:Int),(0<=p/\p<=b.2.2.1)/\Int.toNat (b.2.2.1 -p)<Int.toNat (b.2.2.1 -j)/\b.2.2.1=b.2.2.1/\IntKind.wrap .i64 (j+(1:Int))=p/\(ro f)))) ((∃(k:Int),(0<=k/\k<=(ld f))/\b.2.2.1=b.2.2.1/\(0:Int)=k/\(ro
 f))/\ ∀(k:Int),0<=k/\k<=(ld f)->ad (decide (k<(sj f))) (0<=k/\k<(sj f)/\ad (decide (b.2.2.1<=(tA f k).1)) (false=true) (∃(l:Int),(0<=l/\l<=(ld f))/\Int.toNat ((ld f) -l)<Int.toNat ((ld f) -k)/\b.2.2.1=b.2.2.1/\IntKind.wrap .i64 (k+(1:Int))=l/\(ro f))) (true=true))) (ad (decide (h.2.1<g)) (false=true) (∃(j:aq) (k:Int),oP b.2.2.1 j k/\gb j<gb f/\b.2.2.1=b.2.2.1/\h.2.1=k/\h.1.1=j.1.1/\h.1.2.1=j.1.2.1/\h.1.2.2=j.1.2.2/\h.2.1=j.2.1/\h.2.2.1=j.2.2.1/\h.2.2.2.1=j.2.2.2.1/\h.2.2.2.2.1=j.2.2.2.2.1/\h.2.2.2.2.2.1=j.2.2.2.2.2.1/\h.2.2.2.2.2.2.1=j.2.2.2.2.2.2.1/\h.2.2.2.2.2.2.2.1=j.2.2.2.2.2.2.2.1/\h.2.2.2.2.2.2.2.2=j.2.2.2.2.2.2.2.2/\True))):=by
  delta ro ld tA sj zd
  rintro a ⟨-,-⟩ -
  refine⟨by decide,⟨Int.le_refl _,Int.natCast_nonneg _⟩,?_⟩
  rintro d ok l2 p2 ⟨hc2,hok,m,hm⟩
  have hok:ok=true:=hok
  subst hok
  refine ae (fun h=>absurd h (by decide)) (fun _=>?_)
  have hs:d.2.2.1=m:=hm.ord
  have hm9:=hm.m9
  refine⟨⟨d,0,oP.new hm,(by repeat' first|exact trivial|refine⟨trivial,?_⟩|refine⟨(by with_reducible rfl),?_⟩|refine⟨af (by omega) (by omega),?_⟩|refine⟨rfl,?_⟩)⟩,?_⟩
  rintro v t hv
  have hv:oP d.2.2.1 v t:=hv
  refine⟨.inl hv.ok,?_⟩
  rintro d1 x1 ⟨hd1,hx1⟩
  refine ae (fun hx=>?_) (fun hx=>?_)
  ·have hx:iY v=false:=by rw[← hx1];simpa using hx
   have hf:au v=[]:=Classical.byContradiction fun k=>by unfold iY at hx;exact of_decide_eq_false hx k
   have hl:=hv.ok.e
   refine⟨⟨0,⟨by decide,by omega⟩,(by repeat' first|exact trivial|refine⟨trivial,?_⟩|refine⟨(by with_reducible rfl),?_⟩|refine⟨af (by omega) (by omega),?_⟩|refine⟨rfl,?_⟩)⟩,?_⟩
   rintro o ⟨o0,o1⟩
   refine ae (fun ho=>?_) (fun ho=>?_)
   ·have ho:=of_decide_eq_true ho
    have hO:=hv.og o o0 ho
    rw[hf] at hO
    have hO:pX [] (fc o (aR v)):=hO
    have hA:∀ e∈fc o (aR v),0<=md e:=fun e he=>(hv.en e (List.mem_filter.1 he).1).1
    refine⟨⟨0,-1,0,0,⟨by decide,Int.natCast_nonneg _,rfl⟩,(by repeat' first|exact trivial|refine⟨trivial,?_⟩|refine⟨(by with_reducible rfl),?_⟩|refine⟨af (by omega) (by omega),?_⟩|refine⟨rfl,?_⟩)⟩,?_⟩
    rintro i last ans oth ⟨i0,i1,hst⟩
    refine ae (fun hi=>?_) (fun hi=>?_)
    ·have hi:i<(aR v).length:=of_decide_eq_true hi
     refine⟨i0,hi,?_⟩
     have hnx:=ab4 (o:=o) i0 hi
     rw[← hst] at hnx
     refine ae (fun hq=>?_) (fun hq=>?_)
     ·have hq:¬ nJ ((aR v).getD i.toNat default)=o:=gn hq
      rw[if_neg hq] at hnx
      rw[af (by omega) (by omega)]
      exact⟨i+1,last,ans,oth,⟨by omega,by omega,hnx.symm⟩,by omega,(by repeat' first|exact trivial|refine⟨trivial,?_⟩|refine⟨(by with_reducible rfl),?_⟩|refine⟨af (by omega) (by omega),?_⟩|refine⟨rfl,?_⟩)⟩
     ·have hq:nJ ((aR v).getD i.toNat default)=o:=gQ hq
      rw[if_pos hq] at hnx
      obtain⟨z1,z2,z3,z4⟩:=SA hO hA (Rx i0 hi hq)
      rw[← hst] at z1 z2 z3 z4
      refine⟨i0,hi,ae (fun hw=>?_) (fun hw=>?_)⟩
      ·have hw:md ((aR v).getD i.toNat default)<last:=of_decide_eq_true hw
       have z1:last<=md ((aR v).getD i.toNat default):=z1
       omega
      have z3:0<=ans/\ans<=1:=z3
      have z4:0<=oth/\oth<=1:=z4
      refine⟨i0,hi,i0,hi,ae (fun hy=>?_) (fun hy=>?_)⟩
      ·have hy:kv ((aR v).getD i.toNat default)=2:=of_decide_eq_true hy
       have z2:oth<=0:=z2 hy
       rw[if_pos hy,if_pos hy] at hnx
       refine ae (fun hw=>?_) (fun hw=>?_)
       ·have hw:=of_decide_eq_true hw
        omega
       rw[af (n:=ans+1) (by omega) (by omega),af (n:=i+1) (by omega) (by omega)]
       exact⟨i+1,_,ans+1,oth,⟨by omega,by omega,hnx.symm⟩,by omega,(by repeat' first|exact trivial|refine⟨trivial,?_⟩|refine⟨(by with_reducible rfl),?_⟩|refine⟨af (by omega) (by omega),?_⟩|refine⟨rfl,?_⟩)⟩
      ·have hy:¬ kv ((aR v).getD i.toNat default)=2:=of_decide_eq_false hy
       rw[if_neg hy,if_neg hy] at hnx
       rw[af (n:=oth+1) (by omega) (by omega),af (n:=i+1) (by omega) (by omega)]
       exact⟨i+1,_,ans,oth+1,⟨by omega,by omega,hnx.symm⟩,by omega,(by repeat' first|exact trivial|refine⟨trivial,?_⟩|refine⟨(by with_reducible rfl),?_⟩|refine⟨af (by omega) (by omega),?_⟩|refine⟨rfl,?_⟩)⟩
    ·have hi:¬ i<(aR v).length:=of_decide_eq_false hi
     rw[List.take_of_length_le (by omega)] at hst
     obtain⟨z1,z2⟩:=as4 hO
     rw[← hst] at z1 z2
     have z1:ans<=1:=z1
     have z2:oth=1:=z2
     intro b1 hb1
     have hb1:b1=false:=by rw[hb1];exact decide_eq_false (by omega)
     subst hb1
     (repeat refine⟨(by simp;done),?_⟩)
     rw[z2]
     refine ae (fun h=>absurd h (by decide)) (fun _=>?_)
     rw[af (by omega) (by omega)]
     exact⟨o+1,⟨by omega,by omega⟩,by omega,(by repeat' first|exact trivial|refine⟨trivial,?_⟩|refine⟨(by with_reducible rfl),?_⟩|refine⟨af (by omega) (by omega),?_⟩|refine⟨rfl,?_⟩)⟩
   ·refine⟨⟨0,⟨by decide,Int.natCast_nonneg _⟩,(by repeat' first|exact trivial|refine⟨trivial,?_⟩|refine⟨(by with_reducible rfl),?_⟩|refine⟨af (by omega) (by omega),?_⟩|refine⟨rfl,?_⟩)⟩,?_⟩
    rintro i ⟨i0,i1⟩
    refine ae (fun hi=>?_) (fun hi=>rfl)
    have hi:i<(aR v).length:=of_decide_eq_true hi
    refine⟨i0,hi,ae (fun hq=>?_) (fun hq=>?_)⟩
    ·have hq:d.2.2.1<=nJ ((aR v).getD i.toNat default):=of_decide_eq_true hq
     have:=(hv.en _ (bH i0 hi)).2.2
     omega
    ·rw[af (by omega) (by omega)]
     exact⟨i+1,⟨by omega,by omega⟩,by omega,(by repeat' first|exact trivial|refine⟨trivial,?_⟩|refine⟨(by with_reducible rfl),?_⟩|refine⟨af (by omega) (by omega),?_⟩|refine⟨rfl,?_⟩)⟩
  ·have hx:iY v=true:=by rw[← hx1];simpa using hx
   cases ef:au v with
   | nil=>unfold iY at hx;rw[ef] at hx;simp at hx
   | cons f r =>
    have hd1:d1=cO v:=by rw[hd1];unfold rD;rw[if_neg (by rw[ef];simp)]
    subst hd1
    obtain⟨q1,q2⟩:=hv.step ef
    refine ae (fun hw=>?_) (fun hw=>?_)
    ·have hw:aV (cO v)<t:=of_decide_eq_true hw
     omega
    ·exact⟨cO v,aV (cO v),q2,(hv.ok.step ef).2,(by repeat' first|exact trivial|refine⟨trivial,?_⟩|refine⟨(by with_reducible rfl),?_⟩|refine⟨af (by omega) (by omega),?_⟩|refine⟨rfl,?_⟩)⟩
theorem ok_law15_SimulateEnds:av Tryz.prog GL 6 OJ.spec:=Ct.okH _ Tryz.func6 (by kernel_rfl) (ai (ai (ai (ai aC VW) Xa) Wk) (Ct.named T9)) ar ai6 (aD (by kernel_rfl) Vi)
end Go.RS
