/- SX, part 30: a function that parts a row which a variable's cell owns: it returns the row's beginning, and leaves the rest in the cell. -/
import Derived.Test.YtffciochlkcjbaaIdent
import Derived.Test.YtffciochlkcjbaaXw1
namespace Go.SX
set_option linter.unusedVariables false
structure Cp where
 E:TypeId
 o:OT
 oe:OT
 off:Nat
 Er:TypeId
 t:CT
 xs:o.D->List t.D
 pre:o.D->List Prop
 ex:o.D->oe.X
 out:o.D->Nat
def Cp.upd(c:Cp)(d:c.o.D)(p base n:Nat):List (Nat×Nm) :=
 [(p,.live (.cells c.E (d9 (dm p c.oe (c.ex d) [] 0) c.off [.part base c.t.size (c.out d) ((c.xs d).length-c.out d)]))),(base,.live (.row c.Er c.t (c.xs d))),(n,.dead)]
def Cp.spec(c:Cp):Spec:=fun base svs=>match svs with
 | [.ptr p z,.ptr q off]=>match Nat.beq z 0,Nat.beq q p,Nat.beq off c.off,kj [.box c.E c.o] [] with
  | true,true,true,true => .ask p fun
   | .live (.cells E cs)=>match Nat.beq E c.E with
    | true=>(dH none c.o cs).bind fun x=>match x with
     | (d,[],[],[],[some n])=>match Nat.beq p n with
      | true => .fail
      | false => .ask base fun
       | .un => .ret (.det (c.pre d) (.part base c.t.size 0 (c.out d)) (c.upd d p base n))
       | _ => .fail
     | _ => .fail
    | false => .fail
   | _ => .fail
  | _,_,_,_ => .fail
 | _ => .fail
def Cp.start(c:Cp)(d:c.o.D)(n:Nat):St:=⟨d6 [.ptr PN 0,.ptr PN c.off] n,[(PN,.live (.cells c.E (dR c.o d 1 0)))]++(fG c.o d 0++gQ (cX [.box c.E c.o]))⟩
def Cp.fin(P:Program)(c:Cp)(rv:List ResultVar)(d:c.o.D):Ex->St->Prop:=fun e S=>match e with
 | .exit _=>False
 | _=>match gv P rv S.sl (aZ S.H),aZ S.H PN with
  | some [.part q z l0 k],.live (.cells E' cs)=>match aZ S.H q,cs[c.off]?,cV (aZ S.H) true c.oe (some 1) cs with
   | .live (.row E2 t2 ys),some (.part q2 z2 l2 k2),some (x,[],[],[]) =>
    match Nat.beq z c.t.size,Nat.beq E' c.E,Nat.beq E2 c.Er,bO t2 c.t ys,Nat.beq q2 q,Nat.beq z2 c.t.size,Nat.blt q PN||Nat.ble QN q with
    | true,true,true,some zs,true,true,true=>fo [l0=0,k=c.out d,zs=c.xs d,l2=c.out d,k2=(c.xs d).length-c.out d,x=c.ex d]
    | _,_,_,_,_,_,_=>False
   | _,_,_=>False
  | _,_=>False
def Cp.vc(P:Program)(sp:bc)(c:Cp)(fn:Func)(an:c.o.D->aI):Prop :=
 iH c.o fun d=>c.o.wf d->fo (c.pre d)->gC (c.start d fn.ntmps) (sx P sp (an d) (iQ fn) (c.fin P fn.results.toList d))
theorem Cp.ok{P:Program}{sp:bc}(c:Cp){f:FuncId}{fn:Func}(hf:P.funcs[f]? = some fn)(hb:fn.body=some (iQ fn))(hs:bX P sp)(ay:P.follows .mixedOrders=true)
  (hnb:c.o.nb=0) (hne:c.oe.nb=0) (hnr:c.oe.nr=0) (hpl:c.oe.hx=c.o.hx) (hcon:∀ d,fG c.o d 0=[(QN,.live (.row c.Er c.t (c.xs d)))]) (an:c.o.D->aI)
  (vc:Cp.vc P sp c fn an):aC P sp.gl f c.spec:=by
 intro base svs h dl r e hp w0 N0 A env w vs hG m hd
 unfold Cp.spec at e
 split at e
 case h_2=>cases e
 rename_i p z q off
 split at e
 case h_2=>cases e
 rename_i hz hq hoff hix
 have hz:=Nat.eq_of_beq_eq_true hz
 have hq:=Nat.eq_of_beq_eq_true hq
 have hoff:=Nat.eq_of_beq_eq_true hoff
 subst hz hq hoff
 simp only[Q.run] at e
 split at e
 case h_2=>cases e
 rename_i p0 q0 hk
 simp only[Option.some.injEq,Prod.mk.injEq] at e
 obtain⟨rfl,rfl⟩:=e
 split at hk
 case h_2=>cases hk
 rename_i E cs hl
 split at hk
 case h_2=>cases hk
 rename_i hE
 have hE:=Nat.eq_of_beq_eq_true hE
 subst hE
 obtain⟨x,q1,q2,e1,e2,rfl⟩:=Q.run_bind _ _ _ hk
 split at e2
 case h_2=>cases e2
 rename_i d n
 split at e2
 ·cases e2
 rename_i hpn
 have hpn:q≠n:=fun e=>by rw[e,Nat.beq_refl] at hpn;cases hpn
 simp only[Q.run] at e2
 split at e2
 case h_2=>cases e2
 rename_i p1 r1 hk1
 simp only[Option.some.injEq,Prod.mk.injEq] at e2
 obtain⟨rfl,rfl⟩:=e2
 split at hk1
 case h_2=>cases hk1
 rename_i hun
 cases aN hk1
 have hp:aD (c.pre d):=hp
 simp only[ac,aa] at hd
 obtain⟨_,_,rfl,⟨k,l,hek,rfl⟩,_,_,rfl,⟨k',l',hek',rfl⟩,rfl⟩:=hd
 rw[hek] at hek'
 cases hek'
 obtain⟨⟨us,hus,hdu⟩,_⟩:=m.live_blk hl hek
 obtain⟨hxr,hxn,hxl⟩:=vH hix
 have hxI:cX [.box c.E c.o]=c.o.hx:=by simp[cX]
 obtain⟨s1,s2,s3,s4,us',rs',s5,s6,hol,hols,s7⟩:=kU m (Ac:=bw A env []) (fun b hb=>.inl hb) none c.o cs us.toList d [] [] [] [some n] q1 1 0 e1 hdu (fun k hk=>.inr hk)
 simp only[ac] at s6
 subst s6
 rw[List.append_nil] at s5
 subst s5
 have holn:(hol.map (·.1)).Nodup:=by rw[hols.1,← hxI];exact hxn
 have hbh:[q].length<=HN-PN:=by simp[HN,PN]
 have hbl:[q].length<=PN:=by simp[PN]
 have holv:∀ y∈hol,cB env [q] [some n] hol (HN+y.1) = .val y.2.1 y.2.2:=fun y hy=>by
  have hy':y.1∈cX [.box c.E c.o]:=by rw[hxI,← hols.1];exact List.mem_map_of_mem (f:=(·.1)) hy
  unfold cB
  rw[wN hbh (hxl _ hy')]
  exact qf holn y hy
 have hcb:cB env [q] [some n] hol PN=env q:=by have:=n5 (env:=env) (cx:=[some n]) (hv:=hol) hbl (i:=0) (n:=q) rfl;simpa using this
 have hcc:cB env [q] [some n] hol QN=env n:=by have:=tq (env:=env) (bx:=[q]) (cx:=[some n]) (hv:=hol) (i:=0) (o:=some n) rfl;simpa[dV] using this
 obtain⟨k1,k2,k3⟩:=s7 (cB env [q] [some n] hol) (fun n hn=>by cases hn) (fun k n hn=>by simp at hn) (fun k y hy=>by
  cases k with
  | zero=>simp at hy;subst hy;simpa[dV] using hcc
  | succ k=>simp at hy) holv
 have hlb:cm (bw A env []) env h (cB env [q] [some n] hol) w ([q].map some) [(PN,.live (.cells c.E (dR c.o d 1 0)))] PN:=by
  refine⟨⟨rfl,_,rfl,rfl,.inl ⟨q,_,rfl,hl,rfl,fun k' len' he=>?_,fun he=>?_⟩⟩,trivial⟩
  ·rw[hek] at he;cases he
   exact⟨us,hus,k1⟩
  ·rw[hek] at he;cases he
 have k3:cm (bw A env []) env h (cB env [q] [some n] hol) w [some n] (fG c.o d 0) QN:=by simpa using k3
 have hnd:([q]++cf [some n]).Nodup:=by simp[cf,hpn]
 have mc:=m.call hol (fz:=[]) (fun _ _ hh=>by simp at hh) hbl hlb k3 (by simp) hnd
 rw[hols.1,← hxI] at mc
 have hvc:=mg.1 vc d s2 (jB.2 hp)
 rw[nW] at hvc
 obtain⟨bn,hbn1,hbn2⟩:∃ b,h n = .live b/\b.mut=true:=by
  obtain⟨b',_,_,_,⟨q',b,e,h1,h2,_⟩|⟨e,_⟩⟩:=k3.get.2 0 (some n) rfl
  ·cases e;exact⟨b,h1,h2⟩
  ·cases e
 have hnn:env n ≠ .un:=by
  have:=m.nm n
  rw[hbn1] at this
  rcases this with⟨k,len,e,_⟩|⟨e,_⟩ <;> rw[e] <;> simp
 have hbq:base≠q:=fun e=>by rw[e,hl] at hun;cases hun
 have hbn:base≠n:=fun e=>by rw[e,hbn1] at hun;cases hun
 refine calls_of_wp hf hb (uZ (N0:=⟨lO env ([q]++cf [some n]),bw A env [],N0.g⟩) ⟨hs,hG⟩ ay (iQ fn) _ _ _ (bw A env []) (cB env [q] [some n] hol) _ w hvc ⟨mc,?_,?_,rfl⟩ ?_)
 ·simp only[St.fs,Cp.start,n8,Array.size_append,Array.size_replicate];omega
 ·intro i
  simp only[St.fs,Cp.start]
  have dargs:ac (bw A env []) (cB env [q] [some n] hol) w [.ptr PN 0,.ptr PN c.off] [.pointer (some ⟨k,0,none⟩),.pointer (some ⟨k,c.off,none⟩)]:=by
   simp only[ac,aa]
   exact⟨_,_,rfl,⟨k,l,by rw[hcb];exact hek,rfl⟩,_,_,rfl,⟨k,l,by rw[hcb];exact hek,rfl⟩,rfl⟩
  rcases mV (l:=[SV.ptr PN 0,SV.ptr PN c.off]) (n:=fn.ntmps) (i:=i) with hj|⟨s,h1,h2⟩
  ·rw[hj];simp only[aa]
  ·rw[h2]
   obtain⟨v,hv,hdv⟩:=iK i s dargs h1
   generalize hvs:[Value.pointer (some ⟨k,0,none⟩),Value.pointer (some ⟨k,c.off,none⟩)]=vs at hv
   have hi:i<vs.length:=(List.getElem?_eq_some_iff.1 hv).1
   have:(vs.toArray++Array.replicate (fn.ntmps-vs.toArray.size) undef).getD i undef=v:=by
    have h3:(vs.toArray++Array.replicate (fn.ntmps-vs.toArray.size) undef)[i]? = some v:=by
     rw[Array.getElem?_append_left (by simpa using hi)];simpa using hv
    simp only[Array.getD_eq_getD_getElem?,h3,Option.getD_some]
   rw[this];exact hdv
 ·intro ex S' A1 env1 act w1 hK t' x'
  have hend:∃ rsv qe C1 x,gv P fn.results.toList S'.sl (aZ S'.H)=some [.part qe c.t.size 0 (c.out d)]/\aZ S'.H PN = .live (.cells c.E C1)/\aZ S'.H qe = .live (.row c.Er c.t (c.xs d)) ∧
    C1[c.off]? = some (.part qe c.t.size (c.out d) ((c.xs d).length-c.out d))/\cV (aZ S'.H) true c.oe (some 1) C1=some (x,[],[],[])/\x=c.ex d/\(qe<PN∨QN<=qe)/\(ex = .normal∨ex = .ret)/\rsv=():=by
   unfold Cp.fin at hK
   split at hK
   ·exact hK.elim
   ·rename_i hex
    split at hK
    ·rename_i q9 z9 l9 k9 E9 cs9 h1 h2
     split at hK
     ·rename_i E2 t2 ys q2 z2 l2 k2 x h3 h4 h5
      split at hK
      ·rename_i zs hz1 hz2 hz3 hc hz4 hz5 hz6
       have hz1:=Nat.eq_of_beq_eq_true hz1
       have hz2:=Nat.eq_of_beq_eq_true hz2
       have hz3:=Nat.eq_of_beq_eq_true hz3
       have hz4:=Nat.eq_of_beq_eq_true hz4
       have hz5:=Nat.eq_of_beq_eq_true hz5
       obtain⟨et,ez⟩:=cA hc
       subst et
       simp only at ez
       subst ez
       subst hz1 hz2 hz3 hz4 hz5
       obtain⟨y1,y2,y3,y4,y5,y6⟩:=hK
       subst y1 y2 y4 y5
       refine⟨(),q2,cs9,x,h1,h2,by rw[← y3];exact h3,h4,h5,y6,?_,?_,rfl⟩
       ·simp only[Bool.or_eq_true] at hz6
        exact hz6.imp (fun h=>Nat.le_of_ble_eq_true h) (fun h=>Nat.le_of_ble_eq_true h)
       ·cases ex with
        | normal=>exact .inl rfl
        | ret=>exact .inr rfl
        | exit i=>exact absurd rfl (hex i)
      ·exact hK.elim
     ·exact hK.elim
    ·exact hK.elim
  obtain⟨-,qe,C1,x,hts,hC,hR,hpt,hoo,rfl,hqe,hex,-⟩:=hend
  obtain⟨rvs,hrun,hres⟩:=v8 t'.m t'.f hts
  have hqP:qe≠PN:=fun e=>by rw[e,hC] at hR;cases hR
  have henvp:env1 PN=env q:=by
   have:=x'.envp PN (Nat.le_refl _) zG (by rw[hcb,hek];simp)
   rw[this,hcb]
  have hRq:aX [(q,some PN),(base,some qe)] q=some (some PN):=by simp[dZ]
  have hRb:aX [(q,some PN),(base,some qe)] base=some (some qe):=by simp[dZ,hbq]
  have hRi:∀ n' y,aX [(q,some PN),(base,some qe)] n'=some y->(n'=q/\y=some PN)∨(n'=base/\y=some qe):=fun n' y hy=>by
   simp only[dZ] at hy
   split at hy
   ·rename_i e;cases hy;exact .inl ⟨e,rfl⟩
   ·split at hy
    ·rename_i e;cases hy;exact .inr ⟨e,rfl⟩
    ·simp[aX] at hy
  have hkeepE:∀ n',env n' ≠ .un->bt [(q,some PN),(base,some qe)] env env1 n'=env n':=fun n' hn'=>by
   unfold bt
   cases hl':aX [(q,some PN),(base,some qe)] n' with
   | none=>rfl
   | some y =>
    rcases hRi n' y hl' with⟨rfl,rfl⟩|⟨rfl,rfl⟩
    ·simp only[bN,hl'];exact henvp
    ·exact absurd (by have:=m.nm n';rw[hun] at this;exact this) hn'
  have hAA:∀ b,A b->A1 b:=fun b hb=>x'.imm b (.inl hb)
  have xg:aY A env w A1 (bt [(q,some PN),(base,some qe)] env env1) w1 :=
   ⟨hAA,fun n b l e=>by rw[hkeepE n (by rw[e];simp)];exact e,fun n e=>by rw[hkeepE n (by rw[e];simp)];exact e,fun n v s e=>by rw[hkeepE n (by rw[e];simp)];exact e,
    fun b o hb=>x'.keep b o (.inl hb),x'.shape⟩
  have hHole:∀ i∈c.oe.hx,∀ v s,env1 (HN+i) = .val v s->aa A1 (bt [(q,some PN),(base,some qe)] env env1) w1 s v:=fun i hi v s he=>by
   rw[hpl,← hols.1] at hi
   obtain⟨y,hy,rfl⟩:=List.mem_map.1 hi
   have h1:=holv y hy
   have hlq:=hxl y.1 (by rw[hxI,← hols.1];exact List.mem_map_of_mem (f:=(·.1)) hy)
   have h2:=x'.envp (HN+y.1) (by simp only[HN,PN];omega) (by simp only[HN,QN] at hlq ⊢;omega) (by rw[h1];simp)
   rw[h2,h1] at he
   cases he
   exact gB xg _ _ (hols.2 y hy)
  have hrq:bt [(q,some PN),(base,some qe)] env env1 q=env1 PN:=by unfold bt;rw[hRq];simp only[bN,hRq]
  have hrb:bt [(q,some PN),(base,some qe)] env env1 base=env1 qe:=by unfold bt;rw[hRb];simp only[bN,hRb]
  have hkP:env1 PN = .blk k l:=by rw[henvp];exact hek
  obtain⟨⟨us1,hus1,hdu1⟩,_⟩:=t'.m.live_blk (show S'.fs.h PN=_ from hC) hkP
  obtain⟨p1,p2,us2,rs2,p3,p4,p5⟩:=jE (A':=A1) (A2:=A1) (env':=bt [(q,some PN),(base,some qe)] env env1) t'.m (fun b hb=>hb) q c.oe (some 1) C1 us1.toList (c.ex d) [] [] [] [] [] 0 hoo hdu1 (fun k' ⟨_,_,_,hx,_⟩=>by simp at hx) (.inr fun b hb=>hb) (.inr (by rw[hne];rfl))
  simp only[ac] at p4
  subst p4
  rw[List.append_nil] at p3
  subst p3
  obtain⟨g1,-,-,-⟩:=p5 hHole (fun _=>hrq) (fun k q hq=>by simp at hq) (fun j0 k q _ hq=>by simp at hq)
  have denP:∀(lo ln:Nat)(v:Value),aa A1 env1 w1 (.part qe c.t.size lo ln) v->aa A1 (bt [(q,some PN),(base,some qe)] env env1) w1 (.part base c.t.size lo ln) v:=fun lo ln v hv=>by
   simp only[aa] at hv ⊢
   rw[hrb];exact hv
  obtain⟨vo,hvo,hdo⟩:=iK _ _ hdu1 hpt
  have hlt:c.off<us1.toList.length:=(List.getElem?_eq_some_iff.1 hvo).1
  have hvv:us1.toList[c.off]=vo:=(List.getElem?_eq_some_iff.1 hvo).2
  have hcell:ac A1 (bt [(q,some PN),(base,some qe)] env env1) w1 (d9 (dm q c.oe (c.ex d) [] 0) c.off [.part base c.t.size (c.out d) ((c.xs d).length-c.out d)]) us1.toList:=by
   have h2:ac A1 (bt [(q,some PN),(base,some qe)] env env1) w1 [.part base c.t.size (c.out d) ((c.xs d).length-c.out d)] [vo]:=by simp only[ac];exact⟨vo,[],rfl,denP _ _ _ hdo,rfl⟩
   have h3:=kI (off:=c.off) g1 h2
   have he:us1.toList.take c.off++([vo]++us1.toList.drop (c.off+[vo].length))=us1.toList:=by
    rw[← hvv]
    simp only[List.length_singleton,List.singleton_append]
    rw[List.getElem_cons_drop,List.take_append_drop]
   rw[he] at h3;exact h3
  have hmod:ax w0 N0 A1 (bt [(q,some PN),(base,some qe)] env env1) (aR (c.upd d q base n) h) w1/\aY A env w A1 (bt [(q,some PN),(base,some qe)] env env1) w1:=by
   refine ax.retn (R:=[(q,some PN),(base,some qe)]) (U:=c.upd d q base n) (A':=A1) m t'.m x'.shape ?_ ?_ ?_ ?_ ?_ hAA ?_ ?_
   ·intro n' y hx
    unfold Cp.upd at hx
    simp only[List.mem_cons,Prod.mk.injEq,List.not_mem_nil,or_false] at hx
    rcases hx with⟨rfl,rfl⟩|⟨rfl,rfl⟩|⟨rfl,rfl⟩
    ·refine .inr ⟨_,rfl,rfl,.inl ⟨PN,_,hRq,hC,rfl,fun k' len he=>?_,fun he=>?_⟩⟩
     ·rw[hkP] at he;cases he
      exact⟨us1,hus1,hcell⟩
     ·rw[hkP] at he;cases he
    ·refine .inr ⟨_,rfl,rfl,.inl ⟨qe,_,hRb,hR,rfl,fun k' len he=>?_,fun he=>?_⟩⟩
     ·exact (t'.m.live_blk (show S'.fs.h qe=_ from hR) he).1
     ·have:=t'.m.nm qe
      rw[show S'.fs.h qe=_ from hR] at this
      rcases this with⟨_,_,he',_⟩|⟨_,E3,t3,hb3⟩
      ·rw[he] at he';cases he'
      ·rcases hb3 with hb3|hb3
       ·exact⟨E3,t3,hb3⟩
       ·cases hb3
    ·exact .inl rfl
   ·intro n' hn'
    obtain⟨y',hy⟩:=Option.ne_none_iff_exists'.1 hn'
    rcases hRi n' y' hy with⟨rfl,_⟩|⟨rfl,_⟩ <;> simp[Cp.upd]
   ·intro n1 n2 q' h1 h2
    rcases hRi n1 _ h1 with⟨rfl,e1⟩|⟨rfl,e1⟩ <;> rcases hRi n2 _ h2 with⟨rfl,e2⟩|⟨rfl,e2⟩
    ·rfl
    ·cases e1;cases e2;exact absurd rfl hqP
    ·cases e1;cases e2;exact absurd rfl hqP
    ·rfl
   ·intro n' hn'
    obtain⟨y',hy⟩:=Option.ne_none_iff_exists'.1 hn'
    rcases hRi n' y' hy with⟨rfl,rfl⟩|⟨rfl,rfl⟩
    ·exact .inr ⟨_,hl,rfl,by rw[fE hy];exact henvp⟩
    ·exact .inl hun
   ·rintro k' ⟨n',l',hn',he⟩
    simp only[cf,List.cons_append,List.nil_append,List.mem_cons,List.not_mem_nil,or_false] at hn'
    rcases hn' with rfl|rfl
    ·exact⟨_,_,l',by simp[Cp.upd],hl,rfl,he⟩
    ·exact⟨_,bn,l',by simp[Cp.upd],hbn1,hbn2,he⟩
   ·intro b hb
    have hlt':=t'.m.Alt b hb
    rcases t'.m.fresh b hb with h1|h1|h1
    ·rcases h1 with h1|⟨_,_,_,hx,_⟩
     ·exact .inl h1
     ·simp at hx
    ·exact .inr ⟨.inl h1,hlt'⟩
    ·exact .inr ⟨.inr h1,hlt'⟩
   ·rintro q' b k' l' hq' hbm he ⟨n',hn'⟩
    exact (t'.m.live_blk (show S'.fs.h q'=_ from hq') he).2 hbm
  have hrd:=xm hres
  have hgood:bA w0 N0 A env h w (.det (c.pre d) (.part base c.t.size 0 (c.out d)) (c.upd d q base n)) (kz rvs) w1:=by
   refine⟨(),A1,_,trivial,hmod.1,hmod.2,?_⟩
   exact denP _ _ _ hrd
  have hthis:act.defers=[]∧∃ v,(results fn act.tmps).run P w1 = .ok v w1∧∃ v',Ending.returned v = .returned v'∧bA w0 N0 A env h w (.det (c.pre d) (.part base c.t.size 0 (c.out d)) (c.upd d q base n)) v' w1 :=
   ⟨t'.dfr,_,hrun,_,rfl,hgood⟩
  rcases hex with rfl|rfl
  ·exact hthis
  ·exact hthis
theorem Cp.okH{P:Program}{sp:bc}(c:Cp){f:FuncId}{fn:Func}(hf:P.funcs[f]? = some fn)(hb:fn.body=some (iQ fn))(hs:bX P sp)(ay:P.follows .mixedOrders=true)
  (hnb:c.o.nb=0) (hne:c.oe.nb=0) (hnr:c.oe.nr=0) (hpl:c.oe.hx=c.o.hx) (hcon:∀ d,fG c.o d 0=[(QN,.live (.row c.Er c.t (c.xs d)))]) (an:c.o.D->aI)
  (vc:na (Cp.vc P sp c fn an)):aC P sp.gl f c.spec:=c.ok hf hb hs ay hnb hne hnr hpl hcon an vc.out
end Go.SX

/- Xw2: the program's exchange: messages are sent and taken, they arrive; a tick. -/
namespace Go.RS
open Go.SX Go.Proofs
set_option maxRecDepth 100000
set_option linter.unusedVariables false
def fH(a b:af):Prop:=a.1<b.1∨a.1=b.1/\a.2.1<b.2.1
def dt(x y:af):Int:=if bm x.1 y.1≠0 then bm x.1 y.1 else bm x.2.1 y.2.1
instance (a b:af):Decidable (fH a b):=by unfold fH;infer_instance
def tO:Ct:=⟨[.agg a9,.agg a9],[.val cI],fun _=>[],fun d=>((dt d.1 d.2.1,()),())⟩
def D0:az tO.ps->aI:=(fun _=>{})
theorem zf :
 ∀(a b:Int)(c:List Int)(d e:Int)(f:List Int),(ak a/\ak b/\c.length<=maxLen/\ ∀(g:Int),g∈c->0<=g/\g<=255)/\(ak d/\ak e/\f.length<=maxLen/\ ∀(g:Int),g∈f->0<=g/\g<=255)/\True->True->ep [bm a d,bm b e]=dt (a,b,c) (d,e,f):=by
  rintro a1 a2 a3 b1 b2 b3 - -
  have e:dt (a1,a2,a3) (b1,b2,b3)=if bm a1 b1≠0 then bm a1 b1 else bm a2 b2:=rfl
  rw[e]
  simp only[ep]
  by_cases h:bm a1 b1≠0
  ·rw[if_pos h,if_pos h]
  ·rw[if_neg h,if_neg h]
   by_cases k:bm a2 b2≠0
   ·rw[if_pos k]
   ·rw[if_neg k];simp at k;exact k.symm
theorem uy:aC Try.prog GL 80 tO.spec:=Ct.okH _ Try.func80 (by kernel_rfl) (av (av aP wi) BI) ay D0 (aO (by kernel_rfl) zf)
def eI{α:Type}(p:α->Bool)(l:List α):Int:=((l.takeWhile p).length:Int)
theorem kx{α:Type}(p:α->Bool)(l:List α):0<=eI p l/\eI p l<=l.length:=by
 unfold eI
 have:=congrArg List.length (List.takeWhile_append_dropWhile (p:=p) (l:=l))
 rw[List.length_append] at this
 omega
theorem vu{α:Type} [Inhabited α] {p:α->Bool} {R:α->α->Prop} (hR:∀ a b,R a b->p b=true->p a=true):∀{l:List α}{h:Nat},l.Pairwise R->h<l.length->(p (l.getD h default)=true↔(h:Int)<eI p l)
 | [],h,_,hh=>by simp at hh
 | a::l,h,hs,hh=>by
  obtain⟨s1,s2⟩:=List.pairwise_cons.1 hs
  by_cases ha:p a=true
  ·have e:eI p (a::l)=eI p l+1:=by unfold eI;rw[List.takeWhile_cons_of_pos ha,List.length_cons];omega
   cases h with
   | zero =>
    have:=kx p l
    simp only[List.getD_cons_zero]
    exact⟨fun _=>by rw[e];omega,fun _=>ha⟩
   | succ h =>
    simp only[List.getD_cons_succ]
    rw[vu hR s2 (by simpa using hh),e]
    omega
  ·have e:eI p (a::l)=0:=by unfold eI;rw[List.takeWhile_cons_of_neg ha];rfl
   rw[e]
   constructor
   ·intro k
    exfalso
    cases h with
    | zero=>exact ha k
    | succ h =>
     simp only[List.getD_cons_succ] at k
     have hh:h<l.length:=by simpa using hh
     have hm:l.getD h default∈l:=by rw[List.getD_eq_getElem?_getD,List.getElem?_eq_getElem hh];exact List.getElem_mem hh
     exact ha (hR _ _ (s1 _ hm) k)
   ·intro k;omega
theorem tM{α:Type} [Inhabited α] {p:α->Bool} {R:α->α->Prop} (hR:∀ a b,R a b->p b=true->p a=true) {l:List α} {h:Int} (hs:l.Pairwise R) (h0:0<=h) (h1:h<l.length):p (l.getD h.toNat default)=true↔h<eI p l:=by
 rw[vu hR hs (by omega)]
 rw[Int.toNat_of_nonneg h0]
theorem rN{α:Type}(p:α->Bool)(l:List α):l.take (eI p l).toNat=l.takeWhile p/\l.drop (eI p l).toNat=l.dropWhile p:=by
 have k:=List.takeWhile_append_dropWhile (p:=p) (l:=l)
 have t1:∀ A B:List α,A++B=l->l.take A.length=A/\l.drop A.length=B:=by
  rintro A B rfl
  exact⟨List.take_left' rfl,List.drop_left' rfl⟩
 unfold eI
 rw[Int.toNat_natCast]
 exact t1 _ _ k
theorem qx{x y:af}:dt x y<0↔fH x y:=by
 unfold dt bm fH
 by_cases h1:x.1<y.1
 ·simp[h1]
 ·by_cases h2:y.1<x.1
  ·have:x.1≠y.1:=by omega
   simp[h1,h2,this]
  ·have:x.1=y.1:=by omega
   by_cases h3:x.2.1<y.2.1
   ·simp[this,h3]
   ·by_cases h4:y.2.1<x.2.1 <;> simp[this,h3,h4]
abbrev cL(l:List af)(t:af):Int:=eI (fun x=>decide (dt x t<0)) l
theorem r6{l:List af}{t:af}{h:Int}(hs:l.Pairwise fH)(h0:0<=h)(h1:h<l.length):dt (l.getD h.toNat default) t<0↔h<cL l t:=by
 rw[← tM (p:=fun x=>decide (dt x t<0)) (R:=fH) (fun a b hab hb=>?_) hs h0 h1,decide_eq_true_eq]
 simp only[decide_eq_true_eq,qx] at hb ⊢
 unfold fH at *;omega
def vt:Ct:=⟨[.val (.sl a9),.agg a9,.fn 80 0],[.val cI,.val .bool],fun d=>[d.1.Pairwise fH],fun d=>((cL d.1 d.2.1,(bif decide (cL d.1 d.2.1<d.1.length) then decide (dt (d.1.getD (cL d.1 d.2.1).toNat default) d.2.1=0) else false),()),())⟩
def A4:az vt.ps->aI:=(fun d=>{loops:=(fun n=>match n with|3=>some (fun S=>{ι:=Int×Int,qn:=⟨fun k_=>∀(i:Int)(j:Int),k_ (i,j),fun k_ h_ i=>h_ i.1 i.2,fun k_=>∃ (i:Int) (j:Int),k_ (i,j),fun k_ ⟨i,j,h_⟩=>⟨_,h_⟩⟩,μ:=fun i=>(i.2-i.1).toNat,inv:=fun i=>0<=i.1/\i.1<=cL d.1 d.2.1/\cL d.1 d.2.1<=i.2/\i.2<=d.1.length,keep:=[0,2,4,8],slots:=fun i=>[(9,.int .i64 i.1),(10,.int .i64 i.2)],keepN:=[80],names:=fun i=>[]})|_=>none)})
def k8(e f:Int) :=
 dN IntKind.u64 (IntKind.wrap .u64 (IntKind.wrap .i64 (e+f))) (1:Int)
theorem BK :
 ∀(a:List (Int×Int×List Int))(b c:Int)(d:List Int),(a.length<=maxLen/\ ∀(e:Int×Int×List Int),e∈a->ak e.1/\ak e.2.1/\e.2.2.length<=maxLen/\ ∀(f:Int),f∈e.2.2->0<=f/\f<=255)/\(ak b/\ak c/\d.length<=maxLen/\ ∀(e:Int),e∈d->0<=e/\e<=255)/\True/\True->List.Pairwise fH a->(∃(e:Int) (f:Int),(0<=e/\e<=cL a (b,c,d)/\cL a (b,c,d)<=f/\f<=(a.length:Int))/\a=a/\(a.length:Int)=(a.length:Int)/\(0:Int)=e/\(a.length:Int)=f/\b=b/\c=c/\d=d/\True)/\ ∀(e f:Int),0<=e/\e<=cL a (b,c,d)/\cL a (b,c,d)<=f/\f<=(a.length:Int)->ah (decide (e<f)) ((0:Int)<=1/\0<=IntKind.wrap .i64 (k8 e f)/\IntKind.wrap .i64 (k8 e f)<(a.length:Int)/\ah (decide (dt (a.getD (Int.toNat (IntKind.wrap .i64 (k8 e f))) default) (b,c,d)<0)) (∃(g:Int) (h:Int),(0<=g/\g<=cL a (b,c,d)/\cL a (b,c,d)<=h/\h<=(a.length:Int))/\Int.toNat (h -g)<Int.toNat (f -e)/\a=a/\(a.length:Int)=(a.length:Int)/\IntKind.wrap .i64 (IntKind.wrap
 .i64 (k8 e f)+(1:Int))=g/\f=h/\b=b/\c=c/\d=d/\True) (∃(g:Int) (h:Int),(0<=g/\g<=cL a (b,c,d)/\cL a (b,c,d)<=h/\h<=(a.length:Int))/\Int.toNat (h -g)<Int.toNat (f -e)/\a=a/\(a.length:Int)=(a.length:Int)/\e=g/\IntKind.wrap .i64 (k8 e f)=h/\b=b/\c=c/\d=d/\True)) (∀(g:Bool),g=decide (e<(a.length:Int))->(g->(g->g)/\(g->g)/\0<=e/\e<(a.length:Int)/\True)/\(g->(g->g)/\True)/\(g->(g->g)/\(g->g)/\(g->g)/\True)/\(g->(g->g)/\True)/\(g->g)/\e=cL a (b,c,d)/\(bif g then decide (dt (a.getD e.toNat default) (b,c,d)=0) else false)=bif decide (cL a (b,c,d)<(a.length:Int)) then decide (dt (a.getD (Int.toNat (cL a (b,c,d))) default) (b,c,d)=0) else false):=by
  delta k8
  rintro x p1 p2 p3 ⟨⟨hl,-⟩,-⟩ hs
  simp only[maxLen] at hl
  obtain⟨q0,q1⟩:=kx (fun y=>decide (dt y (p1,p2,p3)<0)) x
  refine⟨⟨0,x.length,⟨by omega,q0,q1,by omega⟩,(by repeat' first|exact trivial|refine⟨trivial,?_⟩|refine⟨(by with_reducible rfl),?_⟩|refine⟨ad (by omega) (by omega),?_⟩|refine⟨rfl,?_⟩)⟩,?_⟩
  rintro i j ⟨h0,h1,h2,h3⟩
  refine ar (fun hb=>?_) (fun hb=>?_)
  ·have hb:=of_decide_eq_true hb
   rw[sm h0 (by omega) (by omega)]
   refine⟨by omega,by omega,by omega,ar (fun hc=>?_) (fun hc=>?_)⟩
   ·have hc:=(r6 hs (by omega) (by omega)).1 (of_decide_eq_true hc)
    rw[ad (by omega) (by omega)]
    exact⟨(i+j)/2+1,j,⟨by omega,by omega,h2,h3⟩,by omega,(by repeat' first|exact trivial|refine⟨trivial,?_⟩|refine⟨(by with_reducible rfl),?_⟩|refine⟨ad (by omega) (by omega),?_⟩|refine⟨rfl,?_⟩)⟩
   ·have hc:¬ (i+j)/2<cL x (p1,p2,p3):=fun h=>absurd ((r6 hs (by omega) (by omega)).2 h) (of_decide_eq_false hc)
    exact⟨i,(i+j)/2,⟨h0,h1,by omega,by omega⟩,by omega,(by repeat' first|exact trivial|refine⟨trivial,?_⟩|refine⟨(by with_reducible rfl),?_⟩|refine⟨ad (by omega) (by omega),?_⟩|refine⟨rfl,?_⟩)⟩
  ·have hb:=of_decide_eq_false hb
   have:i=cL x (p1,p2,p3):=by omega
   subst this
   (repeat (intro (b_:Bool) (hb_:b_=_);(repeat refine⟨(by first|(simp;done)|(rw[hb_];simp;done)|(rw[hb_];simp;omega)|(rw[hb_];simp;intros;omega)|(rw[hb_];simp +contextual;done)),?_⟩);subst hb_))
   exact rfl
theorem D6:aC Try.prog GL 79 vt.spec:=Ct.okH _ Try.func79 (by kernel_rfl) (av aP uy) ay A4 (aO (by kernel_rfl) BK)
abbrev tQ:OT := .pair cI (.pair cI (.pair (.hole 0) (.pair (.hole 1) (.pair (.hole 2) (.pair (.hole 3) (.pair (.hole 4) (.pair (.hole 5) (.hole 6))))))))
def cG(now ord:Int)(l:List af):Prop:=(0<=now/\now<=2000000000000)/\(0<=ord/\ord<=1000000000000000)/\l.Pairwise fH/\(∀ x∈l,x.2.1<ord)/\l.length<=4096
theorem rC{α:Type}{p q:α->Bool}:∀{l:List α},(∀ x∈l,p x=q x)->l.takeWhile p=l.takeWhile q/\l.dropWhile p=l.dropWhile q
 | [],_=>⟨rfl,rfl⟩
 | a::l,h=>by
  obtain⟨h1,h2⟩:=rC (l:=l) fun x hx=>h x (List.mem_cons_of_mem _ hx)
  have ha:=h a (List.mem_cons_self ..)
  rw[List.takeWhile_cons,List.takeWhile_cons,List.dropWhile_cons,List.dropWhile_cons,ha,h1,h2]
  exact⟨rfl,rfl⟩
theorem Ci{l:List af}{t:af}(ht:∀ x∈l,x.2.1<t.2.1):l.take (cL l t).toNat++([t]++l.drop (cL l t).toNat)=bY l t:=by
 obtain⟨e1,e2⟩:=rC (p:=fun x=>decide (dt x t<0)) (q:=fun x=>decide (x.1<=t.1)) (l:=l) fun x hx=>by
  have:=ht x hx
  apply decide_eq_decide.2
  rw[qx]
  unfold fH;omega
 obtain⟨t2,t3⟩:=rN (fun x=>decide (dt x t<0)) l
 unfold bY
 rw[t2,t3,e1,e2]
 rfl
theorem CO(now d:Int)(b:List Int):∀(n:Nat)(k:Int){s:Int×List af},¬ s.2.length<4096->bv now d b n k s=s
 | 0,k,s,h=>rfl
 | n+1,k,s,h=>by rw[bv,if_neg h]
theorem cG.next{now o a:Int}{ys:List af}{b:List Int}(h:cG now o ys)(h1:o<1000000000000000)(hl:ys.length<4096):cG now (o+1) (bY ys (a,o,b)):=by
 obtain⟨h2,h3,h4,h5,h6⟩:=h
 refine⟨h2,by omega,wv h4 h5,fun x hx=>?_,by rw[lz];omega⟩
 rcases jl.1 hx with rfl|hx
 ·show o<o+1;omega
 ·have:=h5 x hx;omega
def we:Ct:=⟨[.box 28 tQ,.own 53 a9,.val (.sl aT),.val (.sl dI),.val cI],[.own 53 a9],fun d=>[cG d.1.1 d.1.2.1 d.2.1,d.1.2.1<=900000000000000,f7 (bj d.2.2.2.1 d.2.2.2.2.1.toNat),0<=d.2.2.2.2.1,(d.2.2.1.length:Int)<=1000000],fun d=>(((bf d.1.1 d.2.2.1 (bj d.2.2.2.1 d.2.2.2.2.1.toNat) (d.1.2.1,d.2.1)).2,()),((d.1.1,(bf d.1.1 d.2.2.1 (bj d.2.2.2.1 d.2.2.2.2.1.toNat) (d.1.2.1,d.2.1)).1,d.1.2.2),()))⟩
def A8:az we.ps->aI:=(fun d=>{loops:=(fun n=>match n with|7=>some (fun S=>{ι:=Int×Int×(List af),qn:=⟨fun k_=>∀(k:Int)(o:Int)(ys:(List af)),k_ (k,o,ys),fun k_ h_ i=>h_ i.1 i.2.1 i.2.2,fun k_=>∃ (k:Int) (o:Int) (ys:(List af)),k_ (k,o,ys),fun k_ ⟨k,o,ys,h_⟩=>⟨_,h_⟩⟩,μ:=fun i=>((bj d.2.2.2.1 d.2.2.2.2.1.toNat).2.2+1-i.1).toNat,inv:=fun i=>0<=i.1/\i.1<=(bj d.2.2.2.1 d.2.2.2.2.1.toNat).2.2+1/\cG d.1.1 i.2.1 i.2.2/\i.2.1<=d.1.2.1+i.1/\bv d.1.1 (bj d.2.2.2.1 d.2.2.2.2.1.toNat).2.1 d.2.2.1 ((bj d.2.2.2.1 d.2.2.2.2.1.toNat).2.2+1-i.1).toNat i.1 (i.2.1,i.2.2)=bf d.1.1 d.2.2.1 (bj d.2.2.2.1 d.2.2.2.2.1.toNat) (d.1.2.1,d.2.1),keep:=[0,2,11],slots:=fun i=>[(1,.own 524288 3),(12,.int .i64 i.1)],keepN:=[192],names:=fun i=>[(1048576,.live (.cells 28 (dR tQ (d.1.1,i.2.1,d.1.2.2) 1 0))),(524288,.live (.row 53 a9 i.2.2)),(1572864,.dead),(1572865,.dead),(1572866,.dead),(1572867,.dead),(1572868,.dead),(1572869,.dead),(1572870,.dead)]})|_=>none),cuts:=(fun n=>match n with|4=>some (fun S=>{ι:=bd,inv:=fun i=>i=bj d.2.2.2.1 d.2.2.2.2.1.toNat,keep:=[0,1,2,11],slots:=fun i=>[],keepN:=[1048576,2097152],names:=fun i=>[(1572864,.dead),(1572865,.dead),(1572866,.dead),(1572867,.dead),(1572868,.dead),(1572869,.dead),(1572870,.dead),(192,.live (.cells 67 [.bool i.1,.int .i64 i.2.1,.int .i64 i.2.2]))]})|_=>none)})
def jP(a:Int)(k:List Int)(n:bd)(o p:Int) :=
 (IntKind.wrap .i64 (IntKind.wrap .i64 (IntKind.wrap .i64 (a+(1:Int))+n.2.1)+o),p,k)
def dp(l:List (Bool×Int×Int))(m:Int) :=
 bj l m.toNat
theorem By :
 ∀(a b:Int)(c d e f g h i:SV)(j:List (Int×Int×List Int))(k:List Int)(l:List (Bool×Int×Int))(m:Int),(ak a/\ak b/\True/\True/\True/\True/\True/\True/\True)/\(j.length<=maxLen/\ ∀(n:Int×Int×List Int),n∈j->ak n.1/\ak n.2.1/\n.2.2.length<=maxLen/\ ∀(o:Int),o∈n.2.2->0<=o/\o<=255)/\(k.length<=maxLen/\ ∀(n:Int),n∈k->0<=n/\n<=255)/\(l.length<=maxLen/\ ∀(n:Bool×Int×Int),n∈l->True/\ak n.2.1/\ak n.2.2)/\ak m/\True->cG a b j/\b<=900000000000000/\f7 (dp l m)/\0<=m/\(k.length:Int)<=1000000->ah (decide (m<(l.length:Int))) (0<=m/\m<(l.length:Int)/\ ∃(n:bd),n=bj l m.toNat/\k=k/\a=a/\b=b/\c=c/\d=d/\e=e/\f=f/\g=g/\h=h/\i=i/\j=j/\(l.getD m.toNat default).1=n.1/\(l.getD m.toNat default).2.1=n.2.1/\(l.getD m.toNat default).2.2=n.2.2/\True) (∃(n:bd),n=bj l m.toNat/\k=k/\a=a/\b=b/\c=c/\d=d/\e=e/\f=f/\g=g/\h=h/\i=i/\j=j/\false=n.1/\(0:Int)=n.2.1/\(0:Int)=n.2.2/\True)/\
 ∀(n:bd),n=bj l m.toNat->ah n.1 (j=(bf a k (dp l m) (b,j)).2/\(a,b,c,d,e,f,g,h,i)=(a,(bf a k (dp l m) (b,j)).1,c,d,e,f,g,h,i)) ((∃(o:Int) (p:Int),∃(q:List af),(0<=o/\o<=(dp l m).2.2+(1:Int)/\cG a p q/\p<=b+o/\bv a (dp l m).2.1 k (Int.toNat ((dp l m).2.2+(1:Int) -o)) o (p,q)=bf a k (dp l m) (b,j))/\k=k/\(0:Int)=o/\n.1=n.1/\n.2.1=n.2.1/\n.2.2=n.2.2/\a=a/\b=p/\c=c/\d=d/\e=e/\f=f/\g=g/\h=h/\i=i/\j=q/\True)/\ ∀(o p:Int)(q:List af),0<=o/\o<=(dp l m).2.2+(1:Int)/\cG a p q/\p<=b+o/\bv a (dp l m).2.1 k (Int.toNat ((dp l m).2.2+(1:Int) -o)) o (p,q)=bf a k (dp l m) (b,j)-> ∀(r:Bool),r=decide (o<=n.2.2)->(r->(r->r)/\True)/\(r->(r->r)/\True)/\(r->r)/\ah (bif r then decide ((q.length:Int)<4096) else false) ((k.length:Int)<=1099511627776/\List.Pairwise fH q/\List.length [(jP a k n o p)]=(1:Nat)/\0<=cL q (jP a k n o p)/\cL q (jP a k n
 o p)<=(q.length:Int)/\(q.length+(1:Nat))*(40:Nat)<=(140737488355328:Nat)/\ ∃(s:Int) (t:Int),∃(u:List af),(0<=s/\s<=(dp l m).2.2+(1:Int)/\cG a t u/\t<=b+s/\bv a (dp l m).2.1 k (Int.toNat ((dp l m).2.2+(1:Int) -s)) s (t,u)=bf a k (dp l m) (b,j))/\Int.toNat ((dp l m).2.2+(1:Int) -s)<Int.toNat ((dp l m).2.2+(1:Int) -o)/\k=k/\IntKind.wrap .i64 (o+(1:Int))=s/\n.1=n.1/\n.2.1=n.2.1/\n.2.2=n.2.2/\a=a/\IntKind.wrap .i64 (p+(1:Int))=t/\c=c/\d=d/\e=e/\f=f/\g=g/\h=h/\i=i/\List.take (Int.toNat (cL q (jP a k n o p))) q++([(jP a k n o p)]++List.drop (Int.toNat (cL q (jP a k n o p))) q)=u/\True) (q=(bf a k (dp l m) (b,j)).2/\(a,p,c,d,e,f,g,h,i)=(a,(bf a k (dp l m) (b,j)).1,c,d,e,f,g,h,i))):=by
  delta jP dp
  rintro now ord s0 s1 s2 s3 s4 s5 s6 l b fs i-⟨hs,hor,hf,hi,hb⟩
  refine⟨ar (fun h=>?_) (fun h=>?_),?_⟩
  ·exact⟨hi,of_decide_eq_true h,_,rfl,(by repeat' first|exact trivial|refine⟨trivial,?_⟩|refine⟨(by with_reducible rfl),?_⟩|refine⟨ad (by omega) (by omega),?_⟩|refine⟨rfl,?_⟩)⟩
  ·have h:=of_decide_eq_false h
   have e:bj fs i.toNat=(false,0,0):=by unfold bj;rw[List.getD_eq_getElem?_getD,List.getElem?_eq_none (by omega)];rfl
   rw[e]
   exact⟨_,rfl,(by repeat' first|exact trivial|refine⟨trivial,?_⟩|refine⟨(by with_reducible rfl),?_⟩|refine⟨ad (by omega) (by omega),?_⟩|refine⟨rfl,?_⟩)⟩
  rintro F hF
  rw[← hF] at hf ⊢
  obtain⟨hf1,hf2⟩:=hf
  refine ar (fun h=>?_) (fun h=>?_)
  ·unfold bf
   rw[if_pos h];exact⟨rfl,rfl⟩
  have eF:bf now b F (ord,l)=bv now F.2.1 b (F.2.2+1).toNat 0 (ord,l):=by unfold bf;rw[if_neg (by rw[h];simp)]
  rw[eF]
  have hs0:=hs
  obtain⟨n0,o0,-,-,hl0⟩:=hs0
  refine⟨⟨0,ord,l,⟨by omega,by omega,hs,by omega,by rw[Int.sub_zero]⟩,(by repeat' first|exact trivial|refine⟨trivial,?_⟩|refine⟨(by with_reducible rfl),?_⟩|refine⟨ad (by omega) (by omega),?_⟩|refine⟨rfl,?_⟩)⟩,?_⟩
  rintro k o ys ⟨k0,k1,ho,ho2,he⟩
  have ho0:=ho
  obtain⟨-,o1,o2,o3,o4⟩:=ho0
  (repeat (intro (b_:Bool) (hb_:b_=_);(repeat refine⟨(by first|(simp;done)|(rw[hb_];simp;done)|(rw[hb_];simp;omega)|(rw[hb_];simp;intros;omega)|(rw[hb_];simp +contextual;done)),?_⟩);subst hb_))
  refine ib (fun h1 h2=>?_) (fun h1=>?_)
  ·have h1:=of_decide_eq_true h1
   have h2:=of_decide_eq_true h2
   obtain⟨n,hn⟩:∃ n,(F.2.2+1-k).toNat=n+1:=⟨(F.2.2-k).toNat,by omega⟩
   rw[ad (n:=now+1) (by omega) (by omega),ad (n:=now+1+F.2.1) (by omega) (by omega),ad (n:=now+1+F.2.1+k) (by omega) (by omega)]
   obtain⟨q0,q1⟩:=kx (fun x=>decide (dt x (now+1+F.2.1+k,o,b)<0)) ys
   refine⟨by omega,o2,rfl,q0,q1,by omega,k+1,o+1,bY ys (now+1+F.2.1+k,o,b),⟨by omega,by omega,ho.next (by omega) (by omega),by omega,?_⟩,by omega,?_⟩
   ·rw[← he,hn,show (F.2.2+1-(k+1)).toNat=n by omega]
    rw[bv,if_pos (by show ys.length<4096;omega)]
   ·(repeat first|refine⟨trivial,?_⟩|refine⟨(by with_reducible rfl),?_⟩|refine⟨ad (by omega) (by omega),?_⟩)
    exact⟨Ci o3,trivial⟩
  ·have hz:bv now F.2.1 b (F.2.2+1-k).toNat k (o,ys)=(o,ys):=by
    rcases h1 with h1|h1
    ·have h1:=of_decide_eq_false h1
     rw[show (F.2.2+1-k).toNat=0 by omega];rfl
    ·have h1:=of_decide_eq_false h1
     exact CO _ _ _ _ _ (by show ¬ ys.length<4096;omega)
   rw[hz] at he
   rw[← he];exact⟨rfl,rfl⟩
theorem wP:aC Try.prog GL 57 we.spec:=Ct.okH _ Try.func57 (by kernel_rfl) (av (av (av aP kO) D6) yu) ay A8 (aO (by kernel_rfl) By)
abbrev bD(l:List aw)(i:Int):Int:=eI (fun x=>decide (bm x.1 i<0)) l
theorem nl{a b:Int}:bm a b<0↔a<b:=by
 unfold bm
 by_cases h1:a<b
 ·simp[h1]
 ·by_cases h2:b<a <;> simp[h1,h2]
theorem nf{l:List aw}{t:Int}{h:Int}(hs:l.Pairwise fun a b=>a.1<b.1)(h0:0<=h)(h1:h<l.length):bm (l.getD h.toNat default).1 t<0↔h<bD l t:=by
 rw[← tM (p:=fun x=>decide (bm x.1 t<0)) (R:=fun a b:aw=>a.1<b.1) (fun a b hab hb=>?_) hs h0 h1,decide_eq_true_eq]
 simp only[decide_eq_true_eq,nl] at hb ⊢
 omega
def wk:Ct:=⟨[.agg dY,.val cI],[.val cI],fun _=>[],fun d=>((bm d.1.1 d.2.1,()),())⟩
def ET:az wk.ps->aI:=(fun _=>{})
theorem yp :
 ∀(a:Int)(b:List Int)(c:Int),(ak a/\b.length<=maxLen/\ ∀(d:Int),d∈b->0<=d/\d<=255)/\ak c/\True->True->bm a c=bm a c:=by
  intros;rfl
theorem A7:aC Try.prog GL 89 wk.spec:=Ct.okH _ Try.func89 (by kernel_rfl) (av aP wi) ay ET (aO (by kernel_rfl) yp)
def vL:Ct:=⟨[.val (.sl dY),.val cI,.fn 89 0],[.val cI,.val .bool],fun d=>[d.1.Pairwise fun a b=>a.1<b.1],fun d=>((bD d.1 d.2.1,(bif decide (bD d.1 d.2.1<d.1.length) then decide (bm (d.1.getD (bD d.1 d.2.1).toNat default).1 d.2.1=0) else false),()),())⟩
def Cq:az vL.ps->aI:=(fun d=>{loops:=(fun n=>match n with|3=>some (fun S=>{ι:=Int×Int,qn:=⟨fun k_=>∀(i:Int)(j:Int),k_ (i,j),fun k_ h_ i=>h_ i.1 i.2,fun k_=>∃ (i:Int) (j:Int),k_ (i,j),fun k_ ⟨i,j,h_⟩=>⟨_,h_⟩⟩,μ:=fun i=>(i.2-i.1).toNat,inv:=fun i=>0<=i.1/\i.1<=bD d.1 d.2.1/\bD d.1 d.2.1<=i.2/\i.2<=d.1.length,keep:=[0,1,2,8],slots:=fun i=>[(9,.int .i64 i.1),(10,.int .i64 i.2)],names:=fun i=>[]})|_=>none)})
def kv(c d:Int) :=
 dN IntKind.u64 (IntKind.wrap .u64 (IntKind.wrap .i64 (c+d))) (1:Int)
theorem Ey :
 ∀(a:List (Int×List Int))(b:Int),(a.length<=maxLen/\ ∀(c:Int×List Int),c∈a->ak c.1/\c.2.length<=maxLen/\ ∀(d:Int),d∈c.2->0<=d/\d<=255)/\ak b/\True/\True->List.Pairwise (fun (c d:Int×List Int)=>c.1<d.1) a->(∃(c:Int) (d:Int),(0<=c/\c<=bD a b/\bD a b<=d/\d<=(a.length:Int))/\a=a/\b=b/\(a.length:Int)=(a.length:Int)/\(0:Int)=c/\(a.length:Int)=d/\True)/\ ∀(c d:Int),0<=c/\c<=bD a b/\bD a b<=d/\d<=(a.length:Int)->ah (decide (c<d)) ((0:Int)<=1/\0<=IntKind.wrap .i64 (kv c d)/\IntKind.wrap .i64 (kv c d)<(a.length:Int)/\ah (decide (bm (a.getD (Int.toNat (IntKind.wrap .i64 (kv c d))) default).1 b<0)) (∃(e:Int) (f:Int),(0<=e/\e<=bD a b/\bD a b<=f/\f<=(a.length:Int))/\Int.toNat (f -e)<Int.toNat (d -c)/\a=a/\b=b/\(a.length:Int)=(a.length:Int)/\IntKind.wrap .i64 (IntKind.wrap .i64 (kv c d)+(1:Int))=e/\d=f/\True) (∃(e:Int) (f:Int),(0<=e/\e<=bD a b/\bD a
 b<=f/\f<=(a.length:Int))/\Int.toNat (f -e)<Int.toNat (d -c)/\a=a/\b=b/\(a.length:Int)=(a.length:Int)/\c=e/\IntKind.wrap .i64 (kv c d)=f/\True)) (∀(e:Bool),e=decide (c<(a.length:Int))->(e->(e->e)/\(e->e)/\0<=c/\c<(a.length:Int)/\True)/\(e->(e->e)/\True)/\(e->(e->e)/\(e->e)/\(e->e)/\True)/\(e->(e->e)/\True)/\(e->e)/\c=bD a b/\(bif e then decide (bm (a.getD c.toNat default).1 b=0) else false)=bif decide (bD a b<(a.length:Int)) then decide (bm (a.getD (Int.toNat (bD a b)) default).1 b=0) else false):=by
  delta kv
  rintro x p ⟨⟨hl,-⟩,-⟩ hs
  simp only[maxLen] at hl
  obtain⟨q0,q1⟩:=kx (fun y:aw=>decide (bm y.1 p<0)) x
  refine⟨⟨0,x.length,⟨by omega,q0,q1,by omega⟩,(by repeat' first|exact trivial|refine⟨trivial,?_⟩|refine⟨(by with_reducible rfl),?_⟩|refine⟨ad (by omega) (by omega),?_⟩|refine⟨rfl,?_⟩)⟩,?_⟩
  rintro i j ⟨h0,h1,h2,h3⟩
  refine ar (fun hb=>?_) (fun hb=>?_)
  ·have hb:=of_decide_eq_true hb
   rw[sm h0 (by omega) (by omega)]
   refine⟨by omega,by omega,by omega,ar (fun hc=>?_) (fun hc=>?_)⟩
   ·have hc:=(nf hs (by omega) (by omega)).1 (of_decide_eq_true hc)
    rw[ad (by omega) (by omega)]
    exact⟨(i+j)/2+1,j,⟨by omega,by omega,h2,h3⟩,by omega,(by repeat' first|exact trivial|refine⟨trivial,?_⟩|refine⟨(by with_reducible rfl),?_⟩|refine⟨ad (by omega) (by omega),?_⟩|refine⟨rfl,?_⟩)⟩
   ·have hc:¬ (i+j)/2<bD x p:=fun h=>absurd ((nf hs (by omega) (by omega)).2 h) (of_decide_eq_false hc)
    exact⟨i,(i+j)/2,⟨h0,h1,by omega,by omega⟩,by omega,(by repeat' first|exact trivial|refine⟨trivial,?_⟩|refine⟨(by with_reducible rfl),?_⟩|refine⟨ad (by omega) (by omega),?_⟩|refine⟨rfl,?_⟩)⟩
  ·have hb:=of_decide_eq_false hb
   have:i=bD x p:=by omega
   subst this
   (repeat (intro (b_:Bool) (hb_:b_=_);(repeat refine⟨(by first|(simp;done)|(rw[hb_];simp;done)|(rw[hb_];simp;omega)|(rw[hb_];simp;intros;omega)|(rw[hb_];simp +contextual;done)),?_⟩);subst hb_))
   exact rfl
theorem CF:aC Try.prog GL 88 vL.spec:=Ct.okH _ Try.func88 (by kernel_rfl) (av aP A7) ay Cq (aO (by kernel_rfl) Ey)
abbrev Ee:OT := .pair (.hole 0) (.pair (.hole 1) (.pair cI (.pair (.hole 2) (.pair cI (.pair (.row 22 (.sl aT)) (.pair (.row 51 dY) (.pair (.hole 3) (.hole 4))))))))
def mX(kn w:Int)(g:List (List Int))(e:List aw):Prop:=(0<=kn/\kn<=100000)/\(0<=w/\w<=100000)/\g.length<=100000/\e.length<=100000/\e.Pairwise fun a b=>a.1<b.1
theorem zh{l:List aw}{i:Int}(hs:l.Pairwise fun a b=>a.1<b.1):(bif decide (bD l i<l.length) then decide (bm (l.getD (bD l i).toNat default).1 i=0) else false)=l.any fun x=>decide (x.1=i):=by
 obtain⟨q0,q1⟩:=kx (fun x=>decide (bm x.1 i<0)) l
 have q0:0<=bD l i:=q0
 have q1:bD l i<=l.length:=q1
 apply Bool.eq_iff_iff.2
 rw[List.any_eq_true,nM,decide_eq_true_eq]
 have ez:∀ a:Int,bm a i=0↔a=i:=fun a=>by
  unfold bm
  by_cases h1:a<i
  ·simp[h1];omega
  ·by_cases h2:i<a
   ·simp[h1,h2];omega
   ·simp[h1,h2];omega
 constructor
 ·rintro⟨h1,h2⟩
  exact⟨_,cE q0 h1,decide_eq_true ((ez _).1 h2)⟩
 ·rintro⟨x,hx,h⟩
  have h:=of_decide_eq_true h
  obtain⟨j,hj,rfl⟩:=List.mem_iff_getElem.1 hx
  have g:∀ k:Nat,(hk:k<l.length)->l.getD k default=l[k]:=fun k hk=>by rw[List.getD_eq_getElem?_getD,List.getElem?_eq_getElem hk];rfl
  have k1:¬ (j:Int)<bD l i:=fun k=>by
   have:=(nf (t:=i) (h:=(j:Int)) hs (by omega) (by omega)).2 k
   rw[nl,Int.toNat_natCast,g j hj,h] at this
   omega
  have k2:bD l i<l.length:=by omega
  refine⟨k2,(ez _).2 ?_⟩
  have k3:¬ bm (l.getD (bD l i).toNat default).1 i<0:=fun k=>absurd ((nf hs q0 k2).1 k) (by omega)
  rw[nl,g _ (by omega)] at k3
  rw[g _ (by omega)]
  by_cases hq:(bD l i).toNat=j
  ·simp only[hq,h]
  ·have:=List.pairwise_iff_getElem.1 hs (bD l i).toNat j (by omega) hj (by omega)
   rw[h] at this;omega
theorem CL{l:List aw}{x:aw}:l.take (bD l x.1).toNat++([x]++l.drop (bD l x.1).toNat)=cW l x:=by
 obtain⟨e1,e2⟩:=rC (p:=fun y:aw=>decide (bm y.1 x.1<0)) (q:=fun y=>decide (y.1<x.1)) (l:=l) fun y hy=>by
  apply decide_eq_decide.2
  exact nl
 obtain⟨t2,t3⟩:=rN (fun y:aw=>decide (bm y.1 x.1<0)) l
 unfold cW
 rw[t2,t3,e1,e2]
 rfl
theorem vB{e:List aw}{g:List (List Int)}(h:e=[]∨(e.getD 0 default).1≠g.length):bZ e g=(g,e):=by
 cases e with
 | nil=>rfl
 | cons x r =>
  rcases h with h|h
  ·cases h
  ·rw[bZ,if_neg (show ¬ x.1=_ from h)]
def sa:Ct:=⟨[.box 28 Ee,.val cI,.val (.sl aT)],[],fun d=>[mX d.1.2.2.2.2.1 d.1.2.2.1 d.1.2.2.2.2.2.1 d.1.2.2.2.2.2.2.1],fun d=>((),((d.1.1,d.1.2.1,d.1.2.2.1,d.1.2.2.2.1,d.1.2.2.2.2.1,(bW (d.1.2.2.2.2.1+d.1.2.2.1) (d.1.2.2.2.2.2.1,d.1.2.2.2.2.2.2.1) d.2.1 d.2.2.1).1,(bW (d.1.2.2.2.2.1+d.1.2.2.1) (d.1.2.2.2.2.2.1,d.1.2.2.2.2.2.2.1) d.2.1 d.2.2.1).2,d.1.2.2.2.2.2.2.2),()))⟩
def xK:az sa.ps->aI:=(fun d=>{loops:=(fun n=>match n with|3=>some (fun S=>{ι:=(List (List Int))×(List aw),qn:=⟨fun k_=>∀(g:(List (List Int)))(e:(List aw)),k_ (g,e),fun k_ h_ i=>h_ i.1 i.2,fun k_=>∃ (g:(List (List Int))) (e:(List aw)),k_ (g,e),fun k_ ⟨g,e,h_⟩=>⟨_,h_⟩⟩,μ:=fun i=>i.2.length,inv:=fun i=>bZ i.2 i.1=bZ d.1.2.2.2.2.2.2.1 (d.1.2.2.2.2.2.1++[d.2.2.1])/\i.1.length+i.2.length<=300000,keep:=[0],slots:=fun i=>[],names:=fun i=>[(1048576,.live (.cells 28 [.hv 1572864 d.1.1,.hv 1572865 d.1.2.1,.int .i64 d.1.2.2.1,.hv 1572866 d.1.2.2.2.1,.int .i64 d.1.2.2.2.2.1,.own 524288 1,.own 524289 2,.hv 1572867 d.1.2.2.2.2.2.2.2.1,.hv 1572868 d.1.2.2.2.2.2.2.2.2])),(524288,.live (.row 22 (.sl aT) i.1)),(524289,.live (.row 51 dY i.2)),(1572864,.dead),(1572865,.dead),(1572866,.dead),(1572867,.dead),(1572868,.dead)]})|_=>none)})
theorem x9 :
 ∀(a b:SV)(c:Int)(d:SV)(e:Int)(f:List (List Int))(g:List (Int×List Int))(h i:SV)(j:Int)(k:List Int),(True/\True/\ak c/\True/\ak e/\(f.length<=maxLen/\ ∀(l:List Int),l∈f->l.length<=maxLen/\ ∀(m:Int),m∈l->0<=m/\m<=255)/\(g.length<=maxLen/\ ∀(l:Int×List Int),l∈g->ak l.1/\l.2.length<=maxLen/\ ∀(m:Int),m∈l.2->0<=m/\m<=255)/\True/\True)/\ak j/\(k.length<=maxLen/\ ∀(l:Int),l∈k->0<=l/\l<=255)/\True->(0<=e/\e<=100000)/\(0<=c/\c<=100000)/\f.length<=(100000:Nat)/\g.length<=(100000:Nat)/\List.Pairwise (fun (l m:aw)=>l.1<m.1) g->List.Pairwise (fun (l m:Int×List Int)=>l.1<m.1) g/\ah (decide (j=(f.length:Int))) ((f.length+List.length [k])*(24:Nat)<=(140737488355328:Nat)/\(∃(l:List (List Int)),∃(m:List aw),(bZ m l=bZ g (f++[k])/\l.length+m.length<=(300000:Nat))/\a=a/\b=b/\c=c/\d=d/\e=e/\h=h/\i=i/\f++[k]=l/\g=m/\True)/\ ∀(l:List (List Int))(m:List aw),bZ m l=bZ g
 (f++[k])/\l.length+m.length<=(300000:Nat)-> ∀(n:Bool),n=decide (0<(m.length:Int))->(n->(n->n)/\True)/\(n->(n->n)/\True)/\(n->(n->n)/\True)/\(n->(n->n)/\(0:Int)<=0/\0<(m.length:Int)/\True)/\(n->(n->n)/\True)/\(n->(n->n)/\True)/\(n->(n->n)/\True)/\(n->(n->n)/\True)/\(n->(n->n)/\True)/\(n->(n->n)/\True)/\(n->(n->n)/\(n->n)/\True)/\(n->n)/\ah (bif n then decide ((m.getD (Int.toNat (0:Int)) default).1=(l.length:Int)) else false) ((0:Int)<=0/\0<(m.length:Int)/\(l.length+List.length [(m.getD (Int.toNat (0:Int)) default).2])*(24:Nat)<=(140737488355328:Nat)/\(0:Int)<=1/\1<=(m.length:Int)/\ ∃(o:List (List Int)),∃(p:List aw),(bZ p o=bZ g (f++[k])/\o.length+p.length<=(300000:Nat))/\p.length<m.length/\a=a/\b=b/\c=c/\d=d/\e=e/\h=h/\i=i/\l++[(m.getD (Int.toNat (0:Int)) default).2]=o/\List.drop (Int.toNat (1:Int)) m=p/\True) ((a,b,c,d,e,l,m,h,i)=(a,b,c,d,e,(bW (e+c) (f,g) j k).1,(bW
 (e+c) (f,g) j k).2,h,i))) (∀(l:Bool),l=decide ((f.length:Int)<j)->(l->(l->l)/\True)/\(l->l)/\ ∀(m:Bool),(m=bif l then ! bif decide (bD g j<(g.length:Int)) then decide (bm (g.getD (Int.toNat (bD g j)) default).1 j=0) else false else false)->(m->(m->m)/\True)/\(m->(m->m)/\True)/\(m->(m->m)/\True)/\(m->(m->m)/\True)/\(m->(m->m)/\True)/\(m->(m->m)/\True)/\(m->(m->m)/\(m->m)/\True)/\(m->(m->m)/\(m->m)/\True)/\(m->m)/\ah (bif m then decide (j<IntKind.wrap .i64 (e+c)) else false) (List.length [(j,k)]=(1:Nat)/\0<=bD g j/\bD g j<=(g.length:Int)/\(g.length+(1:Nat))*(32:Nat)<=(140737488355328:Nat)/\(a,b,c,d,e,f,List.take (Int.toNat (bD g j)) g++([(j,k)]++List.drop (Int.toNat (bD g j)) g),h,i)=(a,b,c,d,e,(bW (e+c) (f,g) j k).1,(bW (e+c) (f,g) j k).2,h,i)) ((a,b,c,d,e,f,g,h,i)=(a,b,c,d,e,(bW (e+c) (f,g) j k).1,(bW (e+c) (f,g) j k).2,h,i))):=by
  rintro s0 s1 w s2 kn g e s3 s4 i it-⟨hkn,hw,hg,he,hs⟩
  refine⟨hs,ar (fun h=>?_) (fun h=>?_)⟩
  ·have h:=of_decide_eq_true h
   have eA:bW (kn+w) (g,e) i it=bZ e (g++[it]):=if_pos h
   rw[eA]
   refine⟨by simp only[List.length_singleton];omega,⟨_,_,⟨rfl,by rw[List.length_append,List.length_singleton];omega⟩,(by repeat' first|exact trivial|refine⟨trivial,?_⟩|refine⟨(by with_reducible rfl),?_⟩|refine⟨ad (by omega) (by omega),?_⟩|refine⟨rfl,?_⟩)⟩,?_⟩
   rintro g' e' ⟨ha,hb⟩
   (repeat (intro (b_:Bool) (hb_:b_=_);(repeat refine⟨(by first|(simp;done)|(rw[hb_];simp;done)|(rw[hb_];simp;omega)|(rw[hb_];simp;intros;omega)|(rw[hb_];simp +contextual;done)),?_⟩);subst hb_))
   refine ib (fun h1 h2=>?_) (fun h1=>?_)
   ·have h1:=of_decide_eq_true h1
    have h2:=of_decide_eq_true h2
    cases e' with
    | nil=>simp at h1
    | cons x r =>
     have h2:x.1=(g'.length:Int):=h2
     have hb':g'.length+(r.length+1)<=300000:=hb
     refine⟨by omega,h1,by simp only[List.length_singleton];omega,by omega,by simp only[List.length_cons];omega,g'++[x.2],r,⟨?_,by rw[List.length_append,List.length_singleton];omega⟩,by simp,(by repeat' first|exact trivial|refine⟨trivial,?_⟩|refine⟨(by with_reducible rfl),?_⟩|refine⟨ad (by omega) (by omega),?_⟩|refine⟨rfl,?_⟩)⟩
     rw[← ha,bZ,if_pos h2]
   ·have hz:bZ e' g'=(g',e'):=by
     refine vB ?_
     rcases h1 with h1|h1
     ·have h1:=of_decide_eq_false h1
      exact .inl (List.eq_nil_of_length_eq_zero (by omega))
     ·exact .inr (of_decide_eq_false h1)
    rw[← ha,hz]
  ·have h:=of_decide_eq_false h
   rw[zh hs,ad (n:=kn+w) (by omega) (by omega)]
   have eB:bW (kn+w) (g,e) i it=if i<g.length∨kn+w<=i∨(e.any fun x=>decide (x.1=i))=true then (g,e) else (g,cW e (i,it)):=if_neg h
   rw[eB]
   (repeat (intro (b_:Bool) (hb_:b_=_);(repeat refine⟨(by first|(simp;done)|(rw[hb_];simp;done)|(rw[hb_];simp;omega)|(rw[hb_];simp;intros;omega)|(rw[hb_];simp +contextual;done)),?_⟩);subst hb_))
   obtain⟨q0,q1⟩:=kx (fun y:aw=>decide (bm y.1 i<0)) e
   cases hany:(e.any fun x=>decide (x.1=i)) with
   | true =>
    rw[if_pos (.inr (.inr rfl))]
    simp only[Bool.not_true,cond_eq_ite,Bool.false_eq_true,if_false,ite_self]
    trivial
   | false =>
    simp only[Bool.not_false]
    refine ib (fun h1 h2=>?_) (fun h1=>?_)
    ·have h2:=of_decide_eq_true h2
     have h1:(g.length:Int)<i:=by simpa[Bool.cond_eq_ite] using h1
     rw[if_neg (by simp;omega)]
     exact⟨rfl,q0,q1,by omega,by rw[CL (x:=(i,it))]⟩
    ·rw[if_pos]
     rcases h1 with h1|h1
     ·have h1:¬ (g.length:Int)<i:=by simpa[Bool.cond_eq_ite] using h1
      exact .inl (by omega)
     ·exact .inr (.inl (by have:=of_decide_eq_false h1;omega))
theorem Eb:aC Try.prog GL 75 sa.spec:=Ct.okH _ Try.func75 (by kernel_rfl) (vm (av (av aP CF) zI) (d:=77)) ay xK (aO (by kernel_rfl) x9)
theorem mo{now:Int}{l:List af}{n:Int}(h0:0<=n)(h1:n<=l.length)(h2:∀ x∈l.take n.toNat,x.1<=now)(h3:¬ n<l.length∨¬ (l.getD n.toNat default).1<=now):n.toNat=(ao now l).length:=by
 have e:ao now l=l.take n.toNat:=by
  unfold ao
  conv=>lhs;rw[← List.take_append_drop n.toNat l]
  rw[List.takeWhile_append_of_pos (fun x hx=>by simpa using h2 x hx)]
  rcases h3 with h3|h3
  ·rw[List.drop_eq_nil_of_le (by omega)];simp
  ·by_cases hn:n<l.length
   ·rw[List.drop_eq_getElem_cons (by omega)]
    rw[List.getD_eq_getElem?_getD,List.getElem?_eq_getElem (by omega)] at h3
    rw[List.takeWhile_cons_of_neg (by simpa using h3),List.append_nil]
   ·rw[List.drop_eq_nil_of_le (by omega)];simp
 rw[e,List.length_take];omega
abbrev DF:OT := .pair cI (.pair (.hole 0) (.pair (.hole 1) (.pair (.hole 2) (.pair (.hole 3) (.pair (.hole 4) (.pair (.hole 5) (.pair (.row 53 a9) (.hole 6))))))))
abbrev x6:OT := .pair cI (.pair (.hole 0) (.pair (.hole 1) (.pair (.hole 2) (.pair (.hole 3) (.pair (.hole 4) (.pair (.hole 5) (.pair (.rowg 53 a9) (.hole 6))))))))
def s9:Cp:=⟨28,DF,x6,7,53,a9,fun d=>d.2.2.2.2.2.2.2.1,fun _=>[],fun d=>(d.1,d.2.1,d.2.2.1,d.2.2.2.1,d.2.2.2.2.1,d.2.2.2.2.2.1,d.2.2.2.2.2.2.1,(),d.2.2.2.2.2.2.2.2),fun d=>(ao d.1 d.2.2.2.2.2.2.2.1).length⟩
def DW:s9.o.D->aI:=(fun d=>{loops:=(fun n=>match n with|2=>some (fun S=>{ι:=Int,μ:=fun i=>(d.2.2.2.2.2.2.2.1.length-i).toNat,inv:=fun i=>0<=i/\i<=d.2.2.2.2.2.2.2.1.length∧∀ x∈d.2.2.2.2.2.2.2.1.take i.toNat,x.1<=d.1,keep:=[0,1],slots:=fun i=>[(5,.int .i64 i)],keepN:=[1048576,2097152],names:=fun i=>[(1572864,.dead),(1572865,.dead),(1572866,.dead),(1572867,.dead),(1572868,.dead),(1572869,.dead),(1572870,.dead)]})|_=>none)})
def d8(k:Bool) :=
 k->(k->k)/\True
theorem Bl :
 ∀(a:Int)(b c d e f g:SV)(h:List (Int×Int×List Int))(i:SV),ak a/\True/\True/\True/\True/\True/\True/\(h.length<=maxLen/\ ∀(j:Int×Int×List Int),j∈h->ak j.1/\ak j.2.1/\j.2.2.length<=maxLen/\ ∀(k:Int),k∈j.2.2->0<=k/\k<=255)/\True->True->(∃(j:Int),(0<=j/\j<=(h.length:Int)/\ ∀(k:Int×Int×List Int),k∈List.take j.toNat h->k.1<=a)/\(0:Int)=j/\a=a/\b=b/\c=c/\d=d/\e=e/\f=f/\g=g/\i=i/\h=h/\True)/\ ∀(j:Int),(0<=j/\j<=(h.length:Int)/\ ∀(k:Int×Int×List Int),k∈List.take j.toNat h->k.1<=a)-> ∀(k:Bool),k=decide (j<(h.length:Int))->(d8 k)/\(d8 k)/\(k->(k->k)/\(k->k)/\0<=j/\j<(h.length:Int)/\True)/\(d8 k)/\(d8 k)/\(d8 k)/\(d8 k)/\(d8 k)/\(k->(k->k)/\(k->k)/\True)/\(k->k)/\ah (bif k then decide ((h.getD j.toNat default).1<=a) else false) (∃(l:Int),(0<=l/\l<=(h.length:Int)/\ ∀(m:Int×Int×List Int),m∈List.take l.toNat h->m.1<=a)/\Int.toNat ((h.length:Int) -l)<Int.toNat ((h.length:Int)
 -j)/\IntKind.wrap .i64 (j+(1:Int))=l/\a=a/\b=b/\c=c/\d=d/\e=e/\f=f/\g=g/\i=i/\h=h/\True) ((0:Int)<=0/\0<=j/\j<=(h.length:Int)/\0<=j/\j<=(h.length:Int)/\(h.length:Int)<=(h.length:Int)/\Int.toNat (0:Int)=(0:Nat)/\j.toNat -Int.toNat (0:Int)=List.length (ao a h)/\h=h/\j.toNat=List.length (ao a h)/\Int.toNat (h.length:Int) -j.toNat=h.length -List.length (ao a h)/\(a,b,c,d,e,f,g,(),i)=(a,b,c,d,e,f,g,(),i)):=by
  delta d8
  rintro now s0 s1 s2 s3 s4 s5 l s6 ⟨-,-,-,-,-,-,-,⟨hl,-⟩,-⟩ -
  simp only[maxLen] at hl
  refine⟨⟨0,⟨by omega,by omega,by simp⟩,(by repeat' first|exact trivial|refine⟨trivial,?_⟩|refine⟨(by with_reducible rfl),?_⟩|refine⟨ad (by omega) (by omega),?_⟩|refine⟨rfl,?_⟩)⟩,?_⟩
  rintro n ⟨n0,n1,hn⟩
  (repeat (intro (b_:Bool) (hb_:b_=_);(repeat refine⟨(by first|(simp;done)|(rw[hb_];simp;done)|(rw[hb_];simp;omega)|(rw[hb_];simp;intros;omega)|(rw[hb_];simp +contextual;done)),?_⟩);subst hb_))
  refine ib (fun h1 h2=>?_) (fun h1=>?_)
  ·have h1:=of_decide_eq_true h1
   have h2:=of_decide_eq_true h2
   refine⟨n+1,⟨by omega,by omega,fun x hx=>?_⟩,by omega,(by repeat' first|exact trivial|refine⟨trivial,?_⟩|refine⟨(by with_reducible rfl),?_⟩|refine⟨ad (by omega) (by omega),?_⟩|refine⟨rfl,?_⟩)⟩
   rw[cZ n0 h1] at hx
   rcases List.mem_append.1 hx with hx|hx
   ·exact hn x hx
   ·rw[List.mem_singleton.1 hx];exact h2
  ·have e:=mo n0 n1 hn (h1.imp of_decide_eq_false of_decide_eq_false)
   have e0:Int.toNat 0=0:=rfl
   have hle:n.toNat<=l.length:=by omega
   refine⟨by omega,n0,n1,n0,n1,by omega,rfl,by omega,rfl,e,by omega,rfl⟩
theorem Az:aC Try.prog GL 74 s9.spec:=Cp.okH _ Try.func74 (by kernel_rfl) (nG (nG aP (d:=33)) (d:=39)) ay rfl rfl rfl rfl (fun _=>rfl) DW (aO (by kernel_rfl) Bl)
abbrev xx:OT := .pair cI (.pair (.hole 0) (.pair (.hole 1) (.pair (.hole 2) (.pair (.hole 3) (.pair (.hole 4) (.pair (.hole 5) (.pair (.hole 6) (.row 53 a9))))))))
abbrev Bx:OT := .pair cI (.pair (.hole 0) (.pair (.hole 1) (.pair (.hole 2) (.pair (.hole 3) (.pair (.hole 4) (.pair (.hole 5) (.pair (.hole 6) (.rowg 53 a9))))))))
def uv:Cp:=⟨28,xx,Bx,8,53,a9,fun d=>d.2.2.2.2.2.2.2.2,fun _=>[],fun d=>(d.1,d.2.1,d.2.2.1,d.2.2.2.1,d.2.2.2.2.1,d.2.2.2.2.2.1,d.2.2.2.2.2.2.1,d.2.2.2.2.2.2.2.1,()),fun d=>(ao d.1 d.2.2.2.2.2.2.2.2).length⟩
def xQ:uv.o.D->aI:=(fun d=>{loops:=(fun n=>match n with|2=>some (fun S=>{ι:=Int,μ:=fun i=>(d.2.2.2.2.2.2.2.2.length-i).toNat,inv:=fun i=>0<=i/\i<=d.2.2.2.2.2.2.2.2.length∧∀ x∈d.2.2.2.2.2.2.2.2.take i.toNat,x.1<=d.1,keep:=[0,1],slots:=fun i=>[(5,.int .i64 i)],keepN:=[1048576,2097152],names:=fun i=>[(1572864,.dead),(1572865,.dead),(1572866,.dead),(1572867,.dead),(1572868,.dead),(1572869,.dead),(1572870,.dead)]})|_=>none)})
theorem yj :
 ∀(a:Int)(b c d e f g h:SV)(i:List (Int×Int×List Int)),(ak a/\True/\True/\True/\True/\True/\True/\True/\i.length<=maxLen/\ ∀(j:Int×Int×List Int),j∈i->ak j.1/\ak j.2.1/\j.2.2.length<=maxLen/\ ∀(k:Int),k∈j.2.2->0<=k/\k<=255)->True->(∃(j:Int),(0<=j/\j<=(i.length:Int)/\ ∀(k:Int×Int×List Int),k∈List.take j.toNat i->k.1<=a)/\(0:Int)=j/\a=a/\b=b/\c=c/\d=d/\e=e/\f=f/\g=g/\h=h/\i=i/\True)/\ ∀(j:Int),(0<=j/\j<=(i.length:Int)/\ ∀(k:Int×Int×List Int),k∈List.take j.toNat i->k.1<=a)-> ∀(k:Bool),k=decide (j<(i.length:Int))->(d8 k)/\(d8 k)/\(k->(k->k)/\(k->k)/\0<=j/\j<(i.length:Int)/\True)/\(d8 k)/\(d8 k)/\(d8 k)/\(d8 k)/\(d8 k)/\(k->(k->k)/\(k->k)/\True)/\(k->k)/\ah (bif k then decide ((i.getD j.toNat default).1<=a) else false) (∃(l:Int),(0<=l/\l<=(i.length:Int)/\ ∀(m:Int×Int×List Int),m∈List.take l.toNat i->m.1<=a)/\Int.toNat ((i.length:Int) -l)<Int.toNat ((i.length:Int)
 -j)/\IntKind.wrap .i64 (j+(1:Int))=l/\a=a/\b=b/\c=c/\d=d/\e=e/\f=f/\g=g/\h=h/\i=i/\True) ((0:Int)<=0/\0<=j/\j<=(i.length:Int)/\0<=j/\j<=(i.length:Int)/\(i.length:Int)<=(i.length:Int)/\Int.toNat (0:Int)=(0:Nat)/\j.toNat -Int.toNat (0:Int)=List.length (ao a i)/\i=i/\j.toNat=List.length (ao a i)/\Int.toNat (i.length:Int) -j.toNat=i.length -List.length (ao a i)/\(a,b,c,d,e,f,g,h,())=(a,b,c,d,e,f,g,h,())):=by
  delta d8
  rintro now s0 s1 s2 s3 s4 s5 s6 l ⟨-,-,-,-,-,-,-,-,hl,-⟩ -
  simp only[maxLen] at hl
  refine⟨⟨0,⟨by omega,by omega,by simp⟩,(by repeat' first|exact trivial|refine⟨trivial,?_⟩|refine⟨(by with_reducible rfl),?_⟩|refine⟨ad (by omega) (by omega),?_⟩|refine⟨rfl,?_⟩)⟩,?_⟩
  rintro n ⟨n0,n1,hn⟩
  (repeat (intro (b_:Bool) (hb_:b_=_);(repeat refine⟨(by first|(simp;done)|(rw[hb_];simp;done)|(rw[hb_];simp;omega)|(rw[hb_];simp;intros;omega)|(rw[hb_];simp +contextual;done)),?_⟩);subst hb_))
  refine ib (fun h1 h2=>?_) (fun h1=>?_)
  ·have h1:=of_decide_eq_true h1
   have h2:=of_decide_eq_true h2
   refine⟨n+1,⟨by omega,by omega,fun x hx=>?_⟩,by omega,(by repeat' first|exact trivial|refine⟨trivial,?_⟩|refine⟨(by with_reducible rfl),?_⟩|refine⟨ad (by omega) (by omega),?_⟩|refine⟨rfl,?_⟩)⟩
   rw[cZ n0 h1] at hx
   rcases List.mem_append.1 hx with hx|hx
   ·exact hn x hx
   ·rw[List.mem_singleton.1 hx];exact h2
  ·have e:=mo n0 n1 hn (h1.imp of_decide_eq_false of_decide_eq_false)
   have e0:Int.toNat 0=0:=rfl
   have hle:n.toNat<=l.length:=by omega
   refine⟨by omega,n0,n1,n0,n1,by omega,rfl,by omega,rfl,e,by omega,rfl⟩
theorem EN:aC Try.prog GL 74 uv.spec:=Cp.okH _ Try.func74 (by kernel_rfl) (nG (nG aP (d:=33)) (d:=39)) ay rfl rfl rfl rfl (fun _=>rfl) xQ (aO (by kernel_rfl) yj)
end Go.RS

/- Xch3: without faults a channel recovers in time. -/
namespace Go.RS
open Go.SX Go.Proofs
set_option maxRecDepth 100000
set_option linter.unusedVariables false
theorem XI.runs{c:ai}(h:XI c):∀ n:Nat,XI (a8 n c)/\ab (a8 n c)=ab c+n/\ae (a8 n c)=ae c/\am (a8 n c)=am c/\(aG c).length<=(aG (a8 n c)).length/\aA c<=aA (a8 n c)/\a7 (a8 n c)<=a7 c+585*n
 | 0=>⟨h,by show ab c=ab c+0;omega,rfl,rfl,Nat.le_refl _,Int.le_refl _,by show a7 c<=_;omega⟩
 | n+1=>by
  obtain⟨a,b,d,e,f,g,o⟩:=h.runs n
  rw[gm]
  obtain⟨t1,t2,t3,t4⟩:=a.tick eQ eQ
  exact⟨t1,by show ab (a8 n c)+1=_;omega,d,e,by omega,by omega,by omega⟩
theorem mn(now:Int)(b:List Int)(j:Nat)(o:Int)(l:List af):bf now b (bj [] j) (o,l)=if l.length<4096 then (o+1,bY l (now+1+0+0,o,b)) else (o,l):=by
 have e:bj [] j=(false,0,0):=by unfold bj;simp
 rw[e]
 unfold bf
 rw[if_neg (by simp)]
 show bv now 0 b 1 0 (o,l)=_
 rw[bv]
 rfl
theorem oE{now:Int}:∀{l:List af},(∀ t∈l,t.1<=now)→∀ m,ao now (l++m)=l++ao now m/\aV now (l++m)=aV now m
 | [],_,m=>⟨rfl,rfl⟩
 | t::r,h,m=>by
  obtain⟨a,b⟩:=oE (l:=r) (fun x hx=>h x (List.mem_cons_of_mem _ hx)) m
  have ht:=h t List.mem_cons_self
  constructor
  ·show List.takeWhile _ (t::(r++m))=_
   rw[List.takeWhile_cons_of_pos (by simpa using ht)]
   exact congrArg (t :: ·) a
  ·show List.dropWhile _ (t::(r++m))=_
   rw[List.dropWhile_cons_of_pos (by simpa using ht)]
   exact b
theorem lB{now:Int}{l:List af}(h:∀ t∈l,t.1<=now):ao now l=l/\aV now l=[]:=by
 obtain⟨a,b⟩:=oE h []
 rw[List.append_nil] at a b
 exact⟨a.trans (List.append_nil l),b⟩
theorem wS{l:List af}{t:af}(h:∀ x∈l,x.1<=t.1):bY l t=l++[t]:=by
 obtain⟨a,b⟩:=lB h
 unfold bY
 show ao t.1 l++t::aV t.1 l=_
 rw[a,b]
def mT(lim:Int)(c:ai):Prop:=(∀ t∈aJ c,t.1<=lim∨t.1=ab c+1)∧∀ t∈ba c,t.1<=lim∨t.1=ab c+1
theorem nz{now:Int}{log:List (List Int)}:∀(todo:List Int)(j:Nat){o:Int}{l:List af},∀ t∈(bT now log [] todo j (o,l)).2,t∈l∨t.1=now+1
 | [],j,o,l,t,ht => .inl ht
 | i::r,j,o,l,t,ht=>by
  rw[bT,mn] at ht
  split at ht
  ·rcases nz r (j+1) t ht with q|q
   ·rcases jl.1 q with rfl|q
    ·exact .inr (by show now+1+0+0=_;omega)
    ·exact .inl q
   ·exact .inr q
  ·exact nz r (j+1) t ht
theorem DI{c:ai}(h:XI c){up:List bd}(hu:dC up):cH (ab c) (aq c up).1 (aq c up).2:=by
 unfold aq
 split
 ·exact h.up
 ·exact (nX ⟨by omega,by omega⟩ (iW hu 0) h.ord h.up).1
theorem z6{lim:Int}{c:ai}(h:XI c)(hn:mT lim c):mT lim (bh c [] []):=by
 constructor
 ·intro t ht
  have ht:t∈(bT (ab c+1) (ae c) [] (dQ c []) 0 ((aq c []).1,aV (ab c+1) (aJ c))).2:=ht
  rcases nz _ _ t ht with q|q
  ·obtain⟨a,b⟩:=(mj h.dn).1 q
   rcases hn.1 t a with k|k
   ·exact .inl k
   ·omega
  ·exact .inr q
 ·intro t ht
  have ht:t∈aV (ab c+1) (aq c []).2:=ht
  obtain⟨a,b⟩:=(mj (DI h eQ)).1 ht
  have k:t∈ba c∨t.1=ab c+1+1:=by
   unfold aq at a
   split at a
   ·exact .inl a
   ·rw[mn] at a
    split at a
    ·rcases jl.1 a with rfl|a
     ·exact .inr (by show ab c+1+1+0+0=_;omega)
     ·exact .inl a
    ·exact .inl a
  rcases k with k|k
  ·rcases hn.2 t k with q|q
   ·exact .inl q
   ·omega
  ·exact .inr k
theorem tr{lim:Int}{c:ai}(h:XI c)(hn:mT lim c):∀ n:Nat,mT lim (a8 n c)
 | 0=>hn
 | n+1=>by rw[gm];exact z6 (h.runs n).1 (tr h hn n)
def lZ(c:ai):Prop:=(∀ t∈aJ c,t.1=ab c+1)∧∀ t∈ba c,t.1=ab c+1
theorem uS{c:ai}(h:XI c){n:Nat}(hn:2000<=n):lZ (a8 n c):=by
 have k:=tr (lim:=ab c+2000) h ⟨fun t ht=>.inl (h.dn.r t ht).1.2,fun t ht=>.inl (h.up.r t ht).1.2⟩ n
 obtain⟨a,b,-⟩:=h.runs n
 constructor
 ·intro t ht
  have:=(a.dn.r t ht).1.1
  rcases k.1 t ht with q|q
  ·omega
  ·exact q
 ·intro t ht
  have:=(a.up.r t ht).1.1
  rcases k.2 t ht with q|q
  ·omega
  ·exact q
theorem rh{now:Int}{log:List (List Int)}:∀(todo:List Int)(j:Nat){o:Int}{l:List af},l.length+todo.length<=4096 →
  (∀ t∈l,t∈(bT now log [] todo j (o,l)).2)∧∀ i∈todo,∃ t∈(bT now log [] todo j (o,l)).2,t.2.2=bF i (log.getD i.toNat default)
 | [],j,o,l,_=>⟨fun t ht=>ht,fun i hi=>(by cases hi)⟩
 | i::r,j,o,l,h=>by
  rw[List.length_cons] at h
  rw[bT,mn,if_pos (by omega)]
  obtain⟨a,b⟩:=rh r (j+1) (o:=o+1) (l:=bY l (now+1+0+0,o,bF i (log.getD i.toNat default))) (by rw[lz];omega)
  refine⟨fun t ht=>a t (jl.2 (.inr ht)),fun x hx=>?_⟩
  rcases List.mem_cons.1 hx with rfl|hx
  ·exact⟨_,a _ (jl.2 (.inl rfl)),rfl⟩
  ·exact b x hx
def f5(c:ai):af:=(ab c+1+1+0+0,a7 c,bq ((aM c).1.length:Int) ((aM c).2.map (·.1)))
theorem mO{c:ai}(h:XI c)(f:lZ c):dq c []=ba c/\aV (ab c+1) (aq c []).2=if aJ c≠[]/\(ba c).length<4096 then [f5 c] else []:=by
 have hu:∀ t∈ba c,t.1<=ab c+1:=fun t ht=>by rw[f.2 t ht];exact Int.le_refl _
 have hd:ao (ab c+1) (aJ c)=aJ c:=(lB fun t ht=>by rw[f.1 t ht];exact Int.le_refl _).1
 unfold dq aq
 rw[hd]
 split
 ·rename_i k
  rw[if_neg (fun q=>q.1 k)]
  exact lB hu
 ·rename_i k
  rw[mn]
  split
  ·rename_i q
   rw[if_pos ⟨k,q⟩]
   have e:bY (ba c) (ab c+1+1+0+0,a7 c,bq ((aM c).1.length:Int) ((aM c).2.map (·.1)))=ba c++[f5 c]:=wS fun x hx=>by
    have:=hu x hx
    show x.1<=ab c+1+1+0+0
    omega
   show ao (ab c+1) (bY _ _)=_/\aV (ab c+1) (bY _ _)=_
   rw[e]
   obtain⟨a,b⟩:=oE hu [f5 c]
   have n1:¬ (f5 c).1<=ab c+1:=by show ¬ ab c+1+1+0+0<=_;omega
   have a2:ao (ab c+1) [f5 c]=[]:=List.takeWhile_cons_of_neg (by simpa using n1)
   have b2:aV (ab c+1) [f5 c]=[f5 c]:=List.dropWhile_cons_of_neg (by simpa using n1)
   rw[a,b,a2,b2,List.append_nil]
   exact⟨rfl,rfl⟩
  ·rename_i q
   rw[if_neg (fun z=>q z.2)]
   exact lB hu
theorem px:∀{l:List af}{k:Int},k<=bz k l∧∀ t∈l,aH t.2.2 1<=bz k l
 | [],k=>⟨Int.le_refl _,fun t ht=>(by cases ht)⟩
 | t::r,k=>by
  obtain⟨a,b⟩:=px (l:=r) (k:=max k (aH t.2.2 1))
  show k<=bz (max k (aH t.2.2 1)) r∧∀ x∈t::r,aH x.2.2 1<=bz (max k (aH t.2.2 1)) r
  refine⟨by omega,fun x hx=>?_⟩
  rcases List.mem_cons.1 hx with rfl|hx
  ·omega
  ·exact b x hx
theorem uG{log:List (List Int)}{s:List (List Int)×List aw}(hl:log.length<=1024){t:af}(h:fc log s t):∀ e∈cK (t.2.2.drop 3),fk s e/\aH t.2.2 1<e:=by
 obtain⟨g,es,e1,hg,-,h4⟩:=h
 intro e he
 by_cases h0:es=[]
 ·rw[e1,qU,h0] at he;cases he
 rw[e1,qU,wj fun x hx=>by have:=(h4 x hx).1;exact⟨by omega,by omega⟩] at he
 have hx:=(h4 e he).1
 rw[e1,od ⟨by omega,by omega⟩]
 exact⟨(h4 e he).2,hx.1⟩
structure G1 (c:ai):Prop where
 x:XI c
 f:lZ c
 cov:∀ i:Int,aA c<=i->i<(ae c).length->i<aA c+am c->fk (aG c,aF c) i∨∃ t∈aJ c,t.2.2=bF i ((ae c).getD i.toNat default)
 un:(ba c).length<=1
 ua:∀ t∈ba c,aH t.2.2 1=(aG c).length
theorem uT{c:ai}(h:XI c)(up:List bd)(hk:aA c<=aB c up):(dQ c up).length<=64:=by
 have h1:(dQ c up).length<=(dU (aB c up) (min ((ae c).length:Int) (aB c up+am c))).length:=List.length_filter_le _ _
 have h2:(dU (aB c up) (min ((ae c).length:Int) (aB c up+am c))).length=(min ((ae c).length:Int) (aB c up+am c)-aB c up).toNat:=by unfold dU;rw[List.length_map,List.length_range]
 have:=h.win
 omega
theorem oB{c:ai}(f:lZ c):aV (ab c+1) (aJ c)=[]/\ao (ab c+1) (aJ c)=aJ c:=by
 obtain⟨a,b⟩:=lB (now:=ab c+1) (l:=aJ c) fun t ht=>by rw[f.1 t ht];exact Int.le_refl _
 exact⟨b,a⟩
theorem pi{c:ai}(h:XI c)(f:lZ c):G1 (bh c [] []):=by
 obtain⟨k1,k2,k3,-⟩:=h.tick eQ eQ
 obtain⟨u1,u2⟩:=mO h f
 obtain⟨f1,f2⟩:=oB f
 have hlog:=h.log
 have hwin:=h.win
 have hkn:=h.kn
 obtain⟨r1,r2,r3,r4⟩:=j7 h.log (l:=ao (ab c+1) (aJ c)) h.rc fun t ht=>h.dd t (jz ht).1
 have hT:=uT h [] k3
 have eD:aJ (bh c [] [])=(bT (ab c+1) (ae c) [] (dQ c []) 0 ((aq c []).1,[])).2:=by
  show (bT _ _ _ _ _ ((aq c []).1,aV (ab c+1) (aJ c))).2=_
  rw[f1]
 have eU:ba (bh c [] [])=if aJ c≠[]/\(ba c).length<4096 then [f5 c] else []:=u2
 obtain⟨-,sall⟩:=rh (now:=ab c+1) (log:=ae c) (dQ c []) 0 (o:=(aq c []).1) (l:=[]) (by simp;omega)
 have hgl:=k1.rc.n
 have hgl:(aM c).1.length<=(ae c).length:=hgl
 refine⟨k1,⟨fun t ht=>?_,fun t ht=>?_⟩,fun i i0 i1 i2=>?_,?_,fun t ht=>?_⟩
 ·rw[eD] at ht
  rcases nz _ _ t ht with q|q
  ·cases q
  ·exact q
 ·rw[eU] at ht
  split at ht
  ·rw[List.mem_singleton.1 ht];show ab c+1+1+0+0=ab c+1+1;omega
  ·cases ht
 ·by_cases hn:i∈bG (dq c [])
  ·left
   unfold bG at hn
   obtain⟨t,ht,hi⟩:=List.mem_flatMap.1 hn
   rw[u1] at ht
   exact r3 i (uG hlog (h.ud t ht) i hi).1
  ·right
   rw[eD]
   refine sall i (List.mem_filter.2 ⟨mem_range.2 ⟨i0,?_⟩,?_⟩)
   ·have i1:i<(ae c).length:=i1
    have i2:i<aB c []+am c:=i2
    omega
   ·simpa using hn
 ·rw[eU];split <;> simp
 ·rw[eU] at ht
  split at ht
  ·rw[List.mem_singleton.1 ht]
   show aH (bq ((aM c).1.length:Int) ((aM c).2.map (·.1))) 1=((aM c).1.length:Int)
   exact od ⟨by omega,by omega⟩ _
  ·cases ht
theorem G1.busy{c:ai}(h:G1 c)(hk:aA (bh c [] [])<(ae c).length):aJ (bh c [] [])≠[]:=by
 obtain⟨k1,k2,k3,-⟩:=h.x.tick eQ eQ
 obtain⟨u1,-⟩:=mO h.x h.f
 obtain⟨f1,f2⟩:=oB h.f
 have hT:=uT h.x [] k3
 have hwin:=h.x.win
 have hg:=px (l:=ba c) (k:=aA c)
 have eK:aB c []=bz (aA c) (ba c):=by unfold aB;rw[u1]
 have hk:aB c []<(ae c).length:=hk
 obtain⟨-,sall⟩:=rh (now:=ab c+1) (log:=ae c) (dQ c []) 0 (o:=(aq c []).1) (l:=[]) (by simp;omega)
 have hm:aB c []∈dQ c []:=by
  refine List.mem_filter.2 ⟨mem_range.2 ⟨Int.le_refl _,by omega⟩,?_⟩
  have hn:aB c [] ∉ bG (dq c []):=by
   intro hn
   unfold bG at hn
   obtain⟨t,ht,hi⟩:=List.mem_flatMap.1 hn
   rw[u1] at ht
   have h1:=(uG h.x.log (h.x.ud t ht) _ hi).2
   have e1:ba c=[t]:=by
    have:=h.un
    match hU:ba c,ht with
    | [a],ht=>rw[List.mem_singleton.1 ht]
    | a::b::r,_=>rw[hU] at this;simp at this
   have e2:aB c []=max (aA c) (aH t.2.2 1):=by rw[eK,e1];rfl
   have e3:=h.ua t ht
   have e4:=h.x.kn
   omega
  simpa using hn
 obtain⟨t,ht,-⟩:=sall _ hm
 have eD:aJ (bh c [] [])=(bT (ab c+1) (ae c) [] (dQ c []) 0 ((aq c []).1,[])).2:=by
  show (bT _ _ _ _ _ ((aq c []).1,aV (ab c+1) (aJ c))).2=_
  rw[f1]
 rw[eD]
 intro e
 rw[e] at ht
 cases ht
theorem G1.got{c:ai}(h:G1 c):min ((ae c).length:Int) (aA c+am c)<=(aG (bh c [] [])).length:=by
 obtain⟨k1,k2,k3,-⟩:=h.x.tick eQ eQ
 obtain⟨f1,f2⟩:=oB h.f
 obtain⟨r1,r2,r3,r4⟩:=j7 h.x.log (l:=ao (ab c+1) (aJ c)) h.x.rc fun t ht=>h.x.dd t (jz ht).1
 rw[f2] at r1 r2 r3 r4
 have eG:aM c=bV (aA c+am c) (aJ c) (aG c,aF c):=by unfold aM;rw[f2]
 rw[← eG] at r1 r2 r3 r4
 have hlog:=h.x.log
 have hkn:=h.x.kn
 show _<=((aM c).1.length:Int)
 have r2:(aG c).length<=(aM c).1.length:=r2
 by_cases hh:min ((ae c).length:Int) (aA c+am c)<=((aM c).1.length:Int)
 ·exact hh
 exfalso
 have cov:fk (aM c) ((aM c).1.length:Int):=by
  rcases h.cov ((aM c).1.length:Int) (by omega) (by omega) (by omega) with q|⟨t,ht,q⟩
  ·exact r3 _ q
  ·have em:aH t.2.2 1=((aM c).1.length:Int):=by rw[q];exact rF ⟨by omega,by omega⟩ _
   have:=r4 t ht (by omega)
   rw[em] at this
   exact this
 rcases cov with q|⟨x,hx,q⟩
 ·omega
 ·have:=(r1.e.r x hx).1.1
  omega
theorem G1.two{b:ai}(hb:G1 b):min ((ae b).length:Int) (aA (bh b [] [])+am b)<=aA (bh (bh (bh b [] []) [] []) [] []):=by
 have hc:G1 (bh b [] []):=pi hb.x hb.f
 have hc2:G1 (bh (bh b [] []) [] []):=pi hc.x hc.f
 obtain⟨-,-,m1,-⟩:=hc.x.tick eQ eQ
 obtain⟨-,-,m2,-⟩:=hc2.x.tick eQ eQ
 by_cases hk:aA (bh b [] [])<(ae b).length
 ·have hd:=hb.busy hk
  have hg:=hc.got
  have eL:ae (bh b [] [])=ae b:=rfl
  have eW:am (bh b [] [])=am b:=rfl
  rw[← eL,← eW]
  clear eL eW
  generalize bh b [] []=c at *
  have hl:(ba c).length<4096:=by have:=hc.un;omega
  obtain⟨-,u2⟩:=mO hc.x hc.f
  rw[if_pos ⟨hd,hl⟩] at u2
  have eU:ba (bh c [] [])=[f5 c]:=u2
  obtain⟨v1,-⟩:=mO hc2.x hc2.f
  have eK:aA (bh (bh c [] []) [] [])=bz (aA (bh c [] [])) (ba (bh c [] [])):=by
   show bz (aA (bh c [] [])) (dq (bh c [] []) [])=_
   rw[v1]
  have h1:=(px (l:=ba (bh c [] [])) (k:=aA (bh c [] []))).2 (f5 c) (by rw[eU];exact List.mem_singleton.2 rfl)
  have h2:=hc2.ua (f5 c) (by rw[eU];exact List.mem_singleton.2 rfl)
  rw[← eK] at h1
  omega
 ·omega
theorem AJ{c:ai}(h:XI c)(k:Nat):G1 (a8 (2001+k) c):=by
 have f:=uS h (n:=2000+k) (by omega)
 have e:a8 (2001+k) c=bh (a8 (2000+k) c) [] []:=by rw[show 2001+k=(2000+k)+1 by omega,gm]
 rw[e]
 exact pi (h.runs _).1 f
theorem wG{c:ai}(h:XI c):∀ m:Nat,min ((ae c).length:Int) ((m:Int)*am c)<=aA (a8 (2002+2*m) c)
 | 0=>by
  have:=(h.runs 2002).1.kn.1
  show min _ (0*am c)<=aA (a8 2002 c)
  rw[Int.zero_mul];omega
 | m+1=>by
  have ih:=wG h m
  have t:=(AJ h (2*m)).two
  obtain⟨-,-,eL,eW,-⟩:=h.runs (2001+2*m)
  rw[eL,eW,← gm,← gm,← gm] at t
  rw[show 2001+2*m+1=2002+2*m by omega,show 2002+2*m+1+1=2002+2*(m+1) by omega] at t
  have e:((m+1:Nat):Int)*am c=(m:Int)*am c+am c:=by rw[Int.natCast_succ,Int.add_mul,Int.one_mul]
  rw[e]
  generalize (m:Int)*am c=z at *
  have:=h.win
  omega
theorem Ao{c:ai}(h:XI c){n m:Nat}(hm:((ae c).length:Int)<=(m:Int)*am c)(hn:2002+2*m<=n) :
  fL (a8 n c)=true/\aJ (a8 n c)=[]/\aG (a8 n c)=ae (a8 n c):=by
 have g:=wG h m
 obtain⟨a,-,eL,eW,-⟩:=h.runs (2002+2*m)
 obtain⟨b,-,eL2,eW2,-,b6,-⟩:=a.runs (n-(2002+2*m))
 rw[wY,show 2002+2*m+(n-(2002+2*m))=n by omega] at b eL2 eW2 b6
 have b1:=b.kn
 have b2:(aG (a8 n c)).length<=(ae (a8 n c)).length:=b.rc.n
 have eLn:(ae (a8 n c)).length=(ae c).length:=by rw[eL2,eL]
 have hK:aA (a8 n c)=(ae (a8 n c)).length:=by omega
 have hG:(aG (a8 n c)).length=(ae (a8 n c)).length:=by omega
 refine⟨?_,?_,?_⟩
 ·unfold fL
  rw[decide_eq_true hG,decide_eq_true hK];rfl
 ·have en:a8 n c=bh (a8 (n-1) c) [] []:=by rw[← gm,show n-1+1=n by omega]
  have f:=uS h (n:=n-1) (by omega)
  rw[en] at hK ⊢
  have f1:=(oB f).1
  generalize a8 (n-1) c=v at *
  have hK:aB v []=(ae v).length:=hK
  have eT:dQ v []=[]:=by
   unfold dQ
   rw[hK,List.filter_eq_nil_iff.2]
   intro i hi
   have:=mem_range.1 hi
   omega
  show (bT (ab v+1) (ae v) [] (dQ v []) 0 ((aq v []).1,aV (ab v+1) (aJ v))).2=[]
  rw[eT,f1];rfl
 ·have g:=b.rc.g
  have g:aG (a8 n c)=(ae (a8 n c)).take (aG (a8 n c)).length:=g
  rw[g,hG,List.take_length]
end Go.RS

/- Xdef: what the functions of an exchange answer. -/
namespace Go.RS
open Go.SX Go.Proofs
set_option maxRecDepth 100000
set_option linter.unusedVariables false
def dk(w:Int):Int:=if w<1∨64<w then 1 else 0
def nK:ai:=(0,0,0,[],0,[],[],[],[])
def fm(w:Int):ai:=if dk w=0 then fU w else nK
def fl(n w:Int):Int:=if n<0∨1024<n∨w<1∨64<w then 0 else 4*(n/w+2)+2000
def c8(c:ai)(it:List Int):Int:=if 1024<=(ae c).length∨(6000:Int)<it.length then 5 else 0
def eX(c:ai)(it:List Int):ai:=if c8 c it=0 then jc c it else nK
def bP(f:bd):Bool:=decide (0<=f.2.1/\f.2.1<=1000/\0<=f.2.2/\f.2.2<=8)
theorem Eu{a b:Bool}:(bif a then true else b)=false↔a=false/\b=false:=by cases a <;> cases b <;> simp
theorem EV{p:Prop} [Decidable p]:(!decide p)=false↔p:=by by_cases h:p <;> simp[h]
def c6(l:List bd):Bool:=l.all bP
theorem kD{l:List bd}:c6 l=true↔dC l:=by
 unfold c6 dC
 rw[List.all_eq_true]
 constructor
 ·intro h f hf
  have:=h f hf
  unfold bP at this
  have:=of_decide_eq_true this
  exact⟨⟨this.1,this.2.1⟩,this.2.2⟩
 ·intro h f hf
  have:=h f hf
  exact decide_eq_true ⟨this.1.1,this.1.2,this.2⟩
def ci(c:ai)(ds us:List bd):Int:=if (c6 ds&&c6 us)=false then 1 else if 1099511627776<=ab c then 5 else 0
def dh(c:ai)(ds us:List bd):ai:=if ci c ds us=0 then bh c ds us else nK
def ct(c:ai)(n:Int):Int:=if n<0∨100000<n then 1 else if 0<n/\1099511627776<ab c+n then 5 else 0
def dF(c:ai)(n:Int):ai:=if ct c n=0 then a8 n.toNat c else nK
def XR(c:ai):Prop:=XI c/\a7 c<=585*ab c
theorem XR.tick{c:ai}(h:XR c){ds us:List bd}(hd:dC ds)(hu:dC us):XR (bh c ds us):=by
 obtain⟨h1,h2⟩:=h
 obtain⟨k1,-,-,k2⟩:=h1.tick hd hu
 refine⟨k1,?_⟩
 show _<=585*(ab c+1)
 omega
theorem XR.push{c:ai}(h:XR c){it:List Int}(hl:(ae c).length<1024)(hi:(it.length:Int)<=6000):XR (jc c it):=⟨h.1.push hl hi,h.2⟩
theorem XR.new{w:Int}(h0:1<=w)(h1:w<=64):XR (fU w):=⟨XI.new h0 h1,by show (0:Int)<=585*0;omega⟩
theorem XR.runs{c:ai}(h:XR c)(n:Nat):XR (a8 n c):=by
 obtain⟨k1,k2,-,-,-,-,k3⟩:=h.1.runs n
 have h2:=h.2
 exact⟨k1,by omega⟩
def iE(now ord:Int)(l:List af)(i:Nat):Prop:=((now<(l.getD i default).1/\(l.getD i default).1<=now+2000)/\0<=(l.getD i default).2.1/\(l.getD i default).2.1<ord)/\(0<i->(l.getD (i-1) default).1<(l.getD i default).1∨(l.getD (i-1) default).1=(l.getD i default).1/\(l.getD (i-1) default).2.1<(l.getD i default).2.1)
def eO(now ord:Int)(l:List af):Prop:=l.length<=4096∧∀ i:Nat,i<l.length->iE now ord l i
def ij(kn win glen:Int)(log:List (List Int))(l:List aw)(i:Nat):Prop:=(if i=0 then glen else (l.getD (i-1) default).1)<(l.getD i default).1/\(l.getD i default).1<log.length/\(l.getD i default).1<kn+win/\(l.getD i default).2=log.getD (l.getD i default).1.toNat default
def earP(kn win glen:Int)(log:List (List Int))(l:List aw):Prop:=∀ i:Nat,i<l.length->ij kn win glen log l i
def cd(log:List (List Int))(b:List Int):Prop:=3<=b.length/\aH b 1<log.length/\b=bF (aH b 1) (log.getD (aH b 1).toNat default)
def gY(llen:Int)(b:List Int)(i:Nat):Prop:=aH b ((1+2*i:Nat):Int)<aH b ((3+2*i:Nat):Int)/\aH b ((3+2*i:Nat):Int)<llen
def cl(glen llen:Int)(b:List Int):Prop:=3<=b.length/\b.length%2=1/\b.getD 0 0=65/\aH b 1<=glen∧∀ i:Nat,i<(b.length-3)/2->gY llen b i
structure DZ (c:ai):Prop where
 now:0<=ab c/\ab c<=1099511627776
 ord:0<=a7 c/\a7 c<=1099511627776
 win:1<=am c/\am c<=64
 log:(ae c).length<=1024
 kn:0<=aA c/\aA c<=(aG c).length
 gl:(aG c).length<=(ae c).length
 it:∀ b∈ae c,(b.length:Int)<=6000
 got:∀ i:Nat,i<(aG c).length->(aG c).getD i default=(ae c).getD i default
 ear:earP (aA c) (am c) (aG c).length (ae c) (aF c)
 dn:eO (ab c) (a7 c) (aJ c)
 up:eO (ab c) (a7 c) (ba c)
 dd:∀ t∈aJ c,cd (ae c) t.2.2
 ud:∀ t∈ba c,cl (aG c).length (ae c).length t.2.2
instance (now ord:Int) (l:List af):Decidable (eO now ord l):=by unfold eO iE;infer_instance
instance (kn win glen:Int) (log:List (List Int)) (l:List aw):Decidable (earP kn win glen log l):=by unfold earP ij;infer_instance
instance (log:List (List Int)) (b:List Int):Decidable (cd log b):=by unfold cd;infer_instance
instance (glen llen:Int) (b:List Int):Decidable (cl glen llen b):=by unfold cl gY;infer_instance
def dB(c:ai):Prop:=((0<=ab c/\ab c<=1099511627776)/\(0<=a7 c/\a7 c<=1099511627776)/\(1<=am c/\am c<=64)/\(ae c).length<=1024/\(0<=aA c/\aA c<=(aG c).length)/\(aG c).length<=(ae c).length)/\(∀ b∈ae c,(b.length:Int)<=6000)/\(∀ i:Nat,i<(aG c).length->(aG c).getD i default=(ae c).getD i default) ∧
 earP (aA c) (am c) (aG c).length (ae c) (aF c)/\eO (ab c) (a7 c) (aJ c)/\eO (ab c) (a7 c) (ba c)/\(∀ t∈aJ c,cd (ae c) t.2.2)∧∀ t∈ba c,cl (aG c).length (ae c).length t.2.2
instance (c:ai):Decidable (dB c):=by unfold dB;infer_instance
theorem C4{c:ai}:dB c↔DZ c :=
 ⟨fun ⟨⟨h1,h2,h3,h4,h5,h6⟩,h7,h8,h9,h10,h11,h12,h13⟩=>⟨h1,h2,h3,h4,h5,h6,h7,h8,h9,h10,h11,h12,h13⟩,
  fun h=>⟨⟨h.now,h.ord,h.win,h.log,h.kn,h.gl⟩,h.it,h.got,h.ear,h.dn,h.up,h.dd,h.ud⟩⟩
def i6(c:ai):Int:=if dB c then 0 else 7
end Go.RS

/- Xw3: the program's exchange: what arrives at the receiver and at the sender; a tick. -/
namespace Go.RS
open Go.SX Go.Proofs
set_option maxRecDepth 100000
set_option linter.unusedVariables false
abbrev Dy:OT := .pair cI (.pair cI (.pair cI (.pair (.hole 0) (.pair cI (.pair (.row 22 (.sl aT)) (.pair (.row 51 dY) (.pair (.row 53 a9) (.row 53 a9))))))))
def bk(now lim:Int)(dn:List af)(g:List (List Int))(e:List aw):List (List Int)×List aw:=bV lim (ao now dn) (g,e)
def hZ(now ord:Int)(G:List (List Int)×List aw)(dn up:List af)(fs:List bd):Int×List af:=if ao now dn=[] then (ord,up) else bf now (bq (G.1.length:Int) (G.2.map (·.1))) (bj fs 0) (ord,up)
structure mP (now ord win kn:Int) (g:List (List Int)) (e:List aw) (dn up:List af) (fs:List bd) (log:List (List Int)):Prop where
 rc:iB log (kn+win) (g,e)
 ln:log.length<=1024
 it:∀ b∈log,(b.length:Int)<=6000
 dd:∀ t∈dn,hX log t
 kn:0<=kn/\kn<=1024
 wn:1<=win/\win<=64
 so:cG now ord up
 oo:ord<=900000000000000
 ff:f7 (bj fs 0)
 dl:dn.length<=4096
theorem mr(now:Int)(l:List af):(ao now l).length<=l.length/\l.drop (ao now l).length=aV now l/\(∀ k:Nat,k<(ao now l).length->l.getD k default=(ao now l).getD k default)∧∀ t∈ao now l,t∈l:=by
 have e:ao now l++aV now l=l:=List.takeWhile_append_dropWhile
 generalize ao now l=A at *
 generalize aV now l=B at *
 subst e
 refine⟨by rw[List.length_append];omega,List.drop_left,fun k hk=>?_,fun t ht=>List.mem_append_left _ ht⟩
 rw[List.getD_eq_getElem?_getD,List.getD_eq_getElem?_getD,List.getElem?_append_left hk]
theorem xb:∀{l:List aw}{lo hi:Int},l.Pairwise (fun a b=>a.1<b.1)->(∀ x∈l,lo<=x.1/\x.1<hi)->(l.length:Int)<=max 0 (hi-lo)
 | [],lo,hi,_,_=>by simp;omega
 | x::r,lo,hi,hs,hb=>by
  obtain⟨s1,s2⟩:=List.pairwise_cons.1 hs
  have hx:=hb x List.mem_cons_self
  have:=xb (l:=r) (lo:=x.1+1) (hi:=hi) s2 fun y hy=>⟨by have:=s1 y hy;omega,(hb y (List.mem_cons_of_mem _ hy)).2⟩
  rw[List.length_cons];omega
theorem pU{log:List (List Int)}{kn win:Int}{g:List (List Int)}{e:List aw}(h:iB log (kn+win) (g,e))(hl:log.length<=1024)(hk:0<=kn/\kn<=1024)(hw:1<=win/\win<=64):mX kn win g e/\g.length<=1024/\e.length<=1024∧∀ x∈e,0<=x.1/\x.1<1024:=by
 have h1:g.length<=log.length:=h.n
 have h2:e.Pairwise fun a b=>a.1<b.1:=h.e.s
 have hr:∀ x∈e,0<=x.1/\x.1<1024:=fun x hx=>by
  obtain⟨⟨k1,k2⟩,-⟩:=h.e.r x hx
  have k1:(g.length:Int)<x.1:=k1
  omega
 have h3:=xb (lo:=0) (hi:=1024) h2 hr
 have h3:(e.length:Int)<=1024:=by omega
 exact⟨⟨by omega,by omega,by omega,by omega,h2⟩,by omega,by omega,hr⟩
theorem q8{log:List (List Int)}{t:af}(h:hX log t)(hi:∀ b∈log,(b.length:Int)<=6000):3<=t.2.2.length/\(t.2.2.length:Int)<=6003:=by
 obtain⟨i,h1,h2⟩:=h
 have h3:=hi _ (cE (xs:=log) h1.1 h1.2)
 rw[h2,nZ];omega
theorem tD(lim:Int)(l:List af)(t:af)(s:List (List Int)×List aw):bV lim (l++[t]) s=bW lim (bV lim l s) (aH t.2.2 1) (t.2.2.drop 3):=by
 unfold bV;rw[List.foldl_append];rfl
theorem rT:∀(es:List Int)(i:Int),dD (es++[i])=dD es++cj i 2 2
 | [],i=>by simp[dD]
 | a::r,i=>by rw[List.cons_append,dD,dD,rT r i,List.append_assoc]
theorem vy(g:Int)(es:List Int)(i:Int):bq g es++cj i 2 2=bq g (es++[i]):=by
 unfold bq;rw[rT,List.cons_append,List.append_assoc]
def sL:Ct:=⟨[.box 28 Dy,.val (.sl dI)],[],fun d=>[∃ log,mP d.1.1 d.1.2.1 d.1.2.2.1 d.1.2.2.2.2.1 d.1.2.2.2.2.2.1 d.1.2.2.2.2.2.2.1 d.1.2.2.2.2.2.2.2.1 d.1.2.2.2.2.2.2.2.2 d.2.1 log],fun d=>((),((d.1.1,(hZ d.1.1 d.1.2.1 (bk d.1.1 (d.1.2.2.2.2.1+d.1.2.2.1) d.1.2.2.2.2.2.2.2.1 d.1.2.2.2.2.2.1 d.1.2.2.2.2.2.2.1) d.1.2.2.2.2.2.2.2.1 d.1.2.2.2.2.2.2.2.2 d.2.1).1,d.1.2.2.1,d.1.2.2.2.1,d.1.2.2.2.2.1,(bk d.1.1 (d.1.2.2.2.2.1+d.1.2.2.1) d.1.2.2.2.2.2.2.2.1 d.1.2.2.2.2.2.1 d.1.2.2.2.2.2.2.1).1,(bk d.1.1 (d.1.2.2.2.2.1+d.1.2.2.1) d.1.2.2.2.2.2.2.2.1 d.1.2.2.2.2.2.1 d.1.2.2.2.2.2.2.1).2,aV d.1.1 d.1.2.2.2.2.2.2.2.1,(hZ d.1.1 d.1.2.1 (bk d.1.1 (d.1.2.2.2.2.1+d.1.2.2.1) d.1.2.2.2.2.2.2.2.1 d.1.2.2.2.2.2.1 d.1.2.2.2.2.2.2.1) d.1.2.2.2.2.2.2.2.1 d.1.2.2.2.2.2.2.2.2 d.2.1).2),()))⟩
def zn:az sL.ps->aI:=(fun d=>{loops:=(fun n=>match n with|2=>some (fun S=>{ι:=Int×(List (List Int))×(List aw),qn:=⟨fun k_=>∀(j:Int)(g:(List (List Int)))(e:(List aw)),k_ (j,g,e),fun k_ h_ i=>h_ i.1 i.2.1 i.2.2,fun k_=>∃ (j:Int) (g:(List (List Int))) (e:(List aw)),k_ (j,g,e),fun k_ ⟨j,g,e,h_⟩=>⟨_,h_⟩⟩,μ:=fun i=>((ao d.1.1 d.1.2.2.2.2.2.2.2.1).length-i.1).toNat,inv:=fun i=>0<=i.1/\i.1<=(ao d.1.1 d.1.2.2.2.2.2.2.2.1).length/\(i.2.1,i.2.2)=bV (d.1.2.2.2.2.1+d.1.2.2.1) ((ao d.1.1 d.1.2.2.2.2.2.2.2.1).take i.1.toNat) (d.1.2.2.2.2.2.1,d.1.2.2.2.2.2.2.1),keep:=[0,1,4,15,16],slots:=fun i=>[(17,.int .i64 i.1)],keepN:=[240,2097155],names:=fun i=>[(1048576,.live (.cells 28 [.int .i64 d.1.1,.int .i64 d.1.2.1,.int .i64 d.1.2.2.1,.hv 1572864 d.1.2.2.2.1,.int .i64 d.1.2.2.2.2.1,.own 524288 1,.own 524289 2,.part 240 3 (ao d.1.1 d.1.2.2.2.2.2.2.2.1).length (d.1.2.2.2.2.2.2.2.1.length-(ao d.1.1 d.1.2.2.2.2.2.2.2.1).length),.own 2097155 3])),(524288,.live (.row 22 (.sl aT) i.2.1)),(524289,.live (.row 51 dY i.2.2)),(1572864,.dead)]})|9=>some (fun S=>{ι:=Int×(List Int),qn:=⟨fun k_=>∀(j:Int)(b:(List Int)),k_ (j,b),fun k_ h_ i=>h_ i.1 i.2,fun k_=>∃ (j:Int) (b:(List Int)),k_ (j,b),fun k_ ⟨j,b,h_⟩=>⟨_,h_⟩⟩,μ:=fun i=>((bk d.1.1 (d.1.2.2.2.2.1+d.1.2.2.1) d.1.2.2.2.2.2.2.2.1 d.1.2.2.2.2.2.1 d.1.2.2.2.2.2.2.1).2.length-i.1).toNat,inv:=fun i=>0<=i.1/\i.1<=(bk d.1.1 (d.1.2.2.2.2.1+d.1.2.2.1) d.1.2.2.2.2.2.2.2.1 d.1.2.2.2.2.2.1 d.1.2.2.2.2.2.2.1).2.length/\i.2=bq ((bk d.1.1 (d.1.2.2.2.2.1+d.1.2.2.1) d.1.2.2.2.2.2.2.2.1 d.1.2.2.2.2.2.1 d.1.2.2.2.2.2.2.1).1.length:Int) (((bk d.1.1 (d.1.2.2.2.2.1+d.1.2.2.1) d.1.2.2.2.2.2.2.2.1 d.1.2.2.2.2.2.1 d.1.2.2.2.2.2.2.1).2.map (·.1)).take i.1.toNat),keep:=[0,1,45,46],slots:=fun i=>[(47,.int .i64 i.1),(7,.own 524290 1)],keepN:=[1048576,524288,524289,544,2097155],names:=fun i=>[(524290,.live (.row 5 aT i.2)),(1572864,.dead)]})|_=>none)})
def ko(h:List (Int×Int×List Int))(k:Int) :=
 ((List.length (h.getD ((0:Nat)+k.toNat) default).2.2):Int)
def dE(a:Int)(h:List (Int×Int×List Int)) :=
 List.length (ao a h)
def mq(h:List (Int×Int×List Int))(k:Int) :=
 bi (h.getD ((0:Nat)+k.toNat) default).2.2 (Int.toNat (3:Int)) (Int.toNat (ko h k))
theorem yQ :
 ∀(a b c:Int)(d:SV)(e:Int)(f:List (List Int))(g:List (Int×List Int))(h i:List (Int×Int×List Int))(j:List (Bool×Int×Int)),(ak a/\ak b/\ak c/\True/\ak e/\(f.length<=maxLen/\ ∀(k:List Int),k∈f->k.length<=maxLen/\ ∀(l:Int),l∈k->0<=l/\l<=255)/\(g.length<=maxLen/\ ∀(k:Int×List Int),k∈g->ak k.1/\k.2.length<=maxLen/\ ∀(l:Int),l∈k.2->0<=l/\l<=255)/\(h.length<=maxLen/\ ∀(k:Int×Int×List Int),k∈h->ak k.1/\ak k.2.1/\k.2.2.length<=maxLen/\ ∀(l:Int),l∈k.2.2->0<=l/\l<=255)/\i.length<=maxLen/\ ∀(k:Int×Int×List Int),k∈i->ak k.1/\ak k.2.1/\k.2.2.length<=maxLen/\ ∀(l:Int),l∈k.2.2->0<=l/\l<=255)/\(j.length<=maxLen/\ ∀(k:Bool×Int×Int),k∈j->True/\ak k.2.1/\ak k.2.2)/\True->(∃(k:List (List Int)),mP a b c e f g h i j k)->(∃(k:Int) (l:List (List Int)),∃(m:List aw),(0<=k/\k<=((dE a h):Int)/\(l,m)=bV (e+c) (List.take k.toNat (ao a h)) (f,g))/\j=j/\(0:Nat)=(0:Nat)/\List.length (ao a
 h)=List.length (ao a h)/\(0:Nat)=(0:Nat)/\List.length (ao a h)=List.length (ao a h)/\((dE a h):Int)=((dE a h):Int)/\(0:Int)=k/\h=h/\i=i/\a=a/\b=b/\c=c/\d=d/\e=e/\List.length (ao a h)=List.length (ao a h)/\h.length -List.length (ao a h)=h.length -List.length (ao a h)/\f=l/\g=m/\True)/\ ∀(k:Int)(l:List (List Int))(m:List aw),0<=k/\k<=((dE a h):Int)/\(l,m)=bV (e+c) (List.take k.toNat (ao a h)) (f,g)->ah (decide (k<((dE a h):Int))) (0<=k/\k<((dE a h):Int)/\(ko h k)<=9223372036854775807/\(0:Int)<=3/\3<=(ko h k)/\(ko h k)<=(ko h k)/\((List.length (mq h k)):Int)<=1099511627776/\mX e c l m/\ ∃(n:Int) (o:List (List Int)),∃(p:List aw),(0<=n/\n<=((dE a h):Int)/\(o,p)=bV (e+c) (List.take n.toNat (ao a h)) (f,g))/\Int.toNat (((dE a h):Int) -n)<Int.toNat (((dE a h):Int) -k)/\j=j/\(0:Nat)=(0:Nat)/\List.length (ao a h)=List.length (ao a
 h)/\(0:Nat)=(0:Nat)/\List.length (ao a h)=List.length (ao a h)/\((dE a h):Int)=((dE a h):Int)/\IntKind.wrap .i64 (k+(1:Int))=n/\h=h/\i=i/\a=a/\b=b/\c=c/\d=d/\e=e/\List.length (ao a h)=List.length (ao a h)/\h.length -List.length (ao a h)=h.length -List.length (ao a h)/\(bW (e+c) (l,m) (aH (h.getD ((0:Nat)+k.toNat) default).2.2 (1:Int)) (mq h k)).1=o/\(bW (e+c) (l,m) (aH (h.getD ((0:Nat)+k.toNat) default).2.2 (1:Int)) (mq h k)).2=p/\True) (List.length (ao a h)+(h.length -List.length (ao a h))=h.length/\ah (decide (((dE a h):Int)=0)) ((a,b,c,d,e,l,m,List.drop (dE a h) h,i)=(a,(hZ a b (bk a (e+c) h f g) h i j).1,c,d,e,(bk a (e+c) h f g).1,(bk a (e+c) h f g).2,aV a h,(hZ a b (bk a (e+c) h f g) h i j).2)) (0<=(l.length:Int)/\(List.length [(65:Int)]+List.length (cj (l.length:Int) (2:Nat) (2:Nat)))*(1:Nat)<=(140737488355328:Nat)/\(∃(n:Int)
 (o:List Int),(0<=n/\n<=((List.length (bk a (e+c) h f g).2):Int)/\o=bq ((List.length (bk a (e+c) h f g).1):Int) (List.take n.toNat (List.map (fun (p:aw)=>p.1) (bk a (e+c) h f g).2)))/\j=j/\(m.length:Int)=(m.length:Int)/\(0:Int)=n/\a=a/\b=b/\c=c/\d=d/\e=e/\l=l/\m=m/\List.drop (dE a h) h=List.drop (dE a h) h/\i=i/\[(65:Int)]++cj (l.length:Int) (2:Nat) (2:Nat)=o/\True)/\ ∀(n:Int)(o:List Int),0<=n/\n<=((List.length (bk a (e+c) h f g).2):Int)/\o=bq ((List.length (bk a (e+c) h f g).1):Int) (List.take n.toNat (List.map (fun (p:aw)=>p.1) (bk a (e+c) h f g).2))->ah (decide (n<(m.length:Int))) (0<=n/\n<(m.length:Int)/\0<=(m.getD n.toNat default).1/\(o.length+List.length (cj (m.getD n.toNat default).1 (2:Nat) (2:Nat)))*(1:Nat)<=(140737488355328:Nat)/\ ∃(p:Int) (q:List Int),(0<=p/\p<=((List.length (bk a (e+c) h f g).2):Int)/\q=bq ((List.length (bk a (e+c) h f g).1):Int)
 (List.take p.toNat (List.map (fun (r:aw)=>r.1) (bk a (e+c) h f g).2)))/\Int.toNat (((List.length (bk a (e+c) h f g).2):Int) -p)<Int.toNat (((List.length (bk a (e+c) h f g).2):Int) -n)/\j=j/\(m.length:Int)=(m.length:Int)/\IntKind.wrap .i64 (n+(1:Int))=p/\a=a/\b=b/\c=c/\d=d/\e=e/\l=l/\m=m/\List.drop (dE a h) h=List.drop (dE a h) h/\i=i/\o++cj (m.getD n.toNat default).1 (2:Nat) (2:Nat)=q/\True) (cG a b i/\b<=900000000000000/\f7 (bj j (Int.toNat (0:Int)))/\(0:Int)<=0/\(o.length:Int)<=1000000/\(a,(bf a o (bj j (Int.toNat (0:Int))) (b,i)).1,c,d,e,l,m,List.drop (dE a h) h,(bf a o (bj j (Int.toNat (0:Int))) (b,i)).2)=(a,(hZ a b (bk a (e+c) h f g) h i j).1,c,d,e,(bk a (e+c) h f g).1,(bk a (e+c) h f g).2,aV a h,(hZ a b (bk a (e+c) h f g) h i j).2)))):=by
  delta ko dE mq
  rintro now ord win s kn got ear dn up fs-⟨log,h⟩
  obtain⟨q1,q2,q3,q4⟩:=mr now dn
  have hln:=h.ln
  have hdl:=h.dl
  have hso:=h.so
  obtain⟨-,-,-,-,hup⟩:=hso
  have eG:bk now (kn+win) dn got ear=bV (kn+win) (ao now dn) (got,ear):=rfl
  have eU:hZ now ord (bk now (kn+win) dn got ear) dn up fs=if ao now dn=[] then (ord,up) else bf now (bq ((bk now (kn+win) dn got ear).1.length:Int) ((bk now (kn+win) dn got ear).2.map (·.1))) (bj fs 0) (ord,up):=rfl
  rw[eU,← q2,eG]
  clear eU eG
  have hd:∀ t∈ao now dn,hX log t:=fun t ht=>h.dd t (q4 t ht)
  generalize ao now dn=L at *
  have hst:∀ n:Nat,∀(g:List (List Int))(e:List aw),(g,e)=bV (kn+win) (L.take n) (got,ear)->mX kn win g e/\g.length<=1024/\e.length<=1024∧∀ x∈e,0<=x.1/\x.1<1024:=fun n g e he=>by
   obtain⟨k1,-⟩:=j7 hln (l:=L.take n) h.rc fun t ht=>hd t (List.mem_of_mem_take ht)
   rw[← he] at k1
   exact pU k1 hln h.kn h.wn
  refine⟨⟨0,got,ear,⟨by omega,by omega,rfl⟩,(by repeat' first|exact trivial|refine⟨trivial,?_⟩|refine⟨(by with_reducible rfl),?_⟩|refine⟨ad (by omega) (by omega),?_⟩|refine⟨rfl,?_⟩)⟩,?_⟩
  rintro j g e ⟨j0,j1,he⟩
  obtain⟨t1,t2,t3,t4⟩:=hst _ _ _ he
  refine ar (fun hj=>?_) (fun hj=>?_)
  ·have hj:=of_decide_eq_true hj
   have ed:dn.getD (0+j.toNat) default=L.getD j.toNat default:=by rw[Nat.zero_add];exact q3 _ (by omega)
   have hmem:=cE (xs:=L) j0 hj
   rw[ed]
   obtain⟨d1,d2⟩:=q8 (hd _ hmem) h.it
   have ht:=cZ (l:=L) j0 hj
   generalize L.getD j.toNat default=T at *
   have es:bi T.2.2 (Int.toNat 3) (Int.toNat (T.2.2.length:Int))=T.2.2.drop 3:=by
    unfold bi;rw[Int.toNat_natCast,List.take_length];rfl
   rw[es]
   refine⟨j0,by omega,by omega,by omega,by omega,by omega,by rw[List.length_drop];omega,t1,j+1,(bW (kn+win) (g,e) (aH T.2.2 1) (T.2.2.drop 3)).1,(bW (kn+win) (g,e) (aH T.2.2 1) (T.2.2.drop 3)).2,⟨by omega,by omega,?_⟩,by omega,(by repeat' first|exact trivial|refine⟨trivial,?_⟩|refine⟨(by with_reducible rfl),?_⟩|refine⟨ad (by omega) (by omega),?_⟩|refine⟨rfl,?_⟩)⟩
   rw[ht,tD,← he]
  ·have hj:=of_decide_eq_false hj
   have ej:j.toNat=L.length:=by omega
   rw[ej,List.take_length] at he
   rw[← he]
   refine⟨by omega,ar (fun hz=>?_) (fun hz=>?_)⟩
   ·have hz:=of_decide_eq_true hz
    rw[if_pos (List.eq_nil_of_length_eq_zero (by omega))]
   ·have hz:=of_decide_eq_false hz
    rw[if_neg (fun hL=>hz (by rw[hL];rfl))]
    refine⟨by omega,by rw[ju];simp only[List.length_singleton];omega,⟨0,bq (g.length:Int) [],⟨by omega,by omega,by simp⟩,?_⟩,?_⟩
    ·(repeat first|refine⟨trivial,?_⟩|refine⟨(by with_reducible rfl),?_⟩|refine⟨ad (by omega) (by omega),?_⟩)
     exact⟨by simp[bq,dD],trivial⟩
    ·rintro i b ⟨i0,i1,hb⟩
     have hb:b=bq (g.length:Int) ((e.map (·.1)).take i.toNat):=hb
     subst hb
     have i1:i<=(e.length:Int):=i1
     have hbl:(bq (g.length:Int) ((e.map (·.1)).take i.toNat)).length<=3+2*1024:=by
      rw[kV,List.length_take,List.length_map];omega
     refine ar (fun hi=>?_) (fun hi=>?_)
     ·have hi:=of_decide_eq_true hi
      have hx:=t4 _ (cE (xs:=e) i0 hi)
      have hn:=cZ (l:=e.map (·.1)) i0 (by rw[List.length_map];exact hi)
      have em:(e.map (·.1)).getD i.toNat default=(e.getD i.toNat default).1:=by
       simp only[List.getD_eq_getElem?_getD,List.getElem?_map]
       rw[List.getElem?_eq_getElem (by omega)];rfl
      refine⟨i0,hi,hx.1,by rw[ju];omega,i+1,bq (g.length:Int) ((e.map (·.1)).take (i+1).toNat),⟨by omega,by show i+1<=(e.length:Int);omega,rfl⟩,by show ((e.length:Int)-(i+1)).toNat<((e.length:Int)-i).toNat;omega,?_⟩
      (repeat first|refine⟨trivial,?_⟩|refine⟨(by with_reducible rfl),?_⟩|refine⟨ad (by omega) (by omega),?_⟩)
      exact⟨by rw[vy,hn,em],trivial⟩
     ·have hi:=of_decide_eq_false hi
      refine⟨h.so,h.oo,h.ff,by omega,by omega,?_⟩
      have ei:(e.map (·.1)).take i.toNat=e.map (·.1):=List.take_of_length_le (by rw[List.length_map];omega)
      rw[ei]
      rfl
theorem DB:aC Try.prog GL 54 sL.spec:=Ct.okH _ Try.func54 (by kernel_rfl) (vC (av (av (av (av (av (av aP Az) mL) kO) Eb) uR) wP) (d:=33) (p:=1048576) (off:=7)) ay zn (aO (by kernel_rfl) yQ)
abbrev En:OT := .pair cI (.pair (.hole 0) (.pair (.hole 1) (.pair (.hole 2) (.pair cI (.pair (.hole 3) (.pair (.hole 4) (.pair (.hole 5) (.row 53 a9))))))))
theorem oz:∀ n:Nat,∀ l:List Int,l.length<=n->(cK l).length=l.length/2
 | 0,[],_=>rfl
 | n+1,[],_=>rfl
 | n+1,[a],_=>by simp[cK]
 | n+1,a::b::r,h=>by
  rw[cK,List.length_cons,oz n r (by simp at h;omega)]
  simp only[List.length_cons];omega
theorem rJ:∀(q:Nat){l:List Int},2*q+2<=l.length->cK (l.take (2*q+2))=cK (l.take (2*q))++[l.getD (2*q) 0*256+l.getD (2*q+1) 0]
 | 0,a::b::r,h=>rfl
 | 0,[],h=>by simp at h
 | 0,[a],h=>by simp at h
 | q+1,a::b::r,h=>by
  have e:=rJ q (l:=r) (by simp at h;omega)
  rw[show 2*(q+1)+2=(2*q+2)+1+1 by omega,show 2*(q+1)=2*q+1+1 by omega]
  simp only[List.take_succ_cons,cK,List.cons_append,List.getD_cons_succ]
  rw[e]
 | q+1,[],h=>by simp at h
 | q+1,[a],h=>by simp at h
theorem qc{b:List Int}{n:Nat}(h:n+2<=b.length):aH b n=(b.drop n).getD 0 0*256+(b.drop n).getD 1 0:=by
 rw[qP h]
 match hd:b.drop n with
 | x::y::r=>exact uc x y
 | []=>have:=congrArg List.length hd;simp at this;omega
 | [x]=>have:=congrArg List.length hd;simp at this;omega
theorem te(l:List af)(t:af):bG (l++[t])=bG l++cK (t.2.2.drop 3):=by
 unfold bG;rw[List.flatMap_append];simp
theorem wc(k:Int)(l:List af)(t:af):bz k (l++[t])=max (bz k l) (aH t.2.2 1):=by
 unfold bz;rw[List.foldl_append];rfl
theorem mR:∀{l:List af},(∀ t∈l,∃ m:Nat,t.2.2.length=3+2*m/\m<=2000)->(bG l).length<=2000*l.length
 | [],_=>Nat.le_refl _
 | t::r,h=>by
  obtain⟨m,h1,h2⟩:=h t List.mem_cons_self
  have h3:=mR (l:=r) fun x hx=>h x (List.mem_cons_of_mem _ hx)
  show (cK (t.2.2.drop 3)++bG r).length<=_
  rw[List.length_append,oz _ _ (Nat.le_refl _),List.length_drop,List.length_cons]
  omega
def sF:Ct:=⟨[.box 28 En],[.own 3 cI],fun d=>[d.1.2.2.2.2.2.2.2.2.length<=4096,∀ t∈d.1.2.2.2.2.2.2.2.2,∃ m:Nat,t.2.2.length=3+2*m/\m<=2000],fun d=>((bG (ao d.1.1 d.1.2.2.2.2.2.2.2.2),()),((d.1.1,d.1.2.1,d.1.2.2.1,d.1.2.2.2.1,bz d.1.2.2.2.2.1 (ao d.1.1 d.1.2.2.2.2.2.2.2.2),d.1.2.2.2.2.2.1,d.1.2.2.2.2.2.2.1,d.1.2.2.2.2.2.2.2.1,aV d.1.1 d.1.2.2.2.2.2.2.2.2),()))⟩
def zk:az sF.ps->aI:=(fun d=>{loops:=(fun n=>match n with|3=>some (fun S=>{ι:=Int×Int×(List Int),qn:=⟨fun k_=>∀(j:Int)(kn:Int)(nt:(List Int)),k_ (j,kn,nt),fun k_ h_ i=>h_ i.1 i.2.1 i.2.2,fun k_=>∃ (j:Int) (kn:Int) (nt:(List Int)),k_ (j,kn,nt),fun k_ ⟨j,kn,nt,h_⟩=>⟨_,h_⟩⟩,μ:=fun i=>((ao d.1.1 d.1.2.2.2.2.2.2.2.2).length-i.1).toNat,inv:=fun i=>0<=i.1/\i.1<=(ao d.1.1 d.1.2.2.2.2.2.2.2.2).length/\i.2.1=bz d.1.2.2.2.2.1 ((ao d.1.1 d.1.2.2.2.2.2.2.2.2).take i.1.toNat)/\i.2.2=bG ((ao d.1.1 d.1.2.2.2.2.2.2.2.2).take i.1.toNat),keep:=[0,11,12],slots:=fun i=>[(13,.int .i64 i.1),(3,.own 524288 1)],keepN:=[192],names:=fun i=>[(1048576,.live (.cells 28 [.int .i64 d.1.1,.hv 1572864 d.1.2.1,.hv 1572865 d.1.2.2.1,.hv 1572866 d.1.2.2.2.1,.int .i64 i.2.1,.hv 1572867 d.1.2.2.2.2.2.1,.hv 1572868 d.1.2.2.2.2.2.2.1,.hv 1572869 d.1.2.2.2.2.2.2.2.1,.part 192 3 (ao d.1.1 d.1.2.2.2.2.2.2.2.2).length (d.1.2.2.2.2.2.2.2.2.length-(ao d.1.1 d.1.2.2.2.2.2.2.2.2).length)])),(524288,.live (.row 3 cI i.2.2)),(1572864,.dead),(1572865,.dead),(1572866,.dead),(1572867,.dead),(1572868,.dead),(1572869,.dead)]})|7=>some (fun S=>{ι:=Int×(List Int),qn:=⟨fun k_=>∀(a:Int)(nt:(List Int)),k_ (a,nt),fun k_ h_ i=>h_ i.1 i.2,fun k_=>∃ (a:Int) (nt:(List Int)),k_ (a,nt),fun k_ ⟨a,nt,h_⟩=>⟨_,h_⟩⟩,μ:=fun i=>((S.c a9 96).2.2.length-i.1).toNat,inv:=fun i=>3<=i.1/\i.1<=(S.c a9 96).2.2.length/\(i.1-3)%2=0/\i.2=S.o cI 3++cK (((S.c a9 96).2.2.drop 3).take (i.1-3).toNat),keep:=[0,5,11,12,13],slots:=fun i=>[(6,.int .i64 i.1),(3,.own 524289 1)],keepN:=[1048576,96,192],names:=fun i=>[(524289,.live (.row 3 cI i.2)),(1572864,.dead),(1572865,.dead),(1572866,.dead),(1572867,.dead),(1572868,.dead),(1572869,.dead)]})|_=>none)})
def cO(i:List (Int×Int×List Int))(j:Int) :=
 i.getD ((0:Nat)+j.toNat) default
def eC(a:Int)(i:List (Int×Int×List Int)) :=
 ((List.length (ao a i)):Int)
def hP(i:List (Int×Int×List Int))(j:Int) :=
 ((List.length (cO i j).2.2):Int)
theorem CQ :
 ∀(a:Int)(b c d:SV)(e:Int)(f g h:SV)(i:List (Int×Int×List Int)),(ak a/\True/\True/\True/\ak e/\True/\True/\True/\i.length<=maxLen/\ ∀(j:Int×Int×List Int),j∈i->ak j.1/\ak j.2.1/\j.2.2.length<=maxLen/\ ∀(k:Int),k∈j.2.2->0<=k/\k<=255)/\True->(i.length<=(4096:Nat)/\ ∀(j:Int×Int×List Int),j∈i-> ∃(k:Nat),j.2.2.length=(3:Nat)+(2:Nat)*k/\k<=(2000:Nat))->(∃(j:Int) (k:Int),∃(l:List Int),(0<=j/\j<=(eC a i)/\k=bz e (List.take j.toNat (ao a i))/\l=bG (List.take j.toNat (ao a i)))/\(0:Nat)=(0:Nat)/\List.length (ao a i)=List.length (ao a i)/\(eC a i)=(eC a i)/\(0:Int)=j/\i=i/\a=a/\b=b/\c=c/\d=d/\e=k/\f=f/\g=g/\h=h/\List.length (ao a i)=List.length (ao a i)/\i.length -List.length (ao a i)=i.length -List.length (ao a i)/\l=([]:List Int)/\True)/\ ∀(j k:Int)(l:List Int),0<=j/\j<=(eC a i)/\k=bz e (List.take j.toNat (ao a i))/\l=bG (List.take j.toNat (ao a
 i))->ah (decide (j<(eC a i))) (0<=j/\j<(eC a i)/\(hP i j)<=9223372036854775807/\(∃(m:Int) (n:List Int),(3<=m/\m<=(hP i j)/\(m -(3:Int))%(2:Int)=0/\n=l++cK (List.take (Int.toNat (m -(3:Int))) (List.drop (3:Nat) (cO i j).2.2)))/\(3:Int)=m/\(0:Nat)=(0:Nat)/\List.length (ao a i)=List.length (ao a i)/\(eC a i)=(eC a i)/\j=j/\a=a/\b=b/\c=c/\d=d/\max k (aH (cO i j).2.2 (1:Int))=max k (aH (cO i j).2.2 (1:Int))/\f=f/\g=g/\h=h/\List.length (ao a i)=List.length (ao a i)/\i.length -List.length (ao a i)=i.length -List.length (ao a i)/\(cO i j).1=(cO i j).1/\(cO i j).2.1=(cO i j).2.1/\(cO i j).2.2=(cO i j).2.2/\i=i/\l=n/\True)/\ ∀(m:Int)(n:List Int),3<=m/\m<=(hP i j)/\(m -(3:Int))%(2:Int)=0/\n=l++cK (List.take (Int.toNat (m -(3:Int))) (List.drop (3:Nat) (cO i j).2.2))->ah (decide (m<(hP i j))) ((hP i
 j)<=9223372036854775807/\(n.length+List.length [aH (cO i j).2.2 m])*(8:Nat)<=(140737488355328:Nat)/\ ∃(o:Int) (p:List Int),(3<=o/\o<=(hP i j)/\(o -(3:Int))%(2:Int)=0/\p=l++cK (List.take (Int.toNat (o -(3:Int))) (List.drop (3:Nat) (cO i j).2.2)))/\Int.toNat ((hP i j) -o)<Int.toNat ((hP i j) -m)/\IntKind.wrap .i64 (m+(2:Int))=o/\(0:Nat)=(0:Nat)/\List.length (ao a i)=List.length (ao a i)/\(eC a i)=(eC a i)/\j=j/\a=a/\b=b/\c=c/\d=d/\max k (aH (cO i j).2.2 (1:Int))=max k (aH (cO i j).2.2 (1:Int))/\f=f/\g=g/\h=h/\List.length (ao a i)=List.length (ao a i)/\i.length -List.length (ao a i)=i.length -List.length (ao a i)/\(cO i j).1=(cO i j).1/\(cO i j).2.1=(cO i j).2.1/\(cO i j).2.2=(cO i j).2.2/\i=i/\n++[aH (cO i j).2.2 m]=p/\True) (∃(o:Int) (p:Int),∃(q:List Int),(0<=o/\o<=(eC a i)/\p=bz e (List.take o.toNat (ao a i))/\q=bG
 (List.take o.toNat (ao a i)))/\Int.toNat ((eC a i) -o)<Int.toNat ((eC a i) -j)/\(0:Nat)=(0:Nat)/\List.length (ao a i)=List.length (ao a i)/\(eC a i)=(eC a i)/\IntKind.wrap .i64 (j+(1:Int))=o/\i=i/\a=a/\b=b/\c=c/\d=d/\max k (aH (cO i j).2.2 (1:Int))=p/\f=f/\g=g/\h=h/\List.length (ao a i)=List.length (ao a i)/\i.length -List.length (ao a i)=i.length -List.length (ao a i)/\n=q/\True)) (List.length (ao a i)+(i.length -List.length (ao a i))=i.length/\l=bG (ao a i)/\(a,b,c,d,k,f,g,h,List.drop (List.length (ao a i)) i)=(a,b,c,d,bz e (ao a i),f,g,h,aV a i)):=by
  delta cO eC hP
  rintro now s0 s1 s2 kn s3 s4 s5 up-⟨hn,hm⟩
  obtain⟨q1,q2,q3,q4⟩:=mr now up
  rw[← q2]
  generalize ao now up=L at *
  have hmL:∀ t∈L,∃ m:Nat,t.2.2.length=3+2*m/\m<=2000:=fun t ht=>hm t (q4 t ht)
  refine⟨⟨0,kn,[],⟨by omega,by omega,rfl,rfl⟩,(by repeat' first|exact trivial|refine⟨trivial,?_⟩|refine⟨(by with_reducible rfl),?_⟩|refine⟨ad (by omega) (by omega),?_⟩|refine⟨rfl,?_⟩)⟩,?_⟩
  rintro j k nt ⟨j0,j1,rfl,rfl⟩
  refine ar (fun hj=>?_) (fun hj=>?_)
  ·have hj:=of_decide_eq_true hj
   have e:up.getD (0+j.toNat) default=L.getD j.toNat default:=by rw[Nat.zero_add];exact q3 _ (by omega)
   have hmem:=cE (xs:=L) j0 hj
   rw[e]
   obtain⟨m,hl,hm2⟩:=hmL _ hmem
   have ht:=cZ (l:=L) j0 hj
   generalize L.getD j.toNat default=T at *
   refine⟨j0,by omega,by omega,⟨3,_,⟨by omega,by omega,rfl,rfl⟩,?_⟩,?_⟩
   ·(repeat first|refine⟨trivial,?_⟩|refine⟨(by with_reducible rfl),?_⟩|refine⟨ad (by omega) (by omega),?_⟩)
    exact⟨by simp[cK],trivial⟩
   rintro a nt2 ⟨a0,a1,a2,rfl⟩
   have hh:=mR (l:=L.take j.toNat) fun t ht=>hmL t (List.mem_of_mem_take ht)
   have hlt:(L.take j.toNat).length<=L.length:=by rw[List.length_take];omega
   refine ar (fun ha=>?_) (fun ha=>?_)
   ·have ha:=of_decide_eq_true ha
    obtain⟨q,hq⟩:∃ q:Nat,a=3+2*(q:Int):=⟨((a-3)/2).toNat,by omega⟩
    subst hq
    have hp:=oz _ ((T.2.2.drop 3).take (3+2*(q:Int)-3).toNat) (Nat.le_refl _)
    have e1:(3+2*(q:Int)-3).toNat=2*q:=by omega
    have e2:(3+2*(q:Int)+2-3).toNat=2*q+2:=by omega
    have e3:(3+2*(q:Int))=((3+2*q:Nat):Int):=by omega
    have e4:aH T.2.2 (3+2*(q:Int))=(T.2.2.drop 3).getD (2*q) 0*256+(T.2.2.drop 3).getD (2*q+1) 0:=by
     rw[e3,qc (by omega),← List.drop_drop]
     simp only[List.getD_eq_getElem?_getD,List.getElem?_drop,Nat.add_zero]
    refine⟨by omega,?_,3+2*(q:Int)+2,_,⟨by omega,by omega,by omega,rfl⟩,by omega,?_⟩
    ·rw[List.length_append,hp,List.length_singleton,List.length_take,List.length_drop];omega
    ·(repeat first|refine⟨trivial,?_⟩|refine⟨(by with_reducible rfl),?_⟩|refine⟨ad (by omega) (by omega),?_⟩)
     exact⟨by rw[e1,e2,e4,rJ q (by rw[List.length_drop];omega),List.append_assoc],trivial⟩
   ·have ha:=of_decide_eq_false ha
    have w1:max (bz kn (L.take j.toNat)) (aH T.2.2 1)=bz kn (L.take (j+1).toNat):=by rw[ht,wc]
    have w2:bG (L.take j.toNat)++cK ((T.2.2.drop 3).take (a-3).toNat)=bG (L.take (j+1).toNat):=by rw[ht,te,List.take_of_length_le (l:=T.2.2.drop 3) (by rw[List.length_drop];omega)]
    rw[w1,w2]
    exact⟨j+1,_,_,⟨by omega,by omega,rfl,rfl⟩,by omega,(by repeat' first|exact trivial|refine⟨trivial,?_⟩|refine⟨(by with_reducible rfl),?_⟩|refine⟨ad (by omega) (by omega),?_⟩|refine⟨rfl,?_⟩)⟩
  ·have hj:=of_decide_eq_false hj
   have e:j.toNat=L.length:=by omega
   rw[e,List.take_length]
   exact⟨by omega,rfl,rfl⟩
theorem yw:aC Try.prog GL 55 sF.spec:=Ct.okH _ Try.func55 (by kernel_rfl) (vC (av (av aP EN) mL) (d:=43) (p:=1048576) (off:=8)) ay zk (aO (by kernel_rfl) CQ)
def fx(c:ai)(up:List bd)(x:Int):List Int:=(dU x (min ((ae c).length:Int) (aB c up+am c))).filter fun i => !(bG (dq c up)).contains i
theorem wE{now d:Int}{b:List Int}:∀(n:Nat)(k:Int){o:Int}{l:List af},cG now o l->o+n<=1000000000000000->cG now (bv now d b n k (o,l)).1 (bv now d b n k (o,l)).2/\(bv now d b n k (o,l)).1<=o+n
 | 0,k,o,l,h,_=>⟨h,by show o<=_;omega⟩
 | n+1,k,o,l,h,hb=>by
  rw[bv]
  dsimp only
  split
  ·rename_i hl
   obtain⟨k1,k2⟩:=wE (now:=now) (d:=d) (b:=b) n (k+1) (o:=o+1) (l:=bY l (now+1+d+k,o,b)) (h.next (by omega) hl) (by omega)
   exact⟨k1,by omega⟩
  ·exact⟨h,by show o<=_;omega⟩
theorem xi{now:Int}{b:List Int}{f:bd}(hf:f7 f){o:Int}{l:List af}(h:cG now o l)(ho:o<=900000000000000):cG now (bf now b f (o,l)).1 (bf now b f (o,l)).2/\(bf now b f (o,l)).1<=o+9:=by
 unfold bf
 obtain⟨f1,f2⟩:=hf
 split
 ·exact⟨h,by show o<=_;omega⟩
 ·obtain⟨k1,k2⟩:=wE (now:=now) (d:=f.2.1) (b:=b) (f.2.2+1).toNat 0 h (by omega)
  exact⟨k1,by omega⟩
theorem vX{x b:Int}(h:x<b):dU x b=x::dU (x+1) b:=by
 unfold dU
 obtain⟨n,hn⟩:∃ n,(b-x).toNat=n+1:=⟨(b-x).toNat-1,by omega⟩
 rw[hn,show (b-(x+1)).toNat=n by omega,List.range_succ_eq_map,List.map_cons,List.map_map]
 congr 1
 ·simp
 ·apply List.map_congr_left
  intro k _
  simp only[Function.comp_apply,Nat.succ_eq_add_one]
  omega
theorem v9{x b:Int}(h:¬ x<b):dU x b=[]:=by
 unfold dU
 rw[show (b-x).toNat=0 by omega];rfl
theorem sP:∀{l:List Int}{lo hi:Int},l.Pairwise (fun a b=>a<b)->(∀ x∈l,lo<=x/\x<hi)->(l.length:Int)<=max 0 (hi-lo)
 | [],lo,hi,_,_=>by simp;omega
 | x::r,lo,hi,hs,hb=>by
  obtain⟨s1,s2⟩:=List.pairwise_cons.1 hs
  have hx:=hb x List.mem_cons_self
  have:=sP (l:=r) (lo:=x+1) (hi:=hi) s2 fun y hy=>⟨by have:=s1 y hy;omega,(hb y (List.mem_cons_of_mem _ hy)).2⟩
  rw[List.length_cons];omega
theorem pP{log:List (List Int)}{s:List (List Int)×List aw}{t:af}(h:fc log s t)(hl:log.length<=1024):∃ m:Nat,t.2.2.length=3+2*m/\m<=2000:=by
 obtain⟨g,es,h1,h2,h3,h4⟩:=h
 refine⟨es.length,by rw[h1,kV],?_⟩
 have:=sP (lo:=0) (hi:=1024) h3 fun x hx=>by have:=(h4 x hx).1;omega
 omega
theorem cH.so{now n1 ord:Int}{l:List af}(h:cH now ord l)(h1:0<=n1/\n1<=2000000000000)(h2:0<=ord/\ord<=1000000000000000):cG n1 ord l:=⟨h1,h2,h.s,fun x hx=>(h.r x hx).2.2,h.n⟩
theorem XI.parts{c:ai}(h:XI c){up:List bd}(hu:dC up):(cH (ab c) (aq c up).1 (aq c up).2/\a7 c<=(aq c up).1/\(aq c up).1<=a7 c+9∧∀ t∈(aq c up).2,fc (ae c) (aM c) t)/\0<=aB c up/\aB c up<=1024:=by
 obtain⟨r1,r2,r3,r4⟩:=j7 h.log (l:=ao (ab c+1) (aJ c)) h.rc fun t ht=>h.dd t (jz ht).1
 have eG:aM c=bV (aA c+am c) (ao (ab c+1) (aJ c)) (aG c,aF c):=rfl
 rw[← eG] at r1 r2 r3 r4
 have r2:(aG c).length<=(aM c).1.length:=r2
 have hgl:=r1.n
 have hlog:=h.log
 have hkn:=h.kn
 have aU:cH (ab c) (aq c up).1 (aq c up).2/\a7 c<=(aq c up).1/\(aq c up).1<=a7 c+9∧∀ t∈(aq c up).2,fc (ae c) (aM c) t:=by
  have old:∀ t∈ba c,fc (ae c) (aM c) t:=fun t ht=>(h.ud t ht).more r2 r3
  unfold aq
  split
  ·exact⟨h.up,Int.le_refl _,by show a7 c<=_;omega,old⟩
  ·obtain⟨k1,k2,k3,k4,-⟩:=nX (n0:=ab c) (now:=ab c+1) (b:=bq ((aM c).1.length:Int) ((aM c).2.map (·.1))) ⟨by omega,by omega⟩ (iW hu 0) h.ord h.up
   refine⟨k1,k2,k3,fun t ht=>?_⟩
   rcases k4 t ht with q|q
   ·exact old t q
   ·refine⟨_,_,q,⟨by omega,Int.le_refl _⟩,?_,fun e he=>?_⟩
    ·rw[List.pairwise_map];exact r1.e.s
    ·obtain⟨x,hx,rfl⟩:=List.mem_map.1 he
     exact⟨(r1.e.r x hx).1,.inr ⟨x,hx,rfl⟩⟩
 obtain⟨n1,n2⟩:=oT (log:=ae c) (s:=aM c) (by omega) (l:=dq c up) (k:=aA c) hkn.1 (by omega) fun t ht=>aU.2.2.2 t (jz ht).1
 have n1:aA c<=aB c up:=n1
 have n2:aB c up<=(aM c).1.length:=n2
 exact⟨aU,by omega,by omega⟩
def th:Ct:=⟨[.box 28 sr,.val (.sl dI),.val (.sl dI)],[],fun d=>[XR d.1,ab d.1<1099511627776,dC d.2.1,dC d.2.2.1],fun d=>((),(bh d.1 d.2.1 d.2.2.1,()))⟩
def Bu:az th.ps->aI:=(fun d=>{loops:=(fun n=>match n with|5=>some (fun S=>{ι:=Int×Int×Int×(List af),qn:=⟨fun k_=>∀(x:Int)(i:Int)(o:Int)(dn:(List af)),k_ (x,i,o,dn),fun k_ h_ i=>h_ i.1 i.2.1 i.2.2.1 i.2.2.2,fun k_=>∃ (x:Int) (i:Int) (o:Int) (dn:(List af)),k_ (x,i,o,dn),fun k_ ⟨x,i,o,dn,h_⟩=>⟨_,h_⟩⟩,μ:=fun i=>(aB d.1 d.2.2.1+am d.1-i.1).toNat,inv:=fun i=>aB d.1 d.2.2.1<=i.1/\0<=i.2.1/\i.2.1<=i.1-aB d.1 d.2.2.1/\cG (ab d.1+1) i.2.2.1 i.2.2.2/\i.2.2.1<=(aq d.1 d.2.2.1).1+9*i.2.1/\i.1<=aB d.1 d.2.2.1+am d.1/\bT (ab d.1+1) (ae d.1) d.2.1 (fx d.1 d.2.2.1 i.1) i.2.1.toNat (i.2.2.1,i.2.2.2)=cF d.1 d.2.1 d.2.2.1,keep:=[0,1,6],slots:=fun i=>[(8,.int .i64 i.1),(7,.int .i64 i.2.1)],keepN:=[2097152,304,305,337,336],names:=fun i=>[(1048576,.live (.cells 28 [.int .i64 (ab d.1+1),.int .i64 i.2.2.1,.int .i64 (am d.1),.own 2097152 1,.int .i64 (aB d.1 d.2.2.1),.own 304 1,.own 305 2,.own 524288 3,.own 337 3])),(524288,.live (.row 53 a9 i.2.2.2))]})|_=>none)})
def bI(a:Int) :=
 IntKind.wrap .i64 (a+(1:Int))
def df(a b c e:Int)(f:List (List Int))(g:List (Int×List Int))(h i:List (Int×Int×List Int))(k:List (Bool×Int×Int)) :=
 hZ (bI a) b (bk (bI a) (e+c) h f g) h i k
def qq(a b c:Int)(d:List (List Int))(e:Int)(f:List (List Int))(g:List (Int×List Int))(h i:List (Int×Int×List Int))(j k:List (Bool×Int×Int))(p q r:Int)(s:List af) :=
 aB (a,b,c,d,e,f,g,h,i) k<=p/\0<=q/\q<=p -aB (a,b,c,d,e,f,g,h,i) k/\cG (ab (a,b,c,d,e,f,g,h,i)+(1:Int)) r s/\r<=(aq (a,b,c,d,e,f,g,h,i) k).1+(9:Int)*q/\p<=aB (a,b,c,d,e,f,g,h,i) k+am (a,b,c,d,e,f,g,h,i)/\bT (ab (a,b,c,d,e,f,g,h,i)+(1:Int)) (ae (a,b,c,d,e,f,g,h,i)) j (fx (a,b,c,d,e,f,g,h,i) k p) q.toNat (r,s)=cF (a,b,c,d,e,f,g,h,i) j k
def rg(a b c:Int)(d:List (List Int))(e:Int)(f:List (List Int))(g:List (Int×List Int))(h i:List (Int×Int×List Int))(j k:List (Bool×Int×Int))(l m n:Int)(o:List af) :=
 0<=m/\m<=l -aB (a,b,c,d,e,f,g,h,i) k/\cG (ab (a,b,c,d,e,f,g,h,i)+(1:Int)) n o/\n<=(aq (a,b,c,d,e,f,g,h,i) k).1+(9:Int)*m/\l<=aB (a,b,c,d,e,f,g,h,i) k+am (a,b,c,d,e,f,g,h,i)/\bT (ab (a,b,c,d,e,f,g,h,i)+(1:Int)) (ae (a,b,c,d,e,f,g,h,i)) j (fx (a,b,c,d,e,f,g,h,i) k l) m.toNat (n,o)=cF (a,b,c,d,e,f,g,h,i) j k
theorem yA :
 ∀(a b c:Int)(d:List (List Int))(e:Int)(f:List (List Int))(g:List (Int×List Int))(h i:List (Int×Int×List Int))(j k:List (Bool×Int×Int)),(ak a/\ak b/\ak c/\(d.length<=maxLen/\ ∀(l:List Int),l∈d->l.length<=maxLen/\ ∀(m:Int),m∈l->0<=m/\m<=255)/\ak e/\(f.length<=maxLen/\ ∀(l:List Int),l∈f->l.length<=maxLen/\ ∀(m:Int),m∈l->0<=m/\m<=255)/\(g.length<=maxLen/\ ∀(l:Int×List Int),l∈g->ak l.1/\l.2.length<=maxLen/\ ∀(m:Int),m∈l.2->0<=m/\m<=255)/\(h.length<=maxLen/\ ∀(l:Int×Int×List Int),l∈h->ak l.1/\ak l.2.1/\l.2.2.length<=maxLen/\ ∀(m:Int),m∈l.2.2->0<=m/\m<=255)/\i.length<=maxLen/\ ∀(l:Int×Int×List Int),l∈i->ak l.1/\ak l.2.1/\l.2.2.length<=maxLen/\ ∀(m:Int),m∈l.2.2->0<=m/\m<=255)/\(j.length<=maxLen/\ ∀(l:Bool×Int×Int),l∈j->True/\ak l.2.1/\ak l.2.2)/\(k.length<=maxLen/\ ∀(l:Bool×Int×Int),l∈k->True/\ak l.2.1/\ak l.2.2)/\True->(XR (a,b,c,d,e,f,g,h,i)/\ab
 (a,b,c,d,e,f,g,h,i)<1099511627776/\dC j/\ ∀(l:bd),l∈k->(0<=l.2.1/\l.2.1<=1000)/\0<=l.2.2/\l.2.2<=8)->(∃(l:List (List Int)),mP (bI a) b c e f g h i k l)/\List.length (df a b c e f g h i k).2<=(4096:Nat)/\(∀(l:Int×Int×List Int),l∈(df a b c e f g h i k).2-> ∃(m:Nat),l.2.2.length=(3:Nat)+(2:Nat)*m/\m<=(2000:Nat))/\(∃(l:Int) (m:Int),∃(n:Int) (o:List af),(aB (a,b,c,d,e,f,g,h,i) k<=l/\(rg a b c d e f g h i j k l m n o))/\j=j/\(0:Int)=m/\bz e (ao (bI a) (df a b c e f g h i k).2)=l/\d=d/\(bk (bI a) (e+c) h f g).1=(bk (bI a) (e+c) h f g).1/\(bk (bI a) (e+c) h f g).2=(bk (bI a) (e+c) h f g).2/\aV (bI a) (df a b c e f g h i k).2=aV (bI a) (df a b c e f g h i k).2/\bG (ao (bI a) (df a b c e f g h i k).2)=bG (ao (bI a) (df a b c e f g h i k).2)/\IntKind.wrap .i64 (a+(1:Int))=ab (a,b,c,d,e,f,g,h,i)+(1:Int)/\(df a b c e
 f g h i k).1=n/\c=am (a,b,c,d,e,f,g,h,i)/\bz e (ao (bI a) (df a b c e f g h i k).2)=aB (a,b,c,d,e,f,g,h,i) k/\aV (bI a) h=o/\True)/\ ∀(l m n:Int)(o:List af),aB (a,b,c,d,e,f,g,h,i) k<=l/\(rg a b c d e f g h i j k l m n o)->ah (decide (l<min (d.length:Int) (IntKind.wrap .i64 (aB (a,b,c,d,e,f,g,h,i) k+am (a,b,c,d,e,f,g,h,i))))) (ah (decide (l∈bG (ao (bI a) (df a b c e f g h i k).2))) (∃(p:Int) (q:Int),∃(r:Int) (s:List af),(qq a b c d e f g h i j k p q r s)/\Int.toNat (aB (a,b,c,d,e,f,g,h,i) k+am (a,b,c,d,e,f,g,h,i) -p)<Int.toNat (aB (a,b,c,d,e,f,g,h,i) k+am (a,b,c,d,e,f,g,h,i) -l)/\j=j/\m=q/\IntKind.wrap .i64 (l+(1:Int))=p/\d=d/\(bk (bI a) (e+c) h f g).1=(bk (bI a) (e+c) h f g).1/\(bk (bI a) (e+c) h f g).2=(bk (bI a) (e+c) h f g).2/\aV (bI a) (df a b c e f g h i k).2=aV (bI a) (df a b c e f g h i
 k).2/\bG (ao (bI a) (df a b c e f g h i k).2)=bG (ao (bI a) (df a b c e f g h i k).2)/\ab (a,b,c,d,e,f,g,h,i)+(1:Int)=ab (a,b,c,d,e,f,g,h,i)+(1:Int)/\n=r/\am (a,b,c,d,e,f,g,h,i)=am (a,b,c,d,e,f,g,h,i)/\aB (a,b,c,d,e,f,g,h,i) k=aB (a,b,c,d,e,f,g,h,i) k/\o=s/\True) (0<=l/\l<(d.length:Int)/\0<=l/\((List.length (d.getD l.toNat default)):Int)<=1000000/\cG (ab (a,b,c,d,e,f,g,h,i)+(1:Int)) n o/\n<=900000000000000/\f7 (bj j m.toNat)/\0<=m/\((List.length (bF l (d.getD l.toNat default))):Int)<=1000000/\ ∃(p:Int) (q:Int),∃(r:Int) (s:List af),(qq a b c d e f g h i j k p q r s)/\Int.toNat (aB (a,b,c,d,e,f,g,h,i) k+am (a,b,c,d,e,f,g,h,i) -p)<Int.toNat (aB (a,b,c,d,e,f,g,h,i) k+am (a,b,c,d,e,f,g,h,i) -l)/\j=j/\IntKind.wrap .i64 (m+(1:Int))=q/\IntKind.wrap .i64 (l+(1:Int))=p/\d=d/\(bk (bI a) (e+c) h f g).1=(bk (bI a) (e+c) h f g).1/\(bk (bI
 a) (e+c) h f g).2=(bk (bI a) (e+c) h f g).2/\aV (bI a) (df a b c e f g h i k).2=aV (bI a) (df a b c e f g h i k).2/\bG (ao (bI a) (df a b c e f g h i k).2)=bG (ao (bI a) (df a b c e f g h i k).2)/\ab (a,b,c,d,e,f,g,h,i)+(1:Int)=ab (a,b,c,d,e,f,g,h,i)+(1:Int)/\(bf (ab (a,b,c,d,e,f,g,h,i)+(1:Int)) (bF l (d.getD l.toNat default)) (bj j m.toNat) (n,o)).1=r/\am (a,b,c,d,e,f,g,h,i)=am (a,b,c,d,e,f,g,h,i)/\aB (a,b,c,d,e,f,g,h,i) k=aB (a,b,c,d,e,f,g,h,i) k/\(bf (ab (a,b,c,d,e,f,g,h,i)+(1:Int)) (bF l (d.getD l.toNat default)) (bj j m.toNat) (n,o)).2=s/\True)) ((ab (a,b,c,d,e,f,g,h,i)+(1:Int),n,am (a,b,c,d,e,f,g,h,i),d,aB (a,b,c,d,e,f,g,h,i) k,(bk (bI a) (e+c) h f g).1,(bk (bI a) (e+c) h f g).2,o,aV (bI a) (df a b c e f g h i k).2)=bh (a,b,c,d,e,f,g,h,i) j k):=by
  delta bI df qq rg
  rintro now ord win log kn got ear dn up ds us-⟨⟨hx,hor⟩,hnow,hd,hu⟩
  have hu:dC us:=hu
  obtain⟨⟨pu1,pu2,pu3,pu4⟩,pk1,pk2⟩:=hx.parts hu
  have n0:0<=now:=hx.now
  have hnow:now<1099511627776:=hnow
  have o0:0<=ord:=hx.ord
  have hor:ord<=585*now:=hor
  have hwin:1<=win/\win<=64:=hx.win
  have hlog:log.length<=1024:=hx.log
  have hkn:0<=kn/\kn<=got.length:=hx.kn
  have hgl:got.length<=log.length:=hx.rc.n
  have pu2:ord<=(aq (now,ord,win,log,kn,got,ear,dn,up) us).1:=pu2
  have pu3:(aq (now,ord,win,log,kn,got,ear,dn,up) us).1<=ord+9:=pu3
  rw[ad (n:=now+1) (by omega) (by omega)]
  have eG:bk (now+1) (kn+win) dn got ear=aM (now,ord,win,log,kn,got,ear,dn,up):=rfl
  have eU:hZ (now+1) ord (bk (now+1) (kn+win) dn got ear) dn up us=aq (now,ord,win,log,kn,got,ear,dn,up) us:=rfl
  rw[eU,eG]
  have eH:ao (now+1) (aq (now,ord,win,log,kn,got,ear,dn,up) us).2=dq (now,ord,win,log,kn,got,ear,dn,up) us:=rfl
  have eK:bz kn (dq (now,ord,win,log,kn,got,ear,dn,up) us)=aB (now,ord,win,log,kn,got,ear,dn,up) us:=rfl
  rw[eH,eK]
  have eW:am (now,ord,win,log,kn,got,ear,dn,up)=win:=rfl
  have eN:ab (now,ord,win,log,kn,got,ear,dn,up)=now:=rfl
  have eL:ae (now,ord,win,log,kn,got,ear,dn,up)=log:=rfl
  rw[eW,eN,eL]
  have hfin:∀ o dn',(o,dn')=cF (now,ord,win,log,kn,got,ear,dn,up) ds us->((now+1,o,win,log,aB (now,ord,win,log,kn,got,ear,dn,up) us,(aM (now,ord,win,log,kn,got,ear,dn,up)).1,(aM (now,ord,win,log,kn,got,ear,dn,up)).2,dn',aV (now+1) (aq (now,ord,win,log,kn,got,ear,dn,up) us).2):ai)=bh (now,ord,win,log,kn,got,ear,dn,up) ds us:=fun o dn' he=>by
   show _=((now+1,(cF (now,ord,win,log,kn,got,ear,dn,up) ds us).1,win,log,aB (now,ord,win,log,kn,got,ear,dn,up) us,(aM (now,ord,win,log,kn,got,ear,dn,up)).1,(aM (now,ord,win,log,kn,got,ear,dn,up)).2,(cF (now,ord,win,log,kn,got,ear,dn,up) ds us).2,aV (now+1) (aq (now,ord,win,log,kn,got,ear,dn,up) us).2):ai)
   rw[← he]
  have hD:bT (now+1) log ds (fx (now,ord,win,log,kn,got,ear,dn,up) us (aB (now,ord,win,log,kn,got,ear,dn,up) us)) 0 ((aq (now,ord,win,log,kn,got,ear,dn,up) us).1,aV (now+1) dn)=cF (now,ord,win,log,kn,got,ear,dn,up) ds us:=rfl
  have hR:∀ x,fx (now,ord,win,log,kn,got,ear,dn,up) us x=(dU x (min (log.length:Int) (aB (now,ord,win,log,kn,got,ear,dn,up) us+win))).filter fun i => !(bG (dq (now,ord,win,log,kn,got,ear,dn,up) us)).contains i:=fun x=>rfl
  have hdn0:=(nE (now:=now+1) (by rw[eN];omega) hx.dn).more pu2
  have hdn0:cH (now+1) (aq (now,ord,win,log,kn,got,ear,dn,up) us).1 (aV (now+1) dn):=hdn0
  have hrc:mP (now+1) ord win kn got ear dn up us log:=⟨hx.rc,hlog,hx.it,hx.dd,by omega,hwin,hx.up.so (by omega) ⟨o0,by show ord<=_;omega⟩,by omega,iW hu 0,hx.dn.n⟩
  have hit:=hx.it
  rw[eL] at hit
  have hodd:∀ t∈(aq (now,ord,win,log,kn,got,ear,dn,up) us).2,∃ m:Nat,t.2.2.length=3+2*m/\m<=2000:=fun t ht=>pP (pu4 t ht) hlog
  have hun:=pu1.n
  generalize aq (now,ord,win,log,kn,got,ear,dn,up) us=U at *
  generalize dq (now,ord,win,log,kn,got,ear,dn,up) us=H at *
  generalize aB (now,ord,win,log,kn,got,ear,dn,up) us=K at *
  generalize fx (now,ord,win,log,kn,got,ear,dn,up) us=R at *
  generalize cF (now,ord,win,log,kn,got,ear,dn,up) ds us=D at *
  refine⟨⟨log,hrc⟩,hun,hodd,⟨K,0,U.1,aV (now+1) dn,⟨by omega,by omega,by omega,hdn0.so (by omega) (by omega),by omega,by omega,hD⟩,(by repeat' first|exact trivial|refine⟨trivial,?_⟩|refine⟨(by with_reducible rfl),?_⟩|refine⟨ad (by omega) (by omega),?_⟩|refine⟨rfl,?_⟩)⟩,?_⟩
  rintro x i o dn' ⟨x0,i0,i1,hs,ho,x1,he⟩
  rw[ad (n:=K+win) (by omega) (by omega)]
  refine ar (fun hb=>?_) (fun hb=>?_)
  ·have hb:=of_decide_eq_true hb
   have hlt:x<log.length:=by omega
   have hcons:=vX hb
   refine ar (fun hm=>?_) (fun hm=>?_)
   ·have hm:=of_decide_eq_true hm
    refine⟨x+1,i,o,dn',⟨by omega,i0,by omega,hs,ho,by omega,?_⟩,by omega,(by repeat' first|exact trivial|refine⟨trivial,?_⟩|refine⟨(by with_reducible rfl),?_⟩|refine⟨ad (by omega) (by omega),?_⟩|refine⟨rfl,?_⟩)⟩
    rw[← he,hR,hR,hcons,List.filter_cons_of_neg (by simpa using hm)]
   ·have hm:=of_decide_eq_false hm
    have hf:=iW hd i.toNat
    have hil:=hit _ (cE (xs:=log) (i:=x) (by omega) hlt)
    obtain⟨s1,s2⟩:=xi (b:=bF x (log.getD x.toNat default)) hf hs (by omega)
    refine⟨by omega,hlt,by omega,by omega,hs,by omega,hf,i0,by rw[nZ];omega,x+1,i+1,(bf (now+1) (bF x (log.getD x.toNat default)) (bj ds i.toNat) (o,dn')).1,(bf (now+1) (bF x (log.getD x.toNat default)) (bj ds i.toNat) (o,dn')).2,⟨by omega,by omega,by omega,s1,by omega,by omega,?_⟩,by omega,(by repeat' first|exact trivial|refine⟨trivial,?_⟩|refine⟨(by with_reducible rfl),?_⟩|refine⟨ad (by omega) (by omega),?_⟩|refine⟨rfl,?_⟩)⟩
    rw[← he,hR x,hR,hcons,List.filter_cons_of_pos (by simpa using hm),show (i+1).toNat=i.toNat+1 by omega]
    rfl
  ·have hb:=of_decide_eq_false hb
   refine hfin o dn' ?_
   rw[← he,hR,v9 hb]
   rfl
theorem vh:aC Try.prog GL 33 th.spec:=Ct.okH _ Try.func33 (by kernel_rfl) (av (av (av (av (av aP DB) yw) BP) vx) wP) ay Bu (aO (by kernel_rfl) yA)
end Go.RS

/- Xw4: the program's exchange: new channels, items, ticks. -/
namespace Go.RS
open Go.SX Go.Proofs
set_option maxRecDepth 100000
set_option linter.unusedVariables false
def dK{α:Type}(q:α->Bool)(l:List α):Int:=if l.findIdx q<l.length then (l.findIdx q:Int) else -1
theorem nY{α:Type}{q:α->Bool}{l:List α}:decide (0<=dK q l)=l.any q:=by
 unfold dK
 cases h:l.any q with
 | true =>
  rw[if_pos (List.findIdx_lt_length_of_exists (by simpa using h))]
  exact decide_eq_true (by omega)
 | false =>
  have:l.findIdx q=l.length:=List.findIdx_eq_length_of_false (by simpa using h)
  rw[if_neg (by omega)];rfl
def wO:Ct:=⟨[.val cI],[.agg aQ,.val cI],fun _=>[],fun d=>((fm d.1,dk d.1,()),())⟩
def yq:az wO.ps->aI:=(fun _=>{})
def gZ :=
 ((0:Int),(0:Int),(0:Int),([]:List (List Int)),(0:Int),([]:List (List Int)),([]:List (Int×List Int)),([]:List (Int×Int×List Int)),([]:List (Int×Int×List Int)))
theorem yc :
 ∀(a:Int),ak a/\True->True-> ∀(b:Bool),b=decide (a<1)->((! b)->((! b)->(! b))/\True)/\(b=false->(! b))/\ah (bif b then true else decide (64<a)) ((gZ)=fm a/\(1:Int)=dk a) (((0:Int),(0:Int),a,([]:List (List Int)),(0:Int),([]:List (List Int)),([]:List (Int×List Int)),([]:List (Int×Int×List Int)),([]:List (Int×Int×List Int)))=fm a/\(0:Int)=dk a):=by
  delta gZ
  rintro w - -
  (repeat (intro (b_:Bool) (hb_:b_=_);(repeat refine⟨(by first|(simp;done)|(rw[hb_];simp;done)|(rw[hb_];simp;omega)|(rw[hb_];simp;intros;omega)|(rw[hb_];simp +contextual;done)),?_⟩);subst hb_))
  refine iz (fun h=>?_) (fun h1 h2=>?_)
  ·have e:dk w=1:=by unfold dk;rw[if_pos (by rcases h with q|q;exact .inl (of_decide_eq_true q);exact .inr (of_decide_eq_true q))]
   unfold fm
   rw[e]
   exact⟨rfl,rfl⟩
  ·have h1:=of_decide_eq_false h1
   have h2:=of_decide_eq_false h2
   have e:dk w=0:=by unfold dk;rw[if_neg (by omega)]
   unfold fm
   rw[e]
   exact⟨rfl,rfl⟩
theorem uA:aC Try.prog GL 16 wO.spec:=Ct.okH _ Try.func16 (by kernel_rfl) aP ay yq (aO (by kernel_rfl) yc)
def vz:Ct:=⟨[.val cI,.val cI],[.val cI],fun _=>[],fun d=>((fl d.1 d.2.1,()),())⟩
def z4:az vz.ps->aI:=(fun _=>{})
theorem yz :
 ∀(a b:Int),ak a/\ak b/\True->True-> ∀(c:Bool),c=decide (a<0)->((! c)->((! c)->(! c))/\True)/\(c=false->(! c))/\ ∀(d:Bool),(d=bif c then true else decide (1024<a))->((! d)->((! d)->(! d))/\True)/\(d=false->(! d))/\ ∀(e:Bool),(e=bif d then true else decide (b<1))->((! e)->((! e)->(! e))/\True)/\(e=false->(! e))/\ah (bif e then true else decide (64<b)) ((0:Int)=fl a b) (b≠(0:Int)/\IntKind.wrap .i64 (IntKind.wrap .i64 ((4:Int)*IntKind.wrap .i64 (IntKind.wrap .i64 (Int.tdiv a b)+(2:Int)))+(2000:Int))=fl a b):=by
  rintro n w - -
  (repeat (intro (b_:Bool) (hb_:b_=_);(repeat refine⟨(by first|(simp;done)|(rw[hb_];simp;done)|(rw[hb_];simp;omega)|(rw[hb_];simp;intros;omega)|(rw[hb_];simp +contextual;done)),?_⟩);subst hb_))
  refine ar (fun h=>?_) (fun h=>?_)
  ·have h:n<0∨1024<n∨w<1∨64<w:=by
    simp only[Bool.cond_true_left,Bool.or_eq_true,decide_eq_true_eq] at h
    omega
   unfold fl
   rw[if_pos h]
  ·have h:¬ (n<0∨1024<n∨w<1∨64<w):=by
    simp only[Bool.cond_true_left,Bool.or_eq_false_iff,decide_eq_false_iff_not] at h
    omega
   have hq:0<=n/w/\n/w<=n:=⟨Int.ediv_nonneg (by omega) (by omega),Int.ediv_le_self _ (by omega)⟩
   have ht:Int.tdiv n w=n/w:=Int.tdiv_eq_ediv_of_nonneg (by omega)
   refine⟨by omega,?_⟩
   unfold fl
   rw[if_neg h,ht,ad (n:=n/w) (by omega) (by omega),ad (n:=n/w+2) (by omega) (by omega),ad (n:=4*(n/w+2)) (by omega) (by omega),ad (by omega) (by omega)]
theorem BJ:aC Try.prog GL 13 vz.spec:=Ct.okH _ Try.func13 (by kernel_rfl) aP ay z4 (aO (by kernel_rfl) yz)
def uK:Ct:=⟨[.agg aQ],[.val .bool],fun _=>[],fun d=>((fL d.1,()),())⟩
def BX:az uK.ps->aI:=(fun _=>{})
theorem yr :
 ∀(a:Int×Int×Int×List (List Int)×Int×List (List Int)×List (Int×List Int)×List (Int×Int×List Int)×List (Int×Int×List Int)),CT.wf aQ a/\True->True-> ∀(b:Bool),b=decide ((a.2.2.2.2.2.1.length:Int)=(a.2.2.2.1.length:Int))->(b->(b->b)/\True)/\(b->(b->b)/\True)/\(b->(b->b)/\True)/\(b->(b->b)/\(b->b)/\True)/\(b->b)/\(bif b then decide (a.2.2.2.2.1=(a.2.2.2.1.length:Int)) else false)=fL a:=by
  rintro c - -
  (repeat (intro (b_:Bool) (hb_:b_=_);(repeat refine⟨(by first|(simp;done)|(rw[hb_];simp;done)|(rw[hb_];simp;omega)|(rw[hb_];simp;intros;omega)|(rw[hb_];simp +contextual;done)),?_⟩);subst hb_))
  have e:fL c=(decide (c.2.2.2.2.2.1.length=c.2.2.2.1.length)&&decide (c.2.2.2.2.1=(c.2.2.2.1.length:Int))):=rfl
  rw[e]
  by_cases h:c.2.2.2.2.2.1.length=c.2.2.2.1.length
  ·rw[decide_eq_true h,decide_eq_true (by omega)];rfl
  ·rw[decide_eq_false h,decide_eq_false (by omega)];rfl
theorem zo:aC Try.prog GL 14 uK.spec:=Ct.okH _ Try.func14 (by kernel_rfl) aP ay BX (aO (by kernel_rfl) yr)
def sj:Ct:=⟨[.agg dI],[.val .bool],fun _=>[],fun d=>((!bP d.1,()),())⟩
def Ez:az sj.ps->aI:=(fun _=>{})
theorem zu :
 ∀(a:Bool)(b c:Int),(True/\ak b/\ak c)/\True->True-> ∀(d:Bool),d=decide (b<0)->((! d)->((! d)->(! d))/\True)/\((! d)->((! d)->(! d))/\True)/\(d=false->(! d))/\ ∀(e:Bool),(e=bif d then true else decide (1000<b))->((! e)->((! e)->(! e))/\True)/\((! e)->((! e)->(! e))/\True)/\(e=false->(! e))/\ ∀(f:Bool),(f=bif e then true else decide (c<0))->((! f)->((! f)->(! f))/\True)/\((! f)->((! f)->(! f))/\True)/\(f=false->(! f))/\(bif f then true else decide (8<c))= ! bP (a,b,c):=by
  rintro a x y - -
  (repeat (intro (b_:Bool) (hb_:b_=_);(repeat refine⟨(by first|(simp;done)|(rw[hb_];simp;done)|(rw[hb_];simp;omega)|(rw[hb_];simp;intros;omega)|(rw[hb_];simp +contextual;done)),?_⟩);subst hb_))
  have e:bP (a,x,y)=decide (0<=x/\x<=1000/\0<=y/\y<=8):=rfl
  rw[e,lS,lS,lS,vf]
  exact decide_eq_decide.2 (by omega)
theorem yB:aC Try.prog GL 60 sj.spec:=Ct.okH _ Try.func60 (by kernel_rfl) aP ay Ez (aO (by kernel_rfl) zu)
def vI:Ct:=⟨[.val (.sl dI),.fn 60 0],[.val cI],fun _=>[],fun d=>((dK (fun f => !bP f) d.1,()),())⟩
def zU:az vI.ps->aI:=(fun d=>{loops:=(fun n=>match n with|2=>some (fun S=>{ι:=Int,μ:=fun i=>(d.1.length-i).toNat,inv:=fun i=>0<=i/\i<=d.1.length∧∀ x∈d.1.take i.toNat,(!bP x)=false,keep:=[0,1,6,7],slots:=fun i=>[(8,.int .i64 i)],names:=fun i=>[]})|_=>none)})
def kT(a:List (Bool×Int×Int)) :=
 a.length<=maxLen/\ ∀(b:Bool×Int×Int),b∈a->True/\ak b.2.1/\ak b.2.2
theorem EW :
 ∀(a:List (Bool×Int×Int)),(kT a)/\True/\True->True->(∃(b:Int),(0<=b/\b<=(a.length:Int)/\ ∀(c:Bool×Int×Int),c∈List.take b.toNat a->(! bP c)=false)/\a=a/\a=a/\(a.length:Int)=(a.length:Int)/\(0:Int)=b/\True)/\ ∀(b:Int),(0<=b/\b<=(a.length:Int)/\ ∀(c:Bool×Int×Int),c∈List.take b.toNat a->(! bP c)=false)->ah (decide (b<(a.length:Int))) (0<=b/\b<(a.length:Int)/\ah (! bP (a.getD b.toNat default)) (b=dK (fun (c:bd)=> ! bP c) a) (∃(c:Int),(0<=c/\c<=(a.length:Int)/\ ∀(d:Bool×Int×Int),d∈List.take c.toNat a->(! bP d)=false)/\Int.toNat ((a.length:Int) -c)<Int.toNat ((a.length:Int) -b)/\a=a/\a=a/\(a.length:Int)=(a.length:Int)/\IntKind.wrap .i64 (b+(1:Int))=c/\True)) ((-1:Int)=dK (fun (c:bd)=> ! bP c) a):=by
  delta kT
  rintro l ⟨⟨hl,-⟩,-⟩ -
  simp only[maxLen] at hl
  refine⟨⟨0,⟨by omega,by omega,by simp⟩,(by repeat' first|exact trivial|refine⟨trivial,?_⟩|refine⟨(by with_reducible rfl),?_⟩|refine⟨ad (by omega) (by omega),?_⟩|refine⟨rfl,?_⟩)⟩,?_⟩
  rintro j ⟨j0,j1,hj⟩
  refine ar (fun hk=>?_) (fun hk=>?_)
  ·have hk:=of_decide_eq_true hk
   refine⟨j0,hk,ar (fun hm=>?_) (fun hm=>?_)⟩
   ·exact mJ j0 hk hj hm
   ·exact⟨j+1,⟨by omega,by omega,nj j0 hk hj hm⟩,by omega,(by repeat' first|exact trivial|refine⟨trivial,?_⟩|refine⟨(by with_reducible rfl),?_⟩|refine⟨ad (by omega) (by omega),?_⟩|refine⟨rfl,?_⟩)⟩
  ·exact n7 (of_decide_eq_false hk) hj
theorem yR:aC Try.prog GL 83 vI.spec:=Ct.okH _ Try.func83 (by kernel_rfl) (av aP yB) ay zU (aO (by kernel_rfl) EW)
def sw:Ct:=⟨[.val (.sl dI),.fn 60 0],[.val .bool],fun _=>[],fun d=>((d.1.any (fun f => !bP f),()),())⟩
def yM:az sw.ps->aI:=(fun _=>{})
theorem yG :
 ∀(a:List (Bool×Int×Int)),(kT a)/\True/\True->True->decide (0<=dK (fun (b:bd)=> ! bP b) a)=List.any a fun (b:Bool×Int×Int)=> ! bP b:=by
  delta kT
  rintro l - -
  exact nY
theorem Ae:aC Try.prog GL 59 sw.spec:=Ct.okH _ Try.func59 (by kernel_rfl) (av aP yR) ay yM (aO (by kernel_rfl) yG)
def wL:Ct:=⟨[.val (.sl dI)],[.val .bool],fun _=>[],fun d=>((c6 d.1,()),())⟩
def Am:az wL.ps->aI:=(fun _=>{})
theorem DK :
 ∀(a:List (Bool×Int×Int)),(kT a)/\True->True->(! List.any a fun (b:Bool×Int×Int)=> ! bP b)=c6 a:=by
  delta kT
  rintro l - -
  unfold c6
  rw[List.not_any_eq_all_not]
  simp
theorem Cu:aC Try.prog GL 38 wL.spec:=Ct.okH _ Try.func38 (by kernel_rfl) (av aP Ae) ay Am (aO (by kernel_rfl) DK)
theorem XI.cp{c:ai}(h:XI c):ll c:=by
 have hl:=h.log
 have hi:=h.it
 have hn:(aG c).length<=(ae c).length:=h.rc.n
 have hg:aG c=(ae c).take (aG c).length:=h.rc.g
 have hr:=(pU h.rc hl ⟨h.kn.1,by have:=h.kn.2;omega⟩ h.win).2
 refine⟨⟨by omega,fun b hb=>by have:=hi b hb;omega⟩,⟨by omega,fun b hb=>?_⟩,⟨by omega,fun x hx=>?_⟩,⟨by have:=h.dn.n;omega,fun t ht=>?_⟩,⟨by have:=h.up.n;omega,fun t ht=>?_⟩⟩
 ·have:=hi b (by rw[hg] at hb;exact List.mem_of_mem_take hb)
  omega
 ·obtain⟨⟨k1,k2⟩,k3,k4⟩:=h.rc.e.r x hx
  have:=hi _ (cE (xs:=ae c) (i:=x.1) (hr.2.2 x hx).1 k2)
  rw[k4];omega
 ·have:=(q8 (h.dd t ht) hi).2;omega
 ·obtain⟨m,h1,h2⟩:=pP (h.ud t ht) hl
  omega
def xh:Ct:=⟨[.agg aQ,.val (.sl aT)],[.agg aQ,.val cI],fun d=>[XR d.1],fun d=>((eX d.1 d.2.1,c8 d.1 d.2.1,()),())⟩
def EG:az xh.ps->aI:=(fun _=>{})
theorem Dp :
 ∀(a:Int×Int×Int×List (List Int)×Int×List (List Int)×List (Int×List Int)×List (Int×Int×List Int)×List (Int×Int×List Int))(b:List Int),CT.wf aQ a/\(b.length<=maxLen/\ ∀(c:Int),c∈b->0<=c/\c<=255)/\True->XI a/\a7 a<=585*ab a-> ∀(c:Bool),c=decide (1024<=(a.2.2.2.1.length:Int))->((! c)->((! c)->(! c))/\True)/\((! c)->((! c)->(! c))/\True)/\(c=false->(! c))/\ah (bif c then true else decide (6000<(b.length:Int))) ((gZ)=eX a b/\(5:Int)=c8 a b) (ll a/\(b.length:Int)<=1099511627776/\(a.2.2.2.1.length+List.length [b])*(24:Nat)<=(140737488355328:Nat)/\(a.1,a.2.1,a.2.2.1,a.2.2.2.1++[b],a.2.2.2.2)=eX a b/\(0:Int)=c8 a b):=by
  delta gZ
  rintro c b ⟨⟨-,-,-,⟨hl,-⟩,-⟩,⟨hb,-⟩,-⟩⟨hx,ho⟩
  (repeat (intro (b_:Bool) (hb_:b_=_);(repeat refine⟨(by first|(simp;done)|(rw[hb_];simp;done)|(rw[hb_];simp;omega)|(rw[hb_];simp;intros;omega)|(rw[hb_];simp +contextual;done)),?_⟩);subst hb_))
  refine iz (fun h=>?_) (fun h1 h2=>?_)
  ·have e:c8 c b=5:=by
    unfold c8
    refine if_pos ?_
    rcases h with q|q
    ·have:=of_decide_eq_true q
     exact .inl (by show 1024<=c.2.2.2.1.length;omega)
    ·exact .inr (of_decide_eq_true q)
   unfold eX
   rw[e]
   exact⟨rfl,rfl⟩
  ·have h1:=of_decide_eq_false h1
   have h2:=of_decide_eq_false h2
   have e:c8 c b=0:=by
    unfold c8
    refine if_neg ?_
    rintro (q|q)
    ·have q:1024<=c.2.2.2.1.length:=q
     omega
    ·omega
   unfold eX
   rw[e]
   refine⟨hx.cp,by omega,by simp only[List.length_singleton];omega,?_,rfl⟩
   rfl
theorem uk:aC Try.prog GL 18 xh.spec:=Ct.okH _ Try.func18 (by kernel_rfl) (av (av aP qk) kO) ay EG (aO (by kernel_rfl) Dp)
def uz:Ct:=⟨[.agg aQ,.val (.sl dI),.val (.sl dI)],[.agg aQ,.val cI],fun d=>[XR d.1],fun d=>((dh d.1 d.2.1 d.2.2.1,ci d.1 d.2.1 d.2.2.1,()),())⟩
def C7:az uz.ps->aI:=(fun _=>{})
theorem A0 :
 ∀(a:Int×Int×Int×List (List Int)×Int×List (List Int)×List (Int×List Int)×List (Int×Int×List Int)×List (Int×Int×List Int))(b c:List (Bool×Int×Int)),CT.wf aQ a/\(b.length<=maxLen/\ ∀(d:Bool×Int×Int),d∈b->True/\ak d.2.1/\ak d.2.2)/\(c.length<=maxLen/\ ∀(d:Bool×Int×Int),d∈c->True/\ak d.2.1/\ak d.2.2)/\True->XI a/\a7 a<=585*ab a-> ∀(d:Bool),d= ! c6 b->((! d)->((! d)->(! d))/\True)/\((! d)->((! d)->(! d))/\True)/\(d=false->(! d))/\ah (bif d then true else ! c6 c) ((gZ)=dh a b c/\(1:Int)=ci a b c) (ll a/\ah (decide (1099511627776<=a.1)) ((gZ)=dh a b c/\(5:Int)=ci a b c) (XR a/\ab a<1099511627776/\dC b/\dC c/\(ab a+(1:Int),(cF a b c).1,am a,ae a,aB a c,(aM a).1,(aM a).2,(cF a b c).2,aV (ab a+(1:Int)) (aq a c).2)=dh a b c/\(0:Int)=ci a b c)):=by
  delta gZ
  rintro c ds us-⟨hx,ho⟩
  (repeat (intro (b_:Bool) (hb_:b_=_);(repeat refine⟨(by first|(simp;done)|(rw[hb_];simp;done)|(rw[hb_];simp;omega)|(rw[hb_];simp;intros;omega)|(rw[hb_];simp +contextual;done)),?_⟩);subst hb_))
  refine iz (fun h=>?_) (fun h1 h2=>⟨hx.cp,ar (fun h3=>?_) (fun h3=>?_)⟩)
  ·have e:ci c ds us=1:=by
    unfold ci
    refine if_pos ?_
    rcases h with q|q
    ·have q:c6 ds=false:=by simpa using q
     rw[q];rfl
    ·have q:c6 us=false:=by simpa using q
     rw[q,Bool.and_false]
   unfold dh
   rw[e]
   exact⟨rfl,rfl⟩
  ·have h1:c6 ds=true:=by simpa using h1
   have h2:c6 us=true:=by simpa using h2
   have h3:1099511627776<=ab c:=of_decide_eq_true h3
   have e:ci c ds us=5:=by
    unfold ci
    rw[h1,h2,if_neg (by decide),if_pos h3]
   unfold dh
   rw[e]
   exact⟨rfl,rfl⟩
  ·have h1:c6 ds=true:=by simpa using h1
   have h2:c6 us=true:=by simpa using h2
   have h3:¬ 1099511627776<=ab c:=of_decide_eq_false h3
   have e:ci c ds us=0:=by
    unfold ci
    rw[h1,h2,if_neg (by decide),if_neg h3]
   unfold dh
   rw[e]
   exact⟨⟨hx,ho⟩,by omega,kD.1 h1,kD.1 h2,rfl,rfl⟩
theorem AP:aC Try.prog GL 20 uz.spec:=Ct.okH _ Try.func20 (by kernel_rfl) (av (av (av aP Cu) qk) vh) ay C7 (aO (by kernel_rfl) A0)
def tK:Ct:=⟨[.agg aQ,.val cI],[.agg aQ,.val cI],fun d=>[XR d.1],fun d=>((dF d.1 d.2.1,ct d.1 d.2.1,()),())⟩
def Bw:az tK.ps->aI:=(fun d=>{loops:=(fun n=>match n with|4=>some (fun S=>{ι:=Int×ai,qn:=⟨fun k_=>∀(r:Int)(b:ai),k_ (r,b),fun k_ h_ i=>h_ i.1 i.2,fun k_=>∃ (r:Int) (b:ai),k_ (r,b),fun k_ ⟨r,b,h_⟩=>⟨_,h_⟩⟩,μ:=fun i=>i.1.toNat,inv:=fun i=>0<=i.1/\i.1<=max 0 d.2.1/\(i.1<d.2.1->ab d.1+(d.2.1-i.1)<=1099511627776)/\i.2=a8 (max 0 d.2.1-i.1).toNat d.1,keep:=[2,4,5],slots:=fun i=>[(1,.int .i64 i.1)],keepN:=[80],names:=fun i=>[(48,.live (.cells 28 [.int .i64 (ab i.2),.int .i64 (a7 i.2),.int .i64 (am i.2),.own 524288 1,.int .i64 (aA i.2),.own 524289 1,.own 524290 2,.own 524291 3,.own 524292 3])),(524288,.live (.row 22 (.sl aT) (ae i.2))),(524289,.live (.row 22 (.sl aT) (aG i.2))),(524290,.live (.row 51 dY (aF i.2))),(524291,.live (.row 53 a9 (aJ i.2))),(524292,.live (.row 53 a9 (ba i.2)))]})|_=>none)})
def lJ(e:ai) :=
 (ab e,a7 e,am e,ae e,aA e,aG e,aF e,aJ e,ba e)
theorem AC :
 ∀(a:Int×Int×Int×List (List Int)×Int×List (List Int)×List (Int×List Int)×List (Int×Int×List Int)×List (Int×Int×List Int))(b:Int),CT.wf aQ a/\ak b/\True->XI a/\a7 a<=585*ab a-> ∀(c:Bool),c=decide (b<0)->((! c)->((! c)->(! c))/\True)/\(c=false->(! c))/\ah (bif c then true else decide (100000<b)) ((gZ)=dF a b/\(1:Int)=ct a b) (ll a/\(∃(d:Int) (e:ai),(0<=d/\d<=max (0:Int) b/\(d<b->ab a+(b -d)<=1099511627776)/\e=a8 (Int.toNat (max (0:Int) b -d)) a)/\b=d/\(0:Int)=0/\(0:Int)=0/\(0:Int)=0/\(0:Int)=0/\(0:Int)=0/\a.1=ab e/\a.2.1=a7 e/\a.2.2.1=am e/\a.2.2.2.2.1=aA e/\a.2.2.2.1=ae e/\a.2.2.2.2.2.1=aG e/\a.2.2.2.2.2.2.1=aF e/\a.2.2.2.2.2.2.2.1=aJ e/\a.2.2.2.2.2.2.2.2=ba e/\True)/\ ∀(d:Int)(e:ai),0<=d/\d<=max (0:Int) b/\(d<b->ab a+(b -d)<=1099511627776)/\e=a8 (Int.toNat (max (0:Int) b -d)) a->ah (decide (0<d)) (ah (decide (1099511627776<=ab e))
 ((gZ)=dF a b/\(5:Int)=ct a b) (XR (lJ e)/\ab (lJ e)<1099511627776/\dC ([]:List (Bool×Int×Int))/\dC ([]:List (Bool×Int×Int))/\ ∀(f g h:Int)(i:List (List Int))(j:Int)(k:List (List Int))(l:List (Int×List Int))(m n:List (Int×Int×List Int)),(f,g,h,i,j,k,l,m,n)=bh (lJ e) ([]:List (Bool×Int×Int)) ([]:List (Bool×Int×Int))-> ∃(o:Int) (p:ai),(0<=o/\o<=max (0:Int) b/\(o<b->ab a+(b -o)<=1099511627776)/\p=a8 (Int.toNat (max (0:Int) b -o)) a)/\o.toNat<d.toNat/\IntKind.wrap .i64 (d -(1:Int))=o/\(0:Int)=0/\(0:Int)=0/\(0:Int)=0/\(0:Int)=0/\(0:Int)=0/\f=ab p/\g=a7 p/\h=am p/\j=aA p/\i=ae p/\k=aG p/\l=aF p/\m=aJ p/\n=ba p/\True)) ((lJ e)=dF a b/\(0:Int)=ct a b)):=by
  delta gZ lJ
  rintro c n-⟨hx,ho⟩
  (repeat (intro (b_:Bool) (hb_:b_=_);(repeat refine⟨(by first|(simp;done)|(rw[hb_];simp;done)|(rw[hb_];simp;omega)|(rw[hb_];simp;intros;omega)|(rw[hb_];simp +contextual;done)),?_⟩);subst hb_))
  refine iz (fun h=>?_) (fun h1 h2=>⟨hx.cp,?_⟩)
  ·have e:ct c n=1:=by
    unfold ct
    refine if_pos ?_
    rcases h with q|q
    ·exact .inl (of_decide_eq_true q)
    ·exact .inr (of_decide_eq_true q)
   unfold dF
   rw[e]
   exact⟨rfl,rfl⟩
  ·have h1:=of_decide_eq_false h1
   have h2:=of_decide_eq_false h2
   refine⟨⟨n,c,⟨by omega,by omega,by omega,?_⟩,(by repeat' first|exact trivial|refine⟨trivial,?_⟩|refine⟨(by with_reducible rfl),?_⟩|refine⟨ad (by omega) (by omega),?_⟩|refine⟨rfl,?_⟩)⟩,?_⟩
   ·rw[show max 0 n-n=0 by omega];rfl
   rintro r b ⟨r0,r1,r2,rfl⟩
   obtain⟨hb,hnow,-⟩:=hx.runs (max 0 n-r).toNat
   have hxr:=XR.runs ⟨hx,ho⟩ (max 0 n-r).toNat
   generalize hbb:a8 (max 0 n-r).toNat c=b at *
   refine ar (fun h3=>ar (fun h4=>?_) (fun h4=>?_)) (fun h3=>?_)
   ·have h3:=of_decide_eq_true h3
    have h4:=of_decide_eq_true h4
    have e:ct c n=5:=by
     unfold ct
     rw[if_neg (by omega),if_pos (by omega)]
    unfold dF
    rw[e]
    exact⟨rfl,rfl⟩
   ·have h3:=of_decide_eq_true h3
    have h4:=of_decide_eq_false h4
    refine⟨hxr,by show ab b<_;omega,eQ,eQ,?_⟩
    rintro y1 y2 y3 y4 y5 y6 y7 y8 y9 he
    have he:((y1,y2,y3,y4,y5,y6,y7,y8,y9):ai)=bh b [] []:=he
    have e2:a8 (max 0 n-(r-1)).toNat c=bh b [] []:=by
     rw[← hbb,show (max 0 n-(r-1)).toNat=(max 0 n-r).toNat+1 by omega,gm]
    refine⟨r-1,(y1,y2,y3,y4,y5,y6,y7,y8,y9),⟨by omega,by omega,by omega,?_⟩,by omega,(by repeat' first|exact trivial|refine⟨trivial,?_⟩|refine⟨(by with_reducible rfl),?_⟩|refine⟨ad (by omega) (by omega),?_⟩|refine⟨rfl,?_⟩)⟩
    rw[e2,he]
   ·have h3:=of_decide_eq_false h3
    have hr:r=0:=by omega
    subst hr
    have e:ct c n=0:=by
     unfold ct
     rw[if_neg (by omega),if_neg (by omega)]
    unfold dF
    rw[e,if_pos rfl]
    refine⟨?_,rfl⟩
    rw[← hbb,show (max 0 n-0).toNat=n.toNat by omega]
    rfl
theorem su:aC Try.prog GL 11 tK.spec:=Ct.okH _ Try.func11 (by kernel_rfl) (av (av aP qk) (Ct.named vh)) ay Bw (aO (by kernel_rfl) AC)
end Go.RS
