/- SX, part 30: a function that parts a row which a variable's cell owns: it returns the row's beginning, and leaves the rest in the cell. -/
import Derived.Test.YtffciochlkcjbaaMix
import Derived.Test.YtffciochlkcjbaaXw1
namespace Go.SX
set_option linter.unusedVariables false
structure Cp where
 E:TypeId
 o:OT
 oe:OT
 off:Nat
 Er:TypeId
 t:CT
 xs:o.D->List t.D
 pre:o.D->List Prop
 ex:o.D->oe.X
 out:o.D->Nat
def Cp.upd(c:Cp)(d:c.o.D)(p base n:Nat):List (Nat×Nm) :=
 [(p,.live (.cells c.E (ec (dp p c.oe (c.ex d) [] 0) c.off [.part base c.t.size (c.out d) ((c.xs d).length-c.out d)]))),(base,.live (.row c.Er c.t (c.xs d))),(n,.dead)]
def Cp.spec(c:Cp):Spec:=fun base svs=>match svs with
 | [.ptr p z,.ptr q off]=>match Nat.beq z 0,Nat.beq q p,Nat.beq off c.off,kV [.box c.E c.o] [] with
  | true,true,true,true => .ask p fun
   | .live (.cells E cs)=>match Nat.beq E c.E with
    | true=>(dH none c.o cs).bind fun x=>match x with
     | (d,[],[],[],[some n])=>match Nat.beq p n with
      | true => .fail
      | false => .ask base fun
       | .un => .ret (.det (c.pre d) (.part base c.t.size 0 (c.out d)) (c.upd d p base n))
       | _ => .fail
     | _ => .fail
    | false => .fail
   | _ => .fail
  | _,_,_,_ => .fail
 | _ => .fail
def Cp.start(c:Cp)(d:c.o.D)(n:Nat):St:=⟨ek [.ptr PN 0,.ptr PN c.off] n,[(PN,.live (.cells c.E (dM c.o d 1 0)))]++(fD c.o d 0++gO (cY [.box c.E c.o]))⟩
def Cp.fin(P:Program)(c:Cp)(rv:List ResultVar)(d:c.o.D):Ex->St->Prop:=fun e S=>match e with
 | .exit _=>False
 | _=>match gH P rv S.sl (aZ S.H),aZ S.H PN with
  | some [.part q z l0 k],.live (.cells E' cs)=>match aZ S.H q,cs[c.off]?,cX (aZ S.H) true c.oe (some 1) cs with
   | .live (.row E2 t2 ys),some (.part q2 z2 l2 k2),some (x,[],[],[]) =>
    match Nat.beq z c.t.size,Nat.beq E' c.E,Nat.beq E2 c.Er,bQ t2 c.t ys,Nat.beq q2 q,Nat.beq z2 c.t.size,Nat.blt q PN||Nat.ble QN q with
    | true,true,true,some zs,true,true,true=>fl [l0=0,k=c.out d,zs=c.xs d,l2=c.out d,k2=(c.xs d).length-c.out d,x=c.ex d]
    | _,_,_,_,_,_,_=>False
   | _,_,_=>False
  | _,_=>False
def Cp.vc(P:Program)(sp:bc)(c:Cp)(fn:Func)(an:c.o.D->aN):Prop :=
 iX c.o fun d=>c.o.wf d->fl (c.pre d)->g8 (c.start d fn.ntmps) (sx P sp (an d) (jf fn) (c.fin P fn.results.toList d))
theorem Cp.ok{P:Program}{sp:bc}(c:Cp){f:FuncId}{fn:Func}(hf:P.funcs[f]? = some fn)(hb:fn.body=some (jf fn))(hs:ca P sp)(aD:P.follows .mixedOrders=true)
  (hnb:c.o.nb=0) (hne:c.oe.nb=0) (hnr:c.oe.nr=0) (hpl:c.oe.hx=c.o.hx) (hcon:∀ d,fD c.o d 0=[(QN,.live (.row c.Er c.t (c.xs d)))]) (an:c.o.D->aN)
  (vc:Cp.vc P sp c fn an):aG P sp.gl f c.spec:=by
 intro base svs h dl r e hp w0 N0 A env w vs hG m hd
 unfold Cp.spec at e
 split at e
 case h_2=>cases e
 rename_i p z q off
 split at e
 case h_2=>cases e
 rename_i hz hq hoff hix
 have hz:=Nat.eq_of_beq_eq_true hz
 have hq:=Nat.eq_of_beq_eq_true hq
 have hoff:=Nat.eq_of_beq_eq_true hoff
 subst hz hq hoff
 simp only[Q.run] at e
 split at e
 case h_2=>cases e
 rename_i p0 q0 hk
 simp only[Option.some.injEq,Prod.mk.injEq] at e
 obtain⟨rfl,rfl⟩:=e
 split at hk
 case h_2=>cases hk
 rename_i E cs hl
 split at hk
 case h_2=>cases hk
 rename_i hE
 have hE:=Nat.eq_of_beq_eq_true hE
 subst hE
 obtain⟨x,q1,q2,e1,e2,rfl⟩:=Q.run_bind _ _ _ hk
 split at e2
 case h_2=>cases e2
 rename_i d n
 split at e2
 ·cases e2
 rename_i hpn
 have hpn:q≠n:=fun e=>by rw[e,Nat.beq_refl] at hpn;cases hpn
 simp only[Q.run] at e2
 split at e2
 case h_2=>cases e2
 rename_i p1 r1 hk1
 simp only[Option.some.injEq,Prod.mk.injEq] at e2
 obtain⟨rfl,rfl⟩:=e2
 split at hk1
 case h_2=>cases hk1
 rename_i hun
 cases aK hk1
 have hp:aB (c.pre d):=hp
 simp only[ac,aa] at hd
 obtain⟨_,_,rfl,⟨k,l,hek,rfl⟩,_,_,rfl,⟨k',l',hek',rfl⟩,rfl⟩:=hd
 rw[hek] at hek'
 cases hek'
 obtain⟨⟨us,hus,hdu⟩,_⟩:=m.live_blk hl hek
 obtain⟨hxr,hxn,hxl⟩:=wq hix
 have hxI:cY [.box c.E c.o]=c.o.hx:=by simp[cY]
 obtain⟨s1,s2,s3,s4,us',rs',s5,s6,hol,hols,s7⟩:=ko m (Ac:=bC A env []) (fun b hb=>.inl hb) none c.o cs us.toList d [] [] [] [some n] q1 1 0 e1 hdu (fun k hk=>.inr hk)
 simp only[ac] at s6
 subst s6
 rw[List.append_nil] at s5
 subst s5
 have holn:(hol.map (·.1)).Nodup:=by rw[hols.1,← hxI];exact hxn
 have hbh:[q].length<=HN-PN:=by simp[HN,PN]
 have hbl:[q].length<=PN:=by simp[PN]
 have holv:∀ y∈hol,cB env [q] [some n] hol (HN+y.1) = .val y.2.1 y.2.2:=fun y hy=>by
  have hy':y.1∈cY [.box c.E c.o]:=by rw[hxI,← hols.1];exact List.mem_map_of_mem (f:=(·.1)) hy
  unfold cB
  rw[sX hbh (hxl _ hy')]
  exact rM holn y hy
 have hcb:cB env [q] [some n] hol PN=env q:=by have:=nZ (env:=env) (cx:=[some n]) (hv:=hol) hbl (i:=0) (n:=q) rfl;simpa using this
 have hcc:cB env [q] [some n] hol QN=env n:=by have:=sV (env:=env) (bx:=[q]) (cx:=[some n]) (hv:=hol) (i:=0) (o:=some n) rfl;simpa[dS] using this
 obtain⟨k1,k2,k3⟩:=s7 (cB env [q] [some n] hol) (fun n hn=>by cases hn) (fun k n hn=>by simp at hn) (fun k y hy=>by
  cases k with
  | zero=>simp at hy;subst hy;simpa[dS] using hcc
  | succ k=>simp at hy) holv
 have hlb:cl (bC A env []) env h (cB env [q] [some n] hol) w ([q].map some) [(PN,.live (.cells c.E (dM c.o d 1 0)))] PN:=by
  refine⟨⟨rfl,_,rfl,rfl,.inl ⟨q,_,rfl,hl,rfl,fun k' len' he=>?_,fun he=>?_⟩⟩,trivial⟩
  ·rw[hek] at he;cases he
   exact⟨us,hus,k1⟩
  ·rw[hek] at he;cases he
 have k3:cl (bC A env []) env h (cB env [q] [some n] hol) w [some n] (fD c.o d 0) QN:=by simpa using k3
 have hnd:([q]++cj [some n]).Nodup:=by simp[cj,hpn]
 have mc:=m.call hol (fz:=[]) (fun _ _ hh=>by simp at hh) hbl hlb k3 (by simp) hnd
 rw[hols.1,← hxI] at mc
 have hvc:=lF.1 vc d s2 (jT.2 hp)
 rw[nl] at hvc
 obtain⟨bn,hbn1,hbn2⟩:∃ b,h n = .live b/\b.mut=true:=by
  obtain⟨b',_,_,_,⟨q',b,e,h1,h2,_⟩|⟨e,_⟩⟩:=k3.get.2 0 (some n) rfl
  ·cases e;exact⟨b,h1,h2⟩
  ·cases e
 have hnn:env n ≠ .un:=by
  have:=m.nm n
  rw[hbn1] at this
  rcases this with⟨k,len,e,_⟩|⟨e,_⟩ <;> rw[e] <;> simp
 have hbq:base≠q:=fun e=>by rw[e,hl] at hun;cases hun
 have hbn:base≠n:=fun e=>by rw[e,hbn1] at hun;cases hun
 refine calls_of_wp hf hb (tz (N0:=⟨lE env ([q]++cj [some n]),bC A env [],N0.g⟩) ⟨hs,hG⟩ aD (jf fn) _ _ _ (bC A env []) (cB env [q] [some n] hol) _ w hvc ⟨mc,?_,?_,rfl⟩ ?_)
 ·simp only[St.fs,Cp.start,nL,Array.size_append,Array.size_replicate];omega
 ·intro i
  simp only[St.fs,Cp.start]
  have dargs:ac (bC A env []) (cB env [q] [some n] hol) w [.ptr PN 0,.ptr PN c.off] [.pointer (some ⟨k,0,none⟩),.pointer (some ⟨k,c.off,none⟩)]:=by
   simp only[ac,aa]
   exact⟨_,_,rfl,⟨k,l,by rw[hcb];exact hek,rfl⟩,_,_,rfl,⟨k,l,by rw[hcb];exact hek,rfl⟩,rfl⟩
  rcases mX (l:=[SV.ptr PN 0,SV.ptr PN c.off]) (n:=fn.ntmps) (i:=i) with hj|⟨s,h1,h2⟩
  ·rw[hj];simp only[aa]
  ·rw[h2]
   obtain⟨v,hv,hdv⟩:=iN i s dargs h1
   generalize hvs:[Value.pointer (some ⟨k,0,none⟩),Value.pointer (some ⟨k,c.off,none⟩)]=vs at hv
   have hi:i<vs.length:=(List.getElem?_eq_some_iff.1 hv).1
   have:(vs.toArray++Array.replicate (fn.ntmps-vs.toArray.size) undef).getD i undef=v:=by
    have h3:(vs.toArray++Array.replicate (fn.ntmps-vs.toArray.size) undef)[i]? = some v:=by
     rw[Array.getElem?_append_left (by simpa using hi)];simpa using hv
    simp only[Array.getD_eq_getD_getElem?,h3,Option.getD_some]
   rw[this];exact hdv
 ·intro ex S' A1 env1 act w1 hK t' x'
  have hend:∃ rsv qe C1 x,gH P fn.results.toList S'.sl (aZ S'.H)=some [.part qe c.t.size 0 (c.out d)]/\aZ S'.H PN = .live (.cells c.E C1)/\aZ S'.H qe = .live (.row c.Er c.t (c.xs d)) ∧
    C1[c.off]? = some (.part qe c.t.size (c.out d) ((c.xs d).length-c.out d))/\cX (aZ S'.H) true c.oe (some 1) C1=some (x,[],[],[])/\x=c.ex d/\(qe<PN∨QN<=qe)/\(ex = .normal∨ex = .ret)/\rsv=():=by
   unfold Cp.fin at hK
   split at hK
   ·exact hK.elim
   ·rename_i hex
    split at hK
    ·rename_i q9 z9 l9 k9 E9 cs9 h1 h2
     split at hK
     ·rename_i E2 t2 ys q2 z2 l2 k2 x h3 h4 h5
      split at hK
      ·rename_i zs hz1 hz2 hz3 hc hz4 hz5 hz6
       have hz1:=Nat.eq_of_beq_eq_true hz1
       have hz2:=Nat.eq_of_beq_eq_true hz2
       have hz3:=Nat.eq_of_beq_eq_true hz3
       have hz4:=Nat.eq_of_beq_eq_true hz4
       have hz5:=Nat.eq_of_beq_eq_true hz5
       obtain⟨et,ez⟩:=cD hc
       subst et
       simp only at ez
       subst ez
       subst hz1 hz2 hz3 hz4 hz5
       obtain⟨y1,y2,y3,y4,y5,y6⟩:=hK
       subst y1 y2 y4 y5
       refine⟨(),q2,cs9,x,h1,h2,by rw[← y3];exact h3,h4,h5,y6,?_,?_,rfl⟩
       ·simp only[Bool.or_eq_true] at hz6
        exact hz6.imp (fun h=>Nat.le_of_ble_eq_true h) (fun h=>Nat.le_of_ble_eq_true h)
       ·cases ex with
        | normal=>exact .inl rfl
        | ret=>exact .inr rfl
        | exit i=>exact absurd rfl (hex i)
      ·exact hK.elim
     ·exact hK.elim
    ·exact hK.elim
  obtain⟨-,qe,C1,x,hts,hC,hR,hpt,hoo,rfl,hqe,hex,-⟩:=hend
  obtain⟨rvs,hrun,hres⟩:=vg t'.m t'.f hts
  have hqP:qe≠PN:=fun e=>by rw[e,hC] at hR;cases hR
  have henvp:env1 PN=env q:=by
   have:=x'.envp PN (Nat.le_refl _) ze (by rw[hcb,hek];simp)
   rw[this,hcb]
  have hRq:aY [(q,some PN),(base,some qe)] q=some (some PN):=by simp[eI]
  have hRb:aY [(q,some PN),(base,some qe)] base=some (some qe):=by simp[eI,hbq]
  have hRi:∀ n' y,aY [(q,some PN),(base,some qe)] n'=some y->(n'=q/\y=some PN)∨(n'=base/\y=some qe):=fun n' y hy=>by
   simp only[eI] at hy
   split at hy
   ·rename_i e;cases hy;exact .inl ⟨e,rfl⟩
   ·split at hy
    ·rename_i e;cases hy;exact .inr ⟨e,rfl⟩
    ·simp[aY] at hy
  have hkeepE:∀ n',env n' ≠ .un->bw [(q,some PN),(base,some qe)] env env1 n'=env n':=fun n' hn'=>by
   unfold bw
   cases hl':aY [(q,some PN),(base,some qe)] n' with
   | none=>rfl
   | some y =>
    rcases hRi n' y hl' with⟨rfl,rfl⟩|⟨rfl,rfl⟩
    ·simp only[bP,hl'];exact henvp
    ·exact absurd (by have:=m.nm n';rw[hun] at this;exact this) hn'
  have hAA:∀ b,A b->A1 b:=fun b hb=>x'.imm b (.inl hb)
  have xg:aW A env w A1 (bw [(q,some PN),(base,some qe)] env env1) w1 :=
   ⟨hAA,fun n b l e=>by rw[hkeepE n (by rw[e];simp)];exact e,fun n e=>by rw[hkeepE n (by rw[e];simp)];exact e,fun n v s e=>by rw[hkeepE n (by rw[e];simp)];exact e,
    fun b o hb=>x'.keep b o (.inl hb),x'.shape⟩
  have hHole:∀ i∈c.oe.hx,∀ v s,env1 (HN+i) = .val v s->aa A1 (bw [(q,some PN),(base,some qe)] env env1) w1 s v:=fun i hi v s he=>by
   rw[hpl,← hols.1] at hi
   obtain⟨y,hy,rfl⟩:=List.mem_map.1 hi
   have h1:=holv y hy
   have hlq:=hxl y.1 (by rw[hxI,← hols.1];exact List.mem_map_of_mem (f:=(·.1)) hy)
   have h2:=x'.envp (HN+y.1) (by simp only[HN,PN];omega) (by simp only[HN,QN] at hlq ⊢;omega) (by rw[h1];simp)
   rw[h2,h1] at he
   cases he
   exact gC xg _ _ (hols.2 y hy)
  have hrq:bw [(q,some PN),(base,some qe)] env env1 q=env1 PN:=by unfold bw;rw[hRq];simp only[bP,hRq]
  have hrb:bw [(q,some PN),(base,some qe)] env env1 base=env1 qe:=by unfold bw;rw[hRb];simp only[bP,hRb]
  have hkP:env1 PN = .blk k l:=by rw[henvp];exact hek
  obtain⟨⟨us1,hus1,hdu1⟩,_⟩:=t'.m.live_blk (show S'.fs.h PN=_ from hC) hkP
  obtain⟨p1,p2,us2,rs2,p3,p4,p5⟩:=jD (A':=A1) (A2:=A1) (env':=bw [(q,some PN),(base,some qe)] env env1) t'.m (fun b hb=>hb) q c.oe (some 1) C1 us1.toList (c.ex d) [] [] [] [] [] 0 hoo hdu1 (fun k' ⟨_,_,_,hx,_⟩=>by simp at hx) (.inr fun b hb=>hb) (.inr (by rw[hne];rfl))
  simp only[ac] at p4
  subst p4
  rw[List.append_nil] at p3
  subst p3
  obtain⟨g1,-,-,-⟩:=p5 hHole (fun _=>hrq) (fun k q hq=>by simp at hq) (fun j0 k q _ hq=>by simp at hq)
  have denP:∀(lo ln:Nat)(v:Value),aa A1 env1 w1 (.part qe c.t.size lo ln) v->aa A1 (bw [(q,some PN),(base,some qe)] env env1) w1 (.part base c.t.size lo ln) v:=fun lo ln v hv=>by
   simp only[aa] at hv ⊢
   rw[hrb];exact hv
  obtain⟨vo,hvo,hdo⟩:=iN _ _ hdu1 hpt
  have hlt:c.off<us1.toList.length:=(List.getElem?_eq_some_iff.1 hvo).1
  have hvv:us1.toList[c.off]=vo:=(List.getElem?_eq_some_iff.1 hvo).2
  have hcell:ac A1 (bw [(q,some PN),(base,some qe)] env env1) w1 (ec (dp q c.oe (c.ex d) [] 0) c.off [.part base c.t.size (c.out d) ((c.xs d).length-c.out d)]) us1.toList:=by
   have h2:ac A1 (bw [(q,some PN),(base,some qe)] env env1) w1 [.part base c.t.size (c.out d) ((c.xs d).length-c.out d)] [vo]:=by simp only[ac];exact⟨vo,[],rfl,denP _ _ _ hdo,rfl⟩
   have h3:=kw (off:=c.off) g1 h2
   have he:us1.toList.take c.off++([vo]++us1.toList.drop (c.off+[vo].length))=us1.toList:=by
    rw[← hvv]
    simp only[List.length_singleton,List.singleton_append]
    rw[List.getElem_cons_drop,List.take_append_drop]
   rw[he] at h3;exact h3
  have hmod:aw w0 N0 A1 (bw [(q,some PN),(base,some qe)] env env1) (aM (c.upd d q base n) h) w1/\aW A env w A1 (bw [(q,some PN),(base,some qe)] env env1) w1:=by
   refine aw.retn (R:=[(q,some PN),(base,some qe)]) (U:=c.upd d q base n) (A':=A1) m t'.m x'.shape ?_ ?_ ?_ ?_ ?_ hAA ?_ ?_
   ·intro n' y hx
    unfold Cp.upd at hx
    simp only[List.mem_cons,Prod.mk.injEq,List.not_mem_nil,or_false] at hx
    rcases hx with⟨rfl,rfl⟩|⟨rfl,rfl⟩|⟨rfl,rfl⟩
    ·refine .inr ⟨_,rfl,rfl,.inl ⟨PN,_,hRq,hC,rfl,fun k' len he=>?_,fun he=>?_⟩⟩
     ·rw[hkP] at he;cases he
      exact⟨us1,hus1,hcell⟩
     ·rw[hkP] at he;cases he
    ·refine .inr ⟨_,rfl,rfl,.inl ⟨qe,_,hRb,hR,rfl,fun k' len he=>?_,fun he=>?_⟩⟩
     ·exact (t'.m.live_blk (show S'.fs.h qe=_ from hR) he).1
     ·have:=t'.m.nm qe
      rw[show S'.fs.h qe=_ from hR] at this
      rcases this with⟨_,_,he',_⟩|⟨_,E3,t3,hb3⟩
      ·rw[he] at he';cases he'
      ·rcases hb3 with hb3|hb3
       ·exact⟨E3,t3,hb3⟩
       ·cases hb3
    ·exact .inl rfl
   ·intro n' hn'
    obtain⟨y',hy⟩:=Option.ne_none_iff_exists'.1 hn'
    rcases hRi n' y' hy with⟨rfl,_⟩|⟨rfl,_⟩ <;> simp[Cp.upd]
   ·intro n1 n2 q' h1 h2
    rcases hRi n1 _ h1 with⟨rfl,e1⟩|⟨rfl,e1⟩ <;> rcases hRi n2 _ h2 with⟨rfl,e2⟩|⟨rfl,e2⟩
    ·rfl
    ·cases e1;cases e2;exact absurd rfl hqP
    ·cases e1;cases e2;exact absurd rfl hqP
    ·rfl
   ·intro n' hn'
    obtain⟨y',hy⟩:=Option.ne_none_iff_exists'.1 hn'
    rcases hRi n' y' hy with⟨rfl,rfl⟩|⟨rfl,rfl⟩
    ·exact .inr ⟨_,hl,rfl,by rw[fF hy];exact henvp⟩
    ·exact .inl hun
   ·rintro k' ⟨n',l',hn',he⟩
    simp only[cj,List.cons_append,List.nil_append,List.mem_cons,List.not_mem_nil,or_false] at hn'
    rcases hn' with rfl|rfl
    ·exact⟨_,_,l',by simp[Cp.upd],hl,rfl,he⟩
    ·exact⟨_,bn,l',by simp[Cp.upd],hbn1,hbn2,he⟩
   ·intro b hb
    have hlt':=t'.m.Alt b hb
    rcases t'.m.fresh b hb with h1|h1|h1
    ·rcases h1 with h1|⟨_,_,_,hx,_⟩
     ·exact .inl h1
     ·simp at hx
    ·exact .inr ⟨.inl h1,hlt'⟩
    ·exact .inr ⟨.inr h1,hlt'⟩
   ·rintro q' b k' l' hq' hbm he ⟨n',hn'⟩
    exact (t'.m.live_blk (show S'.fs.h q'=_ from hq') he).2 hbm
  have hrd:=td hres
  have hgood:bp w0 N0 A env h w (.det (c.pre d) (.part base c.t.size 0 (c.out d)) (c.upd d q base n)) (kD rvs) w1:=by
   refine⟨(),A1,_,trivial,hmod.1,hmod.2,?_⟩
   exact denP _ _ _ hrd
  have hthis:act.defers=[]∧∃ v,(results fn act.tmps).run P w1 = .ok v w1∧∃ v',Ending.returned v = .returned v'∧bp w0 N0 A env h w (.det (c.pre d) (.part base c.t.size 0 (c.out d)) (c.upd d q base n)) v' w1 :=
   ⟨t'.dfr,_,hrun,_,rfl,hgood⟩
  rcases hex with rfl|rfl
  ·exact hthis
  ·exact hthis
theorem Cp.okH{P:Program}{sp:bc}(c:Cp){f:FuncId}{fn:Func}(hf:P.funcs[f]? = some fn)(hb:fn.body=some (jf fn))(hs:ca P sp)(aD:P.follows .mixedOrders=true)
  (hnb:c.o.nb=0) (hne:c.oe.nb=0) (hnr:c.oe.nr=0) (hpl:c.oe.hx=c.o.hx) (hcon:∀ d,fD c.o d 0=[(QN,.live (.row c.Er c.t (c.xs d)))]) (an:c.o.D->aN)
  (vc:nP (Cp.vc P sp c fn an)):aG P sp.gl f c.spec:=c.ok hf hb hs aD hnb hne hnr hpl hcon an vc.out
end Go.SX

/- Xw2: the program's exchange: messages are sent and taken, they arrive; a tick. -/
namespace Go.RS
open Go.SX Go.Proofs
set_option maxRecDepth 100000
set_option linter.unusedVariables false
def fA(a b:af):Prop:=a.1<b.1∨a.1=b.1/\a.2.1<b.2.1
def dC(x y:af):Int:=if bl x.1 y.1≠0 then bl x.1 y.1 else bl x.2.1 y.2.1
instance (a b:af):Decidable (fA a b):=by unfold fA;infer_instance
def sY:Ct:=⟨[.agg a9,.agg a9],[.val cI],fun _=>[],fun d=>((dC d.1 d.2.1,()),())⟩
def DX:aC sY.ps->aN:=(fun _=>{})
theorem xJ :
 ∀(a b:Int)(c:List Int)(d e:Int)(f:List Int),(ao a/\ao b/\c.length<=maxLen/\ ∀(g:Int),g∈c->0<=g/\g<=255)/\(ao d/\ao e/\f.length<=maxLen/\ ∀(g:Int),g∈f->0<=g/\g<=255)/\True->True->d8 [bl a d,bl b e]=dC (a,b,c) (d,e,f):=by
  rintro a1 a2 a3 b1 b2 b3 - -
  have e:dC (a1,a2,a3) (b1,b2,b3)=if bl a1 b1≠0 then bl a1 b1 else bl a2 b2:=rfl
  rw[e]
  simp only[d8]
  by_cases h:bl a1 b1≠0
  ·rw[if_pos h,if_pos h]
  ·rw[if_neg h,if_neg h]
   by_cases k:bl a2 b2≠0
   ·rw[if_pos k]
   ·rw[if_neg k];simp at k;exact k.symm
theorem uB:aG Try.prog GL 80 sY.spec:=Ct.okH _ Try.func80 (by kernel_rfl) (ay (ay aP sS) CU) aD DX (aQ (by kernel_rfl) xJ)
def eX{α:Type}(p:α->Bool)(l:List α):Int:=((l.takeWhile p).length:Int)
theorem kq{α:Type}(p:α->Bool)(l:List α):0<=eX p l/\eX p l<=l.length:=by
 unfold eX
 have:=congrArg List.length (List.takeWhile_append_dropWhile (p:=p) (l:=l))
 rw[List.length_append] at this
 omega
theorem tc{α:Type} [Inhabited α] {p:α->Bool} {R:α->α->Prop} (hR:∀ a b,R a b->p b=true->p a=true):∀{l:List α}{h:Nat},l.Pairwise R->h<l.length->(p (l.getD h default)=true↔(h:Int)<eX p l)
 | [],h,_,hh=>by simp at hh
 | a::l,h,hs,hh=>by
  obtain⟨s1,s2⟩:=List.pairwise_cons.1 hs
  by_cases ha:p a=true
  ·have e:eX p (a::l)=eX p l+1:=by unfold eX;rw[List.takeWhile_cons_of_pos ha,List.length_cons];omega
   cases h with
   | zero =>
    have:=kq p l
    simp only[List.getD_cons_zero]
    exact⟨fun _=>by rw[e];omega,fun _=>ha⟩
   | succ h =>
    simp only[List.getD_cons_succ]
    rw[tc hR s2 (by simpa using hh),e]
    omega
  ·have e:eX p (a::l)=0:=by unfold eX;rw[List.takeWhile_cons_of_neg ha];rfl
   rw[e]
   constructor
   ·intro k
    exfalso
    cases h with
    | zero=>exact ha k
    | succ h =>
     simp only[List.getD_cons_succ] at k
     have hh:h<l.length:=by simpa using hh
     have hm:l.getD h default∈l:=by rw[List.getD_eq_getElem?_getD,List.getElem?_eq_getElem hh];exact List.getElem_mem hh
     exact ha (hR _ _ (s1 _ hm) k)
   ·intro k;omega
theorem vN{α:Type} [Inhabited α] {p:α->Bool} {R:α->α->Prop} (hR:∀ a b,R a b->p b=true->p a=true) {l:List α} {h:Int} (hs:l.Pairwise R) (h0:0<=h) (h1:h<l.length):p (l.getD h.toNat default)=true↔h<eX p l:=by
 rw[tc hR hs (by omega)]
 rw[Int.toNat_of_nonneg h0]
theorem xc{α:Type}(p:α->Bool)(l:List α):l.take (eX p l).toNat=l.takeWhile p/\l.drop (eX p l).toNat=l.dropWhile p:=by
 have k:=List.takeWhile_append_dropWhile (p:=p) (l:=l)
 have t1:∀ A B:List α,A++B=l->l.take A.length=A/\l.drop A.length=B:=by
  rintro A B rfl
  exact⟨List.take_left' rfl,List.drop_left' rfl⟩
 unfold eX
 rw[Int.toNat_natCast]
 exact t1 _ _ k
theorem qH{x y:af}:dC x y<0↔fA x y:=by
 unfold dC bl fA
 by_cases h1:x.1<y.1
 ·simp[h1]
 ·by_cases h2:y.1<x.1
  ·have:x.1≠y.1:=by omega
   simp[h1,h2,this]
  ·have:x.1=y.1:=by omega
   by_cases h3:x.2.1<y.2.1
   ·simp[this,h3]
   ·by_cases h4:y.2.1<x.2.1 <;> simp[this,h3,h4]
abbrev cH(l:List af)(t:af):Int:=eX (fun x=>decide (dC x t<0)) l
theorem wo{l:List af}{t:af}{h:Int}(hs:l.Pairwise fA)(h0:0<=h)(h1:h<l.length):dC (l.getD h.toNat default) t<0↔h<cH l t:=by
 rw[← vN (p:=fun x=>decide (dC x t<0)) (R:=fA) (fun a b hab hb=>?_) hs h0 h1,decide_eq_true_eq]
 simp only[decide_eq_true_eq,qH] at hb ⊢
 unfold fA at *;omega
def uU:Ct:=⟨[.val (.sl a9),.agg a9,.fn 80 0],[.val cI,.val .bool],fun d=>[d.1.Pairwise fA],fun d=>((cH d.1 d.2.1,(bif decide (cH d.1 d.2.1<d.1.length) then decide (dC (d.1.getD (cH d.1 d.2.1).toNat default) d.2.1=0) else false),()),())⟩
def DY:aC uU.ps->aN:=(fun d=>{loops:=(fun n=>match n with|3=>some (fun S=>{ι:=Int×Int,qn:=⟨fun k_=>∀(i:Int)(j:Int),k_ (i,j),fun k_ h_ i=>h_ i.1 i.2,fun k_=>∃ (i:Int) (j:Int),k_ (i,j),fun k_ ⟨i,j,h_⟩=>⟨_,h_⟩⟩,μ:=fun i=>(i.2-i.1).toNat,inv:=fun i=>0<=i.1/\i.1<=cH d.1 d.2.1/\cH d.1 d.2.1<=i.2/\i.2<=d.1.length,keep:=[0,2,4,8],slots:=fun i=>[(9,.int .i64 i.1),(10,.int .i64 i.2)],keepN:=[80],names:=fun i=>[]})|_=>none)})
def lm(e f:Int) :=
 dR IntKind.u64 (IntKind.wrap .u64 (IntKind.wrap .i64 (e+f))) (1:Int)
theorem zn :
 ∀(a:List (Int×Int×List Int))(b c:Int)(d:List Int),(a.length<=maxLen/\ ∀(e:Int×Int×List Int),e∈a->ao e.1/\ao e.2.1/\e.2.2.length<=maxLen/\ ∀(f:Int),f∈e.2.2->0<=f/\f<=255)/\(ao b/\ao c/\d.length<=maxLen/\ ∀(e:Int),e∈d->0<=e/\e<=255)/\True/\True->List.Pairwise fA a->(∃(e:Int) (f:Int),(0<=e/\e<=cH a (b,c,d)/\cH a (b,c,d)<=f/\f<=(a.length:Int))/\a=a/\(a.length:Int)=(a.length:Int)/\(0:Int)=e/\(a.length:Int)=f/\b=b/\c=c/\d=d/\True)/\ ∀(e f:Int),0<=e/\e<=cH a (b,c,d)/\cH a (b,c,d)<=f/\f<=(a.length:Int)->ah (decide (e<f)) ((0:Int)<=1/\0<=IntKind.wrap .i64 (lm e f)/\IntKind.wrap .i64 (lm e f)<(a.length:Int)/\ah (decide (dC (a.getD (Int.toNat (IntKind.wrap .i64 (lm e f))) default) (b,c,d)<0)) (∃(g:Int) (h:Int),(0<=g/\g<=cH a (b,c,d)/\cH a (b,c,d)<=h/\h<=(a.length:Int))/\Int.toNat (h -g)<Int.toNat (f -e)/\a=a/\(a.length:Int)=(a.length:Int)/\IntKind.wrap .i64 (IntKind.wrap
 .i64 (lm e f)+(1:Int))=g/\f=h/\b=b/\c=c/\d=d/\True) (∃(g:Int) (h:Int),(0<=g/\g<=cH a (b,c,d)/\cH a (b,c,d)<=h/\h<=(a.length:Int))/\Int.toNat (h -g)<Int.toNat (f -e)/\a=a/\(a.length:Int)=(a.length:Int)/\e=g/\IntKind.wrap .i64 (lm e f)=h/\b=b/\c=c/\d=d/\True)) (∀(g:Bool),g=decide (e<(a.length:Int))->(g->(g->g)/\(g->g)/\0<=e/\e<(a.length:Int)/\True)/\(g->(g->g)/\True)/\(g->(g->g)/\(g->g)/\(g->g)/\True)/\(g->(g->g)/\True)/\(g->g)/\e=cH a (b,c,d)/\(bif g then decide (dC (a.getD e.toNat default) (b,c,d)=0) else false)=bif decide (cH a (b,c,d)<(a.length:Int)) then decide (dC (a.getD (Int.toNat (cH a (b,c,d))) default) (b,c,d)=0) else false):=by
  delta lm
  rintro x p1 p2 p3 ⟨⟨hl,-⟩,-⟩ hs
  simp only[maxLen] at hl
  obtain⟨q0,q1⟩:=kq (fun y=>decide (dC y (p1,p2,p3)<0)) x
  refine⟨⟨0,x.length,⟨by omega,q0,q1,by omega⟩,(by repeat' first|exact trivial|refine⟨trivial,?_⟩|refine⟨(by with_reducible rfl),?_⟩|refine⟨ad (by omega) (by omega),?_⟩|refine⟨rfl,?_⟩)⟩,?_⟩
  rintro i j ⟨h0,h1,h2,h3⟩
  refine aq (fun hb=>?_) (fun hb=>?_)
  ·have hb:=of_decide_eq_true hb
   rw[sa h0 (by omega) (by omega)]
   refine⟨by omega,by omega,by omega,aq (fun hc=>?_) (fun hc=>?_)⟩
   ·have hc:=(wo hs (by omega) (by omega)).1 (of_decide_eq_true hc)
    rw[ad (by omega) (by omega)]
    exact⟨(i+j)/2+1,j,⟨by omega,by omega,h2,h3⟩,by omega,(by repeat' first|exact trivial|refine⟨trivial,?_⟩|refine⟨(by with_reducible rfl),?_⟩|refine⟨ad (by omega) (by omega),?_⟩|refine⟨rfl,?_⟩)⟩
   ·have hc:¬ (i+j)/2<cH x (p1,p2,p3):=fun h=>absurd ((wo hs (by omega) (by omega)).2 h) (of_decide_eq_false hc)
    exact⟨i,(i+j)/2,⟨h0,h1,by omega,by omega⟩,by omega,(by repeat' first|exact trivial|refine⟨trivial,?_⟩|refine⟨(by with_reducible rfl),?_⟩|refine⟨ad (by omega) (by omega),?_⟩|refine⟨rfl,?_⟩)⟩
  ·have hb:=of_decide_eq_false hb
   have:i=cH x (p1,p2,p3):=by omega
   subst this
   (repeat (intro (b_:Bool) (hb_:b_=_);(repeat refine⟨(by first|(simp;done)|(rw[hb_];simp;done)|(rw[hb_];simp;omega)|(rw[hb_];simp;intros;omega)|(rw[hb_];simp +contextual;done)),?_⟩);subst hb_))
   exact rfl
theorem DT:aG Try.prog GL 79 uU.spec:=Ct.okH _ Try.func79 (by kernel_rfl) (ay aP uB) aD DY (aQ (by kernel_rfl) zn)
abbrev sJ:OT := .pair cI (.pair cI (.pair (.hole 0) (.pair (.hole 1) (.pair (.hole 2) (.pair (.hole 3) (.pair (.hole 4) (.pair (.hole 5) (.hole 6))))))))
def cG(now ord:Int)(l:List af):Prop:=(0<=now/\now<=2000000000000)/\(0<=ord/\ord<=1000000000000000)/\l.Pairwise fA/\(∀ x∈l,x.2.1<ord)/\l.length<=4096
theorem pD{α:Type}{p q:α->Bool}:∀{l:List α},(∀ x∈l,p x=q x)->l.takeWhile p=l.takeWhile q/\l.dropWhile p=l.dropWhile q
 | [],_=>⟨rfl,rfl⟩
 | a::l,h=>by
  obtain⟨h1,h2⟩:=pD (l:=l) fun x hx=>h x (List.mem_cons_of_mem _ hx)
  have ha:=h a (List.mem_cons_self ..)
  rw[List.takeWhile_cons,List.takeWhile_cons,List.dropWhile_cons,List.dropWhile_cons,ha,h1,h2]
  exact⟨rfl,rfl⟩
theorem yj{l:List af}{t:af}(ht:∀ x∈l,x.2.1<t.2.1):l.take (cH l t).toNat++([t]++l.drop (cH l t).toNat)=bX l t:=by
 obtain⟨e1,e2⟩:=pD (p:=fun x=>decide (dC x t<0)) (q:=fun x=>decide (x.1<=t.1)) (l:=l) fun x hx=>by
  have:=ht x hx
  apply decide_eq_decide.2
  rw[qH]
  unfold fA;omega
 obtain⟨t2,t3⟩:=xc (fun x=>decide (dC x t<0)) l
 unfold bX
 rw[t2,t3,e1,e2]
 rfl
theorem zg(now d:Int)(b:List Int):∀(n:Nat)(k:Int){s:Int×List af},¬ s.2.length<4096->bA now d b n k s=s
 | 0,k,s,h=>rfl
 | n+1,k,s,h=>by rw[bA,if_neg h]
theorem cG.next{now o a:Int}{ys:List af}{b:List Int}(h:cG now o ys)(h1:o<1000000000000000)(hl:ys.length<4096):cG now (o+1) (bX ys (a,o,b)):=by
 obtain⟨h2,h3,h4,h5,h6⟩:=h
 refine⟨h2,by omega,uv h4 h5,fun x hx=>?_,by rw[lX];omega⟩
 rcases i7.1 hx with rfl|hx
 ·show o<o+1;omega
 ·have:=h5 x hx;omega
def uF:Ct:=⟨[.box 28 sJ,.own 53 a9,.val (.sl aV),.val (.sl fe),.val cI],[.own 53 a9],fun d=>[cG d.1.1 d.1.2.1 d.2.1,d.1.2.1<=900000000000000,fZ (bi d.2.2.2.1 d.2.2.2.2.1.toNat),0<=d.2.2.2.2.1,(d.2.2.1.length:Int)<=1000000],fun d=>(((bg d.1.1 d.2.2.1 (bi d.2.2.2.1 d.2.2.2.2.1.toNat) (d.1.2.1,d.2.1)).2,()),((d.1.1,(bg d.1.1 d.2.2.1 (bi d.2.2.2.1 d.2.2.2.2.1.toNat) (d.1.2.1,d.2.1)).1,d.1.2.2),()))⟩
def BY:aC uF.ps->aN:=(fun d=>{loops:=(fun n=>match n with|7=>some (fun S=>{ι:=Int×Int×(List af),qn:=⟨fun k_=>∀(k:Int)(o:Int)(ys:(List af)),k_ (k,o,ys),fun k_ h_ i=>h_ i.1 i.2.1 i.2.2,fun k_=>∃ (k:Int) (o:Int) (ys:(List af)),k_ (k,o,ys),fun k_ ⟨k,o,ys,h_⟩=>⟨_,h_⟩⟩,μ:=fun i=>((bi d.2.2.2.1 d.2.2.2.2.1.toNat).2.2+1-i.1).toNat,inv:=fun i=>0<=i.1/\i.1<=(bi d.2.2.2.1 d.2.2.2.2.1.toNat).2.2+1/\cG d.1.1 i.2.1 i.2.2/\i.2.1<=d.1.2.1+i.1/\bA d.1.1 (bi d.2.2.2.1 d.2.2.2.2.1.toNat).2.1 d.2.2.1 ((bi d.2.2.2.1 d.2.2.2.2.1.toNat).2.2+1-i.1).toNat i.1 (i.2.1,i.2.2)=bg d.1.1 d.2.2.1 (bi d.2.2.2.1 d.2.2.2.2.1.toNat) (d.1.2.1,d.2.1),keep:=[0,2,11],slots:=fun i=>[(1,.own 524288 3),(12,.int .i64 i.1)],keepN:=[192],names:=fun i=>[(1048576,.live (.cells 28 (dM sJ (d.1.1,i.2.1,d.1.2.2) 1 0))),(524288,.live (.row 53 a9 i.2.2)),(1572864,.dead),(1572865,.dead),(1572866,.dead),(1572867,.dead),(1572868,.dead),(1572869,.dead),(1572870,.dead)]})|_=>none),cuts:=(fun n=>match n with|4=>some (fun S=>{ι:=a7,inv:=fun i=>i=bi d.2.2.2.1 d.2.2.2.2.1.toNat,keep:=[0,1,2,11],slots:=fun i=>[],keepN:=[1048576,2097152],names:=fun i=>[(1572864,.dead),(1572865,.dead),(1572866,.dead),(1572867,.dead),(1572868,.dead),(1572869,.dead),(1572870,.dead),(192,.live (.cells 67 [.bool i.1,.int .i64 i.2.1,.int .i64 i.2.2]))]})|_=>none)})
def jW(a:Int)(k:List Int)(n:a7)(o p:Int) :=
 (IntKind.wrap .i64 (IntKind.wrap .i64 (IntKind.wrap .i64 (a+(1:Int))+n.2.1)+o),p,k)
def df(l:List (Bool×Int×Int))(m:Int) :=
 bi l m.toNat
theorem yL :
 ∀(a b:Int)(c d e f g h i:SV)(j:List (Int×Int×List Int))(k:List Int)(l:List (Bool×Int×Int))(m:Int),(ao a/\ao b/\True/\True/\True/\True/\True/\True/\True)/\(j.length<=maxLen/\ ∀(n:Int×Int×List Int),n∈j->ao n.1/\ao n.2.1/\n.2.2.length<=maxLen/\ ∀(o:Int),o∈n.2.2->0<=o/\o<=255)/\(k.length<=maxLen/\ ∀(n:Int),n∈k->0<=n/\n<=255)/\(l.length<=maxLen/\ ∀(n:Bool×Int×Int),n∈l->True/\ao n.2.1/\ao n.2.2)/\ao m/\True->cG a b j/\b<=900000000000000/\fZ (df l m)/\0<=m/\(k.length:Int)<=1000000->ah (decide (m<(l.length:Int))) (0<=m/\m<(l.length:Int)/\ ∃(n:a7),n=bi l m.toNat/\k=k/\a=a/\b=b/\c=c/\d=d/\e=e/\f=f/\g=g/\h=h/\i=i/\j=j/\(l.getD m.toNat default).1=n.1/\(l.getD m.toNat default).2.1=n.2.1/\(l.getD m.toNat default).2.2=n.2.2/\True) (∃(n:a7),n=bi l m.toNat/\k=k/\a=a/\b=b/\c=c/\d=d/\e=e/\f=f/\g=g/\h=h/\i=i/\j=j/\false=n.1/\(0:Int)=n.2.1/\(0:Int)=n.2.2/\True)/\
 ∀(n:a7),n=bi l m.toNat->ah n.1 (j=(bg a k (df l m) (b,j)).2/\(a,b,c,d,e,f,g,h,i)=(a,(bg a k (df l m) (b,j)).1,c,d,e,f,g,h,i)) ((∃(o:Int) (p:Int),∃(q:List af),(0<=o/\o<=(df l m).2.2+(1:Int)/\cG a p q/\p<=b+o/\bA a (df l m).2.1 k (Int.toNat ((df l m).2.2+(1:Int) -o)) o (p,q)=bg a k (df l m) (b,j))/\k=k/\(0:Int)=o/\n.1=n.1/\n.2.1=n.2.1/\n.2.2=n.2.2/\a=a/\b=p/\c=c/\d=d/\e=e/\f=f/\g=g/\h=h/\i=i/\j=q/\True)/\ ∀(o p:Int)(q:List af),0<=o/\o<=(df l m).2.2+(1:Int)/\cG a p q/\p<=b+o/\bA a (df l m).2.1 k (Int.toNat ((df l m).2.2+(1:Int) -o)) o (p,q)=bg a k (df l m) (b,j)-> ∀(r:Bool),r=decide (o<=n.2.2)->(r->(r->r)/\True)/\(r->(r->r)/\True)/\(r->r)/\ah (bif r then decide ((q.length:Int)<4096) else false) ((k.length:Int)<=1099511627776/\List.Pairwise fA q/\List.length [(jW a k n o p)]=(1:Nat)/\0<=cH q (jW a k n o p)/\cH q (jW a k n
 o p)<=(q.length:Int)/\(q.length+(1:Nat))*(40:Nat)<=(140737488355328:Nat)/\ ∃(s:Int) (t:Int),∃(u:List af),(0<=s/\s<=(df l m).2.2+(1:Int)/\cG a t u/\t<=b+s/\bA a (df l m).2.1 k (Int.toNat ((df l m).2.2+(1:Int) -s)) s (t,u)=bg a k (df l m) (b,j))/\Int.toNat ((df l m).2.2+(1:Int) -s)<Int.toNat ((df l m).2.2+(1:Int) -o)/\k=k/\IntKind.wrap .i64 (o+(1:Int))=s/\n.1=n.1/\n.2.1=n.2.1/\n.2.2=n.2.2/\a=a/\IntKind.wrap .i64 (p+(1:Int))=t/\c=c/\d=d/\e=e/\f=f/\g=g/\h=h/\i=i/\List.take (Int.toNat (cH q (jW a k n o p))) q++([(jW a k n o p)]++List.drop (Int.toNat (cH q (jW a k n o p))) q)=u/\True) (q=(bg a k (df l m) (b,j)).2/\(a,p,c,d,e,f,g,h,i)=(a,(bg a k (df l m) (b,j)).1,c,d,e,f,g,h,i))):=by
  delta jW df
  rintro now ord s0 s1 s2 s3 s4 s5 s6 l b fs i-⟨hs,hor,hf,hi,hb⟩
  refine⟨aq (fun h=>?_) (fun h=>?_),?_⟩
  ·exact⟨hi,of_decide_eq_true h,_,rfl,(by repeat' first|exact trivial|refine⟨trivial,?_⟩|refine⟨(by with_reducible rfl),?_⟩|refine⟨ad (by omega) (by omega),?_⟩|refine⟨rfl,?_⟩)⟩
  ·have h:=of_decide_eq_false h
   have e:bi fs i.toNat=(false,0,0):=by unfold bi;rw[List.getD_eq_getElem?_getD,List.getElem?_eq_none (by omega)];rfl
   rw[e]
   exact⟨_,rfl,(by repeat' first|exact trivial|refine⟨trivial,?_⟩|refine⟨(by with_reducible rfl),?_⟩|refine⟨ad (by omega) (by omega),?_⟩|refine⟨rfl,?_⟩)⟩
  rintro F hF
  rw[← hF] at hf ⊢
  obtain⟨hf1,hf2⟩:=hf
  refine aq (fun h=>?_) (fun h=>?_)
  ·unfold bg
   rw[if_pos h];exact⟨rfl,rfl⟩
  have eF:bg now b F (ord,l)=bA now F.2.1 b (F.2.2+1).toNat 0 (ord,l):=by unfold bg;rw[if_neg (by rw[h];simp)]
  rw[eF]
  have hs0:=hs
  obtain⟨n0,o0,-,-,hl0⟩:=hs0
  refine⟨⟨0,ord,l,⟨by omega,by omega,hs,by omega,by rw[Int.sub_zero]⟩,(by repeat' first|exact trivial|refine⟨trivial,?_⟩|refine⟨(by with_reducible rfl),?_⟩|refine⟨ad (by omega) (by omega),?_⟩|refine⟨rfl,?_⟩)⟩,?_⟩
  rintro k o ys ⟨k0,k1,ho,ho2,he⟩
  have ho0:=ho
  obtain⟨-,o1,o2,o3,o4⟩:=ho0
  (repeat (intro (b_:Bool) (hb_:b_=_);(repeat refine⟨(by first|(simp;done)|(rw[hb_];simp;done)|(rw[hb_];simp;omega)|(rw[hb_];simp;intros;omega)|(rw[hb_];simp +contextual;done)),?_⟩);subst hb_))
  refine iA (fun h1 h2=>?_) (fun h1=>?_)
  ·have h1:=of_decide_eq_true h1
   have h2:=of_decide_eq_true h2
   obtain⟨n,hn⟩:∃ n,(F.2.2+1-k).toNat=n+1:=⟨(F.2.2-k).toNat,by omega⟩
   rw[ad (n:=now+1) (by omega) (by omega),ad (n:=now+1+F.2.1) (by omega) (by omega),ad (n:=now+1+F.2.1+k) (by omega) (by omega)]
   obtain⟨q0,q1⟩:=kq (fun x=>decide (dC x (now+1+F.2.1+k,o,b)<0)) ys
   refine⟨by omega,o2,rfl,q0,q1,by omega,k+1,o+1,bX ys (now+1+F.2.1+k,o,b),⟨by omega,by omega,ho.next (by omega) (by omega),by omega,?_⟩,by omega,?_⟩
   ·rw[← he,hn,show (F.2.2+1-(k+1)).toNat=n by omega]
    rw[bA,if_pos (by show ys.length<4096;omega)]
   ·(repeat first|refine⟨trivial,?_⟩|refine⟨(by with_reducible rfl),?_⟩|refine⟨ad (by omega) (by omega),?_⟩)
    exact⟨yj o3,trivial⟩
  ·have hz:bA now F.2.1 b (F.2.2+1-k).toNat k (o,ys)=(o,ys):=by
    rcases h1 with h1|h1
    ·have h1:=of_decide_eq_false h1
     rw[show (F.2.2+1-k).toNat=0 by omega];rfl
    ·have h1:=of_decide_eq_false h1
     exact zg _ _ _ _ _ (by show ¬ ys.length<4096;omega)
   rw[hz] at he
   rw[← he];exact⟨rfl,rfl⟩
theorem sI:aG Try.prog GL 57 uF.spec:=Ct.okH _ Try.func57 (by kernel_rfl) (ay (ay (ay aP kY) DT) DS) aD BY (aQ (by kernel_rfl) yL)
abbrev bE(l:List ax)(i:Int):Int:=eX (fun x=>decide (bl x.1 i<0)) l
theorem nD{a b:Int}:bl a b<0↔a<b:=by
 unfold bl
 by_cases h1:a<b
 ·simp[h1]
 ·by_cases h2:b<a <;> simp[h1,h2]
theorem mT{l:List ax}{t:Int}{h:Int}(hs:l.Pairwise fun a b=>a.1<b.1)(h0:0<=h)(h1:h<l.length):bl (l.getD h.toNat default).1 t<0↔h<bE l t:=by
 rw[← vN (p:=fun x=>decide (bl x.1 t<0)) (R:=fun a b:ax=>a.1<b.1) (fun a b hab hb=>?_) hs h0 h1,decide_eq_true_eq]
 simp only[decide_eq_true_eq,nD] at hb ⊢
 omega
def tP:Ct:=⟨[.agg eh,.val cI],[.val cI],fun _=>[],fun d=>((bl d.1.1 d.2.1,()),())⟩
def BK:aC tP.ps->aN:=(fun _=>{})
theorem Aw :
 ∀(a:Int)(b:List Int)(c:Int),(ao a/\b.length<=maxLen/\ ∀(d:Int),d∈b->0<=d/\d<=255)/\ao c/\True->True->bl a c=bl a c:=by
  intros;rfl
theorem Ad:aG Try.prog GL 89 tP.spec:=Ct.okH _ Try.func89 (by kernel_rfl) (ay aP sS) aD BK (aQ (by kernel_rfl) Aw)
def tX:Ct:=⟨[.val (.sl eh),.val cI,.fn 89 0],[.val cI,.val .bool],fun d=>[d.1.Pairwise fun a b=>a.1<b.1],fun d=>((bE d.1 d.2.1,(bif decide (bE d.1 d.2.1<d.1.length) then decide (bl (d.1.getD (bE d.1 d.2.1).toNat default).1 d.2.1=0) else false),()),())⟩
def zS:aC tX.ps->aN:=(fun d=>{loops:=(fun n=>match n with|3=>some (fun S=>{ι:=Int×Int,qn:=⟨fun k_=>∀(i:Int)(j:Int),k_ (i,j),fun k_ h_ i=>h_ i.1 i.2,fun k_=>∃ (i:Int) (j:Int),k_ (i,j),fun k_ ⟨i,j,h_⟩=>⟨_,h_⟩⟩,μ:=fun i=>(i.2-i.1).toNat,inv:=fun i=>0<=i.1/\i.1<=bE d.1 d.2.1/\bE d.1 d.2.1<=i.2/\i.2<=d.1.length,keep:=[0,1,2,8],slots:=fun i=>[(9,.int .i64 i.1),(10,.int .i64 i.2)],names:=fun i=>[]})|_=>none)})
def kO(c d:Int) :=
 dR IntKind.u64 (IntKind.wrap .u64 (IntKind.wrap .i64 (c+d))) (1:Int)
theorem Dt :
 ∀(a:List (Int×List Int))(b:Int),(a.length<=maxLen/\ ∀(c:Int×List Int),c∈a->ao c.1/\c.2.length<=maxLen/\ ∀(d:Int),d∈c.2->0<=d/\d<=255)/\ao b/\True/\True->List.Pairwise (fun (c d:Int×List Int)=>c.1<d.1) a->(∃(c:Int) (d:Int),(0<=c/\c<=bE a b/\bE a b<=d/\d<=(a.length:Int))/\a=a/\b=b/\(a.length:Int)=(a.length:Int)/\(0:Int)=c/\(a.length:Int)=d/\True)/\ ∀(c d:Int),0<=c/\c<=bE a b/\bE a b<=d/\d<=(a.length:Int)->ah (decide (c<d)) ((0:Int)<=1/\0<=IntKind.wrap .i64 (kO c d)/\IntKind.wrap .i64 (kO c d)<(a.length:Int)/\ah (decide (bl (a.getD (Int.toNat (IntKind.wrap .i64 (kO c d))) default).1 b<0)) (∃(e:Int) (f:Int),(0<=e/\e<=bE a b/\bE a b<=f/\f<=(a.length:Int))/\Int.toNat (f -e)<Int.toNat (d -c)/\a=a/\b=b/\(a.length:Int)=(a.length:Int)/\IntKind.wrap .i64 (IntKind.wrap .i64 (kO c d)+(1:Int))=e/\d=f/\True) (∃(e:Int) (f:Int),(0<=e/\e<=bE a b/\bE a
 b<=f/\f<=(a.length:Int))/\Int.toNat (f -e)<Int.toNat (d -c)/\a=a/\b=b/\(a.length:Int)=(a.length:Int)/\c=e/\IntKind.wrap .i64 (kO c d)=f/\True)) (∀(e:Bool),e=decide (c<(a.length:Int))->(e->(e->e)/\(e->e)/\0<=c/\c<(a.length:Int)/\True)/\(e->(e->e)/\True)/\(e->(e->e)/\(e->e)/\(e->e)/\True)/\(e->(e->e)/\True)/\(e->e)/\c=bE a b/\(bif e then decide (bl (a.getD c.toNat default).1 b=0) else false)=bif decide (bE a b<(a.length:Int)) then decide (bl (a.getD (Int.toNat (bE a b)) default).1 b=0) else false):=by
  delta kO
  rintro x p ⟨⟨hl,-⟩,-⟩ hs
  simp only[maxLen] at hl
  obtain⟨q0,q1⟩:=kq (fun y:ax=>decide (bl y.1 p<0)) x
  refine⟨⟨0,x.length,⟨by omega,q0,q1,by omega⟩,(by repeat' first|exact trivial|refine⟨trivial,?_⟩|refine⟨(by with_reducible rfl),?_⟩|refine⟨ad (by omega) (by omega),?_⟩|refine⟨rfl,?_⟩)⟩,?_⟩
  rintro i j ⟨h0,h1,h2,h3⟩
  refine aq (fun hb=>?_) (fun hb=>?_)
  ·have hb:=of_decide_eq_true hb
   rw[sa h0 (by omega) (by omega)]
   refine⟨by omega,by omega,by omega,aq (fun hc=>?_) (fun hc=>?_)⟩
   ·have hc:=(mT hs (by omega) (by omega)).1 (of_decide_eq_true hc)
    rw[ad (by omega) (by omega)]
    exact⟨(i+j)/2+1,j,⟨by omega,by omega,h2,h3⟩,by omega,(by repeat' first|exact trivial|refine⟨trivial,?_⟩|refine⟨(by with_reducible rfl),?_⟩|refine⟨ad (by omega) (by omega),?_⟩|refine⟨rfl,?_⟩)⟩
   ·have hc:¬ (i+j)/2<bE x p:=fun h=>absurd ((mT hs (by omega) (by omega)).2 h) (of_decide_eq_false hc)
    exact⟨i,(i+j)/2,⟨h0,h1,by omega,by omega⟩,by omega,(by repeat' first|exact trivial|refine⟨trivial,?_⟩|refine⟨(by with_reducible rfl),?_⟩|refine⟨ad (by omega) (by omega),?_⟩|refine⟨rfl,?_⟩)⟩
  ·have hb:=of_decide_eq_false hb
   have:i=bE x p:=by omega
   subst this
   (repeat (intro (b_:Bool) (hb_:b_=_);(repeat refine⟨(by first|(simp;done)|(rw[hb_];simp;done)|(rw[hb_];simp;omega)|(rw[hb_];simp;intros;omega)|(rw[hb_];simp +contextual;done)),?_⟩);subst hb_))
   exact rfl
theorem Bk:aG Try.prog GL 88 tX.spec:=Ct.okH _ Try.func88 (by kernel_rfl) (ay aP Ad) aD zS (aQ (by kernel_rfl) Dt)
abbrev BC:OT := .pair (.hole 0) (.pair (.hole 1) (.pair cI (.pair (.hole 2) (.pair cI (.pair (.row 22 (.sl aV)) (.pair (.row 51 eh) (.pair (.hole 3) (.hole 4))))))))
def nF(kn w:Int)(g:List (List Int))(e:List ax):Prop:=(0<=kn/\kn<=100000)/\(0<=w/\w<=100000)/\g.length<=100000/\e.length<=100000/\e.Pairwise fun a b=>a.1<b.1
theorem x8{l:List ax}{i:Int}(hs:l.Pairwise fun a b=>a.1<b.1):(bif decide (bE l i<l.length) then decide (bl (l.getD (bE l i).toNat default).1 i=0) else false)=l.any fun x=>decide (x.1=i):=by
 obtain⟨q0,q1⟩:=kq (fun x=>decide (bl x.1 i<0)) l
 have q0:0<=bE l i:=q0
 have q1:bE l i<=l.length:=q1
 apply Bool.eq_iff_iff.2
 rw[List.any_eq_true,om,decide_eq_true_eq]
 have ez:∀ a:Int,bl a i=0↔a=i:=fun a=>by
  unfold bl
  by_cases h1:a<i
  ·simp[h1];omega
  ·by_cases h2:i<a
   ·simp[h1,h2];omega
   ·simp[h1,h2];omega
 constructor
 ·rintro⟨h1,h2⟩
  exact⟨_,ce q0 h1,decide_eq_true ((ez _).1 h2)⟩
 ·rintro⟨x,hx,h⟩
  have h:=of_decide_eq_true h
  obtain⟨j,hj,rfl⟩:=List.mem_iff_getElem.1 hx
  have g:∀ k:Nat,(hk:k<l.length)->l.getD k default=l[k]:=fun k hk=>by rw[List.getD_eq_getElem?_getD,List.getElem?_eq_getElem hk];rfl
  have k1:¬ (j:Int)<bE l i:=fun k=>by
   have:=(mT (t:=i) (h:=(j:Int)) hs (by omega) (by omega)).2 k
   rw[nD,Int.toNat_natCast,g j hj,h] at this
   omega
  have k2:bE l i<l.length:=by omega
  refine⟨k2,(ez _).2 ?_⟩
  have k3:¬ bl (l.getD (bE l i).toNat default).1 i<0:=fun k=>absurd ((mT hs q0 k2).1 k) (by omega)
  rw[nD,g _ (by omega)] at k3
  rw[g _ (by omega)]
  by_cases hq:(bE l i).toNat=j
  ·simp only[hq,h]
  ·have:=List.pairwise_iff_getElem.1 hs (bE l i).toNat j (by omega) hj (by omega)
   rw[h] at this;omega
theorem Bt{l:List ax}{x:ax}:l.take (bE l x.1).toNat++([x]++l.drop (bE l x.1).toNat)=cW l x:=by
 obtain⟨e1,e2⟩:=pD (p:=fun y:ax=>decide (bl y.1 x.1<0)) (q:=fun y=>decide (y.1<x.1)) (l:=l) fun y hy=>by
  apply decide_eq_decide.2
  exact nD
 obtain⟨t2,t3⟩:=xc (fun y:ax=>decide (bl y.1 x.1<0)) l
 unfold cW
 rw[t2,t3,e1,e2]
 rfl
theorem sm{e:List ax}{g:List (List Int)}(h:e=[]∨(e.getD 0 default).1≠g.length):bZ e g=(g,e):=by
 cases e with
 | nil=>rfl
 | cons x r =>
  rcases h with h|h
  ·cases h
  ·rw[bZ,if_neg (show ¬ x.1=_ from h)]
def vT:Ct:=⟨[.box 28 BC,.val cI,.val (.sl aV)],[],fun d=>[nF d.1.2.2.2.2.1 d.1.2.2.1 d.1.2.2.2.2.2.1 d.1.2.2.2.2.2.2.1],fun d=>((),((d.1.1,d.1.2.1,d.1.2.2.1,d.1.2.2.2.1,d.1.2.2.2.2.1,(cd (d.1.2.2.2.2.1+d.1.2.2.1) (d.1.2.2.2.2.2.1,d.1.2.2.2.2.2.2.1) d.2.1 d.2.2.1).1,(cd (d.1.2.2.2.2.1+d.1.2.2.1) (d.1.2.2.2.2.2.1,d.1.2.2.2.2.2.2.1) d.2.1 d.2.2.1).2,d.1.2.2.2.2.2.2.2),()))⟩
def z6:aC vT.ps->aN:=(fun d=>{loops:=(fun n=>match n with|3=>some (fun S=>{ι:=(List (List Int))×(List ax),qn:=⟨fun k_=>∀(g:(List (List Int)))(e:(List ax)),k_ (g,e),fun k_ h_ i=>h_ i.1 i.2,fun k_=>∃ (g:(List (List Int))) (e:(List ax)),k_ (g,e),fun k_ ⟨g,e,h_⟩=>⟨_,h_⟩⟩,μ:=fun i=>i.2.length,inv:=fun i=>bZ i.2 i.1=bZ d.1.2.2.2.2.2.2.1 (d.1.2.2.2.2.2.1++[d.2.2.1])/\i.1.length+i.2.length<=300000,keep:=[0],slots:=fun i=>[],names:=fun i=>[(1048576,.live (.cells 28 [.hv 1572864 d.1.1,.hv 1572865 d.1.2.1,.int .i64 d.1.2.2.1,.hv 1572866 d.1.2.2.2.1,.int .i64 d.1.2.2.2.2.1,.own 524288 1,.own 524289 2,.hv 1572867 d.1.2.2.2.2.2.2.2.1,.hv 1572868 d.1.2.2.2.2.2.2.2.2])),(524288,.live (.row 22 (.sl aV) i.1)),(524289,.live (.row 51 eh i.2)),(1572864,.dead),(1572865,.dead),(1572866,.dead),(1572867,.dead),(1572868,.dead)]})|_=>none)})
theorem AL :
 ∀(a b:SV)(c:Int)(d:SV)(e:Int)(f:List (List Int))(g:List (Int×List Int))(h i:SV)(j:Int)(k:List Int),(True/\True/\ao c/\True/\ao e/\(f.length<=maxLen/\ ∀(l:List Int),l∈f->l.length<=maxLen/\ ∀(m:Int),m∈l->0<=m/\m<=255)/\(g.length<=maxLen/\ ∀(l:Int×List Int),l∈g->ao l.1/\l.2.length<=maxLen/\ ∀(m:Int),m∈l.2->0<=m/\m<=255)/\True/\True)/\ao j/\(k.length<=maxLen/\ ∀(l:Int),l∈k->0<=l/\l<=255)/\True->(0<=e/\e<=100000)/\(0<=c/\c<=100000)/\f.length<=(100000:Nat)/\g.length<=(100000:Nat)/\List.Pairwise (fun (l m:ax)=>l.1<m.1) g->List.Pairwise (fun (l m:Int×List Int)=>l.1<m.1) g/\ah (decide (j=(f.length:Int))) ((f.length+List.length [k])*(24:Nat)<=(140737488355328:Nat)/\(∃(l:List (List Int)),∃(m:List ax),(bZ m l=bZ g (f++[k])/\l.length+m.length<=(300000:Nat))/\a=a/\b=b/\c=c/\d=d/\e=e/\h=h/\i=i/\f++[k]=l/\g=m/\True)/\ ∀(l:List (List Int))(m:List ax),bZ m l=bZ g
 (f++[k])/\l.length+m.length<=(300000:Nat)-> ∀(n:Bool),n=decide (0<(m.length:Int))->(n->(n->n)/\True)/\(n->(n->n)/\True)/\(n->(n->n)/\True)/\(n->(n->n)/\(0:Int)<=0/\0<(m.length:Int)/\True)/\(n->(n->n)/\True)/\(n->(n->n)/\True)/\(n->(n->n)/\True)/\(n->(n->n)/\True)/\(n->(n->n)/\True)/\(n->(n->n)/\True)/\(n->(n->n)/\(n->n)/\True)/\(n->n)/\ah (bif n then decide ((m.getD (Int.toNat (0:Int)) default).1=(l.length:Int)) else false) ((0:Int)<=0/\0<(m.length:Int)/\(l.length+List.length [(m.getD (Int.toNat (0:Int)) default).2])*(24:Nat)<=(140737488355328:Nat)/\(0:Int)<=1/\1<=(m.length:Int)/\ ∃(o:List (List Int)),∃(p:List ax),(bZ p o=bZ g (f++[k])/\o.length+p.length<=(300000:Nat))/\p.length<m.length/\a=a/\b=b/\c=c/\d=d/\e=e/\h=h/\i=i/\l++[(m.getD (Int.toNat (0:Int)) default).2]=o/\List.drop (Int.toNat (1:Int)) m=p/\True) ((a,b,c,d,e,l,m,h,i)=(a,b,c,d,e,(cd (e+c) (f,g) j k).1,(cd
 (e+c) (f,g) j k).2,h,i))) (∀(l:Bool),l=decide ((f.length:Int)<j)->(l->(l->l)/\True)/\(l->l)/\ ∀(m:Bool),(m=bif l then ! bif decide (bE g j<(g.length:Int)) then decide (bl (g.getD (Int.toNat (bE g j)) default).1 j=0) else false else false)->(m->(m->m)/\True)/\(m->(m->m)/\True)/\(m->(m->m)/\True)/\(m->(m->m)/\True)/\(m->(m->m)/\True)/\(m->(m->m)/\True)/\(m->(m->m)/\(m->m)/\True)/\(m->(m->m)/\(m->m)/\True)/\(m->m)/\ah (bif m then decide (j<IntKind.wrap .i64 (e+c)) else false) (List.length [(j,k)]=(1:Nat)/\0<=bE g j/\bE g j<=(g.length:Int)/\(g.length+(1:Nat))*(32:Nat)<=(140737488355328:Nat)/\(a,b,c,d,e,f,List.take (Int.toNat (bE g j)) g++([(j,k)]++List.drop (Int.toNat (bE g j)) g),h,i)=(a,b,c,d,e,(cd (e+c) (f,g) j k).1,(cd (e+c) (f,g) j k).2,h,i)) ((a,b,c,d,e,f,g,h,i)=(a,b,c,d,e,(cd (e+c) (f,g) j k).1,(cd (e+c) (f,g) j k).2,h,i))):=by
  rintro s0 s1 w s2 kn g e s3 s4 i it-⟨hkn,hw,hg,he,hs⟩
  refine⟨hs,aq (fun h=>?_) (fun h=>?_)⟩
  ·have h:=of_decide_eq_true h
   have eA:cd (kn+w) (g,e) i it=bZ e (g++[it]):=if_pos h
   rw[eA]
   refine⟨by simp only[List.length_singleton];omega,⟨_,_,⟨rfl,by rw[List.length_append,List.length_singleton];omega⟩,(by repeat' first|exact trivial|refine⟨trivial,?_⟩|refine⟨(by with_reducible rfl),?_⟩|refine⟨ad (by omega) (by omega),?_⟩|refine⟨rfl,?_⟩)⟩,?_⟩
   rintro g' e' ⟨ha,hb⟩
   (repeat (intro (b_:Bool) (hb_:b_=_);(repeat refine⟨(by first|(simp;done)|(rw[hb_];simp;done)|(rw[hb_];simp;omega)|(rw[hb_];simp;intros;omega)|(rw[hb_];simp +contextual;done)),?_⟩);subst hb_))
   refine iA (fun h1 h2=>?_) (fun h1=>?_)
   ·have h1:=of_decide_eq_true h1
    have h2:=of_decide_eq_true h2
    cases e' with
    | nil=>simp at h1
    | cons x r =>
     have h2:x.1=(g'.length:Int):=h2
     have hb':g'.length+(r.length+1)<=300000:=hb
     refine⟨by omega,h1,by simp only[List.length_singleton];omega,by omega,by simp only[List.length_cons];omega,g'++[x.2],r,⟨?_,by rw[List.length_append,List.length_singleton];omega⟩,by simp,(by repeat' first|exact trivial|refine⟨trivial,?_⟩|refine⟨(by with_reducible rfl),?_⟩|refine⟨ad (by omega) (by omega),?_⟩|refine⟨rfl,?_⟩)⟩
     rw[← ha,bZ,if_pos h2]
   ·have hz:bZ e' g'=(g',e'):=by
     refine sm ?_
     rcases h1 with h1|h1
     ·have h1:=of_decide_eq_false h1
      exact .inl (List.eq_nil_of_length_eq_zero (by omega))
     ·exact .inr (of_decide_eq_false h1)
    rw[← ha,hz]
  ·have h:=of_decide_eq_false h
   rw[x8 hs,ad (n:=kn+w) (by omega) (by omega)]
   have eB:cd (kn+w) (g,e) i it=if i<g.length∨kn+w<=i∨(e.any fun x=>decide (x.1=i))=true then (g,e) else (g,cW e (i,it)):=if_neg h
   rw[eB]
   (repeat (intro (b_:Bool) (hb_:b_=_);(repeat refine⟨(by first|(simp;done)|(rw[hb_];simp;done)|(rw[hb_];simp;omega)|(rw[hb_];simp;intros;omega)|(rw[hb_];simp +contextual;done)),?_⟩);subst hb_))
   obtain⟨q0,q1⟩:=kq (fun y:ax=>decide (bl y.1 i<0)) e
   cases hany:(e.any fun x=>decide (x.1=i)) with
   | true =>
    rw[if_pos (.inr (.inr rfl))]
    simp only[Bool.not_true,cond_eq_ite,Bool.false_eq_true,if_false,ite_self]
    trivial
   | false =>
    simp only[Bool.not_false]
    refine iA (fun h1 h2=>?_) (fun h1=>?_)
    ·have h2:=of_decide_eq_true h2
     have h1:(g.length:Int)<i:=by simpa[Bool.cond_eq_ite] using h1
     rw[if_neg (by simp;omega)]
     exact⟨rfl,q0,q1,by omega,by rw[Bt (x:=(i,it))]⟩
    ·rw[if_pos]
     rcases h1 with h1|h1
     ·have h1:¬ (g.length:Int)<i:=by simpa[Bool.cond_eq_ite] using h1
      exact .inl (by omega)
     ·exact .inr (.inl (by have:=of_decide_eq_false h1;omega))
theorem CO:aG Try.prog GL 75 vT.spec:=Ct.okH _ Try.func75 (by kernel_rfl) (v4 (ay (ay aP Bk) Du) (d:=77)) aD z6 (aQ (by kernel_rfl) AL)
theorem ni{now:Int}{l:List af}{n:Int}(h0:0<=n)(h1:n<=l.length)(h2:∀ x∈l.take n.toNat,x.1<=now)(h3:¬ n<l.length∨¬ (l.getD n.toNat default).1<=now):n.toNat=(am now l).length:=by
 have e:am now l=l.take n.toNat:=by
  unfold am
  conv=>lhs;rw[← List.take_append_drop n.toNat l]
  rw[List.takeWhile_append_of_pos (fun x hx=>by simpa using h2 x hx)]
  rcases h3 with h3|h3
  ·rw[List.drop_eq_nil_of_le (by omega)];simp
  ·by_cases hn:n<l.length
   ·rw[List.drop_eq_getElem_cons (by omega)]
    rw[List.getD_eq_getElem?_getD,List.getElem?_eq_getElem (by omega)] at h3
    rw[List.takeWhile_cons_of_neg (by simpa using h3),List.append_nil]
   ·rw[List.drop_eq_nil_of_le (by omega)];simp
 rw[e,List.length_take];omega
abbrev Bm:OT := .pair cI (.pair (.hole 0) (.pair (.hole 1) (.pair (.hole 2) (.pair (.hole 3) (.pair (.hole 4) (.pair (.hole 5) (.pair (.row 53 a9) (.hole 6))))))))
abbrev AH:OT := .pair cI (.pair (.hole 0) (.pair (.hole 1) (.pair (.hole 2) (.pair (.hole 3) (.pair (.hole 4) (.pair (.hole 5) (.pair (.rowg 53 a9) (.hole 6))))))))
def v3:Cp:=⟨28,Bm,AH,7,53,a9,fun d=>d.2.2.2.2.2.2.2.1,fun _=>[],fun d=>(d.1,d.2.1,d.2.2.1,d.2.2.2.1,d.2.2.2.2.1,d.2.2.2.2.2.1,d.2.2.2.2.2.2.1,(),d.2.2.2.2.2.2.2.2),fun d=>(am d.1 d.2.2.2.2.2.2.2.1).length⟩
def AF:v3.o.D->aN:=(fun d=>{loops:=(fun n=>match n with|2=>some (fun S=>{ι:=Int,μ:=fun i=>(d.2.2.2.2.2.2.2.1.length-i).toNat,inv:=fun i=>0<=i/\i<=d.2.2.2.2.2.2.2.1.length∧∀ x∈d.2.2.2.2.2.2.2.1.take i.toNat,x.1<=d.1,keep:=[0,1],slots:=fun i=>[(5,.int .i64 i)],keepN:=[1048576,2097152],names:=fun i=>[(1572864,.dead),(1572865,.dead),(1572866,.dead),(1572867,.dead),(1572868,.dead),(1572869,.dead),(1572870,.dead)]})|_=>none)})
def dY(k:Bool) :=
 k->(k->k)/\True
theorem EG :
 ∀(a:Int)(b c d e f g:SV)(h:List (Int×Int×List Int))(i:SV),ao a/\True/\True/\True/\True/\True/\True/\(h.length<=maxLen/\ ∀(j:Int×Int×List Int),j∈h->ao j.1/\ao j.2.1/\j.2.2.length<=maxLen/\ ∀(k:Int),k∈j.2.2->0<=k/\k<=255)/\True->True->(∃(j:Int),(0<=j/\j<=(h.length:Int)/\ ∀(k:Int×Int×List Int),k∈List.take j.toNat h->k.1<=a)/\(0:Int)=j/\a=a/\b=b/\c=c/\d=d/\e=e/\f=f/\g=g/\i=i/\h=h/\True)/\ ∀(j:Int),(0<=j/\j<=(h.length:Int)/\ ∀(k:Int×Int×List Int),k∈List.take j.toNat h->k.1<=a)-> ∀(k:Bool),k=decide (j<(h.length:Int))->(dY k)/\(dY k)/\(k->(k->k)/\(k->k)/\0<=j/\j<(h.length:Int)/\True)/\(dY k)/\(dY k)/\(dY k)/\(dY k)/\(dY k)/\(k->(k->k)/\(k->k)/\True)/\(k->k)/\ah (bif k then decide ((h.getD j.toNat default).1<=a) else false) (∃(l:Int),(0<=l/\l<=(h.length:Int)/\ ∀(m:Int×Int×List Int),m∈List.take l.toNat h->m.1<=a)/\Int.toNat ((h.length:Int) -l)<Int.toNat ((h.length:Int)
 -j)/\IntKind.wrap .i64 (j+(1:Int))=l/\a=a/\b=b/\c=c/\d=d/\e=e/\f=f/\g=g/\i=i/\h=h/\True) ((0:Int)<=0/\0<=j/\j<=(h.length:Int)/\0<=j/\j<=(h.length:Int)/\(h.length:Int)<=(h.length:Int)/\Int.toNat (0:Int)=(0:Nat)/\j.toNat -Int.toNat (0:Int)=List.length (am a h)/\h=h/\j.toNat=List.length (am a h)/\Int.toNat (h.length:Int) -j.toNat=h.length -List.length (am a h)/\(a,b,c,d,e,f,g,(),i)=(a,b,c,d,e,f,g,(),i)):=by
  delta dY
  rintro now s0 s1 s2 s3 s4 s5 l s6 ⟨-,-,-,-,-,-,-,⟨hl,-⟩,-⟩ -
  simp only[maxLen] at hl
  refine⟨⟨0,⟨by omega,by omega,by simp⟩,(by repeat' first|exact trivial|refine⟨trivial,?_⟩|refine⟨(by with_reducible rfl),?_⟩|refine⟨ad (by omega) (by omega),?_⟩|refine⟨rfl,?_⟩)⟩,?_⟩
  rintro n ⟨n0,n1,hn⟩
  (repeat (intro (b_:Bool) (hb_:b_=_);(repeat refine⟨(by first|(simp;done)|(rw[hb_];simp;done)|(rw[hb_];simp;omega)|(rw[hb_];simp;intros;omega)|(rw[hb_];simp +contextual;done)),?_⟩);subst hb_))
  refine iA (fun h1 h2=>?_) (fun h1=>?_)
  ·have h1:=of_decide_eq_true h1
   have h2:=of_decide_eq_true h2
   refine⟨n+1,⟨by omega,by omega,fun x hx=>?_⟩,by omega,(by repeat' first|exact trivial|refine⟨trivial,?_⟩|refine⟨(by with_reducible rfl),?_⟩|refine⟨ad (by omega) (by omega),?_⟩|refine⟨rfl,?_⟩)⟩
   rw[dK n0 h1] at hx
   rcases List.mem_append.1 hx with hx|hx
   ·exact hn x hx
   ·rw[List.mem_singleton.1 hx];exact h2
  ·have e:=ni n0 n1 hn (h1.imp of_decide_eq_false of_decide_eq_false)
   have e0:Int.toNat 0=0:=rfl
   have hle:n.toNat<=l.length:=by omega
   refine⟨by omega,n0,n1,n0,n1,by omega,rfl,by omega,rfl,e,by omega,rfl⟩
theorem Cz:aG Try.prog GL 74 v3.spec:=Cp.okH _ Try.func74 (by kernel_rfl) (oM (oM aP (d:=33)) (d:=39)) aD rfl rfl rfl rfl (fun _=>rfl) AF (aQ (by kernel_rfl) EG)
abbrev zI:OT := .pair cI (.pair (.hole 0) (.pair (.hole 1) (.pair (.hole 2) (.pair (.hole 3) (.pair (.hole 4) (.pair (.hole 5) (.pair (.hole 6) (.row 53 a9))))))))
abbrev C0:OT := .pair cI (.pair (.hole 0) (.pair (.hole 1) (.pair (.hole 2) (.pair (.hole 3) (.pair (.hole 4) (.pair (.hole 5) (.pair (.hole 6) (.rowg 53 a9))))))))
def tB:Cp:=⟨28,zI,C0,8,53,a9,fun d=>d.2.2.2.2.2.2.2.2,fun _=>[],fun d=>(d.1,d.2.1,d.2.2.1,d.2.2.2.1,d.2.2.2.2.1,d.2.2.2.2.2.1,d.2.2.2.2.2.2.1,d.2.2.2.2.2.2.2.1,()),fun d=>(am d.1 d.2.2.2.2.2.2.2.2).length⟩
def zl:tB.o.D->aN:=(fun d=>{loops:=(fun n=>match n with|2=>some (fun S=>{ι:=Int,μ:=fun i=>(d.2.2.2.2.2.2.2.2.length-i).toNat,inv:=fun i=>0<=i/\i<=d.2.2.2.2.2.2.2.2.length∧∀ x∈d.2.2.2.2.2.2.2.2.take i.toNat,x.1<=d.1,keep:=[0,1],slots:=fun i=>[(5,.int .i64 i)],keepN:=[1048576,2097152],names:=fun i=>[(1572864,.dead),(1572865,.dead),(1572866,.dead),(1572867,.dead),(1572868,.dead),(1572869,.dead),(1572870,.dead)]})|_=>none)})
theorem CP :
 ∀(a:Int)(b c d e f g h:SV)(i:List (Int×Int×List Int)),(ao a/\True/\True/\True/\True/\True/\True/\True/\i.length<=maxLen/\ ∀(j:Int×Int×List Int),j∈i->ao j.1/\ao j.2.1/\j.2.2.length<=maxLen/\ ∀(k:Int),k∈j.2.2->0<=k/\k<=255)->True->(∃(j:Int),(0<=j/\j<=(i.length:Int)/\ ∀(k:Int×Int×List Int),k∈List.take j.toNat i->k.1<=a)/\(0:Int)=j/\a=a/\b=b/\c=c/\d=d/\e=e/\f=f/\g=g/\h=h/\i=i/\True)/\ ∀(j:Int),(0<=j/\j<=(i.length:Int)/\ ∀(k:Int×Int×List Int),k∈List.take j.toNat i->k.1<=a)-> ∀(k:Bool),k=decide (j<(i.length:Int))->(dY k)/\(dY k)/\(k->(k->k)/\(k->k)/\0<=j/\j<(i.length:Int)/\True)/\(dY k)/\(dY k)/\(dY k)/\(dY k)/\(dY k)/\(k->(k->k)/\(k->k)/\True)/\(k->k)/\ah (bif k then decide ((i.getD j.toNat default).1<=a) else false) (∃(l:Int),(0<=l/\l<=(i.length:Int)/\ ∀(m:Int×Int×List Int),m∈List.take l.toNat i->m.1<=a)/\Int.toNat ((i.length:Int) -l)<Int.toNat ((i.length:Int)
 -j)/\IntKind.wrap .i64 (j+(1:Int))=l/\a=a/\b=b/\c=c/\d=d/\e=e/\f=f/\g=g/\h=h/\i=i/\True) ((0:Int)<=0/\0<=j/\j<=(i.length:Int)/\0<=j/\j<=(i.length:Int)/\(i.length:Int)<=(i.length:Int)/\Int.toNat (0:Int)=(0:Nat)/\j.toNat -Int.toNat (0:Int)=List.length (am a i)/\i=i/\j.toNat=List.length (am a i)/\Int.toNat (i.length:Int) -j.toNat=i.length -List.length (am a i)/\(a,b,c,d,e,f,g,h,())=(a,b,c,d,e,f,g,h,())):=by
  delta dY
  rintro now s0 s1 s2 s3 s4 s5 s6 l ⟨-,-,-,-,-,-,-,-,hl,-⟩ -
  simp only[maxLen] at hl
  refine⟨⟨0,⟨by omega,by omega,by simp⟩,(by repeat' first|exact trivial|refine⟨trivial,?_⟩|refine⟨(by with_reducible rfl),?_⟩|refine⟨ad (by omega) (by omega),?_⟩|refine⟨rfl,?_⟩)⟩,?_⟩
  rintro n ⟨n0,n1,hn⟩
  (repeat (intro (b_:Bool) (hb_:b_=_);(repeat refine⟨(by first|(simp;done)|(rw[hb_];simp;done)|(rw[hb_];simp;omega)|(rw[hb_];simp;intros;omega)|(rw[hb_];simp +contextual;done)),?_⟩);subst hb_))
  refine iA (fun h1 h2=>?_) (fun h1=>?_)
  ·have h1:=of_decide_eq_true h1
   have h2:=of_decide_eq_true h2
   refine⟨n+1,⟨by omega,by omega,fun x hx=>?_⟩,by omega,(by repeat' first|exact trivial|refine⟨trivial,?_⟩|refine⟨(by with_reducible rfl),?_⟩|refine⟨ad (by omega) (by omega),?_⟩|refine⟨rfl,?_⟩)⟩
   rw[dK n0 h1] at hx
   rcases List.mem_append.1 hx with hx|hx
   ·exact hn x hx
   ·rw[List.mem_singleton.1 hx];exact h2
  ·have e:=ni n0 n1 hn (h1.imp of_decide_eq_false of_decide_eq_false)
   have e0:Int.toNat 0=0:=rfl
   have hle:n.toNat<=l.length:=by omega
   refine⟨by omega,n0,n1,n0,n1,by omega,rfl,by omega,rfl,e,by omega,rfl⟩
theorem Ao:aG Try.prog GL 74 tB.spec:=Cp.okH _ Try.func74 (by kernel_rfl) (oM (oM aP (d:=33)) (d:=39)) aD rfl rfl rfl rfl (fun _=>rfl) zl (aQ (by kernel_rfl) CP)
end Go.RS

/- Xch3: without faults a channel recovers in time. -/
namespace Go.RS
open Go.SX Go.Proofs
set_option maxRecDepth 100000
set_option linter.unusedVariables false
theorem XI.runs{c:aj}(h:XI c):∀ n:Nat,XI (bm n c)/\ab (bm n c)=ab c+n/\ae (bm n c)=ae c/\ak (bm n c)=ak c/\(aF c).length<=(aF (bm n c)).length/\az c<=az (bm n c)/\a8 (bm n c)<=a8 c+585*n
 | 0=>⟨h,by show ab c=ab c+0;omega,rfl,rfl,Nat.le_refl _,Int.le_refl _,by show a8 c<=_;omega⟩
 | n+1=>by
  obtain⟨a,b,d,e,f,g,o⟩:=h.runs n
  rw[iy]
  obtain⟨t1,t2,t3,t4⟩:=a.tick eZ eZ
  exact⟨t1,by show ab (bm n c)+1=_;omega,d,e,by omega,by omega,by omega⟩
theorem nV(now:Int)(b:List Int)(j:Nat)(o:Int)(l:List af):bg now b (bi [] j) (o,l)=if l.length<4096 then (o+1,bX l (now+1+0+0,o,b)) else (o,l):=by
 have e:bi [] j=(false,0,0):=by unfold bi;simp
 rw[e]
 unfold bg
 rw[if_neg (by simp)]
 show bA now 0 b 1 0 (o,l)=_
 rw[bA]
 rfl
theorem oS{now:Int}:∀{l:List af},(∀ t∈l,t.1<=now)→∀ m,am now (l++m)=l++am now m/\aX now (l++m)=aX now m
 | [],_,m=>⟨rfl,rfl⟩
 | t::r,h,m=>by
  obtain⟨a,b⟩:=oS (l:=r) (fun x hx=>h x (List.mem_cons_of_mem _ hx)) m
  have ht:=h t List.mem_cons_self
  constructor
  ·show List.takeWhile _ (t::(r++m))=_
   rw[List.takeWhile_cons_of_pos (by simpa using ht)]
   exact congrArg (t :: ·) a
  ·show List.dropWhile _ (t::(r++m))=_
   rw[List.dropWhile_cons_of_pos (by simpa using ht)]
   exact b
theorem lR{now:Int}{l:List af}(h:∀ t∈l,t.1<=now):am now l=l/\aX now l=[]:=by
 obtain⟨a,b⟩:=oS h []
 rw[List.append_nil] at a b
 exact⟨a.trans (List.append_nil l),b⟩
theorem sw{l:List af}{t:af}(h:∀ x∈l,x.1<=t.1):bX l t=l++[t]:=by
 obtain⟨a,b⟩:=lR h
 unfold bX
 show am t.1 l++t::aX t.1 l=_
 rw[a,b]
def n8(lim:Int)(c:aj):Prop:=(∀ t∈aJ c,t.1<=lim∨t.1=ab c+1)∧∀ t∈ba c,t.1<=lim∨t.1=ab c+1
theorem mN{now:Int}{log:List (List Int)}:∀(todo:List Int)(j:Nat){o:Int}{l:List af},∀ t∈(bV now log [] todo j (o,l)).2,t∈l∨t.1=now+1
 | [],j,o,l,t,ht => .inl ht
 | i::r,j,o,l,t,ht=>by
  rw[bV,nV] at ht
  split at ht
  ·rcases mN r (j+1) t ht with q|q
   ·rcases i7.1 q with rfl|q
    ·exact .inr (by show now+1+0+0=_;omega)
    ·exact .inl q
   ·exact .inr q
  ·exact mN r (j+1) t ht
theorem AT{c:aj}(h:XI c){up:List a7}(hu:dQ up):cF (ab c) (au c up).1 (au c up).2:=by
 unfold au
 split
 ·exact h.up
 ·exact (oA ⟨by omega,by omega⟩ (iR hu 0) h.ord h.up).1
theorem Ci{lim:Int}{c:aj}(h:XI c)(hn:n8 lim c):n8 lim (bh c [] []):=by
 constructor
 ·intro t ht
  have ht:t∈(bV (ab c+1) (ae c) [] (dV c []) 0 ((au c []).1,aX (ab c+1) (aJ c))).2:=ht
  rcases mN _ _ t ht with q|q
  ·obtain⟨a,b⟩:=(mo h.dn).1 q
   rcases hn.1 t a with k|k
   ·exact .inl k
   ·omega
  ·exact .inr q
 ·intro t ht
  have ht:t∈aX (ab c+1) (au c []).2:=ht
  obtain⟨a,b⟩:=(mo (AT h eZ)).1 ht
  have k:t∈ba c∨t.1=ab c+1+1:=by
   unfold au at a
   split at a
   ·exact .inl a
   ·rw[nV] at a
    split at a
    ·rcases i7.1 a with rfl|a
     ·exact .inr (by show ab c+1+1+0+0=_;omega)
     ·exact .inl a
    ·exact .inl a
  rcases k with k|k
  ·rcases hn.2 t k with q|q
   ·exact .inl q
   ·omega
  ·exact .inr k
theorem xt{lim:Int}{c:aj}(h:XI c)(hn:n8 lim c):∀ n:Nat,n8 lim (bm n c)
 | 0=>hn
 | n+1=>by rw[iy];exact Ci (h.runs n).1 (xt h hn n)
def lI(c:aj):Prop:=(∀ t∈aJ c,t.1=ab c+1)∧∀ t∈ba c,t.1=ab c+1
theorem vF{c:aj}(h:XI c){n:Nat}(hn:2000<=n):lI (bm n c):=by
 have k:=xt (lim:=ab c+2000) h ⟨fun t ht=>.inl (h.dn.r t ht).1.2,fun t ht=>.inl (h.up.r t ht).1.2⟩ n
 obtain⟨a,b,-⟩:=h.runs n
 constructor
 ·intro t ht
  have:=(a.dn.r t ht).1.1
  rcases k.1 t ht with q|q
  ·omega
  ·exact q
 ·intro t ht
  have:=(a.up.r t ht).1.1
  rcases k.2 t ht with q|q
  ·omega
  ·exact q
theorem pJ{now:Int}{log:List (List Int)}:∀(todo:List Int)(j:Nat){o:Int}{l:List af},l.length+todo.length<=4096 →
  (∀ t∈l,t∈(bV now log [] todo j (o,l)).2)∧∀ i∈todo,∃ t∈(bV now log [] todo j (o,l)).2,t.2.2=bF i (log.getD i.toNat default)
 | [],j,o,l,_=>⟨fun t ht=>ht,fun i hi=>(by cases hi)⟩
 | i::r,j,o,l,h=>by
  rw[List.length_cons] at h
  rw[bV,nV,if_pos (by omega)]
  obtain⟨a,b⟩:=pJ r (j+1) (o:=o+1) (l:=bX l (now+1+0+0,o,bF i (log.getD i.toNat default))) (by rw[lX];omega)
  refine⟨fun t ht=>a t (i7.2 (.inr ht)),fun x hx=>?_⟩
  rcases List.mem_cons.1 hx with rfl|hx
  ·exact⟨_,a _ (i7.2 (.inl rfl)),rfl⟩
  ·exact b x hx
def fX(c:aj):af:=(ab c+1+1+0+0,a8 c,br ((aO c).1.length:Int) ((aO c).2.map (·.1)))
theorem mL{c:aj}(h:XI c)(f:lI c):dq c []=ba c/\aX (ab c+1) (au c []).2=if aJ c≠[]/\(ba c).length<4096 then [fX c] else []:=by
 have hu:∀ t∈ba c,t.1<=ab c+1:=fun t ht=>by rw[f.2 t ht];exact Int.le_refl _
 have hd:am (ab c+1) (aJ c)=aJ c:=(lR fun t ht=>by rw[f.1 t ht];exact Int.le_refl _).1
 unfold dq au
 rw[hd]
 split
 ·rename_i k
  rw[if_neg (fun q=>q.1 k)]
  exact lR hu
 ·rename_i k
  rw[nV]
  split
  ·rename_i q
   rw[if_pos ⟨k,q⟩]
   have e:bX (ba c) (ab c+1+1+0+0,a8 c,br ((aO c).1.length:Int) ((aO c).2.map (·.1)))=ba c++[fX c]:=sw fun x hx=>by
    have:=hu x hx
    show x.1<=ab c+1+1+0+0
    omega
   show am (ab c+1) (bX _ _)=_/\aX (ab c+1) (bX _ _)=_
   rw[e]
   obtain⟨a,b⟩:=oS hu [fX c]
   have n1:¬ (fX c).1<=ab c+1:=by show ¬ ab c+1+1+0+0<=_;omega
   have a2:am (ab c+1) [fX c]=[]:=List.takeWhile_cons_of_neg (by simpa using n1)
   have b2:aX (ab c+1) [fX c]=[fX c]:=List.dropWhile_cons_of_neg (by simpa using n1)
   rw[a,b,a2,b2,List.append_nil]
   exact⟨rfl,rfl⟩
  ·rename_i q
   rw[if_neg (fun z=>q z.2)]
   exact lR hu
theorem pW:∀{l:List af}{k:Int},k<=bD k l∧∀ t∈l,aA t.2.2 1<=bD k l
 | [],k=>⟨Int.le_refl _,fun t ht=>(by cases ht)⟩
 | t::r,k=>by
  obtain⟨a,b⟩:=pW (l:=r) (k:=max k (aA t.2.2 1))
  show k<=bD (max k (aA t.2.2 1)) r∧∀ x∈t::r,aA x.2.2 1<=bD (max k (aA t.2.2 1)) r
  refine⟨by omega,fun x hx=>?_⟩
  rcases List.mem_cons.1 hx with rfl|hx
  ·omega
  ·exact b x hx
theorem sZ{log:List (List Int)}{s:List (List Int)×List ax}(hl:log.length<=1024){t:af}(h:fc log s t):∀ e∈cJ (t.2.2.drop 3),ft s e/\aA t.2.2 1<e:=by
 obtain⟨g,es,e1,hg,-,h4⟩:=h
 intro e he
 by_cases h0:es=[]
 ·rw[e1,rz,h0] at he;cases he
 rw[e1,rz,v6 fun x hx=>by have:=(h4 x hx).1;exact⟨by omega,by omega⟩] at he
 have hx:=(h4 e he).1
 rw[e1,mH ⟨by omega,by omega⟩]
 exact⟨(h4 e he).2,hx.1⟩
structure G1 (c:aj):Prop where
 x:XI c
 f:lI c
 cov:∀ i:Int,az c<=i->i<(ae c).length->i<az c+ak c->ft (aF c,aH c) i∨∃ t∈aJ c,t.2.2=bF i ((ae c).getD i.toNat default)
 un:(ba c).length<=1
 ua:∀ t∈ba c,aA t.2.2 1=(aF c).length
theorem ve{c:aj}(h:XI c)(up:List a7)(hk:az c<=aE c up):(dV c up).length<=64:=by
 have h1:(dV c up).length<=(dU (aE c up) (min ((ae c).length:Int) (aE c up+ak c))).length:=List.length_filter_le _ _
 have h2:(dU (aE c up) (min ((ae c).length:Int) (aE c up+ak c))).length=(min ((ae c).length:Int) (aE c up+ak c)-aE c up).toNat:=by unfold dU;rw[List.length_map,List.length_range]
 have:=h.win
 omega
theorem oy{c:aj}(f:lI c):aX (ab c+1) (aJ c)=[]/\am (ab c+1) (aJ c)=aJ c:=by
 obtain⟨a,b⟩:=lR (now:=ab c+1) (l:=aJ c) fun t ht=>by rw[f.1 t ht];exact Int.le_refl _
 exact⟨b,a⟩
theorem pe{c:aj}(h:XI c)(f:lI c):G1 (bh c [] []):=by
 obtain⟨k1,k2,k3,-⟩:=h.tick eZ eZ
 obtain⟨u1,u2⟩:=mL h f
 obtain⟨f1,f2⟩:=oy f
 have hlog:=h.log
 have hwin:=h.win
 have hkn:=h.kn
 obtain⟨r1,r2,r3,r4⟩:=jX h.log (l:=am (ab c+1) (aJ c)) h.rc fun t ht=>h.dd t (jM ht).1
 have hT:=ve h [] k3
 have eD:aJ (bh c [] [])=(bV (ab c+1) (ae c) [] (dV c []) 0 ((au c []).1,[])).2:=by
  show (bV _ _ _ _ _ ((au c []).1,aX (ab c+1) (aJ c))).2=_
  rw[f1]
 have eU:ba (bh c [] [])=if aJ c≠[]/\(ba c).length<4096 then [fX c] else []:=u2
 obtain⟨-,sall⟩:=pJ (now:=ab c+1) (log:=ae c) (dV c []) 0 (o:=(au c []).1) (l:=[]) (by simp;omega)
 have hgl:=k1.rc.n
 have hgl:(aO c).1.length<=(ae c).length:=hgl
 refine⟨k1,⟨fun t ht=>?_,fun t ht=>?_⟩,fun i i0 i1 i2=>?_,?_,fun t ht=>?_⟩
 ·rw[eD] at ht
  rcases mN _ _ t ht with q|q
  ·cases q
  ·exact q
 ·rw[eU] at ht
  split at ht
  ·rw[List.mem_singleton.1 ht];show ab c+1+1+0+0=ab c+1+1;omega
  ·cases ht
 ·by_cases hn:i∈bK (dq c [])
  ·left
   unfold bK at hn
   obtain⟨t,ht,hi⟩:=List.mem_flatMap.1 hn
   rw[u1] at ht
   exact r3 i (sZ hlog (h.ud t ht) i hi).1
  ·right
   rw[eD]
   refine sall i (List.mem_filter.2 ⟨mem_range.2 ⟨i0,?_⟩,?_⟩)
   ·have i1:i<(ae c).length:=i1
    have i2:i<aE c []+ak c:=i2
    omega
   ·simpa using hn
 ·rw[eU];split <;> simp
 ·rw[eU] at ht
  split at ht
  ·rw[List.mem_singleton.1 ht]
   show aA (br ((aO c).1.length:Int) ((aO c).2.map (·.1))) 1=((aO c).1.length:Int)
   exact mH ⟨by omega,by omega⟩ _
  ·cases ht
theorem G1.busy{c:aj}(h:G1 c)(hk:az (bh c [] [])<(ae c).length):aJ (bh c [] [])≠[]:=by
 obtain⟨k1,k2,k3,-⟩:=h.x.tick eZ eZ
 obtain⟨u1,-⟩:=mL h.x h.f
 obtain⟨f1,f2⟩:=oy h.f
 have hT:=ve h.x [] k3
 have hwin:=h.x.win
 have hg:=pW (l:=ba c) (k:=az c)
 have eK:aE c []=bD (az c) (ba c):=by unfold aE;rw[u1]
 have hk:aE c []<(ae c).length:=hk
 obtain⟨-,sall⟩:=pJ (now:=ab c+1) (log:=ae c) (dV c []) 0 (o:=(au c []).1) (l:=[]) (by simp;omega)
 have hm:aE c []∈dV c []:=by
  refine List.mem_filter.2 ⟨mem_range.2 ⟨Int.le_refl _,by omega⟩,?_⟩
  have hn:aE c [] ∉ bK (dq c []):=by
   intro hn
   unfold bK at hn
   obtain⟨t,ht,hi⟩:=List.mem_flatMap.1 hn
   rw[u1] at ht
   have h1:=(sZ h.x.log (h.x.ud t ht) _ hi).2
   have e1:ba c=[t]:=by
    have:=h.un
    match hU:ba c,ht with
    | [a],ht=>rw[List.mem_singleton.1 ht]
    | a::b::r,_=>rw[hU] at this;simp at this
   have e2:aE c []=max (az c) (aA t.2.2 1):=by rw[eK,e1];rfl
   have e3:=h.ua t ht
   have e4:=h.x.kn
   omega
  simpa using hn
 obtain⟨t,ht,-⟩:=sall _ hm
 have eD:aJ (bh c [] [])=(bV (ab c+1) (ae c) [] (dV c []) 0 ((au c []).1,[])).2:=by
  show (bV _ _ _ _ _ ((au c []).1,aX (ab c+1) (aJ c))).2=_
  rw[f1]
 rw[eD]
 intro e
 rw[e] at ht
 cases ht
theorem G1.got{c:aj}(h:G1 c):min ((ae c).length:Int) (az c+ak c)<=(aF (bh c [] [])).length:=by
 obtain⟨k1,k2,k3,-⟩:=h.x.tick eZ eZ
 obtain⟨f1,f2⟩:=oy h.f
 obtain⟨r1,r2,r3,r4⟩:=jX h.x.log (l:=am (ab c+1) (aJ c)) h.x.rc fun t ht=>h.x.dd t (jM ht).1
 rw[f2] at r1 r2 r3 r4
 have eG:aO c=bU (az c+ak c) (aJ c) (aF c,aH c):=by unfold aO;rw[f2]
 rw[← eG] at r1 r2 r3 r4
 have hlog:=h.x.log
 have hkn:=h.x.kn
 show _<=((aO c).1.length:Int)
 have r2:(aF c).length<=(aO c).1.length:=r2
 by_cases hh:min ((ae c).length:Int) (az c+ak c)<=((aO c).1.length:Int)
 ·exact hh
 exfalso
 have cov:ft (aO c) ((aO c).1.length:Int):=by
  rcases h.cov ((aO c).1.length:Int) (by omega) (by omega) (by omega) with q|⟨t,ht,q⟩
  ·exact r3 _ q
  ·have em:aA t.2.2 1=((aO c).1.length:Int):=by rw[q];exact re ⟨by omega,by omega⟩ _
   have:=r4 t ht (by omega)
   rw[em] at this
   exact this
 rcases cov with q|⟨x,hx,q⟩
 ·omega
 ·have:=(r1.e.r x hx).1.1
  omega
theorem G1.two{b:aj}(hb:G1 b):min ((ae b).length:Int) (az (bh b [] [])+ak b)<=az (bh (bh (bh b [] []) [] []) [] []):=by
 have hc:G1 (bh b [] []):=pe hb.x hb.f
 have hc2:G1 (bh (bh b [] []) [] []):=pe hc.x hc.f
 obtain⟨-,-,m1,-⟩:=hc.x.tick eZ eZ
 obtain⟨-,-,m2,-⟩:=hc2.x.tick eZ eZ
 by_cases hk:az (bh b [] [])<(ae b).length
 ·have hd:=hb.busy hk
  have hg:=hc.got
  have eL:ae (bh b [] [])=ae b:=rfl
  have eW:ak (bh b [] [])=ak b:=rfl
  rw[← eL,← eW]
  clear eL eW
  generalize bh b [] []=c at *
  have hl:(ba c).length<4096:=by have:=hc.un;omega
  obtain⟨-,u2⟩:=mL hc.x hc.f
  rw[if_pos ⟨hd,hl⟩] at u2
  have eU:ba (bh c [] [])=[fX c]:=u2
  obtain⟨v1,-⟩:=mL hc2.x hc2.f
  have eK:az (bh (bh c [] []) [] [])=bD (az (bh c [] [])) (ba (bh c [] [])):=by
   show bD (az (bh c [] [])) (dq (bh c [] []) [])=_
   rw[v1]
  have h1:=(pW (l:=ba (bh c [] [])) (k:=az (bh c [] []))).2 (fX c) (by rw[eU];exact List.mem_singleton.2 rfl)
  have h2:=hc2.ua (fX c) (by rw[eU];exact List.mem_singleton.2 rfl)
  rw[← eK] at h1
  omega
 ·omega
theorem Dr{c:aj}(h:XI c)(k:Nat):G1 (bm (2001+k) c):=by
 have f:=vF h (n:=2000+k) (by omega)
 have e:bm (2001+k) c=bh (bm (2000+k) c) [] []:=by rw[show 2001+k=(2000+k)+1 by omega,iy]
 rw[e]
 exact pe (h.runs _).1 f
theorem xz{c:aj}(h:XI c):∀ m:Nat,min ((ae c).length:Int) ((m:Int)*ak c)<=az (bm (2002+2*m) c)
 | 0=>by
  have:=(h.runs 2002).1.kn.1
  show min _ (0*ak c)<=az (bm 2002 c)
  rw[Int.zero_mul];omega
 | m+1=>by
  have ih:=xz h m
  have t:=(Dr h (2*m)).two
  obtain⟨-,-,eL,eW,-⟩:=h.runs (2001+2*m)
  rw[eL,eW,← iy,← iy,← iy] at t
  rw[show 2001+2*m+1=2002+2*m by omega,show 2002+2*m+1+1=2002+2*(m+1) by omega] at t
  have e:((m+1:Nat):Int)*ak c=(m:Int)*ak c+ak c:=by rw[Int.natCast_succ,Int.add_mul,Int.one_mul]
  rw[e]
  generalize (m:Int)*ak c=z at *
  have:=h.win
  omega
theorem xL{c:aj}(h:XI c){n m:Nat}(hm:((ae c).length:Int)<=(m:Int)*ak c)(hn:2002+2*m<=n) :
  u6 (bm n c)=true/\aJ (bm n c)=[]/\aF (bm n c)=ae (bm n c):=by
 have g:=xz h m
 obtain⟨a,-,eL,eW,-⟩:=h.runs (2002+2*m)
 obtain⟨b,-,eL2,eW2,-,b6,-⟩:=a.runs (n-(2002+2*m))
 rw[um,show 2002+2*m+(n-(2002+2*m))=n by omega] at b eL2 eW2 b6
 have b1:=b.kn
 have b2:(aF (bm n c)).length<=(ae (bm n c)).length:=b.rc.n
 have eLn:(ae (bm n c)).length=(ae c).length:=by rw[eL2,eL]
 have hK:az (bm n c)=(ae (bm n c)).length:=by omega
 have hG:(aF (bm n c)).length=(ae (bm n c)).length:=by omega
 refine⟨?_,?_,?_⟩
 ·unfold u6
  rw[decide_eq_true hG,decide_eq_true hK];rfl
 ·have en:bm n c=bh (bm (n-1) c) [] []:=by rw[← iy,show n-1+1=n by omega]
  have f:=vF h (n:=n-1) (by omega)
  rw[en] at hK ⊢
  have f1:=(oy f).1
  generalize bm (n-1) c=v at *
  have hK:aE v []=(ae v).length:=hK
  have eT:dV v []=[]:=by
   unfold dV
   rw[hK,List.filter_eq_nil_iff.2]
   intro i hi
   have:=mem_range.1 hi
   omega
  show (bV (ab v+1) (ae v) [] (dV v []) 0 ((au v []).1,aX (ab v+1) (aJ v))).2=[]
  rw[eT,f1];rfl
 ·have g:=b.rc.g
  have g:aF (bm n c)=(ae (bm n c)).take (aF (bm n c)).length:=g
  rw[g,hG,List.take_length]
end Go.RS

/- Xdef: what the functions of an exchange answer. -/
namespace Go.RS
open Go.SX Go.Proofs
set_option maxRecDepth 100000
set_option linter.unusedVariables false
def dG(w:Int):Int:=if w<1∨64<w then 1 else 0
def oO:aj:=(0,0,0,[],0,[],[],[],[])
def fW(w:Int):aj:=if dG w=0 then fx w else oO
def dD(c:aj)(it:List Int):Int:=if 1024<=(ae c).length∨(6000:Int)<it.length then 5 else 0
def fV(c:aj)(it:List Int):aj:=if dD c it=0 then hY c it else oO
def c9(f:a7):Bool:=decide (0<=f.2.1/\f.2.1<=1000/\0<=f.2.2/\f.2.2<=8)
def gZ(l:List a7):Bool:=l.all c9
theorem mQ{l:List a7}:gZ l=true↔dQ l:=by
 unfold gZ dQ
 rw[List.all_eq_true]
 constructor
 ·intro h f hf
  have:=h f hf
  unfold c9 at this
  have:=of_decide_eq_true this
  exact⟨⟨this.1,this.2.1⟩,this.2.2⟩
 ·intro h f hf
  have:=h f hf
  exact decide_eq_true ⟨this.1.1,this.1.2,this.2⟩
def fj(c:aj)(ds us:List a7):Int:=if (gZ ds&&gZ us)=false then 1 else if 1099511627776<=ab c then 5 else 0
def jk(c:aj)(ds us:List a7):aj:=if fj c ds us=0 then bh c ds us else oO
def fC(c:aj)(n:Int):Int:=if n<0∨100000<n then 1 else if 0<n/\1099511627776<ab c+n then 5 else 0
def i9(c:aj)(n:Int):aj:=if fC c n=0 then bm n.toNat c else oO
def XR(c:aj):Prop:=XI c/\a8 c<=585*ab c
theorem XR.tick{c:aj}(h:XR c){ds us:List a7}(hd:dQ ds)(hu:dQ us):XR (bh c ds us):=by
 obtain⟨h1,h2⟩:=h
 obtain⟨k1,-,-,k2⟩:=h1.tick hd hu
 refine⟨k1,?_⟩
 show _<=585*(ab c+1)
 omega
theorem XR.push{c:aj}(h:XR c){it:List Int}(hl:(ae c).length<1024)(hi:(it.length:Int)<=6000):XR (hY c it):=⟨h.1.push hl hi,h.2⟩
theorem XR.new{w:Int}(h0:1<=w)(h1:w<=64):XR (fx w):=⟨XI.new h0 h1,by show (0:Int)<=585*0;omega⟩
theorem XR.runs{c:aj}(h:XR c)(n:Nat):XR (bm n c):=by
 obtain⟨k1,k2,-,-,-,-,k3⟩:=h.1.runs n
 have h2:=h.2
 exact⟨k1,by omega⟩
def ee(now ord:Int)(l:List af)(i:Nat):Prop:=((now<(l.getD i default).1/\(l.getD i default).1<=now+2000)/\0<=(l.getD i default).2.1/\(l.getD i default).2.1<ord)/\(0<i->(l.getD (i-1) default).1<(l.getD i default).1∨(l.getD (i-1) default).1=(l.getD i default).1/\(l.getD (i-1) default).2.1<(l.getD i default).2.1)
def db(now ord:Int)(l:List af):Prop:=l.length<=4096∧∀ i:Nat,i<l.length->ee now ord l i
def eO(kn win glen:Int)(log:List (List Int))(l:List ax)(i:Nat):Prop:=(if i=0 then glen else (l.getD (i-1) default).1)<(l.getD i default).1/\(l.getD i default).1<log.length/\(l.getD i default).1<kn+win/\(l.getD i default).2=log.getD (l.getD i default).1.toNat default
def earP(kn win glen:Int)(log:List (List Int))(l:List ax):Prop:=∀ i:Nat,i<l.length->eO kn win glen log l i
def bz(log:List (List Int))(b:List Int):Prop:=3<=b.length/\aA b 1<log.length/\b=bF (aA b 1) (log.getD (aA b 1).toNat default)
def dN(llen:Int)(b:List Int)(i:Nat):Prop:=aA b ((1+2*i:Nat):Int)<aA b ((3+2*i:Nat):Int)/\aA b ((3+2*i:Nat):Int)<llen
def bB(glen llen:Int)(b:List Int):Prop:=3<=b.length/\b.length%2=1/\b.getD 0 0=65/\aA b 1<=glen∧∀ i:Nat,i<(b.length-3)/2->dN llen b i
structure BW (c:aj):Prop where
 now:0<=ab c/\ab c<=1099511627776
 ord:0<=a8 c/\a8 c<=1099511627776
 win:1<=ak c/\ak c<=64
 log:(ae c).length<=1024
 kn:0<=az c/\az c<=(aF c).length
 gl:(aF c).length<=(ae c).length
 it:∀ b∈ae c,(b.length:Int)<=6000
 got:∀ i:Nat,i<(aF c).length->(aF c).getD i default=(ae c).getD i default
 ear:earP (az c) (ak c) (aF c).length (ae c) (aH c)
 dn:db (ab c) (a8 c) (aJ c)
 up:db (ab c) (a8 c) (ba c)
 dd:∀ t∈aJ c,bz (ae c) t.2.2
 ud:∀ t∈ba c,bB (aF c).length (ae c).length t.2.2
instance (now ord:Int) (l:List af):Decidable (db now ord l):=by unfold db ee;infer_instance
instance (kn win glen:Int) (log:List (List Int)) (l:List ax):Decidable (earP kn win glen log l):=by unfold earP eO;infer_instance
instance (log:List (List Int)) (b:List Int):Decidable (bz log b):=by unfold bz;infer_instance
instance (glen llen:Int) (b:List Int):Decidable (bB glen llen b):=by unfold bB dN;infer_instance
def cT(c:aj):Prop:=((0<=ab c/\ab c<=1099511627776)/\(0<=a8 c/\a8 c<=1099511627776)/\(1<=ak c/\ak c<=64)/\(ae c).length<=1024/\(0<=az c/\az c<=(aF c).length)/\(aF c).length<=(ae c).length)/\(∀ b∈ae c,(b.length:Int)<=6000)/\(∀ i:Nat,i<(aF c).length->(aF c).getD i default=(ae c).getD i default) ∧
 earP (az c) (ak c) (aF c).length (ae c) (aH c)/\db (ab c) (a8 c) (aJ c)/\db (ab c) (a8 c) (ba c)/\(∀ t∈aJ c,bz (ae c) t.2.2)∧∀ t∈ba c,bB (aF c).length (ae c).length t.2.2
instance (c:aj):Decidable (cT c):=by unfold cT;infer_instance
theorem Ca{c:aj}:cT c↔BW c :=
 ⟨fun ⟨⟨h1,h2,h3,h4,h5,h6⟩,h7,h8,h9,h10,h11,h12,h13⟩=>⟨h1,h2,h3,h4,h5,h6,h7,h8,h9,h10,h11,h12,h13⟩,
  fun h=>⟨⟨h.now,h.ord,h.win,h.log,h.kn,h.gl⟩,h.it,h.got,h.ear,h.dn,h.up,h.dd,h.ud⟩⟩
def c8(c:aj):Int:=if cT c then 0 else 7
end Go.RS

/- Xw3: the program's exchange: what arrives at the receiver and at the sender; a tick. -/
namespace Go.RS
open Go.SX Go.Proofs
set_option maxRecDepth 100000
set_option linter.unusedVariables false
abbrev yn:OT := .pair cI (.pair cI (.pair cI (.pair (.hole 0) (.pair cI (.pair (.row 22 (.sl aV)) (.pair (.row 51 eh) (.pair (.row 53 a9) (.row 53 a9))))))))
def bk(now lim:Int)(dn:List af)(g:List (List Int))(e:List ax):List (List Int)×List ax:=bU lim (am now dn) (g,e)
def iu(now ord:Int)(G:List (List Int)×List ax)(dn up:List af)(fs:List a7):Int×List af:=if am now dn=[] then (ord,up) else bg now (br (G.1.length:Int) (G.2.map (·.1))) (bi fs 0) (ord,up)
structure oF (now ord win kn:Int) (g:List (List Int)) (e:List ax) (dn up:List af) (fs:List a7) (log:List (List Int)):Prop where
 rc:ir log (kn+win) (g,e)
 ln:log.length<=1024
 it:∀ b∈log,(b.length:Int)<=6000
 dd:∀ t∈dn,iG log t
 kn:0<=kn/\kn<=1024
 wn:1<=win/\win<=64
 so:cG now ord up
 oo:ord<=900000000000000
 ff:fZ (bi fs 0)
 dl:dn.length<=4096
theorem nh(now:Int)(l:List af):(am now l).length<=l.length/\l.drop (am now l).length=aX now l/\(∀ k:Nat,k<(am now l).length->l.getD k default=(am now l).getD k default)∧∀ t∈am now l,t∈l:=by
 have e:am now l++aX now l=l:=List.takeWhile_append_dropWhile
 generalize am now l=A at *
 generalize aX now l=B at *
 subst e
 refine⟨by rw[List.length_append];omega,List.drop_left,fun k hk=>?_,fun t ht=>List.mem_append_left _ ht⟩
 rw[List.getD_eq_getElem?_getD,List.getD_eq_getElem?_getD,List.getElem?_append_left hk]
theorem tU:∀{l:List ax}{lo hi:Int},l.Pairwise (fun a b=>a.1<b.1)->(∀ x∈l,lo<=x.1/\x.1<hi)->(l.length:Int)<=max 0 (hi-lo)
 | [],lo,hi,_,_=>by simp;omega
 | x::r,lo,hi,hs,hb=>by
  obtain⟨s1,s2⟩:=List.pairwise_cons.1 hs
  have hx:=hb x List.mem_cons_self
  have:=tU (l:=r) (lo:=x.1+1) (hi:=hi) s2 fun y hy=>⟨by have:=s1 y hy;omega,(hb y (List.mem_cons_of_mem _ hy)).2⟩
  rw[List.length_cons];omega
theorem nG{log:List (List Int)}{kn win:Int}{g:List (List Int)}{e:List ax}(h:ir log (kn+win) (g,e))(hl:log.length<=1024)(hk:0<=kn/\kn<=1024)(hw:1<=win/\win<=64):nF kn win g e/\g.length<=1024/\e.length<=1024∧∀ x∈e,0<=x.1/\x.1<1024:=by
 have h1:g.length<=log.length:=h.n
 have h2:e.Pairwise fun a b=>a.1<b.1:=h.e.s
 have hr:∀ x∈e,0<=x.1/\x.1<1024:=fun x hx=>by
  obtain⟨⟨k1,k2⟩,-⟩:=h.e.r x hx
  have k1:(g.length:Int)<x.1:=k1
  omega
 have h3:=tU (lo:=0) (hi:=1024) h2 hr
 have h3:(e.length:Int)<=1024:=by omega
 exact⟨⟨by omega,by omega,by omega,by omega,h2⟩,by omega,by omega,hr⟩
theorem qb{log:List (List Int)}{t:af}(h:iG log t)(hi:∀ b∈log,(b.length:Int)<=6000):3<=t.2.2.length/\(t.2.2.length:Int)<=6003:=by
 obtain⟨i,h1,h2⟩:=h
 have h3:=hi _ (ce (xs:=log) h1.1 h1.2)
 rw[h2,mI];omega
theorem wI(lim:Int)(l:List af)(t:af)(s:List (List Int)×List ax):bU lim (l++[t]) s=cd lim (bU lim l s) (aA t.2.2 1) (t.2.2.drop 3):=by
 unfold bU;rw[List.foldl_append];rfl
theorem xx:∀(es:List Int)(i:Int),dA (es++[i])=dA es++ch i 2 2
 | [],i=>by simp[dA]
 | a::r,i=>by rw[List.cons_append,dA,dA,xx r i,List.append_assoc]
theorem tp(g:Int)(es:List Int)(i:Int):br g es++ch i 2 2=br g (es++[i]):=by
 unfold br;rw[xx,List.cons_append,List.append_assoc]
def te:Ct:=⟨[.box 28 yn,.val (.sl fe)],[],fun d=>[∃ log,oF d.1.1 d.1.2.1 d.1.2.2.1 d.1.2.2.2.2.1 d.1.2.2.2.2.2.1 d.1.2.2.2.2.2.2.1 d.1.2.2.2.2.2.2.2.1 d.1.2.2.2.2.2.2.2.2 d.2.1 log],fun d=>((),((d.1.1,(iu d.1.1 d.1.2.1 (bk d.1.1 (d.1.2.2.2.2.1+d.1.2.2.1) d.1.2.2.2.2.2.2.2.1 d.1.2.2.2.2.2.1 d.1.2.2.2.2.2.2.1) d.1.2.2.2.2.2.2.2.1 d.1.2.2.2.2.2.2.2.2 d.2.1).1,d.1.2.2.1,d.1.2.2.2.1,d.1.2.2.2.2.1,(bk d.1.1 (d.1.2.2.2.2.1+d.1.2.2.1) d.1.2.2.2.2.2.2.2.1 d.1.2.2.2.2.2.1 d.1.2.2.2.2.2.2.1).1,(bk d.1.1 (d.1.2.2.2.2.1+d.1.2.2.1) d.1.2.2.2.2.2.2.2.1 d.1.2.2.2.2.2.1 d.1.2.2.2.2.2.2.1).2,aX d.1.1 d.1.2.2.2.2.2.2.2.1,(iu d.1.1 d.1.2.1 (bk d.1.1 (d.1.2.2.2.2.1+d.1.2.2.1) d.1.2.2.2.2.2.2.2.1 d.1.2.2.2.2.2.1 d.1.2.2.2.2.2.2.1) d.1.2.2.2.2.2.2.2.1 d.1.2.2.2.2.2.2.2.2 d.2.1).2),()))⟩
def yx:aC te.ps->aN:=(fun d=>{loops:=(fun n=>match n with|2=>some (fun S=>{ι:=Int×(List (List Int))×(List ax),qn:=⟨fun k_=>∀(j:Int)(g:(List (List Int)))(e:(List ax)),k_ (j,g,e),fun k_ h_ i=>h_ i.1 i.2.1 i.2.2,fun k_=>∃ (j:Int) (g:(List (List Int))) (e:(List ax)),k_ (j,g,e),fun k_ ⟨j,g,e,h_⟩=>⟨_,h_⟩⟩,μ:=fun i=>((am d.1.1 d.1.2.2.2.2.2.2.2.1).length-i.1).toNat,inv:=fun i=>0<=i.1/\i.1<=(am d.1.1 d.1.2.2.2.2.2.2.2.1).length/\(i.2.1,i.2.2)=bU (d.1.2.2.2.2.1+d.1.2.2.1) ((am d.1.1 d.1.2.2.2.2.2.2.2.1).take i.1.toNat) (d.1.2.2.2.2.2.1,d.1.2.2.2.2.2.2.1),keep:=[0,1,4,15,16],slots:=fun i=>[(17,.int .i64 i.1)],keepN:=[240,2097155],names:=fun i=>[(1048576,.live (.cells 28 [.int .i64 d.1.1,.int .i64 d.1.2.1,.int .i64 d.1.2.2.1,.hv 1572864 d.1.2.2.2.1,.int .i64 d.1.2.2.2.2.1,.own 524288 1,.own 524289 2,.part 240 3 (am d.1.1 d.1.2.2.2.2.2.2.2.1).length (d.1.2.2.2.2.2.2.2.1.length-(am d.1.1 d.1.2.2.2.2.2.2.2.1).length),.own 2097155 3])),(524288,.live (.row 22 (.sl aV) i.2.1)),(524289,.live (.row 51 eh i.2.2)),(1572864,.dead)]})|9=>some (fun S=>{ι:=Int×(List Int),qn:=⟨fun k_=>∀(j:Int)(b:(List Int)),k_ (j,b),fun k_ h_ i=>h_ i.1 i.2,fun k_=>∃ (j:Int) (b:(List Int)),k_ (j,b),fun k_ ⟨j,b,h_⟩=>⟨_,h_⟩⟩,μ:=fun i=>((bk d.1.1 (d.1.2.2.2.2.1+d.1.2.2.1) d.1.2.2.2.2.2.2.2.1 d.1.2.2.2.2.2.1 d.1.2.2.2.2.2.2.1).2.length-i.1).toNat,inv:=fun i=>0<=i.1/\i.1<=(bk d.1.1 (d.1.2.2.2.2.1+d.1.2.2.1) d.1.2.2.2.2.2.2.2.1 d.1.2.2.2.2.2.1 d.1.2.2.2.2.2.2.1).2.length/\i.2=br ((bk d.1.1 (d.1.2.2.2.2.1+d.1.2.2.1) d.1.2.2.2.2.2.2.2.1 d.1.2.2.2.2.2.1 d.1.2.2.2.2.2.2.1).1.length:Int) (((bk d.1.1 (d.1.2.2.2.2.1+d.1.2.2.1) d.1.2.2.2.2.2.2.2.1 d.1.2.2.2.2.2.1 d.1.2.2.2.2.2.2.1).2.map (·.1)).take i.1.toNat),keep:=[0,1,45,46],slots:=fun i=>[(47,.int .i64 i.1),(7,.own 524290 1)],keepN:=[1048576,524288,524289,544,2097155],names:=fun i=>[(524290,.live (.row 5 aV i.2)),(1572864,.dead)]})|_=>none)})
def la(h:List (Int×Int×List Int))(k:Int) :=
 ((List.length (h.getD ((0:Nat)+k.toNat) default).2.2):Int)
def dE(a:Int)(h:List (Int×Int×List Int)) :=
 List.length (am a h)
def nj(h:List (Int×Int×List Int))(k:Int) :=
 bf (h.getD ((0:Nat)+k.toNat) default).2.2 (Int.toNat (3:Int)) (Int.toNat (la h k))
theorem AE :
 ∀(a b c:Int)(d:SV)(e:Int)(f:List (List Int))(g:List (Int×List Int))(h i:List (Int×Int×List Int))(j:List (Bool×Int×Int)),(ao a/\ao b/\ao c/\True/\ao e/\(f.length<=maxLen/\ ∀(k:List Int),k∈f->k.length<=maxLen/\ ∀(l:Int),l∈k->0<=l/\l<=255)/\(g.length<=maxLen/\ ∀(k:Int×List Int),k∈g->ao k.1/\k.2.length<=maxLen/\ ∀(l:Int),l∈k.2->0<=l/\l<=255)/\(h.length<=maxLen/\ ∀(k:Int×Int×List Int),k∈h->ao k.1/\ao k.2.1/\k.2.2.length<=maxLen/\ ∀(l:Int),l∈k.2.2->0<=l/\l<=255)/\i.length<=maxLen/\ ∀(k:Int×Int×List Int),k∈i->ao k.1/\ao k.2.1/\k.2.2.length<=maxLen/\ ∀(l:Int),l∈k.2.2->0<=l/\l<=255)/\(j.length<=maxLen/\ ∀(k:Bool×Int×Int),k∈j->True/\ao k.2.1/\ao k.2.2)/\True->(∃(k:List (List Int)),oF a b c e f g h i j k)->(∃(k:Int) (l:List (List Int)),∃(m:List ax),(0<=k/\k<=((dE a h):Int)/\(l,m)=bU (e+c) (List.take k.toNat (am a h)) (f,g))/\j=j/\(0:Nat)=(0:Nat)/\List.length (am a
 h)=List.length (am a h)/\(0:Nat)=(0:Nat)/\List.length (am a h)=List.length (am a h)/\((dE a h):Int)=((dE a h):Int)/\(0:Int)=k/\h=h/\i=i/\a=a/\b=b/\c=c/\d=d/\e=e/\List.length (am a h)=List.length (am a h)/\h.length -List.length (am a h)=h.length -List.length (am a h)/\f=l/\g=m/\True)/\ ∀(k:Int)(l:List (List Int))(m:List ax),0<=k/\k<=((dE a h):Int)/\(l,m)=bU (e+c) (List.take k.toNat (am a h)) (f,g)->ah (decide (k<((dE a h):Int))) (0<=k/\k<((dE a h):Int)/\(la h k)<=9223372036854775807/\(0:Int)<=3/\3<=(la h k)/\(la h k)<=(la h k)/\((List.length (nj h k)):Int)<=1099511627776/\nF e c l m/\ ∃(n:Int) (o:List (List Int)),∃(p:List ax),(0<=n/\n<=((dE a h):Int)/\(o,p)=bU (e+c) (List.take n.toNat (am a h)) (f,g))/\Int.toNat (((dE a h):Int) -n)<Int.toNat (((dE a h):Int) -k)/\j=j/\(0:Nat)=(0:Nat)/\List.length (am a h)=List.length (am a
 h)/\(0:Nat)=(0:Nat)/\List.length (am a h)=List.length (am a h)/\((dE a h):Int)=((dE a h):Int)/\IntKind.wrap .i64 (k+(1:Int))=n/\h=h/\i=i/\a=a/\b=b/\c=c/\d=d/\e=e/\List.length (am a h)=List.length (am a h)/\h.length -List.length (am a h)=h.length -List.length (am a h)/\(cd (e+c) (l,m) (aA (h.getD ((0:Nat)+k.toNat) default).2.2 (1:Int)) (nj h k)).1=o/\(cd (e+c) (l,m) (aA (h.getD ((0:Nat)+k.toNat) default).2.2 (1:Int)) (nj h k)).2=p/\True) (List.length (am a h)+(h.length -List.length (am a h))=h.length/\ah (decide (((dE a h):Int)=0)) ((a,b,c,d,e,l,m,List.drop (dE a h) h,i)=(a,(iu a b (bk a (e+c) h f g) h i j).1,c,d,e,(bk a (e+c) h f g).1,(bk a (e+c) h f g).2,aX a h,(iu a b (bk a (e+c) h f g) h i j).2)) (0<=(l.length:Int)/\(List.length [(65:Int)]+List.length (ch (l.length:Int) (2:Nat) (2:Nat)))*(1:Nat)<=(140737488355328:Nat)/\(∃(n:Int)
 (o:List Int),(0<=n/\n<=((List.length (bk a (e+c) h f g).2):Int)/\o=br ((List.length (bk a (e+c) h f g).1):Int) (List.take n.toNat (List.map (fun (p:ax)=>p.1) (bk a (e+c) h f g).2)))/\j=j/\(m.length:Int)=(m.length:Int)/\(0:Int)=n/\a=a/\b=b/\c=c/\d=d/\e=e/\l=l/\m=m/\List.drop (dE a h) h=List.drop (dE a h) h/\i=i/\[(65:Int)]++ch (l.length:Int) (2:Nat) (2:Nat)=o/\True)/\ ∀(n:Int)(o:List Int),0<=n/\n<=((List.length (bk a (e+c) h f g).2):Int)/\o=br ((List.length (bk a (e+c) h f g).1):Int) (List.take n.toNat (List.map (fun (p:ax)=>p.1) (bk a (e+c) h f g).2))->ah (decide (n<(m.length:Int))) (0<=n/\n<(m.length:Int)/\0<=(m.getD n.toNat default).1/\(o.length+List.length (ch (m.getD n.toNat default).1 (2:Nat) (2:Nat)))*(1:Nat)<=(140737488355328:Nat)/\ ∃(p:Int) (q:List Int),(0<=p/\p<=((List.length (bk a (e+c) h f g).2):Int)/\q=br ((List.length (bk a (e+c) h f g).1):Int)
 (List.take p.toNat (List.map (fun (r:ax)=>r.1) (bk a (e+c) h f g).2)))/\Int.toNat (((List.length (bk a (e+c) h f g).2):Int) -p)<Int.toNat (((List.length (bk a (e+c) h f g).2):Int) -n)/\j=j/\(m.length:Int)=(m.length:Int)/\IntKind.wrap .i64 (n+(1:Int))=p/\a=a/\b=b/\c=c/\d=d/\e=e/\l=l/\m=m/\List.drop (dE a h) h=List.drop (dE a h) h/\i=i/\o++ch (m.getD n.toNat default).1 (2:Nat) (2:Nat)=q/\True) (cG a b i/\b<=900000000000000/\fZ (bi j (Int.toNat (0:Int)))/\(0:Int)<=0/\(o.length:Int)<=1000000/\(a,(bg a o (bi j (Int.toNat (0:Int))) (b,i)).1,c,d,e,l,m,List.drop (dE a h) h,(bg a o (bi j (Int.toNat (0:Int))) (b,i)).2)=(a,(iu a b (bk a (e+c) h f g) h i j).1,c,d,e,(bk a (e+c) h f g).1,(bk a (e+c) h f g).2,aX a h,(iu a b (bk a (e+c) h f g) h i j).2)))):=by
  delta la dE nj
  rintro now ord win s kn got ear dn up fs-⟨log,h⟩
  obtain⟨q1,q2,q3,q4⟩:=nh now dn
  have hln:=h.ln
  have hdl:=h.dl
  have hso:=h.so
  obtain⟨-,-,-,-,hup⟩:=hso
  have eG:bk now (kn+win) dn got ear=bU (kn+win) (am now dn) (got,ear):=rfl
  have eU:iu now ord (bk now (kn+win) dn got ear) dn up fs=if am now dn=[] then (ord,up) else bg now (br ((bk now (kn+win) dn got ear).1.length:Int) ((bk now (kn+win) dn got ear).2.map (·.1))) (bi fs 0) (ord,up):=rfl
  rw[eU,← q2,eG]
  clear eU eG
  have hd:∀ t∈am now dn,iG log t:=fun t ht=>h.dd t (q4 t ht)
  generalize am now dn=L at *
  have hst:∀ n:Nat,∀(g:List (List Int))(e:List ax),(g,e)=bU (kn+win) (L.take n) (got,ear)->nF kn win g e/\g.length<=1024/\e.length<=1024∧∀ x∈e,0<=x.1/\x.1<1024:=fun n g e he=>by
   obtain⟨k1,-⟩:=jX hln (l:=L.take n) h.rc fun t ht=>hd t (List.mem_of_mem_take ht)
   rw[← he] at k1
   exact nG k1 hln h.kn h.wn
  refine⟨⟨0,got,ear,⟨by omega,by omega,rfl⟩,(by repeat' first|exact trivial|refine⟨trivial,?_⟩|refine⟨(by with_reducible rfl),?_⟩|refine⟨ad (by omega) (by omega),?_⟩|refine⟨rfl,?_⟩)⟩,?_⟩
  rintro j g e ⟨j0,j1,he⟩
  obtain⟨t1,t2,t3,t4⟩:=hst _ _ _ he
  refine aq (fun hj=>?_) (fun hj=>?_)
  ·have hj:=of_decide_eq_true hj
   have ed:dn.getD (0+j.toNat) default=L.getD j.toNat default:=by rw[Nat.zero_add];exact q3 _ (by omega)
   have hmem:=ce (xs:=L) j0 hj
   rw[ed]
   obtain⟨d1,d2⟩:=qb (hd _ hmem) h.it
   have ht:=dK (l:=L) j0 hj
   generalize L.getD j.toNat default=T at *
   have es:bf T.2.2 (Int.toNat 3) (Int.toNat (T.2.2.length:Int))=T.2.2.drop 3:=by
    unfold bf;rw[Int.toNat_natCast,List.take_length];rfl
   rw[es]
   refine⟨j0,by omega,by omega,by omega,by omega,by omega,by rw[List.length_drop];omega,t1,j+1,(cd (kn+win) (g,e) (aA T.2.2 1) (T.2.2.drop 3)).1,(cd (kn+win) (g,e) (aA T.2.2 1) (T.2.2.drop 3)).2,⟨by omega,by omega,?_⟩,by omega,(by repeat' first|exact trivial|refine⟨trivial,?_⟩|refine⟨(by with_reducible rfl),?_⟩|refine⟨ad (by omega) (by omega),?_⟩|refine⟨rfl,?_⟩)⟩
   rw[ht,wI,← he]
  ·have hj:=of_decide_eq_false hj
   have ej:j.toNat=L.length:=by omega
   rw[ej,List.take_length] at he
   rw[← he]
   refine⟨by omega,aq (fun hz=>?_) (fun hz=>?_)⟩
   ·have hz:=of_decide_eq_true hz
    rw[if_pos (List.eq_nil_of_length_eq_zero (by omega))]
   ·have hz:=of_decide_eq_false hz
    rw[if_neg (fun hL=>hz (by rw[hL];rfl))]
    refine⟨by omega,by rw[jY];simp only[List.length_singleton];omega,⟨0,br (g.length:Int) [],⟨by omega,by omega,by simp⟩,?_⟩,?_⟩
    ·(repeat first|refine⟨trivial,?_⟩|refine⟨(by with_reducible rfl),?_⟩|refine⟨ad (by omega) (by omega),?_⟩)
     exact⟨by simp[br,dA],trivial⟩
    ·rintro i b ⟨i0,i1,hb⟩
     have hb:b=br (g.length:Int) ((e.map (·.1)).take i.toNat):=hb
     subst hb
     have i1:i<=(e.length:Int):=i1
     have hbl:(br (g.length:Int) ((e.map (·.1)).take i.toNat)).length<=3+2*1024:=by
      rw[kB,List.length_take,List.length_map];omega
     refine aq (fun hi=>?_) (fun hi=>?_)
     ·have hi:=of_decide_eq_true hi
      have hx:=t4 _ (ce (xs:=e) i0 hi)
      have hn:=dK (l:=e.map (·.1)) i0 (by rw[List.length_map];exact hi)
      have em:(e.map (·.1)).getD i.toNat default=(e.getD i.toNat default).1:=by
       simp only[List.getD_eq_getElem?_getD,List.getElem?_map]
       rw[List.getElem?_eq_getElem (by omega)];rfl
      refine⟨i0,hi,hx.1,by rw[jY];omega,i+1,br (g.length:Int) ((e.map (·.1)).take (i+1).toNat),⟨by omega,by show i+1<=(e.length:Int);omega,rfl⟩,by show ((e.length:Int)-(i+1)).toNat<((e.length:Int)-i).toNat;omega,?_⟩
      (repeat first|refine⟨trivial,?_⟩|refine⟨(by with_reducible rfl),?_⟩|refine⟨ad (by omega) (by omega),?_⟩)
      exact⟨by rw[tp,hn,em],trivial⟩
     ·have hi:=of_decide_eq_false hi
      refine⟨h.so,h.oo,h.ff,by omega,by omega,?_⟩
      have ei:(e.map (·.1)).take i.toNat=e.map (·.1):=List.take_of_length_le (by rw[List.length_map];omega)
      rw[ei]
      rfl
theorem yA:aG Try.prog GL 54 te.spec:=Ct.okH _ Try.func54 (by kernel_rfl) (sH (ay (ay (ay (ay (ay (ay aP Cz) nJ) kY) CO) wv) sI) (d:=33) (p:=1048576) (off:=7)) aD yx (aQ (by kernel_rfl) AE)
abbrev Bg:OT := .pair cI (.pair (.hole 0) (.pair (.hole 1) (.pair (.hole 2) (.pair cI (.pair (.hole 3) (.pair (.hole 4) (.pair (.hole 5) (.row 53 a9))))))))
theorem nu:∀ n:Nat,∀ l:List Int,l.length<=n->(cJ l).length=l.length/2
 | 0,[],_=>rfl
 | n+1,[],_=>rfl
 | n+1,[a],_=>by simp[cJ]
 | n+1,a::b::r,h=>by
  rw[cJ,List.length_cons,nu n r (by simp at h;omega)]
  simp only[List.length_cons];omega
theorem qF:∀(q:Nat){l:List Int},2*q+2<=l.length->cJ (l.take (2*q+2))=cJ (l.take (2*q))++[l.getD (2*q) 0*256+l.getD (2*q+1) 0]
 | 0,a::b::r,h=>rfl
 | 0,[],h=>by simp at h
 | 0,[a],h=>by simp at h
 | q+1,a::b::r,h=>by
  have e:=qF q (l:=r) (by simp at h;omega)
  rw[show 2*(q+1)+2=(2*q+2)+1+1 by omega,show 2*(q+1)=2*q+1+1 by omega]
  simp only[List.take_succ_cons,cJ,List.cons_append,List.getD_cons_succ]
  rw[e]
 | q+1,[],h=>by simp at h
 | q+1,[a],h=>by simp at h
theorem rF{b:List Int}{n:Nat}(h:n+2<=b.length):aA b n=(b.drop n).getD 0 0*256+(b.drop n).getD 1 0:=by
 rw[mE h]
 match hd:b.drop n with
 | x::y::r=>exact qo x y
 | []=>have:=congrArg List.length hd;simp at this;omega
 | [x]=>have:=congrArg List.length hd;simp at this;omega
theorem uh(l:List af)(t:af):bK (l++[t])=bK l++cJ (t.2.2.drop 3):=by
 unfold bK;rw[List.flatMap_append];simp
theorem sd(k:Int)(l:List af)(t:af):bD k (l++[t])=max (bD k l) (aA t.2.2 1):=by
 unfold bD;rw[List.foldl_append];rfl
theorem mD:∀{l:List af},(∀ t∈l,∃ m:Nat,t.2.2.length=3+2*m/\m<=2000)->(bK l).length<=2000*l.length
 | [],_=>Nat.le_refl _
 | t::r,h=>by
  obtain⟨m,h1,h2⟩:=h t List.mem_cons_self
  have h3:=mD (l:=r) fun x hx=>h x (List.mem_cons_of_mem _ hx)
  show (cJ (t.2.2.drop 3)++bK r).length<=_
  rw[List.length_append,nu _ _ (Nat.le_refl _),List.length_drop,List.length_cons]
  omega
def wU:Ct:=⟨[.box 28 Bg],[.own 3 cI],fun d=>[d.1.2.2.2.2.2.2.2.2.length<=4096,∀ t∈d.1.2.2.2.2.2.2.2.2,∃ m:Nat,t.2.2.length=3+2*m/\m<=2000],fun d=>((bK (am d.1.1 d.1.2.2.2.2.2.2.2.2),()),((d.1.1,d.1.2.1,d.1.2.2.1,d.1.2.2.2.1,bD d.1.2.2.2.2.1 (am d.1.1 d.1.2.2.2.2.2.2.2.2),d.1.2.2.2.2.2.1,d.1.2.2.2.2.2.2.1,d.1.2.2.2.2.2.2.2.1,aX d.1.1 d.1.2.2.2.2.2.2.2.2),()))⟩
def Ee:aC wU.ps->aN:=(fun d=>{loops:=(fun n=>match n with|3=>some (fun S=>{ι:=Int×Int×(List Int),qn:=⟨fun k_=>∀(j:Int)(kn:Int)(nt:(List Int)),k_ (j,kn,nt),fun k_ h_ i=>h_ i.1 i.2.1 i.2.2,fun k_=>∃ (j:Int) (kn:Int) (nt:(List Int)),k_ (j,kn,nt),fun k_ ⟨j,kn,nt,h_⟩=>⟨_,h_⟩⟩,μ:=fun i=>((am d.1.1 d.1.2.2.2.2.2.2.2.2).length-i.1).toNat,inv:=fun i=>0<=i.1/\i.1<=(am d.1.1 d.1.2.2.2.2.2.2.2.2).length/\i.2.1=bD d.1.2.2.2.2.1 ((am d.1.1 d.1.2.2.2.2.2.2.2.2).take i.1.toNat)/\i.2.2=bK ((am d.1.1 d.1.2.2.2.2.2.2.2.2).take i.1.toNat),keep:=[0,11,12],slots:=fun i=>[(13,.int .i64 i.1),(3,.own 524288 1)],keepN:=[192],names:=fun i=>[(1048576,.live (.cells 28 [.int .i64 d.1.1,.hv 1572864 d.1.2.1,.hv 1572865 d.1.2.2.1,.hv 1572866 d.1.2.2.2.1,.int .i64 i.2.1,.hv 1572867 d.1.2.2.2.2.2.1,.hv 1572868 d.1.2.2.2.2.2.2.1,.hv 1572869 d.1.2.2.2.2.2.2.2.1,.part 192 3 (am d.1.1 d.1.2.2.2.2.2.2.2.2).length (d.1.2.2.2.2.2.2.2.2.length-(am d.1.1 d.1.2.2.2.2.2.2.2.2).length)])),(524288,.live (.row 3 cI i.2.2)),(1572864,.dead),(1572865,.dead),(1572866,.dead),(1572867,.dead),(1572868,.dead),(1572869,.dead)]})|7=>some (fun S=>{ι:=Int×(List Int),qn:=⟨fun k_=>∀(a:Int)(nt:(List Int)),k_ (a,nt),fun k_ h_ i=>h_ i.1 i.2,fun k_=>∃ (a:Int) (nt:(List Int)),k_ (a,nt),fun k_ ⟨a,nt,h_⟩=>⟨_,h_⟩⟩,μ:=fun i=>((S.c a9 96).2.2.length-i.1).toNat,inv:=fun i=>3<=i.1/\i.1<=(S.c a9 96).2.2.length/\(i.1-3)%2=0/\i.2=S.o cI 3++cJ (((S.c a9 96).2.2.drop 3).take (i.1-3).toNat),keep:=[0,5,11,12,13],slots:=fun i=>[(6,.int .i64 i.1),(3,.own 524289 1)],keepN:=[1048576,96,192],names:=fun i=>[(524289,.live (.row 3 cI i.2)),(1572864,.dead),(1572865,.dead),(1572866,.dead),(1572867,.dead),(1572868,.dead),(1572869,.dead)]})|_=>none)})
def cR(i:List (Int×Int×List Int))(j:Int) :=
 i.getD ((0:Nat)+j.toNat) default
def d7(a:Int)(i:List (Int×Int×List Int)) :=
 ((List.length (am a i)):Int)
def hS(i:List (Int×Int×List Int))(j:Int) :=
 ((List.length (cR i j).2.2):Int)
theorem BJ :
 ∀(a:Int)(b c d:SV)(e:Int)(f g h:SV)(i:List (Int×Int×List Int)),(ao a/\True/\True/\True/\ao e/\True/\True/\True/\i.length<=maxLen/\ ∀(j:Int×Int×List Int),j∈i->ao j.1/\ao j.2.1/\j.2.2.length<=maxLen/\ ∀(k:Int),k∈j.2.2->0<=k/\k<=255)/\True->(i.length<=(4096:Nat)/\ ∀(j:Int×Int×List Int),j∈i-> ∃(k:Nat),j.2.2.length=(3:Nat)+(2:Nat)*k/\k<=(2000:Nat))->(∃(j:Int) (k:Int),∃(l:List Int),(0<=j/\j<=(d7 a i)/\k=bD e (List.take j.toNat (am a i))/\l=bK (List.take j.toNat (am a i)))/\(0:Nat)=(0:Nat)/\List.length (am a i)=List.length (am a i)/\(d7 a i)=(d7 a i)/\(0:Int)=j/\i=i/\a=a/\b=b/\c=c/\d=d/\e=k/\f=f/\g=g/\h=h/\List.length (am a i)=List.length (am a i)/\i.length -List.length (am a i)=i.length -List.length (am a i)/\l=([]:List Int)/\True)/\ ∀(j k:Int)(l:List Int),0<=j/\j<=(d7 a i)/\k=bD e (List.take j.toNat (am a i))/\l=bK (List.take j.toNat (am a
 i))->ah (decide (j<(d7 a i))) (0<=j/\j<(d7 a i)/\(hS i j)<=9223372036854775807/\(∃(m:Int) (n:List Int),(3<=m/\m<=(hS i j)/\(m -(3:Int))%(2:Int)=0/\n=l++cJ (List.take (Int.toNat (m -(3:Int))) (List.drop (3:Nat) (cR i j).2.2)))/\(3:Int)=m/\(0:Nat)=(0:Nat)/\List.length (am a i)=List.length (am a i)/\(d7 a i)=(d7 a i)/\j=j/\a=a/\b=b/\c=c/\d=d/\max k (aA (cR i j).2.2 (1:Int))=max k (aA (cR i j).2.2 (1:Int))/\f=f/\g=g/\h=h/\List.length (am a i)=List.length (am a i)/\i.length -List.length (am a i)=i.length -List.length (am a i)/\(cR i j).1=(cR i j).1/\(cR i j).2.1=(cR i j).2.1/\(cR i j).2.2=(cR i j).2.2/\i=i/\l=n/\True)/\ ∀(m:Int)(n:List Int),3<=m/\m<=(hS i j)/\(m -(3:Int))%(2:Int)=0/\n=l++cJ (List.take (Int.toNat (m -(3:Int))) (List.drop (3:Nat) (cR i j).2.2))->ah (decide (m<(hS i j))) ((hS i
 j)<=9223372036854775807/\(n.length+List.length [aA (cR i j).2.2 m])*(8:Nat)<=(140737488355328:Nat)/\ ∃(o:Int) (p:List Int),(3<=o/\o<=(hS i j)/\(o -(3:Int))%(2:Int)=0/\p=l++cJ (List.take (Int.toNat (o -(3:Int))) (List.drop (3:Nat) (cR i j).2.2)))/\Int.toNat ((hS i j) -o)<Int.toNat ((hS i j) -m)/\IntKind.wrap .i64 (m+(2:Int))=o/\(0:Nat)=(0:Nat)/\List.length (am a i)=List.length (am a i)/\(d7 a i)=(d7 a i)/\j=j/\a=a/\b=b/\c=c/\d=d/\max k (aA (cR i j).2.2 (1:Int))=max k (aA (cR i j).2.2 (1:Int))/\f=f/\g=g/\h=h/\List.length (am a i)=List.length (am a i)/\i.length -List.length (am a i)=i.length -List.length (am a i)/\(cR i j).1=(cR i j).1/\(cR i j).2.1=(cR i j).2.1/\(cR i j).2.2=(cR i j).2.2/\i=i/\n++[aA (cR i j).2.2 m]=p/\True) (∃(o:Int) (p:Int),∃(q:List Int),(0<=o/\o<=(d7 a i)/\p=bD e (List.take o.toNat (am a i))/\q=bK
 (List.take o.toNat (am a i)))/\Int.toNat ((d7 a i) -o)<Int.toNat ((d7 a i) -j)/\(0:Nat)=(0:Nat)/\List.length (am a i)=List.length (am a i)/\(d7 a i)=(d7 a i)/\IntKind.wrap .i64 (j+(1:Int))=o/\i=i/\a=a/\b=b/\c=c/\d=d/\max k (aA (cR i j).2.2 (1:Int))=p/\f=f/\g=g/\h=h/\List.length (am a i)=List.length (am a i)/\i.length -List.length (am a i)=i.length -List.length (am a i)/\n=q/\True)) (List.length (am a i)+(i.length -List.length (am a i))=i.length/\l=bK (am a i)/\(a,b,c,d,k,f,g,h,List.drop (List.length (am a i)) i)=(a,b,c,d,bD e (am a i),f,g,h,aX a i)):=by
  delta cR d7 hS
  rintro now s0 s1 s2 kn s3 s4 s5 up-⟨hn,hm⟩
  obtain⟨q1,q2,q3,q4⟩:=nh now up
  rw[← q2]
  generalize am now up=L at *
  have hmL:∀ t∈L,∃ m:Nat,t.2.2.length=3+2*m/\m<=2000:=fun t ht=>hm t (q4 t ht)
  refine⟨⟨0,kn,[],⟨by omega,by omega,rfl,rfl⟩,(by repeat' first|exact trivial|refine⟨trivial,?_⟩|refine⟨(by with_reducible rfl),?_⟩|refine⟨ad (by omega) (by omega),?_⟩|refine⟨rfl,?_⟩)⟩,?_⟩
  rintro j k nt ⟨j0,j1,rfl,rfl⟩
  refine aq (fun hj=>?_) (fun hj=>?_)
  ·have hj:=of_decide_eq_true hj
   have e:up.getD (0+j.toNat) default=L.getD j.toNat default:=by rw[Nat.zero_add];exact q3 _ (by omega)
   have hmem:=ce (xs:=L) j0 hj
   rw[e]
   obtain⟨m,hl,hm2⟩:=hmL _ hmem
   have ht:=dK (l:=L) j0 hj
   generalize L.getD j.toNat default=T at *
   refine⟨j0,by omega,by omega,⟨3,_,⟨by omega,by omega,rfl,rfl⟩,?_⟩,?_⟩
   ·(repeat first|refine⟨trivial,?_⟩|refine⟨(by with_reducible rfl),?_⟩|refine⟨ad (by omega) (by omega),?_⟩)
    exact⟨by simp[cJ],trivial⟩
   rintro a nt2 ⟨a0,a1,a2,rfl⟩
   have hh:=mD (l:=L.take j.toNat) fun t ht=>hmL t (List.mem_of_mem_take ht)
   have hlt:(L.take j.toNat).length<=L.length:=by rw[List.length_take];omega
   refine aq (fun ha=>?_) (fun ha=>?_)
   ·have ha:=of_decide_eq_true ha
    obtain⟨q,hq⟩:∃ q:Nat,a=3+2*(q:Int):=⟨((a-3)/2).toNat,by omega⟩
    subst hq
    have hp:=nu _ ((T.2.2.drop 3).take (3+2*(q:Int)-3).toNat) (Nat.le_refl _)
    have e1:(3+2*(q:Int)-3).toNat=2*q:=by omega
    have e2:(3+2*(q:Int)+2-3).toNat=2*q+2:=by omega
    have e3:(3+2*(q:Int))=((3+2*q:Nat):Int):=by omega
    have e4:aA T.2.2 (3+2*(q:Int))=(T.2.2.drop 3).getD (2*q) 0*256+(T.2.2.drop 3).getD (2*q+1) 0:=by
     rw[e3,rF (by omega),← List.drop_drop]
     simp only[List.getD_eq_getElem?_getD,List.getElem?_drop,Nat.add_zero]
    refine⟨by omega,?_,3+2*(q:Int)+2,_,⟨by omega,by omega,by omega,rfl⟩,by omega,?_⟩
    ·rw[List.length_append,hp,List.length_singleton,List.length_take,List.length_drop];omega
    ·(repeat first|refine⟨trivial,?_⟩|refine⟨(by with_reducible rfl),?_⟩|refine⟨ad (by omega) (by omega),?_⟩)
     exact⟨by rw[e1,e2,e4,qF q (by rw[List.length_drop];omega),List.append_assoc],trivial⟩
   ·have ha:=of_decide_eq_false ha
    have w1:max (bD kn (L.take j.toNat)) (aA T.2.2 1)=bD kn (L.take (j+1).toNat):=by rw[ht,sd]
    have w2:bK (L.take j.toNat)++cJ ((T.2.2.drop 3).take (a-3).toNat)=bK (L.take (j+1).toNat):=by rw[ht,uh,List.take_of_length_le (l:=T.2.2.drop 3) (by rw[List.length_drop];omega)]
    rw[w1,w2]
    exact⟨j+1,_,_,⟨by omega,by omega,rfl,rfl⟩,by omega,(by repeat' first|exact trivial|refine⟨trivial,?_⟩|refine⟨(by with_reducible rfl),?_⟩|refine⟨ad (by omega) (by omega),?_⟩|refine⟨rfl,?_⟩)⟩
  ·have hj:=of_decide_eq_false hj
   have e:j.toNat=L.length:=by omega
   rw[e,List.take_length]
   exact⟨by omega,rfl,rfl⟩
theorem CE:aG Try.prog GL 55 wU.spec:=Ct.okH _ Try.func55 (by kernel_rfl) (sH (ay (ay aP Ao) nJ) (d:=43) (p:=1048576) (off:=8)) aD Ee (aQ (by kernel_rfl) BJ)
def fG(c:aj)(up:List a7)(x:Int):List Int:=(dU x (min ((ae c).length:Int) (aE c up+ak c))).filter fun i => !(bK (dq c up)).contains i
theorem sb{now d:Int}{b:List Int}:∀(n:Nat)(k:Int){o:Int}{l:List af},cG now o l->o+n<=1000000000000000->cG now (bA now d b n k (o,l)).1 (bA now d b n k (o,l)).2/\(bA now d b n k (o,l)).1<=o+n
 | 0,k,o,l,h,_=>⟨h,by show o<=_;omega⟩
 | n+1,k,o,l,h,hb=>by
  rw[bA]
  dsimp only
  split
  ·rename_i hl
   obtain⟨k1,k2⟩:=sb (now:=now) (d:=d) (b:=b) n (k+1) (o:=o+1) (l:=bX l (now+1+d+k,o,b)) (h.next (by omega) hl) (by omega)
   exact⟨k1,by omega⟩
  ·exact⟨h,by show o<=_;omega⟩
theorem tk{now:Int}{b:List Int}{f:a7}(hf:fZ f){o:Int}{l:List af}(h:cG now o l)(ho:o<=900000000000000):cG now (bg now b f (o,l)).1 (bg now b f (o,l)).2/\(bg now b f (o,l)).1<=o+9:=by
 unfold bg
 obtain⟨f1,f2⟩:=hf
 split
 ·exact⟨h,by show o<=_;omega⟩
 ·obtain⟨k1,k2⟩:=sb (now:=now) (d:=f.2.1) (b:=b) (f.2.2+1).toNat 0 h (by omega)
  exact⟨k1,by omega⟩
theorem vC{x b:Int}(h:x<b):dU x b=x::dU (x+1) b:=by
 unfold dU
 obtain⟨n,hn⟩:∃ n,(b-x).toNat=n+1:=⟨(b-x).toNat-1,by omega⟩
 rw[hn,show (b-(x+1)).toNat=n by omega,List.range_succ_eq_map,List.map_cons,List.map_map]
 congr 1
 ·simp
 ·apply List.map_congr_left
  intro k _
  simp only[Function.comp_apply,Nat.succ_eq_add_one]
  omega
theorem vR{x b:Int}(h:¬ x<b):dU x b=[]:=by
 unfold dU
 rw[show (b-x).toNat=0 by omega];rfl
theorem xp:∀{l:List Int}{lo hi:Int},l.Pairwise (fun a b=>a<b)->(∀ x∈l,lo<=x/\x<hi)->(l.length:Int)<=max 0 (hi-lo)
 | [],lo,hi,_,_=>by simp;omega
 | x::r,lo,hi,hs,hb=>by
  obtain⟨s1,s2⟩:=List.pairwise_cons.1 hs
  have hx:=hb x List.mem_cons_self
  have:=xp (l:=r) (lo:=x+1) (hi:=hi) s2 fun y hy=>⟨by have:=s1 y hy;omega,(hb y (List.mem_cons_of_mem _ hy)).2⟩
  rw[List.length_cons];omega
theorem pk{log:List (List Int)}{s:List (List Int)×List ax}{t:af}(h:fc log s t)(hl:log.length<=1024):∃ m:Nat,t.2.2.length=3+2*m/\m<=2000:=by
 obtain⟨g,es,h1,h2,h3,h4⟩:=h
 refine⟨es.length,by rw[h1,kB],?_⟩
 have:=xp (lo:=0) (hi:=1024) h3 fun x hx=>by have:=(h4 x hx).1;omega
 omega
theorem cF.so{now n1 ord:Int}{l:List af}(h:cF now ord l)(h1:0<=n1/\n1<=2000000000000)(h2:0<=ord/\ord<=1000000000000000):cG n1 ord l:=⟨h1,h2,h.s,fun x hx=>(h.r x hx).2.2,h.n⟩
theorem XI.parts{c:aj}(h:XI c){up:List a7}(hu:dQ up):(cF (ab c) (au c up).1 (au c up).2/\a8 c<=(au c up).1/\(au c up).1<=a8 c+9∧∀ t∈(au c up).2,fc (ae c) (aO c) t)/\0<=aE c up/\aE c up<=1024:=by
 obtain⟨r1,r2,r3,r4⟩:=jX h.log (l:=am (ab c+1) (aJ c)) h.rc fun t ht=>h.dd t (jM ht).1
 have eG:aO c=bU (az c+ak c) (am (ab c+1) (aJ c)) (aF c,aH c):=rfl
 rw[← eG] at r1 r2 r3 r4
 have r2:(aF c).length<=(aO c).1.length:=r2
 have hgl:=r1.n
 have hlog:=h.log
 have hkn:=h.kn
 have aU:cF (ab c) (au c up).1 (au c up).2/\a8 c<=(au c up).1/\(au c up).1<=a8 c+9∧∀ t∈(au c up).2,fc (ae c) (aO c) t:=by
  have old:∀ t∈ba c,fc (ae c) (aO c) t:=fun t ht=>(h.ud t ht).more r2 r3
  unfold au
  split
  ·exact⟨h.up,Int.le_refl _,by show a8 c<=_;omega,old⟩
  ·obtain⟨k1,k2,k3,k4,-⟩:=oA (n0:=ab c) (now:=ab c+1) (b:=br ((aO c).1.length:Int) ((aO c).2.map (·.1))) ⟨by omega,by omega⟩ (iR hu 0) h.ord h.up
   refine⟨k1,k2,k3,fun t ht=>?_⟩
   rcases k4 t ht with q|q
   ·exact old t q
   ·refine⟨_,_,q,⟨by omega,Int.le_refl _⟩,?_,fun e he=>?_⟩
    ·rw[List.pairwise_map];exact r1.e.s
    ·obtain⟨x,hx,rfl⟩:=List.mem_map.1 he
     exact⟨(r1.e.r x hx).1,.inr ⟨x,hx,rfl⟩⟩
 obtain⟨n1,n2⟩:=pf (log:=ae c) (s:=aO c) (by omega) (l:=dq c up) (k:=az c) hkn.1 (by omega) fun t ht=>aU.2.2.2 t (jM ht).1
 have n1:az c<=aE c up:=n1
 have n2:aE c up<=(aO c).1.length:=n2
 exact⟨aU,by omega,by omega⟩
def sG:Ct:=⟨[.box 28 wG,.val (.sl fe),.val (.sl fe)],[],fun d=>[XR d.1,ab d.1<1099511627776,dQ d.2.1,dQ d.2.2.1],fun d=>((),(bh d.1 d.2.1 d.2.2.1,()))⟩
def CA:aC sG.ps->aN:=(fun d=>{loops:=(fun n=>match n with|5=>some (fun S=>{ι:=Int×Int×Int×(List af),qn:=⟨fun k_=>∀(x:Int)(i:Int)(o:Int)(dn:(List af)),k_ (x,i,o,dn),fun k_ h_ i=>h_ i.1 i.2.1 i.2.2.1 i.2.2.2,fun k_=>∃ (x:Int) (i:Int) (o:Int) (dn:(List af)),k_ (x,i,o,dn),fun k_ ⟨x,i,o,dn,h_⟩=>⟨_,h_⟩⟩,μ:=fun i=>(aE d.1 d.2.2.1+ak d.1-i.1).toNat,inv:=fun i=>aE d.1 d.2.2.1<=i.1/\0<=i.2.1/\i.2.1<=i.1-aE d.1 d.2.2.1/\cG (ab d.1+1) i.2.2.1 i.2.2.2/\i.2.2.1<=(au d.1 d.2.2.1).1+9*i.2.1/\i.1<=aE d.1 d.2.2.1+ak d.1/\bV (ab d.1+1) (ae d.1) d.2.1 (fG d.1 d.2.2.1 i.1) i.2.1.toNat (i.2.2.1,i.2.2.2)=cV d.1 d.2.1 d.2.2.1,keep:=[0,1,6],slots:=fun i=>[(8,.int .i64 i.1),(7,.int .i64 i.2.1)],keepN:=[2097152,304,305,337,336],names:=fun i=>[(1048576,.live (.cells 28 [.int .i64 (ab d.1+1),.int .i64 i.2.2.1,.int .i64 (ak d.1),.own 2097152 1,.int .i64 (aE d.1 d.2.2.1),.own 304 1,.own 305 2,.own 524288 3,.own 337 3])),(524288,.live (.row 53 a9 i.2.2.2))]})|_=>none)})
def bJ(a:Int) :=
 IntKind.wrap .i64 (a+(1:Int))
def dm(a b c e:Int)(f:List (List Int))(g:List (Int×List Int))(h i:List (Int×Int×List Int))(k:List (Bool×Int×Int)) :=
 iu (bJ a) b (bk (bJ a) (e+c) h f g) h i k
def qR(a b c:Int)(d:List (List Int))(e:Int)(f:List (List Int))(g:List (Int×List Int))(h i:List (Int×Int×List Int))(j k:List (Bool×Int×Int))(p q r:Int)(s:List af) :=
 aE (a,b,c,d,e,f,g,h,i) k<=p/\0<=q/\q<=p -aE (a,b,c,d,e,f,g,h,i) k/\cG (ab (a,b,c,d,e,f,g,h,i)+(1:Int)) r s/\r<=(au (a,b,c,d,e,f,g,h,i) k).1+(9:Int)*q/\p<=aE (a,b,c,d,e,f,g,h,i) k+ak (a,b,c,d,e,f,g,h,i)/\bV (ab (a,b,c,d,e,f,g,h,i)+(1:Int)) (ae (a,b,c,d,e,f,g,h,i)) j (fG (a,b,c,d,e,f,g,h,i) k p) q.toNat (r,s)=cV (a,b,c,d,e,f,g,h,i) j k
def qg(a b c:Int)(d:List (List Int))(e:Int)(f:List (List Int))(g:List (Int×List Int))(h i:List (Int×Int×List Int))(j k:List (Bool×Int×Int))(l m n:Int)(o:List af) :=
 0<=m/\m<=l -aE (a,b,c,d,e,f,g,h,i) k/\cG (ab (a,b,c,d,e,f,g,h,i)+(1:Int)) n o/\n<=(au (a,b,c,d,e,f,g,h,i) k).1+(9:Int)*m/\l<=aE (a,b,c,d,e,f,g,h,i) k+ak (a,b,c,d,e,f,g,h,i)/\bV (ab (a,b,c,d,e,f,g,h,i)+(1:Int)) (ae (a,b,c,d,e,f,g,h,i)) j (fG (a,b,c,d,e,f,g,h,i) k l) m.toNat (n,o)=cV (a,b,c,d,e,f,g,h,i) j k
theorem Cv :
 ∀(a b c:Int)(d:List (List Int))(e:Int)(f:List (List Int))(g:List (Int×List Int))(h i:List (Int×Int×List Int))(j k:List (Bool×Int×Int)),(ao a/\ao b/\ao c/\(d.length<=maxLen/\ ∀(l:List Int),l∈d->l.length<=maxLen/\ ∀(m:Int),m∈l->0<=m/\m<=255)/\ao e/\(f.length<=maxLen/\ ∀(l:List Int),l∈f->l.length<=maxLen/\ ∀(m:Int),m∈l->0<=m/\m<=255)/\(g.length<=maxLen/\ ∀(l:Int×List Int),l∈g->ao l.1/\l.2.length<=maxLen/\ ∀(m:Int),m∈l.2->0<=m/\m<=255)/\(h.length<=maxLen/\ ∀(l:Int×Int×List Int),l∈h->ao l.1/\ao l.2.1/\l.2.2.length<=maxLen/\ ∀(m:Int),m∈l.2.2->0<=m/\m<=255)/\i.length<=maxLen/\ ∀(l:Int×Int×List Int),l∈i->ao l.1/\ao l.2.1/\l.2.2.length<=maxLen/\ ∀(m:Int),m∈l.2.2->0<=m/\m<=255)/\(j.length<=maxLen/\ ∀(l:Bool×Int×Int),l∈j->True/\ao l.2.1/\ao l.2.2)/\(k.length<=maxLen/\ ∀(l:Bool×Int×Int),l∈k->True/\ao l.2.1/\ao l.2.2)/\True->(XR (a,b,c,d,e,f,g,h,i)/\ab
 (a,b,c,d,e,f,g,h,i)<1099511627776/\dQ j/\ ∀(l:a7),l∈k->(0<=l.2.1/\l.2.1<=1000)/\0<=l.2.2/\l.2.2<=8)->(∃(l:List (List Int)),oF (bJ a) b c e f g h i k l)/\List.length (dm a b c e f g h i k).2<=(4096:Nat)/\(∀(l:Int×Int×List Int),l∈(dm a b c e f g h i k).2-> ∃(m:Nat),l.2.2.length=(3:Nat)+(2:Nat)*m/\m<=(2000:Nat))/\(∃(l:Int) (m:Int),∃(n:Int) (o:List af),(aE (a,b,c,d,e,f,g,h,i) k<=l/\(qg a b c d e f g h i j k l m n o))/\j=j/\(0:Int)=m/\bD e (am (bJ a) (dm a b c e f g h i k).2)=l/\d=d/\(bk (bJ a) (e+c) h f g).1=(bk (bJ a) (e+c) h f g).1/\(bk (bJ a) (e+c) h f g).2=(bk (bJ a) (e+c) h f g).2/\aX (bJ a) (dm a b c e f g h i k).2=aX (bJ a) (dm a b c e f g h i k).2/\bK (am (bJ a) (dm a b c e f g h i k).2)=bK (am (bJ a) (dm a b c e f g h i k).2)/\IntKind.wrap .i64 (a+(1:Int))=ab (a,b,c,d,e,f,g,h,i)+(1:Int)/\(dm a b c e
 f g h i k).1=n/\c=ak (a,b,c,d,e,f,g,h,i)/\bD e (am (bJ a) (dm a b c e f g h i k).2)=aE (a,b,c,d,e,f,g,h,i) k/\aX (bJ a) h=o/\True)/\ ∀(l m n:Int)(o:List af),aE (a,b,c,d,e,f,g,h,i) k<=l/\(qg a b c d e f g h i j k l m n o)->ah (decide (l<min (d.length:Int) (IntKind.wrap .i64 (aE (a,b,c,d,e,f,g,h,i) k+ak (a,b,c,d,e,f,g,h,i))))) (ah (decide (l∈bK (am (bJ a) (dm a b c e f g h i k).2))) (∃(p:Int) (q:Int),∃(r:Int) (s:List af),(qR a b c d e f g h i j k p q r s)/\Int.toNat (aE (a,b,c,d,e,f,g,h,i) k+ak (a,b,c,d,e,f,g,h,i) -p)<Int.toNat (aE (a,b,c,d,e,f,g,h,i) k+ak (a,b,c,d,e,f,g,h,i) -l)/\j=j/\m=q/\IntKind.wrap .i64 (l+(1:Int))=p/\d=d/\(bk (bJ a) (e+c) h f g).1=(bk (bJ a) (e+c) h f g).1/\(bk (bJ a) (e+c) h f g).2=(bk (bJ a) (e+c) h f g).2/\aX (bJ a) (dm a b c e f g h i k).2=aX (bJ a) (dm a b c e f g h i
 k).2/\bK (am (bJ a) (dm a b c e f g h i k).2)=bK (am (bJ a) (dm a b c e f g h i k).2)/\ab (a,b,c,d,e,f,g,h,i)+(1:Int)=ab (a,b,c,d,e,f,g,h,i)+(1:Int)/\n=r/\ak (a,b,c,d,e,f,g,h,i)=ak (a,b,c,d,e,f,g,h,i)/\aE (a,b,c,d,e,f,g,h,i) k=aE (a,b,c,d,e,f,g,h,i) k/\o=s/\True) (0<=l/\l<(d.length:Int)/\0<=l/\((List.length (d.getD l.toNat default)):Int)<=1000000/\cG (ab (a,b,c,d,e,f,g,h,i)+(1:Int)) n o/\n<=900000000000000/\fZ (bi j m.toNat)/\0<=m/\((List.length (bF l (d.getD l.toNat default))):Int)<=1000000/\ ∃(p:Int) (q:Int),∃(r:Int) (s:List af),(qR a b c d e f g h i j k p q r s)/\Int.toNat (aE (a,b,c,d,e,f,g,h,i) k+ak (a,b,c,d,e,f,g,h,i) -p)<Int.toNat (aE (a,b,c,d,e,f,g,h,i) k+ak (a,b,c,d,e,f,g,h,i) -l)/\j=j/\IntKind.wrap .i64 (m+(1:Int))=q/\IntKind.wrap .i64 (l+(1:Int))=p/\d=d/\(bk (bJ a) (e+c) h f g).1=(bk (bJ a) (e+c) h f g).1/\(bk (bJ
 a) (e+c) h f g).2=(bk (bJ a) (e+c) h f g).2/\aX (bJ a) (dm a b c e f g h i k).2=aX (bJ a) (dm a b c e f g h i k).2/\bK (am (bJ a) (dm a b c e f g h i k).2)=bK (am (bJ a) (dm a b c e f g h i k).2)/\ab (a,b,c,d,e,f,g,h,i)+(1:Int)=ab (a,b,c,d,e,f,g,h,i)+(1:Int)/\(bg (ab (a,b,c,d,e,f,g,h,i)+(1:Int)) (bF l (d.getD l.toNat default)) (bi j m.toNat) (n,o)).1=r/\ak (a,b,c,d,e,f,g,h,i)=ak (a,b,c,d,e,f,g,h,i)/\aE (a,b,c,d,e,f,g,h,i) k=aE (a,b,c,d,e,f,g,h,i) k/\(bg (ab (a,b,c,d,e,f,g,h,i)+(1:Int)) (bF l (d.getD l.toNat default)) (bi j m.toNat) (n,o)).2=s/\True)) ((ab (a,b,c,d,e,f,g,h,i)+(1:Int),n,ak (a,b,c,d,e,f,g,h,i),d,aE (a,b,c,d,e,f,g,h,i) k,(bk (bJ a) (e+c) h f g).1,(bk (bJ a) (e+c) h f g).2,o,aX (bJ a) (dm a b c e f g h i k).2)=bh (a,b,c,d,e,f,g,h,i) j k):=by
  delta bJ dm qR qg
  rintro now ord win log kn got ear dn up ds us-⟨⟨hx,hor⟩,hnow,hd,hu⟩
  have hu:dQ us:=hu
  obtain⟨⟨pu1,pu2,pu3,pu4⟩,pk1,pk2⟩:=hx.parts hu
  have n0:0<=now:=hx.now
  have hnow:now<1099511627776:=hnow
  have o0:0<=ord:=hx.ord
  have hor:ord<=585*now:=hor
  have hwin:1<=win/\win<=64:=hx.win
  have hlog:log.length<=1024:=hx.log
  have hkn:0<=kn/\kn<=got.length:=hx.kn
  have hgl:got.length<=log.length:=hx.rc.n
  have pu2:ord<=(au (now,ord,win,log,kn,got,ear,dn,up) us).1:=pu2
  have pu3:(au (now,ord,win,log,kn,got,ear,dn,up) us).1<=ord+9:=pu3
  rw[ad (n:=now+1) (by omega) (by omega)]
  have eG:bk (now+1) (kn+win) dn got ear=aO (now,ord,win,log,kn,got,ear,dn,up):=rfl
  have eU:iu (now+1) ord (bk (now+1) (kn+win) dn got ear) dn up us=au (now,ord,win,log,kn,got,ear,dn,up) us:=rfl
  rw[eU,eG]
  have eH:am (now+1) (au (now,ord,win,log,kn,got,ear,dn,up) us).2=dq (now,ord,win,log,kn,got,ear,dn,up) us:=rfl
  have eK:bD kn (dq (now,ord,win,log,kn,got,ear,dn,up) us)=aE (now,ord,win,log,kn,got,ear,dn,up) us:=rfl
  rw[eH,eK]
  have eW:ak (now,ord,win,log,kn,got,ear,dn,up)=win:=rfl
  have eN:ab (now,ord,win,log,kn,got,ear,dn,up)=now:=rfl
  have eL:ae (now,ord,win,log,kn,got,ear,dn,up)=log:=rfl
  rw[eW,eN,eL]
  have hfin:∀ o dn',(o,dn')=cV (now,ord,win,log,kn,got,ear,dn,up) ds us->((now+1,o,win,log,aE (now,ord,win,log,kn,got,ear,dn,up) us,(aO (now,ord,win,log,kn,got,ear,dn,up)).1,(aO (now,ord,win,log,kn,got,ear,dn,up)).2,dn',aX (now+1) (au (now,ord,win,log,kn,got,ear,dn,up) us).2):aj)=bh (now,ord,win,log,kn,got,ear,dn,up) ds us:=fun o dn' he=>by
   show _=((now+1,(cV (now,ord,win,log,kn,got,ear,dn,up) ds us).1,win,log,aE (now,ord,win,log,kn,got,ear,dn,up) us,(aO (now,ord,win,log,kn,got,ear,dn,up)).1,(aO (now,ord,win,log,kn,got,ear,dn,up)).2,(cV (now,ord,win,log,kn,got,ear,dn,up) ds us).2,aX (now+1) (au (now,ord,win,log,kn,got,ear,dn,up) us).2):aj)
   rw[← he]
  have hD:bV (now+1) log ds (fG (now,ord,win,log,kn,got,ear,dn,up) us (aE (now,ord,win,log,kn,got,ear,dn,up) us)) 0 ((au (now,ord,win,log,kn,got,ear,dn,up) us).1,aX (now+1) dn)=cV (now,ord,win,log,kn,got,ear,dn,up) ds us:=rfl
  have hR:∀ x,fG (now,ord,win,log,kn,got,ear,dn,up) us x=(dU x (min (log.length:Int) (aE (now,ord,win,log,kn,got,ear,dn,up) us+win))).filter fun i => !(bK (dq (now,ord,win,log,kn,got,ear,dn,up) us)).contains i:=fun x=>rfl
  have hdn0:=(nO (now:=now+1) (by rw[eN];omega) hx.dn).more pu2
  have hdn0:cF (now+1) (au (now,ord,win,log,kn,got,ear,dn,up) us).1 (aX (now+1) dn):=hdn0
  have hrc:oF (now+1) ord win kn got ear dn up us log:=⟨hx.rc,hlog,hx.it,hx.dd,by omega,hwin,hx.up.so (by omega) ⟨o0,by show ord<=_;omega⟩,by omega,iR hu 0,hx.dn.n⟩
  have hit:=hx.it
  rw[eL] at hit
  have hodd:∀ t∈(au (now,ord,win,log,kn,got,ear,dn,up) us).2,∃ m:Nat,t.2.2.length=3+2*m/\m<=2000:=fun t ht=>pk (pu4 t ht) hlog
  have hun:=pu1.n
  generalize au (now,ord,win,log,kn,got,ear,dn,up) us=U at *
  generalize dq (now,ord,win,log,kn,got,ear,dn,up) us=H at *
  generalize aE (now,ord,win,log,kn,got,ear,dn,up) us=K at *
  generalize fG (now,ord,win,log,kn,got,ear,dn,up) us=R at *
  generalize cV (now,ord,win,log,kn,got,ear,dn,up) ds us=D at *
  refine⟨⟨log,hrc⟩,hun,hodd,⟨K,0,U.1,aX (now+1) dn,⟨by omega,by omega,by omega,hdn0.so (by omega) (by omega),by omega,by omega,hD⟩,(by repeat' first|exact trivial|refine⟨trivial,?_⟩|refine⟨(by with_reducible rfl),?_⟩|refine⟨ad (by omega) (by omega),?_⟩|refine⟨rfl,?_⟩)⟩,?_⟩
  rintro x i o dn' ⟨x0,i0,i1,hs,ho,x1,he⟩
  rw[ad (n:=K+win) (by omega) (by omega)]
  refine aq (fun hb=>?_) (fun hb=>?_)
  ·have hb:=of_decide_eq_true hb
   have hlt:x<log.length:=by omega
   have hcons:=vC hb
   refine aq (fun hm=>?_) (fun hm=>?_)
   ·have hm:=of_decide_eq_true hm
    refine⟨x+1,i,o,dn',⟨by omega,i0,by omega,hs,ho,by omega,?_⟩,by omega,(by repeat' first|exact trivial|refine⟨trivial,?_⟩|refine⟨(by with_reducible rfl),?_⟩|refine⟨ad (by omega) (by omega),?_⟩|refine⟨rfl,?_⟩)⟩
    rw[← he,hR,hR,hcons,List.filter_cons_of_neg (by simpa using hm)]
   ·have hm:=of_decide_eq_false hm
    have hf:=iR hd i.toNat
    have hil:=hit _ (ce (xs:=log) (i:=x) (by omega) hlt)
    obtain⟨s1,s2⟩:=tk (b:=bF x (log.getD x.toNat default)) hf hs (by omega)
    refine⟨by omega,hlt,by omega,by omega,hs,by omega,hf,i0,by rw[mI];omega,x+1,i+1,(bg (now+1) (bF x (log.getD x.toNat default)) (bi ds i.toNat) (o,dn')).1,(bg (now+1) (bF x (log.getD x.toNat default)) (bi ds i.toNat) (o,dn')).2,⟨by omega,by omega,by omega,s1,by omega,by omega,?_⟩,by omega,(by repeat' first|exact trivial|refine⟨trivial,?_⟩|refine⟨(by with_reducible rfl),?_⟩|refine⟨ad (by omega) (by omega),?_⟩|refine⟨rfl,?_⟩)⟩
    rw[← he,hR x,hR,hcons,List.filter_cons_of_pos (by simpa using hm),show (i+1).toNat=i.toNat+1 by omega]
    rfl
  ·have hb:=of_decide_eq_false hb
   refine hfin o dn' ?_
   rw[← he,hR,vR hb]
   rfl
theorem z4:aG Try.prog GL 33 sG.spec:=Ct.okH _ Try.func33 (by kernel_rfl) (ay (ay (ay (ay (ay aP yA) CE) xK) sy) sI) aD CA (aQ (by kernel_rfl) Cv)
end Go.RS

/- Xw4: the program's exchange: new channels, items, ticks. -/
namespace Go.RS
open Go.SX Go.Proofs
set_option maxRecDepth 100000
set_option linter.unusedVariables false
def fg{α:Type}(q:α->Bool)(l:List α):Int:=if l.findIdx q<l.length then (l.findIdx q:Int) else -1
theorem pr{α:Type}{q:α->Bool}{l:List α}:decide (0<=fg q l)=l.any q:=by
 unfold fg
 cases h:l.any q with
 | true =>
  rw[if_pos (List.findIdx_lt_length_of_exists (by simpa using h))]
  exact decide_eq_true (by omega)
 | false =>
  have:l.findIdx q=l.length:=List.findIdx_eq_length_of_false (by simpa using h)
  rw[if_neg (by omega)];rfl
def se:Ct:=⟨[.val cI],[.agg aS,.val cI],fun _=>[],fun d=>((fW d.1,dG d.1,()),())⟩
def Bl:aC se.ps->aN:=(fun _=>{})
def jF :=
 ((0:Int),(0:Int),(0:Int),([]:List (List Int)),(0:Int),([]:List (List Int)),([]:List (Int×List Int)),([]:List (Int×Int×List Int)),([]:List (Int×Int×List Int)))
theorem x6 :
 ∀(a:Int),ao a/\True->True-> ∀(b:Bool),b=decide (a<1)->((! b)->((! b)->(! b))/\True)/\(b=false->(! b))/\ah (bif b then true else decide (64<a)) ((jF)=fW a/\(1:Int)=dG a) (((0:Int),(0:Int),a,([]:List (List Int)),(0:Int),([]:List (List Int)),([]:List (Int×List Int)),([]:List (Int×Int×List Int)),([]:List (Int×Int×List Int)))=fW a/\(0:Int)=dG a):=by
  delta jF
  rintro w - -
  (repeat (intro (b_:Bool) (hb_:b_=_);(repeat refine⟨(by first|(simp;done)|(rw[hb_];simp;done)|(rw[hb_];simp;omega)|(rw[hb_];simp;intros;omega)|(rw[hb_];simp +contextual;done)),?_⟩);subst hb_))
  refine lg (fun h=>?_) (fun h1 h2=>?_)
  ·have e:dG w=1:=by unfold dG;rw[if_pos (by rcases h with q|q;exact .inl (of_decide_eq_true q);exact .inr (of_decide_eq_true q))]
   unfold fW
   rw[e]
   exact⟨rfl,rfl⟩
  ·have h1:=of_decide_eq_false h1
   have h2:=of_decide_eq_false h2
   have e:dG w=0:=by unfold dG;rw[if_neg (by omega)]
   unfold fW
   rw[e]
   exact⟨rfl,rfl⟩
theorem Cy:aG Try.prog GL 16 se.spec:=Ct.okH _ Try.func16 (by kernel_rfl) aP aD Bl (aQ (by kernel_rfl) x6)
theorem XI.cp{c:aj}(h:XI c):n3 c:=by
 have hl:=h.log
 have hi:=h.it
 have hn:(aF c).length<=(ae c).length:=h.rc.n
 have hg:aF c=(ae c).take (aF c).length:=h.rc.g
 have hr:=(nG h.rc hl ⟨h.kn.1,by have:=h.kn.2;omega⟩ h.win).2
 refine⟨⟨by omega,fun b hb=>by have:=hi b hb;omega⟩,⟨by omega,fun b hb=>?_⟩,⟨by omega,fun x hx=>?_⟩,⟨by have:=h.dn.n;omega,fun t ht=>?_⟩,⟨by have:=h.up.n;omega,fun t ht=>?_⟩⟩
 ·have:=hi b (by rw[hg] at hb;exact List.mem_of_mem_take hb)
  omega
 ·obtain⟨⟨k1,k2⟩,k3,k4⟩:=h.rc.e.r x hx
  have:=hi _ (ce (xs:=ae c) (i:=x.1) (hr.2.2 x hx).1 k2)
  rw[k4];omega
 ·have:=(qb (h.dd t ht) hi).2;omega
 ·obtain⟨m,h1,h2⟩:=pk (h.ud t ht) hl
  omega
def tZ:Ct:=⟨[.agg aS,.val (.sl aV)],[.agg aS,.val cI],fun d=>[XR d.1],fun d=>((fV d.1 d.2.1,dD d.1 d.2.1,()),())⟩
def Ed:aC tZ.ps->aN:=(fun _=>{})
theorem xP :
 ∀(a:Int×Int×Int×List (List Int)×Int×List (List Int)×List (Int×List Int)×List (Int×Int×List Int)×List (Int×Int×List Int))(b:List Int),CT.wf aS a/\(b.length<=maxLen/\ ∀(c:Int),c∈b->0<=c/\c<=255)/\True->XI a/\a8 a<=585*ab a-> ∀(c:Bool),c=decide (1024<=(a.2.2.2.1.length:Int))->((! c)->((! c)->(! c))/\True)/\((! c)->((! c)->(! c))/\True)/\(c=false->(! c))/\ah (bif c then true else decide (6000<(b.length:Int))) ((jF)=fV a b/\(5:Int)=dD a b) (n3 a/\(b.length:Int)<=1099511627776/\(a.2.2.2.1.length+List.length [b])*(24:Nat)<=(140737488355328:Nat)/\(a.1,a.2.1,a.2.2.1,a.2.2.2.1++[b],a.2.2.2.2)=fV a b/\(0:Int)=dD a b):=by
  delta jF
  rintro c b ⟨⟨-,-,-,⟨hl,-⟩,-⟩,⟨hb,-⟩,-⟩⟨hx,ho⟩
  (repeat (intro (b_:Bool) (hb_:b_=_);(repeat refine⟨(by first|(simp;done)|(rw[hb_];simp;done)|(rw[hb_];simp;omega)|(rw[hb_];simp;intros;omega)|(rw[hb_];simp +contextual;done)),?_⟩);subst hb_))
  refine lg (fun h=>?_) (fun h1 h2=>?_)
  ·have e:dD c b=5:=by
    unfold dD
    refine if_pos ?_
    rcases h with q|q
    ·have:=of_decide_eq_true q
     exact .inl (by show 1024<=c.2.2.2.1.length;omega)
    ·exact .inr (of_decide_eq_true q)
   unfold fV
   rw[e]
   exact⟨rfl,rfl⟩
  ·have h1:=of_decide_eq_false h1
   have h2:=of_decide_eq_false h2
   have e:dD c b=0:=by
    unfold dD
    refine if_neg ?_
    rintro (q|q)
    ·have q:1024<=c.2.2.2.1.length:=q
     omega
    ·omega
   unfold fV
   rw[e]
   refine⟨hx.cp,by omega,by simp only[List.length_singleton];omega,?_,rfl⟩
   rfl
theorem Cg:aG Try.prog GL 18 tZ.spec:=Ct.okH _ Try.func18 (by kernel_rfl) (ay (ay aP v7) kY) aD Ed (aQ (by kernel_rfl) xP)
def tg:Ct:=⟨[.agg aS,.val cI],[.agg aS,.val cI],fun d=>[XR d.1],fun d=>((i9 d.1 d.2.1,fC d.1 d.2.1,()),())⟩
def Eg:aC tg.ps->aN:=(fun d=>{loops:=(fun n=>match n with|4=>some (fun S=>{ι:=Int×aj,qn:=⟨fun k_=>∀(r:Int)(b:aj),k_ (r,b),fun k_ h_ i=>h_ i.1 i.2,fun k_=>∃ (r:Int) (b:aj),k_ (r,b),fun k_ ⟨r,b,h_⟩=>⟨_,h_⟩⟩,μ:=fun i=>i.1.toNat,inv:=fun i=>0<=i.1/\i.1<=max 0 d.2.1/\(i.1<d.2.1->ab d.1+(d.2.1-i.1)<=1099511627776)/\i.2=bm (max 0 d.2.1-i.1).toNat d.1,keep:=[2,4,5],slots:=fun i=>[(1,.int .i64 i.1)],keepN:=[80],names:=fun i=>[(48,.live (.cells 28 [.int .i64 (ab i.2),.int .i64 (a8 i.2),.int .i64 (ak i.2),.own 524288 1,.int .i64 (az i.2),.own 524289 1,.own 524290 2,.own 524291 3,.own 524292 3])),(524288,.live (.row 22 (.sl aV) (ae i.2))),(524289,.live (.row 22 (.sl aV) (aF i.2))),(524290,.live (.row 51 eh (aH i.2))),(524291,.live (.row 53 a9 (aJ i.2))),(524292,.live (.row 53 a9 (ba i.2)))]})|_=>none)})
def lA(e:aj) :=
 (ab e,a8 e,ak e,ae e,az e,aF e,aH e,aJ e,ba e)
theorem zO :
 ∀(a:Int×Int×Int×List (List Int)×Int×List (List Int)×List (Int×List Int)×List (Int×Int×List Int)×List (Int×Int×List Int))(b:Int),CT.wf aS a/\ao b/\True->XI a/\a8 a<=585*ab a-> ∀(c:Bool),c=decide (b<0)->((! c)->((! c)->(! c))/\True)/\(c=false->(! c))/\ah (bif c then true else decide (100000<b)) ((jF)=i9 a b/\(1:Int)=fC a b) (n3 a/\(∃(d:Int) (e:aj),(0<=d/\d<=max (0:Int) b/\(d<b->ab a+(b -d)<=1099511627776)/\e=bm (Int.toNat (max (0:Int) b -d)) a)/\b=d/\(0:Int)=0/\(0:Int)=0/\(0:Int)=0/\(0:Int)=0/\(0:Int)=0/\a.1=ab e/\a.2.1=a8 e/\a.2.2.1=ak e/\a.2.2.2.2.1=az e/\a.2.2.2.1=ae e/\a.2.2.2.2.2.1=aF e/\a.2.2.2.2.2.2.1=aH e/\a.2.2.2.2.2.2.2.1=aJ e/\a.2.2.2.2.2.2.2.2=ba e/\True)/\ ∀(d:Int)(e:aj),0<=d/\d<=max (0:Int) b/\(d<b->ab a+(b -d)<=1099511627776)/\e=bm (Int.toNat (max (0:Int) b -d)) a->ah (decide (0<d)) (ah (decide (1099511627776<=ab e))
 ((jF)=i9 a b/\(5:Int)=fC a b) (XR (lA e)/\ab (lA e)<1099511627776/\dQ ([]:List (Bool×Int×Int))/\dQ ([]:List (Bool×Int×Int))/\ ∀(f g h:Int)(i:List (List Int))(j:Int)(k:List (List Int))(l:List (Int×List Int))(m n:List (Int×Int×List Int)),(f,g,h,i,j,k,l,m,n)=bh (lA e) ([]:List (Bool×Int×Int)) ([]:List (Bool×Int×Int))-> ∃(o:Int) (p:aj),(0<=o/\o<=max (0:Int) b/\(o<b->ab a+(b -o)<=1099511627776)/\p=bm (Int.toNat (max (0:Int) b -o)) a)/\o.toNat<d.toNat/\IntKind.wrap .i64 (d -(1:Int))=o/\(0:Int)=0/\(0:Int)=0/\(0:Int)=0/\(0:Int)=0/\(0:Int)=0/\f=ab p/\g=a8 p/\h=ak p/\j=az p/\i=ae p/\k=aF p/\l=aH p/\m=aJ p/\n=ba p/\True)) ((lA e)=i9 a b/\(0:Int)=fC a b)):=by
  delta jF lA
  rintro c n-⟨hx,ho⟩
  (repeat (intro (b_:Bool) (hb_:b_=_);(repeat refine⟨(by first|(simp;done)|(rw[hb_];simp;done)|(rw[hb_];simp;omega)|(rw[hb_];simp;intros;omega)|(rw[hb_];simp +contextual;done)),?_⟩);subst hb_))
  refine lg (fun h=>?_) (fun h1 h2=>⟨hx.cp,?_⟩)
  ·have e:fC c n=1:=by
    unfold fC
    refine if_pos ?_
    rcases h with q|q
    ·exact .inl (of_decide_eq_true q)
    ·exact .inr (of_decide_eq_true q)
   unfold i9
   rw[e]
   exact⟨rfl,rfl⟩
  ·have h1:=of_decide_eq_false h1
   have h2:=of_decide_eq_false h2
   refine⟨⟨n,c,⟨by omega,by omega,by omega,?_⟩,(by repeat' first|exact trivial|refine⟨trivial,?_⟩|refine⟨(by with_reducible rfl),?_⟩|refine⟨ad (by omega) (by omega),?_⟩|refine⟨rfl,?_⟩)⟩,?_⟩
   ·rw[show max 0 n-n=0 by omega];rfl
   rintro r b ⟨r0,r1,r2,rfl⟩
   obtain⟨hb,hnow,-⟩:=hx.runs (max 0 n-r).toNat
   have hxr:=XR.runs ⟨hx,ho⟩ (max 0 n-r).toNat
   generalize hbb:bm (max 0 n-r).toNat c=b at *
   refine aq (fun h3=>aq (fun h4=>?_) (fun h4=>?_)) (fun h3=>?_)
   ·have h3:=of_decide_eq_true h3
    have h4:=of_decide_eq_true h4
    have e:fC c n=5:=by
     unfold fC
     rw[if_neg (by omega),if_pos (by omega)]
    unfold i9
    rw[e]
    exact⟨rfl,rfl⟩
   ·have h3:=of_decide_eq_true h3
    have h4:=of_decide_eq_false h4
    refine⟨hxr,by show ab b<_;omega,eZ,eZ,?_⟩
    rintro y1 y2 y3 y4 y5 y6 y7 y8 y9 he
    have he:((y1,y2,y3,y4,y5,y6,y7,y8,y9):aj)=bh b [] []:=he
    have e2:bm (max 0 n-(r-1)).toNat c=bh b [] []:=by
     rw[← hbb,show (max 0 n-(r-1)).toNat=(max 0 n-r).toNat+1 by omega,iy]
    refine⟨r-1,(y1,y2,y3,y4,y5,y6,y7,y8,y9),⟨by omega,by omega,by omega,?_⟩,by omega,(by repeat' first|exact trivial|refine⟨trivial,?_⟩|refine⟨(by with_reducible rfl),?_⟩|refine⟨ad (by omega) (by omega),?_⟩|refine⟨rfl,?_⟩)⟩
    rw[e2,he]
   ·have h3:=of_decide_eq_false h3
    have hr:r=0:=by omega
    subst hr
    have e:fC c n=0:=by
     unfold fC
     rw[if_neg (by omega),if_neg (by omega)]
    unfold i9
    rw[e,if_pos rfl]
    refine⟨?_,rfl⟩
    rw[← hbb,show (max 0 n-0).toNat=n.toNat by omega]
    rfl
theorem xS:aG Try.prog GL 11 tg.spec:=Ct.okH _ Try.func11 (by kernel_rfl) (ay (ay aP v7) (Ct.named z4)) aD Eg (aQ (by kernel_rfl) zO)
end Go.RS
