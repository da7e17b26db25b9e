/- SX, part 30: a function that parts a row which a variable's cell owns: it returns the row's beginning, and leaves the rest in the cell. -/
import Derived.Test.YtffciochlkcjbaaIdent
import Derived.Test.YtffciochlkcjbaaXw1
namespace Go.SX
set_option linter.unusedVariables false
structure Cp where
 E:TypeId
 o:OT
 oe:OT
 off:Nat
 Er:TypeId
 t:CT
 xs:o.D->List t.D
 pre:o.D->List Prop
 ex:o.D->oe.X
 out:o.D->Nat
def Cp.upd(c:Cp)(d:c.o.D)(p base n:Nat):List (Nat×Nm) :=
 [(p,.live (.cells c.E (dM (cT p c.oe (c.ex d) [] 0) c.off [.part base c.t.size (c.out d) ((c.xs d).length-c.out d)]))),(base,.live (.row c.Er c.t (c.xs d))),(n,.dead)]
def Cp.spec(c:Cp):Spec:=fun base svs=>match svs with
 | [.ptr p z,.ptr q off]=>match Nat.beq z 0,Nat.beq q p,Nat.beq off c.off,j9 [.box c.E c.o] [] with
  | true,true,true,true => .ask p fun
   | .live (.cells E cs)=>match Nat.beq E c.E with
    | true=>(df none c.o cs).bind fun x=>match x with
     | (d,[],[],[],[some n])=>match Nat.beq p n with
      | true => .fail
      | false => .ask base fun
       | .un => .ret (.det (c.pre d) (.part base c.t.size 0 (c.out d)) (c.upd d p base n))
       | _ => .fail
     | _ => .fail
    | false => .fail
   | _ => .fail
  | _,_,_,_ => .fail
 | _ => .fail
def Cp.start(c:Cp)(d:c.o.D)(n:Nat):St:=⟨dK [.ptr PN 0,.ptr PN c.off] n,[(PN,.live (.cells c.E (dt c.o d 1 0)))]++(eV c.o d 0++fW (cM [.box c.E c.o]))⟩
def Cp.fin(P:Program)(c:Cp)(rv:List ResultVar)(d:c.o.D):Ex->St->Prop:=fun e S=>match e with
 | .exit _=>False
 | _=>match f9 P rv S.sl (aZ S.H),aZ S.H PN with
  | some [.part q z l0 k],.live (.cells E' cs)=>match aZ S.H q,cs[c.off]?,cH (aZ S.H) true c.oe (some 1) cs with
   | .live (.row E2 t2 ys),some (.part q2 z2 l2 k2),some (x,[],[],[]) =>
    match Nat.beq z c.t.size,Nat.beq E' c.E,Nat.beq E2 c.Er,bM t2 c.t ys,Nat.beq q2 q,Nat.beq z2 c.t.size,Nat.blt q PN||Nat.ble QN q with
    | true,true,true,some zs,true,true,true=>ee [l0=0,k=c.out d,zs=c.xs d,l2=c.out d,k2=(c.xs d).length-c.out d,x=c.ex d]
    | _,_,_,_,_,_,_=>False
   | _,_,_=>False
  | _,_=>False
def Cp.vc(P:Program)(sp:ba)(c:Cp)(fn:Func)(an:c.o.D->aN):Prop :=
 ip c.o fun d=>c.o.wf d->ee (c.pre d)->f7 (c.start d fn.ntmps) (sx P sp (an d) (ib fn) (c.fin P fn.results.toList d))
theorem Cp.ok{P:Program}{sp:ba}(c:Cp){f:FuncId}{fn:Func}(hf:P.funcs[f]? = some fn)(hb:fn.body=some (ib fn))(hs:ce P sp)(aH:P.follows .mixedOrders=true)
  (hnb:c.o.nb=0) (hne:c.oe.nb=0) (hnr:c.oe.nr=0) (hpl:c.oe.hx=c.o.hx) (hcon:∀ d,eV c.o d 0=[(QN,.live (.row c.Er c.t (c.xs d)))]) (an:c.o.D->aN)
  (vc:Cp.vc P sp c fn an):aL P sp.gl f c.spec:=by
 intro base svs h dl r e hp w0 N0 A env w vs hG m hd
 unfold Cp.spec at e
 split at e
 case h_2=>cases e
 rename_i p z q off
 split at e
 case h_2=>cases e
 rename_i hz hq hoff hix
 have hz:=Nat.eq_of_beq_eq_true hz
 have hq:=Nat.eq_of_beq_eq_true hq
 have hoff:=Nat.eq_of_beq_eq_true hoff
 subst hz hq hoff
 simp only[Q.run] at e
 split at e
 case h_2=>cases e
 rename_i p0 q0 hk
 simp only[Option.some.injEq,Prod.mk.injEq] at e
 obtain⟨rfl,rfl⟩:=e
 split at hk
 case h_2=>cases hk
 rename_i E cs hl
 split at hk
 case h_2=>cases hk
 rename_i hE
 have hE:=Nat.eq_of_beq_eq_true hE
 subst hE
 obtain⟨x,q1,q2,e1,e2,rfl⟩:=Q.run_bind _ _ _ hk
 split at e2
 case h_2=>cases e2
 rename_i d n
 split at e2
 ·cases e2
 rename_i hpn
 have hpn:q≠n:=fun e=>by rw[e,Nat.beq_refl] at hpn;cases hpn
 simp only[Q.run] at e2
 split at e2
 case h_2=>cases e2
 rename_i p1 r1 hk1
 simp only[Option.some.injEq,Prod.mk.injEq] at e2
 obtain⟨rfl,rfl⟩:=e2
 split at hk1
 case h_2=>cases hk1
 rename_i hun
 cases aF hk1
 have hp:ax (c.pre d):=hp
 simp only[ab,aa] at hd
 obtain⟨_,_,rfl,⟨k,l,hek,rfl⟩,_,_,rfl,⟨k',l',hek',rfl⟩,rfl⟩:=hd
 rw[hek] at hek'
 cases hek'
 obtain⟨⟨us,hus,hdu⟩,_⟩:=m.live_blk hl hek
 obtain⟨hxr,hxn,hxl⟩:=tU hix
 have hxI:cM [.box c.E c.o]=c.o.hx:=by simp[cM]
 obtain⟨s1,s2,s3,s4,us',rs',s5,s6,hol,hols,s7⟩:=kf m (Ac:=bu A env []) (fun b hb=>.inl hb) none c.o cs us.toList d [] [] [] [some n] q1 1 0 e1 hdu (fun k hk=>.inr hk)
 simp only[ab] at s6
 subst s6
 rw[List.append_nil] at s5
 subst s5
 have holn:(hol.map (·.1)).Nodup:=by rw[hols.1,← hxI];exact hxn
 have hbh:[q].length<=HN-PN:=by simp[HN,PN]
 have hbl:[q].length<=PN:=by simp[PN]
 have holv:∀ y∈hol,cq env [q] [some n] hol (HN+y.1) = .val y.2.1 y.2.2:=fun y hy=>by
  have hy':y.1∈cM [.box c.E c.o]:=by rw[hxI,← hols.1];exact List.mem_map_of_mem (f:=(·.1)) hy
  unfold cq
  rw[tQ hbh (hxl _ hy')]
  exact pR holn y hy
 have hcb:cq env [q] [some n] hol PN=env q:=by have:=mX (env:=env) (cx:=[some n]) (hv:=hol) hbl (i:=0) (n:=q) rfl;simpa using this
 have hcc:cq env [q] [some n] hol QN=env n:=by have:=t9 (env:=env) (bx:=[q]) (cx:=[some n]) (hv:=hol) (i:=0) (o:=some n) rfl;simpa[dq] using this
 obtain⟨k1,k2,k3⟩:=s7 (cq env [q] [some n] hol) (fun n hn=>by cases hn) (fun k n hn=>by simp at hn) (fun k y hy=>by
  cases k with
  | zero=>simp at hy;subst hy;simpa[dq] using hcc
  | succ k=>simp at hy) holv
 have hlb:ca (bu A env []) env h (cq env [q] [some n] hol) w ([q].map some) [(PN,.live (.cells c.E (dt c.o d 1 0)))] PN:=by
  refine⟨⟨rfl,_,rfl,rfl,.inl ⟨q,_,rfl,hl,rfl,fun k' len' he=>?_,fun he=>?_⟩⟩,trivial⟩
  ·rw[hek] at he;cases he
   exact⟨us,hus,k1⟩
  ·rw[hek] at he;cases he
 have k3:ca (bu A env []) env h (cq env [q] [some n] hol) w [some n] (eV c.o d 0) QN:=by simpa using k3
 have hnd:([q]++b9 [some n]).Nodup:=by simp[b9,hpn]
 have mc:=m.call hol (fz:=[]) (fun _ _ hh=>by simp at hh) hbl hlb k3 (by simp) hnd
 rw[hols.1,← hxI] at mc
 have hvc:=kE.1 vc d s2 (iI.2 hp)
 rw[lY] at hvc
 obtain⟨bn,hbn1,hbn2⟩:∃ b,h n = .live b/\b.mut=true:=by
  obtain⟨b',_,_,_,⟨q',b,e,h1,h2,_⟩|⟨e,_⟩⟩:=k3.get.2 0 (some n) rfl
  ·cases e;exact⟨b,h1,h2⟩
  ·cases e
 have hnn:env n ≠ .un:=by
  have:=m.nm n
  rw[hbn1] at this
  rcases this with⟨k,len,e,_⟩|⟨e,_⟩ <;> rw[e] <;> simp
 have hbq:base≠q:=fun e=>by rw[e,hl] at hun;cases hun
 have hbn:base≠n:=fun e=>by rw[e,hbn1] at hun;cases hun
 refine calls_of_wp hf hb (t8 (N0:=⟨kA env ([q]++b9 [some n]),bu A env [],N0.g⟩) ⟨hs,hG⟩ aH (ib fn) _ _ _ (bu A env []) (cq env [q] [some n] hol) _ w hvc ⟨mc,?_,?_,rfl⟩ ?_)
 ·simp only[St.fs,Cp.start,lV,Array.size_append,Array.size_replicate];omega
 ·intro i
  simp only[St.fs,Cp.start]
  have dargs:ab (bu A env []) (cq env [q] [some n] hol) w [.ptr PN 0,.ptr PN c.off] [.pointer (some ⟨k,0,none⟩),.pointer (some ⟨k,c.off,none⟩)]:=by
   simp only[ab,aa]
   exact⟨_,_,rfl,⟨k,l,by rw[hcb];exact hek,rfl⟩,_,_,rfl,⟨k,l,by rw[hcb];exact hek,rfl⟩,rfl⟩
  rcases lX (l:=[SV.ptr PN 0,SV.ptr PN c.off]) (n:=fn.ntmps) (i:=i) with hj|⟨s,h1,h2⟩
  ·rw[hj];simp only[aa]
  ·rw[h2]
   obtain⟨v,hv,hdv⟩:=ia i s dargs h1
   generalize hvs:[Value.pointer (some ⟨k,0,none⟩),Value.pointer (some ⟨k,c.off,none⟩)]=vs at hv
   have hi:i<vs.length:=(List.getElem?_eq_some_iff.1 hv).1
   have:(vs.toArray++Array.replicate (fn.ntmps-vs.toArray.size) undef).getD i undef=v:=by
    have h3:(vs.toArray++Array.replicate (fn.ntmps-vs.toArray.size) undef)[i]? = some v:=by
     rw[Array.getElem?_append_left (by simpa using hi)];simpa using hv
    simp only[Array.getD_eq_getD_getElem?,h3,Option.getD_some]
   rw[this];exact hdv
 ·intro ex S' A1 env1 act w1 hK t' x'
  have hend:∃ rsv qe C1 x,f9 P fn.results.toList S'.sl (aZ S'.H)=some [.part qe c.t.size 0 (c.out d)]/\aZ S'.H PN = .live (.cells c.E C1)/\aZ S'.H qe = .live (.row c.Er c.t (c.xs d)) ∧
    C1[c.off]? = some (.part qe c.t.size (c.out d) ((c.xs d).length-c.out d))/\cH (aZ S'.H) true c.oe (some 1) C1=some (x,[],[],[])/\x=c.ex d/\(qe<PN∨QN<=qe)/\(ex = .normal∨ex = .ret)/\rsv=():=by
   unfold Cp.fin at hK
   split at hK
   ·exact hK.elim
   ·rename_i hex
    split at hK
    ·rename_i q9 z9 l9 k9 E9 cs9 h1 h2
     split at hK
     ·rename_i E2 t2 ys q2 z2 l2 k2 x h3 h4 h5
      split at hK
      ·rename_i zs hz1 hz2 hz3 hc hz4 hz5 hz6
       have hz1:=Nat.eq_of_beq_eq_true hz1
       have hz2:=Nat.eq_of_beq_eq_true hz2
       have hz3:=Nat.eq_of_beq_eq_true hz3
       have hz4:=Nat.eq_of_beq_eq_true hz4
       have hz5:=Nat.eq_of_beq_eq_true hz5
       obtain⟨et,ez⟩:=cj hc
       subst et
       simp only at ez
       subst ez
       subst hz1 hz2 hz3 hz4 hz5
       obtain⟨y1,y2,y3,y4,y5,y6⟩:=hK
       subst y1 y2 y4 y5
       refine⟨(),q2,cs9,x,h1,h2,by rw[← y3];exact h3,h4,h5,y6,?_,?_,rfl⟩
       ·simp only[Bool.or_eq_true] at hz6
        exact hz6.imp (fun h=>Nat.le_of_ble_eq_true h) (fun h=>Nat.le_of_ble_eq_true h)
       ·cases ex with
        | normal=>exact .inl rfl
        | ret=>exact .inr rfl
        | exit i=>exact absurd rfl (hex i)
      ·exact hK.elim
     ·exact hK.elim
    ·exact hK.elim
  obtain⟨-,qe,C1,x,hts,hC,hR,hpt,hoo,rfl,hqe,hex,-⟩:=hend
  obtain⟨rvs,hrun,hres⟩:=sa t'.m t'.f hts
  have hqP:qe≠PN:=fun e=>by rw[e,hC] at hR;cases hR
  have henvp:env1 PN=env q:=by
   have:=x'.envp PN (Nat.le_refl _) zQ (by rw[hcb,hek];simp)
   rw[this,hcb]
  have hRq:aT [(q,some PN),(base,some qe)] q=some (some PN):=by simp[dN]
  have hRb:aT [(q,some PN),(base,some qe)] base=some (some qe):=by simp[dN,hbq]
  have hRi:∀ n' y,aT [(q,some PN),(base,some qe)] n'=some y->(n'=q/\y=some PN)∨(n'=base/\y=some qe):=fun n' y hy=>by
   simp only[dN] at hy
   split at hy
   ·rename_i e;cases hy;exact .inl ⟨e,rfl⟩
   ·split at hy
    ·rename_i e;cases hy;exact .inr ⟨e,rfl⟩
    ·simp[aT] at hy
  have hkeepE:∀ n',env n' ≠ .un->bq [(q,some PN),(base,some qe)] env env1 n'=env n':=fun n' hn'=>by
   unfold bq
   cases hl':aT [(q,some PN),(base,some qe)] n' with
   | none=>rfl
   | some y =>
    rcases hRi n' y hl' with⟨rfl,rfl⟩|⟨rfl,rfl⟩
    ·simp only[bN,hl'];exact henvp
    ·exact absurd (by have:=m.nm n';rw[hun] at this;exact this) hn'
  have hAA:∀ b,A b->A1 b:=fun b hb=>x'.imm b (.inl hb)
  have xg:aS A env w A1 (bq [(q,some PN),(base,some qe)] env env1) w1 :=
   ⟨hAA,fun n b l e=>by rw[hkeepE n (by rw[e];simp)];exact e,fun n e=>by rw[hkeepE n (by rw[e];simp)];exact e,fun n v s e=>by rw[hkeepE n (by rw[e];simp)];exact e,
    fun b o hb=>x'.keep b o (.inl hb),x'.shape⟩
  have hHole:∀ i∈c.oe.hx,∀ v s,env1 (HN+i) = .val v s->aa A1 (bq [(q,some PN),(base,some qe)] env env1) w1 s v:=fun i hi v s he=>by
   rw[hpl,← hols.1] at hi
   obtain⟨y,hy,rfl⟩:=List.mem_map.1 hi
   have h1:=holv y hy
   have hlq:=hxl y.1 (by rw[hxI,← hols.1];exact List.mem_map_of_mem (f:=(·.1)) hy)
   have h2:=x'.envp (HN+y.1) (by simp only[HN,PN];omega) (by simp only[HN,QN] at hlq ⊢;omega) (by rw[h1];simp)
   rw[h2,h1] at he
   cases he
   exact gm xg _ _ (hols.2 y hy)
  have hrq:bq [(q,some PN),(base,some qe)] env env1 q=env1 PN:=by unfold bq;rw[hRq];simp only[bN,hRq]
  have hrb:bq [(q,some PN),(base,some qe)] env env1 base=env1 qe:=by unfold bq;rw[hRb];simp only[bN,hRb]
  have hkP:env1 PN = .blk k l:=by rw[henvp];exact hek
  obtain⟨⟨us1,hus1,hdu1⟩,_⟩:=t'.m.live_blk (show S'.fs.h PN=_ from hC) hkP
  obtain⟨p1,p2,us2,rs2,p3,p4,p5⟩:=iW (A':=A1) (A2:=A1) (env':=bq [(q,some PN),(base,some qe)] env env1) t'.m (fun b hb=>hb) q c.oe (some 1) C1 us1.toList (c.ex d) [] [] [] [] [] 0 hoo hdu1 (fun k' ⟨_,_,_,hx,_⟩=>by simp at hx) (.inr fun b hb=>hb) (.inr (by rw[hne];rfl))
  simp only[ab] at p4
  subst p4
  rw[List.append_nil] at p3
  subst p3
  obtain⟨g1,-,-,-⟩:=p5 hHole (fun _=>hrq) (fun k q hq=>by simp at hq) (fun j0 k q _ hq=>by simp at hq)
  have denP:∀(lo ln:Nat)(v:Value),aa A1 env1 w1 (.part qe c.t.size lo ln) v->aa A1 (bq [(q,some PN),(base,some qe)] env env1) w1 (.part base c.t.size lo ln) v:=fun lo ln v hv=>by
   simp only[aa] at hv ⊢
   rw[hrb];exact hv
  obtain⟨vo,hvo,hdo⟩:=ia _ _ hdu1 hpt
  have hlt:c.off<us1.toList.length:=(List.getElem?_eq_some_iff.1 hvo).1
  have hvv:us1.toList[c.off]=vo:=(List.getElem?_eq_some_iff.1 hvo).2
  have hcell:ab A1 (bq [(q,some PN),(base,some qe)] env env1) w1 (dM (cT q c.oe (c.ex d) [] 0) c.off [.part base c.t.size (c.out d) ((c.xs d).length-c.out d)]) us1.toList:=by
   have h2:ab A1 (bq [(q,some PN),(base,some qe)] env env1) w1 [.part base c.t.size (c.out d) ((c.xs d).length-c.out d)] [vo]:=by simp only[ab];exact⟨vo,[],rfl,denP _ _ _ hdo,rfl⟩
   have h3:=jY (off:=c.off) g1 h2
   have he:us1.toList.take c.off++([vo]++us1.toList.drop (c.off+[vo].length))=us1.toList:=by
    rw[← hvv]
    simp only[List.length_singleton,List.singleton_append]
    rw[List.getElem_cons_drop,List.take_append_drop]
   rw[he] at h3;exact h3
  have hmod:ar w0 N0 A1 (bq [(q,some PN),(base,some qe)] env env1) (aM (c.upd d q base n) h) w1/\aS A env w A1 (bq [(q,some PN),(base,some qe)] env env1) w1:=by
   refine ar.retn (R:=[(q,some PN),(base,some qe)]) (U:=c.upd d q base n) (A':=A1) m t'.m x'.shape ?_ ?_ ?_ ?_ ?_ hAA ?_ ?_
   ·intro n' y hx
    unfold Cp.upd at hx
    simp only[List.mem_cons,Prod.mk.injEq,List.not_mem_nil,or_false] at hx
    rcases hx with⟨rfl,rfl⟩|⟨rfl,rfl⟩|⟨rfl,rfl⟩
    ·refine .inr ⟨_,rfl,rfl,.inl ⟨PN,_,hRq,hC,rfl,fun k' len he=>?_,fun he=>?_⟩⟩
     ·rw[hkP] at he;cases he
      exact⟨us1,hus1,hcell⟩
     ·rw[hkP] at he;cases he
    ·refine .inr ⟨_,rfl,rfl,.inl ⟨qe,_,hRb,hR,rfl,fun k' len he=>?_,fun he=>?_⟩⟩
     ·exact (t'.m.live_blk (show S'.fs.h qe=_ from hR) he).1
     ·have:=t'.m.nm qe
      rw[show S'.fs.h qe=_ from hR] at this
      rcases this with⟨_,_,he',_⟩|⟨_,E3,t3,hb3⟩
      ·rw[he] at he';cases he'
      ·rcases hb3 with hb3|hb3
       ·exact⟨E3,t3,hb3⟩
       ·cases hb3
    ·exact .inl rfl
   ·intro n' hn'
    obtain⟨y',hy⟩:=Option.ne_none_iff_exists'.1 hn'
    rcases hRi n' y' hy with⟨rfl,_⟩|⟨rfl,_⟩ <;> simp[Cp.upd]
   ·intro n1 n2 q' h1 h2
    rcases hRi n1 _ h1 with⟨rfl,e1⟩|⟨rfl,e1⟩ <;> rcases hRi n2 _ h2 with⟨rfl,e2⟩|⟨rfl,e2⟩
    ·rfl
    ·cases e1;cases e2;exact absurd rfl hqP
    ·cases e1;cases e2;exact absurd rfl hqP
    ·rfl
   ·intro n' hn'
    obtain⟨y',hy⟩:=Option.ne_none_iff_exists'.1 hn'
    rcases hRi n' y' hy with⟨rfl,rfl⟩|⟨rfl,rfl⟩
    ·exact .inr ⟨_,hl,rfl,by rw[eX hy];exact henvp⟩
    ·exact .inl hun
   ·rintro k' ⟨n',l',hn',he⟩
    simp only[b9,List.cons_append,List.nil_append,List.mem_cons,List.not_mem_nil,or_false] at hn'
    rcases hn' with rfl|rfl
    ·exact⟨_,_,l',by simp[Cp.upd],hl,rfl,he⟩
    ·exact⟨_,bn,l',by simp[Cp.upd],hbn1,hbn2,he⟩
   ·intro b hb
    have hlt':=t'.m.Alt b hb
    rcases t'.m.fresh b hb with h1|h1|h1
    ·rcases h1 with h1|⟨_,_,_,hx,_⟩
     ·exact .inl h1
     ·simp at hx
    ·exact .inr ⟨.inl h1,hlt'⟩
    ·exact .inr ⟨.inr h1,hlt'⟩
   ·rintro q' b k' l' hq' hbm he ⟨n',hn'⟩
    exact (t'.m.live_blk (show S'.fs.h q'=_ from hq') he).2 hbm
  have hrd:=qT hres
  have hgood:bz w0 N0 A env h w (.det (c.pre d) (.part base c.t.size 0 (c.out d)) (c.upd d q base n)) (jQ rvs) w1:=by
   refine⟨(),A1,_,trivial,hmod.1,hmod.2,?_⟩
   exact denP _ _ _ hrd
  have hthis:act.defers=[]∧∃ v,(results fn act.tmps).run P w1 = .ok v w1∧∃ v',Ending.returned v = .returned v'∧bz w0 N0 A env h w (.det (c.pre d) (.part base c.t.size 0 (c.out d)) (c.upd d q base n)) v' w1 :=
   ⟨t'.dfr,_,hrun,_,rfl,hgood⟩
  rcases hex with rfl|rfl
  ·exact hthis
  ·exact hthis
theorem Cp.okH{P:Program}{sp:ba}(c:Cp){f:FuncId}{fn:Func}(hf:P.funcs[f]? = some fn)(hb:fn.body=some (ib fn))(hs:ce P sp)(aH:P.follows .mixedOrders=true)
  (hnb:c.o.nb=0) (hne:c.oe.nb=0) (hnr:c.oe.nr=0) (hpl:c.oe.hx=c.o.hx) (hcon:∀ d,eV c.o d 0=[(QN,.live (.row c.Er c.t (c.xs d)))]) (an:c.o.D->aN)
  (vc:lS (Cp.vc P sp c fn an)):aL P sp.gl f c.spec:=c.ok hf hb hs aH hnb hne hnr hpl hcon an vc.out
end Go.SX

/- Xw2: the program's exchange: messages are sent and taken, they arrive; a tick. -/
namespace Go.RS
open Go.SX Go.Proofs
set_option maxRecDepth 100000
set_option linter.unusedVariables false
def fp(a b:af):Prop:=a.1<b.1∨a.1=b.1/\a.2.1<b.2.1
def dS(x y:af):Int:=if bj x.1 y.1≠0 then bj x.1 y.1 else bj x.2.1 y.2.1
instance (a b:af):Decidable (fp a b):=by unfold fp;infer_instance
def ur:Ct:=⟨[.agg bf,.agg bf],[.val cI],fun _=>[],fun d=>((dS d.1 d.2.1,()),())⟩
def yz:aG ur.ps->aN:=(fun _=>{})
theorem xh :
 ∀(a b:Int)(c:List Int)(d e:Int)(f:List Int),(aq a/\aq b/\c.length<=maxLen/\ ∀(g:Int),g∈c->0<=g/\g<=255)/\(aq d/\aq e/\f.length<=maxLen/\ ∀(g:Int),g∈f->0<=g/\g<=255)/\True->True->dL [bj a d,bj b e]=dS (a,b,c) (d,e,f):=by
  rintro a1 a2 a3 b1 b2 b3 - -
  have e:dS (a1,a2,a3) (b1,b2,b3)=if bj a1 b1≠0 then bj a1 b1 else bj a2 b2:=rfl
  rw[e]
  simp only[dL]
  by_cases h:bj a1 b1≠0
  ·rw[if_pos h,if_pos h]
  ·rw[if_neg h,if_neg h]
   by_cases k:bj a2 b2≠0
   ·rw[if_pos k]
   ·rw[if_neg k];simp at k;exact k.symm
theorem AG:aL Try.prog GL 80 ur.spec:=Ct.okH _ Try.func80 (by kernel_rfl) (aI (aI aW uB) zH) aH yz (aX (by kernel_rfl) xh)
def dZ{α:Type}(p:α->Bool)(l:List α):Int:=((l.takeWhile p).length:Int)
theorem jw{α:Type}(p:α->Bool)(l:List α):0<=dZ p l/\dZ p l<=l.length:=by
 unfold dZ
 have:=congrArg List.length (List.takeWhile_append_dropWhile (p:=p) (l:=l))
 rw[List.length_append] at this
 omega
theorem tX{α:Type} [Inhabited α] {p:α->Bool} {R:α->α->Prop} (hR:∀ a b,R a b->p b=true->p a=true):∀{l:List α}{h:Nat},l.Pairwise R->h<l.length->(p (l.getD h default)=true↔(h:Int)<dZ p l)
 | [],h,_,hh=>by simp at hh
 | a::l,h,hs,hh=>by
  obtain⟨s1,s2⟩:=List.pairwise_cons.1 hs
  by_cases ha:p a=true
  ·have e:dZ p (a::l)=dZ p l+1:=by unfold dZ;rw[List.takeWhile_cons_of_pos ha,List.length_cons];omega
   cases h with
   | zero =>
    have:=jw p l
    simp only[List.getD_cons_zero]
    exact⟨fun _=>by rw[e];omega,fun _=>ha⟩
   | succ h =>
    simp only[List.getD_cons_succ]
    rw[tX hR s2 (by simpa using hh),e]
    omega
  ·have e:dZ p (a::l)=0:=by unfold dZ;rw[List.takeWhile_cons_of_neg ha];rfl
   rw[e]
   constructor
   ·intro k
    exfalso
    cases h with
    | zero=>exact ha k
    | succ h =>
     simp only[List.getD_cons_succ] at k
     have hh:h<l.length:=by simpa using hh
     have hm:l.getD h default∈l:=by rw[List.getD_eq_getElem?_getD,List.getElem?_eq_getElem hh];exact List.getElem_mem hh
     exact ha (hR _ _ (s1 _ hm) k)
   ·intro k;omega
theorem vG{α:Type} [Inhabited α] {p:α->Bool} {R:α->α->Prop} (hR:∀ a b,R a b->p b=true->p a=true) {l:List α} {h:Int} (hs:l.Pairwise R) (h0:0<=h) (h1:h<l.length):p (l.getD h.toNat default)=true↔h<dZ p l:=by
 rw[tX hR hs (by omega)]
 rw[Int.toNat_of_nonneg h0]
theorem tE{α:Type}(p:α->Bool)(l:List α):l.take (dZ p l).toNat=l.takeWhile p/\l.drop (dZ p l).toNat=l.dropWhile p:=by
 have k:=List.takeWhile_append_dropWhile (p:=p) (l:=l)
 have t1:∀ A B:List α,A++B=l->l.take A.length=A/\l.drop A.length=B:=by
  rintro A B rfl
  exact⟨List.take_left' rfl,List.drop_left' rfl⟩
 unfold dZ
 rw[Int.toNat_natCast]
 exact t1 _ _ k
theorem ta{x y:af}:dS x y<0↔fp x y:=by
 unfold dS bj fp
 by_cases h1:x.1<y.1
 ·simp[h1]
 ·by_cases h2:y.1<x.1
  ·have:x.1≠y.1:=by omega
   simp[h1,h2,this]
  ·have:x.1=y.1:=by omega
   by_cases h3:x.2.1<y.2.1
   ·simp[this,h3]
   ·by_cases h4:y.2.1<x.2.1 <;> simp[this,h3,h4]
abbrev cw(l:List af)(t:af):Int:=dZ (fun x=>decide (dS x t<0)) l
theorem sC{l:List af}{t:af}{h:Int}(hs:l.Pairwise fp)(h0:0<=h)(h1:h<l.length):dS (l.getD h.toNat default) t<0↔h<cw l t:=by
 rw[← vG (p:=fun x=>decide (dS x t<0)) (R:=fp) (fun a b hab hb=>?_) hs h0 h1,decide_eq_true_eq]
 simp only[decide_eq_true_eq,ta] at hb ⊢
 unfold fp at *;omega
def qJ:Ct:=⟨[.val (.sl bf),.agg bf,.fn 80 0],[.val cI,.val .bool],fun d=>[d.1.Pairwise fp],fun d=>((cw d.1 d.2.1,(bif decide (cw d.1 d.2.1<d.1.length) then decide (dS (d.1.getD (cw d.1 d.2.1).toNat default) d.2.1=0) else false),()),())⟩
def AX:aG qJ.ps->aN:=(fun d=>{loops:=(fun n=>match n with|3=>some (fun S=>{ι:=Int×Int,qn:=⟨fun k_=>∀(i:Int)(j:Int),k_ (i,j),fun k_ h_ i=>h_ i.1 i.2,fun k_=>∃ (i:Int) (j:Int),k_ (i,j),fun k_ ⟨i,j,h_⟩=>⟨_,h_⟩⟩,μ:=fun i=>(i.2-i.1).toNat,inv:=fun i=>0<=i.1/\i.1<=cw d.1 d.2.1/\cw d.1 d.2.1<=i.2/\i.2<=d.1.length,keep:=[0,2,4,8],slots:=fun i=>[(9,.int .i64 i.1),(10,.int .i64 i.2)],keepN:=[80],names:=fun i=>[]})|_=>none)})
def j8(e f:Int) :=
 dC IntKind.u64 (IntKind.wrap .u64 (IntKind.wrap .i64 (e+f))) (1:Int)
theorem AP :
 ∀(a:List (Int×Int×List Int))(b c:Int)(d:List Int),(a.length<=maxLen/\ ∀(e:Int×Int×List Int),e∈a->aq e.1/\aq e.2.1/\e.2.2.length<=maxLen/\ ∀(f:Int),f∈e.2.2->0<=f/\f<=255)/\(aq b/\aq c/\d.length<=maxLen/\ ∀(e:Int),e∈d->0<=e/\e<=255)/\True/\True->List.Pairwise fp a->(∃(e:Int) (f:Int),(0<=e/\e<=cw a (b,c,d)/\cw a (b,c,d)<=f/\f<=(a.length:Int))/\a=a/\(a.length:Int)=(a.length:Int)/\(0:Int)=e/\(a.length:Int)=f/\b=b/\c=c/\d=d/\True)/\ ∀(e f:Int),0<=e/\e<=cw a (b,c,d)/\cw a (b,c,d)<=f/\f<=(a.length:Int)->aw (decide (e<f)) ((0:Int)<=1/\0<=IntKind.wrap .i64 (j8 e f)/\IntKind.wrap .i64 (j8 e f)<(a.length:Int)/\aw (decide (dS (a.getD (Int.toNat (IntKind.wrap .i64 (j8 e f))) default) (b,c,d)<0)) (∃(g:Int) (h:Int),(0<=g/\g<=cw a (b,c,d)/\cw a (b,c,d)<=h/\h<=(a.length:Int))/\Int.toNat (h -g)<Int.toNat (f -e)/\a=a/\(a.length:Int)=(a.length:Int)/\IntKind.wrap .i64 (IntKind.wrap
 .i64 (j8 e f)+(1:Int))=g/\f=h/\b=b/\c=c/\d=d/\True) (∃(g:Int) (h:Int),(0<=g/\g<=cw a (b,c,d)/\cw a (b,c,d)<=h/\h<=(a.length:Int))/\Int.toNat (h -g)<Int.toNat (f -e)/\a=a/\(a.length:Int)=(a.length:Int)/\e=g/\IntKind.wrap .i64 (j8 e f)=h/\b=b/\c=c/\d=d/\True)) (∀(g:Bool),g=decide (e<(a.length:Int))->(g->(g->g)/\(g->g)/\0<=e/\e<(a.length:Int)/\True)/\(g->(g->g)/\True)/\(g->(g->g)/\(g->g)/\(g->g)/\True)/\(g->(g->g)/\True)/\(g->g)/\e=cw a (b,c,d)/\(bif g then decide (dS (a.getD e.toNat default) (b,c,d)=0) else false)=bif decide (cw a (b,c,d)<(a.length:Int)) then decide (dS (a.getD (Int.toNat (cw a (b,c,d))) default) (b,c,d)=0) else false):=by
  delta j8
  rintro x p1 p2 p3 ⟨⟨hl,-⟩,-⟩ hs
  simp only[maxLen] at hl
  obtain⟨q0,q1⟩:=jw (fun y=>decide (dS y (p1,p2,p3)<0)) x
  refine⟨⟨0,x.length,⟨by omega,q0,q1,by omega⟩,(by repeat' first|exact trivial|refine⟨trivial,?_⟩|refine⟨(by with_reducible rfl),?_⟩|refine⟨ag (by omega) (by omega),?_⟩|refine⟨rfl,?_⟩)⟩,?_⟩
  rintro i j ⟨h0,h1,h2,h3⟩
  refine aJ (fun hb=>?_) (fun hb=>?_)
  ·have hb:=of_decide_eq_true hb
   rw[sP h0 (by omega) (by omega)]
   refine⟨by omega,by omega,by omega,aJ (fun hc=>?_) (fun hc=>?_)⟩
   ·have hc:=(sC hs (by omega) (by omega)).1 (of_decide_eq_true hc)
    rw[ag (by omega) (by omega)]
    exact⟨(i+j)/2+1,j,⟨by omega,by omega,h2,h3⟩,by omega,(by repeat' first|exact trivial|refine⟨trivial,?_⟩|refine⟨(by with_reducible rfl),?_⟩|refine⟨ag (by omega) (by omega),?_⟩|refine⟨rfl,?_⟩)⟩
   ·have hc:¬ (i+j)/2<cw x (p1,p2,p3):=fun h=>absurd ((sC hs (by omega) (by omega)).2 h) (of_decide_eq_false hc)
    exact⟨i,(i+j)/2,⟨h0,h1,by omega,by omega⟩,by omega,(by repeat' first|exact trivial|refine⟨trivial,?_⟩|refine⟨(by with_reducible rfl),?_⟩|refine⟨ag (by omega) (by omega),?_⟩|refine⟨rfl,?_⟩)⟩
  ·have hb:=of_decide_eq_false hb
   have:i=cw x (p1,p2,p3):=by omega
   subst this
   (repeat (intro (b_:Bool) (hb_:b_=_);(repeat refine⟨(by first|(simp;done)|(rw[hb_];simp;done)|(rw[hb_];simp;omega)|(rw[hb_];simp;intros;omega)|(rw[hb_];simp +contextual;done)),?_⟩);subst hb_))
   exact rfl
theorem B1:aL Try.prog GL 79 qJ.spec:=Ct.okH _ Try.func79 (by kernel_rfl) (aI aW AG) aH AX (aX (by kernel_rfl) AP)
abbrev vx:OT := .pair cI (.pair cI (.pair (.hole 0) (.pair (.hole 1) (.pair (.hole 2) (.pair (.hole 3) (.pair (.hole 4) (.pair (.hole 5) (.hole 6))))))))
def ct(now ord:Int)(l:List af):Prop:=(0<=now/\now<=2000000000000)/\(0<=ord/\ord<=1000000000000000)/\l.Pairwise fp/\(∀ x∈l,x.2.1<ord)/\l.length<=4096
theorem nX{α:Type}{p q:α->Bool}:∀{l:List α},(∀ x∈l,p x=q x)->l.takeWhile p=l.takeWhile q/\l.dropWhile p=l.dropWhile q
 | [],_=>⟨rfl,rfl⟩
 | a::l,h=>by
  obtain⟨h1,h2⟩:=nX (l:=l) fun x hx=>h x (List.mem_cons_of_mem _ hx)
  have ha:=h a (List.mem_cons_self ..)
  rw[List.takeWhile_cons,List.takeWhile_cons,List.dropWhile_cons,List.dropWhile_cons,ha,h1,h2]
  exact⟨rfl,rfl⟩
theorem A7{l:List af}{t:af}(ht:∀ x∈l,x.2.1<t.2.1):l.take (cw l t).toNat++([t]++l.drop (cw l t).toNat)=bX l t:=by
 obtain⟨e1,e2⟩:=nX (p:=fun x=>decide (dS x t<0)) (q:=fun x=>decide (x.1<=t.1)) (l:=l) fun x hx=>by
  have:=ht x hx
  apply decide_eq_decide.2
  rw[ta]
  unfold fp;omega
 obtain⟨t2,t3⟩:=tE (fun x=>decide (dS x t<0)) l
 unfold bX
 rw[t2,t3,e1,e2]
 rfl
theorem xS(now d:Int)(b:List Int):∀(n:Nat)(k:Int){s:Int×List af},¬ s.2.length<4096->bv now d b n k s=s
 | 0,k,s,h=>rfl
 | n+1,k,s,h=>by rw[bv,if_neg h]
theorem ct.next{now o a:Int}{ys:List af}{b:List Int}(h:ct now o ys)(h1:o<1000000000000000)(hl:ys.length<4096):ct now (o+1) (bX ys (a,o,b)):=by
 obtain⟨h2,h3,h4,h5,h6⟩:=h
 refine⟨h2,by omega,su h4 h5,fun x hx=>?_,by rw[kD];omega⟩
 rcases ic.1 hx with rfl|hx
 ·show o<o+1;omega
 ·have:=h5 x hx;omega
def ug:Ct:=⟨[.box 28 vx,.own 53 bf,.val (.sl aV),.val (.sl ep),.val cI],[.own 53 bf],fun d=>[ct d.1.1 d.1.2.1 d.2.1,d.1.2.1<=900000000000000,fv (bd d.2.2.2.1 d.2.2.2.2.1.toNat),0<=d.2.2.2.2.1,(d.2.2.1.length:Int)<=1000000],fun d=>(((a8 d.1.1 d.2.2.1 (bd d.2.2.2.1 d.2.2.2.2.1.toNat) (d.1.2.1,d.2.1)).2,()),((d.1.1,(a8 d.1.1 d.2.2.1 (bd d.2.2.2.1 d.2.2.2.2.1.toNat) (d.1.2.1,d.2.1)).1,d.1.2.2),()))⟩
def Bq:aG ug.ps->aN:=(fun d=>{loops:=(fun n=>match n with|7=>some (fun S=>{ι:=Int×Int×(List af),qn:=⟨fun k_=>∀(k:Int)(o:Int)(ys:(List af)),k_ (k,o,ys),fun k_ h_ i=>h_ i.1 i.2.1 i.2.2,fun k_=>∃ (k:Int) (o:Int) (ys:(List af)),k_ (k,o,ys),fun k_ ⟨k,o,ys,h_⟩=>⟨_,h_⟩⟩,μ:=fun i=>((bd d.2.2.2.1 d.2.2.2.2.1.toNat).2.2+1-i.1).toNat,inv:=fun i=>0<=i.1/\i.1<=(bd d.2.2.2.1 d.2.2.2.2.1.toNat).2.2+1/\ct d.1.1 i.2.1 i.2.2/\i.2.1<=d.1.2.1+i.1/\bv d.1.1 (bd d.2.2.2.1 d.2.2.2.2.1.toNat).2.1 d.2.2.1 ((bd d.2.2.2.1 d.2.2.2.2.1.toNat).2.2+1-i.1).toNat i.1 (i.2.1,i.2.2)=a8 d.1.1 d.2.2.1 (bd d.2.2.2.1 d.2.2.2.2.1.toNat) (d.1.2.1,d.2.1),keep:=[0,2,11],slots:=fun i=>[(1,.own 524288 3),(12,.int .i64 i.1)],keepN:=[192],names:=fun i=>[(1048576,.live (.cells 28 (dt vx (d.1.1,i.2.1,d.1.2.2) 1 0))),(524288,.live (.row 53 bf i.2.2)),(1572864,.dead),(1572865,.dead),(1572866,.dead),(1572867,.dead),(1572868,.dead),(1572869,.dead),(1572870,.dead)]})|_=>none),cuts:=(fun n=>match n with|4=>some (fun S=>{ι:=aY,inv:=fun i=>i=bd d.2.2.2.1 d.2.2.2.2.1.toNat,keep:=[0,1,2,11],slots:=fun i=>[],keepN:=[1048576,2097152],names:=fun i=>[(1572864,.dead),(1572865,.dead),(1572866,.dead),(1572867,.dead),(1572868,.dead),(1572869,.dead),(1572870,.dead),(192,.live (.cells 67 [.bool i.1,.int .i64 i.2.1,.int .i64 i.2.2]))]})|_=>none)})
def jo(a:Int)(k:List Int)(n:aY)(o p:Int) :=
 (IntKind.wrap .i64 (IntKind.wrap .i64 (IntKind.wrap .i64 (a+(1:Int))+n.2.1)+o),p,k)
def cY(l:List (Bool×Int×Int))(m:Int) :=
 bd l m.toNat
theorem wT :
 ∀(a b:Int)(c d e f g h i:SV)(j:List (Int×Int×List Int))(k:List Int)(l:List (Bool×Int×Int))(m:Int),(aq a/\aq b/\True/\True/\True/\True/\True/\True/\True)/\(j.length<=maxLen/\ ∀(n:Int×Int×List Int),n∈j->aq n.1/\aq n.2.1/\n.2.2.length<=maxLen/\ ∀(o:Int),o∈n.2.2->0<=o/\o<=255)/\(k.length<=maxLen/\ ∀(n:Int),n∈k->0<=n/\n<=255)/\(l.length<=maxLen/\ ∀(n:Bool×Int×Int),n∈l->True/\aq n.2.1/\aq n.2.2)/\aq m/\True->ct a b j/\b<=900000000000000/\fv (cY l m)/\0<=m/\(k.length:Int)<=1000000->aw (decide (m<(l.length:Int))) (0<=m/\m<(l.length:Int)/\ ∃(n:aY),n=bd l m.toNat/\k=k/\a=a/\b=b/\c=c/\d=d/\e=e/\f=f/\g=g/\h=h/\i=i/\j=j/\(l.getD m.toNat default).1=n.1/\(l.getD m.toNat default).2.1=n.2.1/\(l.getD m.toNat default).2.2=n.2.2/\True) (∃(n:aY),n=bd l m.toNat/\k=k/\a=a/\b=b/\c=c/\d=d/\e=e/\f=f/\g=g/\h=h/\i=i/\j=j/\false=n.1/\(0:Int)=n.2.1/\(0:Int)=n.2.2/\True)/\
 ∀(n:aY),n=bd l m.toNat->aw n.1 (j=(a8 a k (cY l m) (b,j)).2/\(a,b,c,d,e,f,g,h,i)=(a,(a8 a k (cY l m) (b,j)).1,c,d,e,f,g,h,i)) ((∃(o:Int) (p:Int),∃(q:List af),(0<=o/\o<=(cY l m).2.2+(1:Int)/\ct a p q/\p<=b+o/\bv a (cY l m).2.1 k (Int.toNat ((cY l m).2.2+(1:Int) -o)) o (p,q)=a8 a k (cY l m) (b,j))/\k=k/\(0:Int)=o/\n.1=n.1/\n.2.1=n.2.1/\n.2.2=n.2.2/\a=a/\b=p/\c=c/\d=d/\e=e/\f=f/\g=g/\h=h/\i=i/\j=q/\True)/\ ∀(o p:Int)(q:List af),0<=o/\o<=(cY l m).2.2+(1:Int)/\ct a p q/\p<=b+o/\bv a (cY l m).2.1 k (Int.toNat ((cY l m).2.2+(1:Int) -o)) o (p,q)=a8 a k (cY l m) (b,j)-> ∀(r:Bool),r=decide (o<=n.2.2)->(r->(r->r)/\True)/\(r->(r->r)/\True)/\(r->r)/\aw (bif r then decide ((q.length:Int)<4096) else false) ((k.length:Int)<=1099511627776/\List.Pairwise fp q/\List.length [(jo a k n o p)]=(1:Nat)/\0<=cw q (jo a k n o p)/\cw q (jo a k n
 o p)<=(q.length:Int)/\(q.length+(1:Nat))*(40:Nat)<=(140737488355328:Nat)/\ ∃(s:Int) (t:Int),∃(u:List af),(0<=s/\s<=(cY l m).2.2+(1:Int)/\ct a t u/\t<=b+s/\bv a (cY l m).2.1 k (Int.toNat ((cY l m).2.2+(1:Int) -s)) s (t,u)=a8 a k (cY l m) (b,j))/\Int.toNat ((cY l m).2.2+(1:Int) -s)<Int.toNat ((cY l m).2.2+(1:Int) -o)/\k=k/\IntKind.wrap .i64 (o+(1:Int))=s/\n.1=n.1/\n.2.1=n.2.1/\n.2.2=n.2.2/\a=a/\IntKind.wrap .i64 (p+(1:Int))=t/\c=c/\d=d/\e=e/\f=f/\g=g/\h=h/\i=i/\List.take (Int.toNat (cw q (jo a k n o p))) q++([(jo a k n o p)]++List.drop (Int.toNat (cw q (jo a k n o p))) q)=u/\True) (q=(a8 a k (cY l m) (b,j)).2/\(a,p,c,d,e,f,g,h,i)=(a,(a8 a k (cY l m) (b,j)).1,c,d,e,f,g,h,i))):=by
  delta jo cY
  rintro now ord s0 s1 s2 s3 s4 s5 s6 l b fs i-⟨hs,hor,hf,hi,hb⟩
  refine⟨aJ (fun h=>?_) (fun h=>?_),?_⟩
  ·exact⟨hi,of_decide_eq_true h,_,rfl,(by repeat' first|exact trivial|refine⟨trivial,?_⟩|refine⟨(by with_reducible rfl),?_⟩|refine⟨ag (by omega) (by omega),?_⟩|refine⟨rfl,?_⟩)⟩
  ·have h:=of_decide_eq_false h
   have e:bd fs i.toNat=(false,0,0):=by unfold bd;rw[List.getD_eq_getElem?_getD,List.getElem?_eq_none (by omega)];rfl
   rw[e]
   exact⟨_,rfl,(by repeat' first|exact trivial|refine⟨trivial,?_⟩|refine⟨(by with_reducible rfl),?_⟩|refine⟨ag (by omega) (by omega),?_⟩|refine⟨rfl,?_⟩)⟩
  rintro F hF
  rw[← hF] at hf ⊢
  obtain⟨hf1,hf2⟩:=hf
  refine aJ (fun h=>?_) (fun h=>?_)
  ·unfold a8
   rw[if_pos h];exact⟨rfl,rfl⟩
  have eF:a8 now b F (ord,l)=bv now F.2.1 b (F.2.2+1).toNat 0 (ord,l):=by unfold a8;rw[if_neg (by rw[h];simp)]
  rw[eF]
  have hs0:=hs
  obtain⟨n0,o0,-,-,hl0⟩:=hs0
  refine⟨⟨0,ord,l,⟨by omega,by omega,hs,by omega,by rw[Int.sub_zero]⟩,(by repeat' first|exact trivial|refine⟨trivial,?_⟩|refine⟨(by with_reducible rfl),?_⟩|refine⟨ag (by omega) (by omega),?_⟩|refine⟨rfl,?_⟩)⟩,?_⟩
  rintro k o ys ⟨k0,k1,ho,ho2,he⟩
  have ho0:=ho
  obtain⟨-,o1,o2,o3,o4⟩:=ho0
  (repeat (intro (b_:Bool) (hb_:b_=_);(repeat refine⟨(by first|(simp;done)|(rw[hb_];simp;done)|(rw[hb_];simp;omega)|(rw[hb_];simp;intros;omega)|(rw[hb_];simp +contextual;done)),?_⟩);subst hb_))
  refine gZ (fun h1 h2=>?_) (fun h1=>?_)
  ·have h1:=of_decide_eq_true h1
   have h2:=of_decide_eq_true h2
   obtain⟨n,hn⟩:∃ n,(F.2.2+1-k).toNat=n+1:=⟨(F.2.2-k).toNat,by omega⟩
   rw[ag (n:=now+1) (by omega) (by omega),ag (n:=now+1+F.2.1) (by omega) (by omega),ag (n:=now+1+F.2.1+k) (by omega) (by omega)]
   obtain⟨q0,q1⟩:=jw (fun x=>decide (dS x (now+1+F.2.1+k,o,b)<0)) ys
   refine⟨by omega,o2,rfl,q0,q1,by omega,k+1,o+1,bX ys (now+1+F.2.1+k,o,b),⟨by omega,by omega,ho.next (by omega) (by omega),by omega,?_⟩,by omega,?_⟩
   ·rw[← he,hn,show (F.2.2+1-(k+1)).toNat=n by omega]
    rw[bv,if_pos (by show ys.length<4096;omega)]
   ·(repeat first|refine⟨trivial,?_⟩|refine⟨(by with_reducible rfl),?_⟩|refine⟨ag (by omega) (by omega),?_⟩)
    exact⟨A7 o3,trivial⟩
  ·have hz:bv now F.2.1 b (F.2.2+1-k).toNat k (o,ys)=(o,ys):=by
    rcases h1 with h1|h1
    ·have h1:=of_decide_eq_false h1
     rw[show (F.2.2+1-k).toNat=0 by omega];rfl
    ·have h1:=of_decide_eq_false h1
     exact xS _ _ _ _ _ (by show ¬ ys.length<4096;omega)
   rw[hz] at he
   rw[← he];exact⟨rfl,rfl⟩
theorem sr:aL Try.prog GL 57 ug.spec:=Ct.okH _ Try.func57 (by kernel_rfl) (aI (aI (aI aW jz) B1) Bp) aH Bq (aX (by kernel_rfl) wT)
abbrev bB(l:List au)(i:Int):Int:=dZ (fun x=>decide (bj x.1 i<0)) l
theorem mh{a b:Int}:bj a b<0↔a<b:=by
 unfold bj
 by_cases h1:a<b
 ·simp[h1]
 ·by_cases h2:b<a <;> simp[h1,h2]
theorem ma{l:List au}{t:Int}{h:Int}(hs:l.Pairwise fun a b=>a.1<b.1)(h0:0<=h)(h1:h<l.length):bj (l.getD h.toNat default).1 t<0↔h<bB l t:=by
 rw[← vG (p:=fun x=>decide (bj x.1 t<0)) (R:=fun a b:au=>a.1<b.1) (fun a b hab hb=>?_) hs h0 h1,decide_eq_true_eq]
 simp only[decide_eq_true_eq,mh] at hb ⊢
 omega
def rC:Ct:=⟨[.agg dU,.val cI],[.val cI],fun _=>[],fun d=>((bj d.1.1 d.2.1,()),())⟩
def yX:aG rC.ps->aN:=(fun _=>{})
theorem Bg :
 ∀(a:Int)(b:List Int)(c:Int),(aq a/\b.length<=maxLen/\ ∀(d:Int),d∈b->0<=d/\d<=255)/\aq c/\True->True->bj a c=bj a c:=by
  intros;rfl
theorem wH:aL Try.prog GL 89 rC.spec:=Ct.okH _ Try.func89 (by kernel_rfl) (aI aW uB) aH yX (aX (by kernel_rfl) Bg)
def ro:Ct:=⟨[.val (.sl dU),.val cI,.fn 89 0],[.val cI,.val .bool],fun d=>[d.1.Pairwise fun a b=>a.1<b.1],fun d=>((bB d.1 d.2.1,(bif decide (bB d.1 d.2.1<d.1.length) then decide (bj (d.1.getD (bB d.1 d.2.1).toNat default).1 d.2.1=0) else false),()),())⟩
def Aq:aG ro.ps->aN:=(fun d=>{loops:=(fun n=>match n with|3=>some (fun S=>{ι:=Int×Int,qn:=⟨fun k_=>∀(i:Int)(j:Int),k_ (i,j),fun k_ h_ i=>h_ i.1 i.2,fun k_=>∃ (i:Int) (j:Int),k_ (i,j),fun k_ ⟨i,j,h_⟩=>⟨_,h_⟩⟩,μ:=fun i=>(i.2-i.1).toNat,inv:=fun i=>0<=i.1/\i.1<=bB d.1 d.2.1/\bB d.1 d.2.1<=i.2/\i.2<=d.1.length,keep:=[0,1,2,8],slots:=fun i=>[(9,.int .i64 i.1),(10,.int .i64 i.2)],names:=fun i=>[]})|_=>none)})
def jC(c d:Int) :=
 dC IntKind.u64 (IntKind.wrap .u64 (IntKind.wrap .i64 (c+d))) (1:Int)
theorem BP :
 ∀(a:List (Int×List Int))(b:Int),(a.length<=maxLen/\ ∀(c:Int×List Int),c∈a->aq c.1/\c.2.length<=maxLen/\ ∀(d:Int),d∈c.2->0<=d/\d<=255)/\aq b/\True/\True->List.Pairwise (fun (c d:Int×List Int)=>c.1<d.1) a->(∃(c:Int) (d:Int),(0<=c/\c<=bB a b/\bB a b<=d/\d<=(a.length:Int))/\a=a/\b=b/\(a.length:Int)=(a.length:Int)/\(0:Int)=c/\(a.length:Int)=d/\True)/\ ∀(c d:Int),0<=c/\c<=bB a b/\bB a b<=d/\d<=(a.length:Int)->aw (decide (c<d)) ((0:Int)<=1/\0<=IntKind.wrap .i64 (jC c d)/\IntKind.wrap .i64 (jC c d)<(a.length:Int)/\aw (decide (bj (a.getD (Int.toNat (IntKind.wrap .i64 (jC c d))) default).1 b<0)) (∃(e:Int) (f:Int),(0<=e/\e<=bB a b/\bB a b<=f/\f<=(a.length:Int))/\Int.toNat (f -e)<Int.toNat (d -c)/\a=a/\b=b/\(a.length:Int)=(a.length:Int)/\IntKind.wrap .i64 (IntKind.wrap .i64 (jC c d)+(1:Int))=e/\d=f/\True) (∃(e:Int) (f:Int),(0<=e/\e<=bB a b/\bB a
 b<=f/\f<=(a.length:Int))/\Int.toNat (f -e)<Int.toNat (d -c)/\a=a/\b=b/\(a.length:Int)=(a.length:Int)/\c=e/\IntKind.wrap .i64 (jC c d)=f/\True)) (∀(e:Bool),e=decide (c<(a.length:Int))->(e->(e->e)/\(e->e)/\0<=c/\c<(a.length:Int)/\True)/\(e->(e->e)/\True)/\(e->(e->e)/\(e->e)/\(e->e)/\True)/\(e->(e->e)/\True)/\(e->e)/\c=bB a b/\(bif e then decide (bj (a.getD c.toNat default).1 b=0) else false)=bif decide (bB a b<(a.length:Int)) then decide (bj (a.getD (Int.toNat (bB a b)) default).1 b=0) else false):=by
  delta jC
  rintro x p ⟨⟨hl,-⟩,-⟩ hs
  simp only[maxLen] at hl
  obtain⟨q0,q1⟩:=jw (fun y:au=>decide (bj y.1 p<0)) x
  refine⟨⟨0,x.length,⟨by omega,q0,q1,by omega⟩,(by repeat' first|exact trivial|refine⟨trivial,?_⟩|refine⟨(by with_reducible rfl),?_⟩|refine⟨ag (by omega) (by omega),?_⟩|refine⟨rfl,?_⟩)⟩,?_⟩
  rintro i j ⟨h0,h1,h2,h3⟩
  refine aJ (fun hb=>?_) (fun hb=>?_)
  ·have hb:=of_decide_eq_true hb
   rw[sP h0 (by omega) (by omega)]
   refine⟨by omega,by omega,by omega,aJ (fun hc=>?_) (fun hc=>?_)⟩
   ·have hc:=(ma hs (by omega) (by omega)).1 (of_decide_eq_true hc)
    rw[ag (by omega) (by omega)]
    exact⟨(i+j)/2+1,j,⟨by omega,by omega,h2,h3⟩,by omega,(by repeat' first|exact trivial|refine⟨trivial,?_⟩|refine⟨(by with_reducible rfl),?_⟩|refine⟨ag (by omega) (by omega),?_⟩|refine⟨rfl,?_⟩)⟩
   ·have hc:¬ (i+j)/2<bB x p:=fun h=>absurd ((ma hs (by omega) (by omega)).2 h) (of_decide_eq_false hc)
    exact⟨i,(i+j)/2,⟨h0,h1,by omega,by omega⟩,by omega,(by repeat' first|exact trivial|refine⟨trivial,?_⟩|refine⟨(by with_reducible rfl),?_⟩|refine⟨ag (by omega) (by omega),?_⟩|refine⟨rfl,?_⟩)⟩
  ·have hb:=of_decide_eq_false hb
   have:i=bB x p:=by omega
   subst this
   (repeat (intro (b_:Bool) (hb_:b_=_);(repeat refine⟨(by first|(simp;done)|(rw[hb_];simp;done)|(rw[hb_];simp;omega)|(rw[hb_];simp;intros;omega)|(rw[hb_];simp +contextual;done)),?_⟩);subst hb_))
   exact rfl
theorem xz:aL Try.prog GL 88 ro.spec:=Ct.okH _ Try.func88 (by kernel_rfl) (aI aW wH) aH Aq (aX (by kernel_rfl) BP)
abbrev xw:OT := .pair (.hole 0) (.pair (.hole 1) (.pair cI (.pair (.hole 2) (.pair cI (.pair (.row 22 (.sl aV)) (.pair (.row 51 dU) (.pair (.hole 3) (.hole 4))))))))
def mY(kn w:Int)(g:List (List Int))(e:List au):Prop:=(0<=kn/\kn<=100000)/\(0<=w/\w<=100000)/\g.length<=100000/\e.length<=100000/\e.Pairwise fun a b=>a.1<b.1
theorem ya{l:List au}{i:Int}(hs:l.Pairwise fun a b=>a.1<b.1):(bif decide (bB l i<l.length) then decide (bj (l.getD (bB l i).toNat default).1 i=0) else false)=l.any fun x=>decide (x.1=i):=by
 obtain⟨q0,q1⟩:=jw (fun x=>decide (bj x.1 i<0)) l
 have q0:0<=bB l i:=q0
 have q1:bB l i<=l.length:=q1
 apply Bool.eq_iff_iff.2
 rw[List.any_eq_true,lv,decide_eq_true_eq]
 have ez:∀ a:Int,bj a i=0↔a=i:=fun a=>by
  unfold bj
  by_cases h1:a<i
  ·simp[h1];omega
  ·by_cases h2:i<a
   ·simp[h1,h2];omega
   ·simp[h1,h2];omega
 constructor
 ·rintro⟨h1,h2⟩
  exact⟨_,cy q0 h1,decide_eq_true ((ez _).1 h2)⟩
 ·rintro⟨x,hx,h⟩
  have h:=of_decide_eq_true h
  obtain⟨j,hj,rfl⟩:=List.mem_iff_getElem.1 hx
  have g:∀ k:Nat,(hk:k<l.length)->l.getD k default=l[k]:=fun k hk=>by rw[List.getD_eq_getElem?_getD,List.getElem?_eq_getElem hk];rfl
  have k1:¬ (j:Int)<bB l i:=fun k=>by
   have:=(ma (t:=i) (h:=(j:Int)) hs (by omega) (by omega)).2 k
   rw[mh,Int.toNat_natCast,g j hj,h] at this
   omega
  have k2:bB l i<l.length:=by omega
  refine⟨k2,(ez _).2 ?_⟩
  have k3:¬ bj (l.getD (bB l i).toNat default).1 i<0:=fun k=>absurd ((ma hs q0 k2).1 k) (by omega)
  rw[mh,g _ (by omega)] at k3
  rw[g _ (by omega)]
  by_cases hq:(bB l i).toNat=j
  ·simp only[hq,h]
  ·have:=List.pairwise_iff_getElem.1 hs (bB l i).toNat j (by omega) hj (by omega)
   rw[h] at this;omega
theorem ww{l:List au}{x:au}:l.take (bB l x.1).toNat++([x]++l.drop (bB l x.1).toNat)=cJ l x:=by
 obtain⟨e1,e2⟩:=nX (p:=fun y:au=>decide (bj y.1 x.1<0)) (q:=fun y=>decide (y.1<x.1)) (l:=l) fun y hy=>by
  apply decide_eq_decide.2
  exact mh
 obtain⟨t2,t3⟩:=tE (fun y:au=>decide (bj y.1 x.1<0)) l
 unfold cJ
 rw[t2,t3,e1,e2]
 rfl
theorem ue{e:List au}{g:List (List Int)}(h:e=[]∨(e.getD 0 default).1≠g.length):bV e g=(g,e):=by
 cases e with
 | nil=>rfl
 | cons x r =>
  rcases h with h|h
  ·cases h
  ·rw[bV,if_neg (show ¬ x.1=_ from h)]
def tP:Ct:=⟨[.box 28 xw,.val cI,.val (.sl aV)],[],fun d=>[mY d.1.2.2.2.2.1 d.1.2.2.1 d.1.2.2.2.2.2.1 d.1.2.2.2.2.2.2.1],fun d=>((),((d.1.1,d.1.2.1,d.1.2.2.1,d.1.2.2.2.1,d.1.2.2.2.2.1,(bY (d.1.2.2.2.2.1+d.1.2.2.1) (d.1.2.2.2.2.2.1,d.1.2.2.2.2.2.2.1) d.2.1 d.2.2.1).1,(bY (d.1.2.2.2.2.1+d.1.2.2.1) (d.1.2.2.2.2.2.1,d.1.2.2.2.2.2.2.1) d.2.1 d.2.2.1).2,d.1.2.2.2.2.2.2.2),()))⟩
def BL:aG tP.ps->aN:=(fun d=>{loops:=(fun n=>match n with|3=>some (fun S=>{ι:=(List (List Int))×(List au),qn:=⟨fun k_=>∀(g:(List (List Int)))(e:(List au)),k_ (g,e),fun k_ h_ i=>h_ i.1 i.2,fun k_=>∃ (g:(List (List Int))) (e:(List au)),k_ (g,e),fun k_ ⟨g,e,h_⟩=>⟨_,h_⟩⟩,μ:=fun i=>i.2.length,inv:=fun i=>bV i.2 i.1=bV d.1.2.2.2.2.2.2.1 (d.1.2.2.2.2.2.1++[d.2.2.1])/\i.1.length+i.2.length<=300000,keep:=[0],slots:=fun i=>[],names:=fun i=>[(1048576,.live (.cells 28 [.hv 1572864 d.1.1,.hv 1572865 d.1.2.1,.int .i64 d.1.2.2.1,.hv 1572866 d.1.2.2.2.1,.int .i64 d.1.2.2.2.2.1,.own 524288 1,.own 524289 2,.hv 1572867 d.1.2.2.2.2.2.2.2.1,.hv 1572868 d.1.2.2.2.2.2.2.2.2])),(524288,.live (.row 22 (.sl aV) i.1)),(524289,.live (.row 51 dU i.2)),(1572864,.dead),(1572865,.dead),(1572866,.dead),(1572867,.dead),(1572868,.dead)]})|_=>none)})
theorem xE :
 ∀(a b:SV)(c:Int)(d:SV)(e:Int)(f:List (List Int))(g:List (Int×List Int))(h i:SV)(j:Int)(k:List Int),(True/\True/\aq c/\True/\aq e/\(f.length<=maxLen/\ ∀(l:List Int),l∈f->l.length<=maxLen/\ ∀(m:Int),m∈l->0<=m/\m<=255)/\(g.length<=maxLen/\ ∀(l:Int×List Int),l∈g->aq l.1/\l.2.length<=maxLen/\ ∀(m:Int),m∈l.2->0<=m/\m<=255)/\True/\True)/\aq j/\(k.length<=maxLen/\ ∀(l:Int),l∈k->0<=l/\l<=255)/\True->(0<=e/\e<=100000)/\(0<=c/\c<=100000)/\f.length<=(100000:Nat)/\g.length<=(100000:Nat)/\List.Pairwise (fun (l m:au)=>l.1<m.1) g->List.Pairwise (fun (l m:Int×List Int)=>l.1<m.1) g/\aw (decide (j=(f.length:Int))) ((f.length+List.length [k])*(24:Nat)<=(140737488355328:Nat)/\(∃(l:List (List Int)),∃(m:List au),(bV m l=bV g (f++[k])/\l.length+m.length<=(300000:Nat))/\a=a/\b=b/\c=c/\d=d/\e=e/\h=h/\i=i/\f++[k]=l/\g=m/\True)/\ ∀(l:List (List Int))(m:List au),bV m l=bV g
 (f++[k])/\l.length+m.length<=(300000:Nat)-> ∀(n:Bool),n=decide (0<(m.length:Int))->(n->(n->n)/\True)/\(n->(n->n)/\True)/\(n->(n->n)/\True)/\(n->(n->n)/\(0:Int)<=0/\0<(m.length:Int)/\True)/\(n->(n->n)/\True)/\(n->(n->n)/\True)/\(n->(n->n)/\True)/\(n->(n->n)/\True)/\(n->(n->n)/\True)/\(n->(n->n)/\True)/\(n->(n->n)/\(n->n)/\True)/\(n->n)/\aw (bif n then decide ((m.getD (Int.toNat (0:Int)) default).1=(l.length:Int)) else false) ((0:Int)<=0/\0<(m.length:Int)/\(l.length+List.length [(m.getD (Int.toNat (0:Int)) default).2])*(24:Nat)<=(140737488355328:Nat)/\(0:Int)<=1/\1<=(m.length:Int)/\ ∃(o:List (List Int)),∃(p:List au),(bV p o=bV g (f++[k])/\o.length+p.length<=(300000:Nat))/\p.length<m.length/\a=a/\b=b/\c=c/\d=d/\e=e/\h=h/\i=i/\l++[(m.getD (Int.toNat (0:Int)) default).2]=o/\List.drop (Int.toNat (1:Int)) m=p/\True) ((a,b,c,d,e,l,m,h,i)=(a,b,c,d,e,(bY (e+c) (f,g) j k).1,(bY
 (e+c) (f,g) j k).2,h,i))) (∀(l:Bool),l=decide ((f.length:Int)<j)->(l->(l->l)/\True)/\(l->l)/\ ∀(m:Bool),(m=bif l then ! bif decide (bB g j<(g.length:Int)) then decide (bj (g.getD (Int.toNat (bB g j)) default).1 j=0) else false else false)->(m->(m->m)/\True)/\(m->(m->m)/\True)/\(m->(m->m)/\True)/\(m->(m->m)/\True)/\(m->(m->m)/\True)/\(m->(m->m)/\True)/\(m->(m->m)/\(m->m)/\True)/\(m->(m->m)/\(m->m)/\True)/\(m->m)/\aw (bif m then decide (j<IntKind.wrap .i64 (e+c)) else false) (List.length [(j,k)]=(1:Nat)/\0<=bB g j/\bB g j<=(g.length:Int)/\(g.length+(1:Nat))*(32:Nat)<=(140737488355328:Nat)/\(a,b,c,d,e,f,List.take (Int.toNat (bB g j)) g++([(j,k)]++List.drop (Int.toNat (bB g j)) g),h,i)=(a,b,c,d,e,(bY (e+c) (f,g) j k).1,(bY (e+c) (f,g) j k).2,h,i)) ((a,b,c,d,e,f,g,h,i)=(a,b,c,d,e,(bY (e+c) (f,g) j k).1,(bY (e+c) (f,g) j k).2,h,i))):=by
  rintro s0 s1 w s2 kn g e s3 s4 i it-⟨hkn,hw,hg,he,hs⟩
  refine⟨hs,aJ (fun h=>?_) (fun h=>?_)⟩
  ·have h:=of_decide_eq_true h
   have eA:bY (kn+w) (g,e) i it=bV e (g++[it]):=if_pos h
   rw[eA]
   refine⟨by simp only[List.length_singleton];omega,⟨_,_,⟨rfl,by rw[List.length_append,List.length_singleton];omega⟩,(by repeat' first|exact trivial|refine⟨trivial,?_⟩|refine⟨(by with_reducible rfl),?_⟩|refine⟨ag (by omega) (by omega),?_⟩|refine⟨rfl,?_⟩)⟩,?_⟩
   rintro g' e' ⟨ha,hb⟩
   (repeat (intro (b_:Bool) (hb_:b_=_);(repeat refine⟨(by first|(simp;done)|(rw[hb_];simp;done)|(rw[hb_];simp;omega)|(rw[hb_];simp;intros;omega)|(rw[hb_];simp +contextual;done)),?_⟩);subst hb_))
   refine gZ (fun h1 h2=>?_) (fun h1=>?_)
   ·have h1:=of_decide_eq_true h1
    have h2:=of_decide_eq_true h2
    cases e' with
    | nil=>simp at h1
    | cons x r =>
     have h2:x.1=(g'.length:Int):=h2
     have hb':g'.length+(r.length+1)<=300000:=hb
     refine⟨by omega,h1,by simp only[List.length_singleton];omega,by omega,by simp only[List.length_cons];omega,g'++[x.2],r,⟨?_,by rw[List.length_append,List.length_singleton];omega⟩,by simp,(by repeat' first|exact trivial|refine⟨trivial,?_⟩|refine⟨(by with_reducible rfl),?_⟩|refine⟨ag (by omega) (by omega),?_⟩|refine⟨rfl,?_⟩)⟩
     rw[← ha,bV,if_pos h2]
   ·have hz:bV e' g'=(g',e'):=by
     refine ue ?_
     rcases h1 with h1|h1
     ·have h1:=of_decide_eq_false h1
      exact .inl (List.eq_nil_of_length_eq_zero (by omega))
     ·exact .inr (of_decide_eq_false h1)
    rw[← ha,hz]
  ·have h:=of_decide_eq_false h
   rw[ya hs,ag (n:=kn+w) (by omega) (by omega)]
   have eB:bY (kn+w) (g,e) i it=if i<g.length∨kn+w<=i∨(e.any fun x=>decide (x.1=i))=true then (g,e) else (g,cJ e (i,it)):=if_neg h
   rw[eB]
   (repeat (intro (b_:Bool) (hb_:b_=_);(repeat refine⟨(by first|(simp;done)|(rw[hb_];simp;done)|(rw[hb_];simp;omega)|(rw[hb_];simp;intros;omega)|(rw[hb_];simp +contextual;done)),?_⟩);subst hb_))
   obtain⟨q0,q1⟩:=jw (fun y:au=>decide (bj y.1 i<0)) e
   cases hany:(e.any fun x=>decide (x.1=i)) with
   | true =>
    rw[if_pos (.inr (.inr rfl))]
    simp only[Bool.not_true,cond_eq_ite,Bool.false_eq_true,if_false,ite_self]
    trivial
   | false =>
    simp only[Bool.not_false]
    refine gZ (fun h1 h2=>?_) (fun h1=>?_)
    ·have h2:=of_decide_eq_true h2
     have h1:(g.length:Int)<i:=by simpa[Bool.cond_eq_ite] using h1
     rw[if_neg (by simp;omega)]
     exact⟨rfl,q0,q1,by omega,by rw[ww (x:=(i,it))]⟩
    ·rw[if_pos]
     rcases h1 with h1|h1
     ·have h1:¬ (g.length:Int)<i:=by simpa[Bool.cond_eq_ite] using h1
      exact .inl (by omega)
     ·exact .inr (.inl (by have:=of_decide_eq_false h1;omega))
theorem BM:aL Try.prog GL 75 tP.spec:=Ct.okH _ Try.func75 (by kernel_rfl) (uZ (aI (aI aW xz) An) (d:=77)) aH BL (aX (by kernel_rfl) xE)
theorem mj{now:Int}{l:List af}{n:Int}(h0:0<=n)(h1:n<=l.length)(h2:∀ x∈l.take n.toNat,x.1<=now)(h3:¬ n<l.length∨¬ (l.getD n.toNat default).1<=now):n.toNat=(ai now l).length:=by
 have e:ai now l=l.take n.toNat:=by
  unfold ai
  conv=>lhs;rw[← List.take_append_drop n.toNat l]
  rw[List.takeWhile_append_of_pos (fun x hx=>by simpa using h2 x hx)]
  rcases h3 with h3|h3
  ·rw[List.drop_eq_nil_of_le (by omega)];simp
  ·by_cases hn:n<l.length
   ·rw[List.drop_eq_getElem_cons (by omega)]
    rw[List.getD_eq_getElem?_getD,List.getElem?_eq_getElem (by omega)] at h3
    rw[List.takeWhile_cons_of_neg (by simpa using h3),List.append_nil]
   ·rw[List.drop_eq_nil_of_le (by omega)];simp
 rw[e,List.length_take];omega
abbrev yK:OT := .pair cI (.pair (.hole 0) (.pair (.hole 1) (.pair (.hole 2) (.pair (.hole 3) (.pair (.hole 4) (.pair (.hole 5) (.pair (.row 53 bf) (.hole 6))))))))
abbrev yy:OT := .pair cI (.pair (.hole 0) (.pair (.hole 1) (.pair (.hole 2) (.pair (.hole 3) (.pair (.hole 4) (.pair (.hole 5) (.pair (.rowg 53 bf) (.hole 6))))))))
def vp:Cp:=⟨28,yK,yy,7,53,bf,fun d=>d.2.2.2.2.2.2.2.1,fun _=>[],fun d=>(d.1,d.2.1,d.2.2.1,d.2.2.2.1,d.2.2.2.2.1,d.2.2.2.2.2.1,d.2.2.2.2.2.2.1,(),d.2.2.2.2.2.2.2.2),fun d=>(ai d.1 d.2.2.2.2.2.2.2.1).length⟩
def Bo:vp.o.D->aN:=(fun d=>{loops:=(fun n=>match n with|2=>some (fun S=>{ι:=Int,μ:=fun i=>(d.2.2.2.2.2.2.2.1.length-i).toNat,inv:=fun i=>0<=i/\i<=d.2.2.2.2.2.2.2.1.length∧∀ x∈d.2.2.2.2.2.2.2.1.take i.toNat,x.1<=d.1,keep:=[0,1],slots:=fun i=>[(5,.int .i64 i)],keepN:=[1048576,2097152],names:=fun i=>[(1572864,.dead),(1572865,.dead),(1572866,.dead),(1572867,.dead),(1572868,.dead),(1572869,.dead),(1572870,.dead)]})|_=>none)})
def dO(k:Bool) :=
 k->(k->k)/\True
theorem xo :
 ∀(a:Int)(b c d e f g:SV)(h:List (Int×Int×List Int))(i:SV),aq a/\True/\True/\True/\True/\True/\True/\(h.length<=maxLen/\ ∀(j:Int×Int×List Int),j∈h->aq j.1/\aq j.2.1/\j.2.2.length<=maxLen/\ ∀(k:Int),k∈j.2.2->0<=k/\k<=255)/\True->True->(∃(j:Int),(0<=j/\j<=(h.length:Int)/\ ∀(k:Int×Int×List Int),k∈List.take j.toNat h->k.1<=a)/\(0:Int)=j/\a=a/\b=b/\c=c/\d=d/\e=e/\f=f/\g=g/\i=i/\h=h/\True)/\ ∀(j:Int),(0<=j/\j<=(h.length:Int)/\ ∀(k:Int×Int×List Int),k∈List.take j.toNat h->k.1<=a)-> ∀(k:Bool),k=decide (j<(h.length:Int))->(dO k)/\(dO k)/\(k->(k->k)/\(k->k)/\0<=j/\j<(h.length:Int)/\True)/\(dO k)/\(dO k)/\(dO k)/\(dO k)/\(dO k)/\(k->(k->k)/\(k->k)/\True)/\(k->k)/\aw (bif k then decide ((h.getD j.toNat default).1<=a) else false) (∃(l:Int),(0<=l/\l<=(h.length:Int)/\ ∀(m:Int×Int×List Int),m∈List.take l.toNat h->m.1<=a)/\Int.toNat ((h.length:Int) -l)<Int.toNat ((h.length:Int)
 -j)/\IntKind.wrap .i64 (j+(1:Int))=l/\a=a/\b=b/\c=c/\d=d/\e=e/\f=f/\g=g/\i=i/\h=h/\True) ((0:Int)<=0/\0<=j/\j<=(h.length:Int)/\0<=j/\j<=(h.length:Int)/\(h.length:Int)<=(h.length:Int)/\Int.toNat (0:Int)=(0:Nat)/\j.toNat -Int.toNat (0:Int)=List.length (ai a h)/\h=h/\j.toNat=List.length (ai a h)/\Int.toNat (h.length:Int) -j.toNat=h.length -List.length (ai a h)/\(a,b,c,d,e,f,g,(),i)=(a,b,c,d,e,f,g,(),i)):=by
  delta dO
  rintro now s0 s1 s2 s3 s4 s5 l s6 ⟨-,-,-,-,-,-,-,⟨hl,-⟩,-⟩ -
  simp only[maxLen] at hl
  refine⟨⟨0,⟨by omega,by omega,by simp⟩,(by repeat' first|exact trivial|refine⟨trivial,?_⟩|refine⟨(by with_reducible rfl),?_⟩|refine⟨ag (by omega) (by omega),?_⟩|refine⟨rfl,?_⟩)⟩,?_⟩
  rintro n ⟨n0,n1,hn⟩
  (repeat (intro (b_:Bool) (hb_:b_=_);(repeat refine⟨(by first|(simp;done)|(rw[hb_];simp;done)|(rw[hb_];simp;omega)|(rw[hb_];simp;intros;omega)|(rw[hb_];simp +contextual;done)),?_⟩);subst hb_))
  refine gZ (fun h1 h2=>?_) (fun h1=>?_)
  ·have h1:=of_decide_eq_true h1
   have h2:=of_decide_eq_true h2
   refine⟨n+1,⟨by omega,by omega,fun x hx=>?_⟩,by omega,(by repeat' first|exact trivial|refine⟨trivial,?_⟩|refine⟨(by with_reducible rfl),?_⟩|refine⟨ag (by omega) (by omega),?_⟩|refine⟨rfl,?_⟩)⟩
   rw[c5 n0 h1] at hx
   rcases List.mem_append.1 hx with hx|hx
   ·exact hn x hx
   ·rw[List.mem_singleton.1 hx];exact h2
  ·have e:=mj n0 n1 hn (h1.imp of_decide_eq_false of_decide_eq_false)
   have e0:Int.toNat 0=0:=rfl
   have hle:n.toNat<=l.length:=by omega
   refine⟨by omega,n0,n1,n0,n1,by omega,rfl,by omega,rfl,e,by omega,rfl⟩
theorem zd:aL Try.prog GL 74 vp.spec:=Cp.okH _ Try.func74 (by kernel_rfl) (mi (mi aW (d:=33)) (d:=39)) aH rfl rfl rfl rfl (fun _=>rfl) Bo (aX (by kernel_rfl) xo)
abbrev we:OT := .pair cI (.pair (.hole 0) (.pair (.hole 1) (.pair (.hole 2) (.pair (.hole 3) (.pair (.hole 4) (.pair (.hole 5) (.pair (.hole 6) (.row 53 bf))))))))
abbrev Ae:OT := .pair cI (.pair (.hole 0) (.pair (.hole 1) (.pair (.hole 2) (.pair (.hole 3) (.pair (.hole 4) (.pair (.hole 5) (.pair (.hole 6) (.rowg 53 bf))))))))
def rz:Cp:=⟨28,we,Ae,8,53,bf,fun d=>d.2.2.2.2.2.2.2.2,fun _=>[],fun d=>(d.1,d.2.1,d.2.2.1,d.2.2.2.1,d.2.2.2.2.1,d.2.2.2.2.2.1,d.2.2.2.2.2.2.1,d.2.2.2.2.2.2.2.1,()),fun d=>(ai d.1 d.2.2.2.2.2.2.2.2).length⟩
def ym:rz.o.D->aN:=(fun d=>{loops:=(fun n=>match n with|2=>some (fun S=>{ι:=Int,μ:=fun i=>(d.2.2.2.2.2.2.2.2.length-i).toNat,inv:=fun i=>0<=i/\i<=d.2.2.2.2.2.2.2.2.length∧∀ x∈d.2.2.2.2.2.2.2.2.take i.toNat,x.1<=d.1,keep:=[0,1],slots:=fun i=>[(5,.int .i64 i)],keepN:=[1048576,2097152],names:=fun i=>[(1572864,.dead),(1572865,.dead),(1572866,.dead),(1572867,.dead),(1572868,.dead),(1572869,.dead),(1572870,.dead)]})|_=>none)})
theorem yP :
 ∀(a:Int)(b c d e f g h:SV)(i:List (Int×Int×List Int)),(aq a/\True/\True/\True/\True/\True/\True/\True/\i.length<=maxLen/\ ∀(j:Int×Int×List Int),j∈i->aq j.1/\aq j.2.1/\j.2.2.length<=maxLen/\ ∀(k:Int),k∈j.2.2->0<=k/\k<=255)->True->(∃(j:Int),(0<=j/\j<=(i.length:Int)/\ ∀(k:Int×Int×List Int),k∈List.take j.toNat i->k.1<=a)/\(0:Int)=j/\a=a/\b=b/\c=c/\d=d/\e=e/\f=f/\g=g/\h=h/\i=i/\True)/\ ∀(j:Int),(0<=j/\j<=(i.length:Int)/\ ∀(k:Int×Int×List Int),k∈List.take j.toNat i->k.1<=a)-> ∀(k:Bool),k=decide (j<(i.length:Int))->(dO k)/\(dO k)/\(k->(k->k)/\(k->k)/\0<=j/\j<(i.length:Int)/\True)/\(dO k)/\(dO k)/\(dO k)/\(dO k)/\(dO k)/\(k->(k->k)/\(k->k)/\True)/\(k->k)/\aw (bif k then decide ((i.getD j.toNat default).1<=a) else false) (∃(l:Int),(0<=l/\l<=(i.length:Int)/\ ∀(m:Int×Int×List Int),m∈List.take l.toNat i->m.1<=a)/\Int.toNat ((i.length:Int) -l)<Int.toNat ((i.length:Int)
 -j)/\IntKind.wrap .i64 (j+(1:Int))=l/\a=a/\b=b/\c=c/\d=d/\e=e/\f=f/\g=g/\h=h/\i=i/\True) ((0:Int)<=0/\0<=j/\j<=(i.length:Int)/\0<=j/\j<=(i.length:Int)/\(i.length:Int)<=(i.length:Int)/\Int.toNat (0:Int)=(0:Nat)/\j.toNat -Int.toNat (0:Int)=List.length (ai a i)/\i=i/\j.toNat=List.length (ai a i)/\Int.toNat (i.length:Int) -j.toNat=i.length -List.length (ai a i)/\(a,b,c,d,e,f,g,h,())=(a,b,c,d,e,f,g,h,())):=by
  delta dO
  rintro now s0 s1 s2 s3 s4 s5 s6 l ⟨-,-,-,-,-,-,-,-,hl,-⟩ -
  simp only[maxLen] at hl
  refine⟨⟨0,⟨by omega,by omega,by simp⟩,(by repeat' first|exact trivial|refine⟨trivial,?_⟩|refine⟨(by with_reducible rfl),?_⟩|refine⟨ag (by omega) (by omega),?_⟩|refine⟨rfl,?_⟩)⟩,?_⟩
  rintro n ⟨n0,n1,hn⟩
  (repeat (intro (b_:Bool) (hb_:b_=_);(repeat refine⟨(by first|(simp;done)|(rw[hb_];simp;done)|(rw[hb_];simp;omega)|(rw[hb_];simp;intros;omega)|(rw[hb_];simp +contextual;done)),?_⟩);subst hb_))
  refine gZ (fun h1 h2=>?_) (fun h1=>?_)
  ·have h1:=of_decide_eq_true h1
   have h2:=of_decide_eq_true h2
   refine⟨n+1,⟨by omega,by omega,fun x hx=>?_⟩,by omega,(by repeat' first|exact trivial|refine⟨trivial,?_⟩|refine⟨(by with_reducible rfl),?_⟩|refine⟨ag (by omega) (by omega),?_⟩|refine⟨rfl,?_⟩)⟩
   rw[c5 n0 h1] at hx
   rcases List.mem_append.1 hx with hx|hx
   ·exact hn x hx
   ·rw[List.mem_singleton.1 hx];exact h2
  ·have e:=mj n0 n1 hn (h1.imp of_decide_eq_false of_decide_eq_false)
   have e0:Int.toNat 0=0:=rfl
   have hle:n.toNat<=l.length:=by omega
   refine⟨by omega,n0,n1,n0,n1,by omega,rfl,by omega,rfl,e,by omega,rfl⟩
theorem AO:aL Try.prog GL 74 rz.spec:=Cp.okH _ Try.func74 (by kernel_rfl) (mi (mi aW (d:=33)) (d:=39)) aH rfl rfl rfl rfl (fun _=>rfl) ym (aX (by kernel_rfl) yP)
end Go.RS

/- Xch3: without faults a channel recovers in time. -/
namespace Go.RS
open Go.SX Go.Proofs
set_option maxRecDepth 100000
set_option linter.unusedVariables false
theorem XI.runs{c:ak}(h:XI c):∀ n:Nat,XI (bh n c)/\ac (bh n c)=ac c+n/\ae (bh n c)=ae c/\aj (bh n c)=aj c/\(aK c).length<=(aK (bh n c)).length/\ay c<=ay (bh n c)/\bm (bh n c)<=bm c+585*n
 | 0=>⟨h,by show ac c=ac c+0;omega,rfl,rfl,Nat.le_refl _,Int.le_refl _,by show bm c<=_;omega⟩
 | n+1=>by
  obtain⟨a,b,d,e,f,g,o⟩:=h.runs n
  rw[gH]
  obtain⟨t1,t2,t3,t4⟩:=a.tick dW dW
  exact⟨t1,by show ac (bh n c)+1=_;omega,d,e,by omega,by omega,by omega⟩
theorem mR(now:Int)(b:List Int)(j:Nat)(o:Int)(l:List af):a8 now b (bd [] j) (o,l)=if l.length<4096 then (o+1,bX l (now+1+0+0,o,b)) else (o,l):=by
 have e:bd [] j=(false,0,0):=by unfold bd;simp
 rw[e]
 unfold a8
 rw[if_neg (by simp)]
 show bv now 0 b 1 0 (o,l)=_
 rw[bv]
 rfl
theorem ls{now:Int}:∀{l:List af},(∀ t∈l,t.1<=now)→∀ m,ai now (l++m)=l++ai now m/\aP now (l++m)=aP now m
 | [],_,m=>⟨rfl,rfl⟩
 | t::r,h,m=>by
  obtain⟨a,b⟩:=ls (l:=r) (fun x hx=>h x (List.mem_cons_of_mem _ hx)) m
  have ht:=h t List.mem_cons_self
  constructor
  ·show List.takeWhile _ (t::(r++m))=_
   rw[List.takeWhile_cons_of_pos (by simpa using ht)]
   exact congrArg (t :: ·) a
  ·show List.dropWhile _ (t::(r++m))=_
   rw[List.dropWhile_cons_of_pos (by simpa using ht)]
   exact b
theorem ky{now:Int}{l:List af}(h:∀ t∈l,t.1<=now):ai now l=l/\aP now l=[]:=by
 obtain⟨a,b⟩:=ls h []
 rw[List.append_nil] at a b
 exact⟨a.trans (List.append_nil l),b⟩
theorem rE{l:List af}{t:af}(h:∀ x∈l,x.1<=t.1):bX l t=l++[t]:=by
 obtain⟨a,b⟩:=ky h
 unfold bX
 show ai t.1 l++t::aP t.1 l=_
 rw[a,b]
def lq(lim:Int)(c:ak):Prop:=(∀ t∈aD c,t.1<=lim∨t.1=ac c+1)∧∀ t∈bk c,t.1<=lim∨t.1=ac c+1
theorem m8{now:Int}{log:List (List Int)}:∀(todo:List Int)(j:Nat){o:Int}{l:List af},∀ t∈(bR now log [] todo j (o,l)).2,t∈l∨t.1=now+1
 | [],j,o,l,t,ht => .inl ht
 | i::r,j,o,l,t,ht=>by
  rw[bR,mR] at ht
  split at ht
  ·rcases m8 r (j+1) t ht with q|q
   ·rcases ic.1 q with rfl|q
    ·exact .inr (by show now+1+0+0=_;omega)
    ·exact .inl q
   ·exact .inr q
  ·exact m8 r (j+1) t ht
theorem x6{c:ak}(h:XI c){up:List aY}(hu:dr up):cF (ac c) (am c up).1 (am c up).2:=by
 unfold am
 split
 ·exact h.up
 ·exact (ny ⟨by omega,by omega⟩ (iE hu 0) h.ord h.up).1
theorem yd{lim:Int}{c:ak}(h:XI c)(hn:lq lim c):lq lim (bc c [] []):=by
 constructor
 ·intro t ht
  have ht:t∈(bR (ac c+1) (ae c) [] (dB c []) 0 ((am c []).1,aP (ac c+1) (aD c))).2:=ht
  rcases m8 _ _ t ht with q|q
  ·obtain⟨a,b⟩:=(kL h.dn).1 q
   rcases hn.1 t a with k|k
   ·exact .inl k
   ·omega
  ·exact .inr q
 ·intro t ht
  have ht:t∈aP (ac c+1) (am c []).2:=ht
  obtain⟨a,b⟩:=(kL (x6 h dW)).1 ht
  have k:t∈bk c∨t.1=ac c+1+1:=by
   unfold am at a
   split at a
   ·exact .inl a
   ·rw[mR] at a
    split at a
    ·rcases ic.1 a with rfl|a
     ·exact .inr (by show ac c+1+1+0+0=_;omega)
     ·exact .inl a
    ·exact .inl a
  rcases k with k|k
  ·rcases hn.2 t k with q|q
   ·exact .inl q
   ·omega
  ·exact .inr k
theorem si{lim:Int}{c:ak}(h:XI c)(hn:lq lim c):∀ n:Nat,lq lim (bh n c)
 | 0=>hn
 | n+1=>by rw[gH];exact yd (h.runs n).1 (si h hn n)
def k7(c:ak):Prop:=(∀ t∈aD c,t.1=ac c+1)∧∀ t∈bk c,t.1=ac c+1
theorem u5{c:ak}(h:XI c){n:Nat}(hn:2000<=n):k7 (bh n c):=by
 have k:=si (lim:=ac c+2000) h ⟨fun t ht=>.inl (h.dn.r t ht).1.2,fun t ht=>.inl (h.up.r t ht).1.2⟩ n
 obtain⟨a,b,-⟩:=h.runs n
 constructor
 ·intro t ht
  have:=(a.dn.r t ht).1.1
  rcases k.1 t ht with q|q
  ·omega
  ·exact q
 ·intro t ht
  have:=(a.up.r t ht).1.1
  rcases k.2 t ht with q|q
  ·omega
  ·exact q
theorem nO{now:Int}{log:List (List Int)}:∀(todo:List Int)(j:Nat){o:Int}{l:List af},l.length+todo.length<=4096 →
  (∀ t∈l,t∈(bR now log [] todo j (o,l)).2)∧∀ i∈todo,∃ t∈(bR now log [] todo j (o,l)).2,t.2.2=bO i (log.getD i.toNat default)
 | [],j,o,l,_=>⟨fun t ht=>ht,fun i hi=>(by cases hi)⟩
 | i::r,j,o,l,h=>by
  rw[List.length_cons] at h
  rw[bR,mR,if_pos (by omega)]
  obtain⟨a,b⟩:=nO r (j+1) (o:=o+1) (l:=bX l (now+1+0+0,o,bO i (log.getD i.toNat default))) (by rw[kD];omega)
  refine⟨fun t ht=>a t (ic.2 (.inr ht)),fun x hx=>?_⟩
  rcases List.mem_cons.1 hx with rfl|hx
  ·exact⟨_,a _ (ic.2 (.inl rfl)),rfl⟩
  ·exact b x hx
def fy(c:ak):af:=(ac c+1+1+0+0,bm c,bp ((aE c).1.length:Int) ((aE c).2.map (·.1)))
theorem mw{c:ak}(h:XI c)(f:k7 c):cZ c []=bk c/\aP (ac c+1) (am c []).2=if aD c≠[]/\(bk c).length<4096 then [fy c] else []:=by
 have hu:∀ t∈bk c,t.1<=ac c+1:=fun t ht=>by rw[f.2 t ht];exact Int.le_refl _
 have hd:ai (ac c+1) (aD c)=aD c:=(ky fun t ht=>by rw[f.1 t ht];exact Int.le_refl _).1
 unfold cZ am
 rw[hd]
 split
 ·rename_i k
  rw[if_neg (fun q=>q.1 k)]
  exact ky hu
 ·rename_i k
  rw[mR]
  split
  ·rename_i q
   rw[if_pos ⟨k,q⟩]
   have e:bX (bk c) (ac c+1+1+0+0,bm c,bp ((aE c).1.length:Int) ((aE c).2.map (·.1)))=bk c++[fy c]:=rE fun x hx=>by
    have:=hu x hx
    show x.1<=ac c+1+1+0+0
    omega
   show ai (ac c+1) (bX _ _)=_/\aP (ac c+1) (bX _ _)=_
   rw[e]
   obtain⟨a,b⟩:=ls hu [fy c]
   have n1:¬ (fy c).1<=ac c+1:=by show ¬ ac c+1+1+0+0<=_;omega
   have a2:ai (ac c+1) [fy c]=[]:=List.takeWhile_cons_of_neg (by simpa using n1)
   have b2:aP (ac c+1) [fy c]=[fy c]:=List.dropWhile_cons_of_neg (by simpa using n1)
   rw[a,b,a2,b2,List.append_nil]
   exact⟨rfl,rfl⟩
  ·rename_i q
   rw[if_neg (fun z=>q z.2)]
   exact ky hu
theorem qa:∀{l:List af}{k:Int},k<=bw k l∧∀ t∈l,aR t.2.2 1<=bw k l
 | [],k=>⟨Int.le_refl _,fun t ht=>(by cases ht)⟩
 | t::r,k=>by
  obtain⟨a,b⟩:=qa (l:=r) (k:=max k (aR t.2.2 1))
  show k<=bw (max k (aR t.2.2 1)) r∧∀ x∈t::r,aR x.2.2 1<=bw (max k (aR t.2.2 1)) r
  refine⟨by omega,fun x hx=>?_⟩
  rcases List.mem_cons.1 hx with rfl|hx
  ·omega
  ·exact b x hx
theorem tJ{log:List (List Int)}{s:List (List Int)×List au}(hl:log.length<=1024){t:af}(h:fq log s t):∀ e∈cu (t.2.2.drop 3),eh s e/\aR t.2.2 1<e:=by
 obtain⟨g,es,e1,hg,-,h4⟩:=h
 intro e he
 by_cases h0:es=[]
 ·rw[e1,sV,h0] at he;cases he
 rw[e1,sV,tr fun x hx=>by have:=(h4 x hx).1;exact⟨by omega,by omega⟩] at he
 have hx:=(h4 e he).1
 rw[e1,qv ⟨by omega,by omega⟩]
 exact⟨(h4 e he).2,hx.1⟩
structure G1 (c:ak):Prop where
 x:XI c
 f:k7 c
 cov:∀ i:Int,ay c<=i->i<(ae c).length->i<ay c+aj c->eh (aK c,aA c) i∨∃ t∈aD c,t.2.2=bO i ((ae c).getD i.toNat default)
 un:(bk c).length<=1
 ua:∀ t∈bk c,aR t.2.2 1=(aK c).length
theorem rL{c:ak}(h:XI c)(up:List aY)(hk:ay c<=av c up):(dB c up).length<=64:=by
 have h1:(dB c up).length<=(dD (av c up) (min ((ae c).length:Int) (av c up+aj c))).length:=List.length_filter_le _ _
 have h2:(dD (av c up) (min ((ae c).length:Int) (av c up+aj c))).length=(min ((ae c).length:Int) (av c up+aj c)-av c up).toNat:=by unfold dD;rw[List.length_map,List.length_range]
 have:=h.win
 omega
theorem mO{c:ak}(f:k7 c):aP (ac c+1) (aD c)=[]/\ai (ac c+1) (aD c)=aD c:=by
 obtain⟨a,b⟩:=ky (now:=ac c+1) (l:=aD c) fun t ht=>by rw[f.1 t ht];exact Int.le_refl _
 exact⟨b,a⟩
theorem qz{c:ak}(h:XI c)(f:k7 c):G1 (bc c [] []):=by
 obtain⟨k1,k2,k3,-⟩:=h.tick dW dW
 obtain⟨u1,u2⟩:=mw h f
 obtain⟨f1,f2⟩:=mO f
 have hlog:=h.log
 have hwin:=h.win
 have hkn:=h.kn
 obtain⟨r1,r2,r3,r4⟩:=iO h.log (l:=ai (ac c+1) (aD c)) h.rc fun t ht=>h.dd t (iS ht).1
 have hT:=rL h [] k3
 have eD:aD (bc c [] [])=(bR (ac c+1) (ae c) [] (dB c []) 0 ((am c []).1,[])).2:=by
  show (bR _ _ _ _ _ ((am c []).1,aP (ac c+1) (aD c))).2=_
  rw[f1]
 have eU:bk (bc c [] [])=if aD c≠[]/\(bk c).length<4096 then [fy c] else []:=u2
 obtain⟨-,sall⟩:=nO (now:=ac c+1) (log:=ae c) (dB c []) 0 (o:=(am c []).1) (l:=[]) (by simp;omega)
 have hgl:=k1.rc.n
 have hgl:(aE c).1.length<=(ae c).length:=hgl
 refine⟨k1,⟨fun t ht=>?_,fun t ht=>?_⟩,fun i i0 i1 i2=>?_,?_,fun t ht=>?_⟩
 ·rw[eD] at ht
  rcases m8 _ _ t ht with q|q
  ·cases q
  ·exact q
 ·rw[eU] at ht
  split at ht
  ·rw[List.mem_singleton.1 ht];show ac c+1+1+0+0=ac c+1+1;omega
  ·cases ht
 ·by_cases hn:i∈bF (cZ c [])
  ·left
   unfold bF at hn
   obtain⟨t,ht,hi⟩:=List.mem_flatMap.1 hn
   rw[u1] at ht
   exact r3 i (tJ hlog (h.ud t ht) i hi).1
  ·right
   rw[eD]
   refine sall i (List.mem_filter.2 ⟨mem_range.2 ⟨i0,?_⟩,?_⟩)
   ·have i1:i<(ae c).length:=i1
    have i2:i<av c []+aj c:=i2
    omega
   ·simpa using hn
 ·rw[eU];split <;> simp
 ·rw[eU] at ht
  split at ht
  ·rw[List.mem_singleton.1 ht]
   show aR (bp ((aE c).1.length:Int) ((aE c).2.map (·.1))) 1=((aE c).1.length:Int)
   exact qv ⟨by omega,by omega⟩ _
  ·cases ht
theorem G1.busy{c:ak}(h:G1 c)(hk:ay (bc c [] [])<(ae c).length):aD (bc c [] [])≠[]:=by
 obtain⟨k1,k2,k3,-⟩:=h.x.tick dW dW
 obtain⟨u1,-⟩:=mw h.x h.f
 obtain⟨f1,f2⟩:=mO h.f
 have hT:=rL h.x [] k3
 have hwin:=h.x.win
 have hg:=qa (l:=bk c) (k:=ay c)
 have eK:av c []=bw (ay c) (bk c):=by unfold av;rw[u1]
 have hk:av c []<(ae c).length:=hk
 obtain⟨-,sall⟩:=nO (now:=ac c+1) (log:=ae c) (dB c []) 0 (o:=(am c []).1) (l:=[]) (by simp;omega)
 have hm:av c []∈dB c []:=by
  refine List.mem_filter.2 ⟨mem_range.2 ⟨Int.le_refl _,by omega⟩,?_⟩
  have hn:av c [] ∉ bF (cZ c []):=by
   intro hn
   unfold bF at hn
   obtain⟨t,ht,hi⟩:=List.mem_flatMap.1 hn
   rw[u1] at ht
   have h1:=(tJ h.x.log (h.x.ud t ht) _ hi).2
   have e1:bk c=[t]:=by
    have:=h.un
    match hU:bk c,ht with
    | [a],ht=>rw[List.mem_singleton.1 ht]
    | a::b::r,_=>rw[hU] at this;simp at this
   have e2:av c []=max (ay c) (aR t.2.2 1):=by rw[eK,e1];rfl
   have e3:=h.ua t ht
   have e4:=h.x.kn
   omega
  simpa using hn
 obtain⟨t,ht,-⟩:=sall _ hm
 have eD:aD (bc c [] [])=(bR (ac c+1) (ae c) [] (dB c []) 0 ((am c []).1,[])).2:=by
  show (bR _ _ _ _ _ ((am c []).1,aP (ac c+1) (aD c))).2=_
  rw[f1]
 rw[eD]
 intro e
 rw[e] at ht
 cases ht
theorem G1.got{c:ak}(h:G1 c):min ((ae c).length:Int) (ay c+aj c)<=(aK (bc c [] [])).length:=by
 obtain⟨k1,k2,k3,-⟩:=h.x.tick dW dW
 obtain⟨f1,f2⟩:=mO h.f
 obtain⟨r1,r2,r3,r4⟩:=iO h.x.log (l:=ai (ac c+1) (aD c)) h.x.rc fun t ht=>h.x.dd t (iS ht).1
 rw[f2] at r1 r2 r3 r4
 have eG:aE c=bS (ay c+aj c) (aD c) (aK c,aA c):=by unfold aE;rw[f2]
 rw[← eG] at r1 r2 r3 r4
 have hlog:=h.x.log
 have hkn:=h.x.kn
 show _<=((aE c).1.length:Int)
 have r2:(aK c).length<=(aE c).1.length:=r2
 by_cases hh:min ((ae c).length:Int) (ay c+aj c)<=((aE c).1.length:Int)
 ·exact hh
 exfalso
 have cov:eh (aE c) ((aE c).1.length:Int):=by
  rcases h.cov ((aE c).1.length:Int) (by omega) (by omega) (by omega) with q|⟨t,ht,q⟩
  ·exact r3 _ q
  ·have em:aR t.2.2 1=((aE c).1.length:Int):=by rw[q];exact ve ⟨by omega,by omega⟩ _
   have:=r4 t ht (by omega)
   rw[em] at this
   exact this
 rcases cov with q|⟨x,hx,q⟩
 ·omega
 ·have:=(r1.e.r x hx).1.1
  omega
theorem G1.two{b:ak}(hb:G1 b):min ((ae b).length:Int) (ay (bc b [] [])+aj b)<=ay (bc (bc (bc b [] []) [] []) [] []):=by
 have hc:G1 (bc b [] []):=qz hb.x hb.f
 have hc2:G1 (bc (bc b [] []) [] []):=qz hc.x hc.f
 obtain⟨-,-,m1,-⟩:=hc.x.tick dW dW
 obtain⟨-,-,m2,-⟩:=hc2.x.tick dW dW
 by_cases hk:ay (bc b [] [])<(ae b).length
 ·have hd:=hb.busy hk
  have hg:=hc.got
  have eL:ae (bc b [] [])=ae b:=rfl
  have eW:aj (bc b [] [])=aj b:=rfl
  rw[← eL,← eW]
  clear eL eW
  generalize bc b [] []=c at *
  have hl:(bk c).length<4096:=by have:=hc.un;omega
  obtain⟨-,u2⟩:=mw hc.x hc.f
  rw[if_pos ⟨hd,hl⟩] at u2
  have eU:bk (bc c [] [])=[fy c]:=u2
  obtain⟨v1,-⟩:=mw hc2.x hc2.f
  have eK:ay (bc (bc c [] []) [] [])=bw (ay (bc c [] [])) (bk (bc c [] [])):=by
   show bw (ay (bc c [] [])) (cZ (bc c [] []) [])=_
   rw[v1]
  have h1:=(qa (l:=bk (bc c [] [])) (k:=ay (bc c [] []))).2 (fy c) (by rw[eU];exact List.mem_singleton.2 rfl)
  have h2:=hc2.ua (fy c) (by rw[eU];exact List.mem_singleton.2 rfl)
  rw[← eK] at h1
  omega
 ·omega
theorem Ag{c:ak}(h:XI c)(k:Nat):G1 (bh (2001+k) c):=by
 have f:=u5 h (n:=2000+k) (by omega)
 have e:bh (2001+k) c=bc (bh (2000+k) c) [] []:=by rw[show 2001+k=(2000+k)+1 by omega,gH]
 rw[e]
 exact qz (h.runs _).1 f
theorem sI{c:ak}(h:XI c):∀ m:Nat,min ((ae c).length:Int) ((m:Int)*aj c)<=ay (bh (2002+2*m) c)
 | 0=>by
  have:=(h.runs 2002).1.kn.1
  show min _ (0*aj c)<=ay (bh 2002 c)
  rw[Int.zero_mul];omega
 | m+1=>by
  have ih:=sI h m
  have t:=(Ag h (2*m)).two
  obtain⟨-,-,eL,eW,-⟩:=h.runs (2001+2*m)
  rw[eL,eW,← gH,← gH,← gH] at t
  rw[show 2001+2*m+1=2002+2*m by omega,show 2002+2*m+1+1=2002+2*(m+1) by omega] at t
  have e:((m+1:Nat):Int)*aj c=(m:Int)*aj c+aj c:=by rw[Int.natCast_succ,Int.add_mul,Int.one_mul]
  rw[e]
  generalize (m:Int)*aj c=z at *
  have:=h.win
  omega
theorem nH{c:ak}(h:XI c){n m:Nat}(hm:((ae c).length:Int)<=(m:Int)*aj c)(hn:2002+2*m<=n) :
  jj (bh n c)=true/\aD (bh n c)=[]/\aK (bh n c)=ae (bh n c):=by
 have g:=sI h m
 obtain⟨a,-,eL,eW,-⟩:=h.runs (2002+2*m)
 obtain⟨b,-,eL2,eW2,-,b6,-⟩:=a.runs (n-(2002+2*m))
 rw[nZ,show 2002+2*m+(n-(2002+2*m))=n by omega] at b eL2 eW2 b6
 have b1:=b.kn
 have b2:(aK (bh n c)).length<=(ae (bh n c)).length:=b.rc.n
 have eLn:(ae (bh n c)).length=(ae c).length:=by rw[eL2,eL]
 have hK:ay (bh n c)=(ae (bh n c)).length:=by omega
 have hG:(aK (bh n c)).length=(ae (bh n c)).length:=by omega
 refine⟨?_,?_,?_⟩
 ·unfold jj
  rw[decide_eq_true hG,decide_eq_true hK];rfl
 ·have en:bh n c=bc (bh (n-1) c) [] []:=by rw[← gH,show n-1+1=n by omega]
  have f:=u5 h (n:=n-1) (by omega)
  rw[en] at hK ⊢
  have f1:=(mO f).1
  generalize bh (n-1) c=v at *
  have hK:av v []=(ae v).length:=hK
  have eT:dB v []=[]:=by
   unfold dB
   rw[hK,List.filter_eq_nil_iff.2]
   intro i hi
   have:=mem_range.1 hi
   omega
  show (bR (ac v+1) (ae v) [] (dB v []) 0 ((am v []).1,aP (ac v+1) (aD v))).2=[]
  rw[eT,f1];rfl
 ·have g:=b.rc.g
  have g:aK (bh n c)=(ae (bh n c)).take (aK (bh n c)).length:=g
  rw[g,hG,List.take_length]
end Go.RS

/- Xdef: what the functions of an exchange answer. -/
namespace Go.RS
open Go.SX Go.Proofs
set_option maxRecDepth 100000
set_option linter.unusedVariables false
def dj(w:Int):Int:=if w<1∨64<w then 1 else 0
def lT:ak:=(0,0,0,[],0,[],[],[],[])
def fg(w:Int):ak:=if dj w=0 then e6 w else lT
def hM(n w:Int):Int:=if n<0∨1024<n∨w<1∨64<w then 0 else 4*(n/w+2)+2000
def c8(c:ak)(it:List Int):Int:=if 1024<=(ae c).length∨(6000:Int)<it.length then 5 else 0
def fu(c:ak)(it:List Int):ak:=if c8 c it=0 then gG c it else lT
def cR(f:aY):Bool:=decide (0<=f.2.1/\f.2.1<=1000/\0<=f.2.2/\f.2.2<=8)
def fQ(l:List aY):Bool:=l.all cR
theorem nw{l:List aY}:fQ l=true↔dr l:=by
 unfold fQ dr
 rw[List.all_eq_true]
 constructor
 ·intro h f hf
  have:=h f hf
  unfold cR at this
  have:=of_decide_eq_true this
  exact⟨⟨this.1,this.2.1⟩,this.2.2⟩
 ·intro h f hf
  have:=h f hf
  exact decide_eq_true ⟨this.1.1,this.1.2,this.2⟩
def ec(c:ak)(ds us:List aY):Int:=if (fQ ds&&fQ us)=false then 1 else if 1099511627776<=ac c then 5 else 0
def iD(c:ak)(ds us:List aY):ak:=if ec c ds us=0 then bc c ds us else lT
def dw(c:ak)(n:Int):Int:=if n<0∨100000<n then 1 else if 0<n/\1099511627776<ac c+n then 5 else 0
def fG(c:ak)(n:Int):ak:=if dw c n=0 then bh n.toNat c else lT
def XR(c:ak):Prop:=XI c/\bm c<=585*ac c
theorem XR.tick{c:ak}(h:XR c){ds us:List aY}(hd:dr ds)(hu:dr us):XR (bc c ds us):=by
 obtain⟨h1,h2⟩:=h
 obtain⟨k1,-,-,k2⟩:=h1.tick hd hu
 refine⟨k1,?_⟩
 show _<=585*(ac c+1)
 omega
theorem XR.push{c:ak}(h:XR c){it:List Int}(hl:(ae c).length<1024)(hi:(it.length:Int)<=6000):XR (gG c it):=⟨h.1.push hl hi,h.2⟩
theorem XR.new{w:Int}(h0:1<=w)(h1:w<=64):XR (e6 w):=⟨XI.new h0 h1,by show (0:Int)<=585*0;omega⟩
theorem XR.runs{c:ak}(h:XR c)(n:Nat):XR (bh n c):=by
 obtain⟨k1,k2,-,-,-,-,k3⟩:=h.1.runs n
 have h2:=h.2
 exact⟨k1,by omega⟩
end Go.RS

/- Xw3: the program's exchange: what arrives at the receiver and at the sender; a tick. -/
namespace Go.RS
open Go.SX Go.Proofs
set_option maxRecDepth 100000
set_option linter.unusedVariables false
abbrev xm:OT := .pair cI (.pair cI (.pair cI (.pair (.hole 0) (.pair cI (.pair (.row 22 (.sl aV)) (.pair (.row 51 dU) (.pair (.row 53 bf) (.row 53 bf))))))))
def bg(now lim:Int)(dn:List af)(g:List (List Int))(e:List au):List (List Int)×List au:=bS lim (ai now dn) (g,e)
def gX(now ord:Int)(G:List (List Int)×List au)(dn up:List af)(fs:List aY):Int×List af:=if ai now dn=[] then (ord,up) else a8 now (bp (G.1.length:Int) (G.2.map (·.1))) (bd fs 0) (ord,up)
structure lu (now ord win kn:Int) (g:List (List Int)) (e:List au) (dn up:List af) (fs:List aY) (log:List (List Int)):Prop where
 rc:gC log (kn+win) (g,e)
 ln:log.length<=1024
 it:∀ b∈log,(b.length:Int)<=6000
 dd:∀ t∈dn,jd log t
 kn:0<=kn/\kn<=1024
 wn:1<=win/\win<=64
 so:ct now ord up
 oo:ord<=900000000000000
 ff:fv (bd fs 0)
 dl:dn.length<=4096
theorem lH(now:Int)(l:List af):(ai now l).length<=l.length/\l.drop (ai now l).length=aP now l/\(∀ k:Nat,k<(ai now l).length->l.getD k default=(ai now l).getD k default)∧∀ t∈ai now l,t∈l:=by
 have e:ai now l++aP now l=l:=List.takeWhile_append_dropWhile
 generalize ai now l=A at *
 generalize aP now l=B at *
 subst e
 refine⟨by rw[List.length_append];omega,List.drop_left,fun k hk=>?_,fun t ht=>List.mem_append_left _ ht⟩
 rw[List.getD_eq_getElem?_getD,List.getD_eq_getElem?_getD,List.getElem?_append_left hk]
theorem qE:∀{l:List au}{lo hi:Int},l.Pairwise (fun a b=>a.1<b.1)->(∀ x∈l,lo<=x.1/\x.1<hi)->(l.length:Int)<=max 0 (hi-lo)
 | [],lo,hi,_,_=>by simp;omega
 | x::r,lo,hi,hs,hb=>by
  obtain⟨s1,s2⟩:=List.pairwise_cons.1 hs
  have hx:=hb x List.mem_cons_self
  have:=qE (l:=r) (lo:=x.1+1) (hi:=hi) s2 fun y hy=>⟨by have:=s1 y hy;omega,(hb y (List.mem_cons_of_mem _ hy)).2⟩
  rw[List.length_cons];omega
theorem n9{log:List (List Int)}{kn win:Int}{g:List (List Int)}{e:List au}(h:gC log (kn+win) (g,e))(hl:log.length<=1024)(hk:0<=kn/\kn<=1024)(hw:1<=win/\win<=64):mY kn win g e/\g.length<=1024/\e.length<=1024∧∀ x∈e,0<=x.1/\x.1<1024:=by
 have h1:g.length<=log.length:=h.n
 have h2:e.Pairwise fun a b=>a.1<b.1:=h.e.s
 have hr:∀ x∈e,0<=x.1/\x.1<1024:=fun x hx=>by
  obtain⟨⟨k1,k2⟩,-⟩:=h.e.r x hx
  have k1:(g.length:Int)<x.1:=k1
  omega
 have h3:=qE (lo:=0) (hi:=1024) h2 hr
 have h3:(e.length:Int)<=1024:=by omega
 exact⟨⟨by omega,by omega,by omega,by omega,h2⟩,by omega,by omega,hr⟩
theorem nT{log:List (List Int)}{t:af}(h:jd log t)(hi:∀ b∈log,(b.length:Int)<=6000):3<=t.2.2.length/\(t.2.2.length:Int)<=6003:=by
 obtain⟨i,h1,h2⟩:=h
 have h3:=hi _ (cy (xs:=log) h1.1 h1.2)
 rw[h2,pe];omega
theorem sO(lim:Int)(l:List af)(t:af)(s:List (List Int)×List au):bS lim (l++[t]) s=bY lim (bS lim l s) (aR t.2.2 1) (t.2.2.drop 3):=by
 unfold bS;rw[List.foldl_append];rfl
theorem tw:∀(es:List Int)(i:Int),dY (es++[i])=dY es++b8 i 2 2
 | [],i=>by simp[dY]
 | a::r,i=>by rw[List.cons_append,dY,dY,tw r i,List.append_assoc]
theorem sA(g:Int)(es:List Int)(i:Int):bp g es++b8 i 2 2=bp g (es++[i]):=by
 unfold bp;rw[tw,List.cons_append,List.append_assoc]
def vu:Ct:=⟨[.box 28 xm,.val (.sl ep)],[],fun d=>[∃ log,lu d.1.1 d.1.2.1 d.1.2.2.1 d.1.2.2.2.2.1 d.1.2.2.2.2.2.1 d.1.2.2.2.2.2.2.1 d.1.2.2.2.2.2.2.2.1 d.1.2.2.2.2.2.2.2.2 d.2.1 log],fun d=>((),((d.1.1,(gX d.1.1 d.1.2.1 (bg d.1.1 (d.1.2.2.2.2.1+d.1.2.2.1) d.1.2.2.2.2.2.2.2.1 d.1.2.2.2.2.2.1 d.1.2.2.2.2.2.2.1) d.1.2.2.2.2.2.2.2.1 d.1.2.2.2.2.2.2.2.2 d.2.1).1,d.1.2.2.1,d.1.2.2.2.1,d.1.2.2.2.2.1,(bg d.1.1 (d.1.2.2.2.2.1+d.1.2.2.1) d.1.2.2.2.2.2.2.2.1 d.1.2.2.2.2.2.1 d.1.2.2.2.2.2.2.1).1,(bg d.1.1 (d.1.2.2.2.2.1+d.1.2.2.1) d.1.2.2.2.2.2.2.2.1 d.1.2.2.2.2.2.1 d.1.2.2.2.2.2.2.1).2,aP d.1.1 d.1.2.2.2.2.2.2.2.1,(gX d.1.1 d.1.2.1 (bg d.1.1 (d.1.2.2.2.2.1+d.1.2.2.1) d.1.2.2.2.2.2.2.2.1 d.1.2.2.2.2.2.1 d.1.2.2.2.2.2.2.1) d.1.2.2.2.2.2.2.2.1 d.1.2.2.2.2.2.2.2.2 d.2.1).2),()))⟩
def yh:aG vu.ps->aN:=(fun d=>{loops:=(fun n=>match n with|2=>some (fun S=>{ι:=Int×(List (List Int))×(List au),qn:=⟨fun k_=>∀(j:Int)(g:(List (List Int)))(e:(List au)),k_ (j,g,e),fun k_ h_ i=>h_ i.1 i.2.1 i.2.2,fun k_=>∃ (j:Int) (g:(List (List Int))) (e:(List au)),k_ (j,g,e),fun k_ ⟨j,g,e,h_⟩=>⟨_,h_⟩⟩,μ:=fun i=>((ai d.1.1 d.1.2.2.2.2.2.2.2.1).length-i.1).toNat,inv:=fun i=>0<=i.1/\i.1<=(ai d.1.1 d.1.2.2.2.2.2.2.2.1).length/\(i.2.1,i.2.2)=bS (d.1.2.2.2.2.1+d.1.2.2.1) ((ai d.1.1 d.1.2.2.2.2.2.2.2.1).take i.1.toNat) (d.1.2.2.2.2.2.1,d.1.2.2.2.2.2.2.1),keep:=[0,1,4,15,16],slots:=fun i=>[(17,.int .i64 i.1)],keepN:=[240,2097155],names:=fun i=>[(1048576,.live (.cells 28 [.int .i64 d.1.1,.int .i64 d.1.2.1,.int .i64 d.1.2.2.1,.hv 1572864 d.1.2.2.2.1,.int .i64 d.1.2.2.2.2.1,.own 524288 1,.own 524289 2,.part 240 3 (ai d.1.1 d.1.2.2.2.2.2.2.2.1).length (d.1.2.2.2.2.2.2.2.1.length-(ai d.1.1 d.1.2.2.2.2.2.2.2.1).length),.own 2097155 3])),(524288,.live (.row 22 (.sl aV) i.2.1)),(524289,.live (.row 51 dU i.2.2)),(1572864,.dead)]})|9=>some (fun S=>{ι:=Int×(List Int),qn:=⟨fun k_=>∀(j:Int)(b:(List Int)),k_ (j,b),fun k_ h_ i=>h_ i.1 i.2,fun k_=>∃ (j:Int) (b:(List Int)),k_ (j,b),fun k_ ⟨j,b,h_⟩=>⟨_,h_⟩⟩,μ:=fun i=>((bg d.1.1 (d.1.2.2.2.2.1+d.1.2.2.1) d.1.2.2.2.2.2.2.2.1 d.1.2.2.2.2.2.1 d.1.2.2.2.2.2.2.1).2.length-i.1).toNat,inv:=fun i=>0<=i.1/\i.1<=(bg d.1.1 (d.1.2.2.2.2.1+d.1.2.2.1) d.1.2.2.2.2.2.2.2.1 d.1.2.2.2.2.2.1 d.1.2.2.2.2.2.2.1).2.length/\i.2=bp ((bg d.1.1 (d.1.2.2.2.2.1+d.1.2.2.1) d.1.2.2.2.2.2.2.2.1 d.1.2.2.2.2.2.1 d.1.2.2.2.2.2.2.1).1.length:Int) (((bg d.1.1 (d.1.2.2.2.2.1+d.1.2.2.1) d.1.2.2.2.2.2.2.2.1 d.1.2.2.2.2.2.1 d.1.2.2.2.2.2.2.1).2.map (·.1)).take i.1.toNat),keep:=[0,1,45,46],slots:=fun i=>[(47,.int .i64 i.1),(7,.own 524290 1)],keepN:=[1048576,524288,524289,544,2097155],names:=fun i=>[(524290,.live (.row 5 aV i.2)),(1572864,.dead)]})|_=>none)})
def kj(h:List (Int×Int×List Int))(k:Int) :=
 ((List.length (h.getD ((0:Nat)+k.toNat) default).2.2):Int)
def c6(a:Int)(h:List (Int×Int×List Int)) :=
 List.length (ai a h)
def mD(h:List (Int×Int×List Int))(k:Int) :=
 a7 (h.getD ((0:Nat)+k.toNat) default).2.2 (Int.toNat (3:Int)) (Int.toNat (kj h k))
theorem xi :
 ∀(a b c:Int)(d:SV)(e:Int)(f:List (List Int))(g:List (Int×List Int))(h i:List (Int×Int×List Int))(j:List (Bool×Int×Int)),(aq a/\aq b/\aq c/\True/\aq e/\(f.length<=maxLen/\ ∀(k:List Int),k∈f->k.length<=maxLen/\ ∀(l:Int),l∈k->0<=l/\l<=255)/\(g.length<=maxLen/\ ∀(k:Int×List Int),k∈g->aq k.1/\k.2.length<=maxLen/\ ∀(l:Int),l∈k.2->0<=l/\l<=255)/\(h.length<=maxLen/\ ∀(k:Int×Int×List Int),k∈h->aq k.1/\aq k.2.1/\k.2.2.length<=maxLen/\ ∀(l:Int),l∈k.2.2->0<=l/\l<=255)/\i.length<=maxLen/\ ∀(k:Int×Int×List Int),k∈i->aq k.1/\aq k.2.1/\k.2.2.length<=maxLen/\ ∀(l:Int),l∈k.2.2->0<=l/\l<=255)/\(j.length<=maxLen/\ ∀(k:Bool×Int×Int),k∈j->True/\aq k.2.1/\aq k.2.2)/\True->(∃(k:List (List Int)),lu a b c e f g h i j k)->(∃(k:Int) (l:List (List Int)),∃(m:List au),(0<=k/\k<=((c6 a h):Int)/\(l,m)=bS (e+c) (List.take k.toNat (ai a h)) (f,g))/\j=j/\(0:Nat)=(0:Nat)/\List.length (ai a
 h)=List.length (ai a h)/\(0:Nat)=(0:Nat)/\List.length (ai a h)=List.length (ai a h)/\((c6 a h):Int)=((c6 a h):Int)/\(0:Int)=k/\h=h/\i=i/\a=a/\b=b/\c=c/\d=d/\e=e/\List.length (ai a h)=List.length (ai a h)/\h.length -List.length (ai a h)=h.length -List.length (ai a h)/\f=l/\g=m/\True)/\ ∀(k:Int)(l:List (List Int))(m:List au),0<=k/\k<=((c6 a h):Int)/\(l,m)=bS (e+c) (List.take k.toNat (ai a h)) (f,g)->aw (decide (k<((c6 a h):Int))) (0<=k/\k<((c6 a h):Int)/\(kj h k)<=9223372036854775807/\(0:Int)<=3/\3<=(kj h k)/\(kj h k)<=(kj h k)/\((List.length (mD h k)):Int)<=1099511627776/\mY e c l m/\ ∃(n:Int) (o:List (List Int)),∃(p:List au),(0<=n/\n<=((c6 a h):Int)/\(o,p)=bS (e+c) (List.take n.toNat (ai a h)) (f,g))/\Int.toNat (((c6 a h):Int) -n)<Int.toNat (((c6 a h):Int) -k)/\j=j/\(0:Nat)=(0:Nat)/\List.length (ai a h)=List.length (ai a
 h)/\(0:Nat)=(0:Nat)/\List.length (ai a h)=List.length (ai a h)/\((c6 a h):Int)=((c6 a h):Int)/\IntKind.wrap .i64 (k+(1:Int))=n/\h=h/\i=i/\a=a/\b=b/\c=c/\d=d/\e=e/\List.length (ai a h)=List.length (ai a h)/\h.length -List.length (ai a h)=h.length -List.length (ai a h)/\(bY (e+c) (l,m) (aR (h.getD ((0:Nat)+k.toNat) default).2.2 (1:Int)) (mD h k)).1=o/\(bY (e+c) (l,m) (aR (h.getD ((0:Nat)+k.toNat) default).2.2 (1:Int)) (mD h k)).2=p/\True) (List.length (ai a h)+(h.length -List.length (ai a h))=h.length/\aw (decide (((c6 a h):Int)=0)) ((a,b,c,d,e,l,m,List.drop (c6 a h) h,i)=(a,(gX a b (bg a (e+c) h f g) h i j).1,c,d,e,(bg a (e+c) h f g).1,(bg a (e+c) h f g).2,aP a h,(gX a b (bg a (e+c) h f g) h i j).2)) (0<=(l.length:Int)/\(List.length [(65:Int)]+List.length (b8 (l.length:Int) (2:Nat) (2:Nat)))*(1:Nat)<=(140737488355328:Nat)/\(∃(n:Int)
 (o:List Int),(0<=n/\n<=((List.length (bg a (e+c) h f g).2):Int)/\o=bp ((List.length (bg a (e+c) h f g).1):Int) (List.take n.toNat (List.map (fun (p:au)=>p.1) (bg a (e+c) h f g).2)))/\j=j/\(m.length:Int)=(m.length:Int)/\(0:Int)=n/\a=a/\b=b/\c=c/\d=d/\e=e/\l=l/\m=m/\List.drop (c6 a h) h=List.drop (c6 a h) h/\i=i/\[(65:Int)]++b8 (l.length:Int) (2:Nat) (2:Nat)=o/\True)/\ ∀(n:Int)(o:List Int),0<=n/\n<=((List.length (bg a (e+c) h f g).2):Int)/\o=bp ((List.length (bg a (e+c) h f g).1):Int) (List.take n.toNat (List.map (fun (p:au)=>p.1) (bg a (e+c) h f g).2))->aw (decide (n<(m.length:Int))) (0<=n/\n<(m.length:Int)/\0<=(m.getD n.toNat default).1/\(o.length+List.length (b8 (m.getD n.toNat default).1 (2:Nat) (2:Nat)))*(1:Nat)<=(140737488355328:Nat)/\ ∃(p:Int) (q:List Int),(0<=p/\p<=((List.length (bg a (e+c) h f g).2):Int)/\q=bp ((List.length (bg a (e+c) h f g).1):Int)
 (List.take p.toNat (List.map (fun (r:au)=>r.1) (bg a (e+c) h f g).2)))/\Int.toNat (((List.length (bg a (e+c) h f g).2):Int) -p)<Int.toNat (((List.length (bg a (e+c) h f g).2):Int) -n)/\j=j/\(m.length:Int)=(m.length:Int)/\IntKind.wrap .i64 (n+(1:Int))=p/\a=a/\b=b/\c=c/\d=d/\e=e/\l=l/\m=m/\List.drop (c6 a h) h=List.drop (c6 a h) h/\i=i/\o++b8 (m.getD n.toNat default).1 (2:Nat) (2:Nat)=q/\True) (ct a b i/\b<=900000000000000/\fv (bd j (Int.toNat (0:Int)))/\(0:Int)<=0/\(o.length:Int)<=1000000/\(a,(a8 a o (bd j (Int.toNat (0:Int))) (b,i)).1,c,d,e,l,m,List.drop (c6 a h) h,(a8 a o (bd j (Int.toNat (0:Int))) (b,i)).2)=(a,(gX a b (bg a (e+c) h f g) h i j).1,c,d,e,(bg a (e+c) h f g).1,(bg a (e+c) h f g).2,aP a h,(gX a b (bg a (e+c) h f g) h i j).2)))):=by
  delta kj c6 mD
  rintro now ord win s kn got ear dn up fs-⟨log,h⟩
  obtain⟨q1,q2,q3,q4⟩:=lH now dn
  have hln:=h.ln
  have hdl:=h.dl
  have hso:=h.so
  obtain⟨-,-,-,-,hup⟩:=hso
  have eG:bg now (kn+win) dn got ear=bS (kn+win) (ai now dn) (got,ear):=rfl
  have eU:gX now ord (bg now (kn+win) dn got ear) dn up fs=if ai now dn=[] then (ord,up) else a8 now (bp ((bg now (kn+win) dn got ear).1.length:Int) ((bg now (kn+win) dn got ear).2.map (·.1))) (bd fs 0) (ord,up):=rfl
  rw[eU,← q2,eG]
  clear eU eG
  have hd:∀ t∈ai now dn,jd log t:=fun t ht=>h.dd t (q4 t ht)
  generalize ai now dn=L at *
  have hst:∀ n:Nat,∀(g:List (List Int))(e:List au),(g,e)=bS (kn+win) (L.take n) (got,ear)->mY kn win g e/\g.length<=1024/\e.length<=1024∧∀ x∈e,0<=x.1/\x.1<1024:=fun n g e he=>by
   obtain⟨k1,-⟩:=iO hln (l:=L.take n) h.rc fun t ht=>hd t (List.mem_of_mem_take ht)
   rw[← he] at k1
   exact n9 k1 hln h.kn h.wn
  refine⟨⟨0,got,ear,⟨by omega,by omega,rfl⟩,(by repeat' first|exact trivial|refine⟨trivial,?_⟩|refine⟨(by with_reducible rfl),?_⟩|refine⟨ag (by omega) (by omega),?_⟩|refine⟨rfl,?_⟩)⟩,?_⟩
  rintro j g e ⟨j0,j1,he⟩
  obtain⟨t1,t2,t3,t4⟩:=hst _ _ _ he
  refine aJ (fun hj=>?_) (fun hj=>?_)
  ·have hj:=of_decide_eq_true hj
   have ed:dn.getD (0+j.toNat) default=L.getD j.toNat default:=by rw[Nat.zero_add];exact q3 _ (by omega)
   have hmem:=cy (xs:=L) j0 hj
   rw[ed]
   obtain⟨d1,d2⟩:=nT (hd _ hmem) h.it
   have ht:=c5 (l:=L) j0 hj
   generalize L.getD j.toNat default=T at *
   have es:a7 T.2.2 (Int.toNat 3) (Int.toNat (T.2.2.length:Int))=T.2.2.drop 3:=by
    unfold a7;rw[Int.toNat_natCast,List.take_length];rfl
   rw[es]
   refine⟨j0,by omega,by omega,by omega,by omega,by omega,by rw[List.length_drop];omega,t1,j+1,(bY (kn+win) (g,e) (aR T.2.2 1) (T.2.2.drop 3)).1,(bY (kn+win) (g,e) (aR T.2.2 1) (T.2.2.drop 3)).2,⟨by omega,by omega,?_⟩,by omega,(by repeat' first|exact trivial|refine⟨trivial,?_⟩|refine⟨(by with_reducible rfl),?_⟩|refine⟨ag (by omega) (by omega),?_⟩|refine⟨rfl,?_⟩)⟩
   rw[ht,sO,← he]
  ·have hj:=of_decide_eq_false hj
   have ej:j.toNat=L.length:=by omega
   rw[ej,List.take_length] at he
   rw[← he]
   refine⟨by omega,aJ (fun hz=>?_) (fun hz=>?_)⟩
   ·have hz:=of_decide_eq_true hz
    rw[if_pos (List.eq_nil_of_length_eq_zero (by omega))]
   ·have hz:=of_decide_eq_false hz
    rw[if_neg (fun hL=>hz (by rw[hL];rfl))]
    refine⟨by omega,by rw[jf];simp only[List.length_singleton];omega,⟨0,bp (g.length:Int) [],⟨by omega,by omega,by simp⟩,?_⟩,?_⟩
    ·(repeat first|refine⟨trivial,?_⟩|refine⟨(by with_reducible rfl),?_⟩|refine⟨ag (by omega) (by omega),?_⟩)
     exact⟨by simp[bp,dY],trivial⟩
    ·rintro i b ⟨i0,i1,hb⟩
     have hb:b=bp (g.length:Int) ((e.map (·.1)).take i.toNat):=hb
     subst hb
     have i1:i<=(e.length:Int):=i1
     have hbl:(bp (g.length:Int) ((e.map (·.1)).take i.toNat)).length<=3+2*1024:=by
      rw[mE,List.length_take,List.length_map];omega
     refine aJ (fun hi=>?_) (fun hi=>?_)
     ·have hi:=of_decide_eq_true hi
      have hx:=t4 _ (cy (xs:=e) i0 hi)
      have hn:=c5 (l:=e.map (·.1)) i0 (by rw[List.length_map];exact hi)
      have em:(e.map (·.1)).getD i.toNat default=(e.getD i.toNat default).1:=by
       simp only[List.getD_eq_getElem?_getD,List.getElem?_map]
       rw[List.getElem?_eq_getElem (by omega)];rfl
      refine⟨i0,hi,hx.1,by rw[jf];omega,i+1,bp (g.length:Int) ((e.map (·.1)).take (i+1).toNat),⟨by omega,by show i+1<=(e.length:Int);omega,rfl⟩,by show ((e.length:Int)-(i+1)).toNat<((e.length:Int)-i).toNat;omega,?_⟩
      (repeat first|refine⟨trivial,?_⟩|refine⟨(by with_reducible rfl),?_⟩|refine⟨ag (by omega) (by omega),?_⟩)
      exact⟨by rw[sA,hn,em],trivial⟩
     ·have hi:=of_decide_eq_false hi
      refine⟨h.so,h.oo,h.ff,by omega,by omega,?_⟩
      have ei:(e.map (·.1)).take i.toNat=e.map (·.1):=List.take_of_length_le (by rw[List.length_map];omega)
      rw[ei]
      rfl
theorem zN:aL Try.prog GL 54 vu.spec:=Ct.okH _ Try.func54 (by kernel_rfl) (sK (aI (aI (aI (aI (aI (aI aW zd) rP) jz) BM) vv) sr) (d:=33) (p:=1048576) (off:=7)) aH yh (aX (by kernel_rfl) xi)
abbrev vK:OT := .pair cI (.pair (.hole 0) (.pair (.hole 1) (.pair (.hole 2) (.pair cI (.pair (.hole 3) (.pair (.hole 4) (.pair (.hole 5) (.row 53 bf))))))))
theorem mT:∀ n:Nat,∀ l:List Int,l.length<=n->(cu l).length=l.length/2
 | 0,[],_=>rfl
 | n+1,[],_=>rfl
 | n+1,[a],_=>by simp[cu]
 | n+1,a::b::r,h=>by
  rw[cu,List.length_cons,mT n r (by simp at h;omega)]
  simp only[List.length_cons];omega
theorem oM:∀(q:Nat){l:List Int},2*q+2<=l.length->cu (l.take (2*q+2))=cu (l.take (2*q))++[l.getD (2*q) 0*256+l.getD (2*q+1) 0]
 | 0,a::b::r,h=>rfl
 | 0,[],h=>by simp at h
 | 0,[a],h=>by simp at h
 | q+1,a::b::r,h=>by
  have e:=oM q (l:=r) (by simp at h;omega)
  rw[show 2*(q+1)+2=(2*q+2)+1+1 by omega,show 2*(q+1)=2*q+1+1 by omega]
  simp only[List.take_succ_cons,cu,List.cons_append,List.getD_cons_succ]
  rw[e]
 | q+1,[],h=>by simp at h
 | q+1,[a],h=>by simp at h
theorem qU{b:List Int}{n:Nat}(h:n+2<=b.length):aR b n=(b.drop n).getD 0 0*256+(b.drop n).getD 1 0:=by
 rw[oD h]
 match hd:b.drop n with
 | x::y::r=>exact uH x y
 | []=>have:=congrArg List.length hd;simp at this;omega
 | [x]=>have:=congrArg List.length hd;simp at this;omega
theorem tR(l:List af)(t:af):bF (l++[t])=bF l++cu (t.2.2.drop 3):=by
 unfold bF;rw[List.flatMap_append];simp
theorem rh(k:Int)(l:List af)(t:af):bw k (l++[t])=max (bw k l) (aR t.2.2 1):=by
 unfold bw;rw[List.foldl_append];rfl
theorem nj:∀{l:List af},(∀ t∈l,∃ m:Nat,t.2.2.length=3+2*m/\m<=2000)->(bF l).length<=2000*l.length
 | [],_=>Nat.le_refl _
 | t::r,h=>by
  obtain⟨m,h1,h2⟩:=h t List.mem_cons_self
  have h3:=nj (l:=r) fun x hx=>h x (List.mem_cons_of_mem _ hx)
  show (cu (t.2.2.drop 3)++bF r).length<=_
  rw[List.length_append,mT _ _ (Nat.le_refl _),List.length_drop,List.length_cons]
  omega
def rm:Ct:=⟨[.box 28 vK],[.own 3 cI],fun d=>[d.1.2.2.2.2.2.2.2.2.length<=4096,∀ t∈d.1.2.2.2.2.2.2.2.2,∃ m:Nat,t.2.2.length=3+2*m/\m<=2000],fun d=>((bF (ai d.1.1 d.1.2.2.2.2.2.2.2.2),()),((d.1.1,d.1.2.1,d.1.2.2.1,d.1.2.2.2.1,bw d.1.2.2.2.2.1 (ai d.1.1 d.1.2.2.2.2.2.2.2.2),d.1.2.2.2.2.2.1,d.1.2.2.2.2.2.2.1,d.1.2.2.2.2.2.2.2.1,aP d.1.1 d.1.2.2.2.2.2.2.2.2),()))⟩
def z8:aG rm.ps->aN:=(fun d=>{loops:=(fun n=>match n with|3=>some (fun S=>{ι:=Int×Int×(List Int),qn:=⟨fun k_=>∀(j:Int)(kn:Int)(nt:(List Int)),k_ (j,kn,nt),fun k_ h_ i=>h_ i.1 i.2.1 i.2.2,fun k_=>∃ (j:Int) (kn:Int) (nt:(List Int)),k_ (j,kn,nt),fun k_ ⟨j,kn,nt,h_⟩=>⟨_,h_⟩⟩,μ:=fun i=>((ai d.1.1 d.1.2.2.2.2.2.2.2.2).length-i.1).toNat,inv:=fun i=>0<=i.1/\i.1<=(ai d.1.1 d.1.2.2.2.2.2.2.2.2).length/\i.2.1=bw d.1.2.2.2.2.1 ((ai d.1.1 d.1.2.2.2.2.2.2.2.2).take i.1.toNat)/\i.2.2=bF ((ai d.1.1 d.1.2.2.2.2.2.2.2.2).take i.1.toNat),keep:=[0,11,12],slots:=fun i=>[(13,.int .i64 i.1),(3,.own 524288 1)],keepN:=[192],names:=fun i=>[(1048576,.live (.cells 28 [.int .i64 d.1.1,.hv 1572864 d.1.2.1,.hv 1572865 d.1.2.2.1,.hv 1572866 d.1.2.2.2.1,.int .i64 i.2.1,.hv 1572867 d.1.2.2.2.2.2.1,.hv 1572868 d.1.2.2.2.2.2.2.1,.hv 1572869 d.1.2.2.2.2.2.2.2.1,.part 192 3 (ai d.1.1 d.1.2.2.2.2.2.2.2.2).length (d.1.2.2.2.2.2.2.2.2.length-(ai d.1.1 d.1.2.2.2.2.2.2.2.2).length)])),(524288,.live (.row 3 cI i.2.2)),(1572864,.dead),(1572865,.dead),(1572866,.dead),(1572867,.dead),(1572868,.dead),(1572869,.dead)]})|7=>some (fun S=>{ι:=Int×(List Int),qn:=⟨fun k_=>∀(a:Int)(nt:(List Int)),k_ (a,nt),fun k_ h_ i=>h_ i.1 i.2,fun k_=>∃ (a:Int) (nt:(List Int)),k_ (a,nt),fun k_ ⟨a,nt,h_⟩=>⟨_,h_⟩⟩,μ:=fun i=>((S.c bf 96).2.2.length-i.1).toNat,inv:=fun i=>3<=i.1/\i.1<=(S.c bf 96).2.2.length/\(i.1-3)%2=0/\i.2=S.o cI 3++cu (((S.c bf 96).2.2.drop 3).take (i.1-3).toNat),keep:=[0,5,11,12,13],slots:=fun i=>[(6,.int .i64 i.1),(3,.own 524289 1)],keepN:=[1048576,96,192],names:=fun i=>[(524289,.live (.row 3 cI i.2)),(1572864,.dead),(1572865,.dead),(1572866,.dead),(1572867,.dead),(1572868,.dead),(1572869,.dead)]})|_=>none)})
def cz(i:List (Int×Int×List Int))(j:Int) :=
 i.getD ((0:Nat)+j.toNat) default
def dP(a:Int)(i:List (Int×Int×List Int)) :=
 ((List.length (ai a i)):Int)
def gN(i:List (Int×Int×List Int))(j:Int) :=
 ((List.length (cz i j).2.2):Int)
theorem Bi :
 ∀(a:Int)(b c d:SV)(e:Int)(f g h:SV)(i:List (Int×Int×List Int)),(aq a/\True/\True/\True/\aq e/\True/\True/\True/\i.length<=maxLen/\ ∀(j:Int×Int×List Int),j∈i->aq j.1/\aq j.2.1/\j.2.2.length<=maxLen/\ ∀(k:Int),k∈j.2.2->0<=k/\k<=255)/\True->(i.length<=(4096:Nat)/\ ∀(j:Int×Int×List Int),j∈i-> ∃(k:Nat),j.2.2.length=(3:Nat)+(2:Nat)*k/\k<=(2000:Nat))->(∃(j:Int) (k:Int),∃(l:List Int),(0<=j/\j<=(dP a i)/\k=bw e (List.take j.toNat (ai a i))/\l=bF (List.take j.toNat (ai a i)))/\(0:Nat)=(0:Nat)/\List.length (ai a i)=List.length (ai a i)/\(dP a i)=(dP a i)/\(0:Int)=j/\i=i/\a=a/\b=b/\c=c/\d=d/\e=k/\f=f/\g=g/\h=h/\List.length (ai a i)=List.length (ai a i)/\i.length -List.length (ai a i)=i.length -List.length (ai a i)/\l=([]:List Int)/\True)/\ ∀(j k:Int)(l:List Int),0<=j/\j<=(dP a i)/\k=bw e (List.take j.toNat (ai a i))/\l=bF (List.take j.toNat (ai a
 i))->aw (decide (j<(dP a i))) (0<=j/\j<(dP a i)/\(gN i j)<=9223372036854775807/\(∃(m:Int) (n:List Int),(3<=m/\m<=(gN i j)/\(m -(3:Int))%(2:Int)=0/\n=l++cu (List.take (Int.toNat (m -(3:Int))) (List.drop (3:Nat) (cz i j).2.2)))/\(3:Int)=m/\(0:Nat)=(0:Nat)/\List.length (ai a i)=List.length (ai a i)/\(dP a i)=(dP a i)/\j=j/\a=a/\b=b/\c=c/\d=d/\max k (aR (cz i j).2.2 (1:Int))=max k (aR (cz i j).2.2 (1:Int))/\f=f/\g=g/\h=h/\List.length (ai a i)=List.length (ai a i)/\i.length -List.length (ai a i)=i.length -List.length (ai a i)/\(cz i j).1=(cz i j).1/\(cz i j).2.1=(cz i j).2.1/\(cz i j).2.2=(cz i j).2.2/\i=i/\l=n/\True)/\ ∀(m:Int)(n:List Int),3<=m/\m<=(gN i j)/\(m -(3:Int))%(2:Int)=0/\n=l++cu (List.take (Int.toNat (m -(3:Int))) (List.drop (3:Nat) (cz i j).2.2))->aw (decide (m<(gN i j))) ((gN i
 j)<=9223372036854775807/\(n.length+List.length [aR (cz i j).2.2 m])*(8:Nat)<=(140737488355328:Nat)/\ ∃(o:Int) (p:List Int),(3<=o/\o<=(gN i j)/\(o -(3:Int))%(2:Int)=0/\p=l++cu (List.take (Int.toNat (o -(3:Int))) (List.drop (3:Nat) (cz i j).2.2)))/\Int.toNat ((gN i j) -o)<Int.toNat ((gN i j) -m)/\IntKind.wrap .i64 (m+(2:Int))=o/\(0:Nat)=(0:Nat)/\List.length (ai a i)=List.length (ai a i)/\(dP a i)=(dP a i)/\j=j/\a=a/\b=b/\c=c/\d=d/\max k (aR (cz i j).2.2 (1:Int))=max k (aR (cz i j).2.2 (1:Int))/\f=f/\g=g/\h=h/\List.length (ai a i)=List.length (ai a i)/\i.length -List.length (ai a i)=i.length -List.length (ai a i)/\(cz i j).1=(cz i j).1/\(cz i j).2.1=(cz i j).2.1/\(cz i j).2.2=(cz i j).2.2/\i=i/\n++[aR (cz i j).2.2 m]=p/\True) (∃(o:Int) (p:Int),∃(q:List Int),(0<=o/\o<=(dP a i)/\p=bw e (List.take o.toNat (ai a i))/\q=bF
 (List.take o.toNat (ai a i)))/\Int.toNat ((dP a i) -o)<Int.toNat ((dP a i) -j)/\(0:Nat)=(0:Nat)/\List.length (ai a i)=List.length (ai a i)/\(dP a i)=(dP a i)/\IntKind.wrap .i64 (j+(1:Int))=o/\i=i/\a=a/\b=b/\c=c/\d=d/\max k (aR (cz i j).2.2 (1:Int))=p/\f=f/\g=g/\h=h/\List.length (ai a i)=List.length (ai a i)/\i.length -List.length (ai a i)=i.length -List.length (ai a i)/\n=q/\True)) (List.length (ai a i)+(i.length -List.length (ai a i))=i.length/\l=bF (ai a i)/\(a,b,c,d,k,f,g,h,List.drop (List.length (ai a i)) i)=(a,b,c,d,bw e (ai a i),f,g,h,aP a i)):=by
  delta cz dP gN
  rintro now s0 s1 s2 kn s3 s4 s5 up-⟨hn,hm⟩
  obtain⟨q1,q2,q3,q4⟩:=lH now up
  rw[← q2]
  generalize ai now up=L at *
  have hmL:∀ t∈L,∃ m:Nat,t.2.2.length=3+2*m/\m<=2000:=fun t ht=>hm t (q4 t ht)
  refine⟨⟨0,kn,[],⟨by omega,by omega,rfl,rfl⟩,(by repeat' first|exact trivial|refine⟨trivial,?_⟩|refine⟨(by with_reducible rfl),?_⟩|refine⟨ag (by omega) (by omega),?_⟩|refine⟨rfl,?_⟩)⟩,?_⟩
  rintro j k nt ⟨j0,j1,rfl,rfl⟩
  refine aJ (fun hj=>?_) (fun hj=>?_)
  ·have hj:=of_decide_eq_true hj
   have e:up.getD (0+j.toNat) default=L.getD j.toNat default:=by rw[Nat.zero_add];exact q3 _ (by omega)
   have hmem:=cy (xs:=L) j0 hj
   rw[e]
   obtain⟨m,hl,hm2⟩:=hmL _ hmem
   have ht:=c5 (l:=L) j0 hj
   generalize L.getD j.toNat default=T at *
   refine⟨j0,by omega,by omega,⟨3,_,⟨by omega,by omega,rfl,rfl⟩,?_⟩,?_⟩
   ·(repeat first|refine⟨trivial,?_⟩|refine⟨(by with_reducible rfl),?_⟩|refine⟨ag (by omega) (by omega),?_⟩)
    exact⟨by simp[cu],trivial⟩
   rintro a nt2 ⟨a0,a1,a2,rfl⟩
   have hh:=nj (l:=L.take j.toNat) fun t ht=>hmL t (List.mem_of_mem_take ht)
   have hlt:(L.take j.toNat).length<=L.length:=by rw[List.length_take];omega
   refine aJ (fun ha=>?_) (fun ha=>?_)
   ·have ha:=of_decide_eq_true ha
    obtain⟨q,hq⟩:∃ q:Nat,a=3+2*(q:Int):=⟨((a-3)/2).toNat,by omega⟩
    subst hq
    have hp:=mT _ ((T.2.2.drop 3).take (3+2*(q:Int)-3).toNat) (Nat.le_refl _)
    have e1:(3+2*(q:Int)-3).toNat=2*q:=by omega
    have e2:(3+2*(q:Int)+2-3).toNat=2*q+2:=by omega
    have e3:(3+2*(q:Int))=((3+2*q:Nat):Int):=by omega
    have e4:aR T.2.2 (3+2*(q:Int))=(T.2.2.drop 3).getD (2*q) 0*256+(T.2.2.drop 3).getD (2*q+1) 0:=by
     rw[e3,qU (by omega),← List.drop_drop]
     simp only[List.getD_eq_getElem?_getD,List.getElem?_drop,Nat.add_zero]
    refine⟨by omega,?_,3+2*(q:Int)+2,_,⟨by omega,by omega,by omega,rfl⟩,by omega,?_⟩
    ·rw[List.length_append,hp,List.length_singleton,List.length_take,List.length_drop];omega
    ·(repeat first|refine⟨trivial,?_⟩|refine⟨(by with_reducible rfl),?_⟩|refine⟨ag (by omega) (by omega),?_⟩)
     exact⟨by rw[e1,e2,e4,oM q (by rw[List.length_drop];omega),List.append_assoc],trivial⟩
   ·have ha:=of_decide_eq_false ha
    have w1:max (bw kn (L.take j.toNat)) (aR T.2.2 1)=bw kn (L.take (j+1).toNat):=by rw[ht,rh]
    have w2:bF (L.take j.toNat)++cu ((T.2.2.drop 3).take (a-3).toNat)=bF (L.take (j+1).toNat):=by rw[ht,tR,List.take_of_length_le (l:=T.2.2.drop 3) (by rw[List.length_drop];omega)]
    rw[w1,w2]
    exact⟨j+1,_,_,⟨by omega,by omega,rfl,rfl⟩,by omega,(by repeat' first|exact trivial|refine⟨trivial,?_⟩|refine⟨(by with_reducible rfl),?_⟩|refine⟨ag (by omega) (by omega),?_⟩|refine⟨rfl,?_⟩)⟩
  ·have hj:=of_decide_eq_false hj
   have e:j.toNat=L.length:=by omega
   rw[e,List.take_length]
   exact⟨by omega,rfl,rfl⟩
theorem xc:aL Try.prog GL 55 rm.spec:=Ct.okH _ Try.func55 (by kernel_rfl) (sK (aI (aI aW AO) rP) (d:=43) (p:=1048576) (off:=8)) aH z8 (aX (by kernel_rfl) Bi)
def eZ(c:ak)(up:List aY)(x:Int):List Int:=(dD x (min ((ae c).length:Int) (av c up+aj c))).filter fun i => !(bF (cZ c up)).contains i
theorem tg{now d:Int}{b:List Int}:∀(n:Nat)(k:Int){o:Int}{l:List af},ct now o l->o+n<=1000000000000000->ct now (bv now d b n k (o,l)).1 (bv now d b n k (o,l)).2/\(bv now d b n k (o,l)).1<=o+n
 | 0,k,o,l,h,_=>⟨h,by show o<=_;omega⟩
 | n+1,k,o,l,h,hb=>by
  rw[bv]
  dsimp only
  split
  ·rename_i hl
   obtain⟨k1,k2⟩:=tg (now:=now) (d:=d) (b:=b) n (k+1) (o:=o+1) (l:=bX l (now+1+d+k,o,b)) (h.next (by omega) hl) (by omega)
   exact⟨k1,by omega⟩
  ·exact⟨h,by show o<=_;omega⟩
theorem vh{now:Int}{b:List Int}{f:aY}(hf:fv f){o:Int}{l:List af}(h:ct now o l)(ho:o<=900000000000000):ct now (a8 now b f (o,l)).1 (a8 now b f (o,l)).2/\(a8 now b f (o,l)).1<=o+9:=by
 unfold a8
 obtain⟨f1,f2⟩:=hf
 split
 ·exact⟨h,by show o<=_;omega⟩
 ·obtain⟨k1,k2⟩:=tg (now:=now) (d:=f.2.1) (b:=b) (f.2.2+1).toNat 0 h (by omega)
  exact⟨k1,by omega⟩
theorem qV{x b:Int}(h:x<b):dD x b=x::dD (x+1) b:=by
 unfold dD
 obtain⟨n,hn⟩:∃ n,(b-x).toNat=n+1:=⟨(b-x).toNat-1,by omega⟩
 rw[hn,show (b-(x+1)).toNat=n by omega,List.range_succ_eq_map,List.map_cons,List.map_map]
 congr 1
 ·simp
 ·apply List.map_congr_left
  intro k _
  simp only[Function.comp_apply,Nat.succ_eq_add_one]
  omega
theorem tx{x b:Int}(h:¬ x<b):dD x b=[]:=by
 unfold dD
 rw[show (b-x).toNat=0 by omega];rfl
theorem rQ:∀{l:List Int}{lo hi:Int},l.Pairwise (fun a b=>a<b)->(∀ x∈l,lo<=x/\x<hi)->(l.length:Int)<=max 0 (hi-lo)
 | [],lo,hi,_,_=>by simp;omega
 | x::r,lo,hi,hs,hb=>by
  obtain⟨s1,s2⟩:=List.pairwise_cons.1 hs
  have hx:=hb x List.mem_cons_self
  have:=rQ (l:=r) (lo:=x+1) (hi:=hi) s2 fun y hy=>⟨by have:=s1 y hy;omega,(hb y (List.mem_cons_of_mem _ hy)).2⟩
  rw[List.length_cons];omega
theorem nJ{log:List (List Int)}{s:List (List Int)×List au}{t:af}(h:fq log s t)(hl:log.length<=1024):∃ m:Nat,t.2.2.length=3+2*m/\m<=2000:=by
 obtain⟨g,es,h1,h2,h3,h4⟩:=h
 refine⟨es.length,by rw[h1,mE],?_⟩
 have:=rQ (lo:=0) (hi:=1024) h3 fun x hx=>by have:=(h4 x hx).1;omega
 omega
theorem cF.so{now n1 ord:Int}{l:List af}(h:cF now ord l)(h1:0<=n1/\n1<=2000000000000)(h2:0<=ord/\ord<=1000000000000000):ct n1 ord l:=⟨h1,h2,h.s,fun x hx=>(h.r x hx).2.2,h.n⟩
theorem XI.parts{c:ak}(h:XI c){up:List aY}(hu:dr up):(cF (ac c) (am c up).1 (am c up).2/\bm c<=(am c up).1/\(am c up).1<=bm c+9∧∀ t∈(am c up).2,fq (ae c) (aE c) t)/\0<=av c up/\av c up<=1024:=by
 obtain⟨r1,r2,r3,r4⟩:=iO h.log (l:=ai (ac c+1) (aD c)) h.rc fun t ht=>h.dd t (iS ht).1
 have eG:aE c=bS (ay c+aj c) (ai (ac c+1) (aD c)) (aK c,aA c):=rfl
 rw[← eG] at r1 r2 r3 r4
 have r2:(aK c).length<=(aE c).1.length:=r2
 have hgl:=r1.n
 have hlog:=h.log
 have hkn:=h.kn
 have aU:cF (ac c) (am c up).1 (am c up).2/\bm c<=(am c up).1/\(am c up).1<=bm c+9∧∀ t∈(am c up).2,fq (ae c) (aE c) t:=by
  have old:∀ t∈bk c,fq (ae c) (aE c) t:=fun t ht=>(h.ud t ht).more r2 r3
  unfold am
  split
  ·exact⟨h.up,Int.le_refl _,by show bm c<=_;omega,old⟩
  ·obtain⟨k1,k2,k3,k4,-⟩:=ny (n0:=ac c) (now:=ac c+1) (b:=bp ((aE c).1.length:Int) ((aE c).2.map (·.1))) ⟨by omega,by omega⟩ (iE hu 0) h.ord h.up
   refine⟨k1,k2,k3,fun t ht=>?_⟩
   rcases k4 t ht with q|q
   ·exact old t q
   ·refine⟨_,_,q,⟨by omega,Int.le_refl _⟩,?_,fun e he=>?_⟩
    ·rw[List.pairwise_map];exact r1.e.s
    ·obtain⟨x,hx,rfl⟩:=List.mem_map.1 he
     exact⟨(r1.e.r x hx).1,.inr ⟨x,hx,rfl⟩⟩
 obtain⟨n1,n2⟩:=oE (log:=ae c) (s:=aE c) (by omega) (l:=cZ c up) (k:=ay c) hkn.1 (by omega) fun t ht=>aU.2.2.2 t (iS ht).1
 have n1:ay c<=av c up:=n1
 have n2:av c up<=(aE c).1.length:=n2
 exact⟨aU,by omega,by omega⟩
def vw:Ct:=⟨[.box 28 q6,.val (.sl ep),.val (.sl ep)],[],fun d=>[XR d.1,ac d.1<1099511627776,dr d.2.1,dr d.2.2.1],fun d=>((),(bc d.1 d.2.1 d.2.2.1,()))⟩
def z7:aG vw.ps->aN:=(fun d=>{loops:=(fun n=>match n with|5=>some (fun S=>{ι:=Int×Int×Int×(List af),qn:=⟨fun k_=>∀(x:Int)(i:Int)(o:Int)(dn:(List af)),k_ (x,i,o,dn),fun k_ h_ i=>h_ i.1 i.2.1 i.2.2.1 i.2.2.2,fun k_=>∃ (x:Int) (i:Int) (o:Int) (dn:(List af)),k_ (x,i,o,dn),fun k_ ⟨x,i,o,dn,h_⟩=>⟨_,h_⟩⟩,μ:=fun i=>(av d.1 d.2.2.1+aj d.1-i.1).toNat,inv:=fun i=>av d.1 d.2.2.1<=i.1/\0<=i.2.1/\i.2.1<=i.1-av d.1 d.2.2.1/\ct (ac d.1+1) i.2.2.1 i.2.2.2/\i.2.2.1<=(am d.1 d.2.2.1).1+9*i.2.1/\i.1<=av d.1 d.2.2.1+aj d.1/\bR (ac d.1+1) (ae d.1) d.2.1 (eZ d.1 d.2.2.1 i.1) i.2.1.toNat (i.2.2.1,i.2.2.2)=cL d.1 d.2.1 d.2.2.1,keep:=[0,1,6],slots:=fun i=>[(8,.int .i64 i.1),(7,.int .i64 i.2.1)],keepN:=[2097152,304,305,337,336],names:=fun i=>[(1048576,.live (.cells 28 [.int .i64 (ac d.1+1),.int .i64 i.2.2.1,.int .i64 (aj d.1),.own 2097152 1,.int .i64 (av d.1 d.2.2.1),.own 304 1,.own 305 2,.own 524288 3,.own 337 3])),(524288,.live (.row 53 bf i.2.2.2))]})|_=>none)})
def bE(a:Int) :=
 IntKind.wrap .i64 (a+(1:Int))
def cU(a b c e:Int)(f:List (List Int))(g:List (Int×List Int))(h i:List (Int×Int×List Int))(k:List (Bool×Int×Int)) :=
 gX (bE a) b (bg (bE a) (e+c) h f g) h i k
def nV(a b c:Int)(d:List (List Int))(e:Int)(f:List (List Int))(g:List (Int×List Int))(h i:List (Int×Int×List Int))(j k:List (Bool×Int×Int))(p q r:Int)(s:List af) :=
 av (a,b,c,d,e,f,g,h,i) k<=p/\0<=q/\q<=p -av (a,b,c,d,e,f,g,h,i) k/\ct (ac (a,b,c,d,e,f,g,h,i)+(1:Int)) r s/\r<=(am (a,b,c,d,e,f,g,h,i) k).1+(9:Int)*q/\p<=av (a,b,c,d,e,f,g,h,i) k+aj (a,b,c,d,e,f,g,h,i)/\bR (ac (a,b,c,d,e,f,g,h,i)+(1:Int)) (ae (a,b,c,d,e,f,g,h,i)) j (eZ (a,b,c,d,e,f,g,h,i) k p) q.toNat (r,s)=cL (a,b,c,d,e,f,g,h,i) j k
def pf(a b c:Int)(d:List (List Int))(e:Int)(f:List (List Int))(g:List (Int×List Int))(h i:List (Int×Int×List Int))(j k:List (Bool×Int×Int))(l m n:Int)(o:List af) :=
 0<=m/\m<=l -av (a,b,c,d,e,f,g,h,i) k/\ct (ac (a,b,c,d,e,f,g,h,i)+(1:Int)) n o/\n<=(am (a,b,c,d,e,f,g,h,i) k).1+(9:Int)*m/\l<=av (a,b,c,d,e,f,g,h,i) k+aj (a,b,c,d,e,f,g,h,i)/\bR (ac (a,b,c,d,e,f,g,h,i)+(1:Int)) (ae (a,b,c,d,e,f,g,h,i)) j (eZ (a,b,c,d,e,f,g,h,i) k l) m.toNat (n,o)=cL (a,b,c,d,e,f,g,h,i) j k
theorem wW :
 ∀(a b c:Int)(d:List (List Int))(e:Int)(f:List (List Int))(g:List (Int×List Int))(h i:List (Int×Int×List Int))(j k:List (Bool×Int×Int)),(aq a/\aq b/\aq c/\(d.length<=maxLen/\ ∀(l:List Int),l∈d->l.length<=maxLen/\ ∀(m:Int),m∈l->0<=m/\m<=255)/\aq e/\(f.length<=maxLen/\ ∀(l:List Int),l∈f->l.length<=maxLen/\ ∀(m:Int),m∈l->0<=m/\m<=255)/\(g.length<=maxLen/\ ∀(l:Int×List Int),l∈g->aq l.1/\l.2.length<=maxLen/\ ∀(m:Int),m∈l.2->0<=m/\m<=255)/\(h.length<=maxLen/\ ∀(l:Int×Int×List Int),l∈h->aq l.1/\aq l.2.1/\l.2.2.length<=maxLen/\ ∀(m:Int),m∈l.2.2->0<=m/\m<=255)/\i.length<=maxLen/\ ∀(l:Int×Int×List Int),l∈i->aq l.1/\aq l.2.1/\l.2.2.length<=maxLen/\ ∀(m:Int),m∈l.2.2->0<=m/\m<=255)/\(j.length<=maxLen/\ ∀(l:Bool×Int×Int),l∈j->True/\aq l.2.1/\aq l.2.2)/\(k.length<=maxLen/\ ∀(l:Bool×Int×Int),l∈k->True/\aq l.2.1/\aq l.2.2)/\True->(XR (a,b,c,d,e,f,g,h,i)/\ac
 (a,b,c,d,e,f,g,h,i)<1099511627776/\dr j/\ ∀(l:aY),l∈k->(0<=l.2.1/\l.2.1<=1000)/\0<=l.2.2/\l.2.2<=8)->(∃(l:List (List Int)),lu (bE a) b c e f g h i k l)/\List.length (cU a b c e f g h i k).2<=(4096:Nat)/\(∀(l:Int×Int×List Int),l∈(cU a b c e f g h i k).2-> ∃(m:Nat),l.2.2.length=(3:Nat)+(2:Nat)*m/\m<=(2000:Nat))/\(∃(l:Int) (m:Int),∃(n:Int) (o:List af),(av (a,b,c,d,e,f,g,h,i) k<=l/\(pf a b c d e f g h i j k l m n o))/\j=j/\(0:Int)=m/\bw e (ai (bE a) (cU a b c e f g h i k).2)=l/\d=d/\(bg (bE a) (e+c) h f g).1=(bg (bE a) (e+c) h f g).1/\(bg (bE a) (e+c) h f g).2=(bg (bE a) (e+c) h f g).2/\aP (bE a) (cU a b c e f g h i k).2=aP (bE a) (cU a b c e f g h i k).2/\bF (ai (bE a) (cU a b c e f g h i k).2)=bF (ai (bE a) (cU a b c e f g h i k).2)/\IntKind.wrap .i64 (a+(1:Int))=ac (a,b,c,d,e,f,g,h,i)+(1:Int)/\(cU a b c e
 f g h i k).1=n/\c=aj (a,b,c,d,e,f,g,h,i)/\bw e (ai (bE a) (cU a b c e f g h i k).2)=av (a,b,c,d,e,f,g,h,i) k/\aP (bE a) h=o/\True)/\ ∀(l m n:Int)(o:List af),av (a,b,c,d,e,f,g,h,i) k<=l/\(pf a b c d e f g h i j k l m n o)->aw (decide (l<min (d.length:Int) (IntKind.wrap .i64 (av (a,b,c,d,e,f,g,h,i) k+aj (a,b,c,d,e,f,g,h,i))))) (aw (decide (l∈bF (ai (bE a) (cU a b c e f g h i k).2))) (∃(p:Int) (q:Int),∃(r:Int) (s:List af),(nV a b c d e f g h i j k p q r s)/\Int.toNat (av (a,b,c,d,e,f,g,h,i) k+aj (a,b,c,d,e,f,g,h,i) -p)<Int.toNat (av (a,b,c,d,e,f,g,h,i) k+aj (a,b,c,d,e,f,g,h,i) -l)/\j=j/\m=q/\IntKind.wrap .i64 (l+(1:Int))=p/\d=d/\(bg (bE a) (e+c) h f g).1=(bg (bE a) (e+c) h f g).1/\(bg (bE a) (e+c) h f g).2=(bg (bE a) (e+c) h f g).2/\aP (bE a) (cU a b c e f g h i k).2=aP (bE a) (cU a b c e f g h i
 k).2/\bF (ai (bE a) (cU a b c e f g h i k).2)=bF (ai (bE a) (cU a b c e f g h i k).2)/\ac (a,b,c,d,e,f,g,h,i)+(1:Int)=ac (a,b,c,d,e,f,g,h,i)+(1:Int)/\n=r/\aj (a,b,c,d,e,f,g,h,i)=aj (a,b,c,d,e,f,g,h,i)/\av (a,b,c,d,e,f,g,h,i) k=av (a,b,c,d,e,f,g,h,i) k/\o=s/\True) (0<=l/\l<(d.length:Int)/\0<=l/\((List.length (d.getD l.toNat default)):Int)<=1000000/\ct (ac (a,b,c,d,e,f,g,h,i)+(1:Int)) n o/\n<=900000000000000/\fv (bd j m.toNat)/\0<=m/\((List.length (bO l (d.getD l.toNat default))):Int)<=1000000/\ ∃(p:Int) (q:Int),∃(r:Int) (s:List af),(nV a b c d e f g h i j k p q r s)/\Int.toNat (av (a,b,c,d,e,f,g,h,i) k+aj (a,b,c,d,e,f,g,h,i) -p)<Int.toNat (av (a,b,c,d,e,f,g,h,i) k+aj (a,b,c,d,e,f,g,h,i) -l)/\j=j/\IntKind.wrap .i64 (m+(1:Int))=q/\IntKind.wrap .i64 (l+(1:Int))=p/\d=d/\(bg (bE a) (e+c) h f g).1=(bg (bE a) (e+c) h f g).1/\(bg (bE
 a) (e+c) h f g).2=(bg (bE a) (e+c) h f g).2/\aP (bE a) (cU a b c e f g h i k).2=aP (bE a) (cU a b c e f g h i k).2/\bF (ai (bE a) (cU a b c e f g h i k).2)=bF (ai (bE a) (cU a b c e f g h i k).2)/\ac (a,b,c,d,e,f,g,h,i)+(1:Int)=ac (a,b,c,d,e,f,g,h,i)+(1:Int)/\(a8 (ac (a,b,c,d,e,f,g,h,i)+(1:Int)) (bO l (d.getD l.toNat default)) (bd j m.toNat) (n,o)).1=r/\aj (a,b,c,d,e,f,g,h,i)=aj (a,b,c,d,e,f,g,h,i)/\av (a,b,c,d,e,f,g,h,i) k=av (a,b,c,d,e,f,g,h,i) k/\(a8 (ac (a,b,c,d,e,f,g,h,i)+(1:Int)) (bO l (d.getD l.toNat default)) (bd j m.toNat) (n,o)).2=s/\True)) ((ac (a,b,c,d,e,f,g,h,i)+(1:Int),n,aj (a,b,c,d,e,f,g,h,i),d,av (a,b,c,d,e,f,g,h,i) k,(bg (bE a) (e+c) h f g).1,(bg (bE a) (e+c) h f g).2,o,aP (bE a) (cU a b c e f g h i k).2)=bc (a,b,c,d,e,f,g,h,i) j k):=by
  delta bE cU nV pf
  rintro now ord win log kn got ear dn up ds us-⟨⟨hx,hor⟩,hnow,hd,hu⟩
  have hu:dr us:=hu
  obtain⟨⟨pu1,pu2,pu3,pu4⟩,pk1,pk2⟩:=hx.parts hu
  have n0:0<=now:=hx.now
  have hnow:now<1099511627776:=hnow
  have o0:0<=ord:=hx.ord
  have hor:ord<=585*now:=hor
  have hwin:1<=win/\win<=64:=hx.win
  have hlog:log.length<=1024:=hx.log
  have hkn:0<=kn/\kn<=got.length:=hx.kn
  have hgl:got.length<=log.length:=hx.rc.n
  have pu2:ord<=(am (now,ord,win,log,kn,got,ear,dn,up) us).1:=pu2
  have pu3:(am (now,ord,win,log,kn,got,ear,dn,up) us).1<=ord+9:=pu3
  rw[ag (n:=now+1) (by omega) (by omega)]
  have eG:bg (now+1) (kn+win) dn got ear=aE (now,ord,win,log,kn,got,ear,dn,up):=rfl
  have eU:gX (now+1) ord (bg (now+1) (kn+win) dn got ear) dn up us=am (now,ord,win,log,kn,got,ear,dn,up) us:=rfl
  rw[eU,eG]
  have eH:ai (now+1) (am (now,ord,win,log,kn,got,ear,dn,up) us).2=cZ (now,ord,win,log,kn,got,ear,dn,up) us:=rfl
  have eK:bw kn (cZ (now,ord,win,log,kn,got,ear,dn,up) us)=av (now,ord,win,log,kn,got,ear,dn,up) us:=rfl
  rw[eH,eK]
  have eW:aj (now,ord,win,log,kn,got,ear,dn,up)=win:=rfl
  have eN:ac (now,ord,win,log,kn,got,ear,dn,up)=now:=rfl
  have eL:ae (now,ord,win,log,kn,got,ear,dn,up)=log:=rfl
  rw[eW,eN,eL]
  have hfin:∀ o dn',(o,dn')=cL (now,ord,win,log,kn,got,ear,dn,up) ds us->((now+1,o,win,log,av (now,ord,win,log,kn,got,ear,dn,up) us,(aE (now,ord,win,log,kn,got,ear,dn,up)).1,(aE (now,ord,win,log,kn,got,ear,dn,up)).2,dn',aP (now+1) (am (now,ord,win,log,kn,got,ear,dn,up) us).2):ak)=bc (now,ord,win,log,kn,got,ear,dn,up) ds us:=fun o dn' he=>by
   show _=((now+1,(cL (now,ord,win,log,kn,got,ear,dn,up) ds us).1,win,log,av (now,ord,win,log,kn,got,ear,dn,up) us,(aE (now,ord,win,log,kn,got,ear,dn,up)).1,(aE (now,ord,win,log,kn,got,ear,dn,up)).2,(cL (now,ord,win,log,kn,got,ear,dn,up) ds us).2,aP (now+1) (am (now,ord,win,log,kn,got,ear,dn,up) us).2):ak)
   rw[← he]
  have hD:bR (now+1) log ds (eZ (now,ord,win,log,kn,got,ear,dn,up) us (av (now,ord,win,log,kn,got,ear,dn,up) us)) 0 ((am (now,ord,win,log,kn,got,ear,dn,up) us).1,aP (now+1) dn)=cL (now,ord,win,log,kn,got,ear,dn,up) ds us:=rfl
  have hR:∀ x,eZ (now,ord,win,log,kn,got,ear,dn,up) us x=(dD x (min (log.length:Int) (av (now,ord,win,log,kn,got,ear,dn,up) us+win))).filter fun i => !(bF (cZ (now,ord,win,log,kn,got,ear,dn,up) us)).contains i:=fun x=>rfl
  have hdn0:=(nl (now:=now+1) (by rw[eN];omega) hx.dn).more pu2
  have hdn0:cF (now+1) (am (now,ord,win,log,kn,got,ear,dn,up) us).1 (aP (now+1) dn):=hdn0
  have hrc:lu (now+1) ord win kn got ear dn up us log:=⟨hx.rc,hlog,hx.it,hx.dd,by omega,hwin,hx.up.so (by omega) ⟨o0,by show ord<=_;omega⟩,by omega,iE hu 0,hx.dn.n⟩
  have hit:=hx.it
  rw[eL] at hit
  have hodd:∀ t∈(am (now,ord,win,log,kn,got,ear,dn,up) us).2,∃ m:Nat,t.2.2.length=3+2*m/\m<=2000:=fun t ht=>nJ (pu4 t ht) hlog
  have hun:=pu1.n
  generalize am (now,ord,win,log,kn,got,ear,dn,up) us=U at *
  generalize cZ (now,ord,win,log,kn,got,ear,dn,up) us=H at *
  generalize av (now,ord,win,log,kn,got,ear,dn,up) us=K at *
  generalize eZ (now,ord,win,log,kn,got,ear,dn,up) us=R at *
  generalize cL (now,ord,win,log,kn,got,ear,dn,up) ds us=D at *
  refine⟨⟨log,hrc⟩,hun,hodd,⟨K,0,U.1,aP (now+1) dn,⟨by omega,by omega,by omega,hdn0.so (by omega) (by omega),by omega,by omega,hD⟩,(by repeat' first|exact trivial|refine⟨trivial,?_⟩|refine⟨(by with_reducible rfl),?_⟩|refine⟨ag (by omega) (by omega),?_⟩|refine⟨rfl,?_⟩)⟩,?_⟩
  rintro x i o dn' ⟨x0,i0,i1,hs,ho,x1,he⟩
  rw[ag (n:=K+win) (by omega) (by omega)]
  refine aJ (fun hb=>?_) (fun hb=>?_)
  ·have hb:=of_decide_eq_true hb
   have hlt:x<log.length:=by omega
   have hcons:=qV hb
   refine aJ (fun hm=>?_) (fun hm=>?_)
   ·have hm:=of_decide_eq_true hm
    refine⟨x+1,i,o,dn',⟨by omega,i0,by omega,hs,ho,by omega,?_⟩,by omega,(by repeat' first|exact trivial|refine⟨trivial,?_⟩|refine⟨(by with_reducible rfl),?_⟩|refine⟨ag (by omega) (by omega),?_⟩|refine⟨rfl,?_⟩)⟩
    rw[← he,hR,hR,hcons,List.filter_cons_of_neg (by simpa using hm)]
   ·have hm:=of_decide_eq_false hm
    have hf:=iE hd i.toNat
    have hil:=hit _ (cy (xs:=log) (i:=x) (by omega) hlt)
    obtain⟨s1,s2⟩:=vh (b:=bO x (log.getD x.toNat default)) hf hs (by omega)
    refine⟨by omega,hlt,by omega,by omega,hs,by omega,hf,i0,by rw[pe];omega,x+1,i+1,(a8 (now+1) (bO x (log.getD x.toNat default)) (bd ds i.toNat) (o,dn')).1,(a8 (now+1) (bO x (log.getD x.toNat default)) (bd ds i.toNat) (o,dn')).2,⟨by omega,by omega,by omega,s1,by omega,by omega,?_⟩,by omega,(by repeat' first|exact trivial|refine⟨trivial,?_⟩|refine⟨(by with_reducible rfl),?_⟩|refine⟨ag (by omega) (by omega),?_⟩|refine⟨rfl,?_⟩)⟩
    rw[← he,hR x,hR,hcons,List.filter_cons_of_pos (by simpa using hm),show (i+1).toNat=i.toNat+1 by omega]
    rfl
  ·have hb:=of_decide_eq_false hb
   refine hfin o dn' ?_
   rw[← he,hR,tx hb]
   rfl
theorem yb:aL Try.prog GL 33 vw.spec:=Ct.okH _ Try.func33 (by kernel_rfl) (aI (aI (aI (aI (aI aW zN) xc) zj) Bs) sr) aH z7 (aX (by kernel_rfl) wW)
end Go.RS

/- Xw4: the program's exchange: new channels, items, ticks. -/
namespace Go.RS
open Go.SX Go.Proofs
set_option maxRecDepth 100000
set_option linter.unusedVariables false
def qS:Ct:=⟨[.val cI],[.agg bG,.val cI],fun _=>[],fun d=>((fg d.1,dj d.1,()),())⟩
def zt:aG qS.ps->aN:=(fun _=>{})
def iR :=
 ((0:Int),(0:Int),(0:Int),([]:List (List Int)),(0:Int),([]:List (List Int)),([]:List (Int×List Int)),([]:List (Int×Int×List Int)),([]:List (Int×Int×List Int)))
theorem zc :
 ∀(a:Int),aq a/\True->True-> ∀(b:Bool),b=decide (a<1)->((! b)->((! b)->(! b))/\True)/\(b=false->(! b))/\aw (bif b then true else decide (64<a)) ((iR)=fg a/\(1:Int)=dj a) (((0:Int),(0:Int),a,([]:List (List Int)),(0:Int),([]:List (List Int)),([]:List (Int×List Int)),([]:List (Int×Int×List Int)),([]:List (Int×Int×List Int)))=fg a/\(0:Int)=dj a):=by
  delta iR
  rintro w - -
  (repeat (intro (b_:Bool) (hb_:b_=_);(repeat refine⟨(by first|(simp;done)|(rw[hb_];simp;done)|(rw[hb_];simp;omega)|(rw[hb_];simp;intros;omega)|(rw[hb_];simp +contextual;done)),?_⟩);subst hb_))
  refine kq (fun h=>?_) (fun h1 h2=>?_)
  ·have e:dj w=1:=by unfold dj;rw[if_pos (by rcases h with q|q;exact .inl (of_decide_eq_true q);exact .inr (of_decide_eq_true q))]
   unfold fg
   rw[e]
   exact⟨rfl,rfl⟩
  ·have h1:=of_decide_eq_false h1
   have h2:=of_decide_eq_false h2
   have e:dj w=0:=by unfold dj;rw[if_neg (by omega)]
   unfold fg
   rw[e]
   exact⟨rfl,rfl⟩
theorem yn:aL Try.prog GL 16 qS.spec:=Ct.okH _ Try.func16 (by kernel_rfl) aW aH zt (aX (by kernel_rfl) zc)
def tc:Ct:=⟨[.val cI,.val cI],[.val cI],fun _=>[],fun d=>((hM d.1 d.2.1,()),())⟩
def wE:aG tc.ps->aN:=(fun _=>{})
theorem Bu :
 ∀(a b:Int),aq a/\aq b/\True->True-> ∀(c:Bool),c=decide (a<0)->((! c)->((! c)->(! c))/\True)/\(c=false->(! c))/\ ∀(d:Bool),(d=bif c then true else decide (1024<a))->((! d)->((! d)->(! d))/\True)/\(d=false->(! d))/\ ∀(e:Bool),(e=bif d then true else decide (b<1))->((! e)->((! e)->(! e))/\True)/\(e=false->(! e))/\aw (bif e then true else decide (64<b)) ((0:Int)=hM a b) (b≠(0:Int)/\IntKind.wrap .i64 (IntKind.wrap .i64 ((4:Int)*IntKind.wrap .i64 (IntKind.wrap .i64 (Int.tdiv a b)+(2:Int)))+(2000:Int))=hM a b):=by
  rintro n w - -
  (repeat (intro (b_:Bool) (hb_:b_=_);(repeat refine⟨(by first|(simp;done)|(rw[hb_];simp;done)|(rw[hb_];simp;omega)|(rw[hb_];simp;intros;omega)|(rw[hb_];simp +contextual;done)),?_⟩);subst hb_))
  refine aJ (fun h=>?_) (fun h=>?_)
  ·have h:n<0∨1024<n∨w<1∨64<w:=by
    simp only[Bool.cond_true_left,Bool.or_eq_true,decide_eq_true_eq] at h
    omega
   unfold hM
   rw[if_pos h]
  ·have h:¬ (n<0∨1024<n∨w<1∨64<w):=by
    simp only[Bool.cond_true_left,Bool.or_eq_false_iff,decide_eq_false_iff_not] at h
    omega
   have hq:0<=n/w/\n/w<=n:=⟨Int.ediv_nonneg (by omega) (by omega),Int.ediv_le_self _ (by omega)⟩
   have ht:Int.tdiv n w=n/w:=Int.tdiv_eq_ediv_of_nonneg (by omega)
   refine⟨by omega,?_⟩
   unfold hM
   rw[if_neg h,ht,ag (n:=n/w) (by omega) (by omega),ag (n:=n/w+2) (by omega) (by omega),ag (n:=4*(n/w+2)) (by omega) (by omega),ag (by omega) (by omega)]
theorem AR:aL Try.prog GL 13 tc.spec:=Ct.okH _ Try.func13 (by kernel_rfl) aW aH wE (aX (by kernel_rfl) Bu)
def uq:Ct:=⟨[.agg bG],[.val .bool],fun _=>[],fun d=>((jj d.1,()),())⟩
def zk:aG uq.ps->aN:=(fun _=>{})
theorem zM :
 ∀(a:Int×Int×Int×List (List Int)×Int×List (List Int)×List (Int×List Int)×List (Int×Int×List Int)×List (Int×Int×List Int)),CT.wf bG a/\True->True-> ∀(b:Bool),b=decide ((a.2.2.2.2.2.1.length:Int)=(a.2.2.2.1.length:Int))->(b->(b->b)/\True)/\(b->(b->b)/\True)/\(b->(b->b)/\True)/\(b->(b->b)/\(b->b)/\True)/\(b->b)/\(bif b then decide (a.2.2.2.2.1=(a.2.2.2.1.length:Int)) else false)=jj a:=by
  rintro c - -
  (repeat (intro (b_:Bool) (hb_:b_=_);(repeat refine⟨(by first|(simp;done)|(rw[hb_];simp;done)|(rw[hb_];simp;omega)|(rw[hb_];simp;intros;omega)|(rw[hb_];simp +contextual;done)),?_⟩);subst hb_))
  have e:jj c=(decide (c.2.2.2.2.2.1.length=c.2.2.2.1.length)&&decide (c.2.2.2.2.1=(c.2.2.2.1.length:Int))):=rfl
  rw[e]
  by_cases h:c.2.2.2.2.2.1.length=c.2.2.2.1.length
  ·rw[decide_eq_true h,decide_eq_true (by omega)];rfl
  ·rw[decide_eq_false h,decide_eq_false (by omega)];rfl
theorem Aw:aL Try.prog GL 14 uq.spec:=Ct.okH _ Try.func14 (by kernel_rfl) aW aH zk (aX (by kernel_rfl) zM)
theorem XI.cp{c:ak}(h:XI c):lB c:=by
 have hl:=h.log
 have hi:=h.it
 have hn:(aK c).length<=(ae c).length:=h.rc.n
 have hg:aK c=(ae c).take (aK c).length:=h.rc.g
 have hr:=(n9 h.rc hl ⟨h.kn.1,by have:=h.kn.2;omega⟩ h.win).2
 refine⟨⟨by omega,fun b hb=>by have:=hi b hb;omega⟩,⟨by omega,fun b hb=>?_⟩,⟨by omega,fun x hx=>?_⟩,⟨by have:=h.dn.n;omega,fun t ht=>?_⟩,⟨by have:=h.up.n;omega,fun t ht=>?_⟩⟩
 ·have:=hi b (by rw[hg] at hb;exact List.mem_of_mem_take hb)
  omega
 ·obtain⟨⟨k1,k2⟩,k3,k4⟩:=h.rc.e.r x hx
  have:=hi _ (cy (xs:=ae c) (i:=x.1) (hr.2.2 x hx).1 k2)
  rw[k4];omega
 ·have:=(nT (h.dd t ht) hi).2;omega
 ·obtain⟨m,h1,h2⟩:=nJ (h.ud t ht) hl
  omega
def qC:Ct:=⟨[.agg bG,.val (.sl aV)],[.agg bG,.val cI],fun d=>[XR d.1],fun d=>((fu d.1 d.2.1,c8 d.1 d.2.1,()),())⟩
def x4:aG qC.ps->aN:=(fun _=>{})
theorem BO :
 ∀(a:Int×Int×Int×List (List Int)×Int×List (List Int)×List (Int×List Int)×List (Int×Int×List Int)×List (Int×Int×List Int))(b:List Int),CT.wf bG a/\(b.length<=maxLen/\ ∀(c:Int),c∈b->0<=c/\c<=255)/\True->XI a/\bm a<=585*ac a-> ∀(c:Bool),c=decide (1024<=(a.2.2.2.1.length:Int))->((! c)->((! c)->(! c))/\True)/\((! c)->((! c)->(! c))/\True)/\(c=false->(! c))/\aw (bif c then true else decide (6000<(b.length:Int))) ((iR)=fu a b/\(5:Int)=c8 a b) (lB a/\(b.length:Int)<=1099511627776/\(a.2.2.2.1.length+List.length [b])*(24:Nat)<=(140737488355328:Nat)/\(a.1,a.2.1,a.2.2.1,a.2.2.2.1++[b],a.2.2.2.2)=fu a b/\(0:Int)=c8 a b):=by
  delta iR
  rintro c b ⟨⟨-,-,-,⟨hl,-⟩,-⟩,⟨hb,-⟩,-⟩⟨hx,ho⟩
  (repeat (intro (b_:Bool) (hb_:b_=_);(repeat refine⟨(by first|(simp;done)|(rw[hb_];simp;done)|(rw[hb_];simp;omega)|(rw[hb_];simp;intros;omega)|(rw[hb_];simp +contextual;done)),?_⟩);subst hb_))
  refine kq (fun h=>?_) (fun h1 h2=>?_)
  ·have e:c8 c b=5:=by
    unfold c8
    refine if_pos ?_
    rcases h with q|q
    ·have:=of_decide_eq_true q
     exact .inl (by show 1024<=c.2.2.2.1.length;omega)
    ·exact .inr (of_decide_eq_true q)
   unfold fu
   rw[e]
   exact⟨rfl,rfl⟩
  ·have h1:=of_decide_eq_false h1
   have h2:=of_decide_eq_false h2
   have e:c8 c b=0:=by
    unfold c8
    refine if_neg ?_
    rintro (q|q)
    ·have q:1024<=c.2.2.2.1.length:=q
     omega
    ·omega
   unfold fu
   rw[e]
   refine⟨hx.cp,by omega,by simp only[List.length_singleton];omega,?_,rfl⟩
   rfl
theorem xK:aL Try.prog GL 18 qC.spec:=Ct.okH _ Try.func18 (by kernel_rfl) (aI (aI aW tK) jz) aH x4 (aX (by kernel_rfl) BO)
def t5:Ct:=⟨[.agg bG,.val cI],[.agg bG,.val cI],fun d=>[XR d.1],fun d=>((fG d.1 d.2.1,dw d.1 d.2.1,()),())⟩
def zY:aG t5.ps->aN:=(fun d=>{loops:=(fun n=>match n with|4=>some (fun S=>{ι:=Int×ak,qn:=⟨fun k_=>∀(r:Int)(b:ak),k_ (r,b),fun k_ h_ i=>h_ i.1 i.2,fun k_=>∃ (r:Int) (b:ak),k_ (r,b),fun k_ ⟨r,b,h_⟩=>⟨_,h_⟩⟩,μ:=fun i=>i.1.toNat,inv:=fun i=>0<=i.1/\i.1<=max 0 d.2.1/\(i.1<d.2.1->ac d.1+(d.2.1-i.1)<=1099511627776)/\i.2=bh (max 0 d.2.1-i.1).toNat d.1,keep:=[2,4,5],slots:=fun i=>[(1,.int .i64 i.1)],keepN:=[80],names:=fun i=>[(48,.live (.cells 28 [.int .i64 (ac i.2),.int .i64 (bm i.2),.int .i64 (aj i.2),.own 524288 1,.int .i64 (ay i.2),.own 524289 1,.own 524290 2,.own 524291 3,.own 524292 3])),(524288,.live (.row 22 (.sl aV) (ae i.2))),(524289,.live (.row 22 (.sl aV) (aK i.2))),(524290,.live (.row 51 dU (aA i.2))),(524291,.live (.row 53 bf (aD i.2))),(524292,.live (.row 53 bf (bk i.2)))]})|_=>none)})
def kM(e:ak) :=
 (ac e,bm e,aj e,ae e,ay e,aK e,aA e,aD e,bk e)
theorem AK :
 ∀(a:Int×Int×Int×List (List Int)×Int×List (List Int)×List (Int×List Int)×List (Int×Int×List Int)×List (Int×Int×List Int))(b:Int),CT.wf bG a/\aq b/\True->XI a/\bm a<=585*ac a-> ∀(c:Bool),c=decide (b<0)->((! c)->((! c)->(! c))/\True)/\(c=false->(! c))/\aw (bif c then true else decide (100000<b)) ((iR)=fG a b/\(1:Int)=dw a b) (lB a/\(∃(d:Int) (e:ak),(0<=d/\d<=max (0:Int) b/\(d<b->ac a+(b -d)<=1099511627776)/\e=bh (Int.toNat (max (0:Int) b -d)) a)/\b=d/\(0:Int)=0/\(0:Int)=0/\(0:Int)=0/\(0:Int)=0/\(0:Int)=0/\a.1=ac e/\a.2.1=bm e/\a.2.2.1=aj e/\a.2.2.2.2.1=ay e/\a.2.2.2.1=ae e/\a.2.2.2.2.2.1=aK e/\a.2.2.2.2.2.2.1=aA e/\a.2.2.2.2.2.2.2.1=aD e/\a.2.2.2.2.2.2.2.2=bk e/\True)/\ ∀(d:Int)(e:ak),0<=d/\d<=max (0:Int) b/\(d<b->ac a+(b -d)<=1099511627776)/\e=bh (Int.toNat (max (0:Int) b -d)) a->aw (decide (0<d)) (aw (decide (1099511627776<=ac e))
 ((iR)=fG a b/\(5:Int)=dw a b) (XR (kM e)/\ac (kM e)<1099511627776/\dr ([]:List (Bool×Int×Int))/\dr ([]:List (Bool×Int×Int))/\ ∀(f g h:Int)(i:List (List Int))(j:Int)(k:List (List Int))(l:List (Int×List Int))(m n:List (Int×Int×List Int)),(f,g,h,i,j,k,l,m,n)=bc (kM e) ([]:List (Bool×Int×Int)) ([]:List (Bool×Int×Int))-> ∃(o:Int) (p:ak),(0<=o/\o<=max (0:Int) b/\(o<b->ac a+(b -o)<=1099511627776)/\p=bh (Int.toNat (max (0:Int) b -o)) a)/\o.toNat<d.toNat/\IntKind.wrap .i64 (d -(1:Int))=o/\(0:Int)=0/\(0:Int)=0/\(0:Int)=0/\(0:Int)=0/\(0:Int)=0/\f=ac p/\g=bm p/\h=aj p/\j=ay p/\i=ae p/\k=aK p/\l=aA p/\m=aD p/\n=bk p/\True)) ((kM e)=fG a b/\(0:Int)=dw a b)):=by
  delta iR kM
  rintro c n-⟨hx,ho⟩
  (repeat (intro (b_:Bool) (hb_:b_=_);(repeat refine⟨(by first|(simp;done)|(rw[hb_];simp;done)|(rw[hb_];simp;omega)|(rw[hb_];simp;intros;omega)|(rw[hb_];simp +contextual;done)),?_⟩);subst hb_))
  refine kq (fun h=>?_) (fun h1 h2=>⟨hx.cp,?_⟩)
  ·have e:dw c n=1:=by
    unfold dw
    refine if_pos ?_
    rcases h with q|q
    ·exact .inl (of_decide_eq_true q)
    ·exact .inr (of_decide_eq_true q)
   unfold fG
   rw[e]
   exact⟨rfl,rfl⟩
  ·have h1:=of_decide_eq_false h1
   have h2:=of_decide_eq_false h2
   refine⟨⟨n,c,⟨by omega,by omega,by omega,?_⟩,(by repeat' first|exact trivial|refine⟨trivial,?_⟩|refine⟨(by with_reducible rfl),?_⟩|refine⟨ag (by omega) (by omega),?_⟩|refine⟨rfl,?_⟩)⟩,?_⟩
   ·rw[show max 0 n-n=0 by omega];rfl
   rintro r b ⟨r0,r1,r2,rfl⟩
   obtain⟨hb,hnow,-⟩:=hx.runs (max 0 n-r).toNat
   have hxr:=XR.runs ⟨hx,ho⟩ (max 0 n-r).toNat
   generalize hbb:bh (max 0 n-r).toNat c=b at *
   refine aJ (fun h3=>aJ (fun h4=>?_) (fun h4=>?_)) (fun h3=>?_)
   ·have h3:=of_decide_eq_true h3
    have h4:=of_decide_eq_true h4
    have e:dw c n=5:=by
     unfold dw
     rw[if_neg (by omega),if_pos (by omega)]
    unfold fG
    rw[e]
    exact⟨rfl,rfl⟩
   ·have h3:=of_decide_eq_true h3
    have h4:=of_decide_eq_false h4
    refine⟨hxr,by show ac b<_;omega,dW,dW,?_⟩
    rintro y1 y2 y3 y4 y5 y6 y7 y8 y9 he
    have he:((y1,y2,y3,y4,y5,y6,y7,y8,y9):ak)=bc b [] []:=he
    have e2:bh (max 0 n-(r-1)).toNat c=bc b [] []:=by
     rw[← hbb,show (max 0 n-(r-1)).toNat=(max 0 n-r).toNat+1 by omega,gH]
    refine⟨r-1,(y1,y2,y3,y4,y5,y6,y7,y8,y9),⟨by omega,by omega,by omega,?_⟩,by omega,(by repeat' first|exact trivial|refine⟨trivial,?_⟩|refine⟨(by with_reducible rfl),?_⟩|refine⟨ag (by omega) (by omega),?_⟩|refine⟨rfl,?_⟩)⟩
    rw[e2,he]
   ·have h3:=of_decide_eq_false h3
    have hr:r=0:=by omega
    subst hr
    have e:dw c n=0:=by
     unfold dw
     rw[if_neg (by omega),if_neg (by omega)]
    unfold fG
    rw[e,if_pos rfl]
    refine⟨?_,rfl⟩
    rw[← hbb,show (max 0 n-0).toNat=n.toNat by omega]
    rfl
theorem tV:aL Try.prog GL 11 t5.spec:=Ct.okH _ Try.func11 (by kernel_rfl) (aI (aI aW tK) (Ct.named yb)) aH zY (aX (by kernel_rfl) AK)
end Go.RS
