/- SX, part 14: one operation with its guard; what it touches. -/
import Derived.Test.YtffciochlkcjbaaSx13
import Derived.Orders
import Derived.Scope
namespace Go.SX
set_option linter.unusedVariables false
def bd(sl:List SV)(i:Nat):SV:=match dL sl i with
 | some v=>v
 | none => .junk
structure FS where
 sl:List SV
 h:aI
def mb:SV->SV
 | .opt _ v=>v
 | v=>v
def qr(g:Bool):SV->List Prop
 | .opt b _=>[g=true->b=true]
 | _=>[]
def iE:List Operand->List Nat
 | []=>[]
 | .tmp t::r=>t::iE r
 | _::r=>iE r
def eP(n:Nat):List Nat->Bool
 | []=>false
 | m::r=>Nat.beq n m||eP n r
theorem jS{n:Nat}:∀{l:List Nat},eP n l=true↔n∈l
 | []=>by simp[eP]
 | m::r=>by simp[eP,jS (l:=r)]
def hZ(o:Oper):List Nat:=match o.op with
 | .pick (.tmp c) _ _=>[c]
 | .pick _ _ _=>[]
 | op=>iE op.operands.toList
inductive GV where
 | always
 | cond (g:Bool)
 | unknown
abbrev ut(b want:Bool):Bool:=match want with
 | true=>b
 | false => !b
def jz(ops:List Oper)(sl:List SV):Option (Nat×Bool)->GV
 | none => .always
 | some (j,want)=>match dL ops j with
  | some oj=>match oj.dst with
   | some d=>match bd sl d with
    | .bool b => .cond (ut b want)
    | .opt g (.bool b) => .cond (g&&ut b want)
    | v=>match nA v with
     | true => .cond false
     | false => .unknown
   | none => .unknown
  | none => .unknown
inductive cf:Type 1 where
 | go (d:Dl)
 | split (g:Bool) (d:Dl)
def fQ(g:Bool)(sl:List SV):List Nat->List Prop
 | []=>[]
 | i::r=>qr g (bd sl i)++fQ g sl r
def lw:List Prop->Bool->List Prop
 | [],_=>[]
 | l,g=>[g=true->aB l]
def tW(g:Bool)(pu:List Prop)(d:Dl):Q cf:=match d with
 | .det pre v [] => .ret (.go (.det (lw (pu++pre) g) (.opt g v) []))
 | .det pre v upd => .ret (.split g (.det (pu++pre) v upd))
 | .nd X qn pre R inh v upd => .ret (.split g (.nd X qn (pu++pre) R (fun h=>inh (eY.1 h).2) v upd))
def mz(sl:List SV):List Nat->Bool
 | []=>false
 | i::r=>nA (bd sl i)||mz sl r
def dj(P:Program)(sp:bc)(ops:List Oper)(o:Oper)(sl:List SV):Q cf:=match jz ops sl o.guard with
 | .always=>(jG P sp o (bd sl)).bind fun d=>.ret (.go d)
 | .cond g=>match mz sl (hZ o) with
  | true => .ret (.go (.det [g=false] (.cv undef) []))
  | false=>(jG P sp o (fun i=>match eP i (hZ o) with|true=>mb (bd sl i)|false=>bd sl i)).bind (tW g (fQ g sl (hZ o)))
 | .unknown => .fail
def cA(sl:List SV)(dst:Option Tmp)(v:SV):List SV:=match dst with
 | some d=>sl.set d v
 | none=>sl
def FS.app(F:FS)(dst:Option Tmp)(d:Dl)(x:d.X):FS:=⟨cA F.sl dst (d.val x),d.hp x F.h⟩
def FS.skip(F:FS)(dst:Option Tmp):FS:=⟨cA F.sl dst (.cv undef),F.h⟩
def de(st:cf)(dst:Option Tmp)(F F':FS):Prop:=match st with
 | .go d=>∃ x,d.R x/\F'=F.app dst d x
 | .split g d=>(g=true∧∃ x,d.R x/\F'=F.app dst d x)∨(g=false/\F'=F.skip dst)
def cf.pre:cf->Prop
 | .go d=>aB d.pre
 | .split g d=>g=true->aB d.pre
def cf.wr:cf->List Nat
 | .go d=>d.wr
 | .split _ d=>d.wr
structure bT (w0:World) (N0:bv) (A:Nat->Prop) (env:ai) (F:FS) (a:Act) (w:World):Prop where
 m:aw w0 N0 A env F.h w
 len:F.sl.length<=a.tmps.size
 f:FD A env w (bd F.sl) a
 dfr:a.defers=[]
section
variable {P:Program} {sp:bc} {w0:World} {N0:bv} {A:Nat->Prop} {env:ai} {F F':FS} {w:World} {o:Oper} {a:Act} {st:cf} {r:List Nat}
theorem tw{sl:List SV}{d i:Nat}{v:SV}:bd (sl.set d v) i=if i=d/\d<sl.length then v else bd sl i:=by
 unfold bd
 simp only[i6,List.getElem?_set]
 by_cases h:d=i
 ·subst h
  by_cases h2:d<sl.length
  ·simp[h2]
  ·simp[h2]
 ·have:¬ i=d:=fun e=>h e.symm
  simp[h,this]
theorem ug{A':Nat->Prop}{env':ai}{w':World}{sl:List SV}{v:SV}{u:Value}(len:sl.length<=a.tmps.size)(f:FD A env w (bd sl) a)(x:aW A env w A' env' w')(dst:Option Tmp)
  (hd:aa A' env' w' v u):FD A' env' w' (bd (cA sl dst v)) (a.put dst u):=by
 intro i
 cases dst with
 | none=>exact gC x _ _ (f i)
 | some d =>
  simp only[cA,Act.put]
  rw[tw]
  split
  ·rename_i h
   obtain⟨rfl,h⟩:=h
   have hi:i<a.tmps.size:=by omega
   simp only[Array.getD_eq_getD_getElem?,Array.getElem?_setIfInBounds_self_of_lt hi,Option.getD_some]
   exact hd
  ·rename_i h
   by_cases hid:i=d
   ·subst hid
    have:¬ i<sl.length:=fun hh=>h ⟨rfl,hh⟩
    have:bd sl i = .junk:=by unfold bd;rw[i6,List.getElem?_eq_none (by omega)]
    rw[this];simp only[aa]
   ·have h2:=gC x _ _ (f i)
    simp only[Array.getD_eq_getD_getElem?] at h2 ⊢
    rw[Array.getElem?_setIfInBounds_ne (fun e=>hid e.symm)]
    exact h2
theorem wd(a:Act)(dst:Option Tmp)(v:Value):(a.put dst v).tmps.size=a.tmps.size:=by cases dst <;> simp[Act.put]
theorem uu(a:Act)(dst:Option Tmp)(v:Value):(a.put dst v).defers=a.defers:=by cases dst <;> rfl
theorem vL(sl:List SV)(dst:Option Tmp)(v:SV):(cA sl dst v).length=sl.length:=by cases dst <;> simp[cA]
theorem bT.app(t:bT w0 N0 A env F a w){d:Dl}{v:Value}{w':World}(g:bp w0 N0 A env F.h w d v w')(dst:Option Tmp) :
  ∃ x A' env',d.R x/\bT w0 N0 A' env' (F.app dst d x) (a.put dst v) w'∧aW A env w A' env' w':=by
 obtain⟨x,A',env',hR,m',e',hd⟩:=g
 exact⟨x,A',env',hR,⟨m',by simp only[FS.app,vL,wd];exact t.len,ug t.len t.f e' dst hd,by rw[uu];exact t.dfr⟩,e'⟩
theorem bT.skip(t:bT w0 N0 A env F a w)(dst:Option Tmp):bT w0 N0 A env (F.skip dst) (a.put dst undef) w :=
 ⟨t.m,by simp only[FS.skip,vL,wd];exact t.len,ug t.len t.f aW.refl dst (by simp only[aa]),by rw[uu];exact t.dfr⟩
theorem yv(a:Act){ops:Array Oper}(h:o.guard=none):Region.wanted o (yielded ops a.tmps)=true:=by simp[Region.wanted,h]
theorem D2(t:bT w0 N0 A env F a w){ops:Array Oper}{g:Bool}(e:jz ops.toList F.sl o.guard = .cond g) :
  Region.wanted o (yielded ops a.tmps)=g:=by
 unfold jz at e
 split at e
 ·cases e
 ·rename_i j want hg
  have hw:Region.wanted o (yielded ops a.tmps)=(yielded ops a.tmps j == some want):=by simp[Region.wanted,hg]
  split at e
  ·rename_i oj hj
   split at e
   ·rename_i d hd
    have hj':ops[j]? = some oj:=by rw[i6,Array.getElem?_toList] at hj;exact hj
    have hy:yielded ops a.tmps j=match a.tmps[d]? with|some (.bool b)=>some b|_=>none:=by
     unfold yielded;rw[hj'];simp only[Option.bind_some,hd];rfl
    have hfd:=t.f d
    have getIt:∀{v:Value},a.tmps.getD d undef=v->v≠undef->a.tmps[d]? = some v:=by
     intro v hv hne
     rw[Array.getD_eq_getD_getElem?] at hv
     cases hx:a.tmps[d]? with
     | none=>rw[hx] at hv;exact absurd hv.symm hne
     | some u=>rw[hx] at hv;simp only[Option.getD_some] at hv;rw[hv]
    rw[hw,hy]
    split at e
    ·rename_i b hb
     cases e
     rw[hb] at hfd;simp only[aa] at hfd
     rw[getIt hfd (by simp[undef])]
     cases b <;> cases want <;> rfl
    ·rename_i g' b hb
     cases e
     rw[hb] at hfd
     cases g' with
     | true =>
      simp only[aa] at hfd
      rw[getIt hfd (by simp[undef])]
      cases b <;> cases want <;> rfl
     | false =>
      simp only[aa] at hfd
      rw[Array.getD_eq_getD_getElem?] at hfd
      cases hx:a.tmps[d]? with
      | none=>rfl
      | some u=>rw[hx] at hfd;simp only[Option.getD_some] at hfd;subst hfd;rfl
    ·rename_i hv1 hv2
     split at e
     ·rename_i hun
      cases e
      have hun':∃ vs,bd F.sl d = .cv (.tuple vs)/\vs.isEmpty=true:=by
       generalize bd F.sl d=v at hun
       unfold nA at hun
       split at hun
       ·rename_i vs;exact⟨vs,rfl,hun⟩
       ·cases hun
      obtain⟨vs,h1,h2⟩:=hun'
      rw[h1] at hfd;simp only[aa] at hfd
      rw[Array.getD_eq_getD_getElem?] at hfd
      cases hx:a.tmps[d]? with
      | none=>rfl
      | some u=>rw[hx] at hfd;simp only[Option.getD_some] at hfd;subst hfd;rfl
     ·cases e
   ·cases e
  ·cases e
theorem tK{g:Bool}{sl:List SV}:∀{l:List Nat},aB (fQ g sl l)→∀ i∈l,aB (qr g (bd sl i))
 | [],_,i,hi=>by simp at hi
 | j::r,h,i,hi=>by
  simp only[fQ,eY] at h
  rcases List.mem_cons.1 hi with rfl|hi
  ·exact h.1
  ·exact tK h.2 i hi
theorem EO(f:FD A env w (bd F.sl) a){l:List Nat}(hp:aB (fQ true F.sl l)) :
  FD A env w (fun i=>match eP i l with|true=>mb (bd F.sl i)|false=>bd F.sl i) a:=by
 intro i
 show aa A env w (match eP i l with|true=>mb (bd F.sl i)|false=>bd F.sl i) _
 cases hm:eP i l with
 | false=>exact f i
 | true =>
  have:=tK hp i (jS.1 hm)
  have hf:=f i
  show aa A env w (mb (bd F.sl i)) _
  generalize bd F.sl i=v at *
  cases v with
  | opt b v =>
   have hb:b=true:=by simpa[qr,aB] using this
   subst hb
   simpa only[mb,aa] using hf
  | _=>exact hf
theorem Do{l:List Prop}{g:Bool}(h:aB (lw l g))(hg:g=true):aB l:=by
 cases l with
 | nil=>trivial
 | cons p l=>simp only[lw,aB,and_true] at h;exact h hg
theorem rU(hs:ca P sp/\N0.g=sp.gl)(t:bT w0 N0 A env F a w){ops:Array Oper}(e:(dj P sp ops.toList o F.sl).run F.h=some (st,r))(hp:st.pre) :
  (∃ F',de st o.dst F F'∧∃ A' env' a' w',bT w0 N0 A' env' F' a' w'∧aW A env w A' env' w') ∧
  ∀(K:Act->World->Prop)(Q':Exit->Act->World->Prop),(∀ F' A' env' a' w',de st o.dst F F'→bT w0 N0 A' env' F' a' w'→aW A env w A' env' w'→K a' w') →
   if Region.wanted o (yielded ops a.tmps) then o.wp P a w K Q'∨(o.asks P a w/\LetsOut Q') else K (a.put o.dst undef) w:=by
 unfold dj at e
 split at e
 ·rename_i hg
  obtain⟨d,r1,r2,e1,e2,rfl⟩:=Q.run_bind _ _ _ e
  simp only[Q.run,Option.some.injEq,Prod.mk.injEq] at e2
  obtain⟨rfl,rfl⟩:=e2
  obtain⟨⟨v,w',g⟩,hst⟩:=tq hs t.m t.f e1 hp
  have hgn:o.guard=none:=by
   unfold jz at hg
   split at hg
   ·assumption
   ·split at hg
    ·split at hg
     ·split at hg
      ·cases hg
      ·cases hg
      ·split at hg <;> cases hg
     ·cases hg
    ·cases hg
  refine⟨?_,fun K Q' hK=>?_⟩
  ·obtain⟨x,A',env',hR,t',x'⟩:=t.app g o.dst
   exact⟨_,⟨x,hR,rfl⟩,A',env',_,_,t',x'⟩
  ·rw[yv a hgn]
   refine .inl (hst K Q' fun v w' g=>?_)
   obtain⟨x,A',env',hR,t',x'⟩:=t.app g o.dst
   exact hK _ _ _ _ _ ⟨x,hR,rfl⟩ t' x'
 ·rename_i g hg
  have hwant:=D2 t hg
  split at e
  ·simp only[Q.run,Option.some.injEq,Prod.mk.injEq] at e
   obtain⟨rfl,rfl⟩:=e
   simp only[cf.pre,Dl.pre,aB,and_true] at hp
   rw[hwant]
   subst hp
   have gd:bp w0 N0 A env F.h w (.det [false=false] (.cv undef) []) undef w :=
    ⟨(),A,env,trivial,t.m,aW.refl,by simp only[Dl.val,aa]⟩
   obtain⟨x,A',env',hR,t',x'⟩:=t.app gd o.dst
   refine⟨⟨_,⟨x,hR,rfl⟩,A',env',_,_,t',x'⟩,fun K Q' hK=>?_⟩
   rw[if_neg (by simp)]
   exact hK _ _ _ _ _ ⟨x,hR,rfl⟩ t' x'
  obtain⟨d,r1,r2,e1,e2,rfl⟩:=Q.run_bind _ _ _ e
  rw[hwant]
  have yes:g=true->aB (fQ g F.sl (hZ o))->aB d.pre->(∃ v w',bp w0 N0 A env F.h w d v w')/\lp P o a w0 N0 A env F.h w d:=by
   rintro rfl h1 h2
   exact tq hs t.m (EO t.f h1) e1 h2
  have splitCase:∀ d',st = .split g d'→d'.X=d.X->(∀(h1:aB d'.pre),aB (fQ g F.sl (hZ o))/\aB d.pre) →
    (∀ v w',bp w0 N0 A env F.h w d v w'→bp w0 N0 A env F.h w d' v w') →
    (∃ F',de st o.dst F F'∧∃ A' env' a' w',bT w0 N0 A' env' F' a' w'∧aW A env w A' env' w') ∧
    ∀(K:Act->World->Prop)(Q':Exit->Act->World->Prop),(∀ F' A' env' a' w',de st o.dst F F'→bT w0 N0 A' env' F' a' w'→aW A env w A' env' w'→K a' w') →
     if g=true then o.wp P a w K Q'∨(o.asks P a w/\LetsOut Q') else K (a.put o.dst undef) w:=by
   rintro d' rfl _ hpre hgood
   cases g with
   | true =>
    obtain⟨h1,h2⟩:=hpre (hp rfl)
    obtain⟨⟨v,w',gd⟩,hst⟩:=yes rfl h1 h2
    refine⟨?_,fun K Q' hK=>?_⟩
    ·obtain⟨x,A',env',hR,t',x'⟩:=t.app (hgood _ _ gd) o.dst
     exact⟨_,.inl ⟨rfl,x,hR,rfl⟩,A',env',_,_,t',x'⟩
    ·rw[if_pos rfl]
     refine .inl (hst K Q' fun v w' gd=>?_)
     obtain⟨x,A',env',hR,t',x'⟩:=t.app (hgood _ _ gd) o.dst
     exact hK _ _ _ _ _ (.inl ⟨rfl,x,hR,rfl⟩) t' x'
   | false =>
    refine⟨⟨_,.inr ⟨rfl,rfl⟩,A,env,_,_,t.skip o.dst,aW.refl⟩,fun K Q' hK=>?_⟩
    rw[if_neg (by simp)]
    exact hK _ _ _ _ _ (.inr ⟨rfl,rfl⟩) (t.skip o.dst) aW.refl
  unfold tW at e2
  split at e2
  ·rename_i pre v
   simp only[Q.run,Option.some.injEq,Prod.mk.injEq] at e2
   obtain⟨rfl,rfl⟩:=e2
   simp only[cf.pre,Dl.pre] at hp
   cases g with
   | true =>
    have h12:=Do hp rfl
    rw[eY] at h12
    obtain⟨⟨u,w',gd⟩,hst⟩:=yes rfl h12.1 h12.2
    have conv:∀ u w',bp w0 N0 A env F.h w (.det pre v []) u w'→bp w0 N0 A env F.h w (.det (lw (fQ true F.sl (hZ o)++pre) true) (.opt true v) []) u w':=by
     rintro u w' ⟨x,A',env',hR,m',x',hd⟩
     exact⟨(),A',env',trivial,m',x',by simpa only[Dl.val,aa] using hd⟩
    refine⟨?_,fun K Q' hK=>?_⟩
    ·obtain⟨x,A',env',hR,t',x'⟩:=t.app (conv _ _ gd) o.dst
     exact⟨_,⟨x,hR,rfl⟩,A',env',_,_,t',x'⟩
    ·rw[if_pos rfl]
     refine .inl (hst K Q' fun v w' gd=>?_)
     obtain⟨x,A',env',hR,t',x'⟩:=t.app (conv _ _ gd) o.dst
     exact hK _ _ _ _ _ ⟨x,hR,rfl⟩ t' x'
   | false =>
    have gd:bp w0 N0 A env F.h w (.det (lw (fQ false F.sl (hZ o)++pre) false) (.opt false v) []) undef w :=
     ⟨(),A,env,trivial,t.m,aW.refl,by simp only[Dl.val,aa]⟩
    obtain⟨x,A',env',hR,t',x'⟩:=t.app gd o.dst
    refine⟨⟨_,⟨x,hR,rfl⟩,A',env',_,_,t',x'⟩,fun K Q' hK=>?_⟩
    rw[if_neg (by simp)]
    exact hK _ _ _ _ _ ⟨x,hR,rfl⟩ t' x'
  ·rename_i pre v upd _
   simp only[Q.run,Option.some.injEq,Prod.mk.injEq] at e2
   obtain⟨rfl,rfl⟩:=e2
   exact splitCase _ rfl rfl (fun h1=>by simpa only[Dl.pre,eY] using h1) (fun u w' ⟨x,A',env',hR,m',x',hd⟩=>⟨(),A',env',trivial,m',x',hd⟩)
  ·rename_i X pre R inh v upd
   simp only[Q.run,Option.some.injEq,Prod.mk.injEq] at e2
   obtain⟨rfl,rfl⟩:=e2
   exact splitCase _ rfl rfl (fun h1=>by simpa only[Dl.pre,eY] using h1) (fun u w' ⟨x,A',env',hR,m',x',hd⟩=>⟨x,A',env',hR,m',x',hd⟩)
 ·cases e
end
end Go.SX

/- SX, part 15: regions whose order is open: the text's order serves every order. -/
namespace Go.SX
set_option linter.unusedVariables false
def ji:Option Tmp->List Nat
 | some d=>[d]
 | none=>[]
def gD(wr:List Nat)(h:aI):aI:=fun n=>match eP n wr with
 | true=>h n
 | false => .un
theorem xI{wr:List Nat}{h:aI}{n:Nat}(hn:n∈wr):gD wr h n=h n:=by unfold gD;rw[jS.2 hn]
theorem Ey{wr:List Nat}{h h':aI}(e:∀ n∈wr,h' n=h n):gD wr h'=gD wr h:=by
 funext n
 unfold gD
 split
 ·rename_i hm;exact e n (jS.1 hm)
 ·rfl
structure d6 where
 rd:List Nat
 wr:List Nat
 srd:List Nat
 swr:List Nat
 q:Q cf
 st:cf
 old:aI
def cu(P:Program)(sp:bc)(ops:Array Oper)(o:Oper)(st:cf)(r:List Nat)(F:FS):d6:=⟨r,st.wr,o.looksAt ops,ji o.dst,dj P sp ops.toList o F.sl,st,gD st.wr F.h⟩
def fb:List Nat->List Nat->Bool
 | [],_=>true
 | a::r,l => !eP a l&&fb r l
theorem fL:∀{l m:List Nat},fb l m=true→∀ n∈l,n ∉ m
 | [],m,_,n,hn=>by simp at hn
 | a::r,m,h,n,hn=>by
  simp only[fb,Bool.and_eq_true,Bool.not_eq_true'] at h
  rcases List.mem_cons.1 hn with rfl|hn
  ·intro hm;rw[jS.2 hm] at h;exact absurd h.1 (by simp)
  ·exact fL h.2 n hn
def pH(s t:d6):Bool:=fb s.wr t.rd&&fb s.wr t.wr&&fb t.wr s.rd&&fb s.swr t.srd&&fb s.swr t.swr&&fb t.swr s.srd
def pK(s t:d6):Prop:=∃ pre v u,(s.st = .go (.det pre v u)∨∃ g,s.st = .split g (.det pre v u))/\(∀ n∈t.rd,n∈s.wr)/\t.q.run s.old=some (t.st,t.rd)/\t.q.run (aM u s.old)=some (t.st,t.rd)
structure gT (s t:d6):Prop where
 a:(∀ n∈s.wr,n ∉ t.rd)∨pK s t
 b:∀ n∈s.wr,n ∉ t.wr
 c:(∀ n∈t.wr,n ∉ s.rd)∨pK t s
 d:∀ n∈s.swr,n ∉ t.srd
 e:∀ n∈s.swr,n ∉ t.swr
 f:∀ n∈t.swr,n ∉ s.srd
theorem gT.symm{s t:d6}(h:gT s t):gT t s:=⟨h.c,fun n hn hm=>h.b n hm hn,h.a,h.f,fun n hn hm=>h.e n hm hn,h.d⟩
theorem Ea{s t:d6}(h:pH s t=true):gT s t:=by
 simp only[pH,Bool.and_eq_true] at h
 obtain⟨⟨⟨⟨⟨h1,h2⟩,h3⟩,h4⟩,h5⟩,h6⟩:=h
 exact⟨.inl (fL h1),fL h2,.inl (fL h3),fL h4,fL h5,fL h6⟩
def gS:List Nat->Nat->Nat
 | [],_=>0
 | m::_,0=>m
 | _::r,n+1=>gS r n
theorem o8:∀(l:List Nat)(n:Nat),gS l n=l.getD n 0
 | [],n=>by simp[gS]
 | m::r,0=>rfl
 | m::r,n+1=>by simp[gS,o8 r n]
def kZ(tbl:List Nat):List Edge->Nat
 | []=>0
 | e::r=>match Region.binds .any e with
  | true=>(1 <<< e.on) ||| (gS tbl e.on ||| kZ tbl r)
  | false=>kZ tbl r
def lW:List Oper->List Nat->List Nat
 | [],tbl=>tbl
 | o::r,tbl=>lW r (tbl++[kZ tbl o.after.toList])
def kz(msk:List Nat)(i j:Nat):Bool:=(gS msk j).testBit i
inductive gb (ops:Array Oper):Nat->Nat->Prop where
 | edge {i j:Nat} {o:Oper} {e:Edge} (ho:ops[j]? = some o) (he:e∈o.after) (hb:Region.binds .any e=true) (hi:e.on=i):gb ops i j
 | step {i j:Nat} {o:Oper} {e:Edge} (ho:ops[j]? = some o) (he:e∈o.after) (hb:Region.binds .any e=true) (h:gb ops i e.on):gb ops i j
theorem yq(n i:Nat)(h:(1 <<< n).testBit i=true):i=n:=by
 rw[Nat.testBit_shiftLeft] at h
 simp only[Bool.and_eq_true,decide_eq_true_eq] at h
 have h2:=h.2
 by_cases hz:i-n=0
 ·omega
 ·have:Nat.testBit 1 (i-n)=false:=by
   cases hk:i-n with
   | zero=>exact absurd hk hz
   | succ k=>simp[Nat.testBit_succ]
  rw[this] at h2;cases h2
theorem r6{ops:Array Oper}{tbl:List Nat}{j i:Nat}{o:Oper}(ho:ops[j]? = some o)(ht:∀ k,(gS tbl k).testBit i=true->gb ops i k) :
  ∀(es:List Edge),(∀ e∈es,e∈o.after)->(kZ tbl es).testBit i=true->gb ops i j
 | [],_,h=>by simp[kZ] at h
 | e::r,hm,h=>by
  simp only[kZ] at h
  split at h
  ·rename_i hb
   simp only[Nat.testBit_or,Bool.or_eq_true] at h
   rcases h with h|h|h
   ·exact .edge ho (hm e (by simp)) hb (yq _ _ h).symm
   ·exact .step ho (hm e (by simp)) hb (ht _ h)
   ·exact r6 ho ht r (fun e he=>hm e (List.mem_cons_of_mem _ he)) h
  ·exact r6 ho ht r (fun e he=>hm e (List.mem_cons_of_mem _ he)) h
theorem uG{ops:Array Oper}:∀(l:List Oper)(k:Nat)(tbl:List Nat),(∀ j,l[j]? = ops[k+j]?)->tbl.length=k->(∀ i j,(gS tbl j).testBit i=true->gb ops i j) →
  ∀ i j,(gS (lW l tbl) j).testBit i=true->gb ops i j
 | [],k,tbl,_,_,h=>h
 | o::l,k,tbl,hl,ht,h=>by
  have h0:ops[k]? = some o:=by simpa using (hl 0).symm
  refine uG l (k+1) _ (fun j=>by have:=hl (j+1);simpa[Nat.add_assoc,Nat.add_comm 1 j] using this) (by simp[ht]) ?_
  intro i j hb
  rw[o8,List.getD_eq_getElem?_getD] at hb
  by_cases hj:j<tbl.length
  ·rw[List.getElem?_append_left hj,← List.getD_eq_getElem?_getD,← o8] at hb
   exact h i j hb
  ·by_cases hj2:j=tbl.length
   ·subst hj2
    simp only[List.getElem?_append_right (Nat.le_refl _),Nat.sub_self,List.getElem?_cons_zero,Option.getD_some] at hb
    exact r6 (ht▸h0) (fun k hk=>h i k hk) _ (fun e he=>by simpa using he) hb
   ·rw[List.getElem?_append_right (by omega),List.getElem?_eq_none (by simp;omega)] at hb
    simp at hb
abbrev fo:=List (Nat×d6)
def oG(msk:List Nat)(i:Nat)(t:d6)(l:fo):Prop:=∀ p∈l,kz msk p.1 i=true∨gT p.2 t
section
variable (P:Program) (sp:bc) (ops:Array Oper) (msk:List Nat)
def ge(i:Nat)(log:fo)(K:fo->FS->Prop)(F:FS):Prop :=
 match ops[i]? with
 | none=>K log F
 | some o=>∃ st r,(dj P sp ops.toList o F.sl).run F.h=some (st,r)/\st.pre/\oG msk i (cu P sp ops o st r F) log ∧
   ∀ F',de st o.dst F F'→K ((i,cu P sp ops o st r F)::log) F'
def jl(K:FS->Prop):Nat->Array Bool->fo->FS->Prop
 | 0,listed,log,F=>Region.ready .any ops listed=[]/\K F
 | n+1,listed,log,F=>(Region.ready .any ops listed=[]->K F) ∧
   ∀ i∈Region.ready .any ops listed,ge P sp ops msk i log (fun log' F'=>jl K n (listed.setIfInBounds i true) log' F') F
def iM(K:FS->Prop):List Oper->Nat->fo->FS->Prop
 | [],_,_,F=>K F
 | _::l,k,log,F=>ge P sp ops msk k log (fun log' F'=>iM K l (k+1) log' F') F
end
section
variable {P:Program} {sp:bc} {ops:Array Oper} {msk:List Nat} {w0:World} {N0:bv} {K:FS->Prop}
theorem qC:∀(n:Nat)(listed:Array Bool)(log log':fo)(F:FS),(∀ p,p∈log'↔p∈log)->jl P sp ops msk K n listed log F->jl P sp ops msk K n listed log' F
 | 0,_,_,_,_,_,h=>h
 | n+1,listed,log,log',F,hl,h=>by
  refine⟨h.1,fun i hi=>?_⟩
  have:=h.2 i hi
  unfold ge at this ⊢
  split
  ·rename_i ho
   rw[ho] at this
   exact qC n _ _ _ _ hl this
  ·rename_i o ho
   rw[ho] at this
   obtain⟨st,r,h1,h2,h3,h4⟩:=this
   refine⟨st,r,h1,h2,fun p hp=>h3 p ((hl p).1 hp),fun F' hF=>qC n _ _ _ _ (fun p=>?_) (h4 F' hF)⟩
   simp[hl p]
theorem wH{st:cf}(hp:st.pre)(dst:Option Tmp)(F:FS):∃ F',de st dst F F':=by
 cases st with
 | go d=>obtain⟨x,hx⟩:=d.ne hp;exact⟨_,x,hx,rfl⟩
 | split g d =>
  cases g with
  | true=>obtain⟨x,hx⟩:=d.ne (hp rfl);exact⟨_,.inl ⟨rfl,x,hx,rfl⟩⟩
  | false=>exact⟨_,.inr ⟨rfl,rfl⟩⟩
theorem wY{ρ ρ':Nat->SV}{x:Operand}(h:∀ t,x = .tmp t->ρ t=ρ' t):ag ρ x=ag ρ' x:=by
 cases x with
 | tmp t=>exact h t rfl
 | _=>rfl
theorem CV{o:Oper}{ρ ρ':Nat->SV}(h:∀ x∈o.op.operands,ag ρ x=ag ρ' x):j5 P sp o ρ=j5 P sp o ρ':=by
 have hmap:∀ xs:Array Operand,(∀ x∈xs,ag ρ x=ag ρ' x)->xs.toList.map (ag ρ)=xs.toList.map (ag ρ'):=fun xs hx =>
  List.map_congr_left fun x hm=>hx x (by simpa using hm)
 have hpairs:∀ ps:Array (Nat×Operand),(∀ x∈(ps.toList.map (·.2)).toArray,ag ρ x=ag ρ' x) →
   ps.toList.map (fun p=>(p.1,ag ρ p.2))=ps.toList.map (fun p=>(p.1,ag ρ' p.2)):=fun ps hx =>
  List.map_congr_left fun p hm=>by
   rw[hx p.2 (by
    simp only[List.mem_toArray,List.mem_map]
    exact⟨p,hm,rfl⟩)]
 have hopt:∀ x:Option Operand,(∀ y,x=some y->ag ρ y=ag ρ' y)->x.map (ag ρ)=x.map (ag ρ'):=fun x hx=>by
  cases x with
  | none=>rfl
  | some y=>simp[hx y rfl]
 obtain⟨dst,op,ty,pos,after,guard⟩:=o
 simp only at h
 unfold j5
 cases op <;> simp only[Op.operands] at h <;> simp only
 case move x=>rw[h x (by simp)]
 case assign x=>rw[h x (by simp)]
 case pick c x y=>rw[h c (by simp),h x (by simp),h y (by simp)]
 case box E x=>rw[h x (by simp)]
 case build t ps=>rw[hpairs ps h]
 case buildSlice t n ps=>rw[hpairs ps h]
 case load t x=>rw[show dJ sp ρ x=dJ sp ρ' x from by (cases x with|tmp s=>exact h (.tmp s) (by simp)|_=>rfl)]
 case store t x y=>rw[h x (by simp),h y (by simp)]
 case nilCheck x=>rw[h x (by simp)]
 case binOp op t x y yt=>rw[h x (by simp),h y (by simp)]
 case unOp op t x=>rw[h x (by simp)]
 case convert s t x=>rw[h x (by simp)]
 case makeFunc fn fs caps=>cases fn <;> simp only;rw[hmap caps fun x hx=>h x (by simp[hx])]
 case makeSlice t l c=>rw[h l (by simp),h c (by simp)]
 case slice t x lo hi mx =>
  rw[h x (by simp),hopt lo fun y hy=>h y (by simp[hy]),hopt hi fun y hy=>h y (by simp[hy]),hopt mx fun y hy=>h y (by simp[hy])]
 case fieldAddr s x f=>rw[h x (by simp)]
 case field s x f=>rw[h x (by simp)]
 case indexAddr t x i=>rw[h x (by simp),h i (by simp),show dJ sp ρ x=dJ sp ρ' x from (by cases x with|tmp s=>exact h (.tmp s) (by simp)|_=>rfl)]
 case index t x i=>rw[h x (by simp),h i (by simp)]
 case extract x i=>rw[h x (by simp)]
 case makeMap t r=>cases r <;> rfl
 case lookup t x i ok=>cases ok <;> simp only[h x (by simp),h i (by simp)]
 case mapUpdate t x i y=>rw[h x (by simp),h i (by simp),h y (by simp)]
 case call c =>
  obtain⟨callee,args,ts⟩:=c
  cases callee with
  | value g=>simp only;rw[h g (by simp[Call.operands]),hmap args fun x hx=>h x (by simp[Call.operands,hx])]
  | builtin b=>simp only;rw[hmap args fun x hx=>h x (by simp[Call.operands,hx])]
  | invoke rc m=>rfl
theorem sc{o:Oper}{ρ ρ':Nat->SV}(h:∀ x∈o.op.operands,ag ρ x=ag ρ' x):jG P sp o ρ=jG P sp o ρ':=by
 unfold jG;rw[CV h]
theorem lL{t:Nat}:∀{l:List Operand},t∈iE l↔Operand.tmp t∈l
 | []=>by simp[iE]
 | .tmp s::r=>by simp[iE,lL (l:=r)]
 | .const v::r=>by simp[iE,lL (l:=r)]
 | .global g::r=>by simp[iE,lL (l:=r)]
 | .func f::r=>by simp[iE,lL (l:=r)]
theorem n6{o:Oper}{t:Nat}(h:Operand.tmp t∈o.op.operands):t∈o.looksAt ops:=by
 unfold Oper.looksAt
 refine List.mem_append_left _ (List.mem_filterMap.2 ⟨.tmp t,by simpa using h,rfl⟩)
theorem sE{o:Oper}{t:Nat}(h:t∈hZ o):t∈o.looksAt ops:=by
 unfold hZ at h
 split at h
 ·rename_i c x y ho
  simp only[List.mem_singleton] at h
  subst h
  exact n6 (by rw[ho];simp[Op.operands])
 ·simp at h
 ·exact n6 (by simpa using lL.1 h)
theorem Ah{o:Oper}{sl sl':List SV}(h:∀ t∈o.looksAt ops,bd sl' t=bd sl t):dj P sp ops.toList o sl'=dj P sp ops.toList o sl:=by
 have hg:jz ops.toList sl' o.guard=jz ops.toList sl o.guard:=by
  unfold jz
  cases hgd:o.guard with
  | none=>rfl
  | some p =>
   obtain⟨j,want⟩:=p
   simp only
   cases hj:dL ops.toList j with
   | none=>rfl
   | some oj =>
    simp only
    cases hd:oj.dst with
    | none=>rfl
    | some d =>
     simp only
     rw[h d ?_]
     unfold Oper.looksAt
     refine List.mem_append_right _ ?_
     rw[hgd]
     rw[i6,Array.getElem?_toList] at hj
     simp[hj,hd]
 have hpre:∀(g:Bool)(l:List Nat),(∀ t∈l,t∈o.looksAt ops)->fQ g sl' l=fQ g sl l:=by
  intro g l
  induction l with
  | nil=>intro _;rfl
  | cons t l ih=>intro hl;simp only[fQ];rw[h t (hl t (by simp)),ih fun s hs=>hl s (List.mem_cons_of_mem _ hs)]
 unfold dj
 rw[hg]
 split
 ·rw[sc fun x hx=>wY fun t ht=>h t (n6 (ht▸hx))]
 ·rename_i g _
  rw[hpre g _ fun t ht=>sE ht]
  have hany:∀(l:List Nat),(∀ t∈l,t∈o.looksAt ops)->mz sl' l=mz sl l:=by
   intro l
   induction l with
   | nil=>intro _;rfl
   | cons t l ih=>intro hl;simp only[mz];rw[h t (hl t (by simp)),ih fun s hs=>hl s (List.mem_cons_of_mem _ hs)]
  rw[hany _ fun t ht=>sE ht]
  split
  ·rfl
  congr 1
  exact sc fun x hx=>wY fun t ht=>by simp only[h t (n6 (ht▸hx))]
 ·rfl
theorem xE{sl:List SV}{dst:Option Tmp}{v:SV}{t:Nat}(h:∀ d,dst=some d->t≠d):bd (cA sl dst v) t=bd sl t:=by
 cases dst with
 | none=>rfl
 | some d=>simp only[cA];rw[tw,if_neg (fun hh=>h d rfl hh.1)]
theorem pO{st:cf}{dst:Option Tmp}{F F':FS}(h:de st dst F F'):∃ v u,F'.sl=cA F.sl dst v/\F'.h=aM u F.h∧∀ p∈u,p.1∈st.wr:=by
 have mk:∀(d:Dl)(x:d.X),∃ v u,(F.app dst d x).sl=cA F.sl dst v/\(F.app dst d x).h=aM u F.h∧∀ p∈u,p.1∈d.wr:=fun d x =>
  ⟨d.val x,d.upd x,rfl,rfl,fun p hp=>by rw[← Dl.wr_upd d x];exact List.mem_map_of_mem hp⟩
 cases st with
 | go d=>obtain⟨x,_,rfl⟩:=h;exact mk d x
 | split g d =>
  rcases h with⟨_,x,_,rfl⟩|⟨_,rfl⟩
  ·exact mk d x
  ·exact⟨.cv undef,[],rfl,rfl,by simp⟩
theorem np{n:Nat}:∀(u:List (Nat×Nm))(h1 h2:aI),n∈u.map (·.1)->aM u h1 n=aM u h2 n
 | [],_,_,hn=>by simp at hn
 | p::u,h1,h2,hn=>by
  simp only[aM]
  by_cases hpn:n=p.1
  ·subst hpn;simp
  ·rw[aI.set_other _ _ hpn,aI.set_other _ _ hpn]
   exact np u h1 h2 (by simpa[hpn] using hn)
theorem vm{i j:Oper}{sti:cf}{F F':FS}(hd:∀ n∈ji i.dst,n ∉ j.looksAt ops)(hi:de sti i.dst F F'):dj P sp ops.toList j F'.sl=dj P sp ops.toList j F.sl:=by
 obtain⟨v,u,hsl,hh,hw⟩:=pO hi
 refine Ah fun t ht=>?_
 rw[hsl]
 exact xE fun d hdd e=>hd d (by simp[ji,hdd]) (e▸ht)
theorem sW{i j:Oper}{sti stj:cf}{rj:List Nat}{F F':FS}(hb:∀ n∈sti.wr,n ∉ stj.wr)(hd:∀ n∈ji i.dst,n ∉ j.looksAt ops)(hi:de sti i.dst F F') :
  cu P sp ops j stj rj F'=cu P sp ops j stj rj F:=by
 obtain⟨v,u,hsl,hh,hw⟩:=pO hi
 have e:gD stj.wr F'.h=gD stj.wr F.h:=Ey fun n hn=>by
  rw[hh]
  refine c7 fun hm=>?_
  obtain⟨p,hp,rfl⟩:=List.mem_map.1 hm
  exact hb _ (hw p hp) hn
 unfold cu
 rw[vm hd hi,e]
theorem rW{i j:Oper}{sti stj:cf}{ri rj:List Nat}{F F':FS}(ap:gT (cu P sp ops i sti ri F) (cu P sp ops j stj rj F))(hi:de sti i.dst F F') :
  ((dj P sp ops.toList j F'.sl).run F'.h=some (stj,rj)↔(dj P sp ops.toList j F.sl).run F.h=some (stj,rj)):=by
 rw[vm ap.d hi]
 rcases ap.a with ha|⟨pre,v,u,hst,hsub,h1,h2⟩
 ·obtain⟨v,u,hsl,hh,hw⟩:=pO hi
  have hq:∀ n∈rj,F'.h n=F.h n:=fun n hn=>by
   rw[hh]
   refine c7 fun hm=>?_
   obtain⟨p,hp,rfl⟩:=List.mem_map.1 hm
   exact ha _ (hw p hp) hn
  exact⟨fun e=>Q.run_local _ e fun n hn=>(hq n hn).symm,fun e=>Q.run_local _ e hq⟩
 ·simp only[cu] at hst hsub h1 h2
  have wr:sti.wr=u.map (·.1):=by rcases hst with rfl|⟨g,rfl⟩ <;> rfl
  rw[wr] at hsub h1 h2
  have hj:∀ F':FS,F'.h=aM u F.h->((dj P sp ops.toList j F.sl).run F'.h=some (stj,rj)↔(dj P sp ops.toList j F.sl).run F.h=some (stj,rj)):=fun F' hh =>
   ⟨fun _=>Q.run_local _ h1 fun n hn=>(xI (hsub n hn)).symm,fun _=>Q.run_local _ h2 fun n hn=>by rw[hh];exact np u _ _ (hsub n hn)⟩
  rcases hst with rfl|⟨g,rfl⟩
  ·obtain⟨x,_,rfl⟩:=hi
   exact hj _ rfl
  ·rcases hi with⟨_,x,_,rfl⟩|⟨_,rfl⟩
   ·exact hj _ rfl
   ·exact Iff.rfl
theorem B9{u v:List (Nat×Nm)}(h:∀ p∈u,∀ q∈v,p.1≠q.1)(hp:aI):aM u (aM v hp)=aM v (aM u hp):=by
 funext n
 by_cases hu:n∈u.map (·.1)
 ·have hv:n ∉ v.map (·.1):=fun hv=>by
   obtain⟨p,hp1,rfl⟩:=List.mem_map.1 hu
   obtain⟨q,hq1,hq2⟩:=List.mem_map.1 hv
   exact h p hp1 q hq1 hq2.symm
  rw[c7 hv]
  exact np u _ _ hu
 ·rw[c7 hu]
  by_cases hv:n∈v.map (·.1)
  ·exact np v _ _ hv
  ·rw[c7 hv,c7 hv,c7 hu]
theorem Aq{sl:List SV}{x y:Option Tmp}{v u:SV}(h:∀ d,x=some d->y≠some d):cA (cA sl x v) y u=cA (cA sl y u) x v:=by
 cases x with
 | none=>rfl
 | some d =>
  cases y with
  | none=>rfl
  | some e =>
   have hne:d≠e:=fun he=>h d rfl (he▸rfl)
   simp only[cA]
   exact List.set_comm _ _ hne
theorem zt{i j:Oper}{sti stj:cf}{ri rj:List Nat}{F Fj Fji:FS}(ap:gT (cu P sp ops i sti ri F) (cu P sp ops j stj rj F))(hj:de stj j.dst F Fj)(hi:de sti i.dst Fj Fji) :
  ∃ Fi,de sti i.dst F Fi/\de stj j.dst Fi Fji:=by
 have hdst:∀ d,i.dst=some d->j.dst≠some d:=fun d hd hd'=>ap.e d (by simp[cu,ji,hd]) (by simp[cu,ji,hd'])
 have hdst':∀ d,j.dst=some d->i.dst≠some d:=fun d hd hd'=>hdst d hd' hd
 have rep:∀{st:cf}{dst:Option Tmp}{F F':FS},de st dst F F'→∃ v u,(∀ p∈u,p.1∈st.wr)/\F'=⟨cA F.sl dst v,aM u F.h⟩∧∀ G:FS,de st dst G ⟨cA G.sl dst v,aM u G.h⟩:=by
  intro st dst F F' h
  cases st with
  | go d=>obtain⟨x,hx,rfl⟩:=h;exact⟨d.val x,d.upd x,fun p hp=>by rw[cf.wr,← Dl.wr_upd d x];exact List.mem_map_of_mem hp,rfl,fun G=>⟨x,hx,rfl⟩⟩
  | split g d =>
   rcases h with⟨hg,x,hx,rfl⟩|⟨hg,rfl⟩
   ·exact⟨d.val x,d.upd x,fun p hp=>by rw[cf.wr,← Dl.wr_upd d x];exact List.mem_map_of_mem hp,rfl,fun G=>.inl ⟨hg,x,hx,rfl⟩⟩
   ·exact⟨.cv undef,[],by simp,rfl,fun G=>.inr ⟨hg,rfl⟩⟩
 obtain⟨vj,uj,hwj,rfl,gj⟩:=rep hj
 obtain⟨vi,ui,hwi,rfl,gi⟩:=rep hi
 refine⟨_,gi F,?_⟩
 have e1:cA (cA F.sl j.dst vj) i.dst vi=cA (cA F.sl i.dst vi) j.dst vj:=Aq hdst'
 have e2:aM ui (aM uj F.h)=aM uj (aM ui F.h):=B9 (fun p hp q hq e=>ap.b p.1 (hwi p hp) (e▸hwj q hq)) F.h
 simp only[e1,e2]
 exact gj ⟨cA F.sl i.dst vi,aM ui F.h⟩
def ox(ops:Array Oper)(listed:Array Bool):Prop:=∀ j o,ops[j]? = some o->listed.getD j false=true→∀ e∈o.after,Region.binds .any e=true->listed.getD e.on false=true
theorem Ef{listed:Array Bool}(hd:ox ops listed){i j:Nat}(hj:j∈Region.ready .any ops listed)(h:gb ops i j):listed.getD i false=true:=by
 obtain⟨hun,oj,hoj,hall⟩:=mem_ready.1 hj
 have key:∀{i k:Nat},gb ops i k->listed.getD k false=true->listed.getD i false=true:=by
  intro i k h
  induction h with
  | edge ho he hb hi=>intro hk;rw[← hi];exact hd _ _ ho hk _ he hb
  | step ho he hb _ ih=>intro hk;exact ih (hd _ _ ho hk _ he hb)
 cases h with
 | edge ho he hb hi =>
  rw[hoj] at ho;cases ho
  rw[← hi];exact hall _ he hb
 | step ho he hb h =>
  rw[hoj] at ho;cases ho
  exact key h (hall _ he hb)
theorem A9{listed:Array Bool}(hd:ox ops listed){i:Nat}(hi:i∈Region.ready .any ops listed):ox ops (listed.setIfInBounds i true):=by
 obtain⟨hun,oi,hoi,hall⟩:=mem_ready.1 hi
 have mono:∀ k,listed.getD k false=true->(listed.setIfInBounds i true).getD k false=true:=by
  intro k hk
  rw[Array.getD_eq_getD_getElem?] at hk ⊢
  by_cases h:i=k
  ·subst h
   by_cases h2:i<listed.size
   ·rw[Array.getElem?_setIfInBounds_self_of_lt h2];rfl
   ·rw[Array.getElem?_eq_none (by omega)] at hk;simp at hk
  ·rw[Array.getElem?_setIfInBounds_ne h];exact hk
 intro j o ho hj e he hb
 by_cases hij:i=j
 ·subst hij
  rw[hoi] at ho;cases ho
  exact mono _ (hall e he hb)
 ·refine mono _ (hd j o ho ?_ e he hb)
  rw[Array.getD_eq_getD_getElem?] at hj ⊢
  rwa [Array.getElem?_setIfInBounds_ne hij] at hj
theorem xT(hmsk:∀ i j,kz msk i j=true->gb ops i j){i:Nat}{oi:Oper}{st:cf}{r:List Nat}(hi:ops[i]? = some oi)(hpre:st.pre) :
  ∀(fuel:Nat)(listed:Array Bool)(log:fo)(F:FS),ox ops listed->i∈Region.ready .any ops listed->(dj P sp ops.toList oi F.sl).run F.h=some (st,r) →
   oG msk i (cu P sp ops oi st r F) log →
   (∀ F',de st oi.dst F F'→jl P sp ops msk K fuel (listed.setIfInBounds i true) ((i,cu P sp ops oi st r F)::log) F')->jl P sp ops msk K (fuel+1) listed log F:=by
 intro fuel
 induction fuel with
 | zero =>
  intro listed log F hd hr hrun hlog H
  refine⟨fun h=>(by rw[h] at hr;cases hr),fun j hj=>?_⟩
  by_cases hji:j=i
  ·subst hji
   unfold ge;rw[hi]
   exact⟨st,r,hrun,hpre,hlog,H⟩
  ·obtain⟨F',hF'⟩:=wH hpre oi.dst F
   have:=ready_mono hj hji
   rw[(H F' hF').1] at this
   cases this
 | succ fuel ih =>
  intro listed log F hd hr hrun hlog H
  refine⟨fun h=>(by rw[h] at hr;cases hr),fun j hj=>?_⟩
  by_cases hji:j=i
  ·subst hji
   unfold ge;rw[hi]
   exact⟨st,r,hrun,hpre,hlog,H⟩
  ·obtain⟨hjun,oj,hoj,hall⟩:=mem_ready.1 hj
   have Hj:∀ F',de st oi.dst F F'→∃ stj rj,(dj P sp ops.toList oj F'.sl).run F'.h=some (stj,rj)/\stj.pre/\oG msk j (cu P sp ops oj stj rj F') ((i,cu P sp ops oi st r F)::log) ∧
     ∀ F'',de stj oj.dst F' F''→jl P sp ops msk K fuel ((listed.setIfInBounds i true).setIfInBounds j true) ((j,cu P sp ops oj stj rj F')::(i,cu P sp ops oi st r F)::log) F'':=by
    intro F' hF'
    have:=(H F' hF').2 j (ready_mono hj hji)
    unfold ge at this;rw[hoj] at this
    exact this
   obtain⟨F1,hF1⟩:=wH hpre oi.dst F
   obtain⟨stj,rj,hrj,hpj,hlj,_⟩:=Hj F1 hF1
   have hnot:kz msk i j=false:=by
    cases hb:kz msk i j with
    | false=>rfl
    | true =>
     have h1:=Ef hd hj (hmsk i j hb)
     have h0:=(mem_ready.1 hr).1
     rw[Array.getD_eq_getD_getElem?] at h0 h1
     cases hx:listed[i]? with
     | none=>rw[hx] at h1;simp at h1
     | some b=>rw[hx] at h0 h1;simp at h0 h1;rw[h0] at h1;cases h1
   have ap1:gT (cu P sp ops oi st r F) (cu P sp ops oj stj rj F1):=by
    rcases hlj (i,cu P sp ops oi st r F) (by simp) with h|h
    ·simp only at h;rw[hnot] at h;cases h
    ·exact h
   have tj:∀ F',de st oi.dst F F'→cu P sp ops oj stj rj F'=cu P sp ops oj stj rj F:=fun F' hF'=>sW ap1.b ap1.d hF'
   rw[tj F1 hF1] at hlj
   have ap:gT (cu P sp ops oi st r F) (cu P sp ops oj stj rj F):=by rw[← tj F1 hF1];exact ap1
   have hrun_j:(dj P sp ops.toList oj F.sl).run F.h=some (stj,rj):=(rW ap hF1).1 hrj
   unfold ge;rw[hoj]
   refine⟨stj,rj,hrun_j,hpj,fun p hp=>hlj p (List.mem_cons_of_mem _ hp),fun Fj hFj=>?_⟩
   have ti:cu P sp ops oi st r Fj=cu P sp ops oi st r F:=sW (fun n hn hm=>ap.b n hm hn) ap.f hFj
   refine ih (listed.setIfInBounds j true) _ Fj (A9 hd hj) (ready_mono hr (Ne.symm hji)) ((rW ap.symm hFj).2 hrun) (fun p hp=>?_) fun Fji hFji=>?_
   ·rw[ti]
    rcases List.mem_cons.1 hp with rfl|hp
    ·exact .inr ap.symm
    ·exact hlog p hp
   ·rw[ti]
    obtain⟨Fi,hFi,hFij⟩:=zt ap hFj hFji
    obtain⟨stj',rj',hrj',hpj',hlj',hK⟩:=Hj Fi hFi
    have e1:some (stj',rj')=some (stj,rj):=by rw[← hrj',← (rW ap hFi).2 hrun_j]
    simp only[Option.some.injEq,Prod.mk.injEq] at e1
    obtain⟨rfl,rfl⟩:=e1
    have:=hK Fji hFij
    rw[tj Fi hFi] at this
    rw[Array.setIfInBounds_comm _ _ hji]
    refine qC _ _ _ _ _ (fun p=>?_) this
    simp only[List.mem_cons]
    exact⟨fun h=>by rcases h with h|h|h <;> simp[h],fun h=>by rcases h with h|h|h <;> simp[h]⟩
end
end Go.SX

/- SX, part 16: regions: from the symbolic run to the real one; the run as the kernel computes it. -/
namespace Go.SX
set_option linter.unusedVariables false
def oR(k:Nat):List Edge->Bool
 | []=>true
 | e::r=>(match Region.binds .any e with|true=>Nat.blt e.on k|false=>true)&&oR k r
def kv:Nat->List Oper->Bool
 | _,[]=>true
 | k,o::r=>oR k o.after.toList&&kv (k+1) r
section
variable {P:Program} {sp:bc} {ops:Array Oper} {msk:List Nat} {w0:World} {N0:bv} {K:FS->Prop} {Q:Exit->Act->World->Prop}
theorem tG{k:Nat}:∀{es:List Edge},oR k es=true→∀ e∈es,Region.binds .any e=true->e.on<k
 | [],_,e,he,_=>by simp at he
 | e::r,h,e',he,hb=>by
  simp only[oR,Bool.and_eq_true] at h
  rcases List.mem_cons.1 he with rfl|he
  ·rw[hb] at h;simpa using h.1
  ·exact tG h.2 e' he hb
theorem uI:∀{l:List Oper}{k:Nat},(∀ j,l[j]? = ops[k+j]?)->kv k l=true→∀ j o,k<=j->ops[j]? = some o->j<k+l.length→∀ e∈o.after,Region.binds .any e=true->e.on<j
 | [],k,_,_,j,o,h1,_,h2,_,_,_=>by simp at h2;omega
 | o0::l,k,hl,h,j,o,h1,ho,h2,e,he,hb=>by
  simp only[kv,Bool.and_eq_true] at h
  by_cases hjk:j=k
  ·subst hjk
   have h0:ops[j]? = some o0:=by simpa using (hl 0).symm
   rw[h0] at ho;cases ho
   exact tG h.1 e (by simpa using he) hb
  ·exact uI (k:=k+1) (fun j=>by have:=hl (j+1);simpa[Nat.add_assoc,Nat.add_comm 1 j] using this) h.2 j o (by omega) ho (by simp at h2;omega) e he hb
def LP(ops:Array Oper)(k:Nat)(listed:Array Bool):Prop:=∀ j,listed[j]? = if j<ops.size then some (decide (j<k)) else none
theorem si(hmsk:∀ i j,kz msk i j=true->gb ops i j)(hlex:kv 0 ops.toList=true):∀(l:List Oper)(k:Nat)(listed:Array Bool)(log:fo)(F:FS),(∀ j,l[j]? = ops[k+j]?)->LP ops k listed →
  k+l.length=ops.size->iM P sp ops msk K l k log F->jl P sp ops msk K l.length listed log F
 | [],k,listed,log,F,_,hL,hk,h=>by
  refine⟨?_,h⟩
  cases hr:Region.ready .any ops listed with
  | nil=>rfl
  | cons i r =>
   exfalso
   have hi:i∈Region.ready .any ops listed:=by rw[hr];simp
   obtain⟨h0,o,ho,_⟩:=mem_ready.1 hi
   have hlt:=(Array.getElem?_eq_some_iff.1 ho).1
   rw[Array.getD_eq_getD_getElem?,hL i,if_pos hlt] at h0
   simp at hk h0;omega
 | o::l,k,listed,log,F,hl,hL,hk,h=>by
  have h0:ops[k]? = some o:=by simpa using (hl 0).symm
  have hlt:=(Array.getElem?_eq_some_iff.1 h0).1
  simp only[iM] at h
  unfold ge at h
  rw[h0] at h
  obtain⟨st,r,h1,h2,h3,h4⟩:=h
  have hed:=uI (ops:=ops) (l:=ops.toList) (k:=0) (by simp) hlex
  have hgD:∀ j,j<k->listed.getD j false=true:=fun j hj=>by
   rw[Array.getD_eq_getD_getElem?,hL j,if_pos (by omega)];simp[hj]
  refine xT hmsk h0 h2 l.length listed log F ?_ ?_ h1 h3 fun F' hF'=>?_
  ·intro j oj hoj hj e he hb
   have hjlt:=(Array.getElem?_eq_some_iff.1 hoj).1
   rw[Array.getD_eq_getD_getElem?,hL j,if_pos hjlt] at hj
   have hjk:j<k:=by simpa using hj
   have:=hed j oj (Nat.zero_le _) hoj (by simpa using hjlt) e he hb
   exact hgD _ (by omega)
  ·refine mem_ready.2 ⟨?_,o,h0,fun e he hb=>hgD _ (hed k o (Nat.zero_le _) h0 (by simpa using hlt) e he hb)⟩
   rw[Array.getD_eq_getD_getElem?,hL k,if_pos hlt];simp
  ·refine si hmsk hlex l (k+1) _ _ F' (fun j=>by have:=hl (j+1);simpa[Nat.add_assoc,Nat.add_comm 1 j] using this) ?_ (by simp at hk;omega) (h4 F' hF')
   intro j
   by_cases hjk:k=j
   ·subst hjk
    rw[Array.getElem?_setIfInBounds_self_of_lt (by
     have:=hL k;rw[if_pos hlt] at this;exact (Array.getElem?_eq_some_iff.1 this).1),if_pos hlt]
    simp
   ·rw[Array.getElem?_setIfInBounds_ne hjk,hL j]
    split
    ·congr 1;rw[decide_eq_decide];omega
    ·rfl
theorem pw(hs:ca P sp/\N0.g=sp.gl){A1:Nat->Prop}{env1:ai}{w1:World}
  (hQ:∀ F' A' env' a' w',K F'→bT w0 N0 A' env' F' a' w'→aW A1 env1 w1 A' env' w'→Q .normal a' w') :
  ∀(fuel:Nat)(listed:Array Bool)(log:fo)(F:FS)(A:Nat->Prop)(env:ai)(a:Act)(w:World),jl P sp ops msk K fuel listed log F->bT w0 N0 A env F a w->aW A1 env1 w1 A env w →
   wpAny P .any ops Q fuel listed a w
 | 0,_,_,F,A,env,a,w,h,t,x=>⟨h.1,hQ _ _ _ _ _ h.2 t x⟩
 | fuel+1,listed,log,F,A,env,a,w,h,t,x=>by
  refine⟨fun h0=>hQ _ _ _ _ _ (h.1 h0) t x,fun i hi=>?_⟩
  have hi':=h.2 i hi
  unfold ge at hi'
  unfold wpOp
  split at hi'
  ·rename_i ho
   simp only[ho]
   exact pw hs hQ fuel _ _ F A env a w hi' t x
  ·rename_i o ho
   simp only[ho]
   obtain⟨st,r,h1,h2,_,h4⟩:=hi'
   exact (rU hs t h1 h2).2 _ _ fun F' A' env' a' w' hF t' x'=>pw hs hQ fuel _ _ F' A' env' a' w' (h4 F' hF) t' (x.trans x')
theorem vy(hs:ca P sp/\N0.g=sp.gl){A1:Nat->Prop}{env1:ai}{w1:World}
  (hQ:∀ F' A' env' a' w',K F'→bT w0 N0 A' env' F' a' w'→aW A1 env1 w1 A' env' w'→Q .normal a' w') :
  ∀(l:List Oper)(k:Nat)(log:fo)(F:FS)(A:Nat->Prop)(env:ai)(a:Act)(w:World),(∀ j,l[j]? = ops[k+j]?)->iM P sp ops msk K l k log F->bT w0 N0 A env F a w->aW A1 env1 w1 A env w →
   wpOps P ops Q (List.range' k l.length) a w
 | [],k,log,F,A,env,a,w,_,h,t,x=>hQ _ _ _ _ _ h t x
 | o::l,k,log,F,A,env,a,w,hl,h,t,x=>by
  have h0:ops[k]? = some o:=by simpa using (hl 0).symm
  simp only[iM] at h
  unfold ge at h
  rw[h0] at h
  obtain⟨st,r,h1,h2,_,h4⟩:=h
  rw[List.length_cons,List.range'_succ,wpOps_cons]
  unfold wpOp
  simp only[h0]
  exact (rU hs t h1 h2).2 _ _ fun F' A' env' a' w' hF t' x' =>
   vy hs hQ l (k+1) _ F' A' env' a' w' (fun j=>by have:=hl (j+1);simpa[Nat.add_assoc,Nat.add_comm 1 j] using this) (h4 F' hF) t' (x.trans x')
theorem bT.drew{A:Nat->Prop}{env:ai}{F:FS}{a:Act}{w:World}(t:bT w0 N0 A env F a w):bT w0 N0 A env F a w.drew/\aW A env w A env w.drew:=by
 have u:cN (fun _=>False) (fun _=>False) A env F.h w A env F.h w.drew:=cN.none (aR.drew w _)
 have x:=t.m.ext u
 exact⟨⟨t.m.upd u,t.len,fun i=>gC x _ _ (t.f i),t.dfr⟩,x⟩
theorem AU(hs:ca P sp/\N0.g=sp.gl)(aD:P.follows .mixedOrders=true){id:Nat}{draw:Bool}{A:Nat->Prop}{env:ai}{F:FS}{a:Act}{w:World}(hd:draw=true->kv 0 ops.toList=true/\msk=lW ops.toList [])
  (t:bT w0 N0 A env F a w) (h:iM P sp ops msk K ops.toList 0 [] F)
  (hQ:∀ F' A' env' a' w',K F'→bT w0 N0 A' env' F' a' w'→aW A env w A' env' w'→Q .normal a' w'):(Code.region id ops draw).wp P Q a w:=by
 cases draw with
 | false =>
  refine wp_region ?_
  have:=vy hs hQ ops.toList 0 [] F A env a w (by simp) h t aW.refl
  rw[List.range_eq_range']
  simpa using this
 | true =>
  obtain⟨hlex,hm⟩:=hd rfl
  subst hm
  obtain⟨t',x'⟩:=t.drew
  refine wp_region_any aD ?_
  have:=si (K:=K) (P:=P) (sp:=sp) (uG ops.toList 0 [] (by simp) rfl (by simp[gS])) hlex ops.toList 0 (Array.replicate ops.size false) [] F (by simp) (fun j=>by
   rw[Array.getElem?_replicate];split <;> simp) (by simp) h
  have h2:=pw (Q:=Q) hs hQ _ _ _ F A env a w.drew this t' x'
  simpa using h2
end
structure St where
 sl:List SV
 H:List (Nat×Nm)
def aZ:List (Nat×Nm)->Nat->Nm
 | [],_ => .un
 | (m,b)::r,n=>match Nat.beq n m with
  | true=>b
  | false=>aZ r n
def St.fs(S:St):FS:=⟨S.sl,aZ S.H⟩
theorem qE:∀(H:List (Nat×Nm)),aZ H=aM H (fun _=>.un)
 | []=>rfl
 | (m,b)::r=>by
  funext n
  simp only[aZ,aM,aI.set]
  by_cases h:n=m
  ·subst h;simp
  ·have:Nat.beq n m=false:=by
    cases hb:Nat.beq n m with
    | false=>rfl
    | true=>exact absurd (Nat.eq_of_beq_eq_true hb) h
   rw[this,if_neg h,qE r]
theorem yi(u H:List (Nat×Nm)):aZ (u++H)=aM u (aZ H):=by
 rw[qE,qE,rH]
def ah(b:Bool)(y n:Prop):Prop:=match b with
 | true=>y
 | false=>n
def fJ:List Prop->Prop->Prop
 | [],q=>q
 | p::r,q=>p/\fJ r q
theorem js{l:List Prop}{q:Prop}:fJ l q↔aB l/\q:=by
 induction l with
 | nil=>simp[fJ,aB]
 | cons p l ih=>simp[fJ,aB,ih,and_assoc]
def mF(v:SV)(k:SV->Prop):Prop:=match v with
 | .int a b=>k (.int a b)
 | .bool b=>k (.bool b)
 | .str s=>k (.str s)
 | .dsl t xs=>k (.dsl t xs)
 | .dsx t xs=>k (.dsx t xs)
 | .nilsl=>k .nilsl
 | .own n s=>k (.own n s)
 | .ptr n o=>k (.ptr n o)
 | .eptr n s i o=>k (.eptr n s i o)
 | .dptr t d o=>k (.dptr t d o)
 | .nilp=>k .nilp
 | .fn f c=>k (.fn f c)
 | .agg c=>k (.agg c)
 | .tup c=>k (.tup c)
 | .opt b v=>k (.opt b v)
 | .cv v=>k (.cv v)
 | .gl g=>k (.gl g)
 | .csl n l=>k (.csl n l)
 | .mapp n=>k (.mapp n)
 | .part n z l m=>k (.part n z l m)
 | .hv i s=>k (.hv i s)
 | .junk=>k .junk
theorem ru(v:SV)(k:SV->Prop):mF v k=k v:=by cases v <;> rfl
def ll:List SV->(List SV->Prop)->Prop
 | [],k=>k []
 | x::xs,k=>mF x fun y=>ll xs fun ys=>k (y::ys)
theorem tQ:∀(l:List SV)(k:List SV->Prop),ll l k=k l
 | [],k=>rfl
 | x::xs,k=>by simp only[ll,ru,tQ xs]
def mu(v:SV)(k:SV->Prop):Prop:=mF v fun v=>match v with
 | .agg c=>ll c fun c=>k (.agg c)
 | .tup c=>ll c fun c=>k (.tup c)
 | .fn f c=>ll c fun c=>k (.fn f c)
 | .opt b v=>mF v fun v=>k (.opt b v)
 | v=>k v
theorem pn(v:SV)(k:SV->Prop):mu v k=k v:=by
 unfold mu;rw[ru];cases v <;> simp only[tQ,ru]
def kN:List SV->(List SV->Prop)->Prop
 | [],k=>k []
 | x::xs,k=>mu x fun y=>kN xs fun ys=>k (y::ys)
theorem oV:∀(l:List SV)(k:List SV->Prop),kN l k=k l
 | [],k=>rfl
 | x::xs,k=>by simp only[kN,pn,oV xs]
def m9(v:SV)(k:SV->Prop):Prop:=mu v fun v=>match v with
 | .tup c=>kN c fun c=>k (.tup c)
 | .opt b v=>mu v fun v=>k (.opt b v)
 | v=>k v
theorem s8(v:SV)(k:SV->Prop):m9 v k=k v:=by
 unfold m9;rw[pn];cases v <;> simp only[oV,pn]
def iO:List Nat->(List Nat->Prop)->Prop
 | [],k=>k []
 | n::r,k=>iO r fun r=>k (n::r)
theorem oa:∀(l:List Nat)(k:List Nat->Prop),iO l k=k l
 | [],k=>rfl
 | n::r,k=>by simp only[iO,oa r]
def nk(b:Nm)(k:Nm->Prop):Prop:=match b with
 | .un=>k .un
 | .dead=>k .dead
 | .live b=>match b with
  | .cells E cs=>kN cs fun cs=>k (.live (.cells E cs))
  | .row E t xs=>k (.live (.row E t xs))
  | .frz E t xs=>k (.live (.frz E t xs))
  | .mp kk vk l=>k (.live (.mp kk vk l))
  | .opn E t xs i cs=>kN cs fun cs=>k (.live (.opn E t xs i cs))
theorem sL(b:Nm)(k:Nm->Prop):nk b k=k b:=by
 cases b with
 | live b=>cases b <;> simp only[nk,oV]
 | _=>rfl
def lP:List SV->Nat->SV->(List SV->Prop)->Prop
 | [],_,_,k=>k []
 | _::xs,0,v,k=>k (v::xs)
 | x::xs,n+1,v,k=>lP xs n v fun ys=>k (x::ys)
theorem tH:∀(l:List SV)(n:Nat)(v:SV)(k:List SV->Prop),lP l n v k=k (l.set n v)
 | [],n,v,k=>by simp[lP]
 | x::xs,0,v,k=>rfl
 | x::xs,n+1,v,k=>by simp only[lP,tH xs,List.set_cons_succ]
def ov:List (Nat×Nm)->List (Nat×Nm)->(List (Nat×Nm)->Prop)->Prop
 | [],H,k=>k H
 | (n,b)::r,H,k=>ov r H fun H'=>nk b fun b'=>k ((n,b')::H')
theorem u7:∀(u H:List (Nat×Nm))(k:List (Nat×Nm)->Prop),ov u H k=k (u++H)
 | [],H,k=>rfl
 | (n,b)::r,H,k=>by simp only[ov,u7 r,sL,List.cons_append]
def fS(S:St)(dst:Option Tmp)(v:SV)(upd:List (Nat×Nm))(k:St->Prop):Prop:=match S with
 | ⟨sl,H⟩=>ov upd H fun H=>match dst with
  | some d=>m9 v fun v=>lP sl d v fun sl=>k ⟨sl,H⟩
  | none=>k ⟨sl,H⟩
theorem zx(S:St)(dst:Option Tmp)(v:SV)(upd:List (Nat×Nm))(k:St->Prop):fS S dst v upd k=k ⟨cA S.sl dst v,upd++S.H⟩:=by
 unfold fS
 obtain⟨sl,H⟩:=S
 simp only
 rw[u7]
 cases dst with
 | none=>rfl
 | some d=>simp only[s8,tH,cA]
def jP{X:Type}(x:X):List (Nat×(X->Nm))->List (Nat×Nm)
 | []=>[]
 | (n,f)::r=>(n,f x)::jP x r
theorem uR{X:Type}(x:X):∀(u:List (Nat×(X->Nm))),jP x u=u.map fun p=>(p.1,p.2 x)
 | []=>rfl
 | (n,f)::r=>by simp[jP,uR x r]
def rG(dst:Option Tmp)(S:St)(k:St->Prop):cf->Prop
 | .go (.det pre v upd)=>fJ pre (fS S dst v upd k)
 | .go (.nd X qn pre R _ v upd)=>fJ pre (qn.all fun x=>R x->fS S dst (v x) (jP x upd) k)
 | .split g (.det pre v upd)=>ah g (fJ pre (fS S dst v upd k)) (fS S dst (.cv undef) [] k)
 | .split g (.nd X qn pre R _ v upd)=>ah g (fJ pre (qn.all fun x=>R x->fS S dst (v x) (jP x upd) k)) (fS S dst (.cv undef) [] k)
theorem xj{dst:Option Tmp}{S:St}{k:St->Prop}{st:cf}(h:rG dst S k st):st.pre∧∀ F',de st dst S.fs F'→∃ S',S'.fs=F'∧k S':=by
 have mk:∀ v u,fS S dst v u k→∃ S':St,S'.fs=⟨cA S.sl dst v,aM u (aZ S.H)⟩/\k S':=fun v u hp=>by
  rw[zx] at hp
  exact⟨_,by simp only[St.fs,yi],hp⟩
 have mkI:∀{X:Type}{qn:Qn X}{R:X->Prop}{v:X->SV}{upd:List (Nat×(X->Nm))},(qn.all fun x=>R x->fS S dst (v x) (jP x upd) k)→∀(x:X),R x →
   ∃ S':St,S'.fs=⟨cA S.sl dst (v x),aM (upd.map fun p=>(p.1,p.2 x)) (aZ S.H)⟩/\k S':=fun {X qn R v upd} h2 x hx=>by
  have:=qn.hall _ h2 x hx
  rw[uR] at this
  exact mk _ _ this
 cases st with
 | go d =>
  cases d with
  | det pre v upd =>
   obtain⟨h1,h2⟩:=js.1 h
   exact⟨h1,by rintro F' ⟨x,_,rfl⟩;exact mk _ _ h2⟩
  | nd X qn pre R inh v upd =>
   obtain⟨h1,h2⟩:=js.1 h
   refine⟨h1,?_⟩
   rintro F' ⟨x,hx,rfl⟩
   exact mkI h2 x hx
 | split g d =>
  cases d with
  | det pre v upd =>
   cases g with
   | true =>
    obtain⟨h1,h2⟩:=js.1 (show fJ pre (fS S dst v upd k) from h)
    exact⟨fun _=>h1,by rintro F' (⟨_,x,_,rfl⟩|⟨hg,_⟩);exact mk _ _ h2;cases hg⟩
   | false =>
    exact⟨fun hg=>(by cases hg),by rintro F' (⟨hg,_⟩|⟨_,rfl⟩);cases hg;exact mk (.cv undef) [] h⟩
  | nd X qn pre R inh v upd =>
   cases g with
   | true =>
    obtain⟨h1,h2⟩:=js.1 (show fJ pre (qn.all fun x=>R x->fS S dst (v x) (jP x upd) k) from h)
    refine⟨fun _=>h1,?_⟩
    rintro F' (⟨_,x,hx,rfl⟩|⟨hg,_⟩)
    ·exact mkI h2 x hx
    ·cases hg
   | false =>
    exact⟨fun hg=>(by cases hg),by rintro F' (⟨hg,_⟩|⟨_,rfl⟩);cases hg;exact mk (.cv undef) [] h⟩
def pb(v:SV)(k:SV->Prop):Prop:=match v with
 | .int c e=>∀ n:Int,n=e->k (.int c n)
 | .bool e=>∀ b:Bool,b=e->k (.bool b)
 | .opt g v=>match v with
  | .int c e=>∀ n:Int,n=e->k (.opt g (.int c n))
  | .bool e=>∀ b:Bool,b=e->k (.opt g (.bool b))
  | v=>k (.opt g v)
 | v=>k v
theorem Eb{v:SV}{k:SV->Prop}(h:pb v k):k v:=by
 unfold pb at h
 split at h
 ·exact h _ rfl
 ·exact h _ rfl
 ·split at h
  ·exact h _ rfl
  ·exact h _ rfl
  ·exact h
 ·exact h
def o7:List SV->Nat->(List SV->Prop)->Prop
 | [],_,k=>k []
 | v::l,0,k=>pb v fun v=>k (v::l)
 | v::l,n+1,k=>o7 l n fun l=>k (v::l)
theorem wK:∀{l:List SV}{n:Nat}{k:List SV->Prop},o7 l n k->k l
 | [],_,k,h=>h
 | v::l,0,k,h=>Eb (v:=v) (k:=fun v=>k (v::l)) h
 | v::l,n+1,k,h=>wK (l:=l) (k:=fun l=>k (v::l)) h
def oL(gs:List Nat)(dst:Option Tmp)(k:St->Prop)(S:St):Prop:=match dst with
 | some d=>match eP d gs with
  | true=>match S with
   | ⟨sl,H⟩=>o7 sl d fun sl=>k ⟨sl,H⟩
  | false=>k S
 | none=>k S
theorem vu{gs:List Nat}{dst:Option Tmp}{k:St->Prop}{S:St}(h:oL gs dst k S):k S:=by
 unfold oL at h
 split at h
 ·split at h
  ·exact wK (k:=fun sl=>k ⟨sl,S.H⟩) h
  ·exact h
 ·exact h
def j4(all:List Oper):List Oper->List Nat
 | []=>[]
 | o::l=>match o.guard with
  | some (j,_)=>match dL all j with
   | some oj=>match oj.dst with
    | some d=>match eP d (j4 all l) with
     | true=>j4 all l
     | false=>d::j4 all l
    | none=>j4 all l
   | none=>j4 all l
  | none=>j4 all l
def mU(P:Program)(sp:bc)(all:List Oper)(gs:List Nat)(k:St->Prop):List Oper->St->Prop
 | [],S=>k S
 | o::l,S=>match (dj P sp all o S.sl).run (aZ S.H) with
  | some (st,_)=>rG o.dst S (oL gs o.dst (mU P sp all gs k l)) st
  | none=>False
def mW:SV->SV->Option (List Prop)
 | .int k n,.int k' m=>match c6 k k' with
  | true=>some [n=m]
  | false=>none
 | .bool b,.bool c=>some [b=c]
 | .str b,.str c=>some [b=c]
 | .dsl t xs,.dsl t' ys=>match bQ t' t ys with
  | some zs=>some [xs=zs]
  | none=>none
 | .dsx t xs,.dsx t' ys=>match bQ t' t ys with
  | some zs=>some [xs=zs]
  | none=>none
 | .nilsl,.nilsl=>some []
 | .nilp,.nilp=>some []
 | .own n s,.own m z=>match Nat.beq n m,Nat.beq s z with
  | true,true=>some []
  | _,_=>none
 | .ptr n s,.ptr m z=>match Nat.beq n m,Nat.beq s z with
  | true,true=>some []
  | _,_=>none
 | _,_=>none
theorem wc{u v:SV}{ps:List Prop}(h:mW u v=some ps)(hp:aB ps):u=v:=by
 unfold mW at h
 split at h
 ·split at h
  ·rename_i hk
   cases dk hk
   cases h;rw[hp.1]
  ·cases h
 ·cases h;rw[hp.1]
 ·cases h;rw[hp.1]
 ·split at h
  ·rename_i zs hc
   obtain⟨et,ez⟩:=cD hc
   subst et;simp only at ez;subst ez
   cases h;rw[hp.1]
  ·cases h
 ·split at h
  ·rename_i zs hc
   obtain⟨et,ez⟩:=cD hc
   subst et;simp only at ez;subst ez
   cases h;rw[hp.1]
  ·cases h
 ·rfl
 ·rfl
 ·split at h
  ·rename_i h1 h2
   rw[Nat.eq_of_beq_eq_true h1,Nat.eq_of_beq_eq_true h2]
  ·cases h
 ·split at h
  ·rename_i h1 h2
   rw[Nat.eq_of_beq_eq_true h1,Nat.eq_of_beq_eq_true h2]
  ·cases h
 ·cases h
def ra:SV->SV->Option (List Prop)
 | .opt b u,.opt c v=>match mW u v with
  | some p=>some ((b=c)::p)
  | none=>none
 | u,v=>mW u v
theorem DO{u v:SV}{ps:List Prop}(h:ra u v=some ps)(hp:aB ps):u=v:=by
 unfold ra at h
 split at h
 ·split at h
  ·rename_i p hq
   cases h
   rw[hp.1,wc hq hp.2]
  ·cases h
 ·exact wc h hp
def oK:List Nat->List Nat->Bool
 | [],[]=>true
 | a::l,b::m=>Nat.beq a b&&oK l m
 | _,_=>false
theorem xh:∀{l m:List Nat},oK l m=true->l=m
 | [],[],_=>rfl
 | a::l,b::m,h=>by
  simp only[oK,Bool.and_eq_true] at h
  rw[Nat.eq_of_beq_eq_true h.1,xh h.2]
 | [],_::_,h=>by cases h
 | _::_,[],h=>by cases h
def oh:List Nat->List Nat->Bool
 | [],_=>true
 | a::l,m=>eP a m&&oh l m
theorem vn:∀{l m:List Nat},oh l m=true→∀ n∈l,n∈m
 | [],_,_,n,hn=>by cases hn
 | a::l,m,h,n,hn=>by
  simp only[oh,Bool.and_eq_true] at h
  rcases List.mem_cons.1 hn with rfl|hn
  ·exact jS.1 h.1
  ·exact vn h.2 n hn
def nU:cf->Option (List Prop×SV)
 | .go (.det p v [])=>some (p,v)
 | _=>none
theorem qz{st:cf}{v:List Prop×SV}(h:nU st=some v):st = .go (.det v.1 v.2 []):=by
 unfold nU at h
 split at h
 ·cases h;rfl
 ·cases h
def oU:cf->Option (List (Nat×Nm))
 | .go (.det _ _ u)=>some u
 | .split _ (.det _ _ u)=>some u
 | _=>none
theorem zV{st:cf}{u:List (Nat×Nm)}(h:oU st=some u):∃ p v,st = .go (.det p v u)∨∃ g,st = .split g (.det p v u):=by
 unfold oU at h
 split at h
 ·cases h;exact⟨_,_,.inl rfl⟩
 ·cases h;exact⟨_,_,.inr ⟨_,rfl⟩⟩
 ·cases h
def nI:List Prop->List Prop->Option (List Prop)
 | [],[]=>some []
 | a::l,b::m=>match nI l m with
  | some r=>some ((a=b)::r)
  | none=>none
 | _,_=>none
theorem uY:∀{l m r:List Prop},nI l m=some r->aB r->l=m
 | [],[],_,_,_=>rfl
 | a::l,b::m,r,e,h=>by
  simp only[nI] at e
  split at e
  ·rename_i r' hr
   cases e
   rw[h.1,uY hr h.2]
  ·cases e
 | [],_::_,_,e,_=>by cases e
 | _::_,[],_,e,_=>by cases e
def oT(t:d6)(v:List Prop×SV)(h:aI):Option (List Prop):=match t.q.run h with
 | some (st,r)=>match nU st with
  | some v1=>match oK r t.rd with
   | true=>match nI v1.1 v.1,ra v1.2 v.2 with
    | some p,some q=>some (p++q)
    | _,_=>none
   | false=>none
  | none=>none
 | none=>none
def nQ(s t:d6):Option (List Prop):=match oU s.st,nU t.st with
 | some u,some v=>match oh t.rd s.wr with
  | true=>match oT t v s.old,oT t v (aM u s.old) with
   | some p,some q=>some (p++q)
   | _,_=>none
  | false=>none
 | _,_=>none
def qO(s t:d6):Option (List Prop):=match fb s.wr t.wr&&fb s.swr t.srd&&fb s.swr t.swr&&fb t.swr s.srd with
 | true=>match (match fb s.wr t.rd with|true=>some []|false=>nQ s t),(match fb t.wr s.rd with|true=>some []|false=>nQ t s) with
  | some p,some q=>some (p++q)
  | _,_=>none
 | false=>none
def lG(msk:List Nat)(i:Nat)(t:d6):fo->Option (List Prop)
 | []=>some []
 | (j,s)::r=>match kz msk j i||pH s t with
  | true=>lG msk i t r
  | false=>match qO s t with
   | some ps=>match lG msk i t r with
    | some qs=>some (ps++qs)
    | none=>none
   | none=>none
theorem wC{t:d6}{v:List Prop×SV}{h:aI}{ps:List Prop}(e:oT t v h=some ps)(hp:aB ps):t.q.run h=some (.go (.det v.1 v.2 []),t.rd):=by
 unfold oT at e
 split at e
 ·rename_i st r hr
  split at e
  ·rename_i v1 h1
   split at e
   ·rename_i h2
    split at e
    ·rename_i p q hp1 hq
     cases e
     obtain⟨c1,c2⟩:=eY.1 hp
     rw[hr,qz h1,xh h2,uY hp1 c1,DO hq c2]
    ·cases e
   ·cases e
  ·cases e
 ·cases e
theorem uC{s t:d6}{ps:List Prop}(e:nQ s t=some ps)(hp:aB ps):pK s t:=by
 unfold nQ at e
 split at e
 ·rename_i u v hu hv
  split at e
  ·rename_i hs
   split at e
   ·rename_i p q h1 h2
    cases e
    obtain⟨c1,c2⟩:=eY.1 hp
    obtain⟨pre,v0,hst⟩:=zV hu
    refine⟨pre,v0,u,hst,vn hs,?_,?_⟩
    ·rw[qz hv];exact wC h1 c1
    ·rw[qz hv];exact wC h2 c2
   ·cases e
  ·cases e
 ·cases e
theorem CX{s t:d6}{ps:List Prop}(e:qO s t=some ps)(hp:aB ps):gT s t:=by
 unfold qO at e
 split at e
 ·rename_i hb
  simp only[Bool.and_eq_true] at hb
  obtain⟨⟨⟨b1,b2⟩,b3⟩,b4⟩:=hb
  split at e
  ·rename_i p q h1 h2
   cases e
   obtain⟨c1,c2⟩:=eY.1 hp
   refine⟨?_,fL b1,?_,fL b2,fL b3,fL b4⟩
   ·split at h1
    ·rename_i hn;exact .inl (fL hn)
    ·exact .inr (uC h1 c1)
   ·split at h2
    ·rename_i hn;exact .inl (fL hn)
    ·exact .inr (uC h2 c2)
  ·cases e
 ·cases e
theorem qm{msk:List Nat}{i:Nat}{t:d6}:∀{l:fo}{ps:List Prop},lG msk i t l=some ps->aB ps->oG msk i t l
 | [],_,_,_=>fun p hp=>by cases hp
 | (j,s)::r,ps,e,hp=>by
  simp only[lG] at e
  split at e
  ·rename_i hb
   intro p hm
   rcases List.mem_cons.1 hm with rfl|hm
   ·simp only[Bool.or_eq_true] at hb
    exact hb.imp id Ea
   ·exact qm e hp p hm
  ·split at e
   ·rename_i p1 h1
    split at e
    ·rename_i q h2
     cases e
     obtain⟨c1,c2⟩:=eY.1 hp
     intro p hm
     rcases List.mem_cons.1 hm with rfl|hm
     ·exact .inr (CX h1 c1)
     ·exact qm h2 c2 p hm
    ·cases e
   ·cases e
def mY(P:Program)(sp:bc)(ops:Array Oper)(gs:List Nat)(msk:List Nat)(k:St->Prop):List Oper->Nat->fo->St->Prop
 | [],_,_,S=>k S
 | o::l,i,log,S=>match (dj P sp ops.toList o S.sl).run (aZ S.H) with
  | some (st,r)=>iO r fun r=>iO st.wr fun wr=>iO (o.looksAt ops) fun lk=>match lG msk i ⟨r,wr,lk,ji o.dst,dj P sp ops.toList o S.sl,st,gD wr (aZ S.H)⟩ log with
   | some ps=>fJ ps (rG o.dst S (oL gs o.dst (mY P sp ops gs msk k l (i+1) ((i,⟨r,wr,lk,ji o.dst,dj P sp ops.toList o S.sl,st,gD wr (aZ S.H)⟩)::log))) st)
   | none=>False
  | none=>False
def qv(P:Program)(sp:bc)(nms:List Nat)(ops:Array Oper)(draw:Bool)(k:St->Prop)(S:St):Prop :=
 iO (j4 ops.toList ops.toList++nms) fun gs=>match draw with
 | false=>mU P sp ops.toList gs k ops.toList S
 | true=>match kv 0 ops.toList with
  | true=>iO (lW ops.toList []) fun msk=>mY P sp ops gs msk k ops.toList 0 [] S
  | false=>False
section
variable {P:Program} {sp:bc} {ops:Array Oper} {gs nms:List Nat} {msk:List Nat} {w0:World} {N0:bv} {Q:Exit->Act->World->Prop} {k:St->Prop}
theorem vE:∀(l:List Oper)(i:Nat)(log:fo)(S:St),(∀ j,l[j]? = ops[i+j]?)->mY P sp ops gs msk k l i log S →
  iM P sp ops msk (fun F=>∃ S',St.fs S'=F/\k S') l i log S.fs
 | [],i,log,S,_,h=>⟨S,rfl,h⟩
 | o::l,i,log,S,hl,h=>by
  have h0:ops[i]? = some o:=by simpa using (hl 0).symm
  simp only[mY] at h
  simp only[iM]
  unfold ge
  rw[h0]
  split at h
  ·rename_i st r hr
   simp only[oa] at h
   split at h
   ·rename_i ps hok
    obtain⟨hps,h⟩:=js.1 h
    obtain⟨h1,h2⟩:=xj h
    refine⟨st,r,hr,h1,qm hok hps,fun F' hF=>?_⟩
    obtain⟨S',rfl,h3⟩:=h2 F' hF
    exact vE l (i+1) _ S' (fun j=>by have:=hl (j+1);simpa[Nat.add_assoc,Nat.add_comm 1 j] using this) (vu h3)
   ·exact h.elim
  ·exact h.elim
theorem vp(hs:ca P sp/\N0.g=sp.gl){A1:Nat->Prop}{env1:ai}{w1:World}
  (hQ:∀ S' A' env' a' w',k S'→bT w0 N0 A' env' (St.fs S') a' w'→aW A1 env1 w1 A' env' w'→Q .normal a' w') :
  ∀(l:List Oper)(i:Nat)(S:St)(A:Nat->Prop)(env:ai)(a:Act)(w:World),(∀ j,l[j]? = ops[i+j]?)->mU P sp ops.toList gs k l S->bT w0 N0 A env S.fs a w->aW A1 env1 w1 A env w →
   wpOps P ops Q (List.range' i l.length) a w
 | [],i,S,A,env,a,w,_,h,t,x=>hQ _ _ _ _ _ h t x
 | o::l,i,S,A,env,a,w,hl,h,t,x=>by
  have h0:ops[i]? = some o:=by simpa using (hl 0).symm
  simp only[mU] at h
  rw[List.length_cons,List.range'_succ,wpOps_cons]
  unfold wpOp
  simp only[h0]
  split at h
  ·rename_i st r hr
   obtain⟨h1,h2⟩:=xj h
   refine (rU hs t hr h1).2 _ _ fun F' A' env' a' w' hF t' x'=>?_
   obtain⟨S',rfl,h3⟩:=h2 F' hF
   exact vp hs hQ l (i+1) S' A' env' a' w' (fun j=>by have:=hl (j+1);simpa[Nat.add_assoc,Nat.add_comm 1 j] using this) (vu h3) t' (x.trans x')
  ·exact h.elim
theorem xR(hs:ca P sp/\N0.g=sp.gl)(aD:P.follows .mixedOrders=true){id:Nat}{draw:Bool}{A:Nat->Prop}{env:ai}{S:St}{a:Act}{w:World}
  (t:bT w0 N0 A env S.fs a w) (h:qv P sp nms ops draw k S)
  (hQ:∀ S' A' env' a' w',k S'→bT w0 N0 A' env' (St.fs S') a' w'→aW A env w A' env' w'→Q .normal a' w'):(Code.region id ops draw).wp P Q a w:=by
 unfold qv at h
 rw[oa] at h
 cases draw with
 | false =>
  refine wp_region ?_
  have:=vp (ops:=ops) hs hQ ops.toList 0 S A env a w (by simp) h t aW.refl
  rw[List.range_eq_range']
  simpa using this
 | true =>
  simp only at h
  split at h
  ·rename_i hlex
   rw[oa] at h
   refine AU (K:=fun F=>∃ S',St.fs S'=F/\k S') (msk:=lW ops.toList []) hs aD (fun _=>⟨hlex,rfl⟩) t (vE ops.toList 0 [] S (by simp) h) ?_
   rintro F' A' env' a' w' ⟨S',rfl,hk⟩ t' x'
   exact hQ S' A' env' a' w' hk t' x'
  ·exact h.elim
end
end Go.SX

/- SX, part 17: one symbolic state seen as another: names renamed, values forgotten. -/
namespace Go.SX
set_option linter.unusedVariables false
def PN:Nat:=1048576
def QN:Nat:=2097152
def HN:Nat:=1572864
theorem ze:PN<QN:=by decide
abbrev Rn:=List (Nat×Option Nat)
def aY:Rn->Nat->Option (Option Nat)
 | [],_=>none
 | (m,x)::r,n=>match Nat.beq n m with
  | true=>some x
  | false=>aY r n
def o6:Option Nat->Option Nat->Bool
 | none,none=>true
 | some a,some b=>Nat.beq a b
 | _,_=>false
theorem Az{a b:Option Nat}(h:o6 a b=true):a=b:=by
 cases a <;> cases b <;> simp only[o6,Bool.false_eq_true] at h
 ·rfl
 ·rw[Nat.eq_of_beq_eq_true h]
def kI(m:Nat):Rn->Bool
 | []=>false
 | (_,some k)::r=>Nat.beq m k||kI m r
 | (_,none)::r=>kI m r
def mt(c:Nat)(x:Option Nat)(R:Rn):Option Rn:=match aY R c with
 | some y=>match o6 y x with
  | true=>some R
  | false=>none
 | none=>match x with
  | none=>some ((c,none)::R)
  | some m=>match kI m R with
   | true=>none
   | false=>some ((c,some m)::R)
def bO(R:Rn):Prop:=∀ c c' m,aY R c=some (some m)->aY R c'=some (some m)->c=c'
def bo(R R':Rn):Prop:=∀ n y,aY R n=some y->aY R' n=some y
theorem bo.refl{R:Rn}:bo R R:=fun _ _ h=>h
theorem bo.trans{a b c:Rn}(h:bo a b)(k:bo b c):bo a c:=fun n y e=>k n y (h n y e)
theorem nK{m:Nat}:∀{R:Rn},kI m R=false→∀ c,aY R c≠some (some m)
 | [],_,c=>by simp[aY]
 | (n,some k)::r,h,c=>by
  simp only[kI,Bool.or_eq_false_iff] at h
  simp only[aY]
  split
  ·intro e;cases e;rw[Nat.beq_refl] at h;cases h.1
  ·exact nK h.2 c
 | (n,none)::r,h,c=>by
  simp only[kI] at h
  simp only[aY]
  split
  ·intro e;cases e
  ·exact nK h c
theorem eI{c n:Nat}{x:Option Nat}{R:Rn}:aY ((c,x)::R) n=if n=c then some x else aY R n:=by
 simp only[aY]
 by_cases h:n=c
 ·subst h;simp
 ·have:Nat.beq n c=false:=by
   cases hb:Nat.beq n c with
   | false=>rfl
   | true=>exact absurd (Nat.eq_of_beq_eq_true hb) h
  rw[this,if_neg h]
theorem pd{c:Nat}{x:Option Nat}{R R':Rn}(h:mt c x R=some R'):aY R' c=some x/\bo R R'∧(bO R->bO R'):=by
 unfold mt at h
 split at h
 ·rename_i y hy
  split at h
  ·rename_i hb
   cases h
   rw[Az hb] at hy
   exact⟨hy,bo.refl,id⟩
  ·cases h
 ·rename_i hn
  have le:∀ y,bo R ((c,y)::R):=fun y n z hz=>by
   rw[eI,if_neg (fun e=>by rw[e,hn] at hz;cases hz)];exact hz
  split at h
  ·cases h
   refine⟨by rw[eI,if_pos rfl],le _,fun hi a b m ha hb=>?_⟩
   rw[eI] at ha hb
   split at ha
   ·cases ha
   ·split at hb
    ·cases hb
    ·exact hi a b m ha hb
  ·rename_i m
   split at h
   ·cases h
   ·rename_i hs
    cases h
    refine⟨by rw[eI,if_pos rfl],le _,fun hi a b k ha hb=>?_⟩
    rw[eI] at ha hb
    split at ha
    ·rename_i ea
     cases ha
     split at hb
     ·rename_i eb;rw[ea,eb]
     ·exact absurd hb (nK hs b)
    ·split at hb
     ·cases hb;exact absurd ha (nK hs a)
     ·exact hi a b k ha hb
def bP(R:Rn)(env:ai):ai:=fun n=>match aY R n with
 | some (some m)=>env m
 | some none => .nil
 | none => .un
theorem fF{R:Rn}{env:ai}{c m:Nat}(h:aY R c=some (some m)):bP R env c=env m:=by unfold bP;rw[h]
theorem ma{R:Rn}{env:ai}{c:Nat}(h:aY R c=some none):bP R env c = .nil:=by unfold bP;rw[h]
def fw(p:Prop)(R:Rn):Option (Rn×List Prop):=some (R,[p])
def gE(c:Nat)(x:Option Nat)(ps:List Prop)(R:Rn):Option (Rn×List Prop):=match mt c x R with
 | some R'=>some (R',ps)
 | none=>none
def nx(v u:SV)(R:Rn):Option (Rn×List Prop):=match v,u with
 | .junk,_=>some (R,[])
 | .int k n,.int k' m=>match c6 k k' with
  | true=>fw (m=n) R
  | false=>none
 | .bool b,.bool c=>fw (c=b) R
 | .str b,.str c=>fw (c=b) R
 | .dsl t xs,.dsl t' ys=>match bQ t' t ys with
  | some zs=>fw (zs=xs) R
  | none=>none
 | .dsl t xs,.dsx t' ys=>match bQ t' t ys with
  | some zs=>fw (zs=xs) R
  | none=>none
 | .dsl t xs,.nilsl=>fw (xs=[]) R
 | .dsx t xs,.dsx t' ys=>match bQ t' t ys with
  | some zs=>fw (zs=xs) R
  | none=>none
 | .nilsl,.nilsl=>some (R,[])
 | .own c sz,.own d sz'=>match Nat.beq sz sz' with
  | true=>gE c (some d) [] R
  | false=>none
 | .own c sz,.nilsl=>gE c none [] R
 | .ptr c o,.ptr d o'=>match Nat.beq o o' with
  | true=>gE c (some d) [] R
  | false=>none
 | .eptr c sz i o,.eptr d sz' i' o'=>match Nat.beq sz sz',Nat.beq o o' with
  | true,true=>gE c (some d) [i'=i] R
  | _,_=>none
 | .csl c k,.csl d k'=>match Nat.beq k k' with
  | true=>gE c (some d) [] R
  | false=>none
 | .mapp c,.mapp d=>gE c (some d) [] R
 | .part c sz l m,.part d sz' l' m'=>match Nat.beq sz sz' with
  | true=>gE c (some d) [l'=l,m'=m] R
  | false=>none
 | .hv c s,.hv d s'=>gE c (some d) [s'=s] R
 | .nilp,.nilp=>some (R,[])
 | .fn f [],.fn g []=>match Nat.beq f g with
  | true=>some (R,[])
  | false=>none
 | .cv x,.cv y=>fw (y=x) R
 | _,_=>none
def ks:List SV->List SV->Rn->Option (Rn×List Prop)
 | [],[],R=>some (R,[])
 | v::vs,u::us,R=>match nx v u R with
  | some (R1,p)=>match ks vs us R1 with
   | some (R2,q)=>some (R2,p++q)
   | none=>none
  | none=>none
 | _,_,_=>none
def qK(v u:SV)(R:Rn):Option (Rn×List Prop):=match v,u with
 | .agg cs,.agg ds=>ks cs ds R
 | .fn f cs,.fn g ds=>match Nat.beq f g with
  | true=>ks cs ds R
  | false=>none
 | v,u=>nx v u R
def qI(b b0:cU)(R:Rn):Option (Rn×List Prop):=match b,b0 with
 | .cells E cs,.cells E' ds=>match Nat.beq E E' with
  | true=>ks cs ds R
  | false=>none
 | .row E t xs,.row E' t' ys=>match Nat.beq E E',bQ t' t ys with
  | true,some zs=>fw (zs=xs) R
  | _,_=>none
 | .frz E t xs,.frz E' t' ys=>match Nat.beq E E',bQ t' t ys with
  | true,some zs=>fw (zs=xs) R
  | _,_=>none
 | .mp kk vk l,.mp kk' vk' l'=>match c6 kk kk',c6 vk vk' with
  | true,true=>fw (l'=l) R
  | _,_=>none
 | _,_=>none
section
variable {A:Nat->Prop} {env:ai} {w:World}
theorem iS{c:Nat}{x:Option Nat}{ps ps':List Prop}{R R':Rn}(h:gE c x ps R=some (R',ps')):aY R' c=some x/\bo R R'∧(bO R->bO R')/\ps'=ps:=by
 unfold gE at h
 split at h
 ·rename_i R1 h1
  cases h
  obtain⟨a,b,c⟩:=pd h1
  exact⟨a,b,c,rfl⟩
 ·cases h
theorem nS{p:Prop}{ps':List Prop}{R R':Rn}(h:fw p R=some (R',ps')):R'=R/\(aB ps'→p):=by
 cases h;exact⟨rfl,fun h=>h.1⟩
theorem w4{v u:SV}{R R':Rn}{ps:List Prop}(h:nx v u R=some (R',ps)) :
  bo R R'∧(bO R->bO R')/\(aB ps→∀ Rf,bo R' Rf→∀ x,aa A env w u x->aa A (bP Rf env) w v x):=by
 have easy:∀{p:Prop},fw p R=some (R',ps)->(p→∀ Rf:Rn,bo R' Rf→∀ x,aa A env w u x->aa A (bP Rf env) w v x) →
   bo R R'∧(bO R->bO R')/\(aB ps→∀ Rf,bo R' Rf→∀ x,aa A env w u x->aa A (bP Rf env) w v x):=fun e f=>by
  obtain⟨rfl,hp⟩:=nS e
  exact⟨bo.refl,id,fun h=>f (hp h)⟩
 have triv:some (R,([]:List Prop))=some (R',ps)->(∀ Rf:Rn,∀ x,aa A env w u x->aa A (bP Rf env) w v x) →
   bo R R'∧(bO R->bO R')/\(aB ps→∀ Rf,bo R' Rf→∀ x,aa A env w u x->aa A (bP Rf env) w v x):=fun e f=>by
  cases e
  exact⟨bo.refl,id,fun _ Rf _=>f Rf⟩
 unfold nx at h
 split at h
 ·exact triv h fun Rf x _=>by simp only[aa]
 ·split at h
  ·rename_i hk
   cases dk hk
   exact easy h fun e Rf _ x hx=>by subst e;simpa only[aa] using hx
  ·cases h
 ·exact easy h fun e Rf _ x hx=>by subst e;simpa only[aa] using hx
 ·exact easy h fun e Rf _ x hx=>by subst e;simpa only[aa] using hx
 ·split at h
  ·rename_i zs hc
   obtain⟨et,ez⟩:=cD hc
   subst et
   exact easy h fun e Rf _ x hx=>by simp only at ez;subst ez;subst e;simpa only[aa] using hx
  ·cases h
 ·split at h
  ·rename_i zs hc
   obtain⟨et,ez⟩:=cD hc
   subst et
   exact easy h fun e Rf _ x hx=>by simp only at ez;subst ez;subst e;simp only[aa] at hx ⊢;exact hx.1
  ·cases h
 ·exact easy h fun e Rf _ x hx=>by subst e;simp only[aa] at hx ⊢;subst hx;exact⟨by simp,.inl ⟨⟨_,rfl⟩,rfl⟩⟩
 ·split at h
  ·rename_i zs hc
   obtain⟨et,ez⟩:=cD hc
   subst et
   exact easy h fun e Rf _ x hx=>by simp only at ez;subst ez;subst e;simpa only[aa] using hx
  ·cases h
 ·exact triv h fun Rf x hx=>by simpa only[aa] using hx
 ·split at h
  ·rename_i hs
   have hs:=Nat.eq_of_beq_eq_true hs
   subst hs
   obtain⟨h1,h2,h3,rfl⟩:=iS h
   refine⟨h2,h3,fun _ Rf hf x hx=>?_⟩
   simp only[aa] at hx ⊢
   rw[fF (hf _ _ h1)];exact hx
  ·cases h
 ·obtain⟨h1,h2,h3,rfl⟩:=iS h
  refine⟨h2,h3,fun _ Rf hf x hx=>?_⟩
  simp only[aa] at hx ⊢
  exact .inl ⟨ma (hf _ _ h1),_,hx⟩
 ·split at h
  ·rename_i hs
   have hs:=Nat.eq_of_beq_eq_true hs
   subst hs
   obtain⟨h1,h2,h3,rfl⟩:=iS h
   refine⟨h2,h3,fun _ Rf hf x hx=>?_⟩
   simp only[aa] at hx ⊢
   rw[fF (hf _ _ h1)];exact hx
  ·cases h
 ·split at h
  ·rename_i hs ho
   have hs:=Nat.eq_of_beq_eq_true hs
   have ho:=Nat.eq_of_beq_eq_true ho
   subst hs ho
   obtain⟨h1,h2,h3,rfl⟩:=iS h
   refine⟨h2,h3,fun hc Rf hf x hx=>?_⟩
   have hi:=hc.1
   subst hi
   simp only[aa] at hx ⊢
   rw[fF (hf _ _ h1)];exact hx
  ·cases h
 ·split at h
  ·rename_i hs
   have hs:=Nat.eq_of_beq_eq_true hs
   subst hs
   obtain⟨h1,h2,h3,rfl⟩:=iS h
   refine⟨h2,h3,fun _ Rf hf x hx=>?_⟩
   simp only[aa] at hx ⊢
   rw[fF (hf _ _ h1)];exact hx
  ·cases h
 ·obtain⟨h1,h2,h3,rfl⟩:=iS h
  refine⟨h2,h3,fun _ Rf hf x hx=>?_⟩
  simp only[aa] at hx ⊢
  rw[fF (hf _ _ h1)];exact hx
 ·split at h
  ·rename_i hs
   have hs:=Nat.eq_of_beq_eq_true hs
   subst hs
   obtain⟨h1,h2,h3,rfl⟩:=iS h
   refine⟨h2,h3,fun hc Rf hf x hx=>?_⟩
   obtain⟨rfl,rfl,_⟩:=hc
   simp only[aa] at hx ⊢
   rw[fF (hf _ _ h1)];exact hx
  ·cases h
 ·obtain⟨h1,h2,h3,rfl⟩:=iS h
  refine⟨h2,h3,fun hc Rf hf x hx=>?_⟩
  obtain⟨rfl,_⟩:=hc
  simp only[aa] at hx ⊢
  rw[fF (hf _ _ h1)];exact hx
 ·exact triv h fun Rf x hx=>by simpa only[aa] using hx
 ·split at h
  ·rename_i hs
   have hs:=Nat.eq_of_beq_eq_true hs
   subst hs
   exact triv h fun Rf x hx=>by simp only[aa,ac] at hx ⊢;exact hx
  ·cases h
 ·exact easy h fun e Rf _ x hx=>by subst e;simpa only[aa] using hx
 ·cases h
theorem mG:∀{vs us:List SV}{R R':Rn}{ps:List Prop},ks vs us R=some (R',ps) →
  bo R R'∧(bO R->bO R')/\(aB ps→∀ Rf,bo R' Rf→∀ xs,ac A env w us xs->ac A (bP Rf env) w vs xs)
 | [],[],R,R',ps,h=>by
  cases h
  exact⟨bo.refl,id,fun _ Rf _ xs hx=>by simpa only[ac] using hx⟩
 | v::vs,u::us,R,R',ps,h=>by
  simp only[ks] at h
  split at h
  ·rename_i R1 p h1
   split at h
   ·rename_i R2 q h2
    cases h
    obtain⟨a1,a2,a3⟩:=w4 (A:=A) (env:=env) (w:=w) h1
    obtain⟨b1,b2,b3⟩:=mG h2
    refine⟨a1.trans b1,fun h=>b2 (a2 h),fun hc Rf hf xs hx=>?_⟩
    obtain⟨c1,c2⟩:=eY.1 hc
    simp only[ac] at hx ⊢
    obtain⟨x,r,rfl,hx,hr⟩:=hx
    exact⟨x,r,rfl,a3 c1 Rf (b1.trans hf) x hx,b3 c2 Rf hf r hr⟩
   ·cases h
  ·cases h
 | [],_::_,_,_,_,h=>by cases h
 | _::_,[],_,_,_,h=>by cases h
theorem En{v u:SV}{R R':Rn}{ps:List Prop}(h:qK v u R=some (R',ps)) :
  bo R R'∧(bO R->bO R')/\(aB ps→∀ Rf,bo R' Rf→∀ x,aa A env w u x->aa A (bP Rf env) w v x):=by
 unfold qK at h
 split at h
 ·obtain⟨a1,a2,a3⟩:=mG (A:=A) (env:=env) (w:=w) h
  refine⟨a1,a2,fun hc Rf hf x hx=>?_⟩
  simp only[aa] at hx ⊢
  obtain⟨vs,e,hd⟩:=hx
  exact⟨vs,e,a3 hc Rf hf _ hd⟩
 ·split at h
  ·rename_i hb
   have hb:=Nat.eq_of_beq_eq_true hb
   subst hb
   obtain⟨a1,a2,a3⟩:=mG (A:=A) (env:=env) (w:=w) h
   refine⟨a1,a2,fun hc Rf hf x hx=>?_⟩
   simp only[aa] at hx ⊢
   obtain⟨vs,e,hd⟩:=hx
   exact⟨vs,e,a3 hc Rf hf _ hd⟩
  ·cases h
 ·exact w4 h
theorem Ar{b b0:cU}{R R':Rn}{ps:List Prop}(h:qI b b0 R=some (R',ps)) :
  bo R R'∧(bO R->bO R')/\b.mut=b0.mut/\(aB ps→∀ Rf,bo R' Rf→∀ k len,cL A env w k len b0->cL A (bP Rf env) w k len b) ∧
   (aB ps→∀ E t,b0 = .row E t []∨b0 = .frz E t []→∃ E t,b = .row E t []∨b = .frz E t []):=by
 unfold qI at h
 split at h
 ·split at h
  ·rename_i hb
   have hb:=Nat.eq_of_beq_eq_true hb
   subst hb
   obtain⟨a1,a2,a3⟩:=mG (A:=A) (env:=env) (w:=w) h
   refine⟨a1,a2,rfl,fun hc Rf hf k len ⟨vs,e,hd⟩=>⟨vs,e,a3 hc Rf hf _ hd⟩,fun _ E t he=>?_⟩
   rcases he with he|he <;> cases he
  ·cases h
 ·split at h
  ·rename_i zs hb hc
   have hb:=Nat.eq_of_beq_eq_true hb
   subst hb
   obtain⟨et,ez⟩:=cD hc
   subst et
   simp only at ez
   subst ez
   obtain⟨rfl,hp⟩:=nS h
   refine⟨bo.refl,id,rfl,fun hc Rf hf k len hb=>by rw[← hp hc];exact hb,fun hc E t he=>?_⟩
   have:=hp hc
   subst this
   rcases he with he|he <;> cases he
   exact⟨_,_,.inl rfl⟩
  ·cases h
 ·split at h
  ·rename_i zs hb hc
   have hb:=Nat.eq_of_beq_eq_true hb
   subst hb
   obtain⟨et,ez⟩:=cD hc
   subst et
   simp only at ez
   subst ez
   obtain⟨rfl,hp⟩:=nS h
   refine⟨bo.refl,id,rfl,fun hc Rf hf k len hb=>by rw[← hp hc];exact hb,fun hc E t he=>?_⟩
   have:=hp hc
   subst this
   rcases he with he|he <;> cases he
   exact⟨_,_,.inr rfl⟩
  ·cases h
 ·split at h
  ·rename_i h1 h2
   cases dk h1
   cases dk h2
   obtain⟨rfl,hp⟩:=nS h
   refine⟨bo.refl,id,rfl,fun hc Rf hf k len hb=>by rw[← hp hc];exact hb,fun hc E t he=>?_⟩
   rcases he with he|he <;> cases he
  ·cases h
 ·cases h
end
def li(R:Rn)(k:Rn->Prop):Prop:=match R with
 | []=>k []
 | (n,x)::r=>li r fun r=>match x with
  | none=>k ((n,none)::r)
  | some m=>k ((n,some m)::r)
theorem ny:∀(R:Rn)(k:Rn->Prop),li R k=k R
 | [],k=>rfl
 | (n,none)::r,k=>by simp only[li,ny r]
 | (n,some m)::r,k=>by simp only[li,ny r]
def m8:List SV->List SV->Rn->(Rn->Prop)->Prop
 | [],[],R,k=>k R
 | v::vs,u::us,R,k=>match qK v u R with
  | some (R',ps)=>li R' fun R'=>fJ ps (m8 vs us R' k)
  | none=>False
 | _,_,_,_=>False
def nW(H:List (Nat×Nm))(c m:Nat)(b:cU)(R:Rn)(k:Rn->Prop):Prop:=match aZ H m with
 | .live b0=>match qI b b0 R with
  | some (R',ps)=>li R' fun R'=>fJ ps (k R')
  | none=>False
 | _=>False
def gR(H:List (Nat×Nm)):List (Nat×Nm)->Rn->(Rn->Prop)->Prop
 | [],R,k=>k R
 | (c,b)::r,R,k=>match b with
  | .live b=>match aY R c with
   | some (some m)=>nW H c m b R fun R'=>gR H r R' k
   | some none=>match b with
    | .row _ _ xs=>xs=[]/\gR H r R k
    | _=>False
   | none=>match mt c (some c) R with
    | some R1=>nW H c c b R1 fun R'=>gR H r R' k
    | none=>False
  | .dead=>match aY R c with
   | some _=>gR H r R k
   | none=>match mt c (some c) R with
    | some R1=>gR H r R1 k
    | none=>False
  | .un=>False
def mv(n:Nat):List (Nat×Nm)->Bool
 | []=>false
 | (m,_)::r=>Nat.beq n m||mv n r
def mP(Hh:List (Nat×Nm)):Rn->Bool
 | []=>true
 | (c,_)::r=>mv c Hh&&mP Hh r
def od(R:Rn):List (Nat×Nm)->Bool
 | []=>true
 | (n,_)::r=>(Nat.blt n PN||Nat.ble QN n||(match aY R n with|some (some m)=>Nat.beq m n|_=>false))&&od R r
def enter(S T:St):Prop:=m8 T.sl S.sl [] fun R=>gR S.H T.H R fun R=>match mP T.H R,od R S.H with
 | true,true=>True
 | _,_=>False
theorem tA{n:Nat}:∀{H:List (Nat×Nm)},mv n H=true↔n∈H.map (·.1)
 | []=>by simp[mv]
 | (m,b)::r=>by
  simp only[mv,Bool.or_eq_true,List.map_cons,List.mem_cons,tA]
  constructor
  ·rintro (h|h)
   ·exact .inl (Nat.eq_of_beq_eq_true h)
   ·exact .inr h
  ·rintro (h|h)
   ·left;rw[h];exact Nat.beq_refl _
   ·exact .inr h
theorem vz{Hh:List (Nat×Nm)}:∀{R:Rn},mP Hh R=true→∀ c,aY R c≠none->c∈Hh.map (·.1)
 | [],_,c,h=>by simp[aY] at h
 | (n,x)::r,h,c,hc=>by
  simp only[mP,Bool.and_eq_true] at h
  rw[eI] at hc
  split at hc
  ·rename_i e;rw[e];exact tA.1 h.1
  ·exact vz h.2 c hc
theorem sn{R:Rn}:∀{H:List (Nat×Nm)},od R H=true→∀ n,PN<=n->n<QN->n∈H.map (·.1)->aY R n=some (some n)
 | [],_,n,_,_,h=>by simp at h
 | (m,b)::r,h,n,hn,hn',hm=>by
  simp only[od,Bool.and_eq_true,Bool.or_eq_true] at h
  rcases List.mem_cons.1 hm with e|hm
  ·have e:n=m:=e
   subst e
   rcases h.1 with (h1|h1)|h1
   ·have:=Nat.le_of_ble_eq_true h1
    have hn:PN<=n:=hn
    omega
   ·have:=Nat.le_of_ble_eq_true h1
    have hn:n<QN:=hn'
    omega
   ·split at h1
    ·rename_i k hk
     rw[hk,Nat.eq_of_beq_eq_true h1]
    ·cases h1
  ·exact sn h.2 n hn hn' hm
theorem pG{H:List (Nat×Nm)}{n:Nat}:aZ H n = .un∨(n,aZ H n)∈H:=by
 induction H with
 | nil=>exact .inl rfl
 | cons p r ih =>
  obtain⟨m,b⟩:=p
  unfold aZ
  split
  ·rename_i hb;rw[Nat.eq_of_beq_eq_true hb];exact .inr (List.mem_cons_self ..)
  ·rcases ih with h|h
   ·exact .inl h
   ·exact .inr (List.mem_cons_of_mem _ h)
theorem yK{H:List (Nat×Nm)}{n:Nat}(h:n ∉ H.map (·.1)):aZ H n = .un:=by
 rcases pG (H:=H) (n:=n) with h1|h1
 ·exact h1
 ·exact absurd (List.mem_map_of_mem (f:=(·.1)) h1) h
structure gL (A:Nat->Prop) (env:ai) (w:World) (A':Nat->Prop) (env':ai) (w':World):Prop where
 imm:∀ b,A b->A' b
 envp:∀ n,PN<=n->n<QN->env n ≠ .un->env' n=env n
 keep:∀ b o,A b->w'.cell? ⟨b,o,none⟩=w.cell? ⟨b,o,none⟩
 shape:∀ b s,w.shape? b=some s->w'.shape? b=some s
theorem aW.ext0{A:Nat->Prop}{env:ai}{w:World}{A':Nat->Prop}{env':ai}{w':World}(x:aW A env w A' env' w'):gL A env w A' env' w':=by
 refine⟨x.imm,fun n _ _ hn=>?_,x.keep,x.shape⟩
 cases h:env n with
 | un=>exact absurd h hn
 | nil=>exact x.envn n h
 | blk b l=>exact x.envb n b l h
 | val v s=>exact x.envv n v s h
theorem gL.trans{A A' A'':Nat->Prop}{env env' env'':ai}{w w' w'':World}(h:gL A env w A' env' w')(k:gL A' env' w' A'' env'' w''):gL A env w A'' env'' w'' :=
 ⟨fun b hb=>k.imm b (h.imm b hb),fun n hn hn' e=>(k.envp n hn hn' (by rw[h.envp n hn hn' e];exact e)).trans (h.envp n hn hn' e),
  fun b o hb=>(k.keep b o (h.imm b hb)).trans (h.keep b o hb),fun b s e=>k.shape b s (h.shape b s e)⟩
section
variable {w0:World} {N0:bv} {A:Nat->Prop} {env:ai} {w:World} {a:Act}
theorem sN:∀{vs us:List SV}{R:Rn}{k:Rn->Prop},m8 vs us R k →
  ∃ R',k R'∧vs.length=us.length/\bo R R'∧(bO R->bO R')∧∀ Rf,bo R' Rf→∀ i x,aa A env w (bd us i) x->aa A (bP Rf env) w (bd vs i) x
 | [],[],R,k,h=>⟨R,h,rfl,bo.refl,id,fun Rf _ i x _=>by simp[bd,dL,aa]⟩
 | v::vs,u::us,R,k,h=>by
  simp only[m8] at h
  split at h
  ·rename_i R1 ps h1
   rw[ny] at h
   obtain⟨hc,h2⟩:=js.1 h
   obtain⟨a1,a2,a3⟩:=En (A:=A) (env:=env) (w:=w) h1
   obtain⟨R2,b1,b2,b3,b4,b5⟩:=sN h2
   refine⟨R2,b1,by simp[b2],a1.trans b3,fun h=>b4 (a2 h),fun Rf hf i x hx=>?_⟩
   cases i with
   | zero=>exact a3 hc Rf (b3.trans hf) x hx
   | succ i=>exact b5 Rf hf i x hx
  ·exact h.elim
 | [],_::_,_,_,h=>h.elim
 | _::_,[],_,_,h=>h.elim
def hX(A:Nat->Prop)(env:ai)(w:World)(H:List (Nat×Nm))(R:Rn)(c:Nat)(x:Nm):Prop :=
 x = .dead∨∃ b,x = .live b/\((∃ m b0,aY R c=some (some m)/\aZ H m = .live b0/\b.mut=b0.mut/\(∀ Rf,bo R Rf→∀ k len,cL A env w k len b0->cL A (bP Rf env) w k len b) ∧
   (∀ E t,b0 = .row E t []∨b0 = .frz E t []→∃ E t,b = .row E t []∨b = .frz E t [])) ∨
  (aY R c=some none∧∃ E t,b = .row E t []))
theorem hX.mono{H:List (Nat×Nm)}{R R':Rn}{c:Nat}{x:Nm}(h:hX A env w H R c x)(le:bo R R'):hX A env w H R' c x:=by
 obtain e|⟨b,e,⟨m,b0,h1,h2,h3,h4,h5⟩|⟨h1,h2⟩⟩:=h
 ·exact .inl e
 ·exact .inr ⟨b,e,.inl ⟨m,b0,le _ _ h1,h2,h3,fun Rf hf=>h4 Rf (le.trans hf),h5⟩⟩
 ·exact .inr ⟨b,e,.inr ⟨le _ _ h1,h2⟩⟩
theorem uN{H:List (Nat×Nm)}{c m:Nat}{b:cU}{R:Rn}{k:Rn->Prop}(hl:aY R c=some (some m))(h:nW H c m b R k) :
  ∃ R',k R'∧bo R R'∧(bO R->bO R')/\hX A env w H R' c (.live b):=by
 unfold nW at h
 split at h
 ·rename_i b0 h0
  split at h
  ·rename_i R' ps h1
   rw[ny] at h
   obtain⟨hc,h2⟩:=js.1 h
   obtain⟨a1,a2,a3,a4,a5⟩:=Ar (A:=A) (env:=env) (w:=w) h1
   exact⟨R',h2,a1,a2,.inr ⟨b,rfl,.inl ⟨m,b0,a1 _ _ hl,h0,a3,a4 hc,a5 hc⟩⟩⟩
  ·exact h.elim
 ·exact h.elim
theorem rX{H:List (Nat×Nm)}:∀{Hh:List (Nat×Nm)}{R:Rn}{k:Rn->Prop},gR H Hh R k →
  ∃ R',k R'∧bo R R'∧(bO R->bO R')∧∀ c x,(c,x)∈Hh->hX A env w H R' c x
 | [],R,k,h=>⟨R,h,bo.refl,id,fun c x hx=>by simp at hx⟩
 | (c,b)::r,R,k,h=>by
  simp only[gR] at h
  split at h
  ·rename_i b
   have fin:∀{R1 R2:Rn},bo R R1->(bO R->bO R1)->bo R1 R2->(bO R1->bO R2)->hX A env w H R2 c (.live b)->gR H r R2 k →
     ∃ R',k R'∧bo R R'∧(bO R->bO R')∧∀ c' x,(c',x)∈(c,Nm.live b)::r->hX A env w H R' c' x:=by
    intro R1 R2 l1 i1 l2 i2 ok hr
    obtain⟨R3,c1,c2,c3,c4⟩:=rX hr
    refine⟨R3,c1,(l1.trans l2).trans c2,fun h=>c3 (i2 (i1 h)),fun c' x hx=>?_⟩
    rcases List.mem_cons.1 hx with e|hx
    ·cases e;exact ok.mono c2
    ·exact c4 c' x hx
   split at h
   ·rename_i m hl
    obtain⟨R2,b1,b2,b3,b4⟩:=uN (A:=A) (env:=env) (w:=w) hl h
    exact fin bo.refl id b2 b3 b4 b1
   ·rename_i hl
    split at h
    ·rename_i E t xs
     obtain⟨rfl,h⟩:=h
     exact fin bo.refl id bo.refl id (.inr ⟨_,rfl,.inr ⟨hl,E,t,rfl⟩⟩) h
    ·exact h.elim
   ·split at h
    ·rename_i R1 h1
     obtain⟨a1,a2,a3⟩:=pd h1
     obtain⟨R2,b1,b2,b3,b4⟩:=uN (A:=A) (env:=env) (w:=w) a1 h
     exact fin a2 a3 b2 b3 b4 b1
    ·exact h.elim
  ·have fin:∀{R1:Rn},bo R R1->(bO R->bO R1)->gR H r R1 k →
     ∃ R',k R'∧bo R R'∧(bO R->bO R')∧∀ c' x,(c',x)∈(c,Nm.dead)::r->hX A env w H R' c' x:=by
    intro R1 l1 i1 hr
    obtain⟨R3,c1,c2,c3,c4⟩:=rX hr
    refine⟨R3,c1,l1.trans c2,fun h=>c3 (i1 h),fun c' x hx=>?_⟩
    rcases List.mem_cons.1 hx with e|hx
    ·cases e;exact .inl rfl
    ·exact c4 c' x hx
   split at h
   ·exact fin bo.refl id h
   ·split at h
    ·rename_i R1 h1
     obtain⟨a1,a2,a3⟩:=pd h1
     exact fin a2 a3 h
    ·exact h.elim
  ·exact h.elim
theorem rZ{S T:St}(h:enter S T)(t:bT w0 N0 A env S.fs a w):∃ env',bT w0 N0 A env' T.fs a w/\gL A env w A env' w:=by
 unfold enter at h
 obtain⟨R1,h1,hlen,l1,i1,d1⟩:=sN (A:=A) (env:=env) (w:=w) h
 obtain⟨R,h2,l2,i2,ok⟩:=rX (A:=A) (env:=env) (w:=w) h1
 have hinj:bO R:=i2 (i1 (fun c c' m hc=>by simp[aY] at hc))
 split at h2
 ·rename_i hcov hpar
  have m:=t.m
  have hdom:∀ n,n ∉ T.H.map (·.1)->aY R n=none:=fun n hn=>by
   cases hl:aY R n with
   | none=>rfl
   | some y=>exact absurd (vz hcov n (by rw[hl];simp)) hn
  have live:∀ n b,T.fs.h n = .live b->hX A env w S.H R n (.live b):=fun n b hb=>by
   rcases pG (H:=T.H) (n:=n) with h|h
   ·simp only[St.fs] at hb;rw[h] at hb;cases hb
   ·simp only[St.fs] at hb;rw[hb] at h;exact ok n _ h
  have hmut:∀ n b k l,T.fs.h n = .live b->b.mut=true->bP R env n = .blk k l→∃ m b0,aY R n=some (some m)/\aZ S.H m = .live b0/\b0.mut=true/\env m = .blk k l:=by
   intro n b k l hb hm he
   obtain e|⟨b',e,⟨m',b0,e1,e2,e3,_⟩|⟨e1,_⟩⟩:=live n b hb
   ·cases e
   ·cases e
    unfold bP at he;rw[e1] at he
    exact⟨m',b0,e1,e2,by rw[← e3];exact hm,he⟩
   ·unfold bP at he;rw[e1] at he;cases he
  refine⟨bP R env,⟨⟨m.os,m.tape,m.output,m.size,m.fr,m.Alt,?_,?_,?_,m.fresh,m.gl⟩,by rw[show T.fs.sl.length=S.fs.sl.length from hlen];exact t.len,fun i=>d1 R l2 i _ (t.f i),t.dfr⟩,⟨fun _ h=>h,?_,fun _ _ _=>rfl,fun _ _ h=>h⟩⟩
  ·intro n
   cases hn:T.fs.h n with
   | dead=>trivial
   | un =>
    show bP R env n = .un
    have:n ∉ T.H.map (·.1):=fun hmem=>by
     rcases pG (H:=T.H) (n:=n) with h|h
     ·obtain⟨⟨n',x⟩,hx,rfl⟩:=List.mem_map.1 hmem
      have:∀(H:List (Nat×Nm)),(∀ c x,(c,x)∈H->x ≠ .un)→∀ n,n∈H.map (·.1)->aZ H n ≠ .un:=by
       intro H
       induction H with
       | nil=>intro _ n hn;simp at hn
       | cons p H ih =>
        obtain⟨q,y⟩:=p
        intro hall n hn
        simp only[aZ]
        split
        ·exact hall q y (List.mem_cons_self ..)
        ·rename_i hne
         refine ih (fun c x hx=>hall c x (List.mem_cons_of_mem _ hx)) n ?_
         rcases List.mem_cons.1 hn with e|hn
         ·simp only at e;subst e;rw[Nat.beq_refl] at hne;cases hne
         ·exact hn
      exact this T.H (fun c x hx hu=>by rcases ok c x hx with e|⟨b,e,_⟩ <;> rw[hu] at e <;> cases e) n' hmem hn
     ·simp only[St.fs] at hn
      rw[hn] at h
      rcases ok n _ h with e|⟨b,e,_⟩ <;> cases e
    unfold bP;rw[hdom n this]
   | live b =>
    obtain e|⟨b',e,⟨m',b0,e1,e2,e3,e4,e5⟩|⟨e1,E,tt,e2⟩⟩:=live n b hn
    ·cases e
    ·cases e
     have he:bP R env n=env m':=by unfold bP;rw[e1]
     have hm:=m.nm m'
     simp only[St.fs,e2] at hm
     rcases hm with⟨k,len,he',hb,hA⟩|⟨he',E,tt,hb⟩
     ·exact .inl ⟨k,len,he.trans he',e4 R bo.refl k len hb,fun hmm=>hA (by rw[← e3];exact hmm)⟩
     ·exact .inr ⟨he.trans he',e5 E tt hb⟩
    ·cases e
     exact .inr ⟨by unfold bP;rw[e1],E,tt,.inl e2⟩
  ·intro n b k l hb hm he
   obtain⟨m',b0,e1,e2,e3,e4⟩   := hmut n b k l hb hm he
   exact m.own m' b0 k l e2 e3 e4
  ·intro n n' b c k l l' hb hc hbm hcm he he'
   obtain⟨m1,b1,e1,e2,e3,e4⟩   := hmut n b k l hb hbm he
   obtain⟨m2,b2,f1,f2,f3,f4⟩:=hmut n' c k l' hc hcm he'
   have:=m.inj m1 m2 b1 b2 k l l' e2 f2 e3 f3 e4 f4
   subst this
   exact hinj n n' m1 e1 f1
  ·intro n hn hn' hne
   have:n∈S.H.map (·.1):=by
    refine Classical.byContradiction fun hno=>hne ?_
    have:=m.nm n
    simp only[St.fs,yK hno] at this
    exact this
   have:=sn hpar n hn hn' this
   unfold bP;rw[this]
 ·exact h2.elim
end
end Go.SX

/- SX, part 18: a function's code. -/
namespace Go.SX
set_option linter.unusedVariables false
inductive Ex where
 | normal
 | exit (id:Nat)
 | ret
def Ex.to:Ex->Exit
 | .normal => .normal
 | .exit id => .exit id
 | .ret => .ret
structure pZ:Type 1 where
 ι:Type
 μ:ι->Nat:=fun _=>0
 inv:ι->Prop
 qn:Qn ι := .plain ι
 keep:List Nat:=[]
 slots:ι->List (Nat×SV):=fun _=>[]
 keepN:List Nat:=[]
 names:ι->List (Nat×Nm):=fun _=>[]
def uM(n:Nat):List (Nat×SV)->SV
 | [] => .junk
 | (m,v)::r=>match Nat.beq n m with
  | true=>v
  | false=>uM n r
def u0(keep:List Nat)(l:List (Nat×SV)):Nat->List SV->List SV
 | _,[]=>[]
 | n,v::r=>(match eP n keep with|true=>v|false=>uM n l)::u0 keep l (n+1) r
def tN(H:List (Nat×Nm))(r:List (Nat×Nm)):List Nat->List (Nat×Nm)
 | []=>r
 | n::l=>(n,aZ H n)::tN H r l
def kr(S:St)(an:pZ)(i:an.ι):St:=⟨u0 an.keep (an.slots i) 0 S.sl,tN S.H (an.names i) an.keepN⟩
def oc:List SV->(List SV->Prop)->Prop
 | [],k=>k []
 | x::xs,k=>m9 x fun y=>oc xs fun ys=>k (y::ys)
theorem sD:∀(l:List SV)(k:List SV->Prop),oc l k=k l
 | [],k=>rfl
 | x::xs,k=>by simp only[oc,s8,sD xs]
def oH:List (Nat×Nm)->(List (Nat×Nm)->Prop)->Prop
 | [],k=>k []
 | (n,b)::r,k=>nk b fun b=>oH r fun r=>k ((n,b)::r)
theorem xy:∀(l:List (Nat×Nm))(k:List (Nat×Nm)->Prop),oH l k=k l
 | [],k=>rfl
 | (n,b)::r,k=>by simp only[oH,sL,xy r]
def g8(S:St)(k:St->Prop):Prop:=match S with
 | ⟨sl,H⟩=>oc sl fun sl=>oH H fun H=>k ⟨sl,H⟩
theorem nl(S:St)(k:St->Prop):g8 S k=k S:=by cases S;simp only[g8,sD,xy]
def iW:Code->Nat
 | .region id _ _=>id
 | .seq a _=>iW a
 | .block _ a=>iW a
 | .loop a=>iW a
 | .scope a=>iW a
 | .cond _ a _=>iW a
 | _=>0
structure aN:Type 1 where
 loops:Nat->Option (St->pZ):=fun _=>none
 cuts:Nat->Option (St->pZ):=fun _=>none
 nms:List Nat:=[]
 unr:Nat->Nat:=fun _=>0
def Af:SV->Int
 | .int _ n=>n
 | _=>0
def Dg:SV->Bool
 | .bool b=>b
 | _=>false
def Ce(t:CT):SV->List t.D
 | .dsl t' xs=>match bQ t' t xs with
  | some ys=>ys
  | none=>[]
 | .dsx t' xs=>match bQ t' t xs with
  | some ys=>ys
  | none=>[]
 | _=>[]
def xa(t:CT)(cs:List SV):t.D:=match (cC t cs).run (fun _=>.un) with
 | some ((d,_,_),_)=>d
 | none=>t.dflt
def St.i(S:St)(n:Nat):Int:=Af (bd S.sl n)
def St.b(S:St)(n:Nat):Bool:=Dg (bd S.sl n)
def St.l(S:St)(t:CT)(n:Nat):List t.D:=Ce t (bd S.sl n)
def St.a(S:St)(t:CT)(n:Nat):t.D:=match bd S.sl n with
 | .agg cs=>xa t cs
 | _=>t.dflt
def St.r(S:St)(t:CT)(n:Nat):List t.D:=match aZ S.H n with
 | .live (.row _ t' xs)=>match bQ t' t xs with
  | some ys=>ys
  | none=>[]
 | .live (.frz _ t' xs)=>match bQ t' t xs with
  | some ys=>ys
  | none=>[]
 | _=>[]
def St.c(S:St)(t:CT)(n:Nat):t.D:=match aZ S.H n with
 | .live (.cells _ cs)=>xa t cs
 | _=>t.dflt
def St.o(S:St)(t:CT)(n:Nat):List t.D:=match bd S.sl n with
 | .own m _=>S.r t m
 | _=>[]
def St.p(S:St)(t:CT)(n:Nat):t.D:=match bd S.sl n with
 | .ptr m _=>S.c t m
 | _=>t.dflt
def vA:SV->Option Bool
 | .bool b=>some b
 | _=>none
def q7(id:Nat)(K:Ex->St->Prop):Ex->St->Prop:=fun e S=>match e with
 | .exit i=>match Nat.beq i id with
  | true=>K .normal S
  | false=>K (.exit i) S
 | .normal=>K .normal S
 | .ret=>K .ret S
def ng(k:St->Prop)(K:Ex->St->Prop):Ex->St->Prop:=fun e S=>match e with
 | .normal=>k S
 | .exit i=>K (.exit i) S
 | .ret=>K .ret S
def qB(body:(Ex->St->Prop)->St->Prop):Nat->(Ex->St->Prop)->St->Prop
 | 0,_,_=>False
 | n+1,K,S=>body (ng (qB body n K) K) S
def sx(P:Program)(sp:bc)(an:aN):Code->(Ex->St->Prop)->St->Prop
 | .skip,K,S=>K .normal S
 | .region _ ops draw,K,S=>qv P sp an.nms ops draw (K .normal) S
 | .seq a b,K,S=>match an.cuts (iW b) with
  | none=>sx P sp an a (ng (sx P sp an b K) K) S
  | some c=>sx P sp an a (ng (fun S'=>(c S).qn.ex fun i=>(c S).inv i/\enter S' (kr S (c S) i)) K) S/\(c S).qn.all fun i=>(c S).inv i->g8 (kr S (c S) i) (sx P sp an b K)
 | .cond c a b,K,S=>match vA (ag (bd S.sl) c) with
  | some t=>ah t (sx P sp an a K S) (sx P sp an b K S)
  | none=>False
 | .block id a,K,S=>sx P sp an a (q7 id K) S
 | .loop a,K,S=>match an.unr (iW a) with
  | n+1=>qB (sx P sp an a) (n+1) K S
  | 0=>match an.loops (iW a) with
   | none=>False
   | some c=>((c S).qn.ex fun i=>(c S).inv i/\enter S (kr S (c S) i))/\(c S).qn.all fun i=>(c S).inv i->g8 (kr S (c S) i) (sx P sp an a (ng (fun S'=>(c S).qn.ex fun j=>(c S).inv j/\(c S).μ j<(c S).μ i/\enter S' (kr S (c S) j)) K))
 | .exit id,K,S=>K (.exit id) S
 | .scope a,K,S=>sx P sp an a K S
 | .ret,K,S=>K .ret S
 | _,_,_=>False
section
variable {P:Program} {sp:bc} {an:aN} {w0:World} {N0:bv}
theorem tz(hs:ca P sp/\N0.g=sp.gl)(aD:P.follows .mixedOrders=true):∀(c:Code)(K:Ex->St->Prop)(S:St)(Q:Exit->Act->World->Prop)(A:Nat->Prop)(env:ai)(a:Act)(w:World),
  sx P sp an c K S->bT w0 N0 A env S.fs a w →
  (∀ e S' A' env' a' w',K e S'→bT w0 N0 A' env' (St.fs S') a' w'→gL A env w A' env' w'→Q e.to a' w')->c.wp P Q a w:=by
 have refl0:∀{A:Nat->Prop}{env:ai}{w:World},gL A env w A env w:=aW.refl.ext0
 intro c
 induction c with
 | skip=>intro K S Q A env a w h t hQ;exact wp_skip (hQ .normal S A env a w h t refl0)
 | region id ops draw =>
  intro K S Q A env a w h t hQ
  exact xR hs aD t h fun S' A' env' a' w' hk t' x=>hQ .normal S' A' env' a' w' hk t' x.ext0
 | seq x y ihx ihy =>
  intro K S Q A env a w h t hQ
  simp only[sx] at h
  split at h
  ·refine wp_seq (ihx _ S _ A env a w h t ?_)
   intro e S' A' env' a' w' hk t' x'
   cases e with
   | normal=>exact ihy K S' Q A' env' a' w' hk t' fun e S2 A2 env2 a2 w2 hk2 t2 x2=>hQ e S2 A2 env2 a2 w2 hk2 t2 (x'.trans x2)
   | exit i=>exact hQ (.exit i) S' A' env' a' w' hk t' x'
   | ret=>exact hQ .ret S' A' env' a' w' hk t' x'
  ·rename_i c hc
   refine wp_seq (ihx _ S _ A env a w h.1 t ?_)
   intro e S' A' env' a' w' hk t' x'
   cases e with
   | normal =>
    obtain⟨i,hi,he⟩:=(c S).qn.hex _ hk
    obtain⟨env2,t2,x2⟩:=rZ he t'
    have h2:=(c S).qn.hall _ h.2 i hi
    rw[nl] at h2
    exact ihy K _ Q A' env2 a' w' h2 t2 fun e S3 A3 env3 a3 w3 hk3 t3 x3=>hQ e S3 A3 env3 a3 w3 hk3 t3 ((x'.trans x2).trans x3)
   | exit i=>exact hQ (.exit i) S' A' env' a' w' hk t' x'
   | ret=>exact hQ .ret S' A' env' a' w' hk t' x'
 | cond c x y ihx ihy =>
  intro K S Q A env a w h t hQ
  simp only[sx] at h
  split at h
  ·rename_i b hb
   have hd:=aT t.f c
   have hv:ag (bd S.sl) c = .bool b:=by
    unfold vA at hb
    split at hb
    ·rename_i b' he;cases hb;exact he
    ·cases hb
   simp only[St.fs] at hd
   rw[hv] at hd
   simp only[aa] at hd
   cases b with
   | true=>exact wp_cond_true hd (ihx K S Q A env a w h t hQ)
   | false=>exact wp_cond_false hd (ihy K S Q A env a w h t hQ)
  ·exact h.elim
 | block id x ih =>
  intro K S Q A env a w h t hQ
  refine wp_block (ih _ S _ A env a w h t ?_)
  intro e S' A' env' a' w' hk t' x'
  cases e with
  | normal=>exact hQ .normal S' A' env' a' w' hk t' x'
  | exit i =>
   simp only[Ex.to,Exit.inBlock]
   by_cases hi:i=id
   ·subst hi
    simp only[q7,Nat.beq_refl] at hk
    rw[if_pos rfl]
    exact hQ .normal S' A' env' a' w' hk t' x'
   ·have hb:Nat.beq i id=false:=by
     cases hb:Nat.beq i id with
     | false=>rfl
     | true=>exact absurd (Nat.eq_of_beq_eq_true hb) hi
    simp only[q7,hb] at hk
    rw[if_neg hi]
    exact hQ (.exit i) S' A' env' a' w' hk t' x'
  | ret=>exact hQ .ret S' A' env' a' w' hk t' x'
 | loop x ih =>
  intro K S Q A env a w h t hQ
  simp only[sx] at h
  split at h
  ·rename_i n0 _
   refine wp_loop_ghost (fun n a' w'=>∃ S' A' env',qB (sx P sp an x) n K S'∧bT w0 N0 A' env' S'.fs a' w'∧gL A env w A' env' w') (n0+1) ⟨S,A,env,h,t,refl0⟩ ?_
   rintro n a1 w1 ⟨S1,A1,env1,h1,t1,x1⟩
   cases n with
   | zero=>exact h1.elim
   | succ n =>
    refine ih _ _ _ A1 env1 a1 w1 h1 t1 ?_
    intro e S' A' env' a' w' hk t' x'
    cases e with
    | normal=>exact⟨n,Nat.lt_succ_self n,S',A',env',hk,t',x1.trans x'⟩
    | exit i=>exact hQ (.exit i) S' A' env' a' w' hk t' (x1.trans x')
    | ret=>exact hQ .ret S' A' env' a' w' hk t' (x1.trans x')
  split at h
  ·exact h.elim
  ·rename_i c hc
   obtain⟨hex,hr⟩:=h
   obtain⟨i0,hi0,he0⟩:=(c S).qn.hex _ hex
   obtain⟨env0,t0,x0⟩:=rZ he0 t
   refine wp_loop_ghost (fun n a' w'=>∃ i A' env',(c S).inv i/\n=(c S).μ i/\bT w0 N0 A' env' (kr S (c S) i).fs a' w'∧gL A env w A' env' w') ((c S).μ i0) ⟨i0,A,env0,hi0,rfl,t0,x0⟩ ?_
   rintro n a1 w1 ⟨i,A1,env1,hi,rfl,t1,x1⟩
   have h1:=(c S).qn.hall _ hr i hi
   rw[nl] at h1
   refine ih _ _ _ A1 env1 a1 w1 h1 t1 ?_
   intro e S' A' env' a' w' hk t' x'
   cases e with
   | normal =>
    obtain⟨j,hj,hμ,he⟩:=(c S).qn.hex _ hk
    obtain⟨env2,t2,x2⟩:=rZ he t'
    exact⟨(c S).μ j,hμ,j,A',env2,hj,rfl,t2,(x1.trans x').trans x2⟩
   | exit i=>exact hQ (.exit i) S' A' env' a' w' hk t' (x1.trans x')
   | ret=>exact hQ .ret S' A' env' a' w' hk t' (x1.trans x')
 | exit id=>intro K S Q A env a w h t hQ;exact wp_exit (hQ (.exit id) S A env a w h t refl0)
 | scope x ih =>
  intro K S Q A env a w h t hQ
  refine wp_scope_straight (ih K S _ A env a w h t ?_)
  intro e S' A' env' a' w' hk t' x'
  cases e with
  | normal=>exact hQ .normal S' A' env' a' w' hk t' x'
  | exit i=>exact hQ (.exit i) S' A' env' a' w' hk t' x'
  | ret=>exact hQ .ret S' A' env' a' w' hk t' x'
 | ret=>intro K S Q A env a w h t hQ;exact wp_ret (hQ .ret S A env a w h t refl0)
 | rangeFunc f ps as b _ _=>intro K S Q A env a w h t hQ;exact h.elim
 | label l=>intro K S Q A env a w h t hQ;exact h.elim
 | goto l=>intro K S Q A env a w h t hQ;exact h.elim
 | refuse s=>intro K S Q A env a w h t hQ;exact h.elim
end
end Go.SX

/- SX, part 19: a function's parameters. -/
namespace Go.SX
set_option linter.unusedVariables false
inductive OT where
 | dat (t:CT)
 | row (E:TypeId) (t:CT)
 | rowg (E:TypeId) (t:CT)
 | fnc (f:FuncId)
 | ali
 | hole (i:Nat)
 | ref (E:TypeId) (o:OT)
 | pair (a b:OT)
@[reducible] def OT.D:OT->Type
 | .dat t=>t.D
 | .row _ t=>List t.D
 | .rowg _ t=>List t.D
 | .fnc _=>Unit
 | .ali=>Unit
 | .hole _=>SV
 | .ref _ o=>o.D
 | .pair a b=>a.D×b.D
@[reducible] def OT.X:OT->Type
 | .dat t=>t.D
 | .row _ t=>List t.D
 | .rowg _ _=>Unit
 | .fnc _=>Unit
 | .ali=>Unit
 | .hole _=>SV
 | .ref _ o=>o.X
 | .pair a b=>a.X×b.X
def OT.wf:(o:OT)->o.D->Prop
 | .dat t,d=>t.wf d
 | .row _ t,d=>d.length<=maxLen∧∀ x∈d,t.wf x
 | .rowg _ t,d=>d.length<=maxLen∧∀ x∈d,t.wf x
 | .fnc _,_=>True
 | .ali,_=>True
 | .hole _,_=>True
 | .ref _ o,d=>o.wf d
 | .pair a b,d=>a.wf d.1/\b.wf d.2
def OT.hx:OT->List Nat
 | .hole i=>[i]
 | .ref _ o=>o.hx
 | .pair a b=>a.hx++b.hx
 | _=>[]
def OT.nb:OT->Nat
 | .ref _ o=>o.nb+1
 | .pair a b=>a.nb+b.nb
 | _=>0
def OT.nc:OT->Nat
 | .row _ _=>1
 | .rowg _ _=>1
 | .ref _ o=>o.nc
 | .pair a b=>a.nc+b.nc
 | _=>0
def OT.nr:OT->Nat
 | .row _ _=>1
 | .ref _ o=>o.nr
 | .pair a b=>a.nr+b.nr
 | _=>0
instance:Coe CT OT:=⟨OT.dat⟩
inductive PK where
 | val (t:CT)
 | agg (t:CT)
 | box (E:TypeId) (o:OT)
 | row (E:TypeId) (t:CT)
 | own (E:TypeId) (t:CT)
 | fn (f:FuncId) (k:Nat)
 | nils
 | ago (o:OT)
@[reducible] def PK.D:PK->Type
 | .val t=>t.D
 | .agg t=>t.D
 | .box _ o=>o.D
 | .row _ t=>List t.D
 | .own _ t=>List t.D
 | .fn _ _=>Unit
 | .nils=>Unit
 | .ago o=>o.D
@[reducible] def aC:List PK->Type
 | []=>Unit
 | p::r=>p.D×aC r
def PK.wf:(p:PK)->p.D->Prop
 | .val t,d=>t.wf d
 | .agg t,d=>t.wf d
 | .box _ o,d=>o.wf d
 | .row _ t,d=>d.length<=maxLen∧∀ x∈d,t.wf x
 | .own _ t,d=>d.length<=maxLen∧∀ x∈d,t.wf x
 | .fn _ _,_=>True
 | .nils,_=>True
 | .ago o,d=>o.wf d
def jA:(ps:List PK)->aC ps->Prop
 | [],_=>True
 | p::r,d=>p.wf d.1/\jA r d.2
def lK:(t:CT)->(t.D->Prop)->Prop
 | .pair a b,k=>lK a fun x=>lK b fun y=>k (x,y)
 | .int _,k=>∀ x:Int,k x
 | .bool,k=>∀ x:Bool,k x
 | .str,k=>∀ x:ByteArray,k x
 | .sl t,k=>∀ x:List t.D,k x
theorem oW:∀{t:CT}{k:t.D->Prop},lK t k↔∀ d,k d
 | .pair a b,k=>by
  simp only[lK,oW (t:=a),oW (t:=b)]
  exact⟨fun h d=>h d.1 d.2,fun h x y=>h (x,y)⟩
 | .int _,k=>Iff.rfl
 | .bool,k=>Iff.rfl
 | .str,k=>Iff.rfl
 | .sl t,k=>Iff.rfl
def jJ(t:CT)(k:t.D->Prop):Prop:=match Nat.ble t.size 6 with
 | true=>lK t k
 | false=>∀ d:t.D,k d
theorem nB{t:CT}{k:t.D->Prop}:jJ t k↔∀ d,k d:=by
 unfold jJ
 split
 ·exact oW
 ·exact Iff.rfl
def iX:(o:OT)->(o.D->Prop)->Prop
 | .dat t,k=>jJ t k
 | .row _ t,k=>∀ x:List t.D,k x
 | .rowg _ t,k=>∀ x:List t.D,k x
 | .fnc _,k=>k ()
 | .ali,k=>k ()
 | .hole _,k=>∀ s:SV,k s
 | .ref _ o,k=>iX o k
 | .pair a b,k=>iX a fun x=>iX b fun y=>k (x,y)
theorem lF:∀{o:OT}{k:o.D->Prop},iX o k↔∀ d,k d
 | .dat t,k=>nB
 | .row _ t,k=>Iff.rfl
 | .rowg _ t,k=>Iff.rfl
 | .fnc _,k=>⟨fun h _=>h,fun h=>h ()⟩
 | .ali,k=>⟨fun h _=>h,fun h=>h ()⟩
 | .hole _,k=>Iff.rfl
 | .ref _ o,k=>lF (o:=o)
 | .pair a b,k=>by
  simp only[iX,lF (o:=a),lF (o:=b)]
  exact⟨fun h d=>h d.1 d.2,fun h x y=>h (x,y)⟩
def PK.all:(p:PK)->(p.D->Prop)->Prop
 | .val t,k=>jJ t k
 | .agg t,k=>jJ t k
 | .box _ o,k=>iX o k
 | .row _ t,k=>∀ x:List t.D,k x
 | .own _ t,k=>∀ x:List t.D,k x
 | .fn _ _,k=>k ()
 | .nils,k=>k ()
 | .ago o,k=>iX o k
theorem PK.all_iff{p:PK}{k:p.D->Prop}:p.all k↔∀ d,k d:=by
 cases p <;> simp only[PK.all,nB,lF] <;> exact⟨fun h _=>h,fun h=>h ()⟩
def jV:(ps:List PK)->(aC ps->Prop)->Prop
 | [],k=>k ()
 | p::r,k=>p.all fun x=>jV r fun y=>k (x,y)
theorem oX:∀{ps:List PK}{k:aC ps->Prop},jV ps k↔∀ d,k d
 | [],k=>⟨fun h d=>h,fun h=>h ()⟩
 | p::r,k=>by
  simp only[jV,PK.all_iff,oX (ps:=r)]
  exact⟨fun h d=>h d.1 d.2,fun h x y=>h (x,y)⟩
def lf(E:TypeId)(t:CT):List SV->Q (List t.D×List SV×Option Nat)
 | .own n sz::r => .ask n fun
  | .live (.row E' t' xs)=>match Nat.beq E E',Nat.beq sz t.size,bQ t' t xs with
   | true,true,some ys => .ret (ys,r,some n)
   | _,_,_ => .fail
  | _ => .fail
 | .nilsl::r => .ret ([],r,none)
 | _ => .fail
def dH(a0:Option Nat):(o:OT)->List SV->Q (o.D×List SV×List (Nat×Nm)×List Nat×List (Option Nat))
 | .dat t,cs=>(cC t cs).bind fun p=>.ret (p.1,p.2.1,p.2.2,[],[])
 | .row E t,cs=>(lf E t cs).bind fun p=>.ret (p.1,p.2.1,[],[],[p.2.2])
 | .rowg E t,cs=>(lf E t cs).bind fun p=>.ret (p.1,p.2.1,[],[],[p.2.2])
 | .fnc f,.fn g []::r=>match Nat.beq f g with
  | true => .ret ((),r,[],[],[])
  | false => .fail
 | .fnc _,_ => .fail
 | .ali,.ptr n 0::r=>match a0 with
  | some m=>match Nat.beq n m with
   | true => .ret ((),r,[],[],[])
   | false => .fail
  | none => .fail
 | .ali,_ => .fail
 | .hole _,s::r=>match s.one with
  | true => .ret (s,r,[],[],[])
  | false => .fail
 | .hole _,[] => .fail
 | .ref E o,.ptr n 0::r => .ask n fun
  | .live (.cells E' cs)=>match Nat.beq E E' with
   | true=>(dH a0 o cs).bind fun p=>match p.2.1 with
    | [] => .ret (p.1,r,p.2.2.1,n::p.2.2.2.1,p.2.2.2.2)
    | _ => .fail
   | false => .fail
  | _ => .fail
 | .ref _ _,_ => .fail
 | .pair a b,cs=>(dH a0 a cs).bind fun p=>(dH a0 b p.2.1).bind fun q=>.ret ((p.1,q.1),q.2.1,p.2.2.1++q.2.2.1,p.2.2.2.1++q.2.2.2.1,p.2.2.2.2++q.2.2.2.2)
def dM:(o:OT)->o.D->Nat->Nat->List SV
 | .dat t,d,_,_=>bu t d
 | .row _ t,_,_,i=>[.own (QN+i) t.size]
 | .rowg _ t,_,_,i=>[.own (QN+i) t.size]
 | .fnc f,_,_,_=>[.fn f []]
 | .ali,_,_,_=>[.ptr PN 0]
 | .hole i,s,_,_=>[.hv (HN+i) s]
 | .ref _ _,_,j,_=>[.ptr (PN+j) 0]
 | .pair a b,d,j,i=>dM a d.1 j i++dM b d.2 (j+a.nb) (i+a.nc)
def gk:(o:OT)->o.D->Nat->Nat->List (Nat×Nm)
 | .dat _,_,_,_=>[]
 | .row _ _,_,_,_=>[]
 | .rowg _ _,_,_,_=>[]
 | .fnc _,_,_,_=>[]
 | .ali,_,_,_=>[]
 | .hole _,_,_,_=>[]
 | .ref E o,d,j,i=>(PN+j,.live (.cells E (dM o d (j+1) i)))::gk o d (j+1) i
 | .pair a b,d,j,i=>gk a d.1 j i++gk b d.2 (j+a.nb) (i+a.nc)
def fD:(o:OT)->o.D->Nat->List (Nat×Nm)
 | .dat _,_,_=>[]
 | .row E t,xs,i=>[(QN+i,.live (.row E t xs))]
 | .rowg E t,xs,i=>[(QN+i,.live (.row E t xs))]
 | .fnc _,_,_=>[]
 | .ali,_,_=>[]
 | .hole _,_,_=>[]
 | .ref _ o,d,i=>fD o d i
 | .pair a b,d,i=>fD a d.1 i++fD b d.2 (i+a.nc)
def cY:List PK->List Nat
 | []=>[]
 | .box _ o::ps=>o.hx++cY ps
 | .ago o::ps=>o.hx++cY ps
 | .val _::ps=>cY ps
 | .agg _::ps=>cY ps
 | .row _ _::ps=>cY ps
 | .own _ _::ps=>cY ps
 | .fn _ _::ps=>cY ps
 | .nils::ps=>cY ps
def gO:List Nat->List (Nat×Nm)
 | []=>[]
 | i::r=>(HN+i,.dead)::gO r
def sP(env:ai)(hl:List (Nat×Value×SV)):Prop:=∀ p∈hl,env (HN+p.1) = .val p.2.1 p.2.2
def kJ(t:CT)(d:t.D):SV:=match bu t d with
 | [s]=>s
 | _ => .junk
def lB:Option Nat->Nat->Option Nat
 | some m,_=>some m
 | none,n=>some n
def bN:Option Nat->(ps:List PK)->List SV->Q (aC ps×List (Nat×Nm)×List Nat×List (Option Nat))
 | _,[],[] => .ret ((),[],[],[])
 | a0,.val t::ps,v::vs=>(cC t [v]).bind fun p=>match p.2.1 with
  | []=>(bN a0 ps vs).bind fun q=>.ret ((p.1,q.1),p.2.2++q.2.1,q.2.2)
  | _ => .fail
 | a0,.agg t::ps,.agg cs::vs=>(cC t cs).bind fun p=>match p.2.1 with
  | []=>(bN a0 ps vs).bind fun q=>.ret ((p.1,q.1),p.2.2++q.2.1,q.2.2)
  | _ => .fail
 | a0,.nils::ps,.nilsl::vs=>(bN a0 ps vs).bind fun q=>.ret (((),q.1),q.2)
 | a0,.fn f k::ps,.fn g cs::vs=>match Nat.beq f g,Nat.beq cs.length k with
  | true,true=>(bN a0 ps (cs++vs)).bind fun q=>.ret (((),q.1),q.2)
  | _,_ => .fail
 | a0,.box E o::ps,.ptr n 0::vs => .ask n fun
  | .live (.cells E' cs)=>match Nat.beq E E' with
   | true=>(dH a0 o cs).bind fun p=>match p.2.1 with
    | []=>(bN (lB a0 n) ps vs).bind fun q=>.ret ((p.1,q.1),p.2.2.1++q.2.1,n::(p.2.2.2.1++q.2.2.1),p.2.2.2.2++q.2.2.2)
    | _ => .fail
   | false => .fail
  | _ => .fail
 | a0,.row E t::ps,.own n sz::vs => .ask n fun
  | .live (.row E' t' xs)=>match Nat.beq E E',Nat.beq sz t.size,bQ t' t xs with
   | true,true,some ys=>(bN (lB a0 n) ps vs).bind fun q=>.ret ((ys,q.1),q.2.1,n::q.2.2.1,q.2.2.2)
   | _,_,_ => .fail
  | _ => .fail
 | a0,.own E t::ps,v::vs=>(lf E t [v]).bind fun p=>(bN a0 ps vs).bind fun q=>.ret ((p.1,q.1),q.2.1,q.2.2.1,p.2.2::q.2.2.2)
 | a0,.ago o::ps,.agg cs::vs=>match Nat.beq o.nb 0 with
  | true=>(dH a0 o cs).bind fun p=>match p.2.1 with
   | []=>(bN a0 ps vs).bind fun q=>.ret ((p.1,q.1),p.2.2.1++q.2.1,q.2.2.1,p.2.2.2.2++q.2.2.2)
   | _ => .fail
  | false => .fail
 | _,_,_ => .fail
def bY:(ps:List PK)->aC ps->Nat->Nat->List SV
 | [],_,_,_=>[]
 | .val t::ps,d,j,i=>kJ t d.1::bY ps d.2 j i
 | .agg t::ps,d,j,i => .agg (bu t d.1)::bY ps d.2 j i
 | .box E o::ps,d,j,i => .ptr (PN+j) 0::bY ps d.2 (j+1+o.nb) (i+o.nc)
 | .row E t::ps,d,j,i => .own (PN+j) t.size::bY ps d.2 (j+1) i
 | .own E t::ps,d,j,i => .own (QN+i) t.size::bY ps d.2 j (i+1)
 | .fn f k::ps,d,j,i => .fn f ((bY ps d.2 j i).take k)::(bY ps d.2 j i).drop k
 | .nils::ps,d,j,i => .nilsl::bY ps d.2 j i
 | .ago o::ps,d,j,i => .agg (dM o d.1 j i)::bY ps d.2 j (i+o.nc)
def fy:(ps:List PK)->aC ps->Nat->Nat->List (Nat×Nm)
 | [],_,_,_=>[]
 | .val t::ps,d,j,i=>fy ps d.2 j i
 | .agg t::ps,d,j,i=>fy ps d.2 j i
 | .box E o::ps,d,j,i=>(PN+j,.live (.cells E (dM o d.1 (j+1) i)))::(gk o d.1 (j+1) i++fy ps d.2 (j+1+o.nb) (i+o.nc))
 | .row E t::ps,d,j,i=>(PN+j,.live (.row E t d.1))::fy ps d.2 (j+1) i
 | .own E t::ps,d,j,i=>fy ps d.2 j (i+1)
 | .fn f k::ps,d,j,i=>fy ps d.2 j i
 | .nils::ps,d,j,i=>fy ps d.2 j i
 | .ago o::ps,d,j,i=>fy ps d.2 j (i+o.nc)
def gA:(ps:List PK)->aC ps->Nat->List (Nat×Nm)
 | [],_,_=>[]
 | .val t::ps,d,i=>gA ps d.2 i
 | .agg t::ps,d,i=>gA ps d.2 i
 | .box E o::ps,d,i=>fD o d.1 i++gA ps d.2 (i+o.nc)
 | .row E t::ps,d,i=>gA ps d.2 i
 | .own E t::ps,d,i=>(QN+i,.live (.row E t d.1))::gA ps d.2 (i+1)
 | .fn f k::ps,d,i=>gA ps d.2 i
 | .nils::ps,d,i=>gA ps d.2 i
 | .ago o::ps,d,i=>fD o d.1 i++gA ps d.2 (i+o.nc)
def dS(env:ai):Option Nat->Ev
 | some m=>env m
 | none => .nil
section
variable {w0:World} {N0:bv} {A Ac:Nat->Prop} {env envc:ai} {h:aI} {w:World}
def cl(A':Nat->Prop)(env0:ai)(h0:aI)(e':ai)(w:World):List (Option Nat)->List (Nat×Nm)->Nat->Prop
 | [],[],_=>True
 | o::os,(m,x)::l,n=>(m=n∧∃ b',x = .live b'∧b'.mut=true/\((∃ q b,o=some q/\h0 q = .live b/\b.mut=true/\(∀ k len,env0 q = .blk k len->cL A' e' w k len b')/\(env0 q = .nil→∃ E t,b' = .row E t []))∨(o=none∧∃ E t,b' = .row E t [])))/\cl A' env0 h0 e' w os l (n+1)
 | _,_,_=>False
theorem cl.append{A':Nat->Prop}{env0:ai}{h0:aI}{e':ai}:∀{os os':List (Option Nat)}{l l':List (Nat×Nm)}{n:Nat},cl A' env0 h0 e' w os l n->cl A' env0 h0 e' w os' l' (n+os.length)->cl A' env0 h0 e' w (os++os') (l++l') n
 | [],os',[],l',n,_,k=>by simpa using k
 | o::os,os',(m,x)::l,l',n,⟨h1,h2⟩,k=>by
  simp only[List.cons_append,cl]
  refine⟨h1,h2.append ?_⟩
  rw[List.length_cons] at k
  rwa [show n+1+os.length=n+(os.length+1) from by omega]
 | [],_,_::_,_,_,h,_=>h.elim
 | _::_,_,[],_,_,h,_=>h.elim
theorem cl.get{A':Nat->Prop}{env0:ai}{h0:aI}{e':ai}:∀{os:List (Option Nat)}{l:List (Nat×Nm)}{n:Nat},cl A' env0 h0 e' w os l n->os.length=l.length ∧
  ∀ i o,os[i]? = some o→∃ b',aZ l (n+i) = .live b'∧(n+i,Nm.live b')∈l/\b'.mut=true/\((∃ q b,o=some q/\h0 q = .live b/\b.mut=true/\(∀ k len,env0 q = .blk k len->cL A' e' w k len b')/\(env0 q = .nil→∃ E t,b' = .row E t []))∨(o=none∧∃ E t,b' = .row E t []))
 | [],[],n,_=>⟨rfl,fun i n hi=>by simp at hi⟩
 | o::os,(m,x)::l,n,⟨⟨hm,b',h3,h4,h5⟩,hr⟩=>by
  obtain⟨hl,hg⟩:=hr.get
  refine⟨by simp[hl],fun i o' hi=>?_⟩
  cases i with
  | zero =>
   simp at hi
   subst hi
   subst h3
   exact⟨b',by simp only[aZ,hm,Nat.add_zero,Nat.beq_refl],by rw[hm];exact List.mem_cons_self ..,h4,h5⟩
  | succ i =>
   obtain⟨c',g1,g2,g3⟩:=hg i o' (by simpa using hi)
   rw[show n+1+i=n+(i+1) from by omega] at g1 g2
   refine⟨c',?_,List.mem_cons_of_mem _ g2,g3⟩
   simp only[aZ]
   have:Nat.beq (n+(i+1)) m=false:=by
    cases hb:Nat.beq (n+(i+1)) m with
    | false=>rfl
    | true=>have:=Nat.eq_of_beq_eq_true hb;omega
   rw[this]
   exact g1
 | [],_::_,_,h=>h.elim
 | _::_,[],_,h=>h.elim
theorem cl.keys{A':Nat->Prop}{env0:ai}{h0:aI}{e':ai}:∀{os:List (Option Nat)}{l:List (Nat×Nm)}{n:Nat},cl A' env0 h0 e' w os l n→∀ c x,(c,x)∈l→∃ i o,c=n+i/\os[i]? = some o
 | [],[],n,_,c,x,hx=>by simp at hx
 | o::os,(m,y)::l,n,⟨⟨hm,_⟩,hr⟩,c,x,hx=>by
  rcases List.mem_cons.1 hx with e|hx
  ·cases e;exact⟨0,o,by omega,rfl⟩
  ·obtain⟨i,o',h1,h2⟩:=hr.keys c x hx
   exact⟨i+1,o',by omega,by simpa using h2⟩
 | [],_::_,_,h,_,_,_=>h.elim
 | _::_,[],_,h,_,_,_=>h.elim
theorem qt{t:CT}{d:t.D}{v:Value}{rest:List SV}(hr:Rd A w t (fun j=>[v][j]?) 0 d):aa A env w (kJ t d) v:=by
 obtain⟨vs,hl,hc,hd⟩:=io (env:=env) t d _ 0 hr
 unfold kJ
 split
 ·rename_i s hs
  rw[hs] at hd
  simp only[ac] at hd
  obtain⟨u,r,rfl,hu,rfl⟩:=hd
  have h0:=hc 0 t.size_pos
  simp at h0
  rw[h0];exact hu
 ·simp only[aa]
theorem nw{t:CT}{d:t.D}{vs:List Value}(hl:vs.length=t.size)(hr:Rd A w t (fun j=>vs[j]?) 0 d):ac A env w (bu t d) vs:=by
 obtain⟨us,hlu,hc,hd⟩:=io (env:=env) t d _ 0 hr
 have:us=vs:=by
  apply List.ext_getElem?
  intro j
  by_cases hj:j<t.size
  ·have:=hc j hj
   simpa using this.symm
  ·rw[List.getElem?_eq_none (by omega),List.getElem?_eq_none (by omega)]
 rw[← this];exact hd
theorem zd{k:Nat}{len:Nat×Nat}{E:TypeId}{t:CT}{xs:List t.D}(hr:ef A w k len E t xs):xs.length<=maxLen∧∀ x∈xs,t.wf x:=by
 obtain⟨vs,cap,_,_,h2,h3,h4,h5⟩:=hr
 refine⟨by omega,fun x hx=>?_⟩
 obtain⟨i,hi,rfl⟩:=List.mem_iff_getElem.1 hx
 exact mS _ _ _ _ (h5 i hi)
theorem Dk{a0:Option Nat}{t:CT}{ps:List PK}{svs:List SV} {x} (e:(bN a0 (.agg t::ps) svs).run h=some x):∃ cs r,svs = .agg cs::r:=by
 cases svs with
 | nil=>cases e
 | cons s r=>cases s <;> first|exact⟨_,_,rfl⟩|cases e
theorem ye{a0:Option Nat}{o:OT}{ps:List PK}{svs:List SV} {x} (e:(bN a0 (.ago o::ps) svs).run h=some x):∃ cs r,svs = .agg cs::r:=by
 cases svs with
 | nil=>cases e
 | cons s r=>cases s <;> first|exact⟨_,_,rfl⟩|cases e
theorem Ep{a0:Option Nat}{E:TypeId}{o:OT}{ps:List PK}{svs:List SV} {x} (e:(bN a0 (.box E o::ps) svs).run h=some x):∃ n r,svs = .ptr n 0::r:=by
 cases svs with
 | nil=>cases e
 | cons s r =>
  cases s with
  | ptr n off=>cases off with
   | zero=>exact⟨_,_,rfl⟩
   | succ k=>cases e
  | _=>cases e
theorem xZ{a0:Option Nat}{E:TypeId}{t:CT}{ps:List PK}{svs:List SV} {x} (e:(bN a0 (.row E t::ps) svs).run h=some x):∃ n sz r,svs = .own n sz::r:=by
 cases svs with
 | nil=>cases e
 | cons s r=>cases s <;> first|exact⟨_,_,_,rfl⟩|cases e
theorem zF{a0:Option Nat}{E:TypeId}{t:CT}{ps:List PK}{svs:List SV} {x} (e:(bN a0 (.own E t::ps) svs).run h=some x):∃ v r,svs=v::r:=by
 cases svs with
 | nil=>cases e
 | cons s r=>exact⟨_,_,rfl⟩
theorem A4{a0:Option Nat}{ps:List PK}{svs:List SV} {x} (e:(bN a0 (.nils::ps) svs).run h=some x):∃ r,svs = .nilsl::r:=by
 cases svs with
 | nil=>cases e
 | cons s r=>cases s <;> first|exact⟨_,rfl⟩|cases e
theorem D7{a0:Option Nat}{f:FuncId}{k:Nat}{ps:List PK}{svs:List SV} {x} (e:(bN a0 (.fn f k::ps) svs).run h=some x):∃ g cs r,svs = .fn g cs::r:=by
 cases svs with
 | nil=>cases e
 | cons s r=>cases s <;> first|exact⟨_,_,_,rfl⟩|cases e
theorem zk{a0:Option Nat}{f:FuncId}{svs:List SV} {x} (e:(dH a0 (.fnc f) svs).run h=some x):∃ r,svs = .fn f []::r/\x=(((),r,[],[],[]),[]):=by
 cases svs with
 | nil=>cases e
 | cons s r =>
  cases s <;> first|cases e;done|skip
  rename_i g cs
  cases cs <;> first|cases e;done|skip
  simp only[dH] at e
  split at e
  ·rename_i hb
   rw[Nat.eq_of_beq_eq_true hb]
   simp only[Q.run,Option.some.injEq] at e
   exact⟨_,rfl,e.symm⟩
  ·cases e
theorem CI{a0:Option Nat}{E:TypeId}{o:OT}{svs:List SV} {x} (e:(dH a0 (.ref E o) svs).run h=some x):∃ n r,svs = .ptr n 0::r:=by
 cases svs with
 | nil=>cases e
 | cons s r =>
  cases s with
  | ptr n off=>cases off with
   | zero=>exact⟨_,_,rfl⟩
   | succ k=>cases e
  | _=>cases e
theorem vX(m:aw w0 N0 A env h w)(hA:∀ b,A b->Ac b){n:Nat}{E:TypeId}{t:CT}{xs:List t.D}(hl:h n = .live (.row E t xs)) :
  (xs.length<=maxLen∧∀ x∈xs,t.wf x)∧∀(e':ai)(i:Nat),cl Ac env h e' w [some n] [(i,.live (.row E t xs))] i:=by
 have hm:=m.nm n
 rw[hl] at hm
 refine⟨?_,fun e' i=>⟨⟨rfl,_,rfl,rfl,.inl ⟨n,_,rfl,hl,rfl,fun k len he=>?_,fun he=>?_⟩⟩,trivial⟩⟩
 ·rcases hm with⟨k,len,hek,hb,_⟩|⟨hen,E2,t2,hb⟩
  ·exact zd hb
  ·rcases hb with hb|hb <;> cases hb
   exact⟨by simp,by simp⟩
 ·rcases hm with⟨k',len',hek,hb,_⟩|⟨hen,_⟩
  ·rw[he] at hek;cases hek
   obtain⟨us,cap,g1,g2,g3,g4,g5,g6⟩:=hb
   exact⟨us,cap,g1,g2,g3,g4,g5,fun i hi=>bR hA (fun _ _ _=>rfl) _ _ _ _ _ (fun _ _=>rfl) (g6 i hi)⟩
  ·rw[he] at hen;cases hen
 ·rcases hm with⟨k',len',hek,hb,_⟩|⟨hen,E2,t2,hb⟩
  ·rw[he] at hek;cases hek
  ·rcases hb with hb|hb <;> cases hb
   exact⟨_,_,rfl⟩
theorem rD(m:aw w0 N0 A env h w)(hA:∀ b,A b->Ac b){E:TypeId}{t:CT}{cs rest:List SV}{vs:List Value}{ys:List t.D}{on:Option Nat}{r:List Nat}
  (e:(lf E t cs).run h=some ((ys,rest,on),r)) (hd:ac A env w cs vs) :
  (ys.length<=maxLen∧∀ x∈ys,t.wf x)/\cs.length=rest.length+1/\(rest=cs.drop 1)∧∃ v vr,vs=v::vr/\ac A env w rest vr∧∀(e':ai)(i:Nat),e' i=dS env on->aa Ac e' w (.own i t.size) v/\cl Ac env h e' w [on] [(i,.live (.row E t ys))] i:=by
 cases cs with
 | nil=>cases e
 | cons s cs =>
 cases s with
 | own n sz =>
  simp only[lf,Q.run] at e
  split at e
  ·rename_i p0 q0 hk
   simp only[Option.some.injEq,Prod.mk.injEq] at e
   obtain⟨rfl,rfl⟩:=e
   split at hk
   ·rename_i E' t' xs hl
    split at hk
    ·rename_i zs hE hsz hc
     have hE:=Nat.eq_of_beq_eq_true hE
     subst hE
     have hsz:=Nat.eq_of_beq_eq_true hsz
     subst hsz
     obtain⟨et,ez⟩:=cD hc
     subst et
     simp only at ez
     subst ez
     simp only[Q.run,Option.some.injEq,Prod.mk.injEq] at hk
     obtain⟨⟨rfl,rfl,rfl⟩,rfl⟩:=hk
     simp only[ac,aa] at hd
     obtain⟨x,vr,rfl,hv,hr⟩:=hd
     obtain⟨h1,h2⟩:=vX m hA hl
     refine⟨h1,rfl,rfl,x,vr,rfl,hr,fun e' i he=>⟨?_,h2 e' i⟩⟩
     simp only[dS] at he
     simp only[aa]
     rw[he];exact hv
    ·cases hk
   ·cases hk
  ·cases e
 | nilsl =>
  simp only[lf,Q.run,Option.some.injEq,Prod.mk.injEq] at e
  obtain⟨⟨rfl,rfl,rfl⟩,rfl⟩:=e
  simp only[ac,aa] at hd
  obtain⟨x,vr,rfl,rfl,hr⟩:=hd
  refine⟨⟨by simp,by simp⟩,rfl,rfl,_,vr,rfl,hr,fun e' i he=>⟨?_,⟨rfl,_,rfl,rfl,.inr ⟨rfl,_,_,rfl⟩⟩,trivial⟩⟩
  simp only[aa]
  exact .inl ⟨he,_,rfl⟩
 | _=>cases e
theorem Ch{a0:Option Nat}{svs:List SV} {x} (e:(dH a0 .ali svs).run h=some x):∃ n r,svs = .ptr n 0::r/\a0=some n/\x=(((),r,[],[],[]),[]):=by
 cases svs with
 | nil=>cases e
 | cons s r =>
  cases s with
  | ptr n off=>cases off with
   | zero=>cases a0 with
    | none=>cases e
    | some m =>
     have e:(match Nat.beq n m with|true=>(Q.ret ((),r,[],[],[]):Q (Unit×List SV×List (Nat×Nm)×List Nat×List (Option Nat)))|false=>Q.fail).run h=some x:=e
     cases hb:Nat.beq n m with
     | false=>rw[hb] at e;cases e
     | true =>
      rw[hb] at e
      simp only[Q.run,Option.some.injEq] at e
      exact⟨n,r,rfl,by rw[Nat.eq_of_beq_eq_true hb],e.symm⟩
   | succ k=>cases e
  | _=>cases e
theorem tv{a0:Option Nat}{n:Nat}(h:lB a0 n=none):False:=by cases a0 <;> cases h
theorem El{a0:Option Nat}{i:Nat}{svs:List SV} {x} (e:(dH a0 (.hole i) svs).run h=some x):∃ s r,svs=s::r/\s.one=true/\x=((s,r,[],[],[]),[]):=by
 cases svs with
 | nil=>cases e
 | cons s r =>
  simp only[dH] at e
  split at e
  ·rename_i h1
   simp only[Q.run,Option.some.injEq] at e
   exact⟨s,r,rfl,h1,e.symm⟩
  ·cases e
theorem ko(m:aw w0 N0 A env h w)(hA:∀ b,A b->Ac b)(a0:Option Nat):∀(o:OT)(cs:List SV)(vs:List Value)(d:o.D)(rest:List SV)(fz:List (Nat×Nm))(bx:List Nat)(cx:List (Option Nat))(r:List Nat)(j i:Nat),
  (dH a0 o cs).run h=some ((d,rest,fz,bx,cx),r)->ac A env w cs vs->(∀ k,bM env fz k->Ac k) →
  dW h fz/\o.wf d/\bx.length=o.nb/\cx.length=o.nc∧∃ us rs,vs=us++rs/\ac A env w rest rs∧∃ hl:List (Nat×Value×SV),(hl.map (·.1)=o.hx∧∀ p∈hl,aa A env w p.2.2 p.2.1) ∧
   ∀ envc:ai,((∀ n,a0=some n->envc PN=env n)->(∀ k n,bx[k]? = some n->envc (PN+(j+k))=env n)->(∀ k q,cx[k]? = some q->envc (QN+(i+k))=dS env q)->sP envc hl →
    ac Ac envc w (dM o d j i) us/\cl Ac env h envc w (bx.map some) (gk o d j i) (PN+j)/\cl Ac env h envc w cx (fD o d i) (QN+i))
 | .dat t,cs,vs,d,rest,fz,bx,cx,r,j,i,e,hd,hF=>by
  simp only[dH] at e
  obtain⟨⟨d1,r1,f1⟩,q1,q2,e1,e2,rfl⟩:=Q.run_bind _ _ _ e
  simp only[Q.run,Option.some.injEq,Prod.mk.injEq] at e2
  obtain⟨⟨rfl,rfl,rfl,rfl,rfl⟩,rfl⟩:=e2
  obtain⟨p1,p2,p3,p4,p5⟩:=f5 m t cs vs d1 r1 f1 q1 e1 hd hA hF
  refine⟨p1,mS _ _ _ _ p4,rfl,rfl,vs.take t.size,vs.drop t.size,(List.take_append_drop _ _).symm,p5,[],⟨rfl,by simp⟩,fun envc _ _ _ _=>⟨?_,trivial,trivial⟩⟩
  simp only[dM]
  refine nw (by rw[List.length_take];omega) ?_
  refine bR (fun _ h=>h) (fun _ _ _=>rfl) t _ _ _ _ (fun k hk=>?_) p4
  simp only[Nat.zero_add,List.getElem?_take]
  rw[if_pos hk]
 | .row E t,cs,vs,d,rest,fz,bx,cx,r,j,i,e,hd,hF=>by
  simp only[dH] at e
  obtain⟨⟨d1,r1,o1⟩,q1,q2,e1,e2,rfl⟩:=Q.run_bind _ _ _ e
  simp only[Q.run,Option.some.injEq,Prod.mk.injEq] at e2
  obtain⟨⟨rfl,rfl,rfl,rfl,rfl⟩,rfl⟩:=e2
  obtain⟨p1,-,-,v,vr,rfl,p2,p3⟩:=rD m hA e1 hd
  refine⟨fun n b hh=>by simp at hh,p1,rfl,rfl,[v],vr,rfl,p2,[],⟨rfl,by simp⟩,fun envc _ _ hc _=>?_⟩
  obtain⟨k1,k2⟩:=p3 envc (QN+i) (hc 0 _ rfl)
  simp only[dM,gk,fD,ac]
  exact⟨⟨v,[],rfl,k1,rfl⟩,trivial,k2⟩
 | .rowg E t,cs,vs,d,rest,fz,bx,cx,r,j,i,e,hd,hF=>by
  simp only[dH] at e
  obtain⟨⟨d1,r1,o1⟩,q1,q2,e1,e2,rfl⟩:=Q.run_bind _ _ _ e
  simp only[Q.run,Option.some.injEq,Prod.mk.injEq] at e2
  obtain⟨⟨rfl,rfl,rfl,rfl,rfl⟩,rfl⟩:=e2
  obtain⟨p1,-,-,v,vr,rfl,p2,p3⟩:=rD m hA e1 hd
  refine⟨fun n b hh=>by simp at hh,p1,rfl,rfl,[v],vr,rfl,p2,[],⟨rfl,by simp⟩,fun envc _ _ hc _=>?_⟩
  obtain⟨k1,k2⟩:=p3 envc (QN+i) (hc 0 _ rfl)
  simp only[dM,gk,fD,ac]
  exact⟨⟨v,[],rfl,k1,rfl⟩,trivial,k2⟩
 | .fnc f,cs0,vs,d,rest,fz,bx,cx,r,j,i,e,hd,hF=>by
  obtain⟨cs,rfl,e2⟩:=zk e
  simp only[Prod.mk.injEq] at e2
  obtain⟨⟨-,rfl,rfl,rfl,rfl⟩,rfl⟩:=e2
  simp only[ac] at hd
  obtain⟨u,vr,rfl,hu,hvr⟩:=hd
  refine⟨fun n b hh=>by simp at hh,trivial,rfl,rfl,[u],vr,rfl,hvr,[],⟨rfl,by simp⟩,fun envc _ _ _ _=>⟨?_,trivial,trivial⟩⟩
  simp only[dM,ac]
  simp only[aa,ac] at hu
  refine⟨u,[],rfl,?_,rfl⟩
  simp only[aa,ac]
  exact hu
 | .ali,cs0,vs,d,rest,fz,bx,cx,r,j,i,e,hd,hF=>by
  obtain⟨n,cs,rfl,h0,e2⟩:=Ch e
  simp only[Prod.mk.injEq] at e2
  obtain⟨⟨-,rfl,rfl,rfl,rfl⟩,rfl⟩:=e2
  simp only[ac,aa] at hd
  obtain⟨u,vr,rfl,⟨k,len,hek,rfl⟩,hvr⟩:=hd
  refine⟨fun n b hh=>by simp at hh,trivial,rfl,rfl,[_],vr,rfl,hvr,[],⟨rfl,by simp⟩,fun envc ha _ _ _=>⟨?_,trivial,trivial⟩⟩
  simp only[dM,ac,aa]
  exact⟨_,[],rfl,⟨k,len,by rw[ha n h0];exact hek,rfl⟩,rfl⟩
 | .hole i0,cs0,vs,d,rest,fz,bx,cx,r,j,i,e,hd,hF=>by
  obtain⟨s,cs,rfl,h1,e2⟩:=El e
  simp only[Prod.mk.injEq] at e2
  obtain⟨⟨rfl,rfl,rfl,rfl,rfl⟩,rfl⟩:=e2
  simp only[ac] at hd
  obtain⟨u,vr,rfl,hu,hvr⟩:=hd
  refine⟨fun n b hh=>by simp at hh,trivial,rfl,rfl,[u],vr,rfl,hvr,[(i0,u,d)],⟨rfl,fun p hp=>?_⟩,fun envc _ _ _ hh=>⟨?_,trivial,trivial⟩⟩
  ·rw[List.mem_singleton.1 hp];exact hu
  ·simp only[dM,ac,aa]
   exact⟨u,[],rfl,⟨hh _ (List.mem_singleton.2 rfl),n5 hu h1⟩,rfl⟩
 | .ref E o,cs0,vs,d,rest,fz,bx,cx,r,j,i,e,hd,hF=>by
  obtain⟨n,cs,rfl⟩:=CI e
  simp only[dH,Q.run] at e
  split at e
  ·rename_i p0 q0 hk
   simp only[Option.some.injEq,Prod.mk.injEq] at e
   obtain⟨rfl,rfl⟩:=e
   split at hk
   ·rename_i E' cs' hl
    split at hk
    ·rename_i hE
     have hE:=Nat.eq_of_beq_eq_true hE
     subst hE
     obtain⟨⟨d1,r1,f1,b1,c1⟩,q1,q2,e1,e2,rfl⟩:=Q.run_bind _ _ _ hk
     split at e2
     ·rename_i hr1
      simp only at hr1
      subst hr1
      simp only[Q.run,Option.some.injEq,Prod.mk.injEq] at e2
      obtain⟨⟨rfl,rfl,rfl,rfl,rfl⟩,rfl⟩:=e2
      simp only[ac,aa] at hd
      obtain⟨x,vr,rfl,⟨k,len,hek,rfl⟩,hr⟩:=hd
      obtain⟨⟨us,hus,hdu⟩,_⟩:=m.live_blk hl hek
      obtain⟨s1,s2,s3,s4,us',rs',s5,s6,hl',sh,s7⟩:=ko m hA a0 o cs' us.toList d1 [] f1 b1 c1 q1 (j+1) i e1 hdu hF
      simp only[ac] at s6
      subst s6
      rw[List.append_nil] at s5
      subst s5
      refine⟨s1,s2,by simp only[List.length_cons,s3,OT.nb],s4,[_],vr,rfl,hr,hl',sh,fun envc ha hb hc hh=>?_⟩
      have h0:=hb 0 n rfl
      rw[Nat.add_zero] at h0
      obtain⟨k1,k2,k3⟩:=s7 envc ha (fun k n hn=>by have:=hb (k+1) n (by simpa using hn);rwa [show j+(k+1)=j+1+k from by omega] at this) hc hh
      refine⟨?_,⟨⟨rfl,_,rfl,rfl,.inl ⟨n,_,rfl,hl,rfl,fun k' len' he=>?_,fun he=>?_⟩⟩,?_⟩,k3⟩
      ·simp only[dM,ac,aa]
       exact⟨_,[],rfl,⟨k,len,by rw[h0];exact hek,rfl⟩,rfl⟩
      ·rw[hek] at he;cases he
       exact⟨us,hus,k1⟩
      ·rw[hek] at he;cases he
      ·rw[show PN+j+1=PN+(j+1) from by omega];exact k2
     ·cases e2
    ·cases hk
   ·cases hk
  ·cases e
 | .pair a b,cs,vs,d,rest,fz,bx,cx,r,j,i,e,hd,hF=>by
  simp only[dH] at e
  obtain⟨⟨d1,r1,f1,b1,c1⟩,q1,q2,e1,e2,rfl⟩:=Q.run_bind _ _ _ e
  obtain⟨⟨d2,r2,f2,b2,c2⟩,q3,q4,e3,e4,rfl⟩:=Q.run_bind _ _ _ e2
  simp only[Q.run,Option.some.injEq,Prod.mk.injEq] at e4
  obtain⟨⟨rfl,rfl,rfl,rfl,rfl⟩,rfl⟩:=e4
  have hF1:∀ k,bM env f1 k->Ac k:=fun k ⟨n,x,l,hx,he⟩=>hF k ⟨n,x,l,List.mem_append_left _ hx,he⟩
  have hF2:∀ k,bM env f2 k->Ac k:=fun k ⟨n,x,l,hx,he⟩=>hF k ⟨n,x,l,List.mem_append_right _ hx,he⟩
  obtain⟨s1,s2,s3,s4,us,rs,rfl,s6,hl1,sh1,s7⟩:=ko m hA a0 a cs vs d1 r1 f1 b1 c1 q1 j i e1 hd hF1
  obtain⟨t1,t2,t3,t4,us',rs',rfl,t6,hl2,sh2,t7⟩:=ko m hA a0 b r1 rs d2 r2 f2 b2 c2 q3 (j+a.nb) (i+a.nc) e3 s6 hF2
  refine⟨fun n b hh=>?_,⟨s2,t2⟩,by simp only[List.length_append,s3,t3,OT.nb],by simp only[List.length_append,s4,t4,OT.nc],us++us',rs',by rw[List.append_assoc],t6,hl1++hl2,⟨by rw[List.map_append,sh1.1,sh2.1];rfl,fun p hp=>(List.mem_append.1 hp).elim (sh1.2 p) (sh2.2 p)⟩,fun envc ha hb hc hh=>?_⟩
  ·rcases List.mem_append.1 hh with hh|hh
   ·exact s1 n b hh
   ·exact t1 n b hh
  ·obtain⟨k1,k2,k3⟩:=s7 envc ha (fun k n hn=>hb k n (by rw[List.getElem?_append_left (List.getElem?_eq_some_iff.1 hn).1];exact hn)) (fun k q hq=>hc k q (by rw[List.getElem?_append_left (List.getElem?_eq_some_iff.1 hq).1];exact hq)) (fun p hp=>hh p (List.mem_append_left _ hp))
   obtain⟨l1,l2,l3⟩:=t7 envc ha (fun k n hn=>by
     have:=hb (a.nb+k) n (by rw[List.getElem?_append_right (by omega),s3,Nat.add_sub_cancel_left];exact hn)
     rwa [show j+(a.nb+k)=j+a.nb+k from by omega] at this)
    (fun k q hq=>by
     have:=hc (a.nc+k) q (by rw[List.getElem?_append_right (by omega),s4,Nat.add_sub_cancel_left];exact hq)
     rwa [show i+(a.nc+k)=i+a.nc+k from by omega] at this) (fun p hp=>hh p (List.mem_append_right _ hp))
   simp only[dM,gk,fD]
   refine⟨hB k1 l1,?_,?_⟩
   ·rw[List.map_append]
    exact k2.append (by rw[List.length_map,s3,Nat.add_assoc];exact l2)
   ·exact k3.append (by rw[s4,Nat.add_assoc];exact l3)
theorem ie(m:aw w0 N0 A env h w)(hA:∀ b,A b->Ac b):∀(a0:Option Nat)(ps:List PK)(svs:List SV)(vs:List Value)(d:aC ps)(fz:List (Nat×Nm))(bx:List Nat)(cx:List (Option Nat))(r:List Nat)(j i:Nat),
  (bN a0 ps svs).run h=some ((d,fz,bx,cx),r)->ac A env w svs vs->(∀ k,bM env fz k->Ac k) →
  dW h fz/\jA ps d∧∃ hl:List (Nat×Value×SV),(hl.map (·.1)=cY ps∧∀ p∈hl,aa A env w p.2.2 p.2.1)∧∀ envc:ai,((a0=none->j=0)->(∀ n,a0=some n->envc PN=env n)->(∀ k n,bx[k]? = some n->envc (PN+(j+k))=env n)->(∀ k q,cx[k]? = some q->envc (QN+(i+k))=dS env q)->sP envc hl →
   ac Ac envc w (bY ps d j i) vs/\cl Ac env h envc w (bx.map some) (fy ps d j i) (PN+j)/\cl Ac env h envc w cx (gA ps d i) (QN+i))
 | a0,[],[],vs,d,fz,bx,cx,r,j,i,e,hd,hF=>by
  simp only[bN,Q.run,Option.some.injEq,Prod.mk.injEq] at e
  obtain⟨⟨-,rfl,rfl,rfl⟩,rfl⟩:=e
  exact⟨fun n b hh=>by simp at hh,trivial,[],⟨rfl,by simp⟩,fun _ _ _ _ _ _=>⟨by simpa[bY,ac] using hd,trivial,trivial⟩⟩
 | a0,.val t::ps,v::svs,vs,d,fz,bx,cx,r,j,i,e,hd,hF=>by
  simp only[bN] at e
  obtain⟨⟨d1,r1,f1⟩,q1,q2,e1,e2,rfl⟩:=Q.run_bind _ _ _ e
  split at e2
  ·rename_i hr1
   simp only at hr1
   subst hr1
   obtain⟨⟨d2,f2,b2,c2⟩,q3,q4,e3,e4,rfl⟩:=Q.run_bind _ _ _ e2
   simp only[Q.run,Option.some.injEq,Prod.mk.injEq] at e4
   obtain⟨⟨rfl,rfl,rfl,rfl⟩,rfl⟩:=e4
   simp only[ac] at hd
   obtain⟨x,vr,rfl,hx,hr⟩:=hd
   have hF1:∀ k,bM env f1 k->Ac k:=fun k ⟨n,x,l,hx,he⟩=>hF k ⟨n,x,l,List.mem_append_left _ hx,he⟩
   have hF2:∀ k,bM env f2 k->Ac k:=fun k ⟨n,x,l,hx,he⟩=>hF k ⟨n,x,l,List.mem_append_right _ hx,he⟩
   obtain⟨p1,p2,p3,p4,_⟩:=f5 m t [v] [x] d1 [] f1 q1 e1 (by simp only[ac];exact⟨x,[],rfl,hx,rfl⟩) hA hF1
   obtain⟨s1,s4,hl2,sh2,s6⟩:=ie m hA a0 ps svs vr d2 f2 b2 c2 q3 j i e3 hr hF2
   refine⟨fun n b hh=>?_,⟨mS _ _ _ _ p4,s4⟩,hl2,sh2,fun envc hj ha hb hc hh=>?_⟩
   ·rcases List.mem_append.1 hh with hh|hh
    ·exact p1 n b hh
    ·exact s1 n b hh
   ·obtain⟨k1,k2,k3⟩:=s6 envc hj ha hb hc hh
    refine⟨?_,k2,k3⟩
    simp only[bY,ac]
    exact⟨x,vr,rfl,qt (rest:=[]) p4,k1⟩
  ·cases e2
 | a0,.nils::ps,svs0,vs,d,fz,bx,cx,r,j,i,e,hd,hF=>by
  obtain⟨svs,rfl⟩:=A4 e
  simp only[bN] at e
  obtain⟨⟨d2,f2,b2,c2⟩,q3,q4,e3,e4,rfl⟩:=Q.run_bind _ _ _ e
  simp only[Q.run,Option.some.injEq,Prod.mk.injEq] at e4
  obtain⟨⟨rfl,rfl,rfl,rfl⟩,rfl⟩:=e4
  simp only[ac,aa] at hd
  obtain⟨x,vr,rfl,rfl,hr⟩:=hd
  obtain⟨s1,s4,hl2,sh2,s6⟩:=ie m hA a0 ps svs vr d2 f2 b2 c2 q3 j i e3 hr hF
  refine⟨s1,⟨trivial,s4⟩,hl2,sh2,fun envc hj ha hb hc hh=>?_⟩
  obtain⟨k1,k2,k3⟩:=s6 envc hj ha hb hc hh
  refine⟨?_,k2,k3⟩
  simp only[bY,ac,aa]
  exact⟨_,vr,rfl,rfl,k1⟩
 | a0,.fn f k::ps,svs0,vs,d,fz,bx,cx,r,j,i,e,hd,hF=>by
  obtain⟨g,cs,svs,rfl⟩:=D7 e
  simp only[bN] at e
  split at e
  ·rename_i hf hk
   have hf:=Nat.eq_of_beq_eq_true hf
   have hk:=Nat.eq_of_beq_eq_true hk
   subst hf
   obtain⟨⟨d2,f2,b2,c2⟩,q3,q4,e3,e4,rfl⟩:=Q.run_bind _ _ _ e
   simp only[Q.run,Option.some.injEq,Prod.mk.injEq] at e4
   obtain⟨⟨rfl,rfl,rfl,rfl⟩,rfl⟩:=e4
   simp only[ac,aa] at hd
   obtain⟨x,vr,rfl,⟨us,rfl,hu⟩,hr⟩:=hd
   have hul:=cm hu
   obtain⟨s1,s4,hl2,sh2,s6⟩:=ie m hA a0 ps (cs++svs) (us.toList++vr) d2 f2 b2 c2 q3 j i e3 (hB hu hr) hF
   refine⟨s1,⟨trivial,s4⟩,hl2,sh2,fun envc hj ha hb hc hh=>?_⟩
   obtain⟨k1,k2,k3⟩:=s6 envc hj ha hb hc hh
   refine⟨?_,k2,k3⟩
   simp only[bY,ac,aa]
   refine⟨_,vr,rfl,⟨us,rfl,?_⟩,?_⟩
   ·have:=lZ k k1
    rwa [List.take_left' (by omega)] at this
   ·have:=lY k k1
    rwa [List.drop_left' (by omega)] at this
  ·cases e
 | a0,.agg t::ps,svs0,vs,d,fz,bx,cx,r,j,i,e,hd,hF=>by
  obtain⟨cs,svs,rfl⟩:=Dk e
  simp only[bN] at e
  obtain⟨⟨d1,r1,f1⟩,q1,q2,e1,e2,rfl⟩:=Q.run_bind _ _ _ e
  split at e2
  ·rename_i hr1
   simp only at hr1
   subst hr1
   obtain⟨⟨d2,f2,b2,c2⟩,q3,q4,e3,e4,rfl⟩:=Q.run_bind _ _ _ e2
   simp only[Q.run,Option.some.injEq,Prod.mk.injEq] at e4
   obtain⟨⟨rfl,rfl,rfl,rfl⟩,rfl⟩:=e4
   simp only[ac,aa] at hd
   obtain⟨x,vr,rfl,⟨us,rfl,hx⟩,hr⟩:=hd
   have hF1:∀ k,bM env f1 k->Ac k:=fun k ⟨n,x,l,hx,he⟩=>hF k ⟨n,x,l,List.mem_append_left _ hx,he⟩
   have hF2:∀ k,bM env f2 k->Ac k:=fun k ⟨n,x,l,hx,he⟩=>hF k ⟨n,x,l,List.mem_append_right _ hx,he⟩
   obtain⟨p1,p2,p3,p4,_⟩:=f5 m t cs us.toList d1 [] f1 q1 e1 hx hA hF1
   obtain⟨s1,s4,hl2,sh2,s6⟩:=ie m hA a0 ps svs vr d2 f2 b2 c2 q3 j i e3 hr hF2
   refine⟨fun n b hh=>?_,⟨mS _ _ _ _ p4,s4⟩,hl2,sh2,fun envc hj ha hb hc hh=>?_⟩
   ·rcases List.mem_append.1 hh with hh|hh
    ·exact p1 n b hh
    ·exact s1 n b hh
   ·obtain⟨k1,k2,k3⟩:=s6 envc hj ha hb hc hh
    refine⟨?_,k2,k3⟩
    simp only[bY,ac,aa]
    exact⟨_,vr,rfl,⟨us,rfl,nw (by simpa using p3) p4⟩,k1⟩
  ·cases e2
 | a0,.box E o::ps,svs0,vs,d,fz,bx,cx,r,j,i,e,hd,hF=>by
  obtain⟨n,svs,rfl⟩:=Ep e
  simp only[bN,Q.run] at e
  split at e
  ·rename_i p0 q0 hk
   simp only[Option.some.injEq,Prod.mk.injEq] at e
   obtain⟨rfl,rfl⟩:=e
   split at hk
   ·rename_i E' cs hl
    split at hk
    ·rename_i hE
     have hE:=Nat.eq_of_beq_eq_true hE
     subst hE
     obtain⟨⟨d1,r1,f1,b1,c1⟩,q1,q2,e1,e2,rfl⟩:=Q.run_bind _ _ _ hk
     split at e2
     ·rename_i hr1
      simp only at hr1
      subst hr1
      obtain⟨⟨d2,f2,b2,c2⟩,q3,q4,e3,e4,rfl⟩:=Q.run_bind _ _ _ e2
      simp only[Q.run,Option.some.injEq,Prod.mk.injEq] at e4
      obtain⟨⟨rfl,rfl,rfl,rfl⟩,rfl⟩:=e4
      simp only[ac,aa] at hd
      obtain⟨x,vr,rfl,⟨k,len,hek,rfl⟩,hr⟩:=hd
      obtain⟨⟨us,hus,hdu⟩,_⟩:=m.live_blk hl hek
      have hF1:∀ k,bM env f1 k->Ac k:=fun k ⟨n,x,l,hx,he⟩=>hF k ⟨n,x,l,List.mem_append_left _ hx,he⟩
      have hF2:∀ k,bM env f2 k->Ac k:=fun k ⟨n,x,l,hx,he⟩=>hF k ⟨n,x,l,List.mem_append_right _ hx,he⟩
      obtain⟨p1,p2,p3,p4,us',rs',p5,p6,hl1,sh1,p7⟩:=ko m hA a0 o cs us.toList d1 [] f1 b1 c1 q1 (j+1) i e1 hdu hF1
      simp only[ac] at p6
      subst p6
      rw[List.append_nil] at p5
      subst p5
      obtain⟨s1,s4,hl2,sh2,s6⟩:=ie m hA (lB a0 n) ps svs vr d2 f2 b2 c2 q3 (j+1+o.nb) (i+o.nc) e3 hr hF2
      refine⟨fun n b hh=>?_,⟨p2,s4⟩,hl1++hl2,⟨by rw[List.map_append,sh1.1,sh2.1];rfl,fun p hp=>(List.mem_append.1 hp).elim (sh1.2 p) (sh2.2 p)⟩,fun envc hj ha hb hc hh=>?_⟩
      ·rcases List.mem_append.1 hh with hh|hh
       ·exact p1 n b hh
       ·exact s1 n b hh
      ·have h0:=hb 0 n rfl
       rw[Nat.add_zero] at h0
       obtain⟨k1,k2,k3⟩:=p7 envc ha
        (fun k n hn=>by
         have:=hb (k+1) n (by simp only[List.getElem?_cons_succ];rw[List.getElem?_append_left (List.getElem?_eq_some_iff.1 hn).1];exact hn)
         rwa [show j+(k+1)=j+1+k from by omega] at this)
        (fun k q hq=>hc k q (by rw[List.getElem?_append_left (List.getElem?_eq_some_iff.1 hq).1];exact hq)) (fun p hp=>hh p (List.mem_append_left _ hp))
       obtain⟨l1,l2,l3⟩:=s6 envc (fun q=>(tv q).elim) (fun n' hn=>by cases a0 with|some m=>exact ha n' hn|none=>cases hn;have e:=hj rfl;rw[e,Nat.add_zero] at h0;exact h0)
        (fun k n hn=>by
         have:=hb (o.nb+k+1) n (by simp only[List.getElem?_cons_succ];rw[List.getElem?_append_right (by omega),p3,Nat.add_sub_cancel_left];exact hn)
         rwa [show j+(o.nb+k+1)=j+1+o.nb+k from by omega] at this)
        (fun k q hq=>by
         have:=hc (o.nc+k) q (by rw[List.getElem?_append_right (by omega),p4,Nat.add_sub_cancel_left];exact hq)
         rwa [show i+(o.nc+k)=i+o.nc+k from by omega] at this) (fun p hp=>hh p (List.mem_append_right _ hp))
       refine⟨?_,⟨⟨rfl,_,rfl,rfl,.inl ⟨n,_,rfl,hl,rfl,fun k' len' he=>?_,fun he=>?_⟩⟩,?_⟩,?_⟩
       ·simp only[bY,ac,aa]
        exact⟨_,vr,rfl,⟨k,len,by rw[h0];exact hek,rfl⟩,l1⟩
       ·rw[hek] at he;cases he
        exact⟨us,hus,k1⟩
       ·rw[hek] at he;cases he
       ·rw[List.map_append,show PN+j+1=PN+(j+1) from by omega]
        exact k2.append (by rw[List.length_map,p3,show PN+(j+1)+o.nb=PN+(j+1+o.nb) from by omega];exact l2)
       ·exact k3.append (by rw[p4,Nat.add_assoc];exact l3)
     ·cases e2
    ·cases hk
   ·cases hk
  ·cases e
 | a0,.ago o::ps,svs0,vs,d,fz,bx,cx,r,j,i,e,hd,hF=>by
  obtain⟨cs,svs,rfl⟩:=ye e
  simp only[bN] at e
  split at e
  ·rename_i hnb
   have hnb:=Nat.eq_of_beq_eq_true hnb
   obtain⟨⟨d1,r1,f1,b1,c1⟩,q1,q2,e1,e2,rfl⟩:=Q.run_bind _ _ _ e
   split at e2
   ·rename_i hr1
    simp only at hr1
    subst hr1
    obtain⟨⟨d2,f2,b2,c2⟩,q3,q4,e3,e4,rfl⟩:=Q.run_bind _ _ _ e2
    simp only[Q.run,Option.some.injEq,Prod.mk.injEq] at e4
    obtain⟨⟨rfl,rfl,rfl,rfl⟩,rfl⟩:=e4
    simp only[ac,aa] at hd
    obtain⟨x,vr,rfl,⟨us,rfl,hdu⟩,hr⟩:=hd
    have hF1:∀ k,bM env f1 k->Ac k:=fun k ⟨n,x,l,hx,he⟩=>hF k ⟨n,x,l,List.mem_append_left _ hx,he⟩
    have hF2:∀ k,bM env f2 k->Ac k:=fun k ⟨n,x,l,hx,he⟩=>hF k ⟨n,x,l,List.mem_append_right _ hx,he⟩
    obtain⟨p1,p2,p3,p4,us',rs',p5,p6,hl1,sh1,p7⟩:=ko m hA a0 o cs us.toList d1 [] f1 b1 c1 q1 j i e1 hdu hF1
    simp only[ac] at p6
    subst p6
    rw[List.append_nil] at p5
    subst p5
    have hb1:b1=[]:=List.eq_nil_of_length_eq_zero (by rw[p3,hnb])
    subst hb1
    obtain⟨s1,s4,hl2,sh2,s6⟩:=ie m hA a0 ps svs vr d2 f2 b2 c2 q3 j (i+o.nc) e3 hr hF2
    refine⟨fun n b hh=>?_,⟨p2,s4⟩,hl1++hl2,⟨by rw[List.map_append,sh1.1,sh2.1];rfl,fun p hp=>(List.mem_append.1 hp).elim (sh1.2 p) (sh2.2 p)⟩,fun envc hj ha hb hc hh=>?_⟩
    ·rcases List.mem_append.1 hh with hh|hh
     ·exact p1 n b hh
     ·exact s1 n b hh
    ·obtain⟨k1,k2,k3⟩:=p7 envc ha (fun k n hn=>by simp at hn)
      (fun k q hq=>hc k q (by rw[List.getElem?_append_left (List.getElem?_eq_some_iff.1 hq).1];exact hq)) (fun p hp=>hh p (List.mem_append_left _ hp))
     obtain⟨l1,l2,l3⟩:=s6 envc hj ha hb
      (fun k q hq=>by
       have:=hc (o.nc+k) q (by rw[List.getElem?_append_right (by omega),p4,Nat.add_sub_cancel_left];exact hq)
       rwa [show i+(o.nc+k)=i+o.nc+k from by omega] at this) (fun p hp=>hh p (List.mem_append_right _ hp))
     refine⟨?_,l2,?_⟩
     ·simp only[bY,ac,aa]
      exact⟨_,vr,rfl,⟨us,rfl,k1⟩,l1⟩
     ·exact k3.append (by rw[p4,Nat.add_assoc];exact l3)
   ·cases e2
  ·cases e
 | a0,.own E t::ps,svs0,vs,d,fz,bx,cx,r,j,i,e,hd,hF=>by
  obtain⟨v,svs,rfl⟩:=zF e
  simp only[bN] at e
  obtain⟨⟨d1,r1,o1⟩,q1,q2,e1,e2,rfl⟩:=Q.run_bind _ _ _ e
  obtain⟨⟨d2,f2,b2,c2⟩,q3,q4,e3,e4,rfl⟩:=Q.run_bind _ _ _ e2
  simp only[Q.run,Option.some.injEq,Prod.mk.injEq] at e4
  obtain⟨⟨rfl,rfl,rfl,rfl⟩,rfl⟩:=e4
  simp only[ac] at hd
  obtain⟨x,vr,rfl,hx,hr⟩:=hd
  obtain⟨p1,-,-,v',vr',p2,-,p3⟩:=rD m hA e1 (vs:=[x]) (by simp only[ac];exact⟨x,[],rfl,hx,rfl⟩)
  cases p2
  obtain⟨s1,s4,hl2,sh2,s6⟩:=ie m hA a0 ps svs vr d2 f2 b2 c2 q3 j (i+1) e3 hr hF
  refine⟨s1,⟨p1,s4⟩,hl2,sh2,fun envc hj ha hb hc hh=>?_⟩
  obtain⟨k1,k2⟩:=p3 envc (QN+i) (hc 0 _ rfl)
  obtain⟨l1,l2,l3⟩:=s6 envc hj ha hb (fun k q hq=>by have:=hc (k+1) q (by simpa using hq);rwa [show i+(k+1)=i+1+k from by omega] at this) hh
  refine⟨?_,l2,?_⟩
  ·simp only[bY,ac]
   exact⟨x,vr,rfl,k1,l1⟩
  ·exact⟨k2.1,by rw[show QN+i+1=QN+(i+1) from by omega];exact l3⟩
 | a0,.row E t::ps,svs0,vs,d,fz,bx,cx,r,j,i,e,hd,hF=>by
  obtain⟨n,sz,svs,rfl⟩:=xZ e
  simp only[bN,Q.run] at e
  split at e
  ·rename_i p0 q0 hk
   simp only[Option.some.injEq,Prod.mk.injEq] at e
   obtain⟨rfl,rfl⟩:=e
   split at hk
   ·rename_i E' t' xs hl
    split at hk
    ·rename_i ys hE hsz hc
     have hE:=Nat.eq_of_beq_eq_true hE
     subst hE
     have hsz:=Nat.eq_of_beq_eq_true hsz
     subst hsz
     obtain⟨et,ez⟩:=cD hc
     subst et
     simp only at ez
     subst ez
     obtain⟨⟨d2,f2,b2,c2⟩,q3,q4,e3,e4,rfl⟩:=Q.run_bind _ _ _ hk
     simp only[Q.run,Option.some.injEq,Prod.mk.injEq] at e4
     obtain⟨⟨rfl,rfl,rfl,rfl⟩,rfl⟩:=e4
     simp only[ac,aa] at hd
     obtain⟨x,vr,rfl,hv,hr⟩:=hd
     obtain⟨s1,s4,hl2,sh2,s6⟩:=ie m hA (lB a0 n) ps svs vr d2 f2 b2 c2 q3 (j+1) i e3 hr hF
     obtain⟨hw,hlk⟩:=vX m hA hl
     refine⟨s1,⟨hw,s4⟩,hl2,sh2,fun envc hj ha hb hc hh=>?_⟩
     have h0:=hb 0 n rfl
     rw[Nat.add_zero] at h0
     obtain⟨l1,l2,l3⟩:=s6 envc (fun q=>(tv q).elim) (fun n' hn=>by cases a0 with|some m=>exact ha n' hn|none=>cases hn;have e:=hj rfl;rw[e,Nat.add_zero] at h0;exact h0) (fun k n hn=>by have:=hb (k+1) n (by simpa using hn);rwa [show j+(k+1)=j+1+k from by omega] at this) hc hh
     refine⟨?_,⟨(hlk envc (PN+j)).1,by rw[show PN+j+1=PN+(j+1) from by omega];exact l2⟩,l3⟩
     simp only[bY,ac,aa]
     exact⟨_,vr,rfl,by rw[h0];exact hv,l1⟩
    ·cases hk
   ·cases hk
  ·cases e
 | a0,[],_::_,_,_,_,_,_,_,_,_,e,_,_=>by simp[bN,Q.run] at e
 | _,.val _::_,[],_,_,_,_,_,_,_,_,e,_,_=>by simp[bN,Q.run] at e
end
end Go.SX
