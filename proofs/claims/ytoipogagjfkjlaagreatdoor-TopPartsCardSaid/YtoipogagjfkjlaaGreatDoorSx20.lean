/- SX, part 15: regions whose order is open: the text's order serves every order. -/
import Derived.Test.YtoipogagjfkjlaaGreatDoorSx14
import Derived.Scope
import Derived.RangeFuncLeaves
set_option linter.unusedVariables false
namespace Go.SX
def yE:Option Tmp->List Nat
 | some d=>[d]
 | none=>[]
def wX(wr:List Nat)(h:bX):bX:=λn=>match qy n wr with
 | true=>h n
 | false => .un
theorem Zg{wr:List Nat}{h:bX}{n:Nat}(hn:n∈wr):wX wr h n=h n:=by unfold wX;rw[zX.2 hn]
theorem aQ4{a:List Nat}{h b:bX}(e:∀ n∈a,b n=h n):wX a b=wX a h:=by
 funext n
 unfold wX
 split
 next hm=>exact e n (zX.1 hm)
 .rfl
structure qA where
 rd:List Nat
 wr:List Nat
 srd:List Nat
 swr:List Nat
 q:Q jR
 st:jR
 old:bX
def kH(P:Program)(sp:fx)(ops:Array Oper)(o:Oper)(st:jR)(r:List Nat)(F:FS):qA:=⟨r,st.wr,o.looksAt ops,yE o.dst,pb P sp ops.toList o F.sl,st,wX st.wr F.h⟩
def qR:List Nat->List Nat->Bool
 | [],_=>true
 | a::r,l => !qy a l&&qR r l
theorem sY:∀{l m:List Nat},qR l m=true→∀ n∈l,n ∉ m
 | a::r,m,h,n,b=>by
  simp only[qR,fe,pF] at h;rcases eZ.1 b with rfl|b
  .intro hm;rw[zX.2 hm] at h;exact absurd h.1 aw
  .exact sY h.2 n b
def LM(s t:qA):Bool:=qR s.wr t.rd&&qR s.wr t.wr&&qR t.wr s.rd&&qR s.swr t.srd&&qR s.swr t.swr&&qR t.swr s.srd
def KU(s t:qA):Prop:=∃ pre v u,s.st = .go (.det pre v u)/\(∀ n∈t.rd,n∈s.wr)/\t.q.run s.old=some (t.st,t.rd)/\t.q.run (dA u s.old)=some (t.st,t.rd)
structure wS (s t:qA):Prop where
 a:(∀ n∈s.wr,n ∉ t.rd)∨KU s t
 b:∀ n∈s.wr,n ∉ t.wr
 c:(∀ n∈t.wr,n ∉ s.rd)∨KU t s
 d:∀ n∈s.swr,n ∉ t.srd
 e:∀ n∈s.swr,n ∉ t.swr
 f:∀ n∈t.swr,n ∉ s.srd
theorem wS.symm{s t:qA}(h:wS s t):wS t s:=⟨h.c,λn hn hm=>h.b n hm hn,h.a,h.f,λn hn hm=>h.e n hm hn,h.d⟩
theorem ac5{s t:qA}(h:LM s t=true):wS s t:=by
 simp only[LM,fe] at h
 obtain⟨⟨⟨⟨⟨h1,h2⟩,h3⟩,h4⟩,h5⟩,h6⟩:=h
 exact⟨.inl (sY h1),sY h2,.inl (sY h3),sY h4,sY h5,sY h6⟩
def vU:List Nat->Nat->Nat
 | [],_=>0
 | m::_,0=>m
 | _::r,n+1=>vU r n
theorem N7:∀(l:List Nat)(n:Nat),vU l n=l.getD n 0
 | [],n=>by simp[vU]
 | m::r,0=>rfl
 | m::r,n+1=>by simp[vU,N7 r n]
def CG(tbl:List Nat):List Edge->Nat
 | []=>0
 | e::r=>match Region.binds .any e with
  | true=>(1 <<< e.on) ||| (vU tbl e.on ||| CG tbl r)
  | false=>CG tbl r
def EW:List Oper->List Nat->List Nat
 | [],tbl=>tbl
 | o::r,tbl=>EW r (tbl++[CG tbl o.after.toList])
def DR(msk:List Nat)(i j:Nat):Bool:=(vU msk j).testBit i
inductive u6 (ops:Array Oper):Nat->Nat->Prop where
 | edge {i j:Nat} {o:Oper} {e:Edge} (ho:ops[j]? = some o) (he:e∈o.after) (hb:Region.binds .any e=true) (hi:e.on=i):u6 ops i j
 | step {i j:Nat} {o:Oper} {e:Edge} (ho:ops[j]? = some o) (he:e∈o.after) (hb:Region.binds .any e=true) (h:u6 ops i e.on):u6 ops i j
theorem aI8(n i:Nat)(h:(1 <<< n).testBit i=true):i=n:=by
 rw[Nat.testBit_shiftLeft] at h
 simp at h
 have a:=h.2
 by_cases hz:i-n=0
 .omega
 .have:Nat.testBit 1 (i-n)=false:=by
   cases hk:i-n with
   | zero=>exact absurd hk hz
   | succ k=>simp[Nat.testBit_succ]
  rw[this] at a;cases a
theorem Lz{ops:Array Oper}{a:List Nat}{j i:Nat}{o:Oper}(b:ops[j]? = some o)(d:∀ k,(vU a k).testBit i=true->u6 ops i k) :
  ∀(g:List Edge),(∀ e∈g,e∈o.after)->(CG a g).testBit i=true->u6 ops i j
 | [],_,h=>by simp[CG] at h
 | e::r,c,h=>by
  simp only[CG] at h;split at h
  .rename_i l;simp only[Nat.testBit_or,sD] at h;rcases h with h|h|h
   .exact .edge b (c e aw) l (aI8 _ _ h).symm
   .exact .step b (c e aw) l (d _ h)
   .exact Lz b d r (λe f=>c e (fu _ f)) h
  .exact Lz b d r (λe f=>c e (fu _ f)) h
theorem Vo{ops:Array Oper}:∀(l:List Oper)(k:Nat)(a:List Nat),(∀ j,l[j]? = ops[k+j]?)->a.length=k->(∀ i j,(vU a j).testBit i=true->u6 ops i j) →
  ∀ i j,(vU (EW l a) j).testBit i=true->u6 ops i j
 | [],k,a,_,_,h=>h
 | o::l,k,a,c,d,h=>by
  have h0:ops[k]? = some o:=by simpa using (c 0).symm
  refine Vo l (k+1) _ (λj=>by have:=c (j+1);simpa[iz,wF 1 j] using this) (by simp[d]) ?_;intro i j hb;rw[N7,ct] at hb;by_cases hj:j<a.length
  .rw[nV hj,← ct,← N7] at hb;exact h i j hb
  .by_cases b:j=a.length
   .subst b;simp at hb;exact Lz (d▸h0) (λk hk=>h i k hk) _ (λe he=>by simpa using he) hb
   .grind
abbrev rH:=List (Nat×qA)
def HM(msk:List Nat)(i:Nat)(t:qA)(l:rH):Prop:=∀ p∈l,DR msk p.1 i=true∨wS p.2 t
section
variable (P:Program) (sp:fx) (ops:Array Oper) (msk:List Nat)
def vD(i:Nat)(log:rH)(K:rH->FS->Prop)(F:FS):Prop :=
 match ops[i]? with
 | none=>K log F
 | some o=>∃ st r,(pb P sp ops.toList o F.sl).run F.h=some (st,r)/\st.pre/\HM msk i (kH P sp ops o st r F) log ∧
   ∀ F',ny st o.dst F F'→K ((i,kH P sp ops o st r F)::log) F'
def zN(K:FS->Prop):Nat->Array Bool->rH->FS->Prop
 | 0,listed,log,F=>Region.ready .any ops listed=[]/\K F
 | n+1,listed,log,F=>(Region.ready .any ops listed=[]->K F) ∧
   ∀ i∈Region.ready .any ops listed,vD P sp ops msk i log (λlog' F'=>zN K n (listed.setIfInBounds i true) log' F') F
def zq(K:FS->Prop):List Oper->Nat->rH->FS->Prop
 | [],_,_,F=>K F
 | _::l,k,log,F=>vD P sp ops msk k log (λlog' F'=>zq K l (k+1) log' F') F
end
section
variable {P:Program} {sp:fx} {ops:Array Oper} {msk:List Nat} {w0:World} {N0:fK} {K:FS->Prop}
theorem Mw:∀(n:Nat)(a:Array Bool)(c b:rH)(F:FS),(∀ p,p∈b↔p∈c)->zN P sp ops msk K n a c F->zN P sp ops msk K n a b F
 | 0,_,_,_,_,_,h=>h
 | n+1,a,c,b,F,d,h=>by
  refine⟨h.1,λi hi=>?_⟩;have:=h.2 i hi;unfold vD at this ⊢;split
  next e=>rw[e] at this;exact Mw n _ _ _ _ d this
  next o e=>rw[e] at this;obtain⟨st,r,h1,h2,h3,h4⟩:=this;refine⟨st,r,h1,h2,λp hp=>h3 p ((d p).1 hp),λF' hF=>Mw n _ _ _ _ (λp=>?_) (h4 F' hF)⟩;simp[d p]
theorem SS{a:jR}(e:a.pre)(b:Option Tmp)(F:FS):∃ F',ny a b F F':=by
 cases a with
 | go d=>obtain⟨x,c⟩:=d.ne e;exact⟨_,x,c,rfl⟩
 | split g d =>
  cases g with
  | true=>obtain⟨x,c⟩:=d.ne (e rfl);exact⟨_,.inl ⟨rfl,x,c,rfl⟩⟩
  | false=>exact⟨_,.inr ⟨rfl,rfl⟩⟩
theorem XI{ρ a:Nat->SV}{x:Operand}(h:∀ t,x = .tmp t->ρ t=a t):bg ρ x=bg a x:=by
 cases x with
 | tmp t=>exact h t rfl
 | _=>rfl
theorem Wm{o:Oper}{ρ ρ':Nat->SV}(h:∀ x∈o.op.operands,bg ρ x=bg ρ' x):BG P sp o ρ=BG P sp o ρ':=by
 have hmap:∀ xs:Array Operand,(∀ x∈xs,bg ρ x=bg ρ' x)->xs.toList.map (bg ρ)=xs.toList.map (bg ρ'):=λxs hx =>
  List.map_congr_left λx hm=>hx x (by simpa using hm)
 have hpairs:∀ ps:Array (Nat×Operand),(∀ x∈(ps.toList.map (·.2)).toArray,bg ρ x=bg ρ' x) →
   ps.toList.map (λp=>(p.1,bg ρ p.2))=ps.toList.map (λp=>(p.1,bg ρ' p.2)):=λps hx =>
  List.map_congr_left λp hm=>by
   grind
 have hopt:∀ x:Option Operand,(∀ y,x=some y->bg ρ y=bg ρ' y)->x.map (bg ρ)=x.map (bg ρ'):=λx hx=>by
  cases x with
  | none=>rfl
  | some y=>simp[hx y rfl]
 obtain⟨dst,op,ty,pos,after,guard⟩:=o
 unfold BG
 cases op <;> simp only[Op.operands] at h <;> simp only
 case move x=>rw[h x aw]
 case assign x=>rw[h x aw]
 case pick c x y=>rw[h c aw,h x aw,h y aw]
 case box E x=>rw[h x aw]
 case build t ps=>rw[hpairs ps h]
 case buildSlice t n ps=>rw[hpairs ps h]
 case load t x=>rw[show pW sp ρ x=pW sp ρ' x from by (cases x with|tmp s=>exact h (.tmp s) aw|_=>rfl)]
 case store t x y=>rw[h x aw,h y aw]
 case nilCheck x=>rw[h x aw]
 case binOp op t x y yt=>rw[h x aw,h y aw]
 case unOp op t x=>rw[h x aw]
 case convert s t x=>rw[h x aw]
 case makeFunc fn fs caps=>cases fn <;> simp only;rw[hmap caps λx hx=>h x (by simp[hx])]
 case makeSlice t l c=>rw[h l aw,h c aw]
 case slice t x lo hi mx =>
  simp_all
 case fieldAddr s x f=>rw[h x aw]
 case field s x f=>rw[h x aw]
 case indexAddr t x i=>rw[h x aw,h i aw,show pW sp ρ x=pW sp ρ' x from (by cases x with|tmp s=>exact h (.tmp s) aw|_=>rfl)]
 case index t x i=>rw[h x aw,h i aw]
 case extract x i=>rw[h x aw]
 case makeMap t r=>cases r <;> rfl
 case lookup t x i ok=>cases ok <;> simp only[h x aw,h i aw]
 case mapUpdate t x i y=>rw[h x aw,h i aw,h y aw]
 case call c =>
  obtain⟨callee,args,ts⟩:=c;cases callee with
  | value g=>simp only;rw[h g (by simp[Call.operands]),hmap args λx hx=>h x (by simp[Call.operands,hx])]
  | builtin b=>simp only;rw[hmap args λx hx=>h x (by simp[Call.operands,hx])]
  | invoke rc m=>rfl
theorem En{t:Nat}:∀{l:List Operand},t∈yA l↔Operand.tmp t∈l
 | []=>by simp[yA]
 | .tmp s::r=>by simp[yA,En (l:=r)]
 | .const v::r=>by simp[yA,En]
 | .global g::r=>by simp[yA,En]
 | .func f::r=>by simp[yA,En]
theorem Hm{o:Oper}{t:Nat}(h:Operand.tmp t∈o.op.operands):t∈o.looksAt ops:=by
 refine iA _ (List.mem_filterMap.2 ⟨.tmp t,by simpa using h,rfl⟩)
theorem Ql{o:Oper}{t:Nat}(h:t∈xD o):t∈o.looksAt ops:=by
 unfold xD at h
 split at h
 next c x y ho=>simp at h;subst h;exact Hm (by rw[ho];simp[Op.operands])
 .simp at h
 .exact Hm (by simpa using En.1 h)
theorem ao8{o:Oper}{c a:List SV}(h:∀ t∈o.looksAt ops,dW a t=dW c t):pb P sp ops.toList o a=pb P sp ops.toList o c:=by
 have hg:AD ops.toList a o.guard=AD ops.toList c o.guard:=by
  unfold AD;cases k:o.guard with
  | none=>rfl
  | some p =>
   obtain⟨j,want⟩:=p;simp only;cases r:oX ops.toList j with
   | none=>rfl
   | some oj =>
    simp only;cases hd:oj.dst with
    | none=>rfl
    | some d =>
     simp only;rw[h d ?_];unfold Oper.looksAt;rw[k];rw[wc,mr] at r;simp[r,hd]
 have e:∀(g:Bool)(l:List Nat),(∀ t∈l,t∈o.looksAt ops)->tU g a l=tU g c l:=by
  intro g l
  induction l with
  | nil=>intro _;rfl
  | cons t l m=>intro f;simp only[tU];rw[h t (f t aw),m λs n=>f s (fu _ n)]
 unfold pb
 rw[hg]
 split
 .rw[Wm λx q=>XI λt b=>h t (Hm (b▸q))]
 next g _=>
  rw[e g _ λt b=>Ql b];have i:∀(l:List Nat),(∀ t∈l,t∈o.looksAt ops)->Gd a l=Gd c l:=by
   intro l
   induction l with
   | nil=>intro _;rfl
   | cons t l m=>intro f;simp only[Gd];rw[h t (f t aw),m λs n=>f s (fu _ n)]
  rw[i _ λt b=>Ql b];split
  .rfl
  congr 1;exact Wm λx q=>XI λt b=>by simp only[h t (Hm (b▸q))]
 .rfl
theorem ae6{b:List SV}{a:Option Tmp}{v:SV}{t:Nat}(h:∀ d,a=some d->t≠d):dW (ma b a v) t=dW b t:=by
 cases a with
 | none=>rfl
 | some d=>simp only[ma];rw[Hz,ah (λhh=>h d rfl hh.1)]
theorem Pp{b:jR}{a:Option Tmp}{F c:FS}(h:ny b a F c):∃ v u,c.sl=ma F.sl a v/\c.h=dA u F.h∧∀ p∈u,p.1∈b.wr:=by
 have e:∀(d:Dl)(x:d.X),∃ v u,(F.app a d x).sl=ma F.sl a v/\(F.app a d x).h=dA u F.h∧∀ p∈u,p.1∈d.wr:=λd x =>
  ⟨d.val x,d.upd x,rfl,rfl,λp hp=>by rw[← Dl.wr_upd d x];exact yd hp⟩
 cases b with
 | go d=>obtain⟨x,_,rfl⟩:=h;exact e d x
 | split g d =>
  rcases h with⟨_,x,_,rfl⟩|⟨_,rfl⟩
  .exact e d x
  .exact⟨.cv undef,[],rfl,rfl,aw⟩
theorem Ko{n:Nat}:∀(u:List (Nat×Nm))(b c:bX),n∈u.map (·.1)->dA u b n=dA u c n
 | p::u,b,c,hn=>by
  simp only[dA];by_cases a:n=p.1
  .subst a;simp
  .rw[bX.set_other _ _ a,bX.set_other _ _ a];exact Ko u b c (by simpa[a] using hn)
theorem W0{i j:Oper}{a:jR}{F f:FS}(hd:∀ n∈yE i.dst,n ∉ j.looksAt ops)(hi:ny a i.dst F f):pb P sp ops.toList j f.sl=pb P sp ops.toList j F.sl:=by
 obtain⟨v,u,b,hh,hw⟩:=Pp hi
 refine ao8 λt ht=>?_
 rw[b]
 exact ae6 λd c e=>hd d (by simp[yE,c]) (e▸ht)
theorem VW{i j:Oper}{b a:jR}{d:List Nat}{F c:FS}(hb:∀ n∈b.wr,n ∉ a.wr)(hd:∀ n∈yE i.dst,n ∉ j.looksAt ops)(f:ny b i.dst F c) :
  kH P sp ops j a d c=kH P sp ops j a d F:=by
 obtain⟨v,u,hsl,hh,hw⟩:=Pp f
 have e:wX a.wr c.h=wX a.wr F.h:=aQ4 λn hn=>by
  rw[hh];refine qH λhm=>?_;grind
 unfold kH
 rw[W0 hd f,e]
theorem Mg{i j:Oper}{g c:jR}{ri l:List Nat}{F m:FS}(q:wS (kH P sp ops i g ri F) (kH P sp ops j c l F))(o:ny g i.dst F m) :
  ((pb P sp ops.toList j m.sl).run m.h=some (c,l)↔(pb P sp ops.toList j F.sl).run F.h=some (c,l)):=by
 rw[W0 q.d o]
 rcases q.a with ha|⟨pre,v,u,k,b,r,s⟩
 .obtain⟨v,u,hsl,hh,hw⟩:=Pp o;have t:∀ n∈l,m.h n=F.h n:=λn f=>by
   rw[hh];refine qH λhm=>?_;obtain⟨p,hp,rfl⟩:=List.mem_map.1 hm;exact ha _ (hw p hp) f
  exact⟨λe=>Q.run_local _ e λn f=>(t n f).symm,λe=>Q.run_local _ e t⟩
 .simp only[kH] at k b r s;subst k;obtain⟨x,_,rfl⟩:=o;refine⟨λ_=>Q.run_local _ r λn f=>(Zg (b n f)).symm,λ_=>Q.run_local _ s λn f=>?_⟩;exact Ko u _ _ (b n f)
theorem ax4{u v:List (Nat×Nm)}(h:∀ p∈u,∀ q∈v,p.1≠q.1)(c:bX):dA u (dA v c)=dA v (dA u c):=by
 funext n
 by_cases b:n∈u.map (·.1)
 .have a:n ∉ v.map (·.1):=λa=>by
   grind
  rw[qH a];exact Ko u _ _ b
 .rw[qH b];by_cases a:n∈v.map (·.1)
  .exact Ko v _ _ a
  .rw[qH a,qH a,qH b]
theorem bF1{b:List SV}{x y:Option Tmp}{v u:SV}(h:∀ d,x=some d->y≠some d):ma (ma b x v) y u=ma (ma b y u) x v:=by
 cases x with
 | none=>rfl
 | some d =>
  cases y with
  | none=>rfl
  | some e =>
   have a:d≠e:=λhe=>h d rfl (he▸rfl);exact List.set_comm _ _ a
theorem aR4{i j:Oper}{c f:jR}{ri rj:List Nat}{F C m:FS}(D:wS (kH P sp ops i c ri F) (kH P sp ops j f rj F))(hj:ny f j.dst F C)(hi:ny c i.dst C m) :
  ∃ E,ny c i.dst F E/\ny f j.dst E m:=by
 have n:∀ d,i.dst=some d->j.dst≠some d:=λd t k=>D.e d (by simp[kH,yE,t]) (by simp[kH,yE,k])
 have l:∀ d,j.dst=some d->i.dst≠some d:=λd t k=>n d k t
 have o:∀{r:jR}{a:Option Tmp}{F w:FS},ny r a F w→∃ v u,(∀ p∈u,p.1∈r.wr)/\w=⟨ma F.sl a v,dA u F.h⟩∧∀ G:FS,ny r a G ⟨ma G.sl a v,dA u G.h⟩:=by
  intro r a F w h;cases r with
  | go d=>obtain⟨x,y,rfl⟩:=h;exact⟨d.val x,d.upd x,λp s=>by rw[jR.wr,← Dl.wr_upd d x];exact yd s,rfl,λG=>⟨x,y,rfl⟩⟩
  | split g d =>
   rcases h with⟨z,x,y,rfl⟩|⟨z,rfl⟩
   .exact⟨d.val x,d.upd x,λp s=>by rw[jR.wr,← Dl.wr_upd d x];exact yd s,rfl,λG=>.inl ⟨z,x,y,rfl⟩⟩
   .exact⟨.cv undef,[],aw,rfl,λG=>.inr ⟨z,rfl⟩⟩
 obtain⟨H,I,A,rfl,gj⟩:=o hj
 obtain⟨J,K,B,rfl,gi⟩:=o hi
 refine⟨_,gi F,?_⟩
 have e1:ma (ma F.sl j.dst H) i.dst J=ma (ma F.sl i.dst J) j.dst H:=bF1 l
 have e2:dA K (dA I F.h)=dA I (dA K F.h):=ax4 (λp s q hq e=>D.b p.1 (B p s) (e▸A q hq)) F.h
 simp_all
def Kz(ops:Array Oper)(listed:Array Bool):Prop:=∀ j o,ops[j]? = some o->listed.getD j false=true→∀ e∈o.after,Region.binds .any e=true->listed.getD e.on false=true
theorem ba7{a:Array Bool}(f:Kz ops a){i j:Nat}(hj:j∈Region.ready .any ops a)(h:u6 ops i j):a.getD i false=true:=by
 obtain⟨hun,oj,hoj,hall⟩:=mem_ready.1 hj
 have key:∀{i k:Nat},u6 ops i k->a.getD k false=true->a.getD i false=true:=by
  intro i k h
  induction h with
  | edge b c d g=>intro e;rw[← g];exact f _ _ b e _ c d
  | step b c d _ ih=>intro e;exact ih (f _ _ b e _ c d)
 cases h with
 | edge b c d g =>
  grind
 | step b c d h =>
  grind
theorem bF5{a:Array Bool}(hd:Kz ops a){i:Nat}(hi:i∈Region.ready .any ops a):Kz ops (a.setIfInBounds i true):=by
 obtain⟨hun,oi,hoi,hall⟩:=mem_ready.1 hi
 have b:∀ k,a.getD k false=true->(a.setIfInBounds i true).getD k false=true:=by
  intro k hk;rw[rF] at hk ⊢;grind
 intro j o ho hj e he hb
 by_cases hij:i=j
 .simp_all
 .refine b _ (hd j o ho ?_ e he hb);simp_all
theorem aG5(D:∀ i j,DR msk i j=true->u6 ops i j){i:Nat}{k:Oper}{o:jR}{r:List Nat}(hi:ops[i]? = some k)(w:o.pre) :
  ∀(e:Nat)(a:Array Bool)(l:rH)(F:FS),Kz ops a->i∈Region.ready .any ops a->(pb P sp ops.toList k F.sl).run F.h=some (o,r) →
   HM msk i (kH P sp ops k o r F) l →
   (∀ g,ny o k.dst F g->zN P sp ops msk K e (a.setIfInBounds i true) ((i,kH P sp ops k o r F)::l) g)->zN P sp ops msk K (e+1) a l F:=by
 intro e
 induction e with
 | zero =>
  intro a l F hd hr hrun hlog H;refine⟨λh=>(by rw[h] at hr;cases hr),λj C=>?_⟩;by_cases m:j=i
  .subst m;unfold vD;grind
  .obtain⟨g,s⟩:=SS w k.dst F;have:=ready_mono C m;rw[(H g s).1] at this;cases this
 | succ e ih =>
  intro a l F hd hr hrun hlog H;refine⟨λh=>(by rw[h] at hr;cases hr),λj C=>?_⟩;by_cases m:j=i
  .subst m;unfold vD;grind
  .obtain⟨hjun,u,E,hall⟩:=mem_ready.1 C;have Hj:∀ g,ny o k.dst F g→∃ c t,(pb P sp ops.toList u g.sl).run g.h=some (c,t)/\c.pre/\HM msk j (kH P sp ops u c t g) ((i,kH P sp ops k o r F)::l) ∧
     ∀ G,ny c u.dst g G->zN P sp ops msk K e ((a.setIfInBounds i true).setIfInBounds j true) ((j,kH P sp ops u c t g)::(i,kH P sp ops k o r F)::l) G:=by
    intro g s;have:=(H g s).2 j (ready_mono C m);unfold vD at this;rw[E] at this;exact this
   obtain⟨O,v⟩:=SS w k.dst F;obtain⟨c,t,Q,R,x,_⟩:=Hj O v;have hnot:DR msk i j=false:=by
    cases hb:DR msk i j with
    | false=>rfl
    | true =>
     have h1:=ba7 hd C (D i j hb);have h0:=(mem_ready.1 hr).1;grind
   have y:wS (kH P sp ops k o r F) (kH P sp ops u c t O):=by
    rcases x (i,kH P sp ops k o r F) aw with h|h
    .simp_all
    .exact h
   have S:∀ g,ny o k.dst F g->kH P sp ops u c t g=kH P sp ops u c t F:=λg s=>VW y.b y.d s;rw[S O v] at x;have z:wS (kH P sp ops k o r F) (kH P sp ops u c t F):=by rw[← S O v];exact y
   have q:(pb P sp ops.toList u F.sl).run F.h=some (c,t):=(Mg z v).1 Q;unfold vD;rw[E];refine⟨c,t,q,R,λp I=>x p (fu _ I),λFj A=>?_⟩;have ti:kH P sp ops k o r Fj=kH P sp ops k o r F:=VW (λn hn hm=>z.b n hm hn) z.f A;refine ih (a.setIfInBounds j true) _ Fj (bF5 hd C) (ready_mono hr (Ne.symm m)) ((Mg z.symm A).2 hrun) (λp I=>?_) λFji J=>?_
   .rw[ti];rcases eZ.1 I with rfl|I
    .exact .inr z.symm
    .exact hlog p I
   .rw[ti];obtain⟨Fi,B,L⟩:=aR4 z A J;obtain⟨M,rj',N,hpj',hlj',hK⟩:=Hj Fi B;have e1:some (M,rj')=some (c,t):=by rw[← N,← (Mg z B).2 q]
    obtain⟨rfl,rfl⟩:=e1;have:=hK Fji L;rw[S Fi B] at this;rw[Array.setIfInBounds_comm _ _ m];refine Mw _ _ _ _ _ (λp=>?_) this;simp;exact⟨λh=>by rcases h with h|h|h <;> simp[h],λh=>by rcases h with h|h|h <;> simp[h]⟩
end
end Go.SX
namespace Go.SX
def KR(k:Nat):List Edge->Bool
 | []=>true
 | e::r=>(match Region.binds .any e with|true=>Nat.blt e.on k|false=>true)&&KR k r
def Dc:Nat->List Oper->Bool
 | _,[]=>true
 | k,o::r=>KR k o.after.toList&&Dc (k+1) r
section
variable {P:Program} {sp:fx} {ops:Array Oper} {msk:List Nat} {w0:World} {N0:fK} {K:FS->Prop} {Q:Exit->Act->World->Prop}
theorem W7{k:Nat}:∀{es:List Edge},KR k es=true→∀ e∈es,Region.binds .any e=true->e.on<k
 | e::r,h,e',a,hb=>by
  simp only[KR,fe] at h;rcases eZ.1 a with rfl|a
  .simp_all
  .exact W7 h.2 e' a hb
theorem Uf:∀{l:List Oper}{k:Nat},(∀ j,l[j]? = ops[k+j]?)->Dc k l=true→∀ j o,k<=j->ops[j]? = some o->j<k+l.length→∀ e∈o.after,Region.binds .any e=true->e.on<j
 | [],k,_,_,j,o,h1,_,b,_,_,_=>by simp at b;omega
 | o0::l,k,f,h,j,o,h1,c,b,e,g,i=>by
  simp only[Dc,fe] at h;by_cases d:j=k
  .subst d;have h0:ops[j]? = some o0:=by simpa using (f 0).symm
   rw[h0] at c;cases c;exact W7 h.1 e (by simpa using g) i
  .exact Uf (λj=>by have:=f (j+1);simpa[iz,wF 1 j] using this) h.2 j o ab c (by simp at b;omega) e g i
def LP(ops:Array Oper)(k:Nat)(listed:Array Bool):Prop:=∀ j,listed[j]? = if j<ops.size then some (decide (j<k)) else none
theorem Sp(c:∀ i j,DR msk i j=true->u6 ops i j)(d:Dc 0 ops.toList=true):∀(l:List Oper)(k:Nat)(a:Array Bool)(log:rH)(F:FS),(∀ j,l[j]? = ops[k+j]?)->LP ops k a →
  k+l.length=ops.size->zq P sp ops msk K l k log F->zN P sp ops msk K l.length a log F
 | [],k,a,log,F,_,g,p,h=>by
  refine⟨?_,h⟩;cases hr:Region.ready .any ops a with
  | nil=>rfl
  | cons i r =>
   have hi:i∈Region.ready .any ops a:=by rw[hr];simp
   obtain⟨f,o,ho,_⟩:=mem_ready.1 hi;have b:=(Array.getElem?_eq_some_iff.1 ho).1;rw[rF,g i,aj b] at f;simp at p f;omega
 | o::l,k,a,log,F,v,g,p,h=>by
  have f:ops[k]? = some o:=by simpa using (v 0).symm
  have b:=(Array.getElem?_eq_some_iff.1 f).1;simp only[zq] at h;unfold vD at h;rw[f] at h;obtain⟨st,r,h1,h2,h3,h4⟩:=h;have q:=Uf (ops:=ops) aw d;have s:∀ j,j<k->a.getD j false=true:=λj t=>by
   rw[rF,g j,aj ab];simp[t]
  refine aG5 c f h2 l.length a log F ?_ ?_ h1 h3 λw u=>?_
  .intro j oj hoj t e x y;have m:=(Array.getElem?_eq_some_iff.1 hoj).1;rw[rF,g j,aj m] at t;grind
  .refine mem_ready.2 ⟨?_,o,f,λe x y=>s _ (q k o (Nat.zero_le _) f (by simpa using b) e x y)⟩;rw[rF,g k,aj b];simp
  .refine Sp c d l (k+1) _ _ w (λj=>by have:=v (j+1);simpa[iz,wF 1 j] using this) ?_ (by simp at p;omega) (h4 w u);intro j;by_cases n:k=j
   .subst n;rw[Array.getElem?_setIfInBounds_self_of_lt (by
     have:=g k;rw[aj b] at this;exact (Array.getElem?_eq_some_iff.1 this).1),aj b]
    simp
   .rw[EP n,g j];split
    .congr 1;rw[decide_eq_decide];omega
    .rfl
theorem Pb{ro:Option Nat}(hs:jF P sp/\N0.g=sp.gl){A1:Nat->Prop}{env1:bj}{w1:World}
  (hQ:∀ F' A' env' a' w',K F'→hV w0 N0 A' env' F' a' w'→dH A1 env1 w1 A' env' w'→Q .normal a' w') :
  ∀(fuel:Nat)(listed:Array Bool)(log:rH)(F:FS)(A:Nat->Prop)(env:bj)(a:Act)(w:World),zN P sp ops msk K fuel listed log F->hV w0 N0 A env F a w->dH A1 env1 w1 A env w →
   wpAnyIn (wf ro) 0 P .any ops Q fuel listed a w
 | 0,_,_,F,A,env,a,w,h,t,x=>⟨h.1,hQ _ _ _ _ _ h.2 t x⟩
 | fuel+1,listed,log,F,A,env,a,w,h,t,x=>by
  refine⟨λh0=>hQ _ _ _ _ _ (h.1 h0) t x,λi hi=>?_⟩;have hi':=h.2 i hi;unfold vD at hi';unfold wpOpIn;split at hi'
  next ho=>simp only[ho];exact Pb hs hQ fuel _ _ F A env a w hi' t x
  next o ho=>simp only[ho];obtain⟨st,r,h1,h2,_,h4⟩:=hi';exact (OM hs t h1 h2).2 ro _ _ λF' A' env' a' w' hF t' x'=>Pb hs hQ fuel _ _ F' A' env' a' w' (h4 F' hF) t' (x.trans x')
theorem X0{ro:Option Nat}(hs:jF P sp/\N0.g=sp.gl){A1:Nat->Prop}{env1:bj}{w1:World}
  (hQ:∀ F' A' env' a' w',K F'→hV w0 N0 A' env' F' a' w'→dH A1 env1 w1 A' env' w'→Q .normal a' w') :
  ∀(l:List Oper)(k:Nat)(log:rH)(F:FS)(A:Nat->Prop)(env:bj)(a:Act)(w:World),(∀ j,l[j]? = ops[k+j]?)->zq P sp ops msk K l k log F->hV w0 N0 A env F a w->dH A1 env1 w1 A env w →
   wpOpsIn (wf ro) 0 P ops Q (List.range' k l.length) a w
 | [],k,log,F,A,env,a,w,_,h,t,x=>hQ _ _ _ _ _ h t x
 | o::l,k,log,F,A,env,a,w,hl,h,t,x=>by
  have h0:ops[k]? = some o:=by simpa using (hl 0).symm
  simp only[zq] at h;unfold vD at h;rw[h0] at h;obtain⟨st,r,h1,h2,_,h4⟩:=h;rw[dP,List.range'_succ,wpOpsIn_cons];unfold wpOpIn;simp only[h0];exact (OM hs t h1 h2).2 ro _ _ λF' A' env' a' w' hF t' x' =>
   X0 hs hQ l (k+1) _ F' A' env' a' w' (λj=>by have:=hl (j+1);simpa[iz,wF 1 j] using this) (h4 F' hF) t' (x.trans x')
theorem hV.drew{A:Nat->Prop}{env:bj}{F:FS}{a:Act}{w:World}(t:hV w0 N0 A env F a w):hV w0 N0 A env F a w.drew/\dH A env w A env w.drew:=by
 have u:lG (λ_=>False) (λ_=>False) A env F.h w A env F.h w.drew:=lG.none (da.drew w _)
 have x:=t.m.ext u
 exact⟨⟨t.m.upd u,t.len,λi=>DQ x _ _ (t.f i),t.dfr.mono x.dfo⟩,x⟩
theorem aj5{ro:Option Nat}(hs:jF P sp/\N0.g=sp.gl)(ij:P.follows .mixedOrders=true){id:Nat}{draw:Bool}{A:Nat->Prop}{env:bj}{F:FS}{a:Act}{w:World}(hd:draw=true->Dc 0 ops.toList=true/\msk=EW ops.toList [])
  (t:hV w0 N0 A env F a w) (h:zq P sp ops msk K ops.toList 0 [] F)
  (hQ:∀ F' A' env' a' w',K F'→hV w0 N0 A' env' F' a' w'→dH A env w A' env' w'→Q .normal a' w'):(Code.region id ops draw).wpIn (wf ro) 0 P Q a w:=by
 cases draw with
 | false =>
  refine wpIn_region ?_;have:=X0 (ro:=ro) hs hQ ops.toList 0 [] F A env a w aw h t dH.refl;rw[List.range_eq_range'];simpa using this
 | true =>
  obtain⟨hlex,hm⟩:=hd rfl;subst hm;obtain⟨t',x'⟩:=t.drew;refine wpIn_region_any ij ?_;have:=Sp (K:=K) (P:=P) (sp:=sp) (Vo ops.toList 0 [] aw rfl (by simp[vU])) hlex ops.toList 0 (Array.replicate ops.size false) [] F aw (λj=>by
   rw[Array.getElem?_replicate];split <;> simp) aw h
  have h2:=Pb (ro:=ro) (Q:=Q) hs hQ _ _ _ F A env a w.drew this t' x';simpa using h2
end
structure St where
 sl:List SV
 H:List (Nat×Nm)
def eM:List (Nat×Nm)->Nat->Nm
 | [],_ => .un
 | (m,b)::r,n=>match Nat.beq n m with
  | true=>b
  | false=>eM r n
def St.fs(S:St):FS:=⟨S.sl,eM S.H⟩
theorem Ln:∀(H:List (Nat×Nm)),eM H=dA H (λ_=>.un)
 | []=>rfl
 | (m,b)::r=>by
  funext n;simp only[eM,dA,bX.set];by_cases h:n=m
  .subst h;simp
  .have:Nat.beq n m=false:=by
    cases hb:Nat.beq n m with
    | false=>rfl
    | true=>exact absurd (bK hb) h
   rw[this,ah h,Ln r]
theorem bf6(u H:List (Nat×Nm)):eM (u++H)=dA u (eM H):=by
 rw[Ln,Ln,LF]
def au(b:Bool)(y n:Prop):Prop:=match b with
 | true=>y
 | false=>n
def sM:List Prop->Prop->Prop
 | [],q=>q
 | p::r,q=>p/\sM r q
theorem A0{l:List Prop}{q:Prop}:sM l q↔bS l/\q:=by
 induction l with
 | nil=>simp[sM,bS]
 | cons p l ih=>simp[sM,bS,ih,and_assoc]
def Jx(v:SV)(k:SV->Prop):Prop:=match v with
 | .int a b=>k (.int a b)
 | .bool b=>k (.bool b)
 | .str s=>k (.str s)
 | .dsl t xs=>k (.dsl t xs)
 | .dsx t xs=>k (.dsx t xs)
 | .nilsl=>k .nilsl
 | .own n s=>k (.own n s)
 | .ptr n o=>k (.ptr n o)
 | .eptr n s i o=>k (.eptr n s i o)
 | .dptr t d o=>k (.dptr t d o)
 | .nilp=>k .nilp
 | .fn f c=>k (.fn f c)
 | .agg c=>k (.agg c)
 | .tup c=>k (.tup c)
 | .opt b v=>k (.opt b v)
 | .cv v=>k (.cv v)
 | .gl g=>k (.gl g)
 | .csl n l=>k (.csl n l)
 | .mapp n=>k (.mapp n)
 | .arr c n xs=>k (.arr c n xs)
 | .yld r ts c=>k (.yld r ts c)
 | .junk=>k .junk
theorem K4(v:SV)(k:SV->Prop):Jx v k=k v:=by cases v <;> rfl
def AX:List SV->(List SV->Prop)->Prop
 | [],k=>k []
 | x::xs,k=>Jx x λy=>AX xs λys=>k (y::ys)
theorem V9:∀(l:List SV)(k:List SV->Prop),AX l k=k l
 | [],k=>rfl
 | x::xs,k=>by simp only[AX,K4,V9 xs]
def Fc(v:SV)(k:SV->Prop):Prop:=Jx v λv=>match v with
 | .agg c=>AX c λc=>k (.agg c)
 | .tup c=>AX c λc=>k (.tup c)
 | .fn f c=>AX c λc=>k (.fn f c)
 | .yld r ts c=>AX c λc=>k (.yld r ts c)
 | .opt b v=>Jx v λv=>k (.opt b v)
 | v=>k v
theorem KX(v:SV)(k:SV->Prop):Fc v k=k v:=by
 unfold Fc;rw[K4];cases v <;> simp only[V9,K4]
def DI:List SV->(List SV->Prop)->Prop
 | [],k=>k []
 | x::xs,k=>Fc x λy=>DI xs λys=>k (y::ys)
theorem L0:∀(l:List SV)(k:List SV->Prop),DI l k=k l
 | [],k=>rfl
 | x::xs,k=>by simp only[DI,KX,L0 xs]
def Ku(v:SV)(k:SV->Prop):Prop:=Fc v λv=>match v with
 | .tup c=>DI c λc=>k (.tup c)
 | .opt b v=>Fc v λv=>k (.opt b v)
 | v=>k v
theorem Vu(v:SV)(k:SV->Prop):Ku v k=k v:=by
 unfold Ku;rw[KX];cases v <;> simp only[L0,KX]
def zp:List Nat->(List Nat->Prop)->Prop
 | [],k=>k []
 | n::r,k=>zp r λr=>k (n::r)
theorem Hr:∀(l:List Nat)(k:List Nat->Prop),zp l k=k l
 | [],k=>rfl
 | n::r,k=>by simp only[zp,Hr r]
def JE(b:Nm)(k:Nm->Prop):Prop:=match b with
 | .un=>k .un
 | .dead=>k .dead
 | .live b=>match b with
  | .cells E cs=>DI cs λcs=>k (.live (.cells E cs))
  | .row E t xs=>k (.live (.row E t xs))
  | .frz E t xs=>k (.live (.frz E t xs))
  | .mp kk vk l=>k (.live (.mp kk vk l))
  | .opn E t xs i cs=>DI cs λcs=>k (.live (.opn E t xs i cs))
  | .ary E kk n xs=>k (.live (.ary E kk n xs))
theorem Q0(b:Nm)(k:Nm->Prop):JE b k=k b:=by
 cases b with
 | live b=>cases b <;> simp only[JE,L0]
 | _=>rfl
def F3:List SV->Nat->SV->(List SV->Prop)->Prop
 | [],_,_,k=>k []
 | _::xs,0,v,k=>k (v::xs)
 | x::xs,n+1,v,k=>F3 xs n v λys=>k (x::ys)
theorem R5:∀(l:List SV)(n:Nat)(v:SV)(k:List SV->Prop),F3 l n v k=k (l.set n v)
 | [],n,v,k=>by simp[F3]
 | x::xs,0,v,k=>rfl
 | x::xs,n+1,v,k=>by simp only[F3,R5 xs,List.set_cons_succ]
def Jy:List (Nat×Nm)->List (Nat×Nm)->(List (Nat×Nm)->Prop)->Prop
 | [],H,k=>k H
 | (n,b)::r,H,k=>Jy r H λH'=>JE b λb'=>k ((n,b')::H')
theorem RO:∀(u H:List (Nat×Nm))(k:List (Nat×Nm)->Prop),Jy u H k=k (u++H)
 | [],H,k=>rfl
 | (n,b)::r,H,k=>by simp only[Jy,RO r,Q0,nO]
def t8(S:St)(dst:Option Tmp)(v:SV)(upd:List (Nat×Nm))(k:St->Prop):Prop:=match S with
 | ⟨sl,H⟩=>Jy upd H λH=>match dst with
  | some d=>Ku v λv=>F3 sl d v λsl=>k ⟨sl,H⟩
  | none=>k ⟨sl,H⟩
theorem al7(S:St)(dst:Option Tmp)(v:SV)(a:List (Nat×Nm))(k:St->Prop):t8 S dst v a k=k ⟨ma S.sl dst v,a++S.H⟩:=by
 unfold t8
 simp only
 rw[RO]
 cases dst with
 | none=>rfl
 | some d=>simp only[Vu,R5,ma]
def Au{X:Type}(x:X):List (Nat×(X->Nm))->List (Nat×Nm)
 | []=>[]
 | (n,f)::r=>(n,f x)::Au x r
theorem Vy{X:Type}(x:X):∀(u:List (Nat×(X->Nm))),Au x u=u.map λp=>(p.1,p.2 x)
 | []=>rfl
 | (n,f)::r=>by simp[Au,Vy x r]
def G8(dst:Option Tmp)(S:St)(k:St->Prop):jR->Prop
 | .go (.det pre v upd)=>sM pre (t8 S dst v upd k)
 | .go (.nd X qn pre R _ v upd)=>sM pre (qn.all λx=>R x->t8 S dst (v x) (Au x upd) k)
 | .split g (.det pre v upd)=>au g (sM pre (t8 S dst v upd k)) (t8 S dst (.cv undef) [] k)
 | .split g (.nd X qn pre R _ v upd)=>au g (sM pre (qn.all λx=>R x->t8 S dst (v x) (Au x upd) k)) (t8 S dst (.cv undef) [] k)
theorem MR{dst:Option Tmp}{S:St}{k:St->Prop}{o:jR}(h:G8 dst S k o):o.pre∧∀ e,ny o dst S.fs e→∃ f,f.fs=e/\k f:=by
 have l:∀ v u,t8 S dst v u k→∃ f:St,f.fs=⟨ma S.sl dst v,dA u (eM S.H)⟩/\k f:=λv u r=>by
  rw[al7] at r;exact⟨_,by simp only[St.fs,bf6],r⟩
 have m:∀{X:Type}{j:Qn X}{R:X->Prop}{v:X->SV}{a:List (Nat×(X->Nm))},(j.all λx=>R x->t8 S dst (v x) (Au x a) k)→∀(x:X),R x →
   ∃ f:St,f.fs=⟨ma S.sl dst (v x),dA (a.map λp=>(p.1,p.2 x)) (eM S.H)⟩/\k f:=λ{X j R v a} c x n=>by
  have:=j.hall _ c x n;rw[Vy] at this;exact l _ _ this
 cases o with
 | go d =>
  cases d with
  | det pre v a =>
   obtain⟨i,c⟩:=A0.1 h;exact⟨i,by rintro e ⟨x,_,rfl⟩;exact l _ _ c⟩
  | nd X j pre R q v a =>
   obtain⟨i,c⟩:=A0.1 h;refine⟨i,?_⟩;rintro e ⟨x,n,rfl⟩;exact m c x n
 | split g d =>
  cases d with
  | det pre v a =>
   cases g with
   | true =>
    obtain⟨i,c⟩:=A0.1 (show sM pre (t8 S dst v a k) from h);exact⟨λ_=>i,by rintro e (⟨_,x,_,rfl⟩|⟨b,_⟩);exact l _ _ c;cases b⟩
   | false =>
    exact⟨λb=>(by cases b),by rintro e (⟨b,_⟩|⟨_,rfl⟩);cases b;exact l (.cv undef) [] h⟩
  | nd X j pre R q v a =>
   cases g with
   | true =>
    obtain⟨i,c⟩:=A0.1 (show sM pre (j.all λx=>R x->t8 S dst (v x) (Au x a) k) from h);refine⟨λ_=>i,?_⟩;rintro e (⟨_,x,n,rfl⟩|⟨b,_⟩)
    .exact m c x n
    .cases b
   | false =>
    exact⟨λb=>(by cases b),by rintro e (⟨b,_⟩|⟨_,rfl⟩);cases b;exact l (.cv undef) [] h⟩
def Lq(v:SV)(k:SV->Prop):Prop:=match v with
 | .int c e=>∀ n:Int,n=e->k (.int c n)
 | .bool e=>∀ b:Bool,b=e->k (.bool b)
 | .opt g v=>match v with
  | .int c e=>∀ n:Int,n=e->k (.opt g (.int c n))
  | .bool e=>∀ b:Bool,b=e->k (.opt g (.bool b))
  | v=>k (.opt g v)
 | v=>k v
theorem bt2{v:SV}{k:SV->Prop}(h:Lq v k):k v:=by
 unfold Lq at h
 grind
def OP:List SV->Nat->(List SV->Prop)->Prop
 | [],_,k=>k []
 | v::l,0,k=>Lq v λv=>k (v::l)
 | v::l,n+1,k=>OP l n λl=>k (v::l)
theorem XX:∀{l:List SV}{n:Nat}{k:List SV->Prop},OP l n k->k l
 | [],_,k,h=>h
 | v::l,0,k,h=>bt2 (v:=v) h
 | v::l,n+1,k,h=>XX (l:=l) h
def JG(gs:List Nat)(dst:Option Tmp)(k:St->Prop)(S:St):Prop:=match dst with
 | some d=>match qy d gs with
  | true=>match S with
   | ⟨sl,H⟩=>OP sl d λsl=>k ⟨sl,H⟩
  | false=>k S
 | none=>k S
theorem TD{gs:List Nat}{dst:Option Tmp}{k:St->Prop}{S:St}(h:JG gs dst k S):k S:=by
 unfold JG at h
 split at h
 .split at h
  .exact XX h
  .exact h
 .exact h
def Bt(all:List Oper):List Oper->List Nat
 | []=>[]
 | o::l=>match o.guard with
  | some (j,_)=>match oX all j with
   | some oj=>match oj.dst with
    | some d=>match qy d (Bt all l) with
     | true=>Bt all l
     | false=>d::Bt all l
    | none=>Bt all l
   | none=>Bt all l
  | none=>Bt all l
def GX(P:Program)(sp:fx)(all:List Oper)(gs:List Nat)(k:St->Prop):List Oper->St->Prop
 | [],S=>k S
 | o::l,S=>match (pb P sp all o S.sl).run (eM S.H) with
  | some (st,_)=>G8 o.dst S (JG gs o.dst (GX P sp all gs k l)) st
  | none=>False
def P5:SV->SV->Option (List Prop)
 | .int k n,.int k' m=>match j8 k k' with
  | true=>some [n=m]
  | false=>none
 | .bool b,.bool c=>some [b=c]
 | .str b,.str c=>some [b=c]
 | .dsl t xs,.dsl t' ys=>match iK t' t ys with
  | some zs=>some [xs=zs]
  | none=>none
 | .dsx t xs,.dsx t' ys=>match iK t' t ys with
  | some zs=>some [xs=zs]
  | none=>none
 | .nilsl,.nilsl=>some []
 | .nilp,.nilp=>some []
 | .own n s,.own m z=>match Nat.beq n m,Nat.beq s z with
  | true,true=>some []
  | _,_=>none
 | .ptr n s,.ptr m z=>match Nat.beq n m,Nat.beq s z with
  | true,true=>some []
  | _,_=>none
 | _,_=>none
theorem aT2{u v:SV}{ps:List Prop}(h:P5 u v=some ps)(a:bS ps):u=v:=by
 unfold P5 at h
 split at h
 .split at h
  next hk=>cases kK hk;cases h;rw[a.1]
  .cases h
 .cases h;rw[a.1]
 .cases h;rw[a.1]
 .split at h
  next zs hc=>obtain⟨b,c⟩:=lq hc;subst b;subst c;cases h;rw[a.1]
  .cases h
 .split at h
  next zs hc=>obtain⟨b,c⟩:=lq hc;subst b;subst c;cases h;rw[a.1]
  .cases h
 .rfl
 .rfl
 .split at h
  .simp_all
  .cases h
 .split at h
  .simp_all
  .cases h
 .cases h
def DE:List Nat->List Nat->Bool
 | [],[]=>true
 | a::l,b::m=>Nat.beq a b&&DE l m
 | _,_=>false
theorem JZ:∀{l m:List Nat},DE l m=true->l=m
 | [],[],_=>rfl
 | a::l,b::m,h=>by
  simp only[DE,fe] at h;rw[bK h.1,JZ h.2]
def H2:List Nat->List Nat->Bool
 | [],_=>true
 | a::l,m=>qy a m&&H2 l m
theorem WV:∀{l m:List Nat},H2 l m=true→∀ n∈l,n∈m
 | a::l,m,h,n,c=>by
  simp only[H2,fe] at h;rcases eZ.1 c with rfl|c
  .exact zX.1 h.1
  .exact WV h.2 n c
def GH:jR->Option SV
 | .go (.det [] v [])=>some v
 | _=>none
theorem PW{a:jR}{v:SV}(h:GH a=some v):a = .go (.det [] v []):=by
 unfold GH at h
 grind
def Mn:jR->Option (List (Nat×Nm))
 | .go (.det _ _ u)=>some u
 | _=>none
theorem bO0{a:jR}{u:List (Nat×Nm)}(h:Mn a=some u):∃ p v,a = .go (.det p v u):=by
 unfold Mn at h
 grind
def KF(t:qA)(v:SV)(h:bX):Option (List Prop):=match t.q.run h with
 | some (st,r)=>match GH st with
  | some v1=>match DE r t.rd with
   | true=>P5 v1 v
   | false=>none
  | none=>none
 | none=>none
def KL(s t:qA):Option (List Prop):=match Mn s.st,GH t.st with
 | some u,some v=>match H2 t.rd s.wr with
  | true=>match KF t v s.old,KF t v (dA u s.old) with
   | some p,some q=>some (p++q)
   | _,_=>none
  | false=>none
 | _,_=>none
def Oi(s t:qA):Option (List Prop):=match qR s.wr t.wr&&qR s.swr t.srd&&qR s.swr t.swr&&qR t.swr s.srd with
 | true=>match (match qR s.wr t.rd with|true=>some []|false=>KL s t),(match qR t.wr s.rd with|true=>some []|false=>KL t s) with
  | some p,some q=>some (p++q)
  | _,_=>none
 | false=>none
def E6(msk:List Nat)(i:Nat)(t:qA):rH->Option (List Prop)
 | []=>some []
 | (j,s)::r=>match DR msk j i||LM s t with
  | true=>E6 msk i t r
  | false=>match Oi s t with
   | some ps=>match E6 msk i t r with
    | some qs=>some (ps++qs)
    | none=>none
   | none=>none
theorem TA{t:qA}{v:SV}{h:bX}{ps:List Prop}(e:KF t v h=some ps)(hp:bS ps):t.q.run h=some (.go (.det [] v []),t.rd):=by
 unfold KF at e
 split at e
 next st r hr=>
  split at e
  .rename_i v1 h1;split at e
   next h2=>rw[hr,PW h1,JZ h2,aT2 e hp]
   .cases e
  .cases e
 .cases e
theorem Tn{s t:qA}{ps:List Prop}(e:KL s t=some ps)(hp:bS ps):KU s t:=by
 unfold KL at e
 split at e
 next u v hu hv=>
  split at e
  .rename_i hs;split at e
   .rename_i p q h1 h2;cases e;obtain⟨c1,c2⟩:=rQ.1 hp;obtain⟨pre,v0,a⟩:=bO0 hu;refine⟨pre,v0,u,a,WV hs,?_,?_⟩
    .rw[PW hv];exact TA h1 c1
    .rw[PW hv];exact TA h2 c2
   .cases e
  .cases e
 .cases e
theorem av2{s t:qA}{ps:List Prop}(e:Oi s t=some ps)(hp:bS ps):wS s t:=by
 unfold Oi at e
 split at e
 next b=>
  simp at b;obtain⟨⟨⟨b1,b2⟩,b3⟩,b4⟩:=b;split at e
  .rename_i p q h1 h2;cases e;obtain⟨c1,c2⟩:=rQ.1 hp;refine⟨?_,sY b1,?_,sY b2,sY b3,sY b4⟩
   .split at h1
    next a=>exact .inl (sY a)
    .exact .inr (Tn h1 c1)
   .split at h2
    next a=>exact .inl (sY a)
    .exact .inr (Tn h2 c2)
  .cases e
 .cases e
theorem NN{msk:List Nat}{i:Nat}{t:qA}:∀{l:rH}{ps:List Prop},E6 msk i t l=some ps->bS ps->HM msk i t l
 | [],_,_,_=>λp b=>by cases b
 | (j,s)::r,ps,e,b=>by
  simp only[E6] at e;split at e
  .rename_i c;intro p a;rcases eZ.1 a with rfl|a
   .simp at c;exact c.imp id ac5
   .exact NN e b p a
  .split at e
   .rename_i p1 h1;split at e
    .rename_i q h2;cases e;obtain⟨c1,c2⟩:=rQ.1 b;intro p a;rcases eZ.1 a with rfl|a
     .exact .inr (av2 h1 c1)
     .exact NN h2 c2 p a
    .cases e
   .cases e
def Ij(P:Program)(sp:fx)(ops:Array Oper)(gs:List Nat)(msk:List Nat)(k:St->Prop):List Oper->Nat->rH->St->Prop
 | [],_,_,S=>k S
 | o::l,i,log,S=>match (pb P sp ops.toList o S.sl).run (eM S.H) with
  | some (st,r)=>zp r λr=>zp st.wr λwr=>zp (o.looksAt ops) λlk=>match E6 msk i ⟨r,wr,lk,yE o.dst,pb P sp ops.toList o S.sl,st,wX wr (eM S.H)⟩ log with
   | some ps=>sM ps (G8 o.dst S (JG gs o.dst (Ij P sp ops gs msk k l (i+1) ((i,⟨r,wr,lk,yE o.dst,pb P sp ops.toList o S.sl,st,wX wr (eM S.H)⟩)::log))) st)
   | none=>False
  | none=>False
def O8(P:Program)(sp:fx)(nms:List Nat)(ops:Array Oper)(draw:Bool)(k:St->Prop)(S:St):Prop :=
 zp (Bt ops.toList ops.toList++nms) λgs=>match draw with
 | false=>GX P sp ops.toList gs k ops.toList S
 | true=>match Dc 0 ops.toList with
  | true=>zp (EW ops.toList []) λmsk=>Ij P sp ops gs msk k ops.toList 0 [] S
  | false=>False
section
variable {P:Program} {sp:fx} {ops:Array Oper} {gs nms:List Nat} {msk:List Nat} {w0:World} {N0:fK} {Q:Exit->Act->World->Prop} {k:St->Prop}
theorem Sh:∀(l:List Oper)(i:Nat)(log:rH)(S:St),(∀ j,l[j]? = ops[i+j]?)->Ij P sp ops gs msk k l i log S →
  zq P sp ops msk (λF=>∃ a,St.fs a=F/\k a) l i log S.fs
 | [],i,log,S,_,h=>⟨S,rfl,h⟩
 | o::l,i,log,S,d,h=>by
  have h0:ops[i]? = some o:=by simpa using (d 0).symm
  simp only[Ij] at h;simp only[zq];unfold vD;rw[h0];split at h
  .rename_i st r hr;simp only[Hr] at h;split at h
   next ps b=>obtain⟨c,h⟩:=A0.1 h;obtain⟨h1,h2⟩:=MR h;refine⟨st,r,hr,h1,NN b c,λF' hF=>?_⟩;obtain⟨a,rfl,h3⟩:=h2 F' hF;exact Sh l (i+1) _ a (λj=>by have:=d (j+1);simpa[iz,wF 1 j] using this) (TD h3)
   .exact h.elim
  .exact h.elim
theorem XN{ro:Option Nat}(hs:jF P sp/\N0.g=sp.gl){A1:Nat->Prop}{env1:bj}{w1:World}
  (hQ:∀ S' A' env' a' w',k S'→hV w0 N0 A' env' (St.fs S') a' w'→dH A1 env1 w1 A' env' w'→Q .normal a' w') :
  ∀(l:List Oper)(i:Nat)(S:St)(A:Nat->Prop)(env:bj)(a:Act)(w:World),(∀ j,l[j]? = ops[i+j]?)->GX P sp ops.toList gs k l S->hV w0 N0 A env S.fs a w->dH A1 env1 w1 A env w →
   wpOpsIn (wf ro) 0 P ops Q (List.range' i l.length) a w
 | [],i,S,A,env,a,w,_,h,t,x=>hQ _ _ _ _ _ h t x
 | o::l,i,S,A,env,a,w,hl,h,t,x=>by
  have h0:ops[i]? = some o:=by simpa using (hl 0).symm
  simp only[GX] at h;rw[dP,List.range'_succ,wpOpsIn_cons];unfold wpOpIn;simp only[h0];split at h
  next st r hr=>obtain⟨h1,h2⟩:=MR h;refine (OM hs t hr h1).2 ro _ _ λF' A' env' a' w' hF t' x'=>?_;obtain⟨S',rfl,h3⟩:=h2 F' hF;exact XN hs hQ l (i+1) S' A' env' a' w' (λj=>by have:=hl (j+1);simpa[iz,wF 1 j] using this) (TD h3) t' (x.trans x')
  .exact h.elim
theorem ao1{ro:Option Nat}(hs:jF P sp/\N0.g=sp.gl)(ij:P.follows .mixedOrders=true){id:Nat}{draw:Bool}{A:Nat->Prop}{env:bj}{S:St}{a:Act}{w:World}
  (t:hV w0 N0 A env S.fs a w) (h:O8 P sp nms ops draw k S)
  (hQ:∀ S' A' env' a' w',k S'→hV w0 N0 A' env' (St.fs S') a' w'→dH A env w A' env' w'→Q .normal a' w'):(Code.region id ops draw).wpIn (wf ro) 0 P Q a w:=by
 unfold O8 at h
 rw[Hr] at h
 cases draw with
 | false =>
  refine wpIn_region ?_;have:=XN (ro:=ro) (ops:=ops) hs hQ ops.toList 0 S A env a w aw h t dH.refl;rw[List.range_eq_range'];simpa using this
 | true =>
  simp only at h;split at h
  next hlex=>rw[Hr] at h;refine aj5 (K:=λF=>∃ S',St.fs S'=F/\k S') (msk:=EW ops.toList []) hs ij (λ_=>⟨hlex,rfl⟩) t (Sh ops.toList 0 [] S aw h) ?_;rintro F' A' env' a' w' ⟨S',rfl,hk⟩ t' x';exact hQ S' A' env' a' w' hk t' x'
  .exact h.elim
end
end Go.SX
namespace Go.SX
def PN:Nat:=1048576
def QN:Nat:=2097152
abbrev Rn:=List (Nat×Option Nat)
def cN:Rn->Nat->Option (Option Nat)
 | [],_=>none
 | (m,x)::r,n=>match Nat.beq n m with
  | true=>some x
  | false=>cN r n
def OW:Option Nat->Option Nat->Bool
 | none,none=>true
 | some a,some b=>Nat.beq a b
 | _,_=>false
theorem an7{a b:Option Nat}(h:OW a b=true):a=b:=by
 cases a <;> cases b <;> simp only[OW,GC] at h
 .rfl
 .simp_all
def CB(m:Nat):Rn->Bool
 | []=>false
 | (_,some k)::r=>Nat.beq m k||CB m r
 | (_,none)::r=>CB m r
def H8(c:Nat)(x:Option Nat)(R:Rn):Option Rn:=match cN R c with
 | some y=>match OW y x with
  | true=>some R
  | false=>none
 | none=>match x with
  | none=>some ((c,none)::R)
  | some m=>match CB m R with
   | true=>none
   | false=>some ((c,some m)::R)
def jx(R:Rn):Prop:=∀ c c' m,cN R c=some (some m)->cN R c'=some (some m)->c=c'
def fX(R R':Rn):Prop:=∀ n y,cN R n=some y->cN R' n=some y
theorem fX.refl{R:Rn}:fX R R:=λ_ _ h=>h
theorem fX.trans{a b c:Rn}(h:fX a b)(k:fX b c):fX a c:=λn y e=>k n y (h n y e)
theorem JQ{m:Nat}:∀{R:Rn},CB m R=false→∀ c,cN R c≠some (some m)
 | [],_,c=>by simp[cN]
 | (n,some k)::r,h,c=>by
  simp only[CB,Bool.or_eq_false_iff] at h;simp only[cN];split
  .intro e;cases e;rw[yr] at h;cases h.1
  .exact JQ h.2 c
 | (n,none)::r,h,c=>by
  simp only[CB] at h;simp only[cN];split
  .intro e;cases e
  .exact JQ h c
theorem sm{c n:Nat}{x:Option Nat}{R:Rn}:cN ((c,x)::R) n=if n=c then some x else cN R n:=by
 simp only[cN]
 by_cases h:n=c
 .subst h;simp
 .have:Nat.beq n c=false:=by
   cases hb:Nat.beq n c with
   | false=>rfl
   | true=>exact absurd (bK hb) h
  rw[this,ah h]
theorem Qt{c:Nat}{x:Option Nat}{R g:Rn}(h:H8 c x R=some g):cN g c=some x/\fX R g/\(jx R->jx g):=by
 unfold H8 at h
 split at h
 next y j=>
  split at h
  next d=>cases h;rw[an7 d] at j;exact⟨j,fX.refl,id⟩
  .cases h
 next hn=>
  have l:∀ y,fX R ((c,y)::R):=λy n z i=>by
   rw[sm,ah (λe=>by rw[e,hn] at i;cases i)];exact i
  split at h
  .cases h;refine⟨by rw[sm,aj rfl],l _,λhi a b m f d=>?_⟩;rw[sm] at f d;split at f
   .cases f
   .split at d
    .cases d
    .exact hi a b m f d
  .rename_i m;split at h
   .cases h
   .rename_i o;cases h;refine⟨by rw[sm,aj rfl],l _,λhi a b k f d=>?_⟩;rw[sm] at f d;split at f
    .rename_i ea;cases f;split at d
     next eb=>rw[ea,eb]
     .exact absurd d (JQ o b)
    .split at d
     .cases d;exact absurd f (JQ o a)
     .exact hi a b k f d
def jJ(R:Rn)(env:bj):bj:=λn=>match cN R n with
 | some (some m)=>env m
 | some none => .nil
 | none => .un
theorem wO{R:Rn}{env:bj}{c m:Nat}(h:cN R c=some (some m)):jJ R env c=env m:=by unfold jJ;rw[h]
theorem Et{R:Rn}{env:bj}{c:Nat}(h:cN R c=some none):jJ R env c = .nil:=by unfold jJ;rw[h]
def qT(p:Prop)(R:Rn):Option (Rn×List Prop):=some (R,[p])
def zP(c:Nat)(x:Option Nat)(ps:List Prop)(R:Rn):Option (Rn×List Prop):=match H8 c x R with
 | some R'=>some (R',ps)
 | none=>none
def Il(v u:SV)(R:Rn):Option (Rn×List Prop):=match v,u with
 | .junk,_=>some (R,[])
 | .int k n,.int k' m=>match j8 k k' with
  | true=>qT (m=n) R
  | false=>none
 | .bool b,.bool c=>qT (c=b) R
 | .str b,.str c=>qT (c=b) R
 | .dsl t xs,.dsl t' ys=>match iK t' t ys with
  | some zs=>qT (zs=xs) R
  | none=>none
 | .dsl t xs,.dsx t' ys=>match iK t' t ys with
  | some zs=>qT (zs=xs) R
  | none=>none
 | .dsl t xs,.nilsl=>qT (xs=[]) R
 | .dsx t xs,.dsx t' ys=>match iK t' t ys with
  | some zs=>qT (zs=xs) R
  | none=>none
 | .nilsl,.nilsl=>some (R,[])
 | .own c sz,.own d sz'=>match Nat.beq sz sz' with
  | true=>zP c (some d) [] R
  | false=>none
 | .own c sz,.nilsl=>zP c none [] R
 | .ptr c o,.ptr d o'=>match Nat.beq o o' with
  | true=>zP c (some d) [] R
  | false=>none
 | .eptr c sz i o,.eptr d sz' i' o'=>match Nat.beq sz sz',Nat.beq o o' with
  | true,true=>zP c (some d) [i'=i] R
  | _,_=>none
 | .csl c k,.csl d k'=>match Nat.beq k k' with
  | true=>zP c (some d) [] R
  | false=>none
 | .mapp c,.mapp d=>zP c (some d) [] R
 | .arr k n xs,.arr k' m ys=>match j8 k k',Nat.beq n m with
  | true,true=>qT (ys=xs) R
  | _,_=>none
 | .nilp,.nilp=>some (R,[])
 | .fn f [],.fn g []=>match Nat.beq f g with
  | true=>some (R,[])
  | false=>none
 | .cv x,.cv y=>qT (y=x) R
 | _,_=>none
def A4:List SV->List SV->Rn->Option (Rn×List Prop)
 | [],[],R=>some (R,[])
 | v::vs,u::us,R=>match Il v u R with
  | some (R1,p)=>match A4 vs us R1 with
   | some (R2,q)=>some (R2,p++q)
   | none=>none
  | none=>none
 | _,_,_=>none
def M8(v u:SV)(R:Rn):Option (Rn×List Prop):=match v,u with
 | .agg cs,.agg ds=>A4 cs ds R
 | .fn f cs,.fn g ds=>match Nat.beq f g with
  | true=>A4 cs ds R
  | false=>none
 | .yld r ts cs,.yld r' ts' ds=>match DE ts ts',A4 cs ds R with
  | true,some (R',ps)=>some (R',(r'=r)::ps)
  | _,_=>none
 | v,u=>Il v u R
def PE(b b0:lC)(R:Rn):Option (Rn×List Prop):=match b,b0 with
 | .cells E cs,.cells E' ds=>match Nat.beq E E' with
  | true=>A4 cs ds R
  | false=>none
 | .row E t xs,.row E' t' ys=>match Nat.beq E E',iK t' t ys with
  | true,some zs=>qT (zs=xs) R
  | _,_=>none
 | .frz E t xs,.frz E' t' ys=>match Nat.beq E E',iK t' t ys with
  | true,some zs=>qT (zs=xs) R
  | _,_=>none
 | .ary E k n xs,.ary E' k' m ys=>match Nat.beq E E',j8 k k',Nat.beq n m with
  | true,true,true=>qT (ys=xs) R
  | _,_,_=>none
 | .mp kk vk l,.mp kk' vk' l'=>match j8 kk kk',j8 vk vk' with
  | true,true=>qT (l'=l) R
  | _,_=>none
 | _,_=>none
section
variable {A:Nat->Prop} {env:bj} {w:World}
theorem CU{c:Nat}{x:Option Nat}{ps d:List Prop}{R e:Rn}(h:zP c x ps R=some (e,d)):cN e c=some x/\fX R e/\(jx R->jx e)/\d=ps:=by
 unfold zP at h
 split at h
 next R1 h1=>cases h;obtain⟨a,b,c⟩:=Qt h1;exact⟨a,b,c,rfl⟩
 .cases h
theorem F1{p:Prop}{a:List Prop}{R b:Rn}(h:qT p R=some (b,a)):b=R/\(bS a->p):=by
 cases h;exact⟨rfl,λh=>h.1⟩
theorem VY{v u:SV}{R i:Rn}{ps:List Prop}(h:Il v u R=some (i,ps)) :
  fX R i/\(jx R->jx i)/\(bS ps→∀ b,fX i b→∀ x,az A env w u x->az A (jJ b env) w v x):=by
 have c:∀{p:Prop},qT p R=some (i,ps)->(p→∀ b:Rn,fX i b→∀ x,az A env w u x->az A (jJ b env) w v x) →
   fX R i/\(jx R->jx i)/\(bS ps→∀ b,fX i b→∀ x,az A env w u x->az A (jJ b env) w v x):=λe f=>by
  obtain⟨rfl,hp⟩:=F1 e;exact⟨fX.refl,id,λh=>f (hp h)⟩
 have g:some (R,([]:List Prop))=some (i,ps)->(∀ b:Rn,∀ x,az A env w u x->az A (jJ b env) w v x) →
   fX R i/\(jx R->jx i)/\(bS ps→∀ b,fX i b→∀ x,az A env w u x->az A (jJ b env) w v x):=λe f=>by
  cases e;exact⟨fX.refl,id,λ_ b _=>f b⟩
 unfold Il at h
 split at h
 .exact g h λb x _=>by simp only[az]
 .split at h
  next r=>cases kK r;exact c h λe b _ x a=>by subst e;simpa only[az] using a
  .cases h
 .exact c h λe b _ x a=>by subst e;simpa only[az] using a
 .exact c h λe b _ x a=>by subst e;simpa only[az] using a
 .split at h
  next zs o=>obtain⟨q,n⟩:=lq o;subst q;exact c h λe b _ x a=>by simp only at n;subst n;subst e;simpa only[az] using a
  .cases h
 .split at h
  next zs o=>obtain⟨q,n⟩:=lq o;subst q;exact c h λe b _ x a=>by simp only at n;subst n;subst e;exact a.1
  .cases h
 .exact c h λe b _ x a=>by subst e;subst a;exact⟨aw,.inl ⟨⟨_,rfl⟩,rfl⟩⟩
 .split at h
  next zs o=>obtain⟨q,n⟩:=lq o;subst q;exact c h λe b _ x a=>by simp only at n;subst n;subst e;simpa only[az] using a
  .cases h
 .exact g h λb x a=>by simpa only[az] using a
 .split at h
  next d=>have d:=bK d;subst d;obtain⟨j,k,l,rfl⟩:=CU h;refine⟨k,l,λ_ b m x a=>?_⟩;simp only[az] at a ⊢;rw[wO (m _ _ j)];exact a
  .cases h
 .obtain⟨j,k,l,rfl⟩:=CU h;refine⟨k,l,λ_ b m x a=>?_⟩;exact .inl ⟨Et (m _ _ j),_,a⟩
 .split at h
  next d=>have d:=bK d;subst d;obtain⟨j,k,l,rfl⟩:=CU h;refine⟨k,l,λ_ b m x a=>?_⟩;simp only[az] at a ⊢;rw[wO (m _ _ j)];exact a
  .cases h
 .split at h
  next d s=>have d:=bK d;have s:=bK s;subst d s;obtain⟨j,k,l,rfl⟩:=CU h;refine⟨k,l,λo b m x a=>?_⟩;have hi:=o.1;subst hi;simp only[az] at a ⊢;rw[wO (m _ _ j)];exact a
  .cases h
 .split at h
  next d=>have d:=bK d;subst d;obtain⟨j,k,l,rfl⟩:=CU h;refine⟨k,l,λ_ b m x a=>?_⟩;simp only[az] at a ⊢;rw[wO (m _ _ j)];exact a
  .cases h
 .obtain⟨j,k,l,rfl⟩:=CU h;refine⟨k,l,λ_ b m x a=>?_⟩;simp only[az] at a ⊢;rw[wO (m _ _ j)];exact a
 .split at h
  next r hn=>cases kK r;cases bK hn;exact c h λe b _ x a=>by subst e;simpa only[az] using a
  .cases h
 .exact g h λb x a=>by simpa only[az] using a
 .split at h
  next d=>have d:=bK d;subst d;exact g h λb x a=>by simp only[az,aO] at a ⊢;exact a
  .cases h
 .exact c h λe b _ x a=>by subst e;simpa only[az] using a
 .cases h
theorem FF:∀{vs d:List SV}{R a:Rn}{ps:List Prop},A4 vs d R=some (a,ps) →
  fX R a/\(jx R->jx a)/\(bS ps→∀ b,fX a b→∀ xs,aO A env w d xs->aO A (jJ b env) w vs xs)
 | [],[],R,a,ps,h=>by
  cases h;exact⟨fX.refl,id,λ_ b _ xs c=>by simpa only[aO] using c⟩
 | v::vs,u::d,R,a,ps,h=>by
  simp only[A4] at h;split at h
  .rename_i R1 p h1;split at h
   next R2 q h2=>cases h;obtain⟨a1,a2,a3⟩:=VY h1;obtain⟨e,b2,b3⟩:=FF h2;refine⟨a1.trans e,λh=>b2 (a2 h),λhc b f xs c=>?_⟩;obtain⟨c1,c2⟩:=rQ.1 hc;obtain⟨x,r,rfl,c,hr⟩:=c;exact⟨x,r,rfl,a3 c1 b (e.trans f) x c,b3 c2 b f r hr⟩
   .cases h
  .cases h
theorem a38{v u:SV}{R e:Rn}{ps:List Prop}(h:M8 v u R=some (e,ps)) :
  fX R e/\(jx R->jx e)/\(bS ps→∀ a,fX e a→∀ x,az A env w u x->az A (jJ a env) w v x):=by
 unfold M8 at h
 split at h
 .obtain⟨b,c,i⟩:=FF (A:=A) (env:=env) (w:=w) h;refine⟨b,c,λf a j x d=>?_⟩;simp only[az] at d ⊢;grind
 .split at h
  next g=>have g:=bK g;obtain⟨b,c,i⟩:=FF (A:=A) (env:=env) (w:=w) h;refine⟨b,c,λf a j x d=>?_⟩;simp only[az] at d ⊢;grind
  .cases h
 .split at h
  next g hr=>cases JZ g;cases h;obtain⟨b,c,i⟩:=FF (A:=A) (env:=env) (w:=w) hr;refine⟨b,c,λf a j x d=>?_⟩;obtain⟨e0,f⟩:=f;simp only[az] at d ⊢;grind
  .cases h
 .exact VY h
theorem by9{b b0:lC}{R i:Rn}{ps:List Prop}(h:PE b b0 R=some (i,ps)) :
  fX R i/\(jx R->jx i)/\b.mut=b0.mut/\(bS ps→∀ d,fX i d→∀ k len,kg A env w k len b0->kg A (jJ d env) w k len b) ∧
   (bS ps→∀ E t,b0 = .row E t []∨b0 = .frz E t []→∃ E t,b = .row E t []∨b = .frz E t []):=by
 unfold PE at h
 split at h
 .split at h
  next a=>have a:=bK a;subst a;obtain⟨a1,a2,a3⟩:=FF h;refine⟨a1,a2,rfl,λc d g k len ⟨vs,e,hd⟩=>⟨vs,e,a3 c d g _ hd⟩,λ_ E t j=>?_⟩;simp_all
  .cases h
 .split at h
  next zs a c=>have a:=bK a;subst a;obtain⟨l,m⟩:=lq c;subst l;subst m;obtain⟨rfl,f⟩:=F1 h;refine⟨fX.refl,id,rfl,λc d g k len a=>by rw[← f c];exact a,λc E t j=>?_⟩;simp_all
  .cases h
 .split at h
  next zs a c=>have a:=bK a;subst a;obtain⟨l,m⟩:=lq c;subst l;subst m;obtain⟨rfl,f⟩:=F1 h;refine⟨fX.refl,id,rfl,λc d g k len a=>by rw[← f c];exact a,λc E t j=>?_⟩;simp_all
  .cases h
 .split at h
  .rename_i n h2 h3;cases bK n;cases kK h2;cases bK h3;obtain⟨rfl,f⟩:=F1 h;refine⟨fX.refl,id,rfl,λc d g k len a=>?_,λc E t j=>?_⟩
   .obtain⟨b1,b2,vs,b3,o⟩:=a;rw[← f c];exact⟨b1,b2,vs,b3,Mc (zx o).2 |> λq=>by rw[(zx o).1];exact q⟩
   .simp_all
  .cases h
 .split at h
  next n h2=>cases kK n;cases kK h2;obtain⟨rfl,f⟩:=F1 h;refine⟨fX.refl,id,rfl,λc d g k len a=>by rw[← f c];exact a,λc E t j=>?_⟩;simp_all
  .cases h
 .cases h
end
def C0(R:Rn)(k:Rn->Prop):Prop:=match R with
 | []=>k []
 | (n,x)::r=>C0 r λr=>match x with
  | none=>k ((n,none)::r)
  | some m=>k ((n,some m)::r)
theorem IV:∀(R:Rn)(k:Rn->Prop),C0 R k=k R
 | [],k=>rfl
 | (n,none)::r,k=>by simp only[C0,IV r]
 | (n,some m)::r,k=>by simp only[C0,IV r]
def KM:List SV->List SV->Rn->(Rn->Prop)->Prop
 | [],[],R,k=>k R
 | v::vs,u::us,R,k=>match M8 v u R with
  | some (R',ps)=>C0 R' λR'=>sM ps (KM vs us R' k)
  | none=>False
 | _,_,_,_=>False
def KC(H:List (Nat×Nm))(c m:Nat)(b:lC)(R:Rn)(k:Rn->Prop):Prop:=match eM H m with
 | .live b0=>match PE b b0 R with
  | some (R',ps)=>C0 R' λR'=>sM ps (k R')
  | none=>False
 | _=>False
def AP(H:List (Nat×Nm)):List (Nat×Nm)->Rn->(Rn->Prop)->Prop
 | [],R,k=>k R
 | (c,b)::r,R,k=>match b with
  | .live b=>match cN R c with
   | some (some m)=>KC H c m b R λR'=>AP H r R' k
   | some none=>match b with
    | .row _ _ xs=>xs=[]/\AP H r R k
    | _=>False
   | none=>match H8 c (some c) R with
    | some R1=>KC H c c b R1 λR'=>AP H r R' k
    | none=>False
  | _=>False
def Fr(n:Nat):List (Nat×Nm)->Bool
 | []=>false
 | (m,_)::r=>Nat.beq n m||Fr n r
def HK(Hh:List (Nat×Nm)):Rn->Bool
 | []=>true
 | (c,_)::r=>Fr c Hh&&HK Hh r
def H3(R:Rn):List (Nat×Nm)->Bool
 | []=>true
 | (n,_)::r=>(Nat.blt n PN||Nat.ble QN n||(match cN R n with|some (some m)=>Nat.beq m n|_=>false))&&H3 R r
def enter(S T:St):Prop:=KM T.sl S.sl [] λR=>AP S.H T.H R λR=>match HK T.H R,H3 R S.H with
 | true,true=>True
 | _,_=>False
theorem TR{n:Nat}:∀{H:List (Nat×Nm)},Fr n H=true↔n∈H.map (·.1)
 | []=>by simp[Fr]
 | (m,b)::r=>by
  simp only[Fr,sD,fV,eZ,TR];simp_all
theorem Va{b:List (Nat×Nm)}:∀{R:Rn},HK b R=true→∀ c,cN R c≠none->c∈b.map (·.1)
 | (n,x)::r,h,c,a=>by
  simp only[HK,fe] at h;rw[sm] at a;split at a
  next e=>rw[e];exact TR.1 h.1
  .exact Va h.2 c a
theorem XR{R:Rn}:∀{H:List (Nat×Nm)},H3 R H=true→∀ n,PN<=n->n<QN->n∈H.map (·.1)->cN R n=some (some n)
 | (m,b)::r,h,n,hn,c,d=>by
  simp only[H3,fe,sD] at h;rcases eZ.1 d with e|d
  .have e:n=m:=e;subst e;rcases h.1 with (a|a)|a
   .have:=lZ a;omega
   .have:=lZ a;omega
   .split at a
    next k hk=>rw[hk,bK a]
    .cases a
  .exact XR h.2 n hn c d
theorem Mx{H:List (Nat×Nm)}{n:Nat}:eM H n = .un∨(n,eM H n)∈H:=by
 induction H with
 | nil=>exact .inl rfl
 | cons p r ih =>
  unfold eM;split
  .simp_all
  .grind
theorem QR{H:List (Nat×Nm)}{n:Nat}(h:n ∉ H.map (·.1)):eM H n = .un:=by
 rcases Mx with a|a
 .exact a
 .simp_all
structure sX (A:Nat->Prop) (env:bj) (w:World) (A':Nat->Prop) (env':bj) (w':World):Prop where
 imm:∀ b,A b->A' b
 envp:∀ n,PN<=n->n<QN->env n ≠ .un->env' n=env n
 keep:∀ b o,A b->w'.cell? ⟨b,o,none⟩=w.cell? ⟨b,o,none⟩
 shape:∀ b s,w.shape? b=some s->w'.shape? b=some s
theorem Ex1.ext0{y:Prop}{A:Nat->Prop}{env:bj}{w:World}{A':Nat->Prop}{env':bj}{w':World}(x:Ex1 y A env w A' env' w'):sX A env w A' env' w':=by
 refine⟨x.imm,λn _ _ hn=>?_,x.keep,x.shape⟩
 cases h:env n with
 | un=>exact absurd h hn
 | nil=>exact x.envn n h
 | blk b l=>exact x.envb n b l h
theorem dH.ext0{A:Nat->Prop}{env:bj}{w:World}{A':Nat->Prop}{env':bj}{w':World}(x:dH A env w A' env' w'):sX A env w A' env' w':=x.toEx1.ext0
theorem sX.trans{A A' d:Nat->Prop}{env env' a:bj}{w w' f:World}(h:sX A env w A' env' w')(k:sX A' env' w' d a f):sX A env w d a f :=
 ⟨λb g=>k.imm b (h.imm b g),λn i c e=>(k.envp n i c (by rw[h.envp n i c e];exact e)).trans (h.envp n i c e),
  λb o g=>(k.keep b o (h.imm b g)).trans (h.keep b o g),λb s e=>k.shape b s (h.shape b s e)⟩
section
variable {w0:World} {N0:fK} {A:Nat->Prop} {env:bj} {w:World} {a:Act}
theorem S6:∀{vs b:List SV}{R:Rn}{k:Rn->Prop},KM vs b R k →
  ∃ c,k c/\vs.length=b.length/\fX R c/\(jx R->jx c)∧∀ a,fX c a→∀ i x,az A env w (dW b i) x->az A (jJ a env) w (dW vs i) x
 | [],[],R,k,h=>⟨R,h,rfl,fX.refl,id,λa _ i x _=>by simp[dW,oX,az]⟩
 | v::vs,u::b,R,k,h=>by
  simp only[KM] at h;split at h
  .rename_i R1 ps h1;rw[IV] at h;obtain⟨hc,h2⟩:=A0.1 h;obtain⟨a1,a2,a3⟩:=a38 h1;obtain⟨R2,b1,b2,d,b4,b5⟩:=S6 h2;refine⟨R2,b1,by simp[b2],a1.trans d,λh=>b4 (a2 h),λa e i x f=>?_⟩;cases i with
   | zero=>exact a3 hc a (d.trans e) x f
   | succ i=>exact b5 a e i x f
  .exact h.elim
def z5(A:Nat->Prop)(env:bj)(w:World)(H:List (Nat×Nm))(R:Rn)(c:Nat)(x:Nm):Prop :=
 ∃ b,x = .live b/\((∃ m b0,cN R c=some (some m)/\eM H m = .live b0/\b.mut=b0.mut/\(∀ Rf,fX R Rf→∀ k len,kg A env w k len b0->kg A (jJ Rf env) w k len b) ∧
   (∀ E t,b0 = .row E t []∨b0 = .frz E t []→∃ E t,b = .row E t []∨b = .frz E t [])) ∨
  (cN R c=some none∧∃ E t,b = .row E t []))
theorem z5.mono{H:List (Nat×Nm)}{R f:Rn}{c:Nat}{x:Nm}(h:z5 A env w H R c x)(le:fX R f):z5 A env w H f c x:=by
 obtain⟨b,e,⟨m,b0,a,d,h3,h4,h5⟩|⟨a,d⟩⟩:=h
 .exact⟨b,e,.inl ⟨m,b0,le _ _ a,d,h3,λRf hf=>h4 Rf (le.trans hf),h5⟩⟩
 .exact⟨b,e,.inr ⟨le _ _ a,d⟩⟩
theorem RC{H:List (Nat×Nm)}{c m:Nat}{b:lC}{R:Rn}{k:Rn->Prop}(hl:cN R c=some (some m))(h:KC H c m b R k) :
  ∃ a,k a/\fX R a/\(jx R->jx a)/\z5 A env w H a c (.live b):=by
 unfold KC at h
 split at h
 next b0 h0=>
  split at h
  next a ps h1=>rw[IV] at h;obtain⟨d,h2⟩:=A0.1 h;obtain⟨e,a2,a3,a4,a5⟩:=by9 h1;exact⟨a,h2,e,a2,b,rfl,.inl ⟨m,b0,e _ _ hl,h0,a3,a4 d,a5 d⟩⟩
  .exact h.elim
 .exact h.elim
theorem SR{H:List (Nat×Nm)}:∀{s:List (Nat×Nm)}{R:Rn}{k:Rn->Prop},AP H s R k →
  ∃ a,k a/\fX R a/\(jx R->jx a)∧∀ c x,(c,x)∈s->z5 A env w H a c x
 | [],R,k,h=>⟨R,h,fX.refl,id,λc x i=>by simp at i⟩
 | (c,b)::r,R,k,h=>by
  simp only[AP] at h;split at h
  .rename_i b;have d:∀{g f:Rn},fX R g->(jx R->jx g)->fX g f->(jx g->jx f)->z5 A env w H f c (.live b)->AP H r f k →
     ∃ a,k a/\fX R a/\(jx R->jx a)∧∀ j x,(j,x)∈(c,Nm.live b)::r->z5 A env w H a j x:=by
    intro g f l1 i1 l2 i2 ok hr;obtain⟨R3,c1,u,c3,c4⟩:=SR hr;refine⟨R3,c1,(l1.trans l2).trans u,λh=>c3 (i2 (i1 h)),λj x i=>?_⟩;rcases eZ.1 i with e|i
    .cases e;exact ok.mono u
    .exact c4 j x i
   split at h
   next m l=>obtain⟨f,n,o,p,q⟩:=RC l h;exact d fX.refl id o p q n
   .rename_i l;split at h
    next E t xs=>obtain⟨rfl,h⟩:=h;exact d fX.refl id fX.refl id ⟨_,rfl,.inr ⟨l,E,t,rfl⟩⟩ h
    .exact h.elim
   .split at h
    next g h1=>obtain⟨a1,a2,a3⟩:=Qt h1;obtain⟨f,n,o,p,q⟩:=RC a1 h;exact d a2 a3 o p q n
    .exact h.elim
  .exact h.elim
theorem My{S T:St}(h:enter S T)(t:hV w0 N0 A env S.fs a w):∃ env',hV w0 N0 A env' T.fs a w/\sX A env w A env' w:=by
 obtain⟨R1,h1,v,l1,i1,d1⟩:=S6 h
 obtain⟨R,h2,l2,i2,L⟩:=SR h1
 have z:jx R:=i2 (i1 (λc c' m M=>by simp[cN] at M))
 split at h2
 next B hpar=>
  have m:=t.m;have C:∀ n,n ∉ T.H.map (·.1)->cN R n=none:=λn g=>by
   cases hl:cN R n with
   | none=>rfl
   | some y=>exact absurd (Va B n (by rw[hl];simp)) g
  have live:∀ n b,T.fs.h n = .live b->z5 A env w S.H R n (.live b):=λn b d=>by
   rcases Mx with h|h
   .simp only[St.fs] at d;rw[h] at d;cases d
   .simp only[St.fs] at d;rw[d] at h;exact L n _ h
  have hmut:∀ n b k l,T.fs.h n = .live b->b.mut=true->jJ R env n = .blk k l→∃ m b0,cN R n=some (some m)/\eM S.H m = .live b0/\b0.mut=true/\env m = .blk k l:=by
   intro n b k l d D he;obtain⟨b',e,⟨F,b0,o,r,u,_⟩|⟨o,_⟩⟩:=live n b d
   .cases e;unfold jJ at he;simp_all
   .unfold jJ at he;rw[o] at he;cases he
  refine⟨jJ R env,⟨⟨m.os,m.tape,m.output,m.dr,m.size,m.fr,m.Alt,?_,?_,?_,m.fresh,m.gl⟩,by rw[show T.fs.sl.length=S.fs.sl.length from v];exact t.len,λi=>d1 R l2 i _ (t.f i),t.dfr⟩,⟨λ_ h=>h,?_,λ_ _ _=>rfl,λ_ _ h=>h⟩⟩
  .intro n;cases g:T.fs.h n with
   | dead=>trivial
   | un =>
    show jJ R env n = .un;have:n ∉ T.H.map (·.1):=λs=>by
     rcases Mx (H:=T.H) (n:=n) with h|h
     .obtain⟨⟨J,x⟩,K,rfl⟩:=List.mem_map.1 s;have:∀(H:List (Nat×Nm)),(∀ c x,(c,x)∈H→∃ b,x = .live b)→∀ n,n∈H.map (·.1)→∃ b,eM H n = .live b:=by
       intro H
       induction H with
       | nil=>intro _ n g;simp at g
       | cons p H ih =>
        intro G n g;simp only[eM];split
        .grind
        .rename_i q;refine ih (λc x K=>G c x (fu _ K)) n ?_;rcases eZ.1 g with e|g
         .subst e;rw[yr] at q;cases q
         .exact g
      obtain⟨b,d⟩:=this T.H (λc x K=>let ⟨b,e,_⟩:=L c x K;⟨b,e⟩) J s;simp_all
     .simp only[St.fs] at g;rw[g] at h;obtain⟨b,e,_⟩:=L n _ h;cases e
    unfold jJ;rw[C n this]
   | live b =>
    obtain⟨b',e,⟨F,b0,o,r,u,I,e5⟩|⟨o,E,N,r⟩⟩:=live n b g
    .cases e;have he:jJ R env n=env F:=by unfold jJ;rw[o]
     have D:=m.nm F;simp only[St.fs,r] at D;rcases D with⟨k,len,j,d,hA⟩|⟨j,E,N,d⟩
     .exact .inl ⟨k,len,he.trans j,I R fX.refl k len d,λO=>hA (by rw[← u];exact O)⟩
     .exact .inr ⟨he.trans j,e5 E N d⟩
    .cases e;exact .inr ⟨by unfold jJ;rw[o],E,N,.inl r⟩
  .intro n b k l d D he;obtain⟨F,b0,o,r,u,I⟩   := hmut n b k l d D he;exact m.own F b0 k l r u I
  .intro n J b c k l l' d M hbm hcm he j;obtain⟨m1,b1,o,r,u,I⟩   := hmut n b k l d hbm he;obtain⟨m2,b2,f1,f2,f3,f4⟩:=hmut J c k l' M hcm j;have:=m.inj m1 m2 b1 b2 k l l' r f2 u f3 I f4;subst this;exact z n J m1 o f1
  .intro n g hn' q;have:n∈S.H.map (·.1):=by
    refine i5 λhno=>q ?_;have:=m.nm n;simp only[St.fs,QR hno] at this;exact this
   have:=XR hpar n g hn' this;unfold jJ;rw[this]
 .exact h2.elim
end
end Go.SX
namespace Go.SX
inductive Ex where
 | normal
 | exit (id:Nat)
 | ret
def Ex.to:Ex->Exit
 | .normal => .normal
 | .exit id => .exit id
 | .ret => .ret
structure MA:Type 1 where
 ι:Type
 μ:ι->Nat:=λ_=>0
 inv:ι->Prop
 qn:Qn ι := .plain ι
 keep:List Nat:=[]
 slots:ι->List (Nat×SV):=λ_=>[]
 keepN:List Nat:=[]
 names:ι->List (Nat×Nm):=λ_=>[]
def TJ(n:Nat):List (Nat×SV)->SV
 | [] => .junk
 | (m,v)::r=>match Nat.beq n m with
  | true=>v
  | false=>TJ n r
def V1(keep:List Nat)(l:List (Nat×SV)):Nat->List SV->List SV
 | _,[]=>[]
 | n,v::r=>(match qy n keep with|true=>v|false=>TJ n l)::V1 keep l (n+1) r
def W6(H:List (Nat×Nm))(r:List (Nat×Nm)):List Nat->List (Nat×Nm)
 | []=>r
 | n::l=>(n,eM H n)::W6 H r l
def head(S:St)(an:MA)(i:an.ι):St:=⟨V1 an.keep (an.slots i) 0 S.sl,W6 S.H (an.names i) an.keepN⟩
def KJ:List SV->(List SV->Prop)->Prop
 | [],k=>k []
 | x::xs,k=>Ku x λy=>KJ xs λys=>k (y::ys)
theorem Wd:∀(l:List SV)(k:List SV->Prop),KJ l k=k l
 | [],k=>rfl
 | x::xs,k=>by simp only[KJ,Vu,Wd xs]
def Ia:List (Nat×Nm)->(List (Nat×Nm)->Prop)->Prop
 | [],k=>k []
 | (n,b)::r,k=>JE b λb=>Ia r λr=>k ((n,b)::r)
theorem UJ:∀(l:List (Nat×Nm))(k:List (Nat×Nm)->Prop),Ia l k=k l
 | [],k=>rfl
 | (n,b)::r,k=>by simp only[Ia,Q0,UJ r]
def wA(S:St)(k:St->Prop):Prop:=match S with
 | ⟨sl,H⟩=>KJ sl λsl=>Ia H λH=>k ⟨sl,H⟩
theorem G5(S:St)(k:St->Prop):wA S k=k S:=by cases S;simp only[wA,Wd,UJ]
def zY:Code->Nat
 | .region id _ _=>id
 | .seq a _=>zY a
 | .block _ a=>zY a
 | .loop a=>zY a
 | .scope a=>zY a
 | .cond _ a _=>zY a
 | _=>0
structure bI:Type 1 where
 loops:Nat->Option (St->MA):=λ_=>none
 cuts:Nat->Option (St->MA):=λ_=>none
 nms:List Nat:=[]
 unr:Nat->Nat:=λ_=>0
 ys:List Nat:=[]
 ln:Nat:=0
 lo:Loop->Prop:=λ_=>False
def svI:SV->Int
 | .int _ n=>n
 | _=>0
def svB:SV->Bool
 | .bool b=>b
 | _=>false
def svL(t:CT):SV->List t.D
 | .dsl t' xs=>match iK t' t xs with
  | some ys=>ys
  | none=>[]
 | .dsx t' xs=>match iK t' t xs with
  | some ys=>ys
  | none=>[]
 | _=>[]
def Q7(t:CT)(cs:List SV):t.D:=match (kW t cs).run (λ_=>.un) with
 | some ((d,_,_),_)=>d
 | none=>t.dflt
def St.i(S:St)(n:Nat):Int:=svI (dW S.sl n)
def St.b(S:St)(n:Nat):Bool:=svB (dW S.sl n)
def St.l(S:St)(t:CT)(n:Nat):List t.D:=svL t (dW S.sl n)
def St.a(S:St)(t:CT)(n:Nat):t.D:=match dW S.sl n with
 | .agg cs=>Q7 t cs
 | _=>t.dflt
def St.r(S:St)(t:CT)(n:Nat):List t.D:=match eM S.H n with
 | .live (.row _ t' xs)=>match iK t' t xs with
  | some ys=>ys
  | none=>[]
 | .live (.frz _ t' xs)=>match iK t' t xs with
  | some ys=>ys
  | none=>[]
 | _=>[]
def St.c(S:St)(t:CT)(n:Nat):t.D:=match eM S.H n with
 | .live (.cells _ cs)=>Q7 t cs
 | _=>t.dflt
def St.o(S:St)(t:CT)(n:Nat):List t.D:=match dW S.sl n with
 | .own m _=>S.r t m
 | _=>[]
def St.p(S:St)(t:CT)(n:Nat):t.D:=match dW S.sl n with
 | .ptr m _=>S.c t m
 | _=>t.dflt
def Rx:SV->Option Bool
 | .bool b=>some b
 | _=>none
def PB(id:Nat)(K:Ex->St->Prop):Ex->St->Prop:=λe S=>match e with
 | .exit i=>match Nat.beq i id with
  | true=>K .normal S
  | false=>K (.exit i) S
 | .normal=>K .normal S
 | .ret=>K .ret S
def Ke(k:St->Prop)(K:Ex->St->Prop):Ex->St->Prop:=λe S=>match e with
 | .normal=>k S
 | .exit i=>K (.exit i) S
 | .ret=>K .ret S
def K5(body:(Ex->St->Prop)->St->Prop):Nat->(Ex->St->Prop)->St->Prop
 | 0,_,_=>False
 | n+1,K,S=>body (Ke (K5 body n K) K) S
structure uR (n:Nat) (x:Array Tmp×Code×Code) (r:Loop):Prop where
 st:r.state = .ready
 pe:r.pending=none
 ps:r.params=x.1
 as:r.assign=x.2.1
 bd:r.body=x.2.2
 ln:n<=r.tmps.size
def jH:Code->List (Array Tmp×Code×Code)
 | .rangeFunc _ ps a b=>[(ps,a,b)]
 | .seq a b=>jH a++jH b
 | .cond _ a b=>jH a++jH b
 | .block _ a=>jH a
 | .loop a=>jH a
 | .scope a=>jH a
 | _=>[]
def JU:List (Nat×Nm)->Bool
 | []=>true
 | (_,.live b)::r=>b.noY&&JU r
 | _::r=>JU r
def St.noY(S:St):Bool:=uZ S.sl&&JU S.H
theorem Cl:∀{H:List (Nat×Nm)},JU H=true→∀ n b,eM H n = .live b->b.noY=true
 | (m,x)::r,h,n,b,e=>by
  simp only[eM] at e;cases x with
  | live c =>
   obtain⟨h1,h2⟩:=Bool.and_eq_true_iff.1 h;split at e
   .cases e;exact h1
   .exact Cl h2 n b e
  | un=>split at e;cases e;exact Cl (H:=r) h n b e
  | dead=>split at e;cases e;exact Cl (H:=r) h n b e
theorem MH:∀{l:List SV},uZ l=true→∀ i,(dW l i).noY=true
 | [],_,i=>rfl
 | x::l,h,0=>(Bool.and_eq_true_iff.1 h).1
 | x::l,h,i+1=>MH (l:=l) (Bool.and_eq_true_iff.1 h).2 i
def sx(P:Program)(sp:fx)(an:bI):Code->(Ex->St->Prop)->St->Prop
 | .skip,K,S=>K .normal S
 | .region _ ops draw,K,S=>O8 P sp an.nms ops draw (K .normal) S
 | .seq a b,K,S=>match an.cuts (zY b) with
  | none=>sx P sp an a (Ke (sx P sp an b K) K) S
  | some c=>sx P sp an a (Ke (λS'=>(c S).qn.ex λi=>(c S).inv i/\enter S' (head S (c S) i)) K) S/\(c S).qn.all λi=>(c S).inv i->wA (head S (c S) i) (sx P sp an b K)
 | .cond c a b,K,S=>match Rx (bg (dW S.sl) c) with
  | some t=>au t (sx P sp an a K S) (sx P sp an b K S)
  | none=>False
 | .block id a,K,S=>sx P sp an a (PB id K) S
 | .loop a,K,S=>match an.unr (zY a) with
  | n+1=>K5 (sx P sp an a) (n+1) K S
  | 0=>match an.loops (zY a) with
   | none=>False
   | some c=>((c S).qn.ex λi=>(c S).inv i/\enter S (head S (c S) i))/\(c S).qn.all λi=>(c S).inv i->wA (head S (c S) i) (sx P sp an a (Ke (λS'=>(c S).qn.ex λj=>(c S).inv j/\(c S).μ j<(c S).μ i/\enter S' (head S (c S) j)) K))
 | .exit id,K,S=>K (.exit id) S
 | .scope a,K,S=>sx P sp an a K S
 | .ret,K,S=>K .ret S
 | .rangeFunc g _ _ _,K,S=>match bg (dW S.sl) g with
  | .fn gf caps=>match Ha P gf,sp.fn gf,Nat.ble an.ln S.sl.length with
   | true,some s,true=>∀ r:Loop,an.lo r->match (s 0 (.yld r an.ys (an.ys.map (dW S.sl))::caps)).run (eM S.H) with
    | some (d,_)=>G8 none S (λS'=>match S'.noY with|true=>K .normal S'|false=>False) (.go d)
    | none=>False
   | _,_,_=>False
  | _=>False
 | _,_,_=>False
section
variable {P:Program} {sp:fx} {an:bI} {w0:World} {N0:fK}
theorem Z6{F:Fence}{n:Nat}{c:Code}{Q:Exit->Act->World->Prop}{a:Act}{w:World}(h:c.wpIn F n P (Exit.noGoto Q) a w):(Code.scope c).wpIn F n P Q a w:=by
 intro b k cs hro hb hr
 have s1:step P (lone (b.atR a (.code (.scope c)::k)) cs w) = .next (lone (b.atR a (.code c :: .inScope c::k)) cs w):=step_lone_go (by simp[stepG,stepG.exec,Frame.atR])
 have s2:∀ a' w',step P (lone (b.atR a' (.inScope c::k)) cs w') = .next (lone (b.atR a' k) cs w'):=λa' w'=>step_lone_go (by simp[stepG,stepG.exec,Frame.atR])
 have h0:(lone (b.atR a (.code (.scope c)::k)) cs w).fenced P F:=fenced_calm hb hr rfl
 obtain⟨e,a₁,w₁,hq,harr⟩:=h b (.inScope c::k) cs hro hb hr
 cases e with
 | normal=>exact⟨.normal,a₁,w₁,hq,.head h0 s1 (StepsIn.trans harr (.one (fenced_calm hb hr rfl) (s2 _ _)))⟩
 | exit id =>
  have hx:exitTo id (.inScope c::k)=exitTo id k:=by simp[exitTo]
  exact⟨.exit id,a₁,w₁,hq,λk' hk=>.head h0 s1 (harr.1 k' (by rw[hx];exact hk)),λhr' hk=>let ⟨k₁,h1,h2⟩:=harr.2 hr' (by rw[hx];exact hk);⟨k₁,h1,.head h0 s1 h2⟩⟩
 | goto l=>exact hq.elim
 | ret=>exact⟨_,a₁,w₁,hq,.of_steps (.one h0 s1) harr⟩
 | panic ch=>exact⟨_,a₁,w₁,hq,.of_steps (.one h0 s1) harr⟩
 | outgrown=>exact⟨_,a₁,w₁,hq,.of_steps (.one h0 s1) harr⟩
theorem Pw{ro:Option Nat}(hs:jF P sp/\N0.g=sp.gl)(ij:P.follows .mixedOrders=true):∀(c:Code)(_:∀ x∈jH c,ro=none∧∀ r,uR an.ln x r->an.lo r)(K:Ex->St->Prop)(S:St)(Q:Exit->Act->World->Prop)(A:Nat->Prop)(env:bj)(a:Act)(w:World),
  sx P sp an c K S->hV w0 N0 A env S.fs a w →
  (∀ e S' A' env' a' w',K e S'→hV w0 N0 A' env' (St.fs S') a' w'→sX A env w A' env' w'→Q e.to a' w')->c.wpIn (wf ro) 0 P Q a w:=by
 have refl0:∀{A:Nat->Prop}{env:bj}{w:World},sX A env w A env w:=dH.refl.ext0
 intro c
 induction c with
 | skip=>intro hl K S Q A env a w h t hQ;exact wpIn_skip (hQ .normal S A env a w h t refl0)
 | region id ops draw =>
  intro hl K S Q A env a w h t hQ;exact ao1 hs ij t h λS' A' env' a' w' hk t' x=>hQ .normal S' A' env' a' w' hk t' x.ext0
 | seq x y ihx ihy =>
  intro hl K S Q A env a w h t hQ;simp only[sx] at h;split at h
  .refine wpIn_seq (ihx (λx hx=>hl x (iA _ hx)) _ S _ A env a w h t ?_);intro e S' A' env' a' w' hk t' x';cases e with
   | normal=>exact ihy (λx hx=>hl x (jD _ hx)) K S' Q A' env' a' w' hk t' λe S2 A2 env2 a2 w2 hk2 t2 x2=>hQ e S2 A2 env2 a2 w2 hk2 t2 (x'.trans x2)
   | exit i=>exact hQ (.exit i) S' A' env' a' w' hk t' x'
   | ret=>exact hQ .ret S' A' env' a' w' hk t' x'
  .rename_i c hc;refine wpIn_seq (ihx (λx hx=>hl x (iA _ hx)) _ S _ A env a w h.1 t ?_);intro e S' A' env' a' w' hk t' x';cases e with
   | normal =>
    obtain⟨i,hi,he⟩:=(c S).qn.hex _ hk;obtain⟨env2,t2,x2⟩:=My he t';have h2:=(c S).qn.hall _ h.2 i hi;rw[G5] at h2;exact ihy (λx hx=>hl x (jD _ hx)) K _ Q A' env2 a' w' h2 t2 λe S3 A3 env3 a3 w3 hk3 t3 x3=>hQ e S3 A3 env3 a3 w3 hk3 t3 ((x'.trans x2).trans x3)
   | exit i=>exact hQ (.exit i) S' A' env' a' w' hk t' x'
   | ret=>exact hQ .ret S' A' env' a' w' hk t' x'
 | cond c x y ihx ihy =>
  intro hl K S Q A env a w h t hQ;simp only[sx] at h;split at h
  .rename_i b hb;have hd:=dh t.f c;have hv:bg (dW S.sl) c = .bool b:=by
    unfold Rx at hb;split at hb
    next b' he=>cases hb;exact he
    .cases hb
   simp only[St.fs] at hd;rw[hv] at hd;simp only[az] at hd;cases b with
   | true=>exact wpIn_cond_true hd (ihx (λx hx=>hl x (iA _ hx)) K S Q A env a w h t hQ)
   | false=>exact wpIn_cond_false hd (ihy (λx hx=>hl x (jD _ hx)) K S Q A env a w h t hQ)
  .exact h.elim
 | block id x ih =>
  intro hl K S Q A env a w h t hQ;refine wpIn_block (ih hl _ S _ A env a w h t ?_);intro e S' A' env' a' w' hk t' x';cases e with
  | normal=>exact hQ .normal S' A' env' a' w' hk t' x'
  | exit i =>
   simp only[Ex.to,Exit.inBlock];by_cases hi:i=id
   .subst hi;simp only[PB,yr] at hk;rw[aj rfl];exact hQ .normal S' A' env' a' w' hk t' x'
   .have hb:Nat.beq i id=false:=by
     cases hb:Nat.beq i id with
     | false=>rfl
     | true=>exact absurd (bK hb) hi
    simp only[PB,hb] at hk;rw[ah hi];exact hQ (.exit i) S' A' env' a' w' hk t' x'
  | ret=>exact hQ .ret S' A' env' a' w' hk t' x'
 | loop x ih =>
  intro hl K S Q A env a w h t hQ;simp only[sx] at h;split at h
  .rename_i n0 _;refine wpIn_loop_ghost (λn a' w'=>∃ S' A' env',K5 (sx P sp an x) n K S'∧hV w0 N0 A' env' S'.fs a' w'∧sX A env w A' env' w') (n0+1) ⟨S,A,env,h,t,refl0⟩ ?_;rintro n a1 w1 ⟨S1,A1,env1,h1,t1,x1⟩;cases n with
   | zero=>exact h1.elim
   | succ n =>
    refine ih hl _ _ _ A1 env1 a1 w1 h1 t1 ?_;intro e S' A' env' a' w' hk t' x';cases e with
    | normal=>exact⟨n,Nat.lt_succ_self n,S',A',env',hk,t',x1.trans x'⟩
    | exit i=>exact hQ (.exit i) S' A' env' a' w' hk t' (x1.trans x')
    | ret=>exact hQ .ret S' A' env' a' w' hk t' (x1.trans x')
  split at h
  .exact h.elim
  .rename_i c hc;obtain⟨hex,hr⟩:=h;obtain⟨i0,hi0,he0⟩:=(c S).qn.hex _ hex;obtain⟨env0,t0,x0⟩:=My he0 t;refine wpIn_loop_ghost (λn a' w'=>∃ i A' env',(c S).inv i/\n=(c S).μ i/\hV w0 N0 A' env' (head S (c S) i).fs a' w'∧sX A env w A' env' w') ((c S).μ i0) ⟨i0,A,env0,hi0,rfl,t0,x0⟩ ?_;rintro n a1 w1 ⟨i,A1,env1,hi,rfl,t1,x1⟩;have h1:=(c S).qn.hall _ hr i hi;rw[G5] at h1;refine ih hl _ _ _ A1 env1 a1 w1 h1 t1 ?_;intro e S' A' env' a' w' hk t' x';cases e with
   | normal =>
    obtain⟨j,hj,hμ,he⟩:=(c S).qn.hex _ hk;obtain⟨env2,t2,x2⟩:=My he t';exact⟨(c S).μ j,hμ,j,A',env2,hj,rfl,t2,(x1.trans x').trans x2⟩
   | exit i=>exact hQ (.exit i) S' A' env' a' w' hk t' (x1.trans x')
   | ret=>exact hQ .ret S' A' env' a' w' hk t' (x1.trans x')
 | exit id=>intro hl K S Q A env a w h t hQ;exact wpIn_exit (hQ (.exit id) S A env a w h t refl0)
 | scope x ih =>
  intro hl K S Q A env a w h t hQ;refine Z6 (ih hl K S _ A env a w h t ?_);intro e S' A' env' a' w' hk t' x';cases e with
  | normal=>exact hQ .normal S' A' env' a' w' hk t' x'
  | exit i=>exact hQ (.exit i) S' A' env' a' w' hk t' x'
  | ret=>exact hQ .ret S' A' env' a' w' hk t' x'
 | ret=>intro hl K S Q A env a w h t hQ;exact wpIn_ret (hQ .ret S A env a w h t refl0)
 | rangeFunc g ps x y _ _ =>
  intro hl K S Q A env a w h t hQ;obtain⟨rfl,hlo⟩:=hl _ (nz.2 rfl);simp only[sx] at h;split at h
  .rename_i gf caps hg;split at h
   .rename_i s hb hsp hln;have dg:=dh t.f g;simp only[St.fs] at dg;rw[hg] at dg;simp only[az] at dg;obtain⟨vs,ev,dv⟩:=dg;refine wpIn_rangeFunc λfn _=>?_;obtain⟨rc,hrc⟩:∃ rc:Loop,rc={state := .ready,pending:=none,fn:=fn,tmps:=a.tmps,params:=ps,assign:=x,body:=y,defers:=w.heap.size}:=⟨_,rfl⟩
    obtain⟨W1,hW1⟩:∃ W1,W1=(w.alloc (.deferred (some []))).alloc (.loop rc):=⟨_,rfl⟩
    have hL:W1.heap[w.heap.size+1]? = some (.loop rc):=by
     rw[hW1];have:=World.alloc_heap_new (w.alloc (.deferred (some []))) (.loop rc);rwa [World.size_alloc] at this
    have hD:W1.heap[w.heap.size]? = some (.deferred (some [])):=by
     rw[hW1,RowKit.Below.heap_alloc _ _ _ aw];exact World.alloc_heap_new w _
    have u1:lG (λ_=>False) (λ_=>False) A env S.fs.h w A env S.fs.h W1:=lG.none (by rw[hW1];exact (da.alloc w _ _).trans (da.alloc _ _ _));have x1:=t.m.ext u1;have t1:hV w0 N0 A env S.fs a W1:=⟨t.m.upd u1,t.len,λi=>DQ x1 _ _ (t.f i),t.dfr.mono x1.dfo⟩
    have hln:=lZ hln;have hpre:=h rc (hlo rc (by subst hrc;exact⟨rfl,rfl,rfl,rfl,rfl,pH hln t.len⟩));split at hpre
    .rename_i d q hrun;obtain⟨hp,hout⟩:=MR hpre;have hcall:=hs.1 gf s hsp 0 _ _ d q hrun hp w0 N0 A env W1 (.func (.yield (w.heap.size+1)) #[] #[]::vs.toList) hs.2 t1.m (by
      simp only[aO,az];refine⟨_,_,rfl,⟨_,rfl,hL,?_⟩,Bk x1 _ _ dv⟩;have hf:=t1.f;have:rc.tmps=a.tmps:=by rw[hrc]
      rw[this];generalize an.ys=l
      induction l with
      | nil=>rfl
      | cons p l ih=>exact⟨_,_,rfl,hf p,ih⟩)
     obtain ⟨fg, hfg, hb⟩ : ∃ fg, P.funcs[gf]? = some fg ∧ (!(fg.name == "runtime.NumGoroutine") && fg.body.isSome) = true := by
      unfold Ha at hb;split at hb
      .exact⟨_,‹_›,hb⟩
      .cases hb
     simp only[fe,pF] at hb;have hbody:fg.body.isNone=false:=by cases hfb:fg.body <;> simp_all
     refine⟨w.heap.size+1,[{target := .collected w.heap.size,args := #[]}],W1,{target := .fn (.func gf) vs,args := #[.func (.yield (w.heap.size+1)) #[] #[]]},W1,gf,#[.func (.yield (w.heap.size+1)) #[] #[]]++vs,W1,
      by rw[hW1,hrc];exact run_enterLoop_outer _ _ _ _ _,?_,λ_ _=>trivial,?_,λq=>by simp[Fence.wide] at q,?_⟩
     .simp only[resolve,ev];simp[go_sem]
     .simp only[invoke,callFunc,Sem.run_bind,run_program,Result.andThen_ok,hfg,hb.1,hbody,GC,if_false,Sem.run_pure]
     .have hargs:(Value.func (.yield (w.heap.size+1)) #[] #[]::vs.toList).toArray = #[.func (.yield (w.heap.size+1)) #[] #[]]++vs:=by apply Array.ext';simp
      rw[hargs] at hcall;refine CallsIn.mono (callsIn_wide.2 hcall:CallsIn Fence.wide _ P _ _ _ _) ?_;rintro e w' ⟨v,rfl,g⟩;obtain⟨xx,A',env',hR,t',x'⟩:=t1.app g none;obtain⟨S',hS',hk⟩:=hout _ ⟨xx,hR,rfl⟩;split at hk
      .rename_i hY;obtain⟨y1,y2⟩:=Bool.and_eq_true_iff.1 hY;have hL':=x'.lop trivial _ _ hL;have hD':=x'.dfo _ hD;rw[← hS'] at t';refine⟨rc.pending,_,run_endLoop hL' (by rw[hrc];simp),?_⟩;have hpe:rc.pending=none:=by rw[hrc]
       rw[hpe];have hle:=t.m.size;refine hQ .normal S' A' env' _ _ hk ⟨t'.m.put hL' rfl rfl ab (.inr (Cl y2)),t'.len,λi=>BZ (Dy hL' rfl rfl) _ _ (.inr (MH y1 i)) (t'.f i),⟨w.heap.size,rfl,hle,?_,λe he q=>?_,?_⟩⟩ ((x1.trans x').ext0.trans (Dy hL' rfl rfl).ext0)
       .rw[World.putObj_heap_other ab];exact hD'
       .obtain⟨D,h1,h2⟩:=t.dfr.lt e he;rw[h1] at q;cases q;omega
       .refine rm.mono (λk hk=>?_) t'.dfr;rw[World.putObj_heap_other (by rintro rfl;rw[hL'] at hk;cases hk)];exact hk
      .exact hk.elim
    .exact hpre.elim
   .exact h.elim
  .exact h.elim
 | label l=>intro hl K S Q A env a w h t hQ;exact h.elim
 | goto l=>intro hl K S Q A env a w h t hQ;exact h.elim
 | refuse s=>intro hl K S Q A env a w h t hQ;exact h.elim
end
end Go.SX
namespace Go.SX
inductive OT where
 | dat (t:CT)
 | row (E:TypeId) (t:CT)
 | rowg (E:TypeId) (t:CT)
 | fnc (f:FuncId)
 | ali
 | ref (E:TypeId) (o:OT)
 | pair (a b:OT)
@[reducible] def OT.D:OT->Type
 | .dat t=>t.D
 | .row _ t=>List t.D
 | .rowg _ t=>List t.D
 | .fnc _=>Unit
 | .ali=>Unit
 | .ref _ o=>o.D
 | .pair a b=>a.D×b.D
@[reducible] def OT.X:OT->Type
 | .dat t=>t.D
 | .row _ t=>List t.D
 | .rowg _ _=>Unit
 | .fnc _=>Unit
 | .ali=>Unit
 | .ref _ o=>o.X
 | .pair a b=>a.X×b.X
def OT.wf:(o:OT)->o.D->Prop
 | .dat t,d=>t.wf d
 | .row _ t,d=>d.length<=maxLen∧∀ x∈d,t.wf x
 | .rowg _ t,d=>d.length<=maxLen∧∀ x∈d,t.wf x
 | .fnc _,_=>True
 | .ali,_=>True
 | .ref _ o,d=>o.wf d
 | .pair a b,d=>a.wf d.1/\b.wf d.2
def OT.nb:OT->Nat
 | .ref _ o=>o.nb+1
 | .pair a b=>a.nb+b.nb
 | _=>0
def OT.nc:OT->Nat
 | .row _ _=>1
 | .rowg _ _=>1
 | .ref _ o=>o.nc
 | .pair a b=>a.nc+b.nc
 | _=>0
def OT.nr:OT->Nat
 | .row _ _=>1
 | .ref _ o=>o.nr
 | .pair a b=>a.nr+b.nr
 | _=>0
instance:Coe CT OT:=⟨OT.dat⟩
inductive PK where
 | val (t:CT)
 | agg (t:CT)
 | box (E:TypeId) (o:OT)
 | row (E:TypeId) (t:CT)
 | own (E:TypeId) (t:CT)
 | fn (f:FuncId) (k:Nat)
 | nils
 | yld (ts:List Nat) (k:Nat)
 | ago (o:OT)
@[reducible] def PK.D:PK->Type
 | .val t=>t.D
 | .agg t=>t.D
 | .box _ o=>o.D
 | .row _ t=>List t.D
 | .own _ t=>List t.D
 | .fn _ _=>Unit
 | .nils=>Unit
 | .yld _ _=>Loop
 | .ago o=>o.D
@[reducible] def bp:List PK->Type
 | []=>Unit
 | p::r=>p.D×bp r
def PK.wf:(p:PK)->p.D->Prop
 | .val t,d=>t.wf d
 | .agg t,d=>t.wf d
 | .box _ o,d=>o.wf d
 | .row _ t,d=>d.length<=maxLen∧∀ x∈d,t.wf x
 | .own _ t,d=>d.length<=maxLen∧∀ x∈d,t.wf x
 | .fn _ _,_=>True
 | .nils,_=>True
 | .yld _ _,_=>True
 | .ago o,d=>o.wf d
def uE:(ps:List PK)->bp ps->Prop
 | [],_=>True
 | p::r,d=>p.wf d.1/\uE r d.2
def Gz:(t:CT)->(t.D->Prop)->Prop
 | .pair a b,k=>Gz a λx=>Gz b λy=>k (x,y)
 | .int _,k=>∀ x:Int,k x
 | .bool,k=>∀ x:Bool,k x
 | .str,k=>∀ x:ByteArray,k x
 | .sl t,k=>∀ x:List t.D,k x
theorem OA:∀{t:CT}{k:t.D->Prop},Gz t k↔∀ d,k d
 | .pair a b,k=>by
  simp only[Gz,OA (t:=a),OA];simp_all
 | .int _,k=>sW
 | .bool,k=>sW
 | .str,k=>sW
 | .sl t,k=>sW
def iD(t:CT)(k:t.D->Prop):Prop:=match Nat.ble t.size 6 with
 | true=>Gz t k
 | false=>∀ d:t.D,k d
theorem G0{t:CT}{k:t.D->Prop}:iD t k↔∀ d,k d:=by
 unfold iD
 split
 .exact OA
 .exact sW
def A6:(o:OT)->(o.D->Prop)->Prop
 | .dat t,k=>iD t k
 | .row _ t,k=>∀ x:List t.D,k x
 | .rowg _ t,k=>∀ x:List t.D,k x
 | .fnc _,k=>k ()
 | .ali,k=>k ()
 | .ref _ o,k=>A6 o k
 | .pair a b,k=>A6 a λx=>A6 b λy=>k (x,y)
theorem Hb:∀{o:OT}{k:o.D->Prop},A6 o k↔∀ d,k d
 | .dat t,k=>G0
 | .row _ t,k=>sW
 | .rowg _ t,k=>sW
 | .fnc _,k=>⟨λh _=>h,λh=>h ()⟩
 | .ali,k=>⟨λh _=>h,λh=>h ()⟩
 | .ref _ o,k=>Hb (o:=o)
 | .pair a b,k=>by
  simp only[A6,Hb,Hb];simp_all
def PK.all:(p:PK)->(p.D->Prop)->Prop
 | .val t,k=>iD t k
 | .agg t,k=>iD t k
 | .box _ o,k=>A6 o k
 | .row _ t,k=>∀ x:List t.D,k x
 | .own _ t,k=>∀ x:List t.D,k x
 | .fn _ _,k=>k ()
 | .nils,k=>k ()
 | .yld _ _,k=>∀ r:Loop,k r
 | .ago o,k=>A6 o k
theorem PK.all_iff{p:PK}{k:p.D->Prop}:p.all k↔∀ d,k d:=by
 cases p <;> simp only[PK.all,G0,Hb] <;> exact⟨λh _=>h,λh=>h ()⟩
def yo:(ps:List PK)->(bp ps->Prop)->Prop
 | [],k=>k ()
 | p::r,k=>p.all λx=>yo r λy=>k (x,y)
theorem F2:∀{ps:List PK}{k:bp ps->Prop},yo ps k↔∀ d,k d
 | [],k=>⟨λh d=>h,λh=>h ()⟩
 | p::r,k=>by
  simp only[yo,PK.all_iff,F2 (ps:=r)];simp_all
def Fl(E:TypeId)(t:CT):List SV->Q (List t.D×List SV×Option Nat)
 | .own n sz::r => .ask n fun
  | .live (.row E' t' xs)=>match Nat.beq E E',Nat.beq sz t.size,iK t' t xs with
   | true,true,some ys => .ret (ys,r,some n)
   | _,_,_ => .fail
  | _ => .fail
 | .nilsl::r => .ret ([],r,none)
 | _ => .fail
def uL(a0:Option Nat):(o:OT)->List SV->Q (o.D×List SV×List (Nat×Nm)×List Nat×List (Option Nat))
 | .dat t,cs=>(kW t cs).bind λp=>.ret (p.1,p.2.1,p.2.2,[],[])
 | .row E t,cs=>(Fl E t cs).bind λp=>.ret (p.1,p.2.1,[],[],[p.2.2])
 | .rowg E t,cs=>(Fl E t cs).bind λp=>.ret (p.1,p.2.1,[],[],[p.2.2])
 | .fnc f,.fn g []::r=>match Nat.beq f g with
  | true => .ret ((),r,[],[],[])
  | false => .fail
 | .fnc _,_ => .fail
 | .ali,.ptr n 0::r=>match a0 with
  | some m=>match Nat.beq n m with
   | true => .ret ((),r,[],[],[])
   | false => .fail
  | none => .fail
 | .ali,_ => .fail
 | .ref E o,.ptr n 0::r => .ask n fun
  | .live (.cells E' cs)=>match Nat.beq E E' with
   | true=>(uL a0 o cs).bind λp=>match p.2.1 with
    | [] => .ret (p.1,r,p.2.2.1,n::p.2.2.2.1,p.2.2.2.2)
    | _ => .fail
   | false => .fail
  | _ => .fail
 | .ref _ _,_ => .fail
 | .pair a b,cs=>(uL a0 a cs).bind λp=>(uL a0 b p.2.1).bind λq=>.ret ((p.1,q.1),q.2.1,p.2.2.1++q.2.2.1,p.2.2.2.1++q.2.2.2.1,p.2.2.2.2++q.2.2.2.2)
def zC:(o:OT)->o.D->Nat->Nat->List SV
 | .dat t,d,_,_=>cQ t d
 | .row _ t,_,_,i=>[.own (QN+i) t.size]
 | .rowg _ t,_,_,i=>[.own (QN+i) t.size]
 | .fnc f,_,_,_=>[.fn f []]
 | .ali,_,_,_=>[.ptr PN 0]
 | .ref _ _,_,j,_=>[.ptr (PN+j) 0]
 | .pair a b,d,j,i=>zC a d.1 j i++zC b d.2 (j+a.nb) (i+a.nc)
def zz:(o:OT)->o.D->Nat->Nat->List (Nat×Nm)
 | .dat _,_,_,_=>[]
 | .row _ _,_,_,_=>[]
 | .rowg _ _,_,_,_=>[]
 | .fnc _,_,_,_=>[]
 | .ali,_,_,_=>[]
 | .ref E o,d,j,i=>(PN+j,.live (.cells E (zC o d (j+1) i)))::zz o d (j+1) i
 | .pair a b,d,j,i=>zz a d.1 j i++zz b d.2 (j+a.nb) (i+a.nc)
def Cq:(o:OT)->o.D->Nat->List (Nat×Nm)
 | .dat _,_,_=>[]
 | .row E t,xs,i=>[(QN+i,.live (.row E t xs))]
 | .rowg E t,xs,i=>[(QN+i,.live (.row E t xs))]
 | .fnc _,_,_=>[]
 | .ali,_,_=>[]
 | .ref _ o,d,i=>Cq o d i
 | .pair a b,d,i=>Cq a d.1 i++Cq b d.2 (i+a.nc)
def Dq(t:CT)(d:t.D):SV:=match cQ t d with
 | [s]=>s
 | _ => .junk
def FT:Option Nat->Nat->Option Nat
 | some m,_=>some m
 | none,n=>some n
def iq:Option Nat->(ps:List PK)->List SV->Q (bp ps×List (Nat×Nm)×List Nat×List (Option Nat))
 | _,[],[] => .ret ((),[],[],[])
 | a0,.val t::ps,v::vs=>(kW t [v]).bind λp=>match p.2.1 with
  | []=>(iq a0 ps vs).bind λq=>.ret ((p.1,q.1),p.2.2++q.2.1,q.2.2)
  | _ => .fail
 | a0,.agg t::ps,.agg cs::vs=>(kW t cs).bind λp=>match p.2.1 with
  | []=>(iq a0 ps vs).bind λq=>.ret ((p.1,q.1),p.2.2++q.2.1,q.2.2)
  | _ => .fail
 | a0,.yld ts k::ps,.yld r us cs::vs=>match DE ts us,Nat.beq cs.length k with
  | true,true=>(iq a0 ps (cs++vs)).bind λq=>.ret ((r,q.1),q.2)
  | _,_ => .fail
 | a0,.nils::ps,.nilsl::vs=>(iq a0 ps vs).bind λq=>.ret (((),q.1),q.2)
 | a0,.fn f k::ps,.fn g cs::vs=>match Nat.beq f g,Nat.beq cs.length k with
  | true,true=>(iq a0 ps (cs++vs)).bind λq=>.ret (((),q.1),q.2)
  | _,_ => .fail
 | a0,.box E o::ps,.ptr n 0::vs => .ask n fun
  | .live (.cells E' cs)=>match Nat.beq E E' with
   | true=>(uL a0 o cs).bind λp=>match p.2.1 with
    | []=>(iq (FT a0 n) ps vs).bind λq=>.ret ((p.1,q.1),p.2.2.1++q.2.1,n::(p.2.2.2.1++q.2.2.1),p.2.2.2.2++q.2.2.2)
    | _ => .fail
   | false => .fail
  | _ => .fail
 | a0,.row E t::ps,.own n sz::vs => .ask n fun
  | .live (.row E' t' xs)=>match Nat.beq E E',Nat.beq sz t.size,iK t' t xs with
   | true,true,some ys=>(iq (FT a0 n) ps vs).bind λq=>.ret ((ys,q.1),q.2.1,n::q.2.2.1,q.2.2.2)
   | _,_,_ => .fail
  | _ => .fail
 | a0,.own E t::ps,v::vs=>(Fl E t [v]).bind λp=>(iq a0 ps vs).bind λq=>.ret ((p.1,q.1),q.2.1,q.2.2.1,p.2.2::q.2.2.2)
 | a0,.ago o::ps,.agg cs::vs=>match Nat.beq o.nb 0 with
  | true=>(uL a0 o cs).bind λp=>match p.2.1 with
   | []=>(iq a0 ps vs).bind λq=>.ret ((p.1,q.1),p.2.2.1++q.2.1,q.2.2.1,p.2.2.2.2++q.2.2.2)
   | _ => .fail
  | false => .fail
 | _,_,_ => .fail
def gV:(ps:List PK)->bp ps->Nat->Nat->List SV
 | [],_,_,_=>[]
 | .val t::ps,d,j,i=>Dq t d.1::gV ps d.2 j i
 | .agg t::ps,d,j,i => .agg (cQ t d.1)::gV ps d.2 j i
 | .box E o::ps,d,j,i => .ptr (PN+j) 0::gV ps d.2 (j+1+o.nb) (i+o.nc)
 | .row E t::ps,d,j,i => .own (PN+j) t.size::gV ps d.2 (j+1) i
 | .own E t::ps,d,j,i => .own (QN+i) t.size::gV ps d.2 j (i+1)
 | .fn f k::ps,d,j,i => .fn f ((gV ps d.2 j i).take k)::(gV ps d.2 j i).drop k
 | .nils::ps,d,j,i => .nilsl::gV ps d.2 j i
 | .yld ts k::ps,d,j,i => .yld d.1 ts ((gV ps d.2 j i).take k)::(gV ps d.2 j i).drop k
 | .ago o::ps,d,j,i => .agg (zC o d.1 j i)::gV ps d.2 j (i+o.nc)
def qF:(ps:List PK)->bp ps->Nat->Nat->List (Nat×Nm)
 | [],_,_,_=>[]
 | .val t::ps,d,j,i=>qF ps d.2 j i
 | .agg t::ps,d,j,i=>qF ps d.2 j i
 | .box E o::ps,d,j,i=>(PN+j,.live (.cells E (zC o d.1 (j+1) i)))::(zz o d.1 (j+1) i++qF ps d.2 (j+1+o.nb) (i+o.nc))
 | .row E t::ps,d,j,i=>(PN+j,.live (.row E t d.1))::qF ps d.2 (j+1) i
 | .own E t::ps,d,j,i=>qF ps d.2 j (i+1)
 | .fn f k::ps,d,j,i=>qF ps d.2 j i
 | .nils::ps,d,j,i=>qF ps d.2 j i
 | .yld _ _::ps,d,j,i=>qF ps d.2 j i
 | .ago o::ps,d,j,i=>qF ps d.2 j (i+o.nc)
def tq:(ps:List PK)->bp ps->Nat->List (Nat×Nm)
 | [],_,_=>[]
 | .val t::ps,d,i=>tq ps d.2 i
 | .agg t::ps,d,i=>tq ps d.2 i
 | .box E o::ps,d,i=>Cq o d.1 i++tq ps d.2 (i+o.nc)
 | .row E t::ps,d,i=>tq ps d.2 i
 | .own E t::ps,d,i=>(QN+i,.live (.row E t d.1))::tq ps d.2 (i+1)
 | .fn f k::ps,d,i=>tq ps d.2 i
 | .nils::ps,d,i=>tq ps d.2 i
 | .yld _ _::ps,d,i=>tq ps d.2 i
 | .ago o::ps,d,i=>Cq o d.1 i++tq ps d.2 (i+o.nc)
def rS(env:bj):Option Nat->Ev
 | some m=>env m
 | none => .nil
section
variable {w0:World} {N0:fK} {A Ac:Nat->Prop} {env envc:bj} {h:bX} {w:World}
def lT(A':Nat->Prop)(env0:bj)(h0:bX)(e':bj)(w:World):List (Option Nat)->List (Nat×Nm)->Nat->Prop
 | [],[],_=>True
 | o::os,(m,x)::l,n=>(m=n∧∃ b',x = .live b'∧b'.mut=true/\((∃ q b,o=some q/\h0 q = .live b/\b.mut=true/\(∀ k len,env0 q = .blk k len->kg A' e' w k len b')/\(env0 q = .nil→∃ E t,b' = .row E t []))∨(o=none∧∃ E t,b' = .row E t [])))/\lT A' env0 h0 e' w os l (n+1)
 | _,_,_=>False
theorem lT.append{A':Nat->Prop}{a:bj}{e:bX}{f:bj}:∀{c b:List (Option Nat)}{l d:List (Nat×Nm)}{n:Nat},lT A' a e f w c l n->lT A' a e f w b d (n+c.length)->lT A' a e f w (c++b) (l++d) n
 | [],b,[],d,n,_,k=>by simpa using k
 | o::c,b,(m,x)::l,d,n,⟨h1,h2⟩,k=>by
  refine⟨h1,h2.append ?_⟩;grind
theorem lT.get{A':Nat->Prop}{a:bj}{d:bX}{e:bj}:∀{c:List (Option Nat)}{l:List (Nat×Nm)}{n:Nat},lT A' a d e w c l n->c.length=l.length ∧
  ∀ i o,c[i]? = some o→∃ b',eM l (n+i) = .live b'∧(n+i,Nm.live b')∈l/\b'.mut=true/\((∃ q b,o=some q/\d q = .live b/\b.mut=true/\(∀ k len,a q = .blk k len->kg A' e w k len b')/\(a q = .nil→∃ E t,b' = .row E t []))∨(o=none∧∃ E t,b' = .row E t []))
 | [],[],n,_=>⟨rfl,λi n hi=>by simp at hi⟩
 | o::c,(m,x)::l,n,⟨⟨f,b',h3,h4,h5⟩,hr⟩=>by
  obtain⟨hl,hg⟩:=hr.get;refine⟨by simp[hl],λi o' hi=>?_⟩;cases i with
  | zero =>
   simp at hi;subst hi;subst h3;exact⟨b',by simp only[eM,f,kP,yr],by rw[f];exact fp ..,h4,h5⟩
  | succ i =>
   obtain⟨c',g,h,g3⟩:=hg i o' (by simpa using hi);rw[show n+1+i=n+(i+1) from by omega] at g h;refine⟨c',?_,fu _ h,g3⟩;simp only[eM];have:Nat.beq (n+(i+1)) m=false:=by
    cases hb:Nat.beq (n+(i+1)) m with
    | false=>rfl
    | true=>have:=bK hb;omega
   rw[this];exact g
theorem lT.keys{A':Nat->Prop}{a:bj}{h0:bX}{e':bj}:∀{d:List (Option Nat)}{l:List (Nat×Nm)}{n:Nat},lT A' a h0 e' w d l n→∀ c x,(c,x)∈l→∃ i o,c=n+i/\d[i]? = some o
 | [],[],n,_,c,x,b=>by simp at b
 | o::d,(m,y)::l,n,⟨⟨hm,_⟩,hr⟩,c,x,b=>by
  rcases eZ.1 b with e|b
  .simp_all
  .obtain⟨i,o',h1,h2⟩:=hr.keys c x b;exact⟨i+1,o',ab,by simpa using h2⟩
theorem ON{t:CT}{d:t.D}{v:Value}{rest:List SV}(hr:Rd A w t (λj=>[v][j]?) 0 d):az A env w (Dq t d) v:=by
 obtain⟨vs,hl,hc,a⟩:=xC (env:=env) t d _ 0 hr
 unfold Dq
 split
 next s hs=>rw[hs] at a;simp only[aO] at a;have h0:=hc 0 t.size_pos;grind
 .simp only[az]
theorem JB{t:CT}{d:t.D}{vs:List Value}(hl:vs.length=t.size)(hr:Rd A w t (λj=>vs[j]?) 0 d):aO A env w (cQ t d) vs:=by
 obtain⟨us,hlu,hc,hd⟩:=xC t d _ 0 hr
 have:us=vs:=by
  apply List.ext_getElem?;grind
 rw[← this];exact hd
theorem af7{k:Nat}{len:Nat×Nat}{E:TypeId}{t:CT}{xs:List t.D}(hr:qG A w k len E t xs):xs.length<=maxLen∧∀ x∈xs,t.wf x:=by
 obtain⟨vs,cap,_,_,h2,h3,h4,h5⟩:=hr
 refine⟨ab,λx hx=>?_⟩
 obtain⟨i,hi,rfl⟩:=List.mem_iff_getElem.1 hx
 exact IW _ _ _ _ (h5 i hi)
theorem bw3{a0:Option Nat}{t:CT}{ps:List PK}{a:List SV} {x} (e:(iq a0 (.agg t::ps) a).run h=some x):∃ cs r,a = .agg cs::r:=by
 cases a with
 | nil=>cases e
 | cons s r=>cases s <;> first|exact⟨_,_,rfl⟩|cases e
theorem ah2{a0:Option Nat}{o:OT}{ps:List PK}{a:List SV} {x} (e:(iq a0 (.ago o::ps) a).run h=some x):∃ cs r,a = .agg cs::r:=by
 cases a with
 | nil=>cases e
 | cons s r=>cases s <;> first|exact⟨_,_,rfl⟩|cases e
theorem ZZ{a0:Option Nat}{E:TypeId}{o:OT}{ps:List PK}{a:List SV} {x} (e:(iq a0 (.box E o::ps) a).run h=some x):∃ n r,a = .ptr n 0::r:=by
 cases a with
 | nil=>cases e
 | cons s r =>
  cases s with
  | ptr n off=>cases off with
   | zero=>exact⟨_,_,rfl⟩
   | succ k=>cases e
  | _=>cases e
theorem bO3{a0:Option Nat}{E:TypeId}{t:CT}{ps:List PK}{a:List SV} {x} (e:(iq a0 (.row E t::ps) a).run h=some x):∃ n sz r,a = .own n sz::r:=by
 cases a with
 | nil=>cases e
 | cons s r=>cases s <;> first|exact⟨_,_,_,rfl⟩|cases e
theorem bn5{a0:Option Nat}{E:TypeId}{t:CT}{ps:List PK}{a:List SV} {x} (e:(iq a0 (.own E t::ps) a).run h=some x):∃ v r,a=v::r:=by
 cases a with
 | nil=>cases e
 | cons s r=>exact⟨_,_,rfl⟩
theorem al4{a0:Option Nat}{ps:List PK}{a:List SV} {x} (e:(iq a0 (.nils::ps) a).run h=some x):∃ r,a = .nilsl::r:=by
 cases a with
 | nil=>cases e
 | cons s r=>cases s <;> first|exact⟨_,rfl⟩|cases e
theorem aM4{a0:Option Nat}{f:FuncId}{k:Nat}{ps:List PK}{a:List SV} {x} (e:(iq a0 (.fn f k::ps) a).run h=some x):∃ g cs r,a = .fn g cs::r:=by
 cases a with
 | nil=>cases e
 | cons s r=>cases s <;> first|exact⟨_,_,_,rfl⟩|cases e
theorem bI1{a0:Option Nat}{ts:List Nat}{k:Nat}{ps:List PK}{a:List SV} {x} (e:(iq a0 (.yld ts k::ps) a).run h=some x):∃ r us cs q,a = .yld r us cs::q:=by
 cases a with
 | nil=>cases e
 | cons s r=>cases s <;> first|exact⟨_,_,_,_,rfl⟩|cases e
theorem aV4{a0:Option Nat}{f:FuncId}{a:List SV} {x} (e:(uL a0 (.fnc f) a).run h=some x):∃ r,a = .fn f []::r/\x=(((),r,[],[],[]),[]):=by
 cases a with
 | nil=>cases e
 | cons s r =>
  cases s <;> first|cases e;done|skip
  rename_i g cs;cases cs <;> first|cases e;done|skip
  simp only[uL] at e;split at e
  next hb=>rw[bK hb];simp only[Q.run,cE] at e;exact⟨_,rfl,e.symm⟩
  .cases e
theorem as4{a0:Option Nat}{E:TypeId}{o:OT}{a:List SV} {x} (e:(uL a0 (.ref E o) a).run h=some x):∃ n r,a = .ptr n 0::r:=by
 cases a with
 | nil=>cases e
 | cons s r =>
  cases s with
  | ptr n off=>cases off with
   | zero=>exact⟨_,_,rfl⟩
   | succ k=>cases e
  | _=>cases e
theorem WP(m:Mod w0 N0 A env h w)(hA:∀ b,A b->Ac b){n:Nat}{E:TypeId}{t:CT}{xs:List t.D}(j:h n = .live (.row E t xs)) :
  (xs.length<=maxLen∧∀ x∈xs,t.wf x)∧∀(l:bj)(i:Nat),lT Ac env h l w [some n] [(i,.live (.row E t xs))] i:=by
 have f:=m.nm n
 rw[j] at f
 refine⟨?_,λl i=>⟨⟨rfl,_,rfl,rfl,.inl ⟨n,_,rfl,j,rfl,λk len g=>?_,λg=>?_⟩⟩,aN⟩⟩
 .rcases f with⟨k,len,a,d,_⟩|⟨c,E2,t2,d⟩
  .exact af7 d
  .grind
 .rcases f with⟨k',e,a,d,_⟩|⟨c,_⟩
  .rw[g] at a;cases a;obtain⟨us,cap,g1,g2,g3,g4,g5,g6⟩:=d;exact⟨us,cap,g1,g2,g3,g4,g5,λi hi=>iL hA (λ_ _ _=>rfl) _ _ _ _ _ (λ_ _=>rfl) (g6 i hi)⟩
  .rw[g] at c;cases c
 .rcases f with⟨k',e,a,d,_⟩|⟨c,E2,t2,d⟩
  .rw[g] at a;cases a
  .simp_all
theorem M4(m:Mod w0 N0 A env h w)(hA:∀ b,A b->Ac b){E:TypeId}{t:CT}{cs rest:List SV}{vs:List Value}{ys:List t.D}{f:Option Nat}{r:List Nat}
  (e:(Fl E t cs).run h=some ((ys,rest,f),r)) (l:aO A env w cs vs) :
  (ys.length<=maxLen∧∀ x∈ys,t.wf x)/\cs.length=rest.length+1/\(rest=cs.drop 1)∧∃ v c,vs=v::c/\aO A env w rest c∧∀(d:bj)(i:Nat),d i=rS env f->az Ac d w (.own i t.size) v/\lT Ac env h d w [f] [(i,.live (.row E t ys))] i:=by
 cases cs with
 | nil=>cases e
 | cons s cs =>
 cases s with
 | own n sz =>
  simp only[Fl,Q.run] at e;split at e
  .rename_i p0 q0 hk;obtain⟨rfl,rfl⟩:=e;split at hk
   .rename_i E' t' xs hl;split at hk
    next zs g a hc=>have g:=bK g;subst g;have a:=bK a;subst a;obtain⟨et,ez⟩:=lq hc;subst et;subst ez;obtain⟨⟨rfl,rfl,rfl⟩,rfl⟩:=hk;obtain⟨x,c,rfl,hv,j⟩:=l;obtain⟨h1,h2⟩:=WP m hA hl;refine⟨h1,rfl,rfl,x,c,rfl,j,λd i k=>⟨?_,h2 d i⟩⟩;simp only[az];rw[k];exact hv
    .cases hk
   .cases hk
  .cases e
 | nilsl =>
  obtain⟨⟨rfl,rfl,rfl⟩,rfl⟩:=e;obtain⟨x,c,rfl,rfl,j⟩:=l;refine⟨⟨aw,aw⟩,rfl,rfl,_,c,rfl,j,λd i k=>⟨?_,⟨rfl,_,rfl,rfl,.inr ⟨rfl,_,_,rfl⟩⟩,aN⟩⟩;exact .inl ⟨k,_,rfl⟩
 | _=>cases e
theorem bA6{b:Option Nat}{a:List SV} {x} (e:(uL b .ali a).run h=some x):∃ n r,a = .ptr n 0::r/\b=some n/\x=(((),r,[],[],[]),[]):=by
 cases a with
 | nil=>cases e
 | cons s r =>
  cases s with
  | ptr n off=>cases off with
   | zero=>cases b with
    | none=>cases e
    | some m =>
     have e:(match Nat.beq n m with|true=>(Q.ret ((),r,[],[],[]):Q (Unit×List SV×List (Nat×Nm)×List Nat×List (Option Nat)))|false=>Q.fail).run h=some x:=e;cases c:Nat.beq n m with
     | false=>rw[c] at e;cases e
     | true =>
      rw[c] at e;simp only[Q.run,cE] at e;exact⟨n,r,rfl,by rw[bK c],e.symm⟩
   | succ k=>cases e
  | _=>cases e
theorem Wz{a0:Option Nat}{n:Nat}(h:FT a0 n=none):False:=by cases a0 <;> cases h
theorem FM(m:Mod w0 N0 A env h w)(hA:∀ b,A b->Ac b)(a0:Option Nat):∀(o:OT)(cs:List SV)(vs:List Value)(d:o.D)(rest:List SV)(fz:List (Nat×Nm))(bx:List Nat)(cx:List (Option Nat))(r:List Nat)(j i:Nat),
  (uL a0 o cs).run h=some ((d,rest,fz,bx,cx),r)->aO A env w cs vs->(∀ k,iN env fz k->Ac k) →
  pV h fz/\o.wf d/\bx.length=o.nb/\cx.length=o.nc∧∃ us rs,vs=us++rs/\aO A env w rest rs ∧
   ((∀ n,a0=some n->envc PN=env n)->(∀ k n,bx[k]? = some n->envc (PN+(j+k))=env n)->(∀ k q,cx[k]? = some q->envc (QN+(i+k))=rS env q) →
     aO Ac envc w (zC o d j i) us/\lT Ac env h envc w (bx.map some) (zz o d j i) (PN+j)/\lT Ac env h envc w cx (Cq o d i) (QN+i))
 | .dat t,cs,vs,d,rest,fz,bx,cx,r,j,i,e,hd,hF=>by
  obtain⟨⟨d1,r1,f1⟩,q1,q2,e1,e2,rfl⟩:=Q.run_bind _ _ _ e;obtain⟨⟨rfl,rfl,rfl,rfl,rfl⟩,rfl⟩:=e2;obtain⟨p1,p2,p3,p4,p5⟩:=u9 m t cs vs d1 r1 f1 q1 e1 hd hA hF;refine⟨p1,IW _ _ _ _ p4,rfl,rfl,vs.take t.size,vs.drop t.size,(nZ _ _).symm,p5,λ_ _ _=>⟨?_,aN,aN⟩⟩;refine JB (by rw[dG];omega) ?_;refine iL (λ_ h=>h) (λ_ _ _=>rfl) t _ _ _ _ (λk hk=>?_) p4;simp_all
 | .row E t,cs,vs,d,rest,fz,bx,cx,r,j,i,e,hd,hF=>by
  obtain⟨⟨d1,r1,o1⟩,q1,q2,e1,e2,rfl⟩:=Q.run_bind _ _ _ e;obtain⟨⟨rfl,rfl,rfl,rfl,rfl⟩,rfl⟩:=e2;obtain⟨p1,-,-,v,vr,rfl,p2,p3⟩:=M4 m hA e1 hd;refine⟨λn b hh=>by simp at hh,p1,rfl,rfl,[v],vr,rfl,p2,λ_ _ hc=>?_⟩;obtain⟨k1,k2⟩:=p3 envc (QN+i) (hc 0 _ rfl);exact⟨⟨v,[],rfl,k1,rfl⟩,aN,k2⟩
 | .rowg E t,cs,vs,d,rest,fz,bx,cx,r,j,i,e,hd,hF=>by
  obtain⟨⟨d1,r1,o1⟩,q1,q2,e1,e2,rfl⟩:=Q.run_bind _ _ _ e;obtain⟨⟨rfl,rfl,rfl,rfl,rfl⟩,rfl⟩:=e2;obtain⟨p1,-,-,v,vr,rfl,p2,p3⟩:=M4 m hA e1 hd;refine⟨λn b hh=>by simp at hh,p1,rfl,rfl,[v],vr,rfl,p2,λ_ _ hc=>?_⟩;obtain⟨k1,k2⟩:=p3 envc (QN+i) (hc 0 _ rfl);exact⟨⟨v,[],rfl,k1,rfl⟩,aN,k2⟩
 | .fnc f,cs0,vs,d,rest,fz,bx,cx,r,j,i,e,hd,hF=>by
  obtain⟨cs,rfl,e2⟩:=aV4 e;obtain⟨⟨-,rfl,rfl,rfl,rfl⟩,rfl⟩:=e2;obtain⟨u,vr,rfl,hu,hvr⟩:=hd;refine⟨λn b hh=>by simp at hh,aN,rfl,rfl,[u],vr,rfl,hvr,λ_ _ _=>⟨?_,aN,aN⟩⟩;refine⟨u,[],rfl,?_,rfl⟩;exact hu
 | .ali,cs0,vs,d,rest,fz,bx,cx,r,j,i,e,hd,hF=>by
  obtain⟨n,cs,rfl,h0,e2⟩:=bA6 e;obtain⟨⟨-,rfl,rfl,rfl,rfl⟩,rfl⟩:=e2;obtain⟨u,vr,rfl,⟨k,len,hek,rfl⟩,hvr⟩:=hd;refine⟨λn b hh=>by simp at hh,aN,rfl,rfl,[_],vr,rfl,hvr,λha _ _=>⟨?_,aN,aN⟩⟩;simp only[zC,aO,az];simp_all
 | .ref E o,cs0,vs,d,rest,fz,bx,cx,r,j,i,e,hd,hF=>by
  obtain⟨n,cs,rfl⟩:=as4 e;simp only[uL,Q.run] at e;split at e
  .rename_i p0 q0 hk;obtain⟨rfl,rfl⟩:=e;split at hk
   .rename_i E' cs' hl;split at hk
    .rename_i hE;have hE:=bK hE;subst hE;obtain⟨⟨d1,r1,f1,b1,c1⟩,q1,q2,e1,e2,rfl⟩:=Q.run_bind _ _ _ hk;split at e2
     .rename_i hr1;subst hr1;obtain⟨⟨rfl,rfl,rfl,rfl,rfl⟩,rfl⟩:=e2;obtain⟨x,vr,rfl,⟨k,len,hek,rfl⟩,hr⟩:=hd;obtain⟨⟨us,hus,hdu⟩,_⟩:=m.live_blk hl hek;obtain⟨s1,s2,s3,s4,us',rs',s5,s6,s7⟩:=FM m hA a0 o cs' us.toList d1 [] f1 b1 c1 q1 (j+1) i e1 hdu hF;subst s6;rw[kY] at s5;subst s5;refine⟨s1,s2,by simp only[dP,s3,OT.nb],s4,[_],vr,rfl,hr,λha hb hc=>?_⟩;have h0:=hb 0 n rfl;obtain⟨k1,k2,k3⟩:=s7 ha (λk n hn=>by have:=hb (k+1) n (by simpa using hn);rwa [show j+(k+1)=j+1+k from by omega] at this) hc;refine⟨?_,⟨⟨rfl,_,rfl,rfl,.inl ⟨n,_,rfl,hl,rfl,λk' len' he=>?_,λhe=>?_⟩⟩,?_⟩,k3⟩
      .simp only[zC,aO,az];simp_all
      .rw[hek] at he;cases he;exact⟨us,hus,k1⟩
      .rw[hek] at he;cases he
      .omega
     .cases e2
    .cases hk
   .cases hk
  .cases e
 | .pair a b,cs,vs,d,rest,fz,bx,cx,r,j,i,e,hd,hF=>by
  obtain⟨⟨d1,r1,f1,b1,c1⟩,q1,q2,e1,e2,rfl⟩:=Q.run_bind _ _ _ e;obtain⟨⟨d2,r2,f2,b2,c2⟩,q3,q4,e3,e4,rfl⟩:=Q.run_bind _ _ _ e2;simp only[Q.run,cE,cC] at e4;obtain⟨⟨rfl,rfl,rfl,rfl,rfl⟩,rfl⟩:=e4;have hF1:∀ k,iN env f1 k->Ac k:=λk ⟨n,x,l,hx,he⟩=>hF k ⟨n,x,l,iA _ hx,he⟩;have hF2:∀ k,iN env f2 k->Ac k:=λk ⟨n,x,l,hx,he⟩=>hF k ⟨n,x,l,jD _ hx,he⟩;obtain⟨s1,s2,s3,s4,us,rs,rfl,s6,s7⟩:=FM m hA a0 a cs vs d1 r1 f1 b1 c1 q1 j i e1 hd hF1;obtain⟨t1,t2,t3,t4,us',rs',rfl,t6,t7⟩:=FM m hA a0 b r1 rs d2 r2 f2 b2 c2 q3 (j+a.nb) (i+a.nc) e3 s6 hF2;refine⟨λn b hh=>?_,⟨s2,t2⟩,by simp only[cL,s3,t3,OT.nb],by simp only[cL,s4,t4,OT.nc],us++us',rs',by rw[je],t6,λha hb hc=>?_⟩
  .rcases fC.1 hh with hh|hh
   .exact s1 n b hh
   .exact t1 n b hh
  .obtain⟨k1,k2,k3⟩:=s7 ha (λk n hn=>hb k n (by rw[nV (List.getElem?_eq_some_iff.1 hn).1];exact hn)) (λk q hq=>hc k q (by rw[nV (List.getElem?_eq_some_iff.1 hq).1];exact hq));obtain⟨l1,l2,l3⟩:=t7 ha (λk n hn=>by
     have:=hb (a.nb+k) n (by rw[nD ab,s3,ot];exact hn)
     rwa [show j+(a.nb+k)=j+a.nb+k from by omega] at this)
    (λk q hq=>by
     have:=hc (a.nc+k) q (by rw[nD ab,s4,ot];exact hq)
     rwa [show i+(a.nc+k)=i+a.nc+k from by omega] at this)
   refine⟨su k1 l1,?_,?_⟩
   .rw[lx];exact k2.append (by rw[mg,s3,iz];exact l2)
   .exact k3.append (by rw[s4,iz];exact l3)
theorem wg(m:Mod w0 N0 A env h w)(hA:∀ b,A b->Ac b):∀(a0:Option Nat)(ps:List PK)(svs:List SV)(vs:List Value)(d:bp ps)(fz:List (Nat×Nm))(bx:List Nat)(cx:List (Option Nat))(r:List Nat)(j i:Nat),
  (iq a0 ps svs).run h=some ((d,fz,bx,cx),r)->aO A env w svs vs->(∀ k,iN env fz k->Ac k) →
  pV h fz/\uE ps d/\((a0=none->j=0)->(∀ n,a0=some n->envc PN=env n)->(∀ k n,bx[k]? = some n->envc (PN+(j+k))=env n)->(∀ k q,cx[k]? = some q->envc (QN+(i+k))=rS env q) →
   aO Ac envc w (gV ps d j i) vs/\lT Ac env h envc w (bx.map some) (qF ps d j i) (PN+j)/\lT Ac env h envc w cx (tq ps d i) (QN+i))
 | a0,[],[],vs,d,fz,bx,cx,r,j,i,e,hd,hF=>by
  simp only[iq,Q.run,cE,cC] at e;obtain⟨⟨-,rfl,rfl,rfl⟩,rfl⟩:=e;exact⟨λn b hh=>by simp at hh,aN,λ_ _ _ _=>⟨by simpa[gV,aO] using hd,aN,aN⟩⟩
 | a0,.val t::ps,v::svs,vs,d,fz,bx,cx,r,j,i,e,hd,hF=>by
  simp only[iq] at e;obtain⟨⟨d1,r1,f1⟩,q1,q2,e1,e2,rfl⟩:=Q.run_bind _ _ _ e;split at e2
  .rename_i hr1;simp only at hr1;subst hr1;obtain⟨⟨d2,f2,b2,c2⟩,q3,q4,e3,e4,rfl⟩:=Q.run_bind _ _ _ e2;simp only[Q.run,cE,cC] at e4;obtain⟨⟨rfl,rfl,rfl,rfl⟩,rfl⟩:=e4;simp only[aO] at hd;obtain⟨x,vr,rfl,hx,hr⟩:=hd;have hF1:∀ k,iN env f1 k->Ac k:=λk ⟨n,x,l,hx,he⟩=>hF k ⟨n,x,l,iA _ hx,he⟩;have hF2:∀ k,iN env f2 k->Ac k:=λk ⟨n,x,l,hx,he⟩=>hF k ⟨n,x,l,jD _ hx,he⟩;obtain⟨p1,p2,p3,p4,_⟩:=u9 m t [v] [x] d1 [] f1 q1 e1 (by simp only[aO];exact⟨x,[],rfl,hx,rfl⟩) hA hF1;obtain⟨s1,s4,s6⟩:=wg m hA a0 ps svs vr d2 f2 b2 c2 q3 j i e3 hr hF2;refine⟨λn b hh=>?_,⟨IW _ _ _ _ p4,s4⟩,λhj ha hb hc=>?_⟩
   .rcases fC.1 hh with hh|hh
    .exact p1 n b hh
    .exact s1 n b hh
   .obtain⟨k1,k2,k3⟩:=s6 hj ha hb hc;refine⟨?_,k2,k3⟩;simp only[gV,aO];exact⟨x,vr,rfl,ON (rest:=[]) p4,k1⟩
  .cases e2
 | a0,.nils::ps,svs0,vs,d,fz,bx,cx,r,j,i,e,hd,hF=>by
  obtain⟨svs,rfl⟩:=al4 e;simp only[iq] at e;obtain⟨⟨d2,f2,b2,c2⟩,q3,q4,e3,e4,rfl⟩:=Q.run_bind _ _ _ e;simp only[Q.run,cE,cC] at e4;obtain⟨⟨rfl,rfl,rfl,rfl⟩,rfl⟩:=e4;simp only[aO,az] at hd;obtain⟨x,vr,rfl,rfl,hr⟩:=hd;obtain⟨s1,s4,s6⟩:=wg m hA a0 ps svs vr d2 f2 b2 c2 q3 j i e3 hr hF;refine⟨s1,⟨aN,s4⟩,λhj ha hb hc=>?_⟩;obtain⟨k1,k2,k3⟩:=s6 hj ha hb hc;refine⟨?_,k2,k3⟩;simp only[gV,aO,az];grind
 | a0,.yld ts k::ps,svs0,vs,d,fz,bx,cx,r,j,i,e,hd,hF=>by
  obtain⟨rc,us',cs,svs,rfl⟩:=bI1 e;simp only[iq] at e;split at e
  .rename_i hf hk;have hf:=JZ hf;have hk:=bK hk;subst hf;obtain⟨⟨d2,f2,b2,c2⟩,q3,q4,e3,e4,rfl⟩:=Q.run_bind _ _ _ e;simp only[Q.run,cE,cC] at e4;obtain⟨⟨rfl,rfl,rfl,rfl⟩,rfl⟩:=e4;simp only[aO,az] at hd;obtain⟨x,vr,rfl,⟨l,rfl,hl,hu⟩,hr⟩:=hd;have hul:=jl hu;obtain⟨s1,s4,s6⟩:=wg m hA a0 ps (cs++svs) (_++vr) d2 f2 b2 c2 q3 j i e3 (su hu hr) hF;refine⟨s1,⟨aN,s4⟩,λhj ha hb hc=>?_⟩;obtain⟨k1,k2,k3⟩:=s6 hj ha hb hc;refine⟨?_,k2,k3⟩;simp only[gV,aO,az];refine⟨_,vr,rfl,⟨l,rfl,hl,?_⟩,?_⟩
   .have:=AK k k1;simp_all
   .have:=A8 k k1;simp_all
  .cases e
 | a0,.fn f k::ps,svs0,vs,d,fz,bx,cx,r,j,i,e,hd,hF=>by
  obtain⟨g,cs,svs,rfl⟩:=aM4 e;simp only[iq] at e;split at e
  .rename_i hf hk;have hf:=bK hf;have hk:=bK hk;subst hf;obtain⟨⟨d2,f2,b2,c2⟩,q3,q4,e3,e4,rfl⟩:=Q.run_bind _ _ _ e;simp only[Q.run,cE,cC] at e4;obtain⟨⟨rfl,rfl,rfl,rfl⟩,rfl⟩:=e4;simp only[aO,az] at hd;obtain⟨x,vr,rfl,⟨us,rfl,hu⟩,hr⟩:=hd;have hul:=jl hu;obtain⟨s1,s4,s6⟩:=wg m hA a0 ps (cs++svs) (us.toList++vr) d2 f2 b2 c2 q3 j i e3 (su hu hr) hF;refine⟨s1,⟨aN,s4⟩,λhj ha hb hc=>?_⟩;obtain⟨k1,k2,k3⟩:=s6 hj ha hb hc;refine⟨?_,k2,k3⟩;simp only[gV,aO,az];refine⟨_,vr,rfl,⟨us,rfl,?_⟩,?_⟩
   .have:=AK k k1;simp_all
   .have:=A8 k k1;simp_all
  .cases e
 | a0,.agg t::ps,svs0,vs,d,fz,bx,cx,r,j,i,e,hd,hF=>by
  obtain⟨cs,svs,rfl⟩:=bw3 e;simp only[iq] at e;obtain⟨⟨d1,r1,f1⟩,q1,q2,e1,e2,rfl⟩:=Q.run_bind _ _ _ e;split at e2
  .rename_i hr1;simp only at hr1;subst hr1;obtain⟨⟨d2,f2,b2,c2⟩,q3,q4,e3,e4,rfl⟩:=Q.run_bind _ _ _ e2;simp only[Q.run,cE,cC] at e4;obtain⟨⟨rfl,rfl,rfl,rfl⟩,rfl⟩:=e4;simp only[aO,az] at hd;obtain⟨x,vr,rfl,⟨us,rfl,hx⟩,hr⟩:=hd;have hF1:∀ k,iN env f1 k->Ac k:=λk ⟨n,x,l,hx,he⟩=>hF k ⟨n,x,l,iA _ hx,he⟩;have hF2:∀ k,iN env f2 k->Ac k:=λk ⟨n,x,l,hx,he⟩=>hF k ⟨n,x,l,jD _ hx,he⟩;obtain⟨p1,p2,p3,p4,_⟩:=u9 m t cs us.toList d1 [] f1 q1 e1 hx hA hF1;obtain⟨s1,s4,s6⟩:=wg m hA a0 ps svs vr d2 f2 b2 c2 q3 j i e3 hr hF2;refine⟨λn b hh=>?_,⟨IW _ _ _ _ p4,s4⟩,λhj ha hb hc=>?_⟩
   .rcases fC.1 hh with hh|hh
    .exact p1 n b hh
    .exact s1 n b hh
   .obtain⟨k1,k2,k3⟩:=s6 hj ha hb hc;refine⟨?_,k2,k3⟩;simp only[gV,aO,az];exact⟨_,vr,rfl,⟨us,rfl,JB (by simpa using p3) p4⟩,k1⟩
  .cases e2
 | a0,.box E o::ps,svs0,vs,d,fz,bx,cx,r,j,i,e,hd,hF=>by
  obtain⟨n,svs,rfl⟩:=ZZ e;simp only[iq,Q.run] at e;split at e
  .rename_i p0 q0 hk;simp only[cE,cC] at e;obtain⟨rfl,rfl⟩:=e;split at hk
   .rename_i E' cs hl;split at hk
    .rename_i hE;have hE:=bK hE;subst hE;obtain⟨⟨d1,r1,f1,b1,c1⟩,q1,q2,e1,e2,rfl⟩:=Q.run_bind _ _ _ hk;split at e2
     .rename_i hr1;simp only at hr1;subst hr1;obtain⟨⟨d2,f2,b2,c2⟩,q3,q4,e3,e4,rfl⟩:=Q.run_bind _ _ _ e2;simp only[Q.run,cE,cC] at e4;obtain⟨⟨rfl,rfl,rfl,rfl⟩,rfl⟩:=e4;simp only[aO,az] at hd;obtain⟨x,vr,rfl,⟨k,len,hek,rfl⟩,hr⟩:=hd;obtain⟨⟨us,hus,hdu⟩,_⟩:=m.live_blk hl hek;have hF1:∀ k,iN env f1 k->Ac k:=λk ⟨n,x,l,hx,he⟩=>hF k ⟨n,x,l,iA _ hx,he⟩;have hF2:∀ k,iN env f2 k->Ac k:=λk ⟨n,x,l,hx,he⟩=>hF k ⟨n,x,l,jD _ hx,he⟩;obtain⟨p1,p2,p3,p4,us',rs',p5,p6,p7⟩:=FM (envc:=envc) m hA a0 o cs us.toList d1 [] f1 b1 c1 q1 (j+1) i e1 hdu hF1;simp only[aO] at p6;subst p6;rw[kY] at p5;subst p5;obtain⟨s1,s4,s6⟩:=wg m hA (FT a0 n) ps svs vr d2 f2 b2 c2 q3 (j+1+o.nb) (i+o.nc) e3 hr hF2;refine⟨λn b hh=>?_,⟨p2,s4⟩,λhj ha hb hc=>?_⟩
      .rcases fC.1 hh with hh|hh
       .exact p1 n b hh
       .exact s1 n b hh
      .have h0:=hb 0 n rfl;rw[kP] at h0;obtain⟨k1,k2,k3⟩:=p7 ha
        (λk n hn=>by
         have:=hb (k+1) n (by simp only[List.getElem?_cons_succ];rw[nV (List.getElem?_eq_some_iff.1 hn).1];exact hn)
         rwa [show j+(k+1)=j+1+k from by omega] at this)
        (λk q hq=>hc k q (by rw[nV (List.getElem?_eq_some_iff.1 hq).1];exact hq))
       obtain⟨l1,l2,l3⟩:=s6 (λq=>(Wz q).elim) (λn' hn=>by cases a0 with|some m=>exact ha n' hn|none=>cases hn;have e:=hj rfl;rw[e,kP] at h0;exact h0)
        (λk n hn=>by
         have:=hb (o.nb+k+1) n (by simp only[List.getElem?_cons_succ];rw[nD ab,p3,ot];exact hn)
         rwa [show j+(o.nb+k+1)=j+1+o.nb+k from by omega] at this)
        (λk q hq=>by
         have:=hc (o.nc+k) q (by rw[nD ab,p4,ot];exact hq)
         rwa [show i+(o.nc+k)=i+o.nc+k from by omega] at this)
       refine⟨?_,⟨⟨rfl,_,rfl,rfl,.inl ⟨n,_,rfl,hl,rfl,λk' len' he=>?_,λhe=>?_⟩⟩,?_⟩,?_⟩
       .simp only[gV,aO,az];exact⟨_,vr,rfl,⟨k,len,by rw[h0];exact hek,rfl⟩,l1⟩
       .rw[hek] at he;cases he;exact⟨us,hus,k1⟩
       .rw[hek] at he;cases he
       .rw[lx,show PN+j+1=PN+(j+1) from by omega];exact k2.append (by rw[mg,p3,show PN+(j+1)+o.nb=PN+(j+1+o.nb) from by omega];exact l2)
       .exact k3.append (by rw[p4,iz];exact l3)
     .cases e2
    .cases hk
   .cases hk
  .cases e
 | a0,.ago o::ps,svs0,vs,d,fz,bx,cx,r,j,i,e,hd,hF=>by
  obtain⟨cs,svs,rfl⟩:=ah2 e;simp only[iq] at e;split at e
  .rename_i hnb;have hnb:=bK hnb;obtain⟨⟨d1,r1,f1,b1,c1⟩,q1,q2,e1,e2,rfl⟩:=Q.run_bind _ _ _ e;split at e2
   .rename_i hr1;simp only at hr1;subst hr1;obtain⟨⟨d2,f2,b2,c2⟩,q3,q4,e3,e4,rfl⟩:=Q.run_bind _ _ _ e2;simp only[Q.run,cE,cC] at e4;obtain⟨⟨rfl,rfl,rfl,rfl⟩,rfl⟩:=e4;simp only[aO,az] at hd;obtain⟨x,vr,rfl,⟨us,rfl,hdu⟩,hr⟩:=hd;have hF1:∀ k,iN env f1 k->Ac k:=λk ⟨n,x,l,hx,he⟩=>hF k ⟨n,x,l,iA _ hx,he⟩;have hF2:∀ k,iN env f2 k->Ac k:=λk ⟨n,x,l,hx,he⟩=>hF k ⟨n,x,l,jD _ hx,he⟩;obtain⟨p1,p2,p3,p4,us',rs',p5,p6,p7⟩:=FM (envc:=envc) m hA a0 o cs us.toList d1 [] f1 b1 c1 q1 j i e1 hdu hF1;simp only[aO] at p6;subst p6;rw[kY] at p5;subst p5;have hb1:b1=[]:=BC (by rw[p3,hnb]);subst hb1;obtain⟨s1,s4,s6⟩:=wg m hA a0 ps svs vr d2 f2 b2 c2 q3 j (i+o.nc) e3 hr hF2;refine⟨λn b hh=>?_,⟨p2,s4⟩,λhj ha hb hc=>?_⟩
    .rcases fC.1 hh with hh|hh
     .exact p1 n b hh
     .exact s1 n b hh
    .obtain⟨k1,k2,k3⟩:=p7 ha (λk n hn=>by simp at hn)
      (λk q hq=>hc k q (by rw[nV (List.getElem?_eq_some_iff.1 hq).1];exact hq))
     obtain⟨l1,l2,l3⟩:=s6 hj ha hb
      (λk q hq=>by
       have:=hc (o.nc+k) q (by rw[nD ab,p4,ot];exact hq)
       rwa [show i+(o.nc+k)=i+o.nc+k from by omega] at this)
     refine⟨?_,l2,?_⟩
     .simp only[gV,aO,az];exact⟨_,vr,rfl,⟨us,rfl,k1⟩,l1⟩
     .exact k3.append (by rw[p4,iz];exact l3)
   .cases e2
  .cases e
 | a0,.own E t::ps,svs0,vs,d,fz,bx,cx,r,j,i,e,hd,hF=>by
  obtain⟨v,svs,rfl⟩:=bn5 e;simp only[iq] at e;obtain⟨⟨d1,r1,o1⟩,q1,q2,e1,e2,rfl⟩:=Q.run_bind _ _ _ e;obtain⟨⟨d2,f2,b2,c2⟩,q3,q4,e3,e4,rfl⟩:=Q.run_bind _ _ _ e2;simp only[Q.run,cE,cC] at e4;obtain⟨⟨rfl,rfl,rfl,rfl⟩,rfl⟩:=e4;simp only[aO] at hd;obtain⟨x,vr,rfl,hx,hr⟩:=hd;obtain⟨p1,-,-,v',vr',p2,-,p3⟩:=M4 m hA e1 (vs:=[x]) (by simp only[aO];exact⟨x,[],rfl,hx,rfl⟩);cases p2;obtain⟨s1,s4,s6⟩:=wg m hA a0 ps svs vr d2 f2 b2 c2 q3 j (i+1) e3 hr hF;refine⟨s1,⟨p1,s4⟩,λhj ha hb hc=>?_⟩;obtain⟨k1,k2⟩:=p3 envc (QN+i) (hc 0 _ rfl);obtain⟨l1,l2,l3⟩:=s6 hj ha hb (λk q hq=>by have:=hc (k+1) q (by simpa using hq);rwa [show i+(k+1)=i+1+k from by omega] at this);refine⟨?_,l2,?_⟩
  .simp only[gV,aO];exact⟨x,vr,rfl,k1,l1⟩
  .exact⟨k2.1,by rw[show QN+i+1=QN+(i+1) from by omega];exact l3⟩
 | a0,.row E t::ps,svs0,vs,d,fz,bx,cx,r,j,i,e,hd,hF=>by
  obtain⟨n,sz,svs,rfl⟩:=bO3 e;simp only[iq,Q.run] at e;split at e
  .rename_i p0 q0 hk;simp only[cE,cC] at e;obtain⟨rfl,rfl⟩:=e;split at hk
   .rename_i E' t' xs hl;split at hk
    next ys hE hsz hc=>have hE:=bK hE;subst hE;have hsz:=bK hsz;subst hsz;obtain⟨et,ez⟩:=lq hc;subst et;simp only at ez;subst ez;obtain⟨⟨d2,f2,b2,c2⟩,q3,q4,e3,e4,rfl⟩:=Q.run_bind _ _ _ hk;simp only[Q.run,cE,cC] at e4;obtain⟨⟨rfl,rfl,rfl,rfl⟩,rfl⟩:=e4;simp only[aO,az] at hd;obtain⟨x,vr,rfl,hv,hr⟩:=hd;obtain⟨s1,s4,s6⟩:=wg m hA (FT a0 n) ps svs vr d2 f2 b2 c2 q3 (j+1) i e3 hr hF;obtain⟨hw,hlk⟩:=WP m hA hl;refine⟨s1,⟨hw,s4⟩,λhj ha hb hc=>?_⟩;have h0:=hb 0 n rfl;rw[kP] at h0;obtain⟨l1,l2,l3⟩:=s6 (λq=>(Wz q).elim) (λn' hn=>by cases a0 with|some m=>exact ha n' hn|none=>cases hn;have e:=hj rfl;rw[e,kP] at h0;exact h0) (λk n hn=>by have:=hb (k+1) n (by simpa using hn);rwa [show j+(k+1)=j+1+k from by omega] at this) hc;refine⟨?_,⟨(hlk envc (PN+j)).1,by rw[show PN+j+1=PN+(j+1) from by omega];exact l2⟩,l3⟩;simp only[gV,aO,az];exact⟨_,vr,rfl,by rw[h0];exact hv,l1⟩
    .cases hk
   .cases hk
  .cases e
 | a0,[],_::_,_,_,_,_,_,_,_,_,e,_,_=>by simp[iq,Q.run] at e
 | _,.val _::_,[],_,_,_,_,_,_,_,_,e,_,_=>by simp[iq,Q.run] at e
end
end Go.SX
namespace Go.SX
section
variable {w0:World} {N0:fK} {A Ac:Nat->Prop} {env:bj} {h:bX} {w:World}
def Fb:List Nat->Bool
 | []=>true
 | n::r => !qy n r&&Fb r
theorem Qr:∀{l:List Nat},Fb l=true->l.Nodup
 | [],_=>List.nodup_nil
 | n::r,h=>by
  simp only[Fb,fe,pF] at h;refine List.nodup_cons.2 ⟨λhm=>?_,Qr h.2⟩;rw[zX.2 hm] at h;cases h.1
def lH:List (Option Nat)->List Nat
 | []=>[]
 | none::r=>lH r
 | some n::r=>n::lH r
theorem y9{n:Nat}:∀{l:List (Option Nat)},n∈lH l↔some n∈l
 | []=>by simp[lH]
 | none::r=>by simp[lH,y9 (l:=r)]
 | some m::r=>by simp[lH,y9]
theorem Ox{n:Nat}:∀{l:List (Option Nat)}{i i':Nat},(lH l).Nodup->l[i]? = some (some n)->l[i']? = some (some n)->i=i'
 | none::r,i,i',b,h,a=>by
  cases i with
  | zero=>simp at h
  | succ i=>cases i' with
   | zero=>simp at a
   | succ i'=>have:=Ox (i':=i') (l:=r) b (by simpa using h) (by simpa using a);omega
 | some m::r,i,i',b,h,a=>by
  obtain⟨c,h2⟩:=List.nodup_cons.1 b;cases i with
  | zero =>
   simp at h;subst h;cases i' with
   | zero=>rfl
   | succ i'=>exact absurd (y9.2 (sK (by simpa using a))) c
  | succ i=>cases i' with
   | zero=>simp at a;subst a;exact absurd (y9.2 (sK (by simpa using h))) c
   | succ i'=>have:=Ox (i':=i') h2 (by simpa using h) (by simpa using a);omega
def rZ(bx:List Nat)(cx:List (Option Nat))(n:Nat):Option (Option Nat):=match Nat.ble QN n with
 | true=>cx[n-QN]?
 | false=>match Nat.ble PN n with
  | true=>match bx[n-PN]? with
   | some m=>some (some m)
   | none=>none
  | false=>none
def qP(env:bj)(bx:List Nat)(cx:List (Option Nat)):bj:=λn=>match rZ bx cx n with
 | some o=>rS env o
 | none => .un
theorem Ww{bx:List Nat}{cx:List (Option Nat)}{i n:Nat}(hl:bx.length<=PN)(hi:bx[i]? = some n):rZ bx cx (PN+i)=some (some n):=by
 have hlt:=(List.getElem?_eq_some_iff.1 hi).1
 have h2:QN=PN+PN:=rfl
 unfold rZ
 have h1:Nat.ble QN (PN+i)=false:=by
  cases hb:Nat.ble QN (PN+i) with
  | false=>rfl
  | true=>have:=lZ hb;omega
 rw[h1,Nat.ble_eq_true_of_le ab]
 simp_all
theorem X2{bx:List Nat}{cx:List (Option Nat)}{i:Nat}{o:Option Nat}(hi:cx[i]? = some o):rZ bx cx (QN+i)=some o:=by
 unfold rZ
 rw[Nat.ble_eq_true_of_le ab]
 simp_all
theorem I8{bx:List Nat}{cx:List (Option Nat)}{n:Nat}{o:Option Nat}(e:rZ bx cx n=some o):(∃ i m,bx[i]? = some m/\n=PN+i/\n<QN/\o=some m)∨∃ i,cx[i]? = some o/\n=QN+i:=by
 unfold rZ at e
 split at e
 next a=>have:=lZ a;grind
 next a=>
  have hlt:n<QN:=by
   refine Nat.lt_of_not_le λb=>?_;rw[Nat.ble_eq_true_of_le b] at a;cases a
  split at e
  next a=>have:=lZ a;grind
  .cases e
theorem MJ{bx:List Nat}{cx:List (Option Nat)}{i n:Nat}(hl:bx.length<=PN)(hi:bx[i]? = some n):qP env bx cx (PN+i)=env n:=by
 unfold qP;rw[Ww hl hi];rfl
theorem aC5{bx:List Nat}{cx:List (Option Nat)}{i:Nat}{o:Option Nat}(hi:cx[i]? = some o):qP env bx cx (QN+i)=rS env o:=by
 unfold qP;rw[X2 hi]
def Hv(env:bj)(bx:List Nat)(k:Nat):Prop:=∃ n l,n∈bx/\env n = .blk k l
theorem Nz{a b:List (Nat×Nm)}{n:Nat}:eM (a++b) n=if n∈a.map (·.1) then eM a n else eM b n:=by
 induction a with
 | nil=>simp
 | cons p a ih =>
  obtain⟨m,x⟩:=p;simp only[nO,eM,fV,eZ];cases c:Nat.beq n m with
  | true=>have:=bK c;simp[this]
  | false =>
   have d:¬ n=m:=λe=>by rw[e,yr] at c;cases c
   simp only[d,false_or,ih]
theorem bR6{A':Nat->Prop}{g:bj}{bx:List Nat}{cx:List (Option Nat)}{d f:List (Nat×Nm)}(hl:bx.length<=PN)(y:lT A' env h g w (bx.map some) d PN)(z:lT A' env h g w cx f QN) :
  (∀ n o,rZ bx cx n=some o→∃ b',eM (d++f) n = .live b'∧b'.mut=true/\((∃ q b,o=some q/\h q = .live b/\b.mut=true/\(∀ k len,env q = .blk k len->kg A' g w k len b')/\(env q = .nil→∃ E t,b' = .row E t []))∨(o=none∧∃ E t,b' = .row E t []))) ∧
  (∀ n,rZ bx cx n=none->eM (d++f) n = .un):=by
 obtain⟨hbl,j⟩:=y.get
 obtain⟨hcl,l⟩:=z.get
 have kb:∀ n,n∈d.map (·.1)→∃ i,i<bx.length/\n=PN+i:=λn p=>by
  obtain⟨⟨n',x⟩,r,rfl⟩:=List.mem_map.1 p;obtain⟨i,o,A,s⟩:=y.keys _ _ r;grind
 have kc:∀ n,n∈f.map (·.1)→∃ i o,cx[i]? = some o/\n=QN+i:=λn p=>by
  obtain⟨⟨n',x⟩,r,rfl⟩:=List.mem_map.1 p;obtain⟨i,o,A,s⟩:=z.keys _ _ r;exact⟨i,o,s,A⟩
 have s:QN=PN+PN:=rfl
 refine⟨λn o e=>?_,λn e=>?_⟩
 .rcases I8 e with⟨i,m,c,rfl,hlt,rfl⟩|⟨i,c,rfl⟩
  .obtain⟨b',u,B,v⟩:=j i (some m) (by simp[c]);refine⟨b',?_,v⟩;rw[Nz,aj (yd B)];exact u
  .obtain⟨b',u,B,v⟩:=l i o c;refine⟨b',?_,v⟩;rw[Nz,ah]
   .exact u
   .grind
 .rw[Nz,ah]
  .refine QR λa=>?_;obtain⟨i,o,c,rfl⟩:=kc n a;rw[X2 c] at e;cases e
  .intro a;obtain⟨i,c,rfl⟩:=kb n a;rw[Ww hl (cM c)] at e;cases e
theorem Mod.call(m:Mod w0 N0 A env h w){G H:List (Nat×Nm)}{fz:List (Nat×Nm)}{bx:List Nat}{cx:List (Option Nat)}(hfz:pV h fz)(r:bx.length<=PN)
  (s:lT (jd A env fz) env h (qP env bx cx) w (bx.map some) G PN) (hc:lT (jd A env fz) env h (qP env bx cx) w cx H QN)
  (hdj:∀ n,n∈bx++lH cx->n ∉ fz.map (·.1)) (u:(bx++lH cx).Nodup) :
  Mod w ⟨Hv env (bx++lH cx),jd A env fz,N0.g⟩ (jd A env fz) (qP env bx cx) (eM (G++H)) w:=by
 obtain⟨v,x⟩:=bR6 r s hc
 have mf:=(m.freeze hfz).1
 have memS:∀ {n o q},rZ bx cx n=some o->o=some q->q∈bx++lH cx:=λ{n o q} e eo=>by
  subst eo;rcases I8 e with⟨i,m,hi,_,_,e⟩|⟨i,hi,_⟩
  .grind
  .exact jD _ (y9.2 (sK hi))
 have y:∀ {n n' q},rZ bx cx n=some (some q)->rZ bx cx n'=some (some q)->n=n':=λ{n n' q} e e'=>by
  obtain⟨z,B,hn3⟩:=List.nodup_append.1 u;rcases I8 e with⟨i,m,hi,rfl,_,em⟩|⟨i,hi,rfl⟩ <;> rcases I8 e' with⟨i',m',hi',rfl,_,em'⟩|⟨i',hi',rfl⟩
  .cases em;cases em';have:=(List.getElem?_inj (List.getElem?_eq_some_iff.1 hi).1 z).1 (hi.trans hi'.symm);rw[this]
  .cases em;exact absurd rfl (hn3 _ (sK hi) _ (y9.2 (sK hi')))
  .cases em';exact absurd rfl (hn3 _ (sK hi') _ (y9.2 (sK hi)))
  .rw[Ox B hi hi']
 have blk:∀ {n k l},qP env bx cx n = .blk k l→∃ q,rZ bx cx n=some (some q)/\env q = .blk k l:=λ{n k l} he=>by
  unfold qP at he;split at he
  .rename_i o ho;cases o with
   | none=>cases he
   | some q=>exact⟨q,ho,he⟩
  .cases he
 refine⟨rfl,rfl,rfl,eT _,eT _,λ_ _ _=>rfl,mf.Alt,?_,?_,?_,λb s=>.inl s,mf.gl⟩
 .intro n;cases hs:rZ bx cx n with
  | none =>
   rw[x n hs];show qP env bx cx n = .un;unfold qP;rw[hs]
  | some o =>
   obtain⟨b',g1,g4,C⟩:=v n o hs;rw[g1];have he:qP env bx cx n=rS env o:=by unfold qP;rw[hs]
   rcases C with⟨q,b,rfl,j,D,C,g6⟩|⟨rfl,E,t,a⟩
   .have p:=m.nm q;rw[j] at p;rcases p with⟨kk,len,e1,_⟩|⟨e1,_⟩
    .refine .inl ⟨kk,len,by rw[he];exact e1,C _ _ e1,λ_ hA=>?_⟩;rcases hA with hA|⟨n',x',F,hx,he'⟩
     .grind
     .obtain⟨E,t,xs,d,_⟩:=hfz n' x' hx;have:=m.inj q n' b _ kk len F j d D rfl e1 he';grind
    .obtain⟨E,t,e⟩:=g6 e1;exact .inr ⟨by rw[he];exact e1,E,t,.inl e⟩
   .exact .inr ⟨by rw[he];rfl,E,t,.inl a⟩
 .intro n b k l r p he;obtain⟨q,hs,a⟩:=blk he;exact .inl ⟨q,l,memS hs rfl,a⟩
 .intro n n' b c k l F r d p hm' he he';obtain⟨q,hs,e1⟩:=blk he;obtain⟨q',f,a⟩:=blk he';obtain⟨b1,_,_,⟨q1,c1,e,j,D,_⟩|⟨e,_⟩⟩:=v n _ hs
  .obtain⟨b2,_,_,⟨q2,c2,e',f2,f3,_⟩|⟨e',_⟩⟩:=v n' _ f
   .cases e;cases e';have:=m.inj q q' c1 c2 k l F j f2 D f3 e1 a;subst this;exact y hs f
   .cases e'
  .cases e
def mN(R:Rn)(env env1:bj):bj:=λn=>match cN R n with
 | none=>env n
 | some _=>jJ R env1 n
theorem Mod.retn{As A' A1:Nat->Prop}{env1:bj}{hs h1:bX}{w1:World}{Nc:fK}{U:List (Nat×Nm)}{R:Rn}
  (ms:Mod w0 N0 As env hs w) (m1:Mod w Nc A1 env1 h1 w1) (hshape:∀ b s,w.shape? b=some s->w1.shape? b=some s)
  (hU:∀ n x,(n,x)∈U->x = .dead∨∃ b,x = .live b/\b.mut=true/\((∃ m b0,cN R n=some (some m)/\h1 m = .live b0/\b0.mut=true ∧
   (∀ k len,env1 m = .blk k len->kg A' (mN R env env1) w1 k len b)/\(env1 m = .nil→∃ E t,b = .row E t []))∨(cN R n=some none∧∃ E t,b = .row E t [])))
  (hdom:∀ n,cN R n≠none->n∈U.map (·.1)) (hinj:jx R)
  (hold:∀ n,cN R n≠none->hs n = .un∨∃ b,hs n = .live b/\b.mut=true/\(jJ R env1 n=env n))
  (hNc:∀ k,Nc.n k→∃ n b l,n∈U.map (·.1)/\hs n = .live b/\b.mut=true/\env n = .blk k l)
  (hA:∀ b,As b->A' b) (hA1:∀ b,A' b->As b∨((Nc.n b∨w.heap.size<=b)/\b<w1.heap.size))
  (hAm:∀ m b k l,h1 m = .live b->b.mut=true->env1 m = .blk k l->(∃ n,cN R n=some (some m))→¬ A' k) :
  Mod w0 N0 A' (mN R env env1) (dA U hs) w1/\dH As env w A' (mN R env env1) w1:=by
 have src:∀ k,(Nc.n k∨w.heap.size<=k)->Jr (λn=>n∈U.map (·.1)) env hs w k:=λk hk=>by
  rcases hk with hk|hk
  .obtain⟨n,b,l,e1,e2,e3,e4⟩:=hNc k hk;exact .inr ⟨n,b,l,e1,e2,e3,e4⟩
  .exact .inl hk
 have mem:∀ n,n∈U.map (·.1)->(n,dA U hs n)∈U:=λn hn=>by
  have hl:∀(V:List (Nat×Nm)) ,n∈V.map (·.1)->(n,dA V hs n)∈V:=by
   intro V
   induction V with
   | nil=>intro h;simp at h
   | cons p V ih =>
    obtain⟨q,y⟩:=p;intro h;by_cases hq:n=q
    .subst hq;simp[dA]
    .rw[dA,bX.set_other _ _ hq];rcases eZ.1 h with e|h
     .exact absurd e hq
     .exact fu _ (ih h)
  exact hl U hn
 have envR:∀ n y,cN R n=some y->mN R env env1 n=jJ R env1 n:=λn y hn=>by
  unfold mN;rw[hn]
 have u:lG (λn=>n∈U.map (·.1)) Nc.n As env hs w A' (mN R env env1) (dA U hs) w1:=by
  refine⟨⟨m1.os,m1.tape,m1.output,m1.dr,m1.size,m1.fr,hshape⟩,?_,hA,?_,?_,?_,λn hn=>qH hn,?_,?_,?_⟩
  .intro k hk;obtain⟨n,b,l,e1,e2,e3,e4⟩:=hNc k hk;exact⟨n,b,l,e1,e2,e3,e4⟩
  .intro b hb;rcases hA1 b hb with h|⟨h,h'⟩
   .exact .inl h
   .exact .inr ⟨src b h,h'⟩
  .intro n hn;unfold mN;cases hl:cN R n with
   | none=>rfl
   | some y=>exact absurd (hdom n (by rw[hl];simp)) hn
  .intro n hn;unfold mN;cases hl:cN R n with
   | none=>rfl
   | some y =>
    rcases hold n (by rw[hl];simp) with h|⟨b,_,_,h⟩
    .exact absurd (by have:=ms.nm n;rw[h] at this;exact this) hn
    .exact h
  .intro n hn;have hmem:=mem n hn;rcases hU n _ hmem with e|⟨b,e,hmut,hh⟩
   .rw[e];trivial
   .rw[e];rcases hh with⟨m',b0,e1,e2,e3,e4,e5⟩|⟨e1,E,t,e2⟩
    .have he:mN R env env1 n=env1 m':=by rw[envR n _ e1,wO e1]
     have hm':=m1.nm m';rw[e2] at hm';rcases hm' with⟨k,len,he',_,_⟩|⟨he',_⟩
     .exact .inl ⟨k,len,he.trans he',e4 k len he',λ_=>hAm m' b0 k len e2 e3 he' ⟨n,e1⟩⟩
     .obtain⟨E,t,e⟩:=e5 he';exact .inr ⟨he.trans he',E,t,.inl e⟩
    .exact .inr ⟨by rw[envR n _ e1,Et e1],E,t,.inl e2⟩
  .intro n b k l hn hl hm he;have hmem:=mem n hn;rw[hl] at hmem;rcases hU n _ hmem with e|⟨b',e,hmut,hh⟩
   .cases e
   .rcases hh with⟨m',b0,e1,e2,e3,_⟩|⟨e1,_⟩
    .rw[envR n _ e1,wO e1] at he;exact src k (m1.own m' b0 k l e2 e3 he)
    .rw[envR n _ e1,Et e1] at he;cases he
  .intro n n' b c k l l' hn hn' hl hl' hm hm' he he';have hmem1:=mem n hn;have hmem2:=mem n' hn';rw[hl] at hmem1;rw[hl'] at hmem2;rcases hU n _ hmem1 with e|⟨_,_,_,hh1⟩
   .cases e
   rcases hU n' _ hmem2 with e|⟨_,_,_,hh2⟩
   .cases e
   rcases hh1 with⟨m',b0,e1,e2,e3,_⟩|⟨e1,_⟩
   .rw[envR n _ e1,wO e1] at he;rcases hh2 with⟨m2,c0,f1,f2,f3,_⟩|⟨f1,_⟩
    .rw[envR n' _ f1,wO f1] at he';have:=m1.inj m' m2 b0 c0 k l l' e2 f2 e3 f3 he he';subst this;exact hinj n n' m' e1 f1
    .rw[envR n' _ f1,Et f1] at he';cases he'
   .rw[envR n _ e1,Et e1] at he;cases he
 exact⟨ms.upd u,ms.ext u⟩
end
end Go.SX
