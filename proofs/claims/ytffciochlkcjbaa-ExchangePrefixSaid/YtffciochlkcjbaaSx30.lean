/- Xch1: what holds of a channel that items and ticks lead to. -/
import Derived.Test.YtffciochlkcjbaaXch0
import Derived.Laws.CopyRow
import Derived.LaidMore
import Derived.Stop.Joined
import Derived.FnData
import Derived.MakeChecks
import Derived.Lib.AppendZerosOnto
import Derived.Lib.Overlaps
import Derived.Laws.Externs
import Derived.Lib.Walk
import Derived.Lib.SliceRun
import Derived.Shelf.RegionOpenPlain
import Derived.Laws.BitsAllLaws
namespace Go.RS
open Go.SX Go.Proofs
set_option maxRecDepth 100000
set_option linter.unusedVariables false
structure cw (now ord:Int) (l:List ah):Prop where
 s:l.Pairwise fun a b=>a.1<b.1∨a.1=b.1/\a.2.1<b.2.1
 r:∀ t∈l,(now<t.1/\t.1<=now+2000)/\0<=t.2.1/\t.2.1<ord
 n:l.length<=4096
theorem gz{l:List ah}{t x:ah}:x∈cF l t↔x=t∨x∈l:=by
 have e:∀ y,y∈l↔y∈(l.takeWhile fun x=>decide (x.1<=t.1))∨y∈(l.dropWhile fun x=>decide (x.1<=t.1)):=fun y=>by
  rw[← List.mem_append,List.takeWhile_append_dropWhile]
 rw[e x]
 unfold cF
 rw[List.mem_append,List.mem_cons]
 constructor
 ·rintro (h|h|h)
  ·exact .inr (.inl h)
  ·exact .inl h
  ·exact .inr (.inr h)
 ·rintro (h|h|h)
  ·exact .inr (.inl h)
  ·exact .inl h
  ·exact .inr (.inr h)
theorem pe(l:List ah)(t:ah):(cF l t).length=l.length+1:=by
 have e:l.length=((l.takeWhile fun x=>decide (x.1<=t.1))++(l.dropWhile fun x=>decide (x.1<=t.1))).length:=by rw[List.takeWhile_append_dropWhile]
 rw[List.length_append] at e
 unfold cF
 rw[List.length_append,List.length_cons]
 omega
theorem lH{α:Type}{p:α->Bool}:∀{l:List α}{y:α}{r:List α},l.dropWhile p=y::r->p y=false
 | a::l,y,r,h=>by
  cases ha:p a with
  | true=>rw[List.dropWhile_cons_of_pos ha] at h;exact lH h
  | false =>
   rw[List.dropWhile_cons_of_neg (by simp[ha]),List.cons.injEq] at h
   rw[← h.1];exact ha
theorem lv{α:Type}{p:α->Bool}:∀{l:List α}{x:α},x∈l.takeWhile p->p x=true
 | a::l,x,h=>by
  cases ha:p a with
  | true =>
   rw[List.takeWhile_cons_of_pos ha] at h
   rcases List.mem_cons.1 h with rfl|h
   ·exact ha
   ·exact lv h
  | false=>rw[List.takeWhile_cons_of_neg (by simp[ha])] at h;cases h
theorem rx{l:List ah}{t:ah}(h:l.Pairwise fun a b=>a.1<b.1∨a.1=b.1/\a.2.1<b.2.1)(ho:∀ x∈l,x.2.1<t.2.1) :
  (cF l t).Pairwise fun a b=>a.1<b.1∨a.1=b.1/\a.2.1<b.2.1:=by
 have e:=List.takeWhile_append_dropWhile (p:=fun x:ah=>decide (x.1<=t.1)) (l:=l)
 rw[← e,List.pairwise_append] at h
 obtain⟨h1,h2,h3⟩:=h
 have hd:∀ y∈(l.dropWhile fun x=>decide (x.1<=t.1)),t.1<y.1:=by
  intro y hy
  cases q:(l.dropWhile fun x=>decide (x.1<=t.1)) with
  | nil=>rw[q] at hy;cases hy
  | cons z r =>
   have hz:¬ z.1<=t.1:=of_decide_eq_false (lH (p:=fun x:ah=>decide (x.1<=t.1)) q)
   rw[q] at hy h2
   rcases List.mem_cons.1 hy with rfl|hy
   ·omega
   ·rcases (List.pairwise_cons.1 h2).1 y hy with k|k <;> omega
 unfold cF
 rw[List.pairwise_append]
 refine⟨h1,List.pairwise_cons.2 ⟨fun y hy=>.inl (hd y hy),h2⟩,fun a ha b hb=>?_⟩
 rcases List.mem_cons.1 hb with rfl|hb
 ·have h4:a.1<=b.1:=of_decide_eq_true (lv (p:=fun x:ah=>decide (x.1<=b.1)) ha)
  have h5:=ho a (by rw[← e];exact List.mem_append_left _ ha)
  by_cases k:a.1<b.1
  ·exact .inl k
  ·exact .inr ⟨by omega,h5⟩
 ·exact h3 a ha b hb
theorem rQ{n0 now d:Int}{b:List Int}(h0:n0<=now/\now<=n0+1)(hd:0<=d/\d<=1000):∀(n:Nat)(k:Int){o:Int}{l:List ah},0<=k->k+n<=900->0<=o->cw n0 o l →
  cw n0 (cj now d b n k (o,l)).1 (cj now d b n k (o,l)).2/\o<=(cj now d b n k (o,l)).1/\(cj now d b n k (o,l)).1<=o+n/\(∀ t∈(cj now d b n k (o,l)).2,t∈l∨t.2.2=b)∧∀ t∈l,t∈(cj now d b n k (o,l)).2
 | 0,k,o,l,hk,hn,ho,h=>⟨h,Int.le_refl _,by simp[cj],fun t ht=>.inl ht,fun t ht=>ht⟩
 | n+1,k,o,l,hk,hn,ho,h=>by
  rw[cj]
  dsimp only
  split
  ·rename_i hl
   have hl:l.length<4096:=hl
   have h2:cw n0 (o+1) (cF l (now+1+d+k,o,b)):=by
    refine⟨rx h.s fun x hx=>(h.r x hx).2.2,fun t ht=>?_,by rw[pe];omega⟩
    rcases gz.1 ht with rfl|ht
    ·exact⟨⟨by show n0<now+1+d+k;omega,by show now+1+d+k<=_;omega⟩,by show 0<=o;omega,by show o<o+1;omega⟩
    ·obtain⟨q1,q2,q3⟩:=h.r t ht
     exact⟨q1,q2,by omega⟩
   obtain⟨i1,i2,i3,i4,i5⟩:=rQ h0 hd n (k+1) (by omega) (by omega) (by omega) h2
   refine⟨i1,by omega,by omega,fun t ht=>?_,fun t ht=>i5 t (gz.2 (.inr ht))⟩
   rcases i4 t ht with q|q
   ·rcases gz.1 q with rfl|q
    ·exact .inr rfl
    ·exact .inl q
   ·exact .inr q
  ·exact⟨h,Int.le_refl _,by show o<=_;omega,fun t ht=>.inl ht,fun t ht=>ht⟩
def gF(f:aL):Prop:=(0<=f.2.1/\f.2.1<=1000)/\0<=f.2.2/\f.2.2<=8
theorem mi{n0 now:Int}{b:List Int}(h0:n0<=now/\now<=n0+1){f:aL}(hf:gF f){o:Int}{l:List ah}(ho:0<=o)(h:cw n0 o l) :
  cw n0 (bm now b f (o,l)).1 (bm now b f (o,l)).2/\o<=(bm now b f (o,l)).1/\(bm now b f (o,l)).1<=o+9/\(∀ t∈(bm now b f (o,l)).2,t∈l∨t.2.2=b)∧∀ t∈l,t∈(bm now b f (o,l)).2:=by
 unfold bm
 obtain⟨f1,f2⟩:=hf
 split
 ·exact⟨h,Int.le_refl _,by show o<=_;omega,fun t ht=>.inl ht,fun t ht=>ht⟩
 ·obtain⟨i1,i2,i3,i4,i5⟩:=rQ (b:=b) h0 f1 (f.2.2+1).toNat 0 (Int.le_refl _) (by omega) ho h
  exact⟨i1,i2,by omega,i4,i5⟩
theorem iQ{l:List aL}(h:cW l)(i:Nat):gF (bz l i):=by
 unfold bz
 by_cases hi:i<l.length
 ·rw[List.getD_eq_getElem?_getD,List.getElem?_eq_getElem hi]
  exact h _ (List.getElem_mem hi)
 ·rw[List.getD_eq_getElem?_getD,List.getElem?_eq_none (by omega)]
  exact⟨by decide,by decide,by decide⟩
structure o6 (log:List (List Int)) (lim g:Int) (l:List aE):Prop where
 s:l.Pairwise fun a b=>a.1<b.1
 r:∀ x∈l,(g<x.1/\x.1<log.length)/\x.1<lim/\x.2=log.getD x.1.toNat default
structure gG (log:List (List Int)) (lim:Int) (s:List (List Int)×List aE):Prop where
 n:s.1.length<=log.length
 g:s.1=log.take s.1.length
 e:o6 log lim s.1.length s.2
def ee(s:List (List Int)×List aE)(i:Int):Prop:=i<s.1.length∨∃ x∈s.2,x.1=i
theorem rq{log g:List (List Int)}(hn:g.length<log.length)(hg:g=log.take g.length):g++[log.getD g.length default]=log.take (g.length+1):=by
 have e:log.getD g.length default=log[g.length]:=by rw[List.getD_eq_getElem?_getD,List.getElem?_eq_getElem hn];rfl
 rw[e,List.take_add_one,List.getElem?_eq_getElem hn,← hg];rfl
theorem qy{log:List (List Int)}{lim:Int}:∀{l:List aE}{g:List (List Int)},g.length<=log.length->g=log.take g.length->o6 log lim (g.length-1) l →
  gG log lim (cQ l g)/\g.length<=(cQ l g).1.length∧∀ i,ee (g,l) i->ee (cQ l g) i
 | [],g,hn,hg,he=>⟨⟨hn,hg,⟨List.Pairwise.nil,fun x hx=>(by cases hx)⟩⟩,Nat.le_refl _,fun i h=>h⟩
 | x::r,g,hn,hg,he=>by
  have hx:=he.r x List.mem_cons_self
  have hs:=List.pairwise_cons.1 he.s
  rw[cQ]
  split
  ·rename_i e
   have hl:g.length<log.length:=by omega
   have ed:x.2=log.getD g.length default:=by rw[hx.2.2,e];rfl
   have e2:g++[x.2]=log.take (g++[x.2]).length:=by rw[List.length_append,ed];exact rq hl hg
   have en:(g++[x.2]).length=g.length+1:=by rw[List.length_append];rfl
   obtain⟨i1,i2,i3⟩:=qy (l:=r) (g:=g++[x.2]) (by omega) e2 ⟨hs.2,fun y hy=>by
    have h1:=hs.1 y hy
    obtain⟨⟨q1,q2⟩,q3⟩:=he.r y (List.mem_cons_of_mem _ hy)
    exact⟨⟨by omega,q2⟩,q3⟩⟩
   refine⟨i1,by omega,fun i h=>i3 i ?_⟩
   rcases h with h|⟨y,hy,h⟩
   ·exact .inl (by show i<((g++[x.2]).length:Int);have h:i<(g.length:Int):=h;omega)
   ·rcases List.mem_cons.1 hy with rfl|hy
    ·exact .inl (by show i<((g++[y.2]).length:Int);omega)
    ·exact .inr ⟨y,hy,h⟩
  ·rename_i e
   refine⟨⟨hn,hg,⟨he.s,fun y hy=>?_⟩⟩,Nat.le_refl _,fun i h=>h⟩
   obtain⟨⟨q1,q2⟩,q3⟩:=he.r y hy
   refine⟨⟨?_,q2⟩,q3⟩
   show (g.length:Int)<y.1
   rcases List.mem_cons.1 hy with rfl|hy
   ·omega
   ·have:=hs.1 y hy;omega
theorem oU{l:List aE}{t x:aE}:x∈gM l t↔x=t∨x∈l:=by
 have e:∀ y,y∈l↔y∈(l.takeWhile fun x=>decide (x.1<t.1))∨y∈(l.dropWhile fun x=>decide (x.1<t.1)):=fun y=>by
  rw[← List.mem_append,List.takeWhile_append_dropWhile]
 rw[e x]
 unfold gM
 rw[List.mem_append,List.mem_cons]
 constructor
 ·rintro (h|h|h)
  ·exact .inr (.inl h)
  ·exact .inl h
  ·exact .inr (.inr h)
 ·rintro (h|h|h)
  ·exact .inr (.inl h)
  ·exact .inl h
  ·exact .inr (.inr h)
theorem wS{l:List aE}{t:aE}(h:l.Pairwise fun a b=>a.1<b.1)(hn:∀ x∈l,x.1≠t.1):(gM l t).Pairwise fun a b=>a.1<b.1:=by
 have e:=List.takeWhile_append_dropWhile (p:=fun x:aE=>decide (x.1<t.1)) (l:=l)
 have hm:∀ y∈(l.dropWhile fun x=>decide (x.1<t.1)),y∈l:=fun y hy=>by rw[← e];exact List.mem_append_right _ hy
 rw[← e,List.pairwise_append] at h
 obtain⟨h1,h2,h3⟩:=h
 have hd:∀ y∈(l.dropWhile fun x=>decide (x.1<t.1)),t.1<y.1:=by
  intro y hy
  have h0:=hn y (hm y hy)
  cases q:(l.dropWhile fun x=>decide (x.1<t.1)) with
  | nil=>rw[q] at hy;cases hy
  | cons z r =>
   have hz:¬ z.1<t.1:=of_decide_eq_false (lH (p:=fun x:aE=>decide (x.1<t.1)) q)
   rw[q] at hy h2
   rcases List.mem_cons.1 hy with rfl|hy
   ·omega
   ·have:=(List.pairwise_cons.1 h2).1 y hy;omega
 unfold gM
 rw[List.pairwise_append]
 refine⟨h1,List.pairwise_cons.2 ⟨fun y hy=>hd y hy,h2⟩,fun a ha b hb=>?_⟩
 rcases List.mem_cons.1 hb with rfl|hb
 ·exact of_decide_eq_true (lv (p:=fun x:aE=>decide (x.1<b.1)) ha)
 ·exact h3 a ha b hb
theorem um{log:List (List Int)}{lim:Int}{s:List (List Int)×List aE}(h:gG log lim s){i:Int}(hi:0<=i/\i<log.length) :
  gG log lim (ct lim s i (log.getD i.toNat default))/\s.1.length<=(ct lim s i (log.getD i.toNat default)).1.length/\(∀ j,ee s j->ee (ct lim s i (log.getD i.toNat default)) j)/\(i<lim->ee (ct lim s i (log.getD i.toNat default)) i):=by
 obtain⟨g,l⟩:=s
 obtain⟨hn,hg,he⟩:=h
 have hn:g.length<=log.length:=hn
 have hg:g=log.take g.length:=hg
 have he:o6 log lim g.length l:=he
 unfold ct
 dsimp only
 split
 ·rename_i e
  have hl:g.length<log.length:=by omega
  have ei:log.getD i.toNat default=log.getD g.length default:=by rw[e];rfl
  rw[ei]
  have en:(g++[log.getD g.length default]).length=g.length+1:=by rw[List.length_append];rfl
  have e2:g++[log.getD g.length default]=log.take (g++[log.getD g.length default]).length:=by rw[en];exact rq hl hg
  obtain⟨i1,i2,i3⟩:=qy (lim:=lim) (l:=l) (by omega) e2 ⟨he.s,fun y hy=>by
   obtain⟨⟨q1,q2⟩,q3⟩:=he.r y hy
   exact⟨⟨by omega,q2⟩,q3⟩⟩
  refine⟨i1,by omega,fun j h=>i3 j ?_,fun _=>.inl (by omega)⟩
  rcases h with h|h
  ·exact .inl (by show j<((g++[log.getD g.length default]).length:Int);have h:j<(g.length:Int):=h;omega)
  ·exact .inr h
 ·rename_i e
  split
  ·rename_i k
   refine⟨⟨hn,hg,he⟩,Nat.le_refl _,fun j h=>h,fun hl=>?_⟩
   rcases k with k|k|k
   ·exact .inl k
   ·omega
   ·obtain⟨x,hx,q⟩:=List.any_eq_true.1 k
    exact .inr ⟨x,hx,of_decide_eq_true q⟩
  ·rename_i k
   have k1:¬ i<g.length:=fun q=>k (.inl q)
   have k2:¬ lim<=i:=fun q=>k (.inr (.inl q))
   have k3:∀ x∈l,x.1≠i:=fun x hx q=>k (.inr (.inr (List.any_eq_true.2 ⟨x,hx,decide_eq_true q⟩)))
   refine⟨⟨hn,hg,wS he.s k3,fun x hx=>?_⟩,Nat.le_refl _,fun j h=>?_,fun _=>.inr ⟨_,oU.2 (.inl rfl),rfl⟩⟩
   ·rcases oU.1 hx with rfl|hx
    ·exact⟨⟨by show (g.length:Int)<i;omega,hi.2⟩,by show i<lim;omega,rfl⟩
    ·exact he.r x hx
   ·rcases h with h|⟨x,hx,h⟩
    ·exact .inl h
    ·exact .inr ⟨x,oU.2 (.inr hx),h⟩
end Go.RS

/- Xch2: a tick keeps a channel in order. -/
namespace Go.RS
open Go.SX Go.Proofs
set_option maxRecDepth 100000
set_option linter.unusedVariables false
def iL(log:List (List Int))(t:ah):Prop:=∃ i:Int,(0<=i/\i<log.length)/\t.2.2=ch i (log.getD i.toNat default)
def eV(log:List (List Int))(s:List (List Int)×List aE)(t:ah):Prop :=
 ∃ (g:Int) (es:List Int),t.2.2=bT g es/\(0<=g/\g<=s.1.length)/\es.Pairwise (fun a b=>a<b)∧∀ e∈es,(g<e/\e<log.length)/\ee s e
structure XI (c:ao):Prop where
 now:0<=ae c
 ord:0<=bN c
 win:1<=aO c/\aO c<=64
 log:(aj c).length<=1024
 it:∀ b∈aj c,(b.length:Int)<=6000
 kn:0<=aQ c/\aQ c<=(aC c).length
 rc:gG (aj c) (aQ c+aO c) (aC c,cz c)
 dn:cw (ae c) (bN c) (bi c)
 dd:∀ t∈bi c,iL (aj c) t
 up:cw (ae c) (bN c) (bD c)
 ud:∀ t∈bD c,eV (aj c) (aC c,cz c) t
theorem eV.more{log:List (List Int)}{s s':List (List Int)×List aE}{t:ah}(h:eV log s t)(h1:s.1.length<=s'.1.length)(h2:∀ j,ee s j->ee s' j):eV log s' t:=by
 obtain⟨g,es,a,b,c,d⟩:=h
 exact⟨g,es,a,⟨b.1,by omega⟩,c,fun e he=>⟨(d e he).1,h2 e (d e he).2⟩⟩
theorem cw.more{now ord ord':Int}{l:List ah}(h:cw now ord l)(ho:ord<=ord'):cw now ord' l:=⟨h.s,fun t ht=>by
 obtain⟨a,b,c⟩:=h.r t ht
 exact⟨a,b,by omega⟩,h.n⟩
theorem hZ{now:Int}{l:List ah}{t:ah}(h:t∈af now l):t∈l/\t.1<=now:=by
 refine⟨?_,of_decide_eq_true (lv (p:=fun x:ah=>decide (x.1<=now)) h)⟩
 rw[← List.takeWhile_append_dropWhile (p:=fun x:ah=>decide (x.1<=now)) (l:=l)]
 exact List.mem_append_left _ h
theorem jU{now ord n0:Int}{l:List ah}(h:cw n0 ord l){t:ah}:t∈a9 now l↔t∈l/\now<t.1:=by
 have e:=List.takeWhile_append_dropWhile (p:=fun x:ah=>decide (x.1<=now)) (l:=l)
 constructor
 ·intro ht
  have hs:=h.s
  refine⟨by rw[← e];exact List.mem_append_right _ ht,?_⟩
  rw[← e,List.pairwise_append] at hs
  unfold a9 at ht
  cases q:(l.dropWhile fun x=>decide (x.1<=now)) with
  | nil=>rw[q] at ht;cases ht
  | cons z r =>
   have hz:¬ z.1<=now:=of_decide_eq_false (lH (p:=fun x:ah=>decide (x.1<=now)) q)
   have h2:=hs.2.1
   rw[q] at ht h2
   rcases List.mem_cons.1 ht with rfl|ht
   ·omega
   ·rcases (List.pairwise_cons.1 h2).1 t ht with k|k <;> omega
 ·rintro⟨h1,h2⟩
  rw[← e] at h1
  rcases List.mem_append.1 h1 with k|k
  ·have:=(hZ (now:=now) k).2;omega
  ·exact k
theorem oN{now ord n0:Int}(hn:n0<=now){l:List ah}(h:cw n0 ord l):cw now ord (a9 now l):=by
 refine⟨?_,fun t ht=>?_,?_⟩
 ·have hs:=h.s
  rw[← List.takeWhile_append_dropWhile (p:=fun x:ah=>decide (x.1<=now)) (l:=l),List.pairwise_append] at hs
  exact hs.2.1
 ·obtain⟨a,b⟩:=(jU h).1 ht
  obtain⟨c,d⟩:=h.r t a
  exact⟨⟨b,by omega⟩,d⟩
 ·have:=(List.dropWhile_sublist (l:=l) (fun x:ah=>decide (x.1<=now))).length_le
  have hn:=h.n
  show (l.dropWhile _).length<=4096
  omega
theorem iW{log:List (List Int)}{lim:Int}(hl:log.length<=1024):∀{l:List ah}{s:List (List Int)×List aE},gG log lim s->(∀ t∈l,iL log t) →
  gG log lim (cB lim l s)/\s.1.length<=(cB lim l s).1.length/\(∀ j,ee s j->ee (cB lim l s) j)∧∀ t∈l,bd t.2.2 1<lim->ee (cB lim l s) (bd t.2.2 1)
 | [],s,h,_=>⟨h,Nat.le_refl _,fun j q=>q,fun t ht=>(by cases ht)⟩
 | t::r,s,h,hd=>by
  obtain⟨i,hi,e⟩:=hd t List.mem_cons_self
  have e1:bd t.2.2 1=i:=by rw[e];exact rL ⟨by omega,by omega⟩ _
  have e2:t.2.2.drop 3=log.getD i.toNat default:=by rw[e];exact wV _ _
  obtain⟨k1,k2,k3,k4⟩:=um h hi
  have er:cB lim (t::r) s=cB lim r (ct lim s i (log.getD i.toNat default)):=by
   show cB lim r (ct lim s (bd t.2.2 1) (t.2.2.drop 3))=_
   rw[e1,e2]
  obtain⟨m1,m2,m3,m4⟩:=iW hl (l:=r) k1 fun x hx=>hd x (List.mem_cons_of_mem _ hx)
  rw[er]
  refine⟨m1,by omega,fun j q=>m3 j (k3 j q),fun x hx hlx=>?_⟩
  rcases List.mem_cons.1 hx with rfl|hx
  ·rw[e1] at hlx ⊢
   exact m3 i (k4 hlx)
  ·exact m4 x hx hlx
theorem rD{now:Int}{log:List (List Int)}{down:List aL}(hv:cW down):∀(todo:List Int)(j:Nat){o:Int}{l:List ah},(∀ i∈todo,0<=i/\i<log.length)->0<=o->cw now o l->(∀ t∈l,iL log t) →
  cw now (cf now log down todo j (o,l)).1 (cf now log down todo j (o,l)).2/\o<=(cf now log down todo j (o,l)).1/\(cf now log down todo j (o,l)).1<=o+9*todo.length/\(∀ t∈(cf now log down todo j (o,l)).2,iL log t)∧∀ t∈l,t∈(cf now log down todo j (o,l)).2
 | [],j,o,l,_,ho,h,hd=>⟨h,Int.le_refl _,by show o<=_;omega,hd,fun t ht=>ht⟩
 | i::r,j,o,l,hi,ho,h,hd=>by
  obtain⟨k1,k2,k3,k4,k5⟩:=mi (b:=ch i (log.getD i.toNat default)) ⟨Int.le_refl _,by omega⟩ (iQ hv j) ho h
  rw[cf]
  generalize bm now (ch i (log.getD i.toNat default)) (bz down j) (o,l)=s at *
  obtain⟨o2,l2⟩:=s
  obtain⟨m1,m2,m3,m4,m5⟩:=rD hv r (j+1) (o:=o2) (l:=l2) (fun x hx=>hi x (List.mem_cons_of_mem _ hx)) (by have k2:o<=o2:=k2;omega) k1 (fun t ht=>by
   rcases k4 t ht with q|q
   ·exact hd t q
   ·exact⟨i,hi i List.mem_cons_self,q⟩)
  have k2:o<=o2:=k2
  have k3:o2<=o+9:=k3
  exact⟨m1,by omega,by rw[List.length_cons];omega,m4,fun t ht=>m5 t (k5 t ht)⟩
theorem nS{log:List (List Int)}{s:List (List Int)×List aE}(hs:s.1.length<=1024):∀{l:List ah}{k:Int},0<=k->k<=s.1.length->(∀ t∈l,eV log s t)->k<=b8 k l/\b8 k l<=s.1.length
 | [],k,h0,h1,_=>⟨Int.le_refl _,h1⟩
 | t::r,k,h0,h1,h=>by
  obtain⟨g,es,e,hg,-⟩:=h t List.mem_cons_self
  have em:bd t.2.2 1=g:=by rw[e];exact oq ⟨by omega,by omega⟩ _
  obtain⟨a,b⟩:=nS hs (l:=r) (k:=max k g) (by omega) (by omega) fun x hx=>h x (List.mem_cons_of_mem _ hx)
  show k<=b8 (max k (bd t.2.2 1)) r/\b8 (max k (bd t.2.2 1)) r<=s.1.length
  rw[em]
  exact⟨by omega,b⟩
theorem XI.tick{c:ao}(h:XI c){down up:List aL}(hd:cW down)(hu:cW up) :
  XI (aS c down up)/\(aC c).length<=(aC (aS c down up)).length/\aQ c<=aQ (aS c down up)/\bN (aS c down up)<=bN c+585:=by
 obtain⟨r1,r2,r3,r4⟩:=iW h.log (l:=af (ae c+1) (bi c)) h.rc fun t ht=>h.dd t (hZ ht).1
 have eG:a8 c=cB (aQ c+aO c) (af (ae c+1) (bi c)) (aC c,cz c):=rfl
 rw[← eG] at r1 r2 r3 r4
 have r2:(aC c).length<=(a8 c).1.length:=r2
 have hgl:=r1.n
 have hlog:=h.log
 have hwin:=h.win
 have hkn:=h.kn
 have aU:cw (ae c) (aP c up).1 (aP c up).2/\bN c<=(aP c up).1/\(aP c up).1<=bN c+9∧∀ t∈(aP c up).2,eV (aj c) (a8 c) t:=by
  have old:∀ t∈bD c,eV (aj c) (a8 c) t:=fun t ht=>(h.ud t ht).more r2 r3
  unfold aP
  split
  ·exact⟨h.up,Int.le_refl _,by show bN c<=_;omega,old⟩
  ·obtain⟨k1,k2,k3,k4,-⟩:=mi (n0:=ae c) (now:=ae c+1) (b:=bT ((a8 c).1.length:Int) ((a8 c).2.map (·.1))) ⟨by omega,by omega⟩ (iQ hu 0) h.ord h.up
   refine⟨k1,k2,k3,fun t ht=>?_⟩
   rcases k4 t ht with q|q
   ·exact old t q
   ·refine⟨_,_,q,⟨by omega,Int.le_refl _⟩,?_,fun e he=>?_⟩
    ·rw[List.pairwise_map];exact r1.e.s
    ·obtain⟨x,hx,rfl⟩:=List.mem_map.1 he
     exact⟨(r1.e.r x hx).1,.inr ⟨x,hx,rfl⟩⟩
 obtain⟨u1,u2,u3,u4⟩:=aU
 obtain⟨n1,n2⟩:=nS (log:=aj c) (s:=a8 c) (by omega) (l:=dZ c up) (k:=aQ c) hkn.1 (by omega) fun t ht=>u4 t (hZ ht).1
 have n1:aQ c<=aJ c up:=n1
 have n2:aJ c up<=(a8 c).1.length:=n2
 have hT:∀ i∈db c up,0<=i/\i<(aj c).length:=fun i hi=>by
  have:=mem_range.1 (List.mem_filter.1 hi).1
  omega
 have hTl:(db c up).length<=64:=by
  have h1:(db c up).length<=(dB (aJ c up) (min ((aj c).length:Int) (aJ c up+aO c))).length:=List.length_filter_le _ _
  have h2:(dB (aJ c up) (min ((aj c).length:Int) (aJ c up+aO c))).length=(min ((aj c).length:Int) (aJ c up+aO c)-aJ c up).toNat:=by unfold dB;rw[List.length_map,List.length_range]
  omega
 have hnow:=h.now
 have hord:=h.ord
 obtain⟨d1,d2,d3,d4,d5⟩:=rD (now:=ae c+1) (log:=aj c) hd (db c up) 0 (o:=(aP c up).1) (l:=a9 (ae c+1) (bi c)) hT (by omega) ((oN (by omega) h.dn).more u2) (fun t ht=>h.dd t ((jU h.dn).1 ht).1)
 have eD:dr c down up=cf (ae c+1) (aj c) down (db c up) 0 ((aP c up).1,a9 (ae c+1) (bi c)):=rfl
 rw[← eD] at d1 d2 d3 d4 d5
 refine⟨⟨by show 0<=ae c+1;omega,by show 0<=(dr c down up).1;omega,hwin,hlog,h.it,⟨by show 0<=aJ c up;omega,n2⟩,?_,d1,d4,?_,fun t ht=>?_⟩,r2,n1,by show (dr c down up).1<=_;omega⟩
 ·refine⟨r1.n,r1.g,r1.e.s,fun x hx=>?_⟩
  obtain⟨q1,q2,q3⟩:=r1.e.r x hx
  exact⟨q1,by show x.1<aJ c up+aO c;omega,q3⟩
 ·show cw (ae c+1) (dr c down up).1 (a9 (ae c+1) (aP c up).2)
  exact (oN (by omega) u1).more d2
 ·exact u4 t ((jU u1).1 ht).1
theorem XI.push{c:ao}(h:XI c){it:List Int}(hl:(aj c).length<1024)(hi:(it.length:Int)<=6000):XI (gn c it):=by
 have hg:∀ i:Int,0<=i->i<(aj c).length->(aj c++[it]).getD i.toNat default=(aj c).getD i.toNat default:=fun i h0 h1=>by
  rw[List.getD_eq_getElem?_getD,List.getElem?_append_left (by omega),← List.getD_eq_getElem?_getD]
 have hn:(aj c++[it]).length=(aj c).length+1:=by rw[List.length_append];rfl
 refine⟨h.now,h.ord,h.win,by show (aj c++[it]).length<=_;omega,fun b hb=>?_,h.kn,⟨?_,?_,h.rc.e.s,fun x hx=>?_⟩,h.dn,fun t ht=>?_,h.up,fun t ht=>?_⟩
 ·rcases List.mem_append.1 hb with hb|hb
  ·exact h.it b hb
  ·rw[List.mem_singleton.1 hb];exact hi
 ·show (aC c).length<=(aj c++[it]).length
  have:(aC c).length<=(aj c).length:=h.rc.n
  omega
 ·show aC c=(aj c++[it]).take (aC c).length
  rw[List.take_append_of_le_length (show (aC c).length<=(aj c).length from h.rc.n)]
  exact h.rc.g
 ·obtain⟨⟨q1,q2⟩,q3,q4⟩:=h.rc.e.r x hx
  have q1:((aC c).length:Int)<x.1:=q1
  refine⟨⟨q1,by show x.1<((aj c++[it]).length:Int);omega⟩,q3,?_⟩
  show x.2=(aj c++[it]).getD x.1.toNat default
  rw[hg _ (by omega) q2];exact q4
 ·obtain⟨i,hi,e⟩:=h.dd t ht
  refine⟨i,⟨hi.1,by show i<((aj c++[it]).length:Int);omega⟩,?_⟩
  show t.2.2=ch i ((aj c++[it]).getD i.toNat default)
  rw[hg _ hi.1 hi.2];exact e
 ·obtain⟨g,es,a,b,d,e⟩:=h.ud t ht
  exact⟨g,es,a,b,d,fun x hx=>⟨⟨(e x hx).1.1,by have:=(e x hx).1.2;show x<((aj c++[it]).length:Int);omega⟩,(e x hx).2⟩⟩
theorem XI.new{w:Int}(h0:1<=w)(h1:w<=64):XI (e6 w):=by
 refine⟨Int.le_refl _,Int.le_refl _,⟨h0,h1⟩,Nat.zero_le _,fun b hb=>(by cases hb),⟨Int.le_refl _,Int.le_refl _⟩,⟨Nat.zero_le _,rfl,List.Pairwise.nil,fun x hx=>(by cases hx)⟩,⟨List.Pairwise.nil,fun x hx=>(by cases hx),Nat.zero_le _⟩,fun x hx=>(by cases hx),⟨List.Pairwise.nil,fun x hx=>(by cases hx),Nat.zero_le _⟩,fun x hx=>(by cases hx)⟩
theorem dN:cW []:=fun f hf=>by cases hf
end Go.RS

/- SX: copying rows whose elements have several cells (for slices.Insert). -/
namespace Go.SX
open Go
variable {P:Program}
theorem gB(w:World)(dT sT ty cd:TypeId)(z g o dLen dCap:Nat)(a:Addr)(dL fZ:Nat)(cur:Array Value)(t:TypeId)(cs:List Value)
  (hu:P.underlying dT=some (.slice cd)) (hs:(P.info? cd).map (·.size)=some z)
  (hg:w.heap[g]? = some (.cells cur t (0,0))) (hn:cs.length=Nat.min dL dLen*z)
  (hsrc:∀ j v,cs[j]? = some v->w.cell? (a.add j)=some v) (hfit:o+cs.length<=cur.size) (h1:∀ v∈cs,v.oneCell'=true) :
  (Builtin.copy_ #[dT,sT] ty #[.slice (some ⟨g,o,none⟩) dLen dCap,.slice (some a) dL fZ]).run P w =
   .ok (goInt (Nat.min dL dLen)) (w.setRow g (cur.toList.take o++cs++cur.toList.drop (o+cs.length)).toArray):=by
 have hl:=run_loadCells_list (P:=P) w a cs hsrc
 have hst:=run_storeCells_at P g o t cs 0 cur w hg (by simpa using hfit) h1
 cases hq:P.info? cd with
 | none=>simp[hq] at hs
 | some i =>
  have hi:i.size=z:=by simpa[hq] using hs
  simp[Builtin.copy_,run_underlying hu,Builtin.lenOf,Builtin.firstCells,sizeOf,typeInfo,hq,hi,← hn,hl,hst]
end Go.SX

/- SX, part 25: package-level variables that hold known data. -/
namespace Go.SX
open Go.ChangeShapes Go.WideShapes Go.ChangeAt Go.RowKit
set_option linter.unusedVariables false
def jw{H:Type}(f:(t:CT)->TypeId->t.D->DataW H):List Field->(t:CT)->t.D->List (DataW H)
 | [],_,_=>[]
 | [fd],t,d=>[f t fd.type d]
 | fd::g::r,.pair a b,(x,y)=>f a fd.type x::jw f (g::r) b y
 | _::_::_,_,_=>[]
def jp{H:Type}(f:(t:CT)->TypeId->t.D->DataW H)(e:TypeId):Nat->(t:CT)->t.D->List (DataW H)
 | 0,_,_=>[]
 | 1,t,d=>[f t e d]
 | n+2,.pair a b,(x,y)=>f a e x::jp f e (n+1) b y
 | _+2,_,_=>[]
def dX{H:Type}(P:Program):Nat->(t:CT)->TypeId->t.D->DataW H
 | 0,_,_,_ => .agg []
 | n+1,t,τ,d=>match P.underlying τ,t,d with
  | some (.int k),.int _,d => .lit (.int k d)
  | some .bool,.bool,d => .lit (.bool d)
  | some (.struct fs),t,d => .agg (jw (dX P n) fs.toList t d)
  | some (.array k e),t,d => .agg (jp (dX P n) e k t d)
  | _,_,_ => .agg []
def fO:CT->Bool
 | .int _=>true
 | .bool=>true
 | .pair a b=>fO a&&fO b
 | _=>false
section
variable {H:Type} {enc:TypeId×Value->H} {P:Program} {w:World} {base:Nat} {held:Bool}
theorem th{A:Nat->Prop}{f:CT->TypeId->Bool}{F:(t:CT)->TypeId->t.D->DataW H}{cs:List Value}{n:Nat}
  (hf:∀ t τ cs d p,f t τ=true->fO t=true->DataW.trod enc P w base (fun _=>true) held n τ cs=some (F t τ d,p)->Rd A w t (fun j=>cs[j]?) 0 d) :
  ∀(fs:List Field)(t:CT)(o:Nat)(d:t.D)(xs:List (DataW H×List MemPlace)),fY P f fs t o=true->fO t=true->xs.length=fs.length->xs.map (·.1)=jw F fs t d →
   (∀ i (h1:i<fs.length) (h2:i<xs.length),DataW.trod enc P w base (fun _=>true) held n fs[i].type ((cs.drop fs[i].offset).take (P.cellsOf fs[i].type))=some xs[i])->Rd A w t (fun j=>cs[j]?) o d
 | [],t,o,d,xs,h,_,_,_,_=>by cases h
 | [fd],t,o,d,xs,h,ht,hl,he,hx=>by
  simp only[fY,Bool.and_eq_true] at h
  obtain⟨⟨h1,h2⟩,h3⟩:=h
  have h2:=Nat.eq_of_beq_eq_true h2
  have h3:=Nat.eq_of_beq_eq_true h3
  match xs,hl with
  | [x],_ =>
   have:=hx 0 (by simp) (by simp)
   simp only[List.getElem_cons_zero] at this
   simp only[List.map_cons,List.map_nil,jw,List.cons.injEq,and_true] at he
   have hd:=hf t fd.type _ d x.2 h1 ht (by rw[this,← he])
   rw[h2] at hd
   exact gT h3 hd
 | fd::g::r,.pair a b,o,(d1,d2),xs,h,ht,hl,he,hx=>by
  simp only[fY,Bool.and_eq_true] at h
  obtain⟨⟨⟨h1,h2⟩,h3⟩,h4⟩:=h
  simp only[fO,Bool.and_eq_true] at ht
  have h2:=Nat.eq_of_beq_eq_true h2
  have h3:=Nat.eq_of_beq_eq_true h3
  match xs,hl with
  | x::ys,hl =>
   simp only[List.map_cons,jw,List.cons.injEq] at he
   have:=hx 0 (by simp) (by simp)
   simp only[List.getElem_cons_zero] at this
   have hd:=hf a fd.type _ d1 x.2 h1 ht.1 (by rw[this,← he.1])
   rw[h2] at hd
   have hd':=th hf (g::r) b (o+a.size) d2 ys h4 ht.2 (by simpa using hl) he.2 (fun i k1 k2=>by
    have:=hx (i+1) (by simpa using k1) (by simpa using k2)
    simpa only[List.getElem_cons_succ] using this)
   exact⟨gT h3 hd,hd'⟩
 | _::_::_,.int _,_,_,_,h,_,_,_,_=>by cases h
 | _::_::_,.bool,_,_,_,h,_,_,_,_=>by cases h
 | _::_::_,.str,_,_,_,h,_,_,_,_=>by cases h
 | _::_::_,.sl _,_,_,_,h,_,_,_,_=>by cases h
theorem sg{A:Nat->Prop}{f:CT->TypeId->Bool}{F:(t:CT)->TypeId->t.D->DataW H}{cs:List Value}{n:Nat}{e:TypeId}
  (hf:∀ t τ cs d p,f t τ=true->fO t=true->DataW.trod enc P w base (fun _=>true) held n τ cs=some (F t τ d,p)->Rd A w t (fun j=>cs[j]?) 0 d) :
  ∀(k:Nat)(t:CT)(i:Nat)(d:t.D)(xs:List (DataW H×List MemPlace)),ga P f e k t=true->fO t=true->xs.length=k->xs.map (·.1)=jp F e k t d →
   (∀ j (h2:j<xs.length),DataW.trod enc P w base (fun _=>true) held n e ((cs.drop ((i+j)*P.cellsOf e)).take (P.cellsOf e))=some xs[j])->Rd A w t (fun j=>cs[j]?) (i*P.cellsOf e) d
 | 0,t,i,d,xs,h,_,_,_,_=>by cases h
 | 1,t,i,d,xs,h,ht,hl,he,hx=>by
  simp only[ga,Bool.and_eq_true] at h
  obtain⟨h1,h2⟩:=h
  have h2:=Nat.eq_of_beq_eq_true h2
  match xs,hl with
  | [x],_ =>
   have:=hx 0 (by simp)
   simp only[List.getElem_cons_zero] at this
   simp only[List.map_cons,List.map_nil,jp,List.cons.injEq,and_true] at he
   have hd:=hf t e _ d x.2 h1 ht (by rw[this,← he])
   exact gT h2 hd
 | k+2,.pair a b,i,(d1,d2),xs,h,ht,hl,he,hx=>by
  simp only[ga,Bool.and_eq_true] at h
  obtain⟨⟨h1,h2⟩,h4⟩:=h
  simp only[fO,Bool.and_eq_true] at ht
  have h2:=Nat.eq_of_beq_eq_true h2
  match xs,hl with
  | x::ys,hl =>
   simp only[List.map_cons,jp,List.cons.injEq] at he
   have:=hx 0 (by simp)
   simp only[List.getElem_cons_zero] at this
   have hd:=hf a e _ d1 x.2 h1 ht.1 (by rw[this,← he.1])
   have hd':=sg hf (k+1) b (i+1) d2 ys h4 ht.2 (by simpa using hl) he.2 (fun j k2=>by
    have:=hx (j+1) (by simpa using k2)
    simp only[List.getElem_cons_succ] at this
    rw[← this];congr 4;omega)
   refine⟨gT h2 hd,?_⟩
   rw[Nat.add_mul,Nat.one_mul] at hd'
   rw[← h2];exact hd'
 | _+2,.int _,_,_,_,h,_,_,_,_=>by cases h
 | _+2,.bool,_,_,_,h,_,_,_,_=>by cases h
 | _+2,.str,_,_,_,h,_,_,_,_=>by cases h
 | _+2,.sl _,_,_,_,h,_,_,_,_=>by cases h
theorem mQ:∀(n:Nat)(t:CT)(τ:TypeId)(fuel:Nat)(cs:List Value)(d:t.D)(p:List MemPlace),cR P n t τ=true->fO t=true->DataW.trod enc P w base (fun _=>true) held fuel τ cs=some (dX P n t τ d,p) →
  Rd (fun b=>b<w.heap.size) w t (fun j=>cs[j]?) 0 d
 | 0,t,τ,fuel,cs,d,p,h,_,_=>by cases h
 | n+1,t,τ,fuel,cs,d,p,h,ht,hx=>by
  cases hu:P.underlying τ with
  | none=>cases t <;> simp[cR,hu] at h
  | some ty =>
   cases ty with
   | int k =>
    cases t with
    | int k' =>
     simp only[cR,hu] at h
     cases cN h
     obtain⟨m,rfl,e,hw⟩:=DataW.trod_int hu hx
     unfold dX at e
     rw[hu] at e
     simp only[Prod.mk.injEq,DataW.lit.injEq,Lit.int.injEq,true_and] at e
     obtain⟨rfl,-⟩:=e
     exact⟨by simp,rI hw⟩
    | _=>simp[cR,hu] at h
   | bool =>
    cases t with
    | bool =>
     obtain⟨b,rfl,e⟩:=DataW.trod_bool hu hx
     unfold dX at e
     rw[hu] at e
     simp only[Prod.mk.injEq,DataW.lit.injEq,Lit.bool.injEq] at e
     obtain⟨rfl,-⟩:=e
     simp[Rd]
    | _=>simp[cR,hu] at h
   | struct fs =>
    have h':fY P (cR P n) fs.toList t 0=true:=by cases t <;> simpa[cR,hu] using h
    have ed:dX (H:=H) P (n+1) t τ d = .agg (jw (dX P n) fs.toList t d):=by
     cases t <;> first|(cases ht;done)|(unfold dX;rw[hu])
    obtain⟨xs,m,_,e,hl,hlen,hf⟩:=DataW.trod_struct hu hx
    rw[ed] at e
    simp only[Prod.mk.injEq,DataW.agg.injEq] at e
    refine th (F:=dX P n) (n:=m) (fun t τ cs d p h1 h2 h3=>mQ n t τ m cs d p h1 h2 h3) fs.toList _ 0 d xs h' ht (by simpa using hlen) e.1.symm fun i h1 h2=>?_
    have:=hf i fs[i] (Array.getElem?_eq_getElem (by simpa using h1))
    rw[List.getElem?_eq_getElem h2] at this
    simpa using this
   | array k e' =>
    have h':ga P (cR P n) e' k t=true:=by cases t <;> simpa[cR,hu] using h
    have ed:dX (H:=H) P (n+1) t τ d = .agg (jp (dX P n) e' k t d):=by
     cases t <;> first|(cases ht;done)|(unfold dX;rw[hu])
    obtain⟨xs,m,_,e,hl,hlen,hf⟩:=DataW.trod_array hu hx
    rw[ed] at e
    simp only[Prod.mk.injEq,DataW.agg.injEq] at e
    have:=sg (F:=dX P n) (n:=m) (cs:=cs) (e:=e') (fun t τ cs d p h1 h2 h3=>mQ n t τ m cs d p h1 h2 h3) k _ 0 d xs h' ht hlen e.1.symm fun j h2=>by
     have:=hf j (by omega)
     rw[List.getElem?_eq_getElem h2] at this
     simpa using this
    simpa using this
   | _=>cases t <;> first|(cases ht;done)|(simp[cR,hu] at h;done)
end
theorem globs_one{P:Program}{w:World}{name:String}{t:CT}{v:t.D}{g n:Nat}{τ:TypeId}{d:DataW Unit}(h:laidMetH P [(name,d)] w)(hh:([(name,d)].all fun x=>x.2.handleName?.isNone)=true)
  (hg:P.globalNamed name=some g) (hτ:(P.globals[g]?).map (·.type)=some τ) (hf:cR P n t τ=true) (hs:fO t=true) (hd:d=dX P n t τ v) :
  g<w.heap.size/\Rd (fun b=>b<w.heap.size) w t (fun o=>w.cell? ⟨g,o,none⟩) 0 v:=by
 rw[MakeChecks.laidMetH_plain _ _ _ hh] at h
 obtain⟨ps,⟨g0,t0,cs0,f0,p0,q0,hg0,ht0,hv0,hd0,_,_⟩,_,_⟩:=h
 obtain rfl:=Option.some.inj (hg.symm.trans hg0)
 obtain rfl:=Option.some.inj (hτ.symm.trans ht0)
 rw[hd] at hd0
 have hr:=mQ n t τ f0 cs0.toList v p0 hf hs hd0
 have hlt:g<w.heap.size:=by
  have hv:=hv0
  simp only[World.var?,hg,Option.bind_some] at hv
  split at hv
  ·rename_i hb;exact (Array.getElem?_eq_some_iff.1 hb).1
  ·cases hv
 refine⟨hlt,?_⟩
 refine bG (fun _ h=>h) (fun _ _ _=>rfl) t _ _ _ _ (fun j hj=>?_) hr
 have:=World.var?_cell hg hv0 j
 rw[Nat.zero_add,this];simp
end Go.SX

/- SX, part 29: slices.Insert of one element into a slice that owns its row: its contract, off what its code does with values. -/
namespace Go.SX
set_option linter.unusedVariables false
def bF(cur:Array Value)(o:Nat)(cs:List Value):Array Value:=(cur.toList.take o++cs++cur.toList.drop (o+cs.length)).toArray
theorem gO{cur:Array Value}{o:Nat}{cs:List Value}(h:o+cs.length<=cur.size):(bF cur o cs).size=cur.size:=by
 simp only[bF,List.size_toArray,List.length_append,List.length_take,List.length_drop,Array.length_toList];omega
theorem fM{cur:Array Value}{o:Nat}{cs:List Value}(h:o+cs.length<=cur.size)(j:Nat) :
  (bF cur o cs)[j]? = if j<o then cur[j]? else if j<o+cs.length then cs[j-o]? else cur[j]? := by
 unfold bF
 rw[List.getElem?_toArray]
 have hl:(cur.toList.take o).length=o:=by rw[List.length_take,Array.length_toList];omega
 by_cases h1:j<o
 ·rw[if_pos h1,List.append_assoc,List.getElem?_append_left (by omega),List.getElem?_take,if_pos h1,Array.getElem?_toList]
 ·rw[if_neg h1]
  by_cases h2:j<o+cs.length
  ·rw[if_pos h2,List.append_assoc,List.getElem?_append_right (by omega),List.getElem?_append_left (by omega),hl]
  ·rw[if_neg h2,List.getElem?_append_right (by rw[List.length_append,hl];omega),List.length_append,hl,List.getElem?_drop,Array.getElem?_toList]
   congr 1;omega
def ba(cur:Array Value)(o n:Nat):List Value:=(cur.toList.drop o).take n
theorem gr{cur:Array Value}{o n:Nat}(h:o+n<=cur.size):(ba cur o n).length=n:=by
 unfold ba;rw[List.length_take,List.length_drop,Array.length_toList];omega
theorem fV{cur:Array Value}{o n j:Nat}(h:j<n):(ba cur o n)[j]? = cur[o+j]? := by
 unfold ba;rw[List.getElem?_take,if_pos h,List.getElem?_drop,Array.getElem?_toList]
def fw(cur:Array Value)(off n i z:Nat)(vs:List Value):Array Value:=bF (bF cur (off+(i+1)*z) (ba cur (off+i*z) ((n-i)*z))) (off+i*z) vs
def dY(cur:Array Value)(off n i z G:Nat)(zr:Array Value):Array Value:=(ba cur off (i*z)).toArray++Builtin.zeroCells zr (n+1-i)++Builtin.zeroCells zr (G-(n+1))
def fi(cur:Array Value)(off n i z G:Nat)(zr:Array Value)(vs:List Value):Array Value:=bF (bF (dY cur off n i z G zr) (i*z) vs) ((i+1)*z) (ba cur (off+i*z) ((n-i)*z))
structure nM (P:Program) (F:FuncId) (tS E:TypeId) (z bs:Nat) (zr:Array Value) (ty:TypeId):Prop where
 last:∀(w w':World)(p q:Option Addr)(n c vc:Nat)(v:Value),n<=c->c<=maxLen->(Builtin.append_ #[tS,tS] ty #[.slice p n c,.slice q 1 vc]).run P w = .ok v w' →
  Calls P F #[.slice p n c,.int .i64 n,.slice q 1 vc] w fun e w2=>e = .returned v/\w2=w'
 shift:∀(w:World)(b off n c i vb voff vc:Nat)(cur vcur:Array Value)(E':TypeId)(vs:List Value),i<n->n+1<=c->c<=maxLen->vb≠b->w.heap[b]? = some (.cells cur E (0,0))->off+c*z<=cur.size →
  w.heap[vb]? = some (.cells vcur E' (0,0))->vs.length=z->(∀ j v,vs[j]? = some v->w.cell? ⟨vb,voff+j,none⟩=some v)->(∀ v∈vs,v.oneCell'=true)->(∀ v∈ba cur (off+i*z) ((n-i)*z),v.oneCell'=true) →
  Calls P F #[.slice (some ⟨b,off,none⟩) n c,.int .i64 i,.slice (some ⟨vb,voff,none⟩) 1 vc] w fun e w'=>e = .returned (.slice (some ⟨b,off,none⟩) (n+1) c)/\w'=w.drew.setRow b (fw cur off n i z vs)
 grow:∀(w:World)(b off n i vb voff vc:Nat)(cur vcur:Array Value)(E':TypeId)(vs:List Value),i<n->n+1<=maxLen->(n+1)*bs<=140737488355328->w.heap[b]? = some (.cells cur E (0,0))->off+n*z<=cur.size →
  w.heap[vb]? = some (.cells vcur E' (0,0))->vs.length=z->(∀ j v,vs[j]? = some v->w.cell? ⟨vb,voff+j,none⟩=some v)->(∀ v∈vs,v.oneCell'=true)->(∀ v∈ba cur off (n*z),v.oneCell'=true) →
  Calls P F #[.slice (some ⟨b,off,none⟩) n n,.int .i64 i,.slice (some ⟨vb,voff,none⟩) 1 vc] w fun e w'=>e = .returned (.slice (some ⟨w.heap.size,0,none⟩) (n+1) (grownCap w (n+1) n E)) ∧
   ∃ w1:World,aB w.drew w1 (fun _=>False)/\w1.heap.size=w.heap.size+1/\w1.heap[w.heap.size]? = some (.cells (dY cur off n i z (grownCap w (n+1) n E) zr) E (0,0))/\w'=w1.setRow w.heap.size (fi cur off n i z (grownCap w (n+1) n E) zr vs)
def jv(u:CT)(E:TypeId)(bs:Nat):Spec:=fun base svs=>match svs with
 | [.own n sz,.int .i64 i,.own q sq]=>match Nat.beq q n with
  | true => .fail
  | false => .ask n fun
   | .live (.row E' u' xs)=>match Nat.beq E' E,Nat.beq sz u.size,bv u' u xs with
    | true,true,some ys=>(f8 u (.own q sq)).bind fun vs=>.ask base fun
     | .un => .ret (.det [vs.length=1,0<=i,i<=ys.length,(ys.length+1)*bs<=140737488355328] (.own base u.size) [(base,.live (.row E u (ys.take i.toNat++(vs++ys.drop i.toNat)))),(n,.dead)])
     | _ => .fail
    | _,_,_ => .fail
   | _ => .fail
 | _ => .fail
section
variable {P:Program} {w0:World} {N0:bg} {A:Nat->Prop} {env:ad} {h:ar} {w:World}
theorem Am(m:ai w0 N0 A env h w){t:CT}{n sz:Nat}{v:Value}{ys:List t.D}{r:List Nat}(e:(f8 t (.own n sz)).run h=some (ys,r))(hd:aa A env w (.own n sz) v)(h1:ys.length=1) :
  ∃ k l c vcur E',env n = .blk k l/\v = .slice (some ⟨k,l.1,none⟩) 1 c/\w.heap[k]? = some (.cells vcur E' (0,0))/\(∀ n' k' l' b,n'≠n->h n' = .live b->b.mut=true->env n' = .blk k' l'→k≠k') ∧
   Rd A w t (fun o=>w.cell? ⟨k,o,none⟩) l.1 (cd t ys 0):=by
 simp only[f8,Q.run] at e
 simp only[aa] at hd
 have fin:∀{b:cq}{E':TypeId}{zs:List t.D},h n = .live b->(b = .row E' t zs∨b = .frz E' t zs)->zs.length=1 →
   ∃ k l c vcur E',env n = .blk k l/\v = .slice (some ⟨k,l.1,none⟩) 1 c/\w.heap[k]? = some (.cells vcur E' (0,0))/\(∀ n' k' l' b,n'≠n->h n' = .live b->b.mut=true->env n' = .blk k' l'→k≠k') ∧
    Rd A w t (fun o=>w.cell? ⟨k,o,none⟩) l.1 (cd t zs 0):=by
  intro b E' zs hl hb hz
  rcases hd with⟨hnil,_⟩|⟨k,l,E2,c,hk,hsh,rfl⟩
  ·have:=m.nm n
   rw[hl] at this
   rcases this with⟨k',l',he',_⟩|⟨_,E3,t3,hb3⟩
   ·rw[hnil] at he';cases he'
   ·rcases hb with rfl|rfl <;> rcases hb3 with hb3|hb3 <;> cases hb3 <;> cases hz
  ·have hbd:=m.live_blk hl hk
   have hrow:dG A w k l E' t zs:=by
    rcases hb with rfl|rfl
    ·exact hbd.1
    ·exact hbd.1.2
   have hlen:l.2=1:=by obtain⟨_,_,_,_,h3,_⟩:=hrow;omega
   have hrd:=iX hrow (i:=0) (by omega)
   obtain⟨vcur,cap,hh,_⟩:=hrow
   refine⟨k,l,(c-l.1)/sz,vcur,E',hk,by rw[hlen],hh,?_,by simpa using hrd⟩
   intro n' k' l' b' hne hl' hm' he' hkk
   subst hkk
   rcases hb with rfl|rfl
   ·exact hne (m.inj n' n b' _ k l' l hl' hl hm' rfl he' hk)
   ·exact (m.live_blk hl' he').2 hm' hbd.1.1
 split at e
 ·rename_i p q hk
  simp only[Option.some.injEq,Prod.mk.injEq] at e
  obtain⟨rfl,rfl⟩:=e
  split at hk
  ·rename_i E' u zs hl
   split at hk
   ·rename_i zs' _ hc
    simp only[Q.run,Option.some.injEq,Prod.mk.injEq] at hk
    obtain⟨rfl,_⟩:=hk
    obtain⟨et,ey⟩:=bW hc
    subst et
    simp only at ey
    subst ey
    exact fin hl (.inl rfl) h1
   ·cases hk
  ·rename_i E' u zs hl
   split at hk
   ·rename_i zs' _ hc
    simp only[Q.run,Option.some.injEq,Prod.mk.injEq] at hk
    obtain⟨rfl,_⟩:=hk
    obtain⟨et,ey⟩:=bW hc
    subst et
    simp only at ey
    subst ey
    exact fin hl (.inr rfl) h1
   ·cases hk
  ·cases hk
 ·cases e
theorem qG{u:CT}{xs:List u.D}{y:u.D}{i o:Nat}{row:Nat->Option Value}{cur:Nat->Option Value}{off:Nat}(hi:i<=xs.length)
  (hx:∀ k (hk:k<xs.length),Rd A w u cur (off+k*u.size) xs[k]) {news:Nat->Option Value} (hy:Rd A w u news 0 y)
  (h1:∀ j,j<i*u.size->row (o+j)=cur (off+j)) (h2:∀ j,j<u.size->row (o+i*u.size+j)=news j) (h3:∀ j,j<(xs.length-i)*u.size->row (o+(i+1)*u.size+j)=cur (off+i*u.size+j)) :
  ∀ k (hk:k<(xs.take i++([y]++xs.drop i)).length),Rd A w u row (o+k*u.size) (xs.take i++([y]++xs.drop i))[k]:=by
 intro k hk
 have hl:(xs.take i).length=i:=by rw[List.length_take];omega
 by_cases hki:k<i
 ·rw[List.getElem_append_left (by omega)]
  simp only[List.getElem_take]
  have hm:(k+1)*u.size<=i*u.size:=Nat.mul_le_mul_right _ hki
  rw[Nat.add_mul,Nat.one_mul] at hm
  refine fT (hx k (by omega)) fun j hj=>?_
  rw[Nat.add_assoc,h1 _ (by omega),Nat.add_assoc]
 ·rw[List.getElem_append_right (by omega)]
  simp only[hl]
  by_cases hke:k=i
  ·subst hke
   simp only[Nat.sub_self,List.cons_append,List.nil_append,List.getElem_cons_zero]
   refine fT hy fun j hj=>?_
   rw[h2 j hj,Nat.zero_add]
  ·obtain⟨q,rfl⟩:∃ q,k=i+1+q:=⟨k-i-1,by omega⟩
   have hq:i+q<xs.length:=by simp at hk;omega
   have hg:([y]++xs.drop i)[i+1+q-i]'(by simp;omega)=xs[i+q]:=by
    simp only[show i+1+q-i=q+1 from by omega,List.cons_append,List.nil_append,List.getElem_cons_succ,List.getElem_drop]
   rw[hg]
   have hm:(q+1)*u.size<=(xs.length-i)*u.size:=Nat.mul_le_mul_right _ (by omega)
   rw[Nat.add_mul,Nat.one_mul] at hm
   refine fT (hx (i+q) hq) fun j hj=>?_
   rw[show o+(i+1+q)*u.size+j=o+(i+1)*u.size+(q*u.size+j) from by rw[Nat.add_mul (i+1)];omega,h3 _ (by omega)]
   congr 1
   rw[Nat.add_mul i q];omega
theorem z6(m:ai w0 N0 A env h w){tS E ty:TypeId}{zv:Value}{z bs base n sz q sq:Nat}{u:CT}{xs ys:List u.D}{r:List Nat}{sv xv:Value}(hu:P.underlying tS=some (.slice E))(hi:(P.info? E).map (fun i=>(i.zero,i.size,i.bytes))=some (some zv,z,bs))(hzr:zv.cells.size=z)(hbs:1<=bs)(hz:z=u.size)
  (hl:h n = .live (.row E u xs)) (hsz:sz=u.size) (hs:(f8 u (.own q sq)).run h=some (ys,r)) (hun:h base = .un) (hby:(xs.length+ys.length)*bs<=140737488355328)
  (ds:aa A env w (.own n sz) sv) (dx:aa A env w (.own q sq) xv) :
  ∃ v w',(Builtin.append_ #[tS,tS] ty #[sv,xv]).run P w = .ok v w'∧bl w0 N0 A env h w (.det [] (.own base u.size) [(base,.live (.row E u (xs++ys))),(n,.dead)]) v w':=by
 obtain⟨i0,hi0⟩:∃ i0,P.info? E=some i0:=by
  cases hh:P.info? E with
  | none=>rw[hh] at hi;cases hi
  | some i0=>exact⟨i0,rfl⟩
 rw[hi0] at hi
 simp only[Option.map_some,Option.some.injEq,Prod.mk.injEq] at hi
 obtain⟨hz0,hzs,hzb⟩:=hi
 subst hz hzb hsz
 have run:(j4 P tS base (.own n u.size) (.own q sq)).run h=some (.det [(xs.length+ys.length)*i0.bytes<=140737488355328] (.own base u.size) [(base,.live (.row E u (xs++ys))),(n,.dead)],n::(r++[base])):=by
  have he:eP P tS=some (E,u.size):=by unfold eP;rw[hu];simp[bu,hi0,hzs]
  unfold j4
  rw[he]
  simp only[hi0,Nat.ble_eq_true_of_le hbs,hz0,hzr,Nat.beq_refl]
  simp only[Q.run,hl,Nat.beq_refl]
  rw[Q.bind_run1 _ _ hs (b := .det [(xs.length+ys.length)*i0.bytes<=140737488355328] (.own base u.size) [(base,.live (.row E u (xs++ys))),(n,.dead)]) (r2:=[base]) (by simp only[Q.run,hun])]
 let o : Oper := { dst := none, op := .call { callee := .builtin .append, args := #[.tmp 0, .tmp 1], argTypes := #[tS, tS] }, type := ty, pos := "", after := #[], guard := none }
 let a:Act:={tmps := #[sv,xv],defers:=[]}
 have fd:FD A env w (fun i=>if i=0 then .own n u.size else if i=1 then .own q sq else .junk) a:=by
  intro i
  by_cases h0:i=0
  ·subst h0;exact ds
  ·by_cases h1:i=1
   ·subst h1;exact dx
   ·simp only[h0,h1,if_false,aa]
 obtain⟨v,w',hr,g⟩:=sS (P:=P) (o:=o) (a:=a) (nm:=base) (s := .tmp 0) (x := .tmp 1) (t:=tS) m fd rfl run (by simp only[Dl.pre,am,and_true];exact hby)
 have he:(execOp a.eval o).run P w=((Builtin.append_ #[tS,tS] ty #[sv,xv]).run P w).andThen fun v w'=>.ok (.value v) w':=by
  unfold execOp
  simp only[o,resolve,invoke,builtin,Sem.run_bind,Sem.run_pure,Result.andThen_ok,List.map_toArray,List.map_cons,List.map_nil]
  rfl
 rw[he] at hr
 cases hb:(Builtin.append_ #[tS,tS] ty #[sv,xv]).run P w with
 | ok v1 w1 =>
  rw[hb] at hr
  rcases hr with hr|⟨hr,_⟩
  ·cases hr
   exact⟨v,w',rfl,g⟩
  ·cases hr
 | _=>rw[hb] at hr;rcases hr with hr|⟨hr,_⟩ <;> cases hr
theorem tB{t:CT}{ys:List t.D}(h:ys.length=1):ys=[cd t ys 0]:=by
 match ys,h with
 | [y],_=>rfl
theorem pV{u:CT}{cv:Nat->Option Value}{o:Nat}{xs:List u.D}(hx:∀ i (hi:i<xs.length),Rd A w u cv (o+i*u.size) xs[i]){cur:Array Value}(hc:∀ j,cv j=cur[j]?){a n:Nat}(ha:a+n<=xs.length)(hs:o+(a+n)*u.size<=cur.size) :
  ∀ v∈ba cur (o+a*u.size) (n*u.size),v.oneCell'=true:=by
 obtain⟨news,hl,hcv,h1⟩:=kP (A:=A) (w:=w) ((xs.drop a).take n) (o+a*u.size) (cv:=cv) (fun i hi=>by
  simp only[List.length_take,List.length_drop] at hi
  have:=hx (a+i) (by omega)
  simp only[List.getElem_take,List.getElem_drop]
  rw[Nat.add_assoc,← Nat.add_mul];exact this)
 have hln:((xs.drop a).take n).length=n:=by rw[List.length_take,List.length_drop];omega
 rw[hln] at hl
 intro v hv
 obtain⟨j,hj,rfl⟩:=List.mem_iff_getElem.1 hv
 have hcl:(ba cur (o+a*u.size) (n*u.size)).length=n*u.size:=gr (by rw[Nat.add_assoc,← Nat.add_mul];exact hs)
 have e1:(ba cur (o+a*u.size) (n*u.size))[j]? = news[j]? := by
  rw[fV (by omega),← hc,hcv j (by omega)]
 rw[List.getElem?_eq_getElem hj] at e1
 exact h1 _ (List.mem_iff_getElem?.2 ⟨j,e1.symm⟩)
theorem sE{G:fW}{F:FuncId}{tS E ty:TypeId}{zv:Value}{z bs:Nat}{u:CT}(raw:nM P F tS E z bs zv.cells ty)(hu:P.underlying tS=some (.slice E))(hi:(P.info? E).map (fun i=>(i.zero,i.size,i.bytes))=some (some zv,z,bs))
  (hzr:zv.cells.size=z) (hbs:1<=bs) (hz:z=u.size):aF P G F (jv u E bs):=by
 intro base svs h d r e hp w0 N0 A env w vs hg m hd
 unfold jv at e
 split at e
 case h_2=>cases e
 rename_i n sz i q sq
 split at e
 ·cases e
 rename_i hqn
 have hqn:q≠n:=fun e=>by rw[e,Nat.beq_refl] at hqn;cases hqn
 simp only[Q.run] at e
 split at e
 case h_2=>cases e
 rename_i p0 q0 hk
 simp only[Option.some.injEq,Prod.mk.injEq] at e
 obtain⟨rfl,rfl⟩:=e
 split at hk
 case h_2=>cases hk
 rename_i E' u xs hl
 split at hk
 case h_2=>cases hk
 rename_i ys hE hsz hc
 have hE:E'=E:=Nat.eq_of_beq_eq_true hE
 have hsz:=Nat.eq_of_beq_eq_true hsz
 obtain⟨et,ey⟩:=bW hc
 subst et hE hsz
 simp only at ey
 subst ey
 obtain⟨vs1,q1,q2,e1,e2,rfl⟩:=Q.run_bind _ _ _ hk
 simp only[Q.run] at e2
 split at e2
 case h_2=>cases e2
 rename_i p' q' hk'
 simp only[Option.some.injEq,Prod.mk.injEq] at e2
 obtain⟨rfl,rfl⟩:=e2
 split at hk'
 case h_2=>cases hk'
 rename_i hun
 cases aw hk'
 simp only[Dl.pre,am,and_true] at hp
 obtain⟨hp1,hp2,hp3,hp4⟩:=hp
 simp only[ab] at hd
 obtain⟨sv,r1,rfl,ds,iv,r2,rfl,di,xv,r3,rfl,dx,rfl⟩:=hd
 have di':=di
 simp only[aa] at di'
 obtain⟨rfl,hii⟩:=di'
 obtain⟨k,l,c,vcur,E2,hkq,rfl,hkc,hkne,hrd⟩:=Am m e1 dx hp1
 subst hz
 have hlen:∀{ii:Nat},ii=ys.length->ys.take ii++(vs1++ys.drop ii)=ys++vs1:=by
  rintro _ rfl
  rw[List.take_length,List.drop_length,List.append_nil]
 obtain⟨ii,rfl⟩:=Int.eq_ofNat_of_zero_le hp2
 have hii2:ii<=ys.length:=by omega
 simp only[Int.toNat_natCast]
 have hlast:∀ nn cc pp,ii=ys.length->sv = .slice pp nn cc->nn=ys.length->nn<=cc->cc<=maxLen →
   Calls P F #[sv,.int .i64 (ii:Int),.slice (some ⟨k,l.1,none⟩) 1 c] w fun e w'=>∃ v,e = .returned v/\bl w0 N0 A env h w (.det [vs1.length=1,(0:Int)<=(ii:Int),(ii:Int)<=(ys.length:Int),(ys.length+1)*bs<=140737488355328] (.own base u.size) [(base,.live (.row E' u (ys.take ii++(vs1++ys.drop ii)))),(n,.dead)]) v w':=by
  rintro nn cc pp rfl rfl rfl hle hmx
  obtain⟨v,w',hr,g⟩:=z6 (ty:=ty) m hu hi hzr hbs rfl hl rfl e1 hun (by rw[hp1];exact hp4) ds dx
  refine (raw.last w w' pp (some ⟨k,l.1,none⟩) ys.length cc c v hle hmx hr).mono ?_
  rintro e w2 ⟨rfl,rfl⟩
  refine⟨v,rfl,?_⟩
  rw[hlen rfl]
  exact g
 have hdn:∀ n'∈[n],∃ b,h n' = .live b/\b.mut=true:=by simp[hl,cq.mut]
 have ds':=ds
 simp only[aa] at ds'
 rcases ds' with⟨hnil,pa,rfl⟩|⟨b,⟨β,len⟩,E3,cc,hb,hsh,rfl⟩
 ·have hx:ys=[]:=by
   have:=m.nm n
   rw[hl] at this
   rcases this with⟨k',l',he',_⟩|⟨_,E3,t3,hb⟩
   ·rw[hnil] at he';cases he'
   ·rcases hb with hb|hb <;> cases hb;rfl
  subst hx
  exact hlast 0 0 pa (by simpa using hii2) rfl rfl (Nat.le_refl _) (by simp[maxLen])
 ·obtain⟨cur,cap,hh,hcs,hxl,hlc,hcm,hrdx⟩:=(m.live_blk hl hb).1
  simp only at hcs hxl hlc hrdx
  have hcc:cc=cur.size/\E3=E':=by
   unfold World.shape? at hsh;rw[hh] at hsh
   simp only[Option.some.injEq,Prod.mk.injEq] at hsh;exact⟨hsh.2.symm,hsh.1.symm⟩
  obtain⟨rfl,rfl⟩:=hcc
  have hcap:(cur.size-β)/u.size=cap:=by rw[hcs,Nat.add_sub_cancel_left];exact Nat.mul_div_cancel _ u.size_pos
  have hnA:=(m.live_blk hl hb).2 rfl
  simp only[hcap] at hlast ⊢
  rcases Nat.lt_or_ge ii ys.length with hlt|hge
  case inr=>exact hlast len cap _ (by omega) rfl hxl.symm hlc hcm
  obtain⟨news,hnl,hnc,hnd⟩:=gt (env:=env) u _ _ _ hrd
  have hn1:=kg hnd (lM _ _)
  have hnews:∀ j v,news[j]? = some v->w.cell? ⟨k,l.1+j,none⟩=some v:=fun j v hj=>by
   rw[hnc j (by rw[← hnl];exact (List.getElem?_eq_some_iff.1 hj).1)];exact hj
  have hry:Rd A w u (fun j=>news[j]?) 0 (cd u vs1 0):=fT hrd fun j hj=>by rw[Nat.zero_add,hnc j hj]
  have hkb:k≠b:=hkne n b _ _ (Ne.symm hqn) hl rfl hb
  have hlz:(len-ii)*u.size+(ii+1)*u.size=(len+1)*u.size:=by rw[← Nat.add_mul];congr 1;omega
  have hiz:(ii+1)*u.size=ii*u.size+u.size:=by rw[Nat.add_mul,Nat.one_mul]
  have hlcz:len*u.size<=cap*u.size:=Nat.mul_le_mul_right _ hlc
  have hlz1:(len+1)*u.size=len*u.size+u.size:=by rw[Nat.add_mul,Nat.one_mul]
  have hnlen:(ys.take ii++(vs1++ys.drop ii)).length=len+1:=by simp;omega
  have hcutl:(ba cur (β+ii*u.size) ((len-ii)*u.size)).length=(len-ii)*u.size:=gr (by omega)
  by_cases hroom:len+1<=cap
  ·have hroomz:(len+1)*u.size<=cap*u.size:=Nat.mul_le_mul_right _ hroom
   refine (raw.shift w b β len cap ii k l.1 c cur vcur E2 news (by omega) hroom hcm hkb hh (by omega) hkc hnl hnews hn1 (pV hrdx (fun _=>rfl) (by omega) (by rw[show ii+(len-ii)=len from by omega];omega))).mono ?_
   rintro e w' ⟨rfl,rfl⟩
   refine⟨_,rfl,?_⟩
   have s1:(bF cur (β+(ii+1)*u.size) (ba cur (β+ii*u.size) ((len-ii)*u.size))).size=cur.size:=gO (by rw[hcutl];omega)
   have s2:(fw cur β len ii u.size news).size=cur.size:=by unfold fw;rw[gO (by rw[s1,hnl];omega),s1]
   have cg:aB w (w.drew.setRow b (fw cur β len ii u.size news)) fun j=>j=b:=(aB.drew w _).trans (aB.setRow w.drew b cur _ E3 hh s2)
   have g:=dA (pre:=[vs1.length=1,(0:Int)<=(ii:Int),(ii:Int)<=(ys.length:Int),(ys.length+1)*bs<=140737488355328]) (v := .slice (some ⟨b,β,none⟩) (len+1) cap) (E:=E3) (t:=u) (zs:=ys.take ii++(vs1++ys.drop ii)) m hun [n] hdn (W:=fun j=>j=b) (ev := .blk b (β,len+1)) cg
    (fun k hk=>⟨n,(β,len),by simp,hk▸hb⟩) (by simp) (fun k l e=>by cases e;exact .inr ⟨n,(β,len),by simp,hb⟩) (fun x=>.inr ⟨b,(β,len+1),cur.size,rfl,?_,?_,?_⟩)
   ·exact g
   ·refine⟨_,cap,setRow_heap w.drew b cur _ E3 _ hh,by rw[s2];exact hcs,hnlen,hroom,hcm,?_⟩
    intro k' hk'
    refine bG (fun _ h=>h) x.keep u _ _ _ _ (fun j _=>rfl) ?_
    have hv1:=tB hp1
    have key:=qG (A:=A) (w:=w) (u:=u) (xs:=ys) (y:=cd u vs1 0) (i:=ii) (o:=β) (off:=β) (row:=fun o=>(fw cur β len ii u.size news)[o]?) (cur:=fun o=>cur[o]?) hii2 hrdx hry ?_ ?_ ?_ k' (by rw[← hv1];exact hk')
    ·simp only[← hv1] at key;exact key
    ·intro j hj
     unfold fw
     try simp only
     rw[fM (by rw[s1,hnl];omega),if_pos (by omega),fM (by rw[hcutl];omega),if_pos (by omega)]
    ·intro j hj
     unfold fw
     try simp only
     rw[fM (by rw[s1,hnl];omega),if_neg (by omega),if_pos (by rw[hnl];omega)]
     congr 1;omega
    ·intro j hj
     rw[hxl] at hj
     unfold fw
     try simp only
     rw[fM (by rw[s1,hnl];omega),if_neg (by omega),if_neg (by rw[hnl];omega),fM (by rw[hcutl];omega),if_neg (by omega),if_pos (by rw[hcutl];omega),show β+(ii+1)*u.size+j-(β+(ii+1)*u.size)=j from by omega,fV hj]
   ·unfold World.shape?;rw[setRow_heap w.drew b cur _ E3 _ hh];simp only[s2]
   ·show _=Value.slice _ _ ((cur.size-β)/u.size)
    rw[hcap]
  ·have hcl:cap=len:=by omega
   subst hcl
   have hsum:cap+1<=maxLen:=by
    have:(cap+1)*1<=(ys.length+1)*bs:=by rw[hxl];exact Nat.mul_le_mul_left _ hbs
    simp only[maxLen];omega
   refine (raw.grow w b β cap ii k l.1 c cur vcur E2 news (by omega) hsum (by rw[← hxl];exact hp4) hh (by omega) hkc hnl hnews hn1 (by
    have:=pV hrdx (fun _=>rfl) (a:=0) (n:=cap) (cur:=cur) (by omega) (by rw[Nat.zero_add];omega)
    simpa using this)).mono ?_
   rintro e w' ⟨rfl,w1,cg1,hs1,hh1,rfl⟩
   refine⟨_,rfl,?_⟩
   have hge:=grownCap_ge w (cap+1) cap E3
   have hcm':=grownCap_le_maxLen w (cap+1) cap E3 hsum
   generalize grownCap w (cap+1) cap E3=G' at *
   have hGz:(cap+1)*u.size<=G'*u.size:=Nat.mul_le_mul_right _ hge
   have hcut0:(ba cur β (ii*u.size)).length=ii*u.size:=gr (by omega)
   have s0:(dY cur β cap ii u.size G' zv.cells).size=G'*u.size:=by
    unfold dY
    simp only[Array.size_append,List.size_toArray,hcut0,size_zeroCells,hzr,← Nat.add_mul];congr 1;omega
   have s1:(bF (dY cur β cap ii u.size G' zv.cells) (ii*u.size) news).size=G'*u.size:=by rw[gO (by rw[s0,hnl];omega),s0]
   have s2:(fi cur β cap ii u.size G' zv.cells news).size=G'*u.size:=by unfold fi;rw[gO (by rw[s1,hcutl];omega),s1]
   have cg:aB w (w1.setRow w.heap.size (fi cur β cap ii u.size G' zv.cells news)) fun _=>False:=by
    have c2:=aB.setRow w1 w.heap.size _ (fi cur β cap ii u.size G' zv.cells news) E3 hh1 (by rw[s2,s0])
    have c3:=(aB.drew w fun _=>False).trans cg1
    exact⟨c2.os.trans c3.os,c2.tape.trans c3.tape,c2.output.trans c3.output,Nat.le_trans c3.size c2.size,
     fun i hi hw=>(c2.blk i (Nat.lt_of_lt_of_le hi c3.size) (fun e=>by omega)).trans (c3.blk i hi hw),fun i s hs=>c2.shape i s (c3.shape i s hs)⟩
   have g:=dA (pre:=[vs1.length=1,(0:Int)<=(ii:Int),(ii:Int)<=(ys.length:Int),(ys.length+1)*bs<=140737488355328]) (v := .slice (some ⟨w.heap.size,0,none⟩) (cap+1) G') (E:=E3) (t:=u) (zs:=ys.take ii++(vs1++ys.drop ii)) m hun [n] hdn (W:=fun _=>False) (ev := .blk w.heap.size (0,cap+1)) cg
    (fun _ h=>h.elim) (by simp) (fun k l e=>by cases e;exact .inl (Nat.le_refl _)) (fun x=>.inr ⟨w.heap.size,(0,cap+1),G'*u.size,rfl,?_,?_,?_⟩)
   ·exact g
   ·refine⟨_,G',setRow_heap w1 w.heap.size _ _ E3 _ hh1,by rw[s2,Nat.zero_add],hnlen,hge,hcm',?_⟩
    intro k' hk'
    refine bG (fun _ h=>h) x.keep u _ _ _ _ (fun j _=>rfl) ?_
    have hv1:=tB hp1
    have key:=qG (A:=A) (w:=w) (u:=u) (xs:=ys) (y:=cd u vs1 0) (i:=ii) (o:=0) (off:=β) (row:=fun o=>(fi cur β cap ii u.size G' zv.cells news)[o]?) (cur:=fun o=>cur[o]?) hii2 hrdx hry ?_ ?_ ?_ k' (by rw[← hv1];exact hk')
    ·simp only[← hv1] at key;exact key
    ·intro j hj
     unfold fi
     try simp only
     rw[fM (by rw[s1,hcutl];omega),if_pos (by omega),fM (by rw[s0,hnl];omega),if_pos (by omega)]
     unfold dY
     rw[Array.append_assoc,Array.getElem?_append_left (by simp only[List.size_toArray,hcut0];omega),List.getElem?_toArray,Nat.zero_add,fV hj]
    ·intro j hj
     unfold fi
     try simp only
     rw[fM (by rw[s1,hcutl];omega),if_pos (by omega),fM (by rw[s0,hnl];omega),if_neg (by omega),if_pos (by rw[hnl];omega)]
     congr 1;omega
    ·intro j hj
     rw[hxl] at hj
     unfold fi
     try simp only
     rw[fM (by rw[s1,hcutl];omega),if_neg (by omega),if_pos (by rw[hcutl];omega),show 0+(ii+1)*u.size+j-(ii+1)*u.size=j from by omega,fV hj]
   ·unfold World.shape?;rw[setRow_heap w1 w.heap.size _ _ E3 _ hh1];simp only[s2]
   ·show _=Value.slice _ _ ((G'*u.size-0)/u.size)
    rw[Nat.sub_zero,Nat.mul_div_cancel _ u.size_pos]
end
end Go.SX

/- Insx: a message put into a list of messages, an item into a list of items (slices.Insert). -/
namespace Go.RS
open Go.SX Go.Proofs
set_option maxRecDepth 100000
set_option maxHeartbeats 4000000
set_option linter.unusedVariables false
def iJ:Value := .agg #[.int .i64 0,.int .i64 0,.slice none 0 0]
section
variable {w:World}
theorem uD:nM Try.prog 81 26 53 3 40 iJ.cells 26:=by
 refine⟨?_,?_,?_⟩
 ·intro w w' p q n c vc v hn hc hr
  have hz:(Go.sizeOf 53).run Try.prog w = .ok 3 w:=ca (by kernel_rfl) w
  unfold maxLen at hc
  cases p <;> go_enter Try.func81,Try.ntmps81 <;>
  go_wp2_with (at_builtin;refine Lib.wpList_append_run _ rfl _ _ _ _ rfl _ _ rfl rfl _ _ hr ?_)
  all_goals (go_ret;exact⟨rfl,rfl⟩)
 ·intro w b off n c i vb voff vc cur vcur E' vs hi hn hc hvb hb hf hv hvl hvs h1v h1c
  have hz:∀ w,(Go.sizeOf 53).run Try.prog w = .ok 3 w:=fun w=>ca (by kernel_rfl) w
  have mixed:Try.prog.follows .mixedOrders=true:=az
  unfold maxLen at hc
  have hsa:w.shape? vb=some (E',vcur.size):=by unfold World.shape?;rw[hv]
  have hsb:w.shape? b=some (53,cur.size):=by unfold World.shape?;rw[hb]
  have hfa:w.frozen? ⟨vb,voff,none⟩=false:=by simp[World.frozen?,hv]
  have hfe:w.frozen? ⟨vb,vcur.size,none⟩=false:=by simp[World.frozen?,hv]
  have hov:∀ lb cb o,(callFunc 94 #[.slice (some ⟨vb,voff,none⟩) 1 vc,.slice (some ⟨b,o,none⟩) lb cb]).run Try.prog w = .ok (.value (.bool false)) w:=fun lb cb o=>by
   rw[run_callFunc_extern Try.func94 (by kernel_rfl) (by kernel_rfl) (by kernel_rfl) (e:=Extern.SlicesOverlaps.overlaps #[26,26] #[4]) (by kernel_rfl),
    Lib.run_overlaps_apart w 26 4 53 Try.underlying26 3 hz ⟨vb,voff,none⟩ ⟨b,o,none⟩ 1 vc lb cb hvb E' 53 vcur.size cur.size hsa hsb (by omega) hfa hfe]
   rfl
  have hw1:IntKind.i64.wrap ((i:Int)+1)=(i:Int)+1:=by rw[IntKind.wrap_i64];omega
  have hw2:IntKind.i64.wrap ((n:Int)+1)=(n:Int)+1:=by rw[IntKind.wrap_i64];omega
  have hz2:¬ ((i:Int)=(n:Int)):=by omega
  have htn:((i:Int)+1).toNat=i+1:=by omega
  have htm:((n:Int)+1).toNat=n+1:=by omega
  have hb1:(0:Int)<=(i:Int)+1:=by omega
  have hb2:¬ (c=i+1):=by omega
  have hb3:(i:Int)<=(n:Int)+1:=by omega
  have hb4:¬ (c=i):=by omega
  have hin:i<=n:=by omega
  have e1:(i+1)*3=i*3+3:=by omega
  have hcl:(ba cur (off+i*3) ((n-i)*3)).length=(n-i)*3:=gr (by omega)
  have hsz:(Try.prog.info? 53).map (·.size)=some 3:=by kernel_rfl
  have hcp1:(Builtin.copy_ #[26,26] 3 #[.slice (some ⟨b,off+(i+1)*3,none⟩) (n-i) (c-(i+1)),.slice (some ⟨b,off+i*3,none⟩) (n+1-i) (c-i)]).run Try.prog w.drew =
    .ok (goInt ((n-i:Nat):Int)) (w.drew.setRow b (bF cur (off+(i+1)*3) (ba cur (off+i*3) ((n-i)*3)))):=by
   have h:=gB (P:=Try.prog) w.drew 26 26 3 53 3 b (off+(i+1)*3) (n-i) (c-(i+1)) ⟨b,off+i*3,none⟩ (n+1-i) (c-i) cur 53 (ba cur (off+i*3) ((n-i)*3)) Try.underlying26 hsz hb
    (by rw[hcl];simp only[Nat.min_def];split <;> omega)
    (fun j v hj=>by
     have hj':=(List.getElem?_eq_some_iff.1 hj).1
     rw[hcl] at hj'
     rw[fV hj'] at hj
     rw[Addr.add_lit,cell_of_row w.drew b _ cur 53 (0,0) hb];exact hj)
    (by rw[hcl];omega) h1c
   have hm:Nat.min (n+1-i) (n-i)=n-i:=by simp only[Nat.min_def];split <;> omega
   rw[hm] at h
   exact h
  have hr1:(bF cur (off+(i+1)*3) (ba cur (off+i*3) ((n-i)*3))).size=cur.size:=gO (by rw[hcl];omega)
  have hcp2:(Builtin.copy_ #[26,26] 3 #[.slice (some ⟨b,off+i*3,none⟩) (n+1-i) (c-i),.slice (some ⟨vb,voff,none⟩) 1 vc]).run Try.prog (w.drew.setRow b (bF cur (off+(i+1)*3) (ba cur (off+i*3) ((n-i)*3)))) =
    .ok (goInt 1) (w.drew.setRow b (fw cur off n i 3 vs)):=by
   have h:=gB (P:=Try.prog) (w.drew.setRow b (bF cur (off+(i+1)*3) (ba cur (off+i*3) ((n-i)*3)))) 26 26 3 53 3 b (off+i*3) (n+1-i) (c-i) ⟨vb,voff,none⟩ 1 vc _ 53 vs Try.underlying26 hsz
    (setRow_heap w.drew b cur _ 53 (0,0) hb)
    (by rw[hvl];simp only[Nat.min_def];split <;> omega)
    (fun j v hj=>by
     rw[Addr.add_lit,cell_setRow_other _ _ _ _ hvb]
     exact hvs j v hj)
    (by rw[hr1,hvl];omega) h1v
   have hm:Nat.min 1 (n+1-i)=1:=by simp only[Nat.min_def];split <;> omega
   rw[hm,setRow_setRow] at h
   exact h
  clear e1 hcl hr1
  go_enter Try.func81,Try.ntmps81
  go_wp2_with (simp only[hov])
  go_region
  go_wp2
  all_goals (go_ret;exact⟨rfl,rfl⟩)
 ·intro w b off n i vb voff vc cur vcur E' vs hi hn hby hb hf hv hvl hvs h1v h1c
  have hz:∀ w,(Go.sizeOf 53).run Try.prog w = .ok 3 w:=fun w=>ca (by kernel_rfl) w
  have mixed:Try.prog.follows .mixedOrders=true:=az
  have hx:(Try.prog.info? 53).map (fun i=>(i.zero,i.size,i.bytes))=some (some iJ,3,40):=by kernel_rfl
  obtain⟨i0,hi0⟩:∃ i0,Try.prog.info? 53=some i0:=by
   cases hh:Try.prog.info? 53 with
   | none=>rw[hh] at hx;cases hx
   | some i0=>exact⟨i0,rfl⟩
  rw[hi0] at hx
  simp only[Option.map_some,Option.some.injEq,Prod.mk.injEq] at hx
  obtain⟨hz0,hzs,hzb⟩:=hx
  have hsz:(Try.prog.info? 53).map (·.size)=some 3:=by kernel_rfl
  have hbw:b<w.heap.size:=(Array.getElem?_eq_some_iff.1 hb).1
  have hvw:vb<w.heap.size:=(Array.getElem?_eq_some_iff.1 hv).1
  have hni:i*3+(n-i)*3=n*3:=by rw[← Nat.add_mul];congr 1;omega
  have hil:(ba cur off (i*3)).length=i*3:=gr (by omega)
  have hcl:(ba cur (off+i*3) ((n-i)*3)).length=(n-i)*3:=gr (by omega)
  have hold:(Builtin.firstCells i0.size i (.slice (some ⟨b,off,none⟩) i n)).run Try.prog w.drew = .ok (ba cur off (i*3)).toArray w.drew:=by
   rw[hzs]
   exact run_firstCells_some w.drew 3 i ⟨b,off,none⟩ i n (ba cur off (i*3)) hil (fun j v hj=>by
    have hj':=(List.getElem?_eq_some_iff.1 hj).1
    rw[hil] at hj'
    rw[fV hj'] at hj
    rw[Addr.add_lit,cell_of_row w.drew b _ cur 53 (0,0) hb];exact hj)
  have hGn:n+1<=grownCap w (n+1) n 53:=grownCap_ge w _ _ _
  have hG63:=grownCap_le_maxLen w (n+1) n 53 hn
  have hrz:(Builtin.append_ #[26,3] 26 #[.slice (some ⟨b,off,none⟩) i n,.int .i64 ((n:Int)+1-(i:Int))]).run Try.prog w =
    .ok (.slice (some ⟨w.heap.size,0,none⟩) (n+1) (grownCap w (n+1) n 53)) (w.drew.alloc (.cells (dY cur off n i 3 (grownCap w (n+1) n 53) iJ.cells) 53)):=by
   have h:=Lib.run_append_grow_zeros w 26 3 26 53 i0 _ .i64 .i64 Try.underlying26 Try.underlying3 hi0 hz0 (some ⟨b,off,none⟩) i n (ba cur off (i*3)) hold (n+1-i) (by omega) (by omega) (by omega) (by unfold maxLen at hn;omega) (by rw[hzb];omega)
    (by rw[show i+(n+1-i)=n+1 from by omega];exact growslice_fits (by omega) (by rw[hzb];exact hby))
   rw[show i+(n+1-i)=n+1 from by omega] at h
   rw[show (n:Int)+1-(i:Int)=((n+1-i:Nat):Int) from by omega]
   exact h
  generalize hG:grownCap w (n+1) n 53=G at *
  have hrs:(dY cur off n i 3 G iJ.cells).size=G*3:=by
   unfold dY
   simp only[Array.size_append,List.size_toArray,hil,size_zeroCells]
   have:iJ.cells.size=3:=rfl
   rw[this,← Nat.add_mul,← Nat.add_mul];congr 1;omega
  generalize hROW:dY cur off n i 3 G iJ.cells=ROW at *
  have hgN:(w.drew.alloc (.cells ROW 53)).heap[w.heap.size]? = some (.cells ROW 53 (0,0)):=heap_alloc_new w.drew _
  have hG6:(n+1)*3<=G*3:=Nat.mul_le_mul_right _ hGn
  have e1:(i+1)*3=i*3+3:=by omega
  have hr1:(bF ROW (i*3) vs).size=G*3:=by rw[gO (by rw[hrs,hvl];omega),hrs]
  have hcp1:(Builtin.copy_ #[26,26] 3 #[.slice (some ⟨w.heap.size,i*3,none⟩) (n+1-i) (G-i),.slice (some ⟨vb,voff,none⟩) 1 vc]).run Try.prog (w.alloc (.cells ROW 53)).drew =
    .ok (goInt 1) ((w.alloc (.cells ROW 53)).drew.setRow w.heap.size (bF ROW (i*3) vs)):=by
   have h:=gB (P:=Try.prog) (w.drew.alloc (.cells ROW 53)) 26 26 3 53 3 w.heap.size (i*3) (n+1-i) (G-i) ⟨vb,voff,none⟩ 1 vc _ 53 vs Try.underlying26 hsz hgN
    (by rw[hvl];simp only[Nat.min_def];split <;> omega)
    (fun j v hj=>by
     rw[Addr.add_lit,World.cell?_alloc_past (w:=w.drew) _ vb _ hvw]
     exact hvs j v hj)
    (by rw[hrs,hvl];omega) h1v
   have hm:Nat.min 1 (n+1-i)=1:=by simp only[Nat.min_def];split <;> omega
   rw[hm] at h
   exact h
  have hcp2:(Builtin.copy_ #[26,26] 3 #[.slice (some ⟨w.heap.size,(i+1)*3,none⟩) (n-i) (G-(i+1)),.slice (some ⟨b,off+i*3,none⟩) (n-i) (n-i)]).run Try.prog ((w.alloc (.cells ROW 53)).drew.setRow w.heap.size (bF ROW (i*3) vs)).drew =
    .ok (goInt ((n-i:Nat):Int)) ((w.alloc (.cells ROW 53)).drew.drew.setRow w.heap.size (bF (bF ROW (i*3) vs) ((i+1)*3) (ba cur (off+i*3) ((n-i)*3)))):=by
   have h:=gB (P:=Try.prog) ((w.alloc (.cells ROW 53)).drew.setRow w.heap.size (bF ROW (i*3) vs)).drew 26 26 3 53 3 w.heap.size ((i+1)*3) (n-i) (G-(i+1)) ⟨b,off+i*3,none⟩ (n-i) (n-i) _ 53 (ba cur (off+i*3) ((n-i)*3)) Try.underlying26 hsz
    (setRow_heap _ w.heap.size _ _ 53 (0,0) hgN)
    (by rw[hcl];simp only[Nat.min_def];split <;> omega)
    (fun j v hj=>by
     have hj':=(List.getElem?_eq_some_iff.1 hj).1
     rw[hcl] at hj'
     rw[fV hj'] at hj
     show World.cell? ((w.drew.alloc (.cells ROW 53)).setRow w.heap.size (bF ROW (i*3) vs)) _=_
     rw[Addr.add_lit,cell_setRow_other _ _ _ _ (by show b≠w.heap.size;omega),World.cell?_alloc_past (w:=w.drew) _ b _ hbw,cell_of_row w.drew b _ cur 53 (0,0) hb];exact hj)
    (by rw[hr1,hcl];omega) (fun v hv=>h1c v (by
     unfold ba at hv ⊢
     rw[← List.drop_drop] at hv
     have e2:List.take ((n-i)*3) (List.drop (i*3) (List.drop off cur.toList))=List.drop (i*3) (List.take (n*3) (List.drop off cur.toList)):=by
      rw[List.drop_take];congr 1;omega
     rw[e2] at hv
     exact List.mem_of_mem_drop hv))
   have hm:Nat.min (n-i) (n-i)=n-i:=by simp only[Nat.min_def];split <;> omega
   rw[hm] at h
   have hs2:∀(W:World)(g:Nat)(a b:Array Value),(W.setRow g a).drew.setRow g b=W.drew.setRow g b:=fun W g a b=>setRow_setRow W.drew g a b
   rw[hs2] at h
   exact h
  have hz2:¬ ((i:Int)=(n:Int)):=by omega
  have hw1:IntKind.i64.wrap ((i:Int)+1)=(i:Int)+1:=by rw[IntKind.wrap_i64];unfold maxLen at hn;omega
  have hw2:IntKind.i64.wrap ((n:Int)+1)=(n:Int)+1:=by rw[IntKind.wrap_i64];unfold maxLen at hn;omega
  have hz3:(n:Int)<(n:Int)+1:=by omega
  have hGi:¬ (G=i):=by omega
  have hGim:¬ (G=i+1):=by omega
  have hci:¬ (n=i):=by omega
  have hb1:(0:Int)<=(i:Int)+1:=by omega
  have hin:i<=n:=by omega
  have htn:((i:Int)+1).toNat=i+1:=by omega
  have hb3:(i:Int)<=(n:Int):=by omega
  have hiG:i<=n+1:=by omega
  unfold maxLen at hn hG63
  clear e1 hr1 hG6 hil hcl hni hrs hgN hold hGn
  go_enter Try.func81,Try.ntmps81
  go_wp2_with (at_builtin;refine Lib.wpList_append_run _ rfl _ _ _ _ rfl _ _ rfl rfl _ _ hrz ?_)
  go_region
  go_wp2
  all_goals (go_ret;exact⟨rfl,(w.alloc (.cells ROW 53)).drew.drew,((aB.alloc w.drew _ _).trans (aB.drew _ _)),by simp,heap_alloc_new w.drew _,by unfold fi;rw[hROW]⟩)
end
def vv:Go.SX.Spec:=jv bE 53 40
theorem yv:aF Try.prog GL 81 vv:=by
 show aF Try.prog GL 81 (jv bE 53 40)
 exact sE (u:=bE) (zv:=iJ) uD Try.underlying26 (by kernel_rfl) rfl (by decide) rfl
def iE:Value := .agg #[.int .i64 0,.slice none 0 0]
section
variable {w:World}
theorem yD:nM Try.prog 91 25 51 2 32 iE.cells 25:=by
 refine⟨?_,?_,?_⟩
 ·intro w w' p q n c vc v hn hc hr
  have hz:(Go.sizeOf 51).run Try.prog w = .ok 2 w:=ca (by kernel_rfl) w
  unfold maxLen at hc
  cases p <;> go_enter Try.func91,Try.ntmps91 <;>
  go_wp2_with (at_builtin;refine Lib.wpList_append_run _ rfl _ _ _ _ rfl _ _ rfl rfl _ _ hr ?_)
  all_goals (go_ret;exact⟨rfl,rfl⟩)
 ·intro w b off n c i vb voff vc cur vcur E' vs hi hn hc hvb hb hf hv hvl hvs h1v h1c
  have hz:∀ w,(Go.sizeOf 51).run Try.prog w = .ok 2 w:=fun w=>ca (by kernel_rfl) w
  have mixed:Try.prog.follows .mixedOrders=true:=az
  unfold maxLen at hc
  have hsa:w.shape? vb=some (E',vcur.size):=by unfold World.shape?;rw[hv]
  have hsb:w.shape? b=some (51,cur.size):=by unfold World.shape?;rw[hb]
  have hfa:w.frozen? ⟨vb,voff,none⟩=false:=by simp[World.frozen?,hv]
  have hfe:w.frozen? ⟨vb,vcur.size,none⟩=false:=by simp[World.frozen?,hv]
  have hov:∀ lb cb o,(callFunc 98 #[.slice (some ⟨vb,voff,none⟩) 1 vc,.slice (some ⟨b,o,none⟩) lb cb]).run Try.prog w = .ok (.value (.bool false)) w:=fun lb cb o=>by
   rw[run_callFunc_extern Try.func98 (by kernel_rfl) (by kernel_rfl) (by kernel_rfl) (e:=Extern.SlicesOverlaps.overlaps #[25,25] #[4]) (by kernel_rfl),
    Lib.run_overlaps_apart w 25 4 51 Try.underlying25 2 hz ⟨vb,voff,none⟩ ⟨b,o,none⟩ 1 vc lb cb hvb E' 51 vcur.size cur.size hsa hsb (by omega) hfa hfe]
   rfl
  have hw1:IntKind.i64.wrap ((i:Int)+1)=(i:Int)+1:=by rw[IntKind.wrap_i64];omega
  have hw2:IntKind.i64.wrap ((n:Int)+1)=(n:Int)+1:=by rw[IntKind.wrap_i64];omega
  have hz2:¬ ((i:Int)=(n:Int)):=by omega
  have htn:((i:Int)+1).toNat=i+1:=by omega
  have htm:((n:Int)+1).toNat=n+1:=by omega
  have hb1:(0:Int)<=(i:Int)+1:=by omega
  have hb2:¬ (c=i+1):=by omega
  have hb3:(i:Int)<=(n:Int)+1:=by omega
  have hb4:¬ (c=i):=by omega
  have hin:i<=n:=by omega
  have e1:(i+1)*2=i*2+2:=by omega
  have hcl:(ba cur (off+i*2) ((n-i)*2)).length=(n-i)*2:=gr (by omega)
  have hsz:(Try.prog.info? 51).map (·.size)=some 2:=by kernel_rfl
  have hcp1:(Builtin.copy_ #[25,25] 3 #[.slice (some ⟨b,off+(i+1)*2,none⟩) (n-i) (c-(i+1)),.slice (some ⟨b,off+i*2,none⟩) (n+1-i) (c-i)]).run Try.prog w.drew =
    .ok (goInt ((n-i:Nat):Int)) (w.drew.setRow b (bF cur (off+(i+1)*2) (ba cur (off+i*2) ((n-i)*2)))):=by
   have h:=gB (P:=Try.prog) w.drew 25 25 3 51 2 b (off+(i+1)*2) (n-i) (c-(i+1)) ⟨b,off+i*2,none⟩ (n+1-i) (c-i) cur 51 (ba cur (off+i*2) ((n-i)*2)) Try.underlying25 hsz hb
    (by rw[hcl];simp only[Nat.min_def];split <;> omega)
    (fun j v hj=>by
     have hj':=(List.getElem?_eq_some_iff.1 hj).1
     rw[hcl] at hj'
     rw[fV hj'] at hj
     rw[Addr.add_lit,cell_of_row w.drew b _ cur 51 (0,0) hb];exact hj)
    (by rw[hcl];omega) h1c
   have hm:Nat.min (n+1-i) (n-i)=n-i:=by simp only[Nat.min_def];split <;> omega
   rw[hm] at h
   exact h
  have hr1:(bF cur (off+(i+1)*2) (ba cur (off+i*2) ((n-i)*2))).size=cur.size:=gO (by rw[hcl];omega)
  have hcp2:(Builtin.copy_ #[25,25] 3 #[.slice (some ⟨b,off+i*2,none⟩) (n+1-i) (c-i),.slice (some ⟨vb,voff,none⟩) 1 vc]).run Try.prog (w.drew.setRow b (bF cur (off+(i+1)*2) (ba cur (off+i*2) ((n-i)*2)))) =
    .ok (goInt 1) (w.drew.setRow b (fw cur off n i 2 vs)):=by
   have h:=gB (P:=Try.prog) (w.drew.setRow b (bF cur (off+(i+1)*2) (ba cur (off+i*2) ((n-i)*2)))) 25 25 3 51 2 b (off+i*2) (n+1-i) (c-i) ⟨vb,voff,none⟩ 1 vc _ 51 vs Try.underlying25 hsz
    (setRow_heap w.drew b cur _ 51 (0,0) hb)
    (by rw[hvl];simp only[Nat.min_def];split <;> omega)
    (fun j v hj=>by
     rw[Addr.add_lit,cell_setRow_other _ _ _ _ hvb]
     exact hvs j v hj)
    (by rw[hr1,hvl];omega) h1v
   have hm:Nat.min 1 (n+1-i)=1:=by simp only[Nat.min_def];split <;> omega
   rw[hm,setRow_setRow] at h
   exact h
  clear e1 hcl hr1
  go_enter Try.func91,Try.ntmps91
  go_wp2_with (simp only[hov])
  go_region
  go_wp2
  all_goals (go_ret;exact⟨rfl,rfl⟩)
 ·intro w b off n i vb voff vc cur vcur E' vs hi hn hby hb hf hv hvl hvs h1v h1c
  have hz:∀ w,(Go.sizeOf 51).run Try.prog w = .ok 2 w:=fun w=>ca (by kernel_rfl) w
  have mixed:Try.prog.follows .mixedOrders=true:=az
  have hx:(Try.prog.info? 51).map (fun i=>(i.zero,i.size,i.bytes))=some (some iE,2,32):=by kernel_rfl
  obtain⟨i0,hi0⟩:∃ i0,Try.prog.info? 51=some i0:=by
   cases hh:Try.prog.info? 51 with
   | none=>rw[hh] at hx;cases hx
   | some i0=>exact⟨i0,rfl⟩
  rw[hi0] at hx
  simp only[Option.map_some,Option.some.injEq,Prod.mk.injEq] at hx
  obtain⟨hz0,hzs,hzb⟩:=hx
  have hsz:(Try.prog.info? 51).map (·.size)=some 2:=by kernel_rfl
  have hbw:b<w.heap.size:=(Array.getElem?_eq_some_iff.1 hb).1
  have hvw:vb<w.heap.size:=(Array.getElem?_eq_some_iff.1 hv).1
  have hni:i*2+(n-i)*2=n*2:=by rw[← Nat.add_mul];congr 1;omega
  have hil:(ba cur off (i*2)).length=i*2:=gr (by omega)
  have hcl:(ba cur (off+i*2) ((n-i)*2)).length=(n-i)*2:=gr (by omega)
  have hold:(Builtin.firstCells i0.size i (.slice (some ⟨b,off,none⟩) i n)).run Try.prog w.drew = .ok (ba cur off (i*2)).toArray w.drew:=by
   rw[hzs]
   exact run_firstCells_some w.drew 2 i ⟨b,off,none⟩ i n (ba cur off (i*2)) hil (fun j v hj=>by
    have hj':=(List.getElem?_eq_some_iff.1 hj).1
    rw[hil] at hj'
    rw[fV hj'] at hj
    rw[Addr.add_lit,cell_of_row w.drew b _ cur 51 (0,0) hb];exact hj)
  have hGn:n+1<=grownCap w (n+1) n 51:=grownCap_ge w _ _ _
  have hG63:=grownCap_le_maxLen w (n+1) n 51 hn
  have hrz:(Builtin.append_ #[25,3] 25 #[.slice (some ⟨b,off,none⟩) i n,.int .i64 ((n:Int)+1-(i:Int))]).run Try.prog w =
    .ok (.slice (some ⟨w.heap.size,0,none⟩) (n+1) (grownCap w (n+1) n 51)) (w.drew.alloc (.cells (dY cur off n i 2 (grownCap w (n+1) n 51) iE.cells) 51)):=by
   have h:=Lib.run_append_grow_zeros w 25 3 25 51 i0 _ .i64 .i64 Try.underlying25 Try.underlying3 hi0 hz0 (some ⟨b,off,none⟩) i n (ba cur off (i*2)) hold (n+1-i) (by omega) (by omega) (by omega) (by unfold maxLen at hn;omega) (by rw[hzb];omega)
    (by rw[show i+(n+1-i)=n+1 from by omega];exact growslice_fits (by omega) (by rw[hzb];exact hby))
   rw[show i+(n+1-i)=n+1 from by omega] at h
   rw[show (n:Int)+1-(i:Int)=((n+1-i:Nat):Int) from by omega]
   exact h
  generalize hG:grownCap w (n+1) n 51=G at *
  have hrs:(dY cur off n i 2 G iE.cells).size=G*2:=by
   unfold dY
   simp only[Array.size_append,List.size_toArray,hil,size_zeroCells]
   have:iE.cells.size=2:=rfl
   rw[this,← Nat.add_mul,← Nat.add_mul];congr 1;omega
  generalize hROW:dY cur off n i 2 G iE.cells=ROW at *
  have hgN:(w.drew.alloc (.cells ROW 51)).heap[w.heap.size]? = some (.cells ROW 51 (0,0)):=heap_alloc_new w.drew _
  have hG6:(n+1)*2<=G*2:=Nat.mul_le_mul_right _ hGn
  have e1:(i+1)*2=i*2+2:=by omega
  have hr1:(bF ROW (i*2) vs).size=G*2:=by rw[gO (by rw[hrs,hvl];omega),hrs]
  have hcp1:(Builtin.copy_ #[25,25] 3 #[.slice (some ⟨w.heap.size,i*2,none⟩) (n+1-i) (G-i),.slice (some ⟨vb,voff,none⟩) 1 vc]).run Try.prog (w.alloc (.cells ROW 51)).drew =
    .ok (goInt 1) ((w.alloc (.cells ROW 51)).drew.setRow w.heap.size (bF ROW (i*2) vs)):=by
   have h:=gB (P:=Try.prog) (w.drew.alloc (.cells ROW 51)) 25 25 3 51 2 w.heap.size (i*2) (n+1-i) (G-i) ⟨vb,voff,none⟩ 1 vc _ 51 vs Try.underlying25 hsz hgN
    (by rw[hvl];simp only[Nat.min_def];split <;> omega)
    (fun j v hj=>by
     rw[Addr.add_lit,World.cell?_alloc_past (w:=w.drew) _ vb _ hvw]
     exact hvs j v hj)
    (by rw[hrs,hvl];omega) h1v
   have hm:Nat.min 1 (n+1-i)=1:=by simp only[Nat.min_def];split <;> omega
   rw[hm] at h
   exact h
  have hcp2:(Builtin.copy_ #[25,25] 3 #[.slice (some ⟨w.heap.size,(i+1)*2,none⟩) (n-i) (G-(i+1)),.slice (some ⟨b,off+i*2,none⟩) (n-i) (n-i)]).run Try.prog ((w.alloc (.cells ROW 51)).drew.setRow w.heap.size (bF ROW (i*2) vs)).drew =
    .ok (goInt ((n-i:Nat):Int)) ((w.alloc (.cells ROW 51)).drew.drew.setRow w.heap.size (bF (bF ROW (i*2) vs) ((i+1)*2) (ba cur (off+i*2) ((n-i)*2)))):=by
   have h:=gB (P:=Try.prog) ((w.alloc (.cells ROW 51)).drew.setRow w.heap.size (bF ROW (i*2) vs)).drew 25 25 3 51 2 w.heap.size ((i+1)*2) (n-i) (G-(i+1)) ⟨b,off+i*2,none⟩ (n-i) (n-i) _ 51 (ba cur (off+i*2) ((n-i)*2)) Try.underlying25 hsz
    (setRow_heap _ w.heap.size _ _ 51 (0,0) hgN)
    (by rw[hcl];simp only[Nat.min_def];split <;> omega)
    (fun j v hj=>by
     have hj':=(List.getElem?_eq_some_iff.1 hj).1
     rw[hcl] at hj'
     rw[fV hj'] at hj
     show World.cell? ((w.drew.alloc (.cells ROW 51)).setRow w.heap.size (bF ROW (i*2) vs)) _=_
     rw[Addr.add_lit,cell_setRow_other _ _ _ _ (by show b≠w.heap.size;omega),World.cell?_alloc_past (w:=w.drew) _ b _ hbw,cell_of_row w.drew b _ cur 51 (0,0) hb];exact hj)
    (by rw[hr1,hcl];omega) (fun v hv=>h1c v (by
     unfold ba at hv ⊢
     rw[← List.drop_drop] at hv
     have e2:List.take ((n-i)*2) (List.drop (i*2) (List.drop off cur.toList))=List.drop (i*2) (List.take (n*2) (List.drop off cur.toList)):=by
      rw[List.drop_take];congr 1;omega
     rw[e2] at hv
     exact List.mem_of_mem_drop hv))
   have hm:Nat.min (n-i) (n-i)=n-i:=by simp only[Nat.min_def];split <;> omega
   rw[hm] at h
   have hs2:∀(W:World)(g:Nat)(a b:Array Value),(W.setRow g a).drew.setRow g b=W.drew.setRow g b:=fun W g a b=>setRow_setRow W.drew g a b
   rw[hs2] at h
   exact h
  have hz2:¬ ((i:Int)=(n:Int)):=by omega
  have hw1:IntKind.i64.wrap ((i:Int)+1)=(i:Int)+1:=by rw[IntKind.wrap_i64];unfold maxLen at hn;omega
  have hw2:IntKind.i64.wrap ((n:Int)+1)=(n:Int)+1:=by rw[IntKind.wrap_i64];unfold maxLen at hn;omega
  have hz3:(n:Int)<(n:Int)+1:=by omega
  have hGi:¬ (G=i):=by omega
  have hGim:¬ (G=i+1):=by omega
  have hci:¬ (n=i):=by omega
  have hb1:(0:Int)<=(i:Int)+1:=by omega
  have hin:i<=n:=by omega
  have htn:((i:Int)+1).toNat=i+1:=by omega
  have hb3:(i:Int)<=(n:Int):=by omega
  have hiG:i<=n+1:=by omega
  unfold maxLen at hn hG63
  clear e1 hr1 hG6 hil hcl hni hrs hgN hold hGn
  go_enter Try.func91,Try.ntmps91
  go_wp2_with (at_builtin;refine Lib.wpList_append_run _ rfl _ _ _ _ rfl _ _ rfl rfl _ _ hrz ?_)
  go_region
  go_wp2
  all_goals (go_ret;exact⟨rfl,(w.alloc (.cells ROW 51)).drew.drew,((aB.alloc w.drew _ _).trans (aB.drew _ _)),by simp,heap_alloc_new w.drew _,by unfold fi;rw[hROW]⟩)
end
def zw:Go.SX.Spec:=jv dV 51 32
theorem zf:aF Try.prog GL 91 zw:=by
 show aF Try.prog GL 91 (jv dV 51 32)
 exact sE (u:=dV) (zv:=iE) yD Try.underlying25 (by kernel_rfl) rfl (by decide) rfl
end Go.RS

/- Addr: prefixes, and functions of Go's library over numbers. -/
namespace Go.RS
open Go.SX Go.Proofs
set_option maxRecDepth 100000
set_option linter.unusedVariables false
def aX(a b:Int):Int:=if a<b then -1 else if b<a then 1 else 0
abbrev fu:Type:=Int×Int
def kF(p q:fu):Int:=if aX p.1 q.1≠0 then aX p.1 q.1 else aX p.2 q.2
def dH:List Int->Int
 | []=>0
 | x::xs=>if x≠0 then x else dH xs
theorem u7{l:List Int}{j:Int}(h0:0<=j)(h1:j<l.length):l.drop j.toNat=l.getD j.toNat default::l.drop (j+1).toNat:=by
 have hj:j.toNat<l.length:=by omega
 rw[List.drop_eq_getElem_cons hj,List.getD_eq_getElem?_getD,List.getElem?_eq_getElem hj,Option.getD_some]
 congr 2;omega
theorem xo{α:Type} [Inhabited α] {l:List α} {j:Int} (h0:0<=j) (h1:j<l.length) {y:α} (hy:y∈l.take (j+1).toNat):y∈l.take j.toNat∨y=l.getD j.toNat default:=by
 have hj:j.toNat<l.length:=by omega
 have e:(j+1).toNat=j.toNat+1:=by omega
 rw[e,List.take_succ_eq_append_getElem hj] at hy
 rcases List.mem_append.1 hy with hy|hy
 ·exact .inl hy
 ·right
  simp at hy
  rw[List.getD_eq_getElem?_getD,List.getElem?_eq_getElem hj,Option.getD_some];exact hy
theorem wJ{l:List Int}{v j:Int}(h0:0<=j)(h1:j<l.length)(hv:l.getD j.toNat default=v)(h2:∀ y∈l.take j.toNat,y≠v):l.idxOf v=j.toNat:=by
 have hj:j.toNat<l.length:=by omega
 rw[List.getD_eq_getElem?_getD,List.getElem?_eq_getElem hj,Option.getD_some] at hv
 have e:l=l.take j.toNat++l[j.toNat]::l.drop (j.toNat+1):=by
  rw[← List.drop_eq_getElem_cons hj,List.take_append_drop]
 rw[e,List.idxOf_append,if_neg (fun hm=>h2 v hm rfl),hv,List.idxOf_cons_self]
 simp;omega
def sA:Ct:=⟨[.val cI],[.val .bool],fun _=>[],fun _=>((false,()),())⟩
def z5:aA sA.ps->aK:=(fun _=>{})
theorem zJ :
 ∀(a:Int),ak a/\True->True->(! decide (a=a))=false:=by
  rintro x - -
  simp
theorem yn:aF Try.prog GL 97 sA.spec:=Ct.okH _ Try.func97 (by kernel_rfl) aV az z5 (aT (by kernel_rfl) zJ)
def pz:Ct:=⟨[.val cI,.val cI],[.val cI],fun _=>[],fun d=>((aX d.1 d.2.1,()),())⟩
def yE:aA pz.ps->aK:=(fun _=>{})
theorem uO :
 ∀(a b:Int),ak a/\ak b/\True->True->ax (decide (a<b)) ((-1:Int)=aX a b) (ax (decide (b<a)) ((1:Int)=aX a b) ((0:Int)=aX a b)):=by
  rintro x y - -
  unfold aX
  refine aM (fun h=>?_) (fun h=>aM (fun h2=>?_) (fun h2=>?_))
  ·rw[if_pos (of_decide_eq_true h)]
  ·rw[if_neg (of_decide_eq_false h),if_pos (of_decide_eq_true h2)]
  ·rw[if_neg (of_decide_eq_false h),if_neg (of_decide_eq_false h2)]
theorem s8:aF Try.prog GL 90 pz.spec:=Ct.okH _ Try.func90 (by kernel_rfl) (aD aV yn) az yE (aT (by kernel_rfl) uO)
def pE:Ct:=⟨[.val (.sl cI)],[.val cI],fun _=>[],fun d=>((dH d.1,()),())⟩
def z7:aA pE.ps->aK:=(fun d=>{loops:=(fun n=>match n with|3=>some (fun S=>{ι:=Int,μ:=fun i=>(d.1.length-i).toNat,inv:=fun i=>0<=i/\i<=d.1.length/\dH d.1=dH (d.1.drop i.toNat),keep:=[3,6,7],slots:=fun i=>[(8,.int .i64 i)],names:=fun i=>[]})|_=>none)})
def cn(a:List Int) :=
 (a.length:Int)
theorem vg :
 ∀(a:List Int),(a.length<=maxLen/\ ∀(b:Int),b∈a->ak b)/\True->True->(∃(b:Int),(0<=b/\b<=(cn a)/\dH a=dH (List.drop b.toNat a))/\(0:Int)=0/\a=a/\(cn a)=(cn a)/\(0:Int)=b/\True)/\ ∀(b:Int),0<=b/\b<=(cn a)/\dH a=dH (List.drop b.toNat a)->ax (decide (b<(cn a))) (0<=b/\b<(cn a)/\ax (! decide (a.getD b.toNat default=0)) (a.getD b.toNat default=dH a) (∃(c:Int),(0<=c/\c<=(cn a)/\dH a=dH (List.drop c.toNat a))/\Int.toNat ((cn a) -c)<Int.toNat ((cn a) -b)/\(0:Int)=0/\a=a/\(cn a)=(cn a)/\IntKind.wrap .i64 (b+(1:Int))=c/\True)) ((0:Int)=dH a):=by
  delta cn
  rintro x ⟨⟨hl,-⟩,-⟩ -
  simp only[maxLen] at hl
  refine⟨⟨0,⟨by omega,by omega,rfl⟩,(by repeat' first|exact trivial|refine⟨trivial,?_⟩|refine⟨(by with_reducible rfl),?_⟩|refine⟨au (by omega) (by omega),?_⟩|refine⟨rfl,?_⟩)⟩,?_⟩
  rintro j ⟨h0,h1,h2⟩
  refine aM (fun hj=>?_) (fun hj=>?_)
  ·have hj:=of_decide_eq_true hj
   have e:=u7 (l:=x) h0 hj
   rw[e] at h2
   refine⟨h0,hj,aM (fun hz=>?_) (fun hz=>?_)⟩
   ·have hz:x.getD j.toNat default≠0:=by simpa only[Bool.not_eq_true',decide_eq_false_iff_not] using hz
    rw[h2,dH,if_pos hz]
   ·have hz:¬ x.getD j.toNat default≠0:=by simpa only[Bool.not_eq_false',decide_eq_true_eq,ne_eq,Decidable.not_not] using hz
    rw[dH,if_neg hz] at h2
    exact⟨j+1,⟨by omega,by omega,h2⟩,by omega,(by repeat' first|exact trivial|refine⟨trivial,?_⟩|refine⟨(by with_reducible rfl),?_⟩|refine⟨au (by omega) (by omega),?_⟩|refine⟨rfl,?_⟩)⟩
  ·have hj:=of_decide_eq_false hj
   rw[h2,List.drop_eq_nil_of_le (by omega)];rfl
theorem yL:aF Try.prog GL 93 pE.spec:=Ct.okH _ Try.func93 (by kernel_rfl) aV az z7 (aT (by kernel_rfl) vg)
def sz(n:Int):Int:=2^(32-n).toNat
def wG(p:fu):Bool:=decide (0<=p.2/\p.2<=32/\p.1%sz p.2=0)
def contains(p:fu)(a:Int):Bool:=wG p&&decide (p.1<=a/\a<p.1+sz p.2)
def re:Ct:=⟨[.val (.sl cI),.val cI],[.val cI],fun _=>[],fun d=>((if d.2.1∈d.1 then (d.1.idxOf d.2.1:Int) else -1,()),())⟩
def v6:aA re.ps->aK:=(fun d=>{loops:=(fun n=>match n with|2=>some (fun S=>{ι:=Int,μ:=fun i=>(d.1.length-i).toNat,inv:=fun i=>0<=i/\i<=d.1.length∧∀ y∈d.1.take i.toNat,y≠d.2.1,keep:=[0,1,6,7],slots:=fun i=>[(8,.int .i64 i)],names:=fun i=>[]})|_=>none)})
theorem yc :
 ∀(a:List Int)(b:Int),(a.length<=maxLen/\ ∀(c:Int),c∈a->ak c)/\ak b/\True->True->(∃(c:Int),(0<=c/\c<=(cn a)/\ ∀(d:Int),d∈List.take c.toNat a->d≠b)/\a=a/\b=b/\a=a/\(cn a)=(cn a)/\(0:Int)=c/\True)/\ ∀(c:Int),(0<=c/\c<=(cn a)/\ ∀(d:Int),d∈List.take c.toNat a->d≠b)->ax (decide (c<(cn a))) (0<=c/\c<(cn a)/\ax (decide (b=a.getD c.toNat default)) (c=if b∈a then (↑(List.idxOf b a):Int) else (-1:Int)) (∃(d:Int),(0<=d/\d<=(cn a)/\ ∀(e:Int),e∈List.take d.toNat a->e≠b)/\Int.toNat ((cn a) -d)<Int.toNat ((cn a) -c)/\a=a/\b=b/\a=a/\(cn a)=(cn a)/\IntKind.wrap .i64 (c+(1:Int))=d/\True)) ((-1:Int)=if b∈a then (↑(List.idxOf b a):Int) else (-1:Int)):=by
  delta cn
  rintro x v ⟨⟨hl,-⟩,-⟩ -
  simp only[maxLen] at hl
  refine⟨⟨0,⟨by omega,by omega,by simp⟩,(by repeat' first|exact trivial|refine⟨trivial,?_⟩|refine⟨(by with_reducible rfl),?_⟩|refine⟨au (by omega) (by omega),?_⟩|refine⟨rfl,?_⟩)⟩,?_⟩
  rintro j ⟨h0,h1,h2⟩
  refine aM (fun hj=>?_) (fun hj=>?_)
  ·have hj:=of_decide_eq_true hj
   refine⟨h0,hj,aM (fun hz=>?_) (fun hz=>?_)⟩
   ·have hz:=of_decide_eq_true hz
    have hm:v∈x:=by rw[hz];exact dC h0 hj
    rw[if_pos hm]
    have:=wJ (l:=x) (v:=v) h0 hj hz.symm h2
    omega
   ·have hz:=of_decide_eq_false hz
    refine⟨j+1,⟨by omega,by omega,fun y hy=>?_⟩,by omega,(by repeat' first|exact trivial|refine⟨trivial,?_⟩|refine⟨(by with_reducible rfl),?_⟩|refine⟨au (by omega) (by omega),?_⟩|refine⟨rfl,?_⟩)⟩
    rcases xo h0 hj hy with hy|rfl
    ·exact h2 y hy
    ·exact fun e=>hz e.symm
  ·have hj:=of_decide_eq_false hj
   rw[List.take_of_length_le (by omega)] at h2
   rw[if_neg (fun hm=>h2 v hm rfl)]
theorem yj:aF Try.prog GL 78 re.spec:=Ct.okH _ Try.func78 (by kernel_rfl) aV az v6 (aT (by kernel_rfl) yc)
def qI:Ct:=⟨[.val (.sl cI),.val cI],[.val .bool],fun _=>[],fun d=>((decide (d.2.1∈d.1),()),())⟩
def xS:aA qI.ps->aK:=(fun _=>{})
theorem yk :
 ∀(a:List Int)(b:Int),(a.length<=maxLen/\ ∀(c:Int),c∈a->ak c)/\ak b/\True->True->decide (0<=if b∈a then (↑(List.idxOf b a):Int) else (-1:Int))=decide (b∈a):=by
  rintro x v - -
  by_cases h:v∈x
  ·rw[if_pos h];simp[h];
  ·rw[if_neg h];simp[h]
theorem yl:aF Try.prog GL 56 qI.spec:=Ct.okH _ Try.func56 (by kernel_rfl) (aD aV yj) az xS (aT (by kernel_rfl) yk)
end Go.RS

/- Fib: forwarding tables. -/
namespace Go.RS
open Go.SX Go.Proofs
set_option maxRecDepth 100000
set_option linter.unusedVariables false
abbrev Rt:Type:=fu×List Int×Int
def dR(p q:fu):Prop:=p.1<q.1∨p.1=q.1/\p.2<q.2
instance (p q:fu):Decidable (dR p q):=by unfold dR;infer_instance
theorem pM{a b:Int}(h:a<b):aX a b = -1:=by unfold aX;rw[if_pos h]
theorem rt{a b:Int}(h:b<a):aX a b=1:=by unfold aX;rw[if_neg (by omega),if_pos h]
theorem nX(a:Int):aX a a=0:=by unfold aX;simp
theorem zD(p q:fu):(dR p q/\kF p q = -1)∨(p=q/\kF p q=0)∨(dR q p/\kF p q=1):=by
 obtain⟨a,b⟩:=p;obtain⟨c,e⟩:=q
 unfold kF dR
 rcases Int.lt_trichotomy a c with h|rfl|h
 ·left;simp[pM h,h]
 ·rcases Int.lt_trichotomy b e with h|rfl|h
  ·left;simp[nX,pM h,h]
  ·right;left;simp[nX]
  ·right;right;simp[nX,rt h,h]
 ·right;right;simp[rt h,h]
theorem vV{p q r:fu}(h:dR p q)(k:dR q r):dR p r:=by unfold dR at *;omega
theorem w4{p q:fu}(h:¬ dR p q):p=q∨dR q p:=by rcases zD p q with⟨k,-⟩|⟨k,-⟩|⟨k,-⟩ <;> simp_all
def tx(l:List Rt):Prop:=l.Pairwise fun a b=>dR a.1 b.1
theorem py{i j:Int}(h0:0<=i)(h1:i<=j)(h2:j<=9223372036854775807):IntKind.wrap IntKind.i64 (dP IntKind.u64 (IntKind.wrap IntKind.u64 (IntKind.wrap IntKind.i64 (i+j))) (1:Int))=(i+j)/2:=by
 have hw:IntKind.wrap IntKind.u64 (IntKind.wrap IntKind.i64 (i+j))=i+j:=by
  rw[IntKind.wrap_i64,IntKind.wrap_u64];omega
 rw[hw]
 have:dP IntKind.u64 (i+j) 1=(i+j)/2:=by
  unfold dP
  rw[Int.fdiv_eq_ediv_of_nonneg _ (by decide)]
  rfl
 rw[this,au (by omega) (by omega)]
theorem rK{α:Type}{l:List (List α)}{j:Int}(h0:0<=j)(h1:j<l.length):(l.take (j+1).toNat).flatten=(l.take j.toNat).flatten++l.getD j.toNat default:=by
 have hj:j.toNat<l.length:=by omega
 have e:(j+1).toNat=j.toNat+1:=by omega
 rw[e,List.take_succ_eq_append_getElem hj,List.flatten_append,List.getD_eq_getElem?_getD,List.getElem?_eq_getElem hj,Option.getD_some]
 simp
theorem nA{α:Type}(l:List (List α))(k:Nat):(l.take k).flatten.length<=l.flatten.length:=by
 conv=>rhs;rw[← List.take_append_drop k l,List.flatten_append,List.length_append]
 omega
theorem qm{α:Type} [Inhabited α] {l:List α} {j:Int} (h0:0<=j) (h1:j<l.length):l.set j.toNat (l.getD j.toNat default)=l:=by
 have hj:j.toNat<l.length:=by omega
 rw[List.getD_eq_getElem?_getD,List.getElem?_eq_getElem hj,Option.getD_some,List.set_getElem_self]
def yU(a:Int)(b:Option Rt)(r:Rt):Option Rt:=if contains r.1 a then match b with|none=>some r|some q=>if q.1.2<r.1.2 then some r else some q else b
def x9(l:List Rt)(a:Int):Option Rt:=l.foldl (yU a) none
def aH(l:List Rt)(a:Int):Rt:=match x9 l a with|none=>((0,0),[],0)|some r=>r
theorem wh{l:List Rt}{i:Int}(h0:0<=i)(h1:i<l.length):l=l.take i.toNat++l.getD i.toNat default::l.drop (i+1).toNat:=by
 have hj:i.toNat<l.length:=by omega
 rw[List.getD_eq_getElem?_getD,List.getElem?_eq_getElem hj,Option.getD_some,show (i+1).toNat=i.toNat+1 from by omega,← List.drop_eq_getElem_cons hj,List.take_append_drop]
theorem later{l:List Rt}{p:fu}{i:Int}(hs:tx l)(h0:0<=i)(h1:i<l.length){z:Rt}(hz:z∈l.take i.toNat)(hp:¬ dR z.1 p):dR p (l.getD i.toNat default).1:=by
 have hsp:=wh h0 h1
 unfold tx at hs
 rw[hsp] at hs
 have:=(List.pairwise_append.1 hs).2.2 z hz _ List.mem_cons_self
 rcases w4 hp with e|h
 ·rw[← e];exact this
 ·exact vV h this
end Go.RS

/- Xw1: the program's exchange: copies of channels, messages. -/
namespace Go.RS
open Go.SX Go.Proofs
set_option maxRecDepth 100000
set_option linter.unusedVariables false
def tY:Ct:=⟨[.val (.sl dV)],[.own 51 dV],fun d=>[(d.1.length:Int)<=1000000],fun d=>((d.1,()),())⟩
def ul:aA tY.ps->aK:=(fun _=>{})
theorem zi :
 ∀(a:List (Int×List Int)),(a.length<=maxLen/\ ∀(b:Int×List Int),b∈a->ak b.1/\b.2.length<=maxLen/\ ∀(c:Int),c∈b.2->0<=c/\c<=255)/\True->(a.length:Int)<=1000000-> ∀(b:Bool),(b=true->a.length=(0:Nat))->ax b (([]:List (Int×List Int))=a) (((0:Nat)+a.length)*(32:Nat)<=(140737488355328:Nat)/\a=a):=by
  rintro x ⟨⟨hl,-⟩,-⟩ h b hb
  refine aM (fun h1=>?_) (fun h1=>⟨by simp;omega,by simp⟩)
  have:=hb h1
  exact (List.eq_nil_of_length_eq_zero this).symm
theorem x4:aF Try.prog GL 52 tY.spec:=Ct.okH _ Try.func52 (by kernel_rfl) aV az ul (aT (by kernel_rfl) zi)
def sf:Ct:=⟨[.val (.sl bE)],[.own 53 bE],fun d=>[(d.1.length:Int)<=1000000],fun d=>((d.1,()),())⟩
def wB:aA sf.ps->aK:=(fun _=>{})
def ma(a:List (Int×Int×List Int)) :=
 a.length<=maxLen/\ ∀(b:Int×Int×List Int),b∈a->ak b.1/\ak b.2.1/\b.2.2.length<=maxLen/\ ∀(c:Int),c∈b.2.2->0<=c/\c<=255
theorem xp :
 ∀(a:List (Int×Int×List Int)),(ma a)/\True->(a.length:Int)<=1000000-> ∀(b:Bool),(b=true->a.length=(0:Nat))->ax b (([]:List (Int×Int×List Int))=a) (((0:Nat)+a.length)*(40:Nat)<=(140737488355328:Nat)/\a=a):=by
  delta ma
  rintro x ⟨⟨hl,-⟩,-⟩ h b hb
  refine aM (fun h1=>?_) (fun h1=>⟨by simp;omega,by simp⟩)
  have:=hb h1
  exact (List.eq_nil_of_length_eq_zero this).symm
theorem ug:aF Try.prog GL 73 sf.spec:=Ct.okH _ Try.func73 (by kernel_rfl) aV az wB (aT (by kernel_rfl) xp)
def hY(l:List (List Int)):Prop:=(l.length:Int)<=1000000∧∀ b∈l,(b.length:Int)<=1099511627776
def ij(l:List ah):Prop:=(l.length:Int)<=1000000∧∀ t∈l,(t.2.2.length:Int)<=1099511627776
def pt(l:List aE):Prop:=(l.length:Int)<=1000000∧∀ t∈l,(t.2.length:Int)<=1099511627776
def sy:Ct:=⟨[.val (.sl (.sl bc))],[.own 22 (.sl bc)],fun d=>[hY d.1],fun d=>((d.1,()),())⟩
def uz:aA sy.ps->aK:=(fun d=>{loops:=(fun n=>match n with|3=>some (fun S=>{ι:=Int×(List (List Int)),qn:=⟨fun k_=>∀(j:Int)(ys:(List (List Int))),k_ (j,ys),fun k_ h_ i=>h_ i.1 i.2,fun k_=>∃ (j:Int) (ys:(List (List Int))),k_ (j,ys),fun k_ ⟨j,ys,h_⟩=>⟨_,h_⟩⟩,μ:=fun i=>(d.1.length-i.1).toNat,inv:=fun i=>0<=i.1/\i.1<=d.1.length/\i.2.length=d.1.length/\i.2.take i.1.toNat=d.1.take i.1.toNat,keep:=[0,9,10],slots:=fun i=>[(3,.own 524288 1),(11,.int .i64 i.1)],names:=fun i=>[(524288,.live (.row 22 (.sl bc) i.2))]})|_=>none)})
def bf(a:List (List Int)) :=
 (a.length:Int)
theorem zb :
 ∀(a:List (List Int)),(a.length<=maxLen/\ ∀(b:List Int),b∈a->b.length<=maxLen/\ ∀(c:Int),c∈b->0<=c/\c<=255)/\True->((bf a)<=1000000/\ ∀(b:List Int),b∈a->(b.length:Int)<=1099511627776)->0<=(bf a)/\(bf a)<=(bf a)/\(↑(24:Nat):Int)*(bf a)<=281474976710656/\(∃(b:Int) (c:List (List Int)),(0<=b/\b<=(bf a)/\c.length=a.length/\List.take b.toNat c=List.take b.toNat a)/\a=a/\a=a/\(bf a)=(bf a)/\(0:Int)=b/\List.replicate (Int.toNat (bf a)) ([]:List Int)=c/\True)/\ ∀(b:Int)(c:List (List Int)),0<=b/\b<=(bf a)/\c.length=a.length/\List.take b.toNat c=List.take b.toNat a->ax (decide (b<(bf a))) (0<=b/\b<(bf a)/\((List.length (a.getD b.toNat default)):Int)<=1099511627776/\0<=b/\b<(c.length:Int)/\ ∃(d:Int) (e:List (List Int)),(0<=d/\d<=(bf a)/\e.length=a.length/\List.take d.toNat e=List.take d.toNat a)/\Int.toNat ((bf a) -d)<Int.toNat ((bf a) -b)/\a=a/\a=a/\(bf a)=(bf
 a)/\IntKind.wrap .i64 (b+(1:Int))=d/\List.set c b.toNat (a.getD b.toNat default)=e/\True) (c=a):=by
  delta bf
  rintro x ⟨⟨hl,-⟩,-⟩⟨hn,hx⟩
  simp only[maxLen] at hl
  refine⟨by omega,by omega,by omega,⟨0,List.replicate x.length [],⟨by omega,by omega,by simp,by simp⟩,(by repeat' first|exact trivial|refine⟨trivial,?_⟩|refine⟨(by with_reducible rfl),?_⟩|refine⟨au (by omega) (by omega),?_⟩|refine⟨rfl,?_⟩)⟩,?_⟩
  rintro j ys ⟨j0,j1,h1,h2⟩
  refine aM (fun hj=>?_) (fun hj=>?_)
  ·have hj:=of_decide_eq_true hj
   refine⟨j0,hj,hx _ (dC j0 hj),j0,by omega,j+1,ys.set j.toNat (x.getD j.toNat default),⟨by omega,by omega,?_,?_⟩,by omega,?_⟩
   ·rw[List.length_set];exact h1
   ·rw[fH j0 hj,fH j0 (by rw[List.length_set];omega),sV (by omega),← h2,List.take_set_of_le (Nat.le_refl _)]
   ·(repeat first|refine⟨trivial,?_⟩|refine⟨(by with_reducible rfl),?_⟩|refine⟨au (by omega) (by omega),?_⟩)
    trivial
  ·have hj:=of_decide_eq_false hj
   have e:j.toNat=x.length:=by omega
   rw[e,List.take_length,List.take_of_length_le (by omega)] at h2
   exact h2
theorem xV:aF Try.prog GL 51 sy.spec:=Ct.okH _ Try.func51 (by kernel_rfl) (aD aV js) az uz (aT (by kernel_rfl) zb)
def tp:Ct:=⟨[.val (.sl bE)],[.own 53 bE],fun d=>[ij d.1],fun d=>((d.1,()),())⟩
def vn:aA tp.ps->aK:=(fun d=>{loops:=(fun n=>match n with|3=>some (fun S=>{ι:=Int,μ:=fun i=>(d.1.length-i).toNat,inv:=fun i=>0<=i/\i<=d.1.length,keep:=[3,8,9],slots:=fun i=>[(10,.int .i64 i)],keepN:=[128],names:=fun i=>[]})|_=>none)})
theorem uW :
 ∀(a:List (Int×Int×List Int)),(ma a)/\True->((a.length:Int)<=1000000/\ ∀(b:ah),b∈a->(b.2.2.length:Int)<=1099511627776)->(a.length:Int)<=1000000/\(∃(b:Int),(0<=b/\b<=(a.length:Int))/\(a.length:Int)=(a.length:Int)/\(0:Int)=b/\a=a/\True)/\ ∀(b:Int),0<=b/\b<=(a.length:Int)->ax (decide (b<(a.length:Int))) (0<=b/\b<(a.length:Int)/\((List.length (a.getD b.toNat default).2.2):Int)<=1099511627776/\0<=b/\b<(a.length:Int)/\ ∃(c:Int),(0<=c/\c<=(a.length:Int))/\Int.toNat ((a.length:Int) -c)<Int.toNat ((a.length:Int) -b)/\(a.length:Int)=(a.length:Int)/\IntKind.wrap .i64 (b+(1:Int))=c/\List.set a b.toNat (a.getD b.toNat default)=a/\True) (a=a):=by
  delta ma
  rintro x ⟨⟨hl,-⟩,-⟩⟨hn,hx⟩
  refine⟨hn,⟨0,⟨by omega,by omega⟩,(by repeat' first|exact trivial|refine⟨trivial,?_⟩|refine⟨(by with_reducible rfl),?_⟩|refine⟨au (by omega) (by omega),?_⟩|refine⟨rfl,?_⟩)⟩,?_⟩
  rintro j ⟨j0,j1⟩
  refine aM (fun hj=>?_) (fun hj=>rfl)
  have hj:=of_decide_eq_true hj
  refine⟨j0,hj,hx _ (dC j0 hj),j0,hj,j+1,⟨by omega,by omega⟩,by omega,?_⟩
  (repeat first|refine⟨trivial,?_⟩|refine⟨(by with_reducible rfl),?_⟩|refine⟨au (by omega) (by omega),?_⟩)
  exact⟨qm j0 hj,trivial⟩
theorem vf:aF Try.prog GL 53 tp.spec:=Ct.okH _ Try.func53 (by kernel_rfl) (aD (aD aV ug) js) az vn (aT (by kernel_rfl) uW)
abbrev qx:OT := .pair cI (.pair cI (.pair cI (.pair (.row 22 (.sl bc)) (.pair cI (.pair (.row 22 (.sl bc)) (.pair (.row 51 dV) (.pair (.row 53 bE) (.row 53 bE))))))))
def jK(c:ao):Prop:=hY (aj c)/\hY (aC c)/\pt (cz c)/\ij (bi c)/\ij (bD c)
def pA:Ct:=⟨[.agg dQ],[.agg qx],fun d=>[jK d.1],fun d=>((d.1,()),())⟩
def yZ:aA pA.ps->aK:=(fun d=>{loops:=(fun n=>match n with|4=>some (fun S=>{ι:=Int,μ:=fun i=>((cz d.1).length-i).toNat,inv:=fun i=>0<=i/\i<=(cz d.1).length,keep:=[1,2,18,19],slots:=fun i=>[(20,.int .i64 i)],keepN:=[32,48,128,176,256],names:=fun i=>[]})|_=>none)})
theorem xQ :
 ∀(a:Int×Int×Int×List (List Int)×Int×List (List Int)×List (Int×List Int)×List (Int×Int×List Int)×List (Int×Int×List Int)),CT.wf dQ a/\True->hY (aj a)/\hY (aC a)/\pt (cz a)/\ij (bi a)/\ij (bD a)->hY a.2.2.2.1/\hY a.2.2.2.2.2.1/\(a.2.2.2.2.2.2.1.length:Int)<=1000000/\(∃(b:Int),(0<=b/\b<=((List.length (cz a)):Int))/\(a.2.2.2.2.2.2.1.length:Int)=(a.2.2.2.2.2.2.1.length:Int)/\(0:Int)=b/\a.1=a.1/\a.2.1=a.2.1/\a.2.2.1=a.2.2.1/\a.2.2.2.2.1=a.2.2.2.2.1/\a.2.2.2.2.2.2.2.1=a.2.2.2.2.2.2.2.1/\a.2.2.2.2.2.2.2.2=a.2.2.2.2.2.2.2.2/\(0:Int)=0/\(0:Int)=0/\(0:Int)=0/\(0:Int)=0/\a.2.2.2.1=a.2.2.2.1/\a.2.2.2.2.2.1=a.2.2.2.2.2.1/\a.2.2.2.2.2.2.1=a.2.2.2.2.2.2.1/\True)/\ ∀(b:Int),0<=b/\b<=((List.length (cz a)):Int)->ax (decide (b<(a.2.2.2.2.2.2.1.length:Int))) (0<=b/\b<(a.2.2.2.2.2.2.1.length:Int)/\((List.length (List.getD a.2.2.2.2.2.2.1 b.toNat
 default).2):Int)<=1099511627776/\0<=b/\b<(a.2.2.2.2.2.2.1.length:Int)/\ ∃(c:Int),(0<=c/\c<=((List.length (cz a)):Int))/\Int.toNat (((List.length (cz a)):Int) -c)<Int.toNat (((List.length (cz a)):Int) -b)/\(a.2.2.2.2.2.2.1.length:Int)=(a.2.2.2.2.2.2.1.length:Int)/\IntKind.wrap .i64 (b+(1:Int))=c/\a.1=a.1/\a.2.1=a.2.1/\a.2.2.1=a.2.2.1/\a.2.2.2.2.1=a.2.2.2.2.1/\a.2.2.2.2.2.2.2.1=a.2.2.2.2.2.2.2.1/\a.2.2.2.2.2.2.2.2=a.2.2.2.2.2.2.2.2/\(0:Int)=0/\(0:Int)=0/\(0:Int)=0/\(0:Int)=0/\a.2.2.2.1=a.2.2.2.1/\a.2.2.2.2.2.1=a.2.2.2.2.2.1/\List.set a.2.2.2.2.2.2.1 b.toNat (List.getD a.2.2.2.2.2.2.1 b.toNat default)=a.2.2.2.2.2.2.1/\True) (ij a.2.2.2.2.2.2.2.1/\ij a.2.2.2.2.2.2.2.2/\a=a):=by
  rintro d-⟨h1,h2,h3,h4,h5⟩
  have eE:cz d=d.2.2.2.2.2.2.1:=rfl
  rw[eE] at h3 ⊢
  obtain⟨e1,e2⟩:=h3
  refine⟨h1,h2,e1,⟨0,⟨by omega,by omega⟩,(by repeat' first|exact trivial|refine⟨trivial,?_⟩|refine⟨(by with_reducible rfl),?_⟩|refine⟨au (by omega) (by omega),?_⟩|refine⟨rfl,?_⟩)⟩,?_⟩
  rintro j ⟨j0,j1⟩
  refine aM (fun hj=>?_) (fun hj=>⟨h4,h5,rfl⟩)
  have hj:=of_decide_eq_true hj
  refine⟨j0,hj,e2 _ (dC j0 hj),j0,hj,j+1,⟨by omega,by omega⟩,by omega,?_⟩
  (repeat first|refine⟨trivial,?_⟩|refine⟨(by with_reducible rfl),?_⟩|refine⟨au (by omega) (by omega),?_⟩)
  exact⟨qm j0 hj,trivial⟩
theorem mI:aF Try.prog GL 32 pA.spec:=Ct.okH _ Try.func32 (by kernel_rfl) (aD (aD (aD (aD aV xV) vf) x4) js) az yZ (aT (by kernel_rfl) xQ)
def rU:Ct:=⟨[.val cI],[.own 5 bc],fun d=>[0<=d.1],fun d=>((cX d.1 2 2,()),())⟩
def zt:aA rU.ps->aK:=(fun _=>{})
theorem zA :
 ∀(a:Int),ak a/\True->0<=a->(0:Int)<=8/\[IntKind.wrap .u8 (dP IntKind.i64 a (8:Int)),IntKind.wrap .u8 a]=cX a (2:Nat) (2:Nat):=by
  rintro n-h0
  have e:=vH (n:=n) (k:=1) h0 (by omega)
  refine⟨by decide,?_⟩
  rw[fv,show dP .i64 n 8=n/256 from e,IntKind.wrap_u8',IntKind.wrap_u8']
theorem qz:aF Try.prog GL 77 rU.spec:=Ct.okH _ Try.func77 (by kernel_rfl) aV az zt (aT (by kernel_rfl) zA)
def pR:Ct:=⟨[.nils,.val cI],[.own 5 bc],fun d=>[0<=d.2.1,d.2.1<=1073741824],fun d=>(([],()),())⟩
def yu:aA pR.ps->aK:=(fun _=>{})
def jm(a:Int) :=
 a -IntKind.wrap .i64 ((0:Int) -(0:Int))
theorem v4 :
 ∀(a:Int),True/\ak a/\True->0<=a/\a<=1073741824->ax (decide (a<0)) False (ax (decide (0<IntKind.wrap .i64 (jm a))) ((0:Int)=0/\(0:Int)=0/\0<=IntKind.wrap .i64 (jm a)/\IntKind.wrap .i64 (jm a)*(↑(1:Nat):Int)<=140737488355328/\(0:Int)<=0/\0<=((List.length (List.replicate (Int.toNat (IntKind.wrap .i64 (jm a))) (0:Int))):Int)/\List.take (Int.toNat (0:Int)) (List.replicate (Int.toNat (IntKind.wrap .i64 (jm a))) (0:Int))=([]:List Int)) (([]:List Int)=([]:List Int))):=by
  delta jm
  rintro x-⟨h0,h1⟩
  rw[au (n:=(0:Int)-0) (by omega) (by omega),au (by omega) (by omega)]
  refine aM (fun hb=>?_) (fun hb=>aM (fun hb=>?_) (fun hb=>rfl))
  ·have:=of_decide_eq_true hb;omega
  ·refine⟨rfl,rfl,by omega,by omega,by omega,by simp only[List.length_replicate];omega,by simp⟩
theorem zW:aF Try.prog GL 96 pR.spec:=Ct.okH _ Try.func96 (by kernel_rfl) (rH aV (d:=25)) az yu (aT (by kernel_rfl) v4)
def rP:Ct:=⟨[.val (.sl (.sl bc))],[.own 5 bc],fun d=>[(d.1.flatten.length:Int)<=1073741824],fun d=>((d.1.flatten,()),())⟩
def vL:aA rP.ps->aK:=(fun d=>{loops:=(fun n=>match n with|3=>some (fun S=>{ι:=Int×Int,qn:=⟨fun k_=>∀(j:Int)(s:Int),k_ (j,s),fun k_ h_ i=>h_ i.1 i.2,fun k_=>∃ (j:Int) (s:Int),k_ (j,s),fun k_ ⟨j,s,h_⟩=>⟨_,h_⟩⟩,μ:=fun i=>(d.1.length-i.1).toNat,inv:=fun i=>0<=i.1/\i.1<=d.1.length/\i.2=((d.1.take i.1.toNat).flatten.length:Int),keep:=[0,9,10],slots:=fun i=>[(3,.int .i64 i.2),(11,.int .i64 i.1)],names:=fun i=>[]})|11=>some (fun S=>{ι:=Int×(List Int),qn:=⟨fun k_=>∀(j:Int)(ys:(List Int)),k_ (j,ys),fun k_ h_ i=>h_ i.1 i.2,fun k_=>∃ (j:Int) (ys:(List Int)),k_ (j,ys),fun k_ ⟨j,ys,h_⟩=>⟨_,h_⟩⟩,μ:=fun i=>(d.1.length-i.1).toNat,inv:=fun i=>0<=i.1/\i.1<=d.1.length/\i.2=(d.1.take i.1.toNat).flatten,keep:=[25,26],slots:=fun i=>[(6,.own 524288 1),(27,.int .i64 i.1)],names:=fun i=>[(524288,.live (.row 5 bc i.2))]})|_=>none)})
theorem vJ :
 ∀(a:List (List Int)),(a.length<=maxLen/\ ∀(b:List Int),b∈a->b.length<=maxLen/\ ∀(c:Int),c∈b->0<=c/\c<=255)/\True->((List.length (List.flatten a)):Int)<=1073741824->(∃(b:Int) (c:Int),(0<=b/\b<=(bf a)/\c=((List.length (List.flatten (List.take b.toNat a))):Int))/\a=a/\(0:Int)=c/\a=a/\(bf a)=(bf a)/\(0:Int)=b/\True)/\ ∀(b c:Int),0<=b/\b<=(bf a)/\c=((List.length (List.flatten (List.take b.toNat a))):Int)->ax (decide (b<(bf a))) (0<=b/\b<(bf a)/\ax (decide (IntKind.wrap .i64 (c+((List.length (a.getD b.toNat default)):Int))<0)) False (∃(d:Int) (e:Int),(0<=d/\d<=(bf a)/\e=((List.length (List.flatten (List.take d.toNat a))):Int))/\Int.toNat ((bf a) -d)<Int.toNat ((bf a) -b)/\a=a/\IntKind.wrap .i64 (c+((List.length (a.getD b.toNat default)):Int))=e/\a=a/\(bf a)=(bf a)/\IntKind.wrap .i64 (b+(1:Int))=d/\True)) (0<=c/\c<=1073741824/\(∃(d:Int) (e:List Int),(0<=d/\d<=(bf
 a)/\e=List.flatten (List.take d.toNat a))/\a=a/\(bf a)=(bf a)/\(0:Int)=d/\([]:List Int)=e/\True)/\ ∀(d:Int)(e:List Int),0<=d/\d<=(bf a)/\e=List.flatten (List.take d.toNat a)->ax (decide (d<(bf a))) (0<=d/\d<(bf a)/\(e.length+List.length (a.getD d.toNat default))*(1:Nat)<=(140737488355328:Nat)/\ ∃(f:Int) (g:List Int),(0<=f/\f<=(bf a)/\g=List.flatten (List.take f.toNat a))/\Int.toNat ((bf a) -f)<Int.toNat ((bf a) -d)/\a=a/\(bf a)=(bf a)/\IntKind.wrap .i64 (d+(1:Int))=f/\e++a.getD d.toNat default=g/\True) (e=List.flatten a)):=by
  delta bf
  rintro x ⟨⟨hl,-⟩,-⟩ ht
  simp only[maxLen] at hl
  refine⟨⟨0,0,⟨by omega,by omega,by simp⟩,(by repeat' first|exact trivial|refine⟨trivial,?_⟩|refine⟨(by with_reducible rfl),?_⟩|refine⟨au (by omega) (by omega),?_⟩|refine⟨rfl,?_⟩)⟩,?_⟩
  rintro j s ⟨h0,h1,h2⟩
  have hle:=nA x j.toNat
  refine aM (fun hb=>?_) (fun hb=>?_)
  ·have hb:=of_decide_eq_true hb
   have e:=rK h0 hb
   have hle2:=nA x (j+1).toNat
   have el:((x.take (j+1).toNat).flatten.length:Int)=s+(x.getD j.toNat default).length:=by rw[e,List.length_append];omega
   rw[au (n:=s+_) (by omega) (by omega)]
   refine⟨h0,hb,aM (fun hc=>?_) (fun hc=>?_)⟩
   ·have:=of_decide_eq_true hc;omega
   ·exact⟨j+1,_,⟨by omega,by omega,el.symm⟩,by omega,(by repeat' first|exact trivial|refine⟨trivial,?_⟩|refine⟨(by with_reducible rfl),?_⟩|refine⟨au (by omega) (by omega),?_⟩|refine⟨rfl,?_⟩)⟩
  ·refine⟨by omega,by omega,⟨0,[],⟨by omega,by omega,by simp⟩,(by repeat' first|exact trivial|refine⟨trivial,?_⟩|refine⟨(by with_reducible rfl),?_⟩|refine⟨au (by omega) (by omega),?_⟩|refine⟨rfl,?_⟩)⟩,?_⟩
   rintro k ys ⟨k0,k1,rfl⟩
   refine aM (fun hb=>?_) (fun hb=>?_)
   ·have hb:=of_decide_eq_true hb
    have e:=rK k0 hb
    have hle2:=nA x (k+1).toNat
    refine⟨k0,hb,?_,k+1,_,⟨by omega,by omega,e.symm⟩,by omega,(by repeat' first|exact trivial|refine⟨trivial,?_⟩|refine⟨(by with_reducible rfl),?_⟩|refine⟨au (by omega) (by omega),?_⟩|refine⟨rfl,?_⟩)⟩
    rw[← List.length_append,← e];omega
   ·have hb:=of_decide_eq_false hb
    rw[List.take_of_length_le (by omega)]
theorem zR:aF Try.prog GL 82 rP.spec:=Ct.okH _ Try.func82 (by kernel_rfl) (aD aV zW) az vL (aT (by kernel_rfl) vJ)
def pK:Ct:=⟨[.val cI,.val (.sl bc)],[.val (.sl bc)],fun d=>[0<=d.1,(d.2.1.length:Int)<=1000000],fun d=>((ch d.1 d.2.1,()),())⟩
def vP:aA pK.ps->aK:=(fun _=>{})
theorem Aa :
 ∀(a:Int)(b:List Int),ak a/\(b.length<=maxLen/\ ∀(c:Int),c∈b->0<=c/\c<=255)/\True->0<=a/\(b.length:Int)<=1000000->0<=a/\((List.length (List.flatten [[(68:Int)],cX a (2:Nat) (2:Nat),b])):Int)<=1073741824/\List.flatten [[(68:Int)],cX a (2:Nat) (2:Nat),b]=ch a b:=by
  rintro n it-⟨h0,h1⟩
  have e:List.flatten [[(68:Int)],cX n 2 2,it]=ch n it:=by simp[ch]
  rw[e]
  refine⟨h0,?_,rfl⟩
  rw[mT];omega
theorem uh:aF Try.prog GL 58 pK.spec:=Ct.okH _ Try.func58 (by kernel_rfl) (aD (aD aV qz) zR) az vP (aT (by kernel_rfl) Aa)
def tM:Ct:=⟨[.val (.sl bc),.val cI],[.val cI],fun d=>[(d.1.length:Int)<=9223372036854775807],fun d=>((bd d.1 d.2.1,()),())⟩
def zU:aA tM.ps->aK:=(fun _=>{})
theorem x6 :
 ∀(a:List Int)(b:Int),(a.length<=maxLen/\ ∀(c:Int),c∈a->0<=c/\c<=255)/\ak b/\True->(a.length:Int)<=9223372036854775807->(a.length:Int)<=9223372036854775807/\gE a b (2:Int)=bd a b:=by
  rintro b a-h
  exact⟨h,rfl⟩
theorem rp:aF Try.prog GL 76 tM.spec:=Ct.okH _ Try.func76 (by kernel_rfl) (aD aV vm) az zU (aT (by kernel_rfl) x6)
end Go.RS

/- SX, part 30: a function that parts a row which a variable's cell owns: it returns the row's beginning, and leaves the rest in the cell. -/
namespace Go.SX
set_option linter.unusedVariables false
structure Cp where
 E:TypeId
 o:OT
 oe:OT
 off:Nat
 Er:TypeId
 t:CT
 xs:o.D->List t.D
 pre:o.D->List Prop
 ex:o.D->oe.X
 out:o.D->Nat
def Cp.upd(c:Cp)(d:c.o.D)(p base n:Nat):List (Nat×Nm) :=
 [(p,.live (.cells c.E (dE (cL p c.oe (c.ex d) [] 0) c.off [.part base c.t.size (c.out d) ((c.xs d).length-c.out d)]))),(base,.live (.row c.Er c.t (c.xs d))),(n,.dead)]
def Cp.spec(c:Cp):Spec:=fun base svs=>match svs with
 | [.ptr p z,.ptr q off]=>match Nat.beq z 0,Nat.beq q p,Nat.beq off c.off,iZ [.box c.E c.o] [] with
  | true,true,true,true => .ask p fun
   | .live (.cells E cs)=>match Nat.beq E c.E with
    | true=>(cZ none c.o cs).bind fun x=>match x with
     | (d,[],[],[],[some n])=>match Nat.beq p n with
      | true => .fail
      | false => .ask base fun
       | .un => .ret (.det (c.pre d) (.part base c.t.size 0 (c.out d)) (c.upd d p base n))
       | _ => .fail
     | _ => .fail
    | false => .fail
   | _ => .fail
  | _,_,_,_ => .fail
 | _ => .fail
def Cp.start(c:Cp)(d:c.o.D)(n:Nat):St:=⟨dj [.ptr PN 0,.ptr PN c.off] n,[(PN,.live (.cells c.E (da c.o d 1 0)))]++(eh c.o d 0++fK (cy [.box c.E c.o]))⟩
def Cp.fin(P:Program)(c:Cp)(rv:List ResultVar)(d:c.o.D):Ex->St->Prop:=fun e S=>match e with
 | .exit _=>False
 | _=>match fN P rv S.sl (aN S.H),aN S.H PN with
  | some [.part q z l0 k],.live (.cells E' cs)=>match aN S.H q,cs[c.off]?,cr (aN S.H) true c.oe (some 1) cs with
   | .live (.row E2 t2 ys),some (.part q2 z2 l2 k2),some (x,[],[],[]) =>
    match Nat.beq z c.t.size,Nat.beq E' c.E,Nat.beq E2 c.Er,bv t2 c.t ys,Nat.beq q2 q,Nat.beq z2 c.t.size,Nat.blt q PN||Nat.ble QN q with
    | true,true,true,some zs,true,true,true=>dU [l0=0,k=c.out d,zs=c.xs d,l2=c.out d,k2=(c.xs d).length-c.out d,x=c.ex d]
    | _,_,_,_,_,_,_=>False
   | _,_,_=>False
  | _,_=>False
def Cp.vc(P:Program)(sp:aY)(c:Cp)(fn:Func)(an:c.o.D->aK):Prop :=
 g8 c.o fun d=>c.o.wf d->dU (c.pre d)->fy (c.start d fn.ntmps) (sx P sp (an d) (gR fn) (c.fin P fn.results.toList d))
theorem Cp.ok{P:Program}{sp:aY}(c:Cp){f:FuncId}{fn:Func}(hf:P.funcs[f]? = some fn)(hb:fn.body=some (gR fn))(hs:bY P sp)(az:P.follows .mixedOrders=true)
  (hnb:c.o.nb=0) (hne:c.oe.nb=0) (hnr:c.oe.nr=0) (hpl:c.oe.hx=c.o.hx) (hcon:∀ d,eh c.o d 0=[(QN,.live (.row c.Er c.t (c.xs d)))]) (an:c.o.D->aK)
  (vc:Cp.vc P sp c fn an):aF P sp.gl f c.spec:=by
 intro base svs h dl r e hp w0 N0 A env w vs hG m hd
 unfold Cp.spec at e
 split at e
 case h_2=>cases e
 rename_i p z q off
 split at e
 case h_2=>cases e
 rename_i hz hq hoff hix
 have hz:=Nat.eq_of_beq_eq_true hz
 have hq:=Nat.eq_of_beq_eq_true hq
 have hoff:=Nat.eq_of_beq_eq_true hoff
 subst hz hq hoff
 simp only[Q.run] at e
 split at e
 case h_2=>cases e
 rename_i p0 q0 hk
 simp only[Option.some.injEq,Prod.mk.injEq] at e
 obtain⟨rfl,rfl⟩:=e
 split at hk
 case h_2=>cases hk
 rename_i E cs hl
 split at hk
 case h_2=>cases hk
 rename_i hE
 have hE:=Nat.eq_of_beq_eq_true hE
 subst hE
 obtain⟨x,q1,q2,e1,e2,rfl⟩:=Q.run_bind _ _ _ hk
 split at e2
 case h_2=>cases e2
 rename_i d n
 split at e2
 ·cases e2
 rename_i hpn
 have hpn:q≠n:=fun e=>by rw[e,Nat.beq_refl] at hpn;cases hpn
 simp only[Q.run] at e2
 split at e2
 case h_2=>cases e2
 rename_i p1 r1 hk1
 simp only[Option.some.injEq,Prod.mk.injEq] at e2
 obtain⟨rfl,rfl⟩:=e2
 split at hk1
 case h_2=>cases hk1
 rename_i hun
 cases aw hk1
 have hp:am (c.pre d):=hp
 simp only[ab,aa] at hd
 obtain⟨_,_,rfl,⟨k,l,hek,rfl⟩,_,_,rfl,⟨k',l',hek',rfl⟩,rfl⟩:=hd
 rw[hek] at hek'
 cases hek'
 obtain⟨⟨us,hus,hdu⟩,_⟩:=m.live_blk hl hek
 obtain⟨hxr,hxn,hxl⟩:=qL hix
 have hxI:cy [.box c.E c.o]=c.o.hx:=by simp[cy]
 obtain⟨s1,s2,s3,s4,us',rs',s5,s6,hol,hols,s7⟩:=jy m (Ac:=bj A env []) (fun b hb=>.inl hb) none c.o cs us.toList d [] [] [] [some n] q1 1 0 e1 hdu (fun k hk=>.inr hk)
 simp only[ab] at s6
 subst s6
 rw[List.append_nil] at s5
 subst s5
 have holn:(hol.map (·.1)).Nodup:=by rw[hols.1,← hxI];exact hxn
 have hbh:[q].length<=HN-PN:=by simp[HN,PN]
 have hbl:[q].length<=PN:=by simp[PN]
 have holv:∀ y∈hol,ce env [q] [some n] hol (HN+y.1) = .val y.2.1 y.2.2:=fun y hy=>by
  have hy':y.1∈cy [.box c.E c.o]:=by rw[hxI,← hols.1];exact List.mem_map_of_mem (f:=(·.1)) hy
  unfold ce
  rw[tb hbh (hxl _ hy')]
  exact mO holn y hy
 have hcb:ce env [q] [some n] hol PN=env q:=by have:=ml (env:=env) (cx:=[some n]) (hv:=hol) hbl (i:=0) (n:=q) rfl;simpa using this
 have hcc:ce env [q] [some n] hol QN=env n:=by have:=qB (env:=env) (bx:=[q]) (cx:=[some n]) (hv:=hol) (i:=0) (o:=some n) rfl;simpa[de] using this
 obtain⟨k1,k2,k3⟩:=s7 (ce env [q] [some n] hol) (fun n hn=>by cases hn) (fun k n hn=>by simp at hn) (fun k y hy=>by
  cases k with
  | zero=>simp at hy;subst hy;simpa[de] using hcc
  | succ k=>simp at hy) holv
 have hlb:bQ (bj A env []) env h (ce env [q] [some n] hol) w ([q].map some) [(PN,.live (.cells c.E (da c.o d 1 0)))] PN:=by
  refine⟨⟨rfl,_,rfl,rfl,.inl ⟨q,_,rfl,hl,rfl,fun k' len' he=>?_,fun he=>?_⟩⟩,trivial⟩
  ·rw[hek] at he;cases he
   exact⟨us,hus,k1⟩
  ·rw[hek] at he;cases he
 have k3:bQ (bj A env []) env h (ce env [q] [some n] hol) w [some n] (eh c.o d 0) QN:=by simpa using k3
 have hnd:([q]++bM [some n]).Nodup:=by simp[bM,hpn]
 have mc:=m.call hol (fz:=[]) (fun _ _ hh=>by simp at hh) hbl hlb k3 (by simp) hnd
 rw[hols.1,← hxI] at mc
 have hvc:=jR.1 vc d s2 (iM.2 hp)
 rw[lT] at hvc
 obtain⟨bn,hbn1,hbn2⟩:∃ b,h n = .live b/\b.mut=true:=by
  obtain⟨b',_,_,_,⟨q',b,e,h1,h2,_⟩|⟨e,_⟩⟩:=k3.get.2 0 (some n) rfl
  ·cases e;exact⟨b,h1,h2⟩
  ·cases e
 have hnn:env n ≠ .un:=by
  have:=m.nm n
  rw[hbn1] at this
  rcases this with⟨k,len,e,_⟩|⟨e,_⟩ <;> rw[e] <;> simp
 have hbq:base≠q:=fun e=>by rw[e,hl] at hun;cases hun
 have hbn:base≠n:=fun e=>by rw[e,hbn1] at hun;cases hun
 refine calls_of_wp hf hb (qY (N0:=⟨jT env ([q]++bM [some n]),bj A env [],N0.g⟩) ⟨hs,hG⟩ az (gR fn) _ _ _ (bj A env []) (ce env [q] [some n] hol) _ w hvc ⟨mc,?_,?_,rfl⟩ ?_)
 ·simp only[St.fs,Cp.start,lV,Array.size_append,Array.size_replicate];omega
 ·intro i
  simp only[St.fs,Cp.start]
  have dargs:ab (bj A env []) (ce env [q] [some n] hol) w [.ptr PN 0,.ptr PN c.off] [.pointer (some ⟨k,0,none⟩),.pointer (some ⟨k,c.off,none⟩)]:=by
   simp only[ab,aa]
   exact⟨_,_,rfl,⟨k,l,by rw[hcb];exact hek,rfl⟩,_,_,rfl,⟨k,l,by rw[hcb];exact hek,rfl⟩,rfl⟩
  rcases lP (l:=[SV.ptr PN 0,SV.ptr PN c.off]) (n:=fn.ntmps) (i:=i) with hj|⟨s,h1,h2⟩
  ·rw[hj];simp only[aa]
  ·rw[h2]
   obtain⟨v,hv,hdv⟩:=gS i s dargs h1
   generalize hvs:[Value.pointer (some ⟨k,0,none⟩),Value.pointer (some ⟨k,c.off,none⟩)]=vs at hv
   have hi:i<vs.length:=(List.getElem?_eq_some_iff.1 hv).1
   have:(vs.toArray++Array.replicate (fn.ntmps-vs.toArray.size) undef).getD i undef=v:=by
    have h3:(vs.toArray++Array.replicate (fn.ntmps-vs.toArray.size) undef)[i]? = some v:=by
     rw[Array.getElem?_append_left (by simpa using hi)];simpa using hv
    simp only[Array.getD_eq_getD_getElem?,h3,Option.getD_some]
   rw[this];exact hdv
 ·intro ex S' A1 env1 act w1 hK t' x'
  have hend:∃ rsv qe C1 x,fN P fn.results.toList S'.sl (aN S'.H)=some [.part qe c.t.size 0 (c.out d)]/\aN S'.H PN = .live (.cells c.E C1)/\aN S'.H qe = .live (.row c.Er c.t (c.xs d)) ∧
    C1[c.off]? = some (.part qe c.t.size (c.out d) ((c.xs d).length-c.out d))/\cr (aN S'.H) true c.oe (some 1) C1=some (x,[],[],[])/\x=c.ex d/\(qe<PN∨QN<=qe)/\(ex = .normal∨ex = .ret)/\rsv=():=by
   unfold Cp.fin at hK
   split at hK
   ·exact hK.elim
   ·rename_i hex
    split at hK
    ·rename_i q9 z9 l9 k9 E9 cs9 h1 h2
     split at hK
     ·rename_i E2 t2 ys q2 z2 l2 k2 x h3 h4 h5
      split at hK
      ·rename_i zs hz1 hz2 hz3 hc hz4 hz5 hz6
       have hz1:=Nat.eq_of_beq_eq_true hz1
       have hz2:=Nat.eq_of_beq_eq_true hz2
       have hz3:=Nat.eq_of_beq_eq_true hz3
       have hz4:=Nat.eq_of_beq_eq_true hz4
       have hz5:=Nat.eq_of_beq_eq_true hz5
       obtain⟨et,ez⟩:=bW hc
       subst et
       simp only at ez
       subst ez
       subst hz1 hz2 hz3 hz4 hz5
       obtain⟨y1,y2,y3,y4,y5,y6⟩:=hK
       subst y1 y2 y4 y5
       refine⟨(),q2,cs9,x,h1,h2,by rw[← y3];exact h3,h4,h5,y6,?_,?_,rfl⟩
       ·simp only[Bool.or_eq_true] at hz6
        exact hz6.imp (fun h=>Nat.le_of_ble_eq_true h) (fun h=>Nat.le_of_ble_eq_true h)
       ·cases ex with
        | normal=>exact .inl rfl
        | ret=>exact .inr rfl
        | exit i=>exact absurd rfl (hex i)
      ·exact hK.elim
     ·exact hK.elim
    ·exact hK.elim
  obtain⟨-,qe,C1,x,hts,hC,hR,hpt,hoo,rfl,hqe,hex,-⟩:=hend
  obtain⟨rvs,hrun,hres⟩:=pB t'.m t'.f hts
  have hqP:qe≠PN:=fun e=>by rw[e,hC] at hR;cases hR
  have henvp:env1 PN=env q:=by
   have:=x'.envp PN (Nat.le_refl _) vK (by rw[hcb,hek];simp)
   rw[this,hcb]
  have hRq:aH [(q,some PN),(base,some qe)] q=some (some PN):=by simp[dw]
  have hRb:aH [(q,some PN),(base,some qe)] base=some (some qe):=by simp[dw,hbq]
  have hRi:∀ n' y,aH [(q,some PN),(base,some qe)] n'=some y->(n'=q/\y=some PN)∨(n'=base/\y=some qe):=fun n' y hy=>by
   simp only[dw] at hy
   split at hy
   ·rename_i e;cases hy;exact .inl ⟨e,rfl⟩
   ·split at hy
    ·rename_i e;cases hy;exact .inr ⟨e,rfl⟩
    ·simp[aH] at hy
  have hkeepE:∀ n',env n' ≠ .un->bh [(q,some PN),(base,some qe)] env env1 n'=env n':=fun n' hn'=>by
   unfold bh
   cases hl':aH [(q,some PN),(base,some qe)] n' with
   | none=>rfl
   | some y =>
    rcases hRi n' y hl' with⟨rfl,rfl⟩|⟨rfl,rfl⟩
    ·simp only[bC,hl'];exact henvp
    ·exact absurd (by have:=m.nm n';rw[hun] at this;exact this) hn'
  have hAA:∀ b,A b->A1 b:=fun b hb=>x'.imm b (.inl hb)
  have xg:aI A env w A1 (bh [(q,some PN),(base,some qe)] env env1) w1 :=
   ⟨hAA,fun n b l e=>by rw[hkeepE n (by rw[e];simp)];exact e,fun n e=>by rw[hkeepE n (by rw[e];simp)];exact e,fun n v s e=>by rw[hkeepE n (by rw[e];simp)];exact e,
    fun b o hb=>x'.keep b o (.inl hb),x'.shape⟩
  have hHole:∀ i∈c.oe.hx,∀ v s,env1 (HN+i) = .val v s->aa A1 (bh [(q,some PN),(base,some qe)] env env1) w1 s v:=fun i hi v s he=>by
   rw[hpl,← hols.1] at hi
   obtain⟨y,hy,rfl⟩:=List.mem_map.1 hi
   have h1:=holv y hy
   have hlq:=hxl y.1 (by rw[hxI,← hols.1];exact List.mem_map_of_mem (f:=(·.1)) hy)
   have h2:=x'.envp (HN+y.1) (by simp only[HN,PN];omega) (by simp only[HN,QN] at hlq ⊢;omega) (by rw[h1];simp)
   rw[h2,h1] at he
   cases he
   exact fq xg _ _ (hols.2 y hy)
  have hrq:bh [(q,some PN),(base,some qe)] env env1 q=env1 PN:=by unfold bh;rw[hRq];simp only[bC,hRq]
  have hrb:bh [(q,some PN),(base,some qe)] env env1 base=env1 qe:=by unfold bh;rw[hRb];simp only[bC,hRb]
  have hkP:env1 PN = .blk k l:=by rw[henvp];exact hek
  obtain⟨⟨us1,hus1,hdu1⟩,_⟩:=t'.m.live_blk (show S'.fs.h PN=_ from hC) hkP
  obtain⟨p1,p2,us2,rs2,p3,p4,p5⟩:=iy (A':=A1) (A2:=A1) (env':=bh [(q,some PN),(base,some qe)] env env1) t'.m (fun b hb=>hb) q c.oe (some 1) C1 us1.toList (c.ex d) [] [] [] [] [] 0 hoo hdu1 (fun k' ⟨_,_,_,hx,_⟩=>by simp at hx) (.inr fun b hb=>hb) (.inr (by rw[hne];rfl))
  simp only[ab] at p4
  subst p4
  rw[List.append_nil] at p3
  subst p3
  obtain⟨g1,-,-,-⟩:=p5 hHole (fun _=>hrq) (fun k q hq=>by simp at hq) (fun j0 k q _ hq=>by simp at hq)
  have denP:∀(lo ln:Nat)(v:Value),aa A1 env1 w1 (.part qe c.t.size lo ln) v->aa A1 (bh [(q,some PN),(base,some qe)] env env1) w1 (.part base c.t.size lo ln) v:=fun lo ln v hv=>by
   simp only[aa] at hv ⊢
   rw[hrb];exact hv
  obtain⟨vo,hvo,hdo⟩:=gS _ _ hdu1 hpt
  have hlt:c.off<us1.toList.length:=(List.getElem?_eq_some_iff.1 hvo).1
  have hvv:us1.toList[c.off]=vo:=(List.getElem?_eq_some_iff.1 hvo).2
  have hcell:ab A1 (bh [(q,some PN),(base,some qe)] env env1) w1 (dE (cL q c.oe (c.ex d) [] 0) c.off [.part base c.t.size (c.out d) ((c.xs d).length-c.out d)]) us1.toList:=by
   have h2:ab A1 (bh [(q,some PN),(base,some qe)] env env1) w1 [.part base c.t.size (c.out d) ((c.xs d).length-c.out d)] [vo]:=by simp only[ab];exact⟨vo,[],rfl,denP _ _ _ hdo,rfl⟩
   have h3:=jc (off:=c.off) g1 h2
   have he:us1.toList.take c.off++([vo]++us1.toList.drop (c.off+[vo].length))=us1.toList:=by
    rw[← hvv]
    simp only[List.length_singleton,List.singleton_append]
    rw[List.getElem_cons_drop,List.take_append_drop]
   rw[he] at h3;exact h3
  have hmod:ai w0 N0 A1 (bh [(q,some PN),(base,some qe)] env env1) (ay (c.upd d q base n) h) w1/\aI A env w A1 (bh [(q,some PN),(base,some qe)] env env1) w1:=by
   refine ai.retn (R:=[(q,some PN),(base,some qe)]) (U:=c.upd d q base n) (A':=A1) m t'.m x'.shape ?_ ?_ ?_ ?_ ?_ hAA ?_ ?_
   ·intro n' y hx
    unfold Cp.upd at hx
    simp only[List.mem_cons,Prod.mk.injEq,List.not_mem_nil,or_false] at hx
    rcases hx with⟨rfl,rfl⟩|⟨rfl,rfl⟩|⟨rfl,rfl⟩
    ·refine .inr ⟨_,rfl,rfl,.inl ⟨PN,_,hRq,hC,rfl,fun k' len he=>?_,fun he=>?_⟩⟩
     ·rw[hkP] at he;cases he
      exact⟨us1,hus1,hcell⟩
     ·rw[hkP] at he;cases he
    ·refine .inr ⟨_,rfl,rfl,.inl ⟨qe,_,hRb,hR,rfl,fun k' len he=>?_,fun he=>?_⟩⟩
     ·exact (t'.m.live_blk (show S'.fs.h qe=_ from hR) he).1
     ·have:=t'.m.nm qe
      rw[show S'.fs.h qe=_ from hR] at this
      rcases this with⟨_,_,he',_⟩|⟨_,E3,t3,hb3⟩
      ·rw[he] at he';cases he'
      ·rcases hb3 with hb3|hb3
       ·exact⟨E3,t3,hb3⟩
       ·cases hb3
    ·exact .inl rfl
   ·intro n' hn'
    obtain⟨y',hy⟩:=Option.ne_none_iff_exists'.1 hn'
    rcases hRi n' y' hy with⟨rfl,_⟩|⟨rfl,_⟩ <;> simp[Cp.upd]
   ·intro n1 n2 q' h1 h2
    rcases hRi n1 _ h1 with⟨rfl,e1⟩|⟨rfl,e1⟩ <;> rcases hRi n2 _ h2 with⟨rfl,e2⟩|⟨rfl,e2⟩
    ·rfl
    ·cases e1;cases e2;exact absurd rfl hqP
    ·cases e1;cases e2;exact absurd rfl hqP
    ·rfl
   ·intro n' hn'
    obtain⟨y',hy⟩:=Option.ne_none_iff_exists'.1 hn'
    rcases hRi n' y' hy with⟨rfl,rfl⟩|⟨rfl,rfl⟩
    ·exact .inr ⟨_,hl,rfl,by rw[eJ hy];exact henvp⟩
    ·exact .inl hun
   ·rintro k' ⟨n',l',hn',he⟩
    simp only[bM,List.cons_append,List.nil_append,List.mem_cons,List.not_mem_nil,or_false] at hn'
    rcases hn' with rfl|rfl
    ·exact⟨_,_,l',by simp[Cp.upd],hl,rfl,he⟩
    ·exact⟨_,bn,l',by simp[Cp.upd],hbn1,hbn2,he⟩
   ·intro b hb
    have hlt':=t'.m.Alt b hb
    rcases t'.m.fresh b hb with h1|h1|h1
    ·rcases h1 with h1|⟨_,_,_,hx,_⟩
     ·exact .inl h1
     ·simp at hx
    ·exact .inr ⟨.inl h1,hlt'⟩
    ·exact .inr ⟨.inr h1,hlt'⟩
   ·rintro q' b k' l' hq' hbm he ⟨n',hn'⟩
    exact (t'.m.live_blk (show S'.fs.h q'=_ from hq') he).2 hbm
  have hrd:=ta hres
  have hgood:bl w0 N0 A env h w (.det (c.pre d) (.part base c.t.size 0 (c.out d)) (c.upd d q base n)) (iT rvs) w1:=by
   refine⟨(),A1,_,trivial,hmod.1,hmod.2,?_⟩
   exact denP _ _ _ hrd
  have hthis:act.defers=[]∧∃ v,(results fn act.tmps).run P w1 = .ok v w1∧∃ v',Ending.returned v = .returned v'∧bl w0 N0 A env h w (.det (c.pre d) (.part base c.t.size 0 (c.out d)) (c.upd d q base n)) v' w1 :=
   ⟨t'.dfr,_,hrun,_,rfl,hgood⟩
  rcases hex with rfl|rfl
  ·exact hthis
  ·exact hthis
theorem Cp.okH{P:Program}{sp:aY}(c:Cp){f:FuncId}{fn:Func}(hf:P.funcs[f]? = some fn)(hb:fn.body=some (gR fn))(hs:bY P sp)(az:P.follows .mixedOrders=true)
  (hnb:c.o.nb=0) (hne:c.oe.nb=0) (hnr:c.oe.nr=0) (hpl:c.oe.hx=c.o.hx) (hcon:∀ d,eh c.o d 0=[(QN,.live (.row c.Er c.t (c.xs d)))]) (an:c.o.D->aK)
  (vc:mq (Cp.vc P sp c fn an)):aF P sp.gl f c.spec:=c.ok hf hb hs az hnb hne hnr hpl hcon an vc.out
end Go.SX
