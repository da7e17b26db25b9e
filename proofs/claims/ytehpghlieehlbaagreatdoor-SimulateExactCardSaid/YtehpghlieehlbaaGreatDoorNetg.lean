/- Node2: a node's state; what a node does, in the program and in the reference. -/
import Derived.Test.YtehpghlieehlbaaGreatDoorTopod
import Derived.Test.YtehpghlieehlbaaGreatDoorReply
import Derived.Test.YtehpghlieehlbaaGreatDoorNodek
set_option maxRecDepth 100000
set_option linter.unusedVariables false
open Int (toNat)
open List (length take getD set range)
namespace Go.RS
open Go.SX Go.Proofs
def lJ(x:ar):bY:=(bf x,0,List.replicate (aA x).length 0,wR (jE x) 0,0)
def rB(b t:Int×Int):Prop:=(0<=t.2/\t.2<=1125899906842624)/\(b=(0,0)->t.1=0)/\(b≠(0,0)->0<=t.1/\t.1<=b.1*b.2)
structure iG (x:ar) (s:bY) (K:Int):Prop where
 srt:cK (bn s)
 okl:okL (bn s)
 rt:∀ r∈bn s,lI r (bq x)
 ps:(fD s).length=(aA x).length
 tk:rB (jE x) (sN s)
 cn:0<=jy s/\jy s<=K
 cp:∀ y∈fD s,0<=y/\y<=K
def ud(x:ar)(s:bY)(at':Int)(b:ad):Prop:=dN x=0/\iG x s 1099511627776/\(0<=at'∧at'<=1125899906842624)/\(b.length:Int)<=1000000
def cE(x:ar)(s:bY)(link at':Int)(b:ad):dL:=(x,s,link,at',b,(aP b).1)
def kB(kind:Int)(w:dL)(f i:Int):ad:=if kind=2 then fA w 11 0 f i else if kind=3 then fA w 3 0 f i else fI w f i
def kE(kind:Int)(w:dL)(i:Int):Int:=if kind=2 then kH w 11 0 i else if kind=3 then kH w 3 0 i else jq w i
def kv(kind:Int)(w:dL):Int:=if kind=0 then f9 w.2.2.2.2.2 else 0
def fi(w:dL)(kind:Int):nE:=dC (kB kind w) (kE kind w) w (kv kind w)
theorem Bg{b:Int×Int}(h:gu b=0):b=(0,0)∨(1<=b.1/\b.1<=65536/\1<=b.2/\b.2<=1073741824/\b.2<=b.1*b.2/\b.1*b.2<=70368744177664):=by
 unfold gu at h
 split at h
 next hh=>
  rcases hh with hh|⟨h1,h2,h3,h4⟩
  .exact .inl hh
  .refine .inr ⟨h1,h2,h3,h4,?_,?_⟩
   .have:=Int.mul_le_mul_of_nonneg_right (a:=1) (b:=b.1) (c:=b.2) h1 ab;omega
   .have:=Int.mul_le_mul (a:=b.1) (b:=b.2) (c:=65536) (d:=1073741824) h2 h4 ab ab;omega
 .cases h
theorem aL9{b:Int×Int}(h:gu b=0)(x:Int):wR b x=(b.1*b.2,x):=by
 rcases Bg h with rfl|hh
 .rfl
 .unfold wR w;rw[aQ ab ab]
theorem M8{b t:Int×Int}{x:Int}(h:gu b=0)(hb:b≠(0,0))(ht:rB b t)(hx:0<=x/\x<=1125899906842624) :
  gm b t x=if min (t.1+(max x t.2-t.2)) (b.1*b.2)<b.2 then ((min (t.1+(max x t.2-t.2)) (b.1*b.2),max x t.2),false) else ((min (t.1+(max x t.2-t.2)) (b.1*b.2)-b.2,max x t.2),true):=by
 obtain⟨h1,-,h3⟩:=ht
 have h3:=h3 hb
 have hc:=(Bg h).resolve_left hb
 have e:sS b t (max x t.2)=min (t.1+(max x t.2-t.2)) (b.1*b.2):=by
  unfold sS w;rw[aQ (n:=max x t.2-t.2) ab ab,aQ ab ab,aQ ab ab]
 unfold gm w
 rw[af hb,e]
 split
 .rfl
 .rw[aQ ab ab]
def qi(b t:Int×Int)(x:Int):Int×Int:=if t.2<x then (min (w (w (t.1+x)-t.2)) (w (b.1*b.2)),x) else t
def BT(b t:Int×Int)(x:Int):(Int×Int)×Bool:=if (qi b t x).1<b.2 then (qi b t x,false) else ((w ((qi b t x).1-b.2),(qi b t x).2),true)
theorem ZR{b t:Int×Int}{x:Int}(h:gu b=0)(ht:rB b t)(hx:0<=x/\x<=1125899906842624):BT b t x=gm b t x:=by
 obtain⟨h1,h2,h3⟩:=ht
 by_cases hb:b=(0,0)
 .subst hb;have h2:=h2 rfl;have e:qi (0,0) t x=(0,max x t.2):=by
   unfold qi w;split
   next k=>rw[h2,aQ (n:=0+x) ab ab,aQ (n:=0+x-t.2) ab ab,show max x t.2=x by omega];simp only[Int.mul_zero];rw[show IntKind.i64.wrap 0=0 by decide,show min (0+x-t.2) 0=0 by omega]
   next k=>rw[show max x t.2=t.2 by omega,← h2]
  unfold BT;rw[e,af aC];simp[gm,w];decide
 .have hc:=(Bg h).resolve_left hb;have h3:=h3 hb;have e:qi b t x=(min (t.1+(max x t.2-t.2)) (b.1*b.2),max x t.2):=by
   unfold qi w;split
   next k=>rw[aQ (n:=t.1+x) ab ab,aQ (n:=t.1+x-t.2) ab ab,aQ (n:=b.1*b.2) ab ab,show max x t.2=x by omega,show t.1+x-t.2=t.1+(x-t.2) by omega]
   next k=>rw[show max x t.2=t.2 by omega,show t.1+(t.2-t.2)=t.1 by omega,show min t.1 (b.1*b.2)=t.1 by omega]
  rw[M8 h hb ⟨h1,h2,λ_=>h3⟩ hx];unfold BT w;rw[e];split
  .rfl
  .rw[aQ ab ab]
theorem TR{b t:Int×Int}{x:Int}(h:gu b=0)(ht:rB b t)(hx:0<=x/\x<=1125899906842624):rB b (gm b t x).1/\(gm b t x).1.2=max x t.2:=by
 have h1:=ht.1
 by_cases hb:b=(0,0)
 .subst hb;rw[show gm (0,0) t x=((0,max x t.2),true) by simp[gm]];exact⟨⟨⟨by show 0<=max x t.2;omega,by show max x t.2<=_;omega⟩,λ_=>rfl,λk=>absurd rfl k⟩,rfl⟩
 .have hc:=(Bg h).resolve_left hb;have h3:=ht.2.2 hb;rw[M8 h hb ht hx];split
  .exact⟨⟨⟨by show 0<=max x t.2;omega,by show max x t.2<=_;omega⟩,λk=>absurd k hb,λ_=>⟨by show 0<=min _ _;omega,by show min _ _<=_;omega⟩⟩,rfl⟩
  .exact⟨⟨⟨by show 0<=max x t.2;omega,by show max x t.2<=_;omega⟩,λk=>absurd k hb,λ_=>⟨by show 0<=min _ _-_;omega,by show min _ _-_<=_;omega⟩⟩,rfl⟩
theorem GZ{x:ar}{c a:Int}(h:io x=0)(hc:0<=c/\c<=2199023255552):0<=wJ x c a:=by
 have hb:0<=jJ x/\jJ x<=65535:=by
  unfold io at h;split at h
  next k=>have:=aL k;omega
  .cases h
 have hg:=Nh (speed:=uJ x) (a:=a)
 unfold wJ wI
 rw[aQ (n:=jJ x+c) ab ab,aQ ab ab]
 omega
theorem aY9{x:ar}{s:bY}(h:io x=0)(hc:0<=jy s/\jy s<=2199023255552)(hp:∀ y∈fD s,0<=y/\y<=2199023255552)(p a q d:Int):pM x s p a q d=kY x s p a q d:=by
 unfold pM kY pW
 rw[uT (GZ h hc),uT (GZ (c:=0) h ab)]
 by_cases k:p<0∨(fD s).length<=p
 .rw[am k,am k]
 .rw[af k,af k,uT (GZ h (hp _ (bW ab ab)))]
structure pJ (x:ar):Prop where
 n1:1<=(aA x).length
 n32:(aA x).length<=32
 id:io x=0
 bk:gu (jE x)=0
 rt:dJ (bf x) (bq x)=0
 loop:¬ nU x
 ports:∀ i,i<(aA x).length->g9 x i=0
 form:¬ mJ x
theorem B3{x:ar}(h:dN x=0):pJ x:=by
 unfold dN at h
 split at h
 .cases h
 rename_i a1
 split at h
 next k=>exact absurd h k
 rename_i a2
 split at h
 .cases h
 rename_i a3
 split at h
 .cases h
 rename_i a4
 split at h
 next k=>exact absurd h k
 rename_i a5
 split at h
 next k=>exact absurd h k
 rename_i a6
 refine⟨?_,ab,by simpa using a5,by simpa using a6,h,a3,um (by simpa using a2),a4⟩
 by_cases k:(aA x).length=0
 .exact absurd (.inr (.inr (.inr (.inr (.inr (.inr k)))))) a4
 .omega
theorem aB9{a:Int}(h:fq a):a≠0:=by
 rintro rfl
 revert h
 unfold fq
 decide
theorem tx{q:Int×Int->Bool}{l:List (Int×Int)}(h:0<=iy q l):iy q l<l.length/\q (l.getD (iy q l).toNat default)=true:=by
 unfold iy at h ⊢
 split at h
 next hlt=>rw[am hlt];refine⟨ab,?_⟩;rw[Int.toNat_natCast,ce,cF hlt,fu];exact List.findIdx_getElem (w:=hlt)
 .omega
theorem Lz{q:Int×Int->Bool}{l:List (Int×Int)}{y:Int×Int}(hy:y∈l)(hq:q y=true):0<=iy q l:=by
 have hlt:l.findIdx q<l.length:=List.findIdx_lt_length_of_exists ⟨y,hy,hq⟩
 unfold iy;rw[am hlt];omega
theorem Nu{x:ar}{i:Nat}(h:g9 x i=0):fq ((aA x).getD i default).1∧¬ ((aA x).getD i default).2<0:=by
 unfold g9 at h
 split at h
 .cases h
 next k=>
  split at h
  .cases h
  next k2=>exact⟨pi.1 λq=>k (.inl q),λq=>k2 (.inl q)⟩
theorem RR{x:ar}(h:pJ x){a:Int}(ha:fH x a=true):a≠0:=by
 rintro rfl
 unfold fH at ha
 simp only[oo,jz,dr,oX,sC] at ha
 rcases ha with ha|⟨h1,h2⟩
 .have ha:0<=iy (gZ 0) (aA x):=ha;obtain⟨k1,k2⟩:=tx (q:=gZ 0) (l:=aA x) ha;have:=(Nu (h.ports (iy (gZ 0) (aA x)).toNat ab)).1;have e:((aA x).getD (iy (gZ 0) (aA x)).toNat default).1=0:=aL k2;rw[e] at this;exact aB9 this rfl
 .exact h1 h2
theorem NN{x:ar}(h:pJ x)(k:Int):bM x k<(aA x).length:=by
 have:=h.n1
 unfold bM
 by_cases hk:0<=cG x k
 .have:=(tx hk).1;have e:cG x k=iy (iq k) (aA x):=rfl;omega
 .omega
theorem D0{x:ar}{i:Int}(h0:0<=i)(h1:i<(aA x).length):adr x i=((aA x).getD i.toNat default).1:=by
 unfold adr;rw[af ab]
theorem aS1{l:List Rt}{a:Int}(h:kO l a=true):bw l a∈l:=by
 have key:∀(l:List Rt)(b:Option Rt)(r:Rt),l.foldl (vA a) b=some r->r∈l∨b=some r:=by
  intro l
  induction l with
  | nil=>intro b r e;exact .inr e
  | cons y l ih =>
   intro b r e;rcases ih _ _ e with h1|h1
   .exact .inl (fw _ h1)
   .unfold vA at h1;split at h1
    .split at h1
     .cases h1;exact .inl fF
     .split at h1
      .cases h1;exact .inl fF
      .exact .inr h1
    .exact .inr h1
 unfold kO at h
 unfold bw
 cases hl:jW l a with
 | none=>rw[hl] at h;cases h
 | some r =>
  rcases key l none r hl with k|k
  .exact k
  .cases k
theorem Kv{s:bY}{a:Int}(h:¬ fm s a=false):bw (bn s) a∈bn s:=by
 refine aS1 ?_
 unfold fm at h
 cases hb:kO (bn s) a with
 | true=>rfl
 | false=>rw[hb] at h;simp at h
theorem MN{x:ar}{s:bY}{r:Rt}{k:ph}(h:r.2.1≠[]):fR x s r k∈r.2.1:=by
 have hpos:1<=(r.2.1.length:Int):=by cases hh:r.2.1 with
  | nil=>exact absurd hh h
  | cons a l=>simp;omega
 unfold fR
 split
 .exact bW (i:=0) ab ab
 .have hc:=FJ (way:=r.2.2) (seed:=Cv x) (k:=k) (count:=i9 s) hpos;exact bW hc.1 hc.2
theorem OM{r:Rt}{links:ad}(h:lI r links):∀ y∈r.2.1,y∈links:=by
 intro y hy
 obtain⟨i,hi,rfl⟩:=List.mem_iff_getElem.1 hy
 have:=(h.1.2 i hi).2
 rwa [ce,cF hi,fu] at this
theorem Is{x:ar}{k:Int}(h:k∈bq x):0<=cG x k:=by
 obtain⟨y,hy,rfl⟩:=List.mem_map.1 h
 exact Lz hy (by simp[iq])
theorem OK{x:ar}{s:bY}{K:Int}(hs:iG x s K){a:Int}(hw:¬ fm s a=false)(s':bY)(k:ph):0<=cG x (fR x s' (bw (bn s) a) k) :=
 Is (OM (hs.rt _ (Kv hw)) _ (MN (wN hw)))
theorem aZ1{l:ad}{K i:Int}(h:∀ y∈l,0<=y/\y<=K)(hK:0<=K/\K<=2199023255552)(h0:0<=i):(qw l i).length=l.length∧∀ y∈qw l i,0<=y/\y<=K+1:=by
 unfold qw
 split
 next hi=>
  refine⟨fV,λy hy=>?_⟩;rcases wz hy with hy|rfl
  .have:=h y hy;omega
  .have:=h _ (bW h0 hi);rw[aQ ab ab];omega
 .exact⟨rfl,λy hy=>by have:=h y hy;omega⟩
theorem iG.more{x:ar}{s:bY}{K K':Int}(h:iG x s K)(hk:K<=K'):iG x s K' :=
 ⟨h.srt,h.okl,h.rt,h.ps,h.tk,by have:=h.cn;omega,λy hy=>by have:=h.cp y hy;omega⟩
theorem iG.tok{x:ar}{s:bY}{K:Int}(h:iG x s K){t:Int×Int}(ht:rB (jE x) t):iG x (Bi s t) K:=⟨h.srt,h.okl,h.rt,h.ps,ht,h.cn,h.cp⟩
theorem iG.bal{x:ar}{s:bY}{K:Int}(h:iG x s K)(b:Int):iG x (Pj s b) K:=⟨h.srt,h.okl,h.rt,h.ps,h.tk,h.cn,h.cp⟩
theorem iG.pick{x:ar}{s:bY}{K:Int}(h:iG x s K)(r:Rt):iG x (dq s r) K:=by
 unfold dq;split
 .exact h
 .exact h.bal _
theorem iG.sent{x:ar}{s:bY}{K i:Int}(h:iG x s K)(hK:0<=K/\K<=2199023255552)(h0:0<=i):iG x (MF s i) (K+1):=by
 obtain⟨b1,b2⟩:=aZ1 h.cp hK h0
 refine⟨h.srt,h.okl,h.rt,b1.trans h.ps,h.tk,?_,b2⟩
 have:=h.cn
 show 0<=IntKind.i64.wrap (jy s+1)/\IntKind.i64.wrap (jy s+1)<=K+1
 rw[aQ ab ab];omega
theorem IP{B:Int->Int->ad}{E:Int->Int}{w:dL}{own:Int}{K:Int}(hx:pJ w.1)(hs:iG w.1 w.2.1 K)(hK:0<=K/\K<=2199023255552)(ha:0<=w.2.2.2.1/\w.2.2.2.1<=1125899906842624) :
  iG w.1 (dC B E w own).1 (K+1):=by
 have ht:=TR hx.bk hs.tk ha
 unfold dC
 split
 .exact hs.more ab
 split
 .exact hs.more ab
 split
 .exact hs.more ab
 split
 .exact (hs.tok ht.1).more ab
 .exact ((hs.tok ht.1).sent hK (AP _ _)).pick _
theorem Wu{x:ar}{s:bY}{link at':Int}{b:ad}{K:Int}(hx:pJ x)(hs:iG x s K)(hK:0<=K/\K<=2199023255552)(ha:0<=at'∧at'<=1125899906842624):iG x (fC x s link at' b).1 (K+1):=by
 have m:iG x s (K+1):=hs.more ab
 unfold fC gw
 split
 .exact m
 split
 .unfold ij;split
  .exact m
  .exact IP (w:=vB (x,s,link,at',b,oV) (aP b).1) hx hs hK ha
 split
 .exact m
 .unfold eG;split
  .exact IP (w:=vB (x,s,link,at',b,oV) (aP b).1) hx hs hK ha
  split
  .split
   .exact m
   .exact IP (w:=vB (x,s,link,at',b,oV) (aP b).1) hx hs hK ha
  .exact m.pick _
theorem NF{x:ar}(hx:pJ x):iG x (lJ x) 0:=by
 obtain⟨h1,h2⟩:=uU hx.rt
 obtain⟨-,-,h3⟩:=yN hx.rt
 refine⟨h1,h2,λr hr=>(h3 r hr).2,qT,?_,⟨iE _,iE _⟩,λy hy=>by rw[List.eq_of_mem_replicate hy];exact⟨iE _,iE _⟩⟩
 show rB (jE x) (wR (jE x) 0)
 rw[aL9 hx.bk]
 refine⟨⟨aC,aC⟩,λk=>by rw[k];rfl,λk=>?_⟩
 have:=(Bg hx.bk).resolve_left k
 exact⟨by show 0<=_*_;omega,iE _⟩
def L7:Ct:=⟨[.val (.sl cJ)],[.own 93 cJ],λd=>[okL d.1],λd=>((d.1,()),())⟩
def TQ:bu L7.ps->bS:=(λd=>{loops:=(bm 3 (λS=>{ι:=Int,μ:=λi=>(d.1.length-i).toNat,inv:=λi=>0<=i/\i<=d.1.length,keep:=[3,8,9],slots:=λi=>[(10,.int .i64 i)],keepN:=[128]}) ci)})
def Eg(a:List aG) :=
 a.length<=maxLen/\ ∀(b:aG),b∈a->((0<=b.1.1/\b.1.1<=4294967295)/\aj b.1.2)/\(b.2.1.length<=maxLen/\ ∀(c:Int),c∈b.2.1->aj c)/\aj b.2.2
theorem VX :
 ∀(a:List aG),(Eg a)/\True->((ac a)<=134217728/\ ∀(b:Rt),b∈a->(ac b.2.1)<=1099511627776)->(ac a)<=134217728/\(∃(b:Int),(0<=b/\b<=(ac a))/\(ac a)=(ac a)/\0=b/\a=a/\True)/\ ∀(b:Int),0<=b/\b<=(ac a)->ao (decide (b<(ac a))) (0<=b/\b<(ac a)/\((length (ah a b).2.1):Int)<=1099511627776/\0<=b/\b<(ac a)/\ ∃(c:Int),(0<=c/\c<=(ac a))/\toNat ((ac a) -c)<toNat ((ac a) -b)/\(ac a)=(ac a)/\ai (b+1)=c/\set a b.toNat (ah a b)=a/\True) (a=a):=by
  delta Eg ai ah ac;rintro l ⟨⟨hl,-⟩,-⟩⟨h1,h2⟩;simp only[maxLen] at hl;refine⟨h1,⟨0,⟨ab,ab⟩,aM⟩,?_⟩;rintro j ⟨j0,j1⟩;refine bt (λhj=>?_) (λhj=>?_)
  .refine⟨j0,hj,h2 _ (bW j0 hj),j0,hj,j+1,⟨ab,ab⟩,ab,?_⟩
   (repeat refine iK ?_);exact⟨tN j0 hj,bv⟩
  .rfl
theorem Nk:aD 108 L7.spec:=aH Tryz.func108 (au (au aE L6) zj) TQ VX
def V2:Ct:=⟨[.agg bN],[.agg i7],λd=>[okL (bf d.1),((aA d.1).length:Int)<=1000000],λd=>((lJ d.1,()),())⟩
def CA(a:ar) :=
 (a.2.2.2.2.1,(0:Int),List.replicate (toNat (ac a.1)) (0:Int),(w (a.2.2.2.2.2.2.2.2.2.2.1.1*a.2.2.2.2.2.2.2.2.2.2.1.2),(0:Int)),(0:Int))=lJ a
theorem ap7 :
 ∀(a:ar),CT.wf bN a/\True->okL (bf a)/\((length (aA a)):Int)<=1000000->0<=(ac a.1)/\(ac a.1)<=(ac a.1)/\(↑(8:Nat):Int)*(ac a.1)<=281474976710656/\okL a.2.2.2.2.1/\(CA a):=by
  delta CA ac;rintro d-⟨h,hl⟩;have hl:(d.1.length:Int)<=1000000:=hl;exact⟨ab,ab,ab,h,rfl⟩
theorem aI8:aD 49 V2.spec:=aH Tryz.func49 (au (au aE Ul) Nk) aR ap7
def SL:Ct:=⟨[.agg bN,.agg i7,.val cI,.val cI,.val (.sl bz)],[.agg i7,.agg uG,.val cI],λd=>[cK (bn d.2.1),okL (bn d.2.1),((fD d.2.1).length:Int)<=1000000,(d.2.2.2.2.1.length:Int)<=1000000],λd=>(((fC d.1 d.2.1 d.2.2.1 d.2.2.2.1 d.2.2.2.2.1).1,(fC d.1 d.2.1 d.2.2.1 d.2.2.2.1 d.2.2.2.2.1).2.1,(fC d.1 d.2.1 d.2.2.1 d.2.2.2.1 d.2.2.2.2.1).2.2,()),())⟩
def CE(b:List aG)(c:Int)(d:ad)(e f g h i:Int)(j:ad) :=
 ((b.length<=maxLen/\ ∀(k:aG),k∈b->((0<=k.1.1/\k.1.1<=4294967295)/\aj k.1.2)/\(k.2.1.length<=maxLen/\ ∀(l:Int),l∈k.2.1->aj l)/\aj k.2.2)/\aj c/\(d.length<=maxLen/\ ∀(k:Int),k∈d->aj k)/\(aj e/\aj f)/\aj g)/\aj h/\aj i/\(j.length<=maxLen/\ ∀(k:Int),k∈j->0<=k/\k<=255)/\True
def gK(a:ar)(b:List aG)(c:Int)(d:ad)(e f g h i:Int)(j:ad) :=
 fC a (b,c,d,(e,f),g) h i j
def AM(a:ar)(b:List aG)(c:Int)(d:ad)(e f g h i:Int)(j:ad) :=
 (a,(b,c,d,(e,f),g),h,i,j,(0:Int),(0:Int),(0:Int),(0:Int),false,(0:Int),(0:Int))
theorem ZC :
 ∀(a:ar)(b:List aG)(c:Int)(d:ad)(e f g h i:Int)(j:ad),CT.wf bN a/\(CE b c d e f g h i j)->cK (bn (b,c,d,(e,f),g))/\okL (bn (b,c,d,(e,f),g))/\((length (fD (b,c,d,(e,f),g))):Int)<=1000000/\(ac j)<=1000000->(ac d)<=1099511627776/\okL b/\oI (AM a b c d e f g h i j)/\(gw (AM a b c d e f g h i j)).1=(gK a b c d e f g h i j).1/\(gw (AM a b c d e f g h i j)).2.1=(gK a b c d e f g h i j).2.1/\(gw (AM a b c d e f g h i j)).2.2=(gK a b c d e f g h i j).2.2:=by
  delta CE gK AM ac;rintro d x x1 x2 x3 x4 x5 x6 x7 x8-⟨hs,hl,hp,hb⟩;have e2:fD (x,x1,x2,(x3,x4),x5)=x2:=rfl;rw[e2] at hp;exact⟨ab,hl,⟨hs,hl,hb⟩,rfl,rfl,rfl⟩
theorem Uo:aD 121 SL.spec:=aH Tryz.func121 (au (au (au aE zj) Nk) UF) aR ZC
def ag6:Ct:=⟨[.agg sw,.val cI],[.agg ob],λ_=>[],λd=>((wR d.1 d.2.1,()),())⟩
theorem aB1 :
 ∀(a b c:Int),(aj a/\aj b)/\aj c/\True->True->(ai (a*b),c)=wR (a,b) c:=by
  delta ai
  intros;rfl
theorem ZG:aD 116 ag6.spec:=aH Tryz.func116 aE aR aB1
def aj7:Ct:=⟨[.agg sw,.agg ob,.val cI],[.agg ob],λ_=>[],λd=>((if d.2.1.2<d.2.2.1 then (min (w (w (d.2.1.1+d.2.2.1)-d.2.1.2)) (w (d.1.1*d.1.2)),d.2.2.1) else d.2.1,()),())⟩
theorem a00 :
 ∀(a b c d e:Int),(aj a/\aj b)/\(aj c/\aj d)/\aj e/\True->True->ao (decide (d<e)) ((min (ai (ai (c+e) -d)) (ai (a*b)),e)=if d<e then (min (w (w (c+e) -d)) (w (a*b)),e) else (c,d)) ((c,d)=if d<e then (min (w (w (c+e) -d)) (w (a*b)),e) else (c,d)):=by
  delta ai;intro a b c d e _ _;refine bt (λh=>?_) (λh=>?_)
  .rw[am h]
  .rw[af h]
theorem aw1:aD 250 aj7.spec:=aH Tryz.func250 aE aR a00
def aT1:Ct:=⟨[.agg sw,.agg ob,.val cI],[.agg ob,.val .bool],λd=>[gu d.1=0,rB d.1 d.2.1,0<=d.2.2.1,d.2.2.1<=1125899906842624],λd=>(((gm d.1 d.2.1 d.2.2.1).1,(gm d.1 d.2.1 d.2.2.1).2,()),())⟩
def A7(a b c d e:Int) :=
 if d<e then (min (w (w (c+e) -d)) (w (a*b)),e) else (c,d)
theorem Zh :
 ∀(a b c d e:Int),(aj a/\aj b)/\(aj c/\aj d)/\aj e/\True->gu (a,b)=0/\rB (a,b) (c,d)/\0<=e/\e<=1125899906842624->ao (decide ((A7 a b c d e).1<b)) ((A7 a b c d e)=(gm (a,b) (c,d) e).1/\false=(gm (a,b) (c,d) e).2) ((ai ((A7 a b c d e).1 -b),(A7 a b c d e).2)=(gm (a,b) (c,d) e).1/\true=(gm (a,b) (c,d) e).2):=by
  delta A7 ai;rintro a b c e x-⟨hb,ht,hx0,hx1⟩;have key:BT (a,b) (c,e) x=gm (a,b) (c,e) x:=ZR hb ht ⟨hx0,hx1⟩;unfold BT at key;show ao (decide ((qi (a,b) (c,e) x).1<b)) (qi (a,b) (c,e) x=(gm (a,b) (c,e) x).1/\false=(gm (a,b) (c,e) x).2) ((w ((qi (a,b) (c,e) x).1-b),(qi (a,b) (c,e) x).2)=(gm (a,b) (c,e) x).1/\true=(gm (a,b) (c,e) x).2);rw[← key];refine bt (λh=>?_) (λh=>?_)
  .rw[am h];exact⟨rfl,rfl⟩
  .rw[af h];exact⟨rfl,rfl⟩
theorem aY4:aD 226 aT1.spec:=aH Tryz.func226 (au aE aw1) aR Zh
def YL:Ct:=⟨[.val (.sl bz)],[.own 5 bz,.val cI],λd=>[(d.1.length:Int)<=1099511627776],λd=>((gU d.1,gp d.1,()),())⟩
def JP(a:ad) :=
 (((aP a).1.1,(aP a).1.2.1,ai ((aP a).1.2.2.1 -1),(aP a).1.2.2.2),(aP a).2)
theorem aB3 :
 ∀(a:ad),(a.length<=maxLen/\ ∀(b:Int),b∈a->0<=b/\b<=255)/\True->(ac a)<=1099511627776->(ac a)<=1099511627776/\ao (! decide (bT a=0)) (([]:ad)=gU a/\bT a=gp a) (ao (decide ((aP a).1.2.2.1<2)) (([]:ad)=gU a/\7=gp a) (((length (aP a).2):Int)<=1073741824/\dE (JP a)=gU a/\fg (JP a)=gp a)):=by
  delta JP ai ac;rintro b ⟨⟨hl,hb⟩,-⟩ h;refine⟨h,av (λk=>?_) (λk=>?_)⟩
  .have k:bT b≠0:=by simpa using k
   have e:gp b=bT b:=by unfold gp;rw[am k]
   exact⟨by unfold gU;rw[e,af k],e.symm⟩
  have k:bT b=0:=by simpa using k
  have ed:aP b=(cf b,b.drop 20):=by unfold aP;rw[am k]
  rw[ed];refine av (λq=>?_) (λq=>?_)
  .have q:(cf b).2.2.1<2:=aL q;have e:gp b=7:=by unfold gp;rw[af (by simp[k]),am q]
   exact⟨by unfold gU;rw[e];rfl,e.symm⟩
  have q:¬ (cf b).2.2.1<2:=aO q;have e:gp b=0:=by unfold gp;rw[af (by simp[k]),af q]
  have ht:(cf b).2.2.1<=255:=(OQ hb (AR k)).2.1.2;have hw:IntKind.wrap IntKind.i64 ((cf b).2.2.1-1)=(cf b).2.2.1-1:=aQ ab ab;refine⟨by have:=tc k;simp only[dR];omega,?_,?_⟩
  .unfold gU;rw[am e];show dE (((cf b).1,(cf b).2.1,IntKind.wrap IntKind.i64 ((cf b).2.2.1-1),(cf b).2.2.2),b.drop 20)=_;rw[hw];rfl
  .rw[e];show fg (((cf b).1,(cf b).2.1,IntKind.wrap IntKind.i64 ((cf b).2.2.1-1),(cf b).2.2.2),b.drop 20)=0;rw[hw];unfold fg;have:=tc k;rw[af (λhh=>hh (PH hb k q)),af (by simp only[dR];omega)]
theorem ag1:aD 182 YL.spec:=aH Tryz.func182 (au (au aE Bx) Fc) aR aB3
def P9:Ct:=⟨[.val (.sl cJ)],[.own 93 cJ],λd=>[okL d.1],λd=>((d.1,()),())⟩
def TZ:bu P9.ps->bS:=(λd=>{loops:=(bm 3 (λS=>{ι:=Int×(List Rt),qn:=fj,μ:=λi=>(d.1.length-i.1).toNat,inv:=λi=>0<=i.1/\i.1<=d.1.length/\i.2=d.1.take i.1.toNat,keep:=[0],slots:=λi=>[(3,.own 524288 4),(4,.int .i64 i.1)],names:=λi=>[(524288,.live (.row 93 cJ i.2))]}) ci)})
theorem Tl :
 ∀(a:List aG),(Eg a)/\True->((ac a)<=134217728/\ ∀(b:Rt),b∈a->(ac b.2.1)<=1099511627776)->(∃(b:Int) (c:List Rt),(0<=b/\b<=(ac a)/\c=take b.toNat a)/\a=a/\0=b/\c=([]:List aG)/\True)/\ ∀(b:Int)(c:List Rt),0<=b/\b<=(ac a)/\c=take b.toNat a->ao (decide (b<(ac a))) (0<=b/\b<(ac a)/\((length (ah a b).2.1):Int)<=1099511627776/\(c.length+length [ah a b])*(48:Nat)<=(140737488355328:Nat)/\ ∃(d:Int) (e:List Rt),(0<=d/\d<=(ac a)/\e=take d.toNat a)/\toNat ((ac a) -d)<toNat ((ac a) -b)/\a=a/\ai (b+1)=d/\c++[ah a b]=e/\True) (c=a):=by
  delta Eg ai ah ac;rintro l ⟨⟨hl,-⟩,-⟩⟨h1,h2⟩;simp only[maxLen] at hl;refine⟨⟨0,[],⟨ab,ab,rfl⟩,aM⟩,?_⟩;rintro j m ⟨j0,j1,rfl⟩;refine bt (λhj=>?_) (λhj=>?_)
  .refine⟨j0,hj,h2 _ (bW j0 hj),by simp only[cW,cQ,List.length_nil];omega,j+1,_,⟨ab,ab,rfl⟩,ab,?_⟩
   (repeat refine iK ?_);exact⟨(uM j0 hj).symm,bv⟩
  .rw[dm ab]
theorem QY:aD 46 P9.spec:=aH Tryz.func46 (au aE AQ) TZ Tl
def Xf:Ct:=⟨[.agg bN],[.agg i7],λd=>[okL (bf d.1),((aA d.1).length:Int)<=1000000],λd=>((lJ d.1,()),())⟩
theorem Wx :
 ∀(a:ar),CT.wf bN a/\True->okL (bf a)/\((length (aA a)):Int)<=1000000->okL a.2.2.2.2.1/\0<=(ac a.1)/\(ac a.1)<=(ac a.1)/\(↑(8:Nat):Int)*(ac a.1)<=281474976710656/\(CA a):=by
  delta CA ac;rintro d-⟨h,hl⟩;have hl:(d.1.length:Int)<=1000000:=hl;exact⟨h,ab,ab,ab,rfl⟩
theorem aO5:aD 55 Xf.spec:=aH Tryz.func55 (au (au aE ZG) QY) aR Wx
def YA:Ct:=⟨[.agg i7],[.agg CP],λd=>[okL (bn d.1),((fD d.1).length:Int)<=1000000],λd=>((d.1,()),())⟩
theorem ad7 :
 ∀(a:List aG)(b:Int)(c:ad)(d e f:Int),((a.length<=maxLen/\ ∀(g:aG),g∈a->((0<=g.1.1/\g.1.1<=4294967295)/\aj g.1.2)/\(g.2.1.length<=maxLen/\ ∀(h:Int),h∈g.2.1->aj h)/\aj g.2.2)/\aj b/\(c.length<=maxLen/\ ∀(g:Int),g∈c->aj g)/\(aj d/\aj e)/\aj f)/\True->okL (bn (a,b,c,(d,e),f))/\((length (fD (a,b,c,(d,e),f))):Int)<=1000000->okL a/\c.length*(8:Nat)<=(140737488355328:Nat)/\(a,b,c,(d,e),f)=(a,b,c,(d,e),f):=by
  rintro x x1 x2 x3 x4 x5-⟨h1,h2⟩;have e2:fD (x,x1,x2,(x3,x4),x5)=x2:=rfl;rw[e2] at h2;exact⟨h1,ab,rfl⟩
theorem RW:aD 180 YA.spec:=aH Tryz.func180 (au aE QY) aR ad7
def av8:Ct:=⟨[.agg i7,.val cy],[.agg cJ,.val .bool],λd=>[okL (bn d.1)],λd=>((bw (bn d.1) d.2.1,fm d.1 d.2.1,()),())⟩
theorem Vb :
 ∀(a:List aG)(b:Int)(c:ad)(d e f g:Int),((a.length<=maxLen/\ ∀(h:aG),h∈a->((0<=h.1.1/\h.1.1<=4294967295)/\aj h.1.2)/\(h.2.1.length<=maxLen/\ ∀(i:Int),i∈h.2.1->aj i)/\aj h.2.2)/\aj b/\(c.length<=maxLen/\ ∀(h:Int),h∈c->aj h)/\(aj d/\aj e)/\aj f)/\(0<=g/\g<=4294967295)/\True->(((length (bn (a,b,c,(d,e),f))):Int)<=134217728/\ ∀(h:Rt),h∈bn (a,b,c,(d,e),f)->(ac h.2.1)<=1099511627776)->okL a/\ ∀(h:Bool),h=kO a g->(ae h)/\(ae h)/\(ae h)/\(aq h)/\bw a g=bw (bn (a,b,c,(d,e),f)) g/\(bif h then decide (0<((length (bw a g).2.1):Int)) else false)=fm (a,b,c,(d,e),f) g:=by
  delta ae aq ac;rintro x x1 x2 x3 x4 x5 a-h;refine⟨h,?_⟩
  (repeat (refine bO ?_;repeat refine bP ?_));refine⟨rfl,?_⟩;show (bif kO x a then decide (0<((bw x a).2.1.length:Int)) else false)=(kO x a&&decide (0<(bw x a).2.1.length))
  cases kO x a <;> simp
theorem RC:aD 179 av8.spec:=aH Tryz.func179 (au aE ag5) aR Vb
def Vz:Ct:=⟨[.agg bN,.ago CP,.agg cJ,.agg uP],[.agg CP,.val cI],λd=>[d.2.2.1.2.1≠[]],λd=>((dq d.2.1 d.2.2.1,fR d.1 d.2.1 d.2.2.1 d.2.2.2.1,()),())⟩
theorem aX5 :
 ∀(a:ar)(b:List aG)(c:Int)(d:ad)(e f g h i:Int)(j:ad)(k l m n o p:Int),CT.wf bN a/\((b.length<=maxLen/\ ∀(q:aG),q∈b->((0<=q.1.1/\q.1.1<=4294967295)/\aj q.1.2)/\(q.2.1.length<=maxLen/\ ∀(r:Int),r∈q.2.1->aj r)/\aj q.2.2)/\aj c/\(d.length<=maxLen/\ ∀(q:Int),q∈d->aj q)/\(aj e/\aj f)/\aj g)/\(((0<=h/\h<=4294967295)/\aj i)/\(j.length<=maxLen/\ ∀(q:Int),q∈j->aj q)/\aj k)/\((0<=l/\l<=4294967295)/\(0<=m/\m<=4294967295)/\aj n/\aj o/\aj p)/\True->(j=([]:ad)->False)->ao (decide ((ac j)=1)) ((0:Int)<=0/\0<(ac j)/\(b,c,d,(e,f),g)=dq (b,c,d,(e,f),g) ((h,i),j,k)/\ah j (0:Int)=fR a (b,c,d,(e,f),g) ((h,i),j,k) (l,m,n,o,p)) (0<=(ik k a.2.2.2.2.2.2.2.2.2.2.2.2.2.2 (l,m,n,o,p) g (ac j)).1/\(ik k a.2.2.2.2.2.2.2.2.2.2.2.2.2.2 (l,m,n,o,p) g (ac j)).1<(ac j)/\(b,c,d,(e,f),ai (g+1))=dq (b,c,d,(e,f),g) ((h,i),j,k)/\j.getD (toNat (ik k
 a.2.2.2.2.2.2.2.2.2.2.2.2.2.2 (l,m,n,o,p) g (ac j)).1) default=fR a (b,c,d,(e,f),g) ((h,i),j,k) (l,m,n,o,p)):=by
  delta ai ah ac;rintro d x x1 x2 x3 x4 x5 r1 r2 nx bl k1 k2 k3 k4 k5-hn;have hpos:1<=(nx.length:Int):=by cases nx with
   | nil=>exact absurd rfl hn
   | cons a l=>simp;omega
  refine bt (λh1=>?_) (λh1=>?_)
  .have h1':nx.length=1:=ab;refine⟨ab,ab,?_,?_⟩
   .unfold dq;rw[am h1']
   .unfold fR;rw[am h1'];rfl
  .have h1':¬ nx.length=1:=ab;have hc:=FJ (way:=bl) (seed:=d.2.2.2.2.2.2.2.2.2.2.2.2.2.2) (k:=(k1,k2,k3,k4,k5)) (count:=x5) hpos;refine⟨hc.1,hc.2,?_,?_⟩
   .unfold dq;rw[af h1'];rfl
   .unfold fR;rw[af h1'];rfl
theorem PR:aD 181 Vz.spec:=aH Tryz.func181 (au aE UK) aR aX5
def W6:Ct:=⟨[.val (.sl bz),.val cI,.val cy,.val cI,.val cI],[.own 5 bz,.val cI],λd=>[(d.1.length:Int)<=1000000],λd=>((if d.2.1=2 then eT d.1 d.2.2.1 11 0 d.2.2.2.1 d.2.2.2.2.1 else if d.2.1=3 then eT d.1 d.2.2.1 3 0 d.2.2.2.1 d.2.2.2.2.1 else fZ d.1 d.2.2.1 d.2.2.2.1 d.2.2.2.2.1,if d.2.1=2 then dS d.1 11 0 d.2.2.2.1 d.2.2.2.2.1 else if d.2.1=3 then dS d.1 3 0 d.2.2.2.1 d.2.2.2.2.1 else eh d.1 d.2.2.2.1 d.2.2.2.2.1,()),())⟩
theorem ao0 :
 ∀(a:ad)(b c d e:Int),(a.length<=maxLen/\ ∀(f:Int),f∈a->0<=f/\f<=255)/\aj b/\(0<=c/\c<=4294967295)/\aj d/\aj e/\True->(ac a)<=1000000->ao (decide (b=2)) ((ac a)<=1099511627776/\(eT a c (11:Int) (0:Int) d e=if b=2 then eT a c (11:Int) (0:Int) d e else if b=3 then eT a c (3:Int) (0:Int) d e else fZ a c d e)/\dS a (11:Int) (0:Int) d e=if b=2 then dS a (11:Int) (0:Int) d e else if b=3 then dS a (3:Int) (0:Int) d e else eh a d e) (ao (decide (b=3)) ((ac a)<=1099511627776/\(eT a c (3:Int) (0:Int) d e=if b=2 then eT a c (11:Int) (0:Int) d e else if b=3 then eT a c (3:Int) (0:Int) d e else fZ a c d e)/\dS a (3:Int) (0:Int) d e=if b=2 then dS a (11:Int) (0:Int) d e else if b=3 then dS a (3:Int) (0:Int) d e else eh a d e) ((ac a)<=1099511627776/\(fZ a c d e=if b=2 then eT a c (11:Int) (0:Int) d e else if b=3 then eT a c (3:Int) (0:Int) d e
 else fZ a c d e)/\eh a d e=if b=2 then dS a (11:Int) (0:Int) d e else if b=3 then dS a (3:Int) (0:Int) d e else eh a d e)):=by
  delta ac;rintro b k f i t-hb;refine av (λh1=>?_) (λh1=>?_)
  .rw[am (aL h1),am (aL h1)];exact⟨ab,rfl,rfl⟩
  have h1:=aO h1;refine av (λh2=>?_) (λh2=>?_)
  .rw[af h1,am (aL h2),af h1,am (aL h2)];exact⟨ab,rfl,rfl⟩
  have h2:=aO h2;rw[af h1,af h2,af h1,af h2];exact⟨ab,rfl,rfl⟩
theorem Vu:aD 225 W6.spec:=aH Tryz.func225 (au (au aE Ky) Rv) aR ao0
theorem u3(s:bY)(r:Rt):dq s r=(s.1,s.2.1,s.2.2.1,s.2.2.2.1,i9 (dq s r)):=by unfold dq;split <;> rfl
theorem NR{s s':bY}(h:i9 s=i9 s')(r:Rt):i9 (dq s r)=i9 (dq s' r):=by
 unfold dq;split
 .exact h
 .show IntKind.i64.wrap (i9 s+1)=IntKind.i64.wrap (i9 s'+1);rw[h]
theorem R7(k:Int)(w:dL)(f i:Int):((kB k w f i).length:Int)<=1500:=by
 unfold kB;split
 .exact IJ ..
 .split
  .exact IJ ..
  .exact PL ..
theorem aS4(a:Int):max 0 a=max a 0:=by omega
theorem zV{r:nE}{s:bY}{o:Int×ad}{y:Int}(e:r=(s,o,y)):s=r.1/\o=r.2.1/\y=r.2.2:=by subst e;exact⟨rfl,rfl,rfl⟩
def QX:Ct:=⟨[.agg bN,.agg i7,.val cI,.val cI,.val (.sl bz),.val cI],[.agg i7,.agg uG,.val cI],λd=>[ud d.1 d.2.1 d.2.2.2.1 d.2.2.2.2.1,d.2.2.2.2.2.1=0->f9 (aP d.2.2.2.2.1).1≠0],λd=>(((fi (cE d.1 d.2.1 d.2.2.1 d.2.2.2.1 d.2.2.2.2.1) d.2.2.2.2.2.1).1,(fi (cE d.1 d.2.1 d.2.2.1 d.2.2.2.1 d.2.2.2.2.1) d.2.2.2.2.2.1).2.1,(fi (cE d.1 d.2.1 d.2.2.1 d.2.2.2.1 d.2.2.2.2.1) d.2.2.2.2.2.1).2.2,()),())⟩
def aF0:bu QX.ps->bS:=(λd=>{cuts:=(bm 26 (λS=>{ι:=Int×Int,qn:=fj,inv:=λi=>fi (cE d.1 d.2.1 d.2.2.1 d.2.2.2.1 d.2.2.2.2.1) d.2.2.2.2.2.1=(dq (jc (cE d.1 d.2.1 d.2.2.1 d.2.2.2.1 d.2.2.2.2.1)) (fJ (cE d.1 d.2.1 d.2.2.1 d.2.2.2.1 d.2.2.2.2.1)),(gP (kB d.2.2.2.2.2.1 (cE d.1 d.2.1 d.2.2.1 d.2.2.2.1 d.2.2.2.2.1)) (cE d.1 d.2.1 d.2.2.1 d.2.2.2.1 d.2.2.2.2.1),kB d.2.2.2.2.2.1 (cE d.1 d.2.1 d.2.2.1 d.2.2.2.1 d.2.2.2.2.1) i.1 (ig (cE d.1 d.2.1 d.2.2.1 d.2.2.2.1 d.2.2.2.2.1))),2)/\i.2=i9 (dq d.2.1 (fJ (cE d.1 d.2.1 d.2.2.1 d.2.2.2.1 d.2.2.2.2.1))),keep:=[2,3,4,5,6,7,12,13,18],slots:=λi=>[(24,.int .i64 (gP (kB d.2.2.2.2.2.1 (cE d.1 d.2.1 d.2.2.1 d.2.2.2.1 d.2.2.2.2.1)) (cE d.1 d.2.1 d.2.2.1 d.2.2.2.1 d.2.2.2.2.1))),(25,.int .u32 i.1)],keepN:=[112,208,224,304],names:=λi=>[(128,.live (.cells 123 ([.dsl cJ (bn d.2.1),.int .i64 (jy d.2.1),.own 524288 1]++(cR ob (fP (cE d.1 d.2.1 d.2.2.1 d.2.2.2.1 d.2.2.2.2.1)).1++[.int .i64 i.2])))),(524288,.live (.row 3 cI (fD d.2.1)))]}) ci)})
def qS(b:List aG)(c:Int)(d:ad)(e f g:Int)(j:ad) :=
 bw (bn (b,c,d,(e,f),g)) (aP j).1.2.2.2.2.2.1
def qH(a:ar)(e f i:Int) :=
 gm a.2.2.2.2.2.2.2.2.2.2.1 (e,f) i
def xj(a:ar)(b:List aG)(c:Int)(d:ad)(e f g i:Int)(j:ad) :=
 dq (b,c,d,(qH a e f i).1,g) (qS b c d e f g j)
def yI(a:ar)(b:List aG)(c:Int)(d:ad)(e f g h i:Int)(j:ad)(n:Int) :=
 a.1=a.1/\a.2.1=a.2.1/\a.2.2.1=a.2.2.1/\a.2.2.2.1=a.2.2.2.1/\a.2.2.2.2.1=a.2.2.2.2.1/\a.2.2.2.2.2.1=a.2.2.2.2.2.1/\a.2.2.2.2.2.2.1=a.2.2.2.2.2.2.1/\a.2.2.2.2.2.2.2.1=a.2.2.2.2.2.2.2.1/\a.2.2.2.2.2.2.2.2.1=a.2.2.2.2.2.2.2.2.1/\a.2.2.2.2.2.2.2.2.2.1=a.2.2.2.2.2.2.2.2.2.1/\a.2.2.2.2.2.2.2.2.2.2.1.1=a.2.2.2.2.2.2.2.2.2.2.1.1/\a.2.2.2.2.2.2.2.2.2.2.1.2=a.2.2.2.2.2.2.2.2.2.2.1.2/\a.2.2.2.2.2.2.2.2.2.2.2.1=a.2.2.2.2.2.2.2.2.2.2.2.1/\a.2.2.2.2.2.2.2.2.2.2.2.2.1=a.2.2.2.2.2.2.2.2.2.2.2.2.1/\a.2.2.2.2.2.2.2.2.2.2.2.2.2.1=a.2.2.2.2.2.2.2.2.2.2.2.2.2.1/\a.2.2.2.2.2.2.2.2.2.2.2.2.2.2=a.2.2.2.2.2.2.2.2.2.2.2.2.2.2/\(0:Int)=0/\(0:Int)=0/\(0:Int)=0/\(0:Int)=0/\(0:Int)=0/\(aP j).1.1=(aP j).1.1/\(aP j).1.2.1=(aP j).1.2.1/\(aP j).1.2.2.1=(aP j).1.2.2.1/\(aP j).1.2.2.2.1=(aP j).1.2.2.2.1/\(aP j).1.2.2.2.2.1=(aP j).1.2.2.2.2.1/\(aP j).1.2.2.2.2.2.1=(aP
 j).1.2.2.2.2.2.1/\(aP j).1.2.2.2.2.2.2=(aP j).1.2.2.2.2.2.2/\(aP j).2=(aP j).2/\(xj a b c d e f g i j).1=bn (b,c,d,(e,f),g)/\(xj a b c d e f g i j).2.1=jy (b,c,d,(e,f),g)/\(xj a b c d e f g i j).2.2.2.1.1=(fP (cE a (b,c,d,(e,f),g) h i j)).1.1/\(xj a b c d e f g i j).2.2.2.1.2=(fP (cE a (b,c,d,(e,f),g) h i j)).1.2/\(xj a b c d e f g i j).2.2.2.2=n/\(xj a b c d e f g i j).2.2.1=fD (b,c,d,(e,f),g)/\True
def Bq(a:ar)(h:Int) :=
 getD a.1 (toNat (max (0:Int) (cG a h))) default
def tB(a:ar)(h:Int)(j:ad)(k:Int) :=
 if k=2 then eT j (Bq a h).1 (11:Int) (0:Int) (0:Int) a.2.2.2.2.2.2.2.2.2.2.2.2.2.1 else if k=3 then eT j (Bq a h).1 (3:Int) (0:Int) (0:Int) a.2.2.2.2.2.2.2.2.2.2.2.2.2.1 else fZ j (Bq a h).1 (0:Int) a.2.2.2.2.2.2.2.2.2.2.2.2.2.1
def IU(a:ar)(b:List aG)(c:Int)(d:ad)(e f g h i:Int)(j:ad)(k m:Int) :=
 (dq (jc (cE a (b,c,d,(e,f),g) h i j)) (fJ (cE a (b,c,d,(e,f),g) h i j)),(gP (kB k (cE a (b,c,d,(e,f),g) h i j)) (cE a (b,c,d,(e,f),g) h i j),kB k (cE a (b,c,d,(e,f),g) h i j) m (ig (cE a (b,c,d,(e,f),g) h i j))),(2:Int))
def zq(a:ar)(b:List aG)(c:Int)(d:ad)(e f g h i:Int)(j:ad)(k m n:Int) :=
 fi (cE a (b,c,d,(e,f),g) h i j) k=(IU a b c d e f g h i j k m)/\n=i9 (dq (b,c,d,(e,f),g) (fJ (cE a (b,c,d,(e,f),g) h i j)))
def Eb(a:ar)(b:List aG)(c:Int)(d:ad)(e f g h i:Int)(j:ad)(n:Int) :=
 pM a (bn (b,c,d,(e,f),g),jy (b,c,d,(e,f),g),fD (b,c,d,(e,f),g),(fP (cE a (b,c,d,(e,f),g) h i j)).1,n) (max (0:Int) (cG a h)) i (aP j).1.2.1 (aP j).1.2.2.2.2.2.1
def si :=
 ((0:Int),([]:ad))
theorem SO :
 ∀(a:ar)(b:List aG)(c:Int)(d:ad)(e f g h i:Int)(j:ad)(k:Int),CT.wf bN a/\((b.length<=maxLen/\ ∀(l:aG),l∈b->((0<=l.1.1/\l.1.1<=4294967295)/\aj l.1.2)/\(l.2.1.length<=maxLen/\ ∀(m:Int),m∈l.2.1->aj m)/\aj l.2.2)/\aj c/\(d.length<=maxLen/\ ∀(l:Int),l∈d->aj l)/\(aj e/\aj f)/\aj g)/\aj h/\aj i/\(j.length<=maxLen/\ ∀(l:Int),l∈j->0<=l/\l<=255)/\aj k/\True->ud a (b,c,d,(e,f),g) i j/\(k=0->f9 (aP j).1≠(0:Int))-> ∀(l:Bool),l= ! decide (k=0)->(ae l)/\(aq l)/\ao (bif l then a.2.2.2.2.2.2.2.2.2.2.2.1 else false) ((b,c,d,(e,f),g)=(fi (cE a (b,c,d,(e,f),g) h i j) k).1/\(si)=(fi (cE a (b,c,d,(e,f),g) h i j) k).2.1/\4=(fi (cE a (b,c,d,(e,f),g) h i j) k).2.2) (0<=max (0:Int) (cG a h)/\max (0:Int) (cG a h)<(ac a.1)/\(ac j)<=1000000/\ao (! decide ((if k=2 then dS j (11:Int) (0:Int) (0:Int) a.2.2.2.2.2.2.2.2.2.2.2.2.2.1 else if k=3
 then dS j (3:Int) (0:Int) (0:Int) a.2.2.2.2.2.2.2.2.2.2.2.2.2.1 else eh j (0:Int) a.2.2.2.2.2.2.2.2.2.2.2.2.2.1)=0)) ((b,c,d,(e,f),g)=(fi (cE a (b,c,d,(e,f),g) h i j) k).1/\(si)=(fi (cE a (b,c,d,(e,f),g) h i j) k).2.1/\6=(fi (cE a (b,c,d,(e,f),g) h i j) k).2.2) ((ac j)<=1099511627776/\okL (bn (b,c,d,(e,f),g))/\ao (! fm (b,c,d,(e,f),g) (aP j).1.2.2.2.2.2.1) ((b,c,d,(e,f),g)=(fi (cE a (b,c,d,(e,f),g) h i j) k).1/\(si)=(fi (cE a (b,c,d,(e,f),g) h i j) k).2.1/\8=(fi (cE a (b,c,d,(e,f),g) h i j) k).2.2) (okL (bn (b,c,d,(e,f),g))/\((length (fD (b,c,d,(e,f),g))):Int)<=1000000/\gu a.2.2.2.2.2.2.2.2.2.2.1=0/\rB a.2.2.2.2.2.2.2.2.2.2.1 (e,f)/\0<=i/\i<=1125899906842624/\ao (! (qH a e f i).2) ((b,c,d,(qH a e f i).1,g)=(fi (cE a (b,c,d,(e,f),g) h i j) k).1/\(si)=(fi (cE a (b,c,d,(e,f),g) h i j) k).2.1/\5=(fi
 (cE a (b,c,d,(e,f),g) h i j) k).2.2) (((length (tB a h j k)):Int)<=1099511627776/\(qS b c d e f g j).2.1≠([]:ad)/\ao (decide (k=0)) (∃(m:Int) (n:Int),(zq a b c d e f g h i j k m n)/\h=h/\i=i/\j=j/\k=k/\fR a (b,c,d,(qH a e f i).1,g) (qS b c d e f g j) (dV (tB a h j k))=gP (kB k (cE a (b,c,d,(e,f),g) h i j)) (cE a (b,c,d,(e,f),g) h i j)/\(aP j).1.2.2.2.2.2.2=m/\(yI a b c d e f g h i j n)) (ao (decide (a.2.2.2.2.2.1=2)) (0<=cG a (fR a (b,c,d,(qH a e f i).1,g) (qS b c d e f g j) (dV (tB a h j k)))/\cG a (fR a (b,c,d,(qH a e f i).1,g) (qS b c d e f g j) (dV (tB a h j k)))<(ac a.1)/\ ∃(m:Int) (n:Int),(zq a b c d e f g h i j k m n)/\h=h/\i=i/\j=j/\k=k/\fR a (b,c,d,(qH a e f i).1,g) (qS b c d e f g j) (dV (tB a h j k))=gP (kB k (cE a (b,c,d,(e,f),g) h i j)) (cE a (b,c,d,(e,f),g) h i j)/\(getD a.1
 (toNat (cG a (fR a (b,c,d,(qH a e f i).1,g) (qS b c d e f g j) (dV (tB a h j k))))) default).1=m/\(yI a b c d e f g h i j n)) (ao (decide (a.2.2.2.2.2.1=3)) (∃(m:Int) (n:Int),(zq a b c d e f g h i j k m n)/\h=h/\i=i/\j=j/\k=k/\fR a (b,c,d,(qH a e f i).1,g) (qS b c d e f g j) (dV (tB a h j k))=gP (kB k (cE a (b,c,d,(e,f),g) h i j)) (cE a (b,c,d,(e,f),g) h i j)/\a.2.1=m/\(yI a b c d e f g h i j n)) (ao (decide (a.2.2.2.2.2.1=4)) (∃(m:Int) (n:Int),(zq a b c d e f g h i j k m n)/\h=h/\i=i/\j=j/\k=k/\fR a (b,c,d,(qH a e f i).1,g) (qS b c d e f g j) (dV (tB a h j k))=gP (kB k (cE a (b,c,d,(e,f),g) h i j)) (cE a (b,c,d,(e,f),g) h i j)/\a.2.2.2.2.2.2.1=m/\(yI a b c d e f g h i j n)) (∃(m:Int) (n:Int),(zq a b c d e f g h i j k m n)/\h=h/\i=i/\j=j/\k=k/\fR a (b,c,d,(qH a e f i).1,g) (qS b c d e f g j) (dV (tB a h j
 k))=gP (kB k (cE a (b,c,d,(e,f),g) h i j)) (cE a (b,c,d,(e,f),g) h i j)/\(Bq a h).1=m/\(yI a b c d e f g h i j n)))))/\ ∀(m n:Int),fi (cE a (b,c,d,(e,f),g) h i j) k=(IU a b c d e f g h i j k m)/\n=i9 (dq (b,c,d,(e,f),g) (fJ (cE a (b,c,d,(e,f),g) h i j)))->0<=max (0:Int) (cG a h)/\max (0:Int) (cG a h)<((length (fD (b,c,d,(e,f),g))):Int)/\0<=max (0:Int) (cG a h)/\max (0:Int) (cG a h)<((length (fD (b,c,d,(e,f),g))):Int)/\(ac j)<=1000000/\(bn (b,c,d,(e,f),g),ai (jy (b,c,d,(e,f),g)+1),set (fD (b,c,d,(e,f),g)) (toNat (max (0:Int) (cG a h))) (ai (getD (fD (b,c,d,(e,f),g)) (toNat (max (0:Int) (cG a h))) default+1)),(fP (cE a (b,c,d,(e,f),g) h i j)).1,n)=(fi (cE a (b,c,d,(e,f),g) h i j) k).1/\(gP (kB k (cE a (b,c,d,(e,f),g) h i j)) (cE a (b,c,d,(e,f),g) h i j),if k=2
 then eT j m (11:Int) (0:Int) (Eb a b c d e f g h i j n) a.2.2.2.2.2.2.2.2.2.2.2.2.2.1 else if k=3 then eT j m (3:Int) (0:Int) (Eb a b c d e f g h i j n) a.2.2.2.2.2.2.2.2.2.2.2.2.2.1 else fZ j m (Eb a b c d e f g h i j n) a.2.2.2.2.2.2.2.2.2.2.2.2.2.1)=(fi (cE a (b,c,d,(e,f),g) h i j) k).2.1/\2=(fi (cE a (b,c,d,(e,f),g) h i j) k).2.2)))):=by
  delta yI tB zq qS qH Eb Bq IU si xj ae aq ai ac;rintro d x x1 x2 x3 x4 x5 lk at' b ki-⟨⟨hn,hs,hat,hb⟩,hd⟩;have N:=B3 hn;have hi:max 0 (cG d lk)=bM d lk:=aS4 _;have hi0:=AP d lk;have hi1:=NN N lk;have hps:(fD (x,x1,x2,(x3,x4),x5)).length=(aA d).length:=hs.ps;have hbk:gu d.2.2.2.2.2.2.2.2.2.2.1=0:=N.bk;have htk:rB d.2.2.2.2.2.2.2.2.2.2.1 (x3,x4):=hs.tk;have hokl:okL (bn (x,x1,x2,(x3,x4),x5)):=hs.okl;have hP:(d.1.getD (bM d lk).toNat default).1=adr d (bM d lk):=(D0 hi0 hi1).symm;obtain⟨w,hw⟩:∃ w:dL,w=cE d (x,x1,x2,(x3,x4),x5) lk at' b:=⟨_,rfl⟩
  have hM:(if ki=2 then dS b 11 0 0 d.2.2.2.2.2.2.2.2.2.2.2.2.2.1 else if ki=3 then dS b 3 0 0 d.2.2.2.2.2.2.2.2.2.2.2.2.2.1 else eh b 0 d.2.2.2.2.2.2.2.2.2.2.2.2.2.1)=kE ki w 0:=by rw[hw];rfl
  have hB:(if ki=2 then eT b (adr d (bM d lk)) 11 0 0 d.2.2.2.2.2.2.2.2.2.2.2.2.2.1 else if ki=3 then eT b (adr d (bM d lk)) 3 0 0 d.2.2.2.2.2.2.2.2.2.2.2.2.2.1 else fZ b (adr d (bM d lk)) 0 d.2.2.2.2.2.2.2.2.2.2.2.2.2.1)=kB ki w (adr d (bM d lk)) 0:=by rw[hw];rfl
  have e1:d.2.2.2.2.2.2.2.2.2.2.2.1=jU w.1:=by rw[hw];rfl
  have e2:fm (x,x1,x2,(x3,x4),x5) (aP b).1.2.2.2.2.2.1=fm w.2.1 (lS w.2.2.2.2.2):=by rw[hw];rfl
  have e3:gm d.2.2.2.2.2.2.2.2.2.2.1 (x3,x4) at'=fP w:=by rw[hw];rfl
  have e4:bw (bn (x,x1,x2,(x3,x4),x5)) (aP b).1.2.2.2.2.2.1=fJ w:=by rw[hw];rfl
  have e5:fR d (x,x1,x2,(fP w).1,x5) (fJ w) (dV (kB ki w (adr d (bM d lk)) 0))=gP (kB ki w) w:=by rw[hw];rfl
  rw[← hw,hi,hP,hM,hB,e1,e2,e3,e4,e5];have eA:fi w ki=dC (kB ki w) (kE ki w) w (kv ki w):=rfl;intro bb hb0
  (repeat refine⟨(by first|(simp;done)|(rw[hb0];simp;done)|(cases bb <;> simp)),?_⟩);have kw:kv ki w=0↔ki≠0:=by
   unfold kv;by_cases k:ki=0
   .rw[am k];have:=hd k;constructor
    .intro q;exfalso;apply this;rw[hw] at q;exact q
    .intro q;exact absurd k q
   .rw[af k];simp[k]
  have hq:(bif bb then jU w.1 else false)=true↔kv ki w=0/\jU w.1=true:=by rw[hb0,kw];by_cases k:ki=0 <;> simp[k]
  have eS:(x,x1,x2,(x3,x4),x5)=w.2.1:=by rw[hw];rfl
  refine av (λh0=>?_) (λh0=>?_)
  .obtain⟨f1,f2,f3⟩:=zV (eA.trans (vW (hq.1 h0)));exact⟨by rw[← f1,hw];rfl,f2,f3⟩
  have h0:¬ (kv ki w=0/\jU w.1=true):=λk=>by rw[hq.2 k] at h0;cases h0
  refine⟨hi0,hi1,hb,av (λh1=>?_) (λh1=>?_)⟩
  .obtain⟨f1,f2,f3⟩:=zV (eA.trans (vU h0 (by simpa using h1)));exact⟨by rw[← f1,hw];rfl,f2,f3⟩
  have h1:¬ kE ki w 0≠0:=by simpa using h1
  refine⟨ab,hokl,av (λh2=>?_) (λh2=>?_)⟩
  .obtain⟨f1,f2,f3⟩:=zV (eA.trans (xh h0 h1 (by simpa using h2)));exact⟨by rw[← f1,hw];rfl,f2,f3⟩
  have h2:¬ fm w.2.1 (lS w.2.2.2.2.2)=false:=by simpa using h2
  refine⟨hokl,by have:=N.n32;omega,hbk,htk,hat.1,hat.2,?_⟩;refine av (λh3=>?_) (λh3=>?_)
  .obtain⟨f1,f2,f3⟩:=zV (eA.trans (wX h0 h1 h2 (by simpa using h3)));exact⟨by rw[← f1,hw];rfl,f2,f3⟩
  have h3:¬ (fP w).2=false:=by simpa using h3
  have eg:=eA.trans (wE h0 h1 h2 h3);have hne:(fJ w).2.1≠[]:=wN h2;have ep:=u3 (x,x1,x2,(fP w).1,x5) (fJ w);have ebal:i9 (dq (x,x1,x2,(fP w).1,x5) (fJ w))=i9 (dq (x,x1,x2,(x3,x4),x5) (fJ w)):=NR (s:=(x,x1,x2,(fP w).1,x5)) (s':=(x,x1,x2,(x3,x4),x5)) rfl _;have P1:(dq (x,x1,x2,(fP w).1,x5) (fJ w)).1=bn (x,x1,x2,(x3,x4),x5):=by rw[ep];rfl
  have P2:(dq (x,x1,x2,(fP w).1,x5) (fJ w)).2.1=jy (x,x1,x2,(x3,x4),x5):=by rw[ep];rfl
  have P3:(dq (x,x1,x2,(fP w).1,x5) (fJ w)).2.2.2.1.1=(fP w).1.1:=by rw[ep]
  have P4:(dq (x,x1,x2,(fP w).1,x5) (fJ w)).2.2.2.1.2=(fP w).1.2:=by rw[ep]
  have P5:(dq (x,x1,x2,(fP w).1,x5) (fJ w)).2.2.2.2=i9 (dq (x,x1,x2,(x3,x4),x5) (fJ w)):=ebal;have P6:(dq (x,x1,x2,(fP w).1,x5) (fJ w)).2.2.1=fD (x,x1,x2,(x3,x4),x5):=by rw[ep];rfl
  have ew1:w.1=d:=by rw[hw];rfl
  have ewI:bM w.1 w.2.2.1=bM d lk:=by rw[hw];rfl
  refine⟨by have:=R7 ki w (adr d (bM d lk)) 0;omega,hne,?_,?_⟩
  .refine av (λk0=>?_) (λk0=>?_)
   .have k0:=aL k0;have ef:je (kB ki w) w (kv ki w)=(aP b).1.2.2.2.2.2.2:=by
     unfold je;rw[af (λq=>kw.1 q k0)];unfold kv;rw[am k0,hw];rfl
    rw[ef] at eg;exact⟨_,_,⟨eg,rfl⟩,(by repeat' first|refine And.intro ?_ ?_|with_reducible exact trivial|with_reducible rfl|with_reducible exact P1|with_reducible exact P2|with_reducible exact P3|with_reducible exact P4|with_reducible exact P5|with_reducible exact P6|rfl)⟩
   have k0:=aO k0;have ef:je (kB ki w) w (kv ki w)=kx d (bM d lk) (gP (kB ki w) w):=by unfold je;rw[am (kw.2 k0),ewI,ew1]
   rw[ef] at eg;unfold kx lu at eg;refine av (λs2=>?_) (λs2=>?_)
   .have s2:=aL s2;rw[am s2] at eg;have hout:0<=cG d (gP (kB ki w) w):=by
     rw[← e5];have:=OK hs (a:=(aP b).1.2.2.2.2.2.1) (by rw[e2];exact h2) (x,x1,x2,(fP w).1,x5) (dV (kB ki w (adr d (bM d lk)) 0));rw[e4] at this;exact this
    have hlt:cG d (gP (kB ki w) w)<(aA d).length:=(tx hout).1;rw[D0 hout hlt] at eg;exact⟨hout,hlt,_,_,⟨eg,rfl⟩,(by repeat' first|refine And.intro ?_ ?_|with_reducible exact trivial|with_reducible rfl|with_reducible exact P1|with_reducible exact P2|with_reducible exact P3|with_reducible exact P4|with_reducible exact P5|with_reducible exact P6|rfl)⟩
   rw[af (aO s2)] at eg;refine av (λs3=>?_) (λs3=>?_)
   .rw[am (aL s3)] at eg;exact⟨_,_,⟨eg,rfl⟩,(by repeat' first|refine And.intro ?_ ?_|with_reducible exact trivial|with_reducible rfl|with_reducible exact P1|with_reducible exact P2|with_reducible exact P3|with_reducible exact P4|with_reducible exact P5|with_reducible exact P6|rfl)⟩
   rw[af (aO s3)] at eg;refine bt (λs4=>?_) (λs4=>?_)
   .rw[am s4] at eg;exact⟨_,_,⟨eg,rfl⟩,(by repeat' first|refine And.intro ?_ ?_|with_reducible exact trivial|with_reducible rfl|with_reducible exact P1|with_reducible exact P2|with_reducible exact P3|with_reducible exact P4|with_reducible exact P5|with_reducible exact P6|rfl)⟩
   .rw[af s4] at eg;exact⟨_,_,⟨eg,rfl⟩,(by repeat' first|refine And.intro ?_ ?_|with_reducible exact trivial|with_reducible rfl|with_reducible exact P1|with_reducible exact P2|with_reducible exact P3|with_reducible exact P4|with_reducible exact P5|with_reducible exact P6|rfl)⟩
  .rintro f bb2 ⟨eg2,hb2⟩;have pj:pM d (bn (x,x1,x2,(x3,x4),x5),jy (x,x1,x2,(x3,x4),x5),fD (x,x1,x2,(x3,x4),x5),(fP w).1,bb2) (bM d lk) at' (aP b).1.2.1 (aP b).1.2.2.2.2.2.1=ig w:=by
    rw[aY9 N.id (by have:=hs.cn;exact⟨this.1,by have:=this.2;show jy (x,x1,x2,(x3,x4),x5)<=_;omega⟩) (λy hy=>by have:=hs.cp y hy;omega)];rw[hw];rfl
   have hin:bM d lk<(fD (x,x1,x2,(x3,x4),x5)).length:=ab;obtain⟨f1,f2,f3⟩:=zV eg2;refine⟨hi0,hin,hi0,hin,hb,?_,?_,f3⟩
   .rw[← f1,u3 (jc w),NR (s:=jc w) (s':=(x,x1,x2,(x3,x4),x5)) (by rw[hw];rfl),← hb2,← EV hin];rw[hw];rfl
   .rw[← f2,pj];congr 1;rw[hw];rfl
theorem aF1:aD 178 QX.spec:=aH Tryz.func178 (au (au (au (au (au (au (au (au (au aE LY) Vu) Bx) RC) RW) aY4) aw2) PR) at4) aF0 SO
theorem PI(w:dL):fi w 0=dC (fI w) (jq w) w (f9 w.2.2.2.2.2):=rfl
theorem Rw(w:dL):fi w 1=dC (fI w) (jq w) w 0:=rfl
theorem RO(w:dL):fi w 2=dC (fA w 11 0) (kH w 11 0) w 0:=rfl
theorem Pw(w:dL):fi w 3=dC (fA w 3 0) (kH w 3 0) w 0:=rfl
def U2:Ct:=⟨[.agg bN,.agg i7,.val cI,.val cI,.val (.sl bz)],[.agg i7,.agg uG,.val cI],λd=>[ud d.1 d.2.1 d.2.2.2.1 d.2.2.2.2.1],λd=>(((fC d.1 d.2.1 d.2.2.1 d.2.2.2.1 d.2.2.2.2.1).1,(fC d.1 d.2.1 d.2.2.1 d.2.2.2.1 d.2.2.2.2.1).2.1,(fC d.1 d.2.1 d.2.2.1 d.2.2.2.1 d.2.2.2.2.1).2.2,()),())⟩
def IT(j:ad) :=
 ((aP j).1.2.2.2.2.2.1,(aP j).1.2.2.2.2.2.2,(aP j).1.2.2.2.1,if kF (aP j).1.2.2.2.1/\(4:Nat)<=length (aP j).2 then aK (aP j).2 (0:Nat) else (0:Int),if kF (aP j).1.2.2.2.1/\(4:Nat)<=length (aP j).2 then aK (aP j).2 (2:Nat) else (0:Int))
def yx(b:List aG)(c:Int)(d:ad)(e f g:Int)(j:ad) :=
 bw (bn (b,c,d,(e,f),g)) (aP j).1.2.2.2.2.2.2
theorem ai9 :
 ∀(a:ar)(b:List aG)(c:Int)(d:ad)(e f g h i:Int)(j:ad),CT.wf bN a/\(CE b c d e f g h i j)->dN a=0/\iG a (b,c,d,(e,f),g) (1099511627776:Int)/\(0<=i/\i<=1125899906842624)/\(ac j)<=1000000->(ac j)<=1099511627776/\ao (! decide (bT j=0)) ((b,c,d,(e,f),g)=(gK a b c d e f g h i j).1/\(si)=(gK a b c d e f g h i j).2.1/\6=(gK a b c d e f g h i j).2.2) (ao (fH a (aP j).1.2.2.2.2.2.2) ((ac j)<=1099511627776/\ ∀(k:Bool),k= ! decide (eh j (0:Int) a.2.2.2.2.2.2.2.2.2.2.2.2.2.1=0)->(ae (! k))/\(aF k)/\ao (bif k then true else decide (h= -1)) ((b,c,d,(e,f),g)=(gK a b c d e f g h i j).1/\(si)=(gK a b c d e f g h i j).2.1/\1=(gK a b c d e f g h i j).2.2) (ao (decide ((aP j).1.2.2.2.1=17)) (ud a (b,c,d,(e,f),g) i j/\((1:Int)=0->f9 (aP j).1≠(0:Int))/\(fi (cE a (b,c,d,(e,f),g) h i j) (1:Int)).1=(gK a b c d e f g h i
 j).1/\(fi (cE a (b,c,d,(e,f),g) h i j) (1:Int)).2.1=(gK a b c d e f g h i j).2.1/\(fi (cE a (b,c,d,(e,f),g) h i j) (1:Int)).2.2=(gK a b c d e f g h i j).2.2) (ud a (b,c,d,(e,f),g) i j/\((0:Int)=0->f9 (aP j).1≠(0:Int))/\(fi (cE a (b,c,d,(e,f),g) h i j) (0:Int)).1=(gK a b c d e f g h i j).1/\(fi (cE a (b,c,d,(e,f),g) h i j) (0:Int)).2.1=(gK a b c d e f g h i j).2.1/\(fi (cE a (b,c,d,(e,f),g) h i j) (0:Int)).2.2=(gK a b c d e f g h i j).2.2))) (∀(k:Bool),k=a.2.2.2.1->(ae k)/\(aq k)/\ao (bif k then ! decide (h= -1) else false) ((b,c,d,(e,f),g)=(gK a b c d e f g h i j).1/\(si)=(gK a b c d e f g h i j).2.1/\6=(gK a b c d e f g h i j).2.2) (∀(l:Bool),l= ! decide (h= -1)->(ae l)/\(ae l)/\(aq l)/\ ∀(m:Bool),(m=bif l then ! a.2.2.2.2.2.2.2.2.2.2.2.2.1 else false)->(ae m)/\(ae m)/\(ae m)/\(aq m)/\ao (bif m then decide ((aP j).1.2.2.1<2)
 else false) (ud a (b,c,d,(e,f),g) i j/\((2:Int)=0->f9 (aP j).1≠(0:Int))/\(fi (cE a (b,c,d,(e,f),g) h i j) (2:Int)).1=(gK a b c d e f g h i j).1/\(fi (cE a (b,c,d,(e,f),g) h i j) (2:Int)).2.1=(gK a b c d e f g h i j).2.1/\(fi (cE a (b,c,d,(e,f),g) h i j) (2:Int)).2.2=(gK a b c d e f g h i j).2.2) (okL (bn (b,c,d,(e,f),g))/\ao (! fm (b,c,d,(e,f),g) (aP j).1.2.2.2.2.2.2) (ao (decide (h= -1)) ((b,c,d,(e,f),g)=(gK a b c d e f g h i j).1/\(si)=(gK a b c d e f g h i j).2.1/\8=(gK a b c d e f g h i j).2.2) (ud a (b,c,d,(e,f),g) i j/\((3:Int)=0->f9 (aP j).1≠(0:Int))/\(fi (cE a (b,c,d,(e,f),g) h i j) (3:Int)).1=(gK a b c d e f g h i j).1/\(fi (cE a (b,c,d,(e,f),g) h i j) (3:Int)).2.1=(gK a b c d e f g h i j).2.1/\(fi (cE a (b,c,d,(e,f),g) h i j) (3:Int)).2.2=(gK a b c d e f g h i j).2.2)) (okL (bn
 (b,c,d,(e,f),g))/\((length (fD (b,c,d,(e,f),g))):Int)<=1000000/\((length (aP j).2):Int)<=1099511627776/\(yx b c d e f g j).2.1≠([]:ad)/\j.length*(1:Nat)<=(140737488355328:Nat)/\ ∀(n:Bool),n= ! decide (h= -1)->(ae n)/\(ae n)/\(aq n)/\ao (bif n then ! a.2.2.2.2.2.2.2.2.2.2.2.2.1 else false) ((ac j)<=1099511627776/\dq (b,c,d,(e,f),g) (yx b c d e f g j)=(gK a b c d e f g h i j).1/\(fR a (b,c,d,(e,f),g) (yx b c d e f g j) (IT j),gU j)=(gK a b c d e f g h i j).2.1/\0=(gK a b c d e f g h i j).2.2) (dq (b,c,d,(e,f),g) (yx b c d e f g j)=(gK a b c d e f g h i j).1/\(fR a (b,c,d,(e,f),g) (yx b c d e f g j) (IT j),j)=(gK a b c d e f g h i j).2.1/\0=(gK a b c d e f g h i j).2.2)))))):=by
  delta IT CE gK si yx ae aq aF ac;rintro d x x1 x2 x3 x4 x5 lk at' b-⟨hn,hs,hat,hb⟩;have N:=B3 hn;have R:ud d (x,x1,x2,(x3,x4),x5) at' b:=⟨hn,hs,hat,hb⟩
  have hokl:okL (bn (x,x1,x2,(x3,x4),x5)):=hs.okl;have hps:(fD (x,x1,x2,(x3,x4),x5)).length=(aA d).length:=hs.ps;have h32:=N.n32;obtain⟨w,hw⟩:∃ w:dL,w=cE d (x,x1,x2,(x3,x4),x5) lk at' b:=⟨_,rfl⟩
  have eH:fC d (x,x1,x2,(x3,x4),x5) lk at' b=if bT b≠0 then (w.2.1,iw,6) else if fH d (f9 (aP b).1)=true then ij w else if mS d=true/\lk ≠ -1 then (w.2.1,iw,6) else eG w:=by rw[hw];rfl
  have eS:w.2.1=(x,x1,x2,(x3,x4),x5):=by rw[hw];rfl
  have e0:w.2.2.1=lk:=by rw[hw];rfl
  rw[eH,← hw,eS];refine⟨ab,av (λh1=>?_) (λh1=>?_)⟩
  .rw[am (by simpa using h1)];exact⟨rfl,rfl,rfl⟩
  have h1:¬ bT b≠0:=by simpa using h1
  have hdec:bT b=0:=by simpa using h1
  rw[af h1];refine av (λh2=>?_) (λh2=>?_)
  .have h2':fH d (f9 (aP b).1)=true:=h2;rw[am h2'];have em:eh b 0 d.2.2.2.2.2.2.2.2.2.2.2.2.2.1=jq w 0:=by rw[hw];rfl
   refine⟨ab,?_⟩;rw[em];intro c hc
   (repeat refine⟨(by first|(simp;done)|(rw[hc];simp;done)|(cases c <;> simp)),?_⟩);have hq:(bif c then true else decide (lk = -1))=true↔lk = -1∨jq w 0≠0:=by rw[hc];by_cases k:jq w 0=0 <;> by_cases k2:lk = -1 <;> simp[k,k2]
   refine av (λh3=>?_) (λh3=>?_)
   .have e:ij w=((x,x1,x2,(x3,x4),x5),iw,1):=by unfold ij;rw[e0,am (hq.1 h3),eS]
    rw[e];exact⟨rfl,rfl,rfl⟩
   have er:ij w=dC (fI w) (jq w) w (if (aP b).1.2.2.2.1=17 then 0 else f9 w.2.2.2.2.2):=by
    unfold ij;rw[e0,af (λk=>by rw[hq.2 k] at h3;cases h3),hw];rfl
   rw[er];refine bt (λh4=>?_) (λh4=>?_)
   .rw[am h4,← Rw];exact⟨R,(λk=>absurd k bi),rfl,rfl,rfl⟩
   .rw[af h4,← PI];exact⟨R,λ_=>RR N h2',rfl,rfl,rfl⟩
  have h2':¬ fH d (f9 (aP b).1)=true:=by show ¬ fH d (aP b).1.2.2.2.2.2.2=true;rw[h2];simp
  rw[af h2'];intro c hc
  (repeat refine⟨(by first|(simp;done)|(rw[hc];simp;done)|(cases c <;> simp)),?_⟩);have hq:(bif c then !decide (lk = -1) else false)=true↔mS d=true/\lk ≠ -1:=by rw[hc];show (bif d.2.2.2.1 then _ else _)=true↔d.2.2.2.1=true/\_;cases d.2.2.2.1 <;> simp
  refine av (λh3=>?_) (λh3=>?_)
  .rw[am (hq.1 h3)];exact⟨rfl,rfl,rfl⟩
  rw[af (λk=>by rw[hq.2 k] at h3;cases h3)];have eo:d.2.2.2.2.2.2.2.2.2.2.2.2.1=dY w.1:=by rw[hw];rfl
  have et:(aP b).1.2.2.1=sJ w.2.2.2.2.2:=by rw[hw];rfl
  have e2:fm (x,x1,x2,(x3,x4),x5) (aP b).1.2.2.2.2.2.2=fm w.2.1 (f9 w.2.2.2.2.2):=by rw[hw];rfl
  have e5:bw (bn (x,x1,x2,(x3,x4),x5)) (aP b).1.2.2.2.2.2.2=bw (bn w.2.1) (f9 w.2.2.2.2.2):=by rw[hw];rfl
  have ek:((aP b).1.2.2.2.2.2.1,(aP b).1.2.2.2.2.2.2,(aP b).1.2.2.2.1,if kF (aP b).1.2.2.2.1/\4<=length (aP b).2 then aK (aP b).2 0 else 0,if kF (aP b).1.2.2.2.1/\4<=length (aP b).2 then aK (aP b).2 2 else 0)=dV b:=by
   unfold dV;rw[am hdec];rfl
  rw[eo,et,e2,e5];intro b0 hb0
  (repeat refine⟨(by first|(simp;done)|(rw[hb0];simp;done)|(cases b0 <;> simp)),?_⟩);intro b1 hb1
  (repeat refine⟨(by first|(simp;done)|(rw[hb1];simp;done)|(cases b1 <;> simp)|(cases b0 <;> cases b1 <;> simp)),?_⟩);have h1b:b1=true↔lk ≠ -1/\dY w.1=false:=by rw[hb1,hb0];by_cases k:lk = -1 <;> cases dY w.1 <;> simp[k]
  have hq:(bif b1 then decide (sJ w.2.2.2.2.2<2) else false)=true↔lk ≠ -1/\dY w.1=false/\sJ w.2.2.2.2.2<2:=by
   rw[← and_assoc,← h1b];cases b1 <;> simp
  refine av (λk1=>?_) (λk1=>?_)
  .have e:eG w=fi w 2:=by unfold eG;rw[e0,am (hq.1 k1),RO]
   rw[e];exact⟨R,(λk=>absurd k bi),rfl,rfl,rfl⟩
  have k1:¬ (lk ≠ -1/\dY w.1=false/\sJ w.2.2.2.2.2<2):=λk=>by rw[hq.2 k] at k1;cases k1
  refine⟨hokl,av (λk3=>?_) (λk3=>?_)⟩
  .have k3:fm w.2.1 (f9 w.2.2.2.2.2)=false:=by simpa using k3
   refine bt (λk4=>?_) (λk4=>?_)
   .have e:eG w=((x,x1,x2,(x3,x4),x5),iw,8):=by unfold eG;rw[e0,af k1,am k3,am k4,eS]
    rw[e];exact⟨rfl,rfl,rfl⟩
   .have e:eG w=fi w 3:=by unfold eG;rw[e0,af k1,am k3,af k4,Pw]
    rw[e];exact⟨R,(λk=>absurd k bi),rfl,rfl,rfl⟩
  have k3:¬ fm w.2.1 (f9 w.2.2.2.2.2)=false:=by simpa using k3
  have hl2:((aP b).2.length:Int)<=1099511627776:=by
   unfold aP;rw[am hdec];simp only[dR];omega
  refine⟨hokl,ab,hl2,wN k3,ab,?_⟩;rw[ek];intro b' hb0'
  (repeat refine⟨(by first|(simp;done)|(rw[hb0'];simp;done)|(cases b' <;> simp)),?_⟩);have hq:(bif b' then !dY w.1 else false)=true↔lk ≠ -1/\dY w.1=false:=by rw[hb0'];by_cases k:lk = -1 <;> cases dY w.1 <;> simp[k]
  have e:eG w=(dq w.2.1 (bw (bn w.2.1) (f9 w.2.2.2.2.2)),(fR w.1 w.2.1 (bw (bn w.2.1) (f9 w.2.2.2.2.2)) (dV w.2.2.2.2.1),if lk ≠ -1/\dY w.1=false then gU w.2.2.2.2.1 else w.2.2.2.2.1),0):=by unfold eG;rw[e0,af k1,af k3]
  rw[e];refine av (λk4=>?_) (λk4=>?_)
  .rw[am (hq.1 k4)];exact⟨ab,by rw[eS],by rw[hw];rfl,rfl⟩
  .rw[af (λk=>by rw[hq.2 k] at k4;cases k4)];exact⟨by rw[eS],by rw[hw];rfl,rfl⟩
theorem Wt:aD 124 U2.spec:=aH Tryz.func124 (au (au (au (au (au (au (au (au (au aE Bx) Pr) Rv) aF1) RC) RW) PR) QZ) ag1) aR ai9
def Qi:Ct:=⟨[.val (.sl cI),.val (.sl cI)],[.val .bool],λd=>[],λd=>((decide (d.1=d.2.1),()),())⟩
def UA:bu Qi.ps->bS:=(λd=>{loops:=(bm 4 (λS=>{ι:=Int,μ:=λi=>(d.1.length-i).toNat,inv:=λi=>0<=i/\i<=d.1.length/\d.1.take i.toNat=d.2.1.take i.toNat,keep:=[0,1],slots:=λi=>[(5,.int .i64 i)]}) ci)})
theorem ap4 :
 ∀(a b:ad),(a.length<=maxLen/\ ∀(c:Int),c∈a->aj c)/\(b.length<=maxLen/\ ∀(c:Int),c∈b->aj c)/\True->True->ao (! decide ((ac a)=(ac b))) (false=decide (a=b)) ((∃(c:Int),(0<=c/\c<=(ac a)/\take c.toNat a=take c.toNat b)/\a=a/\b=b/\0=c/\True)/\ ∀(c:Int),0<=c/\c<=(ac a)/\take c.toNat a=take c.toNat b->ao (decide (c<(ac a))) (0<=c/\c<(ac a)/\0<=c/\c<(ac b)/\ao (! decide (ah a c=ah b c)) (false=decide (a=b)) (∃(d:Int),(0<=d/\d<=(ac a)/\take d.toNat a=take d.toNat b)/\toNat ((ac a) -d)<toNat ((ac a) -c)/\a=a/\b=b/\ai (c+1)=d/\True)) (true=decide (a=b))):=by
  delta ai ah ac;rintro x y ⟨⟨hl,-⟩,⟨hm,-⟩,-⟩ -;simp only[maxLen] at hl hm;refine av (λh=>?_) (λh=>?_)
  .have h:=fQ h;symm;apply dw;rintro rfl;exact h rfl
  have h:=gH h;refine⟨⟨0,⟨ab,ab,aC⟩,aM⟩,?_⟩;rintro j ⟨j0,j1,hj⟩;refine bt (λhk=>?_) (λhk=>?_)
  .refine⟨j0,hk,j0,ab,av (λq=>?_) (λq=>?_)⟩
   .have q:=fQ q;symm;apply dw;rintro rfl;exact q rfl
   .exact⟨j+1,⟨ab,ab,GA j0 hk ab hj (gH q)⟩,ab,aM⟩
  .rw[dm ab,dm ab] at hj;rw[hj];simp
theorem Kj:aD 66 Qi.spec:=aH Tryz.func66 aE UA ap4
def ai1:Ct:=⟨[.agg i7,.agg i7],[.val .bool],λd=>[],λd=>((decide (d.1=d.2.1),()),())⟩
def JI(m:aG) :=
 ((0<=m.1.1/\m.1.1<=4294967295)/\aj m.1.2)/\(m.2.1.length<=maxLen/\ ∀(n:Int),n∈m.2.1->aj n)/\aj m.2.2
theorem aD7 :
 ∀(a:List aG)(b:Int)(c:ad)(d e f:Int)(g:List aG)(h:Int)(i:ad)(j k l:Int),((a.length<=maxLen/\ ∀(m:aG),m∈a->(JI m))/\aj b/\(c.length<=maxLen/\ ∀(m:Int),m∈c->aj m)/\(aj d/\aj e)/\aj f)/\((g.length<=maxLen/\ ∀(m:aG),m∈g->(JI m))/\aj h/\(i.length<=maxLen/\ ∀(m:Int),m∈i->aj m)/\(aj j/\aj k)/\aj l)/\True->True-> ∀(m:Bool),m=decide (b=h)->(ae m)/\(ae m)/\(m->(aq m)/\(aq m)/\True)/\(aq m)/\ ∀(n:Bool),(n=bif m then decide (d=j)&&(decide (e=k)&&true) else false)->(ae n)/\(ae n)/\(n->(aq n)/\(aq n)/\True)/\(aq n)/\ ∀(o:Bool),(o=bif n then decide (f=l) else false)->(ae o)/\(ae o)/\(o->(aq o)/\(aq o)/\True)/\(aq o)/\ ∀(p:Bool),(p=bif o then decide (c=i) else false)->(ae p)/\(ae p)/\(p->(aq p)/\(aq p)/\True)/\(aq p)/\(bif p then decide (a=g) else false)=decide ((a,b,c,(d,e),f)=(g,h,i,(j,k),l)):=by
  delta JI ae aq;rintro x x1 x2 x3 x4 x5 y y1 y2 y3 y4 y5 - -
  (repeat (refine bO ?_;repeat refine bP ?_));rw[sY];simp only[db,Bool.if_false_right,dr,jz,Bool.and_true,br];constructor
  .rintro⟨⟨⟨⟨h1,h2,h3⟩,h4⟩,h5⟩,h6⟩;exact⟨h6,h1,h5,⟨h2,h3⟩,h4⟩
  .rintro⟨h6,h1,h5,⟨h2,h3⟩,h4⟩;exact⟨⟨⟨⟨h1,h2,h3⟩,h4⟩,h5⟩,h6⟩
theorem an9:aD 67 ai1.spec:=aH Tryz.func67 (au (au aE Kj) YK) aR aD7
theorem am1{n:pm}(h0:ix n=0)(hb:bytes n.2.2):AF (gN n)=0/\uF (gN n)=n:=by
 have h1:(n.1=3∨n.1=11)/\0<=n.2.1/\n.2.1<=255:=gC λk=>by rw[ix,am k] at h0;cases h0
 have h2:¬ (n.2.2.length:Int)<28:=λk=>by rw[ix,af (λq=>q h1),am k] at h0;cases h0
 have h3:¬ (1472:Int)<n.2.2.length:=λk=>by rw[ix,af (λq=>q h1),af h2,am k] at h0;cases h0
 have hc:=nR (B5 (e:=n) h1 hb)
 obtain⟨t,k,l⟩:=n
 simp only at h1 h3 hb hc h2
 generalize hB:gN (t,k,l)=B
 have hs:B=t::k::(cX (kX (t,k,l))/256%256)::(cX (kX (t,k,l))%256)::0::0::0::0::l:=by rw[← hB,gN,am h0];rfl
 have i2:aK B (toNat 2)=cX (kX (t,k,l))/256%256*256+cX (kX (t,k,l))%256:=by rw[hs];exact gk _ _ _
 have i4:aK B (toNat 4)=0:=by rw[hs];exact (gk 0 0 _)
 have i6:aK B (toNat 6)=0:=by rw[hs];exact (gk 0 0 _)
 have hset:cj B (toNat 2) 0=kX (t,k,l):=by rw[hs];rfl
 have hlen:(B.length:Int)=8+l.length:=by rw[hs];simp only[cQ];omega
 have g0:B.getD (toNat 0) default=t:=by rw[hs];rfl
 have g1:B.getD (toNat 1) default=k:=by rw[hs];rfl
 have g8:B.drop 8=l:=by rw[hs];rfl
 have he:AF B=0:=by
  rw[AF,af ab,af (λq=>q ⟨by rw[g0];exact h1.1,i4,i6⟩),af ab,af];rw[hset,i2,lV hc.1 hc.2];exact λq=>q rfl
 refine⟨he,?_⟩
 rw[uF,am he,g0,g1,g8]
theorem Sm{n:pm}(h0:ix n=0):(gN n).getD 0 default=n.1/\(gN n).length=8+n.2.2.length:=by
 rw[gN,am h0];exact⟨rfl,by rw[mI,CZ]⟩
theorem JN{n:pm}(h0:ix n=0)(hb:bytes n.2.2):bytes (gN n):=by
 have h1:(n.1=3∨n.1=11)/\0<=n.2.1/\n.2.1<=255:=gC λk=>by rw[ix,am k] at h0;cases h0
 rw[gN,am h0];exact pN (B5 h1 hb)
structure eO (p:cU):Prop where
 ok:f5 p=0
 s:u32 p.1
 d:u32 p.2.1
theorem eO.dec{p:cU}(g:eO p):cf (build p)=sX p/\bT (build p)=0/\(build p).drop 20=fS p:=Qc g.ok g.s g.d
theorem eO.len{p:cU}(g:eO p):((p.2.2.1≠6/\(build p).length=30)∨(p.2.2.1=6/\(build p).length=40)):=by
 rw[EH g.ok,cD,rG]
 rcases BG g.ok with h|h
 .exact .inl ⟨h.1,by rw[h.2]⟩
 .exact .inr ⟨h.1,by rw[h.2]⟩
theorem N8{p:cU}(g:eO p):(p.2.2.1=1->(fS p).getD 0 default=8)/\(p.2.2.1=6->(fS p).getD 13 default=2):=by
 have hr:=(oa.1 g.ok).2
 constructor
 .intro h;rw[yg hr h];rfl
 .intro h;rw[ya hr h];rfl
theorem Jf{p:cU}(g:eO p):cH (build p)↔fq p.1:=by
 obtain⟨e1,e2,e3⟩:=g.dec
 have hs:cL (build p)=p.1:=by rw[cL,e1];rfl
 constructor
 .intro h;rw[← hs];exact (oM h).2.2.2.2
 .intro hu;refine ax3 e2 (by rcases g.len with h|h <;> omega) ?_ ?_ (by rw[hs];exact hu)
  .rw[e3];intro h;exact (N8 g).1 (by rw[d9,e1] at h;exact h)
  .rw[e3];intro h _;rw[(N8 g).2 (by rw[d9,e1] at h;exact h)];decide
theorem aR9{p:cU}(g:eO p):(p.2.2.1=1->aK (fS p) 4=21075/\aK (fS p) 6=p.2.2.2.2.1)/\(p.2.2.1=17->aK (fS p) 4=10/\aK (fS p) 6=p.2.2.2.2.1+1)/\(p.2.2.1=6->dO (((fS p).drop 4).take 4)=p.2.2.2.2.1):=by
 have hr:=(oa.1 g.ok).2
 obtain⟨hf,ht,-⟩:=id hr
 refine⟨λh=>?_,λh=>?_,λh=>?_⟩
 .rw[yg hr h,u9 (by show 4+2<=10;omega) ab,u9 (by show 6+2<=10;omega) ab];refine⟨rfl,?_⟩;show aK (_::_::_) 0=_;rw[gk];exact lV (n:=p.2.2.2.2.1) ab ab
 .have hs:=aj3 hr;rw[BE hr h,u9 (by show 4+2<=10;omega) ab,DE (by show 6+2<=10;omega) ab ab];refine⟨?_,hs⟩;show aK (_::_::_) 0=10;rw[gk];have:((ru p).2.2.length:Int)=2:=rfl;rw[this];decide
 .rw[ya hr h];show dO [_,_,_,_]=_;rw[Bz];exact JH (n:=p.2.2.2.2.1) ⟨ab,ab⟩
theorem WZ{p:cU}(g:eO p):((build p).take 28).length=28/\bytes ((build p).take 28)/\yu ((build p).take 28)=(p,true):=by
 obtain⟨e1,e2,e3⟩:=g.dec
 have hl28:((build p).take 28).length=28:=by rw[cW];rcases g.len with h|h <;> omega
 refine⟨hl28,zZ (GF p),?_⟩
 have hF:cf ((build p).take 28)=sX p:=by
  rw[← e1];unfold cf;rw[vC ab,vC ab,vC ab,rQ ab,rQ ab,yA ab,yA ab]
 have hpk:d5 ((build p).take 28)=0:=by
  have h0:=AR e2;have hlen:20<=(build p).length:=by rcases g.len with h|h <;> omega
  rw[d5,af ab] at h0 ⊢;rw[vC ab,rQ ab,rQ ab,rQ ab,List.take_take];exact h0
 have wq:∀ i,i+2<=8->aK ((build p).take 28) (20+i)=aK (fS p) i:=λi hi=>by
  rw[rQ ab,← e3];unfold aK;rw[List.drop_drop]
 have w0:=wq 0 ab
 have w2:=wq 2 ab
 have w4:=wq 4 ab
 have w6:=wq 6 ab
 have n4:dO ((((build p).take 28).drop 24).take 4)=dO (((fS p).drop 4).take 4):=by rw[yA ab,← e3,List.drop_drop]
 have cw:=ad9 g.ok
 have cm:=aR9 g
 have hlw:aK ((build p).take 28) 2=(build p).length:=by rw[rQ ab,(tc e2).2]
 have hq:Es ((build p).take 28):=⟨hpk,hl28,by rw[hF];rfl,by rw[hF];rfl⟩
 have hpr:d9 ((build p).take 28)=p.2.2.1:=by rw[d9,hF];rfl
 have hfl:FT ((build p).take 28)=p.2.2.2.1:=by
  rw[FT,hpr];have w0:aK ((build p).take 28) 20=aK (fS p) 0:=w0;rw[w2,w0,cw.1,cw.2];rcases (oa.1 g.ok).1 with h|h|h <;> simp[h,xO,xy] <;> omega
 have hP:EW ((build p).take 28)=p:=by
  rw[EW,hfl,hpr,cL,gc,hF];rfl
 rw[yu,am hq,hP]
 have hR:Bv ((build p).take 28):=by
  unfold Bv;rw[hpr,hF];have w0:aK ((build p).take 28) 20=aK (fS p) 0:=w0;rw[w0,w2,w4,w6,n4,cw.1,cw.2,hlw];rcases (oa.1 g.ok).1 with h|h|h
  .refine .inl ⟨h,?_,by rw[xO,am h],(cm.1 h).1,(cm.1 h).2⟩;rcases g.len with k|k <;> omega
  .refine .inr (.inr ⟨h,?_,by rw[xy,af ab,af ab],cm.2.2 h⟩);rcases g.len with k|k <;> omega
  .refine .inr (.inl ⟨h,?_,by rw[xy,af ab,am h],?_,(cm.2.1 h).2⟩)
   .rcases g.len with k|k <;> omega
   .rw[(cm.2.1 h).1];rcases g.len with k|k <;> omega
 rw[dM ⟨hR,g.ok⟩]
theorem yr{src dst proto id ttl:Int}{data:ad}(hn:iV id ttl)(hp:0<=proto/\proto<=255)(hs:u32 src)(hd:u32 dst)(hl:(data.length:Int)<=1480)(hb:bytes data) :
  bT (dE (ib src dst proto id ttl data))=0/\cf (dE (ib src dst proto id ttl data))=(0,id,ttl,proto,false,src,dst)/\(dE (ib src dst proto id ttl data)).drop 20=data/\(dE (ib src dst proto id ttl data)).length=20+data.length:=by
 have h0:=yW (src:=src) (dst:=dst) hn hp hl
 obtain⟨⟨a,b⟩,c,d⟩:=hn
 rw[dE,am h0]
 have:=Iy (h:=(0,id,ttl,proto,false,src,dst)) (X:=data) ⟨⟨iE _,by simp only;omega⟩,⟨c,d⟩,hp,a,b⟩ hs hd hl hb
 refine⟨this.2.1,this.1,this.2.2,?_⟩
 show (iT _ _++data).length=_
 rw[cD,rG]
structure AC (p:cU) (a:vm) (x:ad):Prop where
 no:¬ cH x
 rd:Nt x=(vv p 0,a)
 re:Pn x=0
 len:x.length<=1500
theorem eO.t1{p:cU}(g:eO p)(t:Int)(h:1<=t/\t<=255):f5 (vv p t)=0:=by
 obtain⟨h1,h2,h3,-⟩:=oa.1 g.ok
 exact oa.2 ⟨h1,h2,h3,h⟩
theorem J1{p:cU}{a:vm}{x:ad}(g:eO p)(hd:bT x=0)(hr:sK x=(vv p 0,(0,a.2.1,a.2.2.1,0,0,a.2.2.2.2.2),true))(ha:a.1=cL x)(hl:a.2.2.2.1=(cf x).2.2.1)(hi:a.2.2.2.2.1=(cf x).2.1)(hn:¬ cH x):AC p a x:=by
 have hg:Ar x:=⟨hd,by rw[hr],by rw[hr];exact g.t1 1 ab⟩
 have:=tc hd
 refine⟨hn,?_,by rw[Pn,am hg],ab⟩
 rw[Nt,am hg,hr,← ha,← hl,← hi]
theorem Et{p:cU}(g:eO p)(hu:fq p.1){from' kind code id ttl:Int}(hf:u32 from')(hg:qh kind code id ttl) :
  dS (build p) kind code id ttl=0/\AC p (from',wG kind code,code,ttl,id,p.2.2.2.2.2) (eT (build p) from' kind code id ttl)/\(eT (build p) from' kind code id ttl).length=56:=by
 have ha:=(Jf g).2 hu
 obtain⟨e0,eB,en,-⟩:=A6 (src:=from') hg ha
 obtain⟨e1,-,-⟩:=g.dec
 obtain⟨ql,qb,qv⟩:=WZ g
 have hs:cL (build p)=p.1:=by rw[cL,e1];rfl
 have hk:=hg.1
 refine⟨e0,?_⟩
 rw[eB,hs]
 generalize hD:gN (kind,code,(build p).take 28)=D
 have un:=am1 en qb
 have nf:=Sm en
 have nb:=JN en qb
 rw[hD] at un nf nb
 rw[ql] at nf
 have sb:=yr (src:=from') (dst:=p.1) (proto:=1) (data:=D) hg.2.2 ab hf g.s ab nb
 generalize dE (ib from' p.1 1 id ttl D)=x at sb
 obtain⟨s1,s2,s3,s4⟩:=sb
 have hp1:d9 x=1:=by rw[d9,s2]
 have hns:¬ D.getD 0 default=8:=by rw[nf.1];simp only;omega
 refine⟨J1 g s1 ?_ (by rw[cL,s2]) (by rw[s2]) (by rw[s2]) (λk=>?_),by rw[s4,nf.2]⟩
 .rw[sK,af,am hp1,s3,Kb,am un.1,un.2]
  .simp only;rw[qv];simp[gc,s2,vv]
  .rw[s3];rintro⟨-,-,k⟩;rw[nf.1] at k;simp only at k;omega
 .exact hns (by have:=(oM k).2.2.1 hp1;rw[s3] at this;exact this)
theorem WT(t n:Int):bQ true (cN (true,21075,t,w2 n))=bQ true (cN (false,21075,t,w2 n))-2048:=by
 simp[cN,w2,bQ];omega
theorem aR7(t n:Int):23000<=bQ true (cN (false,21075,t,w2 n)):=by
 simp[cN,w2,bQ];omega
def tF(p:cU)(id ttl:Int):vm:=if p.2.2.1=6 then (p.2.1,4,0,ttl,id,0) else if p.2.2.1=17 then (p.2.1,3,3,ttl,id,p.2.2.2.2.2) else (p.2.1,2,0,ttl,id,0)
theorem OR{p:cU}(g:eO p)(hu:fq p.1){id ttl:Int}(hn:iV id ttl) :
  eh (build p) id ttl=0/\AC p (tF p id ttl) (fZ (build p) p.2.1 id ttl):=by
 have ha:=(Jf g).2 hu
 obtain⟨e1,e2,e3⟩:=g.dec
 have hs:cL (build p)=p.1:=by rw[cL,e1];rfl
 have hd:gc (build p)=p.2.1:=by rw[gc,e1];rfl
 have hpr:d9 (build p)=p.2.2.1:=by rw[d9,e1];rfl
 have hr:=(oa.1 g.ok).2
 have hr':=hr
 obtain⟨hf,ht,-⟩:=hr'
 rcases (oa.1 g.ok).1 with h|h|h
 .have eE:fS p=fh (lH p):=by rw[yg hr h,fh,am (Nq hr)]
  have u:=Oz (Ha hr) (lU _) (by rw[zt];omega);have hh:=AY (src:=p.2.1) hn ha (by rw[hpr];exact h) (by rw[e3,eE];exact u.1);refine⟨hh.2,?_⟩;rw[hh.1,hs,e3,eE,u.2];have ok2:E4 (w2 (qD p)) (true,(lH p).2):=⟨(Ha hr).1,rfl⟩
  have u2:=Oz ok2 (lU _) (by rw[zt];omega);have eg:=Di ok2 (by rw[zt];omega);have esh:fh (true,(lH p).2)=cj (cN (true,(lH p).2)) 2 (cX (cN (true,(lH p).2))):=by rw[fh,am eg]
  have bb:bytes (cN (true,(lH p).2)):=wK (lU _);have hcs:=nR bb;have ecs:cX (cN (true,(lH p).2))=18432+p.2.2.2.1:=by
   have h1:=Ok hr;have h2:=WT p.2.2.2.2.1 (qD p);have h3:=aR7 p.2.2.2.2.1 (qD p);unfold cX at h1 ⊢;have k1:lH p=(false,21075,p.2.2.2.2.1,w2 (qD p)):=rfl;rw[k1] at h1 ⊢;simp only;rw[h2];generalize bQ true (cN (false,21075,p.2.2.2.2.1,w2 (qD p)))=S at h1 h3 ⊢;unfold oc at h1 ⊢;rw[af ab] at h1 ⊢;omega
  have w2c:aK (fh (true,(lH p).2)) 2=18432+p.2.2.2.1:=by
   rw[esh,DE (by show 2+2<=10;omega) hcs.1 hcs.2,ecs]
  have hl10:(fh (true,(lH p).2)).length=10:=by rw[esh,mI];rfl
  have hb:bytes (fh (true,(lH p).2)):=by rw[esh];exact pN bb
  have h0:(fh (true,(lH p).2)).getD 0 default=0:=by rw[esh];rfl
  generalize hD:fh (true,(lH p).2)=D at *;have sb:=yr (src:=p.2.1) (dst:=p.1) (proto:=1) (data:=D) hn ab g.d g.s ab hb;generalize dE (ib p.2.1 p.1 1 id ttl D)=x at sb;obtain⟨s1,s2,s3,s4⟩:=sb;have hp1:d9 x=1:=by rw[d9,s2]
  have hx:gc x=p.1:=by rw[gc,s2]
  have hy:cL x=p.2.1:=by rw[cL,s2]
  rw[tF,af ab,af ab];refine J1 g s1 ?_ hy.symm (by rw[s2]) (by rw[s2]) (λk=>?_)
  .have eg2:EG D:=⟨u2.1,by rw[u2.2],by rw[u2.2];rfl,by rw[u2.2];rfl⟩
   rw[sK,am ⟨hp1,by rw[s3];omega,by rw[s3];exact h0⟩,s3,KX,am eg2,hx,hy,w2c,u2.2];have e9:18432+p.2.2.2.1-18432=p.2.2.2.1:=ab;rw[e9,vv,h];rfl
  .have:=(oM k).2.2.1 hp1;rw[s3,h0] at this;cases this
 .have eE:fS p=eV p.1 p.2.1 (mT p):=by rw[ya hr h,eV,am (Kx hr)]
  have u:=LZ (s:=p.1) (d:=p.2.1) (H5 hr) nh aC;have hun:d7 (cL (build p)) (gc (build p)) ((build p).drop 20)=mT p:=by rw[hs,hd,e3,eE];exact u.2
  have hh:=Ah (src:=p.2.1) hn ha (by rw[hpr];exact h) (by rw[hs,hd,e3,eE];exact u.1) (by rw[hun];show bits .and .i64 2 2≠0;decide) (by rw[hun];show bits .and .i64 2 4=0;decide);refine⟨hh.2,?_⟩;rw[hh.1,hun,hs];have eY:jX (mT p)=(80,20000+p.2.2.2.1,0,p.2.2.2.2.1+1,20,0,[]):=by
   have:(p.2.2.2.2.1+1)%4294967296=p.2.2.2.2.1+1:=ab;show (80,20000+p.2.2.2.1,0,(p.2.2.2.2.1+1)%4294967296,20,0,[])=_;rw[this]
  have okY:DX [] (jX (mT p)):=by
   rw[eY];refine⟨⟨(hT _).2 ⟨?_,?_⟩,(hT _).2 ⟨?_,?_⟩,⟨?_,?_⟩,⟨?_,?_⟩,⟨?_,?_⟩,(hT _).2 ⟨?_,?_⟩⟩,rfl⟩ <;> simp only <;> omega
  have u2:=LZ (s:=p.2.1) (d:=p.1) okY nh aC;have eg:=Hz okY aC;have esh:eV p.2.1 p.1 (jX (mT p))=cj (jD (jX (mT p))) 16 (fB p.2.1 p.1 6 (jD (jX (mT p)))):=by rw[eV,am eg]
  have hb:bytes (eV p.2.1 p.1 (jX (mT p))):=by rw[esh];exact pN (xQ okY.1 nh)
  have hl20:(eV p.2.1 p.1 (jX (mT p))).length=20:=by rw[esh,mI];rfl
  have h13:(eV p.2.1 p.1 (jX (mT p))).getD 13 default=20:=by rw[esh];rfl
  rw[eY] at u2;generalize hD:eV p.2.1 p.1 (jX (mT p))=D at *;rw[← eY,hD] at u2;have sb:=yr (src:=p.2.1) (dst:=p.1) (proto:=6) (data:=D) hn ab g.d g.s ab hb;generalize dE (ib p.2.1 p.1 6 id ttl D)=x at sb;obtain⟨s1,s2,s3,s4⟩:=sb;have hp1:d9 x=6:=by rw[d9,s2]
  have hx:gc x=p.1:=by rw[gc,s2]
  have hy:cL x=p.2.1:=by rw[cL,s2]
  rw[eY] at u2;rw[tF,am h];refine J1 g s1 ?_ hy.symm (by rw[s2]) (by rw[s2]) (λk=>?_)
  .have eg2:CK p.2.1 p.1 D:=⟨u2.1,by rw[u2.2],by rw[u2.2],by rw[u2.2],by rw[u2.2],by rw[u2.2]⟩
   rw[sK,af (by rw[hp1];omega),af ab,am hp1,s3,hx,hy,Sn,am eg2,u2.2];have e9:20000+p.2.2.2.1-20000=p.2.2.2.1:=ab;have e8:p.2.2.2.2.1+1-1=p.2.2.2.2.1:=ab;simp only;rw[e9,e8,vv,h]
  .have:=(oM k).2.2.2.1 hp1 (by rw[s3];omega);rw[s3,h13] at this;exact absurd this bi
 .have eE:fS p=kC p.1 p.2.1 (ru p):=by rw[BE hr h,kC,am (Rc hr)]
  have u:=Vo (s:=p.1) (d:=p.2.1) (KM hr) (lU _) (by rw[zt];omega);have hh:=BP (src:=p.2.1) hn ha (by rw[hpr];exact h) (by rw[hs,hd,e3,eE];exact u.1);refine⟨hh.2,?_⟩;rw[hh.1,tF,af ab,am h];exact (Et g hu g.d (kind:=3) (code:=3) ⟨.inr rfl,ab,hn⟩).2.1
def R6(p:cU)(x:ad):Prop:=(¬ fq p.1->x=[])/\(fq p.1→∃ a:vm,0<a.2.1/\AC p a x)
def aD2:Cn:=⟨[.box 105 iA,.agg gS],[.val cy],λd=>[ay d.1],λd y=>ay y.2.1/\0<=y.1.1/\y.1.1<=4294967295,λd h=>⟨((0,()),(d.1,())),h.1,by simp,by simp⟩⟩
theorem at3 :
 ∀(a:ad)(b:Int)(c:List ar)(d:List aN)(e:List aT),((a.length<=maxLen/\ ∀(f:Int),f∈a->0<=f/\f<=255)/\aj b)/\((c.length<=maxLen/\ ∀(f:ar),f∈c->CT.wf bN f)/\(d.length<=maxLen/\ ∀(f:aN),f∈d->CT.wf gh f)/\e.length<=maxLen/\ ∀(f:aT),f∈e->CT.wf ft f)/\True->0<=b/\b<=(ac a)->ao (decide ((ac c)=0)) (ay (a,b)/\ ∀(f:Int)(g:ad)(h:Int),ay (g,h)/\0<=f/\f<=4294967295->ay (g,h)/\0<=f/\f<=4294967295) (ay (a,b)/\ ∀(f:Int)(g:ad)(h:Int),0<=f/\(f<(ac c)∨f=0)/\ay (g,h)->0<=f/\f<(ac c)/\ ∀(i:Bool),i=decide (((length (ah c f).1):Int)=0)->ao (! i) ((aq (! i))/\ay (g,h)/\ ∀(j:Int)(k:ad)(l:Int),0<=j/\(j<12∨j=0)/\ay (k,l)->(aF i)/\ao (bif i then true else decide (j=11)) (ay (k,l)/\ ∀(m:Int)(n:ad)(o:Int),ay (n,o)/\0<=m/\m<=4294967295->ay (n,o)/\0<=m/\m<=4294967295) (ay (k,l)/\ ∀(m:Int)(n:ad)
 (o:Int),0<=m/\(m<((length (ah c f).1):Int)∨m=0)/\ay (n,o)->0<=m/\m<((length (ah c f).1):Int)/\ay (n,o)/\0<=(getD (ah c f).1 m.toNat default).1/\(getD (ah c f).1 m.toNat default).1<=4294967295)) ((! i)=false/\(i=false->false=true)/\ao (bif i then true else false) (ay (g,h)/\ ∀(j:Int)(k:ad)(l:Int),ay (k,l)/\0<=j/\j<=4294967295->ay (k,l)/\0<=j/\j<=4294967295) (ay (g,h)/\ ∀(j:Int)(k:ad)(l:Int),0<=j/\(j<((length (ah c f).1):Int)∨j=0)/\ay (k,l)->0<=j/\j<((length (ah c f).1):Int)/\ay (k,l)/\0<=(getD (ah c f).1 j.toNat default).1/\(getD (ah c f).1 j.toNat default).1<=4294967295))):=by
  delta aq aF ah ac;rintro l p ns ls hs ⟨-,⟨⟨hnl,hnw⟩,-⟩,-⟩ hc;refine av (λh=>?_) (λh=>?_)
  .exact⟨hc,λx l2 p2 h=>h⟩
  have h:=aO h;refine⟨hc,?_⟩;rintro x l2 p2 ⟨x0,x1,hc2⟩;have x1:x<(ns.length:Int):=ab;have hX:=hnw _ (bW x0 x1);generalize ns.getD x.toNat default=X at hX ⊢;have hp:=hX.1.2;refine⟨x0,x1,?_⟩;intro b hb;refine av (λq=>?_) (λq=>?_)
  .have hb0:b=false:=by simpa using q
   subst hb0;have hne:=aO hb.symm;refine⟨aC,hc2,?_⟩;rintro y l3 p3 ⟨y0,y1,hc3⟩;rw[nP]
   (repeat refine⟨aC,?_⟩);refine av (λq=>?_) (λq=>?_)
   .exact⟨hc3,λx l2 p2 h=>h⟩
   .refine⟨hc3,?_⟩;rintro z l4 p4 ⟨z0,z1,hc4⟩;have z1:z<(X.1.length:Int):=ab;have:=hp _ (bW z0 z1);exact⟨z0,z1,hc4,this.1⟩
  .have hb0:b=true:=by simpa using q
   subst hb0;refine⟨rfl,aC,?_⟩;rw[cond_true];exact⟨hc2,λx l2 p2 h=>h⟩
theorem aD8:aD 28 aD2.spec:=nC Tryz.func28 (au (au aE ra) ES) aR at3
theorem G6{α:Type} [DecidableEq α]:∀{l m:List α},l.Nodup->(∀ x∈l,x∈m)->l.length<=m.length
 | [],m,_,_=>aC
 | x::l,m,h,hs=>by
  have hx:=hs x fF;have hn:=List.nodup_cons.1 h;have:=G6 (l:=l) (m:=m.erase x) hn.2 λy hy=>(List.mem_erase_of_ne (λe:y=x=>hn.1 (e▸hy))).2 (hs y (fw _ hy));rw[List.length_erase_of_mem hx] at this;have hp:=List.length_pos_of_mem hx;rw[cQ];omega
theorem yK{α β:Type}(I:β->Prop)(f:β->α->β):∀{l:List α}{b:β},I b->(∀ x∈l,∀ b,I b->I (f b x))->I (l.foldl f b)
 | [],b,h,_=>h
 | x::l,b,h,hf=>yK I f (l:=l) (hf x fF b h) λy hy=>hf y (fw _ hy)
theorem J2{k x:Int}:∀{l:ad},x∈kK k l->x=k∨x∈l
 | [],h=>by simp[kK] at h;exact .inl h
 | y::r,h=>by
  rw[kK] at h;split at h
  .rcases dj.1 h with e|h
   .exact .inl e
   .exact .inr h
  .rcases dj.1 h with e|h
   .exact .inr (e▸fF)
   .rcases J2 h with e|h
    .exact .inl e
    .exact .inr (fw _ h)
theorem L5{k:Int}:∀{l:ad},l.Pairwise (· < ·)->k ∉ l->(kK k l).Pairwise (· < ·)
 | [],_,_=>by rw[kK];exact List.pairwise_singleton _ _
 | y::r,h,hk=>by
  have h:=List.pairwise_cons.1 h;rw[kK];split
  .rename_i hy;refine List.pairwise_cons.2 ⟨λz hz=>?_,List.pairwise_cons.2 h⟩;rcases dj.1 hz with rfl|hz
   .exact hy
   .exact Int.lt_trans hy (h.1 z hz)
  .rename_i hy;have:k≠y:=λe=>hk (e▸fF);refine List.pairwise_cons.2 ⟨λz hz=>?_,L5 h.2 λe=>hk (fw _ e)⟩;rcases J2 hz with rfl|hz
   .omega
   .exact h.1 z hz
theorem ac0(k:Int)(l:ad):kK k l≠[]:=by
 intro e
 have:=FA k l
 rw[e] at this;simp at this
theorem Lx{l:List Rt}{r x:Rt}(h:x∈f6 l r):x=r∨x∈l:=by
 unfold f6 at h
 rcases dH.1 h with h|h
 .exact .inr (List.mem_filter.1 h).1
 .rcases dj.1 h with e|h
  .exact .inl e
  .exact .inr (List.mem_filter.1 h).1
def lnk(ls:List aN)(i k:Int):Prop:=0<=k/\k<ls.length/\(lA (ls.getD k.toNat default)=i∨lB (ls.getD k.toNat default)=i)
structure G8 (ls:List aN) (aa:ad) (i:Int) (r:Rt):Prop where
 len:r.1.2=32
 mem:r.1.1∈aa
 ne:r.2.1≠[]
 pw:r.2.1.Pairwise (· < ·)
 ln:∀ k∈r.2.1,lnk ls i k
 w0:1<=r.2.2
 w1:r.2.2<=3
def nF(ls:List aN)(aa:ad)(i:Int)(t:List Rt):Prop:=cK t∧∀ r∈t,G8 ls aa i r
theorem Fu{ls:List aN}{aa:ad}{i:Int}{t:List Rt}(h:nF ls aa i t):t.length<=aa.length:=by
 have hn:(t.map λr=>r.1.1).Nodup:=by
  refine List.Pairwise.map (R:=λa b:Rt=>a.1.1≠b.1.1) _ (λa b h=>h) (h.1.imp_of_mem λ{a b} ha hb k=>?_);have e1:=(h.2 a ha).len;have e2:=(h.2 b hb).len;unfold bL at k;omega
 have:=G6 hn (m:=aa) λx hx=>by
  obtain⟨r,hr,rfl⟩:=List.mem_map.1 hx;exact (h.2 r hr).mem
 simpa using this
theorem HJ{ls:List aN}{aa:ad}{i:Int}{r:Rt}(h:G8 ls aa i r):r.2.1.length<=ls.length:=by
 have hn:r.2.1.Nodup:=h.pw.imp λk=>ab
 have:=G6 hn (m:=(range ls.length).map λ(n:Nat)=>(n:Int)) λx hx=>by
  obtain⟨k0,k1,_⟩:=h.ln x hx;exact List.mem_map.2 ⟨x.toNat,List.mem_range.2 ab,ab⟩
 simpa using this
theorem ag0{ls:List aN}{aa:ad}{i:Int}{t:List Rt}(h:nF ls aa i t){p:d8}{k way:Int}(hp:p.2=32)(ha:p.1∈aa)(hk:lnk ls i k)(h0:1<=way)(h1:way<=3) :
  nF ls aa i (vp t p k way):=by
 have put:∀ r:Rt,G8 ls aa i r->nF ls aa i (f6 t r):=λr hr =>
  ⟨I4 h.1,λx hx=>by
   rcases Lx hx with rfl|hx
   .exact hr
   .exact h.2 x hx⟩
 unfold vp
 split
 next hf=>
  have hx:t.getD (rH t p) default∈t:=by
   have:=bW (xs:=t) (i:=(rH t p:Nat)) ab ab;simpa using this
  have hx:=h.2 _ hx;split
  .exact h
  .rename_i hn;exact put _ ⟨hp,ha,ac0 _ _,L5 hx.pw hn,λy hy=>by
    rcases J2 hy with rfl|hy
    .exact hk
    .exact hx.ln y hy,hx.w0,hx.w1⟩
 .exact put _ ⟨hp,ha,aC,List.pairwise_singleton _ _,λy hy=>by rw[jR.1 hy];exact hk,h0,h1⟩
structure RI (ls:List aN) (aa:ad) (ns0 ns:List ar):Prop where
 n:ns.length=ns0.length
 e:∀ i:Nat,i<ns0.length->yR (ns.getD i default) []=yR (ns0.getD i default) []
 t:∀ i:Nat,i<ns0.length->nF ls aa i (bf (ns.getD i default))
theorem RI.ports {ls aa ns0 ns} (h:RI ls aa ns0 ns) {i:Nat} (hi:i<ns0.length):aA (ns.getD i default)=aA (ns0.getD i default):=by
 have:=iB aA (h.e i hi);exact this
theorem RI.host {ls aa ns0 ns} (h:RI ls aa ns0 ns) {i:Nat} (hi:i<ns0.length):mS (ns.getD i default)=mS (ns0.getD i default):=by
 have:=iB mS (h.e i hi);exact this
theorem RI.route {ls aa ns0 ns} (h:RI ls aa ns0 ns) {a:Int} {p:d8} {k way:Int} (a0:0<=a) (a1:a<ns0.length) (hp:p.2=32) (ha:p.1∈aa) (hk:lnk ls a k) (h0:1<=way) (h1:way<=3) :
  RI ls aa ns0 (qQ ns a p k way):=by
 have hl:a.toNat<ns.length:=by have:=h.n;omega
 unfold qQ
 refine⟨by rw[fV];exact h.n,λi hi=>?_,λi hi=>?_⟩
 .by_cases e:a.toNat=i
  .subst e;rw[jN hl];exact h.e _ hi
  .rw[m7 e];exact h.e _ hi
 .by_cases e:a.toNat=i
  .subst e;rw[jN hl];have:=ag0 (h.t _ hi) (p:=p) (k:=k) (way:=way) hp ha (by rwa [show ((a.toNat:Nat):Int)=a by omega]) h0 h1;exact this
  .rw[m7 e];exact h.t _ hi
theorem RI.step {ls aa ns0 ns} (h:RI ls aa ns0 ns) {d:ad} {to:Int} {p:d8} {plain:Bool} {k way a b:Int} (a0:0<=a) (a1:a<ns0.length) (hp:p.2=32) (ha:p.1∈aa) (hk:lnk ls a k) (h0:1<=way) (h1:way<=3) :
  RI ls aa ns0 (rI d to p plain k way ns a b):=by
 unfold rI
 split
 .exact h
 .split
  .exact h
  .exact h.route a0 a1 hp ha hk h0 h1
def iR(n:Nat)(ls:List aN):Prop:=∀ l∈ls,0<=l.1/\l.1<n/\0<=l.2.1/\l.2.1<n
theorem iR.at'{n:Nat}{ls:List aN}(hg:iR n ls){k:Nat}(hk:k<ls.length):(0<=lA (ls.getD k default)/\lA (ls.getD k default)<n)/\0<=lB (ls.getD k default)/\lB (ls.getD k default)<n:=by
 have hx:ls.getD k default∈ls:=by
  have:=bW (xs:=ls) (i:=(k:Nat)) ab ab;simpa using this
 obtain⟨q1,q2,q3,q4⟩:=hg _ hx
 exact⟨⟨q1,q2⟩,q3,q4⟩
theorem KY{ls:List aN}{k:Nat}(hk:k<ls.length):lnk ls (lA (ls.getD k default)) k:=⟨by omega,by omega,.inl (by simp)⟩
theorem NA{ls:List aN}{k:Nat}(hk:k<ls.length):lnk ls (lB (ls.getD k default)) k:=⟨by omega,by omega,.inr (by simp)⟩
theorem RI.stepK {ls aa ns0 ns} (h:RI ls aa ns0 ns) (hg:iR ns0.length ls) {d:ad} {to:Int} {p:d8} {plain:Bool} {way:Int} {k:Nat} (hk:k<ls.length) (hp:p.2=32) (ha:p.1∈aa) (h0:1<=way) (h1:way<=3) :
  RI ls aa ns0 (stepK ls d to p plain way ns k):=by
 have hh:=hg.at' hk
 unfold Go.RS.stepK
 exact (h.step hh.1.1 hh.1.2 hp ha (KY hk) h0 h1).step hh.2.1 hh.2.2 hp ha (NA hk) h0 h1
theorem RI.stepKs {ls aa ns0 ns} (h:RI ls aa ns0 ns) (hg:iR ns0.length ls) {d:ad} {to:Int} {p:d8} {plain:Bool} {way:Int} (hp:p.2=32) (ha:p.1∈aa) (h0:1<=way) (h1:way<=3) {n:Nat} (hn:n<=ls.length) :
  RI ls aa ns0 ((range n).foldl (Go.RS.stepK ls d to p plain way) ns) :=
 yK _ _ h λk hk b hb=>hb.stepK hg (by have:=List.mem_range.1 hk;omega) hp ha h0 h1
theorem RI.stepP {ls aa ns0 ns} (h:RI ls aa ns0 ns) (hg:iR ns0.length ls) {d:ad} {to:Int} {plain:Bool} {way:Int} {q:oe} (ha:q.1∈aa) (h0:1<=way) (h1:way<=3) :
  RI ls aa ns0 (stepP ls d to plain way ns q) :=
 h.stepKs (p:=(q.1,32)) hg rfl ha h0 h1 (eZ _)
def jb(ns:List ar):ad:=ns.flatMap λx=>(aA x).map (·.1)
theorem M2{ns:List ar}{i:Nat}(hi:i<ns.length){q:oe}(hq:q∈aA (ns.getD i default)):q.1∈jb ns:=by
 have hx:ns.getD i default∈ns:=by
  have:=bW (xs:=ns) (i:=(i:Nat)) ab ab;simpa using this
 exact List.mem_flatMap.2 ⟨_,hx,List.mem_map.2 ⟨q,hq,rfl⟩⟩
theorem RI.stepPs {ls ns0 ns} (h:RI ls (jb ns0) ns0 ns) (hg:iR ns0.length ls) {d:ad} {to:Int} {plain:Bool} {way:Int} (h0:1<=way) (h1:way<=3) {l:List oe} (hl:∀ q∈l,q.1∈jb ns0) :
  RI ls (jb ns0) ns0 (l.foldl (Go.RS.stepP ls d to plain way) ns) :=
 yK _ _ h λq hq b hb=>hb.stepP hg (hl q hq) h0 h1
theorem OY{c:aZ}(h:cV c):cV (nZ c).2/\1<=(nZ c).1/\(nZ c).1<=3:=by
 have k:=dk h 3
 have k2:=dk k.1 3
 have:=fp h (n:=3) ab
 unfold nZ
 split
 .refine⟨k2.1,?_⟩;dsimp only;split <;> omega
 .exact⟨k.1,by dsimp only;omega,by dsimp only;omega⟩
theorem RI.stepT {ls ns0} {s:List ar×aZ} (h:RI ls (jb ns0) ns0 s.1/\cV s.2) (hg:iR ns0.length ls) {plain:Bool} {to:Nat} (ht:to<ns0.length) :
  RI ls (jb ns0) ns0 (stepT ls plain s to).1/\cV (stepT ls plain s to).2:=by
 have w:=OY h.2
 unfold Go.RS.stepT
 refine⟨h.1.stepPs hg w.2.1 w.2.2 λq hq=>?_,w.1⟩
 rw[h.1.ports ht] at hq
 exact M2 ht hq
theorem RI.stepTs {ls ns0} {s:List ar×aZ} (h:RI ls (jb ns0) ns0 s.1/\cV s.2) (hg:iR ns0.length ls) {plain:Bool} {n:Nat} (hn:n<=ns0.length) :
  RI ls (jb ns0) ns0 ((range n).foldl (Go.RS.stepT ls plain) s).1/\cV ((range n).foldl (Go.RS.stepT ls plain) s).2 :=
 yK (λs:List ar×aZ=>RI ls (jb ns0) ns0 s.1/\cV s.2) _ h λk hk b hb=>RI.stepT hb hg (by have:=List.mem_range.1 hk;omega)
theorem RI.start{ls:List aN}{ns0:List ar}(h:∀ x∈ns0,bf x=[]):RI ls (jb ns0) ns0 ns0:=by
 refine⟨rfl,λ_ _=>rfl,λi hi=>?_⟩
 have hx:ns0.getD i default∈ns0:=by
  have:=bW (xs:=ns0) (i:=(i:Nat)) ab ab;simpa using this
 rw[h _ hx]
 exact⟨List.Pairwise.nil,λr hr=>by cases hr⟩
def pd(i:Int)(k:Nat)(l:aN):List oe:=(if lA l=i then [(gA k+1,(k:Int))] else [])++(if lB l=i then [(gA k+2,(k:Int))] else [])
def portsF(i:Int):Nat->List aN->List oe
 | _,[]=>[]
 | k,l::r=>pd i k l++portsF i (k+1) r
theorem OJ(i:Int)(l:aN):∀(k:Nat)(ls:List aN),portsF i k (ls++[l])=portsF i k ls++pd i (k+ls.length) l
 | k,[]=>by simp[portsF]
 | k,x::r=>by
  rw[jS,portsF,OJ i l (k+1) r,portsF,iN,cQ,show k+1+r.length=k+(r.length+1) by omega]
theorem Vt(i:Int)(k:Nat)(l:aN):(pd i k l).length<=2:=by
 unfold pd
 split <;> split <;> simp
theorem z5(i:Int):∀(k:Nat)(ls:List aN),(portsF i k ls).length<=2*ls.length
 | k,[]=>by simp[portsF]
 | k,x::r=>by
  have:=z5 i (k+1) r;have:=Vt i k x;rw[portsF,cD,cQ];omega
theorem O5{i:Int}:∀{k:Nat}{ls:List aN},(∀ x∈ls,lA x≠i/\lB x≠i)->portsF i k ls=[]
 | k,[],_=>rfl
 | k,x::r,h=>by
  have hx:=h x fF;rw[portsF,O5 λy hy=>h y (fw _ hy),pd,af hx.1,af hx.2];rfl
theorem Ab{i:Int}{q:oe}:∀{k:Nat}{ls:List aN},q∈portsF i k ls↔∃ j,j<ls.length/\((lA (ls.getD j default)=i/\q=(gA (k+j:Nat)+1,((k+j:Nat):Int)))∨(lB (ls.getD j default)=i/\q=(gA (k+j:Nat)+2,((k+j:Nat):Int))))
 | k,[]=>by simp[portsF]
 | k,x::r=>by
  rw[portsF,dH,Ab (k:=k+1) (ls:=r)];constructor
  .rintro (h|⟨j,hj,h⟩)
   .refine⟨0,aC,?_⟩;unfold pd at h;rcases dH.1 h with h|h
    .split at h
     next e=>exact .inl ⟨e,by simpa using h⟩
     .cases h
    .split at h
     next e=>exact .inr ⟨e,by simpa using h⟩
     .cases h
   .refine⟨j+1,by rw[cQ];omega,?_⟩;rw[List.getD_cons_succ,show k+(j+1)=k+1+j by omega];exact h
  .rintro⟨j,hj,h⟩;cases j with
   | zero =>
    refine .inl ?_;rw[List.getD_cons_zero] at h;unfold pd;rcases h with⟨e,h⟩|⟨e,h⟩
    .rw[am e];exact dH.2 (.inl (by simpa using h))
    .rw[am e];exact dH.2 (.inr (by simpa using h))
   | succ j =>
    refine .inr ⟨j,by rw[cQ] at hj;omega,?_⟩;rw[List.getD_cons_succ,show k+(j+1)=k+1+j by omega] at h;exact h
theorem Nr{α:Type} [Inhabited α] {l m:List α} {i:Nat} (h:i<l.length):(l++m).getD i default=l.getD i default:=by
 rw[ce,kA h,ce]
theorem L4{α:Type} [Inhabited α] {l:List α} {x:α}:(l++[x]).getD l.length default=x:=by
 rw[ce];simp
theorem EL{ns:List ar}{x:Int}{p:oe}(x0:0<=x){i:Nat}(hi:i<ns.length) :
  (j5 ns x p).getD i default=((ns.getD i default).1++(if x=i then [p] else []),(ns.getD i default).2):=by
 unfold j5
 by_cases e:x=i
 .have:x.toNat=i:=ab;rw[this,jN hi,am e]
 .have:x.toNat≠i:=ab;rw[m7 this,af e,ke]
theorem HA(ns:List ar)(x:Int)(p:oe):(j5 ns x p).length=ns.length:=by unfold j5;exact fV
structure GI (s:bG) (nn nl:Nat):Prop where
 n:s.1.1.length=nn
 l:s.1.2.1.length=nl
 h:s.1.2.2=[]
 c:cV s.2
 g:∀ x∈s.1.2.1,(0<=lA x/\lA x<nn)/\(0<=lB x/\lB x<nn)/\lA x≠lB x/\(1<=mL x/\mL x<=20)/\iH x=0/\mP x=0/\0<=uH x/\uH x<=255
 p:∀ i:Nat,i<nn->aA (s.1.1.getD i default)=portsF i 0 s.1.2.1
 d:∀ i:Nat,i<nn→∃ host f sd,(s.1.1.getD i default).2=(rg i host f sd).2/\(f=64∨f=255∨f=128)/\0<=sd/\sd<=255
theorem GI.node{s:bG}{nn nl:Nat}(h:GI s nn nl)(host:Bool):GI (j4 s host) (nn+1) nl:=by
 have k3:=fp h.c (n:=3) ab
 have c3:=(dk h.c 3).1
 have k4:=fp c3 (n:=256) ab
 have c4:=(dk c3 256).1
 refine⟨by simp only[j4,cD,cQ,List.length_nil,h.n],h.l,h.h,c4,λx hx=>?_,λi hi=>?_,λi hi=>?_⟩
 .have:=h.g x hx;omega
 .by_cases e:i<nn
  .rw[show (j4 s host).1.1.getD i default=s.1.1.getD i default from Nr (by rw[h.n];exact e)];exact h.p i e
  .have e:i=s.1.1.length:=by rw[h.n];omega
   subst e;rw[show (j4 s host).1.1.getD s.1.1.length default=rg s.1.1.length host _ _ from L4];refine (O5 λx hx=>?_).symm;have:=h.g x hx;have:=h.n;omega
 .by_cases e:i<nn
  .rw[show (j4 s host).1.1.getD i default=s.1.1.getD i default from Nr (by rw[h.n];exact e)];exact h.d i e
  .have e:i=s.1.1.length:=by rw[h.n];omega
   subst e;rw[show (j4 s host).1.1.getD s.1.1.length default=rg s.1.1.length host _ _ from L4];refine⟨host,_,_,rfl,?_,k4.1,ab⟩;rcases (show (aw s.2 3).1=0∨(aw s.2 3).1=1∨(aw s.2 3).1=2 by omega) with e|e|e <;> rw[e] <;> simp
theorem GI.link{s:bG}{nn nl:Nat}(h:GI s nn nl){a b:Int}(a0:0<=a)(a1:a<nn)(b0:0<=b)(b1:b<nn)(ne:a≠b):GI (ji s a b) nn (nl+1):=by
 have k3:=fp h.c (n:=20) ab
 have c3:=(dk h.c 20).1
 have k4:=fp c3 (n:=256) ab
 have c4:=(dk c3 256).1
 refine⟨by simp only[ji,HA,h.n],by simp only[ji,cD,cQ,List.length_nil,h.l],h.h,c4,λx hx=>?_,λi hi=>?_,λi hi=>?_⟩
 .rcases dH.1 hx with hx|hx
  .exact h.g x hx
  .rw[jR.1 hx];refine⟨⟨a0,a1⟩,⟨b0,b1⟩,ne,?_,rfl,rfl,k4.1,?_⟩
   .show 1<=1+(aw s.2 20).1/\1+(aw s.2 20).1<=20;omega
   .show (aw (aw s.2 20).2 256).1<=255;omega
 .have hp:=h.p i hi;unfold ji;dsimp only;rw[EL b0 (by rw[HA,h.n];exact hi),EL a0 (by rw[h.n];exact hi),OJ,← hp,gz];simp only[aA,pd,lA,lB,iN];rfl
 .unfold ji;dsimp only;rw[EL b0 (by rw[HA,h.n];exact hi),EL a0 (by rw[h.n];exact hi)];exact h.d i hi
theorem GI.codes{s:bG}{nn nl:Nat}(h:GI s nn nl){c:aZ}(hc:cV c):GI (s.1,c) nn nl:=⟨h.n,h.l,h.h,hc,h.g,h.p,h.d⟩
theorem GI.start{c:aZ}(hc:cV c):GI (([],[],[]),c) 0 0 :=
 ⟨rfl,rfl,rfl,hc,λx hx=>(by cases hx),λi hi=>ab,λi hi=>ab⟩
theorem GI.routes{s:bG}{nn nl:Nat}(h:GI s nn nl):∀ x∈s.1.1,bf x=[]:=λx hx=>by
 obtain⟨i,hi,e⟩:=List.mem_iff_getElem.1 hx
 obtain⟨host,f,sd,hd,-⟩:=h.d i (by rw[← h.n];exact hi)
 have:s.1.1.getD i default=x:=by rw[ce,cF hi,e];rfl
 rw[this] at hd
 show x.2.2.2.2.1=[]
 rw[hd];rfl
theorem GI.plen{s:bG}{nn nl:Nat}(h:GI s nn nl):∀ x∈s.1.1,x.1.length<=2*nl:=λx hx=>by
 obtain⟨i,hi,e⟩:=List.mem_iff_getElem.1 hx
 have hp:=h.p i (by rw[← h.n];exact hi)
 have:s.1.1.getD i default=x:=by rw[ce,cF hi,e];rfl
 rw[this] at hp
 have:=z5 i 0 s.1.2.1
 rw[← hp,h.l] at this;exact this
theorem Ew:∀{ns:List ar}{m:Nat},(∀ x∈ns,x.1.length<=m)->(jb ns).length<=ns.length*m
 | [],m,_=>by simp[jb]
 | x::r,m,h=>by
  have k:=Ew (ns:=r) (m:=m) λy hy=>h y (fw _ hy);have hx:=h x fF;unfold jb at k ⊢;rw[List.flatMap_cons,cD,qm,cQ,Nat.succ_mul];show (aA x).length+_<=_;have:(aA x).length<=m:=hx;omega
theorem GI.ends{s:bG}{nn nl:Nat}(h:GI s nn nl):iR s.1.1.length s.1.2.1:=λx hx=>by
 have:=h.g x hx
 rw[h.n]
 exact⟨this.1.1,this.1.2,this.2.1.1,this.2.1.2⟩
theorem GI.chain{s:bG}(h:GI s 1 0):∀ k:Nat,GI ((range k).foldl ro s) (k+1) k
 | 0=>h
 | k+1=>by
  rw[mM,j9];exact ((GI.chain h k).node false).link ab ab ab ab ab
def bV(c:aZ):Int:=1+(aw (j4 (([],[],[]),c) true).2 5).1
def uL(c:aZ):bG:=((j4 (([],[],[]),c) true).1,(aw (j4 (([],[],[]),c) true).2 5).2)
theorem K4{c:aZ}(h:cV c):GI (uL c) 1 0:=((GI.start h).node true).codes (dk ((GI.start h).node true).c 5).1
theorem vq{c:aZ}(h:cV c):1<=bV c/\bV c<=5:=by
 have:=fp ((GI.start h).node true).c (n:=5) ab
 unfold bV;omega
theorem IB(c:aZ):ni c=(bV c,ji (j4 ((range (bV c).toNat).foldl ro (uL c)) true) (bV c) (bV c+1)):=rfl
theorem Ei{c:aZ}(h:cV c):GI (ni c).2 ((bV c).toNat+2) ((bV c).toNat+1):=by
 have:=vq h
 rw[IB]
 exact (((K4 h).chain _).node true).link ab ab ab ab ab
theorem GI.short{s:bG}{nn nl:Nat}(h:GI s nn nl){n:Int}(n1:1<=n)(hn:n+2<=nn):∃ m,nl<=m/\m<=nl+1/\GI (sj n s) nn m:=by
 have ka:=fp h.c (n:=n) ab
 have ca:=(dk h.c n).1
 have kb:=fp ca (n:=n) ab
 have cb:=(dk ca n).1
 unfold sj
 dsimp only
 split
 .exact⟨nl,ab,ab,h.codes cb⟩
 next e=>exact⟨nl+1,ab,ab,(h.codes cb).link ab ab ab ab ab⟩
theorem GI.shorts{s:bG}{nn nl:Nat}(h:GI s nn nl){n:Int}(n1:1<=n)(hn:n+2<=nn):∀ k:Nat,∃ m,nl<=m/\m<=nl+k/\GI ((range k).foldl (λs _=>sj n s) s) nn m
 | 0=>⟨nl,ab,ab,h⟩
 | k+1=>by
  obtain⟨m,m0,m1,hm⟩:=GI.shorts h n1 hn k;obtain⟨m',q0,q1,hq⟩:=hm.short n1 hn;refine⟨m',ab,ab,?_⟩;rw[mM,j9];exact hq
def qe(plain:Bool)(n:Int)(s:bG)(k:Nat):bG:=if 1<n/\plain=false then (range k).foldl (λs _=>sj n s) (s.1,(aw s.2 4).2) else (s.1,(aw s.2 4).2)
theorem PX{s:bG}{nn nl:Nat}(h:GI s nn nl){plain:Bool}{n:Int}(n1:1<=n)(hn:n+2<=nn)(k:Nat):∃ m,nl<=m/\m<=nl+k/\GI (qe plain n s k) nn m:=by
 have hc:=h.codes (dk h.c 4).1
 unfold qe
 split
 .exact hc.shorts n1 hn k
 .exact⟨nl,ab,ab,hc⟩
theorem Hw(plain:Bool)(n:Int)(s:bG):xS plain n s=(let s1:=qe plain n s (aw s.2 4).1.toNat
  if plain=true/\2<n then
   if (aw s1.2 2).1=1 then ji (s1.1,(aw (aw s1.2 2).2 (n-1)).2) (1+(aw (aw s1.2 2).2 (n-1)).1) n else (s1.1,(aw s1.2 2).2)
  else s1):=rfl
theorem ad1{s:bG}{nn nl:Nat}(h:GI s nn nl){plain:Bool}{n:Int}(n1:1<=n)(hn:n+2<=nn):∃ m,nl<=m/\m<=nl+4/\GI (xS plain n s) nn m:=by
 have k4:=fp h.c (n:=4) ab
 obtain⟨m,m0,m1,hm⟩:=PX h (plain:=plain) n1 hn (aw s.2 4).1.toNat
 rw[Hw]
 dsimp only
 generalize qe plain n s (aw s.2 4).1.toNat=t at hm ⊢
 have c2:=(dk hm.c 2).1
 have c3:=(dk c2 (n-1)).1
 split
 next e=>
  split
  .have k5:=fp c2 (n:=n-1) ab;exact⟨m+1,ab,ab,(hm.codes c3).link ab ab ab ab ab⟩
  .exact⟨m,ab,ab,hm.codes c2⟩
 .exact⟨m,ab,ab,hm⟩
theorem Dy{c:aZ}(h:cV c)(plain:Bool):∃ m,2<=m/\m<=10/\GI (xS plain (ni c).1 (ni c).2) ((bV c).toNat+2) m:=by
 have hn:=vq h
 obtain⟨m,m0,m1,hm⟩:=ad1 (Ei h) (plain:=plain) (n:=bV c) hn.1 ab
 exact⟨m,ab,ab,hm⟩
end Go.RS
