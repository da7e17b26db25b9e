/- Law08: the laws of answers. -/
import Derived.Test.YtpdpkobkpacbnaaGreatDoorNodec
import Derived.Test.YtpdpkobkpacbnaaGreatDoorNode2
set_option maxRecDepth 100000
set_option linter.unusedVariables false
open Int (toNat)
open List (length take getD set replicate range)
namespace Go.RS
open Go.SX Go.Proofs
theorem ak8{n:qj}(h0:jK n=0)(hb:bytes n.2.2):kJ (iE n)=0/\kr (iE n)=n:=by
 have h1:(n.1=3∨n.1=11)/\0<=n.2.1/\n.2.1<=255:=fq λk=>by rw[jK,am k] at h0;cases h0
 have h2:¬ (n.2.2.length:Int)<28:=λk=>by rw[jK,af (λq=>q h1),am k] at h0;cases h0
 have h3:¬ (1472:Int)<n.2.2.length:=λk=>by rw[jK,af (λq=>q h1),af h2,am k] at h0;cases h0
 have hc:=qe (Ja (e:=n) h1 hb)
 obtain⟨t,k,l⟩:=n
 simp only at h1 h3 hb hc h2
 generalize hB:iE (t,k,l)=B
 have hs:B=t::k::(dg (mX (t,k,l))/256%256)::(dg (mX (t,k,l))%256)::0::0::0::0::l:=by rw[← hB,iE,am h0];rfl
 have i2:aH B (toNat 2)=dg (mX (t,k,l))/256%256*256+dg (mX (t,k,l))%256:=by rw[hs];exact ip _ _ _
 have i4:aH B (toNat 4)=0:=by rw[hs];exact (ip 0 0 _)
 have i6:aH B (toNat 6)=0:=by rw[hs];exact (ip 0 0 _)
 have hset:cR B (toNat 2) 0=mX (t,k,l):=by rw[hs];rfl
 have hlen:(B.length:Int)=8+l.length:=by rw[hs];simp only[dM];omega
 have g0:B.getD (toNat 0) default=t:=by rw[hs];rfl
 have g1:B.getD (toNat 1) default=k:=by rw[hs];rfl
 have g8:B.drop 8=l:=by rw[hs];rfl
 have he:kJ B=0:=by
  rw[kJ,af ab,af (λq=>q ⟨by rw[g0];exact h1.1,i4,i6⟩),af ab,af];rw[hset,i2,mG hc.1 hc.2];exact λq=>q rfl
 refine⟨he,?_⟩
 rw[kr,am he,g0,g1,g8]
theorem Jc{n:qj}(h0:jK n=0):(iE n).getD 0 default=n.1/\(iE n).length=8+n.2.2.length:=by
 rw[iE,am h0];exact⟨rfl,by rw[mN,HO]⟩
theorem Et{n:qj}(h0:jK n=0)(hb:bytes n.2.2):bytes (iE n):=by
 have h1:(n.1=3∨n.1=11)/\0<=n.2.1/\n.2.1<=255:=fq λk=>by rw[jK,am k] at h0;cases h0
 rw[iE,am h0];exact tW (Ja h1 hb)
structure da (p:bz):Prop where
 ok:cf p=0
 s:u32 p.1
 d:u32 p.2.1
theorem da.dec{p:bz}(g:da p):bI (build p)=sj p/\bX (build p)=0/\(build p).drop 20=fu p:=EY g.ok g.s g.d
theorem da.len{p:bz}(g:da p):((p.2.2.1≠6/\(build p).length=30)∨(p.2.2.1=6/\(build p).length=40)):=by
 rw[FQ g.ok,cu,sK]
 rcases xN g.ok with h|h
 .exact .inl ⟨h.1,by rw[h.2]⟩
 .exact .inr ⟨h.1,by rw[h.2]⟩
theorem P3{p:bz}(g:da p):(p.2.2.1=1->(fu p).getD 0 default=8)/\(p.2.2.1=6->(fu p).getD 13 default=2):=by
 have hr:=(lh.1 g.ok).2
 constructor
 .intro h;rw[yV hr h];rfl
 .intro h;rw[zR hr h];rfl
theorem Ib{p:bz}(g:da p):dH (build p)↔fC p.1:=by
 obtain⟨e1,e2,e3⟩:=g.dec
 have hs:cL (build p)=p.1:=by rw[cL,e1];rfl
 constructor
 .intro h;rw[← hs];exact (qU h).2.2.2.2
 .intro hu;refine ac0 e2 (by rcases g.len with h|h <;> omega) ?_ ?_ (by rw[hs];exact hu)
  .rw[e3];intro h;exact (P3 g).1 (by rw[dm,e1] at h;exact h)
  .rw[e3];intro h _;rw[(P3 g).2 (by rw[dm,e1] at h;exact h)];decide
theorem Sv{p:bz}(g:da p):(p.2.2.1=1->aH (fu p) 4=21075/\aH (fu p) 6=p.2.2.2.2.1)/\(p.2.2.1=17->aH (fu p) 4=10/\aH (fu p) 6=p.2.2.2.2.1+1)/\(p.2.2.1=6->fp (((fu p).drop 4).take 4)=p.2.2.2.2.1):=by
 have hr:=(lh.1 g.ok).2
 obtain⟨hf,ht,-⟩:=id hr
 refine⟨λh=>?_,λh=>?_,λh=>?_⟩
 .rw[yV hr h,wF (by show 4+2<=10;omega) ab,wF (by show 6+2<=10;omega) ab];refine⟨rfl,?_⟩;show aH (_::_::_) 0=_;rw[ip];exact mG (n:=p.2.2.2.2.1) ab ab
 .have hs:=Wu hr;rw[A6 hr h,wF (by show 4+2<=10;omega) ab,EZ (by show 6+2<=10;omega) ab ab];refine⟨?_,hs⟩;show aH (_::_::_) 0=10;rw[ip];have:((rV p).2.2.length:Int)=2:=rfl;rw[this];decide
 .rw[zR hr h];show fp [_,_,_,_]=_;rw[Co];exact GD (n:=p.2.2.2.2.1) ⟨ab,ab⟩
theorem Sp{p:bz}(g:da p):((build p).take 28).length=28/\bytes ((build p).take 28)/\fG ((build p).take 28)=(p,true):=by
 obtain⟨e1,e2,e3⟩:=g.dec
 have hl28:((build p).take 28).length=28:=by rw[dA];rcases g.len with h|h <;> omega
 refine⟨hl28,Dx (Kc p),?_⟩
 have hF:bI ((build p).take 28)=sj p:=by
  rw[← e1];unfold bI;rw[vy ab,vy ab,vy ab,r5 ab,r5 ab,zZ ab,zZ ab]
 have hpk:dX ((build p).take 28)=0:=by
  have h0:=Ee e2;have hlen:20<=(build p).length:=by rcases g.len with h|h <;> omega
  rw[dX,af ab] at h0 ⊢;rw[vy ab,r5 ab,r5 ab,r5 ab,List.take_take];exact h0
 have wq:∀ i,i+2<=8->aH ((build p).take 28) (20+i)=aH (fu p) i:=λi hi=>by
  rw[r5 ab,← e3];unfold aH;rw[List.drop_drop]
 have w0:=wq 0 ab
 have w2:=wq 2 ab
 have w4:=wq 4 ab
 have w6:=wq 6 ab
 have n4:fp ((((build p).take 28).drop 24).take 4)=fp (((fu p).drop 4).take 4):=by rw[zZ ab,← e3,List.drop_drop]
 have cw:=Mh g.ok
 have cm:=Sv g
 have hlw:aH ((build p).take 28) 2=(build p).length:=by rw[r5 ab,(wy e2).2]
 have hq:BB ((build p).take 28):=⟨hpk,hl28,by rw[hF];rfl,by rw[hF];rfl⟩
 have hpr:dm ((build p).take 28)=p.2.2.1:=by rw[dm,hF];rfl
 have hfl:xq ((build p).take 28)=p.2.2.2.1:=by
  rw[xq,hpr];have w0:aH ((build p).take 28) 20=aH (fu p) 0:=w0;rw[w2,w0,cw.1,cw.2];rcases (lh.1 g.ok).1 with h|h|h <;> simp[h,wT,vR] <;> omega
 have hP:qQ ((build p).take 28)=p:=by
  rw[qQ,hfl,hpr,cL,gf,hF];rfl
 rw[fG,am hq,hP]
 have hR:qh ((build p).take 28):=by
  unfold qh;rw[hpr,hF];have w0:aH ((build p).take 28) 20=aH (fu p) 0:=w0;rw[w0,w2,w4,w6,n4,cw.1,cw.2,hlw];rcases (lh.1 g.ok).1 with h|h|h
  .refine .inl ⟨h,?_,by rw[wT,am h],(cm.1 h).1,(cm.1 h).2⟩;rcases g.len with k|k <;> omega
  .refine .inr (.inr ⟨h,?_,by rw[vR,af ab,af ab],cm.2.2 h⟩);rcases g.len with k|k <;> omega
  .refine .inr (.inl ⟨h,?_,by rw[vR,af ab,am h],?_,(cm.2.1 h).2⟩)
   .rcases g.len with k|k <;> omega
   .rw[(cm.2.1 h).1];rcases g.len with k|k <;> omega
 rw[cM ⟨hR,g.ok⟩]
theorem yi{src dst proto id ttl:Int}{data:ae}(hn:iW id ttl)(hp:0<=proto/\proto<=255)(hs:u32 src)(hd:u32 dst)(hl:(data.length:Int)<=1480)(hb:bytes data) :
  bX (d8 (i7 src dst proto id ttl data))=0/\bI (d8 (i7 src dst proto id ttl data))=(0,id,ttl,proto,false,src,dst)/\(d8 (i7 src dst proto id ttl data)).drop 20=data/\(d8 (i7 src dst proto id ttl data)).length=20+data.length:=by
 have h0:=Al (src:=src) (dst:=dst) hn hp hl
 obtain⟨⟨a,b⟩,c,d⟩:=hn
 rw[d8,am h0]
 have:=HT (h:=(0,id,ttl,proto,false,src,dst)) (X:=data) ⟨⟨f8 _,by simp only;omega⟩,⟨c,d⟩,hp,a,b⟩ hs hd hl hb
 refine⟨this.2.1,this.1,this.2.2,?_⟩
 show (iY _ _++data).length=_
 rw[cu,sK]
structure CC (p:bz) (a:rR) (x:ae):Prop where
 no:¬ dH x
 rd:jQ x=(tJ p 0,a)
 re:pT x=0
 len:x.length<=1500
theorem da.t1{p:bz}(g:da p)(t:Int)(h:1<=t/\t<=255):cf (tJ p t)=0:=by
 obtain⟨h1,h2,h3,-⟩:=lh.1 g.ok
 exact lh.2 ⟨h1,h2,h3,h⟩
theorem Gl{p:bz}{a:rR}{x:ae}(g:da p)(hd:bX x=0)(hr:kC x=(tJ p 0,(0,a.2.1,a.2.2.1,0,0,a.2.2.2.2.2),true))(ha:a.1=cL x)(hl:a.2.2.2.1=(bI x).2.2.1)(hi:a.2.2.2.2.1=(bI x).2.1)(hn:¬ dH x):CC p a x:=by
 have hg:t5 x:=⟨hd,by rw[hr],by rw[hr];exact g.t1 1 ab⟩
 have:=wy hd
 refine⟨hn,?_,by rw[pT,am hg],ab⟩
 rw[jQ,am hg,hr,← ha,← hl,← hi]
theorem DB{p:bz}(g:da p)(hu:fC p.1){from' kind code id ttl:Int}(hf:u32 from')(hg:pF kind code id ttl) :
  fY (build p) kind code id ttl=0/\CC p (from',uR kind code,code,ttl,id,p.2.2.2.2.2) (jv (build p) from' kind code id ttl)/\(jv (build p) from' kind code id ttl).length=56:=by
 have ha:=(Ib g).2 hu
 obtain⟨e0,eB,en,-⟩:=BW (src:=from') hg ha
 obtain⟨e1,-,-⟩:=g.dec
 obtain⟨ql,qb,qv⟩:=Sp g
 have hs:cL (build p)=p.1:=by rw[cL,e1];rfl
 have hk:=hg.1
 refine⟨e0,?_⟩
 rw[eB,hs]
 generalize hD:iE (kind,code,(build p).take 28)=D
 have un:=ak8 en qb
 have nf:=Jc en
 have nb:=Et en qb
 rw[hD] at un nf nb
 rw[ql] at nf
 have sb:=yi (src:=from') (dst:=p.1) (proto:=1) (data:=D) hg.2.2 ab hf g.s ab nb
 generalize d8 (i7 from' p.1 1 id ttl D)=x at sb
 obtain⟨s1,s2,s3,s4⟩:=sb
 have hp1:dm x=1:=by rw[dm,s2]
 have hns:¬ D.getD 0 default=8:=by rw[nf.1];simp only;omega
 refine⟨Gl g s1 ?_ (by rw[cL,s2]) (by rw[s2]) (by rw[s2]) (λk=>?_),by rw[s4,nf.2]⟩
 .rw[kC,af,am hp1,s3,oT,am un.1,un.2]
  .simp only;rw[qv];simp[gf,s2,tJ]
  .rw[s3];rintro⟨-,-,k⟩;rw[nf.1] at k;simp only at k;omega
 .exact hns (by have:=(qU k).2.2.1 hp1;rw[s3] at this;exact this)
theorem aU2(t n:Int):bO true (cV (true,21075,t,w2 n))=bO true (cV (false,21075,t,w2 n))-2048:=by
 simp[cV,w2,bO];omega
theorem UO(t n:Int):23000<=bO true (cV (false,21075,t,w2 n)):=by
 simp[cV,w2,bO];omega
def s8(p:bz)(id ttl:Int):rR:=if p.2.2.1=6 then (p.2.1,4,0,ttl,id,0) else if p.2.2.1=17 then (p.2.1,3,3,ttl,id,p.2.2.2.2.2) else (p.2.1,2,0,ttl,id,0)
theorem KR{p:bz}(g:da p)(hu:fC p.1){id ttl:Int}(hn:iW id ttl) :
  gI (build p) id ttl=0/\CC p (s8 p id ttl) (jw (build p) p.2.1 id ttl):=by
 have ha:=(Ib g).2 hu
 obtain⟨e1,e2,e3⟩:=g.dec
 have hs:cL (build p)=p.1:=by rw[cL,e1];rfl
 have hd:gf (build p)=p.2.1:=by rw[gf,e1];rfl
 have hpr:dm (build p)=p.2.2.1:=by rw[dm,e1];rfl
 have hr:=(lh.1 g.ok).2
 have hr':=hr
 obtain⟨hf,ht,-⟩:=hr'
 rcases (lh.1 g.ok).1 with h|h|h
 .have eE:fu p=fH (mw p):=by rw[yV hr h,fH,am (NU hr)]
  have u:=QS (Hb hr) (mI _) (by rw[y8];omega);have hh:=C9 (src:=p.2.1) hn ha (by rw[hpr];exact h) (by rw[e3,eE];exact u.1);refine⟨hh.2,?_⟩;rw[hh.1,hs,e3,eE,u.2];have ok2:EX (w2 (rf p)) (true,(mw p).2):=⟨(Hb hr).1,rfl⟩
  have u2:=QS ok2 (mI _) (by rw[y8];omega);have eg:=Du ok2 (by rw[y8];omega);have esh:fH (true,(mw p).2)=cR (cV (true,(mw p).2)) 2 (dg (cV (true,(mw p).2))):=by rw[fH,am eg]
  have bb:bytes (cV (true,(mw p).2)):=xZ (mI _);have hcs:=qe bb;have ecs:dg (cV (true,(mw p).2))=18432+p.2.2.2.1:=by
   have h1:=NN hr;have h2:=aU2 p.2.2.2.2.1 (rf p);have h3:=UO p.2.2.2.2.1 (rf p);unfold dg at h1 ⊢;have k1:mw p=(false,21075,p.2.2.2.2.1,w2 (rf p)):=rfl;rw[k1] at h1 ⊢;simp only;rw[h2];generalize bO true (cV (false,21075,p.2.2.2.2.1,w2 (rf p)))=S at h1 h3 ⊢;unfold oc at h1 ⊢;rw[af ab] at h1 ⊢;omega
  have w2c:aH (fH (true,(mw p).2)) 2=18432+p.2.2.2.1:=by
   rw[esh,EZ (by show 2+2<=10;omega) hcs.1 hcs.2,ecs]
  have hl10:(fH (true,(mw p).2)).length=10:=by rw[esh,mN];rfl
  have hb:bytes (fH (true,(mw p).2)):=by rw[esh];exact tW bb
  have h0:(fH (true,(mw p).2)).getD 0 default=0:=by rw[esh];rfl
  generalize hD:fH (true,(mw p).2)=D at *;have sb:=yi (src:=p.2.1) (dst:=p.1) (proto:=1) (data:=D) hn ab g.d g.s ab hb;generalize d8 (i7 p.2.1 p.1 1 id ttl D)=x at sb;obtain⟨s1,s2,s3,s4⟩:=sb;have hp1:dm x=1:=by rw[dm,s2]
  have hx:gf x=p.1:=by rw[gf,s2]
  have hy:cL x=p.2.1:=by rw[cL,s2]
  rw[s8,af ab,af ab];refine Gl g s1 ?_ hy.symm (by rw[s2]) (by rw[s2]) (λk=>?_)
  .have eg2:B9 D:=⟨u2.1,by rw[u2.2],by rw[u2.2];rfl,by rw[u2.2];rfl⟩
   rw[kC,am ⟨hp1,by rw[s3];omega,by rw[s3];exact h0⟩,s3,qW,am eg2,hx,hy,w2c,u2.2];have e9:18432+p.2.2.2.1-18432=p.2.2.2.1:=ab;rw[e9,tJ,h];rfl
  .have:=(qU k).2.2.1 hp1;rw[s3,h0] at this;cases this
 .have eE:fu p=fQ p.1 p.2.1 (nz p):=by rw[zR hr h,fQ,am (N8 hr)]
  have u:=OC (s:=p.1) (d:=p.2.1) (JA hr) nM aA;have hun:fR (cL (build p)) (gf (build p)) ((build p).drop 20)=nz p:=by rw[hs,hd,e3,eE];exact u.2
  have hh:=EW (src:=p.2.1) hn ha (by rw[hpr];exact h) (by rw[hs,hd,e3,eE];exact u.1) (by rw[hun];show bits .and .i64 2 2≠0;decide) (by rw[hun];show bits .and .i64 2 4=0;decide);refine⟨hh.2,?_⟩;rw[hh.1,hun,hs];have eY:lZ (nz p)=(80,20000+p.2.2.2.1,0,p.2.2.2.2.1+1,20,0,[]):=by
   have:(p.2.2.2.2.1+1)%4294967296=p.2.2.2.2.1+1:=ab;show (80,20000+p.2.2.2.1,0,(p.2.2.2.2.1+1)%4294967296,20,0,[])=_;rw[this]
  have okY:Dz [] (lZ (nz p)):=by
   rw[eY];refine⟨⟨(jL _).2 ⟨?_,?_⟩,(jL _).2 ⟨?_,?_⟩,⟨?_,?_⟩,⟨?_,?_⟩,⟨?_,?_⟩,(jL _).2 ⟨?_,?_⟩⟩,rfl⟩ <;> simp only <;> omega
  have u2:=OC (s:=p.2.1) (d:=p.1) okY nM aA;have eg:=Kr okY aA;have esh:fQ p.2.1 p.1 (lZ (nz p))=cR (kG (lZ (nz p))) 16 (fX p.2.1 p.1 6 (kG (lZ (nz p)))):=by rw[fQ,am eg]
  have hb:bytes (fQ p.2.1 p.1 (lZ (nz p))):=by rw[esh];exact tW (AA okY.1 nM)
  have hl20:(fQ p.2.1 p.1 (lZ (nz p))).length=20:=by rw[esh,mN];rfl
  have h13:(fQ p.2.1 p.1 (lZ (nz p))).getD 13 default=20:=by rw[esh];rfl
  rw[eY] at u2;generalize hD:fQ p.2.1 p.1 (lZ (nz p))=D at *;rw[← eY,hD] at u2;have sb:=yi (src:=p.2.1) (dst:=p.1) (proto:=6) (data:=D) hn ab g.d g.s ab hb;generalize d8 (i7 p.2.1 p.1 6 id ttl D)=x at sb;obtain⟨s1,s2,s3,s4⟩:=sb;have hp1:dm x=6:=by rw[dm,s2]
  have hx:gf x=p.1:=by rw[gf,s2]
  have hy:cL x=p.2.1:=by rw[cL,s2]
  rw[eY] at u2;rw[s8,am h];refine Gl g s1 ?_ hy.symm (by rw[s2]) (by rw[s2]) (λk=>?_)
  .have eg2:B3 p.2.1 p.1 D:=⟨u2.1,by rw[u2.2],by rw[u2.2],by rw[u2.2],by rw[u2.2],by rw[u2.2]⟩
   rw[kC,af (by rw[hp1];omega),af ab,am hp1,s3,hx,hy,qC,am eg2,u2.2];have e9:20000+p.2.2.2.1-20000=p.2.2.2.1:=ab;have e8:p.2.2.2.2.1+1-1=p.2.2.2.2.1:=ab;simp only;rw[e9,e8,tJ,h]
  .have:=(qU k).2.2.2.1 hp1 (by rw[s3];omega);rw[s3,h13] at this;exact absurd this bt
 .have eE:fu p=mE p.1 p.2.1 (rV p):=by rw[A6 hr h,mE,am (LX hr)]
  have u:=ai7 (s:=p.1) (d:=p.2.1) (RW hr) (mI _) (by rw[y8];omega);have hh:=FF (src:=p.2.1) hn ha (by rw[hpr];exact h) (by rw[hs,hd,e3,eE];exact u.1);refine⟨hh.2,?_⟩;rw[hh.1,s8,af ab,am h];exact (DB g hu g.d (kind:=3) (code:=3) ⟨.inr rfl,ab,hn⟩).2.1
def Hd(p:bz)(x:ae):Prop:=(¬ fC p.1->x=[])/\(fC p.1→∃ a:rR,0<a.2.1/\CC p a x)
def Zh:Cn:=⟨[.box 83 jN,.agg ib],[.val cP],λd=>[aS d.1],λd y=>aS y.2.1/\0<=y.1.1/\y.1.1<=4294967295,λd h=>⟨((0,()),(d.1,())),h.1,by simp,by simp⟩⟩
theorem Za :
 ∀(a:ae)(b:Int)(c:List au)(d:List aK)(e:List aV),((a.length<=maxLen/\ ∀(f:Int),f∈a->0<=f/\f<=255)/\aq b)/\((c.length<=maxLen/\ ∀(f:au),f∈c->CT.wf bR f)/\(d.length<=maxLen/\ ∀(f:aK),f∈d->CT.wf fU f)/\e.length<=maxLen/\ ∀(f:aV),f∈e->CT.wf fg f)/\True->0<=b/\b<=(ac a)->ao (decide ((ac c)=0)) (aS (a,b)/\ ∀(f:Int)(g:ae)(h:Int),aS (g,h)/\0<=f/\f<=4294967295->aS (g,h)/\0<=f/\f<=4294967295) (aS (a,b)/\ ∀(f:Int)(g:ae)(h:Int),0<=f/\(f<(ac c)∨f=0)/\aS (g,h)->0<=f/\f<(ac c)/\ ∀(i:Bool),i=decide (((length (ai c f).1):Int)=0)->ao (! i) ((ar (! i))/\aS (g,h)/\ ∀(j:Int)(k:ae)(l:Int),0<=j/\(j<12∨j=0)/\aS (k,l)->(aE i)/\ao (bif i then true else decide (j=11)) (aS (k,l)/\ ∀(m:Int)(n:ae)(o:Int),aS (n,o)/\0<=m/\m<=4294967295->aS (n,o)/\0<=m/\m<=4294967295) (aS (k,l)/\ ∀(m:Int)(n:ae)
 (o:Int),0<=m/\(m<((length (ai c f).1):Int)∨m=0)/\aS (n,o)->0<=m/\m<((length (ai c f).1):Int)/\aS (n,o)/\0<=(getD (ai c f).1 m.toNat default).1/\(getD (ai c f).1 m.toNat default).1<=4294967295)) ((! i)=false/\(i=false->false=true)/\ao (bif i then true else false) (aS (g,h)/\ ∀(j:Int)(k:ae)(l:Int),aS (k,l)/\0<=j/\j<=4294967295->aS (k,l)/\0<=j/\j<=4294967295) (aS (g,h)/\ ∀(j:Int)(k:ae)(l:Int),0<=j/\(j<((length (ai c f).1):Int)∨j=0)/\aS (k,l)->0<=j/\j<((length (ai c f).1):Int)/\aS (k,l)/\0<=(getD (ai c f).1 j.toNat default).1/\(getD (ai c f).1 j.toNat default).1<=4294967295))):=by
  delta ar aE ai ac;rintro l p ns ls hs ⟨-,⟨⟨hnl,hnw⟩,-⟩,-⟩ hc;refine aw (λh=>?_) (λh=>?_)
  .exact⟨hc,λx l2 p2 h=>h⟩
  have h:=aL h;refine⟨hc,?_⟩;rintro x l2 p2 ⟨x0,x1,hc2⟩;have x1:x<(ns.length:Int):=ab;have hX:=hnw _ (bS x0 x1);generalize ns.getD x.toNat default=X at hX ⊢;have hp:=hX.1.2;refine⟨x0,x1,?_⟩;intro b hb;refine aw (λq=>?_) (λq=>?_)
  .have hb0:b=false:=by simpa using q
   subst hb0;have hne:=aL hb.symm;refine⟨aA,hc2,?_⟩;rintro y l3 p3 ⟨y0,y1,hc3⟩;rw[oM]
   (repeat refine⟨aA,?_⟩);refine aw (λq=>?_) (λq=>?_)
   .exact⟨hc3,λx l2 p2 h=>h⟩
   .refine⟨hc3,?_⟩;rintro z l4 p4 ⟨z0,z1,hc4⟩;have z1:z<(X.1.length:Int):=ab;have:=hp _ (bS z0 z1);exact⟨z0,z1,hc4,this.1⟩
  .have hb0:b=true:=by simpa using q
   subst hb0;refine⟨rfl,aA,?_⟩;rw[cond_true];exact⟨hc2,λx l2 p2 h=>h⟩
theorem az5:aB 10 Zh.spec:=qV Tryz.func10 (av (av aD Aj) Qw) aT Za
theorem Iq{α:Type} [DecidableEq α]:∀{l m:List α},l.Nodup->(∀ x∈l,x∈m)->l.length<=m.length
 | [],m,_,_=>aA
 | x::l,m,h,hs=>by
  have hx:=hs x fW;have hn:=List.nodup_cons.1 h;have:=Iq (l:=l) (m:=m.erase x) hn.2 λy hy=>(List.mem_erase_of_ne (λe:y=x=>hn.1 (e▸hy))).2 (hs y (fL _ hy));rw[List.length_erase_of_mem hx] at this;have hp:=List.length_pos_of_mem hx;rw[dM];omega
theorem Ay{α β:Type}(I:β->Prop)(f:β->α->β):∀{l:List α}{b:β},I b->(∀ x∈l,∀ b,I b->I (f b x))->I (l.foldl f b)
 | [],b,h,_=>h
 | x::l,b,h,hf=>Ay I f (l:=l) (hf x fW b h) λy hy=>hf y (fL _ hy)
theorem Hm{k x:Int}:∀{l:ae},x∈lF k l->x=k∨x∈l
 | [],h=>by simp[lF] at h;exact .inl h
 | y::r,h=>by
  rw[lF] at h;split at h
  .rcases dL.1 h with e|h
   .exact .inl e
   .exact .inr h
  .rcases dL.1 h with e|h
   .exact .inr (e▸fW)
   .rcases Hm h with e|h
    .exact .inl e
    .exact .inr (fL _ h)
theorem Ls{k:Int}:∀{l:ae},l.Pairwise (· < ·)->k ∉ l->(lF k l).Pairwise (· < ·)
 | [],_,_=>by rw[lF];exact List.pairwise_singleton _ _
 | y::r,h,hk=>by
  have h:=List.pairwise_cons.1 h;rw[lF];split
  .rename_i hy;refine List.pairwise_cons.2 ⟨λz hz=>?_,List.pairwise_cons.2 h⟩;rcases dL.1 hz with rfl|hz
   .exact hy
   .exact Int.lt_trans hy (h.1 z hz)
  .rename_i hy;have:k≠y:=λe=>hk (e▸fW);refine List.pairwise_cons.2 ⟨λz hz=>?_,Ls h.2 λe=>hk (fL _ e)⟩;rcases Hm hz with rfl|hz
   .omega
   .exact h.1 z hz
theorem aQ9(k:Int)(l:ae):lF k l≠[]:=by
 intro e
 have:=Gh k l
 rw[e] at this;simp at this
theorem Nn{l:List Rt}{r x:Rt}(h:x∈f6 l r):x=r∨x∈l:=by
 unfold f6 at h
 rcases dw.1 h with h|h
 .exact .inr (List.mem_filter.1 h).1
 .rcases dL.1 h with e|h
  .exact .inl e
  .exact .inr (List.mem_filter.1 h).1
def lnk(ls:List aK)(i k:Int):Prop:=0<=k/\k<ls.length/\(lA (ls.getD k.toNat default)=i∨lB (ls.getD k.toNat default)=i)
structure Je (ls:List aK) (aa:ae) (i:Int) (r:Rt):Prop where
 len:r.1.2=32
 mem:r.1.1∈aa
 ne:r.2.1≠[]
 pw:r.2.1.Pairwise (· < ·)
 ln:∀ k∈r.2.1,lnk ls i k
 w0:1<=r.2.2
 w1:r.2.2<=3
def ny(ls:List aK)(aa:ae)(i:Int)(t:List Rt):Prop:=cH t∧∀ r∈t,Je ls aa i r
theorem Kj{ls:List aK}{aa:ae}{i:Int}{t:List Rt}(h:ny ls aa i t):t.length<=aa.length:=by
 have hn:(t.map λr=>r.1.1).Nodup:=by
  refine List.Pairwise.map (R:=λa b:Rt=>a.1.1≠b.1.1) _ (λa b h=>h) (h.1.imp_of_mem λ{a b} ha hb k=>?_);have e1:=(h.2 a ha).len;have e2:=(h.2 b hb).len;unfold bH at k;omega
 have:=Iq hn (m:=aa) λx hx=>by
  obtain⟨r,hr,rfl⟩:=List.mem_map.1 hx;exact (h.2 r hr).mem
 simpa using this
theorem Ei{ls:List aK}{aa:ae}{i:Int}{r:Rt}(h:Je ls aa i r):r.2.1.length<=ls.length:=by
 have hn:r.2.1.Nodup:=h.pw.imp λk=>ab
 have:=Iq hn (m:=(range ls.length).map λ(n:Nat)=>(n:Int)) λx hx=>by
  obtain⟨k0,k1,_⟩:=h.ln x hx;exact List.mem_map.2 ⟨x.toNat,List.mem_range.2 ab,ab⟩
 simpa using this
theorem aU7{ls:List aK}{aa:ae}{i:Int}{t:List Rt}(h:ny ls aa i t){p:eh}{k way:Int}(hp:p.2=32)(ha:p.1∈aa)(hk:lnk ls i k)(h0:1<=way)(h1:way<=3) :
  ny ls aa i (wv t p k way):=by
 have put:∀ r:Rt,Je ls aa i r->ny ls aa i (f6 t r):=λr hr =>
  ⟨Gz h.1,λx hx=>by
   rcases Nn hx with rfl|hx
   .exact hr
   .exact h.2 x hx⟩
 unfold wv
 split
 next hf=>
  have hx:t.getD (rO t p) default∈t:=by
   have:=bS (xs:=t) (i:=(rO t p:Nat)) ab ab;simpa using this
  have hx:=h.2 _ hx;split
  .exact h
  .rename_i hn;exact put _ ⟨hp,ha,aQ9 _ _,Ls hx.pw hn,λy hy=>by
    rcases Hm hy with rfl|hy
    .exact hk
    .exact hx.ln y hy,hx.w0,hx.w1⟩
 .exact put _ ⟨hp,ha,aA,List.pairwise_singleton _ _,λy hy=>by rw[iP.1 hy];exact hk,h0,h1⟩
structure RI (ls:List aK) (aa:ae) (ns0 ns:List au):Prop where
 n:ns.length=ns0.length
 e:∀ i:Nat,i<ns0.length->Ao (ns.getD i default) []=Ao (ns0.getD i default) []
 t:∀ i:Nat,i<ns0.length->ny ls aa i (aU (ns.getD i default))
theorem RI.ports {ls aa ns0 ns} (h:RI ls aa ns0 ns) {i:Nat} (hi:i<ns0.length):ay (ns.getD i default)=ay (ns0.getD i default):=by
 have:=jt ay (h.e i hi);exact this
theorem RI.host {ls aa ns0 ns} (h:RI ls aa ns0 ns) {i:Nat} (hi:i<ns0.length):iL (ns.getD i default)=iL (ns0.getD i default):=by
 have:=jt iL (h.e i hi);exact this
theorem RI.route {ls aa ns0 ns} (h:RI ls aa ns0 ns) {a:Int} {p:eh} {k way:Int} (a0:0<=a) (a1:a<ns0.length) (hp:p.2=32) (ha:p.1∈aa) (hk:lnk ls a k) (h0:1<=way) (h1:way<=3) :
  RI ls aa ns0 (sN ns a p k way):=by
 have hl:a.toNat<ns.length:=by have:=h.n;omega
 unfold sN
 refine⟨by rw[gB];exact h.n,λi hi=>?_,λi hi=>?_⟩
 .by_cases e:a.toNat=i
  .subst e;rw[kw hl];exact h.e _ hi
  .rw[nA e];exact h.e _ hi
 .by_cases e:a.toNat=i
  .subst e;rw[kw hl];have:=aU7 (h.t _ hi) (p:=p) (k:=k) (way:=way) hp ha (by rwa [show ((a.toNat:Nat):Int)=a by omega]) h0 h1;exact this
  .rw[nA e];exact h.t _ hi
theorem RI.step {ls aa ns0 ns} (h:RI ls aa ns0 ns) {d:ae} {to:Int} {p:eh} {plain:Bool} {k way a b:Int} (a0:0<=a) (a1:a<ns0.length) (hp:p.2=32) (ha:p.1∈aa) (hk:lnk ls a k) (h0:1<=way) (h1:way<=3) :
  RI ls aa ns0 (r0 d to p plain k way ns a b):=by
 unfold r0
 split
 .exact h
 .split
  .exact h
  .exact h.route a0 a1 hp ha hk h0 h1
def iX(n:Nat)(ls:List aK):Prop:=∀ l∈ls,0<=l.1/\l.1<n/\0<=l.2.1/\l.2.1<n
theorem iX.at'{n:Nat}{ls:List aK}(hg:iX n ls){k:Nat}(hk:k<ls.length):(0<=lA (ls.getD k default)/\lA (ls.getD k default)<n)/\0<=lB (ls.getD k default)/\lB (ls.getD k default)<n:=by
 have hx:ls.getD k default∈ls:=by
  have:=bS (xs:=ls) (i:=(k:Nat)) ab ab;simpa using this
 obtain⟨q1,q2,q3,q4⟩:=hg _ hx
 exact⟨⟨q1,q2⟩,q3,q4⟩
theorem Pr{ls:List aK}{k:Nat}(hk:k<ls.length):lnk ls (lA (ls.getD k default)) k:=⟨by omega,by omega,.inl (by simp)⟩
theorem Qv{ls:List aK}{k:Nat}(hk:k<ls.length):lnk ls (lB (ls.getD k default)) k:=⟨by omega,by omega,.inr (by simp)⟩
theorem RI.stepK {ls aa ns0 ns} (h:RI ls aa ns0 ns) (hg:iX ns0.length ls) {d:ae} {to:Int} {p:eh} {plain:Bool} {way:Int} {k:Nat} (hk:k<ls.length) (hp:p.2=32) (ha:p.1∈aa) (h0:1<=way) (h1:way<=3) :
  RI ls aa ns0 (stepK ls d to p plain way ns k):=by
 have hh:=hg.at' hk
 unfold Go.RS.stepK
 exact (h.step hh.1.1 hh.1.2 hp ha (Pr hk) h0 h1).step hh.2.1 hh.2.2 hp ha (Qv hk) h0 h1
theorem RI.stepKs {ls aa ns0 ns} (h:RI ls aa ns0 ns) (hg:iX ns0.length ls) {d:ae} {to:Int} {p:eh} {plain:Bool} {way:Int} (hp:p.2=32) (ha:p.1∈aa) (h0:1<=way) (h1:way<=3) {n:Nat} (hn:n<=ls.length) :
  RI ls aa ns0 ((range n).foldl (Go.RS.stepK ls d to p plain way) ns) :=
 Ay _ _ h λk hk b hb=>hb.stepK hg (by have:=List.mem_range.1 hk;omega) hp ha h0 h1
theorem RI.stepP {ls aa ns0 ns} (h:RI ls aa ns0 ns) (hg:iX ns0.length ls) {d:ae} {to:Int} {plain:Bool} {way:Int} {q:pi} (ha:q.1∈aa) (h0:1<=way) (h1:way<=3) :
  RI ls aa ns0 (stepP ls d to plain way ns q) :=
 h.stepKs (p:=(q.1,32)) hg rfl ha h0 h1 (iq _)
def je(ns:List au):ae:=ns.flatMap λx=>(ay x).map (·.1)
theorem R6{ns:List au}{i:Nat}(hi:i<ns.length){q:pi}(hq:q∈ay (ns.getD i default)):q.1∈je ns:=by
 have hx:ns.getD i default∈ns:=by
  have:=bS (xs:=ns) (i:=(i:Nat)) ab ab;simpa using this
 exact List.mem_flatMap.2 ⟨_,hx,List.mem_map.2 ⟨q,hq,rfl⟩⟩
theorem RI.stepPs {ls ns0 ns} (h:RI ls (je ns0) ns0 ns) (hg:iX ns0.length ls) {d:ae} {to:Int} {plain:Bool} {way:Int} (h0:1<=way) (h1:way<=3) {l:List pi} (hl:∀ q∈l,q.1∈je ns0) :
  RI ls (je ns0) ns0 (l.foldl (Go.RS.stepP ls d to plain way) ns) :=
 Ay _ _ h λq hq b hb=>hb.stepP hg (hl q hq) h0 h1
theorem Ol{c:aX}(h:cQ c):cQ (oF c).2/\1<=(oF c).1/\(oF c).1<=3:=by
 have k:=dr h 3
 have k2:=dr k.1 3
 have:=ft h (n:=3) ab
 unfold oF
 split
 .refine⟨k2.1,?_⟩;dsimp only;split <;> omega
 .exact⟨k.1,by dsimp only;omega,by dsimp only;omega⟩
theorem RI.stepT {ls ns0} {s:List au×aX} (h:RI ls (je ns0) ns0 s.1/\cQ s.2) (hg:iX ns0.length ls) {plain:Bool} {to:Nat} (ht:to<ns0.length) :
  RI ls (je ns0) ns0 (stepT ls plain s to).1/\cQ (stepT ls plain s to).2:=by
 have w:=Ol h.2
 unfold Go.RS.stepT
 refine⟨h.1.stepPs hg w.2.1 w.2.2 λq hq=>?_,w.1⟩
 rw[h.1.ports ht] at hq
 exact R6 ht hq
theorem RI.stepTs {ls ns0} {s:List au×aX} (h:RI ls (je ns0) ns0 s.1/\cQ s.2) (hg:iX ns0.length ls) {plain:Bool} {n:Nat} (hn:n<=ns0.length) :
  RI ls (je ns0) ns0 ((range n).foldl (Go.RS.stepT ls plain) s).1/\cQ ((range n).foldl (Go.RS.stepT ls plain) s).2 :=
 Ay (λs:List au×aX=>RI ls (je ns0) ns0 s.1/\cQ s.2) _ h λk hk b hb=>RI.stepT hb hg (by have:=List.mem_range.1 hk;omega)
theorem RI.start{ls:List aK}{ns0:List au}(h:∀ x∈ns0,aU x=[]):RI ls (je ns0) ns0 ns0:=by
 refine⟨rfl,λ_ _=>rfl,λi hi=>?_⟩
 have hx:ns0.getD i default∈ns0:=by
  have:=bS (xs:=ns0) (i:=(i:Nat)) ab ab;simpa using this
 rw[h _ hx]
 exact⟨List.Pairwise.nil,λr hr=>by cases hr⟩
def pG(i:Int)(k:Nat)(l:aK):List pi:=(if lA l=i then [(gp k+1,(k:Int))] else [])++(if lB l=i then [(gp k+2,(k:Int))] else [])
def portsF(i:Int):Nat->List aK->List pi
 | _,[]=>[]
 | k,l::r=>pG i k l++portsF i (k+1) r
theorem QD(i:Int)(l:aK):∀(k:Nat)(ls:List aK),portsF i k (ls++[l])=portsF i k ls++pG i (k+ls.length) l
 | k,[]=>by simp[portsF]
 | k,x::r=>by
  rw[me,portsF,QD i l (k+1) r,portsF,ia,dM,show k+1+r.length=k+(r.length+1) by omega]
theorem ae2(i:Int)(k:Nat)(l:aK):(pG i k l).length<=2:=by
 unfold pG
 split <;> split <;> simp
theorem Bz(i:Int):∀(k:Nat)(ls:List aK),(portsF i k ls).length<=2*ls.length
 | k,[]=>by simp[portsF]
 | k,x::r=>by
  have:=Bz i (k+1) r;have:=ae2 i k x;rw[portsF,cu,dM];omega
theorem ON{i:Int}:∀{k:Nat}{ls:List aK},(∀ x∈ls,lA x≠i/\lB x≠i)->portsF i k ls=[]
 | k,[],_=>rfl
 | k,x::r,h=>by
  have hx:=h x fW;rw[portsF,ON λy hy=>h y (fL _ hy),pG,af hx.1,af hx.2];rfl
theorem Ci{i:Int}{q:pi}:∀{k:Nat}{ls:List aK},q∈portsF i k ls↔∃ j,j<ls.length/\((lA (ls.getD j default)=i/\q=(gp (k+j:Nat)+1,((k+j:Nat):Int)))∨(lB (ls.getD j default)=i/\q=(gp (k+j:Nat)+2,((k+j:Nat):Int))))
 | k,[]=>by simp[portsF]
 | k,x::r=>by
  rw[portsF,dw,Ci (k:=k+1) (ls:=r)];constructor
  .rintro (h|⟨j,hj,h⟩)
   .refine⟨0,aA,?_⟩;unfold pG at h;rcases dw.1 h with h|h
    .split at h
     next e=>exact .inl ⟨e,by simpa using h⟩
     .cases h
    .split at h
     next e=>exact .inr ⟨e,by simpa using h⟩
     .cases h
   .refine⟨j+1,by rw[dM];omega,?_⟩;rw[List.getD_cons_succ,show k+(j+1)=k+1+j by omega];exact h
  .rintro⟨j,hj,h⟩;cases j with
   | zero =>
    refine .inl ?_;rw[List.getD_cons_zero] at h;unfold pG;rcases h with⟨e,h⟩|⟨e,h⟩
    .rw[am e];exact dw.2 (.inl (by simpa using h))
    .rw[am e];exact dw.2 (.inr (by simpa using h))
   | succ j =>
    refine .inr ⟨j,by rw[dM] at hj;omega,?_⟩;rw[List.getD_cons_succ,show k+(j+1)=k+1+j by omega] at h;exact h
theorem Dr{α:Type} [Inhabited α] {l m:List α} {i:Nat} (h:i<l.length):(l++m).getD i default=l.getD i default:=by
 rw[bL,kP h,bL]
theorem Fs{α:Type} [Inhabited α] {l:List α} {x:α}:(l++[x]).getD l.length default=x:=by
 rw[bL];simp
theorem Ef{ns:List au}{x:Int}{p:pi}(x0:0<=x){i:Nat}(hi:i<ns.length) :
  (kz ns x p).getD i default=((ns.getD i default).1++(if x=i then [p] else []),(ns.getD i default).2):=by
 unfold kz
 by_cases e:x=i
 .have:x.toNat=i:=ab;rw[this,kw hi,am e]
 .have:x.toNat≠i:=ab;rw[nA this,af e,jG]
theorem JU(ns:List au)(x:Int)(p:pi):(kz ns x p).length=ns.length:=by unfold kz;exact gB
structure GI (s:bu) (nn nl:Nat):Prop where
 n:s.1.1.length=nn
 l:s.1.2.1.length=nl
 h:s.1.2.2=[]
 c:cQ s.2
 g:∀ x∈s.1.2.1,(0<=lA x/\lA x<nn)/\(0<=lB x/\lB x<nn)/\lA x≠lB x/\(1<=gS x/\gS x<=20)/\fK x=0/\oo x=0/\0<=vK x/\vK x<=255
 p:∀ i:Nat,i<nn->ay (s.1.1.getD i default)=portsF i 0 s.1.2.1
 d:∀ i:Nat,i<nn→∃ host f sd,(s.1.1.getD i default).2=(r6 i host f sd).2/\(f=64∨f=255∨f=128)/\0<=sd/\sd<=255
theorem GI.node{s:bu}{nn nl:Nat}(h:GI s nn nl)(host:Bool):GI (kH s host) (nn+1) nl:=by
 have k3:=ft h.c (n:=3) ab
 have c3:=(dr h.c 3).1
 have k4:=ft c3 (n:=256) ab
 have c4:=(dr c3 256).1
 refine⟨by simp only[kH,cu,dM,List.length_nil,h.n],h.l,h.h,c4,λx hx=>?_,λi hi=>?_,λi hi=>?_⟩
 .have:=h.g x hx;omega
 .by_cases e:i<nn
  .rw[show (kH s host).1.1.getD i default=s.1.1.getD i default from Dr (by rw[h.n];exact e)];exact h.p i e
  .have e:i=s.1.1.length:=by rw[h.n];omega
   subst e;rw[show (kH s host).1.1.getD s.1.1.length default=r6 s.1.1.length host _ _ from Fs];refine (ON λx hx=>?_).symm;have:=h.g x hx;have:=h.n;omega
 .by_cases e:i<nn
  .rw[show (kH s host).1.1.getD i default=s.1.1.getD i default from Dr (by rw[h.n];exact e)];exact h.d i e
  .have e:i=s.1.1.length:=by rw[h.n];omega
   subst e;rw[show (kH s host).1.1.getD s.1.1.length default=r6 s.1.1.length host _ _ from Fs];refine⟨host,_,_,rfl,?_,k4.1,ab⟩;rcases (show (ax s.2 3).1=0∨(ax s.2 3).1=1∨(ax s.2 3).1=2 by omega) with e|e|e <;> rw[e] <;> simp
theorem GI.link{s:bu}{nn nl:Nat}(h:GI s nn nl){a b:Int}(a0:0<=a)(a1:a<nn)(b0:0<=b)(b1:b<nn)(ne:a≠b):GI (jn s a b) nn (nl+1):=by
 have k3:=ft h.c (n:=20) ab
 have c3:=(dr h.c 20).1
 have k4:=ft c3 (n:=256) ab
 have c4:=(dr c3 256).1
 refine⟨by simp only[jn,JU,h.n],by simp only[jn,cu,dM,List.length_nil,h.l],h.h,c4,λx hx=>?_,λi hi=>?_,λi hi=>?_⟩
 .rcases dw.1 hx with hx|hx
  .exact h.g x hx
  .rw[iP.1 hx];refine⟨⟨a0,a1⟩,⟨b0,b1⟩,ne,?_,rfl,rfl,k4.1,?_⟩
   .show 1<=1+(ax s.2 20).1/\1+(ax s.2 20).1<=20;omega
   .show (ax (ax s.2 20).2 256).1<=255;omega
 .have hp:=h.p i hi;unfold jn;dsimp only;rw[Ef b0 (by rw[JU,h.n];exact hi),Ef a0 (by rw[h.n];exact hi),QD,← hp,gk];simp only[ay,pG,lA,lB,ia];rfl
 .unfold jn;dsimp only;rw[Ef b0 (by rw[JU,h.n];exact hi),Ef a0 (by rw[h.n];exact hi)];exact h.d i hi
theorem GI.codes{s:bu}{nn nl:Nat}(h:GI s nn nl){c:aX}(hc:cQ c):GI (s.1,c) nn nl:=⟨h.n,h.l,h.h,hc,h.g,h.p,h.d⟩
theorem GI.start{c:aX}(hc:cQ c):GI (([],[],[]),c) 0 0 :=
 ⟨rfl,rfl,rfl,hc,λx hx=>(by cases hx),λi hi=>ab,λi hi=>ab⟩
theorem GI.routes{s:bu}{nn nl:Nat}(h:GI s nn nl):∀ x∈s.1.1,aU x=[]:=λx hx=>by
 obtain⟨i,hi,e⟩:=List.mem_iff_getElem.1 hx
 obtain⟨host,f,sd,hd,-⟩:=h.d i (by rw[← h.n];exact hi)
 have:s.1.1.getD i default=x:=by rw[bL,cK hi,e];rfl
 rw[this] at hd
 show x.2.2.2.2.1=[]
 rw[hd];rfl
theorem GI.plen{s:bu}{nn nl:Nat}(h:GI s nn nl):∀ x∈s.1.1,x.1.length<=2*nl:=λx hx=>by
 obtain⟨i,hi,e⟩:=List.mem_iff_getElem.1 hx
 have hp:=h.p i (by rw[← h.n];exact hi)
 have:s.1.1.getD i default=x:=by rw[bL,cK hi,e];rfl
 rw[this] at hp
 have:=Bz i 0 s.1.2.1
 rw[← hp,h.l] at this;exact this
theorem FB:∀{ns:List au}{m:Nat},(∀ x∈ns,x.1.length<=m)->(je ns).length<=ns.length*m
 | [],m,_=>by simp[je]
 | x::r,m,h=>by
  have k:=FB (ns:=r) (m:=m) λy hy=>h y (fL _ hy);have hx:=h x fW;unfold je at k ⊢;rw[List.flatMap_cons,cu,mh,dM,Nat.succ_mul];show (ay x).length+_<=_;have:(ay x).length<=m:=hx;omega
theorem GI.ends{s:bu}{nn nl:Nat}(h:GI s nn nl):iX s.1.1.length s.1.2.1:=λx hx=>by
 have:=h.g x hx
 rw[h.n]
 exact⟨this.1.1,this.1.2,this.2.1.1,this.2.1.2⟩
theorem GI.chain{s:bu}(h:GI s 1 0):∀ k:Nat,GI ((range k).foldl r9 s) (k+1) k
 | 0=>h
 | k+1=>by
  rw[m3,iG];exact ((GI.chain h k).node false).link ab ab ab ab ab
def bW(c:aX):Int:=1+(ax (kH (([],[],[]),c) true).2 5).1
def wt(c:aX):bu:=((kH (([],[],[]),c) true).1,(ax (kH (([],[],[]),c) true).2 5).2)
theorem OH{c:aX}(h:cQ c):GI (wt c) 1 0:=((GI.start h).node true).codes (dr ((GI.start h).node true).c 5).1
theorem vU{c:aX}(h:cQ c):1<=bW c/\bW c<=5:=by
 have:=ft ((GI.start h).node true).c (n:=5) ab
 unfold bW;omega
theorem F6(c:aX):n6 c=(bW c,jn (kH ((range (bW c).toNat).foldl r9 (wt c)) true) (bW c) (bW c+1)):=rfl
theorem EE{c:aX}(h:cQ c):GI (n6 c).2 ((bW c).toNat+2) ((bW c).toNat+1):=by
 have:=vU h
 rw[F6]
 exact (((OH h).chain _).node true).link ab ab ab ab ab
theorem GI.short{s:bu}{nn nl:Nat}(h:GI s nn nl){n:Int}(n1:1<=n)(hn:n+2<=nn):∃ m,nl<=m/\m<=nl+1/\GI (sU n s) nn m:=by
 have ka:=ft h.c (n:=n) ab
 have ca:=(dr h.c n).1
 have kb:=ft ca (n:=n) ab
 have cb:=(dr ca n).1
 unfold sU
 dsimp only
 split
 .exact⟨nl,ab,ab,h.codes cb⟩
 next e=>exact⟨nl+1,ab,ab,(h.codes cb).link ab ab ab ab ab⟩
theorem GI.shorts{s:bu}{nn nl:Nat}(h:GI s nn nl){n:Int}(n1:1<=n)(hn:n+2<=nn):∀ k:Nat,∃ m,nl<=m/\m<=nl+k/\GI ((range k).foldl (λs _=>sU n s) s) nn m
 | 0=>⟨nl,ab,ab,h⟩
 | k+1=>by
  obtain⟨m,m0,m1,hm⟩:=GI.shorts h n1 hn k;obtain⟨m',q0,q1,hq⟩:=hm.short n1 hn;refine⟨m',ab,ab,?_⟩;rw[m3,iG];exact hq
def rD(plain:Bool)(n:Int)(s:bu)(k:Nat):bu:=if 1<n/\plain=false then (range k).foldl (λs _=>sU n s) (s.1,(ax s.2 4).2) else (s.1,(ax s.2 4).2)
theorem LU{s:bu}{nn nl:Nat}(h:GI s nn nl){plain:Bool}{n:Int}(n1:1<=n)(hn:n+2<=nn)(k:Nat):∃ m,nl<=m/\m<=nl+k/\GI (rD plain n s k) nn m:=by
 have hc:=h.codes (dr h.c 4).1
 unfold rD
 split
 .exact hc.shorts n1 hn k
 .exact⟨nl,ab,ab,hc⟩
theorem GX(plain:Bool)(n:Int)(s:bu):Aa plain n s=(let s1:=rD plain n s (ax s.2 4).1.toNat
  if plain=true/\2<n then
   if (ax s1.2 2).1=1 then jn (s1.1,(ax (ax s1.2 2).2 (n-1)).2) (1+(ax (ax s1.2 2).2 (n-1)).1) n else (s1.1,(ax s1.2 2).2)
  else s1):=rfl
theorem aL5{s:bu}{nn nl:Nat}(h:GI s nn nl){plain:Bool}{n:Int}(n1:1<=n)(hn:n+2<=nn):∃ m,nl<=m/\m<=nl+4/\GI (Aa plain n s) nn m:=by
 have k4:=ft h.c (n:=4) ab
 obtain⟨m,m0,m1,hm⟩:=LU h (plain:=plain) n1 hn (ax s.2 4).1.toNat
 rw[GX]
 dsimp only
 generalize rD plain n s (ax s.2 4).1.toNat=t at hm ⊢
 have c2:=(dr hm.c 2).1
 have c3:=(dr c2 (n-1)).1
 split
 next e=>
  split
  .have k5:=ft c2 (n:=n-1) ab;exact⟨m+1,ab,ab,(hm.codes c3).link ab ab ab ab ab⟩
  .exact⟨m,ab,ab,hm.codes c2⟩
 .exact⟨m,ab,ab,hm⟩
theorem Dg{c:aX}(h:cQ c)(plain:Bool):∃ m,2<=m/\m<=10/\GI (Aa plain (n6 c).1 (n6 c).2) ((bW c).toNat+2) m:=by
 have hn:=vU h
 obtain⟨m,m0,m1,hm⟩:=aL5 (EE h) (plain:=plain) (n:=bW c) hn.1 ab
 exact⟨m,ab,ab,hm⟩
abbrev yL:OT := .pair (.pair (.row 92 bR) (.pair (.row 86 fU) (.row 153 fg))) (.ref 83 jN)
def sL(s:bu):List aK:=s.1.2.1
def rB(s:bu):Prop:=aS s.2/\(s.1.1.length:Int)<=1000/\(s.1.2.1.length:Int)<=1000/\(s.1.2.2.length:Int)<=1000∧∀ x∈s.1.1,(x.1.length:Int)<=1000
def inN(ns:List au)(a:Int):Prop:=0<=a/\a<ns.length
def XQ:Ct:=⟨[.box 83 jN,.val cI],[.val cI],λd=>[aS d.1,d.2.1<=256],λd=>(((nt d.1 d.2.1).1,()),((nt d.1 d.2.1).2,()))⟩
theorem S9 :
 ∀(a:ae)(b c:Int),((a.length<=maxLen/\ ∀(d:Int),d∈a->0<=d/\d<=255)/\aq b)/\aq c/\True->aS (a,b)/\c<=256-> ∀(d:Bool),d=decide ((ac a)<=b)->(ah (! d))/\(aE d)/\ao (bif d then true else decide (c<1)) (0=(nt (a,b) c).1/\(a,b)=(nt (a,b) c).2) (0<=b/\b<(ac a)/\ao (decide (256<c)) False (c≠(0:Int)/\Int.tmod (aj (ai a b)) c=(nt (a,b) c).1/\(a,aj (b+1))=(nt (a,b) c).2)):=by
  delta ah aE aj ai ac;rintro l p n ⟨⟨⟨hl,hw⟩,h0,h1⟩,⟨h2,h3⟩,-⟩⟨⟨hc1,hc2⟩,hn⟩;simp only[maxLen] at hl hc1 hc2
  (repeat (refine bY ?_;repeat refine bZ ?_));refine sF (λhb=>?_) (λhb1 hb2=>?_)
  .have hb:(l.length:Int)<=p∨n<1:=by simpa using hb
   rw[nt,am hb];exact⟨rfl,rfl⟩
  .have hb1:=aL hb1;have hb2:=aL hb2;have hb:¬ ((l.length:Int)<=p∨n<1):=ab;obtain⟨hm0,hm1⟩:=hw _ (bS hc1 (show p<l.length by omega));refine⟨hc1,ab,aw (λk=>?_) (λ_=>⟨ab,?_⟩)⟩
   .have:=aI k;omega
   .rw[nt,af hb,aG ab ab,aG ab ab];exact⟨rfl,rfl⟩
theorem aH2:aB 26 XQ.spec:=aF Tryz.func26 aD aT S9
def aH3:Ct:=⟨[.box 83 jN,.val cI],[.val cI],λd=>[aS d.1],λd=>(((ax d.1 d.2.1).1,()),((ax d.1 d.2.1).2,()))⟩
theorem Xi :
 ∀(a:ae)(b c:Int),((a.length<=maxLen/\ ∀(d:Int),d∈a->0<=d/\d<=255)/\aq b)/\aq c/\True->0<=b/\b<=(ac a)-> ∀(d:Bool),d=decide ((ac a)<=b)->(ah (! d))/\(aE d)/\ao (bif d then true else decide (c<1)) (0=(ax (a,b) c).1/\(a,b)=(ax (a,b) c).2) (0<=b/\b<(ac a)/\ao (decide (256<c)) (aS (a,aj (b+1))/\(256:Int)<=256/\c≠(0:Int)/\Int.tmod (aj (aj ((256:Int)*aj (ai a b))+(nt (a,aj (b+1)) (256:Int)).1)) c=(ax (a,b) c).1/\(nt (a,aj (b+1)) (256:Int)).2=(ax (a,b) c).2) (c≠(0:Int)/\Int.tmod (aj (ai a b)) c=(ax (a,b) c).1/\(a,aj (b+1))=(ax (a,b) c).2)):=by
  delta ah aE aj ai ac;rintro l p n ⟨⟨⟨hl,hw⟩,h0,h1⟩,⟨h2,h3⟩,-⟩⟨hc1,hc2⟩;simp only[maxLen] at hl hc1 hc2
  (repeat (refine bY ?_;repeat refine bZ ?_));refine sF (λhb=>?_) (λhb1 hb2=>?_)
  .have hb:(l.length:Int)<=p∨n<1:=by simpa using hb
   rw[ax,am hb];exact⟨rfl,rfl⟩
  .have hb1:=aL hb1;have hb2:=aL hb2;have hb:¬ ((l.length:Int)<=p∨n<1):=ab;obtain⟨hm0,hm1⟩:=hw _ (bS hc1 (show p<l.length by omega));rw[aG (n:=p+1) ab ab,aG (n:=l.getD p.toNat default) ab ab];refine⟨hc1,ab,aw (λk=>?_) (λk=>⟨ab,?_⟩)⟩
   .have k:=aI k;have hok:cQ (l,p+1):=⟨⟨by show 0<=p+1;omega,by show p+1<=l.length;omega⟩,hw⟩
    have hr:=R7 hok 256;refine⟨hok.at',ab,ab,?_⟩;rw[ax,af hb,am k,aG (n:=256*_) ab ab,aG ab ab];exact⟨rfl,rfl⟩
   .rw[ax,af hb,af (aL k)];exact⟨rfl,rfl⟩
theorem yu:aB 26 aH3.spec:=aF Tryz.func26 (av aD aH2) aT Xi
def ac9:Ct:=⟨[.box 142 yL,.val .bool],[.val cI],λd=>[rB d.1],λd=>(((d.1.1.1.length:Int),()),(kH d.1 d.2.1,()))⟩
def yZ(a:List au)(b:List aK)(c:List aV)(d:ae)(e:Int) :=
 ((a.length<=maxLen/\ ∀(g:au),g∈a->CT.wf bR g)/\(b.length<=maxLen/\ ∀(g:aK),g∈b->CT.wf fU g)/\c.length<=maxLen/\ ∀(g:aV),g∈c->CT.wf fg g)/\(d.length<=maxLen/\ ∀(g:Int),g∈d->0<=g/\g<=255)/\aq e
def JS(a:List au)(d:ae)(e:Int)(f:Bool) :=
 (([]:List (Int×Int)),(0:Int),aj ((1:Int)+aj (Int.tdiv (ac a) (3:Int))),f,([]:List aN),(1:Int),(0:Int),(0:Int),(0:Int),(0:Int),((0:Int),(0:Int)),false,false,getD [(64:Int),(255:Int),(128:Int)] (toNat (ax (d,e) (3:Int)).1) default,(ax (ax (d,e) (3:Int)).2 (256:Int)).1)
def pn :=
 (140737488355328:Nat)
theorem ak9 :
 ∀(a:List au)(b:List aK)(c:List aV)(d:ae)(e:Int)(f:Bool),(yZ a b c d e)/\True/\True->(aS (d,e)/\(ac a)<=1000/\(ac b)<=1000/\(ac c)<=1000/\ ∀(g:au),g∈a->(ac g.1)<=1000)->aS (d,e)/\0<=(ax (d,e) (3:Int)).1/\(ax (d,e) (3:Int)).1<((length [(64:Int),(255:Int),(128:Int)]):Int)/\aS (ax (d,e) (3:Int)).2/\(3:Int)≠(0:Int)/\(a.length+length [(JS a d e f)])*(152:Nat)<=(pn)/\(ac a)=(ac a)/\((a++[(JS a d e f)],b,c),(ax (ax (d,e) (3:Int)).2 (256:Int)).2)=kH ((a,b,c),d,e) f:=by
  delta yZ JS pn aj ac;rintro ns ls hs l p b ⟨⟨-,⟨hl,hw⟩,-⟩,-,-⟩⟨hc,h1,h2,h3,h4⟩;have hok:cQ (l,p):=⟨hc,hw⟩
  have r1:=dr hok 3;have r2:=ft hok (n:=3) ab;have e:Int.tdiv (ns.length:Int) 3=(ns.length:Int)/3:=EN ab;refine⟨hc,r2.1,by simpa using r2.2,r1.1.at',ab,by simp only[ga];omega,rfl,?_⟩;rw[e,aG (n:=(ns.length:Int)/3) ab ab,aG ab ab];rfl
theorem Su:aB 61 ac9.spec:=aF Tryz.func61 (av aD yu) aT ak9
def px(ns:List au)(a b l k:Int):List au:=if k=0 then ns else if k=1 then kz ns a (gp l+1,l) else kz (kz ns a (gp l+1,l)) b (gp l+2,l)
def M0:Ct:=⟨[.box 142 yL,.val cI,.val cI],[.val cI],λd=>[rB d.1,inN d.1.1.1 d.2.1,inN d.1.1.1 d.2.2.1],λd=>(((d.1.1.2.1.length:Int),()),(jn d.1 d.2.1 d.2.2.1,()))⟩
def ar5:bw M0.ps->ce:=(λd=>{loops:=(bq 5 (λS=>{ι:=Int×(List au),qn:=fj,μ:=λi=>(2-i.1).toNat,inv:=λi=>0<=i.1/\i.1<=2/\i.2=px d.1.1.1 d.2.1 d.2.2.1 d.1.1.2.1.length i.1,keep:=[0,1,2,6,7,8],slots:=λi=>[(9,.int .i64 i.1)],keepN:=[1048577,2097154],names:=λi=>[(1048576,.live (.cells 142 [.own 524288 16,.own 524289 6,.own 2097154 7,.ptr 1048577 0])),(524288,.live (.row 92 bR i.2)),(524289,.live (.row 86 fU (sL (jn d.1 d.2.1 d.2.2.1))))]}) cC)})
def ru(d:ae)(e:Int) :=
 ax (ax (d,e) (20:Int)).2 (256:Int)
def yb(b:List aK) :=
 aj ((167837696:Int)+aj ((4:Int)*(ac b)))
theorem aI9 :
 ∀(a:List au)(b:List aK)(c:List aV)(d:ae)(e f g:Int),(((a.length<=maxLen/\ ∀(h:au),h∈a->CT.wf bR h)/\(b.length<=maxLen/\ ∀(h:aK),h∈b->CT.wf fU h)/\c.length<=maxLen/\ ∀(h:aV),h∈c->CT.wf fg h)/\(d.length<=maxLen/\ ∀(h:Int),h∈d->0<=h/\h<=255)/\aq e)/\aq f/\aq g/\True->rB ((a,b,c),d,e)/\inN a f/\0<=g/\g<(ac a)->aS (d,e)/\aS (ax (d,e) (20:Int)).2/\(b.length+length [(f,g,aj ((1:Int)+(ax (d,e) (20:Int)).1),(0:Int),(0:Int),(ru d e).1)])*(48:Nat)<=(pn)/\(∃(h:Int) (i:List au),(0<=h/\h<=2/\i=px a f g (ac b) h)/\f=f/\g=g/\(0:Int)=0/\(ac b)=(ac b)/\IntKind.wrap .u32 (yb b)=IntKind.wrap .u32 (yb b)/\0=h/\(ru d e).2.1=(ru d e).2.1/\(ru d e).2.2=(ru d e).2.2/\c=c/\a=i/\b++[(f,g,aj ((1:Int)+(ax (d,e) (20:Int)).1),(0:Int),(0:Int),(ru d e).1)]=sL (jn ((a,b,c),d,e) f g)/\True)/\ ∀(h:Int) (i:List
 au),0<=h/\h<=2/\i=px a f g (ac b) h->ao (decide (h<2)) (0<=h/\h<((length [f,g]):Int)/\0<=getD [f,g] h.toNat default/\getD [f,g] h.toNat default<(ac i)/\length (ai i (getD [f,g] h.toNat default)).1*(16:Nat)<=(pn)/\(length (ai i (getD [f,g] h.toNat default)).1+length [(IntKind.wrap .u32 (IntKind.wrap .u32 (IntKind.wrap .u32 (yb b)+1)+IntKind.wrap .u32 h),(ac b))])*(16:Nat)<=(pn)/\0<=getD [f,g] h.toNat default/\getD [f,g] h.toNat default<(ac i)/\ ∃(j:Int) (k:List au),(0<=j/\j<=2/\k=px a f g (ac b) j)/\toNat ((2:Int) -j)<toNat ((2:Int) -h)/\f=f/\g=g/\(0:Int)=0/\(ac b)=(ac b)/\IntKind.wrap .u32 (yb b)=IntKind.wrap .u32 (yb b)/\aj (h+1)=j/\(ru d e).2.1=(ru d e).2.1/\(ru d e).2.2=(ru d e).2.2/\c=c/\set i (toNat (getD [f,g] h.toNat default)) ((ai i (getD [f,g] h.toNat
 default)).1++[(IntKind.wrap .u32 (IntKind.wrap .u32 (IntKind.wrap .u32 (yb b)+1)+IntKind.wrap .u32 h),(ac b))],(ai i (getD [f,g] h.toNat default)).2)=k/\sL (jn ((a,b,c),d,e) f g)=sL (jn ((a,b,c),d,e) f g)/\True) ((ac b)=(ac b)/\((i,sL (jn ((a,b,c),d,e) f g),c),(ru d e).2)=jn ((a,b,c),d,e) f g):=by
  delta ru yb pn aj ai ac;rintro ns ls hs l p a b ⟨⟨-,⟨hl,hw⟩,-⟩,⟨ha1,ha2⟩,⟨hb1,hb2⟩,-⟩⟨⟨hc,h1,h2,h3,h4⟩,⟨a0,a1⟩,b0,b1⟩;simp only at h1 h2 h3 h4 a1;have hok:cQ (l,p):=⟨hc,hw⟩
  have r1:=dr hok 20;have r2:=ft hok (n:=20) ab;have e1:IntKind.i64.wrap (1+(ax (l,p) 20).1)=1+(ax (l,p) 20).1:=aG ab ab;rw[e1,aG (n:=4*(ls.length:Int)) ab ab,aG (n:=167837696+4*(ls.length:Int)) ab ab,rC (n:=167837696+4*(ls.length:Int)) ab ab,rC (n:=167837696+4*(ls.length:Int)+1) ab ab];refine⟨hc,r1.1.at',by simp only[ga];omega,⟨0,ns,⟨ab,ab,by rw[px,am rfl]⟩,?_⟩,?_⟩
  ·(repeat refine qq ?_);exact⟨rfl,bv⟩
  rintro k ms ⟨k0,k2,rfl⟩;have hlen:∀ m:Int,(px ns a b ls.length m).length=ns.length:=λm=>by
   unfold px kz;split
   .rfl
   .split <;> simp
  refine bU (λhk=>?_) (λhk=>?_)
  .rw[hlen];have hk':k=0∨k=1:=ab;have hports:∀ x:Int,0<=x->x<ns.length->((ns.getD x.toNat default).1.length:Int)<=1000:=λx x0 x1=>h4 _ (bS x0 x1);rcases hk' with rfl|rfl
   .have e0:px ns a b ls.length 0=ns:=by rw[px,am rfl]
    rw[e0];have:=hports a a0 a1;have e3:([a,b]:ae).getD (toNat 0) default=a:=rfl;rw[e3];refine⟨ab,aA,a0,a1,ab,by simp only[ga];omega,a0,a1,1,_,⟨ab,ab,rfl⟩,ab,?_⟩
    (repeat refine qq ?_);refine⟨aG ab ab,?_⟩
    (repeat refine qq ?_);refine⟨?_,?_⟩
    .rw[px,af ab,am rfl];have:IntKind.u32.wrap (167837696+4*(ls.length:Int)+1+IntKind.u32.wrap 0)=gp ls.length+1:=by
      rw[rC (n:=0) ab ab,rC ab ab];unfold gp;omega
     rw[this];rfl
    .exact⟨rfl,bv⟩
   .have e0:px ns a b ls.length 1=kz ns a (gp ls.length+1,ls.length):=by rw[px,af ab,am rfl]
    rw[e0];have e3:([a,b]:ae).getD (toNat 1) default=b:=rfl;rw[e3];have hpb:(((kz ns a (gp ls.length+1,ls.length)).getD b.toNat default).1.length:Int)<=1001:=by
     unfold kz;by_cases hab:a.toNat=b.toNat
     .rw[hab,kw ab];have:=hports b b0 b1;simp only[cu,ga];omega
     .rw[nA hab];have:=hports b b0 b1;omega
    refine⟨ab,aA,b0,b1,ab,by simp only[ga];omega,b0,b1,2,_,⟨ab,ab,rfl⟩,ab,?_⟩
    (repeat refine qq ?_);refine⟨aG ab ab,?_⟩
    (repeat refine qq ?_);refine⟨?_,?_⟩
    .rw[px,af ab,af ab];have:IntKind.u32.wrap (167837696+4*(ls.length:Int)+1+IntKind.u32.wrap 1)=gp ls.length+2:=by
      rw[rC (n:=1) ab ab,rC ab ab];unfold gp;omega
     rw[this];rfl
    .exact⟨rfl,bv⟩
  .have:k=2:=ab;subst this;refine⟨rfl,?_⟩;rw[px,af ab,af ab];rfl
theorem af2:aB 62 M0.spec:=aF Tryz.func62 (av aD yu) ar5 aI9
def Bh(k:Int)(done:ae)(f:Bool)(l:ae):Prop:=(f=false/\l=done∧∀ x∈done,¬ k<x)∨(f=true/\l=lF k done∧∃ x∈done,k<x)
def OX:Ct:=⟨[.box 142 yL,.val cI,.agg mW,.val cI,.val cI],[],λd=>[inN d.1.1.1 d.2.1,cH (aU (d.1.1.1.getD d.2.1.toNat default)),okL (aU (d.1.1.1.getD d.2.1.toNat default)),∀ r∈aU (d.1.1.1.getD d.2.1.toNat default),(r.2.1.length:Int)<=1000],λd=>((),(((sN d.1.1.1 d.2.1 d.2.2.1 d.2.2.2.1 d.2.2.2.2.1,d.1.1.2),d.1.2),()))⟩
def XJ:bw OX.ps->ce:=(λd=>{loops:=(bq 3 (λS=>{ι:=Int,μ:=λi=>((aU (d.1.1.1.getD d.2.1.toNat default)).length-i).toNat,inv:=λi=>0<=i/\i<=(aU (d.1.1.1.getD d.2.1.toNat default)).length∧∀ r∈(aU (d.1.1.1.getD d.2.1.toNat default)).take i.toNat,decide (r.1=d.2.2.1)=false,keep:=[0,1,3,4,7,8,9,10],slots:=λi=>[(11,.int .i64 i)],keepN:=[1048576,1048577,2097152,2097153,2097154,128]}) (bq 7 (λS=>{ι:=Int,μ:=λi=>(((aU (d.1.1.1.getD d.2.1.toNat default)).getD (S.i 11).toNat default).2.1.length-i).toNat,inv:=λi=>0<=i/\i<=((aU (d.1.1.1.getD d.2.1.toNat default)).getD (S.i 11).toNat default).2.1.length∧∀ x∈((aU (d.1.1.1.getD d.2.1.toNat default)).getD (S.i 11).toNat default).2.1.take i.toNat,x≠d.2.2.2.1,keep:=[0,1,3,4,7,8,9,10,11],slots:=λi=>[(12,.int .i64 i)],keepN:=[1048576,1048577,2097152,2097153,2097154,128]}) (bq 13 (λS=>{ι:=Int×Bool×ae,qn:=rH,μ:=λi=>(((aU (d.1.1.1.getD d.2.1.toNat default)).getD (S.i 11).toNat default).2.1.length-i.1).toNat,inv:=λi=>0<=i.1/\i.1<=((aU (d.1.1.1.getD d.2.1.toNat default)).getD (S.i 11).toNat default).2.1.length/\Bh d.2.2.2.1 (((aU (d.1.1.1.getD d.2.1.toNat default)).getD (S.i 11).toNat default).2.1.take i.1.toNat) i.2.1 i.2.2,keep:=[0,1,3,4,7,8,9,10,11,13],slots:=λi=>[(14,.bool i.2.1),(15,.int .i64 i.1)],keepN:=[1048576,1048577,2097152,2097153,2097154,128],names:=λi=>[(224,.live (.cells 96 [.int .u32 d.2.2.1.1,.int .i64 d.2.2.1.2,.own 524288 1,.int .i64 ((aU (d.1.1.1.getD d.2.1.toNat default)).getD (S.i 11).toNat default).2.2])),(524288,.live (.row 3 cI i.2.2))]}) cC)))})
def om(a:List au)(f k:Int) :=
 getD (aU (ai a f)) k.toNat default
def sy(a:List au)(f k:Int) :=
 getD (ai a f).2.2.2.2.1 k.toNat default
def pg(a:List au)(f k:Int) :=
 ((length (om a f k).2.1):Int)
def sQ(a:List au)(f:Int) :=
 ((length (ai a f).2.2.2.2.1):Int)
def w8(a:List au)(f k:Int) :=
 ((length (sy a f k).2.1):Int)
def yN(a:List au)(f:Int) :=
 ((length (aU (ai a f))):Int)
theorem WJ :
 ∀(a:List au)(b:List aK)(c:List aV)(d:ae)(e f g h i j:Int),(((a.length<=maxLen/\ ∀(k:au),k∈a->CT.wf bR k)/\(b.length<=maxLen/\ ∀(k:aK),k∈b->CT.wf fU k)/\c.length<=maxLen/\ ∀(k:aV),k∈c->CT.wf fg k)/\(d.length<=maxLen/\ ∀(k:Int),k∈d->0<=k/\k<=255)/\aq e)/\aq f/\((0<=g/\g<=4294967295)/\aq h)/\aq i/\aq j/\True->(inN a f/\cH (aU (ai a f))/\okL (aU (ai a f))/\ ∀(k:aN),k∈aU (ai a f)->(ac k.2.1)<=1000)->0<=f/\f<(ac a)/\(∃(k:Int),(0<=k/\k<=(yN a f)/\ ∀(l:aN),l∈take k.toNat (aU (ai a f))->decide (l.1=(g,h))=false)/\f=f/\i=i/\j=j/\f.toNat=f.toNat/\0=k/\d=d/\e=e/\a=a/\b=b/\c=c/\g=g/\h=h/\True)/\ ∀(k:Int),(0<=k/\k<=(yN a f)/\ ∀(l:aN),l∈take k.toNat (aU (ai a f))->decide (l.1=(g,h))=false)->ao (decide (k<(sQ a f))) (0<=k/\k<(sQ a f)/\ao (decide ((sy a f k).1.1=g)&&(decide ((sy a f
 k).1.2=h)&&true)) ((∃(l:Int),(0<=l/\l<=(pg a f k)/\ ∀(m:Int),m∈take l.toNat (om a f k).2.1->m≠i)/\f=f/\i=i/\j=j/\f.toNat=f.toNat/\k=k/\0=l/\d=d/\e=e/\a=a/\b=b/\c=c/\g=g/\h=h/\True)/\ ∀(l:Int),(0<=l/\l<=(pg a f k)/\ ∀(m:Int),m∈take l.toNat (om a f k).2.1->m≠i)->0<=k/\k<(sQ a f)/\ao (decide (l<(w8 a f k))) (0<=k/\k<(sQ a f)/\0<=l/\l<(w8 a f k)/\ao (decide (getD (sy a f k).2.1 l.toNat default=i)) (((a,b,c),d,e)=((sN a f (g,h) i j,b,c),d,e)) (∃(m:Int),(0<=m/\m<=(pg a f k)/\ ∀(n:Int),n∈take m.toNat (om a f k).2.1->n≠i)/\toNat ((pg a f k) -m)<toNat ((pg a f k) -l)/\f=f/\i=i/\j=j/\f.toNat=f.toNat/\k=k/\aj (l+1)=m/\d=d/\e=e/\a=a/\b=b/\c=c/\g=g/\h=h/\True)) (0<=k/\k<(sQ a f)/\(∃(m:Int) (n:Bool),∃(o:ae),(0<=m/\m<=(pg a f k)/\Bh i (take m.toNat (om a f k).2.1) n
 o)/\f=f/\i=i/\j=j/\f.toNat=f.toNat/\k=k/\false=n/\0=m/\d=d/\e=e/\a=a/\b=b/\c=c/\g=g/\h=h/\g=g/\h=h/\(sy a f k).2.2=(om a f k).2.2/\o=([]:ae)/\True)/\ ∀(m:Int)(n:Bool)(o:ae),0<=m/\m<=(pg a f k)/\Bh i (take m.toNat (om a f k).2.1) n o->0<=k/\k<(sQ a f)/\ao (decide (m<(w8 a f k))) (∀(p:Bool),p= ! n->(ah p)/\(ah p)/\(ah p)/\(p->(ar p)/\(ar p)/\0<=k/\k<(sQ a f)/\True)/\(ah p)/\(ah p)/\(p->(ar p)/\(ar p)/\0<=m/\m<(w8 a f k)/\True)/\(ah p)/\(p->(ar p)/\(ar p)/\True)/\(ar p)/\ao (bif p then decide (i<getD (sy a f k).2.1 m.toNat default) else false) ((o.length+length [i])*(8:Nat)<=(pn)/\0<=k/\k<(sQ a f)/\0<=m/\m<(w8 a f k)/\(length (o++[i])+length [getD (sy a f k).2.1 m.toNat default])*(8:Nat)<=(pn)/\ ∃(q:Int) (r:Bool),∃(s:ae),(0<=q/\q<=(pg a f k)/\Bh i (take q.toNat (om a f
 k).2.1) r s)/\toNat ((pg a f k) -q)<toNat ((pg a f k) -m)/\f=f/\i=i/\j=j/\f.toNat=f.toNat/\k=k/\true=r/\aj (m+1)=q/\d=d/\e=e/\a=a/\b=b/\c=c/\g=g/\h=h/\g=g/\h=h/\(om a f k).2.2=(om a f k).2.2/\o++[i]++[getD (sy a f k).2.1 m.toNat default]=s/\True) (0<=k/\k<(sQ a f)/\0<=m/\m<(w8 a f k)/\(o.length+length [getD (sy a f k).2.1 m.toNat default])*(8:Nat)<=(pn)/\ ∃(q:Int) (r:Bool),∃(s:ae),(0<=q/\q<=(pg a f k)/\Bh i (take q.toNat (om a f k).2.1) r s)/\toNat ((pg a f k) -q)<toNat ((pg a f k) -m)/\f=f/\i=i/\j=j/\f.toNat=f.toNat/\k=k/\n=r/\aj (m+1)=q/\d=d/\e=e/\a=a/\b=b/\c=c/\g=g/\h=h/\g=g/\h=h/\(om a f k).2.2=(om a f k).2.2/\o++[getD (sy a f k).2.1 m.toNat default]=s/\True)) (ao (! n) ((o.length+length [i])*(8:Nat)<=(pn)/\cH (ai a f).2.2.2.2.1/\okL (ai a f).2.2.2.2.1/\((length
 (o++[i])):Int)<=1099511627776/\((set a f.toNat ((ai a f).1,(ai a f).2.1,(ai a f).2.2.1,(ai a f).2.2.2.1,f6 (ai a f).2.2.2.2.1 ((g,h),o++[i],(om a f k).2.2),(ai a f).2.2.2.2.2),b,c),d,e)=((sN a f (g,h) i j,b,c),d,e)) (cH (ai a f).2.2.2.2.1/\okL (ai a f).2.2.2.2.1/\(ac o)<=1099511627776/\((set a f.toNat ((ai a f).1,(ai a f).2.1,(ai a f).2.2.1,(ai a f).2.2.2.1,f6 (ai a f).2.2.2.2.1 ((g,h),o,(om a f k).2.2),(ai a f).2.2.2.2.2),b,c),d,e)=((sN a f (g,h) i j,b,c),d,e))))) (∃(l:Int),(0<=l/\l<=(yN a f)/\ ∀(m:aN),m∈take l.toNat (aU (ai a f))->decide (m.1=(g,h))=false)/\toNat ((yN a f) -l)<toNat ((yN a f) -k)/\f=f/\i=i/\j=j/\f.toNat=f.toNat/\aj (k+1)=l/\d=d/\e=e/\a=a/\b=b/\c=c/\g=g/\h=h/\True)) (cH (ai a f).2.2.2.2.1/\okL (ai a f).2.2.2.2.1/\((length [i]):Int)<=1099511627776/\((set a f.toNat ((ai a
 f).1,(ai a f).2.1,(ai a f).2.2.1,(ai a f).2.2.2.1,f6 (ai a f).2.2.2.2.1 ((g,h),[i],j),(ai a f).2.2.2.2.2),b,c),d,e)=((sN a f (g,h) i j,b,c),d,e)):=by
  delta om sy pg sQ pn w8 yN ah ar aj ai ac;rintro ns ls hs cl cp n a pl k way-⟨⟨n0,n1⟩,hsr,hol,hnx⟩;have eR:(ns.getD n.toNat default).2.2.2.2.1=aU (ns.getD n.toNat default):=rfl;simp only[eR];have fin:∀ l',wv (aU (ns.getD n.toNat default)) (a,pl) k way=l'→((ns.set n.toNat ((ns.getD n.toNat default).1,(ns.getD n.toNat default).2.1,(ns.getD n.toNat default).2.2.1,(ns.getD n.toNat default).2.2.2.1,l',(ns.getD n.toNat default).2.2.2.2.2),ls,hs),cl,cp)=((sN ns n (a,pl) k way,ls,hs),cl,cp):=by
   rintro _ rfl;rfl
  have same:wv (aU (ns.getD n.toNat default)) (a,pl) k way=aU (ns.getD n.toNat default)->((ns,ls,hs),cl,cp)=((sN ns n (a,pl) k way,ls,hs),cl,cp):=λh=>by
   have h2:=fin _ h;rw[← h2];have hn:n.toNat<ns.length:=ab;have e:((ns.getD n.toNat default).1,(ns.getD n.toNat default).2.1,(ns.getD n.toNat default).2.2.1,(ns.getD n.toNat default).2.2.2.1,aU (ns.getD n.toNat default),(ns.getD n.toNat default).2.2.2.2.2)=ns.getD n.toNat default:=rfl;rw[e];have:ns.set n.toNat (ns.getD n.toNat default)=ns:=by
    rw[bL,cK hn,fZ,List.set_getElem_self]
   rw[this]
  generalize aU (ns.getD n.toNat default)=R at *;have hlR:=hol.1;refine⟨n0,n1,⟨0,⟨ab,ab,aA⟩,aP⟩,?_⟩;rintro i ⟨i0,i1,hi⟩;refine aw (λhk=>?_) (λhk=>?_)
  rotate_left
  .have hk:=aL hk;rw[fi ab] at hi;refine⟨hsr,hol,aA,fin _ ?_⟩;have e:rO R (a,pl)=R.length:=List.findIdx_eq_length_of_false hi;rw[wv,e,af (Nat.lt_irrefl _)]
  have hk:=aI hk;refine⟨i0,hk,aw (λhm=>?_) (λhm=>?_)⟩
  rotate_left
  .have hf:decide ((R.getD i.toNat default).1=(a,pl))=false:=by
    refine dO λq=>?_;rw[q] at hm;simp at hm
   exact⟨i+1,⟨ab,ab,nW i0 hk hi hf⟩,ab,aP⟩
  have hm:decide ((R.getD i.toNat default).1=(a,pl))=true:=by
   generalize R.getD i.toNat default=z at hm;obtain⟨⟨z1,z2⟩,z3,z4⟩:=z;simp at hm;simp[hm]
  have hfi:i=if rO R (a,pl)<R.length then (rO R (a,pl):Int) else -1:=xA i0 hk hi hm;have hfl:rO R (a,pl)<R.length:=fq λq=>by rw[af q] at hfi;omega
  rw[am hfl] at hfi;have hfe:rO R (a,pl)=i.toNat:=ab;have hrl:=hnx _ (bS i0 hk);have eL:wv R (a,pl) k way=if k∈(R.getD i.toNat default).2.1 then R else f6 R ((a,pl),lF k (R.getD i.toNat default).2.1,(R.getD i.toNat default).2.2):=by
   rw[wv,am hfl,hfe]
  generalize hZ:R.getD i.toNat default=Z at *;refine⟨⟨0,⟨ab,ab,aA⟩,aP⟩,?_⟩;rintro j ⟨j0,j1,hj⟩;refine⟨i0,hk,aw (λhjk=>?_) (λhjk=>?_)⟩
  .have hjk:=aI hjk;refine⟨i0,hk,j0,hjk,aw (λhe=>same ?_) (λhe=>?_)⟩
   .have he:=aI he;rw[eL,am (he▸bS j0 hjk)]
   .exact⟨j+1,⟨ab,ab,nW (P:=λx=>x≠k) j0 hjk hj (aL he)⟩,ab,aP⟩
  have hjk:=aL hjk;rw[fi ab] at hj;have hnk:¬ k∈Z.2.1:=λq=>hj k q rfl;rw[af hnk] at eL;refine⟨i0,hk,⟨0,false,[],⟨ab,ab,.inl ⟨rfl,aA,aA⟩⟩,aP⟩,?_⟩;rintro m f l ⟨m0,m1,hins⟩;have hll:(l.length:Int)<=1001:=by
   rcases hins with⟨-,rfl,-⟩|⟨-,rfl,-⟩
   .rw[dA];omega
   .rw[Gh,dA];omega
  refine⟨i0,hk,aw (λhmk=>?_) (λhmk=>?_)⟩
  .have hmk:=aI hmk
   (repeat (intro (b_:Bool) (hb_:b_=_);(repeat refine⟨(by first|(simp +contextual;done)|(rw[hb_];simp +contextual;done)|(rw[hb_];simp;omega)|(rw[hb_];simp;intros;omega)|(rw[hb_];simp +contextual;intros;omega)|(intros;simp_all;done)|(intros;simp_all;omega)),?_⟩)));(repeat (subst hb_))
   refine uD (λh1 h2=>?_) (λh1=>?_)
   .have h1:f=false:=by simpa using h1
    have h2:=aI h2;subst h1;rcases hins with⟨-,rfl,hin⟩|⟨q,-⟩
    .refine⟨by simp only[ga];omega,i0,hk,m0,hmk,by simp only[cu,ga];omega,m+1,true,_,⟨ab,ab,.inr ⟨rfl,rfl,Z.2.1.getD m.toNat default,?_,h2⟩⟩,ab,?_⟩
     .rw[wc m0 hmk];exact i5 _ aA
     ·(repeat refine js ?_);refine⟨?_,bv⟩;rw[wc m0 hmk,RR hin h2]
    .cases q
   .refine⟨i0,hk,m0,hmk,by simp only[ga];omega,m+1,f,l++[Z.2.1.getD m.toNat default],⟨ab,ab,?_⟩,ab,aP⟩;rw[wc m0 hmk];rcases hins with⟨rfl,rfl,hin⟩|⟨rfl,rfl,hin⟩
    .refine .inl ⟨rfl,rfl,λx hx=>?_⟩;rcases dw.1 hx with hx|hx
     .exact hin x hx
     .rw[iP.1 hx];rcases h1 with h1|h1
      .cases h1
      .exact aL h1
    .obtain⟨x,hx,hx2⟩:=hin;exact .inr ⟨rfl,(Sj ⟨x,hx,hx2⟩).symm,x,gv _ hx,hx2⟩
  have hmk:=aL hmk;rw[fi ab] at hins;refine aw (λhf=>?_) (λhf=>?_)
  .have hf:f=false:=by simpa using hf
   rcases hins with⟨-,rfl,hin⟩|⟨q,-⟩
   .refine⟨by simp only[ga];omega,hsr,hol,by simp only[cu,ga];omega,fin _ ?_⟩;rw[eL,Ly hin]
   .rw[hf] at q;cases q
  .have hf:f=true:=by simpa using hf
   rcases hins with⟨q,-⟩|⟨-,rfl,hin⟩
   .rw[hf] at q;cases q
   .exact⟨hsr,hol,ab,fin _ eL⟩
theorem XV:aB 132 OX.spec:=aF Tryz.func132 (av aD Rp) XJ WJ
def aG7(n:Nat)(to:Int):ae:=(replicate n (1000:Int)).set to.toNat 0
def qp(n:Nat)(ls:List aK)(to:Int)(k:Nat):ae:=(range k).foldl (λd _=>ls.foldl sG d) (aG7 n to)
theorem an6{n:Nat}{i:Int}(h0:0<=i)(h1:i<n):(replicate i.toNat (1000:Int)++replicate (n-i.toNat) 0).set i.toNat 1000=replicate (i+1).toNat 1000++replicate (n-(i+1).toNat) 0:=by
 have e:(i+1).toNat=i.toNat+1:=ab
 have e2:n-i.toNat=(n-(i.toNat+1))+1:=ab
 rw[e,e2,List.set_append_right _ _ aA,ue,Nat.sub_self,List.replicate_succ,List.set_cons_zero,List.replicate_succ',ia]
 rfl
def rY(n:Nat)(d:ae):Prop:=d.length=n∧∀ x∈d,0<=x/\x<=1000
theorem Ir{n:Nat}{d:ae}{i:Nat}{v:Int}(h:rY n d)(h0:0<=v)(h1:v<=1000):rY n (d.set i v):=by
 refine⟨by rw[gB];exact h.1,λx hx=>?_⟩
 rcases Ck hx with hx|rfl
 .exact h.2 x hx
 .exact⟨h0,h1⟩
theorem Nh{n:Nat}{d:ae}(h:rY n d){i:Int}(h0:0<=i)(h1:i<n):0<=d.getD i.toNat default/\d.getD i.toNat default<=1000:=h.2 _ (bS h0 (by rw[h.1];exact h1))
theorem TQ{n:Nat}{d:ae}{l:aK}(h:rY n d)(hl:0<=l.1/\l.1<n/\0<=l.2.1/\l.2.1<n):rY n (sG d l):=by
 have ha:=Nh h hl.1 hl.2.1
 have hb:=Nh h hl.2.2.1 hl.2.2.2
 unfold sG lA lB
 exact Ir (Ir h ab ab) ab ab
theorem Jb{n:Nat}:∀{ls:List aK}{d:ae},iX n ls->rY n d->rY n (ls.foldl sG d)
 | [],d,_,h=>h
 | l::ls,d,hg,h=>Jb (ls:=ls) (λx hx=>hg x (fL _ hx)) (TQ h (hg l fW))
theorem VJ{n:Nat}{ls:List aK}{d:ae}(hg:iX n ls)(h:rY n d)(j:Nat):rY n ((ls.take j).foldl sG d) :=
 Jb (λx hx=>hg x (oI hx)) h
theorem KD(n:Nat)(ls:List aK)(to:Int)(hg:iX n ls):∀ k,rY n (qp n ls to k)
 | 0=>Ir ⟨ue,λx hx=>by rw[(List.mem_replicate.1 hx).2];omega⟩ ab ab
 | k+1=>by
  have:=Jb hg (KD n ls to hg k);unfold qp at this ⊢;rw[m3,iG];exact this
def K5:Ct:=⟨[.box 142 yL,.val cI],[.own 3 cI],λd=>[(d.1.1.1.length:Int)<=1000,(d.1.1.2.1.length:Int)<=1000,inN d.1.1.1 d.2.1,iX d.1.1.1.length d.1.1.2.1],λd=>((eU d.1.1.1.length d.1.1.2.1 d.2.1,()),(d.1,()))⟩
def Yw:bw K5.ps->ce:=(λd=>{loops:=(bq 3 (λS=>{ι:=Int×ae,qn:=fj,μ:=λi=>(d.1.1.1.length-i.1).toNat,inv:=λi=>0<=i.1/\i.1<=d.1.1.1.length/\i.2=replicate i.1.toNat 1000++replicate (d.1.1.1.length-i.1.toNat) 0,keep:=[0,1],slots:=λi=>[(6,.int .i64 i.1),(5,.own 524288 1)],keepN:=[1048576,1048577,2097152,2097153,2097154],names:=λi=>[(524288,.live (.row 3 cI i.2))]}) (bq 8 (λS=>{ι:=Int×ae,qn:=fj,μ:=λi=>(d.1.1.1.length-i.1).toNat,inv:=λi=>0<=i.1/\i.1<=d.1.1.1.length/\i.2=qp d.1.1.1.length d.1.1.2.1 d.2.1 i.1.toNat,keep:=[0,1],slots:=λi=>[(7,.int .i64 i.1),(5,.own 524288 1)],keepN:=[1048576,1048577,2097152,2097153,2097154],names:=λi=>[(524288,.live (.row 3 cI i.2))]}) (bq 11 (λS=>{ι:=Int×ae,qn:=fj,μ:=λi=>(d.1.1.2.1.length-i.1).toNat,inv:=λi=>0<=i.1/\i.1<=d.1.1.2.1.length/\i.2=(d.1.1.2.1.take i.1.toNat).foldl sG (qp d.1.1.1.length d.1.1.2.1 d.2.1 (S.i 7).toNat),keep:=[0,1,7],slots:=λi=>[(8,.int .i64 i.1),(5,.own 524288 1)],keepN:=[1048576,1048577,2097152,2097153,2097154],names:=λi=>[(524288,.live (.row 3 cI i.2))]}) cC)))})
def F5(b:List aK)(k:Int)(l:ae) :=
 set l (toNat (ai b k).1) (min (l.getD (toNat (ai b k).1) default) (aj (l.getD (toNat (ai b k).2.1) default+1)))
theorem aJ0 :
 ∀(a:List au)(b:List aK)(c:List aV)(d:ae)(e f:Int),(yZ a b c d e)/\aq f/\True->((ac a)<=1000/\(ac b)<=1000/\inN a f/\ ∀(g:aK),g∈b->0<=g.1/\g.1<(ac a)/\0<=g.2.1/\g.2.1<(ac a))->0<=(ac a)/\(ac a)<=(ac a)/\(↑(8:Nat):Int)*(ac a)<=281474976710656/\(∃(g:Int) (h:ae),(0<=g/\g<=(ac a)/\h=replicate g.toNat (1000:Int)++replicate (a.length -g.toNat) (0:Int))/\f=f/\0=g/\d=d/\e=e/\a=a/\b=b/\c=c/\replicate (toNat (ac a)) (0:Int)=h/\True)/\ ∀(g:Int)(h:ae),0<=g/\g<=(ac a)/\h=replicate g.toNat (1000:Int)++replicate (a.length -g.toNat) (0:Int)->ao (decide (g<(ac h))) (0<=g/\g<(ac h)/\ ∃(i:Int) (j:ae),(0<=i/\i<=(ac a)/\j=replicate i.toNat (1000:Int)++replicate (a.length -i.toNat) (0:Int))/\toNat ((ac a) -i)<toNat ((ac a) -g)/\f=f/\aj (g+1)=i/\d=d/\e=e/\a=a/\b=b/\c=c/\set h g.toNat
 (1000:Int)=j/\True) (0<=f/\f<(ac h)/\(∃(i:Int) (j:ae),(0<=i/\i<=(ac a)/\j=qp a.length b f i.toNat)/\f=f/\0=i/\d=d/\e=e/\a=a/\b=b/\c=c/\set h f.toNat (0:Int)=j/\True)/\ ∀(i:Int)(j:ae),0<=i/\i<=(ac a)/\j=qp a.length b f i.toNat->ao (decide (i<(ac j))) ((∃(k:Int) (l:ae),(0<=k/\k<=(ac b)/\l=List.foldl sG (qp a.length b f i.toNat) (take k.toNat b))/\f=f/\i=i/\0=k/\d=d/\e=e/\a=a/\b=b/\c=c/\j=l/\True)/\ ∀(k:Int)(l:ae),0<=k/\k<=(ac b)/\l=List.foldl sG (qp a.length b f i.toNat) (take k.toNat b)->ao (decide (k<(ac b))) (0<=k/\k<(ac b)/\0<=(ai b k).1/\(ai b k).1<(ac l)/\0<=(ai b k).2.1/\(ai b k).2.1<(ac l)/\0<=(ai b k).2.1/\(ai b k).2.1<(ac l)/\0<=(ai b k).1/\(ai b k).1<(ac l)/\0<=(ai b k).1/\(ai b k).1<(ac l)/\0<=(ai b k).2.1/\(ai b k).2.1<((length (F5 b k l)):Int)/\ ∃(m:Int) (n:ae),(0<=m/\m<=(ac
 b)/\n=List.foldl sG (qp a.length b f i.toNat) (take m.toNat b))/\toNat ((ac b) -m)<toNat ((ac b) -k)/\f=f/\i=i/\aj (k+1)=m/\d=d/\e=e/\a=a/\b=b/\c=c/\set (F5 b k l) (toNat (ai b k).2.1) (min (l.getD (toNat (ai b k).2.1) default) (aj (l.getD (toNat (ai b k).1) default+1)))=n/\True) (∃(m:Int) (n:ae),(0<=m/\m<=(ac a)/\n=qp a.length b f m.toNat)/\toNat ((ac a) -m)<toNat ((ac a) -i)/\f=f/\aj (i+1)=m/\d=d/\e=e/\a=a/\b=b/\c=c/\l=n/\True)) (j=eU a.length b f/\((a,b,c),d,e)=((a,b,c),d,e))):=by
  delta yZ F5 aj ai ac;rintro ns ls hs l p to-⟨h1,h2,⟨t0,t1⟩,hg⟩;have hn0:toNat (ns.length:Int)=ns.length:=ab;refine⟨ab,ab,ab,⟨0,_,⟨ab,ab,rfl⟩,?_⟩,?_⟩
  ·(repeat refine qq ?_);refine⟨?_,bv⟩;simp
  rintro i d ⟨i0,i1,rfl⟩;have hlen:(replicate i.toNat (1000:Int)++replicate (ns.length-i.toNat) 0).length=ns.length:=by
   simp only[cu,ue];omega
  rw[hlen];refine aw (λhk=>?_) (λhk=>?_)
  .have hk:=aI hk;refine⟨i0,hk,i+1,_,⟨ab,ab,rfl⟩,ab,?_⟩
   (repeat refine qq ?_);refine⟨aG ab ab,?_⟩
   (repeat refine qq ?_);refine⟨?_,bv⟩;exact an6 i0 hk
  have hk:=aL hk;have e:i.toNat=ns.length:=ab;rw[e,Nat.sub_self,List.replicate_zero,jG];refine⟨t0,t1,⟨0,_,⟨ab,ab,rfl⟩,?_⟩,?_⟩
  ·(repeat refine qq ?_);exact⟨rfl,bv⟩
  rintro k d ⟨k0,k1,rfl⟩;have dl:=KD (ns.length) ls to hg;rw[(dl k.toNat).1];refine aw (λhk2=>?_) (λhk2=>?_)
  rotate_left
  .have hk2:=aL hk2;have e:k.toNat=ns.length:=ab;rw[e];exact⟨rfl,rfl⟩
  have hk2:=aI hk2;refine⟨⟨0,_,⟨ab,ab,rfl⟩,?_⟩,?_⟩
  ·(repeat refine qq ?_);exact⟨rfl,bv⟩
  rintro j d ⟨j0,j1,rfl⟩;have fl:=VJ hg (dl k.toNat) j.toNat
  refine aw (λhj=>?_) (λhj=>?_)
  rotate_left
  .have hj:=aL hj;refine⟨k+1,_,⟨ab,ab,rfl⟩,ab,?_⟩
   (repeat refine qq ?_);refine⟨aG ab ab,?_⟩
   (repeat refine qq ?_);refine⟨?_,bv⟩;rw[fi ab,show (k+1).toNat=k.toNat+1 by omega];unfold qp;rw[m3,iG];rfl
  have hj:=aI hj;obtain⟨g1,g2,g3,g4⟩:=hg _ (bS j0 hj);generalize hX:List.foldl sG (qp ns.length ls to k.toNat) (ls.take j.toNat)=X at fl;have xa:=fl.2 _ (bS g1 (show _<(X.length:Int) by rw[fl.1];exact g2));have xb:=fl.2 _ (bS g3 (show _<(X.length:Int) by rw[fl.1];exact g4));simp only[gB];rw[fl.1];refine⟨j0,hj,g1,g2,g3,g4,g3,g4,g1,g2,g1,g2,g3,g4,j+1,_,⟨ab,ab,rfl⟩,ab,?_⟩
  (repeat refine js ?_);refine⟨?_,bv⟩;rw[aG ab ab,aG ab ab,wc j0 hj,iG,hX];rfl
theorem SC:aB 130 K5.spec:=aF Tryz.func130 aD Yw aJ0
def aO9:Ct:=⟨[.val (.sl dj),.agg mW],[.val .bool],λd=>[okL d.1],λd=>((m5 d.1 d.2.1,()),())⟩
theorem YM :
 ∀(a:List aN)(b c:Int),(a.length<=maxLen/\ ∀(d:aN),d∈a->((0<=d.1.1/\d.1.1<=4294967295)/\aq d.1.2)/\(d.2.1.length<=maxLen/\ ∀(e:Int),e∈d.2.1->aq e)/\aq d.2.2)/\((0<=b/\b<=4294967295)/\aq c)/\True->((ac a)<=134217728/\ ∀(d:Rt),d∈a->(ac d.2.1)<=1099511627776)->okL a/\m5 a (b,c)=m5 a (b,c):=by
  delta ac;rintro l a n-h;exact⟨h,rfl⟩
theorem al3:aB 131 aO9.spec:=aF Tryz.func131 (av aD NB) aT YM
def VY:Ct:=⟨[.box 83 jN],[.val cP],λd=>[aS d.1],λd=>((IntKind.u32.wrap (167837696+(ax d.1 40).1),()),((ax d.1 40).2,()))⟩
theorem aN7 :
 ∀(a:ae)(b:Int),((a.length<=maxLen/\ ∀(c:Int),c∈a->0<=c/\c<=255)/\aq b)/\True->0<=b/\b<=(ac a)->aS (a,b)/\IntKind.wrap .u32 (aj ((167837696:Int)+(ax (a,b) (40:Int)).1))=IntKind.wrap .u32 ((167837696:Int)+(ax (a,b) (40:Int)).1)/\(ax (a,b) (40:Int)).2=(ax (a,b) (40:Int)).2:=by
  delta aj ac;rintro l p ⟨⟨⟨hl,hw⟩,-⟩,-⟩ hc;have hok:cQ (l,p):=⟨hc,hw⟩
  have r2:=ft hok (n:=40) ab;refine⟨hc,?_,rfl⟩;rw[aG (n:=167837696+_) ab ab]
theorem aU6:aB 133 VY.spec:=aF Tryz.func133 (av aD yu) aT aN7
def o7(d:ae)(to:Int)(p:eh)(plain:Bool)(k way:Int)(ns:List au)(l:aK)(e:Int):List au :=
 if e=0 then ns else if e=1 then r0 d to p plain k way ns (lA l) (lB l) else r0 d to p plain k way (r0 d to p plain k way ns (lA l) (lB l)) (lB l) (lA l)
structure preR (s:bu):Prop where
 c:aS s.2
 n:(s.1.1.length:Int)<=1000
 l:(s.1.2.1.length:Int)<=1000
 g:iX s.1.1.length s.1.2.1
 r:∀ x∈s.1.1,aU x=[]
 a:((je s.1.1).length:Int)<=100000
theorem ZY{ns:List au}{i:Nat}(hi:i<ns.length):(ay (ns.getD i default)).length<=(je ns).length:=by
 have hx:ns.getD i default∈ns:=by
  have:=bS (xs:=ns) (i:=(i:Nat)) ab ab;simpa using this
 unfold je
 generalize ns.getD i default=x at hx ⊢
 obtain⟨u,v,e⟩:=List.append_of_mem hx
 rw[e];simp only[List.flatMap_append,List.flatMap_cons,cu,mh];omega
theorem RI.pre{ls:List aK}{ns0 ns:List au}(h:RI ls (je ns0) ns0 ns)(ha:((je ns0).length:Int)<=100000)(hl:(ls.length:Int)<=1000){u:Int}(u0:0<=u)(u1:u<ns0.length) :
  inN ns u/\cH (aU (ns.getD u.toNat default))/\okL (aU (ns.getD u.toNat default))∧∀ r∈aU (ns.getD u.toNat default),(r.2.1.length:Int)<=1000:=by
 have t:=h.t u.toNat ab
 have tl:=Kj t
 have rl:∀ r∈aU (ns.getD u.toNat default),(r.2.1.length:Int)<=1000:=λr hr=>by have:=Ei (t.2 r hr);omega
 refine⟨⟨u0,by rw[h.n];exact u1⟩,t.1,⟨ab,λr hr=>?_⟩,rl⟩
 have:=rl r hr;omega
def Oz:Ct:=⟨[.box 142 yL,.val .bool],[],λd=>[preR d.1],λd=>((),(Cw d.1 d.2.1,()))⟩
def af0:bw Oz.ps->ce:=(λd=>{loops:=(bq 1 (λS=>{ι:=Int×(List au)×aX,qn:=rH,μ:=λi=>(d.1.1.1.length-i.1).toNat,inv:=λi=>0<=i.1/\i.1<=d.1.1.1.length/\(i.2.1,i.2.2)=(range i.1.toNat).foldl (stepT d.1.1.2.1 d.2.1) (d.1.1.1,d.1.2),keep:=[0,1],slots:=λi=>[(4,.int .i64 i.1)],names:=λi=>[(1048576,.live (.cells 142 [.own 524288 16,.own 524289 6,.own 524290 7,.ptr 1048577 0])),(524288,.live (.row 92 bR i.2.1)),(524289,.live (.row 86 fU d.1.1.2.1)),(524290,.live (.row 153 fg d.1.1.2.2)),(1048577,.live (.cells 83 (dU jN i.2.2)))]}) (bq 9 (λS=>{ι:=Int×(List au),qn:=fj,μ:=λi=>((S.l sX 7).length-i.1).toNat,inv:=λi=>0<=i.1/\i.1<=(S.l sX 7).length/\i.2=((S.l sX 7).take i.1.toNat).foldl (stepP d.1.1.2.1 (eU d.1.1.1.length d.1.1.2.1 (S.i 4)) (S.i 4) d.2.1 (S.i 6)) (S.r bR 449),keep:=[0,1,4,5,6,7],slots:=λi=>[(8,.int .i64 i.1)],keepN:=[448,1048577],names:=λi=>[(1048576,.live (.cells 142 [.own 524288 16,.own 524289 6,.own 524290 7,.ptr 1048577 0])),(524288,.live (.row 92 bR i.2)),(524289,.live (.row 86 fU d.1.1.2.1)),(524290,.live (.row 153 fg d.1.1.2.2))]}) (bq 13 (λS=>{ι:=Int×(List au),qn:=fj,μ:=λi=>(d.1.1.2.1.length-i.1).toNat,inv:=λi=>0<=i.1/\i.1<=d.1.1.2.1.length/\i.2=(range i.1.toNat).foldl (stepK d.1.1.2.1 (eU d.1.1.1.length d.1.1.2.1 (S.i 4)) (S.i 4) (S.c mW 160) d.2.1 (S.i 6)) (S.r bR 524288),keep:=[0,1,4,5,6,7,8,9],slots:=λi=>[(10,.int .i64 i.1)],keepN:=[160,448,1048577],names:=λi=>[(1048576,.live (.cells 142 [.own 524288 16,.own 524289 6,.own 524290 7,.ptr 1048577 0])),(524288,.live (.row 92 bR i.2)),(524289,.live (.row 86 fU d.1.1.2.1)),(524290,.live (.row 153 fg d.1.1.2.2))]}) (bq 18 (λS=>{ι:=Int×(List au),qn:=fj,μ:=λi=>(2-i.1).toNat,inv:=λi=>0<=i.1/\i.1<=2/\i.2=o7 (eU d.1.1.1.length d.1.1.2.1 (S.i 4)) (S.i 4) (S.c mW 160) d.2.1 (S.i 10) (S.i 6) (S.r bR 524288) (S.c fU 192) i.1,keep:=[0,1,4,5,6,7,8,9,10,11,12],slots:=λi=>[(13,.int .i64 i.1)],keepN:=[160,192,448,1504,1048577],names:=λi=>[(1048576,.live (.cells 142 [.own 524288 16,.own 524289 6,.own 524290 7,.ptr 1048577 0])),(524288,.live (.row 92 bR i.2)),(524289,.live (.row 86 fU d.1.1.2.1)),(524290,.live (.row 153 fg d.1.1.2.2))]}) cC)))),cuts:=(bq 7 (λS=>{ι:=Int×aX,qn:=fj,inv:=λi=>(i.1,i.2)=oF ((range (S.i 4).toNat).foldl (stepT d.1.1.2.1 d.2.1) (d.1.1.1,d.1.2)).2,keep:=[0,1,4,5],slots:=λi=>[(6,.int .i64 i.1)],keepN:=[448,1048576,449,450,451],names:=λi=>[(1048577,.live (.cells 83 (dU jN i.2)))]}) cC)})
def rN(b:List aK)(n:Int) :=
 ((ai b n).2.1,(ai b n).1)
def sC(b:List aK)(n:Int) :=
 ((ai b n).1,(ai b n).2.1)
def mi(b:List aK)(n p:Int) :=
 getD [(sC b n),(rN b n)] p.toNat default
def o6(g:Int)(h:List au)(l:Int) :=
 getD (ai h g).1 l.toNat default
def wg(g:Int)(h:List au) :=
 ((length (ai h g).1):Int)
def rI(g:Int)(h:List au)(l:Int) :=
 ((o6 g h l).1,(32:Int))
def Aq(i:aX) :=
 ax (ax i 3).2 (3:Int)
theorem SN :
 ∀(a:List au)(b:List aK)(c:List aV)(d:ae)(e:Int)(f:Bool),(yZ a b c d e)/\True/\True->preR ((a,b,c),d,e)->(∃(g:Int) (h:List au),∃(i:aX),(0<=g/\g<=(ac a)/\(h,i)=List.foldl (stepT b f) (a,d,e) (range g.toNat))/\f=f/\0=g/\a=h/\b=b/\c=c/\d=i.1/\e=i.2/\True)/\ ∀(g:Int)(h:List au)(i:aX),0<=g/\g<=(ac a)/\(h,i)=List.foldl (stepT b f) (a,d,e) (range g.toNat)->ao (decide (g<(ac h))) ((ac h)<=1000/\(ac b)<=1000/\inN h g/\iX h.length b/\aS i/\(∀(j:Bool),j=decide (aj ((1:Int)+(ax i 3).1)=3)->(ah j)/\(ah j)/\(ah j)/\ao j ((ar j)/\aS (ax i 3).2/\(ar j)/\ao (bif j then decide (0<(Aq i).1) else false) (∃(k:Int) (l:aX),(k,l)=oF (List.foldl (stepT b f) (a,d,e) (range g.toNat)).2/\f=f/\g=g/\1=k/\eU h.length b g=eU h.length b g/\h=h/\b=b/\c=c/\(Aq i).2.1=l.1/\(Aq i).2.2=l.2/\True) (∃(k:Int) (l:aX),(k,l)=oF
 (List.foldl (stepT b f) (a,d,e) (range g.toNat)).2/\f=f/\g=g/\aj ((1:Int)+(ax i 3).1)=k/\eU h.length b g=eU h.length b g/\h=h/\b=b/\c=c/\(Aq i).2.1=l.1/\(Aq i).2.2=l.2/\True)) (j=false/\(j->false=true)/\ao (bif j then false else false) (∃(k:Int) (l:aX),(k,l)=oF (List.foldl (stepT b f) (a,d,e) (range g.toNat)).2/\f=f/\g=g/\1=k/\eU h.length b g=eU h.length b g/\h=h/\b=b/\c=c/\(ax i 3).2.1=l.1/\(ax i 3).2.2=l.2/\True) (∃(k:Int) (l:aX),(k,l)=oF (List.foldl (stepT b f) (a,d,e) (range g.toNat)).2/\f=f/\g=g/\aj ((1:Int)+(ax i 3).1)=k/\eU h.length b g=eU h.length b g/\h=h/\b=b/\c=c/\(ax i 3).2.1=l.1/\(ax i 3).2.2=l.2/\True)))/\ ∀(j:Int)(k:aX),(j,k)=oF (List.foldl (stepT b f) (a,d,e) (range g.toNat)).2->0<=g/\g<(ac h)/\(∃(l:Int) (m:List au),(0<=l/\l<=(wg g h)/\m=List.foldl (stepP b (eU a.length b g) g f j) h
 (take l.toNat (ai h g).1))/\f=f/\g=g/\j=j/\(ai h g).1=(ai h g).1/\0=l/\eU h.length b g=eU h.length b g/\k.1=k.1/\k.2=k.2/\h=m/\b=b/\c=c/\True)/\ ∀(l:Int)(m:List au),0<=l/\l<=(wg g h)/\m=List.foldl (stepP b (eU a.length b g) g f j) h (take l.toNat (ai h g).1)->ao (decide (l<(wg g h))) (0<=l/\l<(wg g h)/\(∃(n:Int) (o:List au),(0<=n/\n<=(ac b)/\o=List.foldl (stepK b (eU a.length b g) g (rI g h l) f j) m (range n.toNat))/\f=f/\g=g/\j=j/\(ai h g).1=(ai h g).1/\l=l/\0=n/\(o6 g h l).1=(o6 g h l).1/\(32:Int)=32/\eU h.length b g=eU h.length b g/\k.1=k.1/\k.2=k.2/\m=o/\b=b/\c=c/\True)/\ ∀(n:Int)(o:List au),0<=n/\n<=(ac b)/\o=List.foldl (stepK b (eU a.length b g) g (rI g h l) f j) m (range n.toNat)->ao (decide (n<(ac b))) (0<=n/\n<(ac b)/\(∃(p:Int) (q:List au),(0<=p/\p<=2/\q=o7 (eU a.length b g) g (rI g h l)
 f n j o (ai b n) p)/\f=f/\g=g/\j=j/\(ai h g).1=(ai h g).1/\l=l/\n=n/\0=p/\(o6 g h l).1=(o6 g h l).1/\(32:Int)=32/\(ai b n).1=(ai b n).1/\(ai b n).2.1=(ai b n).2.1/\(ai b n).2.2.1=(ai b n).2.2.1/\(ai b n).2.2.2.1=(ai b n).2.2.2.1/\(ai b n).2.2.2.2.1=(ai b n).2.2.2.2.1/\(ai b n).2.2.2.2.2=(ai b n).2.2.2.2.2/\eU h.length b g=eU h.length b g/\[(sC b n),(rN b n)]=[(sC b n),(rN b n)]/\k.1=k.1/\k.2=k.2/\o=q/\b=b/\c=c/\True)/\ ∀(p:Int)(q:List au),0<=p/\p<=2/\q=o7 (eU a.length b g) g (rI g h l) f n j o (ai b n) p->ao (decide (p<2)) (0<=p/\p<((length [(sC b n),(rN b n)]):Int)/\0<=(mi b n p).1/\(mi b n p).1<((length (eU h.length b g)):Int)/\0<=(mi b n p).2/\(mi b n p).2<((length (eU h.length b g)):Int)/\ ∀(r:Bool),r= ! decide (getD (eU h.length b g) (toNat (mi b n p).1) default=aj (getD (eU
 h.length b g) (toNat (mi b n p).2) default+1))->(ah (! r))/\((! r)->(ar (! r))/\(ar (! r))/\True)/\(ah (! r))/\ ∀(s:Bool),s= ! decide ((mi b n p).2=g)->(ah (! r&&s))/\(ah (! r&&s))/\(ah (! r&&s))/\(ah (! r&&s))/\(ah (! r&&s))/\((! r&&s)->(ar (! r&&s))/\(ar (! r&&s))/\0<=(mi b n p).2/\(mi b n p).2<(ac q)/\True)/\(ah (! r&&s))/\(ah (! r&&s))/\((! r)->(ar (! r))/\(s->(! r&&s))/\True)/\(aE r)/\ao (bif r then true else bif s then (q.getD (toNat (mi b n p).2) default).2.2.2.1 else false) (∃(t:Int) (u:List au),(0<=t/\t<=2/\u=o7 (eU a.length b g) g (rI g h l) f n j o (ai b n) t)/\toNat ((2:Int) -t)<toNat ((2:Int) -p)/\f=f/\g=g/\j=j/\(ai h g).1=(ai h g).1/\l=l/\n=n/\aj (p+1)=t/\(o6 g h l).1=(o6 g h l).1/\(32:Int)=32/\(ai b n).1=(ai b n).1/\(ai b n).2.1=(ai b n).2.1/\(ai b n).2.2.1=(ai b n).2.2.1/\(ai b n).2.2.2.1=(ai b
 n).2.2.2.1/\(ai b n).2.2.2.2.1=(ai b n).2.2.2.2.1/\(ai b n).2.2.2.2.2=(ai b n).2.2.2.2.2/\eU h.length b g=eU h.length b g/\[(sC b n),(rN b n)]=[(sC b n),(rN b n)]/\k.1=k.1/\k.2=k.2/\q=u/\b=b/\c=c/\True) (∀(t:Bool),t=f->(ah t)/\(ah t)/\(ah t)/\(ah t)/\(ah t)/\(t->(ar t)/\(ar t)/\0<=(mi b n p).1/\(mi b n p).1<(ac q)/\True)/\(ah t)/\(ah t)/\(t->(ar t)/\(ar t)/\okL (q.getD (toNat (mi b n p).1) default).2.2.2.2.1/\True)/\(ar t)/\ao (bif t then m5 (q.getD (toNat (mi b n p).1) default).2.2.2.2.1 (rI g h l) else false) (∃(u:Int) (v:List au),(0<=u/\u<=2/\v=o7 (eU a.length b g) g (rI g h l) f n j o (ai b n) u)/\toNat ((2:Int) -u)<toNat ((2:Int) -p)/\f=f/\g=g/\j=j/\(ai h g).1=(ai h g).1/\l=l/\n=n/\aj (p+1)=u/\(o6 g h l).1=(o6 g h l).1/\(32:Int)=32/\(ai b n).1=(ai b n).1/\(ai b n).2.1=(ai b n).2.1/\(ai b
 n).2.2.1=(ai b n).2.2.1/\(ai b n).2.2.2.1=(ai b n).2.2.2.1/\(ai b n).2.2.2.2.1=(ai b n).2.2.2.2.1/\(ai b n).2.2.2.2.2=(ai b n).2.2.2.2.2/\eU h.length b g=eU h.length b g/\[(sC b n),(rN b n)]=[(sC b n),(rN b n)]/\k.1=k.1/\k.2=k.2/\q=v/\b=b/\c=c/\True) (inN q (mi b n p).1/\cH (aU (q.getD (toNat (mi b n p).1) default))/\okL (aU (q.getD (toNat (mi b n p).1) default))/\(∀(u:aN),u∈aU (q.getD (toNat (mi b n p).1) default)->(ac u.2.1)<=1000)/\ ∃(u:Int) (v:List au),(0<=u/\u<=2/\v=o7 (eU a.length b g) g (rI g h l) f n j o (ai b n) u)/\toNat ((2:Int) -u)<toNat ((2:Int) -p)/\f=f/\g=g/\j=j/\(ai h g).1=(ai h g).1/\l=l/\n=n/\aj (p+1)=u/\(o6 g h l).1=(o6 g h l).1/\(32:Int)=32/\(ai b n).1=(ai b n).1/\(ai b n).2.1=(ai b n).2.1/\(ai b n).2.2.1=(ai b n).2.2.1/\(ai b n).2.2.2.1=(ai b n).2.2.2.1/\(ai b
 n).2.2.2.2.1=(ai b n).2.2.2.2.1/\(ai b n).2.2.2.2.2=(ai b n).2.2.2.2.2/\eU h.length b g=eU h.length b g/\[(sC b n),(rN b n)]=[(sC b n),(rN b n)]/\k.1=k.1/\k.2=k.2/\sN q (mi b n p).1 (rI g h l) n j=v/\b=b/\c=c/\True))) (∃(r:Int) (s:List au),(0<=r/\r<=(ac b)/\s=List.foldl (stepK b (eU a.length b g) g (rI g h l) f j) m (range r.toNat))/\toNat ((ac b) -r)<toNat ((ac b) -n)/\f=f/\g=g/\j=j/\(ai h g).1=(ai h g).1/\l=l/\aj (n+1)=r/\(o6 g h l).1=(o6 g h l).1/\(32:Int)=32/\eU h.length b g=eU h.length b g/\k.1=k.1/\k.2=k.2/\q=s/\b=b/\c=c/\True)) (∃(p:Int) (q:List au),(0<=p/\p<=(wg g h)/\q=List.foldl (stepP b (eU a.length b g) g f j) h (take p.toNat (ai h g).1))/\toNat ((wg g h) -p)<toNat ((wg g h) -l)/\f=f/\g=g/\j=j/\(ai h g).1=(ai h g).1/\aj (l+1)=p/\eU h.length b g=eU h.length b
 g/\k.1=k.1/\k.2=k.2/\o=q/\b=b/\c=c/\True)) (∃(n:Int) (o:List au),∃(p:aX),(0<=n/\n<=(ac a)/\(o,p)=List.foldl (stepT b f) (a,d,e) (range n.toNat))/\toNat ((ac a) -n)<toNat ((ac a) -g)/\f=f/\aj (g+1)=n/\m=o/\b=b/\c=c/\k.1=p.1/\k.2=p.2/\True)) (((h,b,c),i)=Cw ((a,b,c),d,e) f):=by
  delta mi o6 yZ sC rN wg rI Aq ah ar aE aj ai ac;rintro ns0 ls hs l p plain ⟨⟨-,⟨hl,hw⟩,-⟩,-⟩⟨hc,h1,h2,hg,hr,ha⟩;dsimp only at hc h1 h2 hg hr ha;have hB:cQ (l,p):=⟨hc,hw⟩
  have base:∀ n,n<=ns0.length->RI ls (je ns0) ns0 ((range n).foldl (stepT ls plain) (ns0,(l,p))).1/\cQ ((range n).foldl (stepT ls plain) (ns0,(l,p))).2:=λn hn=>RI.stepTs (ns0:=ns0) (s:=(ns0,(l,p))) ⟨RI.start hr,hB⟩ hg hn;refine⟨⟨0,ns0,(l,p),⟨ab,ab,rfl⟩,aP⟩,?_⟩;rintro to ns cs ⟨t0,t1,hF⟩;obtain⟨R,hcs⟩:=base to.toNat ab;have e1:=(jt Prod.fst hF).symm;have e2:=(jt Prod.snd hF).symm;dsimp only at e1 e2;rw[e1] at R;rw[e2] at hcs ⊢;have hn:=R.n;simp only[hn];refine aw (λht=>?_) (λht=>?_)
  rotate_left
  .have ht:=aL ht;have e:to.toNat=ns0.length:=ab;rw[e] at e1 e2;unfold Cw;dsimp only;rw[e1,e2]
  have ht:=aI ht;have v3:=ft hcs (n:=3) ab;have k1:=(dr hcs 3).1;have k2:=(dr k1 3).1;refine⟨h1,h2,⟨t0,by rw[hn];exact ht⟩,hg,hcs.at',?_,?_⟩
  .rw[aG (n:=1+_) ab ab]
   (repeat (refine bY ?_;repeat refine bZ ?_));refine aw (λkb=>?_) (λkb=>?_)
   .simp only[kb,cond_true];have kb:=aI kb;refine⟨λh=>h,k1.at',λh=>h,bU (λkc=>?_) (λkc=>?_)⟩
    .refine⟨1,_,?_,aP⟩;rw[oF,am kb,am kc]
    .refine⟨_,_,?_,aP⟩;rw[oF,am kb,af kc,kb]
   .simp only[kb,oM];have kb:=aL kb;refine⟨bv,λh=>h,?_⟩;rw[uy];refine⟨_,_,?_,aP⟩;rw[oF,af kb]
  rintro way cs' hW;have hw3:=Ol hcs;rw[← hW] at hw3;obtain⟨hcs',w0,w1⟩:=hw3;dsimp only at hcs' w0 w1;have hD:rY ns0.length (eU ns0.length ls to):=KD ns0.length ls to hg _;generalize eD:eU ns0.length ls to=D at hD ⊢;have hP:∀ q∈(ns.getD to.toNat default).1,q.1∈je ns0:=λq hq=>by
   have:ay (ns.getD to.toNat default)=ay (ns0.getD to.toNat default):=R.ports ab;refine R6 (i:=to.toNat) ab (q:=q) ?_;rw[← this];exact hq
  have hPl:((ns.getD to.toNat default).1.length:Int)<=100000:=by
   have:ay (ns.getD to.toNat default)=ay (ns0.getD to.toNat default):=R.ports ab;have e:(ns.getD to.toNat default).1=ay (ns0.getD to.toNat default):=this;rw[e];have:=ZY (ns:=ns0) (i:=to.toNat) ab;omega
  generalize eP:(ns.getD to.toNat default).1=P at hP hPl ⊢;refine⟨t0,ht,⟨0,ns,⟨ab,ab,rfl⟩,aP⟩,?_⟩;rintro i ns1 ⟨i0,i1,hn1⟩;have R1:RI ls (je ns0) ns0 ns1:=by
   rw[hn1];exact R.stepPs hg w0 w1 λq hq=>hP q (oI hq)
  refine aw (λhi=>?_) (λhi=>?_)
  rotate_left
  .have hi:=aL hi;refine⟨to+1,ns1,cs',⟨ab,ab,?_⟩,ab,aP⟩;rw[show (to+1).toNat=to.toNat+1 by omega,m3,iG,← hF,List.foldl_cons,List.foldl_nil,stepT];dsimp only;rw[← hW,hn,show ((to.toNat:Nat):Int)=to by omega,eD,hn1,fi ab,← eP];rfl
  have hi:=aI hi;have hq:=hP _ (bS i0 hi);generalize eq:(P.getD i.toNat default).1=q at hq ⊢;refine⟨i0,hi,⟨0,ns1,⟨ab,ab,rfl⟩,aP⟩,?_⟩;rintro k ns2 ⟨k0,kl,hn2⟩;have R2:RI ls (je ns0) ns0 ns2:=by
   rw[hn2];exact R1.stepKs (p:=(q,32)) hg rfl hq w0 w1 ab
  refine aw (λhk=>?_) (λhk=>?_)
  rotate_left
  .have hk:=aL hk;refine⟨i+1,ns2,⟨ab,ab,?_⟩,ab,aP⟩;rw[wc i0 hi,iG,← hn1,List.foldl_cons,List.foldl_nil,stepP,hn2,eq,show k.toNat=ls.length by omega]
  have hk:=aI hk;have hh:=hg.at' (k:=k.toNat) ab;have la:=Pr (ls:=ls) (k:=k.toNat) ab;have lb:=Qv (ls:=ls) (k:=k.toNat) ab;rw[show ((k.toNat:Nat):Int)=k by omega] at la lb;refine⟨k0,hk,⟨0,ns2,⟨ab,ab,rfl⟩,aP⟩,?_⟩;rintro e ns3 ⟨e0,el,hn3⟩;refine aw (λhe=>?_) (λhe=>?_)
  rotate_left
  .have he:=aL he;have he:e=2:=ab;subst he;refine⟨k+1,ns3,⟨ab,ab,?_⟩,ab,aP⟩;rw[show (k+1).toNat=k.toNat+1 by omega,m3,iG,← hn2,List.foldl_cons,List.foldl_nil,stepK,hn3,o7,af ab,af ab,show ((k.toNat:Nat):Int)=k by omega]
  have he:=aI he;obtain⟨u,v,hL,hS,hu,hv,hk',R3⟩:∃ u v,([((ls.getD k.toNat default).1,(ls.getD k.toNat default).2.1),((ls.getD k.toNat default).2.1,(ls.getD k.toNat default).1)]:List (Int×Int)).getD e.toNat default=(u,v) ∧
    o7 D to (q,32) plain k way ns2 (ls.getD k.toNat default) (e+1)=r0 D to (q,32) plain k way ns3 u v/\(0<=u/\u<ns0.length)/\(0<=v/\v<ns0.length)/\lnk ls u k/\RI ls (je ns0) ns0 ns3:=by
   rcases (show e=0∨e=1 by omega) with rfl|rfl
   .refine⟨_,_,rfl,?_,hh.1,hh.2,la,?_⟩
    .rw[hn3,o7,o7,af ab,am ab,am rfl];rfl
    .rw[hn3,o7,am rfl];exact R2
   .refine⟨_,_,rfl,?_,hh.2,hh.1,lb,?_⟩
    .rw[hn3,o7,o7,af ab,af ab,af ab,am rfl];rfl
    .rw[hn3,o7,af ab,am rfl];exact R2.step (p:=(q,32)) hh.1.1 hh.1.2 rfl hq la w0 w1
  have hn3':=R3.n;simp only[hL,hn3',hD.1];have dv:=hD.2 _ (bS hv.1 (show v<D.length by rw[hD.1];exact hv.2));rw[aG (n:=D.getD v.toNat default+1) ab ab];have pr:=R3.pre ha h2 hu.1 hu.2;refine⟨e0,by simp only[dM,List.length_nil];omega,hu.1,hu.2,hv.1,hv.2,?_⟩;intro b hb;refine⟨aA,aA,aA,?_⟩;intro b1 hb1;refine⟨aA,aA,aA,aA,aA,λh=>⟨λ_=>h,λ_=>h,hv.1,hv.2,bv⟩,aA,aA,λh=>⟨λ_=>h,λh1=>by simp only[h,h1];rfl,bv⟩,λh=>by rw[h];rfl,?_⟩;refine sF (λho=>?_) (λho1 ho2=>?_)
  .refine⟨e+1,ns3,⟨ab,ab,?_⟩,ab,aP⟩;rw[hS,r0,am];rcases ho with ho|ho
   .rw[hb] at ho;exact .inl (gF ho)
   .rcases b1 with _|_
    .cases ho
    .exact .inr ⟨gF hb1.symm,ho⟩
  have hN:¬ (D.getD u.toNat default≠D.getD v.toNat default+1∨(v≠to/\iL (ns3.getD v.toNat default)=true)):=by
   rw[hb] at ho1;rintro (h|⟨h,h'⟩)
   .exact h (iD ho1)
   .rw[hb1,dO h] at ho2;rw[show iL (ns3.getD v.toNat default)=(ns3.getD v.toNat default).2.2.2.1 from rfl] at h';rw[h'] at ho2;cases ho2
  intro b2 hb2;subst hb2;refine⟨aA,aA,aA,aA,aA,λh=>⟨λ_=>h,λ_=>h,hu.1,hu.2,bv⟩,aA,aA,λh=>⟨λ_=>h,λ_=>h,pr.2.2.1,bv⟩,λh=>h,?_⟩;refine uD (λha1 ha2=>?_) (λhna=>?_)
  .refine⟨e+1,ns3,⟨ab,ab,?_⟩,ab,aP⟩;rw[hS,r0,af hN,am ⟨ha1,ha2⟩]
  .refine⟨pr.1,pr.2.1,pr.2.2.1,pr.2.2.2,e+1,_,⟨ab,ab,?_⟩,ab,aP⟩;rw[hS,r0,af hN,af];rintro⟨x1,x2⟩;rcases hna with h|h
   .rw[h] at x1;cases x1
   .rw[show aU (ns3.getD u.toNat default)=(ns3.getD u.toNat default).2.2.2.2.1 from rfl,h] at x2;cases x2
theorem Y0:aB 63 Oz.spec:=aF Tryz.func63 (av (av (av (av aD SC) yu) al3) XV) af0 SN
structure preO (s:bu):Prop where
 c:aS s.2
 n0:0<s.1.1.length
 n:(s.1.1.length:Int)<=1000
 l:(s.1.2.1.length:Int)<=1000
 g:iX s.1.1.length s.1.2.1
 h:s.1.2.2=[]
 a:((je s.1.1).length:Int)<=100000
 p:∀ x∈s.1.1,aU x≠[]->0<(ay x).length/\(ay x).length<=1000/\(aU x).length<=100000
def oN(s:bu)(i:Int):List au×aX:=(range i.toNat).foldl wS (s.1.1,s.2)
def oL(s:bu)(i:Int):(List au×List aK)×aX:=(range i.toNat).foldl th (((oN s s.1.1.length).1,s.1.2.1),(oN s s.1.1.length).2)
def oC(s:bu)(i:Nat):List aV×Int×aX:=(range i).foldl (λc _=>pL (oL s s.1.2.1.length).1.1 c) ([],0,(ax (oL s s.1.2.1.length).2 4).2)
def oK(s:bu):Int:=(ax (oL s s.1.2.1.length).2 4).1
structure AG (ns0 ns:List au):Prop where
 n:ns.length=ns0.length
 e:∀ i:Nat,i<ns0.length->ay (ns.getD i default)=ay (ns0.getD i default)/\aU (ns.getD i default)=aU (ns0.getD i default)
theorem AG.set{ns0 ns:List au}(h:AG ns0 ns){i:Nat}(hi:i<ns0.length){x:au}(hx:ay x=ay (ns.getD i default)/\aU x=aU (ns.getD i default)):AG ns0 (ns.set i x):=by
 refine⟨by rw[gB];exact h.n,λj hj=>?_⟩
 by_cases e:i=j
 .subst e;rw[kw (by rw[h.n];exact hi)];exact⟨hx.1.trans (h.e _ hj).1,hx.2.trans (h.e _ hj).2⟩
 .rw[nA e];exact h.e _ hj
theorem UK(x:au)(i:Int)(c:aX):ay (ik x i c).1=ay x/\aU (ik x i c).1=aU x:=by
 unfold ik
 dsimp only
 repeat' split
 all_goals exact⟨rfl,rfl⟩
theorem Gs{x:au}{i:Int}{c:aX}(h:cQ c):cQ (ik x i c).2:=by
 unfold ik
 dsimp only
 repeat' split
 all_goals first|exact (dr h _).1|exact (dr (dr h _).1 _).1|exact (dr (dr (dr h _).1 _).1 _).1
theorem SE(x:au)(i:Int)(c:aX):ay (wO x i c).1=ay x/\aU (wO x i c).1=aU x:=UK x i c
theorem ar9{x:au}{i:Int}{c:aX}(h:cQ c):cQ (wO x i c).2:=by
 have k:=Gs (x:=x) (i:=i) h
 exact (dr (dr (dr k _).1 _).1 _).1
theorem KB(s:bu)(h:cQ s.2){i:Int}(hi:i<=s.1.1.length):AG s.1.1 (oN s i).1/\cQ (oN s i).2:=by
 refine Ay (λc:List au×aX=>AG s.1.1 c.1/\cQ c.2) _ ⟨⟨rfl,λ_ _=>⟨rfl,rfl⟩⟩,h⟩ λk hk c hc=>?_
 have hk:=List.mem_range.1 hk
 exact⟨hc.1.set ab (SE _ _ _),ar9 hc.2⟩
theorem Of(s:bu){i:Int}(h0:0<=i):oN s (i+1)=wS (oN s i) i.toNat:=by
 unfold oN
 rw[show (i+1).toNat=i.toNat+1 by omega,m3,iG];rfl
theorem RH(l:aK)(c:aX):lA (odLink l c).1=lA l/\lB (odLink l c).1=lB l:=by
 unfold odLink
 dsimp only
 repeat' split
 all_goals exact⟨rfl,rfl⟩
theorem ZV{l:aK}{c:aX}(h:cQ c):cQ (odLink l c).2:=by
 unfold odLink
 dsimp only
 repeat' split
 all_goals first|exact (dr h _).1|exact (dr (dr h _).1 _).1
theorem iX.set{n:Nat}{ls:List aK}(h:iX n ls){x:aK}(hx:0<=x.1/\x.1<n/\0<=x.2.1/\x.2.1<n)(i:Nat):iX n (ls.set i x):=λy hy=>by
 rcases Ck hy with hy|rfl
 .exact h y hy
 .exact hx
theorem iX.odLink{n:Nat}{ls:List aK}(h:iX n ls){i:Nat}(hi:i<ls.length)(c:aX):iX n (ls.set i (odLink (ls.getD i default) c).1):=by
 have k:=RH (ls.getD i default) c
 have g:=h.at' hi
 refine h.set ?_ i
 show 0<=lA _/\lA _<_/\0<=lB _/\lB _<_
 rw[k.1,k.2]
 exact⟨g.1.1,g.1.2,g.2.1,g.2.2⟩
theorem TT{ns0 ns:List au}(h:AG ns0 ns){l:aK}(hl:0<=lB l/\lB l<ns0.length):AG ns0 (r8 ns l):=by
 unfold r8
 split
 .exact h.set ab ⟨rfl,rfl⟩
 .exact h
theorem yc(s:bu)(h:cQ s.2)(hg:iX s.1.1.length s.1.2.1){i:Int}(hi:i<=s.1.2.1.length) :
  AG s.1.1 (oL s i).1.1/\cQ (oL s i).2/\iX s.1.1.length (oL s i).1.2/\(oL s i).1.2.length=s.1.2.1.length:=by
 have b:=KB s h (i:=s.1.1.length) ab
 refine Ay (λc:(List au×List aK)×aX=>AG s.1.1 c.1.1/\cQ c.2/\iX s.1.1.length c.1.2/\c.1.2.length=s.1.2.1.length) _ ⟨b.1,b.2,hg,rfl⟩ λk hk c hc=>?_
 have hk:=List.mem_range.1 hk
 obtain⟨c1,c2,c3,c4⟩:=hc
 have hk2:k<c.1.2.length:=ab
 have g:=c3.at' hk2
 have e:=RH (c.1.2.getD k default) c.2
 refine⟨TT c1 ?_,ZV c2,c3.odLink hk2 _,by simp only[th,gB];exact c4⟩
 rw[e.2];exact g.2
theorem QL(s:bu){i:Int}(h0:0<=i):oL s (i+1)=th (oL s i) i.toNat:=by
 unfold oL
 rw[show (i+1).toNat=i.toNat+1 by omega,m3,iG];rfl
theorem Kw(s:bu)(i:Nat):oC s (i+1)=pL (oL s s.1.2.1.length).1.1 (oC s i):=by
 unfold oC
 rw[m3,iG];rfl
theorem aG6{ns:List au}{s:List aV×Int×aX}(h:cQ s.2.2):cQ (pL ns s).2.2/\s.2.1<=(pL ns s).2.1/\(pL ns s).2.1<=s.2.1+60/\(pL ns s).1.length<=s.1.length+1:=by
 have a:=ft h (n:=60) ab
 have k1:=(dr h 60).1
 have k2:=(dr k1 ns.length).1
 unfold pL
 dsimp only
 split
 .exact⟨k2,by dsimp only;omega,by dsimp only;omega,by dsimp only;omega⟩
 .exact⟨(dr (dr (dr k2 _).1 _).1 _).1,by dsimp only;omega,by dsimp only;omega,by simp only[cu,dM,List.length_nil];omega⟩
theorem G5(s:bu)(h:cQ s.2)(hg:iX s.1.1.length s.1.2.1):∀ i:Nat,cQ (oC s i).2.2/\0<=(oC s i).2.1/\(oC s i).2.1<=60*i/\(oC s i).1.length<=i
 | 0=>⟨(dr (yc s h hg (f8 _)).2.1 4).1,f8 _,f8 _,iq _⟩
 | i+1=>by
  have k:=G5 s h hg i;have m:=aG6 (ns:=(oL s s.1.2.1.length).1.1) k.1;rw[Kw];exact⟨m.1,ab,ab,ab⟩
def QI:Ct:=⟨[.box 142 yL],[],λd=>[preO d.1],λd=>((),(pC d.1,()))⟩
def ZI:bw QI.ps->ce:=(λd=>{loops:=(bq 2 (λS=>{ι:=Int×(List au)×aX,qn:=rH,μ:=λi=>(d.1.1.1.length-i.1).toNat,inv:=λi=>0<=i.1/\i.1<=d.1.1.1.length/\(i.2.1,i.2.2)=oN d.1 i.1,keep:=[0,2],slots:=λi=>[(3,.int .i64 i.1)],keepN:=[1048576,2097153,2097154],names:=λi=>[(2097152,.live (.row 92 bR i.2.1)),(1048577,.live (.cells 83 (dU jN i.2.2)))]}) (bq 20 (λS=>{ι:=Int×(List au)×(List aK)×aX,qn:=Qm,μ:=λi=>(d.1.1.2.1.length-i.1).toNat,inv:=λi=>0<=i.1/\i.1<=d.1.1.2.1.length/\((i.2.1,i.2.2.1),i.2.2.2)=oL d.1 i.1,keep:=[0,2],slots:=λi=>[(5,.int .i64 i.1)],keepN:=[1048576,2097154],names:=λi=>[(2097152,.live (.row 92 bR i.2.1)),(2097153,.live (.row 86 fU i.2.2.1)),(1048577,.live (.cells 83 (dU jN i.2.2.2)))]}) (bq 32 (λS=>{ι:=Int×Int×(List aV)×aX,qn:=Qm,μ:=λi=>i.1.toNat,inv:=λi=>0<=i.1/\i.1<=oK d.1/\(i.2.2.1,i.2.1,i.2.2.2)=oC d.1 (oK d.1-i.1).toNat,keep:=[0,2],slots:=λi=>[(8,.int .i64 i.1),(7,.int .i64 i.2.1)],keepN:=[2097152,2097153],names:=λi=>[(1048576,.live (.cells 142 [.own 2097152 16,.own 2097153 6,.own 524288 7,.ptr 1048577 0])),(524288,.live (.row 153 fg i.2.2.1)),(1048577,.live (.cells 83 (dU jN i.2.2.2)))]}) cC))),cuts:=(bq 18 (λS=>{ι:=(List au)×aX,qn:=fj,inv:=λi=>i.1=(oN d.1 (S.i 3)).1.set (S.i 3).toNat (ik ((oN d.1 (S.i 3)).1.getD (S.i 3).toNat default) (S.i 3) (oN d.1 (S.i 3)).2).1/\i.2=(ik ((oN d.1 (S.i 3)).1.getD (S.i 3).toNat default) (S.i 3) (oN d.1 (S.i 3)).2).2,keep:=[0,2,3,4],slots:=λi=>[],keepN:=[1048576,2097153,2097154],names:=λi=>[(2097152,.live (.row 92 bR i.1)),(1048577,.live (.cells 83 (dU jN i.2)))]}) (bq 28 (λS=>{ι:=(List aK)×aX,qn:=fj,inv:=λi=>i.1=(oL d.1 (S.i 5)).1.2.set (S.i 5).toNat (odLink ((oL d.1 (S.i 5)).1.2.getD (S.i 5).toNat default) (oL d.1 (S.i 5)).2).1/\i.2=(odLink ((oL d.1 (S.i 5)).1.2.getD (S.i 5).toNat default) (oL d.1 (S.i 5)).2).2,keep:=[0,2,5,6],slots:=λi=>[],keepN:=[1048576,2097152,2097154],names:=λi=>[(2097153,.live (.row 86 fU i.1)),(1048577,.live (.cells 83 (dU jN i.2)))]}) cC))})
def Ie(f:Int)(i:List au)(j:aX) :=
 set i f.toNat ((ai i f).1,(ai i f).2.1,(ai i f).2.2.1,(ai i f).2.2.2.1,(ai i f).2.2.2.2.1,(ai i f).2.2.2.2.2.1,(ai i f).2.2.2.2.2.2.1,(ax j 6).1,(ai i f).2.2.2.2.2.2.2.2)
def tF(f:Int)(i:List au)(j:aX) :=
 getD (Ie f i j) f.toNat default
def Kh(f:Int)(i:List au)(j:aX) :=
 set (Ie f i j) f.toNat ((tF f i j).1,(tF f i j).2.1,(tF f i j).2.2.1,(tF f i j).2.2.2.1,(tF f i j).2.2.2.2.1,(tF f i j).2.2.2.2.2.1,(tF f i j).2.2.2.2.2.2.1,(tF f i j).2.2.2.2.2.2.2.1,(ax (ax j 6).2 (65536:Int)).1,(tF f i j).2.2.2.2.2.2.2.2.2)
def sc(j:List au)(p:aX) :=
 ax (ax p 60).2 (ac j)
def vN(j:List au)(p:aX) :=
 j.getD (toNat (sc j p).1) default
def Au(j:List au)(p:aX) :=
 ax (sc j p).2 ((length (vN j p).2.2.2.2.1):Int)
def F9(f:Int)(g:List au)(h:aX) :=
 set g f.toNat ((ai g f).1,(ai g f).2.1,(ai g f).2.2.1,(ai g f).2.2.2.1,(ai g f).2.2.2.2.1,(ai g f).2.2.2.2.2.1,IntKind.wrap .u32 ((167837696:Int)+(ax (ax h 10).2 (40:Int)).1),(ai g f).2.2.2.2.2.2.2)
def wV(a:List au)(b:List aK)(c:List aV)(d:ae)(e f:Int) :=
 ik (getD (oN ((a,b,c),d,e) f).1 f.toNat default) f (oN ((a,b,c),d,e) f).2
def xu(f:Int)(g:List au) :=
 getD (set g f.toNat ((ai g f).1,IntKind.wrap .u32 (aj ((167903232:Int)+f)),(ai g f).2.2)) f.toNat default
def vf(a:List au)(b:List aK)(c:List aV)(d:ae)(e i:Int) :=
 odLink (getD (oL ((a,b,c),d,e) i).1.2 i.toNat default) (oL ((a,b,c),d,e) i).2
def um(j:List au)(p:aX) :=
 ax (Au j p).2 ((length (vN j p).1):Int)
def xk(j:List au)(p:aX) :=
 getD (vN j p).2.2.2.2.1 (toNat (Au j p).1) default
def oU(i:Int)(j:List au)(m:List aK) :=
 j.getD (toNat (ai m i).2.1) default
def yw(a:List au)(b:List aK)(c:List aV)(d:ae)(e f:Int)(i:List au)(j:aX) :=
 i=set (oN ((a,b,c),d,e) f).1 f.toNat (wV a b c d e f).1/\j=(wV a b c d e f).2
def rW(f:Int)(i:List au)(j:aX) :=
 getD (Kh f i j) f.toNat default
def Bx(h j:aX) :=
 (ax h 10).2.1=j.1/\(ax h 10).2.2=j.2/\True
def xy(f:Int)(g:List au)(h:aX) :=
 getD (F9 f g h) f.toNat default
def Kv(j:List au)(n:Int)(p:aX) :=
 (aj (n+(ax p 60).1),(sc j p).1,false,(xk j p).1,[(getD (vN j p).1 (toNat (um j p).1) default).2],(xk j p).2.2)
def EC(j:aX) :=
 ax (ax (ax j 6).2 (65536:Int)).2 (1000:Int)
def yI(h:aX) :=
 ax (ax h 10).2 (3:Int)
def yC(l:aX) :=
 ax (ax l 6).2 (3:Int)
theorem aJ2 :
 ∀(a:List au)(b:List aK)(c:List aV)(d:ae)(e:Int),(((a.length<=maxLen/\ ∀(f:au),f∈a->CT.wf bR f)/\(b.length<=maxLen/\ ∀(f:aK),f∈b->CT.wf fU f)/\c.length<=maxLen/\ ∀(f:aV),f∈c->CT.wf fg f)/\(d.length<=maxLen/\ ∀(f:Int),f∈d->0<=f/\f<=255)/\aq e)/\True->preO ((a,b,c),d,e)->(∃(f:Int) (g:List au),∃(h:aX),(0<=f/\f<=(ac a)/\(g,h)=oN ((a,b,c),d,e) f)/\0=f/\b=b/\c=c/\a=g/\d=h.1/\e=h.2/\True)/\ ∀(f:Int)(g:List au)(h:aX),0<=f/\f<=(ac a)/\(g,h)=oN ((a,b,c),d,e) f->ao (decide (f<(ac g))) (0<=f/\f<(ac g)/\(aS h/\ao (decide ((ax h 10).1=1)) (∃(i:List au) (j:aX),(yw a b c d e f i j)/\f=f/\f.toNat=f.toNat/\b=b/\c=c/\set g f.toNat ((ai g f).1,(ai g f).2.1,(ai g f).2.2.1,(ai g f).2.2.2.1,(ai g f).2.2.2.2.1,(ai g f).2.2.2.2.2.1,(ai g f).2.2.2.2.2.2.1,(ai g f).2.2.2.2.2.2.2.1,(ai g f).2.2.2.2.2.2.2.2.1,(ai g
 f).2.2.2.2.2.2.2.2.2.1,(ai g f).2.2.2.2.2.2.2.2.2.2.1,true,(ai g f).2.2.2.2.2.2.2.2.2.2.2.2)=i/\(Bx h j)) (ao (decide ((ax h 10).1=2)) (aS (ax h 10).2/\aS (yI h).2/\ ∃(i:List au) (j:aX),(yw a b c d e f i j)/\f=f/\f.toNat=f.toNat/\b=b/\c=c/\set g f.toNat ((ai g f).1,(ai g f).2.1,(ai g f).2.2.1,(ai g f).2.2.2.1,(ai g f).2.2.2.2.1,(ai g f).2.2.2.2.2.1,(ai g f).2.2.2.2.2.2.1,(ai g f).2.2.2.2.2.2.2.1,(ai g f).2.2.2.2.2.2.2.2.1,(ai g f).2.2.2.2.2.2.2.2.2.1,(aj ((1:Int)+(yI h).1),aj ((1:Int)+(ax (yI h).2 (200:Int)).1)),(ai g f).2.2.2.2.2.2.2.2.2.2.2)=i/\(ax (yI h).2 (200:Int)).2.1=j.1/\(ax (yI h).2 (200:Int)).2.2=j.2/\True) (ao (decide ((ax h 10).1=3)) (∀(i:Bool),i= ! (ai g f).2.2.2.1->(i->(ar i)/\(2:Int)≠(0:Int)/\True)/\(ah i)/\(ar i)/\ ∃(j:List au) (k:aX),(j=set (oN ((a,b,c),d,e) f).1 f.toNat (wV a b c d e
 f).1/\k=(wV a b c d e f).2)/\f=f/\f.toNat=f.toNat/\b=b/\c=c/\set g f.toNat ((ai g f).1,(ai g f).2.1,(ai g f).2.2.1,(ai g f).2.2.2.1,(ai g f).2.2.2.2.1,(ai g f).2.2.2.2.2.1,(ai g f).2.2.2.2.2.2.1,(ai g f).2.2.2.2.2.2.2.1,(ai g f).2.2.2.2.2.2.2.2.1,(ai g f).2.2.2.2.2.2.2.2.2.1,(ai g f).2.2.2.2.2.2.2.2.2.2.1,(ai g f).2.2.2.2.2.2.2.2.2.2.2.1,bif i then decide (Int.tmod f (2:Int)=1) else false,(ai g f).2.2.2.2.2.2.2.2.2.2.2.2.2)=j/\(ax h 10).2.1=k.1/\(ax h 10).2.2=k.2/\True) (ao (decide ((ax h 10).1=4)) (∃(i:List au) (j:aX),(yw a b c d e f i j)/\f=f/\f.toNat=f.toNat/\b=b/\c=c/\set g f.toNat ((ai g f).1,(ai g f).2.1,(ai g f).2.2.1,(ai g f).2.2.2.1,(ai g f).2.2.2.2.1,(2:Int),(ai g f).2.2.2.2.2.2)=i/\(Bx h j)) (ao (decide ((ax h 10).1=5)) (∃(i:List au) (j:aX),(yw a b c d e f i j)/\f=f/\f.toNat=f.toNat/\b=b/\c=c/\set (set g
 f.toNat ((ai g f).1,IntKind.wrap .u32 (aj ((167903232:Int)+f)),(ai g f).2.2)) f.toNat ((xu f g).1,(xu f g).2.1,(xu f g).2.2.1,(xu f g).2.2.2.1,(xu f g).2.2.2.2.1,(3:Int),(xu f g).2.2.2.2.2.2)=i/\(Bx h j)) (ao (decide ((ax h 10).1=6)) (aS (ax h 10).2/\ ∃(i:List au) (j:aX),(yw a b c d e f i j)/\f=f/\f.toNat=f.toNat/\b=b/\c=c/\set (F9 f g h) f.toNat ((xy f g h).1,(xy f g h).2.1,(xy f g h).2.2.1,(xy f g h).2.2.2.1,(xy f g h).2.2.2.2.1,(4:Int),(xy f g h).2.2.2.2.2.2)=i/\(ax (ax h 10).2 (40:Int)).2.1=j.1/\(ax (ax h 10).2 (40:Int)).2.2=j.2/\True) (∃(i:List au) (j:aX),(yw a b c d e f i j)/\f=f/\f.toNat=f.toNat/\b=b/\c=c/\g=i/\(Bx h j))))))))/\ ∀(i:List au)(j:aX),i=set (oN ((a,b,c),d,e) f).1 f.toNat (wV a b c d e f).1/\j=(wV a b c d e f).2->aS j/\aS (ax j 6).2/\aS (ax (ax j 6).2
 (65536:Int)).2/\ ∃(k:Int) (l:List au),∃(m:aX),(0<=k/\k<=(ac a)/\(l,m)=oN ((a,b,c),d,e) k)/\toNat ((ac a) -k)<toNat ((ac a) -f)/\aj (f+1)=k/\b=b/\c=c/\set (Kh f i j) f.toNat ((rW f i j).1,(rW f i j).2.1,(rW f i j).2.2.1,(rW f i j).2.2.2.1,(rW f i j).2.2.2.2.1,(rW f i j).2.2.2.2.2.1,(rW f i j).2.2.2.2.2.2.1,(rW f i j).2.2.2.2.2.2.2.1,(rW f i j).2.2.2.2.2.2.2.2.1,(EC j).1,(rW f i j).2.2.2.2.2.2.2.2.2.2)=l/\(EC j).2.1=m.1/\(EC j).2.2=m.2/\True) ((∃(i:Int) (j:List au),∃(k:List aK) (l:aX),(0<=i/\i<=(ac b)/\((j,k),l)=oL ((a,b,c),d,e) i)/\0=i/\c=c/\g=j/\b=k/\h.1=l.1/\h.2=l.2/\True)/\ ∀(i:Int)(j:List au)(k:List aK)(l:aX),0<=i/\i<=(ac b)/\((j,k),l)=oL ((a,b,c),d,e) i->ao (decide (i<(ac k))) (0<=i/\i<(ac k)/\(aS l/\ao (decide ((ax l 6).1=1)) (aS (ax l 6).2/\ ∃(m:List aK) (n:aX),(m=set (oL
 ((a,b,c),d,e) i).1.2 i.toNat (vf a b c d e i).1/\n=(vf a b c d e i).2)/\i=i/\i.toNat=i.toNat/\j=j/\c=c/\set k i.toNat ((ai k i).1,(ai k i).2.1,(ai k i).2.2.1,(ax (ax l 6).2 (10:Int)).1,(ai k i).2.2.2.2)=m/\(ax (ax l 6).2 (10:Int)).2.1=n.1/\(ax (ax l 6).2 (10:Int)).2.2=n.2/\True) (ao (decide ((ax l 6).1=2)) (aS (ax l 6).2/\0<=(yC l).1/\(yC l).1<((length [(65536:Int),(20000:Int),(3:Int)]):Int)/\ ∃(m:List aK) (n:aX),(m=set (oL ((a,b,c),d,e) i).1.2 i.toNat (vf a b c d e i).1/\n=(vf a b c d e i).2)/\i=i/\i.toNat=i.toNat/\j=j/\c=c/\set k i.toNat ((ai k i).1,(ai k i).2.1,(ai k i).2.2.1,(ai k i).2.2.2.1,getD [(65536:Int),(20000:Int),(3:Int)] (toNat (yC l).1) default,(ai k i).2.2.2.2.2)=m/\(yC l).2.1=n.1/\(yC l).2.2=n.2/\True) (∃(m:List aK) (n:aX),(m=set (oL ((a,b,c),d,e) i).1.2 i.toNat
 (vf a b c d e i).1/\n=(vf a b c d e i).2)/\i=i/\i.toNat=i.toNat/\j=j/\c=c/\k=m/\(ax l 6).2.1=n.1/\(ax l 6).2.2=n.2/\True)))/\ ∀(m:List aK)(n:aX),m=set (oL ((a,b,c),d,e) i).1.2 i.toNat (vf a b c d e i).1/\n=(vf a b c d e i).2->0<=(ai m i).1/\(ai m i).1<(ac j)/\ ∀(o:Bool),o=(j.getD (toNat (ai m i).1) default).2.2.2.2.2.2.2.2.2.2.2.2.1->(ah o)/\(ah o)/\(ah o)/\(ah o)/\(ah o)/\(ah o)/\(ah o)/\(o->(ar o)/\(ar o)/\0<=(ai m i).2.1/\(ai m i).2.1<(ac j)/\True)/\(ah o)/\(ah o)/\(ar o)/\ao (bif o then (oU i j m).2.2.2.2.2.2.2.2.2.2.2.2.1 else false) (0<=(ai m i).2.1/\(ai m i).2.1<(ac j)/\ ∃(p:Int) (q:List au),∃(r:List aK) (s:aX),(0<=p/\p<=(ac b)/\((q,r),s)=oL ((a,b,c),d,e) p)/\toNat ((ac b) -p)<toNat ((ac b) -i)/\aj (i+1)=p/\c=c/\set j (toNat (ai m i).2.1) ((oU i j m).1,(oU i j m).2.1,(oU i j
 m).2.2.1,(oU i j m).2.2.2.1,(oU i j m).2.2.2.2.1,(oU i j m).2.2.2.2.2.1,(oU i j m).2.2.2.2.2.2.1,(oU i j m).2.2.2.2.2.2.2.1,(oU i j m).2.2.2.2.2.2.2.2.1,(oU i j m).2.2.2.2.2.2.2.2.2.1,(oU i j m).2.2.2.2.2.2.2.2.2.2.1,(oU i j m).2.2.2.2.2.2.2.2.2.2.2.1,false,(oU i j m).2.2.2.2.2.2.2.2.2.2.2.2.2)=q/\m=r/\n.1=s.1/\n.2=s.2/\True) (∃(p:Int) (q:List au),∃(r:List aK) (s:aX),(0<=p/\p<=(ac b)/\((q,r),s)=oL ((a,b,c),d,e) p)/\toNat ((ac b) -p)<toNat ((ac b) -i)/\aj (i+1)=p/\c=c/\j=q/\m=r/\n.1=s.1/\n.2=s.2/\True)) (aS l/\(∃(m:Int) (n:Int),∃(o:List aV) (p:aX),(0<=m/\m<=oK ((a,b,c),d,e)/\(o,n,p)=oC ((a,b,c),d,e) (toNat (oK ((a,b,c),d,e) -m)))/\0=n/\(ax l 4).1=m/\j=j/\k=k/\c=o/\(ax l 4).2.1=p.1/\(ax l 4).2.2=p.2/\True)/\ ∀(m n:Int)(o:List aV)(p:aX),0<=m/\m<=oK ((a,b,c),d,e)/\(o,n,p)=oC ((a,b,c),d,e) (toNat (oK
 ((a,b,c),d,e) -m))->ao (decide (0<m)) (aS p/\aS (ax p 60).2/\0<=(sc j p).1/\(sc j p).1<(ac j)/\ao (decide (((length (vN j p).2.2.2.2.1):Int)=0)) (∃(q:Int) (r:Int),∃(s:List aV) (t:aX),(0<=q/\q<=oK ((a,b,c),d,e)/\(s,r,t)=oC ((a,b,c),d,e) (toNat (oK ((a,b,c),d,e) -q)))/\q.toNat<m.toNat/\aj (n+(ax p 60).1)=r/\aj (m -1)=q/\j=j/\k=k/\o=s/\(sc j p).2.1=t.1/\(sc j p).2.2=t.2/\True) (aS (sc j p).2/\0<=(Au j p).1/\(Au j p).1<((length (vN j p).2.2.2.2.1):Int)/\aS (Au j p).2/\0<=(um j p).1/\(um j p).1<((length (vN j p).1):Int)/\aS (um j p).2/\ao (decide ((ax (um j p).2 (4:Int)).1=3)) ((o.length+length [(aj (n+(ax p 60).1),(sc j p).1,false,(xk j p).1,([]:ae),(xk j p).2.2)])*(72:Nat)<=(pn)/\ ∃(q:Int) (r:Int),∃(s:List aV) (t:aX),(0<=q/\q<=oK ((a,b,c),d,e)/\(s,r,t)=oC ((a,b,c),d,e)
 (toNat (oK ((a,b,c),d,e) -q)))/\q.toNat<m.toNat/\aj (n+(ax p 60).1)=r/\aj (m -1)=q/\j=j/\k=k/\o++[(aj (n+(ax p 60).1),(sc j p).1,false,(xk j p).1,([]:ae),(xk j p).2.2)]=s/\(ax (um j p).2 (4:Int)).2.1=t.1/\(ax (um j p).2 (4:Int)).2.2=t.2/\True) ((o.length+length [(Kv j n p)])*(72:Nat)<=(pn)/\ ∃(q:Int) (r:Int),∃(s:List aV) (t:aX),(0<=q/\q<=oK ((a,b,c),d,e)/\(s,r,t)=oC ((a,b,c),d,e) (toNat (oK ((a,b,c),d,e) -q)))/\q.toNat<m.toNat/\aj (n+(ax p 60).1)=r/\aj (m -1)=q/\j=j/\k=k/\o++[(Kv j n p)]=s/\(ax (um j p).2 (4:Int)).2.1=t.1/\(ax (um j p).2 (4:Int)).2.2=t.2/\True))) (((j,k,o),p)=pC ((a,b,c),d,e)))):=by
  delta Kh Au tF F9 vN wV xu vf um xk oU yw rW sc Ie pn Bx xy Kv EC yI yC ah ar aj ai ac;rintro ns0 ls0 hs0 l p ⟨⟨⟨hnl,hnw⟩,⟨hl,hw⟩,-⟩,-⟩⟨hc,n0,h1,h2,hg,hh,ha,hp⟩;dsimp only at hc n0 h1 h2 hg hh ha hp;subst hh;have hB:cQ (l,p):=⟨hc,hw⟩
  generalize eS:(((ns0,ls0,[]),l,p):bu)=Z;have z1:Z.1.1=ns0:=by rw[← eS]
  have z2:Z.1.2.1=ls0:=by rw[← eS]
  have z3:Z.2=(l,p):=by rw[← eS]
  have zB:cQ Z.2:=by rw[z3];exact hB
  have zG:iX Z.1.1.length Z.1.2.1:=by rw[z1,z2];exact hg
  refine⟨⟨0,ns0,(l,p),⟨ab,ab,by rw[← eS];rfl⟩,aP⟩,?_⟩;rintro i ns cs ⟨i0,il,hF⟩;obtain⟨A1,hcs⟩:=KB Z zB (i:=i) (by rw[z1];exact il);rw[← hF] at A1 hcs;dsimp only at A1 hcs;rw[← hF];dsimp only;have hn:=A1.n;rw[z1] at hn;refine aw (λhi=>?_) (λhi=>?_)
  .have hi:=aI hi;have hi':i.toNat<ns.length:=ab;have k10:=(dr hcs 10).1;refine⟨i0,hi,⟨hcs.at',?_⟩,?_⟩
   .simp only[List.set_set,kw hi'];refine aw (λc=>?_) (λc1=>?_)
    .have c:=aI c;refine⟨_,_,⟨?_,?_⟩,aP⟩
     .rw[ik,am c];rfl
     .rw[ik,am c]
    have c1:=aL c1;refine aw (λc=>?_) (λc2=>?_)
    .have c:=aI c;have k3:=ft k10 (n:=3) ab;have k11:=(dr k10 3).1;have k4:=ft k11 (n:=200) ab;refine⟨k10.at',k11.at',_,_,⟨?_,?_⟩,aP⟩
     .rw[ik,af c1,am c,aG (n:=1+_) ab ab,aG (n:=1+_) ab ab];rfl
     .rw[ik,af c1,am c]
    have c2:=aL c2;refine aw (λc=>?_) (λc3=>?_)
    .have c:=aI c;intro b hb;refine⟨aA,aA,aA,_,_,⟨?_,?_⟩,aP⟩
     .have eb:(bif b then decide (i%2=1) else false)=(!iL (ns.getD i.toNat default)&&decide (i%2=1)):=by
       rw[show b = !iL (ns.getD i.toNat default) from hb];cases iL (ns.getD i.toNat default) <;> rfl
      rw[ik,af c1,af c2,am c,HA i0,eb];rfl
     .rw[ik,af c1,af c2,am c]
    have c3:=aL c3;refine aw (λc=>?_) (λc4=>?_)
    .have c:=aI c;refine⟨_,_,⟨?_,?_⟩,aP⟩
     .rw[ik,af c1,af c2,af c3,am c];rfl
     .rw[ik,af c1,af c2,af c3,am c]
    have c4:=aL c4;refine aw (λc=>?_) (λc5=>?_)
    .have c:=aI c;refine⟨_,_,⟨?_,?_⟩,aP⟩
     .rw[ik,af c1,af c2,af c3,af c4,am c,aG (n:=167903232+i) ab ab,rC (n:=167903232+i) ab ab];rfl
     .rw[ik,af c1,af c2,af c3,af c4,am c]
    have c5:=aL c5;refine aw (λc=>?_) (λc6=>?_)
    .have c:=aI c;have k4:=ft k10 (n:=40) ab;refine⟨k10.at',_,_,⟨?_,?_⟩,aP⟩
     .rw[ik,af c1,af c2,af c3,af c4,af c5,am c,rC (n:=167837696+_) ab ab];rfl
     .rw[ik,af c1,af c2,af c3,af c4,af c5,am c]
    have c6:=aL c6;refine⟨ns,_,⟨?_,?_⟩,aP⟩
    .rw[ik,af c1,af c2,af c3,af c4,af c5,af c6];exact (rX i0 hi).symm
    .rw[ik,af c1,af c2,af c3,af c4,af c5,af c6]
   .rintro nsx csx ⟨hx1,hx2⟩;have kc:=Gs (x:=ns.getD i.toNat default) (i:=i) hcs;rw[← hx2] at kc;have ka:=(dr kc 6).1;have kb:=(dr ka 65536).1;have hxl:i.toNat<nsx.length:=by rw[hx1,gB];exact hi'
    simp only[List.set_set,kw hxl];refine⟨kc.at',ka.at',kb.at',i+1,_,_,⟨ab,ab,?_⟩,ab,aP⟩;rw[Of Z i0,← hF];unfold wS wO;dsimp only;rw[show ((i.toNat:Nat):Int)=i by omega,← hx2,hx1,kw hi',List.set_set];rfl
  have hi:=aL hi;have e:i=Z.1.1.length:=by rw[z1];omega
  subst e;refine⟨⟨0,ns,ls0,cs,⟨ab,ab,?_⟩,aP⟩,?_⟩
  .unfold oL;rw[← hF,z2];rfl
  clear hF A1 hcs hn hi i0 il;rintro i ns ls cs ⟨i0,il,hF⟩;obtain⟨A1,hcs,lg,ll⟩:=yc Z zB zG (i:=i) (by rw[z2];exact il);rw[← hF] at A1 hcs lg ll;dsimp only at A1 hcs lg ll;rw[← hF];dsimp only;have hn:=A1.n;rw[z1] at hn lg;rw[z2] at ll;refine aw (λhi=>?_) (λhi=>?_)
  .have hi:=aI hi;have hi':i.toNat<ls.length:=ab;have k6:=(dr hcs 6).1;refine⟨i0,hi,⟨hcs.at',?_⟩,?_⟩
   .refine aw (λc=>?_) (λc1=>?_)
    .have c:=aI c;refine⟨k6.at',_,_,⟨?_,?_⟩,aP⟩
     .rw[odLink,am c]
     .rw[odLink,am c]
    have c1:=aL c1;refine aw (λc=>?_) (λc2=>?_)
    .have c:=aI c;have k3:=ft k6 (n:=3) ab;refine⟨k6.at',k3.1,k3.2,_,_,⟨?_,?_⟩,aP⟩
     .rw[odLink,af c1,am c]
     .rw[odLink,af c1,am c]
    have c2:=aL c2;refine⟨ls,_,⟨?_,?_⟩,aP⟩
    .rw[odLink,af c1,af c2];exact (rX i0 hi).symm
    .rw[odLink,af c1,af c2]
   .rintro lsx csx ⟨hx1,hx2⟩;have lgx:=lg.odLink hi' cs;rw[← hx1] at lgx;have lxl:i.toNat<lsx.length:=by rw[hx1,gB];exact hi'
    have g:=lgx.at' lxl;have e1:(odLink (ls.getD i.toNat default) cs).1=lsx.getD i.toNat default:=by rw[hx1,kw hi']
    have nx:((r8 ns (lsx.getD i.toNat default),lsx),csx)=oL Z (i+1):=by
     rw[QL Z i0,← hF];unfold th;dsimp only;rw[← hx1,← hx2,e1]
    unfold r8 at nx;refine⟨g.1.1,by rw[hn];exact g.1.2,?_⟩;intro b hb;refine⟨aA,aA,aA,aA,aA,aA,aA,λh=>⟨λ_=>h,λ_=>h,g.2.1,by rw[hn];exact g.2.2,bv⟩,aA,aA,λh=>h,?_⟩;refine uD (λha1 ha2=>?_) (λhna=>?_)
    .refine⟨g.2.1,by rw[hn];exact g.2.2,i+1,_,_,_,⟨ab,ab,?_⟩,ab,aP⟩;rw[← nx,am ⟨hb.symm.trans ha1,ha2⟩];rfl
    .refine⟨i+1,_,_,_,⟨ab,ab,?_⟩,ab,aP⟩;rw[← nx,af];rintro⟨x1,x2⟩;rcases hna with h|h
     .rw[hb] at h;rw[show dJ (ns.getD (lA (lsx.getD i.toNat default)).toNat default)=(ns.getD (lsx.getD i.toNat default).1.toNat default).2.2.2.2.2.2.2.2.2.2.2.2.1 from rfl,h] at x1;cases x1
     .rw[show dJ (ns.getD (lB (lsx.getD i.toNat default)).toNat default)=(ns.getD (lsx.getD i.toNat default).2.1.toNat default).2.2.2.2.2.2.2.2.2.2.2.2.1 from rfl,h] at x2;cases x2
  have hi:=aL hi;have e:i=Z.1.2.1.length:=by rw[z2];omega
  subst e;have k4:=ft hcs (n:=4) ab;have eK:oK Z=(ax cs 4).1:=by unfold oK;rw[← hF]
  refine⟨hcs.at',⟨_,0,[],(ax cs 4).2,⟨k4.1,by rw[eK];exact f8 _,?_⟩,aP⟩,?_⟩
  .rw[eK,Int.sub_self];unfold oC;rw[← hF];rfl
  clear i0 il hi;rintro k a hs cs2 ⟨k0,kl,hC⟩;have cok:=G5 Z zB zG (oK Z-k).toNat
  rw[← hC] at cok;dsimp only at cok;obtain⟨ok2,a0,al,hsl⟩:=cok;rw[eK] at kl al hsl;refine aw (λhk=>?_) (λhk=>?_)
  rotate_left
  .have hk:=aL hk;have e:k=0:=ab;subst e;rw[Int.sub_zero] at hC;have:pC Z=(((oL Z Z.1.2.1.length).1.1,(oL Z Z.1.2.1.length).1.2,(oC Z (oK Z).toNat).1),(oC Z (oK Z).toNat).2.2):=by
    unfold pC oC oK oL oN;rfl
   rw[this,← hC,← hF]
  have hk:=aI hk;have q1:=ft ok2 (n:=60) ab;have b1:=(dr ok2 60).1;have q2:=ft b1 (n:=(ns.length:Int)) ab;have b2:=(dr b1 (ns.length:Int)).1;have en:oC Z (oK Z-(k-1)).toNat=pL ns (hs,a,cs2):=by
   rw[show (oK Z-(k-1)).toNat=(oK Z-k).toNat+1 by omega,Kw,← hC,← hF]
  unfold pL at en;dsimp only at en;generalize eW:(ax (ax cs2 60).2 (ns.length:Int))=W at q2 b2 en ⊢;generalize eX:ns.getD W.1.toNat default=X at en ⊢;have hX:ay X=ay (ns0.getD W.1.toNat default)/\aU X=aU (ns0.getD W.1.toNat default):=by
   have:=A1.e W.1.toNat (by rw[z1];omega)
   rw[z1,eX] at this;exact this
  have hM:ns0.getD W.1.toNat default∈ns0:=bS q2.1 ab;rw[aG (n:=a+_) ab ab,aG (n:=k-1) ab ab];refine⟨ok2.at',b1.at',q2.1,q2.2,?_⟩;refine aw (λhr=>?_) (λhr=>?_)
  .have hr:((aU X).length:Int)=0:=aI hr;refine⟨k-1,_,_,_,⟨ab,ab,?_⟩,ab,aP⟩;rw[en,am (show (aU X).length=0 from by omega)]
  have hr:=aL hr;have hr':¬ (aU X).length=0:=λe=>hr (by rw[show X.2.2.2.2.1=aU X from rfl,e];rfl);have hpp:=hp _ hM (by rw[← hX.2];exact λe=>hr' (by rw[e];rfl));rw[← hX.1,← hX.2] at hpp;have q3:=ft b2 (n:=((aU X).length:Int)) ab;have b3:=(dr b2 ((aU X).length:Int)).1;have q4:=ft b3 (n:=((ay X).length:Int)) ab;have b4:=(dr b3 ((ay X).length:Int)).1;rw[af hr'] at en;refine⟨b2.at',q3.1,q3.2,b3.at',q4.1,q4.2,b4.at',?_⟩;refine bU (λhz=>?_) (λhz=>?_)
  .have hz:(ax (ax (ax W.2 ((aU X).length:Int)).2 ((ay X).length:Int)).2 4).1=3:=hz;refine⟨by simp only[dM,List.length_nil];omega,k-1,_,_,_,⟨ab,ab,?_⟩,ab,aP⟩;rw[en,am hz];rfl
  .have hz:¬ (ax (ax (ax W.2 ((aU X).length:Int)).2 ((ay X).length:Int)).2 4).1=3:=hz;refine⟨by simp only[dM,List.length_nil];omega,k-1,_,_,_,⟨ab,ab,?_⟩,ab,aP⟩;rw[en,af hz];rfl
theorem aW6:aB 64 QI.spec:=aF Tryz.func64 (av (av aD yu) aU6) ZI aJ2
theorem GI.small{s:bu}{nn nl:Nat}(h:GI s nn nl)(hn:nn<=100)(hl:nl<=100):rB s :=
 ⟨h.c.at',by rw[h.n];omega,by rw[h.l];omega,by rw[h.h];decide,λx hx=>by have:=h.plen x hx;omega⟩
theorem GI.inN{s:bu}{nn nl:Nat}(h:GI s nn nl){a:Int}(h0:0<=a)(h1:a<nn):inN s.1.1 a:=⟨h0,by rw[h.n];exact h1⟩
theorem GI.preR{s:bu}{nn nl:Nat}(h:GI s nn nl)(hn:nn<=100)(hl:nl<=100):preR s:=by
 refine⟨h.c.at',by rw[h.n];omega,by rw[h.l];omega,h.ends,h.routes,?_⟩
 have:=FB h.plen
 rw[h.n] at this
 have:=Nat.mul_le_mul hn (show 2*nl<=200 by omega)
 omega
structure RS (s:bu) (nn nl:Nat) (r:bu):Prop where
 g:GI s nn nl
 i:RI s.1.2.1 (je s.1.1) s.1.1 r.1.1
 c:cQ r.2
 l:r.1.2=s.1.2
theorem GI.rs{s:bu}{nn nl:Nat}(h:GI s nn nl)(plain:Bool):RS s nn nl (Cw s plain):=by
 have:=RI.stepTs (ns0:=s.1.1) (ls:=s.1.2.1) (s:=(s.1.1,s.2)) ⟨RI.start h.routes,h.c⟩ h.ends (plain:=plain) (iq _)
 exact⟨h,this.1,this.2,rfl⟩
theorem RS.ports{s r:bu}{nn nl:Nat}(h:RS s nn nl r){i:Nat}(hi:i<nn):ay (r.1.1.getD i default)=portsF i 0 s.1.2.1 :=
 (h.i.ports (by rw[h.g.n];exact hi)).trans (h.g.p i hi)
theorem RS.mem{s r:bu}{nn nl:Nat}(h:RS s nn nl r){x:au}(hx:x∈r.1.1):∃ i,i<nn/\r.1.1.getD i default=x:=by
 obtain⟨i,hi,e⟩:=List.mem_iff_getElem.1 hx
 exact⟨i,by have:=h.i.n;have:=h.g.n;omega,by rw[bL,cK hi,e];rfl⟩
theorem RS.tab{s r:bu}{nn nl:Nat}(h:RS s nn nl r){i:Nat}(hi:i<nn):ny s.1.2.1 (je s.1.1) i (aU (r.1.1.getD i default)):=h.i.t i (by rw[h.g.n];exact hi)
theorem RS.preO{s r:bu}{nn nl:Nat}(h:RS s nn nl r)(hn:nn<=100)(hl:nl<=100)(h0:0<nn):preO r:=by
 have pl:∀ x∈r.1.1,x.1.length<=2*nl:=λx hx=>by
  obtain⟨i,hi,rfl⟩:=h.mem hx;have:=Bz i 0 s.1.2.1;rw[← h.ports hi,h.g.l] at this;exact this
 have rn:r.1.1.length=nn:=h.i.n.trans h.g.n
 have al:=FB h.g.plen
 rw[h.g.n] at al
 have al2:=Nat.mul_le_mul hn (show 2*nl<=200 by omega)
 refine⟨h.c.at',ab,ab,?_,?_,?_,?_,λx hx hr=>?_⟩
 .rw[h.l,h.g.l];omega
 .have:=h.g.ends;rw[h.l,rn,← h.g.n];exact this
 .rw[h.l];exact h.g.h
 .have:=FB pl;rw[rn] at this;omega
 .have hp:=pl x hx;obtain⟨i,hi,rfl⟩:=h.mem hx;have t:=h.tab hi;have tl:=Kj t;refine⟨?_,by have:(ay (r.1.1.getD i default)).length<=2*nl:=hp;omega,ab⟩;obtain⟨y,ys,e⟩:=List.exists_cons_of_ne_nil hr;have ty:=t.2 y (by rw[e];exact fW);obtain⟨k,ks,ek⟩:=List.exists_cons_of_ne_nil ty.ne;obtain⟨k0,k1,kk⟩:=ty.ln k (by rw[ek];exact fW);rw[h.ports hi];rcases kk with kk|kk
  .exact List.length_pos_of_mem (Ci.2 ⟨k.toNat,ab,.inl ⟨kk,rfl⟩⟩)
  .exact List.length_pos_of_mem (Ci.2 ⟨k.toNat,ab,.inr ⟨kk,rfl⟩⟩)
def zJ(plain:Bool)(c:aX):bu:=Aa plain (n6 c).1 (n6 c).2
def kN(c:aX):Int:=(ax (n6 c).2.2 4).1
def qg(plain:Bool)(c:aX)(k:Int):bu:=rD plain (bW c) (n6 c).2 (kN c-k).toNat
theorem as4(l m:List au):(List.brecOn.go (motive:=λ(x:List au)=>List au->List au) l List.append._f).1 m=l++m:=by kernel_rfl
theorem av1{plain:Bool}{c:aX}{k:Int}(k0:0<k)(k1:k<=kN c)(h1:1<bW c)(h2:plain=false):qg plain c (k-1)=sU (bW c) (qg plain c k):=by
 unfold qg rD
 rw[am ⟨h1,h2⟩,am ⟨h1,h2⟩,show (kN c-(k-1)).toNat=(kN c-k).toNat+1 by omega,m3,iG];rfl
theorem ac3{plain:Bool}{c:aX}{k:Int}(h:k=0∨¬ (1<bW c/\plain=false)):qg plain c k=rD plain (bW c) (n6 c).2 (ax (n6 c).2.2 4).1.toNat:=by
 rcases h with h|h
 .subst h;unfold qg kN;rw[Int.sub_zero]
 .unfold qg rD;rw[af h,af h]
theorem af5{c:aX}(h:cQ c)(plain:Bool)(k:Int)(k0:0<=k):∃ m,m<=9/\GI (qg plain c k) ((bW c).toNat+2) m:=by
 have hn:=vU h
 have hl:=EE h
 have h4:=ft hl.c (n:=4) ab
 obtain⟨m,m0,m1,hm⟩:=LU hl (plain:=plain) (n:=bW c) hn.1 ab (kN c-k).toNat
 unfold kN at m1
 exact⟨m,ab,hm⟩
def PT:Ct:=⟨[.box 83 jN,.val .bool],[.agg ib],λd=>[aS d.1],λd=>((ji d.2.1 d.1,()),(xc d.2.1 d.1,()))⟩
def Yb:bw PT.ps->ce:=(λd=>{loops:=(bq 6 (λS=>{ι:=Int×bu,qn:=fj,μ:=λi=>(bW d.1-i.1).toNat,inv:=λi=>0<=i.1/\i.1<=bW d.1/\i.2=(range i.1.toNat).foldl r9 (wt d.1),keep:=[0,1,4,5],slots:=λi=>[(7,.int .i64 (bW d.1)),(9,.int .i64 i.1),(8,.int .i64 i.1)],keepN:=[80],names:=λi=>[(288,.live (.cells 142 [.own 524288 16,.own 524289 6,.own 524290 7,.ptr 1048576 0])),(524288,.live (.row 92 bR i.2.1.1)),(524289,.live (.row 86 fU i.2.1.2.1)),(524290,.live (.row 153 fg i.2.1.2.2)),(1048576,.live (.cells 83 (dU jN i.2.2)))]}) (bq 14 (λS=>{ι:=Int×bu,qn:=fj,μ:=λi=>i.1.toNat,inv:=λi=>0<=i.1/\i.1<=kN d.1/\i.2=qg d.2.1 d.1 i.1,keep:=[0,1,4,5],slots:=λi=>[(7,.int .i64 (bW d.1)),(12,.int .i64 i.1)],keepN:=[80],names:=λi=>[(288,.live (.cells 142 [.own 524288 16,.own 524289 6,.own 524290 7,.ptr 1048576 0])),(524288,.live (.row 92 bR i.2.1.1)),(524289,.live (.row 86 fU i.2.1.2.1)),(524290,.live (.row 153 fg i.2.1.2.2)),(1048576,.live (.cells 83 (dU jN i.2.2)))]}) cC)),cuts:=(bq 21 (λS=>{ι:=bu,inv:=λi=>i=zJ d.2.1 d.1,keep:=[0,1,4,5],slots:=λi=>[],keepN:=[80],names:=λi=>[(288,.live (.cells 142 [.own 524288 16,.own 524289 6,.own 524290 7,.ptr 1048576 0])),(524288,.live (.row 92 bR i.1.1)),(524289,.live (.row 86 fU i.1.2.1)),(524290,.live (.row 153 fg i.1.2.2)),(1048576,.live (.cells 83 (dU jN i.2)))]}) cC)})
def uO(c:Bool)(j:bu) :=
 List.foldl (stepT j.1.2.1 c) (j.1.1,j.2) (range j.1.1.length)
def zx(c:Bool)(j:bu) :=
 List.foldl th (((List.foldl wS (uO c j) (range (length (uO c j).1))).1,j.1.2.1),(List.foldl wS (uO c j) (range (length (uO c j).1))).2) (range j.1.2.1.length)
def Cb(e:bu) :=
 getD [(64:Int),(255:Int),(128:Int)] (toNat (ax e.2 3).1) default
def sZ(e:bu) :=
 ax (ax e.2 3).2 (256:Int)
def qT(a:ae)(b:Int)(g:bu) :=
 ax (ax g.2 (bW (a,b))).2 (bW (a,b))
def u6(e:bu) :=
 ax (ax (sZ e).2 (20:Int)).2 (256:Int)
def uP(a:ae)(b:Int)(g:bu) :=
 ax (ax g.2 2).2 (aj (bW (a,b) -1))
def I2(c:Bool)(j:bu) :=
 List.foldl (λ(k:List aV×Int×aX) (l:Nat)=>pL (zx c j).1.1 k) (([]:List aV),(0:Int),(ax (zx c j).2 (4:Int)).2) (range (toNat (ax (zx c j).2 (4:Int)).1))
def uZ(a:ae)(b:Int)(g:bu) :=
 ax g.2 (aj (bW (a,b) -1))
def yH(a:ae)(b:Int) :=
 ax (ax (a,b) (3:Int)).2 (256:Int)
def Fo(e:bu) :=
 e.1.1++[r6 (ac e.1.1) false (Cb e) (sZ e).1]
def Ft(e:bu) :=
 e.1.1++[r6 (ac e.1.1) true (Cb e) (sZ e).1]
theorem Wp :
 ∀(a:ae)(b:Int)(c:Bool),((a.length<=maxLen/\ ∀(d:Int),d∈a->0<=d/\d<=255)/\aq b)/\True/\True->0<=b/\b<=(ac a)->rB ((([]:List au),([]:List aK),([]:List aV)),a,b)/\aS (yH a b).2/\(∃(d:Int) (e:bu),(0<=d/\d<=bW (a,b)/\e=List.foldl r9 (wt (a,b)) (range d.toNat))/\c=c/\aj ((1:Int)+(ax (yH a b).2 (5:Int)).1)=bW (a,b)/\(↑(0:Nat):Int)=d/\0=d/\[r6 (↑(0:Nat):Int) true (getD [(64:Int),(255:Int),(128:Int)] (toNat (ax (a,b) (3:Int)).1) default) (yH a b).1]=e.1.1/\([]:List aK)=e.1.2.1/\([]:List aV)=e.1.2.2/\(ax (yH a b).2 (5:Int)).2.1=e.2.1/\(ax (yH a b).2 (5:Int)).2.2=e.2.2/\True)/\ ∀(d:Int)(e:bu),0<=d/\d<=bW (a,b)/\e=List.foldl r9 (wt (a,b)) (range d.toNat)->ao (decide (d<bW (a,b))) (rB e/\rB (((List.brecOn.go (motive:=λ(f:List au)=>List au->List au) e.1.1 List.append._f).1
 [r6 (ac e.1.1) false (Cb e) (sZ e).1],e.1.2),(sZ e).2)/\inN (Fo e) d/\inN (Fo e) (ac e.1.1)/\ ∃(f:Int) (g:bu),(0<=f/\f<=bW (a,b)/\g=List.foldl r9 (wt (a,b)) (range f.toNat))/\toNat (bW (a,b) -f)<toNat (bW (a,b) -d)/\c=c/\bW (a,b)=bW (a,b)/\(ac e.1.1)=f/\aj (d+1)=f/\kz (kz (Fo e) d (gp (ac e.1.2.1)+1,(ac e.1.2.1))) (ac e.1.1) (gp (ac e.1.2.1)+2,(ac e.1.2.1))=g.1.1/\e.1.2.1++[(d,(ac e.1.1),(1:Int)+(ax (sZ e).2 (20:Int)).1,(0:Int),(0:Int),(u6 e).1)]=g.1.2.1/\e.1.2.2=g.1.2.2/\(u6 e).2.1=g.2.1/\(u6 e).2.2=g.2.2/\True) (rB e/\rB (((List.brecOn.go (motive:=λ(f:List au)=>List au->List au) e.1.1 List.append._f).1 [r6 (ac e.1.1) true (Cb e) (sZ e).1],e.1.2),(sZ e).2)/\inN (Ft e) d/\inN (Ft e) (ac e.1.1)/\aS (u6 e).2/\(∃(f:Int) (g:bu),(0<=f/\f<=kN
 (a,b)/\g=qg c (a,b) f)/\c=c/\bW (a,b)=bW (a,b)/\(ax (u6 e).2 (4:Int)).1=f/\kz (kz (Ft e) d (gp (ac e.1.2.1)+1,(ac e.1.2.1))) (ac e.1.1) (gp (ac e.1.2.1)+2,(ac e.1.2.1))=g.1.1/\e.1.2.1++[(d,(ac e.1.1),(1:Int)+(ax (sZ e).2 (20:Int)).1,(0:Int),(0:Int),(u6 e).1)]=g.1.2.1/\e.1.2.2=g.1.2.2/\(ax (u6 e).2 (4:Int)).2.1=g.2.1/\(ax (u6 e).2 (4:Int)).2.2=g.2.2/\True)/\ ∀(f:Int)(g:bu),0<=f/\f<=kN (a,b)/\g=qg c (a,b) f-> ∀(h:Bool),h=decide (0<f)->(ah h)/\(ar h)/\ ∀(i:Bool),(i=bif h then decide (1<bW (a,b)) else false)->(ah i)/\(ar i)/\ao (bif i then ! c else false) (aS g.2/\aS (ax g.2 (bW (a,b))).2/\ao (! decide (aj ((1:Int)+(ax g.2 (bW (a,b))).1)=aj ((1:Int)+(qT a b g).1))) (rB (g.1,(qT a b g).2)/\inN g.1.1 (aj ((1:Int)+(ax g.2 (bW (a,b))).1))/\inN g.1.1 (aj ((1:Int)+(qT a b g).1))/\
 ∃(j:Int) (k:bu),(0<=j/\j<=kN (a,b)/\k=qg c (a,b) j)/\j.toNat<f.toNat/\c=c/\bW (a,b)=bW (a,b)/\aj (f -1)=j/\kz (kz g.1.1 (aj ((1:Int)+(ax g.2 (bW (a,b))).1)) (gp (ac g.1.2.1)+1,(ac g.1.2.1))) (aj ((1:Int)+(qT a b g).1)) (gp (ac g.1.2.1)+2,(ac g.1.2.1))=k.1.1/\g.1.2.1++[(aj ((1:Int)+(ax g.2 (bW (a,b))).1),aj ((1:Int)+(qT a b g).1),(1:Int)+(ax (qT a b g).2 (20:Int)).1,(0:Int),(0:Int),(ax (ax (qT a b g).2 (20:Int)).2 (256:Int)).1)]=k.1.2.1/\g.1.2.2=k.1.2.2/\(ax (ax (qT a b g).2 (20:Int)).2 (256:Int)).2.1=k.2.1/\(ax (ax (qT a b g).2 (20:Int)).2 (256:Int)).2.2=k.2.2/\True) (∃(j:Int) (k:bu),(0<=j/\j<=kN (a,b)/\k=qg c (a,b) j)/\j.toNat<f.toNat/\c=c/\bW (a,b)=bW (a,b)/\aj (f -1)=j/\g.1.1=k.1.1/\g.1.2.1=k.1.2.1/\g.1.2.2=k.1.2.2/\(qT a b g).2.1=k.2.1/\(qT a b g).2.2=k.2.2/\True))
 ((∀(j:Bool),j=c->(ah j)/\(ar j)/\ ∀(k:Bool),(k=bif j then decide (2<bW (a,b)) else false)->ao k ((ar k)/\aS g.2/\(ar k)/\ao (bif k then decide ((ax g.2 2).1=1) else false) (aS (ax g.2 2).2/\rB (g.1,(uP a b g).2)/\inN g.1.1 (aj ((1:Int)+(uP a b g).1))/\inN g.1.1 (bW (a,b))/\ ∃(l:bu),l=zJ c (a,b)/\c=c/\kz (kz g.1.1 (aj ((1:Int)+(uP a b g).1)) (gp (ac g.1.2.1)+1,(ac g.1.2.1))) (bW (a,b)) (gp (ac g.1.2.1)+2,(ac g.1.2.1))=l.1.1/\g.1.2.1++[(aj ((1:Int)+(uP a b g).1),bW (a,b),(1:Int)+(ax (uP a b g).2 (20:Int)).1,(0:Int),(0:Int),(ax (ax (uP a b g).2 (20:Int)).2 (256:Int)).1)]=l.1.2.1/\g.1.2.2=l.1.2.2/\(ax (ax (uP a b g).2 (20:Int)).2 (256:Int)).2.1=l.2.1/\(ax (ax (uP a b g).2 (20:Int)).2 (256:Int)).2.2=l.2.2/\True) (∃(l:bu),l=zJ c
 (a,b)/\c=c/\g.1.1=l.1.1/\g.1.2.1=l.1.2.1/\g.1.2.2=l.1.2.2/\(ax g.2 2).2.1=l.2.1/\(ax g.2 2).2.2=l.2.2/\True)) (k=false/\(k->false=true)/\ao (bif k then false else false) (aS g.2/\rB (g.1,(uZ a b g).2)/\inN g.1.1 (aj ((1:Int)+(uZ a b g).1))/\inN g.1.1 (bW (a,b))/\ ∃(l:bu),l=zJ c (a,b)/\c=c/\kz (kz g.1.1 (aj ((1:Int)+(uZ a b g).1)) (gp (ac g.1.2.1)+1,(ac g.1.2.1))) (bW (a,b)) (gp (ac g.1.2.1)+2,(ac g.1.2.1))=l.1.1/\g.1.2.1++[(aj ((1:Int)+(uZ a b g).1),bW (a,b),(1:Int)+(ax (uZ a b g).2 (20:Int)).1,(0:Int),(0:Int),(ax (ax (uZ a b g).2 (20:Int)).2 (256:Int)).1)]=l.1.2.1/\g.1.2.2=l.1.2.2/\(ax (ax (uZ a b g).2 (20:Int)).2 (256:Int)).2.1=l.2.1/\(ax (ax (uZ a b g).2 (20:Int)).2 (256:Int)).2.2=l.2.2/\True) (∃(l:bu),l=zJ c
 (a,b)/\c=c/\g.1.1=l.1.1/\g.1.2.1=l.1.2.1/\g.1.2.2=l.1.2.2/\g.2.1=l.2.1/\g.2.2=l.2.2/\True)))/\ ∀(j:bu),j=zJ c (a,b)->preR j/\ao (! c) (preO (((uO c j).1,j.1.2),(uO c j).2)/\((zx c j).1.1,(zx c j).1.2,(I2 c j).1)=ji c (a,b)/\(I2 c j).2.2=xc c (a,b)) (((uO c j).1,j.1.2)=ji c (a,b)/\(uO c j).2=xc c (a,b)))):=by
  delta zx Cb sZ uO qT u6 uP I2 uZ yH Fo Ft ah ar aj ac;rintro l p plain ⟨⟨⟨hl,hw⟩,-⟩,-⟩ hc;have hB:cQ (l,p):=⟨hc,hw⟩
  generalize ((l,p):aX)=c at hB hc ⊢;have hN:=vU hB;have g0:=GI.start hB;have g1:=g0.node true;have hw5:IntKind.i64.wrap (1+(ax (ax (ax c 3).2 256).2 5).1)=bW c:=aG (n:=bW c) ab ab;rw[hw5];refine⟨g0.small ab ab,g1.c.at',⟨0,wt c,⟨ab,ab,rfl⟩,aP⟩,?_⟩;rintro i s ⟨i0,il,hs⟩;have hg:GI s (i.toNat+1) i.toNat:=by rw[hs];exact (OH hB).chain _
  have e1:(s.1.1.length:Int)=i+1:=by rw[hg.n];omega
  simp only[as4];refine aw (λhi=>?_) (λhi=>?_)
  .have hi:=aI hi;have hg2:=hg.node false;refine⟨hg.small ab ab,hg2.small ab ab,hg2.inN i0 ab,hg2.inN ab ab,i+1,jn (kH s false) i s.1.1.length,⟨ab,ab,?_⟩,ab,?_⟩
   .rw[show (i+1).toNat=i.toNat+1 by omega,m3,iG,← hs,List.foldl_cons,List.foldl_nil,r9,show ((i.toNat:Nat):Int)=i by omega,e1]
   .repeat' first|exact trivial|refine⟨bv,?_⟩|refine⟨(by with_reducible rfl),?_⟩|refine⟨e1,?_⟩|refine⟨aG ab ab,?_⟩|refine⟨rfl,?_⟩
  have hi:=aL hi;have hi:i=bW c:=ab;subst hi;have hg2:=hg.node true;have eL:jn (kH s true) (bW c) s.1.1.length=(n6 c).2:=by rw[F6,← hs,e1]
  have gL:=EE hB;rw[← eL] at gL;have h4:=ft gL.c (n:=4) ab;have eK:(ax (jn (kH s true) (bW c) s.1.1.length).2 4).1=kN c:=by rw[eL];rfl
  refine⟨hg.small ab ab,hg2.small ab ab,hg2.inN i0 ab,hg2.inN ab ab,gL.c.at',⟨(ax (jn (kH s true) (bW c) s.1.1.length).2 4).1,((jn (kH s true) (bW c) s.1.1.length).1,(ax (jn (kH s true) (bW c) s.1.1.length).2 4).2),⟨h4.1,ab,?_⟩,aP⟩,?_⟩
  .rw[eK];unfold qg rD;rw[Int.sub_self,← eL];split <;> rfl
  clear hs hg e1 hg2 eL gL h4 eK il i0;clear s;rintro k s ⟨k0,k1,hs⟩;obtain⟨m,hm,hg⟩:=af5 hB plain k k0;rw[← hs] at hg;have hkN:kN c<=4:=by
   have:=ft (EE hB).c (n:=4) ab;unfold kN;omega
  have ka:=ft hg.c (n:=bW c) ab;have ca:=(dr hg.c (bW c)).1;have kb:=ft ca (n:=bW c) ab;have cb:=(dr ca (bW c)).1;intro b hb;refine⟨aA,aA,?_⟩;intro b1 hb1;refine⟨aA,aA,?_⟩;refine uD (λx1 x2=>?_) (λhno=>?_)
  .have hk:0<k/\1<bW c:=by
    rw[x1] at hb1;rcases b with _|_
    .cases hb1
    .exact⟨aI hb.symm,aI hb1.symm⟩
   have hpl:plain=false:=by simpa using x2
   have nx:=av1 (plain:=plain) hk.1 k1 hk.2 hpl;rw[← hs] at nx;unfold sU at nx;dsimp only at nx;rw[aG (n:=1+(ax s.2 (bW c)).1) ab ab,aG (n:=1+(ax (ax s.2 (bW c)).2 (bW c)).1) ab ab,aG (n:=k-1) ab ab];refine⟨hg.c.at',ca.at',?_⟩;have hgc:=hg.codes cb;refine aw (λhne=>?_) (λhne=>?_)
   .have hne:=gF hne;rw[af ab] at nx;exact⟨hgc.small ab ab,hgc.inN ab ab,hgc.inN ab ab,k-1,_,⟨ab,ab,nx.symm⟩,ab,aP⟩
   .have hne:=iD hne;rw[am ab] at nx;exact⟨k-1,_,⟨ab,ab,nx.symm⟩,ab,aP⟩
  have he:k=0∨¬ (1<bW c/\plain=false):=by
   by_cases z:k=0
   .exact .inl z
   .refine .inr ?_;rintro⟨z1,z2⟩;rw[hb,show decide (0<k)=true from cM ab,show decide (1<bW c)=true from cM z1] at hb1;rcases hno with h|h
    .rw[h] at hb1;cases hb1
    .rw[z2] at h;cases h
  rw[ac3 he] at hs;clear hno hb1 hb b1 b k0 k1 he;have hF:=GX plain (bW c) (n6 c).2;dsimp only at hF;rw[← hs] at hF;have c2:=(dr hg.c 2).1;refine⟨?_,?_⟩
  .intro b hb
   (repeat refine⟨aA,?_⟩);intro b2 hb2;refine aw (λh=>?_) (λh=>?_)
   .have hk:plain=true/\2<bW c:=by
     rw[h,hb] at hb2;rcases plain with _|_
     .cases hb2
     .exact⟨rfl,aI hb2.symm⟩
    simp only[h,cond_true];rw[am hk] at hF;refine⟨λh=>h,hg.c.at',λh=>h,bU (λh2=>?_) (λh2=>?_)⟩
    .rw[am h2] at hF;have kd:=ft c2 (n:=bW c-1) ab;have cd:=(dr c2 (bW c-1)).1;have hgc:=hg.codes cd;rw[aG (n:=bW c-1) ab ab,aG (n:=1+(ax (ax s.2 2).2 (bW c-1)).1) ab ab];exact⟨c2.at',hgc.small ab ab,hgc.inN ab ab,hgc.inN ab ab,_,hF.symm,aP⟩
    .rw[af h2] at hF;exact⟨_,hF.symm,aP⟩
   .have hk:¬ (plain=true/\2<bW c):=by
     rintro⟨z1,z2⟩;rw[h,hb,z1,show decide (2<bW c)=true from cM z2] at hb2;cases hb2
    simp only[h,oM];rw[af hk] at hF;refine⟨bv,λh=>h,?_⟩;rw[uy];exact⟨s,hF.symm,aP⟩
  rintro t ht;obtain⟨m',-,m1,hG⟩:=Dg hB plain;have hG:GI t ((bW c).toNat+2) m':=by rw[ht];exact hG
  refine⟨hG.preR ab ab,?_⟩;have hR:=hG.rs plain;have hO:=hR.preO ab ab ab;subst ht;rcases plain with _|_
  .rw[show (!false)=true from rfl,aq9];exact⟨hO,rfl,rfl⟩
  .rw[show (!true)=false from rfl,uy];exact⟨rfl,rfl⟩
theorem M1:aB 24 PT.spec:=aF Tryz.func24 (av (av (av (av (av aD Su) yu) af2) Y0) aW6) Yb Wp
end Go.RS
