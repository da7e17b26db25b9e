/- Law08: the laws of answers. -/
import Derived.Test.YtpdpkobkpacbnaaGreatDoorNodec
import Derived.Test.YtpdpkobkpacbnaaGreatDoorNode2
set_option maxRecDepth 100000
set_option linter.unusedVariables false
open Int (toNat)
open List (length take getD set replicate range)
namespace Go.RS
open Go.SX Go.Proofs
theorem aG3{n:pY}(h0:jK n=0)(hb:bytes n.2.2):kD (iO n)=0/\j8 (iO n)=n:=by
 have h1:(n.1=3∨n.1=11)/\0<=n.2.1/\n.2.1<=255:=fj λk=>by rw[jK,am k] at h0;cases h0
 have h2:¬ (n.2.2.length:Int)<28:=λk=>by rw[jK,af (λq=>q h1),am k] at h0;cases h0
 have h3:¬ (1472:Int)<n.2.2.length:=λk=>by rw[jK,af (λq=>q h1),af h2,am k] at h0;cases h0
 have hc:=pK (Gn (e:=n) h1 hb)
 obtain⟨t,k,l⟩:=n
 simp only at h1 h3 hb hc h2
 generalize hB:iO (t,k,l)=B
 have hs:B=t::k::(de (mT (t,k,l))/256%256)::(de (mT (t,k,l))%256)::0::0::0::0::l:=by rw[← hB,iO,am h0];rfl
 have i2:aH B (toNat 2)=de (mT (t,k,l))/256%256*256+de (mT (t,k,l))%256:=by rw[hs];exact ie _ _ _
 have i4:aH B (toNat 4)=0:=by rw[hs];exact (ie 0 0 _)
 have i6:aH B (toNat 6)=0:=by rw[hs];exact (ie 0 0 _)
 have hset:cR B (toNat 2) 0=mT (t,k,l):=by rw[hs];rfl
 have hlen:(B.length:Int)=8+l.length:=by rw[hs];simp only[dN];omega
 have g0:B.getD (toNat 0) default=t:=by rw[hs];rfl
 have g1:B.getD (toNat 1) default=k:=by rw[hs];rfl
 have g8:B.drop 8=l:=by rw[hs];rfl
 have he:kD B=0:=by
  rw[kD,af ab,af (λq=>q ⟨by rw[g0];exact h1.1,i4,i6⟩),af ab,af];rw[hset,i2,mC hc.1 hc.2];exact λq=>q rfl
 refine⟨he,?_⟩
 rw[j8,am he,g0,g1,g8]
theorem Ij{n:pY}(h0:jK n=0):(iO n).getD 0 default=n.1/\(iO n).length=8+n.2.2.length:=by
 rw[iO,am h0];exact⟨rfl,by rw[mP,HL]⟩
theorem Dc{n:pY}(h0:jK n=0)(hb:bytes n.2.2):bytes (iO n):=by
 have h1:(n.1=3∨n.1=11)/\0<=n.2.1/\n.2.1<=255:=fj λk=>by rw[jK,am k] at h0;cases h0
 rw[iO,am h0];exact tI (Gn h1 hb)
structure da (p:bz):Prop where
 ok:cf p=0
 s:u32 p.1
 d:u32 p.2.1
theorem da.dec{p:bz}(g:da p):bH (build p)=sI p/\bY (build p)=0/\(build p).drop 20=fq p:=Dv g.ok g.s g.d
theorem da.len{p:bz}(g:da p):((p.2.2.1≠6/\(build p).length=30)∨(p.2.2.1=6/\(build p).length=40)):=by
 rw[Ew g.ok,cA,r0]
 rcases xA g.ok with h|h
 .exact .inl ⟨h.1,by rw[h.2]⟩
 .exact .inr ⟨h.1,by rw[h.2]⟩
theorem PW{p:bz}(g:da p):(p.2.2.1=1->(fq p).getD 0 default=8)/\(p.2.2.1=6->(fq p).getD 13 default=2):=by
 have hr:=(lq.1 g.ok).2
 constructor
 .intro h;rw[zM hr h];rfl
 .intro h;rw[ze hr h];rfl
theorem FX{p:bz}(g:da p):dG (build p)↔fB p.1:=by
 obtain⟨e1,e2,e3⟩:=g.dec
 have hs:cO (build p)=p.1:=by rw[cO,e1];rfl
 constructor
 .intro h;rw[← hs];exact (qA h).2.2.2.2
 .intro hu;refine YJ e2 (by rcases g.len with h|h <;> omega) ?_ ?_ (by rw[hs];exact hu)
  .rw[e3];intro h;exact (PW g).1 (by rw[dk,e1] at h;exact h)
  .rw[e3];intro h _;rw[(PW g).2 (by rw[dk,e1] at h;exact h)];decide
theorem Z4{p:bz}(g:da p):(p.2.2.1=1->aH (fq p) 4=21075/\aH (fq p) 6=p.2.2.2.2.1)/\(p.2.2.1=17->aH (fq p) 4=10/\aH (fq p) 6=p.2.2.2.2.1+1)/\(p.2.2.1=6->fp (((fq p).drop 4).take 4)=p.2.2.2.2.1):=by
 have hr:=(lq.1 g.ok).2
 obtain⟨hf,ht,-⟩:=id hr
 refine⟨λh=>?_,λh=>?_,λh=>?_⟩
 .rw[zM hr h,vN (by show 4+2<=10;omega) ab,vN (by show 6+2<=10;omega) ab];refine⟨rfl,?_⟩;show aH (_::_::_) 0=_;rw[ie];exact mC (n:=p.2.2.2.2.1) ab ab
 .have hs:=Uw hr;rw[BL hr h,vN (by show 4+2<=10;omega) ab,DM (by show 6+2<=10;omega) ab ab];refine⟨?_,hs⟩;show aH (_::_::_) 0=10;rw[ie];have:((sg p).2.2.length:Int)=2:=rfl;rw[this];decide
 .rw[ze hr h];show fp [_,_,_,_]=_;rw[By];exact Gv (n:=p.2.2.2.2.1) ⟨ab,ab⟩
theorem aM5{p:bz}(g:da p):((build p).take 28).length=28/\bytes ((build p).take 28)/\fE ((build p).take 28)=(p,true):=by
 obtain⟨e1,e2,e3⟩:=g.dec
 have hl28:((build p).take 28).length=28:=by rw[dA];rcases g.len with h|h <;> omega
 refine⟨hl28,FI (IR p),?_⟩
 have hF:bH ((build p).take 28)=sI p:=by
  rw[← e1];unfold bH;rw[vt ab,vt ab,vt ab,sj ab,sj ab,yE ab,yE ab]
 have hpk:dV ((build p).take 28)=0:=by
  have h0:=El e2;have hlen:20<=(build p).length:=by rcases g.len with h|h <;> omega
  rw[dV,af ab] at h0 ⊢;rw[vt ab,sj ab,sj ab,sj ab,List.take_take];exact h0
 have wq:∀ i,i+2<=8->aH ((build p).take 28) (20+i)=aH (fq p) i:=λi hi=>by
  rw[sj ab,← e3];unfold aH;rw[List.drop_drop]
 have w0:=wq 0 ab
 have w2:=wq 2 ab
 have w4:=wq 4 ab
 have w6:=wq 6 ab
 have n4:fp ((((build p).take 28).drop 24).take 4)=fp (((fq p).drop 4).take 4):=by rw[yE ab,← e3,List.drop_drop]
 have cw:=KZ g.ok
 have cm:=Z4 g
 have hlw:aH ((build p).take 28) 2=(build p).length:=by rw[sj ab,(vO e2).2]
 have hq:Bk ((build p).take 28):=⟨hpk,hl28,by rw[hF];rfl,by rw[hF];rfl⟩
 have hpr:dk ((build p).take 28)=p.2.2.1:=by rw[dk,hF];rfl
 have hfl:yz ((build p).take 28)=p.2.2.2.1:=by
  rw[yz,hpr];have w0:aH ((build p).take 28) 20=aH (fq p) 0:=w0;rw[w2,w0,cw.1,cw.2];rcases (lq.1 g.ok).1 with h|h|h <;> simp[h,xZ,wg] <;> omega
 have hP:qC ((build p).take 28)=p:=by
  rw[qC,hfl,hpr,cO,gf,hF];rfl
 rw[fE,am hq,hP]
 have hR:pP ((build p).take 28):=by
  unfold pP;rw[hpr,hF];have w0:aH ((build p).take 28) 20=aH (fq p) 0:=w0;rw[w0,w2,w4,w6,n4,cw.1,cw.2,hlw];rcases (lq.1 g.ok).1 with h|h|h
  .refine .inl ⟨h,?_,by rw[xZ,am h],(cm.1 h).1,(cm.1 h).2⟩;rcases g.len with k|k <;> omega
  .refine .inr (.inr ⟨h,?_,by rw[wg,af ab,af ab],cm.2.2 h⟩);rcases g.len with k|k <;> omega
  .refine .inr (.inl ⟨h,?_,by rw[wg,af ab,am h],?_,(cm.2.1 h).2⟩)
   .rcases g.len with k|k <;> omega
   .rw[(cm.2.1 h).1];rcases g.len with k|k <;> omega
 rw[cM ⟨hR,g.ok⟩]
theorem yr{src dst proto id ttl:Int}{data:ae}(hn:iU id ttl)(hp:0<=proto/\proto<=255)(hs:u32 src)(hd:u32 dst)(hl:(data.length:Int)<=1480)(hb:bytes data) :
  bY (d7 (jc src dst proto id ttl data))=0/\bH (d7 (jc src dst proto id ttl data))=(0,id,ttl,proto,false,src,dst)/\(d7 (jc src dst proto id ttl data)).drop 20=data/\(d7 (jc src dst proto id ttl data)).length=20+data.length:=by
 have h0:=Af (src:=src) (dst:=dst) hn hp hl
 obtain⟨⟨a,b⟩,c,d⟩:=hn
 rw[d7,am h0]
 have:=Iy (h:=(0,id,ttl,proto,false,src,dst)) (X:=data) ⟨⟨fZ _,by simp only;omega⟩,⟨c,d⟩,hp,a,b⟩ hs hd hl hb
 refine⟨this.2.1,this.1,this.2.2,?_⟩
 show (iY _ _++data).length=_
 rw[cA,r0]
structure BY (p:bz) (a:rT) (x:ae):Prop where
 no:¬ dG x
 rd:jO x=(tV p 0,a)
 re:pF x=0
 len:x.length<=1500
theorem da.t1{p:bz}(g:da p)(t:Int)(h:1<=t/\t<=255):cf (tV p t)=0:=by
 obtain⟨h1,h2,h3,-⟩:=lq.1 g.ok
 exact lq.2 ⟨h1,h2,h3,h⟩
theorem Ie{p:bz}{a:rT}{x:ae}(g:da p)(hd:bY x=0)(hr:kF x=(tV p 0,(0,a.2.1,a.2.2.1,0,0,a.2.2.2.2.2),true))(ha:a.1=cO x)(hl:a.2.2.2.1=(bH x).2.2.1)(hi:a.2.2.2.2.1=(bH x).2.1)(hn:¬ dG x):BY p a x:=by
 have hg:uc x:=⟨hd,by rw[hr],by rw[hr];exact g.t1 1 ab⟩
 have:=vO hd
 refine⟨hn,?_,by rw[pF,am hg],ab⟩
 rw[jO,am hg,hr,← ha,← hl,← hi]
theorem DL{p:bz}(g:da p)(hu:fB p.1){from' kind code id ttl:Int}(hf:u32 from')(hg:pI kind code id ttl) :
  fR (build p) kind code id ttl=0/\BY p (from',vo kind code,code,ttl,id,p.2.2.2.2.2) (jr (build p) from' kind code id ttl)/\(jr (build p) from' kind code id ttl).length=56:=by
 have ha:=(FX g).2 hu
 obtain⟨e0,eB,en,-⟩:=Bn (src:=from') hg ha
 obtain⟨e1,-,-⟩:=g.dec
 obtain⟨ql,qb,qv⟩:=aM5 g
 have hs:cO (build p)=p.1:=by rw[cO,e1];rfl
 have hk:=hg.1
 refine⟨e0,?_⟩
 rw[eB,hs]
 generalize hD:iO (kind,code,(build p).take 28)=D
 have un:=aG3 en qb
 have nf:=Ij en
 have nb:=Dc en qb
 rw[hD] at un nf nb
 rw[ql] at nf
 have sb:=yr (src:=from') (dst:=p.1) (proto:=1) (data:=D) hg.2.2 ab hf g.s ab nb
 generalize d7 (jc from' p.1 1 id ttl D)=x at sb
 obtain⟨s1,s2,s3,s4⟩:=sb
 have hp1:dk x=1:=by rw[dk,s2]
 have hns:¬ D.getD 0 default=8:=by rw[nf.1];simp only;omega
 refine⟨Ie g s1 ?_ (by rw[cO,s2]) (by rw[s2]) (by rw[s2]) (λk=>?_),by rw[s4,nf.2]⟩
 .rw[kF,af,am hp1,s3,ou,am un.1,un.2]
  .simp only;rw[qv];simp[gf,s2,tV]
  .rw[s3];rintro⟨-,-,k⟩;rw[nf.1] at k;simp only at k;omega
 .exact hns (by have:=(qA k).2.2.1 hp1;rw[s3] at this;exact this)
theorem aj0(t n:Int):bQ true (cV (true,21075,t,w2 n))=bQ true (cV (false,21075,t,w2 n))-2048:=by
 simp[cV,w2,bQ];omega
theorem ZX(t n:Int):23000<=bQ true (cV (false,21075,t,w2 n)):=by
 simp[cV,w2,bQ];omega
def ue(p:bz)(id ttl:Int):rT:=if p.2.2.1=6 then (p.2.1,4,0,ttl,id,0) else if p.2.2.1=17 then (p.2.1,3,3,ttl,id,p.2.2.2.2.2) else (p.2.1,2,0,ttl,id,0)
theorem Pu{p:bz}(g:da p)(hu:fB p.1){id ttl:Int}(hn:iU id ttl) :
  gR (build p) id ttl=0/\BY p (ue p id ttl) (ji (build p) p.2.1 id ttl):=by
 have ha:=(FX g).2 hu
 obtain⟨e1,e2,e3⟩:=g.dec
 have hs:cO (build p)=p.1:=by rw[cO,e1];rfl
 have hd:gf (build p)=p.2.1:=by rw[gf,e1];rfl
 have hpr:dk (build p)=p.2.2.1:=by rw[dk,e1];rfl
 have hr:=(lq.1 g.ok).2
 have hr':=hr
 obtain⟨hf,ht,-⟩:=hr'
 rcases (lq.1 g.ok).1 with h|h|h
 .have eE:fq p=fN (mn p):=by rw[zM hr h,fN,am (Nl hr)]
  have u:=N9 (J0 hr) (mI _) (by rw[zQ];omega);have hh:=E0 (src:=p.2.1) hn ha (by rw[hpr];exact h) (by rw[e3,eE];exact u.1);refine⟨hh.2,?_⟩;rw[hh.1,hs,e3,eE,u.2];have ok2:Dp (w2 (rk p)) (true,(mn p).2):=⟨(J0 hr).1,rfl⟩
  have u2:=N9 ok2 (mI _) (by rw[zQ];omega);have eg:=E5 ok2 (by rw[zQ];omega);have esh:fN (true,(mn p).2)=cR (cV (true,(mn p).2)) 2 (de (cV (true,(mn p).2))):=by rw[fN,am eg]
  have bb:bytes (cV (true,(mn p).2)):=xl (mI _);have hcs:=pK bb;have ecs:de (cV (true,(mn p).2))=18432+p.2.2.2.1:=by
   have h1:=Nw hr;have h2:=aj0 p.2.2.2.2.1 (rk p);have h3:=ZX p.2.2.2.2.1 (rk p);unfold de at h1 ⊢;have k1:mn p=(false,21075,p.2.2.2.2.1,w2 (rk p)):=rfl;rw[k1] at h1 ⊢;simp only;rw[h2];generalize bQ true (cV (false,21075,p.2.2.2.2.1,w2 (rk p)))=S at h1 h3 ⊢;unfold oc at h1 ⊢;rw[af ab] at h1 ⊢;omega
  have w2c:aH (fN (true,(mn p).2)) 2=18432+p.2.2.2.1:=by
   rw[esh,DM (by show 2+2<=10;omega) hcs.1 hcs.2,ecs]
  have hl10:(fN (true,(mn p).2)).length=10:=by rw[esh,mP];rfl
  have hb:bytes (fN (true,(mn p).2)):=by rw[esh];exact tI bb
  have h0:(fN (true,(mn p).2)).getD 0 default=0:=by rw[esh];rfl
  generalize hD:fN (true,(mn p).2)=D at *;have sb:=yr (src:=p.2.1) (dst:=p.1) (proto:=1) (data:=D) hn ab g.d g.s ab hb;generalize d7 (jc p.2.1 p.1 1 id ttl D)=x at sb;obtain⟨s1,s2,s3,s4⟩:=sb;have hp1:dk x=1:=by rw[dk,s2]
  have hx:gf x=p.1:=by rw[gf,s2]
  have hy:cO x=p.2.1:=by rw[cO,s2]
  rw[ue,af ab,af ab];refine Ie g s1 ?_ hy.symm (by rw[s2]) (by rw[s2]) (λk=>?_)
  .have eg2:BG D:=⟨u2.1,by rw[u2.2],by rw[u2.2];rfl,by rw[u2.2];rfl⟩
   rw[kF,am ⟨hp1,by rw[s3];omega,by rw[s3];exact h0⟩,s3,rC,am eg2,hx,hy,w2c,u2.2];have e9:18432+p.2.2.2.1-18432=p.2.2.2.1:=ab;rw[e9,tV,h];rfl
  .have:=(qA k).2.2.1 hp1;rw[s3,h0] at this;cases this
 .have eE:fq p=fI p.1 p.2.1 (nF p):=by rw[ze hr h,fI,am (ML hr)]
  have u:=Sm (s:=p.1) (d:=p.2.1) (J8 hr) nM aA;have hun:fV (cO (build p)) (gf (build p)) ((build p).drop 20)=nF p:=by rw[hs,hd,e3,eE];exact u.2
  have hh:=EJ (src:=p.2.1) hn ha (by rw[hpr];exact h) (by rw[hs,hd,e3,eE];exact u.1) (by rw[hun];show bits .and .i64 2 2≠0;decide) (by rw[hun];show bits .and .i64 2 4=0;decide);refine⟨hh.2,?_⟩;rw[hh.1,hun,hs];have eY:md (nF p)=(80,20000+p.2.2.2.1,0,p.2.2.2.2.1+1,20,0,[]):=by
   have:(p.2.2.2.2.1+1)%4294967296=p.2.2.2.2.1+1:=ab;show (80,20000+p.2.2.2.1,0,(p.2.2.2.2.1+1)%4294967296,20,0,[])=_;rw[this]
  have okY:Fc [] (md (nF p)):=by
   rw[eY];refine⟨⟨(jF _).2 ⟨?_,?_⟩,(jF _).2 ⟨?_,?_⟩,⟨?_,?_⟩,⟨?_,?_⟩,⟨?_,?_⟩,(jF _).2 ⟨?_,?_⟩⟩,rfl⟩ <;> simp only <;> omega
  have u2:=Sm (s:=p.2.1) (d:=p.1) okY nM aA;have eg:=ID okY aA;have esh:fI p.2.1 p.1 (md (nF p))=cR (kC (md (nF p))) 16 (fQ p.2.1 p.1 6 (kC (md (nF p)))):=by rw[fI,am eg]
  have hb:bytes (fI p.2.1 p.1 (md (nF p))):=by rw[esh];exact tI (Ag okY.1 nM)
  have hl20:(fI p.2.1 p.1 (md (nF p))).length=20:=by rw[esh,mP];rfl
  have h13:(fI p.2.1 p.1 (md (nF p))).getD 13 default=20:=by rw[esh];rfl
  rw[eY] at u2;generalize hD:fI p.2.1 p.1 (md (nF p))=D at *;rw[← eY,hD] at u2;have sb:=yr (src:=p.2.1) (dst:=p.1) (proto:=6) (data:=D) hn ab g.d g.s ab hb;generalize d7 (jc p.2.1 p.1 6 id ttl D)=x at sb;obtain⟨s1,s2,s3,s4⟩:=sb;have hp1:dk x=6:=by rw[dk,s2]
  have hx:gf x=p.1:=by rw[gf,s2]
  have hy:cO x=p.2.1:=by rw[cO,s2]
  rw[eY] at u2;rw[ue,am h];refine Ie g s1 ?_ hy.symm (by rw[s2]) (by rw[s2]) (λk=>?_)
  .have eg2:BK p.2.1 p.1 D:=⟨u2.1,by rw[u2.2],by rw[u2.2],by rw[u2.2],by rw[u2.2],by rw[u2.2]⟩
   rw[kF,af (by rw[hp1];omega),af ab,am hp1,s3,hx,hy,rz,am eg2,u2.2];have e9:20000+p.2.2.2.1-20000=p.2.2.2.1:=ab;have e8:p.2.2.2.2.1+1-1=p.2.2.2.2.1:=ab;simp only;rw[e9,e8,tV,h]
  .have:=(qA k).2.2.2.1 hp1 (by rw[s3];omega);rw[s3,h13] at this;exact absurd this bt
 .have eE:fq p=mE p.1 p.2.1 (sg p):=by rw[BL hr h,mE,am (PR hr)]
  have u:=Y0 (s:=p.1) (d:=p.2.1) (LI hr) (mI _) (by rw[zQ];omega);have hh:=Dz (src:=p.2.1) hn ha (by rw[hpr];exact h) (by rw[hs,hd,e3,eE];exact u.1);refine⟨hh.2,?_⟩;rw[hh.1,ue,af ab,am h];exact (DL g hu g.d (kind:=3) (code:=3) ⟨.inr rfl,ab,hn⟩).2.1
def Ii(p:bz)(x:ae):Prop:=(¬ fB p.1->x=[])/\(fB p.1→∃ a:rT,0<a.2.1/\BY p a x)
def aD7:Cn:=⟨[.box 83 jW,.agg ib],[.val cP],λd=>[aS d.1],λd y=>aS y.2.1/\0<=y.1.1/\y.1.1<=4294967295,λd h=>⟨((0,()),(d.1,())),h.1,by simp,by simp⟩⟩
theorem aB5 :
 ∀(a:ae)(b:Int)(c:List au)(d:List aK)(e:List aV),((a.length<=maxLen/\ ∀(f:Int),f∈a->0<=f/\f<=255)/\aq b)/\((c.length<=maxLen/\ ∀(f:au),f∈c->CT.wf bU f)/\(d.length<=maxLen/\ ∀(f:aK),f∈d->CT.wf fU f)/\e.length<=maxLen/\ ∀(f:aV),f∈e->CT.wf fh f)/\True->0<=b/\b<=(ac a)->ao (decide ((ac c)=0)) (aS (a,b)/\ ∀(f:Int)(g:ae)(h:Int),aS (g,h)/\0<=f/\f<=4294967295->aS (g,h)/\0<=f/\f<=4294967295) (aS (a,b)/\ ∀(f:Int)(g:ae)(h:Int),0<=f/\(f<(ac c)∨f=0)/\aS (g,h)->0<=f/\f<(ac c)/\ ∀(i:Bool),i=decide (((length (ai c f).1):Int)=0)->ao (! i) ((ar (! i))/\aS (g,h)/\ ∀(j:Int)(k:ae)(l:Int),0<=j/\(j<12∨j=0)/\aS (k,l)->(aE i)/\ao (bif i then true else decide (j=11)) (aS (k,l)/\ ∀(m:Int)(n:ae)(o:Int),aS (n,o)/\0<=m/\m<=4294967295->aS (n,o)/\0<=m/\m<=4294967295) (aS (k,l)/\ ∀(m:Int)(n:ae)
 (o:Int),0<=m/\(m<((length (ai c f).1):Int)∨m=0)/\aS (n,o)->0<=m/\m<((length (ai c f).1):Int)/\aS (n,o)/\0<=(getD (ai c f).1 m.toNat default).1/\(getD (ai c f).1 m.toNat default).1<=4294967295)) ((! i)=false/\(i=false->false=true)/\ao (bif i then true else false) (aS (g,h)/\ ∀(j:Int)(k:ae)(l:Int),aS (k,l)/\0<=j/\j<=4294967295->aS (k,l)/\0<=j/\j<=4294967295) (aS (g,h)/\ ∀(j:Int)(k:ae)(l:Int),0<=j/\(j<((length (ai c f).1):Int)∨j=0)/\aS (k,l)->0<=j/\j<((length (ai c f).1):Int)/\aS (k,l)/\0<=(getD (ai c f).1 j.toNat default).1/\(getD (ai c f).1 j.toNat default).1<=4294967295))):=by
  delta ar aE ai ac;rintro l p ns ls hs ⟨-,⟨⟨hnl,hnw⟩,-⟩,-⟩ hc;refine aw (λh=>?_) (λh=>?_)
  .exact⟨hc,λx l2 p2 h=>h⟩
  have h:=aL h;refine⟨hc,?_⟩;rintro x l2 p2 ⟨x0,x1,hc2⟩;have x1:x<(ns.length:Int):=ab;have hX:=hnw _ (bR x0 x1);generalize ns.getD x.toNat default=X at hX ⊢;have hp:=hX.1.2;refine⟨x0,x1,?_⟩;intro b hb;refine aw (λq=>?_) (λq=>?_)
  .have hb0:b=false:=by simpa using q
   subst hb0;have hne:=aL hb.symm;refine⟨aA,hc2,?_⟩;rintro y l3 p3 ⟨y0,y1,hc3⟩;rw[oR]
   (repeat refine⟨aA,?_⟩);refine aw (λq=>?_) (λq=>?_)
   .exact⟨hc3,λx l2 p2 h=>h⟩
   .refine⟨hc3,?_⟩;rintro z l4 p4 ⟨z0,z1,hc4⟩;have z1:z<(X.1.length:Int):=ab;have:=hp _ (bR z0 z1);exact⟨z0,z1,hc4,this.1⟩
  .have hb0:b=true:=by simpa using q
   subst hb0;refine⟨rfl,aA,?_⟩;rw[cond_true];exact⟨hc2,λx l2 p2 h=>h⟩
theorem aN2:aB 10 aD7.spec:=qw Tryz.func10 (av (av aC AI) Rm) aT aB5
theorem IK{α:Type} [DecidableEq α]:∀{l m:List α},l.Nodup->(∀ x∈l,x∈m)->l.length<=m.length
 | [],m,_,_=>aA
 | x::l,m,h,hs=>by
  have hx:=hs x fY;have hn:=List.nodup_cons.1 h;have:=IK (l:=l) (m:=m.erase x) hn.2 λy hy=>(List.mem_erase_of_ne (λe:y=x=>hn.1 (e▸hy))).2 (hs y (fM _ hy));rw[List.length_erase_of_mem hx] at this;have hp:=List.length_pos_of_mem hx;rw[dN];omega
theorem yK{α β:Type}(I:β->Prop)(f:β->α->β):∀{l:List α}{b:β},I b->(∀ x∈l,∀ b,I b->I (f b x))->I (l.foldl f b)
 | [],b,h,_=>h
 | x::l,b,h,hf=>yK I f (l:=l) (hf x fY b h) λy hy=>hf y (fM _ hy)
theorem Ku{k x:Int}:∀{l:ae},x∈lh k l->x=k∨x∈l
 | [],h=>by simp[lh] at h;exact .inl h
 | y::r,h=>by
  rw[lh] at h;split at h
  .rcases dK.1 h with e|h
   .exact .inl e
   .exact .inr h
  .rcases dK.1 h with e|h
   .exact .inr (e▸fY)
   .rcases Ku h with e|h
    .exact .inl e
    .exact .inr (fM _ h)
theorem Rs{k:Int}:∀{l:ae},l.Pairwise (· < ·)->k ∉ l->(lh k l).Pairwise (· < ·)
 | [],_,_=>by rw[lh];exact List.pairwise_singleton _ _
 | y::r,h,hk=>by
  have h:=List.pairwise_cons.1 h;rw[lh];split
  .rename_i hy;refine List.pairwise_cons.2 ⟨λz hz=>?_,List.pairwise_cons.2 h⟩;rcases dK.1 hz with rfl|hz
   .exact hy
   .exact Int.lt_trans hy (h.1 z hz)
  .rename_i hy;have:k≠y:=λe=>hk (e▸fY);refine List.pairwise_cons.2 ⟨λz hz=>?_,Rs h.2 λe=>hk (fM _ e)⟩;rcases Ku hz with rfl|hz
   .omega
   .exact h.1 z hz
theorem ah1(k:Int)(l:ae):lh k l≠[]:=by
 intro e
 have:=Ka k l
 rw[e] at this;simp at this
theorem Nj{l:List Rt}{r x:Rt}(h:x∈f6 l r):x=r∨x∈l:=by
 unfold f6 at h
 rcases dB.1 h with h|h
 .exact .inr (List.mem_filter.1 h).1
 .rcases dK.1 h with e|h
  .exact .inl e
  .exact .inr (List.mem_filter.1 h).1
def lnk(ls:List aK)(i k:Int):Prop:=0<=k/\k<ls.length/\(lA (ls.getD k.toNat default)=i∨lB (ls.getD k.toNat default)=i)
structure GU (ls:List aK) (aa:ae) (i:Int) (r:Rt):Prop where
 len:r.1.2=32
 mem:r.1.1∈aa
 ne:r.2.1≠[]
 pw:r.2.1.Pairwise (· < ·)
 ln:∀ k∈r.2.1,lnk ls i k
 w0:1<=r.2.2
 w1:r.2.2<=3
def nE(ls:List aK)(aa:ae)(i:Int)(t:List Rt):Prop:=cJ t∧∀ r∈t,GU ls aa i r
theorem G5{ls:List aK}{aa:ae}{i:Int}{t:List Rt}(h:nE ls aa i t):t.length<=aa.length:=by
 have hn:(t.map λr=>r.1.1).Nodup:=by
  refine List.Pairwise.map (R:=λa b:Rt=>a.1.1≠b.1.1) _ (λa b h=>h) (h.1.imp_of_mem λ{a b} ha hb k=>?_);have e1:=(h.2 a ha).len;have e2:=(h.2 b hb).len;unfold bI at k;omega
 have:=IK hn (m:=aa) λx hx=>by
  obtain⟨r,hr,rfl⟩:=List.mem_map.1 hx;exact (h.2 r hr).mem
 simpa using this
theorem Fl{ls:List aK}{aa:ae}{i:Int}{r:Rt}(h:GU ls aa i r):r.2.1.length<=ls.length:=by
 have hn:r.2.1.Nodup:=h.pw.imp λk=>ab
 have:=IK hn (m:=(range ls.length).map λ(n:Nat)=>(n:Int)) λx hx=>by
  obtain⟨k0,k1,_⟩:=h.ln x hx;exact List.mem_map.2 ⟨x.toNat,List.mem_range.2 ab,ab⟩
 simpa using this
theorem TD{ls:List aK}{aa:ae}{i:Int}{t:List Rt}(h:nE ls aa i t){p:d9}{k way:Int}(hp:p.2=32)(ha:p.1∈aa)(hk:lnk ls i k)(h0:1<=way)(h1:way<=3) :
  nE ls aa i (wb t p k way):=by
 have put:∀ r:Rt,GU ls aa i r->nE ls aa i (f6 t r):=λr hr =>
  ⟨Ib h.1,λx hx=>by
   rcases Nj hx with rfl|hx
   .exact hr
   .exact h.2 x hx⟩
 unfold wb
 split
 next hf=>
  have hx:t.getD (rL t p) default∈t:=by
   have:=bR (xs:=t) (i:=(rL t p:Nat)) ab ab;simpa using this
  have hx:=h.2 _ hx;split
  .exact h
  .rename_i hn;exact put _ ⟨hp,ha,ah1 _ _,Rs hx.pw hn,λy hy=>by
    rcases Ku hy with rfl|hy
    .exact hk
    .exact hx.ln y hy,hx.w0,hx.w1⟩
 .exact put _ ⟨hp,ha,aA,List.pairwise_singleton _ _,λy hy=>by rw[iI.1 hy];exact hk,h0,h1⟩
structure RI (ls:List aK) (aa:ae) (ns0 ns:List au):Prop where
 n:ns.length=ns0.length
 e:∀ i:Nat,i<ns0.length->zm (ns.getD i default) []=zm (ns0.getD i default) []
 t:∀ i:Nat,i<ns0.length->nE ls aa i (aU (ns.getD i default))
theorem RI.ports {ls aa ns0 ns} (h:RI ls aa ns0 ns) {i:Nat} (hi:i<ns0.length):ay (ns.getD i default)=ay (ns0.getD i default):=by
 have:=jn ay (h.e i hi);exact this
theorem RI.host {ls aa ns0 ns} (h:RI ls aa ns0 ns) {i:Nat} (hi:i<ns0.length):iG (ns.getD i default)=iG (ns0.getD i default):=by
 have:=jn iG (h.e i hi);exact this
theorem RI.route {ls aa ns0 ns} (h:RI ls aa ns0 ns) {a:Int} {p:d9} {k way:Int} (a0:0<=a) (a1:a<ns0.length) (hp:p.2=32) (ha:p.1∈aa) (hk:lnk ls a k) (h0:1<=way) (h1:way<=3) :
  RI ls aa ns0 (sO ns a p k way):=by
 have hl:a.toNat<ns.length:=by have:=h.n;omega
 unfold sO
 refine⟨by rw[gC];exact h.n,λi hi=>?_,λi hi=>?_⟩
 .by_cases e:a.toNat=i
  .subst e;rw[kv hl];exact h.e _ hi
  .rw[nt e];exact h.e _ hi
 .by_cases e:a.toNat=i
  .subst e;rw[kv hl];have:=TD (h.t _ hi) (p:=p) (k:=k) (way:=way) hp ha (by rwa [show ((a.toNat:Nat):Int)=a by omega]) h0 h1;exact this
  .rw[nt e];exact h.t _ hi
theorem RI.step {ls aa ns0 ns} (h:RI ls aa ns0 ns) {d:ae} {to:Int} {p:d9} {plain:Bool} {k way a b:Int} (a0:0<=a) (a1:a<ns0.length) (hp:p.2=32) (ha:p.1∈aa) (hk:lnk ls a k) (h0:1<=way) (h1:way<=3) :
  RI ls aa ns0 (sc d to p plain k way ns a b):=by
 unfold sc
 split
 .exact h
 .split
  .exact h
  .exact h.route a0 a1 hp ha hk h0 h1
def iQ(n:Nat)(ls:List aK):Prop:=∀ l∈ls,0<=l.1/\l.1<n/\0<=l.2.1/\l.2.1<n
theorem iQ.at'{n:Nat}{ls:List aK}(hg:iQ n ls){k:Nat}(hk:k<ls.length):(0<=lA (ls.getD k default)/\lA (ls.getD k default)<n)/\0<=lB (ls.getD k default)/\lB (ls.getD k default)<n:=by
 have hx:ls.getD k default∈ls:=by
  have:=bR (xs:=ls) (i:=(k:Nat)) ab ab;simpa using this
 obtain⟨q1,q2,q3,q4⟩:=hg _ hx
 exact⟨⟨q1,q2⟩,q3,q4⟩
theorem Ok{ls:List aK}{k:Nat}(hk:k<ls.length):lnk ls (lA (ls.getD k default)) k:=⟨by omega,by omega,.inl (by simp)⟩
theorem NW{ls:List aK}{k:Nat}(hk:k<ls.length):lnk ls (lB (ls.getD k default)) k:=⟨by omega,by omega,.inr (by simp)⟩
theorem RI.stepK {ls aa ns0 ns} (h:RI ls aa ns0 ns) (hg:iQ ns0.length ls) {d:ae} {to:Int} {p:d9} {plain:Bool} {way:Int} {k:Nat} (hk:k<ls.length) (hp:p.2=32) (ha:p.1∈aa) (h0:1<=way) (h1:way<=3) :
  RI ls aa ns0 (stepK ls d to p plain way ns k):=by
 have hh:=hg.at' hk
 unfold Go.RS.stepK
 exact (h.step hh.1.1 hh.1.2 hp ha (Ok hk) h0 h1).step hh.2.1 hh.2.2 hp ha (NW hk) h0 h1
theorem RI.stepKs {ls aa ns0 ns} (h:RI ls aa ns0 ns) (hg:iQ ns0.length ls) {d:ae} {to:Int} {p:d9} {plain:Bool} {way:Int} (hp:p.2=32) (ha:p.1∈aa) (h0:1<=way) (h1:way<=3) {n:Nat} (hn:n<=ls.length) :
  RI ls aa ns0 ((range n).foldl (Go.RS.stepK ls d to p plain way) ns) :=
 yK _ _ h λk hk b hb=>hb.stepK hg (by have:=List.mem_range.1 hk;omega) hp ha h0 h1
theorem RI.stepP {ls aa ns0 ns} (h:RI ls aa ns0 ns) (hg:iQ ns0.length ls) {d:ae} {to:Int} {plain:Bool} {way:Int} {q:pj} (ha:q.1∈aa) (h0:1<=way) (h1:way<=3) :
  RI ls aa ns0 (stepP ls d to plain way ns q) :=
 h.stepKs (p:=(q.1,32)) hg rfl ha h0 h1 (ir _)
def i5(ns:List au):ae:=ns.flatMap λx=>(ay x).map (·.1)
theorem KS{ns:List au}{i:Nat}(hi:i<ns.length){q:pj}(hq:q∈ay (ns.getD i default)):q.1∈i5 ns:=by
 have hx:ns.getD i default∈ns:=by
  have:=bR (xs:=ns) (i:=(i:Nat)) ab ab;simpa using this
 exact List.mem_flatMap.2 ⟨_,hx,List.mem_map.2 ⟨q,hq,rfl⟩⟩
theorem RI.stepPs {ls ns0 ns} (h:RI ls (i5 ns0) ns0 ns) (hg:iQ ns0.length ls) {d:ae} {to:Int} {plain:Bool} {way:Int} (h0:1<=way) (h1:way<=3) {l:List pj} (hl:∀ q∈l,q.1∈i5 ns0) :
  RI ls (i5 ns0) ns0 (l.foldl (Go.RS.stepP ls d to plain way) ns) :=
 yK _ _ h λq hq b hb=>hb.stepP hg (hl q hq) h0 h1
theorem OE{c:aX}(h:cT c):cT (oB c).2/\1<=(oB c).1/\(oB c).1<=3:=by
 have k:=dq h 3
 have k2:=dq k.1 3
 have:=fu h (n:=3) ab
 unfold oB
 split
 .refine⟨k2.1,?_⟩;dsimp only;split <;> omega
 .exact⟨k.1,by dsimp only;omega,by dsimp only;omega⟩
theorem RI.stepT {ls ns0} {s:List au×aX} (h:RI ls (i5 ns0) ns0 s.1/\cT s.2) (hg:iQ ns0.length ls) {plain:Bool} {to:Nat} (ht:to<ns0.length) :
  RI ls (i5 ns0) ns0 (stepT ls plain s to).1/\cT (stepT ls plain s to).2:=by
 have w:=OE h.2
 unfold Go.RS.stepT
 refine⟨h.1.stepPs hg w.2.1 w.2.2 λq hq=>?_,w.1⟩
 rw[h.1.ports ht] at hq
 exact KS ht hq
theorem RI.stepTs {ls ns0} {s:List au×aX} (h:RI ls (i5 ns0) ns0 s.1/\cT s.2) (hg:iQ ns0.length ls) {plain:Bool} {n:Nat} (hn:n<=ns0.length) :
  RI ls (i5 ns0) ns0 ((range n).foldl (Go.RS.stepT ls plain) s).1/\cT ((range n).foldl (Go.RS.stepT ls plain) s).2 :=
 yK (λs:List au×aX=>RI ls (i5 ns0) ns0 s.1/\cT s.2) _ h λk hk b hb=>RI.stepT hb hg (by have:=List.mem_range.1 hk;omega)
theorem RI.start{ls:List aK}{ns0:List au}(h:∀ x∈ns0,aU x=[]):RI ls (i5 ns0) ns0 ns0:=by
 refine⟨rfl,λ_ _=>rfl,λi hi=>?_⟩
 have hx:ns0.getD i default∈ns0:=by
  have:=bR (xs:=ns0) (i:=(i:Nat)) ab ab;simpa using this
 rw[h _ hx]
 exact⟨List.Pairwise.nil,λr hr=>by cases hr⟩
def pN(i:Int)(k:Nat)(l:aK):List pj:=(if lA l=i then [(gv k+1,(k:Int))] else [])++(if lB l=i then [(gv k+2,(k:Int))] else [])
def portsF(i:Int):Nat->List aK->List pj
 | _,[]=>[]
 | k,l::r=>pN i k l++portsF i (k+1) r
theorem Pc(i:Int)(l:aK):∀(k:Nat)(ls:List aK),portsF i k (ls++[l])=portsF i k ls++pN i (k+ls.length) l
 | k,[]=>by simp[portsF]
 | k,x::r=>by
  rw[mF,portsF,Pc i l (k+1) r,portsF,iL,dN,show k+1+r.length=k+(r.length+1) by omega]
theorem S0(i:Int)(k:Nat)(l:aK):(pN i k l).length<=2:=by
 unfold pN
 split <;> split <;> simp
theorem BE(i:Int):∀(k:Nat)(ls:List aK),(portsF i k ls).length<=2*ls.length
 | k,[]=>by simp[portsF]
 | k,x::r=>by
  have:=BE i (k+1) r;have:=S0 i k x;rw[portsF,cA,dN];omega
theorem M4{i:Int}:∀{k:Nat}{ls:List aK},(∀ x∈ls,lA x≠i/\lB x≠i)->portsF i k ls=[]
 | k,[],_=>rfl
 | k,x::r,h=>by
  have hx:=h x fY;rw[portsF,M4 λy hy=>h y (fM _ hy),pN,af hx.1,af hx.2];rfl
theorem A0{i:Int}{q:pj}:∀{k:Nat}{ls:List aK},q∈portsF i k ls↔∃ j,j<ls.length/\((lA (ls.getD j default)=i/\q=(gv (k+j:Nat)+1,((k+j:Nat):Int)))∨(lB (ls.getD j default)=i/\q=(gv (k+j:Nat)+2,((k+j:Nat):Int))))
 | k,[]=>by simp[portsF]
 | k,x::r=>by
  rw[portsF,dB,A0 (k:=k+1) (ls:=r)];constructor
  .rintro (h|⟨j,hj,h⟩)
   .refine⟨0,aA,?_⟩;unfold pN at h;rcases dB.1 h with h|h
    .split at h
     next e=>exact .inl ⟨e,by simpa using h⟩
     .cases h
    .split at h
     next e=>exact .inr ⟨e,by simpa using h⟩
     .cases h
   .refine⟨j+1,by rw[dN];omega,?_⟩;rw[List.getD_cons_succ,show k+(j+1)=k+1+j by omega];exact h
  .rintro⟨j,hj,h⟩;cases j with
   | zero =>
    refine .inl ?_;rw[List.getD_cons_zero] at h;unfold pN;rcases h with⟨e,h⟩|⟨e,h⟩
    .rw[am e];exact dB.2 (.inl (by simpa using h))
    .rw[am e];exact dB.2 (.inr (by simpa using h))
   | succ j =>
    refine .inr ⟨j,by rw[dN] at hj;omega,?_⟩;rw[List.getD_cons_succ,show k+(j+1)=k+1+j by omega] at h;exact h
theorem CD{α:Type} [Inhabited α] {l m:List α} {i:Nat} (h:i<l.length):(l++m).getD i default=l.getD i default:=by
 rw[bJ,lF h,bJ]
theorem ER{α:Type} [Inhabited α] {l:List α} {x:α}:(l++[x]).getD l.length default=x:=by
 rw[bJ];simp
theorem FH{ns:List au}{x:Int}{p:pj}(x0:0<=x){i:Nat}(hi:i<ns.length) :
  (kA ns x p).getD i default=((ns.getD i default).1++(if x=i then [p] else []),(ns.getD i default).2):=by
 unfold kA
 by_cases e:x=i
 .have:x.toNat=i:=ab;rw[this,kv hi,am e]
 .have:x.toNat≠i:=ab;rw[nt this,af e,jx]
theorem Hz(ns:List au)(x:Int)(p:pj):(kA ns x p).length=ns.length:=by unfold kA;exact gC
structure GI (s:bu) (nn nl:Nat):Prop where
 n:s.1.1.length=nn
 l:s.1.2.1.length=nl
 h:s.1.2.2=[]
 c:cT s.2
 g:∀ x∈s.1.2.1,(0<=lA x/\lA x<nn)/\(0<=lB x/\lB x<nn)/\lA x≠lB x/\(1<=gQ x/\gQ x<=20)/\fO x=0/\oF x=0/\0<=wD x/\wD x<=255
 p:∀ i:Nat,i<nn->ay (s.1.1.getD i default)=portsF i 0 s.1.2.1
 d:∀ i:Nat,i<nn→∃ host f sd,(s.1.1.getD i default).2=(sk i host f sd).2/\(f=64∨f=255∨f=128)/\0<=sd/\sd<=255
theorem GI.node{s:bu}{nn nl:Nat}(h:GI s nn nl)(host:Bool):GI (kx s host) (nn+1) nl:=by
 have k3:=fu h.c (n:=3) ab
 have c3:=(dq h.c 3).1
 have k4:=fu c3 (n:=256) ab
 have c4:=(dq c3 256).1
 refine⟨by simp only[kx,cA,dN,List.length_nil,h.n],h.l,h.h,c4,λx hx=>?_,λi hi=>?_,λi hi=>?_⟩
 .have:=h.g x hx;omega
 .by_cases e:i<nn
  .rw[show (kx s host).1.1.getD i default=s.1.1.getD i default from CD (by rw[h.n];exact e)];exact h.p i e
  .have e:i=s.1.1.length:=by rw[h.n];omega
   subst e;rw[show (kx s host).1.1.getD s.1.1.length default=sk s.1.1.length host _ _ from ER];refine (M4 λx hx=>?_).symm;have:=h.g x hx;have:=h.n;omega
 .by_cases e:i<nn
  .rw[show (kx s host).1.1.getD i default=s.1.1.getD i default from CD (by rw[h.n];exact e)];exact h.d i e
  .have e:i=s.1.1.length:=by rw[h.n];omega
   subst e;rw[show (kx s host).1.1.getD s.1.1.length default=sk s.1.1.length host _ _ from ER];refine⟨host,_,_,rfl,?_,k4.1,ab⟩;rcases (show (ax s.2 3).1=0∨(ax s.2 3).1=1∨(ax s.2 3).1=2 by omega) with e|e|e <;> rw[e] <;> simp
theorem GI.link{s:bu}{nn nl:Nat}(h:GI s nn nl){a b:Int}(a0:0<=a)(a1:a<nn)(b0:0<=b)(b1:b<nn)(ne:a≠b):GI (js s a b) nn (nl+1):=by
 have k3:=fu h.c (n:=20) ab
 have c3:=(dq h.c 20).1
 have k4:=fu c3 (n:=256) ab
 have c4:=(dq c3 256).1
 refine⟨by simp only[js,Hz,h.n],by simp only[js,cA,dN,List.length_nil,h.l],h.h,c4,λx hx=>?_,λi hi=>?_,λi hi=>?_⟩
 .rcases dB.1 hx with hx|hx
  .exact h.g x hx
  .rw[iI.1 hx];refine⟨⟨a0,a1⟩,⟨b0,b1⟩,ne,?_,rfl,rfl,k4.1,?_⟩
   .show 1<=1+(ax s.2 20).1/\1+(ax s.2 20).1<=20;omega
   .show (ax (ax s.2 20).2 256).1<=255;omega
 .have hp:=h.p i hi;unfold js;dsimp only;rw[FH b0 (by rw[Hz,h.n];exact hi),FH a0 (by rw[h.n];exact hi),Pc,← hp,gh];simp only[ay,pN,lA,lB,iL];rfl
 .unfold js;dsimp only;rw[FH b0 (by rw[Hz,h.n];exact hi),FH a0 (by rw[h.n];exact hi)];exact h.d i hi
theorem GI.codes{s:bu}{nn nl:Nat}(h:GI s nn nl){c:aX}(hc:cT c):GI (s.1,c) nn nl:=⟨h.n,h.l,h.h,hc,h.g,h.p,h.d⟩
theorem GI.start{c:aX}(hc:cT c):GI (([],[],[]),c) 0 0 :=
 ⟨rfl,rfl,rfl,hc,λx hx=>(by cases hx),λi hi=>ab,λi hi=>ab⟩
theorem GI.routes{s:bu}{nn nl:Nat}(h:GI s nn nl):∀ x∈s.1.1,aU x=[]:=λx hx=>by
 obtain⟨i,hi,e⟩:=List.mem_iff_getElem.1 hx
 obtain⟨host,f,sd,hd,-⟩:=h.d i (by rw[← h.n];exact hi)
 have:s.1.1.getD i default=x:=by rw[bJ,cK hi,e];rfl
 rw[this] at hd
 show x.2.2.2.2.1=[]
 rw[hd];rfl
theorem GI.plen{s:bu}{nn nl:Nat}(h:GI s nn nl):∀ x∈s.1.1,x.1.length<=2*nl:=λx hx=>by
 obtain⟨i,hi,e⟩:=List.mem_iff_getElem.1 hx
 have hp:=h.p i (by rw[← h.n];exact hi)
 have:s.1.1.getD i default=x:=by rw[bJ,cK hi,e];rfl
 rw[this] at hp
 have:=BE i 0 s.1.2.1
 rw[← hp,h.l] at this;exact this
theorem DU:∀{ns:List au}{m:Nat},(∀ x∈ns,x.1.length<=m)->(i5 ns).length<=ns.length*m
 | [],m,_=>by simp[i5]
 | x::r,m,h=>by
  have k:=DU (ns:=r) (m:=m) λy hy=>h y (fM _ hy);have hx:=h x fY;unfold i5 at k ⊢;rw[List.flatMap_cons,cA,mq,dN,Nat.succ_mul];show (ay x).length+_<=_;have:(ay x).length<=m:=hx;omega
theorem GI.ends{s:bu}{nn nl:Nat}(h:GI s nn nl):iQ s.1.1.length s.1.2.1:=λx hx=>by
 have:=h.g x hx
 rw[h.n]
 exact⟨this.1.1,this.1.2,this.2.1.1,this.2.1.2⟩
theorem GI.chain{s:bu}(h:GI s 1 0):∀ k:Nat,GI ((range k).foldl rH s) (k+1) k
 | 0=>h
 | k+1=>by
  rw[nj,iD];exact ((GI.chain h k).node false).link ab ab ab ab ab
def bW(c:aX):Int:=1+(ax (kx (([],[],[]),c) true).2 5).1
def vS(c:aX):bu:=((kx (([],[],[]),c) true).1,(ax (kx (([],[],[]),c) true).2 5).2)
theorem Q9{c:aX}(h:cT c):GI (vS c) 1 0:=((GI.start h).node true).codes (dq ((GI.start h).node true).c 5).1
theorem vz{c:aX}(h:cT c):1<=bW c/\bW c<=5:=by
 have:=fu ((GI.start h).node true).c (n:=5) ab
 unfold bW;omega
theorem Jl(c:aX):nZ c=(bW c,js (kx ((range (bW c).toNat).foldl rH (vS c)) true) (bW c) (bW c+1)):=rfl
theorem Ey{c:aX}(h:cT c):GI (nZ c).2 ((bW c).toNat+2) ((bW c).toNat+1):=by
 have:=vz h
 rw[Jl]
 exact (((Q9 h).chain _).node true).link ab ab ab ab ab
theorem GI.short{s:bu}{nn nl:Nat}(h:GI s nn nl){n:Int}(n1:1<=n)(hn:n+2<=nn):∃ m,nl<=m/\m<=nl+1/\GI (tw n s) nn m:=by
 have ka:=fu h.c (n:=n) ab
 have ca:=(dq h.c n).1
 have kb:=fu ca (n:=n) ab
 have cb:=(dq ca n).1
 unfold tw
 dsimp only
 split
 .exact⟨nl,ab,ab,h.codes cb⟩
 next e=>exact⟨nl+1,ab,ab,(h.codes cb).link ab ab ab ab ab⟩
theorem GI.shorts{s:bu}{nn nl:Nat}(h:GI s nn nl){n:Int}(n1:1<=n)(hn:n+2<=nn):∀ k:Nat,∃ m,nl<=m/\m<=nl+k/\GI ((range k).foldl (λs _=>tw n s) s) nn m
 | 0=>⟨nl,ab,ab,h⟩
 | k+1=>by
  obtain⟨m,m0,m1,hm⟩:=GI.shorts h n1 hn k;obtain⟨m',q0,q1,hq⟩:=hm.short n1 hn;refine⟨m',ab,ab,?_⟩;rw[nj,iD];exact hq
def qS(plain:Bool)(n:Int)(s:bu)(k:Nat):bu:=if 1<n/\plain=false then (range k).foldl (λs _=>tw n s) (s.1,(ax s.2 4).2) else (s.1,(ax s.2 4).2)
theorem MC{s:bu}{nn nl:Nat}(h:GI s nn nl){plain:Bool}{n:Int}(n1:1<=n)(hn:n+2<=nn)(k:Nat):∃ m,nl<=m/\m<=nl+k/\GI (qS plain n s k) nn m:=by
 have hc:=h.codes (dq h.c 4).1
 unfold qS
 split
 .exact hc.shorts n1 hn k
 .exact⟨nl,ab,ab,hc⟩
theorem Gf(plain:Bool)(n:Int)(s:bu):zt plain n s=(let s1:=qS plain n s (ax s.2 4).1.toNat
  if plain=true/\2<n then
   if (ax s1.2 2).1=1 then js (s1.1,(ax (ax s1.2 2).2 (n-1)).2) (1+(ax (ax s1.2 2).2 (n-1)).1) n else (s1.1,(ax s1.2 2).2)
  else s1):=rfl
theorem ai5{s:bu}{nn nl:Nat}(h:GI s nn nl){plain:Bool}{n:Int}(n1:1<=n)(hn:n+2<=nn):∃ m,nl<=m/\m<=nl+4/\GI (zt plain n s) nn m:=by
 have k4:=fu h.c (n:=4) ab
 obtain⟨m,m0,m1,hm⟩:=MC h (plain:=plain) n1 hn (ax s.2 4).1.toNat
 rw[Gf]
 dsimp only
 generalize qS plain n s (ax s.2 4).1.toNat=t at hm ⊢
 have c2:=(dq hm.c 2).1
 have c3:=(dq c2 (n-1)).1
 split
 next e=>
  split
  .have k5:=fu c2 (n:=n-1) ab;exact⟨m+1,ab,ab,(hm.codes c3).link ab ab ab ab ab⟩
  .exact⟨m,ab,ab,hm.codes c2⟩
 .exact⟨m,ab,ab,hm⟩
theorem DW{c:aX}(h:cT c)(plain:Bool):∃ m,2<=m/\m<=10/\GI (zt plain (nZ c).1 (nZ c).2) ((bW c).toNat+2) m:=by
 have hn:=vz h
 obtain⟨m,m0,m1,hm⟩:=ai5 (Ey h) (plain:=plain) (n:=bW c) hn.1 ab
 exact⟨m,ab,ab,hm⟩
abbrev yZ:OT := .pair (.pair (.row 92 bU) (.pair (.row 86 fU) (.row 153 fh))) (.ref 83 jW)
def sL(s:bu):List aK:=s.1.2.1
def qG(s:bu):Prop:=aS s.2/\(s.1.1.length:Int)<=1000/\(s.1.2.1.length:Int)<=1000/\(s.1.2.2.length:Int)<=1000∧∀ x∈s.1.1,(x.1.length:Int)<=1000
def inN(ns:List au)(a:Int):Prop:=0<=a/\a<ns.length
def aF5:Ct:=⟨[.box 83 jW,.val cI],[.val cI],λd=>[aS d.1,d.2.1<=256],λd=>(((nu d.1 d.2.1).1,()),((nu d.1 d.2.1).2,()))⟩
theorem ac0 :
 ∀(a:ae)(b c:Int),((a.length<=maxLen/\ ∀(d:Int),d∈a->0<=d/\d<=255)/\aq b)/\aq c/\True->aS (a,b)/\c<=256-> ∀(d:Bool),d=decide ((ac a)<=b)->(ah (! d))/\(aE d)/\ao (bif d then true else decide (c<1)) (0=(nu (a,b) c).1/\(a,b)=(nu (a,b) c).2) (0<=b/\b<(ac a)/\ao (decide (256<c)) False (c≠(0:Int)/\Int.tmod (aj (ai a b)) c=(nu (a,b) c).1/\(a,aj (b+1))=(nu (a,b) c).2)):=by
  delta ah aE aj ai ac;rintro l p n ⟨⟨⟨hl,hw⟩,h0,h1⟩,⟨h2,h3⟩,-⟩⟨⟨hc1,hc2⟩,hn⟩;simp only[maxLen] at hl hc1 hc2
  (repeat (refine bX ?_;repeat refine bZ ?_));refine rX (λhb=>?_) (λhb1 hb2=>?_)
  .have hb:(l.length:Int)<=p∨n<1:=by simpa using hb
   rw[nu,am hb];exact⟨rfl,rfl⟩
  .have hb1:=aL hb1;have hb2:=aL hb2;have hb:¬ ((l.length:Int)<=p∨n<1):=ab;obtain⟨hm0,hm1⟩:=hw _ (bR hc1 (show p<l.length by omega));refine⟨hc1,ab,aw (λk=>?_) (λ_=>⟨ab,?_⟩)⟩
   .have:=aI k;omega
   .rw[nu,af hb,aG ab ab,aG ab ab];exact⟨rfl,rfl⟩
theorem Zv:aB 26 aF5.spec:=aF Tryz.func26 aC aT ac0
def So:Ct:=⟨[.box 83 jW,.val cI],[.val cI],λd=>[aS d.1],λd=>(((ax d.1 d.2.1).1,()),((ax d.1 d.2.1).2,()))⟩
theorem Wa :
 ∀(a:ae)(b c:Int),((a.length<=maxLen/\ ∀(d:Int),d∈a->0<=d/\d<=255)/\aq b)/\aq c/\True->0<=b/\b<=(ac a)-> ∀(d:Bool),d=decide ((ac a)<=b)->(ah (! d))/\(aE d)/\ao (bif d then true else decide (c<1)) (0=(ax (a,b) c).1/\(a,b)=(ax (a,b) c).2) (0<=b/\b<(ac a)/\ao (decide (256<c)) (aS (a,aj (b+1))/\(256:Int)<=256/\c≠(0:Int)/\Int.tmod (aj (aj ((256:Int)*aj (ai a b))+(nu (a,aj (b+1)) (256:Int)).1)) c=(ax (a,b) c).1/\(nu (a,aj (b+1)) (256:Int)).2=(ax (a,b) c).2) (c≠(0:Int)/\Int.tmod (aj (ai a b)) c=(ax (a,b) c).1/\(a,aj (b+1))=(ax (a,b) c).2)):=by
  delta ah aE aj ai ac;rintro l p n ⟨⟨⟨hl,hw⟩,h0,h1⟩,⟨h2,h3⟩,-⟩⟨hc1,hc2⟩;simp only[maxLen] at hl hc1 hc2
  (repeat (refine bX ?_;repeat refine bZ ?_));refine rX (λhb=>?_) (λhb1 hb2=>?_)
  .have hb:(l.length:Int)<=p∨n<1:=by simpa using hb
   rw[ax,am hb];exact⟨rfl,rfl⟩
  .have hb1:=aL hb1;have hb2:=aL hb2;have hb:¬ ((l.length:Int)<=p∨n<1):=ab;obtain⟨hm0,hm1⟩:=hw _ (bR hc1 (show p<l.length by omega));rw[aG (n:=p+1) ab ab,aG (n:=l.getD p.toNat default) ab ab];refine⟨hc1,ab,aw (λk=>?_) (λk=>⟨ab,?_⟩)⟩
   .have k:=aI k;have hok:cT (l,p+1):=⟨⟨by show 0<=p+1;omega,by show p+1<=l.length;omega⟩,hw⟩
    have hr:=Nt hok 256;refine⟨hok.at',ab,ab,?_⟩;rw[ax,af hb,am k,aG (n:=256*_) ab ab,aG ab ab];exact⟨rfl,rfl⟩
   .rw[ax,af hb,af (aL k)];exact⟨rfl,rfl⟩
theorem xo:aB 26 So.spec:=aF Tryz.func26 (av aC Zv) aT Wa
def aj3:Ct:=⟨[.box 142 yZ,.val .bool],[.val cI],λd=>[qG d.1],λd=>(((d.1.1.1.length:Int),()),(kx d.1 d.2.1,()))⟩
def Ah(a:List au)(b:List aK)(c:List aV)(d:ae)(e:Int) :=
 ((a.length<=maxLen/\ ∀(g:au),g∈a->CT.wf bU g)/\(b.length<=maxLen/\ ∀(g:aK),g∈b->CT.wf fU g)/\c.length<=maxLen/\ ∀(g:aV),g∈c->CT.wf fh g)/\(d.length<=maxLen/\ ∀(g:Int),g∈d->0<=g/\g<=255)/\aq e
def GG(a:List au)(d:ae)(e:Int)(f:Bool) :=
 (([]:List (Int×Int)),(0:Int),aj ((1:Int)+aj (Int.tdiv (ac a) (3:Int))),f,([]:List aN),(1:Int),(0:Int),(0:Int),(0:Int),(0:Int),((0:Int),(0:Int)),false,false,getD [(64:Int),(255:Int),(128:Int)] (toNat (ax (d,e) (3:Int)).1) default,(ax (ax (d,e) (3:Int)).2 (256:Int)).1)
def o9 :=
 (140737488355328:Nat)
theorem Yq :
 ∀(a:List au)(b:List aK)(c:List aV)(d:ae)(e:Int)(f:Bool),(Ah a b c d e)/\True/\True->(aS (d,e)/\(ac a)<=1000/\(ac b)<=1000/\(ac c)<=1000/\ ∀(g:au),g∈a->(ac g.1)<=1000)->aS (d,e)/\0<=(ax (d,e) (3:Int)).1/\(ax (d,e) (3:Int)).1<((length [(64:Int),(255:Int),(128:Int)]):Int)/\aS (ax (d,e) (3:Int)).2/\(3:Int)≠(0:Int)/\(a.length+length [(GG a d e f)])*(152:Nat)<=(o9)/\(ac a)=(ac a)/\((a++[(GG a d e f)],b,c),(ax (ax (d,e) (3:Int)).2 (256:Int)).2)=kx ((a,b,c),d,e) f:=by
  delta Ah GG o9 aj ac;rintro ns ls hs l p b ⟨⟨-,⟨hl,hw⟩,-⟩,-,-⟩⟨hc,h1,h2,h3,h4⟩;have hok:cT (l,p):=⟨hc,hw⟩
  have r1:=dq hok 3;have r2:=fu hok (n:=3) ab;have e:Int.tdiv (ns.length:Int) 3=(ns.length:Int)/3:=DI ab;refine⟨hc,r2.1,by simpa using r2.2,r1.1.at',ab,by simp only[gc];omega,rfl,?_⟩;rw[e,aG (n:=(ns.length:Int)/3) ab ab,aG ab ab];rfl
theorem aE0:aB 61 aj3.spec:=aF Tryz.func61 (av aC xo) aT Yq
def o3(ns:List au)(a b l k:Int):List au:=if k=0 then ns else if k=1 then kA ns a (gv l+1,l) else kA (kA ns a (gv l+1,l)) b (gv l+2,l)
def N2:Ct:=⟨[.box 142 yZ,.val cI,.val cI],[.val cI],λd=>[qG d.1,inN d.1.1.1 d.2.1,inN d.1.1.1 d.2.2.1],λd=>(((d.1.1.2.1.length:Int),()),(js d.1 d.2.1 d.2.2.1,()))⟩
def Zg:bw N2.ps->ce:=(λd=>{loops:=(bp 5 (λS=>{ι:=Int×(List au),qn:=ft,μ:=λi=>(2-i.1).toNat,inv:=λi=>0<=i.1/\i.1<=2/\i.2=o3 d.1.1.1 d.2.1 d.2.2.1 d.1.1.2.1.length i.1,keep:=[0,1,2,6,7,8],slots:=λi=>[(9,.int .i64 i.1)],keepN:=[1048577,2097154],names:=λi=>[(1048576,.live (.cells 142 [.own 524288 16,.own 524289 6,.own 2097154 7,.ptr 1048577 0])),(524288,.live (.row 92 bU i.2)),(524289,.live (.row 86 fU (sL (js d.1 d.2.1 d.2.2.1))))]}) cC)})
def qE(d:ae)(e:Int) :=
 ax (ax (d,e) (20:Int)).2 (256:Int)
def wK(b:List aK) :=
 aj ((167837696:Int)+aj ((4:Int)*(ac b)))
theorem aG1 :
 ∀(a:List au)(b:List aK)(c:List aV)(d:ae)(e f g:Int),(((a.length<=maxLen/\ ∀(h:au),h∈a->CT.wf bU h)/\(b.length<=maxLen/\ ∀(h:aK),h∈b->CT.wf fU h)/\c.length<=maxLen/\ ∀(h:aV),h∈c->CT.wf fh h)/\(d.length<=maxLen/\ ∀(h:Int),h∈d->0<=h/\h<=255)/\aq e)/\aq f/\aq g/\True->qG ((a,b,c),d,e)/\inN a f/\0<=g/\g<(ac a)->aS (d,e)/\aS (ax (d,e) (20:Int)).2/\(b.length+length [(f,g,aj ((1:Int)+(ax (d,e) (20:Int)).1),(0:Int),(0:Int),(qE d e).1)])*(48:Nat)<=(o9)/\(∃(h:Int) (i:List au),(0<=h/\h<=2/\i=o3 a f g (ac b) h)/\f=f/\g=g/\(0:Int)=0/\(ac b)=(ac b)/\IntKind.wrap .u32 (wK b)=IntKind.wrap .u32 (wK b)/\0=h/\(qE d e).2.1=(qE d e).2.1/\(qE d e).2.2=(qE d e).2.2/\c=c/\a=i/\b++[(f,g,aj ((1:Int)+(ax (d,e) (20:Int)).1),(0:Int),(0:Int),(qE d e).1)]=sL (js ((a,b,c),d,e) f g)/\True)/\ ∀(h:Int) (i:List
 au),0<=h/\h<=2/\i=o3 a f g (ac b) h->ao (decide (h<2)) (0<=h/\h<((length [f,g]):Int)/\0<=getD [f,g] h.toNat default/\getD [f,g] h.toNat default<(ac i)/\length (ai i (getD [f,g] h.toNat default)).1*(16:Nat)<=(o9)/\(length (ai i (getD [f,g] h.toNat default)).1+length [(IntKind.wrap .u32 (IntKind.wrap .u32 (IntKind.wrap .u32 (wK b)+1)+IntKind.wrap .u32 h),(ac b))])*(16:Nat)<=(o9)/\0<=getD [f,g] h.toNat default/\getD [f,g] h.toNat default<(ac i)/\ ∃(j:Int) (k:List au),(0<=j/\j<=2/\k=o3 a f g (ac b) j)/\toNat ((2:Int) -j)<toNat ((2:Int) -h)/\f=f/\g=g/\(0:Int)=0/\(ac b)=(ac b)/\IntKind.wrap .u32 (wK b)=IntKind.wrap .u32 (wK b)/\aj (h+1)=j/\(qE d e).2.1=(qE d e).2.1/\(qE d e).2.2=(qE d e).2.2/\c=c/\set i (toNat (getD [f,g] h.toNat default)) ((ai i (getD [f,g] h.toNat
 default)).1++[(IntKind.wrap .u32 (IntKind.wrap .u32 (IntKind.wrap .u32 (wK b)+1)+IntKind.wrap .u32 h),(ac b))],(ai i (getD [f,g] h.toNat default)).2)=k/\sL (js ((a,b,c),d,e) f g)=sL (js ((a,b,c),d,e) f g)/\True) ((ac b)=(ac b)/\((i,sL (js ((a,b,c),d,e) f g),c),(qE d e).2)=js ((a,b,c),d,e) f g):=by
  delta qE wK o9 aj ai ac;rintro ns ls hs l p a b ⟨⟨-,⟨hl,hw⟩,-⟩,⟨ha1,ha2⟩,⟨hb1,hb2⟩,-⟩⟨⟨hc,h1,h2,h3,h4⟩,⟨a0,a1⟩,b0,b1⟩;simp only at h1 h2 h3 h4 a1;have hok:cT (l,p):=⟨hc,hw⟩
  have r1:=dq hok 20;have r2:=fu hok (n:=20) ab;have e1:IntKind.i64.wrap (1+(ax (l,p) 20).1)=1+(ax (l,p) 20).1:=aG ab ab;rw[e1,aG (n:=4*(ls.length:Int)) ab ab,aG (n:=167837696+4*(ls.length:Int)) ab ab,qy (n:=167837696+4*(ls.length:Int)) ab ab,qy (n:=167837696+4*(ls.length:Int)+1) ab ab];refine⟨hc,r1.1.at',by simp only[gc];omega,⟨0,ns,⟨ab,ab,by rw[o3,am rfl]⟩,?_⟩,?_⟩
  ·(repeat refine qI ?_);exact⟨rfl,bv⟩
  rintro k ms ⟨k0,k2,rfl⟩;have hlen:∀ m:Int,(o3 ns a b ls.length m).length=ns.length:=λm=>by
   unfold o3 kA;split
   .rfl
   .split <;> simp
  refine bT (λhk=>?_) (λhk=>?_)
  .rw[hlen];have hk':k=0∨k=1:=ab;have hports:∀ x:Int,0<=x->x<ns.length->((ns.getD x.toNat default).1.length:Int)<=1000:=λx x0 x1=>h4 _ (bR x0 x1);rcases hk' with rfl|rfl
   .have e0:o3 ns a b ls.length 0=ns:=by rw[o3,am rfl]
    rw[e0];have:=hports a a0 a1;have e3:([a,b]:ae).getD (toNat 0) default=a:=rfl;rw[e3];refine⟨ab,aA,a0,a1,ab,by simp only[gc];omega,a0,a1,1,_,⟨ab,ab,rfl⟩,ab,?_⟩
    (repeat refine qI ?_);refine⟨aG ab ab,?_⟩
    (repeat refine qI ?_);refine⟨?_,?_⟩
    .rw[o3,af ab,am rfl];have:IntKind.u32.wrap (167837696+4*(ls.length:Int)+1+IntKind.u32.wrap 0)=gv ls.length+1:=by
      rw[qy (n:=0) ab ab,qy ab ab];unfold gv;omega
     rw[this];rfl
    .exact⟨rfl,bv⟩
   .have e0:o3 ns a b ls.length 1=kA ns a (gv ls.length+1,ls.length):=by rw[o3,af ab,am rfl]
    rw[e0];have e3:([a,b]:ae).getD (toNat 1) default=b:=rfl;rw[e3];have hpb:(((kA ns a (gv ls.length+1,ls.length)).getD b.toNat default).1.length:Int)<=1001:=by
     unfold kA;by_cases hab:a.toNat=b.toNat
     .rw[hab,kv ab];have:=hports b b0 b1;simp only[cA,gc];omega
     .rw[nt hab];have:=hports b b0 b1;omega
    refine⟨ab,aA,b0,b1,ab,by simp only[gc];omega,b0,b1,2,_,⟨ab,ab,rfl⟩,ab,?_⟩
    (repeat refine qI ?_);refine⟨aG ab ab,?_⟩
    (repeat refine qI ?_);refine⟨?_,?_⟩
    .rw[o3,af ab,af ab];have:IntKind.u32.wrap (167837696+4*(ls.length:Int)+1+IntKind.u32.wrap 1)=gv ls.length+2:=by
      rw[qy (n:=1) ab ab,qy ab ab];unfold gv;omega
     rw[this];rfl
    .exact⟨rfl,bv⟩
  .have:k=2:=ab;subst this;refine⟨rfl,?_⟩;rw[o3,af ab,af ab];rfl
theorem aL9:aB 62 N2.spec:=aF Tryz.func62 (av aC xo) Zg aG1
def AV(k:Int)(done:ae)(f:Bool)(l:ae):Prop:=(f=false/\l=done∧∀ x∈done,¬ k<x)∨(f=true/\l=lh k done∧∃ x∈done,k<x)
def Qb:Ct:=⟨[.box 142 yZ,.val cI,.agg m8,.val cI,.val cI],[],λd=>[inN d.1.1.1 d.2.1,cJ (aU (d.1.1.1.getD d.2.1.toNat default)),okL (aU (d.1.1.1.getD d.2.1.toNat default)),∀ r∈aU (d.1.1.1.getD d.2.1.toNat default),(r.2.1.length:Int)<=1000],λd=>((),(((sO d.1.1.1 d.2.1 d.2.2.1 d.2.2.2.1 d.2.2.2.2.1,d.1.1.2),d.1.2),()))⟩
def aq5:bw Qb.ps->ce:=(λd=>{loops:=(bp 3 (λS=>{ι:=Int,μ:=λi=>((aU (d.1.1.1.getD d.2.1.toNat default)).length-i).toNat,inv:=λi=>0<=i/\i<=(aU (d.1.1.1.getD d.2.1.toNat default)).length∧∀ r∈(aU (d.1.1.1.getD d.2.1.toNat default)).take i.toNat,decide (r.1=d.2.2.1)=false,keep:=[0,1,3,4,7,8,9,10],slots:=λi=>[(11,.int .i64 i)],keepN:=[1048576,1048577,2097152,2097153,2097154,128]}) (bp 7 (λS=>{ι:=Int,μ:=λi=>(((aU (d.1.1.1.getD d.2.1.toNat default)).getD (S.i 11).toNat default).2.1.length-i).toNat,inv:=λi=>0<=i/\i<=((aU (d.1.1.1.getD d.2.1.toNat default)).getD (S.i 11).toNat default).2.1.length∧∀ x∈((aU (d.1.1.1.getD d.2.1.toNat default)).getD (S.i 11).toNat default).2.1.take i.toNat,x≠d.2.2.2.1,keep:=[0,1,3,4,7,8,9,10,11],slots:=λi=>[(12,.int .i64 i)],keepN:=[1048576,1048577,2097152,2097153,2097154,128]}) (bp 13 (λS=>{ι:=Int×Bool×ae,qn:=sf,μ:=λi=>(((aU (d.1.1.1.getD d.2.1.toNat default)).getD (S.i 11).toNat default).2.1.length-i.1).toNat,inv:=λi=>0<=i.1/\i.1<=((aU (d.1.1.1.getD d.2.1.toNat default)).getD (S.i 11).toNat default).2.1.length/\AV d.2.2.2.1 (((aU (d.1.1.1.getD d.2.1.toNat default)).getD (S.i 11).toNat default).2.1.take i.1.toNat) i.2.1 i.2.2,keep:=[0,1,3,4,7,8,9,10,11,13],slots:=λi=>[(14,.bool i.2.1),(15,.int .i64 i.1)],keepN:=[1048576,1048577,2097152,2097153,2097154,128],names:=λi=>[(224,.live (.cells 96 [.int .u32 d.2.2.1.1,.int .i64 d.2.2.1.2,.own 524288 1,.int .i64 ((aU (d.1.1.1.getD d.2.1.toNat default)).getD (S.i 11).toNat default).2.2])),(524288,.live (.row 3 cI i.2.2))]}) cC)))})
def oe(a:List au)(f k:Int) :=
 getD (aU (ai a f)) k.toNat default
def rU(a:List au)(f k:Int) :=
 getD (ai a f).2.2.2.2.1 k.toNat default
def pm(a:List au)(f k:Int) :=
 ((length (oe a f k).2.1):Int)
def ul(a:List au)(f:Int) :=
 ((length (ai a f).2.2.2.2.1):Int)
def wT(a:List au)(f k:Int) :=
 ((length (rU a f k).2.1):Int)
def zy(a:List au)(f:Int) :=
 ((length (aU (ai a f))):Int)
theorem UP :
 ∀(a:List au)(b:List aK)(c:List aV)(d:ae)(e f g h i j:Int),(((a.length<=maxLen/\ ∀(k:au),k∈a->CT.wf bU k)/\(b.length<=maxLen/\ ∀(k:aK),k∈b->CT.wf fU k)/\c.length<=maxLen/\ ∀(k:aV),k∈c->CT.wf fh k)/\(d.length<=maxLen/\ ∀(k:Int),k∈d->0<=k/\k<=255)/\aq e)/\aq f/\((0<=g/\g<=4294967295)/\aq h)/\aq i/\aq j/\True->(inN a f/\cJ (aU (ai a f))/\okL (aU (ai a f))/\ ∀(k:aN),k∈aU (ai a f)->(ac k.2.1)<=1000)->0<=f/\f<(ac a)/\(∃(k:Int),(0<=k/\k<=(zy a f)/\ ∀(l:aN),l∈take k.toNat (aU (ai a f))->decide (l.1=(g,h))=false)/\f=f/\i=i/\j=j/\f.toNat=f.toNat/\0=k/\d=d/\e=e/\a=a/\b=b/\c=c/\g=g/\h=h/\True)/\ ∀(k:Int),(0<=k/\k<=(zy a f)/\ ∀(l:aN),l∈take k.toNat (aU (ai a f))->decide (l.1=(g,h))=false)->ao (decide (k<(ul a f))) (0<=k/\k<(ul a f)/\ao (decide ((rU a f k).1.1=g)&&(decide ((rU a f
 k).1.2=h)&&true)) ((∃(l:Int),(0<=l/\l<=(pm a f k)/\ ∀(m:Int),m∈take l.toNat (oe a f k).2.1->m≠i)/\f=f/\i=i/\j=j/\f.toNat=f.toNat/\k=k/\0=l/\d=d/\e=e/\a=a/\b=b/\c=c/\g=g/\h=h/\True)/\ ∀(l:Int),(0<=l/\l<=(pm a f k)/\ ∀(m:Int),m∈take l.toNat (oe a f k).2.1->m≠i)->0<=k/\k<(ul a f)/\ao (decide (l<(wT a f k))) (0<=k/\k<(ul a f)/\0<=l/\l<(wT a f k)/\ao (decide (getD (rU a f k).2.1 l.toNat default=i)) (((a,b,c),d,e)=((sO a f (g,h) i j,b,c),d,e)) (∃(m:Int),(0<=m/\m<=(pm a f k)/\ ∀(n:Int),n∈take m.toNat (oe a f k).2.1->n≠i)/\toNat ((pm a f k) -m)<toNat ((pm a f k) -l)/\f=f/\i=i/\j=j/\f.toNat=f.toNat/\k=k/\aj (l+1)=m/\d=d/\e=e/\a=a/\b=b/\c=c/\g=g/\h=h/\True)) (0<=k/\k<(ul a f)/\(∃(m:Int) (n:Bool),∃(o:ae),(0<=m/\m<=(pm a f k)/\AV i (take m.toNat (oe a f k).2.1) n
 o)/\f=f/\i=i/\j=j/\f.toNat=f.toNat/\k=k/\false=n/\0=m/\d=d/\e=e/\a=a/\b=b/\c=c/\g=g/\h=h/\g=g/\h=h/\(rU a f k).2.2=(oe a f k).2.2/\o=([]:ae)/\True)/\ ∀(m:Int)(n:Bool)(o:ae),0<=m/\m<=(pm a f k)/\AV i (take m.toNat (oe a f k).2.1) n o->0<=k/\k<(ul a f)/\ao (decide (m<(wT a f k))) (∀(p:Bool),p= ! n->(ah p)/\(ah p)/\(ah p)/\(p->(ar p)/\(ar p)/\0<=k/\k<(ul a f)/\True)/\(ah p)/\(ah p)/\(p->(ar p)/\(ar p)/\0<=m/\m<(wT a f k)/\True)/\(ah p)/\(p->(ar p)/\(ar p)/\True)/\(ar p)/\ao (bif p then decide (i<getD (rU a f k).2.1 m.toNat default) else false) ((o.length+length [i])*(8:Nat)<=(o9)/\0<=k/\k<(ul a f)/\0<=m/\m<(wT a f k)/\(length (o++[i])+length [getD (rU a f k).2.1 m.toNat default])*(8:Nat)<=(o9)/\ ∃(q:Int) (r:Bool),∃(s:ae),(0<=q/\q<=(pm a f k)/\AV i (take q.toNat (oe a f
 k).2.1) r s)/\toNat ((pm a f k) -q)<toNat ((pm a f k) -m)/\f=f/\i=i/\j=j/\f.toNat=f.toNat/\k=k/\true=r/\aj (m+1)=q/\d=d/\e=e/\a=a/\b=b/\c=c/\g=g/\h=h/\g=g/\h=h/\(oe a f k).2.2=(oe a f k).2.2/\o++[i]++[getD (rU a f k).2.1 m.toNat default]=s/\True) (0<=k/\k<(ul a f)/\0<=m/\m<(wT a f k)/\(o.length+length [getD (rU a f k).2.1 m.toNat default])*(8:Nat)<=(o9)/\ ∃(q:Int) (r:Bool),∃(s:ae),(0<=q/\q<=(pm a f k)/\AV i (take q.toNat (oe a f k).2.1) r s)/\toNat ((pm a f k) -q)<toNat ((pm a f k) -m)/\f=f/\i=i/\j=j/\f.toNat=f.toNat/\k=k/\n=r/\aj (m+1)=q/\d=d/\e=e/\a=a/\b=b/\c=c/\g=g/\h=h/\g=g/\h=h/\(oe a f k).2.2=(oe a f k).2.2/\o++[getD (rU a f k).2.1 m.toNat default]=s/\True)) (ao (! n) ((o.length+length [i])*(8:Nat)<=(o9)/\cJ (ai a f).2.2.2.2.1/\okL (ai a f).2.2.2.2.1/\((length
 (o++[i])):Int)<=1099511627776/\((set a f.toNat ((ai a f).1,(ai a f).2.1,(ai a f).2.2.1,(ai a f).2.2.2.1,f6 (ai a f).2.2.2.2.1 ((g,h),o++[i],(oe a f k).2.2),(ai a f).2.2.2.2.2),b,c),d,e)=((sO a f (g,h) i j,b,c),d,e)) (cJ (ai a f).2.2.2.2.1/\okL (ai a f).2.2.2.2.1/\(ac o)<=1099511627776/\((set a f.toNat ((ai a f).1,(ai a f).2.1,(ai a f).2.2.1,(ai a f).2.2.2.1,f6 (ai a f).2.2.2.2.1 ((g,h),o,(oe a f k).2.2),(ai a f).2.2.2.2.2),b,c),d,e)=((sO a f (g,h) i j,b,c),d,e))))) (∃(l:Int),(0<=l/\l<=(zy a f)/\ ∀(m:aN),m∈take l.toNat (aU (ai a f))->decide (m.1=(g,h))=false)/\toNat ((zy a f) -l)<toNat ((zy a f) -k)/\f=f/\i=i/\j=j/\f.toNat=f.toNat/\aj (k+1)=l/\d=d/\e=e/\a=a/\b=b/\c=c/\g=g/\h=h/\True)) (cJ (ai a f).2.2.2.2.1/\okL (ai a f).2.2.2.2.1/\((length [i]):Int)<=1099511627776/\((set a f.toNat ((ai a
 f).1,(ai a f).2.1,(ai a f).2.2.1,(ai a f).2.2.2.1,f6 (ai a f).2.2.2.2.1 ((g,h),[i],j),(ai a f).2.2.2.2.2),b,c),d,e)=((sO a f (g,h) i j,b,c),d,e)):=by
  delta oe rU pm ul o9 wT zy ah ar aj ai ac;rintro ns ls hs cl cp n a pl k way-⟨⟨n0,n1⟩,hsr,hol,hnx⟩;have eR:(ns.getD n.toNat default).2.2.2.2.1=aU (ns.getD n.toNat default):=rfl;simp only[eR];have fin:∀ l',wb (aU (ns.getD n.toNat default)) (a,pl) k way=l'→((ns.set n.toNat ((ns.getD n.toNat default).1,(ns.getD n.toNat default).2.1,(ns.getD n.toNat default).2.2.1,(ns.getD n.toNat default).2.2.2.1,l',(ns.getD n.toNat default).2.2.2.2.2),ls,hs),cl,cp)=((sO ns n (a,pl) k way,ls,hs),cl,cp):=by
   rintro _ rfl;rfl
  have same:wb (aU (ns.getD n.toNat default)) (a,pl) k way=aU (ns.getD n.toNat default)->((ns,ls,hs),cl,cp)=((sO ns n (a,pl) k way,ls,hs),cl,cp):=λh=>by
   have h2:=fin _ h;rw[← h2];have hn:n.toNat<ns.length:=ab;have e:((ns.getD n.toNat default).1,(ns.getD n.toNat default).2.1,(ns.getD n.toNat default).2.2.1,(ns.getD n.toNat default).2.2.2.1,aU (ns.getD n.toNat default),(ns.getD n.toNat default).2.2.2.2.2)=ns.getD n.toNat default:=rfl;rw[e];have:ns.set n.toNat (ns.getD n.toNat default)=ns:=by
    rw[bJ,cK hn,f9,List.set_getElem_self]
   rw[this]
  generalize aU (ns.getD n.toNat default)=R at *;have hlR:=hol.1;refine⟨n0,n1,⟨0,⟨ab,ab,aA⟩,aP⟩,?_⟩;rintro i ⟨i0,i1,hi⟩;refine aw (λhk=>?_) (λhk=>?_)
  rotate_left
  .have hk:=aL hk;rw[fe ab] at hi;refine⟨hsr,hol,aA,fin _ ?_⟩;have e:rL R (a,pl)=R.length:=List.findIdx_eq_length_of_false hi;rw[wb,e,af (Nat.lt_irrefl _)]
  have hk:=aI hk;refine⟨i0,hk,aw (λhm=>?_) (λhm=>?_)⟩
  rotate_left
  .have hf:decide ((R.getD i.toNat default).1=(a,pl))=false:=by
    refine dP λq=>?_;rw[q] at hm;simp at hm
   exact⟨i+1,⟨ab,ab,nN i0 hk hi hf⟩,ab,aP⟩
  have hm:decide ((R.getD i.toNat default).1=(a,pl))=true:=by
   generalize R.getD i.toNat default=z at hm;obtain⟨⟨z1,z2⟩,z3,z4⟩:=z;simp at hm;simp[hm]
  have hfi:i=if rL R (a,pl)<R.length then (rL R (a,pl):Int) else -1:=xx i0 hk hi hm;have hfl:rL R (a,pl)<R.length:=fj λq=>by rw[af q] at hfi;omega
  rw[am hfl] at hfi;have hfe:rL R (a,pl)=i.toNat:=ab;have hrl:=hnx _ (bR i0 hk);have eL:wb R (a,pl) k way=if k∈(R.getD i.toNat default).2.1 then R else f6 R ((a,pl),lh k (R.getD i.toNat default).2.1,(R.getD i.toNat default).2.2):=by
   rw[wb,am hfl,hfe]
  generalize hZ:R.getD i.toNat default=Z at *;refine⟨⟨0,⟨ab,ab,aA⟩,aP⟩,?_⟩;rintro j ⟨j0,j1,hj⟩;refine⟨i0,hk,aw (λhjk=>?_) (λhjk=>?_)⟩
  .have hjk:=aI hjk;refine⟨i0,hk,j0,hjk,aw (λhe=>same ?_) (λhe=>?_)⟩
   .have he:=aI he;rw[eL,am (he▸bR j0 hjk)]
   .exact⟨j+1,⟨ab,ab,nN (P:=λx=>x≠k) j0 hjk hj (aL he)⟩,ab,aP⟩
  have hjk:=aL hjk;rw[fe ab] at hj;have hnk:¬ k∈Z.2.1:=λq=>hj k q rfl;rw[af hnk] at eL;refine⟨i0,hk,⟨0,false,[],⟨ab,ab,.inl ⟨rfl,aA,aA⟩⟩,aP⟩,?_⟩;rintro m f l ⟨m0,m1,hins⟩;have hll:(l.length:Int)<=1001:=by
   rcases hins with⟨-,rfl,-⟩|⟨-,rfl,-⟩
   .rw[dA];omega
   .rw[Ka,dA];omega
  refine⟨i0,hk,aw (λhmk=>?_) (λhmk=>?_)⟩
  .have hmk:=aI hmk
   (repeat (intro (b_:Bool) (hb_:b_=_);(repeat refine⟨(by first|(simp +contextual;done)|(rw[hb_];simp +contextual;done)|(rw[hb_];simp;omega)|(rw[hb_];simp;intros;omega)|(rw[hb_];simp +contextual;intros;omega)|(intros;simp_all;done)|(intros;simp_all;omega)),?_⟩)));(repeat (subst hb_))
   refine u5 (λh1 h2=>?_) (λh1=>?_)
   .have h1:f=false:=by simpa using h1
    have h2:=aI h2;subst h1;rcases hins with⟨-,rfl,hin⟩|⟨q,-⟩
    .refine⟨by simp only[gc];omega,i0,hk,m0,hmk,by simp only[cA,gc];omega,m+1,true,_,⟨ab,ab,.inr ⟨rfl,rfl,Z.2.1.getD m.toNat default,?_,h2⟩⟩,ab,?_⟩
     .rw[vx m0 hmk];exact jd _ aA
     ·(repeat refine jp ?_);refine⟨?_,bv⟩;rw[vx m0 hmk,Nq hin h2]
    .cases q
   .refine⟨i0,hk,m0,hmk,by simp only[gc];omega,m+1,f,l++[Z.2.1.getD m.toNat default],⟨ab,ab,?_⟩,ab,aP⟩;rw[vx m0 hmk];rcases hins with⟨rfl,rfl,hin⟩|⟨rfl,rfl,hin⟩
    .refine .inl ⟨rfl,rfl,λx hx=>?_⟩;rcases dB.1 hx with hx|hx
     .exact hin x hx
     .rw[iI.1 hx];rcases h1 with h1|h1
      .cases h1
      .exact aL h1
    .obtain⟨x,hx,hx2⟩:=hin;exact .inr ⟨rfl,(RW ⟨x,hx,hx2⟩).symm,x,gu _ hx,hx2⟩
  have hmk:=aL hmk;rw[fe ab] at hins;refine aw (λhf=>?_) (λhf=>?_)
  .have hf:f=false:=by simpa using hf
   rcases hins with⟨-,rfl,hin⟩|⟨q,-⟩
   .refine⟨by simp only[gc];omega,hsr,hol,by simp only[cA,gc];omega,fin _ ?_⟩;rw[eL,L3 hin]
   .rw[hf] at q;cases q
  .have hf:f=true:=by simpa using hf
   rcases hins with⟨q,-⟩|⟨-,rfl,hin⟩
   .rw[hf] at q;cases q
   .exact⟨hsr,hol,ab,fin _ eL⟩
theorem aE1:aB 132 Qb.spec:=aF Tryz.func132 (av aC RC) aq5 UP
def SO(n:Nat)(to:Int):ae:=(replicate n (1000:Int)).set to.toNat 0
def qX(n:Nat)(ls:List aK)(to:Int)(k:Nat):ae:=(range k).foldl (λd _=>ls.foldl rI d) (SO n to)
theorem TG{n:Nat}{i:Int}(h0:0<=i)(h1:i<n):(replicate i.toNat (1000:Int)++replicate (n-i.toNat) 0).set i.toNat 1000=replicate (i+1).toNat 1000++replicate (n-(i+1).toNat) 0:=by
 have e:(i+1).toNat=i.toNat+1:=ab
 have e2:n-i.toNat=(n-(i.toNat+1))+1:=ab
 rw[e,e2,List.set_append_right _ _ aA,uh,Nat.sub_self,List.replicate_succ,List.set_cons_zero,List.replicate_succ',iL]
 rfl
def sa(n:Nat)(d:ae):Prop:=d.length=n∧∀ x∈d,0<=x/\x<=1000
theorem JS{n:Nat}{d:ae}{i:Nat}{v:Int}(h:sa n d)(h0:0<=v)(h1:v<=1000):sa n (d.set i v):=by
 refine⟨by rw[gC];exact h.1,λx hx=>?_⟩
 rcases AW hx with hx|rfl
 .exact h.2 x hx
 .exact⟨h0,h1⟩
theorem QE{n:Nat}{d:ae}(h:sa n d){i:Int}(h0:0<=i)(h1:i<n):0<=d.getD i.toNat default/\d.getD i.toNat default<=1000:=h.2 _ (bR h0 (by rw[h.1];exact h1))
theorem aJ7{n:Nat}{d:ae}{l:aK}(h:sa n d)(hl:0<=l.1/\l.1<n/\0<=l.2.1/\l.2.1<n):sa n (rI d l):=by
 have ha:=QE h hl.1 hl.2.1
 have hb:=QE h hl.2.2.1 hl.2.2.2
 unfold rI lA lB
 exact JS (JS h ab ab) ab ab
theorem F0{n:Nat}:∀{ls:List aK}{d:ae},iQ n ls->sa n d->sa n (ls.foldl rI d)
 | [],d,_,h=>h
 | l::ls,d,hg,h=>F0 (ls:=ls) (λx hx=>hg x (fM _ hx)) (aJ7 h (hg l fY))
theorem WX{n:Nat}{ls:List aK}{d:ae}(hg:iQ n ls)(h:sa n d)(j:Nat):sa n ((ls.take j).foldl rI d) :=
 F0 (λx hx=>hg x (oP hx)) h
theorem Gz(n:Nat)(ls:List aK)(to:Int)(hg:iQ n ls):∀ k,sa n (qX n ls to k)
 | 0=>JS ⟨uh,λx hx=>by rw[(List.mem_replicate.1 hx).2];omega⟩ ab ab
 | k+1=>by
  have:=F0 hg (Gz n ls to hg k);unfold qX at this ⊢;rw[nj,iD];exact this
def MZ:Ct:=⟨[.box 142 yZ,.val cI],[.own 3 cI],λd=>[(d.1.1.1.length:Int)<=1000,(d.1.1.2.1.length:Int)<=1000,inN d.1.1.1 d.2.1,iQ d.1.1.1.length d.1.1.2.1],λd=>((eU d.1.1.1.length d.1.1.2.1 d.2.1,()),(d.1,()))⟩
def TY:bw MZ.ps->ce:=(λd=>{loops:=(bp 3 (λS=>{ι:=Int×ae,qn:=ft,μ:=λi=>(d.1.1.1.length-i.1).toNat,inv:=λi=>0<=i.1/\i.1<=d.1.1.1.length/\i.2=replicate i.1.toNat 1000++replicate (d.1.1.1.length-i.1.toNat) 0,keep:=[0,1],slots:=λi=>[(6,.int .i64 i.1),(5,.own 524288 1)],keepN:=[1048576,1048577,2097152,2097153,2097154],names:=λi=>[(524288,.live (.row 3 cI i.2))]}) (bp 8 (λS=>{ι:=Int×ae,qn:=ft,μ:=λi=>(d.1.1.1.length-i.1).toNat,inv:=λi=>0<=i.1/\i.1<=d.1.1.1.length/\i.2=qX d.1.1.1.length d.1.1.2.1 d.2.1 i.1.toNat,keep:=[0,1],slots:=λi=>[(7,.int .i64 i.1),(5,.own 524288 1)],keepN:=[1048576,1048577,2097152,2097153,2097154],names:=λi=>[(524288,.live (.row 3 cI i.2))]}) (bp 11 (λS=>{ι:=Int×ae,qn:=ft,μ:=λi=>(d.1.1.2.1.length-i.1).toNat,inv:=λi=>0<=i.1/\i.1<=d.1.1.2.1.length/\i.2=(d.1.1.2.1.take i.1.toNat).foldl rI (qX d.1.1.1.length d.1.1.2.1 d.2.1 (S.i 7).toNat),keep:=[0,1,7],slots:=λi=>[(8,.int .i64 i.1),(5,.own 524288 1)],keepN:=[1048576,1048577,2097152,2097153,2097154],names:=λi=>[(524288,.live (.row 3 cI i.2))]}) cC)))})
def J2(b:List aK)(k:Int)(l:ae) :=
 set l (toNat (ai b k).1) (min (l.getD (toNat (ai b k).1) default) (aj (l.getD (toNat (ai b k).2.1) default+1)))
theorem Yl :
 ∀(a:List au)(b:List aK)(c:List aV)(d:ae)(e f:Int),(Ah a b c d e)/\aq f/\True->((ac a)<=1000/\(ac b)<=1000/\inN a f/\ ∀(g:aK),g∈b->0<=g.1/\g.1<(ac a)/\0<=g.2.1/\g.2.1<(ac a))->0<=(ac a)/\(ac a)<=(ac a)/\(↑(8:Nat):Int)*(ac a)<=281474976710656/\(∃(g:Int) (h:ae),(0<=g/\g<=(ac a)/\h=replicate g.toNat (1000:Int)++replicate (a.length -g.toNat) (0:Int))/\f=f/\0=g/\d=d/\e=e/\a=a/\b=b/\c=c/\replicate (toNat (ac a)) (0:Int)=h/\True)/\ ∀(g:Int)(h:ae),0<=g/\g<=(ac a)/\h=replicate g.toNat (1000:Int)++replicate (a.length -g.toNat) (0:Int)->ao (decide (g<(ac h))) (0<=g/\g<(ac h)/\ ∃(i:Int) (j:ae),(0<=i/\i<=(ac a)/\j=replicate i.toNat (1000:Int)++replicate (a.length -i.toNat) (0:Int))/\toNat ((ac a) -i)<toNat ((ac a) -g)/\f=f/\aj (g+1)=i/\d=d/\e=e/\a=a/\b=b/\c=c/\set h g.toNat
 (1000:Int)=j/\True) (0<=f/\f<(ac h)/\(∃(i:Int) (j:ae),(0<=i/\i<=(ac a)/\j=qX a.length b f i.toNat)/\f=f/\0=i/\d=d/\e=e/\a=a/\b=b/\c=c/\set h f.toNat (0:Int)=j/\True)/\ ∀(i:Int)(j:ae),0<=i/\i<=(ac a)/\j=qX a.length b f i.toNat->ao (decide (i<(ac j))) ((∃(k:Int) (l:ae),(0<=k/\k<=(ac b)/\l=List.foldl rI (qX a.length b f i.toNat) (take k.toNat b))/\f=f/\i=i/\0=k/\d=d/\e=e/\a=a/\b=b/\c=c/\j=l/\True)/\ ∀(k:Int)(l:ae),0<=k/\k<=(ac b)/\l=List.foldl rI (qX a.length b f i.toNat) (take k.toNat b)->ao (decide (k<(ac b))) (0<=k/\k<(ac b)/\0<=(ai b k).1/\(ai b k).1<(ac l)/\0<=(ai b k).2.1/\(ai b k).2.1<(ac l)/\0<=(ai b k).2.1/\(ai b k).2.1<(ac l)/\0<=(ai b k).1/\(ai b k).1<(ac l)/\0<=(ai b k).1/\(ai b k).1<(ac l)/\0<=(ai b k).2.1/\(ai b k).2.1<((length (J2 b k l)):Int)/\ ∃(m:Int) (n:ae),(0<=m/\m<=(ac
 b)/\n=List.foldl rI (qX a.length b f i.toNat) (take m.toNat b))/\toNat ((ac b) -m)<toNat ((ac b) -k)/\f=f/\i=i/\aj (k+1)=m/\d=d/\e=e/\a=a/\b=b/\c=c/\set (J2 b k l) (toNat (ai b k).2.1) (min (l.getD (toNat (ai b k).2.1) default) (aj (l.getD (toNat (ai b k).1) default+1)))=n/\True) (∃(m:Int) (n:ae),(0<=m/\m<=(ac a)/\n=qX a.length b f m.toNat)/\toNat ((ac a) -m)<toNat ((ac a) -i)/\f=f/\aj (i+1)=m/\d=d/\e=e/\a=a/\b=b/\c=c/\l=n/\True)) (j=eU a.length b f/\((a,b,c),d,e)=((a,b,c),d,e))):=by
  delta Ah J2 aj ai ac;rintro ns ls hs l p to-⟨h1,h2,⟨t0,t1⟩,hg⟩;have hn0:toNat (ns.length:Int)=ns.length:=ab;refine⟨ab,ab,ab,⟨0,_,⟨ab,ab,rfl⟩,?_⟩,?_⟩
  ·(repeat refine qI ?_);refine⟨?_,bv⟩;simp
  rintro i d ⟨i0,i1,rfl⟩;have hlen:(replicate i.toNat (1000:Int)++replicate (ns.length-i.toNat) 0).length=ns.length:=by
   simp only[cA,uh];omega
  rw[hlen];refine aw (λhk=>?_) (λhk=>?_)
  .have hk:=aI hk;refine⟨i0,hk,i+1,_,⟨ab,ab,rfl⟩,ab,?_⟩
   (repeat refine qI ?_);refine⟨aG ab ab,?_⟩
   (repeat refine qI ?_);refine⟨?_,bv⟩;exact TG i0 hk
  have hk:=aL hk;have e:i.toNat=ns.length:=ab;rw[e,Nat.sub_self,List.replicate_zero,jx];refine⟨t0,t1,⟨0,_,⟨ab,ab,rfl⟩,?_⟩,?_⟩
  ·(repeat refine qI ?_);exact⟨rfl,bv⟩
  rintro k d ⟨k0,k1,rfl⟩;have dl:=Gz (ns.length) ls to hg;rw[(dl k.toNat).1];refine aw (λhk2=>?_) (λhk2=>?_)
  rotate_left
  .have hk2:=aL hk2;have e:k.toNat=ns.length:=ab;rw[e];exact⟨rfl,rfl⟩
  have hk2:=aI hk2;refine⟨⟨0,_,⟨ab,ab,rfl⟩,?_⟩,?_⟩
  ·(repeat refine qI ?_);exact⟨rfl,bv⟩
  rintro j d ⟨j0,j1,rfl⟩;have fl:=WX hg (dl k.toNat) j.toNat
  refine aw (λhj=>?_) (λhj=>?_)
  rotate_left
  .have hj:=aL hj;refine⟨k+1,_,⟨ab,ab,rfl⟩,ab,?_⟩
   (repeat refine qI ?_);refine⟨aG ab ab,?_⟩
   (repeat refine qI ?_);refine⟨?_,bv⟩;rw[fe ab,show (k+1).toNat=k.toNat+1 by omega];unfold qX;rw[nj,iD];rfl
  have hj:=aI hj;obtain⟨g1,g2,g3,g4⟩:=hg _ (bR j0 hj);generalize hX:List.foldl rI (qX ns.length ls to k.toNat) (ls.take j.toNat)=X at fl;have xa:=fl.2 _ (bR g1 (show _<(X.length:Int) by rw[fl.1];exact g2));have xb:=fl.2 _ (bR g3 (show _<(X.length:Int) by rw[fl.1];exact g4));simp only[gC];rw[fl.1];refine⟨j0,hj,g1,g2,g3,g4,g3,g4,g1,g2,g1,g2,g3,g4,j+1,_,⟨ab,ab,rfl⟩,ab,?_⟩
  (repeat refine jp ?_);refine⟨?_,bv⟩;rw[aG ab ab,aG ab ab,vx j0 hj,iD,hX];rfl
theorem aH9:aB 130 MZ.spec:=aF Tryz.func130 aC TY Yl
def YO:Ct:=⟨[.val (.sl dh),.agg m8],[.val .bool],λd=>[okL d.1],λd=>((m7 d.1 d.2.1,()),())⟩
theorem V3 :
 ∀(a:List aN)(b c:Int),(a.length<=maxLen/\ ∀(d:aN),d∈a->((0<=d.1.1/\d.1.1<=4294967295)/\aq d.1.2)/\(d.2.1.length<=maxLen/\ ∀(e:Int),e∈d.2.1->aq e)/\aq d.2.2)/\((0<=b/\b<=4294967295)/\aq c)/\True->((ac a)<=134217728/\ ∀(d:Rt),d∈a->(ac d.2.1)<=1099511627776)->okL a/\m7 a (b,c)=m7 a (b,c):=by
  delta ac;rintro l a n-h;exact⟨h,rfl⟩
theorem TW:aB 131 YO.spec:=aF Tryz.func131 (av aC Qj) aT V3
def aG2:Ct:=⟨[.box 83 jW],[.val cP],λd=>[aS d.1],λd=>((IntKind.u32.wrap (167837696+(ax d.1 40).1),()),((ax d.1 40).2,()))⟩
theorem SA :
 ∀(a:ae)(b:Int),((a.length<=maxLen/\ ∀(c:Int),c∈a->0<=c/\c<=255)/\aq b)/\True->0<=b/\b<=(ac a)->aS (a,b)/\IntKind.wrap .u32 (aj ((167837696:Int)+(ax (a,b) (40:Int)).1))=IntKind.wrap .u32 ((167837696:Int)+(ax (a,b) (40:Int)).1)/\(ax (a,b) (40:Int)).2=(ax (a,b) (40:Int)).2:=by
  delta aj ac;rintro l p ⟨⟨⟨hl,hw⟩,-⟩,-⟩ hc;have hok:cT (l,p):=⟨hc,hw⟩
  have r2:=fu hok (n:=40) ab;refine⟨hc,?_,rfl⟩;rw[aG (n:=167837696+_) ab ab]
theorem ak0:aB 133 aG2.spec:=aF Tryz.func133 (av aC xo) aT SA
def oY(d:ae)(to:Int)(p:d9)(plain:Bool)(k way:Int)(ns:List au)(l:aK)(e:Int):List au :=
 if e=0 then ns else if e=1 then sc d to p plain k way ns (lA l) (lB l) else sc d to p plain k way (sc d to p plain k way ns (lA l) (lB l)) (lB l) (lA l)
structure preR (s:bu):Prop where
 c:aS s.2
 n:(s.1.1.length:Int)<=1000
 l:(s.1.2.1.length:Int)<=1000
 g:iQ s.1.1.length s.1.2.1
 r:∀ x∈s.1.1,aU x=[]
 a:((i5 s.1.1).length:Int)<=100000
theorem aA5{ns:List au}{i:Nat}(hi:i<ns.length):(ay (ns.getD i default)).length<=(i5 ns).length:=by
 have hx:ns.getD i default∈ns:=by
  have:=bR (xs:=ns) (i:=(i:Nat)) ab ab;simpa using this
 unfold i5
 generalize ns.getD i default=x at hx ⊢
 obtain⟨u,v,e⟩:=List.append_of_mem hx
 rw[e];simp only[List.flatMap_append,List.flatMap_cons,cA,mq];omega
theorem RI.pre{ls:List aK}{ns0 ns:List au}(h:RI ls (i5 ns0) ns0 ns)(ha:((i5 ns0).length:Int)<=100000)(hl:(ls.length:Int)<=1000){u:Int}(u0:0<=u)(u1:u<ns0.length) :
  inN ns u/\cJ (aU (ns.getD u.toNat default))/\okL (aU (ns.getD u.toNat default))∧∀ r∈aU (ns.getD u.toNat default),(r.2.1.length:Int)<=1000:=by
 have t:=h.t u.toNat ab
 have tl:=G5 t
 have rl:∀ r∈aU (ns.getD u.toNat default),(r.2.1.length:Int)<=1000:=λr hr=>by have:=Fl (t.2 r hr);omega
 refine⟨⟨u0,by rw[h.n];exact u1⟩,t.1,⟨ab,λr hr=>?_⟩,rl⟩
 have:=rl r hr;omega
def LY:Ct:=⟨[.box 142 yZ,.val .bool],[],λd=>[preR d.1],λd=>((),(A7 d.1 d.2.1,()))⟩
def TL:bw LY.ps->ce:=(λd=>{loops:=(bp 1 (λS=>{ι:=Int×(List au)×aX,qn:=sf,μ:=λi=>(d.1.1.1.length-i.1).toNat,inv:=λi=>0<=i.1/\i.1<=d.1.1.1.length/\(i.2.1,i.2.2)=(range i.1.toNat).foldl (stepT d.1.1.2.1 d.2.1) (d.1.1.1,d.1.2),keep:=[0,1],slots:=λi=>[(4,.int .i64 i.1)],names:=λi=>[(1048576,.live (.cells 142 [.own 524288 16,.own 524289 6,.own 524290 7,.ptr 1048577 0])),(524288,.live (.row 92 bU i.2.1)),(524289,.live (.row 86 fU d.1.1.2.1)),(524290,.live (.row 153 fh d.1.1.2.2)),(1048577,.live (.cells 83 (dU jW i.2.2)))]}) (bp 9 (λS=>{ι:=Int×(List au),qn:=ft,μ:=λi=>((S.l tA 7).length-i.1).toNat,inv:=λi=>0<=i.1/\i.1<=(S.l tA 7).length/\i.2=((S.l tA 7).take i.1.toNat).foldl (stepP d.1.1.2.1 (eU d.1.1.1.length d.1.1.2.1 (S.i 4)) (S.i 4) d.2.1 (S.i 6)) (S.r bU 449),keep:=[0,1,4,5,6,7],slots:=λi=>[(8,.int .i64 i.1)],keepN:=[448,1048577],names:=λi=>[(1048576,.live (.cells 142 [.own 524288 16,.own 524289 6,.own 524290 7,.ptr 1048577 0])),(524288,.live (.row 92 bU i.2)),(524289,.live (.row 86 fU d.1.1.2.1)),(524290,.live (.row 153 fh d.1.1.2.2))]}) (bp 13 (λS=>{ι:=Int×(List au),qn:=ft,μ:=λi=>(d.1.1.2.1.length-i.1).toNat,inv:=λi=>0<=i.1/\i.1<=d.1.1.2.1.length/\i.2=(range i.1.toNat).foldl (stepK d.1.1.2.1 (eU d.1.1.1.length d.1.1.2.1 (S.i 4)) (S.i 4) (S.c m8 160) d.2.1 (S.i 6)) (S.r bU 524288),keep:=[0,1,4,5,6,7,8,9],slots:=λi=>[(10,.int .i64 i.1)],keepN:=[160,448,1048577],names:=λi=>[(1048576,.live (.cells 142 [.own 524288 16,.own 524289 6,.own 524290 7,.ptr 1048577 0])),(524288,.live (.row 92 bU i.2)),(524289,.live (.row 86 fU d.1.1.2.1)),(524290,.live (.row 153 fh d.1.1.2.2))]}) (bp 18 (λS=>{ι:=Int×(List au),qn:=ft,μ:=λi=>(2-i.1).toNat,inv:=λi=>0<=i.1/\i.1<=2/\i.2=oY (eU d.1.1.1.length d.1.1.2.1 (S.i 4)) (S.i 4) (S.c m8 160) d.2.1 (S.i 10) (S.i 6) (S.r bU 524288) (S.c fU 192) i.1,keep:=[0,1,4,5,6,7,8,9,10,11,12],slots:=λi=>[(13,.int .i64 i.1)],keepN:=[160,192,448,1504,1048577],names:=λi=>[(1048576,.live (.cells 142 [.own 524288 16,.own 524289 6,.own 524290 7,.ptr 1048577 0])),(524288,.live (.row 92 bU i.2)),(524289,.live (.row 86 fU d.1.1.2.1)),(524290,.live (.row 153 fh d.1.1.2.2))]}) cC)))),cuts:=(bp 7 (λS=>{ι:=Int×aX,qn:=ft,inv:=λi=>(i.1,i.2)=oB ((range (S.i 4).toNat).foldl (stepT d.1.1.2.1 d.2.1) (d.1.1.1,d.1.2)).2,keep:=[0,1,4,5],slots:=λi=>[(6,.int .i64 i.1)],keepN:=[448,1048576,449,450,451],names:=λi=>[(1048577,.live (.cells 83 (dU jW i.2)))]}) cC)})
def sG(b:List aK)(n:Int) :=
 ((ai b n).1,(ai b n).2.1)
def rN(b:List aK)(n:Int) :=
 ((ai b n).2.1,(ai b n).1)
def lV(b:List aK)(n p:Int) :=
 getD [(sG b n),(rN b n)] p.toNat default
def pc(g:Int)(h:List au)(l:Int) :=
 getD (ai h g).1 l.toNat default
def wh(g:Int)(h:List au) :=
 ((length (ai h g).1):Int)
def rZ(g:Int)(h:List au)(l:Int) :=
 ((pc g h l).1,(32:Int))
def yN(i:aX) :=
 ax (ax i 3).2 (3:Int)
theorem aw7 :
 ∀(a:List au)(b:List aK)(c:List aV)(d:ae)(e:Int)(f:Bool),(Ah a b c d e)/\True/\True->preR ((a,b,c),d,e)->(∃(g:Int) (h:List au),∃(i:aX),(0<=g/\g<=(ac a)/\(h,i)=List.foldl (stepT b f) (a,d,e) (range g.toNat))/\f=f/\0=g/\a=h/\b=b/\c=c/\d=i.1/\e=i.2/\True)/\ ∀(g:Int)(h:List au)(i:aX),0<=g/\g<=(ac a)/\(h,i)=List.foldl (stepT b f) (a,d,e) (range g.toNat)->ao (decide (g<(ac h))) ((ac h)<=1000/\(ac b)<=1000/\inN h g/\iQ h.length b/\aS i/\(∀(j:Bool),j=decide (aj ((1:Int)+(ax i 3).1)=3)->(ah j)/\(ah j)/\(ah j)/\ao j ((ar j)/\aS (ax i 3).2/\(ar j)/\ao (bif j then decide (0<(yN i).1) else false) (∃(k:Int) (l:aX),(k,l)=oB (List.foldl (stepT b f) (a,d,e) (range g.toNat)).2/\f=f/\g=g/\1=k/\eU h.length b g=eU h.length b g/\h=h/\b=b/\c=c/\(yN i).2.1=l.1/\(yN i).2.2=l.2/\True) (∃(k:Int) (l:aX),(k,l)=oB
 (List.foldl (stepT b f) (a,d,e) (range g.toNat)).2/\f=f/\g=g/\aj ((1:Int)+(ax i 3).1)=k/\eU h.length b g=eU h.length b g/\h=h/\b=b/\c=c/\(yN i).2.1=l.1/\(yN i).2.2=l.2/\True)) (j=false/\(j->false=true)/\ao (bif j then false else false) (∃(k:Int) (l:aX),(k,l)=oB (List.foldl (stepT b f) (a,d,e) (range g.toNat)).2/\f=f/\g=g/\1=k/\eU h.length b g=eU h.length b g/\h=h/\b=b/\c=c/\(ax i 3).2.1=l.1/\(ax i 3).2.2=l.2/\True) (∃(k:Int) (l:aX),(k,l)=oB (List.foldl (stepT b f) (a,d,e) (range g.toNat)).2/\f=f/\g=g/\aj ((1:Int)+(ax i 3).1)=k/\eU h.length b g=eU h.length b g/\h=h/\b=b/\c=c/\(ax i 3).2.1=l.1/\(ax i 3).2.2=l.2/\True)))/\ ∀(j:Int)(k:aX),(j,k)=oB (List.foldl (stepT b f) (a,d,e) (range g.toNat)).2->0<=g/\g<(ac h)/\(∃(l:Int) (m:List au),(0<=l/\l<=(wh g h)/\m=List.foldl (stepP b (eU a.length b g) g f j) h
 (take l.toNat (ai h g).1))/\f=f/\g=g/\j=j/\(ai h g).1=(ai h g).1/\0=l/\eU h.length b g=eU h.length b g/\k.1=k.1/\k.2=k.2/\h=m/\b=b/\c=c/\True)/\ ∀(l:Int)(m:List au),0<=l/\l<=(wh g h)/\m=List.foldl (stepP b (eU a.length b g) g f j) h (take l.toNat (ai h g).1)->ao (decide (l<(wh g h))) (0<=l/\l<(wh g h)/\(∃(n:Int) (o:List au),(0<=n/\n<=(ac b)/\o=List.foldl (stepK b (eU a.length b g) g (rZ g h l) f j) m (range n.toNat))/\f=f/\g=g/\j=j/\(ai h g).1=(ai h g).1/\l=l/\0=n/\(pc g h l).1=(pc g h l).1/\(32:Int)=32/\eU h.length b g=eU h.length b g/\k.1=k.1/\k.2=k.2/\m=o/\b=b/\c=c/\True)/\ ∀(n:Int)(o:List au),0<=n/\n<=(ac b)/\o=List.foldl (stepK b (eU a.length b g) g (rZ g h l) f j) m (range n.toNat)->ao (decide (n<(ac b))) (0<=n/\n<(ac b)/\(∃(p:Int) (q:List au),(0<=p/\p<=2/\q=oY (eU a.length b g) g (rZ g h l)
 f n j o (ai b n) p)/\f=f/\g=g/\j=j/\(ai h g).1=(ai h g).1/\l=l/\n=n/\0=p/\(pc g h l).1=(pc g h l).1/\(32:Int)=32/\(ai b n).1=(ai b n).1/\(ai b n).2.1=(ai b n).2.1/\(ai b n).2.2.1=(ai b n).2.2.1/\(ai b n).2.2.2.1=(ai b n).2.2.2.1/\(ai b n).2.2.2.2.1=(ai b n).2.2.2.2.1/\(ai b n).2.2.2.2.2=(ai b n).2.2.2.2.2/\eU h.length b g=eU h.length b g/\[(sG b n),(rN b n)]=[(sG b n),(rN b n)]/\k.1=k.1/\k.2=k.2/\o=q/\b=b/\c=c/\True)/\ ∀(p:Int)(q:List au),0<=p/\p<=2/\q=oY (eU a.length b g) g (rZ g h l) f n j o (ai b n) p->ao (decide (p<2)) (0<=p/\p<((length [(sG b n),(rN b n)]):Int)/\0<=(lV b n p).1/\(lV b n p).1<((length (eU h.length b g)):Int)/\0<=(lV b n p).2/\(lV b n p).2<((length (eU h.length b g)):Int)/\ ∀(r:Bool),r= ! decide (getD (eU h.length b g) (toNat (lV b n p).1) default=aj (getD (eU
 h.length b g) (toNat (lV b n p).2) default+1))->(ah (! r))/\((! r)->(ar (! r))/\(ar (! r))/\True)/\(ah (! r))/\ ∀(s:Bool),s= ! decide ((lV b n p).2=g)->(ah (! r&&s))/\(ah (! r&&s))/\(ah (! r&&s))/\(ah (! r&&s))/\(ah (! r&&s))/\((! r&&s)->(ar (! r&&s))/\(ar (! r&&s))/\0<=(lV b n p).2/\(lV b n p).2<(ac q)/\True)/\(ah (! r&&s))/\(ah (! r&&s))/\((! r)->(ar (! r))/\(s->(! r&&s))/\True)/\(aE r)/\ao (bif r then true else bif s then (q.getD (toNat (lV b n p).2) default).2.2.2.1 else false) (∃(t:Int) (u:List au),(0<=t/\t<=2/\u=oY (eU a.length b g) g (rZ g h l) f n j o (ai b n) t)/\toNat ((2:Int) -t)<toNat ((2:Int) -p)/\f=f/\g=g/\j=j/\(ai h g).1=(ai h g).1/\l=l/\n=n/\aj (p+1)=t/\(pc g h l).1=(pc g h l).1/\(32:Int)=32/\(ai b n).1=(ai b n).1/\(ai b n).2.1=(ai b n).2.1/\(ai b n).2.2.1=(ai b n).2.2.1/\(ai b n).2.2.2.1=(ai b
 n).2.2.2.1/\(ai b n).2.2.2.2.1=(ai b n).2.2.2.2.1/\(ai b n).2.2.2.2.2=(ai b n).2.2.2.2.2/\eU h.length b g=eU h.length b g/\[(sG b n),(rN b n)]=[(sG b n),(rN b n)]/\k.1=k.1/\k.2=k.2/\q=u/\b=b/\c=c/\True) (∀(t:Bool),t=f->(ah t)/\(ah t)/\(ah t)/\(ah t)/\(ah t)/\(t->(ar t)/\(ar t)/\0<=(lV b n p).1/\(lV b n p).1<(ac q)/\True)/\(ah t)/\(ah t)/\(t->(ar t)/\(ar t)/\okL (q.getD (toNat (lV b n p).1) default).2.2.2.2.1/\True)/\(ar t)/\ao (bif t then m7 (q.getD (toNat (lV b n p).1) default).2.2.2.2.1 (rZ g h l) else false) (∃(u:Int) (v:List au),(0<=u/\u<=2/\v=oY (eU a.length b g) g (rZ g h l) f n j o (ai b n) u)/\toNat ((2:Int) -u)<toNat ((2:Int) -p)/\f=f/\g=g/\j=j/\(ai h g).1=(ai h g).1/\l=l/\n=n/\aj (p+1)=u/\(pc g h l).1=(pc g h l).1/\(32:Int)=32/\(ai b n).1=(ai b n).1/\(ai b n).2.1=(ai b n).2.1/\(ai b
 n).2.2.1=(ai b n).2.2.1/\(ai b n).2.2.2.1=(ai b n).2.2.2.1/\(ai b n).2.2.2.2.1=(ai b n).2.2.2.2.1/\(ai b n).2.2.2.2.2=(ai b n).2.2.2.2.2/\eU h.length b g=eU h.length b g/\[(sG b n),(rN b n)]=[(sG b n),(rN b n)]/\k.1=k.1/\k.2=k.2/\q=v/\b=b/\c=c/\True) (inN q (lV b n p).1/\cJ (aU (q.getD (toNat (lV b n p).1) default))/\okL (aU (q.getD (toNat (lV b n p).1) default))/\(∀(u:aN),u∈aU (q.getD (toNat (lV b n p).1) default)->(ac u.2.1)<=1000)/\ ∃(u:Int) (v:List au),(0<=u/\u<=2/\v=oY (eU a.length b g) g (rZ g h l) f n j o (ai b n) u)/\toNat ((2:Int) -u)<toNat ((2:Int) -p)/\f=f/\g=g/\j=j/\(ai h g).1=(ai h g).1/\l=l/\n=n/\aj (p+1)=u/\(pc g h l).1=(pc g h l).1/\(32:Int)=32/\(ai b n).1=(ai b n).1/\(ai b n).2.1=(ai b n).2.1/\(ai b n).2.2.1=(ai b n).2.2.1/\(ai b n).2.2.2.1=(ai b n).2.2.2.1/\(ai b
 n).2.2.2.2.1=(ai b n).2.2.2.2.1/\(ai b n).2.2.2.2.2=(ai b n).2.2.2.2.2/\eU h.length b g=eU h.length b g/\[(sG b n),(rN b n)]=[(sG b n),(rN b n)]/\k.1=k.1/\k.2=k.2/\sO q (lV b n p).1 (rZ g h l) n j=v/\b=b/\c=c/\True))) (∃(r:Int) (s:List au),(0<=r/\r<=(ac b)/\s=List.foldl (stepK b (eU a.length b g) g (rZ g h l) f j) m (range r.toNat))/\toNat ((ac b) -r)<toNat ((ac b) -n)/\f=f/\g=g/\j=j/\(ai h g).1=(ai h g).1/\l=l/\aj (n+1)=r/\(pc g h l).1=(pc g h l).1/\(32:Int)=32/\eU h.length b g=eU h.length b g/\k.1=k.1/\k.2=k.2/\q=s/\b=b/\c=c/\True)) (∃(p:Int) (q:List au),(0<=p/\p<=(wh g h)/\q=List.foldl (stepP b (eU a.length b g) g f j) h (take p.toNat (ai h g).1))/\toNat ((wh g h) -p)<toNat ((wh g h) -l)/\f=f/\g=g/\j=j/\(ai h g).1=(ai h g).1/\aj (l+1)=p/\eU h.length b g=eU h.length b
 g/\k.1=k.1/\k.2=k.2/\o=q/\b=b/\c=c/\True)) (∃(n:Int) (o:List au),∃(p:aX),(0<=n/\n<=(ac a)/\(o,p)=List.foldl (stepT b f) (a,d,e) (range n.toNat))/\toNat ((ac a) -n)<toNat ((ac a) -g)/\f=f/\aj (g+1)=n/\m=o/\b=b/\c=c/\k.1=p.1/\k.2=p.2/\True)) (((h,b,c),i)=A7 ((a,b,c),d,e) f):=by
  delta lV pc Ah sG rN wh rZ yN ah ar aE aj ai ac;rintro ns0 ls hs l p plain ⟨⟨-,⟨hl,hw⟩,-⟩,-⟩⟨hc,h1,h2,hg,hr,ha⟩;dsimp only at hc h1 h2 hg hr ha;have hB:cT (l,p):=⟨hc,hw⟩
  have base:∀ n,n<=ns0.length->RI ls (i5 ns0) ns0 ((range n).foldl (stepT ls plain) (ns0,(l,p))).1/\cT ((range n).foldl (stepT ls plain) (ns0,(l,p))).2:=λn hn=>RI.stepTs (ns0:=ns0) (s:=(ns0,(l,p))) ⟨RI.start hr,hB⟩ hg hn;refine⟨⟨0,ns0,(l,p),⟨ab,ab,rfl⟩,aP⟩,?_⟩;rintro to ns cs ⟨t0,t1,hF⟩;obtain⟨R,hcs⟩:=base to.toNat ab;have e1:=(jn Prod.fst hF).symm;have e2:=(jn Prod.snd hF).symm;dsimp only at e1 e2;rw[e1] at R;rw[e2] at hcs ⊢;have hn:=R.n;simp only[hn];refine aw (λht=>?_) (λht=>?_)
  rotate_left
  .have ht:=aL ht;have e:to.toNat=ns0.length:=ab;rw[e] at e1 e2;unfold A7;dsimp only;rw[e1,e2]
  have ht:=aI ht;have v3:=fu hcs (n:=3) ab;have k1:=(dq hcs 3).1;have k2:=(dq k1 3).1;refine⟨h1,h2,⟨t0,by rw[hn];exact ht⟩,hg,hcs.at',?_,?_⟩
  .rw[aG (n:=1+_) ab ab]
   (repeat (refine bX ?_;repeat refine bZ ?_));refine aw (λkb=>?_) (λkb=>?_)
   .simp only[kb,cond_true];have kb:=aI kb;refine⟨λh=>h,k1.at',λh=>h,bT (λkc=>?_) (λkc=>?_)⟩
    .refine⟨1,_,?_,aP⟩;rw[oB,am kb,am kc]
    .refine⟨_,_,?_,aP⟩;rw[oB,am kb,af kc,kb]
   .simp only[kb,oR];have kb:=aL kb;refine⟨bv,λh=>h,?_⟩;rw[uM];refine⟨_,_,?_,aP⟩;rw[oB,af kb]
  rintro way cs' hW;have hw3:=OE hcs;rw[← hW] at hw3;obtain⟨hcs',w0,w1⟩:=hw3;dsimp only at hcs' w0 w1;have hD:sa ns0.length (eU ns0.length ls to):=Gz ns0.length ls to hg _;generalize eD:eU ns0.length ls to=D at hD ⊢;have hP:∀ q∈(ns.getD to.toNat default).1,q.1∈i5 ns0:=λq hq=>by
   have:ay (ns.getD to.toNat default)=ay (ns0.getD to.toNat default):=R.ports ab;refine KS (i:=to.toNat) ab (q:=q) ?_;rw[← this];exact hq
  have hPl:((ns.getD to.toNat default).1.length:Int)<=100000:=by
   have:ay (ns.getD to.toNat default)=ay (ns0.getD to.toNat default):=R.ports ab;have e:(ns.getD to.toNat default).1=ay (ns0.getD to.toNat default):=this;rw[e];have:=aA5 (ns:=ns0) (i:=to.toNat) ab;omega
  generalize eP:(ns.getD to.toNat default).1=P at hP hPl ⊢;refine⟨t0,ht,⟨0,ns,⟨ab,ab,rfl⟩,aP⟩,?_⟩;rintro i ns1 ⟨i0,i1,hn1⟩;have R1:RI ls (i5 ns0) ns0 ns1:=by
   rw[hn1];exact R.stepPs hg w0 w1 λq hq=>hP q (oP hq)
  refine aw (λhi=>?_) (λhi=>?_)
  rotate_left
  .have hi:=aL hi;refine⟨to+1,ns1,cs',⟨ab,ab,?_⟩,ab,aP⟩;rw[show (to+1).toNat=to.toNat+1 by omega,nj,iD,← hF,List.foldl_cons,List.foldl_nil,stepT];dsimp only;rw[← hW,hn,show ((to.toNat:Nat):Int)=to by omega,eD,hn1,fe ab,← eP];rfl
  have hi:=aI hi;have hq:=hP _ (bR i0 hi);generalize eq:(P.getD i.toNat default).1=q at hq ⊢;refine⟨i0,hi,⟨0,ns1,⟨ab,ab,rfl⟩,aP⟩,?_⟩;rintro k ns2 ⟨k0,kl,hn2⟩;have R2:RI ls (i5 ns0) ns0 ns2:=by
   rw[hn2];exact R1.stepKs (p:=(q,32)) hg rfl hq w0 w1 ab
  refine aw (λhk=>?_) (λhk=>?_)
  rotate_left
  .have hk:=aL hk;refine⟨i+1,ns2,⟨ab,ab,?_⟩,ab,aP⟩;rw[vx i0 hi,iD,← hn1,List.foldl_cons,List.foldl_nil,stepP,hn2,eq,show k.toNat=ls.length by omega]
  have hk:=aI hk;have hh:=hg.at' (k:=k.toNat) ab;have la:=Ok (ls:=ls) (k:=k.toNat) ab;have lb:=NW (ls:=ls) (k:=k.toNat) ab;rw[show ((k.toNat:Nat):Int)=k by omega] at la lb;refine⟨k0,hk,⟨0,ns2,⟨ab,ab,rfl⟩,aP⟩,?_⟩;rintro e ns3 ⟨e0,el,hn3⟩;refine aw (λhe=>?_) (λhe=>?_)
  rotate_left
  .have he:=aL he;have he:e=2:=ab;subst he;refine⟨k+1,ns3,⟨ab,ab,?_⟩,ab,aP⟩;rw[show (k+1).toNat=k.toNat+1 by omega,nj,iD,← hn2,List.foldl_cons,List.foldl_nil,stepK,hn3,oY,af ab,af ab,show ((k.toNat:Nat):Int)=k by omega]
  have he:=aI he;obtain⟨u,v,hL,hS,hu,hv,hk',R3⟩:∃ u v,([((ls.getD k.toNat default).1,(ls.getD k.toNat default).2.1),((ls.getD k.toNat default).2.1,(ls.getD k.toNat default).1)]:List (Int×Int)).getD e.toNat default=(u,v) ∧
    oY D to (q,32) plain k way ns2 (ls.getD k.toNat default) (e+1)=sc D to (q,32) plain k way ns3 u v/\(0<=u/\u<ns0.length)/\(0<=v/\v<ns0.length)/\lnk ls u k/\RI ls (i5 ns0) ns0 ns3:=by
   rcases (show e=0∨e=1 by omega) with rfl|rfl
   .refine⟨_,_,rfl,?_,hh.1,hh.2,la,?_⟩
    .rw[hn3,oY,oY,af ab,am ab,am rfl];rfl
    .rw[hn3,oY,am rfl];exact R2
   .refine⟨_,_,rfl,?_,hh.2,hh.1,lb,?_⟩
    .rw[hn3,oY,oY,af ab,af ab,af ab,am rfl];rfl
    .rw[hn3,oY,af ab,am rfl];exact R2.step (p:=(q,32)) hh.1.1 hh.1.2 rfl hq la w0 w1
  have hn3':=R3.n;simp only[hL,hn3',hD.1];have dv:=hD.2 _ (bR hv.1 (show v<D.length by rw[hD.1];exact hv.2));rw[aG (n:=D.getD v.toNat default+1) ab ab];have pr:=R3.pre ha h2 hu.1 hu.2;refine⟨e0,by simp only[dN,List.length_nil];omega,hu.1,hu.2,hv.1,hv.2,?_⟩;intro b hb;refine⟨aA,aA,aA,?_⟩;intro b1 hb1;refine⟨aA,aA,aA,aA,aA,λh=>⟨λ_=>h,λ_=>h,hv.1,hv.2,bv⟩,aA,aA,λh=>⟨λ_=>h,λh1=>by simp only[h,h1];rfl,bv⟩,λh=>by rw[h];rfl,?_⟩;refine rX (λho=>?_) (λho1 ho2=>?_)
  .refine⟨e+1,ns3,⟨ab,ab,?_⟩,ab,aP⟩;rw[hS,sc,am];rcases ho with ho|ho
   .rw[hb] at ho;exact .inl (gH ho)
   .rcases b1 with _|_
    .cases ho
    .exact .inr ⟨gH hb1.symm,ho⟩
  have hN:¬ (D.getD u.toNat default≠D.getD v.toNat default+1∨(v≠to/\iG (ns3.getD v.toNat default)=true)):=by
   rw[hb] at ho1;rintro (h|⟨h,h'⟩)
   .exact h (iP ho1)
   .rw[hb1,dP h] at ho2;rw[show iG (ns3.getD v.toNat default)=(ns3.getD v.toNat default).2.2.2.1 from rfl] at h';rw[h'] at ho2;cases ho2
  intro b2 hb2;subst hb2;refine⟨aA,aA,aA,aA,aA,λh=>⟨λ_=>h,λ_=>h,hu.1,hu.2,bv⟩,aA,aA,λh=>⟨λ_=>h,λ_=>h,pr.2.2.1,bv⟩,λh=>h,?_⟩;refine u5 (λha1 ha2=>?_) (λhna=>?_)
  .refine⟨e+1,ns3,⟨ab,ab,?_⟩,ab,aP⟩;rw[hS,sc,af hN,am ⟨ha1,ha2⟩]
  .refine⟨pr.1,pr.2.1,pr.2.2.1,pr.2.2.2,e+1,_,⟨ab,ab,?_⟩,ab,aP⟩;rw[hS,sc,af hN,af];rintro⟨x1,x2⟩;rcases hna with h|h
   .rw[h] at x1;cases x1
   .rw[show aU (ns3.getD u.toNat default)=(ns3.getD u.toNat default).2.2.2.2.1 from rfl,h] at x2;cases x2
theorem ZQ:aB 63 LY.spec:=aF Tryz.func63 (av (av (av (av aC aH9) xo) TW) aE1) TL aw7
structure preO (s:bu):Prop where
 c:aS s.2
 n0:0<s.1.1.length
 n:(s.1.1.length:Int)<=1000
 l:(s.1.2.1.length:Int)<=1000
 g:iQ s.1.1.length s.1.2.1
 h:s.1.2.2=[]
 a:((i5 s.1.1).length:Int)<=100000
 p:∀ x∈s.1.1,aU x≠[]->0<(ay x).length/\(ay x).length<=1000/\(aU x).length<=100000
def oN(s:bu)(i:Int):List au×aX:=(range i.toNat).foldl xP (s.1.1,s.2)
def oL(s:bu)(i:Int):(List au×List aK)×aX:=(range i.toNat).foldl uk (((oN s s.1.1.length).1,s.1.2.1),(oN s s.1.1.length).2)
def oC(s:bu)(i:Nat):List aV×Int×aX:=(range i).foldl (λc _=>pU (oL s s.1.2.1.length).1.1 c) ([],0,(ax (oL s s.1.2.1.length).2 4).2)
def oK(s:bu):Int:=(ax (oL s s.1.2.1.length).2 4).1
structure AG (ns0 ns:List au):Prop where
 n:ns.length=ns0.length
 e:∀ i:Nat,i<ns0.length->ay (ns.getD i default)=ay (ns0.getD i default)/\aU (ns.getD i default)=aU (ns0.getD i default)
theorem AG.set{ns0 ns:List au}(h:AG ns0 ns){i:Nat}(hi:i<ns0.length){x:au}(hx:ay x=ay (ns.getD i default)/\aU x=aU (ns.getD i default)):AG ns0 (ns.set i x):=by
 refine⟨by rw[gC];exact h.n,λj hj=>?_⟩
 by_cases e:i=j
 .subst e;rw[kv (by rw[h.n];exact hi)];exact⟨hx.1.trans (h.e _ hj).1,hx.2.trans (h.e _ hj).2⟩
 .rw[nt e];exact h.e _ hj
theorem UX(x:au)(i:Int)(c:aX):ay (iw x i c).1=ay x/\aU (iw x i c).1=aU x:=by
 unfold iw
 dsimp only
 repeat' split
 all_goals exact⟨rfl,rfl⟩
theorem Ko{x:au}{i:Int}{c:aX}(h:cT c):cT (iw x i c).2:=by
 unfold iw
 dsimp only
 repeat' split
 all_goals first|exact (dq h _).1|exact (dq (dq h _).1 _).1|exact (dq (dq (dq h _).1 _).1 _).1
theorem X1(x:au)(i:Int)(c:aX):ay (xO x i c).1=ay x/\aU (xO x i c).1=aU x:=UX x i c
theorem Te{x:au}{i:Int}{c:aX}(h:cT c):cT (xO x i c).2:=by
 have k:=Ko (x:=x) (i:=i) h
 exact (dq (dq (dq k _).1 _).1 _).1
theorem Gt(s:bu)(h:cT s.2){i:Int}(hi:i<=s.1.1.length):AG s.1.1 (oN s i).1/\cT (oN s i).2:=by
 refine yK (λc:List au×aX=>AG s.1.1 c.1/\cT c.2) _ ⟨⟨rfl,λ_ _=>⟨rfl,rfl⟩⟩,h⟩ λk hk c hc=>?_
 have hk:=List.mem_range.1 hk
 exact⟨hc.1.set ab (X1 _ _ _),Te hc.2⟩
theorem Mh(s:bu){i:Int}(h0:0<=i):oN s (i+1)=xP (oN s i) i.toNat:=by
 unfold oN
 rw[show (i+1).toNat=i.toNat+1 by omega,nj,iD];rfl
theorem Nv(l:aK)(c:aX):lA (odLink l c).1=lA l/\lB (odLink l c).1=lB l:=by
 unfold odLink
 dsimp only
 repeat' split
 all_goals exact⟨rfl,rfl⟩
theorem aB1{l:aK}{c:aX}(h:cT c):cT (odLink l c).2:=by
 unfold odLink
 dsimp only
 repeat' split
 all_goals first|exact (dq h _).1|exact (dq (dq h _).1 _).1
theorem iQ.set{n:Nat}{ls:List aK}(h:iQ n ls){x:aK}(hx:0<=x.1/\x.1<n/\0<=x.2.1/\x.2.1<n)(i:Nat):iQ n (ls.set i x):=λy hy=>by
 rcases AW hy with hy|rfl
 .exact h y hy
 .exact hx
theorem iQ.odLink{n:Nat}{ls:List aK}(h:iQ n ls){i:Nat}(hi:i<ls.length)(c:aX):iQ n (ls.set i (odLink (ls.getD i default) c).1):=by
 have k:=Nv (ls.getD i default) c
 have g:=h.at' hi
 refine h.set ?_ i
 show 0<=lA _/\lA _<_/\0<=lB _/\lB _<_
 rw[k.1,k.2]
 exact⟨g.1.1,g.1.2,g.2.1,g.2.2⟩
theorem YK{ns0 ns:List au}(h:AG ns0 ns){l:aK}(hl:0<=lB l/\lB l<ns0.length):AG ns0 (sy ns l):=by
 unfold sy
 split
 .exact h.set ab ⟨rfl,rfl⟩
 .exact h
theorem ym(s:bu)(h:cT s.2)(hg:iQ s.1.1.length s.1.2.1){i:Int}(hi:i<=s.1.2.1.length) :
  AG s.1.1 (oL s i).1.1/\cT (oL s i).2/\iQ s.1.1.length (oL s i).1.2/\(oL s i).1.2.length=s.1.2.1.length:=by
 have b:=Gt s h (i:=s.1.1.length) ab
 refine yK (λc:(List au×List aK)×aX=>AG s.1.1 c.1.1/\cT c.2/\iQ s.1.1.length c.1.2/\c.1.2.length=s.1.2.1.length) _ ⟨b.1,b.2,hg,rfl⟩ λk hk c hc=>?_
 have hk:=List.mem_range.1 hk
 obtain⟨c1,c2,c3,c4⟩:=hc
 have hk2:k<c.1.2.length:=ab
 have g:=c3.at' hk2
 have e:=Nv (c.1.2.getD k default) c.2
 refine⟨YK c1 ?_,aB1 c2,c3.odLink hk2 _,by simp only[uk,gC];exact c4⟩
 rw[e.2];exact g.2
theorem LL(s:bu){i:Int}(h0:0<=i):oL s (i+1)=uk (oL s i) i.toNat:=by
 unfold oL
 rw[show (i+1).toNat=i.toNat+1 by omega,nj,iD];rfl
theorem IG(s:bu)(i:Nat):oC s (i+1)=pU (oL s s.1.2.1.length).1.1 (oC s i):=by
 unfold oC
 rw[nj,iD];rfl
theorem XH{ns:List au}{s:List aV×Int×aX}(h:cT s.2.2):cT (pU ns s).2.2/\s.2.1<=(pU ns s).2.1/\(pU ns s).2.1<=s.2.1+60/\(pU ns s).1.length<=s.1.length+1:=by
 have a:=fu h (n:=60) ab
 have k1:=(dq h 60).1
 have k2:=(dq k1 ns.length).1
 unfold pU
 dsimp only
 split
 .exact⟨k2,by dsimp only;omega,by dsimp only;omega,by dsimp only;omega⟩
 .exact⟨(dq (dq (dq k2 _).1 _).1 _).1,by dsimp only;omega,by dsimp only;omega,by simp only[cA,dN,List.length_nil];omega⟩
theorem GH(s:bu)(h:cT s.2)(hg:iQ s.1.1.length s.1.2.1):∀ i:Nat,cT (oC s i).2.2/\0<=(oC s i).2.1/\(oC s i).2.1<=60*i/\(oC s i).1.length<=i
 | 0=>⟨(dq (ym s h hg (fZ _)).2.1 4).1,fZ _,fZ _,ir _⟩
 | i+1=>by
  have k:=GH s h hg i;have m:=XH (ns:=(oL s s.1.2.1.length).1.1) k.1;rw[IG];exact⟨m.1,ab,ab,ab⟩
def L4:Ct:=⟨[.box 142 yZ],[],λd=>[preO d.1],λd=>((),(o6 d.1,()))⟩
def X9:bw L4.ps->ce:=(λd=>{loops:=(bp 2 (λS=>{ι:=Int×(List au)×aX,qn:=sf,μ:=λi=>(d.1.1.1.length-i.1).toNat,inv:=λi=>0<=i.1/\i.1<=d.1.1.1.length/\(i.2.1,i.2.2)=oN d.1 i.1,keep:=[0,2],slots:=λi=>[(3,.int .i64 i.1)],keepN:=[1048576,2097153,2097154],names:=λi=>[(2097152,.live (.row 92 bU i.2.1)),(1048577,.live (.cells 83 (dU jW i.2.2)))]}) (bp 20 (λS=>{ι:=Int×(List au)×(List aK)×aX,qn:=QL,μ:=λi=>(d.1.1.2.1.length-i.1).toNat,inv:=λi=>0<=i.1/\i.1<=d.1.1.2.1.length/\((i.2.1,i.2.2.1),i.2.2.2)=oL d.1 i.1,keep:=[0,2],slots:=λi=>[(5,.int .i64 i.1)],keepN:=[1048576,2097154],names:=λi=>[(2097152,.live (.row 92 bU i.2.1)),(2097153,.live (.row 86 fU i.2.2.1)),(1048577,.live (.cells 83 (dU jW i.2.2.2)))]}) (bp 32 (λS=>{ι:=Int×Int×(List aV)×aX,qn:=QL,μ:=λi=>i.1.toNat,inv:=λi=>0<=i.1/\i.1<=oK d.1/\(i.2.2.1,i.2.1,i.2.2.2)=oC d.1 (oK d.1-i.1).toNat,keep:=[0,2],slots:=λi=>[(8,.int .i64 i.1),(7,.int .i64 i.2.1)],keepN:=[2097152,2097153],names:=λi=>[(1048576,.live (.cells 142 [.own 2097152 16,.own 2097153 6,.own 524288 7,.ptr 1048577 0])),(524288,.live (.row 153 fh i.2.2.1)),(1048577,.live (.cells 83 (dU jW i.2.2.2)))]}) cC))),cuts:=(bp 18 (λS=>{ι:=(List au)×aX,qn:=ft,inv:=λi=>i.1=(oN d.1 (S.i 3)).1.set (S.i 3).toNat (iw ((oN d.1 (S.i 3)).1.getD (S.i 3).toNat default) (S.i 3) (oN d.1 (S.i 3)).2).1/\i.2=(iw ((oN d.1 (S.i 3)).1.getD (S.i 3).toNat default) (S.i 3) (oN d.1 (S.i 3)).2).2,keep:=[0,2,3,4],slots:=λi=>[],keepN:=[1048576,2097153,2097154],names:=λi=>[(2097152,.live (.row 92 bU i.1)),(1048577,.live (.cells 83 (dU jW i.2)))]}) (bp 28 (λS=>{ι:=(List aK)×aX,qn:=ft,inv:=λi=>i.1=(oL d.1 (S.i 5)).1.2.set (S.i 5).toNat (odLink ((oL d.1 (S.i 5)).1.2.getD (S.i 5).toNat default) (oL d.1 (S.i 5)).2).1/\i.2=(odLink ((oL d.1 (S.i 5)).1.2.getD (S.i 5).toNat default) (oL d.1 (S.i 5)).2).2,keep:=[0,2,5,6],slots:=λi=>[],keepN:=[1048576,2097152,2097154],names:=λi=>[(2097153,.live (.row 86 fU i.1)),(1048577,.live (.cells 83 (dU jW i.2)))]}) cC))})
def Kw(f:Int)(i:List au)(j:aX) :=
 set i f.toNat ((ai i f).1,(ai i f).2.1,(ai i f).2.2.1,(ai i f).2.2.2.1,(ai i f).2.2.2.2.1,(ai i f).2.2.2.2.2.1,(ai i f).2.2.2.2.2.2.1,(ax j 6).1,(ai i f).2.2.2.2.2.2.2.2)
def tp(f:Int)(i:List au)(j:aX) :=
 getD (Kw f i j) f.toNat default
def Ke(f:Int)(i:List au)(j:aX) :=
 set (Kw f i j) f.toNat ((tp f i j).1,(tp f i j).2.1,(tp f i j).2.2.1,(tp f i j).2.2.2.1,(tp f i j).2.2.2.2.1,(tp f i j).2.2.2.2.2.1,(tp f i j).2.2.2.2.2.2.1,(tp f i j).2.2.2.2.2.2.2.1,(ax (ax j 6).2 (65536:Int)).1,(tp f i j).2.2.2.2.2.2.2.2.2)
def sH(j:List au)(p:aX) :=
 ax (ax p 60).2 (ac j)
def wA(j:List au)(p:aX) :=
 j.getD (toNat (sH j p).1) default
def An(j:List au)(p:aX) :=
 ax (sH j p).2 ((length (wA j p).2.2.2.2.1):Int)
def I2(f:Int)(g:List au)(h:aX) :=
 set g f.toNat ((ai g f).1,(ai g f).2.1,(ai g f).2.2.1,(ai g f).2.2.2.1,(ai g f).2.2.2.2.1,(ai g f).2.2.2.2.2.1,IntKind.wrap .u32 ((167837696:Int)+(ax (ax h 10).2 (40:Int)).1),(ai g f).2.2.2.2.2.2.2)
def ye(a:List au)(b:List aK)(c:List aV)(d:ae)(e f:Int) :=
 iw (getD (oN ((a,b,c),d,e) f).1 f.toNat default) f (oN ((a,b,c),d,e) f).2
def yn(f:Int)(g:List au) :=
 getD (set g f.toNat ((ai g f).1,IntKind.wrap .u32 (aj ((167903232:Int)+f)),(ai g f).2.2)) f.toNat default
def uK(a:List au)(b:List aK)(c:List aV)(d:ae)(e i:Int) :=
 odLink (getD (oL ((a,b,c),d,e) i).1.2 i.toNat default) (oL ((a,b,c),d,e) i).2
def tE(j:List au)(p:aX) :=
 ax (An j p).2 ((length (wA j p).1):Int)
def wM(j:List au)(p:aX) :=
 getD (wA j p).2.2.2.2.1 (toNat (An j p).1) default
def oE(i:Int)(j:List au)(m:List aK) :=
 j.getD (toNat (ai m i).2.1) default
def xN(a:List au)(b:List aK)(c:List aV)(d:ae)(e f:Int)(i:List au)(j:aX) :=
 i=set (oN ((a,b,c),d,e) f).1 f.toNat (ye a b c d e f).1/\j=(ye a b c d e f).2
def sK(f:Int)(i:List au)(j:aX) :=
 getD (Ke f i j) f.toNat default
def Cq(h j:aX) :=
 (ax h 10).2.1=j.1/\(ax h 10).2.2=j.2/\True
def wW(f:Int)(g:List au)(h:aX) :=
 getD (I2 f g h) f.toNat default
def Jm(j:List au)(n:Int)(p:aX) :=
 (aj (n+(ax p 60).1),(sH j p).1,false,(wM j p).1,[(getD (wA j p).1 (toNat (tE j p).1) default).2],(wM j p).2.2)
def DX(j:aX) :=
 ax (ax (ax j 6).2 (65536:Int)).2 (1000:Int)
def Ab(h:aX) :=
 ax (ax h 10).2 (3:Int)
def z8(l:aX) :=
 ax (ax l 6).2 (3:Int)
theorem aw1 :
 ∀(a:List au)(b:List aK)(c:List aV)(d:ae)(e:Int),(((a.length<=maxLen/\ ∀(f:au),f∈a->CT.wf bU f)/\(b.length<=maxLen/\ ∀(f:aK),f∈b->CT.wf fU f)/\c.length<=maxLen/\ ∀(f:aV),f∈c->CT.wf fh f)/\(d.length<=maxLen/\ ∀(f:Int),f∈d->0<=f/\f<=255)/\aq e)/\True->preO ((a,b,c),d,e)->(∃(f:Int) (g:List au),∃(h:aX),(0<=f/\f<=(ac a)/\(g,h)=oN ((a,b,c),d,e) f)/\0=f/\b=b/\c=c/\a=g/\d=h.1/\e=h.2/\True)/\ ∀(f:Int)(g:List au)(h:aX),0<=f/\f<=(ac a)/\(g,h)=oN ((a,b,c),d,e) f->ao (decide (f<(ac g))) (0<=f/\f<(ac g)/\(aS h/\ao (decide ((ax h 10).1=1)) (∃(i:List au) (j:aX),(xN a b c d e f i j)/\f=f/\f.toNat=f.toNat/\b=b/\c=c/\set g f.toNat ((ai g f).1,(ai g f).2.1,(ai g f).2.2.1,(ai g f).2.2.2.1,(ai g f).2.2.2.2.1,(ai g f).2.2.2.2.2.1,(ai g f).2.2.2.2.2.2.1,(ai g f).2.2.2.2.2.2.2.1,(ai g f).2.2.2.2.2.2.2.2.1,(ai g
 f).2.2.2.2.2.2.2.2.2.1,(ai g f).2.2.2.2.2.2.2.2.2.2.1,true,(ai g f).2.2.2.2.2.2.2.2.2.2.2.2)=i/\(Cq h j)) (ao (decide ((ax h 10).1=2)) (aS (ax h 10).2/\aS (Ab h).2/\ ∃(i:List au) (j:aX),(xN a b c d e f i j)/\f=f/\f.toNat=f.toNat/\b=b/\c=c/\set g f.toNat ((ai g f).1,(ai g f).2.1,(ai g f).2.2.1,(ai g f).2.2.2.1,(ai g f).2.2.2.2.1,(ai g f).2.2.2.2.2.1,(ai g f).2.2.2.2.2.2.1,(ai g f).2.2.2.2.2.2.2.1,(ai g f).2.2.2.2.2.2.2.2.1,(ai g f).2.2.2.2.2.2.2.2.2.1,(aj ((1:Int)+(Ab h).1),aj ((1:Int)+(ax (Ab h).2 (200:Int)).1)),(ai g f).2.2.2.2.2.2.2.2.2.2.2)=i/\(ax (Ab h).2 (200:Int)).2.1=j.1/\(ax (Ab h).2 (200:Int)).2.2=j.2/\True) (ao (decide ((ax h 10).1=3)) (∀(i:Bool),i= ! (ai g f).2.2.2.1->(i->(ar i)/\(2:Int)≠(0:Int)/\True)/\(ah i)/\(ar i)/\ ∃(j:List au) (k:aX),(j=set (oN ((a,b,c),d,e) f).1 f.toNat (ye a b c d e
 f).1/\k=(ye a b c d e f).2)/\f=f/\f.toNat=f.toNat/\b=b/\c=c/\set g f.toNat ((ai g f).1,(ai g f).2.1,(ai g f).2.2.1,(ai g f).2.2.2.1,(ai g f).2.2.2.2.1,(ai g f).2.2.2.2.2.1,(ai g f).2.2.2.2.2.2.1,(ai g f).2.2.2.2.2.2.2.1,(ai g f).2.2.2.2.2.2.2.2.1,(ai g f).2.2.2.2.2.2.2.2.2.1,(ai g f).2.2.2.2.2.2.2.2.2.2.1,(ai g f).2.2.2.2.2.2.2.2.2.2.2.1,bif i then decide (Int.tmod f (2:Int)=1) else false,(ai g f).2.2.2.2.2.2.2.2.2.2.2.2.2)=j/\(ax h 10).2.1=k.1/\(ax h 10).2.2=k.2/\True) (ao (decide ((ax h 10).1=4)) (∃(i:List au) (j:aX),(xN a b c d e f i j)/\f=f/\f.toNat=f.toNat/\b=b/\c=c/\set g f.toNat ((ai g f).1,(ai g f).2.1,(ai g f).2.2.1,(ai g f).2.2.2.1,(ai g f).2.2.2.2.1,(2:Int),(ai g f).2.2.2.2.2.2)=i/\(Cq h j)) (ao (decide ((ax h 10).1=5)) (∃(i:List au) (j:aX),(xN a b c d e f i j)/\f=f/\f.toNat=f.toNat/\b=b/\c=c/\set (set g
 f.toNat ((ai g f).1,IntKind.wrap .u32 (aj ((167903232:Int)+f)),(ai g f).2.2)) f.toNat ((yn f g).1,(yn f g).2.1,(yn f g).2.2.1,(yn f g).2.2.2.1,(yn f g).2.2.2.2.1,(3:Int),(yn f g).2.2.2.2.2.2)=i/\(Cq h j)) (ao (decide ((ax h 10).1=6)) (aS (ax h 10).2/\ ∃(i:List au) (j:aX),(xN a b c d e f i j)/\f=f/\f.toNat=f.toNat/\b=b/\c=c/\set (I2 f g h) f.toNat ((wW f g h).1,(wW f g h).2.1,(wW f g h).2.2.1,(wW f g h).2.2.2.1,(wW f g h).2.2.2.2.1,(4:Int),(wW f g h).2.2.2.2.2.2)=i/\(ax (ax h 10).2 (40:Int)).2.1=j.1/\(ax (ax h 10).2 (40:Int)).2.2=j.2/\True) (∃(i:List au) (j:aX),(xN a b c d e f i j)/\f=f/\f.toNat=f.toNat/\b=b/\c=c/\g=i/\(Cq h j))))))))/\ ∀(i:List au)(j:aX),i=set (oN ((a,b,c),d,e) f).1 f.toNat (ye a b c d e f).1/\j=(ye a b c d e f).2->aS j/\aS (ax j 6).2/\aS (ax (ax j 6).2
 (65536:Int)).2/\ ∃(k:Int) (l:List au),∃(m:aX),(0<=k/\k<=(ac a)/\(l,m)=oN ((a,b,c),d,e) k)/\toNat ((ac a) -k)<toNat ((ac a) -f)/\aj (f+1)=k/\b=b/\c=c/\set (Ke f i j) f.toNat ((sK f i j).1,(sK f i j).2.1,(sK f i j).2.2.1,(sK f i j).2.2.2.1,(sK f i j).2.2.2.2.1,(sK f i j).2.2.2.2.2.1,(sK f i j).2.2.2.2.2.2.1,(sK f i j).2.2.2.2.2.2.2.1,(sK f i j).2.2.2.2.2.2.2.2.1,(DX j).1,(sK f i j).2.2.2.2.2.2.2.2.2.2)=l/\(DX j).2.1=m.1/\(DX j).2.2=m.2/\True) ((∃(i:Int) (j:List au),∃(k:List aK) (l:aX),(0<=i/\i<=(ac b)/\((j,k),l)=oL ((a,b,c),d,e) i)/\0=i/\c=c/\g=j/\b=k/\h.1=l.1/\h.2=l.2/\True)/\ ∀(i:Int)(j:List au)(k:List aK)(l:aX),0<=i/\i<=(ac b)/\((j,k),l)=oL ((a,b,c),d,e) i->ao (decide (i<(ac k))) (0<=i/\i<(ac k)/\(aS l/\ao (decide ((ax l 6).1=1)) (aS (ax l 6).2/\ ∃(m:List aK) (n:aX),(m=set (oL
 ((a,b,c),d,e) i).1.2 i.toNat (uK a b c d e i).1/\n=(uK a b c d e i).2)/\i=i/\i.toNat=i.toNat/\j=j/\c=c/\set k i.toNat ((ai k i).1,(ai k i).2.1,(ai k i).2.2.1,(ax (ax l 6).2 (10:Int)).1,(ai k i).2.2.2.2)=m/\(ax (ax l 6).2 (10:Int)).2.1=n.1/\(ax (ax l 6).2 (10:Int)).2.2=n.2/\True) (ao (decide ((ax l 6).1=2)) (aS (ax l 6).2/\0<=(z8 l).1/\(z8 l).1<((length [(65536:Int),(20000:Int),(3:Int)]):Int)/\ ∃(m:List aK) (n:aX),(m=set (oL ((a,b,c),d,e) i).1.2 i.toNat (uK a b c d e i).1/\n=(uK a b c d e i).2)/\i=i/\i.toNat=i.toNat/\j=j/\c=c/\set k i.toNat ((ai k i).1,(ai k i).2.1,(ai k i).2.2.1,(ai k i).2.2.2.1,getD [(65536:Int),(20000:Int),(3:Int)] (toNat (z8 l).1) default,(ai k i).2.2.2.2.2)=m/\(z8 l).2.1=n.1/\(z8 l).2.2=n.2/\True) (∃(m:List aK) (n:aX),(m=set (oL ((a,b,c),d,e) i).1.2 i.toNat
 (uK a b c d e i).1/\n=(uK a b c d e i).2)/\i=i/\i.toNat=i.toNat/\j=j/\c=c/\k=m/\(ax l 6).2.1=n.1/\(ax l 6).2.2=n.2/\True)))/\ ∀(m:List aK)(n:aX),m=set (oL ((a,b,c),d,e) i).1.2 i.toNat (uK a b c d e i).1/\n=(uK a b c d e i).2->0<=(ai m i).1/\(ai m i).1<(ac j)/\ ∀(o:Bool),o=(j.getD (toNat (ai m i).1) default).2.2.2.2.2.2.2.2.2.2.2.2.1->(ah o)/\(ah o)/\(ah o)/\(ah o)/\(ah o)/\(ah o)/\(ah o)/\(o->(ar o)/\(ar o)/\0<=(ai m i).2.1/\(ai m i).2.1<(ac j)/\True)/\(ah o)/\(ah o)/\(ar o)/\ao (bif o then (oE i j m).2.2.2.2.2.2.2.2.2.2.2.2.1 else false) (0<=(ai m i).2.1/\(ai m i).2.1<(ac j)/\ ∃(p:Int) (q:List au),∃(r:List aK) (s:aX),(0<=p/\p<=(ac b)/\((q,r),s)=oL ((a,b,c),d,e) p)/\toNat ((ac b) -p)<toNat ((ac b) -i)/\aj (i+1)=p/\c=c/\set j (toNat (ai m i).2.1) ((oE i j m).1,(oE i j m).2.1,(oE i j
 m).2.2.1,(oE i j m).2.2.2.1,(oE i j m).2.2.2.2.1,(oE i j m).2.2.2.2.2.1,(oE i j m).2.2.2.2.2.2.1,(oE i j m).2.2.2.2.2.2.2.1,(oE i j m).2.2.2.2.2.2.2.2.1,(oE i j m).2.2.2.2.2.2.2.2.2.1,(oE i j m).2.2.2.2.2.2.2.2.2.2.1,(oE i j m).2.2.2.2.2.2.2.2.2.2.2.1,false,(oE i j m).2.2.2.2.2.2.2.2.2.2.2.2.2)=q/\m=r/\n.1=s.1/\n.2=s.2/\True) (∃(p:Int) (q:List au),∃(r:List aK) (s:aX),(0<=p/\p<=(ac b)/\((q,r),s)=oL ((a,b,c),d,e) p)/\toNat ((ac b) -p)<toNat ((ac b) -i)/\aj (i+1)=p/\c=c/\j=q/\m=r/\n.1=s.1/\n.2=s.2/\True)) (aS l/\(∃(m:Int) (n:Int),∃(o:List aV) (p:aX),(0<=m/\m<=oK ((a,b,c),d,e)/\(o,n,p)=oC ((a,b,c),d,e) (toNat (oK ((a,b,c),d,e) -m)))/\0=n/\(ax l 4).1=m/\j=j/\k=k/\c=o/\(ax l 4).2.1=p.1/\(ax l 4).2.2=p.2/\True)/\ ∀(m n:Int)(o:List aV)(p:aX),0<=m/\m<=oK ((a,b,c),d,e)/\(o,n,p)=oC ((a,b,c),d,e) (toNat (oK
 ((a,b,c),d,e) -m))->ao (decide (0<m)) (aS p/\aS (ax p 60).2/\0<=(sH j p).1/\(sH j p).1<(ac j)/\ao (decide (((length (wA j p).2.2.2.2.1):Int)=0)) (∃(q:Int) (r:Int),∃(s:List aV) (t:aX),(0<=q/\q<=oK ((a,b,c),d,e)/\(s,r,t)=oC ((a,b,c),d,e) (toNat (oK ((a,b,c),d,e) -q)))/\q.toNat<m.toNat/\aj (n+(ax p 60).1)=r/\aj (m -1)=q/\j=j/\k=k/\o=s/\(sH j p).2.1=t.1/\(sH j p).2.2=t.2/\True) (aS (sH j p).2/\0<=(An j p).1/\(An j p).1<((length (wA j p).2.2.2.2.1):Int)/\aS (An j p).2/\0<=(tE j p).1/\(tE j p).1<((length (wA j p).1):Int)/\aS (tE j p).2/\ao (decide ((ax (tE j p).2 (4:Int)).1=3)) ((o.length+length [(aj (n+(ax p 60).1),(sH j p).1,false,(wM j p).1,([]:ae),(wM j p).2.2)])*(72:Nat)<=(o9)/\ ∃(q:Int) (r:Int),∃(s:List aV) (t:aX),(0<=q/\q<=oK ((a,b,c),d,e)/\(s,r,t)=oC ((a,b,c),d,e)
 (toNat (oK ((a,b,c),d,e) -q)))/\q.toNat<m.toNat/\aj (n+(ax p 60).1)=r/\aj (m -1)=q/\j=j/\k=k/\o++[(aj (n+(ax p 60).1),(sH j p).1,false,(wM j p).1,([]:ae),(wM j p).2.2)]=s/\(ax (tE j p).2 (4:Int)).2.1=t.1/\(ax (tE j p).2 (4:Int)).2.2=t.2/\True) ((o.length+length [(Jm j n p)])*(72:Nat)<=(o9)/\ ∃(q:Int) (r:Int),∃(s:List aV) (t:aX),(0<=q/\q<=oK ((a,b,c),d,e)/\(s,r,t)=oC ((a,b,c),d,e) (toNat (oK ((a,b,c),d,e) -q)))/\q.toNat<m.toNat/\aj (n+(ax p 60).1)=r/\aj (m -1)=q/\j=j/\k=k/\o++[(Jm j n p)]=s/\(ax (tE j p).2 (4:Int)).2.1=t.1/\(ax (tE j p).2 (4:Int)).2.2=t.2/\True))) (((j,k,o),p)=o6 ((a,b,c),d,e)))):=by
  delta Ke An tp I2 wA ye yn uK tE wM oE xN sK sH Kw o9 Cq wW Jm DX Ab z8 ah ar aj ai ac;rintro ns0 ls0 hs0 l p ⟨⟨⟨hnl,hnw⟩,⟨hl,hw⟩,-⟩,-⟩⟨hc,n0,h1,h2,hg,hh,ha,hp⟩;dsimp only at hc n0 h1 h2 hg hh ha hp;subst hh;have hB:cT (l,p):=⟨hc,hw⟩
  generalize eS:(((ns0,ls0,[]),l,p):bu)=Z;have z1:Z.1.1=ns0:=by rw[← eS]
  have z2:Z.1.2.1=ls0:=by rw[← eS]
  have z3:Z.2=(l,p):=by rw[← eS]
  have zB:cT Z.2:=by rw[z3];exact hB
  have zG:iQ Z.1.1.length Z.1.2.1:=by rw[z1,z2];exact hg
  refine⟨⟨0,ns0,(l,p),⟨ab,ab,by rw[← eS];rfl⟩,aP⟩,?_⟩;rintro i ns cs ⟨i0,il,hF⟩;obtain⟨A1,hcs⟩:=Gt Z zB (i:=i) (by rw[z1];exact il);rw[← hF] at A1 hcs;dsimp only at A1 hcs;rw[← hF];dsimp only;have hn:=A1.n;rw[z1] at hn;refine aw (λhi=>?_) (λhi=>?_)
  .have hi:=aI hi;have hi':i.toNat<ns.length:=ab;have k10:=(dq hcs 10).1;refine⟨i0,hi,⟨hcs.at',?_⟩,?_⟩
   .simp only[List.set_set,kv hi'];refine aw (λc=>?_) (λc1=>?_)
    .have c:=aI c;refine⟨_,_,⟨?_,?_⟩,aP⟩
     .rw[iw,am c];rfl
     .rw[iw,am c]
    have c1:=aL c1;refine aw (λc=>?_) (λc2=>?_)
    .have c:=aI c;have k3:=fu k10 (n:=3) ab;have k11:=(dq k10 3).1;have k4:=fu k11 (n:=200) ab;refine⟨k10.at',k11.at',_,_,⟨?_,?_⟩,aP⟩
     .rw[iw,af c1,am c,aG (n:=1+_) ab ab,aG (n:=1+_) ab ab];rfl
     .rw[iw,af c1,am c]
    have c2:=aL c2;refine aw (λc=>?_) (λc3=>?_)
    .have c:=aI c;intro b hb;refine⟨aA,aA,aA,_,_,⟨?_,?_⟩,aP⟩
     .have eb:(bif b then decide (i%2=1) else false)=(!iG (ns.getD i.toNat default)&&decide (i%2=1)):=by
       rw[show b = !iG (ns.getD i.toNat default) from hb];cases iG (ns.getD i.toNat default) <;> rfl
      rw[iw,af c1,af c2,am c,Gi i0,eb];rfl
     .rw[iw,af c1,af c2,am c]
    have c3:=aL c3;refine aw (λc=>?_) (λc4=>?_)
    .have c:=aI c;refine⟨_,_,⟨?_,?_⟩,aP⟩
     .rw[iw,af c1,af c2,af c3,am c];rfl
     .rw[iw,af c1,af c2,af c3,am c]
    have c4:=aL c4;refine aw (λc=>?_) (λc5=>?_)
    .have c:=aI c;refine⟨_,_,⟨?_,?_⟩,aP⟩
     .rw[iw,af c1,af c2,af c3,af c4,am c,aG (n:=167903232+i) ab ab,qy (n:=167903232+i) ab ab];rfl
     .rw[iw,af c1,af c2,af c3,af c4,am c]
    have c5:=aL c5;refine aw (λc=>?_) (λc6=>?_)
    .have c:=aI c;have k4:=fu k10 (n:=40) ab;refine⟨k10.at',_,_,⟨?_,?_⟩,aP⟩
     .rw[iw,af c1,af c2,af c3,af c4,af c5,am c,qy (n:=167837696+_) ab ab];rfl
     .rw[iw,af c1,af c2,af c3,af c4,af c5,am c]
    have c6:=aL c6;refine⟨ns,_,⟨?_,?_⟩,aP⟩
    .rw[iw,af c1,af c2,af c3,af c4,af c5,af c6];exact (r7 i0 hi).symm
    .rw[iw,af c1,af c2,af c3,af c4,af c5,af c6]
   .rintro nsx csx ⟨hx1,hx2⟩;have kc:=Ko (x:=ns.getD i.toNat default) (i:=i) hcs;rw[← hx2] at kc;have ka:=(dq kc 6).1;have kb:=(dq ka 65536).1;have hxl:i.toNat<nsx.length:=by rw[hx1,gC];exact hi'
    simp only[List.set_set,kv hxl];refine⟨kc.at',ka.at',kb.at',i+1,_,_,⟨ab,ab,?_⟩,ab,aP⟩;rw[Mh Z i0,← hF];unfold xP xO;dsimp only;rw[show ((i.toNat:Nat):Int)=i by omega,← hx2,hx1,kv hi',List.set_set];rfl
  have hi:=aL hi;have e:i=Z.1.1.length:=by rw[z1];omega
  subst e;refine⟨⟨0,ns,ls0,cs,⟨ab,ab,?_⟩,aP⟩,?_⟩
  .unfold oL;rw[← hF,z2];rfl
  clear hF A1 hcs hn hi i0 il;rintro i ns ls cs ⟨i0,il,hF⟩;obtain⟨A1,hcs,lg,ll⟩:=ym Z zB zG (i:=i) (by rw[z2];exact il);rw[← hF] at A1 hcs lg ll;dsimp only at A1 hcs lg ll;rw[← hF];dsimp only;have hn:=A1.n;rw[z1] at hn lg;rw[z2] at ll;refine aw (λhi=>?_) (λhi=>?_)
  .have hi:=aI hi;have hi':i.toNat<ls.length:=ab;have k6:=(dq hcs 6).1;refine⟨i0,hi,⟨hcs.at',?_⟩,?_⟩
   .refine aw (λc=>?_) (λc1=>?_)
    .have c:=aI c;refine⟨k6.at',_,_,⟨?_,?_⟩,aP⟩
     .rw[odLink,am c]
     .rw[odLink,am c]
    have c1:=aL c1;refine aw (λc=>?_) (λc2=>?_)
    .have c:=aI c;have k3:=fu k6 (n:=3) ab;refine⟨k6.at',k3.1,k3.2,_,_,⟨?_,?_⟩,aP⟩
     .rw[odLink,af c1,am c]
     .rw[odLink,af c1,am c]
    have c2:=aL c2;refine⟨ls,_,⟨?_,?_⟩,aP⟩
    .rw[odLink,af c1,af c2];exact (r7 i0 hi).symm
    .rw[odLink,af c1,af c2]
   .rintro lsx csx ⟨hx1,hx2⟩;have lgx:=lg.odLink hi' cs;rw[← hx1] at lgx;have lxl:i.toNat<lsx.length:=by rw[hx1,gC];exact hi'
    have g:=lgx.at' lxl;have e1:(odLink (ls.getD i.toNat default) cs).1=lsx.getD i.toNat default:=by rw[hx1,kv hi']
    have nx:((sy ns (lsx.getD i.toNat default),lsx),csx)=oL Z (i+1):=by
     rw[LL Z i0,← hF];unfold uk;dsimp only;rw[← hx1,← hx2,e1]
    unfold sy at nx;refine⟨g.1.1,by rw[hn];exact g.1.2,?_⟩;intro b hb;refine⟨aA,aA,aA,aA,aA,aA,aA,λh=>⟨λ_=>h,λ_=>h,g.2.1,by rw[hn];exact g.2.2,bv⟩,aA,aA,λh=>h,?_⟩;refine u5 (λha1 ha2=>?_) (λhna=>?_)
    .refine⟨g.2.1,by rw[hn];exact g.2.2,i+1,_,_,_,⟨ab,ab,?_⟩,ab,aP⟩;rw[← nx,am ⟨hb.symm.trans ha1,ha2⟩];rfl
    .refine⟨i+1,_,_,_,⟨ab,ab,?_⟩,ab,aP⟩;rw[← nx,af];rintro⟨x1,x2⟩;rcases hna with h|h
     .rw[hb] at h;rw[show dI (ns.getD (lA (lsx.getD i.toNat default)).toNat default)=(ns.getD (lsx.getD i.toNat default).1.toNat default).2.2.2.2.2.2.2.2.2.2.2.2.1 from rfl,h] at x1;cases x1
     .rw[show dI (ns.getD (lB (lsx.getD i.toNat default)).toNat default)=(ns.getD (lsx.getD i.toNat default).2.1.toNat default).2.2.2.2.2.2.2.2.2.2.2.2.1 from rfl,h] at x2;cases x2
  have hi:=aL hi;have e:i=Z.1.2.1.length:=by rw[z2];omega
  subst e;have k4:=fu hcs (n:=4) ab;have eK:oK Z=(ax cs 4).1:=by unfold oK;rw[← hF]
  refine⟨hcs.at',⟨_,0,[],(ax cs 4).2,⟨k4.1,by rw[eK];exact fZ _,?_⟩,aP⟩,?_⟩
  .rw[eK,Int.sub_self];unfold oC;rw[← hF];rfl
  clear i0 il hi;rintro k a hs cs2 ⟨k0,kl,hC⟩;have cok:=GH Z zB zG (oK Z-k).toNat
  rw[← hC] at cok;dsimp only at cok;obtain⟨ok2,a0,al,hsl⟩:=cok;rw[eK] at kl al hsl;refine aw (λhk=>?_) (λhk=>?_)
  rotate_left
  .have hk:=aL hk;have e:k=0:=ab;subst e;rw[Int.sub_zero] at hC;have:o6 Z=(((oL Z Z.1.2.1.length).1.1,(oL Z Z.1.2.1.length).1.2,(oC Z (oK Z).toNat).1),(oC Z (oK Z).toNat).2.2):=by
    unfold o6 oC oK oL oN;rfl
   rw[this,← hC,← hF]
  have hk:=aI hk;have q1:=fu ok2 (n:=60) ab;have b1:=(dq ok2 60).1;have q2:=fu b1 (n:=(ns.length:Int)) ab;have b2:=(dq b1 (ns.length:Int)).1;have en:oC Z (oK Z-(k-1)).toNat=pU ns (hs,a,cs2):=by
   rw[show (oK Z-(k-1)).toNat=(oK Z-k).toNat+1 by omega,IG,← hC,← hF]
  unfold pU at en;dsimp only at en;generalize eW:(ax (ax cs2 60).2 (ns.length:Int))=W at q2 b2 en ⊢;generalize eX:ns.getD W.1.toNat default=X at en ⊢;have hX:ay X=ay (ns0.getD W.1.toNat default)/\aU X=aU (ns0.getD W.1.toNat default):=by
   have:=A1.e W.1.toNat (by rw[z1];omega)
   rw[z1,eX] at this;exact this
  have hM:ns0.getD W.1.toNat default∈ns0:=bR q2.1 ab;rw[aG (n:=a+_) ab ab,aG (n:=k-1) ab ab];refine⟨ok2.at',b1.at',q2.1,q2.2,?_⟩;refine aw (λhr=>?_) (λhr=>?_)
  .have hr:((aU X).length:Int)=0:=aI hr;refine⟨k-1,_,_,_,⟨ab,ab,?_⟩,ab,aP⟩;rw[en,am (show (aU X).length=0 from by omega)]
  have hr:=aL hr;have hr':¬ (aU X).length=0:=λe=>hr (by rw[show X.2.2.2.2.1=aU X from rfl,e];rfl);have hpp:=hp _ hM (by rw[← hX.2];exact λe=>hr' (by rw[e];rfl));rw[← hX.1,← hX.2] at hpp;have q3:=fu b2 (n:=((aU X).length:Int)) ab;have b3:=(dq b2 ((aU X).length:Int)).1;have q4:=fu b3 (n:=((ay X).length:Int)) ab;have b4:=(dq b3 ((ay X).length:Int)).1;rw[af hr'] at en;refine⟨b2.at',q3.1,q3.2,b3.at',q4.1,q4.2,b4.at',?_⟩;refine bT (λhz=>?_) (λhz=>?_)
  .have hz:(ax (ax (ax W.2 ((aU X).length:Int)).2 ((ay X).length:Int)).2 4).1=3:=hz;refine⟨by simp only[dN,List.length_nil];omega,k-1,_,_,_,⟨ab,ab,?_⟩,ab,aP⟩;rw[en,am hz];rfl
  .have hz:¬ (ax (ax (ax W.2 ((aU X).length:Int)).2 ((ay X).length:Int)).2 4).1=3:=hz;refine⟨by simp only[dN,List.length_nil];omega,k-1,_,_,_,⟨ab,ab,?_⟩,ab,aP⟩;rw[en,af hz];rfl
theorem Uh:aB 64 L4.spec:=aF Tryz.func64 (av (av aC xo) ak0) X9 aw1
theorem GI.small{s:bu}{nn nl:Nat}(h:GI s nn nl)(hn:nn<=100)(hl:nl<=100):qG s :=
 ⟨h.c.at',by rw[h.n];omega,by rw[h.l];omega,by rw[h.h];decide,λx hx=>by have:=h.plen x hx;omega⟩
theorem GI.inN{s:bu}{nn nl:Nat}(h:GI s nn nl){a:Int}(h0:0<=a)(h1:a<nn):inN s.1.1 a:=⟨h0,by rw[h.n];exact h1⟩
theorem GI.preR{s:bu}{nn nl:Nat}(h:GI s nn nl)(hn:nn<=100)(hl:nl<=100):preR s:=by
 refine⟨h.c.at',by rw[h.n];omega,by rw[h.l];omega,h.ends,h.routes,?_⟩
 have:=DU h.plen
 rw[h.n] at this
 have:=Nat.mul_le_mul hn (show 2*nl<=200 by omega)
 omega
structure RS (s:bu) (nn nl:Nat) (r:bu):Prop where
 g:GI s nn nl
 i:RI s.1.2.1 (i5 s.1.1) s.1.1 r.1.1
 c:cT r.2
 l:r.1.2=s.1.2
theorem GI.rs{s:bu}{nn nl:Nat}(h:GI s nn nl)(plain:Bool):RS s nn nl (A7 s plain):=by
 have:=RI.stepTs (ns0:=s.1.1) (ls:=s.1.2.1) (s:=(s.1.1,s.2)) ⟨RI.start h.routes,h.c⟩ h.ends (plain:=plain) (ir _)
 exact⟨h,this.1,this.2,rfl⟩
theorem RS.ports{s r:bu}{nn nl:Nat}(h:RS s nn nl r){i:Nat}(hi:i<nn):ay (r.1.1.getD i default)=portsF i 0 s.1.2.1 :=
 (h.i.ports (by rw[h.g.n];exact hi)).trans (h.g.p i hi)
theorem RS.mem{s r:bu}{nn nl:Nat}(h:RS s nn nl r){x:au}(hx:x∈r.1.1):∃ i,i<nn/\r.1.1.getD i default=x:=by
 obtain⟨i,hi,e⟩:=List.mem_iff_getElem.1 hx
 exact⟨i,by have:=h.i.n;have:=h.g.n;omega,by rw[bJ,cK hi,e];rfl⟩
theorem RS.tab{s r:bu}{nn nl:Nat}(h:RS s nn nl r){i:Nat}(hi:i<nn):nE s.1.2.1 (i5 s.1.1) i (aU (r.1.1.getD i default)):=h.i.t i (by rw[h.g.n];exact hi)
theorem RS.preO{s r:bu}{nn nl:Nat}(h:RS s nn nl r)(hn:nn<=100)(hl:nl<=100)(h0:0<nn):preO r:=by
 have pl:∀ x∈r.1.1,x.1.length<=2*nl:=λx hx=>by
  obtain⟨i,hi,rfl⟩:=h.mem hx;have:=BE i 0 s.1.2.1;rw[← h.ports hi,h.g.l] at this;exact this
 have rn:r.1.1.length=nn:=h.i.n.trans h.g.n
 have al:=DU h.g.plen
 rw[h.g.n] at al
 have al2:=Nat.mul_le_mul hn (show 2*nl<=200 by omega)
 refine⟨h.c.at',ab,ab,?_,?_,?_,?_,λx hx hr=>?_⟩
 .rw[h.l,h.g.l];omega
 .have:=h.g.ends;rw[h.l,rn,← h.g.n];exact this
 .rw[h.l];exact h.g.h
 .have:=DU pl;rw[rn] at this;omega
 .have hp:=pl x hx;obtain⟨i,hi,rfl⟩:=h.mem hx;have t:=h.tab hi;have tl:=G5 t;refine⟨?_,by have:(ay (r.1.1.getD i default)).length<=2*nl:=hp;omega,ab⟩;obtain⟨y,ys,e⟩:=List.exists_cons_of_ne_nil hr;have ty:=t.2 y (by rw[e];exact fY);obtain⟨k,ks,ek⟩:=List.exists_cons_of_ne_nil ty.ne;obtain⟨k0,k1,kk⟩:=ty.ln k (by rw[ek];exact fY);rw[h.ports hi];rcases kk with kk|kk
  .exact List.length_pos_of_mem (A0.2 ⟨k.toNat,ab,.inl ⟨kk,rfl⟩⟩)
  .exact List.length_pos_of_mem (A0.2 ⟨k.toNat,ab,.inr ⟨kk,rfl⟩⟩)
def zY(plain:Bool)(c:aX):bu:=zt plain (nZ c).1 (nZ c).2
def kN(c:aX):Int:=(ax (nZ c).2.2 4).1
def pG(plain:Bool)(c:aX)(k:Int):bu:=qS plain (bW c) (nZ c).2 (kN c-k).toNat
theorem Sp(l m:List au):(List.brecOn.go (motive:=λ(x:List au)=>List au->List au) l List.append._f).1 m=l++m:=by kernel_rfl
theorem aq1{plain:Bool}{c:aX}{k:Int}(k0:0<k)(k1:k<=kN c)(h1:1<bW c)(h2:plain=false):pG plain c (k-1)=tw (bW c) (pG plain c k):=by
 unfold pG qS
 rw[am ⟨h1,h2⟩,am ⟨h1,h2⟩,show (kN c-(k-1)).toNat=(kN c-k).toNat+1 by omega,nj,iD];rfl
theorem WV{plain:Bool}{c:aX}{k:Int}(h:k=0∨¬ (1<bW c/\plain=false)):pG plain c k=qS plain (bW c) (nZ c).2 (ax (nZ c).2.2 4).1.toNat:=by
 rcases h with h|h
 .subst h;unfold pG kN;rw[Int.sub_zero]
 .unfold pG qS;rw[af h,af h]
theorem WQ{c:aX}(h:cT c)(plain:Bool)(k:Int)(k0:0<=k):∃ m,m<=9/\GI (pG plain c k) ((bW c).toNat+2) m:=by
 have hn:=vz h
 have hl:=Ey h
 have h4:=fu hl.c (n:=4) ab
 obtain⟨m,m0,m1,hm⟩:=MC hl (plain:=plain) (n:=bW c) hn.1 ab (kN c-k).toNat
 unfold kN at m1
 exact⟨m,ab,hm⟩
def LZ:Ct:=⟨[.box 83 jW,.val .bool],[.agg ib],λd=>[aS d.1],λd=>((jj d.2.1 d.1,()),(yk d.2.1 d.1,()))⟩
def W0:bw LZ.ps->ce:=(λd=>{loops:=(bp 6 (λS=>{ι:=Int×bu,qn:=ft,μ:=λi=>(bW d.1-i.1).toNat,inv:=λi=>0<=i.1/\i.1<=bW d.1/\i.2=(range i.1.toNat).foldl rH (vS d.1),keep:=[0,1,4,5],slots:=λi=>[(7,.int .i64 (bW d.1)),(9,.int .i64 i.1),(8,.int .i64 i.1)],keepN:=[80],names:=λi=>[(288,.live (.cells 142 [.own 524288 16,.own 524289 6,.own 524290 7,.ptr 1048576 0])),(524288,.live (.row 92 bU i.2.1.1)),(524289,.live (.row 86 fU i.2.1.2.1)),(524290,.live (.row 153 fh i.2.1.2.2)),(1048576,.live (.cells 83 (dU jW i.2.2)))]}) (bp 14 (λS=>{ι:=Int×bu,qn:=ft,μ:=λi=>i.1.toNat,inv:=λi=>0<=i.1/\i.1<=kN d.1/\i.2=pG d.2.1 d.1 i.1,keep:=[0,1,4,5],slots:=λi=>[(7,.int .i64 (bW d.1)),(12,.int .i64 i.1)],keepN:=[80],names:=λi=>[(288,.live (.cells 142 [.own 524288 16,.own 524289 6,.own 524290 7,.ptr 1048576 0])),(524288,.live (.row 92 bU i.2.1.1)),(524289,.live (.row 86 fU i.2.1.2.1)),(524290,.live (.row 153 fh i.2.1.2.2)),(1048576,.live (.cells 83 (dU jW i.2.2)))]}) cC)),cuts:=(bp 21 (λS=>{ι:=bu,inv:=λi=>i=zY d.2.1 d.1,keep:=[0,1,4,5],slots:=λi=>[],keepN:=[80],names:=λi=>[(288,.live (.cells 142 [.own 524288 16,.own 524289 6,.own 524290 7,.ptr 1048576 0])),(524288,.live (.row 92 bU i.1.1)),(524289,.live (.row 86 fU i.1.2.1)),(524290,.live (.row 153 fh i.1.2.2)),(1048576,.live (.cells 83 (dU jW i.2)))]}) cC)})
def u6(c:Bool)(j:bu) :=
 List.foldl (stepT j.1.2.1 c) (j.1.1,j.2) (range j.1.1.length)
def yU(c:Bool)(j:bu) :=
 List.foldl uk (((List.foldl xP (u6 c j) (range (length (u6 c j).1))).1,j.1.2.1),(List.foldl xP (u6 c j) (range (length (u6 c j).1))).2) (range j.1.2.1.length)
def Ci(e:bu) :=
 getD [(64:Int),(255:Int),(128:Int)] (toNat (ax e.2 3).1) default
def tJ(e:bu) :=
 ax (ax e.2 3).2 (256:Int)
def ry(a:ae)(b:Int)(g:bu) :=
 ax (ax g.2 (bW (a,b))).2 (bW (a,b))
def u3(e:bu) :=
 ax (ax (tJ e).2 (20:Int)).2 (256:Int)
def uE(a:ae)(b:Int)(g:bu) :=
 ax (ax g.2 2).2 (aj (bW (a,b) -1))
def J3(c:Bool)(j:bu) :=
 List.foldl (λ(k:List aV×Int×aX) (l:Nat)=>pU (yU c j).1.1 k) (([]:List aV),(0:Int),(ax (yU c j).2 (4:Int)).2) (range (toNat (ax (yU c j).2 (4:Int)).1))
def uw(a:ae)(b:Int)(g:bu) :=
 ax g.2 (aj (bW (a,b) -1))
def zz(a:ae)(b:Int) :=
 ax (ax (a,b) (3:Int)).2 (256:Int)
def DH(e:bu) :=
 e.1.1++[sk (ac e.1.1) false (Ci e) (tJ e).1]
def Fo(e:bu) :=
 e.1.1++[sk (ac e.1.1) true (Ci e) (tJ e).1]
theorem Vq :
 ∀(a:ae)(b:Int)(c:Bool),((a.length<=maxLen/\ ∀(d:Int),d∈a->0<=d/\d<=255)/\aq b)/\True/\True->0<=b/\b<=(ac a)->qG ((([]:List au),([]:List aK),([]:List aV)),a,b)/\aS (zz a b).2/\(∃(d:Int) (e:bu),(0<=d/\d<=bW (a,b)/\e=List.foldl rH (vS (a,b)) (range d.toNat))/\c=c/\aj ((1:Int)+(ax (zz a b).2 (5:Int)).1)=bW (a,b)/\(↑(0:Nat):Int)=d/\0=d/\[sk (↑(0:Nat):Int) true (getD [(64:Int),(255:Int),(128:Int)] (toNat (ax (a,b) (3:Int)).1) default) (zz a b).1]=e.1.1/\([]:List aK)=e.1.2.1/\([]:List aV)=e.1.2.2/\(ax (zz a b).2 (5:Int)).2.1=e.2.1/\(ax (zz a b).2 (5:Int)).2.2=e.2.2/\True)/\ ∀(d:Int)(e:bu),0<=d/\d<=bW (a,b)/\e=List.foldl rH (vS (a,b)) (range d.toNat)->ao (decide (d<bW (a,b))) (qG e/\qG (((List.brecOn.go (motive:=λ(f:List au)=>List au->List au) e.1.1 List.append._f).1
 [sk (ac e.1.1) false (Ci e) (tJ e).1],e.1.2),(tJ e).2)/\inN (DH e) d/\inN (DH e) (ac e.1.1)/\ ∃(f:Int) (g:bu),(0<=f/\f<=bW (a,b)/\g=List.foldl rH (vS (a,b)) (range f.toNat))/\toNat (bW (a,b) -f)<toNat (bW (a,b) -d)/\c=c/\bW (a,b)=bW (a,b)/\(ac e.1.1)=f/\aj (d+1)=f/\kA (kA (DH e) d (gv (ac e.1.2.1)+1,(ac e.1.2.1))) (ac e.1.1) (gv (ac e.1.2.1)+2,(ac e.1.2.1))=g.1.1/\e.1.2.1++[(d,(ac e.1.1),(1:Int)+(ax (tJ e).2 (20:Int)).1,(0:Int),(0:Int),(u3 e).1)]=g.1.2.1/\e.1.2.2=g.1.2.2/\(u3 e).2.1=g.2.1/\(u3 e).2.2=g.2.2/\True) (qG e/\qG (((List.brecOn.go (motive:=λ(f:List au)=>List au->List au) e.1.1 List.append._f).1 [sk (ac e.1.1) true (Ci e) (tJ e).1],e.1.2),(tJ e).2)/\inN (Fo e) d/\inN (Fo e) (ac e.1.1)/\aS (u3 e).2/\(∃(f:Int) (g:bu),(0<=f/\f<=kN
 (a,b)/\g=pG c (a,b) f)/\c=c/\bW (a,b)=bW (a,b)/\(ax (u3 e).2 (4:Int)).1=f/\kA (kA (Fo e) d (gv (ac e.1.2.1)+1,(ac e.1.2.1))) (ac e.1.1) (gv (ac e.1.2.1)+2,(ac e.1.2.1))=g.1.1/\e.1.2.1++[(d,(ac e.1.1),(1:Int)+(ax (tJ e).2 (20:Int)).1,(0:Int),(0:Int),(u3 e).1)]=g.1.2.1/\e.1.2.2=g.1.2.2/\(ax (u3 e).2 (4:Int)).2.1=g.2.1/\(ax (u3 e).2 (4:Int)).2.2=g.2.2/\True)/\ ∀(f:Int)(g:bu),0<=f/\f<=kN (a,b)/\g=pG c (a,b) f-> ∀(h:Bool),h=decide (0<f)->(ah h)/\(ar h)/\ ∀(i:Bool),(i=bif h then decide (1<bW (a,b)) else false)->(ah i)/\(ar i)/\ao (bif i then ! c else false) (aS g.2/\aS (ax g.2 (bW (a,b))).2/\ao (! decide (aj ((1:Int)+(ax g.2 (bW (a,b))).1)=aj ((1:Int)+(ry a b g).1))) (qG (g.1,(ry a b g).2)/\inN g.1.1 (aj ((1:Int)+(ax g.2 (bW (a,b))).1))/\inN g.1.1 (aj ((1:Int)+(ry a b g).1))/\
 ∃(j:Int) (k:bu),(0<=j/\j<=kN (a,b)/\k=pG c (a,b) j)/\j.toNat<f.toNat/\c=c/\bW (a,b)=bW (a,b)/\aj (f -1)=j/\kA (kA g.1.1 (aj ((1:Int)+(ax g.2 (bW (a,b))).1)) (gv (ac g.1.2.1)+1,(ac g.1.2.1))) (aj ((1:Int)+(ry a b g).1)) (gv (ac g.1.2.1)+2,(ac g.1.2.1))=k.1.1/\g.1.2.1++[(aj ((1:Int)+(ax g.2 (bW (a,b))).1),aj ((1:Int)+(ry a b g).1),(1:Int)+(ax (ry a b g).2 (20:Int)).1,(0:Int),(0:Int),(ax (ax (ry a b g).2 (20:Int)).2 (256:Int)).1)]=k.1.2.1/\g.1.2.2=k.1.2.2/\(ax (ax (ry a b g).2 (20:Int)).2 (256:Int)).2.1=k.2.1/\(ax (ax (ry a b g).2 (20:Int)).2 (256:Int)).2.2=k.2.2/\True) (∃(j:Int) (k:bu),(0<=j/\j<=kN (a,b)/\k=pG c (a,b) j)/\j.toNat<f.toNat/\c=c/\bW (a,b)=bW (a,b)/\aj (f -1)=j/\g.1.1=k.1.1/\g.1.2.1=k.1.2.1/\g.1.2.2=k.1.2.2/\(ry a b g).2.1=k.2.1/\(ry a b g).2.2=k.2.2/\True))
 ((∀(j:Bool),j=c->(ah j)/\(ar j)/\ ∀(k:Bool),(k=bif j then decide (2<bW (a,b)) else false)->ao k ((ar k)/\aS g.2/\(ar k)/\ao (bif k then decide ((ax g.2 2).1=1) else false) (aS (ax g.2 2).2/\qG (g.1,(uE a b g).2)/\inN g.1.1 (aj ((1:Int)+(uE a b g).1))/\inN g.1.1 (bW (a,b))/\ ∃(l:bu),l=zY c (a,b)/\c=c/\kA (kA g.1.1 (aj ((1:Int)+(uE a b g).1)) (gv (ac g.1.2.1)+1,(ac g.1.2.1))) (bW (a,b)) (gv (ac g.1.2.1)+2,(ac g.1.2.1))=l.1.1/\g.1.2.1++[(aj ((1:Int)+(uE a b g).1),bW (a,b),(1:Int)+(ax (uE a b g).2 (20:Int)).1,(0:Int),(0:Int),(ax (ax (uE a b g).2 (20:Int)).2 (256:Int)).1)]=l.1.2.1/\g.1.2.2=l.1.2.2/\(ax (ax (uE a b g).2 (20:Int)).2 (256:Int)).2.1=l.2.1/\(ax (ax (uE a b g).2 (20:Int)).2 (256:Int)).2.2=l.2.2/\True) (∃(l:bu),l=zY c
 (a,b)/\c=c/\g.1.1=l.1.1/\g.1.2.1=l.1.2.1/\g.1.2.2=l.1.2.2/\(ax g.2 2).2.1=l.2.1/\(ax g.2 2).2.2=l.2.2/\True)) (k=false/\(k->false=true)/\ao (bif k then false else false) (aS g.2/\qG (g.1,(uw a b g).2)/\inN g.1.1 (aj ((1:Int)+(uw a b g).1))/\inN g.1.1 (bW (a,b))/\ ∃(l:bu),l=zY c (a,b)/\c=c/\kA (kA g.1.1 (aj ((1:Int)+(uw a b g).1)) (gv (ac g.1.2.1)+1,(ac g.1.2.1))) (bW (a,b)) (gv (ac g.1.2.1)+2,(ac g.1.2.1))=l.1.1/\g.1.2.1++[(aj ((1:Int)+(uw a b g).1),bW (a,b),(1:Int)+(ax (uw a b g).2 (20:Int)).1,(0:Int),(0:Int),(ax (ax (uw a b g).2 (20:Int)).2 (256:Int)).1)]=l.1.2.1/\g.1.2.2=l.1.2.2/\(ax (ax (uw a b g).2 (20:Int)).2 (256:Int)).2.1=l.2.1/\(ax (ax (uw a b g).2 (20:Int)).2 (256:Int)).2.2=l.2.2/\True) (∃(l:bu),l=zY c
 (a,b)/\c=c/\g.1.1=l.1.1/\g.1.2.1=l.1.2.1/\g.1.2.2=l.1.2.2/\g.2.1=l.2.1/\g.2.2=l.2.2/\True)))/\ ∀(j:bu),j=zY c (a,b)->preR j/\ao (! c) (preO (((u6 c j).1,j.1.2),(u6 c j).2)/\((yU c j).1.1,(yU c j).1.2,(J3 c j).1)=jj c (a,b)/\(J3 c j).2.2=yk c (a,b)) (((u6 c j).1,j.1.2)=jj c (a,b)/\(u6 c j).2=yk c (a,b)))):=by
  delta yU Ci tJ u6 ry u3 uE J3 uw zz DH Fo ah ar aj ac;rintro l p plain ⟨⟨⟨hl,hw⟩,-⟩,-⟩ hc;have hB:cT (l,p):=⟨hc,hw⟩
  generalize ((l,p):aX)=c at hB hc ⊢;have hN:=vz hB;have g0:=GI.start hB;have g1:=g0.node true;have hw5:IntKind.i64.wrap (1+(ax (ax (ax c 3).2 256).2 5).1)=bW c:=aG (n:=bW c) ab ab;rw[hw5];refine⟨g0.small ab ab,g1.c.at',⟨0,vS c,⟨ab,ab,rfl⟩,aP⟩,?_⟩;rintro i s ⟨i0,il,hs⟩;have hg:GI s (i.toNat+1) i.toNat:=by rw[hs];exact (Q9 hB).chain _
  have e1:(s.1.1.length:Int)=i+1:=by rw[hg.n];omega
  simp only[Sp];refine aw (λhi=>?_) (λhi=>?_)
  .have hi:=aI hi;have hg2:=hg.node false;refine⟨hg.small ab ab,hg2.small ab ab,hg2.inN i0 ab,hg2.inN ab ab,i+1,js (kx s false) i s.1.1.length,⟨ab,ab,?_⟩,ab,?_⟩
   .rw[show (i+1).toNat=i.toNat+1 by omega,nj,iD,← hs,List.foldl_cons,List.foldl_nil,rH,show ((i.toNat:Nat):Int)=i by omega,e1]
   .repeat' first|exact trivial|refine⟨bv,?_⟩|refine⟨(by with_reducible rfl),?_⟩|refine⟨e1,?_⟩|refine⟨aG ab ab,?_⟩|refine⟨rfl,?_⟩
  have hi:=aL hi;have hi:i=bW c:=ab;subst hi;have hg2:=hg.node true;have eL:js (kx s true) (bW c) s.1.1.length=(nZ c).2:=by rw[Jl,← hs,e1]
  have gL:=Ey hB;rw[← eL] at gL;have h4:=fu gL.c (n:=4) ab;have eK:(ax (js (kx s true) (bW c) s.1.1.length).2 4).1=kN c:=by rw[eL];rfl
  refine⟨hg.small ab ab,hg2.small ab ab,hg2.inN i0 ab,hg2.inN ab ab,gL.c.at',⟨(ax (js (kx s true) (bW c) s.1.1.length).2 4).1,((js (kx s true) (bW c) s.1.1.length).1,(ax (js (kx s true) (bW c) s.1.1.length).2 4).2),⟨h4.1,ab,?_⟩,aP⟩,?_⟩
  .rw[eK];unfold pG qS;rw[Int.sub_self,← eL];split <;> rfl
  clear hs hg e1 hg2 eL gL h4 eK il i0;clear s;rintro k s ⟨k0,k1,hs⟩;obtain⟨m,hm,hg⟩:=WQ hB plain k k0;rw[← hs] at hg;have hkN:kN c<=4:=by
   have:=fu (Ey hB).c (n:=4) ab;unfold kN;omega
  have ka:=fu hg.c (n:=bW c) ab;have ca:=(dq hg.c (bW c)).1;have kb:=fu ca (n:=bW c) ab;have cb:=(dq ca (bW c)).1;intro b hb;refine⟨aA,aA,?_⟩;intro b1 hb1;refine⟨aA,aA,?_⟩;refine u5 (λx1 x2=>?_) (λhno=>?_)
  .have hk:0<k/\1<bW c:=by
    rw[x1] at hb1;rcases b with _|_
    .cases hb1
    .exact⟨aI hb.symm,aI hb1.symm⟩
   have hpl:plain=false:=by simpa using x2
   have nx:=aq1 (plain:=plain) hk.1 k1 hk.2 hpl;rw[← hs] at nx;unfold tw at nx;dsimp only at nx;rw[aG (n:=1+(ax s.2 (bW c)).1) ab ab,aG (n:=1+(ax (ax s.2 (bW c)).2 (bW c)).1) ab ab,aG (n:=k-1) ab ab];refine⟨hg.c.at',ca.at',?_⟩;have hgc:=hg.codes cb;refine aw (λhne=>?_) (λhne=>?_)
   .have hne:=gH hne;rw[af ab] at nx;exact⟨hgc.small ab ab,hgc.inN ab ab,hgc.inN ab ab,k-1,_,⟨ab,ab,nx.symm⟩,ab,aP⟩
   .have hne:=iP hne;rw[am ab] at nx;exact⟨k-1,_,⟨ab,ab,nx.symm⟩,ab,aP⟩
  have he:k=0∨¬ (1<bW c/\plain=false):=by
   by_cases z:k=0
   .exact .inl z
   .refine .inr ?_;rintro⟨z1,z2⟩;rw[hb,show decide (0<k)=true from cM ab,show decide (1<bW c)=true from cM z1] at hb1;rcases hno with h|h
    .rw[h] at hb1;cases hb1
    .rw[z2] at h;cases h
  rw[WV he] at hs;clear hno hb1 hb b1 b k0 k1 he;have hF:=Gf plain (bW c) (nZ c).2;dsimp only at hF;rw[← hs] at hF;have c2:=(dq hg.c 2).1;refine⟨?_,?_⟩
  .intro b hb
   (repeat refine⟨aA,?_⟩);intro b2 hb2;refine aw (λh=>?_) (λh=>?_)
   .have hk:plain=true/\2<bW c:=by
     rw[h,hb] at hb2;rcases plain with _|_
     .cases hb2
     .exact⟨rfl,aI hb2.symm⟩
    simp only[h,cond_true];rw[am hk] at hF;refine⟨λh=>h,hg.c.at',λh=>h,bT (λh2=>?_) (λh2=>?_)⟩
    .rw[am h2] at hF;have kd:=fu c2 (n:=bW c-1) ab;have cd:=(dq c2 (bW c-1)).1;have hgc:=hg.codes cd;rw[aG (n:=bW c-1) ab ab,aG (n:=1+(ax (ax s.2 2).2 (bW c-1)).1) ab ab];exact⟨c2.at',hgc.small ab ab,hgc.inN ab ab,hgc.inN ab ab,_,hF.symm,aP⟩
    .rw[af h2] at hF;exact⟨_,hF.symm,aP⟩
   .have hk:¬ (plain=true/\2<bW c):=by
     rintro⟨z1,z2⟩;rw[h,hb,z1,show decide (2<bW c)=true from cM z2] at hb2;cases hb2
    simp only[h,oR];rw[af hk] at hF;refine⟨bv,λh=>h,?_⟩;rw[uM];exact⟨s,hF.symm,aP⟩
  rintro t ht;obtain⟨m',-,m1,hG⟩:=DW hB plain;have hG:GI t ((bW c).toNat+2) m':=by rw[ht];exact hG
  refine⟨hG.preR ab ab,?_⟩;have hR:=hG.rs plain;have hO:=hR.preO ab ab ab;subst ht;rcases plain with _|_
  .rw[show (!false)=true from rfl,Wf];exact⟨hO,rfl,rfl⟩
  .rw[show (!true)=false from rfl,uM];exact⟨rfl,rfl⟩
theorem PF:aB 24 LZ.spec:=aF Tryz.func24 (av (av (av (av (av aC aE0) xo) aL9) ZQ) Uh) W0 Vq
end Go.RS
