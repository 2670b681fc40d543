/- Texts joined: SngZ SngU OneP OneQ OneR OneT OneA RepV. -/
import Derived.Test.YthfhgolkafpmnaaGreatDoorGD
import Derived.Test.YthfhgolkafpmnaaGreatDoorGM
import Derived.Test.YthfhgolkafpmnaaGreatDoorHA
import Derived.Test.YthfhgolkafpmnaaGreatDoorHF
import Derived.Test.YthfhgolkafpmnaaGreatDoorHN
import Derived.Test.YthfhgolkafpmnaaGreatDoorIJ
import Derived.Test.YthfhgolkafpmnaaGreatDoorMA
namespace Go.Proofs.YthfhgolkafpmnaaGreatDoor
section
open Go Go.RowKit
theorem pA{u:a7}(hc:iW u){k:Nat}{X:aZ}(hX:u.funcs[k]?=some X):(a8 X.blocks 0).aL=[]:=by
 have hb:=hc.body X (aA hX);have hs:=zl.same hc hX;refine List.eq_nil_iff_forall_not_mem.2 λp hp=>?_;have h1:=hb.aL 0 _ (bK (by have:=hs.many;omega)) p hp;unfold lQ at h1;exact(tH.1 h1).1 rfl
noncomputable def oG(P:List ar)(n:Nat):Nat:=n+((qM P).map λb=>qF (a8 P b)).sum
noncomputable def iP(X:aZ):aZ:={X with aF:=(oG (fJ X) X.params.toNat:Nat),blocks:=pS (qf (fJ X) X.params.toNat) (fJ X) X.params.toNat}
noncomputable def zF(X:aZ):aZ:=gR (iP (lZ X))
noncomputable def yk(u:a7):a7:={u with funcs:=u.funcs.map zF}
theorem Hs(s:Nat->Nat){b:Nat}:∀{o:List Nat},b∈o->mY o s b+s b<=(o.map s).sum
 |[],h=>by cases h
 |x::o,h=>by
  unfold mY
  by_cases e:x=b
  ·subst e
   rw[List.takeWhile_cons_of_neg aH,bO,et];simp
  ·have h2:b∈o:=by rcases bJ.1 h with h|h;exact absurd h.symm e;exact h
   have ih:=Hs s h2;unfold mY at ih;rw[pu (by simp;exact e),bO,et,bO,et];omega
structure rN(X:aZ)(R:Nat):Prop where
 all:kw X R
 reach:∀b,b<X.blocks.length->gD X.blocks (-1) 0 b
 pos:qh X.blocks
theorem tI{X:aZ}{R:Nat}(h:kw X R):fJ X=de X.blocks R:=by unfold fJ;rw[h.aF];rfl
theorem jA{X:aZ}{R:Nat}(h:kw X R):cL (fJ X)/\0<(fJ X).length/\(∀i,dd (fJ X) i=dd X.blocks i)/\(fJ X).length=X.blocks.length:=by
 rw[tI h];exact⟨r4 (eM _ _) (kJ _ _) h.ok.iM,by rw[eM];exact h.pos,kJ _ _,eM _ _⟩
theorem yt{X:aZ}{R:Nat}(h:rN X R):∀b,b<(fJ X).length->gD (fJ X) (-1) 0 b:=λb hb=>by
 obtain⟨_,_,h3,h4⟩:=jA h.all;exact(vV h3).2 (h.reach b ag)
theorem qP{X:aZ}{R:Nat}(h:rN X R):SgF X (iP X) (qf (fJ X) X.params.toNat):=by
 obtain⟨h1,h2,h3,h4⟩:=jA h.all;have hN:=YA h1 h2 (yt h);have hp:=h.all.par;refine⟨rfl,λb c k k' B C hB hC hk Vs e=>Ua hN hB hC hk Vs e,λb k=>?_,λb B k hB hk=>?_,?_,h.reach,h.pos⟩
 ·have:=YB (qM (fJ X)) (λb=>qF (a8 (fJ X) b)) (λb k=>KS (a8 (fJ X) b) k) X.params.toNat b k
  unfold qf;omega
 ·have h5:=hN.lt b B k hB hk
  have h6:=Hs (λb=>qF (a8 (fJ X) b)) (hN.all b (aC.1 hB).1);show qf (fJ X) X.params.toNat b k<((oG (fJ X) X.params.toNat:Nat):Int);unfold qf num oG;simp only at h5 h6⊢;omega
 ·show 0<=X.params/\X.params<=((oG (fJ X) X.params.toNat:Nat):Int)
  unfold oG;omega
theorem xq{u:a7}(hu:Whole u):∀(k:Nat) X,(sL u).funcs[k]?=some X->∃R,rN X R:=λk Y hY=>by
 have PK:=(oe hu).1;have hY2:=hY;rw[yC]at hY;obtain⟨X,hX,rfl⟩:=cT.1 hY;obtain⟨_,_,hT⟩:=ET hu.ok hX;obtain⟨R,hA⟩:=yU PK.ok hY2;have ho:=BT hT;refine⟨R,hA,λb hb=>?_,(zN PK.ok hY2).2⟩;have h1:b∈ch (lZ X).blocks:=by rw[ho];exact cQ.2 hb
 unfold ch at h1;exact(Dv hA.ok.iM hA.pos).1 (List.mem_reverse.1 h1)
structure acm(fs:List aZ)(R:Int)(x:en):Prop where
 op:1<=x.op/\x.op<=22
 s1:(shape x.op).1=false->x.dst=-1
 s2:(shape x.op).2.1=false->iC x.a=true
 s3:(shape x.op).2.2=false->iC x.b=true
 s4:x.op≠20->x.fn=0/\x.args.length=0
 dst:(shape x.op).1=true->(x.op=20/\x.dst=-1)∨(0<=x.dst/\x.dst<R)
 a:dw R x.a=0
 b:dw R x.b=0
 call:fY fs R x=0
theorem As{R n:Int}:jx R n=0↔0<=n/\n<R:=by
 unfold jx within;constructor
 ·intro h
  split at h
  ·cases h
  ·rename_i h1
   simp at h1;omega
 ·intro h
  rw[if_neg];simp;omega
theorem GF{fs:List aZ}{R:Int}{x:en}:dK fs R x=0↔acm fs R x:=by
 constructor
 ·intro h
  unfold dK at h
  split at h
  ·cases h
  rename_i h1
  split at h
  ·cases h
  rename_i h2
  split at h
  ·rename_i h3
   rw[h]at h3;simp at h3
  rename_i h3
  split at h
  ·rename_i h4;exact absurd h h4
  rename_i h4
  split at h
  ·rename_i h5;exact absurd h h5
  rename_i h5;have h1:1<=x.op/\x.op<=22:=by simp[within]at h1;omega
  simp only[Bool.not_eq_true]at h2;unfold pU at h2;simp only[Bool.or_eq_false_iff,Bool.and_eq_false_iff,Bool.not_eq_false',decide_eq_false_iff_not,decide_eq_true_eq]at h2;obtain⟨⟨⟨a1,a2⟩,a3⟩,a4⟩:=h2;refine⟨h1,λe=>?_,λe=>?_,λe=>?_,λe=>?_,λe=>?_,Decidable.not_not.1 h4,Decidable.not_not.1 h5,h⟩
  ·rcases a1 with a1|a1
   ·rw[e]at a1;cases a1
   ·exact a1
  ·rcases a2 with a2|a2
   ·rw[e]at a2;cases a2
   ·exact a2
  ·rcases a3 with a3|a3
   ·rw[e]at a3;cases a3
   ·exact a3
  ·rcases a4 with a4|a4
   ·exact absurd a4 e
   ·exact⟨a4.1,ag⟩
  ·by_cases e2:x.op=20/\x.dst=-1
   ·exact .inl e2
   ·refine .inr (As.1 ?_)
    refine Classical.byContradiction λhd=>h3 ?_;rw[e];simp only[Bool.true_and,Bool.and_eq_true,Bool.not_eq_true',Bool.and_eq_false_iff,decide_eq_false_iff_not];refine⟨?_,hd⟩
    by_cases e3:x.op=20
    ·exact .inr λe4=>e2 ⟨e3,e4⟩
    ·exact .inl e3
 ·intro h
  unfold dK;rw[if_neg,if_neg,if_neg,if_neg,if_neg]
  ·exact h.call
  ·exact not_not_intro h.b
  ·exact not_not_intro h.a
  ·intro hc
   simp only[Bool.and_eq_true,Bool.not_eq_true',Bool.and_eq_false_iff,decide_eq_false_iff_not]at hc;rcases h.dst hc.1.1 with⟨h1,h2⟩|h1
   ·rcases hc.1.2 with h3|h3
    ·exact h3 h1
    ·exact h3 h2
   ·exact hc.2 (As.2 h1)
  ·simp only[Bool.not_eq_true]
   unfold pU;simp only[Bool.or_eq_false_iff,Bool.and_eq_false_iff,Bool.not_eq_false',decide_eq_false_iff_not,decide_eq_true_eq];refine⟨⟨⟨?_,?_⟩,?_⟩,?_⟩
   ·cases e:(shape x.op).1 with
    |true=>exact .inl rfl
    |false=>exact .inr (h.s1 e)
   ·cases e:(shape x.op).2.1 with
    |true=>exact .inl rfl
    |false=>exact .inr (h.s2 e)
   ·cases e:(shape x.op).2.2 with
    |true=>exact .inl rfl
    |false=>exact .inr (h.s3 e)
   ·by_cases e:x.op=20
    ·exact .inl e
    ·have:=h.s4 e
     exact .inr ⟨this.1,ag⟩
  ·have:=h.op
   simp[within];omega
theorem N7{fs:List aZ}{R R':Int}{x y:en}(C9:y.op=x.op)(oY:y.fn=x.fn)(hl:y.args.length=x.args.length)(hv:∀v∈y.args,dw R' v=0)(h:fY fs R x=0):fY fs R' y=0:=by
 unfold fY at h⊢;rw[C9,oY,hl]
 split at h
 ·rename_i h1;rw[if_pos h1]
 rename_i h1;rw[if_neg h1]
 split at h
 ·cases h
 rename_i h2;rw[if_neg h2]
 split at h
 ·cases h
 rename_i h3;rw[if_neg h3,gz];intro j hj;unfold jr;rw[aB ag];exact hv _ (jK _)
theorem TQ{fs:List aZ}{R R':Int}{x y:en}(h:dK fs R x=0)(C9:y.op=x.op)(oY:y.fn=x.fn)(ha:dw R' y.a=0/\(iC x.a=true->iC y.a=true))(hb:dw R' y.b=0/\(iC x.b=true->iC y.b=true))(hl:y.args.length=x.args.length)(hv:∀v∈y.args,dw R' v=0)
  (hd:0<=x.dst->0<=y.dst/\y.dst<R') (L3:x.dst<0->y.dst=x.dst):dK fs R' y=0:=by
 have hz:=GF.1 h;refine GF.2 ⟨by rw[C9];exact hz.op,λe=>?_,λe=>ha.2 (hz.s2 (by rw[<-C9];exact e)),λe=>hb.2 (hz.s3 (by rw[<-C9];exact e)),λe=>?_,λe=>?_,ha.1,hb.1,N7 C9 oY hl hv hz.call⟩
 ·have:=hz.s1 (by rw[<-C9];exact e)
  rw[L3 ag,this]
 ·rw[oY,hl]
  exact hz.s4 (by rw[<-C9];exact e)
 ·rcases hz.dst (by rw[<-C9];exact e)with⟨h1,h2⟩|⟨h1,h2⟩
  ·exact .inl ⟨by rw[C9];exact h1,by rw[L3 ag,h2]⟩
  ·exact .inr (hd h1)
theorem QD{v:cm}(h:iC v=true):v=gK:=by
 obtain⟨vr,vn⟩:=v;simp only[iC,Bool.and_eq_true,beq_iff_eq,decide_eq_true_eq]at h;obtain⟨rfl,rfl⟩:=h
 rfl
section
variable {X:aZ} {R:Nat}
theorem yy(h:rN X R):∀r,Y0 (qf (fJ X) X.params.toNat) (fJ X) X.params.toNat r->0<=r/\r<(iP X).aF:=λr hr=>by
 have hs:=qP h;have hp:=hs.par;rcases hr with⟨h1,h2⟩|⟨b,B,k,hB,hk,rfl⟩
 ·omega
 ·have h1:=hs.ge b k
  have h2:=hs.lt b B k hB hk;omega
theorem BX(h:rN X R){v:cm}(hv:xG (Y0 (qf (fJ X) X.params.toNat) (fJ X) X.params.toNat) v):dw (iP X).aF v=0:=val_zero.2 λhr=>by
 have:=yy h _ (hv hr);omega
theorem EE{ν:Nat->Nat->Int}{bl:List ar}{n b i:Nat}{v:cm}(h:iC v=true):iC (o6 ν bl n b i v)=true:=by
 rw[QD h]
 rfl
end
theorem ER(ν:Nat->Nat->Int)(P:List ar)(n:Nat)(i:Nat):dd (pS ν P n) i=dd P i:=by
 unfold dd;cases hz:P[i]? with
 |none=>rw[bM (by rw[jB];exact kg.1 hz)]
 |some D=>rw[pT hz];rfl
theorem DO{X:aZ}{R:Nat}(h:rN X R){fs:List aZ}(hb:qD fs X):∀B∈fJ X,zm (NT R) B:=by
 rw[tI h.all];exact MR (N4 h.all.aF h.all.ok hb) (bH _)
theorem BM{fs:List aZ}{X:aZ}{R:Nat}(h:rN X R)(hb:qD fs X)(h0:(a8 X.blocks 0).aL=[]):qD fs (iP X):=by
 have Pv:=DO h hb;have Kn:∀B∈fJ X,zm (λr=>0<=r) B:=λB hB=>(Pv B hB).mono λr hr=>hr.1;have hsr:=Hh (ν:=qf (fJ X) X.params.toNat) (n:=X.params.toNat) Kn;obtain⟨hg,dS,jq,hlen⟩:=jA h.all;have hlS:(iP X).blocks.length=X.blocks.length:=by show(pS _ _ _).length=_;rw[jB,hlen]
 have jS:∀{b C},(iP X).blocks[b]?=some C->∃B,X.blocks[b]?=some B/\(fJ X)[b]?=some {B with aL:=B.aL++di X.blocks R b}/\C=CA (qf (fJ X) X.params.toNat) (fJ X) X.params.toNat b {B with aL:=B.aL++di X.blocks R b}:=λ{b C} hC=>by
  have iR:b<X.blocks.length:=by rw[<-hlS];exact(aC.1 hC).1
  obtain⟨B,hB⟩:∃B,X.blocks[b]?=some B:=⟨_,aB iR⟩;have hP:(fJ X)[b]?=some {B with aL:=B.aL++di X.blocks R b}:=by rw[tI h.all];exact iq hB
  have hC2:(pS (qf (fJ X) X.params.toNat) (fJ X) X.params.toNat)[b]?=some C:=hC;rw[pT hP]at hC2;exact⟨B,hB,hP,(be hC2).symm⟩
 refine⟨λC hC=>?_,λb C hC q hq=>?_,λb C hC y hy=>?_⟩
 ·obtain⟨b,wi⟩:=br hC
  have hR:=hsr C hC;obtain⟨B,hB,_,WE⟩:=jS wi;have hE:=lu.1 (hb.ends B (aA hB));have Gp:iC B.on=true->iC C.on=true:=λhn=>by rw[WE];exact EE hn
  have hk:C.kind=B.kind:=by rw[WE];rfl
  have ht:C.to=B.to:=by rw[WE];rfl
  rw[hlS];refine lu.2 ⟨by rw[hk];exact hE.kind,by rw[hk,ht];exact hE.len,by rw[ht];exact hE.to,by rw[hk,ht];exact hE.two,λh2=>Gp (hE.one (by rw[<-hk];exact h2)),BX h hR.on⟩
 ·have hR:=hsr C (aA hC)
  obtain⟨B,hB,hP,WE⟩:=jS hC;have Ct:=hR.aL q hq;have hfP:eX R (fJ X):=by rw[tI h.all];exact oS h.all.ok (bH _)
  have XT:=hq;rw[WE]at XT;obtain⟨i,hi⟩:=br XT;have Vq:((B.aL++di X.blocks R b).mapIdx (yv (qf (fJ X) X.params.toNat) (fJ X) X.params.toNat b))[i]?=some q:=hi;rw[cM]at Vq;obtain⟨p,hp,R6⟩:=cT.1 Vq;have AX:=(hfP.block b _ hP).aL p (aA hp);have Cb:q.src.length=(bf (fJ X) b).length:=by rw[<-R6,<-AX.len];simp[yv]
  have ve:b≠0:=λe=>by
   subst e;have h1:B.aL=[]:=by rw[eD hB]at h0;exact h0
   rw[h1,w7 λr _ hn=>Dp h.pos hn.1]at hp;simp at hp
  have hd:=yy h _ Ct.1;have wU:bf (iP X).blocks b=bf (fJ X) b:=xd (jB _ _ _) (ER _ _ _) b;have hgS:cL (iP X).blocks:=r4 (jB _ _ _) (ER _ _ _) hg;have oh:∀(b:Nat) C,(iP X).blocks[b]?=some C->C.to.Nodup:=λb C hC=>by
   obtain⟨B',u9,_,acC⟩:=jS hC;rw[acC];exact(h.all.ok.block b B' u9).to
  unfold lQ w9;rw[if_neg ag,if_neg (by rw[As.2 hd];simp),if_neg]
  ·rw[gz]
   intro j hj;unfold jr;rw[aB hj];exact BX h (Ct.2 _ (jK hj))
  ·rw[gm hgS oh (by rw[hlS];exact(aC.1 hB).1),dF,aG,wU,Cb]
   simp
 ·have hR:=(hsr C (aA hC)).list y hy
  obtain⟨B,hB,hP,WE⟩:=jS hC;rw[WE]at hy;obtain⟨k,hk⟩:=br hy;have AO:(B.list.mapIdx (rH (qf (fJ X) X.params.toNat) (fJ X) X.params.toNat b))[k]?=some y:=hk;rw[cM]at AO;obtain⟨x,hx,rfl⟩:=cT.1 AO;refine TQ (hb.list b B hB x (aA hx)) rfl rfl ⟨BX h hR.a,EE⟩ ⟨BX h hR.b,EE⟩ (by simp[rH]) (λv hv=>BX h (hR.args v hv)) (λh1=>?_) λh1=>?_
  ·refine yy h _ (hR.dst ?_)
   show 0<=(if 0<=x.dst then _ else x.dst);rw[if_pos h1];have:=(qP h).ge b ((a8 (fJ X) b).aL.length+k);have:=(qP h).par;omega
  ·show(if 0<=x.dst then _ else x.dst)=x.dst
   rw[if_neg ag]
theorem Jf{ν:Nat->Nat->Int}{bl:List ar}{n:Nat}{r:Int}:∀(g b i:Nat),(Qy ν bl n g b i r).bD=false->Qy ν bl n g b i r=gK
 |0,b,i,_=>rfl
 |g+1,b,i,h=>by
  unfold Qy at h⊢;cases hd:mm (a8 bl b) r i with
  |some k=>rw[hd]at h;cases h
  |none=>
   rw[hd]at h;simp only at h⊢
   split
   ·rename_i h1
    rw[if_pos h1]at h
    split
    ·rename_i h2;rw[if_pos h2]at h;cases h
    ·rfl
   ·rename_i h1
    rw[if_neg h1]at h;exact Jf g _ _ h
end
section
open Go Go.RowKit
attribute [local irreducible] wpListIn Code.wpIn Exit.then Exit.inBlock bodyPost wpQuiet wpAnyIn wpAnyH bodyPostM gX
set_option maxHeartbeats 4000000
theorem Mq{f:Nat}[aS Tryz.prog f](cap:List Value)(g:eC->Bool)(v:Value)(l:List eC)(w0:World)(hv:aM w0 v 2 l DN)(fv:∀w,lL dh w0 w->∀x∈l,∀sv,(∃a n c,sv=.slice a n c)->fi Tryz.prog f (.agg #[.int .i64 x.dst,sv]::cap) w (.bool (g x))):
  gV Tryz.prog 166 [v,.func (.func f) #[] cap.toArray] w0 λu w'=>∃r:Int,u=.int .i64 r/\Wd dh w0 [] w'/\decide (0<=r)=l.any g:=by
 obtain⟨a,n,c,b,o,rfl,hn,pE,E3,hc,ha,iK⟩:=hv;refine aQ Tryz.func166 rfl Tryz.ntmps166 rfl (Wd.nil dh w0) ?_;refine aO ?_;refine bP (λ(i:Nat)=>i<=n/\∀j t,j<i->l[j]?=some t->g t=false) (λi=>[(8,.int .i64 i),(0,.slice a n c),(1,.func (.func f) #[] cap.toArray),(7,.int .i64 n)]) (λ_=>[]) (λi=>n-i) 0 ⟨aY _,by simp⟩ (aV aw aH) λi ⟨hi,cP⟩=>?_;refine aU ?_;refine aN (λh1=>?_) (λh1=>?_)
 ·have bT:i<n:=by simpa using h1
  obtain⟨x,hx⟩:=dJ hn bT;have pY:bY a b o:=⟨ha (aW hx)⟩;have mW:bZ i n:=⟨bT⟩;obtain⟨cs,fZ,sv,rfl,_,mP⟩:=iK i x hx;obtain⟨sa,sn,sc,_,_,rfl,_⟩:=id mP;have oQ:a_ w0 b (o+i*2) [.int .i64 x.dst,.slice sa sn sc]:=⟨fZ⟩;refine aO ?_;refine kD rfl (us:=[]) (vs:=[.agg #[.int .i64 x.dst,.slice sa sn sc]]) (xs:=cap) (λw hw=>fv w hw.cE x (aA hx) _ ⟨_,_,_,rfl⟩) ?_;refine aU ?_;refine aN (λh2=>?_) (λh2=>?_)
  ·refine aI ?_
   refine cA rfl λw hw=>⟨_,rfl,⟨hw.cE,by simp,by simp,by simp⟩,?_⟩;rw[decide_eq_true (by omega:(0:Int)<=(i:Int))]
   symm
   simp only[oq];exact⟨x,aA hx,h2⟩
  ·refine aO ?_
   refine bC (i+1) ⟨bT,λj t hj ht=>?_⟩ ag aw aH
   by_cases wT:j=i
   ·subst wT
    rw[hx]at ht;obtain rfl:=be ht;exact h2
   ·exact cP j t ag ht
 ·have gT:i=n:=by have:=h1;simp at this;omega
  refine aI ?_;refine cA rfl λw hw=>⟨-1,rfl,⟨hw.cE,by simp,by simp,by simp⟩,?_⟩;rw[decide_eq_false (by omega:¬(0:Int)<=-1)]
  symm
  rw[vq];intro t ht;obtain⟨j,hj⟩:=br ht;rw[cP j t (by have:=(aC.1 hj).1;omega) hj];simp
theorem D2{f:Nat}[aS Tryz.prog f](cap:List Value)(g:eC->Bool)(v:Value)(l:List eC)(w0:World)(hv:aM w0 v 2 l DN)(fv:∀w,lL dh w0 w->∀x∈l,∀sv,(∃a n c,sv=.slice a n c)->fi Tryz.prog f (.agg #[.int .i64 x.dst,sv]::cap) w (.bool (g x))):
  fi Tryz.prog 149 [v,.func (.func f) #[] cap.toArray] w0 (.bool (l.any g)):=by
 obtain⟨a,n,c,rfl⟩:∃a n c,v=.slice a n c:=by obtain⟨a,n,c,b,o,rfl,_⟩:=hv;exact⟨a,n,c,rfl⟩
 refine aQ Tryz.func149 rfl Tryz.ntmps149 rfl (Wd.nil dh w0) ?_;refine aU ?_;refine cV (val:=λr:Int=>.int .i64 r) (E:=λ_=>[]) (φ:=λr=>decide (0<=r)=l.any g) rfl (λw hw=>Mq cap g _ l w (hv.cu x9 hw.cE) λw2 h2=>fv w2 (hw.cE.trans h2)) λr hr=>?_;simp only[aT];refine aO ?_;rw[hr];exact bQ rfl rfl
theorem Mp{f:Nat}[aS Tryz.prog f](cap:List Value)(g:en->Bool)(v:Value)(l:List en)(w0:World)(hv:aM w0 v 8 l DK)(fv:∀w,lL dh w0 w->∀x∈l,∀sv,(∃a n c,sv=.slice a n c)->fi Tryz.prog f (.agg #[.int .i64 x.op,.int .i64 x.dst,.bool x.a.bD,.int .i64 x.a.n,.bool x.b.bD,.int .i64 x.b.n,.int .i64 x.fn,sv]::cap) w (.bool (g x))):
  gV Tryz.prog 148 [v,.func (.func f) #[] cap.toArray] w0 λu w'=>∃r:Int,u=.int .i64 r/\Wd dh w0 [] w'/\decide (0<=r)=l.any g:=by
 obtain⟨a,n,c,b,o,rfl,hn,pE,E3,hc,ha,iK⟩:=hv;refine aQ Tryz.func148 rfl Tryz.ntmps148 rfl (Wd.nil dh w0) ?_;refine aO ?_;refine bP (λ(i:Nat)=>i<=n/\∀j t,j<i->l[j]?=some t->g t=false) (λi=>[(8,.int .i64 i),(0,.slice a n c),(1,.func (.func f) #[] cap.toArray),(7,.int .i64 n)]) (λ_=>[]) (λi=>n-i) 0 ⟨aY _,by simp⟩ (aV aw aH) λi ⟨hi,cP⟩=>?_;refine aU ?_;refine aN (λh1=>?_) (λh1=>?_)
 ·have bT:i<n:=by simpa using h1
  obtain⟨x,hx⟩:=dJ hn bT;have pY:bY a b o:=⟨ha (aW hx)⟩;have mW:bZ i n:=⟨bT⟩;obtain⟨cs,fZ,sv,rfl,_,_,_,_,_,mP⟩:=iK i x hx;obtain⟨sa,sn,sc,_,_,rfl,_⟩:=id mP;have oQ:a_ w0 b (o+i*8) [.int .i64 x.op,.int .i64 x.dst,.bool x.a.bD,.int .i64 x.a.n,.bool x.b.bD,.int .i64 x.b.n,.int .i64 x.fn,.slice sa sn sc]:=⟨fZ⟩;refine aO ?_;refine kD rfl (us:=[]) (vs:=[.agg #[.int .i64 x.op,.int .i64 x.dst,.bool x.a.bD,.int .i64 x.a.n,.bool x.b.bD,.int .i64 x.b.n,.int .i64 x.fn,.slice sa sn sc]]) (xs:=cap) (λw hw=>fv w hw.cE x (aA hx) _ ⟨_,_,_,rfl⟩) ?_;refine aU ?_;refine aN (λh2=>?_) (λh2=>?_)
  ·refine aI ?_
   refine cA rfl λw hw=>⟨_,rfl,⟨hw.cE,by simp,by simp,by simp⟩,?_⟩;rw[decide_eq_true (by omega:(0:Int)<=(i:Int))]
   symm
   simp only[oq];exact⟨x,aA hx,h2⟩
  ·refine aO ?_
   refine bC (i+1) ⟨bT,λj t hj ht=>?_⟩ ag aw aH
   by_cases wT:j=i
   ·subst wT
    rw[hx]at ht;obtain rfl:=be ht;exact h2
   ·exact cP j t ag ht
 ·have gT:i=n:=by have:=h1;simp at this;omega
  refine aI ?_;refine cA rfl λw hw=>⟨-1,rfl,⟨hw.cE,by simp,by simp,by simp⟩,?_⟩;rw[decide_eq_false (by omega:¬(0:Int)<=-1)]
  symm
  rw[vq];intro t ht;obtain⟨j,hj⟩:=br ht;rw[cP j t (by have:=(aC.1 hj).1;omega) hj];simp
theorem D1{f:Nat}[aS Tryz.prog f](cap:List Value)(g:en->Bool)(v:Value)(l:List en)(w0:World)(hv:aM w0 v 8 l DK)(fv:∀w,lL dh w0 w->∀x∈l,∀sv,(∃a n c,sv=.slice a n c)->fi Tryz.prog f (.agg #[.int .i64 x.op,.int .i64 x.dst,.bool x.a.bD,.int .i64 x.a.n,.bool x.b.bD,.int .i64 x.b.n,.int .i64 x.fn,sv]::cap) w (.bool (g x))):
  fi Tryz.prog 100 [v,.func (.func f) #[] cap.toArray] w0 (.bool (l.any g)):=by
 obtain⟨a,n,c,rfl⟩:∃a n c,v=.slice a n c:=by obtain⟨a,n,c,b,o,rfl,_⟩:=hv;exact⟨a,n,c,rfl⟩
 refine aQ Tryz.func100 rfl Tryz.ntmps100 rfl (Wd.nil dh w0) ?_;refine aU ?_;refine cV (val:=λr:Int=>.int .i64 r) (E:=λ_=>[]) (φ:=λr=>decide (0<=r)=l.any g) rfl (λw hw=>Mp cap g _ l w (hv.cu Df hw.cE) λw2 h2=>fv w2 (hw.cE.trans h2)) λr hr=>?_;simp only[aT];refine aO ?_;rw[hr];exact bQ rfl rfl
theorem QZ(r:Int)(pr:Nat)(x:en)(sv:Value)(mP:∃a n c,sv=.slice a n c)(w0:World)(hp:bG w0 pr 0 [.int .i64 r]):
  fi Tryz.prog 101 [.agg #[.int .i64 x.op,.int .i64 x.dst,.bool x.a.bD,.int .i64 x.a.n,.bool x.b.bD,.int .i64 x.b.n,.int .i64 x.fn,sv],.pointer (some ⟨pr,0,none⟩)] w0 (.bool (decide (x.dst=r))):=by
 obtain⟨a,n,c,rfl⟩:=mP;have oQ:a_ w0 pr 0 _:=⟨hp⟩;refine aQ Tryz.func101 rfl Tryz.ntmps101 rfl (Wd.nil dh w0) ?_
 repeat(first|refine aO ?_|refine dX λ_ _=>?_)
 exact bQ rfl rfl
theorem Nh(r:Int)(pr:Nat)(x:eC)(sv:Value)(mP:∃a n c,sv=.slice a n c)(w0:World)(hp:bG w0 pr 0 [.int .i64 r]):
  fi Tryz.prog 150 [.agg #[.int .i64 x.dst,sv],.pointer (some ⟨pr,0,none⟩)] w0 (.bool (decide (x.dst=r))):=by
 obtain⟨a,n,c,rfl⟩:=mP;have oQ:a_ w0 pr 0 _:=⟨hp⟩;refine aQ Tryz.func150 rfl Tryz.ntmps150 rfl (Wd.nil dh w0) ?_
 repeat(first|refine aO ?_|refine dX λ_ _=>?_)
 exact bQ rfl rfl
theorem Hn(B:ar)(r:Int)(pv lv tv:Value)(Tn:∃a n c,lv=.slice a n c)(VO:∃a n c,tv=.slice a n c)(w0:World)(Cs:aM w0 pv 2 B.aL DN):
  fi Tryz.prog 102 [.agg #[pv,lv,.int .i64 B.kind,.bool B.on.bD,.int .i64 B.on.n,tv],.int .i64 r] w0 (.bool (j_ B r)):=by
 obtain⟨la,ln,lc,rfl⟩:=Tn;obtain⟨ta,tn,tc,rfl⟩:=VO;obtain⟨pa,pn,pc,rfl⟩:∃a n c,pv=.slice a n c:=by obtain⟨a,n,c,b,o,rfl,_⟩:=Cs;exact⟨a,n,c,rfl⟩
 refine aQ Tryz.func102 rfl Tryz.ntmps102 rfl (Wd.nil dh w0) ?_
 repeat(first|refine aU ?_|refine dX λ_ _=>?_)
 rename_i p2 _ p3 _;refine bI rfl (λw hw=>D2 (f:=150) [.pointer (some ⟨p3,0,none⟩)] (λp=>decide (p.dst=r)) (.slice pa pn pc) B.aL w (Cs.cu x9 hw.cE) λw2 h2 x hx sv mP=>Nh r p3 x sv mP w2 λj v hj=>?_) ?_
 ·have h3:w.cell? ⟨p3,0+j,none⟩=some v:=hw.gW p3 j v hj
  exact fU h2 h3
 refine aO ?_;exact bQ rfl rfl
theorem SJ(q pf:Nat)(av kv:Value)(m:Int)(hm:0<=m/\m<=1000000)(w:World)(hw:Wd (cF [(λm:Int=>aj q [.pointer (some ⟨pf,0,none⟩),av,kv,.int .i64 m] 102) m]) w [(λm:Int=>aj q [.pointer (some ⟨pf,0,none⟩),av,kv,.int .i64 m] 102) m] w):
  gV Tryz.prog 111 [.pointer (some ⟨q,0,none⟩)] w λu w'=>∃_x:Unit,u=.agg #[.bool true,.int .i64 m]/\Wd (cF [(λm:Int=>aj q [.pointer (some ⟨pf,0,none⟩),av,kv,.int .i64 m] 102) m]) w [(λm:Int=>aj q [.pointer (some ⟨pf,0,none⟩),av,kv,.int .i64 m] 102) (m+1)] w'/\True:=by
 refine aQ Tryz.func111 rfl Tryz.ntmps111 rfl hw ?_;have ha1:z8 m 1:=⟨ag,ag⟩;generalize cF [(λm:Int=>aj q [.pointer (some ⟨pf,0,none⟩),av,kv,.int .i64 m] 102) m]=SS;simp only
 repeat(first|refine aI ?_|refine dX λ_ _=>?_)
 rw[show m+1-1=m by omega];exact gH rfl λw hw=>⟨(),rfl,hw.sub aH,trivial⟩
def Jh(names:List cm)(v:cm):cm:=if v.bD then names.getD v.n.toNat gK else v
theorem ab1(pn:Nat)(nv:Value)(names:List cm)(w0:World)(hp:bG w0 pn 0 [nv])(hn:aM w0 nv 2 names λ_ v cs=>cs=df v)(v:cm)(hv:v.bD=true->0<=v.n/\v.n<names.length):
  fi Tryz.prog 110 [.agg #[.bool v.bD,.int .i64 v.n],.pointer (some ⟨pn,0,none⟩)] w0 (.agg #[.bool (Jh names v).bD,.int .i64 (Jh names v).n]):=by
 obtain⟨a,n,c,b,o,rfl,B_,_,_,_,ha,iK⟩:=hn;have oQ:a_ w0 pn 0 _:=⟨hp⟩;refine aQ Tryz.func110 rfl Tryz.ntmps110 rfl (Wd.nil dh w0) ?_;obtain⟨bD,vn⟩:=v;cases bD with
 |false=>
  simp only[Jh]
  repeat(first|refine aI ?_|refine dX λ_ _=>?_)
  exact gH rfl λw hw=>⟨rfl,hw.cE⟩
 |true=>
  obtain⟨h1,h2⟩:=hv rfl;simp only at h1 h2;obtain⟨r,rfl⟩:∃r:Nat,vn=r:=⟨vn.toNat,ag⟩;have hr:r<names.length:=ag;obtain⟨x,hx⟩:∃x,names[r]?=some x:=⟨_,aB hr⟩;have adX:Jh names ⟨true,r⟩=x:=by unfold Jh;simp only[if_true,dD];rw[cz,hx];rfl
  rw[adX];have pY:bY a b o:=⟨ha (aW hx)⟩;have mW:bZ r n:=⟨ag⟩;obtain⟨cs,fZ,rfl⟩:=iK r x hx;have vC:a_ w0 b (o+r*2) [.bool x.bD,.int .i64 x.n]:=⟨fZ⟩;simp only
  repeat(first|refine aI ?_|refine dX λ_ _=>?_)
  exact gH rfl λw hw=>⟨rfl,hw.cE⟩
end
section
open Go Go.RowKit
attribute [local irreducible] wpListIn Code.wpIn Exit.then Exit.inBlock bodyPost wpQuiet wpAnyIn wpAnyH
set_option maxHeartbeats 4000000
theorem M0(b0 o0 n:Nat)(z:cm)(w:World)(hx:bG w b0 o0 (df z))(NB:n<=1000):
  gV Tryz.prog 104 [.slice (some ⟨b0,o0,none⟩) 1 1,.int .i64 n] w λu w'=>∃a:Nat,u=.slice (some ⟨a,0,none⟩) n n/\Wd dh w [ai (some ⟨a,0,none⟩) n n 41 2 ((List.replicate n z).flatMap df)] w'/\True:=by
 have hg:∀x:cm,(df x).length=2:=λ_=>rfl;refine aQ Tryz.func104 rfl Tryz.ntmps104 rfl (Wd.nil dh w) ?_;refine aO ?_;rw[show decide ((n:Int)<0)=false by simp]
 skip
 refine rX rfl rfl ?_;refine aU ?_;refine rX rfl (by rw[IntKind.wrap_u64];omega) ?_;refine bI rfl (λw' _=>Qu 1 n ag ag ag w') ?_;rw[Nat.one_mul];refine aI ?_;rw[show decide (9223372036854775807<(n:Int))=false by simp;omega,show decide ((0:Int)<0)=false from rfl];refine aO ?_;refine rX rfl ?_ ?_
 ·rw[IntKind.wrap_i64];omega
 refine SQ rfl rfl ag ag df gK rfl λa _=>?_;have AV:∀(l:List (cm)),∀v∈l.flatMap df,v.oneCell'=true:=λl v hv=>by
  obtain⟨q,_,hq⟩:=du.1 hv;simp only[df,bJ,iI,or_false]at hq;rcases hq with rfl|rfl<;>rfl
 refine aU ?_;refine D9 (b:=a) (o:=0) (off:=0) 0 (min 1 n) ((List.replicate (min 1 n) z).flatMap df) rfl rfl rfl (by rw[ct hg,ef]) (λw' hw j v hj=>?_) (by rw[ct hg,ct hg,ef,ef];omega) (AV _) ?_
 ·obtain⟨i,x,k,h1,h2,rfl⟩:=oU hg _ _ _ hj
  have hi:=(aC.1 h1).1;rw[ef]at hi;obtain rfl:=jI (aA h1);obtain rfl:i=0:=ag;have:=fU hw.cE (hx k v h2);rw[Nat.zero_mul,dM];exact this
 have e0:=FM hg (List.replicate n gK) (List.replicate (min 1 n) z) 0;rw[Nat.zero_mul]at e0;simp only[bS];rw[e0];rw[show(List.replicate n gK).take 0++List.replicate (min 1 n) z++(List.replicate n gK).drop (0+(List.replicate (min 1 n) z).length)=List.replicate (min 1 n) z++List.replicate (n-min 1 n) gK by simp[List.drop_replicate]];refine aO ?_;refine bP (λ(m:Nat)=>(1<=m∨n=0)/\m<=n) (λm=>[(8,.int .i64 m),(7,.slice (some ⟨a,0,none⟩) n n)]) (λm=>[ai (some ⟨a,0,none⟩) n n 41 2 ((List.replicate m z++List.replicate (n-m) gK).flatMap df)]) (λm=>n-m) (min 1 n) ⟨ag,ag⟩ (aV aw ag2) λm ⟨Ek,hmn⟩=>?_;refine aU ?_;refine aN (λh1=>?_) (λh1=>?_)
 ·have bT:m<n:=by simpa using h1
  have Ny:NN m n n:=⟨ag,bT⟩;have Gd:CI m n:=⟨ag⟩;refine aO ?_;refine wM [(8,.int .i64 ((m+min m (n-m):Nat):Int)),(7,.slice (some ⟨a,0,none⟩) n n)] [ai (some ⟨a,0,none⟩) n n 41 2 ((List.replicate (m+min m (n-m)) z++List.replicate (n-(m+min m (n-m))) gK).flatMap df)] mixed ?_ ?_
  ·repeat' (first|refine fA 0 rfl aq ?_|refine fA 1 rfl aq ?_|refine fA 2 rfl aq ?_|refine fA 3 rfl aq ?_|refine fA 4 rfl aq ?_|refine fA 5 rfl aq ?_|refine fA 6 rfl aq ?_|refine AB aq ?_|refine any_nil|refine pt aq ?_|refine any_cons ?_ ?_)
   refine D9 (b:=a) (o:=0) (off:=m*2) 0 (min m (n-m)) ((List.replicate (min m (n-m)) z).flatMap df) rfl rfl rfl (by rw[ct hg,ef]) (λw' hw j v hj=>?_) (by rw[ct hg,ct hg,bR,ef,ef,ef];omega) (AV _) ?_
   ·obtain⟨i,x,k,h1,h2,rfl⟩:=oU hg _ _ _ hj
    have hi:=(aC.1 h1).1;rw[ef]at hi;have hk:k<2:=(aC.1 h2).1;refine hw.cK (k:=0) rfl (fy hg _ i x k v ?_ h2);rw[dG (by rw[ef];omega),h_,if_pos ag];rw[jI (aA h1)]
   rw[FM hg,ef,MX z gK m n _ (Nat.min_comm _ _) hmn];simp only[bS]
   repeat' (first|refine AC aq ?_|refine AB aq ?_|refine any_nil|refine pt aq ?_|refine any_cons ?_ ?_|refine k9 ?_|refine oD ?_|refine u6 rfl ?_|refine u5 rfl ag ag ?_)
   all_goals
    rw[<-Int.natCast_add]
   skip
   all_goals exact aV aw ag2
  ·refine aO ?_
   exact bC (m+min m (n-m)) ⟨ag,ag⟩ ag aw ag2
 ·have gT:m=n:=by have:=h1;simp at this;omega
  subst gT;rw[dq,List.replicate_zero,cq];refine aI ?_;exact cA rfl λw' hw=>⟨a,rfl,hw,trivial⟩
end
end Go.Proofs.YthfhgolkafpmnaaGreatDoor
