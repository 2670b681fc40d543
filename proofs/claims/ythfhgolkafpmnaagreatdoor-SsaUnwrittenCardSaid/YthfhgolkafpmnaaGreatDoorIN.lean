/- Texts joined: Rename ChainA ChainB DoOf TidyLaw. -/
import Derived.Test.YthfhgolkafpmnaaGreatDoorHF
import Derived.Test.YthfhgolkafpmnaaGreatDoorHN
import Derived.Test.YthfhgolkafpmnaaGreatDoorIF
import Derived.Test.YthfhgolkafpmnaaGreatDoorIJ
namespace Go.Proofs.YthfhgolkafpmnaaGreatDoor
section
open Go Go.RowKit
attribute [local irreducible] wpListIn Code.wpIn Exit.then Exit.inBlock bodyPost wpQuiet wpAnyIn wpAnyH bodyPostM gX
set_option maxHeartbeats 8000000
def bA(r:aR):bN:=bN.join (NI r::r.ps.map e7)
structure CK(bl:List ar)(bs:List aR)(b t:Nat)(D:List Int)(rs:List aR):Prop where
 len:rs.length=bs.length
 at':∀(x:Nat) r0 r,bs[x]?=some r0->rs[x]?=some r->r=gv r0 r.ps/\r.ps.length=r0.ps.length/\r.Bd/\r.ps.map cG.jW=if (x:Int)∈D then r0.ps.map (λq=>xt bl b t x q.jW)else r0.ps.map cG.jW
theorem CK.step{bl:List ar}{bs rs:List aR}{b t i d:Nat}{D:List Int}{r:aR}{es:List cG}(h:CK bl bs b t (D.take i) rs)(hd:D[i]?=some (d:Int))(XG:(d:Int)∉D.take i)(hr:rs[d]?=some r)(h1:es.length=r.ps.length)(h2:es.map cG.jW=r.ps.map (λq=>xt bl b t d q.jW))(h3:(gv r es).Bd):CK bl bs b t (D.take (i+1)) (rs.set d (gv r es)):=by
 have IC:=(aC.1 hr).1;refine⟨by rw[eA];exact h.len,λx r0 r' hx HF=>?_⟩;rw[cj,hd]
 by_cases e:d=x
 ·subst e
  rw[ey IC]at HF;obtain rfl:=be HF;obtain⟨g1,g2,_,g4⟩:=h.at' d r0 r hx hr;rw[if_neg XG]at g4;refine⟨?_,by unfold gv;simp only;omega,h3,?_⟩
  ·conv=>lhs;rw[g1]
   rfl
  ·rw[if_pos aH]
   show es.map cG.jW=_;rw[h2];have e3:∀l:List cG,l.map (λq=>xt bl b t d q.jW)=(l.map cG.jW).map (xt bl b t d):=λl=>by rw[eS];rfl
   rw[e3,e3,g4]
 ·rw[eR e]at HF
  obtain⟨g1,g2,g3,g4⟩:=h.at' x r0 r' hx HF;refine⟨g1,g2,g3,?_⟩;rw[g4];have hm:((x:Int)∈D.take i++(some (d:Int)).toList)↔(x:Int)∈D.take i:=by
   rw[bL];simp only[lr,bU];constructor
   ·rintro(h|h)
    ·exact h
    ·omega
   ·exact .inl
  by_cases e2:(x:Int)∈D.take i
  ·rw[if_pos e2,if_pos (hm.2 e2)]
  ·rw[if_neg e2,if_neg λh=>e2 (hm.1 h)]
theorem Ky{S:Nat->Prop}{w:World}:∀p v,(bX S w).cell? p=some v->w.cell? p=some v:=λp v hc=>by
 rw[<-hc];exact World.cell?_of_block (jg w (lU hc).1).symm
theorem Wd.My{S:Nat->Prop}{w0 w:World}{H1 H2:List bN}(h:Wd S w0 (H1++H2) w):∀p v,(bX S w0).cell? p=some v->(bX (cF H1) w).cell? p=some v:=λp v hc=>by
 have bT:=World.block_lt_of_cell? _ p hc;rw[j6]at bT;have Tq:=(lU hc).1;have hn:¬cF H1 p.block:=λ⟨e,he,hb⟩=>by
  have:=(h.own e (cC _ he) _ hb).1;exact this.elim Tq λh=>ag
 rw[<-hc];refine World.cell?_of_block ?_;rw[jg w hn,jg w0 Tq];exact h.cE.block _ bT Tq
theorem Rb(nm:ByteArray)(pa re:Int)(vb vo c p:Nat)(bs:List aR)(R b t:Nat)(T:aR)(hT:bs[t]?=some T)(hb:b<bs.length)(hbt:b≠t)(hlen:bs.length<=100)(hf:eX R (bs.map aR.eo))(sI:∀r∈bs,r.Bd)(w0:World)
  (hW:Wd (cF (bs.map bA)) w0 (bs.map bA) w0)
  (hp:bG (bX (cF (bs.map bA)) w0) p 0 [.string nm,.int .i64 pa,.int .i64 re,.slice (some ⟨vb,vo,none⟩) bs.length c])
  (hV:∀(x:Nat) r,bs[x]?=some r->bG (bX (cF (bs.map bA)) w0) vb (vo+x*6) (bg r))
  (jq:aM (bX (cF (bs.map bA)) w0) (.slice T.ta T.to.length T.tc) 1 T.to fj)
  (pG:∀w,Wd (cF (bs.map bA)) w0 (bs.map bA) w->aM w (.slice (some ⟨vb,vo,none⟩) bs.length c) 6 (bs.map aR.eo) ed):
  gV Tryz.prog 152 [.pointer (some ⟨p,0,none⟩),.int .i64 t,.int .i64 b] w0 λu w'=>∃rs:List aR,u=.tuple #[]/\Wd (cF (bs.map bA)) w0 (rs.map bA) w'/\CK (bs.map aR.eo) bs b t T.to rs:=by
 classical
 obtain⟨bl,iR⟩:∃bl,bl=bs.map aR.eo:=⟨_,rfl⟩;rw[<-iR]at hf pG⊢;have hg:=hf.iM;have xT:bl.length=bs.length:=by rw[iR,aG]
 obtain⟨n,hn⟩:∃n,n=bs.length:=⟨_,rfl⟩;rw[<-hn]at hb hlen hp pG xT;have xC:t<n:=by rw[hn];exact(aC.1 hT).1
 have S7:bl[t]?=some T.eo:=by rw[iR,aK,hT];rfl
 have acK:dd bl t=T.to:=by rw[fR S7];rfl
 have abH:T.to.Nodup:=(hf.block t _ S7).to;refine aQ Tryz.func152 rfl Tryz.ntmps152 rfl hW ?_;obtain⟨SS,C4⟩:∃SS,SS=cF (bs.map bA):=⟨_,rfl⟩;rw[<-C4]at hp hV jq pG⊢;have hpS:eI SS p:=iu hp aH;have hvS:eI SS vb:=iu (hV t T hT) (by simp[bg]);have afz:a_ w0 p 0 [.string nm,.int .i64 pa,.int .i64 re,.slice (some ⟨vb,vo,none⟩) n c]:=⟨λj v hj=>Ky _ _ (hp j v hj)⟩;have ac3:a_ w0 vb (vo+t*6) [.slice T.pa T.ps.length T.pc,.slice T.la T.xs.length T.lc,.int .i64 T.kind,.bool T.on.bD,.int .i64 T.on.n,.slice T.ta T.to.length T.tc]:=⟨λj v hj=>Ky _ _ (hV t T hT j v hj)⟩;have agc:bZ t n:=⟨xC⟩;refine aU ?_;refine cV (val:=λx:(Option Addr×Nat×Nat)×(Nat->Prop)=>.slice x.1.1 x.1.2.1 x.1.2.2) (E:=λx=>[⟨x.2,λw=>aM w (.slice x.1.1 x.1.2.1 x.1.2.2) 1 (bm bl) cS⟩]) (φ:=λ_=>True) rfl (λw hw=>fO _ _ _ bl (.slice (some ⟨vb,vo,none⟩) n c) w (pG w hw) ag hg) λx _=>?_;obtain⟨⟨aa,an,ac⟩,af⟩:=x;simp only[a6,aT];refine aO ?_;refine bj (H1:=bs.map bA++[(⟨af,λw=>aM w (.slice aa an ac) 1 (bm bl) cS⟩:bN)]) (dH (l₁:=[(⟨af,λw=>aM w (.slice aa an ac) 1 (bm bl) cS⟩:bN)])) ?_;refine nQ λw1 mz=>?_;have hle:=mz.My;have hpW:bG (bX (cF (bs.map bA)) w1) p 0 [.string nm,.int .i64 pa,.int .i64 re,.slice (some ⟨vb,vo,none⟩) n c]:=λj v hj=>hle _ _ (hp j v hj);have hVW:∀(x:Nat) r,bs[x]?=some r->bG (bX (cF (bs.map bA)) w1) vb (vo+x*6) (bg r):=λx r hr j v hj=>hle _ _ (hV x r hr j v hj);have abJ:aM (bX (cF (bs.map bA)) w1) (.slice T.ta T.to.length T.tc) 1 T.to fj:=jq.le lz hle;have zn:aM (bX (cF (bs.map bA)) w1) (.slice aa an ac) 1 (bm bl) cS:=mz.beside (e:=(⟨af,λw=>aM w (.slice aa an ac) 1 (bm bl) cS⟩:bN)) aH;have back:∀{E:List bN} {w:World},Wd (cF (bs.map bA)) (bX (cF (bs.map bA)) w1) E w->Wd SS w0 (E++[(⟨af,λw=>aM w (.slice aa an ac) 1 (bm bl) cS⟩:bN)]) w:=λhw=>mz.comp hw.mG;have x6:∀{E:List bN} {w:World},Wd (cF (bs.map bA)) (bX (cF (bs.map bA)) w1) E w->∀p v,(bX (cF (bs.map bA)) w1).cell? p=some v->w.cell? p=some v:=λhw=>hw.pH;have hold:∀{b o:Nat} {v:Value} {l:List Value},bG (bX (cF (bs.map bA)) w1) b o (v::l)->eI (cF (bs.map bA)) b:=λhc=>iu hc aH;generalize bX (cF (bs.map bA)) w1=wk at*;generalize cF (bs.map bA)=S2 at*;have agy:eI S2 p:=hold hpW;have agR:eI S2 vb:=hold (hVW t T hT);have aaB:a_ wk p 0 [.string nm,.int .i64 pa,.int .i64 re,.slice (some ⟨vb,vo,none⟩) n c]:=⟨hpW⟩;have B8:(bm bl).length=n:=by unfold bm;rw[fM,xT]
 obtain⟨EY,_⟩:=zn.at;rw[B8]at EY;subst an;have WZ:bm bl≠[]:=λe=>by rw[e]at B8;simp at B8;omega
 obtain⟨b8,o8,aam,VB,OZ⟩:=f_ zn hold (λ_ _ h=>by obtain⟨_,e,_⟩:=h;exact⟨_,_,e⟩) WZ;obtain⟨tn,sN⟩:∃tn,tn=T.to.length:=⟨_,rfl⟩;have TD:tn<=1000:=by
  have:=(sI T (aA hT)).to.1;omega
 rw[<-sN]at abJ⊢;refine bP (λ(x:Nat×List aR)=>x.1<=tn/\CK bl bs b t (T.to.take x.1) x.2) (λx=>[(30,.int .i64 x.1),(28,.slice T.ta tn T.tc),(29,.int .i64 tn),(6,.slice aa n ac),(0,.pointer (some ⟨p,0,none⟩)),(1,.int .i64 t),(2,.int .i64 b)]) (λx=>x.2.map bA) (λx=>tn-x.1) (0,bs) ⟨aY _,⟨rfl,λx r0 r h1 h2=>?_⟩⟩ (aV aw ag2) λx ⟨hi,kr⟩=>?_
 ·rw[h1]at h2
  obtain rfl:=be h2;exact⟨rfl,rfl,sI _ (aA h1),by rw[List.take_zero,if_neg aH]⟩
 obtain⟨i,rs⟩:=x;simp only at hi kr⊢;refine aU ?_;refine aN (λh1=>?_) (λh1=>?_)
 ·have iQ:i<tn:=by simpa using h1
  obtain⟨x,hx⟩:∃x,T.to[i]?=some x:=⟨_,aB ag⟩;have hxe:x∈dd bl t:=by rw[acK];exact aA hx
  have Ce:=qq hg hxe;obtain⟨d,rfl⟩:∃d:Nat,x=d:=⟨x.toNat,ag⟩;have hdn:d<n:=ag;obtain⟨b9,o9,afk,ae1,adj⟩:=f_ abJ hold (λ_ _ h=>⟨_,_,h.1⟩) (λe=>by rw[e]at hx;simp at hx);obtain⟨_,afB,rfl,_⟩:=adj i (d:Int) hx;have mW:bZ i tn:=⟨iQ⟩;have hld:bZ d n:=⟨hdn⟩;have fK:(bm bl)[d]?=some ((bf bl d).map λx:Nat=>(x:Int)):=gm hg (λb B hB=>(hf.block b B hB).to) (by rw[xT];exact hdn);obtain⟨_,aaA,rv,rfl,y8⟩:=OZ d _ fK;obtain⟨rva,rvn,rvc,_,_,rfl,Gt,_⟩:=id y8;rw[aG]at Gt;have TE:t∈bf bl d:=pg ag hxe;obtain⟨P,hP⟩:∃P,P=bf bl d:=⟨_,rfl⟩;rw[<-hP]at y8 Gt TE;have aeQ:P.length<=100:=by rw[hP];exact dB (ja _ _) (by rw[fG];omega)
  have acH:∀q∈P,q<n:=λq hq=>by rw[hP]at hq;have:=G7 bl d q hq;omega
  obtain⟨k,hk⟩:∃k,k=P.idxOf t:=⟨_,rfl⟩;have xz:k<P.length:=by rw[hk];exact ju TE
  subst Gt;refine aO ?_;refine bI rfl (λw hw=>zU _ P t w TE (y8.le lz (x6 hw))) ?_;rw[<-hk];obtain⟨kB,OS⟩:∃kB:Nat->Nat,kB=λi=>((P.take i).filter λa=>decide (a<b)&&decide (a≠t)).length:=⟨_,rfl⟩;have aaE:kB 0=0:=by rw[OS];rfl
  have aaF:∀i,kB i<=100:=λi=>by
   rw[OS];refine dB (ja _ _) ?_;rw[cU];omega
  refine aO ?_;refine bP (λ(m:Nat)=>m<=P.length) (λm=>[(45,.int .i64 m),(10,.int .i64 (kB m:Nat)),(43,.slice rva P.length rvc),(44,.int .i64 P.length),(9,.int .i64 k),(8,.int .i64 d),(30,.int .i64 i),(28,.slice T.ta tn T.tc),(29,.int .i64 tn),(6,.slice aa n ac),(0,.pointer (some ⟨p,0,none⟩)),(1,.int .i64 t),(2,.int .i64 b)]) (λm=>rs.map bA) (λm=>P.length-m) 0 (aY _) (aV (by rw[aaE];exact aw) ag2) λm hm=>?_;refine aU ?_;refine aN (λh2=>?_) (λh2=>?_)
  ·have rf:m<P.length:=by simpa using h2
   obtain⟨q,hq⟩:∃q,P[m]?=some q:=⟨_,aB rf⟩;have Zk:bZ m P.length:=⟨rf⟩;obtain⟨b7,o7,acM,abd,Xf⟩:=f_ y8 hold (λ_ _ h=>⟨_,_,h.1⟩) (λe=>by have:=aW hq;simp at e;exact this e);obtain⟨_,ac2,rfl,_⟩:=Xf m (q:Int) (by rw[aK,hq];rfl);have qw:kB (m+1)=kB m+if q<b/\q≠t then 1 else 0:=by
    rw[OS];simp only;rw[cj,hq,nI,bR];congr 1
    by_cases h5:q<b
    ·by_cases h6:q=t
     ·simp[h5,h6]
     ·simp[h5,h6]
    ·simp[h5]
   have zS:=aaF m;have hqn:=acH q (aA hq);refine aO ?_
   by_cases h5:q<b
   ·rw[show decide ((q:Int)<(b:Int))=true by simp[h5]]
    refine aI ?_
    by_cases h6:q=t
    ·have Mh:kB (m+1)=kB m:=by rw[qw,if_neg (λh=>h.2 h6)];rfl
     rw[show(!decide ((q:Int)=(t:Int)))=false by simp[h6]];rw[<-Mh];refine aO ?_;exact bC (m+1) rf ag aw ag2
    ·rw[if_pos ⟨h5,h6⟩]at qw
     rw[show(!decide ((q:Int)=(t:Int)))=true by simp;omega];refine aO ?_;rw[show((kB m:Nat):Int)+1=((kB (m+1):Nat):Int) by omega];exact bC (m+1) rf ag aw ag2
   ·have Mh:kB (m+1)=kB m:=by rw[qw,if_neg (λh=>h5 h.1)];rfl
    rw[show decide ((q:Int)<(b:Int))=false by simp;omega];rw[<-Mh];refine iL ?_;exact bC (m+1) rf ag aw ag2
  have hmP:m=P.length:=by have:=of_decide_eq_false h2;omega
  obtain⟨j,hj⟩:∃j,j=kB m:=⟨_,rfl⟩;have hjR:j=MW bl b t d:=by
   rw[hj,OS,hmP];simp only;rw[cO,hP]
   rfl
  have jE:j<=P.length-1:=by
   have h5:((P.filter λa=>decide (a<b)&&decide (a≠t))).length<P.length:=by
    refine nU (ja _ _) λe=>?_;have h6:=List.length_filter_eq_length_iff.1 e t TE;simp at h6
   rw[hj,OS,hmP];simp only;rw[cO];omega
  rw[<-hj];obtain⟨D,hD⟩:∃D,bs[d]?=some D:=⟨_,aB ag⟩;obtain⟨r,hr⟩:∃r,rs[d]?=some r:=⟨_,aB (by rw[kr.len];omega)⟩;obtain⟨hrw,qd,rh,Db⟩:=kr.at' d D r hD hr;have XG:(d:Int)∉T.to.take i:=λh=>by
   obtain⟨j2,hj2⟩:=br h;rw[rQ]at hj2
   split at hj2
   ·have h5:=(aC.1 hj2).1
    have h6:=(aC.1 hx).1;have h7:=List.Nodup.idxOf_getElem abH j2 h5;have h8:=List.Nodup.idxOf_getElem abH i h6;rw[(aC.1 hj2).2]at h7;rw[(aC.1 hx).2]at h8;omega
   ·cases hj2
  rw[if_neg XG]at Db;have hDb:bl[d]?=some D.eo:=by rw[iR,aK,hD];rfl
  have acE:=hf.block d _ hDb;have abq:∀q∈r.ps,q.l.length=P.length:=λq hq=>by
   have h5:q.jW∈D.ps.map cG.jW:=by rw[<-Db];exact aX.2 ⟨q,hq,rfl⟩
   have:=(acE.aL _ h5).len;rw[<-hP]at this;exact this
  have Te:a_ wk vb (vo+d*6) _:=⟨hVW d D hD⟩;have aei:r.pa=D.pa:=by rw[hrw];rfl
  have aej:r.pc=D.pc:=by rw[hrw];rfl
  simp only[bg]at Te;rw[<-qd,<-aei,<-aej]at Te;refine aI ?_;refine bj (H1:=bA r::((rs.eraseIdx d).map bA)) (iB bA hr) ?_;refine AF ?_;simp only[a6];obtain⟨ps,wV⟩:∃ps,ps=r.ps:=⟨_,rfl⟩;obtain⟨qa,Cu⟩:∃qa,qa=r.pa:=⟨_,rfl⟩;obtain⟨qc,VH⟩:∃qc,qc=r.pc:=⟨_,rfl⟩;have aee:=rh.aL;have abw:=rh.jW;unfold NI;rw[<-wV]at abq aee abw Te⊢;rw[<-Cu,<-VH]at Te⊢;refine bP (λ(es:List cG)=>es.length<=ps.length/\es.map cG.jW=(ps.take es.length).map (λq=>xt bl b t d q.jW)/\∀q∈es,c9 q.dst/\q.l.length<=1000/\∀v∈q.l,c9 v.n) (λes=>[(69,.int .i64 es.length),(67,.slice qa ps.length qc),(68,.int .i64 ps.length),(9,.int .i64 k),(10,.int .i64 j),(8,.int .i64 d),(30,.int .i64 i),(28,.slice T.ta tn T.tc),(29,.int .i64 tn),(6,.slice aa n ac),(0,.pointer (some ⟨p,0,none⟩)),(1,.int .i64 t),(2,.int .i64 b)])
   (λes=>ai qa ps.length qc 49 2 ((es++ps.drop es.length).flatMap ci)::((es++ps.drop es.length).map e7++((rs.eraseIdx d).map bA))) (λes=>ps.length-es.length) [] ⟨aY _,rfl,by simp⟩ (aV aw aH) λes ⟨hei,E0,ID⟩=>?_
  refine aU ?_;refine aN (λh3=>?_) (λh3=>?_)
  ·have bT:es.length<ps.length:=by simpa using h3
   generalize heL:es.length=ei at*;obtain⟨q,hq⟩:∃q,ps[ei]?=some q:=⟨_,aB bT⟩;have E5:=aA hq;have Cb:=abq q E5;obtain⟨XU,hqb,Kl⟩:=abw q E5;obtain⟨pd,l6,fL,pl⟩:=q;simp only at Cb XU hqb Kl;refine eW 0 rfl ag λzb zo Es=>?_;subst Es;have IH:bZ ei ps.length:=⟨bT⟩;have jS:(es++ps.drop ei)[ei]?=some (⟨pd,l6,fL,pl⟩:cG):=by
    rw[dg ag,heL,dq,g_,dL];exact hq
   have Vj:ps.drop ei=(⟨pd,l6,fL,pl⟩:cG)::ps.drop (ei+1):=by rw[lF bT,(aC.1 hq).2]
   have xB:((es++ps.drop ei).map e7++((rs.eraseIdx d).map bA)).Perm (e7 ⟨pd,l6,fL,pl⟩::((es++ps.drop (ei+1)).map e7++((rs.eraseIdx d).map bA))):=by
    rw[Vj];simp only[bB,bO,dE,a6];exact lm
   refine bj (H1:=e7 ⟨pd,l6,fL,pl⟩::ai (some ⟨zb,zo,none⟩) ps.length qc 49 2 ((es++ps.drop ei).flatMap ci)::((es++ps.drop (ei+1)).map e7++((rs.eraseIdx d).map bA))) ((xB.cons _).trans (List.Perm.swap _ _ _)) ?_;simp only[e7];refine eW 0 rfl ag λyb yo E8=>?_;subst E8;refine zP 0 rfl λ_ agC _=>?_;obtain⟨pv,Gs⟩:∃v,pl[k]?=some v:=⟨_,aB ag⟩;have xA:gj (ai (some ⟨yb,yo,none⟩) pl.length fL 41 2 (pl.flatMap df)::ai (some ⟨zb,zo,none⟩) ps.length qc 49 2 ((es++ps.drop ei).flatMap ci)::((es++ps.drop (ei+1)).map e7++((rs.eraseIdx d).map bA))) zb (zo+ei*2) _:=iT (k:=1) rfl ft jS;simp only[ci]at xA;have Pf:bZ k pl.length:=⟨ag⟩;have Pp:∀X:bN,gj (X::ai (some ⟨yb,yo,none⟩) pl.length fL 41 2 (pl.flatMap df)::ai (some ⟨zb,zo,none⟩) ps.length qc 49 2 ((es++ps.drop ei).flatMap ci)::((es++ps.drop (ei+1)).map e7++((rs.eraseIdx d).map bA))) yb (yo+k*2) _:=λX=>iT (k:=1) rfl eB Gs;simp only[df]at Pp
   repeat(first|refine aI ?_|refine dX λ_ _=>?_)
   rename_i kt _ VV _;have hao:z8 (k:Int) 1:=⟨ag,ag⟩;have iK:(pl.eraseIdx k).length=pl.length-1:=by rw[List.length_eraseIdx,if_pos ag]
   obtain⟨nl,B_⟩:∃nl,nl=(pl.eraseIdx k).insertIdx j pv:=⟨_,rfl⟩;have agk:nl.length=pl.length:=by rw[B_,List.length_insertIdx,if_pos ag];omega
   have adU:∀v∈nl,c9 v.n:=λv hv=>by
    rw[B_,IV pv j _ ag]at hv;rcases bL.1 hv with hv|hv
    ·exact Kl v (List.mem_of_mem_eraseIdx (qm hv))
    ·rcases bJ.1 hv with rfl|hv
     ·exact Kl _ (aA Gs)
     ·exact Kl v (List.mem_of_mem_eraseIdx (List.mem_of_mem_drop hv))
   have aaH:∀(R:List bN) (w:World),Wd S2 wk ([ai (some ⟨yb,yo,none⟩) pl.length fL 41 2 (pl.flatMap df)]++R) w->gV Tryz.prog 170 [.slice (some ⟨yb,yo,none⟩) pl.length fL,.int .i64 k,.int .i64 ((k:Int)+1)] w λu w'=>∃_x:Unit,u=.slice (some ⟨yb,yo,none⟩) (pl.length-1) fL/\Wd (cF [ai (some ⟨yb,yo,none⟩) pl.length fL 41 2 (pl.flatMap df)]) w [ai (some ⟨yb,yo,none⟩) (pl.length-1) fL 41 2 ((pl.eraseIdx k).flatMap df)] w'/\True:=λR w hw=>
    (FE (some ⟨yb,yo,none⟩) fL pl k ag hqb w hw.pre).mono λu w' ⟨h1,h2⟩=>⟨(),h1,h2,trivial⟩
   have nZ:∀(nb:Nat) (R:List bN) (w:World),Wd S2 wk ([ai (some ⟨yb,yo,none⟩) (pl.length-1) fL 41 2 ((pl.eraseIdx k).flatMap df),(λnb:Nat=>ai (some ⟨nb,0,none⟩) 1 1 41 2 [.bool pv.bD,.int .i64 pv.n]) nb]++R) w->gV Tryz.prog 169 [.slice (some ⟨yb,yo,none⟩) (pl.length-1) fL,.int .i64 j,.slice (some ⟨nb,0,none⟩) 1 1] w λu w'=>∃x:Option Addr×Nat,u=.slice x.1 nl.length x.2/\Wd (cF [ai (some ⟨yb,yo,none⟩) (pl.length-1) fL 41 2 ((pl.eraseIdx k).flatMap df),(λnb:Nat=>ai (some ⟨nb,0,none⟩) 1 1 41 2 [.bool pv.bD,.int .i64 pv.n]) nb]) w [ai x.1 nl.length x.2 41 2 (nl.flatMap df)] w'/\True:=λnb R w hw=>by
    have h9:=GG yb yo fL (pl.eraseIdx k) j pv nb ag ag ag w (by rw[iK];exact hw.pre);have e9:pl.length-1+1=nl.length:=ag;rw[iK,e9,<-B_]at h9;exact h9.mono λu w' ⟨x,h1,h2⟩=>⟨x,h1,h2,trivial⟩
   have mM:∀x:Option Addr×Nat,lN ((es++ps.drop ei).flatMap ci) (ei*2+1) (.slice x.1 nl.length x.2) (((es++[(λx:Option Addr×Nat=>(⟨pd,x.1,x.2,nl⟩:cG)) x])++ps.drop (ei+1)).flatMap ci):=λx=>⟨by
     rw[gh ft jS (k:=1) ag (y:=(λx:Option Addr×Nat=>(⟨pd,x.1,x.2,nl⟩:cG)) x) rfl];congr 1;exact nS heL bT,by rw[ct ft,bR,ez];omega⟩
   have VE:∀X:bN,mT (X::ai (some ⟨zb,zo,none⟩) ps.length qc 49 2 ((es++ps.drop ei).flatMap ci)::aj VV [.bool pv.bD,.int .i64 pv.n] 41::aj kt [.int .i64 pd,.slice (some ⟨yb,yo,none⟩) pl.length fL] 49::((es++ps.drop (ei+1)).map e7++((rs.eraseIdx d).map bA))) zb (zo+ei*2+1) 1 zo (ei*2+1) ps.length qc 49 2 ((es++ps.drop ei).flatMap ci):=λX=>⟨rfl,ag⟩;refine dR (aj VV [.bool pv.bD,.int .i64 pv.n] 41::aj kt [.int .i64 pd,.slice (some ⟨yb,yo,none⟩) pl.length fL] 49::((es++ps.drop (ei+1)).map e7++((rs.eraseIdx d).map bA))) (λ_:Option Addr×Nat=>True) (λ_=>[(69,.int .i64 ei),(67,.slice (some ⟨zb,zo,none⟩) ps.length qc),(68,.int .i64 ps.length),(9,.int .i64 k),(10,.int .i64 j),(8,.int .i64 d),(30,.int .i64 i),(28,.slice T.ta tn T.tc),(29,.int .i64 tn),(6,.slice aa n ac),(0,.pointer (some ⟨p,0,none⟩)),(1,.int .i64 t),(2,.int .i64 b)]) (λx=>(λx:Option Addr×Nat=>ai x.1 nl.length x.2 41 2 (nl.flatMap df)) x::(λx:Option Addr×Nat=>ai (some ⟨zb,zo,none⟩) ps.length qc 49 2 (((es++[(λx:Option Addr×Nat=>(⟨pd,x.1,x.2,nl⟩:cG)) x])++ps.drop (ei+1)).flatMap ci)) x::((es++ps.drop (ei+1)).map e7++((rs.eraseIdx d).map bA))) mixed ap ?_ λx _=>?_
   ·skip
    refine az 0 rfl aq ap ?_;refine az 1 rfl aq ap ?_;refine az 2 rfl aq ap ?_;refine az 3 rfl aq ap ?_;refine az 4 rfl aq ap ?_;refine az 5 rfl aq ap ?_;refine az 6 rfl aq ap ?_;refine az 7 rfl aq ap ?_;refine az 8 rfl aq ap ?_;refine az 9 rfl aq ap ?_;refine az 10 rfl aq ap ?_;refine az 11 rfl aq ap ?_;refine az 12 rfl aq ap ?_;refine az 13 rfl aq ap ?_;refine az 15 rfl aq ap ?_;refine az 16 rfl aq ap ?_;refine kG 14 17 aq ?_ ?_
    ·refine bj (H1:=[ai (some ⟨yb,yo,none⟩) pl.length fL 41 2 (pl.flatMap df)]++(ai (some ⟨zb,zo,none⟩) ps.length qc 49 2 ((es++ps.drop ei).flatMap ci)::aj VV [.bool pv.bD,.int .i64 pv.n] 41::aj kt [.int .i64 pd,.slice (some ⟨yb,yo,none⟩) pl.length fL] 49::((es++ps.drop (ei+1)).map e7++((rs.eraseIdx d).map bA)))) (aJ.2 λe=>by simp only[bu,bi,cd];omega) ?_
     refine nR 14 (val:=λ_:Unit=>.slice (some ⟨yb,yo,none⟩) (pl.length-1) fL) (E:=λ_=>[ai (some ⟨yb,yo,none⟩) (pl.length-1) fL 41 2 ((pl.eraseIdx k).flatMap df)]) (φ:=λ_=>True) rfl ap (aaH _) λ_ _=>?_;refine F4 17 rfl aq aq ap λnb _=>?_;refine bj (H1:=[ai (some ⟨yb,yo,none⟩) (pl.length-1) fL 41 2 ((pl.eraseIdx k).flatMap df),(λnb:Nat=>ai (some ⟨nb,0,none⟩) 1 1 41 2 [.bool pv.bD,.int .i64 pv.n]) nb]++(ai (some ⟨zb,zo,none⟩) ps.length qc 49 2 ((es++ps.drop ei).flatMap ci)::aj VV [.bool pv.bD,.int .i64 pv.n] 41::aj kt [.int .i64 pd,.slice (some ⟨yb,yo,none⟩) pl.length fL] 49::((es++ps.drop (ei+1)).map e7++((rs.eraseIdx d).map bA)))) (aJ.2 λe=>by simp only[bu,bi,cd];omega) ?_;refine mu 18 (val:=λx:Option Addr×Nat=>.slice x.1 nl.length x.2) (E:=λx=>[(λx:Option Addr×Nat=>ai x.1 nl.length x.2 41 2 (nl.flatMap df)) x]) (φ:=λ_=>True) rfl aq ap (nZ nb _) λx _=>?_;simp only[a6,aT];refine az 19 rfl aq ap ?_;refine az 20 rfl aq ap ?_;have Yq:=mM x;refine j3 21 aq aq ap ?_;exact dN x trivial aw ap
    ·refine ji 17 rfl aq ap λnb _=>?_
     refine bj (H1:=[ai (some ⟨yb,yo,none⟩) pl.length fL 41 2 (pl.flatMap df)]++((λnb:Nat=>ai (some ⟨nb,0,none⟩) 1 1 41 2 [.bool pv.bD,.int .i64 pv.n]) nb::ai (some ⟨zb,zo,none⟩) ps.length qc 49 2 ((es++ps.drop ei).flatMap ci)::aj VV [.bool pv.bD,.int .i64 pv.n] 41::aj kt [.int .i64 pd,.slice (some ⟨yb,yo,none⟩) pl.length fL] 49::((es++ps.drop (ei+1)).map e7++((rs.eraseIdx d).map bA)))) (aJ.2 λe=>by simp only[bu,bi,cd];omega) ?_;refine mu 14 (val:=λ_:Unit=>.slice (some ⟨yb,yo,none⟩) (pl.length-1) fL) (E:=λ_=>[ai (some ⟨yb,yo,none⟩) (pl.length-1) fL 41 2 ((pl.eraseIdx k).flatMap df)]) (φ:=λ_=>True) rfl aq ap (aaH _) λ_ _=>?_;refine bj (H1:=[ai (some ⟨yb,yo,none⟩) (pl.length-1) fL 41 2 ((pl.eraseIdx k).flatMap df),(λnb:Nat=>ai (some ⟨nb,0,none⟩) 1 1 41 2 [.bool pv.bD,.int .i64 pv.n]) nb]++(ai (some ⟨zb,zo,none⟩) ps.length qc 49 2 ((es++ps.drop ei).flatMap ci)::aj VV [.bool pv.bD,.int .i64 pv.n] 41::aj kt [.int .i64 pd,.slice (some ⟨yb,yo,none⟩) pl.length fL] 49::((es++ps.drop (ei+1)).map e7++((rs.eraseIdx d).map bA)))) (aJ.2 λe=>by simp only[bu,bi,cd];omega) ?_;refine mu 18 (val:=λx:Option Addr×Nat=>.slice x.1 nl.length x.2) (E:=λx=>[(λx:Option Addr×Nat=>ai x.1 nl.length x.2 41 2 (nl.flatMap df)) x]) (φ:=λ_=>True) rfl aq ap (nZ nb _) λx _=>?_;simp only[a6,aT];refine az 19 rfl aq ap ?_;refine az 20 rfl aq ap ?_;have Yq:=mM x;refine j3 21 aq aq ap ?_;exact dN x trivial aw ap
   obtain⟨na,nc⟩:=x;simp only;refine aO ?_;have kq:(es++[(⟨pd,na,nc,nl⟩:cG)]).length=ei+1:=by simp[heL]
   refine bj (H1:=ai (some ⟨zb,zo,none⟩) ps.length qc 49 2 (((es++[(⟨pd,na,nc,nl⟩:cG)])++ps.drop (es++[(⟨pd,na,nc,nl⟩:cG)]).length).flatMap ci)::(((es++[(⟨pd,na,nc,nl⟩:cG)])++ps.drop (es++[(⟨pd,na,nc,nl⟩:cG)]).length).map e7++((rs.eraseIdx d).map bA))) (aJ.2 λe=>?_) ?_
   ·have e2:e7 (⟨pd,na,nc,nl⟩:cG)=ai na nl.length nc 41 2 (nl.flatMap df):=rfl
    rw[kq];simp only[bB,bO,dp,bu,bi,cd,e2];omega
   refine jp (L':=[(69,.int .i64 ((es++[(⟨pd,na,nc,nl⟩:cG)]).length:Nat)),(67,.slice (some ⟨zb,zo,none⟩) ps.length qc),(68,.int .i64 ps.length),(9,.int .i64 k),(10,.int .i64 j),(8,.int .i64 d),(30,.int .i64 i),(28,.slice T.ta tn T.tc),(29,.int .i64 tn),(6,.slice aa n ac),(0,.pointer (some ⟨p,0,none⟩)),(1,.int .i64 t),(2,.int .i64 b)]) ?_ (.refl _) ?_
   ·rw[kq]
    exact aw
   refine bC (es++[(⟨pd,na,nc,nl⟩:cG)]) ⟨by rw[kq];omega,?_,λq2 Ct=>?_⟩ (by rw[kq];omega) aw ag2
   ·rw[kq,cj,hq,bB,bB,E0]
    simp only[lr,bO,dp,xt,cG.jW,<-hP,<-hk,<-hjR,cz,Gs,dF,B_]
   ·rcases bL.1 Ct with Ct|Ct
    ·exact ID q2 Ct
    ·rw[bU.1 Ct]
     exact⟨XU,by simp only;omega,adU⟩
  ·have gT:es.length=ps.length:=by have:=of_decide_eq_false h3;omega
   rw[gT,iH,cq];rw[gT,cO]at E0;have hwb:(gv r es).Bd:=⟨rh.kind,rh.on,by unfold gv;simp only;omega,ID,rh.list,rh.ins,rh.to⟩;have aeo:=kr.step hx XG hr (es:=es) (by rw[gT,wV]) (by rw[E0,wV]) hwb;refine nu (H':=(rs.set d (gv r es)).map bA) (λw hw=>?_) ?_
   ·have h5:Wd S2 wk ((NI (gv r es)::es.map e7)++((rs.eraseIdx d).map bA)) w:=by
     have e5:NI (gv r es)=ai qa ps.length qc 49 2 (es.flatMap ci):=by
      unfold NI gv;simp only[gT,Cu,VH]
     rw[e5];exact hw
    refine h5.join.perm ?_;have h6:=iB bA (l:=rs.set d (gv r es)) (k:=d) (x:=gv r es) (ey (aC.1 hr).1);rw[oL]at h6;exact h6.symm
   refine aI ?_;exact bC (i+1,rs.set d (gv r es)) ⟨iQ,aeo⟩ (by simp only;omega) aw ag2
 ·obtain rfl:tn=i:=by have:=of_decide_eq_false h1;omega
  rw[sN,cO]at kr;refine aI ?_;exact qH rfl λw hw=>⟨rs,rfl,(back hw).sub (dY _ _),kr⟩
end
section
open Go Go.RowKit
attribute [local irreducible] wpListIn Code.wpIn Exit.then Exit.inBlock bodyPost wpQuiet wpAnyIn wpAnyH bodyPostM gX
set_option maxHeartbeats 4000000
def lC(r:aR):List bN:=tx r::nE r::r.xs.map jo
def db(r:aR):bN:=bN.join (lC r)
section
variable {S:Nat->Prop} {w0 w:World} {H:List bN}
theorem Wd.Hl:∀{l:List aR} {H:List bN},Wd S w0 (l.map b_++H) w->Wd S w0 (l.map bA++(l.map db++H)) w
 |[],_,h=>h
 |r::l,H,h=>by
  classical
  have h1:Wd S w0 (jb r++(l.map b_++H)) w:=Wd.oA (H2:=l.map b_++H) h;have h2:Wd S w0 ((NI r::r.ps.map e7)++(lC r++(l.map b_++H))) w:=by
   refine h1.perm (aJ.2 λe=>?_);unfold jb NI lC tx nE;simp only[bu,bi];omega
  have h3:Wd S w0 (lC r++(bA r::(l.map b_++H))) w:=by
   refine h2.join.perm (aJ.2 λe=>?_);unfold bA;simp only[bu,bi];omega
  have h4:Wd S w0 (l.map b_++(db r::bA r::H)) w:=by
   refine h3.join.perm (aJ.2 λe=>?_);unfold db;simp only[bu,bi];omega
  refine(Wd.Hl h4).perm (aJ.2 λe=>?_);simp only[bO,bu,bi];omega
theorem Wd.Ew:∀{l:List aR} {H:List bN},Wd S w0 (l.map bA++(l.map db++H)) w->Wd S w0 (l.map b_++H) w
 |[],_,h=>h
 |r::l,H,h=>by
  classical
  have h1:Wd S w0 (bA r::(lC r++(l.map bA++(l.map db++H)))) w:=by
   have h0:Wd S w0 (db r::(bA r::(l.map bA++(l.map db++H)))) w:=by
    refine h.perm (aJ.2 λe=>?_);simp only[bO,bu,bi];omega
   refine h0.oA.perm (aJ.2 λe=>?_);simp only[bu,bi];omega
  have h2:Wd S w0 (jb r++(l.map bA++(l.map db++H))) w:=by
   refine h1.oA.perm (aJ.2 λe=>?_);unfold jb NI lC tx nE;simp only[bu,bi];omega
  have h3:Wd S w0 (l.map bA++(l.map db++(b_ r::H))) w:=by
   refine h2.join.perm (aJ.2 λe=>?_);unfold b_;simp only[bu,bi];omega
  refine(Wd.Ew h3).perm (aJ.2 λe=>?_);simp only[bO,bu,bi];omega
theorem Wd.HT{r:aR}(h:Wd S w0 (bA r::(lC r++H)) w)(hd:r.Bd):uU w r:=by
 classical
 refine Wd.a8 (H:=H) (b:=r) (h.oA.perm (aJ.2 λe=>?_)) hd;unfold jb NI lC tx nE;simp only[bu,bi];omega
theorem Wd.Wc{r:aR}(h:Wd S w0 (bA r::db r::H) w)(hd:r.Bd):uU w r:=by
 classical
 have h1:Wd S w0 (lC r++(bA r::H)) w:=Wd.oA (h.perm (List.Perm.swap _ _ _));refine Wd.HT (H:=H) (h1.perm (aJ.2 λe=>?_)) hd;simp only[bu,bi];omega
end
theorem count_set{α:Type}[DecidableEq α]{l:List α}{k:Nat}{x y:α}(h:l[k]?=some x)(e:α):(l.set k y).count e+[x].count e=l.count e+[y].count e:=by
 have h1:=aJ.1 (jz h) e;have h2:=aJ.1 (jz (l:=l.set k y) (k:=k) (e:=y) (ey (aC.1 h).1)) e;rw[oL]at h2;simp only[bi,cd]at h1 h2⊢;omega
theorem Wt{N:Nat}{ds:List Deferred}{S:Nat->Prop}{w0:World}{L:List (Nat×Value)}{H:List bN}{p:Act->World->Prop}{φ:Prop}(h:∀w,Wd S w0 H w->φ)(k:φ->G N ds S w0 L H p):G N ds S w0 L H p:=λa w hS=>k (h w hS.wd) a w hS
theorem Ij{R:Nat}{bl:List ar}{b t:Nat}(hf:eX R bl)(hb:b<bl.length)(ht:t<bl.length):eX R (bl.set b {a8 bl b with list:=(a8 bl b).list++(a8 bl t).list}):=by
 have jq:∀i,dd (bl.set b {a8 bl b with list:=(a8 bl b).list++(a8 bl t).list}) i=dd bl i:=λi=>by
  unfold dd;rw[dQ]
  by_cases e:b=i
  ·subst e
   rw[if_pos rfl,if_pos hb,bK hb]
  ·rw[if_neg e]
 have wU:∀c,bf (bl.set b {a8 bl b with list:=(a8 bl b).list++(a8 bl t).list}) c=bf bl c:=λc=>vU (by rw[eA]) jq c;refine⟨λC hC=>?_,λc C hc=>?_⟩
 ·rw[eA]
  rcases jM hC with hC|rfl
  ·exact hf.iM C hC
  ·have h:=hf.iM (a8 bl b) (aA (bK hb))
   exact h
 ·rw[dQ]at hc
  by_cases e:b=c
  ·subst e
   rw[if_pos rfl,if_pos hb]at hc;obtain rfl:=be hc;have hB:=hf.block b _ (bK hb);have hT:=hf.block t _ (bK ht);refine⟨λp hp=>?_,λx hx=>?_,hB.on,hB.to⟩
   ·rw[wU];exact hB.aL p hp
   ·rcases bL.1 hx with hx|hx
    ·exact hB.list x hx
    ·exact hT.list x hx
  ·rw[if_neg e]at hc
   have hB:=hf.block c C hc;exact⟨λp hp=>by rw[wU];exact hB.aL p hp,hB.list,hB.on,hB.to⟩
end
section
open Go Go.RowKit
attribute [local irreducible] wpListIn Code.wpIn Exit.then Exit.inBlock bodyPost wpQuiet wpAnyIn wpAnyH bodyPostM gX
set_option maxHeartbeats 8000000
theorem HY(nm:ByteArray)(pa re:Int)(a:Option Addr)(c:Nat)(bs:List aR)(R:Nat)(hlen:bs.length<=100)(dS:0<bs.length)(sI:∀r∈bs,r.Bd)(cW:sR R (bs.map aR.eo))(vg:dV (bs.map aR.eo)<=1000)(w0:World)
  (hW:Wd (cF (ff a c bs)) w0 (ff a c bs) w0):
  gV Tryz.prog 105 [.agg #[.string nm,.int .i64 pa,.int .i64 re,.slice a bs.length c]] w0 λu w'=>∃x:Option Addr×Nat×List aR,u=.agg #[.string nm,.int .i64 pa,.int .i64 re,.slice x.1 x.2.2.length x.2.1]/\Wd (cF (ff a c bs)) w0 (ff x.1 x.2.1 x.2.2) w'/\
   (x.2.2.map aR.eo=fx (bs.map aR.eo)/\∀b∈x.2.2,b.Bd):=by
 classical
 obtain⟨bl,iR⟩:∃bl,bl=bs.map aR.eo:=⟨_,rfl⟩;rw[<-iR]at cW vg⊢;obtain⟨n,hn⟩:∃n,n=bs.length:=⟨_,rfl⟩;have xT:bl.length=n:=by rw[iR,aG,hn]
 refine aQ Tryz.func105 rfl Tryz.ntmps105 rfl hW ?_;obtain⟨SS,C4⟩:∃SS,SS=cF (ff a c bs):=⟨_,rfl⟩;rw[<-C4];unfold ff;rw[<-hn]at hlen dS⊢;refine eW 0 rfl dS λvb vo nz=>?_;subst nz
 repeat(first|refine aO ?_|refine dX λ_ _=>?_)
 rename_i p1 _ p2 _;refine nu (H':=aj p2 [.string aE,.int .i64 0,.int .i64 0,.slice none 0 0] 35::aj p1 [.string nm,.int .i64 pa,.int .i64 re,.slice (some ⟨vb,vo,none⟩) n c] 35::ai (some ⟨vb,vo,none⟩) n c 46 6 (bs.flatMap bg)::(bs.map bA++bs.map db)) (λw hw=>?_) ?_
 ·have h1:Wd SS w0 (bs.map b_++[aj p2 [.string aE,.int .i64 0,.int .i64 0,.slice none 0 0] 35,aj p1 [.string nm,.int .i64 pa,.int .i64 re,.slice (some ⟨vb,vo,none⟩) n c] 35,ai (some ⟨vb,vo,none⟩) n c 46 6 (bs.flatMap bg)]) w:=hw.perm (dH (l₁:=[_,_,_]))
  refine h1.Hl.perm (aJ.2 λe=>?_);simp only[bu,bi,cd];omega
 skip
 have Td:=s7 cW;refine bP (λx:Nat×List aR=>x.1<=n/\x.2.length=n/\x.2.map aR.eo=j0 bl x.1/\∀r∈x.2,r.Bd) (λx=>[(3,.int .i64 x.1),(1,.pointer (some ⟨p1,0,none⟩)),(2,.pointer (some ⟨p2,0,none⟩))]) (λx=>aj p2 [.string aE,.int .i64 0,.int .i64 0,.slice none 0 0] 35::aj p1 [.string nm,.int .i64 pa,.int .i64 re,.slice (some ⟨vb,vo,none⟩) n c] 35::ai (some ⟨vb,vo,none⟩) n c 46 6 (x.2.flatMap bg)::(x.2.map bA++x.2.map db)) (λx=>n-x.1) (0,bs) ⟨aY _,hn.symm,by simp only;rw[<-iR];rfl,sI⟩ (aV aw ag2) λx ⟨hi,Cw,vH,um⟩=>?_;obtain⟨b,ys⟩:=x;simp only at hi Cw vH um⊢;refine aU ?_;refine aN (λh1=>?_) (λh1=>?_)
 case refine_2=>
  obtain rfl:n=b:=by have:=of_decide_eq_false h1;omega
  refine aI ?_;refine gH rfl λw hw=>⟨(some ⟨vb,vo,none⟩,c,ys),?_,?_,?_,um⟩
  ·simp only[Cw]
  ·have h2:Wd SS w0 (ys.map bA++(ys.map db++[ai (some ⟨vb,vo,none⟩) n c 46 6 (ys.flatMap bg)])) w:=by
    refine hw.pick ⟨[aj p2 [.string nm,.int .i64 pa,.int .i64 re,.slice (some ⟨vb,vo,none⟩) n c] 35,aj p1 [.string nm,.int .i64 pa,.int .i64 re,.slice (some ⟨vb,vo,none⟩) n c] 35],aJ.2 λe=>?_⟩;simp only[bu,bi,cd];omega
   refine h2.Ew.perm ?_;simp only;rw[Cw];exact dH
  ·simp only
   rw[vH];unfold fx;rw[xT]
 have pC:b<n:=by simpa using h1
 have Pc:bZ b n:=⟨pC⟩;obtain⟨C0,hC0⟩:∃C0,C0=kP (j0 bl b) b:=⟨_,rfl⟩;have TB:j0 bl (b+1)=C0:=by rw[u2,<-hC0]
 have ad3:=(Td b).1.ok cW;have adS:=(Td b).1.many;refine aO ?_;refine bP (λrs:List aR=>rs.length=n/\sR R (rs.map aR.eo)/\dV (rs.map aR.eo)<=1000/\kP (rs.map aR.eo) b=C0/\∀r∈rs,r.Bd) (λ_=>[(4,.pointer (some ⟨vb,vo+b*6,none⟩)),(3,.int .i64 b),(1,.pointer (some ⟨p1,0,none⟩)),(2,.pointer (some ⟨p2,0,none⟩))]) (λrs=>aj p2 [.string aE,.int .i64 0,.int .i64 0,.slice none 0 0] 35::aj p1 [.string nm,.int .i64 pa,.int .i64 re,.slice (some ⟨vb,vo,none⟩) n c] 35::ai (some ⟨vb,vo,none⟩) n c 46 6 (rs.flatMap bg)::(rs.map bA++rs.map db)) (λrs=>Ix (rs.map aR.eo)) ys ⟨Cw,by rw[vH];exact ad3,by rw[vH,adS];exact vg,by rw[vH,hC0],um⟩ (aV aw ag2) λrs ⟨qd,VK,Db,NE,rh⟩=>?_;obtain⟨l,hl⟩:∃l,l=rs.map aR.eo:=⟨_,rfl⟩;rw[<-hl]at VK Db NE;have Kf:l.length=n:=by rw[hl,aG,qd]
 have hg:=VK.ok.iM;obtain⟨B,hB⟩:∃B,rs[b]?=some B:=⟨_,aB ag⟩;have RV:a8 l b=B.eo:=kO (by rw[hl,aK,hB];rfl);have hcB:∀(q:Nat) v,(bg B)[q]?=some v->(rs.flatMap bg)[b*6+q]?=some v:=λq v hv=>fy dC rs b B q v hB hv;have abb:∀(X1 X2:bN) (Y:List bN),fe (X1::X2::ai (some ⟨vb,vo,none⟩) n c 46 6 (rs.flatMap bg)::Y) vb (vo+b*6+2) (.int .i64 B.kind):=λ_ _ _=>⟨λ_ _ _ hw=>by have:=hw.cK (k:=2) rfl (hcB 2 _ rfl);rwa[<-dA]at this⟩;refine aU ?_
 by_cases Ej:B.kind=2
 case neg=>
  rw[show decide (B.kind=2)=false by simp[Ej]];refine aI ?_;have OR:mi l b=none:=by unfold mi;rw[if_neg (λh=>Ej (by rw[RV]at h;exact h.1))]
  rw[kQ OR]at NE;exact bC (b+1,rs) ⟨pC,qd,by simp only;rw[TB,<-hl,NE],rh⟩ (by simp only;omega) aw ag2
 rw[show decide (B.kind=2)=true by simp[Ej]];have Ei:(a8 l b).kind=2:=by rw[RV];exact Ej
 obtain⟨_,jq,xC⟩:=Kz VK.kind hg Ei;obtain⟨t,htD⟩:∃t,t=oz l b:=⟨_,rfl⟩;rw[<-htD]at jq xC;rw[RV]at jq;have Z_:B.to=[(t:Int)]:=jq;have WD:B.to.length=1:=by rw[Z_];rfl
 have sN:t<n:=ag;have aa2:db B∈rs.map db:=aX.2 ⟨B,aA hB,rfl⟩;have abh:∀(X:List bN) (S:Nat->Prop) (w0 w:World),Wd S w0 (X++(rs.map bA++rs.map db)) w->∃Y,Wd S w0 (lC B++Y) w:=λX S w0 w hw=>by
  obtain⟨k,hk⟩:=br (dt X (dt (rs.map bA) aa2));exact⟨_,(hw.perm (jz hk)).oA⟩
 refine Wt (φ:=∃tb tz,B.ta=some ⟨tb,tz,none⟩) (λw hw=>?_) λ⟨tb,tz,wl⟩=>?_
 ·obtain⟨Y,h2⟩:=abh [aj p2 [.string aE,.int .i64 0,.int .i64 0,.slice none 0 0] 35,aj p1 [.string nm,.int .i64 pa,.int .i64 re,.slice (some ⟨vb,vo,none⟩) n c] 35,ai (some ⟨vb,vo,none⟩) n c 46 6 (rs.flatMap bg)] _ _ _ hw
  obtain⟨_,h3⟩:=h2.get (k:=1) rfl;rcases h3 with⟨_,h3,_⟩|⟨g,pre,sp,h3,_⟩
  ·rw[WD]at h3
   omega
  ·exact⟨_,_,h3⟩
 have agr:∀(X1 X2:bN) (Y:List bN),fe (X1::X2::ai (some ⟨vb,vo,none⟩) n c 46 6 (rs.flatMap bg)::Y) vb (vo+b*6+4+1) (.slice (some ⟨tb,tz,none⟩) 1 B.tc):=λ_ _ _=>⟨λ_ _ _ hw=>by
  have:=hw.cK (k:=2) rfl (hcB 5 _ rfl);rw[wl,WD]at this;exact this⟩
 have aeZ:∀(X1 X2:bN) (Y:List bN),fe (X1::X2::ai (some ⟨vb,vo,none⟩) n c 46 6 (rs.flatMap bg)::Y) vb (vo+b*6+2+3) (.slice (some ⟨tb,tz,none⟩) 1 B.tc):=λ_ _ _=>⟨λ_ _ _ hw=>by
  have:=hw.cK (k:=2) rfl (hcB 5 _ rfl);rw[wl,WD]at this;exact this⟩
 have ags:fe (aj p2 [.string aE,.int .i64 0,.int .i64 0,.slice none 0 0] 35::aj p1 [.string nm,.int .i64 pa,.int .i64 re,.slice (some ⟨vb,vo,none⟩) n c] 35::ai (some ⟨vb,vo,none⟩) n c 46 6 (rs.flatMap bg)::(rs.map bA++rs.map db)) tb (tz+0*1) (.int .i64 t):=⟨λ_ _ _ hw=>by
  obtain⟨Y,h2⟩:=abh [aj p2 [.string aE,.int .i64 0,.int .i64 0,.slice none 0 0] 35,aj p1 [.string nm,.int .i64 pa,.int .i64 re,.slice (some ⟨vb,vo,none⟩) n c] 35,ai (some ⟨vb,vo,none⟩) n c 46 6 (rs.flatMap bg)] _ _ _ hw;refine h2.cK (k:=1) (j:=0*1) (n:=B.to.length) (c:=B.tc) (e:=3) (s:=1) (xs:=B.to.map (.int .i64)) (by rw[<-wl];rfl) ?_;rw[Z_]
  rfl⟩
 have afV:bZ 0 1:=⟨ag⟩;obtain⟨T,hT⟩:∃T,rs[t]?=some T:=⟨_,aB ag⟩;have S7:a8 l t=T.eo:=kO (by rw[hl,aK,hT];rfl);have bT:bZ t n:=⟨sN⟩;have hoT:gj (aj p2 [.string aE,.int .i64 0,.int .i64 0,.slice none 0 0] 35::aj p1 [.string nm,.int .i64 pa,.int .i64 re,.slice (some ⟨vb,vo,none⟩) n c] 35::ai (some ⟨vb,vo,none⟩) n c 46 6 (rs.flatMap bg)::(rs.map bA++rs.map db)) vb (vo+t*6) _:=iT (k:=2) rfl dC hT;simp only[bg]at hoT
 repeat(first|refine aI ?_|refine dX λ_ _=>?_)
 rename_i p6 _
 by_cases Mi:t=b
 ·rw[show decide ((t:Int)=(b:Int))=true by simp[Mi]]
  have OR:mi l b=none:=by unfold mi;rw[<-htD,if_neg (λh=>h.2.1 Mi)]
  rw[kQ OR]at NE;refine iL ?_;exact bC (b+1,rs) ⟨pC,qd,by simp only;rw[TB,<-hl,NE],rh⟩ (by simp only;omega) aw ap
 rw[show decide ((t:Int)=(b:Int))=false by simp;omega];refine aI ?_
 by_cases wV:T.ps.length=0
 case neg=>
  rw[show decide ((0:Int)<(T.ps.length:Int))=true from decide_eq_true ag];have OR:mi l b=none:=by
   unfold mi;rw[<-htD,if_neg (λh=>wV ?_)];have:=h.2.2.1;rw[S7]at this;have:=congrArg List.length this;unfold aR.eo at this;rw[aG]at this;exact this
  rw[kQ OR]at NE;refine iL ?_;exact bC (b+1,rs) ⟨pC,qd,by simp only;rw[TB,<-hl,NE],rh⟩ (by simp only;omega) aw ap
 rw[show decide ((0:Int)<(T.ps.length:Int))=false from decide_eq_false ag];refine aI ?_;have En:∀(X:List bN) (w:World),Wd SS w0 (X++(ai (some ⟨vb,vo,none⟩) n c 46 6 (rs.flatMap bg)::(rs.map bA++rs.map db))) w->aM w (.slice (some ⟨vb,vo,none⟩) n c) 6 l ed:=λX w hw=>by
  have h2:Wd SS w0 (rs.map bA++(rs.map db++[ai (some ⟨vb,vo,none⟩) n c 46 6 (rs.flatMap bg)])) w:=by
   refine hw.pick ⟨X,aJ.2 λe=>?_⟩;simp only[bu,bi,cd];omega
  have h3:=Wd.blocks (H:=[]) (ba:=some ⟨vb,vo,none⟩) (bc:=c) (bs:=rs) (by rw[cq,qd];exact h2.Ew.perm dH) ag rh;rw[qd,<-hl]at h3;exact h3
 refine cV (val:=λx:(Option Addr×Nat×Nat)×(Nat->Prop)=>.slice x.1.1 x.1.2.1 x.1.2.2) (E:=λx=>[⟨x.2,λw=>aM w (.slice x.1.1 x.1.2.1 x.1.2.2) 1 (bm l) cS⟩]) (φ:=λ_=>True) rfl (λw hw=>fO _ _ _ l (.slice (some ⟨vb,vo,none⟩) n c) w (En [aj p6 [.slice T.pa T.ps.length T.pc,.slice T.la T.xs.length T.lc,.int .i64 T.kind,.bool T.on.bD,.int .i64 T.on.n,.slice T.ta T.to.length T.tc] 46,aj p2 [.string aE,.int .i64 0,.int .i64 0,.slice none 0 0] 35,aj p1 [.string nm,.int .i64 pa,.int .i64 re,.slice (some ⟨vb,vo,none⟩) n c] 35] w hw) ag hg) λx _=>?_;obtain⟨⟨aa,an,ac⟩,af⟩:=x;simp only[a6,aT];refine bj (H1:=(aj p6 [.slice T.pa T.ps.length T.pc,.slice T.la T.xs.length T.lc,.int .i64 T.kind,.bool T.on.bD,.int .i64 T.on.n,.slice T.ta T.to.length T.tc] 46::aj p2 [.string aE,.int .i64 0,.int .i64 0,.slice none 0 0] 35::aj p1 [.string nm,.int .i64 pa,.int .i64 re,.slice (some ⟨vb,vo,none⟩) n c] 35::ai (some ⟨vb,vo,none⟩) n c 46 6 (rs.flatMap bg)::(rs.map bA++rs.map db))++[(⟨af,λw=>aM w (.slice aa an ac) 1 (bm l) cS⟩:bN)]) (dH (l₁:=[(⟨af,λw=>aM w (.slice aa an ac) 1 (bm l) cS⟩:bN)])) ?_;have fK:(bm l)[t]?=some ((bf l t).map λx:Nat=>(x:Int)):=gm hg (λb B hB=>(VK.ok.block b B hB).to) ag;refine nQ λw1 mz=>?_;have zn:aM (bX (cF (aj p6 [.slice T.pa T.ps.length T.pc,.slice T.la T.xs.length T.lc,.int .i64 T.kind,.bool T.on.bD,.int .i64 T.on.n,.slice T.ta T.to.length T.tc] 46::aj p2 [.string aE,.int .i64 0,.int .i64 0,.slice none 0 0] 35::aj p1 [.string nm,.int .i64 pa,.int .i64 re,.slice (some ⟨vb,vo,none⟩) n c] 35::ai (some ⟨vb,vo,none⟩) n c 46 6 (rs.flatMap bg)::(rs.map bA++rs.map db))) w1) (.slice aa an ac) 1 (bm l) cS:=mz.beside (e:=(⟨af,λw=>aM w (.slice aa an ac) 1 (bm l) cS⟩:bN)) aH
 have back:∀{w:World},Wd (cF (aj p6 [.slice T.pa T.ps.length T.pc,.slice T.la T.xs.length T.lc,.int .i64 T.kind,.bool T.on.bD,.int .i64 T.on.n,.slice T.ta T.to.length T.tc] 46::aj p2 [.string aE,.int .i64 0,.int .i64 0,.slice none 0 0] 35::aj p1 [.string nm,.int .i64 pa,.int .i64 re,.slice (some ⟨vb,vo,none⟩) n c] 35::ai (some ⟨vb,vo,none⟩) n c 46 6 (rs.flatMap bg)::(rs.map bA++rs.map db))) (bX (cF (aj p6 [.slice T.pa T.ps.length T.pc,.slice T.la T.xs.length T.lc,.int .i64 T.kind,.bool T.on.bD,.int .i64 T.on.n,.slice T.ta T.to.length T.tc] 46::aj p2 [.string aE,.int .i64 0,.int .i64 0,.slice none 0 0] 35::aj p1 [.string nm,.int .i64 pa,.int .i64 re,.slice (some ⟨vb,vo,none⟩) n c] 35::ai (some ⟨vb,vo,none⟩) n c 46 6 (rs.flatMap bg)::(rs.map bA++rs.map db))) w1) (aj p6 [.slice T.pa T.ps.length T.pc,.slice T.la T.xs.length T.lc,.int .i64 T.kind,.bool T.on.bD,.int .i64 T.on.n,.slice T.ta T.to.length T.tc] 46::aj p2 [.string aE,.int .i64 0,.int .i64 0,.slice none 0 0] 35::aj p1 [.string nm,.int .i64 pa,.int .i64 re,.slice (some ⟨vb,vo,none⟩) n c] 35::ai (some ⟨vb,vo,none⟩) n c 46 6 (rs.flatMap bg)::(rs.map bA++rs.map db)) w->Wd SS w0 ((aj p6 [.slice T.pa T.ps.length T.pc,.slice T.la T.xs.length T.lc,.int .i64 T.kind,.bool T.on.bD,.int .i64 T.on.n,.slice T.ta T.to.length T.tc] 46::aj p2 [.string aE,.int .i64 0,.int .i64 0,.slice none 0 0] 35::aj p1 [.string nm,.int .i64 pa,.int .i64 re,.slice (some ⟨vb,vo,none⟩) n c] 35::ai (some ⟨vb,vo,none⟩) n c 46 6 (rs.flatMap bg)::(rs.map bA++rs.map db))++[(⟨af,λw=>aM w (.slice aa an ac) 1 (bm l) cS⟩:bN)]) w:=λhw=>mz.comp hw.mG;have hold:∀{b o:Nat} {v:Value} {l:List Value},bG (bX (cF (aj p6 [.slice T.pa T.ps.length T.pc,.slice T.la T.xs.length T.lc,.int .i64 T.kind,.bool T.on.bD,.int .i64 T.on.n,.slice T.ta T.to.length T.tc] 46::aj p2 [.string aE,.int .i64 0,.int .i64 0,.slice none 0 0] 35::aj p1 [.string nm,.int .i64 pa,.int .i64 re,.slice (some ⟨vb,vo,none⟩) n c] 35::ai (some ⟨vb,vo,none⟩) n c 46 6 (rs.flatMap bg)::(rs.map bA++rs.map db))) w1) b o (v::l)->eI (cF (aj p6 [.slice T.pa T.ps.length T.pc,.slice T.la T.xs.length T.lc,.int .i64 T.kind,.bool T.on.bD,.int .i64 T.on.n,.slice T.ta T.to.length T.tc] 46::aj p2 [.string aE,.int .i64 0,.int .i64 0,.slice none 0 0] 35::aj p1 [.string nm,.int .i64 pa,.int .i64 re,.slice (some ⟨vb,vo,none⟩) n c] 35::ai (some ⟨vb,vo,none⟩) n c 46 6 (rs.flatMap bg)::(rs.map bA++rs.map db))) b:=λhc=>iu hc aH;generalize bX (cF (aj p6 [.slice T.pa T.ps.length T.pc,.slice T.la T.xs.length T.lc,.int .i64 T.kind,.bool T.on.bD,.int .i64 T.on.n,.slice T.ta T.to.length T.tc] 46::aj p2 [.string aE,.int .i64 0,.int .i64 0,.slice none 0 0] 35::aj p1 [.string nm,.int .i64 pa,.int .i64 re,.slice (some ⟨vb,vo,none⟩) n c] 35::ai (some ⟨vb,vo,none⟩) n c 46 6 (rs.flatMap bg)::(rs.map bA++rs.map db))) w1=wk at*
 generalize cF (aj p6 [.slice T.pa T.ps.length T.pc,.slice T.la T.xs.length T.lc,.int .i64 T.kind,.bool T.on.bD,.int .i64 T.on.n,.slice T.ta T.to.length T.tc] 46::aj p2 [.string aE,.int .i64 0,.int .i64 0,.slice none 0 0] 35::aj p1 [.string nm,.int .i64 pa,.int .i64 re,.slice (some ⟨vb,vo,none⟩) n c] 35::ai (some ⟨vb,vo,none⟩) n c 46 6 (rs.flatMap bg)::(rs.map bA++rs.map db))=S2 at*;have B8:(bm l).length=n:=by unfold bm;rw[fM,Kf]
 obtain⟨EY,_⟩:=zn.at;rw[B8]at EY;subst an;obtain⟨b8,o8,aam,VB,OZ⟩:=f_ zn hold (λ_ _ h=>by obtain⟨_,e,_⟩:=h;exact⟨_,_,e⟩) (aW fK);obtain⟨_,aaA,rv,rfl,y8⟩:=OZ t _ fK;obtain⟨rva,rvn,rvc,_,_,rfl,Gt,_⟩:=id y8;rw[aG]at Gt;subst Gt;refine aI ?_
 by_cases wU:1<(bf l t).length
 ·rw[show decide ((1:Int)<((bf l t).length:Int))=true by simp;omega]
  have OR:mi l b=none:=by
   unfold mi;rw[<-htD,if_neg (λh=>by have:=h.2.2.2;omega)]
  rw[kQ OR]at NE;refine aI ?_;refine nY back ?_;exact bC (b+1,rs) ⟨pC,qd,by simp only;rw[TB,<-hl,NE],rh⟩ (by simp only;omega) aw (.cons _ (dY _ _))
 rw[show decide ((1:Int)<((bf l t).length:Int))=false by simp;omega];have Cs:(a8 l t).aL=[]:=by
  rw[S7];unfold aR.eo;rw[kN wV]
  rfl
 have hcj:mi l b=some t:=by
  unfold mi;rw[<-htD,if_pos ⟨Ei,Mi,Cs,ag⟩]
 have hj:=(ng VK.kind hg).1 hcj;have eH:b≠t:=λe=>Mi e.symm;refine oP ?_;refine nY back ?_;obtain⟨RL,hRp,hRm⟩:=VX db hB hT eH;refine nu (H':=aj p2 [.string aE,.int .i64 0,.int .i64 0,.slice none 0 0] 35::aj p1 [.string nm,.int .i64 pa,.int .i64 re,.slice (some ⟨vb,vo,none⟩) n c] 35::aj p6 [.slice T.pa T.ps.length T.pc,.slice T.la T.xs.length T.lc,.int .i64 T.kind,.bool T.on.bD,.int .i64 T.on.n,.slice T.ta T.to.length T.tc] 46::ai (some ⟨vb,vo,none⟩) n c 46 6 (rs.flatMap bg)::tx B::tx T::((nE B::nE T::(B.xs.map jo++(T.xs.map jo++RL)))++rs.map bA)) (λw hw=>?_) ?_
 ·have h2:Wd SS w0 (lC B++(db T::(aj p2 [.string aE,.int .i64 0,.int .i64 0,.slice none 0 0] 35::aj p1 [.string nm,.int .i64 pa,.int .i64 re,.slice (some ⟨vb,vo,none⟩) n c] 35::aj p6 [.slice T.pa T.ps.length T.pc,.slice T.la T.xs.length T.lc,.int .i64 T.kind,.bool T.on.bD,.int .i64 T.on.n,.slice T.ta T.to.length T.tc] 46::ai (some ⟨vb,vo,none⟩) n c 46 6 (rs.flatMap bg)::(RL++(rs.map bA++[(⟨af,λw=>aM w (.slice aa n ac) 1 (bm l) cS⟩:bN)]))))) w:=by
   refine Wd.oA (hw.perm (aJ.2 λe=>?_));have h4:=aJ.1 hRp e;simp only[bi,bu,cd,db]at h4⊢;omega
  have h3:Wd SS w0 (lC T++(lC B++(aj p2 [.string aE,.int .i64 0,.int .i64 0,.slice none 0 0] 35::aj p1 [.string nm,.int .i64 pa,.int .i64 re,.slice (some ⟨vb,vo,none⟩) n c] 35::aj p6 [.slice T.pa T.ps.length T.pc,.slice T.la T.xs.length T.lc,.int .i64 T.kind,.bool T.on.bD,.int .i64 T.on.n,.slice T.ta T.to.length T.tc] 46::ai (some ⟨vb,vo,none⟩) n c 46 6 (rs.flatMap bg)::(RL++(rs.map bA++[(⟨af,λw=>aM w (.slice aa n ac) 1 (bm l) cS⟩:bN)]))))) w:=by
   refine Wd.oA (h2.perm (aJ.2 λe=>?_));simp only[bi,bu,db];omega
  refine h3.pick ⟨[(⟨af,λw=>aM w (.slice aa n ac) 1 (bm l) cS⟩:bN)],aJ.2 λe=>?_⟩;unfold lC;simp only[bi,bu,cd];omega
 have B7:=rh B (aA hB);have yX:=rh T (aA hT);have hBT:B.xs.length+T.xs.length<=1000:=by
  have h5:=Qh l b t;rw[RV,S7]at h5;unfold aR.eo at h5;simp only[aG]at h5;rcases h5 with h5|h5
  ·omega
  ·exact absurd h5 eH
 have XK:∀(X1 X2 X3:bN) (Y:List bN),fe (X1::X2::X3::ai (some ⟨vb,vo,none⟩) n c 46 6 (rs.flatMap bg)::Y) vb (vo+b*6+1) (.slice B.la B.xs.length B.lc):=λ_ _ _ _=>⟨λ_ _ _ hw=>by have:=hw.cK (k:=3) rfl (hcB 1 _ rfl);rwa[<-dA]at this⟩;obtain⟨B1,Z6⟩:∃B1:Option Addr×Nat->aR,B1=λx=>{B with la:=x.1,lc:=x.2,xs:=B.xs++T.xs}:=⟨_,rfl⟩;have acA:∀x,bg (B1 x)=(bg B).set 1 (.slice x.1 (B.xs.length+T.xs.length) x.2):=λx=>by
  rw[Z6];unfold bg;simp only[bR]
  rfl
 have agx:∀(X1 X2 X3:bN) (Y:List bN),mT (X1::X2::X3::ai (some ⟨vb,vo,none⟩) n c 46 6 (rs.flatMap bg)::Y) vb (vo+b*6+1) 3 vo (b*6+1) n c 46 6 (rs.flatMap bg):=λ_ _ _ _=>⟨rfl,ag⟩;have aeD:∀na nc,lN (rs.flatMap bg) (b*6+1) (.slice na (B.xs.length+T.xs.length) nc) ((rs.set b (B1 (na,nc))).flatMap bg):=λna nc=>⟨gh dC hB (by decide) (acA (na,nc)).symm,by rw[ct dC];omega⟩;refine aO ?_;refine dR [aj p6 [.slice T.pa T.ps.length T.pc,.slice T.la T.xs.length T.lc,.int .i64 T.kind,.bool T.on.bD,.int .i64 T.on.n,.slice T.ta T.to.length T.tc] 46] (λ_:Option Addr×Nat=>True) (λ_=>[(5,.int .i64 t),(6,.pointer (some ⟨p6,0,none⟩)),(4,.pointer (some ⟨vb,vo+b*6,none⟩)),(3,.int .i64 b),(1,.pointer (some ⟨p1,0,none⟩)),(2,.pointer (some ⟨p2,0,none⟩))]) (λy=>aj p2 [.string aE,.int .i64 0,.int .i64 0,.slice none 0 0] 35::aj p1 [.string nm,.int .i64 pa,.int .i64 re,.slice (some ⟨vb,vo,none⟩) n c] 35::aj p6 [.slice T.pa T.ps.length T.pc,.slice T.la T.xs.length T.lc,.int .i64 T.kind,.bool T.on.bD,.int .i64 T.on.n,.slice T.ta T.to.length T.tc] 46::ai (some ⟨vb,vo,none⟩) n c 46 6 ((rs.set b (B1 y)).flatMap bg)::(λy:Option Addr×Nat=>ai y.1 (B.xs.length+T.xs.length) y.2 56 8 ((B.xs++T.xs).flatMap eE)) y::tx T::((nE B::nE T::(B.xs.map jo++(T.xs.map jo++RL)))++rs.map bA)) mixed ap ?_ λy _=>?_
 ·skip
  refine az 0 rfl aq ap ?_;refine az 1 rfl aq ap ?_;refine az 2 rfl aq ap ?_;refine az 3 rfl aq ap ?_;refine az 5 rfl aq ap ?_;refine az 6 rfl aq ap ?_;refine ck 4 aq (eY 4 rfl ap ?_);refine LQ 7 4 rfl rfl rfl T.xs (V:=NU) eE (λ_ _ _ h=>h) jj (λx u hu=>?_) (λw hw=>oO hw (k:=5) rfl jj ag) ag ag aq (λ_=>ap) λna nc=>?_
  ·unfold eE at hu
   simp only[bJ,iI,or_false]at hu;rcases hu with rfl|rfl|rfl|rfl|rfl|rfl|rfl|rfl<;>rfl
  rw[<-gO];simp only[cn,bS];refine az 8 rfl aq ap ?_;refine az 9 rfl aq ap ?_;have ae5:=aeD na nc;refine j3 10 aq aq ap ?_;exact dN (na,nc) trivial aw ag2
 obtain⟨na,nc⟩:=y;simp only;obtain⟨Lo,Z7⟩:∃Lo,Lo=B1 (na,nc):=⟨_,rfl⟩;rw[<-Z7];have F2:Lo={B with la:=na,lc:=nc,xs:=B.xs++T.xs}:=by rw[Z7,Z6]
 obtain⟨r1,Mf⟩:∃r1,r1=rs.set b Lo:=⟨_,rfl⟩;rw[<-Mf];have Pu:r1.length=n:=by rw[Mf,eA];exact qd
 have Tv:r1[b]?=some Lo:=by rw[Mf];exact ey ag
 have XW:r1[t]?=some T:=by rw[Mf,eR eH];exact hT
 have XV:∀x,x≠b->r1[x]?=rs[x]?:=λx h=>by rw[Mf,eR (λe=>h e.symm)]
 have VG:r1.map bA=rs.map bA:=by
  rw[Mf,eh,show bA Lo=bA B by rw[F2];rfl];exact lD (by rw[aK,hB];rfl)
 have SV:Lo.Bd:=by
  rw[F2];refine⟨B7.kind,B7.on,B7.aL,B7.jW,by simp only[bR];omega,λx hx=>?_,B7.to⟩;rcases bL.1 hx with hx|hx
  ·exact B7.ins x hx
  ·exact yX.ins x hx
 have abu:∀r∈r1,r.Bd:=λr hr=>by
  rw[Mf]at hr;rcases jM hr with hr|rfl
  ·exact rh r hr
  ·exact SV
 obtain⟨l1,kq⟩:∃l1,l1=r1.map aR.eo:=⟨_,rfl⟩;have Xs:l1=l.set b {a8 l b with list:=(a8 l b).list++(a8 l t).list}:=by
  rw[kq,Mf,eh,<-hl,RV,S7,F2];unfold aR.eo;simp only[bB]
 have hf1:eX R l1:=by rw[Xs];exact Ij VK.ok ag ag
 have abp:∀x,bf l1 x=bf l x:=λx=>vU (by rw[Xs,eA]) (λi=>by
  rw[Xs];unfold dd;rw[dQ]
  by_cases e:b=i
  ·subst e
   rw[if_pos rfl,if_pos ag,bK ag]
  ·rw[if_neg e]) x
 rw[<-VG];have aen:∀w w',Wd SS w0 (r1.map bA++(aj p2 [.string aE,.int .i64 0,.int .i64 0,.slice none 0 0] 35::aj p1 [.string nm,.int .i64 pa,.int .i64 re,.slice (some ⟨vb,vo,none⟩) n c] 35::aj p6 [.slice T.pa T.ps.length T.pc,.slice T.la T.xs.length T.lc,.int .i64 T.kind,.bool T.on.bD,.int .i64 T.on.n,.slice T.ta T.to.length T.tc] 46::ai (some ⟨vb,vo,none⟩) n c 46 6 (r1.flatMap bg)::ai na (B.xs.length+T.xs.length) nc 56 8 ((B.xs++T.xs).flatMap eE)::tx T::(nE B::nE T::(B.xs.map jo++(T.xs.map jo++RL))))) w->Wd (cF (r1.map bA)) w (r1.map bA) w'->aM w' (.slice (some ⟨vb,vo,none⟩) r1.length c) 6 (r1.map aR.eo) ed:=λw w' hw jl=>by
  have h5:=hw.comp jl;have h6:Wd SS w0 (ai (some ⟨vb,vo,none⟩) n c 46 6 (r1.flatMap bg)::(aj p2 [.string aE,.int .i64 0,.int .i64 0,.slice none 0 0] 35::aj p1 [.string nm,.int .i64 pa,.int .i64 re,.slice (some ⟨vb,vo,none⟩) n c] 35::aj p6 [.slice T.pa T.ps.length T.pc,.slice T.la T.xs.length T.lc,.int .i64 T.kind,.bool T.on.bD,.int .i64 T.on.n,.slice T.ta T.to.length T.tc] 46::ai na (B.xs.length+T.xs.length) nc 56 8 ((B.xs++T.xs).flatMap eE)::tx T::((nE B::nE T::(B.xs.map jo++(T.xs.map jo++RL)))++r1.map bA))) w':=by
   refine h5.perm (aJ.2 λe=>?_);simp only[bu,bi];omega
  have h7:=oO (k:=0) (l:=r1) (g:=bg) (a:=some ⟨vb,vo,none⟩) (c:=c) (e:=46) h6 (by rw[Pu];rfl) dC ag;refine N3 h7 λr hr=>?_;obtain⟨x,hx⟩:=br hr;have hxp:(r1.map bA)[x]?=some (bA r):=by rw[aK,hx];rfl
  by_cases e1:x=b
  ·rw[e1,Tv]at hx
   obtain rfl:=be hx;refine Wd.HT (H:=(r1.map bA).eraseIdx x++(aj p2 [.string aE,.int .i64 0,.int .i64 0,.slice none 0 0] 35::aj p1 [.string nm,.int .i64 pa,.int .i64 re,.slice (some ⟨vb,vo,none⟩) n c] 35::aj p6 [.slice T.pa T.ps.length T.pc,.slice T.la T.xs.length T.lc,.int .i64 T.kind,.bool T.on.bD,.int .i64 T.on.n,.slice T.ta T.to.length T.tc] 46::ai (some ⟨vb,vo,none⟩) n c 46 6 (r1.flatMap bg)::tx T::nE T::RL)) (h5.perm (aJ.2 λe=>?_)) SV;have h8:=aJ.1 (jz hxp) e;have h9:lC Lo=ai na (B.xs.length+T.xs.length) nc 56 8 ((B.xs++T.xs).flatMap eE)::nE B::(B.xs++T.xs).map jo:=by
    rw[F2];unfold lC tx nE;simp only[bR]
   rw[h9];simp only[bu,bi,cd,bB]at h8⊢;omega
  by_cases e2:x=t
  ·rw[e2,XW]at hx
   obtain rfl:=be hx;refine Wd.HT (H:=(r1.map bA).eraseIdx x++(aj p2 [.string aE,.int .i64 0,.int .i64 0,.slice none 0 0] 35::aj p1 [.string nm,.int .i64 pa,.int .i64 re,.slice (some ⟨vb,vo,none⟩) n c] 35::aj p6 [.slice T.pa T.ps.length T.pc,.slice T.la T.xs.length T.lc,.int .i64 T.kind,.bool T.on.bD,.int .i64 T.on.n,.slice T.ta T.to.length T.tc] 46::ai (some ⟨vb,vo,none⟩) n c 46 6 (r1.flatMap bg)::ai na (B.xs.length+T.xs.length) nc 56 8 ((B.xs++T.xs).flatMap eE)::nE B::(B.xs.map jo++RL))) (h5.perm (aJ.2 λe=>?_)) yX;have h8:=aJ.1 (jz hxp) e;unfold lC;simp only[bu,bi,cd,bB]at h8⊢;omega
  have PQ:=hx;rw[XV x e1]at PQ;obtain⟨k,hk⟩:=br (hRm x r PQ e1 e2);refine Wd.Wc (H:=(r1.map bA).eraseIdx x++(aj p2 [.string aE,.int .i64 0,.int .i64 0,.slice none 0 0] 35::aj p1 [.string nm,.int .i64 pa,.int .i64 re,.slice (some ⟨vb,vo,none⟩) n c] 35::aj p6 [.slice T.pa T.ps.length T.pc,.slice T.la T.xs.length T.lc,.int .i64 T.kind,.bool T.on.bD,.int .i64 T.on.n,.slice T.ta T.to.length T.tc] 46::ai (some ⟨vb,vo,none⟩) n c 46 6 (r1.flatMap bg)::ai na (B.xs.length+T.xs.length) nc 56 8 ((B.xs++T.xs).flatMap eE)::tx T::nE B::nE T::(B.xs.map jo++(T.xs.map jo++RL.eraseIdx k)))) (h5.perm (aJ.2 λe=>?_)) (abu r hr);have h8:=aJ.1 (jz hxp) e;have h9:=aJ.1 (jz hk) e;simp only[bu,bi,cd,bB]at h8 h9⊢;omega
 refine bj (H1:=r1.map bA++(aj p2 [.string aE,.int .i64 0,.int .i64 0,.slice none 0 0] 35::aj p1 [.string nm,.int .i64 pa,.int .i64 re,.slice (some ⟨vb,vo,none⟩) n c] 35::aj p6 [.slice T.pa T.ps.length T.pc,.slice T.la T.xs.length T.lc,.int .i64 T.kind,.bool T.on.bD,.int .i64 T.on.n,.slice T.ta T.to.length T.tc] 46::ai (some ⟨vb,vo,none⟩) n c 46 6 (r1.flatMap bg)::ai na (B.xs.length+T.xs.length) nc 56 8 ((B.xs++T.xs).flatMap eE)::tx T::(nE B::nE T::(B.xs.map jo++(T.xs.map jo++RL))))) (aJ.2 λe=>?_) ?_
 ·simp only[bu,bi]
  omega
 refine aU ?_;refine fH (val:=λ_:List aR=>.tuple #[]) (E:=λr2=>r2.map bA) (φ:=λr2=>CK l1 r1 b t T.to r2) rfl (λw hw=>?_) λr2 xX=>?_
 ·have WT:=hw.jN
  have h9:=Rb nm pa re vb vo c p1 r1 R b t T XW ag eH ag (by rw[<-kq];exact hf1) abu w hw.pre (λj v hj=>by rw[dM,Pu]at*;exact WT.mj 1 rfl hj) (λx r hr j v hj=>by
   have:=WT.cK (k:=3) rfl (fy dC r1 x r j v hr hj);rwa[<-dA]at this) (WT.P3 (k:=7) rfl rfl yX.to.1 yX.to.2) (λw' jl=>aen w w' hw jl)
  rw[<-kq]at h9;exact h9
 have aea:r2.length=n:=by rw[xX.len];exact Pu
 obtain⟨b2,wi⟩:∃b2,r2[b]?=some b2:=⟨_,aB ag⟩;obtain⟨t2,NG⟩:∃t2,r2[t]?=some t2:=⟨_,aB ag⟩;obtain⟨aav,acX,aau,_⟩:=xX.at' b Lo b2 Tv wi;obtain⟨B2,Iq⟩:∃B2:aR,B2={Lo with kind:=T.kind,on:=T.on,ta:=T.ta,tc:=T.tc,to:=T.to}:=⟨_,rfl⟩;obtain⟨z2,Ml⟩:∃z2,z2=r1.set b B2:=⟨_,rfl⟩;have agX:z2.length=n:=by rw[Ml,eA];exact Pu
 have agW:z2[t]?=some T:=by rw[Ml,eR eH];exact XW
 obtain⟨T3,hT3⟩:∃T3:aR,T3=⟨none,0,[],none,0,[],1,gK,none,0,[]⟩:=⟨_,rfl⟩;have W8:(r1.flatMap bg).take (b*6+2)++[.int .i64 T.kind,.bool T.on.bD,.int .i64 T.on.n,.slice T.ta T.to.length T.tc]++(r1.flatMap bg).drop (b*6+2+4)=z2.flatMap bg:=by
  rw[Ml];exact LI dC Tv (k:=2) (vs:=[.int .i64 T.kind,.bool T.on.bD,.int .i64 T.on.n,.slice T.ta T.to.length T.tc]) rfl (by rw[Iq,F2];rfl)
 have W9:(z2.flatMap bg).take (t*6)++[.slice none 0 0,.slice none 0 0,.int .i64 1,.bool false,.int .i64 0,.slice none 0 0]++(z2.flatMap bg).drop (t*6+6)=(z2.set t T3).flatMap bg:=by
  have h5:=jy dC (l:=z2) (i:=t) ag T3;rw[hT3]at h5⊢;exact h5
 refine bj (H1:=aj p2 [.string aE,.int .i64 0,.int .i64 0,.slice none 0 0] 35::aj p1 [.string nm,.int .i64 pa,.int .i64 re,.slice (some ⟨vb,vo,none⟩) n c] 35::aj p6 [.slice T.pa T.ps.length T.pc,.slice T.la T.xs.length T.lc,.int .i64 T.kind,.bool T.on.bD,.int .i64 T.on.n,.slice T.ta T.to.length T.tc] 46::ai (some ⟨vb,vo,none⟩) n c 46 6 (r1.flatMap bg)::ai na (B.xs.length+T.xs.length) nc 56 8 ((B.xs++T.xs).flatMap eE)::tx T::((nE B::nE T::(B.xs.map jo++(T.xs.map jo++RL)))++r2.map bA)) (aJ.2 λe=>?_) ?_
 ·simp only[bu,bi]
  omega
 refine aU ?_;refine kT 3 (j:=b*6+2) rfl ag (by rw[ct dC];omega) ?_;rw[W8];simp only[cn,bS];refine aU ?_;refine kT 3 (j:=t*6) rfl ag (by rw[ct dC];omega) ?_;rw[W9];simp only[cn,bS];obtain⟨B3,Z8⟩:∃B3:aR,B3=gv B2 b2.ps:=⟨_,rfl⟩;obtain⟨r3,R8⟩:∃r3,r3=(r2.set b B3).set t T3:=⟨_,rfl⟩;have aec:r3.length=n:=by rw[R8,eA,eA];exact aea
 have XX:r3[b]?=some B3:=by rw[R8,eR Mi];exact ey ag
 have XZ:r3[t]?=some T3:=by rw[R8];exact ey (by rw[eA];omega)
 have XY:∀x,x≠b->x≠t->r3[x]?=r2[x]?:=λx h1 h2=>by rw[R8,eR (λe=>h2 e.symm),eR (λe=>h1 e.symm)]
 have VN:∀x r r',r1[x]?=some r->r2[x]?=some r'->x≠t->r'.ps.map cG.jW=r.ps.map λq=>E_ l b t x q.jW:=λx r r' h1 h2 hxt=>by
  obtain⟨_,_,_,g4⟩:=xX.at' x r r' h1 h2;have r8:x<n:=by rw[<-Pu];exact(aC.1 h1).1
  have Ke:∀q∈r.ps,q.jW.src.length=(bf l x).length:=λq hq=>by
   have h5:l1[x]?=some r.eo:=by rw[kq,aK,h1];rfl
   have:=((hf1.block x _ h5).aL q.jW (aX.2 ⟨q,hq,rfl⟩)).len;rwa[abp]at this
  have Mc:(x:Int)∈T.to↔t∈bf l x:=by
   have h5:dd l t=T.to:=by rw[lK ag,S7];rfl
   rw[<-h5];unfold bf;rw[cI,cQ,decide_eq_true_eq];exact⟨λh=>⟨ag,h⟩,λh=>h.2⟩
  rw[g4]
  by_cases hm:(x:Int)∈T.to
  ·rw[if_pos hm]
   refine fw λq hq=>?_;rw[<-RD hj hxt (Mc.1 hm) q.jW (Ke q hq)];unfold xt MW;rw[abp]
  ·rw[if_neg hm]
   refine fw λq hq=>?_;exact(QW hj hxt (λh=>hm (Mc.2 h)) q.jW (Ke q hq)).symm
 have AR:r3.map aR.eo=eu l b t:=by
  apply cf;intro x
  by_cases r8:x<n
  ·rw[iV (bK (show x<l.length by omega)),aK]
   unfold ow
   by_cases e1:x=t
   ·rw[if_pos e1,e1,XZ,hT3]
    rfl
   rw[if_neg e1]
   by_cases e2:x=b
   ·rw[if_pos e2,e2,XX,bz,Z8,Iq,F2]
    have h5:=VN b Lo b2 Tv wi eH;rw[F2]at h5;unfold gv aR.eo;simp only[h5,RV,S7,bB,eS];unfold aR.eo;simp only[eS]
    rfl
   rw[if_neg e2];obtain⟨r,hr⟩:∃r,rs[x]?=some r:=⟨_,aB ag⟩;obtain⟨r',AZ⟩:∃r',r2[x]?=some r':=⟨_,aB ag⟩;have hrx:r1[x]?=some r:=by rw[XV x e2];exact hr
   obtain⟨g1,_,_,_⟩:=xX.at' x r r' hrx AZ;have h5:=VN x r r' hrx AZ e1;have h6:a8 l x=r.eo:=kO (by rw[hl,aK,hr];rfl);rw[XY x e2 e1,AZ,bz,h6];congr 1;have h7:r'.eo={r.eo with aL:=r'.ps.map cG.jW}:=by
    conv=>lhs;rw[g1]
    rfl
   rw[h7,h5];unfold aR.eo;simp only[eS]
   rfl
  ·rw[bM (by rw[aG];omega),bM (by rw[eJ];omega)]
 have aeb:∀r∈r3,r.Bd:=λr hr=>by
  rw[R8]at hr;rcases jM hr with hr|rfl
  ·rcases jM hr with hr|rfl
   ·obtain⟨x,hx⟩:=br hr
    have r8:=(aC.1 hx).1;obtain⟨r0,hr0⟩:∃r0,r1[x]?=some r0:=⟨_,aB ag⟩;exact(xX.at' x r0 r hr0 hx).2.2.1
   ·rw[Z8,Iq]
    exact⟨yX.kind,yX.on,aau.aL,aau.jW,SV.list,SV.ins,yX.to⟩
  ·rw[hT3]
   exact⟨show c9 (1:Int)from⟨ag,ag⟩,show c9 (0:Int)from⟨ag,ag⟩,by simp,by simp,by simp,by simp,by simp⟩
 have W5:(z2.set t T3).flatMap bg=r3.flatMap bg:=by
  have h5:(z2.set t T3).map bg=r3.map bg:=by
   apply cf;intro x;rw[aK,aK]
   by_cases e1:x=t
   ·rw[e1,XZ,ey ag]
   rw[eR (λe=>e1 e.symm)]
   by_cases e2:x=b
   ·rw[e2,XX,Ml,ey ag,bz,bz,Z8]
    unfold gv bg;simp only[acX];rw[Iq]
   rw[Ml,eR (λe=>e2 e.symm),XY x e2 e1]
   by_cases r8:x<n
   ·obtain⟨r,hr⟩:∃r,r1[x]?=some r:=⟨_,aB ag⟩
    obtain⟨r',AZ⟩:∃r',r2[x]?=some r':=⟨_,aB ag⟩;obtain⟨g1,g2,_,_⟩:=xX.at' x r r' hr AZ;rw[hr,AZ,bz,bz];congr 1
    conv=>rhs;rw[g1]
    unfold gv bg;simp only[g2]
   ·rw[bM ag,bM ag]
  rw[rP,h5,<-rP]
 have ad4:bA B3=bA b2:=by
  have h5:b2.pa=Lo.pa:=by rw[aav];rfl
  have h6:b2.pc=Lo.pc:=by rw[aav];rfl
  rw[Z8,Iq];unfold bA NI gv;simp only[h5,h6]
 have hcP:∀e,(r3.map bA).count e+[bA t2].count e=(r2.map bA).count e+[bA T3].count e:=λe=>by
  have h5:(r2.map bA).set b (bA B3)=r2.map bA:=by rw[ad4];exact lD (by rw[aK,wi];rfl)
  have h6:=count_set (l:=r2.map bA) (k:=t) (x:=bA t2) (y:=bA T3) (by rw[aK,NG];rfl) e;rw[R8,eh,eh,h5];exact h6
 have hcL:∀e,(r3.map db).count e=[db B3].count e+[db T3].count e+RL.count e:=λe=>by
  have h5:r3.map db=((rs.map db).set b (db B3)).set t (db T3):=by
   apply cf;intro x;rw[aK]
   by_cases e1:x=t
   ·rw[e1,XZ,ey (by rw[eA,aG];omega)]
    rfl
   rw[eR (λe=>e1 e.symm)]
   by_cases e2:x=b
   ·rw[e2,XX,ey (by rw[aG];omega)]
    rfl
   rw[eR (λe=>e2 e.symm),XY x e2 e1,aK,<-XV x e2]
   by_cases r8:x<n
   ·obtain⟨r,hr⟩:∃r,r1[x]?=some r:=⟨_,aB ag⟩
    obtain⟨r',AZ⟩:∃r',r2[x]?=some r':=⟨_,aB ag⟩;obtain⟨g1,_,_,_⟩:=xX.at' x r r' hr AZ;rw[hr,AZ,bz,bz];congr 1
    conv=>lhs;rw[g1]
    rfl
   ·rw[bM ag,bM ag]
  have h6:=count_set (l:=rs.map db) (k:=b) (x:=db B) (y:=db B3) (by rw[aK,hB];rfl) e;have h7:=count_set (l:=(rs.map db).set b (db B3)) (k:=t) (x:=db T) (y:=db T3) (by rw[eR eH,aK,hT];rfl) e;have h8:=aJ.1 hRp e;rw[h5];simp only[bi,cd]at h6 h7 h8⊢;omega
 rw[W5];refine nu (H':=aj p2 [.string aE,.int .i64 0,.int .i64 0,.slice none 0 0] 35::aj p1 [.string nm,.int .i64 pa,.int .i64 re,.slice (some ⟨vb,vo,none⟩) n c] 35::ai (some ⟨vb,vo,none⟩) n c 46 6 (r3.flatMap bg)::(r3.map bA++r3.map db)) (λw hw=>?_) ?_
 ·have acB:lC B3=ai na (B.xs.length+T.xs.length) nc 56 8 ((B.xs++T.xs).flatMap eE)::nE T::(B.xs++T.xs).map jo:=by
   rw[Z8,Iq,F2];unfold lC tx nE gv;simp only[bR]
  have h5:Wd SS w0 (lC B3++(aj p2 [.string aE,.int .i64 0,.int .i64 0,.slice none 0 0] 35::aj p1 [.string nm,.int .i64 pa,.int .i64 re,.slice (some ⟨vb,vo,none⟩) n c] 35::ai (some ⟨vb,vo,none⟩) n c 46 6 (r3.flatMap bg)::(RL++r2.map bA))) w:=by
   refine hw.pick ⟨aj p6 [.slice T.pa T.ps.length T.pc,.slice T.la T.xs.length T.lc,.int .i64 T.kind,.bool T.on.bD,.int .i64 T.on.n,.slice T.ta T.to.length T.tc] 46::tx T::[nE B],aJ.2 λe=>?_⟩;rw[acB];simp only[bu,bi,cd,bB];omega
  have h6:Wd SS w0 (lC T3++(db B3::(aj p2 [.string aE,.int .i64 0,.int .i64 0,.slice none 0 0] 35::aj p1 [.string nm,.int .i64 pa,.int .i64 re,.slice (some ⟨vb,vo,none⟩) n c] 35::ai (some ⟨vb,vo,none⟩) n c 46 6 (r3.flatMap bg)::(RL++r2.map bA)))) w:=by
   have h7:=((Wd.join h5).Bm 3 1).Bm 56 8;rw[hT3];exact h7
  have h8:Wd SS w0 ((NI T3::T3.ps.map e7)++(db T3::(db B3::(aj p2 [.string aE,.int .i64 0,.int .i64 0,.slice none 0 0] 35::aj p1 [.string nm,.int .i64 pa,.int .i64 re,.slice (some ⟨vb,vo,none⟩) n c] 35::ai (some ⟨vb,vo,none⟩) n c 46 6 (r3.flatMap bg)::(RL++r2.map bA))))) w:=by
   have h7:=(Wd.join h6).Bm 49 2;rw[hT3]at h7⊢;exact h7
  refine(Wd.join h8).pick ⟨[bA t2],aJ.2 λe=>?_⟩;have h9:=hcP e;have Ip:=hcL e;have LO:bN.join (NI T3::T3.ps.map e7)=bA T3:=rfl;rw[LO];simp only[bu,bi,cd]at h9 Ip⊢;omega
 refine aO ?_;have Zi:=uh hj;exact bC r3 ⟨aec,by rw[AR];exact VK.join hj,by rw[AR,yd hj];exact Db,by rw[AR,<-wC VK hcj];exact NE,aeb⟩ (by rw[AR,<-hl];omega) aw ag2
end
section
open Go Go.RowKit
attribute [local irreducible] wpListIn Code.wpIn Exit.then Exit.inBlock bodyPost wpQuiet wpAnyIn wpAnyH bodyPostM gX
set_option maxHeartbeats 4000000
theorem Wj(X:aZ)(R:Nat)(hX:kw X R)(hT:wx X R)(AQ:qE X.blocks)(hlen:X.blocks.length<=100)(vg:dV X.blocks<=1000)(qJ:c9 X.params)(w0:World):CM w0 64 [] [] lZ X:=by
 classical
 obtain⟨xn,xp,xr,xb⟩:=X;have hR:=hX.le;have hf:=hX.ok;have dS:=hX.pos;simp only at hlen vg AQ hf dS;intro a c bs wb mU sI Td Eh hw;simp only at mU;subst mU;have iR:bs.length<=100:=by rw[aG]at hlen;exact hlen
 have hg:=hf.iM;have hk:=j7 hg dS;obtain⟨E9,_⟩:=pe hg dS;have Ca:(ch (bs.map aR.eo)).length=(gw (bs.map aR.eo)).length:=by unfold ch;rw[tZ]
 have Gq:=uz dS;rw[aG]at Gq dS;simp only[aT,cq,a6];refine aQ Tryz.func64 rfl Tryz.ntmps64 rfl hw ?_;obtain⟨SS,C4⟩:∃SS,SS=cF (ff a c bs):=⟨_,rfl⟩;rw[<-C4]
 repeat(first|refine aU ?_|refine dX λ_ _=>?_)
 rename_i p1 _ p2 _;obtain⟨bl,ly⟩:∃bl,bl=bs.map aR.eo:=⟨_,rfl⟩;obtain⟨o,XI⟩:∃o,o=ch bl:=⟨_,rfl⟩;rw[<-ly]at hk Ca Gq E9;rw[<-XI]at hk Ca E9;have abc:o.length<=bs.length:=ag;have hkF:ew ⟨xn,xp,xr,bs.map aR.eo⟩=cY bl o:=by rw[XI,ly];rfl
 have AS:∀w:World,aM w (.slice a bs.length c) 6 bl ed->gV Tryz.prog 107 [.agg #[.string xn,.int .i64 xp,.int .i64 xr,.slice a bs.length c]] w λu w'=>∃x:Option Addr×Nat,u=.slice x.1 o.length x.2/\Wd dh w [ai x.1 o.length x.2 3 1 (o.map ig)] w'/\True:=λw h=>by
  have:=yl (.string xn) (.int .i64 xp) (.int .i64 xr) bl (.slice a bs.length c) ⟨_,_,_,rfl⟩ w h (by rw[ly,aG];exact iR) (by rw[ly];exact hg) (by rw[ly,aG];exact dS);rw[Ca,XI];exact this
 have rh:∀w,Wd SS wb (aj p2 [.string aE,.int .i64 0,.int .i64 0,.slice none 0 0] 35::aj p1 [.string xn,.int .i64 xp,.int .i64 xr,.slice a bs.length c] 35::ff a c bs) w->aM w (.slice a bs.length c) 6 bl ed:=λw hw=>by
  rw[ly];refine Wd.blocks (H:=[]) (hw.sub (.cons _ (.cons _ ?_))) ag sI;rw[cq];exact cN _
 have AP:∀(y:Option Addr×Nat) (S:Nat->Prop) (v w:World),Wd S v (ff a c bs++[ai y.1 o.length y.2 3 1 (o.map ig),aj p2 [.string aE,.int .i64 0,.int .i64 0,.slice none 0 0] 35,aj p1 [.string xn,.int .i64 xp,.int .i64 xr,.slice a bs.length c] 35]) w->gV Tryz.prog 106 [.agg #[.string xn,.int .i64 xp,.int .i64 xr,.slice a bs.length c],.slice y.1 o.length y.2] w λu w'=>∃x:Option Addr×Nat×List aR,u=.agg #[.string xn,.int .i64 xp,.int .i64 xr,.slice x.1 x.2.2.length x.2.1]/\Wd (cF (ff a c bs)) w (ff x.1 x.2.1 x.2.2) w'/\
   (x.2.2.map aR.eo=cY bl o/\∀b∈x.2.2,b.Bd):=λy S v w hw=>by
  have:=P8 xn xp xr a c bs o y.1 y.2 R iR dS sI hf (by rw[<-ly];exact hk) w hw.pre (zV hw.jN (k:=0) rfl rfl ag λx hx=>by have:=hk.lt x hx;rw[ly,aG]at this;omega);rw[<-ly]at this;exact this
 obtain⟨TF,hTF⟩:∃TF,TF=lZ ⟨xn,xp,xr,bs.map aR.eo⟩:=⟨_,rfl⟩;rw[<-hTF];refine dR [aj p1 [.string xn,.int .i64 xp,.int .i64 xr,.slice a bs.length c] 35] (λx:Option Addr×Nat×List aR=>x.2.2.map aR.eo=TF.blocks/\(∀b∈x.2.2,b.Bd)/\x.2.2.length<=1000/\c9 TF.params/\c9 TF.aF) (λ_=>[(2,.pointer (some ⟨p2,0,none⟩))]) (λx=>aj p2 [.string TF.name,.int .i64 TF.params,.int .i64 TF.aF,.slice x.1 x.2.2.length x.2.1] 35::ff x.1 x.2.1 x.2.2) mixed ap ?_ λx hx=>?_
 ·skip
  refine az 0 rfl aq ap ?_;refine az 1 rfl aq ap ?_;refine zQ 2 (val:=λx:Option Addr×Nat=>.slice x.1 o.length x.2) (E:=λx=>[ai x.1 o.length x.2 3 1 (o.map ig)]) (φ:=λ_=>True) rfl aq ap (λw hw=>AS w (rh w hw)) λy _=>?_;obtain⟨oa,oc⟩:=y;simp only[a6,aT];refine bj (H1:=ff a c bs++[ai oa o.length oc 3 1 (o.map ig),aj p2 [.string aE,.int .i64 0,.int .i64 0,.slice none 0 0] 35,aj p1 [.string xn,.int .i64 xp,.int .i64 xr,.slice a bs.length c] 35]) (dH (l₁:=[_,_,_])) ?_;refine mu 3 (val:=λx:Option Addr×Nat×List aR=>.agg #[.string xn,.int .i64 xp,.int .i64 xr,.slice x.1 x.2.2.length x.2.1]) (E:=λx=>ff x.1 x.2.1 x.2.2) (φ:=λx=>x.2.2.map aR.eo=cY bl o/\∀b∈x.2.2,b.Bd) rfl aq ap (λw hw=>AP (oa,oc) _ _ w hw) λz hz=>?_;obtain⟨na,nc,ks⟩:=z;obtain⟨Ei,Ej⟩:=hz;simp only at Ei Ej⊢;have xz:ks.length=o.length:=by
   have:=congrArg List.length Ei;rwa[aG,dU]at this
  have Iz:sR R (ks.map aR.eo):=by
   rw[Ei];exact⟨kH (by rw[ly];exact hf) hk,Di hk (by rw[ly];exact AQ)⟩
  have hmk:dV (ks.map aR.eo)<=1000:=by
   rw[Ei];exact dB (oR hk) (by rw[ly];exact vg)
  refine mu 4 (val:=λx:Option Addr×Nat×List aR=>.agg #[.string xn,.int .i64 xp,.int .i64 xr,.slice x.1 x.2.2.length x.2.1]) (E:=λx=>ff x.1 x.2.1 x.2.2) (φ:=λx=>x.2.2.map aR.eo=fx (ks.map aR.eo)/\∀b∈x.2.2,b.Bd) rfl aq ap (λw hw=>HY xn xp xr na nc ks R ag ag Ej Iz hmk w hw.pre) λz hz=>?_;obtain⟨ca,cc,cs⟩:=z;obtain⟨Cm,AM⟩:=hz;simp only at Cm AM⊢;have hcF:fx (ew ⟨xn,xp,xr,bs.map aR.eo⟩)=cs.map aR.eo:=by rw[hkF,Cm,Ei]
  have aa3:=hT.mid;have rf:=hT.len;rw[hcF]at aa3 rf;have acJ:TF=gR ⟨xn,xp,xr,cs.map aR.eo⟩:=by
   rw[hTF];unfold lZ;rw[hcF]
   rfl
  refine mu 5 (val:=λx:Option Addr×Nat×List aR=>.agg #[.string TF.name,.int .i64 TF.params,.int .i64 TF.aF,.slice x.1 x.2.2.length x.2.1]) (E:=λx=>ff x.1 x.2.1 x.2.2) (φ:=λx=>x.2.2.map aR.eo=TF.blocks/\(∀b∈x.2.2,b.Bd)/\x.2.2.length<=1000/\c9 TF.params/\c9 TF.aF) rfl aq ap (λw hw=>?_) λz hz=>?_
  ·have h9:=MH ⟨xn,xp,xr,cs.map aR.eo⟩ R aa3 (by simp only[aG]at rf⊢;omega) qJ {w with heap:=#[]} ca cc cs w rfl AM ⟨rfl,rfl,rfl,aY _,λk hk=>absurd hk (Nat.not_lt_zero k)⟩ (λ_ _=>aY _) hw.pre
   rw[<-acJ]at h9;exact h9
  obtain⟨fa,fc,fs⟩:=z;simp only at hz⊢;refine bj (H1:=aj p2 [.string aE,.int .i64 0,.int .i64 0,.slice none 0 0] 35::aj p1 [.string xn,.int .i64 xp,.int .i64 xr,.slice a bs.length c] 35::ai oa o.length oc 3 1 (o.map ig)::ff fa fc fs) (aJ.2 λe=>by simp only[bu,bi,cd];omega) ?_;refine cH 6 aq ap ?_;refine eF aq ?_;exact dN (fa,fc,fs) hz aw ap
 refine aO ?_;rw[C4];exact gH rfl λw hw=>⟨x,rfl,hw.sub (.cons _ (.refl _)),hx⟩
end
end Go.Proofs.YthfhgolkafpmnaaGreatDoor
