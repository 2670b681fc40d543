/- Texts joined: TidyE Keep. -/
import Derived.Test.YthfhgolkafpmnaaGreatDoorGG
import Derived.Test.YthfhgolkafpmnaaGreatDoorGM
import Derived.Test.YthfhgolkafpmnaaGreatDoorHF
import Derived.Test.YthfhgolkafpmnaaGreatDoorHN
import Derived.Test.YthfhgolkafpmnaaGreatDoorIA
import Derived.Test.YthfhgolkafpmnaaGreatDoorIC
namespace Go.Proofs.YthfhgolkafpmnaaGreatDoor
section
open Go Go.RowKit
def vS(R:Nat)(l:List Int):List Int:=(List.range R).map λr:Nat=>if (r:Int)∈l then fL l r else -1
theorem tE(R:Nat)(l:List Int):(vS R l).length=R:=by simp[vS]
theorem w8{R:Nat}{l:List Int}{r:Nat}(h:r<R):(vS R l)[r]?=some (if (r:Int)∈l then fL l r else -1):=by
 unfold vS;rw[aK,eQ h]
 rfl
theorem Uh{l:List Int}{r:Int}(h:r∉l):fL (iN l r) r=l.length:=by
 unfold fL iN;rw[if_neg h,List.idxOf_append,if_neg h];simp
theorem MJ{R:Nat}{l:List Int}{r:Nat}(h:(r:Int)∉l):(vS R l).set r (l.length:Int)=vS R (iN l r):=by
 apply cf;intro x;rw[dQ]
 by_cases hx:x<R
 ·by_cases e:r=x
  ·subst e
   rw[if_pos rfl,if_pos (by rw[tE];exact hx),w8 hx,if_pos (tB.2 (.inr rfl)),Uh h]
  ·rw[if_neg e,w8 hx,w8 hx]
   by_cases hm:(x:Int)∈l
   ·rw[if_pos hm,if_pos (tB.2 (.inl hm)),uy (GR l r) hm]
   ·rw[if_neg hm,if_neg]
    intro h2;rcases tB.1 h2 with h2|h2
    ·exact hm h2
    ·exact e ag
 ·rw[bM (l:=vS R (iN l r)) (by rw[tE];omega)]
  by_cases e:r=x
  ·subst e
   rw[if_pos rfl,if_neg (by rw[tE];exact hx)]
  ·rw[if_neg e,bM (by rw[tE];omega)]
theorem QF(R:Nat):vS R []=List.replicate R (-1):=by
 unfold vS;simp only[iI,if_false];rw[List.map_const',fG]
theorem Ez{bl:List ar}{o:List Nat}(hk:HO bl o):o.length<=bl.length:=by
 have:=hk.nodup.length_le_of_subset (l₂:=List.range bl.length) λx hx=>cQ.2 (hk.lt x hx);simpa using this
def DR(n:Nat)(o:List Nat):List Int:=(List.range n).map λb:Nat=>if b∈o then((o.idxOf b:Nat):Int)else -1
theorem tW{n:Nat}{o:List Nat}{b:Nat}(h:b<n):(DR n o)[b]?=some (if b∈o then((o.idxOf b:Nat):Int)else -1):=by
 unfold DR;rw[aK,eQ h]
 rfl
theorem qk(n:Nat)(o:List Nat):(DR n o).length=n:=by simp[DR]
theorem Sv(n:Nat):DR n []=List.replicate n (-1):=by
 unfold DR;simp only[iI,if_false];rw[List.map_const',fG]
theorem NY{n:Nat}{o:List Nat}{b:Nat}(h:b∉o):(DR n o).set b (o.length:Int)=DR n (o++[b]):=by
 apply cf;intro x;rw[dQ]
 by_cases hx:x<n
 ·by_cases e:b=x
  ·subst e
   rw[if_pos rfl,if_pos (by rw[qk];exact hx),tW hx,if_pos aH,List.idxOf_append,if_neg h];simp
  ·rw[if_neg e,tW hx,tW hx]
   by_cases hm:x∈o
   ·rw[if_pos hm,if_pos (cC _ hm),List.idxOf_append,if_pos hm]
   ·rw[if_neg hm,if_neg]
    intro h2;rcases bL.1 h2 with h2|h2
    ·exact hm h2
    ·exact e (bU.1 h2).symm
 ·rw[bM (l:=DR n (o++[b])) (by rw[qk];omega)]
  by_cases e:b=x
  ·subst e
   rw[if_pos rfl,if_neg (by rw[qk];exact hx)]
  ·rw[if_neg e,bM (by rw[qk];omega)]
def FN(bl:List ar)(o:List Nat)(b:Nat)(p:eC):List (Nat×cm):=((bf bl b).filter λq=>decide (q∈o)).map λq=>(o.idxOf q,kj bl b p q)
def Ay(bl:List ar)(o:List Nat)(b:Nat)(p:eC):List (Nat×cm):=(o.filter λq=>decide (q∈bf bl b)).map λq=>(o.idxOf q,kj bl b p q)
theorem LJ(bl:List ar)(o:List Nat)(b:Nat)(p:eC):(Ay bl o b p).map (·.2)=(gC bl o b p).src:=by
 unfold Ay gC;rw[eS]
 rfl
theorem PW{o:List Nat}(hn:o.Nodup):(o.map λq=>o.idxOf q).Pairwise (·<·):=by
 rw[List.pairwise_iff_getElem];intro i j hi hj Pa;rw[aG]at hi hj;rw[List.getElem_map,List.getElem_map];have h1:=r9 hn hi;have h2:=r9 hn hj;unfold nth at h1 h2;rw[aB hi]at h1;rw[aB hj]at h2;simp only[dF]at h1 h2;omega
theorem Ih{bl:List ar}{o:List Nat}(hn:o.Nodup)(b:Nat)(p:eC):(Ay bl o b p).Pairwise λx y=>x.1<y.1:=by
 unfold Ay;rw[List.pairwise_map];have h:=PW hn;rw[List.pairwise_map]at h;exact h.sublist mg
theorem Ig{bl:List ar}{o:List Nat}(hn:o.Nodup)(b:Nat)(p:eC):(Ay bl o b p).Perm (FN bl o b p):=by
 unfold Ay FN;refine List.Perm.map _ ((s5 (hn.sublist mg) ((jH bl b).sublist mg)).2 λx=>?_);rw[cI,cI,decide_eq_true_eq,decide_eq_true_eq];exact⟨λh=>⟨h.2,h.1⟩,λh=>⟨h.2,h.1⟩⟩
theorem BO{α:Type}{f:α->Nat}:∀{l m:List α},l.Perm m->l.Pairwise (λx y=>f x<f y)->m.Pairwise (λx y=>f x<f y∨f x=f y)->m=l
 |[],m,h,_,_=>h.symm.eq_nil
 |x::l,[],h,_,_=>by have:=h.length_eq;simp at this
 |x::l,y::m,h,h1,h2=>by
  rw[fN]at h1 h2;have e:y=x:=by
   have hx:x∈y::m:=h.subset aH;have hy:y∈x::l:=h.symm.subset aH;rcases bJ.1 hx with e|hx
   ·exact e.symm
   rcases bJ.1 hy with e|hy
   ·exact e
   have:=h1.1 y hy;have:=h2.1 x hx;omega
  subst e;rw[BO (h.cons_inv) h1.2 h2.2]
end
section
open Go Go.RowKit
attribute [local irreducible] wpListIn Code.wpIn Exit.then Exit.inBlock bodyPost wpQuiet wpAnyIn wpAnyH bodyPostM gX
set_option maxHeartbeats 8000000
theorem Wd.Qa{S:Nat->Prop}{w0 w:World}{H1 H2:List bN}(h:Wd S w0 (H1++H2) w):∀p v,(bX S w0).cell? p=some v->(bX (cF H1) w).cell? p=some v:=λp v hc=>by
 have bT:=World.block_lt_of_cell? _ p hc;rw[j6]at bT;have Tq:=(lU hc).1;have hn:¬cF H1 p.block:=λ⟨e,he,hb⟩=>by
  have:=(h.own e (cC _ he) _ hb).1;exact this.elim Tq λh=>ag
 rw[<-hc];refine World.cell?_of_block ?_;rw[jg w hn,jg w0 Tq];exact h.cE.block _ bT Tq
theorem Yv{S:Nat->Prop}{w:World}:∀p v,(bX S w).cell? p=some v->w.cell? p=some v:=λp v hc=>by
 rw[<-hc];exact World.cell?_of_block (jg w (lU hc).1).symm
theorem Wd.P3{S:Nat->Prop}{w0 w:World}{H:List bN}(h:Wd S w0 H w){k n c:Nat}{a:Option Addr}{l:List Int}(hk:H[k]?=some (ai a n c 3 1 (l.map (.int .i64))))(hn:n=l.length)(hb:n<=1000)(mO:∀x∈l,c9 x):aM w (.slice a n c) 1 l fj:=
 h.nC hk hn ag λi x hx=>⟨[.int .i64 x],λj v hj=>by
  match j,hj with
  |0,hj=>simpa[hx]using hj,rfl,mO x (aA hx)⟩
structure Y1(bl:List ar)(bs:List aR)(o:List Nat)(i:Nat)(rs out:List aR):Prop where
 Up:rs.length=bs.length
 G2:out.length=i
 RM:∀b,b∉o.take i->rs[b]?=bs[b]?
 new:∀j b,j<i->o[j]?=some b->∃r,rs[b]?=some r/\out[j]?=some r/\r.eo=jf bl o b (a8 bl b)/\r.Bd
theorem Y1.step{bl:List ar}{bs:List aR}{o:List Nat}{i b:Nat}{rs out:List aR}(h:Y1 bl bs o i rs out)(hn:o.Nodup)(hb:o[i]?=some b)(iR:b<bs.length){r:aR}(h1:r.eo=jf bl o b (a8 bl b))(h2:r.Bd):Y1 bl bs o (i+1) (rs.set b r) (out++[r]):=by
 have iQ:=(aC.1 hb).1;refine⟨by rw[eA];exact h.Up,by rw[bR,h.G2];rfl,λd hd=>?_,λj d hj hd=>?_⟩
 ·rw[cj,hb]at hd
  simp only[lr,bL,bU,not_or]at hd;rw[eR (λe=>hd.2 e.symm)];exact h.RM d hd.1
 ·by_cases e:j=i
  ·subst e
   rw[hb]at hd;obtain rfl:=be hd;exact⟨r,ey (by rw[h.Up];exact iR),by rw[dg (by rw[h.G2];exact bH _),h.G2,dq];rfl,h1,h2⟩
  ·obtain⟨q,q1,q2,q3,q4⟩:=h.new j d ag hd
   have eH:b≠d:=λe2=>e (ux hn (aC.1 hd).1 iQ (by rw[ki hd,ki hb,e2]));exact⟨q,by rw[eR eH];exact q1,by rw[dG (by rw[h.G2];omega)];exact q2,q3,q4⟩
theorem Y1.done{bl:List ar}{bs:List aR}{o:List Nat}{rs out:List aR}(h:Y1 bl bs o o.length rs out)(hn:o.Nodup)(bT:∀b∈o,b<bs.length):out.map aR.eo=cY bl o/\(∀r∈out,r.Bd)/\∃rest,rs.Perm (out++rest):=by
 refine⟨?_,λr hr=>?_,?_⟩
 ·apply cf
  intro j
  by_cases hj:j<o.length
  ·obtain⟨q,q1,q2,q3,q4⟩:=h.new j (nth o j) hj (gB hj)
   rw[aK,q2,kV (gB hj),<-q3]
   rfl
  ·rw[bM (by rw[aG,h.G2];omega),bM (by rw[dU];omega)]
 ·obtain⟨j,hj⟩:=br hr
  have jE:j<o.length:=by rw[<-h.G2];exact(aC.1 hj).1
  obtain⟨q,q1,q2,q3,q4⟩:=h.new j (nth o j) jE (gB jE);rw[hj]at q2;rw[be q2];exact q4
 ·obtain⟨f,hf⟩:∃f:Nat->aR,f=λb=>rs[b]?.getD ⟨none,0,[],none,0,[],0,gK,none,0,[]⟩:=⟨_,rfl⟩
  refine⟨((List.range rs.length).filter λb=>decide (b∉o)).map f,?_⟩;have h1:rs=(List.range rs.length).map f:=by
   apply cf;intro j;rw[aK]
   by_cases hj:j<rs.length
   ·rw[eQ hj,aB hj,hf]
    simp[aB hj]
   ·rw[bM ag,bM (by simp;omega)];rfl
  have h2:out=o.map f:=by
   apply cf;intro j;rw[aK]
   by_cases hj:j<o.length
   ·obtain⟨q,q1,q2,q3,q4⟩:=h.new j (nth o j) hj (gB hj)
    rw[q2,gB hj,bz,hf];simp only[q1,dF]
   ·rw[bM (by rw[h.G2];omega),bM ag];rfl
  conv=>lhs;rw[h1]
  rw[h2,<-bB];refine List.Perm.map f ?_;refine(s5 rT (nN.2 ⟨hn,List.nodup_range.sublist mg,λa ha b hb e=>?_⟩)).2 λx=>?_
  ·have:=(cI.1 hb).2
   simp only[decide_eq_true_eq]at this;exact this (e▸ha)
  ·rw[bL,cI,cQ,decide_eq_true_eq]
   constructor
   ·intro hx
    by_cases e:x∈o
    ·exact .inl e
    ·exact .inr ⟨hx,e⟩
   ·rintro(hx|hx)
    ·rw[h.Up];exact bT x hx
    ·exact hx.1
theorem P8(nm:ByteArray)(pa re:Int)(a:Option Addr)(c:Nat)(bs:List aR)(o:List Nat)(oa:Option Addr)(oc R:Nat)(hlen:bs.length<=100)(dS:0<bs.length)(sI:∀b∈bs,b.Bd)(hf:eX R (bs.map aR.eo))(hk:HO (bs.map aR.eo) o)(w0:World)
  (hW:Wd (cF (ff a c bs)) w0 (ff a c bs) w0) (Pn:aM (bX (cF (ff a c bs)) w0) (.slice oa o.length oc) 1 (o.map λx:Nat=>(x:Int)) fj):
  gV Tryz.prog 106 [.agg #[.string nm,.int .i64 pa,.int .i64 re,.slice a bs.length c],.slice oa o.length oc] w0 λu w'=>∃x:Option Addr×Nat×List aR,u=.agg #[.string nm,.int .i64 pa,.int .i64 re,.slice x.1 x.2.2.length x.2.1]/\Wd (cF (ff a c bs)) w0 (ff x.1 x.2.1 x.2.2) w'/\
   (x.2.2.map aR.eo=cY (bs.map aR.eo) o/\∀b∈x.2.2,b.Bd):=by
 classical
 have hg:=hf.iM;obtain⟨bl,iR⟩:∃bl,bl=bs.map aR.eo:=⟨_,rfl⟩;have xT:bl.length=bs.length:=by rw[iR,aG]
 have Ca:o.length<=bs.length:=by rw[<-xT,iR];exact Ez hk
 refine aQ Tryz.func106 rfl Tryz.ntmps106 rfl hW ?_;obtain⟨SS,C4⟩:∃SS,SS=cF (ff a c bs):=⟨_,rfl⟩;rw[<-C4]at Pn⊢;have abi:o≠[]->∃b oo:Nat,bY oa b oo/\eI SS b/\∀i x:Nat,o[i]?=some x->a_ w0 b (oo+i*1) [.int .i64 (x:Int)]:=λeH=>by
  obtain⟨b,oo,h1,h2,h3⟩:=f_ Pn (λhc=>iu hc aH) (λ_ _ h=>⟨_,_,h.1⟩) (by simpa using eH);refine⟨b,oo,h1,h2,λi x hx=>?_⟩;obtain⟨cs,h4,rfl,_⟩:=h3 i (x:Int) (by rw[aK,hx];rfl);exact⟨λj v hj=>Yv _ _ (h4.eq j v hj)⟩
 obtain⟨n,hn⟩:∃n,n=bs.length:=⟨_,rfl⟩;obtain⟨m,hm⟩:∃m,m=o.length:=⟨_,rfl⟩;rw[<-hn]at hlen dS xT Ca;rw[<-hm]at Ca;rw[<-hn,<-hm]
 repeat(first|refine aU ?_|refine dX λ_ _=>?_)
 rename_i p2 _ p4 _ e1 _;refine cV (val:=λa:Nat=>.slice (some ⟨a,0,none⟩) n n) (E:=λa=>[ai (some ⟨a,0,none⟩) n n 3 1 (List.replicate n (.int .i64 (-1)))]) (φ:=λ_=>True) rfl (λw hw=>BF e1 0 n (-1) w (hw.cK (k:=0) (o:=0) (j:=0) rfl rfl) dS ag) λta _=>?_;simp only[a6,aT];rw[show List.replicate n (Value.int .i64 (-1))=(DR n (o.take 0)).map (.int .i64) by rw[List.take_zero,Sv];simp];refine aO ?_;refine bP (λ(i:Nat)=>i<=m) (λi=>[(30,.int .i64 i),(28,.slice oa m oc),(29,.int .i64 m),(2,.pointer (some ⟨p2,0,none⟩)),(4,.pointer (some ⟨p4,0,none⟩)),(5,.slice (some ⟨ta,0,none⟩) n n),(1,.slice oa m oc)]) (λi=>ai (some ⟨ta,0,none⟩) n n 3 1 ((DR n (o.take i)).map (.int .i64))::ai (some ⟨e1,0,none⟩) 1 1 3 1 [.int .i64 (-1)]::aj p4 [.string aE,.int .i64 0,.int .i64 0,.slice none 0 0] 35::aj p2 [.string nm,.int .i64 pa,.int .i64 re,.slice a n c] 35::ff a c bs) (λi=>m-i) 0 (aY _) (aV aw ag2) λi hi=>?_;refine aU ?_;refine aN (λh1=>?_) (λh1=>?_)
 ·have iQ:i<m:=by simpa using h1
  obtain⟨b,hb⟩:∃b,o[i]?=some b:=⟨_,aB ag⟩;obtain⟨qb,qo,Cu,IK,Cb⟩:=abi (aW hb);have oQ:=Cb i b hb;have pC:b<n:=by rw[<-xT,iR];exact hk.lt b (aA hb)
  have mW:bZ i m:=⟨iQ⟩;have Pc:bZ b n:=⟨pC⟩;have uP:b∉o.take i:=λh=>by
   obtain⟨j,hj⟩:=br h;rw[rQ]at hj
   split at hj
   ·have jE:=(aC.1 hj).1
    have:=ux hk.nodup jE ag ((ki hj).trans (ki hb).symm);omega
   ·cases hj
  have mM:lN ((DR n (o.take i)).map (.int .i64)) (b*1) (.int .i64 (i:Int)) ((DR n (o.take (i+1))).map (.int .i64)):=⟨by
   have h2:=NY (n:=n) uP;rw[cU,iA ag]at h2;rw[fB,<-eh,h2,cj,hb]
   rfl,by rw[aG,qk];omega⟩
  refine aI ?_;exact bC (i+1) ag ag aw ag2
 obtain rfl:m=i:=by have:=h1;simp at this;omega
 rw[hm,cO,<-hm];refine aI ?_;have rh:∀w,Wd SS w0 (ai (some ⟨ta,0,none⟩) n n 3 1 ((DR n o).map (.int .i64))::ai (some ⟨e1,0,none⟩) 1 1 3 1 [.int .i64 (-1)]::aj p4 [.string aE,.int .i64 0,.int .i64 0,.slice none 0 0] 35::aj p2 [.string nm,.int .i64 pa,.int .i64 re,.slice a n c] 35::ff a c bs) w->aM w (.slice a n c) 6 bl ed:=λw hw=>by
  rw[hn,iR];refine Wd.blocks (H:=[]) (hw.sub (.cons _ (.cons _ (.cons _ (.cons _ ?_))))) ag sI;rw[cq];exact cN _
 refine cV (val:=λx:(Option Addr×Nat×Nat)×(Nat->Prop)=>.slice x.1.1 x.1.2.1 x.1.2.2) (E:=λx=>[⟨x.2,λw=>aM w (.slice x.1.1 x.1.2.1 x.1.2.2) 1 (bm bl) cS⟩]) (φ:=λ_=>True) rfl (λw hw=>fO _ _ _ bl (.slice a n c) w (rh w hw) ag (by rw[iR];exact hg)) λx _=>?_;obtain⟨⟨aa,an,ac⟩,af⟩:=x;simp only[a6,aT];refine aO ?_;refine fq 46 6 ?_;refine nu (H':=(aj p2 [.string nm,.int .i64 pa,.int .i64 re,.slice a n c] 35::aj p4 [.string aE,.int .i64 0,.int .i64 0,.slice none 0 0] 35::ai a n c 46 6 (bs.flatMap bg)::ai none 0 0 46 6 []::bs.map b_)++[ai (some ⟨ta,0,none⟩) n n 3 1 ((DR n o).map (.int .i64)),(⟨af,λw=>aM w (.slice aa an ac) 1 (bm bl) cS⟩:bN)]) (λw hw=>?_) ?_
 ·refine hw.pick ⟨[ai (some ⟨e1,0,none⟩) 1 1 3 1 [.int .i64 (-1)]],?_⟩
  unfold ff;rw[<-hn];refine aJ.2 λe=>?_;simp only[bu,bi,cd];omega
 refine nQ λw1 mz=>?_;have WS:aM (bX (cF (aj p2 [.string nm,.int .i64 pa,.int .i64 re,.slice a n c] 35::aj p4 [.string aE,.int .i64 0,.int .i64 0,.slice none 0 0] 35::ai a n c 46 6 (bs.flatMap bg)::ai none 0 0 46 6 []::bs.map b_)) w1) (.slice (some ⟨ta,0,none⟩) n n) 1 (DR n o) fj:=mz.jN.P3 (k:=0) rfl (qk n o).symm ag λx hx=>by
  obtain⟨b,hb⟩:=br hx;have acZ:b<n:=by rw[<-qk n o];exact(aC.1 hb).1
  rw[tW acZ]at hb;obtain rfl:=be hb
  split
  ·rename_i h2
   have:=vI h2;exact⟨ag,ag⟩
  ·exact⟨ag,ag⟩
 have zn:aM (bX (cF (aj p2 [.string nm,.int .i64 pa,.int .i64 re,.slice a n c] 35::aj p4 [.string aE,.int .i64 0,.int .i64 0,.slice none 0 0] 35::ai a n c 46 6 (bs.flatMap bg)::ai none 0 0 46 6 []::bs.map b_)) w1) (.slice aa an ac) 1 (bm bl) cS:=mz.beside (e:=(⟨af,λw=>aM w (.slice aa an ac) 1 (bm bl) cS⟩:bN)) aH;have Po:aM (bX (cF (aj p2 [.string nm,.int .i64 pa,.int .i64 re,.slice a n c] 35::aj p4 [.string aE,.int .i64 0,.int .i64 0,.slice none 0 0] 35::ai a n c 46 6 (bs.flatMap bg)::ai none 0 0 46 6 []::bs.map b_)) w1) (.slice oa m oc) 1 (o.map λx:Nat=>(x:Int)) fj:=by
  rw[hm];exact Pn.le lz mz.Qa
 have back:∀{E:List bN} {w:World},Wd (cF (aj p2 [.string nm,.int .i64 pa,.int .i64 re,.slice a n c] 35::aj p4 [.string aE,.int .i64 0,.int .i64 0,.slice none 0 0] 35::ai a n c 46 6 (bs.flatMap bg)::ai none 0 0 46 6 []::bs.map b_)) (bX (cF (aj p2 [.string nm,.int .i64 pa,.int .i64 re,.slice a n c] 35::aj p4 [.string aE,.int .i64 0,.int .i64 0,.slice none 0 0] 35::ai a n c 46 6 (bs.flatMap bg)::ai none 0 0 46 6 []::bs.map b_)) w1) E w->Wd SS w0 (E++[ai (some ⟨ta,0,none⟩) n n 3 1 ((DR n o).map (.int .i64)),(⟨af,λw=>aM w (.slice aa an ac) 1 (bm bl) cS⟩:bN)]) w:=λhw=>mz.comp hw.mG;have x6:∀{E:List bN} {w:World},Wd (cF (aj p2 [.string nm,.int .i64 pa,.int .i64 re,.slice a n c] 35::aj p4 [.string aE,.int .i64 0,.int .i64 0,.slice none 0 0] 35::ai a n c 46 6 (bs.flatMap bg)::ai none 0 0 46 6 []::bs.map b_)) (bX (cF (aj p2 [.string nm,.int .i64 pa,.int .i64 re,.slice a n c] 35::aj p4 [.string aE,.int .i64 0,.int .i64 0,.slice none 0 0] 35::ai a n c 46 6 (bs.flatMap bg)::ai none 0 0 46 6 []::bs.map b_)) w1) E w->∀p v,(bX (cF (aj p2 [.string nm,.int .i64 pa,.int .i64 re,.slice a n c] 35::aj p4 [.string aE,.int .i64 0,.int .i64 0,.slice none 0 0] 35::ai a n c 46 6 (bs.flatMap bg)::ai none 0 0 46 6 []::bs.map b_)) w1).cell? p=some v->w.cell? p=some v:=λhw=>hw.pH;have hold:∀{b o:Nat} {v:Value} {l:List Value},bG (bX (cF (aj p2 [.string nm,.int .i64 pa,.int .i64 re,.slice a n c] 35::aj p4 [.string aE,.int .i64 0,.int .i64 0,.slice none 0 0] 35::ai a n c 46 6 (bs.flatMap bg)::ai none 0 0 46 6 []::bs.map b_)) w1) b o (v::l)->eI (cF (aj p2 [.string nm,.int .i64 pa,.int .i64 re,.slice a n c] 35::aj p4 [.string aE,.int .i64 0,.int .i64 0,.slice none 0 0] 35::ai a n c 46 6 (bs.flatMap bg)::ai none 0 0 46 6 []::bs.map b_)) b:=λhc=>iu hc aH;generalize bX (cF (aj p2 [.string nm,.int .i64 pa,.int .i64 re,.slice a n c] 35::aj p4 [.string aE,.int .i64 0,.int .i64 0,.slice none 0 0] 35::ai a n c 46 6 (bs.flatMap bg)::ai none 0 0 46 6 []::bs.map b_)) w1=wk at*;generalize cF (aj p2 [.string nm,.int .i64 pa,.int .i64 re,.slice a n c] 35::aj p4 [.string aE,.int .i64 0,.int .i64 0,.slice none 0 0] 35::ai a n c 46 6 (bs.flatMap bg)::ai none 0 0 46 6 []::bs.map b_)=S2 at*;have B8:(bm bl).length=n:=by unfold bm;rw[fM,xT]
 obtain⟨EY,_⟩:=zn.at;rw[B8]at EY;subst an;have WZ:bm bl≠[]:=λe=>by rw[e]at B8;simp at B8;omega
 have acR:DR n o≠[]:=λe=>by have:=qk n o;rw[e]at this;simp at this;omega
 obtain⟨b8,o8,aam,VB,OZ⟩:=f_ zn hold (λ_ _ h=>by obtain⟨_,e,_⟩:=h;exact⟨_,_,e⟩) WZ;obtain⟨b5,o5,afj,ae0,aaJ⟩:=f_ WS hold (λ_ _ h=>⟨_,_,h.1⟩) acR;refine eW 2 rfl dS λvb vo nz=>?_;subst nz;refine bP (λ(x:Nat×List aR×List aR×Option Addr×Nat)=>x.1<=m/\Y1 bl bs o x.1 x.2.1 x.2.2.1) (λx=>[(44,.int .i64 x.1),(9,.slice x.2.2.2.1 x.2.2.1.length x.2.2.2.2),(5,.slice (some ⟨ta,0,none⟩) n n),(8,.slice aa n ac),(2,.pointer (some ⟨p2,0,none⟩)),(4,.pointer (some ⟨p4,0,none⟩)),(42,.slice oa m oc),(43,.int .i64 m)]) (λx=>aj p2 [.string nm,.int .i64 pa,.int .i64 re,.slice (some ⟨vb,vo,none⟩) n c] 35::aj p4 [.string aE,.int .i64 0,.int .i64 0,.slice none 0 0] 35::ai (some ⟨vb,vo,none⟩) n c 46 6 (bs.flatMap bg)::ai x.2.2.2.1 x.2.2.1.length x.2.2.2.2 46 6 (x.2.2.1.flatMap bg)::x.2.1.map b_) (λx=>m-x.1) (0,bs,[],none,0) ⟨aY _,⟨rfl,rfl,λ_ _=>rfl,λj b hj=>ag⟩⟩ (aV aw ag2) λx ⟨hi,kr⟩=>?_;obtain⟨i,rs,out,na,nc⟩:=x;simp only at hi kr⊢;refine aU ?_;refine aN (λh1=>?_) (λh1=>?_)
 ·have iQ:i<m:=by simpa using h1
  obtain⟨b,hb⟩:∃b,o[i]?=some b:=⟨_,aB ag⟩;obtain⟨qb,qo,Cu,IK,Cb⟩:=f_ Po hold (λ_ _ h=>⟨_,_,h.1⟩) (λe=>by have:=aW hb;simp at e;exact this e);obtain⟨_,oQ,rfl,_⟩:=Cb i (b:Int) (by rw[aK,hb];rfl);have pC:b<n:=by rw[<-xT,iR];exact hk.lt b (aA hb)
  have mW:bZ i m:=⟨iQ⟩;have Pc:bZ b n:=⟨pC⟩;have uP:b∉o.take i:=λh=>by
   obtain⟨j,hj⟩:=br h;rw[rQ]at hj
   split at hj
   ·have jE:=(aC.1 hj).1
    have:=ux hk.nodup jE ag ((ki hj).trans (ki hb).symm);omega
   ·cases hj
  obtain⟨BB,WA⟩:∃B,bs[b]?=some B:=⟨_,aB ag⟩;obtain⟨qa,qc,ps,la,lc,xs,kd,on,xa,xc,to⟩:=BB;have hB:bs[b]?=some (⟨qa,qc,ps,la,lc,xs,kd,on,xa,xc,to⟩:aR):=WA;have hrB:rs[b]?=some (⟨qa,qc,ps,la,lc,xs,kd,on,xa,xc,to⟩:aR):=by rw[kr.RM b uP];exact hB
  have B7:=sI _ (aA hB);have Tt:ps.length<=1000:=B7.aL;have aer:to.length<=1000:=B7.to.1;have WW:bl[b]?=some ((⟨qa,qc,ps,la,lc,xs,kd,on,xa,xc,to⟩:aR)).eo:=by rw[iR,aK,hB];rfl
  have Cl:=hf.block b _ (by rw[<-iR];exact WW);have fK:(bm bl)[b]?=some ((bf bl b).map λx:Nat=>(x:Int)):=by
   rw[iR];exact gm hg (λb B hB=>(hf.block b B hB).to) (by rw[<-iR,xT];exact pC)
  have xA:gj (aj p2 [.string nm,.int .i64 pa,.int .i64 re,.slice (some ⟨vb,vo,none⟩) n c] 35::aj p4 [.string aE,.int .i64 0,.int .i64 0,.slice none 0 0] 35::ai (some ⟨vb,vo,none⟩) n c 46 6 (bs.flatMap bg)::ai na out.length nc 46 6 (out.flatMap bg)::rs.map b_) vb (vo+b*6) _:=iT (k:=2) rfl dC hB;simp only[bg]at xA
  repeat(first|refine aI ?_|refine dX λ_ _=>?_)
  rename_i oH _;have Pt:=iB b_ hrB;refine bj (H1:=b_ (⟨qa,qc,ps,la,lc,xs,kd,on,xa,xc,to⟩:aR)::(aj oH [.slice qa ps.length qc,.slice la xs.length lc,.int .i64 kd,.bool on.bD,.int .i64 on.n,.slice xa to.length xc] 46::aj p2 [.string nm,.int .i64 pa,.int .i64 re,.slice (some ⟨vb,vo,none⟩) n c] 35::aj p4 [.string aE,.int .i64 0,.int .i64 0,.slice none 0 0] 35::ai (some ⟨vb,vo,none⟩) n c 46 6 (bs.flatMap bg)::ai na out.length nc 46 6 (out.flatMap bg)::(rs.eraseIdx b).map b_)) (aJ.2 λe=>?_) ?_
  ·have:=aJ.1 Pt e
   simp only[bi]at this⊢;omega
  refine AF ?_;refine bj (H1:=ai qa ps.length qc 49 2 (ps.flatMap ci)::aj oH [.slice qa ps.length qc,.slice la xs.length lc,.int .i64 kd,.bool on.bD,.int .i64 on.n,.slice xa to.length xc] 46::aj p2 [.string nm,.int .i64 pa,.int .i64 re,.slice (some ⟨vb,vo,none⟩) n c] 35::aj p4 [.string aE,.int .i64 0,.int .i64 0,.slice none 0 0] 35::ai (some ⟨vb,vo,none⟩) n c 46 6 (bs.flatMap bg)::ai na out.length nc 46 6 (out.flatMap bg)::(ps.map e7++(uR (⟨qa,qc,ps,la,lc,xs,kd,on,xa,xc,to⟩:aR)++(rs.eraseIdx b).map b_))) (aJ.2 λe=>?_) ?_
  ·have:=aJ.1 (Fs (⟨qa,qc,ps,la,lc,xs,kd,on,xa,xc,to⟩:aR)) e
   unfold phV at this;simp only[bi,bu]at this⊢;omega
  refine bP (λ(es:List cG)=>es.length<=ps.length/\es.map cG.jW=(ps.take es.length).map (λq=>gC bl o b q.jW)/\∀q∈es,c9 q.dst/\q.l.length<=1000/\∀v∈q.l,c9 v.n) (λes=>[(56,.int .i64 es.length),(54,.slice qa ps.length qc),(55,.int .i64 ps.length),(12,.pointer (some ⟨oH,0,none⟩)),(11,.int .i64 b),(44,.int .i64 i),(9,.slice na out.length nc),(5,.slice (some ⟨ta,0,none⟩) n n),(8,.slice aa n ac),(2,.pointer (some ⟨p2,0,none⟩)),(4,.pointer (some ⟨p4,0,none⟩)),(42,.slice oa m oc),(43,.int .i64 m)])
   (λes=>ai qa ps.length qc 49 2 ((es++ps.drop es.length).flatMap ci)::aj oH [.slice qa ps.length qc,.slice la xs.length lc,.int .i64 kd,.bool on.bD,.int .i64 on.n,.slice xa to.length xc] 46::aj p2 [.string nm,.int .i64 pa,.int .i64 re,.slice (some ⟨vb,vo,none⟩) n c] 35::aj p4 [.string aE,.int .i64 0,.int .i64 0,.slice none 0 0] 35::ai (some ⟨vb,vo,none⟩) n c 46 6 (bs.flatMap bg)::ai na out.length nc 46 6 (out.flatMap bg)::((es++ps.drop es.length).map e7++(uR (⟨qa,qc,ps,la,lc,xs,kd,on,xa,xc,to⟩:aR)++(rs.eraseIdx b).map b_))) (λes=>ps.length-es.length) [] ⟨aY _,rfl,by simp⟩ (aV aw ag2) λes ⟨Vq,E0,ID⟩=>?_
  refine aU ?_;refine aN (λh2=>?_) (λh2=>?_)
  ·have bT:es.length<ps.length:=by simpa using h2
   generalize zT:es.length=ei at*;obtain⟨q,hq⟩:∃q,ps[ei]?=some q:=⟨_,aB bT⟩;have E5:=aA hq;obtain⟨XU,hqb,Kl⟩:=B7.jW q E5;have AX:=Cl.aL q.jW (aX.2 ⟨q,E5,rfl⟩);obtain⟨pd,l6,fL,pl⟩:=q;simp only at XU hqb Kl;have E4:pl.length=(bf bl b).length:=by rw[iR];exact AX.len
   refine eW 0 rfl ag λzb zo Es=>?_;subst Es;have IH:bZ ei ps.length:=⟨bT⟩;have jS:(es++ps.drop ei)[ei]?=some (⟨pd,l6,fL,pl⟩:cG):=by
    rw[dg ag,zT,dq,g_,dL];exact hq
   have Vj:ps.drop ei=(⟨pd,l6,fL,pl⟩:cG)::ps.drop (ei+1):=by rw[lF bT,(aC.1 hq).2]
   refine bj (H1:=ai l6 pl.length fL 41 2 (pl.flatMap df)::ai (some ⟨zb,zo,none⟩) ps.length qc 49 2 ((es++ps.drop ei).flatMap ci)::aj oH [.slice (some ⟨zb,zo,none⟩) ps.length qc,.slice la xs.length lc,.int .i64 kd,.bool on.bD,.int .i64 on.n,.slice xa to.length xc] 46::aj p2 [.string nm,.int .i64 pa,.int .i64 re,.slice (some ⟨vb,vo,none⟩) n c] 35::aj p4 [.string aE,.int .i64 0,.int .i64 0,.slice none 0 0] 35::ai (some ⟨vb,vo,none⟩) n c 46 6 (bs.flatMap bg)::ai na out.length nc 46 6 (out.flatMap bg)::((es++ps.drop (ei+1)).map e7++(uR (⟨some ⟨zb,zo,none⟩,qc,ps,la,lc,xs,kd,on,xa,xc,to⟩:aR)++(rs.eraseIdx b).map b_))) (aJ.2 λe=>?_) ?_
   ·rw[Vj]
    have e2:e7 (⟨pd,l6,fL,pl⟩:cG)=ai l6 pl.length fL 41 2 (pl.flatMap df):=rfl;simp only[bB,bO,bu,bi,e2];omega
   have Md:gj (ai l6 pl.length fL 41 2 (pl.flatMap df)::ai (some ⟨zb,zo,none⟩) ps.length qc 49 2 ((es++ps.drop ei).flatMap ci)::aj oH [.slice (some ⟨zb,zo,none⟩) ps.length qc,.slice la xs.length lc,.int .i64 kd,.bool on.bD,.int .i64 on.n,.slice xa to.length xc] 46::aj p2 [.string nm,.int .i64 pa,.int .i64 re,.slice (some ⟨vb,vo,none⟩) n c] 35::aj p4 [.string aE,.int .i64 0,.int .i64 0,.slice none 0 0] 35::ai (some ⟨vb,vo,none⟩) n c 46 6 (bs.flatMap bg)::ai na out.length nc 46 6 (out.flatMap bg)::((es++ps.drop (ei+1)).map e7++(uR (⟨some ⟨zb,zo,none⟩,qc,ps,la,lc,xs,kd,on,xa,xc,to⟩:aR)++(rs.eraseIdx b).map b_))) zb (zo+ei*2) _:=iT (k:=1) rfl ft jS;simp only[ci]at Md
   repeat(first|refine aI ?_|refine dX λ_ _=>?_)
   rename_i kt _;refine fq 200 3 ?_;obtain⟨Ri,Kq⟩:∃Ri:Nat->List (Nat×cm),Ri=λj=>(((bf bl b).take j).filter λq=>decide (q∈o)).map λq=>(o.idxOf q,kj bl b ⟨pd,pl⟩ q):=⟨_,rfl⟩;have A6:Ri 0=[]:=by rw[Kq];simp
   refine bP (λ(x:Nat×List (Nat×cm)×Option Addr×Nat)=>x.1<=pl.length/\x.2.1=Ri x.1) (λx=>[(64,.int .i64 x.1),(62,.slice l6 pl.length fL),(63,.int .i64 pl.length),(15,.slice x.2.2.1 x.2.1.length x.2.2.2),(14,.pointer (some ⟨kt,0,none⟩)),(13,.int .i64 ei),(56,.int .i64 ei),(54,.slice (some ⟨zb,zo,none⟩) ps.length qc),(55,.int .i64 ps.length),(12,.pointer (some ⟨oH,0,none⟩)),(11,.int .i64 b),(44,.int .i64 i),(9,.slice na out.length nc),(5,.slice (some ⟨ta,0,none⟩) n n),(8,.slice aa n ac),(2,.pointer (some ⟨p2,0,none⟩)),(4,.pointer (some ⟨p4,0,none⟩)),(42,.slice oa m oc),(43,.int .i64 m)])
    (λx=>ai x.2.2.1 x.2.1.length x.2.2.2 200 3 (x.2.1.flatMap yV)::aj kt [.int .i64 pd,.slice l6 pl.length fL] 49::ai l6 pl.length fL 41 2 (pl.flatMap df)::ai (some ⟨zb,zo,none⟩) ps.length qc 49 2 ((es++ps.drop ei).flatMap ci)::aj oH [.slice (some ⟨zb,zo,none⟩) ps.length qc,.slice la xs.length lc,.int .i64 kd,.bool on.bD,.int .i64 on.n,.slice xa to.length xc] 46::aj p2 [.string nm,.int .i64 pa,.int .i64 re,.slice (some ⟨vb,vo,none⟩) n c] 35::aj p4 [.string aE,.int .i64 0,.int .i64 0,.slice none 0 0] 35::ai (some ⟨vb,vo,none⟩) n c 46 6 (bs.flatMap bg)::ai na out.length nc 46 6 (out.flatMap bg)::((es++ps.drop (ei+1)).map e7++(uR (⟨some ⟨zb,zo,none⟩,qc,ps,la,lc,xs,kd,on,xa,xc,to⟩:aR)++(rs.eraseIdx b).map b_))) (λx=>pl.length-x.1) (0,[],none,0) ⟨aY _,A6.symm⟩ (aV aw ag2) λx ⟨hj,hl⟩=>?_
   obtain⟨j,l,ra,rc⟩:=x;simp only at hj hl⊢;have Kf:l.length<=j:=by
    rw[hl,Kq,aG];refine dB (ja _ _) ?_;rw[cU];omega
   refine aU ?_;refine aN (λh3=>?_) (λh3=>?_)
   ·have jE:j<pl.length:=by simpa using h3
    obtain⟨v,hv⟩:∃v,pl[j]?=some v:=⟨_,aB jE⟩;obtain⟨qj,IJ⟩:∃qj,(bf bl b)[j]?=some qj:=⟨_,aB ag⟩;have abr:qj<n:=by rw[<-xT];exact G7 bl b qj (aA IJ)
    have r5:kj bl b ⟨pd,pl⟩ qj=v:=by
     unfold kj;have h4:(bf bl b).idxOf qj=j:=by
      have h5:=r9 (jH bl b) (i:=j) ag;rwa[ki IJ]at h5
     rw[h4,cz,hv]
     rfl
    have qw:Ri (j+1)=l++if qj∈o then[(o.idxOf qj,v)]else[]:=by
     rw[hl,Kq];simp only;rw[cj,IJ,nI,bB];congr 1
     by_cases h4:qj∈o
     ·simp[h4,r5]
     ·simp[h4]
    refine eW 2 rfl ag λyb yo E8=>?_;subst E8;have Pf:bZ j pl.length:=⟨jE⟩;have Pp:gj (ai ra l.length rc 200 3 (l.flatMap yV)::aj kt [.int .i64 pd,.slice (some ⟨yb,yo,none⟩) pl.length fL] 49::ai (some ⟨yb,yo,none⟩) pl.length fL 41 2 (pl.flatMap df)::ai (some ⟨zb,zo,none⟩) ps.length qc 49 2 ((es++ps.drop ei).flatMap ci)::aj oH [.slice (some ⟨zb,zo,none⟩) ps.length qc,.slice la xs.length lc,.int .i64 kd,.bool on.bD,.int .i64 on.n,.slice xa to.length xc] 46::aj p2 [.string nm,.int .i64 pa,.int .i64 re,.slice (some ⟨vb,vo,none⟩) n c] 35::aj p4 [.string aE,.int .i64 0,.int .i64 0,.slice none 0 0] 35::ai (some ⟨vb,vo,none⟩) n c 46 6 (bs.flatMap bg)::ai na out.length nc 46 6 (out.flatMap bg)::((es++ps.drop (ei+1)).map e7++(uR (⟨some ⟨zb,zo,none⟩,qc,ps,la,lc,xs,kd,on,xa,xc,to⟩:aR)++(rs.eraseIdx b).map b_))) yb (yo+j*2) _:=iT (k:=2) rfl eB hv;simp only[df]at Pp;obtain⟨_,aaA,rv,rfl,y8⟩:=OZ b _ fK;obtain⟨rva,rvn,rvc,_,_,rfl,Gt,_⟩:=id y8;have agL:rvn=pl.length:=by rw[Gt,aG,E4]
    have hlr:bZ j rvn:=⟨ag⟩;obtain⟨b7,o7,acM,abd,Xf⟩:=f_ y8 hold (λ_ _ h=>⟨_,_,h.1⟩) (λe=>by have:=aW IJ;simp at e;exact this e);obtain⟨_,ac2,rfl,_⟩:=Xf j (qj:Int) (by rw[aK,IJ];rfl);have hlq:bZ qj n:=⟨abr⟩;obtain⟨_,W6,rfl,_⟩:=aaJ qj _ (tW abr)
    repeat(first|refine aI ?_|refine dX λ_ _=>?_)
    by_cases IK:qj∈o
    ·rw[if_pos IK]
     rw[if_pos IK]at qw;rw[show decide ((0:Int)<=((o.idxOf qj:Nat):Int))=true by simp]
     repeat(first|refine aO ?_|refine dX λ_ _=>?_)
     refine mq rfl rfl ag ag λSb rc'=>?_;rw[show l.length+1=(l++[(o.idxOf qj,v)]).length by simp,show l.flatMap yV++[.int .i64 ((o.idxOf qj:Nat):Int),.bool v.bD,.int .i64 v.n]=(l++[(o.idxOf qj,v)]).flatMap yV by rw[gO];rfl];refine aO ?_;exact bC (j+1,l++[(o.idxOf qj,v)],Sb,rc') ⟨ag,qw.symm⟩ (by simp only;omega) aw ap
    ·rw[if_neg IK]
     rw[if_neg IK,cq]at qw;rw[show decide ((0:Int)<=(-1:Int))=false by decide];refine aO ?_;exact bC (j+1,l,ra,rc) ⟨ag,qw.symm⟩ (by simp only;omega) aw ap
   obtain rfl:j=pl.length:=by have:=of_decide_eq_false h3;omega
   have hlf:l=FN bl o b ⟨pd,pl⟩:=by
    rw[hl,Kq];unfold FN;simp only;rw[jw ag]
   refine aI ?_;refine fg (H1:=[ai ra l.length rc 200 3 (l.flatMap yV)]++(aj kt [.int .i64 pd,.slice l6 pl.length fL] 49::ai l6 pl.length fL 41 2 (pl.flatMap df)::ai (some ⟨zb,zo,none⟩) ps.length qc 49 2 ((es++ps.drop ei).flatMap ci)::aj oH [.slice (some ⟨zb,zo,none⟩) ps.length qc,.slice la xs.length lc,.int .i64 kd,.bool on.bD,.int .i64 on.n,.slice xa to.length xc] 46::aj p2 [.string nm,.int .i64 pa,.int .i64 re,.slice (some ⟨vb,vo,none⟩) n c] 35::aj p4 [.string aE,.int .i64 0,.int .i64 0,.slice none 0 0] 35::ai (some ⟨vb,vo,none⟩) n c 46 6 (bs.flatMap bg)::ai na out.length nc 46 6 (out.flatMap bg)::((es++ps.drop (ei+1)).map e7++(uR (⟨some ⟨zb,zo,none⟩,qc,ps,la,lc,xs,kd,on,xa,xc,to⟩:aR)++(rs.eraseIdx b).map b_)))) rfl ?_;refine fH (val:=λ_:List (Nat×cm)=>.tuple #[]) (E:=λl'=>[ai ra l'.length rc 200 3 (l'.flatMap yV)]) (φ:=λl'=>l'.Perm l/\l'.Pairwise λx y=>x.1<y.1∨x.1=y.1) rfl (λw hw=>Ux ra rc l (λx hx=>?_) ag w hw.pre) λl' Vv=>?_
   ·rw[hlf]at hx
    unfold FN at hx;obtain⟨q,hq,rfl⟩:=aX.1 hx;have h4:=(cI.1 hq).2;simp only[decide_eq_true_eq]at h4;have:=vI h4;simp only;omega
   have adG:l'=Ay bl o b ⟨pd,pl⟩:=by
    have h4:=Ig (bl:=bl) hk.nodup b ⟨pd,pl⟩;rw[<-hlf]at h4;exact BO (f:=λx:Nat×cm=>x.1) (h4.trans Vv.1.symm) (Ih hk.nodup b _) Vv.2
   have hQ:l'.map (·.2)=(gC bl o b ⟨pd,pl⟩).src:=by rw[adG];exact LJ bl o b _
   have afT:l'.length<=1000:=by have:=Vv.1.length_eq;omega
   have adK:l'.length=l.length:=Vv.1.length_eq;rw[<-adK];simp only[a6,aT];have PR:lN ((es++ps.drop ei).flatMap ci) (ei*2+1) (.slice none 0 0) (((es++[(⟨pd,none,0,[]⟩:cG)])++ps.drop (ei+1)).flatMap ci):=⟨by
    show((es++ps.drop ei).flatMap ci).set (ei*2+1) (.slice none ([]:List cm).length 0)=_;rw[gh ft jS (k:=1) (v:=.slice none ([]:List cm).length 0) ag (y:=(⟨pd,none,0,[]⟩:cG)) rfl];congr 1;exact nS zT bT,by rw[ct ft,bR,ez];omega⟩
   have XN:mT (ai ra l'.length rc 200 3 (l'.flatMap yV)::aj kt [.int .i64 pd,.slice l6 pl.length fL] 49::ai l6 pl.length fL 41 2 (pl.flatMap df)::ai (some ⟨zb,zo,none⟩) ps.length qc 49 2 ((es++ps.drop ei).flatMap ci)::aj oH [.slice (some ⟨zb,zo,none⟩) ps.length qc,.slice la xs.length lc,.int .i64 kd,.bool on.bD,.int .i64 on.n,.slice xa to.length xc] 46::aj p2 [.string nm,.int .i64 pa,.int .i64 re,.slice (some ⟨vb,vo,none⟩) n c] 35::aj p4 [.string aE,.int .i64 0,.int .i64 0,.slice none 0 0] 35::ai (some ⟨vb,vo,none⟩) n c 46 6 (bs.flatMap bg)::ai na out.length nc 46 6 (out.flatMap bg)::((es++ps.drop (ei+1)).map e7++(uR (⟨some ⟨zb,zo,none⟩,qc,ps,la,lc,xs,kd,on,xa,xc,to⟩:aR)++(rs.eraseIdx b).map b_))) zb (zo+ei*2+1) 3 zo (ei*2+1) ps.length qc 49 2 ((es++ps.drop ei).flatMap ci):=⟨rfl,ag⟩;refine aI ?_;clear XN PR;obtain⟨Q,hQd⟩:∃Q,Q=l'.map (·.2):=⟨_,rfl⟩;have hQl:Q.length=l'.length:=by rw[hQd,aG]
   refine fq 41 2 ?_;refine bP (λ(x:List cm×Option Addr×Nat)=>x.1.length<=Q.length/\x.1=Q.take x.1.length) (λx=>[(97,.int .i64 x.1.length),(95,.slice ra l'.length rc),(96,.int .i64 l'.length),(14,.pointer (some ⟨kt,0,none⟩)),(13,.int .i64 ei),(56,.int .i64 ei),(54,.slice (some ⟨zb,zo,none⟩) ps.length qc),(55,.int .i64 ps.length),(12,.pointer (some ⟨oH,0,none⟩)),(11,.int .i64 b),(44,.int .i64 i),(9,.slice na out.length nc),(5,.slice (some ⟨ta,0,none⟩) n n),(8,.slice aa n ac),(2,.pointer (some ⟨p2,0,none⟩)),(4,.pointer (some ⟨p4,0,none⟩)),(42,.slice oa m oc),(43,.int .i64 m)])
    (λx=>ai x.2.1 x.1.length x.2.2 41 2 (x.1.flatMap df)::ai ra l'.length rc 200 3 (l'.flatMap yV)::ai (some ⟨zb,zo,none⟩) ps.length qc 49 2 (((es++[(⟨pd,x.2.1,x.2.2,x.1⟩:cG)])++ps.drop (ei+1)).flatMap ci)::aj oH [.slice (some ⟨zb,zo,none⟩) ps.length qc,.slice la xs.length lc,.int .i64 kd,.bool on.bD,.int .i64 on.n,.slice xa to.length xc] 46::aj p2 [.string nm,.int .i64 pa,.int .i64 re,.slice (some ⟨vb,vo,none⟩) n c] 35::aj p4 [.string aE,.int .i64 0,.int .i64 0,.slice none 0 0] 35::ai (some ⟨vb,vo,none⟩) n c 46 6 (bs.flatMap bg)::ai na out.length nc 46 6 (out.flatMap bg)::((es++ps.drop (ei+1)).map e7++(uR (⟨some ⟨zb,zo,none⟩,qc,ps,la,lc,xs,kd,on,xa,xc,to⟩:aR)++(rs.eraseIdx b).map b_))) (λx=>Q.length-x.1.length) ([],none,0) ⟨aY _,by simp⟩ (aV aw ap) λx ⟨Xq,AO⟩=>?_
   obtain⟨vs,fa,fc⟩:=x;simp only at Xq AO⊢;refine aU ?_;refine aN (λh4=>?_) (λh4=>?_)
   ·have hvl:vs.length<l'.length:=by have:=of_decide_eq_true h4;omega
    generalize hvL:vs.length=kk at*;obtain⟨x,hx⟩:∃x,l'[kk]?=some x:=⟨_,aB hvl⟩;have hxQ:Q[kk]?=some x.2:=by rw[hQd,aK,hx];rfl
    refine eW 1 rfl ag λrb ro ND=>?_;subst ND;have Pf:bZ kk l'.length:=⟨hvl⟩;have XM:gj (ai fa kk fc 41 2 (vs.flatMap df)::ai (some ⟨rb,ro,none⟩) l'.length rc 200 3 (l'.flatMap yV)::ai (some ⟨zb,zo,none⟩) ps.length qc 49 2 (((es++[(⟨pd,fa,fc,vs⟩:cG)])++ps.drop (ei+1)).flatMap ci)::aj oH [.slice (some ⟨zb,zo,none⟩) ps.length qc,.slice la xs.length lc,.int .i64 kd,.bool on.bD,.int .i64 on.n,.slice xa to.length xc] 46::aj p2 [.string nm,.int .i64 pa,.int .i64 re,.slice (some ⟨vb,vo,none⟩) n c] 35::aj p4 [.string aE,.int .i64 0,.int .i64 0,.slice none 0 0] 35::ai (some ⟨vb,vo,none⟩) n c 46 6 (bs.flatMap bg)::ai na out.length nc 46 6 (out.flatMap bg)::((es++ps.drop (ei+1)).map e7++(uR (⟨some ⟨zb,zo,none⟩,qc,ps,la,lc,xs,kd,on,xa,xc,to⟩:aR)++(rs.eraseIdx b).map b_))) rb (ro+kk*3) _:=iT (k:=1) rfl JX hx;simp only[yV]at XM
    repeat(first|refine aI ?_|refine dX λ_ _=>?_)
    rename_i ym _;have O5:((es++[(⟨pd,fa,fc,vs⟩:cG)])++ps.drop (ei+1))[ei]?=some (⟨pd,fa,fc,vs⟩:cG):=by
     rw[dG (by simp[zT]),dg ag,zT,dq];rfl
    have aba:fe (aj ym [.int .i64 (x.1:Int),.bool x.2.bD,.int .i64 x.2.n] 200::ai fa kk fc 41 2 (vs.flatMap df)::ai (some ⟨rb,ro,none⟩) l'.length rc 200 3 (l'.flatMap yV)::ai (some ⟨zb,zo,none⟩) ps.length qc 49 2 (((es++[(⟨pd,fa,fc,vs⟩:cG)])++ps.drop (ei+1)).flatMap ci)::aj oH [.slice (some ⟨zb,zo,none⟩) ps.length qc,.slice la xs.length lc,.int .i64 kd,.bool on.bD,.int .i64 on.n,.slice xa to.length xc] 46::aj p2 [.string nm,.int .i64 pa,.int .i64 re,.slice (some ⟨vb,vo,none⟩) n c] 35::aj p4 [.string aE,.int .i64 0,.int .i64 0,.slice none 0 0] 35::ai (some ⟨vb,vo,none⟩) n c 46 6 (bs.flatMap bg)::ai na out.length nc 46 6 (out.flatMap bg)::((es++ps.drop (ei+1)).map e7++(uR (⟨some ⟨zb,zo,none⟩,qc,ps,la,lc,xs,kd,on,xa,xc,to⟩:aR)++(rs.eraseIdx b).map b_))) zb (zo+ei*2+1) (.slice fa kk fc):=⟨λ_ _ _ hw=>by
     have h5:=hw.cK (k:=3) rfl (fy ft _ ei _ 1 (.slice fa vs.length fc) O5 rfl);rw[hvL]at h5;rwa[<-dA]at h5⟩
    have XJ:∀Z:bN,fe (Z::aj ym [.int .i64 (x.1:Int),.bool x.2.bD,.int .i64 x.2.n] 200::ai fa kk fc 41 2 (vs.flatMap df)::ai (some ⟨rb,ro,none⟩) l'.length rc 200 3 (l'.flatMap yV)::ai (some ⟨zb,zo,none⟩) ps.length qc 49 2 (((es++[(⟨pd,fa,fc,vs⟩:cG)])++ps.drop (ei+1)).flatMap ci)::aj oH [.slice (some ⟨zb,zo,none⟩) ps.length qc,.slice la xs.length lc,.int .i64 kd,.bool on.bD,.int .i64 on.n,.slice xa to.length xc] 46::aj p2 [.string nm,.int .i64 pa,.int .i64 re,.slice (some ⟨vb,vo,none⟩) n c] 35::aj p4 [.string aE,.int .i64 0,.int .i64 0,.slice none 0 0] 35::ai (some ⟨vb,vo,none⟩) n c 46 6 (bs.flatMap bg)::ai na out.length nc 46 6 (out.flatMap bg)::((es++ps.drop (ei+1)).map e7++(uR (⟨some ⟨zb,zo,none⟩,qc,ps,la,lc,xs,kd,on,xa,xc,to⟩:aR)++(rs.eraseIdx b).map b_))) zb (zo+ei*2+1) (.slice fa kk fc):=λZ=>⟨λ_ _ _ hw=>by
     have h5:=hw.cK (k:=4) rfl (fy ft _ ei _ 1 (.slice fa vs.length fc) O5 rfl);rw[hvL]at h5;rwa[<-dA]at h5⟩
    have mM:∀(ya:Option Addr) (yc:Nat),lN (((es++[(⟨pd,fa,fc,vs⟩:cG)])++ps.drop (ei+1)).flatMap ci) (ei*2+1) (.slice ya (vs++[x.2]).length yc) (((es++[(⟨pd,ya,yc,vs++[x.2]⟩:cG)])++ps.drop (ei+1)).flatMap ci):=λya yc=>⟨by
     rw[gh ft O5 (k:=1) ag (y:=(⟨pd,ya,yc,vs++[x.2]⟩:cG)) rfl];congr 1;rw[List.set_append_left _ _ (by simp[zT]),lq _ _ ag,zT,dq]
     rfl,by rw[ct ft,bR,bR,zT];simp;omega⟩
    have VE:∀X Y:bN,mT (X::aj ym [.int .i64 (x.1:Int),.bool x.2.bD,.int .i64 x.2.n] 200::Y::ai (some ⟨rb,ro,none⟩) l'.length rc 200 3 (l'.flatMap yV)::ai (some ⟨zb,zo,none⟩) ps.length qc 49 2 (((es++[(⟨pd,fa,fc,vs⟩:cG)])++ps.drop (ei+1)).flatMap ci)::aj oH [.slice (some ⟨zb,zo,none⟩) ps.length qc,.slice la xs.length lc,.int .i64 kd,.bool on.bD,.int .i64 on.n,.slice xa to.length xc] 46::aj p2 [.string nm,.int .i64 pa,.int .i64 re,.slice (some ⟨vb,vo,none⟩) n c] 35::aj p4 [.string aE,.int .i64 0,.int .i64 0,.slice none 0 0] 35::ai (some ⟨vb,vo,none⟩) n c 46 6 (bs.flatMap bg)::ai na out.length nc 46 6 (out.flatMap bg)::((es++ps.drop (ei+1)).map e7++(uR (⟨some ⟨zb,zo,none⟩,qc,ps,la,lc,xs,kd,on,xa,xc,to⟩:aR)++(rs.eraseIdx b).map b_))) zb (zo+ei*2+1) 4 zo (ei*2+1) ps.length qc 49 2 (((es++[(⟨pd,fa,fc,vs⟩:cG)])++ps.drop (ei+1)).flatMap ci):=λX Y=>⟨rfl,ag⟩;have C7:vs.flatMap df++[.bool x.2.bD,.int .i64 x.2.n]=(vs++[x.2]).flatMap df:=by rw[gO];rfl
    have B_:kk+1=(vs++[x.2]).length:=by rw[bR,hvL];rfl
    refine dR [aj ym [.int .i64 (x.1:Int),.bool x.2.bD,.int .i64 x.2.n] 200,aj oH [.slice (some ⟨zb,zo,none⟩) ps.length qc,.slice la xs.length lc,.int .i64 kd,.bool on.bD,.int .i64 on.n,.slice xa to.length xc] 46] (λ_:Option Addr×Nat=>True) (λy=>[(97,.int .i64 kk),(95,.slice (some ⟨rb,ro,none⟩) l'.length rc),(96,.int .i64 l'.length),(14,.pointer (some ⟨kt,0,none⟩)),(13,.int .i64 ei),(56,.int .i64 ei),(54,.slice (some ⟨zb,zo,none⟩) ps.length qc),(55,.int .i64 ps.length),(12,.pointer (some ⟨oH,0,none⟩)),(11,.int .i64 b),(44,.int .i64 i),(9,.slice na out.length nc),(5,.slice (some ⟨ta,0,none⟩) n n),(8,.slice aa n ac),(2,.pointer (some ⟨p2,0,none⟩)),(4,.pointer (some ⟨p4,0,none⟩)),(42,.slice oa m oc),(43,.int .i64 m)])
     (λy=>ai y.1 (vs++[x.2]).length y.2 41 2 ((vs++[x.2]).flatMap df)::ai (some ⟨rb,ro,none⟩) l'.length rc 200 3 (l'.flatMap yV)::ai (some ⟨zb,zo,none⟩) ps.length qc 49 2 (((es++[(⟨pd,y.1,y.2,vs++[x.2]⟩:cG)])++ps.drop (ei+1)).flatMap ci)::aj oH [.slice (some ⟨zb,zo,none⟩) ps.length qc,.slice la xs.length lc,.int .i64 kd,.bool on.bD,.int .i64 on.n,.slice xa to.length xc] 46::aj p2 [.string nm,.int .i64 pa,.int .i64 re,.slice (some ⟨vb,vo,none⟩) n c] 35::aj p4 [.string aE,.int .i64 0,.int .i64 0,.slice none 0 0] 35::ai (some ⟨vb,vo,none⟩) n c 46 6 (bs.flatMap bg)::ai na out.length nc 46 6 (out.flatMap bg)::((es++ps.drop (ei+1)).map e7++(uR (⟨some ⟨zb,zo,none⟩,qc,ps,la,lc,xs,kd,on,xa,xc,to⟩:aR)++(rs.eraseIdx b).map b_))) mixed (by first|exact dn (.cons _ (.cons _ (.cons _ (dn ou))))|exact .cons _ (dn (.cons _ (.cons _ (.cons _ (dn ou)))))) ?_ λy _=>?_
    ·skip
     refine az 0 rfl aq ap ?_;refine az 1 rfl aq ap ?_;refine az 2 rfl aq ap ?_;refine az 3 rfl aq ap ?_;refine az 4 rfl aq ap ?_;refine az 5 rfl aq ap ?_;refine az 6 rfl aq ap ?_;refine az 7 rfl aq ap ?_;refine az 9 rfl aq ap ?_;refine az 10 rfl aq ap ?_;refine kG 8 11 aq ?_ ?_
     ·refine eY 8 rfl ap ?_
      refine F4 11 rfl aq aq ap λnb _=>?_;refine j1 12 2 rfl rfl aq ag ag aq (λ_=>ap) λya yc=>?_;rw[B_,C7];simp only[cn,bS];have Yq:=mM ya yc;refine az 13 rfl aq ap ?_;refine az 14 rfl aq ap ?_;refine j3 15 aq aq ap ?_;exact dN (ya,yc) trivial aw ap
     ·refine ji 11 rfl aq ap λnb _=>?_
      refine ck 8 aq (eY 8 rfl ap ?_);refine j1 12 2 rfl rfl aq ag ag aq (λ_=>ap) λya yc=>?_;rw[B_,C7];simp only[cn,bS];have Yq:=mM ya yc;refine az 13 rfl aq ap ?_;refine az 14 rfl aq ap ?_;refine j3 15 aq aq ap ?_;exact dN (ya,yc) trivial aw ap
    ·obtain⟨ya,yc⟩:=y
     refine aO ?_;exact bC (vs++[x.2],ya,yc) ⟨by rw[<-B_];omega,by rw[<-B_,cj,hxQ,<-AO];rfl⟩ (by rw[<-B_];simp only;omega) (by simp only[<-B_];repeat(first|exact trivial|refine⟨rfl,?_⟩)) ag2
   ·have hvl:vs.length=Q.length:=by have:=of_decide_eq_false h4;omega
    have hvQ:vs=Q:=by rw[AO,hvl,cO]
    subst hvQ;refine aI ?_;have kq:(es++[(⟨pd,fa,fc,vs⟩:cG)]).length=ei+1:=by simp[zT]
    refine nu (H':=ai (some ⟨zb,zo,none⟩) ps.length qc 49 2 (((es++[(⟨pd,fa,fc,vs⟩:cG)])++ps.drop (es++[(⟨pd,fa,fc,vs⟩:cG)]).length).flatMap ci)::aj oH [.slice (some ⟨zb,zo,none⟩) ps.length qc,.slice la xs.length lc,.int .i64 kd,.bool on.bD,.int .i64 on.n,.slice xa to.length xc] 46::aj p2 [.string nm,.int .i64 pa,.int .i64 re,.slice (some ⟨vb,vo,none⟩) n c] 35::aj p4 [.string aE,.int .i64 0,.int .i64 0,.slice none 0 0] 35::ai (some ⟨vb,vo,none⟩) n c 46 6 (bs.flatMap bg)::ai na out.length nc 46 6 (out.flatMap bg)::(((es++[(⟨pd,fa,fc,vs⟩:cG)])++ps.drop (es++[(⟨pd,fa,fc,vs⟩:cG)]).length).map e7++(uR (⟨some ⟨zb,zo,none⟩,qc,ps,la,lc,xs,kd,on,xa,xc,to⟩:aR)++(rs.eraseIdx b).map b_))) (λw hw=>?_) ?_
    ·refine hw.pick ⟨[ai ra l'.length rc 200 3 (l'.flatMap yV)],aJ.2 λe=>?_⟩
     have e2:e7 (⟨pd,fa,fc,vs⟩:cG)=ai fa vs.length fc 41 2 (vs.flatMap df):=rfl;rw[kq];simp only[bB,bO,dp,bu,bi,cd,e2];omega
    refine bC (es++[(⟨pd,fa,fc,vs⟩:cG)]) ⟨by rw[kq];omega,?_,λq hq=>?_⟩ (by rw[kq];omega) (by simp only[kq];repeat(first|exact trivial|refine⟨rfl,?_⟩)) ag2
    ·rw[kq,cj,hq,bB,bB,E0]
     simp only[lr,bO,dp,cG.jW,List.append_cancel_left_eq,List.cons.injEq,and_true];rw[hQd,hQ]
     rfl
    ·rcases bL.1 hq with hq|hq
     ·exact ID q hq
     ·rw[bU.1 hq]
      refine⟨XU,by rw[hQl];omega,λv hv=>?_⟩;rw[hQd]at hv;rw[hQ]at hv;unfold gC at hv;obtain⟨y,hy,rfl⟩:=aX.1 hv;have Zr:=(cI.1 hy).2;exact Kl _ (uD (R:=R) (p:=⟨pd,pl⟩) E4 (by simpa using Zr))
  have gT:es.length=ps.length:=by have:=of_decide_eq_false h2;omega
  rw[gT,iH,cq];rw[gT,cO]at E0;refine bj (H1:=ai xa to.length xc 3 1 (to.map (.int .i64))::ai qa ps.length qc 49 2 (es.flatMap ci)::aj oH [.slice qa ps.length qc,.slice la xs.length lc,.int .i64 kd,.bool on.bD,.int .i64 on.n,.slice xa to.length xc] 46::aj p2 [.string nm,.int .i64 pa,.int .i64 re,.slice (some ⟨vb,vo,none⟩) n c] 35::aj p4 [.string aE,.int .i64 0,.int .i64 0,.slice none 0 0] 35::ai (some ⟨vb,vo,none⟩) n c 46 6 (bs.flatMap bg)::ai na out.length nc 46 6 (out.flatMap bg)::(es.map e7++(ai la xs.length lc 56 8 (xs.flatMap eE)::(xs.map jo++(rs.eraseIdx b).map b_)))) (aJ.2 λe=>?_) ?_
  ·unfold uR yE
   simp only[bu,bi];omega
  obtain⟨K3,PJ⟩:∃K3:Nat->List Int,K3=λk=>(to.take k).map (λt=>((o.idxOf t.toNat:Nat):Int))++to.drop k:=⟨_,rfl⟩;have VM:∀k,(K3 k).length=to.length:=λk=>by rw[PJ];simp;omega
  have abM:K3 0=to:=by rw[PJ];simp
  rw[show ai xa to.length xc 3 1 (to.map (.int .i64))=ai xa to.length xc 3 1 ((K3 0).map (.int .i64)) by rw[abM]];refine aI ?_;refine bP (λ(k:Nat)=>k<=to.length) (λk=>[(122,.int .i64 k),(120,.slice xa to.length xc),(121,.int .i64 to.length),(12,.pointer (some ⟨oH,0,none⟩)),(11,.int .i64 b),(44,.int .i64 i),(9,.slice na out.length nc),(5,.slice (some ⟨ta,0,none⟩) n n),(8,.slice aa n ac),(2,.pointer (some ⟨p2,0,none⟩)),(4,.pointer (some ⟨p4,0,none⟩)),(42,.slice oa m oc),(43,.int .i64 m)]) (λk=>ai xa to.length xc 3 1 ((K3 k).map (.int .i64))::ai qa ps.length qc 49 2 (es.flatMap ci)::aj oH [.slice qa ps.length qc,.slice la xs.length lc,.int .i64 kd,.bool on.bD,.int .i64 on.n,.slice xa to.length xc] 46::aj p2 [.string nm,.int .i64 pa,.int .i64 re,.slice (some ⟨vb,vo,none⟩) n c] 35::aj p4 [.string aE,.int .i64 0,.int .i64 0,.slice none 0 0] 35::ai (some ⟨vb,vo,none⟩) n c 46 6 (bs.flatMap bg)::ai na out.length nc 46 6 (out.flatMap bg)::(es.map e7++(ai la xs.length lc 56 8 (xs.flatMap eE)::(xs.map jo++(rs.eraseIdx b).map b_)))) (λk=>to.length-k) 0 (aY _) (aV aw ag2) λk R4=>?_;refine aU ?_;refine aN (λh3=>?_) (λh3=>?_)
  ·have xz:k<to.length:=by simpa using h3
   obtain⟨x,hx⟩:∃x,to[k]?=some x:=⟨_,aB xz⟩;have hxe:x∈dd bl b:=by rw[fR WW];exact aA hx
   have PP:=hk.closed b (aA hb) x (by rw[<-iR];exact hxe);have Ce:=qq (by rw[iR];exact hg) hxe;obtain⟨xn,rfl⟩:∃xn:Nat,x=xn:=⟨x.toNat,ag⟩;rw[dD]at PP;refine eW 0 rfl ag λyb yo E8=>?_;subst E8;have Pf:bZ k to.length:=⟨xz⟩;have hlx:bZ xn n:=⟨ag⟩;have agT:NX ((K3 k).map (.int .i64)) (k*1) (.int .i64 (xn:Int)):=⟨by
    rw[fB,aK,PJ];simp only;rw[dg (by simp;omega),aG,cU,iA ag,dq,g_,dL,hx]
    rfl⟩
   have aaI:to.drop k=(xn:Int)::to.drop (k+1):=by rw[lF xz,(aC.1 hx).2]
   have qe:(K3 k).set k ((o.idxOf xn:Nat):Int)=K3 (k+1):=by
    rw[PJ];simp only;rw[lq _ _ (by simp;omega),aG,cU,iA ag,dq,aaI,bS,cj,hx,bB];simp
   have mM:lN ((K3 k).map (.int .i64)) (k*1) (.int .i64 ((o.idxOf xn:Nat):Int)) ((K3 (k+1)).map (.int .i64)):=⟨by
    rw[fB,<-eh,qe],by rw[aG,VM];omega⟩
   obtain⟨_,W6,rfl,_⟩:=aaJ xn _ (tW ag);rw[if_pos PP]at W6;refine aO ?_;refine dR [aj oH [.slice qa ps.length qc,.slice la xs.length lc,.int .i64 kd,.bool on.bD,.int .i64 on.n,.slice (some ⟨yb,yo,none⟩) to.length xc] 46] (λ_:Unit=>True) (λ_=>[(122,.int .i64 k),(120,.slice (some ⟨yb,yo,none⟩) to.length xc),(121,.int .i64 to.length),(12,.pointer (some ⟨oH,0,none⟩)),(11,.int .i64 b),(44,.int .i64 i),(9,.slice na out.length nc),(5,.slice (some ⟨ta,0,none⟩) n n),(8,.slice aa n ac),(2,.pointer (some ⟨p2,0,none⟩)),(4,.pointer (some ⟨p4,0,none⟩)),(42,.slice oa m oc),(43,.int .i64 m)]) (λ_=>ai (some ⟨yb,yo,none⟩) to.length xc 3 1 ((K3 (k+1)).map (.int .i64))::ai qa ps.length qc 49 2 (es.flatMap ci)::aj oH [.slice qa ps.length qc,.slice la xs.length lc,.int .i64 kd,.bool on.bD,.int .i64 on.n,.slice (some ⟨yb,yo,none⟩) to.length xc] 46::aj p2 [.string nm,.int .i64 pa,.int .i64 re,.slice (some ⟨vb,vo,none⟩) n c] 35::aj p4 [.string aE,.int .i64 0,.int .i64 0,.slice none 0 0] 35::ai (some ⟨vb,vo,none⟩) n c 46 6 (bs.flatMap bg)::ai na out.length nc 46 6 (out.flatMap bg)::(es.map e7++(ai la xs.length lc 56 8 (xs.flatMap eE)::(xs.map jo++(rs.eraseIdx b).map b_)))) mixed ap ?_ λ_ _=>?_
   ·skip
    refine az 0 rfl aq ap ?_;refine az 1 rfl aq ap ?_;refine az 2 rfl aq ap ?_;refine az 3 rfl aq ap ?_;refine az 4 rfl aq ap ?_;refine az 5 rfl aq ap ?_;refine az 6 rfl aq ap ?_;refine az 7 rfl aq ap ?_;refine az 8 rfl aq ap ?_;refine j3 9 aq aq ap ?_;exact dN () trivial aw ag2
   ·refine aO ?_
    exact bC (k+1) ag ag aw ag2
  ·obtain rfl:k=to.length:=by have:=of_decide_eq_false h3;omega
   have Gi:(K3 to.length)=(jf bl o b ((⟨qa,qc,ps,la,lc,xs,kd,on,xa,xc,to⟩:aR)).eo).to:=by
    rw[PJ];simp only[cO,iH,cq]
    rfl
   obtain⟨tn,sN⟩:∃tn,tn=K3 to.length:=⟨_,rfl⟩;rw[<-sN]at Gi⊢;have TD:tn.length=to.length:=by rw[sN,VM]
   obtain⟨B',u9⟩:∃B':aR,B'=⟨qa,qc,es,la,lc,xs,kd,on,xa,xc,tn⟩:=⟨_,rfl⟩;have hbC:bg B'=[.slice qa ps.length qc,.slice la xs.length lc,.int .i64 kd,.bool on.bD,.int .i64 on.n,.slice xa to.length xc]:=by rw[u9];simp only[bg,gT,TD]
   have ON:B'.eo=jf bl o b (a8 bl b):=by
    rw[kO WW,u9];unfold aR.eo jf;simp only[E0,Gi,eS]
    rfl
   have WB:B'.Bd:=by
    rw[u9];refine⟨B7.kind,B7.on,by rw[gT];exact Tt,ID,B7.list,B7.ins,by rw[TD];exact aer,λt ht=>?_⟩;rw[Gi]at ht;obtain⟨y,hy,rfl⟩:=aX.1 ht;have:=List.idxOf_le_length (a:=y.toNat) (l:=o);exact⟨ag,ag⟩
   have hoi:=kr.G2
   repeat(first|refine aI ?_|refine dX λ_ _=>?_)
   refine mq rfl rfl ag ag λQv Qx=>?_;rw[<-hbC,show out.length+1=(out++[B']).length by simp,show out.flatMap bg++bg B'=(out++[B']).flatMap bg by rw[gO];simp];refine aO ?_;rename_i nb _;have e1:jb B'=ai qa ps.length qc 49 2 (es.flatMap ci)::ai la xs.length lc 56 8 (xs.flatMap eE)::ai xa to.length xc 3 1 (tn.map (.int .i64))::(es.map e7++xs.map jo):=by rw[u9];simp only[jb,gT,TD]
   refine nu (H':=jb B'++(aj p2 [.string nm,.int .i64 pa,.int .i64 re,.slice (some ⟨vb,vo,none⟩) n c] 35::aj p4 [.string aE,.int .i64 0,.int .i64 0,.slice none 0 0] 35::ai (some ⟨vb,vo,none⟩) n c 46 6 (bs.flatMap bg)::ai Qv (out++[B']).length Qx 46 6 ((out++[B']).flatMap bg)::(rs.eraseIdx b).map b_)) (λw hw=>?_) ?_
   ·refine hw.pick ⟨[ai (some ⟨nb,0,none⟩) 1 1 46 6 (bg B'),aj oH (bg B') 46],aJ.2 λe=>?_⟩
    rw[e1];simp only[bu,bi,cd];omega
   refine D_ ?_;have qe:(rs.set b B')[b]?=some B':=ey (by rw[kr.Up];omega);have AY:=iB b_ qe;rw[oL]at AY;refine bj (H1:=aj p2 [.string nm,.int .i64 pa,.int .i64 re,.slice (some ⟨vb,vo,none⟩) n c] 35::aj p4 [.string aE,.int .i64 0,.int .i64 0,.slice none 0 0] 35::ai (some ⟨vb,vo,none⟩) n c 46 6 (bs.flatMap bg)::ai Qv (out++[B']).length Qx 46 6 ((out++[B']).flatMap bg)::(rs.set b B').map b_) (aJ.2 λe=>?_) ?_
   ·have:=aJ.1 AY e
    unfold b_ at this⊢;simp only[bi]at this⊢;omega
   exact bC (i+1,rs.set b B',out++[B'],Qv,Qx) ⟨ag,kr.step hk.nodup hb ag ON WB⟩ (by simp only;omega) aw ag2
 ·obtain rfl:i=m:=by have:=of_decide_eq_false h1;omega
  refine aI ?_;rw[hm]at kr;obtain⟨Zd,L3,rest,hd3⟩:=kr.done hk.nodup λb hb=>by have:=hk.lt b hb;rw[aG]at this;exact this
  refine gH rfl λw hw=>⟨(na,nc,out),rfl,?_,by rw[<-iR];exact Zd,L3⟩;have h9:=back hw;simp only[a6,aT]at h9;refine h9.pick ⟨[aj p2 [.string nm,.int .i64 pa,.int .i64 re,.slice na out.length nc] 35,aj p4 [.string nm,.int .i64 pa,.int .i64 re,.slice na out.length nc] 35,ai (some ⟨vb,vo,none⟩) n c 46 6 (bs.flatMap bg),ai (some ⟨ta,0,none⟩) n n 3 1 ((DR n o).map (.int .i64)),(⟨af,λw=>aM w (.slice aa n ac) 1 (bm bl) cS⟩:bN)]++rest.map b_,aJ.2 λe=>?_⟩;have Ip:=aJ.1 (hd3.map b_) e;unfold ff;simp only[bB,bu,bi,cd]at Ip⊢;omega
end
end Go.Proofs.YthfhgolkafpmnaaGreatDoor
