/- Texts joined: OneB OneC. -/
import Derived.Test.YthfhgolkafpmnaaGreatDoorGH
import Derived.Test.YthfhgolkafpmnaaGreatDoorIA
import Derived.Test.YthfhgolkafpmnaaGreatDoorIJ
import Derived.Test.YthfhgolkafpmnaaGreatDoorKB
import Derived.Test.YthfhgolkafpmnaaGreatDoorMA
import Derived.Test.YthfhgolkafpmnaaGreatDoorMC
namespace Go.Proofs.YthfhgolkafpmnaaGreatDoor
section
open Go Go.RowKit
attribute [local irreducible] wpListIn Code.wpIn Exit.then Exit.inBlock bodyPost wpQuiet wpAnyIn wpAnyH bodyPostM gX
set_option maxHeartbeats 8000000
theorem TS{S:Nat->Prop}{w0 w1:World}{H1 H2:List bN}(h:Wd S w0 (H1++H2) w1):∀p v,(bX S w0).cell? p=some v->(bX (cF H1) w1).cell? p=some v:=λp v hc=>by
 obtain⟨hn,h1⟩:=lU hc;have bT:=World.block_lt_of_cell? _ p h1;have qu:¬cF H1 p.block:=λ⟨e,he,hb⟩=>(h.own e (cC _ he) _ hb).1.elim hn λh2=>ag;rw[<-h1];exact World.cell?_of_block ((jg w1 qu).trans (h.cE.block _ bT hn))
theorem vM:∀{l:List Nat} {x:Nat},x∈l->x<=l.sum
 |y::l,x,h=>by
  rw[et];rcases bJ.1 h with rfl|h
  ·omega
  ·have:=vM h
   omega
theorem MG:sS yL:=λ_ _ _ _ _ h=>h
theorem Qt:sS Cg:=λ_ _ hc _ _ ⟨v,h1,h2⟩=>⟨v,h1,h2.le MG hc⟩
theorem acq{args:List Value}{R:Nat}{bl:List ar}{w0:World}{f:FuncId}(hR:R<=100)(hlen:bl.length<=100)(h:gV Tryz.prog f args w0 λu w'=>∃x:(Option Addr×Nat×List jC)×(Option Addr×Nat×List jC),u=.tuple #[.slice x.1.1 bl.length x.1.2.1,.slice x.2.1 bl.length x.2.2.1]/\
   Wd dh w0 (ai x.1.1 bl.length x.1.2.1 145 1 (x.1.2.2.map (gJ R))::ai x.2.1 bl.length x.2.2.1 145 1 (x.2.2.2.map (gJ R))::(x.1.2.2.map (ir R)++x.2.2.2.map (ir R))) w'/\Sf R bl x.1.2.2 x.2.2.2):
  gV Tryz.prog f args w0 λu w'=>∃x:(Option Addr×Nat)×(Option Addr×Nat)×(Nat->Prop)×List (List Bool),u=.tuple #[.slice x.1.1 bl.length x.1.2,.slice x.2.1.1 bl.length x.2.1.2]/\Wd dh w0 [⟨x.2.2.1,λw=>aM w (.slice x.1.1 bl.length x.1.2) 1 x.2.2.2 Cg⟩] w'/\
   (x.2.2.2.length=bl.length/\∀(b:Nat) q,x.2.2.2[b]?=some q->q.length=R/\∀r,(has q r↔gM bl r b (-1))):=
 h.mono λu w' ⟨x,h1,h2,h3⟩=>by
  obtain⟨⟨ia,ic,ins⟩,⟨oa,oc,outs⟩⟩:=x;simp only at h1 h2 h3;have iQ:=h3.abX;have h4:Wd dh w0 ((ai ia bl.length ic 145 1 (ins.map (gJ R))::ai oa bl.length oc 145 1 (outs.map (gJ R))::(ins.map (ir R)++outs.map (ir R)))++[]) w':=by rw[cq];exact h2
  refine⟨((ia,ic),(oa,oc),_,ins.map (·.l)),h1,h4.pack _ λw2 hw=>?_,by rw[aG];exact iQ,λb q hq=>?_⟩
  ·simp only
   have h5:Wd _ w2 (ai ia bl.length ic 145 1 (ins.map (gJ R))::(ins.map (ir R)++[])) w2:=hw.sub (dn (.cons _ (by rw[cq];exact dY _ _)));exact KX h5 iQ.symm ag ag h3.VT
  ·rw[aK]at hq
   obtain⟨y,hy,rfl⟩:=cT.1 hq;exact⟨h3.VT y (aA hy),λr=>h3.aeG b y r hy⟩
noncomputable def Jq(X:aZ):aZ:=⟨X.name,X.params,X.aF,de X.blocks X.aF.toNat⟩
open Classical in
noncomputable def lR(bl:List ar)(r:Nat)(here:List Int):List ar:=bl.mapIdx λb B=>{B with aL:=B.aL++(di bl r b++if ev bl b r/\(b:Int)∈here then[gS bl b r]else[])}
theorem Jp(bl:List ar)(r:Nat):lR bl r []=de bl r:=by
 unfold lR de;simp
theorem Jo{bl:List ar}{r:Nat}{here:List Int}(h:∀b,ev bl b r->(b:Int)∈here):lR bl r here=de bl (r+1):=by
 classical
 unfold lR de;congr 1
 funext b B
 rw[EC];congr 3
 by_cases hn:ev bl b r
 ·rw[if_pos hn,if_pos ⟨hn,h b hn⟩]
 ·rw[if_neg hn,if_neg λh=>hn h.1]
theorem sx{bl:List ar}{r b:Nat}{here:List Int}{B:ar}(h:bl[b]?=some B)[Decidable (ev bl b r/\(b:Int)∈here)]:(lR bl r here)[b]?=some {B with aL:=B.aL++(di bl r b++if ev bl b r/\(b:Int)∈here then[gS bl b r]else[])}:=by
 unfold lR;rw[cM,h];simp only[bz];congr
theorem sy(bl:List ar)(r:Nat)(here:List Int):(lR bl r here).length=bl.length:=by simp[lR]
theorem MP{bl:List ar}{r b:Nat}{here:List Int}{B:ar}(hB:bl[b]?=some B)(hb:(b:Int)∉here)(hn:ev bl b r):
  lR bl r (here++[(b:Int)])=(lR bl r here).set b {B with aL:=(B.aL++di bl r b)++[gS bl b r]}:=by
 classical
 apply cf;intro i
 by_cases hi:i=b
 ·subst hi
  rw[sx hB,ey (by rw[sy];exact(aC.1 hB).1),if_pos ⟨hn,by simp⟩,dE]
 ·rw[eR (λe=>hi e.symm)]
  cases h:bl[i]? with
  |none=>
   have:=kg.1 h;rw[bM (by rw[sy];exact this),bM (by rw[sy];exact this)]
  |some C=>
   rw[sx h,sx h];have e:(ev bl i r/\(i:Int)∈here++[(b:Int)])↔(ev bl i r/\(i:Int)∈here):=by
    rw[bL,bU];constructor
    ·rintro⟨h1,h2|h2⟩
     ·exact⟨h1,h2⟩
     ·omega
    ·rintro⟨h1,h2⟩
     exact⟨h1,.inl h2⟩
   simp only[e]
theorem Bx{bl:List ar}{r b:Nat}{here:List Int}(hn:¬ev bl b r):lR bl r (here++[(b:Int)])=lR bl r here:=by
 classical
 unfold lR;congr 1
 funext i B
 have e:(ev bl i r/\(i:Int)∈here++[(b:Int)])↔(ev bl i r/\(i:Int)∈here):=by
  rw[bL,bU];constructor
  ·rintro⟨h1,h2|h2⟩
   ·exact⟨h1,h2⟩
   ·have:i=b:=ag
    subst this;exact absurd h1 hn
  ·rintro⟨h1,h2⟩
   exact⟨h1,.inl h2⟩
 simp only[e]
theorem Je{bl:List ar}{r b:Nat}:∀p∈di bl r b,p.dst≠(r:Int):=λp hp e=>by
 obtain⟨q,hq,_,rfl⟩:=jh hp;simp only[gS]at e;omega
theorem yY{bl:List ar}{r b:Nat}{B:ar}:j_ {B with aL:=B.aL++di bl r b} r=j_ B r:=by
 unfold j_;simp only;rw[List.any_append];have:(di bl r b).any (λp=>decide (p.dst=(r:Int)))=false:=by
  rw[vq];intro p hp;simpa using Je p hp
 rw[this,Bool.or_false]
def fV(bl:List ar)(r i:Nat):List Int:=(0:Int)::((List.range i).filter λb=>decide (1<=b)&&oB (a8 bl b) r).map λx:Nat=>(x:Int)
theorem Nt(bl:List ar)(r i:Nat):fV bl r (i+1)=fV bl r i++if decide (1<=i)&&oB (a8 bl i) r then[(i:Int)]else[]:=by
 unfold fV;rw[kA,nI,bB,a6];congr 2
 by_cases h:(decide (1<=i)&&oB (a8 bl i) r)=true
 ·rw[if_pos h];simp only[List.filter_cons,h,if_true,List.filter_nil];rfl
 ·rw[if_neg h];simp only[List.filter_cons,h,List.filter_nil];rfl
theorem HB(bl:List ar)(r i:Nat):(fV bl r i).length<=i+1:=by
 unfold fV;rw[ie,aG];have:=ja (λb=>decide (1<=b)&&oB (a8 bl b) r) (List.range i);rw[fG]at this;omega
theorem Lj{bl:List ar}{r i:Nat}{x:Int}(h:x∈fV bl r i):∃c:Nat,x=c/\(c=0∨c<i):=by
 unfold fV at h;rcases bJ.1 h with rfl|h
 ·exact⟨0,rfl,.inl rfl⟩
 ·obtain⟨c,hc,rfl⟩:=aX.1 h
  exact⟨c,rfl,.inr (cQ.1 (cI.1 hc).1)⟩
def qA(T:aR)(a:Option Addr)(c:Nat)(ps:List cG):aR:={T with pa:=a,pc:=c,ps:=ps}
theorem RN{S:Nat->Prop}{w0 w:World}{X:List bN}{a:Option Addr}{c t:Nat}{zs:List aR}{T:aR}{na:Option Addr}{nc:Nat}{ps:List cG}(hT:zs[t]?=some T)
  (h:Wd S w0 (X++(ai a zs.length c 46 6 ((zs.set t (qA T na nc ps)).flatMap bg)::ai na ps.length nc 49 2 (ps.flatMap ci)::tx T::nE T::(ps.map e7++(T.xs.map jo++(zs.eraseIdx t).map b_)))) w):Wd S w0 (X++ff a c (zs.set t (qA T na nc ps))) w:=by
 have xC:=(aC.1 hT).1;have h2:Wd S w0 (jb (qA T na nc ps)++(X++(ai a zs.length c 46 6 ((zs.set t (qA T na nc ps)).flatMap bg)::(zs.eraseIdx t).map b_))) w:=by
  refine h.perm ?_;unfold jb qA tx nE
  classical
  refine aJ.2 λe=>?_;simp only[bu,bi];omega
 refine(Wd.join h2).perm ?_;have h5:=iB b_ (l:=zs.set t (qA T na nc ps)) (k:=t) (x:=qA T na nc ps) (ey xC);rw[oL]at h5;unfold ff;rw[eA]
 classical
 refine aJ.2 λe=>?_;have h7:=aJ.1 h5 e;simp only[bu,bi,b_]at h7⊢;omega
theorem JF(X:aZ)(R:Nat)(hX:kw X R)(hlen:X.blocks.length<=100)(vg:dV X.blocks<=800)(w0:World):CM w0 63 [] [] Jq X:=by
 classical
 obtain⟨xn,xp,xr,xb⟩:=X;have OB:=hX.aF;have hR:=hX.le;have hf:=hX.ok;have dS:=hX.pos;have qJ:=hX.par;simp only at hlen vg hf dS OB qJ;subst OB;intro a c bs wb mU sI Td Eh hw;simp only at mU;subst mU;have iR:bs.length<=100:=by rw[aG]at hlen;exact hlen
 have hg:=hf.iM;simp only[aT,cq,a6];refine aQ Tryz.func63 rfl Tryz.ntmps63 rfl hw ?_;obtain⟨SS,C4⟩:∃SS,SS=cF (ff a c bs):=⟨_,rfl⟩;rw[<-C4];obtain⟨bl,ly⟩:∃bl,bl=bs.map aR.eo:=⟨_,rfl⟩;rw[<-ly]at hf dS vg hlen hg;have ac0:bl.length=bs.length:=by rw[ly,aG]
 have hTF:Jq ⟨xn,xp,(R:Int),bs.map aR.eo⟩=⟨xn,xp,(R:Int),de bl R⟩:=by unfold Jq;rw[ly];rfl
 rw[hTF];obtain⟨n,hn⟩:∃n,n=bs.length:=⟨_,rfl⟩;rw[<-hn]
 repeat(first|refine aU ?_|refine dX λ_ _=>?_)
 rename_i p1 _ p2 _;have rh:∀{H:List bN} {w:World},Wd SS wb H w->(ff a c bs).Sublist H->aM w (.slice a n c) 6 bl ed:=λ{H w} hw hs=>by
  rw[ly,hn];refine Wd.blocks (H:=[]) (hw.sub ?_) ag sI;rw[cq];exact hs
 have oh:∀(b:Nat) B,bl[b]?=some B->B.to.Nodup:=λb B hB=>(hf.block b B hB).to;refine dR [] (λx:(Option Addr×Nat×(Nat->Prop))×((Option Addr×Nat×Nat)×(Nat->Prop))=>True) (λx=>[(4,.slice x.2.1.1 x.2.1.2.1 x.2.1.2.2),(3,.slice x.1.1 (gG bl).length x.1.2.1),(1,.pointer (some ⟨p1,0,none⟩)),(2,.pointer (some ⟨p2,0,none⟩))])
  (λx=>(aj p1 [.string xn,.int .i64 xp,.int .i64 (R:Int),.slice a n c] 35::aj p2 [.string aE,.int .i64 0,.int .i64 0,.slice none 0 0] 35::ff a c bs)++[⟨x.1.2.2,λw=>aM w (.slice x.1.1 (gG bl).length x.1.2.1) 1 (gG bl) cS⟩,⟨x.2.2,λw=>aM w (.slice x.2.1.1 x.2.1.2.1 x.2.1.2.2) 1 (bm bl) cS⟩]) mixed ou ?_ λx _=>?_
 ·skip
  refine kG 0 2 aq ?_ ?_
  ·skip
   refine eY 0 rfl ap ?_;refine kG 1 2 aq ?_ ?_
   ·skip
    refine EH 1 (s:=1) (q:=gG bl) (V:=cS) (mk:=λv=>v) rfl ap (λw hw=>Ii ag (xM _ _ _ bl _ ⟨_,_,_,rfl⟩ w (rh hw ap) ag hg oh dS)) λfa fc fp=>?_;refine ck 2 aq ?_;refine eY 2 rfl ap ?_;refine ck 3 aq ?_
    (refine lJ 3 (val:=λx:(Option Addr×Nat×Nat)×(Nat->Prop)=>.slice x.1.1 x.1.2.1 x.1.2.2) (E:=λx=>[⟨x.2,λw=>aM w (.slice x.1.1 x.1.2.1 x.1.2.2) 1 (bm bl) cS⟩]) (φ:=λ_=>True) rfl ap (λw hw=>fO _ _ _ bl _ w (rh hw ap) ag hg) λy _=>?_;obtain⟨⟨aa,an,ac⟩,af⟩:=y;simp only[a6,aT])
    refine ck 4 aq ?_;refine eY 4 rfl ap ?_;refine ck 5 aq ?_;refine eY 5 rfl ap ?_;refine bj (H1:=(aj p1 [.string xn,.int .i64 xp,.int .i64 (R:Int),.slice a n c] 35::aj p2 [.string aE,.int .i64 0,.int .i64 0,.slice none 0 0] 35::ff a c bs)++[⟨fp,λw=>aM w (.slice fa (gG bl).length fc) 1 (gG bl) cS⟩,⟨af,λw=>aM w (.slice aa an ac) 1 (bm bl) cS⟩]) (aJ.2 λe=>by simp only[bu,bi,cd];omega) ?_;refine eF aq ?_;exact dN ((fa,fc,fp),((aa,an,ac),af)) trivial aw ag2
   ·skip
    refine eY 2 rfl ap ?_;refine ck 1 aq ?_;refine EH 1 (s:=1) (q:=gG bl) (V:=cS) (mk:=λv=>v) rfl ap (λw hw=>Ii ag (xM _ _ _ bl _ ⟨_,_,_,rfl⟩ w (rh hw ap) ag hg oh dS)) λfa fc fp=>?_;refine ck 3 aq ?_
    (refine lJ 3 (val:=λx:(Option Addr×Nat×Nat)×(Nat->Prop)=>.slice x.1.1 x.1.2.1 x.1.2.2) (E:=λx=>[⟨x.2,λw=>aM w (.slice x.1.1 x.1.2.1 x.1.2.2) 1 (bm bl) cS⟩]) (φ:=λ_=>True) rfl ap (λw hw=>fO _ _ _ bl _ w (rh hw ap) ag hg) λy _=>?_;obtain⟨⟨aa,an,ac⟩,af⟩:=y;simp only[a6,aT])
    refine ck 4 aq ?_;refine eY 4 rfl ap ?_;refine ck 5 aq ?_;refine eY 5 rfl ap ?_;refine bj (H1:=(aj p1 [.string xn,.int .i64 xp,.int .i64 (R:Int),.slice a n c] 35::aj p2 [.string aE,.int .i64 0,.int .i64 0,.slice none 0 0] 35::ff a c bs)++[⟨fp,λw=>aM w (.slice fa (gG bl).length fc) 1 (gG bl) cS⟩,⟨af,λw=>aM w (.slice aa an ac) 1 (bm bl) cS⟩]) (aJ.2 λe=>by simp only[bu,bi,cd];omega) ?_;refine eF aq ?_;exact dN ((fa,fc,fp),((aa,an,ac),af)) trivial aw ag2
  ·skip
   refine eY 2 rfl ap ?_;refine ck 0 aq ?_;refine eY 0 rfl ap ?_;refine ck 1 aq ?_;refine EH 1 (s:=1) (q:=gG bl) (V:=cS) (mk:=λv=>v) rfl ap (λw hw=>Ii ag (xM _ _ _ bl _ ⟨_,_,_,rfl⟩ w (rh hw ap) ag hg oh dS)) λfa fc fp=>?_;refine ck 3 aq ?_
   (refine lJ 3 (val:=λx:(Option Addr×Nat×Nat)×(Nat->Prop)=>.slice x.1.1 x.1.2.1 x.1.2.2) (E:=λx=>[⟨x.2,λw=>aM w (.slice x.1.1 x.1.2.1 x.1.2.2) 1 (bm bl) cS⟩]) (φ:=λ_=>True) rfl ap (λw hw=>fO _ _ _ bl _ w (rh hw ap) ag hg) λy _=>?_;obtain⟨⟨aa,an,ac⟩,af⟩:=y;simp only[a6,aT])
   refine ck 4 aq ?_;refine eY 4 rfl ap ?_;refine ck 5 aq ?_;refine eY 5 rfl ap ?_;refine bj (H1:=(aj p1 [.string xn,.int .i64 xp,.int .i64 (R:Int),.slice a n c] 35::aj p2 [.string aE,.int .i64 0,.int .i64 0,.slice none 0 0] 35::ff a c bs)++[⟨fp,λw=>aM w (.slice fa (gG bl).length fc) 1 (gG bl) cS⟩,⟨af,λw=>aM w (.slice aa an ac) 1 (bm bl) cS⟩]) (aJ.2 λe=>by simp only[bu,bi,cd];omega) ?_;refine eF aq ?_;exact dN ((fa,fc,fp),((aa,an,ac),af)) trivial aw ag2
 obtain⟨⟨fa,fc,fp⟩,⟨⟨aa,an,ac⟩,af⟩⟩:=x;simp only[a6];rw[vx];have tk:∀B∈bl,∀x∈B.list,x.args.length<=1000:=λB hB x hx=>by
  rw[ly]at hB;obtain⟨q,hq,rfl⟩:=aX.1 hB;obtain⟨y,hy,rfl⟩:=aX.1 hx;exact((sI q hq).ins y hy).2.1
 have mX:∀B∈bl,B.list.length<=1000/\B.aL.length<=1000:=λB hB=>by
  rw[ly]at hB;obtain⟨q,hq,rfl⟩:=aX.1 hB;unfold aR.eo;simp only[aG];exact⟨(sI q hq).list,(sI q hq).aL⟩
 refine aU ?_;refine cV (val:=λx:(Option Addr×Nat)×(Option Addr×Nat)×(Nat->Prop)×List (List Bool)=>.tuple #[.slice x.1.1 bl.length x.1.2,.slice x.2.1.1 bl.length x.2.1.2]) (E:=λx=>[⟨x.2.2.1,λw=>aM w (.slice x.1.1 bl.length x.1.2) 1 x.2.2.2 Cg⟩]) (φ:=λx=>x.2.2.2.length=bl.length/\∀(b:Nat) q,x.2.2.2[b]?=some q->q.length=R/\∀r,(has q r↔gM bl r b (-1))) rfl
  (λw hw=>acq hR ag (Sq _ _ R hR bl _ w (rh hw (List.Sublist.trans (.cons _ (.cons _ (.refl _))) (dY _ _))) ag hf tk mX)) λx hx=>?_
 obtain⟨⟨ia,ic⟩,⟨oa,oc⟩,sp,M_⟩:=x;obtain⟨pG,qe⟩:=hx;simp only at pG qe⊢;simp only[a6,aT];refine aO ?_;refine bj (H1:=(aj p1 [.string xn,.int .i64 xp,.int .i64 (R:Int),.slice a n c] 35::aj p2 [.string aE,.int .i64 0,.int .i64 0,.slice none 0 0] 35::ff a c bs)++[(⟨sp,λw=>aM w (.slice ia bl.length ic) 1 M_ Cg⟩:bN),(⟨fp,λw=>aM w (.slice fa bl.length fc) 1 (gG bl) cS⟩:bN),(⟨af,λw=>aM w (.slice aa an ac) 1 (bm bl) cS⟩:bN)]) (aJ.2 λe=>by simp only[bu,bi,cd];omega) ?_;refine nQ λw1 mz=>?_;have LV:aM (bX (cF ((aj p1 [.string xn,.int .i64 xp,.int .i64 (R:Int),.slice a n c] 35::aj p2 [.string aE,.int .i64 0,.int .i64 0,.slice none 0 0] 35::ff a c bs))) w1) (.slice aa an ac) 1 (bm bl) cS:=mz.beside (e:=(⟨af,λw=>aM w (.slice aa an ac) 1 (bm bl) cS⟩:bN)) aH;have Eh:aM (bX (cF ((aj p1 [.string xn,.int .i64 xp,.int .i64 (R:Int),.slice a n c] 35::aj p2 [.string aE,.int .i64 0,.int .i64 0,.slice none 0 0] 35::ff a c bs))) w1) (.slice fa bl.length fc) 1 (gG bl) cS:=mz.beside (e:=(⟨fp,λw=>aM w (.slice fa bl.length fc) 1 (gG bl) cS⟩:bN)) aH;have hse:aM (bX (cF ((aj p1 [.string xn,.int .i64 xp,.int .i64 (R:Int),.slice a n c] 35::aj p2 [.string aE,.int .i64 0,.int .i64 0,.slice none 0 0] 35::ff a c bs))) w1) (.slice ia bl.length ic) 1 M_ Cg:=mz.beside (e:=(⟨sp,λw=>aM w (.slice ia bl.length ic) 1 M_ Cg⟩:bN)) aH;have back:∀{E:List bN} {w:World},Wd (cF ((aj p1 [.string xn,.int .i64 xp,.int .i64 (R:Int),.slice a n c] 35::aj p2 [.string aE,.int .i64 0,.int .i64 0,.slice none 0 0] 35::ff a c bs))) (bX (cF ((aj p1 [.string xn,.int .i64 xp,.int .i64 (R:Int),.slice a n c] 35::aj p2 [.string aE,.int .i64 0,.int .i64 0,.slice none 0 0] 35::ff a c bs))) w1) E w->Wd SS wb (E++[(⟨sp,λw=>aM w (.slice ia bl.length ic) 1 M_ Cg⟩:bN),(⟨fp,λw=>aM w (.slice fa bl.length fc) 1 (gG bl) cS⟩:bN),(⟨af,λw=>aM w (.slice aa an ac) 1 (bm bl) cS⟩:bN)]) w:=λhw=>mz.comp hw.mG;have x6:∀{E:List bN} {w:World},Wd (cF ((aj p1 [.string xn,.int .i64 xp,.int .i64 (R:Int),.slice a n c] 35::aj p2 [.string aE,.int .i64 0,.int .i64 0,.slice none 0 0] 35::ff a c bs))) (bX (cF ((aj p1 [.string xn,.int .i64 xp,.int .i64 (R:Int),.slice a n c] 35::aj p2 [.string aE,.int .i64 0,.int .i64 0,.slice none 0 0] 35::ff a c bs))) w1) E w->nf (bX (cF ((aj p1 [.string xn,.int .i64 xp,.int .i64 (R:Int),.slice a n c] 35::aj p2 [.string aE,.int .i64 0,.int .i64 0,.slice none 0 0] 35::ff a c bs))) w1) w:=λhw=>hw.pH;have kr:∀{E1 E2:List bN} {w:World},Wd (cF ((aj p1 [.string xn,.int .i64 xp,.int .i64 (R:Int),.slice a n c] 35::aj p2 [.string aE,.int .i64 0,.int .i64 0,.slice none 0 0] 35::ff a c bs))) (bX (cF ((aj p1 [.string xn,.int .i64 xp,.int .i64 (R:Int),.slice a n c] 35::aj p2 [.string aE,.int .i64 0,.int .i64 0,.slice none 0 0] 35::ff a c bs))) w1) (E1++E2) w->nf (bX (cF ((aj p1 [.string xn,.int .i64 xp,.int .i64 (R:Int),.slice a n c] 35::aj p2 [.string aE,.int .i64 0,.int .i64 0,.slice none 0 0] 35::ff a c bs))) w1) (bX (cF E1) w):=λhw=>TS hw.mG
 have hold:∀{b o:Nat} {v:Value} {l:List Value},bG (bX (cF ((aj p1 [.string xn,.int .i64 xp,.int .i64 (R:Int),.slice a n c] 35::aj p2 [.string aE,.int .i64 0,.int .i64 0,.slice none 0 0] 35::ff a c bs))) w1) b o (v::l)->eI (cF ((aj p1 [.string xn,.int .i64 xp,.int .i64 (R:Int),.slice a n c] 35::aj p2 [.string aE,.int .i64 0,.int .i64 0,.slice none 0 0] 35::ff a c bs))) b:=λhc=>iu hc aH;generalize bX (cF ((aj p1 [.string xn,.int .i64 xp,.int .i64 (R:Int),.slice a n c] 35::aj p2 [.string aE,.int .i64 0,.int .i64 0,.slice none 0 0] 35::ff a c bs))) w1=wk at*;generalize cF ((aj p1 [.string xn,.int .i64 xp,.int .i64 (R:Int),.slice a n c] 35::aj p2 [.string aE,.int .i64 0,.int .i64 0,.slice none 0 0] 35::ff a c bs))=SK at*
 skip
 refine bP (λx:Nat×List aR=>x.1<=R/\x.2.map aR.eo=de bl x.1/\∀b∈x.2,b.Bd) (λx=>[(26,.int .i64 x.1),(25,.int .i64 (R:Int)),(3,.slice fa bl.length fc),(4,.slice aa an ac),(5,.slice ia bl.length ic),(6,.slice oa bl.length oc),(1,.pointer (some ⟨p1,0,none⟩)),(2,.pointer (some ⟨p2,0,none⟩))]) (λx=>aj p1 [.string xn,.int .i64 xp,.int .i64 (R:Int),.slice a n c] 35::aj p2 [.string aE,.int .i64 0,.int .i64 0,.slice none 0 0] 35::ff a c x.2) (λx=>R-x.1) (0,bs) ⟨aY _,by rw[EM,ly],sI⟩ (aV aw ag2) λx ⟨hr,vH,um⟩=>?_;obtain⟨r,ys⟩:=x;simp only at hr vH um⊢;have IR:ys.length=n:=by
  have h3:=congrArg List.length vH;rw[aG,eM]at h3;omega
 refine aU ?_;refine aN (λh1=>?_) (λh1=>?_)
 case refine_2=>
  obtain rfl:r=R:=by have:=of_decide_eq_false h1;omega
  refine aI ?_;refine gH rfl λw hw=>⟨(a,c,ys),by simp only[IR],(back hw).sub ?_,vH,um,by simp only;omega,⟨ag,ag⟩,⟨ag,ag⟩⟩;exact List.Sublist.trans (.cons _ (.cons _ (.refl _))) (dY _ _)
 have R9:r<R:=by simpa using h1
 repeat(first|refine aI ?_|refine dX λ_ _=>?_)
 rename_i p7 _ e8 _;refine fg (H1:=[ai (some ⟨e8,0,none⟩) 1 1 3 1 [.int .i64 0],aj p7 [.int .i64 (r:Int)] 3,aj p1 [.string xn,.int .i64 xp,.int .i64 (R:Int),.slice a n c] 35,aj p2 [.string aE,.int .i64 0,.int .i64 0,.slice none 0 0] 35]++ff a c ys) rfl ?_;refine nQ λw2 jl=>?_;have aax:aM (bX (cF [ai (some ⟨e8,0,none⟩) 1 1 3 1 [.int .i64 0],aj p7 [.int .i64 (r:Int)] 3,aj p1 [.string xn,.int .i64 xp,.int .i64 (R:Int),.slice a n c] 35,aj p2 [.string aE,.int .i64 0,.int .i64 0,.slice none 0 0] 35]) w2) (.slice a n c) 6 (de bl r) ed:=by
  have:=Wd.blocks (H:=[]) (ba:=a) (bc:=c) (bs:=ys) (by rw[cq];exact jl.jN) ag um;rw[vH,IR]at this;exact this
 have ZJ:∀{E:List bN} {w:World},Wd (cF [ai (some ⟨e8,0,none⟩) 1 1 3 1 [.int .i64 0],aj p7 [.int .i64 (r:Int)] 3,aj p1 [.string xn,.int .i64 xp,.int .i64 (R:Int),.slice a n c] 35,aj p2 [.string aE,.int .i64 0,.int .i64 0,.slice none 0 0] 35]) (bX (cF [ai (some ⟨e8,0,none⟩) 1 1 3 1 [.int .i64 0],aj p7 [.int .i64 (r:Int)] 3,aj p1 [.string xn,.int .i64 xp,.int .i64 (R:Int),.slice a n c] 35,aj p2 [.string aE,.int .i64 0,.int .i64 0,.slice none 0 0] 35]) w2) E w->Wd SK wk (E++ff a c ys) w:=λhw=>jl.comp hw.mG;have Xr:∀{E:List bN} {w:World},Wd (cF [ai (some ⟨e8,0,none⟩) 1 1 3 1 [.int .i64 0],aj p7 [.int .i64 (r:Int)] 3,aj p1 [.string xn,.int .i64 xp,.int .i64 (R:Int),.slice a n c] 35,aj p2 [.string aE,.int .i64 0,.int .i64 0,.slice none 0 0] 35]) (bX (cF [ai (some ⟨e8,0,none⟩) 1 1 3 1 [.int .i64 0],aj p7 [.int .i64 (r:Int)] 3,aj p1 [.string xn,.int .i64 xp,.int .i64 (R:Int),.slice a n c] 35,aj p2 [.string aE,.int .i64 0,.int .i64 0,.slice none 0 0] 35]) w2) E w->nf (bX (cF [ai (some ⟨e8,0,none⟩) 1 1 3 1 [.int .i64 0],aj p7 [.int .i64 (r:Int)] 3,aj p1 [.string xn,.int .i64 xp,.int .i64 (R:Int),.slice a n c] 35,aj p2 [.string aE,.int .i64 0,.int .i64 0,.slice none 0 0] 35]) w2) w:=λhw=>hw.pH;have tl:∀{b o:Nat} {v:Value} {l:List Value},bG (bX (cF [ai (some ⟨e8,0,none⟩) 1 1 3 1 [.int .i64 0],aj p7 [.int .i64 (r:Int)] 3,aj p1 [.string xn,.int .i64 xp,.int .i64 (R:Int),.slice a n c] 35,aj p2 [.string aE,.int .i64 0,.int .i64 0,.slice none 0 0] 35]) w2) b o (v::l)->eI (cF [ai (some ⟨e8,0,none⟩) 1 1 3 1 [.int .i64 0],aj p7 [.int .i64 (r:Int)] 3,aj p1 [.string xn,.int .i64 xp,.int .i64 (R:Int),.slice a n c] 35,aj p2 [.string aE,.int .i64 0,.int .i64 0,.slice none 0 0] 35]) b:=λhc=>iu hc aH;generalize bX (cF [ai (some ⟨e8,0,none⟩) 1 1 3 1 [.int .i64 0],aj p7 [.int .i64 (r:Int)] 3,aj p1 [.string xn,.int .i64 xp,.int .i64 (R:Int),.slice a n c] 35,aj p2 [.string aE,.int .i64 0,.int .i64 0,.slice none 0 0] 35]) w2=wk2 at*;generalize cF [ai (some ⟨e8,0,none⟩) 1 1 3 1 [.int .i64 0],aj p7 [.int .i64 (r:Int)] 3,aj p1 [.string xn,.int .i64 xp,.int .i64 (R:Int),.slice a n c] 35,aj p2 [.string aE,.int .i64 0,.int .i64 0,.slice none 0 0] 35]=S2 at*;refine bP (λx:Nat×Option Addr×Nat=>x.1<=n) (λx=>[(33,.int .i64 x.1),(31,.slice a n c),(32,.int .i64 n),(8,.slice x.2.1 (fV bl r x.1).length x.2.2),(7,.pointer (some ⟨p7,0,none⟩)),(26,.int .i64 r),(25,.int .i64 (R:Int)),(3,.slice fa bl.length fc),(4,.slice aa an ac),(5,.slice ia bl.length ic),(6,.slice oa bl.length oc),(1,.pointer (some ⟨p1,0,none⟩)),(2,.pointer (some ⟨p2,0,none⟩))]) (λx=>[ai x.2.1 (fV bl r x.1).length x.2.2 3 1 ((fV bl r x.1).map (.int .i64)),aj p7 [.int .i64 (r:Int)] 3,aj p1 [.string xn,.int .i64 xp,.int .i64 (R:Int),.slice a n c] 35,aj p2 [.string aE,.int .i64 0,.int .i64 0,.slice none 0 0] 35]) (λx=>n-x.1) (0,some ⟨e8,0,none⟩,1) (aY _) (aV aw ag2) λx hi=>?_
 ·obtain⟨i,wa,wc⟩:=x
  simp only at hi⊢;refine aU ?_;refine aN (λh2=>?_) (λh2=>?_)
  case refine_2=>
   obtain rfl:n=i:=by have:=of_decide_eq_false h2;omega
   refine aI ?_;refine nY ZJ ?_;clear tl Xr aax;have PN:fV bl r n=qQ bl r:=by unfold fV qQ;rw[hn,<-ac0]
   have hwl:=HB bl r n;obtain⟨M,hM⟩:∃M,M=vi bl (fV bl r n):=⟨_,rfl⟩;have hMn:M.Nodup:=by rw[hM];exact GP _ _
   have hMm:∀x∈M,∃b:Nat,x=b/\lT bl (qQ bl r) b:=λx hx=>by
    rw[hM,PN]at hx;exact(Dn hg).1 hx
   have hMl:M.length<=100:=by
    rw[hM];unfold vi;rw[aG];exact dB (ja _ _) (by rw[fG];omega)
   refine cV (val:=λx:Option Addr×Nat=>.slice x.1 M.length x.2) (E:=λx=>[ai x.1 M.length x.2 3 1 (M.map (.int .i64))]) (φ:=λ_=>True) rfl (λw hw=>?_) λx _=>?_
   ·rw[hM]
    refine Ql bl hg dS ag fa fc wa wc (fV bl r n) ag (λx hx=>?_) w (Eh.le tD (x6 hw)) (hw.nC (k:=0) rfl rfl ag λi x hx=>⟨[.int .i64 x],λj v hj=>by match j,hj with|0,hj=>simpa[hx]using hj,rfl,?_⟩)
    ·obtain⟨c,rfl,hc⟩:=Lj hx
     exact⟨c,rfl,ag⟩
    ·obtain⟨c,rfl,hc⟩:=Lj (aA hx)
     exact⟨ag,ag⟩
   obtain⟨ma,mc⟩:=x;simp only[a6,aT];refine aO ?_;refine bP (λx:Nat×List aR=>x.1<=M.length/\x.2.map aR.eo=lR bl r (M.take x.1)/\∀b∈x.2,b.Bd) (λx=>[(61,.int .i64 x.1),(60,.int .i64 M.length),(59,.slice ma M.length mc),(7,.pointer (some ⟨p7,0,none⟩)),(26,.int .i64 r),(25,.int .i64 (R:Int)),(3,.slice fa bl.length fc),(4,.slice aa an ac),(5,.slice ia bl.length ic),(6,.slice oa bl.length oc),(1,.pointer (some ⟨p1,0,none⟩)),(2,.pointer (some ⟨p2,0,none⟩))]) (λx=>ai ma M.length mc 3 1 (M.map (.int .i64))::ai wa (fV bl r n).length wc 3 1 ((fV bl r n).map (.int .i64))::aj p7 [.int .i64 (r:Int)] 3::aj p1 [.string xn,.int .i64 xp,.int .i64 (R:Int),.slice a n c] 35::aj p2 [.string aE,.int .i64 0,.int .i64 0,.slice none 0 0] 35::ff a c x.2) (λx=>M.length-x.1) (0,ys) ⟨aY _,by simp only[List.take_zero];rw[Jp,vH],um⟩ (aV aw ag2) λx ⟨hj,Et,PS⟩=>?_;clear vH um IR;obtain⟨j,zs⟩:=x;simp only at hj Et PS⊢;have IS:zs.length=n:=by
    have h3:=congrArg List.length Et;rw[aG,sy]at h3;omega
   refine aU ?_;refine aN (λh2=>?_) (λh2=>?_)
   case refine_2=>
    obtain rfl:j=M.length:=by have:=of_decide_eq_false h2;omega
    rw[cO,Jo λb hb=>?_]at Et
    ·refine aI ?_
     refine bC (r+1,zs) ⟨R9,Et,PS⟩ (by simp only;omega) aw ap
    ·rw[hM,PN]
     exact(Dn hg).2 ⟨b,rfl,hb.1⟩
   have jE:j<M.length:=by simpa using h2
   obtain⟨xb,zC⟩:∃x,M[j]?=some x:=⟨_,aB jE⟩;obtain⟨b,rfl,hmb⟩:=hMm xb (aA zC);have J9:b<bl.length:=hmb.lt hg;have A9:M.take (j+1)=M.take j++[(b:Int)]:=by rw[cj,zC];rfl
   have Cp:(b:Int)∉M.take j:=λh=>by
    have h3:(M.take j++[(b:Int)]).Nodup:=by rw[<-A9];exact hMn.sublist (List.take_sublist _ _)
    exact(nN.1 h3).2.2 _ h _ aH rfl
   obtain⟨C,hC⟩:∃C,bl[b]?=some C:=⟨_,aB J9⟩;have hB:=sx (r:=r) (here:=M.take j) hC;rw[if_neg λh=>Cp h.2,cq]at hB;obtain⟨B,U_⟩:∃B:ar,B={C with aL:=C.aL++di bl r b}:=⟨_,rfl⟩;rw[<-U_]at hB;have Xm:j_ B r=j_ (a8 bl b) r:=by rw[U_,yY,eD hC]
   obtain⟨q,hq⟩:∃q,M_[b]?=some q:=⟨_,aB ag⟩;obtain⟨Cb,Tu⟩:=qe b q hq;obtain⟨bit,WU⟩:∃z,q[r]?=some z:=⟨_,aB ag⟩;have Gk:bit=true↔gM bl r b (-1):=by
    rw[<-Tu r];unfold has;rw[WU];simp
   have Ki:ev bl b r↔(bit=true/\j_ B r=false):=by
    rw[Gk,Xm];exact⟨λh=>⟨h.2.2,h.2.1⟩,λh=>⟨hmb,h.2,h.1⟩⟩
   refine eW 0 rfl ag λmb mo Zl=>?_;subst Zl;have IH:bZ j M.length:=⟨jE⟩;have adk:oJ M j (b:Int):=⟨zC⟩;have af0:bZ b n:=⟨ag⟩;have afZ:bZ b bl.length:=⟨J9⟩;have af8:bZ r q.length:=⟨ag⟩;refine fg (H1:=[ai (some ⟨mb,mo,none⟩) M.length mc 3 1 (M.map (.int .i64)),ai wa (fV bl r n).length wc 3 1 ((fV bl r n).map (.int .i64)),aj p7 [.int .i64 (r:Int)] 3,aj p1 [.string xn,.int .i64 xp,.int .i64 (R:Int),.slice a n c] 35,aj p2 [.string aE,.int .i64 0,.int .i64 0,.slice none 0 0] 35]++ff a c zs) rfl ?_;refine nQ λw3 TH=>?_;have aay:aM (bX (cF [ai (some ⟨mb,mo,none⟩) M.length mc 3 1 (M.map (.int .i64)),ai wa (fV bl r n).length wc 3 1 ((fV bl r n).map (.int .i64)),aj p7 [.int .i64 (r:Int)] 3,aj p1 [.string xn,.int .i64 xp,.int .i64 (R:Int),.slice a n c] 35,aj p2 [.string aE,.int .i64 0,.int .i64 0,.slice none 0 0] 35]) w3) (.slice a n c) 6 (lR bl r (M.take j)) ed:=by
    have:=Wd.blocks (H:=[]) (ba:=a) (bc:=c) (bs:=zs) (by rw[cq];exact TH.jN) ag PS;rw[Et,IS]at this;exact this
   have abD:aM (bX (cF [ai (some ⟨mb,mo,none⟩) M.length mc 3 1 (M.map (.int .i64)),ai wa (fV bl r n).length wc 3 1 ((fV bl r n).map (.int .i64)),aj p7 [.int .i64 (r:Int)] 3,aj p1 [.string xn,.int .i64 xp,.int .i64 (R:Int),.slice a n c] 35,aj p2 [.string aE,.int .i64 0,.int .i64 0,.slice none 0 0] 35]) w3) (.slice ia bl.length ic) 1 M_ Cg:=hse.le Qt (kr (E1:=[ai (some ⟨mb,mo,none⟩) M.length mc 3 1 (M.map (.int .i64)),ai wa (fV bl r n).length wc 3 1 ((fV bl r n).map (.int .i64)),aj p7 [.int .i64 (r:Int)] 3,aj p1 [.string xn,.int .i64 xp,.int .i64 (R:Int),.slice a n c] 35,aj p2 [.string aE,.int .i64 0,.int .i64 0,.slice none 0 0] 35]) TH);have NZ:∀{E:List bN} {w:World},Wd (cF [ai (some ⟨mb,mo,none⟩) M.length mc 3 1 (M.map (.int .i64)),ai wa (fV bl r n).length wc 3 1 ((fV bl r n).map (.int .i64)),aj p7 [.int .i64 (r:Int)] 3,aj p1 [.string xn,.int .i64 xp,.int .i64 (R:Int),.slice a n c] 35,aj p2 [.string aE,.int .i64 0,.int .i64 0,.slice none 0 0] 35]) (bX (cF [ai (some ⟨mb,mo,none⟩) M.length mc 3 1 (M.map (.int .i64)),ai wa (fV bl r n).length wc 3 1 ((fV bl r n).map (.int .i64)),aj p7 [.int .i64 (r:Int)] 3,aj p1 [.string xn,.int .i64 xp,.int .i64 (R:Int),.slice a n c] 35,aj p2 [.string aE,.int .i64 0,.int .i64 0,.slice none 0 0] 35]) w3) E w->Wd SK wk (E++ff a c zs) w:=λhw=>TH.comp hw.mG;have aaW:∀{E:List bN} {w:World},Wd (cF [ai (some ⟨mb,mo,none⟩) M.length mc 3 1 (M.map (.int .i64)),ai wa (fV bl r n).length wc 3 1 ((fV bl r n).map (.int .i64)),aj p7 [.int .i64 (r:Int)] 3,aj p1 [.string xn,.int .i64 xp,.int .i64 (R:Int),.slice a n c] 35,aj p2 [.string aE,.int .i64 0,.int .i64 0,.slice none 0 0] 35]) (bX (cF [ai (some ⟨mb,mo,none⟩) M.length mc 3 1 (M.map (.int .i64)),ai wa (fV bl r n).length wc 3 1 ((fV bl r n).map (.int .i64)),aj p7 [.int .i64 (r:Int)] 3,aj p1 [.string xn,.int .i64 xp,.int .i64 (R:Int),.slice a n c] 35,aj p2 [.string aE,.int .i64 0,.int .i64 0,.slice none 0 0] 35]) w3) E w->nf (bX (cF [ai (some ⟨mb,mo,none⟩) M.length mc 3 1 (M.map (.int .i64)),ai wa (fV bl r n).length wc 3 1 ((fV bl r n).map (.int .i64)),aj p7 [.int .i64 (r:Int)] 3,aj p1 [.string xn,.int .i64 xp,.int .i64 (R:Int),.slice a n c] 35,aj p2 [.string aE,.int .i64 0,.int .i64 0,.slice none 0 0] 35]) w3) w:=λhw=>hw.pH;have AU:∀{b o:Nat} {v:Value} {l:List Value},bG (bX (cF [ai (some ⟨mb,mo,none⟩) M.length mc 3 1 (M.map (.int .i64)),ai wa (fV bl r n).length wc 3 1 ((fV bl r n).map (.int .i64)),aj p7 [.int .i64 (r:Int)] 3,aj p1 [.string xn,.int .i64 xp,.int .i64 (R:Int),.slice a n c] 35,aj p2 [.string aE,.int .i64 0,.int .i64 0,.slice none 0 0] 35]) w3) b o (v::l)->eI (cF [ai (some ⟨mb,mo,none⟩) M.length mc 3 1 (M.map (.int .i64)),ai wa (fV bl r n).length wc 3 1 ((fV bl r n).map (.int .i64)),aj p7 [.int .i64 (r:Int)] 3,aj p1 [.string xn,.int .i64 xp,.int .i64 (R:Int),.slice a n c] 35,aj p2 [.string aE,.int .i64 0,.int .i64 0,.slice none 0 0] 35]) b:=λhc=>iu hc aH
   generalize bX (cF [ai (some ⟨mb,mo,none⟩) M.length mc 3 1 (M.map (.int .i64)),ai wa (fV bl r n).length wc 3 1 ((fV bl r n).map (.int .i64)),aj p7 [.int .i64 (r:Int)] 3,aj p1 [.string xn,.int .i64 xp,.int .i64 (R:Int),.slice a n c] 35,aj p2 [.string aE,.int .i64 0,.int .i64 0,.slice none 0 0] 35]) w3=wk3 at*;generalize cF [ai (some ⟨mb,mo,none⟩) M.length mc 3 1 (M.map (.int .i64)),ai wa (fV bl r n).length wc 3 1 ((fV bl r n).map (.int .i64)),aj p7 [.int .i64 (r:Int)] 3,aj p1 [.string xn,.int .i64 xp,.int .i64 (R:Int),.slice a n c] 35,aj p2 [.string aE,.int .i64 0,.int .i64 0,.slice none 0 0] 35]=S3 at*;obtain⟨b1,o1,LR,C8,zq⟩:=f_ aay AU (λ_ _ h=>by obtain⟨_,_,_,e,_⟩:=h;exact⟨_,_,e⟩) (aW hB);obtain⟨_,L2,pv,lv,tv,rfl,_,_,Cs,mW,ht⟩:=zq b B hB;obtain⟨pa,pn,pc,_,_,rfl,_⟩:=id Cs;obtain⟨xa,xm,xc,_,_,rfl,_⟩:=id mW;obtain⟨K5,K7,K6,_,_,rfl,_⟩:=id ht;obtain⟨b2,o2,uL,tl,Cn⟩:=f_ abD AU (λ_ _ h=>by obtain⟨_,e,_⟩:=h;exact⟨_,_,e⟩) (aW hq);obtain⟨_,vC,qv,rfl,Kl⟩:=Cn b q hq;obtain⟨qa,qn,qc,_,_,rfl,hqn,_⟩:=id Kl;subst hqn;obtain⟨b3,o3,Ta,y6,OY⟩:=f_ Kl AU (λ_ _ h=>⟨_,_,h⟩) (aW WU);obtain⟨_,OQ,rfl⟩:=OY r bit WU;refine aO ?_;refine kE mixed aP ?_;refine j9 ?_;cases bit with
   |false=>
    have AT:=Bx (here:=M.take j) λh:ev bl b r=>by cases(Ki.1 h).1
    rw[<-A9]at AT;refine j9 ?_;refine aO ?_;refine nY NZ ?_;exact bC (j+1,zs) ⟨jE,by rw[AT];exact Et,PS⟩ (by simp only;omega) aw ag2
   |true=>
    refine j9 ?_;refine tK rfl (λw hw=>Hn B (r:Int) (.slice pa pn pc) (.slice xa xm xc) (.slice K5 K7 K6) ⟨_,_,_,rfl⟩ ⟨_,_,_,rfl⟩ w (Cs.le Bi (aaW hw))) ?_;cases Zi:j_ B r with
    |true=>
     have AT:=Bx (here:=M.take j) λh:ev bl b r=>by rw[Zi]at Ki;cases(Ki.1 h).2
     rw[<-A9]at AT;refine j9 ?_;refine aO ?_;refine nY NZ ?_;exact bC (j+1,zs) ⟨jE,by rw[AT];exact Et,PS⟩ (by simp only;omega) aw ag2
    |false=>
     have Gp:=MP hC Cp (Ki.2 ⟨rfl,Zi⟩);rw[<-A9]at Gp;refine j9 ?_
     repeat(first|refine aI ?_|refine dX λ_ _=>?_)
     refine nY NZ ?_;clear C8 L2 tl vC y6 OQ LR uL Ta aay abD aaW AU Kl;rename_i kt _;obtain⟨T,hT⟩:∃T,zs[b]?=some T:=⟨_,aB ag⟩;have Vb:T.eo=B:=by
      have h3:(zs.map aR.eo)[b]?=some T.eo:=by rw[aK,hT];rfl
      rw[Et,hB]at h3;exact(be h3).symm
     have yX:=PS T (aA hT);have Y6:C.aL.length<=800:=by
      have h3:C.aL.length+C.list.length<=dV bl:=by
       unfold dV;exact vM (aX.2 ⟨C,aA hC,rfl⟩)
      omega
     have hTl:T.ps.length<=900:=by
      have h3:T.ps.length=B.aL.length:=by rw[<-Vb];unfold aR.eo;rw[aG]
      have h4:(di bl r b).length<=r:=by
       unfold di;rw[aG];exact dB (ja _ _) (by rw[fG];exact bH _)
      rw[h3,U_,bR];omega
     obtain⟨m,hm⟩:∃m,m=(bf bl b).length:=⟨_,rfl⟩;have aeW:m<=100:=by
      rw[hm];exact dB (ja _ _) (by rw[fG];omega)
     obtain⟨l,hl⟩:∃l:List cm,l=List.replicate m ⟨true,(r:Int)⟩:=⟨_,rfl⟩;have Kf:l.length=m:=by rw[hl,ef]
     have fK:=gm hg oh J9;obtain⟨F7,_⟩:=LV.at;have B8:(bm bl).length=bl.length:=by unfold bm;rw[fM]
     rw[B8]at F7;have afY:bZ b an:=⟨ag⟩;obtain⟨b1,o1,LR,C8,zq⟩:=f_ LV hold (λ_ _ h=>by obtain⟨_,e,_⟩:=h;exact⟨_,_,e⟩) (aW fK);obtain⟨_,L2,rv,rfl,y8⟩:=zq b _ fK;obtain⟨ra,rn,rc,_,_,rfl,zx,_⟩:=id y8;rw[aG,<-hm]at zx;subst zx;refine nu (H':=[aj kt [.bool true,.int .i64 (r:Int)] 41,ai (some ⟨mb,mo,none⟩) M.length mc 3 1 (M.map (.int .i64)),ai wa (fV bl r n).length wc 3 1 ((fV bl r n).map (.int .i64)),aj p7 [.int .i64 (r:Int)] 3,aj p1 [.string xn,.int .i64 xp,.int .i64 (R:Int),.slice a n c] 35,aj p2 [.string aE,.int .i64 0,.int .i64 0,.slice none 0 0] 35]++(ai a zs.length c 46 6 (zs.flatMap bg)::ai T.pa T.ps.length T.pc 49 2 (T.ps.flatMap ci)::tx T::nE T::(T.ps.map e7++(T.xs.map jo++(zs.eraseIdx b).map b_)))) (λw hw=>B0 hT (X:=[aj kt [.bool true,.int .i64 (r:Int)] 41,ai (some ⟨mb,mo,none⟩) M.length mc 3 1 (M.map (.int .i64)),ai wa (fV bl r n).length wc 3 1 ((fV bl r n).map (.int .i64)),aj p7 [.int .i64 (r:Int)] 3,aj p1 [.string xn,.int .i64 xp,.int .i64 (R:Int),.slice a n c] 35,aj p2 [.string aE,.int .i64 0,.int .i64 0,.slice none 0 0] 35]) hw) ?_;simp only[a6,aT];refine eW 6 rfl ag λvb vo nz=>?_;subst nz;have af1:bZ b zs.length:=⟨ag⟩;have R5:∀Y,fe (ai (some ⟨vb,vo,none⟩) zs.length c 46 6 (zs.flatMap bg)::Y) vb (vo+b*6) (.slice T.pa T.ps.length T.pc):=λ_=>⟨λ_ _ _ hw=>hw.cK (k:=0) rfl (fy dC zs b T 0 _ hT rfl)⟩;obtain⟨nq,hnq⟩:∃nq:Nat->cG,nq=λra=>⟨(r:Int),some ⟨ra,0,none⟩,l.length,l⟩:=⟨_,rfl⟩;have mM:∀na nc ra,lN (zs.flatMap bg) (b*6+0) (.slice na (T.ps++[nq ra]).length nc) ((zs.set b (qA T na nc (T.ps++[nq ra]))).flatMap bg):=λna nc ra=>⟨by
      exact gh dC hT (k:=0) ag (y:=qA T na nc (T.ps++[nq ra])) rfl,by rw[ct dC];omega⟩
     have VE:∀(X0 X1 X2 X3 X4 X5 X6 X7 X8:bN) (Y:List bN),mT (X0::X1::X2::X3::X4::X5::X6::X7::X8::ai (some ⟨vb,vo,none⟩) zs.length c 46 6 (zs.flatMap bg)::Y) vb (vo+b*6) 9 vo (b*6+0) zs.length c 46 6 (zs.flatMap bg):=λ_ _ _ _ _ _ _ _ _ _=>⟨rfl,ag⟩;have ZY:∀ra,T.ps.flatMap ci++[.int .i64 (r:Int),.slice (some ⟨ra,0,none⟩) l.length l.length]=(T.ps++[nq ra]).flatMap ci:=λra=>by rw[gO,hnq];rfl
     have ZX:∀ra,T.ps.length+1=(T.ps++[nq ra]).length:=λra=>by rw[bR];rfl
     have X_:∀v1 (w:World),bG w v1 0 [.bool true,.int .i64 (r:Int)]->gV Tryz.prog 104 [.slice (some ⟨v1,0,none⟩) 1 1,.int .i64 rn] w λu w'=>∃a:Nat,u=.slice (some ⟨a,0,none⟩) l.length l.length/\Wd dh w [ai (some ⟨a,0,none⟩) l.length l.length 41 2 (l.flatMap df)] w'/\True:=λv1 w hc=>by
      have h3:=M0 v1 0 rn ⟨true,(r:Int)⟩ w hc ag;rw[<-hl,<-Kf]at h3;rw[<-Kf];exact h3
     refine dR [aj kt [.bool true,.int .i64 (r:Int)] 41,aj p7 [.int .i64 (r:Int)] 3,aj p1 [.string xn,.int .i64 xp,.int .i64 (R:Int),.slice (some ⟨vb,vo,none⟩) n c] 35] (λ_:(Option Addr×Nat)×Nat=>True) (λ_=>[(61,.int .i64 j),(60,.int .i64 M.length),(59,.slice (some ⟨mb,mo,none⟩) M.length mc),(7,.pointer (some ⟨p7,0,none⟩)),(26,.int .i64 r),(25,.int .i64 (R:Int)),(3,.slice fa bl.length fc),(4,.slice aa an ac),(5,.slice ia bl.length ic),(6,.slice oa bl.length oc),(1,.pointer (some ⟨p1,0,none⟩)),(2,.pointer (some ⟨p2,0,none⟩))]) (λy=>ai (some ⟨y.2,0,none⟩) l.length l.length 41 2 (l.flatMap df)::ai (some ⟨mb,mo,none⟩) M.length mc 3 1 (M.map (.int .i64))::ai wa (fV bl r n).length wc 3 1 ((fV bl r n).map (.int .i64))::aj p7 [.int .i64 (r:Int)] 3::aj p1 [.string xn,.int .i64 xp,.int .i64 (R:Int),.slice (some ⟨vb,vo,none⟩) n c] 35::aj p2 [.string aE,.int .i64 0,.int .i64 0,.slice none 0 0] 35::ai (some ⟨vb,vo,none⟩) zs.length c 46 6 ((zs.set b (qA T y.1.1 y.1.2 (T.ps++[nq y.2]))).flatMap bg)::ai y.1.1 (T.ps++[nq y.2]).length y.1.2 49 2 ((T.ps++[nq y.2]).flatMap ci)::tx T::nE T::(T.ps.map e7++(T.xs.map jo++(zs.eraseIdx b).map b_))) mixed ap ?_ λy _=>?_
     ·skip
      refine az 0 rfl aq ap ?_;refine az 1 rfl aq ap ?_;refine az 2 rfl aq ap ?_;refine az 3 rfl aq ap ?_;refine az 4 rfl aq ap ?_;refine az 5 rfl aq ap ?_;refine az 6 rfl aq ap ?_;refine az 7 rfl aq ap ?_;refine az 9 rfl aq ap ?_;refine az 10 rfl aq ap ?_;refine az 12 rfl aq ap ?_;refine az 13 rfl aq ap ?_;refine az 14 rfl aq ap ?_;refine az 15 rfl aq ap ?_;refine az 16 rfl aq ap ?_;refine kG 8 11 aq ?_ ?_
      ·skip
       refine eY 8 rfl ap ?_;refine ck 11 aq ?_;refine ji 11 rfl aq ap λv1 _=>?_;refine ck 17 aq ?_
       (refine lJ 17 (val:=λa:Nat=>.slice (some ⟨a,0,none⟩) l.length l.length) (E:=λa=>[ai (some ⟨a,0,none⟩) l.length l.length 41 2 (l.flatMap df)]) (φ:=λ_=>True) rfl ap (λw hw=>X_ _ w λj v hj=>hw.cK (k:=0) (o:=0) (j:=j) rfl hj) λNH _=>?_;simp only[a6,aT])
       refine ck 18 aq ?_;refine eY 18 rfl ap ?_;refine ck 19 aq ?_;refine ji 19 rfl aq ap λnb _=>?_;refine j1 20 10 rfl rfl aq ag ag aq (λ_=>ap) λUk Ul=>?_;simp only[cn,bS];rw[ZY,ZX NH];refine az 21 rfl aq ap ?_;refine az 22 rfl aq ap ?_;refine ck 23 aq ?_;refine lB 23 ap ?_;refine eF aq ?_;exact dN ((Uk,Ul),NH) trivial aw ap
      ·skip
       refine ji 11 rfl aq ap λv1 _=>?_;refine kG 8 17 aq ?_ ?_
       ·skip
        refine eY 8 rfl ap ?_;refine ck 17 aq ?_
        (refine lJ 17 (val:=λa:Nat=>.slice (some ⟨a,0,none⟩) l.length l.length) (E:=λa=>[ai (some ⟨a,0,none⟩) l.length l.length 41 2 (l.flatMap df)]) (φ:=λ_=>True) rfl ap (λw hw=>X_ _ w λj v hj=>hw.cK (k:=0) (o:=0) (j:=j) rfl hj) λNH _=>?_;simp only[a6,aT])
        refine ck 18 aq ?_;refine eY 18 rfl ap ?_;refine ck 19 aq ?_;refine ji 19 rfl aq ap λnb _=>?_;refine j1 20 10 rfl rfl aq ag ag aq (λ_=>ap) λUk Ul=>?_;simp only[cn,bS];rw[ZY,ZX NH];refine az 21 rfl aq ap ?_;refine az 22 rfl aq ap ?_;refine ck 23 aq ?_;refine lB 23 ap ?_;refine eF aq ?_;exact dN ((Uk,Ul),NH) trivial aw ap
       ·skip
        (refine lJ 17 (val:=λa:Nat=>.slice (some ⟨a,0,none⟩) l.length l.length) (E:=λa=>[ai (some ⟨a,0,none⟩) l.length l.length 41 2 (l.flatMap df)]) (φ:=λ_=>True) rfl ap (λw hw=>X_ _ w λj v hj=>hw.cK (k:=0) (o:=0) (j:=j) rfl hj) λNH _=>?_;simp only[a6,aT])
        refine kG 8 18 aq ?_ ?_
        ·skip
         refine eY 8 rfl ap ?_;refine ck 18 aq ?_;refine eY 18 rfl ap ?_;refine ck 19 aq ?_;refine ji 19 rfl aq ap λnb _=>?_;refine j1 20 10 rfl rfl aq ag ag aq (λ_=>ap) λUk Ul=>?_;simp only[cn,bS];rw[ZY,ZX NH];refine az 21 rfl aq ap ?_;refine az 22 rfl aq ap ?_;refine ck 23 aq ?_;refine lB 23 ap ?_;refine eF aq ?_;exact dN ((Uk,Ul),NH) trivial aw ap
        ·skip
         refine eY 18 rfl ap ?_;refine kG 8 19 aq ?_ ?_
         ·skip
          refine eY 8 rfl ap ?_;refine ck 19 aq ?_;refine ji 19 rfl aq ap λnb _=>?_;refine j1 20 10 rfl rfl aq ag ag aq (λ_=>ap) λUk Ul=>?_;simp only[cn,bS];rw[ZY,ZX NH];refine az 21 rfl aq ap ?_;refine az 22 rfl aq ap ?_;refine ck 23 aq ?_;refine lB 23 ap ?_;refine eF aq ?_;exact dN ((Uk,Ul),NH) trivial aw ap
         ·skip
          refine ji 19 rfl aq ap λnb _=>?_;refine ck 8 aq ?_;refine eY 8 rfl ap ?_;refine j1 20 10 rfl rfl aq ag ag aq (λ_=>ap) λUk Ul=>?_;simp only[cn,bS];rw[ZY,ZX NH];refine az 21 rfl aq ap ?_;refine az 22 rfl aq ap ?_;refine ck 23 aq ?_;refine lB 23 ap ?_;refine eF aq ?_;exact dN ((Uk,Ul),NH) trivial aw ap
     obtain⟨⟨na,nc⟩,Sb⟩:=y;simp only;obtain⟨T',OA⟩:∃T',T'=qA T na nc (T.ps++[nq Sb]):=⟨_,rfl⟩;rw[<-OA];refine nu (H':=ai (some ⟨mb,mo,none⟩) M.length mc 3 1 (M.map (.int .i64))::ai wa (fV bl r n).length wc 3 1 ((fV bl r n).map (.int .i64))::aj p7 [.int .i64 (r:Int)] 3::aj p1 [.string xn,.int .i64 xp,.int .i64 (R:Int),.slice (some ⟨vb,vo,none⟩) n c] 35::aj p2 [.string aE,.int .i64 0,.int .i64 0,.slice none 0 0] 35::ff (some ⟨vb,vo,none⟩) c (zs.set b T')) (λw hw=>?_) ?_
     ·have h4:Wd SK wk ([ai (some ⟨mb,mo,none⟩) M.length mc 3 1 (M.map (.int .i64)),ai wa (fV bl r n).length wc 3 1 ((fV bl r n).map (.int .i64)),aj p7 [.int .i64 (r:Int)] 3,aj p1 [.string xn,.int .i64 xp,.int .i64 (R:Int),.slice (some ⟨vb,vo,none⟩) n c] 35,aj p2 [.string aE,.int .i64 0,.int .i64 0,.slice none 0 0] 35]++(ai (some ⟨vb,vo,none⟩) zs.length c 46 6 ((zs.set b (qA T na nc (T.ps++[nq Sb]))).flatMap bg)::ai na (T.ps++[nq Sb]).length nc 49 2 ((T.ps++[nq Sb]).flatMap ci)::tx T::nE T::((T.ps++[nq Sb]).map e7++(T.xs.map jo++(zs.eraseIdx b).map b_)))) w:=by
       rw[<-OA];refine hw.perm (aJ.2 λe=>?_);have e1:(T.ps++[nq Sb]).map e7=T.ps.map e7++[ai (some ⟨Sb,0,none⟩) l.length l.length 41 2 (l.flatMap df)]:=by rw[bB,hnq];rfl
       rw[e1];simp only[bu,bi,cd];omega
      have h5:=RN hT h4;rw[<-OA]at h5;exact h5
     have acI:T'.eo={C with aL:=(C.aL++di bl r b)++[gS bl b r]}:=by
      rw[OA];have h6:T.eo=⟨T.ps.map cG.jW,T.xs.map (·.x),T.kind,T.on,T.to⟩:=rfl;show(⟨(T.ps++[nq Sb]).map cG.jW,T.xs.map (·.x),T.kind,T.on,T.to⟩:ar)=_;rw[Vb,U_]at h6;have h7:=congrArg ar.aL h6;have h8:=congrArg ar.list h6;have h9:=congrArg ar.kind h6;have Ip:=congrArg ar.on h6;have LO:=congrArg ar.to h6;simp only at h7 h8 h9 Ip LO;rw[bB,<-h7,<-h8,<-h9,<-Ip,<-LO,hnq];congr 1;rw[show gS bl b r=⟨r,l⟩ by rw[hl,hm];rfl]
      rfl
     refine aO ?_;refine bC (j+1,zs.set b T') ⟨jE,?_,λq hq=>?_⟩ (by simp only;omega) aw ag2
     ·simp only
      rw[Gp,eh,Et,acI]
     ·rcases jM hq with hq|rfl
      ·exact PS q hq
      ·rw[OA]
       refine⟨yX.kind,yX.on,by unfold qA;simp only[bR,jL];omega,λp hp=>?_,yX.list,yX.ins,yX.to⟩;unfold qA at hp;simp only at hp;rcases bL.1 hp with hp|hp
       ·exact yX.jW p hp
       ·rw[bU.1 hp,hnq]
        refine⟨⟨by simp only;omega,by simp only;omega⟩,by simp only;omega,λv hv=>?_⟩;simp only at hv;rw[hl]at hv;rw[jI hv];exact⟨by simp only;omega,by simp only;omega⟩
  have iQ:i<n:=by simpa using h2
  obtain⟨C,hC⟩:∃C,bl[i]?=some C:=⟨_,aB ag⟩;have hB:=iq (m:=r) hC;obtain⟨B,U_⟩:∃B:ar,B={C with aL:=C.aL++di bl r i}:=⟨_,rfl⟩;rw[<-U_]at hB;have Xm:j_ B r=j_ C r:=by rw[U_];exact yY
  have adN:B.list=C.list:=by rw[U_]
  have hws:oB (a8 bl i) r=(B.list.any (λx=>decide (x.dst=(r:Int)))||j_ B r):=by
   rw[eD hC,Xm,adN]
   rfl
  have mx:=Nt bl r i;have hwl:=HB bl r i;rw[hws]at mx;obtain⟨b1,o1,LR,C8,zq⟩:=f_ aax tl (λ_ _ h=>by obtain⟨_,_,_,e,_⟩:=h;exact⟨_,_,e⟩) (aW hB);obtain⟨_,L2,pv,lv,tv,rfl,_,_,Cs,mW,ht⟩:=zq i B hB;have aa0:bZ i n:=⟨iQ⟩;obtain⟨pa,pn,pc,_,_,rfl,_⟩:=id Cs;obtain⟨xa,xm,xc,_,_,rfl,_⟩:=id mW;obtain⟨K5,K7,K6,_,_,rfl,_⟩:=id ht
  repeat(first|refine aI ?_|refine dX λ_ _=>?_)
  rename_i HH _;refine bI rfl (λw hw=>D1 (f:=101) [.pointer (some ⟨p7,0,none⟩)] (λx=>decide (x.dst=(r:Int))) (.slice xa xm xc) B.list w (mW.le GW (Xr hw)) λw2 h2 x hx sv mP=>QZ r p7 x sv mP w2 λj v hj=>?_) ?_
  ·have h3:w.cell? ⟨p7,0+j,none⟩=some v:=hw.gW p7 j v hj
   exact fU h2 h3
  have LW:(decide (1<=i)&&(B.list.any (λx=>decide (x.dst=(r:Int)))||j_ B r))=true->(fV bl r (i+1)).length=(fV bl r i).length+1/\(fV bl r (i+1)).map (Value.int .i64)=(fV bl r i).map (.int .i64)++[.int .i64 (i:Int)]:=λh=>by
   rw[mx,if_pos h,bR,bB];exact⟨rfl,rfl⟩
  have XE:(decide (1<=i)&&(B.list.any (λx=>decide (x.dst=(r:Int)))||j_ B r))=false->fV bl r (i+1)=fV bl r i:=λh=>by
   rw[mx,h];simp
  refine aU ?_
  by_cases h0:i=0
  ·have e0:=XE (by rw[h0];rfl)
   rw[show decide ((0:Int)<(i:Int))=false by rw[h0];rfl];refine iL ?_;refine bC (i+1,wa,wc) iQ (by simp only;omega) (by simp only[e0];exact aw) (by simp only[e0];exact .cons _ ag2)
  rw[show decide ((0:Int)<(i:Int))=true by simp;omega];have h1i:decide (1<=i)=true:=by simp;omega
  rw[h1i,Bool.true_and]at LW XE;cases aaq:B.list.any (λx=>decide (x.dst=(r:Int)))with
  |true=>
   obtain⟨e3,e4⟩:=LW (by rw[aaq];rfl)
   repeat(first|refine iL ?_|refine dX λ_ _=>?_)
   refine gq 2 rfl rfl aq ag ag λna nc=>?_;simp only[cn,bS];rw[<-e3,<-e4];refine aO ?_;exact bC (i+1,na,nc) iQ (by simp only;omega) aw ap
  |false=>
   refine aI ?_;refine bI rfl (λw hw=>Hn B (r:Int) (.slice pa pn pc) (.slice xa xm xc) (.slice K5 K7 K6) ⟨_,_,_,rfl⟩ ⟨_,_,_,rfl⟩ w (Cs.le Bi (Xr hw))) ?_;cases Zi:j_ B r with
   |true=>
    obtain⟨e3,e4⟩:=LW (by rw[Zi,Bool.or_true])
    repeat(first|refine aI ?_|refine dX λ_ _=>?_)
    refine gq 2 rfl rfl aq ag ag λna nc=>?_;simp only[cn,bS];rw[<-e3,<-e4];refine aO ?_;exact bC (i+1,na,nc) iQ (by simp only;omega) aw ap
   |false=>
    have e0:=XE (by rw[aaq,Zi];rfl);refine aI ?_;refine bC (i+1,wa,wc) iQ (by simp only;omega) (by simp only[e0];exact aw) (by simp only[e0];exact .cons _ ag2)
end
section
open Go Go.RowKit
attribute [local irreducible] wpListIn Code.wpIn Exit.then Exit.inBlock bodyPost wpQuiet wpAnyIn wpAnyH bodyPostM
section
variable {P:Program} {ro:Option Nat} {N:Nat} {ds:List Deferred} {S:Nat->Prop} {w0:World} {L:List (Nat×Value)} {H Hr:List bN} {M:Act->World->Prop} {l:List Oper} {bE:Nat} {listed:Array Bool} {x:Operand}
theorem kI{d ty f:Nat}(i:Nat){args:List Operand}{us vs xs:List Value}{og:Array Nat}{pos:String}{aft:Array Go.Edge}{u:Value}[ho:dm l i ⟨some d,.call {callee:=.value x,args:=args.toArray,argTypes:=og},ty,pos,aft,none⟩][h:aS P f][hx:zk L args vs][hf:Ev L x (.func (.func f) us.toArray xs.toArray)](hd:dj d N L=true)(hH:Hr.Sublist H)
  (hc:∀w,Wd S w0 H w->fi P f (us++vs++xs) w u)
  (k:G N ds S w0 ((d,u)::L) H (wpAnyH P .any l.toArray (dy M) (Wd S w0 Hr) bE (listed.setIfInBounds i true))):G N ds S w0 L H (gX P l M (Wd S w0 Hr) bE listed i):=by
 intro a w hS;unfold gX wpOp;rw[show l.toArray[i]?=some ⟨some d,.call {callee:=.value x,args:=args.toArray,argTypes:=og},ty,pos,aft,none⟩ by simpa using ho.at'];simp only;rw[if_pos (show Region.wanted (⟨some d,.call {callee:=.value x,args:=args.toArray,argTypes:=og},ty,pos,aft,none⟩:Oper) (yielded l.toArray a.tmps)=true from rfl)]
 left
 unfold Oper.wp;have pF:(execOp a.eval ⟨some d,.call {callee:=.value x,args:=args.toArray,argTypes:=og},ty,pos,aft,none⟩).run P w=.ok (.enter f (us++vs++xs).toArray) w:=by
  simp[execOp,resolve,hf.eq _ _ _ hS.fr,Deferred.ofValue,invoke,hx.eq _ _ _ hS.fr,h.run]
 rw[pF];refine Calls.mono (callsIn_wide.1 (hc w hS.wd)) λe w' ⟨v,he,hv,hR⟩=>?_;subst he;subst hv;exact⟨(hS.wd.call hR).sub hH,k _ _ ⟨hS.fr.dP hd v,hS.wd.call hR⟩⟩
theorem QJ{d ty T:Nat}{v:Value}{cs:List Value}{pos:String}{aft:Array Go.Edge}(i0:Nat)[ho:dm l i0 ⟨some d,.box T x,ty,pos,aft,none⟩][hx:Ev L x v][hv:iG v cs](hd:dj d N L=true)(hH:Hr.Sublist H)
  (k:∀b,w0.heap.size<=b->G N ds S w0 ((d,.pointer (some ⟨b,0,none⟩))::L) (aj b cs T::H) (wpAnyH P .any l.toArray (dy M) (Wd S w0 Hr) bE (listed.setIfInBounds i0 true))):G N ds S w0 L H (gX P l M (Wd S w0 Hr) bE listed i0):=
 vT i0 rfl λa w hS=>by
  have hv:=hS.wd.box cs T;have e:cs.toArray=v.cells:=by rw[<-‹iG v cs›.eq]
  rw[e]at hv;exact⟨.pointer (some ⟨w.heap.size,0,none⟩),w.alloc (.cells v.cells T),by simp[execOp,hx.eq _ _ _ hS.fr,Instr.box,newVar,newRow],hv.sub (hH.trans (dZ _ _)),k _ hS.wd.size _ _ ⟨hS.fr.dP hd _,hv⟩⟩
end
instance VU(b off:Nat)(cs:List Value)(x:bN)(H:List bN)[h:gj H b off cs]:gj (x::H) b off cs:=⟨λS w0 w hw=>h.eq S w0 w (hw.sub (dZ _ _))⟩
def eN{α:Type}(g:Nat->α->α)(i:Nat)(l:List α):List α:=l.mapIdx λj x=>if j<i then g j x else x
section
variable {α:Type} {g:Nat->α->α} {l:List α}
theorem kX(i:Nat):(eN g i l).length=l.length:=by simp[eN]
theorem sF:eN g 0 l=l:=by
 unfold eN;apply cf;intro j;rw[cM];cases l[j]?<;>simp
theorem rL:eN g l.length l=l.mapIdx g:=by
 unfold eN;refine lP λj x hx=>if_pos (aC.1 hx).1
theorem nH{i j:Nat}{x:α}(h:l[j]?=some x):(eN g i l)[j]?=some (if j<i then g j x else x):=by
 unfold eN;rw[cM,h]
 rfl
theorem xu{i:Nat}{x:α}(h:l[i]?=some x):(eN g i l)[i]?=some x:=by rw[nH h,if_neg ag]
theorem uG{i:Nat}{x:α}(h:l[i]?=some x):(eN g i l).set i (g i x)=eN g (i+1) l:=by
 apply cf;intro j
 by_cases e:i=j
 ·subst e
  rw[ey (by rw[kX];exact(aC.1 h).1),nH h,if_pos ag]
 ·rw[eR e]
  cases hj:l[j]? with
  |none=>
   have:=kg.1 hj;rw[bM (by rw[kX];exact this),bM (by rw[kX];exact this)]
  |some y=>
   rw[nH hj,nH hj]
   by_cases h1:j<i
   ·rw[if_pos h1,if_pos ag]
   ·rw[if_neg h1,if_neg ag]
theorem Nq{β:Type}(f:α->β)(h:∀j x,f (g j x)=f x)(i:Nat):(eN g i l).map f=l.map f:=by
 apply cf;intro j;rw[aK,aK];cases hj:l[j]? with
 |none=>rw[bM (by rw[kX];exact kg.1 hj)]
 |some y=>
  rw[nH hj]
  by_cases h1:j<i
  ·rw[if_pos h1,bz,bz,h]
  ·rw[if_neg h1]
end
noncomputable def fC(bl:List ar)(V:List Nat):Nat:=(V.map λb=>qF (a8 bl b)).sum
theorem An(bl:List ar)(V W:List Nat):fC bl (V++W)=fC bl V+fC bl W:=by unfold fC;rw[bB,List.sum_append]
theorem FB(bl:List ar)(b:Nat):fC bl [b]=qF (a8 bl b):=by simp[fC]
theorem vl{b:Nat}:∀{V W:List Nat},b∉V->(V++b::W).takeWhile (λc=>decide (c≠b))=V
 |[],W,_=>by simp
 |x::V,W,h=>by
  have h1:x≠b:=λe=>h (e▸rS);rw[a6,pu (by simpa using h1),vl λh2=>h (cJ _ h2)]
theorem Yz{bl:List ar}{n b k:Nat}{V W:List Nat}(ho:qM bl=V++b::W)(hb:b∉V):qf bl n b k=((n+fC bl V+KS (a8 bl b) k:Nat):Int):=by
 unfold qf num mY;rw[ho,vl hb]
 rfl
theorem KT{B:ar}{i:Nat}(h:i<B.aL.length):KS B i=i:=by unfold KS;rw[if_pos h]
theorem Uo(B:ar)(k:Nat):KS B (B.aL.length+k)=B.aL.length+((B.list.take k).filter CF).length:=by
 unfold KS;rw[if_neg ag,mf]
section
variable {ν:Nat->Nat->Int} {bl:List ar} {n:Nat} {V:List Nat} {b:Nat}
noncomputable def ze(ν:Nat->Nat->Int)(b:Nat):Nat->cG->cG:=λi p=>⟨ν b i,p.a,p.c,p.l⟩
noncomputable def vJ(ν:Nat->Nat->Int)(bl:List ar)(n b:Nat):Nat->iX->iX:=λk u=>⟨rH ν bl n b k u.x,u.a,u.c⟩
noncomputable def N_(ν:Nat->Nat->Int)(bl:List ar)(n b K:Nat):Nat->cG->cG:=λ_ p=>⟨p.dst,p.a,p.c,p.l.set K (o6 ν bl n b (a8 bl b).list.length (p.l.getD K gK))⟩
noncomputable def G_(ν:Nat->Nat->Int)(bl:List ar)(n b:Nat)(T:aR):aR:={T with ps:=T.ps.mapIdx (ze ν b),xs:=T.xs.mapIdx (vJ ν bl n b),on:=o6 ν bl n b (a8 bl b).list.length T.on}
noncomputable def M3(ν:Nat->Nat->Int)(bl:List ar)(n b K:Nat)(T:aR):aR:={T with ps:=T.ps.mapIdx (N_ ν bl n b K)}
theorem Rf{B:ar}{T:aR}(hB:bl[b]?=some B)(hb:b∉V)(hT:T.eo=pZ ν bl n (uw bl V) b B):(G_ ν bl n b T).eo=pZ ν bl n (mQ bl V b []) b B:=by
 obtain⟨h1,h2,h3,h4,h5⟩:=KD (ν:=ν) (n:=n) hb B;obtain⟨h6,h7⟩:=Qs (ν:=ν) (n:=n) (V:=V) (b:=b) (bl:=bl) B;rw[<-hT]at h1 h2 h3 h4;have e1:(T.ps.mapIdx (ze ν b)).map cG.jW=(pZ ν bl n (mQ bl V b []) b B).aL:=by
  rw[vO];apply cf;intro i;rw[cM];have E4:(pZ ν bl n (mQ bl V b []) b B).aL.length=T.ps.length:=by
   have h8:=congrArg (λx:ar=>x.aL.length) hT;simp only[aR.eo,aG]at h8;rw[h8];show(B.aL.mapIdx _).length=(B.aL.mapIdx _).length;rw[kh,kh]
  cases hp:T.ps[i]? with
  |none=>rw[bM (by rw[E4];exact kg.1 hp)];rfl
  |some p=>
   have hq:(pZ ν bl n (uw bl V) b B).aL[i]?=some p.jW:=by
    rw[<-hT];show(T.ps.map cG.jW)[i]?=_;rw[aK,hp]
    rfl
   rw[T4 hq]
   rfl
 have e2:(T.xs.mapIdx (vJ ν bl n b)).map (·.x)=(pZ ν bl n (mQ bl V b []) b B).list:=by
  rw[vO,h6,<-h1];show _=(T.xs.map (·.x)).mapIdx _;apply cf;intro i;rw[cM,cM,aK];cases T.xs[i]?<;>rfl
 show(⟨(T.ps.mapIdx (ze ν b)).map cG.jW,(T.xs.mapIdx (vJ ν bl n b)).map (·.x),T.kind,o6 ν bl n b (a8 bl b).list.length T.on,T.to⟩:ar)=_;rw[e1,e2];have e3:T.kind=(pZ ν bl n (mQ bl V b []) b B).kind:=h4;have e4:T.to=(pZ ν bl n (mQ bl V b []) b B).to:=h3;have e5:o6 ν bl n b (a8 bl b).list.length T.on=(pZ ν bl n (mQ bl V b []) b B).on:=by
  rw[h7,eD hB];rw[show T.on=B.on from h2]
 rw[e3,e4,e5]
theorem Rh{t K:Nat}{C:ar}{D:List Int}{T:aR}(hC:bl[t]?=some C)(hb:b∉V)(ht:(t:Int)∉D)(hK:(bf bl t)[K]?=some b)(oh:∀j,(bf bl t)[j]?=some b->j=K)(hT:T.eo=pZ ν bl n (mQ bl V b D) t C)(hl:∀p∈C.aL,K<p.src.length):
  (M3 ν bl n b K T).eo=pZ ν bl n (mQ bl V b (D++[(t:Int)])) t C:=by
 have wU:Zu bl t K=b:=by unfold Zu;rw[hK];rfl
 have e1:(T.ps.mapIdx (N_ ν bl n b K)).map cG.jW=(pZ ν bl n (mQ bl V b (D++[(t:Int)])) t C).aL:=by
  rw[vO];apply cf;intro i;rw[cM];have E4:C.aL.length=T.ps.length:=by
   have h8:=congrArg (λx:ar=>x.aL.length) hT;simp only[aR.eo,aG]at h8;rw[h8];show _=(C.aL.mapIdx _).length;rw[kh]
  cases hp:T.ps[i]? with
  |none=>
   rw[bM (by
    show(C.aL.mapIdx _).length<=i;rw[kh,E4];exact kg.1 hp)]
   rfl
  |some p=>
   have hq:(pZ ν bl n (mQ bl V b D) t C).aL[i]?=some p.jW:=by
    rw[<-hT];show(T.ps.map cG.jW)[i]?=_;rw[aK,hp]
    rfl
   obtain⟨c,hc⟩:∃c,C.aL[i]?=some c:=⟨_,aB (by rw[E4];exact(aC.1 hp).1)⟩;obtain⟨v,_,h2,_,h3⟩:=GV hc hb ht hK oh hq (hl c (aA hc));have vB:p.l[K]?=some v:=h2;rw[h3];show some (cG.jW (N_ ν bl n b K i p))=some ⟨p.jW.dst,p.jW.src.set K (yw ν bl n t K v)⟩;congr 1;show(⟨p.dst,p.l.set K (o6 ν bl n b (a8 bl b).list.length (p.l.getD K gK))⟩:eC)=⟨p.dst,p.l.set K (yw ν bl n t K v)⟩;rw[show p.l.getD K gK=v by rw[cz,vB];rfl];unfold yw;rw[wU]
 have h1:=congrArg ar.list hT;have h2:=congrArg ar.kind hT;have h3:=congrArg ar.on hT;have h4:=congrArg ar.to hT;show(⟨(T.ps.mapIdx (N_ ν bl n b K)).map cG.jW,T.xs.map (·.x),T.kind,T.on,T.to⟩:ar)=_;rw[e1];have Ef:T.xs.map (·.x)=(pZ ν bl n (mQ bl V b (D++[(t:Int)])) t C).list:=h1;have vB:T.kind=(pZ ν bl n (mQ bl V b (D++[(t:Int)])) t C).kind:=h2;have q9:T.on=(pZ ν bl n (mQ bl V b (D++[(t:Int)])) t C).on:=h3;have h4':T.to=(pZ ν bl n (mQ bl V b (D++[(t:Int)])) t C).to:=h4;rw[Ef,vB,q9,h4']
theorem Ld{F G:Mk}{b:Nat}{B C:ar}(hB:bl[b]?=some B)(hC:C=pZ ν bl n G b B)(ho:∀c D,c≠b->pZ ν bl n G c D=pZ ν bl n F c D):(Cf ν bl n F).set b C=Cf ν bl n G:=by
 apply cf;intro i
 by_cases e:b=i
 ·subst e
  rw[ey (by rw[xy];exact(aC.1 hB).1),xw hB,hC]
 ·rw[eR e]
  cases h:bl[i]? with
  |none=>
   have:=kg.1 h;rw[bM (by rw[xy];exact this),bM (by rw[xy];exact this)]
  |some D=>rw[xw h,xw h,ho i D λh=>e h.symm]
theorem QG{R i:Nat}{v:cm}(hv:ik R v):Jh (dW R (nm ν bl n b i)) v=o6 ν bl n b i v:=by
 unfold Jh o6
 by_cases h:v.bD=true
 ·rw[if_pos h,if_pos h]
  obtain⟨h1,h2⟩:=hv h;rw[cz,tM ag];simp only[dF];congr 1;omega
 ·rw[if_neg h,if_neg h]
theorem SD{c:Nat}(hc:c∈mB bl b):zM ν bl n c=nm ν bl n b (a8 bl b).list.length:=by
 have h2:cR bl c=(b:Int):=by unfold mB at hc;simpa using(cI.1 hc).2
 funext r
 unfold zM;rw[h2,if_neg ag,dD]
end
theorem K2{α:Type}{u v:α}:∀{L:List α} {j:Nat},j+2<=L.length->L.take j++[u,v]++L.drop (j+2)=(L.set j u).set (j+1) v
 |x::y::L,0,_=>by simp
 |x::L,j+1,h=>by
  have h1:=K2 (u:=u) (v:=v) (L:=L) (j:=j) (by simp only[ie]at h;omega);rw[List.take_succ_cons,cn,cn,<-h1];simp
theorem RO{S:Nat->Prop}{w0 w:World}{X:List bN}{a:Option Addr}{c t:Nat}{zs:List aR}{T T':aR}(hT:zs[t]?=some T)
  (h:Wd S w0 (X++(ai a zs.length c 46 6 ((zs.set t T').flatMap bg)::(jb T'++(zs.eraseIdx t).map b_))) w):Wd S w0 (X++ff a c (zs.set t T')) w:=by
 have xC:=(aC.1 hT).1;have h2:Wd S w0 (jb T'++(X++(ai a zs.length c 46 6 ((zs.set t T').flatMap bg)::(zs.eraseIdx t).map b_))) w:=by
  refine h.perm ?_
  classical
  refine aJ.2 λe=>?_;simp only[bu,bi];omega
 refine(Wd.join h2).perm ?_;have h5:=iB b_ (l:=zs.set t T') (k:=t) (x:=T') (ey xC);rw[oL]at h5;unfold ff;rw[eA]
 classical
 refine aJ.2 λe=>?_;have h7:=aJ.1 h5 e;simp only[bu,bi,b_]at h7⊢;omega
theorem y_{α β:Type}{g:Nat->α->α}(f:α->β)(h:∀j x,f (g j x)=f x)(l:List α):(l.mapIdx g).map f=l.map f:=by rw[<-rL];exact Nq f h _
theorem D6{α β:Type}{g:Nat->α->α}(f:α->List β)(h:∀j x,f (g j x)=f x)(l:List α):(l.mapIdx g).flatMap f=l.flatMap f:=by
 rw[rP,rP,y_ f h]
end
end Go.Proofs.YthfhgolkafpmnaaGreatDoor
