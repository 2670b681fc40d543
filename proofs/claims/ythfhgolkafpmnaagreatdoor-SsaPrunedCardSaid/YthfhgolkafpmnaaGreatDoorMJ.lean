/- Texts joined: OneE OneF OneG OneV OneH OneW OneX OneJ OneK OneL OneM DoorF RangeO Backs Pair BacksB PostC BackL DomD DomE Table Tame. -/
import Derived.ChangeKeysEq
import Derived.Test.YthfhgolkafpmnaaGreatDoorGB
import Derived.Test.YthfhgolkafpmnaaGreatDoorGD
import Derived.Test.YthfhgolkafpmnaaGreatDoorGF
import Derived.Test.YthfhgolkafpmnaaGreatDoorGG
import Derived.Test.YthfhgolkafpmnaaGreatDoorGH
import Derived.Test.YthfhgolkafpmnaaGreatDoorGM
import Derived.Test.YthfhgolkafpmnaaGreatDoorHD
import Derived.Test.YthfhgolkafpmnaaGreatDoorHF
import Derived.Test.YthfhgolkafpmnaaGreatDoorHN
import Derived.Test.YthfhgolkafpmnaaGreatDoorIN
import Derived.Test.YthfhgolkafpmnaaGreatDoorKB
import Derived.Test.YthfhgolkafpmnaaGreatDoorMA
import Derived.Test.YthfhgolkafpmnaaGreatDoorMC
import Derived.Test.YthfhgolkafpmnaaGreatDoorMH
namespace Go.Proofs.YthfhgolkafpmnaaGreatDoor
section
open Go Go.RowKit
attribute [local irreducible] wpListIn Code.wpIn Exit.then Exit.inBlock bodyPost wpQuiet wpAnyIn wpAnyH bodyPostM gX
set_option maxHeartbeats 8000000
theorem M4(r:Nat)(f:Int->cm):dW (r+1) f=dW r f++[f r]:=by
 unfold dW;rw[kA,bB]
 rfl
theorem Ng(X:aZ)(R:Nat)(hX:kw X R)(hT:wx X R)(AQ:qE X.blocks)(hlen:X.blocks.length<=40)(vg:dV X.blocks<=300)(qJ:c9 X.params)(R2:Nat)(hP:rN (lZ X) R2)(fs:List aZ)(hB:qD fs (lZ X))(h0:(a8 (lZ X).blocks 0).aL=[])(w0:World):CM w0 25 [] [] zF X:=by
 classical
 obtain⟨g1,g2,g3⟩:=No hX hT;obtain⟨xn,xp,xr,xb⟩:=X;simp only at hlen vg AQ g1 g2;intro a c bs wb mU sI Td Eh hw;simp only at mU;subst mU;rw[aG]at hlen g1;simp only[aT,cq,a6];refine aQ Tryz.func25 rfl Tryz.ntmps25 rfl hw ?_;obtain⟨SS,C4⟩:∃SS,SS=cF (ff a c bs):=⟨_,rfl⟩;rw[<-C4]
 repeat(first|refine aU ?_|refine dX λ_ _=>?_)
 rename_i p1 _ p2 _;obtain⟨Y,hY⟩:∃Y,Y=lZ ⟨xn,xp,xr,bs.map aR.eo⟩:=⟨_,rfl⟩;have acF:zF ⟨xn,xp,xr,bs.map aR.eo⟩=gR (iP Y):=by unfold zF;rw[<-hY]
 rw[acF];rw[<-hY]at hP hB h0 g1 g2;have Vc:Y.blocks.length<=40:=ag;have hYm:dV Y.blocks<=300:=ag;obtain⟨hg,dS,jq,aal⟩:=jA hP.all;have hI:=acj hP hB Vc hYm;have acY:=Uv hP hB h0 Vc hYm;have hM:=yu hP Vc hYm;have hYr:=hP.all.aF;have afh:=hP.all.par;have afg:=hP.all.le;refine bj (H1:=ff a c bs++[aj p2 [.string aE,.int .i64 0,.int .i64 0,.slice none 0 0] 35,aj p1 [.string xn,.int .i64 xp,.int .i64 xr,.slice a bs.length c] 35]) (dH (l₁:=[_,_])) ?_;refine fH (val:=λx:Option Addr×Nat×List aR=>.agg #[.string Y.name,.int .i64 Y.params,.int .i64 Y.aF,.slice x.1 x.2.2.length x.2.1]) (E:=λx=>ff x.1 x.2.1 x.2.2) (φ:=λx=>x.2.2.map aR.eo=Y.blocks/\(∀b∈x.2.2,b.Bd)/\x.2.2.length<=1000/\c9 Y.params/\c9 Y.aF) rfl (λw hw=>?_) λz hz=>?_
 ·have h9:=Wj ⟨xn,xp,xr,bs.map aR.eo⟩ R hX hT AQ (by simp only[aG,aE];omega) (by simp only;omega) qJ {w with heap:=#[]} a c bs w rfl sI ⟨rfl,rfl,rfl,aY _,λk hk=>absurd hk (Nat.not_lt_zero k)⟩ (λ_ _=>aY _) hw.pre
  rw[<-hY]at h9;exact h9
 obtain⟨ta,tc,ts⟩:=z;obtain⟨Mi,VL,_⟩:=hz;simp only at Mi VL⊢
 skip
 refine fH (val:=λx:Option Addr×Nat×List aR=>.agg #[.string Y.name,.int .i64 Y.params,.int .i64 Y.aF,.slice x.1 x.2.2.length x.2.1]) (E:=λx=>ff x.1 x.2.1 x.2.2) (φ:=λx=>x.2.2.map aR.eo=fJ Y/\(∀b∈x.2.2,b.Bd)) rfl (λw hw=>?_) λz hz=>?_
 ·have h9:=JF Y R2 hP.all ag ag {w with heap:=#[]} ta tc ts w Mi VL ⟨rfl,rfl,rfl,aY _,λk hk=>absurd hk (Nat.not_lt_zero k)⟩ (λ_ _=>aY _) hw.pre
  exact h9.mono λu w' ⟨x,e1,e2,e3,e4,_⟩=>⟨x,e1,e2,e3,e4⟩
 obtain⟨ya,yc,ys⟩:=z;obtain⟨R_,um⟩:=hz;simp only at R_ um⊢;obtain⟨bl,iR⟩:∃bl,bl=fJ Y:=⟨_,rfl⟩;obtain⟨P,hPn⟩:∃P,P=Y.params.toNat:=⟨_,rfl⟩;have hYp:Y.params=(P:Int):=ag;rw[<-iR]at hg dS aal R_ hI;rw[<-hPn]at hI;obtain⟨n,hn⟩:∃n,n=bl.length:=⟨_,rfl⟩;have IR:ys.length=n:=by
  have h3:=congrArg List.length R_;rw[aG]at h3;omega
 rw[IR,hYp,hYr];refine fg (H1:=ai ya ys.length yc 46 6 (ys.flatMap bg)::(ys.map b_++[aj p2 [.string aE,.int .i64 0,.int .i64 0,.slice none 0 0] 35,aj p1 [.string xn,.int .i64 xp,.int .i64 xr,.slice a bs.length c] 35])) rfl ?_;refine eW 0 rfl ag λvb vo nz=>?_;subst nz;refine bj (H1:=aj p1 [.string xn,.int .i64 xp,.int .i64 xr,.slice a bs.length c] 35::aj p2 [.string aE,.int .i64 0,.int .i64 0,.slice none 0 0] 35::ff (some ⟨vb,vo,none⟩) yc ys) (aJ.2 λe=>by unfold ff;simp only[bu,bi,cd,aE];omega) ?_;refine aI ?_;have rh:∀{H:List bN} {w:World},Wd SS wb H w->(ff (some ⟨vb,vo,none⟩) yc ys).Sublist H->aM w (.slice (some ⟨vb,vo,none⟩) n yc) 6 bl ed:=λ{H w} hw hs=>by
  rw[<-R_,<-IR];refine Wd.blocks (H:=[]) (hw.sub ?_) ag um;rw[cq];exact hs
 have oh:∀(b:Nat) B,bl[b]?=some B->B.to.Nodup:=λb B hB=>(hI.ok.block b B hB).to;refine dR [aj p1 [.string Y.name,.int .i64 (P:Int),.int .i64 (R2:Int),.slice (some ⟨vb,vo,none⟩) n yc] 35] (λx:((Option Addr×Nat×Nat)×(Nat->Prop))×Nat×Nat=>True) (λx=>[(3,.pointer (some ⟨x.2.2,0,none⟩)),(1,.pointer (some ⟨p1,0,none⟩)),(2,.pointer (some ⟨p2,0,none⟩))])
  (λx=>aj x.2.2 [.pointer (some ⟨p1,0,none⟩),.slice x.1.1.1 x.1.1.2.1 x.1.1.2.2,.slice (some ⟨x.2.1,0,none⟩) n n,.int .i64 (P:Int)] 102::ai (some ⟨x.2.1,0,none⟩) n n 42 1 (List.replicate n (.slice none 0 0))::⟨x.1.2,λw=>aM w (.slice x.1.1.1 x.1.1.2.1 x.1.1.2.2) 1 (bm bl) cS⟩::aj p1 [.string Y.name,.int .i64 (P:Int),.int .i64 (R2:Int),.slice (some ⟨vb,vo,none⟩) n yc] 35::aj p2 [.string aE,.int .i64 0,.int .i64 0,.slice none 0 0] 35::ff (some ⟨vb,vo,none⟩) yc ys) mixed (dn ou) ?_ λx _=>?_
 ·skip
  refine az 0 rfl aq ap ?_;refine az 2 rfl aq ap ?_;refine az 3 rfl aq ap ?_;refine az 4 rfl aq ap ?_;refine az 6 rfl aq ap ?_;refine az 7 rfl aq ap ?_;refine kG 1 5 aq ?_ ?_
  ·skip
   (refine lJ 1 (val:=λx:(Option Addr×Nat×Nat)×(Nat->Prop)=>.slice x.1.1 x.1.2.1 x.1.2.2) (E:=λx=>[⟨x.2,λw=>aM w (.slice x.1.1 x.1.2.1 x.1.2.2) 1 (bm bl) cS⟩]) (φ:=λ_=>True) rfl ap (λw hw=>fO _ _ _ bl _ w (rh hw ap) ag hg) λy _=>?_;obtain⟨⟨aa,an,ac⟩,af⟩:=y;simp only[a6,aT])
   refine ck 5 aq ?_;refine EI 5 rfl ag ag ap λkb _=>?_;refine bj (H1:=ai (some ⟨kb,0,none⟩) n n 42 1 (List.replicate n (.slice none 0 0))::⟨af,λw=>aM w (.slice aa an ac) 1 (bm bl) cS⟩::aj p1 [.string Y.name,.int .i64 (P:Int),.int .i64 (R2:Int),.slice (some ⟨vb,vo,none⟩) n yc] 35::aj p2 [.string aE,.int .i64 0,.int .i64 0,.slice none 0 0] 35::ff (some ⟨vb,vo,none⟩) yc ys) (aJ.2 λe=>by simp only[bi]<;>omega) ?_;refine az 8 rfl aq ap ?_;refine ck 9 aq (QJ 9 rfl ap λq _=>?_);refine az 10 rfl aq ap ?_;refine eF aq ?_;exact dN (((aa,an,ac),af),kb,q) trivial aw ag2
  ·skip
   refine EI 5 rfl ag ag ap λkb _=>?_;refine ck 1 aq ?_
   (refine lJ 1 (val:=λx:(Option Addr×Nat×Nat)×(Nat->Prop)=>.slice x.1.1 x.1.2.1 x.1.2.2) (E:=λx=>[⟨x.2,λw=>aM w (.slice x.1.1 x.1.2.1 x.1.2.2) 1 (bm bl) cS⟩]) (φ:=λ_=>True) rfl ap (λw hw=>fO _ _ _ bl _ w (rh hw ap) ag hg) λy _=>?_;obtain⟨⟨aa,an,ac⟩,af⟩:=y;simp only[a6,aT])
   refine bj (H1:=ai (some ⟨kb,0,none⟩) n n 42 1 (List.replicate n (.slice none 0 0))::⟨af,λw=>aM w (.slice aa an ac) 1 (bm bl) cS⟩::aj p1 [.string Y.name,.int .i64 (P:Int),.int .i64 (R2:Int),.slice (some ⟨vb,vo,none⟩) n yc] 35::aj p2 [.string aE,.int .i64 0,.int .i64 0,.slice none 0 0] 35::ff (some ⟨vb,vo,none⟩) yc ys) (aJ.2 λe=>by simp only[bi]<;>omega) ?_;refine az 8 rfl aq ap ?_;refine ck 9 aq (QJ 9 rfl ap λq _=>?_);refine az 10 rfl aq ap ?_;refine eF aq ?_;exact dN (((aa,an,ac),af),kb,q) trivial aw ag2
 obtain⟨⟨⟨aa,an,ac⟩,af⟩,kb,q⟩:=x;simp only;refine kS 3 1 n ?_;rw[show(List.replicate n (Value.slice none 0 0))=(List.replicate n (⟨none,0,[]⟩:Row)).map eO by simp[eO],show(List.replicate n (ai none 0 0 3 1 []))=(List.replicate n (⟨none,0,[]⟩:Row)).map gy by simp[gy]];refine bj (H1:=aj q [.pointer (some ⟨p1,0,none⟩),.slice aa an ac,.slice (some ⟨kb,0,none⟩) n n,.int .i64 (P:Int)] 102::ai (some ⟨kb,0,none⟩) n n 42 1 ((List.replicate n (⟨none,0,[]⟩:Row)).map eO)::(⟨af,λw=>aM w (.slice aa an ac) 1 (bm bl) cS⟩:bN)::aj p1 [.string Y.name,.int .i64 (P:Int),.int .i64 (R2:Int),.slice (some ⟨vb,vo,none⟩) n yc] 35::aj p2 [.string aE,.int .i64 0,.int .i64 0,.slice none 0 0] 35::(ff (some ⟨vb,vo,none⟩) yc ys++(List.replicate n (⟨none,0,[]⟩:Row)).map gy)) (aJ.2 λe=>by simp only[bu,bi,aE];omega) ?_;refine aU ?_;refine cV (val:=λa:Nat=>.slice (some ⟨a,0,none⟩) bl.length bl.length) (E:=λa=>[ai (some ⟨a,0,none⟩) bl.length bl.length 3 1 (((List.range bl.length).map (cR bl)).map (.int .i64))]) (φ:=λ_=>True) rfl (λw hw=>Hv _ _ _ bl _ ⟨_,_,_,rfl⟩ w (rh hw (.cons _ (.cons _ (.cons _ (.cons _ (.cons _ (dY _ _))))))) ag hg oh dS) λtb _=>?_;simp only[a6,aT];rw[<-hn];refine aO ?_;have aeY:n<=100:=ag;refine bP (λx:Nat×List Row=>x.1<=n/\x.2.map (·.l)=tw bl x.1/\∀r∈x.2,r.l.length<=x.1/\∀y∈r.l,c9 y) (λx=>[(25,.int .i64 x.1),(23,.slice (some ⟨tb,0,none⟩) n n),(24,.int .i64 n),(3,.pointer (some ⟨q,0,none⟩)),(1,.pointer (some ⟨p1,0,none⟩)),(2,.pointer (some ⟨p2,0,none⟩))]) (λx=>aj q [.pointer (some ⟨p1,0,none⟩),.slice aa an ac,.slice (some ⟨kb,0,none⟩) n n,.int .i64 (P:Int)] 102::ai (some ⟨kb,0,none⟩) n n 42 1 (x.2.map eO)::ai (some ⟨tb,0,none⟩) n n 3 1 (((List.range n).map (cR bl)).map (.int .i64))::aj p1 [.string Y.name,.int .i64 (P:Int),.int .i64 (R2:Int),.slice (some ⟨vb,vo,none⟩) n yc] 35::aj p2 [.string aE,.int .i64 0,.int .i64 0,.slice none 0 0] 35::(x.2.map gy++((⟨af,λw=>aM w (.slice aa an ac) 1 (bm bl) cS⟩:bN)::ff (some ⟨vb,vo,none⟩) yc ys))) (λx=>n-x.1) (0,List.replicate n ⟨none,0,[]⟩)
  ⟨aY _,by simp only;rw[I0,<-hn];simp,by simp⟩ (bj (aJ.2 λe=>by simp only[bu,bi,aE];omega) (aV aw ag2)) λx ⟨hi,Db,En⟩=>?_
 obtain⟨i,rs⟩:=x;simp only at hi Db En⊢;have qd:rs.length=n:=by
  have h3:=congrArg List.length Db;rw[aG]at h3;unfold tw at h3;rw[aG,fG]at h3;omega
 refine aU ?_;refine aN (λh1=>?_) (λh1=>?_)
 ·have iQ:i<n:=by simpa using h1
  have mW:bZ i n:=⟨iQ⟩;have adk:oJ ((List.range n).map (cR bl)) i (cR bl i):=⟨by rw[aK,eQ iQ];rfl⟩;refine aO ?_;refine aN (λh2=>?_) (λh2=>?_)
  ·have vB:0<=cR bl i:=by simpa using h2
   obtain⟨t,ht⟩:∃t:Nat,cR bl i=t:=⟨(cR bl i).toNat,ag⟩;have hid:jX bl t i:=by
    refine mA (b:=t) (c:=i) ?_;unfold mB;rw[cI,decide_eq_true_eq];exact⟨cQ.2 ag,ht⟩
   have sN:t<n:=by rw[hn];exact hg.BC dS hid.BC
   have bT:bZ t n:=⟨sN⟩;obtain⟨r,hr⟩:∃r,rs[t]?=some r:=⟨_,aB ag⟩;obtain⟨agH,aeg⟩:=En r (aA hr);rw[ht]
   skip
   have Kv:NX (rs.map eO) (t*1) (.slice r.a r.l.length r.c):=⟨by simp[hr,eO]⟩;refine dR [aj q [.pointer (some ⟨p1,0,none⟩),.slice aa an ac,.slice (some ⟨kb,0,none⟩) n n,.int .i64 (P:Int)] 102] (λ_:Option Addr×Nat=>True) (λ_=>[(25,.int .i64 i),(23,.slice (some ⟨tb,0,none⟩) n n),(24,.int .i64 n),(3,.pointer (some ⟨q,0,none⟩)),(1,.pointer (some ⟨p1,0,none⟩)),(2,.pointer (some ⟨p2,0,none⟩))]) (λy=>aj q [.pointer (some ⟨p1,0,none⟩),.slice aa an ac,.slice (some ⟨kb,0,none⟩) n n,.int .i64 (P:Int)] 102::ai (some ⟨kb,0,none⟩) n n 42 1 ((rs.set t ⟨y.1,y.2,r.l++[(i:Int)]⟩).map eO)::ai (some ⟨tb,0,none⟩) n n 3 1 (((List.range n).map (cR bl)).map (.int .i64))::aj p1 [.string Y.name,.int .i64 (P:Int),.int .i64 (R2:Int),.slice (some ⟨vb,vo,none⟩) n yc] 35::aj p2 [.string aE,.int .i64 0,.int .i64 0,.slice none 0 0] 35::((rs.set t ⟨y.1,y.2,r.l++[(i:Int)]⟩).map gy++((⟨af,λw=>aM w (.slice aa an ac) 1 (bm bl) cS⟩:bN)::ff (some ⟨vb,vo,none⟩) yc ys))) mixed ap ?_ λy _=>?_
   ·skip
    refine az 0 rfl aq ap ?_;refine az 1 rfl aq ap ?_;refine az 2 rfl aq ap ?_;refine az 3 rfl aq ap ?_;refine az 4 rfl aq ap ?_;refine az 5 rfl aq ap ?_;refine az 6 rfl aq ap ?_;refine az 7 rfl aq ap ?_;refine az 8 rfl aq ap ?_;refine az 9 rfl aq ap ?_;refine az 10 rfl aq ap ?_;refine az 12 rfl aq ap ?_;refine kG 11 13 aq ?_ ?_
    ·skip
     refine eY 11 rfl ap ?_;refine ck 13 aq ?_;refine ji 13 rfl aq ap λbt _=>?_;have Gf:∀(A0 A1 A2 A3 A4 A5:bN) (Z:List bN) (e':bN),(A0::A1::A2::A3::A4::A5::Z).set (t+6) e'=A0::A1::A2::A3::A4::A5::Z.set t e':=λ_ _ _ _ _ _ _ _=>rfl;refine j1 14 (t+6) (xs:=r.l.map (.int .i64)) (e:=3) (by
      show(rs.map gy++_)[t]?=_;rw[dG (by rw[aG];omega),aK,hr]
      rfl) rfl aq ag ag aq (λe'=>by rw[Gf];exact .cons _ (dn ou)) λa' c'=>?_
     refine fg (H1:=ai (some ⟨bt,0,none⟩) 1 1 3 1 [.int .i64 i]::aj q [.pointer (some ⟨p1,0,none⟩),.slice aa an ac,.slice (some ⟨kb,0,none⟩) n n,.int .i64 (P:Int)] 102::ai (some ⟨kb,0,none⟩) n n 42 1 (rs.map eO)::ai (some ⟨tb,0,none⟩) n n 3 1 (((List.range n).map (cR bl)).map (.int .i64))::aj p1 [.string Y.name,.int .i64 (P:Int),.int .i64 (R2:Int),.slice (some ⟨vb,vo,none⟩) n yc] 35::aj p2 [.string aE,.int .i64 0,.int .i64 0,.slice none 0 0] 35::((rs.set t ⟨a',c',r.l++[(i:Int)]⟩).map gy++((⟨af,λw=>aM w (.slice aa an ac) 1 (bm bl) cS⟩:bN)::ff (some ⟨vb,vo,none⟩) yc ys))) (by
      rw[Gf,List.set_append_left _ _ (by rw[aG];omega),eh];simp[gy]) ?_
     have mM:lN (rs.map eO) (t*1) (.slice a' (r.l.length+1) c') ((rs.set t ⟨a',c',r.l++[(i:Int)]⟩).map eO):=⟨by simp[eO,eh],by rw[aG];omega⟩;refine az 15 rfl aq ap ?_;refine ck 16 aq ?_;refine lB 16 ap ?_;refine eF aq ?_;exact dN (a',c') trivial aw ap
    ·skip
     refine ji 13 rfl aq ap λbt _=>?_;refine ck 11 aq ?_;refine eY 11 rfl ap ?_;have Gf:∀(A0 A1 A2 A3 A4 A5:bN) (Z:List bN) (e':bN),(A0::A1::A2::A3::A4::A5::Z).set (t+6) e'=A0::A1::A2::A3::A4::A5::Z.set t e':=λ_ _ _ _ _ _ _ _=>rfl;refine j1 14 (t+6) (xs:=r.l.map (.int .i64)) (e:=3) (by
      show(rs.map gy++_)[t]?=_;rw[dG (by rw[aG];omega),aK,hr]
      rfl) rfl aq ag ag aq (λe'=>by rw[Gf];exact .cons _ (dn ou)) λa' c'=>?_
     refine fg (H1:=ai (some ⟨bt,0,none⟩) 1 1 3 1 [.int .i64 i]::aj q [.pointer (some ⟨p1,0,none⟩),.slice aa an ac,.slice (some ⟨kb,0,none⟩) n n,.int .i64 (P:Int)] 102::ai (some ⟨kb,0,none⟩) n n 42 1 (rs.map eO)::ai (some ⟨tb,0,none⟩) n n 3 1 (((List.range n).map (cR bl)).map (.int .i64))::aj p1 [.string Y.name,.int .i64 (P:Int),.int .i64 (R2:Int),.slice (some ⟨vb,vo,none⟩) n yc] 35::aj p2 [.string aE,.int .i64 0,.int .i64 0,.slice none 0 0] 35::((rs.set t ⟨a',c',r.l++[(i:Int)]⟩).map gy++((⟨af,λw=>aM w (.slice aa an ac) 1 (bm bl) cS⟩:bN)::ff (some ⟨vb,vo,none⟩) yc ys))) (by
      rw[Gf,List.set_append_left _ _ (by rw[aG];omega),eh];simp[gy]) ?_
     have mM:lN (rs.map eO) (t*1) (.slice a' (r.l.length+1) c') ((rs.set t ⟨a',c',r.l++[(i:Int)]⟩).map eO):=⟨by simp[eO,eh],by rw[aG];omega⟩;refine az 15 rfl aq ap ?_;refine ck 16 aq ?_;refine lB 16 ap ?_;refine eF aq ?_;exact dN (a',c') trivial aw ap
   obtain⟨a',c'⟩:=y;simp only;refine aO ?_;refine bC (i+1,rs.set t ⟨a',c',r.l++[(i:Int)]⟩) ⟨iQ,?_,λr' AZ=>?_⟩ (by simp only;omega) aw ag2
   ·simp only
    rw[P_ ht,<-Db];exact pJ hr rfl
   ·rcases jM AZ with AZ|rfl
    ·have h3:=En r' AZ
     exact⟨by simp only;omega,h3.2⟩
    ·refine⟨by simp only[bR,jL,aE];omega,λy hy=>?_⟩
     simp only at hy;rcases bL.1 hy with hy|hy
     ·exact aeg y hy
     ·rw[bU.1 hy];exact⟨ag,ag⟩
  ·have vB:cR bl i<0:=by have:=of_decide_eq_false h2;omega
   refine aO ?_;exact bC (i+1,rs) ⟨iQ,by rw[P9 vB];exact Db,λr hr=>⟨by have:=(En r hr).1;simp only;omega,(En r hr).2⟩⟩ (by simp only;omega) aw ag2
 obtain rfl:n=i:=by have:=of_decide_eq_false h1;omega
 rw[hn,Mx]at Db;refine aI ?_;obtain⟨e0,he0⟩:∃e0:Int->cm,e0=λr:Int=>if r<(P:Int)then⟨true,r⟩else gK:=⟨_,rfl⟩
 have L5:zM (qf bl P) bl P 0=e0:=by
  funext r
  unfold zM;rw[BV,if_pos (by decide),he0]
 refine fq 41 2 ?_;refine bP (λx:Nat×Option Addr×Nat=>x.1<=R2) (λx=>[(51,.int .i64 x.1),(50,.int .i64 (R2:Int)),(6,.slice x.2.1 x.1 x.2.2),(3,.pointer (some ⟨q,0,none⟩)),(1,.pointer (some ⟨p1,0,none⟩)),(2,.pointer (some ⟨p2,0,none⟩))]) (λx=>ai x.2.1 x.1 x.2.2 41 2 ((dW x.1 e0).flatMap df)::aj q [.pointer (some ⟨p1,0,none⟩),.slice aa an ac,.slice (some ⟨kb,0,none⟩) n n,.int .i64 (P:Int)] 102::ai (some ⟨kb,0,none⟩) n n 42 1 (rs.map eO)::ai (some ⟨tb,0,none⟩) n n 3 1 (((List.range n).map (cR bl)).map (.int .i64))::aj p1 [.string Y.name,.int .i64 (P:Int),.int .i64 (R2:Int),.slice (some ⟨vb,vo,none⟩) n yc] 35::aj p2 [.string aE,.int .i64 0,.int .i64 0,.slice none 0 0] 35::(rs.map gy++((⟨af,λw=>aM w (.slice aa an ac) 1 (bm bl) cS⟩:bN)::ff (some ⟨vb,vo,none⟩) yc ys))) (λx=>R2-x.1) (0,none,0) (aY _) (aV aw ag2) λx hr=>?_;obtain⟨r,na,nc⟩:=x;simp only at hr⊢;refine aU ?_;refine aN (λh1=>?_) (λh1=>?_)
 ·have R9:r<R2:=by simpa using h1
  have fK:=M4 r e0;have qd:=gi r e0
  repeat(first|refine aI ?_|refine dX λ_ _=>?_)
  refine aN (λh2=>?_) (λh2=>?_)
  ·have hrP:(r:Int)<P:=by simpa using h2
   have e4:(dW (r+1) e0).flatMap df=(dW r e0).flatMap df++[.bool true,.int .i64 (r:Int)]:=by
    rw[fK,gO,he0];simp only[gx,oM,cq];rw[if_pos hrP]
    rfl
   repeat(first|refine aI ?_|refine dX λ_ _=>?_)
   refine gq 2 rfl rfl aq ag ag λQv Qx=>?_;simp only[cn,bS];rw[<-e4];refine aO ?_;exact bC (r+1,Qv,Qx) R9 (by simp only;omega) aw ap
  ·have hrP:¬(r:Int)<P:=by simpa using h2
   have e4:(dW (r+1) e0).flatMap df=(dW r e0).flatMap df++[.bool false,.int .i64 0]:=by
    rw[fK,gO,he0];simp only[gx,oM,cq];rw[if_neg hrP]
    rfl
   repeat(first|refine aO ?_|refine dX λ_ _=>?_)
   refine gq 2 rfl rfl aq ag ag λQv Qx=>?_;simp only[cn,bS];rw[<-e4];refine aO ?_;exact bC (r+1,Qv,Qx) R9 (by simp only;omega) aw ap
 obtain rfl:R2=r:=by have:=of_decide_eq_false h1;omega
 refine aI ?_;obtain⟨m,hm⟩:∃m,m=oG (fJ Y) Y.params.toNat:=⟨_,rfl⟩;have hmS:m=P+fC bl ([]++jG bl n 0):=by rw[hm,hn,hPn,iR];rfl
 refine nu (H':=(lA q p1 (.slice aa an ac) (.slice (some ⟨kb,0,none⟩) n n) (P+fC bl [])::ff (some ⟨vb,vo,none⟩) yc ys)++(ai na R2 nc 41 2 ((dW R2 e0).flatMap df)::ai (some ⟨kb,0,none⟩) n n 42 1 (rs.map eO)::ai (some ⟨tb,0,none⟩) n n 3 1 (((List.range n).map (cR bl)).map (.int .i64))::aj p1 [.string Y.name,.int .i64 (P:Int),.int .i64 (R2:Int),.slice (some ⟨vb,vo,none⟩) n yc] 35::aj p2 [.string aE,.int .i64 0,.int .i64 0,.slice none 0 0] 35::(rs.map gy++[(⟨af,λw=>aM w (.slice aa an ac) 1 (bm bl) cS⟩:bN)]))) (λw hw=>?_) ?_
 ·refine hw.perm (aJ.2 λe=>?_)
  rw[show P+fC bl []=P from rfl];unfold lA;simp only[bu,bi,cd,aE];omega
 refine fH (val:=λ_:List aR=>.tuple #[]) (E:=λx=>lA q p1 (.slice aa an ac) (.slice (some ⟨kb,0,none⟩) n n) m::ff (some ⟨vb,vo,none⟩) yc x) (φ:=λx=>x.map aR.eo=pS (qf bl P) bl P/\∀b∈x,b.Bd) rfl (λw hw=>?_) λx hx=>?_
 ·have Gn:Cf (qf bl P) bl P (uw bl [])=bl:=by
   refine RP (λc i h=>?_) (λc i j h=>?_) (λc k h=>?_) (λc h=>?_)
   ·cases h
   ·obtain⟨_,_,h⟩:=h
    cases h
   ·cases h
   ·cases h
  have wi:=hw.jN;have oY:bG (bX (cF (lA q p1 (.slice aa an ac) (.slice (some ⟨kb,0,none⟩) n n) (P+fC bl [])::ff (some ⟨vb,vo,none⟩) yc ys)) w) p1 0 [.string Y.name,.int .i64 (P:Int),.int .i64 (R2:Int),.slice (some ⟨vb,vo,none⟩) n yc]:=wi.gW p1;have LV:aM (bX (cF (lA q p1 (.slice aa an ac) (.slice (some ⟨kb,0,none⟩) n n) (P+fC bl [])::ff (some ⟨vb,vo,none⟩) yc ys)) w) (.slice aa an ac) 1 (bm bl) cS:=hw.beside (e:=(⟨af,λw=>aM w (.slice aa an ac) 1 (bm bl) cS⟩:bN)) aH;have Ej:aM (bX (cF (lA q p1 (.slice aa an ac) (.slice (some ⟨kb,0,none⟩) n n) (P+fC bl [])::ff (some ⟨vb,vo,none⟩) yc ys)) w) (.slice (some ⟨kb,0,none⟩) n n) 1 ((List.range bl.length).map λb=>(mB bl b).map λx:Nat=>(x:Int)) cS:=by
   rw[<-Db];refine EP (H:=[ai na R2 nc 41 2 ((dW R2 e0).flatMap df),ai (some ⟨tb,0,none⟩) n n 3 1 (((List.range n).map (cR bl)).map (.int .i64)),aj p1 [.string Y.name,.int .i64 (P:Int),.int .i64 (R2:Int),.slice (some ⟨vb,vo,none⟩) n yc] 35,aj p2 [.string aE,.int .i64 0,.int .i64 0,.slice none 0 0] 35,(⟨af,λw=>aM w (.slice aa an ac) 1 (bm bl) cS⟩:bN)]) (e:=42) (wi.perm (aJ.2 λe=>by simp only[bu,bi,cd,aE];omega)) qd.symm ag λr hr=>⟨by have:=(En r hr).1;omega,(En r hr).2⟩
  have uP:aM (bX (cF (lA q p1 (.slice aa an ac) (.slice (some ⟨kb,0,none⟩) n n) (P+fC bl [])::ff (some ⟨vb,vo,none⟩) yc ys)) w) (.slice na R2 nc) 2 (dW R2 (zM (qf bl P) bl P 0)) l9:=by
   rw[L5];refine wi.nC (k:=0) rfl (by rw[gi]) ag λi x hx=>⟨df x,λj v hj=>fy eB _ i x j v hx hj,rfl,?_⟩;have hi:i<R2:=by have:=(aC.1 hx).1;rwa[gi]at this
   rw[tM hi]at hx;rw[<-be hx,he0];simp only
   split
   ·exact⟨by simp only;omega,by simp only;omega⟩
   ·exact⟨by simp[gK],by simp[gK]⟩
  have h9:=Ni Y.name P R2 bl R2 P hI q p1 vb vo n yc aa an ac (some ⟨kb,0,none⟩) n n hn n 0 [] [] ys na R2 nc _ _ w (by have:=nP hg dS .refl;omega) dS (by rw[hn];unfold qM;simp) (by rw[R_];exact Gn.symm) um (vu _ _) oY LV Ej uP hw.Ui;rw[<-hmS]at h9;refine h9.mono λu w' ⟨x,f1,f2,f3,f4⟩=>⟨x,f1,f2.mG,?_,f4⟩;rw[f3];have hV:([]:List Nat)++jG bl n 0=qM (fJ Y):=by rw[hn,iR];rfl
  rw[iR];rw[iR]at hV;exact YZ hP hV _ _
 obtain⟨zC,hxd⟩:=hx;simp only[a6,aT];unfold lA;refine nu (H':=aj q [.pointer (some ⟨p1,0,none⟩),.slice aa an ac,.slice (some ⟨kb,0,none⟩) n n,.int .i64 (m:Int)] 102::aj p1 [.string Y.name,.int .i64 (P:Int),.int .i64 (R2:Int),.slice (some ⟨vb,vo,none⟩) n yc] 35::aj p2 [.string aE,.int .i64 0,.int .i64 0,.slice none 0 0] 35::ff (some ⟨vb,vo,none⟩) yc x) (λw hw=>?_) ?_
 ·refine hw.pick ⟨[ai na R2 nc 41 2 ((dW R2 e0).flatMap df),ai (some ⟨kb,0,none⟩) n n 42 1 (rs.map eO),ai (some ⟨tb,0,none⟩) n n 3 1 (((List.range n).map (cR bl)).map (.int .i64))]++(rs.map gy++[(⟨af,λw=>aM w (.slice aa an ac) 1 (bm bl) cS⟩:bN)]),aJ.2 λe=>?_⟩
  simp only[bu,bi,cd,aE];omega
 refine aI ?_;have r8:x.length=n:=by
  have h3:=congrArg List.length zC;rw[aG,jB]at h3;omega
 refine nu (H':=ff (some ⟨vb,vo,none⟩) yc x++[aj p1 [.string Y.name,.int .i64 (P:Int),.int .i64 (m:Int),.slice (some ⟨vb,vo,none⟩) n yc] 35,aj p2 [.string aE,.int .i64 0,.int .i64 0,.slice none 0 0] 35]) (λw hw=>?_) ?_
 ·refine hw.pick ⟨[aj q [.pointer (some ⟨p1,0,none⟩),.slice aa an ac,.slice (some ⟨kb,0,none⟩) n n,.int .i64 (m:Int)] 102],aJ.2 λe=>?_⟩
  simp only[bu,bi,cd,aE];omega
 obtain⟨Z,hZ⟩:∃Z,Z=gR (iP Y):=⟨_,rfl⟩;rw[<-hZ];refine fH (val:=λx:Option Addr×Nat×List aR=>.agg #[.string Z.name,.int .i64 Z.params,.int .i64 Z.aF,.slice x.1 x.2.2.length x.2.1]) (E:=λx=>ff x.1 x.2.1 x.2.2) (φ:=λx=>x.2.2.map aR.eo=Z.blocks/\(∀b∈x.2.2,b.Bd)/\x.2.2.length<=1000/\c9 Z.params/\c9 Z.aF) rfl (λw hw=>?_) λz hz=>?_
 ·have pG:(iP Y).blocks.length=n:=by
   show(pS _ _ _).length=_;rw[jB,<-iR,hn]
  have h9:=Bj (iP Y) m (by rw[hm];exact acY) ag (by show c9 Y.params;exact⟨ag,ag⟩) {w with heap:=#[]} (some ⟨vb,vo,none⟩) yc x w (by rw[zC];show _=pS (qf (fJ Y) Y.params.toNat) (fJ Y) Y.params.toNat;rw[<-iR,<-hPn]) hxd ⟨rfl,rfl,rfl,aY _,λk hk=>absurd hk (Nat.not_lt_zero k)⟩ (λ_ _=>aY _) hw.pre;have e1:(iP Y).params=(P:Int):=hYp;have e2:(iP Y).aF=(m:Int):=by rw[hm];rfl
  have e3:(iP Y).name=Y.name:=rfl;rw[e1,e2,e3,r8,<-hZ]at h9;exact h9
 obtain⟨fa,fc,zs⟩:=z;simp only at hz⊢;refine bj (H1:=aj p1 [.string Y.name,.int .i64 (P:Int),.int .i64 (m:Int),.slice (some ⟨vb,vo,none⟩) n yc] 35::aj p2 [.string aE,.int .i64 0,.int .i64 0,.slice none 0 0] 35::ff fa fc zs) (aJ.2 λe=>by simp only[bu,bi,cd,aE];omega) ?_;refine aI ?_;rw[C4];exact gH rfl λw hw=>⟨(fa,fc,zs),rfl,hw.sub (.cons _ (.cons _ (.refl _))),hz⟩
end
section
open Go Go.RowKit
attribute [local irreducible] wpListIn Code.wpIn Exit.then Exit.inBlock bodyPost wpQuiet wpAnyIn wpAnyH bodyPostM gX
set_option maxHeartbeats 4000000
theorem Rv(u:a7)(hl:mC u)(zp:(dr u).1≠0)(g fs:Value)(w0:World)(hg:aM w0 g 3 u.globals fE)(hf:aM w0 fs 4 u.funcs gg)(je:bG w0 0 0 mI):
  fi Tryz.prog 10 [.agg #[g,fs]] w0 (.tuple #[.agg #[.slice none 0 0,.slice none 0 0],.agg #[.int .i64 (dr u).1,.int .i64 (dr u).2]]):=by
 have zt:=hg;have vE:=hf;obtain⟨ga,gn,gc,gb,go,rfl,_⟩:=hg;obtain⟨fa,fn,fc,fb,fo,rfl,oY,_⟩:=hf;refine aQ Tryz.func10 rfl Tryz.ntmps10 rfl (Wd.nil dh w0) ?_
 repeat(first|refine aU ?_|refine dX λ_ _=>?_)
 rename_i p1 _ p2 _ p3 _;refine bI rfl (λw hw=>ue u hl _ _ w (zt.cu dv hw.cE) (vE.cu dk hw.cE) (je.cu hw.cE)) ?_
 repeat(first|refine aI ?_|refine dX λ_ _=>?_)
 rename_i p4 _;refine aN (λh1=>?_) (λh1=>?_)
 ·refine aU ?_
  refine wM [(2,.pointer (some ⟨p2,0,none⟩)),(3,.pointer (some ⟨p3,0,none⟩))] [aj p3 [.int .i64 (dr u).1,.int .i64 (dr u).2] 28,aj p2 [.slice none 0 0,.slice none 0 0] 25] mixed ?_ ?_
  ·repeat' (first|refine AC aq ?_|refine AB aq ?_|refine any_nil|refine pt aq ?_|refine any_cons ?_ ?_|refine ms rfl ?_|refine k9 ?_|refine oD ?_|refine lO ?_)
   all_goals exact aV aw aH
  ·refine aI ?_
   exact rZ rfl λ_ hw=>⟨rfl,hw.cE⟩
 ·simp at h1
  omega
theorem BN(u:a7)(hl:mC u)(hu:Whole u)(g fs:Value)(w:World)(hg:aM w g 3 u.globals fE)(hf:aM w fs 4 u.funcs gg):
  gV Tryz.prog 24 [.agg #[g,fs],.func (.func 25) #[] #[]] w (NO u zF w):=
 Wm u (H3 (fz.2 hu.ok)) ⟨LA hl,LB hl (fz.2 hu.ok)⟩ _ _ w hg hf 25 [] [] zF λX hX=>by
  obtain⟨k,hk⟩:=br hX;obtain⟨R,hA,hT⟩:=ET hu.ok hk;have hY:(sL u).funcs[k]?=some (lZ X):=by rw[yC,hk];rfl
  have PK:=(oe hu).1;obtain⟨R2,hP⟩:=xq hu k _ hY;have h1:=(hl.2 X hX).1;have h2:=hA.par;have h3:=hA.le;have hs:=zl.same hu.ok hk;have h5:=hs.size;rw[<-ahc]at h5;exact Ng X R hA hT (zN hu.ok hk).1 h1 ag ⟨ag,ag⟩ R2 hP _ (PK.ok.body _ (aA hY)) (pA PK.ok hY) w
theorem Rw(u:a7)(hl:mC u)(hu:Whole u)(i:Nat)(X:aZ)(hF:lM u zF i X)(g fs:Value)(w0:World)(hg:aM w0 g 3 u.globals fE)(hf:aM w0 fs 4 u.funcs gg)(je:bG w0 0 0 mI):
  fi Tryz.prog 10 [.agg #[g,fs]] w0 (.tuple #[.agg #[.slice none 0 0,.slice none 0 0],.agg #[.int .i64 10,.int .i64 i]]):=by
 have zt:=hg;have vE:=hf;obtain⟨ga,gn,gc,gb,go,rfl,_⟩:=hg;obtain⟨fa,fn,fc,fb,fo,rfl,oY,_⟩:=hf;refine aQ Tryz.func10 rfl Tryz.ntmps10 rfl (Wd.nil dh w0) ?_
 repeat(first|refine aU ?_|refine dX λ_ _=>?_)
 rename_i p1 _ p2 _ p3 _;refine bI rfl (λw hw=>ue u hl _ _ w (zt.cu dv hw.cE) (vE.cu dk hw.cE) (je.cu hw.cE)) ?_;rw[nW (fz.2 hu.ok)]
 repeat(first|refine aI ?_|refine dX λ_ _=>?_)
 rename_i p4 _;refine bI (u:=.tuple #[.agg #[.slice none 0 0,.slice none 0 0],.agg #[.int .i64 10,.int .i64 i]]) rfl (λw hw=>(BN u hl hu _ _ w (zt.cu dv hw.cE) (vE.cu dk hw.cE)).mono λv w' h=>?_) ?_
 ·rcases h with⟨j,Y,h1,h2,h3,h4,h5⟩|⟨h1,_⟩
  ·obtain rfl:j=i:=lM.one ⟨h1,h2,h3⟩ hF
   exact⟨h4,h5⟩
  ·exact absurd hF.Qd (by rw[h1 X (aA hF.at')];simp)
 refine aI ?_;exact rZ rfl λ_ hw=>⟨rfl,hw.cE⟩
theorem Uw(u:a7)(hl:mC u)(hu:Whole u)(hN:∀X∈u.funcs,iS (zF X)=false)(g fs:Value)(w0:World)(hg:aM w0 g 3 u.globals fE)(hf:aM w0 fs 4 u.funcs gg)(je:bG w0 0 0 mI):
  gV Tryz.prog 10 [.agg #[g,fs]] w0 λv w'=>∃x:(Option Addr×Nat)×(Option Addr×Nat)×(Nat->Prop),v=.tuple #[.agg #[.slice x.1.1 u.globals.length x.1.2,.slice x.2.1.1 u.funcs.length x.2.1.2],.agg #[.int .i64 0,.int .i64 0]]/\Wd dh w0 [K8 (yk u) (.slice x.1.1 u.globals.length x.1.2) (.slice x.2.1.1 u.funcs.length x.2.1.2) x.2.2] w'/\True:=by
 have zt:=hg;have vE:=hf;obtain⟨ga,gn,gc,gb,go,rfl,_⟩:=hg;obtain⟨fa,fn,fc,fb,fo,rfl,oY,_⟩:=hf;refine aQ Tryz.func10 rfl Tryz.ntmps10 rfl (Wd.nil dh w0) ?_
 repeat(first|refine aU ?_|refine dX λ_ _=>?_)
 rename_i p1 _ p2 _ p3 _;refine bI rfl (λw hw=>ue u hl _ _ w (zt.cu dv hw.cE) (vE.cu dk hw.cE) (je.cu hw.cE)) ?_;rw[nW (fz.2 hu.ok)]
 repeat(first|refine aI ?_|refine dX λ_ _=>?_)
 rename_i p4 _;refine cV (val:=λx:(Option Addr×Nat)×(Option Addr×Nat)×(Nat->Prop)=>.tuple #[.agg #[.slice x.1.1 u.globals.length x.1.2,.slice x.2.1.1 u.funcs.length x.2.1.2],.agg #[.int .i64 0,.int .i64 0]]) (E:=λx=>[K8 (yk u) (.slice x.1.1 u.globals.length x.1.2) (.slice x.2.1.1 u.funcs.length x.2.1.2) x.2.2]) (φ:=λ_=>True) rfl (λw hw=>(BN u hl hu _ _ w (zt.cu dv hw.cE) (vE.cu dk hw.cE)).mono λv w' h=>?_) λx _=>?_
 ·rcases h with⟨j,Y,h1,h2,_⟩|⟨_,ga,fa,gc,fc,fp,rfl,hw⟩
  ·rw[hN Y (aA h1)]at h2
   cases h2
  ·exact⟨((ga,gc),(fa,fc),fp),rfl,hw,trivial⟩
 obtain⟨⟨ya,yc⟩,⟨za,zc⟩,fp⟩:=x;simp only[a6,aT];refine aI ?_;refine rZ rfl λw hw=>⟨((ya,yc),(za,zc),fp),rfl,hw.pick inferInstance,trivial⟩
end
section
open Go Go.RowKit
theorem da{bl:List ar}{x y:Nat}(h:Edge bl x y):x<bl.length:=by
 unfold Edge dd at h;cases hb:bl[x]? with
 |none=>rw[hb]at h;cases h
 |some B=>exact(aC.1 hb).1
theorem ahl{l:List cm}{r:Nat}{v:cm}(hv:v∈l)(h1:v.bD=true)(h2:v.n=r):ke l r=true:=by
 unfold ke;exact oq.2 ⟨v,hv,by simp[h1,h2]⟩
theorem ah0(ν:Nat->Nat->Int)(bl:List ar)(n b k:Nat)(x:en):gI (rH ν bl n b k x)=(gI x).map (o6 ν bl n b k):=by
 unfold gI rH;simp only
 split
 ·rfl
 ·split
  ·rfl
  ·split
   ·rfl
   ·split<;>rfl
theorem ahj{ν:Nat->Nat->Int}{bl:List ar}{n b k:Nat}{v:cm}{r:Nat}(h1:v.bD=true)(h2:v.n=r):o6 ν bl n b k v=nm ν bl n b k (r:Int):=by
 unfold o6;rw[if_pos h1,h2]
theorem ahL{bl:List ar}{r b:Nat}(h:gM bl r b (-1)):∃B,bl[b]?=some B/\∀p∈B.aL,p.dst≠r:=by
 generalize hk:(-1:Int)=k at h;cases h with
 |jW hB Cs _=>exact⟨_,hB,Cs⟩
 |use _ _ _=>omega
 |go _ _ _ _=>omega
 |on _ _=>omega
 |take _ h1 _ _=>omega
 |jump _ h1 _ _=>omega
section
variable {Y:aZ} {R:Nat}
theorem aid(h:rN Y R){b i k:Nat}{B:ar}(hB:(fJ Y)[b]?=some B)(hs:Site B k)(hk:B.aL.length+i<=k){r:Int}(hr:0<=r){x:Int}(hx:nm (qf (fJ Y) Y.params.toNat) (fJ Y) Y.params.toNat b i r=⟨true,x⟩):qf (fJ Y) Y.params.toNat b k≠x:=λe=>by
 obtain⟨hg,dS,jq,hlen⟩:=jA h.all;have hf:=qP h;have iR:=(aC.1 hB).1;have Km:=yt h b iR;have hp:=hf.par;rcases Jg (ν:=qf (fJ Y) Y.params.toNat) (n:=Y.params.toNat) hg dS hr _ b i (bH _) Km with⟨c,j,e1,hc,hsj,hw⟩|⟨e1,h1⟩|e1
 ·rw[hx]at e1
  simp only[cm.mk.injEq,true_and]at e1;obtain⟨C,hC⟩:∃C,(fJ Y)[c]?=some C:=⟨_,aB hc⟩;rw[eD hC]at hsj;obtain⟨e2,e3⟩:=hf.inj b c k j B C hB hC hs hsj (e.trans e1);subst e2;rw[eD hB]at hw;rcases hw with⟨_,h2⟩|⟨h2,_⟩
  ·omega
  ·exact h2 rfl
 ·rw[hx]at e1
  simp only[cm.mk.injEq,true_and]at e1;have:=hf.ge b k;omega
 ·rw[hx]at e1
  simp[gK]at e1
theorem ah5(h:rN Y R){b k:Nat}{B:ar}(hB:(fJ Y)[b]?=some B)(hs:Site B k){r:Int}(hr:0<=r){x:Int}(hx:zM (qf (fJ Y) Y.params.toNat) (fJ Y) Y.params.toNat b r=⟨true,x⟩):qf (fJ Y) Y.params.toNat b k≠x:=λe=>by
 obtain⟨hg,dS,jq,hlen⟩:=jA h.all;have hf:=qP h;have iR:=(aC.1 hB).1;have Km:=yt h b iR;have hp:=hf.par;rcases SE (ν:=qf (fJ Y) Y.params.toNat) (n:=Y.params.toNat) hg dS hr Km with⟨c,j,e1,hc,hsj,eH,_⟩|⟨e1,h1⟩|e1
 ·rw[hx]at e1
  simp only[cm.mk.injEq,true_and]at e1;obtain⟨C,hC⟩:∃C,(fJ Y)[c]?=some C:=⟨_,aB hc⟩;rw[eD hC]at hsj;exact eH (hf.inj b c k j B C hB hC hs hsj (e.trans e1)).1.symm
 ·rw[hx]at e1
  simp only[cm.mk.injEq,true_and]at e1;have:=hf.ge b k;omega
 ·rw[hx]at e1
  simp[gK]at e1
theorem ahd(h:rN Y R){b:Nat}{B:ar}(hB:Y.blocks[b]?=some B):(fJ Y)[b]?=some {B with aL:=B.aL++di Y.blocks R b}:=by
 rw[tI h.all];exact iq hB
theorem aha(h:rN Y R){b:Nat}{B:ar}(hB:Y.blocks[b]?=some B):(iP Y).blocks[b]?=some (CA (qf (fJ Y) Y.params.toNat) (fJ Y) Y.params.toNat b {B with aL:=B.aL++di Y.blocks R b}):=by
 show(pS _ _ _)[b]?=_;exact pT (ahd h hB)
theorem ahT(h:rN Y R)(b:Nat):bf (iP Y).blocks b=bf Y.blocks b:=by
 obtain⟨hg,dS,jq,hlen⟩:=jA h.all;exact xd (by show(pS _ _ _).length=_;rw[jB,hlen]) (λi=>(ER _ _ _ i).trans (jq i)) b
theorem ahw(h:rN Y R){b t:Nat}{T:ar}(hT:Y.blocks[t]?=some T)(hb:b∈bf Y.blocks t){p:eC}(hp:p∈T.aL++di Y.blocks R t){r:Nat}(hv:p.src[(bf Y.blocks t).idxOf b]?=some ⟨true,(r:Int)⟩){x:Nat}
  (hx:nm (qf (fJ Y) Y.params.toNat) (fJ Y) Y.params.toNat b (a8 (fJ Y) b).list.length (r:Int)=⟨true,(x:Int)⟩):tT (iP Y).blocks t b x=true:=by
 have hS:=aha h hT;obtain⟨i,hi⟩:=br hp;unfold tT eU;rw[hS,ahT h];simp only;refine oq.2 ⟨yv (qf (fJ Y) Y.params.toNat) (fJ Y) Y.params.toNat t i p,?_,?_⟩
 ·unfold CA
  simp only;refine aA (i:=i) ?_;rw[cM,hi]
  rfl
 ·have h1:(yv (qf (fJ Y) Y.params.toNat) (fJ Y) Y.params.toNat t i p).src[(bf Y.blocks t).idxOf b]?=some (yw (qf (fJ Y) Y.params.toNat) (fJ Y) Y.params.toNat t ((bf Y.blocks t).idxOf b) ⟨true,(r:Int)⟩):=by
   show(p.src.mapIdx _)[_]?=_;rw[cM,hv]
   rfl
  rw[h1];have wU:bf (fJ Y) t=bf Y.blocks t:=by
   obtain⟨hg,dS,jq,hlen⟩:=jA h.all;exact xd hlen jq t
  have h2:Zu (fJ Y) t ((bf Y.blocks t).idxOf b)=b:=by
   unfold Zu;rw[wU];have h3:=ju hb;rw[aB h3,nL]
   rfl
  unfold yw;rw[h2];have h4:o6 (qf (fJ Y) Y.params.toNat) (fJ Y) Y.params.toNat b (a8 (fJ Y) b).list.length ⟨true,(r:Int)⟩=⟨true,(x:Int)⟩:=hx;rw[h4];simp[ke]
theorem ahY(h:rN Y R){r:Nat}:∀{b:Nat} {k:Int},gM Y.blocks r b k->
  (k=-1->¬al Y.blocks b r->∀x:Nat,zM (qf (fJ Y) Y.params.toNat) (fJ Y) Y.params.toNat b (r:Int)=⟨true,(x:Int)⟩->gM (iP Y).blocks x b (-1))/\
  (∀j:Nat,k=j->∀x:Nat,nm (qf (fJ Y) Y.params.toNat) (fJ Y) Y.params.toNat b (min j (a8 (fJ Y) b).list.length) (r:Int)=⟨true,(x:Int)⟩->gM (iP Y).blocks x b j):=by
 classical
 intro b k hl;obtain⟨hg,dS,jq,hlen⟩:=jA h.all;have adN:∀{b:Nat} {B:ar},Y.blocks[b]?=some B->(a8 (fJ Y) b).list=B.list:=λhB=>by rw[eD (ahd h hB)]
 have NE:∀{b:Nat} {B:ar},Y.blocks[b]?=some B->gD (fJ Y) (-1) 0 b:=λhB=>yt h _ (by rw[hlen];exact(aC.1 hB).1)
 induction hl with
 |@jW b B hB Cs hl ih=>
  refine⟨λ_ hn x hx=>?_,λj hj=>ag⟩;have qu:∀p∈(a8 (fJ Y) b).aL,p.dst≠(r:Int):=λp hp=>by
   rw[eD (ahd h hB)]at hp;rcases bL.1 hp with hp|hp
   ·exact Cs p hp
   ·obtain⟨r',_,NB,rfl⟩:=jh hp
    intro e;have e2:r'=r:=by simp only[gS,aE]at e;omega
    subst e2;exact hn NB
  have h0:nm (qf (fJ Y) Y.params.toNat) (fJ Y) Y.params.toNat b 0 (r:Int)=⟨true,(x:Int)⟩:=by
   rw[KH hg dS (NE hB)];unfold KG;rw[yq qu];exact hx
  refine .jW (aha h hB) (λq hq=>?_) (ih.2 0 rfl x (by rw[Nat.zero_min];exact h0));unfold CA at hq;simp only at hq;obtain⟨i,hi⟩:=br hq;rw[cM]at hi;obtain⟨p,hp,rfl⟩:=cT.1 hi;exact ah5 h (ahd h hB) (.inl (aC.1 hp).1) ag hx
 |@use b i B y hB hy hu=>
  refine⟨λhk=>ag,λj hj x hx=>?_⟩;obtain rfl:i=j:=ag;have iQ:=(aC.1 hy).1;rw[adN hB,iA ag]at hx;obtain⟨v,hv,h1,h2⟩:=ahb hu;refine .use (aha h hB) (x:=rH (qf (fJ Y) Y.params.toNat) (fJ Y) Y.params.toNat b i y) ?_ ?_
  ·show(B.list.mapIdx _)[i]?=_
   rw[cM,hy]
   rfl
  ·rw[ah0]
   refine ahl (aX.2 ⟨v,hv,rfl⟩) ?_ ?_
   ·rw[ahj h1 h2,hx]
   ·rw[ahj h1 h2,hx]
 |@go b i B y hB hy eH hl ih=>
  refine⟨λhk=>ag,λj hj x hx=>?_⟩;obtain rfl:i=j:=ag;have iQ:=(aC.1 hy).1;rw[adN hB,iA ag]at hx;have Zr:(a8 (fJ Y) b).list[i]?=some y:=by rw[adN hB];exact hy
  refine .go (aha h hB) (x:=rH (qf (fJ Y) Y.params.toNat) (fJ Y) Y.params.toNat b i y) ?_ ?_ (ih.2 (i+1) rfl x ?_)
  ·show(B.list.mapIdx _)[i]?=_
   rw[cM,hy]
   rfl
  ·show(if 0<=y.dst then _ else y.dst)≠_
   split
   ·rename_i h0
    rw[eD (ahd h hB)];exact aid h (ahd h hB) (.inr ⟨i,y,rfl,hy,h0⟩) (bH _) ag hx
   ·omega
  ·rw[adN hB,iA ag,zX hg dS (NE hB) Zr,if_neg eH]
   exact hx
 |@on b B hB hu=>
  refine⟨λhk=>ag,λj hj x hx=>?_⟩;obtain rfl:B.list.length=j:=ag;rw[adN hB,Nat.min_self]at hx;obtain⟨v,hv,h1,h2⟩:=ahb hu;rw[bU.1 hv]at h1 h2;have h3:=gM.on (r:=x) (aha h hB) (by
   refine ahl (v:=o6 (qf (fJ Y) Y.params.toNat) (fJ Y) Y.params.toNat b B.list.length B.on) (bU.2 rfl) ?_ ?_
   ·rw[ahj h1 h2,hx]
   ·rw[ahj h1 h2,hx])
  have h4:(CA (qf (fJ Y) Y.params.toNat) (fJ Y) Y.params.toNat b {B with aL:=B.aL++di Y.blocks R b}).list.length=B.list.length:=by
   show(B.list.mapIdx _).length=_;rw[kh]
  rw[h4]at h3;exact h3
 |@take b B k t hB hk ht Cv=>
  refine⟨λAO=>ag,λj hj x hx=>?_⟩;have hm:min j (a8 (fJ Y) b).list.length=(a8 (fJ Y) b).list.length:=by rw[adN hB];omega
  rw[hm]at hx;have iR:=(aC.1 hB).1;have Zb:b∈bf Y.blocks t:=pg iR (by rw[fR hB];exact ht);have hlS:(CA (qf (fJ Y) Y.params.toNat) (fJ Y) Y.params.toNat b {B with aL:=B.aL++di Y.blocks R b}).list.length=B.list.length:=by
   show(B.list.mapIdx _).length=_;rw[kh]
  unfold tT at Cv;obtain⟨p,hp,h2⟩:=oq.1 Cv;obtain⟨v,hv,h3,h4⟩:=ahb h2;rw[bU.1 hv]at h3 h4;unfold eU at hp;cases hT:Y.blocks[t]? with
  |none=>rw[hT]at hp;cases hp
  |some T=>
   rw[hT]at hp;simp only at hp;cases hz:p.src[(bf Y.blocks t).idxOf b]? with
   |none=>rw[hz]at h3;cases h3
   |some w=>
    rw[hz]at h3 h4;simp only[dF]at h3 h4;have hw:w=⟨true,(r:Int)⟩:=by
     obtain⟨a1,a2⟩:=w;simp only at h3 h4;rw[h3,h4]
    rw[hw]at hz;exact .take (aha h hB) (by rw[hlS];omega) ht (ahw h hT Zb (cC _ hp) hz hx)
 |@jump b B k t hB hk ht hl ih=>
  refine⟨λAO=>ag,λj hj x hx=>?_⟩;have hm:min j (a8 (fJ Y) b).list.length=(a8 (fJ Y) b).list.length:=by rw[adN hB];omega
  rw[hm]at hx;have iR:=(aC.1 hB).1;have Zb:b∈bf Y.blocks t:=pg iR (by rw[fR hB];exact ht);have hlS:(CA (qf (fJ Y) Y.params.toNat) (fJ Y) Y.params.toNat b {B with aL:=B.aL++di Y.blocks R b}).list.length=B.list.length:=by
   show(B.list.mapIdx _).length=_;rw[kh]
  have R9:r<R:=TV h.all.ok hl;have xC:t<Y.blocks.length:=h.all.ok.iM.FG (x:=b) (by unfold Edge;rw[fR hB];exact ht);obtain⟨T,hT⟩:∃T,Y.blocks[t]?=some T:=⟨_,aB xC⟩
  by_cases hn:al Y.blocks t r
  ·refine .take (aha h hB) (by rw[hlS];omega) ht (ahw h hT Zb (p:=gS Y.blocks t r) (dt _ ?_) ?_ hx)
   ·unfold di
    exact aX.2 ⟨r,cI.2 ⟨cQ.2 R9,by simpa using hn⟩,rfl⟩
   ·show(List.replicate (bf Y.blocks t).length (⟨true,(r:Int)⟩:cm))[_]?=_
    rw[h_,if_pos (ju Zb)]
  ·have XC:¬lT Y.blocks (qQ Y.blocks r) t:=λKg=>hn ⟨Kg,by
    have h9:=ahL hl;obtain⟨T2,hT2,Cs⟩:=h9;rw[eD hT2];exact xQ.2 Cs,hl⟩
   have Kt:t≠0:=λe=>by
    have:=h.pos b t (by rw[fR hB];exact ht);omega
   have hep:=Oc (ν:=qf (fJ Y) Y.params.toNat) (n:=Y.params.toNat) (R:=R) h.all.ok.iM h.all.pos (r:=r) Kt (h.reach b iR) (show Edge Y.blocks b t by unfold Edge;rw[fR hB];exact ht) XC;rw[<-tI h.all]at hep;exact .jump (aha h hB) (by rw[hlS];omega) ht (ih.1 rfl hn x (by rw[<-hep];exact hx))
end
def NoP(bl:List ar):Prop:=∀B∈bl,B.aL=[]
theorem NoP.cu{bl:List ar}{o:List Nat}(h:NoP bl)(hk:HO bl o):NoP (cY bl o):=λC hC=>by
 unfold cY at hC;obtain⟨b,hb,rfl⟩:=aX.1 hC;have h1:(a8 bl b).aL=[]:=h _ (aA (bK (hk.lt b hb)));show(a8 bl b).aL.map _=[];rw[h1]
 rfl
theorem NoP.join{bl:List ar}{b t:Nat}(h:NoP bl):NoP (eu bl b t):=λC hC=>by
 obtain⟨c,hc⟩:=br hC;have fv:c<bl.length:=by rw[<-eJ bl b t];exact(aC.1 hc).1
 obtain⟨B,hB⟩:∃B,bl[c]?=some B:=⟨_,aB fv⟩;have x7:=h B (aA hB);rw[iV hB]at hc;rw[<-be hc];unfold ow
 split
 ·rfl
 ·split<;>simp[x7]
theorem NoP.ren{bl:List ar}(h:NoP bl)(L:List Int):NoP (bl.map (qg L)):=λC hC=>by
 obtain⟨B,hB,rfl⟩:=aX.1 hC;show B.aL.map _=[];rw[h B hB]
 rfl
theorem NoP.tidy{u:a7}(hc:iW u){k:Nat}{X:aZ}(hX:u.funcs[k]?=some X)(h:NoP X.blocks):NoP (lZ X).blocks:=by
 obtain⟨R,hA⟩:=yU hc hX;have hk:=j7 hA.ok.iM hA.pos;obtain⟨Ej,wV⟩:=zN hc hX;have WV:sR R (ew X):=⟨kH hA.ok hk,Di hk Ej⟩;obtain⟨hj,_⟩:=u1 WV;have h1:NoP (ew X):=NoP.cu h hk;have h2:NoP (fx (ew X)):=hj.inv (λ_ _ _ _ h=>NoP.join h) h1;obtain⟨_,_,hT⟩:=ET hc hX;have AO:=j7 hT.mid.ok.iM hT.mid.pos;exact NoP.ren (NoP.cu h2 AO) _
theorem ahu{bl:List ar}(hp:qh bl){a b:Nat}(h1:∀x y,Edge bl x b->Edge bl y b->x=y):¬gP bl a b:=λ⟨p,hr,he,hd,hn⟩=>by
 have ve:b≠0:=λe=>by
  have:=hp p b he;omega
 have hpb:p≠b:=λe=>by
  subst e;have key:∀x,gD bl (-1) 0 x->x≠p:=λx hx=>by
   induction hx with
   |refl=>exact λe=>ve e.symm
   |step _ Xd _ ih=>exact λe=>by subst e;exact ih (h1 _ _ Xd he)
  exact key p hr rfl
 have Km:gD bl (-1) 0 b:=hr.step he ag;have Vi:ku bl p b:=by
  refine⟨hr,Km,?_⟩
  by_cases h0:p=0
  ·exact .inr (.inl h0)
  ·refine .inr (.inr λhx=>?_)
   cases hx with
   |refl=>exact ve rfl
   |step zB Xd eH=>
    have e:=h1 _ _ Xd he;subst e;cases zB with
    |refl=>exact h0 rfl
    |step _ _ h2=>exact h2 rfl
 have OF:=hd.trans Vi;rcases hn with e|e
 ·subst e
  exact hpb (Vi.antisymm hd)
 ·exact e OF
theorem ahS{bl:List ar}(hp:qh bl){bs:List Int}{b:Nat}(hm:lT bl bs b):2<=(bf bl b).length:=by
 by_cases h:2<=(bf bl b).length
 ·exact h
 have h1:∀x y,Edge bl x b->Edge bl y b->x=y:=λx y hx hy=>by
  have oZ:x∈bf bl b:=pg (da hx) hx;have vH:y∈bf bl b:=pg (da hy) hy
  match hl:bf bl b,h with
  |[],_=>rw[hl]at oZ;cases oZ
  |[a],_=>
   rw[hl]at oZ vH;rw[bU.1 oZ,bU.1 vH]
  |_::_::_,h=>simp at h
 cases hm with
 |base _ hf=>exact absurd hf (ahu hp h1)
 |step _ hf=>exact absurd hf (ahu hp h1)
theorem ahW{bl:List ar}{r b:Nat}(h:gM bl r b (-1)):gM bl r b 0:=by
 generalize hj:(-1:Int)=j at h;cases h with
 |jW _ _ h=>exact h
 |use _ _ _=>omega
 |go _ _ _ _=>omega
 |on _ _=>omega
 |take _ h _ _=>omega
 |jump _ h _ _=>omega
theorem ahQ{ps:List eC}{r:Int}{i:Nat}{p:eC}(hp:ps[i]?=some p)(hd:p.dst=r)(qu:∀j q,i<j->ps[j]?=some q->q.dst≠r):∀n,i<n->od ps r n=some i
 |n+1,h=>by
  unfold od
  by_cases e:n=i
  ·subst e
   rw[hp,if_pos (by rw[<-hd];rfl)]
  ·rw[if_neg,ahQ hp hd qu n ag]
   intro h1;obtain⟨q,hq,h2⟩:=cT.1 h1;exact qu n q ag hq h2
theorem ahH{bl:List ar}{m b i:Nat}{p:eC}(h:(di bl m b)[i]?=some p):∃r:Nat,r<m/\al bl b r/\p=gS bl b r/\∀j q,i<j->(di bl m b)[j]?=some q->q.dst≠(r:Int):=by
 classical
 obtain⟨r,h1,h2,h3⟩:=jh (aA h);refine⟨r,h1,h2,h3,λj q hj hq e=>?_⟩;unfold di at h hq;rw[aK]at h hq;obtain⟨a,ha,e1⟩:=cT.1 h;obtain⟨c,hc,e2⟩:=cT.1 hq;have e3:a=r:=by
  have:=congrArg eC.dst (e1.trans h3);simp only[gS,aE]at this;omega
 have e4:c=r:=by
  have:=congrArg eC.dst e2;rw[e]at this;simp only[gS,aE]at this;omega
 subst e3;subst e4;have oh:((List.range m).filter λr=>decide (al bl b r)).Nodup:=List.Nodup.sublist mg rT;have h9:=(List.getElem?_inj (aC.1 ha).1 oh).1 (ha.trans hc.symm);omega
theorem ahN{Y:aZ}{R:Nat}(h:rN Y R)(qu:NoP Y.blocks){b i:Nat}{C:ar}(hC:(iP Y).blocks[b]?=some C){p:eC}(hp:C.aL[i]?=some p):2<=p.src.length/\∃x:Nat,p.dst=x/\gM (iP Y).blocks x b 0:=by
 obtain⟨hg,dS,jq,hlen⟩:=jA h.all;have iR:b<Y.blocks.length:=by
  have h1:=(aC.1 hC).1;rw[show(iP Y).blocks.length=Y.blocks.length by show(pS _ _ _).length=_;rw[jB,hlen]]at h1;exact h1
 obtain⟨B,hB⟩:∃B,Y.blocks[b]?=some B:=⟨_,aB iR⟩;have ve:=qu B (aA hB);rw[aha h hB]at hC;rw[<-be hC]at hp;unfold CA at hp;simp only at hp;rw[cM,ve,aT]at hp;obtain⟨q,hq,rfl⟩:=cT.1 hp;obtain⟨r,hr,hn,rfl,aib⟩:=ahH hq;have gT:=(qP h).ge b i;have Tr:=(qP h).par;obtain⟨x,hx⟩:∃x:Nat,qf (fJ Y) Y.params.toNat b i=(x:Int):=⟨_,(Int.toNat_of_nonneg (show 0<=qf (fJ Y) Y.params.toNat b i by omega)).symm⟩;refine⟨?_,x,hx,?_⟩
 ·show 2<=((List.replicate _ _).mapIdx _).length
  rw[kh,ef];exact ahS h.pos hn.1
 ·refine(ahY h (ahW hn.2.2)).2 0 rfl x ?_
  rw[Nat.zero_min,KH hg dS (yt h _ (by rw[hlen];exact iR))];unfold KG;have Cs:(a8 (fJ Y) b).aL=di Y.blocks R b:=by rw[eD (ahd h hB)];show B.aL++_=_;rw[ve,aT]
  rw[Cs,ahQ (r:=(r:Int)) hq rfl aib _ (aC.1 hq).1];show(⟨true,qf (fJ Y) Y.params.toNat b i⟩:cm)=_;rw[hx]
theorem ahg{l:List cm}{r:Nat}{L:List Int}(h:ke l r=true):ke (l.map (cw L)) (L.idxOf (r:Int))=true:=by
 obtain⟨v,hv,h1,h2⟩:=ahb h;refine ahl (aX.2 ⟨v,hv,rfl⟩) ?_ ?_
 ·unfold cw;rw[if_pos h1]
 ·unfold cw;rw[if_pos h1,h2];rfl
theorem ahZ{L:List Int}{a:Int}{r:Nat}(ha:a∈L)(hr:(r:Int)∈L)(h:a≠r):fL L a≠((L.idxOf (r:Int):Nat):Int):=λe=>h (KM ha hr e)
theorem ahX{bl:List ar}{L:List Int}(hL:∀B∈bl,∀s,s∈pR B∨s∈tQ B->s∈L){r:Nat}(hr:(r:Int)∈L):∀{b:Nat} {k:Int},gM bl r b k->gM (bl.map (qg L)) (L.idxOf (r:Int)) b k:=by
 intro b k hl;have jS:∀{b:Nat} {B:ar},bl[b]?=some B->(bl.map (qg L))[b]?=some (qg L B):=λh=>by rw[aK,h];rfl
 have hlen:∀B:ar,(qg L B).list.length=B.list.length:=λB=>aG _
 induction hl with
 |@jW b B hB Cs _ ih=>
  refine .jW (jS hB) (λp hp=>?_) ih;obtain⟨q,hq,rfl⟩:=aX.1 hp;exact ahZ (hL B (aA hB) _ (.inl (BJ hq))) hr (Cs q hq)
 |@use b i B x hB hx hu=>
  refine .use (jS hB) (x:=jm L x) ?_ ?_
  ·show(B.list.map (jm L))[i]?=_
   rw[aK,hx]
   rfl
  ·rw[ahO]
   exact ahg hu
 |@go b i B x hB hx eH _ ih=>
  refine .go (jS hB) (x:=jm L x) ?_ ?_ ih
  ·show(B.list.map (jm L))[i]?=_
   rw[aK,hx]
   rfl
  ·show mR L x.dst≠_
   unfold mR
   split
   ·rename_i h0
    exact ahZ (hL B (aA hB) _ (.inl (rF (aA hx) (tP h0)))) hr eH
   ·omega
 |@on b B hB hu=>
  have h3:=gM.on (r:=L.idxOf (r:Int)) (jS hB) (ahg (l:=[B.on]) hu);rw[hlen]at h3;exact h3
 |@take b B k t hB hk ht Cv=>
  refine .take (jS hB) (by rw[hlen];exact hk) ht ?_;unfold tT at Cv⊢;obtain⟨p,hp,h2⟩:=oq.1 Cv;refine oq.2 ⟨Ra L p,?_,?_⟩
  ·unfold eU at hp⊢
   cases hT:bl[t]? with
   |none=>rw[hT]at hp;cases hp
   |some T=>
    rw[hT]at hp;rw[jS hT];exact aX.2 ⟨p,hp,rfl⟩
  ·rw[Dw]
   have h5:[(Ra L p).src[(bf bl t).idxOf b]?.getD gK]=[p.src[(bf bl t).idxOf b]?.getD gK].map (cw L):=by
    show[((p.src.map (cw L))[_]?).getD gK]=_;rw[aK];cases p.src[(bf bl t).idxOf b]? with
    |none=>rfl
    |some v=>rfl
   rw[h5];exact ahg h2
 |@jump b B k t hB hk ht _ ih=>exact .jump (jS hB) (by rw[hlen];exact hk) ht ih
theorem ahz{Z:aZ}(h:ew Z=Z.blocks):(gR Z).blocks=Z.blocks.map (qg (pL Z.params.toNat Z.blocks)):=by
 show(ew Z).map (qg (pL _ (ew Z)))=_;rw[h]
theorem ahM{u:a7}(hu:Whole u)(acY:∀X∈u.funcs,iS (zF X)=false){k:Nat}{X:aZ}(hX:u.funcs[k]?=some X)(qu:NoP X.blocks){b:Nat}{C:ar}(hC:(zF X).blocks[b]?=some C){p:eC}(hp:p∈C.aL):2<=p.src.length/\∃x:Nat,p.dst=x/\gM (zF X).blocks x b 0:=by
 have hY:(sL u).funcs[k]?=some (lZ X):=by rw[yC,hX];rfl
 obtain⟨R,hP⟩:=xq hu k _ hY;have hT:=NoP.tidy hu.ok hX qu;have hZ:(v8 (sL u)).funcs[k]?=some (iP (lZ X)):=by rw[Hi,hY];rfl
 obtain⟨_,hA⟩:=yU (Uf hu acY).ok hZ;obtain⟨_,_,hTD⟩:=ET hu.ok hX;have ho:=Nc hP (BT hTD);have x6:ew (iP (lZ X))=(iP (lZ X)).blocks:=by unfold ew;rw[ho];exact P7 hA.ok
 have aif:(zF X).blocks=(iP (lZ X)).blocks.map (qg (pL (iP (lZ X)).params.toNat (iP (lZ X)).blocks)):=by
  exact ahz x6
 have mO:∀B∈(iP (lZ X)).blocks,∀s,s∈pR B∨s∈tQ B->s∈pL (iP (lZ X)).params.toNat (iP (lZ X)).blocks:=λB hB s hs=>wY.2 (hs.elim (λh=>.inr (.inl ⟨B,hB,h⟩)) λh=>.inr (.inr ⟨B,hB,h⟩));have wU:∀{b i:Nat} {D:ar},(iP (lZ X)).blocks[b]?=some D->∀{q:eC},D.aL[i]?=some q->2<=q.src.length/\∃x:Nat,q.dst=x/\gM (iP (lZ X)).blocks x b 0:=λh1 _ h2=>ahN hP hT h1 h2;rw[aif]at hC⊢;generalize pL (iP (lZ X)).params.toNat (iP (lZ X)).blocks=L at*;rw[aK]at hC;obtain⟨D,hD,rfl⟩:=cT.1 hC;obtain⟨q,hq,rfl⟩:=aX.1 hp;obtain⟨i,hi⟩:=br hq;obtain⟨h1,x,hx,h2⟩:=wU hD hi;refine⟨?_,L.idxOf (x:Int),?_,ahX mO ?_ h2⟩
 ·show 2<=(q.src.map _).length
  rw[aG];exact h1
 ·show fL L q.dst=_
  rw[hx]
  rfl
 ·rw[<-hx]
  exact mO D (aA hD) _ (.inl (BJ hq))
end
section
open Go Go.RowKit
attribute [local irreducible] wpListIn Code.wpIn Exit.then Exit.inBlock bodyPost wpQuiet wpAnyIn wpAnyH bodyPostM gX
set_option maxHeartbeats 4000000
theorem ahq(u:a7)(g fs:Value)(w0:World)(hg:aM w0 g 3 u.globals fE)(hf:aM w0 fs 4 u.funcs gg)(je:bG w0 0 0 mI):
  fi Tryz.prog 4 [.agg #[g,fs]] w0 (.bool true):=by
 classical
 have zt:=hg;have vE:=hf;obtain⟨ga,gn,gc,gb,go,rfl,NA,_⟩:=hg;obtain⟨fa,fn,fc,fb,fo,rfl,oY,O2,O1,Xg,uN,uO⟩:=hf;refine aQ Tryz.func4 rfl Tryz.ntmps4 rfl (Wd.nil dh w0) ?_
 repeat(first|refine aU ?_|refine dX λ_ _=>?_)
 rename_i p1 _;refine cV (val:=λb:Bool=>.bool b) (E:=λ_=>[]) (φ:=λb=>b=false->Uu u) rfl (λw hw=>OX u _ _ w (vE.cu dk hw.cE) ⟨_,_,_,rfl⟩) λb hb=>?_;simp only[aT];cases b
 case true=>
  refine aI ?_;exact bQ rfl rfl
 have pG:=hb rfl;have hl:=pG.mC;refine aO ?_
 by_cases zp:(dr u).1≠0
 ·refine bI rfl (λw hw=>Rv u hl zp _ _ w (zt.cu dv hw.cE) (vE.cu dk hw.cE) (je.cu hw.cE)) ?_
  repeat(first|refine aI ?_|refine dX λ_ _=>?_)
  refine aN (λh1=>?_) (λh1=>?_)
  ·refine aU ?_
   refine bI rfl (λw hw=>KI w) ?_;refine aI ?_;exact bQ rfl rfl
  ·exact absurd h1 (by simp[zp])
 have Td:(dr u).1=0:=by simpa using zp
 have hu:Whole u:=⟨fz.1 Td,KJ vE,FX zt⟩;rcases Qe u zF with⟨i,X,hF⟩|qu
 ·refine bI rfl (λw hw=>Rw u hl hu i X hF _ _ w (zt.cu dv hw.cE) (vE.cu dk hw.cE) (je.cu hw.cE)) ?_
  repeat(first|refine aI ?_|refine dX λ_ _=>?_)
  refine bI rfl (λw hw=>KI w) ?_;refine aI ?_;exact bQ rfl rfl
 have PK:=(Du hu qu).1;have Vz:=(Du hu qu).2;have Kd:=yQ PK.ok;have adr:(yk u).funcs.length=u.funcs.length:=by unfold yk;rw[aG]
 refine cV (val:=(λx:(Option Addr×Nat)×(Option Addr×Nat)×(Nat->Prop)=>Value.tuple #[.agg #[.slice x.1.1 gn x.1.2,.slice x.2.1.1 fn x.2.1.2],.agg #[.int .i64 0,.int .i64 0]])) (E:=(λx:(Option Addr×Nat)×(Option Addr×Nat)×(Nat->Prop)=>[K8 (yk u) (.slice x.1.1 gn x.1.2) (.slice x.2.1.1 fn x.2.1.2) x.2.2])) (φ:=λ_=>True) rfl (λw hw=>by rw[NA,oY];exact Uw u hl hu qu _ _ w (by rw[<-NA];exact zt.cu dv hw.cE) (by rw[<-oY];exact vE.cu dk hw.cE) (je.cu hw.cE)) λx _=>?_;obtain⟨⟨ya,yc⟩,⟨za,zc⟩,fp⟩:=x;simp only[a6,aT]
 repeat(first|refine aI ?_|refine dX λ_ _=>?_)
 rename_i p3 _ p4 _;have aeU:0<u.funcs.length:=by
  have h1:=hu.ok.main;cases xV:u.funcs with
  |nil=>rw[xV]at h1;exact absurd h1 (by decide)
  |cons _ _=>simp
 refine bI rfl (λw hw=>QE _ _ (yk u) w (hw.get (k:=2) rfl).1 (hw.get (k:=2) rfl).2) ?_;rw[show(decide ((yk u).globals.length=0)&&decide ((yk u).funcs.length=0))=false by rw[adr,decide_eq_false (show¬u.funcs.length=0 by omega),Bool.and_false]];refine aO ?_;refine q7 [3,1,2] (by decide) ?_;refine fg (H1:=[aj p1 [.slice ga gn gc,.slice fa fn fc] 25,aj p3 [.slice ya gn yc,.slice za fn zc] 25]++[K8 (yk u) (.slice ya gn yc) (.slice za fn zc) fp]) rfl ?_;refine nQ λw1 mz=>?_;have PL:aM (bX (cF [aj p1 [.slice ga gn gc,.slice fa fn fc] 25,aj p3 [.slice ya gn yc,.slice za fn zc] 25]) w1) (.slice ya gn yc) 3 u.globals fE/\aM (bX (cF [aj p1 [.slice ga gn gc,.slice fa fn fc] 25,aj p3 [.slice ya gn yc,.slice za fn zc] 25]) w1) (.slice za fn zc) 4 (yk u).funcs gg:=mz.beside (e:=K8 (yk u) (.slice ya gn yc) (.slice za fn zc) fp) aH;have x6:∀{E:List bN} {w:World},Wd (cF [aj p1 [.slice ga gn gc,.slice fa fn fc] 25,aj p3 [.slice ya gn yc,.slice za fn zc] 25]) (bX (cF [aj p1 [.slice ga gn gc,.slice fa fn fc] 25,aj p3 [.slice ya gn yc,.slice za fn zc] 25]) w1) E w->∀p v,(bX (cF [aj p1 [.slice ga gn gc,.slice fa fn fc] 25,aj p3 [.slice ya gn yc,.slice za fn zc] 25]) w1).cell? p=some v->w.cell? p=some v:=λhw=>hw.pH;have hold:∀{b o:Nat} {v:Value} {l:List Value},bG (bX (cF [aj p1 [.slice ga gn gc,.slice fa fn fc] 25,aj p3 [.slice ya gn yc,.slice za fn zc] 25]) w1) b o (v::l)->eI (cF [aj p1 [.slice ga gn gc,.slice fa fn fc] 25,aj p3 [.slice ya gn yc,.slice za fn zc] 25]) b:=λhc=>iu hc aH;have back:∀{E:List bN} {w:World},Wd (cF [aj p1 [.slice ga gn gc,.slice fa fn fc] 25,aj p3 [.slice ya gn yc,.slice za fn zc] 25]) (bX (cF [aj p1 [.slice ga gn gc,.slice fa fn fc] 25,aj p3 [.slice ya gn yc,.slice za fn zc] 25]) w1) E w->Wd dh w0 (E++[K8 (yk u) (.slice ya gn yc) (.slice za fn zc) fp]) w:=λhw=>mz.comp hw.mG;have x3:=vE.cu dk mz.TR;generalize bX (cF [aj p1 [.slice ga gn gc,.slice fa fn fc] 25,aj p3 [.slice ya gn yc,.slice za fn zc] 25]) w1=wk at*;generalize cF [aj p1 [.slice ga gn gc,.slice fa fn fc] 25,aj p3 [.slice ya gn yc,.slice za fn zc] 25]=SS at*;obtain⟨hug,huf⟩:=PL;have eH:u.funcs≠[]:=λe=>by rw[e]at aeU;simp at aeU
 have ag6:(yk u).funcs≠[]:=λe=>by rw[e]at adr;simp at adr;omega
 obtain⟨b1,o1,LR,C8,zq⟩:=f_ x3 hold (λ_ _ h=>by obtain⟨_,e,_⟩:=h;exact⟨_,_,e⟩) eH;obtain⟨b2,o2,uL,tl,Cn⟩:=f_ huf hold (λ_ _ h=>by obtain⟨_,e,_⟩:=h;exact⟨_,_,e⟩) ag6;have IN:∀{v:Value} {w:World} {E:List bN},v=.bool true->Wd SS wk E w->v=.bool true/\lL dh w0 w:=λhv hw=>⟨hv,(back hw).cE⟩;refine bP (λ(i:Nat)=>i<=fn/\∀(j:Nat) X,j<i->u.funcs[j]?=some X->NoP X.blocks) (λi=>[(5,.int .i64 i),(1,.pointer (some ⟨p1,0,none⟩)),(3,.pointer (some ⟨p3,0,none⟩))]) (λ_=>[aj p1 [.slice ga gn gc,.slice fa fn fc] 25,aj p3 [.slice ya gn yc,.slice za fn zc] 25]) (λi=>fn-i) 0 ⟨aY _,by simp⟩ (aV aw ag2) λi ⟨hi,cP⟩=>?_;refine aU ?_;refine aN (λh1=>?_) (λh1=>?_)
 ·have bT:i<fn:=by simpa using h1
  obtain⟨X,hX⟩:∃X,u.funcs[i]?=some X:=⟨_,aB ag⟩;obtain⟨_,L2,bv1,rfl,_,_,rl⟩:=zq i X hX;have ag4:=rl;have hXl:=(hl.2 X (aA hX)).1;have hXp:0<X.blocks.length:=LC Td hX;obtain⟨a1,n1,c1,_,_,rfl,hn1,_⟩:=id rl;have pC:X.blocks≠[]:=λe=>by rw[e]at hXp;simp at hXp
  obtain⟨b3,o3,Ta,AU,OY⟩:=f_ rl hold (λ_ _ h=>by obtain⟨_,_,_,e,_⟩:=h;exact⟨_,_,e⟩) pC;have mW:bZ i fn:=⟨bT⟩;refine aO ?_;refine bP (λ(j:Nat)=>j<=n1/\∀(b:Nat) B,b<j->X.blocks[b]?=some B->B.aL=[]) (λj=>[(6,.int .i64 j),(5,.int .i64 i),(1,.pointer (some ⟨p1,0,none⟩)),(3,.pointer (some ⟨p3,0,none⟩))]) (λ_=>[aj p1 [.slice ga gn gc,.slice fa fn fc] 25,aj p3 [.slice ya gn yc,.slice za fn zc] 25]) (λj=>n1-j) 0 ⟨aY _,by simp⟩ (aV aw ag2) λj ⟨hj,ul⟩=>?_;refine aU ?_;refine aN (λh2=>?_) (λh2=>?_)
  ·have Tm:j<n1:=by simpa using h2
   obtain⟨B,hB⟩:∃B,X.blocks[j]?=some B:=⟨_,aB ag⟩;obtain⟨_,OQ,pv,lv,tv,rfl,_,_,Cs,Pe,ht⟩:=OY j B hB;obtain⟨pa,pn,pc,_,_,rfl,Gr,_⟩:=id Cs;have IH:bZ j n1:=⟨Tm⟩;refine aO ?_
   by_cases hp:0<pn
   ·rw[show decide ((0:Int)<(pn:Int))=true by simp;omega]
    refine aI ?_;exact cA rfl λw hw=>IN rfl hw
   rw[show decide ((0:Int)<(pn:Int))=false by simp;omega];refine aO ?_;refine bC (j+1) ⟨Tm,λb C hb hC=>?_⟩ ag aw ag2
   by_cases e:b=j
   ·subst e
    rw[hB]at hC;obtain rfl:=be hC;exact kN ag
   ·exact ul b C ag hC
  ·have gT:n1=j:=by have:=of_decide_eq_false h2;omega
   refine aI ?_;refine bC (i+1) ⟨bT,λj' Y Pb hY=>?_⟩ ag aw ag2
   by_cases e:j'=i
   ·subst e
    rw[hX]at hY;obtain rfl:=be hY;intro B Ir;obtain⟨b,hb⟩:=br Ir;exact ul b B (by have:=(aC.1 hb).1;omega) hb
   ·exact cP j' Y ag hY
 have gT:fn=i:=by have:=of_decide_eq_false h1;omega
 have ag7:∀(k:Nat) X,u.funcs[k]?=some X->∀(b:Nat) C,(zF X).blocks[b]?=some C->∀p∈C.aL,2<=p.src.length/\∃x:Nat,p.dst=x/\gM (zF X).blocks x b 0:=λk X hX b C hC p hp=>ahM hu qu hX (cP k X (by have:=(aC.1 hX).1;omega) hX) hC hp;clear cP;refine aI ?_;refine bP (λ(i:Nat)=>i<=fn) (λi=>[(7,.int .i64 i),(1,.pointer (some ⟨p1,0,none⟩)),(3,.pointer (some ⟨p3,0,none⟩))]) (λ_=>[aj p1 [.slice ga gn gc,.slice fa fn fc] 25,aj p3 [.slice ya gn yc,.slice za fn zc] 25]) (λi=>fn-i) 0 (aY _) (aV aw ag2) λi hi=>?_;refine aU ?_;refine aN (λh1=>?_) (λh1=>?_)
 ·have bT:i<fn:=by simpa using h1
  obtain⟨X,hX⟩:∃X,u.funcs[i]?=some X:=⟨_,aB ag⟩;have hY:(yk u).funcs[i]?=some (zF X):=by unfold yk;simp only[aK,hX,bz]
  have hnY:=ag7 i X hX;have hYp:0<(zF X).blocks.length:=LC (fz.2 PK.ok) hY;have Vc:=Kd.2 (zF X) (aA hY);have aie:=HZ (fz.2 PK.ok) hY;have hYn:=Vc.1;obtain⟨RY,hAY⟩:=yU PK.ok hY;generalize zF X=Y at*;obtain⟨_,L2,bv1,rfl,_,_,rl⟩:=Cn i Y hY;have ag4:=rl;obtain⟨a1,n1,c1,_,_,rfl,hn1,_⟩:=id rl;have pC:Y.blocks≠[]:=λe=>by rw[e]at hYp;simp at hYp
  obtain⟨b3,o3,Ta,AU,OY⟩:=f_ rl hold (λ_ _ h=>by obtain⟨_,_,_,e,_⟩:=h;exact⟨_,_,e⟩) pC;have mW:bZ i fn:=⟨bT⟩;refine aO ?_;refine bP (λ(j:Nat)=>j<=n1) (λj=>[(8,.int .i64 j),(7,.int .i64 i),(1,.pointer (some ⟨p1,0,none⟩)),(3,.pointer (some ⟨p3,0,none⟩))]) (λ_=>[aj p1 [.slice ga gn gc,.slice fa fn fc] 25,aj p3 [.slice ya gn yc,.slice za fn zc] 25]) (λj=>n1-j) 0 (aY _) (aV aw ag2) λj hj=>?_;refine aU ?_;refine aN (λh2=>?_) (λh2=>?_)
  ·have Tm:j<n1:=by simpa using h2
   obtain⟨B,hB⟩:∃B,Y.blocks[j]?=some B:=⟨_,aB ag⟩;obtain⟨_,OQ,pv,lv,tv,rfl,_,_,Cs,Pe,ht⟩:=OY j B hB;obtain⟨pa,pn,pc,_,_,rfl,Gr,_⟩:=id Cs;have IH:bZ j n1:=⟨Tm⟩;refine aO ?_;refine bP (λ(d:Nat)=>d<=pn) (λd=>[(10,.int .i64 d),(9,.slice pa pn pc),(8,.int .i64 j),(7,.int .i64 i),(1,.pointer (some ⟨p1,0,none⟩)),(3,.pointer (some ⟨p3,0,none⟩))]) (λ_=>[aj p1 [.slice ga gn gc,.slice fa fn fc] 25,aj p3 [.slice ya gn yc,.slice za fn zc] 25]) (λd=>pn-d) 0 (aY _) (aV aw ag2) λd hd=>?_;refine aU ?_;refine aN (λh3=>?_) (λh3=>?_)
   ·have aic:d<pn:=by simpa using h3
    obtain⟨p,hp⟩:∃p,B.aL[d]?=some p:=⟨_,aB ag⟩;have ail:B.aL≠[]:=λe=>by rw[e]at hp;cases hp
    obtain⟨b4,o4,afi,y6,aij⟩:=f_ Cs hold (λ_ _ h=>by obtain⟨_,e,_⟩:=h;exact⟨_,_,e⟩) ail;obtain⟨_,afA,av,rfl,_,B9⟩:=aij d p hp;obtain⟨aa,an,ac,_,_,rfl,EY,_⟩:=id B9;have hld:bZ d pn:=⟨aic⟩;obtain⟨h2s,r,hr,Tn⟩:=hnY j B hB p (aA hp);refine aO ?_;refine kE mixed aP ?_;refine j9 ?_;rw[show decide ((an:Int)<2)=false by simp;omega];refine j9 ?_;rw[hr];refine tK rfl (λw hw=>ah7 _ _ _ Y.blocks _ ⟨_,_,_,rfl⟩ r (j,(0:Int)) w (ag4.le Jc (x6 hw)) ag RY hAY.ok (λC hC=>(TU Vc C hC).1) aie ⟨ag,B,hB,ag⟩) ?_;rw[decide_eq_true Tn];refine j9 ?_;refine aO ?_;exact bC (d+1) aic ag aw ag2
   ·refine aI ?_
    exact bC (j+1) Tm ag aw ag2
  ·refine aI ?_
   exact bC (i+1) bT ag aw ag2
 ·refine aI ?_
  exact cA rfl λw hw=>IN rfl hw
end
end Go.Proofs.YthfhgolkafpmnaaGreatDoor
