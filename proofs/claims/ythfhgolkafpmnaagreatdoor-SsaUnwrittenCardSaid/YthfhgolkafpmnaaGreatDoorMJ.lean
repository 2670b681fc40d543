/- Texts joined: OneE OneF OneG OneV OneH OneW OneX OneJ OneK OneL OneM DoorF RangeO Backs Pair BacksB PostC BackL DomD DomE Table Tame. -/
import Derived.ChangeKeysEq
import Derived.Test.YthfhgolkafpmnaaGreatDoorGB
import Derived.Test.YthfhgolkafpmnaaGreatDoorGD
import Derived.Test.YthfhgolkafpmnaaGreatDoorGF
import Derived.Test.YthfhgolkafpmnaaGreatDoorGG
import Derived.Test.YthfhgolkafpmnaaGreatDoorGH
import Derived.Test.YthfhgolkafpmnaaGreatDoorGM
import Derived.Test.YthfhgolkafpmnaaGreatDoorHD
import Derived.Test.YthfhgolkafpmnaaGreatDoorHF
import Derived.Test.YthfhgolkafpmnaaGreatDoorHN
import Derived.Test.YthfhgolkafpmnaaGreatDoorIN
import Derived.Test.YthfhgolkafpmnaaGreatDoorKB
import Derived.Test.YthfhgolkafpmnaaGreatDoorMA
import Derived.Test.YthfhgolkafpmnaaGreatDoorMC
import Derived.Test.YthfhgolkafpmnaaGreatDoorMH
namespace Go.Proofs.YthfhgolkafpmnaaGreatDoor
section
open Go Go.RowKit
attribute [local irreducible] wpListIn Code.wpIn Exit.then Exit.inBlock bodyPost wpQuiet wpAnyIn wpAnyH bodyPostM gX
set_option maxHeartbeats 8000000
theorem M4(r:Nat)(f:Int->cm):dW (r+1) f=dW r f++[f r]:=by
 unfold dW;rw[kA,bB]
 rfl
theorem Ng(X:aZ)(R:Nat)(hX:kw X R)(hT:wx X R)(AQ:qE X.blocks)(hlen:X.blocks.length<=40)(vg:dV X.blocks<=300)(qJ:c9 X.params)(R2:Nat)(hP:rN (lZ X) R2)(fs:List aZ)(hB:qD fs (lZ X))(h0:(a8 (lZ X).blocks 0).aL=[])(w0:World):CM w0 25 [] [] zF X:=by
 classical
 obtain⟨g1,g2,g3⟩:=No hX hT;obtain⟨xn,xp,xr,xb⟩:=X;simp only at hlen vg AQ g1 g2;intro a c bs wb mU sI Td Eh hw;simp only at mU;subst mU;rw[aG]at hlen g1;simp only[aT,cq,a6];refine aQ Tryz.func25 rfl Tryz.ntmps25 rfl hw ?_;obtain⟨SS,C4⟩:∃SS,SS=cF (ff a c bs):=⟨_,rfl⟩;rw[<-C4]
 repeat(first|refine aU ?_|refine dX λ_ _=>?_)
 rename_i p1 _ p2 _;obtain⟨Y,hY⟩:∃Y,Y=lZ ⟨xn,xp,xr,bs.map aR.eo⟩:=⟨_,rfl⟩;have acF:zF ⟨xn,xp,xr,bs.map aR.eo⟩=gR (iP Y):=by unfold zF;rw[<-hY]
 rw[acF];rw[<-hY]at hP hB h0 g1 g2;have Vc:Y.blocks.length<=40:=ag;have hYm:dV Y.blocks<=300:=ag;obtain⟨hg,dS,jq,aal⟩:=jA hP.all;have hI:=acj hP hB Vc hYm;have acY:=Uv hP hB h0 Vc hYm;have hM:=yu hP Vc hYm;have hYr:=hP.all.aF;have afh:=hP.all.par;have afg:=hP.all.le;refine bj (H1:=ff a c bs++[aj p2 [.string aE,.int .i64 0,.int .i64 0,.slice none 0 0] 35,aj p1 [.string xn,.int .i64 xp,.int .i64 xr,.slice a bs.length c] 35]) (dH (l₁:=[_,_])) ?_;refine fH (val:=λx:Option Addr×Nat×List aR=>.agg #[.string Y.name,.int .i64 Y.params,.int .i64 Y.aF,.slice x.1 x.2.2.length x.2.1]) (E:=λx=>ff x.1 x.2.1 x.2.2) (φ:=λx=>x.2.2.map aR.eo=Y.blocks/\(∀b∈x.2.2,b.Bd)/\x.2.2.length<=1000/\c9 Y.params/\c9 Y.aF) rfl (λw hw=>?_) λz hz=>?_
 ·have h9:=Wj ⟨xn,xp,xr,bs.map aR.eo⟩ R hX hT AQ (by simp only[aG];omega) (by simp only;omega) qJ {w with heap:=#[]} a c bs w rfl sI ⟨rfl,rfl,rfl,aY _,λk hk=>absurd hk (Nat.not_lt_zero k)⟩ (λ_ _=>aY _) hw.pre
  rw[<-hY]at h9;exact h9
 obtain⟨ta,tc,ts⟩:=z;obtain⟨Mi,VL,_⟩:=hz;simp only at Mi VL⊢
 skip
 refine fH (val:=λx:Option Addr×Nat×List aR=>.agg #[.string Y.name,.int .i64 Y.params,.int .i64 Y.aF,.slice x.1 x.2.2.length x.2.1]) (E:=λx=>ff x.1 x.2.1 x.2.2) (φ:=λx=>x.2.2.map aR.eo=fJ Y/\(∀b∈x.2.2,b.Bd)) rfl (λw hw=>?_) λz hz=>?_
 ·have h9:=JF Y R2 hP.all ag ag {w with heap:=#[]} ta tc ts w Mi VL ⟨rfl,rfl,rfl,aY _,λk hk=>absurd hk (Nat.not_lt_zero k)⟩ (λ_ _=>aY _) hw.pre
  exact h9.mono λu w' ⟨x,e1,e2,e3,e4,_⟩=>⟨x,e1,e2,e3,e4⟩
 obtain⟨ya,yc,ys⟩:=z;obtain⟨R_,um⟩:=hz;simp only at R_ um⊢;obtain⟨bl,iR⟩:∃bl,bl=fJ Y:=⟨_,rfl⟩;obtain⟨P,hPn⟩:∃P,P=Y.params.toNat:=⟨_,rfl⟩;have hYp:Y.params=(P:Int):=ag;rw[<-iR]at hg dS aal R_ hI;rw[<-hPn]at hI;obtain⟨n,hn⟩:∃n,n=bl.length:=⟨_,rfl⟩;have IR:ys.length=n:=by
  have h3:=congrArg List.length R_;rw[aG]at h3;omega
 rw[IR,hYp,hYr];refine fg (H1:=ai ya ys.length yc 46 6 (ys.flatMap bg)::(ys.map b_++[aj p2 [.string aE,.int .i64 0,.int .i64 0,.slice none 0 0] 35,aj p1 [.string xn,.int .i64 xp,.int .i64 xr,.slice a bs.length c] 35])) rfl ?_;refine eW 0 rfl ag λvb vo nz=>?_;subst nz;refine bj (H1:=aj p1 [.string xn,.int .i64 xp,.int .i64 xr,.slice a bs.length c] 35::aj p2 [.string aE,.int .i64 0,.int .i64 0,.slice none 0 0] 35::ff (some ⟨vb,vo,none⟩) yc ys) (aJ.2 λe=>by unfold ff;simp only[bu,bi,cd];omega) ?_;refine aI ?_;have rh:∀{H:List bN} {w:World},Wd SS wb H w->(ff (some ⟨vb,vo,none⟩) yc ys).Sublist H->aM w (.slice (some ⟨vb,vo,none⟩) n yc) 6 bl ed:=λ{H w} hw hs=>by
  rw[<-R_,<-IR];refine Wd.blocks (H:=[]) (hw.sub ?_) ag um;rw[cq];exact hs
 have oh:∀(b:Nat) B,bl[b]?=some B->B.to.Nodup:=λb B hB=>(hI.ok.block b B hB).to;refine dR [aj p1 [.string Y.name,.int .i64 (P:Int),.int .i64 (R2:Int),.slice (some ⟨vb,vo,none⟩) n yc] 35] (λx:((Option Addr×Nat×Nat)×(Nat->Prop))×Nat×Nat=>True) (λx=>[(3,.pointer (some ⟨x.2.2,0,none⟩)),(1,.pointer (some ⟨p1,0,none⟩)),(2,.pointer (some ⟨p2,0,none⟩))])
  (λx=>aj x.2.2 [.pointer (some ⟨p1,0,none⟩),.slice x.1.1.1 x.1.1.2.1 x.1.1.2.2,.slice (some ⟨x.2.1,0,none⟩) n n,.int .i64 (P:Int)] 102::ai (some ⟨x.2.1,0,none⟩) n n 42 1 (List.replicate n (.slice none 0 0))::⟨x.1.2,λw=>aM w (.slice x.1.1.1 x.1.1.2.1 x.1.1.2.2) 1 (bm bl) cS⟩::aj p1 [.string Y.name,.int .i64 (P:Int),.int .i64 (R2:Int),.slice (some ⟨vb,vo,none⟩) n yc] 35::aj p2 [.string aE,.int .i64 0,.int .i64 0,.slice none 0 0] 35::ff (some ⟨vb,vo,none⟩) yc ys) mixed (dn ou) ?_ λx _=>?_
 ·skip
  refine az 0 rfl aq ap ?_;refine az 2 rfl aq ap ?_;refine az 3 rfl aq ap ?_;refine az 4 rfl aq ap ?_;refine az 6 rfl aq ap ?_;refine az 7 rfl aq ap ?_;refine kG 1 5 aq ?_ ?_
  ·skip
   (refine lJ 1 (val:=λx:(Option Addr×Nat×Nat)×(Nat->Prop)=>.slice x.1.1 x.1.2.1 x.1.2.2) (E:=λx=>[⟨x.2,λw=>aM w (.slice x.1.1 x.1.2.1 x.1.2.2) 1 (bm bl) cS⟩]) (φ:=λ_=>True) rfl ap (λw hw=>fO _ _ _ bl _ w (rh hw ap) ag hg) λy _=>?_;obtain⟨⟨aa,an,ac⟩,af⟩:=y;simp only[a6,aT])
   refine ck 5 aq ?_;refine EI 5 rfl ag ag ap λkb _=>?_;refine bj (H1:=ai (some ⟨kb,0,none⟩) n n 42 1 (List.replicate n (.slice none 0 0))::⟨af,λw=>aM w (.slice aa an ac) 1 (bm bl) cS⟩::aj p1 [.string Y.name,.int .i64 (P:Int),.int .i64 (R2:Int),.slice (some ⟨vb,vo,none⟩) n yc] 35::aj p2 [.string aE,.int .i64 0,.int .i64 0,.slice none 0 0] 35::ff (some ⟨vb,vo,none⟩) yc ys) (aJ.2 λe=>by simp only[bi]<;>omega) ?_;refine az 8 rfl aq ap ?_;refine ck 9 aq (QJ 9 rfl ap λq _=>?_);refine az 10 rfl aq ap ?_;refine eF aq ?_;exact dN (((aa,an,ac),af),kb,q) trivial aw ag2
  ·skip
   refine EI 5 rfl ag ag ap λkb _=>?_;refine ck 1 aq ?_
   (refine lJ 1 (val:=λx:(Option Addr×Nat×Nat)×(Nat->Prop)=>.slice x.1.1 x.1.2.1 x.1.2.2) (E:=λx=>[⟨x.2,λw=>aM w (.slice x.1.1 x.1.2.1 x.1.2.2) 1 (bm bl) cS⟩]) (φ:=λ_=>True) rfl ap (λw hw=>fO _ _ _ bl _ w (rh hw ap) ag hg) λy _=>?_;obtain⟨⟨aa,an,ac⟩,af⟩:=y;simp only[a6,aT])
   refine bj (H1:=ai (some ⟨kb,0,none⟩) n n 42 1 (List.replicate n (.slice none 0 0))::⟨af,λw=>aM w (.slice aa an ac) 1 (bm bl) cS⟩::aj p1 [.string Y.name,.int .i64 (P:Int),.int .i64 (R2:Int),.slice (some ⟨vb,vo,none⟩) n yc] 35::aj p2 [.string aE,.int .i64 0,.int .i64 0,.slice none 0 0] 35::ff (some ⟨vb,vo,none⟩) yc ys) (aJ.2 λe=>by simp only[bi]<;>omega) ?_;refine az 8 rfl aq ap ?_;refine ck 9 aq (QJ 9 rfl ap λq _=>?_);refine az 10 rfl aq ap ?_;refine eF aq ?_;exact dN (((aa,an,ac),af),kb,q) trivial aw ag2
 obtain⟨⟨⟨aa,an,ac⟩,af⟩,kb,q⟩:=x;simp only;refine kS 3 1 n ?_;rw[show(List.replicate n (Value.slice none 0 0))=(List.replicate n (⟨none,0,[]⟩:Row)).map eO by simp[eO],show(List.replicate n (ai none 0 0 3 1 []))=(List.replicate n (⟨none,0,[]⟩:Row)).map gy by simp[gy]];refine bj (H1:=aj q [.pointer (some ⟨p1,0,none⟩),.slice aa an ac,.slice (some ⟨kb,0,none⟩) n n,.int .i64 (P:Int)] 102::ai (some ⟨kb,0,none⟩) n n 42 1 ((List.replicate n (⟨none,0,[]⟩:Row)).map eO)::(⟨af,λw=>aM w (.slice aa an ac) 1 (bm bl) cS⟩:bN)::aj p1 [.string Y.name,.int .i64 (P:Int),.int .i64 (R2:Int),.slice (some ⟨vb,vo,none⟩) n yc] 35::aj p2 [.string aE,.int .i64 0,.int .i64 0,.slice none 0 0] 35::(ff (some ⟨vb,vo,none⟩) yc ys++(List.replicate n (⟨none,0,[]⟩:Row)).map gy)) (aJ.2 λe=>by simp only[bu,bi];omega) ?_;refine aU ?_;refine cV (val:=λa:Nat=>.slice (some ⟨a,0,none⟩) bl.length bl.length) (E:=λa=>[ai (some ⟨a,0,none⟩) bl.length bl.length 3 1 (((List.range bl.length).map (cR bl)).map (.int .i64))]) (φ:=λ_=>True) rfl (λw hw=>Hv _ _ _ bl _ ⟨_,_,_,rfl⟩ w (rh hw (.cons _ (.cons _ (.cons _ (.cons _ (.cons _ (dY _ _))))))) ag hg oh dS) λtb _=>?_;simp only[a6,aT];rw[<-hn];refine aO ?_;have aeY:n<=100:=ag;refine bP (λx:Nat×List Row=>x.1<=n/\x.2.map (·.l)=tw bl x.1/\∀r∈x.2,r.l.length<=x.1/\∀y∈r.l,c9 y) (λx=>[(25,.int .i64 x.1),(23,.slice (some ⟨tb,0,none⟩) n n),(24,.int .i64 n),(3,.pointer (some ⟨q,0,none⟩)),(1,.pointer (some ⟨p1,0,none⟩)),(2,.pointer (some ⟨p2,0,none⟩))]) (λx=>aj q [.pointer (some ⟨p1,0,none⟩),.slice aa an ac,.slice (some ⟨kb,0,none⟩) n n,.int .i64 (P:Int)] 102::ai (some ⟨kb,0,none⟩) n n 42 1 (x.2.map eO)::ai (some ⟨tb,0,none⟩) n n 3 1 (((List.range n).map (cR bl)).map (.int .i64))::aj p1 [.string Y.name,.int .i64 (P:Int),.int .i64 (R2:Int),.slice (some ⟨vb,vo,none⟩) n yc] 35::aj p2 [.string aE,.int .i64 0,.int .i64 0,.slice none 0 0] 35::(x.2.map gy++((⟨af,λw=>aM w (.slice aa an ac) 1 (bm bl) cS⟩:bN)::ff (some ⟨vb,vo,none⟩) yc ys))) (λx=>n-x.1) (0,List.replicate n ⟨none,0,[]⟩)
  ⟨aY _,by simp only;rw[I0,<-hn];simp,by simp⟩ (bj (aJ.2 λe=>by simp only[bu,bi];omega) (aV aw ag2)) λx ⟨hi,Db,En⟩=>?_
 obtain⟨i,rs⟩:=x;simp only at hi Db En⊢;have qd:rs.length=n:=by
  have h3:=congrArg List.length Db;rw[aG]at h3;unfold tw at h3;rw[aG,fG]at h3;omega
 refine aU ?_;refine aN (λh1=>?_) (λh1=>?_)
 ·have iQ:i<n:=by simpa using h1
  have mW:bZ i n:=⟨iQ⟩;have adk:oJ ((List.range n).map (cR bl)) i (cR bl i):=⟨by rw[aK,eQ iQ];rfl⟩;refine aO ?_;refine aN (λh2=>?_) (λh2=>?_)
  ·have vB:0<=cR bl i:=by simpa using h2
   obtain⟨t,ht⟩:∃t:Nat,cR bl i=t:=⟨(cR bl i).toNat,ag⟩;have hid:jX bl t i:=by
    refine mA (b:=t) (c:=i) ?_;unfold mB;rw[cI,decide_eq_true_eq];exact⟨cQ.2 ag,ht⟩
   have sN:t<n:=by rw[hn];exact hg.BC dS hid.BC
   have bT:bZ t n:=⟨sN⟩;obtain⟨r,hr⟩:∃r,rs[t]?=some r:=⟨_,aB ag⟩;obtain⟨agH,aeg⟩:=En r (aA hr);rw[ht]
   skip
   have Kv:NX (rs.map eO) (t*1) (.slice r.a r.l.length r.c):=⟨by simp[hr,eO]⟩;refine dR [aj q [.pointer (some ⟨p1,0,none⟩),.slice aa an ac,.slice (some ⟨kb,0,none⟩) n n,.int .i64 (P:Int)] 102] (λ_:Option Addr×Nat=>True) (λ_=>[(25,.int .i64 i),(23,.slice (some ⟨tb,0,none⟩) n n),(24,.int .i64 n),(3,.pointer (some ⟨q,0,none⟩)),(1,.pointer (some ⟨p1,0,none⟩)),(2,.pointer (some ⟨p2,0,none⟩))]) (λy=>aj q [.pointer (some ⟨p1,0,none⟩),.slice aa an ac,.slice (some ⟨kb,0,none⟩) n n,.int .i64 (P:Int)] 102::ai (some ⟨kb,0,none⟩) n n 42 1 ((rs.set t ⟨y.1,y.2,r.l++[(i:Int)]⟩).map eO)::ai (some ⟨tb,0,none⟩) n n 3 1 (((List.range n).map (cR bl)).map (.int .i64))::aj p1 [.string Y.name,.int .i64 (P:Int),.int .i64 (R2:Int),.slice (some ⟨vb,vo,none⟩) n yc] 35::aj p2 [.string aE,.int .i64 0,.int .i64 0,.slice none 0 0] 35::((rs.set t ⟨y.1,y.2,r.l++[(i:Int)]⟩).map gy++((⟨af,λw=>aM w (.slice aa an ac) 1 (bm bl) cS⟩:bN)::ff (some ⟨vb,vo,none⟩) yc ys))) mixed ap ?_ λy _=>?_
   ·skip
    refine az 0 rfl aq ap ?_;refine az 1 rfl aq ap ?_;refine az 2 rfl aq ap ?_;refine az 3 rfl aq ap ?_;refine az 4 rfl aq ap ?_;refine az 5 rfl aq ap ?_;refine az 6 rfl aq ap ?_;refine az 7 rfl aq ap ?_;refine az 8 rfl aq ap ?_;refine az 9 rfl aq ap ?_;refine az 10 rfl aq ap ?_;refine az 12 rfl aq ap ?_;refine kG 11 13 aq ?_ ?_
    ·skip
     refine eY 11 rfl ap ?_;refine ck 13 aq ?_;refine ji 13 rfl aq ap λbt _=>?_;have Gf:∀(A0 A1 A2 A3 A4 A5:bN) (Z:List bN) (e':bN),(A0::A1::A2::A3::A4::A5::Z).set (t+6) e'=A0::A1::A2::A3::A4::A5::Z.set t e':=λ_ _ _ _ _ _ _ _=>rfl;refine j1 14 (t+6) (xs:=r.l.map (.int .i64)) (e:=3) (by
      show(rs.map gy++_)[t]?=_;rw[dG (by rw[aG];omega),aK,hr]
      rfl) rfl aq ag ag aq (λe'=>by rw[Gf];exact .cons _ (dn ou)) λa' c'=>?_
     refine fg (H1:=ai (some ⟨bt,0,none⟩) 1 1 3 1 [.int .i64 i]::aj q [.pointer (some ⟨p1,0,none⟩),.slice aa an ac,.slice (some ⟨kb,0,none⟩) n n,.int .i64 (P:Int)] 102::ai (some ⟨kb,0,none⟩) n n 42 1 (rs.map eO)::ai (some ⟨tb,0,none⟩) n n 3 1 (((List.range n).map (cR bl)).map (.int .i64))::aj p1 [.string Y.name,.int .i64 (P:Int),.int .i64 (R2:Int),.slice (some ⟨vb,vo,none⟩) n yc] 35::aj p2 [.string aE,.int .i64 0,.int .i64 0,.slice none 0 0] 35::((rs.set t ⟨a',c',r.l++[(i:Int)]⟩).map gy++((⟨af,λw=>aM w (.slice aa an ac) 1 (bm bl) cS⟩:bN)::ff (some ⟨vb,vo,none⟩) yc ys))) (by
      rw[Gf,List.set_append_left _ _ (by rw[aG];omega),eh];simp[gy]) ?_
     have mM:lN (rs.map eO) (t*1) (.slice a' (r.l.length+1) c') ((rs.set t ⟨a',c',r.l++[(i:Int)]⟩).map eO):=⟨by simp[eO,eh],by rw[aG];omega⟩;refine az 15 rfl aq ap ?_;refine ck 16 aq ?_;refine lB 16 ap ?_;refine eF aq ?_;exact dN (a',c') trivial aw ap
    ·skip
     refine ji 13 rfl aq ap λbt _=>?_;refine ck 11 aq ?_;refine eY 11 rfl ap ?_;have Gf:∀(A0 A1 A2 A3 A4 A5:bN) (Z:List bN) (e':bN),(A0::A1::A2::A3::A4::A5::Z).set (t+6) e'=A0::A1::A2::A3::A4::A5::Z.set t e':=λ_ _ _ _ _ _ _ _=>rfl;refine j1 14 (t+6) (xs:=r.l.map (.int .i64)) (e:=3) (by
      show(rs.map gy++_)[t]?=_;rw[dG (by rw[aG];omega),aK,hr]
      rfl) rfl aq ag ag aq (λe'=>by rw[Gf];exact .cons _ (dn ou)) λa' c'=>?_
     refine fg (H1:=ai (some ⟨bt,0,none⟩) 1 1 3 1 [.int .i64 i]::aj q [.pointer (some ⟨p1,0,none⟩),.slice aa an ac,.slice (some ⟨kb,0,none⟩) n n,.int .i64 (P:Int)] 102::ai (some ⟨kb,0,none⟩) n n 42 1 (rs.map eO)::ai (some ⟨tb,0,none⟩) n n 3 1 (((List.range n).map (cR bl)).map (.int .i64))::aj p1 [.string Y.name,.int .i64 (P:Int),.int .i64 (R2:Int),.slice (some ⟨vb,vo,none⟩) n yc] 35::aj p2 [.string aE,.int .i64 0,.int .i64 0,.slice none 0 0] 35::((rs.set t ⟨a',c',r.l++[(i:Int)]⟩).map gy++((⟨af,λw=>aM w (.slice aa an ac) 1 (bm bl) cS⟩:bN)::ff (some ⟨vb,vo,none⟩) yc ys))) (by
      rw[Gf,List.set_append_left _ _ (by rw[aG];omega),eh];simp[gy]) ?_
     have mM:lN (rs.map eO) (t*1) (.slice a' (r.l.length+1) c') ((rs.set t ⟨a',c',r.l++[(i:Int)]⟩).map eO):=⟨by simp[eO,eh],by rw[aG];omega⟩;refine az 15 rfl aq ap ?_;refine ck 16 aq ?_;refine lB 16 ap ?_;refine eF aq ?_;exact dN (a',c') trivial aw ap
   obtain⟨a',c'⟩:=y;simp only;refine aO ?_;refine bC (i+1,rs.set t ⟨a',c',r.l++[(i:Int)]⟩) ⟨iQ,?_,λr' AZ=>?_⟩ (by simp only;omega) aw ag2
   ·simp only
    rw[P_ ht,<-Db];exact pJ hr rfl
   ·rcases jM AZ with AZ|rfl
    ·have h3:=En r' AZ
     exact⟨by simp only;omega,h3.2⟩
    ·refine⟨by simp only[bR,jL];omega,λy hy=>?_⟩
     simp only at hy;rcases bL.1 hy with hy|hy
     ·exact aeg y hy
     ·rw[bU.1 hy];exact⟨ag,ag⟩
  ·have vB:cR bl i<0:=by have:=of_decide_eq_false h2;omega
   refine aO ?_;exact bC (i+1,rs) ⟨iQ,by rw[P9 vB];exact Db,λr hr=>⟨by have:=(En r hr).1;simp only;omega,(En r hr).2⟩⟩ (by simp only;omega) aw ag2
 obtain rfl:n=i:=by have:=of_decide_eq_false h1;omega
 rw[hn,Mx]at Db;refine aI ?_;obtain⟨e0,he0⟩:∃e0:Int->cm,e0=λr:Int=>if r<(P:Int)then⟨true,r⟩else gK:=⟨_,rfl⟩
 have L5:zM (qf bl P) bl P 0=e0:=by
  funext r
  unfold zM;rw[BV,if_pos (by decide),he0]
 refine fq 41 2 ?_;refine bP (λx:Nat×Option Addr×Nat=>x.1<=R2) (λx=>[(51,.int .i64 x.1),(50,.int .i64 (R2:Int)),(6,.slice x.2.1 x.1 x.2.2),(3,.pointer (some ⟨q,0,none⟩)),(1,.pointer (some ⟨p1,0,none⟩)),(2,.pointer (some ⟨p2,0,none⟩))]) (λx=>ai x.2.1 x.1 x.2.2 41 2 ((dW x.1 e0).flatMap df)::aj q [.pointer (some ⟨p1,0,none⟩),.slice aa an ac,.slice (some ⟨kb,0,none⟩) n n,.int .i64 (P:Int)] 102::ai (some ⟨kb,0,none⟩) n n 42 1 (rs.map eO)::ai (some ⟨tb,0,none⟩) n n 3 1 (((List.range n).map (cR bl)).map (.int .i64))::aj p1 [.string Y.name,.int .i64 (P:Int),.int .i64 (R2:Int),.slice (some ⟨vb,vo,none⟩) n yc] 35::aj p2 [.string aE,.int .i64 0,.int .i64 0,.slice none 0 0] 35::(rs.map gy++((⟨af,λw=>aM w (.slice aa an ac) 1 (bm bl) cS⟩:bN)::ff (some ⟨vb,vo,none⟩) yc ys))) (λx=>R2-x.1) (0,none,0) (aY _) (aV aw ag2) λx hr=>?_;obtain⟨r,na,nc⟩:=x;simp only at hr⊢;refine aU ?_;refine aN (λh1=>?_) (λh1=>?_)
 ·have R9:r<R2:=by simpa using h1
  have fK:=M4 r e0;have qd:=gi r e0
  repeat(first|refine aI ?_|refine dX λ_ _=>?_)
  refine aN (λh2=>?_) (λh2=>?_)
  ·have hrP:(r:Int)<P:=by simpa using h2
   have e4:(dW (r+1) e0).flatMap df=(dW r e0).flatMap df++[.bool true,.int .i64 (r:Int)]:=by
    rw[fK,gO,he0];simp only[gx,oM,cq];rw[if_pos hrP]
    rfl
   repeat(first|refine aI ?_|refine dX λ_ _=>?_)
   refine gq 2 rfl rfl aq ag ag λQv Qx=>?_;simp only[cn,bS];rw[<-e4];refine aO ?_;exact bC (r+1,Qv,Qx) R9 (by simp only;omega) aw ap
  ·have hrP:¬(r:Int)<P:=by simpa using h2
   have e4:(dW (r+1) e0).flatMap df=(dW r e0).flatMap df++[.bool false,.int .i64 0]:=by
    rw[fK,gO,he0];simp only[gx,oM,cq];rw[if_neg hrP]
    rfl
   repeat(first|refine aO ?_|refine dX λ_ _=>?_)
   refine gq 2 rfl rfl aq ag ag λQv Qx=>?_;simp only[cn,bS];rw[<-e4];refine aO ?_;exact bC (r+1,Qv,Qx) R9 (by simp only;omega) aw ap
 obtain rfl:R2=r:=by have:=of_decide_eq_false h1;omega
 refine aI ?_;obtain⟨m,hm⟩:∃m,m=oG (fJ Y) Y.params.toNat:=⟨_,rfl⟩;have hmS:m=P+fC bl ([]++jG bl n 0):=by rw[hm,hn,hPn,iR];rfl
 refine nu (H':=(lA q p1 (.slice aa an ac) (.slice (some ⟨kb,0,none⟩) n n) (P+fC bl [])::ff (some ⟨vb,vo,none⟩) yc ys)++(ai na R2 nc 41 2 ((dW R2 e0).flatMap df)::ai (some ⟨kb,0,none⟩) n n 42 1 (rs.map eO)::ai (some ⟨tb,0,none⟩) n n 3 1 (((List.range n).map (cR bl)).map (.int .i64))::aj p1 [.string Y.name,.int .i64 (P:Int),.int .i64 (R2:Int),.slice (some ⟨vb,vo,none⟩) n yc] 35::aj p2 [.string aE,.int .i64 0,.int .i64 0,.slice none 0 0] 35::(rs.map gy++[(⟨af,λw=>aM w (.slice aa an ac) 1 (bm bl) cS⟩:bN)]))) (λw hw=>?_) ?_
 ·refine hw.perm (aJ.2 λe=>?_)
  rw[show P+fC bl []=P from rfl];unfold lA;simp only[bu,bi,cd];omega
 refine fH (val:=λ_:List aR=>.tuple #[]) (E:=λx=>lA q p1 (.slice aa an ac) (.slice (some ⟨kb,0,none⟩) n n) m::ff (some ⟨vb,vo,none⟩) yc x) (φ:=λx=>x.map aR.eo=pS (qf bl P) bl P/\∀b∈x,b.Bd) rfl (λw hw=>?_) λx hx=>?_
 ·have Gn:Cf (qf bl P) bl P (uw bl [])=bl:=by
   refine RP (λc i h=>?_) (λc i j h=>?_) (λc k h=>?_) (λc h=>?_)
   ·cases h
   ·obtain⟨_,_,h⟩:=h
    cases h
   ·cases h
   ·cases h
  have wi:=hw.jN;have oY:bG (bX (cF (lA q p1 (.slice aa an ac) (.slice (some ⟨kb,0,none⟩) n n) (P+fC bl [])::ff (some ⟨vb,vo,none⟩) yc ys)) w) p1 0 [.string Y.name,.int .i64 (P:Int),.int .i64 (R2:Int),.slice (some ⟨vb,vo,none⟩) n yc]:=wi.gW p1;have LV:aM (bX (cF (lA q p1 (.slice aa an ac) (.slice (some ⟨kb,0,none⟩) n n) (P+fC bl [])::ff (some ⟨vb,vo,none⟩) yc ys)) w) (.slice aa an ac) 1 (bm bl) cS:=hw.beside (e:=(⟨af,λw=>aM w (.slice aa an ac) 1 (bm bl) cS⟩:bN)) aH;have Ej:aM (bX (cF (lA q p1 (.slice aa an ac) (.slice (some ⟨kb,0,none⟩) n n) (P+fC bl [])::ff (some ⟨vb,vo,none⟩) yc ys)) w) (.slice (some ⟨kb,0,none⟩) n n) 1 ((List.range bl.length).map λb=>(mB bl b).map λx:Nat=>(x:Int)) cS:=by
   rw[<-Db];refine EP (H:=[ai na R2 nc 41 2 ((dW R2 e0).flatMap df),ai (some ⟨tb,0,none⟩) n n 3 1 (((List.range n).map (cR bl)).map (.int .i64)),aj p1 [.string Y.name,.int .i64 (P:Int),.int .i64 (R2:Int),.slice (some ⟨vb,vo,none⟩) n yc] 35,aj p2 [.string aE,.int .i64 0,.int .i64 0,.slice none 0 0] 35,(⟨af,λw=>aM w (.slice aa an ac) 1 (bm bl) cS⟩:bN)]) (e:=42) (wi.perm (aJ.2 λe=>by simp only[bu,bi,cd];omega)) qd.symm ag λr hr=>⟨by have:=(En r hr).1;omega,(En r hr).2⟩
  have uP:aM (bX (cF (lA q p1 (.slice aa an ac) (.slice (some ⟨kb,0,none⟩) n n) (P+fC bl [])::ff (some ⟨vb,vo,none⟩) yc ys)) w) (.slice na R2 nc) 2 (dW R2 (zM (qf bl P) bl P 0)) l9:=by
   rw[L5];refine wi.nC (k:=0) rfl (by rw[gi]) ag λi x hx=>⟨df x,λj v hj=>fy eB _ i x j v hx hj,rfl,?_⟩;have hi:i<R2:=by have:=(aC.1 hx).1;rwa[gi]at this
   rw[tM hi]at hx;rw[<-be hx,he0];simp only
   split
   ·exact⟨by simp only;omega,by simp only;omega⟩
   ·exact⟨by simp[gK],by simp[gK]⟩
  have h9:=Ni Y.name P R2 bl R2 P hI q p1 vb vo n yc aa an ac (some ⟨kb,0,none⟩) n n hn n 0 [] [] ys na R2 nc _ _ w (by have:=nP hg dS .refl;omega) dS (by rw[hn];unfold qM;simp) (by rw[R_];exact Gn.symm) um (vu _ _) oY LV Ej uP hw.Ui;rw[<-hmS]at h9;refine h9.mono λu w' ⟨x,f1,f2,f3,f4⟩=>⟨x,f1,f2.mG,?_,f4⟩;rw[f3];have hV:([]:List Nat)++jG bl n 0=qM (fJ Y):=by rw[hn,iR];rfl
  rw[iR];rw[iR]at hV;exact YZ hP hV _ _
 obtain⟨zC,hxd⟩:=hx;simp only[a6,aT];unfold lA;refine nu (H':=aj q [.pointer (some ⟨p1,0,none⟩),.slice aa an ac,.slice (some ⟨kb,0,none⟩) n n,.int .i64 (m:Int)] 102::aj p1 [.string Y.name,.int .i64 (P:Int),.int .i64 (R2:Int),.slice (some ⟨vb,vo,none⟩) n yc] 35::aj p2 [.string aE,.int .i64 0,.int .i64 0,.slice none 0 0] 35::ff (some ⟨vb,vo,none⟩) yc x) (λw hw=>?_) ?_
 ·refine hw.pick ⟨[ai na R2 nc 41 2 ((dW R2 e0).flatMap df),ai (some ⟨kb,0,none⟩) n n 42 1 (rs.map eO),ai (some ⟨tb,0,none⟩) n n 3 1 (((List.range n).map (cR bl)).map (.int .i64))]++(rs.map gy++[(⟨af,λw=>aM w (.slice aa an ac) 1 (bm bl) cS⟩:bN)]),aJ.2 λe=>?_⟩
  simp only[bu,bi,cd];omega
 refine aI ?_;have r8:x.length=n:=by
  have h3:=congrArg List.length zC;rw[aG,jB]at h3;omega
 refine nu (H':=ff (some ⟨vb,vo,none⟩) yc x++[aj p1 [.string Y.name,.int .i64 (P:Int),.int .i64 (m:Int),.slice (some ⟨vb,vo,none⟩) n yc] 35,aj p2 [.string aE,.int .i64 0,.int .i64 0,.slice none 0 0] 35]) (λw hw=>?_) ?_
 ·refine hw.pick ⟨[aj q [.pointer (some ⟨p1,0,none⟩),.slice aa an ac,.slice (some ⟨kb,0,none⟩) n n,.int .i64 (m:Int)] 102],aJ.2 λe=>?_⟩
  simp only[bu,bi,cd];omega
 obtain⟨Z,hZ⟩:∃Z,Z=gR (iP Y):=⟨_,rfl⟩;rw[<-hZ];refine fH (val:=λx:Option Addr×Nat×List aR=>.agg #[.string Z.name,.int .i64 Z.params,.int .i64 Z.aF,.slice x.1 x.2.2.length x.2.1]) (E:=λx=>ff x.1 x.2.1 x.2.2) (φ:=λx=>x.2.2.map aR.eo=Z.blocks/\(∀b∈x.2.2,b.Bd)/\x.2.2.length<=1000/\c9 Z.params/\c9 Z.aF) rfl (λw hw=>?_) λz hz=>?_
 ·have pG:(iP Y).blocks.length=n:=by
   show(pS _ _ _).length=_;rw[jB,<-iR,hn]
  have h9:=Bj (iP Y) m (by rw[hm];exact acY) ag (by show c9 Y.params;exact⟨ag,ag⟩) {w with heap:=#[]} (some ⟨vb,vo,none⟩) yc x w (by rw[zC];show _=pS (qf (fJ Y) Y.params.toNat) (fJ Y) Y.params.toNat;rw[<-iR,<-hPn]) hxd ⟨rfl,rfl,rfl,aY _,λk hk=>absurd hk (Nat.not_lt_zero k)⟩ (λ_ _=>aY _) hw.pre;have e1:(iP Y).params=(P:Int):=hYp;have e2:(iP Y).aF=(m:Int):=by rw[hm];rfl
  have e3:(iP Y).name=Y.name:=rfl;rw[e1,e2,e3,r8,<-hZ]at h9;exact h9
 obtain⟨fa,fc,zs⟩:=z;simp only at hz⊢;refine bj (H1:=aj p1 [.string Y.name,.int .i64 (P:Int),.int .i64 (m:Int),.slice (some ⟨vb,vo,none⟩) n yc] 35::aj p2 [.string aE,.int .i64 0,.int .i64 0,.slice none 0 0] 35::ff fa fc zs) (aJ.2 λe=>by simp only[bu,bi,cd];omega) ?_;refine aI ?_;rw[C4];exact gH rfl λw hw=>⟨(fa,fc,zs),rfl,hw.sub (.cons _ (.cons _ (.refl _))),hz⟩
end
section
open Go Go.RowKit
attribute [local irreducible] wpListIn Code.wpIn Exit.then Exit.inBlock bodyPost wpQuiet wpAnyIn wpAnyH bodyPostM gX
set_option maxHeartbeats 4000000
theorem BN(u:a7)(hl:mC u)(hu:Whole u)(g fs:Value)(w:World)(hg:aM w g 3 u.globals fE)(hf:aM w fs 4 u.funcs gg):
  gV Tryz.prog 24 [.agg #[g,fs],.func (.func 25) #[] #[]] w (NO u zF w):=
 Wm u (H3 (fz.2 hu.ok)) ⟨LA hl,LB hl (fz.2 hu.ok)⟩ _ _ w hg hf 25 [] [] zF λX hX=>by
  obtain⟨k,hk⟩:=br hX;obtain⟨R,hA,hT⟩:=ET hu.ok hk;have hY:(sL u).funcs[k]?=some (lZ X):=by rw[yC,hk];rfl
  have PK:=(oe hu).1;obtain⟨R2,hP⟩:=xq hu k _ hY;have h1:=(hl.2 X hX).1;have h2:=hA.par;have h3:=hA.le;have hs:=zl.same hu.ok hk;have h5:=hs.size;rw[<-al]at h5;exact Ng X R hA hT (zN hu.ok hk).1 h1 ag ⟨ag,ag⟩ R2 hP _ (PK.ok.body _ (aA hY)) (pA PK.ok hY) w
theorem Uw(u:a7)(hl:mC u)(hu:Whole u)(hN:∀X∈u.funcs,iS (zF X)=false)(g fs:Value)(w0:World)(hg:aM w0 g 3 u.globals fE)(hf:aM w0 fs 4 u.funcs gg)(je:bG w0 0 0 mI):
  gV Tryz.prog 10 [.agg #[g,fs]] w0 λv w'=>∃x:(Option Addr×Nat)×(Option Addr×Nat)×(Nat->Prop),v=.tuple #[.agg #[.slice x.1.1 u.globals.length x.1.2,.slice x.2.1.1 u.funcs.length x.2.1.2],.agg #[.int .i64 0,.int .i64 0]]/\Wd dh w0 [K8 (yk u) (.slice x.1.1 u.globals.length x.1.2) (.slice x.2.1.1 u.funcs.length x.2.1.2) x.2.2] w'/\True:=by
 have zt:=hg;have vE:=hf;obtain⟨ga,gn,gc,gb,go,rfl,_⟩:=hg;obtain⟨fa,fn,fc,fb,fo,rfl,oY,_⟩:=hf;refine aQ Tryz.func10 rfl Tryz.ntmps10 rfl (Wd.nil dh w0) ?_
 repeat(first|refine aU ?_|refine dX λ_ _=>?_)
 rename_i p1 _ p2 _ p3 _;refine bI rfl (λw hw=>ue u hl _ _ w (zt.cu dv hw.cE) (vE.cu dk hw.cE) (je.cu hw.cE)) ?_;rw[nW (fz.2 hu.ok)]
 repeat(first|refine aI ?_|refine dX λ_ _=>?_)
 rename_i p4 _;refine cV (val:=λx:(Option Addr×Nat)×(Option Addr×Nat)×(Nat->Prop)=>.tuple #[.agg #[.slice x.1.1 u.globals.length x.1.2,.slice x.2.1.1 u.funcs.length x.2.1.2],.agg #[.int .i64 0,.int .i64 0]]) (E:=λx=>[K8 (yk u) (.slice x.1.1 u.globals.length x.1.2) (.slice x.2.1.1 u.funcs.length x.2.1.2) x.2.2]) (φ:=λ_=>True) rfl (λw hw=>(BN u hl hu _ _ w (zt.cu dv hw.cE) (vE.cu dk hw.cE)).mono λv w' h=>?_) λx _=>?_
 ·rcases h with⟨j,Y,h1,h2,_⟩|⟨_,ga,fa,gc,fc,fp,rfl,hw⟩
  ·rw[hN Y (aA h1)]at h2
   cases h2
  ·exact⟨((ga,gc),(fa,fc),fp),rfl,hw,trivial⟩
 obtain⟨⟨ya,yc⟩,⟨za,zc⟩,fp⟩:=x;simp only[a6,aT];refine aI ?_;refine rZ rfl λw hw=>⟨((ya,yc),(za,zc),fp),rfl,hw.pick inferInstance,trivial⟩
end
section
open Go Go.RowKit
structure cr(bl:List ar):Prop where
 none:∀B∈bl,B.aL=[]
 one:∀x y z:Nat,Edge bl x z->Edge bl y z->x=y
theorem da{bl:List ar}{x y:Nat}(h:Edge bl x y):x<bl.length:=by
 unfold Edge dd at h;cases hb:bl[x]? with
 |none=>rw[hb]at h;cases h
 |some B=>exact(aC.1 hb).1
theorem ee{bl:List ar}(h:cr bl)(hp:qh bl){a b:Nat}:¬gP bl a b:=λ⟨p,hr,he,hd,hn⟩=>by
 have ve:b≠0:=λe=>by
  have:=hp p b he;omega
 have hpb:p≠b:=λe=>by
  subst e;have key:∀x,gD bl (-1) 0 x->x≠p:=λx hx=>by
   induction hx with
   |refl=>exact λe=>ve e.symm
   |step _ Xd _ ih=>exact λe=>by subst e;exact ih (h.one _ _ _ Xd he)
  exact key p hr rfl
 have Km:gD bl (-1) 0 b:=hr.step he ag;have Vi:ku bl p b:=by
  refine⟨hr,Km,?_⟩
  by_cases h0:p=0
  ·exact .inr (.inl h0)
  ·refine .inr (.inr λhx=>?_)
   cases hx with
   |refl=>exact ve rfl
   |step zB Xd eH=>
    have e:=h.one _ _ _ Xd he;subst e;cases zB with
    |refl=>exact h0 rfl
    |step _ _ h2=>exact h2 rfl
 have OF:=hd.trans Vi;rcases hn with e|e
 ·subst e
  exact hpb (Vi.antisymm hd)
 ·exact e OF
theorem mv{bl:List ar}(h:cr bl)(hp:qh bl){bs:List Int}{b:Nat}:¬lT bl bs b:=λhm=>by
 cases hm with
 |base _ hf=>exact ee h hp hf
 |step _ hf=>exact ee h hp hf
theorem ah0(ν:Nat->Nat->Int)(bl:List ar)(n b k:Nat)(x:en):gI (rH ν bl n b k x)=(gI x).map (o6 ν bl n b k):=by
 unfold gI rH;simp only
 split
 ·rfl
 ·split
  ·rfl
  ·split
   ·rfl
   ·split<;>rfl
def Flat(n:Nat)(Q:cm->Prop)(bl:List ar):Prop:=∃L:List en,bl=[⟨[],L,1,gK,[]⟩]/\L.length=n/\∀x∈L,x.dst=-1/\Q x.a/\∀v∈gI x,Q v
theorem Flat.len{n:Nat}{Q:cm->Prop}{bl:List ar}(h:Flat n Q bl):bl.length=1:=by
 obtain⟨L,rfl,_⟩:=h
 rfl
theorem amb{R:Nat}{bl:List ar}(hf:eX R bl)(h1:bl.length=1):ch bl=List.range bl.length:=by
 have hk:=j7 hf.iM (show 0<bl.length by omega);obtain⟨h2,h3⟩:=pe hf.iM (show 0<bl.length by omega);rw[h1]
 match ho:ch bl,hk.nodup,hk.lt,h2 with
 |[a],_,hl,_=>
  have:=hl a aH;rw[show a=0 by omega]
  rfl
 |a::b::l,hn,hl,_=>
  have e1:=hl a aH;have e2:=hl b aH;have e3:a≠b:=λe=>by
   subst e;simp at hn
  omega
theorem y3{R:Nat}{X:aZ}(hf:eX R X.blocks)(h1:X.blocks.length=1):ew X=X.blocks:=by
 unfold ew;rw[amb hf h1];exact P7 hf
theorem y4{R n:Nat}{Q Q':cm->Prop}{Z:aZ}(hf:eX R Z.blocks)(h:Flat n Q Z.blocks)(k:∀(L:List Int) v,Q v->Q' (cw L v)):Flat n Q' (gR Z).blocks:=by
 have hk:=y3 hf h.len;have h4:(gR Z).blocks=Z.blocks.map (qg (pL Z.params.toNat (ew Z))):=by show(ew Z).map _=_;rw[hk]
 rw[h4];generalize pL Z.params.toNat (ew Z)=L;obtain⟨l,h1,h2,h3⟩:=h;rw[h1];refine⟨l.map (jm L),rfl,by rw[aG];exact h2,λx hx=>?_⟩;obtain⟨y,hy,rfl⟩:=aX.1 hx;obtain⟨h5,h6,h7⟩:=h3 y hy;refine⟨?_,k L _ h6,λv hv=>?_⟩;rotate_left
 ·rw[ahO]at hv
  obtain⟨w,hw,rfl⟩:=aX.1 hv;exact k L _ (h7 w hw)
 show mR L y.dst=-1;unfold mR;rw[h5]
 rfl
theorem alv{a c:List ar}(h:ll a c)(h1:a.length=1):c=a:=by
 cases h with
 |refl=>rfl
 |head hj _=>
  have e1:=hj.blt;have e2:=hj.Ht;have e3:=hj.ne;omega
theorem amc{u:a7}(hc:iW u){k n:Nat}{Q Q':cm->Prop}{X:aZ}(hX:u.funcs[k]?=some X)(h:Flat n Q X.blocks)(hQ:∀(L:List Int) v,Q v->Q' (cw L v)):Flat n Q' (lZ X).blocks:=by
 obtain⟨R,hA⟩:=yU hc hX;have hk:=j7 hA.ok.iM hA.pos;obtain⟨Ej,wV⟩:=zN hc hX;have WV:sR R (ew X):=⟨kH hA.ok hk,Di hk Ej⟩;obtain⟨hj,_⟩:=u1 WV;have e1:=y3 hA.ok h.len;have e2:fx (ew X)=X.blocks:=by rw[alv hj (by rw[e1];exact h.len),e1]
 obtain⟨R2,_,hT⟩:=ET hc hX;have h5:Flat n Q (qO X (fx (ew X))).blocks:=by
  show Flat n Q (fx (ew X));rw[e2];exact h
 exact y4 hT.mid.ok h5 hQ
theorem amg{n:Nat}{Q:cm->Prop}{bl:List ar}(h:Flat n Q bl):cr bl:=by
 obtain⟨L,rfl,_⟩:=h;refine⟨λB hB=>by rw[bU.1 hB],λx y z hx _=>?_⟩;have h1:=da hx;have h2:x=0:=by simpa using h1
 subst h2;unfold Edge dd at hx;simp at hx
theorem amf{u:a7}(hu:Whole u){k n:Nat}{X:aZ}(hX:u.funcs[k]?=some X)(hp:X.params=0)(h:Flat n (λv=>v.bD=true/\0<=v.n) X.blocks):(zF X).aF=0/\Flat n (λv=>v=gK) (zF X).blocks:=by
 have hY:(sL u).funcs[k]?=some (lZ X):=by rw[yC,hX];rfl
 obtain⟨R,hP⟩:=xq hu k _ hY;have PK:=(oe hu).1;have hF:=amc (Q':=λv=>v.bD=true/\0<=v.n) hu.ok hX h (λL v hv=>by
  unfold cw;rw[if_pos hv.1];exact⟨rfl,Int.natCast_nonneg _⟩)
 have hq:=amg hF;have E4:fJ (lZ X)=(lZ X).blocks:=by
  rw[tI hP.all];apply cf;intro b;cases hb:(lZ X).blocks[b]? with
  |none=>rw[bM (by rw[eM];exact kg.1 hb)]
  |some B=>rw[iq hb,w7 λr _ hn=>mv hq hP.pos hn.1,cq]
 have qJ:(lZ X).params=0:=hp;have Iq:=BM hP (PK.ok.body _ (aA hY)) (pA PK.ok hY);have hf2:=wL (R:=oG (fJ (lZ X)) (lZ X).params.toNat) rfl (t_.2 Iq);obtain⟨hg,dS,jq,hlen⟩:=jA hP.all;have hS:Flat n (λv=>v=gK) (iP (lZ X)).blocks:=by
  show Flat n _ (pS (qf (fJ (lZ X)) (lZ X).params.toNat) (fJ (lZ X)) (lZ X).params.toNat);rw[qJ];rw[E4]at hg dS⊢;have hr0:=hP.reach 0 hP.all.pos;clear hf2 Iq hlen jq E4 hY;generalize (lZ X).blocks=bl at*;obtain⟨L,iR,h2,h3⟩:=hF;have hB0:a8 bl 0=⟨[],L,1,gK,[]⟩:=by rw[iR];rfl
  have qu:∀(i:Nat) (r:Int),0<=r->nm (qf bl 0) bl 0 0 i r=gK:=λi r hr=>by
   rw[abZ hg dS hr0,Ap (by rw[hB0];intro p hp;cases hp) (by
    rw[hB0];intro x hx;have:=(h3 x hx).1;omega),BV,if_pos ag,if_neg ag]
  refine⟨L.mapIdx (rH (qf bl 0) bl 0 0),?_,by rw[kh];exact h2,λx hx=>?_⟩
  ·unfold pS
   rw[show List.mapIdx (CA (qf bl (Int.toNat 0)) bl (Int.toNat 0)) bl=List.mapIdx (CA (qf bl 0) bl 0) [⟨[],L,1,gK,[]⟩] by rw[<-iR];rfl]
   rfl
  ·obtain⟨i,hi⟩:=br hx
   rw[cM]at hi;obtain⟨y,hy,rfl⟩:=cT.1 hi;obtain⟨h4,⟨h5,h6⟩,h7⟩:=h3 y (aA hy);refine⟨?_,?_,λv hv=>?_⟩
   ·show(if 0<=y.dst then _ else y.dst)=-1
    rw[if_neg ag];exact h4
   ·show o6 (qf bl 0) bl 0 0 i y.a=gK
    unfold o6;rw[if_pos h5];exact qu i _ h6
   ·rw[ah0]at hv
    obtain⟨w,hw,rfl⟩:=aX.1 hv;obtain⟨h8,h9⟩:=h7 w hw;unfold o6;rw[if_pos h8];exact qu i _ h9
 have hN:=y4 (Q':=λv=>v=gK) hf2 hS (λL v hv=>by rw[hv];rfl);refine⟨?_,hN⟩;have hk:=y3 hf2 hS.len;show((pL (iP (lZ X)).params.toNat (ew (iP (lZ X)))).length:Int)=0;rw[hk,show(iP (lZ X)).params.toNat=0 by show(lZ X).params.toNat=0;rw[qJ];rfl];have h0:pL 0 (iP (lZ X)).blocks=[]:=by
  rw[List.eq_nil_iff_forall_not_mem];intro r hr;obtain⟨L,h1,h2,h3⟩:=hS;rw[h1]at hr;rcases wY.1 hr with hr|⟨B,hB,hr⟩|⟨B,hB,hr⟩
  ·cases hr
  ·rw[bU.1 hB]at hr
   unfold pR at hr;simp only[dp,aT]at hr;rcases bL.1 hr with hr|hr
   ·obtain⟨x,hx,hr⟩:=du.1 hr
    obtain⟨h4,_,h5⟩:=h3 x hx;unfold uS at hr;rw[if_neg ag,cq]at hr;obtain⟨v,hv,hr⟩:=du.1 hr;rw[h5 v hv]at hr;cases hr
   ·cases hr
  ·rw[bU.1 hB]at hr
   cases hr
 rw[h0]
 rfl
def ajh:ByteArray:=ByteArray.mk #[109,97,105,110]
def aiA(n:Nat):en:=⟨22,-1,⟨true,((n%50:Nat):Int)⟩,gK,0,[]⟩
def lp(l:List Nat):aZ:=⟨ajh,0,50,[⟨[],l.map aiA,1,gK,[]⟩]⟩
def lg(l:List Nat):a7:=⟨[],[lp l]⟩
theorem amk(fs:List aZ)(n:Nat):dK fs 50 (aiA n)=0:=by
 have h:∀m:Nat,m<50->dK [] 50 ⟨22,-1,⟨true,(m:Int)⟩,gK,0,[]⟩=0:=by decide+kernel
 exact h (n%50) (Nat.mod_lt _ (by decide))
theorem aiF(l:List Nat):cZ (lg l).funcs=0:=by
 have h:qK (lp l)=true:=by show qK ⟨ajh,0,0,[]⟩=true;decide+kernel
 unfold cZ lg;simp only[List.findIdx?_cons,h]
 rfl
theorem LS{l:List Nat}(h:l.length<=60):iW (lg l):=by
 refine⟨aY _,show 1<=10 by decide,λi hi=>(by cases hi),λi hi=>?_,λX hX=>?_,?_,?_⟩
 ·obtain rfl:i=0:=by have:(lg l).funcs.length=1:=rfl;omega
  show kU [] (lp l)=0;have h1:fQ (lp l).blocks=l.length:=by simp[fQ,lp]
  unfold kU;rw[h1,show sj (lp l).name=true by show sj ajh=true;decide+kernel];have h2:¬(300<(l.length:Int)):=ag;simp[h2,hasName,within,lp]
 ·obtain rfl:=bU.1 hX
  refine⟨λB hB=>?_,λb B hB p hp=>?_,λb B hB x hx=>?_⟩
  ·obtain rfl:=bU.1 hB
   rfl
  ·have:=bU.1 (aA hB)
   subst this;cases hp
  ·have:=bU.1 (aA hB)
   subst this;obtain⟨n,_,rfl⟩:=aX.1 hx;exact amk _ n
 ·rw[aiF]
  exact Int.le_refl _
 ·rw[aiF]
  exact Int.le_refl _
theorem ami(l:List Nat):Flat l.length (λv=>v.bD=true/\0<=v.n) (lp l).blocks:=by
 refine⟨l.map aiA,rfl,aG _,λx hx=>?_⟩;obtain⟨n,_,rfl⟩:=aX.1 hx;refine⟨rfl,⟨rfl,Int.natCast_nonneg _⟩,λv hv=>?_⟩;rw[show gI (aiA n)=[⟨true,((n%50:Nat):Int)⟩]from rfl]at hv;rw[bU.1 hv];exact⟨rfl,Int.natCast_nonneg _⟩
theorem PB{l:List Nat}(h:l.length<=60):Whole (lg l):=by
 refine⟨LS h,λX hX B hB=>?_,λG hG=>by cases hG⟩;obtain rfl:=bU.1 hX;obtain rfl:=bU.1 hB;have h0:c9 gK.n:=by unfold c9 gK;decide
 refine⟨h0,λq hq=>(by cases hq),λx hx=>?_⟩;obtain⟨n,_,rfl⟩:=aX.1 hx;have:=Nat.mod_lt n (show 0<50 by decide);refine⟨show c9 (-1) by unfold c9;decide,⟨?_,?_⟩,h0,λv hv=>by cases hv⟩
 ·show -9223372036854775808<=((n%50:Nat):Int)
  omega
 ·show((n%50:Nat):Int)<=9223372036854775807
  omega
theorem als{l:List Nat}(h:l.length<=60):(zF (lp l)).aF=0/\Flat l.length (λv=>v=gK) (zF (lp l)).blocks:=amf (PB h) (k:=0) rfl rfl (ami l)
theorem ame{l:List Nat}(h:l.length<=60):∀X∈(lg l).funcs,iS (zF X)=false:=λX hX=>by
 obtain rfl:=bU.1 hX;obtain⟨h1,L,h2,h3,_⟩:=als h;unfold iS qL;rw[h1,h2];simp[dV,h3];omega
theorem amd{l:List Nat}(h:l.length<=60):mC (lg l):=yQ (LS h)
end
section
open Go Go.RowKit
attribute [local irreducible] wpListIn Code.wpIn Exit.then Exit.inBlock bodyPost wpQuiet wpAnyIn wpAnyH bodyPostM gX
set_option maxHeartbeats 4000000
instance:NM Tryz.prog 5 3 .i64:=⟨aP,aP,aP⟩
def alc(_:World)(x:Nat)(cs:List Value):Prop:=cs=[.int .u8 (x:Int)]/\x<=255
def y5(n:Nat):List Value:=[.int .i64 22,.int .i64 (-1),.bool true,.int .i64 ((n%50:Nat):Int),.bool false,.int .i64 0,.int .i64 0,.slice none 0 0]
theorem amh(n:Nat):(y5 n).length=8:=rfl
theorem ala{P:Program}{N:Nat}{ds:List Deferred}{S:Nat->Prop}{w0:World}{L:List (Nat×Value)}{H:List bN}{x y:Operand}{T T2 n:Nat}[hx:Ev L x (.int .i64 (n:Int))][hy:Ev L y (.int .i64 50)]:dz P N ds S w0 L H (.binOp .rem T x y T2) (.int .i64 ((n%50:Nat):Int)):=fu (λ_=>rfl) λw=>by
 show((Op.intDiv .rem .i64 (n:Int) 50).run P w)=_;have h:((n:Int)).tmod 50=((n%50:Nat):Int):=by rw[Int.natCast_emod];exact Int.tmod_eq_emod_of_nonneg (Int.natCast_nonneg n)
 simp[Op.intDiv,h]
theorem si(a:Option Addr)(c:Nat)(l:List Nat)(w0:World)(hl:aM w0 (.slice a l.length c) 1 l alc)(je:bG w0 0 0 mI):
  fi Tryz.prog 6 [.slice a l.length c] w0 (.bool true):=by
 classical
 have zw:=hl;obtain⟨a',n',c',b,o,e0,hn,pE,E3,Cm,ha,iK⟩:=hl;obtain⟨rfl,rfl,rfl⟩:a=a'/\l.length=n'/\c=c':=by simpa using e0
 refine aQ Tryz.func6 rfl Tryz.ntmps6 rfl (Wd.nil dh w0) ?_;refine aU ?_;refine aN (λh1=>?_) (λh1=>?_)
 ·refine aI ?_
  exact bQ rfl rfl
 have h60:l.length<=60:=by have:=of_decide_eq_false h1;omega
 repeat(first|refine aI ?_|refine dX λ_ _=>?_)
 rename_i bb _ p3 _;refine fq 56 8 ?_;refine bP (λ(x:Nat×Option Addr×Nat)=>x.1<=l.length) (λx=>[(4,.int .i64 x.1),(3,.pointer (some ⟨p3,0,none⟩)),(0,.slice a l.length c)]) (λx=>[(λ(y:Option Addr×Nat) (i:Nat)=>ai y.1 i y.2 56 8 ((l.take i).flatMap y5)) x.2 x.1,aj p3 [.string ⟨#[109,97,105,110]⟩,.int .i64 0,.int .i64 50,.slice (some ⟨bb,0,none⟩) 1 1] 35,(λ(y:Option Addr×Nat) (i:Nat)=>ai (some ⟨bb,0,none⟩) 1 1 46 6 [.slice none 0 0,.slice y.1 i y.2,.int .i64 1,.bool false,.int .i64 0,.slice none 0 0]) x.2 x.1]) (λx=>l.length-x.1) (0,none,0) (aY _) (aV aw ag2) λx hi=>?_;obtain⟨i,la,lc⟩:=x;simp only at hi⊢;refine aU ?_;refine aN (λh2=>?_) (λh2=>?_)
 ·have bT:i<l.length:=by simpa using h2
  obtain⟨z,hz⟩:∃z,l[i]?=some z:=⟨_,aB bT⟩;have pY:bY a b o:=⟨ha (aW hz)⟩;have mW:bZ i l.length:=⟨bT⟩;obtain⟨_,hcz,rfl,Ml⟩:=iK i z hz;rw[fB]at hcz;have oQ:a_ w0 b (o+i*1) _:=⟨by rw[fB];exact hcz⟩;refine aO ?_;refine rX rfl (by rw[IntKind.wrap_i64];omega) ?_;have Tx:∀(L:List (Nat×Value)) (H:List bN) (T T2:Nat) (x y:Operand) [Ev L x (.int .i64 (z:Int))] [Ev L y (.int .i64 50)],dz Tryz.prog 109 [] dh w0 L H (.binOp .rem T x y T2) (.int .i64 ((z%50:Nat):Int)):=λL H T T2 x y _ _=>ala
  repeat(first|refine aI ?_|refine dX λ_ _=>?_)
  rename_i p5 _;have amq:∀X0 X1 X2:bN,fe [X0,X1,X2,ai (some ⟨bb,0,none⟩) 1 1 46 6 [.slice none 0 0,.slice la i lc,.int .i64 1,.bool false,.int .i64 0,.slice none 0 0]] bb (0+0*6+1) (.slice la i lc):=λ_ _ _=>⟨λ_ _ _ hw=>by have:=hw.cK (k:=3) rfl (j:=1) rfl;simpa using this⟩;have amr:∀X0 X1 X2 X3:bN,fe [X0,X1,X2,X3,ai (some ⟨bb,0,none⟩) 1 1 46 6 [.slice none 0 0,.slice la i lc,.int .i64 1,.bool false,.int .i64 0,.slice none 0 0]] bb (0+0*6+1) (.slice la i lc):=λ_ _ _ _=>⟨λ_ _ _ hw=>by have:=hw.cK (k:=4) rfl (j:=1) rfl;simpa using this⟩;have VE:∀X0 X1 X2 X3:bN,mT [X0,X1,X2,X3,ai (some ⟨bb,0,none⟩) 1 1 46 6 [.slice none 0 0,.slice la i lc,.int .i64 1,.bool false,.int .i64 0,.slice none 0 0]] bb (0+0*6+1) 4 0 1 1 1 46 6 [.slice none 0 0,.slice la i lc,.int .i64 1,.bool false,.int .i64 0,.slice none 0 0]:=λ_ _ _ _=>⟨rfl,rfl⟩;have mM:∀v:Value,lN [.slice none 0 0,.slice la i lc,.int .i64 1,.bool false,.int .i64 0,.slice none 0 0] 1 v [.slice none 0 0,v,.int .i64 1,.bool false,.int .i64 0,.slice none 0 0]:=λ_=>⟨rfl,by simp⟩;have afV:bZ 0 1:=⟨by decide⟩;refine dR [aj p5 [.int .i64 22,.int .i64 (-1),.bool true,.int .i64 ((z%50:Nat):Int),.bool false,.int .i64 0,.int .i64 0,.slice none 0 0] 56,aj p3 [.string ⟨#[109,97,105,110]⟩,.int .i64 0,.int .i64 50,.slice (some ⟨bb,0,none⟩) 1 1] 35] (λ_:Option Addr×Nat=>True) (λ_=>[(4,.int .i64 i),(3,.pointer (some ⟨p3,0,none⟩)),(0,.slice a l.length c)]) (λy=>[(λ(y:Option Addr×Nat) (i:Nat)=>ai y.1 i y.2 56 8 ((l.take i).flatMap y5)) y (i+1),aj p3 [.string ⟨#[109,97,105,110]⟩,.int .i64 0,.int .i64 50,.slice (some ⟨bb,0,none⟩) 1 1] 35,(λ(y:Option Addr×Nat) (i:Nat)=>ai (some ⟨bb,0,none⟩) 1 1 46 6 [.slice none 0 0,.slice y.1 i y.2,.int .i64 1,.bool false,.int .i64 0,.slice none 0 0]) y (i+1)]) mixed ap ?_ λy _=>?_
  ·skip
   refine az 0 rfl aq ap ?_;refine az 1 rfl aq ap ?_;refine az 2 rfl aq ap ?_;refine az 3 rfl aq ap ?_;refine az 4 rfl aq ap ?_;refine az 5 rfl aq ap ?_;refine az 7 rfl aq ap ?_;refine kG 6 8 aq ?_ ?_
   ·skip
    refine eY 6 rfl ap ?_;refine ck 8 aq ?_;refine ji 8 rfl aq ap λnb _=>?_;refine j1 9 2 rfl rfl aq ag ag aq (λ_=>.cons _ ap) λna nc=>?_;simp only[cn,bS];refine az 10 rfl aq ap ?_;refine az 11 rfl aq ap ?_;refine ck 12 aq ?_;refine lB 12 ap ?_;refine eF aq ?_;refine dN (na,nc) trivial aw ?_;rw[show(l.take (i+1)).flatMap y5=(l.take i).flatMap y5++y5 z by rw[cj,hz];simp];exact .cons _ (.cons _ (dn (dn (dn ou))))
   ·skip
    refine ji 8 rfl aq ap λnb _=>?_;refine ck 6 aq ?_;refine eY 6 rfl ap ?_;refine j1 9 2 rfl rfl aq ag ag aq (λ_=>.cons _ ap) λna nc=>?_;simp only[cn,bS];refine az 10 rfl aq ap ?_;refine az 11 rfl aq ap ?_;refine ck 12 aq ?_;refine lB 12 ap ?_;refine eF aq ?_;refine dN (na,nc) trivial aw ?_;rw[show(l.take (i+1)).flatMap y5=(l.take i).flatMap y5++y5 z by rw[cj,hz];simp];exact .cons _ (.cons _ (dn (dn (dn ou))))
  ·refine aO ?_
   exact bC (i+1,y) bT (by simp only;omega) aw ag2
 have gT:i=l.length:=by have:=of_decide_eq_false h2;omega
 subst gT
 repeat(first|refine aI ?_|refine dX λ_ _=>?_)
 rename_i q2 _;have xV:∀{w:World},Wd dh w0 [ai (some ⟨q2,0,none⟩) 1 1 35 4 [.string ⟨#[109,97,105,110]⟩,.int .i64 0,.int .i64 50,.slice (some ⟨bb,0,none⟩) 1 1],ai la l.length lc 56 8 ((l.take l.length).flatMap y5),aj p3 [.string ⟨#[109,97,105,110]⟩,.int .i64 0,.int .i64 50,.slice (some ⟨bb,0,none⟩) 1 1] 35,ai (some ⟨bb,0,none⟩) 1 1 46 6 [.slice none 0 0,.slice la l.length lc,.int .i64 1,.bool false,.int .i64 0,.slice none 0 0]] w->aM w (.slice (some ⟨q2,0,none⟩) 1 1) 4 (lg l).funcs gg:=λ{w} hw=>by
  refine hw.nC (k:=0) rfl rfl (by decide) λi x hx=>?_
  match i,hx with
  |0,hx=>
   obtain rfl:lp l=x:=by simpa[lg]using hx
   refine⟨[.string ⟨#[109,97,105,110]⟩,.int .i64 0,.int .i64 50,.slice (some ⟨bb,0,none⟩) 1 1],λj v hj=>by simpa using hj,_,rfl,by simp[lp,c9],by simp[lp,c9],?_⟩;refine hw.nC (k:=3) rfl rfl (by decide) λi x hx=>?_
   match i,hx with
   |0,hx=>
    obtain rfl:(⟨[],l.map aiA,1,gK,[]⟩:ar)=x:=by simpa[lp]using hx
    refine⟨[.slice none 0 0,.slice la l.length lc,.int .i64 1,.bool false,.int .i64 0,.slice none 0 0],λj v hj=>by simpa using hj,_,_,_,rfl,by simp[c9],by simp[gK,c9],PT _ _ _,?_,PT _ _ _⟩;refine hw.nC (k:=1) rfl (by rw[aG]) ag λi x hx=>?_;rw[aK]at hx;obtain⟨n,hn,rfl⟩:=cT.1 hx;have hm:=Nat.mod_lt n (show 0<50 by decide);refine⟨y5 n,λj v hj=>?_,_,rfl,by simp[aiA,c9],by simp[aiA,c9],⟨?_,?_⟩,by simp[aiA,gK,c9],by simp[aiA,c9],PT _ _ _⟩
    ·rw[cO]
     exact fy amh l i n j v hn hj
    ·show -9223372036854775808<=((n%50:Nat):Int)
     omega
    ·show((n%50:Nat):Int)<=9223372036854775807
     omega
 refine cV (val:=(λx:(Option Addr×Nat)×(Option Addr×Nat)×(Nat->Prop)=>Value.tuple #[.agg #[.slice x.1.1 0 x.1.2,.slice x.2.1.1 1 x.2.1.2],.agg #[.int .i64 0,.int .i64 0]])) (E:=(λx:(Option Addr×Nat)×(Option Addr×Nat)×(Nat->Prop)=>[K8 (yk (lg l)) (.slice x.1.1 0 x.1.2) (.slice x.2.1.1 1 x.2.1.2) x.2.2])) (φ:=λ_=>True) rfl (λw hw=>Uw (lg l) (amd h60) (PB h60) (ame h60) _ _ w (PT _ _ _) (xV hw) (je.cu hw.cE)) λx _=>?_;obtain⟨⟨ya,yc⟩,⟨za,zc⟩,fp⟩:=x;simp only[a6,aT]
 repeat(first|refine aI ?_|refine dX λ_ _=>?_)
 rename_i p6 _ p7 _;refine q7 [0,1,2] (by decide) ?_;refine fg (H1:=[aj p7 [.int .i64 0,.int .i64 0] 28,aj p6 [.slice ya 0 yc,.slice za 1 zc] 25]++[K8 (yk (lg l)) (.slice ya 0 yc) (.slice za 1 zc) fp]) rfl ?_;refine nQ λw1 mz=>?_;have PL:aM (bX (cF [aj p7 [.int .i64 0,.int .i64 0] 28,aj p6 [.slice ya 0 yc,.slice za 1 zc] 25]) w1) (.slice ya 0 yc) 3 (yk (lg l)).globals fE/\aM (bX (cF [aj p7 [.int .i64 0,.int .i64 0] 28,aj p6 [.slice ya 0 yc,.slice za 1 zc] 25]) w1) (.slice za 1 zc) 4 (yk (lg l)).funcs gg:=mz.beside (e:=K8 (yk (lg l)) (.slice ya 0 yc) (.slice za 1 zc) fp) aH;have x6:∀{E:List bN} {w:World},Wd (cF [aj p7 [.int .i64 0,.int .i64 0] 28,aj p6 [.slice ya 0 yc,.slice za 1 zc] 25]) (bX (cF [aj p7 [.int .i64 0,.int .i64 0] 28,aj p6 [.slice ya 0 yc,.slice za 1 zc] 25]) w1) E w->∀p v,(bX (cF [aj p7 [.int .i64 0,.int .i64 0] 28,aj p6 [.slice ya 0 yc,.slice za 1 zc] 25]) w1).cell? p=some v->w.cell? p=some v:=λhw=>hw.pH;have hold:∀{b o:Nat} {v:Value} {l:List Value},bG (bX (cF [aj p7 [.int .i64 0,.int .i64 0] 28,aj p6 [.slice ya 0 yc,.slice za 1 zc] 25]) w1) b o (v::l)->eI (cF [aj p7 [.int .i64 0,.int .i64 0] 28,aj p6 [.slice ya 0 yc,.slice za 1 zc] 25]) b:=λhc=>iu hc aH;have back:∀{E:List bN} {w:World},Wd (cF [aj p7 [.int .i64 0,.int .i64 0] 28,aj p6 [.slice ya 0 yc,.slice za 1 zc] 25]) (bX (cF [aj p7 [.int .i64 0,.int .i64 0] 28,aj p6 [.slice ya 0 yc,.slice za 1 zc] 25]) w1) E w->Wd dh w0 (E++[K8 (yk (lg l)) (.slice ya 0 yc) (.slice za 1 zc) fp]) w:=λhw=>mz.comp hw.mG;generalize bX (cF [aj p7 [.int .i64 0,.int .i64 0] 28,aj p6 [.slice ya 0 yc,.slice za 1 zc] 25]) w1=wk at*;generalize cF [aj p7 [.int .i64 0,.int .i64 0] 28,aj p6 [.slice ya 0 yc,.slice za 1 zc] 25]=SS at*;obtain⟨_,huf⟩:=PL;have IN:∀{v:Value} {w:World} {E:List bN},v=.bool true->Wd SS wk E w->v=.bool true/\lL dh w0 w:=λhv hw=>⟨hv,(back hw).cE⟩;obtain⟨Pv,L,hYb,Vc,hYa⟩:=als h60;have hfe:(yk (lg l)).funcs=[zF (lp l)]:=rfl;rw[hfe]at huf;generalize zF (lp l)=Y at*;obtain⟨b2,o2,uL,tl,Cn⟩:=f_ huf hold (λ_ _ h=>by obtain⟨_,e,_⟩:=h;exact⟨_,_,e⟩) aH;obtain⟨_,L2,bv1,rfl,_,_,rl⟩:=Cn 0 Y rfl;rw[hYb]at rl;obtain⟨a1,n1,c1,_,_,rfl,hn1,_⟩:=id rl;obtain⟨b3,o3,Ta,AU,OY⟩:=f_ rl hold (λ_ _ h=>by obtain⟨_,_,_,e,_⟩:=h;exact⟨_,_,e⟩) aH;obtain⟨_,OQ,pv,lv,tv,rfl,_,_,Cs,Pe,ht⟩:=OY 0 _ rfl;obtain⟨la2,ln2,lc2,_,_,rfl,Ma,_⟩:=id Pe;have afV:bZ 0 1:=⟨by decide⟩;have amp:ln2=L.length:=Ma;simp only[jL]at hn1;subst hn1;rw[show decide (((1:Nat):Int)=1)=true from rfl,show decide ((0:Int)=0)=true from rfl];rw[Bool.not_true];refine aI ?_;rw[show decide (((1:Nat):Int)=1)=true from rfl,Bool.not_true];refine aU ?_;rw[show decide ((ln2:Int)=(l.length:Int))=true by simp;omega,Bool.not_true];refine aI ?_;rw[show decide (Y.aF=0)=true by rw[Pv];rfl,Bool.not_true];refine aO ?_;refine bP (λ(i:Nat)=>i<=l.length) (λi=>[(8,.int .i64 i),(0,.slice a l.length c),(6,.pointer (some ⟨p6,0,none⟩))]) (λ_=>[aj p7 [.int .i64 0,.int .i64 0] 28,aj p6 [.slice ya 0 yc,.slice za 1 zc] 25]) (λi=>l.length-i) 0 (aY _) (aV aw ag2) λi hi=>?_
 refine aU ?_;refine aN (λh3=>?_) (λh3=>?_)
 ·have bT:i<l.length:=by simpa using h3
  obtain⟨x,hx⟩:∃x,L[i]?=some x:=⟨_,aB ag⟩;obtain⟨b4,o4,afi,y6,aij⟩:=f_ Pe hold (λ_ _ h=>by obtain⟨_,e,_⟩:=h;exact⟨_,_,e⟩) (aW hx);obtain⟨_,afA,av,rfl,_,_,_,_,_,_⟩:=aij i x hx;have Kv:=(hYa x (aA hx)).2.1;have amo:bZ i ln2:=⟨ag⟩;rw[Kv]at afA;refine aO ?_;exact bC (i+1) bT ag aw ag2
 ·refine aI ?_
  exact cA rfl λw hw=>IN rfl hw
end
section
open Go Go.RowKit Go.ChangeShapes Go.WideShapes Go.ChangeAt
set_option maxRecDepth 100000
theorem amn:Tryz.prog.cellsOf 5=1:=by kernel_rfl
theorem aml{H:Type}{enc:TypeId×Value->H}{w:World}{base:Nat}{spare:Nat->Bool}{held:Bool}{bE:Nat}{cs:List Value}{x:DataW H×List MemPlace}(h:DataW.trod enc Tryz.prog w base spare held bE 5 cs=some x):∃u,alc w u cs:=by
 obtain⟨n,rfl,_,hw⟩:=DataW.trod_int Tryz.underlying5 h;have h2:0<=n/\n<=255:=by simpa[Lit.wf,IntKind.min,IntKind.max,IntKind.signed,IntKind.bits]using hw
 obtain⟨m,rfl⟩:∃m:Nat,n=m:=⟨n.toNat,ag⟩;exact⟨m,rfl,ag⟩
theorem amj{H:Type}{enc:TypeId×Value->H}{w:World}{base:Nat}{spare:Nat->Bool}{held:Bool}{bE:Nat}{v:Value}{x:DataW H×List MemPlace}(h:DataW.trod enc Tryz.prog w base spare held bE 54 [v]=some x)(hz:Small Tryz.prog 54 x.1):∃l,aM w v 1 l alc:=
 sq Tryz.underlying54 amn ag (of_decide_eq_true aP) (λ_ _ _ _ hh _=>aml hh) h hz
theorem amm{H:Type}{enc:TypeId×Value->H}{W:World}{args:Array Value}{ds:List (DataW H)}{p:List MemPlace}{base:Nat}{params:Array TypeId}(hp:params= #[54])
  (h1:∀(j:Nat) t v,params[j]?=some t->args[j]?=some v->Value.okWide Tryz.prog W .any base t v)
  (hA:DataW.TrodAll enc Tryz.prog W 0 (λ_=>true) true [54] args.toList ds p) (hz:∀k∈DataW.weightsEach Tryz.prog [54] ds,k<=reachBytes):
  ∃(a:Option Addr) (c:Nat) (l:List Nat),args= #[.slice a l.length c]/\aM W (.slice a l.length c) 1 l alc:=by
 subst hp;obtain⟨v0,vs0,d0,ds0,p0,q0,tk,rfl,rfl,h0,r0⟩:=trodAll_cons hA;obtain⟨rfl,rfl,rfl⟩:=trodAll_nil r0;obtain rfl:args= #[v0]:=by cases args;simp_all
 obtain⟨f0,k0⟩:=h0;have TM:Small Tryz.prog 54 d0:=λk hk=>hz k (lI (i:=0) rfl rfl hk);have xY:v0.cells= #[v0]:=by
  obtain⟨_,_,_,rfl⟩:=okWide_slice Tryz.underlying54 (h1 0 54 v0 rfl rfl)
  rfl
 rw[xY]at k0;obtain⟨l,hs⟩:=amj (x:=(d0,_)) k0 TM;have Mh:=hs;obtain⟨a,n,c,b,o,rfl,rfl,_⟩:=hs;exact⟨a,c,l,rfl,Mh⟩
def aln:Array Value:=#[.slice none 0 0]
end
end Go.Proofs.YthfhgolkafpmnaaGreatDoor
