/- Texts joined: RunI RunJ Vis RunK RunDo Means DoF DoG DoorE. -/
import Derived.Test.YthfhgolkafpmnaaGreatDoorGD
import Derived.Test.YthfhgolkafpmnaaGreatDoorGG
import Derived.Test.YthfhgolkafpmnaaGreatDoorGH
import Derived.Test.YthfhgolkafpmnaaGreatDoorHD
import Derived.Test.YthfhgolkafpmnaaGreatDoorHF
import Derived.Test.YthfhgolkafpmnaaGreatDoorHN
namespace Go.Proofs.YthfhgolkafpmnaaGreatDoor
section
open Go Go.RowKit
attribute [local irreducible] wpListIn Code.wpIn Exit.then Exit.inBlock bodyPost wpQuiet wpAnyIn wpAnyH bodyPostM gX
set_option maxHeartbeats 8000000
theorem QU{α:Type}(x y a b c d e f g:α)(T C:List α):(x::y::a::b::c::d::e::f::g::(T++C)).Perm (a::b::c::d::e::f::g::((T++[y])++(C++[x]))):=by
 classical
 exact aJ.2 λz=>by simp only[bu,bi,cd];omega
theorem N9(u:a7)(hl:mC u)(h0:(dr u).1=0)(hs:ww u)(hu:iZ u)(g fs iv:Value)(cX:List Int)(bE:Nat)(hfu:bE<=100000)(afS:cX.length<=30)(w0:World)(hg:aM w0 g 3 u.globals fE)(hf:aM w0 fs 4 u.funcs gg)(mO:aM w0 iv 1 cX fj)(je:bG w0 0 0 mI):
  gV Tryz.prog 87 [.agg #[g,fs],iv,.int .i64 bE] w0 λv w'=>∃m:gQ,v=.tuple #[.slice m.ca m.cs.length m.cc,.agg #[.int .i64 m.state,.int .i64 m.value,.slice m.oa m.out.length m.oc,.int .i64 m.steps],.agg #[.int .i64 0,.int .i64 0]]/\
   Wd dh w0 (iO m::jO m::m.cs.map lH) w'/\DI m (cg u cX bE):=by
 have zt:=hg;have vE:=hf;have zu:=mO;obtain⟨ga,gn,gc,gb,go,rfl,NA,adu,adt,hgc,Th,O4⟩:=hg;obtain⟨fa,fn,fc,fb,fo,rfl,oY,O2,O1,Xg,uN,uO⟩:=hf;obtain⟨ia,il,ic,ib,io,rfl,iQ,adz,ady,adw,R1,O_⟩:=mO;refine aQ Tryz.func87 rfl Tryz.ntmps87 rfl (Wd.nil dh w0) ?_
 repeat(first|refine aU ?_|refine dX λ_ _=>?_)
 refine bI rfl (λw hw=>ue u hl _ _ w (zt.cu dv hw.cE) (vE.cu dk hw.cE) (je.cu hw.cE)) ?_;rw[nW h0]
 repeat(first|refine aI ?_|refine dX λ_ _=>?_)
 rw[show decide ((30:Int)<(il:Int))=false by simp;omega];refine aO ?_;refine bI rfl (λw _=>jk _ _ _ w) ?_;rw[show within (bE:Int) 0 100000=true by simp[within];omega]
 repeat(first|refine aO ?_|refine dX λ_ _=>?_)
 rename_i p3 _ p7 _ p8 _ p9 _ p _;refine kS 3 1 1 ?_;refine bP (λ(x:Nat×Option Addr×Nat)=>x.1<=gn) (λx=>[(41,.int .i64 x.1),(39,(Value.slice ga gn gc)),(40,.int .i64 gn),(10,.pointer (some ⟨p,0,none⟩)),(3,.pointer (some ⟨p3,0,none⟩)),(7,.pointer (some ⟨p7,0,none⟩)),(8,.pointer (some ⟨p8,0,none⟩)),(2,.int .i64 bE)]) (λx=>[aj p [(Value.slice ga gn gc),(Value.slice fa fn fc),(Value.slice none 0 0),.slice x.2.1 (se (u.globals.take x.1)).length x.2.2,(Value.slice ia il ic),.int .i64 0,.int .i64 0,(Value.slice none 0 0),.int .i64 0,(Value.slice none 0 0),(Value.slice none 0 0)] 168,aj p8 [.int .i64 0,.int .i64 0] 28,aj p7 [.int .i64 0,.int .i64 0,.slice none 0 0,.int .i64 0] 89,aj p3 [(Value.slice ga gn gc),(Value.slice fa fn fc)] 25,ai x.2.1 (se (u.globals.take x.1)).length x.2.2 3 1 ((se (u.globals.take x.1)).map (.int .i64))]) (λx=>gn-x.1) (0,none,0)
  (aY _) (aV aw ap) λx hi=>?_
 obtain⟨i,ma,mc⟩:=x;simp only at hi⊢;refine aU ?_;refine aN (λh1=>?_) (λh1=>?_)
 ·have bT:i<gn:=by simpa using h1
  obtain⟨G,hG⟩:=dJ NA bT;have afn:bY ga gb go:=⟨Th (aW hG)⟩;have mW:bZ i gn:=⟨bT⟩;obtain⟨cs,fZ,Iv,rfl,oj,Kc⟩:=O4 i G hG;have afF:a_ w0 gb (go+i*3) _:=⟨fZ⟩;have adA:=Kc;obtain⟨na,nn,nc,nb,no,rfl,Pm,agm,agl,agf,hna,agh⟩:=Kc;have hGm:=aA hG;have hgl:=hs.FV G hGm;have rf:(se (u.globals.take i)).length<=2000:=by
   have:=Bh (l:=u.globals.take i) λg hg=>hs.FV g (qm hg);have h9:=hs.ti;rw[cU]at this;omega
  repeat(first|refine aI ?_|refine dX λ_ _=>?_)
  rename_i oH _;obtain⟨ml,aa5⟩:∃ml,ml=se (u.globals.take i):=⟨_,rfl⟩;rw[<-aa5]at rf⊢;refine dR [aj oH [.string G.name,.int .i64 G.size,.slice na nn nc] 65] (λ_:Option Addr×Nat=>True) (λ_=>[(12,.pointer (some ⟨oH,0,none⟩)),(41,.int .i64 i),(39,(Value.slice ga gn gc)),(40,.int .i64 gn),(10,.pointer (some ⟨p,0,none⟩)),(3,.pointer (some ⟨p3,0,none⟩)),(7,.pointer (some ⟨p7,0,none⟩)),(8,.pointer (some ⟨p8,0,none⟩)),(2,.int .i64 bE)]) (λx=>[aj oH [.string G.name,.int .i64 G.size,.slice na nn nc] 65,aj p [(Value.slice ga gn gc),(Value.slice fa fn fc),(Value.slice none 0 0),.slice x.1 (ml.length+nn) x.2,(Value.slice ia il ic),.int .i64 0,.int .i64 0,(Value.slice none 0 0),.int .i64 0,(Value.slice none 0 0),(Value.slice none 0 0)] 168,aj p8 [.int .i64 0,.int .i64 0] 28,aj p7 [.int .i64 0,.int .i64 0,.slice none 0 0,.int .i64 0] 89,aj p3 [(Value.slice ga gn gc),(Value.slice fa fn fc)] 25,ai x.1 (ml.length+nn) x.2 3 1 (ml.map (.int .i64)++G.init.flatMap λy=>[.int .i64 y])]) mixed (by repeat(first|exact cN _|exact eL _|refine List.Sublist.cons_cons _ ?_)) ?_ λx _=>?_
  ·skip
   refine az 0 rfl aq (by repeat(first|exact cN _|exact eL _|refine List.Sublist.cons_cons _ ?_)) ?_;refine az 1 rfl aq (by repeat(first|exact cN _|exact eL _|refine List.Sublist.cons_cons _ ?_)) ?_;refine az 2 rfl aq (by repeat(first|exact cN _|exact eL _|refine List.Sublist.cons_cons _ ?_)) ?_;refine az 3 rfl aq (by repeat(first|exact cN _|exact eL _|refine List.Sublist.cons_cons _ ?_)) ?_;refine az 5 rfl aq (by repeat(first|exact cN _|exact eL _|refine List.Sublist.cons_cons _ ?_)) ?_;refine az 6 rfl aq (by repeat(first|exact cN _|exact eL _|refine List.Sublist.cons_cons _ ?_)) ?_;refine ck 4 aq (eY 4 rfl (by repeat(first|exact cN _|exact eL _|refine List.Sublist.cons_cons _ ?_)) ?_);refine ck 7 aq (MK 7 rfl rfl G.init (V:=fj) (λy=>[.int .i64 y]) (λ_ _ _ h=>h.1) (λ_=>rfl) (λ_ v hv=>by rw[bU.1 hv];rfl) (λw hw=>adA.cu eK hw.cE) ag ag (λ_=>(by repeat(first|exact cN _|exact eL _|refine List.Sublist.cons_cons _ ?_))) λa' c'=>?_);simp only[bS,cn];refine az 8 rfl aq (by repeat(first|exact cN _|exact eL _|refine List.Sublist.cons_cons _ ?_)) ?_;refine az 9 rfl aq (by repeat(first|exact cN _|exact eL _|refine List.Sublist.cons_cons _ ?_)) ?_;refine wP 10 aq (by repeat(first|exact cN _|exact eL _|refine List.Sublist.cons_cons _ ?_)) ?_;refine eF aq ?_;exact dN (a',c') trivial aw ag2
  obtain⟨a1,c1⟩:=x;simp only;have O0:(ml.map (.int .i64)++G.init.flatMap λy=>[Value.int .i64 y])=(ml++G.init).map (.int .i64):=by rw[tg,<-bB]
  obtain⟨k,hk⟩:∃k:Nat,k=G.size.toNat-G.init.length:=⟨_,rfl⟩;have hks:G.size-(nn:Int)=k:=ag;have xz:k<=200:=ag;refine aU ?_;refine dR [aj oH [.string G.name,.int .i64 G.size,.slice na nn nc] 65] (λ_:Option Addr×Nat=>True) (λ_=>[(41,.int .i64 i),(39,(Value.slice ga gn gc)),(40,.int .i64 gn),(10,.pointer (some ⟨p,0,none⟩)),(3,.pointer (some ⟨p3,0,none⟩)),(7,.pointer (some ⟨p7,0,none⟩)),(8,.pointer (some ⟨p8,0,none⟩)),(2,.int .i64 bE)]) (λx=>[aj p [(Value.slice ga gn gc),(Value.slice fa fn fc),(Value.slice none 0 0),.slice x.1 (ml.length+nn+k) x.2,(Value.slice ia il ic),.int .i64 0,.int .i64 0,(Value.slice none 0 0),.int .i64 0,(Value.slice none 0 0),(Value.slice none 0 0)] 168,aj p8 [.int .i64 0,.int .i64 0] 28,aj p7 [.int .i64 0,.int .i64 0,.slice none 0 0,.int .i64 0] 89,aj p3 [(Value.slice ga gn gc),(Value.slice fa fn fc)] 25,ai x.1 (ml.length+nn+k) x.2 3 1 ((ml.map (.int .i64)++G.init.flatMap λy=>[.int .i64 y])++List.replicate k (.int .i64 0))]) mixed (by repeat(first|exact cN _|exact eL _|refine List.Sublist.cons_cons _ ?_)) ?_ λx _=>?_
  ·skip
   refine az 0 rfl aq (by repeat(first|exact cN _|exact eL _|refine List.Sublist.cons_cons _ ?_)) ?_;refine az 1 rfl aq (by repeat(first|exact cN _|exact eL _|refine List.Sublist.cons_cons _ ?_)) ?_;refine az 2 rfl aq (by repeat(first|exact cN _|exact eL _|refine List.Sublist.cons_cons _ ?_)) ?_;refine az 3 rfl aq (by repeat(first|exact cN _|exact eL _|refine List.Sublist.cons_cons _ ?_)) ?_;refine az 5 rfl aq (by repeat(first|exact cN _|exact eL _|refine List.Sublist.cons_cons _ ?_)) ?_;refine az 6 rfl aq (by repeat(first|exact cN _|exact eL _|refine List.Sublist.cons_cons _ ?_)) ?_;refine az 7 rfl aq (by repeat(first|exact cN _|exact eL _|refine List.Sublist.cons_cons _ ?_)) ?_;refine az 8 rfl aq (by repeat(first|exact cN _|exact eL _|refine List.Sublist.cons_cons _ ?_)) ?_;refine az 9 rfl aq (by repeat(first|exact cN _|exact eL _|refine List.Sublist.cons_cons _ ?_)) ?_;refine az (h:=rE (by unfold c9 at oj;omega) (by unfold c9 at oj;omega)) 10 rfl aq (by repeat(first|exact cN _|exact eL _|refine List.Sublist.cons_cons _ ?_)) ?_;rw[hks];refine ck 4 aq (eY 4 rfl (by repeat(first|exact cN _|exact eL _|refine List.Sublist.cons_cons _ ?_)) ?_);refine ck 11 aq (ML 11 (kd:=.i64) Tryz.underlying3 rfl rfl ag ag (by decide) (λ_=>(by repeat(first|exact cN _|exact eL _|refine List.Sublist.cons_cons _ ?_))) λa' c'=>?_);simp only[bS,cn];refine az 12 rfl aq (by repeat(first|exact cN _|exact eL _|refine List.Sublist.cons_cons _ ?_)) ?_;refine az 13 rfl aq (by repeat(first|exact cN _|exact eL _|refine List.Sublist.cons_cons _ ?_)) ?_;refine wP 14 aq (by repeat(first|exact cN _|exact eL _|refine List.Sublist.cons_cons _ ?_)) ?_;refine eF aq ?_;exact dN (a',c') trivial aw (dZ _ _)
  obtain⟨a2,c2⟩:=x;simp only;rw[O0];have XC:=ME hG;rw[<-aa5,<-hk,<-dE]at XC;refine aO ?_;rw[show(i:Int)+1=((i+1:Nat):Int) by omega]
  skip
  refine bC (i+1,a2,c2) bT (by simp only;omega) aw ?_;simp only[XC,bB,List.map_replicate,bR,ef,<-Pm];exact cN _
 have hig:gn=i:=by have:=h1;simp at this;omega
 subst hig;rw[show u.globals.take gn=u.globals by rw[NA,cO]];refine aI ?_;refine kS 69 1 1 ?_;refine kS 42 1 1 ?_;obtain⟨ml,rf⟩:∃ml,ml=se u.globals:=⟨_,rfl⟩;rw[<-rf];refine bP (λ(x:Nat×(Option Addr×Nat×List HP)×(Option Addr×Nat×List qT))=>x.1<=fn/\x.2.1.2.2.map (·.l)=(lE u).take x.1/\x.2.2.2.2.map (·.l)=(u.funcs.take x.1).map λX=>List.replicate X.blocks.length 0) (λx=>[(73,.int .i64 x.1),(71,(Value.slice fa fn fc)),(72,.int .i64 fn),(10,.pointer (some ⟨p,0,none⟩)),(3,.pointer (some ⟨p3,0,none⟩)),(7,.pointer (some ⟨p7,0,none⟩)),(8,.pointer (some ⟨p8,0,none⟩)),(2,.int .i64 bE)])
  (λx=>aj p [(Value.slice ga gn gc),(Value.slice fa fn fc),.slice x.2.1.1 x.2.1.2.2.length x.2.1.2.1,.slice ma ml.length mc,(Value.slice ia il ic),.int .i64 0,.int .i64 0,(Value.slice none 0 0),.int .i64 0,(Value.slice none 0 0),.slice x.2.2.1 x.2.2.2.2.length x.2.2.2.1] 168::aj p8 [.int .i64 0,.int .i64 0] 28::aj p7 [.int .i64 0,.int .i64 0,.slice none 0 0,.int .i64 0] 89::aj p3 [(Value.slice ga gn gc),(Value.slice fa fn fc)] 25::ai ma ml.length mc 3 1 (ml.map (.int .i64))::ai x.2.1.1 x.2.1.2.2.length x.2.1.2.1 69 1 (x.2.1.2.2.map yA)::ai x.2.2.1 x.2.2.2.2.length x.2.2.2.1 42 1 (x.2.2.2.2.map Fz)::(x.2.1.2.2.map v_++x.2.2.2.2.map lH)) (λx=>fn-x.1) (0,(none,0,[]),(none,0,[]))
  ⟨aY _,rfl,rfl⟩ (aV aw ag2) λx hi=>?_
 obtain⟨k,⟨aa,ac,ts⟩,⟨ca,cc,cs⟩⟩:=x;simp only at hi⊢;obtain⟨hk,TG,fZ⟩:=hi;have afq:(lE u).length=fn:=by simp[lE,oY]
 have xC:ts.length=k:=by have:=congrArg List.length TG;rw[aG,cU]at this;omega
 have fv:cs.length=k:=by have:=congrArg List.length fZ;rw[aG,aG,cU]at this;omega
 have afM:=hs.funcs;refine aU ?_;refine aN (λh1=>?_) (λh1=>?_)
 ·have bT:k<fn:=by simpa using h1
  obtain⟨X,hX⟩:=dJ oY bT;have afm:bY fa fb fo:=⟨uN (aW hX)⟩;have mW:bZ k fn:=⟨bT⟩;obtain⟨fcs,adp,bv,rfl,_,_,zR⟩:=uO k X hX;have aaD:a_ w0 fb (fo+k*4) _:=⟨adp⟩;obtain⟨ba,bn,bc,_,_,rfl,pC,_⟩:=zR;obtain⟨R,fW⟩:=hu.2 k X hX;have iR:=fW.Wo
  repeat(first|refine aI ?_|refine dX λ_ _=>?_)
  rename_i kt _;refine cV (val:=λx:(Option Addr×Nat×Nat)×(Nat->Prop)=>.tuple #[.slice x.1.1 x.1.2.1 x.1.2.2,.agg #[.int .i64 0,.int .i64 0]]) (E:=λx=>[⟨x.2,λw=>aM w (.slice x.1.1 x.1.2.1 x.1.2.2) 1 (bm X.blocks) cS⟩]) (φ:=λ_=>True) rfl (λw hw=>Uz u hl h0 k X hX iR fW.ok.iM _ _ w (zt.cu dv hw.cE) (vE.cu dk hw.cE) (je.cu hw.cE)) λx _=>?_;obtain⟨⟨ta,tn,tc⟩,tf⟩:=x;simp only[a6,aT]
  repeat(first|refine aI ?_|refine dX λ_ _=>?_)
  rename_i HI _ q1 _;refine gq 9 rfl rfl aq ag ag λna nc=>?_;simp only[cn,bS];refine aI ?_;refine dR [aj kt [.string X.name,.int .i64 X.params,.int .i64 X.aF,.slice ba bn bc] 35] (λ_:(Option Addr×Nat)×Nat=>True) (λ_=>[(73,.int .i64 k),(71,(Value.slice fa fn fc)),(72,.int .i64 fn),(10,.pointer (some ⟨p,0,none⟩)),(3,.pointer (some ⟨p3,0,none⟩)),(7,.pointer (some ⟨p7,0,none⟩)),(8,.pointer (some ⟨p8,0,none⟩)),(2,.int .i64 bE)]) (λx=>ai (some ⟨x.2,0,none⟩) bn bn 3 1 (List.replicate bn (.int .i64 0))::v_ (⟨ta,tn,tc,tf,bm X.blocks⟩:HP)::aj p [(Value.slice ga gn gc),(Value.slice fa fn fc),.slice na (ts.length+1) nc,.slice ma ml.length mc,(Value.slice ia il ic),.int .i64 0,.int .i64 0,(Value.slice none 0 0),.int .i64 0,(Value.slice none 0 0),.slice x.1.1 (cs.length+1) x.1.2] 168::aj p8 [.int .i64 0,.int .i64 0] 28::aj p7 [.int .i64 0,.int .i64 0,.slice none 0 0,.int .i64 0] 89::aj p3 [(Value.slice ga gn gc),(Value.slice fa fn fc)] 25::ai ma ml.length mc 3 1 (ml.map (.int .i64))::ai na (ts.length+1) nc 69 1 (ts.map yA++[yA (⟨ta,tn,tc,tf,bm X.blocks⟩:HP)])::ai x.1.1 (cs.length+1) x.1.2 42 1 (cs.map Fz++[.slice (some ⟨x.2,0,none⟩) bn bn])::(ts.map v_++cs.map lH)) mixed ap ?_ λx _=>?_
  ·skip
   refine az 0 rfl aq ap ?_;refine az 1 rfl aq ap ?_;refine az 2 rfl aq ap ?_;refine az 3 rfl aq ap ?_;refine az 5 rfl aq ap ?_;refine az 6 rfl aq ap ?_;refine az 7 rfl aq ap ?_;refine kG 4 8 aq ?_ ?_
   ·refine eY 4 rfl ap ?_
    refine ck 8 aq (EI 8 (n:=bn) rfl ag ag ap λq2 _=>?_);refine ck 9 aq (ji 9 rfl aq ap λq3 _=>?_);refine j1 10 12 rfl rfl aq ag ag aq (λ_=>ap) λnd ne=>?_;simp only[cn,bS];refine az 11 rfl aq ap ?_;refine az 12 rfl aq ap ?_;refine wP 13 aq ap ?_;refine eF aq ?_;exact dN ((nd,ne),q2) trivial aw (by repeat(first|exact cN _|refine List.Sublist.cons_cons _ ?_|refine List.Sublist.cons _ ?_))
   ·refine EI 8 (n:=bn) rfl ag ag ap λq2 _=>?_
    refine kG 4 9 aq ?_ ?_
    ·refine eY 4 rfl ap ?_
     refine ck 9 aq (ji 9 rfl aq ap λq3 _=>?_);refine j1 10 12 rfl rfl aq ag ag aq (λ_=>ap) λnd ne=>?_;simp only[cn,bS];refine az 11 rfl aq ap ?_;refine az 12 rfl aq ap ?_;refine wP 13 aq ap ?_;refine eF aq ?_;exact dN ((nd,ne),q2) trivial aw (by repeat(first|exact cN _|refine List.Sublist.cons_cons _ ?_|refine List.Sublist.cons _ ?_))
    ·refine ji 9 rfl aq ap λq3 _=>?_
     refine ck 4 aq (eY 4 rfl ap ?_);refine j1 10 12 rfl rfl aq ag ag aq (λ_=>ap) λnd ne=>?_;simp only[cn,bS];refine az 11 rfl aq ap ?_;refine az 12 rfl aq ap ?_;refine wP 13 aq ap ?_;refine eF aq ?_;exact dN ((nd,ne),q2) trivial aw (by repeat(first|exact cN _|refine List.Sublist.cons_cons _ ?_|refine List.Sublist.cons _ ?_))
  obtain⟨⟨nd,ne⟩,q2⟩:=x;simp only;refine aO ?_;rw[show(k:Int)+1=((k+1:Nat):Int) by omega];have hXl:u.funcs.take (k+1)=u.funcs.take k++[X]:=by rw[cj,hX];rfl
  have hAl:(lE u).take (k+1)=(lE u).take k++[bm X.blocks]:=by rw[cj];simp only[lE,aK,hX];rfl
  refine bj (QU _ _ _ _ _ _ _ _ _ (ts.map v_) (cs.map lH)) ?_;refine bC (k+1,(na,nc,ts++[(⟨ta,tn,tc,tf,bm X.blocks⟩:HP)]),(nd,ne,cs++[⟨some ⟨q2,0,none⟩,bn,List.replicate X.blocks.length 0⟩])) ⟨bT,by simp only[bB,bO,dp,TG,hAl],by simp only[bB,bO,dp,fZ,hXl]⟩ (by simp only;omega) aw ?_;subst pC;simp only[bB,bO,dp,bR,jL,Fz,lH,ef,List.map_replicate];exact cN _
 have Zj:fn=k:=by have:=h1;simp at this;omega
 subst Zj;rw[jw ag]at TG;rw[jw ag]at fZ;obtain⟨fm,M,Gl,hM⟩:=hs.main;obtain⟨R,Kb⟩:=hu.2 fm M hM;refine aI ?_;refine bI rfl (λw hw=>TW _ u.funcs w (vE.cu dk hw.cE)) ?_;rw[Gl];refine kS 206 5 1 ?_;refine kS 3 1 1 ?_;obtain⟨m0,To⟩:∃m0:gQ,m0=⟨ma,mc,ml,(Value.slice ia il ic),cX,0,0,none,0,[],0,none,0,[],ca,cc,cs⟩:=⟨_,rfl⟩;refine bj (H1:=c_ p (Value.slice ga gn gc) (Value.slice fa fn fc) (Value.slice aa ts.length ac) m0++(ai aa ts.length ac 69 1 (ts.map yA)::(ts.map v_++[aj p8 [.int .i64 0,.int .i64 0] 28,aj p7 [.int .i64 0,.int .i64 0,.slice none 0 0,.int .i64 0] 89,aj p3 [(Value.slice ga gn gc),(Value.slice fa fn fc)] 25]))) (by rw[To];exact Jl _ _ _ _ _ _ _ _ _ (ts.map v_) (cs.map lH)) ?_;have OU:∀r∈cs,∃X∈u.funcs,r.l=List.replicate X.blocks.length 0:=λr hr=>by
  have h9:r.l∈cs.map (·.l):=aX.2 ⟨r,hr,rfl⟩;rw[fZ]at h9;obtain⟨X,hX,e⟩:=aX.1 h9;exact⟨X,hX,e.symm⟩
 have ve:m0.Bd:=by
  have h8:=Bh hs.FV;have h9:=hs.ti;rw[To,rf];refine⟨by simp,by simp,⟨by simp only;omega,KC hs.init⟩,by simp,by simp only;omega,λr hr=>?_,by simp⟩;obtain⟨X,hX,e⟩:=OU r hr;obtain⟨k,hk⟩:=br hX;obtain⟨_,fW⟩:=hu.2 k X hk;have:=fW.Wo;exact⟨by rw[e];simp;omega,λx hx=>by rw[e]at hx;rw[jI hx];omega⟩
 obtain⟨cr,AN,W_⟩:∃cr,cs[fm]?=some cr/\cr.l=List.replicate M.blocks.length 0:=by
  have h9:(cs.map (·.l))[fm]?=some (List.replicate M.blocks.length 0):=by rw[fZ,aK,hM];rfl
  rw[aK]at h9;exact cT.1 h9
 refine iJ (H1:=c_ p (Value.slice ga gn gc) (Value.slice fa fn fc) (Value.slice aa ts.length ac) m0) (val:=λ_:Option Addr×Nat×Option Addr×Nat=>.tuple #[]) (E:=λx=>c_ p (Value.slice ga gn gc) (Value.slice fa fn fc) (Value.slice aa ts.length ac) {m0 with fa:=x.1,fc:=x.2.1,rows:=m0.rows++[⟨⟨fm,0,0,ek R [],-1⟩,x.2.2.1,x.2.2.2⟩],cs:=k6 m0.cs fm 0}) (φ:=λ_=>True) (Al w0) rfl (λCG w mw hle _ hw=>JV mw u p _ _ _ (vE.le lV hle) m0 ve fm M hM R Kb.aF Kb.le (-1) [] none 0 0 ⟨none,0,0,0,0,rfl,rfl,bH _,ag,ag,λh=>absurd rfl h,by simp⟩ (aY _) cr (by rw[To];exact AN) (by rw[W_,ef];exact Kb.pos) w hw) λx _=>?_;obtain⟨na,nc,nb,nd⟩:=x;obtain⟨m1,Ek⟩:∃m1:gQ,m1={m0 with fa:=na,fc:=nc,rows:=m0.rows++[⟨⟨fm,0,0,ek R [],-1⟩,nb,nd⟩],cs:=k6 m0.cs fm 0}:=⟨_,rfl⟩;simp only;rw[<-Ek];have Mf:∃rest t,HC m1 (iU u cX) rest t:=by
  rw[start_eq Gl hM Kb.aF,Ek,To];exact⟨[],⟨⟨fm,0,0,ek R [],-1⟩,nb,nd⟩,rfl,rfl,rfl,rf,rfl,rfl,rfl,by simp only[DV,fZ],rfl,rfl⟩
 have L7:∀x∈cX,c9 x:=λx hx=>by
  obtain⟨k,hk⟩:=br hx;obtain⟨_,_,_,h9⟩:=O_ k x hk;exact h9
 have adB:aM w0 m1.iv 1 m1.cX fj:=by rw[Ek,To];exact zu
 refine Wq ?_;refine Ww (λm:gQ=>DI m (cg u cX bE)) (λ_=>[(10,.pointer (some ⟨p,0,none⟩)),(3,.pointer (some ⟨p3,0,none⟩)),(7,.pointer (some ⟨p7,0,none⟩)),(8,.pointer (some ⟨p8,0,none⟩)),(2,.int .i64 bE)]) (λm=>c_ p (Value.slice ga gn gc) (Value.slice fa fn fc) (Value.slice aa ts.length ac) m++(ai aa ts.length ac 69 1 (ts.map yA)::(ts.map v_++[aj p8 [.int .i64 0,.int .i64 0] 28,aj p7 [.int .i64 0,.int .i64 0,.slice none 0 0,.int .i64 0] 89,aj p3 [(Value.slice ga gn gc),(Value.slice fa fn fc)] 25]))) ?_ λm hm=>?_
 ·refine aO ?_
  refine bP (λx:gQ×js=>(∃rest t,HC x.1 x.2 rest t)/\ij u (x.2.steps+1) x.2/\x.2.steps<=bE/\aM w0 x.1.iv 1 x.1.cX fj/\mS u (bE-x.2.steps) x.2=cg u cX bE) (λ_=>[(10,.pointer (some ⟨p,0,none⟩)),(3,.pointer (some ⟨p3,0,none⟩)),(7,.pointer (some ⟨p7,0,none⟩)),(8,.pointer (some ⟨p8,0,none⟩)),(2,.int .i64 bE)]) (λx=>c_ p (Value.slice ga gn gc) (Value.slice fa fn fc) (Value.slice aa ts.length ac) x.1++(ai aa ts.length ac 69 1 (ts.map yA)::(ts.map v_++[aj p8 [.int .i64 0,.int .i64 0] 28,aj p7 [.int .i64 0,.int .i64 0,.slice none 0 0,.int .i64 0] 89,aj p3 [(Value.slice ga gn gc),(Value.slice fa fn fc)] 25]))) (λx=>bE-x.2.steps) (m1,iU u cX) ⟨Mf,tS hu hs L7,aY _,adB,rfl⟩ (aV aw ag2) λx hx=>?_;obtain⟨m,s⟩:=x;obtain⟨⟨rest,t,hr⟩,cW,hsf,Kc,pF⟩:=hx;simp only at hr cW hsf Kc pF⊢;refine fg (H1:=aj p [(Value.slice ga gn gc),(Value.slice fa fn fc),(Value.slice aa ts.length ac),.slice m.ma m.mem.length m.mc,m.iv,.int .i64 m.state,.int .i64 m.value,.slice m.oa m.out.length m.oc,.int .i64 m.steps,.slice m.fa m.rows.length m.fc,.slice m.ca m.cs.length m.cc] 168::((kp m::jF m::iO m::jO m::(m.rows.map oV++m.cs.map lH))++(ai aa ts.length ac 69 1 (ts.map yA)::(ts.map v_++[aj p8 [.int .i64 0,.int .i64 0] 28,aj p7 [.int .i64 0,.int .i64 0,.slice none 0 0,.int .i64 0] 89,aj p3 [(Value.slice ga gn gc),(Value.slice fa fn fc)] 25])))) rfl ?_;refine aO ?_;have Pj:=hr.steps;have hz:=hr.zero;refine Or.elim (Classical.em (s.steps=bE)) (λhe=>?_) (λhe=>?_)
  ·rw[show decide ((m.steps:Int)=(bE:Int))=true by simp;omega]
   refine aO ?_;refine fg (H1:=c_ p (Value.slice ga gn gc) (Value.slice fa fn fc) (Value.slice aa ts.length ac) m++(ai aa ts.length ac 69 1 (ts.map yA)::(ts.map v_++[aj p8 [.int .i64 0,.int .i64 0] 28,aj p7 [.int .i64 0,.int .i64 0,.slice none 0 0,.int .i64 0] 89,aj p3 [(Value.slice ga gn gc),(Value.slice fa fn fc)] 25]))) rfl ?_;refine iJ (H1:=c_ p (Value.slice ga gn gc) (Value.slice fa fn fc) (Value.slice aa ts.length ac) m) (val:=λ_:Unit=>.bool false) (E:=λ_=>c_ p (Value.slice ga gn gc) (Value.slice fa fn fc) (Value.slice aa ts.length ac) {m with state:=1}) (φ:=λ_=>True) (Al w0) rfl (λCG w _ _ _ hw=>uJ p _ _ _ m 1 w hw) λ_ _=>?_;refine aI ?_;refine dN {m with state:=1} ?_ aw ag2;rw[<-pF,he,dq];exact⟨rfl,hz.2,hr.out,hr.steps,hr.kB⟩
  ·rw[show decide ((m.steps:Int)=(bE:Int))=false by simp;omega]
   refine aO ?_;refine fg (H1:=c_ p (Value.slice ga gn gc) (Value.slice fa fn fc) (Value.slice aa ts.length ac) m++(ai aa ts.length ac 69 1 (ts.map yA)::(ts.map v_++[aj p8 [.int .i64 0,.int .i64 0] 28,aj p7 [.int .i64 0,.int .i64 0,.slice none 0 0,.int .i64 0] 89,aj p3 [(Value.slice ga gn gc),(Value.slice fa fn fc)] 25]))) rfl ?_;refine iJ (H1:=c_ p (Value.slice ga gn gc) (Value.slice fa fn fc) (Value.slice aa ts.length ac) m) (val:=λy:gQ×Bool=>.bool y.2) (E:=λy=>c_ p (Value.slice ga gn gc) (Value.slice fa fn fc) (Value.slice aa ts.length ac) y.1) (φ:=λy=>yK m (iE u s) y) (Al w0) rfl (λCG w mw hle hwd hw=>UN mw u hu p _ _ _ (vE.le lV hle) (by have h9:=UA hwd rfl ag;rw[TG]at h9;exact h9) m s rest t hr cW ag (Kc.le lz hle) w hw) λy hy=>?_;obtain⟨m',b⟩:=y;obtain⟨hvs,kr⟩:=hy;simp only at hvs kr⊢;have xV:bE-s.steps=(bE-(s.steps+1))+1:=ag;rw[xV,mS]at pF;cases Xd:iE u s with
   |inl s'=>
    rw[Xd]at kr pF;simp only at kr pF;obtain⟨rfl,AZ⟩:=kr;obtain⟨ad2,hss⟩:=jV hu cW Xd;refine aO ?_;refine bC (m',s') ⟨AZ,ad2,by simp only;omega,hvs.sl Kc,by simp only;rw[hss];exact pF⟩ (by simp only;omega) aw ag2
   |inr f=>
    rw[Xd]at kr pF;simp only at kr pF;obtain⟨rfl,AZ⟩:=kr;refine aI ?_;exact dN m' (by rw[<-pF];exact AZ) aw ag2
 refine bj (H1:=aj p [(Value.slice ga gn gc),(Value.slice fa fn fc),(Value.slice aa ts.length ac),.slice m.ma m.mem.length m.mc,m.iv,.int .i64 m.state,.int .i64 m.value,.slice m.oa m.out.length m.oc,.int .i64 m.steps,.slice m.fa m.rows.length m.fc,.slice m.ca m.cs.length m.cc] 168::aj p8 [.int .i64 0,.int .i64 0] 28::aj p7 [.int .i64 0,.int .i64 0,.slice none 0 0,.int .i64 0] 89::iO m::jO m::(m.cs.map lH++(kp m::jF m::ai aa ts.length ac 69 1 (ts.map yA)::aj p3 [(Value.slice ga gn gc),(Value.slice fa fn fc)] 25::(m.rows.map oV++ts.map v_)))) (MO _ _ _ _ _ _ _ _ _ (m.rows.map oV) (ts.map v_) (m.cs.map lH)) ?_;refine jp (L':=[(10,.pointer (some ⟨p,0,none⟩)),(3,.pointer (some ⟨p3,0,none⟩)),(7,.pointer (some ⟨p7,0,none⟩)),(8,.pointer (some ⟨p8,0,none⟩)),(2,.int .i64 bE)]) (H':=aj p [(Value.slice ga gn gc),(Value.slice fa fn fc),(Value.slice aa ts.length ac),.slice m.ma m.mem.length m.mc,m.iv,.int .i64 m.state,.int .i64 m.value,.slice m.oa m.out.length m.oc,.int .i64 m.steps,.slice m.fa m.rows.length m.fc,.slice m.ca m.cs.length m.cc] 168::aj p8 [.int .i64 0,.int .i64 0] 28::aj p7 [.int .i64 0,.int .i64 0,.slice none 0 0,.int .i64 0] 89::iO m::jO m::m.cs.map lH) aw (dn (dn (dn (dn (dn (dY _ _)))))) ?_;refine aU ?_;refine dR [aj p [(Value.slice ga gn gc),(Value.slice fa fn fc),(Value.slice aa ts.length ac),.slice m.ma m.mem.length m.mc,m.iv,.int .i64 m.state,.int .i64 m.value,.slice m.oa m.out.length m.oc,.int .i64 m.steps,.slice m.fa m.rows.length m.fc,.slice m.ca m.cs.length m.cc] 168] (λ_:Unit=>True) (λ_=>[(6,.slice m.ca m.cs.length m.cc),(7,.pointer (some ⟨p7,0,none⟩)),(8,.pointer (some ⟨p8,0,none⟩))]) (λ_=>aj p8 [.int .i64 0,.int .i64 0] 28::aj p7 [.int .i64 m.state,.int .i64 m.value,.slice m.oa m.out.length m.oc,.int .i64 m.steps] 89::iO m::jO m::m.cs.map lH) mixed ap ?_ λ_ _=>?_
 ·skip
  refine az 0 rfl aq ap ?_;refine az 1 rfl aq ap ?_;refine az 2 rfl aq ap ?_;refine az 3 rfl aq ap ?_;refine az 4 rfl aq ap ?_;refine az 5 rfl aq ap ?_;refine az 6 rfl aq ap ?_;refine az 7 rfl aq ap ?_;refine az 8 rfl aq ap ?_;refine az 9 rfl aq ap ?_;refine cH 10 aq ap ?_;refine cH 11 aq ap ?_;refine eF aq ?_;exact dN () trivial aw (dZ _ _)
 refine aO ?_;exact wN rfl λw' dO=>⟨m,rfl,dO.sub (.cons _ (.cons _ (.refl _))),hm⟩
def eT(u:a7)(n:Nat)(bE:Int):Int×Int:=if (dr u).1≠0 then dr u else if 30<n then(2,-1)else if !within bE 0 100000 then(3,-1)else(0,0)
theorem H8(u:a7)(hl:mC u)(g fs iv:Value)(cX:List Int)(bE:Int)(zp:(eT u cX.length bE).1≠0)(w0:World)(hg:aM w0 g 3 u.globals fE)(hf:aM w0 fs 4 u.funcs gg)(mO:aM w0 iv 1 cX fj)(je:bG w0 0 0 mI):
  fi Tryz.prog 87 [.agg #[g,fs],iv,.int .i64 bE] w0 (.tuple #[.slice none 0 0,.agg #[.int .i64 0,.int .i64 0,.slice none 0 0,.int .i64 0],.agg #[.int .i64 (eT u cX.length bE).1,.int .i64 (eT u cX.length bE).2]]):=by
 have zt:=hg;have vE:=hf;obtain⟨ga,gn,gc,gb,go,rfl,_⟩:=hg;obtain⟨fa,fn,fc,fb,fo,rfl,_⟩:=hf;obtain⟨ia,il,ic,ib,io,rfl,iQ,_⟩:=mO;refine aQ Tryz.func87 rfl Tryz.ntmps87 rfl (Wd.nil dh w0) ?_
 repeat(first|refine aU ?_|refine dX λ_ _=>?_)
 refine bI rfl (λw hw=>ue u hl _ _ w (zt.cu dv hw.cE) (vE.cu dk hw.cE) (je.cu hw.cE)) ?_
 repeat(first|refine aI ?_|refine dX λ_ _=>?_)
 rename_i p3 _ p7 _ p8 _ p9 _;refine aN (λh1=>?_) (λh1=>?_)
 ·have eH:(dr u).1≠0:=by
   intro h0;rw[nW h0]at h1;simp at h1
  rw[show eT u cX.length bE=dr u by unfold eT;rw[if_pos eH]];refine aU ?_;refine jp (L':=[(7,.pointer (some ⟨p7,0,none⟩)),(8,.pointer (some ⟨p8,0,none⟩)),(9,.pointer (some ⟨p9,0,none⟩))]) aw (.refl _) ?_;refine dR [aj p9 [.int .i64 (dr u).1,.int .i64 (dr u).2] 28] (λ_:Unit=>True) (λ_=>[(6,.slice none 0 0),(7,.pointer (some ⟨p7,0,none⟩)),(8,.pointer (some ⟨p8,0,none⟩))]) (λ_=>[aj p9 [.int .i64 (dr u).1,.int .i64 (dr u).2] 28,aj p8 [.int .i64 (dr u).1,.int .i64 (dr u).2] 28,aj p7 [.int .i64 0,.int .i64 0,.slice none 0 0,.int .i64 0] 89]) mixed ap ?_ λ_ _=>?_
  ·skip
   refine az 0 rfl aq ap ?_;refine az 1 rfl aq ap ?_;refine az 2 rfl aq ap ?_;refine cH 3 aq ap ?_;refine cH 4 aq ap ?_;refine eF aq ?_;exact dN () trivial aw aH
  refine aI ?_;exact wN rfl λw' dO=>⟨rfl,dO.cE⟩
 have Ef:¬(dr u).1≠0:=by simp at h1;omega
 refine aO ?_;refine aN (λh2=>?_) (λh2=>?_)
 ·have vB:30<cX.length:=by simp at h2;omega
  rw[show eT u cX.length bE=(2,-1) by unfold eT;rw[if_neg Ef,if_pos vB]];refine aU ?_;refine bI rfl (λw _=>oN _ _ w) ?_;refine aI ?_;exact wN rfl λw' dO=>⟨rfl,dO.cE⟩
 have vB:¬30<cX.length:=by simp at h2;omega
 refine aO ?_;refine bI rfl (λw _=>jk _ _ _ w) ?_;refine aU ?_;refine aN (λh3=>?_) (λh3=>?_)
 ·rw[show eT u cX.length bE=(3,-1) by unfold eT;rw[if_neg Ef,if_neg vB,if_pos (by simpa using h3)]]
  refine aU ?_;refine bI rfl (λw _=>oN _ _ w) ?_;refine aI ?_;exact wN rfl λw' dO=>⟨rfl,dO.cE⟩
 ·exact absurd (by unfold eT;rw[if_neg Ef,if_neg vB,if_neg (by simpa using h3)]) zp
end
section
open Go Go.RowKit
set_option maxHeartbeats 2000000
theorem wF{u:a7}{n:Nat}{bE:Int}(h:(eT u n bE).1=0):(dr u).1=0/\n<=30/\∃k:Nat,bE=k/\k<=100000:=by
 unfold eT at h
 split at h
 ·rename_i h1;exact absurd h h1
 rename_i h1
 split at h
 ·cases h
 split at h
 ·cases h
 rename_i h3;simp only[within,Bool.not_eq_true',Bool.and_eq_false_iff,decide_eq_false_iff_not,not_or,Decidable.not_not]at h3;exact⟨by simpa using h1,ag,bE.toNat,ag,ag⟩
end
section
open Go Go.RowKit
attribute [local irreducible] wpListIn Code.wpIn Exit.then Exit.inBlock bodyPost wpQuiet wpAnyIn wpAnyH bodyPostM gX
set_option maxHeartbeats 4000000
theorem Nj{u:a7}{s:js}{f:Fin}(he:iE u s=.inr f):f.out=s.out:=by
 rw[gY]at he
 split at he
 ·unfold k8 at he
  split at he
  ·cases he
  split at he
  ·cases he
  split at he
  ·rw[<-Sum.inr.inj he];rfl
  ·cases he
 ·unfold j5 at he
  simp only at he
  repeat' (split at he)
  all_goals first
   |(cases he;done)
   |(rw[<-Sum.inr.inj he]<;>rfl)
theorem KU{u:a7}(hu:iZ u):∀(n:Nat) (s:js),ij u (s.steps+1) s->(mS u n s).out.length<=200/\∀x∈(mS u n s).out,c9 x
 |0,s,h=>h.out
 |n+1,s,h=>by
  rw[mS];cases he:iE u s with
  |inl s'=>exact KU hu n s' (jV hu h he).1
  |inr f=>simp only;rw[Nj he];exact h.out
theorem Jv{u:a7}(hu:iZ u)(hs:ww u){cX:List Int}(mO:∀x∈cX,c9 x)(bE:Nat):(cg u cX bE).out.length<=200/\∀x∈(cg u cX bE).out,c9 x:=
 KU hu bE (iU u cX) (tS hu hs mO)
theorem Wk(u:a7)(hl:mC u)(g fs iv:Value)(cX:List Int)(bE:Int)(zp:(eT u cX.length bE).1≠0)(w0:World)(hg:aM w0 g 3 u.globals fE)(hf:aM w0 fs 4 u.funcs gg)(mO:aM w0 iv 1 cX fj)(je:bG w0 0 0 mI):
  fi Tryz.prog 53 [.agg #[g,fs],iv,.int .i64 bE] w0 (.tuple #[.agg #[.int .i64 0,.int .i64 0,.slice none 0 0,.int .i64 0],.agg #[.int .i64 (eT u cX.length bE).1,.int .i64 (eT u cX.length bE).2]]):=by
 have zt:=hg;have vE:=hf;have zu:=mO;obtain⟨ga,gn,gc,gb,go,rfl,_⟩:=hg;obtain⟨fa,fn,fc,fb,fo,rfl,_⟩:=hf;obtain⟨ia,il,ic,ib,io,rfl,iQ,_⟩:=mO;refine aQ Tryz.func53 rfl Tryz.ntmps53 rfl (Wd.nil dh w0) ?_
 repeat(first|refine aU ?_|refine dX λ_ _=>?_)
 refine bI rfl (λw hw=>H8 u hl _ _ _ cX bE zp w (zt.cu dv hw.cE) (vE.cu dk hw.cE) (zu.cu eK hw.cE) (je.cu hw.cE)) ?_
 repeat(first|refine aI ?_|refine dX λ_ _=>?_)
 rename_i p3 _ p6 _ p7 _ p9 _ HH _;refine jp (L':=[(6,.pointer (some ⟨p6,0,none⟩)),(7,.pointer (some ⟨p7,0,none⟩)),(9,.pointer (some ⟨p9,0,none⟩)),(10,.pointer (some ⟨HH,0,none⟩))]) aw (.refl _) ?_;refine dR [aj HH [.int .i64 (eT u cX.length bE).1,.int .i64 (eT u cX.length bE).2] 28,aj p9 [.int .i64 0,.int .i64 0,.slice none 0 0,.int .i64 0] 89] (λ_:Unit=>True) (λ_=>[(6,.pointer (some ⟨p6,0,none⟩)),(7,.pointer (some ⟨p7,0,none⟩))]) (λ_=>[aj p7 [.int .i64 (eT u cX.length bE).1,.int .i64 (eT u cX.length bE).2] 28,aj p6 [.int .i64 0,.int .i64 0,.slice none 0 0,.int .i64 0] 89]) mixed ap ?_ λ_ _=>?_
 ·skip
  refine az 0 rfl aq ap ?_;refine az 1 rfl aq ap ?_;refine cH 2 aq ap ?_;refine cH 3 aq ap ?_;refine eF aq ?_;exact dN () trivial aw aH
 refine aO ?_;exact rZ rfl λw' dO=>⟨rfl,dO.cE⟩
theorem U0(u:a7)(hl:mC u)(g fs iv:Value)(cX:List Int)(bE:Nat)(pD:(eT u cX.length bE).1=0)(w0:World)(hg:aM w0 g 3 u.globals fE)(hf:aM w0 fs 4 u.funcs gg)(mO:aM w0 iv 1 cX fj)(je:bG w0 0 0 mI):
  gV Tryz.prog 53 [.agg #[g,fs],iv,.int .i64 bE] w0 λv w'=>∃x:Option Addr×Nat×(Nat->Prop),
   v=.tuple #[.agg #[.int .i64 (cg u cX bE).state,.int .i64 (cg u cX bE).value,.slice x.1 (cg u cX bE).out.length x.2.1,.int .i64 (cg u cX bE).steps],.agg #[.int .i64 0,.int .i64 0]]/\
   Wd dh w0 [⟨x.2.2,λw=>aM w (.slice x.1 (cg u cX bE).out.length x.2.1) 1 (cg u cX bE).out fj⟩] w'/\True:=by
 obtain⟨h0,adx,k,hk,Vs⟩:=wF pD;have Zj:bE=k:=ag;have hu:=Hy hl h0 (KJ hf);have hs:=yR h0 (FX hg);have L7:∀x∈cX,c9 x:=λx hx=>by obtain⟨_,_,h9⟩:=mO.el hx;exact h9
 have Cr:=Jv hu hs L7 bE;have zt:=hg;have vE:=hf;have zu:=mO;obtain⟨ga,gn,gc,gb,go,rfl,_⟩:=hg;obtain⟨fa,fn,fc,fb,fo,rfl,_⟩:=hf;obtain⟨ia,il,ic,ib,io,rfl,iQ,_⟩:=mO;refine aQ Tryz.func53 rfl Tryz.ntmps53 rfl (Wd.nil dh w0) ?_
 repeat(first|refine aU ?_|refine dX λ_ _=>?_)
 refine cV (val:=λm:gQ=>.tuple #[.slice m.ca m.cs.length m.cc,.agg #[.int .i64 m.state,.int .i64 m.value,.slice m.oa m.out.length m.oc,.int .i64 m.steps],.agg #[.int .i64 0,.int .i64 0]]) (E:=λm=>[iO m]) (φ:=λm=>DI m (cg u cX bE)) rfl (λw hw=>
  (N9 u hl h0 hs hu _ _ _ cX bE ag adx w (zt.cu dv hw.cE) (vE.cu dk hw.cE) (zu.cu eK hw.cE) (je.cu hw.cE)).mono λv w' ⟨m,h1,h2,h3⟩=>⟨m,h1,h2.sub (dn ou),h3⟩) λm hm=>?_
 simp only[a6,aT]
 repeat(first|refine aI ?_|refine dX λ_ _=>?_)
 rename_i p3 _ p6 _ p7 _ p9 _ HH _;refine jp (L':=[(6,.pointer (some ⟨p6,0,none⟩)),(7,.pointer (some ⟨p7,0,none⟩)),(9,.pointer (some ⟨p9,0,none⟩)),(10,.pointer (some ⟨HH,0,none⟩))]) aw (.refl _) ?_;refine dR [aj HH [.int .i64 0,.int .i64 0] 28,aj p9 [.int .i64 m.state,.int .i64 m.value,.slice m.oa m.out.length m.oc,.int .i64 m.steps] 89] (λ_:Unit=>True) (λ_=>[(6,.pointer (some ⟨p6,0,none⟩)),(7,.pointer (some ⟨p7,0,none⟩))]) (λ_=>[iO m,aj p7 [.int .i64 0,.int .i64 0] 28,aj p6 [.int .i64 m.state,.int .i64 m.value,.slice m.oa m.out.length m.oc,.int .i64 m.steps] 89]) mixed ap ?_ λ_ _=>?_
 ·skip
  refine az 0 rfl aq ap ?_;refine az 1 rfl aq ap ?_;refine cH 2 aq ap ?_;refine cH 3 aq ap ?_;refine eF aq ?_;exact dN () trivial aw aH
 refine aO ?_;refine rZ rfl λw' dO=>⟨(m.oa,m.oc,cF [iO m]),?_,?_,trivial⟩
 ·rw[<-hm.state,<-hm.value,<-hm.out,<-hm.steps]
 ·have h1:Wd dh w0 ([iO m]++[]) w':=dO.sub (dn ou)
  have h2:=h1.pack (λw=>aM w (.slice m.oa m.out.length m.oc) 1 m.out fj) λw2 jl=>?_
  ·rw[<-hm.out];exact h2
  ·refine jl.nC (k:=0) rfl rfl (by rw[hm.out];omega) λi x hx=>⟨[.int .i64 x],λj v hj=>?_,rfl,Cr.2 x (by rw[<-hm.out];exact aA hx)⟩
   match j,hj with
   |0,hj=>simpa[hx]using hj
theorem Sy(s v t1 t2:Int)(a1 a2:Option Addr)(c1 c2:Nat)(l:List Int)(w0:World)(h1:aM w0 (.slice a1 l.length c1) 1 l fj)(h2:aM w0 (.slice a2 l.length c2) 1 l fj):
  fi Tryz.prog 54 [.agg #[.int .i64 s,.int .i64 v,.slice a1 l.length c1,.int .i64 t1],.agg #[.int .i64 s,.int .i64 v,.slice a2 l.length c2,.int .i64 t2]] w0 (.bool true):=by
 refine aQ Tryz.func54 rfl Tryz.ntmps54 rfl (Wd.nil dh w0) ?_
 repeat(first|refine aU ?_|refine dX λ_ _=>?_)
 rw[show decide (s=s)=true by simp];refine aI ?_;rw[show decide (v=v)=true by simp];refine aI ?_;refine bI rfl (λw hw=>Yt _ _ l l w (h1.cu (λ_ _ _ _ _ h=>h) hw.cE) (h2.cu (λ_ _ _ _ _ h=>h) hw.cE)) ?_;rw[show decide (l=l)=true by simp];refine aO ?_;exact bQ rfl rfl
structure Comes(a b:a7)(cX:List Int)(f k:Nat):Prop where
 ok:(eT b cX.length k).1=0
 state:(cg b cX k).state=(cg a cX f).state
 value:(cg b cX k).value=(cg a cX f).value
 out:(cg b cX k).out=(cg a cX f).out
theorem EG{u v:a7}(h:kz u v)(hv:iW v){cX:List Int}(mO:∀x∈cX,c9 x){f m:Nat}(hc:(eT u cX.length f).1=0)(hs:(cg u cX f).state≠1)(hf:f<=m)(hm:m<=100000):Comes u v cX f m:=by
 obtain⟨_,iQ,_⟩:=wF hc;obtain⟨h1,_⟩:=h cX f m mO hs hf;refine⟨?_,h1.state,h1.value,h1.out⟩;unfold eT;rw[if_neg (by simp[fz.2 hv]),if_neg ag,if_neg (by simp[within];omega)]
theorem LH(a b:a7)(Tk:mC a)(Pc:mC b)(ga fa gb fb iv:Value)(cX:List Int)(bE:Int)(w0:World)(Th:aM w0 ga 3 a.globals fE)(uN:aM w0 fa 4 a.funcs gg)(hgb:aM w0 gb 3 b.globals fE)(wj:aM w0 fb 4 b.funcs gg)(mO:aM w0 iv 1 cX fj)(je:bG w0 0 0 mI)
  (abC:∀f:Nat,f<=2000->(eT a cX.length f).1=0->(cg a cX f).state≠1->Comes a b cX f f/\(cg b cX f).steps<=(cg a cX f).steps):
  fi Tryz.prog 20 [.agg #[ga,fa],.agg #[gb,fb],iv,.int .i64 bE] w0 (.bool true):=by
 have aaQ:=Th;have aaK:=uN;have ads:=hgb;have ado:=wj;have zu:=mO;obtain⟨ga1,gan,gac,_,_,rfl,_⟩:=Th;obtain⟨fa1,fan,fac,_,_,rfl,_⟩:=uN;obtain⟨gb1,gbn,gbc,_,_,rfl,_⟩:=hgb;obtain⟨fb1,fbn,fbc,_,_,rfl,_⟩:=wj;obtain⟨ia,il,ic,_,_,rfl,_⟩:=mO;refine aQ Tryz.func20 rfl Tryz.ntmps20 rfl (Wd.nil dh w0) ?_
 repeat(first|refine aU ?_|refine dX λ_ _=>?_)
 by_cases h1:bE<0
 ·rw[show decide (bE<0)=true by simp[h1]]
  refine iL ?_;exact bQ rfl rfl
 rw[show decide (bE<0)=false by simp[h1]];refine aI ?_;refine aN (λh2=>?_) (λh2=>?_)
 ·refine aI ?_
  exact bQ rfl rfl
 obtain⟨f,rfl⟩:∃f:Nat,bE=f:=⟨bE.toNat,ag⟩;have hf2:f<=2000:=by simp at h2;omega
 refine aO ?_
 by_cases zp:(eT a cX.length f).1≠0
 ·refine bI rfl (λw hw=>Wk a Tk _ _ _ cX f zp w (aaQ.cu dv hw.cE) (aaK.cu dk hw.cE) (zu.cu eK hw.cE) (je.cu hw.cE)) ?_
  repeat(first|refine aI ?_|refine dX λ_ _=>?_)
  rw[show(!decide ((eT a cX.length f).1=0))=true by simp[zp]];refine iL ?_;exact bQ rfl rfl
 have pD:(eT a cX.length f).1=0:=by simpa using zp
 refine cV (val:=λx:Option Addr×Nat×(Nat->Prop)=>.tuple #[.agg #[.int .i64 (cg a cX f).state,.int .i64 (cg a cX f).value,.slice x.1 (cg a cX f).out.length x.2.1,.int .i64 (cg a cX f).steps],.agg #[.int .i64 0,.int .i64 0]]) (E:=λx=>[⟨x.2.2,λw=>aM w (.slice x.1 (cg a cX f).out.length x.2.1) 1 (cg a cX f).out fj⟩]) (φ:=λ_=>True) rfl (λw hw=>U0 a Tk _ _ _ cX f pD w (aaQ.cu dv hw.cE) (aaK.cu dk hw.cE) (zu.cu eK hw.cE) (je.cu hw.cE)) λx _=>?_;obtain⟨oa,oc,op⟩:=x;simp only[a6,aT]
 repeat(first|refine aI ?_|refine dX λ_ _=>?_)
 rw[show(!decide ((0:Int)=0))=false by simp];refine aU ?_;refine aN (λh3=>?_) (λh3=>?_)
 ·refine aI ?_
  exact bQ rfl rfl
 obtain⟨⟨h4,h5,h6,h7⟩,h8⟩:=abC f hf2 pD (by simpa using h3);refine aO ?_;refine cV (val:=λx:Option Addr×Nat×(Nat->Prop)=>.tuple #[.agg #[.int .i64 (cg b cX f).state,.int .i64 (cg b cX f).value,.slice x.1 (cg b cX f).out.length x.2.1,.int .i64 (cg b cX f).steps],.agg #[.int .i64 0,.int .i64 0]]) (E:=λx=>[⟨x.2.2,λw=>aM w (.slice x.1 (cg b cX f).out.length x.2.1) 1 (cg b cX f).out fj⟩]) (φ:=λ_=>True) rfl (λw hw=>U0 b Pc _ _ _ cX _ h4 w (ads.cu dv hw.cE) (ado.cu dk hw.cE) (zu.cu eK hw.cE) (je.cu hw.cE)) λx _=>?_;obtain⟨na,nc,np⟩:=x;simp only[a6,aT];rw[h5,h6,h7]
 repeat(first|refine aI ?_|refine dX λ_ _=>?_)
 rw[show decide ((0:Int)=0)=true by simp]
 skip
 refine bI rfl (λw hw=>Sy _ _ _ _ _ _ _ _ _ w ?_ ?_) ?_
 ·exact hw.get (k:=5) rfl
 ·exact hw.get (k:=2) rfl
 refine aI ?_;refine bQ rfl ?_;rw[show decide (((cg b cX f).steps:Int)<=((cg a cX f).steps:Int))=true by simp;omega]
end
section
open Go Go.RowKit Go.ChangeShapes Go.WideShapes Go.ChangeAt
set_option maxRecDepth 100000
theorem QR{H:Type}{enc:TypeId×Value->H}{W:World}{args:Array Value}{ds:List (DataW H)}{p:List MemPlace}{base:Nat}{params:Array TypeId}(hp:params= #[25,42,3])
  (h1:∀(j:Nat) t v,params[j]?=some t->args[j]?=some v->Value.okWide Tryz.prog W .any base t v)
  (hA:DataW.TrodAll enc Tryz.prog W 0 (λ_=>true) true [25,42,3] args.toList ds p) (hz:∀k∈DataW.weightsEach Tryz.prog [25,42,3] ds,k<=reachBytes):
  ∃(u:a7) (g fs:Value) (v:Value) (l:List Int) (k:Int),args= #[.agg #[g,fs],v,.int .i64 k]/\aM W g 3 u.globals fE/\aM W fs 4 u.funcs gg/\aM W v 1 l fj/\c9 k:=by
 subst hp;obtain⟨v0,vs0,d0,ds0,p0,q0,tk,rfl,rfl,h0,r0⟩:=trodAll_cons hA;obtain⟨v1,vs1,d1,ds1,p1,q1,rfl,rfl,rfl,Ef,r1⟩:=trodAll_cons r0;obtain⟨v2,vs2,d2,ds2,p2,q2,rfl,rfl,rfl,vB,r2⟩:=trodAll_cons r1;obtain⟨rfl,rfl,rfl⟩:=trodAll_nil r2;obtain rfl:args= #[v0,v1,v2]:=by cases args;simp_all
 obtain⟨cs0,rfl,_⟩:=okWide_struct Tryz.underlying25 (h1 0 25 v0 rfl rfl);obtain⟨f0,k0⟩:=h0;obtain⟨f1,k1⟩:=Ef;obtain⟨f2,k2⟩:=vB;obtain⟨cs0⟩:=cs0;have TM:Small Tryz.prog 25 d0:=λk hk=>hz k (lI (i:=0) rfl rfl hk);have E9:Small Tryz.prog 42 d1:=λk hk=>hz k (lI (i:=1) rfl rfl hk);obtain⟨u,g,f,e0,hg,hf⟩:=YH k0 TM;have hv1:v1.cells= #[v1]:=by
  obtain⟨_,_,_,rfl⟩:=okWide_slice Tryz.underlying42 (h1 1 42 v1 rfl rfl)
  rfl
 have Cd:v2.cells= #[v2]:=by
  obtain⟨n,rfl,_⟩:=okWide_int Tryz.underlying3 (h1 2 3 v2 rfl rfl)
  rfl
 obtain⟨n,e1,hn⟩:=tF k2;rw[hv1]at k1;obtain⟨l,hs⟩:=Ji (x:=(d1,_)) k1 E9;simp only[Value.cells]at e0;subst e0;rw[Cd]at e1;simp only[List.cons.injEq,and_true]at e1;subst e1;exact⟨u,g,f,v1,l,n,rfl,hg,hf,hs,hn⟩
def zJ:Array Value:=#[.agg #[.slice none 0 0,.slice none 0 0],.slice none 0 0,.int .i64 0]
end
end Go.Proofs.YthfhgolkafpmnaaGreatDoor
