/- Texts joined: RunI RunJ Vis RunK RunDo Means DoF DoG DoorE. -/
import Derived.Test.YthfhgolkafpmnaaGreatDoorHN
namespace Go.Proofs.YthfhgolkafpmnaaGreatDoor
open Go.Value renaming int->U,slice->J,string->G,bool->D,agg->au
open Go.IntKind renaming i64->O
open Option renaming some->Z,none->A
open Go renaming Value->V,World->C
open Go.Proofs.Tryz
open Go.Proofs.Tryz renaming prog->ae
open Go Go.RowKit
section
set_option maxHeartbeats 8000000
attribute [local irreducible] wpListIn Code.wpIn Exit.then Exit.inBlock bodyPost wpQuiet wpAnyIn wpAnyH bodyPostM j5
theorem Uv{α:Type}(x y a b c d e f g:α)(T akh:List α):(x::y::a::b::c::d::e::f::g::(T++akh)).Perm (a::b::c::d::e::f::g::((T++[y])++(akh++[x]))):=by
 classical
 exact aP.2 λakj=>by simp only[bC,br,cq];omega
theorem RC(u:a8)(hl:nA u)(h0:(dA u).1=0)(hs:yt u)(hu:jH u)(g fs iv:V)(dr:List Int)(bH:Nat)(hfu:bH<=100000)(aiT:dr.length<=30)(w0:C)(hg:aG w0 g 3 u.globals fg)(hf:aG w0 fs 4 u.funcs gq)(oA:aG w0 iv 1 dr fI)(iN:bF w0 0 0 nI):
  iC ae 87 [au #[g,fs],iv,U O bH] w0 λv w'=>∃m:iG,v=.tuple #[J m.ca m.cs.length m.cc,au #[U O m.state,U O m.value,J m.oa m.out.length m.oc,U O m.steps],au #[U O 0,U O 0]]/\
   Wd cX w0 (jx m::kJ m::m.cs.map mQ) w'/\F_ m (cJ u dr bH):=by
 have yX:=hg;have wM:=hf;have BE:=oA;obtain⟨ga,gn,gc,gb,go,rfl,Pq,agl,agk,hgc,W5,Sy⟩:=hg;obtain⟨fa,fn,fc,fb,fo,rfl,qq,Pp,Po,Zp,vx,uU⟩:=hf;obtain⟨ia,il,ic,ib,io,rfl,iJ,agq,agp,agn,VO,SE⟩:=oA;refine aM func87 rfl ntmps87 rfl (Wd.nil cX w0) ?_
 repeat(first|refine aU ?_|refine dZ λ_ _=>?_)
 refine bB rfl (λw hw=>tO u hl _ _ w (yX.bZ dq hw.ch) (wM.bZ dG hw.ch) (iN.bZ hw.ch)) ?_;rw[nt h0]
 repeat(first|refine aE ?_|refine dZ λ_ _=>?_)
 rw[show decide ((30:Int)<(il:Int))=false by simp;omega];refine aH ?_;refine bB rfl (λw _=>jX _ _ _ w) ?_;rw[show within (bH:Int) 0 100000=true by simp[within];omega]
 repeat(first|refine aH ?_|refine dZ λ_ _=>?_)
 rename_i p3 _ p7 _ p8 _ p9 _ p _;refine lW 3 1 1 ?_;refine bL (λ(x:Nat×Option Addr×Nat)=>x.1<=gn) (λx=>[(41,U O x.1),(39,(J ga gn gc)),(40,U O gn),aj 10 p,aj 3 p3,aj 7 p7,aj 8 p8,(2,U O bH)]) (λx=>[K p [(J ga gn gc),(J fa fn fc),(J A 0 0),J x.2.1 (uj (u.globals.take x.1)).length x.2.2,(J ia il ic),U O 0,U O 0,(J A 0 0),U O 0,(J A 0 0),(J A 0 0)] 168,K p8 [U O 0,U O 0] 28,K p7 [U O 0,U O 0,J A 0 0,U O 0] 89,K p3 [(J ga gn gc),(J fa fn fc)] 25,M x.2.1 (uj (u.globals.take x.1)).length x.2.2 3 1 ((uj (u.globals.take x.1)).map (U O))]) (λx=>gn-x.1) (0,A,0)
  (aT _) (aS ap aw) λx hi=>?_
 obtain⟨i,ma,mc⟩:=x;simp only at hi⊢;refine aU ?_;refine aI (λh1=>?_) (λh1=>?_)
 ·have bS:i<gn:=ax h1
  obtain⟨aki,hG⟩:=et Pq bS;have ain:bU ga gb go:=⟨W5 (aL hG)⟩;have lY:bY i gn:=⟨bS⟩;obtain⟨cs,fT,Iv,rfl,pU,Nl⟩:=Sy i aki hG;have aiG:a6 w0 gb (go+i*3) _:=⟨fT⟩;have agr:=Nl;obtain⟨na,nn,nc,nb,no,rfl,SP,ajp,ajo,ajj,hna,ajk⟩:=Nl;have hGm:=aq hG;have hgl:=hs.IE aki hGm;have s6:(uj (u.globals.take i)).length<=2000:=by
   have:=Dw (l:=u.globals.take i) λg hg=>hs.IE g (rX hg);have h9:=hs.vt;rw[dd]at this;omega
  repeat(first|refine aE ?_|refine dZ λ_ _=>?_)
  rename_i nL _;obtain⟨ml,adR⟩:∃ml,ml=uj (u.globals.take i):=⟨_,rfl⟩;rw[<-adR]at s6⊢;refine dQ [K nL [G aki.name,U O aki.size,J na nn nc] 65] (λ_:Option Addr×Nat=>True) (λ_=>[aj 12 nL,(41,U O i),(39,(J ga gn gc)),(40,U O gn),aj 10 p,aj 3 p3,aj 7 p7,aj 8 p8,(2,U O bH)]) (λx=>[K nL [G aki.name,U O aki.size,J na nn nc] 65,K p [(J ga gn gc),(J fa fn fc),(J A 0 0),J x.1 (ml.length+nn) x.2,(J ia il ic),U O 0,U O 0,(J A 0 0),U O 0,(J A 0 0),(J A 0 0)] 168,K p8 [U O 0,U O 0] 28,K p7 [U O 0,U O 0,J A 0 0,U O 0] 89,K p3 [(J ga gn gc),(J fa fn fc)] 25,M x.1 (ml.length+nn) x.2 3 1 (ml.map (U O)++aki.init.flatMap λy=>[U O y])]) mixed (by repeat(first|exact ey _|exact fh _|refine List.Sublist.cons_cons _ ?_)) ?_ λx _=>?_
  ·skip
   refine c8 0 rfl ai (by repeat(first|exact ey _|exact fh _|refine List.Sublist.cons_cons _ ?_)) ?_;refine c8 1 rfl ai (by repeat(first|exact ey _|exact fh _|refine List.Sublist.cons_cons _ ?_)) ?_;refine c8 2 rfl ai (by repeat(first|exact ey _|exact fh _|refine List.Sublist.cons_cons _ ?_)) ?_;refine c8 3 rfl ai (by repeat(first|exact ey _|exact fh _|refine List.Sublist.cons_cons _ ?_)) ?_;refine c8 5 rfl ai (by repeat(first|exact ey _|exact fh _|refine List.Sublist.cons_cons _ ?_)) ?_;refine c8 6 rfl ai (by repeat(first|exact ey _|exact fh _|refine List.Sublist.cons_cons _ ?_)) ?_;refine cm 4 ai (fO 4 rfl (by repeat(first|exact ey _|exact fh _|refine List.Sublist.cons_cons _ ?_)) ?_);refine cm 7 ai (P8 7 rfl rfl aki.init (ake:=fI) (λy=>[U O y]) (λ_ _ _ h=>h.1) (λ_=>rfl) (λ_ v hv=>by rw[bR.1 hv];rfl) (λw hw=>agr.bZ dP hw.ch) I I (λ_=>(by repeat(first|exact ey _|exact fh _|refine List.Sublist.cons_cons _ ?_))) λa' c'=>?_);simp only[bW,cG];refine c8 8 rfl ai (by repeat(first|exact ey _|exact fh _|refine List.Sublist.cons_cons _ ?_)) ?_;refine c8 9 rfl ai (by repeat(first|exact ey _|exact fh _|refine List.Sublist.cons_cons _ ?_)) ?_;refine yU 10 ai (by repeat(first|exact ey _|exact fh _|refine List.Sublist.cons_cons _ ?_)) ?_;refine eA ai ?_;exact dS (a',c') trivial ap aK
  obtain⟨a1,c1⟩:=x;simp only;have Sw:(ml.map (U O)++aki.init.flatMap λy=>[U O y])=(ml++aki.init).map (U O):=by rw[vk,<-bz]
  obtain⟨k,hk⟩:∃k:Nat,k=aki.size.toNat-aki.init.length:=⟨_,rfl⟩;have hks:aki.size-(nn:Int)=k:=I;have u2:k<=200:=I;refine aU ?_;refine dQ [K nL [G aki.name,U O aki.size,J na nn nc] 65] (λ_:Option Addr×Nat=>True) (λ_=>[(41,U O i),(39,(J ga gn gc)),(40,U O gn),aj 10 p,aj 3 p3,aj 7 p7,aj 8 p8,(2,U O bH)]) (λx=>[K p [(J ga gn gc),(J fa fn fc),(J A 0 0),J x.1 (ml.length+nn+k) x.2,(J ia il ic),U O 0,U O 0,(J A 0 0),U O 0,(J A 0 0),(J A 0 0)] 168,K p8 [U O 0,U O 0] 28,K p7 [U O 0,U O 0,J A 0 0,U O 0] 89,K p3 [(J ga gn gc),(J fa fn fc)] 25,M x.1 (ml.length+nn+k) x.2 3 1 ((ml.map (U O)++aki.init.flatMap λy=>[U O y])++List.replicate k (U O 0))]) mixed (by repeat(first|exact ey _|exact fh _|refine List.Sublist.cons_cons _ ?_)) ?_ λx _=>?_
  ·skip
   refine c8 0 rfl ai (by repeat(first|exact ey _|exact fh _|refine List.Sublist.cons_cons _ ?_)) ?_;refine c8 1 rfl ai (by repeat(first|exact ey _|exact fh _|refine List.Sublist.cons_cons _ ?_)) ?_;refine c8 2 rfl ai (by repeat(first|exact ey _|exact fh _|refine List.Sublist.cons_cons _ ?_)) ?_;refine c8 3 rfl ai (by repeat(first|exact ey _|exact fh _|refine List.Sublist.cons_cons _ ?_)) ?_;refine c8 5 rfl ai (by repeat(first|exact ey _|exact fh _|refine List.Sublist.cons_cons _ ?_)) ?_;refine c8 6 rfl ai (by repeat(first|exact ey _|exact fh _|refine List.Sublist.cons_cons _ ?_)) ?_;refine c8 7 rfl ai (by repeat(first|exact ey _|exact fh _|refine List.Sublist.cons_cons _ ?_)) ?_;refine c8 8 rfl ai (by repeat(first|exact ey _|exact fh _|refine List.Sublist.cons_cons _ ?_)) ?_;refine c8 9 rfl ai (by repeat(first|exact ey _|exact fh _|refine List.Sublist.cons_cons _ ?_)) ?_;refine c8 (h:=tA (by unfold dk at pU;omega) (by unfold dk at pU;omega)) 10 rfl ai (by repeat(first|exact ey _|exact fh _|refine List.Sublist.cons_cons _ ?_)) ?_;rw[hks];refine cm 4 ai (fO 4 rfl (by repeat(first|exact ey _|exact fh _|refine List.Sublist.cons_cons _ ?_)) ?_);refine cm 11 ai (P9 11 (kd:=.i64) underlying3 rfl rfl I I (by decide) (λ_=>(by repeat(first|exact ey _|exact fh _|refine List.Sublist.cons_cons _ ?_))) λa' c'=>?_);simp only[bW,cG];refine c8 12 rfl ai (by repeat(first|exact ey _|exact fh _|refine List.Sublist.cons_cons _ ?_)) ?_;refine c8 13 rfl ai (by repeat(first|exact ey _|exact fh _|refine List.Sublist.cons_cons _ ?_)) ?_;refine yU 14 ai (by repeat(first|exact ey _|exact fh _|refine List.Sublist.cons_cons _ ?_)) ?_;refine eA ai ?_;exact dS (a',c') trivial ap (dR _ _)
  obtain⟨a2,c2⟩:=x;simp only;rw[Sw];have hmt:=P0 hG;rw[<-adR,<-hk,<-dz]at hmt;refine aH ?_;rw[show(i:Int)+1=((i+1:Nat):Int) by omega]
  skip
  refine bj (i+1,a2,c2) bS bK ap ?_;simp only[hmt,bz,List.map_replicate,bX,dm,<-SP];exact ey _
 have hig:gn=i:=by have:=h1;simp at this;omega
 subst hig;rw[show u.globals.take gn=u.globals by rw[Pq,cQ]];refine aE ?_;refine lW 69 1 1 ?_;refine lW 42 1 1 ?_;obtain⟨ml,s6⟩:∃ml,ml=uj u.globals:=⟨_,rfl⟩;rw[<-s6];refine bL (λ(x:Nat×(Option Addr×Nat×List KC)×(Option Addr×Nat×List sM))=>x.1<=fn/\x.2.1.2.2.map (·.l)=(mL u).take x.1/\x.2.2.2.2.map (·.l)=(u.funcs.take x.1).map λX=>List.replicate X.blocks.length 0) (λx=>[(73,U O x.1),(71,(J fa fn fc)),(72,U O fn),aj 10 p,aj 3 p3,aj 7 p7,aj 8 p8,(2,U O bH)])
  (λx=>K p [(J ga gn gc),(J fa fn fc),J x.2.1.1 x.2.1.2.2.length x.2.1.2.1,J ma ml.length mc,(J ia il ic),U O 0,U O 0,(J A 0 0),U O 0,(J A 0 0),J x.2.2.1 x.2.2.2.2.length x.2.2.2.1] 168::K p8 [U O 0,U O 0] 28::K p7 [U O 0,U O 0,J A 0 0,U O 0] 89::K p3 [(J ga gn gc),(J fa fn fc)] 25::M ma ml.length mc 3 1 (ml.map (U O))::M x.2.1.1 x.2.1.2.2.length x.2.1.2.1 69 1 (x.2.1.2.2.map AN)::M x.2.2.1 x.2.2.2.2.length x.2.2.2.1 42 1 (x.2.2.2.2.map Ij)::(x.2.1.2.2.map x9++x.2.2.2.2.map mQ)) (λx=>fn-x.1) (0,(A,0,[]),(A,0,[]))
  ⟨aT _,rfl,rfl⟩ (aS ap aK) λx hi=>?_
 obtain⟨k,⟨aa,ac,ts⟩,⟨ca,cc,cs⟩⟩:=x;simp only at hi⊢;obtain⟨hk,Xt,fT⟩:=hi;have aiq:(mL u).length=fn:=by simp[mL,qq]
 have zP:ts.length=k:=by have:=congrArg List.length Xt;rw[aF,dd]at this;omega
 have e_:cs.length=k:=by have:=congrArg List.length fT;rw[aF,aF,dd]at this;omega
 have aiM:=hs.funcs;refine aU ?_;refine aI (λh1=>?_) (λh1=>?_)
 ·have bS:k<fn:=ax h1
  obtain⟨X,hX⟩:=et qq bS;have aim:bU fa fb fo:=⟨vx (aL hX)⟩;have lY:bY k fn:=⟨bS⟩;obtain⟨fcs,agf,bv,rfl,_,_,Ai⟩:=uU k X hX;have adn:a6 w0 fb (fo+k*4) _:=⟨agf⟩;obtain⟨ba,bn,bc,_,_,rfl,pR,_⟩:=Ai;obtain⟨R,gI⟩:=hu.2 k X hX;have gF:=gI.few
  repeat(first|refine aE ?_|refine dZ λ_ _=>?_)
  rename_i lz _;refine cZ (val:=λx:(Option Addr×Nat×Nat)×(Nat->Prop)=>.tuple #[J x.1.1 x.1.2.1 x.1.2.2,au #[U O 0,U O 0]]) (akg:=λx=>[⟨x.2,λw=>aG w (J x.1.1 x.1.2.1 x.1.2.2) 1 (be X.blocks) cN⟩]) (φ:=λ_=>True) rfl (λw hw=>YC u hl h0 k X hX gF gI.ok.iM _ _ w (yX.bZ dq hw.ch) (wM.bZ dG hw.ch) (iN.bZ hw.ch)) λx _=>?_;obtain⟨⟨ta,tn,tc⟩,tf⟩:=x;simp only[aW,aO]
  repeat(first|refine aE ?_|refine dZ λ_ _=>?_)
  rename_i Ku _ q1 _;refine gU 9 rfl rfl ai I I λna nc=>?_;simp only[cG,bW];refine aE ?_;refine dQ [K lz [G X.name,U O X.params,U O X.aB,J ba bn bc] 35] (λ_:(Option Addr×Nat)×Nat=>True) (λ_=>[(73,U O k),(71,(J fa fn fc)),(72,U O fn),aj 10 p,aj 3 p3,aj 7 p7,aj 8 p8,(2,U O bH)]) (λx=>M (Z ⟨x.2,0,A⟩) bn bn 3 1 (List.replicate bn (U O 0))::x9 (⟨ta,tn,tc,tf,be X.blocks⟩:KC)::K p [(J ga gn gc),(J fa fn fc),J na (ts.length+1) nc,J ma ml.length mc,(J ia il ic),U O 0,U O 0,(J A 0 0),U O 0,(J A 0 0),J x.1.1 (cs.length+1) x.1.2] 168::K p8 [U O 0,U O 0] 28::K p7 [U O 0,U O 0,J A 0 0,U O 0] 89::K p3 [(J ga gn gc),(J fa fn fc)] 25::M ma ml.length mc 3 1 (ml.map (U O))::M na (ts.length+1) nc 69 1 (ts.map AN++[AN (⟨ta,tn,tc,tf,be X.blocks⟩:KC)])::M x.1.1 (cs.length+1) x.1.2 42 1 (cs.map Ij++[J (Z ⟨x.2,0,A⟩) bn bn])::(ts.map x9++cs.map mQ)) mixed aw ?_ λx _=>?_
  ·skip
   refine ag 0 ?_;refine ag 1 ?_;refine ag 2 ?_;refine ag 3 ?_;refine ag 5 ?_;refine ag 6 ?_;refine ag 7 ?_;refine lm 4 8 ai ?_ ?_
   ·refine fO 4 rfl aw ?_
    refine cm 8 ai (Hh 8 (n:=bn) rfl I I aw λq2 _=>?_);refine cm 9 ai (iP 9 rfl ai aw λq3 _=>?_);refine kW 10 12 rfl rfl ai I I ai (λ_=>aw) λnd ne=>?_;simp only[cG,bW];refine ag 11 ?_;refine ag 12 ?_;refine yU 13 ai aw ?_;refine eA ai ?_;exact dS ((nd,ne),q2) trivial ap (by repeat(first|exact ey _|refine List.Sublist.cons_cons _ ?_|refine List.Sublist.cons _ ?_))
   ·refine Hh 8 (n:=bn) rfl I I aw λq2 _=>?_
    refine lm 4 9 ai ?_ ?_
    ·refine fO 4 rfl aw ?_
     refine cm 9 ai (iP 9 rfl ai aw λq3 _=>?_);refine kW 10 12 rfl rfl ai I I ai (λ_=>aw) λnd ne=>?_;simp only[cG,bW];refine ag 11 ?_;refine ag 12 ?_;refine yU 13 ai aw ?_;refine eA ai ?_;exact dS ((nd,ne),q2) trivial ap (by repeat(first|exact ey _|refine List.Sublist.cons_cons _ ?_|refine List.Sublist.cons _ ?_))
    ·refine iP 9 rfl ai aw λq3 _=>?_
     refine cm 4 ai (fO 4 rfl aw ?_);refine kW 10 12 rfl rfl ai I I ai (λ_=>aw) λnd ne=>?_;simp only[cG,bW];refine ag 11 ?_;refine ag 12 ?_;refine yU 13 ai aw ?_;refine eA ai ?_;exact dS ((nd,ne),q2) trivial ap (by repeat(first|exact ey _|refine List.Sublist.cons_cons _ ?_|refine List.Sublist.cons _ ?_))
  obtain⟨⟨nd,ne⟩,q2⟩:=x;simp only;refine aH ?_;rw[show(k:Int)+1=((k+1:Nat):Int) by omega];have hXl:u.funcs.take (k+1)=u.funcs.take k++[X]:=by rw[cz,hX];rfl
  have hAl:(mL u).take (k+1)=(mL u).take k++[be X.blocks]:=by rw[cz];simp only[mL,aJ,hX];rfl
  refine bi (Uv _ _ _ _ _ _ _ _ _ (ts.map x9) (cs.map mQ)) ?_;refine bj (k+1,(na,nc,ts++[(⟨ta,tn,tc,tf,be X.blocks⟩:KC)]),(nd,ne,cs++[⟨Z ⟨q2,0,A⟩,bn,List.replicate X.blocks.length 0⟩])) ⟨bS,by simp only[bz,bT,dn,Xt,hAl],by simp only[bz,bT,dn,fT,hXl]⟩ bK ap ?_;subst pR;simp only[bz,bT,dn,bX,j_,Ij,mQ,dm,List.map_replicate];exact ey _
 have hkf:fn=k:=by have:=h1;simp at this;omega
 subst hkf;rw[kh I]at Xt;rw[kh I]at fT;obtain⟨fm,akd,I8,hM⟩:=hs.main;obtain⟨R,Nk⟩:=hu.2 fm akd hM;refine aE ?_;refine bB rfl (λw hw=>XK _ u.funcs w (wM.bZ dG hw.ch)) ?_;rw[I8];refine lW 206 5 1 ?_;refine lW 3 1 1 ?_;obtain⟨m0,Xa⟩:∃m0:iG,m0=⟨ma,mc,ml,(J ia il ic),dr,0,0,A,0,[],0,A,0,[],ca,cc,cs⟩:=⟨_,rfl⟩;refine bi (H1:=dt p (J ga gn gc) (J fa fn fc) (J aa ts.length ac) m0++(M aa ts.length ac 69 1 (ts.map AN)::(ts.map x9++[K p8 [U O 0,U O 0] 28,K p7 [U O 0,U O 0,J A 0 0,U O 0] 89,K p3 [(J ga gn gc),(J fa fn fc)] 25]))) (by rw[Xa];exact Ml _ _ _ _ _ _ _ _ _ (ts.map x9) (cs.map mQ)) ?_;have Sp:∀r∈cs,∃X∈u.funcs,r.l=List.replicate X.blocks.length 0:=λr hr=>by
  have h9:r.l∈cs.map (·.l):=aV.2 ⟨r,hr,rfl⟩;rw[fT]at h9;obtain⟨X,hX,e⟩:=aV.1 h9;exact⟨X,hX,e.symm⟩
 have uZ:m0.Bd:=by
  have h8:=Dw hs.IE;have h9:=hs.vt;rw[Xa,s6];refine⟨by simp,by simp,⟨by simp only;omega,NJ hs.init⟩,by simp,by simp only;omega,λr hr=>?_,by simp⟩;obtain⟨X,hX,e⟩:=Sp r hr;obtain⟨k,hk⟩:=bg hX;obtain⟨_,gI⟩:=hu.2 k X hk;have:=gI.few;exact⟨by rw[e];simp;omega,λx hx=>by rw[e]at hx;rw[jK hx];omega⟩
 obtain⟨cr,CZ,aaX⟩:∃cr,cs[fm]?=Z cr/\cr.l=List.replicate akd.blocks.length 0:=by
  have h9:(cs.map (·.l))[fm]?=Z (List.replicate akd.blocks.length 0):=by rw[fT,aJ,hM];rfl
  rw[aJ]at h9;exact cA.1 h9
 refine iX (H1:=dt p (J ga gn gc) (J fa fn fc) (J aa ts.length ac) m0) (val:=λ_:Option Addr×Nat×Option Addr×Nat=>.tuple #[]) (akg:=λx=>dt p (J ga gn gc) (J fa fn fc) (J aa ts.length ac) {m0 with fa:=x.1,fc:=x.2.1,rows:=m0.rows++[⟨⟨fm,0,0,eN R [],-1⟩,x.2.2.1,x.2.2.2⟩],cs:=l8 m0.cs fm 0}) (φ:=λ_=>True) (yD w0) rfl (λEU w od hle _ hw=>M1 od u p _ _ _ (wM.le nC hle) m0 uZ fm akd hM R Nk.aB Nk.le (-1) [] A 0 0 ⟨A,0,0,0,0,rfl,rfl,bG _,I,I,λh=>absurd rfl h,by simp⟩ (aT _) cr (by rw[Xa];exact CZ) (by rw[aaX,dm];exact Nk.pos) w hw) λx _=>?_;obtain⟨na,nc,nb,nd⟩:=x;obtain⟨m1,Fo⟩:∃m1:iG,m1={m0 with fa:=na,fc:=nc,rows:=m0.rows++[⟨⟨fm,0,0,eN R [],-1⟩,nb,nd⟩],cs:=l8 m0.cs fm 0}:=⟨_,rfl⟩;simp only;rw[<-Fo];have Px:∃rest t,Km m1 (jA u dr) rest t:=by
  rw[start_eq I8 hM Nk.aB,Fo,Xa];exact⟨[],⟨⟨fm,0,0,eN R [],-1⟩,nb,nd⟩,rfl,rfl,rfl,s6,rfl,rfl,rfl,by simp only[Gl,fT],rfl,rfl⟩
 have SF:∀x∈dr,dk x:=λx hx=>by
  obtain⟨k,hk⟩:=bg hx;obtain⟨_,_,_,h9⟩:=SE k x hk;exact h9
 have ags:aG w0 m1.iv 1 m1.dr fI:=by rw[Fo,Xa];exact BE
 refine aas ?_;refine aay (λm:iG=>F_ m (cJ u dr bH)) (λ_=>[aj 10 p,aj 3 p3,aj 7 p7,aj 8 p8,(2,U O bH)]) (λm=>dt p (J ga gn gc) (J fa fn fc) (J aa ts.length ac) m++(M aa ts.length ac 69 1 (ts.map AN)::(ts.map x9++[K p8 [U O 0,U O 0] 28,K p7 [U O 0,U O 0,J A 0 0,U O 0] 89,K p3 [(J ga gn gc),(J fa fn fc)] 25]))) ?_ λm hm=>?_
 ·refine aH ?_
  refine bL (λx:iG×j7=>(∃rest t,Km x.1 x.2 rest t)/\ja u (x.2.steps+1) x.2/\x.2.steps<=bH/\aG w0 x.1.iv 1 x.1.dr fI/\oG u (bH-x.2.steps) x.2=cJ u dr bH) (λ_=>[aj 10 p,aj 3 p3,aj 7 p7,aj 8 p8,(2,U O bH)]) (λx=>dt p (J ga gn gc) (J fa fn fc) (J aa ts.length ac) x.1++(M aa ts.length ac 69 1 (ts.map AN)::(ts.map x9++[K p8 [U O 0,U O 0] 28,K p7 [U O 0,U O 0,J A 0 0,U O 0] 89,K p3 [(J ga gn gc),(J fa fn fc)] 25]))) (λx=>bH-x.2.steps) (m1,jA u dr) ⟨Px,vR hu hs SF,aT _,ags,rfl⟩ (aS ap aK) λx hx=>?_;obtain⟨m,s⟩:=x;obtain⟨⟨rest,t,hr⟩,cY,Xn,Nl,rp⟩:=hx;simp only at hr cY Xn Nl rp⊢;refine fC (H1:=K p [(J ga gn gc),(J fa fn fc),(J aa ts.length ac),J m.ma m.mem.length m.mc,m.iv,U O m.state,U O m.value,J m.oa m.out.length m.oc,U O m.steps,J m.fa m.rows.length m.fc,J m.ca m.cs.length m.cc] 168::((lx m::kz m::jx m::kJ m::(m.rows.map qM++m.cs.map mQ))++(M aa ts.length ac 69 1 (ts.map AN)::(ts.map x9++[K p8 [U O 0,U O 0] 28,K p7 [U O 0,U O 0,J A 0 0,U O 0] 89,K p3 [(J ga gn gc),(J fa fn fc)] 25])))) rfl ?_;refine aH ?_;have SN:=hr.steps;have hz:=hr.zero;refine Or.elim (Classical.em (s.steps=bH)) (λhe=>?_) (λhe=>?_)
  ·rw[show decide ((m.steps:Int)=(bH:Int))=true by simp;omega]
   refine aH ?_;refine fC (H1:=dt p (J ga gn gc) (J fa fn fc) (J aa ts.length ac) m++(M aa ts.length ac 69 1 (ts.map AN)::(ts.map x9++[K p8 [U O 0,U O 0] 28,K p7 [U O 0,U O 0,J A 0 0,U O 0] 89,K p3 [(J ga gn gc),(J fa fn fc)] 25]))) rfl ?_;refine iX (H1:=dt p (J ga gn gc) (J fa fn fc) (J aa ts.length ac) m) (val:=λ_:Unit=>.bool false) (akg:=λ_=>dt p (J ga gn gc) (J fa fn fc) (J aa ts.length ac) {m with state:=1}) (φ:=λ_=>True) (yD w0) rfl (λEU w _ _ _ hw=>wH p _ _ _ m 1 w hw) λ_ _=>?_;refine aE ?_;refine dS {m with state:=1} ?_ ap aK;rw[<-rp,he,dN];exact⟨rfl,hz.2,hr.out,hr.steps,hr.lF⟩
  ·rw[show decide ((m.steps:Int)=(bH:Int))=false by simp;omega]
   refine aH ?_;refine fC (H1:=dt p (J ga gn gc) (J fa fn fc) (J aa ts.length ac) m++(M aa ts.length ac 69 1 (ts.map AN)::(ts.map x9++[K p8 [U O 0,U O 0] 28,K p7 [U O 0,U O 0,J A 0 0,U O 0] 89,K p3 [(J ga gn gc),(J fa fn fc)] 25]))) rfl ?_;refine iX (H1:=dt p (J ga gn gc) (J fa fn fc) (J aa ts.length ac) m) (val:=λy:iG×Bool=>.bool y.2) (akg:=λy=>dt p (J ga gn gc) (J fa fn fc) (J aa ts.length ac) y.1) (φ:=λy=>AW m (jr u s) y) (yD w0) rfl (λEU w od hle hwd hw=>YP od u hu p _ _ _ (wM.le nC hle) (by have h9:=YD hwd rfl I;rw[Xt]at h9;exact h9) m s rest t hr cY I (Nl.le lM hle) w hw) λy hy=>?_;obtain⟨m',b⟩:=y;obtain⟨hvs,lK⟩:=hy;simp only at hvs lK⊢;have Aj:bH-s.steps=(bH-(s.steps+1))+1:=I;rw[Aj,oG]at rp;cases he2:jr u s with
   |inl s'=>
    rw[he2]at lK rp;simp only at lK rp;obtain⟨rfl,Dh⟩:=lK;obtain⟨agW,hss⟩:=kQ hu cY he2;refine aH ?_;refine bj (m',s') ⟨Dh,agW,by simp only;omega,hvs.sl Nl,by simp only;rw[hss];exact rp⟩ bK ap aK
   |inr f=>
    rw[he2]at lK rp;simp only at lK rp;obtain⟨rfl,Dh⟩:=lK;refine aE ?_;exact dS m' (by rw[<-rp];exact Dh) ap aK
 refine bi (H1:=K p [(J ga gn gc),(J fa fn fc),(J aa ts.length ac),J m.ma m.mem.length m.mc,m.iv,U O m.state,U O m.value,J m.oa m.out.length m.oc,U O m.steps,J m.fa m.rows.length m.fc,J m.ca m.cs.length m.cc] 168::K p8 [U O 0,U O 0] 28::K p7 [U O 0,U O 0,J A 0 0,U O 0] 89::jx m::kJ m::(m.cs.map mQ++(lx m::kz m::M aa ts.length ac 69 1 (ts.map AN)::K p3 [(J ga gn gc),(J fa fn fc)] 25::(m.rows.map qM++ts.map x9)))) (Qd _ _ _ _ _ _ _ _ _ (m.rows.map qM) (ts.map x9) (m.cs.map mQ)) ?_;refine jQ (L':=[aj 10 p,aj 3 p3,aj 7 p7,aj 8 p8,(2,U O bH)]) (H':=K p [(J ga gn gc),(J fa fn fc),(J aa ts.length ac),J m.ma m.mem.length m.mc,m.iv,U O m.state,U O m.value,J m.oa m.out.length m.oc,U O m.steps,J m.fa m.rows.length m.fc,J m.ca m.cs.length m.cc] 168::K p8 [U O 0,U O 0] 28::K p7 [U O 0,U O 0,J A 0 0,U O 0] 89::jx m::kJ m::m.cs.map mQ) ap (dM (dM (dM (dM (dM (eI _ _)))))) ?_;refine aU ?_;refine dQ [K p [(J ga gn gc),(J fa fn fc),(J aa ts.length ac),J m.ma m.mem.length m.mc,m.iv,U O m.state,U O m.value,J m.oa m.out.length m.oc,U O m.steps,J m.fa m.rows.length m.fc,J m.ca m.cs.length m.cc] 168] (λ_:Unit=>True) (λ_=>[(6,J m.ca m.cs.length m.cc),aj 7 p7,aj 8 p8]) (λ_=>K p8 [U O 0,U O 0] 28::K p7 [U O m.state,U O m.value,J m.oa m.out.length m.oc,U O m.steps] 89::jx m::kJ m::m.cs.map mQ) mixed aw ?_ λ_ _=>?_
 ·skip
  refine ag 0 ?_;refine ag 1 ?_;refine ag 2 ?_;refine ag 3 ?_;refine ag 4 ?_;refine ag 5 ?_;refine ag 6 ?_;refine ag 7 ?_;refine ag 8 ?_;refine ag 9 ?_;refine cR 10 ai aw ?_;refine cR 11 ai aw ?_;refine eA ai ?_;exact dS () trivial ap (dR _ _)
 refine aH ?_;exact yR rfl λw' ek=>⟨m,rfl,ek.sub (.cons _ (.cons _ (.refl _))),hm⟩
def fR(u:a8)(n:Nat)(bH:Int):Int×Int:=if (dA u).1≠0 then dA u else if 30<n then(2,-1)else if !within bH 0 100000 then(3,-1)else(0,0)
theorem KT(u:a8)(hl:nA u)(g fs iv:V)(dr:List Int)(bH:Int)(wJ:(fR u dr.length bH).1≠0)(w0:C)(hg:aG w0 g 3 u.globals fg)(hf:aG w0 fs 4 u.funcs gq)(oA:aG w0 iv 1 dr fI)(iN:bF w0 0 0 nI):
  eP ae 87 [au #[g,fs],iv,U O bH] w0 (.tuple #[J A 0 0,au #[U O 0,U O 0,J A 0 0,U O 0],au #[U O (fR u dr.length bH).1,U O (fR u dr.length bH).2]]):=by
 have yX:=hg;have wM:=hf;obtain⟨ga,gn,gc,gb,go,rfl,_⟩:=hg;obtain⟨fa,fn,fc,fb,fo,rfl,_⟩:=hf;obtain⟨ia,il,ic,ib,io,rfl,iJ,_⟩:=oA;refine aM func87 rfl ntmps87 rfl (Wd.nil cX w0) ?_
 repeat(first|refine aU ?_|refine dZ λ_ _=>?_)
 refine bB rfl (λw hw=>tO u hl _ _ w (yX.bZ dq hw.ch) (wM.bZ dG hw.ch) (iN.bZ hw.ch)) ?_
 repeat(first|refine aE ?_|refine dZ λ_ _=>?_)
 rename_i p3 _ p7 _ p8 _ p9 _;refine aI (λh1=>?_) (λh1=>?_)
 ·have eQ:(dA u).1≠0:=by
   intro h0;rw[nt h0]at h1;simp at h1
  rw[show fR u dr.length bH=dA u by unfold fR;rw[if_pos eQ]];refine aU ?_;refine jQ (L':=[aj 7 p7,aj 8 p8,aj 9 p9]) ap (.refl _) ?_;refine dQ [K p9 [U O (dA u).1,U O (dA u).2] 28] (λ_:Unit=>True) (λ_=>[(6,J A 0 0),aj 7 p7,aj 8 p8]) (λ_=>[K p9 [U O (dA u).1,U O (dA u).2] 28,K p8 [U O (dA u).1,U O (dA u).2] 28,K p7 [U O 0,U O 0,J A 0 0,U O 0] 89]) mixed aw ?_ λ_ _=>?_
  ·skip
   refine ag 0 ?_;refine ag 1 ?_;refine ag 2 ?_;refine cR 3 ai aw ?_;refine cR 4 ai aw ?_;refine eA ai ?_;exact dS () trivial ap aC
  refine aE ?_;exact yR rfl λw' ek=>⟨rfl,ek.ch⟩
 have GG:¬(dA u).1≠0:=by simp at h1;omega
 refine aH ?_;refine aI (λh2=>?_) (λh2=>?_)
 ·have xE:30<dr.length:=by simp at h2;omega
  rw[show fR u dr.length bH=(2,-1) by unfold fR;rw[if_neg GG,if_pos xE]];refine aU ?_;refine bB rfl (λw _=>pJ _ _ w) ?_;refine aE ?_;exact yR rfl λw' ek=>⟨rfl,ek.ch⟩
 have xE:¬30<dr.length:=by simp at h2;omega
 refine aH ?_;refine bB rfl (λw _=>jX _ _ _ w) ?_;refine aU ?_;refine aI (λh3=>?_) (λh3=>?_)
 ·rw[show fR u dr.length bH=(3,-1) by unfold fR;rw[if_neg GG,if_neg xE,if_pos (ax h3)]]
  refine aU ?_;refine bB rfl (λw _=>pJ _ _ w) ?_;refine aE ?_;exact yR rfl λw' ek=>⟨rfl,ek.ch⟩
 ·exact absurd (by unfold fR;rw[if_neg GG,if_neg xE,if_neg (ax h3)]) wJ
theorem yF{u:a8}{n:Nat}{bH:Int}(h:(fR u n bH).1=0):(dA u).1=0/\n<=30/\∃k:Nat,bH=k/\k<=100000:=by
 unfold fR at h
 split at h
 ·rename_i h1;exact absurd h h1
 rename_i h1
 split at h
 ·cases h
 split at h
 ·cases h
 rename_i h3;simp only[within,Bool.not_eq_true',Bool.and_eq_false_iff,decide_eq_false_iff_not,not_or,Decidable.not_not]at h3;exact⟨ax h1,I,bH.toNat,I,I⟩
theorem QO{u:a8}{s:j7}{f:Fin}(he:jr u s=.inr f):f.out=s.out:=by
 rw[iS]at he
 split at he
 ·unfold mj at he
  split at he
  ·cases he
  split at he
  ·cases he
  split at he
  ·rw[<-Sum.inr.inj he];rfl
  ·cases he
 ·unfold kY at he
  simp only at he
  repeat' (split at he)
  all_goals first
   |(cases he;done)
   |(rw[<-Sum.inr.inj he]<;>rfl)
theorem N_{u:a8}(hu:jH u):∀(n:Nat) (s:j7),ja u (s.steps+1) s->(oG u n s).out.length<=200/\∀x∈(oG u n s).out,dk x
 |0,s,h=>h.out
 |n+1,s,h=>by
  rw[oG];cases he:jr u s with
  |inl s'=>exact N_ hu n s' (kQ hu h he).1
  |inr f=>simp only;rw[QO he];exact h.out
theorem My{u:a8}(hu:jH u)(hs:yt u){dr:List Int}(oA:∀x∈dr,dk x)(bH:Nat):(cJ u dr bH).out.length<=200/\∀x∈(cJ u dr bH).out,dk x:=
 N_ hu bH (jA u dr) (vR hu hs oA)
theorem aao(u:a8)(hl:nA u)(g fs iv:V)(dr:List Int)(bH:Int)(wJ:(fR u dr.length bH).1≠0)(w0:C)(hg:aG w0 g 3 u.globals fg)(hf:aG w0 fs 4 u.funcs gq)(oA:aG w0 iv 1 dr fI)(iN:bF w0 0 0 nI):
  eP ae 53 [au #[g,fs],iv,U O bH] w0 (.tuple #[au #[U O 0,U O 0,J A 0 0,U O 0],au #[U O (fR u dr.length bH).1,U O (fR u dr.length bH).2]]):=by
 have yX:=hg;have wM:=hf;have BE:=oA;obtain⟨ga,gn,gc,gb,go,rfl,_⟩:=hg;obtain⟨fa,fn,fc,fb,fo,rfl,_⟩:=hf;obtain⟨ia,il,ic,ib,io,rfl,iJ,_⟩:=oA;refine aM func53 rfl ntmps53 rfl (Wd.nil cX w0) ?_
 repeat(first|refine aU ?_|refine dZ λ_ _=>?_)
 refine bB rfl (λw hw=>KT u hl _ _ _ dr bH wJ w (yX.bZ dq hw.ch) (wM.bZ dG hw.ch) (BE.bZ dP hw.ch) (iN.bZ hw.ch)) ?_
 repeat(first|refine aE ?_|refine dZ λ_ _=>?_)
 rename_i p3 _ p6 _ p7 _ p9 _ EO _;refine jQ (L':=[aj 6 p6,aj 7 p7,aj 9 p9,aj 10 EO]) ap (.refl _) ?_;refine dQ [K EO [U O (fR u dr.length bH).1,U O (fR u dr.length bH).2] 28,K p9 [U O 0,U O 0,J A 0 0,U O 0] 89] (λ_:Unit=>True) (λ_=>[aj 6 p6,aj 7 p7]) (λ_=>[K p7 [U O (fR u dr.length bH).1,U O (fR u dr.length bH).2] 28,K p6 [U O 0,U O 0,J A 0 0,U O 0] 89]) mixed aw ?_ λ_ _=>?_
 ·skip
  refine ag 0 ?_;refine ag 1 ?_;refine cR 2 ai aw ?_;refine cR 3 ai aw ?_;refine eA ai ?_;exact dS () trivial ap aC
 refine aH ?_;exact tT rfl λw' ek=>⟨rfl,ek.ch⟩
theorem Y1(u:a8)(hl:nA u)(g fs iv:V)(dr:List Int)(bH:Nat)(rm:(fR u dr.length bH).1=0)(w0:C)(hg:aG w0 g 3 u.globals fg)(hf:aG w0 fs 4 u.funcs gq)(oA:aG w0 iv 1 dr fI)(iN:bF w0 0 0 nI):
  iC ae 53 [au #[g,fs],iv,U O bH] w0 λv w'=>∃x:Option Addr×Nat×(Nat->Prop),
   v=.tuple #[au #[U O (cJ u dr bH).state,U O (cJ u dr bH).value,J x.1 (cJ u dr bH).out.length x.2.1,U O (cJ u dr bH).steps],au #[U O 0,U O 0]]/\
   Wd cX w0 [⟨x.2.2,λw=>aG w (J x.1 (cJ u dr bH).out.length x.2.1) 1 (cJ u dr bH).out fI⟩] w'/\True:=by
 obtain⟨h0,ago,k,hk,Bj⟩:=yF rm;have hkf:bH=k:=I;have hu:=Ki hl h0 (NV hf);have hs:=Ba h0 (IF hg);have SF:∀x∈dr,dk x:=λx hx=>by obtain⟨_,_,h9⟩:=oA.el hx;exact h9
 have Am:=My hu hs SF bH;have yX:=hg;have wM:=hf;have BE:=oA;obtain⟨ga,gn,gc,gb,go,rfl,_⟩:=hg;obtain⟨fa,fn,fc,fb,fo,rfl,_⟩:=hf;obtain⟨ia,il,ic,ib,io,rfl,iJ,_⟩:=oA;refine aM func53 rfl ntmps53 rfl (Wd.nil cX w0) ?_
 repeat(first|refine aU ?_|refine dZ λ_ _=>?_)
 refine cZ (val:=λm:iG=>.tuple #[J m.ca m.cs.length m.cc,au #[U O m.state,U O m.value,J m.oa m.out.length m.oc,U O m.steps],au #[U O 0,U O 0]]) (akg:=λm=>[jx m]) (φ:=λm=>F_ m (cJ u dr bH)) rfl (λw hw=>
  (RC u hl h0 hs hu _ _ _ dr bH I ago w (yX.bZ dq hw.ch) (wM.bZ dG hw.ch) (BE.bZ dP hw.ch) (iN.bZ hw.ch)).mono λv w' ⟨m,h1,h2,h3⟩=>⟨m,h1,h2.sub (dM qd),h3⟩) λm hm=>?_
 simp only[aW,aO]
 repeat(first|refine aE ?_|refine dZ λ_ _=>?_)
 rename_i p3 _ p6 _ p7 _ p9 _ EO _;refine jQ (L':=[aj 6 p6,aj 7 p7,aj 9 p9,aj 10 EO]) ap (.refl _) ?_;refine dQ [K EO [U O 0,U O 0] 28,K p9 [U O m.state,U O m.value,J m.oa m.out.length m.oc,U O m.steps] 89] (λ_:Unit=>True) (λ_=>[aj 6 p6,aj 7 p7]) (λ_=>[jx m,K p7 [U O 0,U O 0] 28,K p6 [U O m.state,U O m.value,J m.oa m.out.length m.oc,U O m.steps] 89]) mixed aw ?_ λ_ _=>?_
 ·skip
  refine ag 0 ?_;refine ag 1 ?_;refine cR 2 ai aw ?_;refine cR 3 ai aw ?_;refine eA ai ?_;exact dS () trivial ap aC
 refine aH ?_;refine tT rfl λw' ek=>⟨(m.oa,m.oc,cH [jx m]),?_,?_,trivial⟩
 ·rw[<-hm.state,<-hm.value,<-hm.out,<-hm.steps]
 ·have h1:Wd cX w0 ([jx m]++[]) w':=ek.sub (dM qd)
  have h2:=h1.pack (λw=>aG w (J m.oa m.out.length m.oc) 1 m.out fI) λw2 jg=>?_
  ·rw[<-hm.out];exact h2
  ·refine jg.oH (k:=0) rfl rfl (by rw[hm.out];omega) λi x hx=>⟨[U O x],λj v hj=>?_,rfl,Am.2 x (by rw[<-hm.out];exact aq hx)⟩
   match j,hj with
   |0,hj=>simpa[hx]using hj
theorem Wm(s v t1 t2:Int)(a1 a2:Option Addr)(c1 c2:Nat)(l:List Int)(w0:C)(h1:aG w0 (J a1 l.length c1) 1 l fI)(h2:aG w0 (J a2 l.length c2) 1 l fI):
  eP ae 54 [au #[U O s,U O v,J a1 l.length c1,U O t1],au #[U O s,U O v,J a2 l.length c2,U O t2]] w0 (D true):=by
 refine aM func54 rfl ntmps54 rfl (Wd.nil cX w0) ?_
 repeat(first|refine aU ?_|refine dZ λ_ _=>?_)
 rw[show decide (s=s)=true by simp];refine aE ?_;rw[show decide (v=v)=true by simp];refine aE ?_;refine bB rfl (λw hw=>LN _ _ l l w (h1.bZ (λ_ _ _ _ _ h=>h) hw.ch) (h2.bZ (λ_ _ _ _ _ h=>h) hw.ch)) ?_;rw[show decide (l=l)=true by simp];refine aH ?_;exact bP rfl rfl
structure Comes(a b:a8)(dr:List Int)(f k:Nat):Prop where
 ok:(fR b dr.length k).1=0
 state:(cJ b dr k).state=(cJ a dr f).state
 value:(cJ b dr k).value=(cJ a dr f).value
 out:(cJ b dr k).out=(cJ a dr f).out
theorem ab4(a b:a8)(I6:nA a)(SH:nA b)(ga fa gb fb iv:V)(dr:List Int)(bH:Int)(w0:C)(W5:aG w0 ga 3 a.globals fg)(vx:aG w0 fa 4 a.funcs gq)(hgb:aG w0 gb 3 b.globals fg)(u1:aG w0 fb 4 b.funcs gq)(oA:aG w0 iv 1 dr fI)(iN:bF w0 0 0 nI)
  (Jf:∀f:Nat,f<=2000->(fR a dr.length f).1=0->(cJ a dr f).state≠1->Comes a b dr f (20*f+200)):
  eP ae 23 [au #[ga,fa],au #[gb,fb],iv,U O bH] w0 (D true):=by
 have adC:=W5;have adv:=vx;have agj:=hgb;have age:=u1;have BE:=oA;obtain⟨ga1,gan,gac,_,_,rfl,_⟩:=W5;obtain⟨fa1,fan,fac,_,_,rfl,_⟩:=vx;obtain⟨gb1,gbn,gbc,_,_,rfl,_⟩:=hgb;obtain⟨fb1,fbn,fbc,_,_,rfl,_⟩:=u1;obtain⟨ia,il,ic,_,_,rfl,_⟩:=oA;refine aM func23 rfl ntmps23 rfl (Wd.nil cX w0) ?_
 repeat(first|refine aU ?_|refine dZ λ_ _=>?_)
 by_cases h1:bH<0
 ·rw[show decide (bH<0)=true by simp[h1]]
  refine iL ?_;exact bP rfl rfl
 rw[show decide (bH<0)=false by simp[h1]];refine aE ?_;refine aI (λh2=>?_) (λh2=>?_)
 ·refine aE ?_
  exact bP rfl rfl
 obtain⟨f,rfl⟩:∃f:Nat,bH=f:=⟨bH.toNat,I⟩;have hf2:f<=2000:=by simp at h2;omega
 refine aH ?_
 by_cases wJ:(fR a dr.length f).1≠0
 ·refine bB rfl (λw hw=>aao a I6 _ _ _ dr f wJ w (adC.bZ dq hw.ch) (adv.bZ dG hw.ch) (BE.bZ dP hw.ch) (iN.bZ hw.ch)) ?_
  repeat(first|refine aE ?_|refine dZ λ_ _=>?_)
  refine aI (λh2=>?_) (λh2=>?_)
  ·refine aE ?_
   exact bP rfl rfl
  ·exact absurd h2 (by simp[wJ])
 have rm:(fR a dr.length f).1=0:=ax wJ;refine cZ (val:=λx:Option Addr×Nat×(Nat->Prop)=>.tuple #[au #[U O (cJ a dr f).state,U O (cJ a dr f).value,J x.1 (cJ a dr f).out.length x.2.1,U O (cJ a dr f).steps],au #[U O 0,U O 0]]) (akg:=λx=>[⟨x.2.2,λw=>aG w (J x.1 (cJ a dr f).out.length x.2.1) 1 (cJ a dr f).out fI⟩]) (φ:=λ_=>True) rfl (λw hw=>Y1 a I6 _ _ _ dr f rm w (adC.bZ dq hw.ch) (adv.bZ dG hw.ch) (BE.bZ dP hw.ch) (iN.bZ hw.ch)) λx _=>?_;obtain⟨oa,oc,op⟩:=x;simp only[aW,aO]
 repeat(first|refine aE ?_|refine dZ λ_ _=>?_)
 rw[show(!decide ((0:Int)=0))=false by simp]
 skip
 refine aI (λh3=>?_) (λh3=>?_)
 ·refine aE ?_
  exact bP rfl rfl
 obtain⟨h4,h5,h6,h7⟩:=Jf f hf2 rm (ax h3);refine aH ?_;refine acM rfl I I ?_;refine aH ?_;rw[show(20:Int)*(f:Int)+200=((20*f+200:Nat):Int) by omega];refine cZ (val:=λx:Option Addr×Nat×(Nat->Prop)=>.tuple #[au #[U O (cJ b dr (20*f+200)).state,U O (cJ b dr (20*f+200)).value,J x.1 (cJ b dr (20*f+200)).out.length x.2.1,U O (cJ b dr (20*f+200)).steps],au #[U O 0,U O 0]]) (akg:=λx=>[⟨x.2.2,λw=>aG w (J x.1 (cJ b dr (20*f+200)).out.length x.2.1) 1 (cJ b dr (20*f+200)).out fI⟩]) (φ:=λ_=>True) rfl (λw hw=>Y1 b SH _ _ _ dr _ h4 w (agj.bZ dq hw.ch) (age.bZ dG hw.ch) (BE.bZ dP hw.ch) (iN.bZ hw.ch)) λx _=>?_;obtain⟨na,nc,np⟩:=x;simp only[aW,aO];rw[h5,h6,h7]
 repeat(first|refine aE ?_|refine dZ λ_ _=>?_)
 rw[show decide ((0:Int)=0)=true by simp]
 skip
 refine bB rfl (λw hw=>Wm _ _ _ _ _ _ _ _ _ w ?_ ?_) ?_
 ·exact hw.get (k:=5) rfl
 ·exact hw.get (k:=2) rfl
 refine aH ?_;exact bP rfl rfl
theorem Hf{u v:a8}(h:lC u v)(hv:jE v){dr:List Int}(oA:∀x∈dr,dk x){f m:Nat}(hc:(fR u dr.length f).1=0)(hs:(cJ u dr f).state≠1)(hf:f<=m)(hm:m<=100000):Comes u v dr f m:=by
 obtain⟨_,iJ,_⟩:=yF hc;obtain⟨h1,_⟩:=h dr f m oA hs hf;refine⟨?_,h1.state,h1.value,h1.out⟩;unfold fR;rw[if_neg (by simp[fN.2 hv]),if_neg I,if_neg (by simp[within];omega)]
end
section
set_option maxRecDepth 100000
open Go.ChangeAt Go.ChangeShapes Go.WideShapes
theorem Ur{H:Type}{enc:TypeId×V->H}{W:C}{args:Array V}{ds:List (DataW H)}{p:List MemPlace}{base:Nat}{params:Array TypeId}(hp:params= #[25,42,3])
  (h1:∀(j:Nat) t v,params[j]?=Z t->args[j]?=Z v->Value.okWide ae W .any base t v)
  (hA:DataW.TrodAll enc ae W 0 (λ_=>true) true [25,42,3] args.toList ds p) (hz:∀k∈DataW.weightsEach ae [25,42,3] ds,k<=reachBytes):
  ∃(u:a8) (g fs:V) (v:V) (l:List Int) (k:Int),args= #[au #[g,fs],v,U O k]/\aG W g 3 u.globals fg/\aG W fs 4 u.funcs gq/\aG W v 1 l fI/\dk k:=by
 subst hp;obtain⟨v0,vs0,d0,ds0,p0,q0,ri,rfl,rfl,h0,r0⟩:=trodAll_cons hA;obtain⟨v1,vs1,d1,ds1,p1,q1,rfl,rfl,rfl,GG,r1⟩:=trodAll_cons r0;obtain⟨v2,vs2,d2,ds2,p2,q2,rfl,rfl,rfl,xE,r2⟩:=trodAll_cons r1;obtain⟨rfl,rfl,rfl⟩:=trodAll_nil r2;obtain rfl:args= #[v0,v1,v2]:=by cases args;simp_all
 obtain⟨cs0,rfl,_⟩:=okWide_struct underlying25 (h1 0 25 v0 rfl rfl);obtain⟨f0,k0⟩:=h0;obtain⟨f1,k1⟩:=GG;obtain⟨f2,k2⟩:=xE;obtain⟨cs0⟩:=cs0;have VX:Small ae 25 d0:=λk hk=>hz k (mS (i:=0) rfl rfl hk);have HN:Small ae 42 d1:=λk hk=>hz k (mS (i:=1) rfl rfl hk);obtain⟨u,g,f,e0,hg,hf⟩:=abY k0 VX;have ZU:v1.cells= #[v1]:=by
  obtain⟨_,_,_,rfl⟩:=okWide_slice underlying42 (h1 1 42 v1 rfl rfl)
  rfl
 have tI:v2.cells= #[v2]:=by
  obtain⟨n,rfl,_⟩:=okWide_int underlying3 (h1 2 3 v2 rfl rfl)
  rfl
 obtain⟨n,e1,hn⟩:=vK k2;rw[ZU]at k1;obtain⟨l,hs⟩:=Mg (x:=(d1,_)) k1 HN;simp only[Value.cells]at e0;subst e0;rw[tI]at e1;simp only[List.cons.injEq,and_true]at e1;subst e1;exact⟨u,g,f,v1,l,n,rfl,hg,hf,hs,hn⟩
def BQ:Array V:=#[au #[J A 0 0,J A 0 0],J A 0 0,U O 0]
end
end Go.Proofs.YthfhgolkafpmnaaGreatDoor
