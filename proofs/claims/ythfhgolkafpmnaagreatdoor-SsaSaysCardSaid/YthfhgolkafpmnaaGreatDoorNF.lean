/- Lemmas. -/
import Derived.Test.YthfhgolkafpmnaaGreatDoorMJ
import Derived.Test.YthfhgolkafpmnaaGreatDoorNE
namespace Go.Proofs.YthfhgolkafpmnaaGreatDoor
open Go.Value renaming int->J,slice->I,string->aQ,bool->ag,agg->aC
open Go.IntKind renaming i64->Z
open Option renaming some->O,none->U
open Go renaming Value->K,World->ae
open List renaming range->bj
open Go.Proofs.Tryz
open Go.Proofs.Tryz renaming prog->Y
open Go Go.RowKit
variable {bl:List aq} {b n:Nat}
section
theorem ac4{k:Nat}{B:aq}(mK:∀B∈bl,sm B<=1000)(hlen:bl.length<=100)(hn:n<=1000)(hB:bl[b]?=O B)(hk:k<=sm B):0<=Ae bl n b k/\Ae bl n b k<=200000:=by
 have h1:=(aJ.1 hB).1;rw[vz h1];have h2:=yj (n:=n) mK b;have h3:=mK B (aA hB);omega
theorem I7{i:Nat}{v:cI}(mK:∀B∈bl,sm B<=1000)(hlen:bl.length<=100)(hn:n<=1000)(hv:uJ (λr=>0<=r) v)(hi:dE v.n):dE (kt (Ae bl n) bl n b i v).n:=by
 have h1:=wh (ν:=Ae bl n) (bl:=bl) (n:=n) (b:=b) (i:=i) hv
 by_cases hr:(kt (Ae bl n) bl n b i v).dq=true
 ·rcases h1 hr with h2|⟨c,C,k,hC,hk,e⟩
  ·exact⟨A,A⟩
  ·have h3:k<=sm C:=by
    unfold sm;rcases hk with hk|⟨i,x,rfl,hx,_⟩
    ·omega
    ·have:=(aJ.1 hx).1
     omega
   have:=ac4 mK hlen hn hC h3;rw[<-e];exact⟨A,A⟩
 ·have hr2:(kt (Ae bl n) bl n b i v).dq=false:=aD hr
  unfold kt at hr2|-
  split
  ·rename_i h3
   rw[al h3]at hr2;rw[show nm (Ae bl n) bl n b i v.n=lB from Oc _ _ _ hr2];exact⟨by simp[lB],by simp[lB]⟩
  ·exact hi
attribute [local irreducible] wpListIn Code.wpIn Exit.then Exit.inBlock bodyPost wpQuiet wpAnyIn wpAnyH bodyPostM md
set_option maxHeartbeats 4000000
set_option synthInstance.maxSize 2000
set_option synthInstance.maxHeartbeats 400000
theorem Sa(iE:ByteArray)(n:Nat)(hn:n<=1000)(bl P:List aq)(bs:K)(R:Nat)(hP:P=jt bl R)(hR:R<=100)(hf:eW R bl)(dW:0<bl.length)(hlen:bl.length<=100)(oY:eu bl<=800)(sZ:∀B∈bl,∀x∈B.list,x.args.length<=1000)(lu:∀B∈bl,B.list.length<=1000)
  (dV:dK P) (afk:∀b,b<P.length->jg P (-1) 0 b) (mK:∀B∈P,sm B<=1000) (pK:∀B∈P,n_ (λr=>0<=r/\r<=1000) B) (se:∀(b:Nat) B,P[b]?=O B->∀p∈B.bg,p.src.length=(be P b).length) (w0:ae) (gV:aY w0 bs 6 bl da) (oF:∀(w:ae) (b:aK),b.dD∈bl->qk w b->b.Bd):
  iL Y 15 [aC #[aQ iE,J Z (n:Int),J Z (R:Int),bs]] w0 λu w'=>∃x:ax×Nat×List aK,u=aC #[aQ iE,J Z (n:Int),J Z (eV P n P.length:Nat),I x.1 x.2.2.length x.2.1]/\Wd db w0 (eM x.1 x.2.1 x.2.2) w'/\(x.2.2.map aK.dD=pU (Ae P n) P n/\∀b∈x.2.2,b.Bd):=by
 classical
 have hPl:P.length=bl.length:=by rw[hP,jU]
 obtain⟨ba,bn,bc,rfl⟩:∃a m c,bs=I a m c:=by obtain⟨a,m,c,_,_,rfl,_⟩:=gV;exact⟨_,_,_,rfl⟩
 refine aR func15 rfl ntmps15 rfl (Wd.nil db w0) ?_
 repeat(first|refine cT ?_|refine dd λ_ _=>?_)
 rename_i p1 _ p2 _;refine cN (val:=λx:ax×Nat×List aK=>.agg #[aQ iE,J Z n,J Z (R:Int),I x.1 x.2.2.length x.2.1]) (cZ:=λx=>eM x.1 x.2.1 x.2.2) (φ:=λx=>x.2.2.map aK.dD=P/\∀b∈x.2.2,b.Bd) rfl (λw hw=>by rw[hP];exact RG iE n bl _ R hR hf dW hlen oY sZ lu w (gV.cB cu hw.c_) oF) λx hx=>?_;obtain⟨ga,gc,gs⟩:=x;obtain⟨EE,Mr⟩:=hx;simp only at EE Mr|-
 obtain⟨m,hm⟩:∃m,m=gs.length:=⟨_,rfl⟩;have Sw:P.length=m:=by rw[<-EE,aG,hm]
 rw[<-hm];have rB:∀{H:List cq} {w:ae},Wd db w0 H w->(eM ga gc gs).Sublist H->aY w (I ga m gc) 6 P da:=λ{H w} hw hs=>by
  rw[<-EE,hm];refine Wd.blocks (H:=[]) (hw.sub ?_) A Mr;rw[cj];exact hs
 repeat(first|refine cT ?_|refine dd λ_ _=>?_)
 rename_i p3 _;refine lr (H':=D p3 iE (n:Int) (R:Int) ga m gc::aj p2::eM ga gc gs) (λw hw=>hw.pick ⟨[D p1 iE n (R:Int) ba bn bc],aX.2 λe=>by simp only[bU,bM,dG,D,aj];omega⟩) ?_;obtain⟨Lb,Mn⟩:∃Lb:List Int,Lb=(Cb P n).map λx:Nat=>(x:Int):=⟨_,rfl⟩;obtain⟨Lu,hLu⟩:∃Lu:List Int,Lu=(bj P.length).map (ed P):=⟨_,rfl⟩;have agl:Lb.length=m+1:=by rw[Mn,aG];unfold Cb;rw[aG,d_,Sw]
 have ago:Lu.length=m:=by rw[hLu,aG,d_,Sw]
 refine cN (val:=λx:ax×Nat=>.slice x.1 (m+1) x.2) (cZ:=λx=>[aE x.1 (m+1) x.2 Lb]) (φ:=λ_=>True) rfl (λw hw=>?_) λx _=>?_
 ·have h1:=TC (aQ iE) (J Z (R:Int)) n hn P _ ⟨_,_,_,rfl⟩ w (rB hw (by first|exact fe _ _|exact .cons _ (fe _ _)|exact .cons _ (.cons _ (fe _ _))|exact .cons _ (.cons _ (.cons _ (.cons _ (.cons _ (.refl _)))))|exact dU _|exact .cons _ (.refl _)|exact .cons _ (.cons _ (.refl _))|exact .cons _ (.cons _ (.cons _ (.refl _)))|exact .cons _ (.cons _ (.cons _ (.cons _ (.refl _)))))) A mK
  rw[Sw]at h1;simp only[aE];rw[show Lb.map (J Z)=(Cb P n).map dz by rw[Mn,dM];rfl];exact h1
 obtain⟨va,vc⟩:=x;simp only[bF,aS]
 repeat(first|refine cT ?_|refine dd λ_ _=>?_)
 refine cN (val:=λx:ax×Nat=>.slice x.1 m x.2) (cZ:=λx=>[aE x.1 m x.2 Lu]) (φ:=λ_=>True) rfl (λw hw=>?_) λx _=>?_
 ·have h1:=RU (aQ iE) (J Z (n:Int)) (J Z (R:Int)) P _ ⟨_,_,_,rfl⟩ w (rB hw (by first|exact fe _ _|exact .cons _ (fe _ _)|exact .cons _ (.cons _ (fe _ _))|exact .cons _ (.cons _ (.cons _ (.cons _ (.cons _ (.refl _)))))|exact dU _|exact .cons _ (.refl _)|exact .cons _ (.cons _ (.refl _))|exact .cons _ (.cons _ (.cons _ (.refl _)))|exact .cons _ (.cons _ (.cons _ (.cons _ (.refl _)))))) A dV A
  rw[<-hLu,Sw]at h1;exact h1
 obtain⟨ua,uc⟩:=x;simp only[bF,aS]
 repeat(first|refine cT ?_|refine dd λ_ _=>?_)
 refine cN (val:=λx:ax×Nat×List aK=>.agg #[aQ iE,J Z n,J Z (R:Int),I x.1 x.2.2.length x.2.1]) (cZ:=λx=>eM x.1 x.2.1 x.2.2) (φ:=λx=>x.2.2.map aK.dD=P/\∀b∈x.2.2,b.Bd) rfl (λw hw=>AP iE n R P _ w (rB hw (by first|exact fe _ _|exact .cons _ (fe _ _)|exact .cons _ (.cons _ (fe _ _))|exact .cons _ (.cons _ (.cons _ (.cons _ (.cons _ (.refl _)))))|exact dU _|exact .cons _ (.refl _)|exact .cons _ (.cons _ (.refl _))|exact .cons _ (.cons _ (.cons _ (.refl _)))|exact .cons _ (.cons _ (.cons _ (.cons _ (.refl _)))))) A λb h1 h2=>?_) λx hx=>?_
 ·rw[<-EE]at h1
  obtain⟨b',oX,e⟩:=aT.1 h1;exact aK.Bd.of e.symm (Mr b' oX)
 obtain⟨na,nc,ns⟩:=x;obtain⟨vJ,tP⟩:=hx;simp only at vJ tP|-
 have yS:ns.length=m:=by rw[<-Sw,<-vJ,aG]
 rw[yS]
 repeat(first|refine cT ?_|refine dd λ_ _=>?_)
 rename_i p6 _;let Te:=D p3 iE (n:Int) (R:Int) ga m gc::aj p2::eM na nc ns;let Tg:=(D p6 iE (n:Int) (R:Int) na m nc::Te);refine bG (H1:=Tg++(aE va (m+1) vc Lb::aE ua m uc Lu::eM ga gc gs)) fM ?_<;>(try unfold Tg)<;>(try unfold Te);refine mA λw1 mS=>?_;have agk:∀x∈Lb,dE x:=λx hx=>by
  rw[Mn]at hx;obtain⟨y,hy,rfl⟩:=aT.1 hx;unfold Cb at hy;obtain⟨b,hb,rfl⟩:=aT.1 hy;have h2:=yj (n:=n) mK b;have h3:=cW.1 hb;exact⟨A,A⟩
 have agn:∀x∈Lu,dE x:=λx hx=>by
  rw[hLu]at hx;obtain⟨b,hb,rfl⟩:=aT.1 hx
  by_cases h:∃c,lJ P c b
  ·obtain⟨c,hc⟩:=h
   rw[lz hc];have:=dV.BG A hc.BG;exact⟨A,A⟩
  ·unfold ed
   rw[dif_neg h];exact⟨A,A⟩
 have Pg:aY (cC (df ((D p6 iE (n:Int) (R:Int) na m nc::D p3 iE (n:Int) (R:Int) ga m gc::aj p2::eM na nc ns))) w1) (I ga m gc) 6 P da:=by
  have h5:=Wd.blocks (H:=[]) (ba:=ga) (bc:=gc) (bs:=gs) (by rw[cj];exact mS.kw.sub (.cons _ (.cons _ (.refl _)))) A Mr;rw[EE,<-hm]at h5;exact h5
 have hbg:aY (cC (df (Tg)) w1) (I va (m+1) vc) 1 Lb gI:=by
  refine mS.kw.nf (k:=0) rfl agl.symm A (λi x hx=>⟨[J Z x],λj v hj=>by match j,hj with|0,hj=>simpa[hx]using hj,rfl,?_⟩);exact agk x (aA hx)
 have hup:aY (cC (df (Tg)) w1) (I ua m uc) 1 Lu gI:=by
  refine mS.kw.nf (k:=1) rfl ago.symm A (λi x hx=>⟨[J Z x],λj v hj=>by match j,hj with|0,hj=>simpa[hx]using hj,rfl,?_⟩);exact agn x (aA hx)
 have back:∀{cZ:List cq} {w:ae},Wd (df (Tg)) (cC (df (Tg)) w1) cZ w->Wd db w0 (cZ++(aE va (m+1) vc Lb::aE ua m uc Lu::eM ga gc gs)) w:=λhw=>mS.comp hw.ni;have Ph:∀{cZ:List cq} {w:ae},Wd (df (Tg)) (cC (df (Tg)) w1) cZ w->pz (cC (df (Tg)) w1) w:=λhw=>hw.ov;have hold:∀{b o:Nat} {v:K} {l:List K},ct (cC (df (Tg)) w1) b o (v::l)->iO (df (Tg)) b:=λhc=>iF hc cK;generalize cC (df (Tg)) w1=wk at*;generalize df (Tg)=SK at*;obtain⟨gb,go,Ge,zw,tN⟩:=fd Pg hold (λ_ _ h=>by obtain⟨_,_,_,e,_⟩:=h;exact⟨_,_,e⟩) (List.ne_nil_of_length_pos A);obtain⟨vb,vo,uu,td,r_⟩:=fd hbg hold (λ_ _ h=>by obtain⟨e,_⟩:=h;exact⟨_,_,e⟩) (List.ne_nil_of_length_pos A);have agm:Lb[m]?=O ((eV P n m:Nat):Int):=by
  rw[Mn,aW,D_ A]
  rfl
 obtain⟨_,ED,rfl,_⟩:=r_ m _ agm;have hlm:cg m (m+1):=⟨A⟩
 repeat(first|refine cT ?_|refine dd λ_ _=>?_)
 obtain⟨ν,hν⟩:∃ν,ν=Ae P n:=⟨_,rfl⟩;have YH:∀(d i0:Nat) (v:cI),d<m->i0<=100000->(v.dq=true->0<=v.n/\v.n<=1000)->∀w,pz wk w->gF Y 42 [aC #[aQ iE,J Z (n:Int),J Z (R:Int),I ga m gc],I va (m+1) vc,I ua m uc,aC #[ag v.dq,J Z v.n],aC #[J Z (d:Int),J Z (i0:Int)]] w (aC #[ag (kt ν P n d i0 v).dq,J Z (kt ν P n d i0 v).n]):=λd i0 v hd hi0 hv w hle=>by
  have h:=Qv (aQ iE) (J Z (R:Int)) n hn P (I ga m gc) va ua vc uc dV A A mK d i0 (afk d A) hi0 v hv w (Pg.le E6 hle) (by rw[Sw,<-Mn];exact hbg.le ry hle) (by rw[Sw,<-Sw,<-hLu,Sw];exact hup.le ry hle);rw[Sw]at h;rw[hν];exact h
 have aat:∀b k,b<m->ν b k=((eV P n b:Nat):Int)+(k:Int):=λb k hb=>by
  rw[hν,vz A];omega
 refine fU (H1:=D p6 iE (n:Int) (eV P n m:Nat) na m nc::D p3 iE (n:Int) (R:Int) ga m gc::aj p2::am na m nc ns::ns.map bP) (by unfold eM;rw[yS]) ?_;let Tt:=[M 6 p6,(5,I ua m uc),(4,I va (m+1) vc),M 3 p3,M 2 p2];refine bH (λ(x:Nat×List aK)=>x.1<=m/\x.2.length=m/\x.2.map aK.dD=(pU ν P n).take x.1++P.drop x.1/\∀b∈x.2,b.Bd) (λx=>(7,J Z x.1)::Tt)
  (λx=>D p6 iE (n:Int) (eV P n m:Nat) na m nc::D p3 iE (n:Int) (R:Int) ga m gc::aj p2::am na m nc x.2::x.2.map bP) (λx=>m-x.1) (0,ns) ⟨aN _,yS,by rw[vJ];simp,tP⟩ (aP V aF) λx ⟨hi,oG,Mu,Bc⟩=>?_<;>try unfold Tt
 obtain⟨i,rs⟩:=x;simp only at hi oG Mu Bc|-
 repeat(first|refine cT ?_|refine dd λ_ _=>?_)
 refine aL (λh2=>?_) (λh2=>?_)
 case refine_2=>
  obtain rfl:m=i:=by have:=cE h2;omega
  repeat(first|refine cT ?_|refine dd λ_ _=>?_)
  refine fD rfl λw hw=>⟨(na,nc,rs),by simp only;rw[oG,Sw],(back hw).sub ?_,?_,Bc⟩
  ·unfold eM
   rw[oG];exact iR (.cons _ (.cons _ (.cons _ (.refl _)))) (fe _ _)
  ·simp only
   rw[Mu,<-Sw,gY,cj,jR (by rw[jF];omega),hν]
 have iM:i<m:=aD h2;obtain⟨BB,Ko⟩:∃B,rs[i]?=O B:=⟨_,bL A⟩;have hB:P[i]?=O BB.dD:=by
  have h3:(rs.map aK.dD)[i]?=O BB.dD:=by rw[aW,Ko];rfl
  rw[Mu,dH (by simp[jF];omega),dA,jF,fP A,cV,gp,dR]at h3;exact h3
 have DU:=afk i A;have DS:=aA hB;have Y7:=pK _ DS;have rP:=Bc _ (aA Ko);have acL:=mK _ DS;have afv:=se i _ hB;obtain⟨qn,U4⟩:∃q,q=(be P i).length:=⟨_,rfl⟩;have ajc:qn<=100:=by
  rw[U4];exact dS (fC _ _) (by rw[d_];omega)
 rw[<-U4]at afv
 repeat(first|refine cT ?_|refine dd λ_ _=>?_)
 obtain⟨Lp,hLp⟩:∃Lp:List Int,Lp=(be P i).map λx:Nat=>(x:Int):=⟨_,rfl⟩;have ajk:Lp.length=qn:=by rw[hLp,aG,U4]
 refine cN (val:=λx:ax×Nat=>.slice x.1 qn x.2) (cZ:=λx=>[aE x.1 qn x.2 Lp]) (φ:=λ_=>True) rfl (λw hw=>by simp only[aE];rw[U4,show Lp.map (J Z)=(be P i).map dz by rw[hLp,dM];rfl];exact tC (aQ iE) (J Z n) (J Z (R:Int)) P _ i w (Pg.le E6 (Ph hw)) A) λx _=>?_;obtain⟨je,il⟩:=x;simp only[bF,aS];have hblk:BB.dD.bg=BB.ps.map ch.iN:=rfl;have aiv:BB.ps.length+BB.xs.length<=1000:=by
  have h3:=acL;unfold sm aK.dD at h3;simp only[aG]at h3;exact h3
 obtain⟨qa,qc,ps,ji,eO,xs,kd,on,xa,xc,to⟩:=BB;simp only at aiv hblk;refine fy 4 rfl A λwb wo qt=>?_;subst qt;have KJ:cg i m:=⟨iM⟩;have ai7:cg i (m+1):=⟨A⟩;have zu:gm (aE je qn il Lp::D p6 iE (n:Int) (eV P n m:Nat) (O ⟨wb,wo,U⟩) m nc::D p3 iE (n:Int) (R:Int) ga m gc::aj p2::am (O ⟨wb,wo,U⟩) m nc rs::rs.map bP) wb (wo+i*6) _:=jJ (k:=4) rfl de Ko;simp only[eA,D,aj,am,aE]at zu
 repeat(first|refine cT ?_|refine dd λ_ _=>?_)
 rename_i p9 _;obtain⟨_,Ap,rfl,_⟩:=r_ i ((eV P n i:Nat):Int) (by rw[Mn,aW,D_ A];rfl);have agJ:=yj (n:=n) mK i;have hao:∀k:Nat,k<=1000->Az ((eV P n i:Nat):Int) (k:Int):=λk hk=>⟨A,A⟩;obtain⟨_,hcB,pv,lv,tv,rfl,_,_,wP,kK,ht⟩:=tN i _ hB;obtain⟨pa1,pn1,pc1,_,_,rfl,afc,_⟩:=id wP;obtain⟨la1,ln1,lc1,_,_,rfl,ahD,_⟩:=id kK;obtain⟨ta1,tn1,tc1,_,_,rfl,_⟩:=id ht;have Dx:ps.length<=1000:=rP.bg;have K0:xs.length<=1000:=rP.list;have EL:=ig bP Ko;let Tj:=(⟨qa,qc,ps,ji,eO,xs,kd,on,xa,xc,to⟩:aK);let Tm:=(au p9 qa ps.length qc ji xs.length eO kd on xa to.length xc::aE je qn il Lp::D p6 iE (n:Int) (eV P n m:Nat) (O ⟨wb,wo,U⟩) m nc::D p3 iE (n:Int) (R:Int) ga m gc::aj p2::am (O ⟨wb,wo,U⟩) m nc rs::(rs.eraseIdx i).map bP);refine bG (H1:=bP Tj::Tm) (aX.2 λe=>?_) ?_<;>(try unfold Tj)<;>try unfold Tm
 ·have:=aX.1 EL e
  simp only[bM,D,aj,am,au,aE]at this|-
  omega
 refine uY ?_;let Tz:=(ps.map dZ++(oz Tj++(rs.eraseIdx i).map bP));refine bG (H1:=aw qa ps.length qc ps::au p9 qa ps.length qc ji xs.length eO kd on xa to.length xc::aE je qn il Lp::D p6 iE (n:Int) (eV P n m:Nat) (O ⟨wb,wo,U⟩) m nc::D p3 iE (n:Int) (R:Int) ga m gc::aj p2::am (O ⟨wb,wo,U⟩) m nc rs::Tz) (aX.2 λe=>?_) ?_<;>(try unfold Tz)<;>try unfold Tj
 ·have:=aX.1 (xd Tj) e
  unfold phV at this;simp only[bM,bU,D,aj,am,au,aw,aE,Tj]at this|-
  omega
 let Td:=(M 9 p9::(8,I je qn il)::(7,J Z i)::Tt);refine bH (λ(es:List ch)=>es.length<=ps.length/\es.map ch.iN=((ps.map ch.iN).mapIdx (FG ν P n i)).take es.length/\∀q∈es,dE q.dst/\q.l.length<=1000/\∀v∈q.l,dE v.n) (λes=>(10,J Z es.length)::Td)
  (λes=>aw qa ps.length qc (es++ps.drop es.length)::au p9 qa ps.length qc ji xs.length eO kd on xa to.length xc::aE je qn il Lp::D p6 iE (n:Int) (eV P n m:Nat) (O ⟨wb,wo,U⟩) m nc::D p3 iE (n:Int) (R:Int) ga m gc::aj p2::am (O ⟨wb,wo,U⟩) m nc rs::((es++ps.drop es.length).map dZ++(oz Tj++(rs.eraseIdx i).map bP))) (λes=>ps.length-es.length) [] ⟨aN _,rfl,by simp⟩ (aP V aF) λes ⟨Ju,vZ,zR⟩=>?_<;>(try unfold Tj)<;>(try unfold Td)<;>try unfold Tt
 repeat(first|refine cT ?_|refine dd λ_ _=>?_)
 let Tu:=[D p3 iE (n:Int) (R:Int) ga m gc];refine aL (λh3=>?_) (λh3=>?_)
 ·have ce:es.length<ps.length:=aD h3
  generalize tO:es.length=ei at*;obtain⟨u,hu⟩:=bE ps ei ce;have F2:=aA hu;obtain⟨hud,Gk,ES⟩:=rP.iN u F2;obtain⟨pd,iq,pk,pl⟩:=u;simp only at hud Gk ES;have zS:(⟨pd,pl⟩:gD)∈(Tj).dD.bg:=aT.2 ⟨_,F2,rfl⟩;have hPk:((⟨qa,qc,ps,ji,eO,xs,kd,on,xa,xc,to⟩:aK)).dD.bg[ei]?=O (⟨pd,pl⟩:gD):=by rw[hblk,aW,hu];rfl
  have ah3:pl.length=qn:=afv _ zS;have hvr:∀v∈pl,v.dq=true->0<=v.n/\v.n<=1000:=λv hv h=>(Y7.bg _ zS).2 v hv h;refine fy 0 rfl A λzb zo Bk=>?_;subst Bk;have Dt:cg ei ps.length:=⟨ce⟩;have ahA:cg ei pn1:=⟨by rw[afc];rw[hblk,aG];omega⟩;have jT:(es++ps.drop ei)[ei]?=O (⟨pd,iq,pk,pl⟩:ch):=by
   rw[dH A,tO,cV,gp,dR];exact hu
  have BZ:ps.drop ei=(⟨pd,iq,pk,pl⟩:ch)::ps.drop (ei+1):=by rw[jb ce,(aJ.1 hu).2]
  let Tw:=(⟨O ⟨zb,zo,U⟩,qc,ps,ji,eO,xs,kd,on,xa,xc,to⟩:aK);let Tb:=((es++ps.drop (ei+1)).map dZ++(oz Tw++(rs.eraseIdx i).map bP));let Tr:=D p6 iE (n:Int) (eV P n m:Nat) (O ⟨wb,wo,U⟩) m nc::D p3 iE (n:Int) (R:Int) ga m gc::aj p2::am (O ⟨wb,wo,U⟩) m nc rs::Tb;let Tc:=au p9 (O ⟨zb,zo,U⟩) ps.length qc ji xs.length eO kd on xa to.length xc::aE je qn il Lp::Tr;let Tx:=aw (O ⟨zb,zo,U⟩) ps.length qc (es++ps.drop ei)::Tc;refine bG (H1:=ar iq pl.length pk pl::Tx) (aX.2 λe=>?_) ?_<;>(try unfold Tx)<;>(try unfold Tc)<;>(try unfold Tr)<;>(try unfold Tb)<;>try unfold Tw
  ·rw[BZ]
   have e2:dZ (⟨pd,iq,pk,pl⟩:ch)=ar iq pl.length pk pl:=rfl;simp only[bz,cf,bU,bM,e2,D,aj,am,au,ar,aw,aE];omega
  have EU:lS ((es++ps.drop ei).flatMap iz) (ei*2+0) (J Z (((eV P n i:Nat):Int)+(ei:Int))) (((es++[(⟨(((eV P n i:Nat):Int)+(ei:Int)),iq,pk,pl⟩:ch)])++ps.drop (ei+1)).flatMap iz):=⟨by
   rw[fL eP jT (k:=0) A (y:=(⟨(((eV P n i:Nat):Int)+(ei:Int)),iq,pk,pl⟩:ch)) rfl];congr 1;exact kS tO ce,by rw[cA eP,bW,eS];omega⟩
  have Ny:mf (ar iq pl.length pk pl::Tx) zb (zo+ei*2) 1 zo (ei*2+0) ps.length qc 49 2 ((es++ps.drop ei).flatMap iz):=⟨rfl,A⟩;have ajA:=hao ei A
  repeat(first|refine cT ?_|refine dd λ_ _=>?_)
  let Ts:=aw (O ⟨zb,zo,U⟩) ps.length qc ((es++[(⟨(((eV P n i:Nat):Int)+(ei:Int)),iq,pk,pl⟩:ch)])++ps.drop (ei+1))::Tc;refine dI [au p9 (O ⟨zb,zo,U⟩) ps.length qc ji xs.length eO kd on xa to.length xc] (λ_:Unit=>True) (λ_=>(10,J Z ei)::Td) (λ_=>ar iq pl.length pk pl::Ts) mixed aB ?_ λ_ _=>?_
  ·(first|refine W 0 ?_|refine az 0 ?_|refine ap 0 ?_)
   (first|refine W 1 ?_|refine az 1 ?_|refine ap 1 ?_)
   (first|refine W 2 ?_|refine az 2 ?_|refine ap 2 ?_)
   (first|refine W 3 ?_|refine az 3 ?_|refine ap 3 ?_)
   (first|refine W 4 ?_|refine az 4 ?_|refine ap 4 ?_)
   (first|refine W 5 ?_|refine az 5 ?_|refine ap 5 ?_)
   (first|refine W 6 ?_|refine az 6 ?_|refine ap 6 ?_)
   (first|refine W 7 ?_|refine az 7 ?_|refine ap 7 ?_)
   (first|refine W 8 ?_|refine az 8 ?_|refine ap 8 ?_)
   (first|refine W 9 ?_|refine az 9 ?_|refine ap 9 ?_)
   (first|refine W 10 ?_|refine az 10 ?_|refine ap 10 ?_)<;>(try unfold Ts)<;>(try unfold Td)<;>(try unfold Tc)<;>(try unfold Tr)<;>(try unfold Tb)<;>(try unfold Tw)<;>try unfold Tt
   refine jr 11 E E aB ?_;exact dy () trivial V aF
  clear Ny EU;have rQ:((es++[(⟨(((eV P n i:Nat):Int)+(ei:Int)),iq,pk,pl⟩:ch)])++ps.drop (ei+1))[ei]?=O (⟨(((eV P n i:Nat):Int)+(ei:Int)),iq,pk,pl⟩:ch):=by
   rw[eX (by simp[tO]),dH A,tO,cV];rfl
  obtain⟨pb1,po1,Ul,C6,ID⟩:=fd wP hold (λ_ _ h=>by obtain⟨_,e,_⟩:=h;exact⟨_,_,e⟩) (aZ hPk);obtain⟨_,hcq,sv,rfl,_,rC⟩:=ID ei _ hPk;obtain⟨sa1,sn1,sc1,_,_,rfl,air,_⟩:=id rC;simp only at air;obtain⟨yZ,yU⟩:∃f:Nat->List cI,f=λj=>(pl.take j).mapIdx (pV ν P n i)++pl.drop j:=⟨_,rfl⟩;have KY:∀j,(yZ j).length=pl.length:=λj=>by rw[yU];simp;omega
  have Vk:yZ 0=pl:=by rw[yU];simp
  repeat(first|refine cT ?_|refine dd λ_ _=>?_)
  rw[show ar iq pl.length pk pl=ar iq pl.length pk (yZ 0) by rw[Vk]];refine bH (λ(j:Nat)=>j<=qn) (λj=>(11,J Z j)::(10,J Z ei)::Td)
   (λj=>ar iq pl.length pk (yZ j)::Ts) (λj=>qn-j) 0 (aN _) (aP V aF) λj hj=>?_<;>(try unfold Ts)<;>(try unfold Td)<;>(try unfold Tc)<;>(try unfold Tr)<;>(try unfold Tb)<;>(try unfold Tw)<;>try unfold Tt
  repeat(first|refine cT ?_|refine dd λ_ _=>?_)
  refine aL (λh4=>?_) (λh4=>?_)
  ·have hjq:j<qn:=aD h4
   have iS:j<pl.length:=A;obtain⟨v,hv⟩:=bE pl j iS;have uD:=aA hv;have SB:pl.drop j=v::pl.drop (j+1):=by rw[jb iS,(aJ.1 hv).2]
   obtain⟨d,hd⟩:=bE (be P i) j A;have Aq:d<P.length:=cW.1 (cR.1 (aA hd)).1;obtain⟨eE,hD⟩:=bE P d Aq;have acM:=mK eE (aA hD);unfold sm at acM;have Au:pV ν P n i j v=kt ν P n d eE.list.length v:=by
    unfold pV prB;rw[hd];simp only[gw];rw[gK hD]
   have vi:(yZ j).set j (pV ν P n i j v)=yZ (j+1):=by
    rw[yU];simp only;rw[kj _ _ dr,kR,dA,fP A,cV,SB,bI,bV,hv,jk,List.mapIdx_append];simp[fP (Nat.le_of_lt iS)]
   obtain⟨sb1,so1,agu,Bb,abX⟩:=fd rC hold (λ_ _ h=>by obtain⟨e,_⟩:=h;exact⟨_,_,e⟩) (aZ hv);obtain⟨_,hcv,rfl,_⟩:=abX j v hv;obtain⟨_,hcD,pvD,lvD,tvD,rfl,_,_,_,ahw,_⟩:=tN d eE hD;obtain⟨laD,lnD,lcD,_,_,rfl,ahF,_⟩:=ahw;refine fy 0 rfl A λyb yo B4=>?_;subst B4;refine fy 3 rfl A λab ao Kt=>?_;subst Kt;have Pk:cg j pl.length:=⟨iS⟩;have ahB:cg j sn1:=⟨A⟩;have akd:cg j qn:=⟨hjq⟩;have aj4:cg d m:=⟨A⟩;have abZ:uk Lp j (d:Int):=⟨by rw[hLp,aW,hd];rfl⟩;let To:=((es++[(⟨(((eV P n i:Nat):Int)+(ei:Int)),O ⟨yb,yo,U⟩,pk,pl⟩:ch)])++ps.drop (ei+1));let Tq:=(au p9 (O ⟨zb,zo,U⟩) ps.length qc ji xs.length eO kd on xa to.length xc::aE (O ⟨ab,ao,U⟩) qn il Lp::Tu);have aco:gB (aw (O ⟨zb,zo,U⟩) ps.length qc To::Tq) zb (zo+ei*2+1) (I (O ⟨yb,yo,U⟩) pl.length pk):=⟨λ_ _ _ hw=>by
    have h5:=hw.dp (k:=0) rfl (e_ eP _ ei _ 1 (I (O ⟨yb,yo,U⟩) pl.length pk) rQ rfl);rwa[<-eB]at h5⟩
   have Q4:mm (pV ν P n i j v)=[ag (kt ν P n d eE.list.length v).dq,J Z (kt ν P n d eE.list.length v).n]:=by rw[Au];rfl
   repeat(first|refine cT ?_|refine dd λ_ _=>?_)
   refine dI (n:=41) (hl:=⟨rfl⟩) (aw (O ⟨zb,zo,U⟩) ps.length qc To::Tq) (λ_:Unit=>True) (λ_=>(11,J Z j)::(10,J Z ei)::M 9 p9::(8,I (O ⟨ab,ao,U⟩) qn il)::(7,J Z i)::Tt) (λ_=>ar (O ⟨yb,yo,U⟩) pl.length pk (yZ (j+1))::aw (O ⟨zb,zo,U⟩) ps.length qc To::au p9 (O ⟨zb,zo,U⟩) ps.length qc ji xs.length eO kd on xa to.length xc::aE (O ⟨ab,ao,U⟩) qn il Lp::Tr) mixed aB ?_ λ_ _=>?_
   ·(first|refine W 0 ?_|refine az 0 ?_|refine ap 0 ?_)
    (first|refine W 1 ?_|refine az 1 ?_|refine ap 1 ?_)
    (first|refine W 2 ?_|refine az 2 ?_|refine ap 2 ?_)
    (first|refine W 3 ?_|refine az 3 ?_|refine ap 3 ?_)
    (first|refine W 4 ?_|refine az 4 ?_|refine ap 4 ?_)
    (first|refine W 5 ?_|refine az 5 ?_|refine ap 5 ?_)
    (first|refine W 6 ?_|refine az 6 ?_|refine ap 6 ?_)
    (first|refine W 7 ?_|refine az 7 ?_|refine ap 7 ?_)
    (first|refine W 8 ?_|refine az 8 ?_|refine ap 8 ?_)
    (first|refine W 9 ?_|refine az 9 ?_|refine ap 9 ?_)
    (first|refine W 10 ?_|refine az 10 ?_|refine ap 10 ?_)
    (first|refine W 11 ?_|refine az 11 ?_|refine ap 11 ?_)
    (first|refine W 12 ?_|refine az 12 ?_|refine ap 12 ?_)
    (first|refine W 13 ?_|refine az 13 ?_|refine ap 13 ?_)
    (first|refine W 14 ?_|refine az 14 ?_|refine ap 14 ?_)
    (first|refine W 15 ?_|refine az 15 ?_|refine ap 15 ?_)
    (first|refine W 16 ?_|refine az 16 ?_|refine ap 16 ?_)
    (first|refine W 17 ?_|refine az 17 ?_|refine ap 17 ?_)
    (first|refine W 18 ?_|refine az 18 ?_|refine ap 18 ?_)
    (first|refine W 19 ?_|refine az 19 ?_|refine ap 19 ?_)
    (first|refine W 20 ?_|refine az 20 ?_|refine ap 20 ?_)
    (first|refine W 21 ?_|refine az 21 ?_|refine ap 21 ?_)
    (first|refine W 22 ?_|refine az 22 ?_|refine ap 22 ?_)
    (first|refine W 23 ?_|refine az 23 ?_|refine ap 23 ?_)
    (first|refine W 24 ?_|refine az 24 ?_|refine ap 24 ?_)
    (first|refine W 25 ?_|refine az 25 ?_|refine ap 25 ?_)
    (first|refine W 26 ?_|refine az 26 ?_|refine ap 26 ?_)
    (first|refine W 27 ?_|refine az 27 ?_|refine ap 27 ?_)
    (first|refine W 28 ?_|refine az 28 ?_|refine ap 28 ?_)
    (first|refine W 29 ?_|refine az 29 ?_|refine ap 29 ?_)
    (first|refine W 30 ?_|refine az 30 ?_|refine ap 30 ?_)
    (first|refine W 31 ?_|refine az 31 ?_|refine ap 31 ?_)
    (first|refine W 32 ?_|refine az 32 ?_|refine ap 32 ?_)
    (first|refine W 33 ?_|refine az 33 ?_|refine ap 33 ?_)
    (first|refine W 34 ?_|refine az 34 ?_|refine ap 34 ?_)
    (first|refine W 35 ?_|refine az 35 ?_|refine ap 35 ?_)
    (first|refine W 36 ?_|refine az 36 ?_|refine ap 36 ?_)
    (first|refine W 37 ?_|refine az 37 ?_|refine ap 37 ?_)<;>(try unfold To)<;>(try unfold Tr)<;>(try unfold Tq)<;>(try unfold Tu)<;>(try unfold Tb)<;>(try unfold Tw)<;>try unfold Tt
    rw[ahF];refine vY 38 rfl E aB (λw hw=>YH d eE.list.length v A A (hvr v uD) w (Ph hw)) ?_
    (first|refine W 39 ?_|refine az 39 ?_|refine ap 39 ?_)
    refine cD 40 E (jw 40 0 (j:=j*2) rfl rfl (by rw[cA eQ,KY];omega) aB ?_);refine ef E ?_;simp only[bI];rw[<-Q4,iZ eQ (by rw[KY];exact iS),vi];exact dy () trivial V aF
   repeat(first|refine cT ?_|refine dd λ_ _=>?_)
   exact a_ (j+1) A A V aF
  obtain rfl:qn=j:=by have:=cE h4;omega
  have Vl:yZ qn=pl.mapIdx (pV ν P n i):=by rw[yU];simp[<-ah3]
  rw[Vl]
  repeat(first|refine cT ?_|refine dd λ_ _=>?_)
  have gk:(es++[(⟨(((eV P n i:Nat):Int)+(ei:Int)),iq,pk,pl.mapIdx (pV ν P n i)⟩:ch)]).length=ei+1:=by simp[tO]
  have Jr:((es++[(⟨(((eV P n i:Nat):Int)+(ei:Int)),iq,pk,pl⟩:ch)])++ps.drop (ei+1)).flatMap iz=((es++[(⟨(((eV P n i:Nat):Int)+(ei:Int)),iq,pk,pl.mapIdx (pV ν P n i)⟩:ch)])++ps.drop (ei+1)).flatMap iz:=by
   simp only[ee,fj,jc,iz,kR]
  try simp only[am,ar,aw]
  rw[Jr];let Tl:=(((es++[(⟨(((eV P n i:Nat):Int)+(ei:Int)),iq,pk,pl.mapIdx (pV ν P n i)⟩:ch)])++ps.drop (es++[(⟨(((eV P n i:Nat):Int)+(ei:Int)),iq,pk,pl.mapIdx (pV ν P n i)⟩:ch)]).length).map dZ++(oz Tw++(rs.eraseIdx i).map bP));refine bG (H1:=aw (O ⟨zb,zo,U⟩) ps.length qc ((es++[(⟨(((eV P n i:Nat):Int)+(ei:Int)),iq,pk,pl.mapIdx (pV ν P n i)⟩:ch)])++ps.drop (es++[(⟨(((eV P n i:Nat):Int)+(ei:Int)),iq,pk,pl.mapIdx (pV ν P n i)⟩:ch)]).length)::au p9 (O ⟨zb,zo,U⟩) ps.length qc ji xs.length eO kd on xa to.length xc::aE je qn il Lp::D p6 iE (n:Int) (eV P n m:Nat) (O ⟨wb,wo,U⟩) m nc::D p3 iE (n:Int) (R:Int) ga m gc::aj p2::am (O ⟨wb,wo,U⟩) m nc rs::Tl) (aX.2 λe=>?_) ?_<;>(try unfold Tl)<;>try unfold Tw
  ·have e2:dZ (⟨(((eV P n i:Nat):Int)+(ei:Int)),iq,pk,pl.mapIdx (pV ν P n i)⟩:ch)=ar iq pl.length pk (pl.mapIdx (pV ν P n i)):=by unfold dZ;simp only[kR]
   rw[gk];simp only[bz,cf,dm,bU,bM,dG,e2,D,aj,am,au,ar,aw,aE];omega
  refine a_ (es++[(⟨(((eV P n i:Nat):Int)+(ei:Int)),iq,pk,pl.mapIdx (pV ν P n i)⟩:ch)]) ⟨by rw[gk];omega,?_,λq hq=>?_⟩ (by rw[gk];omega) (by simp only[gk];repeat(first|exact trivial|refine⟨rfl,?_⟩)) aF
  ·rw[gk,bV,bz,vZ,eD,aW,hu]
   simp only[b_,jk,cf,dm,ch.iN,FG,aat i ei iM]
  ·rcases bO.1 hq with hq|hq
   ·exact zR q hq
   ·rw[bQ.1 hq]
    refine⟨⟨by simp only;omega,by simp only;omega⟩,by simp only[kR];exact Gk,λv hv=>?_⟩;simp only at hv;obtain⟨k,hk,rfl⟩:=List.mem_mapIdx.1 hv;unfold pV;rw[hν];exact I7 mK A hn (λh=>(hvr _ (my hk) h).1) (ES _ (my hk))
 have fX:es.length=ps.length:=by have:=cE h3;omega
 rw[fX,gY,cj];rw[fX,jR cK]at vZ
 repeat(first|refine cT ?_|refine dd λ_ _=>?_)
 let Th:=(es.map dZ++(rs.eraseIdx i).map bP);let Ty:=(xs.map gC++(aw qa ps.length qc es::pY Tj::Th));refine bG (H1:=aH ji xs.length eO xs::au p9 qa ps.length qc ji xs.length eO kd on xa to.length xc::aE je qn il Lp::D p6 iE (n:Int) (eV P n m:Nat) (O ⟨wb,wo,U⟩) m nc::D p3 iE (n:Int) (R:Int) ga m gc::aj p2::am (O ⟨wb,wo,U⟩) m nc rs::Ty) (aX.2 λe=>?_) ?_<;>(try unfold Ty)<;>(try unfold Tj)<;>try unfold Th
 ·unfold oz
  simp only[bU,bM,D,aj,am,au,aw,aE,aH];omega
 have aau:(Tj).dD.list=xs.map (·.x):=rfl;refine bH (λ(ys:List dP)=>ys.length<=xs.length/\ys.map (·.x)=((xs.map (·.x)).mapIdx (su ν P n i)).take ys.length/\∀y∈ys,(dE y.x.op/\dE y.x.dst/\dE y.x.a.n/\dE y.x.b.n/\dE y.x.fn)/\y.x.args.length<=1000/\∀v∈y.x.args,dE v.n) (λys=>(12,J Z ys.length)::Td)
  (λys=>aH ji xs.length eO (ys++xs.drop ys.length)::au p9 qa ps.length qc ji xs.length eO kd on xa to.length xc::aE je qn il Lp::D p6 iE (n:Int) (eV P n m:Nat) (O ⟨wb,wo,U⟩) m nc::D p3 iE (n:Int) (R:Int) ga m gc::aj p2::am (O ⟨wb,wo,U⟩) m nc rs::((ys++xs.drop ys.length).map gC++(aw qa ps.length qc es::pY Tj::Th))) (λys=>xs.length-ys.length) [] ⟨aN _,rfl,by simp⟩ (aP V aF) λys ⟨hi5,p_,K1⟩=>?_<;>(try unfold Th)<;>(try unfold Tj)<;>(try unfold Td)<;>try unfold Tt
 repeat(first|refine cT ?_|refine dd λ_ _=>?_)
 refine aL (λh5=>?_) (λh5=>?_)
 ·have ce:ys.length<xs.length:=aD h5
  generalize Hj:ys.length=ei at*;obtain⟨u,hu⟩:=bE xs ei ce;have F2:=aA hu;obtain⟨DA,Gk,ES⟩:=rP.ins u F2;obtain⟨x,aa,ak⟩:=u;simp only at DA Gk ES;have qH:x∈(Tj).dD.list:=aT.2 ⟨_,F2,rfl⟩;have hLk:((⟨qa,qc,ps,ji,eO,xs,kd,on,xa,xc,to⟩:aK)).dD.list[ei]?=O x:=by rw[aau,aW,hu];rfl
  have Gl:=Y7.list x qH;have Dt:cg ei xs.length:=⟨ce⟩;have ahA:cg ei ln1:=⟨by rw[ahD];rw[aau,aG];omega⟩;obtain⟨lb1,lo1,agw,ae0,YN⟩:=fd kK hold (λ_ _ h=>by obtain⟨_,e,_⟩:=h;exact⟨_,_,e⟩) (aZ hLk);obtain⟨_,KD,agv,rfl,_,_,_,_,_,hag⟩:=YN ei _ hLk;obtain⟨Qs,H6,Qu,_,_,rfl,agM,_⟩:=id hag;refine fy 0 rfl A λzb zo Bk=>?_;subst Bk;have jT:(ys++xs.drop ei)[ei]?=O (⟨x,aa,ak⟩:dP):=by
   rw[dH A,Hj,cV,gp,dR];exact hu
  have BZ:xs.drop ei=(⟨x,aa,ak⟩:dP)::xs.drop (ei+1):=by rw[jb ce,(aJ.1 hu).2]
  repeat(first|refine cT ?_|refine dd λ_ _=>?_)
  rename_i DY _;let Tp:=(aw qa ps.length qc es::pY (⟨qa,qc,ps,O ⟨zb,zo,U⟩,eO,xs,kd,on,xa,xc,to⟩:aK)::Th);let Ta:=bK DY x.op x.dst x.a x.b x.fn Qs H6 Qu::au p9 qa ps.length qc (O ⟨zb,zo,U⟩) xs.length eO kd on xa to.length xc::aE je qn il Lp::D p6 iE (n:Int) (eV P n m:Nat) (O ⟨wb,wo,U⟩) m nc::D p3 iE (n:Int) (R:Int) ga m gc::aj p2::am (O ⟨wb,wo,U⟩) m nc rs::((ys++xs.drop (ei+1)).map gC++Tp);refine bG (H1:=ar aa x.args.length ak x.args::aH (O ⟨zb,zo,U⟩) xs.length eO (ys++xs.drop ei)::Ta) (aX.2 λe=>?_) ?_<;>(try unfold Ta)<;>(try unfold Tp)<;>try unfold Th
  ·rw[BZ]
   have e2:gC (⟨x,aa,ak⟩:dP)=ar aa x.args.length ak x.args:=rfl;simp only[bz,cf,bU,bM,e2,D,aj,am,au,ar,aw,aE,aH,bK];omega
  have hpA:=LK jT (kt ν P n i ei x.a);rw[kS Hj ce]at hpA;let Tv:=(au p9 qa ps.length qc (O ⟨zb,zo,U⟩) xs.length eO kd on xa to.length xc::Tu);let Tk:=Tv;refine dI (bK DY x.op x.dst x.a x.b x.fn Qs H6 Qu::Tk) (λ_:Unit=>True) (λ_=>M 13 DY::(12,J Z ei)::Td) (λ_=>ar aa x.args.length ak x.args::aH (O ⟨zb,zo,U⟩) xs.length eO ((ys++[(⟨{x with a:=(kt ν P n i ei x.a)},aa,ak⟩:dP)])++xs.drop (ei+1))::Ta) mixed aB ?_ λ_ _=>?_
  ·(first|refine W 0 ?_|refine az 0 ?_|refine ap 0 ?_)
   (first|refine W 1 ?_|refine az 1 ?_|refine ap 1 ?_)
   (first|refine W 2 ?_|refine az 2 ?_|refine ap 2 ?_)
   (first|refine W 3 ?_|refine az 3 ?_|refine ap 3 ?_)
   (first|refine W 4 ?_|refine az 4 ?_|refine ap 4 ?_)
   (first|refine W 5 ?_|refine az 5 ?_|refine ap 5 ?_)
   (first|refine W 6 ?_|refine az 6 ?_|refine ap 6 ?_)
   (first|refine W 7 ?_|refine az 7 ?_|refine ap 7 ?_)
   (first|refine W 8 ?_|refine az 8 ?_|refine ap 8 ?_)
   (first|refine W 9 ?_|refine az 9 ?_|refine ap 9 ?_)
   (first|refine W 10 ?_|refine az 10 ?_|refine ap 10 ?_)<;>(try unfold Ta)<;>(try unfold Tp)<;>(try unfold Th)<;>(try unfold Tk)<;>(try unfold Tv)<;>(try unfold Tu)<;>(try unfold Td)<;>try unfold Tt
   refine vY 11 rfl E aB (λw hw=>YH i ei x.a iM A Gl.a w (Ph hw)) ?_
   (first|refine W 12 ?_|refine az 12 ?_|refine ap 12 ?_)
   (first|refine W 13 ?_|refine az 13 ?_|refine ap 13 ?_)
   refine cD 14 E (jw 14 1 (j:=ei*8+2) rfl A (by rw[cA ep,bW,eS];omega) aB ?_);refine ef E ?_;simp only[bS,bI];rw[hpA];exact dy () trivial V aF
  clear hpA;have G4:((ys++[(⟨{x with a:=(kt ν P n i ei x.a)},aa,ak⟩:dP)])++xs.drop (ei+1))[ei]?=O (⟨{x with a:=(kt ν P n i ei x.a)},aa,ak⟩:dP):=AT Hj;have NB:=LM G4 (kt ν P n i ei x.b);rw[set_tail Hj]at NB
  repeat(first|refine cT ?_|refine dd λ_ _=>?_)
  refine dI (bK DY x.op x.dst x.a x.b x.fn Qs H6 Qu::Tk) (λ_:Unit=>True) (λ_=>M 13 DY::(12,J Z ei)::Td) (λ_=>ar aa x.args.length ak x.args::aH (O ⟨zb,zo,U⟩) xs.length eO ((ys++[(⟨{x with a:=(kt ν P n i ei x.a),b:=(kt ν P n i ei x.b)},aa,ak⟩:dP)])++xs.drop (ei+1))::Ta) mixed aB ?_ λ_ _=>?_
  ·(first|refine W 0 ?_|refine az 0 ?_|refine ap 0 ?_)
   (first|refine W 1 ?_|refine az 1 ?_|refine ap 1 ?_)
   (first|refine W 2 ?_|refine az 2 ?_|refine ap 2 ?_)
   (first|refine W 3 ?_|refine az 3 ?_|refine ap 3 ?_)
   (first|refine W 4 ?_|refine az 4 ?_|refine ap 4 ?_)
   (first|refine W 5 ?_|refine az 5 ?_|refine ap 5 ?_)
   (first|refine W 6 ?_|refine az 6 ?_|refine ap 6 ?_)
   (first|refine W 7 ?_|refine az 7 ?_|refine ap 7 ?_)
   (first|refine W 8 ?_|refine az 8 ?_|refine ap 8 ?_)
   (first|refine W 9 ?_|refine az 9 ?_|refine ap 9 ?_)
   (first|refine W 10 ?_|refine az 10 ?_|refine ap 10 ?_)<;>(try unfold Ta)<;>(try unfold Tp)<;>(try unfold Th)<;>(try unfold Tk)<;>(try unfold Tv)<;>(try unfold Tu)<;>(try unfold Td)<;>try unfold Tt
   refine vY 11 rfl E aB (λw hw=>YH i ei x.b iM A Gl.b w (Ph hw)) ?_
   (first|refine W 12 ?_|refine az 12 ?_|refine ap 12 ?_)
   (first|refine W 13 ?_|refine az 13 ?_|refine ap 13 ?_)
   refine cD 14 E (jw 14 1 (j:=ei*8+4) rfl A (by rw[cA ep,bW,bW,eS];simp;omega) aB ?_);refine ef E ?_;simp only[bS,bI];rw[NB];exact dy () trivial V aF
  clear NB G4;have rQ:((ys++[(⟨{x with a:=(kt ν P n i ei x.a),b:=(kt ν P n i ei x.b)},aa,ak⟩:dP)])++xs.drop (ei+1))[ei]?=O (⟨{x with a:=(kt ν P n i ei x.a),b:=(kt ν P n i ei x.b)},aa,ak⟩:dP):=AT Hj;obtain⟨yM,yP⟩:∃f:Nat->List cI,f=λj=>(x.args.take j).map (kt ν P n i ei)++x.args.drop j:=⟨_,rfl⟩;have Ky:∀j,(yM j).length=x.args.length:=λj=>by rw[yP];simp;omega
  have Iy:yM 0=x.args:=by rw[yP];simp
  repeat(first|refine cT ?_|refine dd λ_ _=>?_)
  rw[show ar aa x.args.length ak x.args=ar aa x.args.length ak (yM 0) by rw[Iy]];refine bH (λ(j:Nat)=>j<=H6) (λj=>(14,J Z j)::M 13 DY::(12,J Z ei)::Td)
   (λj=>ar aa x.args.length ak (yM j)::aH (O ⟨zb,zo,U⟩) xs.length eO ((ys++[(⟨{x with a:=(kt ν P n i ei x.a),b:=(kt ν P n i ei x.b)},aa,ak⟩:dP)])++xs.drop (ei+1))::Ta) (λj=>H6-j) 0 (aN _) (aP V aF) λj hj=>?_<;>(try unfold Ta)<;>(try unfold Tp)<;>(try unfold Th)<;>(try unfold Td)<;>try unfold Tt
  repeat(first|refine cT ?_|refine dd λ_ _=>?_)
  refine aL (λh6=>?_) (λh6=>?_)
  ·have hjb:j<H6:=aD h6
   have iS:j<x.args.length:=A;obtain⟨v,hv⟩:=bE x.args j iS;have uD:=aA hv;have SB:x.args.drop j=v::x.args.drop (j+1):=by rw[jb iS,(aJ.1 hv).2]
   have vi:(yM j).set j (kt ν P n i ei v)=yM (j+1):=by
    rw[yP];simp only;rw[kj _ _ dr,aG,dA,fP A,cV,SB,bI,bV,hv,bz];simp
   obtain⟨sb1,so1,agu,Bb,abX⟩:=fd hag hold (λ_ _ h=>by obtain⟨e,_⟩:=h;exact⟨_,_,e⟩) (aZ hv);obtain⟨_,hcv,rfl,_⟩:=abX j v hv;refine fy 0 rfl A λyb yo B4=>?_;subst B4;have Pk:cg j x.args.length:=⟨iS⟩;have ahB:cg j H6:=⟨hjb⟩;have aco:gB (aH (O ⟨zb,zo,U⟩) xs.length eO ((ys++[(⟨{x with a:=(kt ν P n i ei x.a),b:=(kt ν P n i ei x.b)},O ⟨yb,yo,U⟩,ak⟩:dP)])++xs.drop (ei+1))::bK DY x.op x.dst x.a x.b x.fn Qs H6 Qu::Tk) zb (zo+ei*8+7) (I (O ⟨yb,yo,U⟩) x.args.length ak):=⟨λ_ _ _ hw=>by
    have h5:=hw.dp (k:=0) rfl (e_ ep _ ei _ 7 (I (O ⟨yb,yo,U⟩) x.args.length ak) rQ rfl);rwa[<-eB]at h5⟩
   have Q4:mm (kt ν P n i ei v)=[ag (kt ν P n i ei v).dq,J Z (kt ν P n i ei v).n]:=rfl
   repeat(first|refine cT ?_|refine dd λ_ _=>?_)
   refine dI (aH (O ⟨zb,zo,U⟩) xs.length eO ((ys++[(⟨{x with a:=(kt ν P n i ei x.a),b:=(kt ν P n i ei x.b)},O ⟨yb,yo,U⟩,ak⟩:dP)])++xs.drop (ei+1))::bK DY x.op x.dst x.a x.b x.fn Qs H6 Qu::Tk) (λ_:Unit=>True) (λ_=>(14,J Z j)::M 13 DY::(12,J Z ei)::Td) (λ_=>ar (O ⟨yb,yo,U⟩) x.args.length ak (yM (j+1))::aH (O ⟨zb,zo,U⟩) xs.length eO ((ys++[(⟨{x with a:=(kt ν P n i ei x.a),b:=(kt ν P n i ei x.b)},O ⟨yb,yo,U⟩,ak⟩:dP)])++xs.drop (ei+1))::Ta) mixed aB ?_ λ_ _=>?_
   ·(first|refine W 0 ?_|refine az 0 ?_|refine ap 0 ?_)
    (first|refine W 1 ?_|refine az 1 ?_|refine ap 1 ?_)
    (first|refine W 2 ?_|refine az 2 ?_|refine ap 2 ?_)
    (first|refine W 3 ?_|refine az 3 ?_|refine ap 3 ?_)
    (first|refine W 4 ?_|refine az 4 ?_|refine ap 4 ?_)
    (first|refine W 5 ?_|refine az 5 ?_|refine ap 5 ?_)
    (first|refine W 6 ?_|refine az 6 ?_|refine ap 6 ?_)
    (first|refine W 7 ?_|refine az 7 ?_|refine ap 7 ?_)
    (first|refine W 8 ?_|refine az 8 ?_|refine ap 8 ?_)
    (first|refine W 9 ?_|refine az 9 ?_|refine ap 9 ?_)
    (first|refine W 10 ?_|refine az 10 ?_|refine ap 10 ?_)
    (first|refine W 11 ?_|refine az 11 ?_|refine ap 11 ?_)
    (first|refine W 12 ?_|refine az 12 ?_|refine ap 12 ?_)
    (first|refine W 13 ?_|refine az 13 ?_|refine ap 13 ?_)
    (first|refine W 14 ?_|refine az 14 ?_|refine ap 14 ?_)
    (first|refine W 15 ?_|refine az 15 ?_|refine ap 15 ?_)
    (first|refine W 16 ?_|refine az 16 ?_|refine ap 16 ?_)
    (first|refine W 17 ?_|refine az 17 ?_|refine ap 17 ?_)<;>(try unfold Ta)<;>(try unfold Tp)<;>(try unfold Th)<;>(try unfold Tk)<;>(try unfold Tv)<;>(try unfold Tu)<;>(try unfold Td)<;>try unfold Tt
    refine vY 18 rfl E aB (λw hw=>YH i ei v iM A (Gl.args v uD) w (Ph hw)) ?_
    (first|refine W 19 ?_|refine az 19 ?_|refine ap 19 ?_)
    refine cD 20 E (jw 20 0 (j:=j*2) rfl rfl (by rw[cA eQ,Ky];omega) aB ?_);refine ef E ?_;simp only[bI];rw[<-Q4,iZ eQ (by rw[Ky];exact iS),vi];exact dy () trivial V aF
   repeat(first|refine cT ?_|refine dd λ_ _=>?_)
   exact a_ (j+1) A A V aF
  obtain rfl:H6=j:=by have:=cE h6;omega
  have Uq:yM H6=x.args.map (kt ν P n i ei):=by rw[yP,agM];simp
  rw[Uq];obtain⟨NI,hNI⟩:∃NI:dP,NI=⟨su ν P n i ei x,aa,ak⟩:=⟨_,rfl⟩;have hNx:NI.x={x with a:=(kt ν P n i ei x.a),b:=(kt ν P n i ei x.b),args:=x.args.map (kt ν P n i ei),dst:=if 0<=x.dst then(((eV P n i:Nat):Int)+(pn1:Int)+(ei:Int))else x.dst}:=by
   rw[hNI];unfold su;simp only;rw[gK hB,aat i _ iM,<-afc];simp only[Int.natCast_add,Int.add_assoc]
  have Ug:NI.x.args.length=x.args.length:=by rw[hNx];simp only[aG]
  have hNr:ki NI=[J Z x.op,J Z (if 0<=x.dst then(((eV P n i:Nat):Int)+(pn1:Int)+(ei:Int))else x.dst),ag ((kt ν P n i ei x.a)).dq,J Z ((kt ν P n i ei x.a)).n,ag ((kt ν P n i ei x.b)).dq,J Z ((kt ν P n i ei x.b)).n,J Z x.fn,I aa x.args.length ak]:=by
   unfold ki;rw[Ug,hNx];simp only[hNI]
  have hNe:gC NI=ar aa x.args.length ak (x.args.map (kt ν P n i ei)):=by
   unfold gC;rw[Ug,hNx];simp only[hNI]
  have gk:(ys++[NI]).length=ei+1:=by simp[Hj]
  have K3:(ys++[NI]).map (·.x)=((xs.map (·.x)).mapIdx (su ν P n i)).take (ys++[NI]).length:=by
   rw[gk,bV,bz,p_,eD,aW,hu];simp only[b_,jk,cf,dm,hNI]
  have ack:∀v:cI,(v.dq=true->0<=v.n/\v.n<=1000)->dE v.n->dE (kt ν P n i ei v).n:=λv h1 h2=>by
   rw[hν];exact I7 mK A hn (λh=>(h1 h).1) h2
  have K2:∀y∈ys++[NI],(dE y.x.op/\dE y.x.dst/\dE y.x.a.n/\dE y.x.b.n/\dE y.x.fn)/\y.x.args.length<=1000/\∀v∈y.x.args,dE v.n:=λy hy=>by
   rcases bO.1 hy with hy|hy
   ·exact K1 y hy
   ·rw[bQ.1 hy]
    refine⟨?_,by rw[Ug];exact Gk,λv hv=>?_⟩
    ·rw[hNx]
     refine⟨DA.1,?_,ack _ Gl.a DA.2.2.1,ack _ Gl.b DA.2.2.2.1,DA.2.2.2.2⟩;simp only
     split
     ·exact⟨A,A⟩
     ·exact DA.2.1
    ·rw[hNx]at hv
     obtain⟨z,hz,rfl⟩:=aT.1 hv;exact ack z (Gl.args z hz) (ES z hz)
  repeat(first|refine cT ?_|refine dd λ_ _=>?_)
  let Tf:=(((ys++[NI])++xs.drop (ys++[NI]).length).map gC++Tp);let Tn:=au p9 qa ps.length qc (O ⟨zb,zo,U⟩) xs.length eO kd on xa to.length xc::aE je qn il Lp::D p6 iE (n:Int) (eV P n m:Nat) (O ⟨wb,wo,U⟩) m nc::D p3 iE (n:Int) (R:Int) ga m gc::aj p2::am (O ⟨wb,wo,U⟩) m nc rs::Tf;refine aL (λh7=>?_) (λh7=>?_)
  ·have ahg:0<=x.dst:=aD h7
   rw[al ahg]at hNr;have mT:lS (((ys++[(⟨{x with a:=(kt ν P n i ei x.a),b:=(kt ν P n i ei x.b)},aa,ak⟩:dP)])++xs.drop (ei+1)).flatMap ki) (ei*8+1) (J Z (((eV P n i:Nat):Int)+(pn1:Int)+(ei:Int))) (((ys++[NI])++xs.drop (ei+1)).flatMap ki):=⟨by
    rw[fL ep rQ (k:=1) A (y:=NI) (by rw[hNr];rfl),set_tail Hj],by rw[cA ep,bW,bW,eS];simp;omega⟩
   let Ti:=bK DY x.op x.dst x.a x.b x.fn Qs H6 Qu::au p9 qa ps.length qc (O ⟨zb,zo,U⟩) xs.length eO kd on xa to.length xc::aE je qn il Lp::D p6 iE (n:Int) (eV P n m:Nat) (O ⟨wb,wo,U⟩) m nc::D p3 iE (n:Int) (R:Int) ga m gc::aj p2::am (O ⟨wb,wo,U⟩) m nc rs::((ys++xs.drop (ei+1)).map gC++Tp);have Q0:mf (ar aa x.args.length ak (x.args.map (kt ν P n i ei))::aH (O ⟨zb,zo,U⟩) xs.length eO ((ys++[(⟨{x with a:=(kt ν P n i ei x.a),b:=(kt ν P n i ei x.b)},aa,ak⟩:dP)])++xs.drop (ei+1))::Ti) zb (zo+ei*8+1) 1 zo (ei*8+1) xs.length eO 56 8 (((ys++[(⟨{x with a:=(kt ν P n i ei x.a),b:=(kt ν P n i ei x.b)},aa,ak⟩:dP)])++xs.drop (ei+1)).flatMap ki):=⟨rfl,A⟩;have aeg:Az ((eV P n i:Nat):Int) (pn1:Int):=⟨A,A⟩;have agC:Az (((eV P n i:Nat):Int)+(pn1:Int)) (ei:Int):=⟨A,A⟩
   repeat(first|refine cT ?_|refine dd λ_ _=>?_)
   refine dI Tv (λ_:Unit=>True) (λ_=>M 13 DY::(12,J Z ei)::Td) (λ_=>ar aa x.args.length ak (x.args.map (kt ν P n i ei))::aH (O ⟨zb,zo,U⟩) xs.length eO ((ys++[NI])++xs.drop (ei+1))::Ti) mixed aB ?_ λ_ _=>?_
   ·(first|refine W 0 ?_|refine az 0 ?_|refine ap 0 ?_)
    (first|refine W 1 ?_|refine az 1 ?_|refine ap 1 ?_)
    (first|refine W 2 ?_|refine az 2 ?_|refine ap 2 ?_)
    (first|refine W 3 ?_|refine az 3 ?_|refine ap 3 ?_)
    (first|refine W 4 ?_|refine az 4 ?_|refine ap 4 ?_)
    (first|refine W 5 ?_|refine az 5 ?_|refine ap 5 ?_)
    (first|refine W 6 ?_|refine az 6 ?_|refine ap 6 ?_)
    (first|refine W 7 ?_|refine az 7 ?_|refine ap 7 ?_)
    (first|refine W 8 ?_|refine az 8 ?_|refine ap 8 ?_)
    (first|refine W 9 ?_|refine az 9 ?_|refine ap 9 ?_)
    (first|refine W 10 ?_|refine az 10 ?_|refine ap 10 ?_)
    (first|refine W 11 ?_|refine az 11 ?_|refine ap 11 ?_)
    (first|refine W 12 ?_|refine az 12 ?_|refine ap 12 ?_)
    (first|refine W 13 ?_|refine az 13 ?_|refine ap 13 ?_)
    (first|refine W 14 ?_|refine az 14 ?_|refine ap 14 ?_)
    (first|refine W 15 ?_|refine az 15 ?_|refine ap 15 ?_)
    (first|refine W 16 ?_|refine az 16 ?_|refine ap 16 ?_)
    (first|refine W 17 ?_|refine az 17 ?_|refine ap 17 ?_)
    (first|refine W 18 ?_|refine az 18 ?_|refine ap 18 ?_)<;>(try unfold Tv)<;>(try unfold Tu)<;>(try unfold Ti)<;>(try unfold Tp)<;>(try unfold Th)<;>(try unfold Td)<;>try unfold Tt
    refine jr 19 E E aB ?_;exact dy () trivial V aF
   clear Q0 mT
   repeat(first|refine cT ?_|refine dd λ_ _=>?_)
   refine lr (H':=aH (O ⟨zb,zo,U⟩) xs.length eO ((ys++[NI])++xs.drop (ys++[NI]).length)::Tn) (λw hw=>hw.pick ⟨[bK DY x.op x.dst x.a x.b x.fn Qs H6 Qu],aX.2 λe=>?_⟩) ?_<;>(try unfold Tn)<;>(try unfold Tf)<;>(try unfold Tp)<;>try unfold Th
   ·rw[gk]
    simp only[bz,cf,dm,bU,bM,dG,hNe,D,aj,am,au,ar,aw,aE,aH,bK,Th,Ti,Tp];omega
   refine a_ (ys++[NI]) ⟨by rw[gk];omega,K3,K2⟩ (by rw[gk];omega) (by simp only[gk];repeat(first|exact trivial|refine⟨rfl,?_⟩)) aF
  ·have UW:¬0<=x.dst:=aD h7
   rw[ai UW]at hNr;have Jr:((ys++[(⟨{x with a:=(kt ν P n i ei x.a),b:=(kt ν P n i ei x.b)},aa,ak⟩:dP)])++xs.drop (ei+1)).flatMap ki=((ys++[NI])++xs.drop (ei+1)).flatMap ki:=by
    simp only[ee,fj,jc,hNr]
    rfl
   try simp only[am,ar,aw,aH]
   rw[Jr]
   repeat(first|refine cT ?_|refine dd λ_ _=>?_)
   refine lr (H':=aH (O ⟨zb,zo,U⟩) xs.length eO ((ys++[NI])++xs.drop (ys++[NI]).length)::Tn) (λw hw=>hw.pick ⟨[bK DY x.op x.dst x.a x.b x.fn Qs H6 Qu],aX.2 λe=>?_⟩) ?_<;>(try unfold Tn)<;>(try unfold Tf)<;>(try unfold Tp)<;>try unfold Th
   ·rw[gk]
    simp only[bz,cf,dm,bU,bM,dG,hNe,D,aj,am,au,ar,aw,aE,aH,bK];omega
   refine a_ (ys++[NI]) ⟨by rw[gk];omega,K3,K2⟩ (by rw[gk];omega) (by simp only[gk];repeat(first|exact trivial|refine⟨rfl,?_⟩)) aF
 have IG:ys.length=xs.length:=by have:=cE h5;omega
 rw[IG,gY,cj];rw[IG,jR cK]at p_;obtain⟨B',qq⟩:∃B':aK,B'=⟨qa,qc,es,ji,eO,ys,kd,(kt ν P n i xs.length on),xa,xc,to⟩:=⟨_,rfl⟩;have AY:B'.dD=FF ν P n i ((⟨qa,qc,ps,ji,eO,xs,kd,on,xa,xc,to⟩:aK)).dD:=by
  rw[qq];unfold aK.dD FF;simp only[vZ,p_,aG]
 have Is:B'.Bd:=by
  rw[qq];exact⟨rP.kind,by rw[hν];exact I7 mK A hn (λh=>(Y7.on h).1) rP.on,by simp only[fX];exact Dx,zR,by simp only[IG];exact K0,K1,rP.to⟩
 have hbC:eA B'=[I qa ps.length qc,I ji xs.length eO,J Z kd,ag ((kt ν P n i xs.length on)).dq,J Z ((kt ν P n i xs.length on)).n,I xa to.length xc]:=by rw[qq];simp only[eA,fX,IG]
 repeat(first|refine cT ?_|refine dd λ_ _=>?_)
 refine bY rfl (λw hw=>YH i xs.length on iM A Y7.on w (Ph hw)) ?_
 repeat(first|refine cT ?_|refine dd λ_ _=>?_)
 refine k_ 6 (j:=i*6) rfl rfl (by rw[cA de,oG];omega) ?_;have nE:=iZ de (l:=rs) (i:=i) A B';rw[hbC]at nE;rw[nE];simp only[bS,bI]
 repeat(first|refine cT ?_|refine dd λ_ _=>?_)
 have e1:ij B'=aw qa ps.length qc es::aH ji xs.length eO ys::pY (⟨qa,qc,ps,ji,eO,xs,kd,on,xa,xc,to⟩:aK)::(es.map dZ++ys.map gC):=by rw[qq];simp only[ij,fX,IG,pY]
 refine lr (H':=ij B'++(D p6 iE (n:Int) (eV P n m:Nat) (O ⟨wb,wo,U⟩) m nc::D p3 iE (n:Int) (R:Int) ga m gc::aj p2::am (O ⟨wb,wo,U⟩) m nc (rs.set i B')::(rs.eraseIdx i).map bP)) (λw hw=>?_) ?_
 ·refine hw.pick ⟨[au p9 qa ps.length qc ji xs.length eO kd ((kt ν P n i xs.length on)) xa to.length xc,aE je qn il Lp],aX.2 λe=>?_⟩
  rw[e1];simp only[bU,bM,dG,D,aj,am,au,aw,aE,aH];omega
 refine yv ?_;have qh:(rs.set i B')[i]?=O B':=fk A;have te:=ig bP qh;rw[nt]at te;refine bG (H1:=D p6 iE (n:Int) (eV P n m:Nat) (O ⟨wb,wo,U⟩) m nc::D p3 iE (n:Int) (R:Int) ga m gc::aj p2::am (O ⟨wb,wo,U⟩) m nc (rs.set i B')::(rs.set i B').map bP) (aX.2 λe=>?_) ?_
 ·have:=aX.1 te e
  unfold bP at this|-
  simp only[bM,D,aj,am]at this|-
  omega
 have Cq:P.drop i=((⟨qa,qc,ps,ji,eO,xs,kd,on,xa,xc,to⟩:aK)).dD::P.drop (i+1):=by rw[jb A,(aJ.1 hB).2]
 refine a_ (i+1,rs.set i B') ⟨by simp only;omega,by simp only[fK];exact oG,?_,λb hb=>?_⟩ bB V aF
 ·simp only
  rw[eT,Mu,kj _ _ (by simp[jF];omega),dA,jF,fP A,cV,Cq,bI,bV,xU hB,AY];simp
 ·rcases j_ hb with hb|rfl
  ·exact Bc b hb
  ·exact Is
noncomputable def oQ(X:bZ):bZ:={X with bm:=(eV (gU X) X.params.toNat (gU X).length:Nat),blocks:=pU (Ae (gU X) X.params.toNat) (gU X) X.params.toNat}
theorem Cc{a:Nat}(h:a<=b):eV bl n a<=eV bl n b:=by
 unfold eV;have e:bl.take b=bl.take a++(bl.drop a).take (b-a):=by rw[<-List.take_add,Nat.add_sub_cancel' h]
 rw[e,bz,List.sum_append];omega
section
variable {X:bZ} {R:Nat}
theorem P5(h:vM X R):∀r,XN (Ae (gU X) X.params.toNat) (gU X) X.params.toNat r->0<=r/\r<(oQ X).bm:=λr hr=>by
 show 0<=r/\r<(eV (gU X) X.params.toNat (gU X).length:Nat);rcases hr with⟨h1,h2⟩|⟨b,B,k,hB,hk,rfl⟩
 ·have h3:eV (gU X) X.params.toNat 0<=eV (gU X) X.params.toNat (gU X).length:=Cc (aN _)
  have h4:eV (gU X) X.params.toNat 0=X.params.toNat:=by simp[eV]
  omega
 ·have hl:=(aJ.1 hB).1
  rw[vz hl];have h3:=yk (n:=X.params.toNat) hB;have h4:eV (gU X) X.params.toNat (b+1)<=eV (gU X) X.params.toNat (gU X).length:=Cc hl;have h5:k<B.bg.length+B.list.length:=by
   rcases hk with hk|⟨i,x,rfl,hx,_⟩
   ·omega
   ·have:=(aJ.1 hx).1
    omega
  omega
theorem ZY(h:vM X R)(pK:∀B∈gU X,n_ (JP R) B):eW (eV (gU X) X.params.toNat (gU X).length) (oQ X).blocks:=by
 have EN:∀B∈gU X,n_ (λr=>0<=r) B:=λB hB=>(pK B hB).mono λr hr=>hr.1;have Y_:=BN (ν:=Ae (gU X) X.params.toNat) (n:=X.params.toNat) EN;have hd:=P5 h;obtain⟨hg,dW,lG,hlen⟩:=kP h.all;have hfP:eW R (gU X):=by rw[qM h.all];exact pQ h.all.ok (cz _)
 refine⟨DQ (jF _ _ _) (Ji _ _ _) hg,λb C hC=>?_⟩;have jX:b<(gU X).length:=by rw[<-jF (Ae (gU X) X.params.toNat) (gU X) X.params.toNat];exact(aJ.1 hC).1
 obtain⟨B,hB⟩:=bE (gU X) b jX;have Jr:(pU (Ae (gU X) X.params.toNat) (gU X) X.params.toNat)[b]?=O C:=hC;rw[xU hB]at Jr;have Ub:=(bJ Jr).symm;have hR:=Y_ C (aA hC);have Xr:=hfP.block b B hB;have pu:∀v:cI,uJ (XN (Ae (gU X) X.params.toNat) (gU X) X.params.toNat) v->kW (eV (gU X) X.params.toNat (gU X).length) v:=λv hv hr=>hd _ (hv hr);have Au:be (oQ X).blocks b=be (gU X) b:=Fl (jF _ _ _) (Ji _ _ _) b;refine⟨λq hq=>?_,λy hy=>?_,pu _ hR.on,by rw[Ub];exact Xr.to⟩
 ·have uw:=hR.bg q hq
  rw[Ub]at hq;obtain⟨i,hi⟩:=bR hq;have Ju:(B.bg.mapIdx (FG (Ae (gU X) X.params.toNat) (gU X) X.params.toNat b))[i]?=O q:=hi;rw[eD]at Ju;obtain⟨p,hp,SH⟩:=ff.1 Ju;have Cx:=Xr.bg p (aA hp);exact⟨hd _ uw.1,by rw[Au,<-Cx.len,<-SH];simp[FG],λv hv=>pu v (uw.2 v hv)⟩
 ·have EV:=hR.list y hy
  rw[Ub]at hy;obtain⟨k,hk⟩:=bR hy;have Ct:(B.list.mapIdx (su (Ae (gU X) X.params.toNat) (gU X) X.params.toNat b))[k]?=O y:=hk;rw[eD]at Ct;obtain⟨x,hx,hye⟩:=ff.1 Ct;have KZ:=Xr.list x (aA hx);refine⟨by rw[<-hye];exact KZ.op,λh1=>?_,λh0=>(hd _ (EV.dst h0)).2,λv hv=>pu v ?_⟩
  ·rw[<-hye]at h1|-
   show x.args.map _=[];rw[KZ.args h1]
   rfl
  ·unfold oS at hv
   rcases bO.1 hv with hv|hv
   ·split at hv
    ·rw[bQ.1 hv];exact EV.a
    ·cases hv
   rcases bO.1 hv with hv|hv
   ·split at hv
    ·rw[bQ.1 hv];exact EV.b
    ·cases hv
   ·exact EV.args v hv
theorem Sd(h:vM X R)(pK:∀B∈gU X,n_ (JP R) B){fs:List bZ}(hb:qx fs X):∀C∈(oQ X).blocks,∀y∈C.list,fA fs (oQ X).bm y=0:=λC hC y hy=>by
 have EN:∀B∈gU X,n_ (λr=>0<=r) B:=λB hB=>(pK B hB).mono λr hr=>hr.1;have Y_:=BN (ν:=Ae (gU X) X.params.toNat) (n:=X.params.toNat) EN;have hd:=P5 h;have hR:=(Y_ C hC).list y hy;have pu:∀{v:cI},uJ (XN (Ae (gU X) X.params.toNat) (gU X) X.params.toNat) v->fw (oQ X).bm v=0:=λhv=>val_zero.2 λhr=>by
  have:=hd _ (hv hr);omega
 obtain⟨b,wS⟩:=bR hC;have jX:b<X.blocks.length:=by
  obtain⟨_,_,_,hlen⟩:=kP h.all;rw[<-hlen,<-jF (Ae (gU X) X.params.toNat) (gU X) X.params.toNat];exact(aJ.1 wS).1
 obtain⟨B,hB⟩:=bE X.blocks b jX;have hP:(gU X)[b]?=O {B with bg:=B.bg++fx X.blocks R b}:=by rw[qM h.all];exact ly hB
 have Jr:(pU (Ae (gU X) X.params.toNat) (gU X) X.params.toNat)[b]?=O C:=wS;rw[xU hP]at Jr;rw[<-bJ Jr]at hy;obtain⟨k,hk⟩:=bR hy;have Ct:(B.list.mapIdx (su (Ae (gU X) X.params.toNat) (gU X) X.params.toNat b))[k]?=O y:=hk;rw[eD]at Ct;obtain⟨x,hx,rfl⟩:=ff.1 Ct;refine Pv (hb.list b B hB x (aA hx)) rfl rfl ⟨pu hR.a,Bv⟩ ⟨pu hR.b,Bv⟩ (by simp[su]) (λv hv=>pu (hR.args v hv)) (λh1=>?_) λh1=>?_
 ·refine hd _ (hR.dst ?_)
  show 0<=(if 0<=x.dst then _ else x.dst);rw[al h1,vz (by obtain⟨_,_,_,hlen⟩:=kP h.all;omega)];omega
 ·show(if 0<=x.dst then _ else x.dst)=x.dst
  rw[ai A]
theorem OA(h:vM X R)(pK:∀B∈gU X,n_ (JP R) B):fJ (oQ X)=fJ (tS X):=by
 have EN:∀B∈gU X,n_ (λr=>0<=r) B:=λB hB=>(pK B hB).mono λr hr=>hr.1;obtain⟨hg,dW,lG,hlen⟩:=kP h.all;exact Se (X:=tS X) (cP:=oQ X) (V8 hg dW (vB h)) (ac5 (gU X)) EN rfl rfl rfl rfl
end
end
section
set_option maxHeartbeats 8000000
attribute [local irreducible] wpListIn Code.wpIn Exit.then Exit.inBlock bodyPost wpQuiet wpAnyIn wpAnyH bodyPostM md
theorem Zv{R P:Nat}{kl:List aq}(hP:P<=R)(hf:eW R kl):wN R (l_ P kl):=by
 unfold l_ DG Ah;rw[fz []];have h0:meets [] (fV P)=fV P:=vA (qL P);rw[h0];refine(wN.par A).meets λr hr=>?_;rcases bO.1 hr with hr|hr
 ·obtain⟨B,hB,hr⟩:=dg.1 hr
  exact nH hf hB (.inl hr)
 ·obtain⟨B,hB,hr⟩:=dg.1 hr
  exact nH hf hB (.inr hr)
theorem WP(u:dk)(hl:vu u)(hu:Whole u)(g fs:K)(w0:ae)(hg:aY w0 g 3 u.globals gX)(hf:aY w0 fs 4 u.funcs kG)(rr:ct w0 0 0 uj):
  iL Y 10 [aC #[g,fs]] w0 λv w'=>∃x:(ax×Nat×Nat)×(ax×Nat×Nat)×(Int×Int)×cq,v=.tuple #[aC #[I x.1.1 x.1.2.1 x.1.2.2,I x.2.1.1 x.2.1.2.1 x.2.1.2.2],aC #[J Z x.2.2.1.1,J Z x.2.2.1.2]]/\Wd db w0 [x.2.2.2] w'/\
   (dE x.2.2.1.2/\∀w,x.2.2.2.ok w->Told (Ai u) w (I x.1.1 x.1.2.1 x.1.2.2) (I x.2.1.1 x.2.1.2.1 x.2.1.2.2) x.2.2.1.1 x.2.2.1.2):=by
 have hN:∀j:Nat,(Ai u).funcs[j]?=(u.funcs[j]?).map Bz:=λj=>by unfold Ai;simp only[aW]
 rcases VO u Bz with⟨i,X,hF⟩|oL
 ·refine(W2 u hl hu i X hF g fs w0 hg hf rr).mono λv w' ⟨h1,h2⟩=>⟨((U,0,0),(U,0,0),(10,(i:Int)),⟨df [],λ_=>True⟩),h1,?_,?_,λw _=>.inl ⟨i,Bz X,by rw[hN,hF.at'];rfl,hF.Pz,λj cP hj hY=>?_,rfl,rfl,rfl,rfl⟩⟩
  ·exact Wd.pack (cZ:=[]) (H:=[]) ⟨h2,by simp,by simp,List.Pairwise.nil⟩ (λ_=>True) λ_ _=>trivial
  ·have h3:=(aJ.1 hF.at').1
   have h4:=hl.1;exact⟨by simp only;omega,by simp only;omega⟩
  ·rw[hN]at hY
   obtain⟨zf,hZ,rfl⟩:=ff.1 hY;exact hF.before j zf hj hZ
 ·refine(Z0 u hl hu oL g fs w0 hg hf rr).mono λv w' ⟨x,h1,h2,_⟩=>⟨((x.1.1,u.globals.length,x.1.2),(x.2.1.1,u.funcs.length,x.2.1.2),(0,0),P_ (Ai u) (I x.1.1 u.globals.length x.1.2) (I x.2.1.1 u.funcs.length x.2.1.2) x.2.2),h1,h2,⟨by simp,by simp⟩,λw hw=>.inr ⟨λcP hY=>?_,rfl,rfl,hw.1,hw.2⟩⟩
  unfold Ai at hY;obtain⟨X,hX,rfl⟩:=aT.1 hY;exact oL X hX
theorem Qa{w0 w:ae}{H:List cq}{y:mH}(hW:Wd db w0 (uE y::H) w)(hl:y.bs.length<=1000)(hd:∀b∈y.bs,b.Bd):aY w (I y.a y.bs.length y.c) 6 y.fn.blocks da:=
 Wd.blocks (H:=H) hW.nh A hd
theorem Sb(cP:bZ)(R:Nat)(hP:vM cP R)(fs:List bZ)(hb:qx fs cP)(h24:cP.blocks.length<=24)(oY:eu cP.blocks<=300)(y:mH)(hy:y.fn=cP)(uG:∀b∈y.bs,b.Bd)(w0 w:ae)(H:List cq)(hW:Wd db w0 (uE y::H) w):
  iL Y 15 [aC #[aQ y.name,J Z y.params,J Z y.bm,I y.a y.bs.length y.c]] w λu w'=>∃z:mH,u=aC #[aQ z.name,J Z z.params,J Z z.bm,I z.a z.bs.length z.c]/\Wd db w [uE z] w'/\(z.fn=oQ cP/\z.bs.length<=24/\∀b∈z.bs,b.Bd):=by
 have vK:y.bs.length<=24:=by rw[<-hy]at h24;simpa[mH.fn]using h24
 have gV:=Qa hW A uG;rw[hy]at gV;have hA:=hP.all;have hR:=hA.le;have vg:=hA.par;have e1:y.name=cP.name:=by rw[<-hy];rfl
 have e2:y.params=(cP.params.toNat:Int):=by rw[<-hy]at vg|-;show y.params=(y.params.toNat:Int);have:y.fn.params=y.params:=rfl;omega
 have e3:y.bm=(R:Int):=by rw[<-hA.bm,<-hy];rfl
 obtain⟨hg,dW,lG,hlen⟩:=kP hA;have hfP:eW R (gU cP):=by rw[qM hA];exact pQ hA.ok (cz _)
 have pK:=DJ hP hb;have hYb:cP.blocks=y.bs.map aK.dD:=by rw[<-hy];rfl
 have oF:∀(w:ae) (b:aK),b.dD∈cP.blocks->qk w b->b.Bd:=λw b h1 _=>by
  rw[hYb]at h1;obtain⟨b',oX,e⟩:=aT.1 h1;exact aK.Bd.of e.symm (uG b' oX)
 have Q3:∀B∈cP.blocks,B.bg.length+B.list.length<=300:=λB hB=>by
  have:B.bg.length+B.list.length<=eu cP.blocks:=by
   unfold eu;exact qI (aT.2 ⟨B,hB,rfl⟩)
  omega
 have mK:∀B∈gU cP,sm B<=1000:=λB hB=>by
  obtain⟨b,wS⟩:=bR hB;have jX:b<cP.blocks.length:=by rw[<-hlen];exact(aJ.1 wS).1
  obtain⟨eE,hD⟩:=bE cP.blocks b jX;rw[qM hA,ly hD]at wS;rw[<-bJ wS];have h1:=Q3 eE (aA hD);have h4:(fx cP.blocks R b).length<=R:=by
   unfold fx;rw[aG];exact dS (fC _ _) (by rw[d_];exact cz _)
  unfold sm;simp only[bW];omega
 have Ix:∀B∈cP.blocks,∀x∈B.list,x.args.length<=1000:=λB hB x hx=>by
  rw[hYb]at hB;obtain⟨c,hc,rfl⟩:=aT.1 hB;obtain⟨q,hq,rfl⟩:=aT.1 hx;exact((uG c hc).ins q hq).2.1
 have h1:=Sa cP.name cP.params.toNat A cP.blocks (gU cP) _ R (qM hA) hR hA.ok hA.pos A A Ix (λB hB=>by have:=Q3 B hB;omega) hg (vB hP) mK (λB hB=>(pK B hB).mono λr hr=>⟨hr.1,by have:=hr.2;omega⟩) (λb B hB p hp=>((hfP.block b B hB).bg p hp).len) w gV oF;rw[e1,e2,e3];refine h1.mono λu w' ⟨x,g1,g2,g3,g4⟩=>⟨⟨cP.name,cP.params,(oQ cP).bm,x.1,x.2.1,x.2.2⟩,?_,?_,?_,?_,g4⟩
 ·rw[g1]
  show _=aC #[aQ cP.name,J Z cP.params,J Z (oQ cP).bm,I x.1 x.2.2.length x.2.1];rw[show cP.params=(cP.params.toNat:Int) by omega]
  rfl
 ·have h6:Wd db w (eM x.1 x.2.1 x.2.2++[]) w':=by rw[cj];exact g2
  exact h6.join
 ·unfold mH.fn
  simp only;rw[g3]
  rfl
 ·have h6:x.2.2.length=(gU cP).length:=by rw[<-jF (Ae (gU cP) cP.params.toNat) (gU cP) cP.params.toNat,<-g3,aG]
  simp only;omega
theorem V2(cP:bZ)(R:Nat)(hP:vM cP R)(fs:List bZ)(hb:qx fs cP)(h24:cP.blocks.length<=24)(oY:eu cP.blocks<=300)(z:mH)(hz:z.fn=oQ cP)(NP:z.bs.length<=24)(Gp:∀b∈z.bs,b.Bd)(w0 w:ae)(H:List cq)(hW:Wd db w0 (uE z::H) w):
  iL Y 14 [aC #[aQ z.name,J Z z.params,J Z z.bm,I z.a z.bs.length z.c]] w λu w'=>∃v:mH,u=aC #[aQ v.name,J Z v.params,J Z v.bm,I v.a v.bs.length v.c]/\Wd db w [uE v] w'/\(v.fn=fJ (tS cP)/\v.bs.length<=1000/\(∀b∈v.bs,b.Bd)/\dE v.bm):=by
 have hA:=hP.all;have hR:=hA.le;have vg:=hA.par;have pK:=DJ hP hb;obtain⟨hg,dW,lG,hlen⟩:=kP hA;have dV:=ZY hP pK;have gV:=Qa hW A Gp;rw[hz]at gV;obtain⟨T,hT⟩:∃T,T=eV (gU cP) cP.params.toNat (gU cP).length:=⟨_,rfl⟩;have mK:∀B∈gU cP,sm B<=400:=λB hB=>by
  obtain⟨b,wS⟩:=bR hB;have jX:b<cP.blocks.length:=by rw[<-hlen];exact(aJ.1 wS).1
  obtain⟨eE,hD⟩:=bE cP.blocks b jX;rw[qM hA,ly hD]at wS;rw[<-bJ wS];have h1:eE.bg.length+eE.list.length<=eu cP.blocks:=by
   unfold eu;exact qI (aT.2 ⟨eE,aA hD,rfl⟩)
  have h4:(fx cP.blocks R b).length<=R:=by
   unfold fx;rw[aG];exact dS (fC _ _) (by rw[d_];exact cz _)
  unfold sm;simp only[bW];omega
 have hT2:T<=9700:=by
  have key:∀b,b<=(gU cP).length->eV (gU cP) cP.params.toNat b<=cP.params.toNat+400*b:=by
   intro b
   induction b with
   |zero=>intro _;simp[eV]
   |succ b ih=>
    intro jX;obtain⟨B,hB⟩:=bE (gU cP) b A;rw[yk hB];have h1:=ih A;have h2:=mK B (aA hB);unfold sm at h2;omega
  have:=key (gU cP).length (cz _);rw[<-hT]at this;omega
 have hpT:cP.params.toNat<=T:=by
  have h3:eV (gU cP) cP.params.toNat 0<=eV (gU cP) cP.params.toNat (gU cP).length:=Cc (aN _);have h4:eV (gU cP) cP.params.toNat 0=cP.params.toNat:=by simp[eV]
  omega
 rw[<-hT]at dV;have abI:(oQ cP).blocks.length=cP.blocks.length:=by show(pU _ _ _).length=_;rw[jF,hlen]
 have NK:S5 (oQ cP) T:=⟨by rw[hT];rfl,A,dV,by rw[abI];exact hA.pos,by show 0<=cP.params/\cP.params<=T;omega,λB hB x hx=>⟨fs,Sd hP pK hb B hB x hx⟩⟩;have hYb:(oQ cP).blocks=z.bs.map aK.dD:=by rw[<-hz];rfl
 have e1:z.name=(oQ cP).name:=by rw[<-hz];rfl
 have e2:z.params=(oQ cP).params:=by rw[<-hz];rfl
 have e3:z.bm=(oQ cP).bm:=by rw[<-hz];rfl
 rw[e1,e2,e3];refine(Fp (oQ cP) T NK A _ w gV λb h1=>?_).mono λu2 w' ⟨x,g1,g2,g3,g5⟩=>⟨⟨(fJ (oQ cP)).name,(fJ (oQ cP)).params,(fJ (oQ cP)).bm,x.1,x.2.1,x.2.2⟩,g1,?_,?_,?_,g5,?_⟩
 ·rw[hYb]at h1
  obtain⟨b',oX,e⟩:=aT.1 h1;exact aK.Bd.of e.symm (Gp b' oX)
 ·have h6:Wd db w (eM x.1 x.2.1 x.2.2++[]) w':=by rw[cj];exact g2
  exact h6.join
 ·rw[<-OA hP pK]
  unfold mH.fn;simp only[g3]
 ·have h4:x.2.2.length=(fJ (oQ cP)).blocks.length:=by rw[<-g3,aG]
  have h6:(fJ (oQ cP)).blocks.length=(cQ (oQ cP).blocks).length:=by unfold fJ eN;simp only;rw[aG,dX]
  have h7:=pg (bl:=(oQ cP).blocks) NK.pos;have h8:(cQ (oQ cP).blocks).length=(ek (oQ cP).blocks).length:=by unfold cQ;rw[ny]
  simp only;omega
 ·have h5:wN T (l_ (oQ cP).params.toNat (eN (oQ cP))):=Zv hpT (jx dV (i_ dV.iD NK.pos))
  have:=h5.len;show dE ((l_ _ _).length:Int);exact⟨A,A⟩
theorem Jk(u:dk)(g fs:K)(w0:ae)(hg:aY w0 g 3 u.globals gX)(hf:aY w0 fs 4 u.funcs kG)(rr:ct w0 0 0 uj):
  gF Y 3 [aC #[g,fs]] w0 (ag true):=by
 classical
 have KE:=hg;have Jt:=hf;obtain⟨ga,gn,gc,gb,go,rfl,hgn,_⟩:=hg;obtain⟨fa,fn,fc,fb,fo,rfl,ve,ab2,ab1,hfc,QV,Cr⟩:=hf;refine aR func3 rfl ntmps3 rfl (Wd.nil db w0) ?_
 repeat(first|refine cT ?_|refine dd λ_ _=>?_)
 rename_i p1 _;refine cN (val:=λb:Bool=>.bool b) (cZ:=λ_=>[]) (φ:=λb=>b=false->ZX u) rfl (λw hw=>UC u _ _ w (Jt.cB ie hw.c_) ⟨_,_,_,rfl⟩) λb hb=>?_;simp only[aS];cases b
 case true=>
  repeat(first|refine cT ?_|refine dd λ_ _=>?_)
  exact cv rfl rfl
 have pt:=hb rfl;have hl:=pt.vu
 repeat(first|refine cT ?_|refine dd λ_ _=>?_)
 by_cases YD:(gL u).1≠0
 ·refine bY rfl (λw hw=>W0 u hl YD _ _ w (KE.cB gS hw.c_) (Jt.cB ie hw.c_) (rr.cB hw.c_)) ?_
  repeat(first|refine cT ?_|refine dd λ_ _=>?_)
  refine bY rfl (λw hw=>AJ u hl _ _ w (KE.cB gS hw.c_) (Jt.cB ie hw.c_) (rr.cB hw.c_)) ?_
  repeat(first|refine cT ?_|refine dd λ_ _=>?_)
  apply aL<;>intro h1
  ·repeat(first|refine cT ?_|refine dd λ_ _=>?_)
   rw[show(decide ((gL u).1=(gL u).1)&&decide ((gL u).2=(gL u).2))=true by simp]
   repeat(first|refine cT ?_|refine dd λ_ _=>?_)
   refine bY rfl (λw hw=>PO w) ?_
   repeat(first|refine cT ?_|refine dd λ_ _=>?_)
   exact cv rfl rfl
  ·exact absurd h1 (by simp[YD])
 have QP:(gL u).1=0:=aD YD;have dV:=jo.1 QP;have hu:Whole u:=⟨dV,ZI Jt,T7 KE⟩;refine cN (val:=λx:(ax×Nat×Nat)×(ax×Nat×Nat)×(Int×Int)×cq=>.tuple #[aC #[I x.1.1 x.1.2.1 x.1.2.2,I x.2.1.1 x.2.1.2.1 x.2.1.2.2],aC #[J Z x.2.2.1.1,J Z x.2.2.1.2]]) (cZ:=λx=>[x.2.2.2]) (φ:=λx=>dE x.2.2.1.2/\∀w,x.2.2.2.ok w->Told (Ai u) w (I x.1.1 x.1.2.1 x.1.2.2) (I x.2.1.1 x.2.1.2.1 x.2.1.2.2) x.2.2.1.1 x.2.2.1.2) rfl (λw hw=>WP u hl hu _ _ w (KE.cB gS hw.c_) (Jt.cB ie hw.c_) (rr.cB hw.c_)) λx hx=>?_;obtain⟨⟨ya,yn,yc⟩,⟨za,zn,zc⟩,⟨vc,vk⟩,UE⟩:=x;obtain⟨hvk,aaO⟩:=hx;simp only at hvk aaO;simp only[bF,aS]
 repeat(first|refine cT ?_|refine dd λ_ _=>?_)
 rename_i p3 _ p4 _;refine bY rfl (λw hw=>AJ u hl _ _ w (KE.cB gS hw.c_) (Jt.cB ie hw.c_) (rr.cB hw.c_)) ?_;rw[xg QP]
 repeat(first|refine cT ?_|refine dd λ_ _=>?_)
 rename_i p5 _;refine cN (val:=pq.val) (cZ:=pq.Gc) (φ:=λm=>m.unit=u/\m.Bd) rfl (λw hw=>Z7 u (Ed QP) (GL hl) (yl hl QP) _ _ w (KE.cB gS hw.c_) (Jt.cB ie hw.c_)) λm ⟨hmu,Pm⟩=>?_;unfold pq.val
 repeat(first|refine cT ?_|refine dd λ_ _=>?_)
 rename_i p6 _;refine iC (L':=[(7,J Z 0),M 6 p6,M 4 p4,M 3 p3,M 1 p1]) V (.refl _) ?_;have hmf:m.fs.length=fn:=by rw[ve,<-hmu];unfold pq.unit;simp only[aG]
 refine lr (H':=cw p6 m.ga m.gs.length m.gc m.fa fn m.fc::cw p1 ga gn gc fa fn fc::cw p3 ya yn yc za zn zc::fS p4 vc vk::UE::(G m.fa fn m.fc 35 4 (m.fs.flatMap uC)::gvE m::(m.gs.map pI++m.fs.map uE))) (λw hw=>?_) ?_
 ·refine hw.pick ⟨[fS p5 (0,0).1 (0,0).2],?_⟩
  unfold pq.Gc gvE;rw[hmf]
  classical
  refine aX.2 λe=>?_;simp only[bU,bM,dG,cw,fS];omega
 repeat(first|refine cT ?_|refine dd λ_ _=>?_)
 repeat(first|refine cT ?_|refine dd λ_ _=>?_)
 refine bH (λx:Nat×List mH=>x.1<=fn/\x.2.length=fn/\x.2.map mH.fn=(u.funcs.take x.1).map (Bz)++u.funcs.drop x.1/\∀y∈x.2,(dE y.params/\dE y.bm)/\(∀b∈y.bs,b.Bd)/\y.bs.length<=1000) (λx=>[(7,J Z x.1),M 6 p6,M 4 p4,M 3 p3,M 1 p1]) (λx=>cw p6 m.ga m.gs.length m.gc m.fa fn m.fc::cw p1 ga gn gc fa fn fc::cw p3 ya yn yc za zn zc::fS p4 vc vk::UE::(G m.fa fn m.fc 35 4 (x.2.flatMap uC)::gvE m::(m.gs.map pI++x.2.map uE))) (λx=>fn-x.1) (0,m.fs) ⟨aN _,hmf,?_,λy hy=>?_⟩ (aP V aF) λx ⟨hi,pw,qH,uF⟩=>?_
 ·rw[ri,List.drop_zero,dm,aS,<-hmu]
  rfl
 ·have h2:=Pm.func y hy
  refine⟨h2.1,h2.2,?_⟩;have h3:y.fn∈u.funcs:=by rw[<-hmu];exact aT.2 ⟨y,hy,rfl⟩
  have:=(yl hl QP _ h3).n;simpa[mH.fn]using this
 obtain⟨k,ys⟩:=x;simp only at hi pw qH uF|-
 repeat(first|refine cT ?_|refine dd λ_ _=>?_)
 apply aL<;>intro h1
 ·have ce:k<fn:=aD h1
  obtain⟨X,hX⟩:=bE u.funcs k A;have Iu:=aA hX;obtain⟨y0,hy0⟩:=bE ys k A;have mJ:cl fa fb fo:=⟨QV (aZ hX)⟩;have kK:cg k fn:=⟨ce⟩;obtain⟨_,gW,bv,rfl,SF,hri,Js⟩:=Cr k X hX;have nO:bu w0 fb (fo+k*4) _:=⟨gW⟩;have Uu:=Js;obtain⟨ba,bn,bc,_,_,rfl,qe,_⟩:=Js;obtain⟨R,aji,hTA⟩:=D3 dV hX;have hY:(BP u).funcs[k]?=O (ju X):=by rw[CP,hX];rfl
  obtain⟨R2,hP⟩:=L_ hu k _ hY;have hbo:=(xV hu).1.ok.body _ (aA hY);obtain⟨ajn,_,_,_,hTm⟩:=L9 dV hX;have ajp:=(pt.2 X Iu).1;have aiY:=PB dV hX;have A8:=yl hl QP X Iu;have hsm:=(J2 dV Iu).2.2.1;refine fy 5 rfl A λvb vo qt=>?_;rw[qt]
  repeat(first|refine cT ?_|refine dd λ_ _=>?_)
  refine dI [cw p6 m.ga m.gs.length m.gc (O ⟨vb,vo,U⟩) fn m.fc,cw p1 ga gn gc fa fn fc] (λy:mH=>y.fn=Bz X/\y.bs.length<=1000/\(∀b∈y.bs,b.Bd)/\dE y.bm) (λ_=>[(7,J Z k),M 6 p6,M 4 p4,M 3 p3,M 1 p1]) (λy=>uE y::cw p6 m.ga m.gs.length m.gc (O ⟨vb,vo,U⟩) fn m.fc::cw p1 ga gn gc fa fn fc::cw p3 ya yn yc za zn zc::fS p4 vc vk::UE::(G (O ⟨vb,vo,U⟩) fn m.fc 35 4 ((ys.set k y).flatMap uC)::gvE m::(m.gs.map pI++ys.map uE))) mixed aB ?_ λy hy=>?_
  ·(first|refine W 0 ?_|refine az 0 ?_|refine ap 0 ?_)
   (first|refine W 1 ?_|refine az 1 ?_|refine ap 1 ?_)
   (first|refine W 2 ?_|refine az 2 ?_|refine ap 2 ?_)
   (first|refine W 3 ?_|refine az 3 ?_|refine ap 3 ?_)
   (first|refine W 4 ?_|refine az 4 ?_|refine ap 4 ?_)
   (first|refine W 5 ?_|refine az 5 ?_|refine ap 5 ?_)
   (first|refine W 6 ?_|refine az 6 ?_|refine ap 6 ?_)
   (first|refine W 7 ?_|refine az 7 ?_|refine ap 7 ?_)
   refine lY 8 (val:=λy:mH=>.agg #[aQ y.name,J Z y.params,J Z y.bm,I y.a y.bs.length y.c]) (cZ:=λy=>[uE y]) (φ:=λy=>y.fn=ju X/\y.bs.length<=1000/\∀b∈y.bs,b.Bd) rfl E aB (λw hw=>Z4 u dV k X hX _ w (Uu.cB cu hw.c_) (pt.2 X Iu).1 A8) λt ht=>?_;obtain⟨ht1,XC,ht3⟩:=ht;simp only[bF,aS];refine lY 9 (val:=λy:mH=>.agg #[aQ y.name,J Z y.params,J Z y.bm,I y.a y.bs.length y.c]) (cZ:=λy=>[uE y]) (φ:=λy=>y.fn=oQ (ju X)/\y.bs.length<=24/\∀b∈y.bs,b.Bd) rfl E aB (λw hw=>Sb _ R2 hP _ hbo A A t ht1 ht3 _ w _ hw) λz hz=>?_;obtain⟨Gn,Bj,XG⟩:=hz;simp only[bF,aS];refine lY 10 (val:=λy:mH=>.agg #[aQ y.name,J Z y.params,J Z y.bm,I y.a y.bs.length y.c]) (cZ:=λy=>[uE y]) (φ:=λy=>y.fn=Bz X/\y.bs.length<=1000/\(∀b∈y.bs,b.Bd)/\dE y.bm) rfl E aB (λw hw=>V2 _ R2 hP _ hbo A A z Gn Bj XG _ w _ hw) λy hy=>?_;simp only[bF,aS]
   (first|refine W 11 ?_|refine az 11 ?_|refine ap 11 ?_)
   refine cD 12 E ?_;refine jw 12 8 (j:=k*4) rfl rfl (by rw[cA OI];omega) aB ?_;rw[show[aQ y.name,J Z y.params,J Z y.bm,I y.a y.bs.length y.c]=uC y from rfl,iZ OI A];simp only[bI,bS];refine ef E ?_;exact dy y hy V aB
  ·obtain⟨DC,EV,hy3,hy4⟩:=hy
   refine lr (H':=cw p6 m.ga m.gs.length m.gc (O ⟨vb,vo,U⟩) fn m.fc::cw p1 ga gn gc fa fn fc::cw p3 ya yn yc za zn zc::fS p4 vc vk::UE::(G (O ⟨vb,vo,U⟩) fn m.fc 35 4 ((ys.set k y).flatMap uC)::gvE m::(m.gs.map pI++(ys.set k y).map uE))) (λw hw=>?_) ?_
   ·refine hw.pick ⟨[uE y0],?_⟩
    have h2:=ig uE hy0;have h3:=ig uE (l:=ys.set k y) (k:=k) (x:=y) (fk A);rw[nt]at h3
    classical
    refine aX.2 λe=>?_;have h4:=aX.1 h2 e;have h5:=aX.1 h3 e;simp only[bU,bM,dG,cw,fS]at h4 h5|-
    omega
   repeat(first|refine cT ?_|refine dd λ_ _=>?_)
   refine a_ (k+1,ys.set k y) ⟨ce,by simp only;rw[fK];exact pw,?_,λz hz=>?_⟩ bB ?_ ?_
   ·simp only
    rw[eT,qH,DC,kS (by rw[aG,dA];omega) A,bV,hX,bz]
    rfl
   ·rcases j_ hz with hz|rfl
    ·exact uF z hz
    ·have h6:z.params=X.params:=bD bZ.params DC
     rw[h6];exact⟨⟨SF,hy4⟩,hy3,A⟩
   ·exact V
   ·exact dU _
 ·obtain rfl:fn=k:=by have:=h1;simp at this;omega
  have Dr:(pq.unit {m with fs:=ys}).funcs=(Ai u).funcs:=by
   unfold pq.unit Ai;simp only;rw[qH,ve,cL,gY,cj]
  have aeC:(pq.unit {m with fs:=ys}).globals=(Ai u).globals:=by
   unfold Ai;simp only;rw[<-hmu]
   rfl
  have ai2:m.gs.length=u.globals.length:=by rw[<-hmu];unfold pq.unit;simp only[aG]
  have YU:∀w,Wd db w0 (cw p6 m.ga m.gs.length m.gc m.fa fn m.fc::cw p1 ga gn gc fa fn fc::cw p3 ya yn yc za zn zc::fS p4 vc vk::UE::(G m.fa fn m.fc 35 4 (ys.flatMap uC)::gvE m::(m.gs.map pI++ys.map uE))) w->aY w (I m.ga m.gs.length m.gc) 3 (Ai u).globals gX/\aY w (I m.fa fn m.fc) 4 (Ai u).funcs kG:=λw hw=>by
   have h2:Wd db w0 ((pq.Gc {m with fs:=ys})++[]) w:=by
    rw[cj];unfold pq.Gc;simp only;rw[pw];exact hw.sub (.cons _ (.cons _ (.cons _ (.cons _ (.cons _ (.refl _))))))
   have h3:=pq.sl (m:={m with fs:=ys}) ⟨Pm.Kl,λy hy=>⟨(uF y hy).1,(uF y hy).2.1⟩⟩ ⟨by have:=dV.zm;simp only;omega,by have:=hl.1;simp only;omega,λy hy=>(uF y hy).2.2⟩ h2;rw[Dr,aeC]at h3;simp only[pw]at h3;exact h3
  repeat(first|refine cT ?_|refine dd λ_ _=>?_)
  refine bY rfl (λw hw=>Yt _ _ _ _ vc vk _ _ (Ai u) w (YU w hw).1 (YU w hw).2 (λX hX=>?_) hvk (aaO w (hw.get (k:=4) rfl))) ?_
  ·rw[<-Dr]at hX
   obtain⟨y,hy,rfl⟩:=aT.1 hX;have h7:=uF y hy;refine⟨by unfold mH.fn;simp only[aG];exact h7.2.2,λC hC=>?_⟩;obtain⟨c,hc,rfl⟩:=aT.1 hC;have h8:=h7.2.1 c hc;unfold aK.dD;simp only[aG];exact⟨h8.bg,h8.list⟩
  repeat(first|refine cT ?_|refine dd λ_ _=>?_)
  exact cv rfl rfl
end
end Go.Proofs.YthfhgolkafpmnaaGreatDoor
