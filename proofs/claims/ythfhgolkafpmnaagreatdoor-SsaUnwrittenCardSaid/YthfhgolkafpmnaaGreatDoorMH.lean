/- Texts joined: OneD OneS. -/
import Derived.Test.YthfhgolkafpmnaaGreatDoorIE
import Derived.Test.YthfhgolkafpmnaaGreatDoorMA
import Derived.Test.YthfhgolkafpmnaaGreatDoorMC
import Derived.Test.YthfhgolkafpmnaaGreatDoorMF
namespace Go.Proofs.YthfhgolkafpmnaaGreatDoor
section
open Go Go.RowKit
attribute [local irreducible] wpListIn Code.wpIn Exit.then Exit.inBlock bodyPost wpQuiet wpAnyIn wpAnyH bodyPostM gX
set_option maxHeartbeats 8000000
def lA(q pf:Nat)(av kv:Value)(m:Nat):bN:=aj q [.pointer (some ⟨pf,0,none⟩),av,kv,.int .i64 (m:Int)] 102
theorem FO(q pf:Nat)(av kv:Value)(m:Nat)(hm:m<=1000000)(w:World)(hw:Wd (cF [lA q pf av kv m]) w [lA q pf av kv m] w):
  gV Tryz.prog 111 [.pointer (some ⟨q,0,none⟩)] w λu w'=>∃_x:Unit,u=.agg #[.bool true,.int .i64 (m:Int)]/\Wd (cF [lA q pf av kv m]) w [lA q pf av kv (m+1)] w'/\True:=by
 have h:=SJ q pf av kv (m:Int) ag w hw;rw[show(m:Int)+1=((m+1:Nat):Int) by omega]at h;exact h
theorem sK{S:Nat->Prop}{w0 w:World}{H:List bN}(hw:Wd S w0 H w){k1 k2 p5 mc R:Nat}{ma:Option Addr}{ν:Nat->Nat->Int}{bl:List ar}{P b i:Nat}(h1:H[k1]?=some (aj p5 [.slice ma R mc] 47))(h2:H[k2]?=some (ai ma R mc 41 2 ((dW R (nm ν bl P b i)).flatMap df)))(hR:R<=1000)(v:cm)(hv:ik R v):
  fi Tryz.prog 110 [.agg #[.bool v.bD,.int .i64 v.n],.pointer (some ⟨p5,0,none⟩)] w (.agg #[.bool (o6 ν bl P b i v).bD,.int .i64 (o6 ν bl P b i v).n]):=by
 have h3:=ab1 p5 (.slice ma R mc) (dW R (nm ν bl P b i)) w (λj u hj=>by rw[dM];exact hw.mj k1 h1 hj) (hw.nC h2 (by rw[gi]) ag λi x hx=>⟨df x,λj v hj=>fy eB _ i x j v hx hj,rfl⟩) v (λh=>by rw[gi];exact hv h);rw[QG hv]at h3;exact h3
structure ZI(bl:List ar)(R P:Nat):Prop where
 ok:eX R bl
 pos:0<bl.length
 len:bl.length<=100
 reach:∀b,b<bl.length->gD bl (-1) 0 b
 bD:∀B∈bl,zm (NT R) B
 le:R<=1000
 kB:P+fC bl (qM bl)<=100000
 nin:∀b i v,ik R v->c9 v.n->c9 (o6 (qf bl P) bl P b i v).n
theorem Ni(xn:ByteArray)(xp xr:Int)(bl:List ar)(R P:Nat)(hI:ZI bl R P)(q pf vb vo n c:Nat)(aa:Option Addr)(an ac:Nat)(ka:Option Addr)(kn kc:Nat)(hn:n=bl.length):
  ∀(f b:Nat) (V W:List Nat) (bs:List aR) (na:Option Addr) (nn nc:Nat) (S:Nat->Prop) (wz w:World),bl.length<f+D3 bl b->b<bl.length->qM bl=V++(jG bl f b++W)->bs.map aR.eo=Cf (qf bl P) bl P (uw bl V)->(∀B∈bs,B.Bd)->Clean S wz->
   bG wz pf 0 [.string xn,.int .i64 xp,.int .i64 xr,.slice (some ⟨vb,vo,none⟩) n c]->aM wz (.slice aa an ac) 1 (bm bl) cS->aM wz (.slice ka kn kc) 1 ((List.range bl.length).map λb=>(mB bl b).map λx:Nat=>(x:Int)) cS->aM wz (.slice na nn nc) 2 (dW R (zM (qf bl P) bl P b)) l9->
   Wd S wz (lA q pf (.slice aa an ac) (.slice ka kn kc) (P+fC bl V)::ff (some ⟨vb,vo,none⟩) c bs) w->
   gV Tryz.prog 67 [.pointer (some ⟨q,0,none⟩),.int .i64 b,.slice na nn nc] w λu w'=>∃x:List aR,u=.tuple #[]/\Wd S wz (lA q pf (.slice aa an ac) (.slice ka kn kc) (P+fC bl (V++jG bl f b))::ff (some ⟨vb,vo,none⟩) c x) w'/\(x.map aR.eo=Cf (qf bl P) bl P (uw bl (V++jG bl f b))/\∀B∈x,B.Bd):=by
 classical
 intro f;have hlen:=hI.len;have hg:=hI.ok.iM;have dS:=hI.pos;have hR:=hI.le
 induction f with
 |zero=>
  intro b V W bs na nn nc S wz w hfd hb;have:=(nP hg dS (hI.reach b hb)).2;omega
 |succ f ih=>
 intro b V W bs na nn nc S wz w hfd hb Pn Zb sI fv oY LV Ej uP hw;obtain⟨ν,hν⟩:∃ν,ν=qf bl P:=⟨_,rfl⟩;have Cp:=hI.nin;rw[<-hν]at Zb uP Cp;rw[<-hν];have Km:=hI.reach b hb;have Gb:bs.length=n:=by
  have h3:=congrArg List.length Zb;rw[aG,xy]at h3;omega
 have Em:jG bl (f+1) b=b::(mB bl b).flatMap (jG bl f):=rfl;have VD:(qM bl).Nodup:=uB .refl;have Kj:qM bl=V++b::((mB bl b).flatMap (jG bl f)++W):=by rw[Pn,Em];rfl
 have hbV:b∉V:=λh=>by
  rw[Kj]at VD;exact(nN.1 VD).2.2 b h b aH rfl
 have hnu:∀k,ν b k=((P+fC bl V+KS (a8 bl b) k:Nat):Int):=λk=>by rw[hν];exact Yz Kj hbV
 obtain⟨B,hB⟩:∃B,bl[b]?=some B:=⟨_,aB hb⟩;have RU:a8 bl b=B:=eD hB;have Is:=hI.ok.block b B hB;have F3:=hI.bD B (aA hB);have ac6:∀X:List Nat,(∃Y,qM bl=X++Y)->P+fC bl X<=100000:=λX ⟨Y,h⟩=>by
  have h1:=hI.kB;rw[h,An]at h1;omega
 have Cm:P+fC bl V+qF B<=100000:=by
  have:=ac6 (V++[b]) ⟨(mB bl b).flatMap (jG bl f)++W,by rw[Kj];simp⟩;rw[An,FB,RU]at this;omega
 obtain⟨T,hT⟩:∃T,bs[b]?=some T:=⟨_,aB ag⟩;have Vb:T.eo=pZ ν bl P (uw bl V) b B:=by
  have h3:(bs.map aR.eo)[b]?=some T.eo:=by rw[aK,hT];rfl
  rw[Zb,xw hB]at h3;exact(be h3).symm
 have yX:=sI T (aA hT);have oQ:a_ wz pf 0 [.string xn,.int .i64 xp,.int .i64 xr,.slice (some ⟨vb,vo,none⟩) n c]:=⟨oY⟩;have hold:eI S pf:=fv.RM oY;have Pc:bZ b n:=⟨ag⟩;refine kL Tryz.func67 rfl Tryz.ntmps67 rfl hw ?_
 repeat(first|refine aU ?_|refine dX λ_ _=>?_)
 rename_i p5 _;have Pm:nn=R:=by rw[uP.at.1,gi]
 refine cV (val:=λx:Option Addr×Nat=>.slice x.1 R x.2) (E:=λx=>[ai x.1 R x.2 41 2 ((dW R (zM ν bl P b)).flatMap df)]) (φ:=λ_=>True) rfl (λw hw=>?_) λx _=>?_
 ·rw[Pm]
  have h3:=vv na nc (dW R (zM ν bl P b)) (by rw[gi];omega) w (by
   have h4:=EU (uP.le w5 (fv.now hw));rw[Pm]at h4;rw[gi];exact h4)
  rw[gi]at h3;exact h3
 obtain⟨ma,mc⟩:=x;simp only[a6,aT];unfold lA;obtain⟨abn,Tl,XL,IQ,XS⟩:(∀(i:Nat) p,T.ps[i]?=some p->∃p',B.aL[i]?=some p'/\p.dst=p'.dst)/\T.xs.map (·.x)=B.list/\T.on=B.on/\T.to=B.to/\T.ps.length=B.aL.length:=by
  obtain⟨h1,h2,h3,h4,h5⟩:=KD (ν:=ν) (n:=P) hbV B;rw[<-Vb]at h1 h2 h3 h4 h5;have E4:T.ps.length=B.aL.length:=by
   have h8:=congrArg (λx:ar=>x.aL.length) Vb;simp only[aR.eo,aG]at h8;rw[h8];show(B.aL.mapIdx _).length=_;rw[kh]
  refine⟨λi p hp=>?_,h1,h2,h3,E4⟩;obtain⟨p',uj⟩:∃p',B.aL[i]?=some p':=⟨_,aB (by rw[<-E4];exact(aC.1 hp).1)⟩;obtain⟨q,hq,XU⟩:=h5 i p' uj;have h6:(T.ps.map cG.jW)[i]?=some q:=hq;rw[aK,hp]at h6;obtain rfl:=be h6;exact⟨p',uj,XU⟩
 obtain⟨qa,qc,ps,la,lc,xs,kd,on,ta,tc,to⟩:=T;simp only at abn Tl XL IQ XS;refine aI ?_;refine nu (H':=[lA q pf (.slice aa an ac) (.slice ka kn kc) (P+fC bl V),ai ma R mc 41 2 ((dW R (zM ν bl P b)).flatMap df),aj p5 [.slice ma R mc] 47]++(ai (some ⟨vb,vo,none⟩) bs.length c 46 6 (bs.flatMap bg)::ai qa ps.length qc 49 2 (ps.flatMap ci)::tx (⟨qa,qc,ps,la,lc,xs,kd,on,ta,tc,to⟩:aR)::nE (⟨qa,qc,ps,la,lc,xs,kd,on,ta,tc,to⟩:aR)::(ps.map e7++(xs.map jo++(bs.eraseIdx b).map b_)))) (λw hw=>B0 hT (X:=[lA q pf (.slice aa an ac) (.slice ka kn kc) (P+fC bl V),ai ma R mc 41 2 ((dW R (zM ν bl P b)).flatMap df),aj p5 [.slice ma R mc] 47]) (hw.perm (aJ.2 λe=>by unfold lA;simp only[bu,bi,cd];omega))) ?_;simp only[a6,aT];rw[Gb];have j4:∀(q:Nat) v,(bg (⟨qa,qc,ps,la,lc,xs,kd,on,ta,tc,to⟩:aR))[q]?=some v->(bs.flatMap bg)[b*6+q]?=some v:=λq v hv=>fy dC bs b _ q v hT hv;have aa9:∀Y,fe (ai (some ⟨vb,vo,none⟩) n c 46 6 (bs.flatMap bg)::Y) vb (vo+b*6) (.slice qa ps.length qc):=λ_=>⟨λ_ _ _ hw=>hw.cK (k:=0) rfl (j4 0 _ rfl)⟩;have aba:∀Y,fe (ai (some ⟨vb,vo,none⟩) n c 46 6 (bs.flatMap bg)::Y) vb (vo+b*6+1) (.slice la xs.length lc):=λ_=>⟨λ_ _ _ hw=>by have h3:=hw.cK (k:=0) rfl (j4 1 _ rfl);rw[<-dA]at h3;exact h3⟩;refine aO ?_;have Tt:ps.length<=1000:=yX.aL;refine bP (λi:Nat=>i<=ps.length) (λi=>[(40,.int .i64 i),(38,.slice qa ps.length qc),(39,.int .i64 ps.length),(7,.pointer (some ⟨vb,vo+b*6,none⟩)),(6,.func (.func 110) #[] #[.pointer (some ⟨p5,0,none⟩)]),(5,.pointer (some ⟨p5,0,none⟩)),(0,.pointer (some ⟨q,0,none⟩)),(1,.int .i64 b)])
  (λi=>lA q pf (.slice aa an ac) (.slice ka kn kc) (P+fC bl V+i)::ai ma R mc 41 2 ((dW R (KG ν bl P b i)).flatMap df)::aj p5 [.slice ma R mc] 47::ai (some ⟨vb,vo,none⟩) n c 46 6 (bs.flatMap bg)::ai qa ps.length qc 49 2 ((eN (ze ν b) i ps).flatMap ci)::tx (⟨qa,qc,ps,la,lc,xs,kd,on,ta,tc,to⟩:aR)::nE (⟨qa,qc,ps,la,lc,xs,kd,on,ta,tc,to⟩:aR)::(ps.map e7++(xs.map jo++(bs.eraseIdx b).map b_))) (λi=>ps.length-i) 0 (aY _) (aV aw (by rw[sF,BH (λr _=>QB b r)];exact cN _)) λi hi=>?_
 refine aU ?_;refine aN (λh1=>?_) (λh1=>?_)
 ·have iQ:i<ps.length:=by simpa using h1
  obtain⟨p,hp⟩:∃p,ps[i]?=some p:=⟨_,aB iQ⟩;have jS:=xu (g:=ze ν b) hp;have qe:=uG (g:=ze ν b) hp;obtain⟨p',uj,VF⟩:=abn i p hp;have wU:=(F3.aL p' (aA uj)).1;obtain⟨d,hd⟩:∃d:Nat,p.dst=d:=⟨p.dst.toNat,by have:=wU.1;omega⟩;have Ze:d<R:=by have:=wU.2;omega
  have Dc:(dW R (KG ν bl P b i)).set d ⟨true,ν b i⟩=dW R (KG ν bl P b (i+1)):=Ha λr hr=>by
   rw[QA (p:=p') (by rw[RU];exact uj),<-VF,hd]
  have adY:ν b i=((P+fC bl V+i:Nat):Int):=by rw[hnu,RU,KT ag]
  have bT:bZ i ps.length:=⟨iQ⟩;have hlR:bZ d R:=⟨Ze⟩;refine eW 4 rfl ag λzb zo Es=>?_;subst Es;refine eW 1 rfl ag λyb yo E8=>?_;subst E8;obtain⟨pd,pa,pc,pl⟩:=p;simp only at hd;subst hd;have xA:∀Y,gj (ai (some ⟨zb,zo,none⟩) ps.length qc 49 2 ((eN (ze ν b) i ps).flatMap ci)::Y) zb (zo+i*2) _:=λ_=>iT (k:=0) rfl ft jS;simp only[ci]at xA
  repeat(first|refine aI ?_|refine dX λ_ _=>?_)
  rename_i p9 _;refine bj (H1:=[lA q pf (.slice aa an ac) (.slice ka kn kc) (P+fC bl V+i)]++(aj p9 [.int .i64 (d:Int),.slice pa pl.length pc] 49::ai (some ⟨yb,yo,none⟩) R mc 41 2 ((dW R (KG ν bl P b i)).flatMap df)::aj p5 [.slice (some ⟨yb,yo,none⟩) R mc] 47::ai (some ⟨vb,vo,none⟩) n c 46 6 (bs.flatMap bg)::ai (some ⟨zb,zo,none⟩) ps.length qc 49 2 ((eN (ze ν b) i ps).flatMap ci)::tx (⟨some ⟨zb,zo,none⟩,qc,ps,la,lc,xs,kd,on,ta,tc,to⟩:aR)::nE (⟨some ⟨zb,zo,none⟩,qc,ps,la,lc,xs,kd,on,ta,tc,to⟩:aR)::(ps.map e7++(xs.map jo++(bs.eraseIdx b).map b_)))) (List.Perm.swap _ _ _) ?_;refine fH (val:=λ_:Unit=>.agg #[.bool true,.int .i64 ((P+fC bl V+i:Nat):Int)]) (E:=λ_=>[lA q pf (.slice aa an ac) (.slice ka kn kc) (P+fC bl V+i+1)]) (φ:=λ_=>True) rfl (λw hw=>FO q pf _ _ (P+fC bl V+i) ag w hw.pre) λ_ _=>?_;simp only[a6,aT];rw[<-adY];have my:((dW R (KG ν bl P b i)).flatMap df).take (d*2)++[Value.bool true,.int .i64 (ν b i)]++((dW R (KG ν bl P b i)).flatMap df).drop (d*2+2)=(dW R (KG ν bl P b (i+1))).flatMap df:=by
   rw[show[Value.bool true,.int .i64 (ν b i)]=df ⟨true,ν b i⟩from rfl,jy eB (by rw[gi];exact Ze),Dc]
  repeat(first|refine aI ?_|refine dX λ_ _=>?_)
  rename_i HH _;refine kT 3 (j:=d*2) rfl rfl (by rw[ct eB,gi];omega) ?_;simp only[cn,bS];rw[my];refine aU ?_;have mM:lN ((eN (ze ν b) i ps).flatMap ci) (i*2+0) (.int .i64 (ν b i)) ((eN (ze ν b) (i+1) ps).flatMap ci):=⟨by
   rw[<-qe];exact gh ft jS (k:=0) ag (y:=ze ν b i ⟨(d:Int),pa,pc,pl⟩) rfl,by rw[ct ft,kX];omega⟩
  have VE:∀(X0 X1 X2 X3 X4 X5:bN) (Y:List bN),mT (X0::X1::X2::X3::X4::X5::ai (some ⟨zb,zo,none⟩) ps.length qc 49 2 ((eN (ze ν b) i ps).flatMap ci)::Y) zb (zo+i*2) 6 zo (i*2+0) ps.length qc 49 2 ((eN (ze ν b) i ps).flatMap ci):=λ_ _ _ _ _ _ _=>⟨rfl,ag⟩;refine dR [aj HH [.bool true,.int .i64 (ν b i)] 41,ai (some ⟨vb,vo,none⟩) n c 46 6 (bs.flatMap bg)] (λ_:Unit=>True) (λ_=>[(40,.int .i64 i),(38,.slice (some ⟨zb,zo,none⟩) ps.length qc),(39,.int .i64 ps.length),(7,.pointer (some ⟨vb,vo+b*6,none⟩)),(6,.func (.func 110) #[] #[.pointer (some ⟨p5,0,none⟩)]),(5,.pointer (some ⟨p5,0,none⟩)),(0,.pointer (some ⟨q,0,none⟩)),(1,.int .i64 b)]) (λ_=>lA q pf (.slice aa an ac) (.slice ka kn kc) (P+fC bl V+i+1)::ai (some ⟨yb,yo,none⟩) R mc 41 2 ((dW R (KG ν bl P b (i+1))).flatMap df)::aj p5 [.slice (some ⟨yb,yo,none⟩) R mc] 47::ai (some ⟨vb,vo,none⟩) n c 46 6 (bs.flatMap bg)::ai (some ⟨zb,zo,none⟩) ps.length qc 49 2 ((eN (ze ν b) (i+1) ps).flatMap ci)::tx (⟨some ⟨zb,zo,none⟩,qc,ps,la,lc,xs,kd,on,ta,tc,to⟩:aR)::nE (⟨some ⟨zb,zo,none⟩,qc,ps,la,lc,xs,kd,on,ta,tc,to⟩:aR)::(ps.map e7++(xs.map jo++(bs.eraseIdx b).map b_))) mixed ap ?_ λ_ _=>?_
  ·skip
   refine az 0 rfl aq ap ?_;refine az 1 rfl aq ap ?_;refine az 2 rfl aq ap ?_;refine az 3 rfl aq ap ?_;refine az 4 rfl aq ap ?_;refine az 5 rfl aq ap ?_;refine az 6 rfl aq ap ?_;refine az 7 rfl aq ap ?_;refine az 8 rfl aq ap ?_;refine j3 9 aq aq ap ?_;exact dN () trivial aw ap
  refine aO ?_;exact bC (i+1) iQ ag aw ag2
 obtain rfl:ps.length=i:=by have:=of_decide_eq_false h1;omega
 rw[rL,BH λr _=>by rw[XS,<-RU,<-KH hg dS Km]];refine aI ?_;obtain⟨M,hM⟩:∃M:Nat->Nat,M=λk=>P+fC bl V+ps.length+((B.list.take k).filter CF).length:=⟨_,rfl⟩;have hM0:P+fC bl V+ps.length=M 0:=by rw[hM];rfl
 have TJ:xs.length=B.list.length:=by rw[<-Tl,aG]
 have aag:∀k,M k<=100000:=λk=>by
  have h3:=FJ B.list k;have h4:qF B=B.aL.length+(B.list.filter CF).length:=rfl;rw[hM];simp only;omega
 have XH:∀k,ν b ((a8 bl b).aL.length+k)=((M k:Nat):Int):=λk=>by
  rw[hnu,RU,Uo,hM];simp only;omega
 rw[hM0];have agV:xs.length<=1000:=yX.list;refine bP (λk:Nat=>k<=xs.length) (λk=>[(67,.int .i64 k),(65,.slice la xs.length lc),(66,.int .i64 xs.length),(7,.pointer (some ⟨vb,vo+b*6,none⟩)),(6,.func (.func 110) #[] #[.pointer (some ⟨p5,0,none⟩)]),(5,.pointer (some ⟨p5,0,none⟩)),(0,.pointer (some ⟨q,0,none⟩)),(1,.int .i64 b)])
  (λk=>lA q pf (.slice aa an ac) (.slice ka kn kc) (M k)::ai ma R mc 41 2 ((dW R (nm ν bl P b k)).flatMap df)::aj p5 [.slice ma R mc] 47::ai (some ⟨vb,vo,none⟩) n c 46 6 (bs.flatMap bg)::ai la xs.length lc 56 8 ((eN (vJ ν bl P b) k xs).flatMap eE)::((eN (vJ ν bl P b) k xs).map jo++(ai qa ps.length qc 49 2 ((ps.mapIdx (ze ν b)).flatMap ci)::nE (⟨qa,qc,ps,la,lc,xs,kd,on,ta,tc,to⟩:aR)::(ps.map e7++(bs.eraseIdx b).map b_)))) (λk=>xs.length-k) 0 (aY _) (bj (aJ.2 λe=>?_) (aV aw ag2)) λk hk=>?_
 ·rw[sF]
  unfold tx;simp only[bu,bi];omega
 refine aU ?_;refine aN (λh1=>?_) (λh1=>?_)
 ·have xz:k<xs.length:=by simpa using h1
  obtain⟨u,hu⟩:∃u,xs[k]?=some u:=⟨_,aB xz⟩;have jS:=xu (g:=vJ ν bl P b) hu;have qe:=uG (g:=vJ ν bl P b) hu;obtain⟨PL,Yf,Yh⟩:=yX.ins u (aA hu);obtain⟨x,ea,ec⟩:=u;simp only at PL Yf Yh;have hx:B.list[k]?=some x:=by rw[<-Tl,aK,hu];rfl
  have oZ:=aA hx;have PQ:=F3.list x oZ;have Pf:bZ k xs.length:=⟨xz⟩;refine eW 4 rfl ag λzb zo Es=>?_;subst Es;have xA:∀Y,gj (ai (some ⟨zb,zo,none⟩) xs.length lc 56 8 ((eN (vJ ν bl P b) k xs).flatMap eE)::Y) zb (zo+k*8) _:=λ_=>iT (k:=0) rfl jj jS;simp only[eE]at xA
  repeat(first|refine aI ?_|refine dX λ_ _=>?_)
  rename_i oH _;have nz:ik R x.a:=PQ.a;have Ku:ik R x.b:=PQ.b;have Yj:∀v∈x.args,ik R v:=PQ.args;obtain⟨A,hA⟩:∃A,A=o6 ν bl P b k x.a:=⟨_,rfl⟩;obtain⟨A2,Wz⟩:∃A,A=o6 ν bl P b k x.b:=⟨_,rfl⟩;obtain⟨OT,Iv⟩:∃OT,OT=((eN (vJ ν bl P b) k xs).eraseIdx k).map jo:=⟨_,rfl⟩;refine bj (H1:=aj oH [.int .i64 x.op,.int .i64 x.dst,.bool x.a.bD,.int .i64 x.a.n,.bool x.b.bD,.int .i64 x.b.n,.int .i64 x.fn,.slice ea x.args.length ec] 56::lA q pf (.slice aa an ac) (.slice ka kn kc) (M k)::ai ma R mc 41 2 ((dW R (nm ν bl P b k)).flatMap df)::aj p5 [.slice ma R mc] 47::ai (some ⟨vb,vo,none⟩) n c 46 6 (bs.flatMap bg)::ai (some ⟨zb,zo,none⟩) xs.length lc 56 8 ((eN (vJ ν bl P b) k xs).flatMap eE)::ai ea x.args.length ec 41 2 (x.args.flatMap df)::(OT++(ai qa ps.length qc 49 2 ((ps.mapIdx (ze ν b)).flatMap ci)::nE (⟨qa,qc,ps,some ⟨zb,zo,none⟩,lc,xs,kd,on,ta,tc,to⟩:aR)::(ps.map e7++(bs.eraseIdx b).map b_)))) (aJ.2 λe=>?_) ?_
  ·have h3:=aJ.1 (iB jo jS) e
   have h4:jo (⟨x,ea,ec⟩:iX)=ai ea x.args.length ec 41 2 (x.args.flatMap df):=rfl;rw[<-Iv,h4]at h3;simp only[bu,bi]at h3⊢;omega
  refine dR [] (λ_:Unit=>True) (λ_=>[(11,.int .i64 k),(12,.pointer (some ⟨oH,0,none⟩)),(67,.int .i64 k),(65,.slice (some ⟨zb,zo,none⟩) xs.length lc),(66,.int .i64 xs.length),(7,.pointer (some ⟨vb,vo+b*6,none⟩)),(6,.func (.func 110) #[] #[.pointer (some ⟨p5,0,none⟩)]),(5,.pointer (some ⟨p5,0,none⟩)),(0,.pointer (some ⟨q,0,none⟩)),(1,.int .i64 b)]) (λ_=>aj oH [.int .i64 x.op,.int .i64 x.dst,.bool A.bD,.int .i64 A.n,.bool A2.bD,.int .i64 A2.n,.int .i64 x.fn,.slice ea x.args.length ec] 56::lA q pf (.slice aa an ac) (.slice ka kn kc) (M k)::ai ma R mc 41 2 ((dW R (nm ν bl P b k)).flatMap df)::aj p5 [.slice ma R mc] 47::ai (some ⟨vb,vo,none⟩) n c 46 6 (bs.flatMap bg)::ai (some ⟨zb,zo,none⟩) xs.length lc 56 8 ((eN (vJ ν bl P b) k xs).flatMap eE)::ai ea x.args.length ec 41 2 (x.args.flatMap df)::(OT++(ai qa ps.length qc 49 2 ((ps.mapIdx (ze ν b)).flatMap ci)::nE (⟨qa,qc,ps,some ⟨zb,zo,none⟩,lc,xs,kd,on,ta,tc,to⟩:aR)::(ps.map e7++(bs.eraseIdx b).map b_)))) mixed ap ?_ λ_ _=>?_
  ·skip
   refine az 0 rfl aq ap ?_;refine az 1 rfl aq ap ?_;refine az 4 rfl aq ap ?_;refine az 5 rfl aq ap ?_;refine kG 2 6 aq ?_ ?_
   ·skip
    refine eY 2 rfl ap ?_;refine kG 3 6 aq ?_ ?_
    ·skip
     refine kI 3 (us:=[]) (vs:=[.agg #[.bool x.a.bD,.int .i64 x.a.n]]) (xs:=[.pointer (some ⟨p5,0,none⟩)]) rfl ap (λw hw=>sK hw (k1:=3) (k2:=2) rfl rfl hR x.a nz) ?_;refine ck 6 aq ?_;refine eY 6 rfl ap ?_;refine kG 7 8 aq ?_ ?_
     ·skip
      refine kI 7 (us:=[]) (vs:=[.agg #[.bool x.b.bD,.int .i64 x.b.n]]) (xs:=[.pointer (some ⟨p5,0,none⟩)]) rfl ap (λw hw=>sK hw (k1:=3) (k2:=2) rfl rfl hR x.b Ku) ?_;refine ck 8 aq ?_;refine eY 8 rfl ap ?_;rw[<-hA,<-Wz];refine cH 9 aq ap ?_;refine az 10 rfl aq ap ?_;refine cH 11 aq ap ?_;refine eF aq ?_;exact dN () trivial aw ag2
     ·skip
      refine eY 8 rfl ap ?_;refine ck 7 aq ?_;refine kI 7 (us:=[]) (vs:=[.agg #[.bool x.b.bD,.int .i64 x.b.n]]) (xs:=[.pointer (some ⟨p5,0,none⟩)]) rfl ap (λw hw=>sK hw (k1:=3) (k2:=2) rfl rfl hR x.b Ku) ?_;rw[<-hA,<-Wz];refine cH 9 aq ap ?_;refine az 10 rfl aq ap ?_;refine cH 11 aq ap ?_;refine eF aq ?_;exact dN () trivial aw ag2
    ·skip
     refine eY 6 rfl ap ?_;refine ck 3 aq ?_;refine kI 3 (us:=[]) (vs:=[.agg #[.bool x.a.bD,.int .i64 x.a.n]]) (xs:=[.pointer (some ⟨p5,0,none⟩)]) rfl ap (λw hw=>sK hw (k1:=3) (k2:=2) rfl rfl hR x.a nz) ?_;refine kG 7 8 aq ?_ ?_
     ·skip
      refine kI 7 (us:=[]) (vs:=[.agg #[.bool x.b.bD,.int .i64 x.b.n]]) (xs:=[.pointer (some ⟨p5,0,none⟩)]) rfl ap (λw hw=>sK hw (k1:=3) (k2:=2) rfl rfl hR x.b Ku) ?_;refine ck 8 aq ?_;refine eY 8 rfl ap ?_;rw[<-hA,<-Wz];refine cH 9 aq ap ?_;refine az 10 rfl aq ap ?_;refine cH 11 aq ap ?_;refine eF aq ?_;exact dN () trivial aw ag2
     ·skip
      refine eY 8 rfl ap ?_;refine ck 7 aq ?_;refine kI 7 (us:=[]) (vs:=[.agg #[.bool x.b.bD,.int .i64 x.b.n]]) (xs:=[.pointer (some ⟨p5,0,none⟩)]) rfl ap (λw hw=>sK hw (k1:=3) (k2:=2) rfl rfl hR x.b Ku) ?_;rw[<-hA,<-Wz];refine cH 9 aq ap ?_;refine az 10 rfl aq ap ?_;refine cH 11 aq ap ?_;refine eF aq ?_;exact dN () trivial aw ag2
   ·skip
    refine eY 6 rfl ap ?_;refine ck 2 aq ?_;refine eY 2 rfl ap ?_;refine ck 3 aq ?_;refine kI 3 (us:=[]) (vs:=[.agg #[.bool x.a.bD,.int .i64 x.a.n]]) (xs:=[.pointer (some ⟨p5,0,none⟩)]) rfl ap (λw hw=>sK hw (k1:=3) (k2:=2) rfl rfl hR x.a nz) ?_;refine kG 7 8 aq ?_ ?_
    ·skip
     refine kI 7 (us:=[]) (vs:=[.agg #[.bool x.b.bD,.int .i64 x.b.n]]) (xs:=[.pointer (some ⟨p5,0,none⟩)]) rfl ap (λw hw=>sK hw (k1:=3) (k2:=2) rfl rfl hR x.b Ku) ?_;refine ck 8 aq ?_;refine eY 8 rfl ap ?_;rw[<-hA,<-Wz];refine cH 9 aq ap ?_;refine az 10 rfl aq ap ?_;refine cH 11 aq ap ?_;refine eF aq ?_;exact dN () trivial aw ag2
    ·skip
     refine eY 8 rfl ap ?_;refine ck 7 aq ?_;refine kI 7 (us:=[]) (vs:=[.agg #[.bool x.b.bD,.int .i64 x.b.n]]) (xs:=[.pointer (some ⟨p5,0,none⟩)]) rfl ap (λw hw=>sK hw (k1:=3) (k2:=2) rfl rfl hR x.b Ku) ?_;rw[<-hA,<-Wz];refine cH 9 aq ap ?_;refine az 10 rfl aq ap ?_;refine cH 11 aq ap ?_;refine eF aq ?_;exact dN () trivial aw ag2
  refine aO ?_;obtain⟨gA,hgA⟩:∃gA:Nat->cm->cm,gA=λ_ v=>o6 ν bl P b k v:=⟨_,rfl⟩;refine bP (λe:Nat=>e<=x.args.length) (λe=>[(85,.int .i64 e),(83,.slice ea x.args.length ec),(84,.int .i64 x.args.length),(11,.int .i64 k),(12,.pointer (some ⟨oH,0,none⟩)),(67,.int .i64 k),(65,.slice (some ⟨zb,zo,none⟩) xs.length lc),(66,.int .i64 xs.length),(7,.pointer (some ⟨vb,vo+b*6,none⟩)),(6,.func (.func 110) #[] #[.pointer (some ⟨p5,0,none⟩)]),(5,.pointer (some ⟨p5,0,none⟩)),(0,.pointer (some ⟨q,0,none⟩)),(1,.int .i64 b)])
   (λe=>aj oH [.int .i64 x.op,.int .i64 x.dst,.bool A.bD,.int .i64 A.n,.bool A2.bD,.int .i64 A2.n,.int .i64 x.fn,.slice ea x.args.length ec] 56::lA q pf (.slice aa an ac) (.slice ka kn kc) (M k)::ai ma R mc 41 2 ((dW R (nm ν bl P b k)).flatMap df)::aj p5 [.slice ma R mc] 47::ai (some ⟨vb,vo,none⟩) n c 46 6 (bs.flatMap bg)::ai (some ⟨zb,zo,none⟩) xs.length lc 56 8 ((eN (vJ ν bl P b) k xs).flatMap eE)::ai ea x.args.length ec 41 2 ((eN gA e x.args).flatMap df)::(OT++(ai qa ps.length qc 49 2 ((ps.mapIdx (ze ν b)).flatMap ci)::nE (⟨qa,qc,ps,some ⟨zb,zo,none⟩,lc,xs,kd,on,ta,tc,to⟩:aR)::(ps.map e7++(bs.eraseIdx b).map b_)))) (λe=>x.args.length-e) 0 (aY _) (aV aw (by rw[sF];exact cN _)) λe he=>?_
  refine aU ?_;refine aN (λh2=>?_) (λh2=>?_)
  ·have iK:e<x.args.length:=by simpa using h2
   obtain⟨v,hv⟩:∃v,x.args[e]?=some v:=⟨_,aB iK⟩;have Gg:=xu (g:=gA) hv;have Gw:=uG (g:=gA) hv;have hle:bZ e x.args.length:=⟨iK⟩;refine eW 6 rfl ag λyb yo E8=>?_;subst E8;have Pp:∀Y,gj (ai (some ⟨yb,yo,none⟩) x.args.length ec 41 2 ((eN gA e x.args).flatMap df)::Y) yb (yo+e*2) _:=λ_=>iT (k:=0) rfl eB Gg;simp only[df]at Pp
   repeat(first|refine aI ?_|refine dX λ_ _=>?_)
   rename_i kt _;have hvC:df (gA e v)=[.bool (o6 ν bl P b k v).bD,.int .i64 (o6 ν bl P b k v).n]:=by rw[hgA];rfl
   refine dR [aj kt [.bool v.bD,.int .i64 v.n] 41,aj oH [.int .i64 x.op,.int .i64 x.dst,.bool A.bD,.int .i64 A.n,.bool A2.bD,.int .i64 A2.n,.int .i64 x.fn,.slice (some ⟨yb,yo,none⟩) x.args.length ec] 56] (λ_:Unit=>True) (λ_=>[(85,.int .i64 e),(83,.slice (some ⟨yb,yo,none⟩) x.args.length ec),(84,.int .i64 x.args.length),(11,.int .i64 k),(12,.pointer (some ⟨oH,0,none⟩)),(67,.int .i64 k),(65,.slice (some ⟨zb,zo,none⟩) xs.length lc),(66,.int .i64 xs.length),(7,.pointer (some ⟨vb,vo+b*6,none⟩)),(6,.func (.func 110) #[] #[.pointer (some ⟨p5,0,none⟩)]),(5,.pointer (some ⟨p5,0,none⟩)),(0,.pointer (some ⟨q,0,none⟩)),(1,.int .i64 b)]) (λ_=>aj oH [.int .i64 x.op,.int .i64 x.dst,.bool A.bD,.int .i64 A.n,.bool A2.bD,.int .i64 A2.n,.int .i64 x.fn,.slice (some ⟨yb,yo,none⟩) x.args.length ec] 56::lA q pf (.slice aa an ac) (.slice ka kn kc) (M k)::ai ma R mc 41 2 ((dW R (nm ν bl P b k)).flatMap df)::aj p5 [.slice ma R mc] 47::ai (some ⟨vb,vo,none⟩) n c 46 6 (bs.flatMap bg)::ai (some ⟨zb,zo,none⟩) xs.length lc 56 8 ((eN (vJ ν bl P b) k xs).flatMap eE)::ai (some ⟨yb,yo,none⟩) x.args.length ec 41 2 ((eN gA (e+1) x.args).flatMap df)::(OT++(ai qa ps.length qc 49 2 ((ps.mapIdx (ze ν b)).flatMap ci)::nE (⟨qa,qc,ps,some ⟨zb,zo,none⟩,lc,xs,kd,on,ta,tc,to⟩:aR)::(ps.map e7++(bs.eraseIdx b).map b_)))) mixed ap ?_ λ_ _=>?_
   ·skip
    refine az 0 rfl aq ap ?_;refine az 1 rfl aq ap ?_;refine az 2 rfl aq ap ?_;refine az 3 rfl aq ap ?_;refine az 4 rfl aq ap ?_;refine ck 5 aq (kI 5 (us:=[]) (vs:=[.agg #[.bool v.bD,.int .i64 v.n]]) (xs:=[.pointer (some ⟨p5,0,none⟩)]) rfl ap (λw hw=>sK hw (k1:=4) (k2:=3) rfl rfl hR v (Yj v (aA hv))) ?_);refine az 6 rfl aq ap ?_;refine ck 7 aq (o_ 7 7 (j:=e*2) rfl rfl (by rw[ct eB,kX];omega) ap ?_);refine eF aq ?_;simp only[cn,bS];rw[<-hvC,jy eB (by rw[kX];exact iK),Gw];exact dN () trivial aw ap
   refine aO ?_;exact bC (e+1) iK ag aw ag2
  obtain rfl:x.args.length=e:=by have:=of_decide_eq_false h2;omega
  have cP:eN gA x.args.length x.args=x.args.map (o6 ν bl P b k):=by
   rw[rL,hgA];apply cf;intro i;rw[cM,aK]
  rw[cP];refine aI ?_;obtain⟨y,hy⟩:∃y,y=rH ν bl P b k x:=⟨_,rfl⟩;have um:y.dst=if 0<=x.dst then ν b ((a8 bl b).aL.length+k)else x.dst:=by rw[hy];rfl
  have hft:=uf hx;refine aN (λh6=>?_) (λh6=>?_);have Y4:0<=x.dst:=by simpa using h6
  have Ze:=(PQ.dst Y4).2;obtain⟨d,hd⟩:∃d:Nat,x.dst=d:=⟨x.dst.toNat,ag⟩;have hM1:M (k+1)=M k+1:=by rw[hM];simp only;rw[hft,if_pos Y4];rfl
  rw[if_pos Y4,XH]at um;have Dc:(dW R (nm ν bl P b k)).set d ⟨true,ν b ((a8 bl b).aL.length+k)⟩=dW R (nm ν bl P b (k+1)):=Ha λr hr=>by
   rw[zX hg dS Km (x:=x) (by rw[RU];exact hx),hd]
  rw[XH]at Dc;have my:((dW R (nm ν bl P b k)).flatMap df).take (d*2)++[Value.bool true,.int .i64 ((M k:Nat):Int)]++((dW R (nm ν bl P b k)).flatMap df).drop (d*2+2)=(dW R (nm ν bl P b (k+1))).flatMap df:=by
   rw[show[Value.bool true,.int .i64 ((M k:Nat):Int)]=df ⟨true,M k⟩from rfl,jy eB (by rw[gi];omega),Dc]
  refine eW 2 rfl ag λyb yo E8=>?_;have hlR:bZ d R:=⟨ag⟩;rw[hd]at Ze⊢;rw[E8];refine aU ?_;refine bj (H1:=[lA q pf (.slice aa an ac) (.slice ka kn kc) (M k)]++(aj oH [.int .i64 x.op,.int .i64 (d:Int),.bool A.bD,.int .i64 A.n,.bool A2.bD,.int .i64 A2.n,.int .i64 x.fn,.slice ea x.args.length ec] 56::ai (some ⟨yb,yo,none⟩) R mc 41 2 ((dW R (nm ν bl P b k)).flatMap df)::aj p5 [.slice (some ⟨yb,yo,none⟩) R mc] 47::ai (some ⟨vb,vo,none⟩) n c 46 6 (bs.flatMap bg)::ai (some ⟨zb,zo,none⟩) xs.length lc 56 8 ((eN (vJ ν bl P b) k xs).flatMap eE)::ai ea x.args.length ec 41 2 ((x.args.map (o6 ν bl P b k)).flatMap df)::(OT++(ai qa ps.length qc 49 2 ((ps.mapIdx (ze ν b)).flatMap ci)::nE (⟨qa,qc,ps,some ⟨zb,zo,none⟩,lc,xs,kd,on,ta,tc,to⟩:aR)::(ps.map e7++(bs.eraseIdx b).map b_))))) (List.Perm.swap _ _ _) ?_;refine fH (val:=λ_:Unit=>.agg #[.bool true,.int .i64 ((M k:Nat):Int)]) (E:=λ_=>[lA q pf (.slice aa an ac) (.slice ka kn kc) (M k+1)]) (φ:=λ_=>True) rfl (λw hw=>FO q pf _ _ (M k) (by have:=aag k;omega) w hw.pre) λ_ _=>?_;simp only[a6,aT]
  repeat(first|refine aI ?_|refine dX λ_ _=>?_)
  refine kT 3 (j:=d*2) rfl rfl (by rw[ct eB,gi];omega) ?_;simp only[cn,bS];rw[my];refine aI ?_;rename_i VV _;rw[<-E8];refine jp (L':=[(11,.int .i64 k),(12,.pointer (some ⟨oH,0,none⟩)),(67,.int .i64 k),(65,.slice (some ⟨zb,zo,none⟩) xs.length lc),(66,.int .i64 xs.length),(7,.pointer (some ⟨vb,vo+b*6,none⟩)),(6,.func (.func 110) #[] #[.pointer (some ⟨p5,0,none⟩)]),(5,.pointer (some ⟨p5,0,none⟩)),(0,.pointer (some ⟨q,0,none⟩)),(1,.int .i64 b)]) aw (.refl _) ?_;refine nu (H':=aj oH [.int .i64 x.op,.int .i64 y.dst,.bool A.bD,.int .i64 A.n,.bool A2.bD,.int .i64 A2.n,.int .i64 x.fn,.slice ea x.args.length ec] 56::lA q pf (.slice aa an ac) (.slice ka kn kc) (M (k+1))::ai ma R mc 41 2 ((dW R (nm ν bl P b (k+1))).flatMap df)::aj p5 [.slice ma R mc] 47::ai (some ⟨vb,vo,none⟩) n c 46 6 (bs.flatMap bg)::ai (some ⟨zb,zo,none⟩) xs.length lc 56 8 ((eN (vJ ν bl P b) k xs).flatMap eE)::ai ea x.args.length ec 41 2 ((x.args.map (o6 ν bl P b k)).flatMap df)::(OT++(ai qa ps.length qc 49 2 ((ps.mapIdx (ze ν b)).flatMap ci)::nE (⟨qa,qc,ps,some ⟨zb,zo,none⟩,lc,xs,kd,on,ta,tc,to⟩:aR)::(ps.map e7++(bs.eraseIdx b).map b_)))) (λw hw=>?_) ?_
  ·rw[hM1,um]
   refine hw.pick ⟨[aj VV [.bool true,.int .i64 ((M k:Nat):Int)] 41],aJ.2 λe=>?_⟩;simp only[bu,bi,cd];omega
  rotate_left;have Y4:¬0<=x.dst:=by simpa using h6
  have hM1:M (k+1)=M k:=by rw[hM];simp only;rw[hft,if_neg Y4];rfl
  rw[if_neg Y4]at um;have Dc:dW R (nm ν bl P b k)=dW R (nm ν bl P b (k+1)):=BH λr hr=>by
   rw[zX hg dS Km (x:=x) (by rw[RU];exact hx),if_neg ag]
  refine aO ?_;refine jp (L':=[(11,.int .i64 k),(12,.pointer (some ⟨oH,0,none⟩)),(67,.int .i64 k),(65,.slice (some ⟨zb,zo,none⟩) xs.length lc),(66,.int .i64 xs.length),(7,.pointer (some ⟨vb,vo+b*6,none⟩)),(6,.func (.func 110) #[] #[.pointer (some ⟨p5,0,none⟩)]),(5,.pointer (some ⟨p5,0,none⟩)),(0,.pointer (some ⟨q,0,none⟩)),(1,.int .i64 b)]) aw (.refl _) ?_;refine nu (H':=aj oH [.int .i64 x.op,.int .i64 y.dst,.bool A.bD,.int .i64 A.n,.bool A2.bD,.int .i64 A2.n,.int .i64 x.fn,.slice ea x.args.length ec] 56::lA q pf (.slice aa an ac) (.slice ka kn kc) (M (k+1))::ai ma R mc 41 2 ((dW R (nm ν bl P b (k+1))).flatMap df)::aj p5 [.slice ma R mc] 47::ai (some ⟨vb,vo,none⟩) n c 46 6 (bs.flatMap bg)::ai (some ⟨zb,zo,none⟩) xs.length lc 56 8 ((eN (vJ ν bl P b) k xs).flatMap eE)::ai ea x.args.length ec 41 2 ((x.args.map (o6 ν bl P b k)).flatMap df)::(OT++(ai qa ps.length qc 49 2 ((ps.mapIdx (ze ν b)).flatMap ci)::nE (⟨qa,qc,ps,some ⟨zb,zo,none⟩,lc,xs,kd,on,ta,tc,to⟩:aR)::(ps.map e7++(bs.eraseIdx b).map b_)))) (λw hw=>by rw[hM1,um,<-Dc];exact hw) ?_
  all_goals
   skip
   have fK:[Value.int .i64 x.op,.int .i64 y.dst,.bool A.bD,.int .i64 A.n,.bool A2.bD,.int .i64 A2.n,.int .i64 x.fn,.slice ea x.args.length ec]=eE (vJ ν bl P b k ⟨x,ea,ec⟩):=by
    rw[hA,Wz,hy];unfold eE vJ rH;simp only[aG]
   skip
   refine dR [aj oH [.int .i64 x.op,.int .i64 y.dst,.bool A.bD,.int .i64 A.n,.bool A2.bD,.int .i64 A2.n,.int .i64 x.fn,.slice ea x.args.length ec] 56,ai (some ⟨vb,vo,none⟩) n c 46 6 (bs.flatMap bg)] (λ_:Unit=>True) (λ_=>[(67,.int .i64 k),(65,.slice (some ⟨zb,zo,none⟩) xs.length lc),(66,.int .i64 xs.length),(7,.pointer (some ⟨vb,vo+b*6,none⟩)),(6,.func (.func 110) #[] #[.pointer (some ⟨p5,0,none⟩)]),(5,.pointer (some ⟨p5,0,none⟩)),(0,.pointer (some ⟨q,0,none⟩)),(1,.int .i64 b)]) (λ_=>lA q pf (.slice aa an ac) (.slice ka kn kc) (M (k+1))::ai ma R mc 41 2 ((dW R (nm ν bl P b (k+1))).flatMap df)::aj p5 [.slice ma R mc] 47::ai (some ⟨vb,vo,none⟩) n c 46 6 (bs.flatMap bg)::ai (some ⟨zb,zo,none⟩) xs.length lc 56 8 ((eN (vJ ν bl P b) (k+1) xs).flatMap eE)::ai ea x.args.length ec 41 2 ((x.args.map (o6 ν bl P b k)).flatMap df)::(OT++(ai qa ps.length qc 49 2 ((ps.mapIdx (ze ν b)).flatMap ci)::nE (⟨qa,qc,ps,some ⟨zb,zo,none⟩,lc,xs,kd,on,ta,tc,to⟩:aR)::(ps.map e7++(bs.eraseIdx b).map b_)))) mixed ap ?_ λ_ _=>?_
   ·skip
    refine az 0 rfl aq ap ?_;refine az 1 rfl aq ap ?_;refine az 2 rfl aq ap ?_;refine az 3 rfl aq ap ?_;refine az 4 rfl aq ap ?_;refine az 5 rfl aq ap ?_;refine az 6 rfl aq ap ?_;refine ck 7 aq (o_ 7 5 (j:=k*8) rfl rfl (by rw[ct jj,kX];omega) ap ?_);refine eF aq ?_;simp only[cn,bS];rw[fK,jy jj (by rw[kX];exact xz),qe];exact dN () trivial aw ap
   refine aO ?_;refine bj (H1:=lA q pf (.slice aa an ac) (.slice ka kn kc) (M (k+1))::ai ma R mc 41 2 ((dW R (nm ν bl P b (k+1))).flatMap df)::aj p5 [.slice ma R mc] 47::ai (some ⟨vb,vo,none⟩) n c 46 6 (bs.flatMap bg)::ai (some ⟨zb,zo,none⟩) xs.length lc 56 8 ((eN (vJ ν bl P b) (k+1) xs).flatMap eE)::((eN (vJ ν bl P b) (k+1) xs).map jo++(ai qa ps.length qc 49 2 ((ps.mapIdx (ze ν b)).flatMap ci)::nE (⟨qa,qc,ps,some ⟨zb,zo,none⟩,lc,xs,kd,on,ta,tc,to⟩:aR)::(ps.map e7++(bs.eraseIdx b).map b_)))) (aJ.2 λe=>?_) ?_
   ·have h7:(eN (vJ ν bl P b) (k+1) xs)[k]?=some (vJ ν bl P b k ⟨x,ea,ec⟩):=by rw[nH hu,if_pos ag]
    have h3:=aJ.1 (iB jo h7) e;have h8:(eN (vJ ν bl P b) (k+1) xs).eraseIdx k=(eN (vJ ν bl P b) k xs).eraseIdx k:=by rw[<-qe,oL]
    have h4:jo (vJ ν bl P b k ⟨x,ea,ec⟩)=ai ea x.args.length ec 41 2 ((x.args.map (o6 ν bl P b k)).flatMap df):=by unfold jo vJ rH;simp only[aG]
    rw[h8,<-Iv,h4]at h3;simp only[bu,bi]at h3⊢;omega
   exact bC (k+1) xz ag aw ag2
 obtain rfl:xs.length=k:=by have:=of_decide_eq_false h1;omega
 rw[rL];have agn:∀Y,gj (ai (some ⟨vb,vo,none⟩) n c 46 6 (bs.flatMap bg)::Y) vb (vo+b*6+3) [.bool on.bD,.int .i64 on.n]:=λ_=>⟨λ_ _ w hw j v hj=>by
  have h3:=hw.cK (k:=0) rfl (j4 (3+j) v (by match j,hj with|0,hj=>exact hj|1,hj=>exact hj));rwa[show vo+(b*6+(3+j))=vo+b*6+3+j by omega]at h3⟩
 refine aI ?_;obtain⟨O,hO⟩:∃O,O=o6 ν bl P b xs.length on:=⟨_,rfl⟩;refine kD (us:=[]) (vs:=[.agg #[.bool on.bD,.int .i64 on.n]]) (xs:=[.pointer (some ⟨p5,0,none⟩)]) rfl (λw hw=>sK hw (k1:=2) (k2:=1) rfl rfl hR on (by rw[XL];exact F3.on)) ?_;rw[<-hO];refine aU ?_;obtain⟨T',OA⟩:∃T',T'=G_ ν bl P b (⟨qa,qc,ps,la,lc,xs,kd,on,ta,tc,to⟩:aR):=⟨_,rfl⟩;have hxB:xs.length=(a8 bl b).list.length:=by rw[TJ,RU]
 have aaj:((bg (⟨qa,qc,ps,la,lc,xs,kd,on,ta,tc,to⟩:aR)).set 3 (.bool O.bD)).set 4 (.int .i64 O.n)=bg T':=by
  rw[OA,hO,hxB];unfold G_ bg;simp only[kh,cn,bS]
 have my:(bs.flatMap bg).take (b*6+3)++[Value.bool O.bD,.int .i64 O.n]++(bs.flatMap bg).drop (b*6+3+2)=(bs.set b T').flatMap bg:=by
  rw[K2 (by rw[ct dC];omega)];have h3:=gh dC hT (k:=3) (v:=.bool O.bD) ag (y:=(⟨qa,qc,ps,la,lc,xs,kd,⟨O.bD,on.n⟩,ta,tc,to⟩:aR)) rfl;have h4:=gh dC (l:=bs.set b (⟨qa,qc,ps,la,lc,xs,kd,⟨O.bD,on.n⟩,ta,tc,to⟩:aR)) (i:=b) (k:=4) (v:=.int .i64 O.n) (ey ag) ag (y:=T') (by rw[<-aaj];rfl);rw[h3,dA,h4,List.set_set]
 refine kT 3 (j:=b*6+3) rfl ag (by rw[ct dC];omega) ?_;simp only[cn,bS];rw[my];have ago:∀Y,fe (ai (some ⟨vb,vo,none⟩) n c 46 6 ((bs.set b T').flatMap bg)::Y) vb (vo+b*6+5) (.slice ta to.length tc):=λ_=>⟨λ_ _ _ hw=>by
  have h3:=hw.cK (k:=0) rfl (fy dC (bs.set b T') b T' 5 (.slice ta to.length tc) (ey ag) (by rw[<-aaj];rfl));rw[<-dA]at h3;exact h3⟩
 refine aO ?_;obtain⟨kb,Ei⟩:∃kb,kb=xs.length:=⟨_,rfl⟩;have hMx:M xs.length=P+fC bl (V++[b]):=by
  rw[An,FB,RU,hM,TJ];simp only[cO];unfold qF;omega
 refine nu (H':=[lA q pf (.slice aa an ac) (.slice ka kn kc) (P+fC bl (V++[b])),ai ma R mc 41 2 ((dW R (nm ν bl P b kb)).flatMap df),aj p5 [.slice ma R mc] 47]++ff (some ⟨vb,vo,none⟩) c (bs.set b T')) (λw hw=>?_) ?_
 ·rw[hMx,<-Ei]at hw
  have h4:Wd S wz ([lA q pf (.slice aa an ac) (.slice ka kn kc) (P+fC bl (V++[b])),ai ma R mc 41 2 ((dW R (nm ν bl P b kb)).flatMap df),aj p5 [.slice ma R mc] 47]++(ai (some ⟨vb,vo,none⟩) bs.length c 46 6 ((bs.set b T').flatMap bg)::(jb T'++(bs.eraseIdx b).map b_))) w:=by
   have e1:jb T'=ai qa ps.length qc 49 2 ((ps.mapIdx (ze ν b)).flatMap ci)::ai la xs.length lc 56 8 ((xs.mapIdx (vJ ν bl P b)).flatMap eE)::nE (⟨qa,qc,ps,la,lc,xs,kd,on,ta,tc,to⟩:aR)::(ps.map e7++(xs.mapIdx (vJ ν bl P b)).map jo):=by
    rw[OA];unfold jb G_ nE;simp only[kh];rw[y_ (g:=ze ν b) e7 (λ_ _=>rfl)]
   rw[e1,Gb,Ei];rw[Ei]at hw;refine hw.perm (aJ.2 λe=>?_);simp only[bu,bi,cd];omega
  exact RO hT h4
 have hy0:(bs.set b T').map aR.eo=Cf ν bl P (mQ bl V b (to.take 0)):=by
  rw[eh,Zb];exact Ld hB (by rw[OA];exact Rf hB hbV Vb) λc D hc=>MF hc D
 have abT:∀Q∈bs.set b T',Q.Bd:=λQ hQ=>by
  rcases jM hQ with hQ|rfl
  ·exact sI Q hQ
  ·rw[OA]
   refine⟨yX.kind,Cp b _ on (by rw[XL];exact F3.on) yX.on,by unfold G_;simp only[kh];exact yX.aL,λp hp=>?_,by unfold G_;simp only[kh];exact yX.list,λu hu=>?_,yX.to⟩
   ·obtain⟨i,hi⟩:=br hp
    unfold G_ at hi;simp only[cM]at hi;obtain⟨p0,Tr,rfl⟩:=cT.1 hi;have h5:=yX.jW p0 (aA Tr);have h6:ν b i=((P+fC bl V+i:Nat):Int):=by rw[hnu,RU,KT (by rw[<-XS];exact(aC.1 Tr).1)]
    refine⟨?_,h5.2⟩;show c9 (ν b i);rw[h6];have:=(aC.1 Tr).1;exact⟨ag,ag⟩
   ·obtain⟨i,hi⟩:=br hu
    unfold G_ at hi;simp only[cM]at hi;obtain⟨u0,hu0,rfl⟩:=cT.1 hi;obtain⟨⟨g1,g2,g3,g4,g5⟩,g6,g7⟩:=yX.ins u0 (aA hu0);have oZ:u0.x∈B.list:=by rw[<-Tl];exact aX.2 ⟨u0,aA hu0,rfl⟩
    have PQ:=F3.list u0.x oZ;refine⟨⟨g1,?_,Cp _ _ _ PQ.a g3,Cp _ _ _ PQ.b g4,g5⟩,by unfold vJ rH;simp only[aG];exact g6,λv hv=>?_⟩
    ·show c9 (if 0<=u0.x.dst then ν b ((a8 bl b).aL.length+i)else u0.x.dst)
     split
     ·rw[XH]
      have:=aag i;exact⟨ag,ag⟩
     ·exact g2
    ·unfold vJ rH at hv
     simp only at hv;obtain⟨v0,xY,rfl⟩:=aX.1 hv;exact Cp _ _ _ (PQ.args v0 xY) (g7 v0 xY)
 have abU:∃Q,(bs.set b T')[b]?=some Q/\Q.ta=ta/\Q.tc=tc/\Q.to=to:=⟨T',ey ag,by rw[OA];exact⟨rfl,rfl,rfl⟩⟩;have agN:to.length<=1000:=yX.to.1;refine bP (λx:Nat×List aR=>x.1<=to.length/\x.2.map aR.eo=Cf ν bl P (mQ bl V b (to.take x.1))/\(∀Q∈x.2,Q.Bd)/\∃Q,x.2[b]?=some Q/\Q.ta=ta/\Q.tc=tc/\Q.to=to) (λx=>[(136,.int .i64 x.1),(134,.slice ta to.length tc),(135,.int .i64 to.length),(7,.pointer (some ⟨vb,vo+b*6,none⟩)),(6,.func (.func 110) #[] #[.pointer (some ⟨p5,0,none⟩)]),(5,.pointer (some ⟨p5,0,none⟩)),(0,.pointer (some ⟨q,0,none⟩)),(1,.int .i64 b)]) (λx=>[lA q pf (.slice aa an ac) (.slice ka kn kc) (P+fC bl (V++[b])),ai ma R mc 41 2 ((dW R (nm ν bl P b kb)).flatMap df),aj p5 [.slice ma R mc] 47]++ff (some ⟨vb,vo,none⟩) c x.2) (λx=>to.length-x.1) (0,bs.set b T') ⟨aY _,hy0,abT,abU⟩ (aV aw ag2) λx ⟨hj,vH,um,hyr⟩=>?_;clear hy0 abT abU my;obtain⟨j,ys⟩:=x;simp only at hj vH um hyr⊢;have IR:ys.length=n:=by
  have h3:=congrArg List.length vH;rw[aG,xy]at h3;omega
 refine aU ?_;refine aN (λh1=>?_) (λh1=>?_)
 ·have jE:j<to.length:=by simpa using h1
  obtain⟨t0,Kt⟩:∃t,to[j]?=some t:=⟨_,aB jE⟩;have abG:=aA Kt;obtain⟨ht1,NG⟩:=(hg B (aA hB)).2 t0 (by rw[<-IQ];exact abG);obtain⟨t,rfl⟩:∃t:Nat,t0=t:=⟨t0.toNat,ag⟩;have sN:t<bl.length:=ag;have A9:to.take (j+1)=to.take j++[(t:Int)]:=by rw[cj,Kt];rfl
  have VA:(t:Int)∉to.take j:=λh=>by
   have h3:(to.take j++[(t:Int)]).Nodup:=by rw[<-A9,IQ];exact Is.to.sublist (List.take_sublist _ _)
   exact(nN.1 h3).2.2 _ h _ aH rfl
  obtain⟨C,hC⟩:∃C,bl[t]?=some C:=⟨_,aB sN⟩;have hbt:b∈bf bl t:=by
   unfold bf;rw[cI,decide_eq_true_eq,fR hB,<-IQ];exact⟨cQ.2 hb,abG⟩
  obtain⟨K,hKD⟩:∃K,K=(bf bl t).idxOf b:=⟨_,rfl⟩;have hKl:K<(bf bl t).length:=by rw[hKD];exact ju hbt
  have hK:(bf bl t)[K]?=some b:=by rw[aB hKl];simp only[hKD];rw[nL]
  have hKu:∀j',(bf bl t)[j']?=some b->j'=K:=λj' h=>by
   have Gr:(bf bl t).Nodup:=List.nodup_range.filter _;have h3:=(aC.1 h);have h4:=(aC.1 hK);exact(List.getElem_inj Gr).1 (h3.2.trans h4.2.symm)
  obtain⟨Q,hQ,hQa,hQc,hQt⟩:=id hyr;obtain⟨U,hU⟩:∃U,ys[t]?=some U:=⟨_,aB ag⟩;have S8:=um U (aA hU);have hUB:U.eo=pZ ν bl P (mQ bl V b (to.take j)) t C:=by
   have h3:(ys.map aR.eo)[t]?=some U.eo:=by rw[aK,hU];rfl
   rw[vH,xw hC]at h3;exact(be h3).symm
  refine nQ λw4 hw4=>?_;have Xu:nf wz (bX (cF [lA q pf (.slice aa an ac) (.slice ka kn kc) (P+fC bl (V++[b])),ai ma R mc 41 2 ((dW R (nm ν bl P b kb)).flatMap df),aj p5 [.slice ma R mc] 47]) w4):=fv.le hw4;have abI:aM (bX (cF [lA q pf (.slice aa an ac) (.slice ka kn kc) (P+fC bl (V++[b])),ai ma R mc 41 2 ((dW R (nm ν bl P b kb)).flatMap df),aj p5 [.slice ma R mc] 47]) w4) (.slice ta to.length tc) 1 to fj:=by
   have h3:=aci hw4.jN (B:=Q) (cJ _ (aX.2 ⟨Q,aA hQ,rfl⟩)) (um Q (aA hQ));rw[hQa,hQc,hQt]at h3;exact h3
  have hcU:bG (bX (cF [lA q pf (.slice aa an ac) (.slice ka kn kc) (P+fC bl (V++[b])),ai ma R mc 41 2 ((dW R (nm ν bl P b kb)).flatMap df),aj p5 [.slice ma R mc] 47]) w4) vb (vo+t*6) (bg U):=λj v hj=>by
   have h3:=hw4.jN.cK (k:=0) rfl (fy dC ys t U j v hU hj);rw[<-dA]at h3;exact h3
  have WQ:=LV.le tD Xu;have Xh:=bG.le Xu oY;have ZK:∀{E:List bN} {w:World},Wd (cF [lA q pf (.slice aa an ac) (.slice ka kn kc) (P+fC bl (V++[b])),ai ma R mc 41 2 ((dW R (nm ν bl P b kb)).flatMap df),aj p5 [.slice ma R mc] 47]) (bX (cF [lA q pf (.slice aa an ac) (.slice ka kn kc) (P+fC bl (V++[b])),ai ma R mc 41 2 ((dW R (nm ν bl P b kb)).flatMap df),aj p5 [.slice ma R mc] 47]) w4) E w->Wd S wz (E++ff (some ⟨vb,vo,none⟩) c ys) w:=λhw=>hw4.comp hw.mG;have aaX:∀{E:List bN} {w:World},Wd (cF [lA q pf (.slice aa an ac) (.slice ka kn kc) (P+fC bl (V++[b])),ai ma R mc 41 2 ((dW R (nm ν bl P b kb)).flatMap df),aj p5 [.slice ma R mc] 47]) (bX (cF [lA q pf (.slice aa an ac) (.slice ka kn kc) (P+fC bl (V++[b])),ai ma R mc 41 2 ((dW R (nm ν bl P b kb)).flatMap df),aj p5 [.slice ma R mc] 47]) w4) E w->nf (bX (cF [lA q pf (.slice aa an ac) (.slice ka kn kc) (P+fC bl (V++[b])),ai ma R mc 41 2 ((dW R (nm ν bl P b kb)).flatMap df),aj p5 [.slice ma R mc] 47]) w4) w:=λhw=>hw.pH;have y6:∀{bb oo:Nat} {v:Value} {l:List Value},bG (bX (cF [lA q pf (.slice aa an ac) (.slice ka kn kc) (P+fC bl (V++[b])),ai ma R mc 41 2 ((dW R (nm ν bl P b kb)).flatMap df),aj p5 [.slice ma R mc] 47]) w4) bb oo (v::l)->eI (cF [lA q pf (.slice aa an ac) (.slice ka kn kc) (P+fC bl (V++[b])),ai ma R mc 41 2 ((dW R (nm ν bl P b kb)).flatMap df),aj p5 [.slice ma R mc] 47]) bb:=λhc=>iu hc aH;generalize bX (cF [lA q pf (.slice aa an ac) (.slice ka kn kc) (P+fC bl (V++[b])),ai ma R mc 41 2 ((dW R (nm ν bl P b kb)).flatMap df),aj p5 [.slice ma R mc] 47]) w4=wk4 at*;generalize cF [lA q pf (.slice aa an ac) (.slice ka kn kc) (P+fC bl (V++[b])),ai ma R mc 41 2 ((dW R (nm ν bl P b kb)).flatMap df),aj p5 [.slice ma R mc] 47]=S4 at*;obtain⟨F7,_⟩:=WQ.at;have B8:(bm bl).length=bl.length:=by unfold bm;rw[fM]
  have fK:=gm hg (λb B hB=>(hI.ok.block b B hB).to) sN;obtain⟨b1,o1,LR,C8,zq⟩:=f_ abI y6 (λ_ _ h=>⟨_,_,h.1⟩) (aW Kt);obtain⟨_,L2,rfl,_⟩:=zq j _ Kt;obtain⟨b2,o2,uL,tl,Cn⟩:=f_ WQ y6 (λ_ _ h=>by obtain⟨_,e,_⟩:=h;exact⟨_,_,e⟩) (aW fK);obtain⟨_,vC,rv,rfl,y8⟩:=Cn t _ fK;have agK:=y8;obtain⟨ra,rn,rc,_,_,rfl,_⟩:=id y8;have aaC:a_ wk4 vb (vo+t*6) (bg U):=⟨hcU⟩;have abe:=y6 hcU;simp only[bg]at aaC;have aaD:a_ wk4 pf 0 [.string xn,.int .i64 xp,.int .i64 xr,.slice (some ⟨vb,vo,none⟩) n c]:=⟨Xh⟩;have abf:=y6 Xh;have adP:bZ j to.length:=⟨jE⟩;have agd:bZ t n:=⟨ag⟩;have aga:bZ t an:=⟨ag⟩;unfold lA;refine aO ?_;refine bI rfl (λw hw=>zU _ (bf bl t) b w hbt (y8.le lz (aaX hw))) ?_;rw[<-hKD];refine aO ?_;refine nY ZK ?_;clear L2 C8 zq vC tl Cn aaC abe aaD abf y6 aaX abI hcU WQ Xh y8 Xu LR uL;obtain⟨va,vc,us,Lg,Lh,EW,Le,Li,Lk,Ll,Lm⟩:=U;have agQ:us.length<=1000:=S8.aL;have Y6:∀p∈C.aL,K<p.src.length:=λp hp=>by rw[((hI.ok.block t C hC).aL p hp).len];exact hKl
  have hwl:us.length=C.aL.length:=by
   have h8:=congrArg (λx:ar=>x.aL.length) hUB;simp only[aR.eo,aG]at h8;rw[h8];show(C.aL.mapIdx _).length=_;rw[kh]
  have Gs:∀(i:Nat) p,us[i]?=some p->∃v,p.l[K]?=some v/\ik R v:=λi p hp=>by
   obtain⟨cp,EZ⟩:∃p,C.aL[i]?=some p:=⟨_,aB (by have:=(aC.1 hp).1;omega)⟩;have hpq:(pZ ν bl P (mQ bl V b (to.take j)) t C).aL[i]?=some p.jW:=by
    rw[<-hUB];show(us.map cG.jW)[i]?=_;rw[aK,hp]
    rfl
   obtain⟨v,hv1,Cd,_,_⟩:=GV EZ hbV VA hK hKu hpq (Y6 cp (aA EZ));exact⟨v,Cd,((hI.bD C (aA hC)).aL cp (aA EZ)).2 v (aA hv1)⟩
  refine nu (H':=[lA q pf (.slice aa an ac) (.slice ka kn kc) (P+fC bl (V++[b])),ai ma R mc 41 2 ((dW R (nm ν bl P b kb)).flatMap df),aj p5 [.slice ma R mc] 47]++(ai (some ⟨vb,vo,none⟩) ys.length c 46 6 (ys.flatMap bg)::ai va us.length vc 49 2 (us.flatMap ci)::tx (⟨va,vc,us,Lg,Lh,EW,Le,Li,Lk,Ll,Lm⟩:aR)::nE (⟨va,vc,us,Lg,Lh,EW,Le,Li,Lk,Ll,Lm⟩:aR)::(us.map e7++(EW.map jo++(ys.eraseIdx t).map b_)))) (λw hw=>B0 hU (X:=[lA q pf (.slice aa an ac) (.slice ka kn kc) (P+fC bl (V++[b])),ai ma R mc 41 2 ((dW R (nm ν bl P b kb)).flatMap df),aj p5 [.slice ma R mc] 47]) hw) ?_;simp only[a6,aT];obtain⟨gE,hgE⟩:∃gE,gE=N_ ν bl P b K:=⟨_,rfl⟩;refine bP (λi:Nat=>i<=us.length) (λi=>[(161,.int .i64 i),(159,.slice va us.length vc),(160,.int .i64 us.length),(18,.int .i64 K),(136,.int .i64 j),(134,.slice ta to.length tc),(135,.int .i64 to.length),(7,.pointer (some ⟨vb,vo+b*6,none⟩)),(6,.func (.func 110) #[] #[.pointer (some ⟨p5,0,none⟩)]),(5,.pointer (some ⟨p5,0,none⟩)),(0,.pointer (some ⟨q,0,none⟩)),(1,.int .i64 b)])
   (λi=>lA q pf (.slice aa an ac) (.slice ka kn kc) (P+fC bl (V++[b]))::ai ma R mc 41 2 ((dW R (nm ν bl P b kb)).flatMap df)::aj p5 [.slice ma R mc] 47::ai (some ⟨vb,vo,none⟩) ys.length c 46 6 (ys.flatMap bg)::ai va us.length vc 49 2 (us.flatMap ci)::((eN gE i us).map e7++(tx (⟨va,vc,us,Lg,Lh,EW,Le,Li,Lk,Ll,Lm⟩:aR)::nE (⟨va,vc,us,Lg,Lh,EW,Le,Li,Lk,Ll,Lm⟩:aR)::(EW.map jo++(ys.eraseIdx t).map b_)))) (λi=>us.length-i) 0 (aY _) (bj (aJ.2 λe=>by rw[sF];unfold lA;simp only[bu,bi];omega) (aV aw ag2)) λi hi=>?_
  refine aU ?_;refine aN (λh2=>?_) (λh2=>?_)
  ·have iQ:i<us.length:=by simpa using h2
   obtain⟨p,hp⟩:∃p,us[i]?=some p:=⟨_,aB iQ⟩;have jS:=xu (g:=gE) hp;have qe:=uG (g:=gE) hp;obtain⟨v,Cd,zA⟩:=Gs i p hp;have hpB:=S8.jW p (aA hp);have Xk:gE i p=⟨p.dst,p.a,p.c,p.l.set K (o6 ν bl P b kb v)⟩:=by
    have h3:p.l.getD K gK=v:=by
     have h4:p.l[K]?=some v:=Cd;rw[cz,h4]
     rfl
    rw[hgE];unfold N_;rw[h3,Ei,hxB]
   obtain⟨pd,pa,pc,pl⟩:=p;have hv4:pl[K]?=some v:=Cd;have aab:K<pl.length:=(aC.1 hv4).1;have agB:pl.length<=1000:=hpB.2.1;simp only at Xk;obtain⟨OT,Iv⟩:∃OT,OT=((eN gE i us).eraseIdx i).map e7:=⟨_,rfl⟩;have mW:bZ i us.length:=⟨iQ⟩;have hlK:bZ K pl.length:=⟨aab⟩;refine bj (H1:=lA q pf (.slice aa an ac) (.slice ka kn kc) (P+fC bl (V++[b]))::ai ma R mc 41 2 ((dW R (nm ν bl P b kb)).flatMap df)::aj p5 [.slice ma R mc] 47::ai (some ⟨vb,vo,none⟩) ys.length c 46 6 (ys.flatMap bg)::ai va us.length vc 49 2 (us.flatMap ci)::ai pa pl.length pc 41 2 (pl.flatMap df)::(OT++(tx (⟨va,vc,us,Lg,Lh,EW,Le,Li,Lk,Ll,Lm⟩:aR)::nE (⟨va,vc,us,Lg,Lh,EW,Le,Li,Lk,Ll,Lm⟩:aR)::(EW.map jo++(ys.eraseIdx t).map b_)))) (aJ.2 λe=>?_) ?_
   ·have h3:=aJ.1 (iB e7 jS) e
    have h4:e7 (⟨pd,pa,pc,pl⟩:cG)=ai pa pl.length pc 41 2 (pl.flatMap df):=rfl;rw[<-Iv,h4]at h3;simp only[bu,bi]at h3⊢;omega
   refine eW 4 rfl ag λzb zo Es=>?_;subst Es;refine eW 5 rfl ag λyb yo E8=>?_;subst E8;have xA:∀Y,gj (ai (some ⟨zb,zo,none⟩) us.length vc 49 2 (us.flatMap ci)::Y) zb (zo+i*2) _:=λ_=>iT (k:=0) rfl ft hp;simp only[ci]at xA;have Pp:∀Y,gj (ai (some ⟨yb,yo,none⟩) pl.length pc 41 2 (pl.flatMap df)::Y) yb (yo+K*2) _:=λ_=>iT (k:=0) rfl eB hv4;simp only[df]at Pp
   repeat(first|refine aI ?_|refine dX λ_ _=>?_)
   rename_i ym _;obtain⟨X,hX⟩:∃X,X=o6 ν bl P b kb v:=⟨_,rfl⟩;rw[<-hX]at Xk;have hXC:df X=[.bool X.bD,.int .i64 X.n]:=rfl;refine dR [aj ym [.int .i64 pd,.slice (some ⟨yb,yo,none⟩) pl.length pc] 49] (λ_:Unit=>True) (λ_=>[(161,.int .i64 i),(159,.slice (some ⟨zb,zo,none⟩) us.length vc),(160,.int .i64 us.length),(18,.int .i64 K),(136,.int .i64 j),(134,.slice ta to.length tc),(135,.int .i64 to.length),(7,.pointer (some ⟨vb,vo+b*6,none⟩)),(6,.func (.func 110) #[] #[.pointer (some ⟨p5,0,none⟩)]),(5,.pointer (some ⟨p5,0,none⟩)),(0,.pointer (some ⟨q,0,none⟩)),(1,.int .i64 b)]) (λ_=>lA q pf (.slice aa an ac) (.slice ka kn kc) (P+fC bl (V++[b]))::ai ma R mc 41 2 ((dW R (nm ν bl P b kb)).flatMap df)::aj p5 [.slice ma R mc] 47::ai (some ⟨vb,vo,none⟩) ys.length c 46 6 (ys.flatMap bg)::ai (some ⟨zb,zo,none⟩) us.length vc 49 2 (us.flatMap ci)::ai (some ⟨yb,yo,none⟩) pl.length pc 41 2 ((pl.set K X).flatMap df)::(OT++(tx (⟨some ⟨zb,zo,none⟩,vc,us,Lg,Lh,EW,Le,Li,Lk,Ll,Lm⟩:aR)::nE (⟨some ⟨zb,zo,none⟩,vc,us,Lg,Lh,EW,Le,Li,Lk,Ll,Lm⟩:aR)::(EW.map jo++(ys.eraseIdx t).map b_)))) mixed ap ?_ λ_ _=>?_
   ·skip
    refine az 0 rfl aq ap ?_;refine az 1 rfl aq ap ?_;refine az 2 rfl aq ap ?_;refine az 3 rfl aq ap ?_;refine az 4 rfl aq ap ?_;refine az 5 rfl aq ap ?_;refine az 6 rfl aq ap ?_;refine az 7 rfl aq ap ?_;refine ck 8 aq (eY 8 rfl ap ?_);refine ck 9 aq (kI 9 (us:=[]) (vs:=[.agg #[.bool v.bD,.int .i64 v.n]]) (xs:=[.pointer (some ⟨p5,0,none⟩)]) rfl ap (λw hw=>sK hw (k1:=3) (k2:=2) rfl rfl hR v zA) ?_);rw[<-hX];refine az 10 rfl aq ap ?_;refine ck 11 aq (o_ 11 6 (j:=K*2) rfl rfl (by rw[ct eB];omega) ap ?_);refine eF aq ?_;simp only[cn,bS];rw[<-hXC,jy eB aab];exact dN () trivial aw ap
   refine aO ?_;refine bj (H1:=lA q pf (.slice aa an ac) (.slice ka kn kc) (P+fC bl (V++[b]))::ai ma R mc 41 2 ((dW R (nm ν bl P b kb)).flatMap df)::aj p5 [.slice ma R mc] 47::ai (some ⟨vb,vo,none⟩) ys.length c 46 6 (ys.flatMap bg)::ai (some ⟨zb,zo,none⟩) us.length vc 49 2 (us.flatMap ci)::((eN gE (i+1) us).map e7++(tx (⟨some ⟨zb,zo,none⟩,vc,us,Lg,Lh,EW,Le,Li,Lk,Ll,Lm⟩:aR)::nE (⟨some ⟨zb,zo,none⟩,vc,us,Lg,Lh,EW,Le,Li,Lk,Ll,Lm⟩:aR)::(EW.map jo++(ys.eraseIdx t).map b_)))) (aJ.2 λe=>?_) ?_
   ·have h7:(eN gE (i+1) us)[i]?=some (gE i ⟨pd,some ⟨yb,yo,none⟩,pc,pl⟩):=by rw[nH hp,if_pos ag]
    have h3:=aJ.1 (iB e7 h7) e;have h8:(eN gE (i+1) us).eraseIdx i=(eN gE i us).eraseIdx i:=by rw[<-qe,oL]
    have h4:e7 (gE i ⟨pd,some ⟨yb,yo,none⟩,pc,pl⟩)=ai (some ⟨yb,yo,none⟩) pl.length pc 41 2 ((pl.set K X).flatMap df):=by rw[Xk];unfold e7;simp only[eA]
    rw[h8,<-Iv,h4]at h3;simp only[bu,bi]at h3⊢;omega
   exact bC (i+1) iQ ag aw ag2
  obtain rfl:us.length=i:=by have:=of_decide_eq_false h2;omega
  rw[rL,hgE];refine aI ?_;have hrE:gv (⟨va,vc,us,Lg,Lh,EW,Le,Li,Lk,Ll,Lm⟩:aR) (us.mapIdx (N_ ν bl P b K))=M3 ν bl P b K (⟨va,vc,us,Lg,Lh,EW,Le,Li,Lk,Ll,Lm⟩:aR):=rfl;refine nu (H':=[lA q pf (.slice aa an ac) (.slice ka kn kc) (P+fC bl (V++[b])),ai ma R mc 41 2 ((dW R (nm ν bl P b kb)).flatMap df),aj p5 [.slice ma R mc] 47]++ff (some ⟨vb,vo,none⟩) c (ys.set t (M3 ν bl P b K (⟨va,vc,us,Lg,Lh,EW,Le,Li,Lk,Ll,Lm⟩:aR)))) (λw hw=>?_) ?_
  ·rw[<-hrE]
   refine UJ (X:=[lA q pf (.slice aa an ac) (.slice ka kn kc) (P+fC bl (V++[b])),ai ma R mc 41 2 ((dW R (nm ν bl P b kb)).flatMap df),aj p5 [.slice ma R mc] 47]) (ps:=us.mapIdx (N_ ν bl P b K)) (n:=ys.length) hU rfl (by rw[kh]) ?_;rw[D6 (g:=N_ ν bl P b K) ci (λ_ _=>by unfold N_ ci;simp only[eA])];refine hw.perm (aJ.2 λe=>?_);simp only[bu,bi,cd];omega
  refine bC (j+1,ys.set t (M3 ν bl P b K (⟨va,vc,us,Lg,Lh,EW,Le,Li,Lk,Ll,Lm⟩:aR))) ⟨jE,?_,λQ' hQ'=>?_,?_⟩ (by simp only;omega) aw ag2
  ·simp only
   rw[A9,eh,vH];exact Ld hC (Rh hC hbV VA hK hKu hUB Y6) λc D hc=>Qr hc D
  ·rcases jM hQ' with hQ'|rfl
   ·exact um Q' hQ'
   ·refine⟨S8.kind,S8.on,by unfold M3;simp only[kh];exact S8.aL,λp hp=>?_,S8.list,S8.ins,S8.to⟩
    obtain⟨i,hi⟩:=br hp;unfold M3 at hi;simp only[cM]at hi;obtain⟨p0,Tr,rfl⟩:=cT.1 hi;obtain⟨g1,g2,g3⟩:=S8.jW p0 (aA Tr);refine⟨g1,by unfold N_;simp only[eA];exact g2,λv hv=>?_⟩;rcases jM hv with hv|rfl
    ·exact g3 v hv
    ·obtain⟨v,Cd,zA⟩:=Gs i p0 Tr
     rw[show p0.l.getD K gK=v by rw[cz,Cd];rfl];exact Cp _ _ _ zA (g3 v (aA Cd))
  ·by_cases e:b=t
   ·subst e
    rw[hU]at hQ;obtain rfl:=be hQ;exact⟨_,ey ag,hQa,hQc,hQt⟩
   ·exact⟨Q,by rw[eR (λh=>e h.symm)];exact hQ,hQa,hQc,hQt⟩
 obtain rfl:to.length=j:=by have:=of_decide_eq_false h1;omega
 rw[cO,IQ,T1 hB]at vH;clear hyr;obtain⟨kids,Gj⟩:∃kids,kids=mB bl b:=⟨_,rfl⟩;obtain⟨adF,_⟩:=Ej.at;have Vt:((List.range bl.length).map λb=>(mB bl b).map λx:Nat=>(x:Int))[b]?=some (kids.map λx:Nat=>(x:Int)):=by
  rw[aK,eQ hb,Gj]
  rfl
 have VC:∀{bb oo:Nat} {v:Value} {l:List Value},bG wz bb oo (v::l)->eI S bb:=λhc=>fv.RM hc;obtain⟨b2,o2,uL,tl,Cn⟩:=f_ Ej VC (λ_ _ h=>by obtain⟨_,e,_⟩:=h;exact⟨_,_,e⟩) (aW Vt);obtain⟨_,vC,rv,rfl,y8⟩:=Cn b _ Vt;obtain⟨ra,rn,rc,_,_,rfl,zx,_⟩:=id y8;rw[aG]at zx;subst zx;rw[aG,fG]at adF;have agb:bZ b kn:=⟨ag⟩;simp only[a6,aT];unfold lA;refine aI ?_;simp only[<-hν]at ih;obtain⟨VJ,hVJ⟩:∃VJ:Nat->List Nat,VJ=λj=>V++[b]++(kids.take j).flatMap (jG bl f):=⟨_,rfl⟩;have aak:VJ 0=V++[b]:=by rw[hVJ];simp
 have acL:VJ kids.length=V++jG bl (f+1) b:=by rw[hVJ,Em,Gj];simp
 rw[<-aak]at vH;rw[<-aak];have xz:kids.length<=100:=by
  rw[Gj];unfold mB;exact dB (ja _ _) (by rw[fG];omega)
 refine bP (λx:Nat×List aR=>x.1<=kids.length/\x.2.map aR.eo=Cf ν bl P (uw bl (VJ x.1))/\∀Q∈x.2,Q.Bd) (λx=>[(186,.int .i64 x.1),(184,.slice ra kids.length rc),(185,.int .i64 kids.length),(7,.pointer (some ⟨vb,vo+b*6,none⟩)),(6,.func (.func 110) #[] #[.pointer (some ⟨p5,0,none⟩)]),(5,.pointer (some ⟨p5,0,none⟩)),(0,.pointer (some ⟨q,0,none⟩)),(1,.int .i64 b)]) (λx=>lA q pf (.slice aa an ac) (.slice ka kn kc) (P+fC bl (VJ x.1))::ai ma R mc 41 2 ((dW R (nm ν bl P b kb)).flatMap df)::aj p5 [.slice ma R mc] 47::ff (some ⟨vb,vo,none⟩) c x.2) (λx=>kids.length-x.1) (0,ys) ⟨aY _,vH,um⟩ (aV aw (by unfold lA;exact cN _)) λx ⟨hj,Et,PS⟩=>?_;clear vH um;obtain⟨j,zs⟩:=x;simp only at hj Et PS⊢;refine aU ?_;refine aN (λh1=>?_) (λh1=>?_)
 ·have jE:j<kids.length:=by simpa using h1
  obtain⟨y,hy⟩:∃y,kids[j]?=some y:=⟨_,aB jE⟩;have Yr:y∈mB bl b:=by rw[<-Gj];exact aA hy
  have hid:=mA Yr;have Cw:y<bl.length:=by unfold mB at Yr;exact cQ.1 (cI.1 Yr).1
  have hdy:=tm hg dS hid;have hyI:(kids.map λx:Nat=>(x:Int))[j]?=some (y:Int):=by rw[aK,hy];rfl
  obtain⟨b3,o3,Ta,AU,OY⟩:=f_ y8 VC (λ_ _ h=>⟨_,_,h.1⟩) (aW hyI);obtain⟨_,OQ,rfl,_⟩:=OY j _ hyI;have adP:bZ j kids.length:=⟨jE⟩;have hVs:VJ (j+1)=VJ j++jG bl f y:=by
   rw[hVJ];simp only;rw[cj,hy,gO,<-dE];simp
  have abj:qM bl=VJ j++(jG bl f y++((kids.drop (j+1)).flatMap (jG bl f)++W)):=by
   have h3:kids=kids.take j++y::kids.drop (j+1):=by
    rw[<-(aC.1 hy).2,List.getElem_cons_drop,pw]
   have h4:kids.flatMap (jG bl f)=(kids.take j).flatMap (jG bl f)++(jG bl f y++(kids.drop (j+1)).flatMap (jG bl f)):=by
    conv=>lhs;rw[h3]
    rw[gO,gx]
   rw[Kj,<-Gj,h4,hVJ];simp
  refine aO ?_;refine bj (H1:=(lA q pf (.slice aa an ac) (.slice ka kn kc) (P+fC bl (VJ j))::ff (some ⟨vb,vo,none⟩) c zs)++[ai ma R mc 41 2 ((dW R (nm ν bl P b kb)).flatMap df),aj p5 [.slice ma R mc] 47]) (aJ.2 λe=>by simp only[bu,bi,cd];omega) ?_;refine iJ (val:=λ_:List aR=>.tuple #[]) (E:=λx=>lA q pf (.slice aa an ac) (.slice ka kn kc) (P+fC bl (VJ (j+1)))::ff (some ⟨vb,vo,none⟩) c x) (φ:=λx=>x.map aR.eo=Cf ν bl P (uw bl (VJ (j+1)))/\∀B∈x,B.Bd) fv rfl (λCG w' mw Xt jl mz=>?_) λx ⟨oZ,hxd⟩=>?_
  ·have adV:aM CG (.slice ma R mc) 2 (dW R (zM ν bl P y)) l9:=by
    rw[SD Yr,<-hxB,<-Ei];refine jl.nC (k:=0) rfl (by rw[gi]) ag λi x hx=>⟨df x,λj v hj=>fy eB _ i x j v hx hj,rfl,?_⟩;have hi:i<R:=by have:=(aC.1 hx).1;rwa[gi]at this
    rw[tM hi]at hx;rw[<-be hx];have h3:=Cp b kb ⟨true,(i:Int)⟩ (λ_=>⟨by simp only;omega,by simp only;omega⟩) ⟨by simp only;omega,by simp only;omega⟩;exact h3
   have h5:=ih y (VJ j) ((kids.drop (j+1)).flatMap (jG bl f)++W) zs ma R mc (cF (lA q pf (.slice aa an ac) (.slice ka kn kc) (P+fC bl (VJ j))::ff (some ⟨vb,vo,none⟩) c zs)) CG w' (by unfold D3 at hfd⊢;omega) Cw abj Et PS mw (bG.le Xt oY) (LV.le tD Xt) (Ej.le tD Xt) adV mz;rw[<-hVs]at h5;exact h5
  refine bj (H1:=lA q pf (.slice aa an ac) (.slice ka kn kc) (P+fC bl (VJ (j+1)))::ai ma R mc 41 2 ((dW R (nm ν bl P b kb)).flatMap df)::aj p5 [.slice ma R mc] 47::ff (some ⟨vb,vo,none⟩) c x) (aJ.2 λe=>by simp only[bu,bi,cd];omega) ?_;refine aO ?_;exact bC (j+1,x) ⟨jE,oZ,hxd⟩ (by simp only;omega) aw ag2
 obtain rfl:kids.length=j:=by have:=of_decide_eq_false h1;omega
 rw[acL]at Et⊢;refine aI ?_;exact qH rfl λw hw=>⟨zs,rfl,hw.sub (dn (.cons _ (.cons _ (.refl _)))),Et,PS⟩
end
section
open Go Go.RowKit
theorem DD:∀{l:List Nat} {c:Nat},(∀x∈l,x<=c)->l.sum<=l.length*c
 |[],c,_=>by simp
 |x::l,c,h=>by
  have h1:=h x aH;have h2:=DD (l:=l) (c:=c) λy hy=>h y (cJ _ hy);rw[et,ie,Nat.succ_mul];omega
theorem Bq:∀{l m:List Nat},l.Nodup->(∀x∈l,x∈m)->l.length<=m.length
 |[],m,_,_=>aY _
 |x::l,m,hn,hs=>by
  obtain⟨h1,h2⟩:=mh.1 hn;have hx:=hs x aH;have ih:=Bq (l:=l) (m:=m.erase x) h2 λy hy=>by
   have eH:y≠x:=λe=>h1 (e▸hy);exact(List.mem_erase_of_ne eH).2 (hs y (cJ _ hy))
  rw[List.length_erase_of_mem hx]at ih;have:=List.length_pos_of_mem hx;rw[ie];omega
section
variable {X:aZ} {R:Nat}
theorem Rs(h:rN X R)(hm:dV X.blocks<=300):∀b,qF (a8 (fJ X) b)<=1000:=λb=>by
 by_cases hb:b<X.blocks.length
 ·obtain⟨B,hB⟩:∃B,X.blocks[b]?=some B:=⟨_,aB hb⟩
  have h1:B.aL.length+B.list.length<=dV X.blocks:=by
   unfold dV;exact vM (aX.2 ⟨B,aA hB,rfl⟩)
  rw[tI h.all,eD (iq hB)];unfold qF;simp only[bR];have h2:(di X.blocks R b).length<=R:=by
   unfold di;rw[aG];exact dB (ja _ _) (by rw[fG];exact bH _)
  have h3:=ja CF B.list;have h4:=h.all.le;omega
 ·have h1:(fJ X)[b]?=none:=bM (by rw[(jA h.all).2.2.2];omega)
  unfold a8;rw[h1];show qF sP<=1000
  decide
theorem yu(h:rN X R)(hl:X.blocks.length<=40)(hm:dV X.blocks<=300):oG (fJ X) X.params.toNat<=50000:=by
 obtain⟨hg,dS,jq,hlen⟩:=jA h.all;have h1:(qM (fJ X)).length<=(fJ X).length:=by
  have h2:(qM (fJ X)).Nodup:=uB .refl;have h3:=Bq h2 (m:=List.range (fJ X).length) λx hx=>cQ.2 (hg.BC dS (uA .refl hx).2.1);rw[fG]at h3;exact h3
 have h4:=DD (l:=(qM (fJ X)).map λb=>qF (a8 (fJ X) b)) (c:=1000) λx hx=>by
  obtain⟨b,_,rfl⟩:=aX.1 hx;exact Rs h hm b
 rw[aG]at h4;have h5:=h.all.par;have h6:=h.all.le;unfold oG;have h7:(qM (fJ X)).length*1000<=40*1000:=py _ ag;omega
theorem acj(h:rN X R){fs:List aZ}(hb:qD fs X)(hl:X.blocks.length<=40)(hm:dV X.blocks<=300):ZI (fJ X) R X.params.toNat:=by
 obtain⟨hg,dS,jq,hlen⟩:=jA h.all;have hM:=yu h hl hm;have hr:((iP X).aF:Int)=(oG (fJ X) X.params.toNat:Nat):=rfl;refine⟨by rw[tI h.all];exact oS h.all.ok (bH _),dS,ag,yt h,DO h hb,by have:=h.all.le;omega,by unfold fC;unfold oG at hM;omega,λb i v hv hn=>?_⟩;have h1:=sk (ν:=qf (fJ X) X.params.toNat) (bl:=fJ X) (n:=X.params.toNat) (b:=b) (i:=i) (v:=v) λhr=>(hv hr).1
 by_cases R7:(o6 (qf (fJ X) X.params.toNat) (fJ X) X.params.toNat b i v).bD=true
 ·have:=yy h _ (h1 R7)
  exact⟨ag,ag⟩
 ·have R8:(o6 (qf (fJ X) X.params.toNat) (fJ X) X.params.toNat b i v).bD=false:=by simpa using R7
  unfold o6 at R8⊢
  split
  ·rename_i h3
   rw[if_pos h3]at R8;rw[show nm (qf (fJ X) X.params.toNat) (fJ X) X.params.toNat b i v.n=gK from Jf _ _ _ R8];exact⟨by simp[gK],by simp[gK]⟩
  ·exact hn
theorem Uv(h:rN X R){fs:List aZ}(hb:qD fs X)(h0:(a8 X.blocks 0).aL=[])(hl:X.blocks.length<=40)(hm:dV X.blocks<=300):NQ (iP X) (oG (fJ X) X.params.toNat):=by
 have hM:=yu h hl hm;have hB:=BM h hb h0;obtain⟨hg,dS,jq,hlen⟩:=jA h.all;refine⟨rfl,ag,wL rfl (t_.2 hB),by show 0<(pS _ _ _).length;rw[jB];exact dS,?_,λB Ir x hx=>?_⟩
 ·have h1:=(qP h).par
  exact h1
 ·obtain⟨b,wi⟩:=br Ir
  exact⟨fs,hB.list b B wi x hx⟩
theorem YZ(h:rN X R){V:List Nat}(hV:V=qM (fJ X))(ν:Nat->Nat->Int)(n:Nat):Cf ν (fJ X) n (uw (fJ X) V)=pS ν (fJ X) n:=by
 obtain⟨hg,dS,jq,hlen⟩:=jA h.all;have hm:∀c,c<(fJ X).length->c∈V:=λc hc=>by rw[hV];exact KL hg dS (yt h c hc)
 have Xi:eX R (fJ X):=by rw[tI h.all];exact oS h.all.ok (bH _)
 refine UK (λc i B hB _=>hm c (aC.1 hB).1) (λc i j B p hB hp hj=>?_) (λc k B hB _=>hm c (aC.1 hB).1) λc B hB=>hm c (aC.1 hB).1;have h1:=((Xi.block c B hB).aL p (aA hp)).len;have h2:j<(bf (fJ X) c).length:=ag;refine⟨(bf (fJ X) c)[j],aB h2,hm _ ?_⟩;have h3:=jK h2;unfold bf at h3;exact cQ.1 (cI.1 h3).1
end
noncomputable def tw(bl:List ar)(i:Nat):List (List Int):=(List.range bl.length).map λb=>((List.range i).filter λc=>decide (cR bl c=((b:Nat):Int))).map λx:Nat=>(x:Int)
theorem I0(bl:List ar):tw bl 0=List.replicate bl.length []:=by
 unfold tw;apply cf;intro i
 by_cases h:i<bl.length
 ·rw[aK,eQ h,h_,if_pos h];rfl
 ·rw[bM (by simp;omega),bM (by simp;omega)]
theorem Mx(bl:List ar):tw bl bl.length=(List.range bl.length).map λb=>(mB bl b).map λx:Nat=>(x:Int):=rfl
theorem P9{bl:List ar}{i:Nat}(h:cR bl i<0):tw bl (i+1)=tw bl i:=by
 unfold tw;refine fw λb _=>?_;rw[kA,nI];have:([i].filter λc=>decide (cR bl c=((b:Nat):Int)))=[]:=by
  simp only[List.filter_cons,decide_eq_false (show¬cR bl i=((b:Nat):Int) by omega)]
  rfl
 rw[this,cq]
theorem P_{bl:List ar}{i t:Nat}(h:cR bl i=(t:Int)):tw bl (i+1)=(tw bl i).modify t (·++[(i:Int)]):=by
 unfold tw;apply cf;intro b;rw[lG,aK,aK]
 by_cases hb:b<bl.length
 ·rw[eQ hb]
  simp only[bz,Option.map_eq_map];congr 1;rw[kA,nI,bB]
  by_cases e:t=b
  ·subst e
   rw[if_pos rfl];congr 1;rw[List.filter_cons,decide_eq_true h]
   rfl
  ·rw[if_neg e]
   have:([i].filter λc=>decide (cR bl c=((b:Nat):Int)))=[]:=by
    simp only[List.filter_cons,decide_eq_false (show¬cR bl i=((b:Nat):Int) by omega)]
    rfl
   rw[this];simp
 ·rw[bM (by simp;omega)];rfl
end
end Go.Proofs.YthfhgolkafpmnaaGreatDoor
