/- Texts joined: Fit Copy Large Each EachB TwoC ChkP RefU UMem UOpen Lim Slim ZeroP ZeroQ. -/
import Derived.Test.YthfhgolkafpmnaaGreatDoorGC
import Derived.Test.YthfhgolkafpmnaaGreatDoorGD
import Derived.Test.YthfhgolkafpmnaaGreatDoorGF
import Derived.Test.YthfhgolkafpmnaaGreatDoorGG
import Derived.Test.YthfhgolkafpmnaaGreatDoorGH
import Derived.Test.YthfhgolkafpmnaaGreatDoorGM
import Derived.Test.YthfhgolkafpmnaaGreatDoorHA
import Derived.Test.YthfhgolkafpmnaaGreatDoorHD
namespace Go.Proofs.YthfhgolkafpmnaaGreatDoor
section
open Go Go.RowKit
theorem TU{X:aZ}(h:Bf X):∀B∈X.blocks,B.list.length<=1000/\B.aL.length<=1000:=λB hB=>by
 have h1:((B.aL.length+B.list.length:Nat):Int)<=fQ X.blocks:=by
  unfold fQ;generalize X.blocks=l at hB
  induction l with
  |nil=>cases hB
  |cons C l ih=>
   have Pm:∀m:List ar,0<=(m.map λb=>((b.aL.length+b.list.length:Nat):Int)).sum:=λm=>by
    induction m with
    |nil=>simp
    |cons D m ih=>simp only[bO,et];omega
   simp only[bO,et];rcases bJ.1 hB with rfl|hB
   ·have:=Pm l;omega
   ·have:=ih hB;omega
 have:=h.2;omega
structure wm(B:ar):Prop where
 on:c9 B.on.n
 aL:∀q∈B.aL,∀v∈q.src,c9 v.n
 list:∀x∈B.list,c9 x.dst/\c9 x.a.n/\c9 x.b.n/\∀v∈x.args,c9 v.n
theorem TP{u:a7}{R:Nat}{x:en}(hp:∀X∈u.funcs,X.params<=100)(h:dK u.funcs R x=0)(hn:c9 x.dst/\c9 x.a.n/\c9 x.b.n/\∀v∈x.args,c9 v.n):DJ u R x:=by
 have cW:=xZ h;unfold dK at h
 split at h
 ·cases h
 split at h
 ·cases h
 split at h
 ·rename_i h3
  simp only[Bool.and_eq_true,Bool.not_eq_true',decide_eq_false_iff_not]at h3;exact absurd h h3.2
 split at h
 ·rename_i h4;exact absurd h h4
 rename_i h4
 split at h
 ·rename_i h5;exact absurd h h5
 rename_i h5;simp only[ne_eq,Decidable.not_not]at h4 h5;have OP:x.op=20->(∃(k:Nat) (Y:aZ),x.fn=k/\u.funcs[k]?=some Y/\(x.args.length:Int)=Y.params)/\∀v∈x.args,ik R v:=λe=>by
  unfold fY at h;rw[if_neg (by simpa using e)]at h
  split at h
  ·cases h
  rename_i h6
  split at h
  ·cases h
  rename_i h7;simp only[within,Bool.not_eq_true',Bool.and_eq_false_iff,decide_eq_false_iff_not,not_or,Decidable.not_not]at h6;have bT:x.fn.toNat<u.funcs.length:=ag;simp only[jr,aB bT,ne_eq,Decidable.not_not]at h7;exact⟨⟨x.fn.toNat,u.funcs[x.fn.toNat],ag,aB bT,h7⟩,λv hv=>l0 (l_ h v hv)⟩
 refine⟨cW.op,l0 h4,l0 h5,cW.dst,λv hv=>?_,?_,λe=>(OP e).1,hn⟩
 ·by_cases e:x.op=20
  ·exact(OP e).2 v hv
  ·rw[cW.args e]at hv;cases hv
 ·by_cases e:x.op=20
  ·obtain⟨k,Y,_,hY,h9⟩:=(OP e).1
   have:=hp Y (aA hY);omega
  ·rw[cW.args e];simp
theorem SB{n R:Nat}{b:ar}(h:j8 n R b=0):(b.kind=1∨b.kind=2∨b.kind=3)/\(b.to.length:Int)=b.kind-1:=by
 unfold j8 uK at h
 split at h
 ·cases h
 rename_i h1
 split at h
 ·cases h
 rename_i h2;simp only[within,Bool.not_eq_true',Bool.and_eq_false_iff,decide_eq_false_iff_not,not_or,Decidable.not_not]at h1;simp only[ne_eq,Decidable.not_not]at h2;exact⟨ag,h2⟩
theorem Hy{u:a7}(hl:mC u)(h:(dr u).1=0)(hn:∀X∈u.funcs,∀B∈X.blocks,wm B):iZ u:=by
 have hlen:=hl.1;refine⟨ag,λk X hX=>?_⟩;have OC:=aA hX;have hp:∀X∈u.funcs,X.params<=100:=λY hY=>by
  obtain⟨j,hj⟩:=br hY;have:=nh h hj;omega
 have hh:=nh h hX;have Vf:=rU h X OC;have Vw:=TU (hl.2 X OC);have hR:X.aF=(X.aF.toNat:Nat):=ag;have Xi:=wL hR Vf;have afw:=(hl.2 X OC).1;refine⟨X.aF.toNat,hR,ag,Xi,LC h hX,ag,⟨hh.1,ag⟩,λB hB=>?_⟩;obtain⟨b,hb⟩:=br hB;have Is:=Xi.block b B hb;have hnB:=hn X OC B hB;unfold fX at Vf
 split at Vf
 ·rename_i h1;exact absurd Vf h1
 rename_i h1;have Co:=l_ (by simpa using h1:(dI (jr X.blocks (j8 X.blocks.length X.aF)) X.blocks.length).1=0) B hB;have J9:=im Vf b (aC.1 hb).1;simp only[jc,hb]at J9
 split at J9
 ·rename_i h2;exact absurd J9 h2
 have nZ:=l_ J9;rw[hR]at Co nZ;exact⟨SB Co,⟨Is.on,hnB.on⟩,⟨(Vw B hB).1,λx hx=>TP hp (nZ x hx) (hnB.list x hx)⟩,⟨(Vw B hB).2,hnB.aL⟩⟩
theorem yR{u:a7}(h:(dr u).1=0)(hn:∀G∈u.globals,∀x∈G.init,c9 x):ww u:=by
 unfold dr at h
 split at h
 ·cases h
 rename_i h1
 split at h
 ·rename_i h2;exact absurd h h2
 rename_i h2
 split at h
 ·rename_i h3;exact absurd h h3
 split at h
 ·rename_i h3;exact absurd h h3
 split at h
 ·cases h
 rename_i h4;refine⟨ag,λG hG=>?_,hn,ag,?_⟩
 ·have hz:=im (by simpa using h2)
  obtain⟨j,hj⟩:=br hG;have:=hz j (aC.1 hj).1;simp only[nw,jr,hj,jd]at this
  split at this
  ·cases this
  split at this
  ·cases this
  split at this
  ·cases this
  rename_i h5
  split at this
  ·cases this
  rename_i h6;simp only[within,Bool.not_eq_true',Bool.and_eq_false_iff,decide_eq_false_iff_not,not_or,Decidable.not_not]at h5;omega
 ·unfold cZ at h4⊢
  cases hf:u.funcs.findIdx? qK with
  |none=>rw[hf]at h4;simp at h4
  |some i=>
   have hi:=(List.findIdx?_eq_some_iff_getElem.1 hf).1;exact⟨i,u.funcs[i],rfl,aB hi⟩
end
section
open Go Go.RowKit
attribute [local irreducible] wpListIn Code.wpIn Exit.then Exit.inBlock bodyPost wpQuiet wpAnyIn wpAnyH
set_option maxHeartbeats 8000000
theorem nS{α:Type}{ps nV:List α}{j:Nat}{y:α}(hj:ps.length=j)(bT:j<nV.length):(ps++nV.drop j).set j y=(ps++[y])++nV.drop (j+1):=by
 rw[lq _ _ ag,hj,dq,lF bT,bS,dE]
 rfl
theorem QT{α:Type}(to xs ps v a b:α)(D P X:List α):(to::xs::ps::v::a::b::((D++P)++X)).Perm ((ps::xs::to::(P++X))++(v::a::b::D)):=by
 have h1:(to::xs::ps::v::a::b::((D++P)++X)).Perm ([to,xs,ps]++((v::a::b::D)++(P++X))):=by
  simp only[a6,aT,dE];exact List.Perm.refl _
 have h2:([to,xs,ps]++((v::a::b::D)++(P++X))).Perm ([to,xs,ps]++((P++X)++(v::a::b::D))):=List.Perm.append_left _ dH;have h3:[to,xs,ps].Perm [ps,xs,to]:=(List.reverse_perm [to,xs,ps]).symm;have h4:=h3.append_right ((P++X)++(v::a::b::D));refine(h1.trans (h2.trans h4)).trans ?_;simp only[a6,aT,dE];exact List.Perm.refl _
theorem Wh(nm:ByteArray)(pa re:Int)(bl:List ar)(bs:Value)(w0:World)(mU:aM w0 bs 6 bl ed)(hlen:bl.length<=1000)(sI:∀b:aR,b.eo∈bl->uU w0 b->b.Bd):
  gV Tryz.prog 61 [.agg #[.string nm,.int .i64 pa,.int .i64 re,bs]] w0 λu w'=>∃x:Option Addr×Nat×List aR,u=.agg #[.string nm,.int .i64 pa,.int .i64 re,.slice x.1 bl.length x.2.1]/\Wd dh w0 (ai x.1 bl.length x.2.1 46 6 (x.2.2.flatMap bg)::x.2.2.map b_) w'/\x.2.2.map aR.eo=bl/\∀b∈x.2.2,b.Bd:=by
 obtain⟨ba,bc,q,rfl,E5,Tu,Cu⟩:=N0 mU;have Cb:q.length=bl.length:=by rw[<-E5,aG]
 rw[<-Cb];refine aQ Tryz.func61 rfl Tryz.ntmps61 rfl (Wd.nil dh w0) ?_
 repeat(first|refine aU ?_|refine dX λ_ _=>?_)
 rename_i p1 _ p2 _;refine cV (val:=λx:Option Addr×Nat=>.slice x.1 q.length x.2) (E:=λx=>[ai x.1 q.length x.2 46 6 (q.flatMap bg)]) (φ:=λ_=>True) rfl (λw hw=>DZ ba bc q ag w (Tu.cu (λ_ _ _ _ _ h=>h) hw.cE)) λx _=>?_;obtain⟨xa,xc⟩:=x;simp only[a6,aT];refine aI ?_;refine bP (λ(ds:List aR)=>ds.length<=q.length/\ds.map aR.eo=(q.take ds.length).map aR.eo/\∀b∈ds,b.Bd) (λds=>[(16,.int .i64 ds.length),(14,.slice xa q.length xc),(15,.int .i64 q.length),(2,.pointer (some ⟨p2,0,none⟩)),(1,.pointer (some ⟨p1,0,none⟩))])
  (λds=>ai xa q.length xc 46 6 ((ds++q.drop ds.length).flatMap bg)::aj p2 [.string aE,.int .i64 0,.int .i64 0,.slice none 0 0] 35::aj p1 [.string nm,.int .i64 pa,.int .i64 re,.slice xa q.length xc] 35::ds.map b_) (λds=>q.length-ds.length) [] ⟨aY _,rfl,by simp⟩ (aV aw aH) λds ⟨hi,Tf,hdb⟩=>?_
 refine aU ?_;refine aN (λh1=>?_) (λh1=>?_)
 ·have bT:ds.length<q.length:=by simpa using h1
  generalize zT:ds.length=i at*;obtain⟨b,hb⟩:∃b,q[i]?=some b:=⟨_,aB bT⟩;have hbq:=aA hb;have hA:=Cu b hbq;have hB:=sI b (by rw[<-E5];exact aX.2 ⟨b,hbq,rfl⟩) hA;obtain⟨bpa,bpc,nV,Wa,Wb,p_,bk,uZ,Ly,Lz,xI⟩:=b;have hBp:=hB.aL;have hBx:=hB.list;have hBt:=hB.to.1;simp only at hBp hBx hBt;refine eW 0 rfl ag λvb vo nz=>?_;subst nz;have mW:bZ i q.length:=⟨bT⟩;have jS:(ds++q.drop i)[i]?=some (⟨bpa,bpc,nV,Wa,Wb,p_,bk,uZ,Ly,Lz,xI⟩:aR):=by
   rw[dg ag,zT,dq,g_,dL];exact hb
  have hoa:gj (ai (some ⟨vb,vo,none⟩) q.length xc 46 6 ((ds++q.drop i).flatMap bg)::aj p2 [.string aE,.int .i64 0,.int .i64 0,.slice none 0 0] 35::aj p1 [.string nm,.int .i64 pa,.int .i64 re,.slice (some ⟨vb,vo,none⟩) q.length xc] 35::ds.map b_) vb (vo+i*6) _:=iT (k:=0) rfl dC jS;simp only[bg]at hoa
  repeat(first|refine aI ?_|refine dX λ_ _=>?_)
  rename_i p4 _;refine cV (val:=λx:Option Addr×Nat=>.slice x.1 nV.length x.2) (E:=λx=>[ai x.1 nV.length x.2 49 2 (nV.flatMap ci)]) (φ:=λ_=>True) rfl (λw hw=>H6 bpa bpc nV ag w (hA.aL.cu (λ_ _ _ _ _ h=>h) hw.cE)) λx _=>?_;obtain⟨ya,yc⟩:=x;simp only[a6,aT];refine aI ?_;refine bP (λ(ps:List cG)=>ps.length<=nV.length/\ps.map cG.jW=(nV.take ps.length).map cG.jW) (λps=>[(28,.int .i64 ps.length),(26,.slice ya nV.length yc),(27,.int .i64 nV.length),(3,.int .i64 i),(4,.pointer (some ⟨p4,0,none⟩)),(16,.int .i64 i),(14,.slice (some ⟨vb,vo,none⟩) q.length xc),(15,.int .i64 q.length),(2,.pointer (some ⟨p2,0,none⟩)),(1,.pointer (some ⟨p1,0,none⟩))])
   (λps=>ai ya nV.length yc 49 2 ((ps++nV.drop ps.length).flatMap ci)::aj p4 [.slice ya nV.length yc,.slice Wa p_.length Wb,.int .i64 bk,.bool uZ.bD,.int .i64 uZ.n,.slice Ly xI.length Lz] 46::(ai (some ⟨vb,vo,none⟩) q.length xc 46 6 ((ds++q.drop i).flatMap bg)::aj p2 [.string aE,.int .i64 0,.int .i64 0,.slice none 0 0] 35::aj p1 [.string nm,.int .i64 pa,.int .i64 re,.slice (some ⟨vb,vo,none⟩) q.length xc] 35::(ds.map b_++ps.map e7))) (λps=>nV.length-ps.length) [] ⟨aY _,rfl⟩ (aV aw aH) λps ⟨hj,xB⟩=>?_
  refine aU ?_;refine aN (λh2=>?_) (λh2=>?_)
  ·have jE:ps.length<nV.length:=by simpa using h2
   generalize Xp:ps.length=j at*;obtain⟨p,hp⟩:∃p,nV[j]?=some p:=⟨_,aB jE⟩;have abo:=aA hp;obtain⟨VF,Gs⟩:=hA.jW p abo;obtain⟨_,E4,_⟩:=hB.jW p abo;obtain⟨pd,l6,fL,pl⟩:=p;simp only at VF Gs E4;refine eW 0 rfl ag λzb zo Es=>?_;subst Es;have IH:bZ j nV.length:=⟨jE⟩;have Vo:(ps++nV.drop j)[j]?=some (⟨pd,l6,fL,pl⟩:cG):=by
    rw[dg ag,Xp,dq,g_,dL];exact hp
   have xA:gj (ai (some ⟨zb,zo,none⟩) nV.length yc 49 2 ((ps++nV.drop j).flatMap ci)::aj p4 [.slice (some ⟨zb,zo,none⟩) nV.length yc,.slice Wa p_.length Wb,.int .i64 bk,.bool uZ.bD,.int .i64 uZ.n,.slice Ly xI.length Lz] 46::(ai (some ⟨vb,vo,none⟩) q.length xc 46 6 ((ds++q.drop i).flatMap bg)::aj p2 [.string aE,.int .i64 0,.int .i64 0,.slice none 0 0] 35::aj p1 [.string nm,.int .i64 pa,.int .i64 re,.slice (some ⟨vb,vo,none⟩) q.length xc] 35::(ds.map b_++ps.map e7))) zb (zo+j*2) _:=iT (k:=0) rfl ft Vo;simp only[ci]at xA
   repeat(first|refine aI ?_|refine dX λ_ _=>?_)
   rename_i p6 _;refine rY (aj p6 [.int .i64 pd,.slice l6 pl.length fL] 49::aj p4 [.slice (some ⟨zb,zo,none⟩) nV.length yc,.slice Wa p_.length Wb,.int .i64 bk,.bool uZ.bD,.int .i64 uZ.n,.slice Ly xI.length Lz] 46::(ai (some ⟨vb,vo,none⟩) q.length xc 46 6 ((ds++q.drop i).flatMap bg)::aj p2 [.string aE,.int .i64 0,.int .i64 0,.slice none 0 0] 35::aj p1 [.string nm,.int .i64 pa,.int .i64 re,.slice (some ⟨vb,vo,none⟩) q.length xc] 35::(ds.map b_++ps.map e7))) mixed ap ?_;refine az 0 rfl aq ap ?_;refine az 1 rfl aq ap ?_;refine az 2 rfl aq ap ?_;refine az 3 rfl aq ap ?_;refine az 4 rfl aq ap ?_;refine zQ 5 (val:=λx:Option Addr×Nat=>.slice x.1 pl.length x.2) (E:=λx=>[ai x.1 pl.length x.2 41 2 (pl.flatMap df)]) (φ:=λ_=>True) rfl aq ap (λw hw=>vv l6 fL pl ag w ((EU Gs).cu (λ_ _ _ _ _ h=>h) hw.cE)) λx _=>?_;obtain⟨na,nc⟩:=x;simp only[a6,aT];refine az 6 rfl aq ap ?_;refine az 7 rfl aq ap ?_;have VE:mT (ai na pl.length nc 41 2 (pl.flatMap df)::aj p6 [.int .i64 pd,.slice l6 pl.length fL] 49::ai (some ⟨zb,zo,none⟩) nV.length yc 49 2 ((ps++nV.drop j).flatMap ci)::aj p4 [.slice (some ⟨zb,zo,none⟩) nV.length yc,.slice Wa p_.length Wb,.int .i64 bk,.bool uZ.bD,.int .i64 uZ.n,.slice Ly xI.length Lz] 46::(ai (some ⟨vb,vo,none⟩) q.length xc 46 6 ((ds++q.drop i).flatMap bg)::aj p2 [.string aE,.int .i64 0,.int .i64 0,.slice none 0 0] 35::aj p1 [.string nm,.int .i64 pa,.int .i64 re,.slice (some ⟨vb,vo,none⟩) q.length xc] 35::(ds.map b_++ps.map e7))) zb (zo+j*2+1) 2 zo (j*2+1) nV.length yc 49 2 ((ps++nV.drop j).flatMap ci):=⟨rfl,ag⟩;have mM:lN ((ps++nV.drop j).flatMap ci) (j*2+1) (.slice na pl.length nc) (((ps++[(⟨pd,na,nc,pl⟩:cG)])++nV.drop (j+1)).flatMap ci):=⟨by
     rw[gh ft Vo (k:=1) ag (y:=⟨pd,na,nc,pl⟩) rfl];congr 1;exact nS Xp jE,by rw[ct ft,bR,ez];omega⟩
   refine j3 8 aq aq ap ?_;refine aO ?_;have kq:(ps++[(⟨pd,na,nc,pl⟩:cG)]).length=j+1:=by simp[Xp]
   refine jp (L':=[(28,.int .i64 ((j:Int)+1)),(26,.slice (some ⟨zb,zo,none⟩) nV.length yc),(27,.int .i64 nV.length),(3,.int .i64 i),(4,.pointer (some ⟨p4,0,none⟩)),(16,.int .i64 i),(14,.slice (some ⟨vb,vo,none⟩) q.length xc),(15,.int .i64 q.length),(2,.pointer (some ⟨p2,0,none⟩)),(1,.pointer (some ⟨p1,0,none⟩))]) aw (dn (.cons _ (.refl _))) ?_;refine bj (dH (l₁:=[ai na pl.length nc 41 2 (pl.flatMap df)])) ?_;refine fg (H1:=ai (some ⟨zb,zo,none⟩) nV.length yc 49 2 (((ps++[(⟨pd,na,nc,pl⟩:cG)])++nV.drop (ps++[(⟨pd,na,nc,pl⟩:cG)]).length).flatMap ci)::aj p4 [.slice (some ⟨zb,zo,none⟩) nV.length yc,.slice Wa p_.length Wb,.int .i64 bk,.bool uZ.bD,.int .i64 uZ.n,.slice Ly xI.length Lz] 46::ai (some ⟨vb,vo,none⟩) q.length xc 46 6 ((ds++q.drop i).flatMap bg)::aj p2 [.string aE,.int .i64 0,.int .i64 0,.slice none 0 0] 35::aj p1 [.string nm,.int .i64 pa,.int .i64 re,.slice (some ⟨vb,vo,none⟩) q.length xc] 35::(ds.map b_++(ps++[(⟨pd,na,nc,pl⟩:cG)]).map e7)) ?_ ?_
   ·rw[kq]
    simp only[a6,bB,bO,dp,dE,e7]
   refine jp (L':=[(28,.int .i64 ((ps++[(⟨pd,na,nc,pl⟩:cG)]).length:Nat)),(26,.slice (some ⟨zb,zo,none⟩) nV.length yc),(27,.int .i64 nV.length),(3,.int .i64 i),(4,.pointer (some ⟨p4,0,none⟩)),(16,.int .i64 i),(14,.slice (some ⟨vb,vo,none⟩) q.length xc),(15,.int .i64 q.length),(2,.pointer (some ⟨p2,0,none⟩)),(1,.pointer (some ⟨p1,0,none⟩))]) ?_ (.refl _) ?_
   ·rw[kq]
    exact aw
   refine bC (ps++[(⟨pd,na,nc,pl⟩:cG)]) ⟨by rw[kq];omega,?_⟩ (by rw[kq];omega) aw ag2;rw[kq,cj,hp,bB,bB,xB];rfl
  ·have gT:ps.length=nV.length:=by have:=h2;simp at this;omega
   rw[gT,iH,cq];rw[gT,cO]at xB;refine aI ?_;refine cV (val:=λx:Option Addr×Nat=>.slice x.1 p_.length x.2) (E:=λx=>[ai x.1 p_.length x.2 56 8 (p_.flatMap eE)]) (φ:=λ_=>True) rfl (λw hw=>H5 Wa Wb p_ ag w (hA.list.cu (λ_ _ _ _ _ h=>h) hw.cE)) λx _=>?_;obtain⟨ia,ic⟩:=x;simp only[a6,aT];refine aI ?_;refine bj (H1:=ai ia p_.length ic 56 8 (p_.flatMap eE)::aj p4 [.slice ya nV.length yc,.slice ia p_.length ic,.int .i64 bk,.bool uZ.bD,.int .i64 uZ.n,.slice Ly xI.length Lz] 46::ai ya nV.length yc 49 2 (ps.flatMap ci)::ai (some ⟨vb,vo,none⟩) q.length xc 46 6 ((ds++q.drop i).flatMap bg)::aj p2 [.string aE,.int .i64 0,.int .i64 0,.slice none 0 0] 35::aj p1 [.string nm,.int .i64 pa,.int .i64 re,.slice (some ⟨vb,vo,none⟩) q.length xc] 35::(ds.map b_++ps.map e7)) (List.Perm.cons _ (List.Perm.swap _ _ _)) ?_;refine bP (λ(is:List iX)=>is.length<=p_.length/\is.map (·.x)=(p_.take is.length).map (·.x)) (λis=>[(49,.int .i64 is.length),(47,.slice ia p_.length ic),(48,.int .i64 p_.length),(3,.int .i64 i),(4,.pointer (some ⟨p4,0,none⟩)),(16,.int .i64 i),(14,.slice (some ⟨vb,vo,none⟩) q.length xc),(15,.int .i64 q.length),(2,.pointer (some ⟨p2,0,none⟩)),(1,.pointer (some ⟨p1,0,none⟩))])
    (λis=>ai ia p_.length ic 56 8 ((is++p_.drop is.length).flatMap eE)::aj p4 [.slice ya nV.length yc,.slice ia p_.length ic,.int .i64 bk,.bool uZ.bD,.int .i64 uZ.n,.slice Ly xI.length Lz] 46::ai ya nV.length yc 49 2 (ps.flatMap ci)::ai (some ⟨vb,vo,none⟩) q.length xc 46 6 ((ds++q.drop i).flatMap bg)::aj p2 [.string aE,.int .i64 0,.int .i64 0,.slice none 0 0] 35::aj p1 [.string nm,.int .i64 pa,.int .i64 re,.slice (some ⟨vb,vo,none⟩) q.length xc] 35::((ds.map b_++ps.map e7)++is.map jo)) (λis=>p_.length-is.length) [] ⟨aY _,rfl⟩ (aV aw aH) λis ⟨hj,R3⟩=>?_
   refine aU ?_;refine aN (λh3=>?_) (λh3=>?_)
   ·have jE:is.length<p_.length:=by simpa using h3
    generalize Xp:is.length=j at*;obtain⟨y,hy⟩:∃y,p_[j]?=some y:=⟨_,aB jE⟩;have vH:=aA hy;obtain⟨_,TL⟩:=hA.ins y vH;obtain⟨_,Cw,_⟩:=hB.ins y vH;obtain⟨yx,UO,UP⟩:=y;simp only at TL Cw;refine eW 0 rfl ag λzb zo Es=>?_;subst Es;have IH:bZ j p_.length:=⟨jE⟩;have Gh:(is++p_.drop j)[j]?=some (⟨yx,UO,UP⟩:iX):=by
     rw[dg ag,Xp,dq,g_,dL];exact hy
    have xA:gj (ai (some ⟨zb,zo,none⟩) p_.length ic 56 8 ((is++p_.drop j).flatMap eE)::aj p4 [.slice ya nV.length yc,.slice (some ⟨zb,zo,none⟩) p_.length ic,.int .i64 bk,.bool uZ.bD,.int .i64 uZ.n,.slice Ly xI.length Lz] 46::ai ya nV.length yc 49 2 (ps.flatMap ci)::ai (some ⟨vb,vo,none⟩) q.length xc 46 6 ((ds++q.drop i).flatMap bg)::aj p2 [.string aE,.int .i64 0,.int .i64 0,.slice none 0 0] 35::aj p1 [.string nm,.int .i64 pa,.int .i64 re,.slice (some ⟨vb,vo,none⟩) q.length xc] 35::((ds.map b_++ps.map e7)++is.map jo)) zb (zo+j*8) _:=iT (k:=0) rfl jj Gh;simp only[eE]at xA
    repeat(first|refine aI ?_|refine dX λ_ _=>?_)
    rename_i p8 _;refine rY (aj p8 [.int .i64 yx.op,.int .i64 yx.dst,.bool yx.a.bD,.int .i64 yx.a.n,.bool yx.b.bD,.int .i64 yx.b.n,.int .i64 yx.fn,.slice UO yx.args.length UP] 56::aj p4 [.slice ya nV.length yc,.slice (some ⟨zb,zo,none⟩) p_.length ic,.int .i64 bk,.bool uZ.bD,.int .i64 uZ.n,.slice Ly xI.length Lz] 46::ai ya nV.length yc 49 2 (ps.flatMap ci)::ai (some ⟨vb,vo,none⟩) q.length xc 46 6 ((ds++q.drop i).flatMap bg)::aj p2 [.string aE,.int .i64 0,.int .i64 0,.slice none 0 0] 35::aj p1 [.string nm,.int .i64 pa,.int .i64 re,.slice (some ⟨vb,vo,none⟩) q.length xc] 35::((ds.map b_++ps.map e7)++is.map jo)) mixed ap ?_;refine az 0 rfl aq ap ?_;refine az 1 rfl aq ap ?_;refine az 2 rfl aq ap ?_;refine az 3 rfl aq ap ?_;refine az 4 rfl aq ap ?_;refine zQ 5 (val:=λx:Option Addr×Nat=>.slice x.1 yx.args.length x.2) (E:=λx=>[ai x.1 yx.args.length x.2 41 2 (yx.args.flatMap df)]) (φ:=λ_=>True) rfl aq ap (λw hw=>vv UO UP yx.args ag w ((EU TL).cu (λ_ _ _ _ _ h=>h) hw.cE)) λx _=>?_;obtain⟨na,nc⟩:=x;simp only[a6,aT];refine az 6 rfl aq ap ?_;refine az 7 rfl aq ap ?_;have VE:mT (ai na yx.args.length nc 41 2 (yx.args.flatMap df)::aj p8 [.int .i64 yx.op,.int .i64 yx.dst,.bool yx.a.bD,.int .i64 yx.a.n,.bool yx.b.bD,.int .i64 yx.b.n,.int .i64 yx.fn,.slice UO yx.args.length UP] 56::ai (some ⟨zb,zo,none⟩) p_.length ic 56 8 ((is++p_.drop j).flatMap eE)::aj p4 [.slice ya nV.length yc,.slice (some ⟨zb,zo,none⟩) p_.length ic,.int .i64 bk,.bool uZ.bD,.int .i64 uZ.n,.slice Ly xI.length Lz] 46::ai ya nV.length yc 49 2 (ps.flatMap ci)::ai (some ⟨vb,vo,none⟩) q.length xc 46 6 ((ds++q.drop i).flatMap bg)::aj p2 [.string aE,.int .i64 0,.int .i64 0,.slice none 0 0] 35::aj p1 [.string nm,.int .i64 pa,.int .i64 re,.slice (some ⟨vb,vo,none⟩) q.length xc] 35::((ds.map b_++ps.map e7)++is.map jo)) zb (zo+j*8+7) 2 zo (j*8+7) p_.length ic 56 8 ((is++p_.drop j).flatMap eE):=⟨rfl,ag⟩;have mM:lN ((is++p_.drop j).flatMap eE) (j*8+7) (.slice na yx.args.length nc) (((is++[(⟨yx,na,nc⟩:iX)])++p_.drop (j+1)).flatMap eE):=⟨by
      rw[gh jj Gh (k:=7) ag (y:=⟨yx,na,nc⟩) rfl];congr 1;exact nS Xp jE,by rw[ct jj,bR,ez];omega⟩
    refine j3 8 aq aq ap ?_;refine aO ?_;have kq:(is++[(⟨yx,na,nc⟩:iX)]).length=j+1:=by simp[Xp]
    refine jp (L':=[(49,.int .i64 ((j:Int)+1)),(47,.slice (some ⟨zb,zo,none⟩) p_.length ic),(48,.int .i64 p_.length),(3,.int .i64 i),(4,.pointer (some ⟨p4,0,none⟩)),(16,.int .i64 i),(14,.slice (some ⟨vb,vo,none⟩) q.length xc),(15,.int .i64 q.length),(2,.pointer (some ⟨p2,0,none⟩)),(1,.pointer (some ⟨p1,0,none⟩))]) aw (dn (.cons _ (.refl _))) ?_;refine bj (dH (l₁:=[ai na yx.args.length nc 41 2 (yx.args.flatMap df)])) ?_;refine fg (H1:=ai (some ⟨zb,zo,none⟩) p_.length ic 56 8 (((is++[(⟨yx,na,nc⟩:iX)])++p_.drop (is++[(⟨yx,na,nc⟩:iX)]).length).flatMap eE)::aj p4 [.slice ya nV.length yc,.slice (some ⟨zb,zo,none⟩) p_.length ic,.int .i64 bk,.bool uZ.bD,.int .i64 uZ.n,.slice Ly xI.length Lz] 46::ai ya nV.length yc 49 2 (ps.flatMap ci)::ai (some ⟨vb,vo,none⟩) q.length xc 46 6 ((ds++q.drop i).flatMap bg)::aj p2 [.string aE,.int .i64 0,.int .i64 0,.slice none 0 0] 35::aj p1 [.string nm,.int .i64 pa,.int .i64 re,.slice (some ⟨vb,vo,none⟩) q.length xc] 35::((ds.map b_++ps.map e7)++(is++[(⟨yx,na,nc⟩:iX)]).map jo)) ?_ ?_
    ·rw[kq]
     simp only[a6,bB,bO,dp,dE,jo]
    refine jp (L':=[(49,.int .i64 ((is++[(⟨yx,na,nc⟩:iX)]).length:Nat)),(47,.slice (some ⟨zb,zo,none⟩) p_.length ic),(48,.int .i64 p_.length),(3,.int .i64 i),(4,.pointer (some ⟨p4,0,none⟩)),(16,.int .i64 i),(14,.slice (some ⟨vb,vo,none⟩) q.length xc),(15,.int .i64 q.length),(2,.pointer (some ⟨p2,0,none⟩)),(1,.pointer (some ⟨p1,0,none⟩))]) ?_ (.refl _) ?_
    ·rw[kq]
     exact aw
    refine bC (is++[(⟨yx,na,nc⟩:iX)]) ⟨by rw[kq];omega,?_⟩ (by rw[kq];omega) aw ag2;rw[kq,cj,hy,bB,bB,R3];rfl
   ·have hgi:is.length=p_.length:=by have:=h3;simp at this;omega
    rw[hgi,iH,cq];rw[hgi,cO]at R3;refine aI ?_;refine cV (val:=λx:Option Addr×Nat=>.slice x.1 xI.length x.2) (E:=λx=>[ai x.1 xI.length x.2 3 1 (xI.map (.int .i64))]) (φ:=λ_=>True) rfl (λw hw=>Am Ly Lz xI ag w (hA.to.cu eK hw.cE)) λx _=>?_;obtain⟨oa,oc⟩:=x;simp only[a6,aT];refine aI ?_;rw[<-gT,<-hgi];refine kT 4 (j:=i*6) rfl rfl (by rw[ct dC,bR,ez];omega) ?_;have my:=jy dC (l:=ds++q.drop i) (i:=i) (by rw[bR,ez];omega) (⟨ya,yc,ps,ia,ic,is,bk,uZ,oa,oc,xI⟩:aR);rw[nS zT bT]at my;simp only[bg]at my;rw[my];refine aO ?_;have kq:(ds++[(⟨ya,yc,ps,ia,ic,is,bk,uZ,oa,oc,xI⟩:aR)]).length=i+1:=by simp[zT]
    refine jp (L':=[(16,.int .i64 ((i:Int)+1)),(14,.slice (some ⟨vb,vo,none⟩) q.length xc),(15,.int .i64 q.length),(2,.pointer (some ⟨p2,0,none⟩)),(1,.pointer (some ⟨p1,0,none⟩))]) aw (H':=ai oa xI.length oc 3 1 (xI.map (.int .i64))::ai ia is.length ic 56 8 (is.flatMap eE)::ai ya ps.length yc 49 2 (ps.flatMap ci)::ai (some ⟨vb,vo,none⟩) q.length xc 46 6 (((ds++[(⟨ya,yc,ps,ia,ic,is,bk,uZ,oa,oc,xI⟩:aR)])++q.drop (i+1)).flatMap bg)::aj p2 [.string aE,.int .i64 0,.int .i64 0,.slice none 0 0] 35::aj p1 [.string nm,.int .i64 pa,.int .i64 re,.slice (some ⟨vb,vo,none⟩) q.length xc] 35::((ds.map b_++ps.map e7)++is.map jo)) (dn (dn (.cons _ (.refl _)))) ?_;refine bj (QT _ _ _ _ _ _ (ds.map b_) (ps.map e7) (is.map jo)) ?_;refine D_ ?_;refine bj (dH (l₁:=[b_ (⟨ya,yc,ps,ia,ic,is,bk,uZ,oa,oc,xI⟩:aR)])) ?_;refine fg (H1:=ai (some ⟨vb,vo,none⟩) q.length xc 46 6 (((ds++[(⟨ya,yc,ps,ia,ic,is,bk,uZ,oa,oc,xI⟩:aR)])++q.drop (ds++[(⟨ya,yc,ps,ia,ic,is,bk,uZ,oa,oc,xI⟩:aR)]).length).flatMap bg)::aj p2 [.string aE,.int .i64 0,.int .i64 0,.slice none 0 0] 35::aj p1 [.string nm,.int .i64 pa,.int .i64 re,.slice (some ⟨vb,vo,none⟩) q.length xc] 35::(ds++[(⟨ya,yc,ps,ia,ic,is,bk,uZ,oa,oc,xI⟩:aR)]).map b_) ?_ ?_
    ·rw[kq]
     simp only[a6,bB,bO,dp]
    refine jp (L':=[(16,.int .i64 ((ds++[(⟨ya,yc,ps,ia,ic,is,bk,uZ,oa,oc,xI⟩:aR)]).length:Nat)),(14,.slice (some ⟨vb,vo,none⟩) q.length xc),(15,.int .i64 q.length),(2,.pointer (some ⟨p2,0,none⟩)),(1,.pointer (some ⟨p1,0,none⟩))]) ?_ (.refl _) ?_
    ·rw[kq]
     exact aw
    refine bC (ds++[(⟨ya,yc,ps,ia,ic,is,bk,uZ,oa,oc,xI⟩:aR)]) ⟨by rw[kq];omega,?_,λc hc=>?_⟩ (by rw[kq];omega) aw ag2
    ·rw[kq,cj,hb,bB,bB,Tf]
     simp[aR.eo,xB,R3]
    ·rcases bL.1 hc with hc|hc
     ·exact hdb c hc
     ·rw[bU.1 hc]
      refine⟨hB.kind,hB.on,by simp only;omega,λp hp=>?_,by simp only;omega,λy hy=>?_,hB.to⟩
      ·have:cG.jW p∈nV.map cG.jW:=by rw[<-xB];exact aX.2 ⟨p,hp,rfl⟩
       obtain⟨p',uj,e⟩:=aX.1 this;have:=hB.jW p' uj;simp only[cG.jW,eC.mk.injEq]at e;rw[e.1,e.2]at this;exact this
      ·have:y.x∈p_.map (·.x):=by rw[<-R3];exact aX.2 ⟨y,hy,rfl⟩
       obtain⟨y',Zq,e⟩:=aX.1 this;have:=hB.ins y' Zq;rw[e]at this;exact this
 ·have gT:ds.length=q.length:=by have:=h1;simp at this;omega
  rw[gT,iH,cq];rw[gT,cO,E5]at Tf;refine aI ?_;refine gH rfl λw hw=>⟨(xa,xc,ds),rfl,hw.sub (dn (.cons _ (.cons _ (.refl _)))),Tf,hdb⟩
end
section
open Go Go.RowKit
attribute [local irreducible] wpListIn Code.wpIn Exit.then Exit.inBlock bodyPost wpQuiet wpAnyIn wpAnyH
set_option maxHeartbeats 4000000
def dV(bl:List ar):Nat:=(bl.map λb=>b.aL.length+b.list.length).sum
def qL(bl:List ar)(re:Int):Bool:=decide (40<bl.length)||(decide (300<dV bl)||decide (100<re))
theorem Dl{bl:List ar}{i:Nat}{b:ar}(h:bl[i]?=some b):dV (bl.take (i+1))=dV (bl.take i)+(b.aL.length+b.list.length):=by
 unfold dV;rw[cj,h];simp
theorem TX{bl:List ar}(h:∀b∈bl,b.aL.length<=1000/\b.list.length<=1000):∀i,dV (bl.take i)<=2000*i:=by
 intro i
 induction i with
 |zero=>simp[dV]
 |succ i ih=>
  cases hb:bl[i]? with
  |none=>
   have:bl.take (i+1)=bl.take i:=by rw[cj,hb];simp
   rw[this];omega
  |some b=>
   have:=h b (aA hb);rw[Dl hb];omega
theorem TT(nm pa:Value)(re:Int)(bl:List ar)(bs:Value)(w0:World)(mU:aM w0 bs 6 bl ed)(hlen:bl.length<=1000)(hb:∀b∈bl,b.aL.length<=1000/\b.list.length<=1000):
  fi Tryz.prog 62 [.agg #[nm,pa,.int .i64 re,bs]] w0 (.bool (qL bl re)):=by
 obtain⟨ba,n,bc,bb,bo,rfl,hn,pE,E3,LY,xS,iK⟩:=mU;refine aQ Tryz.func62 rfl Tryz.ntmps62 rfl (Wd.nil dh w0) ?_
 repeat(first|refine aO ?_|refine dX λ_ _=>?_)
 rename_i p1 _;have rf:=TX hb;refine bP (λ(i:Nat)=>i<=n) (λi=>[(9,.int .i64 i),(3,.int .i64 (dV (bl.take i))),(7,.slice ba n bc),(8,.int .i64 n),(1,.pointer (some ⟨p1,0,none⟩))]) (λ_=>[aj p1 [nm,pa,.int .i64 re,.slice ba n bc] 35]) (λi=>n-i) 0 (aY _) (aV aw ag2) λi hi=>?_;refine aU ?_;refine aN (λh1=>?_) (λh1=>?_)
 ·have bT:i<n:=by simpa using h1
  obtain⟨B,hB⟩:=dJ hn bT;have pY:bY ba bb bo:=⟨xS (aW hB)⟩;have mW:bZ i n:=⟨bT⟩;obtain⟨cs,fZ,pv,lv,tv,rfl,_,_,Gs,Tn,VO⟩:=iK i B hB;obtain⟨Sa,pn,pc,_,_,rfl,Gr,_⟩:=Gs;obtain⟨la,ln,lc,_,_,rfl,Ma,_⟩:=Tn;obtain⟨ta,tn,tc,_,_,rfl,sN,_⟩:=VO;have oQ:a_ w0 bb (bo+i*6) _:=⟨fZ⟩;have hBl:=hb B (aA hB);have hm:=rf i
  repeat(first|refine aI ?_|refine dX λ_ _=>?_)
  refine jp (L':=[(9,.int .i64 ((i:Int)+1)),(3,.int .i64 (dV (bl.take (i+1)))),(7,.slice ba n bc),(8,.int .i64 n),(1,.pointer (some ⟨p1,0,none⟩))]) ?_ (.refl _) ?_
  ·rw[Dl hB,<-Gr,<-Ma]
   rw[show(((dV (bl.take i)+(pn+ln):Nat):Int))=(dV (bl.take i):Int)+((pn:Int)+(ln:Int)) by omega];exact aw
  exact bC (i+1) bT ag aw ap
 ·have gT:i=n:=by have:=h1;simp at this;omega
  rw[gT,hn,cO];have Ma:=hn;refine aI ?_
  by_cases h40:40<bl.length
  ·rw[show decide ((40:Int)<(bl.length:Int))=true by simp;omega]
   refine iL ?_;exact bQ rfl (by simp[qL,h40])
  rw[show decide ((40:Int)<(bl.length:Int))=false by simp;omega];refine aI ?_
  by_cases Z5:300<dV bl
  ·rw[show decide ((300:Int)<(dV bl:Int))=true by simp;omega]
   refine iL ?_;exact bQ rfl (by simp[qL,Z5])
  rw[show decide ((300:Int)<(dV bl:Int))=false by simp;omega];refine aI ?_;exact bQ rfl (by simp[qL,h40,Z5])
end
section
open Go Go.RowKit
attribute [local irreducible] wpListIn Code.wpIn Exit.then Exit.inBlock bodyPost wpQuiet wpAnyIn wpAnyH
set_option maxHeartbeats 8000000
structure mN where
 name:ByteArray
 size:Int
 a:Option Addr
 c:Nat
 init:List Int
structure ol where
 name:ByteArray
 params:Int
 aF:Int
 a:Option Addr
 c:Nat
 blocks:List ar
def mN.LM(g:mN):iY:=⟨g.name,g.size,g.init⟩
def ol.vy(q:ol):aZ:=⟨q.name,q.params,q.aF,q.blocks⟩
def q8(g:mN):List Value:=[.string g.name,.int .i64 g.size,.slice g.a g.init.length g.c]
def wJ(q:ol):List Value:=[.string q.name,.int .i64 q.params,.int .i64 q.aF,.slice q.a q.blocks.length q.c]
def xP(g:mN):bN:=ai g.a g.init.length g.c 3 1 (g.init.map (.int .i64))
theorem wO(g:mN):(q8 g).length=3:=rfl
theorem wK(q:ol):(wJ q).length=4:=rfl
def V5(_:World)(g:mN)(cs:List Value):Prop:=cs=q8 g
def V4(_:World)(q:ol)(cs:List Value):Prop:=cs=wJ q
theorem Ot{w:World}{v:Value}{l:List iY}(h:aM w v 3 l fE):∃(a:Option Addr) (c:Nat) (gs:List mN),v=.slice a gs.length c/\gs.map mN.LM=l/\aM w v 3 gs V5/\∀g∈gs,c9 g.size/\aM w (.slice g.a g.init.length g.c) 1 g.init fj:=by
 obtain⟨a,n,c,b,o,rfl,hn,_⟩:=id h;obtain⟨m,rf,pG,hq⟩:=rG (U:=V5) (q:=λx y=>mN.LM y=x/\c9 y.size/\aM w (.slice y.a y.init.length y.c) 1 y.init fj) h λx _ cs ⟨v,e,hd,hs⟩=>by
  have Mh:=hs;obtain⟨a',n',c',_,_,rfl,NB,_⟩:=Mh;subst NB;exact⟨⟨x.name,x.size,a',c',x.init⟩,e,rfl,hd,hs⟩
 have xW:=tA (f:=mN.LM) rf λi x hx=>by
  obtain⟨y,hy,e,_⟩:=hq i x hx;exact⟨y,hy,e⟩
 refine⟨a,c,m,by rw[rf,hn],xW,pG,λp hp=>?_⟩;obtain⟨i,hi⟩:=br hp;obtain⟨y,hy,_,h2⟩:=hq i (l[i]'(by rw[<-rf];exact(aC.1 hi).1)) (aB _);rw[hi]at hy;obtain rfl:=be hy;exact h2
theorem Oh{w:World}{v:Value}{l:List aZ}(h:aM w v 4 l gg):∃(a:Option Addr) (c:Nat) (qs:List ol),v=.slice a qs.length c/\qs.map ol.vy=l/\aM w v 4 qs V4/\∀q∈qs,(c9 q.params/\c9 q.aF)/\aM w (.slice q.a q.blocks.length q.c) 6 q.blocks ed:=by
 obtain⟨a,n,c,b,o,rfl,hn,_⟩:=id h;obtain⟨m,rf,pG,hq⟩:=rG (U:=V4) (q:=λx y=>ol.vy y=x/\(c9 y.params/\c9 y.aF)/\aM w (.slice y.a y.blocks.length y.c) 6 y.blocks ed) h λx _ cs ⟨v,e,hp,hr,hs⟩=>by
  have Mh:=hs;obtain⟨a',n',c',_,_,rfl,NB,_⟩:=Mh;subst NB;exact⟨⟨x.name,x.params,x.aF,a',c',x.blocks⟩,e,rfl,⟨hp,hr⟩,hs⟩
 have xW:=tA (f:=ol.vy) rf λi x hx=>by
  obtain⟨y,hy,e,_⟩:=hq i x hx;exact⟨y,hy,e⟩
 refine⟨a,c,m,by rw[rf,hn],xW,pG,λp hp=>?_⟩;obtain⟨i,hi⟩:=br hp;obtain⟨y,hy,_,h2⟩:=hq i (l[i]'(by rw[<-rf];exact(aC.1 hi).1)) (aB _);rw[hi]at hy;obtain rfl:=be hy;exact h2
theorem Cj(a:Option Addr)(c:Nat)(l:List mN)(hb:l.length<=100000)(w0:World)(h:aM w0 (.slice a l.length c) 3 l V5):
  gV Tryz.prog 58 [.slice a l.length c] w0 λu w'=>∃x:Option Addr×Nat,u=.slice x.1 l.length x.2/\Wd dh w0 [ai x.1 l.length x.2 65 3 (l.flatMap q8)] w'/\True:=by
 refine aQ Tryz.func58 rfl Tryz.ntmps58 rfl (Wd.nil dh w0) ?_;refine aU ?_;cases a with
 |none=>
  have zw:l=[]:=by
   obtain⟨_,_,_,b,o,ha,_⟩:=h.at;exact Classical.byContradiction λhn=>by cases ha hn
  subst zw;refine aI ?_;refine fq 65 3 ?_;exact cA rfl λw hw=>⟨(none,0),rfl,hw,trivial⟩
 |some ad=>
  refine aO ?_;refine mr rfl λeb _=>?_;refine aU ?_;refine kR rfl rfl l q8 (λ_ _ _ h=>h) (λ_=>rfl) (λy u hu=>by simp only[q8,bJ,iI,or_false]at hu;rcases hu with rfl|rfl|rfl<;>rfl) (λw hw=>h.cu (λ_ _ _ _ _ h=>h) hw.cE) ag ag λa' c'=>?_;rw[aT,dM];refine aO ?_;exact cA rfl λw hw=>⟨(a',c'),rfl,hw,trivial⟩
theorem Fx(a:Option Addr)(c:Nat)(l:List ol)(hb:l.length<=100000)(w0:World)(h:aM w0 (.slice a l.length c) 4 l V4):
  gV Tryz.prog 60 [.slice a l.length c] w0 λu w'=>∃x:Option Addr×Nat,u=.slice x.1 l.length x.2/\Wd dh w0 [ai x.1 l.length x.2 35 4 (l.flatMap wJ)] w'/\True:=by
 refine aQ Tryz.func60 rfl Tryz.ntmps60 rfl (Wd.nil dh w0) ?_;refine aU ?_;cases a with
 |none=>
  have zw:l=[]:=by
   obtain⟨_,_,_,b,o,ha,_⟩:=h.at;exact Classical.byContradiction λhn=>by cases ha hn
  subst zw;refine aI ?_;refine fq 35 4 ?_;exact cA rfl λw hw=>⟨(none,0),rfl,hw,trivial⟩
 |some ad=>
  refine aO ?_;refine mr rfl λeb _=>?_;refine aU ?_;refine kR rfl rfl l wJ (λ_ _ _ h=>h) (λ_=>rfl) (λy u hu=>by simp only[wJ,bJ,iI,or_false]at hu;rcases hu with rfl|rfl|rfl|rfl<;>rfl) (λw hw=>h.cu (λ_ _ _ _ _ h=>h) hw.cE) ag ag λa' c'=>?_;rw[aT,dM];refine aO ?_;exact cA rfl λw hw=>⟨(a',c'),rfl,hw,trivial⟩
def ff(a:Option Addr)(c:Nat)(bs:List aR):List bN:=ai a bs.length c 46 6 (bs.flatMap bg)::bs.map b_
def CM(w0:World)(tf:Nat)(us xs:List Value)(T:aZ->aZ)(X:aZ):Prop:=∀(a:Option Addr) (c:Nat) (bs:List aR) (w:World),bs.map aR.eo=X.blocks->(∀b∈bs,b.Bd)->lL dh w0 w->(∀b,cF (ff a c bs) b->w0.heap.size<=b)->Wd (cF (ff a c bs)) w (ff a c bs) w->
 gV Tryz.prog tf (us++[.agg #[.string X.name,.int .i64 X.params,.int .i64 X.aF,.slice a bs.length c]]++xs) w λu w'=>∃x:Option Addr×Nat×List aR,u=.agg #[.string (T X).name,.int .i64 (T X).params,.int .i64 (T X).aF,.slice x.1 x.2.2.length x.2.1]/\Wd (cF (ff a c bs)) w (ff x.1 x.2.1 x.2.2) w'/\
  (x.2.2.map aR.eo=(T X).blocks/\(∀b∈x.2.2,b.Bd)/\x.2.2.length<=1000/\c9 (T X).params/\c9 (T X).aF)
structure DE where
 q:ol
 fp:Nat->Prop
def yT(d:DE):bN:=⟨d.fp,λw=>aM w (.slice d.q.a d.q.blocks.length d.q.c) 6 d.q.blocks ed⟩
structure JM(X:aZ):Prop where
 n:X.blocks.length<=1000
 each:∀b∈X.blocks,b.aL.length<=1000/\(∀p∈b.aL,p.src.length<=1000)/\b.list.length<=1000/\(∀i∈b.list,i.args.length<=1000)/\b.to.length<=1000
theorem JM.bd{X:aZ}(h:JM X){w:World}{b:aR}(hb:b.eo∈X.blocks)(hA:uU w b):b.Bd:=by
 obtain⟨h1,h2,h3,h4,h5⟩:=h.each _ hb;simp only[aR.eo,aG]at h1 h3 h5;exact hA.bd h1 (λp hp=>h2 p.jW (by simp only[aR.eo];exact aX.2 ⟨p,hp,rfl⟩)) h3 (λi hi=>h4 i.x (by simp only[aR.eo];exact aX.2 ⟨i,hi,rfl⟩)) h5
def iS(X:aZ):Bool:=qL X.blocks X.aF
def K8(u:a7)(g f:Value)(fp:Nat->Prop):bN:=⟨fp,λw=>aM w g 3 u.globals fE/\aM w f 4 u.funcs gg⟩
def NO(u:a7)(T:aZ->aZ)(w0:World)(v:Value)(w':World):Prop:=
 (∃(i:Nat) (X:aZ),u.funcs[i]?=some X/\iS (T X)=true/\(∀(j:Nat) (Y:aZ),j<i->u.funcs[j]?=some Y->iS (T Y)=false)/\v=.tuple #[.agg #[.slice none 0 0,.slice none 0 0],.agg #[.int .i64 10,.int .i64 i]]/\lL dh w0 w')∨
  ((∀X∈u.funcs,iS (T X)=false)/\∃(ga fa:Option Addr) (gc fc:Nat) (fp:Nat->Prop),v=.tuple #[.agg #[.slice ga u.globals.length gc,.slice fa u.funcs.length fc],.agg #[.int .i64 0,.int .i64 0]]/\Wd dh w0 [K8 {u with funcs:=u.funcs.map T} (.slice ga u.globals.length gc) (.slice fa u.funcs.length fc) fp] w')
theorem Om{N:Nat}{ds:List Deferred}{S:Nat->Prop}{w0:World}{L:List (Nat×Value)}{H:List bN}{p:Act->World->Prop}{a:Option Addr}{c:Nat}{bs:List aR}(q:ol)(hn:bs.length<=1000)(hb:∀b∈bs,b.Bd)(hq:bs.map aR.eo=q.blocks)(ha:q.a=a)(hc:q.c=c)
  (k:G N ds S w0 L (yT ⟨q,cF (ff a c bs)⟩::H) p):G N ds S w0 L (ff a c bs++H) p:=λact w hS=>k act w ⟨hS.fr,hS.wd.pack _ λw2 hw=>by
 subst ha;subst hc;have hl:q.blocks.length=bs.length:=by rw[<-hq,aG]
 have h2:Wd (cF (ff q.a q.c bs)) w2 (ai q.a bs.length q.c 46 6 (bs.flatMap bg)::(bs.map b_++[])) w2:=by rw[cq];exact hw
 have:=h2.blocks hn hb;rw[hq]at this;simp only[hl];exact this⟩
theorem Wm(u:a7)(hgl:u.globals.length<=100000/\∀g∈u.globals,g.init.length<=100000)(C6:u.funcs.length<=1000/\∀X∈u.funcs,JM X)(g fs:Value)(w0:World)(hg:aM w0 g 3 u.globals fE)(hf:aM w0 fs 4 u.funcs gg)
  (tf:Nat) [aS Tryz.prog tf] (us xs:List Value) (T:aZ->aZ) (hT:∀X∈u.funcs,CM w0 tf us xs T X):
  gV Tryz.prog 24 [.agg #[g,fs],.func (.func tf) us.toArray xs.toArray] w0 (NO u T w0):=by
 obtain⟨ga,gc,gs,rfl,hgm,Zh,Th⟩:=Ot hg;obtain⟨fa,fc,qs,rfl,E5,Tu,Cu⟩:=Oh hf;have afP:gs.length=u.globals.length:=by rw[<-hgm,aG]
 have agD:qs.length=u.funcs.length:=by rw[<-E5,aG]
 refine aQ Tryz.func24 rfl Tryz.ntmps24 rfl (Wd.nil dh w0) ?_
 repeat(first|refine aU ?_|refine dX λ_ _=>?_)
 rename_i p1 _ p2 _ p3 _;refine cV (val:=λx:Option Addr×Nat=>.slice x.1 gs.length x.2) (E:=λx=>[ai x.1 gs.length x.2 65 3 (gs.flatMap q8)]) (φ:=λ_=>True) rfl (λw hw=>Cj ga gc gs ag w (Zh.cu (λ_ _ _ _ _ h=>h) hw.cE)) λx _=>?_;obtain⟨xa,xc⟩:=x;simp only[a6,aT];refine aI ?_;refine bP (λ(ds:List mN)=>ds.length<=gs.length/\ds.map mN.LM=(gs.take ds.length).map mN.LM) (λds=>[(17,.int .i64 ds.length),(15,.slice xa gs.length xc),(16,.int .i64 gs.length),(2,.pointer (some ⟨p1,0,none⟩)),(4,.pointer (some ⟨p2,0,none⟩)),(5,.pointer (some ⟨p3,0,none⟩)),(1,(Value.func (.func tf) us.toArray xs.toArray))])
  (λds=>ai xa gs.length xc 65 3 ((ds++gs.drop ds.length).flatMap q8)::aj p3 [.int .i64 0,.int .i64 0] 28::aj p2 [.slice none 0 0,.slice none 0 0] 25::aj p1 [.slice xa gs.length xc,.slice fa qs.length fc] 25::ds.map xP) (λds=>gs.length-ds.length) [] ⟨aY _,rfl⟩ (aV aw aH) λds ⟨hi,Tf⟩=>?_
 refine aU ?_;refine aN (λh1=>?_) (λh1=>?_)
 ·have bT:ds.length<gs.length:=by simpa using h1
  generalize zT:ds.length=j at*;obtain⟨y,hy⟩:∃y,gs[j]?=some y:=⟨_,aB bT⟩;have vH:=aA hy;obtain⟨_,TL⟩:=Th y vH;have Cw:=hgl.2 y.LM (by rw[<-hgm];exact aX.2 ⟨y,vH,rfl⟩);obtain⟨yn,yz,UO,UP,yi⟩:=y;simp only[mN.LM]at TL Cw;refine eW 0 rfl ag λzb zo Es=>?_;subst Es;have IH:bZ j gs.length:=⟨bT⟩;have Gh:(ds++gs.drop j)[j]?=some (⟨yn,yz,UO,UP,yi⟩:mN):=by
   rw[dg ag,zT,dq,g_,dL];exact hy
  have xA:gj (ai (some ⟨zb,zo,none⟩) gs.length xc 65 3 ((ds++gs.drop j).flatMap q8)::aj p3 [.int .i64 0,.int .i64 0] 28::aj p2 [.slice none 0 0,.slice none 0 0] 25::aj p1 [.slice (some ⟨zb,zo,none⟩) gs.length xc,.slice fa qs.length fc] 25::ds.map xP) zb (zo+j*3) _:=iT (k:=0) rfl wO Gh;simp only[q8]at xA
  repeat(first|refine aI ?_|refine dX λ_ _=>?_)
  rename_i p8 _;refine rY (aj p8 [.string yn,.int .i64 yz,.slice UO yi.length UP] 65::aj p3 [.int .i64 0,.int .i64 0] 28::aj p2 [.slice none 0 0,.slice none 0 0] 25::aj p1 [.slice (some ⟨zb,zo,none⟩) gs.length xc,.slice fa qs.length fc] 25::ds.map xP) mixed ap ?_;refine az 0 rfl aq ap ?_;refine az 1 rfl aq ap ?_;refine az 2 rfl aq ap ?_;refine az 3 rfl aq ap ?_;refine az 4 rfl aq ap ?_;refine zQ 5 (val:=λx:Option Addr×Nat=>.slice x.1 yi.length x.2) (E:=λx=>[ai x.1 yi.length x.2 3 1 (yi.map (.int .i64))]) (φ:=λ_=>True) rfl aq ap (λw hw=>Am UO UP yi ag w (TL.cu eK hw.cE)) λx _=>?_;obtain⟨na,nc⟩:=x;simp only[a6,aT];refine az 6 rfl aq ap ?_;refine az 7 rfl aq ap ?_;have VE:mT (ai na yi.length nc 3 1 (yi.map (.int .i64))::aj p8 [.string yn,.int .i64 yz,.slice UO yi.length UP] 65::ai (some ⟨zb,zo,none⟩) gs.length xc 65 3 ((ds++gs.drop j).flatMap q8)::aj p3 [.int .i64 0,.int .i64 0] 28::aj p2 [.slice none 0 0,.slice none 0 0] 25::aj p1 [.slice (some ⟨zb,zo,none⟩) gs.length xc,.slice fa qs.length fc] 25::ds.map xP) zb (zo+j*3+2) 2 zo (j*3+2) gs.length xc 65 3 ((ds++gs.drop j).flatMap q8):=⟨rfl,ag⟩;have mM:lN ((ds++gs.drop j).flatMap q8) (j*3+2) (.slice na yi.length nc) (((ds++[(⟨yn,yz,na,nc,yi⟩:mN)])++gs.drop (j+1)).flatMap q8):=⟨by
    rw[gh wO Gh (k:=2) ag (y:=⟨yn,yz,na,nc,yi⟩) rfl];congr 1;exact nS zT bT,by rw[ct wO,bR,ez];omega⟩
  refine j3 8 aq aq ap ?_;refine aO ?_;have kq:(ds++[(⟨yn,yz,na,nc,yi⟩:mN)]).length=j+1:=by simp[zT]
  refine jp (L':=[(17,.int .i64 ((j:Int)+1)),(15,.slice (some ⟨zb,zo,none⟩) gs.length xc),(16,.int .i64 gs.length),(2,.pointer (some ⟨p1,0,none⟩)),(4,.pointer (some ⟨p2,0,none⟩)),(5,.pointer (some ⟨p3,0,none⟩)),(1,(Value.func (.func tf) us.toArray xs.toArray))]) aw (dn (.cons _ (.refl _))) ?_;refine bj (dH (l₁:=[ai na yi.length nc 3 1 (yi.map (.int .i64))])) ?_;refine fg (H1:=ai (some ⟨zb,zo,none⟩) gs.length xc 65 3 (((ds++[(⟨yn,yz,na,nc,yi⟩:mN)])++gs.drop (ds++[(⟨yn,yz,na,nc,yi⟩:mN)]).length).flatMap q8)::aj p3 [.int .i64 0,.int .i64 0] 28::aj p2 [.slice none 0 0,.slice none 0 0] 25::aj p1 [.slice (some ⟨zb,zo,none⟩) gs.length xc,.slice fa qs.length fc] 25::(ds++[(⟨yn,yz,na,nc,yi⟩:mN)]).map xP) ?_ ?_
  ·rw[kq]
   simp only[a6,bB,bO,dp,xP]
  refine jp (L':=[(17,.int .i64 ((ds++[(⟨yn,yz,na,nc,yi⟩:mN)]).length:Nat)),(15,.slice (some ⟨zb,zo,none⟩) gs.length xc),(16,.int .i64 gs.length),(2,.pointer (some ⟨p1,0,none⟩)),(4,.pointer (some ⟨p2,0,none⟩)),(5,.pointer (some ⟨p3,0,none⟩)),(1,(Value.func (.func tf) us.toArray xs.toArray))]) ?_ (.refl _) ?_
  ·rw[kq]
   exact aw
  refine bC (ds++[(⟨yn,yz,na,nc,yi⟩:mN)]) ⟨by rw[kq];omega,?_⟩ (by rw[kq];omega) aw ag2;rw[kq,cj,hy,bB,bB,Tf];rfl
 ·have gT:ds.length=gs.length:=by have:=h1;simp at this;omega
  rw[gT,iH,cq];rw[gT,cO,hgm]at Tf;refine aI ?_;refine cV (val:=λx:Option Addr×Nat=>.slice x.1 qs.length x.2) (E:=λx=>[ai x.1 qs.length x.2 35 4 (qs.flatMap wJ)]) (φ:=λ_=>True) rfl (λw hw=>Fx fa fc qs ag w (Tu.cu (λ_ _ _ _ _ h=>h) hw.cE)) λx _=>?_;obtain⟨ya,yc⟩:=x;simp only[a6,aT];refine aI ?_;rw[<-gT];have hdb:∀g∈ds,c9 g.size/\g.init.length<=100000/\∀z∈g.init,c9 z:=λg Zg=>by
   have h0:g.LM∈gs.map mN.LM:=by rw[hgm,<-Tf];exact aX.2 ⟨g,Zg,rfl⟩
   obtain⟨g',hg1,e⟩:=aX.1 h0;have h3:=Th g' hg1;have h4:=hgl.2 g'.LM (by rw[<-hgm];exact aX.2 ⟨g',hg1,rfl⟩);simp only[mN.LM,iY.mk.injEq]at e h4;rw[e.2.2]at h4;exact⟨by rw[<-e.2.1];exact h3.1,h4,λz hz=>P2 h3.2 z (by rw[e.2.2];exact hz)⟩
  refine bj (H1:=ai ya qs.length yc 35 4 (qs.flatMap wJ)::aj p3 [.int .i64 0,.int .i64 0] 28::aj p2 [.slice none 0 0,.slice none 0 0] 25::aj p1 [.slice xa ds.length xc,.slice ya qs.length yc] 25::ai xa ds.length xc 65 3 (ds.flatMap q8)::ds.map xP) ((((List.Perm.swap _ _ _).trans (List.Perm.cons _ (List.Perm.swap _ _ _))).trans (List.Perm.cons _ (List.Perm.cons _ (List.Perm.swap _ _ _)))).cons _) ?_;refine bP (λ(es:List DE)=>es.length<=qs.length/\es.map (λd=>d.q.vy)=(qs.take es.length).map (λq=>T q.vy)/\(∀d∈es,c9 d.q.params/\c9 d.q.aF)/\∀d∈es,iS d.q.vy=false) (λes=>[(38,.int .i64 es.length),(36,.slice ya qs.length yc),(37,.int .i64 qs.length),(2,.pointer (some ⟨p1,0,none⟩)),(4,.pointer (some ⟨p2,0,none⟩)),(5,.pointer (some ⟨p3,0,none⟩)),(1,(Value.func (.func tf) us.toArray xs.toArray))])
   (λes=>ai ya qs.length yc 35 4 ((es.map (·.q)++qs.drop es.length).flatMap wJ)::aj p3 [.int .i64 0,.int .i64 0] 28::aj p2 [.slice none 0 0,.slice none 0 0] 25::aj p1 [.slice xa ds.length xc,.slice ya qs.length yc] 25::ai xa ds.length xc 65 3 (ds.flatMap q8)::(ds.map xP++es.map yT)) (λes=>qs.length-es.length) [] ⟨aY _,rfl,by simp,by simp⟩ (aV aw aH) λes ⟨Vq,E0,ID,iK⟩=>?_
  refine aU ?_;refine aN (λh2=>?_) (λh2=>?_)
  ·have bT:es.length<qs.length:=by simpa using h2
   generalize zT:es.length=i at*;obtain⟨q,hq⟩:∃q,qs[i]?=some q:=⟨_,aB bT⟩;have abt:=aA hq;obtain⟨⟨IL,hqr⟩,Kl⟩:=Cu q abt;have OC:q.vy∈u.funcs:=by rw[<-E5];exact aX.2 ⟨q,abt,rfl⟩
   have WL:u.funcs[i]?=some q.vy:=by rw[<-E5,aK,hq];rfl
   have L_:=C6.2 _ OC;have hTX:=hT _ OC;obtain⟨qn,qp,qr,qa,qc,qb⟩:=q;simp only[ol.vy]at IL hqr Kl L_ hTX OC WL;refine eW 0 rfl ag λvb vo nz=>?_;subst nz;have mW:bZ i qs.length:=⟨bT⟩;have jS:(es.map (·.q)++qs.drop i)[i]?=some (⟨qn,qp,qr,qa,qc,qb⟩:ol):=by
    rw[dg (by rw[aG];omega),aG,zT,dq,g_,dL];exact hq
   have xA:gj (ai (some ⟨vb,vo,none⟩) qs.length yc 35 4 ((es.map (·.q)++qs.drop i).flatMap wJ)::aj p3 [.int .i64 0,.int .i64 0] 28::aj p2 [.slice none 0 0,.slice none 0 0] 25::aj p1 [.slice xa ds.length xc,.slice (some ⟨vb,vo,none⟩) qs.length yc] 25::ai xa ds.length xc 65 3 (ds.flatMap q8)::(ds.map xP++es.map yT)) vb (vo+i*4) _:=iT (k:=0) rfl wK jS;simp only[wJ]at xA
   repeat(first|refine aI ?_|refine dX λ_ _=>?_)
   rename_i p9 _;refine cV (val:=λx:Option Addr×Nat×List aR=>.agg #[.string qn,.int .i64 qp,.int .i64 qr,.slice x.1 qb.length x.2.1]) (E:=λx=>ai x.1 qb.length x.2.1 46 6 (x.2.2.flatMap bg)::x.2.2.map b_) (φ:=λx=>x.2.2.map aR.eo=qb/\∀b∈x.2.2,b.Bd) rfl (λw hw=>Wh qn qp qr qb (.slice qa qb.length qc) w (Kl.cu fh hw.cE) L_.n λb hb hA=>L_.bd hb hA) λx hx=>?_;obtain⟨ca,cc,rows⟩:=x;obtain⟨Db,Km⟩:=hx;simp only at Db Km;have qd:qb.length=rows.length:=by rw[<-Db,aG]
   simp only[qd];refine AD (H1:=ff ca cc rows) (us:=us) (xs:=xs) (val:=λx:Option Addr×Nat×List aR=>.agg #[.string (T (⟨qn,qp,qr,qb⟩:aZ)).name,.int .i64 (T (⟨qn,qp,qr,qb⟩:aZ)).params,.int .i64 (T (⟨qn,qp,qr,qb⟩:aZ)).aF,.slice x.1 x.2.2.length x.2.1]) (E:=λx=>ff x.1 x.2.1 x.2.2) (φ:=λx=>x.2.2.map aR.eo=(T (⟨qn,qp,qr,qb⟩:aZ)).blocks/\(∀b∈x.2.2,b.Bd)/\x.2.2.length<=1000/\c9 (T (⟨qn,qp,qr,qb⟩:aZ)).params/\c9 (T (⟨qn,qp,qr,qb⟩:aZ)).aF) rfl (λw hw=>hTX ca cc rows w Db Km hw.cE (λb ⟨e,he,hb⟩=>(hw.own e (cC _ he) b hb).1.resolve_left id) hw.pre) λx hx=>?_;obtain⟨za,zc,zs⟩:=x;obtain⟨Et,hzb,IS,hzp,hzr⟩:=hx;obtain⟨Y,hY⟩:∃Y,T (⟨qn,qp,qr,qb⟩:aZ)=Y:=⟨_,rfl⟩;obtain⟨yn,yp,yr,yb⟩:=Y;simp only[hY]at Et hzp hzr⊢;simp only at hzb IS;have aeE:zs.length=yb.length:=by rw[<-Et,aG]
   rw[aeE];have R_:∀b∈yb,b.aL.length<=1000/\b.list.length<=1000:=λb hb=>by
    rw[<-Et]at hb;obtain⟨b',mL,rfl⟩:=aX.1 hb;have:=hzb b' mL;exact⟨by simp only[aR.eo,aG];exact this.aL,by simp only[aR.eo,aG];exact this.list⟩
   refine Om (⟨yn,yp,yr,za,zc,yb⟩:ol) IS hzb Et rfl rfl ?_;obtain⟨fp,Zf⟩:∃fp,cF (ff za zc zs)=fp:=⟨_,rfl⟩;rw[Zf];refine aI ?_;refine bI rfl (λw hw=>TT (.string yn) (.int .i64 yp) yr yb (.slice za yb.length zc) w (hw.get (k:=0) rfl) ag R_) ?_;refine aU ?_;have mx:∀(g:aZ),g=⟨yn,yp,yr,yb⟩->iS g=qL yb yr:=λg hg=>by rw[hg];rfl
   have Tb:∀(j:Nat) (Y:aZ),j<i->u.funcs[j]?=some Y->iS (T Y)=false:=λj Y hj hYj=>by
    have h0:(es.map (λd=>d.q.vy))[j]?=some (T Y):=by
     rw[E0,aK,wB hj];rw[<-E5,aK]at hYj;obtain⟨q',hq',rfl⟩:=cT.1 hYj;rw[hq'];rfl
    obtain⟨d,hd,e⟩:=aX.1 (aA h0);rw[<-e];exact iK d hd
   by_cases hL:qL yb yr=true
   ·rw[hL]
    refine aO ?_;refine bI rfl (λw _=>oN 10 i w) ?_;refine aI ?_;refine rZ rfl λ_ hw=>.inl ⟨i,_,WL,by rw[mx _ hY];exact hL,Tb,rfl,hw.cE⟩
   ·have C2:qL yb yr=false:=by simpa using hL
    rw[C2];refine aO ?_;have zq:(es.map (·.q)).length=i:=by rw[aG,zT]
    refine kT 2 (j:=i*4) rfl rfl (by rw[ct wK,bR,ez];omega) ?_;have my:=jy wK (l:=es.map (·.q)++qs.drop i) (i:=i) (by rw[bR,ez];omega) (⟨yn,yp,yr,za,zc,yb⟩:ol);rw[nS zq bT]at my;simp only[wJ]at my;rw[my];refine aO ?_;have kq:(es++[(⟨(⟨yn,yp,yr,za,zc,yb⟩:ol),fp⟩:DE)]).length=i+1:=by simp[zT]
    refine jp (L':=[(38,.int .i64 ((i:Int)+1)),(36,.slice (some ⟨vb,vo,none⟩) qs.length yc),(37,.int .i64 qs.length),(2,.pointer (some ⟨p1,0,none⟩)),(4,.pointer (some ⟨p2,0,none⟩)),(5,.pointer (some ⟨p3,0,none⟩)),(1,(Value.func (.func tf) us.toArray xs.toArray))]) aw (dn (.cons _ (.refl _))) ?_;refine bj (dH (l₁:=[yT (⟨(⟨yn,yp,yr,za,zc,yb⟩:ol),fp⟩:DE)])) ?_;refine fg (H1:=ai (some ⟨vb,vo,none⟩) qs.length yc 35 4 (((es++[(⟨(⟨yn,yp,yr,za,zc,yb⟩:ol),fp⟩:DE)]).map (·.q)++qs.drop (es++[(⟨(⟨yn,yp,yr,za,zc,yb⟩:ol),fp⟩:DE)]).length).flatMap wJ)::aj p3 [.int .i64 0,.int .i64 0] 28::aj p2 [.slice none 0 0,.slice none 0 0] 25::aj p1 [.slice xa ds.length xc,.slice (some ⟨vb,vo,none⟩) qs.length yc] 25::ai xa ds.length xc 65 3 (ds.flatMap q8)::(ds.map xP++(es++[(⟨(⟨yn,yp,yr,za,zc,yb⟩:ol),fp⟩:DE)]).map yT)) ?_ ?_
    ·rw[kq]
     simp only[a6,bB,bO,dp,dE]
    refine jp (L':=[(38,.int .i64 ((es++[(⟨(⟨yn,yp,yr,za,zc,yb⟩:ol),fp⟩:DE)]).length:Nat)),(36,.slice (some ⟨vb,vo,none⟩) qs.length yc),(37,.int .i64 qs.length),(2,.pointer (some ⟨p1,0,none⟩)),(4,.pointer (some ⟨p2,0,none⟩)),(5,.pointer (some ⟨p3,0,none⟩)),(1,(Value.func (.func tf) us.toArray xs.toArray))]) ?_ (.refl _) ?_
    ·rw[kq]
     exact aw
    refine bC (es++[(⟨(⟨yn,yp,yr,za,zc,yb⟩:ol),fp⟩:DE)]) ⟨by rw[kq];omega,?_,λd hd=>?_,λd hd=>?_⟩ (by rw[kq];omega) aw ag2
    ·rw[kq,cj,hq,bB,bB,E0]
     simp only[lr,bO,dp,ol.vy,hY]
    ·rcases bL.1 hd with hd|hd
     ·exact ID d hd
     ·rw[bU.1 hd];exact⟨hzp,hzr⟩
    ·rcases bL.1 hd with hd|hd
     ·exact iK d hd
     ·rw[bU.1 hd];exact C2
  ·have L6:es.length=qs.length:=by have:=h2;simp at this;omega
   rw[L6,iH,cq];rw[L6,cO]at E0;have cP:∀X∈u.funcs,iS (T X)=false:=λX hX=>by
    rw[<-E5]at hX;obtain⟨q,hq,rfl⟩:=aX.1 hX;have:T q.vy∈es.map (λd=>d.q.vy):=by rw[E0];exact aX.2 ⟨q,hq,rfl⟩
    obtain⟨d,hd,e⟩:=aX.1 this;rw[<-e];exact iK d hd
   have xW:es.map (λd=>d.q.vy)=u.funcs.map T:=by rw[E0,<-E5,eS];rfl
   rw[<-L6];refine aI ?_;have adh:ds.length=u.globals.length:=by have:=congrArg List.length Tf;rw[aG]at this;exact this
   have adn:es.length=u.funcs.length:=ag;refine rZ rfl λw hw=>?_;unfold NO;rw[<-adh,<-adn];refine .inr ⟨cP,xa,ya,xc,yc,_,rfl,Wd.pack (H:=[]) (by rw[cq];exact hw) _ λw hw=>⟨?_,?_⟩⟩
   ·have h0:=sD (V:=fE) mN.LM (oO hw (k:=4) rfl wO ag) λy hy cs fZ=>?_
    ·rw[Tf]at h0;exact h0
    obtain⟨hy1,Zr,hy3⟩:=hdb y hy;obtain⟨k,hk⟩:∃k,(ai ya es.length yc 35 4 ((es.map (·.q)).flatMap wJ)::aj p3 [.int .i64 0,.int .i64 0] 28::aj p2 [.slice xa ds.length xc,.slice ya es.length yc] 25::aj p1 [.slice xa ds.length xc,.slice ya es.length yc] 25::ai xa ds.length xc 65 3 (ds.flatMap q8)::(ds.map xP++es.map yT))[k]?=some (xP y):=
     br (by simp only[bJ,bL];exact .inr (.inr (.inr (.inr (.inr (.inl (aX.2 ⟨y,hy,rfl⟩)))))))
    refine⟨_,fZ,hy1,?_⟩;refine hw.nC hk rfl ag λi x hx=>⟨[.int .i64 x],λj v hj=>?_,rfl,hy3 x (aA hx)⟩
    match j,hj with
    |0,hj=>simp[<-hj,mN.LM]at hx⊢;exact hx
   ·have h0:=sD (V:=gg) ol.vy (oO (l:=es.map (·.q)) hw (k:=0) (by rw[aG];rfl) wK (by rw[aG];omega)) λy hy cs fZ=>?_
    ·rw[eS,aG]at h0;rw[<-xW];exact h0
    obtain⟨d,hd,rfl⟩:=aX.1 hy;obtain⟨k,hk⟩:∃k,(ai ya es.length yc 35 4 ((es.map (·.q)).flatMap wJ)::aj p3 [.int .i64 0,.int .i64 0] 28::aj p2 [.slice xa ds.length xc,.slice ya es.length yc] 25::aj p1 [.slice xa ds.length xc,.slice ya es.length yc] 25::ai xa ds.length xc 65 3 (ds.flatMap q8)::(ds.map xP++es.map yT))[k]?=some (yT d):=
     br (by simp only[bJ,bL];exact .inr (.inr (.inr (.inr (.inr (.inr (aX.2 ⟨d,hd,rfl⟩)))))))
    have h5:aM w (.slice d.q.a d.q.blocks.length d.q.c) 6 d.q.blocks ed:=hw.get hk;exact⟨_,fZ,(ID d hd).1,(ID d hd).2,h5⟩
end
section
open Go Go.RowKit
class NS(e:bN)(H:List bN)(H':outParam (List bN)):Prop where
 perm:H.Perm (e::H')
instance(priority:=high)(e:bN)(H:List bN):NS e (e::H) H:=⟨.refl _⟩
class Sm(H1 H:List bN):Prop where
 sub:∃r,H.Perm (H1++r)
instance(priority:=high)(H:List bN):Sm [] H:=⟨⟨H,.refl _⟩⟩
instance(e:bN)(H1 H H':List bN)[h:NS e H H'][h2:Sm H1 H']:Sm (e::H1) H:=⟨by
 obtain⟨r,hr⟩:=h2.sub
 exact⟨r,h.perm.trans (hr.cons e)⟩⟩
theorem Wd.pick{S:Nat->Prop}{w0 w:World}{H H1:List bN}(h:Wd S w0 H w)(hs:Sm H1 H):Wd S w0 H1 w:=by
 obtain⟨r,hr⟩:=hs.sub;exact(h.perm hr).sub (dY _ _)
theorem f_{w:World}{S:Nat->Prop}{α:Type}{s:Nat}{V:World->α->List Value->Prop}{a:Option Addr}{n c:Nat}{l:List α}(h:aM w (.slice a n c) s l V)(hold:∀{b o:Nat} {v:Value} {l:List Value},bG w b o (v::l)->eI S b)(hV:∀x cs,V w x cs->∃v r,cs=v::r)(h0:l≠[]):
  ∃b o:Nat,bY a b o/\eI S b/\∀i x,l[i]?=some x->∃cs,a_ w b (o+i*s) cs/\V w x cs:=by
 obtain⟨_,_,_,b,o,ha,iK⟩:=h.at;refine⟨b,o,⟨ha h0⟩,?_,λi x hi=>?_⟩
 ·obtain⟨x,hx⟩:∃x,l[0]?=some x:=⟨_,aB (rR.2 h0)⟩
  obtain⟨cs,hc,hv⟩:=iK 0 x hx;obtain⟨v,r,rfl⟩:=hV x cs hv;exact hold hc
 ·obtain⟨cs,hc,hv⟩:=iK i x hi
  exact⟨cs,⟨hc⟩,hv⟩
theorem nY{N:Nat}{ds:List Deferred}{S S1:Nat->Prop}{w0 w1:World}{L:List (Nat×Value)}{H H2:List bN}{p:Act->World->Prop}(back:∀{w:World},Wd S1 w1 H w->Wd S w0 (H++H2) w)(k:G N ds S w0 L (H++H2) p):G N ds S1 w1 L H p:=λa w hS=>k a w ⟨hS.fr,back hS.wd⟩
theorem nT{α:Type}{f:α->Int}{l:List α}:(dI (jr l f) l.length).1=0↔∀x∈l,f x=0:=by
 refine⟨l_,λh=>?_⟩;rw[fD];intro j hj;simp only[jr,aB hj];exact h _ (jK _)
theorem gz{f:Nat->Int}{n:Nat}:(dI f n).1=0↔∀j,j<n->f j=0:=⟨im,λh=>by rw[fD h]⟩
structure qD(fs:List aZ)(X:aZ):Prop where
 ends:∀B∈X.blocks,j8 X.blocks.length X.aF B=0
 aL:∀(b:Nat) (B:ar),X.blocks[b]?=some B->∀p∈B.aL,lQ X.aF X.blocks b p=0
 list:∀(b:Nat) (B:ar),X.blocks[b]?=some B->∀x∈B.list,dK fs X.aF x=0
theorem t_{fs:List aZ}{X:aZ}:fX fs X=0↔qD fs X:=by
 unfold fX;constructor
 ·intro h
  split at h
  ·rename_i h1;exact absurd h h1
  rename_i h1;have h2:=nT.1 (by simpa using h1:(dI (jr X.blocks (j8 X.blocks.length X.aF)) X.blocks.length).1=0);have h3:=gz.1 h;have h4:∀(b:Nat) (B:ar),X.blocks[b]?=some B->(∀p∈B.aL,lQ X.aF X.blocks b p=0)/\∀x∈B.list,dK fs X.aF x=0:=λb B hB=>by
   have:=h3 b (aC.1 hB).1;simp only[jc,hB]at this
   split at this
   ·rename_i h5;exact absurd this h5
   rename_i h5;exact⟨nT.1 (by simpa using h5),nT.1 this⟩
  exact⟨h2,λb B hB=>(h4 b B hB).1,λb B hB=>(h4 b B hB).2⟩
 ·intro h
  have h1:=nT.2 h.ends;rw[if_neg (by simp[h1])];refine gz.2 λb hb=>?_;have hB:X.blocks[b]?=some X.blocks[b]:=aB hb;simp only[jc,hB];have h5:=nT.2 (h.aL b _ hB);rw[if_neg (by simp[h5])];exact nT.2 (h.list b _ hB)
structure iW(u:a7):Prop where
 ti:u.globals.length<=10
 funcs:u.funcs.length<=10
 FV:∀i,i<u.globals.length->nw u.globals i=0
 head:∀i,i<u.funcs.length->k_ u i=0
 body:∀X∈u.funcs,qD u.funcs X
 main:0<=cZ u.funcs
 none:jr u.funcs (·.params) (cZ u.funcs).toNat<=0
theorem fz{u:a7}:(dr u).1=0↔iW u:=by
 unfold dr;constructor
 ·intro h
  split at h
  ·cases h
  rename_i h1
  split at h
  ·rename_i h2;exact absurd h h2
  rename_i h2
  split at h
  ·rename_i h3;exact absurd h h3
  rename_i h3
  split at h
  ·rename_i h4;exact absurd h h4
  rename_i h4
  split at h
  ·cases h
  rename_i h5
  split at h
  ·cases h
  rename_i h6;refine⟨ag,ag,gz.1 (by simpa using h2),gz.1 (by simpa using h3),λX hX=>t_.1 (nT.1 (by simpa using h4) X hX),ag,ag⟩
 ·intro h
  have h1:=h.ti;have h2:=h.funcs;rw[if_neg ag,if_neg (by simp[gz.2 h.FV]),if_neg (by simp[gz.2 h.head]),if_neg (by simp[nT.2 λX hX=>t_.2 (h.body X hX)]),if_neg (by have:=h.main;omega),if_neg (by have:=h.none;omega)]
theorem DW{fs SL:List aZ}(hl:SL.length=fs.length)(hp:∀i:Nat,(SL[i]?).map aZ.params=(fs[i]?).map aZ.params)(R:Int)(x:en):fY SL R x=fY fs R x:=by
 have:∀i,jr SL (·.params) i=jr fs (·.params) i:=λi=>by
  have:=hp i;unfold jr;cases h1:fs[i]?<;>cases h2:SL[i]?<;>simp[h1,h2]at this⊢
  exact this
 unfold fY;rw[hl,this]
theorem GC{fs SL:List aZ}(hl:SL.length=fs.length)(hp:∀i:Nat,(SL[i]?).map aZ.params=(fs[i]?).map aZ.params)(R:Int)(x:en):dK SL R x=dK fs R x:=by
 unfold dK;rw[DW hl hp]
end
section
open Go Go.RowKit
attribute [local irreducible] wpListIn Code.wpIn Exit.then Exit.inBlock bodyPost wpQuiet wpAnyIn wpAnyH bodyPostM gX
set_option maxHeartbeats 8000000
structure ZG where
 name:ByteArray
 params:Int
 aF:Int
 a:Option Addr
 c:Nat
 bs:List aR
structure aco where
 ga:Option Addr
 gc:Nat
 gs:List mN
 fa:Option Addr
 fc:Nat
 fs:List ZG
end
section
open Go Go.RowKit
set_option maxHeartbeats 2000000
theorem Qp{α:Type}{l:List α}{e:α}(h:e∈l):∃r,l.Perm (e::r):=by
 obtain⟨k,hk⟩:=br h;exact⟨_,jz hk⟩
def tx(b:aR):bN:=ai b.la b.xs.length b.lc 56 8 (b.xs.flatMap eE)
def NI(b:aR):bN:=ai b.pa b.ps.length b.pc 49 2 (b.ps.flatMap ci)
def nE(b:aR):bN:=ai b.ta b.to.length b.tc 3 1 (b.to.map (.int .i64))
theorem iB{α β:Type}{l:List α}{k:Nat}{x:α}(f:α->β)(h:l[k]?=some x):(l.map f).Perm (f x::(l.eraseIdx k).map f):=(jz h).map f
section
variable {S:Nat->Prop} {w0 w:World} {H:List bN} {m:aco} {k i:Nat} {y:ZG} {b:aR}
theorem FK{α:Type}{f:α->List Value}{l:List α}{k:Nat}{x y:α}(h:l[k]?=some x)(he:f y=f x):(l.set k y).flatMap f=l.flatMap f:=by
 rw[rP,rP,eh,he];congr 1;exact lD (by rw[aK,h];rfl)
end
end
section
open Go Go.RowKit
theorem SC{n:Nat}{R:Int}{B:ar}(h:j8 n R B=0):B.to.length<=2:=by
 unfold j8 uK at h
 split at h
 ·cases h
 rename_i h1
 split at h
 ·cases h
 rename_i h2;simp only[within,Bool.not_eq_true',Bool.and_eq_false_iff,decide_eq_false_iff_not,not_or,Decidable.not_not]at h1;simp only[ne_eq,Decidable.not_not]at h2;omega
theorem LB{u:a7}(hl:mC u)(h:(dr u).1=0):∀X∈u.funcs,JM X:=λX hX=>by
 obtain⟨k,hk⟩:=br hX;obtain⟨R,_,_,hf⟩:=pz h hk;have kq:=(hl.2 X hX).1;have hlen:=I6 (hl.2 X hX);have q_:=(fz.1 h).body X hX;refine⟨ag,λB hB=>?_⟩;obtain⟨b,hb⟩:=br hB;have Iz:=hf.block b B hb;have E4:(bf X.blocks b).length<=X.blocks.length:=by
  unfold bf;exact dB (ja _ _) (by rw[fG];exact bH _)
 exact⟨(hlen B hB).2,λp hp=>by have:=(Iz.aL p hp).len;omega,(hlen B hB).1,HZ h hk B hB,by have:=SC (q_.ends B hB);omega⟩
theorem H3{u:a7}(h:(dr u).1=0):u.globals.length<=100000/\∀g∈u.globals,g.init.length<=100000:=by
 have hc:=fz.1 h;have:=hc.ti;refine⟨ag,λg hg=>?_⟩;obtain⟨i,hi⟩:=br hg;have hz:=hc.FV i (aC.1 hi).1;unfold nw jr at hz;rw[hi]at hz;simp only at hz;unfold jd at hz
 split at hz
 ·cases hz
 split at hz
 ·cases hz
 split at hz
 ·cases hz
 rename_i h1
 split at hz
 ·cases hz
 rename_i h2;simp only[within,Bool.not_eq_true',Bool.and_eq_false_iff,decide_eq_false_iff_not,not_or,Decidable.not_not]at h1;omega
theorem LA{u:a7}(hl:mC u):u.funcs.length<=1000:=by have:=hl.1;omega
def eP(u:a7)(j:Nat):List ar:=match u.funcs[j]? with|some X=>X.blocks|none=>[]
def e_(u:a7)(j:Nat):Nat:=match u.funcs[j]? with|some X=>X.aF.toNat|none=>0
def KA(k n:Nat)(f:k7):k7:={f with at':=if f.fn=k/\f.block=0 then f.at'+n else f.at'}
def liftM(k n c:Nat)(s:js):js:=⟨s.mem,s.cX,s.out,c,s.rest.map (KA k n),KA k n s.bF,s.counts⟩
def ab6(k n c:Nat)(s:js)(i:Nat):js:=⟨s.mem,s.cX,s.out,c,s.rest.map (KA k n),{s.bF with at':=i},s.counts⟩
theorem nA(u:a7)(s:js)(to:Int):rj u s to={s with bF:={s.bF with aF:=iD s.bF ((bf (eP u s.bF.fn) to.toNat).idxOf s.bF.block) (eU (eP u s.bF.fn) to.toNat),block:=to.toNat,at':=0},counts:=bump s.counts s.bF.fn to.toNat}:=rfl
theorem nj(u:a7)(s:js)(fn:Nat)(dst:Int)(args:List Int):s_ u s fn dst args={s with rest:=s.rest++[s.bF],bF:=⟨fn,0,0,ek (e_ u fn) args,dst⟩,counts:=bump s.counts fn 0}:=rfl
theorem ab7(k n c:Nat)(s:js)(h:s.bF.at'=0):ab6 k n c s (if s.bF.fn=k/\s.bF.block=0 then n else 0)=liftM k n c s:=by
 unfold ab6 liftM KA;rw[h,dM]
theorem ui{names:List ByteArray}{f:aZ}:kU names f=0↔sj f.name=true/\hasName names f.name=false/\(0<=f.params/\f.params<=6)/\(f.params<=f.aF/\f.aF<=100)/\(1<=f.blocks.length/\f.blocks.length<=40)/\fQ f.blocks<=300:=by
 unfold kU;constructor
 ·intro h
  split at h
  ·cases h
  rename_i h1
  split at h
  ·cases h
  rename_i h2
  split at h
  ·cases h
  rename_i h3
  split at h
  ·cases h
  rename_i h4;simp[within]at h1 h2 h3 h4;exact⟨h1,h2,ag,ag,ag,ag⟩
 ·rintro⟨h1,h2,h3,h4,h5,h6⟩
  rw[if_neg (by simp[h1]),if_neg (by simp[h2]),if_neg (by simp[within];omega),if_neg (by simp[within];omega)]
theorem nB(fs:List aZ):cZ fs=match (fs.map (·.name)).findIdx? (λs=>s.toList==(ByteArray.mk #[109,97,105,110]).toList)with|some i=>(i:Int)|none=>-1:=by
 unfold cZ;rw[List.findIdx?_map]
 rfl
end
end Go.Proofs.YthfhgolkafpmnaaGreatDoor
