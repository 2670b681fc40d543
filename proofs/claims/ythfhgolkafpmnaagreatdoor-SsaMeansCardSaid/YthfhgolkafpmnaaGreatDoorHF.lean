/- Texts joined: Fit Copy Large Each EachB TwoC ChkP RefU UMem UOpen Lim Slim ZeroP ZeroQ. -/
import Derived.Test.YthfhgolkafpmnaaGreatDoorHD
namespace Go.Proofs.YthfhgolkafpmnaaGreatDoor
open Go.Value renaming int->U,slice->J,string->G,bool->D,agg->au
open Go.IntKind renaming i64->O
open Option renaming some->Z,none->A
open Go renaming Value->V,World->C
open Go.Proofs.Tryz
open Go.Proofs.Tryz renaming prog->ae
open Go Go.RowKit
theorem XI{X:aY}(h:Du X):∀B∈X.blocks,B.list.length<=1000/\B.aD.length<=1000:=λB hB=>by
 have h1:((B.aD.length+B.list.length:Nat):Int)<=gy X.blocks:=by
  unfold gy;generalize X.blocks=l at hB
  induction l with
  |nil=>cases hB
  |cons akh l ih=>
   have SP:∀m:List E,0<=(m.map λb=>((b.aD.length+b.list.length:Nat):Int)).sum:=λm=>by
    induction m with
    |nil=>simp
    |cons akf m ih=>simp only[bT,eT];omega
   simp only[bT,eT];rcases bD.1 hB with rfl|hB
   ·have:=SP l;omega
   ·have:=ih hB;omega
 have:=h.2;omega
structure yl(B:E):Prop where
 on:dk B.on.n
 aD:∀q∈B.aD,∀v∈q.src,dk v.n
 list:∀x∈B.list,dk x.dst/\dk x.a.n/\dk x.b.n/\∀v∈x.args,dk v.n
theorem aG.el{α:Type}{w:C}{v:V}{s:Nat}{l:List α}{ake:C->α->List V->Prop}(h:aG w v s l ake){x:α}(hx:x∈l):∃cs,ake w x cs:=by
 obtain⟨_,_,_,_,_,_,_,_,_,_,_,ji⟩:=h;obtain⟨i,hi⟩:=bg hx;obtain⟨cs,_,hV⟩:=ji i x hi;exact⟨cs,hV⟩
theorem NV{w:C}{fs:V}{fl:List aY}(h:aG w fs 4 fl gq):∀X∈fl,∀B∈X.blocks,yl B:=λX hX B hB=>by
 obtain⟨_,bv,_,_,_,Ai⟩:=h.el hX;obtain⟨_,pv,lv,tv,_,_,Ja,Jc,W_,_⟩:=Ai.el hB;refine⟨Ja,λq hq v hv=>?_,λx hx=>?_⟩
 ·obtain⟨_,sv,_,_,ny⟩:=Jc.el hq
  obtain⟨_,_,h9⟩:=ny.el hv;exact h9
 ·obtain⟨_,av,_,_,h1,h2,h3,_,Ag⟩:=W_.el hx
  exact⟨h1,h2,h3,λv hv=>by obtain⟨_,_,h9⟩:=Ag.el hv;exact h9⟩
theorem IF{w:C}{g:V}{gl:List jt}(h:aG w g 3 gl fg):∀aki∈gl,∀x∈aki.init,dk x:=λaki hG x hx=>by
 obtain⟨_,iv,_,_,Nl⟩:=h.el hG;obtain⟨_,_,h9⟩:=Nl.el hx;exact h9
theorem XC{u:a8}{R:Nat}{x:dJ}(hp:∀X∈u.funcs,X.params<=100)(h:eu u.funcs R x=0)(hn:dk x.dst/\dk x.a.n/\dk x.b.n/\∀v∈x.args,dk v.n):Ga u R x:=by
 have cY:=Aq h;unfold eu at h
 split at h
 ·cases h
 split at h
 ·cases h
 split at h
 ·rename_i h3
  simp only[Bool.and_eq_true,Bool.not_eq_true',decide_eq_false_iff_not]at h3;exact absurd h h3.2
 split at h
 ·rename_i h4;exact absurd h h4
 rename_i h4
 split at h
 ·rename_i h5;exact absurd h h5
 rename_i h5;simp only[ne_eq,Decidable.not_not]at h4 h5;have Sm:x.op=20->(∃(k:Nat) (Y:aY),x.fn=k/\u.funcs[k]?=Z Y/\(x.args.length:Int)=Y.params)/\∀v∈x.args,jb R v:=λe=>by
  unfold gK at h;rw[if_neg (ax e)]at h
  split at h
  ·cases h
  rename_i h6
  split at h
  ·cases h
  rename_i h7;simp only[within,Bool.not_eq_true',Bool.and_eq_false_iff,decide_eq_false_iff_not,not_or,Decidable.not_not]at h6;have bS:x.fn.toNat<u.funcs.length:=I;simp only[j4,a_ bS,ne_eq,Decidable.not_not]at h7;exact⟨⟨x.fn.toNat,u.funcs[x.fn.toNat],I,a_ bS,h7⟩,λv hv=>nG (nR h v hv)⟩
 refine⟨cY.op,nG h4,nG h5,cY.dst,λv hv=>?_,?_,λe=>(Sm e).1,hn⟩
 ·by_cases e:x.op=20
  ·exact(Sm e).2 v hv
  ·rw[cY.args e]at hv;cases hv
 ·by_cases e:x.op=20
  ·obtain⟨k,Y,_,hY,h9⟩:=(Sm e).1
   have:=hp Y (aq hY);omega
  ·rw[cY.args e];simp
theorem Wo{n R:Nat}{b:E}(h:k9 n R b=0):(b.kind=1∨b.kind=2∨b.kind=3)/\(b.to.length:Int)=b.kind-1:=by
 unfold k9 wI at h
 split at h
 ·cases h
 rename_i h1
 split at h
 ·cases h
 rename_i h2;simp only[within,Bool.not_eq_true',Bool.and_eq_false_iff,decide_eq_false_iff_not,not_or,Decidable.not_not]at h1;simp only[ne_eq,Decidable.not_not]at h2;exact⟨I,h2⟩
theorem Ki{u:a8}(hl:nA u)(h:(dA u).1=0)(hn:∀X∈u.funcs,∀B∈X.blocks,yl B):jH u:=by
 have hlen:=hl.1;refine⟨I,λk X hX=>?_⟩;have Sa:=aq hX;have hp:∀X∈u.funcs,X.params<=100:=λY hY=>by
  obtain⟨j,hj⟩:=bg hY;have:=mY h hj;omega
 have hh:=mY h hX;have Zh:=tN h X Sa;have ZB:=XI (hl.2 X Sa);have hR:X.aB=(X.aB.toNat:Nat):=I;have W4:=yM hR Zh;have aiv:=(hl.2 X Sa).1;refine⟨X.aB.toNat,hR,I,W4,E3 h hX,I,⟨hh.1,I⟩,λB hB=>?_⟩;obtain⟨b,hb⟩:=bg hB;have Ld:=W4.block b B hb;have hnB:=hn X Sa B hB;unfold gJ at Zh
 split at Zh
 ·rename_i h1;exact absurd Zh h1
 rename_i h1;have EI:=nR (by simpa using h1:(eh (j4 X.blocks (k9 X.blocks.length X.aB)) X.blocks.length).1=0) B hB;have Nh:=jc Zh b (az.1 hb).1;simp only[jN,hb]at Nh
 split at Nh
 ·rename_i h2;exact absurd Nh h2
 have pS:=nR Nh;rw[hR]at EI pS;exact⟨Wo EI,⟨Ld.on,hnB.on⟩,⟨(ZB B hB).1,λx hx=>XC hp (pS x hx) (hnB.list x hx)⟩,⟨(ZB B hB).2,hnB.aD⟩⟩
theorem Ba{u:a8}(h:(dA u).1=0)(hn:∀aki∈u.globals,∀x∈aki.init,dk x):yt u:=by
 unfold dA at h
 split at h
 ·cases h
 rename_i h1
 split at h
 ·rename_i h2;exact absurd h h2
 rename_i h2
 split at h
 ·rename_i h3;exact absurd h h3
 split at h
 ·rename_i h3;exact absurd h h3
 split at h
 ·cases h
 rename_i h4;refine⟨I,λaki hG=>?_,hn,I,?_⟩
 ·have hz:=jc (ax h2)
  obtain⟨j,hj⟩:=bg hG;have:=hz j (az.1 hj).1;simp only[oV,j4,hj,jR]at this
  split at this
  ·cases this
  split at this
  ·cases this
  split at this
  ·cases this
  rename_i h5
  split at this
  ·cases this
  rename_i h6;simp only[within,Bool.not_eq_true',Bool.and_eq_false_iff,decide_eq_false_iff_not,not_or,Decidable.not_not]at h5;omega
 ·unfold dh at h4⊢
  cases hf:u.funcs.findIdx? sF with
  |none=>rw[hf]at h4;simp at h4
  |some i=>
   have hi:=(List.findIdx?_eq_some_iff_getElem.1 hf).1;exact⟨i,u.funcs[i],rfl,a_ hi⟩
section
set_option maxHeartbeats 8000000
attribute [local irreducible] wpListIn Code.wpIn Exit.then Exit.inBlock bodyPost wpQuiet wpAnyIn wpAnyH
theorem pL{α:Type}{ps pO:List α}{j:Nat}{y:α}(hj:ps.length=j)(bS:j<pO.length):(ps++pO.drop j).set j y=(ps++[y])++pO.drop (j+1):=by
 rw[my _ _ I,hj,dN,lR bS,bW,dz]
 rfl
theorem Uu{α:Type}(to xs ps v a b:α)(akf P X:List α):(to::xs::ps::v::a::b::((akf++P)++X)).Perm ((ps::xs::to::(P++X))++(v::a::b::akf)):=by
 have h1:(to::xs::ps::v::a::b::((akf++P)++X)).Perm ([to,xs,ps]++((v::a::b::akf)++(P++X))):=by
  simp only[aW,aO,dz];exact List.Perm.refl _
 have h2:([to,xs,ps]++((v::a::b::akf)++(P++X))).Perm ([to,xs,ps]++((P++X)++(v::a::b::akf))):=List.Perm.append_left _ cP;have h3:[to,xs,ps].Perm [ps,xs,to]:=(List.reverse_perm [to,xs,ps]).symm;have h4:=h3.append_right ((P++X)++(v::a::b::akf));refine(h1.trans (h2.trans h4)).trans ?_;simp only[aW,aO,dz];exact List.Perm.refl _
theorem aal(nm:ByteArray)(pa re:Int)(bl:List E)(bs:V)(w0:C)(m_:aG w0 bs 6 bl ed)(hlen:bl.length<=1000)(r5:∀b:aX,b.eR∈bl->wU w0 b->b.Bd):
  iC ae 61 [au #[G nm,U O pa,U O re,bs]] w0 λu w'=>∃x:Option Addr×Nat×List aX,u=au #[G nm,U O pa,U O re,J x.1 bl.length x.2.1]/\Wd cX w0 (M x.1 bl.length x.2.1 46 6 (x.2.2.flatMap bm)::x.2.2.map ck) w'/\x.2.2.map aX.eR=bl/\∀b∈x.2.2,b.Bd:=by
 obtain⟨ba,bc,q,rfl,HK,Xh,Dg⟩:=Rv m_;have Er:q.length=bl.length:=by rw[<-HK,aF]
 rw[<-Er];refine aM func61 rfl ntmps61 rfl (Wd.nil cX w0) ?_
 repeat(first|refine aU ?_|refine dZ λ_ _=>?_)
 rename_i p1 _ p2 _;refine cZ (val:=λx:Option Addr×Nat=>.slice x.1 q.length x.2) (akg:=λx=>[M x.1 q.length x.2 46 6 (q.flatMap bm)]) (φ:=λ_=>True) rfl (λw hw=>Gp ba bc q I w (Xh.bZ (λ_ _ _ _ _ h=>h) hw.ch)) λx _=>?_;obtain⟨xa,xc⟩:=x;simp only[aW,aO];refine aE ?_;refine bL (λ(ds:List aX)=>ds.length<=q.length/\ds.map aX.eR=(q.take ds.length).map aX.eR/\∀b∈ds,b.Bd) (λds=>[(16,U O ds.length),(14,J xa q.length xc),(15,U O q.length),aj 2 p2,aj 1 p1])
  (λds=>M xa q.length xc 46 6 ((ds++q.drop ds.length).flatMap bm)::K p2 [G aA,U O 0,U O 0,J A 0 0] 35::K p1 [G nm,U O pa,U O re,J xa q.length xc] 35::ds.map ck) (λds=>q.length-ds.length) [] ⟨aT _,rfl,by simp⟩ (aS ap aC) λds ⟨hi,WZ,hdb⟩=>?_
 refine aU ?_;refine aI (λh1=>?_) (λh1=>?_)
 ·have bS:ds.length<q.length:=ax h1
  generalize B0:ds.length=i at*;obtain⟨b,hb⟩:=bf q i bS;have hbq:=aq hb;have hA:=Dg b hbq;have hB:=r5 b (by rw[<-HK];exact aV.2 ⟨b,hbq,rfl⟩) hA;obtain⟨bpa,bpc,pO,bla,blc,rQ,bk,w5,OV,OW,zX⟩:=b;have hBp:=hB.aD;have hBx:=hB.list;have hBt:=hB.to.1;simp only at hBp hBx hBt;refine fL 0 rfl I λvb vo oC=>?_;subst oC;have lY:bY i q.length:=⟨bS⟩;have jS:(ds++q.drop i)[i]?=Z (⟨bpa,bpc,pO,bla,blc,rQ,bk,w5,OV,OW,zX⟩:aX):=by
   rw[dC I,B0,dN,iV,ef];exact hb
  have hoa:gQ (M (Z ⟨vb,vo,A⟩) q.length xc 46 6 ((ds++q.drop i).flatMap bm)::K p2 [G aA,U O 0,U O 0,J A 0 0] 35::K p1 [G nm,U O pa,U O re,J (Z ⟨vb,vo,A⟩) q.length xc] 35::ds.map ck) vb (vo+i*6) _:=jz (k:=0) rfl dX jS;simp only[bm]at hoa
  repeat(first|refine aE ?_|refine dZ λ_ _=>?_)
  rename_i p4 _;refine cZ (val:=λx:Option Addr×Nat=>.slice x.1 pO.length x.2) (akg:=λx=>[M x.1 pO.length x.2 49 2 (pO.flatMap cF)]) (φ:=λ_=>True) rfl (λw hw=>KR bpa bpc pO I w (hA.aD.bZ (λ_ _ _ _ _ h=>h) hw.ch)) λx _=>?_;obtain⟨ya,yc⟩:=x;simp only[aW,aO];refine aE ?_;refine bL (λ(ps:List cW)=>ps.length<=pO.length/\ps.map cW.kN=(pO.take ps.length).map cW.kN) (λps=>[(28,U O ps.length),(26,J ya pO.length yc),(27,U O pO.length),(3,U O i),aj 4 p4,(16,U O i),(14,J (Z ⟨vb,vo,A⟩) q.length xc),(15,U O q.length),aj 2 p2,aj 1 p1])
   (λps=>M ya pO.length yc 49 2 ((ps++pO.drop ps.length).flatMap cF)::K p4 [J ya pO.length yc,J bla rQ.length blc,U O bk,D w5.z,U O w5.n,J OV zX.length OW] 46::(M (Z ⟨vb,vo,A⟩) q.length xc 46 6 ((ds++q.drop i).flatMap bm)::K p2 [G aA,U O 0,U O 0,J A 0 0] 35::K p1 [G nm,U O pa,U O re,J (Z ⟨vb,vo,A⟩) q.length xc] 35::(ds.map ck++ps.map fP))) (λps=>pO.length-ps.length) [] ⟨aT _,rfl⟩ (aS ap aC) λps ⟨hj,zO⟩=>?_
  refine aU ?_;refine aI (λh2=>?_) (λh2=>?_)
  ·have jw:ps.length<pO.length:=ax h2
   generalize hjL:ps.length=j at*;obtain⟨p,hp⟩:=bf pO j jw;have aec:=aq hp;obtain⟨ZK,Jc⟩:=hA.kN p aec;obtain⟨_,Fq,_⟩:=hB.kN p aec;obtain⟨pd,nM,fE,pl⟩:=p;simp only at ZK Jc Fq;refine fL 0 rfl I λzb zo GX=>?_;subst GX;have Lr:bY j pO.length:=⟨jw⟩;have Zt:(ps++pO.drop j)[j]?=Z (⟨pd,nM,fE,pl⟩:cW):=by
    rw[dC I,hjL,dN,iV,ef];exact hp
   have zN:gQ (M (Z ⟨zb,zo,A⟩) pO.length yc 49 2 ((ps++pO.drop j).flatMap cF)::K p4 [J (Z ⟨zb,zo,A⟩) pO.length yc,J bla rQ.length blc,U O bk,D w5.z,U O w5.n,J OV zX.length OW] 46::(M (Z ⟨vb,vo,A⟩) q.length xc 46 6 ((ds++q.drop i).flatMap bm)::K p2 [G aA,U O 0,U O 0,J A 0 0] 35::K p1 [G nm,U O pa,U O re,J (Z ⟨vb,vo,A⟩) q.length xc] 35::(ds.map ck++ps.map fP))) zb (zo+j*2) _:=jz (k:=0) rfl fV Zt;simp only[cF]at zN
   repeat(first|refine aE ?_|refine dZ λ_ _=>?_)
   rename_i p6 _;refine tS (K p6 [U O pd,J nM pl.length fE] 49::K p4 [J (Z ⟨zb,zo,A⟩) pO.length yc,J bla rQ.length blc,U O bk,D w5.z,U O w5.n,J OV zX.length OW] 46::(M (Z ⟨vb,vo,A⟩) q.length xc 46 6 ((ds++q.drop i).flatMap bm)::K p2 [G aA,U O 0,U O 0,J A 0 0] 35::K p1 [G nm,U O pa,U O re,J (Z ⟨vb,vo,A⟩) q.length xc] 35::(ds.map ck++ps.map fP))) mixed aw ?_;refine ag 0 ?_;refine ag 1 ?_;refine ag 2 ?_;refine ag 3 ?_;refine ag 4 ?_;refine yT 5 (val:=λx:Option Addr×Nat=>.slice x.1 pl.length x.2) (akg:=λx=>[M x.1 pl.length x.2 41 2 (pl.flatMap dB)]) (φ:=λ_=>True) rfl ai aw (λw hw=>xz nM fE pl I w ((Hy Jc).bZ (λ_ _ _ _ _ h=>h) hw.ch)) λx _=>?_;obtain⟨na,nc⟩:=x;simp only[aW,aO];refine ag 6 ?_;refine ag 7 ?_;have ZJ:oI (M na pl.length nc 41 2 (pl.flatMap dB)::K p6 [U O pd,J nM pl.length fE] 49::M (Z ⟨zb,zo,A⟩) pO.length yc 49 2 ((ps++pO.drop j).flatMap cF)::K p4 [J (Z ⟨zb,zo,A⟩) pO.length yc,J bla rQ.length blc,U O bk,D w5.z,U O w5.n,J OV zX.length OW] 46::(M (Z ⟨vb,vo,A⟩) q.length xc 46 6 ((ds++q.drop i).flatMap bm)::K p2 [G aA,U O 0,U O 0,J A 0 0] 35::K p1 [G nm,U O pa,U O re,J (Z ⟨vb,vo,A⟩) q.length xc] 35::(ds.map ck++ps.map fP))) zb (zo+j*2+1) 2 zo (j*2+1) pO.length yc 49 2 ((ps++pO.drop j).flatMap cF):=⟨rfl,I⟩;have nK:mV ((ps++pO.drop j).flatMap cF) (j*2+1) (J na pl.length nc) (((ps++[(⟨pd,na,nc,pl⟩:cW)])++pO.drop (j+1)).flatMap cF):=⟨by
     rw[gN fV Zt (k:=1) I (y:=⟨pd,na,nc,pl⟩) rfl];congr 1;exact pL hjL jw,by rw[cj fV,bX,eY];omega⟩
   refine kX 8 ai ai aw ?_;refine aH ?_;have ly:(ps++[(⟨pd,na,nc,pl⟩:cW)]).length=j+1:=by simp[hjL]
   refine jQ (L':=[(28,U O ((j:Int)+1)),(26,J (Z ⟨zb,zo,A⟩) pO.length yc),(27,U O pO.length),(3,U O i),aj 4 p4,(16,U O i),(14,J (Z ⟨vb,vo,A⟩) q.length xc),(15,U O q.length),aj 2 p2,aj 1 p1]) ap (dM (.cons _ (.refl _))) ?_;refine bi (cP (l₁:=[M na pl.length nc 41 2 (pl.flatMap dB)])) ?_;refine fC (H1:=M (Z ⟨zb,zo,A⟩) pO.length yc 49 2 (((ps++[(⟨pd,na,nc,pl⟩:cW)])++pO.drop (ps++[(⟨pd,na,nc,pl⟩:cW)]).length).flatMap cF)::K p4 [J (Z ⟨zb,zo,A⟩) pO.length yc,J bla rQ.length blc,U O bk,D w5.z,U O w5.n,J OV zX.length OW] 46::M (Z ⟨vb,vo,A⟩) q.length xc 46 6 ((ds++q.drop i).flatMap bm)::K p2 [G aA,U O 0,U O 0,J A 0 0] 35::K p1 [G nm,U O pa,U O re,J (Z ⟨vb,vo,A⟩) q.length xc] 35::(ds.map ck++(ps++[(⟨pd,na,nc,pl⟩:cW)]).map fP)) ?_ ?_
   ·rw[ly]
    simp only[aW,bz,bT,dn,dz,fP]
   refine jQ (L':=[(28,U O ((ps++[(⟨pd,na,nc,pl⟩:cW)]).length:Nat)),(26,J (Z ⟨zb,zo,A⟩) pO.length yc),(27,U O pO.length),(3,U O i),aj 4 p4,(16,U O i),(14,J (Z ⟨vb,vo,A⟩) q.length xc),(15,U O q.length),aj 2 p2,aj 1 p1]) ?_ (.refl _) ?_
   ·rw[ly]
    exact ap
   refine bj (ps++[(⟨pd,na,nc,pl⟩:cW)]) ⟨by rw[ly];omega,?_⟩ (by rw[ly];omega) ap aK;rw[ly,cz,hp,bz,bz,zO];rfl
  ·have gP:ps.length=pO.length:=by have:=h2;simp at this;omega
   rw[gP,iU,cD];rw[gP,cQ]at zO;refine aE ?_;refine cZ (val:=λx:Option Addr×Nat=>.slice x.1 rQ.length x.2) (akg:=λx=>[M x.1 rQ.length x.2 56 8 (rQ.flatMap fe)]) (φ:=λ_=>True) rfl (λw hw=>KQ bla blc rQ I w (hA.list.bZ (λ_ _ _ _ _ h=>h) hw.ch)) λx _=>?_;obtain⟨ia,ic⟩:=x;simp only[aW,aO];refine aE ?_;refine bi (H1:=M ia rQ.length ic 56 8 (rQ.flatMap fe)::K p4 [J ya pO.length yc,J ia rQ.length ic,U O bk,D w5.z,U O w5.n,J OV zX.length OW] 46::M ya pO.length yc 49 2 (ps.flatMap cF)::M (Z ⟨vb,vo,A⟩) q.length xc 46 6 ((ds++q.drop i).flatMap bm)::K p2 [G aA,U O 0,U O 0,J A 0 0] 35::K p1 [G nm,U O pa,U O re,J (Z ⟨vb,vo,A⟩) q.length xc] 35::(ds.map ck++ps.map fP)) (List.Perm.cons _ (List.Perm.swap _ _ _)) ?_;refine bL (λ(is:List jG)=>is.length<=rQ.length/\is.map (·.x)=(rQ.take is.length).map (·.x)) (λis=>[(49,U O is.length),(47,J ia rQ.length ic),(48,U O rQ.length),(3,U O i),aj 4 p4,(16,U O i),(14,J (Z ⟨vb,vo,A⟩) q.length xc),(15,U O q.length),aj 2 p2,aj 1 p1])
    (λis=>M ia rQ.length ic 56 8 ((is++rQ.drop is.length).flatMap fe)::K p4 [J ya pO.length yc,J ia rQ.length ic,U O bk,D w5.z,U O w5.n,J OV zX.length OW] 46::M ya pO.length yc 49 2 (ps.flatMap cF)::M (Z ⟨vb,vo,A⟩) q.length xc 46 6 ((ds++q.drop i).flatMap bm)::K p2 [G aA,U O 0,U O 0,J A 0 0] 35::K p1 [G nm,U O pa,U O re,J (Z ⟨vb,vo,A⟩) q.length xc] 35::((ds.map ck++ps.map fP)++is.map j1)) (λis=>rQ.length-is.length) [] ⟨aT _,rfl⟩ (aS ap aC) λis ⟨hj,VP⟩=>?_
   refine aU ?_;refine aI (λh3=>?_) (λh3=>?_)
   ·have jw:is.length<rQ.length:=ax h3
    generalize hjL:is.length=j at*;obtain⟨y,hy⟩:=bf rQ j jw;have xK:=aq hy;obtain⟨_,Xz⟩:=hA.ins y xK;obtain⟨_,Dm,_⟩:=hB.ins y xK;obtain⟨yx,YQ,YR⟩:=y;simp only at Xz Dm;refine fL 0 rfl I λzb zo GX=>?_;subst GX;have Lr:bY j rQ.length:=⟨jw⟩;have I3:(is++rQ.drop j)[j]?=Z (⟨yx,YQ,YR⟩:jG):=by
     rw[dC I,hjL,dN,iV,ef];exact hy
    have zN:gQ (M (Z ⟨zb,zo,A⟩) rQ.length ic 56 8 ((is++rQ.drop j).flatMap fe)::K p4 [J ya pO.length yc,J (Z ⟨zb,zo,A⟩) rQ.length ic,U O bk,D w5.z,U O w5.n,J OV zX.length OW] 46::M ya pO.length yc 49 2 (ps.flatMap cF)::M (Z ⟨vb,vo,A⟩) q.length xc 46 6 ((ds++q.drop i).flatMap bm)::K p2 [G aA,U O 0,U O 0,J A 0 0] 35::K p1 [G nm,U O pa,U O re,J (Z ⟨vb,vo,A⟩) q.length xc] 35::((ds.map ck++ps.map fP)++is.map j1)) zb (zo+j*8) _:=jz (k:=0) rfl jW I3;simp only[fe]at zN
    repeat(first|refine aE ?_|refine dZ λ_ _=>?_)
    rename_i p8 _;refine tS (K p8 [U O yx.op,U O yx.dst,D yx.a.z,U O yx.a.n,D yx.b.z,U O yx.b.n,U O yx.fn,J YQ yx.args.length YR] 56::K p4 [J ya pO.length yc,J (Z ⟨zb,zo,A⟩) rQ.length ic,U O bk,D w5.z,U O w5.n,J OV zX.length OW] 46::M ya pO.length yc 49 2 (ps.flatMap cF)::M (Z ⟨vb,vo,A⟩) q.length xc 46 6 ((ds++q.drop i).flatMap bm)::K p2 [G aA,U O 0,U O 0,J A 0 0] 35::K p1 [G nm,U O pa,U O re,J (Z ⟨vb,vo,A⟩) q.length xc] 35::((ds.map ck++ps.map fP)++is.map j1)) mixed aw ?_;refine ag 0 ?_;refine ag 1 ?_;refine ag 2 ?_;refine ag 3 ?_;refine ag 4 ?_;refine yT 5 (val:=λx:Option Addr×Nat=>.slice x.1 yx.args.length x.2) (akg:=λx=>[M x.1 yx.args.length x.2 41 2 (yx.args.flatMap dB)]) (φ:=λ_=>True) rfl ai aw (λw hw=>xz YQ YR yx.args I w ((Hy Xz).bZ (λ_ _ _ _ _ h=>h) hw.ch)) λx _=>?_;obtain⟨na,nc⟩:=x;simp only[aW,aO];refine ag 6 ?_;refine ag 7 ?_;have ZJ:oI (M na yx.args.length nc 41 2 (yx.args.flatMap dB)::K p8 [U O yx.op,U O yx.dst,D yx.a.z,U O yx.a.n,D yx.b.z,U O yx.b.n,U O yx.fn,J YQ yx.args.length YR] 56::M (Z ⟨zb,zo,A⟩) rQ.length ic 56 8 ((is++rQ.drop j).flatMap fe)::K p4 [J ya pO.length yc,J (Z ⟨zb,zo,A⟩) rQ.length ic,U O bk,D w5.z,U O w5.n,J OV zX.length OW] 46::M ya pO.length yc 49 2 (ps.flatMap cF)::M (Z ⟨vb,vo,A⟩) q.length xc 46 6 ((ds++q.drop i).flatMap bm)::K p2 [G aA,U O 0,U O 0,J A 0 0] 35::K p1 [G nm,U O pa,U O re,J (Z ⟨vb,vo,A⟩) q.length xc] 35::((ds.map ck++ps.map fP)++is.map j1)) zb (zo+j*8+7) 2 zo (j*8+7) rQ.length ic 56 8 ((is++rQ.drop j).flatMap fe):=⟨rfl,I⟩;have nK:mV ((is++rQ.drop j).flatMap fe) (j*8+7) (J na yx.args.length nc) (((is++[(⟨yx,na,nc⟩:jG)])++rQ.drop (j+1)).flatMap fe):=⟨by
      rw[gN jW I3 (k:=7) I (y:=⟨yx,na,nc⟩) rfl];congr 1;exact pL hjL jw,by rw[cj jW,bX,eY];omega⟩
    refine kX 8 ai ai aw ?_;refine aH ?_;have ly:(is++[(⟨yx,na,nc⟩:jG)]).length=j+1:=by simp[hjL]
    refine jQ (L':=[(49,U O ((j:Int)+1)),(47,J (Z ⟨zb,zo,A⟩) rQ.length ic),(48,U O rQ.length),(3,U O i),aj 4 p4,(16,U O i),(14,J (Z ⟨vb,vo,A⟩) q.length xc),(15,U O q.length),aj 2 p2,aj 1 p1]) ap (dM (.cons _ (.refl _))) ?_;refine bi (cP (l₁:=[M na yx.args.length nc 41 2 (yx.args.flatMap dB)])) ?_;refine fC (H1:=M (Z ⟨zb,zo,A⟩) rQ.length ic 56 8 (((is++[(⟨yx,na,nc⟩:jG)])++rQ.drop (is++[(⟨yx,na,nc⟩:jG)]).length).flatMap fe)::K p4 [J ya pO.length yc,J (Z ⟨zb,zo,A⟩) rQ.length ic,U O bk,D w5.z,U O w5.n,J OV zX.length OW] 46::M ya pO.length yc 49 2 (ps.flatMap cF)::M (Z ⟨vb,vo,A⟩) q.length xc 46 6 ((ds++q.drop i).flatMap bm)::K p2 [G aA,U O 0,U O 0,J A 0 0] 35::K p1 [G nm,U O pa,U O re,J (Z ⟨vb,vo,A⟩) q.length xc] 35::((ds.map ck++ps.map fP)++(is++[(⟨yx,na,nc⟩:jG)]).map j1)) ?_ ?_
    ·rw[ly]
     simp only[aW,bz,bT,dn,dz,j1]
    refine jQ (L':=[(49,U O ((is++[(⟨yx,na,nc⟩:jG)]).length:Nat)),(47,J (Z ⟨zb,zo,A⟩) rQ.length ic),(48,U O rQ.length),(3,U O i),aj 4 p4,(16,U O i),(14,J (Z ⟨vb,vo,A⟩) q.length xc),(15,U O q.length),aj 2 p2,aj 1 p1]) ?_ (.refl _) ?_
    ·rw[ly]
     exact ap
    refine bj (is++[(⟨yx,na,nc⟩:jG)]) ⟨by rw[ly];omega,?_⟩ (by rw[ly];omega) ap aK;rw[ly,cz,hy,bz,bz,VP];rfl
   ·have hgi:is.length=rQ.length:=by have:=h3;simp at this;omega
    rw[hgi,iU,cD];rw[hgi,cQ]at VP;refine aE ?_;refine cZ (val:=λx:Option Addr×Nat=>.slice x.1 zX.length x.2) (akg:=λx=>[M x.1 zX.length x.2 3 1 (zX.map (U O))]) (φ:=λ_=>True) rfl (λw hw=>Cz OV OW zX I w (hA.to.bZ dP hw.ch)) λx _=>?_;obtain⟨oa,oc⟩:=x;simp only[aW,aO];refine aE ?_;rw[<-gP,<-hgi];refine kZ 4 (j:=i*6) rfl rfl (by rw[cj dX,bX,eY];omega) ?_;have mq:=jP dX (l:=ds++q.drop i) (i:=i) (by rw[bX,eY];omega) (⟨ya,yc,ps,ia,ic,is,bk,w5,oa,oc,zX⟩:aX);rw[pL B0 bS]at mq;simp only[bm]at mq;rw[mq];refine aH ?_;have ly:(ds++[(⟨ya,yc,ps,ia,ic,is,bk,w5,oa,oc,zX⟩:aX)]).length=i+1:=by simp[B0]
    refine jQ (L':=[(16,U O ((i:Int)+1)),(14,J (Z ⟨vb,vo,A⟩) q.length xc),(15,U O q.length),aj 2 p2,aj 1 p1]) ap (H':=M oa zX.length oc 3 1 (zX.map (U O))::M ia is.length ic 56 8 (is.flatMap fe)::M ya ps.length yc 49 2 (ps.flatMap cF)::M (Z ⟨vb,vo,A⟩) q.length xc 46 6 (((ds++[(⟨ya,yc,ps,ia,ic,is,bk,w5,oa,oc,zX⟩:aX)])++q.drop (i+1)).flatMap bm)::K p2 [G aA,U O 0,U O 0,J A 0 0] 35::K p1 [G nm,U O pa,U O re,J (Z ⟨vb,vo,A⟩) q.length xc] 35::((ds.map ck++ps.map fP)++is.map j1)) (dM (dM (.cons _ (.refl _)))) ?_;refine bi (Uu _ _ _ _ _ _ (ds.map ck) (ps.map fP) (is.map j1)) ?_;refine GA ?_;refine bi (cP (l₁:=[ck (⟨ya,yc,ps,ia,ic,is,bk,w5,oa,oc,zX⟩:aX)])) ?_;refine fC (H1:=M (Z ⟨vb,vo,A⟩) q.length xc 46 6 (((ds++[(⟨ya,yc,ps,ia,ic,is,bk,w5,oa,oc,zX⟩:aX)])++q.drop (ds++[(⟨ya,yc,ps,ia,ic,is,bk,w5,oa,oc,zX⟩:aX)]).length).flatMap bm)::K p2 [G aA,U O 0,U O 0,J A 0 0] 35::K p1 [G nm,U O pa,U O re,J (Z ⟨vb,vo,A⟩) q.length xc] 35::(ds++[(⟨ya,yc,ps,ia,ic,is,bk,w5,oa,oc,zX⟩:aX)]).map ck) ?_ ?_
    ·rw[ly]
     simp only[aW,bz,bT,dn]
    refine jQ (L':=[(16,U O ((ds++[(⟨ya,yc,ps,ia,ic,is,bk,w5,oa,oc,zX⟩:aX)]).length:Nat)),(14,J (Z ⟨vb,vo,A⟩) q.length xc),(15,U O q.length),aj 2 p2,aj 1 p1]) ?_ (.refl _) ?_
    ·rw[ly]
     exact ap
    refine bj (ds++[(⟨ya,yc,ps,ia,ic,is,bk,w5,oa,oc,zX⟩:aX)]) ⟨by rw[ly];omega,?_,λc hc=>?_⟩ (by rw[ly];omega) ap aK
    ·rw[ly,cz,hb,bz,bz,WZ]
     simp[aX.eR,zO,VP]
    ·rcases bA.1 hc with hc|hc
     ·exact hdb c hc
     ·rw[bR.1 hc]
      refine⟨hB.kind,hB.on,by simp only;omega,λp hp=>?_,by simp only;omega,λy hy=>?_,hB.to⟩
      ·have:cW.kN p∈pO.map cW.kN:=by rw[<-zO];exact aV.2 ⟨p,hp,rfl⟩
       obtain⟨p',wi,e⟩:=aV.1 this;have:=hB.kN p' wi;simp only[cW.kN,ep.mk.injEq]at e;rw[e.1,e.2]at this;exact this
      ·have:y.x∈rQ.map (·.x):=by rw[<-VP];exact aV.2 ⟨y,hy,rfl⟩
       obtain⟨y',VV,e⟩:=aV.1 this;have:=hB.ins y' VV;rw[e]at this;exact this
 ·have gP:ds.length=q.length:=by have:=h1;simp at this;omega
  rw[gP,iU,cD];rw[gP,cQ,HK]at WZ;refine aE ?_;refine gw rfl λw hw=>⟨(xa,xc,ds),rfl,hw.sub (dM (.cons _ (.cons _ (.refl _)))),WZ,hdb⟩
def eB(bl:List E):Nat:=(bl.map λb=>b.aD.length+b.list.length).sum
def sG(bl:List E)(re:Int):Bool:=decide (40<bl.length)||(decide (300<eB bl)||decide (100<re))
theorem FG{bl:List E}{i:Nat}{b:E}(h:bl[i]?=Z b):eB (bl.take (i+1))=eB (bl.take i)+(b.aD.length+b.list.length):=by
 unfold eB;rw[cz,h];simp
theorem XL{bl:List E}(h:∀b∈bl,b.aD.length<=1000/\b.list.length<=1000):∀i,eB (bl.take i)<=2000*i:=by
 intro i
 induction i with
 |zero=>simp[eB]
 |succ i ih=>
  cases hb:bl[i]? with
  |none=>
   have:bl.take (i+1)=bl.take i:=by rw[cz,hb];simp
   rw[this];omega
  |some b=>
   have:=h b (aq hb);rw[FG hb];omega
theorem XG(nm pa:V)(re:Int)(bl:List E)(bs:V)(w0:C)(m_:aG w0 bs 6 bl ed)(hlen:bl.length<=1000)(hb:∀b∈bl,b.aD.length<=1000/\b.list.length<=1000):
  eP ae 62 [au #[nm,pa,U O re,bs]] w0 (D (sG bl re)):=by
 obtain⟨ba,n,bc,bb,bo,rfl,hn,qP,GM,Pg,yh,ji⟩:=m_;refine aM func62 rfl ntmps62 rfl (Wd.nil cX w0) ?_
 repeat(first|refine aH ?_|refine dZ λ_ _=>?_)
 rename_i p1 _;have s6:=XL hb;refine bL (λ(i:Nat)=>i<=n) (λi=>[(9,U O i),(3,U O (eB (bl.take i))),(7,J ba n bc),(8,U O n),aj 1 p1]) (λ_=>[K p1 [nm,pa,U O re,J ba n bc] 35]) (λi=>n-i) 0 (aT _) (aS ap aK) λi hi=>?_;refine aU ?_;refine aI (λh1=>?_) (λh1=>?_)
 ·have bS:i<n:=ax h1
  obtain⟨B,hB⟩:=et hn bS;have oW:bU ba bb bo:=⟨yh (aL hB)⟩;have lY:bY i n:=⟨bS⟩;obtain⟨cs,fT,pv,lv,tv,rfl,_,_,Jc,W_,ZT⟩:=ji i B hB;obtain⟨VZ,pn,pc,_,_,rfl,Fs,_⟩:=Jc;obtain⟨la,ln,lc,_,_,rfl,HJ,_⟩:=W_;obtain⟨ta,tn,tc,_,_,rfl,uW,_⟩:=ZT;have n_:a6 w0 bb (bo+i*6) _:=⟨fT⟩;have hBl:=hb B (aq hB);have hm:=s6 i
  repeat(first|refine aE ?_|refine dZ λ_ _=>?_)
  refine jQ (L':=[(9,U O ((i:Int)+1)),(3,U O (eB (bl.take (i+1)))),(7,J ba n bc),(8,U O n),aj 1 p1]) ?_ (.refl _) ?_
  ·rw[FG hB,<-Fs,<-HJ]
   rw[show(((eB (bl.take i)+(pn+ln):Nat):Int))=(eB (bl.take i):Int)+((pn:Int)+(ln:Int)) by omega];exact ap
  exact bj (i+1) bS I ap aw
 ·have gP:i=n:=by have:=h1;simp at this;omega
  rw[gP,hn,cQ];have HJ:=hn;refine aE ?_
  by_cases h40:40<bl.length
  ·rw[show decide ((40:Int)<(bl.length:Int))=true by simp;omega]
   refine iL ?_;exact bP rfl (by simp[sG,h40])
  rw[show decide ((40:Int)<(bl.length:Int))=false by simp;omega];refine aE ?_
  by_cases acN:300<eB bl
  ·rw[show decide ((300:Int)<(eB bl:Int))=true by simp;omega]
   refine iL ?_;exact bP rfl (by simp[sG,acN])
  rw[show decide ((300:Int)<(eB bl:Int))=false by simp;omega];refine aE ?_;exact bP rfl (by simp[sG,h40,acN])
structure oz where
 name:ByteArray
 size:Int
 a:Option Addr
 c:Nat
 init:List Int
structure pZ where
 name:ByteArray
 params:Int
 aB:Int
 a:Option Addr
 c:Nat
 blocks:List E
def oz.O8(g:oz):jt:=⟨g.name,g.size,g.init⟩
def pZ.xB(q:pZ):aY:=⟨q.name,q.params,q.aB,q.blocks⟩
def sX(g:oz):List V:=[G g.name,U O g.size,J g.a g.init.length g.c]
def yK(q:pZ):List V:=[G q.name,U O q.params,U O q.aB,J q.a q.blocks.length q.c]
def Ac(g:oz):bN:=M g.a g.init.length g.c 3 1 (g.init.map (U O))
theorem yS(g:oz):(sX g).length=3:=rfl
theorem yL(q:pZ):(yK q).length=4:=rfl
def aab(_:C)(g:oz)(cs:List V):Prop:=cs=sX g
def aaa(_:C)(q:pZ)(cs:List V):Prop:=cs=yK q
theorem R1{w:C}{v:V}{l:List jt}(h:aG w v 3 l fg):∃(a:Option Addr) (c:Nat) (gs:List oz),v=J a gs.length c/\gs.map oz.O8=l/\aG w v 3 gs aab/\∀g∈gs,dk g.size/\aG w (J g.a g.init.length g.c) 1 g.init fI:=by
 obtain⟨a,n,c,b,o,rfl,hn,_⟩:=id h;obtain⟨m,s6,rq,hq⟩:=tC (aj7:=aab) (q:=λx y=>oz.O8 y=x/\dk y.size/\aG w (J y.a y.init.length y.c) 1 y.init fI) h λx _ cs ⟨v,e,hd,hs⟩=>by
  have Pz:=hs;obtain⟨a',n',c',_,_,rfl,Pv,_⟩:=Pz;subst Pv;exact⟨⟨x.name,x.size,a',c',x.init⟩,e,rfl,hd,hs⟩
 have Al:=vF (f:=oz.O8) s6 λi x hx=>by
  obtain⟨y,hy,e,_⟩:=hq i x hx;exact⟨y,hy,e⟩
 refine⟨a,c,m,by rw[s6,hn],Al,rq,λp hp=>?_⟩;obtain⟨i,hi⟩:=bg hp;obtain⟨y,hy,_,h2⟩:=hq i (l[i]'(by rw[<-s6];exact(az.1 hi).1)) (a_ _);rw[hi]at hy;obtain rfl:=a7 hy;exact h2
theorem RO{w:C}{v:V}{l:List aY}(h:aG w v 4 l gq):∃(a:Option Addr) (c:Nat) (qs:List pZ),v=J a qs.length c/\qs.map pZ.xB=l/\aG w v 4 qs aaa/\∀q∈qs,(dk q.params/\dk q.aB)/\aG w (J q.a q.blocks.length q.c) 6 q.blocks ed:=by
 obtain⟨a,n,c,b,o,rfl,hn,_⟩:=id h;obtain⟨m,s6,rq,hq⟩:=tC (aj7:=aaa) (q:=λx y=>pZ.xB y=x/\(dk y.params/\dk y.aB)/\aG w (J y.a y.blocks.length y.c) 6 y.blocks ed) h λx _ cs ⟨v,e,hp,hr,hs⟩=>by
  have Pz:=hs;obtain⟨a',n',c',_,_,rfl,Pv,_⟩:=Pz;subst Pv;exact⟨⟨x.name,x.params,x.aB,a',c',x.blocks⟩,e,rfl,⟨hp,hr⟩,hs⟩
 have Al:=vF (f:=pZ.xB) s6 λi x hx=>by
  obtain⟨y,hy,e,_⟩:=hq i x hx;exact⟨y,hy,e⟩
 refine⟨a,c,m,by rw[s6,hn],Al,rq,λp hp=>?_⟩;obtain⟨i,hi⟩:=bg hp;obtain⟨y,hy,_,h2⟩:=hq i (l[i]'(by rw[<-s6];exact(az.1 hi).1)) (a_ _);rw[hi]at hy;obtain rfl:=a7 hy;exact h2
theorem EC(a:Option Addr)(c:Nat)(l:List oz)(hb:l.length<=100000)(w0:C)(h:aG w0 (J a l.length c) 3 l aab):
  iC ae 58 [J a l.length c] w0 λu w'=>∃x:Option Addr×Nat,u=J x.1 l.length x.2/\Wd cX w0 [M x.1 l.length x.2 65 3 (l.flatMap sX)] w'/\True:=by
 refine aM func58 rfl ntmps58 rfl (Wd.nil cX w0) ?_;refine aU ?_;cases a with
 |none=>
  have BF:l=[]:=by
   obtain⟨_,_,_,b,o,ha,_⟩:=h.at;exact Classical.byContradiction λhn=>by cases ha hn
  subst BF;refine aE ?_;refine fU 65 3 ?_;exact cE rfl λw hw=>⟨(A,0),rfl,hw,trivial⟩
 |some ad=>
  refine aH ?_;refine nY rfl λeb _=>?_;refine aU ?_;refine lV rfl rfl l sX (λ_ _ _ h=>h) (λ_=>rfl) (λy u hu=>by simp only[sX,bD,h_,or_false]at hu;rcases hu with rfl|rfl|rfl<;>rfl) (λw hw=>h.bZ (λ_ _ _ _ _ h=>h) hw.ch) I I λa' c'=>?_;rw[aO,di];refine aH ?_;exact cE rfl λw hw=>⟨(a',c'),rfl,hw,trivial⟩
theorem Ih(a:Option Addr)(c:Nat)(l:List pZ)(hb:l.length<=100000)(w0:C)(h:aG w0 (J a l.length c) 4 l aaa):
  iC ae 60 [J a l.length c] w0 λu w'=>∃x:Option Addr×Nat,u=J x.1 l.length x.2/\Wd cX w0 [M x.1 l.length x.2 35 4 (l.flatMap yK)] w'/\True:=by
 refine aM func60 rfl ntmps60 rfl (Wd.nil cX w0) ?_;refine aU ?_;cases a with
 |none=>
  have BF:l=[]:=by
   obtain⟨_,_,_,b,o,ha,_⟩:=h.at;exact Classical.byContradiction λhn=>by cases ha hn
  subst BF;refine aE ?_;refine fU 35 4 ?_;exact cE rfl λw hw=>⟨(A,0),rfl,hw,trivial⟩
 |some ad=>
  refine aH ?_;refine nY rfl λeb _=>?_;refine aU ?_;refine lV rfl rfl l yK (λ_ _ _ h=>h) (λ_=>rfl) (λy u hu=>by simp only[yK,bD,h_,or_false]at hu;rcases hu with rfl|rfl|rfl|rfl<;>rfl) (λw hw=>h.bZ (λ_ _ _ _ _ h=>h) hw.ch) I I λa' c'=>?_;rw[aO,di];refine aH ?_;exact cE rfl λw hw=>⟨(a',c'),rfl,hw,trivial⟩
def fS(a:Option Addr)(c:Nat)(bs:List aX):List bN:=M a bs.length c 46 6 (bs.flatMap bm)::bs.map ck
def E0(w0:C)(tf:Nat)(us xs:List V)(T:aY->aY)(X:aY):Prop:=∀(a:Option Addr) (c:Nat) (bs:List aX) (w:C),bs.map aX.eR=X.blocks->(∀b∈bs,b.Bd)->l_ cX w0 w->(∀b,cH (fS a c bs) b->w0.heap.size<=b)->Wd (cH (fS a c bs)) w (fS a c bs) w->
 iC ae tf (us++[au #[G X.name,U O X.params,U O X.aB,J a bs.length c]]++xs) w λu w'=>∃x:Option Addr×Nat×List aX,u=au #[G (T X).name,U O (T X).params,U O (T X).aB,J x.1 x.2.2.length x.2.1]/\Wd (cH (fS a c bs)) w (fS x.1 x.2.1 x.2.2) w'/\
  (x.2.2.map aX.eR=(T X).blocks/\(∀b∈x.2.2,b.Bd)/\x.2.2.length<=1000/\dk (T X).params/\dk (T X).aB)
structure F7 where
 q:pZ
 fp:Nat->Prop
def Bc(d:F7):bN:=⟨d.fp,λw=>aG w (J d.q.a d.q.blocks.length d.q.c) 6 d.q.blocks ed⟩
structure MS(X:aY):Prop where
 n:X.blocks.length<=1000
 each:∀b∈X.blocks,b.aD.length<=1000/\(∀p∈b.aD,p.src.length<=1000)/\b.list.length<=1000/\(∀i∈b.list,i.args.length<=1000)/\b.to.length<=1000
theorem MS.bd{X:aY}(h:MS X){w:C}{b:aX}(hb:b.eR∈X.blocks)(hA:wU w b):b.Bd:=by
 obtain⟨h1,h2,h3,h4,h5⟩:=h.each _ hb;simp only[aX.eR,aF]at h1 h3 h5;exact hA.bd h1 (λp hp=>h2 p.kN (by simp only[aX.eR];exact aV.2 ⟨p,hp,rfl⟩)) h3 (λi hi=>h4 i.x (by simp only[aX.eR];exact aV.2 ⟨i,hi,rfl⟩)) h5
def gp(X:aY):Bool:=sG X.blocks X.aB
def Kh(u:a8)(g f:V)(fp:Nat->Prop):bN:=⟨fp,λw=>aG w g 3 u.globals fg/\aG w f 4 u.funcs gq⟩
def Rh(u:a8)(T:aY->aY)(w0:C)(v:V)(w':C):Prop:=
 (∃(i:Nat) (X:aY),u.funcs[i]?=Z X/\gp (T X)=true/\(∀(j:Nat) (Y:aY),j<i->u.funcs[j]?=Z Y->gp (T Y)=false)/\v=.tuple #[au #[J A 0 0,J A 0 0],au #[U O 10,U O i]]/\l_ cX w0 w')∨
  ((∀X∈u.funcs,gp (T X)=false)/\∃(ga fa:Option Addr) (gc fc:Nat) (fp:Nat->Prop),v=.tuple #[au #[J ga u.globals.length gc,J fa u.funcs.length fc],au #[U O 0,U O 0]]/\Wd cX w0 [Kh {u with funcs:=u.funcs.map T} (J ga u.globals.length gc) (J fa u.funcs.length fc) fp] w')
theorem RU{N:Nat}{ds:List Deferred}{S:Nat->Prop}{w0:C}{L:List (Nat×V)}{H:List bN}{p:Act->C->Prop}{a:Option Addr}{c:Nat}{bs:List aX}(q:pZ)(hn:bs.length<=1000)(hb:∀b∈bs,b.Bd)(hq:bs.map aX.eR=q.blocks)(ha:q.a=a)(hc:q.c=c)
  (k:aki N ds S w0 L (Bc ⟨q,cH (fS a c bs)⟩::H) p):aki N ds S w0 L (fS a c bs++H) p:=λact w hS=>k act w ⟨hS.fr,hS.wd.pack _ λw2 hw=>by
 subst ha;subst hc;have hl:q.blocks.length=bs.length:=by rw[<-hq,aF]
 have h2:Wd (cH (fS q.a q.c bs)) w2 (M q.a bs.length q.c 46 6 (bs.flatMap bm)::(bs.map ck++[])) w2:=by rw[cD];exact hw
 have:=h2.blocks hn hb;rw[hq]at this;simp only[hl];exact this⟩
theorem aap(u:a8)(hgl:u.globals.length<=100000/\∀g∈u.globals,g.init.length<=100000)(Fm:u.funcs.length<=1000/\∀X∈u.funcs,MS X)(g fs:V)(w0:C)(hg:aG w0 g 3 u.globals fg)(hf:aG w0 fs 4 u.funcs gq)
  (tf:Nat) [aQ ae tf] (us xs:List V) (T:aY->aY) (hT:∀X∈u.funcs,E0 w0 tf us xs T X):
  iC ae 24 [au #[g,fs],.func (.func tf) us.toArray xs.toArray] w0 (Rh u T w0):=by
 obtain⟨ga,gc,gs,rfl,hgm,hgs,W5⟩:=R1 hg;obtain⟨fa,fc,qs,rfl,HK,Xh,Dg⟩:=RO hf;have aiQ:gs.length=u.globals.length:=by rw[<-hgm,aF]
 have ajG:qs.length=u.funcs.length:=by rw[<-HK,aF]
 refine aM func24 rfl ntmps24 rfl (Wd.nil cX w0) ?_
 repeat(first|refine aU ?_|refine dZ λ_ _=>?_)
 rename_i p1 _ p2 _ p3 _;refine cZ (val:=λx:Option Addr×Nat=>.slice x.1 gs.length x.2) (akg:=λx=>[M x.1 gs.length x.2 65 3 (gs.flatMap sX)]) (φ:=λ_=>True) rfl (λw hw=>EC ga gc gs I w (hgs.bZ (λ_ _ _ _ _ h=>h) hw.ch)) λx _=>?_;obtain⟨xa,xc⟩:=x;simp only[aW,aO];refine aE ?_;refine bL (λ(ds:List oz)=>ds.length<=gs.length/\ds.map oz.O8=(gs.take ds.length).map oz.O8) (λds=>[(17,U O ds.length),(15,J xa gs.length xc),(16,U O gs.length),aj 2 p1,aj 4 p2,aj 5 p3,(1,(Value.func (.func tf) us.toArray xs.toArray))])
  (λds=>M xa gs.length xc 65 3 ((ds++gs.drop ds.length).flatMap sX)::K p3 [U O 0,U O 0] 28::K p2 [J A 0 0,J A 0 0] 25::K p1 [J xa gs.length xc,J fa qs.length fc] 25::ds.map Ac) (λds=>gs.length-ds.length) [] ⟨aT _,rfl⟩ (aS ap aC) λds ⟨hi,WZ⟩=>?_
 refine aU ?_;refine aI (λh1=>?_) (λh1=>?_)
 ·have bS:ds.length<gs.length:=ax h1
  generalize B0:ds.length=j at*;obtain⟨y,hy⟩:=bf gs j bS;have xK:=aq hy;obtain⟨_,Xz⟩:=W5 y xK;have Dm:=hgl.2 y.O8 (by rw[<-hgm];exact aV.2 ⟨y,xK,rfl⟩);obtain⟨yn,yz,YQ,YR,yi⟩:=y;simp only[oz.O8]at Xz Dm;refine fL 0 rfl I λzb zo GX=>?_;subst GX;have Lr:bY j gs.length:=⟨bS⟩;have I3:(ds++gs.drop j)[j]?=Z (⟨yn,yz,YQ,YR,yi⟩:oz):=by
   rw[dC I,B0,dN,iV,ef];exact hy
  have zN:gQ (M (Z ⟨zb,zo,A⟩) gs.length xc 65 3 ((ds++gs.drop j).flatMap sX)::K p3 [U O 0,U O 0] 28::K p2 [J A 0 0,J A 0 0] 25::K p1 [J (Z ⟨zb,zo,A⟩) gs.length xc,J fa qs.length fc] 25::ds.map Ac) zb (zo+j*3) _:=jz (k:=0) rfl yS I3;simp only[sX]at zN
  repeat(first|refine aE ?_|refine dZ λ_ _=>?_)
  rename_i p8 _;refine tS (K p8 [G yn,U O yz,J YQ yi.length YR] 65::K p3 [U O 0,U O 0] 28::K p2 [J A 0 0,J A 0 0] 25::K p1 [J (Z ⟨zb,zo,A⟩) gs.length xc,J fa qs.length fc] 25::ds.map Ac) mixed aw ?_;refine ag 0 ?_;refine ag 1 ?_;refine ag 2 ?_;refine ag 3 ?_;refine ag 4 ?_;refine yT 5 (val:=λx:Option Addr×Nat=>.slice x.1 yi.length x.2) (akg:=λx=>[M x.1 yi.length x.2 3 1 (yi.map (U O))]) (φ:=λ_=>True) rfl ai aw (λw hw=>Cz YQ YR yi I w (Xz.bZ dP hw.ch)) λx _=>?_;obtain⟨na,nc⟩:=x;simp only[aW,aO];refine ag 6 ?_;refine ag 7 ?_;have ZJ:oI (M na yi.length nc 3 1 (yi.map (U O))::K p8 [G yn,U O yz,J YQ yi.length YR] 65::M (Z ⟨zb,zo,A⟩) gs.length xc 65 3 ((ds++gs.drop j).flatMap sX)::K p3 [U O 0,U O 0] 28::K p2 [J A 0 0,J A 0 0] 25::K p1 [J (Z ⟨zb,zo,A⟩) gs.length xc,J fa qs.length fc] 25::ds.map Ac) zb (zo+j*3+2) 2 zo (j*3+2) gs.length xc 65 3 ((ds++gs.drop j).flatMap sX):=⟨rfl,I⟩;have nK:mV ((ds++gs.drop j).flatMap sX) (j*3+2) (J na yi.length nc) (((ds++[(⟨yn,yz,na,nc,yi⟩:oz)])++gs.drop (j+1)).flatMap sX):=⟨by
    rw[gN yS I3 (k:=2) I (y:=⟨yn,yz,na,nc,yi⟩) rfl];congr 1;exact pL B0 bS,by rw[cj yS,bX,eY];omega⟩
  refine kX 8 ai ai aw ?_;refine aH ?_;have ly:(ds++[(⟨yn,yz,na,nc,yi⟩:oz)]).length=j+1:=by simp[B0]
  refine jQ (L':=[(17,U O ((j:Int)+1)),(15,J (Z ⟨zb,zo,A⟩) gs.length xc),(16,U O gs.length),aj 2 p1,aj 4 p2,aj 5 p3,(1,(Value.func (.func tf) us.toArray xs.toArray))]) ap (dM (.cons _ (.refl _))) ?_;refine bi (cP (l₁:=[M na yi.length nc 3 1 (yi.map (U O))])) ?_;refine fC (H1:=M (Z ⟨zb,zo,A⟩) gs.length xc 65 3 (((ds++[(⟨yn,yz,na,nc,yi⟩:oz)])++gs.drop (ds++[(⟨yn,yz,na,nc,yi⟩:oz)]).length).flatMap sX)::K p3 [U O 0,U O 0] 28::K p2 [J A 0 0,J A 0 0] 25::K p1 [J (Z ⟨zb,zo,A⟩) gs.length xc,J fa qs.length fc] 25::(ds++[(⟨yn,yz,na,nc,yi⟩:oz)]).map Ac) ?_ ?_
  ·rw[ly]
   simp only[aW,bz,bT,dn,Ac]
  refine jQ (L':=[(17,U O ((ds++[(⟨yn,yz,na,nc,yi⟩:oz)]).length:Nat)),(15,J (Z ⟨zb,zo,A⟩) gs.length xc),(16,U O gs.length),aj 2 p1,aj 4 p2,aj 5 p3,(1,(Value.func (.func tf) us.toArray xs.toArray))]) ?_ (.refl _) ?_
  ·rw[ly]
   exact ap
  refine bj (ds++[(⟨yn,yz,na,nc,yi⟩:oz)]) ⟨by rw[ly];omega,?_⟩ (by rw[ly];omega) ap aK;rw[ly,cz,hy,bz,bz,WZ];rfl
 ·have gP:ds.length=gs.length:=by have:=h1;simp at this;omega
  rw[gP,iU,cD];rw[gP,cQ,hgm]at WZ;refine aE ?_;refine cZ (val:=λx:Option Addr×Nat=>.slice x.1 qs.length x.2) (akg:=λx=>[M x.1 qs.length x.2 35 4 (qs.flatMap yK)]) (φ:=λ_=>True) rfl (λw hw=>Ih fa fc qs I w (Xh.bZ (λ_ _ _ _ _ h=>h) hw.ch)) λx _=>?_;obtain⟨ya,yc⟩:=x;simp only[aW,aO];refine aE ?_;rw[<-gP];have hdb:∀g∈ds,dk g.size/\g.init.length<=100000/\∀akj∈g.init,dk akj:=λg Zs=>by
   have h0:g.O8∈gs.map oz.O8:=by rw[hgm,<-WZ];exact aV.2 ⟨g,Zs,rfl⟩
   obtain⟨g',hg1,e⟩:=aV.1 h0;have h3:=W5 g' hg1;have h4:=hgl.2 g'.O8 (by rw[<-hgm];exact aV.2 ⟨g',hg1,rfl⟩);simp only[oz.O8,jt.mk.injEq]at e h4;rw[e.2.2]at h4;exact⟨by rw[<-e.2.1];exact h3.1,h4,λakj hz=>Tv h3.2 akj (by rw[e.2.2];exact hz)⟩
  refine bi (H1:=M ya qs.length yc 35 4 (qs.flatMap yK)::K p3 [U O 0,U O 0] 28::K p2 [J A 0 0,J A 0 0] 25::K p1 [J xa ds.length xc,J ya qs.length yc] 25::M xa ds.length xc 65 3 (ds.flatMap sX)::ds.map Ac) ((((List.Perm.swap _ _ _).trans (List.Perm.cons _ (List.Perm.swap _ _ _))).trans (List.Perm.cons _ (List.Perm.cons _ (List.Perm.swap _ _ _)))).cons _) ?_;refine bL (λ(es:List F7)=>es.length<=qs.length/\es.map (λd=>d.q.xB)=(qs.take es.length).map (λq=>T q.xB)/\(∀d∈es,dk d.q.params/\dk d.q.aB)/\∀d∈es,gp d.q.xB=false) (λes=>[(38,U O es.length),(36,J ya qs.length yc),(37,U O qs.length),aj 2 p1,aj 4 p2,aj 5 p3,(1,(Value.func (.func tf) us.toArray xs.toArray))])
   (λes=>M ya qs.length yc 35 4 ((es.map (·.q)++qs.drop es.length).flatMap yK)::K p3 [U O 0,U O 0] 28::K p2 [J A 0 0,J A 0 0] 25::K p1 [J xa ds.length xc,J ya qs.length yc] 25::M xa ds.length xc 65 3 (ds.flatMap sX)::(ds.map Ac++es.map Bc)) (λes=>qs.length-es.length) [] ⟨aT _,rfl,by simp,by simp⟩ (aS ap aC) λes ⟨W8,HH,Ll,ji⟩=>?_
  refine aU ?_;refine aI (λh2=>?_) (λh2=>?_)
  ·have bS:es.length<qs.length:=ax h2
   generalize B0:es.length=i at*;obtain⟨q,hq⟩:=bf qs i bS;have aei:=aq hq;obtain⟨⟨Ly,hqr⟩,Nw⟩:=Dg q aei;have Sa:q.xB∈u.funcs:=by rw[<-HK];exact aV.2 ⟨q,aei,rfl⟩
   have hXi:u.funcs[i]?=Z q.xB:=by rw[<-HK,aJ,hq];rfl
   have Ps:=Fm.2 _ Sa;have hTX:=hT _ Sa;obtain⟨qn,qp,qr,qa,qc,qb⟩:=q;simp only[pZ.xB]at Ly hqr Nw Ps hTX Sa hXi;refine fL 0 rfl I λvb vo oC=>?_;subst oC;have lY:bY i qs.length:=⟨bS⟩;have jS:(es.map (·.q)++qs.drop i)[i]?=Z (⟨qn,qp,qr,qa,qc,qb⟩:pZ):=by
    rw[dC (by rw[aF];omega),aF,B0,dN,iV,ef];exact hq
   have zN:gQ (M (Z ⟨vb,vo,A⟩) qs.length yc 35 4 ((es.map (·.q)++qs.drop i).flatMap yK)::K p3 [U O 0,U O 0] 28::K p2 [J A 0 0,J A 0 0] 25::K p1 [J xa ds.length xc,J (Z ⟨vb,vo,A⟩) qs.length yc] 25::M xa ds.length xc 65 3 (ds.flatMap sX)::(ds.map Ac++es.map Bc)) vb (vo+i*4) _:=jz (k:=0) rfl yL jS;simp only[yK]at zN
   repeat(first|refine aE ?_|refine dZ λ_ _=>?_)
   rename_i p9 _;refine cZ (val:=λx:Option Addr×Nat×List aX=>.agg #[G qn,U O qp,U O qr,J x.1 qb.length x.2.1]) (akg:=λx=>M x.1 qb.length x.2.1 46 6 (x.2.2.flatMap bm)::x.2.2.map ck) (φ:=λx=>x.2.2.map aX.eR=qb/\∀b∈x.2.2,b.Bd) rfl (λw hw=>aal qn qp qr qb (J qa qb.length qc) w (Nw.bZ dH hw.ch) Ps.n λb hb hA=>Ps.bd hb hA) λx hx=>?_;obtain⟨ca,cc,rows⟩:=x;obtain⟨Fx,Ft⟩:=hx;simp only at Fx Ft;have rR:qb.length=rows.length:=by rw[<-Fx,aF]
   simp only[rR];refine CQ (H1:=fS ca cc rows) (us:=us) (xs:=xs) (val:=λx:Option Addr×Nat×List aX=>.agg #[G (T (⟨qn,qp,qr,qb⟩:aY)).name,U O (T (⟨qn,qp,qr,qb⟩:aY)).params,U O (T (⟨qn,qp,qr,qb⟩:aY)).aB,J x.1 x.2.2.length x.2.1]) (akg:=λx=>fS x.1 x.2.1 x.2.2) (φ:=λx=>x.2.2.map aX.eR=(T (⟨qn,qp,qr,qb⟩:aY)).blocks/\(∀b∈x.2.2,b.Bd)/\x.2.2.length<=1000/\dk (T (⟨qn,qp,qr,qb⟩:aY)).params/\dk (T (⟨qn,qp,qr,qb⟩:aY)).aB) rfl (λw hw=>hTX ca cc rows w Fx Ft hw.ch (λb ⟨e,he,hb⟩=>(hw.own e (ct _ he) b hb).1.resolve_left id) hw.pre) λx hx=>?_;obtain⟨za,zc,zs⟩:=x;obtain⟨GY,hzb,LJ,hzp,hzr⟩:=hx;obtain⟨Y,hY⟩:∃Y,T (⟨qn,qp,qr,qb⟩:aY)=Y:=⟨_,rfl⟩;obtain⟨yn,yp,yr,yb⟩:=Y;simp only[hY]at GY hzp hzr⊢;simp only at hzb LJ;have ahG:zs.length=yb.length:=by rw[<-GY,aF]
   rw[ahG];have VW:∀b∈yb,b.aD.length<=1000/\b.list.length<=1000:=λb hb=>by
    rw[<-GY]at hb;obtain⟨b',nO,rfl⟩:=aV.1 hb;have:=hzb b' nO;exact⟨by simp only[aX.eR,aF];exact this.aD,by simp only[aX.eR,aF];exact this.list⟩
   refine RU (⟨yn,yp,yr,za,zc,yb⟩:pZ) LJ hzb GY rfl rfl ?_;obtain⟨fp,Zq⟩:∃fp,cH (fS za zc zs)=fp:=⟨_,rfl⟩;rw[Zq];refine aE ?_;refine bB rfl (λw hw=>XG (G yn) (U O yp) yr yb (J za yb.length zc) w (hw.get (k:=0) rfl) I VW) ?_;refine aU ?_;have oe:∀(g:aY),g=⟨yn,yp,yr,yb⟩->gp g=sG yb yr:=λg hg=>by rw[hg];rfl
   have WV:∀(j:Nat) (Y:aY),j<i->u.funcs[j]?=Z Y->gp (T Y)=false:=λj Y hj hYj=>by
    have h0:(es.map (λd=>d.q.xB))[j]?=Z (T Y):=by
     rw[HH,aJ,yw hj];rw[<-HK,aJ]at hYj;obtain⟨q',hq',rfl⟩:=cA.1 hYj;rw[hq'];rfl
    obtain⟨d,hd,e⟩:=aV.1 (aq h0);rw[<-e];exact ji d hd
   by_cases hL:sG yb yr=true
   ·rw[hL]
    refine aH ?_;refine bB rfl (λw _=>pJ 10 i w) ?_;refine aE ?_;refine tT rfl λ_ hw=>.inl ⟨i,_,hXi,by rw[oe _ hY];exact hL,WV,rfl,hw.ch⟩
   ·have hLf:sG yb yr=false:=ax hL
    rw[hLf];refine aH ?_;have wL:(es.map (·.q)).length=i:=by rw[aF,B0]
    refine kZ 2 (j:=i*4) rfl rfl (by rw[cj yL,bX,eY];omega) ?_;have mq:=jP yL (l:=es.map (·.q)++qs.drop i) (i:=i) (by rw[bX,eY];omega) (⟨yn,yp,yr,za,zc,yb⟩:pZ);rw[pL wL bS]at mq;simp only[yK]at mq;rw[mq];refine aH ?_;have ly:(es++[(⟨(⟨yn,yp,yr,za,zc,yb⟩:pZ),fp⟩:F7)]).length=i+1:=by simp[B0]
    refine jQ (L':=[(38,U O ((i:Int)+1)),(36,J (Z ⟨vb,vo,A⟩) qs.length yc),(37,U O qs.length),aj 2 p1,aj 4 p2,aj 5 p3,(1,(Value.func (.func tf) us.toArray xs.toArray))]) ap (dM (.cons _ (.refl _))) ?_;refine bi (cP (l₁:=[Bc (⟨(⟨yn,yp,yr,za,zc,yb⟩:pZ),fp⟩:F7)])) ?_;refine fC (H1:=M (Z ⟨vb,vo,A⟩) qs.length yc 35 4 (((es++[(⟨(⟨yn,yp,yr,za,zc,yb⟩:pZ),fp⟩:F7)]).map (·.q)++qs.drop (es++[(⟨(⟨yn,yp,yr,za,zc,yb⟩:pZ),fp⟩:F7)]).length).flatMap yK)::K p3 [U O 0,U O 0] 28::K p2 [J A 0 0,J A 0 0] 25::K p1 [J xa ds.length xc,J (Z ⟨vb,vo,A⟩) qs.length yc] 25::M xa ds.length xc 65 3 (ds.flatMap sX)::(ds.map Ac++(es++[(⟨(⟨yn,yp,yr,za,zc,yb⟩:pZ),fp⟩:F7)]).map Bc)) ?_ ?_
    ·rw[ly]
     simp only[aW,bz,bT,dn,dz]
    refine jQ (L':=[(38,U O ((es++[(⟨(⟨yn,yp,yr,za,zc,yb⟩:pZ),fp⟩:F7)]).length:Nat)),(36,J (Z ⟨vb,vo,A⟩) qs.length yc),(37,U O qs.length),aj 2 p1,aj 4 p2,aj 5 p3,(1,(Value.func (.func tf) us.toArray xs.toArray))]) ?_ (.refl _) ?_
    ·rw[ly]
     exact ap
    refine bj (es++[(⟨(⟨yn,yp,yr,za,zc,yb⟩:pZ),fp⟩:F7)]) ⟨by rw[ly];omega,?_,λd hd=>?_,λd hd=>?_⟩ (by rw[ly];omega) ap aK
    ·rw[ly,cz,hq,bz,bz,HH]
     simp only[mz,bT,dn,pZ.xB,hY]
    ·rcases bA.1 hd with hd|hd
     ·exact Ll d hd
     ·rw[bR.1 hd];exact⟨hzp,hzr⟩
    ·rcases bA.1 hd with hd|hd
     ·exact ji d hd
     ·rw[bR.1 hd];exact hLf
  ·have xG:es.length=qs.length:=by have:=h2;simp at this;omega
   rw[xG,iU,cD];rw[xG,cQ]at HH;have cU:∀X∈u.funcs,gp (T X)=false:=λX hX=>by
    rw[<-HK]at hX;obtain⟨q,hq,rfl⟩:=aV.1 hX;have:T q.xB∈es.map (λd=>d.q.xB):=by rw[HH];exact aV.2 ⟨q,hq,rfl⟩
    obtain⟨d,hd,e⟩:=aV.1 this;rw[<-e];exact ji d hd
   have Al:es.map (λd=>d.q.xB)=u.funcs.map T:=by rw[HH,<-HK,dE];rfl
   rw[<-xG];refine aE ?_;have af5:ds.length=u.globals.length:=by have:=congrArg List.length WZ;rw[aF]at this;exact this
   have agd:es.length=u.funcs.length:=I;refine tT rfl λw hw=>?_;unfold Rh;rw[<-af5,<-agd];refine .inr ⟨cU,xa,ya,xc,yc,_,rfl,Wd.pack (H:=[]) (by rw[cD];exact hw) _ λw hw=>⟨?_,?_⟩⟩
   ·have h0:=uE (ake:=fg) oz.O8 (qF hw (k:=4) rfl yS I) λy hy cs fT=>?_
    ·rw[WZ]at h0;exact h0
    obtain⟨hy1,hy2,hy3⟩:=hdb y hy;obtain⟨k,hk⟩:∃k,(M ya es.length yc 35 4 ((es.map (·.q)).flatMap yK)::K p3 [U O 0,U O 0] 28::K p2 [J xa ds.length xc,J ya es.length yc] 25::K p1 [J xa ds.length xc,J ya es.length yc] 25::M xa ds.length xc 65 3 (ds.flatMap sX)::(ds.map Ac++es.map Bc))[k]?=Z (Ac y):=
     bg (by simp only[bD,bA];exact .inr (.inr (.inr (.inr (.inr (.inl (aV.2 ⟨y,hy,rfl⟩)))))))
    refine⟨_,fT,hy1,?_⟩;refine hw.oH hk rfl I λi x hx=>⟨[U O x],λj v hj=>?_,rfl,hy3 x (aq hx)⟩
    match j,hj with
    |0,hj=>simp[<-hj,oz.O8]at hx⊢;exact hx
   ·have h0:=uE (ake:=gq) pZ.xB (qF (l:=es.map (·.q)) hw (k:=0) (by rw[aF];rfl) yL (by rw[aF];omega)) λy hy cs fT=>?_
    ·rw[dE,aF]at h0;rw[<-Al];exact h0
    obtain⟨d,hd,rfl⟩:=aV.1 hy;obtain⟨k,hk⟩:∃k,(M ya es.length yc 35 4 ((es.map (·.q)).flatMap yK)::K p3 [U O 0,U O 0] 28::K p2 [J xa ds.length xc,J ya es.length yc] 25::K p1 [J xa ds.length xc,J ya es.length yc] 25::M xa ds.length xc 65 3 (ds.flatMap sX)::(ds.map Ac++es.map Bc))[k]?=Z (Bc d):=
     bg (by simp only[bD,bA];exact .inr (.inr (.inr (.inr (.inr (.inr (aV.2 ⟨d,hd,rfl⟩)))))))
    have h5:aG w (J d.q.a d.q.blocks.length d.q.c) 6 d.q.blocks ed:=hw.get hk;exact⟨_,fT,(Ll d hd).1,(Ll d hd).2,h5⟩
class Rm(e:bN)(H:List bN)(H':outParam (List bN)):Prop where
 perm:H.Perm (e::H')
instance(priority:=high)(e:bN)(H:List bN):Rm e (e::H) H:=⟨.refl _⟩
class Wa(H1 H:List bN):Prop where
 sub:∃r,H.Perm (H1++r)
instance(priority:=high)(H:List bN):Wa [] H:=⟨⟨H,.refl _⟩⟩
instance(e:bN)(H1 H H':List bN)[h:Rm e H H'][h2:Wa H1 H']:Wa (e::H1) H:=⟨by
 obtain⟨r,hr⟩:=h2.sub
 exact⟨r,h.perm.trans (hr.cons e)⟩⟩
theorem Wd.pick{S:Nat->Prop}{w0 w:C}{H H1:List bN}(h:Wd S w0 H w)(hs:Wa H1 H):Wd S w0 H1 w:=by
 obtain⟨r,hr⟩:=hs.sub;exact(h.perm hr).sub (eI _ _)
theorem eE{w:C}{S:Nat->Prop}{α:Type}{s:Nat}{ake:C->α->List V->Prop}{a:Option Addr}{n c:Nat}{l:List α}(h:aG w (J a n c) s l ake)(hold:∀{b o:Nat} {v:V} {l:List V},bF w b o (v::l)->eS S b)(hV:∀x cs,ake w x cs->∃v r,cs=v::r)(h0:l≠[]):
  ∃b o:Nat,bU a b o/\eS S b/\∀i x,l[i]?=Z x->∃cs,a6 w b (o+i*s) cs/\ake w x cs:=by
 obtain⟨_,_,_,b,o,ha,ji⟩:=h.at;refine⟨b,o,⟨ha h0⟩,?_,λi x hi=>?_⟩
 ·obtain⟨x,hx⟩:=bf l 0 (rW.2 h0)
  obtain⟨cs,hc,hv⟩:=ji 0 x hx;obtain⟨v,r,rfl⟩:=hV x cs hv;exact hold hc
 ·obtain⟨cs,hc,hv⟩:=ji i x hi
  exact⟨cs,⟨hc⟩,hv⟩
theorem mD{N:Nat}{ds:List Deferred}{S S1:Nat->Prop}{w0 w1:C}{L:List (Nat×V)}{H H2:List bN}{p:Act->C->Prop}(back:∀{w:C},Wd S1 w1 H w->Wd S w0 (H++H2) w)(k:aki N ds S w0 L (H++H2) p):aki N ds S1 w1 L H p:=λa w hS=>k a w ⟨hS.fr,back hS.wd⟩
theorem pM{α:Type}{f:α->Int}{l:List α}:(eh (j4 l f) l.length).1=0↔∀x∈l,f x=0:=by
 refine⟨nR,λh=>?_⟩;rw[gh];intro j hj;simp only[j4,a_ hj];exact h _ (j9 _)
theorem ig{f:Nat->Int}{n:Nat}:(eh f n).1=0↔∀j,j<n->f j=0:=⟨jc,λh=>by rw[gh h]⟩
structure sm(fs:List aY)(X:aY):Prop where
 ends:∀B∈X.blocks,k9 X.blocks.length X.aB B=0
 aD:∀(b:Nat) (B:E),X.blocks[b]?=Z B->∀p∈B.aD,ng X.aB X.blocks b p=0
 list:∀(b:Nat) (B:E),X.blocks[b]?=Z B->∀x∈B.list,eu fs X.aB x=0
theorem v7{fs:List aY}{X:aY}:gJ fs X=0↔sm fs X:=by
 unfold gJ;constructor
 ·intro h
  split at h
  ·rename_i h1;exact absurd h h1
  rename_i h1;have h2:=pM.1 (by simpa using h1:(eh (j4 X.blocks (k9 X.blocks.length X.aB)) X.blocks.length).1=0);have h3:=ig.1 h;have h4:∀(b:Nat) (B:E),X.blocks[b]?=Z B->(∀p∈B.aD,ng X.aB X.blocks b p=0)/\∀x∈B.list,eu fs X.aB x=0:=λb B hB=>by
   have:=h3 b (az.1 hB).1;simp only[jN,hB]at this
   split at this
   ·rename_i h5;exact absurd this h5
   rename_i h5;exact⟨pM.1 (ax h5),pM.1 this⟩
  exact⟨h2,λb B hB=>(h4 b B hB).1,λb B hB=>(h4 b B hB).2⟩
 ·intro h
  have h1:=pM.2 h.ends;rw[if_neg (by simp[h1])];refine ig.2 λb hb=>?_;have hB:X.blocks[b]?=Z X.blocks[b]:=a_ hb;simp only[jN,hB];have h5:=pM.2 (h.aD b _ hB);rw[if_neg (by simp[h5])];exact pM.2 (h.list b _ hB)
structure jE(u:a8):Prop where
 vt:u.globals.length<=10
 funcs:u.funcs.length<=10
 IE:∀i,i<u.globals.length->oV u.globals i=0
 head:∀i,i<u.funcs.length->mm u i=0
 body:∀X∈u.funcs,sm u.funcs X
 main:0<=dh u.funcs
 none:j4 u.funcs (·.params) (dh u.funcs).toNat<=0
theorem fN{u:a8}:(dA u).1=0↔jE u:=by
 unfold dA;constructor
 ·intro h
  split at h
  ·cases h
  rename_i h1
  split at h
  ·rename_i h2;exact absurd h h2
  rename_i h2
  split at h
  ·rename_i h3;exact absurd h h3
  rename_i h3
  split at h
  ·rename_i h4;exact absurd h h4
  rename_i h4
  split at h
  ·cases h
  rename_i h5
  split at h
  ·cases h
  rename_i h6;refine⟨I,I,ig.1 (ax h2),ig.1 (ax h3),λX hX=>v7.1 (pM.1 (ax h4) X hX),I,I⟩
 ·intro h
  have h1:=h.vt;have h2:=h.funcs;rw[if_neg I,if_neg (by simp[ig.2 h.IE]),if_neg (by simp[ig.2 h.head]),if_neg (by simp[pM.2 λX hX=>v7.2 (h.body X hX)]),if_neg (by have:=h.main;omega),if_neg (by have:=h.none;omega)]
theorem Gm{fs Wy:List aY}(hl:Wy.length=fs.length)(hp:∀i:Nat,(Wy[i]?).map aY.params=(fs[i]?).map aY.params)(R:Int)(x:dJ):gK Wy R x=gK fs R x:=by
 have:∀i,j4 Wy (·.params) i=j4 fs (·.params) i:=λi=>by
  have:=hp i;unfold j4;cases h1:fs[i]?<;>cases h2:Wy[i]?<;>simp[h1,h2]at this⊢
  exact this
 unfold gK;rw[hl,this]
theorem Jn{fs Wy:List aY}(hl:Wy.length=fs.length)(hp:∀i:Nat,(Wy[i]?).map aY.params=(fs[i]?).map aY.params)(R:Int)(x:dJ):eu Wy R x=eu fs R x:=by
 unfold eu;rw[Gm hl hp]
attribute [local irreducible] bodyPostM j5
structure acu where
 name:ByteArray
 params:Int
 aB:Int
 a:Option Addr
 c:Nat
 bs:List aX
structure ae7 where
 ga:Option Addr
 gc:Nat
 gs:List oz
 fa:Option Addr
 fc:Nat
 fs:List acu
section
theorem TW{α:Type}{l:List α}{e:α}(h:e∈l):∃r,l.Perm (e::r):=by
 obtain⟨k,hk⟩:=bg h;exact⟨_,ku hk⟩
def vE(b:aX):bN:=M b.la b.xs.length b.lc 56 8 (b.xs.flatMap fe)
def Ra(b:aX):bN:=M b.pa b.ps.length b.pc 49 2 (b.ps.flatMap cF)
def pz(b:aX):bN:=M b.ta b.to.length b.tc 3 1 (b.to.map (U O))
theorem jl{α β:Type}{l:List α}{k:Nat}{x:α}(f:α->β)(h:l[k]?=Z x):(l.map f).Perm (f x::(l.eraseIdx k).map f):=(ku h).map f
section
variable {S:Nat->Prop} {w0 w:C} {H:List bN} {m:ae7} {k i:Nat} {y:acu} {b:aX}
theorem Iw{α:Type}{f:α->List V}{l:List α}{k:Nat}{x y:α}(h:l[k]?=Z x)(he:f y=f x):(l.set k y).flatMap f=l.flatMap f:=by
 rw[qB,qB,eM,he];congr 1;exact mJ (by rw[aJ,h];rfl)
end
end
theorem Wp{n:Nat}{R:Int}{B:E}(h:k9 n R B=0):B.to.length<=2:=by
 unfold k9 wI at h
 split at h
 ·cases h
 rename_i h1
 split at h
 ·cases h
 rename_i h2;simp only[within,Bool.not_eq_true',Bool.and_eq_false_iff,decide_eq_false_iff_not,not_or,Decidable.not_not]at h1;simp only[ne_eq,Decidable.not_not]at h2;omega
theorem O0{u:a8}(hl:nA u)(h:(dA u).1=0):∀X∈u.funcs,MS X:=λX hX=>by
 obtain⟨k,hk⟩:=bg hX;obtain⟨R,_,_,hf⟩:=oO h hk;have ly:=(hl.2 X hX).1;have hlen:=L3 (hl.2 X hX);have rj:=(fN.1 h).body X hX;refine⟨I,λB hB=>?_⟩;obtain⟨b,hb⟩:=bg hB;have Lk:=hf.block b B hb;have Fq:(aZ X.blocks b).length<=X.blocks.length:=by
  unfold aZ;exact du (jL _ _) (by rw[fA];exact bG _)
 exact⟨(hlen B hB).2,λp hp=>by have:=(Lk.aD p hp).len;omega,(hlen B hB).1,Cy h hk B hB,by have:=Wp (rj.ends B hB);omega⟩
theorem KO{u:a8}(h:(dA u).1=0):u.globals.length<=100000/\∀g∈u.globals,g.init.length<=100000:=by
 have hc:=fN.1 h;have:=hc.vt;refine⟨I,λg hg=>?_⟩;obtain⟨i,hi⟩:=bg hg;have hz:=hc.IE i (az.1 hi).1;unfold oV j4 at hz;rw[hi]at hz;simp only at hz;unfold jR at hz
 split at hz
 ·cases hz
 split at hz
 ·cases hz
 split at hz
 ·cases hz
 rename_i h1
 split at hz
 ·cases hz
 rename_i h2;simp only[within,Bool.not_eq_true',Bool.and_eq_false_iff,decide_eq_false_iff_not,not_or,Decidable.not_not]at h1;omega
theorem OZ{u:a8}(hl:nA u):u.funcs.length<=1000:=by have:=hl.1;omega
def Z9(f:aY):Prop:=f.blocks.length<=24/\gy f.blocks<=120
def Yw(u:a8):Prop:=u.funcs.length<=10/\∀f∈u.funcs,Z9 f
theorem Yw.nA{u:a8}(h:Yw u):nA u:=⟨h.1,λf hf=>⟨by have:=(h.2 f hf).1;omega,by have:=(h.2 f hf).2;omega⟩⟩
theorem Ss(u:a8)(g fs:V)(w0:C)(hf:aG w0 fs 4 u.funcs gq)(hg:∃a n c,g=J a n c):
  iC ae 9 [au #[g,fs]] w0 λv w'=>∃b:Bool,v=D b/\Wd cX w0 [] w'/\(b=false->Yw u):=by
 obtain⟨ga,gn,gc,rfl⟩:=hg;obtain⟨fa,fn,fc,fb,fo,rfl,qq,Pp,Po,Zp,vx,uU⟩:=hf;refine aM func9 rfl ntmps9 rfl (Wd.nil cX w0) ?_
 repeat(first|refine aH ?_|refine dZ λ_ _=>?_)
 rename_i p1 _;have aeN:∀w H,Wd cX w0 H w->Wd cX w0 [] w:=λw H hw=>⟨hw.ch,by simp,by simp,by simp⟩;refine bL (λ(i:Nat)=>i<=fn/\∀k X,k<i->u.funcs[k]?=Z X->Z9 X) (λi=>[(3,U O i),(2,D false),aj 1 p1]) (λ_=>[K p1 [J ga gn gc,J fa fn fc] 25]) (λi=>fn-i) 0 ⟨aT _,by simp⟩ (aS ap aK) λi ⟨hi,cU⟩=>?_;refine aU ?_;refine aI (λh1=>?_) (λh1=>?_)
 ·have bS:i<fn:=ax h1
  obtain⟨X,hX⟩:=et qq bS;have oW:bU fa fb fo:=⟨vx (aL hX)⟩;have lY:bY i fn:=⟨bS⟩;obtain⟨cs,fT,bv,rfl,hpi,hri,Ai⟩:=uU i X hX;obtain⟨ba,n,bc,bb,zW,rfl,hn,qP,GM,Pg,yh,ji⟩:=Ai;have n_:a6 w0 fb (fo+i*4) _:=⟨fT⟩;refine aH ?_;refine bL (λ(x:Nat×Int)=>x.1<=n/\(n<=24->x.2=om X.blocks x.1/\x.2<=x.1*281474976710656)) (λx=>[(5,U O x.1),(4,U O x.2),(3,U O i),(2,D false),aj 1 p1]) (λ_=>[K p1 [J ga gn gc,J fa fn fc] 25]) (λx=>n-x.1) (0,0) ⟨aT _,by simp[om]⟩ (aS ap aK) λx ⟨hj,abC⟩=>?_;obtain⟨j,s⟩:=x;simp only at hj abC⊢;refine aU ?_;refine aI (λh2=>?_) (λh2=>?_)
  ·have pT:j<n:=ax h2
   obtain⟨B,hB⟩:=et hn pT;have uR:bU ba bb zW:=⟨yh (aL hB)⟩;have SI:bY j n:=⟨pT⟩;obtain⟨E4,oY,pv,lv,tv,rfl,_,_,qt,lq,ht⟩:=ji j B hB;obtain⟨VZ,pn,pc,_,_,rfl,Fs,_,SX,_⟩:=qt;obtain⟨la,ln,lc,_,_,rfl,HJ,_,SL,_⟩:=lq;have tX:a6 w0 bb (zW+j*6) _:=⟨oY⟩;have Je:=Bv hB;have Fo:=vQ X.blocks j;have agv:n<=24->IntKind.i64.wrap (IntKind.i64.wrap (s+pn)+ln)=om X.blocks (j+1)/\IntKind.i64.wrap (IntKind.i64.wrap (s+pn)+ln)<=((j+1:Nat):Int)*281474976710656:=by
    intro h24;obtain⟨e1,e2⟩:=abC h24;rw[uM (s+pn) I I,uM (s+pn+ln) I I,Je];constructor
    ·rw[e1,Fs,HJ];omega
    ·omega
   refine aH ?_;refine jj mixed aR ?_;refine iH ?_;refine UH rfl ?_;refine iH ?_;refine UH rfl ?_;refine iH ?_;refine aH ?_;exact bj (j+1,IntKind.i64.wrap (IntKind.i64.wrap (s+pn)+ln)) ⟨pT,agv⟩ bK ap aK
  ·have gP:j=n:=by have:=h2;simp at this;omega
   refine aE ?_;generalize Kn:decide (24<(n:Int))=b1;refine lI 60 (D (b1||decide (120<s))) ?_ ?_
   ·cases b1
    ·refine aE ?_
     exact aS ap aK
    ·refine iL ?_
     exact aS ap aK
   refine aU ?_;refine aI (λh3=>?_) (λh3=>?_)
   ·refine aE ?_
    exact cE rfl λw hw=>⟨_,rfl,aeN _ _ hw,by simp⟩
   ·have sY:n<=24/\s<=120:=by subst Kn;simp at h3;omega
    refine aH ?_;refine bj (i+1) ⟨bS,λk Y hk hY=>?_⟩ I ap aK
    by_cases hki:k=i
    ·subst hki
     rw[hX]at hY;simp only[b_]at hY;subst hY;refine⟨I,?_⟩;have:=(abC sY.1).1;rw[gP,hn,DW]at this;omega
    ·exact cU k Y I hY
 ·have gP:i=fn:=by have:=h1;simp at this;omega
  refine aE ?_;refine cE rfl λw hw=>⟨_,rfl,aeN _ _ hw,λhb=>⟨by simp at hb;omega,λY hY=>?_⟩⟩;obtain⟨k,hk⟩:=bg hY;exact cU k Y (by have:=(az.1 hk).1;omega) hk
def fH(u:a8)(j:Nat):List E:=match u.funcs[j]? with|some X=>X.blocks|none=>[]
def fQ(u:a8)(j:Nat):Nat:=match u.funcs[j]? with|some X=>X.aB.toNat|none=>0
def NH(k n:Nat)(f:mf):mf:={f with at':=if f.fn=k/\f.block=0 then f.at'+n else f.at'}
def liftM(k n c:Nat)(s:j7):j7:=⟨s.mem,s.dr,s.out,c,s.rest.map (NH k n),NH k n s.bJ,s.counts⟩
def aeT(k n c:Nat)(s:j7)(i:Nat):j7:=⟨s.mem,s.dr,s.out,c,s.rest.map (NH k n),{s.bJ with at':=i},s.counts⟩
theorem pe(u:a8)(s:j7)(to:Int):s_ u s to={s with bJ:={s.bJ with aB:=jp s.bJ ((aZ (fH u s.bJ.fn) to.toNat).idxOf s.bJ.block) (fD (fH u s.bJ.fn) to.toNat),block:=to.toNat,at':=0},counts:=bump s.counts s.bJ.fn to.toNat}:=rfl
theorem oQ(u:a8)(s:j7)(fn:Nat)(dst:Int)(args:List Int):vh u s fn dst args={s with rest:=s.rest++[s.bJ],bJ:=⟨fn,0,0,eN (fQ u fn) args,dst⟩,counts:=bump s.counts fn 0}:=rfl
theorem aeU(k n c:Nat)(s:j7)(h:s.bJ.at'=0):aeT k n c s (if s.bJ.fn=k/\s.bJ.block=0 then n else 0)=liftM k n c s:=by
 unfold aeT liftM NH;rw[h,di]
theorem wh{names:List ByteArray}{f:aY}:lX names f=0↔uk f.name=true/\hasName names f.name=false/\(0<=f.params/\f.params<=6)/\(f.params<=f.aB/\f.aB<=100)/\(1<=f.blocks.length/\f.blocks.length<=40)/\gy f.blocks<=300:=by
 unfold lX;constructor
 ·intro h
  split at h
  ·cases h
  rename_i h1
  split at h
  ·cases h
  rename_i h2
  split at h
  ·cases h
  rename_i h3
  split at h
  ·cases h
  rename_i h4;simp[within]at h1 h2 h3 h4;exact⟨h1,h2,I,I,I,I⟩
 ·rintro⟨h1,h2,h3,h4,h5,h6⟩
  rw[if_neg (by simp[h1]),if_neg (by simp[h2]),if_neg (by simp[within];omega),if_neg (by simp[within];omega)]
theorem pg(fs:List aY):dh fs=match (fs.map (·.name)).findIdx? (λs=>s.toList==(ByteArray.mk #[109,97,105,110]).toList)with|some i=>(i:Int)|none=>-1:=by
 unfold dh;rw[List.findIdx?_map]
 rfl
end
end Go.Proofs.YthfhgolkafpmnaaGreatDoor
