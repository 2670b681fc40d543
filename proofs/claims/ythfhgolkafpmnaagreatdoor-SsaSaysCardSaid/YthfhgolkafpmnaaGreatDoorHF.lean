/- Lemmas. -/
import Derived.Test.YthfhgolkafpmnaaGreatDoorHA
namespace Go.Proofs.YthfhgolkafpmnaaGreatDoor
open Go.Value renaming int->J,slice->I,pointer->aO,string->aQ,bool->ag,agg->aC
open Go.IntKind renaming i64->Z
open Option renaming some->O,none->U
open Go renaming Value->K,World->ae
open List renaming replicate->aI
open Go.Proofs.Tryz renaming prog->Y
open Go Go.RowKit
open Go.Proofs.Tryz
section
variable {u:dk} {l:List lD}
section
set_option maxHeartbeats 8000000
attribute [local irreducible] wpListIn Code.wpIn Exit.then Exit.inBlock bodyPost wpQuiet wpAnyIn wpAnyH bodyPostM md
instance ajf{P:Program}{N:Nat}{ds:List Deferred}{S:Nat->Prop}{w0:ae}{L:List (Nat×K)}{H:List cq}{x:Operand}{p:Addr}[hx:Ev L x (aO (O p))]:gg P N ds S w0 L H (.nilCheck x) (aO (O p)):=
 ⟨λ_ h=>(by cases h),λ_ _ h=>(by cases h),λ_ _ _ _ _ a w hF _=>by simp[execOp,hx.eq _ _ _ hF]⟩
end
section
set_option maxHeartbeats 8000000
section
section
variable {P:Program} {N:Nat} {ds:List Deferred} {S:Nat->Prop} {w0 w:ae} {L:List (Nat×K)} {H Hr:List cq} {x y:Operand} {dw:Act->ae->Prop} {l:List Oper} {di:Nat} {listed:Array Bool}
theorem Wg{d ty T e qz n:Nat}{z1 z2:Int}{z:K}{pos:String}{aft:Array Go.Edge}(i0:Nat)[ho:eJ l i0 ⟨O d,.makeSlice T x y,ty,pos,aft,U⟩][h:dt P T e 1 qz [z]][hx:Ev L x (J Z z1)][Gn:oT z1 n][hy:Ev L y (J Z z2)][Bj:oT z2 n](hd:ev d N L=true)(hb:qz*n<=281474976710656)(hm:n<=140737488355328)(hH:Hr.Sublist H)
  (k:∀b,w0.heap.size<=b->cU N ds S w0 ((d,I (O ⟨b,0,U⟩) n n)::L) (G (O ⟨b,0,U⟩) n n e 1 (aI n z)::H) (wpAnyH P .any l.toArray (et dw) (Wd S w0 Hr) di (listed.setIfInBounds i0 true))):cU N ds S w0 L H (md P l dw (Wd S w0 Hr) di listed i0):=
 Ag i0 rfl λa w hS=>by
  obtain⟨i,zz,hi,Q5,gW,h1,h2⟩:=h.get;have h3:=hx.eq _ _ _ hS.fr;have h4:=hy.eq _ _ _ hS.fr;rw[Gn.eq]at h3;rw[Bj.eq]at h4;have Ur:(i.bytes:Int)*(n:Int)<=281474976710656:=by
   have e:((qz*n:Nat):Int)<=281474976710656:=A;rw[Int.natCast_mul]at e;rw[h2];exact e
  have hr:=run_make (P:=P) w T e i zz h.sy hi Q5 Z Z (n:Int) (n:Int) A (Int.le_refl _) Ur A;have mT:madeCells zz.cells ((n:Int).toNat*i.size)=(aI n z).toArray:=by
   have:=qO [z] n;rw[h1,gW,fR];simp only[lm]at this;rw[show(aI n [z]).flatten=aI n z by simp]at this;rw[<-this]
  have hv:=hS.wd.uA e 1 n (aI n z) (by rw[im,km]) (by unfold maxLen;omega);refine⟨I (O ⟨w.heap.size,0,U⟩) n n,w.alloc (.cells (aI n z).toArray e),?_,hv.sub (hH.trans (gh _ _)),k _ hS.wd.size _ _ ⟨hS.fr.fv hd _,hv⟩⟩;simp only[fR]at hr mT;simp[execOp,h3,h4,hr,mT]
end
structure HW(u:dk):Prop where
 zm:u.globals.length<=10
 Kl:∀g∈u.globals,(g.init.length:Int)<=g.size/\g.size<=200
 init:∀g∈u.globals,∀x∈g.init,dE x
 funcs:u.funcs.length<=10
 main:∃(fm:Nat) (dw:bZ),fE u.funcs=fm/\u.funcs[fm]?=O dw
theorem VV(h:∀g∈l,(g.init.length:Int)<=g.size/\g.size<=200):(IX l).length<=200*l.length:=by
 induction l with
 |nil=>simp[IX]
 |cons g l ih=>
  have h1:=h g cK;have h2:=ih λx hx=>h x (ey _ hx);simp only[IX,fj,bW,im,lF]at h2|-
  omega
theorem Zu(h:∀g∈l,∀x∈g.init,dE x):∀x∈IX l,dE x:=λx hx=>by
 obtain⟨g,hg,hx⟩:=dg.1 hx;rcases bO.1 hx with h1|h1
 ·exact h g hg x h1
 ·rw[oC h1];simp[dE]
theorem start_eq{fm R:Nat}{dw:bZ}(hm:fE u.funcs=fm)(hM:u.funcs[fm]?=O dw)(hR:dw.bm=R)(mE:List Int):pW u mE=⟨IX u.globals,mE,[],0,[],⟨fm,0,0,pH R [],-1⟩,bump (u.funcs.map λX=>aI X.blocks.length 0) fm 0⟩:=by
 unfold pW;simp only[hm,fR,hM,hR];simp[pH]
theorem L5(hu:tV u)(hs:HW u){mE:List Int}(uB:∀x∈mE,dE x):mM u 1 (pW u mE):=by
 obtain⟨fm,dw,hm,hM⟩:=hs.main;obtain⟨R,pJ⟩:=hu.2 fm dw hM;rw[start_eq hm hM pJ.bm];refine⟨⟨dw,R,⟨hM,pJ,zi _ _,pJ.pos,GT cK,by simp[dE],λ_ _=>aN _⟩⟩,by simp,?_,Eb (c:=0) ⟨by simp,λk X hX=>⟨_,by rw[aW,hX];rfl,by simp,λx hx=>by rw[oC hx];exact cz _⟩⟩ _ _,by simp,by simp,⟨?_,Zu hs.init⟩,uB⟩
 ·intro i p q h1 h2
  simp at h1 h2
 ·have:=VV hs.Kl
  have h9:=hs.zm;show(IX u.globals).length<=100000;omega
end
end
end
variable {p:Act->ae->Prop} {b:aq} {X:bZ} {u:dk} {L:List (Nat×K)} {ds:List Deferred} {H:List cq} {bl:List aq} {fs fs':List bZ} {N R c n s:Nat} {S:Nat->Prop} {α:Type} {v:K} {w w0:ae}
theorem Zs(h:E4 X):∀B∈X.blocks,B.list.length<=1000/\B.bg.length<=1000:=λB hB=>by
 have h1:((B.bg.length+B.list.length:Nat):Int)<=ja X.blocks:=by
  unfold ja;generalize X.blocks=l at hB
  induction l with
  |nil=>cases hB
  |cons C l ih=>
   have Xz:∀m:List aq,0<=(m.map λb=>((b.bg.length+b.list.length:Nat):Int)).sum:=λm=>by
    induction m with
    |nil=>simp
    |cons eE m ih=>simp only[cf,g_];omega
   simp only[cf,g_];rcases bX.1 hB with rfl|hB
   ·have:=Xz l;omega
   ·have:=ih hB;omega
 have:=h.2;omega
structure AA(B:aq):Prop where
 on:dE B.on.n
 bg:∀q∈B.bg,∀v∈q.src,dE v.n
 list:∀x∈B.list,dE x.dst/\dE x.a.n/\dE x.b.n/\∀v∈x.args,dE v.n
theorem aY.el{l:List α}{dL:ae->α->List K->Prop}(h:aY w v s l dL){x:α}(hx:x∈l):∃cs,dL w x cs:=by
 obtain⟨_,_,_,_,_,_,_,_,_,_,_,iw⟩:=h;obtain⟨i,hi⟩:=bR hx;obtain⟨cs,_,hV⟩:=iw i x hi;exact⟨cs,hV⟩
theorem ZI{fs:K}{fl:List bZ}(h:aY w fs 4 fl kG):∀X∈fl,∀B∈X.blocks,AA B:=λX hX B hB=>by
 obtain⟨_,bv,_,_,_,Js⟩:=h.el hX;obtain⟨_,pv,lv,tv,_,_,Dv,Ha,KL,_⟩:=Js.el hB;refine⟨Dv,λq hq v hv=>?_,λx hx=>?_⟩
 ·obtain⟨_,sv,_,_,rC⟩:=Ha.el hq
  obtain⟨_,_,h9⟩:=rC.el hv;exact h9
 ·obtain⟨_,av,_,_,h1,h2,h3,_,Mo⟩:=KL.el hx
  exact⟨h1,h2,h3,λv hv=>by obtain⟨_,_,h9⟩:=Mo.el hv;exact h9⟩
theorem T7{g:K}{gl:List lD}(h:aY w g 3 gl gX):∀cU∈gl,∀x∈cU.init,dE x:=λcU hG x hx=>by
 obtain⟨_,iv,_,_,hiv⟩:=h.el hG;obtain⟨_,_,h9⟩:=hiv.el hx;exact h9
theorem Zo{x:iA}(hp:∀X∈u.funcs,X.params<=100)(h:fA u.funcs R x=0)(hn:dE x.dst/\dE x.a.n/\dE x.b.n/\∀v∈x.args,dE v.n):MC u R x:=by
 have dV:=CB h;unfold fA at h
 split at h
 ·cases h
 split at h
 ·cases h
 split at h
 ·rename_i h3
  simp only[eU,gy,fg]at h3;exact absurd h h3.2
 split at h
 ·rename_i h4;exact absurd h h4
 rename_i h4
 split at h
 ·rename_i h5;exact absurd h h5
 rename_i h5;simp only[ne_eq,h_]at h4 h5;have Uv:x.op=20->(∃(k:Nat) (cP:bZ),x.fn=k/\u.funcs[k]?=O cP/\(x.args.length:Int)=cP.params)/\∀v∈x.args,kW R v:=λe=>by
  unfold jA at h;rw[ai (aD e)]at h
  split at h
  ·cases h
  rename_i h6
  split at h
  ·cases h
  rename_i h7;simp only[within,gy,iW,fg,not_or,h_]at h6;have ce:x.fn.toNat<u.funcs.length:=A;simp only[lC,bL ce,ne_eq,h_]at h7;exact⟨⟨x.fn.toNat,u.funcs[x.fn.toNat],A,bL ce,h7⟩,λv hv=>pj (pD h v hv)⟩
 refine⟨dV.op,pj h4,pj h5,dV.dst,λv hv=>?_,?_,λe=>(Uv e).1,hn⟩
 ·by_cases e:x.op=20
  ·exact(Uv e).2 v hv
  ·rw[dV.args e]at hv;cases hv
 ·by_cases e:x.op=20
  ·obtain⟨k,cP,_,hY,h9⟩:=(Uv e).1
   have:=hp cP (aA hY);omega
  ·rw[dV.args e];simp
theorem Yb(h:mr n R b=0):(b.kind=1\/b.kind=2\/b.kind=3)/\(b.to.length:Int)=b.kind-1:=by
 unfold mr yN at h
 split at h
 ·cases h
 rename_i h1
 split at h
 ·cases h
 rename_i h2;simp only[within,gy,iW,fg,not_or,h_]at h1;simp only[ne_eq,h_]at h2;exact⟨A,h2⟩
theorem Xc(hl:vu u)(h:(gL u).1=0)(hn:∀X∈u.funcs,∀B∈X.blocks,AA B):tV u:=by
 have hlen:=hl.1;refine⟨A,λk X hX=>?_⟩;have Iu:=aA hX;have hp:∀X∈u.funcs,X.params<=100:=λcP hY=>by
  obtain⟨j,hj⟩:=bR hY;have:=qA h hj;omega
 have hh:=qA h hX;have hbe:=vQ h X Iu;have aaD:=Zs (hl.2 X Iu);have hR:X.bm=(X.bm.toNat:Nat):=A;have hfo:=Ew hR hbe;have ajC:=(hl.2 X Iu).1;refine⟨X.bm.toNat,hR,A,hfo,Qy h hX,A,⟨hh.1,A⟩,λB hB=>?_⟩;obtain⟨b,hb⟩:=bR hB;have AV:=hfo.block b B hb;have hnB:=hn X Iu B hB;unfold jz at hbe
 split at hbe
 ·rename_i h1;exact absurd hbe h1
 rename_i h1;have IE:=pD (by simpa using h1:(fH (lC X.blocks (mr X.blocks.length X.bm)) X.blocks.length).1=0) B hB;have Mq:=kD hbe b (aJ.1 hb).1;simp only[lq,hb]at Mq
 split at Mq
 ·rename_i h2;exact absurd Mq h2
 have Cs:=pD Mq;rw[hR]at IE Cs;exact⟨Yb IE,⟨AV.on,hnB.on⟩,⟨(aaD B hB).1,λx hx=>Zo hp (Cs x hx) (hnB.list x hx)⟩,⟨(aaD B hB).2,hnB.bg⟩⟩
theorem J3(h:(gL u).1=0)(hn:∀cU∈u.globals,∀x∈cU.init,dE x):HW u:=by
 unfold gL at h
 split at h
 ·cases h
 rename_i h1
 split at h
 ·rename_i h2;exact absurd h h2
 rename_i h2
 split at h
 ·rename_i h3;exact absurd h h3
 split at h
 ·rename_i h3;exact absurd h h3
 split at h
 ·cases h
 rename_i h4;refine⟨A,λcU hG=>?_,hn,A,?_⟩
 ·have hz:=kD (aD h2)
  obtain⟨j,hj⟩:=bR hG;have:=hz j (aJ.1 hj).1;simp only[qF,lC,hj,ls]at this
  split at this
  ·cases this
  split at this
  ·cases this
  split at this
  ·cases this
  rename_i h5
  split at this
  ·cases this
  rename_i h6;simp only[within,gy,iW,fg,not_or,h_]at h5;omega
 ·unfold fE at h4|-
  cases hf:u.funcs.findIdx? CC with
  |none=>rw[hf]at h4;simp at h4
  |some i=>
   have hi:=(List.findIdx?_eq_some_iff_getElem.1 hf).1;exact⟨i,u.funcs[i],rfl,bL hi⟩
section
set_option maxHeartbeats 8000000
attribute [local irreducible] wpListIn Code.wpIn Exit.then Exit.inBlock bodyPost wpQuiet wpAnyIn wpAnyH
theorem kS{ps mI:List α}{j:Nat}{y:α}(hj:ps.length=j)(ce:j<mI.length):(ps++mI.drop j).set j y=(ps++[y])++mI.drop (j+1):=by
 rw[kj _ _ A,hj,cV,jb ce,bI,fu]
 rfl
theorem Wp(to xs ps v a b:α)(eE P X:List α):(to::xs::ps::v::a::b::((eE++P)++X)).Perm ((ps::xs::to::(P++X))++(v::a::b::eE)):=by
 have h1:(to::xs::ps::v::a::b::((eE++P)++X)).Perm ([to,xs,ps]++((v::a::b::eE)++(P++X))):=by
  simp only[bF,aS,fu];exact List.Perm.refl _
 have h2:([to,xs,ps]++((v::a::b::eE)++(P++X))).Perm ([to,xs,ps]++((P++X)++(v::a::b::eE))):=List.Perm.append_left _ fG;have h3:[to,xs,ps].Perm [ps,xs,to]:=(List.reverse_perm [to,xs,ps]).symm;have h4:=h3.append_right ((P++X)++(v::a::b::eE));refine(h1.trans (h2.trans h4)).trans ?_;simp only[bF,aS,fu];exact List.Perm.refl _
theorem abe(nm:ByteArray)(pa re:Int)(bl:List aq)(bs:K)(w0:ae)(gV:aY w0 bs 6 bl da)(hlen:bl.length<=1000)(oF:∀b:aK,b.dD∈bl->qk w0 b->b.Bd):
  iL Y 61 [aC #[aQ nm,J Z pa,J Z re,bs]] w0 λu w'=>∃x:ax×Nat×List aK,u=aC #[aQ nm,J Z pa,J Z re,I x.1 bl.length x.2.1]/\Wd db w0 (am x.1 bl.length x.2.1 x.2.2::x.2.2.map bP) w'/\x.2.2.map aK.dD=bl/\∀b∈x.2.2,b.Bd:=by
 obtain⟨ba,bc,q,rfl,xB,Hb,Dy⟩:=xe gV;have vh:q.length=bl.length:=by rw[<-xB,aG]
 rw[<-vh];refine aR func61 rfl ntmps61 rfl (Wd.nil db w0) ?_
 repeat(first|refine bA ?_|refine dd λ_ _=>?_)
 rename_i p1 _ p2 _;refine cN (val:=λx:ax×Nat=>.slice x.1 q.length x.2) (cZ:=λx=>[am x.1 q.length x.2 q]) (φ:=λ_=>True) rfl (λw hw=>Ia ba bc q A w (Hb.cB (λ_ _ _ _ _ h=>h) hw.c_)) λx _=>?_;obtain⟨xa,xc⟩:=x;simp only[bF,aS];refine aV ?_;refine bH (λ(ds:List aK)=>ds.length<=q.length/\ds.map aK.dD=(q.take ds.length).map aK.dD/\∀b∈ds,b.Bd) (λds=>[(16,J Z ds.length),(14,I xa q.length xc),(15,J Z q.length),M 2 p2,M 1 p1])
  (λds=>am xa q.length xc (ds++q.drop ds.length)::aj p2::D p1 nm pa re xa q.length xc::ds.map bP) (λds=>q.length-ds.length) [] ⟨aN _,rfl,by simp⟩ (aP V kg) λds ⟨hi,Aq,Pd⟩=>?_
 refine bA ?_;apply aL<;>intro h1
 ·have ce:ds.length<q.length:=aD h1
  generalize tO:ds.length=i at*;obtain⟨b,hb⟩:=bE q i ce;have YG:=aA hb;have hA:=Dy b YG;have hB:=oF b (by rw[<-xB];exact aT.2 ⟨b,YG,rfl⟩) hA;obtain⟨MN,OV,mI,GJ,H4,oe,bk,tY,Do,Dp,mq⟩:=b;have hBp:=hB.bg;have hBx:=hB.list;have hBt:=hB.to.1;simp only at hBp hBx hBt;refine fy 0 rfl A λvb vo qt=>?_;subst qt;have kK:cg i q.length:=⟨ce⟩;have jT:(ds++q.drop i)[i]?=O (⟨MN,OV,mI,GJ,H4,oe,bk,tY,Do,Dp,mq⟩:aK):=by
   rw[dH A,tO,cV,gp,dR];exact hb
  have hoa:gm (am (O ⟨vb,vo,U⟩) q.length xc (ds++q.drop i)::aj p2::D p1 nm pa re (O ⟨vb,vo,U⟩) q.length xc::ds.map bP) vb (vo+i*6) _:=jJ (k:=0) rfl de jT;simp only[eA,D,aj,am]at hoa
  repeat(first|refine aV ?_|refine dd λ_ _=>?_)
  rename_i p4 _;refine cN (val:=λx:ax×Nat=>.slice x.1 mI.length x.2) (cZ:=λx=>[aw x.1 mI.length x.2 mI]) (φ:=λ_=>True) rfl (λw hw=>MX MN OV mI A w (hA.bg.cB (λ_ _ _ _ _ h=>h) hw.c_)) λx _=>?_;obtain⟨ya,yc⟩:=x;simp only[bF,aS];refine aV ?_;refine bH (λ(ps:List ch)=>ps.length<=mI.length/\ps.map ch.iN=(mI.take ps.length).map ch.iN) (λps=>[(28,J Z ps.length),(26,I ya mI.length yc),(27,J Z mI.length),(3,J Z i),M 4 p4,(16,J Z i),(14,I (O ⟨vb,vo,U⟩) q.length xc),(15,J Z q.length),M 2 p2,M 1 p1])
   (λps=>aw ya mI.length yc (ps++mI.drop ps.length)::au p4 ya mI.length yc GJ oe.length H4 bk tY Do mq.length Dp::(am (O ⟨vb,vo,U⟩) q.length xc (ds++q.drop i)::aj p2::D p1 nm pa re (O ⟨vb,vo,U⟩) q.length xc::(ds.map bP++ps.map dZ))) (λps=>mI.length-ps.length) [] ⟨aN _,rfl⟩ (aP V kg) λps ⟨hj,zS⟩=>?_
  refine bA ?_;apply aL<;>intro h2
  ·have iS:ps.length<mI.length:=aD h2
   generalize Nv:ps.length=j at*;obtain⟨p,hp⟩:=bE mI j iS;have Q1:=aA hp;obtain⟨hpd,Ha⟩:=hA.iN p Q1;obtain⟨_,yT,_⟩:=hB.iN p Q1;obtain⟨pd,iq,gH,pl⟩:=p;simp only at hpd Ha yT;refine fy 0 rfl A λzb zo Bk=>?_;subst Bk;have Dt:cg j mI.length:=⟨iS⟩;have aax:(ps++mI.drop j)[j]?=O (⟨pd,iq,gH,pl⟩:ch):=by
    rw[dH A,Nv,cV,gp,dR];exact hp
   have zu:gm (aw (O ⟨zb,zo,U⟩) mI.length yc (ps++mI.drop j)::au p4 (O ⟨zb,zo,U⟩) mI.length yc GJ oe.length H4 bk tY Do mq.length Dp::(am (O ⟨vb,vo,U⟩) q.length xc (ds++q.drop i)::aj p2::D p1 nm pa re (O ⟨vb,vo,U⟩) q.length xc::(ds.map bP++ps.map dZ))) zb (zo+j*2) _:=jJ (k:=0) rfl eP aax;simp only[iz,D,aj,am,au,aw]at zu
   repeat(first|refine aV ?_|refine dd λ_ _=>?_)
   rename_i p6 _;refine vX (bN p6 pd iq pl.length gH::au p4 (O ⟨zb,zo,U⟩) mI.length yc GJ oe.length H4 bk tY Do mq.length Dp::(am (O ⟨vb,vo,U⟩) q.length xc (ds++q.drop i)::aj p2::D p1 nm pa re (O ⟨vb,vo,U⟩) q.length xc::(ds.map bP++ps.map dZ))) mixed aB ?_;refine W 0 ?_;refine W 1 ?_;refine W 2 ?_;refine W 3 ?_;refine W 4 ?_;refine lY 5 (val:=λx:ax×Nat=>.slice x.1 pl.length x.2) (cZ:=λx=>[ar x.1 pl.length x.2 pl]) (φ:=λ_=>True) rfl E aB (λw hw=>zH iq gH pl A w ((wC Ha).cB (λ_ _ _ _ _ h=>h) hw.c_)) λx _=>?_;obtain⟨na,nc⟩:=x;simp only[bF,aS];refine W 6 ?_;refine W 7 ?_;have Q0:mf (ar na pl.length nc pl::bN p6 pd iq pl.length gH::aw (O ⟨zb,zo,U⟩) mI.length yc (ps++mI.drop j)::au p4 (O ⟨zb,zo,U⟩) mI.length yc GJ oe.length H4 bk tY Do mq.length Dp::(am (O ⟨vb,vo,U⟩) q.length xc (ds++q.drop i)::aj p2::D p1 nm pa re (O ⟨vb,vo,U⟩) q.length xc::(ds.map bP++ps.map dZ))) zb (zo+j*2+1) 2 zo (j*2+1) mI.length yc 49 2 ((ps++mI.drop j).flatMap iz):=⟨rfl,A⟩;have mT:lS ((ps++mI.drop j).flatMap iz) (j*2+1) (I na pl.length nc) (((ps++[(⟨pd,na,nc,pl⟩:ch)])++mI.drop (j+1)).flatMap iz):=⟨by
     rw[fL eP aax (k:=1) A (y:=⟨pd,na,nc,pl⟩) rfl];congr 1;exact kS Nv iS,by rw[cA eP,bW,eS];omega⟩
   refine jr 8 E E aB ?_;refine aU ?_;have gk:(ps++[(⟨pd,na,nc,pl⟩:ch)]).length=j+1:=by simp[Nv]
   refine iC (L':=[(28,J Z ((j:Int)+1)),(26,I (O ⟨zb,zo,U⟩) mI.length yc),(27,J Z mI.length),(3,J Z i),M 4 p4,(16,J Z i),(14,I (O ⟨vb,vo,U⟩) q.length xc),(15,J Z q.length),M 2 p2,M 1 p1]) V (dN (.cons _ (.refl _))) ?_;refine bG (fG (l₁:=[ar na pl.length nc pl])) ?_;refine fU (H1:=aw (O ⟨zb,zo,U⟩) mI.length yc ((ps++[(⟨pd,na,nc,pl⟩:ch)])++mI.drop (ps++[(⟨pd,na,nc,pl⟩:ch)]).length)::au p4 (O ⟨zb,zo,U⟩) mI.length yc GJ oe.length H4 bk tY Do mq.length Dp::am (O ⟨vb,vo,U⟩) q.length xc (ds++q.drop i)::aj p2::D p1 nm pa re (O ⟨vb,vo,U⟩) q.length xc::(ds.map bP++(ps++[(⟨pd,na,nc,pl⟩:ch)]).map dZ)) ?_ ?_
   ·rw[gk]
    simp only[bF,bz,cf,dm,fu,dZ]
   refine iC (L':=[(28,J Z ((ps++[(⟨pd,na,nc,pl⟩:ch)]).length:Nat)),(26,I (O ⟨zb,zo,U⟩) mI.length yc),(27,J Z mI.length),(3,J Z i),M 4 p4,(16,J Z i),(14,I (O ⟨vb,vo,U⟩) q.length xc),(15,J Z q.length),M 2 p2,M 1 p1]) ?_ (.refl _) ?_
   ·rw[gk]
    exact V
   refine a_ (ps++[(⟨pd,na,nc,pl⟩:ch)]) ⟨by rw[gk];omega,?_⟩ (by rw[gk];omega) V aF;rw[gk,bV,hp,bz,bz,zS];rfl
  ·have fX:ps.length=mI.length:=by have:=h2;simp at this;omega
   rw[fX,gY,cj];rw[fX,cL]at zS;refine aV ?_;refine cN (val:=λx:ax×Nat=>.slice x.1 oe.length x.2) (cZ:=λx=>[aH x.1 oe.length x.2 oe]) (φ:=λ_=>True) rfl (λw hw=>MW GJ H4 oe A w (hA.list.cB (λ_ _ _ _ _ h=>h) hw.c_)) λx _=>?_;obtain⟨ia,ic⟩:=x;simp only[bF,aS];refine aV ?_;refine bG (H1:=aH ia oe.length ic oe::au p4 ya mI.length yc ia oe.length ic bk tY Do mq.length Dp::aw ya mI.length yc ps::am (O ⟨vb,vo,U⟩) q.length xc (ds++q.drop i)::aj p2::D p1 nm pa re (O ⟨vb,vo,U⟩) q.length xc::(ds.map bP++ps.map dZ)) (List.Perm.cons _ (List.Perm.swap _ _ _)) ?_;refine bH (λ(is:List dP)=>is.length<=oe.length/\is.map (·.x)=(oe.take is.length).map (·.x)) (λis=>[(49,J Z is.length),(47,I ia oe.length ic),(48,J Z oe.length),(3,J Z i),M 4 p4,(16,J Z i),(14,I (O ⟨vb,vo,U⟩) q.length xc),(15,J Z q.length),M 2 p2,M 1 p1])
    (λis=>aH ia oe.length ic (is++oe.drop is.length)::au p4 ya mI.length yc ia oe.length ic bk tY Do mq.length Dp::aw ya mI.length yc ps::am (O ⟨vb,vo,U⟩) q.length xc (ds++q.drop i)::aj p2::D p1 nm pa re (O ⟨vb,vo,U⟩) q.length xc::((ds.map bP++ps.map dZ)++is.map gC)) (λis=>oe.length-is.length) [] ⟨aN _,rfl⟩ (aP V kg) λis ⟨hj,Jv⟩=>?_
   refine bA ?_;apply aL<;>intro h3
   ·have iS:is.length<oe.length:=aD h3
    generalize Nv:is.length=j at*;obtain⟨y,hy⟩:=bE oe j iS;have p_:=aA hy;obtain⟨_,NO⟩:=hA.ins y p_;obtain⟨_,vK,_⟩:=hB.ins y p_;obtain⟨yx,Xn,Xo⟩:=y;simp only at NO vK;refine fy 0 rfl A λzb zo Bk=>?_;subst Bk;have Dt:cg j oe.length:=⟨iS⟩;have KG:(is++oe.drop j)[j]?=O (⟨yx,Xn,Xo⟩:dP):=by
     rw[dH A,Nv,cV,gp,dR];exact hy
    have zu:gm (aH (O ⟨zb,zo,U⟩) oe.length ic (is++oe.drop j)::au p4 ya mI.length yc (O ⟨zb,zo,U⟩) oe.length ic bk tY Do mq.length Dp::aw ya mI.length yc ps::am (O ⟨vb,vo,U⟩) q.length xc (ds++q.drop i)::aj p2::D p1 nm pa re (O ⟨vb,vo,U⟩) q.length xc::((ds.map bP++ps.map dZ)++is.map gC)) zb (zo+j*8) _:=jJ (k:=0) rfl ep KG;simp only[ki,D,aj,am,au,aw,aH]at zu
    repeat(first|refine aV ?_|refine dd λ_ _=>?_)
    rename_i p8 _;refine vX (bK p8 yx.op yx.dst yx.a yx.b yx.fn Xn yx.args.length Xo::au p4 ya mI.length yc (O ⟨zb,zo,U⟩) oe.length ic bk tY Do mq.length Dp::aw ya mI.length yc ps::am (O ⟨vb,vo,U⟩) q.length xc (ds++q.drop i)::aj p2::D p1 nm pa re (O ⟨vb,vo,U⟩) q.length xc::((ds.map bP++ps.map dZ)++is.map gC)) mixed aB ?_;refine W 0 ?_;refine W 1 ?_;refine W 2 ?_;refine W 3 ?_;refine W 4 ?_;refine lY 5 (val:=λx:ax×Nat=>.slice x.1 yx.args.length x.2) (cZ:=λx=>[ar x.1 yx.args.length x.2 yx.args]) (φ:=λ_=>True) rfl E aB (λw hw=>zH Xn Xo yx.args A w ((wC NO).cB (λ_ _ _ _ _ h=>h) hw.c_)) λx _=>?_;obtain⟨na,nc⟩:=x;simp only[bF,aS];refine W 6 ?_;refine W 7 ?_;have Q0:mf (ar na yx.args.length nc yx.args::bK p8 yx.op yx.dst yx.a yx.b yx.fn Xn yx.args.length Xo::aH (O ⟨zb,zo,U⟩) oe.length ic (is++oe.drop j)::au p4 ya mI.length yc (O ⟨zb,zo,U⟩) oe.length ic bk tY Do mq.length Dp::aw ya mI.length yc ps::am (O ⟨vb,vo,U⟩) q.length xc (ds++q.drop i)::aj p2::D p1 nm pa re (O ⟨vb,vo,U⟩) q.length xc::((ds.map bP++ps.map dZ)++is.map gC)) zb (zo+j*8+7) 2 zo (j*8+7) oe.length ic 56 8 ((is++oe.drop j).flatMap ki):=⟨rfl,A⟩;have mT:lS ((is++oe.drop j).flatMap ki) (j*8+7) (I na yx.args.length nc) (((is++[(⟨yx,na,nc⟩:dP)])++oe.drop (j+1)).flatMap ki):=⟨by
      rw[fL ep KG (k:=7) A (y:=⟨yx,na,nc⟩) rfl];congr 1;exact kS Nv iS,by rw[cA ep,bW,eS];omega⟩
    refine jr 8 E E aB ?_;refine aU ?_;have gk:(is++[(⟨yx,na,nc⟩:dP)]).length=j+1:=by simp[Nv]
    refine iC (L':=[(49,J Z ((j:Int)+1)),(47,I (O ⟨zb,zo,U⟩) oe.length ic),(48,J Z oe.length),(3,J Z i),M 4 p4,(16,J Z i),(14,I (O ⟨vb,vo,U⟩) q.length xc),(15,J Z q.length),M 2 p2,M 1 p1]) V (dN (.cons _ (.refl _))) ?_;refine bG (fG (l₁:=[ar na yx.args.length nc yx.args])) ?_;refine fU (H1:=aH (O ⟨zb,zo,U⟩) oe.length ic ((is++[(⟨yx,na,nc⟩:dP)])++oe.drop (is++[(⟨yx,na,nc⟩:dP)]).length)::au p4 ya mI.length yc (O ⟨zb,zo,U⟩) oe.length ic bk tY Do mq.length Dp::aw ya mI.length yc ps::am (O ⟨vb,vo,U⟩) q.length xc (ds++q.drop i)::aj p2::D p1 nm pa re (O ⟨vb,vo,U⟩) q.length xc::((ds.map bP++ps.map dZ)++(is++[(⟨yx,na,nc⟩:dP)]).map gC)) ?_ ?_
    ·rw[gk]
     simp only[bF,bz,cf,dm,fu,gC]
    refine iC (L':=[(49,J Z ((is++[(⟨yx,na,nc⟩:dP)]).length:Nat)),(47,I (O ⟨zb,zo,U⟩) oe.length ic),(48,J Z oe.length),(3,J Z i),M 4 p4,(16,J Z i),(14,I (O ⟨vb,vo,U⟩) q.length xc),(15,J Z q.length),M 2 p2,M 1 p1]) ?_ (.refl _) ?_
    ·rw[gk]
     exact V
    refine a_ (is++[(⟨yx,na,nc⟩:dP)]) ⟨by rw[gk];omega,?_⟩ (by rw[gk];omega) V aF;rw[gk,bV,hy,bz,bz,Jv];rfl
   ·have hgi:is.length=oe.length:=by have:=h3;simp at this;omega
    rw[hgi,gY,cj];rw[hgi,cL]at Jv;refine aV ?_;refine cN (val:=λx:ax×Nat=>.slice x.1 mq.length x.2) (cZ:=λx=>[aE x.1 mq.length x.2 mq]) (φ:=λ_=>True) rfl (λw hw=>Ef Do Dp mq A w (hA.to.cB du hw.c_)) λx _=>?_;obtain⟨oa,oc⟩:=x;simp only[bF,aS];refine aV ?_;rw[<-fX,<-hgi];refine k_ 4 (j:=i*6) rfl rfl (by rw[cA de,bW,eS];omega) ?_;have nE:=iZ de (l:=ds++q.drop i) (i:=i) (by rw[bW,eS];omega) (⟨ya,yc,ps,ia,ic,is,bk,tY,oa,oc,mq⟩:aK);rw[kS tO ce]at nE;simp only[eA]at nE;rw[nE];refine aU ?_;have gk:(ds++[(⟨ya,yc,ps,ia,ic,is,bk,tY,oa,oc,mq⟩:aK)]).length=i+1:=by simp[tO]
    refine iC (L':=[(16,J Z ((i:Int)+1)),(14,I (O ⟨vb,vo,U⟩) q.length xc),(15,J Z q.length),M 2 p2,M 1 p1]) V (H':=aE oa mq.length oc mq::aH ia is.length ic is::aw ya ps.length yc ps::am (O ⟨vb,vo,U⟩) q.length xc ((ds++[(⟨ya,yc,ps,ia,ic,is,bk,tY,oa,oc,mq⟩:aK)])++q.drop (i+1))::aj p2::D p1 nm pa re (O ⟨vb,vo,U⟩) q.length xc::((ds.map bP++ps.map dZ)++is.map gC)) (dN (dN (.cons _ (.refl _)))) ?_;refine bG (Wp _ _ _ _ _ _ (ds.map bP) (ps.map dZ) (is.map gC)) ?_;refine yv ?_;refine bG (fG (l₁:=[bP (⟨ya,yc,ps,ia,ic,is,bk,tY,oa,oc,mq⟩:aK)])) ?_;refine fU (H1:=am (O ⟨vb,vo,U⟩) q.length xc ((ds++[(⟨ya,yc,ps,ia,ic,is,bk,tY,oa,oc,mq⟩:aK)])++q.drop (ds++[(⟨ya,yc,ps,ia,ic,is,bk,tY,oa,oc,mq⟩:aK)]).length)::aj p2::D p1 nm pa re (O ⟨vb,vo,U⟩) q.length xc::(ds++[(⟨ya,yc,ps,ia,ic,is,bk,tY,oa,oc,mq⟩:aK)]).map bP) ?_ ?_
    ·rw[gk]
     simp only[bF,bz,cf,dm]
    refine iC (L':=[(16,J Z ((ds++[(⟨ya,yc,ps,ia,ic,is,bk,tY,oa,oc,mq⟩:aK)]).length:Nat)),(14,I (O ⟨vb,vo,U⟩) q.length xc),(15,J Z q.length),M 2 p2,M 1 p1]) ?_ (.refl _) ?_
    ·rw[gk]
     exact V
    refine a_ (ds++[(⟨ya,yc,ps,ia,ic,is,bk,tY,oa,oc,mq⟩:aK)]) ⟨by rw[gk];omega,?_,λc hc=>?_⟩ (by rw[gk];omega) V aF
    ·rw[gk,bV,hb,bz,bz,Aq]
     simp[aK.dD,zS,Jv]
    ·rcases bO.1 hc with hc|hc
     ·exact Pd c hc
     ·rw[bQ.1 hc]
      refine⟨hB.kind,hB.on,by simp only;omega,λp hp=>?_,by simp only;omega,λy hy=>?_,hB.to⟩
      ·have:ch.iN p∈mI.map ch.iN:=by rw[<-zS];exact aT.2 ⟨p,hp,rfl⟩
       obtain⟨p',wT,e⟩:=aT.1 this;have:=hB.iN p' wT;simp only[ch.iN,gD.mk.injEq]at e;rw[e.1,e.2]at this;exact this
      ·have:y.x∈oe.map (·.x):=by rw[<-Jv];exact aT.2 ⟨y,hy,rfl⟩
       obtain⟨y',SL,e⟩:=aT.1 this;have:=hB.ins y' SL;rw[e]at this;exact this
 ·have fX:ds.length=q.length:=by have:=h1;simp at this;omega
  rw[fX,gY,cj];rw[fX,cL,xB]at Aq;refine aV ?_;refine fD rfl λw hw=>⟨(xa,xc,ds),rfl,hw.sub (dN (.cons _ (.cons _ (.refl _)))),Aq,Pd⟩
def eu(bl:List aq):Nat:=(bl.map λb=>b.bg.length+b.list.length).sum
def ux(bl:List aq)(re:Int):Bool:=decide (40<bl.length)||(decide (300<eu bl)||decide (100<re))
theorem CH{i:Nat}(h:bl[i]?=O b):eu (bl.take (i+1))=eu (bl.take i)+(b.bg.length+b.list.length):=by
 unfold eu;rw[bV,h];simp
theorem PC(h:∀b∈bl,b.bg.length<=1000/\b.list.length<=1000):∀i,eu (bl.take i)<=2000*i:=by
 intro i
 induction i with
 |zero=>simp[eu]
 |succ i ih=>
  cases hb:bl[i]? with
  |none=>
   have:bl.take (i+1)=bl.take i:=by rw[bV,hb];simp
   rw[this];omega
  |some b=>
   have:=h b (aA hb);rw[CH hb];omega
theorem Zq(nm pa:K)(re:Int)(bl:List aq)(bs:K)(w0:ae)(gV:aY w0 bs 6 bl da)(hlen:bl.length<=1000)(hb:∀b∈bl,b.bg.length<=1000/\b.list.length<=1000):
  gF Y 62 [aC #[nm,pa,J Z re,bs]] w0 (ag (ux bl re)):=by
 obtain⟨ba,n,bc,bb,bo,rfl,hn,qg,A_,yy,qd,iw⟩:=gV;refine aR func62 rfl ntmps62 rfl (Wd.nil db w0) ?_
 repeat(first|refine aU ?_|refine dd λ_ _=>?_)
 rename_i p1 _;have wO:=PC hb;refine bH (λ(i:Nat)=>i<=n) (λi=>[(9,J Z i),(3,J Z (eu (bl.take i))),(7,I ba n bc),(8,J Z n),M 1 p1]) (λ_=>[aM p1 [nm,pa,J Z re,I ba n bc] 35]) (λi=>n-i) 0 (aN _) (aP V aF) λi hi=>?_;refine bA ?_;apply aL<;>intro h1
 ·have ce:i<n:=aD h1
  obtain⟨B,hB⟩:=eI hn ce;have mJ:cl ba bb bo:=⟨qd (aZ hB)⟩;have kK:cg i n:=⟨ce⟩;obtain⟨cs,gW,pv,lv,tv,rfl,_,_,Ha,KL,Zc⟩:=iw i B hB;obtain⟨Wo,pn,pc,_,_,rfl,As,_⟩:=Ha;obtain⟨la,ln,lc,_,_,rfl,Jy,_⟩:=KL;obtain⟨ta,tn,tc,_,_,rfl,qZ,_⟩:=Zc;have nO:bu w0 bb (bo+i*6) _:=⟨gW⟩;have hBl:=hb B (aA hB);have hm:=wO i
  repeat(first|refine aV ?_|refine dd λ_ _=>?_)
  refine iC (L':=[(9,J Z ((i:Int)+1)),(3,J Z (eu (bl.take (i+1)))),(7,I ba n bc),(8,J Z n),M 1 p1]) ?_ (.refl _) ?_
  ·rw[CH hB,<-As,<-Jy]
   rw[show(((eu (bl.take i)+(pn+ln):Nat):Int))=(eu (bl.take i):Int)+((pn:Int)+(ln:Int)) by omega];exact V
  exact a_ (i+1) ce A V aB
 ·have fX:i=n:=by have:=h1;simp at this;omega
  rw[fX,hn,cL];have Jy:=hn;refine aV ?_
  by_cases h40:40<bl.length
  ·rw[show decide ((40:Int)<(bl.length:Int))=true by simp;omega]
   refine cT ?_;exact cv rfl (by simp[ux,h40])
  rw[show decide ((40:Int)<(bl.length:Int))=false by simp;omega];refine aV ?_
  by_cases T_:300<eu bl
  ·rw[show decide ((300:Int)<(eu bl:Int))=true by simp;omega]
   refine cT ?_;exact cv rfl (by simp[ux,T_])
  rw[show decide ((300:Int)<(eu bl:Int))=false by simp;omega];refine aV ?_;exact cv rfl (by simp[ux,h40,T_])
structure lA where
 name:ByteArray
 size:Int
 a:ax
 c:Nat
 init:List Int
structure pB where
 name:ByteArray
 params:Int
 bm:Int
 a:ax
 c:Nat
 blocks:List aq
def lA.DP(g:lA):lD:=⟨g.name,g.size,g.init⟩
def pB.rY(q:pB):bZ:=⟨q.name,q.params,q.bm,q.blocks⟩
def oq(g:lA):List K:=[aQ g.name,J Z g.size,I g.a g.init.length g.c]
def zM(q:pB):List K:=[aQ q.name,J Z q.params,J Z q.bm,I q.a q.blocks.length q.c]
def pI(g:lA):cq:=G g.a g.init.length g.c 3 1 (g.init.map (J Z))
theorem xu(g:lA):(oq g).length=3:=rfl
theorem AO(q:pB):(zM q).length=4:=rfl
def aa5(_:ae)(g:lA)(cs:List K):Prop:=cs=oq g
def aa4(_:ae)(q:pB)(cs:List K):Prop:=cs=zM q
theorem Kk{l:List lD}(h:aY w v 3 l gX):∃(a:ax) (c:Nat) (gs:List lA),v=I a gs.length c/\gs.map lA.DP=l/\aY w v 3 gs aa5/\∀g∈gs,dE g.size/\aY w (I g.a g.init.length g.c) 1 g.init gI:=by
 obtain⟨a,n,c,b,o,rfl,hn,_⟩:=id h;obtain⟨m,wO,pt,hq⟩:=vE (FY:=aa5) (q:=λx y=>lA.DP y=x/\dE y.size/\aY w (I y.a y.init.length y.c) 1 y.init gI) h λx _ cs ⟨v,e,hd,hs⟩=>by
  have NF:=hs;obtain⟨a',n',c',_,_,rfl,SE,_⟩:=NF;subst SE;exact⟨⟨x.name,x.size,a',c',x.init⟩,e,rfl,hd,hs⟩
 have Cu:=xI (f:=lA.DP) wO λi x hx=>by
  obtain⟨y,hy,e,_⟩:=hq i x hx;exact⟨y,hy,e⟩
 refine⟨a,c,m,by rw[wO,hn],Cu,pt,λp hp=>?_⟩;obtain⟨i,hi⟩:=bR hp;obtain⟨y,hy,_,h2⟩:=hq i (l[i]'(by rw[<-wO];exact(aJ.1 hi).1)) (bL _);rw[hi]at hy;obtain rfl:=bJ hy;exact h2
theorem Kh{l:List bZ}(h:aY w v 4 l kG):∃(a:ax) (c:Nat) (qs:List pB),v=I a qs.length c/\qs.map pB.rY=l/\aY w v 4 qs aa4/\∀q∈qs,(dE q.params/\dE q.bm)/\aY w (I q.a q.blocks.length q.c) 6 q.blocks da:=by
 obtain⟨a,n,c,b,o,rfl,hn,_⟩:=id h;obtain⟨m,wO,pt,hq⟩:=vE (FY:=aa4) (q:=λx y=>pB.rY y=x/\(dE y.params/\dE y.bm)/\aY w (I y.a y.blocks.length y.c) 6 y.blocks da) h λx _ cs ⟨v,e,hp,hr,hs⟩=>by
  have NF:=hs;obtain⟨a',n',c',_,_,rfl,SE,_⟩:=NF;subst SE;exact⟨⟨x.name,x.params,x.bm,a',c',x.blocks⟩,e,rfl,⟨hp,hr⟩,hs⟩
 have Cu:=xI (f:=pB.rY) wO λi x hx=>by
  obtain⟨y,hy,e,_⟩:=hq i x hx;exact⟨y,hy,e⟩
 refine⟨a,c,m,by rw[wO,hn],Cu,pt,λp hp=>?_⟩;obtain⟨i,hi⟩:=bR hp;obtain⟨y,hy,_,h2⟩:=hq i (l[i]'(by rw[<-wO];exact(aJ.1 hi).1)) (bL _);rw[hi]at hy;obtain rfl:=bJ hy;exact h2
theorem Gb(a:ax)(c:Nat)(l:List lA)(hb:l.length<=100000)(w0:ae)(h:aY w0 (I a l.length c) 3 l aa5):
  iL Y 58 [I a l.length c] w0 λu w'=>∃x:ax×Nat,u=I x.1 l.length x.2/\Wd db w0 [G x.1 l.length x.2 65 3 (l.flatMap oq)] w'/\True:=by
 refine aR func58 rfl ntmps58 rfl (Wd.nil db w0) ?_;refine bA ?_;cases a with
 |none=>
  have II:l=[]:=by
   obtain⟨_,_,_,b,o,ha,_⟩:=h.at;exact it λhn=>by cases ha hn
  subst II;refine aV ?_;refine dJ 65 3 ?_;exact dh rfl λw hw=>⟨(U,0),rfl,hw,trivial⟩
 |some ad=>
  refine aU ?_;refine lN rfl λeb _=>?_;refine bA ?_;refine kZ rfl rfl l oq (λ_ _ _ h=>h) (λ_=>rfl) (λy u hu=>by simp only[oq,bX,gr,or_false]at hu;rcases hu with rfl|rfl|rfl<;>rfl) (λw hw=>h.cB (λ_ _ _ _ _ h=>h) hw.c_) A A λa' c'=>?_;rw[aS,eC];refine aU ?_;exact dh rfl λw hw=>⟨(a',c'),rfl,hw,trivial⟩
theorem J5(a:ax)(c:Nat)(l:List pB)(hb:l.length<=100000)(w0:ae)(h:aY w0 (I a l.length c) 4 l aa4):
  iL Y 60 [I a l.length c] w0 λu w'=>∃x:ax×Nat,u=I x.1 l.length x.2/\Wd db w0 [G x.1 l.length x.2 35 4 (l.flatMap zM)] w'/\True:=by
 refine aR func60 rfl ntmps60 rfl (Wd.nil db w0) ?_;refine bA ?_;cases a with
 |none=>
  have II:l=[]:=by
   obtain⟨_,_,_,b,o,ha,_⟩:=h.at;exact it λhn=>by cases ha hn
  subst II;refine aV ?_;refine dJ 35 4 ?_;exact dh rfl λw hw=>⟨(U,0),rfl,hw,trivial⟩
 |some ad=>
  refine aU ?_;refine lN rfl λeb _=>?_;refine bA ?_;refine kZ rfl rfl l zM (λ_ _ _ h=>h) (λ_=>rfl) (λy u hu=>by simp only[zM,bX,gr,or_false]at hu;rcases hu with rfl|rfl|rfl|rfl<;>rfl) (λw hw=>h.cB (λ_ _ _ _ _ h=>h) hw.c_) A A λa' c'=>?_;rw[aS,eC];refine aU ?_;exact dh rfl λw hw=>⟨(a',c'),rfl,hw,trivial⟩
def eM(a:ax)(c:Nat)(bs:List aK):List cq:=G a bs.length c 46 6 (bs.flatMap eA)::bs.map bP
def GG(w0:ae)(tf:Nat)(us xs:List K)(T:bZ->bZ)(X:bZ):Prop:=∀(a:ax) (c:Nat) (bs:List aK) (w:ae),bs.map aK.dD=X.blocks->(∀b∈bs,b.Bd)->nX db w0 w->(∀b,df (eM a c bs) b->w0.heap.size<=b)->Wd (df (eM a c bs)) w (eM a c bs) w->
 iL Y tf (us++[aC #[aQ X.name,J Z X.params,J Z X.bm,I a bs.length c]]++xs) w λu w'=>∃x:ax×Nat×List aK,u=aC #[aQ (T X).name,J Z (T X).params,J Z (T X).bm,I x.1 x.2.2.length x.2.1]/\Wd (df (eM a c bs)) w (eM x.1 x.2.1 x.2.2) w'/\
  (x.2.2.map aK.dD=(T X).blocks/\(∀b∈x.2.2,b.Bd)/\x.2.2.length<=1000/\dE (T X).params/\dE (T X).bm)
structure HR where
 q:pB
 fp:Nat->Prop
def C3(d:HR):cq:=⟨d.fp,λw=>aY w (I d.q.a d.q.blocks.length d.q.c) 6 d.q.blocks da⟩
structure CV(X:bZ):Prop where
 n:X.blocks.length<=1000
 each:∀b∈X.blocks,b.bg.length<=1000/\(∀p∈b.bg,p.src.length<=1000)/\b.list.length<=1000/\(∀i∈b.list,i.args.length<=1000)/\b.to.length<=1000
theorem CV.bd(h:CV X){b:aK}(hb:b.dD∈X.blocks)(hA:qk w b):b.Bd:=by
 obtain⟨h1,h2,h3,h4,h5⟩:=h.each _ hb;simp only[aK.dD,aG]at h1 h3 h5;exact hA.bd h1 (λp hp=>h2 p.iN (by simp only[aK.dD];exact aT.2 ⟨p,hp,rfl⟩)) h3 (λi hi=>h4 i.x (by simp only[aK.dD];exact aT.2 ⟨i,hi,rfl⟩)) h5
def lO(X:bZ):Bool:=ux X.blocks X.bm
def P_(u:dk)(g f:K)(fp:Nat->Prop):cq:=⟨fp,λw=>aY w g 3 u.globals gX/\aY w f 4 u.funcs kG⟩
def SX(u:dk)(T:bZ->bZ)(w0:ae)(v:K)(w':ae):Prop:=
 (∃(i:Nat) (X:bZ),u.funcs[i]?=O X/\lO (T X)=true/\(∀(j:Nat) (cP:bZ),j<i->u.funcs[j]?=O cP->lO (T cP)=false)/\v=.tuple #[aC #[I U 0 0,I U 0 0],aC #[J Z 10,J Z i]]/\nX db w0 w')\/
  ((∀X∈u.funcs,lO (T X)=false)/\∃(ga fa:ax) (gc fc:Nat) (fp:Nat->Prop),v=.tuple #[aC #[I ga u.globals.length gc,I fa u.funcs.length fc],aC #[J Z 0,J Z 0]]/\Wd db w0 [P_ {u with funcs:=u.funcs.map T} (I ga u.globals.length gc) (I fa u.funcs.length fc) fp] w')
theorem TY{a:ax}{bs:List aK}(q:pB)(hn:bs.length<=1000)(hb:∀b∈bs,b.Bd)(hq:bs.map aK.dD=q.blocks)(ha:q.a=a)(hc:q.c=c)
  (k:cU N ds S w0 L (C3 ⟨q,df (eM a c bs)⟩::H) p):cU N ds S w0 L (eM a c bs++H) p:=λact w hS=>k act w ⟨hS.fr,hS.wd.pack _ λw2 hw=>by
 subst ha;subst hc;have hl:q.blocks.length=bs.length:=by rw[<-hq,aG]
 have h2:Wd (df (eM q.a q.c bs)) w2 (am q.a bs.length q.c bs::(bs.map bP++[])) w2:=by rw[cj];exact hw
 have:=h2.blocks hn hb;rw[hq]at this;simp only[hl];exact this⟩
theorem abh(u:dk)(UH:u.globals.length<=100000/\∀g∈u.globals,g.init.length<=100000)(IF:u.funcs.length<=1000/\∀X∈u.funcs,CV X)(g fs:K)(w0:ae)(hg:aY w0 g 3 u.globals gX)(hf:aY w0 fs 4 u.funcs kG)
  (tf:Nat) [bf Y tf] (us xs:List K) (T:bZ->bZ) (hT:∀X∈u.funcs,GG w0 tf us xs T X):
  iL Y 24 [aC #[g,fs],.func (.func tf) us.toArray xs.toArray] w0 (SX u T w0):=by
 obtain⟨ga,gc,gs,rfl,EE,hgs,YP⟩:=Kk hg;obtain⟨fa,fc,qs,rfl,xB,Hb,Dy⟩:=Kh hf;have ahh:gs.length=u.globals.length:=by rw[<-EE,aG]
 have ah9:qs.length=u.funcs.length:=by rw[<-xB,aG]
 refine aR func24 rfl ntmps24 rfl (Wd.nil db w0) ?_
 repeat(first|refine bA ?_|refine dd λ_ _=>?_)
 rename_i p1 _ p2 _ p3 _;refine cN (val:=λx:ax×Nat=>.slice x.1 gs.length x.2) (cZ:=λx=>[G x.1 gs.length x.2 65 3 (gs.flatMap oq)]) (φ:=λ_=>True) rfl (λw hw=>Gb ga gc gs A w (hgs.cB (λ_ _ _ _ _ h=>h) hw.c_)) λx _=>?_;obtain⟨xa,xc⟩:=x;simp only[bF,aS];refine aV ?_;refine bH (λ(ds:List lA)=>ds.length<=gs.length/\ds.map lA.DP=(gs.take ds.length).map lA.DP) (λds=>[(17,J Z ds.length),(15,I xa gs.length xc),(16,J Z gs.length),M 2 p1,M 4 p2,M 5 p3,(1,(Value.func (.func tf) us.toArray xs.toArray))])
  (λds=>G xa gs.length xc 65 3 ((ds++gs.drop ds.length).flatMap oq)::fS p3 0 0::cw p2 U 0 0 U 0 0::cw p1 xa gs.length xc fa qs.length fc::ds.map pI) (λds=>gs.length-ds.length) [] ⟨aN _,rfl⟩ (aP V kg) λds ⟨hi,Aq⟩=>?_
 refine bA ?_;apply aL<;>intro h1
 ·have ce:ds.length<gs.length:=aD h1
  generalize tO:ds.length=j at*;obtain⟨y,hy⟩:=bE gs j ce;have p_:=aA hy;obtain⟨_,NO⟩:=YP y p_;have vK:=UH.2 y.DP (by rw[<-EE];exact aT.2 ⟨y,p_,rfl⟩);obtain⟨yn,yz,Xn,Xo,yi⟩:=y;simp only[lA.DP]at NO vK;refine fy 0 rfl A λzb zo Bk=>?_;subst Bk;have Dt:cg j gs.length:=⟨ce⟩;have KG:(ds++gs.drop j)[j]?=O (⟨yn,yz,Xn,Xo,yi⟩:lA):=by
   rw[dH A,tO,cV,gp,dR];exact hy
  have zu:gm (G (O ⟨zb,zo,U⟩) gs.length xc 65 3 ((ds++gs.drop j).flatMap oq)::fS p3 0 0::cw p2 U 0 0 U 0 0::cw p1 (O ⟨zb,zo,U⟩) gs.length xc fa qs.length fc::ds.map pI) zb (zo+j*3) _:=jJ (k:=0) rfl xu KG;simp only[oq,cw,fS]at zu
  repeat(first|refine aV ?_|refine dd λ_ _=>?_)
  rename_i p8 _;refine vX (aM p8 [aQ yn,J Z yz,I Xn yi.length Xo] 65::fS p3 0 0::cw p2 U 0 0 U 0 0::cw p1 (O ⟨zb,zo,U⟩) gs.length xc fa qs.length fc::ds.map pI) mixed aB ?_;refine W 0 ?_;refine W 1 ?_;refine W 2 ?_;refine W 3 ?_;refine W 4 ?_;refine lY 5 (val:=λx:ax×Nat=>.slice x.1 yi.length x.2) (cZ:=λx=>[aE x.1 yi.length x.2 yi]) (φ:=λ_=>True) rfl E aB (λw hw=>Ef Xn Xo yi A w (NO.cB du hw.c_)) λx _=>?_;obtain⟨na,nc⟩:=x;simp only[bF,aS];refine W 6 ?_;refine W 7 ?_;have Q0:mf (aE na yi.length nc yi::aM p8 [aQ yn,J Z yz,I Xn yi.length Xo] 65::G (O ⟨zb,zo,U⟩) gs.length xc 65 3 ((ds++gs.drop j).flatMap oq)::fS p3 0 0::cw p2 U 0 0 U 0 0::cw p1 (O ⟨zb,zo,U⟩) gs.length xc fa qs.length fc::ds.map pI) zb (zo+j*3+2) 2 zo (j*3+2) gs.length xc 65 3 ((ds++gs.drop j).flatMap oq):=⟨rfl,A⟩;have mT:lS ((ds++gs.drop j).flatMap oq) (j*3+2) (I na yi.length nc) (((ds++[(⟨yn,yz,na,nc,yi⟩:lA)])++gs.drop (j+1)).flatMap oq):=⟨by
    rw[fL xu KG (k:=2) A (y:=⟨yn,yz,na,nc,yi⟩) rfl];congr 1;exact kS tO ce,by rw[cA xu,bW,eS];omega⟩
  refine jr 8 E E aB ?_;refine aU ?_;have gk:(ds++[(⟨yn,yz,na,nc,yi⟩:lA)]).length=j+1:=by simp[tO]
  refine iC (L':=[(17,J Z ((j:Int)+1)),(15,I (O ⟨zb,zo,U⟩) gs.length xc),(16,J Z gs.length),M 2 p1,M 4 p2,M 5 p3,(1,(Value.func (.func tf) us.toArray xs.toArray))]) V (dN (.cons _ (.refl _))) ?_;refine bG (fG (l₁:=[aE na yi.length nc yi])) ?_;refine fU (H1:=G (O ⟨zb,zo,U⟩) gs.length xc 65 3 (((ds++[(⟨yn,yz,na,nc,yi⟩:lA)])++gs.drop (ds++[(⟨yn,yz,na,nc,yi⟩:lA)]).length).flatMap oq)::fS p3 0 0::cw p2 U 0 0 U 0 0::cw p1 (O ⟨zb,zo,U⟩) gs.length xc fa qs.length fc::(ds++[(⟨yn,yz,na,nc,yi⟩:lA)]).map pI) ?_ ?_
  ·rw[gk]
   simp only[bF,bz,cf,dm,pI]
  refine iC (L':=[(17,J Z ((ds++[(⟨yn,yz,na,nc,yi⟩:lA)]).length:Nat)),(15,I (O ⟨zb,zo,U⟩) gs.length xc),(16,J Z gs.length),M 2 p1,M 4 p2,M 5 p3,(1,(Value.func (.func tf) us.toArray xs.toArray))]) ?_ (.refl _) ?_
  ·rw[gk]
   exact V
  refine a_ (ds++[(⟨yn,yz,na,nc,yi⟩:lA)]) ⟨by rw[gk];omega,?_⟩ (by rw[gk];omega) V aF;rw[gk,bV,hy,bz,bz,Aq];rfl
 ·have fX:ds.length=gs.length:=by have:=h1;simp at this;omega
  rw[fX,gY,cj];rw[fX,cL,EE]at Aq;refine aV ?_;refine cN (val:=λx:ax×Nat=>.slice x.1 qs.length x.2) (cZ:=λx=>[G x.1 qs.length x.2 35 4 (qs.flatMap zM)]) (φ:=λ_=>True) rfl (λw hw=>J5 fa fc qs A w (Hb.cB (λ_ _ _ _ _ h=>h) hw.c_)) λx _=>?_;obtain⟨ya,yc⟩:=x;simp only[bF,aS];refine aV ?_;rw[<-fX];have Pd:∀g∈ds,dE g.size/\g.init.length<=100000/\∀z∈g.init,dE z:=λg hg'=>by
   have h0:g.DP∈gs.map lA.DP:=by rw[EE,<-Aq];exact aT.2 ⟨g,hg',rfl⟩
   obtain⟨g',hg1,e⟩:=aT.1 h0;have h3:=YP g' hg1;have h4:=UH.2 g'.DP (by rw[<-EE];exact aT.2 ⟨g',hg1,rfl⟩);simp only[lA.DP,lD.mk.injEq]at e h4;rw[e.2.2]at h4;exact⟨by rw[<-e.2.1];exact h3.1,h4,λz hz=>NT h3.2 z (by rw[e.2.2];exact hz)⟩
  refine bG (H1:=G ya qs.length yc 35 4 (qs.flatMap zM)::fS p3 0 0::cw p2 U 0 0 U 0 0::cw p1 xa ds.length xc ya qs.length yc::G xa ds.length xc 65 3 (ds.flatMap oq)::ds.map pI) ((((List.Perm.swap _ _ _).trans (List.Perm.cons _ (List.Perm.swap _ _ _))).trans (List.Perm.cons _ (List.Perm.cons _ (List.Perm.swap _ _ _)))).cons _) ?_;refine bH (λ(es:List HR)=>es.length<=qs.length/\es.map (λd=>d.q.rY)=(qs.take es.length).map (λq=>T q.rY)/\(∀d∈es,dE d.q.params/\dE d.q.bm)/\∀d∈es,lO d.q.rY=false) (λes=>[(38,J Z es.length),(36,I ya qs.length yc),(37,J Z qs.length),M 2 p1,M 4 p2,M 5 p3,(1,(Value.func (.func tf) us.toArray xs.toArray))])
   (λes=>G ya qs.length yc 35 4 ((es.map (·.q)++qs.drop es.length).flatMap zM)::fS p3 0 0::cw p2 U 0 0 U 0 0::cw p1 xa ds.length xc ya qs.length yc::G xa ds.length xc 65 3 (ds.flatMap oq)::(ds.map pI++es.map C3)) (λes=>qs.length-es.length) [] ⟨aN _,rfl,by simp,by simp⟩ (aP V kg) λes ⟨Ju,vZ,zR,iw⟩=>?_
  refine bA ?_;apply aL<;>intro h2
  ·have ce:es.length<qs.length:=aD h2
   generalize tO:es.length=i at*;obtain⟨q,hq⟩:=bE qs i ce;have KQ:=aA hq;obtain⟨⟨ND,hqr⟩,Mt⟩:=Dy q KQ;have Iu:q.rY∈u.funcs:=by rw[<-xB];exact aT.2 ⟨q,KQ,rfl⟩
   have hXi:u.funcs[i]?=O q.rY:=by rw[<-xB,aW,hq];rfl
   have A8:=IF.2 _ Iu;have hTX:=hT _ Iu;obtain⟨qn,qp,qr,qa,qc,qb⟩:=q;simp only[pB.rY]at ND hqr Mt A8 hTX Iu hXi;refine fy 0 rfl A λvb vo qt=>?_;subst qt;have kK:cg i qs.length:=⟨ce⟩;have jT:(es.map (·.q)++qs.drop i)[i]?=O (⟨qn,qp,qr,qa,qc,qb⟩:pB):=by
    rw[dH (by rw[aG];omega),aG,tO,cV,gp,dR];exact hq
   have zu:gm (G (O ⟨vb,vo,U⟩) qs.length yc 35 4 ((es.map (·.q)++qs.drop i).flatMap zM)::fS p3 0 0::cw p2 U 0 0 U 0 0::cw p1 xa ds.length xc (O ⟨vb,vo,U⟩) qs.length yc::G xa ds.length xc 65 3 (ds.flatMap oq)::(ds.map pI++es.map C3)) vb (vo+i*4) _:=jJ (k:=0) rfl AO jT;simp only[zM,cw,fS]at zu
   repeat(first|refine aV ?_|refine dd λ_ _=>?_)
   rename_i p9 _;refine cN (val:=λx:ax×Nat×List aK=>.agg #[aQ qn,J Z qp,J Z qr,I x.1 qb.length x.2.1]) (cZ:=λx=>am x.1 qb.length x.2.1 x.2.2::x.2.2.map bP) (φ:=λx=>x.2.2.map aK.dD=qb/\∀b∈x.2.2,b.Bd) rfl (λw hw=>abe qn qp qr qb (I qa qb.length qc) w (Mt.cB cu hw.c_) A8.n λb hb hA=>A8.bd hb hA) λx hx=>?_;obtain⟨ca,cc,rows⟩:=x;obtain⟨JA,DU⟩:=hx;simp only at JA DU;have oG:qb.length=rows.length:=by rw[<-JA,aG]
   simp only[oG];refine Ex (H1:=eM ca cc rows) (us:=us) (xs:=xs) (val:=λx:ax×Nat×List aK=>.agg #[aQ (T (⟨qn,qp,qr,qb⟩:bZ)).name,J Z (T (⟨qn,qp,qr,qb⟩:bZ)).params,J Z (T (⟨qn,qp,qr,qb⟩:bZ)).bm,I x.1 x.2.2.length x.2.1]) (cZ:=λx=>eM x.1 x.2.1 x.2.2) (φ:=λx=>x.2.2.map aK.dD=(T (⟨qn,qp,qr,qb⟩:bZ)).blocks/\(∀b∈x.2.2,b.Bd)/\x.2.2.length<=1000/\dE (T (⟨qn,qp,qr,qb⟩:bZ)).params/\dE (T (⟨qn,qp,qr,qb⟩:bZ)).bm) rfl (λw hw=>hTX ca cc rows w JA DU hw.c_ (λb ⟨e,he,hb⟩=>(hw.own e (cM _ he) b hb).1.resolve_left id) hw.pre) λx hx=>?_;obtain⟨za,zc,zs⟩:=x;obtain⟨yD,hzb,NP,hzp,hzr⟩:=hx;obtain⟨cP,hY⟩:∃cP,T (⟨qn,qp,qr,qb⟩:bZ)=cP:=⟨_,rfl⟩;obtain⟨yn,yp,yr,yb⟩:=cP;simp only[hY]at yD hzp hzr|-
   simp only at hzb NP;have aiK:zs.length=yb.length:=by rw[<-yD,aG]
   rw[aiK];have K1:∀b∈yb,b.bg.length<=1000/\b.list.length<=1000:=λb hb=>by
    rw[<-yD]at hb;obtain⟨b',oX,rfl⟩:=aT.1 hb;have:=hzb b' oX;exact⟨by simp only[aK.dD,aG];exact this.bg,by simp only[aK.dD,aG];exact this.list⟩
   refine TY (⟨yn,yp,yr,za,zc,yb⟩:pB) NP hzb yD rfl rfl ?_;obtain⟨fp,hfp⟩:∃fp,df (eM za zc zs)=fp:=⟨_,rfl⟩;rw[hfp];refine aV ?_;refine bY rfl (λw hw=>Zq (aQ yn) (J Z yp) yr yb (I za yb.length zc) w (hw.get (k:=0) rfl) A K1) ?_;refine bA ?_;have jD:∀(g:bZ),g=⟨yn,yp,yr,yb⟩->lO g=ux yb yr:=λg hg=>by rw[hg];rfl
   have YE:∀(j:Nat) (cP:bZ),j<i->u.funcs[j]?=O cP->lO (T cP)=false:=λj cP hj hYj=>by
    have h0:(es.map (λd=>d.q.rY))[j]?=O (T cP):=by
     rw[vZ,aW,yf hj];rw[<-xB,aW]at hYj;obtain⟨q',hq',rfl⟩:=ff.1 hYj;rw[hq'];rfl
    obtain⟨d,hd,e⟩:=aT.1 (aA h0);rw[<-e];exact iw d hd
   by_cases hL:ux yb yr=true
   ·rw[hL]
    refine aU ?_;refine bY rfl (λw _=>vT 10 i w) ?_;refine aV ?_;refine AS rfl λ_ hw=>.inl ⟨i,_,hXi,by rw[jD _ hY];exact hL,YE,rfl,hw.c_⟩
   ·have hLf:ux yb yr=false:=aD hL
    rw[hLf];refine aU ?_;have tN:(es.map (·.q)).length=i:=by rw[aG,tO]
    refine k_ 2 (j:=i*4) rfl rfl (by rw[cA AO,bW,eS];omega) ?_;have nE:=iZ AO (l:=es.map (·.q)++qs.drop i) (i:=i) (by rw[bW,eS];omega) (⟨yn,yp,yr,za,zc,yb⟩:pB);rw[kS tN ce]at nE;simp only[zM]at nE;rw[nE];refine aU ?_;have gk:(es++[(⟨(⟨yn,yp,yr,za,zc,yb⟩:pB),fp⟩:HR)]).length=i+1:=by simp[tO]
    refine iC (L':=[(38,J Z ((i:Int)+1)),(36,I (O ⟨vb,vo,U⟩) qs.length yc),(37,J Z qs.length),M 2 p1,M 4 p2,M 5 p3,(1,(Value.func (.func tf) us.toArray xs.toArray))]) V (dN (.cons _ (.refl _))) ?_;refine bG (fG (l₁:=[C3 (⟨(⟨yn,yp,yr,za,zc,yb⟩:pB),fp⟩:HR)])) ?_;refine fU (H1:=G (O ⟨vb,vo,U⟩) qs.length yc 35 4 (((es++[(⟨(⟨yn,yp,yr,za,zc,yb⟩:pB),fp⟩:HR)]).map (·.q)++qs.drop (es++[(⟨(⟨yn,yp,yr,za,zc,yb⟩:pB),fp⟩:HR)]).length).flatMap zM)::fS p3 0 0::cw p2 U 0 0 U 0 0::cw p1 xa ds.length xc (O ⟨vb,vo,U⟩) qs.length yc::G xa ds.length xc 65 3 (ds.flatMap oq)::(ds.map pI++(es++[(⟨(⟨yn,yp,yr,za,zc,yb⟩:pB),fp⟩:HR)]).map C3)) ?_ ?_
    ·rw[gk]
     simp only[bF,bz,cf,dm,fu]
    refine iC (L':=[(38,J Z ((es++[(⟨(⟨yn,yp,yr,za,zc,yb⟩:pB),fp⟩:HR)]).length:Nat)),(36,I (O ⟨vb,vo,U⟩) qs.length yc),(37,J Z qs.length),M 2 p1,M 4 p2,M 5 p3,(1,(Value.func (.func tf) us.toArray xs.toArray))]) ?_ (.refl _) ?_
    ·rw[gk]
     exact V
    refine a_ (es++[(⟨(⟨yn,yp,yr,za,zc,yb⟩:pB),fp⟩:HR)]) ⟨by rw[gk];omega,?_,λd hd=>?_,λd hd=>?_⟩ (by rw[gk];omega) V aF
    ·rw[gk,bV,hq,bz,bz,vZ]
     simp only[jk,cf,dm,pB.rY,hY]
    ·rcases bO.1 hd with hd|hd
     ·exact zR d hd
     ·rw[bQ.1 hd];exact⟨hzp,hzr⟩
    ·rcases bO.1 hd with hd|hd
     ·exact iw d hd
     ·rw[bQ.1 hd];exact hLf
  ·have KF:es.length=qs.length:=by have:=h2;simp at this;omega
   rw[KF,gY,cj];rw[KF,cL]at vZ;have cX:∀X∈u.funcs,lO (T X)=false:=λX hX=>by
    rw[<-xB]at hX;obtain⟨q,hq,rfl⟩:=aT.1 hX;have:T q.rY∈es.map (λd=>d.q.rY):=by rw[vZ];exact aT.2 ⟨q,hq,rfl⟩
    obtain⟨d,hd,e⟩:=aT.1 this;rw[<-e];exact iw d hd
   have Cu:es.map (λd=>d.q.rY)=u.funcs.map T:=by rw[vZ,<-xB,dM];rfl
   rw[<-KF];refine aV ?_;have ag8:ds.length=u.globals.length:=by have:=bD List.length Aq;rw[aG]at this;exact this
   have ahe:es.length=u.funcs.length:=A;refine AS rfl λw hw=>?_;unfold SX;rw[<-ag8,<-ahe];refine .inr ⟨cX,xa,ya,xc,yc,_,rfl,Wd.pack (H:=[]) (by rw[cj];exact hw) _ λw hw=>⟨?_,?_⟩⟩
   ·have h0:=sq (dL:=gX) lA.DP (lW hw (k:=4) rfl xu A) λy hy cs gW=>?_
    ·rw[Aq]at h0;exact h0
    obtain⟨DC,EV,hy3⟩:=Pd y hy;obtain⟨k,hk⟩:∃k,(G ya es.length yc 35 4 ((es.map (·.q)).flatMap zM)::fS p3 0 0::cw p2 xa ds.length xc ya es.length yc::cw p1 xa ds.length xc ya es.length yc::G xa ds.length xc 65 3 (ds.flatMap oq)::(ds.map pI++es.map C3))[k]?=O (pI y):=
     bR (by simp only[bX,bO];exact .inr (.inr (.inr (.inr (.inr (.inl (aT.2 ⟨y,hy,rfl⟩)))))))
    refine⟨_,gW,DC,?_⟩;refine hw.nf hk rfl A λi x hx=>⟨[J Z x],λj v hj=>?_,rfl,hy3 x (aA hx)⟩
    match j,hj with
    |0,hj=>simp[<-hj,lA.DP]at hx|-;exact hx
   ·have h0:=sq (dL:=kG) pB.rY (lW (l:=es.map (·.q)) hw (k:=0) (by rw[aG];rfl) AO (by rw[aG];omega)) λy hy cs gW=>?_
    ·rw[dM,aG]at h0;rw[<-Cu];exact h0
    obtain⟨d,hd,rfl⟩:=aT.1 hy;obtain⟨k,hk⟩:∃k,(G ya es.length yc 35 4 ((es.map (·.q)).flatMap zM)::fS p3 0 0::cw p2 xa ds.length xc ya es.length yc::cw p1 xa ds.length xc ya es.length yc::G xa ds.length xc 65 3 (ds.flatMap oq)::(ds.map pI++es.map C3))[k]?=O (C3 d):=
     bR (by simp only[bX,bO];exact .inr (.inr (.inr (.inr (.inr (.inr (aT.2 ⟨d,hd,rfl⟩)))))))
    have h5:aY w (I d.q.a d.q.blocks.length d.q.c) 6 d.q.blocks da:=hw.get hk;exact⟨_,gW,(zR d hd).1,(zR d hd).2,h5⟩
end
section
class S7(e:cq)(H:List cq)(H':outParam (List cq)):Prop where
 perm:H.Perm (e::H')
instance(priority:=high)(e:cq)(H:List cq):S7 e (e::H) H:=⟨.refl _⟩
class S_(H1 H:List cq):Prop where
 sub:∃r,H.Perm (H1++r)
instance(priority:=high)(H:List cq):S_ [] H:=⟨⟨H,.refl _⟩⟩
instance(e:cq)(H1 H H':List cq)[h:S7 e H H'][h2:S_ H1 H']:S_ (e::H1) H:=⟨by
 obtain⟨r,hr⟩:=h2.sub
 exact⟨r,h.perm.trans (hr.cons e)⟩⟩
theorem Wd.pick{H1:List cq}(h:Wd S w0 H w)(hs:S_ H1 H):Wd S w0 H1 w:=by
 obtain⟨r,hr⟩:=hs.sub;exact(h.perm hr).sub (fe _ _)
section
variable {P:Program} {N:Nat} {ds:List Deferred} {S:Nat->Prop} {w0:ae} {L L':List (Nat×K)} {H H1 Hr:List cq} {p:Act->ae->Prop} {dw:Act->ae->Prop} {l:List Oper} {di:Nat} {listed:Array Bool}
theorem TZ{φ:α->Prop}{Lx:α->List (Nat×K)}{Hx:α->List cq}(x:α)(hx:φ x)(hL:wX L (Lx x))(hH:S_ (Hx x) H):cU N ds S w0 L H (aa6 N ds S w0 φ Lx Hx):=
 λ_ _ hS=>⟨x,hx,hS.fr.to hL,hS.wd.pick hH⟩
end
theorem fd{dL:ae->α->List K->Prop}{a:ax}{l:List α}(h:aY w (I a n c) s l dL)(hold:∀{b o:Nat} {v:K} {l:List K},ct w b o (v::l)->iO S b)(hV:∀x cs,dL w x cs->∃v r,cs=v::r)(h0:l≠[]):
  ∃b o:Nat,cl a b o/\iO S b/\∀i x,l[i]?=O x->∃cs,bu w b (o+i*s) cs/\dL w x cs:=by
 obtain⟨_,_,_,b,o,ha,iw⟩:=h.at;refine⟨b,o,⟨ha h0⟩,?_,λi x hi=>?_⟩
 ·obtain⟨x,hx⟩:=bE l 0 (yh.2 h0)
  obtain⟨cs,hc,hv⟩:=iw 0 x hx;obtain⟨v,r,rfl⟩:=hV x cs hv;exact hold hc
 ·obtain⟨cs,hc,hv⟩:=iw i x hi
  exact⟨cs,⟨hc⟩,hv⟩
theorem rp{S1:Nat->Prop}{w1:ae}{H2:List cq}(back:∀{w:ae},Wd S1 w1 H w->Wd S w0 (H++H2) w)(k:cU N ds S w0 L (H++H2) p):cU N ds S1 w1 L H p:=λa w hS=>k a w ⟨hS.fr,back hS.wd⟩
theorem rg{f:α->Int}{l:List α}:(fH (lC l f) l.length).1=0↔∀x∈l,f x=0:=by
 refine⟨pD,λh=>?_⟩;rw[iY];intro j hj;simp only[lC,bL hj];exact h _ (my _)
theorem jO{f:Nat->Int}:(fH f n).1=0↔∀j,j<n->f j=0:=⟨kD,λh=>by rw[iY h]⟩
structure qx(fs:List bZ)(X:bZ):Prop where
 ends:∀B∈X.blocks,mr X.blocks.length X.bm B=0
 bg:∀(b:Nat) (B:aq),X.blocks[b]?=O B->∀p∈B.bg,oO X.bm X.blocks b p=0
 list:∀(b:Nat) (B:aq),X.blocks[b]?=O B->∀x∈B.list,fA fs X.bm x=0
theorem Ce:jz fs X=0↔qx fs X:=by
 unfold jz;constructor
 ·intro h
  split at h
  ·rename_i h1;exact absurd h h1
  rename_i h1;have h2:=rg.1 (by simpa using h1:(fH (lC X.blocks (mr X.blocks.length X.bm)) X.blocks.length).1=0);have h3:=jO.1 h;have h4:∀(b:Nat) (B:aq),X.blocks[b]?=O B->(∀p∈B.bg,oO X.bm X.blocks b p=0)/\∀x∈B.list,fA fs X.bm x=0:=λb B hB=>by
   have:=h3 b (aJ.1 hB).1;simp only[lq,hB]at this
   split at this
   ·rename_i h5;exact absurd this h5
   rename_i h5;exact⟨rg.1 (aD h5),rg.1 this⟩
  exact⟨h2,λb B hB=>(h4 b B hB).1,λb B hB=>(h4 b B hB).2⟩
 ·intro h
  have h1:=rg.2 h.ends;rw[ai (by simp[h1])];refine jO.2 λb hb=>?_;have hB:X.blocks[b]?=O X.blocks[b]:=bL hb;simp only[lq,hB];have h5:=rg.2 (h.bg b _ hB);rw[ai (by simp[h5])];exact rg.2 (h.list b _ hB)
structure jy(u:dk):Prop where
 zm:u.globals.length<=10
 funcs:u.funcs.length<=10
 Kl:∀i,i<u.globals.length->qF u.globals i=0
 head:∀i,i<u.funcs.length->mR u i=0
 body:∀X∈u.funcs,qx u.funcs X
 main:0<=fE u.funcs
 none:lC u.funcs (·.params) (fE u.funcs).toNat<=0
theorem jo:(gL u).1=0↔jy u:=by
 unfold gL;constructor
 ·intro h
  split at h
  ·cases h
  rename_i h1
  split at h
  ·rename_i h2;exact absurd h h2
  rename_i h2
  split at h
  ·rename_i h3;exact absurd h h3
  rename_i h3
  split at h
  ·rename_i h4;exact absurd h h4
  rename_i h4
  split at h
  ·cases h
  rename_i h5
  split at h
  ·cases h
  rename_i h6;refine⟨A,A,jO.1 (aD h2),jO.1 (aD h3),λX hX=>Ce.1 (rg.1 (aD h4) X hX),A,A⟩
 ·intro h
  have h1:=h.zm;have h2:=h.funcs;rw[ai A,ai (by simp[jO.2 h.Kl]),ai (by simp[jO.2 h.head]),ai (by simp[rg.2 λX hX=>Ce.2 (h.body X hX)]),ai (by have:=h.main;omega),ai (by have:=h.none;omega)]
theorem H8(hl:fs'.length=fs.length)(hp:∀i:Nat,(fs'[i]?).map bZ.params=(fs[i]?).map bZ.params)(R:Int)(x:iA):jA fs' R x=jA fs R x:=by
 have:∀i,lC fs' (·.params) i=lC fs (·.params) i:=λi=>by
  have:=hp i;unfold lC;cases h1:fs[i]?<;>cases h2:fs'[i]?<;>simp[h1,h2]at this|-
  exact this
 unfold jA;rw[hl,this]
theorem K4(hl:fs'.length=fs.length)(hp:∀i:Nat,(fs'[i]?).map bZ.params=(fs[i]?).map bZ.params)(R:Int)(x:iA):fA fs' R x=fA fs R x:=by
 unfold fA;rw[H8 hl hp]
end
section
set_option maxHeartbeats 8000000
attribute [local irreducible] wpListIn Code.wpIn Exit.then Exit.inBlock bodyPost wpQuiet wpAnyIn wpAnyH bodyPostM md
theorem AG(b:aK)(w0:ae)(hA:qk w0 b)(hB:b.Bd):
  iL Y 74 [aC #[I b.pa b.ps.length b.pc,I b.la b.xs.length b.lc,J Z b.kind,ag b.on.dq,J Z b.on.n,I b.ta b.to.length b.tc]] w0 λv w'=>∃c:aK,v=aC #[I c.pa c.ps.length c.pc,I c.la c.xs.length c.lc,J Z c.kind,ag c.on.dq,J Z c.on.n,I c.ta c.to.length c.tc]/\Wd db w0 [bP c] w'/\(c.dD=b.dD/\c.Bd):=by
 obtain⟨MN,OV,mI,GJ,H4,oe,bk,tY,Do,Dp,mq⟩:=b;have hBp:=hB.bg;have hBx:=hB.list;have hBt:=hB.to.1;have hAp:=hA.bg;have hAx:=hA.list;have hAt:=hA.to;simp only at hBp hBx hBt hAp hAx hAt;refine aR func74 rfl ntmps74 rfl (Wd.nil db w0) ?_
 repeat(first|refine bA ?_|refine dd λ_ _=>?_)
 rename_i p1 _ p2 _;refine iC (L':=[M 1 p1,M 2 p2]) V (.refl _) ?_;let Tb:=[au p1 MN mI.length OV GJ oe.length H4 bk tY Do mq.length Dp];refine dI (fT p2 U 0 0 U 0 0 0 false 0 U 0 0::Tb) (λ_:Nat×ax×Nat=>True) (λx=>[M 3 x.1,M 1 p1,M 2 p2]) (λx=>au x.1 U 0 0 U 0 0 bk tY x.2.1 mq.length x.2.2::aE x.2.1 mq.length x.2.2 mq::fT p2 U 0 0 U 0 0 0 false 0 U 0 0::Tb) mixed aF ?_ λx _=>?_
 ·refine W 0 ?_;refine W 1 ?_;refine W 2 ?_;refine W 3 ?_;refine W 4 ?_;refine W 5 ?_;refine W 7 ?_;refine W 8 ?_;refine W 9 ?_;refine jL 6 13 E ?_ ?_
  ·refine By 6 rfl cn λ_ _=>?_;refine jL 10 13 E ?_ ?_
   ·(refine sK 10 rfl rfl mq (dL:=gI) (λx=>[J Z x]) (λ_ _ _ h=>h.1) (λ_=>rfl) (λy u hu=>by simp only[bQ]at hu;subst hu;rfl) (λw hw=>hAt.cB du hw.c_) A A (λ_=>by simp only[bI];repeat(first|exact dU _|refine List.Sublist.cons _ ?_)) λ_ _=>?_;rw[ol,aS,eC];simp only[bI])
    refine er 11 rfl E cn ?_;refine er 12 rfl E cn ?_;refine cD 13 E ?_;refine pP 13 rfl cn λ_ _=>?_;refine dn 14 E cn ?_;refine ef E ?_;refine mQ [0,1,2,3] (by decide) (dy (_,_,_) trivial V aF)
   ·refine pP 13 rfl cn λ_ _=>?_;refine cD 10 E ?_
    (refine sK 10 rfl rfl mq (dL:=gI) (λx=>[J Z x]) (λ_ _ _ h=>h.1) (λ_=>rfl) (λy u hu=>by simp only[bQ]at hu;subst hu;rfl) (λw hw=>hAt.cB du hw.c_) A A (λ_=>by simp only[bI,bS];repeat(first|exact dU _|refine List.Sublist.cons _ ?_)) λ_ _=>?_;rw[ol,aS,eC];simp only[bI,bS])
    refine er 11 rfl E cn ?_;refine er 12 rfl E cn ?_;refine dn 14 E cn ?_;refine ef E ?_;refine mQ [0,1,2,3] (by decide) (dy (_,_,_) trivial V aF)
  ·refine pP 13 rfl cn λ_ _=>?_;refine cD 6 E ?_;refine By 6 rfl cn λ_ _=>?_;refine cD 10 E ?_
   (refine sK 10 rfl rfl mq (dL:=gI) (λx=>[J Z x]) (λ_ _ _ h=>h.1) (λ_=>rfl) (λy u hu=>by simp only[bQ]at hu;subst hu;rfl) (λw hw=>hAt.cB du hw.c_) A A (λ_=>by simp only[bI];repeat(first|exact dU _|refine List.Sublist.cons _ ?_)) λ_ _=>?_;rw[ol,aS,eC];simp only[bI])
   refine er 11 rfl E cn ?_;refine er 12 rfl E cn ?_;refine dn 14 E cn ?_;refine ef E ?_;refine mQ [1,0,2,3] (by decide) (dy (_,_,_) trivial V aF)
 obtain⟨p3,ta,tc⟩:=x;simp only;refine aU ?_;refine dJ 49 2 ?_;let Ta:=[M 3 p3,M 1 p1,M 2 p2];refine bH (λ(x:ax×Nat×List ch)=>x.2.2.length<=mI.length/\x.2.2.map ch.iN=(mI.take x.2.2.length).map ch.iN) (λx=>(4,J Z x.2.2.length)::Ta)
  (λx=>aw x.1 x.2.2.length x.2.1 x.2.2::au p3 x.1 x.2.2.length x.2.1 U 0 0 bk tY ta mq.length tc::aE ta mq.length tc mq::fT p2 U 0 0 U 0 0 0 false 0 U 0 0::au p1 MN mI.length OV GJ oe.length H4 bk tY Do mq.length Dp::x.2.2.map dZ) (λx=>mI.length-x.2.2.length) (U,0,[]) ⟨aN _,rfl⟩ (aP V kg) λx ⟨hi,zS⟩=>?_<;>try unfold Ta
 obtain⟨qa,qc,ps⟩:=x;simp only at hi zS|-
 refine bA ?_;apply aL<;>intro h2
 ·have iS:ps.length<mI.length:=aD h2
  generalize Nv:ps.length=j at*;obtain⟨p,hp⟩:=bE mI j iS;have Q1:=aA hp;obtain⟨hpd,Ha⟩:=hA.iN p Q1;obtain⟨_,yT,_⟩:=hB.iN p Q1;obtain⟨_,_,_,bb,bo,qd,zP⟩:=hAp.at;have QL:cl MN bb bo:=⟨qd (qU Q1)⟩;have Dt:cg j mI.length:=⟨iS⟩;obtain⟨_,SA,rfl⟩:=zP j p hp;obtain⟨pd,iq,gH,pl⟩:=p;simp only[iz]at hpd Ha yT SA;have ajQ:bu w0 bb (bo+j*2) [J Z pd,I iq pl.length gH]:=⟨SA⟩;refine aU ?_;refine dI (aE ta mq.length tc mq::fT p2 U 0 0 U 0 0 0 false 0 U 0 0::au p1 MN mI.length OV GJ oe.length H4 bk tY Do mq.length Dp::ps.map dZ) (λ_:ax×Nat×ax×Nat=>True) (λx=>(4,J Z j)::Ta) (λx=>aw x.2.2.1 (j+1) x.2.2.2 (ps++[(⟨pd,x.1,x.2.1,pl⟩:ch)])::au p3 x.2.2.1 (j+1:Nat) x.2.2.2 U 0 0 bk tY ta mq.length tc::aE ta mq.length tc mq::fT p2 U 0 0 U 0 0 0 false 0 U 0 0::au p1 MN mI.length OV GJ oe.length H4 bk tY Do mq.length Dp::(ps++[(⟨pd,x.1,x.2.1,pl⟩:ch)]).map dZ) mixed cn ?_ λx _=>?_
  ·refine er 0 rfl E cn ?_;refine er 2 rfl E cn ?_;refine er 3 rfl E cn ?_;refine er 4 rfl E cn ?_;refine er 5 rfl E cn ?_;refine er 6 rfl E cn ?_;refine er 7 rfl E cn ?_;refine er 9 rfl E cn ?_;refine er 10 rfl E cn ?_;refine er 11 rfl E cn ?_;refine er 12 rfl E cn ?_;refine er 13 rfl E cn ?_;refine er 14 rfl E cn ?_;refine jL 1 8 E ?_ ?_
   ·refine gM 1 rfl cn ?_;refine cD 8 E ?_;refine By 8 rfl cn λ_ _=>?_;refine cD 15 E ?_
    (refine sK 15 (k:=0) rfl rfl pl (dL:=MF) mm (λ_ _ _ h=>h) (λ_=>rfl) (λy u hu=>by simp only[mm,bX,gr,or_false]at hu;rcases hu with rfl|rfl<;>rfl) (λw hw=>(wC Ha).cB (λ_ _ _ _ _ h=>h) hw.c_) A A (λ_=>by simp only[bI];repeat(first|exact dU _|refine List.Sublist.cons _ ?_)) λna nc=>?_;rw[aS,eC];simp only[bI])
    refine er 16 rfl E cn ?_;refine cD 17 E ?_;refine gT 17 rfl E cn λ_ _=>?_;refine iu 18 2 rfl rfl E A A E (λ_=>by simp only[bI,bS];repeat(first|exact dU _|refine List.Sublist.cons _ ?_)) λma mc=>?_;simp only[bI,bS];refine er 19 rfl E cn ?_;refine qY 20 E cn ?_;refine ef E ?_;refine iC (L':=((4,J Z j)::Ta)) V (.cons _ (.refl _)) ?_<;>(try unfold Ta);refine bG (fG (l₁:=[_])) ?_;refine fU (H1:=aw ma (j+1) mc (ps++[(⟨pd,na,nc,pl⟩:ch)])::au p3 ma (j+1:Nat) mc U 0 0 bk tY ta mq.length tc::aE ta mq.length tc mq::fT p2 U 0 0 U 0 0 0 false 0 U 0 0::au p1 MN mI.length OV GJ oe.length H4 bk tY Do mq.length Dp::(ps++[(⟨pd,na,nc,pl⟩:ch)]).map dZ) (by simp only[bF,bz,cf,dm,ee,fj,jc,cj,dZ,iz,au,aw,aE,fT]) ?_;exact dy (na,nc,ma,mc) trivial V aF
   ·refine By 8 rfl cn λ_ _=>?_;refine jL 1 15 E ?_ ?_
    ·refine gM 1 rfl cn ?_;refine cD 15 E ?_
     (refine sK 15 (k:=0) rfl rfl pl (dL:=MF) mm (λ_ _ _ h=>h) (λ_=>rfl) (λy u hu=>by simp only[mm,bX,gr,or_false]at hu;rcases hu with rfl|rfl<;>rfl) (λw hw=>(wC Ha).cB (λ_ _ _ _ _ h=>h) hw.c_) A A (λ_=>by simp only[bI];repeat(first|exact dU _|refine List.Sublist.cons _ ?_)) λna nc=>?_;rw[aS,eC];simp only[bI])
     refine er 16 rfl E cn ?_;refine cD 17 E ?_;refine gT 17 rfl E cn λ_ _=>?_;refine iu 18 2 rfl rfl E A A E (λ_=>by simp only[bI,bS];repeat(first|exact dU _|refine List.Sublist.cons _ ?_)) λma mc=>?_;simp only[bI,bS];refine er 19 rfl E cn ?_;refine qY 20 E cn ?_;refine ef E ?_;refine iC (L':=((4,J Z j)::Ta)) V (.cons _ (.refl _)) ?_<;>(try unfold Ta);refine bG (fG (l₁:=[_])) ?_;refine fU (H1:=aw ma (j+1) mc (ps++[(⟨pd,na,nc,pl⟩:ch)])::au p3 ma (j+1:Nat) mc U 0 0 bk tY ta mq.length tc::aE ta mq.length tc mq::fT p2 U 0 0 U 0 0 0 false 0 U 0 0::au p1 MN mI.length OV GJ oe.length H4 bk tY Do mq.length Dp::(ps++[(⟨pd,na,nc,pl⟩:ch)]).map dZ) (by simp only[bF,bz,cf,dm,ee,fj,jc,cj,dZ,iz,au,aw,aE,fT]) ?_;exact dy (na,nc,ma,mc) trivial V aF
    ·(refine sK 15 (k:=0) rfl rfl pl (dL:=MF) mm (λ_ _ _ h=>h) (λ_=>rfl) (λy u hu=>by simp only[mm,bX,gr,or_false]at hu;rcases hu with rfl|rfl<;>rfl) (λw hw=>(wC Ha).cB (λ_ _ _ _ _ h=>h) hw.c_) A A (λ_=>by simp only[bI];repeat(first|exact dU _|refine List.Sublist.cons _ ?_)) λna nc=>?_;rw[aS,eC];simp only[bI])
     refine er 16 rfl E cn ?_;refine jL 1 17 E ?_ ?_
     ·refine gM 1 rfl cn ?_;refine cD 17 E ?_;refine gT 17 rfl E cn λ_ _=>?_;refine iu 18 2 rfl rfl E A A E (λ_=>by simp only[bI,bS];repeat(first|exact dU _|refine List.Sublist.cons _ ?_)) λma mc=>?_;simp only[bI,bS];refine er 19 rfl E cn ?_;refine qY 20 E cn ?_;refine ef E ?_;refine iC (L':=((4,J Z j)::Ta)) V (.cons _ (.refl _)) ?_<;>(try unfold Ta);refine bG (fG (l₁:=[_])) ?_;refine fU (H1:=aw ma (j+1) mc (ps++[(⟨pd,na,nc,pl⟩:ch)])::au p3 ma (j+1:Nat) mc U 0 0 bk tY ta mq.length tc::aE ta mq.length tc mq::fT p2 U 0 0 U 0 0 0 false 0 U 0 0::au p1 MN mI.length OV GJ oe.length H4 bk tY Do mq.length Dp::(ps++[(⟨pd,na,nc,pl⟩:ch)]).map dZ) (by simp only[bF,bz,cf,dm,ee,fj,jc,cj,dZ,iz,au,aw,aE,fT]) ?_;exact dy (na,nc,ma,mc) trivial V aF
     ·refine gT 17 rfl E cn λ_ _=>?_;refine cD 1 E ?_;refine gM 1 rfl cn ?_;refine iu 18 2 rfl rfl E A A E (λ_=>by simp only[bI,bS];repeat(first|exact dU _|refine List.Sublist.cons _ ?_)) λma mc=>?_;simp only[bI,bS];refine er 19 rfl E cn ?_;refine qY 20 E cn ?_;refine ef E ?_;refine iC (L':=((4,J Z j)::Ta)) V (.cons _ (.refl _)) ?_<;>(try unfold Ta);refine bG (fG (l₁:=[_])) ?_;refine fU (H1:=aw ma (j+1) mc (ps++[(⟨pd,na,nc,pl⟩:ch)])::au p3 ma (j+1:Nat) mc U 0 0 bk tY ta mq.length tc::aE ta mq.length tc mq::fT p2 U 0 0 U 0 0 0 false 0 U 0 0::au p1 MN mI.length OV GJ oe.length H4 bk tY Do mq.length Dp::(ps++[(⟨pd,na,nc,pl⟩:ch)]).map dZ) (by simp only[bF,bz,cf,dm,ee,fj,jc,cj,dZ,iz,au,aw,aE,fT]) ?_;exact dy (na,nc,ma,mc) trivial V aF
  obtain⟨na,nc,ma,mc⟩:=x;simp only;refine aU ?_;have gk:(ps++[(⟨pd,na,nc,pl⟩:ch)]).length=j+1:=by simp[Nv]
  rw[show(j:Int)+1=((j+1:Nat):Int) by omega,<-gk];refine a_ (ma,mc,ps++[(⟨pd,na,nc,pl⟩:ch)]) ⟨by simp only[gk];omega,?_⟩ (by simp only[gk];omega) V aF;simp only;rw[gk,bV,hp,bz,bz,zS];rfl
 have fX:ps.length=mI.length:=by have:=h2;simp at this;omega
 rw[fX,cL]at zS;refine aV ?_;refine dJ 56 8 ?_;refine bG (List.Perm.cons _ (List.Perm.swap _ _ _)) ?_;refine bH (λ(x:ax×Nat×List dP)=>x.2.2.length<=oe.length/\x.2.2.map (·.x)=(oe.take x.2.2.length).map (·.x)) (λx=>(5,J Z x.2.2.length)::Ta)
  (λx=>aH x.1 x.2.2.length x.2.1 x.2.2::au p3 qa ps.length qc x.1 x.2.2.length x.2.1 bk tY ta mq.length tc::aw qa ps.length qc ps::aE ta mq.length tc mq::fT p2 U 0 0 U 0 0 0 false 0 U 0 0::au p1 MN mI.length OV GJ oe.length H4 bk tY Do mq.length Dp::(ps.map dZ++x.2.2.map gC)) (λx=>oe.length-x.2.2.length) (U,0,[]) ⟨aN _,rfl⟩ (aP V kg) λx ⟨hi,Jv⟩=>?_<;>try unfold Ta
 obtain⟨ra,rc,is⟩:=x;simp only at hi Jv|-
 refine bA ?_;apply aL<;>intro h3
 ·have iS:is.length<oe.length:=aD h3
  generalize Nv:is.length=j at*;obtain⟨y,hy⟩:=bE oe j iS;have p_:=aA hy;obtain⟨_,NO⟩:=hA.ins y p_;obtain⟨_,vK,_⟩:=hB.ins y p_;obtain⟨_,_,_,bb,bo,qd,zP⟩:=hAx.at;have QL:cl GJ bb bo:=⟨qd (qU p_)⟩;have Dt:cg j oe.length:=⟨iS⟩;obtain⟨_,QS,rfl⟩:=zP j y hy;obtain⟨yx,Xn,Xo⟩:=y;simp only[ki]at NO vK QS;have agU:bu w0 bb (bo+j*8) _:=⟨QS⟩
  repeat(first|refine aV ?_|refine dd λ_ _=>?_)
  rename_i p6 _;refine lN rfl λeb _=>?_;refine bA ?_;refine kZ rfl rfl yx.args mm (λ_ _ _ h=>h) (λ_=>rfl) (λy u hu=>by simp only[mm,bX,gr,or_false]at hu;rcases hu with rfl|rfl<;>rfl) (λw hw=>(wC NO).cB (λ_ _ _ _ _ h=>h) hw.c_) A A λna nc=>?_;rw[aS,eC]
  repeat(first|refine aV ?_|refine dd λ_ _=>?_)
  refine fB rfl rfl A A λma mc=>?_;refine aV ?_;have gk:(is++[(⟨yx,na,nc⟩:dP)]).length=j+1:=by simp[Nv]
  refine iC (L':=((5,J Z ((j:Int)+1))::Ta)) V (.cons _ (dN (.cons _ (.refl _)))) ?_<;>(try unfold Ta);refine bG (fG (l₁:=[_])) ?_;refine fU (H1:=aH ma (is++[(⟨yx,na,nc⟩:dP)]).length mc (is++[(⟨yx,na,nc⟩:dP)])::au p3 qa ps.length qc ma (is++[(⟨yx,na,nc⟩:dP)]).length mc bk tY ta mq.length tc::aw qa ps.length qc ps::aE ta mq.length tc mq::fT p2 U 0 0 U 0 0 0 false 0 U 0 0::au p1 MN mI.length OV GJ oe.length H4 bk tY Do mq.length Dp::(ps.map dZ++(is++[(⟨yx,na,nc⟩:dP)]).map gC)) (by rw[gk];simp only[bF,bz,cf,dm,ee,fj,jc,cj,fu,gC,ki,au,aw,aE,aH,fT]) ?_;rw[show(j:Int)+1=((j+1:Nat):Int) by omega,<-gk];refine a_ (ma,mc,is++[(⟨yx,na,nc⟩:dP)]) ⟨by simp only[gk];omega,?_⟩ (by simp only[gk];omega) V aF;simp only;rw[gk,bV,hy,bz,bz,Jv];rfl
 have hgi:is.length=oe.length:=by have:=h3;simp at this;omega
 rw[hgi,cL]at Jv;refine aV ?_;refine fD rfl λw hw=>⟨(⟨qa,qc,ps,ra,rc,is,bk,tY,ta,tc,mq⟩:aK),rfl,?_,?_⟩
 ·have h1:Wd db w0 (ij (⟨qa,qc,ps,ra,rc,is,bk,tY,ta,tc,mq⟩:aK)++[]) w:=by
   rw[cj];have h2:=hw.sub (H':=aH ra is.length rc is::aw qa ps.length qc ps::aE ta mq.length tc mq::(ps.map dZ++is.map gC)) (dN (.cons _ (dN (dN (.cons _ (.cons _ (.refl _)))))));exact h2.perm (List.Perm.swap _ _ _)
  exact h1.join
 ·refine⟨by simp only[aK.dD,zS,Jv],hB.kind,hB.on,by simp only;omega,λp hp=>?_,by simp only;omega,λy hy=>?_,hB.to⟩
  ·have:ch.iN p∈mI.map ch.iN:=by rw[<-zS];exact aT.2 ⟨p,hp,rfl⟩
   obtain⟨p',wT,e⟩:=aT.1 this;have:=hB.iN p' wT;simp only[ch.iN,gD.mk.injEq]at e;rw[e.1,e.2]at this;exact this
  ·have:y.x∈oe.map (·.x):=by rw[<-Jv];exact aT.2 ⟨y,hy,rfl⟩
   obtain⟨y',SL,e⟩:=aT.1 this;have:=hB.ins y' SL;rw[e]at this;exact this
theorem qk.cB{w':ae}{b:aK}(h:qk w b)(hc:nX db w w'):qk w' b:=
 ⟨h.kind,h.on,h.bg.cB (λ_ _ _ _ _ h=>h) hc,λp hp=>⟨(h.iN p hp).1,(h.iN p hp).2.cB (λ_ _ _ _ _ h=>h) hc⟩,h.list.cB (λ_ _ _ _ _ h=>h) hc,λi hi=>⟨(h.ins i hi).1,(h.ins i hi).2.cB (λ_ _ _ _ _ h=>h) hc⟩,h.to.cB du hc⟩
theorem AP(nm:ByteArray)(pa re:Int)(bl:List aq)(bs:K)(w0:ae)(gV:aY w0 bs 6 bl da)(hlen:bl.length<=1000)(oF:∀b:aK,b.dD∈bl->qk w0 b->b.Bd):
  iL Y 34 [aC #[aQ nm,J Z pa,J Z re,bs]] w0 λu w'=>∃x:ax×Nat×List aK,u=aC #[aQ nm,J Z pa,J Z re,I x.1 x.2.2.length x.2.1]/\Wd db w0 (eM x.1 x.2.1 x.2.2) w'/\(x.2.2.map aK.dD=bl/\∀b∈x.2.2,b.Bd):=by
 obtain⟨ba,bc,q,rfl,xB,Hb,Dy⟩:=xe gV;have vh:q.length=bl.length:=by rw[<-xB,aG]
 refine aR func34 rfl ntmps34 rfl (Wd.nil db w0) ?_
 repeat(first|refine aV ?_|refine dd λ_ _=>?_)
 rename_i p1 _ p2 _ p3 _;refine dJ 46 6 ?_;refine bH (λ(x:ax×Nat×List aK)=>x.2.2.length<=q.length/\x.2.2.map aK.dD=(q.take x.2.2.length).map aK.dD/\∀b∈x.2.2,b.Bd) (λx=>[(4,J Z x.2.2.length),M 3 p3,M 1 p1,M 2 p2])
  (λx=>am x.1 x.2.2.length x.2.1 x.2.2::D p3 nm pa re x.1 x.2.2.length x.2.1::aj p2::D p1 nm pa re ba q.length bc::x.2.2.map bP) (λx=>q.length-x.2.2.length) (U,0,[]) ⟨aN _,rfl,by simp⟩ (aP V kg) λx ⟨hi,Aq,Pd⟩=>?_
 obtain⟨qa,qc,ds⟩:=x;simp only at hi Aq Pd|-
 refine bA ?_;apply aL<;>intro h2
 ·have ce:ds.length<q.length:=aD h2
  generalize tO:ds.length=i at*;obtain⟨b,hb⟩:=bE q i ce;have YG:=aA hb;have hAb:=Dy b YG;have Ir:=oF b (by rw[<-xB];exact aT.2 ⟨b,YG,rfl⟩) hAb;obtain⟨_,_,_,bb,bo,qd,zP⟩:=Hb.at;have QL:cl ba bb bo:=⟨qd (qU YG)⟩;have kK:cg i q.length:=⟨ce⟩;obtain⟨_,Ap,abN⟩:=zP i b hb;rw[abN]at Ap;simp only[eA]at Ap;have abT:bu w0 bb (bo+i*6) _:=⟨Ap⟩;refine aU ?_;refine dI (aj p2::D p1 nm pa re ba q.length bc::ds.map bP) (λx:aK×ax×Nat=>x.1.dD=b.dD/\x.1.Bd) (λx=>[(4,J Z i),M 3 p3,M 1 p1,M 2 p2]) (λx=>am x.2.1 (i+1) x.2.2 (ds++[x.1])::D p3 nm pa re x.2.1 (i+1:Nat) x.2.2::aj p2::D p1 nm pa re ba q.length bc::(ds++[x.1]).map bP) mixed cn ?_ λx hx=>?_
  ·refine er 0 rfl E cn ?_;refine er 2 rfl E cn ?_;refine er 3 rfl E cn ?_;refine er 4 rfl E cn ?_;refine er 5 rfl E cn ?_;refine er 6 rfl E cn ?_;refine jL 1 7 E ?_ ?_
   ·refine gM 1 rfl cn ?_;refine cD 7 E ?_;refine gZ 7 (val:=λc:aK=>.agg #[I c.pa c.ps.length c.pc,I c.la c.xs.length c.lc,J Z c.kind,ag c.on.dq,J Z c.on.n,I c.ta c.to.length c.tc]) (cZ:=λc=>[bP c]) (φ:=λc=>c.dD=b.dD/\c.Bd) rfl cn (λw hw=>AG b w (hAb.cB hw.c_) Ir) λy hy=>?_;simp only[bF,aS];refine cD 8 E ?_;refine gT 8 rfl E cn λ_ _=>?_;refine iu 9 2 rfl rfl E A A E (λ_=>by simp only[bI,bS];repeat(first|exact dU _|refine List.Sublist.cons _ ?_)) λma mc=>?_;simp only[bI,bS];refine er 10 rfl E cn ?_;refine qY 11 E cn ?_;refine ef E ?_;refine iC (L':=[(4,J Z i),M 3 p3,M 1 p1,M 2 p2]) V (.cons _ (.refl _)) ?_;refine bG (fG (l₁:=[_])) ?_;refine fU (H1:=am ma (i+1) mc (ds++[y])::D p3 nm pa re ma (i+1:Nat) mc::aj p2::D p1 nm pa re ba q.length bc::(ds++[y]).map bP) (by simp only[bF,bz,cf,dm,ee,fj,jc,cj,eA,D,aj,am]) ?_;exact dy (y,ma,mc) hy V aF
   ·refine gZ 7 (val:=λc:aK=>.agg #[I c.pa c.ps.length c.pc,I c.la c.xs.length c.lc,J Z c.kind,ag c.on.dq,J Z c.on.n,I c.ta c.to.length c.tc]) (cZ:=λc=>[bP c]) (φ:=λc=>c.dD=b.dD/\c.Bd) rfl cn (λw hw=>AG b w (hAb.cB hw.c_) Ir) λy hy=>?_;simp only[bF,aS];refine jL 1 8 E ?_ ?_
    ·refine gM 1 rfl cn ?_;refine cD 8 E ?_;refine gT 8 rfl E cn λ_ _=>?_;refine iu 9 2 rfl rfl E A A E (λ_=>by simp only[bI,bS];repeat(first|exact dU _|refine List.Sublist.cons _ ?_)) λma mc=>?_;simp only[bI,bS];refine er 10 rfl E cn ?_;refine qY 11 E cn ?_;refine ef E ?_;refine iC (L':=[(4,J Z i),M 3 p3,M 1 p1,M 2 p2]) V (.cons _ (.refl _)) ?_;refine bG (fG (l₁:=[_])) ?_;refine fU (H1:=am ma (i+1) mc (ds++[y])::D p3 nm pa re ma (i+1:Nat) mc::aj p2::D p1 nm pa re ba q.length bc::(ds++[y]).map bP) (by simp only[bF,bz,cf,dm,ee,fj,jc,cj,eA,D,aj,am]) ?_;exact dy (y,ma,mc) hy V aF
    ·refine gT 8 rfl E cn λ_ _=>?_;refine cD 1 E ?_;refine gM 1 rfl cn ?_;refine iu 9 2 rfl rfl E A A E (λ_=>by simp only[bI,bS];repeat(first|exact dU _|refine List.Sublist.cons _ ?_)) λma mc=>?_;simp only[bI,bS];refine er 10 rfl E cn ?_;refine qY 11 E cn ?_;refine ef E ?_;refine iC (L':=[(4,J Z i),M 3 p3,M 1 p1,M 2 p2]) V (.cons _ (.refl _)) ?_;refine bG (fG (l₁:=[_])) ?_;refine fU (H1:=am ma (i+1) mc (ds++[y])::D p3 nm pa re ma (i+1:Nat) mc::aj p2::D p1 nm pa re ba q.length bc::(ds++[y]).map bP) (by simp only[bF,bz,cf,dm,ee,fj,jc,cj,eA,D,aj,am]) ?_;exact dy (y,ma,mc) hy V aF
  obtain⟨y,ma,mc⟩:=x;obtain⟨DC,EV⟩:=hx;simp only at DC EV|-
  refine aU ?_;have gk:(ds++[y]).length=i+1:=by simp[tO]
  rw[show(i:Int)+1=((i+1:Nat):Int) by omega,<-gk];refine a_ (ma,mc,ds++[y]) ⟨by simp only[gk];omega,?_,λc hc=>?_⟩ (by simp only[gk];omega) V aF
  ·simp only
   rw[gk,bV,hb,bz,bz,Aq];simp[DC]
  ·rcases bO.1 hc with hc|hc
   ·exact Pd c hc
   ·rw[bQ.1 hc];exact EV
 have fX:ds.length=q.length:=by have:=h2;simp at this;omega
 rw[fX,cL,xB]at Aq;refine aV ?_;refine fD rfl λw hw=>⟨(qa,qc,ds),rfl,?_,Aq,Pd⟩;exact hw.sub (dN (.cons _ (.cons _ (.cons _ (.refl _)))))
structure mH where
 name:ByteArray
 params:Int
 bm:Int
 a:ax
 c:Nat
 bs:List aK
def mH.fn(y:mH):bZ:=⟨y.name,y.params,y.bm,y.bs.map aK.dD⟩
def uC(y:mH):List K:=[aQ y.name,J Z y.params,J Z y.bm,I y.a y.bs.length y.c]
def uE(y:mH):cq:=cq.join (eM y.a y.c y.bs)
theorem OI(y:mH):(uC y).length=4:=rfl
theorem O3(q:pB)(Mt:aY w0 (I q.a q.blocks.length q.c) 6 q.blocks da)(A8:CV q.rY)(w:ae)(hc:nX db w0 w):
  iL Y 34 [aC #[aQ q.name,J Z q.params,J Z q.bm,I q.a q.blocks.length q.c]] w λu w'=>∃y:mH,u=aC #[aQ y.name,J Z y.params,J Z y.bm,I y.a y.bs.length y.c]/\Wd db w [uE y] w'/\(y.fn=q.rY/\∀b∈y.bs,b.Bd):=
 (AP q.name q.params q.bm q.blocks _ w (Mt.cB cu hc) A8.n λb hb hA=>A8.bd hb hA).mono λu w' ⟨x,h1,h2,h3,h4⟩=>⟨⟨q.name,q.params,q.bm,x.1,x.2.1,x.2.2⟩,h1,by
  have h5:Wd db w (eM x.1 x.2.1 x.2.2++[]) w':=by rw[cj];exact h2
  exact h5.join,by unfold mH.fn pB.rY;rw[h3],h4⟩
structure pq where
 ga:ax
 gc:Nat
 gs:List lA
 fa:ax
 fc:Nat
 fs:List mH
def pq.val(m:pq):K:=.agg #[I m.ga m.gs.length m.gc,I m.fa m.fs.length m.fc]
def pq.Gc(m:pq):List cq:=G m.fa m.fs.length m.fc 35 4 (m.fs.flatMap uC)::G m.ga m.gs.length m.gc 65 3 (m.gs.flatMap oq)::(m.gs.map pI++m.fs.map uE)
def pq.unit(m:pq):dk:=⟨m.gs.map lA.DP,m.fs.map mH.fn⟩
structure pq.Bd(m:pq):Prop where
 Kl:∀g∈m.gs,dE g.size/\g.init.length<=100000/\∀z∈g.init,dE z
 func:∀y∈m.fs,(dE y.params/\dE y.bm)/\∀b∈y.bs,b.Bd
theorem Z7(u:dk)(UH:u.globals.length<=100000/\∀g∈u.globals,g.init.length<=100000)(ve:u.funcs.length<=1000)(IF:∀X∈u.funcs,CV X)(g fs:K)(w0:ae)(hg:aY w0 g 3 u.globals gX)(hf:aY w0 fs 4 u.funcs kG):
  iL Y 13 [aC #[g,fs]] w0 λv w'=>∃m:pq,v=m.val/\Wd db w0 m.Gc w'/\(m.unit=u/\m.Bd):=by
 obtain⟨ga,gc,gs,rfl,EE,hgs,YP⟩:=Kk hg;obtain⟨fa,fc,qs,rfl,xB,Hb,Dy⟩:=Kh hf;have ahh:gs.length=u.globals.length:=by rw[<-EE,aG]
 have ah9:qs.length=u.funcs.length:=by rw[<-xB,aG]
 refine aR func13 rfl ntmps13 rfl (Wd.nil db w0) ?_
 repeat(first|refine aU ?_|refine dd λ_ _=>?_)
 rename_i p1 _ p2 _ p3 _;refine dJ 65 3 ?_;refine bH (λ(x:ax×Nat×List lA)=>x.2.2.length<=gs.length/\x.2.2.map lA.DP=(gs.take x.2.2.length).map lA.DP) (λx=>[(4,J Z x.2.2.length),M 3 p3,M 1 p1,M 2 p2])
  (λx=>G x.1 x.2.2.length x.2.1 65 3 (x.2.2.flatMap oq)::cw p3 x.1 x.2.2.length x.2.1 U 0 0::cw p2 U 0 0 U 0 0::cw p1 ga gs.length gc fa qs.length fc::x.2.2.map pI) (λx=>gs.length-x.2.2.length) (U,0,[]) ⟨aN _,rfl⟩ (aP V kg) λx ⟨hi,Aq⟩=>?_
 obtain⟨xa,xc,ds⟩:=x;simp only at hi Aq|-
 refine bA ?_;apply aL<;>intro h1
 ·have ce:ds.length<gs.length:=aD h1
  generalize tO:ds.length=j at*;obtain⟨y,hy⟩:=bE gs j ce;have p_:=aA hy;obtain⟨_,NO⟩:=YP y p_;have vK:=UH.2 y.DP (by rw[<-EE];exact aT.2 ⟨y,p_,rfl⟩);obtain⟨_,_,_,bb,bo,qd,zP⟩:=hgs.at;have QL:cl ga bb bo:=⟨qd (qU p_)⟩;have Dt:cg j gs.length:=⟨ce⟩;obtain⟨_,QS,rfl⟩:=zP j y hy;obtain⟨yn,yz,Xn,Xo,yi⟩:=y;simp only[lA.DP,oq]at NO vK QS;have agU:bu w0 bb (bo+j*3) _:=⟨QS⟩
  repeat(first|refine aV ?_|refine dd λ_ _=>?_)
  rename_i p5 _;refine lN rfl λeb _=>?_;refine bA ?_;refine kZ rfl rfl yi (dL:=gI) (λx=>[J Z x]) (λ_ _ _ h=>h.1) (λ_=>rfl) (λy u hu=>by simp only[bQ]at hu;subst hu;rfl) (λw hw=>NO.cB du hw.c_) A A λna nc=>?_;rw[ol,aS,eC]
  repeat(first|refine aV ?_|refine dd λ_ _=>?_)
  refine fB rfl rfl A A λma mc=>?_;refine aV ?_;have gk:(ds++[(⟨yn,yz,na,nc,yi⟩:lA)]).length=j+1:=by simp[tO]
  refine iC (L':=[(4,J Z ((j:Int)+1)),M 3 p3,M 1 p1,M 2 p2]) V (.cons _ (dN (.cons _ (.refl _)))) ?_;refine bG (fG (l₁:=[_])) ?_;refine fU (H1:=G ma (ds++[(⟨yn,yz,na,nc,yi⟩:lA)]).length mc 65 3 ((ds++[(⟨yn,yz,na,nc,yi⟩:lA)]).flatMap oq)::cw p3 ma (ds++[(⟨yn,yz,na,nc,yi⟩:lA)]).length mc U 0 0::cw p2 U 0 0 U 0 0::cw p1 ga gs.length gc fa qs.length fc::(ds++[(⟨yn,yz,na,nc,yi⟩:lA)]).map pI) (by rw[gk];simp only[bF,bz,cf,dm,ee,fj,jc,cj,pI,oq,cw]) ?_;rw[show(j:Int)+1=((j+1:Nat):Int) by omega,<-gk];refine a_ (ma,mc,ds++[(⟨yn,yz,na,nc,yi⟩:lA)]) ⟨by simp only[gk];omega,?_⟩ (by simp only[gk];omega) V aF;simp only;rw[gk,bV,hy,bz,bz,Aq];rfl
 have fX:ds.length=gs.length:=by have:=h1;simp at this;omega
 rw[fX,cL,EE]at Aq;refine aV ?_;have Pd:∀g∈ds,dE g.size/\g.init.length<=100000/\∀z∈g.init,dE z:=λg hg'=>by
  have h0:g.DP∈gs.map lA.DP:=by rw[EE,<-Aq];exact aT.2 ⟨g,hg',rfl⟩
  obtain⟨g',hg1,e⟩:=aT.1 h0;have h3:=YP g' hg1;have h4:=UH.2 g'.DP (by rw[<-EE];exact aT.2 ⟨g',hg1,rfl⟩);simp only[lA.DP,lD.mk.injEq]at e h4;rw[e.2.2]at h4;exact⟨by rw[<-e.2.1];exact h3.1,h4,λz hz=>NT h3.2 z (by rw[e.2.2];exact hz)⟩
 refine dJ 35 4 ?_;refine bG (List.Perm.cons _ (List.Perm.swap _ _ _)) ?_;refine bH (λ(x:ax×Nat×List mH)=>x.2.2.length<=qs.length/\x.2.2.map mH.fn=(qs.take x.2.2.length).map pB.rY/\∀y∈x.2.2,(dE y.params/\dE y.bm)/\∀b∈y.bs,b.Bd) (λx=>[(6,J Z x.2.2.length),M 3 p3,M 1 p1,M 2 p2])
  (λx=>G x.1 x.2.2.length x.2.1 35 4 (x.2.2.flatMap uC)::cw p3 xa ds.length xc x.1 x.2.2.length x.2.1::G xa ds.length xc 65 3 (ds.flatMap oq)::cw p2 U 0 0 U 0 0::cw p1 ga gs.length gc fa qs.length fc::(ds.map pI++x.2.2.map uE)) (λx=>qs.length-x.2.2.length) (U,0,[]) ⟨aN _,rfl,by simp⟩ (aP V kg) λx ⟨Ju,vZ,zR⟩=>?_
 obtain⟨ya,yc,es⟩:=x;simp only at Ju vZ zR|-
 refine bA ?_;apply aL<;>intro h2
 ·have ce:es.length<qs.length:=aD h2
  generalize tO:es.length=i at*;obtain⟨q,hq⟩:=bE qs i ce;have KQ:=aA hq;have Iu:q.rY∈u.funcs:=by rw[<-xB];exact aT.2 ⟨q,KQ,rfl⟩
  obtain⟨_,_,_,bb,bo,qd,zP⟩:=Hb.at;have QL:cl fa bb bo:=⟨qd (qU KQ)⟩;have kK:cg i qs.length:=⟨ce⟩;obtain⟨_,hcq,agX⟩:=zP i q hq;rw[agX]at hcq;simp only[zM]at hcq;have agS:bu w0 bb (bo+i*4) _:=⟨hcq⟩;refine aU ?_;refine dI (G xa ds.length xc 65 3 (ds.flatMap oq)::cw p2 U 0 0 U 0 0::cw p1 ga gs.length gc fa qs.length fc::(ds.map pI++es.map uE)) (λx:mH×ax×Nat=>x.1.fn=q.rY/\∀b∈x.1.bs,b.Bd) (λx=>[(6,J Z i),M 3 p3,M 1 p1,M 2 p2]) (λx=>G x.2.1 (i+1) x.2.2 35 4 ((es++[x.1]).flatMap uC)::cw p3 xa ds.length xc x.2.1 (i+1:Nat) x.2.2::G xa ds.length xc 65 3 (ds.flatMap oq)::cw p2 U 0 0 U 0 0::cw p1 ga gs.length gc fa qs.length fc::(ds.map pI++(es++[x.1]).map uE)) mixed cn ?_ λx hx=>?_
  ·refine er 0 rfl E cn ?_;refine er 2 rfl E cn ?_;refine er 3 rfl E cn ?_;refine er 4 rfl E cn ?_;refine er 5 rfl E cn ?_;refine er 6 rfl E cn ?_;refine jL 1 7 E ?_ ?_
   ·refine gM 1 rfl cn ?_;refine cD 7 E ?_;refine gZ 7 (val:=λy:mH=>.agg #[aQ y.name,J Z y.params,J Z y.bm,I y.a y.bs.length y.c]) (cZ:=λy=>[uE y]) (φ:=λy=>y.fn=q.rY/\∀b∈y.bs,b.Bd) rfl cn (λw hw=>O3 q (Dy q KQ).2 (IF _ Iu) w hw.c_) λy hy=>?_;simp only[bF,aS];refine cD 8 E ?_;refine gT 8 rfl E cn λ_ _=>?_;refine iu 9 2 rfl rfl E A A E (λ_=>by simp only[bI,bS];repeat(first|exact dU _|refine List.Sublist.cons _ ?_)) λma mc=>?_;simp only[bI,bS];refine er 10 rfl E cn ?_;refine qY 11 E cn ?_;refine ef E ?_;refine iC (L':=[(6,J Z i),M 3 p3,M 1 p1,M 2 p2]) V (.cons _ (.refl _)) ?_;refine bG (fG (l₁:=[_])) ?_;refine fU (H1:=G ma (i+1) mc 35 4 ((es++[y]).flatMap uC)::cw p3 xa ds.length xc ma (i+1:Nat) mc::G xa ds.length xc 65 3 (ds.flatMap oq)::cw p2 U 0 0 U 0 0::cw p1 ga gs.length gc fa qs.length fc::(ds.map pI++(es++[y]).map uE)) (by simp only[bF,bz,cf,dm,ee,fj,jc,cj,fu,uC,cw]) ?_;exact dy (y,ma,mc) hy V aF
   ·refine gZ 7 (val:=λy:mH=>.agg #[aQ y.name,J Z y.params,J Z y.bm,I y.a y.bs.length y.c]) (cZ:=λy=>[uE y]) (φ:=λy=>y.fn=q.rY/\∀b∈y.bs,b.Bd) rfl cn (λw hw=>O3 q (Dy q KQ).2 (IF _ Iu) w hw.c_) λy hy=>?_;simp only[bF,aS];refine jL 1 8 E ?_ ?_
    ·refine gM 1 rfl cn ?_;refine cD 8 E ?_;refine gT 8 rfl E cn λ_ _=>?_;refine iu 9 2 rfl rfl E A A E (λ_=>by simp only[bI,bS];repeat(first|exact dU _|refine List.Sublist.cons _ ?_)) λma mc=>?_;simp only[bI,bS];refine er 10 rfl E cn ?_;refine qY 11 E cn ?_;refine ef E ?_;refine iC (L':=[(6,J Z i),M 3 p3,M 1 p1,M 2 p2]) V (.cons _ (.refl _)) ?_;refine bG (fG (l₁:=[_])) ?_;refine fU (H1:=G ma (i+1) mc 35 4 ((es++[y]).flatMap uC)::cw p3 xa ds.length xc ma (i+1:Nat) mc::G xa ds.length xc 65 3 (ds.flatMap oq)::cw p2 U 0 0 U 0 0::cw p1 ga gs.length gc fa qs.length fc::(ds.map pI++(es++[y]).map uE)) (by simp only[bF,bz,cf,dm,ee,fj,jc,cj,fu,uC,cw]) ?_;exact dy (y,ma,mc) hy V aF
    ·refine gT 8 rfl E cn λ_ _=>?_;refine cD 1 E ?_;refine gM 1 rfl cn ?_;refine iu 9 2 rfl rfl E A A E (λ_=>by simp only[bI,bS];repeat(first|exact dU _|refine List.Sublist.cons _ ?_)) λma mc=>?_;simp only[bI,bS];refine er 10 rfl E cn ?_;refine qY 11 E cn ?_;refine ef E ?_;refine iC (L':=[(6,J Z i),M 3 p3,M 1 p1,M 2 p2]) V (.cons _ (.refl _)) ?_;refine bG (fG (l₁:=[_])) ?_;refine fU (H1:=G ma (i+1) mc 35 4 ((es++[y]).flatMap uC)::cw p3 xa ds.length xc ma (i+1:Nat) mc::G xa ds.length xc 65 3 (ds.flatMap oq)::cw p2 U 0 0 U 0 0::cw p1 ga gs.length gc fa qs.length fc::(ds.map pI++(es++[y]).map uE)) (by simp only[bF,bz,cf,dm,ee,fj,jc,cj,fu,uC,cw]) ?_;exact dy (y,ma,mc) hy V aF
  obtain⟨y,ma,mc⟩:=x;obtain⟨DC,EV⟩:=hx;simp only at DC EV|-
  refine aU ?_;have gk:(es++[y]).length=i+1:=by simp[tO]
  rw[show(i:Int)+1=((i+1:Nat):Int) by omega,<-gk];refine a_ (ma,mc,es++[y]) ⟨by simp only[gk];omega,?_,λz hz=>?_⟩ (by simp only[gk];omega) V aF
  ·simp only
   rw[gk,bV,hq,bz,bz,vZ];simp[DC]
  ·rcases bO.1 hz with hz|hz
   ·exact zR z hz
   ·rw[bQ.1 hz]
    have h9:=(Dy q KQ).1;simp only[mH.fn,pB.rY,bZ.mk.injEq]at DC;rw[<-DC.2.1,<-DC.2.2.1]at h9;exact⟨h9,EV⟩
 have KF:es.length=qs.length:=by have:=h2;simp at this;omega
 rw[KF,cL,xB]at vZ;refine aV ?_;refine fD rfl λw hw=>⟨⟨xa,xc,ds,ya,yc,es⟩,rfl,?_,?_,Pd,zR⟩
 ·exact hw.sub (dN (.cons _ (dN (.cons _ (.cons _ (.refl _))))))
 ·unfold pq.unit
  simp only[Aq,vZ]
section
theorem Lj{l:List α}{e:α}(h:e∈l):∃r,l.Perm (e::r):=by
 obtain⟨k,hk⟩:=bR h;exact⟨_,lh hk⟩
theorem Wd.func(h:Wd S w0 H w){y:mH}(hy:uE y∈H)(hn:y.bs.length<=1000)(hb:∀b∈y.bs,b.Bd):aY w (I y.a y.bs.length y.c) 6 (y.bs.map aK.dD) da:=by
 obtain⟨r,hr⟩:=Lj hy;have h1:=(h.perm hr).nh;exact Wd.blocks (H:=r) (by unfold eM at h1;exact h1) hn hb
structure pq.Few(m:pq):Prop where
 zm:m.gs.length<=1000
 funcs:m.fs.length<=1000
 each:∀y∈m.fs,y.bs.length<=1000
theorem pq.sl{m:pq}(hb:m.Bd)(hn:m.Few)(h:Wd S w0 (m.Gc++H) w):aY w (I m.ga m.gs.length m.gc) 3 m.unit.globals gX/\aY w (I m.fa m.fs.length m.fc) 4 m.unit.funcs kG:=by
 have n1:=hn.zm;have n2:=hn.funcs;constructor
 ·refine sq (dL:=gX) lA.DP (lW h (k:=1) rfl xu A) λy hy cs gW=>?_
  obtain⟨DC,EV,hy3⟩:=hb.Kl y hy;have hm:pI y∈m.Gc++H:=cM _ (by unfold pq.Gc;simp only[bX,bO];exact .inr (.inr (.inl (aT.2 ⟨y,hy,rfl⟩))));obtain⟨k,hk⟩:=bR hm;refine⟨_,gW,DC,?_⟩;refine h.nf hk rfl A λi x hx=>⟨[J Z x],λj v hj=>?_,rfl,hy3 x (aA hx)⟩
  match j,hj with
  |0,hj=>simp[<-hj,lA.DP]at hx|-;exact hx
 ·refine sq (dL:=kG) mH.fn (lW h (k:=0) rfl OI A) λy hy cs gW=>?_
  obtain⟨⟨DC,EV⟩,hy3⟩:=hb.func y hy;have hm:uE y∈m.Gc++H:=cM _ (by unfold pq.Gc;simp only[bX,bO];exact .inr (.inr (.inr (aT.2 ⟨y,hy,rfl⟩))));exact⟨_,gW,DC,EV,h.func hm (hn.each y hy) hy3⟩
def gvE(m:pq):cq:=G m.ga m.gs.length m.gc 65 3 (m.gs.flatMap oq)
def qJ(b:aK):cq:=G b.la b.xs.length b.lc 56 8 (b.xs.flatMap ki)
def BF(b:aK):cq:=G b.pa b.ps.length b.pc 49 2 (b.ps.flatMap iz)
def lQ(b:aK):cq:=G b.ta b.to.length b.tc 3 1 (b.to.map (J Z))
theorem ig{β:Type}{l:List α}{k:Nat}{x:α}(f:α->β)(h:l[k]?=O x):(l.map f).Perm (f x::(l.eraseIdx k).map f):=(lh h).map f
section
variable {S:Nat->Prop} {w0 w:ae} {H:List cq} {m:pq} {k i:Nat} {y:mH} {b:aK}
theorem Ke{f:α->List K}{l:List α}{k:Nat}{x y:α}(h:l[k]?=O x)(he:f y=f x):(l.set k y).flatMap f=l.flatMap f:=by
 rw[rT,rT,eT,he];congr 1;exact m_ (by rw[aW,h];rfl)
end
end
theorem Yc{R:Int}{B:aq}(h:mr n R B=0):B.to.length<=2:=by
 unfold mr yN at h
 split at h
 ·cases h
 rename_i h1
 split at h
 ·cases h
 rename_i h2;simp only[within,gy,iW,fg,not_or,h_]at h1;simp only[ne_eq,h_]at h2;omega
theorem yl(hl:vu u)(h:(gL u).1=0):∀X∈u.funcs,CV X:=λX hX=>by
 obtain⟨k,hk⟩:=bR hX;obtain⟨R,_,_,hf⟩:=sU h hk;have gk:=(hl.2 X hX).1;have hlen:=N5 (hl.2 X hX);have xw:=(jo.1 h).body X hX;refine⟨A,λB hB=>?_⟩;obtain⟨b,hb⟩:=bR hB;have IA:=hf.block b B hb;have yT:(be X.blocks b).length<=X.blocks.length:=by
  unfold be;exact dS (fC _ _) (by rw[d_];exact cz _)
 exact⟨(hlen B hB).2,λp hp=>by have:=(IA.bg p hp).len;omega,(hlen B hB).1,MU h hk B hB,by have:=Yc (xw.ends B hB);omega⟩
theorem Ed(h:(gL u).1=0):u.globals.length<=100000/\∀g∈u.globals,g.init.length<=100000:=by
 have hc:=jo.1 h;have:=hc.zm;refine⟨A,λg hg=>?_⟩;obtain⟨i,hi⟩:=bR hg;have hz:=hc.Kl i (aJ.1 hi).1;unfold qF lC at hz;rw[hi]at hz;simp only at hz;unfold ls at hz
 split at hz
 ·cases hz
 split at hz
 ·cases hz
 split at hz
 ·cases hz
 rename_i h1
 split at hz
 ·cases hz
 rename_i h2;simp only[within,gy,iW,fg,not_or,h_]at h1;omega
theorem GL(hl:vu u):u.funcs.length<=1000:=by have:=hl.1;omega
def aa2(f:bZ):Prop:=f.blocks.length<=24/\ja f.blocks<=120
def ZX(u:dk):Prop:=u.funcs.length<=10/\∀f∈u.funcs,aa2 f
theorem ZX.vu(h:ZX u):vu u:=⟨h.1,λf hf=>⟨by have:=(h.2 f hf).1;omega,by have:=(h.2 f hf).2;omega⟩⟩
theorem UC(u:dk)(g fs:K)(w0:ae)(hf:aY w0 fs 4 u.funcs kG)(hg:∃a n c,g=I a n c):
  iL Y 9 [aC #[g,fs]] w0 λv w'=>∃b:Bool,v=ag b/\Wd db w0 [] w'/\(b=false->ZX u):=by
 obtain⟨ga,gn,gc,rfl⟩:=hg;obtain⟨fa,fn,fc,fb,fo,rfl,ve,ab2,ab1,hfc,QV,Cr⟩:=hf;refine aR func9 rfl ntmps9 rfl (Wd.nil db w0) ?_
 repeat(first|refine aU ?_|refine dd λ_ _=>?_)
 rename_i p1 _;have afR:∀w H,Wd db w0 H w->Wd db w0 [] w:=λw H hw=>⟨hw.c_,by simp,by simp,by simp⟩;refine bH (λ(i:Nat)=>i<=fn/\∀k X,k<i->u.funcs[k]?=O X->aa2 X) (λi=>[(3,J Z i),(2,ag false),M 1 p1]) (λ_=>[cw p1 ga gn gc fa fn fc]) (λi=>fn-i) 0 ⟨aN _,by simp⟩ (aP V aF) λi ⟨hi,cX⟩=>?_;refine bA ?_;apply aL<;>intro h1
 ·have ce:i<fn:=aD h1
  obtain⟨X,hX⟩:=eI ve ce;have mJ:cl fa fb fo:=⟨QV (aZ hX)⟩;have kK:cg i fn:=⟨ce⟩;obtain⟨cs,gW,bv,rfl,SF,hri,Js⟩:=Cr i X hX;obtain⟨ba,n,bc,bb,tL,rfl,hn,qg,A_,yy,qd,iw⟩:=Js;have nO:bu w0 fb (fo+i*4) _:=⟨gW⟩;refine aU ?_;refine bH (λ(x:Nat×Int)=>x.1<=n/\(n<=24->x.2=pT X.blocks x.1/\x.2<=x.1*281474976710656)) (λx=>[(5,J Z x.1),(4,J Z x.2),(3,J Z i),(2,ag false),M 1 p1]) (λ_=>[cw p1 ga gn gc fa fn fc]) (λx=>n-x.1) (0,0) ⟨aN _,by simp[pT]⟩ (aP V aF) λx ⟨hj,acK⟩=>?_;obtain⟨j,s⟩:=x;simp only at hj acK|-
  refine bA ?_;apply aL<;>intro h2
  ·have oK:j<n:=aD h2
   obtain⟨B,hB⟩:=eI hn oK;have uu:cl ba bb tL:=⟨qd (aZ hB)⟩;have EG:cg j n:=⟨oK⟩;obtain⟨Jq,nP,pv,lv,tv,rfl,_,_,mB,lu,ht⟩:=iw j B hB;obtain⟨Wo,pn,pc,_,_,rfl,As,_,NC,_⟩:=mB;obtain⟨la,ln,lc,_,_,rfl,Jy,_,QW,_⟩:=lu;have uv:bu w0 bb (tL+j*6) _:=⟨nP⟩;have KT:=Dh hB;have hm1:=xT X.blocks j;have ab7:n<=24->IntKind.i64.wrap (IntKind.i64.wrap (s+pn)+ln)=pT X.blocks (j+1)/\IntKind.i64.wrap (IntKind.i64.wrap (s+pn)+ln)<=((j+1:Nat):Int)*281474976710656:=by
    intro h24;obtain⟨e1,e2⟩:=acK h24;rw[BY (s+pn) A A,BY (s+pn+ln) A A,KT];constructor
    ·rw[e1,As,Jy];omega
    ·omega
   refine aU ?_;refine kX mixed bC ?_;refine kJ ?_;refine Wz rfl ?_;refine kJ ?_;refine Wz rfl ?_;refine kJ ?_;refine aU ?_;exact a_ (j+1,IntKind.i64.wrap (IntKind.i64.wrap (s+pn)+ln)) ⟨oK,ab7⟩ bB V aF
  ·have fX:j=n:=by have:=h2;simp at this;omega
   refine aV ?_;generalize Mp:decide (24<(n:Int))=b1;refine jS 60 (ag (b1||decide (120<s))) ?_ ?_
   ·cases b1
    ·refine aV ?_
     exact aP V aF
    ·refine cT ?_
     exact aP V aF
   refine bA ?_;apply aL<;>intro h3
   ·refine aV ?_
    exact dh rfl λw hw=>⟨_,rfl,afR _ _ hw,by simp⟩
   ·have tM:n<=24/\s<=120:=by subst Mp;simp at h3;omega
    refine aU ?_;refine a_ (i+1) ⟨ce,λk cP hk hY=>?_⟩ A V aF
    by_cases hki:k=i
    ·subst hki
     rw[hX]at hY;simp only[cF]at hY;subst hY;refine⟨A,?_⟩;have:=(acK tM.1).1;rw[fX,hn,FE]at this;omega
    ·exact cX k cP A hY
 ·have fX:i=fn:=by have:=h1;simp at this;omega
  refine aV ?_;refine dh rfl λw hw=>⟨_,rfl,afR _ _ hw,λhb=>⟨by simp at hb;omega,λcP hY=>?_⟩⟩;obtain⟨k,hk⟩:=bR hY;exact cX k cP (by have:=(aJ.1 hk).1;omega) hk
def kC(u:dk)(j:Nat):List aq:=match u.funcs[j]? with|some X=>X.blocks|none=>[]
def mu(u:dk)(j:Nat):Nat:=match u.funcs[j]? with|some X=>X.bm.toNat|none=>0
def PA(k n:Nat)(f:sD):sD:={f with at':=if f.fn=k/\f.block=0 then f.at'+n else f.at'}
def liftM(k n c:Nat)(s:nZ):nZ:=⟨s.mem,s.mE,s.out,c,s.rest.map (PA k n),PA k n s.dC,s.counts⟩
def afX(k n c:Nat)(s:nZ)(i:Nat):nZ:=⟨s.mem,s.mE,s.out,c,s.rest.map (PA k n),{s.dC with at':=i},s.counts⟩
theorem vm(u:dk)(s:nZ)(to:Int):Bm u s to={s with dC:={s.dC with bm:=pe s.dC ((be (kC u s.dC.fn) to.toNat).idxOf s.dC.block) (kO (kC u s.dC.fn) to.toNat),block:=to.toNat,at':=0},counts:=bump s.counts s.dC.fn to.toNat}:=rfl
theorem vS(u:dk)(s:nZ)(fn:Nat)(dst:Int)(args:List Int):zL u s fn dst args={s with rest:=s.rest++[s.dC],dC:=⟨fn,0,0,pH (mu u fn) args,dst⟩,counts:=bump s.counts fn 0}:=rfl
theorem afY(k n c:Nat)(s:nZ)(h:s.dC.at'=0):afX k n c s (if s.dC.fn=k/\s.dC.block=0 then n else 0)=liftM k n c s:=by
 unfold afX liftM PA;rw[h,eC]
theorem vd{names:List ByteArray}{f:bZ}:nD names f=0↔we f.name=true/\hasName names f.name=false/\(0<=f.params/\f.params<=6)/\(f.params<=f.bm/\f.bm<=100)/\(1<=f.blocks.length/\f.blocks.length<=40)/\ja f.blocks<=300:=by
 unfold nD;constructor
 ·intro h
  split at h
  ·cases h
  rename_i h1
  split at h
  ·cases h
  rename_i h2
  split at h
  ·cases h
  rename_i h3
  split at h
  ·cases h
  rename_i h4;simp[within]at h1 h2 h3 h4;exact⟨h1,h2,A,A,A,A⟩
 ·rintro⟨h1,h2,h3,h4,h5,h6⟩
  rw[ai (by simp[h1]),ai (by simp[h2]),ai (by simp[within];omega),ai (by simp[within];omega)]
theorem v_(fs:List bZ):fE fs=match (fs.map (·.name)).findIdx? (λs=>s.toList==(ByteArray.mk #[109,97,105,110]).toList)with|some i=>(i:Int)|none=>-1:=by
 unfold fE;rw[List.findIdx?_map]
 rfl
end
end Go.Proofs.YthfhgolkafpmnaaGreatDoor
