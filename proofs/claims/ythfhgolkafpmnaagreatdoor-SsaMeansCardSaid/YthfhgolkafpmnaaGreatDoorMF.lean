/- Texts joined: OneB OneC. -/
import Derived.Test.YthfhgolkafpmnaaGreatDoorMC
namespace Go.Proofs.YthfhgolkafpmnaaGreatDoor
open Go.Value renaming int->U,slice->J,pointer->ar,string->G,bool->D
open Go.IntKind renaming i64->O
open Option renaming some->Z,none->A
open Go renaming Value->V,World->C
open Go.Proofs.Tryz
open Go.Proofs.Tryz renaming prog->ae
open Go Go.RowKit
section
set_option maxHeartbeats 8000000
attribute [local irreducible] wpListIn Code.wpIn Exit.then Exit.inBlock bodyPost wpQuiet wpAnyIn wpAnyH bodyPostM j5
theorem XE{S:Nat->Prop}{w0 w1:C}{H1 H2:List bN}(h:Wd S w0 (H1++H2) w1):∀p v,(cd S w0).cell? p=Z v->(cd (cH H1) w1).cell? p=Z v:=λp v hc=>by
 obtain⟨hn,h1⟩:=nz hc;have bS:=World.block_lt_of_cell? _ p h1;have oB:¬cH H1 p.block:=λ⟨e,he,hb⟩=>(h.own e (ct _ he) _ hb).1.elim hn λh2=>I;rw[<-h1];exact World.cell?_of_block ((jT w1 oB).trans (h.ch.block _ bS hn))
theorem xO:∀{l:List Nat} {x:Nat},x∈l->x<=l.sum
 |y::l,x,h=>by
  rw[eT];rcases bD.1 h with rfl|h
  ·omega
  ·have:=xO h
   omega
theorem P3:u3 AX:=λ_ _ _ _ _ h=>h
theorem TZ:u3 Ez:=λ_ _ hc _ _ ⟨v,h1,h2⟩=>⟨v,h1,h2.le P3 hc⟩
theorem ae9{args:List V}{R:Nat}{bl:List E}{w0:C}{f:FuncId}(hR:R<=100)(hlen:bl.length<=100)(h:iC ae f args w0 λu w'=>∃x:(Option Addr×Nat×List kx)×(Option Addr×Nat×List kx),u=.tuple #[J x.1.1 bl.length x.1.2.1,J x.2.1 bl.length x.2.2.1]/\
   Wd cX w0 (M x.1.1 bl.length x.1.2.1 145 1 (x.1.2.2.map (iy R))::M x.2.1 bl.length x.2.2.1 145 1 (x.2.2.2.map (iy R))::(x.1.2.2.map (jf R)++x.2.2.2.map (jf R))) w'/\V5 R bl x.1.2.2 x.2.2.2):
  iC ae f args w0 λu w'=>∃x:(Option Addr×Nat)×(Option Addr×Nat)×(Nat->Prop)×List (List Bool),u=.tuple #[J x.1.1 bl.length x.1.2,J x.2.1.1 bl.length x.2.1.2]/\Wd cX w0 [⟨x.2.2.1,λw=>aG w (J x.1.1 bl.length x.1.2) 1 x.2.2.2 Ez⟩] w'/\
   (x.2.2.2.length=bl.length/\∀(b:Nat) q,x.2.2.2[b]?=Z q->q.length=R/\∀r,(has q r↔ik bl r b (-1))):=
 h.mono λu w' ⟨x,h1,h2,h3⟩=>by
  obtain⟨⟨ia,ic,ins⟩,⟨oa,oc,outs⟩⟩:=x;simp only at h1 h2 h3;have iJ:=h3.aeL;have h4:Wd cX w0 ((M ia bl.length ic 145 1 (ins.map (iy R))::M oa bl.length oc 145 1 (outs.map (iy R))::(ins.map (jf R)++outs.map (jf R)))++[]) w':=by rw[cD];exact h2
  refine⟨((ia,ic),(oa,oc),_,ins.map (·.l)),h1,h4.pack _ λw2 hw=>?_,by rw[aF];exact iJ,λb q hq=>?_⟩
  ·simp only
   have h5:Wd _ w2 (M ia bl.length ic 145 1 (ins.map (iy R))::(ins.map (jf R)++[])) w2:=hw.sub (dM (.cons _ (by rw[cD];exact eI _ _)));exact Od h5 iJ.symm I I h3.ZZ
  ·rw[aJ]at hq
   obtain⟨y,hy,rfl⟩:=cA.1 hq;exact⟨h3.ZZ y (aq hy),λr=>h3.ahI b y r hy⟩
noncomputable def Mr(X:aY):aY:=⟨X.name,X.params,X.aB,dw X.blocks X.aB.toNat⟩
open Classical in
noncomputable def nh(bl:List E)(r:Nat)(here:List Int):List E:=bl.mapIdx λb B=>{B with aD:=B.aD++(dg bl r b++if need bl b r/\(b:Int)∈here then[iI bl b r]else[])}
theorem Mq(bl:List E)(r:Nat):nh bl r []=dw bl r:=by
 unfold nh dw;simp
theorem Mp{bl:List E}{r:Nat}{here:List Int}(h:∀b,need bl b r->(b:Int)∈here):nh bl r here=dw bl (r+1):=by
 classical
 unfold nh dw;congr 1
 funext b B
 rw[G_];congr 3
 by_cases hn:need bl b r
 ·rw[if_pos hn,if_pos ⟨hn,h b hn⟩]
 ·rw[if_neg hn,if_neg λh=>hn h.1]
theorem uy{bl:List E}{r b:Nat}{here:List Int}{B:E}(h:bl[b]?=Z B)[Decidable (need bl b r/\(b:Int)∈here)]:(nh bl r here)[b]?=Z {B with aD:=B.aD++(dg bl r b++if need bl b r/\(b:Int)∈here then[iI bl b r]else[])}:=by
 unfold nh;rw[cf,h];simp only[bu];congr
theorem uz(bl:List E)(r:Nat)(here:List Int):(nh bl r here).length=bl.length:=by simp[nh]
theorem Qe{bl:List E}{r b:Nat}{here:List Int}{B:E}(hB:bl[b]?=Z B)(hb:(b:Int)∉here)(hn:need bl b r):
  nh bl r (here++[(b:Int)])=(nh bl r here).set b {B with aD:=(B.aD++dg bl r b)++[iI bl b r]}:=by
 classical
 apply ci;intro i
 by_cases hi:i=b
 ·subst hi
  rw[uy hB,eK (by rw[uz];exact(az.1 hB).1),if_pos ⟨hn,by simp⟩,dz]
 ·rw[fz (λe=>hi e.symm)]
  cases h:bl[i]? with
  |none=>
   have:=kD.1 h;rw[bO (by rw[uz];exact this),bO (by rw[uz];exact this)]
  |some akh=>
   rw[uy h,uy h];have e:(need bl i r/\(i:Int)∈here++[(b:Int)])↔(need bl i r/\(i:Int)∈here):=by
    rw[bA,bR];constructor
    ·rintro⟨h1,h2|h2⟩
     ·exact⟨h1,h2⟩
     ·omega
    ·rintro⟨h1,h2⟩
     exact⟨h1,.inl h2⟩
   simp only[e]
theorem DJ{bl:List E}{r b:Nat}{here:List Int}(hn:¬need bl b r):nh bl r (here++[(b:Int)])=nh bl r here:=by
 classical
 unfold nh;congr 1
 funext i B
 have e:(need bl i r/\(i:Int)∈here++[(b:Int)])↔(need bl i r/\(i:Int)∈here):=by
  rw[bA,bR];constructor
  ·rintro⟨h1,h2|h2⟩
   ·exact⟨h1,h2⟩
   ·have:i=b:=I
    subst this;exact absurd h1 hn
  ·rintro⟨h1,h2⟩
   exact⟨h1,.inl h2⟩
 simp only[e]
theorem Md{bl:List E}{r b:Nat}:∀p∈dg bl r b,p.dst≠(r:Int):=λp hp e=>by
 obtain⟨q,hq,_,rfl⟩:=jU hp;simp only[iI]at e;omega
theorem Bi{bl:List E}{r b:Nat}{B:E}:kp {B with aD:=B.aD++dg bl r b} r=kp B r:=by
 unfold kp;simp only;rw[List.any_append];have:(dg bl r b).any (λp=>decide (p.dst=(r:Int)))=false:=by
  rw[xw];intro p hp;simpa using Md p hp
 rw[this,Bool.or_false]
def gD(bl:List E)(r i:Nat):List Int:=(0:Int)::((List.range i).filter λb=>decide (1<=b)&&kR (aN bl b) r).map λx:Nat=>(x:Int)
theorem QZ(bl:List E)(r i:Nat):gD bl r (i+1)=gD bl r i++if decide (1<=i)&&kR (aN bl i) r then[(i:Int)]else[]:=by
 unfold gD;rw[kU,nU,bz,aW];congr 2
 by_cases h:(decide (1<=i)&&kR (aN bl i) r)=true
 ·rw[if_pos h];simp only[List.filter_cons,h,if_true,List.filter_nil];rfl
 ·rw[if_neg h];simp only[List.filter_cons,h,List.filter_nil];rfl
theorem Kl(bl:List E)(r i:Nat):(gD bl r i).length<=i+1:=by
 unfold gD;rw[gk,aF];have:=jL (λb=>decide (1<=b)&&kR (aN bl b) r) (List.range i);rw[fA]at this;omega
theorem OF{bl:List E}{r i:Nat}{x:Int}(h:x∈gD bl r i):∃c:Nat,x=c/\(c=0∨c<i):=by
 unfold gD at h;rcases bD.1 h with rfl|h
 ·exact⟨0,rfl,.inl rfl⟩
 ·obtain⟨c,hc,rfl⟩:=aV.1 h
  exact⟨c,rfl,.inr (cM.1 (cC.1 hc).1)⟩
def se(T:aX)(a:Option Addr)(c:Nat)(ps:List cW):aX:={T with pa:=a,pc:=c,ps:=ps}
theorem Vy{S:Nat->Prop}{w0 w:C}{X:List bN}{a:Option Addr}{c t:Nat}{zs:List aX}{T:aX}{na:Option Addr}{nc:Nat}{ps:List cW}(hT:zs[t]?=Z T)
  (h:Wd S w0 (X++(M a zs.length c 46 6 ((zs.set t (se T na nc ps)).flatMap bm)::M na ps.length nc 49 2 (ps.flatMap cF)::vE T::pz T::(ps.map fP++(T.xs.map j1++(zs.eraseIdx t).map ck)))) w):Wd S w0 (X++fS a c (zs.set t (se T na nc ps))) w:=by
 have zP:=(az.1 hT).1;have h2:Wd S w0 (jM (se T na nc ps)++(X++(M a zs.length c 46 6 ((zs.set t (se T na nc ps)).flatMap bm)::(zs.eraseIdx t).map ck))) w:=by
  refine h.perm ?_;unfold jM se vE pz
  classical
  refine aP.2 λe=>?_;simp only[bC,br];omega
 refine(Wd.join h2).perm ?_;have h5:=jl ck (l:=zs.set t (se T na nc ps)) (k:=t) (x:=se T na nc ps) (eK zP);rw[qA]at h5;unfold fS;rw[eL]
 classical
 refine aP.2 λe=>?_;have h7:=aP.1 h5 e;simp only[bC,br,ck]at h7⊢;omega
theorem MJ(X:aY)(R:Nat)(hX:jF X R)(hlen:X.blocks.length<=100)(xf:eB X.blocks<=800)(w0:C):E0 w0 63 [] [] Mr X:=by
 classical
 obtain⟨xn,xp,xr,xb⟩:=X;have Nb:=hX.aB;have hR:=hX.le;have hf:=hX.ok;have c_:=hX.pos;have o_:=hX.par;simp only at hlen xf hf c_ Nb o_;subst Nb;intro a c bs wb m_ r5 IY GJ hw;simp only at m_;subst m_;have gF:bs.length<=100:=by rw[aF]at hlen;exact hlen
 have hg:=hf.iM;simp only[aO,cD,aW];refine aM func63 rfl ntmps63 rfl hw ?_;obtain⟨SS,Fj⟩:∃SS,SS=cH (fS a c bs):=⟨_,rfl⟩;rw[<-Fj];obtain⟨bl,mE⟩:∃bl,bl=bs.map aX.eR:=⟨_,rfl⟩;rw[<-mE]at hf c_ xf hlen hg;have afN:bl.length=bs.length:=by rw[mE,aF]
 have hTF:Mr ⟨xn,xp,(R:Int),bs.map aX.eR⟩=⟨xn,xp,(R:Int),dw bl R⟩:=by unfold Mr;rw[mE];rfl
 rw[hTF];obtain⟨n,hn⟩:∃n,n=bs.length:=⟨_,rfl⟩;rw[<-hn]
 repeat(first|refine aU ?_|refine dZ λ_ _=>?_)
 rename_i p1 _ p2 _;have s7:∀{H:List bN} {w:C},Wd SS wb H w->(fS a c bs).Sublist H->aG w (J a n c) 6 bl ed:=λ{H w} hw hs=>by
  rw[mE,hn];refine Wd.blocks (H:=[]) (hw.sub ?_) I r5;rw[cD];exact hs
 have oZ:∀(b:Nat) B,bl[b]?=Z B->B.to.Nodup:=λb B hB=>(hf.block b B hB).to;refine dQ [] (λx:(Option Addr×Nat×(Nat->Prop))×((Option Addr×Nat×Nat)×(Nat->Prop))=>True) (λx=>[(4,J x.2.1.1 x.2.1.2.1 x.2.1.2.2),(3,J x.1.1 (ir bl).length x.1.2.1),aj 1 p1,aj 2 p2])
  (λx=>(K p1 [G xn,U O xp,U O (R:Int),J a n c] 35::K p2 [G aA,U O 0,U O 0,J A 0 0] 35::fS a c bs)++[⟨x.1.2.2,λw=>aG w (J x.1.1 (ir bl).length x.1.2.1) 1 (ir bl) cN⟩,⟨x.2.2,λw=>aG w (J x.2.1.1 x.2.1.2.1 x.2.1.2.2) 1 (be bl) cN⟩]) mixed qd ?_ λx _=>?_
 ·skip
  refine lm 0 2 ai ?_ ?_
  ·skip
   refine fO 0 rfl aw ?_;refine lm 1 2 ai ?_ ?_
   ·skip
    refine Hg 1 (s:=1) (q:=ir bl) (ake:=cN) (mk:=λv=>v) rfl aw (λw hw=>K2 I (z8 _ _ _ bl _ ⟨_,_,_,rfl⟩ w (s7 hw aw) I hg oZ c_)) λfa fc fp=>?_;refine cm 2 ai ?_;refine fO 2 rfl aw ?_;refine cm 3 ai ?_
    (refine kf 3 (val:=λx:(Option Addr×Nat×Nat)×(Nat->Prop)=>.slice x.1.1 x.1.2.1 x.1.2.2) (akg:=λx=>[⟨x.2,λw=>aG w (J x.1.1 x.1.2.1 x.1.2.2) 1 (be bl) cN⟩]) (φ:=λ_=>True) rfl aw (λw hw=>fZ _ _ _ bl _ w (s7 hw aw) I hg) λy _=>?_;obtain⟨⟨aa,an,ac⟩,af⟩:=y;simp only[aW,aO])
    refine cm 4 ai ?_;refine fO 4 rfl aw ?_;refine cm 5 ai ?_;refine fO 5 rfl aw ?_;refine bi (H1:=(K p1 [G xn,U O xp,U O (R:Int),J a n c] 35::K p2 [G aA,U O 0,U O 0,J A 0 0] 35::fS a c bs)++[⟨fp,λw=>aG w (J fa (ir bl).length fc) 1 (ir bl) cN⟩,⟨af,λw=>aG w (J aa an ac) 1 (be bl) cN⟩]) (aP.2 λe=>by simp only[bC,br,cq];omega) ?_;refine eA ai ?_;exact dS ((fa,fc,fp),((aa,an,ac),af)) trivial ap aK
   ·skip
    refine fO 2 rfl aw ?_;refine cm 1 ai ?_;refine Hg 1 (s:=1) (q:=ir bl) (ake:=cN) (mk:=λv=>v) rfl aw (λw hw=>K2 I (z8 _ _ _ bl _ ⟨_,_,_,rfl⟩ w (s7 hw aw) I hg oZ c_)) λfa fc fp=>?_;refine cm 3 ai ?_
    (refine kf 3 (val:=λx:(Option Addr×Nat×Nat)×(Nat->Prop)=>.slice x.1.1 x.1.2.1 x.1.2.2) (akg:=λx=>[⟨x.2,λw=>aG w (J x.1.1 x.1.2.1 x.1.2.2) 1 (be bl) cN⟩]) (φ:=λ_=>True) rfl aw (λw hw=>fZ _ _ _ bl _ w (s7 hw aw) I hg) λy _=>?_;obtain⟨⟨aa,an,ac⟩,af⟩:=y;simp only[aW,aO])
    refine cm 4 ai ?_;refine fO 4 rfl aw ?_;refine cm 5 ai ?_;refine fO 5 rfl aw ?_;refine bi (H1:=(K p1 [G xn,U O xp,U O (R:Int),J a n c] 35::K p2 [G aA,U O 0,U O 0,J A 0 0] 35::fS a c bs)++[⟨fp,λw=>aG w (J fa (ir bl).length fc) 1 (ir bl) cN⟩,⟨af,λw=>aG w (J aa an ac) 1 (be bl) cN⟩]) (aP.2 λe=>by simp only[bC,br,cq];omega) ?_;refine eA ai ?_;exact dS ((fa,fc,fp),((aa,an,ac),af)) trivial ap aK
  ·skip
   refine fO 2 rfl aw ?_;refine cm 0 ai ?_;refine fO 0 rfl aw ?_;refine cm 1 ai ?_;refine Hg 1 (s:=1) (q:=ir bl) (ake:=cN) (mk:=λv=>v) rfl aw (λw hw=>K2 I (z8 _ _ _ bl _ ⟨_,_,_,rfl⟩ w (s7 hw aw) I hg oZ c_)) λfa fc fp=>?_;refine cm 3 ai ?_
   (refine kf 3 (val:=λx:(Option Addr×Nat×Nat)×(Nat->Prop)=>.slice x.1.1 x.1.2.1 x.1.2.2) (akg:=λx=>[⟨x.2,λw=>aG w (J x.1.1 x.1.2.1 x.1.2.2) 1 (be bl) cN⟩]) (φ:=λ_=>True) rfl aw (λw hw=>fZ _ _ _ bl _ w (s7 hw aw) I hg) λy _=>?_;obtain⟨⟨aa,an,ac⟩,af⟩:=y;simp only[aW,aO])
   refine cm 4 ai ?_;refine fO 4 rfl aw ?_;refine cm 5 ai ?_;refine fO 5 rfl aw ?_;refine bi (H1:=(K p1 [G xn,U O xp,U O (R:Int),J a n c] 35::K p2 [G aA,U O 0,U O 0,J A 0 0] 35::fS a c bs)++[⟨fp,λw=>aG w (J fa (ir bl).length fc) 1 (ir bl) cN⟩,⟨af,λw=>aG w (J aa an ac) 1 (be bl) cN⟩]) (aP.2 λe=>by simp only[bC,br,cq];omega) ?_;refine eA ai ?_;exact dS ((fa,fc,fp),((aa,an,ac),af)) trivial ap aK
 obtain⟨⟨fa,fc,fp⟩,⟨⟨aa,an,ac⟩,af⟩⟩:=x;simp only[aW];rw[xA];have ri:∀B∈bl,∀x∈B.list,x.args.length<=1000:=λB hB x hx=>by
  rw[mE]at hB;obtain⟨q,hq,rfl⟩:=aV.1 hB;obtain⟨y,hy,rfl⟩:=aV.1 hx;exact((r5 q hq).ins y hy).2.1
 have lq:∀B∈bl,B.list.length<=1000/\B.aD.length<=1000:=λB hB=>by
  rw[mE]at hB;obtain⟨q,hq,rfl⟩:=aV.1 hB;unfold aX.eR;simp only[aF];exact⟨(r5 q hq).list,(r5 q hq).aD⟩
 refine aU ?_;refine cZ (val:=λx:(Option Addr×Nat)×(Option Addr×Nat)×(Nat->Prop)×List (List Bool)=>.tuple #[J x.1.1 bl.length x.1.2,J x.2.1.1 bl.length x.2.1.2]) (akg:=λx=>[⟨x.2.2.1,λw=>aG w (J x.1.1 bl.length x.1.2) 1 x.2.2.2 Ez⟩]) (φ:=λx=>x.2.2.2.length=bl.length/\∀(b:Nat) q,x.2.2.2[b]?=Z q->q.length=R/\∀r,(has q r↔ik bl r b (-1))) rfl
  (λw hw=>ae9 hR I (We _ _ R hR bl _ w (s7 hw (List.Sublist.trans (.cons _ (.cons _ (.refl _))) (eI _ _))) I hf ri lq)) λx hx=>?_
 obtain⟨⟨ia,ic⟩,⟨oa,oc⟩,sp,QB⟩:=x;obtain⟨rq,rS⟩:=hx;simp only at rq rS⊢;simp only[aW,aO];refine aH ?_;refine bi (H1:=(K p1 [G xn,U O xp,U O (R:Int),J a n c] 35::K p2 [G aA,U O 0,U O 0,J A 0 0] 35::fS a c bs)++[(⟨sp,λw=>aG w (J ia bl.length ic) 1 QB Ez⟩:bN),(⟨fp,λw=>aG w (J fa bl.length fc) 1 (ir bl) cN⟩:bN),(⟨af,λw=>aG w (J aa an ac) 1 (be bl) cN⟩:bN)]) (aP.2 λe=>by simp only[bC,br,cq];omega) ?_;refine nZ λw1 l9=>?_;have Pd:aG (cd (cH ((K p1 [G xn,U O xp,U O (R:Int),J a n c] 35::K p2 [G aA,U O 0,U O 0,J A 0 0] 35::fS a c bs))) w1) (J aa an ac) 1 (be bl) cN:=l9.beside (e:=(⟨af,λw=>aG w (J aa an ac) 1 (be bl) cN⟩:bN)) aC;have GJ:aG (cd (cH ((K p1 [G xn,U O xp,U O (R:Int),J a n c] 35::K p2 [G aA,U O 0,U O 0,J A 0 0] 35::fS a c bs))) w1) (J fa bl.length fc) 1 (ir bl) cN:=l9.beside (e:=(⟨fp,λw=>aG w (J fa bl.length fc) 1 (ir bl) cN⟩:bN)) aC;have hse:aG (cd (cH ((K p1 [G xn,U O xp,U O (R:Int),J a n c] 35::K p2 [G aA,U O 0,U O 0,J A 0 0] 35::fS a c bs))) w1) (J ia bl.length ic) 1 QB Ez:=l9.beside (e:=(⟨sp,λw=>aG w (J ia bl.length ic) 1 QB Ez⟩:bN)) aC;have back:∀{akg:List bN} {w:C},Wd (cH ((K p1 [G xn,U O xp,U O (R:Int),J a n c] 35::K p2 [G aA,U O 0,U O 0,J A 0 0] 35::fS a c bs))) (cd (cH ((K p1 [G xn,U O xp,U O (R:Int),J a n c] 35::K p2 [G aA,U O 0,U O 0,J A 0 0] 35::fS a c bs))) w1) akg w->Wd SS wb (akg++[(⟨sp,λw=>aG w (J ia bl.length ic) 1 QB Ez⟩:bN),(⟨fp,λw=>aG w (J fa bl.length fc) 1 (ir bl) cN⟩:bN),(⟨af,λw=>aG w (J aa an ac) 1 (be bl) cN⟩:bN)]) w:=λhw=>l9.comp hw.nk;have Lq:∀{akg:List bN} {w:C},Wd (cH ((K p1 [G xn,U O xp,U O (R:Int),J a n c] 35::K p2 [G aA,U O 0,U O 0,J A 0 0] 35::fS a c bs))) (cd (cH ((K p1 [G xn,U O xp,U O (R:Int),J a n c] 35::K p2 [G aA,U O 0,U O 0,J A 0 0] 35::fS a c bs))) w1) akg w->kg (cd (cH ((K p1 [G xn,U O xp,U O (R:Int),J a n c] 35::K p2 [G aA,U O 0,U O 0,J A 0 0] 35::fS a c bs))) w1) w:=λhw=>hw.pW;have lK:∀{E1 E2:List bN} {w:C},Wd (cH ((K p1 [G xn,U O xp,U O (R:Int),J a n c] 35::K p2 [G aA,U O 0,U O 0,J A 0 0] 35::fS a c bs))) (cd (cH ((K p1 [G xn,U O xp,U O (R:Int),J a n c] 35::K p2 [G aA,U O 0,U O 0,J A 0 0] 35::fS a c bs))) w1) (E1++E2) w->kg (cd (cH ((K p1 [G xn,U O xp,U O (R:Int),J a n c] 35::K p2 [G aA,U O 0,U O 0,J A 0 0] 35::fS a c bs))) w1) (cd (cH E1) w):=λhw=>XE hw.nk;have hold:∀{b o:Nat} {v:V} {l:List V},bF (cd (cH ((K p1 [G xn,U O xp,U O (R:Int),J a n c] 35::K p2 [G aA,U O 0,U O 0,J A 0 0] 35::fS a c bs))) w1) b o (v::l)->eS (cH ((K p1 [G xn,U O xp,U O (R:Int),J a n c] 35::K p2 [G aA,U O 0,U O 0,J A 0 0] 35::fS a c bs))) b:=λhc=>iF hc aC;generalize cd (cH ((K p1 [G xn,U O xp,U O (R:Int),J a n c] 35::K p2 [G aA,U O 0,U O 0,J A 0 0] 35::fS a c bs))) w1=wk at*;generalize cH ((K p1 [G xn,U O xp,U O (R:Int),J a n c] 35::K p2 [G aA,U O 0,U O 0,J A 0 0] 35::fS a c bs))=SK at*
 skip
 refine bL (λx:Nat×List aX=>x.1<=R/\x.2.map aX.eR=dw bl x.1/\∀b∈x.2,b.Bd) (λx=>[(26,U O x.1),(25,U O (R:Int)),(3,J fa bl.length fc),(4,J aa an ac),(5,J ia bl.length ic),(6,J oa bl.length oc),aj 1 p1,aj 2 p2]) (λx=>K p1 [G xn,U O xp,U O (R:Int),J a n c] 35::K p2 [G aA,U O 0,U O 0,J A 0 0] 35::fS a c x.2) (λx=>R-x.1) (0,bs) ⟨aT _,by rw[Hn,mE],r5⟩ (aS ap aK) λx ⟨hr,xK,uf⟩=>?_;obtain⟨r,ys⟩:=x;simp only at hr xK uf⊢;have LI:ys.length=n:=by
  have h3:=congrArg List.length xK;rw[aF,e7]at h3;omega
 refine aU ?_;refine aI (λh1=>?_) (λh1=>?_)
 case refine_2=>
  obtain rfl:r=R:=by have:=of_decide_eq_false h1;omega
  refine aE ?_;refine gw rfl λw hw=>⟨(a,c,ys),by simp only[LI],(back hw).sub ?_,xK,uf,by simp only;omega,⟨I,I⟩,⟨I,I⟩⟩;exact List.Sublist.trans (.cons _ (.cons _ (.refl _))) (eI _ _)
 have Lz:r<R:=ax h1
 repeat(first|refine aE ?_|refine dZ λ_ _=>?_)
 rename_i p7 _ e8 _;refine fC (H1:=[M (Z ⟨e8,0,A⟩) 1 1 3 1 [U O 0],K p7 [U O (r:Int)] 3,K p1 [G xn,U O xp,U O (R:Int),J a n c] 35,K p2 [G aA,U O 0,U O 0,J A 0 0] 35]++fS a c ys) rfl ?_;refine nZ λw2 jg=>?_;have adg:aG (cd (cH [M (Z ⟨e8,0,A⟩) 1 1 3 1 [U O 0],K p7 [U O (r:Int)] 3,K p1 [G xn,U O xp,U O (R:Int),J a n c] 35,K p2 [G aA,U O 0,U O 0,J A 0 0] 35]) w2) (J a n c) 6 (dw bl r) ed:=by
  have:=Wd.blocks (H:=[]) (ba:=a) (bc:=c) (bs:=ys) (by rw[cD];exact jg.kF) I uf;rw[xK,LI]at this;exact this
 have acx:∀{akg:List bN} {w:C},Wd (cH [M (Z ⟨e8,0,A⟩) 1 1 3 1 [U O 0],K p7 [U O (r:Int)] 3,K p1 [G xn,U O xp,U O (R:Int),J a n c] 35,K p2 [G aA,U O 0,U O 0,J A 0 0] 35]) (cd (cH [M (Z ⟨e8,0,A⟩) 1 1 3 1 [U O 0],K p7 [U O (r:Int)] 3,K p1 [G xn,U O xp,U O (R:Int),J a n c] 35,K p2 [G aA,U O 0,U O 0,J A 0 0] 35]) w2) akg w->Wd SK wk (akg++fS a c ys) w:=λhw=>jg.comp hw.nk;have aa7:∀{akg:List bN} {w:C},Wd (cH [M (Z ⟨e8,0,A⟩) 1 1 3 1 [U O 0],K p7 [U O (r:Int)] 3,K p1 [G xn,U O xp,U O (R:Int),J a n c] 35,K p2 [G aA,U O 0,U O 0,J A 0 0] 35]) (cd (cH [M (Z ⟨e8,0,A⟩) 1 1 3 1 [U O 0],K p7 [U O (r:Int)] 3,K p1 [G xn,U O xp,U O (R:Int),J a n c] 35,K p2 [G aA,U O 0,U O 0,J A 0 0] 35]) w2) akg w->kg (cd (cH [M (Z ⟨e8,0,A⟩) 1 1 3 1 [U O 0],K p7 [U O (r:Int)] 3,K p1 [G xn,U O xp,U O (R:Int),J a n c] 35,K p2 [G aA,U O 0,U O 0,J A 0 0] 35]) w2) w:=λhw=>hw.pW;have nw:∀{b o:Nat} {v:V} {l:List V},bF (cd (cH [M (Z ⟨e8,0,A⟩) 1 1 3 1 [U O 0],K p7 [U O (r:Int)] 3,K p1 [G xn,U O xp,U O (R:Int),J a n c] 35,K p2 [G aA,U O 0,U O 0,J A 0 0] 35]) w2) b o (v::l)->eS (cH [M (Z ⟨e8,0,A⟩) 1 1 3 1 [U O 0],K p7 [U O (r:Int)] 3,K p1 [G xn,U O xp,U O (R:Int),J a n c] 35,K p2 [G aA,U O 0,U O 0,J A 0 0] 35]) b:=λhc=>iF hc aC;generalize cd (cH [M (Z ⟨e8,0,A⟩) 1 1 3 1 [U O 0],K p7 [U O (r:Int)] 3,K p1 [G xn,U O xp,U O (R:Int),J a n c] 35,K p2 [G aA,U O 0,U O 0,J A 0 0] 35]) w2=wk2 at*;generalize cH [M (Z ⟨e8,0,A⟩) 1 1 3 1 [U O 0],K p7 [U O (r:Int)] 3,K p1 [G xn,U O xp,U O (R:Int),J a n c] 35,K p2 [G aA,U O 0,U O 0,J A 0 0] 35]=S2 at*;refine bL (λx:Nat×Option Addr×Nat=>x.1<=n) (λx=>[(33,U O x.1),(31,J a n c),(32,U O n),(8,J x.2.1 (gD bl r x.1).length x.2.2),aj 7 p7,(26,U O r),(25,U O (R:Int)),(3,J fa bl.length fc),(4,J aa an ac),(5,J ia bl.length ic),(6,J oa bl.length oc),aj 1 p1,aj 2 p2]) (λx=>[M x.2.1 (gD bl r x.1).length x.2.2 3 1 ((gD bl r x.1).map (U O)),K p7 [U O (r:Int)] 3,K p1 [G xn,U O xp,U O (R:Int),J a n c] 35,K p2 [G aA,U O 0,U O 0,J A 0 0] 35]) (λx=>n-x.1) (0,Z ⟨e8,0,A⟩,1) (aT _) (aS ap aK) λx hi=>?_
 ·obtain⟨i,wa,wc⟩:=x
  simp only at hi⊢;refine aU ?_;refine aI (λh2=>?_) (λh2=>?_)
  case refine_2=>
   obtain rfl:n=i:=by have:=of_decide_eq_false h2;omega
   refine aE ?_;refine mD acx ?_;clear nw aa7 adg;have Th:gD bl r n=ox bl r:=by unfold gD ox;rw[hn,<-afN]
   have hwl:=Kl bl r n;obtain⟨akd,hM⟩:∃akd,akd=xj bl (gD bl r n):=⟨_,rfl⟩;have hMn:akd.Nodup:=by rw[hM];exact JA _ _
   have hMm:∀x∈akd,∃b:Nat,x=b/\l7 bl (ox bl r) b:=λx hx=>by
    rw[hM,Th]at hx;exact(FI hg).1 hx
   have hMl:akd.length<=100:=by
    rw[hM];unfold xj;rw[aF];exact du (jL _ _) (by rw[fA];omega)
   refine cZ (val:=λx:Option Addr×Nat=>.slice x.1 akd.length x.2) (akg:=λx=>[M x.1 akd.length x.2 3 1 (akd.map (U O))]) (φ:=λ_=>True) rfl (λw hw=>?_) λx _=>?_
   ·rw[hM]
    refine TS bl hg c_ I fa fc wa wc (gD bl r n) I (λx hx=>?_) w (GJ.le vH (Lq hw)) (hw.oH (k:=0) rfl rfl I λi x hx=>⟨[U O x],λj v hj=>by match j,hj with|0,hj=>simpa[hx]using hj,rfl,?_⟩)
    ·obtain⟨c,rfl,hc⟩:=OF hx
     exact⟨c,rfl,I⟩
    ·obtain⟨c,rfl,hc⟩:=OF (aq hx)
     exact⟨I,I⟩
   obtain⟨ma,mc⟩:=x;simp only[aW,aO];refine aH ?_;refine bL (λx:Nat×List aX=>x.1<=akd.length/\x.2.map aX.eR=nh bl r (akd.take x.1)/\∀b∈x.2,b.Bd) (λx=>[(61,U O x.1),(60,U O akd.length),(59,J ma akd.length mc),aj 7 p7,(26,U O r),(25,U O (R:Int)),(3,J fa bl.length fc),(4,J aa an ac),(5,J ia bl.length ic),(6,J oa bl.length oc),aj 1 p1,aj 2 p2]) (λx=>M ma akd.length mc 3 1 (akd.map (U O))::M wa (gD bl r n).length wc 3 1 ((gD bl r n).map (U O))::K p7 [U O (r:Int)] 3::K p1 [G xn,U O xp,U O (R:Int),J a n c] 35::K p2 [G aA,U O 0,U O 0,J A 0 0] 35::fS a c x.2) (λx=>akd.length-x.1) (0,ys) ⟨aT _,by simp only[List.take_zero];rw[Mq,xK],uf⟩ (aS ap aK) λx ⟨hj,GY,Tm⟩=>?_;clear xK uf LI;obtain⟨j,zs⟩:=x;simp only at hj GY Tm⊢;have LJ:zs.length=n:=by
    have h3:=congrArg List.length GY;rw[aF,uz]at h3;omega
   refine aU ?_;refine aI (λh2=>?_) (λh2=>?_)
   case refine_2=>
    obtain rfl:j=akd.length:=by have:=of_decide_eq_false h2;omega
    rw[cQ,Mp λb hb=>?_]at GY
    ·refine aE ?_
     refine bj (r+1,zs) ⟨Lz,GY,Tm⟩ bK ap aw
    ·rw[hM,Th]
     exact(FI hg).2 ⟨b,rfl,hb.1⟩
   have jw:j<akd.length:=ax h2;obtain⟨xb,BJ⟩:∃x,akd[j]?=Z x:=⟨_,a_ jw⟩;obtain⟨b,rfl,hmb⟩:=hMm xb (aq BJ);have Nh:b<bl.length:=hmb.lt hg;have Dl:akd.take (j+1)=akd.take j++[(b:Int)]:=by rw[cz,BJ];rfl
   have EJ:(b:Int)∉akd.take j:=λh=>by
    have h3:(akd.take j++[(b:Int)]).Nodup:=by rw[<-Dl];exact hMn.sublist (List.take_sublist _ _)
    exact(pI.1 h3).2.2 _ h _ aC rfl
   obtain⟨akh,hC⟩:=bf bl b Nh;have hB:=uy (r:=r) (here:=akd.take j) hC;rw[if_neg λh=>EJ h.2,cD]at hB;obtain⟨B,Y9⟩:∃B:E,B={akh with aD:=akh.aD++dg bl r b}:=⟨_,rfl⟩;rw[<-Y9]at hB;have aa4:kp B r=kp (aN bl b) r:=by rw[Y9,Bi,bQ hC]
   obtain⟨q,hq⟩:=bf QB b I;obtain⟨Er,Xh⟩:=rS b q hq;obtain⟨bit,aaL⟩:∃akj,q[r]?=Z akj:=⟨_,a_ I⟩;have I7:bit=true↔ik bl r b (-1):=by
    rw[<-Xh r];unfold has;rw[aaL];simp
   have Nt:need bl b r↔(bit=true/\kp B r=false):=by
    rw[I7,aa4];exact⟨λh=>⟨h.2.2,h.2.1⟩,λh=>⟨hmb,h.2,h.1⟩⟩
   refine fL 0 rfl I λmb mo Nr=>?_;subst Nr;have Lr:bY j akd.length:=⟨jw⟩;have aga:qy akd j (b:Int):=⟨BJ⟩;have ai2:bY b n:=⟨I⟩;have ai1:bY b bl.length:=⟨Nh⟩;have aja:bY r q.length:=⟨I⟩;refine fC (H1:=[M (Z ⟨mb,mo,A⟩) akd.length mc 3 1 (akd.map (U O)),M wa (gD bl r n).length wc 3 1 ((gD bl r n).map (U O)),K p7 [U O (r:Int)] 3,K p1 [G xn,U O xp,U O (R:Int),J a n c] 35,K p2 [G aA,U O 0,U O 0,J A 0 0] 35]++fS a c zs) rfl ?_;refine nZ λw3 Xu=>?_;have adh:aG (cd (cH [M (Z ⟨mb,mo,A⟩) akd.length mc 3 1 (akd.map (U O)),M wa (gD bl r n).length wc 3 1 ((gD bl r n).map (U O)),K p7 [U O (r:Int)] 3,K p1 [G xn,U O xp,U O (R:Int),J a n c] 35,K p2 [G aA,U O 0,U O 0,J A 0 0] 35]) w3) (J a n c) 6 (nh bl r (akd.take j)) ed:=by
    have:=Wd.blocks (H:=[]) (ba:=a) (bc:=c) (bs:=zs) (by rw[cD];exact Xu.kF) I Tm;rw[GY,LJ]at this;exact this
   have aer:aG (cd (cH [M (Z ⟨mb,mo,A⟩) akd.length mc 3 1 (akd.map (U O)),M wa (gD bl r n).length wc 3 1 ((gD bl r n).map (U O)),K p7 [U O (r:Int)] 3,K p1 [G xn,U O xp,U O (R:Int),J a n c] 35,K p2 [G aA,U O 0,U O 0,J A 0 0] 35]) w3) (J ia bl.length ic) 1 QB Ez:=hse.le TZ (lK (E1:=[M (Z ⟨mb,mo,A⟩) akd.length mc 3 1 (akd.map (U O)),M wa (gD bl r n).length wc 3 1 ((gD bl r n).map (U O)),K p7 [U O (r:Int)] 3,K p1 [G xn,U O xp,U O (R:Int),J a n c] 35,K p2 [G aA,U O 0,U O 0,J A 0 0] 35]) Xu);have Ru:∀{akg:List bN} {w:C},Wd (cH [M (Z ⟨mb,mo,A⟩) akd.length mc 3 1 (akd.map (U O)),M wa (gD bl r n).length wc 3 1 ((gD bl r n).map (U O)),K p7 [U O (r:Int)] 3,K p1 [G xn,U O xp,U O (R:Int),J a n c] 35,K p2 [G aA,U O 0,U O 0,J A 0 0] 35]) (cd (cH [M (Z ⟨mb,mo,A⟩) akd.length mc 3 1 (akd.map (U O)),M wa (gD bl r n).length wc 3 1 ((gD bl r n).map (U O)),K p7 [U O (r:Int)] 3,K p1 [G xn,U O xp,U O (R:Int),J a n c] 35,K p2 [G aA,U O 0,U O 0,J A 0 0] 35]) w3) akg w->Wd SK wk (akg++fS a c zs) w:=λhw=>Xu.comp hw.nk;have adI:∀{akg:List bN} {w:C},Wd (cH [M (Z ⟨mb,mo,A⟩) akd.length mc 3 1 (akd.map (U O)),M wa (gD bl r n).length wc 3 1 ((gD bl r n).map (U O)),K p7 [U O (r:Int)] 3,K p1 [G xn,U O xp,U O (R:Int),J a n c] 35,K p2 [G aA,U O 0,U O 0,J A 0 0] 35]) (cd (cH [M (Z ⟨mb,mo,A⟩) akd.length mc 3 1 (akd.map (U O)),M wa (gD bl r n).length wc 3 1 ((gD bl r n).map (U O)),K p7 [U O (r:Int)] 3,K p1 [G xn,U O xp,U O (R:Int),J a n c] 35,K p2 [G aA,U O 0,U O 0,J A 0 0] 35]) w3) akg w->kg (cd (cH [M (Z ⟨mb,mo,A⟩) akd.length mc 3 1 (akd.map (U O)),M wa (gD bl r n).length wc 3 1 ((gD bl r n).map (U O)),K p7 [U O (r:Int)] 3,K p1 [G xn,U O xp,U O (R:Int),J a n c] 35,K p2 [G aA,U O 0,U O 0,J A 0 0] 35]) w3) w:=λhw=>hw.pW;have xg:∀{b o:Nat} {v:V} {l:List V},bF (cd (cH [M (Z ⟨mb,mo,A⟩) akd.length mc 3 1 (akd.map (U O)),M wa (gD bl r n).length wc 3 1 ((gD bl r n).map (U O)),K p7 [U O (r:Int)] 3,K p1 [G xn,U O xp,U O (R:Int),J a n c] 35,K p2 [G aA,U O 0,U O 0,J A 0 0] 35]) w3) b o (v::l)->eS (cH [M (Z ⟨mb,mo,A⟩) akd.length mc 3 1 (akd.map (U O)),M wa (gD bl r n).length wc 3 1 ((gD bl r n).map (U O)),K p7 [U O (r:Int)] 3,K p1 [G xn,U O xp,U O (R:Int),J a n c] 35,K p2 [G aA,U O 0,U O 0,J A 0 0] 35]) b:=λhc=>iF hc aC;generalize cd (cH [M (Z ⟨mb,mo,A⟩) akd.length mc 3 1 (akd.map (U O)),M wa (gD bl r n).length wc 3 1 ((gD bl r n).map (U O)),K p7 [U O (r:Int)] 3,K p1 [G xn,U O xp,U O (R:Int),J a n c] 35,K p2 [G aA,U O 0,U O 0,J A 0 0] 35]) w3=wk3 at*;generalize cH [M (Z ⟨mb,mo,A⟩) akd.length mc 3 1 (akd.map (U O)),M wa (gD bl r n).length wc 3 1 ((gD bl r n).map (U O)),K p7 [U O (r:Int)] 3,K p1 [G xn,U O xp,U O (R:Int),J a n c] 35,K p2 [G aA,U O 0,U O 0,J A 0 0] 35]=S3 at*;obtain⟨b1,o1,IP,Db,wL⟩:=eE adh xg (λ_ _ h=>by obtain⟨_,_,_,e,_⟩:=h;exact⟨_,_,e⟩) (aL hB);obtain⟨_,IZ,pv,lv,tv,rfl,_,_,wj,lY,ht⟩:=wL b B hB;obtain⟨pa,pn,pc,_,_,rfl,_⟩:=id wj;obtain⟨xa,xm,xc,_,_,rfl,_⟩:=id lY;obtain⟨Oq,Ou,Ot,_,_,rfl,_⟩:=id ht;obtain⟨b2,o2,uR,nw,yW⟩:=eE aer xg (λ_ _ h=>by obtain⟨_,e,_⟩:=h;exact⟨_,_,e⟩) (aL hq)
   obtain⟨_,tX,qv,rfl,Nw⟩:=yW b q hq;obtain⟨qa,qn,qc,_,_,rfl,hqn,_⟩:=id Nw;subst hqn;obtain⟨b3,o3,Li,y6,C3⟩:=eE Nw xg (λ_ _ h=>⟨_,_,h⟩) (aL aaL);obtain⟨_,I0,rfl⟩:=C3 r bit aaL;refine aH ?_;refine jj mixed aR ?_;refine iH ?_;cases bit with
   |false=>
    have Da:=DJ (here:=akd.take j) λh:need bl b r=>by cases(Nt.1 h).1
    rw[<-Dl]at Da;refine iH ?_;refine aH ?_;refine mD Ru ?_;exact bj (j+1,zs) ⟨jw,by rw[Da];exact GY,Tm⟩ bK ap aK
   |true=>
    refine iH ?_;refine pu rfl (λw hw=>Ka B (r:Int) (J pa pn pc) (J xa xm xc) (J Oq Ou Ot) ⟨_,_,_,rfl⟩ ⟨_,_,_,rfl⟩ w (wj.le zd (adI hw))) ?_;cases hhp:kp B r with
    |true=>
     have Da:=DJ (here:=akd.take j) λh:need bl b r=>by rw[hhp]at Nt;cases(Nt.1 h).2
     rw[<-Dl]at Da;refine iH ?_;refine aH ?_;refine mD Ru ?_;exact bj (j+1,zs) ⟨jw,by rw[Da];exact GY,Tm⟩ bK ap aK
    |false=>
     have Ja:=Qe hC EJ (Nt.2 ⟨rfl,hhp⟩);rw[<-Dl]at Ja;refine iH ?_
     repeat(first|refine aE ?_|refine dZ λ_ _=>?_)
     refine mD Ru ?_;clear Db IZ nw tX y6 I0 IP uR Li adh aer adI xg Nw;rename_i lz _;obtain⟨T,hT⟩:=bf zs b I;have Zb:T.eR=B:=by
      have h3:(zs.map aX.eR)[b]?=Z T.eR:=by rw[aJ,hT];rfl
      rw[GY,hB]at h3;exact(a7 h3).symm
     have Bh:=Tm T (aq hT);have hCl:akh.aD.length<=800:=by
      have h3:akh.aD.length+akh.list.length<=eB bl:=by
       unfold eB;exact xO (aV.2 ⟨akh,aq hC,rfl⟩)
      omega
     have hTl:T.ps.length<=900:=by
      have h3:T.ps.length=B.aD.length:=by rw[<-Zb];unfold aX.eR;rw[aF]
      have h4:(dg bl r b).length<=r:=by
       unfold dg;rw[aF];exact du (jL _ _) (by rw[fA];exact bG _)
      rw[h3,Y9,bX];omega
     obtain⟨m,hm⟩:∃m,m=(aZ bl b).length:=⟨_,rfl⟩;have ahZ:m<=100:=by
      rw[hm];exact du (jL _ _) (by rw[fA];omega)
     obtain⟨l,hl⟩:∃l:List cg,l=List.replicate m ⟨true,(r:Int)⟩:=⟨_,rfl⟩;have Np:l.length=m:=by rw[hl,dm]
     have gr:=gu hg oZ Nh;obtain⟨IR,_⟩:=Pd.at;have zM:(be bl).length=bl.length:=by unfold be;rw[gv]
     rw[zM]at IR;have ai0:bY b an:=⟨I⟩;obtain⟨b1,o1,IP,Db,wL⟩:=eE Pd hold (λ_ _ h=>by obtain⟨_,e,_⟩:=h;exact⟨_,_,e⟩) (aL gr);obtain⟨_,IZ,rv,rfl,y7⟩:=wL b _ gr;obtain⟨ra,rn,rc,_,_,rfl,yj,_⟩:=id y7;rw[aF,<-hm]at yj;subst yj;refine oU (H':=[K lz [D true,U O (r:Int)] 41,M (Z ⟨mb,mo,A⟩) akd.length mc 3 1 (akd.map (U O)),M wa (gD bl r n).length wc 3 1 ((gD bl r n).map (U O)),K p7 [U O (r:Int)] 3,K p1 [G xn,U O xp,U O (R:Int),J a n c] 35,K p2 [G aA,U O 0,U O 0,J A 0 0] 35]++(M a zs.length c 46 6 (zs.flatMap bm)::M T.pa T.ps.length T.pc 49 2 (T.ps.flatMap cF)::vE T::pz T::(T.ps.map fP++(T.xs.map j1++(zs.eraseIdx b).map ck)))) (λw hw=>Ef hT (X:=[K lz [D true,U O (r:Int)] 41,M (Z ⟨mb,mo,A⟩) akd.length mc 3 1 (akd.map (U O)),M wa (gD bl r n).length wc 3 1 ((gD bl r n).map (U O)),K p7 [U O (r:Int)] 3,K p1 [G xn,U O xp,U O (R:Int),J a n c] 35,K p2 [G aA,U O 0,U O 0,J A 0 0] 35]) hw) ?_;simp only[aW,aO];refine fL 6 rfl I λvb vo oC=>?_;subst oC;have ai3:bY b zs.length:=⟨I⟩;have VR:∀Y,fy (M (Z ⟨vb,vo,A⟩) zs.length c 46 6 (zs.flatMap bm)::Y) vb (vo+b*6) (J T.pa T.ps.length T.pc):=λ_=>⟨λ_ _ _ hw=>hw.cL (k:=0) rfl (fB dX zs b T 0 _ hT rfl)⟩;obtain⟨nq,hnq⟩:∃nq:Nat->cW,nq=λra=>⟨(r:Int),Z ⟨ra,0,A⟩,l.length,l⟩:=⟨_,rfl⟩;have nK:∀na nc ra,mV (zs.flatMap bm) (b*6+0) (J na (T.ps++[nq ra]).length nc) ((zs.set b (se T na nc (T.ps++[nq ra]))).flatMap bm):=λna nc ra=>⟨by
      exact gN dX hT (k:=0) I (y:=se T na nc (T.ps++[nq ra])) rfl,by rw[cj dX];omega⟩
     have ZJ:∀(X0 X1 X2 X3 X4 X5 X6 X7 X8:bN) (Y:List bN),oI (X0::X1::X2::X3::X4::X5::X6::X7::X8::M (Z ⟨vb,vo,A⟩) zs.length c 46 6 (zs.flatMap bm)::Y) vb (vo+b*6) 9 vo (b*6+0) zs.length c 46 6 (zs.flatMap bm):=λ_ _ _ _ _ _ _ _ _ _=>⟨rfl,I⟩;have enq:∀ra,T.ps.flatMap cF++[U O (r:Int),J (Z ⟨ra,0,A⟩) l.length l.length]=(T.ps++[nq ra]).flatMap cF:=λra=>by rw[iD,hnq];rfl
     have enl:∀ra,T.ps.length+1=(T.ps++[nq ra]).length:=λra=>by rw[bX];rfl
     have abA:∀v1 (w:C),bF w v1 0 [D true,U O (r:Int)]->iC ae 104 [J (Z ⟨v1,0,A⟩) 1 1,U O rn] w λu w'=>∃a:Nat,u=J (Z ⟨a,0,A⟩) l.length l.length/\Wd cX w [M (Z ⟨a,0,A⟩) l.length l.length 41 2 (l.flatMap dB)] w'/\True:=λv1 w hc=>by
      have h3:=Qo v1 0 rn ⟨true,(r:Int)⟩ w hc I;rw[<-hl,<-Np]at h3;rw[<-Np];exact h3
     refine dQ [K lz [D true,U O (r:Int)] 41,K p7 [U O (r:Int)] 3,K p1 [G xn,U O xp,U O (R:Int),J (Z ⟨vb,vo,A⟩) n c] 35] (λ_:(Option Addr×Nat)×Nat=>True) (λ_=>[(61,U O j),(60,U O akd.length),(59,J (Z ⟨mb,mo,A⟩) akd.length mc),aj 7 p7,(26,U O r),(25,U O (R:Int)),(3,J fa bl.length fc),(4,J aa an ac),(5,J ia bl.length ic),(6,J oa bl.length oc),aj 1 p1,aj 2 p2]) (λy=>M (Z ⟨y.2,0,A⟩) l.length l.length 41 2 (l.flatMap dB)::M (Z ⟨mb,mo,A⟩) akd.length mc 3 1 (akd.map (U O))::M wa (gD bl r n).length wc 3 1 ((gD bl r n).map (U O))::K p7 [U O (r:Int)] 3::K p1 [G xn,U O xp,U O (R:Int),J (Z ⟨vb,vo,A⟩) n c] 35::K p2 [G aA,U O 0,U O 0,J A 0 0] 35::M (Z ⟨vb,vo,A⟩) zs.length c 46 6 ((zs.set b (se T y.1.1 y.1.2 (T.ps++[nq y.2]))).flatMap bm)::M y.1.1 (T.ps++[nq y.2]).length y.1.2 49 2 ((T.ps++[nq y.2]).flatMap cF)::vE T::pz T::(T.ps.map fP++(T.xs.map j1++(zs.eraseIdx b).map ck))) mixed aw ?_ λy _=>?_
     ·skip
      refine ag 0 ?_;refine ag 1 ?_;refine ag 2 ?_;refine ag 3 ?_;refine ag 4 ?_;refine ag 5 ?_;refine ag 6 ?_;refine ag 7 ?_;refine ag 9 ?_;refine ag 10 ?_;refine ag 12 ?_;refine ag 13 ?_;refine ag 14 ?_;refine ag 15 ?_;refine ag 16 ?_;refine lm 8 11 ai ?_ ?_
      ·skip
       refine fO 8 rfl aw ?_;refine cm 11 ai ?_;refine iP 11 rfl ai aw λv1 _=>?_;refine cm 17 ai ?_
       (refine kf 17 (val:=λa:Nat=>.slice (Z ⟨a,0,A⟩) l.length l.length) (akg:=λa=>[M (Z ⟨a,0,A⟩) l.length l.length 41 2 (l.flatMap dB)]) (φ:=λ_=>True) rfl aw (λw hw=>abA _ w λj v hj=>hw.cL (k:=0) (o:=0) (j:=j) rfl hj) λQ_ _=>?_;simp only[aW,aO])
       refine cm 18 ai ?_;refine fO 18 rfl aw ?_;refine cm 19 ai ?_;refine iP 19 rfl ai aw λnb _=>?_;refine kW 20 10 rfl rfl ai I I ai (λ_=>aw) λYg Yh=>?_;simp only[cG,bW];rw[enq,enl Q_];refine ag 21 ?_;refine ag 22 ?_;refine cm 23 ai ?_;refine mG 23 aw ?_;refine eA ai ?_;exact dS ((Yg,Yh),Q_) trivial ap aw
      ·skip
       refine iP 11 rfl ai aw λv1 _=>?_;refine lm 8 17 ai ?_ ?_
       ·skip
        refine fO 8 rfl aw ?_;refine cm 17 ai ?_
        (refine kf 17 (val:=λa:Nat=>.slice (Z ⟨a,0,A⟩) l.length l.length) (akg:=λa=>[M (Z ⟨a,0,A⟩) l.length l.length 41 2 (l.flatMap dB)]) (φ:=λ_=>True) rfl aw (λw hw=>abA _ w λj v hj=>hw.cL (k:=0) (o:=0) (j:=j) rfl hj) λQ_ _=>?_;simp only[aW,aO])
        refine cm 18 ai ?_;refine fO 18 rfl aw ?_;refine cm 19 ai ?_;refine iP 19 rfl ai aw λnb _=>?_;refine kW 20 10 rfl rfl ai I I ai (λ_=>aw) λYg Yh=>?_;simp only[cG,bW];rw[enq,enl Q_];refine ag 21 ?_;refine ag 22 ?_;refine cm 23 ai ?_;refine mG 23 aw ?_;refine eA ai ?_;exact dS ((Yg,Yh),Q_) trivial ap aw
       ·skip
        (refine kf 17 (val:=λa:Nat=>.slice (Z ⟨a,0,A⟩) l.length l.length) (akg:=λa=>[M (Z ⟨a,0,A⟩) l.length l.length 41 2 (l.flatMap dB)]) (φ:=λ_=>True) rfl aw (λw hw=>abA _ w λj v hj=>hw.cL (k:=0) (o:=0) (j:=j) rfl hj) λQ_ _=>?_;simp only[aW,aO])
        refine lm 8 18 ai ?_ ?_
        ·skip
         refine fO 8 rfl aw ?_;refine cm 18 ai ?_;refine fO 18 rfl aw ?_;refine cm 19 ai ?_;refine iP 19 rfl ai aw λnb _=>?_;refine kW 20 10 rfl rfl ai I I ai (λ_=>aw) λYg Yh=>?_;simp only[cG,bW];rw[enq,enl Q_];refine ag 21 ?_;refine ag 22 ?_;refine cm 23 ai ?_;refine mG 23 aw ?_;refine eA ai ?_;exact dS ((Yg,Yh),Q_) trivial ap aw
        ·skip
         refine fO 18 rfl aw ?_;refine lm 8 19 ai ?_ ?_
         ·skip
          refine fO 8 rfl aw ?_;refine cm 19 ai ?_;refine iP 19 rfl ai aw λnb _=>?_;refine kW 20 10 rfl rfl ai I I ai (λ_=>aw) λYg Yh=>?_;simp only[cG,bW];rw[enq,enl Q_];refine ag 21 ?_;refine ag 22 ?_;refine cm 23 ai ?_;refine mG 23 aw ?_;refine eA ai ?_;exact dS ((Yg,Yh),Q_) trivial ap aw
         ·skip
          refine iP 19 rfl ai aw λnb _=>?_;refine cm 8 ai ?_;refine fO 8 rfl aw ?_;refine kW 20 10 rfl rfl ai I I ai (λ_=>aw) λYg Yh=>?_;simp only[cG,bW];rw[enq,enl Q_];refine ag 21 ?_;refine ag 22 ?_;refine cm 23 ai ?_;refine mG 23 aw ?_;refine eA ai ?_;exact dS ((Yg,Yh),Q_) trivial ap aw
     obtain⟨⟨na,nc⟩,V0⟩:=y;simp only;obtain⟨T',Pa⟩:∃T',T'=se T na nc (T.ps++[nq V0]):=⟨_,rfl⟩;rw[<-Pa];refine oU (H':=M (Z ⟨mb,mo,A⟩) akd.length mc 3 1 (akd.map (U O))::M wa (gD bl r n).length wc 3 1 ((gD bl r n).map (U O))::K p7 [U O (r:Int)] 3::K p1 [G xn,U O xp,U O (R:Int),J (Z ⟨vb,vo,A⟩) n c] 35::K p2 [G aA,U O 0,U O 0,J A 0 0] 35::fS (Z ⟨vb,vo,A⟩) c (zs.set b T')) (λw hw=>?_) ?_
     ·have h4:Wd SK wk ([M (Z ⟨mb,mo,A⟩) akd.length mc 3 1 (akd.map (U O)),M wa (gD bl r n).length wc 3 1 ((gD bl r n).map (U O)),K p7 [U O (r:Int)] 3,K p1 [G xn,U O xp,U O (R:Int),J (Z ⟨vb,vo,A⟩) n c] 35,K p2 [G aA,U O 0,U O 0,J A 0 0] 35]++(M (Z ⟨vb,vo,A⟩) zs.length c 46 6 ((zs.set b (se T na nc (T.ps++[nq V0]))).flatMap bm)::M na (T.ps++[nq V0]).length nc 49 2 ((T.ps++[nq V0]).flatMap cF)::vE T::pz T::((T.ps++[nq V0]).map fP++(T.xs.map j1++(zs.eraseIdx b).map ck)))) w:=by
       rw[<-Pa];refine hw.perm (aP.2 λe=>?_);have e1:(T.ps++[nq V0]).map fP=T.ps.map fP++[M (Z ⟨V0,0,A⟩) l.length l.length 41 2 (l.flatMap dB)]:=by rw[bz,hnq];rfl
       rw[e1];simp only[bC,br,cq];omega
      have h5:=Vy hT h4;rw[<-Pa]at h5;exact h5
     have afu:T'.eR={akh with aD:=(akh.aD++dg bl r b)++[iI bl b r]}:=by
      rw[Pa];have h6:T.eR=⟨T.ps.map cW.kN,T.xs.map (·.x),T.kind,T.on,T.to⟩:=rfl;show(⟨(T.ps++[nq V0]).map cW.kN,T.xs.map (·.x),T.kind,T.on,T.to⟩:E)=_;rw[Zb,Y9]at h6;have h7:=congrArg E.aD h6;have h8:=congrArg E.list h6;have h9:=congrArg E.kind h6;have K9:=congrArg E.on h6;have Fi:=congrArg E.to h6;simp only at h7 h8 h9 K9 Fi;rw[bz,<-h7,<-h8,<-h9,<-K9,<-Fi,hnq];congr 1;rw[show iI bl b r=⟨r,l⟩ by rw[hl,hm];rfl]
      rfl
     refine aH ?_;refine bj (j+1,zs.set b T') ⟨jw,?_,λq hq=>?_⟩ bK ap aK
     ·simp only
      rw[Ja,eM,GY,afu]
     ·rcases kE hq with hq|rfl
      ·exact Tm q hq
      ·rw[Pa]
       refine⟨Bh.kind,Bh.on,by unfold se;simp only[bX,j_];omega,λp hp=>?_,Bh.list,Bh.ins,Bh.to⟩;unfold se at hp;simp only at hp;rcases bA.1 hp with hp|hp
       ·exact Bh.kN p hp
       ·rw[bR.1 hp,hnq]
        refine⟨⟨by simp only;omega,by simp only;omega⟩,by simp only;omega,λv hv=>?_⟩;simp only at hv;rw[hl]at hv;rw[jK hv];exact⟨by simp only;omega,by simp only;omega⟩
  have iJ:i<n:=ax h2;obtain⟨akh,hC⟩:=bf bl i I;have hB:=gG (m:=r) hC;obtain⟨B,Y9⟩:∃B:E,B={akh with aD:=akh.aD++dg bl r i}:=⟨_,rfl⟩;rw[<-Y9]at hB;have aa4:kp B r=kp akh r:=by rw[Y9];exact Bi
  have agE:B.list=akh.list:=by rw[Y9]
  have hws:kR (aN bl i) r=(B.list.any (λx=>decide (x.dst=(r:Int)))||kp B r):=by
   rw[bQ hC,aa4,agE]
   rfl
  have oe:=QZ bl r i;have hwl:=Kl bl r i;rw[hws]at oe;obtain⟨b1,o1,IP,Db,wL⟩:=eE adg nw (λ_ _ h=>by obtain⟨_,_,_,e,_⟩:=h;exact⟨_,_,e⟩) (aL hB);obtain⟨_,IZ,pv,lv,tv,rfl,_,_,wj,lY,ht⟩:=wL i B hB;have adM:bY i n:=⟨iJ⟩;obtain⟨pa,pn,pc,_,_,rfl,_⟩:=id wj;obtain⟨xa,xm,xc,_,_,rfl,_⟩:=id lY;obtain⟨Oq,Ou,Ot,_,_,rfl,_⟩:=id ht
  repeat(first|refine aE ?_|refine dZ λ_ _=>?_)
  rename_i EO _;refine bB rfl (λw hw=>Gr (f:=101) [ar (Z ⟨p7,0,A⟩)] (λx=>decide (x.dst=(r:Int))) (J xa xm xc) B.list w (lY.le JF (aa7 hw)) λw2 h2 x hx sv ny=>UB r p7 x sv ny w2 λj v hj=>?_) ?_
  ·have h3:w.cell? ⟨p7,0+j,A⟩=Z v:=hw.gL p7 j v hj
   exact fJ h2 h3
  have Pe:(decide (1<=i)&&(B.list.any (λx=>decide (x.dst=(r:Int)))||kp B r))=true->(gD bl r (i+1)).length=(gD bl r i).length+1/\(gD bl r (i+1)).map (U O)=(gD bl r i).map (U O)++[U O (i:Int)]:=λh=>by
   rw[oe,if_pos h,bX,bz];exact⟨rfl,rfl⟩
  have abi:(decide (1<=i)&&(B.list.any (λx=>decide (x.dst=(r:Int)))||kp B r))=false->gD bl r (i+1)=gD bl r i:=λh=>by
   rw[oe,h];simp
  refine aU ?_
  by_cases h0:i=0
  ·have e0:=abi (by rw[h0];rfl)
   rw[show decide ((0:Int)<(i:Int))=false by rw[h0];rfl];refine iL ?_;refine bj (i+1,wa,wc) iJ bK (by simp only[e0];exact ap) (by simp only[e0];exact .cons _ aK)
  rw[show decide ((0:Int)<(i:Int))=true by simp;omega];have h1i:decide (1<=i)=true:=by simp;omega
  rw[h1i,Bool.true_and]at Pe abi;cases ac7:B.list.any (λx=>decide (x.dst=(r:Int)))with
  |true=>
   obtain⟨e3,e4⟩:=Pe (by rw[ac7];rfl)
   repeat(first|refine iL ?_|refine dZ λ_ _=>?_)
   refine gU 2 rfl rfl ai I I λna nc=>?_;simp only[cG,bW];rw[<-e3,<-e4];refine aH ?_;exact bj (i+1,na,nc) iJ bK ap aw
  |false=>
   refine aE ?_;refine bB rfl (λw hw=>Ka B (r:Int) (J pa pn pc) (J xa xm xc) (J Oq Ou Ot) ⟨_,_,_,rfl⟩ ⟨_,_,_,rfl⟩ w (wj.le zd (aa7 hw))) ?_;cases hhp:kp B r with
   |true=>
    obtain⟨e3,e4⟩:=Pe (by rw[hhp,Bool.or_true])
    repeat(first|refine aE ?_|refine dZ λ_ _=>?_)
    refine gU 2 rfl rfl ai I I λna nc=>?_;simp only[cG,bW];rw[<-e3,<-e4];refine aH ?_;exact bj (i+1,na,nc) iJ bK ap aw
   |false=>
    have e0:=abi (by rw[ac7,hhp];rfl);refine aE ?_;refine bj (i+1,wa,wc) iJ bK (by simp only[e0];exact ap) (by simp only[e0];exact .cons _ aK)
section
section
variable {P:Program} {ro:Option Nat} {N:Nat} {ds:List Deferred} {S:Nat->Prop} {w0:C} {L:List (Nat×V)} {H Hr:List bN} {akd:Act->C->Prop} {l:List Oper} {bH:Nat} {listed:Array Bool} {x:Operand}
theorem lN{d ty f:Nat}(i:Nat){args:List Operand}{us vs xs:List V}{pA:Array Nat}{pos:String}{aft:Array Go.Edge}{u:V}[ho:dF l i ⟨Z d,.call {callee:=.value x,args:=args.toArray,argTypes:=pA},ty,pos,aft,A⟩][h:aQ P f][hx:AY L args vs][hf:Ev L x (.func (.func f) us.toArray xs.toArray)](hd:dy d N L=true)(hH:Hr.Sublist H)
  (hc:∀w,Wd S w0 H w->eP P f (us++vs++xs) w u)
  (k:aki N ds S w0 ((d,u)::L) H (wpAnyH P .any l.toArray (dK akd) (Wd S w0 Hr) bH (listed.setIfInBounds i true))):aki N ds S w0 L H (j5 P l akd (Wd S w0 Hr) bH listed i):=by
 intro a w hS;unfold j5 wpOp;rw[show l.toArray[i]?=Z ⟨Z d,.call {callee:=.value x,args:=args.toArray,argTypes:=pA},ty,pos,aft,A⟩ by simpa using ho.at'];simp only;rw[if_pos (show Region.wanted (⟨Z d,.call {callee:=.value x,args:=args.toArray,argTypes:=pA},ty,pos,aft,A⟩:Oper) (yielded l.toArray a.tmps)=true from rfl)]
 left
 unfold Oper.wp;have rp:(execOp a.eval ⟨Z d,.call {callee:=.value x,args:=args.toArray,argTypes:=pA},ty,pos,aft,A⟩).run P w=.ok (.enter f (us++vs++xs).toArray) w:=by
  simp[execOp,resolve,hf.eq _ _ _ hS.fr,Deferred.ofValue,invoke,hx.eq _ _ _ hS.fr,h.run]
 rw[rp];refine Calls.mono (callsIn_wide.1 (hc w hS.wd)) λe w' ⟨v,he,hv,hR⟩=>?_;subst he;subst hv;exact⟨(hS.wd.call hR).sub hH,k _ _ ⟨hS.fr.eo hd v,hS.wd.call hR⟩⟩
theorem Ug{d ty T:Nat}{v:V}{cs:List V}{pos:String}{aft:Array Go.Edge}(i0:Nat)[ho:dF l i0 ⟨Z d,.box T x,ty,pos,aft,A⟩][hx:Ev L x v][hv:iB v cs](hd:dy d N L=true)(hH:Hr.Sublist H)
  (k:∀b,w0.heap.size<=b->aki N ds S w0 (aj d b::L) (K b cs T::H) (wpAnyH P .any l.toArray (dK akd) (Wd S w0 Hr) bH (listed.setIfInBounds i0 true))):aki N ds S w0 L H (j5 P l akd (Wd S w0 Hr) bH listed i0):=
 vL i0 rfl λa w hS=>by
  have hv:=hS.wd.box cs T;have e:cs.toArray=v.cells:=by rw[<-‹iB v cs›.eq]
  rw[e]at hv;exact⟨ar (Z ⟨w.heap.size,0,A⟩),w.alloc (.cells v.cells T),by simp[execOp,hx.eq _ _ _ hS.fr,Instr.box,newVar,newRow],hv.sub (hH.trans (dR _ _)),k _ hS.wd.size _ _ ⟨hS.fr.eo hd _,hv⟩⟩
end
instance Z1(b off:Nat)(cs:List V)(x:bN)(H:List bN)[h:gQ H b off cs]:gQ (x::H) b off cs:=⟨λS w0 w hw=>h.eq S w0 w (hw.sub (dR _ _))⟩
def fF{α:Type}(g:Nat->α->α)(i:Nat)(l:List α):List α:=l.mapIdx λj x=>if j<i then g j x else x
section
variable {α:Type} {g:Nat->α->α} {l:List α}
theorem l6(i:Nat):(fF g i l).length=l.length:=by simp[fF]
theorem uI:fF g 0 l=l:=by
 unfold fF;apply ci;intro j;rw[cf];cases l[j]?<;>simp
theorem tG:fF g l.length l=l.mapIdx g:=by
 unfold fF;refine jk λj x hx=>if_pos (az.1 hx).1
theorem pD{i j:Nat}{x:α}(h:l[j]?=Z x):(fF g i l)[j]?=Z (if j<i then g j x else x):=by
 unfold fF;rw[cf,h]
 rfl
theorem zJ{i:Nat}{x:α}(h:l[i]?=Z x):(fF g i l)[i]?=Z x:=by rw[pD h,if_neg I]
theorem wF{i:Nat}{x:α}(h:l[i]?=Z x):(fF g i l).set i (g i x)=fF g (i+1) l:=by
 apply ci;intro j
 by_cases e:i=j
 ·subst e
  rw[eK (by rw[l6];exact(az.1 h).1),pD h,if_pos I]
 ·rw[fz e]
  cases hj:l[j]? with
  |none=>
   have:=kD.1 hj;rw[bO (by rw[l6];exact this),bO (by rw[l6];exact this)]
  |some y=>
   rw[pD hj,pD hj]
   by_cases h1:j<i
   ·rw[if_pos h1,if_pos I]
   ·rw[if_neg h1,if_neg I]
theorem QV{β:Type}(f:α->β)(h:∀j x,f (g j x)=f x)(i:Nat):(fF g i l).map f=l.map f:=by
 apply ci;intro j;rw[aJ,aJ];cases hj:l[j]? with
 |none=>rw[bO (by rw[l6];exact kD.1 hj)]
 |some y=>
  rw[pD hj]
  by_cases h1:j<i
  ·rw[if_pos h1,bu,bu,h]
  ·rw[if_neg h1]
end
noncomputable def gg(bl:List E)(ake:List Nat):Nat:=(ake.map λb=>sx (aN bl b)).sum
theorem CA(bl:List E)(ake W:List Nat):gg bl (ake++W)=gg bl ake+gg bl W:=by unfold gg;rw[bz,List.sum_append]
theorem Il(bl:List E)(b:Nat):gg bl [b]=sx (aN bl b):=by simp[gg]
theorem xq{b:Nat}:∀{ake W:List Nat},b∉ake->(ake++b::W).takeWhile (λc=>decide (c≠b))=ake
 |[],W,_=>by simp
 |x::ake,W,h=>by
  have h1:x≠b:=λe=>h (e▸tM);rw[aW,q7 (ax h1),xq λh2=>h (cO _ h2)]
theorem abR{bl:List E}{n b k:Nat}{ake W:List Nat}(ho:sH bl=ake++b::W)(hb:b∉ake):mT bl n b k=((n+gg bl ake+N8 (aN bl b) k:Nat):Int):=by
 unfold mT num oK;rw[ho,xq hb]
 rfl
theorem N9{B:E}{i:Nat}(h:i<B.aD.length):N8 B i=i:=by unfold N8;rw[if_pos h]
theorem Ym(B:E)(k:Nat):N8 B (B.aD.length+k)=B.aD.length+((B.list.take k).filter ET).length:=by
 unfold N8;rw[if_neg I,lE]
section
variable {ν:Nat->Nat->Int} {bl:List E} {n:Nat} {ake:List Nat} {b:Nat}
noncomputable def Bq(ν:Nat->Nat->Int)(b:Nat):Nat->cW->cW:=λi p=>⟨ν b i,p.a,p.c,p.l⟩
noncomputable def xL(ν:Nat->Nat->Int)(bl:List E)(n b:Nat):Nat->jG->jG:=λk u=>⟨iR ν bl n b k u.x,u.a,u.c⟩
noncomputable def RD(ν:Nat->Nat->Int)(bl:List E)(n b akc:Nat):Nat->cW->cW:=λ_ p=>⟨p.dst,p.a,p.c,p.l.set akc (k7 ν bl n b (aN bl b).list.length (p.l.getD akc iu))⟩
noncomputable def J0(ν:Nat->Nat->Int)(bl:List E)(n b:Nat)(T:aX):aX:={T with ps:=T.ps.mapIdx (Bq ν b),xs:=T.xs.mapIdx (xL ν bl n b),on:=k7 ν bl n b (aN bl b).list.length T.on}
noncomputable def Qt(ν:Nat->Nat->Int)(bl:List E)(n b akc:Nat)(T:aX):aX:={T with ps:=T.ps.mapIdx (RD ν bl n b akc)}
theorem UP{B:E}{T:aX}(hB:bl[b]?=Z B)(hb:b∉ake)(hT:T.eR=rP ν bl n (ww bl ake) b B):(J0 ν bl n b T).eR=rP ν bl n (oD bl ake b []) b B:=by
 obtain⟨h1,h2,h3,h4,h5⟩:=NK (ν:=ν) (n:=n) hb B;obtain⟨h6,h7⟩:=TY (ν:=ν) (n:=n) (ake:=ake) (b:=b) (bl:=bl) B;rw[<-hT]at h1 h2 h3 h4;have e1:(T.ps.mapIdx (Bq ν b)).map cW.kN=(rP ν bl n (oD bl ake b []) b B).aD:=by
  rw[nf];apply ci;intro i;rw[cf];have Fq:(rP ν bl n (oD bl ake b []) b B).aD.length=T.ps.length:=by
   have h8:=congrArg (λx:E=>x.aD.length) hT;simp only[aX.eR,aF]at h8;rw[h8];show(B.aD.mapIdx _).length=(B.aD.mapIdx _).length;rw[iW,iW]
  cases hp:T.ps[i]? with
  |none=>rw[bO (by rw[Fq];exact kD.1 hp)];rfl
  |some p=>
   have hq:(rP ν bl n (ww bl ake) b B).aD[i]?=Z p.kN:=by
    rw[<-hT];show(T.ps.map cW.kN)[i]?=_;rw[aJ,hp]
    rfl
   rw[XR hq]
   rfl
 have e2:(T.xs.mapIdx (xL ν bl n b)).map (·.x)=(rP ν bl n (oD bl ake b []) b B).list:=by
  rw[nf,h6,<-h1];show _=(T.xs.map (·.x)).mapIdx _;apply ci;intro i;rw[cf,cf,aJ];cases T.xs[i]?<;>rfl
 show(⟨(T.ps.mapIdx (Bq ν b)).map cW.kN,(T.xs.mapIdx (xL ν bl n b)).map (·.x),T.kind,k7 ν bl n b (aN bl b).list.length T.on,T.to⟩:E)=_;rw[e1,e2];have e3:T.kind=(rP ν bl n (oD bl ake b []) b B).kind:=h4;have e4:T.to=(rP ν bl n (oD bl ake b []) b B).to:=h3;have e5:k7 ν bl n b (aN bl b).list.length T.on=(rP ν bl n (oD bl ake b []) b B).on:=by
  rw[h7,bQ hB];rw[show T.on=B.on from h2]
 rw[e3,e4,e5]
theorem UR{t akc:Nat}{akh:E}{akf:List Int}{T:aX}(hC:bl[t]?=Z akh)(hb:b∉ake)(ht:(t:Int)∉akf)(hK:(aZ bl t)[akc]?=Z b)(oZ:∀j,(aZ bl t)[j]?=Z b->j=akc)(hT:T.eR=rP ν bl n (oD bl ake b akf) t akh)(hl:∀p∈akh.aD,akc<p.src.length):
  (Qt ν bl n b akc T).eR=rP ν bl n (oD bl ake b (akf++[(t:Int)])) t akh:=by
 have uV:Mu bl t akc=b:=by unfold Mu;rw[hK];rfl
 have e1:(T.ps.mapIdx (RD ν bl n b akc)).map cW.kN=(rP ν bl n (oD bl ake b (akf++[(t:Int)])) t akh).aD:=by
  rw[nf];apply ci;intro i;rw[cf];have Fq:akh.aD.length=T.ps.length:=by
   have h8:=congrArg (λx:E=>x.aD.length) hT;simp only[aX.eR,aF]at h8;rw[h8];show _=(akh.aD.mapIdx _).length;rw[iW]
  cases hp:T.ps[i]? with
  |none=>
   rw[bO (by
    show(akh.aD.mapIdx _).length<=i;rw[iW,Fq];exact kD.1 hp)]
   rfl
  |some p=>
   have hq:(rP ν bl n (oD bl ake b akf) t akh).aD[i]?=Z p.kN:=by
    rw[<-hT];show(T.ps.map cW.kN)[i]?=_;rw[aJ,hp]
    rfl
   obtain⟨c,hc⟩:∃c,akh.aD[i]?=Z c:=⟨_,a_ (by rw[Fq];exact(az.1 hp).1)⟩;obtain⟨v,_,h2,_,h3⟩:=JE hc hb ht hK oZ hq (hl c (aq hc));have xE:p.l[akc]?=Z v:=h2;rw[h3];show Z (cW.kN (RD ν bl n b akc i p))=Z ⟨p.kN.dst,p.kN.src.set akc (uF ν bl n t akc v)⟩;congr 1;show(⟨p.dst,p.l.set akc (k7 ν bl n b (aN bl b).list.length (p.l.getD akc iu))⟩:ep)=⟨p.dst,p.l.set akc (uF ν bl n t akc v)⟩;rw[show p.l.getD akc iu=v by rw[cB,xE];rfl];unfold uF;rw[uV]
 have h1:=congrArg E.list hT;have h2:=congrArg E.kind hT;have h3:=congrArg E.on hT;have h4:=congrArg E.to hT;show(⟨(T.ps.mapIdx (RD ν bl n b akc)).map cW.kN,T.xs.map (·.x),T.kind,T.on,T.to⟩:E)=_;rw[e1];have GG:T.xs.map (·.x)=(rP ν bl n (oD bl ake b (akf++[(t:Int)])) t akh).list:=h1;have xE:T.kind=(rP ν bl n (oD bl ake b (akf++[(t:Int)])) t akh).kind:=h2;have sY:T.on=(rP ν bl n (oD bl ake b (akf++[(t:Int)])) t akh).on:=h3;have h4':T.to=(rP ν bl n (oD bl ake b (akf++[(t:Int)])) t akh).to:=h4;rw[GG,xE,sY,h4']
theorem OA{F aki:Mk}{b:Nat}{B akh:E}(hB:bl[b]?=Z B)(hC:akh=rP ν bl n aki b B)(ho:∀c akf,c≠b->rP ν bl n aki c akf=rP ν bl n F c akf):(Ex ν bl n F).set b akh=Ex ν bl n aki:=by
 apply ci;intro i
 by_cases e:b=i
 ·subst e
  rw[eK (by rw[zL];exact(az.1 hB).1),zK hB,hC]
 ·rw[fz e]
  cases h:bl[i]? with
  |none=>
   have:=kD.1 h;rw[bO (by rw[zL];exact this),bO (by rw[zL];exact this)]
  |some akf=>rw[zK h,zK h,ho i akf λh=>e h.symm]
theorem Ud{R i:Nat}{v:cg}(hv:jb R v):Mf (eF R (nm ν bl n b i)) v=k7 ν bl n b i v:=by
 unfold Mf k7
 by_cases h:v.z=true
 ·rw[if_pos h,if_pos h]
  obtain⟨h1,h2⟩:=hv h;rw[cB,vN I];simp only[dW];congr 1;omega
 ·rw[if_neg h,if_neg h]
theorem Wq{c:Nat}(hc:c∈oh bl b):BT ν bl n c=nm ν bl n b (aN bl b).list.length:=by
 have h2:cS bl c=(b:Int):=by unfold oh at hc;simpa using(cC.1 hc).2
 funext r
 unfold BT;rw[h2,if_neg I,dO]
end
theorem Ol{α:Type}{u v:α}:∀{L:List α} {j:Nat},j+2<=L.length->L.take j++[u,v]++L.drop (j+2)=(L.set j u).set (j+1) v
 |x::y::L,0,_=>by simp
 |x::L,j+1,h=>by
  have h1:=Ol (u:=u) (v:=v) (L:=L) (j:=j) (by simp only[gk]at h;omega);rw[List.take_succ_cons,cG,cG,<-h1];simp
theorem Vz{S:Nat->Prop}{w0 w:C}{X:List bN}{a:Option Addr}{c t:Nat}{zs:List aX}{T T':aX}(hT:zs[t]?=Z T)
  (h:Wd S w0 (X++(M a zs.length c 46 6 ((zs.set t T').flatMap bm)::(jM T'++(zs.eraseIdx t).map ck))) w):Wd S w0 (X++fS a c (zs.set t T')) w:=by
 have zP:=(az.1 hT).1;have h2:Wd S w0 (jM T'++(X++(M a zs.length c 46 6 ((zs.set t T').flatMap bm)::(zs.eraseIdx t).map ck))) w:=by
  refine h.perm ?_
  classical
  refine aP.2 λe=>?_;simp only[bC,br];omega
 refine(Wd.join h2).perm ?_;have h5:=jl ck (l:=zs.set t T') (k:=t) (x:=T') (eK zP);rw[qA]at h5;unfold fS;rw[eL]
 classical
 refine aP.2 λe=>?_;have h7:=aP.1 h5 e;simp only[bC,br,ck]at h7⊢;omega
theorem Bn{α β:Type}{g:Nat->α->α}(f:α->β)(h:∀j x,f (g j x)=f x)(l:List α):(l.mapIdx g).map f=l.map f:=by rw[<-tG];exact QV f h _
theorem Gw{α β:Type}{g:Nat->α->α}(f:α->List β)(h:∀j x,f (g j x)=f x)(l:List α):(l.mapIdx g).flatMap f=l.flatMap f:=by
 rw[qB,qB,Bn f h]
end
end
end Go.Proofs.YthfhgolkafpmnaaGreatDoor
