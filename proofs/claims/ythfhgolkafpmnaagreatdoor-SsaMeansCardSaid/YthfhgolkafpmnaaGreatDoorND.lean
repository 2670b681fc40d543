/- Texts joined: SsaE SsaM. -/
import Derived.Test.YthfhgolkafpmnaaGreatDoorNC
namespace Go.Proofs.YthfhgolkafpmnaaGreatDoor
open Go.Value renaming int->U,slice->J,pointer->ar,string->G,bool->D,agg->au
open Go.IntKind renaming i64->O
open Option renaming some->Z,none->A
open Go renaming Value->V,World->C
open Go.Proofs.Tryz
open Go.Proofs.Tryz renaming prog->ae
open Go Go.RowKit
section
set_option maxHeartbeats 8000000
attribute [local irreducible] wpListIn Code.wpIn Exit.then Exit.inBlock bodyPost wpQuiet wpAnyIn wpAnyH bodyPostM j5
section
section
variable {P:Program} {N:Nat} {ds:List Deferred} {S:Nat->Prop} {w0:C} {L L':List (Nat×V)} {H H' Hr:List bN} {Q:Exit->Act->C->Prop} {x y:Operand} {akd:Act->C->Prop} {l:List Oper} {bH:Nat} {listed:Array Bool}
theorem Z0{d ty T:Nat}{v:V}{cs:List V}{pos:String}{aft:Array Go.Edge}(i0:Nat)[ho:dF l i0 ⟨Z d,.box T x,ty,pos,aft,A⟩][hx:Ev L x v][hv:iB v cs](hd:dy d N L=true)(hH:Hr.Sublist H)
  (k:∀b,w0.heap.size<=b->aki N ds S w0 (aj d b::L) (K b cs T::H) (wpAnyH P .any l.toArray (dK akd) (Wd S w0 Hr) bH (listed.setIfInBounds i0 true))):aki N ds S w0 L H (j5 P l akd (Wd S w0 Hr) bH listed i0):=
 vL i0 rfl λa w hS=>by
  have hv:=hS.wd.box cs T;have e:cs.toArray=v.cells:=by rw[<-‹iB v cs›.eq]
  rw[e]at hv;exact⟨ar (Z ⟨w.heap.size,0,A⟩),w.alloc (.cells v.cells T),by simp[execOp,hx.eq _ _ _ hS.fr,Instr.box,newVar,newRow],hv.sub (hH.trans (dR _ _)),k _ hS.wd.size _ _ ⟨hS.fr.eo hd _,hv⟩⟩
end
theorem JT{bl:List E}(cY:cT bl)(h0:0<bl.length):(fx bl).length<bl.length↔∃b,b<bl.length/\¬gH bl (-1) 0 b:=by
 have oZ:=(FP cY h0).1;constructor
 ·intro h
  refine Classical.byContradiction λhn=>?_;have h1:∀b,b<bl.length->b∈fx bl:=λb hb=>(tu cY h0).2 (Classical.byContradiction λh2=>hn ⟨b,hb,h2⟩);have h2:(List.range bl.length).Perm (fx bl):=(sO qE oZ).2 λx=>by
   rw[cM];exact⟨h1 x,λhx=>JS cY h0 hx⟩
  have h3:=h2.length_eq;rw[fA]at h3;omega
 ·rintro⟨b,hb,hn⟩
  have h1:(b::fx bl).Nodup:=mO.2 ⟨λhm=>hn ((tu cY h0).1 hm),oZ⟩;have h2:=wx bl.length _ h1 λx hx=>by
   rcases bD.1 hx with rfl|hx
   ·exact hb
   ·exact JS cY h0 hx
  rw[gk]at h2;omega
theorem OY(nm:ByteArray)(n R:Nat)(bl:List E)(bs:V)(w0:C)(m_:aG w0 bs 6 bl ed)(hn:n<=R)(hR:R<=100)(hf:fu R bl)(hlen:bl.length<=100)(c_:0<bl.length)(hls:∀B∈bl,∀x∈B.list,x.args.length<=100000):
  eP ae 55 [au #[G nm,U O (n:Int),U O (R:Int),bs]] w0 (U O (vS n R bl)):=by
 classical
 have cY:=hf.iM;have ii:=λb B hB=>(hf.block b B hB).to;have uT:=m_;obtain⟨ba,bn,bc,_,_,rfl,pR,_⟩:=m_;refine aM func55 rfl ntmps55 rfl (Wd.nil cX w0) ?_
 repeat(first|refine aU ?_|refine dZ λ_ _=>?_)
 rename_i p1 _;refine dQ [K p1 [G nm,U O (n:Int),U O (R:Int),J ba bn bc] 35] (λ_:Nat×Nat×Nat=>True) (λx=>[aj 3 x.1,(2,U O 0),aj 1 p1]) (λx=>[(λx:Nat×Nat×Nat=>K x.1 [G nm,U O (n:Int),U O (R:Int),J ba bn bc,J (Z ⟨x.2.1,0,A⟩) bl.length bl.length,J (Z ⟨x.2.2,0,A⟩) R R] 131) x,(λa:Nat=>M (Z ⟨a,0,A⟩) R R 129 2 ((List.replicate R ((-1:Int),(-1:Int))).flatMap rN)) x.2.2,(λa:Nat=>M (Z ⟨a,0,A⟩) bl.length bl.length 3 1 (((List.range bl.length).map (cS bl)).map (U O))) x.2.1,K p1 [G nm,U O (n:Int),U O (R:Int),J ba bn bc] 35]) mixed aK ?_ λx _=>?_
 ·skip
  refine c8 0 rfl ai dU ?_;refine c8 1 rfl ai dU ?_;refine c8 3 rfl ai dU ?_;refine c8 5 rfl ai dU ?_;refine c8 6 rfl ai dU ?_;refine lm 2 4 ai ?_ ?_
  ·skip
   (refine kf 2 (val:=λa:Nat=>.slice (Z ⟨a,0,A⟩) bl.length bl.length) (akg:=λa=>[(λa:Nat=>M (Z ⟨a,0,A⟩) bl.length bl.length 3 1 (((List.range bl.length).map (cS bl)).map (U O))) a]) (φ:=λ_=>True) rfl dU (λw hw=>zH _ _ _ bl _ ⟨_,_,_,rfl⟩ w (uT.bZ dH hw.ch) hlen cY ii c_) λua _=>?_;simp only[aW,aO])
   refine cm 4 ai ?_;refine iP 4 rfl ai dU λq _=>?_;refine cm 7 ai ?_
   (refine kf 7 (val:=λa:Nat=>.slice (Z ⟨a,0,A⟩) R R) (akg:=λa=>[(λa:Nat=>M (Z ⟨a,0,A⟩) R R 129 2 ((List.replicate R ((-1:Int),(-1:Int))).flatMap rN)) a]) (φ:=λ_=>True) rfl dU (λw hw=>FV q 0 R ((-1:Int),(-1:Int)) w (λj v hj=>by first|exact hw.cL (k:=0) rfl hj|exact hw.cL (k:=1) rfl hj) I) λb0 _=>?_;simp only[aW,aO])
   refine c8 8 rfl ai dU ?_;refine cm 9 ai (Z0 9 rfl dU λpc _=>?_);refine c8 10 rfl ai dU ?_;refine eA ai ?_;exact dS (pc,ua,b0) trivial ap aw
  ·skip
   refine iP 4 rfl ai dU λq _=>?_;refine cm 2 ai ?_
   (refine kf 2 (val:=λa:Nat=>.slice (Z ⟨a,0,A⟩) bl.length bl.length) (akg:=λa=>[(λa:Nat=>M (Z ⟨a,0,A⟩) bl.length bl.length 3 1 (((List.range bl.length).map (cS bl)).map (U O))) a]) (φ:=λ_=>True) rfl dU (λw hw=>zH _ _ _ bl _ ⟨_,_,_,rfl⟩ w (uT.bZ dH hw.ch) hlen cY ii c_) λua _=>?_;simp only[aW,aO])
   refine cm 7 ai ?_
   (refine kf 7 (val:=λa:Nat=>.slice (Z ⟨a,0,A⟩) R R) (akg:=λa=>[(λa:Nat=>M (Z ⟨a,0,A⟩) R R 129 2 ((List.replicate R ((-1:Int),(-1:Int))).flatMap rN)) a]) (φ:=λ_=>True) rfl dU (λw hw=>FV q 0 R ((-1:Int),(-1:Int)) w (λj v hj=>by first|exact hw.cL (k:=0) rfl hj|exact hw.cL (k:=1) rfl hj) I) λb0 _=>?_;simp only[aW,aO])
   refine c8 8 rfl ai dU ?_;refine cm 9 ai (Z0 9 rfl dU λpc _=>?_);refine c8 10 rfl ai dU ?_;refine eA ai ?_;exact dS (pc,ua,b0) trivial ap aw
 obtain⟨pc,ua,b0⟩:=x;simp only;refine aH ?_;refine dQ [K p1 [G nm,U O (n:Int),U O (R:Int),J ba bn bc] 35] (λ_:Unit=>True) (λ_=>[(14,D (decide ((fx bl).length<bl.length))),aj 3 pc,(2,U O 0),aj 1 p1]) (λ_=>[(λx:Nat×Nat×Nat=>K x.1 [G nm,U O (n:Int),U O (R:Int),J ba bn bc,J (Z ⟨x.2.1,0,A⟩) bl.length bl.length,J (Z ⟨x.2.2,0,A⟩) R R] 131) (pc,ua,b0),(λa:Nat=>M (Z ⟨a,0,A⟩) R R 129 2 ((List.replicate R ((-1:Int),(-1:Int))).flatMap rN)) b0,(λa:Nat=>M (Z ⟨a,0,A⟩) bl.length bl.length 3 1 (((List.range bl.length).map (cS bl)).map (U O))) ua,K p1 [G nm,U O (n:Int),U O (R:Int),J ba bn bc] 35]) mixed dU ?_ λ_ _=>?_
 ·skip
  refine c8 0 rfl ai dU ?_;refine c8 3 rfl ai dU ?_;refine c8 4 rfl ai dU ?_;refine c8 5 rfl ai dU ?_;refine yT 1 (val:=λx:Option Addr×Nat=>.slice x.1 (fx bl).length x.2) (akg:=λx=>[M x.1 (fx bl).length x.2 3 1 ((fx bl).map iO)]) (φ:=λ_=>True) rfl ai dU (λw hw=>Bg _ _ _ bl _ w (uT.bZ dH hw.ch) hlen cY c_) λy _=>?_;simp only[aW,aO];refine c8 2 rfl ai dU ?_;refine c8 6 rfl ai dU ?_;refine c8 7 rfl ai dU ?_;refine eA ai ?_;rw[show(decide (((fx bl).length:Int)<(bn:Int)))=decide ((fx bl).length<bl.length) by rw[decide_eq_decide];omega];exact dS () trivial ap aw
 by_cases hp:(fx bl).length<bl.length
 ·rw[decide_eq_true hp,show vS n R bl=5 from if_pos ((JT cY c_).1 hp)]
  refine aE ?_;exact bP rfl rfl
 rw[decide_eq_false hp];have adW:¬∃b,b<bl.length/\¬gH bl (-1) 0 b:=λh=>hp ((JT cY c_).2 h);have GO:∀b,b<bl.length->gH bl (-1) 0 b:=λb hb=>Classical.byContradiction λh=>adW ⟨b,hb,h⟩;have hw5:vS n R bl=if lh (u9 n bl) R=false then 7 else if¬tJ bl (u9 n bl)then 6 else 0:=if_neg adW
 rw[hw5];refine aH ?_;refine fC (H1:=[K pc [G nm,U O (n:Int),U O (R:Int),J ba bn bc,J (Z ⟨ua,0,A⟩) bl.length bl.length,J (Z ⟨b0,0,A⟩) R R] 131,(λW:List Wr=>M (Z ⟨b0,0,A⟩) R R 129 2 ((eU W R).flatMap rN)) []]++[(λa:Nat=>M (Z ⟨a,0,A⟩) bl.length bl.length 3 1 (((List.range bl.length).map (cS bl)).map (U O))) ua,K p1 [G nm,U O (n:Int),U O (R:Int),J ba bn bc] 35]) (by simp only[KI];rfl) ?_;refine iX (val:=λ_:Unit=>.bool (lh (u9 n bl) R)) (akg:=λ_=>[K pc [G nm,U O (n:Int),U O (R:Int),J ba bn bc,J (Z ⟨ua,0,A⟩) bl.length bl.length,J (Z ⟨b0,0,A⟩) R R] 131,(λW:List Wr=>M (Z ⟨b0,0,A⟩) R R 129 2 ((eU W R).flatMap rN)) (u9 n bl)]) (φ:=λ_=>True) (yD w0) rfl (λwz w e_ hle _ hw=>VB pc b0 R n (G nm) bl (J ba bn bc) (J (Z ⟨ua,0,A⟩) bl.length bl.length) hn hR hlen hf wz w e_ (uT.le xQ hle) hw) λ_ _=>?_;simp only[aW,aO];cases ho:lh (u9 n bl) R with
 |false=>
  rw[if_pos rfl];refine aE ?_;exact bP rfl rfl
 |true=>
  rw[if_neg aC];refine aH ?_;refine bB rfl (λw hw=>QM pc R n (G nm) bl (u9 n bl) (J ba bn bc) (J (Z ⟨ua,0,A⟩) bl.length bl.length) (J (Z ⟨b0,0,A⟩) R R) w ⟨λj v hj=>hw.gL pc j v hj,uT.bZ dH hw.ch,Kf hw (k:=2) rfl rfl cY c_ hlen,hw.oH (k:=1) rfl (kH _ _).symm I λi x hx=>⟨rN x,λj v hj=>fB Ce _ i x j v hx hj,rfl⟩⟩ hf hlen c_ hR GO hls) ?_
  by_cases hu:tJ bl (u9 n bl)
  ·rw[decide_eq_true hu,if_neg (by simp[hu])]
   refine aH ?_;exact bP rfl rfl
  ·rw[decide_eq_false hu,if_pos hu]
   refine aE ?_;exact bP rfl rfl
noncomputable def pE(X:aY):Int:=vS X.params.toNat X.aB.toNat X.blocks
noncomputable def D3(l:List aY)(k:Nat):Int×Int:=match l with
 |[]=>(0,0)
 |X::l=>if pE X≠0 then(pE X,(k:Int))else D3 l (k+1)
noncomputable def QK(u:a8):Int×Int:=if (dA u).1≠0 then dA u else D3 u.funcs 0
theorem AM{l:List aY}{k:Nat}(hk:k<=l.length)(h:∀j X,j<k->l[j]?=Z X->pE X=0):D3 l 0=D3 (l.drop k) k:=by
 have key:∀(k:Nat) (l:List aY) (i:Nat),k<=l.length->(∀j X,j<k->l[j]?=Z X->pE X=0)->D3 l i=D3 (l.drop k) (i+k):=by
  intro k
  induction k with
  |zero=>intro l i _ _;rfl
  |succ k ih=>
   intro l i hk h;cases l with
   |nil=>simp at hk
   |cons X l=>
    have h1:=h 0 X I rfl;rw[List.drop_succ_cons];rw[show i+(k+1)=i+1+k by omega,<-ih l (i+1) (ax hk) λj Y hj hY=>h (j+1) Y I (ax hY)];unfold D3;rw[if_neg (by simp[h1])];cases l<;>rfl
 have:=key k l 0 hk h;rwa[di]at this
theorem YB{l:List aY}{k:Nat}{X:aY}(hX:l[k]?=Z X)(h:∀j Y,j<k->l[j]?=Z Y->pE Y=0):D3 l 0=if pE X≠0 then(pE X,(k:Int))else D3 (l.drop (k+1)) (k+1):=by
 obtain⟨hk,e⟩:=az.1 hX;rw[AM (Nat.le_of_lt hk) h,lR hk,e]
 rfl
theorem MI(u:a8)(hl:nA u)(g fs:V)(w0:C)(hg:aG w0 g 3 u.globals fg)(hf:aG w0 fs 4 u.funcs gq)(iN:bF w0 0 0 nI):
  eP ae 21 [au #[g,fs]] w0 (au #[U O (QK u).1,U O (QK u).2]):=by
 have yX:=hg;have wM:=hf;obtain⟨ga,gn,gc,gb,go,rfl,_⟩:=hg;obtain⟨fa,fn,fc,fb,fo,rfl,qq,Pp,Po,Zp,vx,uU⟩:=hf;refine aM func21 rfl ntmps21 rfl (Wd.nil cX w0) ?_
 repeat(first|refine aU ?_|refine dZ λ_ _=>?_)
 rename_i p1 _ p2 _;refine bB rfl (λw hw=>tO u hl _ _ w (yX.bZ dq hw.ch) (wM.bZ dG hw.ch) (iN.bZ hw.ch)) ?_
 by_cases wJ:(dA u).1≠0
 ·rw[show QK u=dA u from if_pos wJ]
  repeat(first|refine aE ?_|refine dZ λ_ _=>?_)
  refine aI (λh1=>?_) (λh1=>?_)
  ·refine aE ?_
   exact gw rfl λ_ hw=>⟨rfl,hw.ch⟩
  ·simp at h1
   omega
 have IY:(dA u).1=0:=ax wJ;rw[show QK u=D3 u.funcs 0 from if_neg wJ,nt IY]
 repeat(first|refine aE ?_|refine dZ λ_ _=>?_)
 rename_i p3 _;refine bL (λ(k:Nat)=>k<=fn/\∀j X,j<k->u.funcs[j]?=Z X->pE X=0) (λk=>[(16,U O k),(15,U O fn),(14,J fa fn fc),aj 2 p2]) (λ_=>[K p2 [U O 0,U O 0] 28]) (λk=>fn-k) 0 ⟨aT _,λ_ _ h=>absurd h (nS _)⟩ (aS ap aw) λk ⟨hk,cU⟩=>?_;refine aU ?_;refine aI (λh1=>?_) (λh1=>?_)
 case refine_2=>
  have hke:k=fn:=by have:=h1;simp at this;omega
  have hz:D3 u.funcs 0=(0,0):=by
   rw[AM (k:=k) I cU,List.drop_eq_nil_of_le I]
   rfl
  rw[hz];refine aE ?_;exact gw rfl λ_ hw=>⟨rfl,hw.ch⟩
 have bS:k<fn:=ax h1;obtain⟨X,hX⟩:=bf u.funcs k I;have oW:bU fa fb fo:=⟨vx (aL hX)⟩;have lY:bY k fn:=⟨bS⟩;obtain⟨cs,fT,bv,rfl,hpi,hri,Ai⟩:=uU k X hX;have n_:a6 w0 fb (fo+k*4) _:=⟨fT⟩;have Sk:=Ai;obtain⟨ba,bn,bc,_,_,rfl,pR,_⟩:=Ai;have hhd:=mY IY hX;have c_:=E3 IY hX;have ri:=Cy IY hX;have aiY:=(hl.2 X (aq hX)).1;obtain⟨R,Nb,hR,W4⟩:=oO IY hX;obtain⟨n,hXn⟩:∃n:Nat,X.params=n:=⟨X.params.toNat,I⟩;have hwf:pE X=vS n R X.blocks:=by unfold pE;rw[hXn,Nb];rfl
 rw[YB hX cU];rw[hXn,Nb]at n_
 repeat(first|refine aE ?_|refine dZ λ_ _=>?_)
 refine bB rfl (λw hw=>OY X.name n R X.blocks _ w (Sk.bZ dH hw.ch) I hR W4 I c_ λB hB x hx=>du (ri B hB x hx) (by decide)) ?_;rw[<-hwf];refine aU ?_;refine aI (λh2=>?_) (λh2=>?_)
 ·have eQ:pE X≠0:=ax h2
  rw[if_pos eQ];refine aU ?_;refine bB rfl (λw hw=>pJ (pE X) (k:Int) w) ?_;refine aE ?_;exact gw rfl λ_ hw=>⟨rfl,hw.ch⟩
 ·have he:pE X=0:=ax h2
  rw[if_neg (by simp[he])];refine aH ?_;exact bj (k+1) ⟨bS,λj Y hj hY=>by
   by_cases e:j=k
   ·subst e
    rw[hX]at hY;obtain rfl:=a7 hY;exact he
   ·exact cU j Y I hY⟩ I ap (by first|exact ey _|exact .cons _ (.refl _))
theorem Qv{N:Nat}{ds:List Deferred}{S:Nat->Prop}{w0:C}{L:List (Nat×V)}{H:List bN}{x:Operand}{e a:Int}[hx:Ev L x (au #[U O e,U O a])]:dL ae N ds S w0 L H (.field 28 x 0) (U O e):=
 ⟨λ_ h=>(by cases h),λ_ _ h=>(by cases h),λ_ _ _ _ _ a w hF _=>by simp[execOp,hx.eq _ _ _ hF,Instr.field,runUnderlying28,part,asAgg]⟩
section
variable {u:a8}
theorem Mi(hu:Whole u)(sE:∀X∈u.funcs,gp (j0 X)=false):oE (oE u)=oE u/\∀X∈(oE u).funcs,gp (j0 X)=false:=by
 have h1:∀X∈u.funcs,j0 (j0 X)=j0 X:=λX hX=>by
  obtain⟨k,hk⟩:=bg hX;exact P_ hu sE hk
 constructor
 ·unfold oE
  simp only[dE,a8.mk.injEq,true_and];exact dD h1
 ·intro Y hY
  obtain⟨X,hX,rfl⟩:=aV.1 hY;rw[h1 X hX];exact sE X hX
theorem Up(hu:Whole u)(sE:∀X∈u.funcs,gp (j0 X)=false):QK (oE u)=(0,0):=by
 have IY:=fN.2 (tm hu sE).1.ok;unfold QK;rw[if_neg (by simp[IY]),AM (bG _) λj Y _ hY=>?_,iU]
 ·rfl
 ·obtain⟨X,hX,rfl⟩:=aV.1 (aq hY)
  obtain⟨k,hk⟩:=bg hX;exact Qb hu sE hk _
end
theorem ER(u:a8)(dr:List Int)(bH:Int)(_hk:dk bH)(g fs iv:V)(w0:C)(hg:aG w0 g 3 u.globals fg)(hf:aG w0 fs 4 u.funcs gq)(oA:aG w0 iv 1 dr fI)(iN:bF w0 0 0 nI):
  eP ae 8 [au #[g,fs],iv,U O bH] w0 (D true):=by
 classical
 have yX:=hg;have wM:=hf;have BE:=oA;obtain⟨ga,gn,gc,gb,go,rfl,Pq,_⟩:=hg;obtain⟨fa,fn,fc,fb,fo,rfl,qq,Pp,Po,Zp,vx,uU⟩:=hf;obtain⟨ia,il,ic,_,_,rfl,_⟩:=oA;refine aM func8 rfl ntmps8 rfl (Wd.nil cX w0) ?_
 repeat(first|refine aU ?_|refine dZ λ_ _=>?_)
 rename_i p3 _;refine cZ (val:=λb:Bool=>.bool b) (akg:=λ_=>[]) (φ:=λb=>b=false->Yw u) rfl (λw hw=>Ss u _ _ w (wM.bZ dG hw.ch) ⟨_,_,_,rfl⟩) λb hb=>?_;simp only[aO];cases b
 case true=>
  refine aE ?_;exact bP rfl rfl
 have rq:=hb rfl;have hl:=rq.nA;refine aH ?_
 by_cases wJ:(dA u).1≠0
 ·refine bB rfl (λw hw=>Vh u hl wJ _ _ w (yX.bZ dq hw.ch) (wM.bZ dG hw.ch) (iN.bZ hw.ch)) ?_
  repeat(first|refine aE ?_|refine dZ λ_ _=>?_)
  refine aI (λh1=>?_) (λh1=>?_)
  ·refine aU ?_
   refine bB rfl (λw hw=>NU w) ?_;refine aE ?_;exact bP rfl rfl
  ·exact absurd h1 (by simp[wJ])
 have IY:(dA u).1=0:=ax wJ;have hu:Whole u:=⟨fN.1 IY,NV wM,IF yX⟩;rcases TL u j0 with⟨i,X,hF⟩|oB
 ·refine bB rfl (λw hw=>Vi u hl hu i X hF _ _ w (yX.bZ dq hw.ch) (wM.bZ dG hw.ch) (iN.bZ hw.ch)) ?_
  repeat(first|refine aE ?_|refine dZ λ_ _=>?_)
  refine bB rfl (λw hw=>NU w) ?_;refine aE ?_;exact bP rfl rfl
 have LH:=(tm hu oB).1;have adV:=(tm hu oB).2;have HI:=A_ LH.ok;have adx:(oE u).funcs.length=u.funcs.length:=by unfold oE;rw[aF]
 refine cZ (val:=(λx:(Option Addr×Nat)×(Option Addr×Nat)×(Nat->Prop)=>Value.tuple #[au #[J x.1.1 gn x.1.2,J x.2.1.1 fn x.2.1.2],au #[U O 0,U O 0]])) (akg:=(λx:(Option Addr×Nat)×(Option Addr×Nat)×(Nat->Prop)=>[Kh (oE u) (J x.1.1 gn x.1.2) (J x.2.1.1 fn x.2.1.2) x.2.2])) (φ:=λ_=>True) rfl (λw hw=>by rw[Pq,qq];exact Oh u hl hu oB _ _ w (by rw[<-Pq];exact yX.bZ dq hw.ch) (by rw[<-qq];exact wM.bZ dG hw.ch) (iN.bZ hw.ch)) λx _=>?_;obtain⟨⟨ya,yc⟩,⟨za,zc⟩,fp⟩:=x;simp only[aW,aO]
 repeat(first|refine aE ?_|refine dZ λ_ _=>?_)
 rename_i p7 _ p8 _;have ahX:0<u.funcs.length:=by
  have h1:=hu.ok.main;cases Aj:u.funcs with
  |nil=>rw[Aj]at h1;exact absurd h1 (by decide)
  |cons _ _=>simp
 refine bB rfl (λw hw=>Ub _ _ (oE u) w (hw.get (k:=2) rfl).1 (hw.get (k:=2) rfl).2) ?_;rw[show(decide ((oE u).globals.length=0)&&decide ((oE u).funcs.length=0))=false by rw[adx,decide_eq_false (show¬u.funcs.length=0 by omega),Bool.and_false]];refine aH ?_;obtain⟨hag,agO⟩:=Mi hu oB;refine cZ (val:=(λx:(Option Addr×Nat)×(Option Addr×Nat)×(Nat->Prop)=>Value.tuple #[au #[J x.1.1 gn x.1.2,J x.2.1.1 fn x.2.1.2],au #[U O 0,U O 0]])) (akg:=(λx:(Option Addr×Nat)×(Option Addr×Nat)×(Nat->Prop)=>[Kh (oE u) (J x.1.1 gn x.1.2) (J x.2.1.1 fn x.2.1.2) x.2.2])) (φ:=λ_=>True) rfl (λw hw=>?_) λx _=>?_
 ·have h2:=Oh (oE u) HI LH agO (J ya gn yc) (J za fn zc) w (hw.get (k:=2) rfl).1 (hw.get (k:=2) rfl).2 (iN.bZ hw.ch)
  rw[hag,adx,show(oE u).globals.length=gn from Pq.symm,<-qq]at h2;exact h2
 obtain⟨⟨xa,xc⟩,⟨va,vc⟩,fp2⟩:=x;simp only[aW,aO]
 repeat(first|refine aE ?_|refine dZ λ_ _=>?_)
 rename_i p9 _ EO _;refine bB rfl (λw hw=>MI (oE u) HI _ _ w (hw.get (k:=5) rfl).1 (hw.get (k:=5) rfl).2 (iN.bZ hw.ch)) ?_;rw[Up hu oB]
 dsimp only
 have aiP:∀(L:List (Nat×V)) (H:List bN) (x:Operand) (e a:Int) [Ev L x (au #[U O e,U O a])],dL ae 50 [] cX w0 L H (.field 28 x 0) (U O e):=λ_ _ _ _ _ _=>Qv;refine aE ?_;rw[show(!decide ((0:Int)=0))=false by simp];refine aE ?_;refine bB rfl (λw hw=>Kj _ _ _ _ (oE u) w (hw.get (k:=5) rfl).1 (hw.get (k:=5) rfl).2 (hw.get (k:=2) rfl).1 (hw.get (k:=2) rfl).2) ?_;refine aE ?_;have SF:∀x∈dr,dk x:=λx hx=>by obtain⟨_,_,h9⟩:=BE.el hx;exact h9
 refine bB rfl (λw hw=>ab4 u (oE u) hl HI _ _ _ _ _ dr bH w (yX.bZ dq hw.ch) (wM.bZ dG hw.ch) (hw.get (k:=5) rfl).1 (hw.get (k:=5) rfl).2 (BE.bZ dP hw.ch) (iN.bZ hw.ch) λf hf2 Em lK=>Hf adV LH.ok SF Em lK I I) ?_;refine aH ?_;exact bP rfl rfl
end
end
end Go.Proofs.YthfhgolkafpmnaaGreatDoor
