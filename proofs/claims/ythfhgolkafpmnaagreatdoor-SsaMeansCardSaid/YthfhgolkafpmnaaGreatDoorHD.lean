/- Texts joined: RunE RunF RunG RunH Grow RunS. -/
import Derived.Test.YthfhgolkafpmnaaGreatDoorHC
namespace Go.Proofs.YthfhgolkafpmnaaGreatDoor
open Go.Value renaming int->U,slice->J,pointer->ar,string->G,bool->D,agg->au
open Go.IntKind renaming i64->O
open Option renaming some->Z,none->A
open Go renaming Value->V,World->C
open Go.Proofs.Tryz
open Go.Proofs.Tryz renaming prog->ae
open Go Go.RowKit
section
set_option maxHeartbeats 8000000
attribute [local irreducible] wpListIn Code.wpIn Exit.then Exit.inBlock bodyPost wpQuiet wpAnyIn wpAnyH bodyPostM j5
structure Km(m:iG)(s:j7)(rest:List iz)(t:iz):Prop where
 rows:m.rows=rest++[t]
 below:rest.map (·.f)=s.rest
 bJ:t.f=s.bJ
 mem:m.mem=s.mem
 dr:m.dr=s.dr
 out:m.out=s.out
 steps:m.steps=s.steps
 lF:m.cs.map (·.l)=s.counts
 zero:m.state=0/\m.value=0
structure F_(m:iG)(f:Fin):Prop where
 state:m.state=f.state
 value:m.value=f.value
 out:m.out=f.out
 steps:m.steps=f.steps
 lF:m.cs.map (·.l)=f.counts
def KA(v v':V)(l l':List Int):Prop:=(v'=v/\l'=l)∨∃(a a':Option Addr) (n c:Nat),v=J a n c/\l≠[]/\v'=J a' (n-1) (c-1)/\l'=l.tail/\∀b o,1<c->a=Z ⟨b,o,A⟩->a'=Z ⟨b,o+1,A⟩
theorem KA.sl{w:C}{v v':V}{l l':List Int}(h:KA v v' l l')(hs:aG w v 1 l fI):aG w v' 1 l' fI:=by
 rcases h with⟨rfl,rfl⟩|⟨a,a',n,c,rfl,eQ,rfl,rfl,ha'⟩
 ·exact hs
 ·obtain⟨a0,n0,c0,b,o,e,hn,qP,hb,hc,ha,ji⟩:=hs
  simp only[Value.slice.injEq]at e;obtain⟨rfl,rfl,rfl⟩:=e;have c_:=rW.2 eQ;refine⟨a',n-1,c-1,b,o+1,rfl,by rw[List.length_tail,hn],I,I,I,λht=>?_,λi x hx=>?_⟩
  ·refine ha' b o ?_ (ha eQ)
   have:=rW.2 ht;rw[List.length_tail]at this;omega
  ·rw[List.getElem?_tail]at hx
   obtain⟨cs,h1,h2⟩:=ji (i+1) x hx;exact⟨cs,by rw[show o+1+i*1=o+(i+1)*1 by omega];exact h1,h2⟩
def AW(m:iG)(r:j7 ⊕ Fin)(x:iG×Bool):Prop:=KA m.iv x.1.iv m.dr x.1.dr/\match r with
 | .inl s'=>x.2=true/\∃rest t,Km x.1 s' rest t
 | .inr f=>x.2=false/\F_ x.1 f
theorem H7{u:a8}(hu:jH u){m:iG}{s:j7}{rest:List iz}{t:iz}(hr:Km m s rest t){c:Nat}(h:ja u c s)(hc:c<=s.steps+1)(hs:s.steps<=1000000):m.Bd:=by
 have GJ:∀r∈m.rows,∃X R,nP u r.f X R:=λr hm=>by
  rw[hr.rows]at hm;rcases bA.1 hm with hm|hm
  ·exact h.rest r.f (by rw[<-hr.below];exact aV.2 ⟨r,hm,rfl⟩)
  ·rw[bR.1 hm,hr.bJ];exact h.bJ
 refine⟨?_,λr hm=>?_,by rw[hr.mem];exact h.mem,?_,?_,λr hm=>?_,by rw[hr.steps];exact hs⟩
 ·have:=h.deep
  rw[<-hr.below,aF]at this;rw[hr.rows];simp;omega
 ·obtain⟨X,R,hf⟩:=GJ r hm
  have:=hf.fit.le;exact⟨by rw[hf.aB];omega,hf.tl,hf.dst⟩
 ·rw[hr.out];exact⟨by have:=h.out.1;omega,h.out.2⟩
 ·have:=h.lF.1
  rw[<-hr.lF,aF]at this;have:=hu.1;omega
 ·obtain⟨k,hk⟩:=bg hm
  have u2:=(az.1 hk).1;have hl:=h.lF.1;rw[<-hr.lF,aF]at hl;obtain⟨l,h1,h2,h3⟩:=h.lF.2 k _ (a_ I);rw[<-hr.lF,aJ,hk]at h1;have h1:r.l=l:=a7 h1;obtain⟨R,gI⟩:=hu.2 k _ (a_ (by omega:k<u.funcs.length));have:=gI.few;exact⟨by rw[h1,h2];omega,λx hx=>by rw[h1]at hx;have:=h3 x hx;rw[hr.steps];omega⟩
theorem UT{u:a8}{m:iG}{s:j7}{rest:List iz}{t:iz}(hr:Km m s rest t){c:Nat}(h:ja u c s){k:Nat}{X:aY}(hX:u.funcs[k]?=Z X):∃cr:sM,m.cs[k]?=Z cr/\cr.l.length=X.blocks.length:=by
 obtain⟨l,h1,h2,_⟩:=h.lF.2 k X hX;rw[<-hr.lF,aJ]at h1;obtain⟨cr,h3,rfl⟩:=cA.1 h1;exact⟨cr,h3,h2⟩
theorem Gl(cs:List sM)(k b:Nat):(l8 cs k b).map (·.l)=bump (cs.map (·.l)) k b:=by
 unfold l8 bump;apply ci;intro i;rw[aJ,mM,mM,aJ];cases cs[i]? with
 |none=>rfl
 |some r=>by_cases e:k=i<;>simp[e]
theorem CT{S:Nat->Prop}{wz:C}(e_:Clean S wz)(u:a8)(hu:jH u)(p:Nat)(g fs av:V)(Aj:aG wz fs 4 u.funcs gq)(Ag:aG wz av 1 (mL u) OP)(m:iG)(s:j7)(rest:List iz)(t:iz)(hr:Km m s rest t)(cY:ja u s.steps s)(hs:s.steps<=1000000)(X:aY)(R:Nat)(hf:nP u s.bJ X R)(to:Nat)(T:E)(hg:V8 X s.bJ.block to T)(w:C)(hw:Wd S wz (dt p g fs av m) w):
  iC ae 172 [ar (Z ⟨p,0,A⟩),U O to] w λu' w'=>∃x:iG,u'=.tuple #[]/\Wd S wz (dt p g fs av x) w'/\(x.iv=m.iv/\x.dr=m.dr/\∃rest t,Km x (s_ u s to) rest t):=by
 have hb:=H7 hu hr cY (Nat.le_succ _) hs;obtain⟨cr,CZ,od⟩:=UT hr cY hf.get;rw[<-hr.bJ]at hf hg;have hX:acm u t.f X R:=⟨hf.get,hf.fit.ok,hf.aB⟩;have zP:=(az.1 hg.get).1;rw[<-hr.bJ]at CZ;refine(abM e_ u p g fs av Aj Ag m hb hr.rows X R hX hf.fit.few to T hg.get hg.mem (hf.fit.eR T (aq hg.get)).aD.1 cr CZ I w hw).mono λu' w' ⟨_,h1,h2,_⟩=>⟨_,h1,h2,rfl,rfl,rest,⟨{t.f with aB:=jp t.f ((aZ X.blocks to).idxOf t.f.block) T.aD,block:=to,at':=0},t.a,t.c⟩,?_⟩;rw[Jt (by rw[<-hr.bJ];exact hf.get) hg.get];exact⟨rfl,hr.below,by rw[<-hr.bJ],hr.mem,hr.dr,hr.out,hr.steps,by rw[Gl,hr.lF,<-hr.bJ],hr.zero⟩
theorem Qp{m:iG}{s:j7}{rest:List iz}{t:iz}(hr:Km m s rest t):(rest=[]/\s.rest.getLast?=A)∨∃FX t',rest=FX++[t']/\s.rest.getLast?=Z t'.f/\s.rest.dropLast=FX.map (·.f):=by
 rcases List.eq_nil_or_concat rest with rfl|⟨r',t',rfl⟩
 ·left
  have:=hr.below;simp at this;exact⟨rfl,by rw[this];rfl⟩
 ·right
  refine⟨r',t',by simp,?_,?_⟩
  ·rw[<-hr.below];simp
  ·rw[<-hr.below];simp
theorem ach{S:Nat->Prop}{wz:C}(e_:Clean S wz)(u:a8)(hu:jH u)(p:Nat)(g fs av:V)(Aj:aG wz fs 4 u.funcs gq)(Ag:aG wz av 1 (mL u) OP)(m:iG)(s:j7)(rest:List iz)(t:iz)(hr:Km m s rest t)(cY:ja u s.steps s)(hs:s.steps<=1000000)(X:aY)(R:Nat)(hf:nP u s.bJ X R)(B:E)(hB:X.blocks[s.bJ.block]?=Z B)(tv:V)(ZT:aG wz tv 1 B.to fI)(w:C)(hw:Wd S wz (dt p g fs av m) w):
  iC ae 158 [ar (Z ⟨p,0,A⟩),au #[U O B.kind,D B.on.z,U O B.on.n,tv]] w λu' w'=>∃x:iG×Bool,u'=D x.2/\Wd S wz (dt p g fs av x.1) w'/\AW m (mj u s B) x:=by
 have hb:=H7 hu hr cY (Nat.le_succ _) hs;obtain⟨_,fb,fo,vx,_⟩:=wq (H:=[]) (by rw[cD];exact hw) hb hr.rows;have hlen:m.rows.length=rest.length+1:=by rw[hr.rows];simp
 have gI:=hf.fit.eR B (aq hB);have t_:∀w,Wd S wz (dt p g fs av m) w->u6 w p fb fo m.rows.length t:=λw hw=>AS (H:=[]) (by rw[cD];exact hw) hb hr.rows vx;have Td:∀w,Wd S wz (dt p g fs av m) w->eP ae 157 [ar (Z ⟨p,0,A⟩)] w (ar (Z ⟨fb,fo+rest.length*5,A⟩)):=λw hw=>by
  have:=(t_ w hw).D8;rwa[hlen,Nat.add_sub_cancel]at this
 have BH:jb t.f.aB.length B.on:=by rw[hr.bJ,hf.aB];exact gI.on.1
 obtain⟨ta,tn,tc,tb,AP,rfl,uW,GV,GU,Xq,yk,tZ⟩:=ZT;refine kP func158 rfl ntmps158 rfl hw ?_
 repeat(first|refine aH ?_|refine dZ λ_ _=>?_)
 rename_i p3 _;have goto:∀(i:Nat) (hi:i<B.to.length),∃(to:Nat) (T:E),B.to[i]?=Z (to:Int)/\V8 X s.bJ.block to T:=λi hi=>by
  obtain⟨to,T,e,hg⟩:=K8 hf hB (j9 hi);exact⟨to,T,by rw[a_ hi,e],hg⟩
 by_cases h2:B.kind=2
 ·rw[decide_eq_true h2]
  have zP:B.to.length=1:=by have:=gI.kind.2;omega
  obtain⟨to,T,ii,hg⟩:=goto 0 I;obtain⟨_,Jk,rfl,_⟩:=tZ 0 _ ii;have oW:bU ta tb AP:=⟨yk (aL ii)⟩;have BF:bY 0 tn:=⟨I⟩;have n_:a6 wz tb (AP+0*1) _:=⟨Jk⟩;have Ep:eS S tb:=e_.old Jk;refine aH ?_;refine bi (cP (l₁:=[_])) ?_;refine iX (H1:=dt p g fs av m) (val:=λ_:iG=>.tuple #[]) (akg:=λx=>dt p g fs av x) (φ:=λx=>x.iv=m.iv/\x.dr=m.dr/\∃rest t,Km x (s_ u s to) rest t) e_ rfl (λEU w od hle _ hw=>CT od u hu p g fs av (Aj.le nC hle) (Ag.le ze hle) m s rest t hr cY hs X R hf to T hg w hw) λx hx=>?_;obtain⟨BI,Ew,hx3⟩:=hx;refine aH ?_;refine cE rfl λw' ek=>⟨(x,true),rfl,ek.sub (eI _ _),.inl ⟨BI,Ew⟩,?_⟩;unfold mj;rw[if_pos h2,show B.to.getD 0 0=(to:Int) by rw[cB,ii];rfl];exact⟨rfl,hx3⟩
 rw[decide_eq_false h2];refine aH ?_
 by_cases h3:B.kind=3
 ·rw[decide_eq_true h3]
  have zP:B.to.length=2:=by have:=gI.kind.2;omega
  refine aH ?_;refine bB rfl (λw hw=>AV (t_ w (hw.sub (.cons _ (.refl _)))) B.on BH) ?_;refine aU ?_;rw[hr.bJ]
  by_cases hv:cK s.bJ B.on=0
  ·rw[show(!decide (cK s.bJ B.on=0))=false by simp[hv]]
   obtain⟨to,T,ii,hg⟩:=goto 1 I;obtain⟨_,Jk,rfl,_⟩:=tZ 1 _ ii;have oW:bU ta tb AP:=⟨yk (aL ii)⟩;have BF:bY 1 tn:=⟨I⟩;have n_:a6 wz tb (AP+1*1) _:=⟨Jk⟩;have Ep:eS S tb:=e_.old Jk;refine aH ?_;refine bi (cP (l₁:=[_])) ?_;refine iX (H1:=dt p g fs av m) (val:=λ_:iG=>.tuple #[]) (akg:=λx=>dt p g fs av x) (φ:=λx=>x.iv=m.iv/\x.dr=m.dr/\∃rest t,Km x (s_ u s to) rest t) e_ rfl (λEU w od hle _ hw=>CT od u hu p g fs av (Aj.le nC hle) (Ag.le ze hle) m s rest t hr cY hs X R hf to T hg w hw) λx hx=>?_;obtain⟨BI,Ew,hx3⟩:=hx;refine aH ?_;refine cE rfl λw' ek=>⟨(x,true),rfl,ek.sub (eI _ _),.inl ⟨BI,Ew⟩,?_⟩;unfold mj;rw[if_neg h2,if_pos h3,if_neg (by simp[hv]),show B.to.getD 1 0=(to:Int) by rw[cB,ii];rfl];exact⟨rfl,hx3⟩
  ·rw[show(!decide (cK s.bJ B.on=0))=true by simp[hv]]
   obtain⟨to,T,ii,hg⟩:=goto 0 I;obtain⟨_,Jk,rfl,_⟩:=tZ 0 _ ii;have oW:bU ta tb AP:=⟨yk (aL ii)⟩;have BF:bY 0 tn:=⟨I⟩;have n_:a6 wz tb (AP+0*1) _:=⟨Jk⟩;have Ep:eS S tb:=e_.old Jk;refine aH ?_;refine bi (cP (l₁:=[_])) ?_;refine iX (H1:=dt p g fs av m) (val:=λ_:iG=>.tuple #[]) (akg:=λx=>dt p g fs av x) (φ:=λx=>x.iv=m.iv/\x.dr=m.dr/\∃rest t,Km x (s_ u s to) rest t) e_ rfl (λEU w od hle _ hw=>CT od u hu p g fs av (Aj.le nC hle) (Ag.le ze hle) m s rest t hr cY hs X R hf to T hg w hw) λx hx=>?_;obtain⟨BI,Ew,hx3⟩:=hx;refine aH ?_;refine cE rfl λw' ek=>⟨(x,true),rfl,ek.sub (eI _ _),.inl ⟨BI,Ew⟩,?_⟩;unfold mj;rw[if_neg h2,if_pos h3,if_pos hv,show B.to.getD 0 0=(to:Int) by rw[cB,ii];rfl];exact⟨rfl,hx3⟩
 rw[decide_eq_false h3];have h1:B.kind=1:=by rcases gI.kind.1 with h|h|h<;>simp_all
 refine aH ?_;rw[decide_eq_true h1];refine aH ?_;refine fC (H1:=K p3 [U O B.kind,D B.on.z,U O B.on.n,J ta tn tc] 44::K p [g,fs,av,J m.ma m.mem.length m.mc,m.iv,U O m.state,U O m.value,J m.oa m.out.length m.oc,U O m.steps,J m.fa m.rows.length m.fc,J m.ca m.cs.length m.cc] 168::lx m::kz m::jx m::kJ m::(m.rows.map qM++m.cs.map mQ)) rfl ?_;have Lm:m.rows[rest.length]?=Z t:=by rw[hr.rows];simp
 have VR:fy (K p3 [U O B.kind,D B.on.z,U O B.on.n,J ta tn tc] 44::K p [g,fs,av,J m.ma m.mem.length m.mc,m.iv,U O m.state,U O m.value,J m.oa m.out.length m.oc,U O m.steps,J m.fa m.rows.length m.fc,J m.ca m.cs.length m.cc] 168::lx m::kz m::jx m::kJ m::(m.rows.map qM++m.cs.map mQ)) fb (fo+rest.length*5+4) (U O t.f.dst):=⟨λ_ _ w' ek=>by
  have hk:(K p3 [U O B.kind,D B.on.z,U O B.on.n,J ta tn tc] 44::K p [g,fs,av,J m.ma m.mem.length m.mc,m.iv,U O m.state,U O m.value,J m.oa m.out.length m.oc,U O m.steps,J m.fa m.rows.length m.fc,J m.ca m.cs.length m.cc] 168::lx m::kz m::jx m::kJ m::(m.rows.map qM++m.cs.map mQ))[2]?=Z (M (Z ⟨fb,fo,A⟩) m.rows.length m.fc 206 5 (m.rows.flatMap sK)):=by rw[<-vx];rfl
  rw[dI];exact ek.cL hk (fB ke m.rows rest.length t 4 _ Lm rfl)⟩
 refine jj mixed aR ?_;refine iH ?_;refine pu rfl (λw hw=>AV (t_ w (hw.sub (.cons _ (.refl _)))) B.on BH) ?_;refine iH ?_;refine pu rfl (λw hw=>Td w (hw.sub (.cons _ (.refl _)))) ?_;refine iH ?_;refine aU ?_;have Zp:m.rows.length<=m.fc:=(hw.lu (k:=1) (show(dt p g fs av m)[1]?=Z (M (Z ⟨fb,fo,A⟩) m.rows.length m.fc 206 5 (m.rows.flatMap sK)) by rw[<-vx];rfl)).2.1;have IY:Ch rest.length m.fc:=⟨I⟩;have hbr:=hb.rows;refine dQ [] (λ_:Unit=>True) (λ_=>[aj 0 p,(5,U O (cK t.f B.on)),(6,U O t.f.dst),aj 3 p3]) (λ_=>K p3 [U O B.kind,D B.on.z,U O B.on.n,J ta tn tc] 44::K p [g,fs,av,J m.ma m.mem.length m.mc,m.iv,U O m.state,U O m.value,J m.oa m.out.length m.oc,U O m.steps,J m.fa rest.length m.fc,J m.ca m.cs.length m.cc] 168::lx m::kz m::jx m::kJ m::(m.rows.map qM++m.cs.map mQ)) mixed aw ?_ λ_ _=>?_
 ·skip
  refine ag 0 ?_;refine ag 1 ?_;refine ag 2 ?_;refine ag 3 ?_;refine ag 5 ?_;refine ag 6 ?_;refine ag 7 ?_;refine lm 4 8 ai ?_ ?_;refine fO 4 rfl aw ?_;refine cm 8 ai (fO 8 rfl aw ?_);refine ag 9 ?_;refine c8 (h:=tA I I) 10 rfl ai aw ?_;rw[show(m.rows.length:Int)-1=(rest.length:Int) by omega];rotate_left;refine fO 8 rfl aw ?_;refine ag 9 ?_;refine c8 (h:=tA I I) 10 rfl ai aw ?_;rw[show(m.rows.length:Int)-1=(rest.length:Int) by omega];refine cm 4 ai (fO 4 rfl aw ?_);rotate_left
  all_goals
   refine ag 11 ?_;refine ag 12 ?_;refine ag 13 ?_;refine cm 14 ai (X_ 14 aw ?_);refine eA ai ?_;exact dS () trivial ap aK
 obtain⟨m',Pu⟩:∃m':iG,m'={m with rows:=rest}:=⟨_,rfl⟩;refine fC (H1:=K p3 [U O B.kind,D B.on.z,U O B.on.n,J ta tn tc] 44::K p [g,fs,av,J m.ma m.mem.length m.mc,m.iv,U O m.state,U O m.value,J m.oa m.out.length m.oc,U O m.steps,J m.fa rest.length m.fc,J m.ca m.cs.length m.cc] 168::M (Z ⟨fb,fo,A⟩) m.rows.length m.fc 206 5 (m.rows.flatMap sK)::kz m::jx m::kJ m::(m.rows.map qM++m.cs.map mQ)) (by rw[<-vx];rfl) ?_;refine ID 2 rfl rest.length I ?_;simp only[cG,bW];have B4:(m.rows.flatMap sK).take (rest.length*5)=rest.flatMap sK:=by
  rw[(lG ke m.rows rest.length).1,hr.rows,List.take_left]
 rw[B4];refine jQ (L':=[aj 0 p,(5,U O (cK t.f B.on)),(6,U O t.f.dst),aj 3 p3]) (H':=K p3 [U O B.kind,D B.on.z,U O B.on.n,J ta tn tc] 44::dt p g fs av m') ap ?_ ?_
 ·rw[Pu,hr.rows]
  unfold dt uY lx kz jx kJ;simp only[vx,bz,bT,dn,dz];exact List.Sublist.cons_cons _ (dM (dM (dM (dM (dM (zV (dR _ _) _))))))
 have EI:mj u s B=match s.rest.getLast? with|none=>.inr (s.stop 0 (cK s.bJ B.on))|some t=>.inl {s with rest:=s.rest.dropLast,bJ:=t.set s.bJ.dst (cK s.bJ B.on)}:=by
  unfold mj;rw[if_neg h2,if_neg h3];cases s.rest.getLast?<;>rfl
 refine fC (H1:=K p3 [U O B.kind,D B.on.z,U O B.on.n,J ta tn tc] 44::K p [g,fs,av,J m'.ma m'.mem.length m'.mc,m'.iv,U O m'.state,U O m'.value,J m'.oa m'.out.length m'.oc,U O m'.steps,J m'.fa m'.rows.length m'.fc,J m'.ca m'.cs.length m'.cc] 168::lx m'::kz m'::jx m'::kJ m'::(m'.rows.map qM++m'.cs.map mQ)) rfl ?_;refine aU ?_;rcases Qp hr with⟨hr0,BF⟩|⟨FX,t',Dh,Zz,hd'⟩
 ·rw[show decide ((m'.rows.length:Int)=0)=true by rw[Pu,hr0];rfl]
  refine aE ?_;refine bi (cP (l₁:=[_])) ?_;refine iX (H1:=dt p g fs av {m' with value:=cK t.f B.on}) (val:=λ_:Unit=>.bool false) (akg:=λ_=>dt p g fs av {m' with value:=cK t.f B.on,state:=0}) (φ:=λ_=>True) e_ rfl (λEU w od hle _ hw=>wH p g fs av _ 0 w hw) λ_ _=>?_;refine aE ?_;refine cE rfl λw' ek=>⟨({m' with value:=cK t.f B.on,state:=0},false),rfl,ek.sub (eI _ _),.inl (by rw[Pu];exact⟨rfl,rfl⟩),?_⟩;rw[EI,BF];exact⟨rfl,rfl,by rw[hr.bJ];rfl,by rw[Pu];exact hr.out,by rw[Pu];exact hr.steps,by rw[Pu];exact hr.lF⟩
 ·rw[show decide ((m'.rows.length:Int)=0)=false by rw[Pu,Dh];simp;omega]
  refine aH ?_;have nO:m'.Bd:=by
   rw[Pu];refine⟨by have:=hb.rows;simp only;omega,λr Fx=>hb.aB r (by rw[hr.rows];exact ct _ Fx),hb.mem,hb.out,hb.cs,hb.lF,hb.steps⟩
  have vw:0<=t.f.dst->t.f.dst<t'.f.aB.length:=by
   have h5:=cY.dst;rw[<-hr.below,Dh,<-hr.bJ]at h5;simp only[bz,bT,dn]at h5;exact h5.last
  refine bi (cP (l₁:=[_])) ?_;refine iX (H1:=dt p g fs av m') (val:=λ_:Unit=>.tuple #[]) (akg:=λ_=>dt p g fs av {m' with rows:=FX++[t'.set t.f.dst (cK t.f B.on)]}) (φ:=λ_=>True) e_ rfl (λEU w od hle _ hw=>Ei p g fs av m' nO (by rw[Pu,Dh]) t.f.dst (cK t.f B.on) vw w hw) λ_ _=>?_;refine aH ?_;refine cE rfl λw' ek=>⟨({m' with rows:=FX++[t'.set t.f.dst (cK t.f B.on)]},true),rfl,ek.sub (eI _ _),.inl (by rw[Pu];exact⟨rfl,rfl⟩),?_⟩;rw[EI,Zz];refine⟨rfl,FX,t'.set t.f.dst (cK t.f B.on),?_⟩;rw[Pu];exact⟨rfl,hd'.symm,by rw[<-hr.bJ];rfl,hr.mem,hr.dr,hr.out,hr.steps,hr.lF,hr.zero⟩
theorem aci{S:Nat->Prop}{wz:C}(e_:Clean S wz)(u:a8)(hu:jH u)(p:Nat)(g fs av:V)(Aj:aG wz fs 4 u.funcs gq)(m:iG)(s:j7)(rest:List iz)(t:iz)(hr:Km m s rest t)(cY:ja u s.steps s)(hs:s.steps<=1000000)(X:aY)(R:Nat)(hf:nP u s.bJ X R)(oA:aG wz m.iv 1 m.dr fI)(x:dJ)(hx:Ga u R x)(xv:V)(hxv:aG wz xv 2 x.args mi)(w:C)(hw:Wd S wz (dt p g fs av m) w):
  iC ae 159 [ar (Z ⟨p,0,A⟩),au #[U O x.op,U O x.dst,D x.a.z,U O x.a.n,D x.b.z,U O x.b.n,U O x.fn,xv]] w λu' w'=>∃y:iG×Bool,u'=D y.2/\Wd S wz (dt p g fs av y.1) w'/\AW m (kY u s x) y:=by
 have hb:=H7 hu hr cY (Nat.le_succ _) hs;obtain⟨_,fb,fo,vx,_⟩:=wq (H:=[]) (by rw[cD];exact hw) hb hr.rows;have hlen:m.rows.length=rest.length+1:=by rw[hr.rows];simp
 have t_:∀w,Wd S wz (dt p g fs av m) w->u6 w p fb fo m.rows.length t:=λw hw=>AS (H:=[]) (by rw[cD];exact hw) hb hr.rows vx;have BH:∀v,jb R v->jb t.f.aB.length v:=λv hv=>by rw[hr.bJ,hf.aB];exact hv
 obtain⟨xa,xn,xc,xb,xo,rfl,hxn,abI,abH,hxc,NB,Ti⟩:=hxv;refine kP func159 rfl ntmps159 rfl hw ?_
 repeat(first|refine aU ?_|refine dZ λ_ _=>?_)
 rename_i p3 _;refine jj mixed aR ?_;refine iH ?_;refine pu rfl (λw hw=>AV (t_ w (hw.sub (.cons _ (.refl _)))) x.a (BH _ hx.a)) ?_;refine iH ?_;refine pu rfl (λw hw=>AV (t_ w (hw.sub (.cons _ (.refl _)))) x.b (BH _ hx.b)) ?_;refine iH ?_;refine aH ?_;have LB:=hr.bJ;rw[LB];obtain⟨va,oC⟩:∃va,cK s.bJ x.a=va:=⟨_,rfl⟩;obtain⟨vb,NA⟩:∃vb,cK s.bJ x.b=vb:=⟨_,rfl⟩;have ahz:=sk hf hx.a hx.tl.2.1;have ahA:=sk hf hx.b hx.tl.2.2.1;rw[oC]at ahz⊢;rw[NA]at ahA⊢;have s6:=hb.mem.1;refine fC (H1:=K p3 [U O x.op,U O x.dst,D x.a.z,U O x.a.n,D x.b.z,U O x.b.n,U O x.fn,J xa xn xc] 56::K p [g,fs,av,J m.ma m.mem.length m.mc,m.iv,U O m.state,U O m.value,J m.oa m.out.length m.oc,U O m.steps,J m.fa m.rows.length m.fc,J m.ca m.cs.length m.cc] 168::lx m::kz m::jx m::kJ m::(m.rows.map qM++m.cs.map mQ)) rfl ?_;have hz:=hr.zero;have BD:∀(st:Int) (w':C),Wd S wz (dt p g fs av {m with state:=st}++[K p3 [U O x.op,U O x.dst,D x.a.z,U O x.a.n,D x.b.z,U O x.b.n,U O x.fn,J xa xn xc] 56]) w'->kY u s x=.inr (s.stop st 0)->∃y:iG×Bool,D false=D y.2/\Wd S wz (dt p g fs av y.1) w'/\AW m (kY u s x) y:=λst w' ek he=>
  ⟨({m with state:=st},false),rfl,ek.sub (eI _ _),.inl ⟨rfl,rfl⟩,by rw[he];exact⟨rfl,rfl,hz.2,hr.out,hr.steps,hr.lF⟩⟩
 by_cases h18:x.op=18∨x.op=19
 ·have pS:kY u s x=if !within va 0 ((s.mem.length:Int)-1)then .inr (s.stop 3 0)else if x.op=19 then .inl {s with mem:=s.mem.set va.toNat vb}else .inl (s.set x.dst (s.mem.getD va.toNat 0)):=by
   unfold kY;simp only[oC,NA];rw[if_pos h18]
  refine Or.elim (Classical.em (x.op=18)) (λh=>?_) (λh=>?_);rw[decide_eq_true h];refine aE ?_;rotate_left;rw[decide_eq_false h];refine aH ?_;rw[decide_eq_true (h18.resolve_left h)];refine aE ?_;rotate_left
  all_goals
   refine bB rfl (λw _=>jX va 0 ((m.mem.length:Int)-1) w) ?_
   by_cases l9:within va 0 ((m.mem.length:Int)-1)=true
   ·rw[l9]
    refine aH ?_;simp only[within,Bool.and_eq_true,decide_eq_true_eq]at l9;obtain⟨k,hk⟩:∃k:Nat,va=k:=⟨va.toNat,I⟩;subst hk;obtain⟨y,hy⟩:=bf m.mem k I;have hwi:within (k:Int) 0 ((s.mem.length:Int)-1)=true:=by rw[<-hr.mem];simp[within];omega
    have SJ:bY k m.mem.length:=⟨I⟩;have agb:qy m.mem k y:=⟨hy⟩;unfold kz;refine fL 3 rfl I λmb mo Nr=>?_
    by_cases h19:x.op=19
    ·rw[decide_eq_true h19]
     rw[Nr];refine aE ?_;refine cE rfl λw' ek=>⟨({m with mem:=m.mem.set k vb},true),rfl,?_,.inl ⟨rfl,rfl⟩,?_⟩
     ·have h5:=ek.sub (dR _ _)
      unfold dt uY kz;simp only[eL,Nr];exact h5
     ·rw[pS,hwi]
      simp only[Bool.not_true,Bool.false_eq_true,if_false,if_pos h19,dO];exact⟨trivial,rest,t,hr.rows,hr.below,hr.bJ,by simp only[hr.mem],hr.dr,hr.out,hr.steps,hr.lF,hr.zero⟩
    ·rw[decide_eq_false h19]
     rw[Nr];refine aH ?_;refine dQ [K p3 [U O x.op,U O x.dst,D x.a.z,U O x.a.n,D x.b.z,U O x.b.n,U O x.fn,J xa xn xc] 56] (λ_:Unit=>True) (λ_=>[aj 0 p]) (λ_=>dt p g fs av {m with rows:=rest++[t.set x.dst y]}) mixed aw ?_ λ_ _=>?_
     ·skip
      refine ag 0 ?_;refine ag 1 ?_;refine ag 2 ?_;refine ag 3 ?_;refine ag 4 ?_;refine ag 5 ?_;refine ag 7 ?_;refine cm 6 ai (fO 6 rfl aw ?_);refine ag 8 ?_;refine cm 9 ai (fO 9 rfl aw ?_);refine fC (H1:=[K p3 [U O x.op,U O x.dst,D x.a.z,U O x.a.n,D x.b.z,U O x.b.n,U O x.fn,J xa xn xc] 56]++dt p g fs av m) (by unfold dt uY kz;rw[Nr];rfl) ?_;refine bi (cP (l₁:=[_])) ?_;refine Nc 10 (val:=λ_:Unit=>.tuple #[]) (akg:=λ_=>dt p g fs av {m with rows:=rest++[t.set x.dst y]}) (φ:=λ_=>True) e_ rfl ai aK (λEU w od hle _ hw=>Ei p g fs av m hb hr.rows x.dst y (λh0=>by rw[LB,hf.aB];exact hx.dst h0) w hw) λ_ _=>?_;refine eA ai ?_;exact dS () trivial ap (eI _ _)
     refine aH ?_;refine cE rfl λw' ek=>⟨({m with rows:=rest++[t.set x.dst y]},true),rfl,ek,.inl ⟨rfl,rfl⟩,?_⟩;rw[pS,hwi];simp only[Bool.not_true,Bool.false_eq_true,if_false,if_neg h19,dO];have W6:s.mem.getD k 0=y:=by rw[<-hr.mem,cB,hy];rfl
     rw[W6];exact⟨trivial,rest,t.set x.dst y,rfl,hr.below,by simp only[j7.set,iz.set,LB],hr.mem,hr.dr,hr.out,hr.steps,hr.lF,hr.zero⟩
   ·have jg:within va 0 ((m.mem.length:Int)-1)=false:=ax l9
    rw[jg];refine aH ?_;refine bi (H1:=dt p g fs av m++[K p3 [U O x.op,U O x.dst,D x.a.z,U O x.a.n,D x.b.z,U O x.b.n,U O x.fn,J xa xn xc] 56]) (cP (l₁:=[_])) ?_;refine iX (H1:=dt p g fs av m) (val:=λ_:Unit=>.bool false) (akg:=λ_=>dt p g fs av {m with state:=3}) (φ:=λ_=>True) e_ rfl (λEU w od hle _ hw=>wH p g fs av m 3 w hw) λ_ _=>?_;refine aE ?_;refine cE rfl λw' ek=>BD 3 w' ek ?_;rw[pS,<-hr.mem,jg]
    rfl
 obtain⟨afg,afh⟩:=not_or.1 h18;rw[decide_eq_false afg];refine aH ?_;rw[decide_eq_false afh];refine aH ?_
 by_cases vu:x.op=20
 ·have pS:kY u s x=if s.rest.length+1=30 then .inr (s.stop 4 0)else .inl (vh u s x.fn.toNat x.dst (x.args.map (cK s.bJ))):=by
   unfold kY;simp only;rw[if_neg h18,if_pos vu]
  have rR:m.rows.length=s.rest.length+1:=by rw[hlen,<-hr.below,aF]
  rw[decide_eq_true vu];refine aH ?_
  by_cases hd:s.rest.length+1=30
  ·rw[show decide ((m.rows.length:Int)=30)=true by simp;omega]
   refine aH ?_;refine bi (H1:=dt p g fs av m++[K p3 [U O x.op,U O x.dst,D x.a.z,U O x.a.n,D x.b.z,U O x.b.n,U O x.fn,J xa xn xc] 56]) (cP (l₁:=[_])) ?_;refine iX (H1:=dt p g fs av m) (val:=λ_:Unit=>.bool false) (akg:=λ_=>dt p g fs av {m with state:=4}) (φ:=λ_=>True) e_ rfl (λEU w od hle _ hw=>wH p g fs av m 4 w hw) λ_ _=>?_;refine aE ?_;refine cE rfl λw' ek=>BD 4 w' ek ?_;rw[pS,if_pos hd]
  ·rw[show decide ((m.rows.length:Int)=30)=false by simp;omega]
   obtain⟨fk,Y,qq,hY,zM⟩:=hx.call vu;refine aH ?_;refine fU 3 1 ?_;refine bL (λy:Nat×Option Addr×Nat=>y.1<=x.args.length) (λy=>[(88,U O y.1),(7,J y.2.1 y.1 y.2.2),(86,J xa xn xc),(87,U O xn),(6,U O vb),(5,U O va),aj 3 p3,aj 0 p]) (λy=>M y.2.1 y.1 y.2.2 3 1 (((x.args.take y.1).map (cK s.bJ)).map (U O))::K p3 [U O x.op,U O x.dst,D x.a.z,U O x.a.n,D x.b.z,U O x.b.n,U O x.fn,J xa xn xc] 56::K p [g,fs,av,J m.ma m.mem.length m.mc,m.iv,U O m.state,U O m.value,J m.oa m.out.length m.oc,U O m.steps,J m.fa m.rows.length m.fc,J m.ca m.cs.length m.cc] 168::lx m::kz m::jx m::kJ m::(m.rows.map qM++m.cs.map mQ)) (λy=>x.args.length-y.1) (0,A,0) (aT _) (aS ap aK) λy hi=>?_;obtain⟨i,na,nc⟩:=y;simp only at hi⊢;refine aU ?_;refine aI (λh1=>?_) (λh1=>?_)
   ·have abd:i<xn:=ax h1
    obtain⟨v,hv⟩:=bf x.args i I;obtain⟨_,ZX,rfl,HM⟩:=Ti i v hv;have ac5:bU xa xb xo:=⟨NB (aL hv)⟩;have agA:bY i xn:=⟨abd⟩;have aiJ:a6 wz xb (xo+i*2) _:=⟨ZX⟩;have ajz:eS S xb:=e_.old ZX;have agh:=hx.few
    repeat(first|refine aE ?_|refine dZ λ_ _=>?_)
    refine bB rfl (λw hw=>AV (t_ w (hw.sub (.cons _ (.cons _ (.cons _ (.refl _)))))) v (BH _ (hx.args v (aq hv)))) ?_;rw[LB]
    repeat(first|refine dZ λ_ _=>?_)
    rename_i b9 _ bb9 _;refine gU 2 rfl rfl ai I I λT0 T4=>?_;simp only[cG,bW];refine aH ?_;refine bj (i+1,T0,T4) bK bK ap ?_;rw[AO hv];simp only[bz,bT,dn];exact List.Sublist.cons _ (.cons _ (.refl _))
   ·have gP:i=x.args.length:=by have:=h1;simp at this;omega
    subst gP;rw[cQ];refine aE ?_;obtain⟨R',gI⟩:=hu.2 fk Y hY;obtain⟨cr,CZ,aaX⟩:=UT hr cY hY;have aeC:∀akj∈x.args.map (cK s.bJ),dk akj:=λakj hz=>by
     obtain⟨v,hv,rfl⟩:=aV.1 hz;exact sk hf (hx.args v hv) (hx.tl.2.2.2 v hv)
    have ZL:=gI.params;rw[qq];refine bi (H1:=dt p g fs av m++[M na x.args.length nc 3 1 ((x.args.map (cK s.bJ)).map (U O)),_]) (cP (l₁:=[_,_])) ?_;have agh:=hx.few;refine iX (H1:=dt p g fs av m) (val:=λ_:Option Addr×Nat×Option Addr×Nat=>.tuple #[]) (akg:=λakj=>dt p g fs av {m with fa:=akj.1,fc:=akj.2.1,rows:=m.rows++[⟨⟨fk,0,0,eN R' (x.args.map (cK s.bJ)),x.dst⟩,akj.2.2.1,akj.2.2.2⟩],cs:=l8 m.cs fk 0}) (φ:=λ_=>True) e_ rfl (λEU w od hle jg hw=>M1 od u p g fs av (Aj.le nC hle) m hb fk Y hY R' gI.aB gI.le x.dst (x.args.map (cK s.bJ)) na x.args.length nc (jg.oH (k:=0) rfl aC I λi akj hz=>⟨[U O akj],λj v hj=>by
     match j,hj with
     |0,hj=>
      rw[aJ,f_,ef,hz];simpa using hj,rfl,aeC akj (aq hz)⟩) (by rw[aF];omega) cr CZ (by rw[aaX];exact gI.pos) w hw) λakj _=>?_
    refine aH ?_;refine cE rfl λw' ek=>⟨({m with fa:=akj.1,fc:=akj.2.1,rows:=m.rows++[⟨⟨fk,0,0,eN R' (x.args.map (cK s.bJ)),x.dst⟩,akj.2.2.1,akj.2.2.2⟩],cs:=l8 m.cs fk 0},true),rfl,ek.sub (eI _ _),.inl ⟨rfl,rfl⟩,?_⟩;rw[pS,if_neg hd,qq,dO,Fa hY gI.aB];refine⟨rfl,m.rows,⟨⟨fk,0,0,eN R' (x.args.map (cK s.bJ)),x.dst⟩,akj.2.2.1,akj.2.2.2⟩,rfl,?_,rfl,hr.mem,hr.dr,hr.out,hr.steps,by simp only;rw[Gl,hr.lF],hr.zero⟩;rw[hr.rows,bz,hr.below,bT,dn,LB]
 rw[decide_eq_false vu];refine aH ?_;have Fl:0<=x.dst->x.dst<t.f.aB.length:=λh0=>by rw[LB,hf.aB];exact hx.dst h0
 have oB:∀k:Int,x.op≠k->x.op≠k:=λ_ h=>h
 by_cases h21:x.op=21
 ·have pS:kY u s x=.inl {s with bJ:=s.bJ.set x.dst (s.dr.headD (-1)),dr:=s.dr.tail}:=by
   unfold kY;simp only;rw[if_neg h18,if_neg vu,if_pos h21]
  rw[decide_eq_true h21];obtain⟨ia,il,ic,ib,io,Nl,iJ,agq,agp,agn,VO,SE⟩:=oA;rw[Nl];refine aH ?_;cases hmi:m.dr with
  |nil=>
   rw[hmi]at iJ;rw[show decide ((0:Int)<(il:Int))=false by rw[iJ];rfl];refine aH ?_;rw[<-Nl];refine fC (H1:=[K p3 [U O x.op,U O x.dst,D x.a.z,U O x.a.n,D x.b.z,U O x.b.n,U O x.fn,J xa xn xc] 56]++dt p g fs av m) rfl ?_;refine bi (cP (l₁:=[_])) ?_;refine iX (H1:=dt p g fs av m) (val:=λ_:Unit=>.tuple #[]) (akg:=λ_=>dt p g fs av {m with rows:=rest++[t.set x.dst (-1)]}) (φ:=λ_=>True) e_ rfl (λEU w od hle _ hw=>Ei p g fs av m hb hr.rows x.dst (-1) Fl w hw) λ_ _=>?_;refine aH ?_;refine cE rfl λw' ek=>⟨({m with rows:=rest++[t.set x.dst (-1)]},true),rfl,ek.sub (eI _ _),.inl ⟨rfl,rfl⟩,?_⟩;rw[pS,<-hr.dr,hmi];exact⟨rfl,rest,t.set x.dst (-1),rfl,hr.below,by simp only[iz.set,LB];rfl,hr.mem,rfl,hr.out,hr.steps,hr.lF,hr.zero⟩
  |cons akj l=>
   have hi0:m.dr[0]?=Z akj:=by rw[hmi];rfl
   obtain⟨_,adF,rfl,_⟩:=SE 0 akj hi0;have adG:0<il:=by rw[iJ,hmi];simp
   have afz:bU ia ib io:=⟨VO (aL hi0)⟩;have lY:bY 0 il:=⟨adG⟩;have afT:a6 wz ib (io+0*1) _:=⟨adF⟩;have ajx:eS S ib:=e_.old adF;rw[show decide ((0:Int)<(il:Int))=true by simp;omega];refine aH ?_;refine Fg rfl adG λZY agm=>?_;refine aE ?_;have Kn:iG.Bd {m with iv:=J ZY (il-1) (ic-1),dr:=l}:=⟨hb.rows,hb.aB,hb.mem,hb.out,hb.cs,hb.lF,hb.steps⟩;refine fC (H1:=[K p3 [U O x.op,U O x.dst,D x.a.z,U O x.a.n,D x.b.z,U O x.b.n,U O x.fn,J xa xn xc] 56]++dt p g fs av {m with iv:=J ZY (il-1) (ic-1),dr:=l}) rfl ?_;refine bi (cP (l₁:=[_])) ?_;refine iX (H1:=dt p g fs av {m with iv:=J ZY (il-1) (ic-1),dr:=l}) (val:=λ_:Unit=>.tuple #[]) (akg:=λ_=>dt p g fs av {{m with iv:=J ZY (il-1) (ic-1),dr:=l}with rows:=rest++[t.set x.dst akj]}) (φ:=λ_=>True) e_ rfl (λEU w od hle _ hw=>Ei p g fs av {m with iv:=J ZY (il-1) (ic-1),dr:=l} Kn hr.rows x.dst akj Fl w hw) λ_ _=>?_;refine aH ?_;refine cE rfl λw' ek=>⟨({{m with iv:=J ZY (il-1) (ic-1),dr:=l}with rows:=rest++[t.set x.dst akj]},true),rfl,ek.sub (eI _ _),.inr ⟨ia,ZY,il,ic,Nl,by rw[hmi];simp,rfl,by rw[hmi];rfl,agm⟩,?_⟩;rw[pS,<-hr.dr,hmi];exact⟨rfl,rest,t.set x.dst akj,rfl,hr.below,by simp only[iz.set,LB];rfl,hr.mem,rfl,hr.out,hr.steps,hr.lF,hr.zero⟩
 rw[decide_eq_false h21];refine aH ?_
 by_cases h22:x.op=22
 ·have pS:kY u s x=if s.out.length=200 then .inr (s.stop 5 0)else .inl {s with out:=s.out++[va]}:=by
   unfold kY;simp only[oC];rw[if_neg h18,if_neg vu,if_neg h21,if_pos h22]
  rw[decide_eq_true h22];refine aH ?_
  by_cases hd:s.out.length=200
  ·rw[show decide ((m.out.length:Int)=200)=true by rw[hr.out];simp;omega]
   refine aH ?_;refine bi (H1:=dt p g fs av m++[K p3 [U O x.op,U O x.dst,D x.a.z,U O x.a.n,D x.b.z,U O x.b.n,U O x.fn,J xa xn xc] 56]) (cP (l₁:=[_])) ?_;refine iX (H1:=dt p g fs av m) (val:=λ_:Unit=>.bool false) (akg:=λ_=>dt p g fs av {m with state:=5}) (φ:=λ_=>True) e_ rfl (λEU w od hle _ hw=>wH p g fs av m 5 w hw) λ_ _=>?_;refine aE ?_;refine cE rfl λw' ek=>BD 5 w' ek ?_;rw[pS,if_pos hd]
  ·rw[show decide ((m.out.length:Int)=200)=false by rw[hr.out];simp;omega]
   have Ep:=hb.out.1;unfold jx
   repeat(first|refine aH ?_|refine dZ λ_ _=>?_)
   rename_i bb _;refine gU 5 rfl rfl ai I I λna nc=>?_;simp only[cG,bW];refine aE ?_;refine cE rfl λw' ek=>⟨({m with oa:=na,oc:=nc,out:=m.out++[va]},true),rfl,?_,.inl ⟨rfl,rfl⟩,?_⟩
   ·have h5:=ek.sub (.cons _ (dR _ _))
    unfold dt uY jx;simp only[bX,j_,bz,bT,dn];exact h5
   ·rw[pS,if_neg hd]
    exact⟨rfl,rest,t,hr.rows,hr.below,hr.bJ,hr.mem,hr.dr,by simp only[hr.out],hr.steps,hr.lF,hr.zero⟩
 rw[decide_eq_false h22];refine aH ?_;have pS:kY u s x=match rK x.op va vb with|none=>.inr (s.stop 2 0)|some n=>.inl (s.set x.dst n):=by
  unfold kY;simp only[oC,NA];rw[if_neg h18,if_neg vu,if_neg h21,if_neg h22];cases rK x.op va vb<;>rfl
 refine bB rfl (λw _=>ae1 x.op va vb w) ?_;unfold tF;cases ht:rK x.op va vb with
 |none=>
  simp only;refine aH ?_;refine bi (H1:=dt p g fs av m++[K p3 [U O x.op,U O x.dst,D x.a.z,U O x.a.n,D x.b.z,U O x.b.n,U O x.fn,J xa xn xc] 56]) (cP (l₁:=[_])) ?_;refine iX (H1:=dt p g fs av m) (val:=λ_:Unit=>.bool false) (akg:=λ_=>dt p g fs av {m with state:=2}) (φ:=λ_=>True) e_ rfl (λEU w od hle _ hw=>wH p g fs av m 2 w hw) λ_ _=>?_;refine aE ?_;refine cE rfl λw' ek=>BD 2 w' ek ?_;rw[pS,ht]
 |some n=>
  simp only;refine aH ?_;refine fC (H1:=[K p3 [U O x.op,U O x.dst,D x.a.z,U O x.a.n,D x.b.z,U O x.b.n,U O x.fn,J xa xn xc] 56]++dt p g fs av m) rfl ?_;refine bi (cP (l₁:=[_])) ?_;refine iX (H1:=dt p g fs av m) (val:=λ_:Unit=>.tuple #[]) (akg:=λ_=>dt p g fs av {m with rows:=rest++[t.set x.dst n]}) (φ:=λ_=>True) e_ rfl (λEU w od hle _ hw=>Ei p g fs av m hb hr.rows x.dst n Fl w hw) λ_ _=>?_;refine aH ?_;refine cE rfl λw' ek=>⟨({m with rows:=rest++[t.set x.dst n]},true),rfl,ek.sub (eI _ _),.inl ⟨rfl,rfl⟩,?_⟩;rw[pS,ht];exact⟨rfl,rest,t.set x.dst n,rfl,hr.below,by simp only[iz.set,LB];rfl,hr.mem,hr.dr,hr.out,hr.steps,hr.lF,hr.zero⟩
theorem YP{S:Nat->Prop}{wz:C}(e_:Clean S wz)(u:a8)(hu:jH u)(p:Nat)(g fs av:V)(Aj:aG wz fs 4 u.funcs gq)(Ag:aG wz av 1 (mL u) OP)(m:iG)(s:j7)(rest:List iz)(t:iz)(hr:Km m s rest t)(cY:ja u (s.steps+1) s)(hs:s.steps<=100000)(oA:aG wz m.iv 1 m.dr fI)(w:C)(hw:Wd S wz (dt p g fs av m) w):
  iC ae 132 [ar (Z ⟨p,0,A⟩)] w λu' w'=>∃y:iG×Bool,u'=D y.2/\Wd S wz (dt p g fs av y.1) w'/\AW m (jr u s) y:=by
 have hb:=H7 hu hr cY (bG _) I;obtain⟨_,fb,fo,vx,_⟩:=wq (H:=[]) (by rw[cD];exact hw) hb hr.rows;have hlen:m.rows.length=rest.length+1:=by rw[hr.rows];simp
 have t_:∀w,Wd S wz (dt p g fs av m) w->u6 w p fb fo m.rows.length t:=λw hw=>AS (H:=[]) (by rw[cD];exact hw) hb hr.rows vx;have Td:∀w,Wd S wz (dt p g fs av m) w->eP ae 157 [ar (Z ⟨p,0,A⟩)] w (ar (Z ⟨fb,fo+rest.length*5,A⟩)):=λw hw=>by
  have:=(t_ w hw).D8;rwa[hlen,Nat.add_sub_cancel]at this
 obtain⟨X,R,hf⟩:=cY.bJ;obtain⟨B,hB⟩:=bf X.blocks s.bJ.block hf.block;have gI:=hf.fit.eR B (aq hB);have lK:=iS u s;rw[sS hf hB]at lK;have adA:=Aj;obtain⟨ua,ul,uc,ub,uo,rfl,hul,aht,ahs,huc,hua,abE⟩:=Aj;obtain⟨cs,fT,bv,rfl,_,_,Ai⟩:=abE s.bJ.fn X hf.get;have Sx:s.bJ.fn<ul:=by rw[hul];exact(az.1 hf.get).1
 have oW:bU ua ub uo:=⟨hua (aL hf.get)⟩;have hlf:bY s.bJ.fn ul:=⟨Sx⟩;have n_:a6 wz ub (uo+s.bJ.fn*4) _:=⟨fT⟩;have hold:eS S ub:=e_.old fT;obtain⟨ba,bn,bc,bb,bo,rfl,pR,aaP,aaO,Pg,yh,EG⟩:=Ai;obtain⟨_,hTc,pv,lv,tv,rfl,_,_,Jc,W_,ZT⟩:=EG s.bJ.block B hB;have uR:bU ba bb bo:=⟨yh (aL hB)⟩;have bS:bY s.bJ.block bn:=⟨by rw[pR];exact hf.block⟩;have tX:a6 wz bb (bo+s.bJ.block*6) _:=⟨hTc⟩;have nw:eS S bb:=e_.old hTc;obtain⟨la,ln,lc,lb,lo,rfl,HJ,agC,SL,hlc,I6,Ak⟩:=W_;have ahr:=ZT;obtain⟨ta,tn,tc,_,_,rfl,_⟩:=ZT;obtain⟨pa,pn,pc,_,_,rfl,_⟩:=Jc;refine kP func132 rfl ntmps132 rfl hw ?_;refine aU ?_;refine bB rfl (λw hw=>Td w hw) ?_;refine aU ?_;refine fC (H1:=K p [g,J ua ul uc,av,J m.ma m.mem.length m.mc,m.iv,U O m.state,U O m.value,J m.oa m.out.length m.oc,U O m.steps,J m.fa m.rows.length m.fc,J m.ca m.cs.length m.cc] 168::lx m::kz m::jx m::kJ m::(m.rows.map qM++m.cs.map mQ)) rfl ?_;have Lm:m.rows[rest.length]?=Z t:=by rw[hr.rows];simp
 have VR:∀j v,(sK t)[j]?=Z v->fy (K p [g,J ua ul uc,av,J m.ma m.mem.length m.mc,m.iv,U O m.state,U O m.value,J m.oa m.out.length m.oc,U O m.steps,J m.fa m.rows.length m.fc,J m.ca m.cs.length m.cc] 168::lx m::kz m::jx m::kJ m::(m.rows.map qM++m.cs.map mQ)) fb (fo+rest.length*5+j) v:=λj v hj=>⟨λ_ _ w' ek=>by
  have hk:(K p [g,J ua ul uc,av,J m.ma m.mem.length m.mc,m.iv,U O m.state,U O m.value,J m.oa m.out.length m.oc,U O m.steps,J m.fa m.rows.length m.fc,J m.ca m.cs.length m.cc] 168::lx m::kz m::jx m::kJ m::(m.rows.map qM++m.cs.map mQ))[1]?=Z (M (Z ⟨fb,fo,A⟩) m.rows.length m.fc 206 5 (m.rows.flatMap sK)):=by rw[<-vx];rfl
  rw[dI];exact ek.cL hk (fB ke m.rows rest.length t j _ Lm hj)⟩
 have Et:=hr.bJ;have adX:=VR 0 (U O (s.bJ.fn:Nat)) (by rw[<-Et];rfl);have adY:=VR 1 (U O (s.bJ.block:Nat)) (by rw[<-Et];rfl);have abk:=VR 2 (U O (s.bJ.at':Nat)) (by rw[<-Et];rfl);simp only[ef]at adX;refine dQ (K p [g,J ua ul uc,av,J m.ma m.mem.length m.mc,m.iv,U O m.state,U O m.value,J m.oa m.out.length m.oc,U O m.steps,J m.fa m.rows.length m.fc,J m.ca m.cs.length m.cc] 168::lx m::kz m::jx m::kJ m::(m.rows.map qM++m.cs.map mQ)) (λ_:Nat=>True) (λb=>[(3,ar (Z ⟨fb,fo+rest.length*5,A⟩)),aj 4 b,aj 0 p])
  (λb=>K b [J pa pn pc,J la ln lc,U O B.kind,D B.on.z,U O B.on.n,J ta tn tc] 46::K p [g,J ua ul uc,av,J m.ma m.mem.length m.mc,m.iv,U O m.state,U O m.value,J m.oa m.out.length m.oc,U O m.steps,J m.fa m.rows.length m.fc,J m.ca m.cs.length m.cc] 168::lx m::kz m::jx m::kJ m::(m.rows.map qM++m.cs.map mQ)) mixed (.refl _) ?_ λb4 _=>?_
 ·skip
  refine c8 0 rfl ai dU ?_;refine c8 1 rfl ai dU ?_;refine c8 2 rfl ai dU ?_;refine c8 3 rfl ai dU ?_;refine c8 4 rfl ai dU ?_;refine c8 5 rfl ai dU ?_;refine c8 6 rfl ai dU ?_;refine c8 7 rfl ai dU ?_;refine c8 8 rfl ai dU ?_;refine c8 9 rfl ai dU ?_;refine c8 10 rfl ai dU ?_;refine c8 11 rfl ai dU ?_;refine c8 12 rfl ai dU ?_;refine c8 13 rfl ai dU ?_;refine c8 14 rfl ai dU ?_;refine c8 15 rfl ai dU ?_;refine c8 16 rfl ai dU ?_;refine c8 17 rfl ai dU ?_;refine cm 18 ai (NW 18 rfl dU λb4 _=>?_);refine cR 19 ai dU ?_;refine eA ai ?_;exact dS b4 trivial ap aK
 have hsb:=hb.steps;have SN:=hr.steps;have hao:Cf (m.steps:Int) 1:=⟨I,I⟩;refine aE ?_;rw[show(m.steps:Int)+1=((m.steps+1:Nat):Int) by omega]
 skip
 obtain⟨m1,Fo⟩:∃m1:iG,m1={m with steps:=m.steps+1}:=⟨_,rfl⟩;have Px:Km m1 (tick s) rest t:=by
  rw[Fo];exact⟨hr.rows,hr.below,hr.bJ,hr.mem,hr.dr,hr.out,by simp only[tick,SN],hr.lF,hr.zero⟩
 have abl:=Cc cY;have Kn:=H7 hu Px abl (by simp only[tick];omega) (by simp only[tick];omega);have agT:∀(aka:bN) (j:Nat) v,(sK t)[j]?=Z v->fy (aka::lx m::kz m::jx m::kJ m::(m.rows.map qM++m.cs.map mQ)) fb (fo+rest.length*5+j) v:=λaka j v hj=>⟨λ_ _ w' ek=>by
  have hk:(aka::lx m::kz m::jx m::kJ m::(m.rows.map qM++m.cs.map mQ))[1]?=Z (M (Z ⟨fb,fo,A⟩) m.rows.length m.fc 206 5 (m.rows.flatMap sK)):=by rw[<-vx];rfl
  rw[dI];exact ek.cL hk (fB ke m.rows rest.length t j _ Lm hj)⟩
 have ajs:∀aka:bN,fy (aka::lx m::kz m::jx m::kJ m::(m.rows.map qM++m.cs.map mQ)) fb (fo+rest.length*5+2) (U O (s.bJ.at':Nat)):=λaka=>agT aka 2 _ (by rw[<-Et];rfl);refine jj mixed aR ?_;refine iH ?_;refine aU ?_
 by_cases EI:s.bJ.at'=ln
 ·rw[show decide ((s.bJ.at':Int)=(ln:Int))=true by simp;omega]
  refine aH ?_;refine fC (H1:=[K b4 [J pa pn pc,J la ln lc,U O B.kind,D B.on.z,U O B.on.n,J ta tn tc] 46]++dt p g (J ua ul uc) av m1) (by rw[Fo];rfl) ?_;refine bi (cP (l₁:=[_])) ?_;refine iX (H1:=dt p g (J ua ul uc) av m1) (val:=λy:iG×Bool=>.bool y.2) (akg:=λy=>dt p g (J ua ul uc) av y.1) (φ:=λy=>AW m1 (mj u (tick s) B) y) e_ rfl (λEU w od hle _ hw=>ach od u hu p g _ av (adA.le nC hle) (Ag.le ze hle) m1 (tick s) rest t Px abl (by simp only[tick];omega) X R hf B hB _ (ahr.le lM hle) w hw) λy hy=>?_;refine aE ?_;refine cE rfl λw' ek=>⟨y,rfl,ek.sub (eI _ _),?_⟩;have I_:B.list[s.bJ.at']?=A:=bO I;rw[lK,I_];have h9:=hy;rw[Fo]at h9;exact h9
 ·rw[show decide ((s.bJ.at':Int)=(ln:Int))=false by simp;omega]
  have zM:=hf.at' B hB;have adN:s.bJ.at'<B.list.length:=I;obtain⟨x,hx⟩:=bf B.list s.bJ.at' adN;have gF:=gI.list.1;have ait:Cf (s.bJ.at':Int) 1:=⟨I,I⟩;refine aH ?_;rw[show(s.bJ.at':Int)+1=((s.bJ.at'+1:Nat):Int) by omega];obtain⟨t2,LD⟩:∃t2:iz,t2=⟨{t.f with at':=s.bJ.at'+1},t.a,t.c⟩:=⟨_,rfl⟩;have mq:mV (m.rows.flatMap sK) (rest.length*5+2) (U O ((s.bJ.at'+1:Nat):Int)) ((rest++[t2]).flatMap sK):=⟨by
   rw[gN ke Lm (k:=2) I (y:=t2) (by rw[LD];simp[sK]),hr.rows,my _ _ (bG _),dN,bW],by rw[cj ke];omega⟩
  unfold lx;rw[vx];have ZJ:∀(aka B:bN) (Y:List bN),oI (aka::B::M (Z ⟨fb,fo,A⟩) m.rows.length m.fc 206 5 (m.rows.flatMap sK)::Y) fb (fo+rest.length*5+2) 2 fo (rest.length*5+2) m.rows.length m.fc 206 5 (m.rows.flatMap sK):=λ_ _ _=>⟨rfl,I⟩;refine aE ?_;obtain⟨m2,Nq⟩:∃m2:iG,m2={m1 with rows:=rest++[t2]}:=⟨_,rfl⟩;have VT:Km m2 (ky (tick s)) rest t2:=by
   rw[Nq,Fo];exact⟨rfl,hr.below,by rw[LD];simp only[ky,tick,<-Et],hr.mem,hr.dr,hr.out,by simp only[ky,tick,SN],hr.lF,hr.zero⟩
  obtain⟨adZ,hf2⟩:=M_ (Cc cY) (s:=tick s) hf hB adN;have hE:qM t2=qM t:=by rw[LD];rfl
  have adS:dt p g (J ua ul uc) av m2=K p [g,J ua ul uc,av,J m.ma m.mem.length m.mc,m.iv,U O m.state,U O m.value,J m.oa m.out.length m.oc,U O ((m.steps+1:Nat):Int),J (Z ⟨fb,fo,A⟩) m.rows.length m.fc,J m.ca m.cs.length m.cc] 168::M (Z ⟨fb,fo,A⟩) m.rows.length m.fc 206 5 ((rest++[t2]).flatMap sK)::kz m::jx m::kJ m::(m.rows.map qM++m.cs.map mQ):=by
   rw[Nq,Fo];simp only[dt,uY,lx,kz,jx,kJ,vx,hr.rows,bX,j_,bz,bT,dn,hE]
  have ajt:fy (K b4 [J pa pn pc,J la ln lc,U O B.kind,D B.on.z,U O B.on.n,J ta tn tc] 46::dt p g (J ua ul uc) av m2) fb (fo+rest.length*5+2) (U O ((s.bJ.at'+1:Nat):Int)):=⟨λ_ _ w' ek=>by
   rw[adS]at ek;rw[dI];have:=ek.cL (k:=2) rfl (fB ke (rest++[t2]) rest.length t2 2 _ aC rfl);rw[LD]at this;exact this⟩
  have ahD:=gI.list.2 x (aq hx);obtain⟨_,hxc,xv,rfl,_,_,_,_,_,hxv⟩:=Ak s.bJ.at' x hx;have aio:bU la lb lo:=⟨I6 (aL hx)⟩;have Np:bY s.bJ.at' ln:=⟨I⟩;have aiH:a6 wz lb (lo+s.bJ.at'*8) _:=⟨hxc⟩;have ajy:eS S lb:=e_.old hxc;refine fC (H1:=K b4 [J pa pn pc,J la ln lc,U O B.kind,D B.on.z,U O B.on.n,J ta tn tc] 46::dt p g (J ua ul uc) av m2) (by rw[adS]) ?_;refine dQ [K b4 [J pa pn pc,J la ln lc,U O B.kind,D B.on.z,U O B.on.n,J ta tn tc] 46] (λy:iG×Bool=>AW m2 (kY u (ky (tick s)) x) y) (λy=>[(2,D y.2)]) (λy=>dt p g (J ua ul uc) av y.1) mixed aw ?_ λy hy=>?_
  ·skip
   refine ag 0 ?_;refine ag 1 ?_;refine ag 2 ?_;refine ag 3 ?_;refine ag 4 ?_;refine ag 5 ?_;refine cm 6 ai (fO 6 rfl aw ?_);refine c8 (h:=tA I I) 7 rfl ai aw ?_;rw[show((s.bJ.at'+1:Nat):Int)-1=(s.bJ.at':Int) by omega];refine ag 8 ?_;refine ag 9 ?_;refine fC (H1:=[K b4 [J pa pn pc,J la ln lc,U O B.kind,D B.on.z,U O B.on.n,J ta tn tc] 46]++dt p g (J ua ul uc) av m2) rfl ?_;refine bi (cP (l₁:=[_])) ?_;refine Nc 10 (H1:=dt p g (J ua ul uc) av m2) (val:=λy:iG×Bool=>.bool y.2) (akg:=λy=>dt p g (J ua ul uc) av y.1) (φ:=λy=>AW m2 (kY u (ky (tick s)) x) y) e_ rfl ai aK (λEU w od hle _ hw=>aci od u hu p g _ av (adA.le nC hle) m2 (ky (tick s)) rest t2 VT adZ (by simp only[ky,tick];omega) X R hf2 (by rw[Nq,Fo];exact oA.le lM hle) x ahD _ (hxv.le zf hle) w hw) λy hy=>?_;refine c8 11 rfl ai (sP _ _) ?_;refine eA ai ?_;exact dS y hy ap (eI _ _)
  ·skip
   refine aH ?_;refine cE rfl λw' ek=>⟨y,rfl,ek,?_⟩;rw[lK,hx];have h9:=hy;rw[Nq,Fo]at h9;exact h9
theorem XK(v:V)(l:List aY)(w0:C)(hv:aG w0 v 4 l gq):
  eP ae 32 [v,.func (.func 130) #[] #[]] w0 (U O (dh l)):=by
 obtain⟨a,n,c,b,o,rfl,hn,qP,GM,hc,ha,ji⟩:=hv;have one:∀(w:C) (x:aY) (v:V),eP ae 130 [au #[G x.name,U O x.params,U O x.aB,v]] w (D (sF x)):=by
  intro w x v;refine aM func130 rfl ntmps130 rfl (Wd.nil cX w) ?_
  repeat(first|refine aH ?_|refine dZ λ_ _=>?_)
  exact bP rfl rfl
 refine aM func32 rfl ntmps32 rfl (Wd.nil cX w0) ?_;refine aH ?_;refine bL (λ(i:Nat)=>i<=n/\∀j t,j<i->l[j]?=Z t->sF t=false) (λi=>[(8,U O i),(0,J a n c),(1,.func (.func 130) #[] #[]),(7,U O n)]) (λ_=>[]) (λi=>n-i) 0 ⟨aT _,by simp⟩ (aS ap aC) λi ⟨hi,cU⟩=>?_;refine aU ?_;refine aI (λh1=>?_) (λh1=>?_)
 ·have bS:i<n:=ax h1
  obtain⟨x,hx⟩:=et hn bS;have oW:bU a b o:=⟨ha (aL hx)⟩;have lY:bY i n:=⟨bS⟩;obtain⟨cs,fT,bv,rfl,_⟩:=ji i x hx;have n_:a6 w0 b (o+i*4) _:=⟨fT⟩;refine aH ?_;refine lH rfl (us:=[]) (vs:=[au #[G x.name,U O x.params,U O x.aB,bv]]) (xs:=[]) (λw _=>one w x bv) ?_;refine aU ?_;refine aI (λh2=>?_) (λh2=>?_)
  ·refine aE ?_
   refine bP rfl ?_;have:l.findIdx? sF=Z i:=by
    rw[List.findIdx?_eq_some_iff_getElem];have iJ:i<l.length:=I;have hxi:l[i]=x:=(az.1 hx).2;exact⟨iJ,by rw[hxi];exact h2,λj hj=>by have:=cU j l[j] hj (a_ I);simp[this]⟩
   simp[dh,this]
  ·refine aH ?_
   refine bj (i+1) ⟨bS,λj t hj ht=>?_⟩ I ap aC
   by_cases yZ:j=i
   ·subst yZ
    rw[hx]at ht;simp only[b_]at ht;subst ht;exact h2
   ·exact cU j t I ht
 ·have gP:i=n:=by have:=h1;simp at this;omega
  refine aE ?_;refine bP rfl ?_;have:l.findIdx? sF=A:=by
   rw[List.findIdx?_eq_none_iff];intro t ht;obtain⟨j,hj⟩:=bg ht;exact cU j t (by have:=(az.1 hj).1;omega) hj
  simp[dh,this]
theorem YC(u:a8)(hl:nA u)(h0:(dA u).1=0)(k:Nat)(X:aY)(hX:u.funcs[k]?=Z X)(hlen:X.blocks.length<=100)(rm:cT X.blocks)(g fs:V)(w0:C)(hg:aG w0 g 3 u.globals fg)(hf:aG w0 fs 4 u.funcs gq)(iN:bF w0 0 0 nI):
  iC ae 128 [au #[g,fs],U O k] w0 λu w'=>∃x:(Option Addr×Nat×Nat)×(Nat->Prop),u=.tuple #[J x.1.1 x.1.2.1 x.1.2.2,au #[U O 0,U O 0]]/\Wd cX w0 [⟨x.2,λw=>aG w (J x.1.1 x.1.2.1 x.1.2.2) 1 (be X.blocks) cN⟩] w'/\True:=by
 have yX:=hg;have wM:=hf;obtain⟨ga,gn,gc,gb,go,rfl,_⟩:=hg;obtain⟨fa,fn,fc,fb,fo,rfl,qq,Pp,Po,Zp,vx,uU⟩:=hf;have u2:k<fn:=by rw[qq];exact(az.1 hX).1
 have oW:bU fa fb fo:=⟨vx (aL hX)⟩;have lY:bY k fn:=⟨u2⟩;obtain⟨cs,fT,bv,rfl,hpi,hri,Ai⟩:=uU k X hX;have n_:a6 w0 fb (fo+k*4) _:=⟨fT⟩;refine aM func128 rfl ntmps128 rfl (Wd.nil cX w0) ?_
 repeat(first|refine aU ?_|refine dZ λ_ _=>?_)
 refine bB rfl (λw hw=>tO u hl _ _ w (yX.bZ dq hw.ch) (wM.bZ dG hw.ch) (iN.bZ hw.ch)) ?_;rw[nt h0]
 repeat(first|refine aE ?_|refine dZ λ_ _=>?_)
 refine bB rfl (λw _=>jX _ _ _ w) ?_;rw[show within (k:Int) 0 ((fn:Int)-1)=true by simp[within];omega];refine aH ?_;refine cZ (val:=λx:(Option Addr×Nat×Nat)×(Nat->Prop)=>.slice x.1.1 x.1.2.1 x.1.2.2) (akg:=λx=>[⟨x.2,λw=>aG w (J x.1.1 x.1.2.1 x.1.2.2) 1 (be X.blocks) cN⟩]) (φ:=λ_=>True) rfl (λw hw=>MV _ _ _ X.blocks _ w (Ai.bZ dH hw.ch) hlen rm) λx _=>?_;simp only[aW,aO];refine aE ?_;refine WE rfl λw' ek=>⟨x,rfl,ek.sub (dM qd),trivial⟩
end
section
set_option maxHeartbeats 8000000
section
theorem EV(akj:V)(m:Nat):(Builtin.zeroCells #[akj] m).toList=List.replicate m akj:=by
 apply ci;intro i;simp[Builtin.zeroCells,g_,eX]
 by_cases h:i<m
 ·simp[h,Nat.mod_one]
 ·simp[h]
section
variable {P:Program} {N:Nat} {ds:List Deferred} {S:Nat->Prop} {w0 w:C} {L:List (Nat×V)} {H Hr:List bN} {x y:Operand} {akd:Act->C->Prop} {l:List Oper} {bH:Nat} {listed:Array Bool}
theorem Wd.Wh(hW:Wd S w0 H w){T aj7 ty e jy:Nat}{kd:IntKind}{akj:V}(h:cI P T e 1 jy [akj])(hu:P.underlying aj7=Z (.int kd))(HN:akj.oneCell'=true){k:Nat}{ad:Option Addr}{n c:Nat}{xs:List V}(hk:H[k]?=Z (M ad n c e 1 xs))
  (m:Nat) (kM:(n+m)*jy<=140737488355328) (II:n+m<=140737488355328) (WW:0<jy):
  ∃a' c' w',(Builtin.append_ #[T,aj7] ty #[J ad n c,U O m]).run P w=.ok (J a' (n+m) c') w'/\Wd S w0 (H.set k (M a' (n+m) c' e 1 (xs++List.replicate m akj))) w':=by
 obtain⟨i,zz,hi,hz,fT,h2,h3⟩:=h.get;subst h3;obtain⟨BI,Ew⟩:=hW.get hk;rw[f_]at BI;have aaY:zz.cells= #[akj]:=by rw[fT]
 have Th:IntKind.i64.wrap (m:Int)=m:=uM _ I I;have abh:¬(281474976710656:Int)<(m:Int)*(i.bytes:Int):=by
  have:m*i.bytes<=(n+m)*i.bytes:=q_ _ I;have h9:((m*i.bytes:Nat):Int)<=140737488355328:=I;rw[Int.natCast_mul]at h9;omega
 have Xa:¬(m:Int)<0:=I;have qP:n<=c:=by rcases Ew with⟨_,h2,h3⟩|⟨_,_,_,_,h3,_⟩<;>omega
 have hlen:(xs++List.replicate m akj).length=(n+m)*1:=by simp[BI]
 have LJ:=EV akj;have grown:∀old,Wd S w0 (H.set k (M (Z ⟨w.heap.size,0,A⟩) (n+m) (grownCap w (n+m) old e) e 1 (xs++List.replicate m akj))) (w.drew.alloc (.cells (xs.toArray++(Builtin.zeroCells #[akj] m++Builtin.zeroCells #[akj] (grownCap w (n+m) old e-(n+m)))) e)):=by
  intro old;have gP:=grownCap_ge w (n+m) old e;have BZ:grownCap w (n+m) old e<=maxLen:=grownCap_le_maxLen w (n+m) old e (by simp[maxLen];omega);refine hW.lj hk ⟨rfl,rfl,rfl,by simp,λb hb _=>heap_alloc_old w.drew _ hb⟩ (λb hb=>?_) λw2 jg=>?_
  ·simp only[M,bu,b_]at hb
   subst hb;exact⟨.inr (bG _),by simp⟩
  ·have:=jg w.heap.size (by simp[M])
   refine⟨hlen,.inr ⟨w.heap.size,[],(Builtin.zeroCells #[akj] (grownCap w (n+m) old e-(n+m))).toList,rfl,gP,BZ,?_,?_⟩⟩
   ·rw[LJ];simp
   ·rw[this]
    have e1:(xs.toArray++(Builtin.zeroCells #[akj] m++Builtin.zeroCells #[akj] (grownCap w (n+m) old e-(n+m))))=([]++(xs++List.replicate m akj)++(Builtin.zeroCells #[akj] (grownCap w (n+m) old e-(n+m))).toList).toArray:=by
     apply Array.toList_inj.1;simp only[Array.toList_append,aO,LJ,dz]
    rw[e1];exact heap_alloc_new w.drew _
 have afj:¬((9223372036854775807:Int)<((n:Int)+(m:Int))):=I;have hai:∀w:C,(asIntOf (U O (m:Int))).run P w=.ok (O,(m:Int)) w:=λ_=>rfl
 by_cases h0:m=0
 ·subst h0
  refine⟨ad,c,w,?_,by rw[List.replicate_zero,cD,ef,mJ hk];exact hW⟩;have hw0:IntKind.i64.wrap 0=0:=Th;have afC:∀w:C,(asIntOf (U O 0)).run P w=.ok (O,0) w:=hai;cases ad<;>simp[Builtin.append_,run_underlying h.qx,run_underlying hu,sizeOf,typeInfo,hi,asInt,afC,hw0,qP,storeCells]
 by_cases s8:n+m<=c
 ·rcases Ew with⟨rfl,rfl,rfl⟩|⟨g,pre,sp,rfl,h4,h5,h6,h7⟩
  ·omega
  have lK:=run_storeCells_at P g (pre.length+n*i.size) e (List.replicate m akj) 0 (pre++xs++sp).toArray w h7 (by simp[BI,h2];omega) (λu hu'=>by rw[jK hu'];exact HN);simp only[ef,h2,f_]at lK;have etk:((pre++xs++sp).toArray.toList.take (pre.length+n)++List.replicate m akj++(pre++xs++sp).toArray.toList.drop (pre.length+n+(List.replicate m akj).length))=pre++(xs++List.replicate m akj)++sp.drop m:=by
   have e1:pre.length+n=(pre++xs).length:=by simp[BI]
   have e2:(pre++xs++sp).toArray.toList=(pre++xs)++sp:=rfl;rw[e1,e2,List.take_left,List.drop_append];simp[dz]
  rw[etk]at lK;refine⟨_,_,_,by simp[Builtin.append_,run_underlying h.qx,run_underlying hu,sizeOf,typeInfo,zeroValue,hi,hz,aaY,asInt,hai,Th,Xa,abh,h2,h0,s8,LJ,Addr.add_lit,lK];exact⟨⟨rfl,rfl⟩,rfl⟩,?_⟩;have bS:g<w.heap.size:=(fv.1 h7).1;have pU:∀cs,(w.setRow g cs).heap.size=w.heap.size:=λcs=>by simp[World.setRow]
  refine hW.lj hk ⟨rfl,rfl,rfl,by rw[pU];exact bG _,λb hb eQ=>setRow_other w g b _ (λe=>eQ (by simp[M,e]))⟩ (λb hb=>?_) λw2 jg=>?_
  ·simp only[M,bu,b_]at hb⊢
   subst hb;exact⟨.inl rfl,by rw[pU];exact bS⟩
  ·have:=jg g (by simp[M])
   refine⟨hlen,.inr ⟨g,pre,sp.drop m,rfl,s8,h5,?_,?_⟩⟩
   ·rw[eY]
    omega
   ·rw[this]
    have:=setRow_heap w g _ (pre++(xs++(List.replicate m akj++List.drop m sp))).toArray e _ h7;simpa using this
 ·rcases Ew with⟨rfl,rfl,rfl⟩|⟨g,pre,sp,rfl,h4,h5,h6,h7⟩
  ·have:xs=[]:=lk BI
   subst this;have gI:¬281474976710656<Builtin.nextslicecap m 0*i.bytes:=by
    have:=growslice_fits (need:=0+m) (old:=0) I kM;simp only[di]at this;omega
   have afk:¬(9223372036854775807:Int)<(m:Int):=I;have Zu:=grown 0;simp only[di,aO,Array.empty_append]at Zu⊢;refine⟨_,_,_,?_,Zu⟩;simp[Builtin.append_,run_underlying h.qx,run_underlying hu,sizeOf,typeInfo,zeroValue,hi,hz,aaY,asInt,hai,Th,Xa,abh,h2,h0,afk,gI,Question.forced,run_firstCells_none,newRow,grownCap]
  ·have gI:¬281474976710656<Builtin.nextslicecap (n+m) c*i.bytes:=by
    have:=growslice_fits (need:=n+m) (old:=c) I kM;omega
   have holds:∀j u,xs[j]?=Z u->w.drew.cell? ((⟨g,pre.length,A⟩:Addr).add j)=Z u:=λj u hj=>by
    rw[Addr.add_lit];exact hW.cL hk hj
   have W4:=run_firstCells_some (P:=P) w.drew i.size n ⟨g,pre.length,A⟩ n c xs (by rw[h2,f_];exact BI) holds;rw[h2]at W4;refine⟨_,_,_,?_,grown c⟩;simp[Builtin.append_,run_underlying h.qx,run_underlying hu,sizeOf,typeInfo,zeroValue,hi,hz,aaY,asInt,hai,Th,Xa,abh,h2,h0,s8,afj,gI,Question.forced,W4,newRow,grownCap]
theorem P9{d ty T aj7 e jy:Nat}{kd:IntKind}{akj:V}{pos:String}{aft:Array Go.Edge}{ad:Option Addr}{n c m:Nat}(i0:Nat){k:Nat}{xs:List V}[ho:dF l i0 ⟨Z d,.call {callee:=.builtin .append,args:=#[x,y],argTypes:=#[T,aj7]},ty,pos,aft,A⟩][h:cI P T e 1 jy [akj]][hx:Ev L x (J ad n c)][hy:Ev L y (U O m)]
  [hv:u7 H ad n c k e 1 xs] (hu:P.underlying aj7=Z (.int kd)) (hd:dy d N L=true) (HN:akj.oneCell'=true) (kM:(n+m)*jy<=140737488355328) (II:n+m<=140737488355328) (WW:0<jy) (hH:∀e',Hr.Sublist (H.set k e'))
  (kk:∀a' c',aki N ds S w0 ((d,J a' (n+m) c')::L) (H.set k (M a' (n+m) c' e 1 (xs++List.replicate m akj))) (wpAnyH P .any l.toArray (dK akd) (Wd S w0 Hr) bH (listed.setIfInBounds i0 true))):aki N ds S w0 L H (j5 P l akd (Wd S w0 Hr) bH listed i0):=
 vL i0 rfl λa w hS=>by
  obtain⟨a',c',w',hr,ek⟩:=hS.wd.Wh (P:=P) (ty:=ty) h hu HN hv.at' m kM II WW;exact⟨J a' (n+m) c',w',by simp[execOp,resolve,invoke,builtin,hx.eq _ _ _ hS.fr,hy.eq _ _ _ hS.fr,hr],ek.sub (hH _),kk a' c' _ _ ⟨hS.fr.eo hd _,ek⟩⟩
theorem Hh{d ty T e jy n:Nat}{z1 z2:Int}{akj:V}{pos:String}{aft:Array Go.Edge}(i0:Nat)[ho:dF l i0 ⟨Z d,.makeSlice T x y,ty,pos,aft,A⟩][h:cI P T e 1 jy [akj]][hx:Ev L x (U O z1)][HN:lB z1 n][hy:Ev L y (U O z2)][PD:lB z2 n](hd:dy d N L=true)(hb:jy*n<=281474976710656)(hm:n<=140737488355328)(hH:Hr.Sublist H)
  (k:∀b,w0.heap.size<=b->aki N ds S w0 ((d,J (Z ⟨b,0,A⟩) n n)::L) (M (Z ⟨b,0,A⟩) n n e 1 (List.replicate n akj)::H) (wpAnyH P .any l.toArray (dK akd) (Wd S w0 Hr) bH (listed.setIfInBounds i0 true))):aki N ds S w0 L H (j5 P l akd (Wd S w0 Hr) bH listed i0):=
 vL i0 rfl λa w hS=>by
  obtain⟨i,zz,hi,Tn,fT,h1,h2⟩:=h.get;have h3:=hx.eq _ _ _ hS.fr;have h4:=hy.eq _ _ _ hS.fr;rw[HN.eq]at h3;rw[PD.eq]at h4;have Si:(i.bytes:Int)*(n:Int)<=281474976710656:=by
   have e:((jy*n:Nat):Int)<=281474976710656:=I;rw[Int.natCast_mul]at e;rw[h2];exact e
  have hr:=run_make (P:=P) w T e i zz h.qx hi Tn O O (n:Int) (n:Int) I (Int.le_refl _) Si I;have nK:madeCells zz.cells ((n:Int).toNat*i.size)=(List.replicate n akj).toArray:=by
   have:=py [akj] n;rw[h1,fT,dO];simp only[j_]at this;rw[show(List.replicate n [akj]).flatten=List.replicate n akj by simp]at this;rw[<-this]
  have hv:=hS.wd.yd e 1 n (List.replicate n akj) (by rw[dm,f_]) (by unfold maxLen;omega);refine⟨J (Z ⟨w.heap.size,0,A⟩) n n,w.alloc (.cells (List.replicate n akj).toArray e),?_,hv.sub (hH.trans (dR _ _)),k _ hS.wd.size _ _ ⟨hS.fr.eo hd _,hv⟩⟩;simp only[dO]at hr nK;simp[execOp,h3,h4,hr,nK]
end
structure KC where
 a:Option Addr
 n:Nat
 c:Nat
 fp:Nat->Prop
 l:List (List Int)
def AN(t:KC):V:=.slice t.a t.n t.c
def x9(t:KC):bN:=⟨t.fp,λw=>aG w (J t.a t.n t.c) 1 t.l cN⟩
theorem YD{S:Nat->Prop}{w0 w:C}{ts:List KC}{a:Option Addr}{n c e:Nat}{H:List bN}(h:Wd S w0 (M a n c e 1 (ts.map AN)::(ts.map x9++H)) w)(hn:n=ts.length)(hb:n<=100):aG w (J a n c) 1 (ts.map (·.l)) OP:=by
 refine h.oH (k:=0) rfl (ax hn) I λi x hx=>?_;rw[aJ]at hx;obtain⟨t,ht,rfl⟩:=cA.1 hx;refine⟨[AN t],λj v hj=>?_,AN t,rfl,?_⟩
 ·match j,hj with
  |0,hj=>simpa[ht]using hj
 ·exact h.ok (x9 t) (cO _ (ct _ (aV.2 ⟨t,aq ht,rfl⟩))) _ (bG _) λ_ _=>rfl
section
variable {P:Program} {ro:Option Nat} {N:Nat} {ds:List Deferred} {S:Nat->Prop} {w0:C} {L:List (Nat×V)} {H:List bN} {Q:Exit->Act->C->Prop}
theorem aay{α:Type}{c y:Code}(φ:α->Prop)(Lx:α->List (Nat×V))(Hx:α->List bN)(h1:aki N ds S w0 L H (Code.wpIn (FW ro) 0 P c (Exit.then (aac N ds S w0 φ Lx Hx) Q)))(h2:∀x,φ x->aki N ds S w0 (Lx x) (Hx x) (Code.wpIn (FW ro) 0 P y Q)):aki N ds S w0 L H (Code.wpIn (FW ro) 0 P c (Exit.then (Code.wpIn (FW ro) 0 P y Q) Q)):=λa w hS=>
 Code.wpIn_mono (λe a' w' q=>by
  cases e with
  |normal=>obtain⟨x,hx,hS'⟩:=q;exact h2 x hx a' w' hS'
  |_=>exact q) (h1 a w hS)
theorem yR{fn:Func}{R:V->C->Prop}{q s T2 n2 b2 j2 bt2 t T n b j bt:Nat}{u:V}{cs E4:List V}(hr:fn.results= #[.tmp q,.cell s T2,.cell t T])[hq:gR L q u][hu:gR L s (ar (Z ⟨b2,0,A⟩))][h2:eD P T2 n2][xd:nr H b2 j2 E4 bt2][HI:lA E4 n2][hv:gR L t (ar (Z ⟨b,0,A⟩))][h:eD P T n][hb:nr H b j cs bt][hl:lA cs n](hR:∀w,Wd S w0 H w->R (.tuple #[u,au E4.toArray,au cs.toArray]) w):aki N [] S w0 L H (bodyPost P fn (λe w'=>∃v,e=.returned v/\R v w') .ret):=λa w hS=>by
 refine⟨hS.fr.defers,_,?_,_,rfl,hR w hS.wd⟩;have h3:=nF (P:=P) (T:=T) (b:=b) (cs:=cs) hS.wd;have h4:=nF (P:=P) (T:=T2) (b:=b2) (cs:=E4) hS.wd;simp[results,hr,tK,hS.fr.slot _ hv.mem,hS.fr.slot _ hu.mem,hS.fr.slot _ hq.mem,asAddr,h3,h4]
end
theorem Ml{α:Type}(w x8 x7 x3 me av cs fr ot:α)(T akh:List α):((w::x8::x7::x3::me::av::cs::(T++akh))++[fr]++[ot]).Perm ((w::fr::me::ot::cs::([]++akh))++(av::(T++[x8,x7,x3]))):=by
 classical
 exact aP.2 λakj=>by simp only[bC,br,cq];omega
theorem Qd{α:Type}(w x8 x7 x3 fr me ot cs av:α)(F T akh:List α):((w::fr::me::ot::cs::(F++akh))++(av::(T++[x8,x7,x3]))).Perm (w::x8::x7::ot::cs::(akh++(fr::me::av::x3::(F++T)))):=by
 classical
 exact aP.2 λakj=>by simp only[aW,bC,br,cq];omega
structure yt(u:a8):Prop where
 vt:u.globals.length<=10
 IE:∀g∈u.globals,(g.init.length:Int)<=g.size/\g.size<=200
 init:∀g∈u.globals,∀x∈g.init,dk x
 funcs:u.funcs.length<=10
 main:∃(fm:Nat) (akd:aY),dh u.funcs=fm/\u.funcs[fm]?=Z akd
theorem P0{l:List jt}{i:Nat}{x:jt}(h:l[i]?=Z x):uj (l.take (i+1))=uj (l.take i)++(x.init++List.replicate (x.size.toNat-x.init.length) 0):=by
 simp[uj,cz,h]
theorem Dw{l:List jt}(h:∀g∈l,(g.init.length:Int)<=g.size/\g.size<=200):(uj l).length<=200*l.length:=by
 induction l with
 |nil=>simp[uj]
 |cons g l ih=>
  have h1:=h g aC;have h2:=ih λx hx=>h x (cO _ hx);simp only[uj,gZ,bX,dm,gk]at h2⊢;omega
theorem NJ{l:List jt}(h:∀g∈l,∀x∈g.init,dk x):∀x∈uj l,dk x:=λx hx=>by
 obtain⟨g,hg,hx⟩:=df.1 hx;rcases bA.1 hx with h1|h1
 ·exact h g hg x h1
 ·rw[jK h1];simp[dk]
theorem start_eq{u:a8}{fm R:Nat}{akd:aY}(hm:dh u.funcs=fm)(hM:u.funcs[fm]?=Z akd)(hR:akd.aB=R)(dr:List Int):jA u dr=⟨uj u.globals,dr,[],0,[],⟨fm,0,0,eN R [],-1⟩,bump (u.funcs.map λX=>List.replicate X.blocks.length 0) fm 0⟩:=by
 unfold jA;simp only[hm,dO,hM,hR];simp[eN]
theorem vR{u:a8}(hu:jH u)(hs:yt u){dr:List Int}(oA:∀x∈dr,dk x):ja u 1 (jA u dr):=by
 obtain⟨fm,akd,hm,hM⟩:=hs.main;obtain⟨R,gI⟩:=hu.2 fm akd hM;rw[start_eq hm hM gI.aB];refine⟨⟨akd,R,⟨hM,gI,w8 _ _,gI.pos,Fb aC,by simp[dk],λ_ _=>aT _⟩⟩,by simp,?_,Cu (c:=0) ⟨by simp,λk X hX=>⟨_,by rw[aJ,hX];rfl,by simp,λx hx=>by rw[jK hx];exact bG _⟩⟩ _ _,by simp,by simp,⟨?_,NJ hs.init⟩,oA⟩
 ·intro i p q h1 h2
  simp at h1 h2
 ·have:=Dw hs.IE
  have h9:=hs.vt;show(uj u.globals).length<=100000;omega
end
end
end Go.Proofs.YthfhgolkafpmnaaGreatDoor
