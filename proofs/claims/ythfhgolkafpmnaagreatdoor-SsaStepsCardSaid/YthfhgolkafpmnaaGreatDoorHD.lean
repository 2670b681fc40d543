/- Texts joined: RunE RunF RunG RunH Grow RunS. -/
import Derived.Test.YthfhgolkafpmnaaGreatDoorGD
import Derived.Test.YthfhgolkafpmnaaGreatDoorGM
import Derived.Test.YthfhgolkafpmnaaGreatDoorHA
import Derived.Test.YthfhgolkafpmnaaGreatDoorHC
namespace Go.Proofs.YthfhgolkafpmnaaGreatDoor
section
open Go Go.RowKit
attribute [local irreducible] wpListIn Code.wpIn Exit.then Exit.inBlock bodyPost wpQuiet wpAnyIn wpAnyH bodyPostM gX
set_option maxHeartbeats 8000000
structure HC(m:gQ)(s:js)(rest:List gL)(t:gL):Prop where
 rows:m.rows=rest++[t]
 below:rest.map (·.f)=s.rest
 bF:t.f=s.bF
 mem:m.mem=s.mem
 cX:m.cX=s.cX
 out:m.out=s.out
 steps:m.steps=s.steps
 kB:m.cs.map (·.l)=s.counts
 zero:m.state=0/\m.value=0
structure DI(m:gQ)(f:Fin):Prop where
 state:m.state=f.state
 value:m.value=f.value
 out:m.out=f.out
 steps:m.steps=f.steps
 kB:m.cs.map (·.l)=f.counts
def HN(v v':Value)(l l':List Int):Prop:=(v'=v/\l'=l)∨∃(a a':Option Addr) (n c:Nat),v=.slice a n c/\l≠[]/\v'=.slice a' (n-1) (c-1)/\l'=l.tail/\∀b o,1<c->a=some ⟨b,o,none⟩->a'=some ⟨b,o+1,none⟩
theorem HN.sl{w:World}{v v':Value}{l l':List Int}(h:HN v v' l l')(hs:aM w v 1 l fj):aM w v' 1 l' fj:=by
 rcases h with⟨rfl,rfl⟩|⟨a,a',n,c,rfl,eH,rfl,rfl,ha'⟩
 ·exact hs
 ·obtain⟨a0,n0,c0,b,o,e,hn,pE,hb,hc,ha,iK⟩:=hs
  simp only[Value.slice.injEq]at e;obtain⟨rfl,rfl,rfl⟩:=e;have dS:=rR.2 eH;refine⟨a',n-1,c-1,b,o+1,rfl,by rw[List.length_tail,hn],ag,ag,ag,λht=>?_,λi x hx=>?_⟩
  ·refine ha' b o ?_ (ha eH)
   have:=rR.2 ht;rw[List.length_tail]at this;omega
  ·rw[List.getElem?_tail]at hx
   obtain⟨cs,h1,h2⟩:=iK (i+1) x hx;exact⟨cs,by rw[show o+1+i*1=o+(i+1)*1 by omega];exact h1,h2⟩
def yK(m:gQ)(r:js ⊕ Fin)(x:gQ×Bool):Prop:=HN m.iv x.1.iv m.cX x.1.cX/\match r with
 | .inl s'=>x.2=true/\∃rest t,HC x.1 s' rest t
 | .inr f=>x.2=false/\DI x.1 f
theorem Fp{u:a7}(hu:iZ u){m:gQ}{s:js}{rest:List gL}{t:gL}(hr:HC m s rest t){c:Nat}(h:ij u c s)(hc:c<=s.steps+1)(hs:s.steps<=1000000):m.Bd:=by
 have Eh:∀r∈m.rows,∃X R,l8 u r.f X R:=λr hm=>by
  rw[hr.rows]at hm;rcases bL.1 hm with hm|hm
  ·exact h.rest r.f (by rw[<-hr.below];exact aX.2 ⟨r,hm,rfl⟩)
  ·rw[bU.1 hm,hr.bF];exact h.bF
 refine⟨?_,λr hm=>?_,by rw[hr.mem];exact h.mem,?_,?_,λr hm=>?_,by rw[hr.steps];exact hs⟩
 ·have:=h.deep
  rw[<-hr.below,aG]at this;rw[hr.rows];simp;omega
 ·obtain⟨X,R,hf⟩:=Eh r hm
  have:=hf.fit.le;exact⟨by rw[hf.aF];omega,hf.ry,hf.dst⟩
 ·rw[hr.out];exact⟨by have:=h.out.1;omega,h.out.2⟩
 ·have:=h.kB.1
  rw[<-hr.kB,aG]at this;have:=hu.1;omega
 ·obtain⟨k,hk⟩:=br hm
  have xz:=(aC.1 hk).1;have hl:=h.kB.1;rw[<-hr.kB,aG]at hl;obtain⟨l,h1,h2,h3⟩:=h.kB.2 k _ (aB ag);rw[<-hr.kB,aK,hk]at h1;have h1:r.l=l:=be h1;obtain⟨R,fW⟩:=hu.2 k _ (aB (by omega:k<u.funcs.length));have:=fW.Wo;exact⟨by rw[h1,h2];omega,λx hx=>by rw[h1]at hx;have:=h3 x hx;rw[hr.steps];omega⟩
theorem Rj{u:a7}{m:gQ}{s:js}{rest:List gL}{t:gL}(hr:HC m s rest t){c:Nat}(h:ij u c s){k:Nat}{X:aZ}(hX:u.funcs[k]?=some X):∃cr:qT,m.cs[k]?=some cr/\cr.l.length=X.blocks.length:=by
 obtain⟨l,h1,h2,_⟩:=h.kB.2 k X hX;rw[<-hr.kB,aK]at h1;obtain⟨cr,h3,rfl⟩:=cT.1 h1;exact⟨cr,h3,h2⟩
theorem DV(cs:List qT)(k b:Nat):(k6 cs k b).map (·.l)=bump (cs.map (·.l)) k b:=by
 unfold k6 bump;apply cf;intro i;rw[aK,lG,lG,aK];cases cs[i]? with
 |none=>rfl
 |some r=>by_cases e:k=i<;>simp[e]
theorem AG{S:Nat->Prop}{wz:World}(fv:Clean S wz)(u:a7)(hu:iZ u)(p:Nat)(g fs av:Value)(xV:aM wz fs 4 u.funcs gg)(B9:aM wz av 1 (lE u) Lt)(m:gQ)(s:js)(rest:List gL)(t:gL)(hr:HC m s rest t)(cW:ij u s.steps s)(hs:s.steps<=1000000)(X:aZ)(R:Nat)(hf:l8 u s.bF X R)(to:Nat)(T:ar)(hg:Si X s.bF.block to T)(w:World)(hw:Wd S wz (c_ p g fs av m) w):
  gV Tryz.prog 172 [.pointer (some ⟨p,0,none⟩),.int .i64 to] w λu' w'=>∃x:gQ,u'=.tuple #[]/\Wd S wz (c_ p g fs av x) w'/\(x.iv=m.iv/\x.cX=m.cX/\∃rest t,HC x (rj u s to) rest t):=by
 have hb:=Fp hu hr cW (Nat.le_succ _) hs;obtain⟨cr,AN,mw⟩:=Rj hr cW hf.get;rw[<-hr.bF]at hf hg;have hX:Zw u t.f X R:=⟨hf.get,hf.fit.ok,hf.aF⟩;have xC:=(aC.1 hg.get).1;rw[<-hr.bF]at AN;refine(Yu fv u p g fs av xV B9 m hb hr.rows X R hX hf.fit.Wo to T hg.get hg.mem (hf.fit.eo T (aA hg.get)).aL.1 cr AN ag w hw).mono λu' w' ⟨_,h1,h2,_⟩=>⟨_,h1,h2,rfl,rfl,rest,⟨{t.f with aF:=iD t.f ((bf X.blocks to).idxOf t.f.block) T.aL,block:=to,at':=0},t.a,t.c⟩,?_⟩;rw[GJ (by rw[<-hr.bF];exact hf.get) hg.get];exact⟨rfl,hr.below,by rw[<-hr.bF],hr.mem,hr.cX,hr.out,hr.steps,by rw[DV,hr.kB,<-hr.bF],hr.zero⟩
theorem M1{m:gQ}{s:js}{rest:List gL}{t:gL}(hr:HC m s rest t):(rest=[]/\s.rest.getLast?=none)∨∃Dy t',rest=Dy++[t']/\s.rest.getLast?=some t'.f/\s.rest.dropLast=Dy.map (·.f):=by
 rcases List.eq_nil_or_concat rest with rfl|⟨r',t',rfl⟩
 ·left
  have:=hr.below;simp at this;exact⟨rfl,by rw[this];rfl⟩
 ·right
  refine⟨r',t',by simp,?_,?_⟩
  ·rw[<-hr.below];simp
  ·rw[<-hr.below];simp
theorem YX{S:Nat->Prop}{wz:World}(fv:Clean S wz)(u:a7)(hu:iZ u)(p:Nat)(g fs av:Value)(xV:aM wz fs 4 u.funcs gg)(B9:aM wz av 1 (lE u) Lt)(m:gQ)(s:js)(rest:List gL)(t:gL)(hr:HC m s rest t)(cW:ij u s.steps s)(hs:s.steps<=1000000)(X:aZ)(R:Nat)(hf:l8 u s.bF X R)(B:ar)(hB:X.blocks[s.bF.block]?=some B)(tv:Value)(VO:aM wz tv 1 B.to fj)(w:World)(hw:Wd S wz (c_ p g fs av m) w):
  gV Tryz.prog 158 [.pointer (some ⟨p,0,none⟩),.agg #[.int .i64 B.kind,.bool B.on.bD,.int .i64 B.on.n,tv]] w λu' w'=>∃x:gQ×Bool,u'=.bool x.2/\Wd S wz (c_ p g fs av x.1) w'/\yK m (k8 u s B) x:=by
 have hb:=Fp hu hr cW (Nat.le_succ _) hs;obtain⟨_,fb,fo,uN,_⟩:=uu (H:=[]) (by rw[cq];exact hw) hb hr.rows;have hlen:m.rows.length=rest.length+1:=by rw[hr.rows];simp
 have fW:=hf.fit.eo B (aA hB);have r7:∀w,Wd S wz (c_ p g fs av m) w->sW w p fb fo m.rows.length t:=λw hw=>yG (H:=[]) (by rw[cq];exact hw) hb hr.rows uN;have PI:∀w,Wd S wz (c_ p g fs av m) w->fi Tryz.prog 157 [.pointer (some ⟨p,0,none⟩)] w (.pointer (some ⟨fb,fo+rest.length*5,none⟩)):=λw hw=>by
  have:=(r7 w hw).BU;rwa[hlen,Nat.add_sub_cancel]at this
 have zA:ik t.f.aF.length B.on:=by rw[hr.bF,hf.aF];exact fW.on.1
 obtain⟨ta,tn,tc,tb,yD,rfl,sN,Er,Ep,TC,wl,r6⟩:=VO;refine kL Tryz.func158 rfl Tryz.ntmps158 rfl hw ?_
 repeat(first|refine aO ?_|refine dX λ_ _=>?_)
 rename_i p3 _;have goto:∀(i:Nat) (hi:i<B.to.length),∃(to:Nat) (T:ar),B.to[i]?=some (to:Int)/\Si X s.bF.block to T:=λi hi=>by
  obtain⟨to,T,e,hg⟩:=Io hf hB (jK hi);exact⟨to,T,by rw[aB hi,e],hg⟩
 by_cases h2:B.kind=2
 ·rw[decide_eq_true h2]
  have xC:B.to.length=1:=by have:=fW.kind.2;omega
  obtain⟨to,T,jq,hg⟩:=goto 0 ag;obtain⟨_,Gy,rfl,_⟩:=r6 0 _ jq;have pY:bY ta tb yD:=⟨wl (aW jq)⟩;have zw:bZ 0 tn:=⟨ag⟩;have oQ:a_ wz tb (yD+0*1) _:=⟨Gy⟩;have Ca:eI S tb:=fv.old Gy;refine aO ?_;refine bj (dH (l₁:=[_])) ?_;refine iJ (H1:=c_ p g fs av m) (val:=λ_:gQ=>.tuple #[]) (E:=λx=>c_ p g fs av x) (φ:=λx=>x.iv=m.iv/\x.cX=m.cX/\∃rest t,HC x (rj u s to) rest t) fv rfl (λCG w mw hle _ hw=>AG mw u hu p g fs av (xV.le lV hle) (B9.le wZ hle) m s rest t hr cW hs X R hf to T hg w hw) λx hx=>?_;obtain⟨zB,Ce,hx3⟩:=hx;refine aO ?_;refine cA rfl λw' dO=>⟨(x,true),rfl,dO.sub (dY _ _),.inl ⟨zB,Ce⟩,?_⟩;unfold k8;rw[if_pos h2,show B.to.getD 0 0=(to:Int) by rw[cz,jq];rfl];exact⟨rfl,hx3⟩
 rw[decide_eq_false h2];refine aO ?_
 by_cases h3:B.kind=3
 ·rw[decide_eq_true h3]
  have xC:B.to.length=2:=by have:=fW.kind.2;omega
  refine aO ?_;refine bI rfl (λw hw=>yJ (r7 w (hw.sub (.cons _ (.refl _)))) B.on zA) ?_;refine aU ?_;rw[hr.bF]
  by_cases hv:cD s.bF B.on=0
  ·rw[show(!decide (cD s.bF B.on=0))=false by simp[hv]]
   obtain⟨to,T,jq,hg⟩:=goto 1 ag;obtain⟨_,Gy,rfl,_⟩:=r6 1 _ jq;have pY:bY ta tb yD:=⟨wl (aW jq)⟩;have zw:bZ 1 tn:=⟨ag⟩;have oQ:a_ wz tb (yD+1*1) _:=⟨Gy⟩;have Ca:eI S tb:=fv.old Gy;refine aO ?_;refine bj (dH (l₁:=[_])) ?_;refine iJ (H1:=c_ p g fs av m) (val:=λ_:gQ=>.tuple #[]) (E:=λx=>c_ p g fs av x) (φ:=λx=>x.iv=m.iv/\x.cX=m.cX/\∃rest t,HC x (rj u s to) rest t) fv rfl (λCG w mw hle _ hw=>AG mw u hu p g fs av (xV.le lV hle) (B9.le wZ hle) m s rest t hr cW hs X R hf to T hg w hw) λx hx=>?_;obtain⟨zB,Ce,hx3⟩:=hx;refine aO ?_;refine cA rfl λw' dO=>⟨(x,true),rfl,dO.sub (dY _ _),.inl ⟨zB,Ce⟩,?_⟩;unfold k8;rw[if_neg h2,if_pos h3,if_neg (by simp[hv]),show B.to.getD 1 0=(to:Int) by rw[cz,jq];rfl];exact⟨rfl,hx3⟩
  ·rw[show(!decide (cD s.bF B.on=0))=true by simp[hv]]
   obtain⟨to,T,jq,hg⟩:=goto 0 ag;obtain⟨_,Gy,rfl,_⟩:=r6 0 _ jq;have pY:bY ta tb yD:=⟨wl (aW jq)⟩;have zw:bZ 0 tn:=⟨ag⟩;have oQ:a_ wz tb (yD+0*1) _:=⟨Gy⟩;have Ca:eI S tb:=fv.old Gy;refine aO ?_;refine bj (dH (l₁:=[_])) ?_;refine iJ (H1:=c_ p g fs av m) (val:=λ_:gQ=>.tuple #[]) (E:=λx=>c_ p g fs av x) (φ:=λx=>x.iv=m.iv/\x.cX=m.cX/\∃rest t,HC x (rj u s to) rest t) fv rfl (λCG w mw hle _ hw=>AG mw u hu p g fs av (xV.le lV hle) (B9.le wZ hle) m s rest t hr cW hs X R hf to T hg w hw) λx hx=>?_;obtain⟨zB,Ce,hx3⟩:=hx;refine aO ?_;refine cA rfl λw' dO=>⟨(x,true),rfl,dO.sub (dY _ _),.inl ⟨zB,Ce⟩,?_⟩;unfold k8;rw[if_neg h2,if_pos h3,if_pos hv,show B.to.getD 0 0=(to:Int) by rw[cz,jq];rfl];exact⟨rfl,hx3⟩
 rw[decide_eq_false h3];have h1:B.kind=1:=by rcases fW.kind.1 with h|h|h<;>simp_all
 refine aO ?_;rw[decide_eq_true h1];refine aO ?_;refine fg (H1:=aj p3 [.int .i64 B.kind,.bool B.on.bD,.int .i64 B.on.n,.slice ta tn tc] 44::aj p [g,fs,av,.slice m.ma m.mem.length m.mc,m.iv,.int .i64 m.state,.int .i64 m.value,.slice m.oa m.out.length m.oc,.int .i64 m.steps,.slice m.fa m.rows.length m.fc,.slice m.ca m.cs.length m.cc] 168::kp m::jF m::iO m::jO m::(m.rows.map oV++m.cs.map lH)) rfl ?_;have Nz:m.rows[rest.length]?=some t:=by rw[hr.rows];simp
 have R5:fe (aj p3 [.int .i64 B.kind,.bool B.on.bD,.int .i64 B.on.n,.slice ta tn tc] 44::aj p [g,fs,av,.slice m.ma m.mem.length m.mc,m.iv,.int .i64 m.state,.int .i64 m.value,.slice m.oa m.out.length m.oc,.int .i64 m.steps,.slice m.fa m.rows.length m.fc,.slice m.ca m.cs.length m.cc] 168::kp m::jF m::iO m::jO m::(m.rows.map oV++m.cs.map lH)) fb (fo+rest.length*5+4) (.int .i64 t.f.dst):=⟨λ_ _ w' dO=>by
  have hk:(aj p3 [.int .i64 B.kind,.bool B.on.bD,.int .i64 B.on.n,.slice ta tn tc] 44::aj p [g,fs,av,.slice m.ma m.mem.length m.mc,m.iv,.int .i64 m.state,.int .i64 m.value,.slice m.oa m.out.length m.oc,.int .i64 m.steps,.slice m.fa m.rows.length m.fc,.slice m.ca m.cs.length m.cc] 168::kp m::jF m::iO m::jO m::(m.rows.map oV++m.cs.map lH))[2]?=some (ai (some ⟨fb,fo,none⟩) m.rows.length m.fc 206 5 (m.rows.flatMap qR)):=by rw[<-uN];rfl
  rw[dA];exact dO.cK hk (fy jv m.rows rest.length t 4 _ Nz rfl)⟩
 refine kE mixed aP ?_;refine j9 ?_;refine tK rfl (λw hw=>yJ (r7 w (hw.sub (.cons _ (.refl _)))) B.on zA) ?_;refine j9 ?_;refine tK rfl (λw hw=>PI w (hw.sub (.cons _ (.refl _)))) ?_;refine j9 ?_;refine aU ?_;have Xg:m.rows.length<=m.fc:=(hw.km (k:=1) (show(c_ p g fs av m)[1]?=some (ai (some ⟨fb,fo,none⟩) m.rows.length m.fc 206 5 (m.rows.flatMap qR)) by rw[<-uN];rfl)).2.1;have Td:CI rest.length m.fc:=⟨ag⟩;have hbr:=hb.rows;refine dR [] (λ_:Unit=>True) (λ_=>[(0,.pointer (some ⟨p,0,none⟩)),(5,.int .i64 (cD t.f B.on)),(6,.int .i64 t.f.dst),(3,.pointer (some ⟨p3,0,none⟩))]) (λ_=>aj p3 [.int .i64 B.kind,.bool B.on.bD,.int .i64 B.on.n,.slice ta tn tc] 44::aj p [g,fs,av,.slice m.ma m.mem.length m.mc,m.iv,.int .i64 m.state,.int .i64 m.value,.slice m.oa m.out.length m.oc,.int .i64 m.steps,.slice m.fa rest.length m.fc,.slice m.ca m.cs.length m.cc] 168::kp m::jF m::iO m::jO m::(m.rows.map oV++m.cs.map lH)) mixed ap ?_ λ_ _=>?_
 ·skip
  refine az 0 rfl aq ap ?_;refine az 1 rfl aq ap ?_;refine az 2 rfl aq ap ?_;refine az 3 rfl aq ap ?_;refine az 5 rfl aq ap ?_;refine az 6 rfl aq ap ?_;refine az 7 rfl aq ap ?_;refine kG 4 8 aq ?_ ?_;refine eY 4 rfl ap ?_;refine ck 8 aq (eY 8 rfl ap ?_);refine az 9 rfl aq ap ?_;refine az (h:=rE ag ag) 10 rfl aq ap ?_;rw[show(m.rows.length:Int)-1=(rest.length:Int) by omega];rotate_left;refine eY 8 rfl ap ?_;refine az 9 rfl aq ap ?_;refine az (h:=rE ag ag) 10 rfl aq ap ?_;rw[show(m.rows.length:Int)-1=(rest.length:Int) by omega];refine ck 4 aq (eY 4 rfl ap ?_);rotate_left
  all_goals
   refine az 11 rfl aq ap ?_;refine az 12 rfl aq ap ?_;refine az 13 rfl aq ap ?_;refine ck 14 aq (Ud 14 ap ?_);refine eF aq ?_;exact dN () trivial aw ag2
 obtain⟨m',Mb⟩:∃m':gQ,m'={m with rows:=rest}:=⟨_,rfl⟩;refine fg (H1:=aj p3 [.int .i64 B.kind,.bool B.on.bD,.int .i64 B.on.n,.slice ta tn tc] 44::aj p [g,fs,av,.slice m.ma m.mem.length m.mc,m.iv,.int .i64 m.state,.int .i64 m.value,.slice m.oa m.out.length m.oc,.int .i64 m.steps,.slice m.fa rest.length m.fc,.slice m.ca m.cs.length m.cc] 168::ai (some ⟨fb,fo,none⟩) m.rows.length m.fc 206 5 (m.rows.flatMap qR)::jF m::iO m::jO m::(m.rows.map oV++m.cs.map lH)) (by rw[<-uN];rfl) ?_;refine FU 2 rfl rest.length ag ?_;simp only[cn,bS];have Cv:(m.rows.flatMap qR).take (rest.length*5)=rest.flatMap qR:=by
  rw[(kC jv m.rows rest.length).1,hr.rows,List.take_left]
 rw[Cv];refine jp (L':=[(0,.pointer (some ⟨p,0,none⟩)),(5,.int .i64 (cD t.f B.on)),(6,.int .i64 t.f.dst),(3,.pointer (some ⟨p3,0,none⟩))]) (H':=aj p3 [.int .i64 B.kind,.bool B.on.bD,.int .i64 B.on.n,.slice ta tn tc] 44::c_ p g fs av m') aw ?_ ?_
 ·rw[Mb,hr.rows]
  unfold c_ sQ kp jF iO jO;simp only[uN,bB,bO,dp,dE];exact List.Sublist.cons_cons _ (dn (dn (dn (dn (dn (Ag (dZ _ _) _))))))
 have Co:k8 u s B=match s.rest.getLast? with|none=>.inr (s.stop 0 (cD s.bF B.on))|some t=>.inl {s with rest:=s.rest.dropLast,bF:=t.set s.bF.dst (cD s.bF B.on)}:=by
  unfold k8;rw[if_neg h2,if_neg h3];cases s.rest.getLast?<;>rfl
 refine fg (H1:=aj p3 [.int .i64 B.kind,.bool B.on.bD,.int .i64 B.on.n,.slice ta tn tc] 44::aj p [g,fs,av,.slice m'.ma m'.mem.length m'.mc,m'.iv,.int .i64 m'.state,.int .i64 m'.value,.slice m'.oa m'.out.length m'.oc,.int .i64 m'.steps,.slice m'.fa m'.rows.length m'.fc,.slice m'.ca m'.cs.length m'.cc] 168::kp m'::jF m'::iO m'::jO m'::(m'.rows.map oV++m'.cs.map lH)) rfl ?_;refine aU ?_;rcases M1 hr with⟨hr0,zw⟩|⟨Dy,t',AZ,Vv,hd'⟩
 ·rw[show decide ((m'.rows.length:Int)=0)=true by rw[Mb,hr0];rfl]
  refine aI ?_;refine bj (dH (l₁:=[_])) ?_;refine iJ (H1:=c_ p g fs av {m' with value:=cD t.f B.on}) (val:=λ_:Unit=>.bool false) (E:=λ_=>c_ p g fs av {m' with value:=cD t.f B.on,state:=0}) (φ:=λ_=>True) fv rfl (λCG w mw hle _ hw=>uJ p g fs av _ 0 w hw) λ_ _=>?_;refine aI ?_;refine cA rfl λw' dO=>⟨({m' with value:=cD t.f B.on,state:=0},false),rfl,dO.sub (dY _ _),.inl (by rw[Mb];exact⟨rfl,rfl⟩),?_⟩;rw[Co,zw];exact⟨rfl,rfl,by rw[hr.bF];rfl,by rw[Mb];exact hr.out,by rw[Mb];exact hr.steps,by rw[Mb];exact hr.kB⟩
 ·rw[show decide ((m'.rows.length:Int)=0)=false by rw[Mb,AZ];simp;omega]
  refine aO ?_;have mL:m'.Bd:=by
   rw[Mb];refine⟨by have:=hb.rows;simp only;omega,λr Db=>hb.aF r (by rw[hr.rows];exact cC _ Db),hb.mem,hb.out,hb.cs,hb.kB,hb.steps⟩
  have xU:0<=t.f.dst->t.f.dst<t'.f.aF.length:=by
   have h5:=cW.dst;rw[<-hr.below,AZ,<-hr.bF]at h5;simp only[bB,bO,dp]at h5;exact h5.last
  refine bj (dH (l₁:=[_])) ?_;refine iJ (H1:=c_ p g fs av m') (val:=λ_:Unit=>.tuple #[]) (E:=λ_=>c_ p g fs av {m' with rows:=Dy++[t'.set t.f.dst (cD t.f B.on)]}) (φ:=λ_=>True) fv rfl (λCG w mw hle _ hw=>B5 p g fs av m' mL (by rw[Mb,AZ]) t.f.dst (cD t.f B.on) xU w hw) λ_ _=>?_;refine aO ?_;refine cA rfl λw' dO=>⟨({m' with rows:=Dy++[t'.set t.f.dst (cD t.f B.on)]},true),rfl,dO.sub (dY _ _),.inl (by rw[Mb];exact⟨rfl,rfl⟩),?_⟩;rw[Co,Vv];refine⟨rfl,Dy,t'.set t.f.dst (cD t.f B.on),?_⟩;rw[Mb];exact⟨rfl,hd'.symm,by rw[<-hr.bF];rfl,hr.mem,hr.cX,hr.out,hr.steps,hr.kB,hr.zero⟩
theorem YY{S:Nat->Prop}{wz:World}(fv:Clean S wz)(u:a7)(hu:iZ u)(p:Nat)(g fs av:Value)(xV:aM wz fs 4 u.funcs gg)(m:gQ)(s:js)(rest:List gL)(t:gL)(hr:HC m s rest t)(cW:ij u s.steps s)(hs:s.steps<=1000000)(X:aZ)(R:Nat)(hf:l8 u s.bF X R)(mO:aM wz m.iv 1 m.cX fj)(x:en)(hx:DJ u R x)(xv:Value)(hxv:aM wz xv 2 x.args l9)(w:World)(hw:Wd S wz (c_ p g fs av m) w):
  gV Tryz.prog 159 [.pointer (some ⟨p,0,none⟩),.agg #[.int .i64 x.op,.int .i64 x.dst,.bool x.a.bD,.int .i64 x.a.n,.bool x.b.bD,.int .i64 x.b.n,.int .i64 x.fn,xv]] w λu' w'=>∃y:gQ×Bool,u'=.bool y.2/\Wd S wz (c_ p g fs av y.1) w'/\yK m (j5 u s x) y:=by
 have hb:=Fp hu hr cW (Nat.le_succ _) hs;obtain⟨_,fb,fo,uN,_⟩:=uu (H:=[]) (by rw[cq];exact hw) hb hr.rows;have hlen:m.rows.length=rest.length+1:=by rw[hr.rows];simp
 have r7:∀w,Wd S wz (c_ p g fs av m) w->sW w p fb fo m.rows.length t:=λw hw=>yG (H:=[]) (by rw[cq];exact hw) hb hr.rows uN;have zA:∀v,ik R v->ik t.f.aF.length v:=λv hv=>by rw[hr.bF,hf.aF];exact hv
 obtain⟨xa,xn,xc,xb,xo,rfl,Ym,Yo,Yn,hxc,Kv,PO⟩:=hxv;refine kL Tryz.func159 rfl Tryz.ntmps159 rfl hw ?_
 repeat(first|refine aU ?_|refine dX λ_ _=>?_)
 rename_i p3 _;refine kE mixed aP ?_;refine j9 ?_;refine tK rfl (λw hw=>yJ (r7 w (hw.sub (.cons _ (.refl _)))) x.a (zA _ hx.a)) ?_;refine j9 ?_;refine tK rfl (λw hw=>yJ (r7 w (hw.sub (.cons _ (.refl _)))) x.b (zA _ hx.b)) ?_;refine j9 ?_;refine aO ?_;have IN:=hr.bF;rw[IN];obtain⟨va,nz⟩:∃va,cD s.bF x.a=va:=⟨_,rfl⟩;obtain⟨vb,Ku⟩:∃vb,cD s.bF x.b=vb:=⟨_,rfl⟩;have aey:=qC hf hx.a hx.ry.2.1;have aez:=qC hf hx.b hx.ry.2.2.1;rw[nz]at aey⊢;rw[Ku]at aez⊢;have rf:=hb.mem.1;refine fg (H1:=aj p3 [.int .i64 x.op,.int .i64 x.dst,.bool x.a.bD,.int .i64 x.a.n,.bool x.b.bD,.int .i64 x.b.n,.int .i64 x.fn,.slice xa xn xc] 56::aj p [g,fs,av,.slice m.ma m.mem.length m.mc,m.iv,.int .i64 m.state,.int .i64 m.value,.slice m.oa m.out.length m.oc,.int .i64 m.steps,.slice m.fa m.rows.length m.fc,.slice m.ca m.cs.length m.cc] 168::kp m::jF m::iO m::jO m::(m.rows.map oV++m.cs.map lH)) rfl ?_;have hz:=hr.zero;have zr:∀(st:Int) (w':World),Wd S wz (c_ p g fs av {m with state:=st}++[aj p3 [.int .i64 x.op,.int .i64 x.dst,.bool x.a.bD,.int .i64 x.a.n,.bool x.b.bD,.int .i64 x.b.n,.int .i64 x.fn,.slice xa xn xc] 56]) w'->j5 u s x=.inr (s.stop st 0)->∃y:gQ×Bool,Value.bool false=.bool y.2/\Wd S wz (c_ p g fs av y.1) w'/\yK m (j5 u s x) y:=λst w' dO he=>
  ⟨({m with state:=st},false),rfl,dO.sub (dY _ _),.inl ⟨rfl,rfl⟩,by rw[he];exact⟨rfl,rfl,hz.2,hr.out,hr.steps,hr.kB⟩⟩
 by_cases Wy:x.op=18∨x.op=19
 ·have nZ:j5 u s x=if !within va 0 ((s.mem.length:Int)-1)then .inr (s.stop 3 0)else if x.op=19 then .inl {s with mem:=s.mem.set va.toNat vb}else .inl (s.set x.dst (s.mem.getD va.toNat 0)):=by
   unfold j5;simp only[nz,Ku];rw[if_pos Wy]
  refine Or.elim (Classical.em (x.op=18)) (λh=>?_) (λh=>?_);rw[decide_eq_true h];refine aI ?_;rotate_left;rw[decide_eq_false h];refine aO ?_;rw[decide_eq_true (Wy.resolve_left h)];refine aI ?_;rotate_left
  all_goals
   refine bI rfl (λw _=>jk va 0 ((m.mem.length:Int)-1) w) ?_
   by_cases mz:within va 0 ((m.mem.length:Int)-1)=true
   ·rw[mz]
    refine aO ?_;simp only[within,Bool.and_eq_true,decide_eq_true_eq]at mz;obtain⟨k,hk⟩:∃k:Nat,va=k:=⟨va.toNat,ag⟩;subst hk;obtain⟨y,hy⟩:∃y,m.mem[k]?=some y:=⟨_,aB ag⟩;have hwi:within (k:Int) 0 ((s.mem.length:Int)-1)=true:=by rw[<-hr.mem];simp[within];omega
    have Pf:bZ k m.mem.length:=⟨ag⟩;have adl:oJ m.mem k y:=⟨hy⟩;unfold jF;refine eW 3 rfl ag λmb mo Zl=>?_
    by_cases h19:x.op=19
    ·rw[decide_eq_true h19]
     rw[Zl];refine aI ?_;refine cA rfl λw' dO=>⟨({m with mem:=m.mem.set k vb},true),rfl,?_,.inl ⟨rfl,rfl⟩,?_⟩
     ·have h5:=dO.sub (dZ _ _)
      unfold c_ sQ jF;simp only[eA,Zl];exact h5
     ·rw[nZ,hwi]
      simp only[Bool.not_true,Bool.false_eq_true,if_false,if_pos h19,dD];exact⟨trivial,rest,t,hr.rows,hr.below,hr.bF,by simp only[hr.mem],hr.cX,hr.out,hr.steps,hr.kB,hr.zero⟩
    ·rw[decide_eq_false h19]
     rw[Zl];refine aO ?_;refine dR [aj p3 [.int .i64 x.op,.int .i64 x.dst,.bool x.a.bD,.int .i64 x.a.n,.bool x.b.bD,.int .i64 x.b.n,.int .i64 x.fn,.slice xa xn xc] 56] (λ_:Unit=>True) (λ_=>[(0,.pointer (some ⟨p,0,none⟩))]) (λ_=>c_ p g fs av {m with rows:=rest++[t.set x.dst y]}) mixed ap ?_ λ_ _=>?_
     ·skip
      refine az 0 rfl aq ap ?_;refine az 1 rfl aq ap ?_;refine az 2 rfl aq ap ?_;refine az 3 rfl aq ap ?_;refine az 4 rfl aq ap ?_;refine az 5 rfl aq ap ?_;refine az 7 rfl aq ap ?_;refine ck 6 aq (eY 6 rfl ap ?_);refine az 8 rfl aq ap ?_;refine ck 9 aq (eY 9 rfl ap ?_);refine fg (H1:=[aj p3 [.int .i64 x.op,.int .i64 x.dst,.bool x.a.bD,.int .i64 x.a.n,.bool x.b.bD,.int .i64 x.b.n,.int .i64 x.fn,.slice xa xn xc] 56]++c_ p g fs av m) (by unfold c_ sQ jF;rw[Zl];rfl) ?_;refine bj (dH (l₁:=[_])) ?_;refine J7 10 (val:=λ_:Unit=>.tuple #[]) (E:=λ_=>c_ p g fs av {m with rows:=rest++[t.set x.dst y]}) (φ:=λ_=>True) fv rfl aq ag2 (λCG w mw hle _ hw=>B5 p g fs av m hb hr.rows x.dst y (λh0=>by rw[IN,hf.aF];exact hx.dst h0) w hw) λ_ _=>?_;refine eF aq ?_;exact dN () trivial aw (dY _ _)
     refine aO ?_;refine cA rfl λw' dO=>⟨({m with rows:=rest++[t.set x.dst y]},true),rfl,dO,.inl ⟨rfl,rfl⟩,?_⟩;rw[nZ,hwi];simp only[Bool.not_true,Bool.false_eq_true,if_false,if_neg h19,dD];have Ti:s.mem.getD k 0=y:=by rw[<-hr.mem,cz,hy];rfl
     rw[Ti];exact⟨trivial,rest,t.set x.dst y,rfl,hr.below,by simp only[js.set,gL.set,IN],hr.mem,hr.cX,hr.out,hr.steps,hr.kB,hr.zero⟩
   ·have jl:within va 0 ((m.mem.length:Int)-1)=false:=by simpa using mz
    rw[jl];refine aO ?_;refine bj (H1:=c_ p g fs av m++[aj p3 [.int .i64 x.op,.int .i64 x.dst,.bool x.a.bD,.int .i64 x.a.n,.bool x.b.bD,.int .i64 x.b.n,.int .i64 x.fn,.slice xa xn xc] 56]) (dH (l₁:=[_])) ?_;refine iJ (H1:=c_ p g fs av m) (val:=λ_:Unit=>.bool false) (E:=λ_=>c_ p g fs av {m with state:=3}) (φ:=λ_=>True) fv rfl (λCG w mw hle _ hw=>uJ p g fs av m 3 w hw) λ_ _=>?_;refine aI ?_;refine cA rfl λw' dO=>zr 3 w' dO ?_;rw[nZ,<-hr.mem,jl]
    rfl
 obtain⟨acw,acx⟩:=not_or.1 Wy;rw[decide_eq_false acw];refine aO ?_;rw[decide_eq_false acx];refine aO ?_
 by_cases tj:x.op=20
 ·have nZ:j5 u s x=if s.rest.length+1=30 then .inr (s.stop 4 0)else .inl (s_ u s x.fn.toNat x.dst (x.args.map (cD s.bF))):=by
   unfold j5;simp only;rw[if_neg Wy,if_pos tj]
  have qd:m.rows.length=s.rest.length+1:=by rw[hlen,<-hr.below,aG]
  rw[decide_eq_true tj];refine aO ?_
  by_cases hd:s.rest.length+1=30
  ·rw[show decide ((m.rows.length:Int)=30)=true by simp;omega]
   refine aO ?_;refine bj (H1:=c_ p g fs av m++[aj p3 [.int .i64 x.op,.int .i64 x.dst,.bool x.a.bD,.int .i64 x.a.n,.bool x.b.bD,.int .i64 x.b.n,.int .i64 x.fn,.slice xa xn xc] 56]) (dH (l₁:=[_])) ?_;refine iJ (H1:=c_ p g fs av m) (val:=λ_:Unit=>.bool false) (E:=λ_=>c_ p g fs av {m with state:=4}) (φ:=λ_=>True) fv rfl (λCG w mw hle _ hw=>uJ p g fs av m 4 w hw) λ_ _=>?_;refine aI ?_;refine cA rfl λw' dO=>zr 4 w' dO ?_;rw[nZ,if_pos hd]
  ·rw[show decide ((m.rows.length:Int)=30)=false by simp;omega]
   obtain⟨fk,Y,oY,hY,B8⟩:=hx.call tj;refine aO ?_;refine fq 3 1 ?_;refine bP (λy:Nat×Option Addr×Nat=>y.1<=x.args.length) (λy=>[(88,.int .i64 y.1),(7,.slice y.2.1 y.1 y.2.2),(86,.slice xa xn xc),(87,.int .i64 xn),(6,.int .i64 vb),(5,.int .i64 va),(3,.pointer (some ⟨p3,0,none⟩)),(0,.pointer (some ⟨p,0,none⟩))]) (λy=>ai y.2.1 y.1 y.2.2 3 1 (((x.args.take y.1).map (cD s.bF)).map (.int .i64))::aj p3 [.int .i64 x.op,.int .i64 x.dst,.bool x.a.bD,.int .i64 x.a.n,.bool x.b.bD,.int .i64 x.b.n,.int .i64 x.fn,.slice xa xn xc] 56::aj p [g,fs,av,.slice m.ma m.mem.length m.mc,m.iv,.int .i64 m.state,.int .i64 m.value,.slice m.oa m.out.length m.oc,.int .i64 m.steps,.slice m.fa m.rows.length m.fc,.slice m.ca m.cs.length m.cc] 168::kp m::jF m::iO m::jO m::(m.rows.map oV++m.cs.map lH)) (λy=>x.args.length-y.1) (0,none,0) (aY _) (aV aw ag2) λy hi=>?_;obtain⟨i,na,nc⟩:=y;simp only at hi⊢;refine aU ?_;refine aN (λh1=>?_) (λh1=>?_)
   ·have Xx:i<xn:=by simpa using h1
    obtain⟨v,hv⟩:∃v,x.args[i]?=some v:=⟨_,aB ag⟩;obtain⟨_,VR,rfl,E7⟩:=PO i v hv;have aao:bY xa xb xo:=⟨Kv (aW hv)⟩;have adJ:bZ i xn:=⟨Xx⟩;have afI:a_ wz xb (xo+i*2) _:=⟨VR⟩;have agw:eI S xb:=fv.old VR;have adq:=hx.Wo
    repeat(first|refine aI ?_|refine dX λ_ _=>?_)
    refine bI rfl (λw hw=>yJ (r7 w (hw.sub (.cons _ (.cons _ (.cons _ (.refl _)))))) v (zA _ (hx.args v (aA hv)))) ?_;rw[IN]
    repeat(first|refine dX λ_ _=>?_)
    rename_i b9 _ bb9 _;refine gq 2 rfl rfl aq ag ag λQv Qx=>?_;simp only[cn,bS];refine aO ?_;refine bC (i+1,Qv,Qx) (by simp only;omega) (by simp only;omega) aw ?_;rw[yB hv];simp only[bB,bO,dp];exact List.Sublist.cons _ (.cons _ (.refl _))
   ·have gT:i=x.args.length:=by have:=h1;simp at this;omega
    subst gT;rw[cO];refine aI ?_;obtain⟨R',fW⟩:=hu.2 fk Y hY;obtain⟨cr,AN,W_⟩:=Rj hr cW hY;have abO:∀z∈x.args.map (cD s.bF),c9 z:=λz hz=>by
     obtain⟨v,hv,rfl⟩:=aX.1 hz;exact qC hf (hx.args v hv) (hx.ry.2.2.2 v hv)
    have VG:=fW.params;rw[oY];refine bj (H1:=c_ p g fs av m++[ai na x.args.length nc 3 1 ((x.args.map (cD s.bF)).map (.int .i64)),_]) (dH (l₁:=[_,_])) ?_;have adq:=hx.Wo;refine iJ (H1:=c_ p g fs av m) (val:=λ_:Option Addr×Nat×Option Addr×Nat=>.tuple #[]) (E:=λz=>c_ p g fs av {m with fa:=z.1,fc:=z.2.1,rows:=m.rows++[⟨⟨fk,0,0,ek R' (x.args.map (cD s.bF)),x.dst⟩,z.2.2.1,z.2.2.2⟩],cs:=k6 m.cs fk 0}) (φ:=λ_=>True) fv rfl (λCG w mw hle jl hw=>JV mw u p g fs av (xV.le lV hle) m hb fk Y hY R' fW.aF fW.le x.dst (x.args.map (cD s.bF)) na x.args.length nc (jl.nC (k:=0) rfl aH ag λi z hz=>⟨[.int .i64 z],λj v hj=>by
     match j,hj with
     |0,hj=>
      rw[aK,fB,dL,hz];simpa using hj,rfl,abO z (aA hz)⟩) (by rw[aG];omega) cr AN (by rw[W_];exact fW.pos) w hw) λz _=>?_
    refine aO ?_;refine cA rfl λw' dO=>⟨({m with fa:=z.1,fc:=z.2.1,rows:=m.rows++[⟨⟨fk,0,0,ek R' (x.args.map (cD s.bF)),x.dst⟩,z.2.2.1,z.2.2.2⟩],cs:=k6 m.cs fk 0},true),rfl,dO.sub (dY _ _),.inl ⟨rfl,rfl⟩,?_⟩;rw[nZ,if_neg hd,oY,dD,CU hY fW.aF];refine⟨rfl,m.rows,⟨⟨fk,0,0,ek R' (x.args.map (cD s.bF)),x.dst⟩,z.2.2.1,z.2.2.2⟩,rfl,?_,rfl,hr.mem,hr.cX,hr.out,hr.steps,by simp only;rw[DV,hr.kB],hr.zero⟩;rw[hr.rows,bB,hr.below,bO,dp,IN]
 rw[decide_eq_false tj];refine aO ?_;have IC:0<=x.dst->x.dst<t.f.aF.length:=λh0=>by rw[IN,hf.aF];exact hx.dst h0
 have qu:∀k:Int,x.op≠k->x.op≠k:=λ_ h=>h
 by_cases Z4:x.op=21
 ·have nZ:j5 u s x=.inl {s with bF:=s.bF.set x.dst (s.cX.headD (-1)),cX:=s.cX.tail}:=by
   unfold j5;simp only;rw[if_neg Wy,if_neg tj,if_pos Z4]
  rw[decide_eq_true Z4];obtain⟨ia,il,ic,ib,io,Kc,iQ,adz,ady,adw,R1,O_⟩:=mO;rw[Kc];refine aO ?_;cases XB:m.cX with
  |nil=>
   rw[XB]at iQ;rw[show decide ((0:Int)<(il:Int))=false by rw[iQ];rfl];refine aO ?_;rw[<-Kc];refine fg (H1:=[aj p3 [.int .i64 x.op,.int .i64 x.dst,.bool x.a.bD,.int .i64 x.a.n,.bool x.b.bD,.int .i64 x.b.n,.int .i64 x.fn,.slice xa xn xc] 56]++c_ p g fs av m) rfl ?_;refine bj (dH (l₁:=[_])) ?_;refine iJ (H1:=c_ p g fs av m) (val:=λ_:Unit=>.tuple #[]) (E:=λ_=>c_ p g fs av {m with rows:=rest++[t.set x.dst (-1)]}) (φ:=λ_=>True) fv rfl (λCG w mw hle _ hw=>B5 p g fs av m hb hr.rows x.dst (-1) IC w hw) λ_ _=>?_;refine aO ?_;refine cA rfl λw' dO=>⟨({m with rows:=rest++[t.set x.dst (-1)]},true),rfl,dO.sub (dY _ _),.inl ⟨rfl,rfl⟩,?_⟩;rw[nZ,<-hr.cX,XB];exact⟨rfl,rest,t.set x.dst (-1),rfl,hr.below,by simp only[gL.set,IN];rfl,hr.mem,rfl,hr.out,hr.steps,hr.kB,hr.zero⟩
  |cons z l=>
   have hi0:m.cX[0]?=some z:=by rw[XB];rfl
   obtain⟨_,aaT,rfl,_⟩:=O_ 0 z hi0;have aaU:0<il:=by rw[iQ,XB];simp
   have acN:bY ia ib io:=⟨R1 (aW hi0)⟩;have mW:bZ 0 il:=⟨aaU⟩;have ac4:a_ wz ib (io+0*1) _:=⟨aaT⟩;have agu:eI S ib:=fv.old aaT;rw[show decide ((0:Int)<(il:Int))=true by simp;omega];refine aO ?_;refine CZ rfl aaU λVS adv=>?_;refine aI ?_;have HD:gQ.Bd {m with iv:=Value.slice VS (il-1) (ic-1),cX:=l}:=⟨hb.rows,hb.aF,hb.mem,hb.out,hb.cs,hb.kB,hb.steps⟩;refine fg (H1:=[aj p3 [.int .i64 x.op,.int .i64 x.dst,.bool x.a.bD,.int .i64 x.a.n,.bool x.b.bD,.int .i64 x.b.n,.int .i64 x.fn,.slice xa xn xc] 56]++c_ p g fs av {m with iv:=Value.slice VS (il-1) (ic-1),cX:=l}) rfl ?_;refine bj (dH (l₁:=[_])) ?_;refine iJ (H1:=c_ p g fs av {m with iv:=Value.slice VS (il-1) (ic-1),cX:=l}) (val:=λ_:Unit=>.tuple #[]) (E:=λ_=>c_ p g fs av {{m with iv:=Value.slice VS (il-1) (ic-1),cX:=l}with rows:=rest++[t.set x.dst z]}) (φ:=λ_=>True) fv rfl (λCG w mw hle _ hw=>B5 p g fs av {m with iv:=Value.slice VS (il-1) (ic-1),cX:=l} HD hr.rows x.dst z IC w hw) λ_ _=>?_;refine aO ?_;refine cA rfl λw' dO=>⟨({{m with iv:=Value.slice VS (il-1) (ic-1),cX:=l}with rows:=rest++[t.set x.dst z]},true),rfl,dO.sub (dY _ _),.inr ⟨ia,VS,il,ic,Kc,by rw[XB];simp,rfl,by rw[XB];rfl,adv⟩,?_⟩;rw[nZ,<-hr.cX,XB];exact⟨rfl,rest,t.set x.dst z,rfl,hr.below,by simp only[gL.set,IN];rfl,hr.mem,rfl,hr.out,hr.steps,hr.kB,hr.zero⟩
 rw[decide_eq_false Z4];refine aO ?_
 by_cases h22:x.op=22
 ·have nZ:j5 u s x=if s.out.length=200 then .inr (s.stop 5 0)else .inl {s with out:=s.out++[va]}:=by
   unfold j5;simp only[nz];rw[if_neg Wy,if_neg tj,if_neg Z4,if_pos h22]
  rw[decide_eq_true h22];refine aO ?_
  by_cases hd:s.out.length=200
  ·rw[show decide ((m.out.length:Int)=200)=true by rw[hr.out];simp;omega]
   refine aO ?_;refine bj (H1:=c_ p g fs av m++[aj p3 [.int .i64 x.op,.int .i64 x.dst,.bool x.a.bD,.int .i64 x.a.n,.bool x.b.bD,.int .i64 x.b.n,.int .i64 x.fn,.slice xa xn xc] 56]) (dH (l₁:=[_])) ?_;refine iJ (H1:=c_ p g fs av m) (val:=λ_:Unit=>.bool false) (E:=λ_=>c_ p g fs av {m with state:=5}) (φ:=λ_=>True) fv rfl (λCG w mw hle _ hw=>uJ p g fs av m 5 w hw) λ_ _=>?_;refine aI ?_;refine cA rfl λw' dO=>zr 5 w' dO ?_;rw[nZ,if_pos hd]
  ·rw[show decide ((m.out.length:Int)=200)=false by rw[hr.out];simp;omega]
   have Ca:=hb.out.1;unfold iO
   repeat(first|refine aO ?_|refine dX λ_ _=>?_)
   rename_i bb _;refine gq 5 rfl rfl aq ag ag λna nc=>?_;simp only[cn,bS];refine aI ?_;refine cA rfl λw' dO=>⟨({m with oa:=na,oc:=nc,out:=m.out++[va]},true),rfl,?_,.inl ⟨rfl,rfl⟩,?_⟩
   ·have h5:=dO.sub (.cons _ (dZ _ _))
    unfold c_ sQ iO;simp only[bR,jL,bB,bO,dp];exact h5
   ·rw[nZ,if_neg hd]
    exact⟨rfl,rest,t,hr.rows,hr.below,hr.bF,hr.mem,hr.cX,by simp only[hr.out],hr.steps,hr.kB,hr.zero⟩
 rw[decide_eq_false h22];refine aO ?_;have nZ:j5 u s x=match pV x.op va vb with|none=>.inr (s.stop 2 0)|some n=>.inl (s.set x.dst n):=by
  unfold j5;simp only[nz,Ku];rw[if_neg Wy,if_neg tj,if_neg Z4,if_neg h22];cases pV x.op va vb<;>rfl
 refine bI rfl (λw _=>acg x.op va vb w) ?_;unfold rK;cases ht:pV x.op va vb with
 |none=>
  simp only;refine aO ?_;refine bj (H1:=c_ p g fs av m++[aj p3 [.int .i64 x.op,.int .i64 x.dst,.bool x.a.bD,.int .i64 x.a.n,.bool x.b.bD,.int .i64 x.b.n,.int .i64 x.fn,.slice xa xn xc] 56]) (dH (l₁:=[_])) ?_;refine iJ (H1:=c_ p g fs av m) (val:=λ_:Unit=>.bool false) (E:=λ_=>c_ p g fs av {m with state:=2}) (φ:=λ_=>True) fv rfl (λCG w mw hle _ hw=>uJ p g fs av m 2 w hw) λ_ _=>?_;refine aI ?_;refine cA rfl λw' dO=>zr 2 w' dO ?_;rw[nZ,ht]
 |some n=>
  simp only;refine aO ?_;refine fg (H1:=[aj p3 [.int .i64 x.op,.int .i64 x.dst,.bool x.a.bD,.int .i64 x.a.n,.bool x.b.bD,.int .i64 x.b.n,.int .i64 x.fn,.slice xa xn xc] 56]++c_ p g fs av m) rfl ?_;refine bj (dH (l₁:=[_])) ?_;refine iJ (H1:=c_ p g fs av m) (val:=λ_:Unit=>.tuple #[]) (E:=λ_=>c_ p g fs av {m with rows:=rest++[t.set x.dst n]}) (φ:=λ_=>True) fv rfl (λCG w mw hle _ hw=>B5 p g fs av m hb hr.rows x.dst n IC w hw) λ_ _=>?_;refine aO ?_;refine cA rfl λw' dO=>⟨({m with rows:=rest++[t.set x.dst n]},true),rfl,dO.sub (dY _ _),.inl ⟨rfl,rfl⟩,?_⟩;rw[nZ,ht];exact⟨rfl,rest,t.set x.dst n,rfl,hr.below,by simp only[gL.set,IN];rfl,hr.mem,hr.cX,hr.out,hr.steps,hr.kB,hr.zero⟩
theorem UN{S:Nat->Prop}{wz:World}(fv:Clean S wz)(u:a7)(hu:iZ u)(p:Nat)(g fs av:Value)(xV:aM wz fs 4 u.funcs gg)(B9:aM wz av 1 (lE u) Lt)(m:gQ)(s:js)(rest:List gL)(t:gL)(hr:HC m s rest t)(cW:ij u (s.steps+1) s)(hs:s.steps<=100000)(mO:aM wz m.iv 1 m.cX fj)(w:World)(hw:Wd S wz (c_ p g fs av m) w):
  gV Tryz.prog 132 [.pointer (some ⟨p,0,none⟩)] w λu' w'=>∃y:gQ×Bool,u'=.bool y.2/\Wd S wz (c_ p g fs av y.1) w'/\yK m (iE u s) y:=by
 have hb:=Fp hu hr cW (bH _) ag;obtain⟨_,fb,fo,uN,_⟩:=uu (H:=[]) (by rw[cq];exact hw) hb hr.rows;have hlen:m.rows.length=rest.length+1:=by rw[hr.rows];simp
 have r7:∀w,Wd S wz (c_ p g fs av m) w->sW w p fb fo m.rows.length t:=λw hw=>yG (H:=[]) (by rw[cq];exact hw) hb hr.rows uN;have PI:∀w,Wd S wz (c_ p g fs av m) w->fi Tryz.prog 157 [.pointer (some ⟨p,0,none⟩)] w (.pointer (some ⟨fb,fo+rest.length*5,none⟩)):=λw hw=>by
  have:=(r7 w hw).BU;rwa[hlen,Nat.add_sub_cancel]at this
 obtain⟨X,R,hf⟩:=cW.bF;obtain⟨B,hB⟩:∃B,X.blocks[s.bF.block]?=some B:=⟨_,aB hf.block⟩;have fW:=hf.fit.eo B (aA hB);have kr:=gY u s;rw[qY hf hB]at kr;have aaO:=xV;obtain⟨ua,ul,uc,ub,uo,rfl,hul,aev,aeu,huc,hua,Yg⟩:=xV;obtain⟨cs,fZ,bv,rfl,_,_,zR⟩:=Yg s.bF.fn X hf.get;have O3:s.bF.fn<ul:=by rw[hul];exact(aC.1 hf.get).1
 have pY:bY ua ub uo:=⟨hua (aW hf.get)⟩;have hlf:bZ s.bF.fn ul:=⟨O3⟩;have oQ:a_ wz ub (uo+s.bF.fn*4) _:=⟨fZ⟩;have hold:eI S ub:=fv.old fZ;obtain⟨ba,bn,bc,bb,bo,rfl,pC,WY,WX,LY,xS,Iy⟩:=zR;obtain⟨_,hTc,pv,lv,tv,rfl,_,_,Gs,Tn,VO⟩:=Iy s.bF.block B hB;have uL:bY ba bb bo:=⟨xS (aW hB)⟩;have bT:bZ s.bF.block bn:=⟨by rw[pC];exact hf.block⟩;have vC:a_ wz bb (bo+s.bF.block*6) _:=⟨hTc⟩;have tl:eI S bb:=fv.old hTc;obtain⟨la,ln,lc,lb,lo,rfl,Ma,adL,Pg,hlc,Tk,Pd⟩:=Tn;have aet:=VO;obtain⟨ta,tn,tc,_,_,rfl,_⟩:=VO;obtain⟨pa,pn,pc,_,_,rfl,_⟩:=Gs;refine kL Tryz.func132 rfl Tryz.ntmps132 rfl hw ?_;refine aU ?_;refine bI rfl (λw hw=>PI w hw) ?_;refine aU ?_;refine fg (H1:=aj p [g,Value.slice ua ul uc,av,.slice m.ma m.mem.length m.mc,m.iv,.int .i64 m.state,.int .i64 m.value,.slice m.oa m.out.length m.oc,.int .i64 m.steps,.slice m.fa m.rows.length m.fc,.slice m.ca m.cs.length m.cc] 168::kp m::jF m::iO m::jO m::(m.rows.map oV++m.cs.map lH)) rfl ?_;have Nz:m.rows[rest.length]?=some t:=by rw[hr.rows];simp
 have R5:∀j v,(qR t)[j]?=some v->fe (aj p [g,Value.slice ua ul uc,av,.slice m.ma m.mem.length m.mc,m.iv,.int .i64 m.state,.int .i64 m.value,.slice m.oa m.out.length m.oc,.int .i64 m.steps,.slice m.fa m.rows.length m.fc,.slice m.ca m.cs.length m.cc] 168::kp m::jF m::iO m::jO m::(m.rows.map oV++m.cs.map lH)) fb (fo+rest.length*5+j) v:=λj v hj=>⟨λ_ _ w' dO=>by
  have hk:(aj p [g,Value.slice ua ul uc,av,.slice m.ma m.mem.length m.mc,m.iv,.int .i64 m.state,.int .i64 m.value,.slice m.oa m.out.length m.oc,.int .i64 m.steps,.slice m.fa m.rows.length m.fc,.slice m.ca m.cs.length m.cc] 168::kp m::jF m::iO m::jO m::(m.rows.map oV++m.cs.map lH))[1]?=some (ai (some ⟨fb,fo,none⟩) m.rows.length m.fc 206 5 (m.rows.flatMap qR)):=by rw[<-uN];rfl
  rw[dA];exact dO.cK hk (fy jv m.rows rest.length t j _ Nz hj)⟩
 have Cc:=hr.bF;have aa9:=R5 0 (.int .i64 (s.bF.fn:Nat)) (by rw[<-Cc];rfl);have aba:=R5 1 (.int .i64 (s.bF.block:Nat)) (by rw[<-Cc];rfl);have XJ:=R5 2 (.int .i64 (s.bF.at':Nat)) (by rw[<-Cc];rfl);simp only[dL]at aa9;refine dR (aj p [g,Value.slice ua ul uc,av,.slice m.ma m.mem.length m.mc,m.iv,.int .i64 m.state,.int .i64 m.value,.slice m.oa m.out.length m.oc,.int .i64 m.steps,.slice m.fa m.rows.length m.fc,.slice m.ca m.cs.length m.cc] 168::kp m::jF m::iO m::jO m::(m.rows.map oV++m.cs.map lH)) (λ_:Nat=>True) (λb=>[(3,.pointer (some ⟨fb,fo+rest.length*5,none⟩)),(4,.pointer (some ⟨b,0,none⟩)),(0,.pointer (some ⟨p,0,none⟩))])
  (λb=>aj b [.slice pa pn pc,.slice la ln lc,.int .i64 B.kind,.bool B.on.bD,.int .i64 B.on.n,.slice ta tn tc] 46::aj p [g,Value.slice ua ul uc,av,.slice m.ma m.mem.length m.mc,m.iv,.int .i64 m.state,.int .i64 m.value,.slice m.oa m.out.length m.oc,.int .i64 m.steps,.slice m.fa m.rows.length m.fc,.slice m.ca m.cs.length m.cc] 168::kp m::jF m::iO m::jO m::(m.rows.map oV++m.cs.map lH)) mixed (.refl _) ?_ λb4 _=>?_
 ·skip
  refine az 0 rfl aq (by repeat(first|exact cN _|refine List.Sublist.cons _ ?_)) ?_;refine az 1 rfl aq (by repeat(first|exact cN _|refine List.Sublist.cons _ ?_)) ?_;refine az 2 rfl aq (by repeat(first|exact cN _|refine List.Sublist.cons _ ?_)) ?_;refine az 3 rfl aq (by repeat(first|exact cN _|refine List.Sublist.cons _ ?_)) ?_;refine az 4 rfl aq (by repeat(first|exact cN _|refine List.Sublist.cons _ ?_)) ?_;refine az 5 rfl aq (by repeat(first|exact cN _|refine List.Sublist.cons _ ?_)) ?_;refine az 6 rfl aq (by repeat(first|exact cN _|refine List.Sublist.cons _ ?_)) ?_;refine az 7 rfl aq (by repeat(first|exact cN _|refine List.Sublist.cons _ ?_)) ?_;refine az 8 rfl aq (by repeat(first|exact cN _|refine List.Sublist.cons _ ?_)) ?_;refine az 9 rfl aq (by repeat(first|exact cN _|refine List.Sublist.cons _ ?_)) ?_;refine az 10 rfl aq (by repeat(first|exact cN _|refine List.Sublist.cons _ ?_)) ?_;refine az 11 rfl aq (by repeat(first|exact cN _|refine List.Sublist.cons _ ?_)) ?_;refine az 12 rfl aq (by repeat(first|exact cN _|refine List.Sublist.cons _ ?_)) ?_;refine az 13 rfl aq (by repeat(first|exact cN _|refine List.Sublist.cons _ ?_)) ?_;refine az 14 rfl aq (by repeat(first|exact cN _|refine List.Sublist.cons _ ?_)) ?_;refine az 15 rfl aq (by repeat(first|exact cN _|refine List.Sublist.cons _ ?_)) ?_;refine az 16 rfl aq (by repeat(first|exact cN _|refine List.Sublist.cons _ ?_)) ?_;refine az 17 rfl aq (by repeat(first|exact cN _|refine List.Sublist.cons _ ?_)) ?_;refine ck 18 aq (Ub 18 rfl (by repeat(first|exact cN _|refine List.Sublist.cons _ ?_)) λb4 _=>?_);refine cH 19 aq (by repeat(first|exact cN _|refine List.Sublist.cons _ ?_)) ?_;refine eF aq ?_;exact dN b4 trivial aw ag2
 have hsb:=hb.steps;have Pj:=hr.steps;have hao:z8 (m.steps:Int) 1:=⟨ag,ag⟩;refine aI ?_;rw[show(m.steps:Int)+1=((m.steps+1:Nat):Int) by omega]
 skip
 obtain⟨m1,Ek⟩:∃m1:gQ,m1={m with steps:=m.steps+1}:=⟨_,rfl⟩;have Mf:HC m1 (tick s) rest t:=by
  rw[Ek];exact⟨hr.rows,hr.below,hr.bF,hr.mem,hr.cX,hr.out,by simp only[tick,Pj],hr.kB,hr.zero⟩
 have XK:=z6 cW;have HD:=Fp hu Mf XK (by simp only[tick];omega) (by simp only[tick];omega);have ad0:∀(A:bN) (j:Nat) v,(qR t)[j]?=some v->fe (A::kp m::jF m::iO m::jO m::(m.rows.map oV++m.cs.map lH)) fb (fo+rest.length*5+j) v:=λA j v hj=>⟨λ_ _ w' dO=>by
  have hk:(A::kp m::jF m::iO m::jO m::(m.rows.map oV++m.cs.map lH))[1]?=some (ai (some ⟨fb,fo,none⟩) m.rows.length m.fc 206 5 (m.rows.flatMap qR)):=by rw[<-uN];rfl
  rw[dA];exact dO.cK hk (fy jv m.rows rest.length t j _ Nz hj)⟩
 have agp:∀A:bN,fe (A::kp m::jF m::iO m::jO m::(m.rows.map oV++m.cs.map lH)) fb (fo+rest.length*5+2) (.int .i64 (s.bF.at':Nat)):=λA=>ad0 A 2 _ (by rw[<-Cc];rfl);refine kE mixed aP ?_;refine j9 ?_;refine aU ?_
 by_cases Co:s.bF.at'=ln
 ·rw[show decide ((s.bF.at':Int)=(ln:Int))=true by simp;omega]
  refine aO ?_;refine fg (H1:=[aj b4 [.slice pa pn pc,.slice la ln lc,.int .i64 B.kind,.bool B.on.bD,.int .i64 B.on.n,.slice ta tn tc] 46]++c_ p g (Value.slice ua ul uc) av m1) (by rw[Ek];rfl) ?_;refine bj (dH (l₁:=[_])) ?_;refine iJ (H1:=c_ p g (Value.slice ua ul uc) av m1) (val:=λy:gQ×Bool=>.bool y.2) (E:=λy=>c_ p g (Value.slice ua ul uc) av y.1) (φ:=λy=>yK m1 (k8 u (tick s) B) y) fv rfl (λCG w mw hle _ hw=>YX mw u hu p g _ av (aaO.le lV hle) (B9.le wZ hle) m1 (tick s) rest t Mf XK (by simp only[tick];omega) X R hf B hB _ (aet.le lz hle) w hw) λy hy=>?_;refine aI ?_;refine cA rfl λw' dO=>⟨y,rfl,dO.sub (dY _ _),?_⟩;have Gn:B.list[s.bF.at']?=none:=bM ag;rw[kr,Gn];have h9:=hy;rw[Ek]at h9;exact h9
 ·rw[show decide ((s.bF.at':Int)=(ln:Int))=false by simp;omega]
  have B8:=hf.at' B hB;have aa1:s.bF.at'<B.list.length:=ag;obtain⟨x,hx⟩:∃x,B.list[s.bF.at']?=some x:=⟨_,aB aa1⟩;have iR:=fW.list.1;have afu:z8 (s.bF.at':Int) 1:=⟨ag,ag⟩;refine aO ?_;rw[show(s.bF.at':Int)+1=((s.bF.at'+1:Nat):Int) by omega];obtain⟨t2,NG⟩:∃t2:gL,t2=⟨{t.f with at':=s.bF.at'+1},t.a,t.c⟩:=⟨_,rfl⟩;have my:lN (m.rows.flatMap qR) (rest.length*5+2) (.int .i64 ((s.bF.at'+1:Nat):Int)) ((rest++[t2]).flatMap qR):=⟨by
   rw[gh jv Nz (k:=2) ag (y:=t2) (by rw[NG];simp[qR]),hr.rows,lq _ _ (bH _),dq,bS],by rw[ct jv];omega⟩
  unfold kp;rw[uN];have VE:∀(A B:bN) (Y:List bN),mT (A::B::ai (some ⟨fb,fo,none⟩) m.rows.length m.fc 206 5 (m.rows.flatMap qR)::Y) fb (fo+rest.length*5+2) 2 fo (rest.length*5+2) m.rows.length m.fc 206 5 (m.rows.flatMap qR):=λ_ _ _=>⟨rfl,ag⟩;refine aI ?_;obtain⟨m2,Kg⟩:∃m2:gQ,m2={m1 with rows:=rest++[t2]}:=⟨_,rfl⟩;have R7:HC m2 (jD (tick s)) rest t2:=by
   rw[Kg,Ek];exact⟨rfl,hr.below,by rw[NG];simp only[jD,tick,<-Cc],hr.mem,hr.cX,hr.out,by simp only[jD,tick,Pj],hr.kB,hr.zero⟩
  obtain⟨abb,hf2⟩:=J5 (z6 cW) (s:=tick s) hf hB aa1;have hE:oV t2=oV t:=by rw[NG];rfl
  have aa6:c_ p g (Value.slice ua ul uc) av m2=aj p [g,Value.slice ua ul uc,av,.slice m.ma m.mem.length m.mc,m.iv,.int .i64 m.state,.int .i64 m.value,.slice m.oa m.out.length m.oc,.int .i64 ((m.steps+1:Nat):Int),.slice (some ⟨fb,fo,none⟩) m.rows.length m.fc,.slice m.ca m.cs.length m.cc] 168::ai (some ⟨fb,fo,none⟩) m.rows.length m.fc 206 5 ((rest++[t2]).flatMap qR)::jF m::iO m::jO m::(m.rows.map oV++m.cs.map lH):=by
   rw[Kg,Ek];simp only[c_,sQ,kp,jF,iO,jO,uN,hr.rows,bR,jL,bB,bO,dp,hE]
  have agq:fe (aj b4 [.slice pa pn pc,.slice la ln lc,.int .i64 B.kind,.bool B.on.bD,.int .i64 B.on.n,.slice ta tn tc] 46::c_ p g (Value.slice ua ul uc) av m2) fb (fo+rest.length*5+2) (.int .i64 ((s.bF.at'+1:Nat):Int)):=⟨λ_ _ w' dO=>by
   rw[aa6]at dO;rw[dA];have:=dO.cK (k:=2) rfl (fy jv (rest++[t2]) rest.length t2 2 _ aH rfl);rw[NG]at this;exact this⟩
  have aeC:=fW.list.2 x (aA hx);obtain⟨_,hxc,xv,rfl,_,_,_,_,_,hxv⟩:=Pd s.bF.at' x hx;have afo:bY la lb lo:=⟨Tk (aW hx)⟩;have Kf:bZ s.bF.at' ln:=⟨ag⟩;have afG:a_ wz lb (lo+s.bF.at'*8) _:=⟨hxc⟩;have agv:eI S lb:=fv.old hxc;refine fg (H1:=aj b4 [.slice pa pn pc,.slice la ln lc,.int .i64 B.kind,.bool B.on.bD,.int .i64 B.on.n,.slice ta tn tc] 46::c_ p g (Value.slice ua ul uc) av m2) (by rw[aa6]) ?_;refine dR [aj b4 [.slice pa pn pc,.slice la ln lc,.int .i64 B.kind,.bool B.on.bD,.int .i64 B.on.n,.slice ta tn tc] 46] (λy:gQ×Bool=>yK m2 (j5 u (jD (tick s)) x) y) (λy=>[(2,.bool y.2)]) (λy=>c_ p g (Value.slice ua ul uc) av y.1) mixed ap ?_ λy hy=>?_
  ·skip
   refine az 0 rfl aq ap ?_;refine az 1 rfl aq ap ?_;refine az 2 rfl aq ap ?_;refine az 3 rfl aq ap ?_;refine az 4 rfl aq ap ?_;refine az 5 rfl aq ap ?_;refine ck 6 aq (eY 6 rfl ap ?_);refine az (h:=rE ag ag) 7 rfl aq ap ?_;rw[show((s.bF.at'+1:Nat):Int)-1=(s.bF.at':Int) by omega];refine az 8 rfl aq ap ?_;refine az 9 rfl aq ap ?_;refine fg (H1:=[aj b4 [.slice pa pn pc,.slice la ln lc,.int .i64 B.kind,.bool B.on.bD,.int .i64 B.on.n,.slice ta tn tc] 46]++c_ p g (Value.slice ua ul uc) av m2) rfl ?_;refine bj (dH (l₁:=[_])) ?_;refine J7 10 (H1:=c_ p g (Value.slice ua ul uc) av m2) (val:=λy:gQ×Bool=>.bool y.2) (E:=λy=>c_ p g (Value.slice ua ul uc) av y.1) (φ:=λy=>yK m2 (j5 u (jD (tick s)) x) y) fv rfl aq ag2 (λCG w mw hle _ hw=>YY mw u hu p g _ av (aaO.le lV hle) m2 (jD (tick s)) rest t2 R7 abb (by simp only[jD,tick];omega) X R hf2 (by rw[Kg,Ek];exact mO.le lz hle) x aeC _ (hxv.le w5 hle) w hw) λy hy=>?_;refine az 11 rfl aq (qV _ _) ?_;refine eF aq ?_;exact dN y hy aw (dY _ _)
  ·skip
   refine aO ?_;refine cA rfl λw' dO=>⟨y,rfl,dO,?_⟩;rw[kr,hx];have h9:=hy;rw[Kg,Ek]at h9;exact h9
theorem TW(v:Value)(l:List aZ)(w0:World)(hv:aM w0 v 4 l gg):
  fi Tryz.prog 32 [v,.func (.func 130) #[] #[]] w0 (.int .i64 (cZ l)):=by
 obtain⟨a,n,c,b,o,rfl,hn,pE,E3,hc,ha,iK⟩:=hv;have one:∀(w:World) (x:aZ) (v:Value),fi Tryz.prog 130 [.agg #[.string x.name,.int .i64 x.params,.int .i64 x.aF,v]] w (.bool (qK x)):=by
  intro w x v;refine aQ Tryz.func130 rfl Tryz.ntmps130 rfl (Wd.nil dh w) ?_
  repeat(first|refine aO ?_|refine dX λ_ _=>?_)
  exact bQ rfl rfl
 refine aQ Tryz.func32 rfl Tryz.ntmps32 rfl (Wd.nil dh w0) ?_;refine aO ?_;refine bP (λ(i:Nat)=>i<=n/\∀j t,j<i->l[j]?=some t->qK t=false) (λi=>[(8,.int .i64 i),(0,.slice a n c),(1,.func (.func 130) #[] #[]),(7,.int .i64 n)]) (λ_=>[]) (λi=>n-i) 0 ⟨aY _,by simp⟩ (aV aw aH) λi ⟨hi,cP⟩=>?_;refine aU ?_;refine aN (λh1=>?_) (λh1=>?_)
 ·have bT:i<n:=by simpa using h1
  obtain⟨x,hx⟩:=dJ hn bT;have pY:bY a b o:=⟨ha (aW hx)⟩;have mW:bZ i n:=⟨bT⟩;obtain⟨cs,fZ,bv,rfl,_⟩:=iK i x hx;have oQ:a_ w0 b (o+i*4) _:=⟨fZ⟩;refine aO ?_;refine kD rfl (us:=[]) (vs:=[.agg #[.string x.name,.int .i64 x.params,.int .i64 x.aF,bv]]) (xs:=[]) (λw _=>one w x bv) ?_;refine aU ?_;refine aN (λh2=>?_) (λh2=>?_)
  ·refine aI ?_
   refine bQ rfl ?_;have:l.findIdx? qK=some i:=by
    rw[List.findIdx?_eq_some_iff_getElem];have iQ:i<l.length:=ag;have Yl:l[i]=x:=(aC.1 hx).2;exact⟨iQ,by rw[Yl];exact h2,λj hj=>by have:=cP j l[j] hj (aB ag);simp[this]⟩
   simp[cZ,this]
  ·refine aO ?_
   refine bC (i+1) ⟨bT,λj t hj ht=>?_⟩ ag aw aH
   by_cases wT:j=i
   ·subst wT
    rw[hx]at ht;simp only[bW]at ht;subst ht;exact h2
   ·exact cP j t ag ht
 ·have gT:i=n:=by have:=h1;simp at this;omega
  refine aI ?_;refine bQ rfl ?_;have:l.findIdx? qK=none:=by
   rw[List.findIdx?_eq_none_iff];intro t ht;obtain⟨j,hj⟩:=br ht;exact cP j t (by have:=(aC.1 hj).1;omega) hj
  simp[cZ,this]
theorem Uz(u:a7)(hl:mC u)(h0:(dr u).1=0)(k:Nat)(X:aZ)(hX:u.funcs[k]?=some X)(hlen:X.blocks.length<=100)(pD:cL X.blocks)(g fs:Value)(w0:World)(hg:aM w0 g 3 u.globals fE)(hf:aM w0 fs 4 u.funcs gg)(je:bG w0 0 0 mI):
  gV Tryz.prog 128 [.agg #[g,fs],.int .i64 k] w0 λu w'=>∃x:(Option Addr×Nat×Nat)×(Nat->Prop),u=.tuple #[.slice x.1.1 x.1.2.1 x.1.2.2,.agg #[.int .i64 0,.int .i64 0]]/\Wd dh w0 [⟨x.2,λw=>aM w (.slice x.1.1 x.1.2.1 x.1.2.2) 1 (bm X.blocks) cS⟩] w'/\True:=by
 have zt:=hg;have vE:=hf;obtain⟨ga,gn,gc,gb,go,rfl,_⟩:=hg;obtain⟨fa,fn,fc,fb,fo,rfl,oY,O2,O1,Xg,uN,uO⟩:=hf;have xz:k<fn:=by rw[oY];exact(aC.1 hX).1
 have pY:bY fa fb fo:=⟨uN (aW hX)⟩;have mW:bZ k fn:=⟨xz⟩;obtain⟨cs,fZ,bv,rfl,Zo,hri,zR⟩:=uO k X hX;have oQ:a_ w0 fb (fo+k*4) _:=⟨fZ⟩;refine aQ Tryz.func128 rfl Tryz.ntmps128 rfl (Wd.nil dh w0) ?_
 repeat(first|refine aU ?_|refine dX λ_ _=>?_)
 refine bI rfl (λw hw=>ue u hl _ _ w (zt.cu dv hw.cE) (vE.cu dk hw.cE) (je.cu hw.cE)) ?_;rw[nW h0]
 repeat(first|refine aI ?_|refine dX λ_ _=>?_)
 refine bI rfl (λw _=>jk _ _ _ w) ?_;rw[show within (k:Int) 0 ((fn:Int)-1)=true by simp[within];omega];refine aO ?_;refine cV (val:=λx:(Option Addr×Nat×Nat)×(Nat->Prop)=>.slice x.1.1 x.1.2.1 x.1.2.2) (E:=λx=>[⟨x.2,λw=>aM w (.slice x.1.1 x.1.2.1 x.1.2.2) 1 (bm X.blocks) cS⟩]) (φ:=λ_=>True) rfl (λw hw=>JP _ _ _ X.blocks _ w (zR.cu fh hw.cE) hlen pD) λx _=>?_;simp only[a6,aT];refine aI ?_;refine SU rfl λw' dO=>⟨x,rfl,dO.sub (dn ou),trivial⟩
end
section
open Go Go.RowKit
set_option maxHeartbeats 2000000
theorem CH(z:Value)(m:Nat):(Builtin.zeroCells #[z] m).toList=List.replicate m z:=by
 apply cf;intro i;simp[Builtin.zeroCells,h_]
 by_cases h:i<m
 ·simp[h,Nat.mod_one]
 ·simp[h]
section
variable {P:Program} {N:Nat} {ds:List Deferred} {S:Nat->Prop} {w0 w:World} {L:List (Nat×Value)} {H Hr:List bN} {x y:Operand} {M:Act->World->Prop} {l:List Oper} {bE:Nat} {listed:Array Bool}
theorem Wd.Su(hW:Wd S w0 H w){T U ty e jZ:Nat}{kd:IntKind}{z:Value}(h:cB P T e 1 jZ [z])(hu:P.underlying U=some (.int kd))(E9:z.oneCell'=true){k:Nat}{ad:Option Addr}{n c:Nat}{xs:List Value}(hk:H[k]?=some (ai ad n c e 1 xs))
  (m:Nat) (jR:(n+m)*jZ<=140737488355328) (F1:n+m<=140737488355328) (Zc:0<jZ):
  ∃a' c' w',(Builtin.append_ #[T,U] ty #[.slice ad n c,.int .i64 m]).run P w=.ok (.slice a' (n+m) c') w'/\Wd S w0 (H.set k (ai a' (n+m) c' e 1 (xs++List.replicate m z))) w':=by
 obtain⟨i,zz,hi,hz,fZ,h2,h3⟩:=h.get;subst h3;obtain⟨zB,Ce⟩:=hW.get hk;rw[fB]at zB;have Xa:zz.cells= #[z]:=by rw[fZ]
 have PN:IntKind.i64.wrap (m:Int)=m:=uI _ ag ag;have XA:¬(281474976710656:Int)<(m:Int)*(i.bytes:Int):=by
  have:m*i.bytes<=(n+m)*i.bytes:=py _ ag;have h9:((m*i.bytes:Nat):Int)<=140737488355328:=ag;rw[Int.natCast_mul]at h9;omega
 have To:¬(m:Int)<0:=ag;have pE:n<=c:=by rcases Ce with⟨_,h2,h3⟩|⟨_,_,_,_,h3,_⟩<;>omega
 have hlen:(xs++List.replicate m z).length=(n+m)*1:=by simp[zB]
 have IS:=CH z;have grown:∀old,Wd S w0 (H.set k (ai (some ⟨w.heap.size,0,none⟩) (n+m) (grownCap w (n+m) old e) e 1 (xs++List.replicate m z))) (w.drew.alloc (.cells (xs.toArray++(Builtin.zeroCells #[z] m++Builtin.zeroCells #[z] (grownCap w (n+m) old e-(n+m)))) e)):=by
  intro old;have gT:=grownCap_ge w (n+m) old e;have zS:grownCap w (n+m) old e<=maxLen:=grownCap_le_maxLen w (n+m) old e (by simp[maxLen];omega);refine hW.kf hk ⟨rfl,rfl,rfl,by simp,λb hb _=>heap_alloc_old w.drew _ hb⟩ (λb hb=>?_) λw2 jl=>?_
  ·simp only[ai,bz,bW]at hb
   subst hb;exact⟨.inr (bH _),by simp⟩
  ·have:=jl w.heap.size (by simp[ai])
   refine⟨hlen,.inr ⟨w.heap.size,[],(Builtin.zeroCells #[z] (grownCap w (n+m) old e-(n+m))).toList,rfl,gT,zS,?_,?_⟩⟩
   ·rw[IS];simp
   ·rw[this]
    have e1:(xs.toArray++(Builtin.zeroCells #[z] m++Builtin.zeroCells #[z] (grownCap w (n+m) old e-(n+m))))=([]++(xs++List.replicate m z)++(Builtin.zeroCells #[z] (grownCap w (n+m) old e-(n+m))).toList).toArray:=by
     apply Array.toList_inj.1;simp only[Array.toList_append,aT,IS,dE]
    rw[e1];exact heap_alloc_new w.drew _
 have acy:¬((9223372036854775807:Int)<((n:Int)+(m:Int))):=ag;have hai:∀w:World,(asIntOf (.int .i64 (m:Int))).run P w=.ok (.i64,(m:Int)) w:=λ_=>rfl
 by_cases h0:m=0
 ·subst h0
  refine⟨ad,c,w,?_,by rw[List.replicate_zero,cq,dL,lD hk];exact hW⟩;have hw0:IntKind.i64.wrap 0=0:=PN;have acQ:∀w:World,(asIntOf (.int .i64 0)).run P w=.ok (.i64,0) w:=hai;cases ad<;>simp[Builtin.append_,run_underlying h.oI,run_underlying hu,sizeOf,typeInfo,hi,asInt,acQ,hw0,pE,storeCells]
 by_cases ri:n+m<=c
 ·rcases Ce with⟨rfl,rfl,rfl⟩|⟨g,pre,sp,rfl,h4,h5,h6,h7⟩
  ·omega
  have kr:=run_storeCells_at P g (pre.length+n*i.size) e (List.replicate m z) 0 (pre++xs++sp).toArray w h7 (by simp[zB,h2];omega) (λu hu'=>by rw[jI hu'];exact E9);simp only[dL,h2,fB]at kr;have etk:((pre++xs++sp).toArray.toList.take (pre.length+n)++List.replicate m z++(pre++xs++sp).toArray.toList.drop (pre.length+n+(List.replicate m z).length))=pre++(xs++List.replicate m z)++sp.drop m:=by
   have e1:pre.length+n=(pre++xs).length:=by simp[zB]
   have e2:(pre++xs++sp).toArray.toList=(pre++xs)++sp:=rfl;rw[e1,e2,List.take_left,List.drop_append];simp[]
  rw[etk]at kr;refine⟨_,_,_,by simp[Builtin.append_,run_underlying h.oI,run_underlying hu,sizeOf,typeInfo,zeroValue,hi,hz,Xa,asInt,hai,PN,To,XA,h2,h0,ri,IS,Addr.add_lit,kr];exact⟨⟨rfl,rfl⟩,rfl⟩,?_⟩;have bT:g<w.heap.size:=(fI.1 h7).1;have oj:∀cs,(w.setRow g cs).heap.size=w.heap.size:=λcs=>by simp[World.setRow]
  refine hW.kf hk ⟨rfl,rfl,rfl,by rw[oj];exact bH _,λb hb eH=>setRow_other w g b _ (λe=>eH (by simp[ai,e]))⟩ (λb hb=>?_) λw2 jl=>?_
  ·simp only[ai,bz,bW]at hb⊢
   subst hb;exact⟨.inl rfl,by rw[oj];exact bT⟩
  ·have:=jl g (by simp[ai])
   refine⟨hlen,.inr ⟨g,pre,sp.drop m,rfl,ri,h5,?_,?_⟩⟩
   ·rw[ez]
    omega
   ·rw[this]
    have:=setRow_heap w g _ (pre++(xs++(List.replicate m z++List.drop m sp))).toArray e _ h7;simpa using this
 ·rcases Ce with⟨rfl,rfl,rfl⟩|⟨g,pre,sp,rfl,h4,h5,h6,h7⟩
  ·have:xs=[]:=kN zB
   subst this;have fW:¬281474976710656<Builtin.nextslicecap m 0*i.bytes:=by
    have:=growslice_fits (need:=0+m) (old:=0) ag jR;simp only[dM]at this;omega
   have acz:¬(9223372036854775807:Int)<(m:Int):=ag;have Vp:=grown 0;simp only[dM,aT,Array.empty_append]at Vp⊢;refine⟨_,_,_,?_,Vp⟩;simp[Builtin.append_,run_underlying h.oI,run_underlying hu,sizeOf,typeInfo,zeroValue,hi,hz,Xa,asInt,hai,PN,To,XA,h2,h0,acz,fW,Question.forced,run_firstCells_none,newRow,grownCap]
  ·have fW:¬281474976710656<Builtin.nextslicecap (n+m) c*i.bytes:=by
    have:=growslice_fits (need:=n+m) (old:=c) ag jR;omega
   have holds:∀j u,xs[j]?=some u->w.drew.cell? ((⟨g,pre.length,none⟩:Addr).add j)=some u:=λj u hj=>by
    rw[Addr.add_lit];exact hW.cK hk hj
   have Xi:=run_firstCells_some (P:=P) w.drew i.size n ⟨g,pre.length,none⟩ n c xs (by rw[h2,fB];exact zB) holds;rw[h2]at Xi;refine⟨_,_,_,?_,grown c⟩;simp[Builtin.append_,run_underlying h.oI,run_underlying hu,sizeOf,typeInfo,zeroValue,hi,hz,Xa,asInt,hai,PN,To,XA,h2,h0,ri,acy,fW,Question.forced,Xi,newRow,grownCap]
theorem ML{d ty T U e jZ:Nat}{kd:IntKind}{z:Value}{pos:String}{aft:Array Go.Edge}{ad:Option Addr}{n c m:Nat}(i0:Nat){k:Nat}{xs:List Value}[ho:dm l i0 ⟨some d,.call {callee:=.builtin .append,args:=#[x,y],argTypes:=#[T,U]},ty,pos,aft,none⟩][h:cB P T e 1 jZ [z]][hx:Ev L x (.slice ad n c)][hy:Ev L y (.int .i64 m)]
  [hv:sX H ad n c k e 1 xs] (hu:P.underlying U=some (.int kd)) (hd:dj d N L=true) (E9:z.oneCell'=true) (jR:(n+m)*jZ<=140737488355328) (F1:n+m<=140737488355328) (Zc:0<jZ) (hH:∀e',Hr.Sublist (H.set k e'))
  (kk:∀a' c',G N ds S w0 ((d,.slice a' (n+m) c')::L) (H.set k (ai a' (n+m) c' e 1 (xs++List.replicate m z))) (wpAnyH P .any l.toArray (dy M) (Wd S w0 Hr) bE (listed.setIfInBounds i0 true))):G N ds S w0 L H (gX P l M (Wd S w0 Hr) bE listed i0):=
 vT i0 rfl λa w hS=>by
  obtain⟨a',c',w',hr,dO⟩:=hS.wd.Su (P:=P) (ty:=ty) h hu E9 hv.at' m jR F1 Zc;exact⟨.slice a' (n+m) c',w',by simp[execOp,resolve,invoke,builtin,hx.eq _ _ _ hS.fr,hy.eq _ _ _ hS.fr,hr],dO.sub (hH _),kk a' c' _ _ ⟨hS.fr.dP hd _,dO⟩⟩
theorem EI{d ty T e jZ n:Nat}{z1 z2:Int}{z:Value}{pos:String}{aft:Array Go.Edge}(i0:Nat)[ho:dm l i0 ⟨some d,.makeSlice T x y,ty,pos,aft,none⟩][h:cB P T e 1 jZ [z]][hx:Ev L x (.int .i64 z1)][E9:ky z1 n][hy:Ev L y (.int .i64 z2)][Ml:ky z2 n](hd:dj d N L=true)(hb:jZ*n<=281474976710656)(hm:n<=140737488355328)(hH:Hr.Sublist H)
  (k:∀b,w0.heap.size<=b->G N ds S w0 ((d,.slice (some ⟨b,0,none⟩) n n)::L) (ai (some ⟨b,0,none⟩) n n e 1 (List.replicate n z)::H) (wpAnyH P .any l.toArray (dy M) (Wd S w0 Hr) bE (listed.setIfInBounds i0 true))):G N ds S w0 L H (gX P l M (Wd S w0 Hr) bE listed i0):=
 vT i0 rfl λa w hS=>by
  obtain⟨i,zz,hi,PU,fZ,h1,h2⟩:=h.get;have h3:=hx.eq _ _ _ hS.fr;have h4:=hy.eq _ _ _ hS.fr;rw[E9.eq]at h3;rw[Ml.eq]at h4;have OM:(i.bytes:Int)*(n:Int)<=281474976710656:=by
   have e:((jZ*n:Nat):Int)<=281474976710656:=ag;rw[Int.natCast_mul]at e;rw[h2];exact e
  have hr:=run_make (P:=P) w T e i zz h.oI hi PU .i64 .i64 (n:Int) (n:Int) ag (Int.le_refl _) OM ag;have mM:madeCells zz.cells ((n:Int).toNat*i.size)=(List.replicate n z).toArray:=by
   have:=nD [z] n;rw[h1,fZ,dD];simp only[jL]at this;rw[show(List.replicate n [z]).flatten=List.replicate n z by simp]at this;rw[<-this]
  have hv:=hS.wd.we e 1 n (List.replicate n z) (by rw[ef,fB]) (by unfold maxLen;omega);refine⟨.slice (some ⟨w.heap.size,0,none⟩) n n,w.alloc (.cells (List.replicate n z).toArray e),?_,hv.sub (hH.trans (dZ _ _)),k _ hS.wd.size _ _ ⟨hS.fr.dP hd _,hv⟩⟩;simp only[dD]at hr mM;simp[execOp,h3,h4,hr,mM]
end
structure HP where
 a:Option Addr
 n:Nat
 c:Nat
 fp:Nat->Prop
 l:List (List Int)
def yA(t:HP):Value:=.slice t.a t.n t.c
def v_(t:HP):bN:=⟨t.fp,λw=>aM w (.slice t.a t.n t.c) 1 t.l cS⟩
theorem UA{S:Nat->Prop}{w0 w:World}{ts:List HP}{a:Option Addr}{n c e:Nat}{H:List bN}(h:Wd S w0 (ai a n c e 1 (ts.map yA)::(ts.map v_++H)) w)(hn:n=ts.length)(hb:n<=100):aM w (.slice a n c) 1 (ts.map (·.l)) Lt:=by
 refine h.nC (k:=0) rfl (by simpa using hn) ag λi x hx=>?_;rw[aK]at hx;obtain⟨t,ht,rfl⟩:=cT.1 hx;refine⟨[yA t],λj v hj=>?_,yA t,rfl,?_⟩
 ·match j,hj with
  |0,hj=>simpa[ht]using hj
 ·exact h.ok (v_ t) (cJ _ (cC _ (aX.2 ⟨t,aA ht,rfl⟩))) _ (bH _) λ_ _=>rfl
section
variable {P:Program} {ro:Option Nat} {N:Nat} {ds:List Deferred} {S:Nat->Prop} {w0:World} {L:List (Nat×Value)} {H:List bN} {Q:Exit->Act->World->Prop}
theorem Ww{α:Type}{c y:Code}(φ:α->Prop)(Lx:α->List (Nat×Value))(Hx:α->List bN)(h1:G N ds S w0 L H (Code.wpIn (FW ro) 0 P c (Exit.then (V6 N ds S w0 φ Lx Hx) Q)))(h2:∀x,φ x->G N ds S w0 (Lx x) (Hx x) (Code.wpIn (FW ro) 0 P y Q)):G N ds S w0 L H (Code.wpIn (FW ro) 0 P c (Exit.then (Code.wpIn (FW ro) 0 P y Q) Q)):=λa w hS=>
 Code.wpIn_mono (λe a' w' q=>by
  cases e with
  |normal=>obtain⟨x,hx,hS'⟩:=q;exact h2 x hx a' w' hS'
  |_=>exact q) (h1 a w hS)
theorem wN{fn:Func}{R:Value->World->Prop}{q s T2 n2 b2 j2 bt2 t T n b j bt:Nat}{u:Value}{cs CN:List Value}(hr:fn.results= #[.tmp q,.cell s T2,.cell t T])[hq:gF L q u][hu:gF L s (.pointer (some ⟨b2,0,none⟩))][h2:d_ P T2 n2][wi:l7 H b2 j2 CN bt2][Kd:kx CN n2][hv:gF L t (.pointer (some ⟨b,0,none⟩))][h:d_ P T n][hb:l7 H b j cs bt][hl:kx cs n](hR:∀w,Wd S w0 H w->R (.tuple #[u,.agg CN.toArray,.agg cs.toArray]) w):G N [] S w0 L H (bodyPost P fn (λe w'=>∃v,e=.returned v/\R v w') .ret):=λa w hS=>by
 refine⟨hS.fr.defers,_,?_,_,rfl,hR w hS.wd⟩;have h3:=lY (P:=P) (T:=T) (b:=b) (cs:=cs) hS.wd;have h4:=lY (P:=P) (T:=T2) (b:=b2) (cs:=CN) hS.wd;simp[results,hr,hS.fr.slot _ hv.mem,hS.fr.slot _ hu.mem,hS.fr.slot _ hq.mem,asAddr,h3,h4]
end
theorem Jl{α:Type}(w x8 x7 x3 me av cs fr ot:α)(T C:List α):((w::x8::x7::x3::me::av::cs::(T++C))++[fr]++[ot]).Perm ((w::fr::me::ot::cs::([]++C))++(av::(T++[x8,x7,x3]))):=by
 classical
 exact aJ.2 λz=>by simp only[bu,bi,cd];omega
theorem MO{α:Type}(w x8 x7 x3 fr me ot cs av:α)(F T C:List α):((w::fr::me::ot::cs::(F++C))++(av::(T++[x8,x7,x3]))).Perm (w::x8::x7::ot::cs::(C++(fr::me::av::x3::(F++T)))):=by
 classical
 exact aJ.2 λz=>by simp only[a6,bu,bi,cd];omega
structure ww(u:a7):Prop where
 ti:u.globals.length<=10
 FV:∀g∈u.globals,(g.init.length:Int)<=g.size/\g.size<=200
 init:∀g∈u.globals,∀x∈g.init,c9 x
 funcs:u.funcs.length<=10
 main:∃(fm:Nat) (M:aZ),cZ u.funcs=fm/\u.funcs[fm]?=some M
theorem ME{l:List iY}{i:Nat}{x:iY}(h:l[i]?=some x):se (l.take (i+1))=se (l.take i)++(x.init++List.replicate (x.size.toNat-x.init.length) 0):=by
 simp[se,cj,h]
theorem Bh{l:List iY}(h:∀g∈l,(g.init.length:Int)<=g.size/\g.size<=200):(se l).length<=200*l.length:=by
 induction l with
 |nil=>simp[se]
 |cons g l ih=>
  have h1:=h g aH;have h2:=ih λx hx=>h x (cJ _ hx);simp only[se,gx,bR,ef,ie]at h2⊢;omega
theorem KC{l:List iY}(h:∀g∈l,∀x∈g.init,c9 x):∀x∈se l,c9 x:=λx hx=>by
 obtain⟨g,hg,hx⟩:=du.1 hx;rcases bL.1 hx with h1|h1
 ·exact h g hg x h1
 ·rw[jI h1];simp[c9]
theorem start_eq{u:a7}{fm R:Nat}{M:aZ}(hm:cZ u.funcs=fm)(hM:u.funcs[fm]?=some M)(hR:M.aF=R)(cX:List Int):iU u cX=⟨se u.globals,cX,[],0,[],⟨fm,0,0,ek R [],-1⟩,bump (u.funcs.map λX=>List.replicate X.blocks.length 0) fm 0⟩:=by
 unfold iU;simp only[hm,dD,hM,hR];simp[ek]
theorem tS{u:a7}(hu:iZ u)(hs:ww u){cX:List Int}(mO:∀x∈cX,c9 x):ij u 1 (iU u cX):=by
 obtain⟨fm,M,hm,hM⟩:=hs.main;obtain⟨R,fW⟩:=hu.2 fm M hM;rw[start_eq hm hM fW.aF];refine⟨⟨M,R,⟨hM,fW,u4 _ _,fW.pos,CV aH,by simp[c9],λ_ _=>aY _⟩⟩,by simp,?_,Aj (c:=0) ⟨by simp,λk X hX=>⟨_,by rw[aK,hX];rfl,by simp,λx hx=>by rw[jI hx];exact bH _⟩⟩ _ _,by simp,by simp,⟨?_,KC hs.init⟩,mO⟩
 ·intro i p q h1 h2
  simp at h1 h2
 ·have:=Bh hs.FV
  have h9:=hs.ti;show(se u.globals).length<=100000;omega
end
end Go.Proofs.YthfhgolkafpmnaaGreatDoor
