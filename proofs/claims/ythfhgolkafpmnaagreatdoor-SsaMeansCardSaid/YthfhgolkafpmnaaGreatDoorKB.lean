/- Texts joined: DomC FrontA FrontC FrontD DomB FrontB SortC RowsB MeetP MeetA MeetB. -/
import Derived.Shelf.Slices.In.SortNone
import Derived.Shelf.Sort.Plain
import Derived.Test.YthfhgolkafpmnaaGreatDoorGM
namespace Go.Proofs.YthfhgolkafpmnaaGreatDoor
open Go.Value renaming int->U,slice->J,bool->D,agg->au
open Go.IntKind renaming i64->O
open Option renaming some->Z,none->A
open Go renaming Value->V,World->C
open Go.Proofs.Tryz
open Go.Proofs.Tryz renaming prog->ae
open Go Go.RowKit
section
set_option maxHeartbeats 8000000
attribute [local irreducible] wpListIn Code.wpIn Exit.then Exit.inBlock bodyPost wpQuiet wpAnyIn wpAnyH
def ij(bl:List E)(a b:Nat):Prop:=∃p,gH bl (-1) 0 p/\Edge bl p b/\jY bl a p/\(a=b∨¬jY bl a b)
noncomputable def ir(bl:List E):List (List Int):=IG (ij bl) bl.length
def Stop(bl:List E)(b i:Nat):Prop:=∃c,kS bl c b/\jY bl i c
theorem Kb{bl:List E}(cY:cT bl)(h0:0<bl.length){b i:Nat}(hb:gH bl (-1) 0 b):¬Stop bl b i↔(i=b∨¬jY bl i b):=by
 by_cases uZ:b=0
 ·subst uZ
  refine⟨λ_=>?_,λ_ ⟨c,hc,_⟩=>hc.2.1 (sU hc.1)⟩
  by_cases h:jY bl i 0
  ·exact .inl (sU h)
  ·exact .inr h
 ·obtain⟨c,hc⟩:=ug cY h0 hb uZ
  have hs:Stop bl b i↔jY bl i c:=⟨λ⟨d,hd,h⟩=>by rw[hc.ace hd];exact h,λh=>⟨c,hc,h⟩⟩;rw[hs,hc.iff];constructor
  ·intro h
   by_cases e:i=b
   ·exact .inl e
   ·exact .inr λh'=>h'.elim h e
  ·rintro(e|h) hd
   ·subst e
    exact hc.2.1 (hc.1.antisymm hd)
   ·exact h (.inl hd)
def Mark(bl:List E)(b:Nat)(ps:List Nat)(i:Nat):Prop:=∃p∈ps,gH bl (-1) 0 p/\jY bl i p/\¬Stop bl b i
theorem L7{bl:List E}(cY:cT bl)(h0:0<bl.length){b i:Nat}(hb:gH bl (-1) 0 b){ps:List Nat}(xH:∀p,p∈ps↔(p<bl.length/\Edge bl p b)):Mark bl b ps i↔ij bl i b:=by
 constructor
 ·rintro⟨p,hp,hr,hd,hs⟩
  exact⟨p,hr,((xH p).1 hp).2,hd,(Kb cY h0 hb).1 hs⟩
 ·rintro⟨p,hr,he,hd,hs⟩
  exact⟨p,(xH p).2 ⟨cY.zQ h0 hr,he⟩,hr,hd,(Kb cY h0 hb).2 hs⟩
def Ey(bl:List E)(i:Nat)(akj:Int):Prop:=∃c:Nat,akj=c/\jY bl i c
def Way(bl:List E)(b:Nat)(ps:List Nat)(p:Nat)(akj:Int)(i:Nat):Prop:=Mark bl b ps i∨(jY bl i p/\¬Ey bl i akj)
theorem QY{bl:List E}{b p i:Nat}{ps:List Nat}:Way bl b ps p p i↔Mark bl b ps i:=by
 refine⟨λh=>h.elim id λ⟨h1,h2⟩=>absurd ⟨p,rfl,h1⟩ h2,.inl⟩
theorem zZ{bl:List E}(cY:cT bl)(h0:0<bl.length){a i:Nat}(ha:gH bl (-1) 0 a):jY bl i a↔(Ey bl i (cS bl a)∨i=a):=by
 by_cases WU:a=0
 ·subst WU
  rw[gB λc hc=>hc.2.1 (sU hc.1)];refine⟨λh=>.inr (sU h),λh=>h.elim (λ⟨c,hc,_⟩=>I) λe=>by subst e;exact .refl ha⟩
 ·obtain⟨c,hc⟩:=ug cY h0 ha WU
  rw[iw hc,hc.iff];exact⟨λh=>h.imp (λh=>⟨c,rfl,h⟩) id,λh=>h.imp (λ⟨d,e,h⟩=>(show c=d by omega)▸h) id⟩
theorem Kk{bl:List E}(cY:cT bl)(h0:0<bl.length){b p a i:Nat}{ps:List Nat}(vv:jY bl a p):Way bl b ps p (cS bl a) i↔(Way bl b ps p a i∨i=a):=by
 have hd:=zZ cY h0 (a:=a) (i:=i) vv.1;have Jg:¬Ey bl a (cS bl a):=λ⟨c,hc,h⟩=>by
  by_cases hx:∃d,kS bl d a
  ·obtain⟨d,hdd⟩:=hx
   rw[iw hdd]at hc;have:d=c:=I;subst this;exact hdd.2.1 (hdd.1.antisymm h)
  ·rw[gB λc hc=>hx ⟨c,hc⟩]at hc
   omega
 have hda:Ey bl i (a:Int)↔jY bl i a:=⟨λ⟨c,e,h⟩=>(show a=c by omega)▸h,λh=>⟨a,rfl,h⟩⟩;unfold Way;rw[hda];constructor
 ·rintro(h|⟨h1,h2⟩)
  ·exact .inl (.inl h)
  ·by_cases e:i=a
   ·exact .inr e
   ·exact .inl (.inr ⟨h1,λh=>(hd.1 h).elim h2 e⟩)
 ·rintro((h|⟨h1,h2⟩)|e)
  ·exact .inl h
  ·exact .inr ⟨h1,λh=>h2 (hd.2 (.inl h))⟩
  ·subst e;exact .inr ⟨vv,Jg⟩
theorem YI{bl:List E}{b p i:Nat}{ps:List Nat}{akj:Int}(hp:gH bl (-1) 0 p)(hH:∀c,kS bl c b->Ey bl c akj)(hz:akj<0∨akj=cS bl b):Way bl b ps p akj i↔Mark bl b (ps++[p]) i:=by
 have hs:Ey bl i akj↔Stop bl b i:=by
  by_cases hx:∃c,kS bl c b
  ·obtain⟨c,hc⟩:=hx
   obtain⟨c',e',_⟩:=hH c hc;have e:akj=c:=by
    rcases hz with h|h
    ·omega
    ·rw[h,iw hc]
   refine⟨λ⟨d,hd,h⟩=>⟨c,hc,?_⟩,λ⟨d,hd,h⟩=>⟨c,e,?_⟩⟩
   ·have:d=c:=I
    exact this▸h
   ·rw[hc.ace hd];exact h
  ·have e:akj<0:=hz.elim id λh=>by rw[h,gB λc hc=>hx ⟨c,hc⟩];omega
   exact⟨λ⟨d,hd,_⟩=>I,λ⟨d,hd,_⟩=>absurd ⟨d,hd⟩ hx⟩
 unfold Way Mark;rw[hs];constructor
 ·rintro(⟨q,hq,h⟩|⟨h1,h2⟩)
  ·exact⟨q,ct _ hq,h⟩
  ·exact⟨p,by simp,hp,h1,h2⟩
 ·rintro⟨q,hq,hr,hd,hn⟩
  rcases bA.1 hq with hq|hq
  ·exact .inl ⟨q,hq,hr,hd,hn⟩
  ·rw[bR.1 hq]at hd;exact .inr ⟨hd,hn⟩
theorem PX{bl:List E}{b p i:Nat}{ps:List Nat}(hp:¬gH bl (-1) 0 p):Mark bl b (ps++[p]) i↔Mark bl b ps i:=by
 unfold Mark;constructor
 ·rintro⟨q,hq,hr,h⟩
  rcases bA.1 hq with hq|hq
  ·exact⟨q,hq,hr,h⟩
  ·rw[bR.1 hq]at hr;exact absurd hr hp
 ·rintro⟨q,hq,h⟩
  exact⟨q,ct _ hq,h⟩
theorem Vw{bl:List E}(cY:cT bl)(h0:0<bl.length){b a:Nat}(ha:gH bl (-1) 0 a)(hH:∀c,kS bl c b->Ey bl c (a:Int))(eQ:(a:Int)≠cS bl b):∀c,kS bl c b->Ey bl c (cS bl a):=by
 intro c hc;obtain⟨a',e,hd⟩:=hH c hc;have:a=a':=I;subst this;rcases(zZ cY h0 ha).1 hd with h|h
 ·exact h
 ·subst h;exact absurd (iw hc).symm eQ
noncomputable def Hz(bl:List E)(akj:Int):Nat:=if akj<0 then 0 else(vg bl akj.toNat bl.length).length
theorem Oy{bl:List E}(cY:cT bl)(h0:0<bl.length){a:Nat}(ha:gH bl (-1) 0 a):Hz bl (cS bl a)<Hz bl a:=by
 have h1:0<(vg bl a bl.length).length:=List.length_pos_of_mem (E8.2 ⟨cY.zQ h0 ha,.refl ha⟩);have e1:Hz bl (a:Int)=(vg bl a bl.length).length:=by unfold Hz;rw[if_neg I];rfl
 rw[e1]
 by_cases hx:∃c,kS bl c a
 ·obtain⟨c,hc⟩:=hx
  rw[iw hc];have e2:Hz bl (c:Int)=(vg bl c bl.length).length:=by unfold Hz;rw[if_neg I];rfl
  have:=s9 cY h0 hc;omega
 ·rw[gB λc hc=>hx ⟨c,hc⟩]
  unfold Hz;rw[if_pos I];exact h1
open Classical in
noncomputable def sV(bl:List E)(b:Nat)(ake:Nat->Prop)(i:Nat):List Int:=(((List.range b).filter λc=>decide (ij bl i c)).map λx:Nat=>(x:Int))++if ake i then[(b:Int)]else[]
theorem kK{bl:List E}{b i:Nat}{ake W:Nat->Prop}(h:ake i↔W i):sV bl b ake i=sV bl b W i:=by
 classical
 unfold sV
 by_cases hv:ake i
 ·rw[if_pos hv,if_pos (h.1 hv)]
 ·rw[if_neg hv,if_neg λhw=>hv (h.2 hw)]
theorem Fe{bl:List E}{b i:Nat}:sV bl b (λi=>ij bl i b) i=sV bl (b+1) (λ_=>False) i:=by
 classical
 unfold sV;simp only[if_false];rw[cD,EE (p:=λc=>ij bl i c) b,bz];congr 1
 by_cases h:ij bl i b<;>simp[h]
theorem RN{bl:List E}{b i:Nat}{ake:Nat->Prop}:(b:Int)∈sV bl b ake i↔ake i:=by
 classical
 unfold sV;rw[bA];constructor
 ·rintro(h|h)
  ·obtain⟨x,hx,e⟩:=aV.1 h
   have:=cM.1 (cC.1 hx).1;omega
  ·by_cases hv:ake i
   ·exact hv
   ·rw[if_neg hv]at h;cases h
 ·intro h
  rw[if_pos h];exact .inr aC
theorem Wv{bl:List E}{b i:Nat}{ake:Nat->Prop}(hb:b<=100):(sV bl b ake i).length<=1000/\∀x∈sV bl b ake i,dk x:=by
 classical
 have h1:=jL (λc=>decide (ij bl i c)) (List.range b);rw[fA]at h1;unfold sV;refine⟨?_,λx hx=>?_⟩
 ·rw[bX,aF]
  have:(if ake i then[(b:Int)]else[]).length<=1:=by split<;>simp
  omega
 ·rcases bA.1 hx with h|h
  ·obtain⟨y,hy,rfl⟩:=aV.1 h
   have:=cM.1 (cC.1 hy).1;simp only[dk];omega
  ·by_cases hv:ake i
   ·rw[if_pos hv]at h
    rw[bR.1 h];simp only[dk];omega
   ·rw[if_neg hv]at h;cases h
theorem RK{bl:List E}{b i:Nat}{ake:Nat->Prop}(h:¬ake i):sV bl b (λj=>ake j∨j=i) i=sV bl b ake i++[(b:Int)]:=by
 classical
 unfold sV;rw[if_pos (.inr rfl),if_neg h,cD]
theorem LK(v:V)(l:List Int)(x:Int)(w0:C)(hv:aG w0 v 1 l fI):iC ae 112 [v,U O x] w0 λu w'=>∃r:Int,u=U O r/\Wd cX w0 [] w'/\(0<=r↔x∈l):=by
 obtain⟨a,n,c,b,o,rfl,hn,qP,GM,hc,ha,ji⟩:=hv;refine aM func112 rfl ntmps112 rfl (Wd.nil cX w0) ?_;refine aH ?_;refine bL (λ(i:Nat)=>i<=n/\∀j y,j<i->l[j]?=Z y->y≠x) (λi=>[(8,U O i),(6,J a n c),(7,U O n),(0,J a n c),(1,U O x)]) (λ_=>[]) (λi=>n-i) 0 ⟨aT _,λj y hj=>I⟩ (aS ap aC) λi ⟨hi,cU⟩=>?_;refine aU ?_;refine aI (λh1=>?_) (λh1=>?_)
 ·have bS:i<n:=ax h1
  obtain⟨t,ht⟩:=bf l i I;have oW:bU a b o:=⟨ha (aL ht)⟩;have lY:bY i n:=⟨bS⟩;obtain⟨cs,fT,rfl,_⟩:=ji i _ ht;have n_:a6 w0 b (o+i*1) _:=⟨fT⟩;refine aH ?_;refine aI (λh2=>?_) (λh2=>?_)
  ·have h5:x=t:=ax h2
   refine aE ?_;exact cE rfl λw hw=>⟨(i:Int),rfl,hw,⟨λ_=>by rw[h5];exact aq ht,λ_=>I⟩⟩
  ·have h5:x≠t:=ax h2
   refine aH ?_;refine bj (i+1) ⟨bS,λj y hj hy=>?_⟩ I ap aC
   by_cases e:j=i
   ·subst e
    rw[ht]at hy;exact λe=>h5 (by rw[<-e];exact a7 hy.symm)
   ·exact cU j y I hy
 ·have gP:i=n:=by have:=h1;simp at this;omega
  refine aE ?_;refine cE rfl λw hw=>⟨-1,rfl,hw,⟨λh=>I,λh=>?_⟩⟩;obtain⟨j,hj⟩:=bg h;exact absurd rfl (cU j x (by have:=(az.1 hj).1;omega) hj)
theorem CB(v:V)(l:List Int)(x:Int)(w0:C)(hv:aG w0 v 1 l fI)(hvs:∃a n c,v=J a n c):eP ae 141 [v,U O x] w0 (D (decide (x∈l))):=by
 obtain⟨a,n,c,rfl⟩:=hvs;refine aM func141 rfl ntmps141 rfl (Wd.nil cX w0) ?_;refine aU ?_;refine cZ (val:=λr:Int=>.int O r) (akg:=λ_=>[]) (φ:=λr=>0<=r↔x∈l) rfl (λw hw=>LK _ l x w (hv.bZ dP hw.ch)) λr hr=>?_;simp only[aO];refine aH ?_;exact bP rfl (by rw[decide_eq_decide.2 hr])
theorem ahP{bl:List E}{l:List Nat}{up:List Int}{k:Nat}(h:Inv bl l up k){S:Nat->Prop}{w0 w:C}{H:List bN}{a:Option Addr}{n c:Nat}(hw:Wd S w0 (M a n c 3 1 (up.map (U O))::H) w)(hn:n=up.length)(hb:n<=1000)(hl:∀x∈l,x<1000):aG w (J a n c) 1 up fI:=by
 refine hw.oH (k:=0) rfl hn I λi x hx=>⟨[U O x],λj v hj=>?_,rfl,?_⟩
 ·match j,hj with
  |0,hj=>simpa[hx]using hj
 ·rcases h.neg i x hx with e|e
  ·rw[e];simp[dk]
  ·have:=hl _ (h.val i x.toNat (by rw[hx];congr 1;omega)).2.1
   simp only[dk];omega
theorem zH(nm pa re:V)(bl:List E)(bs:V)(IV:∃a n c,bs=J a n c)(w0:C)(m_:aG w0 bs 6 bl ed)(hlen:bl.length<=100)(cY:cT bl)(ii:∀(b:Nat) (B:E),bl[b]?=Z B->B.to.Nodup)(c_:0<bl.length):
  iC ae 66 [au #[nm,pa,re,bs]] w0 λu w'=>∃a:Nat,u=J (Z ⟨a,0,A⟩) bl.length bl.length/\Wd cX w0 [M (Z ⟨a,0,A⟩) bl.length bl.length 3 1 (((List.range bl.length).map (cS bl)).map (U O))] w'/\True:=by
 obtain⟨ba,n,bc,rfl⟩:=IV;have hn:n=bl.length:=by obtain⟨_,_,_,_,_,e,h,_⟩:=m_;simp only[Value.slice.injEq]at e;omega
 have ho:=rC cY c_;have Ep:(bI bl).length=(fx bl).length:=by unfold bI;rw[vZ]
 have Fq:=wy c_;refine aM func66 rfl ntmps66 rfl (Wd.nil cX w0) ?_
 repeat(first|refine aU ?_|refine dZ λ_ _=>?_)
 rename_i p1 _;refine cZ (val:=λx:Option Addr×Nat=>.slice x.1 (fx bl).length x.2) (akg:=λx=>[M x.1 (fx bl).length x.2 3 1 ((bI bl).map iO)]) (φ:=λ_=>True) rfl (λw hw=>AE _ _ _ bl _ ⟨_,_,_,rfl⟩ w (m_.bZ dH hw.ch) hlen cY c_) λx _=>?_;obtain⟨xa,xc⟩:=x;have s6:0<(bI bl).length:=by
  cases h:bI bl with
  |nil=>have:=ho.zero;rw[h]at this;cases this
  |cons=>simp
 have bS:∀x∈bI bl,x<bl.length:=λx hx=>cY.zQ c_ ((ho.mem x).1 hx);rw[<-Ep];generalize hl:bI bl=l at*;generalize hm:l.length=m at*;simp only[aW,aO]
 repeat(first|refine aU ?_|refine dZ λ_ _=>?_)
 rename_i ta _ e1 _;refine cZ (val:=λa:Nat=>.slice (Z ⟨a,0,A⟩) n n) (akg:=λa=>[M (Z ⟨a,0,A⟩) n n 3 1 (List.replicate n (U O (-1)))]) (φ:=λ_=>True) rfl (λw hw=>DP e1 0 n (-1) w (hw.cL (k:=0) (o:=0) (j:=0) rfl rfl) I I) λua _=>?_;simp only[aW,aO];rw[show List.replicate n (U O (-1))=(List.replicate n (-1:Int)).map (U O) by simp,show List.replicate n (U O 0)=(List.replicate n (0:Nat)).map iO by simp[iO]];refine fL 3 rfl I λob oo NB=>?_;subst NB;refine BX 3 rfl λ_ hmc aaR=>?_;refine aH ?_;refine bL (λ(x:Nat×List Nat)=>x.1<=m/\x.2.length=n/\(∀j b:Nat,j<x.1->l[j]?=Z b->x.2[b]?=Z j)/\∀y∈x.2,y<=100000) (λx=>[(28,U O x.1),(27,U O m),(26,J (Z ⟨ob,oo,A⟩) m xc),(3,J (Z ⟨ob,oo,A⟩) m xc),(4,J (Z ⟨ta,0,A⟩) n n),(5,J (Z ⟨ua,0,A⟩) n n),aj 1 p1])
  (λx=>[M (Z ⟨ua,0,A⟩) n n 3 1 ((List.replicate n (-1:Int)).map (U O)),M (Z ⟨e1,0,A⟩) 1 1 3 1 [U O (-1)],M (Z ⟨ta,0,A⟩) n n 3 1 (x.2.map iO),M (Z ⟨ob,oo,A⟩) m xc 3 1 (l.map iO),K p1 [nm,pa,re,J ba n bc] 35]) (λx=>m-x.1) (0,List.replicate n 0) ⟨aT _,by simp,λj b hj=>by simp only at hj;omega,λy hy=>by rw[jK hy];omega⟩ (aS ap aK) λx ⟨hi,ue,cU,BJ⟩=>?_
 obtain⟨i,xs⟩:=x;simp only at hi ue cU BJ⊢;refine aU ?_;refine aI (λh1=>?_) (λh1=>?_)
 ·have iJ:i<m:=ax h1
  obtain⟨b,hb⟩:=bf l i I;have pR:b<n:=by rw[hn];exact bS b (aq hb)
  have lY:bY i m:=⟨iJ⟩;have hea:qy l i b:=⟨hb⟩;have SH:bY b n:=⟨pR⟩;have NB:Rs (l.map iO) (i*1) (U O b):=⟨by simp[hb,iO]⟩;have nK:mV (xs.map iO) (b*1) (U O (i:Int)) ((xs.set b i).map iO):=⟨by simp[eM,iO],by simp;omega⟩;refine aE ?_;refine bj (i+1,xs.set b i) ⟨iJ,ax ue,λj c hj hc=>?_,λy hy=>by
   rcases kE hy with h|h
   ·exact BJ y h
   ·rw[h];omega⟩ bK ap (.refl _)
  rw[ez]
  by_cases e:b=c
  ·subst e
   rw[if_pos rfl,if_pos I];congr 1;have h1:=xW ho.nodup hb;rw[xW ho.nodup hc]at h1;omega
  ·rw[if_neg e]
   refine cU j c ?_ hc;have:j≠i:=λe'=>by subst e';rw[hb]at hc;exact e (a7 hc)
   simp only at hj;omega
 have VP:i=m:=by have:=h1;simp at this;omega
 clear hi h1;rw[VP]at cU;have oX:∀b∈l,(xs.map (λx:Nat=>(x:Int)))[b]?=Z ((rk l b:Nat):Int):=by
  intro b hb;have h1:=K7 hb;have h2:rk l b<l.length:=vY.2 hb;rw[aJ,cU (rk l b) b I h1];rfl
 have BF:bY 0 n:=⟨I⟩;have Tl:mV ((List.replicate n (-1:Int)).map (U O)) (0*1) (U O 0) (((List.replicate n (-1:Int)).set 0 0).map (U O)):=⟨by simp[eM],by simp;omega⟩;have hI0:=PK c_ ho;rw[<-hn]at hI0;generalize (List.replicate n (-1:Int)).set 0 0=MM at hI0 Tl;refine aE ?_;refine cZ (val:=λx:(Option Addr×Nat×Nat)×(Nat->Prop)=>.slice x.1.1 x.1.2.1 x.1.2.2) (akg:=λx=>[⟨x.2,λw=>aG w (J x.1.1 x.1.2.1 x.1.2.2) 1 (be bl) cN⟩]) (φ:=λ_=>True) rfl (λw hw=>fZ _ _ _ bl _ w (m_.bZ dH hw.ch) hlen cY) λx _=>?_;obtain⟨⟨aa,an,ac⟩,fp⟩:=x;simp only[aW,aO];refine aH ?_;refine jQ (L':=[(9,D true),(8,J aa an ac),(3,J (Z ⟨ob,oo,A⟩) m xc),(4,J (Z ⟨ta,0,A⟩) n n),(5,J (Z ⟨ua,0,A⟩) n n),aj 1 p1]) ap (.refl _) ?_;refine bi (H1:=[M (Z ⟨ua,0,A⟩) n n 3 1 (MM.map (U O))]++[⟨fp,λw=>aG w (J aa an ac) 1 (be bl) cN⟩,M (Z ⟨e1,0,A⟩) 1 1 3 1 [U O (-1)],M (Z ⟨ta,0,A⟩) n n 3 1 (xs.map iO),M (Z ⟨ob,oo,A⟩) m xc 3 1 (l.map iO),K p1 [nm,pa,re,J ba n bc] 35]) (List.Perm.swap _ _ _) ?_;refine nZ λw1 l9=>?_;have Lk:aG (cd (cH [M (Z ⟨ua,0,A⟩) n n 3 1 (MM.map (U O))]) w1) (J ba n bc) 6 bl ed:=m_.bZ dH l9.NG;have SR:aG (cd (cH [M (Z ⟨ua,0,A⟩) n n 3 1 (MM.map (U O))]) w1) (J (Z ⟨ob,oo,A⟩) m xc) 1 (l.map (λx:Nat=>(x:Int))) fI:=B6 l9.kF (k:=3) rfl hm.symm I λx hx=>by have:=bS x hx;omega
 have aaJ:aG (cd (cH [M (Z ⟨ua,0,A⟩) n n 3 1 (MM.map (U O))]) w1) (J (Z ⟨ta,0,A⟩) n n) 1 (xs.map (λx:Nat=>(x:Int))) fI:=B6 l9.kF (k:=2) rfl ue.symm I BJ;have BC:aG (cd (cH [M (Z ⟨ua,0,A⟩) n n 3 1 (MM.map (U O))]) w1) (J aa an ac) 1 (be bl) cN:=l9.beside (e:=⟨fp,λw=>aG w (J aa an ac) 1 (be bl) cN⟩) aC;have back:∀{akg:List bN} {w:C},Wd (cH [M (Z ⟨ua,0,A⟩) n n 3 1 (MM.map (U O))]) (cd (cH [M (Z ⟨ua,0,A⟩) n n 3 1 (MM.map (U O))]) w1) akg w->Wd cX w0 (akg++[⟨fp,λw=>aG w (J aa an ac) 1 (be bl) cN⟩,M (Z ⟨e1,0,A⟩) 1 1 3 1 [U O (-1)],M (Z ⟨ta,0,A⟩) n n 3 1 (xs.map iO),M (Z ⟨ob,oo,A⟩) m xc 3 1 (l.map iO),K p1 [nm,pa,re,J ba n bc] 35]) w:=λhw=>l9.comp hw.nk;have hkk:∀{akg:List bN} {w:C},Wd (cH [M (Z ⟨ua,0,A⟩) n n 3 1 (MM.map (U O))]) (cd (cH [M (Z ⟨ua,0,A⟩) n n 3 1 (MM.map (U O))]) w1) akg w->∀p v,(cd (cH [M (Z ⟨ua,0,A⟩) n n 3 1 (MM.map (U O))]) w1).cell? p=Z v->w.cell? p=Z v:=λhw=>hw.pW;have hold:∀{b o:Nat} {v:V},bF (cd (cH [M (Z ⟨ua,0,A⟩) n n 3 1 (MM.map (U O))]) w1) b o [v]->eS (cH [M (Z ⟨ua,0,A⟩) n n 3 1 (MM.map (U O))]) b:=λhc=>iF hc aC;generalize cd (cH [M (Z ⟨ua,0,A⟩) n n 3 1 (MM.map (U O))]) w1=wk at*;generalize cH [M (Z ⟨ua,0,A⟩) n n 3 1 (MM.map (U O))]=SS at*;have agU:=SR.known;obtain⟨IR,IQ,_,ab,ao,IN,Sc⟩:=BC.at;have zM:(be bl).length=n:=by unfold be;rw[gv,hn]
 rw[zM]at IR;have Se:=IR.symm;subst Se;have aji:∀up:List Int,BL l m up<=BL l m up:=λ_=>bG _;refine bL (λ(x:List Int×Bool)=>if x.2 then Inv bl l x.1 1 else(Inv bl l x.1 l.length/\∀v∈l,v≠0->Full bl x.1 v)) (λx=>[(9,D x.2),(8,J aa n ac),(3,J (Z ⟨ob,oo,A⟩) m xc),(4,J (Z ⟨ta,0,A⟩) n n),(5,J (Z ⟨ua,0,A⟩) n n),aj 1 p1])
  (λx=>[M (Z ⟨ua,0,A⟩) n n 3 1 (x.1.map (U O))]) (λx=>2*BL l m x.1+if x.2 then 1 else 0) (MM,true) hI0 (aS ap aK) λx hI=>?_
 obtain⟨up,more⟩:=x;simp only at hI⊢;refine aU ?_;refine aI (λh1=>?_) (λh1=>?_)
 ·subst h1
  simp only[if_true]at hI;refine aH ?_;refine Fg rfl I λa' ha'=>?_;refine aH ?_;refine bL (λ(x:Nat×List Int×Bool)=>x.1+1<=m/\Inv bl l x.2.1 (x.1+1)/\(x.2.2=false->x.2.1=up/\∀v∈l,v≠0->rk l v<x.1+1->Full bl x.2.1 v)/\(x.2.2=true->BL l m x.2.1<BL l m up)/\BL l m x.2.1<=BL l m up) (λx=>[(46,U O x.1),(44,J a' (m-1) (xc-1)),(45,U O ((m-1:Nat):Int)),(9,D x.2.2),(8,J aa n ac),(3,J (Z ⟨ob,oo,A⟩) m xc),(4,J (Z ⟨ta,0,A⟩) n n),(5,J (Z ⟨ua,0,A⟩) n n),aj 1 p1])
   (λx=>[M (Z ⟨ua,0,A⟩) n n 3 1 (x.2.1.map (U O))]) (λx=>m-x.1) (0,up,false) ⟨by simp only;omega,hI,λ_=>⟨rfl,λv hv vy hr=>absurd (rG hv (aq ho.zero) (by have:=qK ho;omega)) vy⟩,λh=>(by cases h),bG _⟩ (aS ap aK) λx ⟨hk,Q4,wN,Fo,Nq⟩=>?_
  obtain⟨k,up,more⟩:=x;simp only at hk Q4 wN Fo Nq⊢;refine aU ?_;refine aI (λh1=>?_) (λh1=>?_)
  ·have hkm:k<m-1:=ax h1
   obtain⟨b,hb⟩:=bf l (k+1) I;have gF:=aq hb;have pR:=bS b gF;have Ft:rk l b=k+1:=xW ho.nodup hb;have uZ:b≠0:=λe=>by subst e;have:=qK ho;omega
   obtain⟨_,Pj,rfl,_⟩:=agU (k+1) b (by rw[aJ,hb];rfl);have oW:bU a' ob (oo+1):=⟨ha' ob oo I rfl⟩;have SJ:bY k (m-1):=⟨hkm⟩;have BY:a6 wk ob (oo+1+k*1) [U O (b:Int)]:=⟨by rw[show oo+1+k*1=oo+(k+1)*1 by omega];exact Pj⟩;have ol1:eS SS ob:=hold Pj;have IS:=gu cY ii (t:=b) pR;obtain⟨_,HF,v,rfl,gr⟩:=Sc b _ IS;have aaG:bU aa ab ao:=⟨IN (List.ne_nil_of_mem (aq IS))⟩;have SH:bY b n:=⟨I⟩;have IX:a6 wk ab (ao+b*1) [v]:=⟨HF⟩;have ol2:eS SS ab:=hold HF;have Dj:=gr;obtain⟨ra,rn,rc,_,_,rfl,_⟩:=Dj;obtain⟨yj,aen,Fx,rb,ro,Q7,hrel⟩:=gr.at;rw[aF]at yj;have xH:∀p,p∈aZ bl b↔(p<n/\Edge bl p b):=λp=>by simp[aZ,Edge,hn]
   have Fs:(aZ bl b).length<=100:=by have:=jL (λi=>decide ((b:Int)∈db bl i)) (List.range bl.length);rw[fA]at this;unfold aZ;omega
   generalize aZ bl b=ps at*;have hul:=Q4.len;refine aH ?_;refine bL (λ(x:Nat×Int)=>x.1<=rn/\oN up (ps.take x.1) x.2) (λx=>[(55,U O x.1),(12,U O x.2),(53,J ra rn rc),(54,U O rn),(11,U O b),(46,U O k),(44,J a' (m-1) (xc-1)),(45,U O ((m-1:Nat):Int)),(9,D more),(8,J aa n ac),(3,J (Z ⟨ob,oo,A⟩) m xc),(4,J (Z ⟨ta,0,A⟩) n n),(5,J (Z ⟨ua,0,A⟩) n n),aj 1 p1])
    (λ_=>[M (Z ⟨ua,0,A⟩) n n 3 1 (up.map (U O))]) (λx=>rn-x.1) (0,-1) ⟨aT _,by simpa using KF up⟩ (aS ap aK) λx ⟨hj,CX⟩=>?_
   obtain⟨j,akj⟩:=x;simp only at hj CX⊢;refine aU ?_;refine aI (λh2=>?_) (λh2=>?_)
   ·have jw:j<rn:=ax h2
    obtain⟨p,hp⟩:=bf ps j I;have zO:=(xH p).1 (aq hp);have B4:ps.take (j+1)=ps.take j++[p]:=by rw[cz,hp];rfl
    obtain⟨_,Zj,rfl,_⟩:=hrel j (p:Int) (by rw[aJ,hp];rfl);have ac4:bU ra rb ro:=⟨Q7 (λe=>by rw[List.map_eq_nil_iff]at e;rw[e]at hp;cases hp)⟩;have Lr:bY j rn:=⟨jw⟩;have CZ:a6 wk rb (ro+j*1) [U O (p:Int)]:=⟨Zj⟩;have ol3:eS SS rb:=hold Zj;have hlp:bY p n:=⟨zO.1⟩;obtain⟨q,hq⟩:=bf up p I;have hea:qy up p q:=⟨hq⟩;refine aH ?_;refine aI (λh3=>?_) (λh3=>?_)
    ·have Q6:q<0:=ax h3
     refine aH ?_;refine bj (j+1,akj) ⟨jw,?_⟩ bK ap aK;simp only;rw[B4];exact CX.pass λ⟨c,hc⟩=>by rw[hq]at hc;have:=a7 hc;omega
    ·have Q6:0<=q:=by have:=h3;simp at this;omega
     have ZL:Pr up p:=⟨q.toNat,by rw[hq];congr 1;omega⟩;refine aU ?_;refine aI (λh4=>?_) (λh4=>?_)
     ·have VX:akj<0:=ax h4
      refine aH ?_;refine bj (j+1,(p:Int)) ⟨jw,?_⟩ bK ap aK;simp only;rw[B4];exact CX.first VX ZL
     ·have VX:0<=akj:=by have:=h4;simp at this;omega
      obtain⟨c,rfl,HG⟩:=CX.pr VX;refine aU ?_;refine cZ (val:=λakj:Nat=>.int O (akj:Int)) (akg:=λ_=>[]) (φ:=λakj=>qX up c p akj) rfl (λw hw=>abP bl l ho up _ Q4 _ oX I _ _ w (ahP Q4 hw I I λx hx=>by have:=bS x hx;omega) (aG.mono (ake:=fI) (w:=wk) (w':=w) (λ_ _ h=>h) (hkk hw) aaJ) c p HG ZL) λakj hz=>?_;simp only[aO];refine aH ?_;refine bj (j+1,(akj:Int)) ⟨jw,?_⟩ bK ap aK;simp only;rw[B4];exact CX.iZ ZL hz
   ·have hjr:j=rn:=by have:=h2;simp at this;omega
    rw[hjr,yj,cQ]at CX;obtain⟨q,Lw,Er,hqk,VS⟩:∃q,q∈ps/\q∈l/\rk l q<k+1/\Edge bl q b:=by
     obtain⟨j,q,hj,Lw,VS⟩:=ho.ahead (k+1) b hb uZ;have Er:=aq Lw;exact⟨q,(xH q).2 ⟨by have:=bS q Er;omega,VS⟩,Er,by rw[xW ho.nodup Lw];exact hj,VS⟩
    obtain⟨akj,rfl,hzp,Zg⟩:∃c:Nat,akj=c/\Pr up c/\∀y,sL up y c↔∀p,Edge bl p b->Pr up p->sL up y p:=by
     rcases CX with⟨_,h⟩|⟨c,h1,h2,_,h3⟩
     ·exact absurd (Q4.JP q Er hqk) (h q Lw)
     ·refine⟨c,h1,h2,λy=>(h3 y).trans ⟨λh p he hp=>h p ((xH p).2 ⟨by have:=bS p (Q4.sI hp);omega,he⟩) hp,λh p hp ZL=>h p ((xH p).1 hp).2 ZL⟩⟩
    obtain⟨hIs,adL,_⟩:=Q4.step cY c_ ho I hb hzp Zg;have Ph:b<up.length:=I;obtain⟨x0,Eu⟩:∃x,up[b]?=Z x:=⟨_,a_ Ph⟩;have hea:qy up b x0:=⟨Eu⟩;have adK:l.length=m:=hm;refine aE ?_;refine aI (λh3=>?_) (λh3=>?_)
    ·have eQ:x0≠(akj:Int):=ax h3
     have adw:=Q4.acI hzp Eu eQ adL;rw[adK]at adw;have nK:mV (up.map (U O)) (b*1) (U O (akj:Int)) ((up.set b (akj:Int)).map (U O)):=⟨by simp[eM],by simp;omega⟩;refine aE ?_;refine bj (k+1,up.set b (akj:Int),true) ⟨by simp only;omega,hIs,λh=>(by cases h),λ_=>by simp only;omega,by simp only;omega⟩ bK ap aK
    ·have he:x0=(akj:Int):=by have:=h3;simp at this;exact this
     subst he;have rS:up.set b (akj:Int)=up:=mJ Eu;rw[rS]at hIs;refine aH ?_;refine bj (k+1,up,more) ⟨by simp only;omega,hIs,λh=>⟨(wN h).1,λv hv vy hr=>?_⟩,Fo,Nq⟩ bK ap aK
     by_cases e:v=b
     ·subst e;exact Q4.full uZ Eu Zg
     ·refine(wN h).2 v hv vy ?_
      have:rk l v≠k+1:=λe'=>e (rG hv gF I);simp only at hr;omega
  ·have hkm:k+1=m:=by have:=h1;simp at this;omega
   rw[hkm]at Q4 wN;refine aE ?_;refine bj (up,more) ?_ ?_ ap aK
   ·cases more with
    |true=>exact Inv.again ho (hm.symm▸Q4)
    |false=>
     refine⟨hm.symm▸Q4,λv hv vy=>(wN rfl).2 v hv vy ?_⟩;rw[<-hm];exact vY.2 hv
   ·cases more with
    |true=>have:=Fo rfl;simp only[if_true];omega
    |false=>simp only[Bool.false_eq_true,if_true,if_false];omega
 ·subst h1
  simp only[Bool.false_eq_true,if_false]at hI;have hul:=hI.1.len;have Xv:mV (up.map (U O)) (0*1) (U O (-1)) ((up.set 0 (-1)).map (U O)):=⟨by simp[eM],by simp;omega⟩;refine aE ?_;refine cE rfl λw hw=>⟨ua,by rw[hn],?_,trivial⟩;have:=back hw;rw[hI.1.tree ho hI.2,<-hn]at this;rw[<-hn];exact this.sub (eI _ _)
theorem Kf{S:Nat->Prop}{w0 w:C}{H:List bN}{k:Nat}{a:Option Addr}{n c e:Nat}{bl:List E}(hw:Wd S w0 H w)(hk:H[k]?=Z (M a n c e 1 (((List.range bl.length).map (cS bl)).map (U O))))(hn:n=bl.length)(cY:cT bl)(c_:0<bl.length)(hlen:bl.length<=100):aG w (J a n c) 1 ((List.range bl.length).map (cS bl)) fI:=by
 refine hw.oH hk (ax hn) I λi x hx=>⟨[U O x],λj v hj=>?_,rfl,?_⟩
 ·match j,hj with
  |0,hj=>rw[f_,ef,aJ,hx];simpa using hj
 ·obtain⟨b,_,rfl⟩:=aV.1 (aq hx)
  by_cases h:∃c,kS bl c b
  ·obtain⟨c,hc⟩:=h
   rw[iw hc];have:=cY.zQ c_ hc.1.1;simp only[dk];omega
  ·rw[gB λc hc=>h ⟨c,hc⟩];simp[dk]
theorem Kg{bl:List E}(cY:cT bl)(h0:0<bl.length){b:Nat}(uZ:b≠0):decide (cS bl b<0)= !(open Classical in decide (gH bl (-1) 0 b)):=by
 classical
 by_cases h:gH bl (-1) 0 b
 ·obtain⟨c,hc⟩:=ug cY h0 h uZ
  rw[iw hc];simp[h]
 ·rw[gB λc hc=>h hc.1.2.1]
  simp[h]
theorem F5{bl:List E}(_hok:cT bl)(_h0:0<bl.length){b p:Nat}(h:jY bl b p):(cS bl b<0/\cS bl b=-1)∨∃c:Nat,cS bl b=c/\jY bl c p:=by
 by_cases hx:∃c,kS bl c b
 ·obtain⟨c,hc⟩:=hx
  exact .inr ⟨c,iw hc,hc.1.trans h⟩
 ·have e:=gB λc hc=>hx ⟨c,hc⟩
  exact .inl ⟨by rw[e];omega,e⟩
theorem z8(nm pa re:V)(bl:List E)(bs:V)(IV:∃a n c,bs=J a n c)(w0:C)(m_:aG w0 bs 6 bl ed)(hlen:bl.length<=100)(cY:cT bl)(ii:∀(b:Nat) (B:E),bl[b]?=Z B->B.to.Nodup)(c_:0<bl.length):
  iC ae 98 [au #[nm,pa,re,bs]] w0 λu w'=>∃x:Nat×List Row,u=J (Z ⟨x.1,0,A⟩) bl.length bl.length/\Wd cX w0 (M (Z ⟨x.1,0,A⟩) bl.length bl.length 42 1 (x.2.map fG)::x.2.map ie) w'/\x.2.map (·.l)=ir bl:=by
 classical
 obtain⟨ba,n,bc,rfl⟩:=IV;have hn:n=bl.length:=m_.at.1;refine aM func98 rfl ntmps98 rfl (Wd.nil cX w0) ?_
 repeat(first|refine aU ?_|refine dZ λ_ _=>?_)
 rename_i p1 _;refine cZ (val:=λa:Nat=>.slice (Z ⟨a,0,A⟩) n n) (akg:=λa=>[M (Z ⟨a,0,A⟩) n n 3 1 (((List.range bl.length).map (cS bl)).map (U O))]) (φ:=λ_=>True) rfl (λw hw=>by
  have:=zH nm pa re bl _ ⟨ba,n,bc,rfl⟩ w (m_.bZ dH hw.ch) hlen cY ii c_;rw[<-hn]at this⊢;exact this) λua _=>?_
 simp only[aW,aO]
 repeat(first|refine aU ?_|refine dZ λ_ _=>?_)
 rename_i bo _;refine lW 3 1 n ?_;rw[show(List.replicate n (J A 0 0))=(List.replicate n (⟨A,0,[]⟩:Row)).map fG by simp[fG],show(List.replicate n (M A 0 0 3 1 []))=(List.replicate n (⟨A,0,[]⟩:Row)).map ie by simp[ie]];refine cZ (val:=λx:(Option Addr×Nat×Nat)×(Nat->Prop)=>.slice x.1.1 x.1.2.1 x.1.2.2) (akg:=λx=>[⟨x.2,λw=>aG w (J x.1.1 x.1.2.1 x.1.2.2) 1 (be bl) cN⟩]) (φ:=λ_=>True) rfl (λw hw=>fZ _ _ _ bl _ w (m_.bZ dH hw.ch) hlen cY) λx _=>?_;obtain⟨⟨aa,an,ac⟩,fp⟩:=x;simp only[aW,aO];refine aH ?_;refine bi (H1:=(M (Z ⟨bo,0,A⟩) n n 42 1 ((List.replicate n (⟨A,0,[]⟩:Row)).map fG)::(List.replicate n (⟨A,0,[]⟩:Row)).map ie)++[⟨fp,λw=>aG w (J aa an ac) 1 (be bl) cN⟩,M (Z ⟨ua,0,A⟩) n n 3 1 (((List.range bl.length).map (cS bl)).map (U O)),K p1 [nm,pa,re,J ba n bc] 35]) ((List.Perm.swap _ _ _).trans (List.Perm.cons _ (cP (l₁:=[⟨fp,λw=>aG w (J aa an ac) 1 (be bl) cN⟩,M (Z ⟨ua,0,A⟩) n n 3 1 (((List.range bl.length).map (cS bl)).map (U O)),K p1 [nm,pa,re,J ba n bc] 35])))) ?_;refine nZ λw1 l9=>?_;have BC:aG (cd (cH (M (Z ⟨bo,0,A⟩) n n 42 1 ((List.replicate n (⟨A,0,[]⟩:Row)).map fG)::(List.replicate n (⟨A,0,[]⟩:Row)).map ie)) w1) (J aa an ac) 1 (be bl) cN:=l9.beside (e:=⟨fp,λw=>aG w (J aa an ac) 1 (be bl) cN⟩) aC;have ahv:aG (cd (cH (M (Z ⟨bo,0,A⟩) n n 42 1 ((List.replicate n (⟨A,0,[]⟩:Row)).map fG)::(List.replicate n (⟨A,0,[]⟩:Row)).map ie)) w1) (J (Z ⟨ua,0,A⟩) n n) 1 ((List.range bl.length).map (cS bl)) fI:=Kf l9.kF (k:=1) rfl hn cY c_ hlen;have back:∀{akg:List bN} {w:C},Wd (cH (M (Z ⟨bo,0,A⟩) n n 42 1 ((List.replicate n (⟨A,0,[]⟩:Row)).map fG)::(List.replicate n (⟨A,0,[]⟩:Row)).map ie)) (cd (cH (M (Z ⟨bo,0,A⟩) n n 42 1 ((List.replicate n (⟨A,0,[]⟩:Row)).map fG)::(List.replicate n (⟨A,0,[]⟩:Row)).map ie)) w1) akg w->Wd cX w0 (akg++[⟨fp,λw=>aG w (J aa an ac) 1 (be bl) cN⟩,M (Z ⟨ua,0,A⟩) n n 3 1 (((List.range bl.length).map (cS bl)).map (U O)),K p1 [nm,pa,re,J ba n bc] 35]) w:=λhw=>l9.comp hw.nk;have hold:∀{b o:Nat} {v:V},bF (cd (cH (M (Z ⟨bo,0,A⟩) n n 42 1 ((List.replicate n (⟨A,0,[]⟩:Row)).map fG)::(List.replicate n (⟨A,0,[]⟩:Row)).map ie)) w1) b o [v]->eS (cH (M (Z ⟨bo,0,A⟩) n n 42 1 ((List.replicate n (⟨A,0,[]⟩:Row)).map fG)::(List.replicate n (⟨A,0,[]⟩:Row)).map ie)) b:=λhc=>iF hc aC;generalize cd (cH (M (Z ⟨bo,0,A⟩) n n 42 1 ((List.replicate n (⟨A,0,[]⟩:Row)).map fG)::(List.replicate n (⟨A,0,[]⟩:Row)).map ie)) w1=wk at*;generalize cH (M (Z ⟨bo,0,A⟩) n n 42 1 ((List.replicate n (⟨A,0,[]⟩:Row)).map fG)::(List.replicate n (⟨A,0,[]⟩:Row)).map ie)=SS at*;obtain⟨IR,IQ,_,ab,ao,IN,Sc⟩:=BC.at;have zM:(be bl).length=n:=by unfold be;rw[gv,hn]
 rw[zM]at IR;have Se:=IR.symm;subst Se;have tree:∀b,b<n->a6 wk ua (0+b*1) [U O (cS bl b)]/\eS SS ua:=by
  intro b hb;obtain⟨_,hc,rfl,_⟩:=ahv.known b (cS bl b) (by rw[aJ,eX I];rfl);exact⟨⟨hc⟩,hold hc⟩
 refine bL (λ(x:Nat×List Row)=>x.1<=n/\x.2.length=n/\∀i r,x.2[i]?=Z r->r.l=sV bl x.1 (λ_=>False) i) (λx=>[(19,U O x.1),(17,J aa n ac),(18,U O n),(3,J (Z ⟨ua,0,A⟩) n n),(4,J (Z ⟨bo,0,A⟩) n n)])
  (λx=>M (Z ⟨bo,0,A⟩) n n 42 1 (x.2.map fG)::x.2.map ie) (λx=>n-x.1) (0,List.replicate n ⟨A,0,[]⟩)
  ⟨aT _,by simp,λi r hr=>?_⟩ (aS ap aK) λx ⟨hi,rR,uN⟩=>?_
 ·simp only[g_]at hr
  split at hr
  ·simp only[b_]at hr
   subst hr;simp[sV]
  ·cases hr
 obtain⟨b,rs⟩:=x;simp only at hi rR uN⊢;refine aU ?_;refine aI (λh1=>?_) (λh1=>?_)
 ·have pR:b<n:=ax h1
  have IS:=gu cY ii (t:=b) I;obtain⟨_,HF,v,rfl,gr⟩:=Sc b _ IS;have aaG:bU aa ab ao:=⟨IN (List.ne_nil_of_mem (aq IS))⟩;have SH:bY b n:=⟨pR⟩;have IX:a6 wk ab (ao+b*1) [v]:=⟨HF⟩;have ol2:eS SS ab:=hold HF;have Dj:=gr;obtain⟨ra,rn,rc,_,_,rfl,_⟩:=Dj;obtain⟨yj,aen,Fx,rb,ro,Q7,hrel⟩:=gr.at;rw[aF]at yj;have xH:∀p,p∈aZ bl b↔(p<bl.length/\Edge bl p b):=λp=>by simp[aZ,Edge]
  have Fs:(aZ bl b).length<=100:=by have:=jL (λi=>decide ((b:Int)∈db bl i)) (List.range bl.length);rw[fA]at this;unfold aZ;omega
  generalize aZ bl b=ps at*;obtain⟨Jj,ol3⟩:=tree b pR;refine aH ?_;refine lI 32 (D (!decide (gH bl (-1) 0 b))) ?_ ?_
  ·by_cases uZ:b=0
   ·subst uZ
    rw[show decide ((0:Int)<((0:Nat):Int))=false from rfl,show(!decide (gH bl (-1) 0 0))=false by simp[gH.refl]];refine iL ?_;exact aS ap aK
   ·rw[show decide ((0:Int)<(b:Int))=true by simp;omega,<-Kg cY c_ uZ]
    refine aE ?_;exact aS ap aK
  generalize he1:decide (gH bl (-1) 0 b)=e1;cases e1
  ·have oB:¬gH bl (-1) 0 b:=ax he1
   rw[show(!false)=true from rfl];refine aE ?_;refine bj (b+1,rs) ⟨pR,rR,λi r hr=>?_⟩ bK ap aK;rw[uN i r hr,<-Fe];exact kK ⟨λh=>h.elim,λ⟨p,hp,he,_⟩=>oB (hp.step he I)⟩
  have Ft:gH bl (-1) 0 b:=ax he1;rw[show(!true)=false from rfl];refine aH ?_;refine bL (λ(x:Nat×List Row)=>x.1<=rn/\x.2.length=n/\∀i r,x.2[i]?=Z r->r.l=sV bl b (Mark bl b (ps.take x.1)) i) (λx=>[(35,U O x.1),(33,J ra rn rc),(34,U O rn),(5,U O b),(19,U O b),(17,J aa n ac),(18,U O n),(3,J (Z ⟨ua,0,A⟩) n n),(4,J (Z ⟨bo,0,A⟩) n n)])
   (λx=>M (Z ⟨bo,0,A⟩) n n 42 1 (x.2.map fG)::x.2.map ie) (λx=>rn-x.1) (0,rs)
   ⟨aT _,rR,λi r hr=>by rw[uN i r hr];exact kK ⟨λh=>h.elim,λ⟨p,hp,_⟩=>by simp at hp⟩⟩ (aS ap aK) λx ⟨hj,Py,Dk⟩=>?_
  obtain⟨j,rs1⟩:=x;simp only at hj Py Dk⊢;refine aU ?_;refine aI (λh2=>?_) (λh2=>?_)
  ·have jw:j<rn:=ax h2
   obtain⟨p,hp⟩:=bf ps j I;have zO:=(xH p).1 (aq hp);have B4:ps.take (j+1)=ps.take j++[p]:=by rw[cz,hp];rfl
   obtain⟨_,Zj,rfl,_⟩:=hrel j (p:Int) (by rw[aJ,hp];rfl);have ac4:bU ra rb ro:=⟨Q7 (λe=>by rw[List.map_eq_nil_iff]at e;rw[e]at hp;cases hp)⟩;have Lr:bY j rn:=⟨jw⟩;have CZ:a6 wk rb (ro+j*1) [U O (p:Int)]:=⟨Zj⟩;have ol4:eS SS rb:=hold Zj;have hlp:bY p n:=⟨I⟩;obtain⟨Xs,_⟩:=tree p I;refine aH ?_;refine lI 47 (D (!decide (gH bl (-1) 0 p))) ?_ ?_
   ·by_cases An:p=0
    ·subst An
     rw[show decide ((0:Int)<((0:Nat):Int))=false from rfl,show(!decide (gH bl (-1) 0 0))=false by simp[gH.refl]];refine iL ?_;exact aS ap aK
    ·rw[show decide ((0:Int)<(p:Int))=true by simp;omega,<-Kg cY c_ An]
     refine aE ?_;exact aS ap aK
   generalize he2:decide (gH bl (-1) 0 p)=e2;cases e2
   ·have oB:¬gH bl (-1) 0 p:=ax he2
    rw[show(!false)=true from rfl];refine aE ?_;refine bj (j+1,rs1) ⟨jw,Py,λi r hr=>?_⟩ bK ap aK;rw[Dk i r hr];simp only;rw[B4];exact kK (PX oB).symm
   have hrp:gH bl (-1) 0 p:=ax he2;rw[show(!true)=false from rfl];refine aH ?_;refine bL (λ(x:Int×List Row)=>((x.1<0/\x.1=-1)∨∃c:Nat,x.1=c/\jY bl c p)/\(∀c,kS bl c b->Ey bl c x.1)/\x.2.length=n/\∀i r,x.2[i]?=Z r->r.l=sV bl b (Way bl b (ps.take j) p x.1) i) (λx=>[(9,U O x.1),(8,U O p),(35,U O j),(33,J ra rn rc),(34,U O rn),(5,U O b),(19,U O b),(17,J aa n ac),(18,U O n),(3,J (Z ⟨ua,0,A⟩) n n),(4,J (Z ⟨bo,0,A⟩) n n)])
    (λx=>M (Z ⟨bo,0,A⟩) n n 42 1 (x.2.map fG)::x.2.map ie) (λx=>Hz bl x.1) ((p:Int),rs1)
    ⟨.inr ⟨p,rfl,.refl hrp⟩,λc hc=>⟨p,rfl,hc.1.ED hc.2.1 zO.2 hrp⟩,Py,λi r hr=>by rw[Dk i r hr];exact kK QY.symm⟩ (aS ap aK) λx ⟨hz,hH,S6,xJ⟩=>?_
   obtain⟨akj,Rb⟩:=x;simp only at hz hH S6 xJ⊢;have fin:(akj<0∨akj=cS bl b)->∀i r,Rb[i]?=Z r->r.l=sV bl b (Mark bl b (ps.take (j+1))) i:=λh i r hr=>by
    rw[xJ i r hr,B4];exact kK (YI hrp hH h)
   refine aU ?_;rcases hz with⟨VX,rfl⟩|⟨a,rfl,oW⟩
   ·rw[show decide ((0:Int)<=-1)=false from rfl]
    refine iL ?_;exact bj (j+1,Rb) ⟨jw,S6,fin (.inl VX)⟩ bK ap aK
   have Xj:=oW.1;have HE:a<n:=by have:=cY.zQ c_ Xj;omega
   rw[show decide ((0:Int)<=(a:Int))=true by simp];refine aE ?_;refine aI (λh3=>?_) (λh3=>?_)
   ·have eQ:(a:Int)≠cS bl b:=ax h3
    have I6:bY a n:=⟨HE⟩;obtain⟨yk,_⟩:=tree a HE;obtain⟨r,hr⟩:=bf Rb a I;have aek:=Wv (bl:=bl) (b:=b) (i:=a) (ake:=Way bl b (ps.take j) p a) I;rw[<-xJ a r hr]at aek;have NB:Rs (Rb.map fG) (a*1) (J r.a r.l.length r.c):=⟨by simp[hr,fG]⟩;have ac6:a<Rb.length:=I;have LB:=F5 cY c_ (b:=a) oW;refine aH ?_;refine bB rfl (λw hw=>CB _ r.l b w (UU (akg:=[_]) (H:=[]) (by rw[cD];exact hw) hr aek) ⟨_,_,_,rfl⟩) ?_;rw[show decide ((b:Int)∈r.l)=decide (Way bl b (ps.take j) p a a) by rw[decide_eq_decide,xJ a r hr,RN]];generalize he3:decide (Way bl b (ps.take j) p a a)=e3;have SN:=Oy cY c_ Xj;cases e3
    ·have hnw:¬Way bl b (ps.take j) p a a:=ax he3
     repeat(first|refine aH ?_|refine dZ λ_ _=>?_)
     rename_i bt _;refine gU (a+2) (xs:=r.l.map (U O)) (e:=3) (by simp[hr,ie]) rfl rfl I I λa' c'=>?_;refine fC (H1:=M (Z ⟨bt,0,A⟩) 1 1 3 1 [U O b]::M (Z ⟨bo,0,A⟩) n n 42 1 (Rb.map fG)::(Rb.set a ⟨a',c',r.l++[(b:Int)]⟩).map ie) (by simp[ie,eM]) ?_;have nK:mV (Rb.map fG) (a*1) (J a' (r.l.length+1) c') ((Rb.set a ⟨a',c',r.l++[(b:Int)]⟩).map fG):=⟨by simp[fG,eM],ax ac6⟩;refine aE ?_;refine bj (cS bl a,Rb.set a ⟨a',c',r.l++[(b:Int)]⟩) ⟨LB,Vw cY c_ Xj hH eQ,ax S6,λi q hq=>?_⟩ SN ap aw;simp only[ez]at hq;simp only;rw[kK (W:=λi=>Way bl b (ps.take j) p a i∨i=a) (Kk cY c_ oW)]
     by_cases VO:a=i
     ·subst VO
      simp only[if_true,ac6,b_]at hq;subst hq;simp only;rw[RK hnw,xJ a r hr]
     ·rw[if_neg VO]at hq
      rw[xJ i q hq];exact kK ⟨.inl,λh=>h.elim id λe=>absurd e.symm VO⟩
    ·have ek:Way bl b (ps.take j) p a a:=ax he3
     refine aH ?_;refine bj (cS bl a,Rb) ⟨LB,Vw cY c_ Xj hH eQ,S6,λi q hq=>?_⟩ SN ap aK;rw[xJ i q hq];exact kK ((Kk cY c_ oW).trans ⟨λh=>h.elim id λe=>by subst e;exact ek,.inl⟩).symm
   ·have he:(a:Int)=cS bl b:=ax h3
    refine aE ?_;exact bj (j+1,Rb) ⟨jw,S6,fin (.inr he)⟩ bK ap aK
  ·have hjr:j=rn:=by have:=h2;simp at this;omega
   rw[hjr,yj,cQ]at Dk;refine aE ?_;refine bj (b+1,rs1) ⟨pR,Py,λi r hr=>?_⟩ bK ap aK;rw[Dk i r hr,<-Fe];exact kK (L7 cY c_ Ft xH)
 ·have gP:b=n:=by have:=h1;simp at this;omega
  refine aE ?_;refine cE rfl λw hw=>⟨(bo,rs),by rw[hn],?_,?_⟩
  ·simp only
   rw[<-hn];exact(back hw).sub (eI _ _)
  ·show rs.map (·.l)=ir bl
   apply ci;intro i;unfold ir IG
   by_cases oA:i<n
   ·rw[aJ,aJ,a_ (by omega:i<rs.length),eX I,bu,bu,uN i _ (a_ I),gP,hn]
    simp[sV]
   ·rw[aJ,bO I,bO (by rw[aF,fA];omega)]
    rfl
def Hv:Go.Shelf.Ren:=⟨λ|125=>168|128=>185|129=>186|189=>151|215=>203|216=>182|257=>167|294=>176|295=>177|296=>178|297=>179|298=>180|299=>181|300=>183|301=>184|328=>198|329=>199|330=>200|331=>201|332=>202|343=>208|n=>n,λ|0=>0|3=>3|4=>4|5=>5|9=>9|28=>42|46=>172|51=>210|53=>213|131=>227|182=>230|183=>231|218=>244|222=>248|228=>252|229=>253|n=>n,λn=>n⟩
theorem J7:Go.Proofs.Lays.n189 ae Hv where
 mixed:=aR
 f125:=func168.trans (congrArg Z aR)
 f128:=func185.trans (congrArg Z aR)
 f129:=func186.trans (congrArg Z aR)
 f189:=func151.trans (congrArg Z aR)
 f215:=func203.trans (congrArg Z aR)
 f216:=func182.trans (congrArg Z aR)
 f257:=func167.trans (congrArg Z aR)
 f294:=func176.trans (congrArg Z aR)
 f295:=func177.trans (congrArg Z aR)
 f296:=func178.trans (congrArg Z aR)
 f297:=func179.trans (congrArg Z aR)
 f298:=func180.trans (congrArg Z aR)
 f299:=func181.trans (congrArg Z aR)
 f300:=func183.trans (congrArg Z aR)
 f301:=func184.trans (congrArg Z aR)
 f328:=func198.trans (congrArg Z aR)
 f329:=func199.trans (congrArg Z aR)
 f330:=func200.trans (congrArg Z aR)
 f331:=func201.trans (congrArg Z aR)
 f332:=func202.trans (congrArg Z aR)
 f343:=func208.trans (congrArg Z aR)
 t0:=underlying0
 a0:=isAgg0
 z0:=sizeOf0
 v0:=zeroValue0
 t3:=underlying3
 a3:=isAgg3
 z3:=sizeOf3
 v3:=zeroValue3
 t4:=underlying4
 a4:=isAgg4
 z4:=sizeOf4
 v4:=zeroValue4
 t5:=underlying5
 a5:=isAgg5
 z5:=sizeOf5
 v5:=zeroValue5
 t9:=underlying9
 a9:=isAgg9
 z9:=sizeOf9
 v9:=zeroValue9
 t28:=underlying42
 a28:=isAgg42
 z28:=sizeOf42
 v28:=zeroValue42
 t46:=underlying172
 a46:=isAgg172
 z46:=sizeOf172
 v46:=zeroValue172
 t51:=underlying210
 a51:=isAgg210
 z51:=sizeOf210
 v51:=zeroValue210
 t53:=underlying213
 a53:=isAgg213
 z53:=sizeOf213
 v53:=zeroValue213
 t131:=underlying227
 a131:=isAgg227
 z131:=sizeOf227
 v131:=zeroValue227
 t182:=underlying230
 a182:=isAgg230
 z182:=sizeOf230
 v182:=zeroValue230
 t183:=underlying231
 a183:=isAgg231
 z183:=sizeOf231
 v183:=zeroValue231
 t218:=underlying244
 a218:=isAgg244
 z218:=sizeOf244
 v218:=zeroValue244
 t222:=underlying248
 a222:=isAgg248
 z222:=sizeOf248
 v222:=zeroValue248
 t228:=underlying252
 a228:=isAgg252
 z228:=sizeOf252
 v228:=zeroValue252
 t229:=underlying253
 a229:=isAgg253
 z229:=sizeOf253
 v229:=zeroValue253
theorem Wd.holds{S:Nat->Prop}{w0 w:C}{H:List bN}(hW:Wd S w0 H w){k b o n c e:Nat}{l:List Int}(hk:H[k]?=Z (M (Z ⟨b,o,A⟩) n c e 1 (l.map (U O)))):Go.Sort.Holds (U O) w b o l.toArray/\b<w.heap.size:=by
 obtain⟨_,_,_,pre,sp,rfl,_,hb⟩:=hW.lu hk;refine⟨λj hj=>⟨?_,by simp[World.frozen?,hb]⟩,(fv.1 hb).1⟩;have Nn:j<l.length:=ax hj;refine hW.cL hk ?_;rw[aJ,a_ Nn];simp[Nn]
theorem ab9(a:Option Addr)(c:Nat)(l:List Int)(hlen:l.length<=100000)(w:C)(hw:Wd (cH [M a l.length c 3 1 (l.map (U O))]) w [M a l.length c 3 1 (l.map (U O))] w):
  iC ae 151 [J a l.length c] w λu w'=>∃_:Unit,u=.tuple #[]/\Wd (cH [M a l.length c 3 1 (l.map (U O))]) w [M a l.length c 3 1 ((mu l).map (U O))] w'/\True:=by
 rcases(hw.get (k:=0) rfl).2 with⟨rfl,h0,rfl⟩|⟨b,pre,sp,rfl,_⟩
 ·have hl:l=[]:=lk h0
  subst hl;refine callsIn_wide.2 ((Go.Proofs.Any.slices_Sort_int_none J7 A 0 w).mono λe w' ⟨he,ek⟩=>⟨_,he,(),rfl,?_,trivial⟩);rw[ek,show mu []=[] by simp[mu]];exact hw
 ·obtain⟨h1,h2⟩:=hw.holds (k:=0) rfl
  refine callsIn_wide.2 ((Go.Proofs.Any.slices_Sort_int J7 b pre.length c l w h1 h2 I).mono λe w' ⟨he,m,os,ek⟩=>⟨_,he,(),rfl,?_,trivial⟩);rw[ek];have:=hw.mu (k:=0) (m:=m) (os:=os) (l':=mu l) rfl (D2 l);simpa[mu]using this
attribute [local irreducible] bodyPostM
theorem xS{l:List Int}{n:Nat}(hn:l.Nodup)(h:∀x∈l,∃c:Nat,x=c/\c<n):l.length<=n:=by
 have h1:(l.map Int.toNat).Nodup:=by
  refine q6.2 (List.Pairwise.imp_of_mem (λ{x y} hx hy eQ e=>?_) hn);obtain⟨c,rfl,_⟩:=h x hx;obtain⟨d,rfl,_⟩:=h y hy;exact eQ (by simp at e;omega)
 have h2:=wx n (l.map Int.toNat) h1 λx hx=>by
  obtain⟨y,hy,rfl⟩:=aV.1 hx;obtain⟨c,rfl,hc⟩:=h y hy;simpa using hc
 rwa[aF]at h2
theorem UW{S:Nat->Prop}{w0 w:C}{rs:List Row}{a:Option Addr}{c e:Nat}{H:List bN}(h:Wd S w0 (M a rs.length c e 1 (rs.map fG)::(rs.map ie++H)) w)(hb:rs.length<=100000)(hl:∀r∈rs,r.l.length<=1000/\∀x∈r.l,dk x):aG w (J a rs.length c) 1 (rs.map (·.l)) cN:=by
 refine h.oH (k:=0) rfl (by rw[aF]) I λi x hx=>?_;rw[aJ]at hx;obtain⟨r,hr,rfl⟩:=cA.1 hx;refine⟨[fG r],λj v hj=>?_,_,rfl,UU (akg:=[_]) (H:=H) h hr (hl r (aq hr))⟩
 match j,hj with
 |0,hj=>simpa[hr]using hj
inductive l7(bl:List E)(bs:List Int):Nat->Prop
 |base {b x:Nat}:(b:Int)∈bs->ij bl b x->l7 bl bs x
 |step {y x:Nat}:l7 bl bs y->ij bl y x->l7 bl bs x
theorem ij.lt{bl:List E}(cY:cT bl){a b:Nat}(h:ij bl a b):b<bl.length:=by
 obtain⟨p,_,he,_⟩:=h;exact cY.ED he
theorem l7.lt{bl:List E}(cY:cT bl){bs:List Int}{x:Nat}(h:l7 bl bs x):x<bl.length:=by
 cases h with
 |base _ h=>exact h.lt cY
 |step _ h=>exact h.lt cY
def Gc(bl:List E)(bs:List Int)(p:Nat->Prop):Prop:=∀b:Nat,((b:Int)∈bs∨p b)->∀x,ij bl b x->p x
theorem Gc.all{bl:List E}{bs:List Int}{p:Nat->Prop}(h:Gc bl bs p){x:Nat}(hx:l7 bl bs x):p x:=by
 induction hx with
 |base hb hf=>exact h _ (.inl hb) _ hf
 |step _ hf ih=>exact h _ (.inr ih) _ hf
open Classical in
noncomputable def xj(bl:List E)(bs:List Int):List Int:=((List.range bl.length).filter λx=>decide (l7 bl bs x)).map λx:Nat=>(x:Int)
open Classical in
theorem FI{bl:List E}(cY:cT bl){bs:List Int}{x:Int}:x∈xj bl bs↔∃c:Nat,x=c/\l7 bl bs c:=by
 unfold xj;rw[aV];constructor
 ·rintro⟨c,h,rfl⟩
  exact⟨c,rfl,by simpa using(cC.1 h).2⟩
 ·rintro⟨c,rfl,h⟩
  exact⟨c,cC.2 ⟨cM.2 (h.lt cY),ax h⟩,rfl⟩
structure HV(bl:List E)(bs:List Int)(row out:List Int):Prop where
 nodup:out.Nodup
 sound:∀x∈out,∃c:Nat,x=c/\l7 bl bs c
 rows:∀x∈row,x∈bs∨x∈out
 done:∀y:Nat,((y:Int)∈bs∨(y:Int)∈out)->(y:Int)∈row∨∀x:Nat,ij bl y x->(x:Int)∈out
theorem Ma(bl:List E)(bs:List Int):HV bl bs bs []:=⟨by simp,by simp,λ_ h=>.inl h,λ_ h=>.inl (h.elim id λh=>by cases h)⟩
structure wX(bl:List E)(bs:List Int)(b:Nat)(fs:List Int)(row out:List Int):Prop where
 nodup:out.Nodup
 sound:∀x∈out,∃c:Nat,x=c/\l7 bl bs c
 head:(b:Int)∈bs∨(b:Int)∈out
 rows:∀x∈row,x∈bs∨x∈out
 done:∀y:Nat,((y:Int)∈bs∨(y:Int)∈out)->y=b∨(y:Int)∈row∨∀x:Nat,ij bl y x->(x:Int)∈out
 seen:∀x∈fs,x∈out
theorem HV.head{bl:List E}{bs row out:List Int}{b:Nat}(h:HV bl bs ((b:Int)::row) out):wX bl bs b [] row out:=
 ⟨h.nodup,h.sound,h.rows _ aC,λx hx=>h.rows x (cO _ hx),λy hy=>(h.done y hy).elim (λhm=>(bD.1 hm).elim (λe=>.inl I) λhm=>.inr (.inl hm)) λhx=>.inr (.inr hx),by simp⟩
theorem wX.pass{bl:List E}{bs row out fs:List Int}{b:Nat}{x:Int}(h:wX bl bs b fs row out)(hx:x∈out):wX bl bs b (fs++[x]) row out:=
 ⟨h.nodup,h.sound,h.head,h.rows,h.done,λy hy=>(bA.1 hy).elim (h.seen y) λhy=>by rw[bR.1 hy];exact hx⟩
theorem wX.add{bl:List E}{bs row out fs:List Int}{b x:Nat}(h:wX bl bs b fs row out)(hf:ij bl b x)(hx:(x:Int)∉out):wX bl bs b (fs++[(x:Int)]) (row++[(x:Int)]) (out++[(x:Int)]):=by
 have hm:l7 bl bs x:=h.head.elim (λhb=>.base hb hf) λhb=>by
  obtain⟨c,e,hc⟩:=h.sound _ hb;have:b=c:=I;subst this;exact .step hc hf
 refine⟨pI.2 ⟨h.nodup,by simp,λa ha c hc e=>hx ?_⟩,λy hy=>?_,h.head.imp id (ct _),λy hy=>?_,λy hy=>?_,λy hy=>?_⟩
 ·rw[bR.1 hc]at e;rw[<-e];exact ha
 ·rcases bA.1 hy with hy|hy
  ·exact h.sound y hy
  ·exact⟨x,bR.1 hy,hm⟩
 ·rcases bA.1 hy with hy|hy
  ·exact(h.rows y hy).imp id (ct _)
  ·rw[bR.1 hy];exact .inr aC
 ·have hold:((y:Int)∈bs∨(y:Int)∈out)->y=b∨(y:Int)∈row++[(x:Int)]∨∀akj:Nat,ij bl y akj->(akj:Int)∈out++[(x:Int)]:=λhy=>
   (h.done y hy).imp id λh=>h.imp (ct _) λh akj hz=>ct _ (h akj hz)
  rcases hy with hy|hy
  ·exact hold (.inl hy)
  ·rcases bA.1 hy with hy|hy
   ·exact hold (.inr hy)
   ·exact .inr (.inl (de _ hy))
 ·rcases bA.1 hy with hy|hy
  ·exact ct _ (h.seen y hy)
  ·exact de _ hy
theorem wX.row{bl:List E}{bs row out fs:List Int}{b:Nat}(h:wX bl bs b fs row out)(cU:∀x:Nat,ij bl b x->(x:Int)∈fs):HV bl bs row out:=
 ⟨h.nodup,h.sound,h.rows,λy hy=>(h.done y hy).elim (λe=>.inr λx hx=>h.seen _ (cU x (e▸hx))) id⟩
theorem HV.mem{bl:List E}{bs out:List Int}(h:HV bl bs [] out)(x:Int):x∈out↔∃c:Nat,x=c/\l7 bl bs c:=by
 refine⟨h.sound x,λ⟨c,e,hc⟩=>?_⟩;have e_:Gc bl bs λy=>(y:Int)∈out:=λb hb y hy=>(h.done b hb).elim (λhm=>by cases hm) λhd=>hd y hy;rw[e];exact e_.all hc
theorem KP(a:Option Addr)(c:Nat)(l:List Int)(hb:l.length<=17592186044416)(w0:C)(h:aG w0 (J a l.length c) 1 l fI):
  iC ae 59 [J a l.length c] w0 λu w'=>∃x:Option Addr×Nat,u=J x.1 l.length x.2/\Wd cX w0 [M x.1 l.length x.2 3 1 (l.map (U O))] w'/\True:=by
 refine aM func59 rfl ntmps59 rfl (Wd.nil cX w0) ?_;refine aU ?_;cases a with
 |none=>
  have BF:l=[]:=by
   obtain⟨_,_,_,b,o,ha,_⟩:=h.at;exact Classical.byContradiction λhn=>by cases ha hn
  subst BF;refine aE ?_;refine fU 3 1 ?_;exact cE rfl λw hw=>⟨(A,0),rfl,hw,trivial⟩
 |some ad=>
  refine aH ?_;refine nY rfl λeb _=>?_;refine aU ?_;refine lV rfl rfl l (λx=>[U O x]) (λ_ _ _ h=>h.1) (λ_=>rfl) (λy u hu=>by simp only[bR]at hu;subst hu;rfl) (λw hw=>h.bZ (dP) hw.ch) I I λa' c'=>?_;rw[vk,aO,di];refine aH ?_;exact cE rfl λw hw=>⟨(a',c'),rfl,hw,trivial⟩
noncomputable def nW(bl:List E)(b:Nat):List Int:=((List.range bl.length).filter λx=>(open Classical in decide (ij bl b x))).map λx:Nat=>(x:Int)
theorem yJ{bl:List E}{b:Nat}(hb:b<bl.length):(ir bl)[b]?=Z (nW bl b):=by
 unfold ir IG;rw[aJ,eX hb];rfl
theorem Gx{bl:List E}(cY:cT bl){b x:Nat}:(x:Int)∈nW bl b↔ij bl b x:=by
 classical
 unfold nW;rw[TU,cC,cM];simp only[decide_eq_true_eq];exact⟨λh=>h.2,λh=>⟨h.lt cY,h⟩⟩
theorem IA{bl:List E}{b:Nat}{x:Int}(hx:x∈nW bl b):∃c:Nat,x=c/\c<bl.length/\ij bl b c:=by
 classical
 unfold nW at hx;obtain⟨c,hc,rfl⟩:=aV.1 hx;have h:=cC.1 hc;exact⟨c,rfl,cM.1 h.1,ax h.2⟩
theorem CP(bl:List E)(b:Nat):(nW bl b).Nodup:=by
 classical
 exact(vj bl.length λx=>decide (ij bl b x)).imp λh e=>by omega
theorem xA(bl:List E):(ir bl).length=bl.length:=by unfold ir IG;rw[aF,fA]
theorem JA(bl:List E)(bs:List Int):(xj bl bs).Nodup:=by
 classical
 exact(vj bl.length λx=>decide (l7 bl bs x)).imp λh e=>by omega
theorem TS(bl:List E)(cY:cT bl)(c_:0<bl.length)(hlen:bl.length<=100)(fa:Option Addr)(fc:Nat)(ba:Option Addr)(bc:Nat)(bs:List Int)(pR:bs.length<=17592186044000)(oA:∀x∈bs,∃c:Nat,x=c/\c<bl.length)(w0:C)(hf:aG w0 (J fa bl.length fc) 1 (ir bl) cN)(m_:aG w0 (J ba bs.length bc) 1 bs fI):
  iC ae 103 [J fa bl.length fc,J ba bs.length bc] w0 λu w'=>∃x:Option Addr×Nat,u=J x.1 (xj bl bs).length x.2/\Wd cX w0 [M x.1 (xj bl bs).length x.2 3 1 ((xj bl bs).map (U O))] w'/\True:=by
 classical
 obtain⟨_,_,_,kb,ko,vx,uU⟩:=hf.at;refine aM func103 rfl ntmps103 rfl (Wd.nil cX w0) ?_;refine aU ?_;refine cZ (val:=λx:Option Addr×Nat=>.slice x.1 bs.length x.2) (akg:=λx=>[M x.1 bs.length x.2 3 1 (bs.map (U O))]) (φ:=λ_=>True) rfl (λw hw=>KP _ _ bs I w (m_.bZ dP hw.ch)) λx _=>?_;obtain⟨ra,rc⟩:=x;simp only[aW,aO];refine aH ?_;refine fU 3 1 ?_;have bS:∀(row out:List Int),HV bl bs row out->∀x∈out,∃c:Nat,x=c/\c<bl.length:=λrow out h x hx=>by
  obtain⟨c,e,hc⟩:=h.sound x hx;exact⟨c,e,hc.lt cY⟩
 refine bL (λ(x:List Int×(Option Addr×Nat)×List Int×(Option Addr×Nat))=>HV bl bs x.1 x.2.2.1/\x.1.length<=bs.length+x.2.2.1.length) (λx=>[(6,J x.2.1.1 x.1.length x.2.1.2),(5,J x.2.2.2.1 x.2.2.1.length x.2.2.2.2),(0,J fa bl.length fc)])
  (λx=>[M x.2.2.2.1 x.2.2.1.length x.2.2.2.2 3 1 (x.2.2.1.map (U O)),M x.2.1.1 x.1.length x.2.1.2 3 1 (x.1.map (U O))]) (λx=>(bl.length-x.2.2.1.length)*(bl.length+1)+x.1.length) (bs,(ra,rc),[],(A,0))
  ⟨Ma bl bs,by simp⟩ (aS ap aK) λx ⟨hM,rR⟩=>?_
 obtain⟨row,⟨ra1,rc1⟩,out,⟨oa,oc⟩⟩:=x;simp only at hM rR⊢;have Ep:=xS hM.nodup (bS _ _ hM);refine aU ?_;refine aI (λh1=>?_) (λh1=>?_)
 ·obtain⟨akj,rest,rfl⟩:∃akj rest,row=akj::rest:=by
   cases row with
   |nil=>simp at h1
   |cons akj rest=>exact⟨akj,rest,rfl⟩
  have hzc:∃c:Nat,akj=c/\c<bl.length:=(hM.rows akj aC).elim (oA akj) (bS _ _ hM akj);obtain⟨c,rfl,Pk⟩:=hzc;have hlc:bY c bl.length:=⟨Pk⟩;have Py:(((c:Int)::rest).length)=rest.length+1:=rfl;rw[Py]at rR⊢;refine fL 1 rfl I λqb qo Dg=>?_;subst Dg;have aiV:bY 0 (rest.length+1):=⟨I⟩;have aaG:bU fa kb ko:=⟨vx (aL (yJ Pk))⟩;obtain⟨_,HF,v,rfl,gr⟩:=uU c _ (yJ Pk);have IX:a6 w0 kb (ko+c*1) [v]:=⟨HF⟩;have Dj:=gr;obtain⟨va,vn,vc,_,_,rfl,_⟩:=Dj;obtain⟨HM,abF,wl,vb,vo,oC,Jl⟩:=gr.at;refine aH ?_;have oZ:=CP bl c;have Sw:∀x:Nat,(x:Int)∈nW bl c↔ij bl c x:=λx=>Gx cY;have Fm:∀x∈nW bl c,∃d:Nat,x=d/\d<bl.length/\ij bl c d:=λx hx=>IA hx;generalize nW bl c=fs at*;refine bL (λ(x:Nat×List Int×(Option Addr×Nat)×List Int×(Option Addr×Nat))=>x.1<=vn/\wX bl bs c (fs.take x.1) x.2.1 x.2.2.2.1/\x.2.1.length+1<=bs.length+x.2.2.2.1.length/\(bl.length-x.2.2.2.1.length)*(bl.length+1)+x.2.1.length<=(bl.length-out.length)*(bl.length+1)+rest.length)
   (λx=>[(23,U O x.1),(6,J x.2.2.1.1 (x.2.1.length+1) x.2.2.1.2),(5,J x.2.2.2.2.1 x.2.2.2.1.length x.2.2.2.2.2),(0,J fa bl.length fc),(21,J va vn vc),(22,U O vn)])
   (λx=>[M x.2.2.2.2.1 x.2.2.2.1.length x.2.2.2.2.2 3 1 (x.2.2.2.1.map (U O)),M x.2.2.1.1 (x.2.1.length+1) x.2.2.1.2 3 1 (((c:Int)::x.2.1).map (U O))]) (λx=>vn-x.1) (0,rest,(Z ⟨qb,qo,A⟩,rc1),out,(oa,oc))
   ⟨aT _,hM.head,rR,bG _⟩ (aS ap aK) λx ⟨hj,hH,hRl,SN⟩=>?_
  obtain⟨j,R,⟨ra2,rc2⟩,uX,⟨oa2,oc2⟩⟩:=x;simp only at hj hH hRl SN⊢;have Pt:∀x∈uX,∃c:Nat,x=c/\c<bl.length:=λx hx=>by
   obtain⟨c,e,hc⟩:=hH.sound x hx;exact⟨c,e,hc.lt cY⟩
  have ad0:=xS hH.nodup Pt;refine aU ?_;refine aI (λh2=>?_) (λh2=>?_)
  ·have jw:j<vn:=ax h2
   obtain⟨y,hy⟩:=bf fs j I;obtain⟨d,rfl,hdn,hdf⟩:=Fm y (aq hy);obtain⟨_,Zj,rfl,_⟩:=Jl j _ hy;have aip:bU va vb vo:=⟨oC (aL hy)⟩;have Lr:bY j vn:=⟨jw⟩;have hcv:a6 w0 vb (vo+j*1) [U O (d:Int)]:=⟨Zj⟩;have B4:fs.take (j+1)=fs.take j++[(d:Int)]:=by rw[cz,hy];rfl
   refine aH ?_;refine bB rfl (λw hw=>CB _ uX d w (hw.oH (k:=0) rfl rfl I λi x hx=>⟨[U O x],λj v hj=>by
    match j,hj with
    |0,hj=>simpa[hx]using hj,rfl,by
     obtain⟨e,rfl,he⟩:=Pt x (aq hx);simp only[dk];omega⟩) ⟨_,_,_,rfl⟩) ?_
   generalize hd1:decide ((d:Int)∈uX)=d1;cases d1
   ·have oB:(d:Int)∉uX:=ax hd1
    have Pc:=hH.add hdf oB;have ajw:uX.length+1<=bl.length:=by
     have:=xS (n:=bl.length) Pc.nodup λx hx=>by
      obtain⟨c,e,hc⟩:=Pc.sound x hx;exact⟨c,e,hc.lt cY⟩
     rwa[bX,j_]at this
    have hmul:(bl.length-(uX.length+1))*(bl.length+1)+(bl.length+1)=(bl.length-uX.length)*(bl.length+1):=by
     rw[<-Nat.succ_mul,show(bl.length-(uX.length+1)).succ=bl.length-uX.length by omega]
    repeat(first|refine aH ?_|refine dZ λ_ _=>?_)
    rename_i bt _;refine nX rfl rfl I I λa1 c1=>?_
    repeat(first|refine aH ?_|refine dZ λ_ _=>?_)
    rename_i bt2 _;refine nX rfl rfl I I λa2 c2=>?_;refine r4 [2,3] (by decide) ?_;refine fC (H1:=[M a1 (uX++[(d:Int)]).length c1 3 1 ((uX++[(d:Int)]).map (U O)),M a2 ((R++[(d:Int)]).length+1) c2 3 1 (((c:Int)::(R++[(d:Int)])).map (U O))]) aC ?_;refine aH ?_;have ly:(uX++[(d:Int)]).length=uX.length+1:=by simp
    have HI:(R++[(d:Int)]).length=R.length+1:=by simp
    refine jQ (L':=[(23,U O ((j:Int)+1)),(6,J a2 ((R++[(d:Int)]).length+1) c2),(5,J a1 (uX++[(d:Int)]).length c1),(0,J fa bl.length fc),(21,J va vn vc),(22,U O vn)]) (by rw[ly,HI];exact ap) (.refl _) ?_;exact bj (j+1,R++[(d:Int)],(a2,c2),uX++[(d:Int)],(a1,c1)) ⟨jw,by simp only[B4];exact Pc,by simp only[ly,HI];omega,by simp only[ly,HI];omega⟩ bK ap aK
   ·have PC:(d:Int)∈uX:=ax hd1
    refine aH ?_;exact bj (j+1,R,(ra2,rc2),uX,(oa2,oc2)) ⟨jw,by simp only[B4];exact hH.pass PC,hRl,SN⟩ bK ap aK
  ·have gP:j=vn:=by have:=h2;simp at this;omega
   rw[gP,HM,cQ]at hH;refine aE ?_;refine aaA rfl I λa2=>?_;refine aH ?_;exact bj (R,(a2,rc2-1),uX,(oa2,oc2)) ⟨hH.row λx hx=>(Sw x).2 hx,by simp only;omega⟩ (by simp only[gk];omega) ap aK
 ·have hr0:row=[]:=by
   cases row with
   |nil=>rfl
   |cons akj rest=>simp at h1
  subst hr0;have hsm:mu out=xj bl bs:=by
   unfold xj;refine EQ hM.nodup λx=>?_;rw[hM.mem];exact⟨λ⟨c,e,h⟩=>⟨c,e,h.lt cY,ax h⟩,λ⟨c,e,_,h⟩=>⟨c,e,ax h⟩⟩
  have rq:=D2 out;refine aE ?_;refine fK (H1:=[M oa out.length oc 3 1 (out.map (U O))]) (H2:=[M ra1 ([]:List Int).length rc1 3 1 (([]:List Int).map (U O))]) (val:=λ_:Unit=>.tuple #[]) (akg:=λ_=>[M oa out.length oc 3 1 ((mu out).map (U O))]) (φ:=λ_=>True) rfl (λw hw=>ab9 oa oc out I w hw.pre) λ_ _=>?_;rw[hsm]at rq⊢;rw[<-rq];refine aH ?_;exact cE rfl λw hw=>⟨(oa,oc),rfl,hw.sub (dM qd),trivial⟩
theorem K2{f:FuncId}{args:List V}{w0:C}{bl:List E}(hlen:bl.length<=100)(h:iC ae f args w0 λu w'=>∃x:Nat×List Row,u=J (Z ⟨x.1,0,A⟩) bl.length bl.length/\Wd cX w0 (M (Z ⟨x.1,0,A⟩) bl.length bl.length 42 1 (x.2.map fG)::x.2.map ie) w'/\x.2.map (·.l)=ir bl):
  aaf ae f args w0 1 (ir bl) cN λv=>v:=
 Yl h λx hx=>⟨Z ⟨x.1,0,A⟩,bl.length,by rw[xA],λw2 hw=>by
  have hl:x.2.length=bl.length:=by have:=congrArg List.length hx;rwa[aF,xA]at this
  rw[<-hx,aF];rw[<-hl]at hw⊢;exact UW (H:=[]) (by rw[cD];exact hw) I λr hr=>R4 hlen (hx▸aV.2 ⟨r,hr,rfl⟩)⟩
end
end Go.Proofs.YthfhgolkafpmnaaGreatDoor
