/- Texts joined: DomC FrontA FrontC FrontD DomB FrontB SortC RowsB MeetP MeetA MeetB. -/
import Derived.Shelf.Slices.In.SortNone
import Derived.Shelf.Sort.Plain
import Derived.Test.YthfhgolkafpmnaaGreatDoorGD
import Derived.Test.YthfhgolkafpmnaaGreatDoorGF
import Derived.Test.YthfhgolkafpmnaaGreatDoorGG
import Derived.Test.YthfhgolkafpmnaaGreatDoorGM
namespace Go.Proofs.YthfhgolkafpmnaaGreatDoor
section
open Go Go.RowKit
attribute [local irreducible] wpListIn Code.wpIn Exit.then Exit.inBlock bodyPost wpQuiet wpAnyIn wpAnyH
set_option maxHeartbeats 4000000
def gP(bl:List ar)(a b:Nat):Prop:=∃p,gD bl (-1) 0 p/\Edge bl p b/\ku bl a p/\(a=b∨¬ku bl a b)
noncomputable def gG(bl:List ar):List (List Int):=FZ (gP bl) bl.length
def Stop(bl:List ar)(b i:Nat):Prop:=∃c,jX bl c b/\ku bl i c
theorem Ho{bl:List ar}(cW:cL bl)(h0:0<bl.length){b i:Nat}(hb:gD bl (-1) 0 b):¬Stop bl b i↔(i=b∨¬ku bl i b):=by
 by_cases ve:b=0
 ·subst ve
  refine⟨λ_=>?_,λ_ ⟨c,hc,_⟩=>hc.2.1 (s9 hc.1)⟩
  by_cases h:ku bl i 0
  ·exact .inl (s9 h)
  ·exact .inr h
 ·obtain⟨c,hc⟩:=uq cW h0 hb ve
  have hs:Stop bl b i↔ku bl i c:=⟨λ⟨d,hd,h⟩=>by rw[hc.YT hd];exact h,λh=>⟨c,hc,h⟩⟩;rw[hs,hc.iff];constructor
  ·intro h
   by_cases e:i=b
   ·exact .inl e
   ·exact .inr λh'=>h'.elim h e
  ·rintro(e|h) hd
   ·subst e
    exact hc.2.1 (hc.1.antisymm hd)
   ·exact h (.inl hd)
def Mark(bl:List ar)(b:Nat)(ps:List Nat)(i:Nat):Prop:=∃p∈ps,gD bl (-1) 0 p/\ku bl i p/\¬Stop bl b i
theorem I9{bl:List ar}(cW:cL bl)(h0:0<bl.length){b i:Nat}(hb:gD bl (-1) 0 b){ps:List Nat}(wV:∀p,p∈ps↔(p<bl.length/\Edge bl p b)):Mark bl b ps i↔gP bl i b:=by
 constructor
 ·rintro⟨p,hp,hr,hd,hs⟩
  exact⟨p,hr,((wV p).1 hp).2,hd,(Ho cW h0 hb).1 hs⟩
 ·rintro⟨p,hr,he,hd,hs⟩
  exact⟨p,(wV p).2 ⟨cW.BC h0 hr,he⟩,hr,hd,(Ho cW h0 hb).2 hs⟩
def DF(bl:List ar)(i:Nat)(z:Int):Prop:=∃c:Nat,z=c/\ku bl i c
def Way(bl:List ar)(b:Nat)(ps:List Nat)(p:Nat)(z:Int)(i:Nat):Prop:=Mark bl b ps i∨(ku bl i p/\¬DF bl i z)
theorem Ns{bl:List ar}{b p i:Nat}{ps:List Nat}:Way bl b ps p p i↔Mark bl b ps i:=by
 refine⟨λh=>h.elim id λ⟨h1,h2⟩=>absurd ⟨p,rfl,h1⟩ h2,.inl⟩
theorem CP{bl:List ar}(cW:cL bl)(h0:0<bl.length){a i:Nat}(ha:gD bl (-1) 0 a):ku bl i a↔(DF bl i (cR bl a)∨i=a):=by
 by_cases Y_:a=0
 ·subst Y_
  rw[fS λc hc=>hc.2.1 (s9 hc.1)];refine⟨λh=>.inr (s9 h),λh=>h.elim (λ⟨c,hc,_⟩=>ag) λe=>by subst e;exact .refl ha⟩
 ·obtain⟨c,hc⟩:=uq cW h0 ha Y_
  rw[gZ hc,hc.iff];exact⟨λh=>h.imp (λh=>⟨c,rfl,h⟩) id,λh=>h.imp (λ⟨d,e,h⟩=>(show c=d by omega)▸h) id⟩
theorem HA{bl:List ar}(cW:cL bl)(h0:0<bl.length){b p a i:Nat}{ps:List Nat}(wR:ku bl a p):Way bl b ps p (cR bl a) i↔(Way bl b ps p a i∨i=a):=by
 have hd:=CP cW h0 (a:=a) (i:=i) wR.1;have Gv:¬DF bl a (cR bl a):=λ⟨c,hc,h⟩=>by
  by_cases hx:∃d,jX bl d a
  ·obtain⟨d,hdd⟩:=hx
   rw[gZ hdd]at hc;have:d=c:=ag;subst this;exact hdd.2.1 (hdd.1.antisymm h)
  ·rw[fS λc hc=>hx ⟨c,hc⟩]at hc
   omega
 have hda:DF bl i (a:Int)↔ku bl i a:=⟨λ⟨c,e,h⟩=>(show a=c by omega)▸h,λh=>⟨a,rfl,h⟩⟩;unfold Way;rw[hda];constructor
 ·rintro(h|⟨h1,h2⟩)
  ·exact .inl (.inl h)
  ·by_cases e:i=a
   ·exact .inr e
   ·exact .inl (.inr ⟨h1,λh=>(hd.1 h).elim h2 e⟩)
 ·rintro((h|⟨h1,h2⟩)|e)
  ·exact .inl h
  ·exact .inr ⟨h1,λh=>h2 (hd.2 (.inl h))⟩
  ·subst e;exact .inr ⟨wR,Gv⟩
theorem UG{bl:List ar}{b p i:Nat}{ps:List Nat}{z:Int}(hp:gD bl (-1) 0 p)(hH:∀c,jX bl c b->DF bl c z)(hz:z<0∨z=cR bl b):Way bl b ps p z i↔Mark bl b (ps++[p]) i:=by
 have hs:DF bl i z↔Stop bl b i:=by
  by_cases hx:∃c,jX bl c b
  ·obtain⟨c,hc⟩:=hx
   obtain⟨c',e',_⟩:=hH c hc;have e:z=c:=by
    rcases hz with h|h
    ·omega
    ·rw[h,gZ hc]
   refine⟨λ⟨d,hd,h⟩=>⟨c,hc,?_⟩,λ⟨d,hd,h⟩=>⟨c,e,?_⟩⟩
   ·have:d=c:=ag
    exact this▸h
   ·rw[hc.YT hd];exact h
  ·have e:z<0:=hz.elim id λh=>by rw[h,fS λc hc=>hx ⟨c,hc⟩];omega
   exact⟨λ⟨d,hd,_⟩=>ag,λ⟨d,hd,_⟩=>absurd ⟨d,hd⟩ hx⟩
 unfold Way Mark;rw[hs];constructor
 ·rintro(⟨q,hq,h⟩|⟨h1,h2⟩)
  ·exact⟨q,cC _ hq,h⟩
  ·exact⟨p,by simp,hp,h1,h2⟩
 ·rintro⟨q,hq,hr,hd,hn⟩
  rcases bL.1 hq with hq|hq
  ·exact .inl ⟨q,hq,hr,hd,hn⟩
  ·rw[bU.1 hq]at hd;exact .inr ⟨hd,hn⟩
theorem MC{bl:List ar}{b p i:Nat}{ps:List Nat}(hp:¬gD bl (-1) 0 p):Mark bl b (ps++[p]) i↔Mark bl b ps i:=by
 unfold Mark;constructor
 ·rintro⟨q,hq,hr,h⟩
  rcases bL.1 hq with hq|hq
  ·exact⟨q,hq,hr,h⟩
  ·rw[bU.1 hq]at hr;exact absurd hr hp
 ·rintro⟨q,hq,h⟩
  exact⟨q,cC _ hq,h⟩
theorem RJ{bl:List ar}(cW:cL bl)(h0:0<bl.length){b a:Nat}(ha:gD bl (-1) 0 a)(hH:∀c,jX bl c b->DF bl c (a:Int))(eH:(a:Int)≠cR bl b):∀c,jX bl c b->DF bl c (cR bl a):=by
 intro c hc;obtain⟨a',e,hd⟩:=hH c hc;have:a=a':=ag;subst this;rcases(CP cW h0 ha).1 hd with h|h
 ·exact h
 ·subst h;exact absurd (gZ hc).symm eH
noncomputable def Hz(bl:List ar)(z:Int):Nat:=if z<0 then 0 else(s8 bl z.toNat bl.length).length
theorem UF{bl:List ar}(cW:cL bl)(h0:0<bl.length){a:Nat}(ha:gD bl (-1) 0 a):Hz bl (cR bl a)<Hz bl a:=by
 have h1:0<(s8 bl a bl.length).length:=List.length_pos_of_mem (CR.2 ⟨cW.BC h0 ha,.refl ha⟩);have e1:Hz bl (a:Int)=(s8 bl a bl.length).length:=by unfold Hz;rw[if_neg ag];rfl
 rw[e1]
 by_cases hx:∃c,jX bl c a
 ·obtain⟨c,hc⟩:=hx
  rw[gZ hc];have e2:Hz bl (c:Int)=(s8 bl c bl.length).length:=by unfold Hz;rw[if_neg ag];rfl
  have:=tm cW h0 hc;omega
 ·rw[fS λc hc=>hx ⟨c,hc⟩]
  unfold Hz;rw[if_pos ag];exact h1
open Classical in
noncomputable def qZ(bl:List ar)(b:Nat)(V:Nat->Prop)(i:Nat):List Int:=(((List.range b).filter λc=>decide (gP bl i c)).map λx:Nat=>(x:Int))++if V i then[(b:Int)]else[]
theorem jP{bl:List ar}{b i:Nat}{V W:Nat->Prop}(h:V i↔W i):qZ bl b V i=qZ bl b W i:=by
 classical
 unfold qZ
 by_cases hv:V i
 ·rw[if_pos hv,if_pos (h.1 hv)]
 ·rw[if_neg hv,if_neg λhw=>hv (h.2 hw)]
theorem CX{bl:List ar}{b i:Nat}:qZ bl b (λi=>gP bl i b) i=qZ bl (b+1) (λ_=>False) i:=by
 classical
 unfold qZ;simp only[if_false];rw[cq,Ck (p:=λc=>gP bl i c) b,bB];congr 1
 by_cases h:gP bl i b<;>simp[h]
theorem Og{bl:List ar}{b i:Nat}{V:Nat->Prop}:(b:Int)∈qZ bl b V i↔V i:=by
 classical
 unfold qZ;rw[bL];constructor
 ·rintro(h|h)
  ·obtain⟨x,hx,e⟩:=aX.1 h
   have:=cQ.1 (cI.1 hx).1;omega
  ·by_cases hv:V i
   ·exact hv
   ·rw[if_neg hv]at h;cases h
 ·intro h
  rw[if_pos h];exact .inr aH
theorem SH{bl:List ar}{b i:Nat}{V:Nat->Prop}(hb:b<=100):(qZ bl b V i).length<=1000/\∀x∈qZ bl b V i,c9 x:=by
 classical
 have h1:=ja (λc=>decide (gP bl i c)) (List.range b);rw[fG]at h1;unfold qZ;refine⟨?_,λx hx=>?_⟩
 ·rw[bR,aG]
  have:(if V i then[(b:Int)]else[]).length<=1:=by split<;>simp
  omega
 ·rcases bL.1 hx with h|h
  ·obtain⟨y,hy,rfl⟩:=aX.1 h
   have:=cQ.1 (cI.1 hy).1;simp only[c9];omega
  ·by_cases hv:V i
   ·rw[if_pos hv]at h
    rw[bU.1 h];simp only[c9];omega
   ·rw[if_neg hv]at h;cases h
theorem Of{bl:List ar}{b i:Nat}{V:Nat->Prop}(h:¬V i):qZ bl b (λj=>V j∨j=i) i=qZ bl b V i++[(b:Int)]:=by
 classical
 unfold qZ;rw[if_pos (.inr rfl),if_neg h,cq]
theorem IT(v:Value)(l:List Int)(x:Int)(w0:World)(hv:aM w0 v 1 l fj):gV Tryz.prog 112 [v,.int .i64 x] w0 λu w'=>∃r:Int,u=.int .i64 r/\Wd dh w0 [] w'/\(0<=r↔x∈l):=by
 obtain⟨a,n,c,b,o,rfl,hn,pE,E3,hc,ha,iK⟩:=hv;refine aQ Tryz.func112 rfl Tryz.ntmps112 rfl (Wd.nil dh w0) ?_;refine aO ?_;refine bP (λ(i:Nat)=>i<=n/\∀j y,j<i->l[j]?=some y->y≠x) (λi=>[(8,.int .i64 i),(6,.slice a n c),(7,.int .i64 n),(0,.slice a n c),(1,.int .i64 x)]) (λ_=>[]) (λi=>n-i) 0 ⟨aY _,λj y hj=>ag⟩ (aV aw aH) λi ⟨hi,cP⟩=>?_;refine aU ?_;refine aN (λh1=>?_) (λh1=>?_)
 ·have bT:i<n:=by simpa using h1
  obtain⟨t,ht⟩:∃t,l[i]?=some t:=⟨_,aB ag⟩;have pY:bY a b o:=⟨ha (aW ht)⟩;have mW:bZ i n:=⟨bT⟩;obtain⟨cs,fZ,rfl,_⟩:=iK i _ ht;have oQ:a_ w0 b (o+i*1) _:=⟨fZ⟩;refine aO ?_;refine aN (λh2=>?_) (λh2=>?_)
  ·have h5:x=t:=by simpa using h2
   refine aI ?_;exact cA rfl λw hw=>⟨(i:Int),rfl,hw,⟨λ_=>by rw[h5];exact aA ht,λ_=>ag⟩⟩
  ·have h5:x≠t:=by simpa using h2
   refine aO ?_;refine bC (i+1) ⟨bT,λj y hj hy=>?_⟩ ag aw aH
   by_cases e:j=i
   ·subst e
    rw[ht]at hy;exact λe=>h5 (by rw[<-e];exact be hy.symm)
   ·exact cP j y ag hy
 ·have gT:i=n:=by have:=h1;simp at this;omega
  refine aI ?_;refine cA rfl λw hw=>⟨-1,rfl,hw,⟨λh=>ag,λh=>?_⟩⟩;obtain⟨j,hj⟩:=br h;exact absurd rfl (cP j x (by have:=(aC.1 hj).1;omega) hj)
theorem Ao(v:Value)(l:List Int)(x:Int)(w0:World)(hv:aM w0 v 1 l fj)(hvs:∃a n c,v=.slice a n c):fi Tryz.prog 141 [v,.int .i64 x] w0 (.bool (decide (x∈l))):=by
 obtain⟨a,n,c,rfl⟩:=hvs;refine aQ Tryz.func141 rfl Tryz.ntmps141 rfl (Wd.nil dh w0) ?_;refine aU ?_;refine cV (val:=λr:Int=>.int .i64 r) (E:=λ_=>[]) (φ:=λr=>0<=r↔x∈l) rfl (λw hw=>IT _ l x w (hv.cu eK hw.cE)) λr hr=>?_;simp only[aT];refine aO ?_;exact bQ rfl (by rw[decide_eq_decide.2 hr])
end
section
open Go Go.RowKit
attribute [local irreducible] wpListIn Code.wpIn Exit.then Exit.inBlock bodyPost wpQuiet wpAnyIn wpAnyH
set_option maxHeartbeats 8000000
theorem aeO{bl:List ar}{l:List Nat}{up:List Int}{k:Nat}(h:Inv bl l up k){S:Nat->Prop}{w0 w:World}{H:List bN}{a:Option Addr}{n c:Nat}(hw:Wd S w0 (ai a n c 3 1 (up.map (.int .i64))::H) w)(hn:n=up.length)(hb:n<=1000)(hl:∀x∈l,x<1000):aM w (.slice a n c) 1 up fj:=by
 refine hw.nC (k:=0) rfl hn ag λi x hx=>⟨[.int .i64 x],λj v hj=>?_,rfl,?_⟩
 ·match j,hj with
  |0,hj=>simpa[hx]using hj
 ·rcases h.neg i x hx with e|e
  ·rw[e];simp[c9]
  ·have:=hl _ (h.val i x.toNat (by rw[hx];congr 1;omega)).2.1
   simp only[c9];omega
theorem Hv(nm pa re:Value)(bl:List ar)(bs:Value)(Gb:∃a n c,bs=.slice a n c)(w0:World)(mU:aM w0 bs 6 bl ed)(hlen:bl.length<=100)(cW:cL bl)(jq:∀(b:Nat) (B:ar),bl[b]?=some B->B.to.Nodup)(dS:0<bl.length):
  gV Tryz.prog 66 [.agg #[nm,pa,re,bs]] w0 λu w'=>∃a:Nat,u=.slice (some ⟨a,0,none⟩) bl.length bl.length/\Wd dh w0 [ai (some ⟨a,0,none⟩) bl.length bl.length 3 1 (((List.range bl.length).map (cR bl)).map (.int .i64))] w'/\True:=by
 obtain⟨ba,n,bc,rfl⟩:=Gb;have hn:n=bl.length:=by obtain⟨_,_,_,_,_,e,h,_⟩:=mU;simp only[Value.slice.injEq]at e;omega
 have ho:=su cW dS;have Ca:(ch bl).length=(gw bl).length:=by unfold ch;rw[tZ]
 have E4:=uz dS;refine aQ Tryz.func66 rfl Tryz.ntmps66 rfl (Wd.nil dh w0) ?_
 repeat(first|refine aU ?_|refine dX λ_ _=>?_)
 rename_i p1 _;refine cV (val:=λx:Option Addr×Nat=>.slice x.1 (gw bl).length x.2) (E:=λx=>[ai x.1 (gw bl).length x.2 3 1 ((ch bl).map ig)]) (φ:=λ_=>True) rfl (λw hw=>yl _ _ _ bl _ ⟨_,_,_,rfl⟩ w (mU.cu fh hw.cE) hlen cW dS) λx _=>?_;obtain⟨xa,xc⟩:=x;have rf:0<(ch bl).length:=by
  cases h:ch bl with
  |nil=>have:=ho.zero;rw[h]at this;cases this
  |cons=>simp
 have bT:∀x∈ch bl,x<bl.length:=λx hx=>cW.BC dS ((ho.mem x).1 hx);rw[<-Ca];generalize hl:ch bl=l at*;generalize hm:l.length=m at*;simp only[a6,aT]
 repeat(first|refine aU ?_|refine dX λ_ _=>?_)
 rename_i ta _ e1 _;refine cV (val:=λa:Nat=>.slice (some ⟨a,0,none⟩) n n) (E:=λa=>[ai (some ⟨a,0,none⟩) n n 3 1 (List.replicate n (.int .i64 (-1)))]) (φ:=λ_=>True) rfl (λw hw=>BF e1 0 n (-1) w (hw.cK (k:=0) (o:=0) (j:=0) rfl rfl) ag ag) λua _=>?_;simp only[a6,aT];rw[show List.replicate n (Value.int .i64 (-1))=(List.replicate n (-1:Int)).map (.int .i64) by simp,show List.replicate n (Value.int .i64 0)=(List.replicate n (0:Nat)).map ig by simp[ig]];refine eW 3 rfl ag λob oo Kv=>?_;subst Kv;refine zP 3 rfl λ_ Zm W4=>?_;refine aO ?_;refine bP (λ(x:Nat×List Nat)=>x.1<=m/\x.2.length=n/\(∀j b:Nat,j<x.1->l[j]?=some b->x.2[b]?=some j)/\∀y∈x.2,y<=100000) (λx=>[(28,.int .i64 x.1),(27,.int .i64 m),(26,.slice (some ⟨ob,oo,none⟩) m xc),(3,.slice (some ⟨ob,oo,none⟩) m xc),(4,.slice (some ⟨ta,0,none⟩) n n),(5,.slice (some ⟨ua,0,none⟩) n n),(1,.pointer (some ⟨p1,0,none⟩))])
  (λx=>[ai (some ⟨ua,0,none⟩) n n 3 1 ((List.replicate n (-1:Int)).map (.int .i64)),ai (some ⟨e1,0,none⟩) 1 1 3 1 [.int .i64 (-1)],ai (some ⟨ta,0,none⟩) n n 3 1 (x.2.map ig),ai (some ⟨ob,oo,none⟩) m xc 3 1 (l.map ig),aj p1 [nm,pa,re,.slice ba n bc] 35]) (λx=>m-x.1) (0,List.replicate n 0) ⟨aY _,by simp,λj b hj=>by simp only at hj;omega,λy hy=>by rw[jI hy];omega⟩ (aV aw ag2) λx ⟨hi,r8,cP,zC⟩=>?_
 obtain⟨i,xs⟩:=x;simp only at hi r8 cP zC⊢;refine aU ?_;refine aN (λh1=>?_) (λh1=>?_)
 ·have iQ:i<m:=by simpa using h1
  obtain⟨b,hb⟩:∃b,l[i]?=some b:=⟨_,aB ag⟩;have pC:b<n:=by rw[hn];exact bT b (aA hb)
  have mW:bZ i m:=⟨iQ⟩;have hea:oJ l i b:=⟨hb⟩;have Pc:bZ b n:=⟨pC⟩;have Kv:NX (l.map ig) (i*1) (.int .i64 b):=⟨by simp[hb,ig]⟩;have mM:lN (xs.map ig) (b*1) (.int .i64 (i:Int)) ((xs.set b i).map ig):=⟨by simp[eh,ig],by simp;omega⟩;refine aI ?_;refine bC (i+1,xs.set b i) ⟨iQ,by simpa using r8,λj c hj hc=>?_,λy hy=>by
   rcases jM hy with h|h
   ·exact zC y h
   ·rw[h];omega⟩ (by simp only;omega) aw (.refl _)
  rw[dQ]
  by_cases e:b=c
  ·subst e
   rw[if_pos rfl,if_pos ag];congr 1;have h1:=vX ho.nodup hb;rw[vX ho.nodup hc]at h1;omega
  ·rw[if_neg e]
   refine cP j c ?_ hc;have:j≠i:=λe'=>by subst e';rw[hb]at hc;exact e (be hc)
   simp only at hj;omega
 have R3:i=m:=by have:=h1;simp at this;omega
 clear hi h1;rw[R3]at cP;have ny:∀b∈l,(xs.map (λx:Nat=>(x:Int)))[b]?=some ((rk l b:Nat):Int):=by
  intro b hb;have h1:=Im hb;have h2:rk l b<l.length:=tY.2 hb;rw[aK,cP (rk l b) b ag h1];rfl
 have zw:bZ 0 n:=⟨ag⟩;have PR:lN ((List.replicate n (-1:Int)).map (.int .i64)) (0*1) (.int .i64 0) (((List.replicate n (-1:Int)).set 0 0).map (.int .i64)):=⟨by simp[eh],by simp;omega⟩;have hI0:=Mr dS ho;rw[<-hn]at hI0;generalize (List.replicate n (-1:Int)).set 0 0=JI at hI0 PR;refine aI ?_;refine cV (val:=λx:(Option Addr×Nat×Nat)×(Nat->Prop)=>.slice x.1.1 x.1.2.1 x.1.2.2) (E:=λx=>[⟨x.2,λw=>aM w (.slice x.1.1 x.1.2.1 x.1.2.2) 1 (bm bl) cS⟩]) (φ:=λ_=>True) rfl (λw hw=>fO _ _ _ bl _ w (mU.cu fh hw.cE) hlen cW) λx _=>?_;obtain⟨⟨aa,an,ac⟩,fp⟩:=x;simp only[a6,aT];refine aO ?_;refine jp (L':=[(9,.bool true),(8,.slice aa an ac),(3,.slice (some ⟨ob,oo,none⟩) m xc),(4,.slice (some ⟨ta,0,none⟩) n n),(5,.slice (some ⟨ua,0,none⟩) n n),(1,.pointer (some ⟨p1,0,none⟩))]) aw (.refl _) ?_;refine bj (H1:=[ai (some ⟨ua,0,none⟩) n n 3 1 (JI.map (.int .i64))]++[⟨fp,λw=>aM w (.slice aa an ac) 1 (bm bl) cS⟩,ai (some ⟨e1,0,none⟩) 1 1 3 1 [.int .i64 (-1)],ai (some ⟨ta,0,none⟩) n n 3 1 (xs.map ig),ai (some ⟨ob,oo,none⟩) m xc 3 1 (l.map ig),aj p1 [nm,pa,re,.slice ba n bc] 35]) (List.Perm.swap _ _ _) ?_;refine nQ λw1 mz=>?_;have Iz:aM (bX (cF [ai (some ⟨ua,0,none⟩) n n 3 1 (JI.map (.int .i64))]) w1) (.slice ba n bc) 6 bl ed:=mU.cu fh mz.TR;have Po:aM (bX (cF [ai (some ⟨ua,0,none⟩) n n 3 1 (JI.map (.int .i64))]) w1) (.slice (some ⟨ob,oo,none⟩) m xc) 1 (l.map (λx:Nat=>(x:Int))) fj:=zV mz.jN (k:=3) rfl hm.symm ag λx hx=>by have:=bT x hx;omega
 have WS:aM (bX (cF [ai (some ⟨ua,0,none⟩) n n 3 1 (JI.map (.int .i64))]) w1) (.slice (some ⟨ta,0,none⟩) n n) 1 (xs.map (λx:Nat=>(x:Int))) fj:=zV mz.jN (k:=2) rfl r8.symm ag zC;have zn:aM (bX (cF [ai (some ⟨ua,0,none⟩) n n 3 1 (JI.map (.int .i64))]) w1) (.slice aa an ac) 1 (bm bl) cS:=mz.beside (e:=⟨fp,λw=>aM w (.slice aa an ac) 1 (bm bl) cS⟩) aH;have back:∀{E:List bN} {w:World},Wd (cF [ai (some ⟨ua,0,none⟩) n n 3 1 (JI.map (.int .i64))]) (bX (cF [ai (some ⟨ua,0,none⟩) n n 3 1 (JI.map (.int .i64))]) w1) E w->Wd dh w0 (E++[⟨fp,λw=>aM w (.slice aa an ac) 1 (bm bl) cS⟩,ai (some ⟨e1,0,none⟩) 1 1 3 1 [.int .i64 (-1)],ai (some ⟨ta,0,none⟩) n n 3 1 (xs.map ig),ai (some ⟨ob,oo,none⟩) m xc 3 1 (l.map ig),aj p1 [nm,pa,re,.slice ba n bc] 35]) w:=λhw=>mz.comp hw.mG;have hkk:∀{E:List bN} {w:World},Wd (cF [ai (some ⟨ua,0,none⟩) n n 3 1 (JI.map (.int .i64))]) (bX (cF [ai (some ⟨ua,0,none⟩) n n 3 1 (JI.map (.int .i64))]) w1) E w->∀p v,(bX (cF [ai (some ⟨ua,0,none⟩) n n 3 1 (JI.map (.int .i64))]) w1).cell? p=some v->w.cell? p=some v:=λhw=>hw.pH;have hold:∀{b o:Nat} {v:Value},bG (bX (cF [ai (some ⟨ua,0,none⟩) n n 3 1 (JI.map (.int .i64))]) w1) b o [v]->eI (cF [ai (some ⟨ua,0,none⟩) n n 3 1 (JI.map (.int .i64))]) b:=λhc=>iu hc aH;generalize bX (cF [ai (some ⟨ua,0,none⟩) n n 3 1 (JI.map (.int .i64))]) w1=wk at*;generalize cF [ai (some ⟨ua,0,none⟩) n n 3 1 (JI.map (.int .i64))]=SS at*;have ad1:=Po.known;obtain⟨F7,F6,_,ab,ao,Iw,OG⟩:=zn.at;have B8:(bm bl).length=n:=by unfold bm;rw[fM,hn]
 rw[B8]at F7;have OI:=F7.symm;subst OI;have age:∀up:List Int,zE l m up<=zE l m up:=λ_=>bH _;refine bP (λ(x:List Int×Bool)=>if x.2 then Inv bl l x.1 1 else(Inv bl l x.1 l.length/\∀v∈l,v≠0->Full bl x.1 v)) (λx=>[(9,.bool x.2),(8,.slice aa n ac),(3,.slice (some ⟨ob,oo,none⟩) m xc),(4,.slice (some ⟨ta,0,none⟩) n n),(5,.slice (some ⟨ua,0,none⟩) n n),(1,.pointer (some ⟨p1,0,none⟩))])
  (λx=>[ai (some ⟨ua,0,none⟩) n n 3 1 (x.1.map (.int .i64))]) (λx=>2*zE l m x.1+if x.2 then 1 else 0) (JI,true) hI0 (aV aw ag2) λx hI=>?_
 obtain⟨up,more⟩:=x;simp only at hI⊢;refine aU ?_;refine aN (λh1=>?_) (λh1=>?_)
 ·subst h1
  simp only[if_true]at hI;refine aO ?_;refine CZ rfl ag λa' ha'=>?_;refine aO ?_;refine bP (λ(x:Nat×List Int×Bool)=>x.1+1<=m/\Inv bl l x.2.1 (x.1+1)/\(x.2.2=false->x.2.1=up/\∀v∈l,v≠0->rk l v<x.1+1->Full bl x.2.1 v)/\(x.2.2=true->zE l m x.2.1<zE l m up)/\zE l m x.2.1<=zE l m up) (λx=>[(46,.int .i64 x.1),(44,.slice a' (m-1) (xc-1)),(45,.int .i64 ((m-1:Nat):Int)),(9,.bool x.2.2),(8,.slice aa n ac),(3,.slice (some ⟨ob,oo,none⟩) m xc),(4,.slice (some ⟨ta,0,none⟩) n n),(5,.slice (some ⟨ua,0,none⟩) n n),(1,.pointer (some ⟨p1,0,none⟩))])
   (λx=>[ai (some ⟨ua,0,none⟩) n n 3 1 (x.2.1.map (.int .i64))]) (λx=>m-x.1) (0,up,false) ⟨by simp only;omega,hI,λ_=>⟨rfl,λv hv xY hr=>absurd (pQ hv (aA ho.zero) (by have:=oT ho;omega)) xY⟩,λh=>(by cases h),bH _⟩ (aV aw ag2) λx ⟨hk,Nx,uP,Ek,Kg⟩=>?_
  obtain⟨k,up,more⟩:=x;simp only at hk Nx uP Ek Kg⊢;refine aU ?_;refine aN (λh1=>?_) (λh1=>?_)
  ·have hkm:k<m-1:=by simpa using h1
   obtain⟨b,hb⟩:∃b,l[k+1]?=some b:=⟨_,aB ag⟩;have iR:=aA hb;have pC:=bT b iR;have Km:rk l b=k+1:=vX ho.nodup hb;have ve:b≠0:=λe=>by subst e;have:=oT ho;omega
   obtain⟨_,Ny,rfl,_⟩:=ad1 (k+1) b (by rw[aK,hb];rfl);have pY:bY a' ob (oo+1):=⟨ha' ob oo ag rfl⟩;have Pf:bZ k (m-1):=⟨hkm⟩;have Cm:a_ wk ob (oo+1+k*1) [.int .i64 (b:Int)]:=⟨by rw[show oo+1+k*1=oo+(k+1)*1 by omega];exact Ny⟩;have ol1:eI SS ob:=hold Ny;have F8:=gm cW jq (t:=b) pC;obtain⟨_,Gd,v,rfl,fK⟩:=OG b _ F8;have WO:bY aa ab ao:=⟨Iw (List.ne_nil_of_mem (aA F8))⟩;have Pc:bZ b n:=⟨ag⟩;have Ge:a_ wk ab (ao+b*1) [v]:=⟨Gd⟩;have ol2:eI SS ab:=hold Gd;have A6:=fK;obtain⟨ra,rn,rc,_,_,rfl,_⟩:=A6;obtain⟨zx,aby,Db,rb,ro,ND,hrel⟩:=fK.at;rw[aG]at zx;have wV:∀p,p∈bf bl b↔(p<n/\Edge bl p b):=λp=>by simp[bf,Edge,hn]
   have Gr:(bf bl b).length<=100:=by have:=ja (λi=>decide ((b:Int)∈dd bl i)) (List.range bl.length);rw[fG]at this;unfold bf;omega
   generalize bf bl b=ps at*;have hul:=Nx.len;refine aO ?_;refine bP (λ(x:Nat×Int)=>x.1<=rn/\m_ up (ps.take x.1) x.2) (λx=>[(55,.int .i64 x.1),(12,.int .i64 x.2),(53,.slice ra rn rc),(54,.int .i64 rn),(11,.int .i64 b),(46,.int .i64 k),(44,.slice a' (m-1) (xc-1)),(45,.int .i64 ((m-1:Nat):Int)),(9,.bool more),(8,.slice aa n ac),(3,.slice (some ⟨ob,oo,none⟩) m xc),(4,.slice (some ⟨ta,0,none⟩) n n),(5,.slice (some ⟨ua,0,none⟩) n n),(1,.pointer (some ⟨p1,0,none⟩))])
    (λ_=>[ai (some ⟨ua,0,none⟩) n n 3 1 (up.map (.int .i64))]) (λx=>rn-x.1) (0,-1) ⟨aY _,by simpa using HS up⟩ (aV aw ag2) λx ⟨hj,AL⟩=>?_
   obtain⟨j,z⟩:=x;simp only at hj AL⊢;refine aU ?_;refine aN (λh2=>?_) (λh2=>?_)
   ·have jE:j<rn:=by simpa using h2
    obtain⟨p,hp⟩:∃p,ps[j]?=some p:=⟨_,aB ag⟩;have xB:=(wV p).1 (aA hp);have Cv:ps.take (j+1)=ps.take j++[p]:=by rw[cj,hp];rfl
    obtain⟨_,Vg,rfl,_⟩:=hrel j (p:Int) (by rw[aK,hp];rfl);have aan:bY ra rb ro:=⟨ND (λe=>by rw[List.map_eq_nil_iff]at e;rw[e]at hp;cases hp)⟩;have IH:bZ j rn:=⟨jE⟩;have AN:a_ wk rb (ro+j*1) [.int .i64 (p:Int)]:=⟨Vg⟩;have ol3:eI SS rb:=hold Vg;have hlp:bZ p n:=⟨xB.1⟩;obtain⟨q,hq⟩:∃q,up[p]?=some q:=⟨_,aB ag⟩;have hea:oJ up p q:=⟨hq⟩;refine aO ?_;refine aN (λh3=>?_) (λh3=>?_)
    ·have NC:q<0:=by simpa using h3
     refine aO ?_;refine bC (j+1,z) ⟨jE,?_⟩ (by simp only;omega) aw ag2;simp only;rw[Cv];exact AL.pass λ⟨c,hc⟩=>by rw[hq]at hc;have:=be hc;omega
    ·have NC:0<=q:=by have:=h3;simp at this;omega
     have VG:Pr up p:=⟨q.toNat,by rw[hq];congr 1;omega⟩;refine aU ?_;refine aN (λh4=>?_) (λh4=>?_)
     ·have TM:z<0:=by simpa using h4
      refine aO ?_;refine bC (j+1,(p:Int)) ⟨jE,?_⟩ (by simp only;omega) aw ag2;simp only;rw[Cv];exact AL.first TM VG
     ·have TM:0<=z:=by have:=h4;simp at this;omega
      obtain⟨c,rfl,EZ⟩:=AL.pr TM;refine aU ?_;refine cV (val:=λz:Nat=>.int .i64 (z:Int)) (E:=λ_=>[]) (φ:=λz=>pq up c p z) rfl (λw hw=>Yx bl l ho up _ Nx _ ny ag _ _ w (aeO Nx hw ag ag λx hx=>by have:=bT x hx;omega) (aM.mono (V:=fj) (w:=wk) (w':=w) (λ_ _ h=>h) (hkk hw) WS) c p EZ VG) λz hz=>?_;simp only[aT];refine aO ?_;refine bC (j+1,(z:Int)) ⟨jE,?_⟩ (by simp only;omega) aw ag2;simp only;rw[Cv];exact AL.iN VG hz
   ·have hjr:j=rn:=by have:=h2;simp at this;omega
    rw[hjr,zx,cO]at AL;obtain⟨q,IJ,Cb,hqk,R6⟩:∃q,q∈ps/\q∈l/\rk l q<k+1/\Edge bl q b:=by
     obtain⟨j,q,hj,IJ,R6⟩:=ho.ahead (k+1) b hb ve;have Cb:=aA IJ;exact⟨q,(wV q).2 ⟨by have:=bT q Cb;omega,R6⟩,Cb,by rw[vX ho.nodup IJ];exact hj,R6⟩
    obtain⟨z,rfl,hzp,Vd⟩:∃c:Nat,z=c/\Pr up c/\∀y,qS up y c↔∀p,Edge bl p b->Pr up p->qS up y p:=by
     rcases AL with⟨_,h⟩|⟨c,h1,h2,_,h3⟩
     ·exact absurd (Nx.G4 q Cb hqk) (h q IJ)
     ·refine⟨c,h1,h2,λy=>(h3 y).trans ⟨λh p he hp=>h p ((wV p).2 ⟨by have:=bT p (Nx.qN hp);omega,he⟩) hp,λh p hp VG=>h p ((wV p).1 hp).2 VG⟩⟩
    obtain⟨hIs,aaZ,_⟩:=Nx.step cW dS ho ag hb hzp Vd;have LZ:b<up.length:=ag;obtain⟨x0,Dd⟩:∃x,up[b]?=some x:=⟨_,aB LZ⟩;have hea:oJ up b x0:=⟨Dd⟩;have aaY:l.length=m:=hm;refine aI ?_;refine aN (λh3=>?_) (λh3=>?_)
    ·have eH:x0≠(z:Int):=by simpa using h3
     have aaL:=Nx.ZZ hzp Dd eH aaZ;rw[aaY]at aaL;have mM:lN (up.map (.int .i64)) (b*1) (.int .i64 (z:Int)) ((up.set b (z:Int)).map (.int .i64)):=⟨by simp[eh],by simp;omega⟩;refine aI ?_;refine bC (k+1,up.set b (z:Int),true) ⟨by simp only;omega,hIs,λh=>(by cases h),λ_=>by simp only;omega,by simp only;omega⟩ (by simp only;omega) aw ag2
    ·have he:x0=(z:Int):=by have:=h3;simp at this;exact this
     subst he;have qe:up.set b (z:Int)=up:=lD Dd;rw[qe]at hIs;refine aO ?_;refine bC (k+1,up,more) ⟨by simp only;omega,hIs,λh=>⟨(uP h).1,λv hv xY hr=>?_⟩,Ek,Kg⟩ (by simp only;omega) aw ag2
     by_cases e:v=b
     ·subst e;exact Nx.full ve Dd Vd
     ·refine(uP h).2 v hv xY ?_
      have:rk l v≠k+1:=λe'=>e (pQ hv iR ag);simp only at hr;omega
  ·have hkm:k+1=m:=by have:=h1;simp at this;omega
   rw[hkm]at Nx uP;refine aI ?_;refine bC (up,more) ?_ ?_ aw ag2
   ·cases more with
    |true=>exact Inv.again ho (hm.symm▸Nx)
    |false=>
     refine⟨hm.symm▸Nx,λv hv xY=>(uP rfl).2 v hv xY ?_⟩;rw[<-hm];exact tY.2 hv
   ·cases more with
    |true=>have:=Ek rfl;simp only[if_true];omega
    |false=>simp only[Bool.false_eq_true,if_true,if_false];omega
 ·subst h1
  simp only[Bool.false_eq_true,if_false]at hI;have hul:=hI.1.len;have TI:lN (up.map (.int .i64)) (0*1) (.int .i64 (-1)) ((up.set 0 (-1)).map (.int .i64)):=⟨by simp[eh],by simp;omega⟩;refine aI ?_;refine cA rfl λw hw=>⟨ua,by rw[hn],?_,trivial⟩;have:=back hw;rw[hI.1.tree ho hI.2,<-hn]at this;rw[<-hn];exact this.sub (dY _ _)
theorem RC{S:Nat->Prop}{w0 w:World}{H:List bN}{k:Nat}{a:Option Addr}{n c e:Nat}{bl:List ar}(hw:Wd S w0 H w)(hk:H[k]?=some (ai a n c e 1 (((List.range bl.length).map (cR bl)).map (.int .i64))))(hn:n=bl.length)(cW:cL bl)(dS:0<bl.length)(hlen:bl.length<=100):aM w (.slice a n c) 1 ((List.range bl.length).map (cR bl)) fj:=by
 refine hw.nC hk (by simpa using hn) ag λi x hx=>⟨[.int .i64 x],λj v hj=>?_,rfl,?_⟩
 ·match j,hj with
  |0,hj=>rw[fB,dL,aK,hx];simpa using hj
 ·obtain⟨b,_,rfl⟩:=aX.1 (aA hx)
  by_cases h:∃c,jX bl c b
  ·obtain⟨c,hc⟩:=h
   rw[gZ hc];have:=cW.BC dS hc.1.1;simp only[c9];omega
  ·rw[fS λc hc=>h ⟨c,hc⟩];simp[c9]
theorem Hw{bl:List ar}(cW:cL bl)(h0:0<bl.length){b:Nat}(ve:b≠0):decide (cR bl b<0)= !(open Classical in decide (gD bl (-1) 0 b)):=by
 classical
 by_cases h:gD bl (-1) 0 b
 ·obtain⟨c,hc⟩:=uq cW h0 h ve
  rw[gZ hc];simp[h]
 ·rw[fS λc hc=>h hc.1.2.1]
  simp[h]
theorem Np{bl:List ar}(_hok:cL bl)(_h0:0<bl.length){b p:Nat}(h:ku bl b p):(cR bl b<0/\cR bl b=-1)∨∃c:Nat,cR bl b=c/\ku bl c p:=by
 by_cases hx:∃c,jX bl c b
 ·obtain⟨c,hc⟩:=hx
  exact .inr ⟨c,gZ hc,hc.1.trans h⟩
 ·have e:=fS λc hc=>hx ⟨c,hc⟩
  exact .inl ⟨by rw[e];omega,e⟩
theorem xM(nm pa re:Value)(bl:List ar)(bs:Value)(Gb:∃a n c,bs=.slice a n c)(w0:World)(mU:aM w0 bs 6 bl ed)(hlen:bl.length<=100)(cW:cL bl)(jq:∀(b:Nat) (B:ar),bl[b]?=some B->B.to.Nodup)(dS:0<bl.length):
  gV Tryz.prog 98 [.agg #[nm,pa,re,bs]] w0 λu w'=>∃x:Nat×List Row,u=.slice (some ⟨x.1,0,none⟩) bl.length bl.length/\Wd dh w0 (ai (some ⟨x.1,0,none⟩) bl.length bl.length 42 1 (x.2.map eO)::x.2.map gy) w'/\x.2.map (·.l)=gG bl:=by
 classical
 obtain⟨ba,n,bc,rfl⟩:=Gb;have hn:n=bl.length:=mU.at.1;refine aQ Tryz.func98 rfl Tryz.ntmps98 rfl (Wd.nil dh w0) ?_
 repeat(first|refine aU ?_|refine dX λ_ _=>?_)
 rename_i p1 _;refine cV (val:=λa:Nat=>.slice (some ⟨a,0,none⟩) n n) (E:=λa=>[ai (some ⟨a,0,none⟩) n n 3 1 (((List.range bl.length).map (cR bl)).map (.int .i64))]) (φ:=λ_=>True) rfl (λw hw=>by
  have:=Hv nm pa re bl _ ⟨ba,n,bc,rfl⟩ w (mU.cu fh hw.cE) hlen cW jq dS;rw[<-hn]at this⊢;exact this) λua _=>?_
 simp only[a6,aT]
 repeat(first|refine aU ?_|refine dX λ_ _=>?_)
 rename_i bo _;refine kS 3 1 n ?_;rw[show(List.replicate n (Value.slice none 0 0))=(List.replicate n (⟨none,0,[]⟩:Row)).map eO by simp[eO],show(List.replicate n (ai none 0 0 3 1 []))=(List.replicate n (⟨none,0,[]⟩:Row)).map gy by simp[gy]];refine cV (val:=λx:(Option Addr×Nat×Nat)×(Nat->Prop)=>.slice x.1.1 x.1.2.1 x.1.2.2) (E:=λx=>[⟨x.2,λw=>aM w (.slice x.1.1 x.1.2.1 x.1.2.2) 1 (bm bl) cS⟩]) (φ:=λ_=>True) rfl (λw hw=>fO _ _ _ bl _ w (mU.cu fh hw.cE) hlen cW) λx _=>?_;obtain⟨⟨aa,an,ac⟩,fp⟩:=x;simp only[a6,aT];refine aO ?_;refine bj (H1:=(ai (some ⟨bo,0,none⟩) n n 42 1 ((List.replicate n (⟨none,0,[]⟩:Row)).map eO)::(List.replicate n (⟨none,0,[]⟩:Row)).map gy)++[⟨fp,λw=>aM w (.slice aa an ac) 1 (bm bl) cS⟩,ai (some ⟨ua,0,none⟩) n n 3 1 (((List.range bl.length).map (cR bl)).map (.int .i64)),aj p1 [nm,pa,re,.slice ba n bc] 35]) ((List.Perm.swap _ _ _).trans (List.Perm.cons _ (dH (l₁:=[⟨fp,λw=>aM w (.slice aa an ac) 1 (bm bl) cS⟩,ai (some ⟨ua,0,none⟩) n n 3 1 (((List.range bl.length).map (cR bl)).map (.int .i64)),aj p1 [nm,pa,re,.slice ba n bc] 35])))) ?_;refine nQ λw1 mz=>?_;have zn:aM (bX (cF (ai (some ⟨bo,0,none⟩) n n 42 1 ((List.replicate n (⟨none,0,[]⟩:Row)).map eO)::(List.replicate n (⟨none,0,[]⟩:Row)).map gy)) w1) (.slice aa an ac) 1 (bm bl) cS:=mz.beside (e:=⟨fp,λw=>aM w (.slice aa an ac) 1 (bm bl) cS⟩) aH;have aew:aM (bX (cF (ai (some ⟨bo,0,none⟩) n n 42 1 ((List.replicate n (⟨none,0,[]⟩:Row)).map eO)::(List.replicate n (⟨none,0,[]⟩:Row)).map gy)) w1) (.slice (some ⟨ua,0,none⟩) n n) 1 ((List.range bl.length).map (cR bl)) fj:=RC mz.jN (k:=1) rfl hn cW dS hlen;have back:∀{E:List bN} {w:World},Wd (cF (ai (some ⟨bo,0,none⟩) n n 42 1 ((List.replicate n (⟨none,0,[]⟩:Row)).map eO)::(List.replicate n (⟨none,0,[]⟩:Row)).map gy)) (bX (cF (ai (some ⟨bo,0,none⟩) n n 42 1 ((List.replicate n (⟨none,0,[]⟩:Row)).map eO)::(List.replicate n (⟨none,0,[]⟩:Row)).map gy)) w1) E w->Wd dh w0 (E++[⟨fp,λw=>aM w (.slice aa an ac) 1 (bm bl) cS⟩,ai (some ⟨ua,0,none⟩) n n 3 1 (((List.range bl.length).map (cR bl)).map (.int .i64)),aj p1 [nm,pa,re,.slice ba n bc] 35]) w:=λhw=>mz.comp hw.mG;have hold:∀{b o:Nat} {v:Value},bG (bX (cF (ai (some ⟨bo,0,none⟩) n n 42 1 ((List.replicate n (⟨none,0,[]⟩:Row)).map eO)::(List.replicate n (⟨none,0,[]⟩:Row)).map gy)) w1) b o [v]->eI (cF (ai (some ⟨bo,0,none⟩) n n 42 1 ((List.replicate n (⟨none,0,[]⟩:Row)).map eO)::(List.replicate n (⟨none,0,[]⟩:Row)).map gy)) b:=λhc=>iu hc aH;generalize bX (cF (ai (some ⟨bo,0,none⟩) n n 42 1 ((List.replicate n (⟨none,0,[]⟩:Row)).map eO)::(List.replicate n (⟨none,0,[]⟩:Row)).map gy)) w1=wk at*;generalize cF (ai (some ⟨bo,0,none⟩) n n 42 1 ((List.replicate n (⟨none,0,[]⟩:Row)).map eO)::(List.replicate n (⟨none,0,[]⟩:Row)).map gy)=SS at*;obtain⟨F7,F6,_,ab,ao,Iw,OG⟩:=zn.at;have B8:(bm bl).length=n:=by unfold bm;rw[fM,hn]
 rw[B8]at F7;have OI:=F7.symm;subst OI;have tree:∀b,b<n->a_ wk ua (0+b*1) [.int .i64 (cR bl b)]/\eI SS ua:=by
  intro b hb;obtain⟨_,hc,rfl,_⟩:=aew.known b (cR bl b) (by rw[aK,eQ ag];rfl);exact⟨⟨hc⟩,hold hc⟩
 refine bP (λ(x:Nat×List Row)=>x.1<=n/\x.2.length=n/\∀i r,x.2[i]?=some r->r.l=qZ bl x.1 (λ_=>False) i) (λx=>[(19,.int .i64 x.1),(17,.slice aa n ac),(18,.int .i64 n),(3,.slice (some ⟨ua,0,none⟩) n n),(4,.slice (some ⟨bo,0,none⟩) n n)])
  (λx=>ai (some ⟨bo,0,none⟩) n n 42 1 (x.2.map eO)::x.2.map gy) (λx=>n-x.1) (0,List.replicate n ⟨none,0,[]⟩)
  ⟨aY _,by simp,λi r hr=>?_⟩ (aV aw ag2) λx ⟨hi,qd,sJ⟩=>?_
 ·simp only[h_]at hr
  split at hr
  ·simp only[bW]at hr
   subst hr;simp[qZ]
  ·cases hr
 obtain⟨b,rs⟩:=x;simp only at hi qd sJ⊢;refine aU ?_;refine aN (λh1=>?_) (λh1=>?_)
 ·have pC:b<n:=by simpa using h1
  have F8:=gm cW jq (t:=b) ag;obtain⟨_,Gd,v,rfl,fK⟩:=OG b _ F8;have WO:bY aa ab ao:=⟨Iw (List.ne_nil_of_mem (aA F8))⟩;have Pc:bZ b n:=⟨pC⟩;have Ge:a_ wk ab (ao+b*1) [v]:=⟨Gd⟩;have ol2:eI SS ab:=hold Gd;have A6:=fK;obtain⟨ra,rn,rc,_,_,rfl,_⟩:=A6;obtain⟨zx,aby,Db,rb,ro,ND,hrel⟩:=fK.at;rw[aG]at zx;have wV:∀p,p∈bf bl b↔(p<bl.length/\Edge bl p b):=λp=>by simp[bf,Edge]
  have Gr:(bf bl b).length<=100:=by have:=ja (λi=>decide ((b:Int)∈dd bl i)) (List.range bl.length);rw[fG]at this;unfold bf;omega
  generalize bf bl b=ps at*;obtain⟨Mi,ol3⟩:=tree b pC;refine aO ?_;refine kF 32 (.bool (!decide (gD bl (-1) 0 b))) ?_ ?_
  ·by_cases ve:b=0
   ·subst ve
    rw[show decide ((0:Int)<((0:Nat):Int))=false from rfl,show(!decide (gD bl (-1) 0 0))=false by simp[gD.refl]];refine iL ?_;exact aV aw ag2
   ·rw[show decide ((0:Int)<(b:Int))=true by simp;omega,<-Hw cW dS ve]
    refine aI ?_;exact aV aw ag2
  generalize he1:decide (gD bl (-1) 0 b)=e1;cases e1
  ·have qu:¬gD bl (-1) 0 b:=by simpa using he1
   rw[show(!false)=true from rfl];refine aI ?_;refine bC (b+1,rs) ⟨pC,qd,λi r hr=>?_⟩ (by simp only;omega) aw ag2;rw[sJ i r hr,<-CX];exact jP ⟨λh=>h.elim,λ⟨p,hp,he,_⟩=>qu (hp.step he ag)⟩
  have Km:gD bl (-1) 0 b:=by simpa using he1
  rw[show(!true)=false from rfl];refine aO ?_;refine bP (λ(x:Nat×List Row)=>x.1<=rn/\x.2.length=n/\∀i r,x.2[i]?=some r->r.l=qZ bl b (Mark bl b (ps.take x.1)) i) (λx=>[(35,.int .i64 x.1),(33,.slice ra rn rc),(34,.int .i64 rn),(5,.int .i64 b),(19,.int .i64 b),(17,.slice aa n ac),(18,.int .i64 n),(3,.slice (some ⟨ua,0,none⟩) n n),(4,.slice (some ⟨bo,0,none⟩) n n)])
   (λx=>ai (some ⟨bo,0,none⟩) n n 42 1 (x.2.map eO)::x.2.map gy) (λx=>rn-x.1) (0,rs)
   ⟨aY _,qd,λi r hr=>by rw[sJ i r hr];exact jP ⟨λh=>h.elim,λ⟨p,hp,_⟩=>by simp at hp⟩⟩ (aV aw ag2) λx ⟨hj,Mg,A7⟩=>?_
  obtain⟨j,rs1⟩:=x;simp only at hj Mg A7⊢;refine aU ?_;refine aN (λh2=>?_) (λh2=>?_)
  ·have jE:j<rn:=by simpa using h2
   obtain⟨p,hp⟩:∃p,ps[j]?=some p:=⟨_,aB ag⟩;have xB:=(wV p).1 (aA hp);have Cv:ps.take (j+1)=ps.take j++[p]:=by rw[cj,hp];rfl
   obtain⟨_,Vg,rfl,_⟩:=hrel j (p:Int) (by rw[aK,hp];rfl);have aan:bY ra rb ro:=⟨ND (λe=>by rw[List.map_eq_nil_iff]at e;rw[e]at hp;cases hp)⟩;have IH:bZ j rn:=⟨jE⟩;have AN:a_ wk rb (ro+j*1) [.int .i64 (p:Int)]:=⟨Vg⟩;have ol4:eI SS rb:=hold Vg;have hlp:bZ p n:=⟨ag⟩;obtain⟨TE,_⟩:=tree p ag;refine aO ?_;refine kF 47 (.bool (!decide (gD bl (-1) 0 p))) ?_ ?_
   ·by_cases Tr:p=0
    ·subst Tr
     rw[show decide ((0:Int)<((0:Nat):Int))=false from rfl,show(!decide (gD bl (-1) 0 0))=false by simp[gD.refl]];refine iL ?_;exact aV aw ag2
    ·rw[show decide ((0:Int)<(p:Int))=true by simp;omega,<-Hw cW dS Tr]
     refine aI ?_;exact aV aw ag2
   generalize Xd:decide (gD bl (-1) 0 p)=e2;cases e2
   ·have qu:¬gD bl (-1) 0 p:=by simpa using Xd
    rw[show(!false)=true from rfl];refine aI ?_;refine bC (j+1,rs1) ⟨jE,Mg,λi r hr=>?_⟩ (by simp only;omega) aw ag2;rw[A7 i r hr];simp only;rw[Cv];exact jP (MC qu).symm
   have hrp:gD bl (-1) 0 p:=by simpa using Xd
   rw[show(!true)=false from rfl];refine aO ?_;refine bP (λ(x:Int×List Row)=>((x.1<0/\x.1=-1)∨∃c:Nat,x.1=c/\ku bl c p)/\(∀c,jX bl c b->DF bl c x.1)/\x.2.length=n/\∀i r,x.2[i]?=some r->r.l=qZ bl b (Way bl b (ps.take j) p x.1) i) (λx=>[(9,.int .i64 x.1),(8,.int .i64 p),(35,.int .i64 j),(33,.slice ra rn rc),(34,.int .i64 rn),(5,.int .i64 b),(19,.int .i64 b),(17,.slice aa n ac),(18,.int .i64 n),(3,.slice (some ⟨ua,0,none⟩) n n),(4,.slice (some ⟨bo,0,none⟩) n n)])
    (λx=>ai (some ⟨bo,0,none⟩) n n 42 1 (x.2.map eO)::x.2.map gy) (λx=>Hz bl x.1) ((p:Int),rs1)
    ⟨.inr ⟨p,rfl,.refl hrp⟩,λc hc=>⟨p,rfl,hc.1.FG hc.2.1 xB.2 hrp⟩,Mg,λi r hr=>by rw[A7 i r hr];exact jP Ns.symm⟩ (aV aw ag2) λx ⟨hz,hH,Py,vG⟩=>?_
   obtain⟨z,NJ⟩:=x;simp only at hz hH Py vG⊢;have fin:(z<0∨z=cR bl b)->∀i r,NJ[i]?=some r->r.l=qZ bl b (Mark bl b (ps.take (j+1))) i:=λh i r hr=>by
    rw[vG i r hr,Cv];exact jP (UG hrp hH h)
   refine aU ?_;rcases hz with⟨TM,rfl⟩|⟨a,rfl,pY⟩
   ·rw[show decide ((0:Int)<=-1)=false from rfl]
    refine iL ?_;exact bC (j+1,NJ) ⟨jE,Py,fin (.inl TM)⟩ (by simp only;omega) aw ag2
   have Tw:=pY.1;have EY:a<n:=by have:=cW.BC dS Tw;omega
   rw[show decide ((0:Int)<=(a:Int))=true by simp];refine aI ?_;refine aN (λh3=>?_) (λh3=>?_)
   ·have eH:(a:Int)≠cR bl b:=by simpa using h3
    have Tk:bZ a n:=⟨EY⟩;obtain⟨wl,_⟩:=tree a EY;obtain⟨r,hr⟩:∃r,NJ[a]?=some r:=⟨_,aB ag⟩;have abv:=SH (bl:=bl) (b:=b) (i:=a) (V:=Way bl b (ps.take j) p a) ag;rw[<-vG a r hr]at abv;have Kv:NX (NJ.map eO) (a*1) (.slice r.a r.l.length r.c):=⟨by simp[hr,eO]⟩;have aap:a<NJ.length:=ag;have IN:=Np cW dS (b:=a) pY;refine aO ?_;refine bI rfl (λw hw=>Ao _ r.l b w (Rk (E:=[_]) (H:=[]) (by rw[cq];exact hw) hr abv) ⟨_,_,_,rfl⟩) ?_;rw[show decide ((b:Int)∈r.l)=decide (Way bl b (ps.take j) p a a) by rw[decide_eq_decide,vG a r hr,Og]];generalize he3:decide (Way bl b (ps.take j) p a a)=e3;have Pj:=UF cW dS Tw;cases e3
    ·have hnw:¬Way bl b (ps.take j) p a a:=by simpa using he3
     repeat(first|refine aO ?_|refine dX λ_ _=>?_)
     rename_i bt _;refine gq (a+2) (xs:=r.l.map (.int .i64)) (e:=3) (by simp[hr,gy]) rfl rfl ag ag λa' c'=>?_;refine fg (H1:=ai (some ⟨bt,0,none⟩) 1 1 3 1 [.int .i64 b]::ai (some ⟨bo,0,none⟩) n n 42 1 (NJ.map eO)::(NJ.set a ⟨a',c',r.l++[(b:Int)]⟩).map gy) (by simp[gy,eh]) ?_;have mM:lN (NJ.map eO) (a*1) (.slice a' (r.l.length+1) c') ((NJ.set a ⟨a',c',r.l++[(b:Int)]⟩).map eO):=⟨by simp[eO,eh],by simpa using aap⟩;refine aI ?_;refine bC (cR bl a,NJ.set a ⟨a',c',r.l++[(b:Int)]⟩) ⟨IN,RJ cW dS Tw hH eH,by simpa using Py,λi q hq=>?_⟩ Pj aw ap;simp only[dQ]at hq;simp only;rw[jP (W:=λi=>Way bl b (ps.take j) p a i∨i=a) (HA cW dS pY)]
     by_cases R1:a=i
     ·subst R1
      simp only[if_true,aap,bW]at hq;subst hq;simp only;rw[Of hnw,vG a r hr]
     ·rw[if_neg R1]at hq
      rw[vG i q hq];exact jP ⟨.inl,λh=>h.elim id λe=>absurd e.symm R1⟩
    ·have dO:Way bl b (ps.take j) p a a:=by simpa using he3
     refine aO ?_;refine bC (cR bl a,NJ) ⟨IN,RJ cW dS Tw hH eH,Py,λi q hq=>?_⟩ Pj aw ag2;rw[vG i q hq];exact jP ((HA cW dS pY).trans ⟨λh=>h.elim id λe=>by subst e;exact dO,.inl⟩).symm
   ·have he:(a:Int)=cR bl b:=by simpa using h3
    refine aI ?_;exact bC (j+1,NJ) ⟨jE,Py,fin (.inr he)⟩ (by simp only;omega) aw ag2
  ·have hjr:j=rn:=by have:=h2;simp at this;omega
   rw[hjr,zx,cO]at A7;refine aI ?_;refine bC (b+1,rs1) ⟨pC,Mg,λi r hr=>?_⟩ (by simp only;omega) aw ag2;rw[A7 i r hr,<-CX];exact jP (I9 cW dS Km wV)
 ·have gT:b=n:=by have:=h1;simp at this;omega
  refine aI ?_;refine cA rfl λw hw=>⟨(bo,rs),by rw[hn],?_,?_⟩
  ·simp only
   rw[<-hn];exact(back hw).sub (dY _ _)
  ·show rs.map (·.l)=gG bl
   apply cf;intro i;unfold gG FZ
   by_cases mO:i<n
   ·rw[aK,aK,aB (by omega:i<rs.length),eQ ag,bz,bz,sJ i _ (aB ag),gT,hn]
    simp[qZ]
   ·rw[aK,bM ag,bM (by rw[aG,fG];omega)]
    rfl
end
section
open Go Go.RowKit
def ES:Go.Shelf.Ren:=⟨λ|125=>168|128=>185|129=>186|189=>151|215=>203|216=>182|257=>167|294=>176|295=>177|296=>178|297=>179|298=>180|299=>181|300=>183|301=>184|328=>198|329=>199|330=>200|331=>201|332=>202|343=>208|n=>n,λ|0=>0|3=>3|4=>4|5=>5|9=>9|28=>42|46=>172|51=>210|53=>213|131=>227|182=>230|183=>231|218=>244|222=>248|228=>252|229=>253|n=>n,λn=>n⟩
theorem Hj:Go.Proofs.Lays.n189 Tryz.prog ES where
 mixed:=aP
 f125:=Tryz.func168.trans (congrArg some aP)
 f128:=Tryz.func185.trans (congrArg some aP)
 f129:=Tryz.func186.trans (congrArg some aP)
 f189:=Tryz.func151.trans (congrArg some aP)
 f215:=Tryz.func203.trans (congrArg some aP)
 f216:=Tryz.func182.trans (congrArg some aP)
 f257:=Tryz.func167.trans (congrArg some aP)
 f294:=Tryz.func176.trans (congrArg some aP)
 f295:=Tryz.func177.trans (congrArg some aP)
 f296:=Tryz.func178.trans (congrArg some aP)
 f297:=Tryz.func179.trans (congrArg some aP)
 f298:=Tryz.func180.trans (congrArg some aP)
 f299:=Tryz.func181.trans (congrArg some aP)
 f300:=Tryz.func183.trans (congrArg some aP)
 f301:=Tryz.func184.trans (congrArg some aP)
 f328:=Tryz.func198.trans (congrArg some aP)
 f329:=Tryz.func199.trans (congrArg some aP)
 f330:=Tryz.func200.trans (congrArg some aP)
 f331:=Tryz.func201.trans (congrArg some aP)
 f332:=Tryz.func202.trans (congrArg some aP)
 f343:=Tryz.func208.trans (congrArg some aP)
 t0:=Tryz.underlying0
 a0:=Tryz.isAgg0
 z0:=Tryz.sizeOf0
 v0:=Tryz.zeroValue0
 t3:=Tryz.underlying3
 a3:=Tryz.isAgg3
 z3:=Tryz.sizeOf3
 v3:=Tryz.zeroValue3
 t4:=Tryz.underlying4
 a4:=Tryz.isAgg4
 z4:=Tryz.sizeOf4
 v4:=Tryz.zeroValue4
 t5:=Tryz.underlying5
 a5:=Tryz.isAgg5
 z5:=Tryz.sizeOf5
 v5:=Tryz.zeroValue5
 t9:=Tryz.underlying9
 a9:=Tryz.isAgg9
 z9:=Tryz.sizeOf9
 v9:=Tryz.zeroValue9
 t28:=Tryz.underlying42
 a28:=Tryz.isAgg42
 z28:=Tryz.sizeOf42
 v28:=Tryz.zeroValue42
 t46:=Tryz.underlying172
 a46:=Tryz.isAgg172
 z46:=Tryz.sizeOf172
 v46:=Tryz.zeroValue172
 t51:=Tryz.underlying210
 a51:=Tryz.isAgg210
 z51:=Tryz.sizeOf210
 v51:=Tryz.zeroValue210
 t53:=Tryz.underlying213
 a53:=Tryz.isAgg213
 z53:=Tryz.sizeOf213
 v53:=Tryz.zeroValue213
 t131:=Tryz.underlying227
 a131:=Tryz.isAgg227
 z131:=Tryz.sizeOf227
 v131:=Tryz.zeroValue227
 t182:=Tryz.underlying230
 a182:=Tryz.isAgg230
 z182:=Tryz.sizeOf230
 v182:=Tryz.zeroValue230
 t183:=Tryz.underlying231
 a183:=Tryz.isAgg231
 z183:=Tryz.sizeOf231
 v183:=Tryz.zeroValue231
 t218:=Tryz.underlying244
 a218:=Tryz.isAgg244
 z218:=Tryz.sizeOf244
 v218:=Tryz.zeroValue244
 t222:=Tryz.underlying248
 a222:=Tryz.isAgg248
 z222:=Tryz.sizeOf248
 v222:=Tryz.zeroValue248
 t228:=Tryz.underlying252
 a228:=Tryz.isAgg252
 z228:=Tryz.sizeOf252
 v228:=Tryz.zeroValue252
 t229:=Tryz.underlying253
 a229:=Tryz.isAgg253
 z229:=Tryz.sizeOf253
 v229:=Tryz.zeroValue253
theorem Wd.holds{S:Nat->Prop}{w0 w:World}{H:List bN}(hW:Wd S w0 H w){k b o n c e:Nat}{l:List Int}(hk:H[k]?=some (ai (some ⟨b,o,none⟩) n c e 1 (l.map (.int .i64)))):Go.Sort.Holds (Value.int .i64) w b o l.toArray/\b<w.heap.size:=by
 obtain⟨_,_,_,pre,sp,rfl,_,hb⟩:=hW.km hk;refine⟨λj hj=>⟨?_,by simp[World.frozen?,hb]⟩,(fI.1 hb).1⟩;have Pb:j<l.length:=by simpa using hj
 refine hW.cK hk ?_;rw[aK,aB Pb];simp[Pb]
theorem YP(a:Option Addr)(c:Nat)(l:List Int)(hlen:l.length<=100000)(w:World)(hw:Wd (cF [ai a l.length c 3 1 (l.map (.int .i64))]) w [ai a l.length c 3 1 (l.map (.int .i64))] w):
  gV Tryz.prog 151 [.slice a l.length c] w λu w'=>∃_:Unit,u=.tuple #[]/\Wd (cF [ai a l.length c 3 1 (l.map (.int .i64))]) w [ai a l.length c 3 1 ((lj l).map (.int .i64))] w'/\True:=by
 rcases(hw.get (k:=0) rfl).2 with⟨rfl,h0,rfl⟩|⟨b,pre,sp,rfl,_⟩
 ·have hl:l=[]:=kN h0
  subst hl;refine callsIn_wide.2 ((Go.Proofs.Any.slices_Sort_int_none Hj none 0 w).mono λe w' ⟨he,dO⟩=>⟨_,he,(),rfl,?_,trivial⟩);rw[dO,show lj []=[] by simp[lj]];exact hw
 ·obtain⟨h1,h2⟩:=hw.holds (k:=0) rfl
  refine callsIn_wide.2 ((Go.Proofs.Any.slices_Sort_int Hj b pre.length c l w h1 h2 ag).mono λe w' ⟨he,m,os,dO⟩=>⟨_,he,(),rfl,?_,trivial⟩);rw[dO];have:=hw.lj (k:=0) (m:=m) (os:=os) (l':=lj l) rfl (BP l);simpa[lj]using this
end
section
open Go Go.RowKit
attribute [local irreducible] wpListIn Code.wpIn Exit.then Exit.inBlock bodyPost wpQuiet wpAnyIn wpAnyH bodyPostM
theorem vR{l:List Int}{n:Nat}(hn:l.Nodup)(h:∀x∈l,∃c:Nat,x=c/\c<n):l.length<=n:=by
 have h1:(l.map Int.toNat).Nodup:=by
  refine List.pairwise_map.2 (List.Pairwise.imp_of_mem (λ{x y} hx hy eH e=>?_) hn);obtain⟨c,rfl,_⟩:=h x hx;obtain⟨d,rfl,_⟩:=h y hy;exact eH (by simp at e;omega)
 have h2:=yj n (l.map Int.toNat) h1 λx hx=>by
  obtain⟨y,hy,rfl⟩:=aX.1 hx;obtain⟨c,rfl,hc⟩:=h y hy;simpa using hc
 rwa[aG]at h2
theorem Rl{S:Nat->Prop}{w0 w:World}{rs:List Row}{a:Option Addr}{c e:Nat}{H:List bN}(h:Wd S w0 (ai a rs.length c e 1 (rs.map eO)::(rs.map gy++H)) w)(hb:rs.length<=100000)(hl:∀r∈rs,r.l.length<=1000/\∀x∈r.l,c9 x):aM w (.slice a rs.length c) 1 (rs.map (·.l)) cS:=by
 refine h.nC (k:=0) rfl (by rw[aG]) ag λi x hx=>?_;rw[aK]at hx;obtain⟨r,hr,rfl⟩:=cT.1 hx;refine⟨[eO r],λj v hj=>?_,_,rfl,Rk (E:=[_]) (H:=H) h hr (hl r (aA hr))⟩
 match j,hj with
 |0,hj=>simpa[hr]using hj
end
section
open Go Go.RowKit
inductive lT(bl:List ar)(bs:List Int):Nat->Prop
 |base {b x:Nat}:(b:Int)∈bs->gP bl b x->lT bl bs x
 |step {y x:Nat}:lT bl bs y->gP bl y x->lT bl bs x
theorem gP.lt{bl:List ar}(cW:cL bl){a b:Nat}(h:gP bl a b):b<bl.length:=by
 obtain⟨p,_,he,_⟩:=h;exact cW.FG he
theorem lT.lt{bl:List ar}(cW:cL bl){bs:List Int}{x:Nat}(h:lT bl bs x):x<bl.length:=by
 cases h with
 |base _ h=>exact h.lt cW
 |step _ h=>exact h.lt cW
def DM(bl:List ar)(bs:List Int)(p:Nat->Prop):Prop:=∀b:Nat,((b:Int)∈bs∨p b)->∀x,gP bl b x->p x
theorem DM.all{bl:List ar}{bs:List Int}{p:Nat->Prop}(h:DM bl bs p){x:Nat}(hx:lT bl bs x):p x:=by
 induction hx with
 |base hb hf=>exact h _ (.inl hb) _ hf
 |step _ hf ih=>exact h _ (.inr ih) _ hf
open Classical in
noncomputable def vi(bl:List ar)(bs:List Int):List Int:=((List.range bl.length).filter λx=>decide (lT bl bs x)).map λx:Nat=>(x:Int)
open Classical in
theorem Dn{bl:List ar}(cW:cL bl){bs:List Int}{x:Int}:x∈vi bl bs↔∃c:Nat,x=c/\lT bl bs c:=by
 unfold vi;rw[aX];constructor
 ·rintro⟨c,h,rfl⟩
  exact⟨c,rfl,by simpa using(cI.1 h).2⟩
 ·rintro⟨c,rfl,h⟩
  exact⟨c,cI.2 ⟨cQ.2 (h.lt cW),by simpa using h⟩,rfl⟩
structure Fg(bl:List ar)(bs:List Int)(row out:List Int):Prop where
 nodup:out.Nodup
 sound:∀x∈out,∃c:Nat,x=c/\lT bl bs c
 rows:∀x∈row,x∈bs∨x∈out
 done:∀y:Nat,((y:Int)∈bs∨(y:Int)∈out)->(y:Int)∈row∨∀x:Nat,gP bl y x->(x:Int)∈out
theorem Jd(bl:List ar)(bs:List Int):Fg bl bs bs []:=⟨by simp,by simp,λ_ h=>.inl h,λ_ h=>.inl (h.elim id λh=>by cases h)⟩
structure uX(bl:List ar)(bs:List Int)(b:Nat)(fs:List Int)(row out:List Int):Prop where
 nodup:out.Nodup
 sound:∀x∈out,∃c:Nat,x=c/\lT bl bs c
 head:(b:Int)∈bs∨(b:Int)∈out
 rows:∀x∈row,x∈bs∨x∈out
 done:∀y:Nat,((y:Int)∈bs∨(y:Int)∈out)->y=b∨(y:Int)∈row∨∀x:Nat,gP bl y x->(x:Int)∈out
 seen:∀x∈fs,x∈out
theorem Fg.head{bl:List ar}{bs row out:List Int}{b:Nat}(h:Fg bl bs ((b:Int)::row) out):uX bl bs b [] row out:=
 ⟨h.nodup,h.sound,h.rows _ aH,λx hx=>h.rows x (cJ _ hx),λy hy=>(h.done y hy).elim (λhm=>(bJ.1 hm).elim (λe=>.inl ag) λhm=>.inr (.inl hm)) λhx=>.inr (.inr hx),by simp⟩
theorem uX.pass{bl:List ar}{bs row out fs:List Int}{b:Nat}{x:Int}(h:uX bl bs b fs row out)(hx:x∈out):uX bl bs b (fs++[x]) row out:=
 ⟨h.nodup,h.sound,h.head,h.rows,h.done,λy hy=>(bL.1 hy).elim (h.seen y) λhy=>by rw[bU.1 hy];exact hx⟩
theorem uX.add{bl:List ar}{bs row out fs:List Int}{b x:Nat}(h:uX bl bs b fs row out)(hf:gP bl b x)(hx:(x:Int)∉out):uX bl bs b (fs++[(x:Int)]) (row++[(x:Int)]) (out++[(x:Int)]):=by
 have hm:lT bl bs x:=h.head.elim (λhb=>.base hb hf) λhb=>by
  obtain⟨c,e,hc⟩:=h.sound _ hb;have:b=c:=ag;subst this;exact .step hc hf
 refine⟨nN.2 ⟨h.nodup,by simp,λa ha c hc e=>hx ?_⟩,λy hy=>?_,h.head.imp id (cC _),λy hy=>?_,λy hy=>?_,λy hy=>?_⟩
 ·rw[bU.1 hc]at e;rw[<-e];exact ha
 ·rcases bL.1 hy with hy|hy
  ·exact h.sound y hy
  ·exact⟨x,bU.1 hy,hm⟩
 ·rcases bL.1 hy with hy|hy
  ·exact(h.rows y hy).imp id (cC _)
  ·rw[bU.1 hy];exact .inr aH
 ·have hold:((y:Int)∈bs∨(y:Int)∈out)->y=b∨(y:Int)∈row++[(x:Int)]∨∀z:Nat,gP bl y z->(z:Int)∈out++[(x:Int)]:=λhy=>
   (h.done y hy).imp id λh=>h.imp (cC _) λh z hz=>cC _ (h z hz)
  rcases hy with hy|hy
  ·exact hold (.inl hy)
  ·rcases bL.1 hy with hy|hy
   ·exact hold (.inr hy)
   ·exact .inr (.inl (dt _ hy))
 ·rcases bL.1 hy with hy|hy
  ·exact cC _ (h.seen y hy)
  ·exact dt _ hy
theorem uX.row{bl:List ar}{bs row out fs:List Int}{b:Nat}(h:uX bl bs b fs row out)(cP:∀x:Nat,gP bl b x->(x:Int)∈fs):Fg bl bs row out:=
 ⟨h.nodup,h.sound,h.rows,λy hy=>(h.done y hy).elim (λe=>.inr λx hx=>h.seen _ (cP x (e▸hx))) id⟩
theorem Fg.mem{bl:List ar}{bs out:List Int}(h:Fg bl bs [] out)(x:Int):x∈out↔∃c:Nat,x=c/\lT bl bs c:=by
 refine⟨h.sound x,λ⟨c,e,hc⟩=>?_⟩;have fv:DM bl bs λy=>(y:Int)∈out:=λb hb y hy=>(h.done b hb).elim (λhm=>by cases hm) λhd=>hd y hy;rw[e];exact fv.all hc
end
section
open Go Go.RowKit
attribute [local irreducible] wpListIn Code.wpIn Exit.then Exit.inBlock bodyPost wpQuiet wpAnyIn wpAnyH bodyPostM
set_option maxHeartbeats 4000000
theorem H4(a:Option Addr)(c:Nat)(l:List Int)(hb:l.length<=17592186044416)(w0:World)(h:aM w0 (.slice a l.length c) 1 l fj):
  gV Tryz.prog 59 [.slice a l.length c] w0 λu w'=>∃x:Option Addr×Nat,u=.slice x.1 l.length x.2/\Wd dh w0 [ai x.1 l.length x.2 3 1 (l.map (.int .i64))] w'/\True:=by
 refine aQ Tryz.func59 rfl Tryz.ntmps59 rfl (Wd.nil dh w0) ?_;refine aU ?_;cases a with
 |none=>
  have zw:l=[]:=by
   obtain⟨_,_,_,b,o,ha,_⟩:=h.at;exact Classical.byContradiction λhn=>by cases ha hn
  subst zw;refine aI ?_;refine fq 3 1 ?_;exact cA rfl λw hw=>⟨(none,0),rfl,hw,trivial⟩
 |some ad=>
  refine aO ?_;refine mr rfl λeb _=>?_;refine aU ?_;refine kR rfl rfl l (λx=>[.int .i64 x]) (λ_ _ _ h=>h.1) (λ_=>rfl) (λy u hu=>by simp only[bU]at hu;subst hu;rfl) (λw hw=>h.cu (eK) hw.cE) ag ag λa' c'=>?_;rw[tg,aT,dM];refine aO ?_;exact cA rfl λw hw=>⟨(a',c'),rfl,hw,trivial⟩
noncomputable def mn(bl:List ar)(b:Nat):List Int:=((List.range bl.length).filter λx=>(open Classical in decide (gP bl b x))).map λx:Nat=>(x:Int)
theorem wI{bl:List ar}{b:Nat}(hb:b<bl.length):(gG bl)[b]?=some (mn bl b):=by
 unfold gG FZ;rw[aK,eQ hb];rfl
theorem D7{bl:List ar}(cW:cL bl){b x:Nat}:(x:Int)∈mn bl b↔gP bl b x:=by
 classical
 unfold mn;rw[Qn,cI,cQ];simp only[decide_eq_true_eq];exact⟨λh=>h.2,λh=>⟨h.lt cW,h⟩⟩
theorem FP{bl:List ar}{b:Nat}{x:Int}(hx:x∈mn bl b):∃c:Nat,x=c/\c<bl.length/\gP bl b c:=by
 classical
 unfold mn at hx;obtain⟨c,hc,rfl⟩:=aX.1 hx;have h:=cI.1 hc;exact⟨c,rfl,cQ.1 h.1,by simpa using h.2⟩
theorem AA(bl:List ar)(b:Nat):(mn bl b).Nodup:=by
 classical
 exact(te bl.length λx=>decide (gP bl b x)).imp λh e=>by omega
theorem vx(bl:List ar):(gG bl).length=bl.length:=by unfold gG FZ;rw[aG,fG]
theorem GP(bl:List ar)(bs:List Int):(vi bl bs).Nodup:=by
 classical
 exact(te bl.length λx=>decide (lT bl bs x)).imp λh e=>by omega
theorem Ql(bl:List ar)(cW:cL bl)(dS:0<bl.length)(hlen:bl.length<=100)(fa:Option Addr)(fc:Nat)(ba:Option Addr)(bc:Nat)(bs:List Int)(pC:bs.length<=17592186044000)(mO:∀x∈bs,∃c:Nat,x=c/\c<bl.length)(w0:World)(hf:aM w0 (.slice fa bl.length fc) 1 (gG bl) cS)(mU:aM w0 (.slice ba bs.length bc) 1 bs fj):
  gV Tryz.prog 103 [.slice fa bl.length fc,.slice ba bs.length bc] w0 λu w'=>∃x:Option Addr×Nat,u=.slice x.1 (vi bl bs).length x.2/\Wd dh w0 [ai x.1 (vi bl bs).length x.2 3 1 ((vi bl bs).map (.int .i64))] w'/\True:=by
 classical
 obtain⟨_,_,_,kb,ko,uN,uO⟩:=hf.at;refine aQ Tryz.func103 rfl Tryz.ntmps103 rfl (Wd.nil dh w0) ?_;refine aU ?_;refine cV (val:=λx:Option Addr×Nat=>.slice x.1 bs.length x.2) (E:=λx=>[ai x.1 bs.length x.2 3 1 (bs.map (.int .i64))]) (φ:=λ_=>True) rfl (λw hw=>H4 _ _ bs ag w (mU.cu eK hw.cE)) λx _=>?_;obtain⟨ra,rc⟩:=x;simp only[a6,aT];refine aO ?_;refine fq 3 1 ?_;have bT:∀(row out:List Int),Fg bl bs row out->∀x∈out,∃c:Nat,x=c/\c<bl.length:=λrow out h x hx=>by
  obtain⟨c,e,hc⟩:=h.sound x hx;exact⟨c,e,hc.lt cW⟩
 refine bP (λ(x:List Int×(Option Addr×Nat)×List Int×(Option Addr×Nat))=>Fg bl bs x.1 x.2.2.1/\x.1.length<=bs.length+x.2.2.1.length) (λx=>[(6,.slice x.2.1.1 x.1.length x.2.1.2),(5,.slice x.2.2.2.1 x.2.2.1.length x.2.2.2.2),(0,.slice fa bl.length fc)])
  (λx=>[ai x.2.2.2.1 x.2.2.1.length x.2.2.2.2 3 1 (x.2.2.1.map (.int .i64)),ai x.2.1.1 x.1.length x.2.1.2 3 1 (x.1.map (.int .i64))]) (λx=>(bl.length-x.2.2.1.length)*(bl.length+1)+x.1.length) (bs,(ra,rc),[],(none,0))
  ⟨Jd bl bs,by simp⟩ (aV aw ag2) λx ⟨hM,qd⟩=>?_
 obtain⟨row,⟨ra1,rc1⟩,out,⟨oa,oc⟩⟩:=x;simp only at hM qd⊢;have Ca:=vR hM.nodup (bT _ _ hM);refine aU ?_;refine aN (λh1=>?_) (λh1=>?_)
 ·obtain⟨z,rest,rfl⟩:∃z rest,row=z::rest:=by
   cases row with
   |nil=>simp at h1
   |cons z rest=>exact⟨z,rest,rfl⟩
  have hzc:∃c:Nat,z=c/\c<bl.length:=(hM.rows z aH).elim (mO z) (bT _ _ hM z);obtain⟨c,rfl,OR⟩:=hzc;have hlc:bZ c bl.length:=⟨OR⟩;have Mg:(((c:Int)::rest).length)=rest.length+1:=rfl;rw[Mg]at qd⊢;refine eW 1 rfl ag λqb qo Cu=>?_;subst Cu;have afU:bZ 0 (rest.length+1):=⟨ag⟩;have WO:bY fa kb ko:=⟨uN (aW (wI OR))⟩;obtain⟨_,Gd,v,rfl,fK⟩:=uO c _ (wI OR);have Ge:a_ w0 kb (ko+c*1) [v]:=⟨Gd⟩;have A6:=fK;obtain⟨va,vn,vc,_,_,rfl,_⟩:=A6;obtain⟨E7,Yi,uk,vb,vo,nz,GA⟩:=fK.at;refine aO ?_;have oh:=AA bl c;have O0:∀x:Nat,(x:Int)∈mn bl c↔gP bl c x:=λx=>D7 cW;have C6:∀x∈mn bl c,∃d:Nat,x=d/\d<bl.length/\gP bl c d:=λx hx=>FP hx;generalize mn bl c=fs at*;refine bP (λ(x:Nat×List Int×(Option Addr×Nat)×List Int×(Option Addr×Nat))=>x.1<=vn/\uX bl bs c (fs.take x.1) x.2.1 x.2.2.2.1/\x.2.1.length+1<=bs.length+x.2.2.2.1.length/\(bl.length-x.2.2.2.1.length)*(bl.length+1)+x.2.1.length<=(bl.length-out.length)*(bl.length+1)+rest.length)
   (λx=>[(23,.int .i64 x.1),(6,.slice x.2.2.1.1 (x.2.1.length+1) x.2.2.1.2),(5,.slice x.2.2.2.2.1 x.2.2.2.1.length x.2.2.2.2.2),(0,.slice fa bl.length fc),(21,.slice va vn vc),(22,.int .i64 vn)])
   (λx=>[ai x.2.2.2.2.1 x.2.2.2.1.length x.2.2.2.2.2 3 1 (x.2.2.2.1.map (.int .i64)),ai x.2.2.1.1 (x.2.1.length+1) x.2.2.1.2 3 1 (((c:Int)::x.2.1).map (.int .i64))]) (λx=>vn-x.1) (0,rest,(some ⟨qb,qo,none⟩,rc1),out,(oa,oc))
   ⟨aY _,hM.head,qd,bH _⟩ (aV aw ag2) λx ⟨hj,hH,hRl,Pj⟩=>?_
  obtain⟨j,R,⟨ra2,rc2⟩,sO,⟨oa2,oc2⟩⟩:=x;simp only at hj hH hRl Pj⊢;have Tm:∀x∈sO,∃c:Nat,x=c/\c<bl.length:=λx hx=>by
   obtain⟨c,e,hc⟩:=hH.sound x hx;exact⟨c,e,hc.lt cW⟩
  have abc:=vR hH.nodup Tm;refine aU ?_;refine aN (λh2=>?_) (λh2=>?_)
  ·have jE:j<vn:=by simpa using h2
   obtain⟨y,hy⟩:∃y,fs[j]?=some y:=⟨_,aB ag⟩;obtain⟨d,rfl,hdn,hdf⟩:=C6 y (aA hy);obtain⟨_,Vg,rfl,_⟩:=GA j _ hy;have afp:bY va vb vo:=⟨nz (aW hy)⟩;have IH:bZ j vn:=⟨jE⟩;have hcv:a_ w0 vb (vo+j*1) [.int .i64 (d:Int)]:=⟨Vg⟩;have Cv:fs.take (j+1)=fs.take j++[(d:Int)]:=by rw[cj,hy];rfl
   refine aO ?_;refine bI rfl (λw hw=>Ao _ sO d w (hw.nC (k:=0) rfl rfl ag λi x hx=>⟨[.int .i64 x],λj v hj=>by
    match j,hj with
    |0,hj=>simpa[hx]using hj,rfl,by
     obtain⟨e,rfl,he⟩:=Tm x (aA hx);simp only[c9];omega⟩) ⟨_,_,_,rfl⟩) ?_
   generalize Zd:decide ((d:Int)∈sO)=d1;cases d1
   ·have qu:(d:Int)∉sO:=by simpa using Zd
    have LU:=hH.add hdf qu;have agt:sO.length+1<=bl.length:=by
     have:=vR (n:=bl.length) LU.nodup λx hx=>by
      obtain⟨c,e,hc⟩:=LU.sound x hx;exact⟨c,e,hc.lt cW⟩
     rwa[bR,jL]at this
    have hmul:(bl.length-(sO.length+1))*(bl.length+1)+(bl.length+1)=(bl.length-sO.length)*(bl.length+1):=by
     rw[<-Nat.succ_mul,show(bl.length-(sO.length+1)).succ=bl.length-sO.length by omega]
    repeat(first|refine aO ?_|refine dX λ_ _=>?_)
    rename_i bt _;refine mq rfl rfl ag ag λa1 c1=>?_
    repeat(first|refine aO ?_|refine dX λ_ _=>?_)
    rename_i bt2 _;refine mq rfl rfl ag ag λa2 c2=>?_;refine q7 [2,3] (by decide) ?_;refine fg (H1:=[ai a1 (sO++[(d:Int)]).length c1 3 1 ((sO++[(d:Int)]).map (.int .i64)),ai a2 ((R++[(d:Int)]).length+1) c2 3 1 (((c:Int)::(R++[(d:Int)])).map (.int .i64))]) aH ?_;refine aO ?_;have kq:(sO++[(d:Int)]).length=sO.length+1:=by simp
    have Kd:(R++[(d:Int)]).length=R.length+1:=by simp
    refine jp (L':=[(23,.int .i64 ((j:Int)+1)),(6,.slice a2 ((R++[(d:Int)]).length+1) c2),(5,.slice a1 (sO++[(d:Int)]).length c1),(0,.slice fa bl.length fc),(21,.slice va vn vc),(22,.int .i64 vn)]) (by rw[kq,Kd];exact aw) (.refl _) ?_;exact bC (j+1,R++[(d:Int)],(a2,c2),sO++[(d:Int)],(a1,c1)) ⟨jE,by simp only[Cv];exact LU,by simp only[kq,Kd];omega,by simp only[kq,Kd];omega⟩ (by simp only;omega) aw ag2
   ·have Mj:(d:Int)∈sO:=by simpa using Zd
    refine aO ?_;exact bC (j+1,R,(ra2,rc2),sO,(oa2,oc2)) ⟨jE,by simp only[Cv];exact hH.pass Mj,hRl,Pj⟩ (by simp only;omega) aw ag2
  ·have gT:j=vn:=by have:=h2;simp at this;omega
   rw[gT,E7,cO]at hH;refine aI ?_;refine Wx rfl ag λa2=>?_;refine aO ?_;exact bC (R,(a2,rc2-1),sO,(oa2,oc2)) ⟨hH.row λx hx=>(O0 x).2 hx,by simp only;omega⟩ (by simp only[ie];omega) aw ag2
 ·have hr0:row=[]:=by
   cases row with
   |nil=>rfl
   |cons z rest=>simp at h1
  subst hr0;have hsm:lj out=vi bl bs:=by
   unfold vi;refine CC hM.nodup λx=>?_;rw[hM.mem];exact⟨λ⟨c,e,h⟩=>⟨c,e,h.lt cW,by simpa using h⟩,λ⟨c,e,_,h⟩=>⟨c,e,by simpa using h⟩⟩
  have pG:=BP out;refine aI ?_;refine fH (H1:=[ai oa out.length oc 3 1 (out.map (.int .i64))]) (H2:=[ai ra1 ([]:List Int).length rc1 3 1 (([]:List Int).map (.int .i64))]) (val:=λ_:Unit=>.tuple #[]) (E:=λ_=>[ai oa out.length oc 3 1 ((lj out).map (.int .i64))]) (φ:=λ_=>True) rfl (λw hw=>YP oa oc out ag w hw.pre) λ_ _=>?_;rw[hsm]at pG⊢;rw[<-pG];refine aO ?_;exact cA rfl λw hw=>⟨(oa,oc),rfl,hw.sub (dn ou),trivial⟩
theorem Ii{f:FuncId}{args:List Value}{w0:World}{bl:List ar}(hlen:bl.length<=100)(h:gV Tryz.prog f args w0 λu w'=>∃x:Nat×List Row,u=.slice (some ⟨x.1,0,none⟩) bl.length bl.length/\Wd dh w0 (ai (some ⟨x.1,0,none⟩) bl.length bl.length 42 1 (x.2.map eO)::x.2.map gy) w'/\x.2.map (·.l)=gG bl):
  V9 Tryz.prog f args w0 1 (gG bl) cS λv=>v:=
 Un h λx hx=>⟨some ⟨x.1,0,none⟩,bl.length,by rw[vx],λw2 hw=>by
  have hl:x.2.length=bl.length:=by have:=congrArg List.length hx;rwa[aG,vx]at this
  rw[<-hx,aG];rw[<-hl]at hw⊢;exact Rl (H:=[]) (by rw[cq];exact hw) ag λr hr=>Ou hlen (hx▸aX.2 ⟨r,hr,rfl⟩)⟩
end
end Go.Proofs.YthfhgolkafpmnaaGreatDoor
