/- Texts joined: SngP SngQ SngR SngS SngW SngT SngX SngV SngY. -/
import Derived.Test.YthfhgolkafpmnaaGreatDoorIA
import Derived.Test.YthfhgolkafpmnaaGreatDoorIF
import Derived.Test.YthfhgolkafpmnaaGreatDoorKB
namespace Go.Proofs.YthfhgolkafpmnaaGreatDoor
section
open Go Go.RowKit
def j_(B:ar)(r:Int):Bool:=B.aL.any λp=>decide (p.dst=r)
def oB(B:ar)(r:Int):Bool:=B.list.any (λx=>decide (x.dst=r))||j_ B r
def qQ(bl:List ar)(r:Nat):List Int:=(0:Int)::((List.range bl.length).filter λb=>decide (1<=b)&&oB (a8 bl b) r).map λx:Nat=>(x:Int)
def ev(bl:List ar)(b r:Nat):Prop:=lT bl (qQ bl r) b/\j_ (a8 bl b) r=false/\gM bl r b (-1)
def gS(bl:List ar)(b r:Nat):eC:=⟨r,List.replicate (bf bl b).length ⟨true,r⟩⟩
open Classical in
noncomputable def di(bl:List ar)(m b:Nat):List eC:=((List.range m).filter λr=>decide (ev bl b r)).map (gS bl b)
noncomputable def de(bl:List ar)(m:Nat):List ar:=bl.mapIdx λb B=>{B with aL:=B.aL++di bl m b}
theorem ED(bl:List ar)(b:Nat):di bl 0 b=[]:=rfl
theorem EC(bl:List ar)(m b:Nat)[d:Decidable (ev bl b m)]:di bl (m+1) b=di bl m b++if ev bl b m then[gS bl b m]else[]:=by
 classical
 unfold di;rw[kA,nI,bB];congr 1
 by_cases h:ev bl b m
 ·rw[if_pos h];simp[h]
 ·rw[if_neg h];simp[h]
theorem EM(bl:List ar):de bl 0=bl:=by
 apply cf;intro i;unfold de;rw[cM];cases bl[i]? with
 |none=>rfl
 |some B=>simp[ED]
theorem eM(bl:List ar)(m:Nat):(de bl m).length=bl.length:=by simp[de]
theorem iq{bl:List ar}{m b:Nat}{B:ar}(h:bl[b]?=some B):(de bl m)[b]?=some {B with aL:=B.aL++di bl m b}:=by
 unfold de;rw[cM,h]
 rfl
theorem kJ(bl:List ar)(m b:Nat):dd (de bl m) b=dd bl b:=by
 unfold dd;cases h:bl[b]? with
 |none=>rw[bM (by rw[eM];exact kg.1 h)]
 |some B=>rw[iq h]
theorem jh{bl:List ar}{m b:Nat}{p:eC}(h:p∈di bl m b):∃r,r<m/\ev bl b r/\p=gS bl b r:=by
 classical
 unfold di at h;obtain⟨r,hr,rfl⟩:=aX.1 h;obtain⟨h1,h2⟩:=cI.1 hr;exact⟨r,cQ.1 h1,by simpa using h2,rfl⟩
def od(ps:List eC)(r:Int):Nat->Option Nat
 |0=>none
 |j+1=>if (ps[j]?.map (·.dst))=some r then some j else od ps r j
def mm(B:ar)(r:Int):Nat->Option Nat
 |0=>od B.aL r B.aL.length
 |i+1=>if (B.list[i]?.map (·.dst))=some r then some (B.aL.length+i)else mm B r i
def Site(B:ar)(k:Nat):Prop:=k<B.aL.length∨∃i x,k=B.aL.length+i/\B.list[i]?=some x/\0<=x.dst
theorem rA{ps:List eC}{r:Int}:∀{n k:Nat},od ps r n=some k->k<n/\∃p,ps[k]?=some p/\p.dst=r
 |0,k,h=>by cases h
 |n+1,k,h=>by
  unfold od at h
  split at h
  ·rename_i h1
   obtain rfl:=be h;obtain⟨p,h2,h3⟩:=cT.1 h1;exact⟨ag,p,h2,h3⟩
  ·obtain⟨h1,h2⟩:=rA h
   exact⟨ag,h2⟩
theorem vw{B:ar}{r:Int}(hr:0<=r):∀{i k:Nat},mm B r i=some k->Site B k
 |0,k,h=>.inl (rA h).1
 |i+1,k,h=>by
  unfold mm at h
  split at h
  ·rename_i h1
   obtain rfl:=be h;obtain⟨x,h2,h3⟩:=cT.1 h1;exact .inr ⟨i,x,rfl,h2,ag⟩
  ·exact vw hr h
noncomputable def Qy(ν:Nat->Nat->Int)(bl:List ar)(n:Nat):Nat->Nat->Nat->Int->cm
 |0,_,_,_=>gK
 |f+1,b,i,r=>match mm (a8 bl b) r i with
  |some k=>⟨true,ν b k⟩
  |none=>if cR bl b<0 then(if r<n then⟨true,r⟩else gK)else Qy ν bl n f (cR bl b).toNat (a8 bl (cR bl b).toNat).list.length r
noncomputable def D3(bl:List ar)(b:Nat):Nat:=(s8 bl b bl.length).length
theorem Ib{bl:List ar}(cW:cL bl)(h0:0<bl.length){b:Nat}(hb:gD bl (-1) 0 b)(hn:¬cR bl b<0):jX bl (cR bl b).toNat b/\D3 bl (cR bl b).toNat+1=D3 bl b:=by
 by_cases h:∃c,jX bl c b
 ·obtain⟨c,hc⟩:=h
  rw[gZ hc,dD];exact⟨hc,tm cW h0 hc⟩
 ·rw[fS λc hc=>h ⟨c,hc⟩]at hn
  exact absurd (by omega:(-1:Int)<0) hn
theorem jX.BC{bl:List ar}{c b:Nat}(h:jX bl c b):gD bl (-1) 0 c:=h.1.1
theorem nP{bl:List ar}(cW:cL bl)(h0:0<bl.length){b:Nat}(hb:gD bl (-1) 0 b):0<D3 bl b/\D3 bl b<=bl.length:=by
 constructor
 ·exact List.length_pos_of_mem (CR.2 ⟨cW.BC h0 hb,ku.refl hb⟩)
 ·unfold D3 s8
  exact dB (ja _ _) (by rw[fG];exact bH _)
theorem G0{ν:Nat->Nat->Int}{bl:List ar}{n:Nat}(cW:cL bl)(h0:0<bl.length):∀(f g b i:Nat) (r:Int),gD bl (-1) 0 b->D3 bl b<=f->D3 bl b<=g->Qy ν bl n f b i r=Qy ν bl n g b i r
 |0,g,b,i,r,hb,hf,_=>by have:=(nP cW h0 hb).1;omega
 |f+1,0,b,i,r,hb,_,hg=>by have:=(nP cW h0 hb).1;omega
 |f+1,g+1,b,i,r,hb,hf,hg=>by
  unfold Qy
  split
  ·rfl
  ·split
   ·rfl
   ·rename_i hn
    obtain⟨h1,h2⟩:=Ib cW h0 hb hn;exact G0 cW h0 f g _ _ r h1.BC ag ag
noncomputable def nm(ν:Nat->Nat->Int)(bl:List ar)(n b i:Nat)(r:Int):cm:=Qy ν bl n bl.length b i r
theorem abZ{ν:Nat->Nat->Int}{bl:List ar}{n:Nat}(cW:cL bl)(h0:0<bl.length){b i:Nat}{r:Int}(hb:gD bl (-1) 0 b):
  nm ν bl n b i r=match mm (a8 bl b) r i with
   |some k=>⟨true,ν b k⟩
   |none=>if cR bl b<0 then(if r<n then⟨true,r⟩else gK)else nm ν bl n (cR bl b).toNat (a8 bl (cR bl b).toNat).list.length r:=by
 have hp:=nP cW h0 hb;have h1:nm ν bl n b i r=Qy ν bl n (bl.length+1) b i r:=G0 cW h0 _ _ b i r hb hp.2 ag;rw[h1]
 rfl
noncomputable def o6(ν:Nat->Nat->Int)(bl:List ar)(n b i:Nat)(v:cm):cm:=if v.bD then nm ν bl n b i v.n else v
noncomputable def rH(ν:Nat->Nat->Int)(bl:List ar)(n b k:Nat)(x:en):en:={x with a:=o6 ν bl n b k x.a,b:=o6 ν bl n b k x.b,args:=x.args.map (o6 ν bl n b k),dst:=if 0<=x.dst then ν b ((a8 bl b).aL.length+k)else x.dst}
def Zu(bl:List ar)(b j:Nat):Nat:=(bf bl b)[j]?.getD 0
noncomputable def yw(ν:Nat->Nat->Int)(bl:List ar)(n b j:Nat)(v:cm):cm:=o6 ν bl n (Zu bl b j) (a8 bl (Zu bl b j)).list.length v
noncomputable def yv(ν:Nat->Nat->Int)(bl:List ar)(n b i:Nat)(p:eC):eC:=⟨ν b i,p.src.mapIdx (yw ν bl n b)⟩
noncomputable def CA(ν:Nat->Nat->Int)(bl:List ar)(n b:Nat)(B:ar):ar:={B with aL:=B.aL.mapIdx (yv ν bl n b),list:=B.list.mapIdx (rH ν bl n b),on:=o6 ν bl n b B.list.length B.on}
noncomputable def pS(ν:Nat->Nat->Int)(bl:List ar)(n:Nat):List ar:=bl.mapIdx (CA ν bl n)
theorem jB(ν:Nat->Nat->Int)(bl:List ar)(n:Nat):(pS ν bl n).length=bl.length:=by simp[pS]
theorem pT{ν:Nat->Nat->Int}{bl:List ar}{n b:Nat}{B:ar}(h:bl[b]?=some B):(pS ν bl n)[b]?=some (CA ν bl n b B):=by
 unfold pS;rw[cM,h]
 rfl
def xG(D:Int->Prop)(v:cm):Prop:=v.bD=true->D v.n
structure Sl(D:Int->Prop)(x:en):Prop where
 a:xG D x.a
 b:xG D x.b
 args:∀v∈x.args,xG D v
 dst:0<=x.dst->D x.dst
structure zm(D:Int->Prop)(B:ar):Prop where
 aL:∀p∈B.aL,D p.dst/\∀v∈p.src,xG D v
 list:∀x∈B.list,Sl D x
 on:xG D B.on
def mY(o:List Nat)(s:Nat->Nat)(b:Nat):Nat:=((o.takeWhile λc=>decide (c≠b)).map s).sum
def num(o:List Nat)(s:Nat->Nat)(ρ:Nat->Nat->Nat)(n:Nat)(b k:Nat):Int:=((n+mY o s b+ρ b k:Nat):Int)
theorem DC(s:Nat->Nat){b c:Nat}(eH:b≠c):∀{o:List Nat},b∈o->c∈o->mY o s b+s b<=mY o s c∨mY o s c+s c<=mY o s b
 |[],hb,_=>by cases hb
 |x::o,hb,hc=>by
  unfold mY
  by_cases e1:x=b
  ·subst e1
   left
   rw[List.takeWhile_cons_of_neg aH,pu (by simp;exact eH),bO,et];simp
  ·by_cases e2:x=c
   ·subst e2
    right
    rw[List.takeWhile_cons_of_neg aH,pu (by simp;exact λh=>eH h.symm),bO,et];simp
   ·have wi:b∈o:=by rcases bJ.1 hb with h|h;exact absurd h.symm e1;exact h
    have Gd:c∈o:=by rcases bJ.1 hc with h|h;exact absurd h.symm e2;exact h
    have ih:=DC s eH wi Gd;unfold mY at ih;rw[pu (by simp;exact e1),pu (by simp;exact e2),bO,et,bO,et];omega
structure UU(bl:List ar)(o:List Nat)(s:Nat->Nat)(ρ:Nat->Nat->Nat):Prop where
 all:∀b,b<bl.length->b∈o
 lt:∀b B k,bl[b]?=some B->Site B k->ρ b k<s b
 inj:∀b B k k',bl[b]?=some B->Site B k->Site B k'->ρ b k=ρ b k'->k=k'
theorem Ua{bl:List ar}{o:List Nat}{s:Nat->Nat}{ρ:Nat->Nat->Nat}{n:Nat}(h:UU bl o s ρ){b c k k':Nat}{B C:ar}(hB:bl[b]?=some B)(hC:bl[c]?=some C)(hk:Site B k)(Vs:Site C k')(e:num o s ρ n b k=num o s ρ n c k'):b=c/\k=k':=by
 have h1:=h.lt b B k hB hk;have h2:=h.lt c C k' hC Vs;unfold num at e
 by_cases eH:b=c
 ·subst eH
  rw[hB]at hC;obtain rfl:=be hC;exact⟨rfl,h.inj b B k k' hB hk Vs ag⟩
 ·have:=DC s eH (h.all b (aC.1 hB).1) (h.all c (aC.1 hC).1)
  omega
def Y0(ν:Nat->Nat->Int)(bl:List ar)(n:Nat)(x:Int):Prop:=(0<=x/\x<n)∨∃b B k,bl[b]?=some B/\Site B k/\ν b k=x
theorem YB(o:List Nat)(s:Nat->Nat)(ρ:Nat->Nat->Nat)(n b k:Nat):(n:Int)<=num o s ρ n b k:=by unfold num;omega
theorem KF{ν:Nat->Nat->Int}{bl:List ar}{n:Nat}{r:Int}(hr:0<=r):∀(g b i:Nat),xG (Y0 ν bl n) (Qy ν bl n g b i r)
 |0,b,i=>λh=>by cases h
 |g+1,b,i=>by
  unfold Qy;cases hd:mm (a8 bl b) r i with
  |some k=>
   simp only;have hs:=vw hr hd;cases hB:bl[b]? with
   |none=>
    unfold a8 at hs;rw[hB]at hs;simp only[Option.getD_none]at hs;rcases hs with h1|⟨i,x,_,h1,_⟩
    ·simp[sP]at h1
    ·simp[sP]at h1
   |some B=>
    have Ve:a8 bl b=B:=by unfold a8;rw[hB];rfl
    rw[Ve]at hs;exact λ_=>.inr ⟨b,B,k,hB,hs,rfl⟩
  |none=>
   simp only
   split
   ·split
    ·rename_i h1
     exact λ_=>.inl ⟨hr,h1⟩
    ·exact λh=>by cases h
   ·exact KF hr g _ _
theorem sk{ν:Nat->Nat->Int}{bl:List ar}{n b i:Nat}{v:cm}(hv:xG (λr=>0<=r) v):xG (Y0 ν bl n) (o6 ν bl n b i v):=by
 unfold o6
 by_cases h:v.bD=true
 ·rw[if_pos h]
  exact KF (hv h) _ _ _
 ·rw[if_neg h]
  exact λh2=>absurd h2 h
theorem vO{α β γ:Type}(f:Nat->α->β)(g:β->γ)(l:List α):(l.mapIdx f).map g=l.mapIdx λi x=>g (f i x):=by
 apply cf;intro i;rw[aK,cM,cM,Option.map_map]
 rfl
theorem lP{α β:Type}{f g:Nat->α->β}{l:List α}(h:∀i x,l[i]?=some x->f i x=g i x):l.mapIdx f=l.mapIdx g:=by
 apply cf;intro i;rw[cM,cM];cases hx:l[i]? with
 |none=>rfl
 |some x=>rw[bz,bz,h i x hx]
theorem Hh{ν:Nat->Nat->Int}{bl:List ar}{n:Nat}(hr:∀B∈bl,zm (λr=>0<=r) B):∀C∈pS ν bl n,zm (Y0 ν bl n) C:=λC hC=>by
 obtain⟨b,hb⟩:=br hC;unfold pS at hb;rw[cM]at hb;obtain⟨B,hB,rfl⟩:=cT.1 hb;have hR:=hr B (aA hB);have Ve:a8 bl b=B:=by unfold a8;rw[hB];rfl
 refine⟨λq hq=>?_,λy hy=>?_,sk hR.on⟩
 ·unfold CA at hq
  simp only at hq;obtain⟨i,hi⟩:=br hq;rw[cM]at hi;obtain⟨p,hp,rfl⟩:=cT.1 hi;refine⟨.inr ⟨b,B,i,hB,.inl (aC.1 hp).1,rfl⟩,λv hv=>?_⟩;unfold yv at hv;simp only at hv;obtain⟨j,hj⟩:=br hv;rw[cM]at hj;obtain⟨u,hu,rfl⟩:=cT.1 hj;exact sk ((hR.aL p (aA hp)).2 u (aA hu))
 ·unfold CA at hy
  simp only at hy;obtain⟨k,hk⟩:=br hy;rw[cM]at hk;obtain⟨x,hx,rfl⟩:=cT.1 hk;have hI:=hR.list x (aA hx);refine⟨sk hI.a,sk hI.b,λv hv=>?_,λh0=>?_⟩
  ·unfold rH at hv
   simp only at hv;obtain⟨u,hu,rfl⟩:=aX.1 hv;exact sk (hI.args u hu)
  ·unfold rH at h0⊢
   simp only at h0⊢
   by_cases h1:0<=x.dst
   ·rw[if_pos h1,Ve]
    exact .inr ⟨b,B,_,hB,.inr ⟨k,x,rfl,hx,h1⟩,rfl⟩
   ·rw[if_neg h1]at h0
    exact absurd h0 h1
noncomputable def mB(bl:List ar)(b:Nat):List Nat:=(List.range bl.length).filter λc=>decide (cR bl c=(b:Int))
noncomputable def jG(bl:List ar):Nat->Nat->List Nat
 |0,_=>[]
 |f+1,b=>b::(mB bl b).flatMap (jG bl f)
theorem mA{bl:List ar}{b c:Nat}(h:c∈mB bl b):jX bl b c:=by
 unfold mB at h;have h2:cR bl c=(b:Int):=by simpa using(cI.1 h).2
 by_cases hc:∃d,jX bl d c
 ·obtain⟨d,hd⟩:=hc
  rw[gZ hd]at h2;have:d=b:=ag;subst this;exact hd
 ·rw[fS λd hd=>hc ⟨d,hd⟩]at h2
  omega
theorem PV{bl:List ar}(cW:cL bl)(h0:0<bl.length){b c:Nat}(h:jX bl b c):c∈mB bl b:=
 cI.2 ⟨cQ.2 (cW.BC h0 h.1.2.1),by rw[gZ h];simp⟩
theorem uA{bl:List ar}:∀{f b x:Nat},gD bl (-1) 0 b->x∈jG bl f b->ku bl b x
 |0,b,x,_,h=>by cases h
 |f+1,b,x,hb,h=>by
  unfold jG at h;rcases bJ.1 h with rfl|h
  ·exact ku.refl hb
  ·obtain⟨k,hk,hx⟩:=du.1 h
   have hi:=mA hk;exact hi.1.trans (uA hi.1.2.1 hx)
theorem KO{bl:List ar}(cW:cL bl)(h0:0<bl.length){y x:Nat}(hi:jX bl y x):∀{f b:Nat},y∈jG bl f b->x∈jG bl (f+1) b
 |0,b,h=>by cases h
 |f+1,b,h=>by
  unfold jG at h;unfold jG;rcases bJ.1 h with rfl|h
  ·refine cJ _ (du.2 ⟨x,PV cW h0 hi,?_⟩)
   unfold jG;exact rS
  ·obtain⟨k,hk,hy⟩:=du.1 h
   exact cJ _ (du.2 ⟨k,hk,KO cW h0 hi hy⟩)
theorem G6{bl:List ar}{x:Nat}:∀{f b:Nat},x∈jG bl f b->x∈jG bl (f+1) b
 |0,b,h=>by cases h
 |f+1,b,h=>by
  unfold jG at h;unfold jG;rcases bJ.1 h with rfl|h
  ·exact rS
  ·obtain⟨k,hk,hy⟩:=du.1 h
   exact cJ _ (du.2 ⟨k,hk,G6 hy⟩)
theorem YJ{bl:List ar}{x b f:Nat}(h:x∈jG bl f b):∀{g:Nat},f<=g->x∈jG bl g b:=λ{g} hg=>by
 obtain⟨d,rfl⟩:=Nat.exists_eq_add_of_le hg
 induction d with
 |zero=>exact h
 |succ d ih=>exact G6 (ih ag)
theorem KN{bl:List ar}(cW:cL bl)(h0:0<bl.length):∀(m x:Nat),D3 bl x<=m->gD bl (-1) 0 x->x∈jG bl (D3 bl x) 0
 |0,x,h,hx=>by have:=(nP cW h0 hx).1;omega
 |m+1,x,h,hx=>by
  by_cases e:x=0
  ·subst e
   have:=(nP cW h0 hx).1;obtain⟨d,hd⟩:∃d,D3 bl 0=d+1:=⟨D3 bl 0-1,ag⟩;rw[hd];unfold jG;exact rS
  ·obtain⟨c,hc⟩:=uq cW h0 hx e
   have h1:=tm cW h0 hc;have h2:D3 bl c+1=D3 bl x:=h1;rw[<-h2];exact KO cW h0 hc (KN cW h0 m c ag hc.BC)
noncomputable def qM(bl:List ar):List Nat:=jG bl bl.length 0
theorem KL{bl:List ar}(cW:cL bl)(h0:0<bl.length){x:Nat}(hx:gD bl (-1) 0 x):x∈qM bl:=
 YJ (KN cW h0 _ x (bH _) hx) (nP cW h0 hx).2
theorem Ax{α β:Type}{f:α->List β}:∀{l:List α},l.Nodup->(∀x∈l,(f x).Nodup)->(∀x∈l,∀y∈l,x≠y->∀z,z∈f x->z∉f y)->(l.flatMap f).Nodup
 |[],_,_,_=>List.nodup_nil
 |x::l,hn,hf,hd=>by
  rw[gx];obtain⟨h1,h2⟩:=mh.1 hn;refine nN.2 ⟨hf x aH,Ax h2 (λy hy=>hf y (cJ _ hy)) λy hy z hz=>hd y (cJ _ hy) z (cJ _ hz),λa ha b hb e=>?_⟩;subst e;obtain⟨y,hy,hb⟩:=du.1 hb;exact hd x aH y (cJ _ hy) (λe=>h1 (e▸hy)) a ha hb
theorem I2(bl:List ar)(b:Nat):(mB bl b).Nodup:=List.nodup_range.filter _
theorem I1{bl:List ar}{b k l x:Nat}(hk:jX bl b k)(hl:jX bl b l)(eH:k≠l)(h1:ku bl k x):¬ku bl l x:=λh2=>by
 have key:∀{k l:Nat},jX bl b k->jX bl b l->k≠l->ku bl k l->False:=λhk hl eH h=>by
  have h3:=hl.2.2 _ h eH;exact hk.2.1 (hk.1.antisymm h3)
 rcases h1.chain h2 with h|h
 ·exact key hk hl eH h
 ·exact key hl hk (Ne.symm eH) h
theorem uB{bl:List ar}:∀{f b:Nat},gD bl (-1) 0 b->(jG bl f b).Nodup
 |0,b,_=>List.nodup_nil
 |f+1,b,hb=>by
  unfold jG;refine mh.2 ⟨λh=>?_,Ax (I2 bl b) (λk hk=>uB (mA hk).1.2.1) λk hk l hl eH x hx hy=>?_⟩
  ·obtain⟨k,hk,hx⟩:=du.1 h
   have hi:=mA hk;exact hi.2.1 (hi.1.antisymm (uA hi.1.2.1 hx))
  ·exact I1 (mA hk) (mA hl) eH (uA (mA hk).1.2.1 hx) (uA (mA hl).1.2.1 hy)
def CF(x:en):Bool:=decide (0<=x.dst)
def qF(B:ar):Nat:=B.aL.length+(B.list.filter CF).length
def KS(B:ar)(k:Nat):Nat:=if k<B.aL.length then k else B.aL.length+((B.list.take (k-B.aL.length)).filter CF).length
theorem uf{l:List en}{i:Nat}{x:en}(h:l[i]?=some x):((l.take (i+1)).filter CF).length=((l.take i).filter CF).length+if 0<=x.dst then 1 else 0:=by
 rw[cj,h,lr,nI,bR];congr 1
 by_cases h0:0<=x.dst<;>simp[CF,h0]
theorem JW(l:List en){i j:Nat}(h:i<=j):((l.take i).filter CF).length<=((l.take j).filter CF).length:=by
 have e:l.take i=(l.take j).take i:=by rw[List.take_take,iA h]
 rw[e];exact((List.take_sublist i (l.take j)).filter CF).length_le
theorem FJ(l:List en)(i:Nat):((l.take i).filter CF).length<=(l.filter CF).length:=((List.take_sublist i l).filter CF).length_le
noncomputable def qf(bl:List ar)(n:Nat):Nat->Nat->Int:=num (qM bl) (λb=>qF (a8 bl b)) (λb k=>KS (a8 bl b) k) n
theorem eD{bl:List ar}{b:Nat}{B:ar}(h:bl[b]?=some B):a8 bl b=B:=by unfold a8;rw[h];rfl
theorem YA{bl:List ar}(cW:cL bl)(h0:0<bl.length)(hr:∀b,b<bl.length->gD bl (-1) 0 b):UU bl (qM bl) (λb=>qF (a8 bl b)) (λb k=>KS (a8 bl b) k):=
 ⟨λb hb=>KL cW h0 (hr b hb),λb B k hB hk=>by
  rw[eD hB];unfold KS qF;rcases hk with h|⟨i,x,rfl,hx,h0⟩
  ·rw[if_pos h];omega
  ·rw[if_neg ag,mf]
   have h1:=uf hx;rw[if_pos h0]at h1;have h2:=FJ B.list (i+1);omega,λb B k k' hB hk Vs e=>by
  rw[eD hB]at e;unfold KS at e;rcases hk with h|⟨i,x,rfl,hx,Dd⟩
  ·rcases Vs with h'|⟨j,y,rfl,hy,hy0⟩
   ·rw[if_pos h,if_pos h']at e;exact e
   ·rw[if_pos h,if_neg ag]at e;omega
  ·rcases Vs with h'|⟨j,y,rfl,hy,hy0⟩
   ·rw[if_neg ag,if_pos h']at e;omega
   ·rw[if_neg ag,if_neg ag,mf,mf]at e
    have h1:=uf hx;have h2:=uf hy;rw[if_pos Dd]at h1;rw[if_pos hy0]at h2
    by_cases Pa:i=j
    ·rw[Pa]
    ·rcases Nat.lt_or_gt_of_ne Pa with h|h
     ·have:=JW B.list (show i+1<=j from h);omega
     ·have:=JW B.list (show j+1<=i from h);omega⟩
structure Mk where
 dst:Nat->Nat->Prop
 src:Nat->Nat->Nat->Prop
 ins:Nat->Nat->Prop
 on:Nat->Prop
section
variable (ν:Nat->Nat->Int) (bl:List ar) (n:Nat)
open Classical in
noncomputable def HJ(F:Mk)(c i:Nat)(p:eC):eC:=⟨if F.dst c i then ν c i else p.dst,p.src.mapIdx λj v=>if F.src c i j then yw ν bl n c j v else v⟩
open Classical in
noncomputable def Sd(F:Mk)(c k:Nat)(x:en):en:=if F.ins c k then rH ν bl n c k x else x
open Classical in
noncomputable def pZ(F:Mk)(c:Nat)(B:ar):ar:={B with aL:=B.aL.mapIdx (HJ ν bl n F c),list:=B.list.mapIdx (Sd ν bl n F c),on:=if F.on c then o6 ν bl n c B.list.length B.on else B.on}
noncomputable def Cf(F:Mk):List ar:=bl.mapIdx (pZ ν bl n F)
end
section
variable {ν:Nat->Nat->Int} {bl:List ar} {n:Nat}
theorem xy(F:Mk):(Cf ν bl n F).length=bl.length:=by simp[Cf]
theorem xw{F:Mk}{b:Nat}{B:ar}(h:bl[b]?=some B):(Cf ν bl n F)[b]?=some (pZ ν bl n F b B):=by
 unfold Cf;rw[cM,h]
 rfl
theorem UL{F G:Mk}(hd:∀c i,F.dst c i↔G.dst c i)(hs:∀c i j,F.src c i j↔G.src c i j)(hi:∀c k,F.ins c k↔G.ins c k)(ho:∀c,F.on c↔G.on c):Cf ν bl n F=Cf ν bl n G:=by
 have e:F=G:=by
  obtain⟨a,b,c,d⟩:=F;obtain⟨a',b',c',d'⟩:=G;simp only at hd hs hi ho;have h1:a=a':=funext λx=>funext λy=>propext (hd x y);have h2:b=b':=funext λx=>funext λy=>funext λz=>propext (hs x y z);have h3:c=c':=funext λx=>funext λy=>propext (hi x y);have h4:d=d':=funext λx=>propext (ho x);rw[h1,h2,h3,h4]
 rw[e]
theorem RP{F:Mk}(hd:∀c i,¬F.dst c i)(hs:∀c i j,¬F.src c i j)(hi:∀c k,¬F.ins c k)(ho:∀c,¬F.on c):Cf ν bl n F=bl:=by
 classical
 have h1:∀c B,pZ ν bl n F c B=B:=λc B=>by
  have h2:B.aL.mapIdx (HJ ν bl n F c)=B.aL:=by
   apply cf;intro i;rw[cM];cases B.aL[i]? with
   |none=>rfl
   |some p=>
    rw[bz];unfold HJ;rw[if_neg (hd c i)];rw[show(p.src.mapIdx λj v=>if F.src c i j then yw ν bl n c j v else v)=p.src from by
     apply cf;intro j;rw[cM];cases p.src[j]? with
     |none=>rfl
     |some v=>rw[bz,if_neg (hs c i j)]]
  have h4:B.list.mapIdx (Sd ν bl n F c)=B.list:=by
   apply cf;intro i;rw[cM];cases B.list[i]? with
   |none=>rfl
   |some x=>
    rw[bz];unfold Sd;rw[if_neg (hi c i)]
  unfold pZ;rw[h2,h4,if_neg (ho c)]
 apply cf;intro b;unfold Cf;rw[cM];cases bl[b]? with
 |none=>rfl
 |some B=>rw[bz,h1]
theorem UK{F:Mk}(hd:∀c i B,bl[c]?=some B->i<B.aL.length->F.dst c i)(hs:∀c i j B p,bl[c]?=some B->B.aL[i]?=some p->j<p.src.length->F.src c i j)(hi:∀c k B,bl[c]?=some B->k<B.list.length->F.ins c k)(ho:∀c B,bl[c]?=some B->F.on c):Cf ν bl n F=pS ν bl n:=by
 unfold Cf pS;refine lP λc B hB=>?_;unfold pZ CA;rw[if_pos (ho c B hB)];have h1:B.aL.mapIdx (HJ ν bl n F c)=B.aL.mapIdx (yv ν bl n c):=lP λi p hp=>by
  unfold HJ yv;rw[if_pos (hd c i B hB (aC.1 hp).1)];congr 1;exact lP λj v hv=>if_pos (hs c i j B p hB hp (aC.1 hv).1)
 have h2:B.list.mapIdx (Sd ν bl n F c)=B.list.mapIdx (rH ν bl n c):=lP λk x hx=>by
  unfold Sd;rw[if_pos (hi c k B hB (aC.1 hx).1)]
 rw[h1,h2]
variable (ν bl n)in
noncomputable def zM(b:Nat)(r:Int):cm:=if cR bl b<0 then(if r<n then⟨true,r⟩else gK)else nm ν bl n (cR bl b).toNat (a8 bl (cR bl b).toNat).list.length r
variable (ν bl n)in
noncomputable def KG(b i:Nat)(r:Int):cm:=match od (a8 bl b).aL r i with
 |some k=>⟨true,ν b k⟩
 |none=>zM ν bl n b r
theorem yg(cW:cL bl)(h0:0<bl.length){b i:Nat}{r:Int}(hb:gD bl (-1) 0 b):nm ν bl n b i r=match mm (a8 bl b) r i with
  |some k=>⟨true,ν b k⟩
  |none=>zM ν bl n b r:=abZ cW h0 hb
theorem KH(cW:cL bl)(h0:0<bl.length){b:Nat}{r:Int}(hb:gD bl (-1) 0 b):nm ν bl n b 0 r=KG ν bl n b (a8 bl b).aL.length r:=yg cW h0 hb
theorem QB(b:Nat)(r:Int):KG ν bl n b 0 r=zM ν bl n b r:=rfl
theorem QA{b i:Nat}{p:eC}(hp:(a8 bl b).aL[i]?=some p)(r:Int):KG ν bl n b (i+1) r=if p.dst=r then⟨true,ν b i⟩else KG ν bl n b i r:=by
 unfold KG;have h:od (a8 bl b).aL r (i+1)=if p.dst=r then some i else od (a8 bl b).aL r i:=by
  rw[od,hp];simp only[bz,bW]
 rw[h]
 by_cases e:p.dst=r
 ·rw[if_pos e,if_pos e]
 ·rw[if_neg e,if_neg e]
theorem zX(cW:cL bl)(h0:0<bl.length){b i:Nat}(hb:gD bl (-1) 0 b){x:en}(hx:(a8 bl b).list[i]?=some x)(r:Int):nm ν bl n b (i+1) r=if x.dst=r then⟨true,ν b ((a8 bl b).aL.length+i)⟩else nm ν bl n b i r:=by
 rw[yg cW h0 hb,yg cW h0 hb];have h:mm (a8 bl b) r (i+1)=if x.dst=r then some ((a8 bl b).aL.length+i)else mm (a8 bl b) r i:=by
  rw[mm,hx];simp only[bz,bW]
 rw[h]
 by_cases e:x.dst=r
 ·rw[if_pos e,if_pos e]
 ·rw[if_neg e,if_neg e]
end
def dW(R:Nat)(f:Int->cm):List cm:=(List.range R).map λr:Nat=>f r
theorem gi(R:Nat)(f:Int->cm):(dW R f).length=R:=by simp[dW]
theorem tM{R:Nat}{f:Int->cm}{r:Nat}(h:r<R):(dW R f)[r]?=some (f r):=by unfold dW;rw[aK,eQ h];rfl
theorem Ha{R:Nat}{f g:Int->cm}{d:Nat}{v:cm}(h:∀r:Nat,r<R->g r=if (d:Int)=r then v else f r):(dW R f).set d v=dW R g:=by
 apply cf;intro r
 by_cases hr:r<R
 ·rw[tM hr,h r hr]
  by_cases e:d=r
  ·subst e
   rw[ey (by rw[gi];exact hr),if_pos rfl]
  ·rw[eR e,tM hr,if_neg ag]
 ·rw[bM (by rw[eA,gi];omega),bM (by rw[gi];omega)]
theorem BH{R:Nat}{f g:Int->cm}(h:∀r:Nat,r<R->f r=g r):dW R f=dW R g:=by
 unfold dW;exact fw λr hr=>h r (cQ.1 hr)
section
variable {bl mK:List ar}
theorem vV(h:∀i,dd mK i=dd bl i){wo:Int}{b x:Nat}:gD mK wo b x↔gD bl wo b x:=by
 have key:∀{l l':List ar},(∀i,dd l' i=dd l i)->gD l wo b x->gD l' wo b x:=λ{l l'} h k=>by
  induction k with
  |refl=>exact .refl
  |step _ he hw ih=>exact ih.step (by unfold Edge at he⊢;rw[h];exact he) hw
 exact⟨key λi=>(h i).symm,key h⟩
theorem xd(hl:mK.length=bl.length)(h:∀i,dd mK i=dd bl i)(t:Nat):bf mK t=bf bl t:=by
 unfold bf;rw[hl];exact rO λi _=>by rw[h]
theorem r4(hl:mK.length=bl.length)(h:∀i,dd mK i=dd bl i)(hg:cL bl):cL mK:=λB hB=>by
 obtain⟨b,hb⟩:=br hB;have h1:=h b;rw[fR hb]at h1;have iR:b<bl.length:=by rw[<-hl];exact(aC.1 hb).1
 obtain⟨C,hC⟩:∃C,bl[b]?=some C:=⟨_,aB iR⟩;rw[fR hC]at h1;rw[h1,hl];exact hg C (aA hC)
end
theorem zf(bl:List ar)(m t:Nat):bf (de bl m) t=bf bl t:=xd (eM bl m) (kJ bl m) t
theorem oS{R:Nat}{bl:List ar}(hf:eX R bl){m:Nat}(hm:m<=R):eX R (de bl m):=by
 refine⟨r4 (eM bl m) (kJ bl m) hf.iM,λb C hC=>?_⟩;have iR:b<bl.length:=by rw[<-eM bl m];exact(aC.1 hC).1
 obtain⟨B,hB⟩:∃B,bl[b]?=some B:=⟨_,aB iR⟩;rw[iq hB]at hC;obtain rfl:=be hC;have ho:=hf.block b B hB;refine⟨λp hp=>?_,ho.list,ho.on,ho.to⟩;rw[zf];simp only at hp;rcases bL.1 hp with hp|hp
 ·exact ho.aL p hp
 ·obtain⟨r,hr,_,rfl⟩:=jh hp
  refine⟨⟨by simp[gS],by simp only[gS];omega⟩,by simp[gS],λv hv=>?_⟩;simp only[gS]at hv;rw[jI hv];exact λ_=>⟨by simp only;omega,by simp only;omega⟩
theorem xG.mono{D E:Int->Prop}(h:∀r,D r->E r){v:cm}(hv:xG D v):xG E v:=λk=>h _ (hv k)
theorem Sl.mono{D E:Int->Prop}(h:∀r,D r->E r){x:en}(hx:Sl D x):Sl E x:=⟨hx.a.mono h,hx.b.mono h,λv hv=>(hx.args v hv).mono h,λh0=>h _ (hx.dst h0)⟩
theorem zm.mono{D E:Int->Prop}(h:∀r,D r->E r){B:ar}(hB:zm D B):zm E B:=⟨λp hp=>⟨h _ (hB.aL p hp).1,λv hv=>((hB.aL p hp).2 v hv).mono h⟩,λx hx=>(hB.list x hx).mono h,hB.on.mono h⟩
def NT(R:Nat)(r:Int):Prop:=0<=r/\r<R
theorem MR{R:Nat}{bl:List ar}(h:∀B∈bl,zm (NT R) B){m:Nat}(hm:m<=R):∀B∈de bl m,zm (NT R) B:=λC hC=>by
 obtain⟨b,hb⟩:=br hC;have iR:b<bl.length:=by rw[<-eM bl m];exact(aC.1 hb).1
 obtain⟨B,hB⟩:∃B,bl[b]?=some B:=⟨_,aB iR⟩;rw[iq hB]at hb;obtain rfl:=be hb;have hR:=h B (aA hB);refine⟨λp hp=>?_,hR.list,hR.on⟩;simp only at hp;rcases bL.1 hp with hp|hp
 ·exact hR.aL p hp
 ·obtain⟨r,hr,_,rfl⟩:=jh hp
  refine⟨⟨by simp[gS],by simp only[gS];omega⟩,λv hv=>?_⟩;simp only[gS]at hv;rw[jI hv];exact λ_=>⟨by simp only;omega,by simp only;omega⟩
theorem N4{fs:List aZ}{X:aZ}{R:Nat}(hR:X.aF=R)(hf:eX R X.blocks)(h:qD fs X):∀B∈X.blocks,zm (NT R) B:=λB hB=>by
 obtain⟨b,hb⟩:=br hB;have ho:=hf.block b B hb;refine⟨λp hp=>⟨(ho.aL p hp).dst,λv hv=>(ho.aL p hp).tU v hv⟩,λx hx=>?_,ho.on⟩;have h0:=h.list b B hb x hx;have hI:=ho.list x hx;rw[hR]at h0;unfold dK at h0
 split at h0
 ·cases h0
 split at h0
 ·cases h0
 split at h0
 ·rename_i h3
  simp[h0]at h3
 split at h0
 ·rename_i h4;exact absurd h0 h4
 rename_i h4;have h4:=val_zero.1 (Decidable.not_not.1 h4)
 split at h0
 ·rename_i h5;exact absurd h0 h5
 rename_i h5;have h5:=val_zero.1 (Decidable.not_not.1 h5);refine⟨λhr=>by have:=h4 hr;exact⟨ag,ag⟩,λhr=>by have:=h5 hr;exact⟨ag,ag⟩,λv hv hr=>?_,λh6=>⟨h6,hI.dst h6⟩⟩;exact hI.tU v (by unfold mH;simp[hv]) hr
theorem yq{ps:List eC}{r:Int}(h:∀p∈ps,p.dst≠r):∀n,od ps r n=none
 |0=>rfl
 |n+1=>by
  unfold od;rw[if_neg,yq h n];intro e;obtain⟨p,hp,e2⟩:=cT.1 e;exact h p (aA hp) e2
theorem Ap{B:ar}{r:Int}(h:∀p∈B.aL,p.dst≠r)(h2:∀x∈B.list,x.dst≠r):∀i,mm B r i=none
 |0=>yq h _
 |i+1=>by
  unfold mm;rw[if_neg,Ap h h2 i];intro e;obtain⟨x,hx,e2⟩:=cT.1 e;exact h2 x (aA hx) e2
def uw(bl:List ar)(V:List Nat):Mk:=⟨λc _=>c∈V,λc _ j=>∃q,(bf bl c)[j]?=some q/\q∈V,λc _=>c∈V,λc=>c∈V⟩
def mQ(bl:List ar)(V:List Nat)(b:Nat)(D:List Int):Mk:=⟨λc _=>c∈V∨c=b,λc _ j=>∃q,(bf bl c)[j]?=some q/\(q∈V∨(q=b/\(c:Int)∈D)),λc _=>c∈V∨c=b,λc=>c∈V∨c=b⟩
section
variable {ν:Nat->Nat->Int} {bl:List ar} {n:Nat} {V:List Nat} {b:Nat}
theorem T1{B:ar}(hB:bl[b]?=some B):Cf ν bl n (mQ bl V b B.to)=Cf ν bl n (uw bl (V++[b])):=by
 refine UL (λc i=>by simp[mQ,uw]) (λc i j=>?_) (λc k=>by simp[mQ,uw]) (λc=>by simp[mQ,uw]);simp only[mQ,uw,bL,bU];constructor
 ·rintro⟨q,h1,h2|⟨h2,_⟩⟩
  ·exact⟨q,h1,.inl h2⟩
  ·exact⟨q,h1,.inr h2⟩
 ·rintro⟨q,h1,h2|h2⟩
  ·exact⟨q,h1,.inl h2⟩
  ·subst h2
   refine⟨q,h1,.inr ⟨rfl,?_⟩⟩;have h3:=aA h1;unfold bf at h3;have h4:=(cI.1 h3).2;rw[decide_eq_true_eq,fR hB]at h4;exact h4
theorem Lc{F G:Mk}{c:Nat}(hd:∀i,F.dst c i↔G.dst c i)(hs:∀i j,F.src c i j↔G.src c i j)(hi:∀k,F.ins c k↔G.ins c k)(ho:F.on c↔G.on c)(C:ar):pZ ν bl n F c C=pZ ν bl n G c C:=by
 classical
 unfold pZ;have h1:HJ ν bl n F c=HJ ν bl n G c:=by
  funext i p
  unfold HJ;have h2:(λj v=>if F.src c i j then yw ν bl n c j v else v)=λj v=>if G.src c i j then yw ν bl n c j v else v:=by
   funext j v
   by_cases h:F.src c i j
   ·rw[if_pos h,if_pos ((hs i j).1 h)]
   ·rw[if_neg h,if_neg λk=>h ((hs i j).2 k)]
  by_cases h:F.dst c i
  ·rw[if_pos h,if_pos ((hd i).1 h)]
   exact congrArg _ (congrArg (λf=>p.src.mapIdx f) h2)
  ·rw[if_neg h,if_neg λk=>h ((hd i).2 k)]
   exact congrArg _ (congrArg (λf=>p.src.mapIdx f) h2)
 have h3:Sd ν bl n F c=Sd ν bl n G c:=by
  funext k x
  unfold Sd
  by_cases h:F.ins c k
  ·rw[if_pos h,if_pos ((hi k).1 h)]
  ·rw[if_neg h,if_neg λk2=>h ((hi k).2 k2)]
 rw[h1,h3]
 by_cases h:F.on c
 ·rw[if_pos h,if_pos (ho.1 h)]
 ·rw[if_neg h,if_neg λk=>h (ho.2 k)]
theorem MF{c:Nat}(hc:c≠b)(C:ar):pZ ν bl n (mQ bl V b []) c C=pZ ν bl n (uw bl V) c C:=
 Lc (λi=>by simp[mQ,uw,hc]) (λi j=>by simp[mQ,uw]) (λk=>by simp[mQ,uw,hc]) (by simp[mQ,uw,hc]) C
theorem Qr{c t:Nat}{D:List Int}(hc:c≠t)(C:ar):pZ ν bl n (mQ bl V b (D++[(t:Int)])) c C=pZ ν bl n (mQ bl V b D) c C:=
 Lc (λi=>by simp[mQ]) (λi j=>by
  have h:((c:Int)∈D++[(t:Int)])↔(c:Int)∈D:=by rw[bL,bU];exact⟨λh=>h.resolve_right ag,.inl⟩
  simp only[mQ,h]) (λk=>by simp[mQ]) (by simp[mQ]) C
theorem KD(hb:b∉V)(B:ar):(pZ ν bl n (uw bl V) b B).list=B.list/\(pZ ν bl n (uw bl V) b B).on=B.on/\(pZ ν bl n (uw bl V) b B).to=B.to/\(pZ ν bl n (uw bl V) b B).kind=B.kind/\∀(i:Nat) (p:eC),B.aL[i]?=some p->∃q:eC,(pZ ν bl n (uw bl V) b B).aL[i]?=some q/\q.dst=p.dst:=by
 classical
 refine⟨?_,?_,rfl,rfl,λi p hp=>?_⟩
 ·show B.list.mapIdx _=_
  apply cf;intro i;rw[cM];cases B.list[i]? with
  |none=>rfl
  |some x=>
   rw[bz];unfold Sd;rw[if_neg (show¬(uw bl V).ins b i from hb)]
 ·show(if (uw bl V).on b then _ else _)=_
  rw[if_neg (show¬(uw bl V).on b from hb)]
 ·refine⟨HJ ν bl n (uw bl V) b i p,?_,?_⟩
  ·show(B.aL.mapIdx _)[i]?=_
   rw[cM,hp]
   rfl
  ·unfold HJ
   rw[if_neg (show¬(uw bl V).dst b i from hb)]
theorem Qs(B:ar):(pZ ν bl n (mQ bl V b []) b B).list=B.list.mapIdx (rH ν bl n b)/\(pZ ν bl n (mQ bl V b []) b B).on=o6 ν bl n b B.list.length B.on:=by
 classical
 constructor
 ·show B.list.mapIdx _=_
  refine lP λi x _=>?_;unfold Sd;rw[if_pos (show(mQ bl V b []).ins b i from .inr rfl)]
 ·show(if (mQ bl V b []).on b then _ else _)=_
  rw[if_pos (show(mQ bl V b []).on b from .inr rfl)]
theorem T4{B:ar}{i:Nat}{q:eC}(hq:(pZ ν bl n (uw bl V) b B).aL[i]?=some q):(pZ ν bl n (mQ bl V b []) b B).aL[i]?=some ⟨ν b i,q.src⟩:=by
 classical
 have Ct:(B.aL.mapIdx (HJ ν bl n (uw bl V) b))[i]?=some q:=hq;show(B.aL.mapIdx (HJ ν bl n (mQ bl V b []) b))[i]?=_;rw[cM]at Ct⊢;cases hp:B.aL[i]? with
 |none=>rw[hp]at Ct;cases Ct
 |some p=>
  rw[hp]at Ct;have XT:=be Ct;rw[bz,<-XT];unfold HJ;rw[if_pos (show(mQ bl V b []).dst b i from .inr rfl)];congr 2;refine lP λj v _=>?_;have h:(mQ bl V b []).src b i j↔(uw bl V).src b i j:=by simp[mQ,uw]
  by_cases hs:(uw bl V).src b i j
  ·rw[if_pos (h.2 hs),if_pos hs]
  ·rw[if_neg λk=>hs (h.1 k),if_neg hs]
theorem GV{t K i:Nat}{T:ar}{D:List Int}{p q:eC}(hT:T.aL[i]?=some p)(hb:b∉V)(ht:(t:Int)∉D)(hK:(bf bl t)[K]?=some b)(oh:∀j,(bf bl t)[j]?=some b->j=K)(hq:(pZ ν bl n (mQ bl V b D) t T).aL[i]?=some q)(hl:K<p.src.length):
  ∃v,p.src[K]?=some v/\q.src[K]?=some v/\q.src.length=p.src.length/\(pZ ν bl n (mQ bl V b (D++[(t:Int)])) t T).aL[i]?=some ⟨q.dst,q.src.set K (yw ν bl n t K v)⟩:=by
 classical
 have hv:p.src[K]?=some (p.src[K]'hl):=aB hl;generalize p.src[K]'hl=v at hv;have Ct:(T.aL.mapIdx (HJ ν bl n (mQ bl V b D) t))[i]?=some q:=hq;rw[cM,hT,bz]at Ct;have XT:=be Ct;have qu:¬(mQ bl V b D).src t i K:=by
  rintro⟨c,h1,h2|⟨_,h2⟩⟩
  ·rw[hK]at h1
   obtain rfl:=be h1;exact hb h2
  ·exact ht h2
 have Tu:q.src=p.src.mapIdx λj v=>if (mQ bl V b D).src t i j then yw ν bl n t j v else v:=by rw[<-XT];rfl
 refine⟨v,hv,?_,?_,?_⟩
 ·rw[Tu,cM,hv,bz,if_neg qu]
 ·rw[Tu,kh]
 ·show(T.aL.mapIdx (HJ ν bl n (mQ bl V b (D++[(t:Int)])) t))[i]?=_
  rw[cM,hT,bz];have hd:(if (mQ bl V b (D++[(t:Int)])).dst t i then ν t i else p.dst)=q.dst:=by rw[<-XT];rfl
  have r5:(p.src.mapIdx λj v=>if (mQ bl V b (D++[(t:Int)])).src t i j then yw ν bl n t j v else v)=q.src.set K (yw ν bl n t K v):=by
   apply cf;intro j;rw[cM,Tu]
   by_cases e:K=j
   ·subst e
    rw[ey (by rw[kh];exact hl),hv,bz,if_pos (show(mQ bl V b (D++[(t:Int)])).src t i K from⟨b,hK,.inr ⟨rfl,by simp⟩⟩)]
   ·rw[eR e,cM]
    cases hj:p.src[j]? with
    |none=>rfl
    |some u=>
     rw[bz,bz];have h:(mQ bl V b (D++[(t:Int)])).src t i j↔(mQ bl V b D).src t i j:=by
      constructor
      ·rintro⟨c,h1,h2|⟨h2,_⟩⟩
       ·exact⟨c,h1,.inl h2⟩
       ·subst h2
        exact absurd (oh j h1).symm e
      ·rintro⟨c,h1,h2|⟨h2,h3⟩⟩
       ·exact⟨c,h1,.inl h2⟩
       ·exact⟨c,h1,.inr ⟨h2,cC _ h3⟩⟩
     by_cases hs:(mQ bl V b D).src t i j
     ·rw[if_pos hs,if_pos (h.2 hs)]
     ·rw[if_neg hs,if_neg λk=>hs (h.1 k)]
  unfold HJ;rw[hd,r5]
end
noncomputable def fJ(X:aZ):List ar:=de X.blocks X.aF.toNat
structure SgF(X Y:aZ)(ν:Nat->Nat->Int):Prop where
 blocks:Y.blocks=pS ν (fJ X) X.params.toNat
 inj:∀b c k k' B C,(fJ X)[b]?=some B->(fJ X)[c]?=some C->Site B k->Site C k'->ν b k=ν c k'->b=c/\k=k'
 ge:∀b k,X.params<=ν b k
 lt:∀b B k,(fJ X)[b]?=some B->Site B k->ν b k<Y.aF
 par:0<=X.params/\X.params<=Y.aF
 reach:∀b,b<X.blocks.length->gD X.blocks (-1) 0 b
 pos:qh X.blocks
theorem CY{bl:List ar}(h:qh bl){a:Nat}:¬gP bl a 0:=λ⟨p,_,he,_⟩=>by
 have:=h p (0:Nat) he;omega
theorem Dp{bl:List ar}(h:qh bl){bs:List Int}:¬lT bl bs 0:=λhm=>by
 cases hm with
 |base _ hf=>exact CY h hf
 |step _ hf=>exact CY h hf
theorem w7{bl:List ar}{m b:Nat}(h:∀r,r<m->¬ev bl b r):di bl m b=[]:=by
 cases e:di bl m b with
 |nil=>rfl
 |cons p l=>
  obtain⟨r,hr,hn,_⟩:=jh (show p∈di bl m b by rw[e];simp);exact absurd hn (h r hr)
theorem BV{bl:List ar}:cR bl 0=-1:=fS λc h=>h.2.1 (s9 h.1)
end
end Go.Proofs.YthfhgolkafpmnaaGreatDoor
