/- Texts joined: SsaP OneN OneU OneY OneZ. -/
import Derived.Test.YthfhgolkafpmnaaGreatDoorMJ
namespace Go.Proofs.YthfhgolkafpmnaaGreatDoor
open Option renaming some->Z,none->A
open Go Go.RowKit
section
structure Wr where
 z:Int
 block:Nat
 at':Int
def Br(i:Nat)(l:List ep):List Wr:=l.map λp=>⟨p.dst,i,-1⟩
def nB(i:Nat)(l:List dJ)(j:Nat):List Wr:=match l with
 |[]=>[]
 |x::l=>(if x.dst<0 then[]else[⟨x.dst,i,j⟩])++nB i l (j+1)
def su(i:Nat)(B:E):List Wr:=Br i B.aD++nB i B.list 0
def iE(l:List E)(i:Nat):List Wr:=match l with
 |[]=>[]
 |B::l=>su i B++iE l (i+1)
def qI(n:Nat):List Wr:=(List.range n).map λr:Nat=>⟨r,0,-1⟩
def u9(n:Nat)(bl:List E):List Wr:=qI n++iE bl 0
theorem G6(i:Nat)(l m:List dJ):∀j,nB i (l++m) j=nB i l j++nB i m (j+l.length):=by
 induction l with
 |nil=>intro j;rfl
 |cons x l ih=>intro j;simp only[aW,nB,ih,dz,gk];rw[Nat.add_right_comm j 1,dI]
theorem Cr(l m:List E):∀i,iE (l++m) i=iE l i++iE m (i+l.length):=by
 induction l with
 |nil=>intro j;rfl
 |cons x l ih=>intro j;simp only[aW,iE,ih,dz,gk];rw[Nat.add_right_comm j 1,dI]
theorem D7{α:Type}{l:List α}{i:Nat}{x:α}(h:l[i]?=Z x):l.take (i+1)=l.take i++[x]:=by rw[cz,h];rfl
theorem L4{i:Nat}{l:List dJ}{j:Nat}{x:dJ}(h:l[j]?=Z x):nB i (l.take (j+1)) 0=nB i (l.take j) 0++(if x.dst<0 then[]else[⟨x.dst,i,j⟩]):=by
 have hj:j<l.length:=(az.1 h).1;rw[D7 h,G6];simp[nB,iq (Nat.le_of_lt hj)]
theorem Mo{i:Nat}{l:List ep}{j:Nat}{p:ep}(h:l[j]?=Z p):Br i (l.take (j+1))=Br i (l.take j)++[⟨p.dst,i,-1⟩]:=by
 rw[D7 h];simp[Br]
theorem Gj{l:List E}{j:Nat}{B:E}(h:l[j]?=Z B):iE (l.take (j+1)) 0=iE (l.take j) 0++su j B:=by
 have hj:j<l.length:=(az.1 h).1;rw[D7 h,Cr];simp[iE,iq (Nat.le_of_lt hj)]
def eC(W:List Wr)(r:Int):List Wr:=W.filter λw=>decide (w.z=r)
theorem uP(W ake:List Wr)(r:Int):eC (W++ake) r=eC W r++eC ake r:=nU ..
def yy(W:List Wr)(r:Nat):Int×Int:=match eC W r with
 |[]=>(-1,-1)
 |w::_=>((w.block:Int),w.at')
def lh(W:List Wr)(R:Nat):Bool:=decide (∀r:Nat,r<R->(eC W r).length<=1)
theorem Wj{W:List Wr}{w:Wr}{r:Nat}:yy (W++[w]) r=if (yy W r).1<0/\w.z=r then((w.block:Int),w.at')else yy W r:=by
 unfold yy;rw[uP];cases h:eC W r with
 |nil=>
  simp only[aO]
  by_cases e:w.z=r
  ·simp[eC,e]
  ·simp[eC,e]
 |cons v l=>
  simp only[aW];rw[if_neg I]
theorem Cv{W:List Wr}{r:Nat}:(yy W r).1<0↔eC W r=[]:=by
 unfold yy;cases eC W r with
 |nil=>simp
 |cons v l=>simp
theorem JM{W:List Wr}{w:Wr}{R r:Nat}(hw:w.z=r)(hr:r<R):lh (W++[w]) R=(decide ((yy W r).1<0)&&lh W R):=by
 unfold lh;have key:∀s:Nat,eC (W++[w]) s=if s=r then eC W s++[w]else eC W s:=λs=>by
  rw[uP]
  split
  ·rename_i h;subst h;simp[eC,hw]
  ·rename_i h;simp[eC,hw,show(r:Int)≠s by omega]
 by_cases h1:(yy W r).1<0
 ·have h2:=Cv.1 h1
  rw[decide_eq_true h1,Bool.true_and,decide_eq_decide];refine forall_congr' λs=>?_;rw[key]
  split
  ·rename_i h;subst h;rw[h2];simp
  ·rfl
 ·rw[decide_eq_false h1,Bool.false_and]
  refine decide_eq_false λh=>?_;have:=h r hr;rw[key,if_pos rfl,bX,j_]at this;have h2:eC W r≠[]:=λh=>h1 (Cv.2 h);have:=rW.2 h2;omega
def j6(bl:List E)(W:List Wr)(v:cg)(b:Nat)(i:Int):Prop:=
 v.z=true->∃w rest,eC W v.n=w::rest/\(w.block=b->w.at'<i)/\(w.block≠b->jY bl w.block b)
def Gd(bl:List E)(W:List Wr)(b:Nat)(p:ep)(n:Nat):Prop:=∀(j a:Nat) v aka,j<n->(aZ bl b)[j]?=Z a->p.src[j]?=Z v->bl[a]?=Z aka->j6 bl W v a aka.list.length
def Kz(bl:List E)(W:List Wr)(b i:Nat)(x:dJ):Prop:=∀v∈j3 x,j6 bl W v b i
structure Cg(bl:List E)(W:List Wr)(b:Nat)(B:E):Prop where
 aD:∀p∈B.aD,Gd bl W b p (aZ bl b).length
 list:∀(i:Nat) x,B.list[i]?=Z x->Kz bl W b i x
 on:j6 bl W B.on b B.list.length
def tJ(bl:List E)(W:List Wr):Prop:=∀(b:Nat) B,bl[b]?=Z B->Cg bl W b B
open Classical in
noncomputable def vS(n R:Nat)(bl:List E):Int:=
 if∃b,b<bl.length/\¬gH bl (-1) 0 b then 5 else if lh (u9 n bl) R=false then 7 else if¬tJ bl (u9 n bl)then 6 else 0
theorem Av{i:Nat}:∀{l:List dJ} {j:Nat} {w:Wr},w∈nB i l j->w.block=i/\(0<=w.at'/\w.at'<j+l.length)/\∃x∈l,x.dst=w.z/\0<=x.dst
 |[],j,w,h=>by cases h
 |x::l,j,w,h=>by
  simp only[nB,bA]at h;rcases h with h|h
  ·split at h
   ·cases h
   ·rename_i hx
    simp only[bR]at h;subst h;exact⟨rfl,⟨by simp only;omega,by simp only[gk];omega⟩,x,by simp,rfl,I⟩
  ·obtain⟨h1,h2,y,hy,h3⟩:=Av h
   exact⟨h1,⟨h2.1,by simp only[gk];omega⟩,y,cO _ hy,h3⟩
theorem ve:∀{l:List E} {j:Nat} {w:Wr},w∈iE l j->∃(i:Nat) (B:E),l[i]?=Z B/\w∈su (j+i) B
 |[],j,w,h=>by cases h
 |B::l,j,w,h=>by
  simp only[iE,bA]at h;rcases h with h|h
  ·exact⟨0,B,rfl,h⟩
  ·obtain⟨i,akh,h1,h2⟩:=ve h
   exact⟨i+1,akh,h1,by rw[show j+(i+1)=j+1+i by omega];exact h2⟩
def EW(W:List Wr):Prop:=W.Pairwise λw v=>w.z≠v.z
theorem yf{W:List Wr}(hp:EW W){w:Wr}(hw:w∈W):eC W w.z=[w]:=by
 have h1:(eC W w.z).Pairwise λw v=>w.z≠v.z:=List.Pairwise.filter _ hp;have h2:∀v∈eC W w.z,v.z=w.z:=λv hv=>by simpa[eC]using(cC.1 hv).2
 have h3:w∈eC W w.z:=cC.2 ⟨hw,by simp⟩
 match hl:eC W w.z,h1,h2,h3 with
 |[],_,_,h3=>cases h3
 |[v],_,_,h3=>rw[bR.1 h3]
 |v::v'::l,h1,h2,_=>exact absurd ((h2 v aC).trans (h2 v' aC).symm) ((ew.1 h1).1 v' aC)
theorem Mh{W:List Wr}(hp:EW W)(R:Nat):lh W R=true:=by
 unfold lh;refine decide_eq_true λr _=>?_
 match hl:eC W r with
 |[]=>simp
 |w::l=>
  have hw:w∈eC W r:=by rw[hl];simp
  have h1:=(cC.1 hw);have h2:w.z=r:=ax h1.2;have h3:=yf hp h1.1;rw[h2,hl]at h3;rw[h3];simp
theorem Bl{i:Nat}:∀{l:List dJ} {j:Nat},(∀(a b:Nat) x y,a<b->l[a]?=Z x->l[b]?=Z y->0<=x.dst->0<=y.dst->x.dst≠y.dst)->EW (nB i l j)
 |[],j,_=>List.Pairwise.nil
 |x::l,j,h=>by
  unfold nB;refine jI.2 ⟨?_,Bl λa b x y Nf hx hy=>h (a+1) (b+1) x y I hx hy,λw hw v hv=>?_⟩
  ·split
   ·exact List.Pairwise.nil
   ·exact List.pairwise_singleton _ _
  ·split at hw
   ·cases hw
   ·rename_i h0
    rw[bR.1 hw];obtain⟨_,_,y,hy,e,h1⟩:=Av hv;obtain⟨b,hb⟩:=bg hy;have:=h 0 (b+1) x y I rfl hb I h1;rw[<-e];exact this
theorem wZ:∀{l:List E} {j:Nat},(∀(i:Nat) B,l[i]?=Z B->EW (su (j+i) B))->(∀(a b:Nat) aka B,a<b->l[a]?=Z aka->l[b]?=Z B->∀w∈su (j+a) aka,∀v∈su (j+b) B,w.z≠v.z)->EW (iE l j)
 |[],j,_,_=>List.Pairwise.nil
 |B::l,j,h1,h2=>by
  unfold iE;refine jI.2 ⟨h1 0 B rfl,wZ (λi akh hC=>by rw[show j+1+i=j+(i+1) by omega];exact h1 (i+1) akh hC) (λa b aka akh Nf hA hC=>by rw[show j+1+a=j+(a+1) by omega,show j+1+b=j+(b+1) by omega];exact h2 (a+1) (b+1) aka akh I hA hC),λw hw v hv=>?_⟩;obtain⟨i,akh,hC,tI⟩:=ve hv;rw[show j+1+i=j+(i+1) by omega]at tI;exact h2 0 (i+1) B akh I rfl hC w hw v tI
theorem FD{i:Nat}:∀{l:List dJ} {j a:Nat} {x:dJ},l[a]?=Z x->0<=x.dst->(⟨x.dst,i,(j+a:Nat)⟩:Wr)∈nB i l j
 |[],j,a,x,h,_=>by cases h
 |y::l,j,0,x,h,h0=>by
  obtain rfl:y=x:=ax h;unfold nB;rw[if_neg I];simp
 |y::l,j,a+1,x,h,h0=>by
  unfold nB;refine de _ ?_;rw[show j+(a+1)=j+1+a by omega];exact FD h h0
theorem A8:∀{l:List E} {j i:Nat} {B:E} {w:Wr},l[i]?=Z B->w∈su (j+i) B->w∈iE l j
 |[],j,i,B,w,h,_=>by cases h
 |akh::l,j,0,B,w,h,hw=>by
  obtain rfl:akh=B:=ax h;unfold iE;exact ct _ hw
 |akh::l,j,i+1,B,w,h,hw=>by
  unfold iE;exact de _ (A8 (j:=j+1) h (by rw[show j+1+i=j+(i+1) by omega];exact hw))
section
variable {Y W:aY} {R:Nat} {ν:Nat->Nat->Int}
def V3(ν:Nat->Nat->Int)(P:List E)(c k:Nat):Wr:=⟨ν c k,c,if k<(aN P c).aD.length then -1 else((k-(aN P c).aD.length:Nat):Int)⟩
theorem Cq(hs:Ek Y W ν){b:Nat}{B:E}(hB:(cw Y)[b]?=Z B)(hn:0<=Y.params){w:Wr}(hw:w∈su b (fX ν (cw Y) Y.params.toNat b B)):∃k,Site B k/\w=V3 ν (cw Y) b k:=by
 have GH:=bQ hB;rcases bA.1 hw with hw|hw
 ·obtain⟨p,hp,rfl⟩:=aV.1 hw
  obtain⟨i,hi⟩:=bg hp;unfold fX at hi;simp only at hi;rw[cf]at hi;obtain⟨q,hq,rfl⟩:=cA.1 hi;have iJ:=(az.1 hq).1;refine⟨i,.inl iJ,?_⟩;unfold V3;rw[GH,if_pos iJ]
  rfl
 ·have key:∀(l:List dJ) (j:Nat),w∈nB b l j->∃a x,l[a]?=Z x/\0<=x.dst/\w=⟨x.dst,b,(j+a:Nat)⟩:=by
   intro l
   induction l with
   |nil=>intro j h;cases h
   |cons x l ih=>
    intro j h;unfold nB at h;rcases bA.1 h with h|h
    ·split at h
     ·cases h
     ·rw[bR.1 h]
      exact⟨0,x,rfl,I,rfl⟩
    ·obtain⟨a,y,h1,h2,h3⟩:=ih (j+1) h
     exact⟨a+1,y,h1,h2,by rw[h3,show j+1+a=j+(a+1) by omega]⟩
  obtain⟨a,x,hx,h0,rfl⟩:=key _ 0 hw;unfold fX at hx;simp only at hx;rw[cf]at hx;obtain⟨y,hy,rfl⟩:=cA.1 hx;have uf:0<=y.dst:=by
   unfold iR at h0;simp only at h0
   split at h0
   ·assumption
   ·exact h0
  refine⟨B.aD.length+a,.inr ⟨a,y,rfl,hy,uf⟩,?_⟩;unfold V3;rw[GH,if_neg I,di,lE];unfold iR;simp only;rw[if_pos uf,GH]
theorem OU(hs:Ek Y W ν){b k:Nat}{B:E}(hB:(cw Y)[b]?=Z B)(hk:Site B k)(hn:0<=Y.params):V3 ν (cw Y) b k∈su b (fX ν (cw Y) Y.params.toNat b B):=by
 have GH:=bQ hB;unfold V3;rw[GH];rcases hk with hk|⟨i,x,rfl,hx,h0⟩
 ·rw[if_pos hk]
  refine ct _ ?_;obtain⟨q,hq⟩:=bf B.aD k hk;refine aV.2 ⟨qL ν (cw Y) Y.params.toNat b k q,aq (i:=k) ?_,rfl⟩;unfold fX;simp only;rw[cf,hq]
  rfl
 ·rw[if_neg I,lE]
  refine de _ ?_;have h1:(fX ν (cw Y) Y.params.toNat b B).list[i]?=Z (iR ν (cw Y) Y.params.toNat b i x):=by
   unfold fX;simp only;rw[cf,hx]
   rfl
  have h2:(iR ν (cw Y) Y.params.toNat b i x).dst=ν b (B.aD.length+i):=by
   unfold iR;simp only;rw[if_pos h0,GH]
  have h3:=FD (i:=b) (j:=0) h1 (by rw[h2];have:=hs.ge b (B.aD.length+i);omega);rw[h2,di]at h3;exact h3
theorem F0(hs:Ek Y W ν)(hn:0<=Y.params):EW (u9 Y.params.toNat W.blocks):=by
 rw[hs.blocks];have jS:∀{b:Nat} {akh:E},(ms ν (cw Y) Y.params.toNat)[b]?=Z akh->∃B,(cw Y)[b]?=Z B/\akh=fX ν (cw Y) Y.params.toNat b B:=λ{b akh} h=>by
  have gF:=(az.1 h).1;rw[fq]at gF;obtain⟨B,hB⟩:=bf (cw Y) b gF;rw[gz hB]at h;exact⟨B,hB,(a7 h).symm⟩
 have lq:∀{b:Nat} {B:E},(cw Y)[b]?=Z B->∀(a:Nat) x,(fX ν (cw Y) Y.params.toNat b B).list[a]?=Z x->0<=x.dst->Site B (B.aD.length+a)/\x.dst=ν b (B.aD.length+a):=λ{b B} hB a x hx h0=>by
  unfold fX at hx;simp only at hx;rw[cf]at hx;obtain⟨y,hy,rfl⟩:=cA.1 hx;unfold iR at h0⊢;simp only at h0⊢
  by_cases h1:0<=y.dst
  ·rw[if_pos h1,bQ hB]
   exact⟨.inr ⟨a,y,rfl,hy,h1⟩,rfl⟩
  ·rw[if_neg h1]at h0
   exact absurd h0 h1
 refine jI.2 ⟨?_,wZ (λb akh hC=>?_) (λa b aka akh Nf hA hC w hw v hv e=>?_),λw hw v hv e=>?_⟩
 ·unfold qI
  refine q6.2 ?_;have:(List.range Y.params.toNat).Pairwise λa b=>a≠b:=qE;exact this.imp λh e=>h (by simp only at e;omega)
 ·rw[di]
  obtain⟨B,hB,rfl⟩:=jS hC;refine jI.2 ⟨?_,Bl λa c x y Zf hx hy Eu Xy e=>?_,λw hw v hv e=>?_⟩
  ·unfold Br
   refine q6.2 (List.pairwise_iff_getElem.2 λi j hi hj Q5 e=>?_);simp only at e;have hlen:(fX ν (cw Y) Y.params.toNat b B).aD.length=B.aD.length:=by unfold fX;simp only;rw[iW]
   have hd:∀(i:Nat) (hi:i<(fX ν (cw Y) Y.params.toNat b B).aD.length),((fX ν (cw Y) Y.params.toNat b B).aD[i]).dst=ν b i:=λi hi=>by
    have h1:(B.aD.mapIdx (qL ν (cw Y) Y.params.toNat b))[i]?=Z ((fX ν (cw Y) Y.params.toNat b B).aD[i]):=a_ hi;rw[cf]at h1;obtain⟨q,_,e2⟩:=cA.1 h1;rw[<-e2]
    rfl
   rw[hd,hd]at e;have:=(hs.inj b b i j B B hB hB (.inl I) (.inl I) e).2;omega
  ·obtain⟨h1,h2⟩:=lq hB a x hx Eu
   obtain⟨h3,h4⟩:=lq hB c y hy Xy;rw[h2,h4]at e;have:=(hs.inj b b _ _ B B hB hB h1 h3 e).2;omega
  ·obtain⟨p,hp,rfl⟩:=aV.1 hw
   obtain⟨i,hi⟩:=bg hp;unfold fX at hi;simp only at hi;rw[cf]at hi;obtain⟨q,hq,rfl⟩:=cA.1 hi;have iJ:=(az.1 hq).1;obtain⟨_,_,y,hy,e2,h0⟩:=Av hv;obtain⟨a,ha⟩:=bg hy;obtain⟨h1,h2⟩:=lq hB a y ha h0;simp only at e;rw[<-e2,h2]at e;have:=(hs.inj b b i _ B B hB hB (.inl iJ) h1 e).2;omega
 ·rw[di]at hw hv
  obtain⟨A',WG,rfl⟩:=jS hA;obtain⟨B',sZ,rfl⟩:=jS hC;obtain⟨k,hk,rfl⟩:=Cq hs WG hn hw;obtain⟨k',Bj,rfl⟩:=Cq hs sZ hn hv;have:=(hs.inj a b k k' A' B' WG sZ hk Bj e).1;omega
 ·obtain⟨r,hr,rfl⟩:=aV.1 hw
  obtain⟨b,akh,hC,tI⟩:=ve hv;rw[di]at tI;obtain⟨B,hB,rfl⟩:=jS hC;obtain⟨k,hk,rfl⟩:=Cq hs hB hn tI;have h1:=hs.ge b k;have h2:=cM.1 hr;simp only[V3]at e;omega
theorem Yy(hs:Ek Y W ν){b k:Nat}{B:E}(hB:(cw Y)[b]?=Z B)(hk:Site B k)(hn:0<=Y.params):V3 ν (cw Y) b k∈u9 Y.params.toNat W.blocks:=by
 rw[hs.blocks];refine de _ (A8 (i:=b) (gz hB) ?_);rw[di];exact OU hs hB hk hn
theorem oq(hs:Ek Y W ν):∀i,db W.blocks i=db (cw Y) i:=λi=>by rw[hs.blocks];exact AL _ _ _ i
theorem TI(h:mg Y R)(hs:Ek Y W ν){b i:Nat}(hb:b<(cw Y).length){r:Int}(hr:0<=r):j6 W.blocks (u9 Y.params.toNat W.blocks) (nm ν (cw Y) Y.params.toNat b i r) b i:=λlZ=>by
 obtain⟨hg,c_,ii,hlen⟩:=fW h.all;have hn:=h.all.par.1;have vv:=F0 hs hn;rcases AA (ν:=ν) (n:=Y.params.toNat) hg c_ hr _ b i (bG _) (k8 h b hb)with⟨c,k,e,e_,hk,hw⟩|⟨e,h1⟩|e
 ·obtain⟨akh,hC⟩:=bf (cw Y) c e_
  have Bj:=hk;rw[bQ hC]at Bj;have hm:=Yy hs hC Bj hn;rw[e];refine⟨V3 ν (cw Y) c k,[],yf vv hm,λe2=>?_,λe2=>?_⟩
  ·simp only[V3]at e2⊢
   subst e2;rcases hw with⟨_,h2⟩|⟨h2,_⟩
   ·split<;>omega
   ·exact absurd rfl h2
  ·simp only[V3]at e2⊢
   rcases hw with⟨h2,_⟩|⟨_,h2⟩
   ·exact absurd h2 e2
   ·exact(CF (oq hs)).2 h2
 ·rw[e]
  have hm:(⟨r,0,-1⟩:Wr)∈u9 Y.params.toNat W.blocks:=ct _ (aV.2 ⟨r.toNat,cM.2 I,by simp only[Wr.mk.injEq,and_true];omega⟩);refine⟨_,[],yf vv hm,λ_=>by simp only;omega,λe2=>?_⟩;refine(CF (oq hs)).2 ⟨.refl,k8 h b hb,.inr (.inl rfl)⟩
 ·rw[e]at lZ
  cases lZ
theorem As(h:mg Y R)(hs:Ek Y W ν){b i:Nat}(hb:b<(cw Y).length){v:cg}(hv:qZ (λr=>0<=r) v):j6 W.blocks (u9 Y.params.toNat W.blocks) (k7 ν (cw Y) Y.params.toNat b i v) b i:=λlZ=>by
 unfold k7 at lZ⊢
 by_cases h1:v.z=true
 ·rw[if_pos h1]at lZ⊢
  exact TI h hs hb (hv h1) lZ
 ·rw[if_neg h1]at lZ
  exact absurd lZ h1
theorem QF(h:mg Y R)(hs:Ek Y W ν)(lZ:∀B∈cw Y,mh (λr=>0<=r) B)(R2:Nat):vS Y.params.toNat R2 W.blocks=0:=by
 obtain⟨hg,c_,ii,hlen⟩:=fW h.all;have hn:=h.all.par.1;have Zd:W.blocks.length=(cw Y).length:=by rw[hs.blocks,fq]
 have uV:∀t,aZ W.blocks t=aZ (cw Y) t:=pY Zd (oq hs);unfold vS;rw[if_neg,if_neg,if_neg]
 ·refine λh1=>h1 λb akh hC=>?_
  have WI:=hC;rw[hs.blocks]at WI;have gF:=(az.1 WI).1;rw[fq]at gF;obtain⟨B,hB⟩:=bf (cw Y) b gF;rw[gz hB]at WI;obtain rfl:=a7 WI;have hR:=lZ B (aq hB);refine⟨λp hp j a v aka _ ha hv hA=>?_,λi x hx v hv=>?_,?_⟩
  ·obtain⟨i,hi⟩:=bg hp
   unfold fX at hi;simp only at hi;rw[cf]at hi;obtain⟨q,hq,rfl⟩:=cA.1 hi;have tI:(q.src.mapIdx (uF ν (cw Y) Y.params.toNat b))[j]?=Z v:=hv;rw[cf]at tI;obtain⟨v0,vy,rfl⟩:=cA.1 tI;have ha2:Mu (cw Y) b j=a:=by
    unfold Mu;rw[<-uV,ha]
    rfl
   have zM:a<(cw Y).length:=by rw[<-Zd];exact(az.1 hA).1
   obtain⟨A',WG⟩:=bf (cw Y) a zM;have hAl:aka.list.length=(aN (cw Y) a).list.length:=by
    rw[hs.blocks,gz WG]at hA;rw[<-a7 hA,bQ WG];unfold fX;simp only;rw[iW]
   unfold uF;rw[ha2,hAl];exact As h hs zM ((hR.aD q (aq hq)).2 v0 (aq vy))
  ·unfold fX at hx
   simp only at hx;rw[cf]at hx;obtain⟨y,hy,rfl⟩:=cA.1 hx;have hI:=hR.list y (aq hy);have key:∃w,qZ (λr=>0<=r) w/\v=k7 ν (cw Y) Y.params.toNat b i w:=by
    unfold j3 iR at hv;simp only at hv;rcases bA.1 hv with hv|hv
    ·split at hv
     ·exact⟨y.a,hI.a,bR.1 hv⟩
     ·cases hv
    ·rcases bA.1 hv with hv|hv
     ·split at hv
      ·exact⟨y.b,hI.b,bR.1 hv⟩
      ·cases hv
     ·obtain⟨w,hw,rfl⟩:=aV.1 hv
      exact⟨w,hI.args w hw,rfl⟩
   obtain⟨w,hw,rfl⟩:=key;exact As h hs gF hw
  ·have hl:(fX ν (cw Y) Y.params.toNat b B).list.length=B.list.length:=by unfold fX;simp only;rw[iW]
   rw[hl];exact As h hs gF hR.on
 ·rw[Mh (F0 hs hn)]
  simp
 ·rintro⟨b,hb,hnr⟩
  exact hnr ((uB (oq hs)).2 (k8 h b I))
end
theorem ab0{n:Nat}{bl:List E}{x:Int}(hx:(n:Int)<=x):(n:Int)<=fE (gi n bl) x:=by
 have wP:=B9 n bl
 by_cases hm:x∈gi n bl
 ·by_cases h:(n:Int)<=fE (gi n bl) x
  ·exact h
  ·have h1:=pq hm
   have h2:fE (gi n bl) x∈eO n:=jm.2 ⟨h1.1,I⟩;have h3:=zm (wP.subset h2) hm (Ho h2);omega
 ·unfold fE
  rw[List.idxOf_eq_length hm];have:=wP.length_le;rw[mH]at this;omega
section
variable {u:a8}
theorem AD(hu:Whole u)(sE:∀X∈u.funcs,gp (j0 X)=false){k:Nat}{X:aY}(hX:u.funcs[k]?=Z X):∃R,jF (eJ (cn X)) R/\c9 (eJ (cn X))=(eJ (cn X)).blocks/\bI (eJ (cn X)).blocks=List.range (eJ (cn X)).blocks.length:=by
 have hY:(oL u).funcs[k]?=Z (cn X):=by rw[l5,hX];rfl
 obtain⟨R,hP⟩:=mK hu k _ hY;have hZ:(wS (oL u)).funcs[k]?=Z (eJ (cn X)):=by rw[DY,hY];rfl
 obtain⟨R2,hA⟩:=vl (NZ hu sE).ok hZ;obtain⟨_,_,hTD⟩:=zG hu.ok hX;have ho:=F1 hP (x_ hTD);exact⟨R2,hA,by unfold c9;rw[ho];exact y8 hA.ok,ho⟩
theorem NY(hu:Whole u)(sE:∀X∈u.funcs,gp (j0 X)=false){k:Nat}{X:aY}(hX:u.funcs[k]?=Z X):∃ν,Ek (cn X) (j0 X) ν:=by
 have hY:(oL u).funcs[k]?=Z (cn X):=by rw[l5,hX];rfl
 obtain⟨R,hP⟩:=mK hu k _ hY;obtain⟨_,hA,Lq,_⟩:=AD hu sE hX;have hs:=qk hP;have Fu:∀B∈cw (cn X),mh (λr=>0<=r) B:=λB hB=>(vU hP ((kB hu).1.ok.body _ (aq hY)) B hB).mono λr hr=>hr.1;have o_:=hP.all.par;have afO:(j0 X).blocks=(eJ (cn X)).blocks.map (iQ (gi (cn X).params.toNat (eJ (cn X)).blocks)):=G7 Lq;have Di:(j0 X).aB=((gi (cn X).params.toNat (eJ (cn X)).blocks).length:Nat):=by
  show(((gi _ (c9 (eJ (cn X)))).length:Nat):Int)=_;rw[Lq]
  rfl
 have r6:∀(b:Nat) B k,(cw (cn X))[b]?=Z B->Site B k->mT (cw (cn X)) (cn X).params.toNat b k∈gi (cn X).params.toNat (eJ (cn X)).blocks:=λb B k hB hk=>by
  have hC:(eJ (cn X)).blocks[b]?=Z (fX (mT (cw (cn X)) (cn X).params.toNat) (cw (cn X)) (cn X).params.toNat b B):=gz hB;refine vG.2 (.inr (.inl ⟨_,aq hC,?_⟩));rcases hk with hk|⟨i,x,rfl,hx,h0⟩
  ·obtain⟨q,hq⟩:=bf B.aD k hk
   refine zw (p:=qL (mT (cw (cn X)) (cn X).params.toNat) (cw (cn X)) (cn X).params.toNat b k q) (aq (i:=k) ?_);unfold fX;simp only;rw[cf,hq]
   rfl
  ·refine rH (x:=iR (mT (cw (cn X)) (cn X).params.toNat) (cw (cn X)) (cn X).params.toNat b i x) (aq (i:=i) ?_) ?_
   ·unfold fX
    simp only;rw[cf,hx]
    rfl
   ·have h1:(iR (mT (cw (cn X)) (cn X).params.toNat) (cw (cn X)) (cn X).params.toNat b i x).dst=mT (cw (cn X)) (cn X).params.toNat b (B.aD.length+i):=by
     unfold iR;simp only;rw[if_pos h0,bQ hB]
    have h2:=hs.ge b (B.aD.length+i);have h3:=tB (x:=iR (mT (cw (cn X)) (cn X).params.toNat) (cw (cn X)) (cn X).params.toNat b i x) (by rw[h1];omega);rw[h1]at h3;exact h3
 have gP:=hs.ge;have xG:∀b k,(cn X).params<=fE (gi (cn X).params.toNat (eJ (cn X)).blocks) (mT (cw (cn X)) (cn X).params.toNat b k):=λb k=>by
  have:=ab0 (n:=(cn X).params.toNat) (bl:=(eJ (cn X)).blocks) (x:=mT (cw (cn X)) (cn X).params.toNat b k) (by have:=gP b k;omega);omega
 refine⟨λb k=>fE (gi (cn X).params.toNat (eJ (cn X)).blocks) (mT (cw (cn X)) (cn X).params.toNat b k),?_,λb c k k' B akh hB hC hk Bj e=>hs.inj b c k k' B akh hB hC hk Bj (zm (r6 b B k hB hk) (r6 c akh k' hC Bj) e),xG,λb B k hB hk=>?_,?_,hs.reach,hs.pos⟩
 ·rw[afO]
  have hN:ON (fE (gi (cn X).params.toNat (eJ (cn X)).blocks)) (mT (cw (cn X)) (cn X).params.toNat) (λb k=>fE (gi (cn X).params.toNat (eJ (cn X)).blocks) (mT (cw (cn X)) (cn X).params.toNat b k)) (cw (cn X)) (cn X).params.toNat:=
   ⟨λ_ _ _ _ _=>rfl,λr h0 hr=>Ho (jm.2 ⟨h0,hr⟩),λb k=>by have:=gP b k;omega⟩
  rw[Ve hN Fu]
  rfl
 ·rw[Di]
  exact(pq (r6 b B k hB hk)).2
 ·rw[Di]
  have:=(B9 (cn X).params.toNat (eJ (cn X)).blocks).length_le;rw[mH]at this;omega
theorem Qb(hu:Whole u)(sE:∀X∈u.funcs,gp (j0 X)=false){k:Nat}{X:aY}(hX:u.funcs[k]?=Z X)(R:Nat):vS (j0 X).params.toNat R (j0 X).blocks=0:=by
 have hY:(oL u).funcs[k]?=Z (cn X):=by rw[l5,hX];rfl
 obtain⟨R2,hP⟩:=mK hu k _ hY;obtain⟨ν,hs⟩:=NY hu sE hX;exact QF hP hs (λB hB=>(vU hP ((kB hu).1.ok.body _ (aq hY)) B hB).mono λr hr=>hr.1) R
theorem KK{X:aY}{R:Nat}(h:mg X R){c:Nat}(hc:jO X.blocks c=A):jO (eJ X).blocks c=A:=by
 obtain⟨hg,c_,ii,hlen⟩:=fW h.all;have uV:∀t,aZ (eJ X).blocks t=aZ X.blocks t:=λt=>Qi h t;have hb:∀b,(aN (eJ X).blocks b).kind=(aN X.blocks b).kind/\(aN (eJ X).blocks b).to=(aN X.blocks b).to/\((aN (eJ X).blocks b).aD=[]->(aN X.blocks b).aD=[]):=λb=>by
  cases hB:X.blocks[b]? with
  |some B=>
   rw[bQ (Vc h hB),bQ hB];refine⟨rfl,rfl,λe=>?_⟩;have e2:(B.aD++dg X.blocks R b).length=0:=by
    have e3:((B.aD++dg X.blocks R b).mapIdx (qL (mT (cw X) X.params.toNat) (cw X) X.params.toNat b)).length=0:=by
     have:=congrArg List.length e;exact this
    rwa[iW]at e3
   rw[bX]at e2;exact lk I
  |none=>
   have h1:¬b<X.blocks.length:=λhb=>by rw[a_ hb]at hB;cases hB
   have h2:(eJ X).blocks.length=X.blocks.length:=by show(ms _ _ _).length=_;rw[fq,hlen]
   rw[kG h1,kG (by rw[h2];exact h1)];exact⟨rfl,rfl,id⟩
 have hj:iY (eJ X).blocks c=iY X.blocks c:=by
  unfold iY;rw[(hb c).2.1]
 unfold jO at hc⊢;rw[hj,(hb c).1,uV];rw[if_neg];rintro⟨h1,h2,h3,h4⟩;rw[if_pos ⟨h1,h2,(hb _).2.2 h3,h4⟩]at hc;cases hc
theorem Mc{aj9:aY}{R R3:Nat}(hA:jF aj9 R)(hA3:jF (en aj9) R3)(Lq:c9 aj9=aj9.blocks)(hc:∀c,jO aj9.blocks c=A):cn (en aj9)=en aj9:=by
 refine QU hA3 (vI hA) (FM hA) λc=>?_;show jO ((c9 aj9).map _) c=A;rw[Ie,Lq];exact hc c
theorem Uq(hu:Whole u)(sE:∀X∈u.funcs,gp (j0 X)=false){k:Nat}{X:aY}(hX:u.funcs[k]?=Z X):cn (j0 X)=j0 X:=by
 have hY:(oL u).funcs[k]?=Z (cn X):=by rw[l5,hX];rfl
 obtain⟨R2,hP⟩:=mK hu k _ hY;obtain⟨_,hA,Lq,_⟩:=AD hu sE hX;obtain⟨_,_,hTD⟩:=zG hu.ok hX;have hW:(oE u).funcs[k]?=Z (j0 X):=by unfold oE;simp only[aJ,hX,bu]
 obtain⟨R3,hA3⟩:=vl (tm hu sE).1.ok hW;exact Mc hA hA3 Lq λc=>KK hP (QS hTD c)
end
theorem Og{B:E}{k:Nat}(h:Site B k):k<B.aD.length+B.list.length:=by
 rcases h with h|⟨i,x,rfl,hx,_⟩
 ·omega
 ·have:=(az.1 hx).1
  omega
section
variable {Y W:aY} {R:Nat} {ν:Nat->Nat->Int}
def acn(ν:Nat->Nat->Int)(P:List E)(n:Nat)(b i:Nat)(r:Int):Prop:=r<n∨∃c k,ν c k=r/\Rp P b ((aN P b).aD.length+i) c k
theorem T8(h:mg Y R){b i:Nat}(hb:b<(cw Y).length){v:cg}(hv:qZ (λr=>0<=r) v)(hr:(k7 ν (cw Y) Y.params.toNat b i v).z=true):acn ν (cw Y) Y.params.toNat b i (k7 ν (cw Y) Y.params.toNat b i v).n:=by
 obtain⟨hg,c_,ii,hlen⟩:=fW h.all;unfold k7 at hr⊢
 by_cases h1:v.z=true
 ·rw[if_pos h1]at hr⊢
  rcases AA (ν:=ν) (n:=Y.params.toNat) hg c_ (hv h1) _ b i (bG _) (k8 h b hb)with⟨c,k,e,hw⟩|⟨e,h2⟩|e
  ·rw[e]
   exact .inr ⟨c,k,rfl,hw⟩
  ·rw[e]
   exact .inl h2
  ·rw[e]at hr
   cases hr
 ·rw[if_neg h1]at hr
  exact absurd hr h1
theorem ol(hs:Ek Y W ν){b:Nat}{akh:E}(h:W.blocks[b]?=Z akh):∃B,(cw Y)[b]?=Z B/\akh=fX ν (cw Y) Y.params.toNat b B:=by
 rw[hs.blocks]at h;have gF:=(az.1 h).1;rw[fq]at gF;obtain⟨B,hB⟩:=bf (cw Y) b gF;rw[gz hB]at h;exact⟨B,hB,(a7 h).symm⟩
theorem zC{n b i:Nat}{P:List E}{B:E}{x:dJ}(h:(fX ν P n b B).list[i]?=Z x):∃y,B.list[i]?=Z y/\x=iR ν P n b i y:=by
 unfold fX at h;simp only at h;rw[cf]at h;obtain⟨y,hy,e⟩:=cA.1 h;exact⟨y,hy,e.symm⟩
theorem zD{n b i:Nat}{P:List E}{B:E}{p:ep}(h:(fX ν P n b B).aD[i]?=Z p):∃q,B.aD[i]?=Z q/\p=qL ν P n b i q:=by
 unfold fX at h;simp only at h;rw[cf]at h;obtain⟨y,hy,e⟩:=cA.1 h;exact⟨y,hy,e.symm⟩
theorem kw(n b:Nat)(P:List E)(B:E):(fX ν P n b B).list.length=B.list.length/\(fX ν P n b B).aD.length=B.aD.length:=by
 unfold fX;simp only[iW,and_self]
theorem zB{n b k:Nat}{P:List E}{B:E}(hB:P[b]?=Z B)(hk:Site B k):(∃p,(fX ν P n b B).aD[k]?=Z p/\p.dst=ν b k)∨∃i x,k=B.aD.length+i/\(fX ν P n b B).list[i]?=Z x/\x.dst=ν b k:=by
 rcases hk with hk|⟨i,x,rfl,hx,h0⟩
 ·obtain⟨q,hq⟩:=bf B.aD k hk
  refine .inl ⟨qL ν P n b k q,?_,rfl⟩;unfold fX;simp only;rw[cf,hq]
  rfl
 ·refine .inr ⟨i,iR ν P n b i x,rfl,?_,?_⟩
  ·unfold fX
   simp only;rw[cf,hx]
   rfl
  ·unfold iR
   simp only;rw[if_pos h0,bQ hB]
theorem PU(h:mg Y R)(hs:Ek Y W ν)(lZ:∀B∈cw Y,mh (λr=>0<=r) B){r:Nat}:∀{b:Nat} {j:Int},ik W.blocks r b j->
  (r:Int)<Y.params.toNat∨∃c k,ν c k=r/\c<(cw Y).length/\Site (aN (cw Y) c) k/\(j=-1->c≠b/\jY (cw Y) c b)/\∀i:Nat,j=i->(c=b/\k<(aN (cw Y) b).aD.length+min i (aN (cw Y) b).list.length)∨(c≠b/\jY (cw Y) c b):=by
 obtain⟨hg,c_,ii,hlen⟩:=fW h.all;have Zd:W.blocks.length=(cw Y).length:=by rw[hs.blocks,fq]
 have uV:∀t,aZ W.blocks t=aZ (cw Y) t:=pY Zd (oq hs);have key:∀{b i:Nat} {B:E} {v:cg},(cw Y)[b]?=Z B->i<=B.list.length->qZ (λr=>0<=r) v->(k7 ν (cw Y) Y.params.toNat b i v).z=true->(k7 ν (cw Y) Y.params.toNat b i v).n=r->∀{j:Int},(j=i∨(i=B.list.length/\(j=B.list.length∨j=B.list.length+1)))->
   (r:Int)<Y.params.toNat∨∃c k,ν c k=r/\c<(cw Y).length/\Site (aN (cw Y) c) k/\(j=-1->c≠b/\jY (cw Y) c b)/\∀i:Nat,j=i->(c=b/\k<(aN (cw Y) b).aD.length+min i (aN (cw Y) b).list.length)∨(c≠b/\jY (cw Y) c b):=by
  intro b i B v hB hi hv h1 h2 j hj;have gF:=(az.1 hB).1;have hf:=T8 (ν:=ν) (i:=i) h gF hv h1;rw[h2]at hf;rcases hf with hf|⟨c,k,e,e_,hk,hw⟩
  ·exact .inl hf
  ·refine .inr ⟨c,k,e,e_,hk,λhj2=>I,λi' yY=>?_⟩
   rcases hw with⟨h3,h4⟩|h3
   ·refine .inl ⟨h3,?_⟩
    rw[bQ hB]at h4⊢;have:i<=min i' B.list.length:=I;omega
   ·exact .inr h3
 intro b j hl
 induction hl with
 |@kN b akh hC wj _ ih=>
  obtain⟨B,hB,rfl⟩:=ol hs hC;rcases ih with ih|⟨c,k,e,e_,hk,_,hw⟩
  ·exact .inl ih
  ·refine .inr ⟨c,k,e,e_,hk,λ_=>?_,λi hi=>I⟩
   rcases hw 0 rfl with⟨h3,h4⟩|h3
   ·subst h3
    rw[bQ hB]at h4 hk;rw[Nat.zero_min,ef]at h4;rcases zB (ν:=ν) (n:=Y.params.toNat) hB hk with⟨p,hp,hd⟩|⟨i,x,rfl,_⟩
    ·exact absurd (hd.trans e) (wj p (aq hp))
    ·omega
   ·exact h3
 |@use b i akh x hC hx hu=>
  obtain⟨B,hB,rfl⟩:=ol hs hC;obtain⟨y,hy,rfl⟩:=zC hx;obtain⟨v,hv,h1,h2⟩:=qS hu;rw[Vr]at hv;obtain⟨w,hw,rfl⟩:=aV.1 hv;exact key hB (Nat.le_of_lt (az.1 hy).1) (D_ ((lZ B (aq hB)).list y (aq hy)) w hw) h1 h2 (.inl rfl)
 |@go b i akh x hC hx eQ _ ih=>
  obtain⟨B,hB,rfl⟩:=ol hs hC;rcases ih with ih|⟨c,k,e,e_,hk,_,hw⟩
  ·exact .inl ih
  ·refine .inr ⟨c,k,e,e_,hk,λhj=>I,λi' yY=>?_⟩
   obtain rfl:i=i':=I;have iJ:=(az.1 hx).1;rw[(kw _ _ _ _).1]at iJ;rcases hw (i+1) rfl with⟨h3,h4⟩|h3
   ·refine .inl ⟨h3,?_⟩
    subst h3;rw[bQ hB]at h4 hk⊢;have hki:k≠B.aD.length+i:=λe2=>by
     subst e2;rcases zB (ν:=ν) (n:=Y.params.toNat) hB hk with⟨p,hp,_⟩|⟨i',x',e3,GW,hd⟩
     ·have:=(az.1 hp).1
      rw[(kw _ _ _ _).2]at this;omega
     ·obtain rfl:i=i':=I
      rw[hx]at GW;obtain rfl:=a7 GW;exact eQ (hd.trans e)
    omega
   ·exact .inr h3
 |@on b akh hC hu=>
  obtain⟨B,hB,rfl⟩:=ol hs hC;obtain⟨v,hv,h1,h2⟩:=qS hu;rw[bR.1 hv]at h1 h2;exact key hB (bG _) (lZ B (aq hB)).on h1 h2 (.inl (by rw[(kw _ _ _ _).1]))
 |@take b akh j t hC hk ht B4=>
  obtain⟨B,hB,rfl⟩:=ol hs hC;rw[(kw _ _ _ _).1]at hk;have gF:=(az.1 hB).1;have Zi:b∈aZ W.blocks t:=pt I (by rw[fY hC];exact ht);unfold uH at B4;obtain⟨p,hp,h2⟩:=mW.1 B4;obtain⟨v,hv,h3,h4⟩:=qS h2;rw[bR.1 hv]at h3 h4;unfold fD at hp;cases hT:W.blocks[t]? with
  |none=>rw[hT]at hp;cases hp
  |some T=>
   rw[hT]at hp;simp only at hp;obtain⟨T',Pa,rfl⟩:=ol hs hT;obtain⟨m,hm⟩:=bg hp;obtain⟨q,hq,rfl⟩:=zD hm;have hz:(qL ν (cw Y) Y.params.toNat t m q).src[(aZ W.blocks t).idxOf b]?=(q.src[(aZ W.blocks t).idxOf b]?).map (uF ν (cw Y) Y.params.toNat t ((aZ W.blocks t).idxOf b)):=by
    show(q.src.mapIdx _)[_]?=_;rw[cf]
   rw[hz]at h3 h4;cases vy:q.src[(aZ W.blocks t).idxOf b]? with
   |none=>rw[vy]at h3;cases h3
   |some v0=>
    rw[vy]at h3 h4;simp only[bu,dW]at h3 h4;have hpb:Mu (cw Y) t ((aZ W.blocks t).idxOf b)=b:=by
     unfold Mu;rw[<-uV];have h5:=ju Zi;rw[a_ h5,mN]
     rfl
    unfold uF at h3 h4;rw[hpb,bQ hB]at h3 h4;exact key hB (bG _) (((lZ T' (aq Pa)).aD q (aq hq)).2 v0 (aq vy)) h3 h4 (.inr ⟨rfl,hk⟩)
 |@jump b akh j t hC hk ht _ ih=>
  obtain⟨B,hB,rfl⟩:=ol hs hC;rw[(kw _ _ _ _).1]at hk;have gF:=(az.1 hB).1;rcases ih with ih|⟨c,k,e,e_,hsk,hw,_⟩
  ·exact .inl ih
  ·obtain⟨h3,h4⟩:=hw rfl
   have hed:Edge (cw Y) b t:=by
    unfold Edge;rw[<-oq hs,fY hC];exact ht
   have h5:=h4.ED h3 hed (k8 h b gF);refine .inr ⟨c,k,e,e_,hsk,λhj=>I,λi hi=>?_⟩
   by_cases BY:c=b
   ·subst BY
    refine .inl ⟨rfl,?_⟩;rw[bQ hB]at hsk⊢;have:=Og hsk;omega
   ·exact .inr ⟨BY,h5⟩
theorem Eh(hs:Ek Y W ν){r d:Nat}(h:kR (aN W.blocks d) r=true):∃B k,(cw Y)[d]?=Z B/\Site B k/\ν d k=r:=by
 cases hC:W.blocks[d]? with
 |none=>
  unfold aN at h;rw[hC]at h;simp[kR,kp,px]at h
 |some akh=>
  rw[bQ hC]at h;obtain⟨B,hB,rfl⟩:=ol hs hC;unfold kR at h;rcases Bool.or_eq_true_iff.1 h with h|h
  ·obtain⟨x,hx,e⟩:=mW.1 h
   have e:=of_decide_eq_true e;obtain⟨i,hi⟩:=bg hx;obtain⟨y,hy,rfl⟩:=zC hi;unfold iR at e;simp only at e
   split at e
   ·rename_i h0
    rw[bQ hB]at e;exact⟨B,_,hB,.inr ⟨i,y,rfl,hy,h0⟩,e⟩
   ·omega
  ·unfold kp at h
   obtain⟨p,hp,e⟩:=mW.1 h;have e:=of_decide_eq_true e;obtain⟨i,hi⟩:=bg hp;obtain⟨q,hq,rfl⟩:=zD hi;exact⟨B,i,hB,.inl (az.1 hq).1,e⟩
theorem XW(h:mg Y R)(hs:Ek Y W ν)(lZ:∀B∈cw Y,mh (λr=>0<=r) B){b r:Nat}:¬need W.blocks b r:=λ⟨hm,_,hl⟩=>by
 obtain⟨hg,c_,ii,hlen⟩:=fW h.all;have Zd:W.blocks.length=(cw Y).length:=by rw[hs.blocks,fq]
 have W0:∀{a b:Nat},jY W.blocks a b↔jY (cw Y) a b:=CF (oq hs);have aee:qY W.blocks:=λq t ht=>h.pos q t (by rw[<-ii,<-oq hs];exact ht);have h0:∀y,¬ij W.blocks 0 y:=λy ⟨p,hp,he,_,Nu⟩=>by
  have Xy:y≠0:=λe=>by
   subst e;have:=aee p (0:Nat) he;omega
  rcases Nu with e|e
  ·exact Xy e.symm
  ·exact e ⟨.refl,hp.step he I,.inr (.inl rfl)⟩
 have C8:∀{a:Nat},(a:Int)∈ox W.blocks r->a=0∨kR (aN W.blocks a) r=true:=λ{a} ha=>by
  unfold ox at ha;rcases bD.1 ha with e|ha
  ·exact .inl I
  ·obtain⟨d,hd,e⟩:=aV.1 ha
   have:=(cC.1 hd).2;simp only[Bool.and_eq_true]at this;obtain rfl:d=a:=I;exact .inr this.2
 rcases PU h hs lZ hl with hr|⟨c,k,e,e_,hk,hw,_⟩
 ·have oB:∀d,kR (aN W.blocks d) r=false:=λd=>by
   cases hd:kR (aN W.blocks d) r with
   |false=>rfl
   |true=>
    obtain⟨_,k,_,_,e⟩:=Eh hs hd;have h1:=hs.ge d k;have h2:=h.all.par.1;omega
  have:∀y,¬l7 W.blocks (ox W.blocks r) y:=λy hy=>by
   induction hy with
   |base ha hf=>
    rcases C8 ha with rfl|ha
    ·exact h0 _ hf
    ·rw[oB]at ha;cases ha
   |step _ _ ih=>exact ih
  exact this b hm
 ·obtain⟨h1,h2⟩:=hw rfl
  obtain⟨akh,hC⟩:=bf (cw Y) c e_;rw[bQ hC]at hk;have wO:∀d,kR (aN W.blocks d) r=true->d=c:=λd hd=>by
   obtain⟨B,k',hB,Bj,e'⟩:=Eh hs hd;exact(hs.inj d c k' k B akh hB hC Bj hk (e'.trans e.symm)).1
  have:∀y,l7 W.blocks (ox W.blocks r) y->¬(c≠y/\jY W.blocks c y):=λy hy=>by
   induction hy with
   |@base a y ha hf=>
    rintro⟨h3,h4⟩;rcases C8 ha with rfl|ha
    ·exact h0 _ hf
    ·have:=wO _ ha
     subst this;obtain⟨_,_,_,_,Nu⟩:=hf;rcases Nu with e2|e2
     ·exact h3 e2
     ·exact e2 h4
   |@step akj y _ hf ih=>
    rintro⟨h3,h4⟩;obtain⟨p,hp,he,hd,Nu⟩:=hf;have h5:=h4.ED h3 he hp;rcases hd.chain h5 with h6|h6
    ·rcases Nu with e2|e2
     ·subst e2
      exact h3 (h4.antisymm h6)
     ·exact e2 (h6.trans h4)
    ·by_cases e3:c=akj
     ·subst e3
      rcases Nu with e2|e2
      ·exact h3 e2
      ·exact e2 h4
     ·exact ih ⟨e3,h6⟩
  exact this b hm ⟨h1,W0.2 h2⟩
theorem UA(h:mg Y R)(hs:Ek Y W ν)(lZ:∀B∈cw Y,mh (λr=>0<=r) B):cw W=W.blocks:=by
 unfold cw;apply ci;intro b;cases hb:W.blocks[b]? with
 |none=>rw[bO (by rw[e7];exact kD.1 hb)]
 |some B=>rw[gG hb,um λr _=>XW h hs lZ,cD]
end
theorem JR{ps:List ep}{r:Int}{k:Nat}{p:ep}(hp:ps[k]?=Z p)(hd:p.dst=r):∀n,k<n->oF ps r n≠A
 |n+1,h=>by
  unfold oF
  split
  ·simp
  ·rename_i h1
   by_cases e:n=k
   ·subst e
    exact absurd (by rw[hp,<-hd];rfl) h1
   ·exact JR hp hd n I
theorem B7{α β:Type}{f:Nat->α->β}{g:α->β}{l:List α}(h:∀i x,l[i]?=Z x->f i x=g x):l.mapIdx f=l.map g:=by
 apply ci;intro i;rw[cf,aJ];cases hx:l[i]? with
 |none=>rfl
 |some x=>exact congrArg Z (h i x hx)
section
variable {Y W:aY} {R RW:Nat} {ν μ:Nat->Nat->Int}
theorem Va{n b k:Nat}{P:List E}{B:E}(h0:∀b k,0<=ν b k)(hk:Site B k):Site (fX ν P n b B) k:=by
 rcases hk with hk|⟨i,x,rfl,hx,hd⟩
 ·exact .inl (by rw[(kw _ _ _ _).2];exact hk)
 ·refine .inr ⟨i,iR ν P n b i x,by rw[(kw _ _ _ _).2],?_,?_⟩
  ·unfold fX
   simp only;rw[cf,hx]
   rfl
  ·unfold iR
   simp only;rw[if_pos hd];exact h0 _ _
theorem CD(hs:Ek Y W ν){r:Int}(hr:0<=r){b:Nat}:∀{i k:Nat},kj (aN W.blocks b) r i=Z k->∃B,(cw Y)[b]?=Z B/\Site B k/\ν b k=r
 |0,k,h=>by
  cases hC:W.blocks[b]? with
  |none=>
   have:=(pj h).1;unfold aN at this;rw[hC]at this;simp[px]at this
  |some akh=>
   obtain⟨h1,p,hp,hd⟩:=pj h;rw[bQ hC]at hp h1;obtain⟨B,hB,rfl⟩:=ol hs hC;obtain⟨q,hq,rfl⟩:=zD hp;exact⟨B,hB,.inl (az.1 hq).1,hd⟩
 |i+1,k,h=>by
  unfold kj at h
  split at h
  ·rename_i h1
   obtain⟨x,hx,hd⟩:=cA.1 h1;cases hC:W.blocks[b]? with
   |none=>
    unfold aN at hx;rw[hC]at hx;simp[px]at hx
   |some akh=>
    rw[bQ hC]at hx h;obtain⟨B,hB,rfl⟩:=ol hs hC;obtain⟨y,hy,rfl⟩:=zC hx;have hk:=a7 h;rw[(kw _ _ _ _).2]at hk;subst hk;unfold iR at hd;simp only at hd
    split at hd
    ·rename_i h0
     rw[bQ hB]at hd;exact⟨B,hB,.inr ⟨i,y,rfl,hy,h0⟩,hd⟩
    ·omega
  ·exact CD hs hr h
theorem E5(hs:Ek Y W ν){b k:Nat}{B:E}(hB:(cw Y)[b]?=Z B)(hk:Site B k):∀{i:Nat},k<B.aD.length+i->kj (aN W.blocks b) (ν b k) i≠A
 |0,hi=>by
  have hC:W.blocks[b]?=Z (fX ν (cw Y) Y.params.toNat b B):=by rw[hs.blocks];exact gz hB
  rw[bQ hC];unfold kj;rcases zB (ν:=ν) (n:=Y.params.toNat) hB hk with⟨p,hp,hd⟩|⟨i,x,e,_⟩
  ·exact JR hp hd _ (by rw[(kw _ _ _ _).2];omega)
  ·omega
 |i+1,hi=>by
  have hC:W.blocks[b]?=Z (fX ν (cw Y) Y.params.toNat b B):=by rw[hs.blocks];exact gz hB
  unfold kj
  split
  ·simp
  ·rename_i h1
   by_cases e:k=B.aD.length+i
   ·exfalso
    apply h1;rw[bQ hC];rcases zB (ν:=ν) (n:=Y.params.toNat) hB hk with⟨p,hp,_⟩|⟨i',x,e2,hx,hd⟩
    ·have:=(az.1 hp).1
     rw[(kw _ _ _ _).2]at this;omega
    ·obtain rfl:i=i':=I
     rw[hx,<-hd]
     rfl
   ·exact E5 hs hB hk I
variable (h:mg Y R) (hs:Ek Y W ν) (hg:cT W.blocks) (An:0<W.blocks.length)
include h hs in
theorem zu{b:Nat}(hb:b<(cw Y).length):gH W.blocks (-1) 0 b:=(uB (oq hs)).2 (k8 h b hb)
include h hs hg An
theorem NR{c k:Nat}:∀(g b i:Nat),CH W.blocks b<=g->b<(cw Y).length->Rp (cw Y) b ((aN (cw Y) b).aD.length+i) c k->nm μ W.blocks Y.params.toNat b i (ν c k)=⟨true,μ c k⟩
 |0,b,i,hd,hb,_=>by have:=(mR hg An (zu h hs hb)).1;omega
 |g+1,b,i,hd,hb,hw=>by
  have Ft:=zu h hs hb;have W0:∀{a b:Nat},jY W.blocks a b↔jY (cw Y) a b:=CF (oq hs);have gP:=hs.ge c k;have o_:=h.all.par;obtain⟨e_,hk,hw⟩:=hw;obtain⟨akh,hC⟩:=bf (cw Y) c e_;rw[bQ hC]at hk;rw[T9 hg An Ft];cases hdf:kj (aN W.blocks b) (ν c k) i with
  |some k'=>
   simp only;obtain⟨B,hB,Bj,e⟩:=CD hs I hdf;obtain⟨e1,e2⟩:=hs.inj b c k' k B akh hB hC Bj hk e;rw[e1,e2]
  |none=>
   simp only;rcases hw with⟨e1,h1⟩|⟨eQ,Ko⟩
   ·subst e1
    rw[bQ hC]at h1;exact absurd hdf (E5 hs hC hk h1)
   ·have uZ:b≠0:=λe=>by
     subst e;exact eQ (sU Ko)
    obtain⟨d,Zv⟩:=ug hg An Ft uZ;have Fl:d<(cw Y).length:=by
     have:=hg.zQ An Zv.1.1;rw[hs.blocks,fq]at this;exact this
    have af4:CH W.blocks d+1=CH W.blocks b:=s9 hg An Zv;have xF:jY W.blocks c d:=Zv.2.2 c (W0.2 Ko) eQ;rw[iw Zv,if_neg I,dO];obtain⟨akf,hD⟩:=bf (cw Y) d Fl;have hWd:W.blocks[d]?=Z (fX ν (cw Y) Y.params.toNat d akf):=by rw[hs.blocks];exact gz hD
    refine NR g d _ I Fl ⟨e_,by rw[bQ hC];exact hk,?_⟩
    by_cases e:c=d
    ·subst e
     refine .inl ⟨rfl,?_⟩;rw[hC]at hD;obtain rfl:=a7 hD;rw[bQ hWd,bQ hC,(kw _ _ _ _).1];exact Og hk
    ·exact .inr ⟨e,W0.1 xF⟩
theorem NS{r:Int}(h0:0<=r)(hr:r<Y.params.toNat):∀(g b i:Nat),CH W.blocks b<=g->b<(cw Y).length->nm μ W.blocks Y.params.toNat b i r=⟨true,r⟩
 |0,b,i,hd,hb=>by have:=(mR hg An (zu h hs hb)).1;omega
 |g+1,b,i,hd,hb=>by
  have Ft:=zu h hs hb;have o_:=h.all.par;rw[T9 hg An Ft];cases hdf:kj (aN W.blocks b) r i with
  |some k'=>
   obtain⟨B,hB,Bj,e⟩:=CD hs h0 hdf;have:=hs.ge b k';omega
  |none=>
   simp only
   by_cases ht:cS W.blocks b<0
   ·rw[if_pos ht,if_pos hr]
   ·rw[if_neg ht]
    obtain⟨h1,h2⟩:=Gt hg An Ft ht;have Zd:W.blocks.length=(cw Y).length:=by rw[hs.blocks,fq]
    have Fl:(cS W.blocks b).toNat<(cw Y).length:=by
     have:=hg.zQ An h1.zQ;omega
    exact NS h0 hr g _ _ I Fl
theorem tk{b i:Nat}(hb:b<(cw Y).length){v:cg}(hv:qZ (λr=>0<=r) v):k7 μ W.blocks Y.params.toNat b i (k7 ν (cw Y) Y.params.toNat b i v)=BM (rB ν μ (cw Y)) (k7 ν (cw Y) Y.params.toNat b i v):=by
 obtain⟨Zs,aed,_,_⟩:=fW h.all;have o_:=h.all.par;have yj:∀w:cg,w.z=false->k7 μ W.blocks Y.params.toNat b i w=BM (rB ν μ (cw Y)) w:=λw hw=>by
  unfold k7 BM;rw[hw]
  rfl
 by_cases h1:v.z=true
 ·have e0:k7 ν (cw Y) Y.params.toNat b i v=nm ν (cw Y) Y.params.toNat b i v.n:=by unfold k7;rw[if_pos h1]
  rw[e0];rcases AA (ν:=ν) (n:=Y.params.toNat) Zs aed (hv h1) _ b i (bG _) (k8 h b hb)with⟨c,k,e,hw⟩|⟨e,h2⟩|e
  ·rw[e]
   obtain⟨akh,hC⟩:=bf (cw Y) c hw.1;have hk:=hw.2.1;rw[bQ hC]at hk;show nm μ W.blocks Y.params.toNat b i (ν c k)=⟨true,rB ν μ (cw Y) (ν c k)⟩;rw[NR h hs hg An _ b i (bG _) hb hw,AB hs.inj hC hk]
  ·rw[e]
   show nm μ W.blocks Y.params.toNat b i v.n=⟨true,rB ν μ (cw Y) v.n⟩;rw[NS h hs hg An (hv h1) h2 _ b i (bG _) hb,JK (n:=Y.params.toNat) (λb k=>by have:=hs.ge b k;omega) h2]
  ·rw[e]
   exact yj iu rfl
 ·have e0:k7 ν (cw Y) Y.params.toNat b i v=v:=by unfold k7;rw[if_neg h1]
  rw[e0];exact yj v (ax h1)
theorem ME(lZ:∀B∈cw Y,mh (λr=>0<=r) B):ms μ W.blocks Y.params.toNat=W.blocks.map (zr (rB ν μ (cw Y))):=by
 have o_:=h.all.par;have Zd:W.blocks.length=(cw Y).length:=by rw[hs.blocks,fq]
 have uV:∀t,aZ W.blocks t=aZ (cw Y) t:=pY Zd (oq hs);have ZA:∀c,(aN W.blocks c).list.length=(aN (cw Y) c).list.length/\(aN W.blocks c).aD.length=(aN (cw Y) c).aD.length:=λc=>by
  by_cases hc:c<(cw Y).length
  ·obtain⟨akh,hC⟩:=bf (cw Y) c hc
   have hWc:W.blocks[c]?=Z (fX ν (cw Y) Y.params.toNat c akh):=by rw[hs.blocks];exact gz hC
   rw[bQ hWc,bQ hC];exact kw _ _ _ _
  ·rw[kG I,kG hc]
   exact⟨rfl,rfl⟩
 unfold ms;refine B7 λb akh hC=>?_;obtain⟨B,hB,rfl⟩:=ol hs hC;have gF:=(az.1 hB).1;have hR:=lZ B (aq hB);have wj:=(ZA b).2;rw[bQ hB]at wj;have r6:∀k,Site B k->rB ν μ (cw Y) (ν b k)=μ b k:=λk hk=>AB hs.inj hB hk;have e1:(fX ν (cw Y) Y.params.toNat b B).aD.mapIdx (qL μ W.blocks Y.params.toNat b)=(fX ν (cw Y) Y.params.toNat b B).aD.map (Kv (rB ν μ (cw Y))):=by
  refine B7 λi p hp=>?_;obtain⟨q,hq,rfl⟩:=zD hp;unfold qL Kv;simp only[ep.mk.injEq];refine⟨(r6 i (.inl (az.1 hq).1)).symm,?_⟩;refine B7 λj v hv=>?_;rw[cf]at hv;obtain⟨v0,vy,rfl⟩:=cA.1 hv;have hpe:Mu W.blocks b j=Mu (cw Y) b j:=by unfold Mu;rw[uV]
  have Fq:Mu (cw Y) b j<(cw Y).length:=by
   unfold Mu;cases hz:(aZ (cw Y) b)[j]? with
   |none=>
    show(0:Nat)<_;omega
   |some a=>
    have:=aq hz;unfold aZ at this;exact cM.1 (cC.1 this).1
  unfold uF;rw[hpe,(ZA _).1];exact tk h hs hg An Fq ((hR.aD q (aq hq)).2 v0 (aq vy))
 have e2:(fX ν (cw Y) Y.params.toNat b B).list.mapIdx (iR μ W.blocks Y.params.toNat b)=(fX ν (cw Y) Y.params.toNat b B).list.map (Qs (rB ν μ (cw Y))):=by
  refine B7 λi x hx=>?_;obtain⟨y,hy,rfl⟩:=zC hx;have hI:=hR.list y (aq hy);have ha:=tk (μ:=μ) (i:=i) h hs hg An gF hI.a;have xd:=tk (μ:=μ) (i:=i) h hs hg An gF hI.b;have ri:(y.args.map (k7 ν (cw Y) Y.params.toNat b i)).map (k7 μ W.blocks Y.params.toNat b i)=(y.args.map (k7 ν (cw Y) Y.params.toNat b i)).map (BM (rB ν μ (cw Y))):=by
   rw[dE,dE];exact dD λv hv=>tk h hs hg An gF (hI.args v hv)
  have vw:(if 0<=(iR ν (cw Y) Y.params.toNat b i y).dst then μ b ((aN W.blocks b).aD.length+i)else(iR ν (cw Y) Y.params.toNat b i y).dst)=rnR (rB ν μ (cw Y)) (iR ν (cw Y) Y.params.toNat b i y).dst:=by
   unfold iR rnR;simp only
   by_cases h0:0<=y.dst
   ·have h1:=hs.ge b (B.aD.length+i)
    rw[if_pos h0,bQ hB,wj,if_pos I,if_pos I];exact(r6 _ (.inr ⟨i,y,rfl,hy,h0⟩)).symm
   ·rw[if_neg h0,if_neg h0,if_neg h0]
  unfold iR at vw⊢;unfold Qs;simp only at vw⊢;rw[ha,xd,ri,vw]
 have e3:k7 μ W.blocks Y.params.toNat b (fX ν (cw Y) Y.params.toNat b B).list.length (fX ν (cw Y) Y.params.toNat b B).on=BM (rB ν μ (cw Y)) (fX ν (cw Y) Y.params.toNat b B).on:=by
  rw[(kw _ _ _ _).1];exact tk h hs hg An gF hR.on
 have key:∀akh:E,akh.aD.mapIdx (qL μ W.blocks Y.params.toNat b)=akh.aD.map (Kv (rB ν μ (cw Y)))->akh.list.mapIdx (iR μ W.blocks Y.params.toNat b)=akh.list.map (Qs (rB ν μ (cw Y)))->k7 μ W.blocks Y.params.toNat b akh.list.length akh.on=BM (rB ν μ (cw Y)) akh.on->fX μ W.blocks Y.params.toNat b akh=zr (rB ν μ (cw Y)) akh:=λakh h1 h2 h3=>by
  unfold fX zr;rw[h1,h2,h3]
 exact key _ e1 e2 e3
end
theorem Mb{W:aY}{R:Nat}(h:jF W R)(ho:bI W.blocks=List.range W.blocks.length)(hm:gi W.params.toNat W.blocks=eO W.aB.toNat):en W=W:=by
 have h1:c9 W=W.blocks:=by unfold c9;rw[ho];exact y8 h.ok
 have lZ:=h.aB;unfold en;rw[h1,hm];have h3:W.blocks.map (iQ (eO W.aB.toNat))=W.blocks:=by
  conv=>rhs;rw[<-ll W.blocks]
  refine dD λB hB=>DM (λr hr=>?_) (h.Vp B hB);have:=qV h.ok hB hr;exact jm.2 I
 rw[h3,mH,Int.toNat_of_nonneg I]
theorem QE{Y W:aY}{R RW:Nat}{ν:Nat->Nat->Int}(h:mg Y R)(hW:mg W RW)(hs:Ek Y W ν)(lZ:∀B∈cw Y,mh (λr=>0<=r) B)(hp:W.params=Y.params):en (eJ W)=en W:=by
 have Jf:=UA h hs lZ;have o_:=h.all.par;have Es:=qk hW;have e1:(eJ W).blocks=W.blocks.map (zr (rB ν (mT (cw W) W.params.toNat) (cw Y))):=by
  show ms (mT (cw W) W.params.toNat) (cw W) W.params.toNat=_;generalize mT (cw W) W.params.toNat=μ;rw[Jf,hp];exact ME h hs hW.all.ok.iM hW.all.pos lZ
 have gP:=hs.ge;have xG:=Es.ge;rw[hp]at xG;have C5:=Es.inj;rw[Jf]at C5;have S7:∀{b k:Nat} {B:E},(cw Y)[b]?=Z B->Site B k->∃akh,W.blocks[b]?=Z akh/\Site akh k:=λ{b k B} hB hk=>⟨_,by rw[hs.blocks];exact gz hB,Va (λb k=>by have:=gP b k;omega) hk⟩;have hf:Rj (rB ν (mT (cw W) W.params.toNat) (cw Y)) (DNu ν (cw Y) W.params.toNat) W.params.toNat:=by
  rw[hp]at C5⊢;rw[Jf]at xG⊢;generalize mT W.blocks Y.params.toNat=μ at C5 xG⊢;have Xn:∀{b k:Nat} {B:E},(cw Y)[b]?=Z B->Site B k->rB ν μ (cw Y) (ν b k)=μ b k:=λhB hk=>AB hs.inj hB hk;have hpf:∀{x:Int},x<Y.params.toNat->rB ν μ (cw Y) x=x:=λhx=>JK (n:=Y.params.toNat) (λb k=>by have:=gP b k;omega) hx;refine⟨λa c ha hc e=>?_,λr h0 hr=>⟨.inl ⟨h0,hr⟩,hpf hr⟩,λr hr=>?_⟩
  ·rcases ha with⟨WU,ha⟩|⟨b,B,k,hB,hk,rfl⟩
   ·rcases hc with⟨Em,hc⟩|⟨c,akh,k',hC,Bj,rfl⟩
    ·rw[hpf ha,hpf hc]at e;exact e
    ·rw[hpf ha,Xn hC Bj]at e
     have:=xG c k';omega
   ·rcases hc with⟨Em,hc⟩|⟨c,akh,k',hC,Bj,rfl⟩
    ·rw[hpf hc,Xn hB hk]at e
     have:=xG b k;omega
    ·rw[Xn hB hk,Xn hC Bj]at e
     obtain⟨B',sZ,hkB⟩:=S7 hB hk;obtain⟨C',hC',hkC⟩:=S7 hC Bj;obtain⟨rfl,rfl⟩:=C5 b c k k' B' C' sZ hC' hkB hkC e
     rfl
  ·rcases hr with⟨h0,hr⟩|⟨b,B,k,hB,hk,rfl⟩
   ·rw[hpf hr];exact⟨h0,h0⟩
   ·rw[Xn hB hk]
    have h1:=gP b k;have h2:=xG b k;omega
 refine P4 (X:=W) (Y:=eJ W) hf ?_ rfl rfl e1;rw[hp,hs.blocks];exact DX lZ
theorem P_{u:a8}(hu:Whole u)(sE:∀X∈u.funcs,gp (j0 X)=false){k:Nat}{X:aY}(hX:u.funcs[k]?=Z X):j0 (j0 X)=j0 X:=by
 have hY:(oL u).funcs[k]?=Z (cn X):=by rw[l5,hX];rfl
 obtain⟨R,hP⟩:=mK hu k _ hY;obtain⟨ν,hs⟩:=NY hu sE hX;obtain⟨_,hA,Lq,_⟩:=AD hu sE hX;have lZ:∀B∈cw (cn X),mh (λr=>0<=r) B:=λB hB=>(vU hP ((kB hu).1.ok.body _ (aq hY)) B hB).mono λr hr=>hr.1;have hW:(oE u).funcs[k]?=Z (j0 X):=by unfold oE;simp only[aJ,hX,bu]
 have LH:=(tm hu sE).1;have ht:=Uq hu sE hX;obtain⟨R3,hA3⟩:=vl LH.ok hW;obtain⟨RW,hPW⟩:=mK LH k (j0 X) (by rw[l5,hW,bu,ht]);have hn:en (j0 X)=j0 X:=by
  have ho:=vI hA;have hm:=FM hA;have e:j0 X=en (eJ (cn X)):=rfl;rw[e]at hA3⊢;generalize eJ (cn X)=aj9 at*;exact Mb hA3 ho hm
 have e1:j0 (j0 X)=en (eJ (j0 X)):=by
  show en (eJ (cn (j0 X)))=_;rw[ht]
 rw[e1,QE hP hPW hs lZ rfl,hn]
end
end Go.Proofs.YthfhgolkafpmnaaGreatDoor
