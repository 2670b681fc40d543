/- Texts joined: CheckD Ahead CheckC CheckE CheckF Check Ask. -/
import Derived.Test.YthfhgolkafpmnaaGreatDoorGB
namespace Go.Proofs.YthfhgolkafpmnaaGreatDoor
open Go.Value renaming int->U,slice->J,pointer->ar,string->G,bool->D,agg->au
open Go.IntKind renaming i64->O
open Option renaming some->Z,none->A
open Go renaming Value->V,World->C
open Go.Proofs.Tryz
open Go.Proofs.Tryz renaming prog->ae
open Go Go.RowKit
section
set_option maxHeartbeats 8000000
attribute [local irreducible] wpListIn Code.wpIn Exit.then Exit.inBlock bodyPost wpQuiet wpAnyIn
def nI:List V:=[U O 0,U O 0,U O 1,U O 2]
theorem acH(g fs nm pa ah:V)(bn bc:Nat)(ba:Option Addr)(pR:bn<=100)(aB:Int)(hr:0<=aB/\aB<=100)(kind:Int)(on:cg)(to:List Int)(tv:V)(w0:C)(ht:aG w0 tv 1 to fI)(hw:bF w0 0 0 nI):
  eP ae 70 [au #[g,fs,nm,pa,U O aB,J ba bn bc,ah],au #[U O kind,D on.z,U O on.n,tv]] w0 (U O (wI bn aB kind on to)):=by
 have Ks:=ht;obtain⟨ta,tn,tc,tb,AP,rfl,uW,GV,GU,Xq,yk,tZ⟩:=ht;refine aM func70 rfl ntmps70 rfl (Wd.nil cX w0) ?_
 repeat(first|refine aH ?_|refine dZ λ_ _=>?_)
 refine bB rfl (λw _=>jX _ _ _ w) ?_;refine aU ?_;refine aI (λh1=>?_) (λh1=>?_)
 ·refine aE ?_
  exact bP rfl (by simp only[wI,h1];rfl)
 have hwk:within kind 1 3=true:=ax h1;have hkr:1<=kind/\kind<=3:=by simpa[within]using hwk
 obtain⟨i,hi⟩:∃i:Nat,kind=i:=⟨kind.toNat,I⟩;have hni:lB kind i:=⟨hi⟩;have lY:bY i 4:=⟨I⟩;have n_:zR w0 0 (0+i*1) (U O (kind-1)):=⟨by
  have:i=1∨i=2∨i=3:=I;rw[hi];rcases this with rfl|rfl|rfl
  ·exact hw 1 _ rfl
  ·exact hw 2 _ rfl
  ·exact hw 3 _ rfl⟩
 refine aU ?_;rename_i p2 _ p3 _;refine jj mixed aR ?_;refine iH ?_;refine aU ?_;refine aI (λh2=>?_) (λh2=>?_)
 ·refine aE ?_
  refine bP rfl ?_;have:(to.length:Int)≠kind-1:=by rw[<-uW];simpa using h2
  simp only[wI,hwk,if_pos this]
  rfl
 have xE:¬(to.length:Int)≠kind-1:=by rw[<-uW];simpa using h2
 refine aU ?_;refine bB rfl (λw hw=>Gq (f:=116) [ar (Z ⟨p2,0,A⟩)] (λt=>!within t 1 (bn-1)) _ to w (Ks.bZ dP hw.ch) λw1 l9 x _=>RG _ _ _ _ _ _ bn bc p2 ba pR x w1 ((hw.gL p2).bZ l9)) ?_;refine aU ?_;refine aI (λh3=>?_) (λh3=>?_)
 ·refine aE ?_
  exact bP rfl (by simp only[wI,hwk,if_neg xE,h3];rfl)
 refine aU ?_;refine jj mixed aR ?_;refine iH ?_;have fin:∀(bq:Bool),bq=((decide (kind=3)&&decide (to[0]?.getD 0=to[1]?.getD 0))||(decide (kind=2)&& !jo on))->
   wI bn aB kind on to=if bq then 5 else dV aB on:=by
  intro bq hb;subst hb;simp only[wI,hwk,if_neg xE,h3]
  rfl
 generalize VQ:decide (kind=3)=k3;cases k3
 ·refine iH ?_
  generalize C6:decide (kind=2)=k2;cases k2
  ·refine iH ?_
   refine aH ?_;refine bB rfl (λw _=>Ea _ _ _ _ _ _ aB hr on w) ?_;refine aH ?_;exact bP rfl (by rw[fin false (by simp[VQ,C6])];rfl)
  ·refine iH ?_
   refine aU ?_;refine aI (λh4=>?_) (λh4=>?_)
   ·refine aE ?_
    exact bP rfl (by rw[fin true (by simp only[VQ,C6,jo];simpa using h4.symm)];rfl)
   ·refine aH ?_
    refine bB rfl (λw _=>Ea _ _ _ _ _ _ aB hr on w) ?_;refine aH ?_;exact bP rfl (by rw[fin false (by simp only[VQ,C6,jo];simpa using h4.symm)];rfl)
 ·have agu:kind=3:=ax VQ
  have zP:tn=2:=by have:=xE;rw[<-uW]at this;omega
  obtain⟨x0,Eu⟩:=et uW (show 0<tn by omega);obtain⟨x1,BI⟩:=et uW (show 1<tn by omega);have oW:bU ta tb AP:=⟨yk (aL Eu)⟩;have BF:bY 0 tn:=⟨I⟩;have ly:bY 1 tn:=⟨I⟩;obtain⟨cs0,afW,rfl,_⟩:=tZ 0 x0 Eu;obtain⟨cs1,afX,rfl,_⟩:=tZ 1 x1 BI;have Em:a6 w0 tb (AP+0*1) _:=⟨afW⟩;have Pj:a6 w0 tb (AP+1*1) _:=⟨afX⟩;have C6:decide (kind=2)=false:=by simp[agu]
  refine iH ?_;generalize hx:decide (x0=x1)=xx;have acJ:∀bq:Bool,xx=bq->wI bn aB kind on to=if bq then 5 else dV aB on:=λbq hb=>by
   refine fin bq ?_;rw[VQ,C6,Eu,BI];simp[hx,hb]
  cases xx
  ·refine iH ?_
   generalize agt:decide (kind=2)=k2;obtain rfl:k2=false:=by rw[<-agt,C6]
   refine iH ?_;refine aH ?_;refine bB rfl (λw _=>Ea _ _ _ _ _ _ aB hr on w) ?_;refine aH ?_;exact bP rfl (by rw[acJ false rfl];rfl)
  ·refine iH ?_
   refine aE ?_;exact bP rfl (by rw[acJ true rfl];rfl)
def cN(w:C)(l:List Int)(cs:List V):Prop:=∃v,cs=[v]/\aG w v 1 l fI
theorem aeS(g fs nm pa bs ah:V)(aB:Int)(hr:0<=aB/\aB<=100)(rows:List (List Int))(row:List Int)(block:Nat)(gr:rows[block]?=Z row)(p:ep)(sv:V)(w0:C)(Pd:aG w0 ah 1 rows cN)(hs:aG w0 sv 2 p.src mi):
  eP ae 72 [au #[g,fs,nm,pa,U O aB,bs,ah],U O block,au #[U O p.dst,sv]] w0 (U O (zk aB block row.length p)):=by
 obtain⟨aa,an,ac,ab,ao,rfl,HE,IQ,aaI,Zf,IN,Ad⟩:=Pd;obtain⟨va,vn,vc,vb,vo,rfl,HM,abF,aeE,ZX,oC,Jl⟩:=hs;obtain⟨cs,fT,rv,rfl,y7⟩:=Ad block row gr;obtain⟨ra,rn,rc,rb,ro,rfl,yj,_⟩:=y7;have gF:block<rows.length:=(az.1 gr).1;have oW:bU aa ab ao:=⟨IN (aL gr)⟩;have lY:bY block an:=⟨I⟩;have n_:a6 w0 ab (ao+block*1) _:=⟨fT⟩;refine aM func72 rfl ntmps72 rfl (Wd.nil cX w0) ?_
 repeat(first|refine aU ?_|refine dZ λ_ _=>?_)
 refine aI (λh1=>?_) (λh1=>?_)
 ·refine aE ?_
  exact bP rfl (by rw[zk,if_pos (ax h1)])
 have GG:¬(block:Int)=0:=ax h1;refine aH ?_;refine bB rfl (λw _=>Y2 _ _ _ _ _ _ aB hr _ w) ?_;refine aU ?_;refine aI (λh2=>?_) (λh2=>?_)
 ·refine aE ?_
  exact bP rfl (by rw[zk,if_neg GG,if_pos (ax h2)])
 have xE:¬(km aB p.dst≠0):=ax h2;refine aH ?_;refine jj mixed aR ?_;refine iH ?_;refine aU ?_;refine aI (λh3=>?_) (λh3=>?_)
 ·refine aE ?_
  exact bP rfl (by rw[zk,if_neg GG,if_neg xE,if_pos (by rw[<-yj,<-HM];simpa using h3)])
 have SB:zk aB block row.length p=(eh (j4 p.src (dV aB)) p.src.length).1:=by rw[zk,if_neg GG,if_neg xE,if_neg (by rw[<-yj,<-HM];simpa using h3)]
 rw[SB];refine aH ?_;rename_i p3 _ p5 _;refine bL (λ(i:Nat)=>i<=vn/\∀j,j<i->j4 p.src (dV aB) j=0) (λi=>[(33,U O i),(31,J va vn vc),(32,U O vn),aj 3 p3]) (λ_=>[K p3 [g,fs,nm,pa,U O aB,bs,J aa an ac] 71]) (λi=>vn-i) 0 ⟨aT _,by simp⟩ (aS ap aC) λi ⟨hi,cU⟩=>?_;refine aU ?_;refine aI (λh1=>?_) (λh1=>?_)
 ·have bS:i<vn:=ax h1
  obtain⟨y,hy⟩:=et HM bS;have oW:bU va vb vo:=⟨oC (aL hy)⟩;have lY:bY i vn:=⟨bS⟩;obtain⟨cs,fT,rfl,hyi⟩:=Jl i y hy;have n_:a6 w0 vb (vo+i*2) _:=⟨fT⟩;have oX:j4 p.src (dV aB) i=dV aB y:=by simp[j4,hy]
  repeat(first|refine aE ?_|refine dZ λ_ _=>?_)
  refine bB rfl (λw _=>Ea _ _ _ _ _ _ aB hr y w) ?_;refine aU ?_;refine aI (λh2=>?_) (λh2=>?_)
  ·refine aE ?_
   refine bP rfl ?_;rw[gT cU (HM▸bS) (by rw[oX];simpa using h2),oX]
  ·refine aH ?_
   refine bj (i+1) ⟨bS,λj hj=>?_⟩ I ap aC
   by_cases yZ:j=i
   ·subst yZ;rw[oX];simpa using h2
   ·exact cU j I
 ·have gP:i=vn:=by have:=h1;simp at this;omega
  refine aE ?_;exact bP rfl (by rw[<-HM,<-gP,gh cU])
theorem Wd.pack{S:Nat->Prop}{w0 w:C}{akg H:List bN}(h:Wd S w0 (akg++H) w)(F:C->Prop)(hF:∀w2,Wd (cH akg) w2 akg w2->F w2):Wd S w0 (⟨cH akg,F⟩::H) w:=by
 have vv:=jI.1 h.apart;refine⟨h.ch,?_,?_,?_⟩
 ·intro e he b hb
  rcases bD.1 he with rfl|he
  ·obtain⟨x,hx,BJ⟩:=hb
   exact h.own x (ct _ hx) b BJ
  ·exact h.own e (de _ he) b hb
 ·intro e he w2 Q9 jg
  rcases bD.1 he with rfl|he
  ·refine hF w2 ⟨l_.refl _ _,λx hx b hb=>⟨.inl ⟨x,hx,hb⟩,?_⟩,λx hx w3 hs3 Xu=>?_,vv.1⟩
   ·by_cases bS:b<w2.heap.size
    ·exact bS
    ·have h1:=jg b ⟨x,hx,hb⟩
     rw[xu I]at h1;have h2:=(h.own x (ct _ hx) b hb).2;rw[Array.getElem?_eq_getElem h2]at h1;cases h1
   ·exact h.ok x (ct _ hx) w3 (du Q9 hs3) λb hb=>(Xu b hb).trans (jg b ⟨x,hx,hb⟩)
  ·exact h.ok e (de _ he) w2 Q9 jg
 ·refine ew.2 ⟨λf hf b ⟨x,hx,BJ⟩ u1=>vv.2.2 x hx f hf b BJ u1,vv.2.1⟩
structure Row where
 a:Option Addr
 c:Nat
 l:List Int
def fG(r:Row):V:=.slice r.a r.l.length r.c
def ie(r:Row):bN:=M r.a r.l.length r.c 3 1 (r.l.map (U O))
theorem ru{α β:Type}{f:α->β}{g:β->β}{l:List α}{k:Nat}{r r':α}(h:l[k]?=Z r)(hr:f r'=g (f r)):(l.set k r').map f=(l.map f).modify k g:=by
 apply ci;intro i;rw[aJ,ez,mM,aJ]
 by_cases hi:k=i
 ·subst hi
  have bS:k<l.length:=(az.1 h).1;have h2:=(az.1 h).2;simp[bS,hr,h2]
 ·simp[hi]
theorem Ht{S:Nat->Prop}{w0 w:C}{rs:List Row}{bo n e:Nat}{H:List bN}(h:Wd S w0 (M (Z ⟨bo,0,A⟩) n n e 1 (rs.map fG)::(rs.map ie++H)) w)(hn:n=rs.length)(hb:n<=100)(hl:∀r∈rs,r.l.length<=1000/\∀x∈r.l,dk x):
  aG w (J (Z ⟨bo,0,A⟩) n n) 1 (rs.map (·.l)) cN:=by
 refine h.oH (k:=0) rfl (ax hn) I λi x hx=>?_;rw[aJ]at hx;obtain⟨r,hr,rfl⟩:=cA.1 hx;have bS:i<rs.length:=(az.1 hr).1;have nO:=hl r (aq hr);refine⟨[fG r],λj v hj=>?_,fG r,rfl,?_⟩
 ·match j,hj with
  |0,hj=>simpa[hr]using hj
 ·refine h.oH (k:=i+1) (a:=r.a) (n:=r.l.length) (c:=r.c) (e:=3) (s:=1) (xs:=r.l.map (U O)) ?_ rfl I λj y hy=>⟨[U O y],λk v hk=>?_,rfl,nO.2 y (aq hy)⟩
  ·rw[pG,dY (ax bS),aJ,hr];rfl
  ·match k,hk with
   |0,hk=>simpa[hy]using hk
def YG(n:Nat)(l:List Int):Prop:=l.length<=2/\∀t∈l,0<=t/\t<n
theorem MV(nm pa re:V)(bl:List E)(bs:V)(w0:C)(m_:aG w0 bs 6 bl ed)(hlen:bl.length<=100)(cY:∀b∈bl,YG bl.length b.to):
  iC ae 71 [au #[nm,pa,re,bs]] w0 λu w'=>∃x:(Option Addr×Nat×Nat)×(Nat->Prop),u=J x.1.1 x.1.2.1 x.1.2.2/\Wd cX w0 [⟨x.2,λw=>aG w (J x.1.1 x.1.2.1 x.1.2.2) 1 (be bl) cN⟩] w'/\True:=by
 obtain⟨ba,n,bc,bb,zW,rfl,hn,qP,GM,Pg,yh,ji⟩:=m_;refine aM func71 rfl ntmps71 rfl (Wd.nil cX w0) ?_
 repeat(first|refine aH ?_|refine dZ λ_ _=>?_)
 rename_i b1 _ bo _;refine lW 3 1 n ?_;rw[show(List.replicate n (J A 0 0))=(List.replicate n (⟨A,0,[]⟩:Row)).map fG by simp[fG],show(List.replicate n (M A 0 0 3 1 []))=(List.replicate n (⟨A,0,[]⟩:Row)).map ie by simp[ie]];refine bL (λ(x:Nat×List Row)=>x.1<=n/\x.2.map (·.l)=j8 bl x.1/\x.2.length=n/\∀r∈x.2,r.l.length<=2*x.1/\∀y∈r.l,dk y) (λx=>[(15,U O x.1),(13,J ba n bc),(14,U O n),(3,J (Z ⟨bo,0,A⟩) n n)]) (λx=>M (Z ⟨bo,0,A⟩) n n 42 1 (x.2.map fG)::x.2.map ie) (λx=>n-x.1) (0,List.replicate n ⟨A,0,[]⟩)
  ⟨aT _,by simp[j8,hn],by simp,by simp⟩ (aS ap aw) λx ⟨hi,uN,rR,r5⟩=>?_
 obtain⟨i,rs⟩:=x;simp only at hi uN rR r5⊢;refine aU ?_;refine aI (λh1=>?_) (λh1=>?_)
 ·have bS:i<n:=ax h1
  obtain⟨B,hB⟩:=et hn bS;have oW:bU ba bb zW:=⟨yh (aL hB)⟩;have lY:bY i n:=⟨bS⟩;obtain⟨cs,fT,pv,lv,tv,rfl,_,_,qt,lq,ht⟩:=ji i B hB;obtain⟨VZ,pn,pc,_,_,rfl,_⟩:=qt;obtain⟨la,ln,lc,_,_,rfl,_⟩:=lq;obtain⟨ta,tn,tc,tb,AP,rfl,uW,GV,GU,Xq,yk,tZ⟩:=ht;have n_:a6 w0 bb (zW+i*6) _:=⟨fT⟩;have LF:=cY B (aq hB)
  repeat(first|refine aE ?_|refine dZ λ_ _=>?_)
  refine bL (λ(x:Nat×List Row)=>x.1<=tn/\x.2.map (·.l)=(B.to.take x.1).foldl (qz i) (j8 bl i)/\x.2.length=n/\∀r∈x.2,r.l.length<=2*i+x.1/\∀y∈r.l,dk y) (λx=>[(24,U O x.1),(22,J ta tn tc),(23,U O tn),(4,U O i),(15,U O i),(13,J ba n bc),(14,U O n),(3,J (Z ⟨bo,0,A⟩) n n)])
   (λx=>M (Z ⟨bo,0,A⟩) n n 42 1 (x.2.map fG)::x.2.map ie) (λx=>tn-x.1) (0,rs)
   ⟨aT _,ax uN,rR,λr hr=>by simpa using r5 r hr⟩ (aS ap aw) λx ⟨hj,xI,LA,GI⟩=>?_
  obtain⟨j,Hu⟩:=x;simp only at hj xI LA GI⊢;refine aU ?_;refine aI (λh2=>?_) (λh2=>?_)
  ·have pT:j<tn:=ax h2
   obtain⟨t,GS⟩:=et uW pT;have htt:=LF.2 t (aq GS);obtain⟨k,hk⟩:∃k:Nat,t=k:=⟨t.toNat,I⟩;have Kq:k<n:=I;have u2:k<Hu.length:=I;obtain⟨r,hr⟩:=bf Hu k u2;have uR:bU ta tb AP:=⟨yk (aL GS)⟩;have SI:bY j tn:=⟨pT⟩;have agy:bY k n:=⟨Kq⟩;have hni:lB t k:=⟨hk⟩;obtain⟨E4,oY,rfl,_⟩:=tZ j t GS;have tX:a6 w0 tb (AP+j*1) _:=⟨oY⟩;have NB:Rs (Hu.map fG) (k*1) (J r.a r.l.length r.c):=⟨by simp[hr,fG]⟩;have Ft:=GI r (aq hr)
   repeat(first|refine aH ?_|refine dZ λ_ _=>?_)
   rename_i bt _;have Tc:=LF.1;refine gU (k+2) (xs:=r.l.map (U O)) (e:=3) (by simp[hr,ie]) rfl rfl I I λa' c'=>?_;refine fC (H1:=M (Z ⟨bt,0,A⟩) 1 1 3 1 [U O i]::M (Z ⟨bo,0,A⟩) n n 42 1 (Hu.map fG)::(Hu.set k ⟨a',c',r.l++[(i:Int)]⟩).map ie) (by simp[ie,eM]) ?_;have nK:mV (Hu.map fG) (k*1) (J a' (r.l.length+1) c') ((Hu.set k ⟨a',c',r.l++[(i:Int)]⟩).map fG):=⟨by simp[fG,eM],ax u2⟩;refine aE ?_;refine bj (j+1,Hu.set k ⟨a',c',r.l++[(i:Int)]⟩) ⟨pT,?_,ax LA,?_⟩ bK ap aw
   ·simp only
    rw[cz,GS];simp only[mz,pF,gj,List.foldl_nil];rw[<-xI,qz,show t.toNat=k by omega];exact ru hr rfl
   ·intro q hq
    rcases kE hq with hq|rfl
    ·have:=GI q hq
     exact⟨by simp only;omega,this.2⟩
    ·refine⟨by simp only[bX,j_];omega,λy hy=>?_⟩
     rcases bA.1 hy with hy|hy
     ·exact Ft.2 y hy
     ·simp only[bR]at hy
      subst hy;simp only[dk];omega
  ·have gP:j=tn:=by have:=h2;simp at this;omega
   refine aE ?_;refine bj (i+1,Hu) ⟨bS,?_,LA,λr hr=>?_⟩ bK ap aK
   ·simp only[j8,hB]
    rw[xI,gP,uW,cQ]
   ·have:=GI r hr
    have Tc:=LF.1;exact⟨by simp only;omega,this.2⟩
 ·have gP:i=n:=by have:=h1;simp at this;omega
  refine aE ?_;refine cE rfl λw hw=>⟨((Z ⟨bo,0,A⟩,n,n),cH (M (Z ⟨bo,0,A⟩) n n 42 1 (rs.map fG)::rs.map ie)),rfl,?_,trivial⟩;have ek:Wd cX w0 ((M (Z ⟨bo,0,A⟩) n n 42 1 (rs.map fG)::rs.map ie)++[]) w:=by rw[cD];exact hw
  refine ek.pack _ λw2 jg=>?_;have:=Ht (H:=[]) (by rw[cD];exact jg) rR.symm I λr hr=>⟨by have:=(r5 r hr).1;omega,(r5 r hr).2⟩;rw[uN,gP,hn]at this;exact hn▸this
theorem aeM(g fs nm pa bs ah:V)(fl:List aY)(Aj:fl.length<=100)(aB:Int)(hr:0<=aB/\aB<=100)(x:dJ)(qq:dk x.fn)(xv:V)(w0:C)(hf:aG w0 fs 4 fl gq)(hv:aG w0 xv 2 x.args mi):
  eP ae 73 [au #[g,fs,nm,pa,U O aB,bs,ah],au #[U O x.op,U O x.dst,D x.a.z,U O x.a.n,D x.b.z,U O x.b.n,U O x.fn,xv]] w0 (U O (eu fl aB x)):=by
 have vy:=hv;obtain⟨va,vn,vc,vb,vo,rfl,HM,abF,aeE,ZX,oC,Jl⟩:=hv;refine aM func73 rfl ntmps73 rfl (Wd.nil cX w0) ?_
 repeat(first|refine aU ?_|refine dZ λ_ _=>?_)
 refine bB rfl (λw _=>jX _ _ _ w) ?_;refine aU ?_;refine aI (λh1=>?_) (λh1=>?_)
 ·refine aE ?_
  exact bP rfl (by simp at h1;simp[eu,h1])
 have l9:within x.op 1 22=true:=ax h1;refine aH ?_;refine bB rfl (λw _=>J6 _ w) ?_;generalize hsd:(shape x.op).1=sd;generalize hsa:(shape x.op).2.1=sa;generalize hsb:(shape x.op).2.2=sb;generalize vu:decide (x.op=20)=c
 repeat(first|refine aE ?_|refine dZ λ_ _=>?_)
 rw[vu];rename_i p2 _ p3 _ p5 _ p6 _;generalize Xd:(!sd)=nsd;refine lI 25 (D (nsd&& !decide (x.dst=-1))) ?_ ?_
 ·cases nsd
  ·refine iL ?_
   exact aS ap aC
  ·refine aE ?_
   exact aS ap aC
 generalize e1:(nsd&& !decide (x.dst=-1))=b1;refine aU ?_;refine lI 36 (D (b1||(!sa&& !jo x.a))) ?_ ?_
 ·cases b1
  ·refine aE ?_
   generalize (!sa)=na;cases na
   ·refine iL ?_
    exact aS ap aC
   ·refine aE ?_
    exact aS ap aC
  ·refine iL ?_
   exact aS ap aC
 generalize e2:(b1||(!sa&& !jo x.a))=b2;refine aU ?_;refine lI 47 (D (b2||(!sb&& !jo x.b))) ?_ ?_
 ·cases b2
  ·refine aE ?_
   generalize (!sb)=nb;cases nb
   ·refine iL ?_
    exact aS ap aC
   ·refine aE ?_
    exact aS ap aC
  ·refine iL ?_
   exact aS ap aC
 generalize e3:(b2||(!sb&& !jo x.b))=b3;refine aU ?_;refine lI 62 (D (b3||(!c&&(!decide (x.fn=0)||decide (0<(vn:Int)))))) ?_ ?_
 ·cases b3
  ·refine aE ?_
   generalize (!c)=nc;cases nc
   ·refine iL ?_
    exact aS ap aC
   ·refine aE ?_
    generalize e4:(!decide (x.fn=0))=b4;cases b4
    ·refine aE ?_
     exact aS ap aC
    ·refine iL ?_
     exact aS ap aC
  ·refine iL ?_
   exact aS ap aC
 have lK:rJ x=(b3||(!c&&(!decide (x.fn=0)||decide (0<(vn:Int))))):=by
  subst e3 e2 e1 Xd;simp only[rJ,hsd,hsa,hsb,vu,HM]
 rw[<-lK];refine aU ?_;refine aI (λh2=>?_) (λh2=>?_)
 ·refine aE ?_
  exact bP rfl (by simp only[eu,l9,h2];rfl)
 refine aH ?_;refine lI 73 (D (sd&& !(c&&decide (x.dst=-1)))) ?_ ?_
 ·cases sd
  ·refine iL ?_
   exact aS ap aC
  ·refine aE ?_
   cases c
   ·refine iL ?_
    exact aS ap aC
   ·refine aE ?_
    exact aS ap aC
 have rest:((sd&& !(c&&decide (x.dst=-1)))&& !decide (km aB x.dst=0))=false->eu fl aB x=(eh (j4 [⟨121,[ar (Z ⟨p2,0,A⟩),ar (Z ⟨p3,0,A⟩)],dV aB x.a⟩,⟨122,[ar (Z ⟨p2,0,A⟩),ar (Z ⟨p3,0,A⟩)],dV aB x.b⟩,⟨123,[ar (Z ⟨p6,0,A⟩),ar (Z ⟨p3,0,A⟩),ar (Z ⟨p2,0,A⟩)],gK fl aB x⟩] (λy:OL=>y.err)) 3).1:=by
  intro h;simp only[eu,l9,h2,hsd,vu,h,Bool.not_true];have e:∀a b c:Int,(eh (λi=>([a,b,c]:List Int)[i]?.getD 0) 3).1=if a≠0 then a else if b≠0 then b else c:=by
   intro a b c
   by_cases ha:a=0
   ·by_cases hb:b=0
    ·by_cases hc:c=0
     ·rw[gh (λj hj=>by match j,hj with|0,_=>exact ha|1,_=>exact hb|2,_=>exact hc)]
      simp[ha,hb,hc]
     ·rw[gT (i:=2) (λj hj=>by match j,hj with|0,_=>exact ha|1,_=>exact hb) I hc]
      simp[ha,hb]
    ·rw[gT (i:=1) (λj hj=>by match j,hj with|0,_=>exact ha) I hb]
     simp[ha,hb]
   ·rw[gT (i:=0) (λj hj=>I) I ha]
    simp[ha]
  have e2:(j4 [(⟨121,[ar (Z ⟨p2,0,A⟩),ar (Z ⟨p3,0,A⟩)],dV aB x.a⟩:OL),⟨122,[ar (Z ⟨p2,0,A⟩),ar (Z ⟨p3,0,A⟩)],dV aB x.b⟩,⟨123,[ar (Z ⟨p6,0,A⟩),ar (Z ⟨p3,0,A⟩),ar (Z ⟨p2,0,A⟩)],gK fl aB x⟩] (λy:OL=>y.err))=λi=>([dV aB x.a,dV aB x.b,gK fl aB x]:List Int)[i]?.getD 0:=by
   funext i
   match i with
   |0=>rfl
   |1=>rfl
   |2=>rfl
   |i+3=>rfl
  rw[e2,e]
  rfl
 have tail:((sd&& !(c&&decide (x.dst=-1)))&& !decide (km aB x.dst=0))=false->∀w,Wd cX w0 [K p6 [D c] 4,K p5 [D sd,D sa,D sb] 160,K p3 [U O x.op,U O x.dst,D x.a.z,U O x.a.n,D x.b.z,U O x.b.n,U O x.fn,J va vn vc] 56,K p2 [g,fs,nm,pa,U O aB,bs,ah] 71] w->
   ∀v,aG w v 1 [(⟨121,[ar (Z ⟨p2,0,A⟩),ar (Z ⟨p3,0,A⟩)],dV aB x.a⟩:OL),⟨122,[ar (Z ⟨p2,0,A⟩),ar (Z ⟨p3,0,A⟩)],dV aB x.b⟩,⟨123,[ar (Z ⟨p6,0,A⟩),ar (Z ⟨p3,0,A⟩),ar (Z ⟨p2,0,A⟩)],gK fl aB x⟩] YT->eP ae 120 [v] w (U O (eu fl aB x)):=by
  intro h w hw v rq;rw[rest h];refine Wu v _ w rq ?_ ?_
  ·intro y hy
   simp only[bD,h_,or_false]at hy;rcases hy with rfl|rfl|rfl<;>exact inferInstance
  ·intro y hy w1 l9
   simp only[bD,h_,or_false]at hy;rcases hy with rfl|rfl|rfl
   ·exact Ts _ _ _ _ _ _ aB hr x _ p2 p3 w1 ((hw.gL p2).bZ l9) ((hw.gL p3).bZ l9)
   ·exact Tt _ _ _ _ _ _ aB hr x _ p2 p3 w1 ((hw.gL p2).bZ l9) ((hw.gL p3).bZ l9)
   ·exact LL _ _ _ _ _ _ fl Aj aB hr x qq _ p2 p3 p6 w1 ((hw.gL p2).bZ l9) ((hw.gL p3).bZ l9) (by rw[vu];exact(hw.gL p6).bZ l9) (hf.bZ dG (hw.ch.trans l9)) (vy.bZ kq (hw.ch.trans l9))
 have go:∀w (pv:Nat),Wd cX w0 [M (Z ⟨pv,0,A⟩) 3 3 73 1 [.func (.func 121) #[] #[ar (Z ⟨p2,0,A⟩),ar (Z ⟨p3,0,A⟩)],.func (.func 122) #[] #[ar (Z ⟨p2,0,A⟩),ar (Z ⟨p3,0,A⟩)],.func (.func 123) #[] #[ar (Z ⟨p6,0,A⟩),ar (Z ⟨p3,0,A⟩),ar (Z ⟨p2,0,A⟩)]],
   K p6 [D c] 4,K p5 [D sd,D sa,D sb] 160,K p3 [U O x.op,U O x.dst,D x.a.z,U O x.a.n,D x.b.z,U O x.b.n,U O x.fn,J va vn vc] 56,K p2 [g,fs,nm,pa,U O aB,bs,ah] 71] w->
   ((sd&& !(c&&decide (x.dst=-1)))&& !decide (km aB x.dst=0))=false->eP ae 120 [J (Z ⟨pv,0,A⟩) 3 3] w (U O (eu fl aB x)):=by
  intro w pv hw h;refine tail h w (hw.sub (dR _ _)) _ ?_;refine hw.oH (k:=0) rfl rfl I λi y hy=>?_
  match i,hy with
  |0,hy=>simp only[kC,b_]at hy;subst hy;exact⟨_,λj v hj=>by match j,hj with|0,hj=>exact hj,rfl⟩
  |1,hy=>simp only[pG,kC,b_]at hy;subst hy;exact⟨_,λj v hj=>by match j,hj with|0,hj=>exact hj,rfl⟩
  |2,hy=>simp only[pG,kC,b_]at hy;subst hy;exact⟨_,λj v hj=>by match j,hj with|0,hj=>exact hj,rfl⟩
 refine aU ?_;refine aI (λh3=>?_) (λh3=>?_)
 ·refine aU ?_
  refine bB rfl (λw _=>Y2 _ _ _ _ _ _ aB hr _ w) ?_;refine aU ?_;refine aI (λh4=>?_) (λh4=>?_)
  ·refine aE ?_
   refine bP rfl ?_;simp only[eu,l9,h2,hsd,vu,h3,h4,Bool.not_true,Bool.true_and]
   rfl
  ·repeat(first|refine aH ?_|refine dZ λ_ _=>?_)
   refine bB rfl (λw hw=>go w _ hw (by simp only[h3,h4,Bool.true_and])) ?_;refine aH ?_;exact bP rfl rfl
 ·repeat(first|refine aH ?_|refine dZ λ_ _=>?_)
  refine bB rfl (λw hw=>go w _ hw (by simp only[h3,Bool.false_and])) ?_;refine aH ?_;exact bP rfl rfl
def Du(f:aY):Prop:=f.blocks.length<=40/\gy f.blocks<=300
theorem Bv{l:List E}{i:Nat}{x:E}(h:l[i]?=Z x):om l (i+1)=om l i+((x.aD.length+x.list.length:Nat):Int):=by
 simp[om,cz,h,List.sum_append]
theorem DW(l:List E):om l l.length=gy l:=by simp[om,gy]
theorem vQ(l:List E)(i:Nat):0<=om l i/\om l i<=gy l:=by
 have SP:∀m:List E,0<=(m.map λb=>((b.aD.length+b.list.length:Nat):Int)).sum:=by
  intro m
  induction m with
  |nil=>simp
  |cons x m ih=>simp only[bT,eT];omega
 refine⟨SP _,?_⟩;have:gy l=om l i+((l.drop i).map λb=>((b.aD.length+b.list.length:Nat):Int)).sum:=by
  rw[gy,om,<-List.sum_append,<-bz,q8]
 have:=SP (l.drop i);omega
theorem M0{n:Nat}{aB kind:Int}{on:cg}{to:List Int}(h:wI n aB kind on to=0):YG n to:=by
 unfold wI at h
 by_cases h1:within kind 1 3=true
 ·simp only[h1,Bool.not_true]at h
  by_cases h2:(to.length:Int)≠kind-1
  ·rw[if_pos h2]at h;cases h
  ·rw[if_neg h2]at h
   have hk:1<=kind/\kind<=3:=by simpa[within]using h1
   refine⟨I,λt ht=>?_⟩
   by_cases h3:(to.any λt=>!within t 1 (n-1))=true
   ·simp only[h3]at h;cases h
   ·have:=λhh=>h3 (mW.2 ⟨t,ht,hh⟩)
    simp[within]at this;omega
 ·have h1:within kind 1 3=false:=ax h1
  simp only[h1]at h;cases h
theorem aa0(g fs ah:V)(f:aY)(hf:Du f)(bs nv:V)(nl:List ByteArray)(w0:C)(m_:aG w0 bs 6 f.blocks ed)(hnv:aG w0 nv 1 nl Rr):
  eP ae 30 [au #[g,fs,G f.name,U O f.params,U O f.aB,bs,ah],nv] w0 (U O (lX nl f)):=by
 obtain⟨ba,n,bc,bb,zW,rfl,hn,qP,GM,Pg,yh,ji⟩:=m_;refine aM func30 rfl ntmps30 rfl (Wd.nil cX w0) ?_
 repeat(first|refine aH ?_|refine dZ λ_ _=>?_)
 rename_i p2 _;have h24:=hf.1;have aid:=hf.2;refine bL (λ(i:Nat)=>i<=n) (λi=>[(12,U O i),(5,U O (om f.blocks i)),(10,J ba n bc),(11,U O n),aj 2 p2,(1,nv)]) (λ_=>[K p2 [g,fs,G f.name,U O f.params,U O f.aB,J ba n bc,ah] 71]) (λi=>n-i) 0 (aT _) (aS ap aC) λi hi=>?_;refine aU ?_;refine aI (λh1=>?_) (λh1=>?_)
 ·have bS:i<n:=ax h1
  obtain⟨B,hB⟩:=et hn bS;have oW:bU ba bb zW:=⟨yh (aL hB)⟩;have lY:bY i n:=⟨bS⟩;obtain⟨cs,fT,pv,lv,tv,rfl,_,_,qt,lq,ht⟩:=ji i B hB;obtain⟨VZ,pn,pc,_,_,rfl,Fs,_,SX,_⟩:=qt;obtain⟨la,ln,lc,_,_,rfl,HJ,_,SL,_⟩:=lq;obtain⟨ta,tn,tc,tb,AP,rfl,uW,GV,GU,Xq,yk,tZ⟩:=ht;have n_:a6 w0 bb (zW+i*6) _:=⟨fT⟩;have Je:=Bv hB;have Fo:=vQ f.blocks i;have Nq:=vQ f.blocks (i+1)
  repeat(first|refine aE ?_|refine dZ λ_ _=>?_)
  refine bj (i+1) bS I ?_ aw;rw[Je,<-Fs,<-HJ,Int.natCast_add];exact ap
 ·have gP:i=n:=by have:=h1;simp at this;omega
  have pU:om f.blocks i=gy f.blocks:=by rw[gP,hn,DW]
  rw[pU];refine aE ?_;refine bB rfl (λw _=>T1 _ w) ?_;refine aU ?_;refine aI (λh2=>?_) (λh2=>?_)
  ·refine aE ?_
   exact bP rfl (by simp only[lX,h2];rfl)
  refine aU ?_;refine bB rfl (λw hw=>Bb _ nl _ w (hnv.bZ FB hw.ch)) ?_;refine aU ?_;refine aI (λh3=>?_) (λh3=>?_)
  ·refine aE ?_
   exact bP rfl (by simp only[lX,h2,h3];rfl)
  refine aU ?_;refine bB rfl (λw _=>jX _ _ _ w) ?_;refine aU ?_;generalize Kn:(!within f.params 0 6)=b1;refine lI 53 (D (b1|| !within f.aB f.params 100)) ?_ ?_
  ·cases b1
   ·refine aE ?_
    refine bB rfl (λw _=>jX _ _ _ w) ?_;refine aE ?_;exact aS ap aC
   ·refine iL ?_
    exact aS ap aC
  refine aU ?_;refine aI (λh4=>?_) (λh4=>?_)
  ·refine aE ?_
   exact bP rfl (by simp only[lX,h2,h3,Kn,h4];rfl)
  refine aU ?_;refine bB rfl (λw _=>jX _ _ _ w) ?_;refine aU ?_;generalize xd:(!within (n:Int) 1 40)=b2;refine lI 64 (D (b2||decide (300<gy f.blocks))) ?_ ?_
  ·cases b2
   ·refine aE ?_
    exact aS ap aC
   ·refine iL ?_
    exact aS ap aC
  refine aU ?_;refine aI (λh5=>?_) (λh5=>?_)
  ·refine aE ?_
   exact bP rfl (by simp only[lX,h2,h3,Kn,h4,<-hn,xd,h5];rfl)
  ·refine aH ?_
   exact bP rfl (by simp only[lX,h2,h3,Kn,h4,<-hn,xd,h5];rfl)
theorem gv(bs:List E):∀i,(j8 bs i).length=bs.length
 |0=>by simp[j8]
 |i+1=>by
  have hf:∀(l:List Int) (rows:List (List Int)),(l.foldl (qz i) rows).length=rows.length:=by
   intro l
   induction l with
   |nil=>intro rows;rfl
   |cons t l ih=>intro rows;rw[gj,ih];simp[qz]
  rw[j8,hf,gv bs i]
theorem aai(g fs ah:V)(fl:List aY)(Fm:fl.length<=100)(f:aY)(hf:Du f)(hr:0<=f.aB/\f.aB<=100)(bs:V)(w0:C)(Aj:aG w0 fs 4 fl gq)(m_:aG w0 bs 6 f.blocks ed)(iN:bF w0 0 0 nI)(Pd:ah=J A 0 0):
  eP ae 31 [au #[g,fs,G f.name,U O f.params,U O f.aB,bs,ah]] w0 (U O (gJ fl f)):=by
 subst Pd;have uT:=m_;obtain⟨ba,n,bc,bb,zW,rfl,hn,qP,GM,Pg,yh,ji⟩:=m_;refine aM func31 rfl ntmps31 rfl (Wd.nil cX w0) ?_;have h24:=hf.1
 repeat(first|refine aH ?_|refine dZ λ_ _=>?_)
 rename_i p1 _;refine bL (λ(i:Nat)=>i<=n/\∀j,j<i->j4 f.blocks (k9 f.blocks.length f.aB) j=0) (λi=>[(18,U O i),(16,J ba n bc),(17,U O n),aj 1 p1]) (λ_=>[K p1 [g,fs,G f.name,U O f.params,U O f.aB,J ba n bc,J A 0 0] 71]) (λi=>n-i) 0 ⟨aT _,by simp⟩ (aS ap aC) λi ⟨hi,cU⟩=>?_;refine aU ?_;refine aI (λh1=>?_) (λh1=>?_)
 ·have bS:i<n:=ax h1
  obtain⟨B,hB⟩:=et hn bS;have oW:bU ba bb zW:=⟨yh (aL hB)⟩;have lY:bY i n:=⟨bS⟩;obtain⟨cs,fT,pv,lv,tv,rfl,_,_,qt,lq,ht⟩:=ji i B hB;obtain⟨VZ,pn,pc,_,_,rfl,Fs,_,SX,_⟩:=qt;obtain⟨la,ln,lc,_,_,rfl,HJ,_,SL,_⟩:=lq;have Ks:=ht;obtain⟨ta,tn,tc,tb,AP,rfl,uW,GV,GU,Xq,yk,tZ⟩:=ht;have n_:a6 w0 bb (zW+i*6) _:=⟨fT⟩;have oX:j4 f.blocks (k9 f.blocks.length f.aB) i=wI n f.aB B.kind B.on B.to:=by simp[j4,hB,k9,hn]
  repeat(first|refine aE ?_|refine dZ λ_ _=>?_)
  refine bB rfl (λw hw=>acH g fs _ _ _ n bc ba I f.aB hr B.kind B.on B.to _ w (Ks.bZ dP hw.ch) (iN.bZ hw.ch)) ?_;refine aU ?_;refine aI (λh2=>?_) (λh2=>?_)
  ·refine aE ?_
   refine bP rfl ?_;have xE:wI n f.aB B.kind B.on B.to≠0:=ax h2;rw[gJ,gT cU (hn▸bS) (by rw[oX];exact xE),if_pos (by rw[oX];exact xE),oX]
  ·refine aH ?_
   refine bj (i+1) ⟨bS,λj hj=>?_⟩ I ap aw
   by_cases yZ:j=i
   ·subst yZ;rw[oX];simpa using h2
   ·exact cU j I
 have gP:i=n:=by have:=h1;simp at this;omega
 rw[gP]at cU;have SA:gJ fl f=(eh (jN fl f) f.blocks.length).1:=by rw[gJ,<-hn,gh (hn▸cU)];rfl
 rw[SA];have ii:∀b∈f.blocks,YG f.blocks.length b.to:=by
  intro b hb;obtain⟨j,hj⟩:=bg hb;have jw:j<n:=by rw[hn];exact(az.1 hj).1
  have:=cU j jw;simp only[j4,hj]at this;exact M0 this
 refine aE ?_;refine cZ (val:=λx:(Option Addr×Nat×Nat)×(Nat->Prop)=>.slice x.1.1 x.1.2.1 x.1.2.2) (akg:=λx=>[⟨x.2,λw=>aG w (J x.1.1 x.1.2.1 x.1.2.2) 1 (be f.blocks) cN⟩]) (φ:=λ_=>True) rfl (λw hw=>MV _ _ _ f.blocks _ w (uT.bZ dH hw.ch) I ii) λx _=>?_;obtain⟨⟨xa,xn,xc⟩,fp⟩:=x;simp only[aW,aO];refine aE ?_;refine bL (λ(i:Nat)=>i<=n/\∀j,j<i->jN fl f j=0) (λi=>[(38,U O i),(36,J ba n bc),(37,U O n),aj 1 p1]) (λ_=>[⟨fp,λw=>aG w (J xa xn xc) 1 (be f.blocks) cN⟩,K p1 [g,fs,G f.name,U O f.params,U O f.aB,J ba n bc,J xa xn xc] 71]) (λi=>n-i) 0 ⟨aT _,by simp⟩ (aS ap aC) λi ⟨hi,yV⟩=>?_;refine aU ?_;refine aI (λh1=>?_) (λh1=>?_)
 ·have bS:i<n:=ax h1
  obtain⟨B,hB⟩:=et hn bS;have oW:bU ba bb zW:=⟨yh (aL hB)⟩;have lY:bY i n:=⟨bS⟩;obtain⟨cs,fT,pv,lv,tv,rfl,_,_,qt,lq,ht⟩:=ji i B hB;obtain⟨VZ,pn,pc,pb,po,rfl,Fs,_,SX,hpc,hpa,Lv⟩:=qt;obtain⟨la,ln,lc,lb,lo,rfl,HJ,_,SL,hlc,I6,Ak⟩:=lq;obtain⟨ta,tn,tc,tb,AP,rfl,uW,GV,GU,Xq,yk,tZ⟩:=ht;have n_:a6 w0 bb (zW+i*6) _:=⟨fT⟩;have Zh:jN fl f i=if (eh (j4 B.aD (ng f.aB f.blocks i)) B.aD.length).1≠0 then(eh (j4 B.aD (ng f.aB f.blocks i)) B.aD.length).1 else(eh (j4 B.list (eu fl f.aB)) B.list.length).1:=by simp[jN,hB]
  have gr:∃row,(be f.blocks)[i]?=Z row:=⟨_,a_ (by rw[be,gv];omega)⟩;obtain⟨row,gr⟩:=gr;have Zo:∀c:Int,c≠0->jN fl f i=c->U O c=U O (eh (jN fl f) f.blocks.length).1:=by
   intro c hc hb;rw[gT yV (hn▸bS) (by rw[hb];exact hc),hb]
  repeat(first|refine aE ?_|refine dZ λ_ _=>?_)
  rename_i p7 _;refine bL (λ(j:Nat)=>j<=pn/\∀k,k<j->j4 B.aD (ng f.aB f.blocks i) k=0) (λj=>[(46,U O j),(44,J VZ pn pc),(45,U O pn),(6,U O i),aj 7 p7,(38,U O i),(36,J ba n bc),(37,U O n),aj 1 p1])
   (λ_=>[K p7 [J VZ pn pc,J la ln lc,U O B.kind,D B.on.z,U O B.on.n,J ta tn tc] 46,⟨fp,λw=>aG w (J xa xn xc) 1 (be f.blocks) cN⟩,K p1 [g,fs,G f.name,U O f.params,U O f.aB,J ba n bc,J xa xn xc] 71]) (λj=>pn-j) 0 ⟨aT _,by simp⟩ (aS ap aC) λj ⟨hj,CW⟩=>?_
  refine aU ?_;refine aI (λh2=>?_) (λh2=>?_)
  ·have pT:j<pn:=ax h2
   obtain⟨p,hp⟩:=et Fs pT;have uR:bU VZ pb po:=⟨hpa (aL hp)⟩;have SI:bY j pn:=⟨pT⟩;obtain⟨E4,oY,sv,rfl,hpi,ny⟩:=Lv j p hp;have ahm:=ny;obtain⟨sa,sn,sc,_,_,rfl,_⟩:=ny;have tX:a6 w0 pb (po+j*2) _:=⟨oY⟩;have oX:j4 B.aD (ng f.aB f.blocks i) j=zk f.aB i row.length p:=by simp[j4,hp,ng,gr]
   repeat(first|refine aE ?_|refine dZ λ_ _=>?_)
   refine bB rfl (λw hw=>aeS g fs _ _ _ _ f.aB hr (be f.blocks) row i gr p _ w (hw.get (k:=2) rfl) (ahm.bZ kq hw.ch)) ?_;refine aU ?_;refine aI (λh3=>?_) (λh3=>?_)
   ·refine aE ?_
    have sY:zk f.aB i row.length p≠0:=ax h3;refine bP rfl (Zo _ sY ?_);rw[Zh,gT CW (Fs▸pT) (by rw[oX];exact sY),if_pos (by rw[oX];exact sY),oX]
   ·refine aH ?_
    refine bj (j+1) ⟨pT,λk hk=>?_⟩ I ap aw
    by_cases Ln:k=j
    ·subst Ln;rw[oX];simpa using h3
    ·exact CW k I
  have aa3:j=pn:=by have:=h2;simp at this;omega
  have adf:jN fl f i=(eh (j4 B.list (eu fl f.aB)) B.list.length).1:=by rw[Zh,<-Fs,<-aa3,gh CW];rfl
  refine aE ?_;refine bL (λ(j:Nat)=>j<=ln/\∀k,k<j->j4 B.list (eu fl f.aB) k=0) (λj=>[(61,U O j),(59,J la ln lc),(60,U O ln),(38,U O i),(36,J ba n bc),(37,U O n),aj 1 p1])
   (λ_=>[⟨fp,λw=>aG w (J xa xn xc) 1 (be f.blocks) cN⟩,K p1 [g,fs,G f.name,U O f.params,U O f.aB,J ba n bc,J xa xn xc] 71]) (λj=>ln-j) 0 ⟨aT _,by simp⟩ (aS ap aw) λj ⟨hj,Sd⟩=>?_
  refine aU ?_;refine aI (λh3=>?_) (λh3=>?_)
  ·have pT:j<ln:=ax h3
   obtain⟨x,hx⟩:=et HJ pT;have uR:bU la lb lo:=⟨I6 (aL hx)⟩;have SI:bY j ln:=⟨pT⟩;obtain⟨E4,oY,av,rfl,_,_,_,_,qq,Ag⟩:=Ak j x hx;have Sg:=Ag;obtain⟨aa,an,ac,_,_,rfl,_⟩:=Ag;have tX:a6 w0 lb (lo+j*8) _:=⟨oY⟩;have oX:j4 B.list (eu fl f.aB) j=eu fl f.aB x:=by simp[j4,hx]
   repeat(first|refine aE ?_|refine dZ λ_ _=>?_)
   refine bB rfl (λw hw=>aeM g fs _ _ _ _ fl Fm f.aB hr x qq _ w (Aj.bZ dG hw.ch) (Sg.bZ kq hw.ch)) ?_;refine aU ?_;refine aI (λh4=>?_) (λh4=>?_)
   ·refine aE ?_
    have h4':eu fl f.aB x≠0:=ax h4;refine bP rfl (Zo _ h4' ?_);rw[adf,gT Sd (HJ▸pT) (by rw[oX];exact h4'),oX]
   ·refine aH ?_
    refine bj (j+1) ⟨pT,λk hk=>?_⟩ I ap aw
    by_cases Ln:k=j
    ·subst Ln;rw[oX];simpa using h4
    ·exact Sd k I
  ·have Sy:j=ln:=by have:=h3;simp at this;omega
   have hz:jN fl f i=0:=by rw[adf,<-HJ,<-Sy,gh Sd]
   refine aE ?_;refine bj (i+1) ⟨bS,λk hk=>?_⟩ I ap aK
   by_cases hki:k=i
   ·subst hki;exact hz
   ·exact yV k I
 ·have xG:i=n:=by have:=h1;simp at this;omega
  refine aE ?_;exact bP rfl (by rw[<-hn,<-xG,gh yV])
def nA(u:a8):Prop:=u.funcs.length<=10/\∀f∈u.funcs,Du f
theorem PF(v:V)(l:List aY)(w0:C)(hv:aG w0 v 4 l gq):
  eP ae 32 [v,.func (.func 33) #[] #[]] w0 (U O (dh l)):=by
 obtain⟨a,n,c,b,o,rfl,hn,qP,GM,hc,ha,ji⟩:=hv;have one:∀(w:C) (x:aY) (v:V),eP ae 33 [au #[G x.name,U O x.params,U O x.aB,v]] w (D (sF x)):=by
  intro w x v;refine aM func33 rfl ntmps33 rfl (Wd.nil cX w) ?_
  repeat(first|refine aH ?_|refine dZ λ_ _=>?_)
  exact bP rfl rfl
 refine aM func32 rfl ntmps32 rfl (Wd.nil cX w0) ?_;refine aH ?_;refine bL (λ(i:Nat)=>i<=n/\∀j t,j<i->l[j]?=Z t->sF t=false) (λi=>[(8,U O i),(0,J a n c),(1,.func (.func 33) #[] #[]),(7,U O n)]) (λ_=>[]) (λi=>n-i) 0 ⟨aT _,by simp⟩ (aS ap aC) λi ⟨hi,cU⟩=>?_;refine aU ?_;refine aI (λh1=>?_) (λh1=>?_)
 ·have bS:i<n:=ax h1
  obtain⟨x,hx⟩:=et hn bS;have oW:bU a b o:=⟨ha (aL hx)⟩;have lY:bY i n:=⟨bS⟩;obtain⟨cs,fT,bv,rfl,_⟩:=ji i x hx;have n_:a6 w0 b (o+i*4) _:=⟨fT⟩;refine aH ?_;refine lH rfl (us:=[]) (vs:=[au #[G x.name,U O x.params,U O x.aB,bv]]) (xs:=[]) (λw _=>one w x bv) ?_;refine aU ?_;refine aI (λh2=>?_) (λh2=>?_)
  ·refine aE ?_
   refine bP rfl ?_;have:l.findIdx? sF=Z i:=by
    rw[List.findIdx?_eq_some_iff_getElem];have iJ:i<l.length:=I;have hxi:l[i]=x:=(az.1 hx).2;exact⟨iJ,by rw[hxi];exact h2,λj hj=>by have:=cU j l[j] hj (a_ I);simp[this]⟩
   simp[dh,this]
  ·refine aH ?_
   refine bj (i+1) ⟨bS,λj t hj ht=>?_⟩ I ap aC
   by_cases yZ:j=i
   ·subst yZ
    rw[hx]at ht;simp only[b_]at ht;subst ht;exact h2
   ·exact cU j t I ht
 ·have gP:i=n:=by have:=h1;simp at this;omega
  refine aE ?_;refine bP rfl ?_;have:l.findIdx? sF=A:=by
   rw[List.findIdx?_eq_none_iff];intro t ht;obtain⟨j,hj⟩:=bg ht;exact cU j t (by have:=(az.1 hj).1;omega) hj
  simp[dh,this]
theorem JG{S:Nat->Prop}{w0 w:C}{H:List bN}{k c n e:Nat}{a:Option Addr}{l:List ByteArray}(h:Wd S w0 H w)(hk:H[k]?=Z (M a n c e 1 (l.map G)))(hn:n=l.length)(hb:n<=1000):aG w (J a n c) 1 l Rr:=by
 refine h.oH hk hn I λi x hx=>⟨[G x],λj v hj=>?_,rfl⟩
 match j,hj with
 |0,hj=>simpa[hx]using hj
theorem ML{l:List jt}{i:Nat}{x:jt}(h:l[i]?=Z x):oM l (i+1)=oM l i+x.size:=by
 simp[oM,cz,h,List.sum_append]
theorem tO(u:a8)(hl:nA u)(g fs:V)(w0:C)(hg:aG w0 g 3 u.globals fg)(hf:aG w0 fs 4 u.funcs gq)(iN:bF w0 0 0 nI):
  eP ae 11 [au #[g,fs]] w0 (au #[U O (dA u).1,U O (dA u).2]):=by
 have yX:=hg;have wM:=hf;obtain⟨ga,gn,gc,gb,go,rfl,Pq,agl,agk,hgc,W5,Sy⟩:=hg;obtain⟨fa,fn,fc,fb,fo,rfl,qq,Pp,Po,Zp,vx,uU⟩:=hf;have aiX:=hl.1;refine aM func11 rfl ntmps11 rfl (Wd.nil cX w0) ?_
 repeat(first|refine aU ?_|refine dZ λ_ _=>?_)
 rename_i p1 _ p2 _;generalize Kn:decide (10<(gn:Int))=b1;refine lI 26 (D (b1||decide (10<(fn:Int)))) ?_ ?_
 ·cases b1
  ·refine aE ?_
   exact aS ap aC
  ·refine iL ?_
   exact aS ap aC
 refine aU ?_;refine aI (λh1=>?_) (λh1=>?_)
 ·refine aU ?_
  refine bB rfl (λw _=>pJ _ _ w) ?_;refine aE ?_;refine gw rfl λ_ hw=>⟨?_,hw.ch⟩;have:10<(u.globals.length:Int)∨10<(u.funcs.length:Int):=by subst Kn;rw[<-Pq,<-qq];simpa using h1
  simp only[dA,if_pos this]
 have GG:¬(10<(u.globals.length:Int)∨10<(u.funcs.length:Int)):=by subst Kn;rw[<-Pq,<-qq];simpa using h1
 have hgl:gn<=10:=I;refine aH ?_;refine fU 9 1 ?_;refine bL (λ(x:Nat×Option Addr×Nat)=>x.1<=gn/\(0<=oM u.globals x.1/\oM u.globals x.1<=200)/\∀j,j<x.1->oV u.globals j=0) (λx=>[(31,U O x.1),(29,J ga gn gc),(30,U O gn),(3,J x.2.1 x.1 x.2.2),(4,U O (oM u.globals x.1)),aj 1 p1,aj 2 p2])
  (λx=>[M x.2.1 x.1 x.2.2 9 1 (((u.globals.take x.1).map (·.name)).map G),K p2 [U O 0,U O 0] 28,K p1 [J ga gn gc,J fa fn fc] 25]) (λx=>gn-x.1) (0,A,0) ⟨aT _,by simp[oM],by simp⟩ (aS ap aC) λx ⟨hi,ahq,cU⟩=>?_
 obtain⟨i,na,nc⟩:=x;simp only at hi ahq cU⊢;refine aU ?_;refine aI (λh2=>?_) (λh2=>?_)
 ·have bS:i<gn:=ax h2
  obtain⟨X,hX⟩:=et Pq bS;have oW:bU ga gb go:=⟨W5 (aL hX)⟩;have lY:bY i gn:=⟨bS⟩;obtain⟨cs,fT,iv,rfl,nK,Nl⟩:=Sy i X hX;obtain⟨ia,inn,ic,_,_,rfl,oA,_,aiS,_⟩:=Nl;have n_:a6 w0 gb (go+i*3) _:=⟨fT⟩;have oX:oV u.globals i=jR ((u.globals.take i).map (·.name)) (oM u.globals i) X:=by simp[oV,j4,hX]
  have Eo:i=((u.globals.take i).map (·.name)).length:=by rw[aF,dd];omega
  have Xt:=ML hX;refine aas ?_;refine tR ?_
  repeat(first|refine aas ?_|refine dZ λ_ _=>?_)
  rename_i p6 _;refine Y4 [(7,U O (oV u.globals i)),(5,U O i),aj 6 p6,(31,U O i),(29,J ga gn gc),(30,U O gn),(3,J na i nc),(4,U O (oM u.globals i)),aj 1 p1,aj 2 p2]
   [K p6 [G X.name,U O X.size,J ia inn ic] 65,M na i nc 9 1 (((u.globals.take i).map (·.name)).map G),K p2 [U O 0,U O 0] 28,K p1 [J ga gn gc,J fa fn fc] 25] ?_ ?_
  ·rw[oX]
   refine aH ?_;refine bB rfl (λw _=>T1 _ w) ?_;refine aU ?_;refine aI (λk1=>?_) (λk1=>?_)
   ·rw[show jR ((u.globals.take i).map (·.name)) (oM u.globals i) X=12 by simp only[jR,k1];rfl]
    refine aH ?_;exact aS ap aK
   refine aU ?_;refine bB rfl (λw hw=>Bb _ ((u.globals.take i).map (·.name)) _ w (JG hw (k:=1) rfl Eo I)) ?_;refine aU ?_;refine aI (λk2=>?_) (λk2=>?_)
   ·rw[show jR ((u.globals.take i).map (·.name)) (oM u.globals i) X=7 by simp only[jR,k1,k2];rfl]
    refine aH ?_;exact aS ap aK
   refine aU ?_;refine bB rfl (λw _=>jX _ _ _ w) ?_;refine aU ?_;refine aI (λk3=>?_) (λk3=>?_)
   ·rw[show jR ((u.globals.take i).map (·.name)) (oM u.globals i) X=3 by simp only[jR,k1,k2,k3];rfl]
    refine aH ?_;exact aS ap aK
   have pU:1<=X.size/\X.size<=200:=by simpa[within]using k3
   refine aU ?_;refine aI (λk4=>?_) (λk4=>?_)
   ·rw[show jR ((u.globals.take i).map (·.name)) (oM u.globals i) X=9 by simp only[jR,k1,k2,k3];rw[<-oA];simp only[decide_eq_true_eq]at k4;rw[if_pos k4];rfl]
    refine aH ?_;exact aS ap aK
   simp only[decide_eq_false_iff_not]at k4;refine aH ?_;refine aI (λk5=>?_) (λk5=>?_)
   ·rw[show jR ((u.globals.take i).map (·.name)) (oM u.globals i) X=10 by simp only[jR,k1,k2,k3];rw[<-oA];simp only[decide_eq_true_eq]at k5;rw[if_neg k4,if_pos k5];rfl]
    refine aH ?_;exact aS ap aK
   ·rw[show jR ((u.globals.take i).map (·.name)) (oM u.globals i) X=0 by simp only[jR,k1,k2,k3];rw[<-oA];simp only[decide_eq_false_iff_not]at k5;rw[if_neg k4,if_neg k5];rfl]
    refine aH ?_;exact aS ap aK
  refine aU ?_;refine aI (λh3=>?_) (λh3=>?_)
  ·have sY:oV u.globals i≠0:=ax h3
   refine aU ?_;refine bB rfl (λw _=>pJ _ _ w) ?_;refine aE ?_;refine gw rfl λ_ hw=>⟨?_,hw.ch⟩;have hh:=gT cU (Pq▸bS) sY;simp only[dA,if_neg GG,hh];rw[if_pos sY]
  have sY:oV u.globals i=0:=ax h3;have cY:(1<=X.size/\X.size<=200)/\oM u.globals i+X.size<=200:=by
   rw[oX]at sY;unfold jR at sY
   by_cases q1:uk X.name=true<;>simp only[q1,Bool.not_true,Bool.not_false]at sY
   ·by_cases q2:hasName ((u.globals.take i).map (·.name)) X.name=true<;>simp only[q2]at sY
    ·cases sY
    ·by_cases q3:within X.size 1 200=true<;>simp only[q3,Bool.not_true,Bool.not_false]at sY
     ·have pU:1<=X.size/\X.size<=200:=by simpa[within]using q3
      refine⟨pU,?_⟩
      by_cases q4:X.size<(X.init.length:Int)
      ·simp only[q4]at sY;cases sY
      ·by_cases q5:200<oM u.globals i+X.size
       ·simp only[q4,q5]at sY;cases sY
       ·omega
     ·cases sY
   ·cases sY
  obtain⟨pU,htt⟩:=cY
  repeat(first|refine aH ?_|refine dZ λ_ _=>?_)
  refine nX rfl rfl I I λa' c'=>?_;rw[show((u.globals.take i).map (·.name)).map G++[G X.name]=((u.globals.take (i+1)).map (·.name)).map G by simp[cz,hX]];refine aH ?_;refine bj (i+1,a',c') ⟨bS,by simp only[Xt];omega,λj hj=>?_⟩ bK ?_ ?_
  ·by_cases yZ:j=i
   ·subst yZ;exact sY
   ·exact cU j (by simp only at hj;omega)
  ·rw[Xt]
   exact ap
  ·exact List.Sublist.cons _ (.cons _ (.refl _))
 have gP:i=gn:=by have:=h2;simp at this;omega
 have hgz:(eh (oV u.globals) u.globals.length)=(0,0):=gh (by rw[<-Pq,<-gP];exact cU);have B4:(u.globals.take i).map (·.name)=u.globals.map (·.name):=by rw[gP,Pq,cQ]
 rw[B4];subst gP;refine aE ?_;refine bL (λ(x:Nat×Option Addr×Nat)=>x.1<=fn/\∀j,j<x.1->mm u j=0) (λx=>[(82,U O x.1),(80,J fa fn fc),(81,U O fn),(3,J x.2.1 (i+x.1) x.2.2),aj 1 p1,aj 2 p2])
  (λx=>[M x.2.1 (i+x.1) x.2.2 9 1 ((u.globals.map (·.name)++(u.funcs.take x.1).map (·.name)).map G),K p2 [U O 0,U O 0] 28,K p1 [J ga i gc,J fa fn fc] 25]) (λx=>fn-x.1) (0,na,nc) ⟨aT _,by simp⟩ (by simp only[List.take_zero,dn,cD,ef];exact aS ap aK) λx ⟨W8,yV⟩=>?_
 obtain⟨k,ma,mc⟩:=x;simp only at W8 yV⊢;refine aU ?_;refine aI (λh4=>?_) (λh4=>?_)
 ·have bS:k<fn:=ax h4
  obtain⟨X,hX⟩:=et qq bS;have oW:bU fa fb fo:=⟨vx (aL hX)⟩;have lY:bY k fn:=⟨bS⟩;obtain⟨cs,fT,bv,rfl,hpi,hri,Ai⟩:=uU k X hX;have Sk:=Ai;obtain⟨ba,bn,bc,_,_,rfl,_⟩:=Ai;have n_:a6 w0 fb (fo+k*4) _:=⟨fT⟩;have hlx:=hl.2 X (aq hX);have oX:mm u k=lX (u.globals.map (·.name)++(u.funcs.take k).map (·.name)) X:=by simp[mm,j4,hX]
  have Eo:i+k=(u.globals.map (·.name)++(u.funcs.take k).map (·.name)).length:=by rw[bX,aF,aF,dd];omega
  repeat(first|refine aE ?_|refine dZ λ_ _=>?_)
  refine bB rfl (λw hw=>aa0 _ _ _ X hlx _ _ (u.globals.map (·.name)++(u.funcs.take k).map (·.name)) w (Sk.bZ dH hw.ch) (JG hw (k:=2) rfl Eo I)) ?_;refine aU ?_;refine aI (λh3=>?_) (λh3=>?_)
  ·have sY:mm u k≠0:=by rw[oX];simpa using h3
   refine aU ?_;refine bB rfl (λw _=>pJ _ _ w) ?_;refine aE ?_;refine gw rfl λ_ hw=>⟨?_,hw.ch⟩;have hh:=gT yV (qq▸bS) sY;simp only[dA,if_neg GG,hgz,hh];rw[if_neg aC,if_pos sY,oX]
  have sY:mm u k=0:=by rw[oX];simpa using h3
  repeat(first|refine aH ?_|refine dZ λ_ _=>?_)
  refine nX rfl rfl I I λa' c'=>?_;rw[show(u.globals.map (·.name)++(u.funcs.take k).map (·.name)).map G++[G X.name]=(u.globals.map (·.name)++(u.funcs.take (k+1)).map (·.name)).map G by simp[cz,hX]];refine aH ?_;refine bj (k+1,a',c') ⟨bS,λj hj=>?_⟩ bK ap ?_
  ·by_cases yZ:j=k
   ·subst yZ;exact sY
   ·exact yV j (by simp only at hj;omega)
  ·exact List.Sublist.cons _ (.cons _ (.cons _ (.refl _)))
 have adE:k=fn:=by have:=h4;simp at this;omega
 have hhz:(eh (mm u) u.funcs.length)=(0,0):=gh (by rw[<-qq,<-adE];exact yV);have Di:∀X∈u.funcs,0<=X.aB/\X.aB<=100:=by
  intro X hX;obtain⟨j,hj⟩:=bg hX;have jw:j<k:=by rw[adE,qq];exact(az.1 hj).1
  have hz:=yV j jw;simp only[mm,j4,hj]at hz;unfold lX at hz
  by_cases q1:uk X.name=true<;>simp only[q1,Bool.not_true,Bool.not_false]at hz
  ·by_cases q2:hasName (u.globals.map (·.name)++(u.funcs.take j).map (·.name)) X.name=true<;>simp only[q2]at hz
   ·cases hz
   ·by_cases q3:(!within X.params 0 6|| !within X.aB X.params 100)=true
    ·simp only[q3]at hz;cases hz
    ·simp[within]at q3;omega
  ·cases hz
 refine aE ?_;refine bL (λ(j:Nat)=>j<=fn/\∀q,q<j->j4 u.funcs (gJ u.funcs) q=0) (λj=>[(107,U O j),(105,J fa fn fc),(106,U O fn),aj 1 p1,aj 2 p2])
  (λ_=>[K p2 [U O 0,U O 0] 28,K p1 [J ga i gc,J fa fn fc] 25]) (λj=>fn-j) 0 ⟨aT _,by simp⟩ (aS ap aw) λj ⟨hj,CW⟩=>?_
 refine aU ?_;refine aI (λh5=>?_) (λh5=>?_)
 ·have bS:j<fn:=ax h5
  obtain⟨X,hX⟩:=et qq bS;have oW:bU fa fb fo:=⟨vx (aL hX)⟩;have lY:bY j fn:=⟨bS⟩;obtain⟨cs,fT,bv,rfl,hpi,hri,Ai⟩:=uU j X hX;have Sk:=Ai;obtain⟨ba,bn,bc,_,_,rfl,_⟩:=Ai;have n_:a6 w0 fb (fo+j*4) _:=⟨fT⟩;have Sa:=aq hX;have oX:j4 u.funcs (gJ u.funcs) j=gJ u.funcs X:=by simp[j4,hX]
  repeat(first|refine aE ?_|refine dZ λ_ _=>?_)
  refine bB rfl (λw hw=>aai _ _ _ u.funcs I X (hl.2 X Sa) (Di X Sa) _ w (wM.bZ dG hw.ch) (Sk.bZ dH hw.ch) (iN.bZ hw.ch) rfl) ?_;refine aU ?_;refine aI (λh3=>?_) (λh3=>?_)
  ·have sY:j4 u.funcs (gJ u.funcs) j≠0:=by rw[oX];simpa using h3
   refine aU ?_;refine bB rfl (λw _=>pJ _ _ w) ?_;refine aE ?_;refine gw rfl λ_ hw=>⟨?_,hw.ch⟩;have hh:=gT CW (qq▸bS) sY;simp only[dA,if_neg GG,hgz,hhz,hh];rw[if_neg aC,if_neg aC,if_pos sY,oX]
  ·have sY:j4 u.funcs (gJ u.funcs) j=0:=by rw[oX];simpa using h3
   refine aH ?_;refine bj (j+1) ⟨bS,λq hq=>?_⟩ I ap aw
   by_cases Lw:q=j
   ·subst Lw;exact sY
   ·exact CW q I
 have aa3:j=fn:=by have:=h5;simp at this;omega
 have hbz:(eh (j4 u.funcs (gJ u.funcs)) u.funcs.length)=(0,0):=gh (by rw[<-qq,<-aa3];exact CW);have e_:dA u=if dh u.funcs<0 then(6,0)else if 0<j4 u.funcs (·.params) (dh u.funcs).toNat then(5,dh u.funcs)else(0,0):=by
  simp only[dA,if_neg GG,hgz,hhz,hbz]
  rfl
 rw[e_];refine aE ?_;refine bB rfl (λw hw=>PF _ u.funcs w (wM.bZ dG hw.ch)) ?_;refine aU ?_;refine aI (λh6=>?_) (λh6=>?_)
 ·refine aU ?_
  refine bB rfl (λw _=>pJ _ _ w) ?_;refine aE ?_;refine gw rfl λ_ hw=>⟨?_,hw.ch⟩;rw[if_pos (ax h6)]
 have h6':¬dh u.funcs<0:=ax h6;rw[if_neg h6'];obtain⟨m,hm⟩:∃m:Nat,dh u.funcs=m:=⟨(dh u.funcs).toNat,I⟩;have s6:m<fn:=by
  unfold dh at hm
  split at hm
  ·rename_i q hq
   have:=(List.findIdx?_eq_some_iff_getElem.1 hq).1;omega
  ·omega
 obtain⟨X,hX⟩:=et qq s6;have oW:bU fa fb fo:=⟨vx (aL hX)⟩;have lY:bY m fn:=⟨s6⟩;have hni:lB (dh u.funcs) m:=⟨hm⟩;obtain⟨cs,fT,bv,rfl,hpi,hri,Ai⟩:=uU m X hX;have n_:a6 w0 fb (fo+m*4) _:=⟨fT⟩;have oX:j4 u.funcs (·.params) (dh u.funcs).toNat=X.params:=by rw[hm];simp[j4,hX]
 rw[oX];refine aH ?_;refine aI (λh7=>?_) (λh7=>?_)
 ·refine aU ?_
  refine bB rfl (λw _=>pJ _ _ w) ?_;refine aE ?_;refine gw rfl λ_ hw=>⟨?_,hw.ch⟩;rw[if_pos (ax h7)]
 ·refine aE ?_
  refine gw rfl λ_ hw=>⟨?_,hw.ch⟩;rw[if_neg (ax h7)]
theorem nt{u:a8}(h:(dA u).1=0):dA u=(0,0):=by
 unfold dA at h⊢
 split
 ·rename_i h1;rw[if_pos h1]at h;cases h
 ·rename_i h1;rw[if_neg h1]at h
  split
  ·rename_i h2;rw[if_pos h2]at h;exact absurd h h2
  ·rename_i h2;rw[if_neg h2]at h
   split
   ·rename_i h3;rw[if_pos h3]at h;exact absurd h h3
   ·rename_i h3;rw[if_neg h3]at h
    split
    ·rename_i h4;rw[if_pos h4]at h;exact absurd h h4
    ·rename_i h4;rw[if_neg h4]at h
     split
     ·rename_i h5;rw[if_pos h5]at h;cases h
     ·rename_i h5;rw[if_neg h5]at h
      split
      ·rename_i h6;rw[if_pos h6]at h;cases h
      ·rfl
end
end Go.Proofs.YthfhgolkafpmnaaGreatDoor
