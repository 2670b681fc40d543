/- Lemmas. -/
import Derived.Test.YthfhgolkafpmnaaGreatDoorGB
namespace Go.Proofs.YthfhgolkafpmnaaGreatDoor
open Go.Value renaming int->J,slice->I,pointer->aO,string->aQ,bool->ag,agg->aC
open Go.IntKind renaming i64->Z
open Option renaming some->O,none->U
open Go renaming Value->K,World->ae
open List renaming replicate->aI
open Go.Proofs.Tryz
open Go.Proofs.Tryz renaming prog->Y
open Go Go.RowKit
variable {H:List cq} {e i k n:Nat} {S:Nat->Prop} {w w0:ae}
section
set_option maxHeartbeats 8000000
attribute [local irreducible] wpListIn Code.wpIn Exit.then Exit.inBlock bodyPost wpQuiet wpAnyIn
def uj:List K:=[J Z 0,J Z 0,J Z 1,J Z 2]
theorem adR(g fs nm pa ah:K)(bn bc:Nat)(ba:ax)(qe:bn<=100)(bm:Int)(hr:0<=bm/\bm<=100)(kind:Int)(on:cI)(to:List Int)(tv:K)(w0:ae)(ht:aY w0 tv 1 to gI)(hw:ct w0 0 0 uj):
  gF Y 70 [aC #[g,fs,nm,pa,J Z bm,I ba bn bc,ah],aC #[J Z kind,ag on.dq,J Z on.n,tv]] w0 (J Z (yN bn bm kind on to)):=by
 have IK:=ht;obtain⟨ta,tn,tc,tb,BQ,rfl,qZ,Dz,Gj,XD,Ax,tg⟩:=ht;refine aR func70 rfl ntmps70 rfl (Wd.nil db w0) ?_
 repeat(first|refine aU ?_|refine dd λ_ _=>?_)
 refine bY rfl (λw _=>oB _ _ _ w) ?_;refine bA ?_;apply aL<;>intro h1
 ·refine aV ?_
  exact cv rfl (by simp only[yN,h1];rfl)
 have hwk:within kind 1 3=true:=aD h1;have hkr:1<=kind/\kind<=3:=by simpa[within]using hwk
 obtain⟨i,hi⟩:∃i:Nat,kind=i:=⟨kind.toNat,A⟩;have hni:oT kind i:=⟨hi⟩;have kK:cg i 4:=⟨A⟩;have nO:B6 w0 0 (0+i*1) (J Z (kind-1)):=⟨by
  have:i=1\/i=2\/i=3:=A;rw[hi];rcases this with rfl|rfl|rfl
  ·exact hw 1 _ rfl
  ·exact hw 2 _ rfl
  ·exact hw 3 _ rfl⟩
 refine bA ?_;rename_i p2 _ p3 _;refine kX mixed bC ?_;refine kJ ?_;refine bA ?_;apply aL<;>intro h2
 ·refine aV ?_
  refine cv rfl ?_;have:(to.length:Int)≠kind-1:=by rw[<-qZ];simpa using h2
  simp only[yN,hwk,al this]
  rfl
 have DR:¬(to.length:Int)≠kind-1:=by rw[<-qZ];simpa using h2
 refine bA ?_;refine bY rfl (λw hw=>Ic (f:=116) [aO (O ⟨p2,0,U⟩)] (λt=>!within t 1 (bn-1)) _ to w (IK.cB du hw.c_) λw1 mS x _=>TN _ _ _ _ _ _ bn bc p2 ba qe x w1 ((hw.kr p2).cB mS)) ?_;refine bA ?_;apply aL<;>intro h3
 ·refine aV ?_
  exact cv rfl (by simp only[yN,hwk,ai DR,h3];rfl)
 refine bA ?_;refine kX mixed bC ?_;refine kJ ?_;have fin:∀(bq:Bool),bq=((decide (kind=3)&&decide (to[0]?.getD 0=to[1]?.getD 0))||(decide (kind=2)&& !kN on))->
   yN bn bm kind on to=if bq then 5 else fw bm on:=by
  intro bq hb;subst hb;simp only[yN,hwk,ai DR,h3]
  rfl
 generalize UO:decide (kind=3)=k3;cases k3
 ·refine kJ ?_
  generalize Ct:decide (kind=2)=k2;cases k2
  ·refine kJ ?_
   refine aU ?_;refine bY rfl (λw _=>FP _ _ _ _ _ _ bm hr on w) ?_;refine aU ?_;exact cv rfl (by rw[fin false (by simp[UO,Ct])];rfl)
  ·refine kJ ?_
   refine bA ?_;apply aL<;>intro h4
   ·refine aV ?_
    exact cv rfl (by rw[fin true (by simp only[UO,Ct,kN];simpa using h4.symm)];rfl)
   ·refine aU ?_
    refine bY rfl (λw _=>FP _ _ _ _ _ _ bm hr on w) ?_;refine aU ?_;exact cv rfl (by rw[fin false (by simp only[UO,Ct,kN];simpa using h4.symm)];rfl)
 ·have ahp:kind=3:=aD UO
  have EQ:tn=2:=by have:=DR;rw[<-qZ]at this;omega
  obtain⟨x0,Hi⟩:=eI qZ (show 0<tn by omega);obtain⟨x1,NL⟩:=eI qZ (show 1<tn by omega);have mJ:cl ta tb BQ:=⟨Ax (aZ Hi)⟩;have II:cg 0 tn:=⟨A⟩;have gk:cg 1 tn:=⟨A⟩;obtain⟨cs0,agZ,rfl,_⟩:=tg 0 x0 Hi;obtain⟨cs1,ag0,rfl,_⟩:=tg 1 x1 NL;have Nq:bu w0 tb (BQ+0*1) _:=⟨agZ⟩;have hc1:bu w0 tb (BQ+1*1) _:=⟨ag0⟩;have Ct:decide (kind=2)=false:=by simp[ahp]
  refine kJ ?_;generalize hx:decide (x0=x1)=xx;have adT:∀bq:Bool,xx=bq->yN bn bm kind on to=if bq then 5 else fw bm on:=λbq hb=>by
   refine fin bq ?_;rw[UO,Ct,Hi,NL];simp[hx,hb]
  cases xx
  ·refine kJ ?_
   generalize aho:decide (kind=2)=k2;obtain rfl:k2=false:=by rw[<-aho,Ct]
   refine kJ ?_;refine aU ?_;refine bY rfl (λw _=>FP _ _ _ _ _ _ bm hr on w) ?_;refine aU ?_;exact cv rfl (by rw[adT false rfl];rfl)
  ·refine kJ ?_
   refine aV ?_;exact cv rfl (by rw[adT true rfl];rfl)
def dQ(w:ae)(l:List Int)(cs:List K):Prop:=∃v,cs=[v]/\aY w v 1 l gI
theorem afW(g fs nm pa bs ah:K)(bm:Int)(hr:0<=bm/\bm<=100)(rows:List (List Int))(row:List Int)(block:Nat)(iy:rows[block]?=O row)(p:gD)(sv:K)(w0:ae)(QM:aY w0 ah 1 rows dQ)(hs:aY w0 sv 2 p.src mp):
  gF Y 72 [aC #[g,fs,nm,pa,J Z bm,bs,ah],J Z block,aC #[J Z p.dst,sv]] w0 (J Z (BC bm block row.length p)):=by
 obtain⟨aa,an,ac,ab,ao,rfl,No,Np,aee,hac,Kt,Iw⟩:=QM;obtain⟨va,vn,vc,vb,vo,rfl,ET,acQ,afH,hvc,qt,DB⟩:=hs;obtain⟨cs,gW,rv,rfl,CA⟩:=Iw block row iy;obtain⟨ra,rn,rc,rb,ro,rfl,Av,_⟩:=CA;have jX:block<rows.length:=(aJ.1 iy).1;have mJ:cl aa ab ao:=⟨Kt (aZ iy)⟩;have kK:cg block an:=⟨A⟩;have nO:bu w0 ab (ao+block*1) _:=⟨gW⟩;refine aR func72 rfl ntmps72 rfl (Wd.nil db w0) ?_
 repeat(first|refine bA ?_|refine dd λ_ _=>?_)
 apply aL<;>intro h1
 ·refine aV ?_
  exact cv rfl (by rw[BC,al (aD h1)])
 have QK:¬(block:Int)=0:=aD h1;refine aU ?_;refine bY rfl (λw _=>aap _ _ _ _ _ _ bm hr _ w) ?_;refine bA ?_;apply aL<;>intro h2
 ·refine aV ?_
  exact cv rfl (by rw[BC,ai QK,al (aD h2)])
 have DR:¬(lM bm p.dst≠0):=aD h2;refine aU ?_;refine kX mixed bC ?_;refine kJ ?_;refine bA ?_;apply aL<;>intro h3
 ·refine aV ?_
  exact cv rfl (by rw[BC,ai QK,ai DR,al (by rw[<-Av,<-ET];simpa using h3)])
 have UJ:BC bm block row.length p=(fH (lC p.src (fw bm)) p.src.length).1:=by rw[BC,ai QK,ai DR,ai (by rw[<-Av,<-ET];simpa using h3)]
 rw[UJ];refine aU ?_;rename_i p3 _ p5 _;refine bH (λ(i:Nat)=>i<=vn/\∀j,j<i->lC p.src (fw bm) j=0) (λi=>[(33,J Z i),(31,I va vn vc),(32,J Z vn),M 3 p3]) (λ_=>[aM p3 [g,fs,nm,pa,J Z bm,bs,I aa an ac] 71]) (λi=>vn-i) 0 ⟨aN _,by simp⟩ (aP V bT) λi ⟨hi,cX⟩=>?_;refine bA ?_;apply aL<;>intro h1
 ·have ce:i<vn:=aD h1
  obtain⟨y,hy⟩:=eI ET ce;have mJ:cl va vb vo:=⟨qt (aZ hy)⟩;have kK:cg i vn:=⟨ce⟩;obtain⟨cs,gW,rfl,hyi⟩:=DB i y hy;have nO:bu w0 vb (vo+i*2) _:=⟨gW⟩;have pZ:lC p.src (fw bm) i=fw bm y:=by simp[lC,hy]
  repeat(first|refine aV ?_|refine dd λ_ _=>?_)
  refine bY rfl (λw _=>FP _ _ _ _ _ _ bm hr y w) ?_;refine bA ?_;apply aL<;>intro h2
  ·refine aV ?_
   refine cv rfl ?_;rw[jG cX (ET▸ce) (by rw[pZ];simpa using h2),pZ]
  ·refine aU ?_
   refine a_ (i+1) ⟨ce,λj hj=>?_⟩ A V bT
   by_cases A7:j=i
   ·subst A7;rw[pZ];simpa using h2
   ·exact cX j A
 ·have fX:i=vn:=by have:=h1;simp at this;omega
  refine aV ?_;exact cv rfl (by rw[<-ET,<-fX,iY cX])
theorem Wd.pack{cZ:List cq}(h:Wd S w0 (cZ++H) w)(F:ae->Prop)(hF:∀w2,Wd (df cZ) w2 cZ w2->F w2):Wd S w0 (⟨df cZ,F⟩::H) w:=by
 have AW:=qV.1 h.apart;refine⟨h.c_,?_,?_,?_⟩
 ·intro e he b hb
  rcases bX.1 he with rfl|he
  ·obtain⟨x,hx,uF⟩:=hb
   exact h.own x (cM _ hx) b uF
  ·exact h.own e (en _ he) b hb
 ·intro e he w2 NG lP
  rcases bX.1 he with rfl|he
  ·refine hF w2 ⟨nX.refl _ _,λx hx b hb=>⟨.inl ⟨x,hx,hb⟩,?_⟩,λx hx w3 hs3 Zd=>?_,AW.1⟩
   ·by_cases ce:b<w2.heap.size
    ·exact ce
    ·have h1:=lP b ⟨x,hx,hb⟩
     rw[zF A]at h1;have h2:=(h.own x (cM _ hx) b hb).2;rw[Array.getElem?_eq_getElem h2]at h1;cases h1
   ·exact h.ok x (cM _ hx) w3 (dS NG hs3) λb hb=>(Zd b hb).trans (lP b ⟨x,hx,hb⟩)
  ·exact h.ok e (en _ he) w2 NG lP
 ·refine jm.2 ⟨λf hf b ⟨x,hx,uF⟩ Ar=>AW.2.2 x hx f hf b uF Ar,AW.2.1⟩
structure Row where
 a:ax
 c:Nat
 l:List Int
def fi(r:Row):K:=.slice r.a r.l.length r.c
def gP(r:Row):cq:=G r.a r.l.length r.c 3 1 (r.l.map (J Z))
theorem ti{α β:Type}{f:α->β}{g:β->β}{l:List α}{r r':α}(h:l[k]?=O r)(hr:f r'=g (f r)):(l.set k r').map f=(l.map f).modify k g:=by
 apply cY;intro i;rw[aW,fN,rU,aW]
 by_cases hi:k=i
 ·subst hi
  have ce:k<l.length:=(aJ.1 h).1;have h2:=(aJ.1 h).2;simp[ce,hr,h2]
 ·simp[hi]
theorem D0{rs:List Row}{bo:Nat}(h:Wd S w0 (G (O ⟨bo,0,U⟩) n n e 1 (rs.map fi)::(rs.map gP++H)) w)(hn:n=rs.length)(hb:n<=100)(hl:∀r∈rs,r.l.length<=1000/\∀x∈r.l,dE x):
  aY w (I (O ⟨bo,0,U⟩) n n) 1 (rs.map (·.l)) dQ:=by
 refine h.nf (k:=0) rfl (aD hn) A λi x hx=>?_;rw[aW]at hx;obtain⟨r,hr,rfl⟩:=ff.1 hx;have ce:i<rs.length:=(aJ.1 hr).1;have oX:=hl r (aA hr);refine⟨[fi r],λj v hj=>?_,fi r,rfl,?_⟩
 ·match j,hj with
  |0,hj=>simpa[hr]using hj
 ·refine h.nf (k:=i+1) (a:=r.a) (n:=r.l.length) (c:=r.c) (e:=3) (s:=1) (xs:=r.l.map (J Z)) ?_ rfl A λj y hy=>⟨[J Z y],λk v hk=>?_,rfl,oX.2 y (aA hy)⟩
  ·rw[oD,eX (aD ce),aW,hr];rfl
  ·match k,hk with
   |0,hk=>simpa[hy]using hk
def Z6(n:Nat)(l:List Int):Prop:=l.length<=2/\∀t∈l,0<=t/\t<n
theorem XT(nm pa re:K)(bl:List aq)(bs:K)(w0:ae)(gV:aY w0 bs 6 bl da)(hlen:bl.length<=100)(dV:∀b∈bl,Z6 bl.length b.to):
  iL Y 71 [aC #[nm,pa,re,bs]] w0 λu w'=>∃x:(ax×Nat×Nat)×(Nat->Prop),u=I x.1.1 x.1.2.1 x.1.2.2/\Wd db w0 [⟨x.2,λw=>aY w (I x.1.1 x.1.2.1 x.1.2.2) 1 (ci bl) dQ⟩] w'/\True:=by
 obtain⟨ba,n,bc,bb,tL,rfl,hn,qg,A_,yy,qd,iw⟩:=gV;refine aR func71 rfl ntmps71 rfl (Wd.nil db w0) ?_
 repeat(first|refine aU ?_|refine dd λ_ _=>?_)
 rename_i b1 _ bo _;refine uX 3 1 n ?_;rw[show(aI n (I U 0 0))=(aI n (⟨U,0,[]⟩:Row)).map fi by simp[fi],show(aI n (G U 0 0 3 1 []))=(aI n (⟨U,0,[]⟩:Row)).map gP by simp[gP]];refine bH (λ(x:Nat×List Row)=>x.1<=n/\x.2.map (·.l)=lE bl x.1/\x.2.length=n/\∀r∈x.2,r.l.length<=2*x.1/\∀y∈r.l,dE y) (λx=>[(15,J Z x.1),(13,I ba n bc),(14,J Z n),(3,I (O ⟨bo,0,U⟩) n n)]) (λx=>G (O ⟨bo,0,U⟩) n n 42 1 (x.2.map fi)::x.2.map gP) (λx=>n-x.1) (0,aI n ⟨U,0,[]⟩)
  ⟨aN _,by simp[lE,hn],by simp,by simp⟩ (aP V aB) λx ⟨hi,ot,oG,oF⟩=>?_
 obtain⟨i,rs⟩:=x;simp only at hi ot oG oF|-
 refine bA ?_;apply aL<;>intro h1
 ·have ce:i<n:=aD h1
  obtain⟨B,hB⟩:=eI hn ce;have mJ:cl ba bb tL:=⟨qd (aZ hB)⟩;have kK:cg i n:=⟨ce⟩;obtain⟨cs,gW,pv,lv,tv,rfl,_,_,mB,lu,ht⟩:=iw i B hB;obtain⟨Wo,pn,pc,_,_,rfl,_⟩:=mB;obtain⟨la,ln,lc,_,_,rfl,_⟩:=lu;obtain⟨ta,tn,tc,tb,BQ,rfl,qZ,Dz,Gj,XD,Ax,tg⟩:=ht;have nO:bu w0 bb (tL+i*6) _:=⟨gW⟩;have NH:=dV B (aA hB)
  repeat(first|refine aV ?_|refine dd λ_ _=>?_)
  refine bH (λ(x:Nat×List Row)=>x.1<=tn/\x.2.map (·.l)=(B.to.take x.1).foldl (rS i) (lE bl i)/\x.2.length=n/\∀r∈x.2,r.l.length<=2*i+x.1/\∀y∈r.l,dE y) (λx=>[(24,J Z x.1),(22,I ta tn tc),(23,J Z tn),(4,J Z i),(15,J Z i),(13,I ba n bc),(14,J Z n),(3,I (O ⟨bo,0,U⟩) n n)])
   (λx=>G (O ⟨bo,0,U⟩) n n 42 1 (x.2.map fi)::x.2.map gP) (λx=>tn-x.1) (0,rs)
   ⟨aN _,aD ot,oG,λr hr=>by simpa using oF r hr⟩ (aP V aB) λx ⟨hj,pL,Be,Iz⟩=>?_
  obtain⟨j,wx⟩:=x;simp only at hj pL Be Iz|-
  refine bA ?_;apply aL<;>intro h2
  ·have oK:j<tn:=aD h2
   obtain⟨t,zX⟩:=eI qZ oK;have htt:=NH.2 t (aA zX);obtain⟨k,hk⟩:∃k:Nat,t=k:=⟨t.toNat,A⟩;have Jw:k<n:=A;have B0:k<wx.length:=A;obtain⟨r,hr⟩:=bE wx k B0;have uu:cl ta tb BQ:=⟨Ax (aZ zX)⟩;have EG:cg j tn:=⟨oK⟩;have ahv:cg k n:=⟨Jw⟩;have hni:oT t k:=⟨hk⟩;obtain⟨Jq,nP,rfl,_⟩:=tg j t zX;have uv:bu w0 tb (BQ+j*1) _:=⟨nP⟩;have NM:MG (wx.map fi) (k*1) (I r.a r.l.length r.c):=⟨by simp[hr,fi]⟩;have DU:=Iz r (aA hr)
   repeat(first|refine aU ?_|refine dd λ_ _=>?_)
   rename_i bt _;have Vh:=NH.1;refine kh (k+2) (xs:=r.l.map (J Z)) (e:=3) (by simp[hr,gP]) rfl rfl A A λa' c'=>?_;refine fU (H1:=G (O ⟨bt,0,U⟩) 1 1 3 1 [J Z i]::G (O ⟨bo,0,U⟩) n n 42 1 (wx.map fi)::(wx.set k ⟨a',c',r.l++[(i:Int)]⟩).map gP) (by simp[gP]) ?_;have mT:lS (wx.map fi) (k*1) (I a' (r.l.length+1) c') ((wx.set k ⟨a',c',r.l++[(i:Int)]⟩).map fi):=⟨by simp[fi],aD B0⟩;refine aV ?_;refine a_ (j+1,wx.set k ⟨a',c',r.l++[(i:Int)]⟩) ⟨oK,?_,aD Be,?_⟩ bB V aB
   ·simp only
    rw[bV,zX];simp only[jk,qT,jZ,List.foldl_nil];rw[<-pL,rS,show t.toNat=k by omega];exact ti hr rfl
   ·intro q hq
    rcases j_ hq with hq|rfl
    ·have:=Iz q hq
     exact⟨by simp only;omega,this.2⟩
    ·refine⟨by simp only[bW,lm];omega,λy hy=>?_⟩
     rcases bO.1 hy with hy|hy
     ·exact DU.2 y hy
     ·simp only[bQ]at hy
      subst hy;simp only[dE];omega
  ·have fX:j=tn:=by have:=h2;simp at this;omega
   refine aV ?_;refine a_ (i+1,wx) ⟨ce,?_,Be,λr hr=>?_⟩ bB V aF
   ·simp only[lE,hB]
    rw[pL,fX,qZ,cL]
   ·have:=Iz r hr
    have Vh:=NH.1;exact⟨by simp only;omega,this.2⟩
 ·have fX:i=n:=by have:=h1;simp at this;omega
  refine aV ?_;refine dh rfl λw hw=>⟨((O ⟨bo,0,U⟩,n,n),df (G (O ⟨bo,0,U⟩) n n 42 1 (rs.map fi)::rs.map gP)),rfl,?_,trivial⟩;have kE:Wd db w0 ((G (O ⟨bo,0,U⟩) n n 42 1 (rs.map fi)::rs.map gP)++[]) w:=by rw[cj];exact hw
  refine kE.pack _ λw2 lP=>?_;have:=D0 (H:=[]) (by rw[cj];exact lP) oG.symm A λr hr=>⟨by have:=(oF r hr).1;omega,(oF r hr).2⟩;rw[ot,fX,hn]at this;exact hn▸this
theorem afQ(g fs nm pa bs ah:K)(fl:List bZ)(Xx:fl.length<=100)(bm:Int)(hr:0<=bm/\bm<=100)(x:iA)(ve:dE x.fn)(xv:K)(w0:ae)(hf:aY w0 fs 4 fl kG)(hv:aY w0 xv 2 x.args mp):
  gF Y 73 [aC #[g,fs,nm,pa,J Z bm,bs,ah],aC #[J Z x.op,J Z x.dst,ag x.a.dq,J Z x.a.n,ag x.b.dq,J Z x.b.n,J Z x.fn,xv]] w0 (J Z (fA fl bm x)):=by
 have yC:=hv;obtain⟨va,vn,vc,vb,vo,rfl,ET,acQ,afH,hvc,qt,DB⟩:=hv;refine aR func73 rfl ntmps73 rfl (Wd.nil db w0) ?_
 repeat(first|refine bA ?_|refine dd λ_ _=>?_)
 refine bY rfl (λw _=>oB _ _ _ w) ?_;refine bA ?_;apply aL<;>intro h1
 ·refine aV ?_
  exact cv rfl (by simp at h1;simp[fA,h1])
 have mS:within x.op 1 22=true:=aD h1;refine aU ?_;refine bY rfl (λw _=>LU _ w) ?_;generalize hsd:(shape x.op).1=sd;generalize hsa:(shape x.op).2.1=sa;generalize hsb:(shape x.op).2.2=sb;generalize FZ:decide (x.op=20)=c
 repeat(first|refine aV ?_|refine dd λ_ _=>?_)
 rw[FZ];rename_i p2 _ p3 _ p5 _ p6 _;generalize YW:(!sd)=nsd;refine jS 25 (ag (nsd&& !decide (x.dst=-1))) ?_ ?_
 ·cases nsd
  ·refine cT ?_
   exact aP V bT
  ·refine aV ?_
   exact aP V bT
 generalize e1:(nsd&& !decide (x.dst=-1))=b1;refine bA ?_;refine jS 36 (ag (b1||(!sa&& !kN x.a))) ?_ ?_
 ·cases b1
  ·refine aV ?_
   generalize (!sa)=na;cases na
   ·refine cT ?_
    exact aP V bT
   ·refine aV ?_
    exact aP V bT
  ·refine cT ?_
   exact aP V bT
 generalize e2:(b1||(!sa&& !kN x.a))=b2;refine bA ?_;refine jS 47 (ag (b2||(!sb&& !kN x.b))) ?_ ?_
 ·cases b2
  ·refine aV ?_
   generalize (!sb)=nb;cases nb
   ·refine cT ?_
    exact aP V bT
   ·refine aV ?_
    exact aP V bT
  ·refine cT ?_
   exact aP V bT
 generalize e3:(b2||(!sb&& !kN x.b))=b3;refine bA ?_;refine jS 62 (ag (b3||(!c&&(!decide (x.fn=0)||decide (0<(vn:Int)))))) ?_ ?_
 ·cases b3
  ·refine aV ?_
   generalize (!c)=nc;cases nc
   ·refine cT ?_
    exact aP V bT
   ·refine aV ?_
    generalize e4:(!decide (x.fn=0))=b4;cases b4
    ·refine aV ?_
     exact aP V bT
    ·refine cT ?_
     exact aP V bT
  ·refine cT ?_
   exact aP V bT
 have nW:tG x=(b3||(!c&&(!decide (x.fn=0)||decide (0<(vn:Int))))):=by
  subst e3 e2 e1 YW;simp only[tG,hsd,hsa,hsb,FZ,ET]
 rw[<-nW];refine bA ?_;apply aL<;>intro h2
 ·refine aV ?_
  exact cv rfl (by simp only[fA,mS,h2];rfl)
 refine aU ?_;refine jS 73 (ag (sd&& !(c&&decide (x.dst=-1)))) ?_ ?_
 ·cases sd
  ·refine cT ?_
   exact aP V bT
  ·refine aV ?_
   cases c
   ·refine cT ?_
    exact aP V bT
   ·refine aV ?_
    exact aP V bT
 have rest:((sd&& !(c&&decide (x.dst=-1)))&& !decide (lM bm x.dst=0))=false->fA fl bm x=(fH (lC [⟨121,[aO (O ⟨p2,0,U⟩),aO (O ⟨p3,0,U⟩)],fw bm x.a⟩,⟨122,[aO (O ⟨p2,0,U⟩),aO (O ⟨p3,0,U⟩)],fw bm x.b⟩,⟨123,[aO (O ⟨p6,0,U⟩),aO (O ⟨p3,0,U⟩),aO (O ⟨p2,0,U⟩)],jA fl bm x⟩] (λy:Qn=>y.err)) 3).1:=by
  intro h;simp only[fA,mS,h2,hsd,FZ,h,Bool.not_true];have e:∀a b c:Int,(fH (λi=>([a,b,c]:List Int)[i]?.getD 0) 3).1=if a≠0 then a else if b≠0 then b else c:=by
   intro a b c
   by_cases ha:a=0
   ·by_cases hb:b=0
    ·by_cases hc:c=0
     ·rw[iY (λj hj=>by match j,hj with|0,_=>exact ha|1,_=>exact hb|2,_=>exact hc)]
      simp[ha,hb,hc]
     ·rw[jG (i:=2) (λj hj=>by match j,hj with|0,_=>exact ha|1,_=>exact hb) A hc]
      simp[ha,hb]
    ·rw[jG (i:=1) (λj hj=>by match j,hj with|0,_=>exact ha) A hb]
     simp[ha,hb]
   ·rw[jG (i:=0) (λj hj=>A) A ha]
    simp[ha]
  have e2:(lC [(⟨121,[aO (O ⟨p2,0,U⟩),aO (O ⟨p3,0,U⟩)],fw bm x.a⟩:Qn),⟨122,[aO (O ⟨p2,0,U⟩),aO (O ⟨p3,0,U⟩)],fw bm x.b⟩,⟨123,[aO (O ⟨p6,0,U⟩),aO (O ⟨p3,0,U⟩),aO (O ⟨p2,0,U⟩)],jA fl bm x⟩] (λy:Qn=>y.err))=λi=>([fw bm x.a,fw bm x.b,jA fl bm x]:List Int)[i]?.getD 0:=by
   funext i
   match i with
   |0=>rfl
   |1=>rfl
   |2=>rfl
   |i+3=>rfl
  rw[e2,e]
  rfl
 have tail:((sd&& !(c&&decide (x.dst=-1)))&& !decide (lM bm x.dst=0))=false->∀w,Wd db w0 [aM p6 [ag c] 4,aM p5 [ag sd,ag sa,ag sb] 160,aM p3 [J Z x.op,J Z x.dst,ag x.a.dq,J Z x.a.n,ag x.b.dq,J Z x.b.n,J Z x.fn,I va vn vc] 56,aM p2 [g,fs,nm,pa,J Z bm,bs,ah] 71] w->
   ∀v,aY w v 1 [(⟨121,[aO (O ⟨p2,0,U⟩),aO (O ⟨p3,0,U⟩)],fw bm x.a⟩:Qn),⟨122,[aO (O ⟨p2,0,U⟩),aO (O ⟨p3,0,U⟩)],fw bm x.b⟩,⟨123,[aO (O ⟨p6,0,U⟩),aO (O ⟨p3,0,U⟩),aO (O ⟨p2,0,U⟩)],jA fl bm x⟩] aai->gF Y 120 [v] w (J Z (fA fl bm x)):=by
  intro h w hw v pt;rw[rest h];refine Yg v _ w pt ?_ ?_
  ·intro y hy
   simp only[bX,gr,or_false]at hy;rcases hy with rfl|rfl|rfl<;>exact inferInstance
  ·intro y hy w1 mS
   simp only[bX,gr,or_false]at hy;rcases hy with rfl|rfl|rfl
   ·exact Vt _ _ _ _ _ _ bm hr x _ p2 p3 w1 ((hw.kr p2).cB mS) ((hw.kr p3).cB mS)
   ·exact Vu _ _ _ _ _ _ bm hr x _ p2 p3 w1 ((hw.kr p2).cB mS) ((hw.kr p3).cB mS)
   ·exact NR _ _ _ _ _ _ fl Xx bm hr x ve _ p2 p3 p6 w1 ((hw.kr p2).cB mS) ((hw.kr p3).cB mS) (by rw[FZ];exact(hw.kr p6).cB mS) (hf.cB ie (hw.c_.trans mS)) (yC.cB jH (hw.c_.trans mS))
 have go:∀w (pv:Nat),Wd db w0 [G (O ⟨pv,0,U⟩) 3 3 73 1 [.func (.func 121) #[] #[aO (O ⟨p2,0,U⟩),aO (O ⟨p3,0,U⟩)],.func (.func 122) #[] #[aO (O ⟨p2,0,U⟩),aO (O ⟨p3,0,U⟩)],.func (.func 123) #[] #[aO (O ⟨p6,0,U⟩),aO (O ⟨p3,0,U⟩),aO (O ⟨p2,0,U⟩)]],
   aM p6 [ag c] 4,aM p5 [ag sd,ag sa,ag sb] 160,aM p3 [J Z x.op,J Z x.dst,ag x.a.dq,J Z x.a.n,ag x.b.dq,J Z x.b.n,J Z x.fn,I va vn vc] 56,aM p2 [g,fs,nm,pa,J Z bm,bs,ah] 71] w->
   ((sd&& !(c&&decide (x.dst=-1)))&& !decide (lM bm x.dst=0))=false->gF Y 120 [I (O ⟨pv,0,U⟩) 3 3] w (J Z (fA fl bm x)):=by
  intro w pv hw h;refine tail h w (hw.sub (gh _ _)) _ ?_;refine hw.nf (k:=0) rfl rfl A λi y hy=>?_
  match i,hy with
  |0,hy=>simp only[jN,cF]at hy;subst hy;exact⟨_,λj v hj=>by match j,hj with|0,hj=>exact hj,rfl⟩
  |1,hy=>simp only[oD,jN,cF]at hy;subst hy;exact⟨_,λj v hj=>by match j,hj with|0,hj=>exact hj,rfl⟩
  |2,hy=>simp only[oD,jN,cF]at hy;subst hy;exact⟨_,λj v hj=>by match j,hj with|0,hj=>exact hj,rfl⟩
 refine bA ?_;apply aL<;>intro h3
 ·refine bA ?_
  refine bY rfl (λw _=>aap _ _ _ _ _ _ bm hr _ w) ?_;refine bA ?_;apply aL<;>intro h4
  ·refine aV ?_
   refine cv rfl ?_;simp only[fA,mS,h2,hsd,FZ,h3,h4,Bool.not_true,Bool.true_and]
   rfl
  ·repeat(first|refine aU ?_|refine dd λ_ _=>?_)
   refine bY rfl (λw hw=>go w _ hw (by simp only[h3,h4,Bool.true_and])) ?_;refine aU ?_;exact cv rfl rfl
 ·repeat(first|refine aU ?_|refine dd λ_ _=>?_)
  refine bY rfl (λw hw=>go w _ hw (by simp only[h3,Bool.false_and])) ?_;refine aU ?_;exact cv rfl rfl
def E4(f:bZ):Prop:=f.blocks.length<=40/\ja f.blocks<=300
theorem Dh{l:List aq}{x:aq}(h:l[i]?=O x):pT l (i+1)=pT l i+((x.bg.length+x.list.length:Nat):Int):=by
 simp[pT,bV,h,List.sum_append]
theorem FE(l:List aq):pT l l.length=ja l:=by simp[pT,ja]
theorem xT(l:List aq)(i:Nat):0<=pT l i/\pT l i<=ja l:=by
 have Xz:∀m:List aq,0<=(m.map λb=>((b.bg.length+b.list.length:Nat):Int)).sum:=by
  intro m
  induction m with
  |nil=>simp
  |cons x m ih=>simp only[cf,g_];omega
 refine⟨Xz _,?_⟩;have:ja l=pT l i+((l.drop i).map λb=>((b.bg.length+b.list.length:Nat):Int)).sum:=by
  rw[ja,pT,<-List.sum_append,<-bz,List.take_append_drop]
 have:=Xz (l.drop i);omega
theorem OZ{bm kind:Int}{on:cI}{to:List Int}(h:yN n bm kind on to=0):Z6 n to:=by
 unfold yN at h
 by_cases h1:within kind 1 3=true
 ·simp only[h1,Bool.not_true]at h
  by_cases h2:(to.length:Int)≠kind-1
  ·rw[al h2]at h;cases h
  ·rw[ai h2]at h
   have hk:1<=kind/\kind<=3:=by simpa[within]using h1
   refine⟨A,λt ht=>?_⟩
   by_cases h3:(to.any λt=>!within t 1 (n-1))=true
   ·simp only[h3]at h;cases h
   ·have:=λhh=>h3 (rG.2 ⟨t,ht,hh⟩)
    simp[within]at this;omega
 ·have h1:within kind 1 3=false:=aD h1
  simp only[h1]at h;cases h
theorem abW(g fs ah:K)(f:bZ)(hf:E4 f)(bs nv:K)(nl:List ByteArray)(w0:ae)(gV:aY w0 bs 6 f.blocks da)(hnv:aY w0 nv 1 nl S9):
  gF Y 30 [aC #[g,fs,aQ f.name,J Z f.params,J Z f.bm,bs,ah],nv] w0 (J Z (nD nl f)):=by
 obtain⟨ba,n,bc,bb,tL,rfl,hn,qg,A_,yy,qd,iw⟩:=gV;refine aR func30 rfl ntmps30 rfl (Wd.nil db w0) ?_
 repeat(first|refine aU ?_|refine dd λ_ _=>?_)
 rename_i p2 _;have h24:=hf.1;have ajh:=hf.2;refine bH (λ(i:Nat)=>i<=n) (λi=>[(12,J Z i),(5,J Z (pT f.blocks i)),(10,I ba n bc),(11,J Z n),M 2 p2,(1,nv)]) (λ_=>[aM p2 [g,fs,aQ f.name,J Z f.params,J Z f.bm,I ba n bc,ah] 71]) (λi=>n-i) 0 (aN _) (aP V bT) λi hi=>?_;refine bA ?_;apply aL<;>intro h1
 ·have ce:i<n:=aD h1
  obtain⟨B,hB⟩:=eI hn ce;have mJ:cl ba bb tL:=⟨qd (aZ hB)⟩;have kK:cg i n:=⟨ce⟩;obtain⟨cs,gW,pv,lv,tv,rfl,_,_,mB,lu,ht⟩:=iw i B hB;obtain⟨Wo,pn,pc,_,_,rfl,As,_,NC,_⟩:=mB;obtain⟨la,ln,lc,_,_,rfl,Jy,_,QW,_⟩:=lu;obtain⟨ta,tn,tc,tb,BQ,rfl,qZ,Dz,Gj,XD,Ax,tg⟩:=ht;have nO:bu w0 bb (tL+i*6) _:=⟨gW⟩;have KT:=Dh hB;have hm1:=xT f.blocks i;have F0:=xT f.blocks (i+1)
  repeat(first|refine aV ?_|refine dd λ_ _=>?_)
  refine a_ (i+1) ce A ?_ aB;rw[KT,<-As,<-Jy,Int.natCast_add];exact V
 ·have fX:i=n:=by have:=h1;simp at this;omega
  have mK:pT f.blocks i=ja f.blocks:=by rw[fX,hn,FE]
  rw[mK];refine aV ?_;refine bY rfl (λw _=>V1 _ w) ?_;refine bA ?_;apply aL<;>intro h2
  ·refine aV ?_
   exact cv rfl (by simp only[nD,h2];rfl)
  refine bA ?_;refine bY rfl (λw hw=>C2 _ nl _ w (hnv.cB Hl hw.c_)) ?_;refine bA ?_;apply aL<;>intro h3
  ·refine aV ?_
   exact cv rfl (by simp only[nD,h2,h3];rfl)
  refine bA ?_;refine bY rfl (λw _=>oB _ _ _ w) ?_;refine bA ?_;generalize Mp:(!within f.params 0 6)=b1;refine jS 53 (ag (b1|| !within f.bm f.params 100)) ?_ ?_
  ·cases b1
   ·refine aV ?_
    refine bY rfl (λw _=>oB _ _ _ w) ?_;refine aV ?_;exact aP V bT
   ·refine cT ?_
    exact aP V bT
  refine bA ?_;apply aL<;>intro h4
  ·refine aV ?_
   exact cv rfl (by simp only[nD,h2,h3,Mp,h4];rfl)
  refine bA ?_;refine bY rfl (λw _=>oB _ _ _ w) ?_;refine bA ?_;generalize wS:(!within (n:Int) 1 40)=b2;refine jS 64 (ag (b2||decide (300<ja f.blocks))) ?_ ?_
  ·cases b2
   ·refine aV ?_
    exact aP V bT
   ·refine cT ?_
    exact aP V bT
  refine bA ?_;apply aL<;>intro h5
  ·refine aV ?_
   exact cv rfl (by simp only[nD,h2,h3,Mp,h4,<-hn,wS,h5];rfl)
  ·refine aU ?_
   exact cv rfl (by simp only[nD,h2,h3,Mp,h4,<-hn,wS,h5];rfl)
theorem jj(bs:List aq):∀i,(lE bs i).length=bs.length
 |0=>by simp[lE]
 |i+1=>by
  have hf:∀(l:List Int) (rows:List (List Int)),(l.foldl (rS i) rows).length=rows.length:=by
   intro l
   induction l with
   |nil=>intro rows;rfl
   |cons t l ih=>intro rows;rw[jZ,ih];simp[rS]
  rw[lE,hf,jj bs i]
theorem aba(g fs ah:K)(fl:List bZ)(IF:fl.length<=100)(f:bZ)(hf:E4 f)(hr:0<=f.bm/\f.bm<=100)(bs:K)(w0:ae)(Xx:aY w0 fs 4 fl kG)(gV:aY w0 bs 6 f.blocks da)(rr:ct w0 0 0 uj)(QM:ah=I U 0 0):
  gF Y 31 [aC #[g,fs,aQ f.name,J Z f.params,J Z f.bm,bs,ah]] w0 (J Z (jz fl f)):=by
 subst QM;have rq:=gV;obtain⟨ba,n,bc,bb,tL,rfl,hn,qg,A_,yy,qd,iw⟩:=gV;refine aR func31 rfl ntmps31 rfl (Wd.nil db w0) ?_;have h24:=hf.1
 repeat(first|refine aU ?_|refine dd λ_ _=>?_)
 rename_i p1 _;refine bH (λ(i:Nat)=>i<=n/\∀j,j<i->lC f.blocks (mr f.blocks.length f.bm) j=0) (λi=>[(18,J Z i),(16,I ba n bc),(17,J Z n),M 1 p1]) (λ_=>[aM p1 [g,fs,aQ f.name,J Z f.params,J Z f.bm,I ba n bc,I U 0 0] 71]) (λi=>n-i) 0 ⟨aN _,by simp⟩ (aP V bT) λi ⟨hi,cX⟩=>?_;refine bA ?_;apply aL<;>intro h1
 ·have ce:i<n:=aD h1
  obtain⟨B,hB⟩:=eI hn ce;have mJ:cl ba bb tL:=⟨qd (aZ hB)⟩;have kK:cg i n:=⟨ce⟩;obtain⟨cs,gW,pv,lv,tv,rfl,_,_,mB,lu,ht⟩:=iw i B hB;obtain⟨Wo,pn,pc,_,_,rfl,As,_,NC,_⟩:=mB;obtain⟨la,ln,lc,_,_,rfl,Jy,_,QW,_⟩:=lu;have IK:=ht;obtain⟨ta,tn,tc,tb,BQ,rfl,qZ,Dz,Gj,XD,Ax,tg⟩:=ht;have nO:bu w0 bb (tL+i*6) _:=⟨gW⟩;have pZ:lC f.blocks (mr f.blocks.length f.bm) i=yN n f.bm B.kind B.on B.to:=by simp[lC,hB,mr,hn]
  repeat(first|refine aV ?_|refine dd λ_ _=>?_)
  refine bY rfl (λw hw=>adR g fs _ _ _ n bc ba A f.bm hr B.kind B.on B.to _ w (IK.cB du hw.c_) (rr.cB hw.c_)) ?_;refine bA ?_;apply aL<;>intro h2
  ·refine aV ?_
   refine cv rfl ?_;have DR:yN n f.bm B.kind B.on B.to≠0:=aD h2;rw[jz,jG cX (hn▸ce) (by rw[pZ];exact DR),al (by rw[pZ];exact DR),pZ]
  ·refine aU ?_
   refine a_ (i+1) ⟨ce,λj hj=>?_⟩ A V aB
   by_cases A7:j=i
   ·subst A7;rw[pZ];simpa using h2
   ·exact cX j A
 have fX:i=n:=by have:=h1;simp at this;omega
 rw[fX]at cX;have UI:jz fl f=(fH (lq fl f) f.blocks.length).1:=by rw[jz,<-hn,iY (hn▸cX)];rfl
 rw[UI];have lG:∀b∈f.blocks,Z6 f.blocks.length b.to:=by
  intro b hb;obtain⟨j,hj⟩:=bR hb;have iS:j<n:=by rw[hn];exact(aJ.1 hj).1
  have:=cX j iS;simp only[lC,hj]at this;exact OZ this
 refine aV ?_;refine cN (val:=λx:(ax×Nat×Nat)×(Nat->Prop)=>.slice x.1.1 x.1.2.1 x.1.2.2) (cZ:=λx=>[⟨x.2,λw=>aY w (I x.1.1 x.1.2.1 x.1.2.2) 1 (ci f.blocks) dQ⟩]) (φ:=λ_=>True) rfl (λw hw=>XT _ _ _ f.blocks _ w (rq.cB cu hw.c_) A lG) λx _=>?_;obtain⟨⟨xa,xn,xc⟩,fp⟩:=x;simp only[bF,aS];refine aV ?_;refine bH (λ(i:Nat)=>i<=n/\∀j,j<i->lq fl f j=0) (λi=>[(38,J Z i),(36,I ba n bc),(37,J Z n),M 1 p1]) (λ_=>[⟨fp,λw=>aY w (I xa xn xc) 1 (ci f.blocks) dQ⟩,aM p1 [g,fs,aQ f.name,J Z f.params,J Z f.bm,I ba n bc,I xa xn xc] 71]) (λi=>n-i) 0 ⟨aN _,by simp⟩ (aP V bT) λi ⟨hi,sY⟩=>?_;refine bA ?_;apply aL<;>intro h1
 ·have ce:i<n:=aD h1
  obtain⟨B,hB⟩:=eI hn ce;have mJ:cl ba bb tL:=⟨qd (aZ hB)⟩;have kK:cg i n:=⟨ce⟩;obtain⟨cs,gW,pv,lv,tv,rfl,_,_,mB,lu,ht⟩:=iw i B hB;obtain⟨Wo,pn,pc,pb,po,rfl,As,_,NC,hpc,hpa,U2⟩:=mB;obtain⟨la,ln,lc,lb,lo,rfl,Jy,_,QW,hlc,IJ,xz⟩:=lu;obtain⟨ta,tn,tc,tb,BQ,rfl,qZ,Dz,Gj,XD,Ax,tg⟩:=ht;have nO:bu w0 bb (tL+i*6) _:=⟨gW⟩;have hbe:lq fl f i=if (fH (lC B.bg (oO f.bm f.blocks i)) B.bg.length).1≠0 then(fH (lC B.bg (oO f.bm f.blocks i)) B.bg.length).1 else(fH (lC B.list (fA fl f.bm)) B.list.length).1:=by simp[lq,hB]
  have iy:∃row,(ci f.blocks)[i]?=O row:=⟨_,bL (by rw[ci,jj];omega)⟩;obtain⟨row,iy⟩:=iy;have aaw:∀c:Int,c≠0->lq fl f i=c->J Z c=J Z (fH (lq fl f) f.blocks.length).1:=by
   intro c hc hb;rw[jG sY (hn▸ce) (by rw[hb];exact hc),hb]
  repeat(first|refine aV ?_|refine dd λ_ _=>?_)
  rename_i p7 _;refine bH (λ(j:Nat)=>j<=pn/\∀k,k<j->lC B.bg (oO f.bm f.blocks i) k=0) (λj=>[(46,J Z j),(44,I Wo pn pc),(45,J Z pn),(6,J Z i),M 7 p7,(38,J Z i),(36,I ba n bc),(37,J Z n),M 1 p1])
   (λ_=>[aM p7 [I Wo pn pc,I la ln lc,J Z B.kind,ag B.on.dq,J Z B.on.n,I ta tn tc] 46,⟨fp,λw=>aY w (I xa xn xc) 1 (ci f.blocks) dQ⟩,aM p1 [g,fs,aQ f.name,J Z f.params,J Z f.bm,I ba n bc,I xa xn xc] 71]) (λj=>pn-j) 0 ⟨aN _,by simp⟩ (aP V bT) λj ⟨hj,EB⟩=>?_
  refine bA ?_;apply aL<;>intro h2
  ·have oK:j<pn:=aD h2
   obtain⟨p,hp⟩:=eI As oK;have uu:cl Wo pb po:=⟨hpa (aZ hp)⟩;have EG:cg j pn:=⟨oK⟩;obtain⟨Jq,nP,sv,rfl,SF,rC⟩:=U2 j p hp;have aiu:=rC;obtain⟨sa,sn,sc,_,_,rfl,_⟩:=rC;have uv:bu w0 pb (po+j*2) _:=⟨nP⟩;have pZ:lC B.bg (oO f.bm f.blocks i) j=BC f.bm i row.length p:=by simp[lC,hp,oO,iy]
   repeat(first|refine aV ?_|refine dd λ_ _=>?_)
   refine bY rfl (λw hw=>afW g fs _ _ _ _ f.bm hr (ci f.blocks) row i iy p _ w (hw.get (k:=2) rfl) (aiu.cB jH hw.c_)) ?_;refine bA ?_;apply aL<;>intro h3
   ·refine aV ?_
    have tM:BC f.bm i row.length p≠0:=aD h3;refine cv rfl (aaw _ tM ?_);rw[hbe,jG EB (As▸oK) (by rw[pZ];exact tM),al (by rw[pZ];exact tM),pZ]
   ·refine aU ?_
    refine a_ (j+1) ⟨oK,λk hk=>?_⟩ A V aB
    by_cases UQ:k=j
    ·subst UQ;rw[pZ];simpa using h3
    ·exact EB k A
  have ab4:j=pn:=by have:=h2;simp at this;omega
  have aem:lq fl f i=(fH (lC B.list (fA fl f.bm)) B.list.length).1:=by rw[hbe,<-As,<-ab4,iY EB];rfl
  refine aV ?_;refine bH (λ(j:Nat)=>j<=ln/\∀k,k<j->lC B.list (fA fl f.bm) k=0) (λj=>[(61,J Z j),(59,I la ln lc),(60,J Z ln),(38,J Z i),(36,I ba n bc),(37,J Z n),M 1 p1])
   (λ_=>[⟨fp,λw=>aY w (I xa xn xc) 1 (ci f.blocks) dQ⟩,aM p1 [g,fs,aQ f.name,J Z f.params,J Z f.bm,I ba n bc,I xa xn xc] 71]) (λj=>ln-j) 0 ⟨aN _,by simp⟩ (aP V aB) λj ⟨hj,Un⟩=>?_
  refine bA ?_;apply aL<;>intro h3
  ·have oK:j<ln:=aD h3
   obtain⟨x,hx⟩:=eI Jy oK;have uu:cl la lb lo:=⟨IJ (aZ hx)⟩;have EG:cg j ln:=⟨oK⟩;obtain⟨Jq,nP,av,rfl,_,_,_,_,ve,Mo⟩:=xz j x hx;have Iy:=Mo;obtain⟨aa,an,ac,_,_,rfl,_⟩:=Mo;have uv:bu w0 lb (lo+j*8) _:=⟨nP⟩;have pZ:lC B.list (fA fl f.bm) j=fA fl f.bm x:=by simp[lC,hx]
   repeat(first|refine aV ?_|refine dd λ_ _=>?_)
   refine bY rfl (λw hw=>afQ g fs _ _ _ _ fl IF f.bm hr x ve _ w (Xx.cB ie hw.c_) (Iy.cB jH hw.c_)) ?_;refine bA ?_;apply aL<;>intro h4
   ·refine aV ?_
    have h4':fA fl f.bm x≠0:=aD h4;refine cv rfl (aaw _ h4' ?_);rw[aem,jG Un (Jy▸oK) (by rw[pZ];exact h4'),pZ]
   ·refine aU ?_
    refine a_ (j+1) ⟨oK,λk hk=>?_⟩ A V aB
    by_cases UQ:k=j
    ·subst UQ;rw[pZ];simpa using h4
    ·exact Un k A
  ·have UF:j=ln:=by have:=h3;simp at this;omega
   have hz:lq fl f i=0:=by rw[aem,<-Jy,<-UF,iY Un]
   refine aV ?_;refine a_ (i+1) ⟨ce,λk hk=>?_⟩ A V aF
   by_cases hki:k=i
   ·subst hki;exact hz
   ·exact sY k A
 ·have KF:i=n:=by have:=h1;simp at this;omega
  refine aV ?_;exact cv rfl (by rw[<-hn,<-KF,iY sY])
def vu(u:dk):Prop:=u.funcs.length<=10/\∀f∈u.funcs,E4 f
theorem Q8(v:K)(l:List bZ)(w0:ae)(hv:aY w0 v 4 l kG):
  gF Y 32 [v,.func (.func 33) #[] #[]] w0 (J Z (fE l)):=by
 obtain⟨a,n,c,b,o,rfl,hn,qg,A_,hc,ha,iw⟩:=hv;have one:∀(w:ae) (x:bZ) (v:K),gF Y 33 [aC #[aQ x.name,J Z x.params,J Z x.bm,v]] w (ag (CC x)):=by
  intro w x v;refine aR func33 rfl ntmps33 rfl (Wd.nil db w) ?_
  repeat(first|refine aU ?_|refine dd λ_ _=>?_)
  exact cv rfl rfl
 refine aR func32 rfl ntmps32 rfl (Wd.nil db w0) ?_;refine aU ?_;refine bH (λ(i:Nat)=>i<=n/\∀j t,j<i->l[j]?=O t->CC t=false) (λi=>[(8,J Z i),(0,I a n c),(1,.func (.func 33) #[] #[]),(7,J Z n)]) (λ_=>[]) (λi=>n-i) 0 ⟨aN _,by simp⟩ (aP V bT) λi ⟨hi,cX⟩=>?_;refine bA ?_;apply aL<;>intro h1
 ·have ce:i<n:=aD h1
  obtain⟨x,hx⟩:=eI hn ce;have mJ:cl a b o:=⟨ha (aZ hx)⟩;have kK:cg i n:=⟨ce⟩;obtain⟨cs,gW,bv,rfl,_⟩:=iw i x hx;have nO:bu w0 b (o+i*4) _:=⟨gW⟩;refine aU ?_;refine uV rfl (us:=[]) (vs:=[aC #[aQ x.name,J Z x.params,J Z x.bm,bv]]) (xs:=[]) (λw _=>one w x bv) ?_;refine bA ?_;apply aL<;>intro h2
  ·refine aV ?_
   refine cv rfl ?_;have:l.findIdx? CC=O i:=by
    rw[List.findIdx?_eq_some_iff_getElem];have iM:i<l.length:=A;have hxi:l[i]=x:=(aJ.1 hx).2;exact⟨iM,by rw[hxi];exact h2,λj hj=>by have:=cX j l[j] hj (bL A);simp[this]⟩
   simp[fE,this]
  ·refine aU ?_
   refine a_ (i+1) ⟨ce,λj t hj ht=>?_⟩ A V bT
   by_cases A7:j=i
   ·subst A7
    rw[hx]at ht;simp only[cF]at ht;subst ht;exact h2
   ·exact cX j t A ht
 ·have fX:i=n:=by have:=h1;simp at this;omega
  refine aV ?_;refine cv rfl ?_;have:l.findIdx? CC=U:=by
   rw[List.findIdx?_eq_none_iff];intro t ht;obtain⟨j,hj⟩:=bR ht;exact cX j t (by have:=(aJ.1 hj).1;omega) hj
  simp[fE,this]
theorem Lo{c:Nat}{a:ax}{l:List ByteArray}(h:Wd S w0 H w)(hk:H[k]?=O (G a n c e 1 (l.map aQ)))(hn:n=l.length)(hb:n<=1000):aY w (I a n c) 1 l S9:=by
 refine h.nf hk hn A λi x hx=>⟨[aQ x],λj v hj=>?_,rfl⟩
 match j,hj with
 |0,hj=>simpa[hx]using hj
theorem OG{l:List lD}{x:lD}(h:l[i]?=O x):qu l (i+1)=qu l i+x.size:=by
 simp[qu,bV,h,List.sum_append]
theorem AJ(u:dk)(hl:vu u)(g fs:K)(w0:ae)(hg:aY w0 g 3 u.globals gX)(hf:aY w0 fs 4 u.funcs kG)(rr:ct w0 0 0 uj):
  gF Y 11 [aC #[g,fs]] w0 (aC #[J Z (gL u).1,J Z (gL u).2]):=by
 have KE:=hg;have Jt:=hf;obtain⟨ga,gn,gc,gb,go,rfl,hgn,ajV,ajU,hgc,YP,UF⟩:=hg;obtain⟨fa,fn,fc,fb,fo,rfl,ve,ab2,ab1,hfc,QV,Cr⟩:=hf;have aj0:=hl.1;refine aR func11 rfl ntmps11 rfl (Wd.nil db w0) ?_
 repeat(first|refine bA ?_|refine dd λ_ _=>?_)
 rename_i p1 _ p2 _;generalize Mp:decide (10<(gn:Int))=b1;refine jS 26 (ag (b1||decide (10<(fn:Int)))) ?_ ?_
 ·cases b1
  ·refine aV ?_
   exact aP V bT
  ·refine cT ?_
   exact aP V bT
 refine bA ?_;apply aL<;>intro h1
 ·refine bA ?_
  refine bY rfl (λw _=>vT _ _ w) ?_;refine aV ?_;refine fD rfl λ_ hw=>⟨?_,hw.c_⟩;have:10<(u.globals.length:Int)\/10<(u.funcs.length:Int):=by subst Mp;rw[<-hgn,<-ve];simpa using h1
  simp only[gL,al this]
 have QK:¬(10<(u.globals.length:Int)\/10<(u.funcs.length:Int)):=by subst Mp;rw[<-hgn,<-ve];simpa using h1
 have UH:gn<=10:=A;refine aU ?_;refine dJ 9 1 ?_;refine bH (λ(x:Nat×ax×Nat)=>x.1<=gn/\(0<=qu u.globals x.1/\qu u.globals x.1<=200)/\∀j,j<x.1->qF u.globals j=0) (λx=>[(31,J Z x.1),(29,I ga gn gc),(30,J Z gn),(3,I x.2.1 x.1 x.2.2),(4,J Z (qu u.globals x.1)),M 1 p1,M 2 p2])
  (λx=>[G x.2.1 x.1 x.2.2 9 1 (((u.globals.take x.1).map (·.name)).map aQ),aM p2 [J Z 0,J Z 0] 28,aM p1 [I ga gn gc,I fa fn fc] 25]) (λx=>gn-x.1) (0,U,0) ⟨aN _,by simp[qu],by simp⟩ (aP V bT) λx ⟨hi,aiz,cX⟩=>?_
 obtain⟨i,na,nc⟩:=x;simp only at hi aiz cX|-
 refine bA ?_;apply aL<;>intro h2
 ·have ce:i<gn:=aD h2
  obtain⟨X,hX⟩:=eI hgn ce;have mJ:cl ga gb go:=⟨YP (aZ hX)⟩;have kK:cg i gn:=⟨ce⟩;obtain⟨cs,gW,iv,rfl,mT,hiv⟩:=UF i X hX;obtain⟨ia,inn,ic,_,_,rfl,uB,_,ajX,_⟩:=hiv;have nO:bu w0 gb (go+i*3) _:=⟨gW⟩;have pZ:qF u.globals i=ls ((u.globals.take i).map (·.name)) (qu u.globals i) X:=by simp[qF,lC,hX]
  have yS:i=((u.globals.take i).map (·.name)).length:=by rw[aG,dA];omega
  have hts:=OG hX;refine adU ?_;refine vV ?_
  repeat(first|refine adU ?_|refine dd λ_ _=>?_)
  rename_i p6 _;refine aaq [(7,J Z (qF u.globals i)),(5,J Z i),M 6 p6,(31,J Z i),(29,I ga gn gc),(30,J Z gn),(3,I na i nc),(4,J Z (qu u.globals i)),M 1 p1,M 2 p2]
   [aM p6 [aQ X.name,J Z X.size,I ia inn ic] 65,G na i nc 9 1 (((u.globals.take i).map (·.name)).map aQ),aM p2 [J Z 0,J Z 0] 28,aM p1 [I ga gn gc,I fa fn fc] 25] ?_ ?_
  ·rw[pZ]
   refine aU ?_;refine bY rfl (λw _=>V1 _ w) ?_;refine bA ?_;apply aL<;>intro k1
   ·rw[show ls ((u.globals.take i).map (·.name)) (qu u.globals i) X=12 by simp only[ls,k1];rfl]
    refine aU ?_;exact aP V aF
   refine bA ?_;refine bY rfl (λw hw=>C2 _ ((u.globals.take i).map (·.name)) _ w (Lo hw (k:=1) rfl yS A)) ?_;refine bA ?_;apply aL<;>intro k2
   ·rw[show ls ((u.globals.take i).map (·.name)) (qu u.globals i) X=7 by simp only[ls,k1,k2];rfl]
    refine aU ?_;exact aP V aF
   refine bA ?_;refine bY rfl (λw _=>oB _ _ _ w) ?_;refine bA ?_;apply aL<;>intro k3
   ·rw[show ls ((u.globals.take i).map (·.name)) (qu u.globals i) X=3 by simp only[ls,k1,k2,k3];rfl]
    refine aU ?_;exact aP V aF
   have mK:1<=X.size/\X.size<=200:=by simpa[within]using k3
   refine bA ?_;apply aL<;>intro k4
   ·rw[show ls ((u.globals.take i).map (·.name)) (qu u.globals i) X=9 by simp only[ls,k1,k2,k3];rw[<-uB];simp only[dv]at k4;rw[al k4];rfl]
    refine aU ?_;exact aP V aF
   simp only[fg]at k4;refine aU ?_;apply aL<;>intro k5
   ·rw[show ls ((u.globals.take i).map (·.name)) (qu u.globals i) X=10 by simp only[ls,k1,k2,k3];rw[<-uB];simp only[dv]at k5;rw[ai k4,al k5];rfl]
    refine aU ?_;exact aP V aF
   ·rw[show ls ((u.globals.take i).map (·.name)) (qu u.globals i) X=0 by simp only[ls,k1,k2,k3];rw[<-uB];simp only[fg]at k5;rw[ai k4,ai k5];rfl]
    refine aU ?_;exact aP V aF
  refine bA ?_;apply aL<;>intro h3
  ·have tM:qF u.globals i≠0:=aD h3
   refine bA ?_;refine bY rfl (λw _=>vT _ _ w) ?_;refine aV ?_;refine fD rfl λ_ hw=>⟨?_,hw.c_⟩;have hh:=jG cX (hgn▸ce) tM;simp only[gL,ai QK,hh];rw[al tM]
  have tM:qF u.globals i=0:=aD h3;have dV:(1<=X.size/\X.size<=200)/\qu u.globals i+X.size<=200:=by
   rw[pZ]at tM;unfold ls at tM
   by_cases q1:we X.name=true<;>simp only[q1,Bool.not_true,Bool.not_false]at tM
   ·by_cases q2:hasName ((u.globals.take i).map (·.name)) X.name=true<;>simp only[q2]at tM
    ·cases tM
    ·by_cases q3:within X.size 1 200=true<;>simp only[q3,Bool.not_true,Bool.not_false]at tM
     ·have mK:1<=X.size/\X.size<=200:=by simpa[within]using q3
      refine⟨mK,?_⟩
      by_cases q4:X.size<(X.init.length:Int)
      ·simp only[q4]at tM;cases tM
      ·by_cases q5:200<qu u.globals i+X.size
       ·simp only[q4,q5]at tM;cases tM
       ·omega
     ·cases tM
   ·cases tM
  obtain⟨mK,htt⟩:=dV
  repeat(first|refine aU ?_|refine dd λ_ _=>?_)
  refine fB rfl rfl A A λa' c'=>?_;rw[show((u.globals.take i).map (·.name)).map aQ++[aQ X.name]=((u.globals.take (i+1)).map (·.name)).map aQ by simp[bV,hX]];refine aU ?_;refine a_ (i+1,a',c') ⟨ce,by simp only[hts];omega,λj hj=>?_⟩ bB ?_ ?_
  ·by_cases A7:j=i
   ·subst A7;exact tM
   ·exact cX j (by simp only at hj;omega)
  ·rw[hts]
   exact V
  ·exact List.Sublist.cons _ (.cons _ (.refl _))
 have fX:i=gn:=by have:=h2;simp at this;omega
 have hgz:(fH (qF u.globals) u.globals.length)=(0,0):=iY (by rw[<-hgn,<-fX];exact cX);have xC:(u.globals.take i).map (·.name)=u.globals.map (·.name):=by rw[fX,hgn,cL]
 rw[xC];subst fX;refine aV ?_;refine bH (λ(x:Nat×ax×Nat)=>x.1<=fn/\∀j,j<x.1->mR u j=0) (λx=>[(82,J Z x.1),(80,I fa fn fc),(81,J Z fn),(3,I x.2.1 (i+x.1) x.2.2),M 1 p1,M 2 p2])
  (λx=>[G x.2.1 (i+x.1) x.2.2 9 1 ((u.globals.map (·.name)++(u.funcs.take x.1).map (·.name)).map aQ),aM p2 [J Z 0,J Z 0] 28,aM p1 [I ga i gc,I fa fn fc] 25]) (λx=>fn-x.1) (0,na,nc) ⟨aN _,by simp⟩ (by simp only[ri,dm,cj,dR];exact aP V aF) λx ⟨Ju,sY⟩=>?_
 obtain⟨k,ma,mc⟩:=x;simp only at Ju sY|-
 refine bA ?_;apply aL<;>intro h4
 ·have ce:k<fn:=aD h4
  obtain⟨X,hX⟩:=eI ve ce;have mJ:cl fa fb fo:=⟨QV (aZ hX)⟩;have kK:cg k fn:=⟨ce⟩;obtain⟨cs,gW,bv,rfl,SF,hri,Js⟩:=Cr k X hX;have Uu:=Js;obtain⟨ba,bn,bc,_,_,rfl,_⟩:=Js;have nO:bu w0 fb (fo+k*4) _:=⟨gW⟩;have hlx:=hl.2 X (aA hX);have pZ:mR u k=nD (u.globals.map (·.name)++(u.funcs.take k).map (·.name)) X:=by simp[mR,lC,hX]
  have yS:i+k=(u.globals.map (·.name)++(u.funcs.take k).map (·.name)).length:=by rw[bW,aG,aG,dA];omega
  repeat(first|refine aV ?_|refine dd λ_ _=>?_)
  refine bY rfl (λw hw=>abW _ _ _ X hlx _ _ (u.globals.map (·.name)++(u.funcs.take k).map (·.name)) w (Uu.cB cu hw.c_) (Lo hw (k:=2) rfl yS A)) ?_;refine bA ?_;apply aL<;>intro h3
  ·have tM:mR u k≠0:=by rw[pZ];simpa using h3
   refine bA ?_;refine bY rfl (λw _=>vT _ _ w) ?_;refine aV ?_;refine fD rfl λ_ hw=>⟨?_,hw.c_⟩;have hh:=jG sY (ve▸ce) tM;simp only[gL,ai QK,hgz,hh];rw[ai bT,al tM,pZ]
  have tM:mR u k=0:=by rw[pZ];simpa using h3
  repeat(first|refine aU ?_|refine dd λ_ _=>?_)
  refine fB rfl rfl A A λa' c'=>?_;rw[show(u.globals.map (·.name)++(u.funcs.take k).map (·.name)).map aQ++[aQ X.name]=(u.globals.map (·.name)++(u.funcs.take (k+1)).map (·.name)).map aQ by simp[bV,hX]];refine aU ?_;refine a_ (k+1,a',c') ⟨ce,λj hj=>?_⟩ bB V ?_
  ·by_cases A7:j=k
   ·subst A7;exact tM
   ·exact sY j (by simp only at hj;omega)
  ·exact List.Sublist.cons _ (.cons _ (.cons _ (.refl _)))
 have aeH:k=fn:=by have:=h4;simp at this;omega
 have hhz:(fH (mR u) u.funcs.length)=(0,0):=iY (by rw[<-ve,<-aeH];exact sY);have afm:∀X∈u.funcs,0<=X.bm/\X.bm<=100:=by
  intro X hX;obtain⟨j,hj⟩:=bR hX;have iS:j<k:=by rw[aeH,ve];exact(aJ.1 hj).1
  have hz:=sY j iS;simp only[mR,lC,hj]at hz;unfold nD at hz
  by_cases q1:we X.name=true<;>simp only[q1,Bool.not_true,Bool.not_false]at hz
  ·by_cases q2:hasName (u.globals.map (·.name)++(u.funcs.take j).map (·.name)) X.name=true<;>simp only[q2]at hz
   ·cases hz
   ·by_cases q3:(!within X.params 0 6|| !within X.bm X.params 100)=true
    ·simp only[q3]at hz;cases hz
    ·simp[within]at q3;omega
  ·cases hz
 refine aV ?_;refine bH (λ(j:Nat)=>j<=fn/\∀q,q<j->lC u.funcs (jz u.funcs) q=0) (λj=>[(107,J Z j),(105,I fa fn fc),(106,J Z fn),M 1 p1,M 2 p2])
  (λ_=>[aM p2 [J Z 0,J Z 0] 28,aM p1 [I ga i gc,I fa fn fc] 25]) (λj=>fn-j) 0 ⟨aN _,by simp⟩ (aP V aB) λj ⟨hj,EB⟩=>?_
 refine bA ?_;apply aL<;>intro h5
 ·have ce:j<fn:=aD h5
  obtain⟨X,hX⟩:=eI ve ce;have mJ:cl fa fb fo:=⟨QV (aZ hX)⟩;have kK:cg j fn:=⟨ce⟩;obtain⟨cs,gW,bv,rfl,SF,hri,Js⟩:=Cr j X hX;have Uu:=Js;obtain⟨ba,bn,bc,_,_,rfl,_⟩:=Js;have nO:bu w0 fb (fo+j*4) _:=⟨gW⟩;have Iu:=aA hX;have pZ:lC u.funcs (jz u.funcs) j=jz u.funcs X:=by simp[lC,hX]
  repeat(first|refine aV ?_|refine dd λ_ _=>?_)
  refine bY rfl (λw hw=>aba _ _ _ u.funcs A X (hl.2 X Iu) (afm X Iu) _ w (Jt.cB ie hw.c_) (Uu.cB cu hw.c_) (rr.cB hw.c_) rfl) ?_;refine bA ?_;apply aL<;>intro h3
  ·have tM:lC u.funcs (jz u.funcs) j≠0:=by rw[pZ];simpa using h3
   refine bA ?_;refine bY rfl (λw _=>vT _ _ w) ?_;refine aV ?_;refine fD rfl λ_ hw=>⟨?_,hw.c_⟩;have hh:=jG EB (ve▸ce) tM;simp only[gL,ai QK,hgz,hhz,hh];rw[ai bT,ai bT,al tM,pZ]
  ·have tM:lC u.funcs (jz u.funcs) j=0:=by rw[pZ];simpa using h3
   refine aU ?_;refine a_ (j+1) ⟨ce,λq hq=>?_⟩ A V aB
   by_cases Cy:q=j
   ·subst Cy;exact tM
   ·exact EB q A
 have ab4:j=fn:=by have:=h5;simp at this;omega
 have hbz:(fH (lC u.funcs (jz u.funcs)) u.funcs.length)=(0,0):=iY (by rw[<-ve,<-ab4];exact EB);have kV:gL u=if fE u.funcs<0 then(6,0)else if 0<lC u.funcs (·.params) (fE u.funcs).toNat then(5,fE u.funcs)else(0,0):=by
  simp only[gL,ai QK,hgz,hhz,hbz]
  rfl
 rw[kV];refine aV ?_;refine bY rfl (λw hw=>Q8 _ u.funcs w (Jt.cB ie hw.c_)) ?_;refine bA ?_;apply aL<;>intro h6
 ·refine bA ?_
  refine bY rfl (λw _=>vT _ _ w) ?_;refine aV ?_;refine fD rfl λ_ hw=>⟨?_,hw.c_⟩;rw[al (aD h6)]
 have h6':¬fE u.funcs<0:=aD h6;rw[ai h6'];obtain⟨m,hm⟩:∃m:Nat,fE u.funcs=m:=⟨(fE u.funcs).toNat,A⟩;have wO:m<fn:=by
  unfold fE at hm
  split at hm
  ·rename_i q hq
   have:=(List.findIdx?_eq_some_iff_getElem.1 hq).1;omega
  ·omega
 obtain⟨X,hX⟩:=eI ve wO;have mJ:cl fa fb fo:=⟨QV (aZ hX)⟩;have kK:cg m fn:=⟨wO⟩;have hni:oT (fE u.funcs) m:=⟨hm⟩;obtain⟨cs,gW,bv,rfl,SF,hri,Js⟩:=Cr m X hX;have nO:bu w0 fb (fo+m*4) _:=⟨gW⟩;have pZ:lC u.funcs (·.params) (fE u.funcs).toNat=X.params:=by rw[hm];simp[lC,hX]
 rw[pZ];refine aU ?_;apply aL<;>intro h7
 ·refine bA ?_
  refine bY rfl (λw _=>vT _ _ w) ?_;refine aV ?_;refine fD rfl λ_ hw=>⟨?_,hw.c_⟩;rw[al (aD h7)]
 ·refine aV ?_
  refine fD rfl λ_ hw=>⟨?_,hw.c_⟩;rw[ai (aD h7)]
theorem xg{u:dk}(h:(gL u).1=0):gL u=(0,0):=by
 unfold gL at h|-
 split
 ·rename_i h1;rw[al h1]at h;cases h
 ·rename_i h1;rw[ai h1]at h
  split
  ·rename_i h2;rw[al h2]at h;exact absurd h h2
  ·rename_i h2;rw[ai h2]at h
   split
   ·rename_i h3;rw[al h3]at h;exact absurd h h3
   ·rename_i h3;rw[ai h3]at h
    split
    ·rename_i h4;rw[al h4]at h;exact absurd h h4
    ·rename_i h4;rw[ai h4]at h
     split
     ·rename_i h5;rw[al h5]at h;cases h
     ·rename_i h5;rw[ai h5]at h
      split
      ·rename_i h6;rw[al h6]at h;cases h
      ·rfl
theorem LP(code at':Int)(w0:ae):gF Y 46 [J Z code,J Z at'] w0 (aC #[J Z code,J Z at']):=by
 refine aR func46 rfl ntmps46 rfl (Wd.nil db w0) ?_
 repeat(first|refine aV ?_|refine dd λ_ _=>?_)
 exact fD rfl λ_ hw=>⟨rfl,hw.c_⟩
end
end Go.Proofs.YthfhgolkafpmnaaGreatDoor
