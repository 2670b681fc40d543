/- Texts joined: CheckD Ahead CheckC CheckE CheckF Check Ask. -/
import Derived.Test.YthfhgolkafpmnaaGreatDoorGB
namespace Go.Proofs.YthfhgolkafpmnaaGreatDoor
section
open Go Go.RowKit
attribute [local irreducible] wpListIn Code.wpIn Exit.then Exit.inBlock bodyPost wpQuiet wpAnyIn
set_option maxHeartbeats 2000000
def mI:List Value:=[.int .i64 0,.int .i64 0,.int .i64 1,.int .i64 2]
theorem ZW(g fs nm pa ah:Value)(bn bc:Nat)(ba:Option Addr)(pC:bn<=100)(aF:Int)(hr:0<=aF/\aF<=100)(kind:Int)(on:cm)(to:List Int)(tv:Value)(w0:World)(ht:aM w0 tv 1 to fj)(hw:bG w0 0 0 mI):
  fi Tryz.prog 70 [.agg #[g,fs,nm,pa,.int .i64 aF,.slice ba bn bc,ah],.agg #[.int .i64 kind,.bool on.bD,.int .i64 on.n,tv]] w0 (.int .i64 (uK bn aF kind on to)):=by
 have Kt:=ht;obtain⟨ta,tn,tc,tb,yD,rfl,sN,Er,Ep,TC,wl,r6⟩:=ht;refine aQ Tryz.func70 rfl Tryz.ntmps70 rfl (Wd.nil dh w0) ?_
 repeat(first|refine aO ?_|refine dX λ_ _=>?_)
 refine bI rfl (λw _=>jk _ _ _ w) ?_;refine aU ?_;refine aN (λh1=>?_) (λh1=>?_)
 ·refine aI ?_
  exact bQ rfl (by simp only[uK,h1];rfl)
 have hwk:within kind 1 3=true:=by simpa using h1
 have hkr:1<=kind/\kind<=3:=by simpa[within]using hwk
 obtain⟨i,hi⟩:∃i:Nat,kind=i:=⟨kind.toNat,ag⟩;have XD:ky kind i:=⟨hi⟩;have mW:bZ i 4:=⟨ag⟩;have oQ:xD w0 0 (0+i*1) (.int .i64 (kind-1)):=⟨by
  have:i=1∨i=2∨i=3:=ag;rw[hi];rcases this with rfl|rfl|rfl
  ·exact hw 1 _ rfl
  ·exact hw 2 _ rfl
  ·exact hw 3 _ rfl⟩
 refine aU ?_;rename_i p2 _ p3 _;refine kE mixed aP ?_;refine j9 ?_;refine aU ?_;refine aN (λh2=>?_) (λh2=>?_)
 ·refine aI ?_
  refine bQ rfl ?_;have:(to.length:Int)≠kind-1:=by rw[<-sN];simpa using h2
  simp only[uK,hwk,if_pos this]
  rfl
 have vB:¬(to.length:Int)≠kind-1:=by rw[<-sN];simpa using h2
 refine aU ?_;refine bI rfl (λw hw=>D0 (f:=116) [.pointer (some ⟨p2,0,none⟩)] (λt=>!within t 1 (bn-1)) _ to w (Kt.cu eK hw.cE) λw1 mz x _=>Ob _ _ _ _ _ _ bn bc p2 ba pC x w1 ((hw.gW p2).cu mz)) ?_;refine aU ?_;refine aN (λh3=>?_) (λh3=>?_)
 ·refine aI ?_
  exact bQ rfl (by simp only[uK,hwk,if_neg vB,h3];rfl)
 refine aU ?_;refine kE mixed aP ?_;refine j9 ?_;have fin:∀(bq:Bool),bq=((decide (kind=3)&&decide (to[0]?.getD 0=to[1]?.getD 0))||(decide (kind=2)&& !iC on))->
   uK bn aF kind on to=if bq then 5 else dw aF on:=by
  intro bq hb;subst hb;simp only[uK,hwk,if_neg vB,h3]
  rfl
 generalize R4:decide (kind=3)=k3;cases k3
 ·refine j9 ?_
  generalize AO:decide (kind=2)=k2;cases k2
  ·refine j9 ?_
   refine aO ?_;refine bI rfl (λw _=>BW _ _ _ _ _ _ aF hr on w) ?_;refine aO ?_;exact bQ rfl (by rw[fin false (by simp[R4,AO])];rfl)
  ·refine j9 ?_
   refine aU ?_;refine aN (λh4=>?_) (λh4=>?_)
   ·refine aI ?_
    exact bQ rfl (by rw[fin true (by simp only[R4,AO,iC];simpa using h4.symm)];rfl)
   ·refine aO ?_
    refine bI rfl (λw _=>BW _ _ _ _ _ _ aF hr on w) ?_;refine aO ?_;exact bQ rfl (by rw[fin false (by simp only[R4,AO,iC];simpa using h4.symm)];rfl)
 ·have adD:kind=3:=by simpa using R4
  have xC:tn=2:=by have:=vB;rw[<-sN]at this;omega
  obtain⟨x0,Dd⟩:=dJ sN (show 0<tn by omega);obtain⟨x1,zB⟩:=dJ sN (show 1<tn by omega);have pY:bY ta tb yD:=⟨wl (aW Dd)⟩;have zw:bZ 0 tn:=⟨ag⟩;have kq:bZ 1 tn:=⟨ag⟩;obtain⟨cs0,ac7,rfl,_⟩:=r6 0 x0 Dd;obtain⟨cs1,ac8,rfl,_⟩:=r6 1 x1 zB;have Gc:a_ w0 tb (yD+0*1) _:=⟨ac7⟩;have Ny:a_ w0 tb (yD+1*1) _:=⟨ac8⟩;have AO:decide (kind=2)=false:=by simp[adD]
  refine j9 ?_;generalize hx:decide (x0=x1)=xx;have Z0:∀bq:Bool,xx=bq->uK bn aF kind on to=if bq then 5 else dw aF on:=λbq hb=>by
   refine fin bq ?_;rw[R4,AO,Dd,zB];simp[hx,hb]
  cases xx
  ·refine j9 ?_
   generalize adC:decide (kind=2)=k2;obtain rfl:k2=false:=by rw[<-adC,AO]
   refine j9 ?_;refine aO ?_;refine bI rfl (λw _=>BW _ _ _ _ _ _ aF hr on w) ?_;refine aO ?_;exact bQ rfl (by rw[Z0 false rfl];rfl)
  ·refine j9 ?_
   refine aI ?_;exact bQ rfl (by rw[Z0 true rfl];rfl)
def cS(w:World)(l:List Int)(cs:List Value):Prop:=∃v,cs=[v]/\aM w v 1 l fj
theorem ab5(g fs nm pa bs ah:Value)(aF:Int)(hr:0<=aF/\aF<=100)(rows:List (List Int))(row:List Int)(block:Nat)(fK:rows[block]?=some row)(p:eC)(sv:Value)(w0:World)(LV:aM w0 ah 1 rows cS)(hs:aM w0 sv 2 p.src l9):
  fi Tryz.prog 72 [.agg #[g,fs,nm,pa,.int .i64 aF,bs,ah],.int .i64 block,.agg #[.int .i64 p.dst,sv]] w0 (.int .i64 (w9 aF block row.length p)):=by
 obtain⟨aa,an,ac,ab,ao,rfl,EY,F6,WR,WN,Iw,AJ⟩:=LV;obtain⟨va,vn,vc,vb,vo,rfl,E7,Yi,abQ,VR,nz,GA⟩:=hs;obtain⟨cs,fZ,rv,rfl,y8⟩:=AJ block row fK;obtain⟨ra,rn,rc,rb,ro,rfl,zx,_⟩:=y8;have iR:block<rows.length:=(aC.1 fK).1;have pY:bY aa ab ao:=⟨Iw (aW fK)⟩;have mW:bZ block an:=⟨ag⟩;have oQ:a_ w0 ab (ao+block*1) _:=⟨fZ⟩;refine aQ Tryz.func72 rfl Tryz.ntmps72 rfl (Wd.nil dh w0) ?_
 repeat(first|refine aU ?_|refine dX λ_ _=>?_)
 refine aN (λh1=>?_) (λh1=>?_)
 ·refine aI ?_
  exact bQ rfl (by rw[w9,if_pos (by simpa using h1)])
 have Ef:¬(block:Int)=0:=by simpa using h1
 refine aO ?_;refine bI rfl (λw _=>U1 _ _ _ _ _ _ aF hr _ w) ?_;refine aU ?_;refine aN (λh2=>?_) (λh2=>?_)
 ·refine aI ?_
  exact bQ rfl (by rw[w9,if_neg Ef,if_pos (by simpa using h2)])
 have vB:¬(jx aF p.dst≠0):=by simpa using h2
 refine aO ?_;refine kE mixed aP ?_;refine j9 ?_;refine aU ?_;refine aN (λh3=>?_) (λh3=>?_)
 ·refine aI ?_
  exact bQ rfl (by rw[w9,if_neg Ef,if_neg vB,if_pos (by rw[<-zx,<-E7];simpa using h3)])
 have O7:w9 aF block row.length p=(dI (jr p.src (dw aF)) p.src.length).1:=by rw[w9,if_neg Ef,if_neg vB,if_neg (by rw[<-zx,<-E7];simpa using h3)]
 rw[O7];refine aO ?_;rename_i p3 _ p5 _;refine bP (λ(i:Nat)=>i<=vn/\∀j,j<i->jr p.src (dw aF) j=0) (λi=>[(33,.int .i64 i),(31,.slice va vn vc),(32,.int .i64 vn),(3,.pointer (some ⟨p3,0,none⟩))]) (λ_=>[aj p3 [g,fs,nm,pa,.int .i64 aF,bs,.slice aa an ac] 71]) (λi=>vn-i) 0 ⟨aY _,by simp⟩ (aV aw aH) λi ⟨hi,cP⟩=>?_;refine aU ?_;refine aN (λh1=>?_) (λh1=>?_)
 ·have bT:i<vn:=by simpa using h1
  obtain⟨y,hy⟩:=dJ E7 bT;have pY:bY va vb vo:=⟨nz (aW hy)⟩;have mW:bZ i vn:=⟨bT⟩;obtain⟨cs,fZ,rfl,hyi⟩:=GA i y hy;have oQ:a_ w0 vb (vo+i*2) _:=⟨fZ⟩;have ny:jr p.src (dw aF) i=dw aF y:=by simp[jr,hy]
  repeat(first|refine aI ?_|refine dX λ_ _=>?_)
  refine bI rfl (λw _=>BW _ _ _ _ _ _ aF hr y w) ?_;refine aU ?_;refine aN (λh2=>?_) (λh2=>?_)
  ·refine aI ?_
   refine bQ rfl ?_;rw[gp cP (E7▸bT) (by rw[ny];simpa using h2),ny]
  ·refine aO ?_
   refine bC (i+1) ⟨bT,λj hj=>?_⟩ ag aw aH
   by_cases wT:j=i
   ·subst wT;rw[ny];simpa using h2
   ·exact cP j ag
 ·have gT:i=vn:=by have:=h1;simp at this;omega
  refine aI ?_;exact bQ rfl (by rw[<-E7,<-gT,fD cP])
theorem Wd.pack{S:Nat->Prop}{w0 w:World}{E H:List bN}(h:Wd S w0 (E++H) w)(F:World->Prop)(hF:∀w2,Wd (cF E) w2 E w2->F w2):Wd S w0 (⟨cF E,F⟩::H) w:=by
 have wR:=nO.1 h.apart;refine⟨h.cE,?_,?_,?_⟩
 ·intro e he b hb
  rcases bJ.1 he with rfl|he
  ·obtain⟨x,hx,zC⟩:=hb
   exact h.own x (cC _ hx) b zC
  ·exact h.own e (dt _ he) b hb
 ·intro e he w2 NF jl
  rcases bJ.1 he with rfl|he
  ·refine hF w2 ⟨lL.refl _ _,λx hx b hb=>⟨.inl ⟨x,hx,hb⟩,?_⟩,λx hx w3 hs3 TH=>?_,wR.1⟩
   ·by_cases bT:b<w2.heap.size
    ·exact bT
    ·have h1:=jl b ⟨x,hx,hb⟩
     rw[vp ag]at h1;have h2:=(h.own x (cC _ hx) b hb).2;rw[Array.getElem?_eq_getElem h2]at h1;cases h1
   ·exact h.ok x (cC _ hx) w3 (dB NF hs3) λb hb=>(TH b hb).trans (jl b ⟨x,hx,hb⟩)
  ·exact h.ok e (dt _ he) w2 NF jl
 ·refine fN.2 ⟨λf hf b ⟨x,hx,zC⟩ wj=>wR.2.2 x hx f hf b zC wj,wR.2.1⟩
structure Row where
 a:Option Addr
 c:Nat
 l:List Int
def eO(r:Row):Value:=.slice r.a r.l.length r.c
def gy(r:Row):bN:=ai r.a r.l.length r.c 3 1 (r.l.map (.int .i64))
theorem pJ{α β:Type}{f:α->β}{g:β->β}{l:List α}{k:Nat}{r r':α}(h:l[k]?=some r)(hr:f r'=g (f r)):(l.set k r').map f=(l.map f).modify k g:=by
 apply cf;intro i;rw[aK,dQ,lG,aK]
 by_cases hi:k=i
 ·subst hi
  have bT:k<l.length:=(aC.1 h).1;have h2:=(aC.1 h).2;simp[bT,hr,h2]
 ·simp[hi]
theorem EP{S:Nat->Prop}{w0 w:World}{rs:List Row}{bo n e:Nat}{H:List bN}(h:Wd S w0 (ai (some ⟨bo,0,none⟩) n n e 1 (rs.map eO)::(rs.map gy++H)) w)(hn:n=rs.length)(hb:n<=100)(hl:∀r∈rs,r.l.length<=1000/\∀x∈r.l,c9 x):
  aM w (.slice (some ⟨bo,0,none⟩) n n) 1 (rs.map (·.l)) cS:=by
 refine h.nC (k:=0) rfl (by simpa using hn) ag λi x hx=>?_;rw[aK]at hx;obtain⟨r,hr,rfl⟩:=cT.1 hx;have bT:i<rs.length:=(aC.1 hr).1;have mL:=hl r (aA hr);refine⟨[eO r],λj v hj=>?_,eO r,rfl,?_⟩
 ·match j,hj with
  |0,hj=>simpa[hr]using hj
 ·refine h.nC (k:=i+1) (a:=r.a) (n:=r.l.length) (c:=r.c) (e:=3) (s:=1) (xs:=r.l.map (.int .i64)) ?_ rfl ag λj y hy=>⟨[.int .i64 y],λk v hk=>?_,rfl,mL.2 y (aA hy)⟩
  ·rw[nK,dG (by simpa using bT),aK,hr];rfl
  ·match k,hk with
   |0,hk=>simpa[hy]using hk
def UC(n:Nat)(l:List Int):Prop:=l.length<=2/\∀t∈l,0<=t/\t<n
theorem JP(nm pa re:Value)(bl:List ar)(bs:Value)(w0:World)(mU:aM w0 bs 6 bl ed)(hlen:bl.length<=100)(cW:∀b∈bl,UC bl.length b.to):
  gV Tryz.prog 71 [.agg #[nm,pa,re,bs]] w0 λu w'=>∃x:(Option Addr×Nat×Nat)×(Nat->Prop),u=.slice x.1.1 x.1.2.1 x.1.2.2/\Wd dh w0 [⟨x.2,λw=>aM w (.slice x.1.1 x.1.2.1 x.1.2.2) 1 (bm bl) cS⟩] w'/\True:=by
 obtain⟨ba,n,bc,bb,xH,rfl,hn,pE,E3,LY,xS,iK⟩:=mU;refine aQ Tryz.func71 rfl Tryz.ntmps71 rfl (Wd.nil dh w0) ?_
 repeat(first|refine aO ?_|refine dX λ_ _=>?_)
 rename_i b1 _ bo _;refine kS 3 1 n ?_;rw[show(List.replicate n (Value.slice none 0 0))=(List.replicate n (⟨none,0,[]⟩:Row)).map eO by simp[eO],show(List.replicate n (ai none 0 0 3 1 []))=(List.replicate n (⟨none,0,[]⟩:Row)).map gy by simp[gy]];refine bP (λ(x:Nat×List Row)=>x.1<=n/\x.2.map (·.l)=jt bl x.1/\x.2.length=n/\∀r∈x.2,r.l.length<=2*x.1/\∀y∈r.l,c9 y) (λx=>[(15,.int .i64 x.1),(13,.slice ba n bc),(14,.int .i64 n),(3,.slice (some ⟨bo,0,none⟩) n n)]) (λx=>ai (some ⟨bo,0,none⟩) n n 42 1 (x.2.map eO)::x.2.map gy) (λx=>n-x.1) (0,List.replicate n ⟨none,0,[]⟩)
  ⟨aY _,by simp[jt,hn],by simp,by simp⟩ (aV aw ap) λx ⟨hi,sJ,qd,sI⟩=>?_
 obtain⟨i,rs⟩:=x;simp only at hi sJ qd sI⊢;refine aU ?_;refine aN (λh1=>?_) (λh1=>?_)
 ·have bT:i<n:=by simpa using h1
  obtain⟨B,hB⟩:=dJ hn bT;have pY:bY ba bb xH:=⟨xS (aW hB)⟩;have mW:bZ i n:=⟨bT⟩;obtain⟨cs,fZ,pv,lv,tv,rfl,_,_,oE,mX,ht⟩:=iK i B hB;obtain⟨Sa,pn,pc,_,_,rfl,_⟩:=oE;obtain⟨la,ln,lc,_,_,rfl,_⟩:=mX;obtain⟨ta,tn,tc,tb,yD,rfl,sN,Er,Ep,TC,wl,r6⟩:=ht;have oQ:a_ w0 bb (xH+i*6) _:=⟨fZ⟩;have IP:=cW B (aA hB)
  repeat(first|refine aI ?_|refine dX λ_ _=>?_)
  refine bP (λ(x:Nat×List Row)=>x.1<=tn/\x.2.map (·.l)=(B.to.take x.1).foldl (oK i) (jt bl i)/\x.2.length=n/\∀r∈x.2,r.l.length<=2*i+x.1/\∀y∈r.l,c9 y) (λx=>[(24,.int .i64 x.1),(22,.slice ta tn tc),(23,.int .i64 tn),(4,.int .i64 i),(15,.int .i64 i),(13,.slice ba n bc),(14,.int .i64 n),(3,.slice (some ⟨bo,0,none⟩) n n)])
   (λx=>ai (some ⟨bo,0,none⟩) n n 42 1 (x.2.map eO)::x.2.map gy) (λx=>tn-x.1) (0,rs)
   ⟨aY _,by simpa using sJ,qd,λr hr=>by simpa using sI r hr⟩ (aV aw ap) λx ⟨hj,vF,IM,Eg⟩=>?_
  obtain⟨j,EQ⟩:=x;simp only at hj vF IM Eg⊢;refine aU ?_;refine aN (λh2=>?_) (λh2=>?_)
  ·have n9:j<tn:=by simpa using h2
   obtain⟨t,Gz⟩:=dJ sN n9;have htt:=IP.2 t (aA Gz);obtain⟨k,hk⟩:∃k:Nat,t=k:=⟨t.toNat,ag⟩;have L9:k<n:=ag;have xz:k<EQ.length:=ag;obtain⟨r,hr⟩:∃r,EQ[k]?=some r:=⟨_,aB xz⟩;have uL:bY ta tb yD:=⟨wl (aW Gz)⟩;have Pe:bZ j tn:=⟨n9⟩;have adH:bZ k n:=⟨L9⟩;have XD:ky t k:=⟨hk⟩;obtain⟨CN,vD,rfl,_⟩:=r6 j t Gz;have vC:a_ w0 tb (yD+j*1) _:=⟨vD⟩;have Kv:NX (EQ.map eO) (k*1) (.slice r.a r.l.length r.c):=⟨by simp[hr,eO]⟩;have Km:=Eg r (aA hr)
   repeat(first|refine aO ?_|refine dX λ_ _=>?_)
   rename_i bt _;have PH:=IP.1;refine gq (k+2) (xs:=r.l.map (.int .i64)) (e:=3) (by simp[hr,gy]) rfl rfl ag ag λa' c'=>?_;refine fg (H1:=ai (some ⟨bt,0,none⟩) 1 1 3 1 [.int .i64 i]::ai (some ⟨bo,0,none⟩) n n 42 1 (EQ.map eO)::(EQ.set k ⟨a',c',r.l++[(i:Int)]⟩).map gy) (by simp[gy,eh]) ?_;have mM:lN (EQ.map eO) (k*1) (.slice a' (r.l.length+1) c') ((EQ.set k ⟨a',c',r.l++[(i:Int)]⟩).map eO):=⟨by simp[eO,eh],by simpa using xz⟩;refine aI ?_;refine bC (j+1,EQ.set k ⟨a',c',r.l++[(i:Int)]⟩) ⟨n9,?_,by simpa using IM,?_⟩ (by simp only;omega) aw ap
   ·simp only
    rw[cj,Gz];simp only[lr,nJ,fF,List.foldl_nil];rw[<-vF,oK,show t.toNat=k by omega];exact pJ hr rfl
   ·intro q hq
    rcases jM hq with hq|rfl
    ·have:=Eg q hq
     exact⟨by simp only;omega,this.2⟩
    ·refine⟨by simp only[bR,jL];omega,λy hy=>?_⟩
     rcases bL.1 hy with hy|hy
     ·exact Km.2 y hy
     ·simp only[bU]at hy
      subst hy;simp only[c9];omega
  ·have gT:j=tn:=by have:=h2;simp at this;omega
   refine aI ?_;refine bC (i+1,EQ) ⟨bT,?_,IM,λr hr=>?_⟩ (by simp only;omega) aw ag2
   ·simp only[jt,hB]
    rw[vF,gT,sN,cO]
   ·have:=Eg r hr
    have PH:=IP.1;exact⟨by simp only;omega,this.2⟩
 ·have gT:i=n:=by have:=h1;simp at this;omega
  refine aI ?_;refine cA rfl λw hw=>⟨((some ⟨bo,0,none⟩,n,n),cF (ai (some ⟨bo,0,none⟩) n n 42 1 (rs.map eO)::rs.map gy)),rfl,?_,trivial⟩;have dO:Wd dh w0 ((ai (some ⟨bo,0,none⟩) n n 42 1 (rs.map eO)::rs.map gy)++[]) w:=by rw[cq];exact hw
  refine dO.pack _ λw2 jl=>?_;have:=EP (H:=[]) (by rw[cq];exact jl) qd.symm ag λr hr=>⟨by have:=(sI r hr).1;omega,(sI r hr).2⟩;rw[sJ,gT,hn]at this;exact hn▸this
theorem abY(g fs nm pa bs ah:Value)(fl:List aZ)(xV:fl.length<=100)(aF:Int)(hr:0<=aF/\aF<=100)(x:en)(oY:c9 x.fn)(xv:Value)(w0:World)(hf:aM w0 fs 4 fl gg)(hv:aM w0 xv 2 x.args l9):
  fi Tryz.prog 73 [.agg #[g,fs,nm,pa,.int .i64 aF,bs,ah],.agg #[.int .i64 x.op,.int .i64 x.dst,.bool x.a.bD,.int .i64 x.a.n,.bool x.b.bD,.int .i64 x.b.n,.int .i64 x.fn,xv]] w0 (.int .i64 (dK fl aF x)):=by
 have xY:=hv;obtain⟨va,vn,vc,vb,vo,rfl,E7,Yi,abQ,VR,nz,GA⟩:=hv;refine aQ Tryz.func73 rfl Tryz.ntmps73 rfl (Wd.nil dh w0) ?_
 repeat(first|refine aU ?_|refine dX λ_ _=>?_)
 refine bI rfl (λw _=>jk _ _ _ w) ?_;refine aU ?_;refine aN (λh1=>?_) (λh1=>?_)
 ·refine aI ?_
  exact bQ rfl (by simp at h1;simp[dK,h1])
 have mz:within x.op 1 22=true:=by simpa using h1
 refine aO ?_;refine bI rfl (λw _=>Hg _ w) ?_;generalize hsd:(shape x.op).1=sd;generalize hsa:(shape x.op).2.1=sa;generalize hsb:(shape x.op).2.2=sb;generalize tj:decide (x.op=20)=c
 repeat(first|refine aI ?_|refine dX λ_ _=>?_)
 rw[tj];rename_i p2 _ p3 _ p5 _ p6 _;generalize Tq:(!sd)=nsd;refine kF 25 (.bool (nsd&& !decide (x.dst=-1))) ?_ ?_
 ·cases nsd
  ·refine iL ?_
   exact aV aw aH
  ·refine aI ?_
   exact aV aw aH
 generalize e1:(nsd&& !decide (x.dst=-1))=b1;refine aU ?_;refine kF 36 (.bool (b1||(!sa&& !iC x.a))) ?_ ?_
 ·cases b1
  ·refine aI ?_
   generalize (!sa)=na;cases na
   ·refine iL ?_
    exact aV aw aH
   ·refine aI ?_
    exact aV aw aH
  ·refine iL ?_
   exact aV aw aH
 generalize e2:(b1||(!sa&& !iC x.a))=b2;refine aU ?_;refine kF 47 (.bool (b2||(!sb&& !iC x.b))) ?_ ?_
 ·cases b2
  ·refine aI ?_
   generalize (!sb)=nb;cases nb
   ·refine iL ?_
    exact aV aw aH
   ·refine aI ?_
    exact aV aw aH
  ·refine iL ?_
   exact aV aw aH
 generalize e3:(b2||(!sb&& !iC x.b))=b3;refine aU ?_;refine kF 62 (.bool (b3||(!c&&(!decide (x.fn=0)||decide (0<(vn:Int)))))) ?_ ?_
 ·cases b3
  ·refine aI ?_
   generalize (!c)=nc;cases nc
   ·refine iL ?_
    exact aV aw aH
   ·refine aI ?_
    generalize e4:(!decide (x.fn=0))=b4;cases b4
    ·refine aI ?_
     exact aV aw aH
    ·refine iL ?_
     exact aV aw aH
  ·refine iL ?_
   exact aV aw aH
 have kr:pU x=(b3||(!c&&(!decide (x.fn=0)||decide (0<(vn:Int))))):=by
  subst e3 e2 e1 Tq;simp only[pU,hsd,hsa,hsb,tj,E7]
 rw[<-kr];refine aU ?_;refine aN (λh2=>?_) (λh2=>?_)
 ·refine aI ?_
  exact bQ rfl (by simp only[dK,mz,h2];rfl)
 refine aO ?_;refine kF 73 (.bool (sd&& !(c&&decide (x.dst=-1)))) ?_ ?_
 ·cases sd
  ·refine iL ?_
   exact aV aw aH
  ·refine aI ?_
   cases c
   ·refine iL ?_
    exact aV aw aH
   ·refine aI ?_
    exact aV aw aH
 have rest:((sd&& !(c&&decide (x.dst=-1)))&& !decide (jx aF x.dst=0))=false->dK fl aF x=(dI (jr [⟨121,[.pointer (some ⟨p2,0,none⟩),.pointer (some ⟨p3,0,none⟩)],dw aF x.a⟩,⟨122,[.pointer (some ⟨p2,0,none⟩),.pointer (some ⟨p3,0,none⟩)],dw aF x.b⟩,⟨123,[.pointer (some ⟨p6,0,none⟩),.pointer (some ⟨p3,0,none⟩),.pointer (some ⟨p2,0,none⟩)],fY fl aF x⟩] (λy:Lq=>y.err)) 3).1:=by
  intro h;simp only[dK,mz,h2,hsd,tj,h,Bool.not_true];have e:∀a b c:Int,(dI (λi=>([a,b,c]:List Int)[i]?.getD 0) 3).1=if a≠0 then a else if b≠0 then b else c:=by
   intro a b c
   by_cases ha:a=0
   ·by_cases hb:b=0
    ·by_cases hc:c=0
     ·rw[fD (λj hj=>by match j,hj with|0,_=>exact ha|1,_=>exact hb|2,_=>exact hc)]
      simp[ha,hb,hc]
     ·rw[gp (i:=2) (λj hj=>by match j,hj with|0,_=>exact ha|1,_=>exact hb) ag hc]
      simp[ha,hb]
    ·rw[gp (i:=1) (λj hj=>by match j,hj with|0,_=>exact ha) ag hb]
     simp[ha,hb]
   ·rw[gp (i:=0) (λj hj=>ag) ag ha]
    simp[ha]
  have e2:(jr [(⟨121,[.pointer (some ⟨p2,0,none⟩),.pointer (some ⟨p3,0,none⟩)],dw aF x.a⟩:Lq),⟨122,[.pointer (some ⟨p2,0,none⟩),.pointer (some ⟨p3,0,none⟩)],dw aF x.b⟩,⟨123,[.pointer (some ⟨p6,0,none⟩),.pointer (some ⟨p3,0,none⟩),.pointer (some ⟨p2,0,none⟩)],fY fl aF x⟩] (λy:Lq=>y.err))=λi=>([dw aF x.a,dw aF x.b,fY fl aF x]:List Int)[i]?.getD 0:=by
   funext i
   match i with
   |0=>rfl
   |1=>rfl
   |2=>rfl
   |i+3=>rfl
  rw[e2,e]
  rfl
 have tail:((sd&& !(c&&decide (x.dst=-1)))&& !decide (jx aF x.dst=0))=false->∀w,Wd dh w0 [aj p6 [.bool c] 4,aj p5 [.bool sd,.bool sa,.bool sb] 160,aj p3 [.int .i64 x.op,.int .i64 x.dst,.bool x.a.bD,.int .i64 x.a.n,.bool x.b.bD,.int .i64 x.b.n,.int .i64 x.fn,.slice va vn vc] 56,aj p2 [g,fs,nm,pa,.int .i64 aF,bs,ah] 71] w->
   ∀v,aM w v 1 [(⟨121,[.pointer (some ⟨p2,0,none⟩),.pointer (some ⟨p3,0,none⟩)],dw aF x.a⟩:Lq),⟨122,[.pointer (some ⟨p2,0,none⟩),.pointer (some ⟨p3,0,none⟩)],dw aF x.b⟩,⟨123,[.pointer (some ⟨p6,0,none⟩),.pointer (some ⟨p3,0,none⟩),.pointer (some ⟨p2,0,none⟩)],fY fl aF x⟩] UR->fi Tryz.prog 120 [v] w (.int .i64 (dK fl aF x)):=by
  intro h w hw v pG;rw[rest h];refine SG v _ w pG ?_ ?_
  ·intro y hy
   simp only[bJ,iI,or_false]at hy;rcases hy with rfl|rfl|rfl<;>exact inferInstance
  ·intro y hy w1 mz
   simp only[bJ,iI,or_false]at hy;rcases hy with rfl|rfl|rfl
   ·exact PZ _ _ _ _ _ _ aF hr x _ p2 p3 w1 ((hw.gW p2).cu mz) ((hw.gW p3).cu mz)
   ·exact P0 _ _ _ _ _ _ aF hr x _ p2 p3 w1 ((hw.gW p2).cu mz) ((hw.gW p3).cu mz)
   ·exact IU _ _ _ _ _ _ fl xV aF hr x oY _ p2 p3 p6 w1 ((hw.gW p2).cu mz) ((hw.gW p3).cu mz) (by rw[tj];exact(hw.gW p6).cu mz) (hf.cu dk (hw.cE.trans mz)) (xY.cu rm (hw.cE.trans mz))
 have go:∀w (pv:Nat),Wd dh w0 [ai (some ⟨pv,0,none⟩) 3 3 73 1 [.func (.func 121) #[] #[.pointer (some ⟨p2,0,none⟩),.pointer (some ⟨p3,0,none⟩)],.func (.func 122) #[] #[.pointer (some ⟨p2,0,none⟩),.pointer (some ⟨p3,0,none⟩)],.func (.func 123) #[] #[.pointer (some ⟨p6,0,none⟩),.pointer (some ⟨p3,0,none⟩),.pointer (some ⟨p2,0,none⟩)]],
   aj p6 [.bool c] 4,aj p5 [.bool sd,.bool sa,.bool sb] 160,aj p3 [.int .i64 x.op,.int .i64 x.dst,.bool x.a.bD,.int .i64 x.a.n,.bool x.b.bD,.int .i64 x.b.n,.int .i64 x.fn,.slice va vn vc] 56,aj p2 [g,fs,nm,pa,.int .i64 aF,bs,ah] 71] w->
   ((sd&& !(c&&decide (x.dst=-1)))&& !decide (jx aF x.dst=0))=false->fi Tryz.prog 120 [.slice (some ⟨pv,0,none⟩) 3 3] w (.int .i64 (dK fl aF x)):=by
  intro w pv hw h;refine tail h w (hw.sub (dZ _ _)) _ ?_;refine hw.nC (k:=0) rfl rfl ag λi y hy=>?_
  match i,hy with
  |0,hy=>simp only[jJ,bW]at hy;subst hy;exact⟨_,λj v hj=>by match j,hj with|0,hj=>exact hj,rfl⟩
  |1,hy=>simp only[nK,jJ,bW]at hy;subst hy;exact⟨_,λj v hj=>by match j,hj with|0,hj=>exact hj,rfl⟩
  |2,hy=>simp only[nK,jJ,bW]at hy;subst hy;exact⟨_,λj v hj=>by match j,hj with|0,hj=>exact hj,rfl⟩
 refine aU ?_;refine aN (λh3=>?_) (λh3=>?_)
 ·refine aU ?_
  refine bI rfl (λw _=>U1 _ _ _ _ _ _ aF hr _ w) ?_;refine aU ?_;refine aN (λh4=>?_) (λh4=>?_)
  ·refine aI ?_
   refine bQ rfl ?_;simp only[dK,mz,h2,hsd,tj,h3,h4,Bool.not_true,Bool.true_and]
   rfl
  ·repeat(first|refine aO ?_|refine dX λ_ _=>?_)
   refine bI rfl (λw hw=>go w _ hw (by simp only[h3,h4,Bool.true_and])) ?_;refine aO ?_;exact bQ rfl rfl
 ·repeat(first|refine aO ?_|refine dX λ_ _=>?_)
  refine bI rfl (λw hw=>go w _ hw (by simp only[h3,Bool.false_and])) ?_;refine aO ?_;exact bQ rfl rfl
def Bf(f:aZ):Prop:=f.blocks.length<=40/\fQ f.blocks<=300
theorem zg{l:List ar}{i:Nat}{x:ar}(h:l[i]?=some x):mE l (i+1)=mE l i+((x.aL.length+x.list.length:Nat):Int):=by
 simp[mE,cj,h,List.sum_append]
theorem BL(l:List ar):mE l l.length=fQ l:=by simp[mE,fQ]
theorem tR(l:List ar)(i:Nat):0<=mE l i/\mE l i<=fQ l:=by
 have Pm:∀m:List ar,0<=(m.map λb=>((b.aL.length+b.list.length:Nat):Int)).sum:=by
  intro m
  induction m with
  |nil=>simp
  |cons x m ih=>simp only[bO,et];omega
 refine⟨Pm _,?_⟩;have:fQ l=mE l i+((l.drop i).map λb=>((b.aL.length+b.list.length:Nat):Int)).sum:=by
  rw[fQ,mE,<-List.sum_append,<-bB,pw]
 have:=Pm (l.drop i);omega
theorem JU{n:Nat}{aF kind:Int}{on:cm}{to:List Int}(h:uK n aF kind on to=0):UC n to:=by
 unfold uK at h
 by_cases h1:within kind 1 3=true
 ·simp only[h1,Bool.not_true]at h
  by_cases h2:(to.length:Int)≠kind-1
  ·rw[if_pos h2]at h;cases h
  ·rw[if_neg h2]at h
   have hk:1<=kind/\kind<=3:=by simpa[within]using h1
   refine⟨ag,λt ht=>?_⟩
   by_cases h3:(to.any λt=>!within t 1 (n-1))=true
   ·simp only[h3]at h;cases h
   ·have:=λhh=>h3 (oq.2 ⟨t,ht,hh⟩)
    simp[within]at this;omega
 ·have h1:within kind 1 3=false:=by simpa using h1
  simp only[h1]at h;cases h
theorem Xe(g fs ah:Value)(f:aZ)(hf:Bf f)(bs nv:Value)(nl:List ByteArray)(w0:World)(mU:aM w0 bs 6 f.blocks ed)(hnv:aM w0 nv 1 nl NW):
  fi Tryz.prog 30 [.agg #[g,fs,.string f.name,.int .i64 f.params,.int .i64 f.aF,bs,ah],nv] w0 (.int .i64 (kU nl f)):=by
 obtain⟨ba,n,bc,bb,xH,rfl,hn,pE,E3,LY,xS,iK⟩:=mU;refine aQ Tryz.func30 rfl Tryz.ntmps30 rfl (Wd.nil dh w0) ?_
 repeat(first|refine aO ?_|refine dX λ_ _=>?_)
 rename_i p2 _;have h24:=hf.1;have afe:=hf.2;refine bP (λ(i:Nat)=>i<=n) (λi=>[(12,.int .i64 i),(5,.int .i64 (mE f.blocks i)),(10,.slice ba n bc),(11,.int .i64 n),(2,.pointer (some ⟨p2,0,none⟩)),(1,nv)]) (λ_=>[aj p2 [g,fs,.string f.name,.int .i64 f.params,.int .i64 f.aF,.slice ba n bc,ah] 71]) (λi=>n-i) 0 (aY _) (aV aw aH) λi hi=>?_;refine aU ?_;refine aN (λh1=>?_) (λh1=>?_)
 ·have bT:i<n:=by simpa using h1
  obtain⟨B,hB⟩:=dJ hn bT;have pY:bY ba bb xH:=⟨xS (aW hB)⟩;have mW:bZ i n:=⟨bT⟩;obtain⟨cs,fZ,pv,lv,tv,rfl,_,_,oE,mX,ht⟩:=iK i B hB;obtain⟨Sa,pn,pc,_,_,rfl,Gr,_,Ps,_⟩:=oE;obtain⟨la,ln,lc,_,_,rfl,Ma,_,Pg,_⟩:=mX;obtain⟨ta,tn,tc,tb,yD,rfl,sN,Er,Ep,TC,wl,r6⟩:=ht;have oQ:a_ w0 bb (xH+i*6) _:=⟨fZ⟩;have Gu:=zg hB;have Ek:=tR f.blocks i;have Kg:=tR f.blocks (i+1)
  repeat(first|refine aI ?_|refine dX λ_ _=>?_)
  refine bC (i+1) bT ag ?_ ap;rw[Gu,<-Gr,<-Ma,Int.natCast_add];exact aw
 ·have gT:i=n:=by have:=h1;simp at this;omega
  have oj:mE f.blocks i=fQ f.blocks:=by rw[gT,hn,BL]
  rw[oj];refine aI ?_;refine bI rfl (λw _=>Qw _ w) ?_;refine aU ?_;refine aN (λh2=>?_) (λh2=>?_)
  ·refine aI ?_
   exact bQ rfl (by simp only[kU,h2];rfl)
  refine aU ?_;refine bI rfl (λw hw=>yS _ nl _ w (hnv.cu Dg hw.cE)) ?_;refine aU ?_;refine aN (λh3=>?_) (λh3=>?_)
  ·refine aI ?_
   exact bQ rfl (by simp only[kU,h2,h3];rfl)
  refine aU ?_;refine bI rfl (λw _=>jk _ _ _ w) ?_;refine aU ?_;generalize HD:(!within f.params 0 6)=b1;refine kF 53 (.bool (b1|| !within f.aF f.params 100)) ?_ ?_
  ·cases b1
   ·refine aI ?_
    refine bI rfl (λw _=>jk _ _ _ w) ?_;refine aI ?_;exact aV aw aH
   ·refine iL ?_
    exact aV aw aH
  refine aU ?_;refine aN (λh4=>?_) (λh4=>?_)
  ·refine aI ?_
   exact bQ rfl (by simp only[kU,h2,h3,HD,h4];rfl)
  refine aU ?_;refine bI rfl (λw _=>jk _ _ _ w) ?_;refine aU ?_;generalize wi:(!within (n:Int) 1 40)=b2;refine kF 64 (.bool (b2||decide (300<fQ f.blocks))) ?_ ?_
  ·cases b2
   ·refine aI ?_
    exact aV aw aH
   ·refine iL ?_
    exact aV aw aH
  refine aU ?_;refine aN (λh5=>?_) (λh5=>?_)
  ·refine aI ?_
   exact bQ rfl (by simp only[kU,h2,h3,HD,h4,<-hn,wi,h5];rfl)
  ·refine aO ?_
   exact bQ rfl (by simp only[kU,h2,h3,HD,h4,<-hn,wi,h5];rfl)
theorem fM(bs:List ar):∀i,(jt bs i).length=bs.length
 |0=>by simp[jt]
 |i+1=>by
  have hf:∀(l:List Int) (rows:List (List Int)),(l.foldl (oK i) rows).length=rows.length:=by
   intro l
   induction l with
   |nil=>intro rows;rfl
   |cons t l ih=>intro rows;rw[fF,ih];simp[oK]
  rw[jt,hf,fM bs i]
theorem We(g fs ah:Value)(fl:List aZ)(C6:fl.length<=100)(f:aZ)(hf:Bf f)(hr:0<=f.aF/\f.aF<=100)(bs:Value)(w0:World)(xV:aM w0 fs 4 fl gg)(mU:aM w0 bs 6 f.blocks ed)(je:bG w0 0 0 mI)(LV:ah=.slice none 0 0):
  fi Tryz.prog 31 [.agg #[g,fs,.string f.name,.int .i64 f.params,.int .i64 f.aF,bs,ah]] w0 (.int .i64 (fX fl f)):=by
 subst LV;have IA:=mU;obtain⟨ba,n,bc,bb,xH,rfl,hn,pE,E3,LY,xS,iK⟩:=mU;refine aQ Tryz.func31 rfl Tryz.ntmps31 rfl (Wd.nil dh w0) ?_;have h24:=hf.1
 repeat(first|refine aO ?_|refine dX λ_ _=>?_)
 rename_i p1 _;refine bP (λ(i:Nat)=>i<=n/\∀j,j<i->jr f.blocks (j8 f.blocks.length f.aF) j=0) (λi=>[(18,.int .i64 i),(16,.slice ba n bc),(17,.int .i64 n),(1,.pointer (some ⟨p1,0,none⟩))]) (λ_=>[aj p1 [g,fs,.string f.name,.int .i64 f.params,.int .i64 f.aF,.slice ba n bc,.slice none 0 0] 71]) (λi=>n-i) 0 ⟨aY _,by simp⟩ (aV aw aH) λi ⟨hi,cP⟩=>?_;refine aU ?_;refine aN (λh1=>?_) (λh1=>?_)
 ·have bT:i<n:=by simpa using h1
  obtain⟨B,hB⟩:=dJ hn bT;have pY:bY ba bb xH:=⟨xS (aW hB)⟩;have mW:bZ i n:=⟨bT⟩;obtain⟨cs,fZ,pv,lv,tv,rfl,_,_,oE,mX,ht⟩:=iK i B hB;obtain⟨Sa,pn,pc,_,_,rfl,Gr,_,Ps,_⟩:=oE;obtain⟨la,ln,lc,_,_,rfl,Ma,_,Pg,_⟩:=mX;have Kt:=ht;obtain⟨ta,tn,tc,tb,yD,rfl,sN,Er,Ep,TC,wl,r6⟩:=ht;have oQ:a_ w0 bb (xH+i*6) _:=⟨fZ⟩;have ny:jr f.blocks (j8 f.blocks.length f.aF) i=uK n f.aF B.kind B.on B.to:=by simp[jr,hB,j8,hn]
  repeat(first|refine aI ?_|refine dX λ_ _=>?_)
  refine bI rfl (λw hw=>ZW g fs _ _ _ n bc ba ag f.aF hr B.kind B.on B.to _ w (Kt.cu eK hw.cE) (je.cu hw.cE)) ?_;refine aU ?_;refine aN (λh2=>?_) (λh2=>?_)
  ·refine aI ?_
   refine bQ rfl ?_;have vB:uK n f.aF B.kind B.on B.to≠0:=by simpa using h2
   rw[fX,gp cP (hn▸bT) (by rw[ny];exact vB),if_pos (by rw[ny];exact vB),ny]
  ·refine aO ?_
   refine bC (i+1) ⟨bT,λj hj=>?_⟩ ag aw ap
   by_cases wT:j=i
   ·subst wT;rw[ny];simpa using h2
   ·exact cP j ag
 have gT:i=n:=by have:=h1;simp at this;omega
 rw[gT]at cP;have O6:fX fl f=(dI (jc fl f) f.blocks.length).1:=by rw[fX,<-hn,fD (hn▸cP)];rfl
 rw[O6];have jq:∀b∈f.blocks,UC f.blocks.length b.to:=by
  intro b hb;obtain⟨j,hj⟩:=br hb;have jE:j<n:=by rw[hn];exact(aC.1 hj).1
  have:=cP j jE;simp only[jr,hj]at this;exact JU this
 refine aI ?_;refine cV (val:=λx:(Option Addr×Nat×Nat)×(Nat->Prop)=>.slice x.1.1 x.1.2.1 x.1.2.2) (E:=λx=>[⟨x.2,λw=>aM w (.slice x.1.1 x.1.2.1 x.1.2.2) 1 (bm f.blocks) cS⟩]) (φ:=λ_=>True) rfl (λw hw=>JP _ _ _ f.blocks _ w (IA.cu fh hw.cE) ag jq) λx _=>?_;obtain⟨⟨xa,xn,xc⟩,fp⟩:=x;simp only[a6,aT];refine aI ?_;refine bP (λ(i:Nat)=>i<=n/\∀j,j<i->jc fl f j=0) (λi=>[(38,.int .i64 i),(36,.slice ba n bc),(37,.int .i64 n),(1,.pointer (some ⟨p1,0,none⟩))]) (λ_=>[⟨fp,λw=>aM w (.slice xa xn xc) 1 (bm f.blocks) cS⟩,aj p1 [g,fs,.string f.name,.int .i64 f.params,.int .i64 f.aF,.slice ba n bc,.slice xa xn xc] 71]) (λi=>n-i) 0 ⟨aY _,by simp⟩ (aV aw aH) λi ⟨hi,wQ⟩=>?_;refine aU ?_;refine aN (λh1=>?_) (λh1=>?_)
 ·have bT:i<n:=by simpa using h1
  obtain⟨B,hB⟩:=dJ hn bT;have pY:bY ba bb xH:=⟨xS (aW hB)⟩;have mW:bZ i n:=⟨bT⟩;obtain⟨cs,fZ,pv,lv,tv,rfl,_,_,oE,mX,ht⟩:=iK i B hB;obtain⟨Sa,pn,pc,pb,po,rfl,Gr,_,Ps,hpc,hpa,Pq⟩:=oE;obtain⟨la,ln,lc,lb,lo,rfl,Ma,_,Pg,hlc,Tk,Pd⟩:=mX;obtain⟨ta,tn,tc,tb,yD,rfl,sN,Er,Ep,TC,wl,r6⟩:=ht;have oQ:a_ w0 bb (xH+i*6) _:=⟨fZ⟩;have Vf:jc fl f i=if (dI (jr B.aL (lQ f.aF f.blocks i)) B.aL.length).1≠0 then(dI (jr B.aL (lQ f.aF f.blocks i)) B.aL.length).1 else(dI (jr B.list (dK fl f.aF)) B.list.length).1:=by simp[jc,hB]
  have fK:∃row,(bm f.blocks)[i]?=some row:=⟨_,aB (by rw[bm,fM];omega)⟩;obtain⟨row,fK⟩:=fK;have Vm:∀c:Int,c≠0->jc fl f i=c->Value.int .i64 c=.int .i64 (dI (jc fl f) f.blocks.length).1:=by
   intro c hc hb;rw[gp wQ (hn▸bT) (by rw[hb];exact hc),hb]
  repeat(first|refine aI ?_|refine dX λ_ _=>?_)
  rename_i p7 _;refine bP (λ(j:Nat)=>j<=pn/\∀k,k<j->jr B.aL (lQ f.aF f.blocks i) k=0) (λj=>[(46,.int .i64 j),(44,.slice Sa pn pc),(45,.int .i64 pn),(6,.int .i64 i),(7,.pointer (some ⟨p7,0,none⟩)),(38,.int .i64 i),(36,.slice ba n bc),(37,.int .i64 n),(1,.pointer (some ⟨p1,0,none⟩))])
   (λ_=>[aj p7 [.slice Sa pn pc,.slice la ln lc,.int .i64 B.kind,.bool B.on.bD,.int .i64 B.on.n,.slice ta tn tc] 46,⟨fp,λw=>aM w (.slice xa xn xc) 1 (bm f.blocks) cS⟩,aj p1 [g,fs,.string f.name,.int .i64 f.params,.int .i64 f.aF,.slice ba n bc,.slice xa xn xc] 71]) (λj=>pn-j) 0 ⟨aY _,by simp⟩ (aV aw aH) λj ⟨hj,AK⟩=>?_
  refine aU ?_;refine aN (λh2=>?_) (λh2=>?_)
  ·have n9:j<pn:=by simpa using h2
   obtain⟨p,hp⟩:=dJ Gr n9;have uL:bY Sa pb po:=⟨hpa (aW hp)⟩;have Pe:bZ j pn:=⟨n9⟩;obtain⟨CN,vD,sv,rfl,Zo,mP⟩:=Pq j p hp;have aep:=mP;obtain⟨sa,sn,sc,_,_,rfl,_⟩:=mP;have vC:a_ w0 pb (po+j*2) _:=⟨vD⟩;have ny:jr B.aL (lQ f.aF f.blocks i) j=w9 f.aF i row.length p:=by simp[jr,hp,lQ,fK]
   repeat(first|refine aI ?_|refine dX λ_ _=>?_)
   refine bI rfl (λw hw=>ab5 g fs _ _ _ _ f.aF hr (bm f.blocks) row i fK p _ w (hw.get (k:=2) rfl) (aep.cu rm hw.cE)) ?_;refine aU ?_;refine aN (λh3=>?_) (λh3=>?_)
   ·refine aI ?_
    have q9:w9 f.aF i row.length p≠0:=by simpa using h3
    refine bQ rfl (Vm _ q9 ?_);rw[Vf,gp AK (Gr▸n9) (by rw[ny];exact q9),if_pos (by rw[ny];exact q9),ny]
   ·refine aO ?_
    refine bC (j+1) ⟨n9,λk hk=>?_⟩ ag aw ap
    by_cases IF:k=j
    ·subst IF;rw[ny];simpa using h3
    ·exact AK k ag
  have Xl:j=pn:=by have:=h2;simp at this;omega
  have aaw:jc fl f i=(dI (jr B.list (dK fl f.aF)) B.list.length).1:=by rw[Vf,<-Gr,<-Xl,fD AK];rfl
  refine aI ?_;refine bP (λ(j:Nat)=>j<=ln/\∀k,k<j->jr B.list (dK fl f.aF) k=0) (λj=>[(61,.int .i64 j),(59,.slice la ln lc),(60,.int .i64 ln),(38,.int .i64 i),(36,.slice ba n bc),(37,.int .i64 n),(1,.pointer (some ⟨p1,0,none⟩))])
   (λ_=>[⟨fp,λw=>aM w (.slice xa xn xc) 1 (bm f.blocks) cS⟩,aj p1 [g,fs,.string f.name,.int .i64 f.params,.int .i64 f.aF,.slice ba n bc,.slice xa xn xc] 71]) (λj=>ln-j) 0 ⟨aY _,by simp⟩ (aV aw ap) λj ⟨hj,OH⟩=>?_
  refine aU ?_;refine aN (λh3=>?_) (λh3=>?_)
  ·have n9:j<ln:=by simpa using h3
   obtain⟨x,hx⟩:=dJ Ma n9;have uL:bY la lb lo:=⟨Tk (aW hx)⟩;have Pe:bZ j ln:=⟨n9⟩;obtain⟨CN,vD,av,rfl,_,_,_,_,oY,B9⟩:=Pd j x hx;have OK:=B9;obtain⟨aa,an,ac,_,_,rfl,_⟩:=B9;have vC:a_ w0 lb (lo+j*8) _:=⟨vD⟩;have ny:jr B.list (dK fl f.aF) j=dK fl f.aF x:=by simp[jr,hx]
   repeat(first|refine aI ?_|refine dX λ_ _=>?_)
   refine bI rfl (λw hw=>abY g fs _ _ _ _ fl C6 f.aF hr x oY _ w (xV.cu dk hw.cE) (OK.cu rm hw.cE)) ?_;refine aU ?_;refine aN (λh4=>?_) (λh4=>?_)
   ·refine aI ?_
    have h4':dK fl f.aF x≠0:=by simpa using h4
    refine bQ rfl (Vm _ h4' ?_);rw[aaw,gp OH (Ma▸n9) (by rw[ny];exact h4'),ny]
   ·refine aO ?_
    refine bC (j+1) ⟨n9,λk hk=>?_⟩ ag aw ap
    by_cases IF:k=j
    ·subst IF;rw[ny];simpa using h4
    ·exact OH k ag
  ·have O4:j=ln:=by have:=h3;simp at this;omega
   have hz:jc fl f i=0:=by rw[aaw,<-Ma,<-O4,fD OH]
   refine aI ?_;refine bC (i+1) ⟨bT,λk hk=>?_⟩ ag aw ag2
   by_cases hki:k=i
   ·subst hki;exact hz
   ·exact wQ k ag
 ·have L6:i=n:=by have:=h1;simp at this;omega
  refine aI ?_;exact bQ rfl (by rw[<-hn,<-L6,fD wQ])
def mC(u:a7):Prop:=u.funcs.length<=10/\∀f∈u.funcs,Bf f
theorem Mn(v:Value)(l:List aZ)(w0:World)(hv:aM w0 v 4 l gg):
  fi Tryz.prog 32 [v,.func (.func 33) #[] #[]] w0 (.int .i64 (cZ l)):=by
 obtain⟨a,n,c,b,o,rfl,hn,pE,E3,hc,ha,iK⟩:=hv;have one:∀(w:World) (x:aZ) (v:Value),fi Tryz.prog 33 [.agg #[.string x.name,.int .i64 x.params,.int .i64 x.aF,v]] w (.bool (qK x)):=by
  intro w x v;refine aQ Tryz.func33 rfl Tryz.ntmps33 rfl (Wd.nil dh w) ?_
  repeat(first|refine aO ?_|refine dX λ_ _=>?_)
  exact bQ rfl rfl
 refine aQ Tryz.func32 rfl Tryz.ntmps32 rfl (Wd.nil dh w0) ?_;refine aO ?_;refine bP (λ(i:Nat)=>i<=n/\∀j t,j<i->l[j]?=some t->qK t=false) (λi=>[(8,.int .i64 i),(0,.slice a n c),(1,.func (.func 33) #[] #[]),(7,.int .i64 n)]) (λ_=>[]) (λi=>n-i) 0 ⟨aY _,by simp⟩ (aV aw aH) λi ⟨hi,cP⟩=>?_;refine aU ?_;refine aN (λh1=>?_) (λh1=>?_)
 ·have bT:i<n:=by simpa using h1
  obtain⟨x,hx⟩:=dJ hn bT;have pY:bY a b o:=⟨ha (aW hx)⟩;have mW:bZ i n:=⟨bT⟩;obtain⟨cs,fZ,bv,rfl,_⟩:=iK i x hx;have oQ:a_ w0 b (o+i*4) _:=⟨fZ⟩;refine aO ?_;refine kD rfl (us:=[]) (vs:=[.agg #[.string x.name,.int .i64 x.params,.int .i64 x.aF,bv]]) (xs:=[]) (λw _=>one w x bv) ?_;refine aU ?_;refine aN (λh2=>?_) (λh2=>?_)
  ·refine aI ?_
   refine bQ rfl ?_;have:l.findIdx? qK=some i:=by
    rw[List.findIdx?_eq_some_iff_getElem];have iQ:i<l.length:=ag;have Yl:l[i]=x:=(aC.1 hx).2;exact⟨iQ,by rw[Yl];exact h2,λj hj=>by have:=cP j l[j] hj (aB ag);simp[this]⟩
   simp[cZ,this]
  ·refine aO ?_
   refine bC (i+1) ⟨bT,λj t hj ht=>?_⟩ ag aw aH
   by_cases wT:j=i
   ·subst wT
    rw[hx]at ht;simp only[bW]at ht;subst ht;exact h2
   ·exact cP j t ag ht
 ·have gT:i=n:=by have:=h1;simp at this;omega
  refine aI ?_;refine bQ rfl ?_;have:l.findIdx? qK=none:=by
   rw[List.findIdx?_eq_none_iff];intro t ht;obtain⟨j,hj⟩:=br ht;exact cP j t (by have:=(aC.1 hj).1;omega) hj
  simp[cZ,this]
theorem GY{S:Nat->Prop}{w0 w:World}{H:List bN}{k c n e:Nat}{a:Option Addr}{l:List ByteArray}(h:Wd S w0 H w)(hk:H[k]?=some (ai a n c e 1 (l.map .string)))(hn:n=l.length)(hb:n<=1000):aM w (.slice a n c) 1 l NW:=by
 refine h.nC hk hn ag λi x hx=>⟨[.string x],λj v hj=>?_,rfl⟩
 match j,hj with
 |0,hj=>simpa[hx]using hj
theorem JH{l:List iY}{i:Nat}{x:iY}(h:l[i]?=some x):mZ l (i+1)=mZ l i+x.size:=by
 simp[mZ,cj,h,List.sum_append]
theorem ue(u:a7)(hl:mC u)(g fs:Value)(w0:World)(hg:aM w0 g 3 u.globals fE)(hf:aM w0 fs 4 u.funcs gg)(je:bG w0 0 0 mI):
  fi Tryz.prog 11 [.agg #[g,fs]] w0 (.agg #[.int .i64 (dr u).1,.int .i64 (dr u).2]):=by
 have zt:=hg;have vE:=hf;obtain⟨ga,gn,gc,gb,go,rfl,NA,adu,adt,hgc,Th,O4⟩:=hg;obtain⟨fa,fn,fc,fb,fo,rfl,oY,O2,O1,Xg,uN,uO⟩:=hf;have afW:=hl.1;refine aQ Tryz.func11 rfl Tryz.ntmps11 rfl (Wd.nil dh w0) ?_
 repeat(first|refine aU ?_|refine dX λ_ _=>?_)
 rename_i p1 _ p2 _;generalize HD:decide (10<(gn:Int))=b1;refine kF 26 (.bool (b1||decide (10<(fn:Int)))) ?_ ?_
 ·cases b1
  ·refine aI ?_
   exact aV aw aH
  ·refine iL ?_
   exact aV aw aH
 refine aU ?_;refine aN (λh1=>?_) (λh1=>?_)
 ·refine aU ?_
  refine bI rfl (λw _=>oN _ _ w) ?_;refine aI ?_;refine gH rfl λ_ hw=>⟨?_,hw.cE⟩;have:10<(u.globals.length:Int)∨10<(u.funcs.length:Int):=by subst HD;rw[<-NA,<-oY];simpa using h1
  simp only[dr,if_pos this]
 have Ef:¬(10<(u.globals.length:Int)∨10<(u.funcs.length:Int)):=by subst HD;rw[<-NA,<-oY];simpa using h1
 have hgl:gn<=10:=ag;refine aO ?_;refine fq 9 1 ?_;refine bP (λ(x:Nat×Option Addr×Nat)=>x.1<=gn/\(0<=mZ u.globals x.1/\mZ u.globals x.1<=200)/\∀j,j<x.1->nw u.globals j=0) (λx=>[(31,.int .i64 x.1),(29,.slice ga gn gc),(30,.int .i64 gn),(3,.slice x.2.1 x.1 x.2.2),(4,.int .i64 (mZ u.globals x.1)),(1,.pointer (some ⟨p1,0,none⟩)),(2,.pointer (some ⟨p2,0,none⟩))])
  (λx=>[ai x.2.1 x.1 x.2.2 9 1 (((u.globals.take x.1).map (·.name)).map .string),aj p2 [.int .i64 0,.int .i64 0] 28,aj p1 [.slice ga gn gc,.slice fa fn fc] 25]) (λx=>gn-x.1) (0,none,0) ⟨aY _,by simp[mZ],by simp⟩ (aV aw aH) λx ⟨hi,aes,cP⟩=>?_
 obtain⟨i,na,nc⟩:=x;simp only at hi aes cP⊢;refine aU ?_;refine aN (λh2=>?_) (λh2=>?_)
 ·have bT:i<gn:=by simpa using h2
  obtain⟨X,hX⟩:=dJ NA bT;have pY:bY ga gb go:=⟨Th (aW hX)⟩;have mW:bZ i gn:=⟨bT⟩;obtain⟨cs,fZ,iv,rfl,mM,Kc⟩:=O4 i X hX;obtain⟨ia,inn,ic,_,_,rfl,mO,_,afR,_⟩:=Kc;have oQ:a_ w0 gb (go+i*3) _:=⟨fZ⟩;have ny:nw u.globals i=jd ((u.globals.take i).map (·.name)) (mZ u.globals i) X:=by simp[nw,jr,hX]
  have B_:i=((u.globals.take i).map (·.name)).length:=by rw[aG,cU];omega
  have TG:=JH hX;refine Wq ?_;refine rW ?_
  repeat(first|refine Wq ?_|refine dX λ_ _=>?_)
  rename_i p6 _;refine U3 [(7,.int .i64 (nw u.globals i)),(5,.int .i64 i),(6,.pointer (some ⟨p6,0,none⟩)),(31,.int .i64 i),(29,.slice ga gn gc),(30,.int .i64 gn),(3,.slice na i nc),(4,.int .i64 (mZ u.globals i)),(1,.pointer (some ⟨p1,0,none⟩)),(2,.pointer (some ⟨p2,0,none⟩))]
   [aj p6 [.string X.name,.int .i64 X.size,.slice ia inn ic] 65,ai na i nc 9 1 (((u.globals.take i).map (·.name)).map .string),aj p2 [.int .i64 0,.int .i64 0] 28,aj p1 [.slice ga gn gc,.slice fa fn fc] 25] ?_ ?_
  ·rw[ny]
   refine aO ?_;refine bI rfl (λw _=>Qw _ w) ?_;refine aU ?_;refine aN (λk1=>?_) (λk1=>?_)
   ·rw[show jd ((u.globals.take i).map (·.name)) (mZ u.globals i) X=12 by simp only[jd,k1];rfl]
    refine aO ?_;exact aV aw ag2
   refine aU ?_;refine bI rfl (λw hw=>yS _ ((u.globals.take i).map (·.name)) _ w (GY hw (k:=1) rfl B_ ag)) ?_;refine aU ?_;refine aN (λk2=>?_) (λk2=>?_)
   ·rw[show jd ((u.globals.take i).map (·.name)) (mZ u.globals i) X=7 by simp only[jd,k1,k2];rfl]
    refine aO ?_;exact aV aw ag2
   refine aU ?_;refine bI rfl (λw _=>jk _ _ _ w) ?_;refine aU ?_;refine aN (λk3=>?_) (λk3=>?_)
   ·rw[show jd ((u.globals.take i).map (·.name)) (mZ u.globals i) X=3 by simp only[jd,k1,k2,k3];rfl]
    refine aO ?_;exact aV aw ag2
   have oj:1<=X.size/\X.size<=200:=by simpa[within]using k3
   refine aU ?_;refine aN (λk4=>?_) (λk4=>?_)
   ·rw[show jd ((u.globals.take i).map (·.name)) (mZ u.globals i) X=9 by simp only[jd,k1,k2,k3];rw[<-mO];simp only[decide_eq_true_eq]at k4;rw[if_pos k4];rfl]
    refine aO ?_;exact aV aw ag2
   simp only[decide_eq_false_iff_not]at k4;refine aO ?_;refine aN (λk5=>?_) (λk5=>?_)
   ·rw[show jd ((u.globals.take i).map (·.name)) (mZ u.globals i) X=10 by simp only[jd,k1,k2,k3];rw[<-mO];simp only[decide_eq_true_eq]at k5;rw[if_neg k4,if_pos k5];rfl]
    refine aO ?_;exact aV aw ag2
   ·rw[show jd ((u.globals.take i).map (·.name)) (mZ u.globals i) X=0 by simp only[jd,k1,k2,k3];rw[<-mO];simp only[decide_eq_false_iff_not]at k5;rw[if_neg k4,if_neg k5];rfl]
    refine aO ?_;exact aV aw ag2
  refine aU ?_;refine aN (λh3=>?_) (λh3=>?_)
  ·have q9:nw u.globals i≠0:=by simpa using h3
   refine aU ?_;refine bI rfl (λw _=>oN _ _ w) ?_;refine aI ?_;refine gH rfl λ_ hw=>⟨?_,hw.cE⟩;have hh:=gp cP (NA▸bT) q9;simp only[dr,if_neg Ef,hh];rw[if_pos q9]
  have q9:nw u.globals i=0:=by simpa using h3
  have cW:(1<=X.size/\X.size<=200)/\mZ u.globals i+X.size<=200:=by
   rw[ny]at q9;unfold jd at q9
   by_cases q1:sj X.name=true<;>simp only[q1,Bool.not_true,Bool.not_false]at q9
   ·by_cases q2:hasName ((u.globals.take i).map (·.name)) X.name=true<;>simp only[q2]at q9
    ·cases q9
    ·by_cases q3:within X.size 1 200=true<;>simp only[q3,Bool.not_true,Bool.not_false]at q9
     ·have oj:1<=X.size/\X.size<=200:=by simpa[within]using q3
      refine⟨oj,?_⟩
      by_cases q4:X.size<(X.init.length:Int)
      ·simp only[q4]at q9;cases q9
      ·by_cases q5:200<mZ u.globals i+X.size
       ·simp only[q4,q5]at q9;cases q9
       ·omega
     ·cases q9
   ·cases q9
  obtain⟨oj,htt⟩:=cW
  repeat(first|refine aO ?_|refine dX λ_ _=>?_)
  refine mq rfl rfl ag ag λa' c'=>?_;rw[show((u.globals.take i).map (·.name)).map Value.string++[.string X.name]=((u.globals.take (i+1)).map (·.name)).map Value.string by simp[cj,hX]];refine aO ?_;refine bC (i+1,a',c') ⟨bT,by simp only[TG];omega,λj hj=>?_⟩ (by simp only;omega) ?_ ?_
  ·by_cases wT:j=i
   ·subst wT;exact q9
   ·exact cP j (by simp only at hj;omega)
  ·rw[TG]
   exact aw
  ·exact List.Sublist.cons _ (.cons _ (.refl _))
 have gT:i=gn:=by have:=h2;simp at this;omega
 have hgz:(dI (nw u.globals) u.globals.length)=(0,0):=fD (by rw[<-NA,<-gT];exact cP);have Cv:(u.globals.take i).map (·.name)=u.globals.map (·.name):=by rw[gT,NA,cO]
 rw[Cv];subst gT;refine aI ?_;refine bP (λ(x:Nat×Option Addr×Nat)=>x.1<=fn/\∀j,j<x.1->k_ u j=0) (λx=>[(82,.int .i64 x.1),(80,.slice fa fn fc),(81,.int .i64 fn),(3,.slice x.2.1 (i+x.1) x.2.2),(1,.pointer (some ⟨p1,0,none⟩)),(2,.pointer (some ⟨p2,0,none⟩))])
  (λx=>[ai x.2.1 (i+x.1) x.2.2 9 1 ((u.globals.map (·.name)++(u.funcs.take x.1).map (·.name)).map .string),aj p2 [.int .i64 0,.int .i64 0] 28,aj p1 [.slice ga i gc,.slice fa fn fc] 25]) (λx=>fn-x.1) (0,na,nc) ⟨aY _,by simp⟩ (by simp only[List.take_zero,dp,cq,dL];exact aV aw ag2) λx ⟨Vq,wQ⟩=>?_
 obtain⟨k,ma,mc⟩:=x;simp only at Vq wQ⊢;refine aU ?_;refine aN (λh4=>?_) (λh4=>?_)
 ·have bT:k<fn:=by simpa using h4
  obtain⟨X,hX⟩:=dJ oY bT;have pY:bY fa fb fo:=⟨uN (aW hX)⟩;have mW:bZ k fn:=⟨bT⟩;obtain⟨cs,fZ,bv,rfl,Zo,hri,zR⟩:=uO k X hX;have W2:=zR;obtain⟨ba,bn,bc,_,_,rfl,_⟩:=zR;have oQ:a_ w0 fb (fo+k*4) _:=⟨fZ⟩;have hlx:=hl.2 X (aA hX);have ny:k_ u k=kU (u.globals.map (·.name)++(u.funcs.take k).map (·.name)) X:=by simp[k_,jr,hX]
  have B_:i+k=(u.globals.map (·.name)++(u.funcs.take k).map (·.name)).length:=by rw[bR,aG,aG,cU];omega
  repeat(first|refine aI ?_|refine dX λ_ _=>?_)
  refine bI rfl (λw hw=>Xe _ _ _ X hlx _ _ (u.globals.map (·.name)++(u.funcs.take k).map (·.name)) w (W2.cu fh hw.cE) (GY hw (k:=2) rfl B_ ag)) ?_;refine aU ?_;refine aN (λh3=>?_) (λh3=>?_)
  ·have q9:k_ u k≠0:=by rw[ny];simpa using h3
   refine aU ?_;refine bI rfl (λw _=>oN _ _ w) ?_;refine aI ?_;refine gH rfl λ_ hw=>⟨?_,hw.cE⟩;have hh:=gp wQ (oY▸bT) q9;simp only[dr,if_neg Ef,hgz,hh];rw[if_neg aH,if_pos q9,ny]
  have q9:k_ u k=0:=by rw[ny];simpa using h3
  repeat(first|refine aO ?_|refine dX λ_ _=>?_)
  refine mq rfl rfl ag ag λa' c'=>?_;rw[show(u.globals.map (·.name)++(u.funcs.take k).map (·.name)).map Value.string++[.string X.name]=(u.globals.map (·.name)++(u.funcs.take (k+1)).map (·.name)).map Value.string by simp[cj,hX]];refine aO ?_;refine bC (k+1,a',c') ⟨bT,λj hj=>?_⟩ (by simp only;omega) aw ?_
  ·by_cases wT:j=k
   ·subst wT;exact q9
   ·exact wQ j (by simp only at hj;omega)
  ·exact List.Sublist.cons _ (.cons _ (.cons _ (.refl _)))
 have aaS:k=fn:=by have:=h4;simp at this;omega
 have hhz:(dI (k_ u) u.funcs.length)=(0,0):=fD (by rw[<-oY,<-aaS];exact wQ);have Ko:∀X∈u.funcs,0<=X.aF/\X.aF<=100:=by
  intro X hX;obtain⟨j,hj⟩:=br hX;have jE:j<k:=by rw[aaS,oY];exact(aC.1 hj).1
  have hz:=wQ j jE;simp only[k_,jr,hj]at hz;unfold kU at hz
  by_cases q1:sj X.name=true<;>simp only[q1,Bool.not_true,Bool.not_false]at hz
  ·by_cases q2:hasName (u.globals.map (·.name)++(u.funcs.take j).map (·.name)) X.name=true<;>simp only[q2]at hz
   ·cases hz
   ·by_cases q3:(!within X.params 0 6|| !within X.aF X.params 100)=true
    ·simp only[q3]at hz;cases hz
    ·simp[within]at q3;omega
  ·cases hz
 refine aI ?_;refine bP (λ(j:Nat)=>j<=fn/\∀q,q<j->jr u.funcs (fX u.funcs) q=0) (λj=>[(107,.int .i64 j),(105,.slice fa fn fc),(106,.int .i64 fn),(1,.pointer (some ⟨p1,0,none⟩)),(2,.pointer (some ⟨p2,0,none⟩))])
  (λ_=>[aj p2 [.int .i64 0,.int .i64 0] 28,aj p1 [.slice ga i gc,.slice fa fn fc] 25]) (λj=>fn-j) 0 ⟨aY _,by simp⟩ (aV aw ap) λj ⟨hj,AK⟩=>?_
 refine aU ?_;refine aN (λh5=>?_) (λh5=>?_)
 ·have bT:j<fn:=by simpa using h5
  obtain⟨X,hX⟩:=dJ oY bT;have pY:bY fa fb fo:=⟨uN (aW hX)⟩;have mW:bZ j fn:=⟨bT⟩;obtain⟨cs,fZ,bv,rfl,Zo,hri,zR⟩:=uO j X hX;have W2:=zR;obtain⟨ba,bn,bc,_,_,rfl,_⟩:=zR;have oQ:a_ w0 fb (fo+j*4) _:=⟨fZ⟩;have OC:=aA hX;have ny:jr u.funcs (fX u.funcs) j=fX u.funcs X:=by simp[jr,hX]
  repeat(first|refine aI ?_|refine dX λ_ _=>?_)
  refine bI rfl (λw hw=>We _ _ _ u.funcs ag X (hl.2 X OC) (Ko X OC) _ w (vE.cu dk hw.cE) (W2.cu fh hw.cE) (je.cu hw.cE) rfl) ?_;refine aU ?_;refine aN (λh3=>?_) (λh3=>?_)
  ·have q9:jr u.funcs (fX u.funcs) j≠0:=by rw[ny];simpa using h3
   refine aU ?_;refine bI rfl (λw _=>oN _ _ w) ?_;refine aI ?_;refine gH rfl λ_ hw=>⟨?_,hw.cE⟩;have hh:=gp AK (oY▸bT) q9;simp only[dr,if_neg Ef,hgz,hhz,hh];rw[if_neg aH,if_neg aH,if_pos q9,ny]
  ·have q9:jr u.funcs (fX u.funcs) j=0:=by rw[ny];simpa using h3
   refine aO ?_;refine bC (j+1) ⟨bT,λq hq=>?_⟩ ag aw ap
   by_cases IJ:q=j
   ·subst IJ;exact q9
   ·exact AK q ag
 have Xl:j=fn:=by have:=h5;simp at this;omega
 have hbz:(dI (jr u.funcs (fX u.funcs)) u.funcs.length)=(0,0):=fD (by rw[<-oY,<-Xl];exact AK);have fv:dr u=if cZ u.funcs<0 then(6,0)else if 0<jr u.funcs (·.params) (cZ u.funcs).toNat then(5,cZ u.funcs)else(0,0):=by
  simp only[dr,if_neg Ef,hgz,hhz,hbz]
  rfl
 rw[fv];refine aI ?_;refine bI rfl (λw hw=>Mn _ u.funcs w (vE.cu dk hw.cE)) ?_;refine aU ?_;refine aN (λh6=>?_) (λh6=>?_)
 ·refine aU ?_
  refine bI rfl (λw _=>oN _ _ w) ?_;refine aI ?_;refine gH rfl λ_ hw=>⟨?_,hw.cE⟩;rw[if_pos (by simpa using h6)]
 have h6':¬cZ u.funcs<0:=by simpa using h6
 rw[if_neg h6'];obtain⟨m,hm⟩:∃m:Nat,cZ u.funcs=m:=⟨(cZ u.funcs).toNat,ag⟩;have rf:m<fn:=by
  unfold cZ at hm
  split at hm
  ·rename_i q hq
   have:=(List.findIdx?_eq_some_iff_getElem.1 hq).1;omega
  ·omega
 obtain⟨X,hX⟩:=dJ oY rf;have pY:bY fa fb fo:=⟨uN (aW hX)⟩;have mW:bZ m fn:=⟨rf⟩;have XD:ky (cZ u.funcs) m:=⟨hm⟩;obtain⟨cs,fZ,bv,rfl,Zo,hri,zR⟩:=uO m X hX;have oQ:a_ w0 fb (fo+m*4) _:=⟨fZ⟩;have ny:jr u.funcs (·.params) (cZ u.funcs).toNat=X.params:=by rw[hm];simp[jr,hX]
 rw[ny];refine aO ?_;refine aN (λh7=>?_) (λh7=>?_)
 ·refine aU ?_
  refine bI rfl (λw _=>oN _ _ w) ?_;refine aI ?_;refine gH rfl λ_ hw=>⟨?_,hw.cE⟩;rw[if_pos (by simpa using h7)]
 ·refine aI ?_
  refine gH rfl λ_ hw=>⟨?_,hw.cE⟩;rw[if_neg (by simpa using h7)]
theorem nW{u:a7}(h:(dr u).1=0):dr u=(0,0):=by
 unfold dr at h⊢
 split
 ·rename_i h1;rw[if_pos h1]at h;cases h
 ·rename_i h1;rw[if_neg h1]at h
  split
  ·rename_i h2;rw[if_pos h2]at h;exact absurd h h2
  ·rename_i h2;rw[if_neg h2]at h
   split
   ·rename_i h3;rw[if_pos h3]at h;exact absurd h h3
   ·rename_i h3;rw[if_neg h3]at h
    split
    ·rename_i h4;rw[if_pos h4]at h;exact absurd h h4
    ·rename_i h4;rw[if_neg h4]at h
     split
     ·rename_i h5;rw[if_pos h5]at h;cases h
     ·rename_i h5;rw[if_neg h5]at h
      split
      ·rename_i h6;rw[if_pos h6]at h;cases h
      ·rfl
end
end Go.Proofs.YthfhgolkafpmnaaGreatDoor
