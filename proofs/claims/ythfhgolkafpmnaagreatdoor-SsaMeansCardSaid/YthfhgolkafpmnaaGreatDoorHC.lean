/- Texts joined: RunB RunC RunD. -/
import Derived.Test.YthfhgolkafpmnaaGreatDoorHA
namespace Go.Proofs.YthfhgolkafpmnaaGreatDoor
open Go.Value renaming int->U,slice->J,pointer->ar,bool->D,agg->au
open Go.IntKind renaming i64->O
open Option renaming some->Z,none->A
open Go renaming Value->V,World->C
open Go.Proofs.Tryz
open Go.Proofs.Tryz renaming prog->ae
open Go Go.RowKit
section
set_option maxHeartbeats 8000000
attribute [local irreducible] wpListIn Code.wpIn Exit.then Exit.inBlock bodyPost wpQuiet wpAnyIn wpAnyH bodyPostM j5
section
instance aib{P:Program}{N:Nat}{ds:List Deferred}{S:Nat->Prop}{w0:C}{L:List (Nat×V)}{H:List bN}{x:Operand}{p:Addr}[hx:Ev L x (ar (Z p))]:dL P N ds S w0 L H (.nilCheck x) (ar (Z p)):=
 ⟨λ_ h=>(by cases h),λ_ _ h=>(by cases h),λ_ _ _ _ _ a w hF _=>by simp[execOp,hx.eq _ _ _ hF]⟩
structure iz where
 f:mf
 a:Option Addr
 c:Nat
structure sM where
 a:Option Addr
 c:Nat
 l:List Nat
def sK(r:iz):List V:=[U O r.f.fn,U O r.f.block,U O r.f.at',J r.a r.f.aB.length r.c,U O r.f.dst]
def qM(r:iz):bN:=M r.a r.f.aB.length r.c 3 1 (r.f.aB.map (U O))
def Ij(r:sM):V:=.slice r.a r.l.length r.c
def mQ(r:sM):bN:=M r.a r.l.length r.c 3 1 (r.l.map λx:Nat=>.int O x)
theorem ke(r:iz):(sK r).length=5:=rfl
structure iG where
 ma:Option Addr
 mc:Nat
 mem:List Int
 iv:V
 dr:List Int
 state:Int
 value:Int
 oa:Option Addr
 oc:Nat
 out:List Int
 steps:Nat
 fa:Option Addr
 fc:Nat
 rows:List iz
 ca:Option Addr
 cc:Nat
 cs:List sM
def uY(p:Nat)(g fs av:V)(m:iG):bN:=K p [g,fs,av,J m.ma m.mem.length m.mc,m.iv,U O m.state,U O m.value,J m.oa m.out.length m.oc,U O m.steps,J m.fa m.rows.length m.fc,J m.ca m.cs.length m.cc] 168
def kz(m:iG):bN:=M m.ma m.mem.length m.mc 3 1 (m.mem.map (U O))
def jx(m:iG):bN:=M m.oa m.out.length m.oc 3 1 (m.out.map (U O))
def lx(m:iG):bN:=M m.fa m.rows.length m.fc 206 5 (m.rows.flatMap sK)
def kJ(m:iG):bN:=M m.ca m.cs.length m.cc 42 1 (m.cs.map Ij)
def dt(p:Nat)(g fs av:V)(m:iG):List bN:=uY p g fs av m::lx m::kz m::jx m::kJ m::(m.rows.map qM++m.cs.map mQ)
structure iG.Bd(m:iG):Prop where
 rows:m.rows.length<=1000
 aB:∀r∈m.rows,r.f.aB.length<=1000/\(∀x∈r.f.aB,dk x)/\dk r.f.dst
 mem:m.mem.length<=100000/\∀x∈m.mem,dk x
 out:m.out.length<=1000/\∀x∈m.out,dk x
 cs:m.cs.length<=1000
 lF:∀r∈m.cs,r.l.length<=1000/\∀x∈r.l,x<=m.steps+1
 steps:m.steps<=1000000
theorem wq{S:Nat->Prop}{wz w:C}{p:Nat}{g fs av:V}{m:iG}{H:List bN}(hw:Wd S wz (dt p g fs av m++H) w)(hb:m.Bd){rest:List iz}{t:iz}(hr:m.rows=rest++[t]):
  bF w p 0 [g,fs,av,J m.ma m.mem.length m.mc,m.iv,U O m.state,U O m.value,J m.oa m.out.length m.oc,U O m.steps,J m.fa m.rows.length m.fc,J m.ca m.cs.length m.cc]/\∃fb fo,m.fa=Z ⟨fb,fo,A⟩/\bF w fb (fo+rest.length*5) (sK t)/\aG w (J t.a t.f.aB.length t.c) 1 t.f.aB fI:=by
 have h0:bF w p 0 [g,fs,av,J m.ma m.mem.length m.mc,m.iv,U O m.state,U O m.value,J m.oa m.out.length m.oc,U O m.steps,J m.fa m.rows.length m.fc,J m.ca m.cs.length m.cc]:=λj v hj=>by rw[di];exact hw.mP 0 rfl hj
 obtain⟨h1,h2⟩:=hw.get (k:=1) (e:=lx m) rfl;have hlen:m.rows.length=rest.length+1:=by rw[hr];simp
 rcases h2 with⟨_,h3,_⟩|⟨fb,pre,sp,h3,_⟩
 ·omega
 refine⟨h0,fb,pre.length,h3,?_,?_⟩
 ·intro j v hj
  have hg:m.rows[rest.length]?=Z t:=by rw[hr];simp
  have hk:(dt p g fs av m++H)[1]?=Z (M (Z ⟨fb,pre.length,A⟩) m.rows.length m.fc 206 5 (m.rows.flatMap sK)):=by rw[<-h3];rfl
  rw[dI];exact hw.cL hk (fB ke m.rows rest.length t j v hg hj)
 ·have hm:t∈m.rows:=by rw[hr];simp
  obtain⟨hl,hx,_⟩:=hb.aB t hm;obtain⟨k,hk⟩:=bg (show qM t∈dt p g fs av m++H by unfold dt;simp only[bA,bD,aV];exact .inl (.inr (.inr (.inr (.inr (.inr (.inl ⟨t,hm,rfl⟩)))))));refine hw.oH hk rfl I λi x hi=>⟨[U O x],λj v hj=>?_,rfl,hx x (aq hi)⟩
  match j,hj with
  |0,hj=>simpa[hi]using hj
theorem D8(p fb fo n c:Nat)(g fs av mv iv st va ov sv cv:V)(w0:C)(hn:0<n)(Pv:n<=1000)(h:bF w0 p 0 [g,fs,av,mv,iv,st,va,ov,sv,J (Z ⟨fb,fo,A⟩) n c,cv]):
  eP ae 157 [ar (Z ⟨p,0,A⟩)] w0 (ar (Z ⟨fb,fo+(n-1)*5,A⟩)):=by
 refine aM func157 rfl ntmps157 rfl (Wd.nil cX w0) ?_;have n_:a6 w0 p 0 _:=⟨h⟩;have lY:bY (n-1) n:=⟨I⟩;have hni:lB ((n:Int)-1) (n-1):=⟨I⟩;refine aU ?_;refine jj mixed aR ?_;refine iH ?_;refine aH ?_;exact bP rfl rfl
structure u6(w:C)(p fb fo n:Nat)(t:iz):Prop where
 box:∃(g fs av mv iv st va ov sv cv:V) (c:Nat),bF w p 0 [g,fs,av,mv,iv,st,va,ov,sv,J (Z ⟨fb,fo,A⟩) n c,cv]
 bJ:bF w fb (fo+(n-1)*5) (sK t)
 aB:aG w (J t.a t.f.aB.length t.c) 1 t.f.aB fI
 pos:0<n
 le:n<=1000
theorem AS{S:Nat->Prop}{wz w:C}{p:Nat}{g fs av:V}{m:iG}{H:List bN}(hw:Wd S wz (dt p g fs av m++H) w)(hb:m.Bd){rest:List iz}{t:iz}(hr:m.rows=rest++[t]){fb fo:Nat}(hf:m.fa=Z ⟨fb,fo,A⟩):u6 w p fb fo m.rows.length t:=by
 obtain⟨h0,fb',fo',h1,h2,h3⟩:=wq hw hb hr;rw[hf]at h1;obtain⟨rfl,rfl⟩:fb=fb'/\fo=fo':=ax h1;have hlen:m.rows.length=rest.length+1:=by rw[hr];simp
 have:=hb.rows;exact⟨⟨_,_,_,_,_,_,_,_,_,_,_,by rw[<-hf];exact h0⟩,by rw[hlen];exact h2,h3,I,I⟩
theorem u6.ch{w w':C}{p fb fo n:Nat}{t:iz}(h:u6 w p fb fo n t)(hc:l_ cX w w'):u6 w' p fb fo n t:=by
 obtain⟨⟨g,fs,av,mv,iv,st,va,ov,sv,cv,c,h1⟩,h2,h3,h4,h5⟩:=h;exact⟨⟨_,_,_,_,_,_,_,_,_,_,_,h1.bZ hc⟩,h2.bZ hc,h3.bZ dP hc,h4,h5⟩
theorem u6.D8{w:C}{p fb fo n:Nat}{t:iz}(h:u6 w p fb fo n t):eP ae 157 [ar (Z ⟨p,0,A⟩)] w (ar (Z ⟨fb,fo+(n-1)*5,A⟩)):=by
 obtain⟨⟨g,fs,av,mv,iv,st,va,ov,sv,cv,c,h1⟩,h2,h3,h4,h5⟩:=h;exact Go.Proofs.YthfhgolkafpmnaaGreatDoor.D8 p fb fo n c g fs av mv iv st va ov sv cv w h4 h5 h1
theorem AV{w0:C}{p fb fo n:Nat}{t:iz}(h:u6 w0 p fb fo n t)(v:cg)(hv:jb t.f.aB.length v):
  eP ae 173 [ar (Z ⟨p,0,A⟩),au #[D v.z,U O v.n]] w0 (U O (cK t.f v)):=by
 obtain⟨r,vn⟩:=v;refine aM func173 rfl ntmps173 rfl (Wd.nil cX w0) ?_;cases r
 ·repeat(first|refine aH ?_|refine dZ λ_ _=>?_)
  exact bP rfl rfl
 ·obtain⟨h0,h1⟩:=hv rfl
  simp only at h0 h1;obtain⟨k,rfl⟩:∃k:Nat,vn=k:=⟨vn.toNat,I⟩;obtain⟨x,hx⟩:=bf t.f.aB k I;have t_:=h.bJ;have n_:a6 w0 fb (fo+(n-1)*5) _:=⟨t_⟩;obtain⟨_,_,_,b,o,ha,ji⟩:=h.aB.at;have oW:bU t.a b o:=⟨ha (aL hx)⟩;have SJ:bY k t.f.aB.length:=⟨I⟩;obtain⟨_,fT,rfl,_⟩:=ji k x hx;have VL:a6 w0 b (o+k*1) _:=⟨fT⟩;simp only[sK]at n_
  repeat(first|refine aH ?_|refine dZ λ_ _=>?_)
  refine jj mixed aR ?_;refine iH ?_;refine pu rfl (λw hw=>(h.ch hw.ch).D8) ?_;refine iH ?_;refine aE ?_;exact bP rfl (by simp[cK,hx])
def Jw(p:Nat)(g fs av:V)(m:iG)(rest:List iz):List bN:=uY p g fs av m::lx m::kz m::jx m::kJ m::(rest.map qM++m.cs.map mQ)
theorem Dv(p:Nat)(g fs av:V)(m:iG){rest:List iz}{t:iz}(hr:m.rows=rest++[t]):(dt p g fs av m).Perm (qM t::Jw p g fs av m rest):=by
 unfold dt Jw;rw[hr,bz,bT,dn,dz,aW,aO];have h:=lD (l₁:=[uY p g fs av m,lx m,kz m,jx m,kJ m]++rest.map qM) (l₂:=m.cs.map mQ) (a:=qM t);simpa using h
theorem U9(aB:List Int)(dst n:Int):(uD aB dst n).length=aB.length:=by unfold uD;split<;>simp
def iz.set(t:iz)(dst n:Int):iz:={t with f:=t.f.set dst n}
theorem Ww(t:iz)(dst n:Int):sK (t.set dst n)=sK t:=by simp[sK,iz.set,mf.set,U9]
theorem Ei{S:Nat->Prop}{wz:C}(p:Nat)(g fs av:V)(m:iG)(hb:m.Bd){rest:List iz}{t:iz}(hr:m.rows=rest++[t])(dst n:Int)(hd:0<=dst->dst<t.f.aB.length)(w:C)(hw:Wd S wz (dt p g fs av m) w):
  iC ae 174 [ar (Z ⟨p,0,A⟩),U O dst,U O n] w λu w'=>∃_x:Unit,u=.tuple #[]/\Wd S wz (dt p g fs av {m with rows:=rest++[t.set dst n]}) w'/\True:=by
 obtain⟨_,fb,fo,hf,_⟩:=wq (H:=[]) (by rw[cD];exact hw) hb hr;have hlen:m.rows.length=rest.length+1:=by rw[hr];simp
 have No:(rest++[t.set dst n]).length=rest.length+1:=by simp
 have gr:(rest++[t.set dst n]).flatMap sK=m.rows.flatMap sK:=by rw[hr,iD,iD];simp[Ww]
 refine kP func174 rfl ntmps174 rfl hw ?_;refine aU ?_;refine aI (λh1=>?_) (λh1=>?_)
 ·have h0:0<=dst:=ax h1
  have bS:=hd h0;obtain⟨k,rfl⟩:∃k:Nat,dst=k:=⟨dst.toNat,I⟩;refine aU ?_;refine bB rfl (λw hw=>(AS (H:=[]) (by rw[cD];exact hw) hb hr hf).D8) ?_;rw[hlen,Nat.add_sub_cancel];refine bi (Dv p g fs av m hr) ?_;unfold qM;refine fL 0 rfl I λvb vo oC=>?_;have VR:∀X,fy (X::Jw p g fs av m rest) fb (fo+rest.length*5+3) (J t.a t.f.aB.length t.c):=λX=>⟨λ_ _ w' ek=>by
   have hg:m.rows[rest.length]?=Z t:=by rw[hr];simp
   have hk:(X::Jw p g fs av m rest)[2]?=Z (M (Z ⟨fb,fo,A⟩) m.rows.length m.fc 206 5 (m.rows.flatMap sK)):=by rw[<-hf];rfl
   rw[dI];exact ek.cL hk (fB ke m.rows rest.length t 3 _ hg rfl)⟩
  rw[oC]at VR⊢;have SJ:bY k t.f.aB.length:=⟨I⟩;obtain⟨x,hx⟩:=bf t.f.aB k I;have ji:qy t.f.aB k x:=⟨hx⟩;refine aE ?_;refine sC rfl λw' ek=>⟨(),rfl,?_,trivial⟩;refine Wd.perm ?_ (Dv p g fs av _ rfl).symm;have e1:qM (t.set k n)=M (Z ⟨vb,vo,A⟩) t.f.aB.length t.c 3 1 ((t.f.aB.set k n).map (U O)):=by simp[qM,iz.set,mf.set,uD,oC]
  have e2:Jw p g fs av {m with rows:=rest++[t.set k n]} rest=Jw p g fs av m rest:=by simp only[Jw,uY,lx,kz,jx,kJ,gr,No,hlen]
  rw[e1,e2];exact ek
 ·have h0:¬0<=dst:=ax h1
  refine aH ?_;refine sC rfl λw' ek=>⟨(),rfl,?_,trivial⟩;have e:rest++[t.set dst n]=m.rows:=by rw[hr];simp[iz.set,mf.set,uD,h0]
  rw[e];exact ek
theorem wH{S:Nat->Prop}{wz:C}(p:Nat)(g fs av:V)(m:iG)(st:Int)(w:C)(hw:Wd S wz (dt p g fs av m) w):
  iC ae 131 [ar (Z ⟨p,0,A⟩),U O st] w λu w'=>∃_x:Unit,u=D false/\Wd S wz (dt p g fs av {m with state:=st}) w'/\True:=by
 refine kP func131 rfl ntmps131 rfl hw ?_;unfold dt uY;refine aE ?_;exact cE rfl λw' ek=>⟨(),rfl,ek,trivial⟩
section
variable {P:Program} {ro:Option Nat} {N:Nat} {ds:List Deferred} {S:Nat->Prop} {w0:C} {L:List (Nat×V)} {H:List bN} {ops:Array Oper} {rest:List Oper} {Q:Exit->Act->C->Prop} {x y:Operand}
theorem WB{d ty dT sT e jy dl dc sl sc:Nat}{akj:V}{da sa:Option Addr}{pos:String}{aft:Array Go.Edge}[h:cI P dT e 1 jy [akj]][hx:Ev L x (J da dl dc)][hy:Ev L y (J sa sl sc)](hd:dy d N L=true)(h0:min sl dl=0)
  (kk:aki N ds S w0 ((d,U O 0)::L) H (wpListIn (FW ro) 0 P ops Q rest)):aki N ds S w0 L H (wpListIn (FW ro) 0 P ops Q (⟨Z d,.call {callee:=.builtin .copy,args:=#[x,y],argTypes:=#[dT,sT]},ty,pos,aft,A⟩::rest)):=λa w hS=>by
 obtain⟨i,zz,hi,_,_,W7,_⟩:=h.get;have hr:=run_copy_none (P:=P) w dT sT ty e da sa dl dc sl sc h.qx (by rw[hi];simp[W7]) h0;refine ft (v:=.int O 0) (w':=w) rfl (λ_ h=>by cases h) ?_ (kk _ _ ⟨hS.fr.eo hd _,hS.wd⟩);simp[execOp,resolve,invoke,builtin,hx.eq _ _ _ hS.fr,hy.eq _ _ _ hS.fr,hr,goInt]
end
def l8(cs:List sM)(k b:Nat):List sM:=cs.modify k λr=>{r with l:=r.l.modify b (·+1)}
theorem Im{cs c1 c2:List sM}{r:sM}(h:cs=c1++r::c2)(aka:List bN)(X:List bN):(aka++(X++cs.map mQ)).Perm (mQ r::(aka++(X++(c1++c2).map mQ))):=by
 subst h;simp only[bz,bT];have h:=lD (l₁:=aka++X++c1.map mQ) (l₂:=c2.map mQ) (a:=mQ r);simpa[dz]using h
theorem Ib{c1 c2:List sM}{r:sM}{k b:Nat}(hk:c1.length=k):l8 (c1++r::c2) k b=c1++{r with l:=r.l.modify b (·+1)}::c2:=by
 subst hk;unfold l8
 induction c1 with
 |nil=>rfl
 |cons x l ih=>rw[gk,aW,List.modify_succ_cons,ih];rfl
theorem KZ(R:Nat):(eN R []).map (U O)=List.replicate R (U O 0):=by simp[eN]
theorem KY{R:Nat}{args:List Int}(h:args.length<=R):(List.replicate R (U O 0)).take 0++args.map (U O)++(List.replicate R (U O 0)).drop (0+(args.map (U O)).length)=(eN R args).map (U O):=by
 simp only[List.take_zero,aO,vX,aF,di,eN];rw[List.take_append,kh h,bz,List.take_replicate,List.map_replicate,iq I]
theorem KX{R:Nat}{args:List Int}:(eN R args).length=R:=by simp[eN]
theorem DH{α:Type}(q rv a b c d e:α)(F C1 C2:List α){Y:List α}(hY:Y=C1++C2):(q::rv::a::b::c::d::e::(F++Y)).Perm (a::b::c::d::e::((F++[rv])++(C1++q::C2))):=by
 subst hY;have h1:(q::rv::([a,b,c,d,e]++F++(C1++C2))).Perm (rv::([a,b,c,d,e]++F++(q::(C1++C2)))):=(List.Perm.swap _ _ _).trans ((List.perm_middle.symm).cons _);have h2:(rv::([a,b,c,d,e]++F++(q::(C1++C2)))).Perm ([a,b,c,d,e]++F++(rv::(q::(C1++C2)))):=List.perm_middle.symm;have h3:([a,b,c,d,e]++F++(rv::(q::(C1++C2)))).Perm ([a,b,c,d,e]++F++(rv::(C1++q::C2))):=List.Perm.append_left _ ((List.perm_middle.symm).cons _);have h:=(h1.trans h2).trans h3;simpa[dz]using h
theorem Ik(r:sM)(b:Nat):Ij {r with l:=r.l.modify b (·+1)}=Ij r:=by simp[Ij]
theorem L_{l:List Nat}{b x:Nat}(hx:l[b]?=Z x):l.modify b (·+1)=l.set b (x+1):=by
 apply ci;intro i;rw[mM,ez]
 by_cases e:b=i
 ·subst e
  have:=(az.1 hx).1;have h2:=(az.1 hx).2;simp[this,h2]
 ·simp[e]
theorem Ii{r:sM}{b x qb qo:Nat}(hx:r.l[b]?=Z x)(ha:r.a=Z ⟨qb,qo,A⟩):mQ {r with l:=r.l.modify b (·+1)}=M (Z ⟨qb,qo,A⟩) r.l.length r.c 3 1 ((r.l.set b (x+1)).map λx:Nat=>.int O x):=by
 simp only[mQ,List.length_modify,eL,ha,L_ hx]
theorem Jy{p:Nat}{g fs av:V}{m:iG}{c1 c2:List sM}{cr:sM}{fn R x rb nc qb qo cb co:Nat}{na:Option Addr}{args:List Int}{dst:Int}(hc:m.cs=c1++cr::c2)(h1:c1.length=fn)(hx:cr.l[0]?=Z x)(Dg:cr.a=Z ⟨qb,qo,A⟩)(IX:m.ca=Z ⟨cb,co,A⟩):
  (K p [g,fs,av,J m.ma m.mem.length m.mc,m.iv,U O m.state,U O m.value,J m.oa m.out.length m.oc,U O m.steps,J na (m.rows.length+1) nc,J (Z ⟨cb,co,A⟩) m.cs.length m.cc] 168::
   M na (m.rows.length+1) nc 206 5 (m.rows.flatMap sK++[U O fn,U O 0,U O 0,J (Z ⟨rb,0,A⟩) R R,U O dst])::kz m::jx m::M (Z ⟨cb,co,A⟩) m.cs.length m.cc 42 1 (m.cs.map Ij)::
   ((m.rows.map qM++[M (Z ⟨rb,0,A⟩) R R 3 1 ((eN R args).map (U O))])++(c1.map mQ++M (Z ⟨qb,qo,A⟩) cr.l.length cr.c 3 1 ((cr.l.set 0 (x+1)).map λx:Nat=>.int O x)::c2.map mQ))).Perm
   (dt p g fs av {m with fa:=na,fc:=nc,rows:=m.rows++[⟨⟨fn,0,0,eN R args,dst⟩,Z ⟨rb,0,A⟩,R⟩],cs:=l8 m.cs fn 0}):=by
 have e:l8 m.cs fn 0=c1++{cr with l:=cr.l.modify 0 (·+1)}::c2:=by rw[hc,Ib h1]
 have el:(l8 m.cs fn 0).length=m.cs.length:=by simp[l8]
 have ev:(l8 m.cs fn 0).map Ij=m.cs.map Ij:=by rw[e,hc];simp[Ik]
 have ee:(l8 m.cs fn 0).map mQ=c1.map mQ++M (Z ⟨qb,qo,A⟩) cr.l.length cr.c 3 1 ((cr.l.set 0 (x+1)).map λx:Nat=>.int O x)::c2.map mQ:=by rw[e];simp only[bz,bT,Ii hx Dg]
 simp only[dt,uY,lx,kz,jx,kJ,el,ev,ee,IX,bX,j_,iD,gZ,qC,cD,bz,bT,dn,sK,qM,KX];exact List.Perm.refl _
theorem M1{S:Nat->Prop}{wz:C}(e_:Clean S wz)(u:a8)(p:Nat)(g fs av:V)(Aj:aG wz fs 4 u.funcs gq)(m:iG)(hb:m.Bd)(fn:Nat)(X:aY)(hX:u.funcs[fn]?=Z X)(R:Nat)(hR:X.aB=R)(hR':R<=100)(dst:Int)(args:List Int)(aa:Option Addr)(an ac:Nat)(ri:aG wz (J aa an ac) 1 args fI)(zM:args.length<=R)(cr:sM)(CZ:m.cs[fn]?=Z cr)(HG:0<cr.l.length)(w:C)(hw:Wd S wz (dt p g fs av m) w):
  iC ae 129 [ar (Z ⟨p,0,A⟩),U O fn,U O dst,J aa an ac] w λu w'=>∃x:Option Addr×Nat×Option Addr×Nat,u=.tuple #[]/\
   Wd S wz (dt p g fs av {m with fa:=x.1,fc:=x.2.1,rows:=m.rows++[⟨⟨fn,0,0,eN R args,dst⟩,x.2.2.1,x.2.2.2⟩],cs:=l8 m.cs fn 0}) w'/\True:=by
 obtain⟨fa,fl,fc,fb,fo,rfl,Fm,aiO,aiN,Zp,vx,uU⟩:=Aj;obtain⟨cs,fT,bv,rfl,_,_,_⟩:=uU fn X hX;have Sx:fn<fl:=by rw[Fm];exact(az.1 hX).1
 have oW:bU fa fb fo:=⟨vx (aL hX)⟩;have hlf:bY fn fl:=⟨Sx⟩;have n_:a6 wz fb (fo+fn*4) _:=⟨fT⟩;have hold:eS S fb:=e_.old fT;have hnr:lB X.aB R:=⟨hR⟩;refine kP func129 rfl ntmps129 rfl hw ?_;unfold dt uY
 repeat(first|refine aU ?_|refine dZ λ_ _=>?_)
 rename_i rb _;obtain⟨HE,IQ,aaI,ab,ao,IN,Ad⟩:=ri.at;obtain⟨c1,c2,Sl,Pj⟩:∃c1 c2,m.cs=c1++cr::c2/\c1.length=fn:=⟨m.cs.take fn,m.cs.drop (fn+1),by
  rw[<-(az.1 CZ).2,List.getElem_cons_drop,q8],by rw[dd];have:=(az.1 CZ).1;omega⟩
 have Sp:fn<m.cs.length:=(az.1 CZ).1;obtain⟨x,hx⟩:=bf cr.l 0 HG;have hx9:=(hb.lF cr (aq CZ)).2 x (aq hx);have m_:=hb.steps;have hbr:=hb.rows;have od:=(hb.lF cr (aq CZ)).1;refine Or.elim (Classical.em (args=[])) (λh0=>?_) (λh0=>?_);have e0:List.replicate R (U O 0)=(eN R args).map (U O):=by rw[h0,KZ]
 refine WB rfl (by rw[h0]at HE;simp only[qD]at HE;omega) ?_;rw[e0];refine jQ (L':=[(8,J (Z ⟨rb,0,A⟩) R R),aj 0 p,(1,U O fn),(2,U O dst)]) ap (.refl _) ?_;rotate_left;rw[IN h0];refine Gy (b:=rb) (o:=0) (off:=0) 0 (args.map (U O)) rfl rfl (by rw[aF];omega) (λw hw j v hj=>?_) (by rw[aF,dm];omega) (λv hv=>by obtain⟨akj,_,rfl⟩:=aV.1 hv;rfl) ?_
 ·rw[aJ]at hj
  obtain⟨akj,hz,rfl⟩:=cA.1 hj;obtain⟨_,hc,rfl,_⟩:=Ad j akj hz;have h1:=hc 0 _ rfl;rw[f_,ef]at h1;exact e_.now hw _ _ h1
 simp only[bW];rw[KY zM];refine jQ (L':=[(8,J (Z ⟨rb,0,A⟩) R R),aj 0 p,(1,U O fn),(2,U O dst)]) ap (.refl _) ?_;rotate_left
 all_goals
  unfold lx kJ
  repeat(first|refine aU ?_|refine dZ λ_ _=>?_)
  rename_i bb _;refine gU 3 rfl rfl ai I I λna nc=>?_;simp only[cG,bW];refine aE ?_;refine fL 6 rfl I λcb co IX=>?_;have uR:bU m.ca cb co:=⟨IX⟩;have hlc:bY fn m.cs.length:=⟨Sp⟩;refine aU ?_;have jd:∀x1 x2 x3 x4 x5 x6:bN,fy (x1::x2::x3::x4::x5::x6::M (Z ⟨cb,co,A⟩) m.cs.length m.cc 42 1 (m.cs.map Ij)::(List.map qM m.rows++List.map mQ m.cs)) cb (co+fn*1) (J cr.a cr.l.length cr.c):=λ_ _ _ _ _ _=>⟨λ_ _ w' ek=>
   ek.cL (k:=6) rfl (by rw[f_,aJ,CZ];rfl)⟩
  rw[IX];refine aU ?_;refine bi (Im Sl [_,_,_,_,_,_,_] (List.map qM m.rows)) ?_;rw[show mQ cr=M cr.a cr.l.length cr.c 3 1 (cr.l.map λx:Nat=>.int O x)from rfl];refine fL 0 rfl HG λqb qo Dg=>?_;rw[Dg];have af6:qy cr.l 0 x:=⟨hx⟩;have BF:bY 0 cr.l.length:=⟨HG⟩;have hao:Cf (x:Int) 1:=⟨I,I⟩;refine aU ?_;rw[show(x:Int)+1=((x+1:Nat):Int) by omega];refine aE ?_;refine sC rfl λw' ek=>⟨(na,nc,Z ⟨rb,0,A⟩,R),rfl,?_,trivial⟩;simp only[aW,aO]at ek;have h1:=ek.sub (dM (.cons _ (.refl _)));have h2:=h1.perm (DH _ _ _ _ _ _ _ (m.rows.map qM) (c1.map mQ) (c2.map mQ) (by rw[bz]));have h3:=h2.perm (Jy (dst:=dst) (args:=args) Sl Pj hx Dg IX);simp only[dt,uY,lx,kJ,IX]at h3⊢;exact h3
def OP(w:C)(x:List (List Int))(cs:List V):Prop:=∃v,cs=[v]/\aG w v 1 x cN
theorem ze:u3 OP:=λ_ _ hc _ _ ⟨v,h1,h2⟩=>⟨v,h1,h2.le vH hc⟩
def mL(u:a8):List (List (List Int)):=u.funcs.map λX=>be X.blocks
structure acm(u:a8)(t:mf)(X:aY)(R:Nat):Prop where
 get:u.funcs[t.fn]?=Z X
 ok:fu R X.blocks
 aB:t.aB.length=R
theorem AO{α:Type}{l:List α}{i:Nat}{x:α}(h:l[i]?=Z x):l.take (i+1)=l.take i++[x]:=by rw[cz,h];rfl
def zl(t:mf)(k:Nat)(l:List ep):List Int:=l.map λq=>cK t (q.src.getD k iu)
theorem L5{p:Nat}{g fs av:V}{m:iG}{rest:List iz}{t:iz}(hr:m.rows=rest++[t]){c1 c2:List sM}{cr:sM}{to x qb qo cb co fb fo:Nat}(hc:m.cs=c1++cr::c2)(h1:c1.length=t.f.fn)(hx:cr.l[to]?=Z x)(Dg:cr.a=Z ⟨qb,qo,A⟩)(IX:m.ca=Z ⟨cb,co,A⟩)(hf:m.fa=Z ⟨fb,fo,A⟩)(rs:List Int)(hrs:rs.length=t.f.aB.length):
  (K p [g,fs,av,J m.ma m.mem.length m.mc,m.iv,U O m.state,U O m.value,J m.oa m.out.length m.oc,U O m.steps,J (Z ⟨fb,fo,A⟩) m.rows.length m.fc,J (Z ⟨cb,co,A⟩) m.cs.length m.cc] 168::
   M (Z ⟨fb,fo,A⟩) m.rows.length m.fc 206 5 ((rest++[(⟨{t.f with aB:=rs,block:=to,at':=0},t.a,t.c⟩:iz)]).flatMap sK)::kz m::jx m::M (Z ⟨cb,co,A⟩) m.cs.length m.cc 42 1 (m.cs.map Ij)::
   ((rest.map qM++[M t.a t.f.aB.length t.c 3 1 (rs.map (U O))])++(c1.map mQ++M (Z ⟨qb,qo,A⟩) cr.l.length cr.c 3 1 ((cr.l.set to (x+1)).map λx:Nat=>.int O x)::c2.map mQ))).Perm
   (dt p g fs av {m with rows:=rest++[⟨{t.f with aB:=rs,block:=to,at':=0},t.a,t.c⟩],cs:=l8 m.cs t.f.fn to}):=by
 have e:l8 m.cs t.f.fn to=c1++{cr with l:=cr.l.modify to (·+1)}::c2:=by rw[hc,Ib h1]
 have el:(l8 m.cs t.f.fn to).length=m.cs.length:=by simp[l8]
 have ev:(l8 m.cs t.f.fn to).map Ij=m.cs.map Ij:=by rw[e,hc];simp[Ik]
 have ee:(l8 m.cs t.f.fn to).map mQ=c1.map mQ++M (Z ⟨qb,qo,A⟩) cr.l.length cr.c 3 1 ((cr.l.set to (x+1)).map λx:Nat=>.int O x)::c2.map mQ:=by rw[e];simp only[bz,bT,Ii hx Dg]
 have er:m.rows.length=rest.length+1:=by rw[hr];simp
 simp only[dt,uY,lx,kz,jx,kJ,el,ev,ee,er,IX,hf,bX,j_,bz,bT,dn,qM,hrs];exact List.Perm.refl _
theorem abM{S:Nat->Prop}{wz:C}(e_:Clean S wz)(u:a8)(p:Nat)(g fs av:V)(Aj:aG wz fs 4 u.funcs gq)(Ag:aG wz av 1 (mL u) OP)(m:iG)(hb:m.Bd){rest:List iz}{t:iz}(hr:m.rows=rest++[t])(X:aY)(R:Nat)(hX:acm u t.f X R)(gF:X.blocks.length<=100)(to:Nat)(T:E)(hT:X.blocks[to]?=Z T)(hed:t.f.block∈aZ X.blocks to)(xH:T.aD.length<=1000)(cr:sM)(CZ:m.cs[t.f.fn]?=Z cr)(HG:to<cr.l.length)(w:C)(hw:Wd S wz (dt p g fs av m) w):
  iC ae 172 [ar (Z ⟨p,0,A⟩),U O to] w λu' w'=>∃_x:Unit,u'=.tuple #[]/\
   Wd S wz (dt p g fs av {m with rows:=rest++[⟨{t.f with aB:=jp t.f ((aZ X.blocks to).idxOf t.f.block) T.aD,block:=to,at':=0},t.a,t.c⟩],cs:=l8 m.cs t.f.fn to}) w'/\True:=by
 have hXi:=hX.get;have hlen:m.rows.length=rest.length+1:=by rw[hr];simp
 obtain⟨_,fb,fo,hf,_⟩:=wq (H:=[]) (by rw[cD];exact hw) hb hr;obtain⟨ua,ul,uc,ub,uo,rfl,hul,aht,ahs,huc,hua,abE⟩:=Aj;obtain⟨cs,fT,bv,rfl,_,_,Ai⟩:=abE t.f.fn X hXi;have Sx:t.f.fn<ul:=by rw[hul];exact(az.1 hXi).1
 have oW:bU ua ub uo:=⟨hua (aL hXi)⟩;have hlf:bY t.f.fn ul:=⟨Sx⟩;have n_:a6 wz ub (uo+t.f.fn*4) _:=⟨fT⟩;have hold:eS S ub:=e_.old fT;obtain⟨ba,bn,bc,bb,bo,rfl,pR,aaP,aaO,Pg,yh,EG⟩:=Ai;obtain⟨_,hTc,pv,lv,tv,rfl,_,_,Jc,_,_⟩:=EG to T hT;have zP:to<bn:=by rw[pR];exact(az.1 hT).1
 have uR:bU ba bb bo:=⟨yh (aL hT)⟩;have bS:bY to bn:=⟨zP⟩;have tX:a6 wz bb (bo+to*6) _:=⟨hTc⟩;have nw:eS S bb:=e_.old hTc;obtain⟨pa,pn,pc,pb,po,rfl,Fs,ag3,SX,hpc,hpa,Lv⟩:=Jc;obtain⟨aa,al,ac,ab,ao,rfl,zM,ais,air,Zf,IN,Ad⟩:=Ag;have hAi:(mL u)[t.f.fn]?=Z (be X.blocks):=by unfold mL;rw[aJ,hXi];rfl
 obtain⟨_,hAc,rv,rfl,y7⟩:=Ad t.f.fn _ hAi;have Li:bU aa ab ao:=⟨IN (aL hAi)⟩;have ai4:bY t.f.fn al:=⟨by rw[zM];exact(az.1 hAi).1⟩;have I0:a6 wz ab (ao+t.f.fn*1) _:=⟨hAc⟩;have xg:eS S ab:=e_.old hAc;obtain⟨ra,rl,rc,rb,ro,rfl,rR,ajJ,ajI,Q8,Q7,hrel⟩:=y7;have gr:=gu hX.ok.iM (λb B hB=>(hX.ok.block b B hB).to) (t:=to) (by rw[<-pR];exact zP);obtain⟨_,hRc,wv,rfl,hwv⟩:=hrel to _ gr;have afy:bU ra rb ro:=⟨Q7 (aL gr)⟩;have abe:bY to rl:=⟨by rw[rR];exact(az.1 gr).1⟩;have afR:a6 wz rb (ro+to*1) _:=⟨hRc⟩;have y6:eS S rb:=e_.old hRc;obtain⟨k,hk⟩:∃k,(aZ X.blocks to).idxOf t.f.block=k:=⟨_,rfl⟩;rw[hk];refine kP func172 rfl ntmps172 rfl hw ?_;refine aU ?_;refine bB rfl (λw hw=>(AS (H:=[]) (by rw[cD];exact hw) hb hr hf).D8) ?_;rw[hlen,Nat.add_sub_cancel];refine aU ?_;have VR:∀j v,(sK t)[j]?=Z v->∀X:List bN,fy (dt p g (J ua ul uc) (J aa al ac) m++X) fb (fo+rest.length*5+j) v:=λj v hj X=>⟨λ_ _ w' ek=>by
  have hg:m.rows[rest.length]?=Z t:=by rw[hr];simp
  have hk:(dt p g (J ua ul uc) (J aa al ac) m++X)[1]?=Z (M (Z ⟨fb,fo,A⟩) m.rows.length m.fc 206 5 (m.rows.flatMap sK)):=by rw[<-hf];rfl
  rw[dI];exact ek.cL hk (fB ke m.rows rest.length t j _ hg hj)⟩
 have Em:=VR 0 _ rfl [];have Pj:=VR 1 _ rfl [];simp only[cD,dt,uY]at Em Pj;unfold dt uY
 skip
 refine jj mixed aR ?_;refine iH ?_;refine pu rfl (λw hw=>B5 _ (aZ X.blocks to) t.f.block w hed (hwv.le lM (e_.now hw))) ?_;rw[hk];refine iH ?_;refine aU ?_;refine jj mixed aR ?_;refine iH ?_;refine aH ?_;have u2:k<(aZ X.blocks to).length:=by rw[<-hk];exact ju hed
 have hTo:=hX.ok.block to T hT;have Tb:t∈m.rows:=by rw[hr];simp
 obtain⟨ajH,Xl,_⟩:=hb.aB t Tb;have t_:∀w,Wd S wz (dt p g (J ua ul uc) (J aa al ac) m) w->u6 w p fb fo m.rows.length t:=λw hw=>AS (H:=[]) (by rw[cD];exact hw) hb hr hf;have ajW:∀q∈T.aD,dk (cK t.f (q.src.getD k iu)):=λq hq=>by
  have hl:=(hTo.aD q hq).len;obtain⟨v,hv⟩:=bf q.src k I;have hg:q.src.getD k iu=v:=by rw[cB,hv];rfl
  rw[hg];unfold cK
  split
  ·rename_i h
   obtain⟨h0,h1⟩:=(hTo.aD q hq).uJ v (aq hv) h;rw[<-hX.aB]at h1;rw[cB,a_ I,dW];exact Xl _ (j9 _)
  ·obtain⟨i,hi⟩:=bg hq
   obtain⟨_,_,sv,rfl,_,ny⟩:=Lv i q hi;obtain⟨_,_,_,_,_,_,_,_,_,_,_,abB⟩:=ny;obtain⟨_,_,_,h2⟩:=abB k v hv;exact h2
 refine fU 3 1 ?_;refine bL (λx:Nat×Option Addr×Nat=>x.1<=T.aD.length) (λx=>[(50,U O x.1),(7,J x.2.1 x.1 x.2.2),(48,J pa pn pc),(49,U O pn),(6,J pa pn pc),(5,U O k),(4,ar (Z ⟨fb,fo+rest.length*5,A⟩)),aj 0 p,(1,U O to)]) (λx=>M x.2.1 x.1 x.2.2 3 1 ((zl t.f k (T.aD.take x.1)).map (U O))::K p [g,J ua ul uc,J aa al ac,J m.ma m.mem.length m.mc,m.iv,U O m.state,U O m.value,J m.oa m.out.length m.oc,U O m.steps,J m.fa m.rows.length m.fc,J m.ca m.cs.length m.cc] 168::lx m::kz m::jx m::kJ m::(List.map qM m.rows++List.map mQ m.cs)) (λx=>T.aD.length-x.1) (0,A,0) (aT _) (aS ap aK) λx hi=>?_;obtain⟨i,na,nc⟩:=x;simp only at hi⊢;refine aU ?_;refine aI (λh1=>?_) (λh1=>?_)
 ·have abd:i<pn:=ax h1
  obtain⟨q,hq⟩:=bf T.aD i I;have EL:=hTo.aD q (aq hq);obtain⟨v,hv⟩:=bf q.src k (by rw[EL.len];exact u2);obtain⟨_,ZM,sv,rfl,_,ny⟩:=Lv i q hq;obtain⟨sa,sn,sc,sb,so,rfl,hsn,_,_,_,hsa,abB⟩:=ny;obtain⟨_,ZX,rfl,HM⟩:=abB k v hv;have afA:bU pa pb po:=⟨hpa (aL hq)⟩;have agz:bY i pn:=⟨abd⟩;have ado:a6 wz pb (po+i*2) _:=⟨ZM⟩;have ad3:eS S pb:=e_.old ZM;have afB:bU sa sb so:=⟨hsa (aL hv)⟩;have ai9:bY k sn:=⟨by rw[hsn];exact(az.1 hv).1⟩;have aiI:a6 wz sb (so+k*2) _:=⟨ZX⟩;have holds:eS S sb:=e_.old ZX;have BH:jb t.f.aB.length v:=by rw[hX.aB];exact EL.uJ v (aq hv)
  repeat(first|refine aE ?_|refine dZ λ_ _=>?_)
  refine bB rfl (λw hw=>AV (t_ w (hw.sub (.cons _ (.cons _ (.refl _))))) v BH) ?_
  repeat(first|refine dZ λ_ _=>?_)
  rename_i b9 _ bb9 _;refine gU 2 rfl rfl ai I I λT0 T4=>?_;simp only[cG,bW];refine aH ?_;refine bj (i+1,T0,T4) bK bK ap ?_;rw[AO hq];simp only[zl,bz,bT,dn,cB,hv,dW];exact List.Sublist.cons _ (.cons _ (.refl _))
 ·have gP:i=T.aD.length:=by have:=h1;simp at this;omega
  subst gP;rw[cQ];refine aE ?_;refine bi ((List.Perm.cons _ (Dv p g (J ua ul uc) (J aa al ac) m hr)).trans (List.Perm.swap _ _ _)) ?_;unfold Jw uY;have Lm:m.rows[rest.length]?=Z t:=by rw[hr];simp
  have abk:fy (K p [g,J ua ul uc,J aa al ac,J m.ma m.mem.length m.mc,m.iv,U O m.state,U O m.value,J m.oa m.out.length m.oc,U O m.steps,J m.fa m.rows.length m.fc,J m.ca m.cs.length m.cc] 168::lx m::kz m::jx m::kJ m::(List.map qM rest++List.map mQ m.cs)) fb (fo+rest.length*5+3) (J t.a t.f.aB.length t.c):=⟨λ_ _ w' ek=>by
   have hk:(K p [g,J ua ul uc,J aa al ac,J m.ma m.mem.length m.mc,m.iv,U O m.state,U O m.value,J m.oa m.out.length m.oc,U O m.steps,J m.fa m.rows.length m.fc,J m.ca m.cs.length m.cc] 168::lx m::kz m::jx m::kJ m::(List.map qM rest++List.map mQ m.cs))[1]?=Z (M (Z ⟨fb,fo,A⟩) m.rows.length m.fc 206 5 (m.rows.flatMap sK)):=by rw[<-hf];rfl
   rw[dI];exact ek.cL hk (fB ke m.rows rest.length t 3 _ Lm rfl)⟩
  generalize hnx:zl t.f k T.aD=nx at*;have Eo:nx.length=T.aD.length:=by rw[<-hnx];simp[zl]
  have Di:∀j,((T.aD.take j).foldl (λaB q=>aB.set q.dst.toNat (cK t.f (q.src.getD k iu))) t.f.aB).length=t.f.aB.length:=λj=>by
   generalize T.aD.take j=l;generalize t.f.aB=rs
   induction l generalizing rs with
   |nil=>rfl
   |cons q l ih=>rw[gj,ih,eL]
  refine bL (λj:Nat=>j<=T.aD.length) (λj=>[(67,U O j),(65,J pa pn pc),(66,U O pn),(7,J na T.aD.length nc),(6,J pa pn pc),(5,U O k),(4,ar (Z ⟨fb,fo+rest.length*5,A⟩)),aj 0 p,(1,U O to)])
   (λj=>M t.a t.f.aB.length t.c 3 1 (((T.aD.take j).foldl (λaB q=>aB.set q.dst.toNat (cK t.f (q.src.getD k iu))) t.f.aB).map (U O))::M na T.aD.length nc 3 1 (nx.map (U O))::K p [g,J ua ul uc,J aa al ac,J m.ma m.mem.length m.mc,m.iv,U O m.state,U O m.value,J m.oa m.out.length m.oc,U O m.steps,J m.fa m.rows.length m.fc,J m.ca m.cs.length m.cc] 168::lx m::kz m::jx m::kJ m::(List.map qM rest++List.map mQ m.cs)) (λj=>T.aD.length-j) 0 (aT _) (aS ap aK) λj hj=>?_
  refine aU ?_;refine aI (λh2=>?_) (λh2=>?_)
  ·have jw:j<pn:=ax h2
   obtain⟨q,hq⟩:=bf T.aD j I;have EL:=hTo.aD q (aq hq);obtain⟨hd0,hd1⟩:=EL.dst;rw[<-hX.aB]at hd1;obtain⟨d,hd⟩:∃d:Nat,q.dst=d:=⟨q.dst.toNat,I⟩;obtain⟨_,ZM,sv,rfl,_,ny⟩:=Lv j q hq;obtain⟨sa,sn,sc,sb,so,rfl,hsn,_⟩:=ny;have afA:bU pa pb po:=⟨hpa (aL hq)⟩;have agz:bY j pn:=⟨jw⟩;have ado:a6 wz pb (po+j*2) _:=⟨ZM⟩;have ad3:eS S pb:=e_.old ZM;generalize hrs:(T.aD.take j).foldl (λaB q=>aB.set q.dst.toNat (cK t.f (q.src.getD k iu))) t.f.aB=rs at*;have ajN:rs.length=t.f.aB.length:=by rw[<-hrs];exact Di j
   refine fL 0 rfl I λvb vo oC=>?_;refine fL 1 rfl I λnb no hna=>?_;subst hna;rw[oC]at abk;rw[oC];have ajl:lB q.dst d:=⟨hd⟩;have hld:bY d t.f.aB.length:=⟨I⟩;have Lr:bY j T.aD.length:=⟨I⟩;obtain⟨y,hy⟩:=bf rs d I;have agb:qy rs d y:=⟨hy⟩;have aiK:qy nx j (cK t.f (q.src.getD k iu)):=⟨by rw[<-hnx];unfold zl;rw[aJ,hq];rfl⟩
   repeat(first|refine aE ?_|refine dZ λ_ _=>?_)
   rename_i b11 _;refine tS (K b11 [U O q.dst,J sa sn sc] 49::M (Z ⟨nb,no,A⟩) T.aD.length nc 3 1 (nx.map (U O))::K p [g,J ua ul uc,J aa al ac,J m.ma m.mem.length m.mc,m.iv,U O m.state,U O m.value,J m.oa m.out.length m.oc,U O m.steps,J m.fa m.rows.length m.fc,J m.ca m.cs.length m.cc] 168::lx m::kz m::jx m::kJ m::(List.map qM rest++List.map mQ m.cs)) mixed aw ?_;refine ag 0 ?_;refine ag 1 ?_;refine ag 2 ?_;refine ag 3 ?_;refine ag 4 ?_;refine ag 5 ?_;refine ag 6 ?_;refine ag 7 ?_;refine ag 8 ?_;refine ag 9 ?_;refine ag 10 ?_;refine kX 11 ai ai aw ?_;refine aH ?_;refine bj (j+1) I I ap ?_;rw[AO hq,pF,hrs];simp only[gj,List.foldl_nil,hd,dO];exact List.Sublist.cons _ (.refl _)
  ·have gP:j=T.aD.length:=by have:=h2;simp at this;omega
   subst gP;rw[cQ,show T.aD.foldl (λaB q=>aB.set q.dst.toNat (cK t.f (q.src.getD k iu))) t.f.aB=jp t.f k T.aD from rfl];have hrs:(jp t.f k T.aD).length=t.f.aB.length:=by have:=Di T.aD.length;rw[cQ]at this;exact this
   generalize jp t.f k T.aD=rs at*;obtain⟨t1,ht1⟩:∃t1:iz,t1=⟨{t.f with aB:=rs,block:=to},t.a,t.c⟩:=⟨_,rfl⟩;obtain⟨t2,LD⟩:∃t2:iz,t2=⟨{t.f with aB:=rs,block:=to,at':=0},t.a,t.c⟩:=⟨_,rfl⟩;rw[<-LD];have ah6:mV (m.rows.flatMap sK) (rest.length*5+1) (U O (to:Int)) ((rest++[t1]).flatMap sK):=⟨by
    rw[gN ke Lm (k:=1) I (y:=t1) (by rw[ht1];simp[sK,hrs]),hr,my _ _ (bG _),dN,bW],by rw[cj ke];omega⟩
   have hg3:(rest++[t1])[rest.length]?=Z t1:=by simp
   have ah7:mV ((rest++[t1]).flatMap sK) (rest.length*5+2) (U O (0:Int)) ((rest++[t2]).flatMap sK):=⟨by
    rw[gN ke hg3 (k:=2) I (y:=t2) (by rw[ht1,LD];simp[sK]),my _ _ (bG _),dN,bW],by rw[cj ke];simp;omega⟩
   unfold lx;rw[hf];have ZJ:∀(xs:List V) (aka B akh:bN) (Y:List bN) (j:Nat),oI (aka::B::akh::M (Z ⟨fb,fo,A⟩) m.rows.length m.fc 206 5 xs::Y) fb (fo+rest.length*5+j) 3 fo (rest.length*5+j) m.rows.length m.fc 206 5 xs:=λ_ _ _ _ _ _=>⟨rfl,I⟩;refine aE ?_;obtain⟨c1,c2,Sl,Pj⟩:∃c1 c2,m.cs=c1++cr::c2/\c1.length=t.f.fn:=⟨m.cs.take t.f.fn,m.cs.drop (t.f.fn+1),by
    rw[<-(az.1 CZ).2,List.getElem_cons_drop,q8],by rw[dd];have:=(az.1 CZ).1;omega⟩
   have Sp:t.f.fn<m.cs.length:=(az.1 CZ).1;obtain⟨x,hx⟩:=bf cr.l to HG;have hx9:=(hb.lF cr (aq CZ)).2 x (aq hx);have m_:=hb.steps;unfold kJ;refine jQ (L':=[(4,ar (Z ⟨fb,fo+rest.length*5,A⟩)),aj 0 p,(1,U O to)]) ap (dM (.cons _ (.refl _))) ?_;refine fL 5 rfl I λcb co IX=>?_;rw[IX];refine bi (Im Sl [_,_,_,_,_,_] (List.map qM rest)) ?_;rw[show mQ cr=M cr.a cr.l.length cr.c 3 1 (cr.l.map λx:Nat=>.int O x)from rfl];refine fL 0 rfl I λqb qo Dg=>?_;rw[Dg];simp only[aW,aO];have jd:fy (M t.a t.f.aB.length t.c 3 1 (rs.map (U O))::K p [g,J ua ul uc,J aa al ac,J m.ma m.mem.length m.mc,m.iv,U O m.state,U O m.value,J m.oa m.out.length m.oc,U O m.steps,J (Z ⟨fb,fo,A⟩) m.rows.length m.fc,J (Z ⟨cb,co,A⟩) m.cs.length m.cc] 168::M (Z ⟨fb,fo,A⟩) m.rows.length m.fc 206 5 ((rest++[t2]).flatMap sK)::kz m::jx m::M (Z ⟨cb,co,A⟩) m.cs.length m.cc 42 1 (m.cs.map Ij)::(List.map qM rest++List.map mQ (c1++c2))) cb (co+t.f.fn*1) (J (Z ⟨qb,qo,A⟩) cr.l.length cr.c):=⟨λ_ _ w' ek=>
    ek.cL (k:=5) rfl (by rw[f_,aJ,CZ,<-Dg];rfl)⟩
   have afQ:fy (M t.a t.f.aB.length t.c 3 1 (rs.map (U O))::K p [g,J ua ul uc,J aa al ac,J m.ma m.mem.length m.mc,m.iv,U O m.state,U O m.value,J m.oa m.out.length m.oc,U O m.steps,J (Z ⟨fb,fo,A⟩) m.rows.length m.fc,J (Z ⟨cb,co,A⟩) m.cs.length m.cc] 168::M (Z ⟨fb,fo,A⟩) m.rows.length m.fc 206 5 ((rest++[t2]).flatMap sK)::kz m::jx m::M (Z ⟨cb,co,A⟩) m.cs.length m.cc 42 1 (m.cs.map Ij)::(List.map qM rest++List.map mQ (c1++c2))) fb (fo+rest.length*5) (U O (t.f.fn:Nat)):=⟨λ_ _ w' ek=>by
    have h5:=ek.cL (k:=2) rfl (fB ke (rest++[t2]) rest.length t2 0 _ aC rfl);rw[LD]at h5;exact h5⟩
   have ail:bU (Z (⟨cb,co,A⟩:Addr)) cb co:=⟨rfl⟩;have hlc:bY t.f.fn m.cs.length:=⟨Sp⟩;have Pt:bY to cr.l.length:=⟨HG⟩;have hao:Cf (x:Int) 1:=⟨I,I⟩;have af6:qy cr.l to x:=⟨hx⟩;have nK:mV (cr.l.map λx:Nat=>U O x) (to*1) (U O ((x:Int)+1)) ((cr.l.set to (x+1)).map λx:Nat=>.int O x):=⟨by
    rw[f_,eM];congr 1,by rw[aF];omega⟩
   refine dQ [] (λ_:Unit=>True) (λ_=>[aj 0 p]) (λ_=>M (Z ⟨qb,qo,A⟩) cr.l.length cr.c 3 1 ((cr.l.set to (x+1)).map λx:Nat=>.int O x)::M t.a t.f.aB.length t.c 3 1 (rs.map (U O))::K p [g,J ua ul uc,J aa al ac,J m.ma m.mem.length m.mc,m.iv,U O m.state,U O m.value,J m.oa m.out.length m.oc,U O m.steps,J (Z ⟨fb,fo,A⟩) m.rows.length m.fc,J (Z ⟨cb,co,A⟩) m.cs.length m.cc] 168::M (Z ⟨fb,fo,A⟩) m.rows.length m.fc 206 5 ((rest++[t2]).flatMap sK)::kz m::jx m::M (Z ⟨cb,co,A⟩) m.cs.length m.cc 42 1 (m.cs.map Ij)::(List.map qM rest++List.map mQ (c1++c2))) mixed aw ?_ λ_ _=>?_
   ·skip
    refine ag 0 ?_;refine ag 1 ?_;refine ag 2 ?_;refine ag 4 ?_;refine ag 5 ?_;refine ag 6 ?_;refine ag 10 ?_;refine lm 3 7 ai ?_ ?_
    ·refine fO 3 rfl aw ?_
     refine cm 7 ai (fO 7 rfl aw ?_);refine ag 8 ?_;refine cm 9 ai (fO 9 rfl aw ?_);refine ag 11 ?_;refine cm 12 ai (fO 12 rfl aw ?_);refine ag 13 ?_;refine ag 14 ?_;refine cm 15 ai (mG 15 aw ?_);refine eA ai ?_;exact dS () trivial ap aK
    ·refine fO 7 rfl aw ?_
     refine cm 3 ai (fO 3 rfl aw ?_);refine ag 8 ?_;refine cm 9 ai (fO 9 rfl aw ?_);refine ag 11 ?_;refine cm 12 ai (fO 12 rfl aw ?_);refine ag 13 ?_;refine ag 14 ?_;refine cm 15 ai (mG 15 aw ?_);refine eA ai ?_;exact dS () trivial ap aK
   skip
   refine sC rfl λw' ek=>⟨(),rfl,?_,trivial⟩;have h2:=ek.perm (DH _ _ _ _ _ _ _ (rest.map qM) (c1.map mQ) (c2.map mQ) (by rw[bz]));subst LD;have h3:=h2.perm (L5 hr Sl Pj hx Dg IX hf rs hrs);simp only[dt,uY,lx,kJ,IX,hf]at h3⊢;exact h3
end
end
end Go.Proofs.YthfhgolkafpmnaaGreatDoor
