/- Texts joined: RunB RunC RunD. -/
import Derived.Test.YthfhgolkafpmnaaGreatDoorGF
import Derived.Test.YthfhgolkafpmnaaGreatDoorGM
import Derived.Test.YthfhgolkafpmnaaGreatDoorHA
namespace Go.Proofs.YthfhgolkafpmnaaGreatDoor
section
open Go Go.RowKit
attribute [local irreducible] wpListIn Code.wpIn Exit.then Exit.inBlock bodyPost wpQuiet wpAnyIn wpAnyH bodyPostM gX
set_option maxHeartbeats 8000000
instance ae6{P:Program}{N:Nat}{ds:List Deferred}{S:Nat->Prop}{w0:World}{L:List (Nat×Value)}{H:List bN}{x:Operand}{p:Addr}[hx:Ev L x (.pointer (some p))]:dz P N ds S w0 L H (.nilCheck x) (.pointer (some p)):=
 ⟨λ_ h=>(by cases h),λ_ _ h=>(by cases h),λ_ _ _ _ _ a w hF _=>by simp[execOp,hx.eq _ _ _ hF]⟩
structure gL where
 f:k7
 a:Option Addr
 c:Nat
structure qT where
 a:Option Addr
 c:Nat
 l:List Nat
def qR(r:gL):List Value:=[.int .i64 r.f.fn,.int .i64 r.f.block,.int .i64 r.f.at',.slice r.a r.f.aF.length r.c,.int .i64 r.f.dst]
def oV(r:gL):bN:=ai r.a r.f.aF.length r.c 3 1 (r.f.aF.map (.int .i64))
def Fz(r:qT):Value:=.slice r.a r.l.length r.c
def lH(r:qT):bN:=ai r.a r.l.length r.c 3 1 (r.l.map λx:Nat=>.int .i64 x)
theorem jv(r:gL):(qR r).length=5:=rfl
structure gQ where
 ma:Option Addr
 mc:Nat
 mem:List Int
 iv:Value
 cX:List Int
 state:Int
 value:Int
 oa:Option Addr
 oc:Nat
 out:List Int
 steps:Nat
 fa:Option Addr
 fc:Nat
 rows:List gL
 ca:Option Addr
 cc:Nat
 cs:List qT
def sQ(p:Nat)(g fs av:Value)(m:gQ):bN:=aj p [g,fs,av,.slice m.ma m.mem.length m.mc,m.iv,.int .i64 m.state,.int .i64 m.value,.slice m.oa m.out.length m.oc,.int .i64 m.steps,.slice m.fa m.rows.length m.fc,.slice m.ca m.cs.length m.cc] 168
def jF(m:gQ):bN:=ai m.ma m.mem.length m.mc 3 1 (m.mem.map (.int .i64))
def iO(m:gQ):bN:=ai m.oa m.out.length m.oc 3 1 (m.out.map (.int .i64))
def kp(m:gQ):bN:=ai m.fa m.rows.length m.fc 206 5 (m.rows.flatMap qR)
def jO(m:gQ):bN:=ai m.ca m.cs.length m.cc 42 1 (m.cs.map Fz)
def c_(p:Nat)(g fs av:Value)(m:gQ):List bN:=sQ p g fs av m::kp m::jF m::iO m::jO m::(m.rows.map oV++m.cs.map lH)
structure gQ.Bd(m:gQ):Prop where
 rows:m.rows.length<=1000
 aF:∀r∈m.rows,r.f.aF.length<=1000/\(∀x∈r.f.aF,c9 x)/\c9 r.f.dst
 mem:m.mem.length<=100000/\∀x∈m.mem,c9 x
 out:m.out.length<=1000/\∀x∈m.out,c9 x
 cs:m.cs.length<=1000
 kB:∀r∈m.cs,r.l.length<=1000/\∀x∈r.l,x<=m.steps+1
 steps:m.steps<=1000000
theorem uu{S:Nat->Prop}{wz w:World}{p:Nat}{g fs av:Value}{m:gQ}{H:List bN}(hw:Wd S wz (c_ p g fs av m++H) w)(hb:m.Bd){rest:List gL}{t:gL}(hr:m.rows=rest++[t]):
  bG w p 0 [g,fs,av,.slice m.ma m.mem.length m.mc,m.iv,.int .i64 m.state,.int .i64 m.value,.slice m.oa m.out.length m.oc,.int .i64 m.steps,.slice m.fa m.rows.length m.fc,.slice m.ca m.cs.length m.cc]/\∃fb fo,m.fa=some ⟨fb,fo,none⟩/\bG w fb (fo+rest.length*5) (qR t)/\aM w (.slice t.a t.f.aF.length t.c) 1 t.f.aF fj:=by
 have h0:bG w p 0 [g,fs,av,.slice m.ma m.mem.length m.mc,m.iv,.int .i64 m.state,.int .i64 m.value,.slice m.oa m.out.length m.oc,.int .i64 m.steps,.slice m.fa m.rows.length m.fc,.slice m.ca m.cs.length m.cc]:=λj v hj=>by rw[dM];exact hw.mj 0 rfl hj
 obtain⟨h1,h2⟩:=hw.get (k:=1) (e:=kp m) rfl;have hlen:m.rows.length=rest.length+1:=by rw[hr];simp
 rcases h2 with⟨_,h3,_⟩|⟨fb,pre,sp,h3,_⟩
 ·omega
 refine⟨h0,fb,pre.length,h3,?_,?_⟩
 ·intro j v hj
  have hg:m.rows[rest.length]?=some t:=by rw[hr];simp
  have hk:(c_ p g fs av m++H)[1]?=some (ai (some ⟨fb,pre.length,none⟩) m.rows.length m.fc 206 5 (m.rows.flatMap qR)):=by rw[<-h3];rfl
  rw[dA];exact hw.cK hk (fy jv m.rows rest.length t j v hg hj)
 ·have hm:t∈m.rows:=by rw[hr];simp
  obtain⟨hl,hx,_⟩:=hb.aF t hm;obtain⟨k,hk⟩:=br (show oV t∈c_ p g fs av m++H by unfold c_;simp only[bL,bJ,aX];exact .inl (.inr (.inr (.inr (.inr (.inr (.inl ⟨t,hm,rfl⟩)))))));refine hw.nC hk rfl ag λi x hi=>⟨[.int .i64 x],λj v hj=>?_,rfl,hx x (aA hi)⟩
  match j,hj with
  |0,hj=>simpa[hi]using hj
theorem BU(p fb fo n c:Nat)(g fs av mv iv st va ov sv cv:Value)(w0:World)(hn:0<n)(NB:n<=1000)(h:bG w0 p 0 [g,fs,av,mv,iv,st,va,ov,sv,.slice (some ⟨fb,fo,none⟩) n c,cv]):
  fi Tryz.prog 157 [.pointer (some ⟨p,0,none⟩)] w0 (.pointer (some ⟨fb,fo+(n-1)*5,none⟩)):=by
 refine aQ Tryz.func157 rfl Tryz.ntmps157 rfl (Wd.nil dh w0) ?_;have oQ:a_ w0 p 0 _:=⟨h⟩;have mW:bZ (n-1) n:=⟨ag⟩;have XD:ky ((n:Int)-1) (n-1):=⟨ag⟩;refine aU ?_;refine kE mixed aP ?_;refine j9 ?_;refine aO ?_;exact bQ rfl rfl
structure sW(w:World)(p fb fo n:Nat)(t:gL):Prop where
 box:∃(g fs av mv iv st va ov sv cv:Value) (c:Nat),bG w p 0 [g,fs,av,mv,iv,st,va,ov,sv,.slice (some ⟨fb,fo,none⟩) n c,cv]
 bF:bG w fb (fo+(n-1)*5) (qR t)
 aF:aM w (.slice t.a t.f.aF.length t.c) 1 t.f.aF fj
 pos:0<n
 le:n<=1000
theorem yG{S:Nat->Prop}{wz w:World}{p:Nat}{g fs av:Value}{m:gQ}{H:List bN}(hw:Wd S wz (c_ p g fs av m++H) w)(hb:m.Bd){rest:List gL}{t:gL}(hr:m.rows=rest++[t]){fb fo:Nat}(hf:m.fa=some ⟨fb,fo,none⟩):sW w p fb fo m.rows.length t:=by
 obtain⟨h0,fb',fo',h1,h2,h3⟩:=uu hw hb hr;rw[hf]at h1;obtain⟨rfl,rfl⟩:fb=fb'/\fo=fo':=by simpa using h1
 have hlen:m.rows.length=rest.length+1:=by rw[hr];simp
 have:=hb.rows;exact⟨⟨_,_,_,_,_,_,_,_,_,_,_,by rw[<-hf];exact h0⟩,by rw[hlen];exact h2,h3,ag,ag⟩
theorem sW.cE{w w':World}{p fb fo n:Nat}{t:gL}(h:sW w p fb fo n t)(hc:lL dh w w'):sW w' p fb fo n t:=by
 obtain⟨⟨g,fs,av,mv,iv,st,va,ov,sv,cv,c,h1⟩,h2,h3,h4,h5⟩:=h;exact⟨⟨_,_,_,_,_,_,_,_,_,_,_,h1.cu hc⟩,h2.cu hc,h3.cu eK hc,h4,h5⟩
theorem sW.BU{w:World}{p fb fo n:Nat}{t:gL}(h:sW w p fb fo n t):fi Tryz.prog 157 [.pointer (some ⟨p,0,none⟩)] w (.pointer (some ⟨fb,fo+(n-1)*5,none⟩)):=by
 obtain⟨⟨g,fs,av,mv,iv,st,va,ov,sv,cv,c,h1⟩,h2,h3,h4,h5⟩:=h;exact Go.Proofs.YthfhgolkafpmnaaGreatDoor.BU p fb fo n c g fs av mv iv st va ov sv cv w h4 h5 h1
theorem yJ{w0:World}{p fb fo n:Nat}{t:gL}(h:sW w0 p fb fo n t)(v:cm)(hv:ik t.f.aF.length v):
  fi Tryz.prog 173 [.pointer (some ⟨p,0,none⟩),.agg #[.bool v.bD,.int .i64 v.n]] w0 (.int .i64 (cD t.f v)):=by
 obtain⟨r,vn⟩:=v;refine aQ Tryz.func173 rfl Tryz.ntmps173 rfl (Wd.nil dh w0) ?_;cases r
 ·repeat(first|refine aO ?_|refine dX λ_ _=>?_)
  exact bQ rfl rfl
 ·obtain⟨h0,h1⟩:=hv rfl
  simp only at h0 h1;obtain⟨k,rfl⟩:∃k:Nat,vn=k:=⟨vn.toNat,ag⟩;obtain⟨x,hx⟩:∃x,t.f.aF[k]?=some x:=⟨_,aB ag⟩;have r7:=h.bF;have oQ:a_ w0 fb (fo+(n-1)*5) _:=⟨r7⟩;obtain⟨_,_,_,b,o,ha,iK⟩:=h.aF.at;have pY:bY t.a b o:=⟨ha (aW hx)⟩;have Pf:bZ k t.f.aF.length:=⟨ag⟩;obtain⟨_,fZ,rfl,_⟩:=iK k x hx;have RY:a_ w0 b (o+k*1) _:=⟨fZ⟩;simp only[qR]at oQ
  repeat(first|refine aO ?_|refine dX λ_ _=>?_)
  refine kE mixed aP ?_;refine j9 ?_;refine tK rfl (λw hw=>(h.cE hw.cE).BU) ?_;refine j9 ?_;refine aI ?_;exact bQ rfl (by simp[cD,hx])
def GM(p:Nat)(g fs av:Value)(m:gQ)(rest:List gL):List bN:=sQ p g fs av m::kp m::jF m::iO m::jO m::(rest.map oV++m.cs.map lH)
theorem Bg(p:Nat)(g fs av:Value)(m:gQ){rest:List gL}{t:gL}(hr:m.rows=rest++[t]):(c_ p g fs av m).Perm (oV t::GM p g fs av m rest):=by
 unfold c_ GM;rw[hr,bB,bO,dp,dE,a6,aT];have h:=lm (l₁:=[sQ p g fs av m,kp m,jF m,iO m,jO m]++rest.map oV) (l₂:=m.cs.map lH) (a:=oV t);simpa using h
theorem Rr(aF:List Int)(dst n:Int):(sC aF dst n).length=aF.length:=by unfold sC;split<;>simp
def gL.set(t:gL)(dst n:Int):gL:={t with f:=t.f.set dst n}
theorem SI(t:gL)(dst n:Int):qR (t.set dst n)=qR t:=by simp[qR,gL.set,k7.set,Rr]
theorem B5{S:Nat->Prop}{wz:World}(p:Nat)(g fs av:Value)(m:gQ)(hb:m.Bd){rest:List gL}{t:gL}(hr:m.rows=rest++[t])(dst n:Int)(hd:0<=dst->dst<t.f.aF.length)(w:World)(hw:Wd S wz (c_ p g fs av m) w):
  gV Tryz.prog 174 [.pointer (some ⟨p,0,none⟩),.int .i64 dst,.int .i64 n] w λu w'=>∃_x:Unit,u=.tuple #[]/\Wd S wz (c_ p g fs av {m with rows:=rest++[t.set dst n]}) w'/\True:=by
 obtain⟨_,fb,fo,hf,_⟩:=uu (H:=[]) (by rw[cq];exact hw) hb hr;have hlen:m.rows.length=rest.length+1:=by rw[hr];simp
 have Ke:(rest++[t.set dst n]).length=rest.length+1:=by simp
 have fK:(rest++[t.set dst n]).flatMap qR=m.rows.flatMap qR:=by rw[hr,gO,gO];simp[SI]
 refine kL Tryz.func174 rfl Tryz.ntmps174 rfl hw ?_;refine aU ?_;refine aN (λh1=>?_) (λh1=>?_)
 ·have h0:0<=dst:=by simpa using h1
  have bT:=hd h0;obtain⟨k,rfl⟩:∃k:Nat,dst=k:=⟨dst.toNat,ag⟩;refine aU ?_;refine bI rfl (λw hw=>(yG (H:=[]) (by rw[cq];exact hw) hb hr hf).BU) ?_;rw[hlen,Nat.add_sub_cancel];refine bj (Bg p g fs av m hr) ?_;unfold oV;refine eW 0 rfl ag λvb vo nz=>?_;have R5:∀X,fe (X::GM p g fs av m rest) fb (fo+rest.length*5+3) (.slice t.a t.f.aF.length t.c):=λX=>⟨λ_ _ w' dO=>by
   have hg:m.rows[rest.length]?=some t:=by rw[hr];simp
   have hk:(X::GM p g fs av m rest)[2]?=some (ai (some ⟨fb,fo,none⟩) m.rows.length m.fc 206 5 (m.rows.flatMap qR)):=by rw[<-hf];rfl
   rw[dA];exact dO.cK hk (fy jv m.rows rest.length t 3 _ hg rfl)⟩
  rw[nz]at R5⊢;have Pf:bZ k t.f.aF.length:=⟨ag⟩;obtain⟨x,hx⟩:∃x,t.f.aF[k]?=some x:=⟨_,aB ag⟩;have iK:oJ t.f.aF k x:=⟨hx⟩;refine aI ?_;refine qH rfl λw' dO=>⟨(),rfl,?_,trivial⟩;refine Wd.perm ?_ (Bg p g fs av _ rfl).symm;have e1:oV (t.set k n)=ai (some ⟨vb,vo,none⟩) t.f.aF.length t.c 3 1 ((t.f.aF.set k n).map (.int .i64)):=by simp[oV,gL.set,k7.set,sC,nz]
  have e2:GM p g fs av {m with rows:=rest++[t.set k n]} rest=GM p g fs av m rest:=by simp only[GM,sQ,kp,jF,iO,jO,fK,Ke,hlen]
  rw[e1,e2];exact dO
 ·have h0:¬0<=dst:=by simpa using h1
  refine aO ?_;refine qH rfl λw' dO=>⟨(),rfl,?_,trivial⟩;have e:rest++[t.set dst n]=m.rows:=by rw[hr];simp[gL.set,k7.set,sC,h0]
  rw[e];exact dO
theorem uJ{S:Nat->Prop}{wz:World}(p:Nat)(g fs av:Value)(m:gQ)(st:Int)(w:World)(hw:Wd S wz (c_ p g fs av m) w):
  gV Tryz.prog 131 [.pointer (some ⟨p,0,none⟩),.int .i64 st] w λu w'=>∃_x:Unit,u=.bool false/\Wd S wz (c_ p g fs av {m with state:=st}) w'/\True:=by
 refine kL Tryz.func131 rfl Tryz.ntmps131 rfl hw ?_;unfold c_ sQ;refine aI ?_;exact cA rfl λw' dO=>⟨(),rfl,dO,trivial⟩
section
variable {P:Program} {ro:Option Nat} {N:Nat} {ds:List Deferred} {S:Nat->Prop} {w0:World} {L:List (Nat×Value)} {H:List bN} {ops:Array Oper} {rest:List Oper} {Q:Exit->Act->World->Prop} {x y:Operand}
theorem SO{d ty dT sT e jZ dl dc sl sc:Nat}{z:Value}{da sa:Option Addr}{pos:String}{aft:Array Go.Edge}[h:cB P dT e 1 jZ [z]][hx:Ev L x (.slice da dl dc)][hy:Ev L y (.slice sa sl sc)](hd:dj d N L=true)(h0:min sl dl=0)
  (kk:G N ds S w0 ((d,.int .i64 0)::L) H (wpListIn (FW ro) 0 P ops Q rest)):G N ds S w0 L H (wpListIn (FW ro) 0 P ops Q (⟨some d,.call {callee:=.builtin .copy,args:=#[x,y],argTypes:=#[dT,sT]},ty,pos,aft,none⟩::rest)):=λa w hS=>by
 obtain⟨i,zz,hi,_,_,Tj,_⟩:=h.get;have hr:=run_copy_none (P:=P) w dT sT ty e da sa dl dc sl sc h.oI (by rw[hi];simp[Tj]) h0;refine eG (v:=.int .i64 0) (w':=w) rfl (λ_ h=>by cases h) ?_ (kk _ _ ⟨hS.fr.dP hd _,hS.wd⟩);simp[execOp,resolve,invoke,builtin,hx.eq _ _ _ hS.fr,hy.eq _ _ _ hS.fr,hr,goInt]
end
def k6(cs:List qT)(k b:Nat):List qT:=cs.modify k λr=>{r with l:=r.l.modify b (·+1)}
theorem FC{cs c1 c2:List qT}{r:qT}(h:cs=c1++r::c2)(A:List bN)(X:List bN):(A++(X++cs.map lH)).Perm (lH r::(A++(X++(c1++c2).map lH))):=by
 subst h;simp only[bB,bO];have h:=lm (l₁:=A++X++c1.map lH) (l₂:=c2.map lH) (a:=lH r);simpa[dE]using h
theorem Fu{c1 c2:List qT}{r:qT}{k b:Nat}(hk:c1.length=k):k6 (c1++r::c2) k b=c1++{r with l:=r.l.modify b (·+1)}::c2:=by
 subst hk;unfold k6
 induction c1 with
 |nil=>rfl
 |cons x l ih=>rw[ie,a6,List.modify_succ_cons,ih];rfl
theorem If(R:Nat):(ek R []).map (Value.int .i64)=List.replicate R (.int .i64 0):=by simp[ek]
theorem Ie{R:Nat}{args:List Int}(h:args.length<=R):(List.replicate R (Value.int .i64 0)).take 0++args.map (.int .i64)++(List.replicate R (.int .i64 0)).drop (0+(args.map (Value.int .i64)).length)=(ek R args).map (Value.int .i64):=by
 simp only[List.take_zero,aT,List.drop_replicate,aG,dM,ek];rw[List.take_append,jw h,bB,List.take_replicate,List.map_replicate,iA ag]
theorem Ic{R:Nat}{args:List Int}:(ek R args).length=R:=by simp[ek]
theorem Bv{α:Type}(q rv a b c d e:α)(F C1 C2:List α){Y:List α}(hY:Y=C1++C2):(q::rv::a::b::c::d::e::(F++Y)).Perm (a::b::c::d::e::((F++[rv])++(C1++q::C2))):=by
 subst hY;have h1:(q::rv::([a,b,c,d,e]++F++(C1++C2))).Perm (rv::([a,b,c,d,e]++F++(q::(C1++C2)))):=(List.Perm.swap _ _ _).trans ((List.perm_middle.symm).cons _);have h2:(rv::([a,b,c,d,e]++F++(q::(C1++C2)))).Perm ([a,b,c,d,e]++F++(rv::(q::(C1++C2)))):=List.perm_middle.symm;have h3:([a,b,c,d,e]++F++(rv::(q::(C1++C2)))).Perm ([a,b,c,d,e]++F++(rv::(C1++q::C2))):=List.Perm.append_left _ ((List.perm_middle.symm).cons _);have h:=(h1.trans h2).trans h3;simpa[dE]using h
theorem FA(r:qT)(b:Nat):Fz {r with l:=r.l.modify b (·+1)}=Fz r:=by simp[Fz]
theorem Jb{l:List Nat}{b x:Nat}(hx:l[b]?=some x):l.modify b (·+1)=l.set b (x+1):=by
 apply cf;intro i;rw[lG,dQ]
 by_cases e:b=i
 ·subst e
  have:=(aC.1 hx).1;have h2:=(aC.1 hx).2;simp[this,h2]
 ·simp[e]
theorem Fy{r:qT}{b x qb qo:Nat}(hx:r.l[b]?=some x)(ha:r.a=some ⟨qb,qo,none⟩):lH {r with l:=r.l.modify b (·+1)}=ai (some ⟨qb,qo,none⟩) r.l.length r.c 3 1 ((r.l.set b (x+1)).map λx:Nat=>.int .i64 x):=by
 simp only[lH,eA,ha,Jb hx]
theorem GN{p:Nat}{g fs av:Value}{m:gQ}{c1 c2:List qT}{cr:qT}{fn R x rb nc qb qo cb co:Nat}{na:Option Addr}{args:List Int}{dst:Int}(hc:m.cs=c1++cr::c2)(h1:c1.length=fn)(hx:cr.l[0]?=some x)(Cu:cr.a=some ⟨qb,qo,none⟩)(Ge:m.ca=some ⟨cb,co,none⟩):
  (aj p [g,fs,av,.slice m.ma m.mem.length m.mc,m.iv,.int .i64 m.state,.int .i64 m.value,.slice m.oa m.out.length m.oc,.int .i64 m.steps,.slice na (m.rows.length+1) nc,.slice (some ⟨cb,co,none⟩) m.cs.length m.cc] 168::
   ai na (m.rows.length+1) nc 206 5 (m.rows.flatMap qR++[.int .i64 fn,.int .i64 0,.int .i64 0,.slice (some ⟨rb,0,none⟩) R R,.int .i64 dst])::jF m::iO m::ai (some ⟨cb,co,none⟩) m.cs.length m.cc 42 1 (m.cs.map Fz)::
   ((m.rows.map oV++[ai (some ⟨rb,0,none⟩) R R 3 1 ((ek R args).map (.int .i64))])++(c1.map lH++ai (some ⟨qb,qo,none⟩) cr.l.length cr.c 3 1 ((cr.l.set 0 (x+1)).map λx:Nat=>.int .i64 x)::c2.map lH))).Perm
   (c_ p g fs av {m with fa:=na,fc:=nc,rows:=m.rows++[⟨⟨fn,0,0,ek R args,dst⟩,some ⟨rb,0,none⟩,R⟩],cs:=k6 m.cs fn 0}):=by
 have e:k6 m.cs fn 0=c1++{cr with l:=cr.l.modify 0 (·+1)}::c2:=by rw[hc,Fu h1]
 have el:(k6 m.cs fn 0).length=m.cs.length:=by simp[k6]
 have ev:(k6 m.cs fn 0).map Fz=m.cs.map Fz:=by rw[e,hc];simp[FA]
 have ee:(k6 m.cs fn 0).map lH=c1.map lH++ai (some ⟨qb,qo,none⟩) cr.l.length cr.c 3 1 ((cr.l.set 0 (x+1)).map λx:Nat=>.int .i64 x)::c2.map lH:=by rw[e];simp only[bB,bO,Fy hx Cu]
 simp only[c_,sQ,kp,jF,iO,jO,el,ev,ee,Ge,bR,jL,gO,gx,oM,cq,bB,bO,dp,qR,oV,Ic];exact List.Perm.refl _
theorem JV{S:Nat->Prop}{wz:World}(fv:Clean S wz)(u:a7)(p:Nat)(g fs av:Value)(xV:aM wz fs 4 u.funcs gg)(m:gQ)(hb:m.Bd)(fn:Nat)(X:aZ)(hX:u.funcs[fn]?=some X)(R:Nat)(hR:X.aF=R)(hR':R<=100)(dst:Int)(args:List Int)(aa:Option Addr)(an ac:Nat)(tk:aM wz (.slice aa an ac) 1 args fj)(B8:args.length<=R)(cr:qT)(AN:m.cs[fn]?=some cr)(EZ:0<cr.l.length)(w:World)(hw:Wd S wz (c_ p g fs av m) w):
  gV Tryz.prog 129 [.pointer (some ⟨p,0,none⟩),.int .i64 fn,.int .i64 dst,.slice aa an ac] w λu w'=>∃x:Option Addr×Nat×Option Addr×Nat,u=.tuple #[]/\
   Wd S wz (c_ p g fs av {m with fa:=x.1,fc:=x.2.1,rows:=m.rows++[⟨⟨fn,0,0,ek R args,dst⟩,x.2.2.1,x.2.2.2⟩],cs:=k6 m.cs fn 0}) w'/\True:=by
 obtain⟨fa,fl,fc,fb,fo,rfl,C6,afO,afN,Xg,uN,uO⟩:=xV;obtain⟨cs,fZ,bv,rfl,_,_,_⟩:=uO fn X hX;have O3:fn<fl:=by rw[C6];exact(aC.1 hX).1
 have pY:bY fa fb fo:=⟨uN (aW hX)⟩;have hlf:bZ fn fl:=⟨O3⟩;have oQ:a_ wz fb (fo+fn*4) _:=⟨fZ⟩;have hold:eI S fb:=fv.old fZ;have hnr:ky X.aF R:=⟨hR⟩;refine kL Tryz.func129 rfl Tryz.ntmps129 rfl hw ?_;unfold c_ sQ
 repeat(first|refine aU ?_|refine dX λ_ _=>?_)
 rename_i rb _;obtain⟨EY,F6,WR,ab,ao,Iw,AJ⟩:=tk.at;obtain⟨c1,c2,OO,Ny⟩:∃c1 c2,m.cs=c1++cr::c2/\c1.length=fn:=⟨m.cs.take fn,m.cs.drop (fn+1),by
  rw[<-(aC.1 AN).2,List.getElem_cons_drop,pw],by rw[cU];have:=(aC.1 AN).1;omega⟩
 have OU:fn<m.cs.length:=(aC.1 AN).1;obtain⟨x,hx⟩:∃x,cr.l[0]?=some x:=⟨_,aB EZ⟩;have hx9:=(hb.kB cr (aA AN)).2 x (aA hx);have mU:=hb.steps;have hbr:=hb.rows;have mw:=(hb.kB cr (aA AN)).1;refine Or.elim (Classical.em (args=[])) (λh0=>?_) (λh0=>?_);have e0:List.replicate R (Value.int .i64 0)=(ek R args).map (.int .i64):=by rw[h0,If]
 refine SO rfl (by rw[h0]at EY;simp only[ql]at EY;omega) ?_;rw[e0];refine jp (L':=[(8,.slice (some ⟨rb,0,none⟩) R R),(0,.pointer (some ⟨p,0,none⟩)),(1,.int .i64 fn),(2,.int .i64 dst)]) aw (.refl _) ?_;rotate_left;rw[Iw h0];refine D8 (b:=rb) (o:=0) (off:=0) 0 (args.map (.int .i64)) rfl rfl (by rw[aG];omega) (λw hw j v hj=>?_) (by rw[aG,ef];omega) (λv hv=>by obtain⟨z,_,rfl⟩:=aX.1 hv;rfl) ?_
 ·rw[aK]at hj
  obtain⟨z,hz,rfl⟩:=cT.1 hj;obtain⟨_,hc,rfl,_⟩:=AJ j z hz;have h1:=hc 0 _ rfl;rw[fB,dL]at h1;exact fv.now hw _ _ h1
 simp only[bS];rw[Ie B8];refine jp (L':=[(8,.slice (some ⟨rb,0,none⟩) R R),(0,.pointer (some ⟨p,0,none⟩)),(1,.int .i64 fn),(2,.int .i64 dst)]) aw (.refl _) ?_;rotate_left
 all_goals
  unfold kp jO
  repeat(first|refine aU ?_|refine dX λ_ _=>?_)
  rename_i bb _;refine gq 3 rfl rfl aq ag ag λna nc=>?_;simp only[cn,bS];refine aI ?_;refine eW 6 rfl ag λcb co Ge=>?_;have uL:bY m.ca cb co:=⟨Ge⟩;have hlc:bZ fn m.cs.length:=⟨OU⟩;refine aU ?_;have j4:∀x1 x2 x3 x4 x5 x6:bN,fe (x1::x2::x3::x4::x5::x6::ai (some ⟨cb,co,none⟩) m.cs.length m.cc 42 1 (m.cs.map Fz)::(List.map oV m.rows++List.map lH m.cs)) cb (co+fn*1) (.slice cr.a cr.l.length cr.c):=λ_ _ _ _ _ _=>⟨λ_ _ w' dO=>
   dO.cK (k:=6) rfl (by rw[fB,aK,AN];rfl)⟩
  rw[Ge];refine aU ?_;refine bj (FC OO [_,_,_,_,_,_,_] (List.map oV m.rows)) ?_;rw[show lH cr=ai cr.a cr.l.length cr.c 3 1 (cr.l.map λx:Nat=>.int .i64 x)from rfl];refine eW 0 rfl EZ λqb qo Cu=>?_;rw[Cu];have adi:oJ cr.l 0 x:=⟨hx⟩;have zw:bZ 0 cr.l.length:=⟨EZ⟩;have hao:z8 (x:Int) 1:=⟨ag,ag⟩;refine aU ?_;rw[show(x:Int)+1=((x+1:Nat):Int) by omega];refine aI ?_;refine qH rfl λw' dO=>⟨(na,nc,some ⟨rb,0,none⟩,R),rfl,?_,trivial⟩;simp only[a6,aT]at dO;have h1:=dO.sub (dn (.cons _ (.refl _)));have h2:=h1.perm (Bv _ _ _ _ _ _ _ (m.rows.map oV) (c1.map lH) (c2.map lH) (by rw[bB]));have h3:=h2.perm (GN (dst:=dst) (args:=args) OO Ny hx Cu Ge);simp only[c_,sQ,kp,jO,Ge]at h3⊢;exact h3
def Lt(w:World)(x:List (List Int))(cs:List Value):Prop:=∃v,cs=[v]/\aM w v 1 x cS
theorem wZ:sS Lt:=λ_ _ hc _ _ ⟨v,h1,h2⟩=>⟨v,h1,h2.le tD hc⟩
def lE(u:a7):List (List (List Int)):=u.funcs.map λX=>bm X.blocks
structure Zw(u:a7)(t:k7)(X:aZ)(R:Nat):Prop where
 get:u.funcs[t.fn]?=some X
 ok:eX R X.blocks
 aF:t.aF.length=R
theorem yB{α:Type}{l:List α}{i:Nat}{x:α}(h:l[i]?=some x):l.take (i+1)=l.take i++[x]:=by rw[cj,h];rfl
def w_(t:k7)(k:Nat)(l:List eC):List Int:=l.map λq=>cD t (q.src.getD k gK)
theorem I7{p:Nat}{g fs av:Value}{m:gQ}{rest:List gL}{t:gL}(hr:m.rows=rest++[t]){c1 c2:List qT}{cr:qT}{to x qb qo cb co fb fo:Nat}(hc:m.cs=c1++cr::c2)(h1:c1.length=t.f.fn)(hx:cr.l[to]?=some x)(Cu:cr.a=some ⟨qb,qo,none⟩)(Ge:m.ca=some ⟨cb,co,none⟩)(hf:m.fa=some ⟨fb,fo,none⟩)(rs:List Int)(Ya:rs.length=t.f.aF.length):
  (aj p [g,fs,av,.slice m.ma m.mem.length m.mc,m.iv,.int .i64 m.state,.int .i64 m.value,.slice m.oa m.out.length m.oc,.int .i64 m.steps,.slice (some ⟨fb,fo,none⟩) m.rows.length m.fc,.slice (some ⟨cb,co,none⟩) m.cs.length m.cc] 168::
   ai (some ⟨fb,fo,none⟩) m.rows.length m.fc 206 5 ((rest++[(⟨{t.f with aF:=rs,block:=to,at':=0},t.a,t.c⟩:gL)]).flatMap qR)::jF m::iO m::ai (some ⟨cb,co,none⟩) m.cs.length m.cc 42 1 (m.cs.map Fz)::
   ((rest.map oV++[ai t.a t.f.aF.length t.c 3 1 (rs.map (.int .i64))])++(c1.map lH++ai (some ⟨qb,qo,none⟩) cr.l.length cr.c 3 1 ((cr.l.set to (x+1)).map λx:Nat=>.int .i64 x)::c2.map lH))).Perm
   (c_ p g fs av {m with rows:=rest++[⟨{t.f with aF:=rs,block:=to,at':=0},t.a,t.c⟩],cs:=k6 m.cs t.f.fn to}):=by
 have e:k6 m.cs t.f.fn to=c1++{cr with l:=cr.l.modify to (·+1)}::c2:=by rw[hc,Fu h1]
 have el:(k6 m.cs t.f.fn to).length=m.cs.length:=by simp[k6]
 have ev:(k6 m.cs t.f.fn to).map Fz=m.cs.map Fz:=by rw[e,hc];simp[FA]
 have ee:(k6 m.cs t.f.fn to).map lH=c1.map lH++ai (some ⟨qb,qo,none⟩) cr.l.length cr.c 3 1 ((cr.l.set to (x+1)).map λx:Nat=>.int .i64 x)::c2.map lH:=by rw[e];simp only[bB,bO,Fy hx Cu]
 have er:m.rows.length=rest.length+1:=by rw[hr];simp
 simp only[c_,sQ,kp,jF,iO,jO,el,ev,ee,er,Ge,hf,bR,jL,bB,bO,dp,oV,Ya];exact List.Perm.refl _
theorem Yu{S:Nat->Prop}{wz:World}(fv:Clean S wz)(u:a7)(p:Nat)(g fs av:Value)(xV:aM wz fs 4 u.funcs gg)(B9:aM wz av 1 (lE u) Lt)(m:gQ)(hb:m.Bd){rest:List gL}{t:gL}(hr:m.rows=rest++[t])(X:aZ)(R:Nat)(hX:Zw u t.f X R)(iR:X.blocks.length<=100)(to:Nat)(T:ar)(hT:X.blocks[to]?=some T)(hed:t.f.block∈bf X.blocks to)(wV:T.aL.length<=1000)(cr:qT)(AN:m.cs[t.f.fn]?=some cr)(EZ:to<cr.l.length)(w:World)(hw:Wd S wz (c_ p g fs av m) w):
  gV Tryz.prog 172 [.pointer (some ⟨p,0,none⟩),.int .i64 to] w λu' w'=>∃_x:Unit,u'=.tuple #[]/\
   Wd S wz (c_ p g fs av {m with rows:=rest++[⟨{t.f with aF:=iD t.f ((bf X.blocks to).idxOf t.f.block) T.aL,block:=to,at':=0},t.a,t.c⟩],cs:=k6 m.cs t.f.fn to}) w'/\True:=by
 have WL:=hX.get;have hlen:m.rows.length=rest.length+1:=by rw[hr];simp
 obtain⟨_,fb,fo,hf,_⟩:=uu (H:=[]) (by rw[cq];exact hw) hb hr;obtain⟨ua,ul,uc,ub,uo,rfl,hul,aev,aeu,huc,hua,Yg⟩:=xV;obtain⟨cs,fZ,bv,rfl,_,_,zR⟩:=Yg t.f.fn X WL;have O3:t.f.fn<ul:=by rw[hul];exact(aC.1 WL).1
 have pY:bY ua ub uo:=⟨hua (aW WL)⟩;have hlf:bZ t.f.fn ul:=⟨O3⟩;have oQ:a_ wz ub (uo+t.f.fn*4) _:=⟨fZ⟩;have hold:eI S ub:=fv.old fZ;obtain⟨ba,bn,bc,bb,bo,rfl,pC,WY,WX,LY,xS,Iy⟩:=zR;obtain⟨_,hTc,pv,lv,tv,rfl,_,_,Gs,_,_⟩:=Iy to T hT;have xC:to<bn:=by rw[pC];exact(aC.1 hT).1
 have uL:bY ba bb bo:=⟨xS (aW hT)⟩;have bT:bZ to bn:=⟨xC⟩;have vC:a_ wz bb (bo+to*6) _:=⟨hTc⟩;have tl:eI S bb:=fv.old hTc;obtain⟨pa,pn,pc,pb,po,rfl,Gr,ad7,Ps,hpc,hpa,Pq⟩:=Gs;obtain⟨aa,al,ac,ab,ao,rfl,B8,afs,afr,WN,Iw,AJ⟩:=B9;have hAi:(lE u)[t.f.fn]?=some (bm X.blocks):=by unfold lE;rw[aK,WL];rfl
 obtain⟨_,hAc,rv,rfl,y8⟩:=AJ t.f.fn _ hAi;have Ta:bY aa ab ao:=⟨Iw (aW hAi)⟩;have af2:bZ t.f.fn al:=⟨by rw[B8];exact(aC.1 hAi).1⟩;have OQ:a_ wz ab (ao+t.f.fn*1) _:=⟨hAc⟩;have AU:eI S ab:=fv.old hAc;obtain⟨ra,rl,rc,rb,ro,rfl,qd,agG,agF,NE,ND,hrel⟩:=y8;have fK:=gm hX.ok.iM (λb B hB=>(hX.ok.block b B hB).to) (t:=to) (by rw[<-pC];exact xC);obtain⟨_,hRc,wv,rfl,hwv⟩:=hrel to _ fK;have afi:bY ra rb ro:=⟨ND (aW fK)⟩;have af9:bZ to rl:=⟨by rw[qd];exact(aC.1 fK).1⟩;have afA:a_ wz rb (ro+to*1) _:=⟨hRc⟩;have y6:eI S rb:=fv.old hRc;obtain⟨k,hk⟩:∃k,(bf X.blocks to).idxOf t.f.block=k:=⟨_,rfl⟩;rw[hk];refine kL Tryz.func172 rfl Tryz.ntmps172 rfl hw ?_;refine aU ?_;refine bI rfl (λw hw=>(yG (H:=[]) (by rw[cq];exact hw) hb hr hf).BU) ?_;rw[hlen,Nat.add_sub_cancel];refine aU ?_;have R5:∀j v,(qR t)[j]?=some v->∀X:List bN,fe (c_ p g (.slice ua ul uc) (.slice aa al ac) m++X) fb (fo+rest.length*5+j) v:=λj v hj X=>⟨λ_ _ w' dO=>by
  have hg:m.rows[rest.length]?=some t:=by rw[hr];simp
  have hk:(c_ p g (.slice ua ul uc) (.slice aa al ac) m++X)[1]?=some (ai (some ⟨fb,fo,none⟩) m.rows.length m.fc 206 5 (m.rows.flatMap qR)):=by rw[<-hf];rfl
  rw[dA];exact dO.cK hk (fy jv m.rows rest.length t j _ hg hj)⟩
 have Gc:=R5 0 _ rfl [];have Ny:=R5 1 _ rfl [];simp only[cq,c_,sQ]at Gc Ny;unfold c_ sQ
 skip
 refine kE mixed aP ?_;refine j9 ?_;refine tK rfl (λw hw=>zU _ (bf X.blocks to) t.f.block w hed (hwv.le lz (fv.now hw))) ?_;rw[hk];refine j9 ?_;refine aU ?_;refine kE mixed aP ?_;refine j9 ?_;refine aO ?_;have xz:k<(bf X.blocks to).length:=by rw[<-hk];exact ju hed
 have Y8:=hX.ok.block to T hT;have PG:t∈m.rows:=by rw[hr];simp
 obtain⟨agE,Ty,_⟩:=hb.aF t PG;have r7:∀w,Wd S wz (c_ p g (.slice ua ul uc) (.slice aa al ac) m) w->sW w p fb fo m.rows.length t:=λw hw=>yG (H:=[]) (by rw[cq];exact hw) hb hr hf;have agS:∀q∈T.aL,c9 (cD t.f (q.src.getD k gK)):=λq hq=>by
  have hl:=(Y8.aL q hq).len;obtain⟨v,hv⟩:∃v,q.src[k]?=some v:=⟨_,aB ag⟩;have hg:q.src.getD k gK=v:=by rw[cz,hv];rfl
  rw[hg];unfold cD
  split
  ·rename_i h
   obtain⟨h0,h1⟩:=(Y8.aL q hq).tU v (aA hv) h;rw[<-hX.aF]at h1;rw[cz,aB ag,dF];exact Ty _ (jK _)
  ·obtain⟨i,hi⟩:=br hq
   obtain⟨_,_,sv,rfl,_,mP⟩:=Pq i q hi;obtain⟨_,_,_,_,_,_,_,_,_,_,_,Yc⟩:=mP;obtain⟨_,_,_,h2⟩:=Yc k v hv;exact h2
 refine fq 3 1 ?_;refine bP (λx:Nat×Option Addr×Nat=>x.1<=T.aL.length) (λx=>[(50,.int .i64 x.1),(7,.slice x.2.1 x.1 x.2.2),(48,.slice pa pn pc),(49,.int .i64 pn),(6,.slice pa pn pc),(5,.int .i64 k),(4,.pointer (some ⟨fb,fo+rest.length*5,none⟩)),(0,.pointer (some ⟨p,0,none⟩)),(1,.int .i64 to)]) (λx=>ai x.2.1 x.1 x.2.2 3 1 ((w_ t.f k (T.aL.take x.1)).map (.int .i64))::aj p [g,Value.slice ua ul uc,Value.slice aa al ac,.slice m.ma m.mem.length m.mc,m.iv,.int .i64 m.state,.int .i64 m.value,.slice m.oa m.out.length m.oc,.int .i64 m.steps,.slice m.fa m.rows.length m.fc,.slice m.ca m.cs.length m.cc] 168::kp m::jF m::iO m::jO m::(List.map oV m.rows++List.map lH m.cs)) (λx=>T.aL.length-x.1) (0,none,0) (aY _) (aV aw ag2) λx hi=>?_;obtain⟨i,na,nc⟩:=x;simp only at hi⊢;refine aU ?_;refine aN (λh1=>?_) (λh1=>?_)
 ·have Xx:i<pn:=by simpa using h1
  obtain⟨q,hq⟩:∃q,T.aL[i]?=some q:=⟨_,aB ag⟩;have IK:=Y8.aL q (aA hq);obtain⟨v,hv⟩:∃v,q.src[k]?=some v:=⟨_,aB (by rw[IK.len];exact xz)⟩;obtain⟨_,VH,sv,rfl,_,mP⟩:=Pq i q hq;obtain⟨sa,sn,sc,sb,so,rfl,hsn,_,_,_,hsa,Yc⟩:=mP;obtain⟨_,VR,rfl,E7⟩:=Yc k v hv;have acO:bY pa pb po:=⟨hpa (aW hq)⟩;have adI:bZ i pn:=⟨Xx⟩;have ac5:a_ wz pb (po+i*2) _:=⟨VH⟩;have abg:eI S pb:=fv.old VH;have acP:bY sa sb so:=⟨hsa (aW hv)⟩;have af7:bZ k sn:=⟨by rw[hsn];exact(aC.1 hv).1⟩;have afH:a_ wz sb (so+k*2) _:=⟨VR⟩;have holds:eI S sb:=fv.old VR;have zA:ik t.f.aF.length v:=by rw[hX.aF];exact IK.tU v (aA hv)
  repeat(first|refine aI ?_|refine dX λ_ _=>?_)
  refine bI rfl (λw hw=>yJ (r7 w (hw.sub (.cons _ (.cons _ (.refl _))))) v zA) ?_
  repeat(first|refine dX λ_ _=>?_)
  rename_i b9 _ bb9 _;refine gq 2 rfl rfl aq ag ag λQv Qx=>?_;simp only[cn,bS];refine aO ?_;refine bC (i+1,Qv,Qx) (by simp only;omega) (by simp only;omega) aw ?_;rw[yB hq];simp only[w_,bB,bO,dp,cz,hv,dF];exact List.Sublist.cons _ (.cons _ (.refl _))
 ·have gT:i=T.aL.length:=by have:=h1;simp at this;omega
  subst gT;rw[cO];refine aI ?_;refine bj ((List.Perm.cons _ (Bg p g (.slice ua ul uc) (.slice aa al ac) m hr)).trans (List.Perm.swap _ _ _)) ?_;unfold GM sQ;have Nz:m.rows[rest.length]?=some t:=by rw[hr];simp
  have XJ:fe (aj p [g,Value.slice ua ul uc,Value.slice aa al ac,.slice m.ma m.mem.length m.mc,m.iv,.int .i64 m.state,.int .i64 m.value,.slice m.oa m.out.length m.oc,.int .i64 m.steps,.slice m.fa m.rows.length m.fc,.slice m.ca m.cs.length m.cc] 168::kp m::jF m::iO m::jO m::(List.map oV rest++List.map lH m.cs)) fb (fo+rest.length*5+3) (.slice t.a t.f.aF.length t.c):=⟨λ_ _ w' dO=>by
   have hk:(aj p [g,Value.slice ua ul uc,Value.slice aa al ac,.slice m.ma m.mem.length m.mc,m.iv,.int .i64 m.state,.int .i64 m.value,.slice m.oa m.out.length m.oc,.int .i64 m.steps,.slice m.fa m.rows.length m.fc,.slice m.ca m.cs.length m.cc] 168::kp m::jF m::iO m::jO m::(List.map oV rest++List.map lH m.cs))[1]?=some (ai (some ⟨fb,fo,none⟩) m.rows.length m.fc 206 5 (m.rows.flatMap qR)):=by rw[<-hf];rfl
   rw[dA];exact dO.cK hk (fy jv m.rows rest.length t 3 _ Nz rfl)⟩
  generalize hnx:w_ t.f k T.aL=nx at*;have B_:nx.length=T.aL.length:=by rw[<-hnx];simp[w_]
  have Ko:∀j,((T.aL.take j).foldl (λaF q=>aF.set q.dst.toNat (cD t.f (q.src.getD k gK))) t.f.aF).length=t.f.aF.length:=λj=>by
   generalize T.aL.take j=l;generalize t.f.aF=rs
   induction l generalizing rs with
   |nil=>rfl
   |cons q l ih=>rw[fF,ih,eA]
  refine bP (λj:Nat=>j<=T.aL.length) (λj=>[(67,.int .i64 j),(65,.slice pa pn pc),(66,.int .i64 pn),(7,.slice na T.aL.length nc),(6,.slice pa pn pc),(5,.int .i64 k),(4,.pointer (some ⟨fb,fo+rest.length*5,none⟩)),(0,.pointer (some ⟨p,0,none⟩)),(1,.int .i64 to)])
   (λj=>ai t.a t.f.aF.length t.c 3 1 (((T.aL.take j).foldl (λaF q=>aF.set q.dst.toNat (cD t.f (q.src.getD k gK))) t.f.aF).map (.int .i64))::ai na T.aL.length nc 3 1 (nx.map (.int .i64))::aj p [g,Value.slice ua ul uc,Value.slice aa al ac,.slice m.ma m.mem.length m.mc,m.iv,.int .i64 m.state,.int .i64 m.value,.slice m.oa m.out.length m.oc,.int .i64 m.steps,.slice m.fa m.rows.length m.fc,.slice m.ca m.cs.length m.cc] 168::kp m::jF m::iO m::jO m::(List.map oV rest++List.map lH m.cs)) (λj=>T.aL.length-j) 0 (aY _) (aV aw ag2) λj hj=>?_
  refine aU ?_;refine aN (λh2=>?_) (λh2=>?_)
  ·have jE:j<pn:=by simpa using h2
   obtain⟨q,hq⟩:∃q,T.aL[j]?=some q:=⟨_,aB ag⟩;have IK:=Y8.aL q (aA hq);obtain⟨hd0,Zd⟩:=IK.dst;rw[<-hX.aF]at Zd;obtain⟨d,hd⟩:∃d:Nat,q.dst=d:=⟨q.dst.toNat,ag⟩;obtain⟨_,VH,sv,rfl,_,mP⟩:=Pq j q hq;obtain⟨sa,sn,sc,sb,so,rfl,hsn,_⟩:=mP;have acO:bY pa pb po:=⟨hpa (aW hq)⟩;have adI:bZ j pn:=⟨jE⟩;have ac5:a_ wz pb (po+j*2) _:=⟨VH⟩;have abg:eI S pb:=fv.old VH;generalize Ya:(T.aL.take j).foldl (λaF q=>aF.set q.dst.toNat (cD t.f (q.src.getD k gK))) t.f.aF=rs at*;have agJ:rs.length=t.f.aF.length:=by rw[<-Ya];exact Ko j
   refine eW 0 rfl ag λvb vo nz=>?_;refine eW 1 rfl ag λnb no hna=>?_;subst hna;rw[nz]at XJ;rw[nz];have agi:ky q.dst d:=⟨hd⟩;have hld:bZ d t.f.aF.length:=⟨ag⟩;have IH:bZ j T.aL.length:=⟨ag⟩;obtain⟨y,hy⟩:∃y,rs[d]?=some y:=⟨_,aB ag⟩;have adl:oJ rs d y:=⟨hy⟩;have afK:oJ nx j (cD t.f (q.src.getD k gK)):=⟨by rw[<-hnx];unfold w_;rw[aK,hq];rfl⟩
   repeat(first|refine aI ?_|refine dX λ_ _=>?_)
   rename_i b11 _;refine rY (aj b11 [.int .i64 q.dst,.slice sa sn sc] 49::ai (some ⟨nb,no,none⟩) T.aL.length nc 3 1 (nx.map (.int .i64))::aj p [g,Value.slice ua ul uc,Value.slice aa al ac,.slice m.ma m.mem.length m.mc,m.iv,.int .i64 m.state,.int .i64 m.value,.slice m.oa m.out.length m.oc,.int .i64 m.steps,.slice m.fa m.rows.length m.fc,.slice m.ca m.cs.length m.cc] 168::kp m::jF m::iO m::jO m::(List.map oV rest++List.map lH m.cs)) mixed ap ?_;refine az 0 rfl aq ap ?_;refine az 1 rfl aq ap ?_;refine az 2 rfl aq ap ?_;refine az 3 rfl aq ap ?_;refine az 4 rfl aq ap ?_;refine az 5 rfl aq ap ?_;refine az 6 rfl aq ap ?_;refine az 7 rfl aq ap ?_;refine az 8 rfl aq ap ?_;refine az 9 rfl aq ap ?_;refine az 10 rfl aq ap ?_;refine j3 11 aq aq ap ?_;refine aO ?_;refine bC (j+1) ag ag aw ?_;rw[yB hq,nJ,Ya];simp only[fF,List.foldl_nil,hd,dD];exact List.Sublist.cons _ (.refl _)
  ·have gT:j=T.aL.length:=by have:=h2;simp at this;omega
   subst gT;rw[cO,show T.aL.foldl (λaF q=>aF.set q.dst.toNat (cD t.f (q.src.getD k gK))) t.f.aF=iD t.f k T.aL from rfl];have Ya:(iD t.f k T.aL).length=t.f.aF.length:=by have:=Ko T.aL.length;rw[cO]at this;exact this
   generalize iD t.f k T.aL=rs at*;obtain⟨t1,ht1⟩:∃t1:gL,t1=⟨{t.f with aF:=rs,block:=to},t.a,t.c⟩:=⟨_,rfl⟩;obtain⟨t2,NG⟩:∃t2:gL,t2=⟨{t.f with aF:=rs,block:=to,at':=0},t.a,t.c⟩:=⟨_,rfl⟩;rw[<-NG];have ae2:lN (m.rows.flatMap qR) (rest.length*5+1) (.int .i64 (to:Int)) ((rest++[t1]).flatMap qR):=⟨by
    rw[gh jv Nz (k:=1) ag (y:=t1) (by rw[ht1];simp[qR,Ya]),hr,lq _ _ (bH _),dq,bS],by rw[ct jv];omega⟩
   have hg3:(rest++[t1])[rest.length]?=some t1:=by simp
   have ae3:lN ((rest++[t1]).flatMap qR) (rest.length*5+2) (.int .i64 (0:Int)) ((rest++[t2]).flatMap qR):=⟨by
    rw[gh jv hg3 (k:=2) ag (y:=t2) (by rw[ht1,NG];simp[qR]),lq _ _ (bH _),dq,bS],by rw[ct jv];simp;omega⟩
   unfold kp;rw[hf];have VE:∀(xs:List Value) (A B C:bN) (Y:List bN) (j:Nat),mT (A::B::C::ai (some ⟨fb,fo,none⟩) m.rows.length m.fc 206 5 xs::Y) fb (fo+rest.length*5+j) 3 fo (rest.length*5+j) m.rows.length m.fc 206 5 xs:=λ_ _ _ _ _ _=>⟨rfl,ag⟩;refine aI ?_;obtain⟨c1,c2,OO,Ny⟩:∃c1 c2,m.cs=c1++cr::c2/\c1.length=t.f.fn:=⟨m.cs.take t.f.fn,m.cs.drop (t.f.fn+1),by
    rw[<-(aC.1 AN).2,List.getElem_cons_drop,pw],by rw[cU];have:=(aC.1 AN).1;omega⟩
   have OU:t.f.fn<m.cs.length:=(aC.1 AN).1;obtain⟨x,hx⟩:∃x,cr.l[to]?=some x:=⟨_,aB EZ⟩;have hx9:=(hb.kB cr (aA AN)).2 x (aA hx);have mU:=hb.steps;unfold jO;refine jp (L':=[(4,.pointer (some ⟨fb,fo+rest.length*5,none⟩)),(0,.pointer (some ⟨p,0,none⟩)),(1,.int .i64 to)]) aw (dn (.cons _ (.refl _))) ?_;refine eW 5 rfl ag λcb co Ge=>?_;rw[Ge];refine bj (FC OO [_,_,_,_,_,_] (List.map oV rest)) ?_;rw[show lH cr=ai cr.a cr.l.length cr.c 3 1 (cr.l.map λx:Nat=>.int .i64 x)from rfl];refine eW 0 rfl ag λqb qo Cu=>?_;rw[Cu];simp only[a6,aT];have j4:fe (ai t.a t.f.aF.length t.c 3 1 (rs.map (.int .i64))::aj p [g,Value.slice ua ul uc,Value.slice aa al ac,.slice m.ma m.mem.length m.mc,m.iv,.int .i64 m.state,.int .i64 m.value,.slice m.oa m.out.length m.oc,.int .i64 m.steps,.slice (some ⟨fb,fo,none⟩) m.rows.length m.fc,.slice (some ⟨cb,co,none⟩) m.cs.length m.cc] 168::ai (some ⟨fb,fo,none⟩) m.rows.length m.fc 206 5 ((rest++[t2]).flatMap qR)::jF m::iO m::ai (some ⟨cb,co,none⟩) m.cs.length m.cc 42 1 (m.cs.map Fz)::(List.map oV rest++List.map lH (c1++c2))) cb (co+t.f.fn*1) (.slice (some ⟨qb,qo,none⟩) cr.l.length cr.c):=⟨λ_ _ w' dO=>
    dO.cK (k:=5) rfl (by rw[fB,aK,AN,<-Cu];rfl)⟩
   have ac1:fe (ai t.a t.f.aF.length t.c 3 1 (rs.map (.int .i64))::aj p [g,Value.slice ua ul uc,Value.slice aa al ac,.slice m.ma m.mem.length m.mc,m.iv,.int .i64 m.state,.int .i64 m.value,.slice m.oa m.out.length m.oc,.int .i64 m.steps,.slice (some ⟨fb,fo,none⟩) m.rows.length m.fc,.slice (some ⟨cb,co,none⟩) m.cs.length m.cc] 168::ai (some ⟨fb,fo,none⟩) m.rows.length m.fc 206 5 ((rest++[t2]).flatMap qR)::jF m::iO m::ai (some ⟨cb,co,none⟩) m.cs.length m.cc 42 1 (m.cs.map Fz)::(List.map oV rest++List.map lH (c1++c2))) fb (fo+rest.length*5) (.int .i64 (t.f.fn:Nat)):=⟨λ_ _ w' dO=>by
    have h5:=dO.cK (k:=2) rfl (fy jv (rest++[t2]) rest.length t2 0 _ aH rfl);rw[NG]at h5;exact h5⟩
   have afl:bY (some (⟨cb,co,none⟩:Addr)) cb co:=⟨rfl⟩;have hlc:bZ t.f.fn m.cs.length:=⟨OU⟩;have Tm:bZ to cr.l.length:=⟨EZ⟩;have hao:z8 (x:Int) 1:=⟨ag,ag⟩;have adi:oJ cr.l to x:=⟨hx⟩;have mM:lN (cr.l.map λx:Nat=>Value.int .i64 x) (to*1) (.int .i64 ((x:Int)+1)) ((cr.l.set to (x+1)).map λx:Nat=>.int .i64 x):=⟨by
    rw[fB,eh];congr 1,by rw[aG];omega⟩
   refine dR [] (λ_:Unit=>True) (λ_=>[(0,.pointer (some ⟨p,0,none⟩))]) (λ_=>ai (some ⟨qb,qo,none⟩) cr.l.length cr.c 3 1 ((cr.l.set to (x+1)).map λx:Nat=>.int .i64 x)::ai t.a t.f.aF.length t.c 3 1 (rs.map (.int .i64))::aj p [g,Value.slice ua ul uc,Value.slice aa al ac,.slice m.ma m.mem.length m.mc,m.iv,.int .i64 m.state,.int .i64 m.value,.slice m.oa m.out.length m.oc,.int .i64 m.steps,.slice (some ⟨fb,fo,none⟩) m.rows.length m.fc,.slice (some ⟨cb,co,none⟩) m.cs.length m.cc] 168::ai (some ⟨fb,fo,none⟩) m.rows.length m.fc 206 5 ((rest++[t2]).flatMap qR)::jF m::iO m::ai (some ⟨cb,co,none⟩) m.cs.length m.cc 42 1 (m.cs.map Fz)::(List.map oV rest++List.map lH (c1++c2))) mixed ap ?_ λ_ _=>?_
   ·skip
    refine az 0 rfl aq ap ?_;refine az 1 rfl aq ap ?_;refine az 2 rfl aq ap ?_;refine az 4 rfl aq ap ?_;refine az 5 rfl aq ap ?_;refine az 6 rfl aq ap ?_;refine az 10 rfl aq ap ?_;refine kG 3 7 aq ?_ ?_
    ·refine eY 3 rfl ap ?_
     refine ck 7 aq (eY 7 rfl ap ?_);refine az 8 rfl aq ap ?_;refine ck 9 aq (eY 9 rfl ap ?_);refine az 11 rfl aq ap ?_;refine ck 12 aq (eY 12 rfl ap ?_);refine az 13 rfl aq ap ?_;refine az 14 rfl aq ap ?_;refine ck 15 aq (lB 15 ap ?_);refine eF aq ?_;exact dN () trivial aw ag2
    ·refine eY 7 rfl ap ?_
     refine ck 3 aq (eY 3 rfl ap ?_);refine az 8 rfl aq ap ?_;refine ck 9 aq (eY 9 rfl ap ?_);refine az 11 rfl aq ap ?_;refine ck 12 aq (eY 12 rfl ap ?_);refine az 13 rfl aq ap ?_;refine az 14 rfl aq ap ?_;refine ck 15 aq (lB 15 ap ?_);refine eF aq ?_;exact dN () trivial aw ag2
   skip
   refine qH rfl λw' dO=>⟨(),rfl,?_,trivial⟩;have h2:=dO.perm (Bv _ _ _ _ _ _ _ (rest.map oV) (c1.map lH) (c2.map lH) (by rw[bB]));subst NG;have h3:=h2.perm (I7 hr OO Ny hx Cu Ge hf rs Ya);simp only[c_,sQ,kp,jO,Ge,hf]at h3⊢;exact h3
end
end Go.Proofs.YthfhgolkafpmnaaGreatDoor
