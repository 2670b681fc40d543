/- Lemmas. -/
import Derived.Test.YthfhgolkafpmnaaGreatDoorGM
namespace Go.Proofs.YthfhgolkafpmnaaGreatDoor
open Go.Value renaming int->J,slice->I,pointer->aO,agg->aC
open Go.IntKind renaming i64->Z
open Option renaming some->O,none->U
open Go renaming Value->K,World->ae
open List renaming replicate->aI,range->bj
open Go.Instr renaming sureAddr->dB
open Go.Region renaming ready->eZ
open Go.Proofs.Tryz
open Go.Proofs.Tryz renaming prog->Y
open Go Go.RowKit
variable {a:Int} {B:aq} {X cP:bZ} {x:iA} {u:dk} {l:List (Nat×Int)} {args:List Int} {cs vs xs zs:List K} {R T b qz c c2 d e i j k m n o off s ty:Nat} {q:Nat×Int} {α:Type} {v:K} {w w':ae}
section
class gm(H:List cq)(b off:Nat)(cs:outParam (List K)):Prop where
 eq:∀S w0 w,Wd S w0 H w->ct w b off cs
section
variable {P:Program} {ro:Option Nat} {N:Nat} {ds:List Deferred} {S:Nat->Prop} {w0:ae} {L:List (Nat×K)} {H:List cq} {ops:Array Oper} {rest:List Oper} {Q:Exit->Act->ae->Prop} {x y:Operand}
instance[h:gO P T n][hx:Ev L x (aO (O ⟨b,off,U⟩))][hc:gm H b off cs][hn:mL cs n]:gg P N ds S w0 L H (.load T x) (aC cs.toArray):=
 ⟨λ_ h=>(by cases h),λ_ _ h=>(by cases h),λ_ _ _ _ _ a w hF hW=>by simp[execOp,hx.eq _ _ _ hF,mX hn.eq (hc.eq _ _ _ hW)]⟩
theorem jJ{l:List α}{g:α->List K}{y:α}(hk:H[k]?=O (G (O ⟨b,o,U⟩) n c e s (l.flatMap g)))(hg:∀x,(g x).length=s)(hy:l[i]?=O y):gm H b (o+i*s) (g y):=
 ⟨λ_ _ w hw j v hj=>by
  have:=hw.dp hk (e_ hg l i y j v hy hj);rwa[<-eB]at this⟩
theorem oj{g:α->List K}(hg:∀x,(g x).length=s):∀(l:List α) (i:Nat),(l.flatMap g).take (i*s)=(l.take i).flatMap g/\(l.flatMap g).drop (i*s)=(l.drop i).flatMap g
 |[],i=>by simp
 |x::l,0=>by simp
 |x::l,i+1=>by
  obtain⟨h1,h2⟩:=oj hg l i;have e:(i+1)*s=(g x).length+i*s:=by rw[hg,Nat.succ_mul];omega
  rw[fj,e,uM,yd,h1,h2];simp
theorem iZ{g:α->List K}(hg:∀x,(g x).length=s){l:List α}(hi:i<l.length)(y:α):(l.flatMap g).take (i*s)++g y++(l.flatMap g).drop (i*s+s)=(l.set i y).flatMap g:=by
 have e:i*s+s=(i+1)*s:=by rw[Nat.succ_mul]
 rw[e,(oj hg l i).1,(oj hg l (i+1)).2]
 conv=>rhs;rw[List.set_eq_take_append_cons_drop]
 rw[al hi];simp
theorem fL{g:α->List K}(hg:∀x,(g x).length=s):∀{l:List α} {i k:Nat} {x y:α} {v:K},l[i]?=O x->k<s->(g x).set k v=g y->(l.flatMap g).set (i*s+k) v=(l.set i y).flatMap g
 |[],i,k,x,y,v,hx,_,_=>by simp at hx
 |z::l,0,k,x,y,v,hx,hk,he=>by
  simp only[jN,cF]at hx;subst hx;rw[fj,Nat.zero_mul,eC,List.set_append_left _ _ (by rw[hg];exact hk),he];simp
 |z::l,i+1,k,x,y,v,hx,hk,he=>by
  have ih:=fL hg (l:=l) (i:=i) (k:=k) (x:=x) (y:=y) (v:=v) (aD hx) hk he;have e:(i+1)*s+k=(g z).length+(i*s+k):=by rw[hg,Nat.succ_mul];omega
  rw[fj,e,kj _ _ A,uN,ih];simp
theorem k_(k:Nat){pos:String}{aft:Array Go.Edge}[h:gO P T m][hx:Ev L x (aO (O ⟨b,off,U⟩))][hy:Ev L y (aC vs.toArray)][hn:mL vs m][h1:wU vs]
  (hk:H[k]?=O (G (O ⟨b,o,U⟩) n c e s xs)) (xA:off=o+j) (pJ:j+m<=xs.length)
  (kk:cU N ds S w0 L (H.set k (G (O ⟨b,o,U⟩) n c e s (xs.take j++vs++xs.drop (j+m)))) (wpListIn (FW ro) 0 P ops Q rest)):cU N ds S w0 L H (wpListIn (FW ro) 0 P ops Q (⟨U,.store T x y,ty,pos,aft,U⟩::rest)):=λa w hS=>by
 subst xA;obtain⟨hl,qg,ED,pre,sp,rfl,EP,hb⟩:=hS.wd.nj hk;have ce:b<w.heap.size:=(jl.1 hb).1;have uD:=hn.eq;have hs:=run_storeCells_at P b (pre.length+j) e vs 0 _ w hb dr h1.all;have iy:(pre++xs++sp).take (pre.length+j+0)++vs++(pre++xs++sp).drop (pre.length+j+0+vs.length)=pre++(xs.take j++vs++xs.drop (j+m))++sp:=by
  rw[dR,fu pre xs sp,uM,eB,yd,mg A,AF A,uD];simp
 simp only at hs;rw[iy]at hs;refine step_skip (w':=w.setRow b (pre++(xs.take j++vs++xs.drop (j+m))++sp).toArray) rfl (λ_ h=>by cases h) ?_ ?_
 ·simp[execOp,hx.eq _ _ _ hS.fr,hy.eq _ _ _ hS.fr,Instr.storeAt,dB,storeVar,h.sz,Value.cells,uD,hs]
 ·refine kk _ _ ⟨hS.fr,?_⟩
  have mK:∀q:Array K,(w.setRow b q).heap.size=w.heap.size:=λq=>by simp[World.setRow]
  refine hS.wd.nV hk ⟨rfl,rfl,rfl,by rw[mK];exact cz _,λj _ hj=>setRow_other w b j _ λe'=>hj (by simp[G,e'])⟩ (λb' oX=>?_) λw2 lP=>?_
  ·simp only[G,b_,cF]at oX|-
   subst oX;exact⟨.inl rfl,by rw[mK];exact ce⟩
  ·have:=lP b (by simp[G])
   refine⟨?_,.inr ⟨b,pre,sp,rfl,qg,ED,EP,?_⟩⟩
   ·simp only[bW,dA,eS];omega
   ·rw[this]
    exact setRow_heap w b _ _ e _ hb
end
end
section
set_option maxHeartbeats 8000000
attribute [local irreducible] wpListIn Code.wpIn Exit.then Exit.inBlock bodyPost wpQuiet wpAnyIn wpAnyH
section
section
variable {P:Program} {ro:Option Nat} {N:Nat} {ds:List Deferred} {S:Nat->Prop} {w0 w:ae} {L:List (Nat×K)} {H:List cq} {ops:Array Oper} {rest:List Oper} {Q:Exit->Act->ae->Prop} {p:Act->ae->Prop} {x y z u:Operand}
theorem Wd.Jn(hW:Wd S w0 H w)(hk:H[k]?=O (G (O ⟨b,o,U⟩) n c e s xs))(j:Nat)(h1:∀v∈vs,v.oneCell'=true)(pJ:j+vs.length<=xs.length):
  ∃w',(storeCells ⟨b,o+j,U⟩ vs).run P w=.ok () w'/\Wd S w0 (H.set k (G (O ⟨b,o,U⟩) n c e s (xs.take j++vs++xs.drop (j+vs.length)))) w':=by
 obtain⟨hl,qg,ED,pre,sp,rfl,EP,hb⟩:=hW.nj hk;have ce:b<w.heap.size:=(jl.1 hb).1;have hs:=run_storeCells_at P b (pre.length+j) e vs 0 _ w hb dr h1;have iy:(pre++xs++sp).take (pre.length+j+0)++vs++(pre++xs++sp).drop (pre.length+j+0+vs.length)=pre++(xs.take j++vs++xs.drop (j+vs.length))++sp:=by
  rw[dR,fu pre xs sp,uM,eB,yd,mg A,AF A];simp
 simp only at hs;rw[iy]at hs;refine⟨_,hs,?_⟩;have mK:∀q:Array K,(w.setRow b q).heap.size=w.heap.size:=λq=>by simp[World.setRow]
 refine hW.nV hk ⟨rfl,rfl,rfl,by rw[mK];exact cz _,λj _ hj=>setRow_other w b j _ λe'=>hj (by simp[G,e'])⟩ (λb' oX=>?_) λw2 lP=>?_
 ·simp only[G,b_,cF]at oX|-
  subst oX;exact⟨.inl rfl,by rw[mK];exact ce⟩
 ·have:=lP b (by simp[G])
  refine⟨?_,.inr ⟨b,pre,sp,rfl,qg,ED,EP,?_⟩⟩
  ·simp only[bW,dA,eS];omega
  ·rw[this]
   exact setRow_heap w b _ _ e _ hb
theorem Wd.shrink(hW:Wd S w0 H w)(hk:H[k]?=O (G (O ⟨b,o,U⟩) n c e s xs))(m:Nat)(hm:m<=n):
  Wd S w0 (H.set k (G (O ⟨b,o,U⟩) m c e s (xs.take (m*s)))) w:=by
 obtain⟨hl,qg,ED,pre,sp,rfl,EP,hb⟩:=hW.nj hk;have ce:b<w.heap.size:=(jl.1 hb).1;have YU:m*s<=n*s:=sQ _ hm;refine hW.nV hk (nX.refl _ _) (λb' oX=>?_) λw2 lP=>?_
 ·simp only[G,b_,cF]at oX|-
  subst oX;exact⟨.inl rfl,ce⟩
 ·have:=lP b (by simp[G])
  refine⟨by rw[dA];omega,.inr ⟨b,pre,xs.drop (m*s)++sp,rfl,A,ED,?_,?_⟩⟩
  ·rw[bW,eS,hl]
   have h1:(c-m)*s=(c-n)*s+(n-m)*s:=by rw[<-lk];congr 1;omega
   have h2:(n-m)*s=n*s-m*s:=Nat.sub_mul _ _ _;omega
  ·rw[this,hb]
   have:pre++xs++sp=pre++xs.take (m*s)++(xs.drop (m*s)++sp):=by
    rw[fu,fu,<-fu (xs.take _),List.take_append_drop]
   rw[this]
theorem T5(k:Nat)(hk:H[k]?=O (G (O ⟨b,o,U⟩) n c e s xs))(m:Nat)(hm:m<=n)
  (kk:cU N ds S w0 L (H.set k (G (O ⟨b,o,U⟩) m c e s (xs.take (m*s)))) p):cU N ds S w0 L H p:=λa w hS=>kk a w ⟨hS.fr,hS.wd.shrink hk m hm⟩
theorem HY{pos:String}{aft:Array Go.Edge}(k:Nat){ay:ax}[h:dt P T e s qz zs][hx:Ev L x (I (O ⟨b,o,U⟩) i c)][hy:Ev L y (I ay m c2)]
  (hk:H[k]?=O (G (O ⟨b,o,U⟩) n c e s xs)) (hay:0<m->ay=O ⟨b,o+j*s,U⟩) (hi:i+m<=n) (hj:j+m<=n) (h1:∀v∈xs,v.oneCell'=true) (a:Act) (w:ae) (hS:St N ds S w0 L H a w):
  ∃w',(execOp a.eval ⟨O d,.call {callee:=.builtin .append,args:=#[x,y],argTypes:=#[T,T]},ty,pos,aft,U⟩).run P w=.ok (.value (I (O ⟨b,o,U⟩) (i+m) c)) w'/\Wd S w0 (H.set k (G (O ⟨b,o,U⟩) n c e s (xs.take (i*s)++(xs.drop (j*s)).take (m*s)++xs.drop (i*s+m*s)))) w':=by
 obtain⟨hl,qg,ED,pre,sp,_,EP,hb⟩:=hS.wd.nj hk;obtain⟨inf,zv,ab6,hzv,gW,h2,h3⟩:=h.get;subst h2;have hjs:j*inf.size+m*inf.size<=n*inf.size:=by rw[<-lk];exact sQ _ hj
 have his:i*inf.size+m*inf.size<=n*inf.size:=by rw[<-lk];exact sQ _ hi
 have yS:((xs.drop (j*inf.size)).take (m*inf.size)).length=m*inf.size:=by rw[dA,eS];omega
 have hf:(Builtin.firstCells inf.size m (I ay m c2)).run P w=.ok ((xs.drop (j*inf.size)).take (m*inf.size)).toArray w:=by
  by_cases hm:0<m
  ·rw[hay hm]
   refine run_firstCells_some (P:=P) w inf.size m _ m c2 _ yS λt v ht=>?_;rw[Addr.add_lit,eB];refine hS.wd.dp hk ?_;have EQ:t<m*inf.size:=by rw[<-yS];exact(aJ.1 ht).1
   rw[yf EQ,gp]at ht;exact ht
  ·have:m=0:=A
   subst this;have h0:((xs.drop (j*inf.size)).take (0*inf.size)).toArray= #[]:=by simp
   rw[h0];cases ay with
   |none=>exact run_firstCells_none _ _ _ _ _
   |some q=>exact run_firstCells_some (P:=P) w inf.size 0 q 0 c2 [] cK cK
 obtain⟨w',kE,zp⟩:=hS.wd.Jn (P:=P) hk (i*inf.size) (vs:=(xs.drop (j*inf.size)).take (m*inf.size)) (λv hv=>h1 v (List.mem_of_mem_drop (nz hv))) (by rw[yS];omega);rw[yS]at zp;have Bf:i+m<=c:=A;exact⟨w',by simp[execOp,resolve,invoke,builtin,hx.eq _ _ _ hS.fr,hy.eq _ _ _ hS.fr,Builtin.append_,run_underlying h.sy,sizeOf,typeInfo,ab6,Builtin.lenOf,Bf,hf,Addr.add_lit,kE],zp⟩
theorem Nl{dw:Act->ae->Prop}{l:List Oper}{di:Nat}{listed:Array Bool}{Hr:List cq}{pos:String}{aft:Array Go.Edge}(i0 k:Nat){ay:ax}[ho:eJ l i0 ⟨O d,.call {callee:=.builtin .append,args:=#[x,y],argTypes:=#[T,T]},ty,pos,aft,U⟩][h:dt P T e s qz zs][hx:Ev L x (I (O ⟨b,o,U⟩) i c)][hy:Ev L y (I ay m c2)]
  (hk:H[k]?=O (G (O ⟨b,o,U⟩) n c e s xs)) (hay:0<m->ay=O ⟨b,o+j*s,U⟩) (hi:i+m<=n) (hj:j+m<=n) (h1:∀v∈xs,v.oneCell'=true) (hd:ev d N L=true)
  (hr:decide (eZ .any l.toArray listed=[i0])=true) (Ud:Hr.Sublist (H.set k (G (O ⟨b,o,U⟩) n c e s (xs.take (i*s)++(xs.drop (j*s)).take (m*s)++xs.drop (i*s+m*s)))))
  (kk:cU N ds S w0 ((d,I (O ⟨b,o,U⟩) (i+m) c)::L) (H.set k (G (O ⟨b,o,U⟩) n c e s (xs.take (i*s)++(xs.drop (j*s)).take (m*s)++xs.drop (i*s+m*s)))) (wpAnyH P .any l.toArray (et dw) (Wd S w0 Hr) di (listed.setIfInBounds i0 true))):
  cU N ds S w0 L H (wpAnyH P .any l.toArray (et dw) (Wd S w0 Hr) (di+1) listed):=
 G0 i0 rfl hr λa w hS=>by
  obtain⟨w',h2,h3⟩:=HY (P:=P) (d:=d) (ty:=ty) (pos:=pos) (aft:=aft) (h:=h) (hx:=hx) (hy:=hy) k hk hay hi hj h1 a w hS;exact⟨_,w',h2,h3.sub Ud,kk _ _ ⟨hS.fr.fv hd _,h3⟩⟩
class JF(lo n:Nat):Prop where
 le:lo<=n
def MZ(b o lo s c:Nat):ax:=if c=lo then O ⟨b,o,U⟩else O ⟨b,o+lo*s,U⟩
instance{lo:Nat}[hx:Ev L x (I (O ⟨b,o,U⟩) n c)][hl:Ev L y (J Z (lo:Int))][h:gv P T s][hc:JF lo n]:gg P N ds S w0 L H (.slice T x (O y) U U) (I (MZ b o lo s c) (n-lo) (c-lo)):=
 ⟨λ_ h=>(by cases h),λ_ _ h=>(by cases h),λ_ _ _ _ _ a w hF _=>by
  have hr:=run_slice_l (P:=P) w T (O ⟨b,o,U⟩) n c h.sy Z lo A (by have:=hc.le;omega)
  simp[execOp,hx.eq _ _ _ hF,hl.eq _ _ _ hF,run_sliceAt_slice (P:=P) w T _ _ _ _ h.sy,hr,h.sz,sliced,Addr.add_lit,MZ]⟩
theorem abn{ad:ax}{pos:String}{aft:Array Go.Edge}[hx:Ev L x (I ad n c)][hy:Ev L y (J Z (i:Int))][hz:Ev L z (J Z (j:Int))][hu:Ev L u (J Z (m:Int))][h:gv P T s](hd:ev d N L=true)(h1:i<=j/\j<=m/\m<=c)
  (kk:∀v,cU N ds S w0 ((d,v)::L) H (wpListIn (FW ro) 0 P ops Q rest)):cU N ds S w0 L H (wpListIn (FW ro) 0 P ops Q (⟨O d,.slice T x (O y) (O z) (O u),ty,pos,aft,U⟩::rest)):=λa w hS=>by
 have hr:=run_slice_lhm (P:=P) w T ad n c h.sy Z Z Z i j m A A A A;refine gj (v:=sliced ad (i:Int).toNat (j:Int).toNat (m:Int).toNat s) (w':=w) rfl (λ_ h=>by cases h) ?_ (kk _ _ _ ⟨hS.fr.fv hd _,hS.wd⟩);simp[execOp,hx.eq _ _ _ hS.fr,hy.eq _ _ _ hS.fr,hz.eq _ _ _ hS.fr,hu.eq _ _ _ hS.fr,run_sliceAt_slice (P:=P) w T _ _ _ _ h.sy,hr,h.sz]
theorem abm{pos:String}{aft:Array Go.Edge}[hx:Ev L x (I (O ⟨b,o,U⟩) n c)][hy:Ev L y (J Z (i:Int))][hz:Ev L z (J Z (j:Int))][h:gv P T s](hd:ev d N L=true)(h1:i<=j/\j<=c/\i<c)
  (kk:cU N ds S w0 ((d,I (O ⟨b,o+i*s,U⟩) (j-i) (c-i))::L) H (wpListIn (FW ro) 0 P ops Q rest)):cU N ds S w0 L H (wpListIn (FW ro) 0 P ops Q (⟨O d,.slice T x (O y) (O z) U,ty,pos,aft,U⟩::rest)):=λa w hS=>by
 have hr:=run_slice_lh (P:=P) w T (O ⟨b,o,U⟩) n c h.sy Z Z i j A A A;have fZ:¬c=i:=A;refine gj (v:=.slice (O ⟨b,o+i*s,U⟩) (j-i) (c-i)) (w':=w) rfl (λ_ h=>by cases h) ?_ (kk _ _ ⟨hS.fr.fv hd _,hS.wd⟩);simp[execOp,hx.eq _ _ _ hS.fr,hy.eq _ _ _ hS.fr,hz.eq _ _ _ hS.fr,run_sliceAt_slice (P:=P) w T _ _ _ _ h.sy,hr,h.sz,sliced,fZ,Addr.add_lit]
theorem TX{pos:String}{aft:Array Go.Edge}(k:Nat)[h:dt P T e s qz zs][hx:Ev L x (I (O ⟨b,off,U⟩) 1 c2)]
  (hk:H[k]?=O (G (O ⟨b,o,U⟩) n c e s xs)) (xA:off=o+j*s) (hj:j<n) (NP:zs.length=s) (h1:∀v∈zs,v.oneCell'=true)
  (kk:cU N ds S w0 L (H.set k (G (O ⟨b,o,U⟩) n c e s (xs.take (j*s)++zs++xs.drop (j*s+s)))) (wpListIn (FW ro) 0 P ops Q rest)):
  cU N ds S w0 L H (wpListIn (FW ro) 0 P ops Q (⟨U,.call {callee:=.builtin .clear,args:=#[x],argTypes:=#[T]},ty,pos,aft,U⟩::rest)):=by
 intro a w hS;subst xA;obtain⟨hl,qg,ED,pre,sp,_,EP,hb⟩:=hS.wd.nj hk;obtain⟨inf,zv,ab6,hzv,gW,h2,h3⟩:=h.get;subst h2;have hjs:j*inf.size+inf.size<=n*inf.size:=by rw[<-Nat.succ_mul];exact sQ _ hj
 obtain⟨w',kE,zp⟩:=hS.wd.Jn (P:=P) hk (j*inf.size) (vs:=zs) h1 A;rw[NP]at zp;have Cu:(bj zs.length).map (λi=>zs[i%zs.length]?.getD default)=zs:=by
  apply cY;intro i
  by_cases hi:i<zs.length
  ·rw[aW,gq hi]
   simp[Nat.mod_eq_of_lt hi,bL hi]
  ·rw[cm dr,cm A]
 refine gj (v:=.tuple #[]) (w':=w') rfl (λ_ h=>by cases h) ?_ (kk _ _ ⟨hS.fr,zp⟩);simp[execOp,resolve,invoke,builtin,hx.eq _ _ _ hS.fr,Builtin.clear_,run_underlying h.sy,zeroValue,typeInfo,ab6,hzv,gW,Builtin.zeroCells,Cu,kE]
end
theorem Qc{l:List cI}:∀v∈l.flatMap mm,v.oneCell'=true:=λv hv=>by
 obtain⟨x,_,hx⟩:=dg.1 hv;simp only[mm,bX,gr,or_false]at hx;rcases hx with rfl|rfl<;>rfl
theorem J8(ad:ax)(c:Nat)(l:List cI)(k:Nat)(hk:k<l.length)(hb:l.length<=1000)(w0:ae)(hW:Wd (df [ar ad l.length c l]) w0 [ar ad l.length c l] w0):
  iL Y 170 [I ad l.length c,J Z k,J Z (k+1:Nat)] w0 λu w'=>u=I ad (l.length-1) c/\Wd (df [ar ad l.length c l]) w0 [ar ad (l.length-1) c (l.eraseIdx k)] w':=by
 refine aR func170 rfl ntmps170 rfl hW ?_;refine fy 0 rfl A λvb vo qt=>?_;subst qt;refine DO 0 rfl λ_ qg abL=>?_;refine bA ?_;refine abn rfl ⟨A,A,A⟩ λv=>?_;refine bA ?_;rw[show decide ((k:Int)=((k+1:Nat):Int))=false by simp;omega];refine aU ?_;have c1:JG k c:=⟨A⟩;have c2:JF (k+1) l.length:=⟨hk⟩;refine vX [] mixed aB ?_;refine W 0 ?_;refine W 1 ?_;refine W 2 ?_;refine W 3 ?_;refine W 4 ?_;refine W 5 ?_;refine Nl 6 0 (j:=k+1) rfl (λhm=>by unfold MZ;rw[ai A]) A A Qc rfl E aB ?_;rw[show k+(l.length-(k+1))=l.length-1 by omega];refine Kj 0 ?_;refine W 7 ?_;refine ef E ?_;simp only[bI];refine bA ?_;refine abm rfl ⟨A,A,A⟩ ?_;rw[show l.length-(l.length-1)=1 by omega]
 have hE:(l.flatMap mm).take (k*2)++((l.flatMap mm).drop ((k+1)*2)).take ((l.length-(k+1))*2)=(l.eraseIdx k).flatMap mm:=by
  rw[(oj eQ l k).1,(oj eQ l (k+1)).2,jR (l:=(l.drop (k+1)).flatMap mm) (by rw[cA eQ,eS];omega),List.eraseIdx_eq_take_drop_succ,ee]
 rw[hE];have hEl:((l.eraseIdx k).flatMap mm).length=(l.length-1)*2:=by rw[cA eQ,List.length_eraseIdx,al hk]
 refine TX 0 rfl rfl A rfl (by simp[Value.oneCell']) ?_;simp only[bI];refine T5 0 rfl (l.length-1) A ?_;simp only[bI];rw[fu,mg (by rw[dA,bW];omega),List.take_take,Nat.min_self,mg A,jR A];refine aU ?_;exact dh rfl λw hw=>⟨rfl,hw⟩
end
end
section
def pz(w w':ae):Prop:=∀p v,w.cell? p=O v->w'.cell? p=O v
theorem ct.le(h:pz w w')(hc:ct w b o cs):ct w' b o cs:=λj v hj=>h _ _ (hc j v hj)
def AB{α:Type}(dL:ae->α->List K->Prop):Prop:=∀w w',pz w w'->∀x cs,dL w x cs->dL w' x cs
theorem aY.le{dL:ae->α->List K->Prop}(hV:AB dL)(h:pz w w'){l:List α}(hs:aY w v s l dL):aY w' v s l dL:=by
 obtain⟨a,n,c,b,o,h1,h2,h3,hz,h4,h5,h6⟩:=hs;refine⟨a,n,c,b,o,h1,h2,h3,hz,h4,h5,λi x hx=>?_⟩;obtain⟨cs,hc,hv⟩:=h6 i x hx;exact⟨cs,hc.le h,hV w w' h x cs hv⟩
theorem ry:AB gI:=λ_ _ _ _ _ h=>h
theorem Bu:AB mp:=λ_ _ _ _ _ h=>h
theorem Br:AB dQ:=λ_ _ hc _ _ ⟨v,h1,h2⟩=>⟨v,h1,h2.le ry hc⟩
theorem E7:AB B_:=λ_ _ hc _ _ ⟨v,h1,h2,h3⟩=>⟨v,h1,h2,h3.le Bu hc⟩
theorem Lm:AB Dm:=λ_ _ hc _ _ ⟨v,h1,h2,h3,h4,h5,h6,h7⟩=>⟨v,h1,h2,h3,h4,h5,h6,h7.le Bu hc⟩
theorem E6:AB da:=λ_ _ hc _ _ ⟨p,l,t,h1,h2,h3,h4,h5,h6⟩=>⟨p,l,t,h1,h2,h3,h4.le E7 hc,h5.le Lm hc,h6.le ry hc⟩
def Clean(S:Nat->Prop)(w:ae):Prop:=∀p v,w.cell? p=O v->¬S p.block
theorem Ee(S:Nat->Prop)(w:ae):Clean S (cC S w):=λ_ _ h=>(oZ h).1
theorem Clean.I9{S:Nat->Prop}(h:Clean S w){l:List K}(hc:ct w b o (v::l)):iO S b:=⟨h _ _ (hc 0 v rfl)⟩
section
variable {P:Program} {ro:Option Nat} {N:Nat} {ds:List Deferred} {S:Nat->Prop} {w0 w:ae} {L:List (Nat×K)} {H H1 H2 Hr:List cq} {ops:Array Oper} {rest:List Oper} {Q:Exit->Act->ae->Prop} {dw:Act->ae->Prop} {l:List Oper} {di:Nat} {listed:Array Bool}
theorem Clean.le(kV:Clean S w0)(hw:Wd S w0 (H1++H2) w):pz w0 (cC (df H1) w):=λp v hc=>by
 have ce:=jC w0 p hc;have hS:=kV p v hc;rw[<-hc];refine World.cell?_of_block ((kL w λ⟨e,he,hb⟩=>?_).trans (hw.c_.block _ ce hS));have:=(hw.own e (cM _ he) _ hb).1;exact this.elim hS λh=>by omega
theorem Clean.now(kV:Clean S w0)(hw:Wd S w0 H w):pz w0 w:=λp v hc=>by
 rw[<-hc];exact World.cell?_of_block (hw.c_.block _ (jC w0 p hc) (kV p v hc))
theorem Yl{val:α->K}{cZ:α->List cq}{φ:α->Prop}{f:Nat}{args:List Operand}{tJ:Array Nat}{pos:String}{aft:Array Go.Edge}[h:bf P f][hx:B8 L args vs](kV:Clean S w0)(hd:ev d N L=true)
  (hc:∀wz w,Clean (df H1) wz->pz w0 wz->Wd (λ_=>True) wz H2 wz->Wd (df H1) wz H1 w->iL P f vs w λu w'=>∃x,u=val x/\Wd (df H1) wz (cZ x) w'/\φ x)
  (k:∀x,φ x->cU N ds S w0 ((d,val x)::L) (cZ x++H2) (wpListIn (FW ro) 0 P ops Q rest)):cU N ds S w0 L (H1++H2) (wpListIn (FW ro) 0 P ops Q (⟨O d,.call {callee:=.value (.func f),args:=args.toArray,argTypes:=tJ},ty,pos,aft,U⟩::rest)):=
 fO hd (λw hw=>(hc (cC (df H1) w) w (Ee _ _) (kV.le hw) hw.kw hw.adh).mono λ_ _ ⟨x,h1,h2,h3⟩=>⟨x,h1,h2.ni,h3⟩) k
end
def BX(x:Int):Int:=IntKind.i64.wrap x
def JW(f:BitVec 64->BitVec 64->BitVec 64)(x y:Int):Int:=BX ((f (BitVec.ofInt 64 x) (BitVec.ofInt 64 y)).toNat:Int)
def adF(x y:Int):Int:=JW (·&&& ·) x y
def adQ(y:Int):Nat:=min (adF y 63).toNat 64
def Sr(b:Bool):Int:=if b then 1 else 0
def Xb(op a b:Int):Option Int:=
 if op=1 then O a else if op=2 then O (BX (a+b))else if op=3 then O (BX (a-b))else if op=4 then O (BX (a*b))
 else if op=5 then(if b=0 then U else O (BX (a.tdiv b)))else if op=6 then(if b=0 then U else O (a.tmod b))
 else if op=7 then O (adF a b)else if op=8 then O (JW (·|||·) a b)else if op=9 then O (JW (·^^^·) a b)
 else if op=10 then O (BX (a*2 ^adQ b))else if op=11 then O (a.fdiv (2 ^adQ b))
 else if op=12 then O (Sr (decide (a=b)))else if op=13 then O (Sr (!decide (a=b)))else if op=14 then O (Sr (decide (a<b)))else if op=15 then O (Sr (decide (a<=b)))
 else if op=16 then O (BX (0-a))else if op=17 then O (JW (·^^^·) (-1) a)else O 0
structure sD where
 fn:Nat
 block:Nat
 at':Nat
 bm:List Int
 dst:Int
structure nZ where
 mem:List Int
 mE:List Int
 out:List Int
 steps:Nat
 rest:List sD
 dC:sD
 counts:List (List Nat)
structure Fin where
 state:Int
 value:Int
 out:List Int
 steps:Nat
 counts:List (List Nat)
def nZ.stop(s:nZ)(state value:Int):Fin:=⟨state,value,s.out,s.steps,s.counts⟩
def iU(t:sD)(v:cI):Int:=if v.dq then t.bm.getD v.n.toNat 0 else v.n
def LQ(bm:List Int)(dst n:Int):List Int:=if 0<=dst then bm.set dst.toNat n else bm
def sD.set(t:sD)(dst n:Int):sD:={t with bm:=LQ t.bm dst n}
def bump(counts:List (List Nat))(k b:Nat):List (List Nat):=counts.modify k λl=>l.modify b (·+1)
def nZ.set(s:nZ)(dst n:Int):nZ:={s with dC:=s.dC.set dst n}
def pe(t:sD)(k:Nat)(bg:List gD):List Int:=bg.foldl (λbm p=>bm.set p.dst.toNat (iU t (p.src.getD k lB))) t.bm
def Bm(u:dk)(s:nZ)(to:Int):nZ:=
 let bl:=match u.funcs[s.dC.fn]? with|some X=>X.blocks|none=>[]
 let k:=(be bl to.toNat).idxOf s.dC.block
 {s with dC:={s.dC with bm:=pe s.dC k (kO bl to.toNat),block:=to.toNat,at':=0},counts:=bump s.counts s.dC.fn to.toNat}
def pH(n:Nat)(args:List Int):List Int:=(args++aI n 0).take n
def zL(u:dk)(s:nZ)(fn:Nat)(dst:Int)(args:List Int):nZ:=
 let n:=match u.funcs[fn]? with|some X=>X.bm.toNat|none=>0
 {s with rest:=s.rest++[s.dC],dC:=⟨fn,0,0,pH n args,dst⟩,counts:=bump s.counts fn 0}
def sV(u:dk)(s:nZ)(B:aq):nZ ⊕ Fin:=
 if B.kind=2 then .inl (Bm u s (B.to.getD 0 0))
 else if B.kind=3 then .inl (Bm u s (if iU s.dC B.on≠0 then B.to.getD 0 0 else B.to.getD 1 0))
 else match s.rest.getLast? with
  |none=>.inr (s.stop 0 (iU s.dC B.on))
  |some t=>.inl {s with rest:=s.rest.dropLast,dC:=t.set s.dC.dst (iU s.dC B.on)}
def vl(u:dk)(s:nZ)(x:iA):nZ ⊕ Fin:=
 let a:=iU s.dC x.a
 let b:=iU s.dC x.b
 if x.op=18\/x.op=19 then
  if !within a 0 ((s.mem.length:Int)-1)then .inr (s.stop 3 0)
  else if x.op=19 then .inl {s with mem:=s.mem.set a.toNat b}else .inl (s.set x.dst (s.mem.getD a.toNat 0))
 else if x.op=20 then(if s.rest.length+1=30 then .inr (s.stop 4 0)else .inl (zL u s x.fn.toNat x.dst (x.args.map (iU s.dC))))
 else if x.op=21 then .inl {s with dC:=s.dC.set x.dst (s.mE.headD (-1)),mE:=s.mE.tail}
 else if x.op=22 then(if s.out.length=200 then .inr (s.stop 5 0)else .inl {s with out:=s.out++[a]})
 else match Xb x.op a b with
  |none=>.inr (s.stop 2 0)
  |some n=>.inl (s.set x.dst n)
def uq(u:dk)(t:sD):aq:=match u.funcs[t.fn]? with
 |some X=>X.blocks.getD t.block ⟨[],[],1,lB,[]⟩
 |none=>⟨[],[],1,lB,[]⟩
def nM(u:dk)(s:nZ):nZ ⊕ Fin:=
 let B:=uq u s.dC
 let s1:={s with steps:=s.steps+1}
 match B.list[s.dC.at']? with
 |none=>sV u s1 B
 |some x=>vl u {s1 with dC:={s1.dC with at':=s1.dC.at'+1}} x
def tE(u:dk):Nat->nZ->Fin
 |0,s=>s.stop 1 0
 |n+1,s=>match nM u s with
  | .inl s'=>tE u n s'
  | .inr f=>f
def IX(gs:List lD):List Int:=gs.flatMap λg=>g.init++aI (g.size.toNat-g.init.length) 0
def pW(u:dk)(input:List Int):nZ:=
 let m:=(fE u.funcs).toNat
 let n:=match u.funcs[m]? with|some X=>X.bm.toNat|none=>0
 ⟨IX u.globals,input,[],0,[],⟨m,0,0,aI n 0,-1⟩,bump (u.funcs.map λX=>aI X.blocks.length 0) m 0⟩
def lI(u:dk)(input:List Int)(di:Nat):Fin:=tE u di (pW u input)
theorem tI(x:Int):dE (BX x):=by
 unfold BX dE;rw[IntKind.wrap_i64];omega
theorem Z5{b:Int}(h:dE a):dE (a.tmod b):=by
 have h1:(a.tmod b).natAbs<=a.natAbs:=by
  rw[Int.natAbs_tmod];exact Nat.mod_le _ _
 unfold dE at*;rcases Int.le_total 0 a with h0|h0
 ·have:=Int.tmod_nonneg b h0
  omega
 ·have h2:a.tmod b<=0:=by
   have:=Int.tmod_nonneg b (a:=-a) A;rw[Int.neg_tmod]at this;omega
  omega
theorem Yf(k:Nat)(h:dE a):dE (a.fdiv (2 ^k)):=by
 have hp:(0:Int)<2 ^k:=Int.pow_pos A;rw[Int.fdiv_eq_ediv_of_nonneg _ A];unfold dE at*;constructor
 ·rcases Int.le_total 0 a with h0|h0
  ·have:=Int.ediv_nonneg h0 (by omega:(0:Int)<=2 ^k)
   omega
  ·have h2:a<=a/2 ^k:=by
    rw[Int.le_ediv_iff_mul_le hp];have:a*2 ^k<=a*1:=Int.mul_le_mul_of_nonpos_left h0 A;omega
   omega
 ·rcases Int.le_total 0 a with h0|h0
  ·have:=Int.ediv_le_self (2 ^k) h0
   omega
  ·have h2:a/2 ^k<=0:=by
    have h3:a/2 ^k<1:=by rw[Int.ediv_lt_iff_lt_mul hp];omega
    omega
   omega
theorem Jp(b:Bool):dE (Sr b):=by cases b<;>simp[Sr,dE]
theorem DK(f:BitVec 64->BitVec 64->BitVec 64)(x y:Int):dE (JW f x y):=tI _
theorem adq{op b n:Int}(ha:dE a)(h:Xb op a b=O n):dE n:=by
 unfold Xb at h
 by_cases h1:op=1
 ·rw[al h1]at h
  rw[<-bJ h];exact ha
 rw[ai h1]at h
 by_cases h2:op=2
 ·rw[al h2]at h
  rw[<-bJ h];exact tI _
 rw[ai h2]at h
 by_cases h3:op=3
 ·rw[al h3]at h
  rw[<-bJ h];exact tI _
 rw[ai h3]at h
 by_cases h4:op=4
 ·rw[al h4]at h
  rw[<-bJ h];exact tI _
 rw[ai h4]at h
 by_cases h5:op=5
 ·rw[al h5]at h
  by_cases hb:b=0
  ·rw[al hb]at h;cases h
  ·rw[ai hb]at h;rw[<-bJ h];exact tI _
 rw[ai h5]at h
 by_cases h6:op=6
 ·rw[al h6]at h
  by_cases hb:b=0
  ·rw[al hb]at h;cases h
  ·rw[ai hb]at h;rw[<-bJ h];exact Z5 ha
 rw[ai h6]at h
 by_cases h7:op=7
 ·rw[al h7]at h
  rw[<-bJ h];exact DK _ _ _
 rw[ai h7]at h
 by_cases h8:op=8
 ·rw[al h8]at h
  rw[<-bJ h];exact DK _ _ _
 rw[ai h8]at h
 by_cases h9:op=9
 ·rw[al h9]at h
  rw[<-bJ h];exact DK _ _ _
 rw[ai h9]at h
 by_cases Ss:op=10
 ·rw[al Ss]at h
  rw[<-bJ h];exact tI _
 rw[ai Ss]at h
 by_cases Kn:op=11
 ·rw[al Kn]at h
  rw[<-bJ h];exact Yf _ ha
 rw[ai Kn]at h
 by_cases h12:op=12
 ·rw[al h12]at h
  rw[<-bJ h];exact Jp _
 rw[ai h12]at h
 by_cases h13:op=13
 ·rw[al h13]at h
  rw[<-bJ h];exact Jp _
 rw[ai h13]at h
 by_cases h14:op=14
 ·rw[al h14]at h
  rw[<-bJ h];exact Jp _
 rw[ai h14]at h
 by_cases h15:op=15
 ·rw[al h15]at h
  rw[<-bJ h];exact Jp _
 rw[ai h15]at h
 by_cases h16:op=16
 ·rw[al h16]at h
  rw[<-bJ h];exact tI _
 rw[ai h16]at h
 by_cases h17:op=17
 ·rw[al h17]at h
  rw[<-bJ h];exact DK _ _ _
 rw[ai h17]at h;rw[<-bJ h];simp[dE]
structure MC(u:dk)(R:Nat)(x:iA):Prop where
 op:1<=x.op/\x.op<=22
 a:kW R x.a
 b:kW R x.b
 dst:0<=x.dst->x.dst<R
 args:∀v∈x.args,kW R v
 few:x.args.length<=1000
 call:x.op=20->∃(k:Nat) (cP:bZ),x.fn=k/\u.funcs[k]?=O cP/\(x.args.length:Int)=cP.params
 Af:dE x.dst/\dE x.a.n/\dE x.b.n/\∀v∈x.args,dE v.n
structure aa3(u:dk)(R:Nat)(B:aq):Prop where
 kind:(B.kind=1\/B.kind=2\/B.kind=3)/\(B.to.length:Int)=B.kind-1
 on:kW R B.on/\dE B.on.n
 list:B.list.length<=1000/\∀x∈B.list,MC u R x
 bg:B.bg.length<=1000/\∀q∈B.bg,∀v∈q.src,dE v.n
structure aaj(u:dk)(X:bZ)(R:Nat):Prop where
 bm:X.bm=R
 le:R<=100
 ok:eW R X.blocks
 pos:0<X.blocks.length
 few:X.blocks.length<=100
 params:0<=X.params/\X.params<=R
 dD:∀B∈X.blocks,aa3 u R B
def tV(u:dk):Prop:=u.funcs.length<=1000/\∀(k:Nat) (X:bZ),u.funcs[k]?=O X->∃R,aaj u X R
structure sN(u:dk)(f:sD)(X:bZ)(R:Nat):Prop where
 get:u.funcs[f.fn]?=O X
 fit:aaj u X R
 bm:f.bm.length=R
 block:f.block<X.blocks.length
 Af:∀x∈f.bm,dE x
 dst:dE f.dst
 at':∀B,X.blocks[f.block]?=O B->f.at'<=B.list.length
def shp(f:sD):Nat×Int:=(f.bm.length,f.dst)
def MA(l:List (Nat×Int)):Prop:=∀i p q,l[i]?=O p->l[i+1]?=O q->0<=q.2->q.2<p.1
theorem MA.add{p:Nat×Int}(h:MA (l++[p]))(hq:0<=q.2->q.2<p.1):MA (l++[p]++[q]):=λi a b ha hb h0=>by
 by_cases hi:i+1<(l++[p]).length
 ·rw[eX A]at ha
  rw[eX hi]at hb;exact h i a b ha hb h0
 ·have hl:(l++[p]).length=l.length+1:=by simp
  have oX:=(aJ.1 hb).1;have UR:(l++[p]++[q]).length=l.length+2:=by simp
  have iM:i=l.length:=A;subst iM;rw[eX A]at ha;rw[dH A,hl,cV]at hb;simp at ha hb;subst ha hb;exact hq h0
theorem MA.drop(h:MA (l++[q])):MA l:=λi a b ha hb h0=>by
 have h1:=(aJ.1 ha).1;have h2:=(aJ.1 hb).1;exact h i a b (by rw[eX h1];exact ha) (by rw[eX h2];exact hb) h0
structure mM(u:dk)(c:Nat)(s:nZ):Prop where
 dC:∃X R,sN u s.dC X R
 rest:∀f∈s.rest,∃X R,sN u f X R
 dst:MA ((s.rest++[s.dC]).map shp)
 rH:s.counts.length=u.funcs.length/\∀(k:Nat) (X:bZ),u.funcs[k]?=O X->∃l,s.counts[k]?=O l/\l.length=X.blocks.length/\∀x∈l,x<=c
 deep:s.rest.length+1<=30
 out:s.out.length<=200/\∀x∈s.out,dE x
 mem:s.mem.length<=100000/\∀x∈s.mem,dE x
 mE:∀x∈s.mE,dE x
theorem BT{f:sD}(h:sN u f X R){v:cI}(hv:kW R v)(hn:dE v.n):dE (iU f v):=by
 unfold iU
 split
 ·rename_i hr
  obtain⟨h0,h1⟩:=hv hr;have:=h.bm;rw[fF,bL A,gw];exact h.Af _ (my _)
 ·exact hn
theorem Am{bm:List Int}{n:Int}(h:∀x∈bm,dE x)(hn:dE n):∀x∈bm.set d n,dE x:=λx hx=>by
 rcases j_ hx with h1|rfl
 ·exact h x h1
 ·exact hn
theorem sN.set{f:sD}(h:sN u f X R)(dst:Int){n:Int}(hn:dE n):sN u (f.set dst n) X R:=by
 refine⟨h.get,h.fit,?_,h.block,?_,h.dst,h.at'⟩
 ·unfold sD.set LQ;simp only;split<;>simp[h.bm]
 ·unfold sD.set LQ
  simp only
  split
  ·exact Am h.Af hn
  ·exact h.Af
theorem P3(f:sD)(dst n:Int):shp (f.set dst n)=shp f:=by unfold shp sD.set LQ;simp only;split<;>simp
theorem Eb{cs:List (List Nat)}(h:cs.length=u.funcs.length/\∀(k:Nat) (X:bZ),u.funcs[k]?=O X->∃l,cs[k]?=O l/\l.length=X.blocks.length/\∀x∈l,x<=c)(k b:Nat):
  (bump cs k b).length=u.funcs.length/\∀(j:Nat) (X:bZ),u.funcs[j]?=O X->∃l,(bump cs k b)[j]?=O l/\l.length=X.blocks.length/\∀x∈l,x<=c+1:=by
 refine⟨by unfold bump;rw[List.length_modify];exact h.1,λj X hX=>?_⟩;obtain⟨l,h1,h2,h3⟩:=h.2 j X hX;unfold bump;rw[rU,h1]
 by_cases e:k=j
 ·refine⟨_,rfl,?_,?_⟩
  ·simp[e,h2]
  ·intro x hx
   simp only[e,ite_true]at hx;obtain⟨i,hi⟩:=bR hx;rw[rU]at hi;obtain⟨y,hy,rfl⟩:=ff.1 hi;have:=h3 y (aA hy)
   split<;>omega
 ·exact⟨l,by simp[e],h2,λx hx=>by have:=h3 x hx;omega⟩
theorem Wt{f:sD}(h:sN u f X R)(k:Nat)(l:List gD)(hl:∀q∈l,dE (iU f (q.src.getD k lB))):(pe f k l).length=R/\∀x∈pe f k l,dE x:=by
 unfold pe;have:∀(rs:List Int),rs.length=R->(∀x∈rs,dE x)->(l.foldl (λbm p=>bm.set p.dst.toNat (iU f (p.src.getD k lB))) rs).length=R/\∀x∈l.foldl (λbm p=>bm.set p.dst.toNat (iU f (p.src.getD k lB))) rs,dE x:=by
  clear h
  induction l with
  |nil=>exact λrs h1 h2=>⟨h1,h2⟩
  |cons q l ih=>
   intro rs h1 h2;rw[jZ];exact ih (λq hq=>hl q (ey _ hq)) _ (by rw[fK];exact h1) (Am h2 (hl q cK))
 exact this f.bm h.bm h.Af
theorem W5{np:Nat}{q:gD}(h:aal R np q)(hk:k<np):∃v∈q.src,q.src.getD k lB=v:=by
 have:=h.len;exact⟨q.src[k]'A,my _,by rw[fF,bL A];rfl⟩
structure ady(X:bZ)(b to:Nat)(T:aq):Prop where
 get:X.blocks[to]?=O T
 mem:b∈be X.blocks to
theorem T8{f:sD}(h:sN u f X R)(hB:X.blocks[f.block]?=O B){t:Int}(ht:t∈B.to):∃(to:Nat) (T:aq),t=to/\ady X f.block to T:=by
 have hg:=(h.fit.ok.iD B (aA hB)).2 t ht;obtain⟨to,rfl⟩:∃to:Nat,t=to:=⟨t.toNat,A⟩;exact⟨to,X.blocks[to]'A,rfl,bL _,qN h.block (by unfold dY;rw[hB];exact ht)⟩
theorem Vz{s:nZ}(hX:u.funcs[s.dC.fn]?=O X){to:Nat}{T:aq}(hT:X.blocks[to]?=O T):Bm u s to={s with dC:={s.dC with bm:=pe s.dC ((be X.blocks to).idxOf s.dC.block) T.bg,block:=to,at':=0},counts:=bump s.counts s.dC.fn to}:=by
 unfold Bm kO;simp only[hX,fR,hT]
theorem IS{s:nZ}(h:mM u c s)(hf:sN u s.dC X R){to:Nat}{T:aq}(hg:ady X s.dC.block to T):mM u (c+1) (Bm u s to):=by
 rw[Vz hf.get hg.get];have hTm:=aA hg.get;have pJ:=hf.fit.dD T hTm;have dV:=hf.fit.ok.block to T hg.get;obtain⟨h1,h2⟩:=Wt hf ((be X.blocks to).idxOf s.dC.block) T.bg λq hq=>by
  obtain⟨v,hv,e⟩:=W5 (dV.bg q hq) (ll hg.mem);rw[e];exact BT hf ((dV.bg q hq).tT v hv) (pJ.bg.2 q hq v hv)
 refine⟨⟨X,R,⟨hf.get,hf.fit,h1,(aJ.1 hg.get).1,h2,hf.dst,λ_ _=>aN _⟩⟩,h.rest,?_,Eb h.rH _ _,h.deep,h.out,h.mem,h.mE⟩;have e:((s.rest++[{s.dC with bm:=pe s.dC ((be X.blocks to).idxOf s.dC.block) T.bg,block:=to,at':=0}]).map shp)=(s.rest++[s.dC]).map shp:=by
  simp only[bz,cf,dm,shp,h1,hf.bm]
 exact e▸h.dst
theorem GT(h:∀x∈args,dE x):∀x∈pH R args,dE x:=λx hx=>by
 have:=nz hx;rcases bO.1 this with h1|h1
 ·exact h x h1
 ·rw[oC h1];simp[dE]
theorem zi(R:Nat)(args:List Int):(pH R args).length=R:=by simp[pH]
theorem QC{s:nZ}{fn:Nat}(hY:u.funcs[fn]?=O cP)(hR:cP.bm=R)(dst:Int)(args:List Int):zL u s fn dst args={s with rest:=s.rest++[s.dC],dC:=⟨fn,0,0,pH R args,dst⟩,counts:=bump s.counts fn 0}:=by
 unfold zL;simp only[hY,hR,fR]
theorem TO(hu:tV u){s:nZ}(h:mM u c s){fn:Nat}(hY:u.funcs[fn]?=O cP){dst:Int}(hd:0<=dst->dst<s.dC.bm.length)(hdi:dE dst)(ha:∀x∈args,dE x)(ai1:s.rest.length+1<30):mM u (c+1) (zL u s fn dst args):=by
 obtain⟨R,pJ⟩:=hu.2 fn cP hY;rw[QC hY pJ.bm];refine⟨⟨cP,R,⟨hY,pJ,zi _ _,pJ.pos,GT ha,hdi,λ_ _=>aN _⟩⟩,λf hf=>?_,?_,Eb h.rH _ _,?_,h.out,h.mem,h.mE⟩
 ·rcases bO.1 hf with hf|hf
  ·exact h.rest f hf
  ·rw[bQ.1 hf];exact h.dC
 ·have:=h.dst
  simp only[bz,cf,dm]at this|-
  exact this.add (q:=shp ⟨fn,0,0,pH R args,dst⟩) (λh0=>hd h0)
 ·simp;omega
theorem mM.mono{s:nZ}(h:mM u c s)(G3:c<=d):mM u d s:=
 ⟨h.dC,h.rest,h.dst,⟨h.rH.1,λk X hX=>by
  obtain⟨l,h1,h2,h3⟩:=h.rH.2 k X hX;exact⟨l,h1,h2,λx hx=>dS (h3 x hx) G3⟩⟩,h.deep,h.out,h.mem,h.mE⟩
theorem mM.set{s:nZ}(h:mM u c s)(dst:Int){n:Int}(hn:dE n):mM u c (s.set dst n):=by
 obtain⟨X,R,hf⟩:=h.dC;refine⟨⟨X,R,hf.set dst hn⟩,h.rest,?_,h.rH,h.deep,h.out,h.mem,h.mE⟩;have:=h.dst;simp only[nZ.set,bz,cf,dm,P3]at this|-
 exact this
theorem FO(h:i<B.to.length):B.to.getD i 0∈B.to:=by
 rw[fF,bL h,gw];exact my _
theorem N4{l:List α}{t:α}(h:l.getLast?=O t):l=l.dropLast++[t]:=by
 have fZ:l≠[]:=λe=>by rw[e]at h;simp at h
 have h2:=List.dropLast_concat_getLast fZ;rw[List.getLast?_eq_some_getLast fZ]at h;rw[bJ h]at h2;exact h2.symm
theorem abi{s:nZ}(h:mM u c s)(hf:sN u s.dC X R)(hB:X.blocks[s.dC.block]?=O B){s':nZ}(he:sV u s B=.inl s'):mM u (c+1) s':=by
 have pJ:=hf.fit.dD B (aA hB);have hlen:=pJ.kind.2;unfold sV at he
 by_cases h2:B.kind=2
 ·rw[al h2]at he
  obtain⟨to,T,e,hg⟩:=T8 hf hB (FO (B:=B) (i:=0) A);rw[e]at he;rw[<-Sum.inl.inj he];exact IS h hf hg
 rw[ai h2]at he
 by_cases h3:B.kind=3
 ·rw[al h3]at he
  rw[<-Sum.inl.inj he]
  split
  ·obtain⟨to,T,e,hg⟩:=T8 hf hB (FO (B:=B) (i:=0) A)
   rw[e];exact IS h hf hg
  ·obtain⟨to,T,e,hg⟩:=T8 hf hB (FO (B:=B) (i:=1) A)
   rw[e];exact IS h hf hg
 rw[ai h3]at he;cases hl:s.rest.getLast? with
 |none=>rw[hl]at he;cases he
 |some t=>
  rw[hl]at he;rw[<-Sum.inl.inj he];have EP:=N4 hl;have hd:=h.dst;rw[EP]at hd;simp only[bz,cf,dm]at hd;obtain⟨cP,R',hft⟩:=h.rest t (by rw[EP];simp);have hn:=BT hf pJ.on.1 pJ.on.2;refine⟨⟨cP,R',hft.set _ hn⟩,λf hf=>h.rest f (List.dropLast_subset _ hf),?_,⟨h.rH.1,λk X hX=>?_⟩,?_,h.out,h.mem,h.mE⟩
  ·simp only[bz,cf,dm,P3]
   exact hd.drop
  ·obtain⟨l,h1,h2,h3⟩:=h.rH.2 k X hX
   exact⟨l,h1,h2,λx hx=>by have:=h3 x hx;omega⟩
  ·have:=h.deep
   simp only[List.length_dropLast];omega
theorem acV(hu:tV u){s:nZ}(h:mM u c s)(hf:sN u s.dC X R)(hx:MC u R x){s':nZ}(he:vl u s x=.inl s'):mM u (c+1) s':=by
 have ha:=BT hf hx.a hx.Af.2.1;have hb:=BT hf hx.b hx.Af.2.2.1;have hm:=h.mono (Nat.le_succ c);unfold vl at he;simp only at he
 by_cases h1:x.op=18\/x.op=19
 ·rw[al h1]at he
  split at he
  ·cases he
  rename_i hw;simp only[within,gy,iW,fg,not_or,h_]at hw
  split at he
  ·rw[<-Sum.inl.inj he]
   exact⟨hm.dC,hm.rest,hm.dst,hm.rH,hm.deep,hm.out,⟨by rw[fK];exact hm.mem.1,Am hm.mem.2 hb⟩,hm.mE⟩
  ·rw[<-Sum.inl.inj he]
   refine hm.set _ ?_;rw[fF,bL A,gw];exact hm.mem.2 _ (my _)
 rw[ai h1]at he
 by_cases h2:x.op=20
 ·rw[al h2]at he
  split at he
  ·cases he
  rename_i hdp;obtain⟨k,cP,e,hY,_⟩:=hx.call h2;rw[e,fR]at he;rw[<-Sum.inl.inj he];have:=h.deep;refine TO hu h hY (λh0=>by rw[hf.bm];exact hx.dst h0) hx.Af.1 (λz hz=>?_) A;obtain⟨v,hv,rfl⟩:=aT.1 hz;exact BT hf (hx.args v hv) (hx.Af.2.2.2 v hv)
 rw[ai h2]at he
 by_cases h3:x.op=21
 ·rw[al h3]at he
  rw[<-Sum.inl.inj he];have hn:dE (s.mE.headD (-1)):=by
   cases hi:s.mE with
   |nil=>simp[dE]
   |cons y l=>exact h.mE y (by rw[hi];simp)
  have h5:=hm.set x.dst hn;exact⟨h5.dC,h5.rest,h5.dst,h5.rH,h5.deep,h5.out,h5.mem,λz hz=>h.mE z (List.mem_of_mem_tail hz)⟩
 rw[ai h3]at he
 by_cases h4:x.op=22
 ·rw[al h4]at he
  split at he
  ·cases he
  rename_i ho;rw[<-Sum.inl.inj he];have:=hm.out.1;refine⟨hm.dC,hm.rest,hm.dst,hm.rH,hm.deep,⟨by simp;omega,λz hz=>?_⟩,hm.mem,hm.mE⟩;rcases bO.1 hz with hz|hz
  ·exact hm.out.2 z hz
  ·rw[bQ.1 hz];exact ha
 rw[ai h4]at he;cases ht:Xb x.op (iU s.dC x.a) (iU s.dC x.b)with
 |none=>rw[ht]at he;cases he
 |some n=>
  rw[ht]at he;rw[<-Sum.inl.inj he];exact hm.set _ (adq ha ht)
def tick(s:nZ):nZ:={s with steps:=s.steps+1}
def rJ(s:nZ):nZ:={s with dC:={s.dC with at':=s.dC.at'+1}}
theorem P8{s:nZ}(h:mM u c s):mM u c (tick s):=⟨h.dC,h.rest,h.dst,h.rH,h.deep,h.out,h.mem,h.mE⟩
theorem Cd{f:sD}(hf:sN u f X R)(hB:X.blocks[f.block]?=O B):uq u f=B:=by
 unfold uq;rw[hf.get];simp only[fF,hB,gw]
theorem Yu{s:nZ}(h:mM u c s)(hf:sN u s.dC X R)(hB:X.blocks[s.dC.block]?=O B)(ce:s.dC.at'<B.list.length):mM u c (rJ s)/\sN u (rJ s).dC X R:=by
 have h2:sN u (rJ s).dC X R:=⟨hf.get,hf.fit,hf.bm,hf.block,hf.Af,hf.dst,λC hC=>by
  have hC:X.blocks[s.dC.block]?=O C:=hC;rw[hB]at hC;rw[<-bJ hC];exact ce⟩
 exact⟨⟨⟨X,R,h2⟩,h.rest,by have:=h.dst;simp only[bz,cf,dm]at this|-;exact this,h.rH,h.deep,h.out,h.mem,h.mE⟩,h2⟩
theorem oA(u:dk)(s:nZ):nM u s=match (uq u s.dC).list[s.dC.at']? with|none=>sV u (tick s) (uq u s.dC)|some x=>vl u (rJ (tick s)) x:=rfl
theorem Ep{s s':nZ}(h:sV u s B=.inl s'):s'.steps=s.steps:=by
 unfold sV at h
 split at h
 ·rw[<-Sum.inl.inj h];rfl
 split at h
 ·rw[<-Sum.inl.inj h];rfl
 split at h
 ·cases h
 ·rw[<-Sum.inl.inj h]
theorem EZ{s s':nZ}(h:vl u s x=.inl s'):s'.steps=s.steps:=by
 unfold vl at h;simp only at h
 repeat' (split at h)
 all_goals first
  |(cases h;done)
  |(rw[<-Sum.inl.inj h]<;>rfl)
theorem sw(hu:tV u){s s':nZ}(h:mM u (s.steps+1) s)(he:nM u s=.inl s'):mM u (s'.steps+1) s'/\s'.steps=s.steps+1:=by
 obtain⟨X,R,hf⟩:=h.dC;obtain⟨B,hB⟩:=bE X.blocks s.dC.block hf.block;rw[oA,Cd hf hB]at he;cases hx:B.list[s.dC.at']? with
 |none=>
  rw[hx]at he;have h1:=abi (P8 h) hf hB he;have h2:=Ep he;exact⟨by rw[h2];exact h1,h2⟩
 |some x=>
  rw[hx]at he;have ce:=(aJ.1 hx).1;obtain⟨h3,h4⟩:=Yu (P8 h) (s:=tick s) hf hB ce;have h1:=acV hu h3 h4 ((hf.fit.dD B (aA hB)).list.2 x (aA hx)) he;have h2:=EZ he;exact⟨by rw[h2];exact h1,h2⟩
end
end Go.Proofs.YthfhgolkafpmnaaGreatDoor
