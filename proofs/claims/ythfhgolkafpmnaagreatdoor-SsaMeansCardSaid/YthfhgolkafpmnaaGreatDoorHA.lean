/- Texts joined: OwnR Del Clean RunP RunQ RunR RunA. -/
import Derived.Test.YthfhgolkafpmnaaGreatDoorGM
namespace Go.Proofs.YthfhgolkafpmnaaGreatDoor
open Go.Value renaming int->U,slice->J,pointer->ar,bool->D,agg->au
open Go.IntKind renaming i64->O
open Option renaming some->Z,none->A
open Go renaming Value->V,World->C
open Go.Proofs.Tryz
open Go.Proofs.Tryz renaming prog->ae
open Go Go.RowKit
section
class gQ(H:List bN)(b off:Nat)(cs:outParam (List V)):Prop where
 eq:∀S w0 w,Wd S w0 H w->bF w b off cs
section
variable {P:Program} {ro:Option Nat} {N:Nat} {ds:List Deferred} {S:Nat->Prop} {w0:C} {L:List (Nat×V)} {H:List bN} {ops:Array Oper} {rest:List Oper} {Q:Exit->Act->C->Prop} {x y:Operand}
instance{T b off n:Nat}{cs:List V}[h:eD P T n][hx:Ev L x (ar (Z ⟨b,off,A⟩))][hc:gQ H b off cs][hn:lA cs n]:dL P N ds S w0 L H (.load T x) (au cs.toArray):=
 ⟨λ_ h=>(by cases h),λ_ _ h=>(by cases h),λ_ _ _ _ _ a w hF hW=>by simp[execOp,hx.eq _ _ _ hF,nE hn.eq (hc.eq _ _ _ hW)]⟩
theorem jz{α:Type}{k b o n c e s i:Nat}{l:List α}{g:α->List V}{y:α}(hk:H[k]?=Z (M (Z ⟨b,o,A⟩) n c e s (l.flatMap g)))(hg:∀x,(g x).length=s)(hy:l[i]?=Z y):gQ H b (o+i*s) (g y):=
 ⟨λ_ _ w hw j v hj=>by
  have:=hw.cL hk (fB hg l i y j v hy hj);rwa[<-dI]at this⟩
theorem lG{α:Type}{g:α->List V}{s:Nat}(hg:∀x,(g x).length=s):∀(l:List α) (i:Nat),(l.flatMap g).take (i*s)=(l.take i).flatMap g/\(l.flatMap g).drop (i*s)=(l.drop i).flatMap g
 |[],i=>by simp
 |x::l,0=>by simp
 |x::l,i+1=>by
  obtain⟨h1,h2⟩:=lG hg l i;have e:(i+1)*s=(g x).length+i*s:=by rw[hg,Nat.succ_mul];omega
  rw[gZ,e,sQ,vW,h1,h2];simp
theorem jP{α:Type}{g:α->List V}{s:Nat}(hg:∀x,(g x).length=s){l:List α}{i:Nat}(hi:i<l.length)(y:α):(l.flatMap g).take (i*s)++g y++(l.flatMap g).drop (i*s+s)=(l.set i y).flatMap g:=by
 have e:i*s+s=(i+1)*s:=by rw[Nat.succ_mul]
 rw[e,(lG hg l i).1,(lG hg l (i+1)).2]
 conv=>rhs;rw[List.set_eq_take_append_cons_drop]
 rw[if_pos hi];simp
theorem gN{α:Type}{g:α->List V}{s:Nat}(hg:∀x,(g x).length=s):∀{l:List α} {i k:Nat} {x y:α} {v:V},l[i]?=Z x->k<s->(g x).set k v=g y->(l.flatMap g).set (i*s+k) v=(l.set i y).flatMap g
 |[],i,k,x,y,v,hx,_,_=>by simp at hx
 |akj::l,0,k,x,y,v,hx,hk,he=>by
  simp only[kC,b_]at hx;subst hx;rw[gZ,nT,di,List.set_append_left _ _ (by rw[hg];exact hk),he];simp
 |akj::l,i+1,k,x,y,v,hx,hk,he=>by
  have ih:=gN hg (l:=l) (i:=i) (k:=k) (x:=x) (y:=y) (v:=v) (ax hx) hk he;have e:(i+1)*s+k=(g akj).length+(i*s+k):=by rw[hg,Nat.succ_mul];omega
  rw[gZ,e,my _ _ I,lE,ih];simp
theorem kZ{ty T b o off j n c e s m:Nat}(k:Nat){xs vs:List V}{pos:String}{aft:Array Go.Edge}[h:eD P T m][hx:Ev L x (ar (Z ⟨b,off,A⟩))][hy:Ev L y (au vs.toArray)][hn:lA vs m][h1:u4 vs]
  (hk:H[k]?=Z (M (Z ⟨b,o,A⟩) n c e s xs)) (Da:off=o+j) (gI:j+m<=xs.length)
  (kk:aki N ds S w0 L (H.set k (M (Z ⟨b,o,A⟩) n c e s (xs.take j++vs++xs.drop (j+m)))) (wpListIn (FW ro) 0 P ops Q rest)):aki N ds S w0 L H (wpListIn (FW ro) 0 P ops Q (⟨A,.store T x y,ty,pos,aft,A⟩::rest)):=λa w hS=>by
 subst Da;obtain⟨hl,qP,BZ,pre,sp,rfl,GR,hb⟩:=hS.wd.lu hk;have bS:b<w.heap.size:=(fv.1 hb).1;have wl:=hn.eq;have hs:=run_storeCells_at P b (pre.length+j) e vs 0 _ w hb dp h1.all;have gr:(pre++xs++sp).take (pre.length+j+0)++vs++(pre++xs++sp).drop (pre.length+j+0+vs.length)=pre++(xs.take j++vs++xs.drop (j+m))++sp:=by
  rw[ef,dz pre xs sp,sQ,dI,vW,kV I,yv I,wl];simp
 simp only at hs;rw[gr]at hs;refine step_skip (w':=w.setRow b (pre++(xs.take j++vs++xs.drop (j+m))++sp).toArray) rfl (λ_ h=>by cases h) ?_ ?_
 ·simp[execOp,hx.eq _ _ _ hS.fr,hy.eq _ _ _ hS.fr,Instr.storeAt,Instr.sureAddr,storeVar,h.sz,Value.cells,wl,hs]
 ·refine kk _ _ ⟨hS.fr,?_⟩
  have pU:∀q:Array V,(w.setRow b q).heap.size=w.heap.size:=λq=>by simp[World.setRow]
  refine hS.wd.lj hk ⟨rfl,rfl,rfl,by rw[pU];exact bG _,λj _ hj=>setRow_other w b j _ λe'=>hj (by simp[M,e'])⟩ (λb' nO=>?_) λw2 jg=>?_
  ·simp only[M,bu,b_]at nO⊢
   subst nO;exact⟨.inl rfl,by rw[pU];exact bS⟩
  ·have:=jg b (by simp[M])
   refine⟨?_,.inr ⟨b,pre,sp,rfl,qP,BZ,GR,?_⟩⟩
   ·simp only[bX,dd,eY];omega
   ·rw[this]
    exact setRow_heap w b _ _ e _ hb
end
end
section
set_option maxHeartbeats 8000000
attribute [local irreducible] wpListIn Code.wpIn Exit.then Exit.inBlock bodyPost wpQuiet wpAnyIn wpAnyH
section
section
variable {P:Program} {ro:Option Nat} {N:Nat} {ds:List Deferred} {S:Nat->Prop} {w0 w:C} {L:List (Nat×V)} {H:List bN} {ops:Array Oper} {rest:List Oper} {Q:Exit->Act->C->Prop} {p:Act->C->Prop} {x y akj u:Operand}
theorem Wd.HA(hW:Wd S w0 H w){k:Nat}{b o n c e s:Nat}{xs vs:List V}(hk:H[k]?=Z (M (Z ⟨b,o,A⟩) n c e s xs))(j:Nat)(h1:∀v∈vs,v.oneCell'=true)(gI:j+vs.length<=xs.length):
  ∃w',(storeCells ⟨b,o+j,A⟩ vs).run P w=.ok () w'/\Wd S w0 (H.set k (M (Z ⟨b,o,A⟩) n c e s (xs.take j++vs++xs.drop (j+vs.length)))) w':=by
 obtain⟨hl,qP,BZ,pre,sp,rfl,GR,hb⟩:=hW.lu hk;have bS:b<w.heap.size:=(fv.1 hb).1;have hs:=run_storeCells_at P b (pre.length+j) e vs 0 _ w hb dp h1;have gr:(pre++xs++sp).take (pre.length+j+0)++vs++(pre++xs++sp).drop (pre.length+j+0+vs.length)=pre++(xs.take j++vs++xs.drop (j+vs.length))++sp:=by
  rw[ef,dz pre xs sp,sQ,dI,vW,kV I,yv I];simp
 simp only at hs;rw[gr]at hs;refine⟨_,hs,?_⟩;have pU:∀q:Array V,(w.setRow b q).heap.size=w.heap.size:=λq=>by simp[World.setRow]
 refine hW.lj hk ⟨rfl,rfl,rfl,by rw[pU];exact bG _,λj _ hj=>setRow_other w b j _ λe'=>hj (by simp[M,e'])⟩ (λb' nO=>?_) λw2 jg=>?_
 ·simp only[M,bu,b_]at nO⊢
  subst nO;exact⟨.inl rfl,by rw[pU];exact bS⟩
 ·have:=jg b (by simp[M])
  refine⟨?_,.inr ⟨b,pre,sp,rfl,qP,BZ,GR,?_⟩⟩
  ·simp only[bX,dd,eY];omega
  ·rw[this]
   exact setRow_heap w b _ _ e _ hb
theorem Wd.shrink(hW:Wd S w0 H w){k:Nat}{b o n c e s:Nat}{xs:List V}(hk:H[k]?=Z (M (Z ⟨b,o,A⟩) n c e s xs))(m:Nat)(hm:m<=n):
  Wd S w0 (H.set k (M (Z ⟨b,o,A⟩) m c e s (xs.take (m*s)))) w:=by
 obtain⟨hl,qP,BZ,pre,sp,rfl,GR,hb⟩:=hW.lu hk;have bS:b<w.heap.size:=(fv.1 hb).1;have SN:m*s<=n*s:=q_ _ hm;refine hW.lj hk (l_.refl _ _) (λb' nO=>?_) λw2 jg=>?_
 ·simp only[M,bu,b_]at nO⊢
  subst nO;exact⟨.inl rfl,bS⟩
 ·have:=jg b (by simp[M])
  refine⟨by rw[dd];omega,.inr ⟨b,pre,xs.drop (m*s)++sp,rfl,I,BZ,?_,?_⟩⟩
  ·rw[bX,eY,hl]
   have h1:(c-m)*s=(c-n)*s+(n-m)*s:=by rw[<-jJ];congr 1;omega
   have h2:(n-m)*s=n*s-m*s:=Nat.sub_mul _ _ _;omega
  ·rw[this,hb]
   have:pre++xs++sp=pre++xs.take (m*s)++(xs.drop (m*s)++sp):=by
    rw[dz,dz,<-dz (xs.take _),q8]
   rw[this]
theorem ID(k:Nat){b o n c e s:Nat}{xs:List V}(hk:H[k]?=Z (M (Z ⟨b,o,A⟩) n c e s xs))(m:Nat)(hm:m<=n)
  (kk:aki N ds S w0 L (H.set k (M (Z ⟨b,o,A⟩) m c e s (xs.take (m*s)))) p):aki N ds S w0 L H p:=λa w hS=>kk a w ⟨hS.fr,hS.wd.shrink hk m hm⟩
theorem Gf{d ty T e s jy:Nat}{zs:List V}{pos:String}{aft:Array Go.Edge}(k:Nat){b o n c i j m c2:Nat}{ay:Option Addr}{xs:List V}[h:cI P T e s jy zs][hx:Ev L x (J (Z ⟨b,o,A⟩) i c)][hy:Ev L y (J ay m c2)]
  (hk:H[k]?=Z (M (Z ⟨b,o,A⟩) n c e s xs)) (hay:0<m->ay=Z ⟨b,o+j*s,A⟩) (hi:i+m<=n) (hj:j+m<=n) (h1:∀v∈xs,v.oneCell'=true) (a:Act) (w:C) (hS:St N ds S w0 L H a w):
  ∃w',(execOp a.eval ⟨Z d,.call {callee:=.builtin .append,args:=#[x,y],argTypes:=#[T,T]},ty,pos,aft,A⟩).run P w=.ok (.value (J (Z ⟨b,o,A⟩) (i+m) c)) w'/\Wd S w0 (H.set k (M (Z ⟨b,o,A⟩) n c e s (xs.take (i*s)++(xs.drop (j*s)).take (m*s)++xs.drop (i*s+m*s)))) w':=by
 obtain⟨hl,qP,BZ,pre,sp,_,GR,hb⟩:=hS.wd.lu hk;obtain⟨inf,zv,aa6,hzv,fT,h2,h3⟩:=h.get;subst h2;have hjs:j*inf.size+m*inf.size<=n*inf.size:=by rw[<-jJ];exact q_ _ hj
 have his:i*inf.size+m*inf.size<=n*inf.size:=by rw[<-jJ];exact q_ _ hi
 have Eo:((xs.drop (j*inf.size)).take (m*inf.size)).length=m*inf.size:=by rw[dd,eY];omega
 have hf:(Builtin.firstCells inf.size m (J ay m c2)).run P w=.ok ((xs.drop (j*inf.size)).take (m*inf.size)).toArray w:=by
  by_cases hm:0<m
  ·rw[hay hm]
   refine run_firstCells_some (P:=P) w inf.size m _ m c2 _ Eo λt v ht=>?_;rw[Addr.add_lit,dI];refine hS.wd.cL hk ?_;have zP:t<m*inf.size:=by rw[<-Eo];exact(az.1 ht).1
   rw[yw zP,iV]at ht;exact ht
  ·have:m=0:=I
   subst this;have h0:((xs.drop (j*inf.size)).take (0*inf.size)).toArray= #[]:=by simp
   rw[h0];cases ay with
   |none=>exact run_firstCells_none _ _ _ _ _
   |some q=>exact run_firstCells_some (P:=P) w inf.size 0 q 0 c2 [] aC aC
 obtain⟨w',ek,tV⟩:=hS.wd.HA (P:=P) hk (i*inf.size) (vs:=(xs.drop (j*inf.size)).take (m*inf.size)) (λv hv=>h1 v (List.mem_of_mem_drop (rX hv))) (by rw[Eo];omega);rw[Eo]at tV;have s8:i+m<=c:=I;exact⟨w',by simp[execOp,resolve,invoke,builtin,hx.eq _ _ _ hS.fr,hy.eq _ _ _ hS.fr,Builtin.append_,run_underlying h.qx,sizeOf,typeInfo,aa6,Builtin.lenOf,s8,hf,Addr.add_lit,ek],tV⟩
theorem Lg{akd:Act->C->Prop}{l:List Oper}{bH:Nat}{listed:Array Bool}{Hr:List bN}{d ty T e s jy:Nat}{zs:List V}{pos:String}{aft:Array Go.Edge}(i0 k:Nat){b o n c i j m c2:Nat}{ay:Option Addr}{xs:List V}[ho:dF l i0 ⟨Z d,.call {callee:=.builtin .append,args:=#[x,y],argTypes:=#[T,T]},ty,pos,aft,A⟩][h:cI P T e s jy zs][hx:Ev L x (J (Z ⟨b,o,A⟩) i c)][hy:Ev L y (J ay m c2)]
  (hk:H[k]?=Z (M (Z ⟨b,o,A⟩) n c e s xs)) (hay:0<m->ay=Z ⟨b,o+j*s,A⟩) (hi:i+m<=n) (hj:j+m<=n) (h1:∀v∈xs,v.oneCell'=true) (hd:dy d N L=true)
  (hr:decide (Region.ready .any l.toArray listed=[i0])=true) (O_:Hr.Sublist (H.set k (M (Z ⟨b,o,A⟩) n c e s (xs.take (i*s)++(xs.drop (j*s)).take (m*s)++xs.drop (i*s+m*s)))))
  (kk:aki N ds S w0 ((d,J (Z ⟨b,o,A⟩) (i+m) c)::L) (H.set k (M (Z ⟨b,o,A⟩) n c e s (xs.take (i*s)++(xs.drop (j*s)).take (m*s)++xs.drop (i*s+m*s)))) (wpAnyH P .any l.toArray (dK akd) (Wd S w0 Hr) bH (listed.setIfInBounds i0 true))):
  aki N ds S w0 L H (wpAnyH P .any l.toArray (dK akd) (Wd S w0 Hr) (bH+1) listed):=
 IM i0 rfl hr λa w hS=>by
  obtain⟨w',h2,h3⟩:=Gf (P:=P) (d:=d) (ty:=ty) (pos:=pos) (aft:=aft) (h:=h) (hx:=hx) (hy:=hy) k hk hay hi hj h1 a w hS;exact⟨_,w',h2,h3.sub O_,kk _ _ ⟨hS.fr.eo hd _,h3⟩⟩
class HT(lo n:Nat):Prop where
 le:lo<=n
def KU(b o lo s c:Nat):Option Addr:=if c=lo then Z ⟨b,o,A⟩else Z ⟨b,o+lo*s,A⟩
instance{T b o n c s lo:Nat}[hx:Ev L x (J (Z ⟨b,o,A⟩) n c)][hl:Ev L y (U O (lo:Int))][h:eH P T s][hc:HT lo n]:dL P N ds S w0 L H (.slice T x (Z y) A A) (J (KU b o lo s c) (n-lo) (c-lo)):=
 ⟨λ_ h=>(by cases h),λ_ _ h=>(by cases h),λ_ _ _ _ _ a w hF _=>by
  have hr:=run_slice_l (P:=P) w T (Z ⟨b,o,A⟩) n c h.qx O lo I (by have:=hc.le;omega)
  simp[execOp,hx.eq _ _ _ hF,hl.eq _ _ _ hF,run_sliceAt_slice (P:=P) w T _ _ _ _ h.qx,hr,h.sz,sliced,Addr.add_lit,KU]⟩
theorem aau{d ty T s n c i j m:Nat}{ad:Option Addr}{pos:String}{aft:Array Go.Edge}[hx:Ev L x (J ad n c)][hy:Ev L y (U O (i:Int))][hz:Ev L akj (U O (j:Int))][hu:Ev L u (U O (m:Int))][h:eH P T s](hd:dy d N L=true)(h1:i<=j/\j<=m/\m<=c)
  (kk:∀v,aki N ds S w0 ((d,v)::L) H (wpListIn (FW ro) 0 P ops Q rest)):aki N ds S w0 L H (wpListIn (FW ro) 0 P ops Q (⟨Z d,.slice T x (Z y) (Z akj) (Z u),ty,pos,aft,A⟩::rest)):=λa w hS=>by
 have hr:=run_slice_lhm (P:=P) w T ad n c h.qx O O O i j m I I I I;refine ft (v:=sliced ad (i:Int).toNat (j:Int).toNat (m:Int).toNat s) (w':=w) rfl (λ_ h=>by cases h) ?_ (kk _ _ _ ⟨hS.fr.eo hd _,hS.wd⟩);simp[execOp,hx.eq _ _ _ hS.fr,hy.eq _ _ _ hS.fr,hz.eq _ _ _ hS.fr,hu.eq _ _ _ hS.fr,run_sliceAt_slice (P:=P) w T _ _ _ _ h.qx,hr,h.sz]
theorem aat{d ty T s b o n c i j:Nat}{pos:String}{aft:Array Go.Edge}[hx:Ev L x (J (Z ⟨b,o,A⟩) n c)][hy:Ev L y (U O (i:Int))][hz:Ev L akj (U O (j:Int))][h:eH P T s](hd:dy d N L=true)(h1:i<=j/\j<=c/\i<c)
  (kk:aki N ds S w0 ((d,J (Z ⟨b,o+i*s,A⟩) (j-i) (c-i))::L) H (wpListIn (FW ro) 0 P ops Q rest)):aki N ds S w0 L H (wpListIn (FW ro) 0 P ops Q (⟨Z d,.slice T x (Z y) (Z akj) A,ty,pos,aft,A⟩::rest)):=λa w hS=>by
 have hr:=run_slice_lh (P:=P) w T (Z ⟨b,o,A⟩) n c h.qx O O i j I I I;have eQ:¬c=i:=I;refine ft (v:=.slice (Z ⟨b,o+i*s,A⟩) (j-i) (c-i)) (w':=w) rfl (λ_ h=>by cases h) ?_ (kk _ _ ⟨hS.fr.eo hd _,hS.wd⟩);simp[execOp,hx.eq _ _ _ hS.fr,hy.eq _ _ _ hS.fr,hz.eq _ _ _ hS.fr,run_sliceAt_slice (P:=P) w T _ _ _ _ h.qx,hr,h.sz,sliced,eQ,Addr.add_lit]
theorem RT{ty T e s jy:Nat}{zs:List V}{pos:String}{aft:Array Go.Edge}(k:Nat){b o off j n c c2:Nat}{xs:List V}[h:cI P T e s jy zs][hx:Ev L x (J (Z ⟨b,off,A⟩) 1 c2)]
  (hk:H[k]?=Z (M (Z ⟨b,o,A⟩) n c e s xs)) (Da:off=o+j*s) (hj:j<n) (LJ:zs.length=s) (h1:∀v∈zs,v.oneCell'=true)
  (kk:aki N ds S w0 L (H.set k (M (Z ⟨b,o,A⟩) n c e s (xs.take (j*s)++zs++xs.drop (j*s+s)))) (wpListIn (FW ro) 0 P ops Q rest)):
  aki N ds S w0 L H (wpListIn (FW ro) 0 P ops Q (⟨A,.call {callee:=.builtin .clear,args:=#[x],argTypes:=#[T]},ty,pos,aft,A⟩::rest)):=by
 intro a w hS;subst Da;obtain⟨hl,qP,BZ,pre,sp,_,GR,hb⟩:=hS.wd.lu hk;obtain⟨inf,zv,aa6,hzv,fT,h2,h3⟩:=h.get;subst h2;have hjs:j*inf.size+inf.size<=n*inf.size:=by rw[<-Nat.succ_mul];exact q_ _ hj
 obtain⟨w',ek,tV⟩:=hS.wd.HA (P:=P) hk (j*inf.size) (vs:=zs) h1 I;rw[LJ]at tV;have Al:(List.range zs.length).map (λi=>zs[i%zs.length]?.getD default)=zs:=by
  apply ci;intro i
  by_cases hi:i<zs.length
  ·rw[aJ,eX hi]
   simp[Nat.mod_eq_of_lt hi,a_ hi]
  ·rw[bO dp,bO I]
 refine ft (v:=.tuple #[]) (w':=w') rfl (λ_ h=>by cases h) ?_ (kk _ _ ⟨hS.fr,tV⟩);simp[execOp,resolve,invoke,builtin,hx.eq _ _ _ hS.fr,Builtin.clear_,run_underlying h.qx,zeroValue,typeInfo,aa6,hzv,fT,Builtin.zeroCells,Al,ek]
end
theorem Ox{l:List cg}:∀v∈l.flatMap dB,v.oneCell'=true:=λv hv=>by
 obtain⟨x,_,hx⟩:=df.1 hv;simp only[dB,bD,h_,or_false]at hx;rcases hx with rfl|rfl<;>rfl
theorem Ip(ad:Option Addr)(c:Nat)(l:List cg)(k:Nat)(hk:k<l.length)(hb:l.length<=1000)(w0:C)(hW:Wd (cH [M ad l.length c 41 2 (l.flatMap dB)]) w0 [M ad l.length c 41 2 (l.flatMap dB)] w0):
  iC ae 170 [J ad l.length c,U O k,U O (k+1:Nat)] w0 λu w'=>u=J ad (l.length-1) c/\Wd (cH [M ad l.length c 41 2 (l.flatMap dB)]) w0 [M ad (l.length-1) c 41 2 ((l.eraseIdx k).flatMap dB)] w':=by
 refine aM func170 rfl ntmps170 rfl hW ?_;refine fL 0 rfl I λvb vo oC=>?_;subst oC;refine BX 0 rfl λ_ qP aaR=>?_;refine aU ?_;refine aau rfl ⟨I,I,I⟩ λv=>?_;refine aU ?_;rw[show decide ((k:Int)=((k+1:Nat):Int))=false by simp;omega];refine aH ?_;have c1:Ch k c:=⟨I⟩;have c2:HT (k+1) l.length:=⟨hk⟩;refine tS [] mixed aw ?_;refine ag 0 ?_;refine ag 1 ?_;refine ag 2 ?_;refine ag 3 ?_;refine ag 4 ?_;refine ag 5 ?_;refine Lg 6 0 (j:=k+1) rfl (λhm=>by unfold KU;rw[if_neg I]) I I Ox rfl ai aw ?_;rw[show k+(l.length-(k+1))=l.length-1 by omega];refine RV 0 ?_;refine ag 7 ?_;refine eA ai ?_;simp only[bW];refine aU ?_;refine aat rfl ⟨I,I,I⟩ ?_;rw[show l.length-(l.length-1)=1 by omega]
 skip
 have hE:(l.flatMap dB).take (k*2)++((l.flatMap dB).drop ((k+1)*2)).take ((l.length-(k+1))*2)=(l.eraseIdx k).flatMap dB:=by
  rw[(lG eZ l k).1,(lG eZ l (k+1)).2,kh (l:=(l.drop (k+1)).flatMap dB) (by rw[cj eZ,eY];omega),List.eraseIdx_eq_take_drop_succ,iD]
 rw[hE];have hEl:((l.eraseIdx k).flatMap dB).length=(l.length-1)*2:=by rw[cj eZ,List.length_eraseIdx,if_pos hk]
 refine RT 0 rfl rfl I rfl (by simp[Value.oneCell']) ?_;simp only[bW];refine ID 0 rfl (l.length-1) I ?_;simp only[bW];rw[dz,kV (by rw[dd,bX];omega),List.take_take,Nat.min_self,kV I,kh I];refine aH ?_;exact cE rfl λw hw=>⟨rfl,hw⟩
end
end
section
def kg(w w':C):Prop:=∀p v,w.cell? p=Z v->w'.cell? p=Z v
theorem kg.ch{w w':C}(h:l_ cX w w'):kg w w':=λ_ _ hc=>fJ h hc
theorem bF.le{w w':C}(h:kg w w'){b o:Nat}{cs:List V}(hc:bF w b o cs):bF w' b o cs:=λj v hj=>h _ _ (hc j v hj)
def u3{α:Type}(ake:C->α->List V->Prop):Prop:=∀w w',kg w w'->∀x cs,ake w x cs->ake w' x cs
theorem aG.le{α:Type}{ake:C->α->List V->Prop}(hV:u3 ake){w w':C}(h:kg w w'){v:V}{s:Nat}{l:List α}(hs:aG w v s l ake):aG w' v s l ake:=by
 obtain⟨a,n,c,b,o,h1,h2,h3,hz,h4,h5,h6⟩:=hs;refine⟨a,n,c,b,o,h1,h2,h3,hz,h4,h5,λi x hx=>?_⟩;obtain⟨cs,hc,hv⟩:=h6 i x hx;exact⟨cs,hc.le h,hV w w' h x cs hv⟩
theorem lM:u3 fI:=λ_ _ _ _ _ h=>h
theorem zf:u3 mi:=λ_ _ _ _ _ h=>h
theorem vH:u3 cN:=λ_ _ hc _ _ ⟨v,h1,h2⟩=>⟨v,h1,h2.le lM hc⟩
theorem zd:u3 Cm:=λ_ _ hc _ _ ⟨v,h1,h2,h3⟩=>⟨v,h1,h2,h3.le zf hc⟩
theorem JF:u3 Cj:=λ_ _ hc _ _ ⟨v,h1,h2,h3,h4,h5,h6,h7⟩=>⟨v,h1,h2,h3,h4,h5,h6,h7.le zf hc⟩
theorem xQ:u3 ed:=λ_ _ hc _ _ ⟨p,l,t,h1,h2,h3,h4,h5,h6⟩=>⟨p,l,t,h1,h2,h3,h4.le zd hc,h5.le JF hc,h6.le lM hc⟩
theorem nC:u3 gq:=λ_ _ hc _ _ ⟨v,h1,h2,h3,h4⟩=>⟨v,h1,h2,h3,h4.le xQ hc⟩
def Clean(S:Nat->Prop)(w:C):Prop:=∀p v,w.cell? p=Z v->¬S p.block
theorem yD(w:C):Clean cX w:=λ_ _ _ h=>h
theorem xy(S:Nat->Prop)(w:C):Clean S (cd S w):=λ_ _ h=>(nz h).1
theorem Clean.old{S:Nat->Prop}{w:C}(h:Clean S w){b o:Nat}{v:V}{l:List V}(hc:bF w b o (v::l)):eS S b:=⟨h _ _ (hc 0 v rfl)⟩
section
variable {P:Program} {ro:Option Nat} {N:Nat} {ds:List Deferred} {S:Nat->Prop} {w0 w:C} {L:List (Nat×V)} {H H1 H2 Hr:List bN} {ops:Array Oper} {rest:List Oper} {Q:Exit->Act->C->Prop} {akd:Act->C->Prop} {l:List Oper} {bH:Nat} {listed:Array Bool}
theorem Clean.le(e_:Clean S w0)(hw:Wd S w0 (H1++H2) w):kg w0 (cd (cH H1) w):=λp v hc=>by
 have bS:=World.block_lt_of_cell? w0 p hc;have hS:=e_ p v hc;rw[<-hc];refine World.cell?_of_block ((jT w λ⟨e,he,hb⟩=>?_).trans (hw.ch.block _ bS hS));have:=(hw.own e (ct _ he) _ hb).1;exact this.elim hS λh=>by omega
theorem Clean.now(e_:Clean S w0)(hw:Wd S w0 H w):kg w0 w:=λp v hc=>by
 rw[<-hc];exact World.cell?_of_block (hw.ch.block _ (World.block_lt_of_cell? w0 p hc) (e_ p v hc))
theorem iX{α:Type}{val:α->V}{akg:α->List bN}{φ:α->Prop}{d ty f:Nat}{args:List Operand}{vs:List V}{pA:Array Nat}{pos:String}{aft:Array Go.Edge}[h:aQ P f][hx:AY L args vs](e_:Clean S w0)(hd:dy d N L=true)
  (hc:∀wz w,Clean (cH H1) wz->kg w0 wz->Wd (λ_=>True) wz H2 wz->Wd (cH H1) wz H1 w->iC P f vs w λu w'=>∃x,u=val x/\Wd (cH H1) wz (akg x) w'/\φ x)
  (k:∀x,φ x->aki N ds S w0 ((d,val x)::L) (akg x++H2) (wpListIn (FW ro) 0 P ops Q rest)):aki N ds S w0 L (H1++H2) (wpListIn (FW ro) 0 P ops Q (⟨Z d,.call {callee:=.value (.func f),args:=args.toArray,argTypes:=pA},ty,pos,aft,A⟩::rest)):=
 fK hd (λw hw=>(hc (cd (cH H1) w) w (xy _ _) (e_.le hw) hw.kF hw.Ye).mono λ_ _ ⟨x,h1,h2,h3⟩=>⟨x,h1,h2.nk,h3⟩) k
theorem Nc{α:Type}{val:α->V}{akg:α->List bN}{φ:α->Prop}{d ty f:Nat}(i:Nat){args:List Operand}{vs:List V}{pA:Array Nat}{pos:String}{aft:Array Go.Edge}[ho:dF l i ⟨Z d,.call {callee:=.value (.func f),args:=args.toArray,argTypes:=pA},ty,pos,aft,A⟩][h:aQ P f][hx:AY L args vs](e_:Clean S w0)(hd:dy d N L=true)
  (hr:decide (Region.ready .any l.toArray listed=[i])=true) (hH:Hr.Sublist H2)
  (hc:∀wz w,Clean (cH H1) wz->kg w0 wz->Wd (λ_=>True) wz H2 wz->Wd (cH H1) wz H1 w->iC P f vs w λu w'=>∃x,u=val x/\Wd (cH H1) wz (akg x) w'/\φ x)
  (k:∀x,φ x->aki N ds S w0 ((d,val x)::L) (akg x++H2) (wpAnyH P .any l.toArray (dK akd) (Wd S w0 Hr) bH (listed.setIfInBounds i true))):aki N ds S w0 L (H1++H2) (wpAnyH P .any l.toArray (dK akd) (Wd S w0 Hr) (bH+1) listed):=
 n9 i hd hr hH (λw hw=>(hc (cd (cH H1) w) w (xy _ _) (e_.le hw) hw.kF hw.Ye).mono λ_ _ ⟨x,h1,h2,h3⟩=>⟨x,h1,h2.nk,h3⟩) k
end
def ow(x:Int):Int:=IntKind.i64.wrap x
def wY(f:BitVec 64->BitVec 64->BitVec 64)(x y:Int):Int:=ow ((f (BitVec.ofInt 64 x) (BitVec.ofInt 64 y)).toNat:Int)
def Ge(x y:Int):Int:=wY (·&&& ·) x y
def O1(y:Int):Nat:=min (Ge y 63).toNat 64
def Ej(b:Bool):Int:=if b then 1 else 0
def rK(op a b:Int):Option Int:=
 if op=1 then Z a else if op=2 then Z (ow (a+b))else if op=3 then Z (ow (a-b))else if op=4 then Z (ow (a*b))
 else if op=5 then(if b=0 then A else Z (ow (a.tdiv b)))else if op=6 then(if b=0 then A else Z (a.tmod b))
 else if op=7 then Z (Ge a b)else if op=8 then Z (wY (·|||·) a b)else if op=9 then Z (wY (·^^^·) a b)
 else if op=10 then Z (ow (a*2 ^O1 b))else if op=11 then Z (a.fdiv (2 ^O1 b))
 else if op=12 then Z (Ej (decide (a=b)))else if op=13 then Z (Ej (!decide (a=b)))else if op=14 then Z (Ej (decide (a<b)))else if op=15 then Z (Ej (decide (a<=b)))
 else if op=16 then Z (ow (0-a))else if op=17 then Z (wY (·^^^·) (-1) a)else Z 0
structure mf where
 fn:Nat
 block:Nat
 at':Nat
 aB:List Int
 dst:Int
structure j7 where
 mem:List Int
 dr:List Int
 out:List Int
 steps:Nat
 rest:List mf
 bJ:mf
 counts:List (List Nat)
structure Fin where
 state:Int
 value:Int
 out:List Int
 steps:Nat
 counts:List (List Nat)
def j7.stop(s:j7)(state value:Int):Fin:=⟨state,value,s.out,s.steps,s.counts⟩
def cK(t:mf)(v:cg):Int:=if v.z then t.aB.getD v.n.toNat 0 else v.n
def uD(aB:List Int)(dst n:Int):List Int:=if 0<=dst then aB.set dst.toNat n else aB
def mf.set(t:mf)(dst n:Int):mf:={t with aB:=uD t.aB dst n}
def bump(counts:List (List Nat))(k b:Nat):List (List Nat):=counts.modify k λl=>l.modify b (·+1)
def j7.set(s:j7)(dst n:Int):j7:={s with bJ:=s.bJ.set dst n}
def jp(t:mf)(k:Nat)(aD:List ep):List Int:=aD.foldl (λaB p=>aB.set p.dst.toNat (cK t (p.src.getD k iu))) t.aB
def s_(u:a8)(s:j7)(to:Int):j7:=
 let bl:=match u.funcs[s.bJ.fn]? with|some X=>X.blocks|none=>[]
 let k:=(aZ bl to.toNat).idxOf s.bJ.block
 {s with bJ:={s.bJ with aB:=jp s.bJ k (fD bl to.toNat),block:=to.toNat,at':=0},counts:=bump s.counts s.bJ.fn to.toNat}
def eN(n:Nat)(args:List Int):List Int:=(args++List.replicate n 0).take n
def vh(u:a8)(s:j7)(fn:Nat)(dst:Int)(args:List Int):j7:=
 let n:=match u.funcs[fn]? with|some X=>X.aB.toNat|none=>0
 {s with rest:=s.rest++[s.bJ],bJ:=⟨fn,0,0,eN n args,dst⟩,counts:=bump s.counts fn 0}
def mj(u:a8)(s:j7)(B:E):j7 ⊕ Fin:=
 if B.kind=2 then .inl (s_ u s (B.to.getD 0 0))
 else if B.kind=3 then .inl (s_ u s (if cK s.bJ B.on≠0 then B.to.getD 0 0 else B.to.getD 1 0))
 else match s.rest.getLast? with
  |none=>.inr (s.stop 0 (cK s.bJ B.on))
  |some t=>.inl {s with rest:=s.rest.dropLast,bJ:=t.set s.bJ.dst (cK s.bJ B.on)}
def kY(u:a8)(s:j7)(x:dJ):j7 ⊕ Fin:=
 let a:=cK s.bJ x.a
 let b:=cK s.bJ x.b
 if x.op=18∨x.op=19 then
  if !within a 0 ((s.mem.length:Int)-1)then .inr (s.stop 3 0)
  else if x.op=19 then .inl {s with mem:=s.mem.set a.toNat b}else .inl (s.set x.dst (s.mem.getD a.toNat 0))
 else if x.op=20 then(if s.rest.length+1=30 then .inr (s.stop 4 0)else .inl (vh u s x.fn.toNat x.dst (x.args.map (cK s.bJ))))
 else if x.op=21 then .inl {s with bJ:=s.bJ.set x.dst (s.dr.headD (-1)),dr:=s.dr.tail}
 else if x.op=22 then(if s.out.length=200 then .inr (s.stop 5 0)else .inl {s with out:=s.out++[a]})
 else match rK x.op a b with
  |none=>.inr (s.stop 2 0)
  |some n=>.inl (s.set x.dst n)
def qf(u:a8)(t:mf):E:=match u.funcs[t.fn]? with
 |some X=>X.blocks.getD t.block ⟨[],[],1,iu,[]⟩
 |none=>⟨[],[],1,iu,[]⟩
def jr(u:a8)(s:j7):j7 ⊕ Fin:=
 let B:=qf u s.bJ
 let s1:={s with steps:=s.steps+1}
 match B.list[s.bJ.at']? with
 |none=>mj u s1 B
 |some x=>kY u {s1 with bJ:={s1.bJ with at':=s1.bJ.at'+1}} x
def oG(u:a8):Nat->j7->Fin
 |0,s=>s.stop 1 0
 |n+1,s=>match jr u s with
  | .inl s'=>oG u n s'
  | .inr f=>f
def uj(gs:List jt):List Int:=gs.flatMap λg=>g.init++List.replicate (g.size.toNat-g.init.length) 0
def jA(u:a8)(input:List Int):j7:=
 let m:=(dh u.funcs).toNat
 let n:=match u.funcs[m]? with|some X=>X.aB.toNat|none=>0
 ⟨uj u.globals,input,[],0,[],⟨m,0,0,List.replicate n 0,-1⟩,bump (u.funcs.map λX=>List.replicate X.blocks.length 0) m 0⟩
def cJ(u:a8)(input:List Int)(bH:Nat):Fin:=oG u bH (jA u input)
theorem rO(x:Int):dk (ow x):=by
 unfold ow dk;rw[IntKind.wrap_i64];omega
theorem YE{a b:Int}(h:dk a):dk (a.tmod b):=by
 have h1:(a.tmod b).natAbs<=a.natAbs:=by
  rw[Int.natAbs_tmod];exact Nat.mod_le _ _
 unfold dk at*;rcases Int.le_total 0 a with h0|h0
 ·have:=Int.tmod_nonneg b h0
  omega
 ·have h2:a.tmod b<=0:=by
   have:=Int.tmod_nonneg b (a:=-a) I;rw[Int.neg_tmod]at this;omega
  omega
theorem Wt{a:Int}(k:Nat)(h:dk a):dk (a.fdiv (2 ^k)):=by
 have hp:(0:Int)<2 ^k:=Int.pow_pos I;rw[Int.fdiv_eq_ediv_of_nonneg _ I];unfold dk at*;constructor
 ·rcases Int.le_total 0 a with h0|h0
  ·have:=Int.ediv_nonneg h0 (by omega:(0:Int)<=2 ^k)
   omega
  ·have h2:a<=a/2 ^k:=by
    rw[Int.le_ediv_iff_mul_le hp];have:a*2 ^k<=a*1:=Int.mul_le_mul_of_nonpos_left h0 I;omega
   omega
 ·rcases Int.le_total 0 a with h0|h0
  ·have:=Int.ediv_le_self (2 ^k) h0
   omega
  ·have h2:a/2 ^k<=0:=by
    have h3:a/2 ^k<1:=by rw[Int.ediv_lt_iff_lt_mul hp];omega
    omega
   omega
theorem HD(b:Bool):dk (Ej b):=by cases b<;>simp[Ej,dk]
theorem BR(f:BitVec 64->BitVec 64->BitVec 64)(x y:Int):dk (wY f x y):=rO _
theorem acd{op a b n:Int}(ha:dk a)(h:rK op a b=Z n):dk n:=by
 unfold rK at h
 by_cases h1:op=1
 ·rw[if_pos h1]at h
  rw[<-a7 h];exact ha
 rw[if_neg h1]at h
 by_cases h2:op=2
 ·rw[if_pos h2]at h
  rw[<-a7 h];exact rO _
 rw[if_neg h2]at h
 by_cases h3:op=3
 ·rw[if_pos h3]at h
  rw[<-a7 h];exact rO _
 rw[if_neg h3]at h
 by_cases h4:op=4
 ·rw[if_pos h4]at h
  rw[<-a7 h];exact rO _
 rw[if_neg h4]at h
 by_cases h5:op=5
 ·rw[if_pos h5]at h
  by_cases hb:b=0
  ·rw[if_pos hb]at h;cases h
  ·rw[if_neg hb]at h;rw[<-a7 h];exact rO _
 rw[if_neg h5]at h
 by_cases h6:op=6
 ·rw[if_pos h6]at h
  by_cases hb:b=0
  ·rw[if_pos hb]at h;cases h
  ·rw[if_neg hb]at h;rw[<-a7 h];exact YE ha
 rw[if_neg h6]at h
 by_cases h7:op=7
 ·rw[if_pos h7]at h
  rw[<-a7 h];exact BR _ _ _
 rw[if_neg h7]at h
 by_cases h8:op=8
 ·rw[if_pos h8]at h
  rw[<-a7 h];exact BR _ _ _
 rw[if_neg h8]at h
 by_cases h9:op=9
 ·rw[if_pos h9]at h
  rw[<-a7 h];exact BR _ _ _
 rw[if_neg h9]at h
 by_cases K9:op=10
 ·rw[if_pos K9]at h
  rw[<-a7 h];exact rO _
 rw[if_neg K9]at h
 by_cases Fi:op=11
 ·rw[if_pos Fi]at h
  rw[<-a7 h];exact Wt _ ha
 rw[if_neg Fi]at h
 by_cases VE:op=12
 ·rw[if_pos VE]at h
  rw[<-a7 h];exact HD _
 rw[if_neg VE]at h
 by_cases VF:op=13
 ·rw[if_pos VF]at h
  rw[<-a7 h];exact HD _
 rw[if_neg VF]at h
 by_cases Y5:op=14
 ·rw[if_pos Y5]at h
  rw[<-a7 h];exact HD _
 rw[if_neg Y5]at h
 by_cases Y6:op=15
 ·rw[if_pos Y6]at h
  rw[<-a7 h];exact HD _
 rw[if_neg Y6]at h
 by_cases Y7:op=16
 ·rw[if_pos Y7]at h
  rw[<-a7 h];exact rO _
 rw[if_neg Y7]at h
 by_cases Y8:op=17
 ·rw[if_pos Y8]at h
  rw[<-a7 h];exact BR _ _ _
 rw[if_neg Y8]at h;rw[<-a7 h];simp[dk]
structure Ga(u:a8)(R:Nat)(x:dJ):Prop where
 op:1<=x.op/\x.op<=22
 a:jb R x.a
 b:jb R x.b
 dst:0<=x.dst->x.dst<R
 args:∀v∈x.args,jb R v
 few:x.args.length<=1000
 call:x.op=20->∃(k:Nat) (Y:aY),x.fn=k/\u.funcs[k]?=Z Y/\(x.args.length:Int)=Y.params
 tl:dk x.dst/\dk x.a.n/\dk x.b.n/\∀v∈x.args,dk v.n
structure Z_(u:a8)(R:Nat)(B:E):Prop where
 kind:(B.kind=1∨B.kind=2∨B.kind=3)/\(B.to.length:Int)=B.kind-1
 on:jb R B.on/\dk B.on.n
 list:B.list.length<=1000/\∀x∈B.list,Ga u R x
 aD:B.aD.length<=1000/\∀q∈B.aD,∀v∈q.src,dk v.n
structure MR(u:a8)(X:aY)(R:Nat):Prop where
 aB:X.aB=R
 le:R<=100
 ok:fu R X.blocks
 pos:0<X.blocks.length
 few:X.blocks.length<=100
 params:0<=X.params/\X.params<=R
 eR:∀B∈X.blocks,Z_ u R B
def jH(u:a8):Prop:=u.funcs.length<=1000/\∀(k:Nat) (X:aY),u.funcs[k]?=Z X->∃R,MR u X R
structure nP(u:a8)(f:mf)(X:aY)(R:Nat):Prop where
 get:u.funcs[f.fn]?=Z X
 fit:MR u X R
 aB:f.aB.length=R
 block:f.block<X.blocks.length
 tl:∀x∈f.aB,dk x
 dst:dk f.dst
 at':∀B,X.blocks[f.block]?=Z B->f.at'<=B.list.length
def Z8(f:mf):Nat×Int:=(f.aB.length,f.dst)
def F8(l:List (Nat×Int)):Prop:=∀i p q,l[i]?=Z p->l[i+1]?=Z q->0<=q.2->q.2<p.1
theorem F8.add{l:List (Nat×Int)}{p q:Nat×Int}(h:F8 (l++[p]))(hq:0<=q.2->q.2<p.1):F8 (l++[p]++[q]):=λi a b ha hb h0=>by
 by_cases hi:i+1<(l++[p]).length
 ·rw[dY I]at ha
  rw[dY hi]at hb;exact h i a b ha hb h0
 ·have hl:(l++[p]).length=l.length+1:=by simp
  have nO:=(az.1 hb).1;have HI:(l++[p]++[q]).length=l.length+2:=by simp
  have iJ:i=l.length:=I;subst iJ;rw[dY I]at ha;rw[dC I,hl,dN]at hb;simp at ha hb;subst ha hb;exact hq h0
theorem F8.drop{l:List (Nat×Int)}{q:Nat×Int}(h:F8 (l++[q])):F8 l:=λi a b ha hb h0=>by
 have h1:=(az.1 ha).1;have h2:=(az.1 hb).1;exact h i a b (by rw[dY h1];exact ha) (by rw[dY h2];exact hb) h0
theorem F8.last{l:List (Nat×Int)}{p q:Nat×Int}(h:F8 (l++[p]++[q])):0<=q.2->q.2<p.1:=
 h l.length p q aC (by rw[dC aC];simp)
structure ja(u:a8)(c:Nat)(s:j7):Prop where
 bJ:∃X R,nP u s.bJ X R
 rest:∀f∈s.rest,∃X R,nP u f X R
 dst:F8 ((s.rest++[s.bJ]).map Z8)
 lF:s.counts.length=u.funcs.length/\∀(k:Nat) (X:aY),u.funcs[k]?=Z X->∃l,s.counts[k]?=Z l/\l.length=X.blocks.length/\∀x∈l,x<=c
 deep:s.rest.length+1<=30
 out:s.out.length<=200/\∀x∈s.out,dk x
 mem:s.mem.length<=100000/\∀x∈s.mem,dk x
 dr:∀x∈s.dr,dk x
theorem sk{u:a8}{f:mf}{X:aY}{R:Nat}(h:nP u f X R){v:cg}(hv:jb R v)(hn:dk v.n):dk (cK f v):=by
 unfold cK
 split
 ·rename_i hr
  obtain⟨h0,h1⟩:=hv hr;have:=h.aB;rw[cB,a_ I,dW];exact h.tl _ (j9 _)
 ·exact hn
theorem xZ{aB:List Int}{d:Nat}{n:Int}(h:∀x∈aB,dk x)(hn:dk n):∀x∈aB.set d n,dk x:=λx hx=>by
 rcases kE hx with h1|rfl
 ·exact h x h1
 ·exact hn
theorem nP.set{u:a8}{f:mf}{X:aY}{R:Nat}(h:nP u f X R)(dst:Int){n:Int}(hn:dk n):nP u (f.set dst n) X R:=by
 refine⟨h.get,h.fit,?_,h.block,?_,h.dst,h.at'⟩
 ·unfold mf.set uD;simp only;split<;>simp[h.aB]
 ·unfold mf.set uD
  simp only
  split
  ·exact xZ h.tl hn
  ·exact h.tl
theorem Oe(f:mf)(dst n:Int):Z8 (f.set dst n)=Z8 f:=by unfold Z8 mf.set uD;simp only;split<;>simp
theorem Cu{u:a8}{c:Nat}{cs:List (List Nat)}(h:cs.length=u.funcs.length/\∀(k:Nat) (X:aY),u.funcs[k]?=Z X->∃l,cs[k]?=Z l/\l.length=X.blocks.length/\∀x∈l,x<=c)(k b:Nat):
  (bump cs k b).length=u.funcs.length/\∀(j:Nat) (X:aY),u.funcs[j]?=Z X->∃l,(bump cs k b)[j]?=Z l/\l.length=X.blocks.length/\∀x∈l,x<=c+1:=by
 refine⟨by unfold bump;rw[List.length_modify];exact h.1,λj X hX=>?_⟩;obtain⟨l,h1,h2,h3⟩:=h.2 j X hX;unfold bump;rw[mM,h1]
 by_cases e:k=j
 ·refine⟨_,rfl,?_,?_⟩
  ·simp[e,h2]
  ·intro x hx
   simp only[e,ite_true]at hx;obtain⟨i,hi⟩:=bg hx;rw[mM]at hi;obtain⟨y,hy,rfl⟩:=cA.1 hi;have:=h3 y (aq hy)
   split<;>omega
 ·exact⟨l,by simp[e],h2,λx hx=>by have:=h3 x hx;omega⟩
theorem Uz{u:a8}{f:mf}{X:aY}{R:Nat}(h:nP u f X R)(k:Nat)(l:List ep)(hl:∀q∈l,dk (cK f (q.src.getD k iu))):(jp f k l).length=R/\∀x∈jp f k l,dk x:=by
 unfold jp;have:∀(rs:List Int),rs.length=R->(∀x∈rs,dk x)->(l.foldl (λaB p=>aB.set p.dst.toNat (cK f (p.src.getD k iu))) rs).length=R/\∀x∈l.foldl (λaB p=>aB.set p.dst.toNat (cK f (p.src.getD k iu))) rs,dk x:=by
  clear h
  induction l with
  |nil=>exact λrs h1 h2=>⟨h1,h2⟩
  |cons q l ih=>
   intro rs h1 h2;rw[gj];exact ih (λq hq=>hl q (cO _ hq)) _ (by rw[eL];exact h1) (xZ h2 (hl q aC))
 exact this f.aB h.aB h.tl
theorem Vk{R np k:Nat}{q:ep}(h:YX R np q)(hk:k<np):∃v∈q.src,q.src.getD k iu=v:=by
 have:=h.len;exact⟨q.src[k]'I,j9 _,by rw[cB,a_ I];rfl⟩
structure V8(X:aY)(b to:Nat)(T:E):Prop where
 get:X.blocks[to]?=Z T
 mem:b∈aZ X.blocks to
theorem K8{u:a8}{f:mf}{X:aY}{R:Nat}(h:nP u f X R){B:E}(hB:X.blocks[f.block]?=Z B){t:Int}(ht:t∈B.to):∃(to:Nat) (T:E),t=to/\V8 X f.block to T:=by
 have hg:=(h.fit.ok.iM B (aq hB)).2 t ht;obtain⟨to,rfl⟩:∃to:Nat,t=to:=⟨t.toNat,I⟩;exact⟨to,X.blocks[to]'I,rfl,a_ _,pt h.block (by unfold db;rw[hB];exact ht)⟩
theorem Jt{u:a8}{s:j7}{X:aY}(hX:u.funcs[s.bJ.fn]?=Z X){to:Nat}{T:E}(hT:X.blocks[to]?=Z T):s_ u s to={s with bJ:={s.bJ with aB:=jp s.bJ ((aZ X.blocks to).idxOf s.bJ.block) T.aD,block:=to,at':=0},counts:=bump s.counts s.bJ.fn to}:=by
 unfold s_ fD;simp only[hX,dO,hT]
theorem G2{u:a8}{c:Nat}{s:j7}(h:ja u c s){X:aY}{R:Nat}(hf:nP u s.bJ X R){to:Nat}{T:E}(hg:V8 X s.bJ.block to T):ja u (c+1) (s_ u s to):=by
 rw[Jt hf.get hg.get];have hTm:=aq hg.get;have gI:=hf.fit.eR T hTm;have cY:=hf.fit.ok.block to T hg.get;obtain⟨h1,h2⟩:=Uz hf ((aZ X.blocks to).idxOf s.bJ.block) T.aD λq hq=>by
  obtain⟨v,hv,e⟩:=Vk (cY.aD q hq) (ju hg.mem);rw[e];exact sk hf ((cY.aD q hq).uJ v hv) (gI.aD.2 q hq v hv)
 refine⟨⟨X,R,⟨hf.get,hf.fit,h1,(az.1 hg.get).1,h2,hf.dst,λ_ _=>aT _⟩⟩,h.rest,?_,Cu h.lF _ _,h.deep,h.out,h.mem,h.dr⟩;have e:((s.rest++[{s.bJ with aB:=jp s.bJ ((aZ X.blocks to).idxOf s.bJ.block) T.aD,block:=to,at':=0}]).map Z8)=(s.rest++[s.bJ]).map Z8:=by
  simp only[bz,bT,dn,Z8,h1,hf.aB]
 exact e▸h.dst
theorem Fb{R:Nat}{args:List Int}(h:∀x∈args,dk x):∀x∈eN R args,dk x:=λx hx=>by
 have:=rX hx;rcases bA.1 this with h1|h1
 ·exact h x h1
 ·rw[jK h1];simp[dk]
theorem w8(R:Nat)(args:List Int):(eN R args).length=R:=by simp[eN]
theorem Fa{u:a8}{s:j7}{fn:Nat}{Y:aY}{R:Nat}(hY:u.funcs[fn]?=Z Y)(hR:Y.aB=R)(dst:Int)(args:List Int):vh u s fn dst args={s with rest:=s.rest++[s.bJ],bJ:=⟨fn,0,0,eN R args,dst⟩,counts:=bump s.counts fn 0}:=by
 unfold vh;simp only[hY,hR,dO]
theorem RI{u:a8}(hu:jH u){c:Nat}{s:j7}(h:ja u c s){fn:Nat}{Y:aY}(hY:u.funcs[fn]?=Z Y){dst:Int}(hd:0<=dst->dst<s.bJ.aB.length)(hdi:dk dst){args:List Int}(ha:∀x∈args,dk x)(ahW:s.rest.length+1<30):ja u (c+1) (vh u s fn dst args):=by
 obtain⟨R,gI⟩:=hu.2 fn Y hY;rw[Fa hY gI.aB];refine⟨⟨Y,R,⟨hY,gI,w8 _ _,gI.pos,Fb ha,hdi,λ_ _=>aT _⟩⟩,λf hf=>?_,?_,Cu h.lF _ _,?_,h.out,h.mem,h.dr⟩
 ·rcases bA.1 hf with hf|hf
  ·exact h.rest f hf
  ·rw[bR.1 hf];exact h.bJ
 ·have:=h.dst
  simp only[bz,bT,dn]at this⊢;exact this.add (q:=Z8 ⟨fn,0,0,eN R args,dst⟩) (λh0=>hd h0)
 ·simp;omega
theorem ja.mono{u:a8}{c d:Nat}{s:j7}(h:ja u c s)(xF:c<=d):ja u d s:=
 ⟨h.bJ,h.rest,h.dst,⟨h.lF.1,λk X hX=>by
  obtain⟨l,h1,h2,h3⟩:=h.lF.2 k X hX;exact⟨l,h1,h2,λx hx=>du (h3 x hx) xF⟩⟩,h.deep,h.out,h.mem,h.dr⟩
theorem ja.set{u:a8}{c:Nat}{s:j7}(h:ja u c s)(dst:Int){n:Int}(hn:dk n):ja u c (s.set dst n):=by
 obtain⟨X,R,hf⟩:=h.bJ;refine⟨⟨X,R,hf.set dst hn⟩,h.rest,?_,h.lF,h.deep,h.out,h.mem,h.dr⟩;have:=h.dst;simp only[j7.set,bz,bT,dn,Oe]at this⊢;exact this
theorem AR{B:E}{i:Nat}(h:i<B.to.length):B.to.getD i 0∈B.to:=by
 rw[cB,a_ h,dW];exact j9 _
theorem L2{α:Type}{l:List α}{t:α}(h:l.getLast?=Z t):l=l.dropLast++[t]:=by
 have eQ:l≠[]:=λe=>by rw[e]at h;simp at h
 have h2:=List.dropLast_concat_getLast eQ;rw[List.getLast?_eq_some_getLast eQ]at h;rw[a7 h]at h2;exact h2.symm
theorem aaq{u:a8}{c:Nat}{s:j7}(h:ja u c s){X:aY}{R:Nat}(hf:nP u s.bJ X R){B:E}(hB:X.blocks[s.bJ.block]?=Z B){s':j7}(he:mj u s B=.inl s'):ja u (c+1) s':=by
 have gI:=hf.fit.eR B (aq hB);have hlen:=gI.kind.2;unfold mj at he
 by_cases h2:B.kind=2
 ·rw[if_pos h2]at he
  obtain⟨to,T,e,hg⟩:=K8 hf hB (AR (B:=B) (i:=0) I);rw[e]at he;rw[<-Sum.inl.inj he];exact G2 h hf hg
 rw[if_neg h2]at he
 by_cases h3:B.kind=3
 ·rw[if_pos h3]at he
  rw[<-Sum.inl.inj he]
  split
  ·obtain⟨to,T,e,hg⟩:=K8 hf hB (AR (B:=B) (i:=0) I)
   rw[e];exact G2 h hf hg
  ·obtain⟨to,T,e,hg⟩:=K8 hf hB (AR (B:=B) (i:=1) I)
   rw[e];exact G2 h hf hg
 rw[if_neg h3]at he;cases hl:s.rest.getLast? with
 |none=>rw[hl]at he;cases he
 |some t=>
  rw[hl]at he;rw[<-Sum.inl.inj he];have GR:=L2 hl;have hd:=h.dst;rw[GR]at hd;simp only[bz,bT,dn]at hd;obtain⟨Y,R',hft⟩:=h.rest t (by rw[GR];simp);have hn:=sk hf gI.on.1 gI.on.2;refine⟨⟨Y,R',hft.set _ hn⟩,λf hf=>h.rest f (List.dropLast_subset _ hf),?_,⟨h.lF.1,λk X hX=>?_⟩,?_,h.out,h.mem,h.dr⟩
  ·simp only[bz,bT,dn,Oe]
   exact hd.drop
  ·obtain⟨l,h1,h2,h3⟩:=h.lF.2 k X hX
   exact⟨l,h1,h2,λx hx=>by have:=h3 x hx;omega⟩
  ·have:=h.deep
   simp only[List.length_dropLast];omega
theorem abL{u:a8}(hu:jH u){c:Nat}{s:j7}(h:ja u c s){X:aY}{R:Nat}(hf:nP u s.bJ X R){x:dJ}(hx:Ga u R x){s':j7}(he:kY u s x=.inl s'):ja u (c+1) s':=by
 have ha:=sk hf hx.a hx.tl.2.1;have hb:=sk hf hx.b hx.tl.2.2.1;have hm:=h.mono (Nat.le_succ c);unfold kY at he;simp only at he
 by_cases h1:x.op=18∨x.op=19
 ·rw[if_pos h1]at he
  split at he
  ·cases he
  rename_i hw;simp only[within,Bool.not_eq_true',Bool.and_eq_false_iff,decide_eq_false_iff_not,not_or,Decidable.not_not]at hw
  split at he
  ·rw[<-Sum.inl.inj he]
   exact⟨hm.bJ,hm.rest,hm.dst,hm.lF,hm.deep,hm.out,⟨by rw[eL];exact hm.mem.1,xZ hm.mem.2 hb⟩,hm.dr⟩
  ·rw[<-Sum.inl.inj he]
   refine hm.set _ ?_;rw[cB,a_ I,dW];exact hm.mem.2 _ (j9 _)
 rw[if_neg h1]at he
 by_cases h2:x.op=20
 ·rw[if_pos h2]at he
  split at he
  ·cases he
  rename_i Zl;obtain⟨k,Y,e,hY,_⟩:=hx.call h2;rw[e,dO]at he;rw[<-Sum.inl.inj he];have:=h.deep;refine RI hu h hY (λh0=>by rw[hf.aB];exact hx.dst h0) hx.tl.1 (λakj hz=>?_) I;obtain⟨v,hv,rfl⟩:=aV.1 hz;exact sk hf (hx.args v hv) (hx.tl.2.2.2 v hv)
 rw[if_neg h2]at he
 by_cases h3:x.op=21
 ·rw[if_pos h3]at he
  rw[<-Sum.inl.inj he];have hn:dk (s.dr.headD (-1)):=by
   cases hi:s.dr with
   |nil=>simp[dk]
   |cons y l=>exact h.dr y (by rw[hi];simp)
  have h5:=hm.set x.dst hn;exact⟨h5.bJ,h5.rest,h5.dst,h5.lF,h5.deep,h5.out,h5.mem,λakj hz=>h.dr akj (List.mem_of_mem_tail hz)⟩
 rw[if_neg h3]at he
 by_cases h4:x.op=22
 ·rw[if_pos h4]at he
  split at he
  ·cases he
  rename_i ho;rw[<-Sum.inl.inj he];have:=hm.out.1;refine⟨hm.bJ,hm.rest,hm.dst,hm.lF,hm.deep,⟨by simp;omega,λakj hz=>?_⟩,hm.mem,hm.dr⟩;rcases bA.1 hz with hz|hz
  ·exact hm.out.2 akj hz
  ·rw[bR.1 hz];exact ha
 rw[if_neg h4]at he;cases ht:rK x.op (cK s.bJ x.a) (cK s.bJ x.b)with
 |none=>rw[ht]at he;cases he
 |some n=>
  rw[ht]at he;rw[<-Sum.inl.inj he];exact hm.set _ (acd ha ht)
def tick(s:j7):j7:={s with steps:=s.steps+1}
def ky(s:j7):j7:={s with bJ:={s.bJ with at':=s.bJ.at'+1}}
theorem Cc{u:a8}{c:Nat}{s:j7}(h:ja u c s):ja u c (tick s):=⟨h.bJ,h.rest,h.dst,h.lF,h.deep,h.out,h.mem,h.dr⟩
theorem sS{u:a8}{f:mf}{X:aY}{R:Nat}(hf:nP u f X R){B:E}(hB:X.blocks[f.block]?=Z B):qf u f=B:=by
 unfold qf;rw[hf.get];simp only[cB,hB,dW]
theorem M_{u:a8}{c:Nat}{s:j7}(h:ja u c s){X:aY}{R:Nat}(hf:nP u s.bJ X R){B:E}(hB:X.blocks[s.bJ.block]?=Z B)(bS:s.bJ.at'<B.list.length):ja u c (ky s)/\nP u (ky s).bJ X R:=by
 have h2:nP u (ky s).bJ X R:=⟨hf.get,hf.fit,hf.aB,hf.block,hf.tl,hf.dst,λakh hC=>by
  have hC:X.blocks[s.bJ.block]?=Z akh:=hC;rw[hB]at hC;rw[<-a7 hC];exact bS⟩
 exact⟨⟨⟨X,R,h2⟩,h.rest,by have:=h.dst;simp only[bz,bT,dn]at this⊢;exact this,h.lF,h.deep,h.out,h.mem,h.dr⟩,h2⟩
theorem iS(u:a8)(s:j7):jr u s=match (qf u s.bJ).list[s.bJ.at']? with|none=>mj u (tick s) (qf u s.bJ)|some x=>kY u (ky (tick s)) x:=rfl
theorem CJ{u:a8}{s s':j7}{B:E}(h:mj u s B=.inl s'):s'.steps=s.steps:=by
 unfold mj at h
 split at h
 ·rw[<-Sum.inl.inj h];rfl
 split at h
 ·rw[<-Sum.inl.inj h];rfl
 split at h
 ·cases h
 ·rw[<-Sum.inl.inj h]
theorem Dq{u:a8}{s s':j7}{x:dJ}(h:kY u s x=.inl s'):s'.steps=s.steps:=by
 unfold kY at h;simp only at h
 repeat' (split at h)
 all_goals first
  |(cases h;done)
  |(rw[<-Sum.inl.inj h]<;>rfl)
theorem kQ{u:a8}(hu:jH u){s s':j7}(h:ja u (s.steps+1) s)(he:jr u s=.inl s'):ja u (s'.steps+1) s'/\s'.steps=s.steps+1:=by
 obtain⟨X,R,hf⟩:=h.bJ;obtain⟨B,hB⟩:=bf X.blocks s.bJ.block hf.block;rw[iS,sS hf hB]at he;cases hx:B.list[s.bJ.at']? with
 |none=>
  rw[hx]at he;have h1:=aaq (Cc h) hf hB he;have h2:=CJ he;exact⟨by rw[h2];exact h1,h2⟩
 |some x=>
  rw[hx]at he;have bS:=(az.1 hx).1;obtain⟨h3,h4⟩:=M_ (Cc h) (s:=tick s) hf hB bS;have h1:=abL hu h3 h4 ((hf.fit.eR B (aq hB)).list.2 x (aq hx)) he;have h2:=Dq he;exact⟨by rw[h2];exact h1,h2⟩
end
section
set_option maxHeartbeats 8000000
attribute [local irreducible] wpListIn Code.wpIn Exit.then Exit.inBlock bodyPost wpQuiet wpAnyIn wpAnyH
section
section
variable {P:Program} {N:Nat} {ds:List Deferred} {S:Nat->Prop} {w0:C} {L:List (Nat×V)} {H:List bN} {x y:Operand}
theorem Qw{T T2:Nat}{m n:Int}[hx:Ev L x (U O m)][hy:Ev L y (U O n)]:dL P N ds S w0 L H (.binOp .add T x y T2) (U O (ow (m+n))):=fM (λ_=>rfl) λ_=>rfl
theorem QA{T T2:Nat}{m n:Int}[hx:Ev L x (U O m)][hy:Ev L y (U O n)]:dL P N ds S w0 L H (.binOp .sub T x y T2) (U O (ow (m-n))):=fM (λ_=>rfl) λ_=>rfl
theorem Qx{T T2:Nat}{m n:Int}[hx:Ev L x (U O m)][hy:Ev L y (U O n)]:dL P N ds S w0 L H (.binOp .mul T x y T2) (U O (ow (m*n))):=fM (λ_=>rfl) λ_=>rfl
theorem Qy{T T2:Nat}{m n:Int}[hx:Ev L x (U O m)][hy:Ev L y (U O n)](h:n≠0):dL P N ds S w0 L H (.binOp .quo T x y T2) (U O (ow (m.tdiv n))):=fM (λ_=>rfl) λw=>by
 show((Op.intDiv .quo O m n).run P w)=_;simp[Op.intDiv,h,ow]
theorem Qz{T T2:Nat}{m n:Int}[hx:Ev L x (U O m)][hy:Ev L y (U O n)](h:n≠0):dL P N ds S w0 L H (.binOp .rem T x y T2) (U O (m.tmod n)):=fM (λ_=>rfl) λw=>by
 show((Op.intDiv .rem O m n).run P w)=_;simp[Op.intDiv,h]
theorem DS{T T2:Nat}{m n:Int}[hx:Ev L x (U O m)][hy:Ev L y (U O n)]:dL P N ds S w0 L H (.binOp .and T x y T2) (U O (Ge m n)):=fM (λ_=>rfl) λ_=>rfl
theorem Yp{T T2:Nat}{m n:Int}[hx:Ev L x (U O m)][hy:Ev L y (U O n)]:dL P N ds S w0 L H (.binOp .or T x y T2) (U O (wY (·|||·) m n)):=fM (λ_=>rfl) λ_=>rfl
theorem U2{T T2:Nat}{m n:Int}[hx:Ev L x (U O m)][hy:Ev L y (U O n)]:dL P N ds S w0 L H (.binOp .xor T x y T2) (U O (wY (·^^^·) m n)):=fM (λ_=>rfl) λ_=>rfl
theorem HZ(y:Int):0<=Ge y 63:=by
 have h:((BitVec.ofInt 64 y&&& BitVec.ofInt 64 63).toNat:Nat)<=63:=by
  rw[BitVec.toNat_and];exact du Nat.and_le_right (by decide)
 unfold Ge wY ow;simp only;rw[IntKind.wrap_i64];omega
theorem U0{T T2:Nat}{m n:Int}[hx:Ev L x (U O m)][hy:Ev L y (U O (Ge n 63))]:dL P N ds S w0 L H (.binOp .shl T x y T2) (U O (ow (m*2 ^O1 n))):=fM (λ_=>rfl) λw=>by
 show((Op.shift .shl O m O (Ge n 63)).run P w)=_;have:=HZ n;simp[Op.shift,O1,ow,IntKind.bits];omega
theorem U1{T T2:Nat}{m n:Int}[hx:Ev L x (U O m)][hy:Ev L y (U O (Ge n 63))]:dL P N ds S w0 L H (.binOp .shr T x y T2) (U O (m.fdiv (2 ^O1 n))):=fM (λ_=>rfl) λw=>by
 show((Op.shift .shr O m O (Ge n 63)).run P w)=_;have:=HZ n;simp[Op.shift,O1,IntKind.bits];omega
theorem UY{T:Nat}{m:Int}[hx:Ev L x (U O m)]:dL P N ds S w0 L H (.unOp .neg T x) (U O (ow (0-m))):=
 ⟨λ_ h=>(by cases h),λ_ _ h=>(by cases h),λ_ _ _ _ _ a w hF _=>by simp[execOp,hx.eq _ _ _ hF,Op.unary,Op.intArith,ow]⟩
theorem UZ{T:Nat}{m:Int}[hx:Ev L x (U O m)]:dL P N ds S w0 L H (.unOp .xor T x) (U O (wY (·^^^·) (-1) m)):=
 ⟨λ_ h=>(by cases h),λ_ _ h=>(by cases h),λ_ _ _ _ _ a w hF _=>by
  have h1:(Op.unary .xor (U O m)).run P w=.ok (U O (wY (·^^^·) (-1) m)) w:=rfl;simp[execOp,hx.eq _ _ _ hF,h1]⟩
end
theorem OJ(b:Bool)(w0:C):eP ae 197 [D b] w0 (U O (Ej b)):=by
 refine aM func197 rfl ntmps197 rfl (Wd.nil cX w0) ?_;cases b
 ·refine aH ?_
  exact bP rfl rfl
 ·refine aE ?_
  exact bP rfl rfl
def tF(op a b:Int):V:=match rK op a b with|some n=>.tuple #[U O n,D true]|none=>.tuple #[U O 0,D false]
theorem aeX(a b:Int):tF 12 a b=.tuple #[U O (Ej (decide (a=b))),D true]:=rfl
theorem aeY(a b:Int):tF 13 a b=.tuple #[U O (Ej (!decide (a=b))),D true]:=rfl
theorem aeZ(a b:Int):tF 14 a b=.tuple #[U O (Ej (decide (a<b))),D true]:=rfl
theorem ae0(a b:Int):tF 15 a b=.tuple #[U O (Ej (decide (a<=b))),D true]:=rfl
set_option maxRecDepth 100000 in
theorem ae1(op a b:Int)(w0:C):eP ae 175 [U O op,U O a,U O b] w0 (tF op a b):=by
 refine aM func175 rfl ntmps175 rfl (Wd.nil cX w0) ?_;have eQ:∀k:Int,decide (op=k)=false->op≠k:=λk h=>ax h;refine aH ?_;refine aI (λh1=>?_) (λh1=>?_)
 ·obtain rfl:op=1:=ax h1
  refine aE ?_;refine kL rfl λ_ hw=>⟨by simp[tF,rK],hw.ch⟩
 replace h1:=eQ _ h1;refine aU ?_;refine aI (λh2=>?_) (λh2=>?_)
 ·obtain rfl:op=2:=ax h2
  refine aU ?_;refine nJ (h:=Qw) rfl ?_;refine aE ?_;refine kL rfl λ_ hw=>⟨by simp[tF,rK],hw.ch⟩
 replace h2:=eQ _ h2;refine aU ?_;refine aI (λh3=>?_) (λh3=>?_)
 ·obtain rfl:op=3:=ax h3
  refine aU ?_;refine nJ (h:=QA) rfl ?_;refine aE ?_;refine kL rfl λ_ hw=>⟨by simp[tF,rK],hw.ch⟩
 replace h3:=eQ _ h3;refine aU ?_;refine aI (λh4=>?_) (λh4=>?_)
 ·obtain rfl:op=4:=ax h4
  refine aU ?_;refine nJ (h:=Qx) rfl ?_;refine aE ?_;refine kL rfl λ_ hw=>⟨by simp[tF,rK],hw.ch⟩
 replace h4:=eQ _ h4;refine aU ?_
 by_cases h56:op=5∨op=6
 ·refine Or.elim h56 (λh=>?_) (λh=>?_)
  subst h;rw[show decide ((5:Int)=5)=true from rfl];refine aH ?_;rotate_left;subst h;rw[show decide ((6:Int)=5)=false from rfl];refine aH ?_;rw[show decide ((6:Int)=6)=true from rfl]
  skip
  all_goals
   by_cases hb:b=0
   ·rw[decide_eq_true hb]
    refine aE ?_;exact kL rfl λ_ hw=>⟨by simp[tF,rK,hb],hw.ch⟩
   ·rw[decide_eq_false hb]
    refine aH ?_
    first
     |(rw[show decide ((6:Int)=5)=false from rfl])
     |(rw[show decide ((5:Int)=5)=true from rfl])
    skip
    first
     |refine nJ (h:=Qy hb) rfl ?_
     |refine nJ (h:=Qz hb) rfl ?_
    refine aE ?_;exact kL rfl λ_ hw=>⟨by simp[tF,rK,hb],hw.ch⟩
 obtain⟨h5,h6⟩:=not_or.1 h56;rw[decide_eq_false h5];refine aH ?_;rw[decide_eq_false h6];refine aH ?_;refine aI (λh7=>?_) (λh7=>?_)
 ·obtain rfl:op=7:=ax h7
  refine aU ?_;refine nJ (h:=DS) rfl ?_;refine aE ?_;refine kL rfl λ_ hw=>⟨by simp[tF,rK],hw.ch⟩
 replace h7:=eQ _ h7;refine aU ?_;refine aI (λh8=>?_) (λh8=>?_)
 ·obtain rfl:op=8:=ax h8
  refine aU ?_;refine nJ (h:=Yp) rfl ?_;refine aE ?_;refine kL rfl λ_ hw=>⟨by simp[tF,rK],hw.ch⟩
 replace h8:=eQ _ h8;refine aU ?_;refine aI (λh9=>?_) (λh9=>?_)
 ·obtain rfl:op=9:=ax h9
  refine aU ?_;refine nJ (h:=U2) rfl ?_;refine aE ?_;refine kL rfl λ_ hw=>⟨by simp[tF,rK],hw.ch⟩
 replace h9:=eQ _ h9;refine aU ?_;refine aI (λK9=>?_) (λK9=>?_)
 ·obtain rfl:op=10:=ax K9
  refine aU ?_;refine nJ (h:=DS) rfl ?_
  skip
  refine nJ (h:=U0) rfl ?_;refine aE ?_;refine kL rfl λ_ hw=>⟨by simp[tF,rK],hw.ch⟩
 replace K9:=eQ _ K9;refine aU ?_;refine aI (λFi=>?_) (λFi=>?_)
 ·obtain rfl:op=11:=ax Fi
  refine aU ?_;refine nJ (h:=DS) rfl ?_
  skip
  refine nJ (h:=U1) rfl ?_;refine aE ?_;refine kL rfl λ_ hw=>⟨by simp[tF,rK],hw.ch⟩
 replace Fi:=eQ _ Fi;refine aU ?_;refine aI (λVE=>?_) (λVE=>?_)
 ·obtain rfl:op=12:=ax VE
  refine aU ?_;refine lH (us:=[]) (xs:=[]) rfl (λw _=>OJ _ w) ?_;refine aE ?_;refine kL rfl λ_ hw=>⟨by rw[aeX],hw.ch⟩
 replace VE:=eQ _ VE;refine aU ?_;refine aI (λVF=>?_) (λVF=>?_)
 ·obtain rfl:op=13:=ax VF
  refine aU ?_;refine lH (us:=[]) (xs:=[]) rfl (λw _=>OJ _ w) ?_;refine aE ?_;refine kL rfl λ_ hw=>⟨by rw[aeY],hw.ch⟩
 replace VF:=eQ _ VF;refine aU ?_;refine aI (λY5=>?_) (λY5=>?_)
 ·obtain rfl:op=14:=ax Y5
  refine aU ?_;refine lH (us:=[]) (xs:=[]) rfl (λw _=>OJ _ w) ?_;refine aE ?_;refine kL rfl λ_ hw=>⟨by rw[aeZ],hw.ch⟩
 replace Y5:=eQ _ Y5;refine aU ?_;refine aI (λY6=>?_) (λY6=>?_)
 ·obtain rfl:op=15:=ax Y6
  refine aU ?_;refine lH (us:=[]) (xs:=[]) rfl (λw _=>OJ _ w) ?_;refine aE ?_;refine kL rfl λ_ hw=>⟨by rw[ae0],hw.ch⟩
 replace Y6:=eQ _ Y6;refine aU ?_;refine aI (λY7=>?_) (λY7=>?_)
 ·obtain rfl:op=16:=ax Y7
  refine aU ?_;refine nJ (h:=UY) rfl ?_;refine aE ?_;refine kL rfl λ_ hw=>⟨by simp[tF,rK],hw.ch⟩
 replace Y7:=eQ _ Y7;refine aU ?_;refine aI (λY8=>?_) (λY8=>?_)
 ·obtain rfl:op=17:=ax Y8
  refine aU ?_;refine nJ (h:=UZ) rfl ?_;refine aE ?_;refine kL rfl λ_ hw=>⟨by simp[tF,rK],hw.ch⟩
 replace Y8:=eQ _ Y8;refine aH ?_;refine kL rfl λ_ hw=>⟨by simp[tF,rK,h1,h2,h3,h4,h5,h6,h7,h8,h9,K9,Fi,VE,VF,Y5,Y6,Y7,Y8],hw.ch⟩
end
end
end Go.Proofs.YthfhgolkafpmnaaGreatDoor
