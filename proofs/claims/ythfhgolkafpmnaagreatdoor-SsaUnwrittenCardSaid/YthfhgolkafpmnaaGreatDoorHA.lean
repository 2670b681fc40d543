/- Texts joined: OwnR Del Clean RunP RunQ RunR RunA. -/
import Derived.Test.YthfhgolkafpmnaaGreatDoorGD
import Derived.Test.YthfhgolkafpmnaaGreatDoorGF
import Derived.Test.YthfhgolkafpmnaaGreatDoorGG
import Derived.Test.YthfhgolkafpmnaaGreatDoorGH
import Derived.Test.YthfhgolkafpmnaaGreatDoorGM
namespace Go.Proofs.YthfhgolkafpmnaaGreatDoor
section
open Go Go.RowKit
class gj(H:List bN)(b off:Nat)(cs:outParam (List Value)):Prop where
 eq:∀S w0 w,Wd S w0 H w->bG w b off cs
section
variable {P:Program} {ro:Option Nat} {N:Nat} {ds:List Deferred} {S:Nat->Prop} {w0:World} {L:List (Nat×Value)} {H:List bN} {ops:Array Oper} {rest:List Oper} {Q:Exit->Act->World->Prop} {x y:Operand}
instance{T b off n:Nat}{cs:List Value}[h:d_ P T n][hx:Ev L x (.pointer (some ⟨b,off,none⟩))][hc:gj H b off cs][hn:kx cs n]:dz P N ds S w0 L H (.load T x) (.agg cs.toArray):=
 ⟨λ_ h=>(by cases h),λ_ _ h=>(by cases h),λ_ _ _ _ _ a w hF hW=>by simp[execOp,hx.eq _ _ _ hF,lX hn.eq (hc.eq _ _ _ hW)]⟩
theorem iT{α:Type}{k b o n c e s i:Nat}{l:List α}{g:α->List Value}{y:α}(hk:H[k]?=some (ai (some ⟨b,o,none⟩) n c e s (l.flatMap g)))(hg:∀x,(g x).length=s)(hy:l[i]?=some y):gj H b (o+i*s) (g y):=
 ⟨λ_ _ w hw j v hj=>by
  have:=hw.cK hk (fy hg l i y j v hy hj);rwa[<-dA]at this⟩
theorem kC{α:Type}{g:α->List Value}{s:Nat}(hg:∀x,(g x).length=s):∀(l:List α) (i:Nat),(l.flatMap g).take (i*s)=(l.take i).flatMap g/\(l.flatMap g).drop (i*s)=(l.drop i).flatMap g
 |[],i=>by simp
 |x::l,0=>by simp
 |x::l,i+1=>by
  obtain⟨h1,h2⟩:=kC hg l i;have e:(i+1)*s=(g x).length+i*s:=by rw[hg,Nat.succ_mul];omega
  rw[gx,e,qW,tX,h1,h2];simp
theorem jy{α:Type}{g:α->List Value}{s:Nat}(hg:∀x,(g x).length=s){l:List α}{i:Nat}(hi:i<l.length)(y:α):(l.flatMap g).take (i*s)++g y++(l.flatMap g).drop (i*s+s)=(l.set i y).flatMap g:=by
 have e:i*s+s=(i+1)*s:=by rw[Nat.succ_mul]
 rw[e,(kC hg l i).1,(kC hg l (i+1)).2]
 conv=>rhs;rw[List.set_eq_take_append_cons_drop]
 rw[if_pos hi];simp
theorem gh{α:Type}{g:α->List Value}{s:Nat}(hg:∀x,(g x).length=s):∀{l:List α} {i k:Nat} {x y:α} {v:Value},l[i]?=some x->k<s->(g x).set k v=g y->(l.flatMap g).set (i*s+k) v=(l.set i y).flatMap g
 |[],i,k,x,y,v,hx,_,_=>by simp at hx
 |z::l,0,k,x,y,v,hx,hk,he=>by
  simp only[jJ,bW]at hx;subst hx;rw[gx,Nat.zero_mul,dM,List.set_append_left _ _ (by rw[hg];exact hk),he];simp
 |z::l,i+1,k,x,y,v,hx,hk,he=>by
  have ih:=gh hg (l:=l) (i:=i) (k:=k) (x:=x) (y:=y) (v:=v) (by simpa using hx) hk he;have e:(i+1)*s+k=(g z).length+(i*s+k):=by rw[hg,Nat.succ_mul];omega
  rw[gx,e,lq _ _ ag,mf,ih];simp
theorem kT{ty T b o off j n c e s m:Nat}(k:Nat){xs vs:List Value}{pos:String}{aft:Array Go.Edge}[h:d_ P T m][hx:Ev L x (.pointer (some ⟨b,off,none⟩))][hy:Ev L y (.agg vs.toArray)][hn:kx vs m][h1:sU vs]
  (hk:H[k]?=some (ai (some ⟨b,o,none⟩) n c e s xs)) (AT:off=o+j) (fW:j+m<=xs.length)
  (kk:G N ds S w0 L (H.set k (ai (some ⟨b,o,none⟩) n c e s (xs.take j++vs++xs.drop (j+m)))) (wpListIn (FW ro) 0 P ops Q rest)):G N ds S w0 L H (wpListIn (FW ro) 0 P ops Q (⟨none,.store T x y,ty,pos,aft,none⟩::rest)):=λa w hS=>by
 subst AT;obtain⟨hl,pE,zS,pre,sp,rfl,Eo,hb⟩:=hS.wd.km hk;have bT:b<w.heap.size:=(fI.1 hb).1;have uk:=hn.eq;have hs:=run_storeCells_at P b (pre.length+j) e vs 0 _ w hb (by simp;omega) h1.all;have fK:(pre++xs++sp).take (pre.length+j+0)++vs++(pre++xs++sp).drop (pre.length+j+0+vs.length)=pre++(xs.take j++vs++xs.drop (j+m))++sp:=by
  rw[dL,dE pre xs sp,qW,dA,tX,jY ag,wA ag,uk];simp
 simp only at hs;rw[fK]at hs;refine step_skip (w':=w.setRow b (pre++(xs.take j++vs++xs.drop (j+m))++sp).toArray) rfl (λ_ h=>by cases h) ?_ ?_
 ·simp[execOp,hx.eq _ _ _ hS.fr,hy.eq _ _ _ hS.fr,Instr.storeAt,Instr.sureAddr,storeVar,h.sz,Value.cells,uk,hs]
 ·refine kk _ _ ⟨hS.fr,?_⟩
  have oj:∀q:Array Value,(w.setRow b q).heap.size=w.heap.size:=λq=>by simp[World.setRow]
  refine hS.wd.kf hk ⟨rfl,rfl,rfl,by rw[oj];exact bH _,λj _ hj=>setRow_other w b j _ λe'=>hj (by simp[ai,e'])⟩ (λb' mL=>?_) λw2 jl=>?_
  ·simp only[ai,bz,bW]at mL⊢
   subst mL;exact⟨.inl rfl,by rw[oj];exact bT⟩
  ·have:=jl b (by simp[ai])
   refine⟨?_,.inr ⟨b,pre,sp,rfl,pE,zS,Eo,?_⟩⟩
   ·simp only[bR,cU,ez];omega
   ·rw[this]
    exact setRow_heap w b _ _ e _ hb
end
end
section
open Go Go.RowKit
attribute [local irreducible] wpListIn Code.wpIn Exit.then Exit.inBlock bodyPost wpQuiet wpAnyIn wpAnyH
set_option maxHeartbeats 4000000
section
variable {P:Program} {ro:Option Nat} {N:Nat} {ds:List Deferred} {S:Nat->Prop} {w0 w:World} {L:List (Nat×Value)} {H:List bN} {ops:Array Oper} {rest:List Oper} {Q:Exit->Act->World->Prop} {p:Act->World->Prop} {x y z u:Operand}
theorem Wd.EV(hW:Wd S w0 H w){k:Nat}{b o n c e s:Nat}{xs vs:List Value}(hk:H[k]?=some (ai (some ⟨b,o,none⟩) n c e s xs))(j:Nat)(h1:∀v∈vs,v.oneCell'=true)(fW:j+vs.length<=xs.length):
  ∃w',(storeCells ⟨b,o+j,none⟩ vs).run P w=.ok () w'/\Wd S w0 (H.set k (ai (some ⟨b,o,none⟩) n c e s (xs.take j++vs++xs.drop (j+vs.length)))) w':=by
 obtain⟨hl,pE,zS,pre,sp,rfl,Eo,hb⟩:=hW.km hk;have bT:b<w.heap.size:=(fI.1 hb).1;have hs:=run_storeCells_at P b (pre.length+j) e vs 0 _ w hb (by simp;omega) h1;have fK:(pre++xs++sp).take (pre.length+j+0)++vs++(pre++xs++sp).drop (pre.length+j+0+vs.length)=pre++(xs.take j++vs++xs.drop (j+vs.length))++sp:=by
  rw[dL,dE pre xs sp,qW,dA,tX,jY ag,wA ag];simp
 simp only at hs;rw[fK]at hs;refine⟨_,hs,?_⟩;have oj:∀q:Array Value,(w.setRow b q).heap.size=w.heap.size:=λq=>by simp[World.setRow]
 refine hW.kf hk ⟨rfl,rfl,rfl,by rw[oj];exact bH _,λj _ hj=>setRow_other w b j _ λe'=>hj (by simp[ai,e'])⟩ (λb' mL=>?_) λw2 jl=>?_
 ·simp only[ai,bz,bW]at mL⊢
  subst mL;exact⟨.inl rfl,by rw[oj];exact bT⟩
 ·have:=jl b (by simp[ai])
  refine⟨?_,.inr ⟨b,pre,sp,rfl,pE,zS,Eo,?_⟩⟩
  ·simp only[bR,cU,ez];omega
  ·rw[this]
   exact setRow_heap w b _ _ e _ hb
theorem Wd.shrink(hW:Wd S w0 H w){k:Nat}{b o n c e s:Nat}{xs:List Value}(hk:H[k]?=some (ai (some ⟨b,o,none⟩) n c e s xs))(m:Nat)(hm:m<=n):
  Wd S w0 (H.set k (ai (some ⟨b,o,none⟩) m c e s (xs.take (m*s)))) w:=by
 obtain⟨hl,pE,zS,pre,sp,rfl,Eo,hb⟩:=hW.km hk;have bT:b<w.heap.size:=(fI.1 hb).1;have Pj:m*s<=n*s:=py _ hm;refine hW.kf hk (lL.refl _ _) (λb' mL=>?_) λw2 jl=>?_
 ·simp only[ai,bz,bW]at mL⊢
  subst mL;exact⟨.inl rfl,bT⟩
 ·have:=jl b (by simp[ai])
  refine⟨by rw[cU];omega,.inr ⟨b,pre,xs.drop (m*s)++sp,rfl,ag,zS,?_,?_⟩⟩
  ·rw[bR,ez,hl]
   have h1:(c-m)*s=(c-n)*s+(n-m)*s:=by rw[<-i_];congr 1;omega
   have h2:(n-m)*s=n*s-m*s:=Nat.sub_mul _ _ _;omega
  ·rw[this,hb]
   have:pre++xs++sp=pre++xs.take (m*s)++(xs.drop (m*s)++sp):=by
    rw[dE,dE,<-dE (xs.take _),pw]
   rw[this]
theorem FU(k:Nat){b o n c e s:Nat}{xs:List Value}(hk:H[k]?=some (ai (some ⟨b,o,none⟩) n c e s xs))(m:Nat)(hm:m<=n)
  (kk:G N ds S w0 L (H.set k (ai (some ⟨b,o,none⟩) m c e s (xs.take (m*s)))) p):G N ds S w0 L H p:=λa w hS=>kk a w ⟨hS.fr,hS.wd.shrink hk m hm⟩
theorem DQ{d ty T e s jZ:Nat}{zs:List Value}{pos:String}{aft:Array Go.Edge}(k:Nat){b o n c i j m c2:Nat}{ay:Option Addr}{xs:List Value}[h:cB P T e s jZ zs][hx:Ev L x (.slice (some ⟨b,o,none⟩) i c)][hy:Ev L y (.slice ay m c2)]
  (hk:H[k]?=some (ai (some ⟨b,o,none⟩) n c e s xs)) (Za:0<m->ay=some ⟨b,o+j*s,none⟩) (hi:i+m<=n) (hj:j+m<=n) (h1:∀v∈xs,v.oneCell'=true) (a:Act) (w:World) (hS:St N ds S w0 L H a w):
  ∃w',(execOp a.eval ⟨some d,.call {callee:=.builtin .append,args:=#[x,y],argTypes:=#[T,T]},ty,pos,aft,none⟩).run P w=.ok (.value (.slice (some ⟨b,o,none⟩) (i+m) c)) w'/\Wd S w0 (H.set k (ai (some ⟨b,o,none⟩) n c e s (xs.take (i*s)++(xs.drop (j*s)).take (m*s)++xs.drop (i*s+m*s)))) w':=by
 obtain⟨hl,pE,zS,pre,sp,_,Eo,hb⟩:=hS.wd.km hk;obtain⟨inf,zv,Xo,hzv,fZ,h2,h3⟩:=h.get;subst h2;have hjs:j*inf.size+m*inf.size<=n*inf.size:=by rw[<-i_];exact py _ hj
 have his:i*inf.size+m*inf.size<=n*inf.size:=by rw[<-i_];exact py _ hi
 have B_:((xs.drop (j*inf.size)).take (m*inf.size)).length=m*inf.size:=by rw[cU,ez];omega
 have hf:(Builtin.firstCells inf.size m (.slice ay m c2)).run P w=.ok ((xs.drop (j*inf.size)).take (m*inf.size)).toArray w:=by
  by_cases hm:0<m
  ·rw[Za hm]
   refine run_firstCells_some (P:=P) w inf.size m _ m c2 _ B_ λt v ht=>?_;rw[Addr.add_lit,dA];refine hS.wd.cK hk ?_;have xC:t<m*inf.size:=by rw[<-B_];exact(aC.1 ht).1
   rw[wB xC,g_]at ht;exact ht
  ·have:m=0:=ag
   subst this;have h0:((xs.drop (j*inf.size)).take (0*inf.size)).toArray= #[]:=by simp
   rw[h0];cases ay with
   |none=>exact run_firstCells_none _ _ _ _ _
   |some q=>exact run_firstCells_some (P:=P) w inf.size 0 q 0 c2 [] aH aH
 obtain⟨w',dO,u_⟩:=hS.wd.EV (P:=P) hk (i*inf.size) (vs:=(xs.drop (j*inf.size)).take (m*inf.size)) (λv hv=>h1 v (List.mem_of_mem_drop (qm hv))) (by rw[B_];omega);rw[B_]at u_;have ri:i+m<=c:=ag;exact⟨w',by simp[execOp,resolve,invoke,builtin,hx.eq _ _ _ hS.fr,hy.eq _ _ _ hS.fr,Builtin.append_,run_underlying h.oI,sizeOf,typeInfo,Xo,Builtin.lenOf,ri,hf,Addr.add_lit,dO],u_⟩
theorem Iu{M:Act->World->Prop}{l:List Oper}{bE:Nat}{listed:Array Bool}{Hr:List bN}{d ty T e s jZ:Nat}{zs:List Value}{pos:String}{aft:Array Go.Edge}(i0 k:Nat){b o n c i j m c2:Nat}{ay:Option Addr}{xs:List Value}[ho:dm l i0 ⟨some d,.call {callee:=.builtin .append,args:=#[x,y],argTypes:=#[T,T]},ty,pos,aft,none⟩][h:cB P T e s jZ zs][hx:Ev L x (.slice (some ⟨b,o,none⟩) i c)][hy:Ev L y (.slice ay m c2)]
  (hk:H[k]?=some (ai (some ⟨b,o,none⟩) n c e s xs)) (Za:0<m->ay=some ⟨b,o+j*s,none⟩) (hi:i+m<=n) (hj:j+m<=n) (h1:∀v∈xs,v.oneCell'=true) (hd:dj d N L=true)
  (hr:decide (Region.ready .any l.toArray listed=[i0])=true) (LP:Hr.Sublist (H.set k (ai (some ⟨b,o,none⟩) n c e s (xs.take (i*s)++(xs.drop (j*s)).take (m*s)++xs.drop (i*s+m*s)))))
  (kk:G N ds S w0 ((d,.slice (some ⟨b,o,none⟩) (i+m) c)::L) (H.set k (ai (some ⟨b,o,none⟩) n c e s (xs.take (i*s)++(xs.drop (j*s)).take (m*s)++xs.drop (i*s+m*s)))) (wpAnyH P .any l.toArray (dy M) (Wd S w0 Hr) bE (listed.setIfInBounds i0 true))):
  G N ds S w0 L H (wpAnyH P .any l.toArray (dy M) (Wd S w0 Hr) (bE+1) listed):=
 F5 i0 rfl hr λa w hS=>by
  obtain⟨w',h2,h3⟩:=DQ (P:=P) (d:=d) (ty:=ty) (pos:=pos) (aft:=aft) (h:=h) (hx:=hx) (hy:=hy) k hk Za hi hj h1 a w hS;exact⟨_,w',h2,h3.sub LP,kk _ _ ⟨hS.fr.dP hd _,h3⟩⟩
class Fe(lo n:Nat):Prop where
 le:lo<=n
def H9(b o lo s c:Nat):Option Addr:=if c=lo then some ⟨b,o,none⟩else some ⟨b,o+lo*s,none⟩
instance{T b o n c s lo:Nat}[hx:Ev L x (.slice (some ⟨b,o,none⟩) n c)][hl:Ev L y (.int .i64 (lo:Int))][h:ep P T s][hc:Fe lo n]:dz P N ds S w0 L H (.slice T x (some y) none none) (.slice (H9 b o lo s c) (n-lo) (c-lo)):=
 ⟨λ_ h=>(by cases h),λ_ _ h=>(by cases h),λ_ _ _ _ _ a w hF _=>by
  have hr:=run_slice_l (P:=P) w T (some ⟨b,o,none⟩) n c h.oI .i64 lo ag (by have:=hc.le;omega)
  simp[execOp,hx.eq _ _ _ hF,hl.eq _ _ _ hF,run_sliceAt_slice (P:=P) w T _ _ _ _ h.oI,hr,h.sz,sliced,Addr.add_lit,H9]⟩
theorem Ws{d ty T s n c i j m:Nat}{ad:Option Addr}{pos:String}{aft:Array Go.Edge}[hx:Ev L x (.slice ad n c)][hy:Ev L y (.int .i64 (i:Int))][hz:Ev L z (.int .i64 (j:Int))][hu:Ev L u (.int .i64 (m:Int))][h:ep P T s](hd:dj d N L=true)(h1:i<=j/\j<=m/\m<=c)
  (kk:∀v,G N ds S w0 ((d,v)::L) H (wpListIn (FW ro) 0 P ops Q rest)):G N ds S w0 L H (wpListIn (FW ro) 0 P ops Q (⟨some d,.slice T x (some y) (some z) (some u),ty,pos,aft,none⟩::rest)):=λa w hS=>by
 have hr:=run_slice_lhm (P:=P) w T ad n c h.oI .i64 .i64 .i64 i j m ag ag ag ag;refine eG (v:=sliced ad (i:Int).toNat (j:Int).toNat (m:Int).toNat s) (w':=w) rfl (λ_ h=>by cases h) ?_ (kk _ _ _ ⟨hS.fr.dP hd _,hS.wd⟩);simp[execOp,hx.eq _ _ _ hS.fr,hy.eq _ _ _ hS.fr,hz.eq _ _ _ hS.fr,hu.eq _ _ _ hS.fr,run_sliceAt_slice (P:=P) w T _ _ _ _ h.oI,hr,h.sz]
theorem Wr{d ty T s b o n c i j:Nat}{pos:String}{aft:Array Go.Edge}[hx:Ev L x (.slice (some ⟨b,o,none⟩) n c)][hy:Ev L y (.int .i64 (i:Int))][hz:Ev L z (.int .i64 (j:Int))][h:ep P T s](hd:dj d N L=true)(h1:i<=j/\j<=c/\i<c)
  (kk:G N ds S w0 ((d,.slice (some ⟨b,o+i*s,none⟩) (j-i) (c-i))::L) H (wpListIn (FW ro) 0 P ops Q rest)):G N ds S w0 L H (wpListIn (FW ro) 0 P ops Q (⟨some d,.slice T x (some y) (some z) none,ty,pos,aft,none⟩::rest)):=λa w hS=>by
 have hr:=run_slice_lh (P:=P) w T (some ⟨b,o,none⟩) n c h.oI .i64 .i64 i j ag ag ag;have eH:¬c=i:=ag;refine eG (v:=.slice (some ⟨b,o+i*s,none⟩) (j-i) (c-i)) (w':=w) rfl (λ_ h=>by cases h) ?_ (kk _ _ ⟨hS.fr.dP hd _,hS.wd⟩);simp[execOp,hx.eq _ _ _ hS.fr,hy.eq _ _ _ hS.fr,hz.eq _ _ _ hS.fr,run_sliceAt_slice (P:=P) w T _ _ _ _ h.oI,hr,h.sz,sliced,eH,Addr.add_lit]
theorem Ol{ty T e s jZ:Nat}{zs:List Value}{pos:String}{aft:Array Go.Edge}(k:Nat){b o off j n c c2:Nat}{xs:List Value}[h:cB P T e s jZ zs][hx:Ev L x (.slice (some ⟨b,off,none⟩) 1 c2)]
  (hk:H[k]?=some (ai (some ⟨b,o,none⟩) n c e s xs)) (AT:off=o+j*s) (hj:j<n) (IS:zs.length=s) (h1:∀v∈zs,v.oneCell'=true)
  (kk:G N ds S w0 L (H.set k (ai (some ⟨b,o,none⟩) n c e s (xs.take (j*s)++zs++xs.drop (j*s+s)))) (wpListIn (FW ro) 0 P ops Q rest)):
  G N ds S w0 L H (wpListIn (FW ro) 0 P ops Q (⟨none,.call {callee:=.builtin .clear,args:=#[x],argTypes:=#[T]},ty,pos,aft,none⟩::rest)):=by
 intro a w hS;subst AT;obtain⟨hl,pE,zS,pre,sp,_,Eo,hb⟩:=hS.wd.km hk;obtain⟨inf,zv,Xo,hzv,fZ,h2,h3⟩:=h.get;subst h2;have hjs:j*inf.size+inf.size<=n*inf.size:=by rw[<-Nat.succ_mul];exact py _ hj
 obtain⟨w',dO,u_⟩:=hS.wd.EV (P:=P) hk (j*inf.size) (vs:=zs) h1 ag;rw[IS]at u_;have xW:(List.range zs.length).map (λi=>zs[i%zs.length]?.getD default)=zs:=by
  apply cf;intro i
  by_cases hi:i<zs.length
  ·rw[aK,eQ hi]
   simp[Nat.mod_eq_of_lt hi,aB hi]
  ·rw[bM (by simp;omega),bM ag]
 refine eG (v:=.tuple #[]) (w':=w') rfl (λ_ h=>by cases h) ?_ (kk _ _ ⟨hS.fr,u_⟩);simp[execOp,resolve,invoke,builtin,hx.eq _ _ _ hS.fr,Builtin.clear_,run_underlying h.oI,zeroValue,typeInfo,Xo,hzv,fZ,Builtin.zeroCells,xW,dO]
end
theorem K_{l:List cm}:∀v∈l.flatMap df,v.oneCell'=true:=λv hv=>by
 obtain⟨x,_,hx⟩:=du.1 hv;simp only[df,bJ,iI,or_false]at hx;rcases hx with rfl|rfl<;>rfl
theorem FE(ad:Option Addr)(c:Nat)(l:List cm)(k:Nat)(hk:k<l.length)(hb:l.length<=1000)(w0:World)(hW:Wd (cF [ai ad l.length c 41 2 (l.flatMap df)]) w0 [ai ad l.length c 41 2 (l.flatMap df)] w0):
  gV Tryz.prog 170 [.slice ad l.length c,.int .i64 k,.int .i64 (k+1:Nat)] w0 λu w'=>u=.slice ad (l.length-1) c/\Wd (cF [ai ad l.length c 41 2 (l.flatMap df)]) w0 [ai ad (l.length-1) c 41 2 ((l.eraseIdx k).flatMap df)] w':=by
 refine aQ Tryz.func170 rfl Tryz.ntmps170 rfl hW ?_;refine eW 0 rfl ag λvb vo nz=>?_;subst nz;refine zP 0 rfl λ_ pE W4=>?_;refine aU ?_;refine Ws rfl ⟨ag,ag,ag⟩ λv=>?_;refine aU ?_;rw[show decide ((k:Int)=((k+1:Nat):Int))=false by simp;omega];refine aO ?_;have c1:CI k c:=⟨ag⟩;have c2:Fe (k+1) l.length:=⟨hk⟩;refine rY [] mixed ap ?_;refine az 0 rfl aq ap ?_;refine az 1 rfl aq ap ?_;refine az 2 rfl aq ap ?_;refine az 3 rfl aq ap ?_;refine az 4 rfl aq ap ?_;refine az 5 rfl aq ap ?_;refine Iu 6 0 (j:=k+1) rfl (λhm=>by unfold H9;rw[if_neg ag]) ag ag K_ rfl aq ap ?_;rw[show k+(l.length-(k+1))=l.length-1 by omega];refine On 0 ?_;refine az 7 rfl aq ap ?_;refine eF aq ?_;simp only[bS];refine aU ?_;refine Wr rfl ⟨ag,ag,ag⟩ ?_;rw[show l.length-(l.length-1)=1 by omega]
 skip
 have hE:(l.flatMap df).take (k*2)++((l.flatMap df).drop ((k+1)*2)).take ((l.length-(k+1))*2)=(l.eraseIdx k).flatMap df:=by
  rw[(kC eB l k).1,(kC eB l (k+1)).2,jw (l:=(l.drop (k+1)).flatMap df) (by rw[ct eB,ez];omega),List.eraseIdx_eq_take_drop_succ,gO]
 rw[hE];have hEl:((l.eraseIdx k).flatMap df).length=(l.length-1)*2:=by rw[ct eB,List.length_eraseIdx,if_pos hk]
 refine Ol 0 rfl rfl ag rfl (by simp[Value.oneCell']) ?_;simp only[bS];refine FU 0 rfl (l.length-1) ag ?_;simp only[bS];rw[dE,jY (by rw[cU,bR];omega),List.take_take,Nat.min_self,jY ag,jw ag];refine aO ?_;exact cA rfl λw hw=>⟨rfl,hw⟩
end
section
open Go Go.RowKit
def nf(w w':World):Prop:=∀p v,w.cell? p=some v->w'.cell? p=some v
theorem bG.le{w w':World}(h:nf w w'){b o:Nat}{cs:List Value}(hc:bG w b o cs):bG w' b o cs:=λj v hj=>h _ _ (hc j v hj)
def sS{α:Type}(V:World->α->List Value->Prop):Prop:=∀w w',nf w w'->∀x cs,V w x cs->V w' x cs
theorem aM.le{α:Type}{V:World->α->List Value->Prop}(hV:sS V){w w':World}(h:nf w w'){v:Value}{s:Nat}{l:List α}(hs:aM w v s l V):aM w' v s l V:=by
 obtain⟨a,n,c,b,o,h1,h2,h3,hz,h4,h5,h6⟩:=hs;refine⟨a,n,c,b,o,h1,h2,h3,hz,h4,h5,λi x hx=>?_⟩;obtain⟨cs,hc,hv⟩:=h6 i x hx;exact⟨cs,hc.le h,hV w w' h x cs hv⟩
theorem lz:sS fj:=λ_ _ _ _ _ h=>h
theorem w5:sS l9:=λ_ _ _ _ _ h=>h
theorem tD:sS cS:=λ_ _ hc _ _ ⟨v,h1,h2⟩=>⟨v,h1,h2.le lz hc⟩
theorem Bi:sS DN:=λ_ _ hc _ _ ⟨v,h1,h2,h3⟩=>⟨v,h1,h2,h3.le w5 hc⟩
theorem GW:sS DK:=λ_ _ hc _ _ ⟨v,h1,h2,h3,h4,h5,h6,h7⟩=>⟨v,h1,h2,h3,h4,h5,h6,h7.le w5 hc⟩
def Clean(S:Nat->Prop)(w:World):Prop:=∀p v,w.cell? p=some v->¬S p.block
theorem vu(S:Nat->Prop)(w:World):Clean S (bX S w):=λ_ _ h=>(lU h).1
theorem Clean.RM{S:Nat->Prop}{w:World}(h:Clean S w){b o:Nat}{v:Value}{l:List Value}(hc:bG w b o (v::l)):eI S b:=⟨h _ _ (hc 0 v rfl)⟩
section
variable {P:Program} {ro:Option Nat} {N:Nat} {ds:List Deferred} {S:Nat->Prop} {w0 w:World} {L:List (Nat×Value)} {H H1 H2 Hr:List bN} {ops:Array Oper} {rest:List Oper} {Q:Exit->Act->World->Prop} {M:Act->World->Prop} {l:List Oper} {bE:Nat} {listed:Array Bool}
theorem Clean.le(fv:Clean S w0)(hw:Wd S w0 (H1++H2) w):nf w0 (bX (cF H1) w):=λp v hc=>by
 have bT:=World.block_lt_of_cell? w0 p hc;have hS:=fv p v hc;rw[<-hc];refine World.cell?_of_block ((jg w λ⟨e,he,hb⟩=>?_).trans (hw.cE.block _ bT hS));have:=(hw.own e (cC _ he) _ hb).1;exact this.elim hS λh=>by omega
theorem Clean.now(fv:Clean S w0)(hw:Wd S w0 H w):nf w0 w:=λp v hc=>by
 rw[<-hc];exact World.cell?_of_block (hw.cE.block _ (World.block_lt_of_cell? w0 p hc) (fv p v hc))
theorem iJ{α:Type}{val:α->Value}{E:α->List bN}{φ:α->Prop}{d ty f:Nat}{args:List Operand}{vs:List Value}{og:Array Nat}{pos:String}{aft:Array Go.Edge}[h:aS P f][hx:zk L args vs](fv:Clean S w0)(hd:dj d N L=true)
  (hc:∀wz w,Clean (cF H1) wz->nf w0 wz->Wd (λ_=>True) wz H2 wz->Wd (cF H1) wz H1 w->gV P f vs w λu w'=>∃x,u=val x/\Wd (cF H1) wz (E x) w'/\φ x)
  (k:∀x,φ x->G N ds S w0 ((d,val x)::L) (E x++H2) (wpListIn (FW ro) 0 P ops Q rest)):G N ds S w0 L (H1++H2) (wpListIn (FW ro) 0 P ops Q (⟨some d,.call {callee:=.value (.func f),args:=args.toArray,argTypes:=og},ty,pos,aft,none⟩::rest)):=
 fH hd (λw hw=>(hc (bX (cF H1) w) w (vu _ _) (fv.le hw) hw.jN hw.Ui).mono λ_ _ ⟨x,h1,h2,h3⟩=>⟨x,h1,h2.mG,h3⟩) k
end
def mJ(x:Int):Int:=IntKind.i64.wrap x
def uY(f:BitVec 64->BitVec 64->BitVec 64)(x y:Int):Int:=mJ ((f (BitVec.ofInt 64 x) (BitVec.ofInt 64 y)).toNat:Int)
def DP(x y:Int):Int:=uY (·&&& ·) x y
def LD(y:Int):Nat:=min (DP y 63).toNat 64
def B6(b:Bool):Int:=if b then 1 else 0
def pV(op a b:Int):Option Int:=
 if op=1 then some a else if op=2 then some (mJ (a+b))else if op=3 then some (mJ (a-b))else if op=4 then some (mJ (a*b))
 else if op=5 then(if b=0 then none else some (mJ (a.tdiv b)))else if op=6 then(if b=0 then none else some (a.tmod b))
 else if op=7 then some (DP a b)else if op=8 then some (uY (·|||·) a b)else if op=9 then some (uY (·^^^·) a b)
 else if op=10 then some (mJ (a*2 ^LD b))else if op=11 then some (a.fdiv (2 ^LD b))
 else if op=12 then some (B6 (decide (a=b)))else if op=13 then some (B6 (!decide (a=b)))else if op=14 then some (B6 (decide (a<b)))else if op=15 then some (B6 (decide (a<=b)))
 else if op=16 then some (mJ (0-a))else if op=17 then some (uY (·^^^·) (-1) a)else some 0
structure k7 where
 fn:Nat
 block:Nat
 at':Nat
 aF:List Int
 dst:Int
structure js where
 mem:List Int
 cX:List Int
 out:List Int
 steps:Nat
 rest:List k7
 bF:k7
 counts:List (List Nat)
structure Fin where
 state:Int
 value:Int
 out:List Int
 steps:Nat
 counts:List (List Nat)
def js.stop(s:js)(state value:Int):Fin:=⟨state,value,s.out,s.steps,s.counts⟩
def cD(t:k7)(v:cm):Int:=if v.bD then t.aF.getD v.n.toNat 0 else v.n
def sC(aF:List Int)(dst n:Int):List Int:=if 0<=dst then aF.set dst.toNat n else aF
def k7.set(t:k7)(dst n:Int):k7:={t with aF:=sC t.aF dst n}
def bump(counts:List (List Nat))(k b:Nat):List (List Nat):=counts.modify k λl=>l.modify b (·+1)
def js.set(s:js)(dst n:Int):js:={s with bF:=s.bF.set dst n}
def iD(t:k7)(k:Nat)(aL:List eC):List Int:=aL.foldl (λaF p=>aF.set p.dst.toNat (cD t (p.src.getD k gK))) t.aF
def rj(u:a7)(s:js)(to:Int):js:=
 let bl:=match u.funcs[s.bF.fn]? with|some X=>X.blocks|none=>[]
 let k:=(bf bl to.toNat).idxOf s.bF.block
 {s with bF:={s.bF with aF:=iD s.bF k (eU bl to.toNat),block:=to.toNat,at':=0},counts:=bump s.counts s.bF.fn to.toNat}
def ek(n:Nat)(args:List Int):List Int:=(args++List.replicate n 0).take n
def s_(u:a7)(s:js)(fn:Nat)(dst:Int)(args:List Int):js:=
 let n:=match u.funcs[fn]? with|some X=>X.aF.toNat|none=>0
 {s with rest:=s.rest++[s.bF],bF:=⟨fn,0,0,ek n args,dst⟩,counts:=bump s.counts fn 0}
def k8(u:a7)(s:js)(B:ar):js ⊕ Fin:=
 if B.kind=2 then .inl (rj u s (B.to.getD 0 0))
 else if B.kind=3 then .inl (rj u s (if cD s.bF B.on≠0 then B.to.getD 0 0 else B.to.getD 1 0))
 else match s.rest.getLast? with
  |none=>.inr (s.stop 0 (cD s.bF B.on))
  |some t=>.inl {s with rest:=s.rest.dropLast,bF:=t.set s.bF.dst (cD s.bF B.on)}
def j5(u:a7)(s:js)(x:en):js ⊕ Fin:=
 let a:=cD s.bF x.a
 let b:=cD s.bF x.b
 if x.op=18∨x.op=19 then
  if !within a 0 ((s.mem.length:Int)-1)then .inr (s.stop 3 0)
  else if x.op=19 then .inl {s with mem:=s.mem.set a.toNat b}else .inl (s.set x.dst (s.mem.getD a.toNat 0))
 else if x.op=20 then(if s.rest.length+1=30 then .inr (s.stop 4 0)else .inl (s_ u s x.fn.toNat x.dst (x.args.map (cD s.bF))))
 else if x.op=21 then .inl {s with bF:=s.bF.set x.dst (s.cX.headD (-1)),cX:=s.cX.tail}
 else if x.op=22 then(if s.out.length=200 then .inr (s.stop 5 0)else .inl {s with out:=s.out++[a]})
 else match pV x.op a b with
  |none=>.inr (s.stop 2 0)
  |some n=>.inl (s.set x.dst n)
def ox(u:a7)(t:k7):ar:=match u.funcs[t.fn]? with
 |some X=>X.blocks.getD t.block ⟨[],[],1,gK,[]⟩
 |none=>⟨[],[],1,gK,[]⟩
def iE(u:a7)(s:js):js ⊕ Fin:=
 let B:=ox u s.bF
 let s1:={s with steps:=s.steps+1}
 match B.list[s.bF.at']? with
 |none=>k8 u s1 B
 |some x=>j5 u {s1 with bF:={s1.bF with at':=s1.bF.at'+1}} x
def mS(u:a7):Nat->js->Fin
 |0,s=>s.stop 1 0
 |n+1,s=>match iE u s with
  | .inl s'=>mS u n s'
  | .inr f=>f
def se(gs:List iY):List Int:=gs.flatMap λg=>g.init++List.replicate (g.size.toNat-g.init.length) 0
def iU(u:a7)(input:List Int):js:=
 let m:=(cZ u.funcs).toNat
 let n:=match u.funcs[m]? with|some X=>X.aF.toNat|none=>0
 ⟨se u.globals,input,[],0,[],⟨m,0,0,List.replicate n 0,-1⟩,bump (u.funcs.map λX=>List.replicate X.blocks.length 0) m 0⟩
def cg(u:a7)(input:List Int)(bE:Nat):Fin:=mS u bE (iU u input)
theorem pX(x:Int):c9 (mJ x):=by
 unfold mJ c9;rw[IntKind.wrap_i64];omega
theorem UB{a b:Int}(h:c9 a):c9 (a.tmod b):=by
 have h1:(a.tmod b).natAbs<=a.natAbs:=by
  rw[Int.natAbs_tmod];exact Nat.mod_le _ _
 unfold c9 at*;rcases Int.le_total 0 a with h0|h0
 ·have:=Int.tmod_nonneg b h0
  omega
 ·have h2:a.tmod b<=0:=by
   have:=Int.tmod_nonneg b (a:=-a) ag;rw[Int.neg_tmod]at this;omega
  omega
theorem SF{a:Int}(k:Nat)(h:c9 a):c9 (a.fdiv (2 ^k)):=by
 have hp:(0:Int)<2 ^k:=Int.pow_pos ag;rw[Int.fdiv_eq_ediv_of_nonneg _ ag];unfold c9 at*;constructor
 ·rcases Int.le_total 0 a with h0|h0
  ·have:=Int.ediv_nonneg h0 (by omega:(0:Int)<=2 ^k)
   omega
  ·have h2:a<=a/2 ^k:=by
    rw[Int.le_ediv_iff_mul_le hp];have:a*2 ^k<=a*1:=Int.mul_le_mul_of_nonpos_left h0 ag;omega
   omega
 ·rcases Int.le_total 0 a with h0|h0
  ·have:=Int.ediv_le_self (2 ^k) h0
   omega
  ·have h2:a/2 ^k<=0:=by
    have h3:a/2 ^k<1:=by rw[Int.ediv_lt_iff_lt_mul hp];omega
    omega
   omega
theorem EX(b:Bool):c9 (B6 b):=by cases b<;>simp[B6,c9]
theorem zK(f:BitVec 64->BitVec 64->BitVec 64)(x y:Int):c9 (uY f x y):=pX _
theorem YS{op a b n:Int}(ha:c9 a)(h:pV op a b=some n):c9 n:=by
 unfold pV at h
 by_cases h1:op=1
 ·rw[if_pos h1]at h
  rw[<-be h];exact ha
 rw[if_neg h1]at h
 by_cases h2:op=2
 ·rw[if_pos h2]at h
  rw[<-be h];exact pX _
 rw[if_neg h2]at h
 by_cases h3:op=3
 ·rw[if_pos h3]at h
  rw[<-be h];exact pX _
 rw[if_neg h3]at h
 by_cases h4:op=4
 ·rw[if_pos h4]at h
  rw[<-be h];exact pX _
 rw[if_neg h4]at h
 by_cases h5:op=5
 ·rw[if_pos h5]at h
  by_cases hb:b=0
  ·rw[if_pos hb]at h;cases h
  ·rw[if_neg hb]at h;rw[<-be h];exact pX _
 rw[if_neg h5]at h
 by_cases h6:op=6
 ·rw[if_pos h6]at h
  by_cases hb:b=0
  ·rw[if_pos hb]at h;cases h
  ·rw[if_neg hb]at h;rw[<-be h];exact UB ha
 rw[if_neg h6]at h
 by_cases h7:op=7
 ·rw[if_pos h7]at h
  rw[<-be h];exact zK _ _ _
 rw[if_neg h7]at h
 by_cases h8:op=8
 ·rw[if_pos h8]at h
  rw[<-be h];exact zK _ _ _
 rw[if_neg h8]at h
 by_cases h9:op=9
 ·rw[if_pos h9]at h
  rw[<-be h];exact zK _ _ _
 rw[if_neg h9]at h
 by_cases Ip:op=10
 ·rw[if_pos Ip]at h
  rw[<-be h];exact pX _
 rw[if_neg Ip]at h
 by_cases LO:op=11
 ·rw[if_pos LO]at h
  rw[<-be h];exact SF _ ha
 rw[if_neg LO]at h
 by_cases U4:op=12
 ·rw[if_pos U4]at h
  rw[<-be h];exact EX _
 rw[if_neg U4]at h
 by_cases U5:op=13
 ·rw[if_pos U5]at h
  rw[<-be h];exact EX _
 rw[if_neg U5]at h
 by_cases U6:op=14
 ·rw[if_pos U6]at h
  rw[<-be h];exact EX _
 rw[if_neg U6]at h
 by_cases U7:op=15
 ·rw[if_pos U7]at h
  rw[<-be h];exact EX _
 rw[if_neg U7]at h
 by_cases U8:op=16
 ·rw[if_pos U8]at h
  rw[<-be h];exact pX _
 rw[if_neg U8]at h
 by_cases U9:op=17
 ·rw[if_pos U9]at h
  rw[<-be h];exact zK _ _ _
 rw[if_neg U9]at h;rw[<-be h];simp[c9]
structure DJ(u:a7)(R:Nat)(x:en):Prop where
 op:1<=x.op/\x.op<=22
 a:ik R x.a
 b:ik R x.b
 dst:0<=x.dst->x.dst<R
 args:∀v∈x.args,ik R v
 Wo:x.args.length<=1000
 call:x.op=20->∃(k:Nat) (Y:aZ),x.fn=k/\u.funcs[k]?=some Y/\(x.args.length:Int)=Y.params
 ry:c9 x.dst/\c9 x.a.n/\c9 x.b.n/\∀v∈x.args,c9 v.n
structure V3(u:a7)(R:Nat)(B:ar):Prop where
 kind:(B.kind=1∨B.kind=2∨B.kind=3)/\(B.to.length:Int)=B.kind-1
 on:ik R B.on/\c9 B.on.n
 list:B.list.length<=1000/\∀x∈B.list,DJ u R x
 aL:B.aL.length<=1000/\∀q∈B.aL,∀v∈q.src,c9 v.n
structure JL(u:a7)(X:aZ)(R:Nat):Prop where
 aF:X.aF=R
 le:R<=100
 ok:eX R X.blocks
 pos:0<X.blocks.length
 Wo:X.blocks.length<=100
 params:0<=X.params/\X.params<=R
 eo:∀B∈X.blocks,V3 u R B
def iZ(u:a7):Prop:=u.funcs.length<=1000/\∀(k:Nat) (X:aZ),u.funcs[k]?=some X->∃R,JL u X R
structure l8(u:a7)(f:k7)(X:aZ)(R:Nat):Prop where
 get:u.funcs[f.fn]?=some X
 fit:JL u X R
 aF:f.aF.length=R
 block:f.block<X.blocks.length
 ry:∀x∈f.aF,c9 x
 dst:c9 f.dst
 at':∀B,X.blocks[f.block]?=some B->f.at'<=B.list.length
def V1(f:k7):Nat×Int:=(f.aF.length,f.dst)
def DG(l:List (Nat×Int)):Prop:=∀i p q,l[i]?=some p->l[i+1]?=some q->0<=q.2->q.2<p.1
theorem DG.add{l:List (Nat×Int)}{p q:Nat×Int}(h:DG (l++[p]))(hq:0<=q.2->q.2<p.1):DG (l++[p]++[q]):=λi a b ha hb h0=>by
 by_cases hi:i+1<(l++[p]).length
 ·rw[dG ag]at ha
  rw[dG hi]at hb;exact h i a b ha hb h0
 ·have hl:(l++[p]).length=l.length+1:=by simp
  have mL:=(aC.1 hb).1;have Kd:(l++[p]++[q]).length=l.length+2:=by simp
  have iQ:i=l.length:=ag;subst iQ;rw[dG ag]at ha;rw[dg ag,hl,dq]at hb;simp at ha hb;subst ha hb;exact hq h0
theorem DG.drop{l:List (Nat×Int)}{q:Nat×Int}(h:DG (l++[q])):DG l:=λi a b ha hb h0=>by
 have h1:=(aC.1 ha).1;have h2:=(aC.1 hb).1;exact h i a b (by rw[dG h1];exact ha) (by rw[dG h2];exact hb) h0
structure ij(u:a7)(c:Nat)(s:js):Prop where
 bF:∃X R,l8 u s.bF X R
 rest:∀f∈s.rest,∃X R,l8 u f X R
 dst:DG ((s.rest++[s.bF]).map V1)
 kB:s.counts.length=u.funcs.length/\∀(k:Nat) (X:aZ),u.funcs[k]?=some X->∃l,s.counts[k]?=some l/\l.length=X.blocks.length/\∀x∈l,x<=c
 deep:s.rest.length+1<=30
 out:s.out.length<=200/\∀x∈s.out,c9 x
 mem:s.mem.length<=100000/\∀x∈s.mem,c9 x
 cX:∀x∈s.cX,c9 x
theorem qC{u:a7}{f:k7}{X:aZ}{R:Nat}(h:l8 u f X R){v:cm}(hv:ik R v)(hn:c9 v.n):c9 (cD f v):=by
 unfold cD
 split
 ·rename_i hr
  obtain⟨h0,h1⟩:=hv hr;have:=h.aF;rw[cz,aB ag,dF];exact h.ry _ (jK _)
 ·exact hn
theorem v7{aF:List Int}{d:Nat}{n:Int}(h:∀x∈aF,c9 x)(hn:c9 n):∀x∈aF.set d n,c9 x:=λx hx=>by
 rcases jM hx with h1|rfl
 ·exact h x h1
 ·exact hn
theorem l8.set{u:a7}{f:k7}{X:aZ}{R:Nat}(h:l8 u f X R)(dst:Int){n:Int}(hn:c9 n):l8 u (f.set dst n) X R:=by
 refine⟨h.get,h.fit,?_,h.block,?_,h.dst,h.at'⟩
 ·unfold k7.set sC;simp only;split<;>simp[h.aF]
 ·unfold k7.set sC
  simp only
  split
  ·exact v7 h.ry hn
  ·exact h.ry
theorem KY(f:k7)(dst n:Int):V1 (f.set dst n)=V1 f:=by unfold V1 k7.set sC;simp only;split<;>simp
theorem Aj{u:a7}{c:Nat}{cs:List (List Nat)}(h:cs.length=u.funcs.length/\∀(k:Nat) (X:aZ),u.funcs[k]?=some X->∃l,cs[k]?=some l/\l.length=X.blocks.length/\∀x∈l,x<=c)(k b:Nat):
  (bump cs k b).length=u.funcs.length/\∀(j:Nat) (X:aZ),u.funcs[j]?=some X->∃l,(bump cs k b)[j]?=some l/\l.length=X.blocks.length/\∀x∈l,x<=c+1:=by
 refine⟨by unfold bump;rw[List.length_modify];exact h.1,λj X hX=>?_⟩;obtain⟨l,h1,h2,h3⟩:=h.2 j X hX;unfold bump;rw[lG,h1]
 by_cases e:k=j
 ·refine⟨_,rfl,?_,?_⟩
  ·simp[e,h2]
  ·intro x hx
   simp only[e,ite_true]at hx;obtain⟨i,hi⟩:=br hx;rw[lG]at hi;obtain⟨y,hy,rfl⟩:=cT.1 hi;have:=h3 y (aA hy)
   split<;>omega
 ·exact⟨l,by simp[e],h2,λx hx=>by have:=h3 x hx;omega⟩
theorem QY{u:a7}{f:k7}{X:aZ}{R:Nat}(h:l8 u f X R)(k:Nat)(l:List eC)(hl:∀q∈l,c9 (cD f (q.src.getD k gK))):(iD f k l).length=R/\∀x∈iD f k l,c9 x:=by
 unfold iD;have:∀(rs:List Int),rs.length=R->(∀x∈rs,c9 x)->(l.foldl (λaF p=>aF.set p.dst.toNat (cD f (p.src.getD k gK))) rs).length=R/\∀x∈l.foldl (λaF p=>aF.set p.dst.toNat (cD f (p.src.getD k gK))) rs,c9 x:=by
  clear h
  induction l with
  |nil=>exact λrs h1 h2=>⟨h1,h2⟩
  |cons q l ih=>
   intro rs h1 h2;rw[fF];exact ih (λq hq=>hl q (cJ _ hq)) _ (by rw[eA];exact h1) (v7 h2 (hl q aH))
 exact this f.aF h.aF h.ry
theorem Rx{R np k:Nat}{q:eC}(h:UW R np q)(hk:k<np):∃v∈q.src,q.src.getD k gK=v:=by
 have:=h.len;exact⟨q.src[k]'ag,jK _,by rw[cz,aB ag];rfl⟩
structure Si(X:aZ)(b to:Nat)(T:ar):Prop where
 get:X.blocks[to]?=some T
 mem:b∈bf X.blocks to
theorem Io{u:a7}{f:k7}{X:aZ}{R:Nat}(h:l8 u f X R){B:ar}(hB:X.blocks[f.block]?=some B){t:Int}(ht:t∈B.to):∃(to:Nat) (T:ar),t=to/\Si X f.block to T:=by
 have hg:=(h.fit.ok.iM B (aA hB)).2 t ht;obtain⟨to,rfl⟩:∃to:Nat,t=to:=⟨t.toNat,ag⟩;exact⟨to,X.blocks[to]'ag,rfl,aB _,pg h.block (by unfold dd;rw[hB];exact ht)⟩
theorem GJ{u:a7}{s:js}{X:aZ}(hX:u.funcs[s.bF.fn]?=some X){to:Nat}{T:ar}(hT:X.blocks[to]?=some T):rj u s to={s with bF:={s.bF with aF:=iD s.bF ((bf X.blocks to).idxOf s.bF.block) T.aL,block:=to,at':=0},counts:=bump s.counts s.bF.fn to}:=by
 unfold rj eU;simp only[hX,dD,hT]
theorem Ey{u:a7}{c:Nat}{s:js}(h:ij u c s){X:aZ}{R:Nat}(hf:l8 u s.bF X R){to:Nat}{T:ar}(hg:Si X s.bF.block to T):ij u (c+1) (rj u s to):=by
 rw[GJ hf.get hg.get];have hTm:=aA hg.get;have fW:=hf.fit.eo T hTm;have cW:=hf.fit.ok.block to T hg.get;obtain⟨h1,h2⟩:=QY hf ((bf X.blocks to).idxOf s.bF.block) T.aL λq hq=>by
  obtain⟨v,hv,e⟩:=Rx (cW.aL q hq) (ju hg.mem);rw[e];exact qC hf ((cW.aL q hq).tU v hv) (fW.aL.2 q hq v hv)
 refine⟨⟨X,R,⟨hf.get,hf.fit,h1,(aC.1 hg.get).1,h2,hf.dst,λ_ _=>aY _⟩⟩,h.rest,?_,Aj h.kB _ _,h.deep,h.out,h.mem,h.cX⟩;have e:((s.rest++[{s.bF with aF:=iD s.bF ((bf X.blocks to).idxOf s.bF.block) T.aL,block:=to,at':=0}]).map V1)=(s.rest++[s.bF]).map V1:=by
  simp only[bB,bO,dp,V1,h1,hf.aF]
 exact e▸h.dst
theorem CV{R:Nat}{args:List Int}(h:∀x∈args,c9 x):∀x∈ek R args,c9 x:=λx hx=>by
 have:=qm hx;rcases bL.1 this with h1|h1
 ·exact h x h1
 ·rw[jI h1];simp[c9]
theorem u4(R:Nat)(args:List Int):(ek R args).length=R:=by simp[ek]
theorem CU{u:a7}{s:js}{fn:Nat}{Y:aZ}{R:Nat}(hY:u.funcs[fn]?=some Y)(hR:Y.aF=R)(dst:Int)(args:List Int):s_ u s fn dst args={s with rest:=s.rest++[s.bF],bF:=⟨fn,0,0,ek R args,dst⟩,counts:=bump s.counts fn 0}:=by
 unfold s_;simp only[hY,hR,dD]
theorem Od{u:a7}(hu:iZ u){c:Nat}{s:js}(h:ij u c s){fn:Nat}{Y:aZ}(hY:u.funcs[fn]?=some Y){dst:Int}(hd:0<=dst->dst<s.bF.aF.length)(hdi:c9 dst){args:List Int}(ha:∀x∈args,c9 x)(aeT:s.rest.length+1<30):ij u (c+1) (s_ u s fn dst args):=by
 obtain⟨R,fW⟩:=hu.2 fn Y hY;rw[CU hY fW.aF];refine⟨⟨Y,R,⟨hY,fW,u4 _ _,fW.pos,CV ha,hdi,λ_ _=>aY _⟩⟩,λf hf=>?_,?_,Aj h.kB _ _,?_,h.out,h.mem,h.cX⟩
 ·rcases bL.1 hf with hf|hf
  ·exact h.rest f hf
  ·rw[bU.1 hf];exact h.bF
 ·have:=h.dst
  simp only[bB,bO,dp]at this⊢;exact this.add (q:=V1 ⟨fn,0,0,ek R args,dst⟩) (λh0=>hd h0)
 ·simp;omega
theorem ij.mono{u:a7}{c d:Nat}{s:js}(h:ij u c s)(AM:c<=d):ij u d s:=
 ⟨h.bF,h.rest,h.dst,⟨h.kB.1,λk X hX=>by
  obtain⟨l,h1,h2,h3⟩:=h.kB.2 k X hX;exact⟨l,h1,h2,λx hx=>dB (h3 x hx) AM⟩⟩,h.deep,h.out,h.mem,h.cX⟩
theorem ij.set{u:a7}{c:Nat}{s:js}(h:ij u c s)(dst:Int){n:Int}(hn:c9 n):ij u c (s.set dst n):=by
 obtain⟨X,R,hf⟩:=h.bF;refine⟨⟨X,R,hf.set dst hn⟩,h.rest,?_,h.kB,h.deep,h.out,h.mem,h.cX⟩;have:=h.dst;simp only[js.set,bB,bO,dp,KY]at this⊢;exact this
theorem yF{B:ar}{i:Nat}(h:i<B.to.length):B.to.getD i 0∈B.to:=by
 rw[cz,aB h,dF];exact jK _
theorem I5{α:Type}{l:List α}{t:α}(h:l.getLast?=some t):l=l.dropLast++[t]:=by
 have eH:l≠[]:=λe=>by rw[e]at h;simp at h
 have h2:=List.dropLast_concat_getLast eH;rw[List.getLast?_eq_some_getLast eH]at h;rw[be h]at h2;exact h2.symm
theorem Wn{u:a7}{c:Nat}{s:js}(h:ij u c s){X:aZ}{R:Nat}(hf:l8 u s.bF X R){B:ar}(hB:X.blocks[s.bF.block]?=some B){s':js}(he:k8 u s B=.inl s'):ij u (c+1) s':=by
 have fW:=hf.fit.eo B (aA hB);have hlen:=fW.kind.2;unfold k8 at he
 by_cases h2:B.kind=2
 ·rw[if_pos h2]at he
  obtain⟨to,T,e,hg⟩:=Io hf hB (yF (B:=B) (i:=0) ag);rw[e]at he;rw[<-Sum.inl.inj he];exact Ey h hf hg
 rw[if_neg h2]at he
 by_cases h3:B.kind=3
 ·rw[if_pos h3]at he
  rw[<-Sum.inl.inj he]
  split
  ·obtain⟨to,T,e,hg⟩:=Io hf hB (yF (B:=B) (i:=0) ag)
   rw[e];exact Ey h hf hg
  ·obtain⟨to,T,e,hg⟩:=Io hf hB (yF (B:=B) (i:=1) ag)
   rw[e];exact Ey h hf hg
 rw[if_neg h3]at he;cases hl:s.rest.getLast? with
 |none=>rw[hl]at he;cases he
 |some t=>
  rw[hl]at he;rw[<-Sum.inl.inj he];have Eo:=I5 hl;have hd:=h.dst;rw[Eo]at hd;simp only[bB,bO,dp]at hd;obtain⟨Y,R',hft⟩:=h.rest t (by rw[Eo];simp);have hn:=qC hf fW.on.1 fW.on.2;refine⟨⟨Y,R',hft.set _ hn⟩,λf hf=>h.rest f (List.dropLast_subset _ hf),?_,⟨h.kB.1,λk X hX=>?_⟩,?_,h.out,h.mem,h.cX⟩
  ·simp only[bB,bO,dp,KY]
   exact hd.drop
  ·obtain⟨l,h1,h2,h3⟩:=h.kB.2 k X hX
   exact⟨l,h1,h2,λx hx=>by have:=h3 x hx;omega⟩
  ·have:=h.deep
   simp only[List.length_dropLast];omega
theorem Ys{u:a7}(hu:iZ u){c:Nat}{s:js}(h:ij u c s){X:aZ}{R:Nat}(hf:l8 u s.bF X R){x:en}(hx:DJ u R x){s':js}(he:j5 u s x=.inl s'):ij u (c+1) s':=by
 have ha:=qC hf hx.a hx.ry.2.1;have hb:=qC hf hx.b hx.ry.2.2.1;have hm:=h.mono (Nat.le_succ c);unfold j5 at he;simp only at he
 by_cases h1:x.op=18∨x.op=19
 ·rw[if_pos h1]at he
  split at he
  ·cases he
  rename_i hw;simp only[within,Bool.not_eq_true',Bool.and_eq_false_iff,decide_eq_false_iff_not,not_or,Decidable.not_not]at hw
  split at he
  ·rw[<-Sum.inl.inj he]
   exact⟨hm.bF,hm.rest,hm.dst,hm.kB,hm.deep,hm.out,⟨by rw[eA];exact hm.mem.1,v7 hm.mem.2 hb⟩,hm.cX⟩
  ·rw[<-Sum.inl.inj he]
   refine hm.set _ ?_;rw[cz,aB ag,dF];exact hm.mem.2 _ (jK _)
 rw[if_neg h1]at he
 by_cases h2:x.op=20
 ·rw[if_pos h2]at he
  split at he
  ·cases he
  rename_i Vi;obtain⟨k,Y,e,hY,_⟩:=hx.call h2;rw[e,dD]at he;rw[<-Sum.inl.inj he];have:=h.deep;refine Od hu h hY (λh0=>by rw[hf.aF];exact hx.dst h0) hx.ry.1 (λz hz=>?_) ag;obtain⟨v,hv,rfl⟩:=aX.1 hz;exact qC hf (hx.args v hv) (hx.ry.2.2.2 v hv)
 rw[if_neg h2]at he
 by_cases h3:x.op=21
 ·rw[if_pos h3]at he
  rw[<-Sum.inl.inj he];have hn:c9 (s.cX.headD (-1)):=by
   cases hi:s.cX with
   |nil=>simp[c9]
   |cons y l=>exact h.cX y (by rw[hi];simp)
  have h5:=hm.set x.dst hn;exact⟨h5.bF,h5.rest,h5.dst,h5.kB,h5.deep,h5.out,h5.mem,λz hz=>h.cX z (List.mem_of_mem_tail hz)⟩
 rw[if_neg h3]at he
 by_cases h4:x.op=22
 ·rw[if_pos h4]at he
  split at he
  ·cases he
  rename_i ho;rw[<-Sum.inl.inj he];have:=hm.out.1;refine⟨hm.bF,hm.rest,hm.dst,hm.kB,hm.deep,⟨by simp;omega,λz hz=>?_⟩,hm.mem,hm.cX⟩;rcases bL.1 hz with hz|hz
  ·exact hm.out.2 z hz
  ·rw[bU.1 hz];exact ha
 rw[if_neg h4]at he;cases ht:pV x.op (cD s.bF x.a) (cD s.bF x.b)with
 |none=>rw[ht]at he;cases he
 |some n=>
  rw[ht]at he;rw[<-Sum.inl.inj he];exact hm.set _ (YS ha ht)
def tick(s:js):js:={s with steps:=s.steps+1}
def jD(s:js):js:={s with bF:={s.bF with at':=s.bF.at'+1}}
theorem z6{u:a7}{c:Nat}{s:js}(h:ij u c s):ij u c (tick s):=⟨h.bF,h.rest,h.dst,h.kB,h.deep,h.out,h.mem,h.cX⟩
theorem qY{u:a7}{f:k7}{X:aZ}{R:Nat}(hf:l8 u f X R){B:ar}(hB:X.blocks[f.block]?=some B):ox u f=B:=by
 unfold ox;rw[hf.get];simp only[cz,hB,dF]
theorem J5{u:a7}{c:Nat}{s:js}(h:ij u c s){X:aZ}{R:Nat}(hf:l8 u s.bF X R){B:ar}(hB:X.blocks[s.bF.block]?=some B)(bT:s.bF.at'<B.list.length):ij u c (jD s)/\l8 u (jD s).bF X R:=by
 have h2:l8 u (jD s).bF X R:=⟨hf.get,hf.fit,hf.aF,hf.block,hf.ry,hf.dst,λC hC=>by
  have hC:X.blocks[s.bF.block]?=some C:=hC;rw[hB]at hC;rw[<-be hC];exact bT⟩
 exact⟨⟨⟨X,R,h2⟩,h.rest,by have:=h.dst;simp only[bB,bO,dp]at this⊢;exact this,h.kB,h.deep,h.out,h.mem,h.cX⟩,h2⟩
theorem gY(u:a7)(s:js):iE u s=match (ox u s.bF).list[s.bF.at']? with|none=>k8 u (tick s) (ox u s.bF)|some x=>j5 u (jD (tick s)) x:=rfl
theorem Au{u:a7}{s s':js}{B:ar}(h:k8 u s B=.inl s'):s'.steps=s.steps:=by
 unfold k8 at h
 split at h
 ·rw[<-Sum.inl.inj h];rfl
 split at h
 ·rw[<-Sum.inl.inj h];rfl
 split at h
 ·cases h
 ·rw[<-Sum.inl.inj h]
theorem Bb{u:a7}{s s':js}{x:en}(h:j5 u s x=.inl s'):s'.steps=s.steps:=by
 unfold j5 at h;simp only at h
 repeat' (split at h)
 all_goals first
  |(cases h;done)
  |(rw[<-Sum.inl.inj h]<;>rfl)
theorem jV{u:a7}(hu:iZ u){s s':js}(h:ij u (s.steps+1) s)(he:iE u s=.inl s'):ij u (s'.steps+1) s'/\s'.steps=s.steps+1:=by
 obtain⟨X,R,hf⟩:=h.bF;obtain⟨B,hB⟩:∃B,X.blocks[s.bF.block]?=some B:=⟨_,aB hf.block⟩;rw[gY,qY hf hB]at he;cases hx:B.list[s.bF.at']? with
 |none=>
  rw[hx]at he;have h1:=Wn (z6 h) hf hB he;have h2:=Au he;exact⟨by rw[h2];exact h1,h2⟩
 |some x=>
  rw[hx]at he;have bT:=(aC.1 hx).1;obtain⟨h3,h4⟩:=J5 (z6 h) (s:=tick s) hf hB bT;have h1:=Ys hu h3 h4 ((hf.fit.eo B (aA hB)).list.2 x (aA hx)) he;have h2:=Bb he;exact⟨by rw[h2];exact h1,h2⟩
end
end Go.Proofs.YthfhgolkafpmnaaGreatDoor
