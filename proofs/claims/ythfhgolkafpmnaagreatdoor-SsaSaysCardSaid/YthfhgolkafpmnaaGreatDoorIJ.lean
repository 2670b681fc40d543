/- Lemmas. -/
import Derived.Lib.Overlaps
import Derived.Test.YthfhgolkafpmnaaGreatDoorIF
namespace Go.Proofs.YthfhgolkafpmnaaGreatDoor
open Go.Value renaming int->J,slice->I,string->aQ,bool->ag,agg->aC
open Go.IntKind renaming i64->Z
open Option renaming some->O,none->U
open Go renaming Value->K,World->ae
open List renaming replicate->aI,range->bj
open Go.Region renaming wanted->fq,ready->eZ
open Go.Proofs.Tryz
open Go.Proofs.Tryz renaming prog->Y
open Go Go.RowKit
variable {tJ:Array Nat} {B:aq} {X:bZ} {u:dk} {bl g l:List aq} {o:List Nat} {args:List Operand} {vs xs zs:List K} {R T b qz c d dT dc dl e f i j k n off s sT sb sc so t ty x:Nat} {S:Nat->Prop} {α β:Type} {w w0:ae}
section
set_option maxHeartbeats 8000000
attribute [local irreducible] wpListIn Code.wpIn Exit.then Exit.inBlock bodyPost wpQuiet wpAnyIn wpAnyH
section
section
variable {P:Program} {ro:Option Nat} {N:Nat} {ds:List Deferred} {S:Nat->Prop} {w0:ae} {L L':List (Nat×K)} {H H':List cq} {ops:Array Oper} {rest:List Oper} {Q:Exit->Act->ae->Prop} {x y:Operand}
theorem Yr{z1 z2:Int}{pos:String}{aft:Array Go.Edge}[h:dt P T e s qz zs][hx:Ev L x (J Z z1)][Gn:oT z1 n][hy:Ev L y (J Z z2)][Bj:oT z2 n](hd:ev d N L=true)(hs:Nat.beq zs.length s=true)(hb:qz*n<=281474976710656)(hm:n<=140737488355328)(g:α->List K)(y0:α)(hg:g y0=zs)
  (k:∀b,w0.heap.size<=b->cU N ds S w0 ((d,I (O ⟨b,0,U⟩) n n)::L) (G (O ⟨b,0,U⟩) n n e s ((aI n y0).flatMap g)::H) (wpListIn (FW ro) 0 P ops Q rest)):cU N ds S w0 L H (wpListIn (FW ro) 0 P ops Q (⟨O d,.makeSlice T x y,ty,pos,aft,U⟩::rest)):=by
 intro a w hS;obtain⟨i,zz,hi,Q5,gW,h1,h2⟩:=h.get;have h3:=hx.eq _ _ _ hS.fr;have h4:=hy.eq _ _ _ hS.fr;have hs:=sP hs;rw[Gn.eq]at h3;rw[Bj.eq]at h4;have Ur:(i.bytes:Int)*(n:Int)<=281474976710656:=by
  have e:((qz*n:Nat):Int)<=281474976710656:=A;rw[Int.natCast_mul]at e;rw[h2];exact e
 have hr:=run_make (P:=P) w T e i zz h.sy hi Q5 Z Z (n:Int) (n:Int) A (Int.le_refl _) Ur A;have IF:(aI n y0).flatMap g=(aI n zs).flatten:=by rw[rT,List.map_replicate,hg]
 have mT:madeCells zz.cells ((n:Int).toNat*i.size)=((aI n y0).flatMap g).toArray:=by
  have:=qO zs n;rw[h1,gW,fR,IF,<-this,hs]
 refine gj (v:=.slice (O ⟨w.heap.size,0,U⟩) n n) (w':=w.alloc (.cells ((aI n y0).flatMap g).toArray e)) rfl (λ_ h=>by cases h) ?_ ?_
 ·simp only[fR]at hr mT
  simp[execOp,h3,h4,hr,mT]
 ·exact k _ hS.wd.size _ _ ⟨hS.fr.fv hd _,hS.wd.uA e s n _ (by rw[IF,List.length_flatten];simp[hs]) (by unfold maxLen;omega)⟩
theorem zC(w:ae)(dT sT ty elem:TypeId)(s g o abf agc:Nat)(a:Addr)(adj aiR:Nat)(cur:Array K)(t:TypeId)(cs:List K)
  (hu:P.underlying dT=O (.slice elem)) (hs:(P.info? elem).map (·.size)=O s)
  (hg:w.heap[g]?=O (.cells cur t (0,0))) (hn:cs.length=Nat.min adj abf*s)
  (se:∀j v,cs[j]?=O v->w.cell? (a.add j)=O v) (pJ:o+cs.length<=cur.size) (h1:∀v∈cs,v.oneCell'=true):
  (Builtin.copy_ #[dT,sT] ty #[I (O ⟨g,o,U⟩) abf agc,I (O a) adj aiR]).run P w=
   .ok (goInt (Nat.min adj abf:Nat)) (w.setRow g (cur.toList.take o++cs++cur.toList.drop (o+cs.length)).toArray):=by
 have hl:=run_loadCells_list (P:=P) w a cs se;have nW:=run_storeCells_at P g o t cs 0 cur w hg (aD pJ) h1;cases hq:P.info? elem with
 |none=>simp[hq]at hs
 |some i=>
  have hi:i.size=s:=by simpa[hq]using hs
  simp[Builtin.copy_,run_underlying hu,Builtin.lenOf,Builtin.firstCells,sizeOf,typeInfo,hq,hi,<-hn,hl,nW]
theorem Il{o sl:Nat}(k:Nat)(m:Nat)(cs:List K){pos:String}{aft:Array Go.Edge}[h:dt P dT e s qz zs][hx:Ev L x (I (O ⟨b,o+off,U⟩) dl dc)][hy:Ev L y (I (O ⟨sb,so,U⟩) sl sc)]
  (hk:H[k]?=O (G (O ⟨b,o,U⟩) n c e s xs)) (hd:ev d N L=true) (hm:m=min sl dl) (hn:cs.length=m*s) (se:∀w,Wd S w0 H w->∀j v,cs[j]?=O v->w.cell? ⟨sb,so+j,U⟩=O v) (pJ:off+cs.length<=xs.length) (h1:∀v∈cs,v.oneCell'=true)
  (kk:cU N ds S w0 ((d,J Z m)::L) (H.set k (G (O ⟨b,o,U⟩) n c e s (xs.take off++cs++xs.drop (off+cs.length)))) (wpListIn (FW ro) 0 P ops Q rest)):cU N ds S w0 L H (wpListIn (FW ro) 0 P ops Q (⟨O d,.call {callee:=.builtin .copy,args:=#[x,y],argTypes:=#[dT,sT]},ty,pos,aft,U⟩::rest)):=λa w hS=>by
 subst hm;obtain⟨hl,qg,ED,pre,sp,rfl,EP,hb⟩:=hS.wd.nj hk;obtain⟨i,zz,hi,_,_,YR,_⟩:=h.get;have ce:b<w.heap.size:=(jl.1 hb).1;have hr:=zC (P:=P) w dT sT ty e s b (pre.length+off) dl dc ⟨sb,so,U⟩ sl sc _ e cs h.sy (by rw[hi];simp[YR]) hb hn (λj v hj=>by rw[Addr.add_lit];exact se w hS.wd j v hj) dr h1;have iy:(pre++xs++sp).take (pre.length+off)++cs++(pre++xs++sp).drop (pre.length+off+cs.length)=pre++(xs.take off++cs++xs.drop (off+cs.length))++sp:=by
  rw[fu pre xs sp,uM,eB,yd,mg A,AF A];simp
 simp only at hr;rw[iy]at hr;refine gj (v:=.int Z ((min sl dl:Nat):Int)) (w':=w.setRow b (pre++(xs.take off++cs++xs.drop (off+cs.length))++sp).toArray) rfl (λ_ h=>by cases h) ?_ ?_
 ·have e1:Nat.min sl dl=min sl dl:=rfl
  simp[execOp,resolve,invoke,builtin,hx.eq _ _ _ hS.fr,hy.eq _ _ _ hS.fr,hr,goInt,e1]
 ·refine kk _ _ ⟨hS.fr.fv hd _,?_⟩
  have mK:∀q:Array K,(w.setRow b q).heap.size=w.heap.size:=λq=>by simp[World.setRow]
  refine hS.wd.nV hk ⟨rfl,rfl,rfl,by rw[mK];exact cz _,λj _ hj=>setRow_other w b j _ λe'=>hj (by simp[G,e'])⟩ (λb' oX=>?_) λw2 lP=>?_
  ·simp only[G,b_,cF]at oX|-
   subst oX;exact⟨.inl rfl,by rw[mK];exact ce⟩
  ·have:=lP b (by simp[G])
   refine⟨?_,.inr ⟨b,pre,sp,rfl,qg,ED,EP,?_⟩⟩
   ·simp only[bW,dA,eS];omega
   ·rw[this]
    exact setRow_heap w b _ _ e _ hb
end
theorem RW(z y:α)(m n k:Nat)(hk:k=min (n-m) m)(_hm:m<=n):(aI m z++aI (n-m) y).take m++aI k z++(aI m z++aI (n-m) y).drop (m+k)=aI (m+k) z++aI (n-(m+k)) y:=by
 rw[mg cK,jR cK,List.drop_append,List.drop_of_length_le (by rw[im];omega)];simp only[im,aS,List.drop_replicate];have e:n-m-(m+k-m)=n-(m+k):=A;rw[<-List.replicate_append_replicate,e]
theorem Kf{g:α->List K}(hg:∀x,(g x).length=s)(l m:List α)(i:Nat):(l.flatMap g).take (i*s)++m.flatMap g++(l.flatMap g).drop (i*s+(m.flatMap g).length)=(l.take i++m++l.drop (i+m.length)).flatMap g:=by
 rw[cA hg,<-lk,(oj hg l i).1,(oj hg l (i+m.length)).2];simp
section
variable {P:Program} {N:Nat} {ds:List Deferred} {S:Nat->Prop} {w0 w:ae} {L:List (Nat×K)} {H:List cq} {p:Act->ae->Prop}
theorem Wd.grow(hW:Wd S w0 H w){o:Nat}(hk:H[k]?=O (G (O ⟨b,o,U⟩) n c e s xs))(m:Nat)(hm:n<=m)(Xy:m<=c):
  ∃ys:List K,ys.length=(m-n)*s/\Wd S w0 (H.set k (G (O ⟨b,o,U⟩) m c e s (xs++ys))) w:=by
 obtain⟨hl,qg,ED,pre,sp,rfl,EP,hb⟩:=hW.nj hk;have ce:b<w.heap.size:=(jl.1 hb).1;have h1:(c-n)*s=(c-m)*s+(m-n)*s:=by rw[<-lk];congr 1;omega
 have h2:(sp.take ((m-n)*s)).length=(m-n)*s:=by rw[dA];omega
 refine⟨sp.take ((m-n)*s),h2,hW.nV hk (nX.refl _ _) (λb' oX=>?_) λw2 lP=>?_⟩
 ·simp only[G,b_,cF]at oX|-
  subst oX;exact⟨.inl rfl,ce⟩
 ·have:=lP b (by simp[G])
  refine⟨by rw[bW,h2,hl,<-lk];congr 1;omega,.inr ⟨b,pre,sp.drop ((m-n)*s),rfl,A,ED,?_,?_⟩⟩
  ·rw[eS]
   omega
  ·rw[this,hb]
   have:pre++xs++sp=pre++(xs++sp.take ((m-n)*s))++sp.drop ((m-n)*s):=by
    simp only[fu];rw[List.take_append_drop]
   rw[this]
theorem abp(k:Nat){o:Nat}(hk:H[k]?=O (G (O ⟨b,o,U⟩) n c e s xs))(m:Nat)(hm:n<=m)(Xy:m<=c)
  (kk:∀ys:List K,ys.length=(m-n)*s->cU N ds S w0 L (H.set k (G (O ⟨b,o,U⟩) m c e s (xs++ys))) p):cU N ds S w0 L H p:=λa w hS=>by
 obtain⟨ys,h1,h2⟩:=hS.wd.grow hk m hm Xy;exact kk ys h1 a w ⟨hS.fr,h2⟩
end
section
variable {P:Program} {ro:Option Nat} {N:Nat} {ds:List Deferred} {S:Nat->Prop} {w0 w:ae} {L:List (Nat×K)} {H Hr:List cq} {ops:Array Oper} {rest:List Oper} {Q:Exit->Act->ae->Prop} {p:Act->ae->Prop} {x y:Operand} {dw:Act->ae->Prop} {l:List Oper} {di:Nat} {listed:Array Bool}
instance{ad:ax}[hx:Ev L x (I ad n k)][h:gv P T s]:gg P N ds S w0 L H (.call {callee:=.builtin .cap,args:=#[x],argTypes:=#[T]}) (J Z k):=
 ⟨λ_ h=>(by cases h),λ_ _ h=>(by cases h),λ_ ty _ _ _ a w hF _=>by simp[execOp,resolve,invoke,builtin,hx.eq _ _ _ hF,run_cap_slice w T ty ad n k h.sy,goInt]⟩
theorem Yn{pos:String}{aft:Array Go.Edge}{u:K}[hx:B8 L args vs](hd:ev d N L=true)
  (hc:∀w,Wd S w0 H w->(callFunc f vs.toArray).run P w=.ok (.value u) w)
  (k:cU N ds S w0 ((d,u)::L) H (wpListIn (FW ro) 0 P ops Q rest)):cU N ds S w0 L H (wpListIn (FW ro) 0 P ops Q (⟨O d,.call {callee:=.value (.func f),args:=args.toArray,argTypes:=tJ},ty,pos,aft,U⟩::rest)):=λa w hS=>by
 refine gj (v:=u) (w':=w) rfl (λ_ h=>by cases h) ?_ (k _ _ ⟨hS.fr.fv hd _,hS.wd⟩);simp[execOp,resolve,Act.eval,Deferred.ofValue,invoke,hx.eq _ _ _ hS.fr,hc w hS.wd]
theorem Qz{o sl:Nat}(k:Nat)(m:Nat)(cs:List K){pos:String}{aft:Array Go.Edge}[h:dt P dT e s qz zs][hx:Ev L x (I (O ⟨b,o+off,U⟩) dl dc)][hy:Ev L y (I (O ⟨sb,so,U⟩) sl sc)]
  (hk:H[k]?=O (G (O ⟨b,o,U⟩) n c e s xs)) (hm:m=min sl dl) (hn:cs.length=m*s) (se:∀w,Wd S w0 H w->∀j v,cs[j]?=O v->w.cell? ⟨sb,so+j,U⟩=O v) (pJ:off+cs.length<=xs.length) (h1:∀v∈cs,v.oneCell'=true) (a:Act) (w:ae) (hS:St N ds S w0 L H a w):
  ∃w',(execOp a.eval ⟨O d,.call {callee:=.builtin .copy,args:=#[x,y],argTypes:=#[dT,sT]},ty,pos,aft,U⟩).run P w=.ok (.value (J Z m)) w'/\Wd S w0 (H.set k (G (O ⟨b,o,U⟩) n c e s (xs.take off++cs++xs.drop (off+cs.length)))) w':=by
 subst hm;obtain⟨hl,qg,ED,pre,sp,rfl,EP,hb⟩:=hS.wd.nj hk;obtain⟨i,zz,hi,_,_,YR,_⟩:=h.get;have ce:b<w.heap.size:=(jl.1 hb).1;have hr:=zC (P:=P) w dT sT ty e s b (pre.length+off) dl dc ⟨sb,so,U⟩ sl sc _ e cs h.sy (by rw[hi];simp[YR]) hb hn (λj v hj=>by rw[Addr.add_lit];exact se w hS.wd j v hj) dr h1;have iy:(pre++xs++sp).take (pre.length+off)++cs++(pre++xs++sp).drop (pre.length+off+cs.length)=pre++(xs.take off++cs++xs.drop (off+cs.length))++sp:=by
  rw[fu pre xs sp,uM,eB,yd,mg A,AF A];simp
 simp only at hr;rw[iy]at hr;refine⟨w.setRow b (pre++(xs.take off++cs++xs.drop (off+cs.length))++sp).toArray,?_,?_⟩
 ·have e1:Nat.min sl dl=min sl dl:=rfl
  simp[execOp,resolve,invoke,builtin,hx.eq _ _ _ hS.fr,hy.eq _ _ _ hS.fr,hr,goInt,e1]
 ·have mK:∀q:Array K,(w.setRow b q).heap.size=w.heap.size:=λq=>by simp[World.setRow]
  refine hS.wd.nV hk ⟨rfl,rfl,rfl,by rw[mK];exact cz _,λj _ hj=>setRow_other w b j _ λe'=>hj (by simp[G,e'])⟩ (λb' oX=>?_) λw2 lP=>?_
  ·simp only[G,b_,cF]at oX|-
   subst oX;exact⟨.inl rfl,by rw[mK];exact ce⟩
  ·have:=lP b (by simp[G])
   refine⟨?_,.inr ⟨b,pre,sp,rfl,qg,ED,EP,?_⟩⟩
   ·simp only[bW,dA,eS];omega
   ·rw[this]
    exact setRow_heap w b _ _ e _ hb
theorem YA{o sl:Nat}(i0 k:Nat)(m:Nat)(cs:List K){pos:String}{aft:Array Go.Edge}[ho:eJ l i0 ⟨O d,.call {callee:=.builtin .copy,args:=#[x,y],argTypes:=#[dT,sT]},ty,pos,aft,U⟩][h:dt P dT e s qz zs][hx:Ev L x (I (O ⟨b,o+off,U⟩) dl dc)][hy:Ev L y (I (O ⟨sb,so,U⟩) sl sc)]
  (hk:H[k]?=O (G (O ⟨b,o,U⟩) n c e s xs)) (hd:ev d N L=true) (hm:m=min sl dl) (hn:cs.length=m*s) (se:∀w,Wd S w0 H w->∀j v,cs[j]?=O v->w.cell? ⟨sb,so+j,U⟩=O v) (pJ:off+cs.length<=xs.length) (h1:∀v∈cs,v.oneCell'=true)
  (hr:decide (eZ .any l.toArray listed=[i0])=true) (hH:Hr.Sublist (H.set k (G (O ⟨b,o,U⟩) n c e s (xs.take off++cs++xs.drop (off+cs.length)))))
  (kk:cU N ds S w0 ((d,J Z m)::L) (H.set k (G (O ⟨b,o,U⟩) n c e s (xs.take off++cs++xs.drop (off+cs.length)))) (wpAnyH P .any l.toArray (et dw) (Wd S w0 Hr) di (listed.setIfInBounds i0 true))):
  cU N ds S w0 L H (wpAnyH P .any l.toArray (et dw) (Wd S w0 Hr) (di+1) listed):=
 G0 i0 rfl hr λa w hS=>by
  obtain⟨w',h2,h3⟩:=Qz (P:=P) (d:=d) (ty:=ty) (sT:=sT) (pos:=pos) (aft:=aft) (h:=h) (hx:=hx) (hy:=hy) k m cs hk hm hn se pJ h1 a w hS;exact⟨_,w',h2,h3.sub hH,kk _ _ ⟨hS.fr.fv hd _,h3⟩⟩
end
noncomputable def ovT:Nat:=f187.params[0]!
noncomputable def ovR:Nat:=f187.resultTypes[0]!
theorem Ja(args:Array K)(w:ae):(callFunc 187 args).run Y w=((Extern.SlicesOverlaps.overlaps #[ovT,ovT] #[ovR] args).run Y w).andThen λv w'=>.ok (.value v) w':=
 run_callFunc_extern (fn:=f187) func187 bC bC bC bC args w
theorem ZK:Tryz.prog.underlying ovT=O (.slice 41):=by kernel_rfl
theorem Wn:(Tryz.prog.info? 41).map (·.size)=O 2:=by kernel_rfl
theorem I_{b1 o1 n1 c1 b2 o2 n2 c2:Nat}{x1 x2:List K}(hw:Wd S w0 [G (O ⟨b1,o1,U⟩) n1 c1 e 2 x1,G (O ⟨b2,o2,U⟩) n2 c2 e 2 x2] w)(h1:x1≠[])(h2:x2≠[])(oa ob la ca lb cb:Nat):
  (callFunc 187 #[I (O ⟨b2,oa,U⟩) la ca,I (O ⟨b1,ob,U⟩) lb cb]).run Y w=.ok (.value (ag false)) w:=by
 obtain⟨_,_,_,aiQ,sp1,_,_,Mp⟩:=hw.nj (k:=0) rfl;obtain⟨_,_,_,akU,sp2,_,_,wS⟩:=hw.nj (k:=1) rfl;have fZ:b2≠b1:=λe2=>by
  have h3:=(jm.1 hw.apart).1 (G (O ⟨b2,o2,U⟩) n2 c2 e 2 x2) cK b1 (by simp[G]);exact h3 (by simp[G,e2])
 obtain⟨i,hi,YR⟩:=ff.1 Wn;have hlen:(aiQ++x1++sp1).length≠0:=by
  simp only[bW];have:=yh.2 h1;omega
 rw[Ja,Go.Lib.run_overlaps_apart w ovT ovR 41 ZK 2 (λw=>by simp[sizeOf,typeInfo,hi,YR]) ⟨b2,oa,U⟩ ⟨b1,ob,U⟩ la ca lb cb fZ e e _ _ (by simp only[World.shape?,wS];rfl) (by simp only[World.shape?,Mp];rfl) (aD hlen) (by simp[World.frozen?,wS]) (by simp[World.frozen?,wS])]
 rfl
theorem NS(v:α):∀(k:Nat) (l:List α),k<=l.length->l.insertIdx k v=l.take k++v::l.drop k
 |0,l,_=>by simp
 |k+1,[],h=>by simp at h
 |k+1,x::l,h=>by
  rw[List.insertIdx_succ_cons,NS v k l (aD h)]
  rfl
theorem K7(b o c:Nat)(l:List cI)(k:Nat)(v:cI)(vb:Nat)(hk:k<=l.length)(Bf:l.length+1<=c)(hb:l.length<=1000)(w0:ae)
  (hW:Wd (df [ar (O ⟨b,o,U⟩) l.length c l,G (O ⟨vb,0,U⟩) 1 1 41 2 [ag v.dq,J Z v.n]]) w0 [ar (O ⟨b,o,U⟩) l.length c l,G (O ⟨vb,0,U⟩) 1 1 41 2 [ag v.dq,J Z v.n]] w0):
  iL Y 169 [I (O ⟨b,o,U⟩) l.length c,J Z k,I (O ⟨vb,0,U⟩) 1 1] w0 λu w'=>∃x:ax×Nat,u=I x.1 (l.length+1) x.2/\Wd (df [ar (O ⟨b,o,U⟩) l.length c l,G (O ⟨vb,0,U⟩) 1 1 41 2 [ag v.dq,J Z v.n]]) w0 [ar x.1 (l.length+1) x.2 (l.insertIdx k v)] w':=by
 obtain⟨n,hn⟩:∃n,n=l.length:=⟨_,rfl⟩;obtain⟨SS,DT⟩:∃SS,SS=df [ar (O ⟨b,o,U⟩) l.length c l,G (O ⟨vb,0,U⟩) 1 1 41 2 [ag v.dq,J Z v.n]]:=⟨_,rfl⟩;rw[<-DT]at hW|-
 rw[<-hn]at hk Bf hb hW|-
 have IF:(l.flatMap mm).length=n*2:=by rw[cA eQ,hn]
 have aay:(l.insertIdx k v).flatMap mm=(l.flatMap mm).take (k*2)++[ag v.dq,J Z v.n]++(l.flatMap mm).drop (k*2):=by
  rw[(oj eQ l k).1,(oj eQ l k).2,NS v k l A,ee,fj,fu]
  rfl
 obtain⟨FL,hFL⟩:∃FL,FL=l.flatMap mm:=⟨_,rfl⟩
 try simp only[ar]at*
 rw[<-hFL]at IF hW aay;refine aR func169 rfl ntmps169 rfl hW ?_;refine DO 0 rfl λ_ qg abL=>?_;have c0:JF k n:=⟨hk⟩;refine aU ?_;apply aL<;>intro h1
 ·obtain rfl:k=n:=by have:=iG h1;omega
  refine bA ?_;refine kh 0 rfl rfl E A A λna nc=>?_;refine aV ?_;have Cs:(l.insertIdx k v).flatMap mm=FL++[ag v.dq,J Z v.n]:=by
   rw[hFL,hn,List.insertIdx_length_self,ee]
   rfl
  exact dh rfl λw hw=>⟨(na,nc),rfl,by rw[Cs];exact hw.sub (dN qy)⟩
 have Jw:k<n:=by have:=cE h1;omega
 refine aU ?_;rw[show decide ((c:Int)<(n:Int)+((1:Nat):Int))=false by simp;omega];have Iv:∀(m:Nat),m<=100000->∀(L:List (Nat×K)) (H:List cq) (T T2:Nat) (x y:Operand) [Ev L x (J Z (m:Int))] [Ev L y (J Z ((1:Nat):Int))],gg Y 95 [] SS w0 L H (.binOp .add T x y T2) (J Z ((m+1:Nat):Int)):=λm hm L H T T2 x y _ _=>by
  have:=FA (P:=Y) (N:=95) (ds:=[]) (S:=SS) (w0:=w0) (L:=L) (H:=H) (T:=T) (T2:=T2) (x:=x) (y:=y) (m:=(m:Int)) (n:=((1:Nat):Int)) A A;rwa[show(m:Int)+((1:Nat):Int)=((m+1:Nat):Int) by omega]at this
 have ai0:=Iv n A;have aiZ:=Iv k A;have c1:JG (n+1) c:=⟨Bf⟩;have c2:JF (k+1) (n+1):=⟨A⟩;have c3:JF k (n+1):=⟨A⟩;have e1:MZ b o (k+1) 2 c=O ⟨b,o+(k+1)*2,U⟩:=by unfold MZ;rw[ai A]
 have e2:MZ b o k 2 c=O ⟨b,o+k*2,U⟩:=by unfold MZ;rw[ai A]
 refine aU ?_;rw[e1];refine Yn rfl (λw hw=>I_ hw (λe=>by rw[e]at IF;simp at IF;omega) cK _ _ _ _ _ _) ?_;refine aU ?_;refine abp 0 rfl (n+1) A Bf λys hys=>?_;simp only[bI];refine vX [] mixed aB ?_;refine W 0 ?_;refine W 1 ?_;refine W 2 ?_;refine W 3 ?_;refine W 4 ?_;refine W 5 ?_;refine W 6 ?_;refine W 7 ?_;rw[e1,e2];refine YA 8 0 (off:=(k+1)*2) (n-k) (FL.drop (k*2)) rfl rfl A (by rw[eS];omega) (λw hw j u hj=>?_) (by rw[bW,eS];omega) (λu hu=>by rw[hFL]at hu;exact Qc u (List.mem_of_mem_drop hu)) E aB ?_
 ·rw[gp]at hj
  have iS:=(aJ.1 hj).1;have:=hw.dp (k:=0) rfl (j:=k*2+j) (v:=u) (by rw[eX iS];exact hj);rw[show o+k*2+j=o+(k*2+j) by omega];exact this
 refine ef E ?_;simp only[bI];have hX:(FL++ys).take ((k+1)*2)++FL.drop (k*2)++(FL++ys).drop ((k+1)*2+(FL.drop (k*2)).length)=FL.take ((k+1)*2)++FL.drop (k*2):=by
  rw[mg A,List.drop_of_length_le (l:=FL++ys) (by rw[bW,eS];omega),cj]
 rw[hX];have hXl:(FL.take ((k+1)*2)++FL.drop (k*2)).length=(n+1)*2:=by rw[bW,dA,eS];omega
 refine bA ?_;rw[e2];refine Il (off:=k*2) 0 1 [ag v.dq,J Z v.n] rfl rfl A rfl (λw hw j u hj=>?_) (by rw[hXl];simp only[lF,pE];omega) (by simp[Value.oneCell']) ?_
 ·have:=hw.dp (k:=1) rfl hj
  exact this
 simp only[bI];have hY:(FL.take ((k+1)*2)++FL.drop (k*2)).take (k*2)++[ag v.dq,J Z v.n]++(FL.take ((k+1)*2)++FL.drop (k*2)).drop (k*2+[ag v.dq,J Z v.n].length)=(l.insertIdx k v).flatMap mm:=by
  rw[aay,mg (by rw[dA];omega),List.take_take,fP A];congr 1;rw[List.drop_append,List.drop_of_length_le (l:=FL.take ((k+1)*2)) (by rw[dA];simp only[lF,pE];omega),aS,dA];rw[show k*2+[ag v.dq,J Z v.n].length-min ((k+1)*2) FL.length=0 by simp only[lF,pE];omega,List.drop_zero]
 rw[hY];refine aV ?_;exact dh rfl λw hw=>⟨(O ⟨b,o,U⟩,c),rfl,hw.sub (dN qy)⟩
end
theorem K5(b:Nat):∀l:List Nat,l.Pairwise (·<·)->b∉l->(l.insertIdx (l.filter λa=>decide (a<b)).length b).Pairwise (·<·)/\∀y,y∈l.insertIdx (l.filter λa=>decide (a<b)).length b↔y=b\/y∈l
 |[],_,_=>⟨by simp,by simp⟩
 |a::l,hs,hb=>by
  obtain⟨h1,h2⟩:=jm.1 hs;have Nn:a≠b:=λe=>hb (by rw[e];exact vO);have jX:b∉l:=λe=>hb (ey _ e)
  by_cases h:a<b
  ·obtain⟨i1,i2⟩:=K5 b l h2 jX
   rw[List.filter_cons_of_pos (aD h),lF,List.insertIdx_succ_cons];refine⟨jm.2 ⟨λy hy=>?_,i1⟩,λy=>?_⟩
   ·rcases(i2 y).1 hy with rfl|hy
    ·exact h
    ·exact h1 y hy
   ·rw[bX,i2,bX]
    constructor
    ·rintro(h|h|h)
     ·exact .inr (.inl h)
     ·exact .inl h
     ·exact .inr (.inr h)
    ·rintro(h|h|h)
     ·exact .inr (.inl h)
     ·exact .inl h
     ·exact .inr (.inr h)
  ·have cX:(a::l).filter (λa=>decide (a<b))=[]:=List.filter_eq_nil_iff.2 λy hy=>by
    rcases bX.1 hy with rfl|hy
    ·simpa using h
    ·have:=h1 y hy
     simp;omega
   rw[cX];refine⟨?_,λy=>by simp⟩;show(b::a::l).Pairwise _;refine jm.2 ⟨λy hy=>?_,hs⟩;rcases bX.1 hy with rfl|hy
   ·omega
   ·have:=h1 y hy
    omega
def RV(bl:List aq)(b t c:Nat):Nat:=((be bl c).filter λa=>decide (a<b)&&decide (a≠t)).length
def BR(bl:List aq)(b t c:Nat)(p:gD):gD:=⟨p.dst,(p.src.eraseIdx ((be bl c).idxOf t)).insertIdx (RV bl b t c) (p.src.getD ((be bl c).idxOf t) lB)⟩
theorem zx(f:α->β)(x:α):∀(k:Nat) (l:List α),(l.insertIdx k x).map f=(l.map f).insertIdx k (f x)
 |0,l=>by simp
 |k+1,[]=>by simp
 |k+1,y::l=>by rw[List.insertIdx_succ_cons,cf,cf,List.insertIdx_succ_cons,zx f x k l]
theorem Om(hj:fh bl b t)(hc:c≠t)(hm:t∈be bl c):kA bl b t c=((be bl c).eraseIdx ((be bl c).idxOf t)).insertIdx (RV bl b t c) b:=by
 have tP:=jV bl c;have hs:=RJ bl c;have he:(be bl c).eraseIdx ((be bl c).idxOf t)=(be bl c).filter λa=>decide (a≠t):=by
  rw[<-List.erase_eq_eraseIdx_of_idxOf rfl,tP.erase_eq_filter];refine lV λx _=>?_;simp[bne,BEq.beq,decide_not]
 have hr:RV bl b t c=(((be bl c).filter λa=>decide (a≠t)).filter λa=>decide (a<b)).length:=by
  unfold RV;rw[List.filter_filter]
 rw[he,hr];obtain⟨h1,h2⟩:=K5 b ((be bl c).filter λa=>decide (a≠t)) (hs.sublist nu) (λh=>tw hj hc (cR.1 h).1);have h3:(kA bl b t c).Pairwise (·<·):=List.pairwise_lt_range.sublist nu;have YV:∀{l:List Nat},l.Pairwise (·<·)->l.Nodup:=λh=>h.imp λh=>Nat.ne_of_lt h;have hp:=(wZ (YV h3) (YV h1)).2 λq=>by
  rw[h2,cR,dv,iT hj hc]
  by_cases e:q=b
  ·rw[al e]
   exact⟨λ_=>.inl e,λ_=>⟨λe2=>hj.ne (e2▸e),hm⟩⟩
  ·rw[ai e]
   exact⟨λh=>.inr ⟨h.2,h.1⟩,λh=>h.elim (λh=>absurd h e) λh=>⟨h.2,h.1⟩⟩
 exact FI (f:=λx:Nat=>x) hp.symm h1 (h3.imp λh=>.inl h)
theorem Xa(hj:fh bl b t)(hc:c≠t)(hm:t∈be bl c)(p:gD)(hp:p.src.length=(be bl c).length):BR bl b t c p=yW bl b t c p:=by
 have se:p.src=(be bl c).map (gi bl c p):=by
  apply cY;intro j;rw[aW]
  by_cases h:j<(be bl c).length
  ·obtain⟨q,hq⟩:=bE (be bl c) j h
   obtain⟨v,hv⟩:=bE p.src j A;have h5:=mD (jV bl c) (i:=j) h;rw[lx hq]at h5;rw[hq,hv,b_];unfold gi;rw[h5,fF,hv]
   rfl
  ·rw[cm A,cm A]
   rfl
 unfold BR yW;congr 1;have hv:p.src.getD ((be bl c).idxOf t) lB=gi bl c p t:=rfl;rw[Om hj hc hm,zx,al rfl,hv];congr 1
 conv=>lhs;rw[se]
 rw[<-Gq];refine ew λq hq=>?_;have xB:=List.mem_of_mem_eraseIdx hq;rw[ai (λe:q=b=>tw hj hc (e▸xB))]
theorem Wr(hj:fh bl b t)(hc:c≠t)(hm:t∉be bl c)(p:gD)(hp:p.src.length=(be bl c).length):yW bl b t c p=p:=by
 obtain⟨pd,ps⟩:=p;have Au:kA bl b t c=be bl c:=by
  unfold kA be;refine lV λq hq=>?_;have vh:=cW.1 hq;unfold F3;have hmt:¬(c:Int)∈dY bl t:=λh=>hm (qN hj.Di h);have Pm:¬(c:Int)∈dY bl b:=λh=>tw hj hc (qN hj.blt h)
  by_cases h1:q=t
  ·rw[al h1,h1]
   simp[hmt]
  ·rw[ai h1]
   by_cases h2:q=b
   ·rw[al h2,h2]
    simp[hmt,Pm]
   ·rw[ai h2]
 unfold yW;simp only at hp|-
 congr 1;rw[Au];apply cY;intro j;rw[aW]
 by_cases h:j<(be bl c).length
 ·obtain⟨q,hq⟩:=bE (be bl c) j h
  obtain⟨v,hv⟩:=bE ps j A;have h5:=mD (jV bl c) (i:=j) h;rw[lx hq]at h5;rw[hq,hv,b_,ai (λe:q=b=>tw hj hc (e▸aA hq))];unfold gi;simp only;rw[h5,fF,hv]
  rfl
 ·rw[cm A,cm A]
  rfl
attribute [local irreducible] bodyPostM md
def jf(T:aK)(ps:List ch):aK:={T with ps:=ps}
theorem Qd{X:List cq}{a:ax}{zs:List aK}{T:aK}{ps:List ch}(hT:zs[t]?=O T)(hn:n=zs.length)(zT:ps.length=T.ps.length)
  (h:Wd S w0 (X++(am a n c zs::aw T.pa T.ps.length T.pc ps::qJ T::lQ T::(ps.map dZ++(T.xs.map gC++(zs.eraseIdx t).map bP)))) w):Wd S w0 (X++eM a c (zs.set t (jf T ps))) w:=by
 have EQ:=(aJ.1 hT).1;have h2:Wd S w0 (ij (jf T ps)++(X++(am a n c zs::(zs.eraseIdx t).map bP))) w:=by
  refine h.perm ?_;unfold ij jf qJ lQ;simp only[zT]
  classical
  refine aX.2 λe=>?_;simp only[bU,bM,am,aw];omega
 refine(Wd.join h2).perm ?_;have h5:=ig bP (l:=zs.set t (jf T ps)) (k:=t) (x:=jf T ps) (fk EQ);rw[nt]at h5;have h6:(zs.set t (jf T ps)).flatMap eA=zs.flatMap eA:=Ke hT (by unfold jf eA;simp only[zT]);unfold eM;rw[fK,h6,hn]
 classical
 refine aX.2 λe=>?_;have h7:=aX.1 h5 e;simp only[bU,bM,bP,am]at h7|-
 omega
theorem xX{X:List cq}{a:ax}{zs:List aK}{T:aK}(hT:zs[t]?=O T)(h:Wd S w0 (X++eM a c zs) w):
  Wd S w0 (X++(am a zs.length c zs::aw T.pa T.ps.length T.pc T.ps::qJ T::lQ T::(T.ps.map dZ++(T.xs.map gC++(zs.eraseIdx t).map bP)))) w:=by
 have h2:Wd S w0 (bP T::(X++(am a zs.length c zs::(zs.eraseIdx t).map bP))) w:=by
  refine h.perm ?_;unfold eM;have h3:=ig bP hT
  classical
  refine aX.2 λe=>?_;have h4:=aX.1 h3 e;simp only[bU,bM,am]at h4|-
  omega
 refine h2.nh.perm ?_;unfold ij qJ lQ
 classical
 refine aX.2 λe=>?_;simp only[bU,bM,am,aw];omega
section
def nT(t b:Nat)(e:Int×cI):Int×cI:=if e.1=(t:Int)then((b:Int),e.2)else e
theorem QB{p:gD}(hp:p.src.length=(be bl c).length):ky bl c p.src=(be bl c).map λq:Nat=>((q:Int),gi bl c p q):=by
 apply cY;intro j;unfold ky;rw[aW]
 by_cases hj:j<(be bl c).length
 ·obtain⟨q,hq⟩:=bE (be bl c) j hj
  obtain⟨v,hv⟩:=bE p.src j A;rw[(List.getElem?_zip_eq_some (z:=((q:Int),v))).2 ⟨by rw[aW,hq];rfl,hv⟩,hq,b_];have h5:=mD (jV bl c) (i:=j) hj;rw[lx hq]at h5;unfold gi;rw[h5,fF,hv]
  rfl
 ·rw[cm (by rw[List.length_zip,aG];omega),cm A]
  rfl
theorem R7(hJ:fh bl b t)(hc:c≠t)(p:gD)(hp:p.src.length=(be bl c).length):rA ((ky bl c p.src).map (nT t b)) bl.length=(yW bl b t c p).src:=by
 have lG:dY bl b=[(t:Int)]:=by
  rw[fI (ck hJ.blt)];exact hJ.to
 have hmp:∀q,q∈be bl c↔q<bl.length/\(c:Int)∈dY bl q:=λq=>by
  unfold be;rw[cR,cW,dv]
 have qe:b∉be bl c:=λh=>by
  have:=((hmp b).1 h).2;rw[lG,bQ]at this;omega
 rw[QB hp,dM];have ab7:∀k,k<bl.length->rowAt ((be bl c).map (nT t b∘λq:Nat=>((q:Int),gi bl c p q))) k=if (c:Int)∈F3 bl b t k then[gi bl c p (if k=b then t else k)]else[]:=λk hk=>by
  have aaQ:∀q∈be bl c,(nT t b ((q:Int),gi bl c p q)).1=(k:Int)->q=(if k=b then t else k)/\k≠t:=λq hq he=>by
   unfold nT at he;simp only at he
   split at he
   ·rename_i h1
    have h2:q=t:=A;have h3:k=b:=by simp only at he;omega
    rw[al h3,h3];exact⟨h2,λh=>hJ.ne h.symm⟩
   ·rename_i h1
    have h2:q=k:=by simp only at he;omega
    have h3:k≠b:=λh=>qe (by rw[<-h,<-h2];exact hq);rw[ai h3];exact⟨h2,λh=>h1 A⟩
  unfold rowAt
  by_cases hm:(c:Int)∈F3 bl b t k
  ·rw[al hm]
   unfold F3 at hm;have hq:(if k=b then t else k)∈be bl c/\(nT t b (((if k=b then t else k:Nat):Int),gi bl c p (if k=b then t else k))).1=(k:Int):=by
    split at hm
    ·cases hm
    ·rename_i h1
     split at hm
     ·rename_i h2
      rw[al h2];refine⟨(hmp t).2 ⟨hJ.Di,hm⟩,?_⟩;unfold nT;rw[al rfl,h2]
     ·rename_i h2
      rw[ai h2];refine⟨(hmp k).2 ⟨hk,hm⟩,?_⟩;unfold nT;rw[ai bB]
   have hex:∃e,((be bl c).map (nT t b∘λq:Nat=>((q:Int),gi bl c p q))).find? (λe=>decide (e.1=(k:Int)))=O e:=by
    rw[<-Option.isSome_iff_exists,List.find?_isSome];exact⟨_,aT.2 ⟨_,hq.1,rfl⟩,aD hq.2⟩
   obtain⟨e,he⟩:=hex;rw[he];have h3:=List.find?_some he;have h4:=List.mem_of_find?_eq_some he;simp only[dv]at h3;obtain⟨q,uw,rfl⟩:=aT.1 h4;have h5:=(aaQ q uw h3).1;rw[<-h5];simp only[Function.comp];unfold nT
   split<;>rfl
  ·rw[ai hm]
   split
   ·rename_i e he
    have h3:=List.find?_some he;have h4:=List.mem_of_find?_eq_some he;simp only[dv]at h3;obtain⟨q,uw,rfl⟩:=aT.1 h4;obtain⟨h5,h6⟩:=aaQ q uw h3;refine absurd ?_ hm;unfold F3;rw[ai h6]
    split
    ·rename_i h7
     rw[al h7]at h5;rw[<-h5];exact((hmp q).1 uw).2
    ·rename_i h7
     rw[ai h7]at h5;rw[<-h5];exact((hmp q).1 uw).2
   ·rfl
 have h2:∀l:List Nat,(l.filter λq=>decide ((c:Int)∈F3 bl b t q)).map (λq=>gi bl c p (if q=b then t else q))=l.flatMap λq=>if (c:Int)∈F3 bl b t q then[gi bl c p (if q=b then t else q)]else[]:=λl=>by
  induction l with
  |nil=>rfl
  |cons q l ih=>
   rw[fj,<-ih]
   by_cases h:(c:Int)∈F3 bl b t q
   ·simp[h]
   ·simp[h]
 unfold yW rA kA;simp only;rw[h2];exact oI λk hk=>ab7 k (cW.1 hk)
def uK(b t q:Nat):Nat:=if q=b then t else q
def kz(b t x:Nat):Nat:=if x=t then b else x
section
variable {R:Nat} {bl:List aq} {b t c d:Nat}
theorem PN(ha:um bl)(hp:ql bl)(h1:fh bl b t)(h2:fh bl c d):¬(c=t/\b=d):=λ⟨e1,e2⟩=>by
 subst e1 e2;have hr:=ha b (by rw[sx h1];simp);have key:∀x,jg bl (-1) 0 x->x≠b/\x≠c:=λx hx=>by
  induction hx with
  |refl=>exact⟨λe=>h2.pos hp e.symm,λe=>h1.pos hp e.symm⟩
  |@step x y _ he hw ih=>
   have he:(y:Int)∈dY bl x:=he;refine⟨λe=>?_,λe=>?_⟩
   ·rw[e]at he
    exact ih.2 (wl h2 he)
   ·rw[e]at he
    exact ih.1 (wl h1 he)
 exact(key b hr).1 rfl
theorem IQ(h1:fh bl b t)(h2:fh bl c d)(fZ:t≠d):b≠c:=λe=>by
 have:=h1.to;rw[e,h2.to]at this;simp at this;omega
theorem W9(h1:fh bl b t)(x:Nat):dY (cH bl b t) x=if x=t then[]else dY bl (uK b t x):=by
 rw[nI h1];unfold F3 uK
 split
 ·rfl
 split<;>rfl
theorem oE(h1:fh bl b t)(hx:x<bl.length)(Vo:x≠t):(bi (cH bl b t) x).kind=(bi bl (uK b t x)).kind/\(bi (cH bl b t) x).on=(bi bl (uK b t x)).on/\(bi (cH bl b t) x).to=(bi bl (uK b t x)).to/\(bi (cH bl b t) x).bg=(bi bl x).bg.map (yW bl b t x)/\(bi (cH bl b t) x).list=(bi bl x).list++if x=b then(bi bl t).list else[]:=by
 rw[ou hx];unfold pG uK;rw[ai Vo]
 by_cases e:x=b
 ·simp only[e,if_true]
  exact⟨trivial,trivial,trivial,trivial,trivial⟩
 ·simp only[e,if_false,cj]
  exact⟨trivial,trivial,trivial,trivial,trivial⟩
theorem th(hk:rD R bl)(ha:um bl)(hp:ql bl)(h1:fh bl b t)(h2:fh bl c d)(fZ:t≠d):fh (cH bl b t) (kz b t c) d:=by
 have yy:=IQ h1 h2 fZ;have hnr:=PN ha hp h1 h2;have yS:kz b t c<bl.length:=by unfold kz;split;exact h1.blt;exact h2.blt
 have XA:kz b t c≠t:=by
  unfold kz
  split
  ·exact λe=>h1.ne e.symm
  ·rename_i e;exact e
 have mJ:uK b t (kz b t c)=c:=by
  unfold uK kz
  by_cases e:c=t
  ·rw[al e,al rfl,e]
  ·rw[ai e,ai (λe2=>yy e2.symm)]
 obtain⟨g1,g2,g3,g4,g5⟩:=oE h1 yS XA;obtain⟨k1,k2,k3,k4,k5⟩:=oE h1 h2.Di (λe=>fZ e.symm);refine⟨by rw[dj];exact yS,by rw[dj];exact h2.Di,?_,by rw[g1,mJ];exact h2.kind,by rw[g3,mJ];exact h2.to,by rw[k4,h2.none];rfl,?_⟩
 ·unfold kz
  by_cases e:c=t
  ·rw[al e]
   exact λe2=>hnr ⟨e,e2.symm⟩
  ·rw[ai e]
   exact h2.ne
 ·rw[gN h1]
  have hlen:=Aj h1 (c:=d) (λe=>fZ e.symm);rw[h2.one]at hlen;have hm:kz b t c∈kA bl b t d:=(iT h1 (λe=>fZ e.symm)).2 ⟨XA,by
   have:=mJ;unfold uK at this;rw[this,h2.one];simp⟩
  match hq:kA bl b t d with
  |[]=>rw[hq]at hm;cases hm
  |[a]=>rw[hq]at hm;rw[bQ.1 hm]
  |_::_::_=>rw[hq]at hlen;simp at hlen
theorem HX(yy:b≠c)(h1:t≠b)(h2:d≠c)(fZ:t≠d)(hnr:¬(c=t/\b=d)){q:Nat}(hqt:q≠t)(Y2:q≠d):uK b t (uK (kz b t c) d q)=uK c d (uK (kz c d b) t q):=by
 unfold uK kz
 by_cases e1:c=t
 ·have e2:b≠d:=λe=>hnr ⟨e1,e⟩
  subst e1;simp only[if_true,e2,if_false]
  by_cases e3:q=b
  ·simp only[e3,if_true]
   rw[ai (λe=>e2 e.symm)]
  ·simp only[e3,if_false]
   rw[ai hqt]
 ·by_cases e2:b=d
  ·subst e2
   simp only[e1,if_false,if_true]
   by_cases e3:q=c
   ·simp only[e3,if_true]
    rw[ai (λe=>e1 e.symm)]
   ·simp only[e3,if_false]
    rw[ai Y2]
  ·simp only[e1,e2,if_false]
   by_cases e3:q=c
   ·have e4:c≠b:=λe=>yy e.symm
    simp only[e3,if_true,e4,if_false];rw[ai (λe=>e2 e.symm)]
   ·simp only[e3,if_false]
    by_cases e4:q=b
    ·simp only[e4,if_true]
     rw[ai (λe=>e1 e.symm)]
    ·simp only[e4,if_false]
     rw[ai e3]
theorem Mb(hk:rD R bl)(ha:um bl)(hp:ql bl)(h1:fh bl b t)(h2:fh bl c d)(fZ:t≠d)(x:Nat):dY (cH (cH bl b t) (kz b t c) d) x=if x=t\/x=d then[]else dY bl (uK b t (uK (kz b t c) d x)):=by
 have h3:=th hk ha hp h1 h2 fZ;have yy:=IQ h1 h2 fZ;rw[W9 h3]
 by_cases e1:x=d
 ·rw[al e1,al (.inr e1)]
 ·rw[ai e1,W9 h1]
  by_cases e2:x=t
  ·have e3:x≠kz b t c:=by
    unfold kz
    split
    ·rw[e2];exact h1.ne
    ·rename_i e;rw[e2];exact λe4=>e e4.symm
   have e4:uK (kz b t c) d x=t:=by unfold uK;rw[ai e3,e2]
   rw[al e4,al (Or.inl e2)]
  ·rw[ai (show¬(x=t\/x=d) by rintro(e|e);exact e2 e;exact e1 e)]
   have e3:uK (kz b t c) d x≠t:=by
    unfold uK
    split
    ·exact λe=>fZ e.symm
    ·exact e2
   rw[ai e3]
theorem Vy(hk:rD R bl)(ha:um bl)(hp:ql bl)(h1:fh bl b t)(h2:fh bl c d)(fZ:t≠d):cH (cH bl b t) (kz b t c) d=cH (cH bl c d) (kz c d b) t:=by
 have h3:=th hk ha hp h1 h2 fZ;have h4:=th hk ha hp h2 h1 (λe=>fZ e.symm);have yy:=IQ h1 h2 fZ;have hnr:=PN ha hp h1 h2;have Dw:∀x,be (cH (cH bl b t) (kz b t c) d) x=be (cH (cH bl c d) (kz c d b) t) x:=λx=>by
  unfold be;simp only[dj];refine lV λq _=>?_;rw[Mb hk ha hp h1 h2 fZ,Mb hk ha hp h2 h1 (λe=>fZ e.symm)]
  by_cases e:q=t\/q=d
  ·rw[al e,al e.symm]
  ·rw[ai e,ai (λh=>e h.symm),HX yy h1.ne h2.ne fZ hnr (λh=>e (.inl h)) (λh=>e (.inr h))]
 apply cY;intro x
 by_cases hx:x<bl.length
 ·rw[ck (bl:=cH (cH bl b t) (kz b t c) d) (by rw[dj,dj];exact hx),ck (bl:=cH (cH bl c d) (kz c d b) t) (by rw[dj,dj];exact hx)]
  congr 1;have NL:x<(cH bl b t).length:=by rw[dj];exact hx
  have Mv:x<(cH bl c d).length:=by rw[dj];exact hx
  have gone:∀{bl:List aq} {b t c d:Nat},x<bl.length->x=t->t≠d->t≠kz b t c->bi (cH (cH bl b t) (kz b t c) d) x=sj:=λ{bl b t c d} hx e1 e2 e3=>by
   rw[ou (by rw[dj];exact hx),ou hx];unfold pG;rw[ai (by rw[e1];exact e2),ai (by rw[e1];exact e3),al e1]
   rfl
  have aar:∀{bl:List aq} {b d:Nat},x<bl.length->x=d->bi (cH bl b d) x=sj:=λ{bl b d} hx e=>by
   rw[ou hx];unfold pG;rw[al e]
  have n1:t≠kz b t c:=by
   unfold kz
   split
   ·exact h1.ne
   ·rename_i e;exact λe4=>e e4.symm
  have n2:d≠kz c d b:=by
   unfold kz
   split
   ·exact h2.ne
   ·rename_i e;exact λe4=>e e4.symm
  by_cases ext:x=t
  ·rw[gone hx ext fZ n1,aar Mv ext]
  by_cases Ye:x=d
  ·rw[aar NL Ye,gone hx Ye (λe=>fZ e.symm) n2]
  obtain⟨a1,a2,a3,a4,a5⟩:=oE h3 NL Ye;obtain⟨b1,b2,b3,b4,b5⟩:=oE h4 Mv ext;have m1:uK (kz b t c) d x<bl.length:=by unfold uK;split;exact h2.Di;exact hx
  have m2:uK (kz c d b) t x<bl.length:=by unfold uK;split;exact h1.Di;exact hx
  have m3:uK (kz b t c) d x≠t:=by unfold uK;split;exact λe=>fZ e.symm;exact ext
  have m4:uK (kz c d b) t x≠d:=by unfold uK;split;exact fZ;exact Ye
  obtain⟨c1,c2,c3,_,_⟩:=oE h1 m1 m3;obtain⟨d1,d2,d3,_,_⟩:=oE h2 m2 m4;obtain⟨_,_,_,e4,e5⟩:=oE h1 hx ext;obtain⟨_,_,_,f4,f5⟩:=oE h2 hx Ye;have mJ:=HX yy h1.ne h2.ne fZ hnr (q:=x) ext Ye;have mB:(bi (cH (cH bl b t) (kz b t c) d) x).bg=(bi (cH (cH bl c d) (kz c d b) t) x).bg:=by
   rw[a4,b4,e4,f4,dM,dM];refine ew λp _=>?_;simp only[Function.comp_apply];refine bD (gD.mk p.dst) (?_:(kA (cH bl b t) (kz b t c) d x).map (λq=>gi (cH bl b t) x (yW bl b t x p) (uK (kz b t c) d q))=(kA (cH bl c d) (kz c d b) t x).map (λq=>gi (cH bl c d) x (yW bl c d x p) (uK (kz c d b) t q)));rw[<-gN h3,<-gN h4,<-Dw x];refine ew λq hq=>?_;have hq1:q∈kA (cH bl b t) (kz b t c) d x:=by rw[<-gN h3];exact hq
   have uw:q∈kA (cH bl c d) (kz c d b) t x:=by rw[<-gN h4,<-Dw x];exact hq
   obtain⟨i1,i2⟩:=(iT h3 Ye).1 hq1;obtain⟨j1,j2⟩:=(iT h4 ext).1 uw;rw[gN h1]at i2;rw[gN h2]at j2;have u1:=tF h1 ext i2 p;have u2:=tF h2 Ye j2 p;have w1:uK (kz b t c) d q=if q=kz b t c then d else q:=rfl
   have w2:uK (kz c d b) t q=if q=kz c d b then t else q:=rfl
   rw[w1,w2,u1,u2];have:=HX yy h1.ne h2.ne fZ hnr (q:=q) j1 i1;unfold uK at this;rw[this]
  have lu:(bi (cH (cH bl b t) (kz b t c) d) x).list=(bi (cH (cH bl c d) (kz c d b) t) x).list:=by
   obtain⟨_,_,_,_,g5⟩:=oE h1 h2.Di (λe=>fZ e.symm);obtain⟨_,_,_,_,k5⟩:=oE h2 h1.Di fZ;rw[a5,b5,e5,f5,g5,k5];unfold kz
   by_cases o1:c=t
   ·have o2:b≠d:=λe=>hnr ⟨o1,e⟩
    have o3:d≠b:=λe=>o2 e.symm;subst o1;simp only[if_true,o2,if_false,o3,cj]
    by_cases o4:x=b
    ·simp only[o4,if_true,yy,if_false,cj,fu]
    ·simp only[o4,if_false,cj,ext]
   ·by_cases o2:b=d
    ·subst o2
     have o3:t≠c:=λe=>o1 e.symm;simp only[o1,if_false,if_true,o3,cj]
     by_cases o4:x=c
     ·have o5:c≠b:=λe=>yy e.symm
      simp only[o4,if_true,o5,if_false,cj,fu]
     ·simp only[o4,if_false,cj,Ye]
    ·have o3:d≠b:=λe=>o2 e.symm
     have o4:t≠c:=λe=>o1 e.symm;simp only[o1,if_false,o2,o3,o4,cj]
     by_cases o5:x=b
     ·have o6:x≠c:=λe=>yy (o5.symm.trans e)
      simp only[o5,if_true,yy,if_false,cj]
     ·simp only[o5,if_false,cj]
  have ext':∀sC B:aq,sC.kind=B.kind->sC.on=B.on->sC.to=B.to->sC.bg=B.bg->sC.list=B.list->sC=B:=by
   rintro⟨⟩ ⟨⟩ rfl rfl rfl rfl rfl
   rfl
  exact ext' _ _ (by rw[a1,b1,c1,d1,mJ]) (by rw[a2,b2,c2,d2,mJ]) (by rw[a3,b3,c3,d3,mJ]) mB lu
 ·rw[cm (by rw[dj,dj];omega),cm (by rw[dj,dj];omega)]
end
structure MD(R:Nat)(bl:List aq):Prop where
 base:rD R bl
 pos:ql bl
 all:um bl
theorem MD.join(h:MD R bl)(hj:fh bl b t):MD R (cH bl b t):=⟨h.base.join hj,LC hj h.pos,GH hj h.pos h.all⟩
theorem MD.none(h:MD R bl)(hn:∀c,kx bl c=U)(hj:fh bl b t):False:=by
 have:=(lL h.base.kind h.base.ok.iD).2 hj;rw[hn]at this;cases this
theorem Ri:∀(n:Nat) (l a c:List aq),Kw l=n->MD R l->lK l a->lK l c->(∀x,kx a x=U)->(∀x,kx c x=U)->a=c:=by
 intro n
 induction n with
 |zero=>
  intro l a c hn h ha hc na nc;cases ha with
  |refl=>
   cases hc with
   |refl=>rfl
   |head hj _=>exact(h.none na hj).elim
  |head hj _=>have:=qG hj;omega
 |succ n ih=>
  intro l a c hn h ha hc na nc;cases ha with
  |refl=>
   cases hc with
   |refl=>rfl
   |head hj _=>exact(h.none na hj).elim
  |@head _ _ b t hj ha=>
   cases hc with
   |refl=>exact(h.none nc hj).elim
   |@head _ _ b' t' SC hc=>
    have m1:=qG hj;have m2:=qG SC
    by_cases e:t=t'
    ·subst e
     obtain rfl:b=b':=by
      have:=SC.one;rw[hj.one]at this;simpa using this
     exact ih _ a c A (h.join hj) ha hc na nc
    ·have k1:=th h.base h.all h.pos hj SC e
     have k2:=th h.base h.all h.pos SC hj (λx=>e x.symm);have ke:=Vy h.base h.all h.pos hj SC e;have dV:=(h.join hj).join k1;obtain⟨f1,f2⟩:=qW dV.base;have r1:=ih _ a _ A (h.join hj) ha (.head k1 f1) na f2;have r2:=ih _ c _ A (h.join SC) hc (.head k2 (ke▸f1)) nc f2;rw[r1,r2]
structure GE(l:List aq)(o:List Nat):Prop where
 ok:F8 l o
 full:∀q,dY l q≠[]->q∈o
theorem sS(h:i<o.length):bi (cG l o) i=iP l o (nth o i) (bi l (nth o i)):=gG (mj (gR h))
theorem CD(h:rD R l)(hF:GE l o)(hi:i<o.length)(hj:j<o.length):fh (cG l o) i j↔fh l (nth o i) (nth o j):=by
 have hg:=h.ok.iD;have hk:=hF.ok;have hbi:=hk.lt _ (jd hi);have hbj:=hk.lt _ (jd hj);have e1:=sS (l:=l) hi;have e2:=sS (l:=l) hj;have SF:∀q,q<o.length->(q∈be (cG l o) j↔nth o q∈be l (nth o j)):=λq hq=>by
  rw[tx hg hk (gR hj),cR,cW,dv];exact⟨λh=>h.2,λh=>⟨hq,h⟩⟩
 have Cx:∀q∈be l (nth o j),q∈o:=λq hq=>hF.full q λe=>by
  have:=(cR.1 hq).2;simp only[dv,e]at this;cases this
 have Wm:∀{L:List Nat} {a:Nat},L.Nodup->a∈L->(∀x∈L,x=a)->L=[a]:=λ{L a} hn hm cX=>by
  have hl:=Zr hn cX
  match L,hm,hl with
  |[x],hm,_=>rw[bQ.1 hm]
  |_::_::_,_,hl=>simp at hl
 constructor
 ·intro hJ
  have vf:=hJ.kind;rw[e1]at vf;have vf:(bi l (nth o i)).kind=2:=vf;obtain⟨_,h4,h5⟩:=DV h.kind hg vf;have lG:=hJ.to;rw[e1]at lG;have lG:(bi l (nth o i)).to.map (λt=>((o.idxOf t.toNat:Nat):Int))=[(j:Int)]:=lG;rw[h4]at lG;simp only[cf,dm,fR,List.cons.injEq,and_true,Int.natCast_inj]at lG;have EH:nR l (nth o i)∈o:=by
   have:=hk.closed _ (jd hi) ((nR l (nth o i):Nat):Int) (by rw[kT hbi,h4];simp);rwa[fR]at this
  have zX:nR l (nth o i)=nth o j:=by rw[<-lG];exact(lH EH).symm
  rw[zX]at h4;have oL:=hJ.none;rw[e2]at oL;have oL:(bi l (nth o j)).bg=[]:=List.map_eq_nil_iff.1 oL;refine⟨hbi,hbj,λe=>hJ.ne (mG hk.nodup hj hi e),vf,h4,oL,Wm (jV _ _) ?_ λq hq=>?_⟩
  ·exact cR.2 ⟨cW.2 hbi,by simp only[dv];rw[kT hbi,h4];simp⟩
  ·have EM:=Cx q hq
   have h6:=(SF (o.idxOf q) (oM EM)).2 (by rw[lH EM];exact hq);rw[hJ.one,bQ]at h6;rw[<-h6,lH EM]
 ·intro hJ
  refine⟨by rw[dX];exact hi,by rw[dX];exact hj,λe=>hJ.ne (by rw[e]),by rw[e1];exact hJ.kind,?_,?_,Wm (jV _ _) ?_ λq hq=>?_⟩
  ·rw[e1]
   show(bi l (nth o i)).to.map (λt=>((o.idxOf t.toNat:Nat):Int))=_;rw[hJ.to];simp only[cf,dm,fR];rw[mD hk.nodup hj]
  ·rw[e2]
   show(bi l (nth o j)).bg.map _=[];rw[hJ.none]
   rfl
  ·rw[SF i hi,hJ.one]
   simp
  ·have vh:=Fk _ _ q hq
   rw[dX]at vh;have h6:=(SF q vh).1 hq;rw[hJ.one,bQ]at h6;exact mG hk.nodup vh hi h6
theorem QD(hn:o.Nodup)(hj:j<o.length):o.erase (nth o j)=((bj o.length).filter λi=>decide (i≠j)).map (nth o):=by
 rw[List.Nodup.erase_eq_filter hn]
 conv=>lhs;rw[<-DW o]
 rw[List.filter_map,DW];congr 1;refine lV λi hi=>?_;have iM:=cW.1 hi;simp only[Function.comp_apply,ne_eq,decide_not]
 by_cases e:i=j
 ·simp[e]
 ·have:¬nth o i=nth o j:=λh=>e (mG hn iM hj h)
  simp[e,this]
theorem GE.join(h:rD R l)(hF:GE l o)(hJ:fh l b t):GE (cH l b t) (o.erase t):=by
 have hk:=hF.ok;have hme:∀x,x∈o.erase t↔x≠t/\x∈o:=λx=>List.Nodup.mem_erase_iff hk.nodup;refine⟨⟨hk.nodup.erase t,λx hx=>by rw[dj];exact hk.lt x ((hme x).1 hx).2,λq hq x hx=>?_⟩,λq hq=>?_⟩
 ·obtain⟨q1,q2⟩:=(hme q).1 hq
  rw[nI hJ]at hx;unfold F3 at hx;rw[ai q1]at hx;have G5:=h.ok.iD
  by_cases e:q=b
  ·rw[al e]at hx
   have lG:t∈o:=by
    have:=hk.closed q q2 (t:Int) (by rw[e,sx hJ];simp);rwa[fR]at this
   refine(hme _).2 ⟨λe2=>?_,hk.closed t lG x hx⟩;have:=mz G5 hx;exact Ow hJ (by rw[show(t:Int)=x by omega];exact hx)
  ·rw[ai e]at hx
   refine(hme _).2 ⟨λe2=>?_,hk.closed q q2 x hx⟩;have:=mz G5 hx;exact e (wl hJ (by rw[show(t:Int)=x by omega];exact hx))
 ·rw[nI hJ]at hq
  unfold F3 at hq
  by_cases e1:q=t
  ·rw[al e1]at hq;exact absurd rfl hq
  rw[ai e1]at hq;refine(hme q).2 ⟨e1,hF.full q ?_⟩
  by_cases e2:q=b
  ·rw[e2,sx hJ];simp
  ·rwa[ai e2]at hq
theorem Lc(h:rD R l)(hF:GE l o)(hi:i<o.length)(hj:j<o.length)(hJ:fh (cG l o) i j):
  cG (cH (cG l o) i j) ((bj o.length).filter λx=>decide (x≠j))=cG (cH l (nth o i) (nth o j)) (o.erase (nth o j)):=by
 have hg:=h.ok.iD;have hk:=hF.ok;have hL:=(CD h hF hi hj).1 hJ;obtain⟨o',ho'⟩:∃o',o'=(bj o.length).filter λx=>decide (x≠j):=⟨_,rfl⟩;have hm:∀x∈o',x<o.length/\x≠j:=λx hx=>by
  rw[ho']at hx;have:=cR.1 hx;exact⟨cW.1 this.1,aD this.2⟩
 have F0:∀x,x<o.length->x≠j->x∈o':=λx h1 h2=>by
  rw[ho'];exact cR.2 ⟨cW.2 h1,aD h2⟩
 have SE:o'.Nodup:=by rw[ho'];exact List.nodup_range.sublist nu
 have hF2:=hF.join h hL;rw[QD hk.nodup hj,<-ho']at hF2|-
 have abC:∀x,x<o.length->nth o (uK i j x)=uK (nth o i) (nth o j) (nth o x):=λx hx=>by
  unfold uK
  by_cases e:x=i
  ·rw[al e,al (by rw[e])]
  ·rw[ai e,ai (λe2=>e (mG hk.nodup hx hi e2))]
 have Gf:∀x,x<o.length->uK i j x<o.length:=λx hx=>by unfold uK;split;exact hj;exact hx
 unfold cG;rw[dM];refine ew λx hx=>?_;obtain⟨pw,hxj⟩:=hm x hx;show iP (cH (cG l o) i j) o' x (bi (cH (cG l o) i j) x)=iP (cH l (nth o i) (nth o j)) (o'.map (nth o)) (nth o x) (bi (cH l (nth o i) (nth o j)) (nth o x));have Vo:nth o x≠nth o j:=λe=>hxj (mG hk.nodup pw hj e);obtain⟨a1,a2,a3,a4,a5⟩:=oE hJ (x:=x) (by rw[dX];exact pw) hxj;obtain⟨b1,b2,b3,b4,b5⟩:=oE hL (x:=nth o x) (hk.lt _ (jd pw)) Vo;have e1:=sS (l:=l) (Gf x pw);rw[abC x pw]at e1;have e2:=sS (l:=l) pw;have e3:=sS (l:=l) hj;rw[e1]at a1 a2 a3;rw[e2]at a4 a5;rw[e3]at a5;have ext':∀sC B:aq,sC.kind=B.kind->sC.on=B.on->sC.to=B.to->sC.bg=B.bg->sC.list=B.list->sC=B:=by
  rintro⟨⟩ ⟨⟩ rfl rfl rfl rfl rfl
  rfl
 refine ext' _ _ (by show(bi _ x).kind=(bi _ (nth o x)).kind;rw[a1,b1];rfl) (by show(bi _ x).on=(bi _ (nth o x)).on;rw[a2,b2];rfl) ?_ ?_ ?_
 ·show(bi (cH (cG l o) i j) x).to.map (λt=>((o'.idxOf t.toNat:Nat):Int))=(bi (cH l (nth o i) (nth o j)) (nth o x)).to.map λt=>(((o'.map (nth o)).idxOf t.toNat:Nat):Int)
  rw[a3];show((bi l (uK (nth o i) (nth o j) (nth o x))).to.map λt=>((o.idxOf t.toNat:Nat):Int)).map _=_;rw[<-b3,dM];refine ew λt ht=>?_;simp only[Function.comp_apply];rw[fR];have ht1:t∈dY (cH l (nth o i) (nth o j)) (nth o x):=by rw[kT (by rw[dj];exact hk.lt _ (jd pw))];exact ht
  have XC:=hF2.ok.closed (nth o x) (aT.2 ⟨x,hx,rfl⟩) t ht1;obtain⟨y,hy,hye⟩:=aT.1 XC;have vK:=(hm y hy).1;rw[<-hye,mD hk.nodup vK];have e4:nth (o'.map (nth o)) (o'.idxOf y)=nth o y:=by
   unfold nth;rw[aW,bL (oM hy),nw]
   rfl
  have e5:=mD hF2.ok.nodup (i:=o'.idxOf y) (by rw[aG];exact oM hy);rw[e4]at e5;rw[e5]
 ·show(bi (cH (cG l o) i j) x).bg.map _=(bi (cH l (nth o i) (nth o j)) (nth o x)).bg.map _
  rw[a4,b4];show((((bi l (nth o x)).bg.map (ft l o (nth o x))).map (yW (cG l o) i j x)).map (ft (cH (cG l o) i j) o' x))=_;rw[dM,dM,dM];refine ew λp _=>?_;simp only[Function.comp_apply];have hpq:∀q∈o',(q∈be (cH (cG l o) i j) x↔nth o q∈be (cH l (nth o i) (nth o j)) (nth o x)):=λq hq=>by
   obtain⟨vh,Cy⟩:=hm q hq;rw[gN hJ,gN hL,iT hJ hxj,iT hL Vo];have hqt:nth o q≠nth o j:=λe=>Cy (mG hk.nodup vh hj e);have h3:(if q=i then j else q)∈be (cG l o) x↔nth o (uK i j q)∈be l (nth o x):=by
    rw[tx hg hk (gR pw),cR,cW,dv];exact⟨λh=>h.2,λh=>⟨Gf q vh,h⟩⟩
   rw[h3,abC q vh];exact⟨λh=>⟨hqt,h.2⟩,λh=>⟨Cy,h.2⟩⟩
  refine bD (gD.mk p.dst) (?_:(o'.filter λq=>decide (q∈be (cH (cG l o) i j) x)).map (gi (cH (cG l o) i j) x (yW (cG l o) i j x (ft l o (nth o x) p)))=((o'.map (nth o)).filter λq=>decide (q∈be (cH l (nth o i) (nth o j)) (nth o x))).map (gi (cH l (nth o i) (nth o j)) (nth o x) (yW l (nth o i) (nth o j) (nth o x) p)));rw[List.filter_map,dM];rw[lV (q:=((λq=>decide (q∈be (cH l (nth o i) (nth o j)) (nth o x)))∘nth o)) λq hq=>by simp only[Function.comp_apply];exact decide_eq_decide.2 (hpq q hq)];refine ew λq hq=>?_;obtain⟨hq1,uw⟩:=cR.1 hq;obtain⟨vh,Cy⟩:=hm q hq1;have uw:nth o q∈be (cH l (nth o i) (nth o j)) (nth o x):=aD uw;have U3:=(hpq q hq1).2 uw;rw[gN hJ]at U3;rw[gN hL]at uw;simp only[Function.comp_apply];rw[tF hJ hxj U3,tF hL Vo uw];have hq4:=((iT hJ hxj).1 U3).2;rw[z_ hg hk (gR pw) hq4];have:=abC q vh;unfold uK at this;rw[this]
 ·show(bi (cH (cG l o) i j) x).list=(bi (cH l (nth o i) (nth o j)) (nth o x)).list
  rw[a5,b5]
  by_cases e:x=i
  ·rw[al e,al (by rw[e])];rfl
  ·rw[ai e,ai (λe2=>e (mG hk.nodup pw hi e2))];rfl
def jnL(g:List aq)(i j:Nat):List aq:=cG (cH g i j) ((bj g.length).filter λx=>decide (x≠j))
structure wF(X:bZ)(R:Nat)(g l:List aq)(o:List Nat):Prop where
 eq:g=cG l o
 jn:lK (eN X) l
 ok:MD R l
 full:GE l o
 zero:0<o.length/\nth o 0=0
theorem wF.len(h:wF X R g l o):g.length=o.length:=by rw[h.eq,dX]
theorem lK.snoc{a c:List aq}(h:lK a c)(hj:fh c b t):lK a (cH c b t):=h.trans (.head hj (.refl _))
theorem Dg(hu:jy u)(hX:u.funcs[k]?=O X):∃R,lj X R/\wF X R (eN X) (eN X) (bj (eN X).length):=by
 obtain⟨R,h⟩:=xj hu hX;obtain⟨yB,zT⟩:=AM hu hX;have hk:=i_ h.ok.iD h.pos;obtain⟨Gn,Bj⟩:=qK h.ok.iD h.pos;have dV:eW R (eN X):=jx h.ok hk;have hlen:(eN X).length=(cQ X.blocks).length:=dX _ _;refine⟨R,h,(VC dV).symm,.refl _,⟨⟨dV,vt hk yB⟩,LD h.ok.iD hk Bj zT,GI h.ok.iD h.pos⟩,⟨⟨tX,λb hb=>cW.1 hb,λb _ t ht=>?_⟩,λq hq=>?_⟩,?_,?_⟩
 ·have:=mz dV.iD ht
  exact cW.2 A
 ·exact cW.2 (it λhn=>hq (pi hn))
 ·rw[d_];omega
 ·exact lx (gq A)
theorem Oq(h:wF X R g l o)(hJ:fh g i j):wF X R (jnL g i j) (cH l (nth o i) (nth o j)) (o.erase (nth o j))/\(jnL g i j).length+1=g.length:=by
 have hlen:=h.len;have hi:i<o.length:=by rw[<-hlen];exact hJ.blt
 have hj:j<o.length:=by rw[<-hlen];exact hJ.Di
 have Ni:=hJ;rw[h.eq]at Ni;have hL:=(CD h.ok.base h.full hi hj).1 Ni;have e:jnL g i j=cG (cH l (nth o i) (nth o j)) (o.erase (nth o j)):=by
  unfold jnL;rw[hlen,h.eq];exact Lc h.ok.base h.full hi hj Ni
 have hm:=jd hj;have gk:=List.length_erase_of_mem hm;have fZ:=hL.pos h.ok.pos;refine⟨⟨e,h.jn.snoc hL,h.ok.join hL,h.full.join h.ok.base hL,?_⟩,by rw[e,dX,gk];omega⟩;cases ho:o with
 |nil=>rw[ho]at hi;simp at hi
 |cons a r=>
  have ha:a=0:=by
   have:=h.zero.2;rw[ho]at this;exact this
  subst ha;rw[ho]at fZ;rw[List.erase_cons_tail (by simpa using λe=>fZ e.symm)];exact⟨by simp,rfl⟩
theorem RQ(hu:jy u)(hX:u.funcs[k]?=O X)(Sx:X.bm=R)(h:wF X R g l o)(hn:∀i,i<g.length->kx g i=U):fJ (px X g)=ju X:=by
 have hlen:=h.len;have hg:=h.ok.base.ok.iD;have hkg:rD R g:=by rw[h.eq];exact⟨jx h.ok.base.ok h.full.ok,vt h.full.ok h.ok.base.kind⟩
 have yS:∀c,kx l c=U:=λc=>by
  cases hc:kx l c with
  |none=>rfl
  |some t=>
   exfalso;have hJ:=(lL h.ok.base.kind hg).1 hc;have hco:=h.full.full c (by rw[sx hJ];simp);have lG:t∈o:=by
    have:=h.full.ok.closed c hco (t:Int) (by rw[sx hJ];simp);rwa[fR]at this
   have hJ2:=(CD h.ok.base h.full (oM hco) (oM lG)).2 (by rw[lH hco,lH lG];exact hJ);rw[<-h.eq]at hJ2;have:=(lL hkg.kind hkg.ok.iD).2 hJ2;rw[hn _ (by rw[hlen];exact oM hco)]at this;cases this
 obtain⟨R2,h0,h2⟩:=Dg hu hX;obtain rfl:R2=R:=by have:=h0.bm;omega
 obtain⟨f1,f2⟩:=qW h2.ok.base;have he:l=gt (eN X):=Ri _ _ _ _ rfl h2.ok h.jn f1 yS f2;have hk:cG g (cQ g)=cG (gt (eN X)) (cQ (gt (eN X))):=by
  rw[h.eq,NX h.ok.base.ok h.full.ok h.zero.1 h.zero.2,he]
 unfold ju fJ;have e1:eN (px X g)=cG g (cQ g):=rfl;have e2:eN (px X (gt (eN X)))=cG (gt (eN X)) (cQ (gt (eN X))):=rfl;rw[e1,e2,hk]
 rfl
def rl(n t:Nat):List Nat:=(bj n).filter λx=>decide (x≠t)
theorem Qw(n t:Nat):rl (n+1) t=rl n t++if n≠t then[n]else[]:=by
 unfold rl;rw[iV,mw]
 by_cases h:n=t
 ·simp[h]
 ·simp[h]
theorem JZ(n t:Nat):(rl n t).length<=n:=by
 unfold rl;refine dS (fC _ _) ?_;rw[d_];exact cz _
theorem uP:x∈rl n t↔x<n/\x≠t:=by
 unfold rl;rw[cR,cW,dv]
def HO(bl:List aq)(b t c:Nat)(B:aq):aq:={B with bg:=B.bg.map (yW bl b t c)}
def uz(bl:List aq)(b t i:Nat):List aq:=bl.mapIdx λc B=>if c<i then HO bl b t c B else B
theorem wA(bl:List aq)(b t i:Nat):(uz bl b t i).length=bl.length:=by simp[uz]
theorem qP(h:bl[c]?=O B):(uz bl b t i)[c]?=O (if c<i then HO bl b t c B else B):=by
 unfold uz;rw[eD,h]
 rfl
theorem Mf(bl:List aq)(b t:Nat):uz bl b t 0=bl:=by
 apply cY;intro c;cases h:bl[c]? with
 |none=>rw[cm];rw[wA];exact mx.1 h
 |some B=>rw[qP h,ai A]
theorem Me(h:bl[i]?=O B):(uz bl b t i).set i (HO bl b t i B)=uz bl b t (i+1):=by
 apply cY;intro c;have iM:=(aJ.1 h).1
 by_cases e:i=c
 ·subst e
  rw[fk (by rw[wA];exact iM),qP h,al A]
 ·rw[fY e]
  cases hc:bl[c]? with
  |none=>
   have:=mx.1 hc;rw[cm (by rw[wA];exact this),cm (by rw[wA];exact this)]
  |some C=>
   rw[qP hc,qP hc]
   by_cases h2:c<i
   ·rw[al h2,al A]
   ·rw[ai h2,ai A]
structure vL(bl:List aq)(b t:Nat)(l:List aq):Prop where
 len:l.length=bl.length
 rest:∀c,c<bl.length->c≠t->bi l c=bi (cH bl b t) c
 to:(bi l t).to=[]
 bg:(bi l t).bg=[]
 list:(bi l t).list=(bi bl t).list
 on:(bi l t).on=lB
section
variable {bl l:List aq} {b t R:Nat} (hj:fh bl b t) (h:vL bl b t l)
include hj h
theorem vL.dY(c:Nat):dY l c=dY (cH bl b t) c:=by
 by_cases hc:c<bl.length
 ·rw[kT (by rw[h.len];exact hc)]
  by_cases e:c=t
  ·subst e
   rw[h.to,nI hj];unfold F3;rw[al rfl]
  ·rw[h.rest c hc e,kT (by rw[dj];exact hc)]
 ·rw[pi (by rw[h.len];exact hc),pi (by rw[dj];exact hc)]
theorem vL.be(c:Nat):be l c=be (cH bl b t) c:=wu (by rw[h.len,dj]) (λi=>h.dY hj i) c
theorem vL.kept(ho:∀c∈o,c<bl.length/\c≠t):cG l o=cG (cH bl b t) o:=by
 unfold cG;refine ew λc hc=>?_;obtain⟨h1,h2⟩:=ho c hc;rw[h.rest c h1 h2];unfold iP ft gi;simp only[h.be hj]
theorem vL.jn:cG l (rl bl.length t)=jnL bl b t:=h.kept hj λc hc=>uP.1 hc
theorem vL.kok(hg:dK bl):F8 l (rl bl.length t):=by
 refine⟨List.nodup_range.sublist nu,λc hc=>by rw[h.len];exact(uP.1 hc).1,λc hc x hx=>?_⟩;rw[h.dY hj,nI hj]at hx;unfold F3 at hx;have fZ:=(uP.1 hc).2;rw[ai fZ]at hx
 by_cases e:c=b
 ·rw[al e]at hx
  have h1:=mz hg hx;refine uP.2 ⟨A,λe2=>Ow hj ?_⟩;rw[show(t:Int)=x by omega];exact hx
 ·rw[ai e]at hx
  have h1:=mz hg hx;refine uP.2 ⟨A,λe2=>e (wl hj ?_)⟩;rw[show(t:Int)=x by omega];exact hx
theorem vL.abj(hf:eW R bl):eW R l:=by
 have hJ:=C9 hf hj;have pZ:∀{c C},l[c]?=O C->c<bl.length/\bi l c=C:=λ{c C} hc=>⟨by rw[<-h.len];exact(aJ.1 hc).1,gG hc⟩;refine⟨λC hC=>?_,λc C hc=>?_⟩
 ·obtain⟨c,hc⟩:=bR hC
  obtain⟨h1,h2⟩:=pZ hc
  by_cases e:c=t
  ·subst e
   rw[<-h2,h.to];simp
  ·rw[<-h2,h.rest c h1 e,h.len,<-dj bl b t]
   exact hJ.iD _ (aA (ck (by rw[dj];exact h1)))
 ·obtain⟨h1,h2⟩:=pZ hc
  have hB:=hJ.block c _ (ck (bl:=cH bl b t) (by rw[dj];exact h1))
  by_cases e:c=t
  ·subst e
   have hT:=hf.block c _ (ck h1);rw[<-h2];refine⟨λp hp=>?_,λx hx=>hT.list x (by rw[<-h.list];exact hx),?_,by rw[h.to];exact List.nodup_nil⟩
   ·rw[h.bg]at hp
    cases hp
   ·rw[h.on]
    unfold kW lB;simp
  ·rw[<-h2,h.rest c h1 e]
   refine⟨λp hp=>?_,hB.list,hB.on,hB.to⟩;rw[h.be hj];exact hB.bg p hp
end
theorem Re(hj:fh bl b t)(hl:l.length=bl.length)(hr:∀c,c<bl.length->c≠t->c≠b->bi l c=HO bl b t c (bi bl c))
  (hb:bi l b=⟨(bi bl b).bg.map (yW bl b t b),(bi bl b).list++(bi bl t).list,(bi bl t).kind,(bi bl t).on,(bi bl t).to⟩) (ht:bi l t=⟨(bi bl t).bg.map (yW bl b t t),(bi bl t).list,1,lB,[]⟩):vL bl b t l:=by
 refine⟨hl,λc hc e=>?_,by rw[ht],by rw[ht,hj.none];rfl,by rw[ht],by rw[ht]⟩;rw[ou hc];unfold pG;rw[ai e]
 by_cases e2:c=b
 ·rw[al e2,e2,hb]
 ·rw[ai e2,hr c hc e e2]
  rfl
end
section
section
variable {P:Program} {N:Nat} {ds:List Deferred} {S:Nat->Prop} {w0:ae} {L L':List (Nat×K)} {H H' Hr:List cq} {Q:Exit->Act->ae->Prop} {x y:Operand} {dw:Act->ae->Prop} {l:List Oper} {di:Nat} {listed:Array Bool}
theorem Ui{val:α->K}{cZ:α->List cq}{φ:α->Prop}(i:Nat){want:Bool}{pos:String}{aft:Array Go.Edge}[ho:eJ l i ⟨O d,.call {callee:=.value (.func f),args:=args.toArray,argTypes:=tJ},ty,pos,aft,O (j,want)⟩][hj:tU l.toArray j t][hb:jQ L t (ag want)][h:bf P f][hx:B8 L args vs](hd:ev d N L=true)
  (hr:decide (eZ .any l.toArray listed=[i])=true) (hH:Hr.Sublist H)
  (hc:∀w,Wd S w0 H w->iL P f vs w λu w'=>∃x,u=val x/\Wd db w (cZ x) w'/\φ x)
  (k:∀x,φ x->cU N ds S w0 ((d,val x)::L) (cZ x++H) (wpAnyH P .any l.toArray (et dw) (Wd S w0 Hr) di (listed.setIfInBounds i true))):cU N ds S w0 L H (wpAnyH P .any l.toArray (et dw) (Wd S w0 Hr) (di+1) listed):=by
 intro a w hS;refine wpAnyH_all (iG hr) cK λi' zt=>?_;simp only[bQ]at zt;subst zt;unfold wpOp;rw[show l.toArray[i']?=O ⟨O d,.call {callee:=.value (.func f),args:=args.toArray,argTypes:=tJ},ty,pos,aft,O (j,want)⟩ by simpa using ho.at'];simp only;rw[al (show fq (⟨O d,.call {callee:=.value (.func f),args:=args.toArray,argTypes:=tJ},ty,pos,aft,O (j,want)⟩:Oper) (yielded l.toArray a.tmps)=true by
  simp only[fq,hS.fr.yield (ops:=l.toArray) (j:=j) (b:=want)];simp)]
 left
 unfold Oper.wp;have zV:(execOp a.eval ⟨O d,.call {callee:=.value (.func f),args:=args.toArray,argTypes:=tJ},ty,pos,aft,O (j,want)⟩).run P w=.ok (.enter f vs.toArray) w:=by
  simp[execOp,resolve,Act.eval,Deferred.ofValue,invoke,hx.eq _ _ _ hS.fr,h.run]
 rw[zV];refine Calls.mono (callsIn_wide.1 (hc w hS.wd)) λe w' ⟨v,he,q,hv,h2,h3⟩=>?_;subst he hv;have lP:Wd S w0 (cZ q++H) w':=hS.wd.more h2;exact⟨lP.sub (hH.trans (eF _ _)),k q h3 _ w' ⟨hS.fr.fv hd _,lP⟩⟩
end
def xG(bl:List aq):Nat->Int
 |0=>-1
 |n+1=>if (kx bl n).isSome=true then(n:Int)else xG bl n
theorem TI(nm pa re:K)(bl:List aq)(va:ax)(vn vc:Nat)(hlen:bl.length<=100)(hg:dK bl)(hk:rE bl)(w0:ae)(gV:aY w0 (I va vn vc) 6 bl da):
  gF Y 43 [aC #[nm,pa,re,I va vn vc]] w0 (J Z (xG bl bl.length)):=by
 classical
 obtain⟨ET,_⟩:=gV.at;refine aR func43 rfl ntmps43 rfl (Wd.nil db w0) ?_
 repeat(first|refine aV ?_|refine dd λ_ _=>?_)
 rename_i p1 _;refine bH (λ(n:Nat)=>n<=vn/\xG bl bl.length=xG bl n) (λn=>[(3,J Z ((n:Int)-1)),M 1 p1]) (λ_=>[cS p1 nm pa re va vn vc]) (λn=>n) vn ⟨cz _,by rw[ET]⟩ (aP V aF) λn ⟨hn,US⟩=>?_;refine bA ?_;apply aL<;>intro h1
 ·have hn0:0<n:=by have:=iG h1;omega
  obtain⟨b,rfl⟩:∃b,n=b+1:=⟨n-1,A⟩;rw[show((b+1:Nat):Int)-1=(b:Int) by omega];have ce:b<bl.length:=A;obtain⟨B,hB⟩:=bE bl b ce;obtain⟨b1,o1,Ge,zw,tN⟩:=fd (S:=db) gV (λ_=>inferInstance) (λ_ _ h=>by obtain⟨_,_,_,e,_⟩:=h;exact⟨_,_,e⟩) (aZ hB);obtain⟨_,IC,pv,lv,tv,rfl,_,_,wP,kK,ht⟩:=tN b B hB;have KJ:cg b vn:=⟨A⟩;obtain⟨ta,tn,tc,_,_,rfl,_⟩:=id ht
  repeat(first|refine aV ?_|refine dd λ_ _=>?_)
  rename_i p4 _;refine dI [aM p4 [J Z B.kind,ag B.on.dq,J Z B.on.n,I ta tn tc] 44,cS p1 nm pa re va vn vc] (λ_:Unit=>True) (λ_=>[(52,ag (kx bl b).isSome),(3,J Z b),M 1 p1]) (λ_=>[cS p1 nm pa re va vn vc]) mixed aF ?_ λ_ _=>?_
  ·refine W 0 ?_;refine W 1 ?_;refine W 2 ?_;refine W 3 ?_
   by_cases yB:B.kind=2
   ·have yQ:(bi bl b).kind=2:=by rw[gG hB];exact yB
    obtain⟨_,lG,EQ⟩:=DV hk hg yQ;obtain⟨t,htD⟩:∃t,t=nR bl b:=⟨_,rfl⟩;rw[<-htD]at lG EQ;rw[gG hB]at lG;rw[show decide (B.kind=2)=true by simp[yB]];have Vf:(t:Int)∈dY bl b:=by rw[fI hB,lG];simp
    obtain⟨qZ,_⟩:=ht.at;rw[lG]at qZ;simp only[lF,pE,eC]at qZ;subst qZ;obtain⟨b2,o2,uu,td,r_⟩:=fd (S:=db) ht (λ_=>inferInstance) (λ_ _ h=>⟨_,_,h.1⟩) (by rw[lG];simp);obtain⟨_,uv,rfl,_⟩:=r_ 0 (t:Int) (by rw[lG];rfl);have aeM:cg 0 1:=⟨A⟩;obtain⟨C,hC⟩:=bE bl t EQ;obtain⟨_,KB,pv2,lv2,tv2,rfl,_,_,ah2,_,_⟩:=tN t C hC;have aj9:cg t vn:=⟨A⟩;obtain⟨pa2,pn2,pc2,_,_,rfl,ah5,_⟩:=id ah2;have abM:kx bl b=if t≠b/\C.bg=[]/\(be bl t).length<=1 then O t else U:=by
     unfold kx;rw[<-htD,gG hC]
     by_cases h:t≠b/\C.bg=[]/\(be bl t).length<=1
     ·rw[al h,al ⟨yQ,h⟩]
     ·rw[ai h,ai λh'=>h h'.2]
    refine az 4 ?_;refine az 5 ?_;refine az 6 ?_;refine az 7 ?_;refine az 8 ?_;refine az 9 ?_;refine W 10 ?_;refine W 11 ?_
    by_cases fZ:t=b
    ·rw[show(!decide ((t:Int)=(b:Int)))=false by simp[fZ]]
     rw[abM,ai λh=>h.1 fZ];refine ap 12 ?_;refine ap 13 ?_;refine ap 14 ?_;refine ap 15 ?_;refine ap 16 ?_;refine ap 17 ?_;refine ap 18 ?_;refine ap 19 ?_;refine ap 20 ?_;refine ap 21 ?_;refine ap 22 ?_;refine W 23 ?_;refine W 24 ?_;refine ap 25 ?_;refine ap 26 ?_;refine ap 27 ?_;refine ap 28 ?_;refine ap 29 ?_;refine ap 30 ?_;refine ap 31 ?_;refine ap 32 ?_;refine W 33 ?_;refine ef E ?_;exact dy () trivial V aB
    ·rw[show(!decide ((t:Int)=(b:Int)))=true by simp;omega]
     refine az 12 ?_;refine az 13 ?_;refine az 14 ?_;refine az 15 ?_;refine az 16 ?_;refine az 17 ?_;refine az 18 ?_;refine az 19 ?_;refine az 20 ?_;refine az 21 ?_;refine az 22 ?_;refine W 23 ?_;refine W 24 ?_
     by_cases Y1:C.bg=[]
     ·rw[show decide ((pn2:Int)=0)=true by rw[ah5,Y1];rfl]
      have hpb:=qN ce Vf;have yT:=List.length_pos_of_mem hpb;have akC:(be bl t).length<=100:=by
       unfold be;exact dS (fC _ _) (by rw[d_];exact hlen)
      refine az 25 ?_;refine az 26 ?_;refine az 27 ?_;refine az 28 ?_;refine az 29 ?_;refine Ui 30 (val:=λx:ax×Nat=>.slice x.1 (be bl t).length x.2) (cZ:=λx=>[G x.1 (be bl t).length x.2 3 1 ((be bl t).map dz)]) (φ:=λ_=>True) rfl E aF (λw hw=>tC nm pa re bl (I va vn vc) t w (gV.cB cu hw.c_) hlen) λx _=>?_;obtain⟨ea,ec⟩:=x;simp only[bF,aS];refine az 31 ?_;refine az 32 ?_;refine W 33 ?_;rw[abM];refine ef E ?_
      by_cases hp1:(be bl t).length<=1
      ·rw[al ⟨fZ,Y1,hp1⟩]
       rw[show decide (((be bl t).length:Int)=1)=true by simp;omega];exact dy () trivial V aB
      ·rw[ai λh=>hp1 h.2.2]
       rw[show decide (((be bl t).length:Int)=1)=false by simp;omega];exact dy () trivial V aB
     ·have akF:C.bg.length≠0:=λh=>Y1 (List.length_eq_zero_iff.1 h)
      rw[show decide ((pn2:Int)=0)=false by simp;omega];rw[abM,ai λh=>Y1 h.2.1];refine ap 25 ?_;refine ap 26 ?_;refine ap 27 ?_;refine ap 28 ?_;refine ap 29 ?_;refine ap 30 ?_;refine ap 31 ?_;refine ap 32 ?_;refine W 33 ?_;refine ef E ?_;exact dy () trivial V aB
   ·rw[show decide (B.kind=2)=false by simp[yB]]
    have QR:kx bl b=U:=by
     unfold kx;rw[ai λh=>yB (by rw[<-gG hB];exact h.1)]
    rw[QR];refine ap 4 ?_;refine ap 5 ?_;refine ap 6 ?_;refine ap 7 ?_;refine ap 8 ?_;refine ap 9 ?_;refine W 10 ?_;refine W 11 ?_;refine ap 12 ?_;refine ap 13 ?_;refine ap 14 ?_;refine ap 15 ?_;refine ap 16 ?_;refine ap 17 ?_;refine ap 18 ?_;refine ap 19 ?_;refine ap 20 ?_;refine ap 21 ?_;refine ap 22 ?_;refine W 23 ?_;refine W 24 ?_;refine ap 25 ?_;refine ap 26 ?_;refine ap 27 ?_;refine ap 28 ?_;refine ap 29 ?_;refine ap 30 ?_;refine ap 31 ?_;refine ap 32 ?_;refine W 33 ?_;refine ef E ?_;exact dy () trivial V aB
  cases QQ:kx bl b with
  |none=>
   rw[show(U:Option Nat).isSome=false from rfl];refine aV ?_;refine a_ b ⟨A,by rw[US,show xG bl (b+1)=if (kx bl b).isSome=true then(b:Int)else xG bl b from rfl,QQ];rfl⟩ A V aF
  |some t=>
   rw[show(O t:Option Nat).isSome=true from rfl];refine aV ?_;refine cv rfl ?_;rw[US,show xG bl (b+1)=if (kx bl b).isSome=true then(b:Int)else xG bl b from rfl,QQ]
   rfl
 ·have hn0:n=0:=by have:=cE h1;omega
  subst hn0;refine aV ?_;exact cv rfl (by rw[US];rfl)
theorem Cg{g:α->List K}(hg:∀x,(g x).length=s){l:List α}{x y:α}(hi:l[i]?=O x)(hk:k+vs.length=s)(hy:(g x).take k++vs=g y):(l.flatMap g).take (i*s+k)++vs++(l.flatMap g).drop (i*s+k+vs.length)=(l.set i y).flatMap g:=by
 have iM:=(aJ.1 hi).1;rw[<-iZ hg iM y,<-hy];have e1:i*s+k+vs.length=i*s+s:=A;rw[e1];congr 1;rw[List.take_add,<-fu];congr 2;have e2:=(oj hg l i).2;rw[e2,jb iM,fj,mg (by rw[hg];omega),(aJ.1 hi).2]
theorem Wx(f:α->β){l:List α}{B T:α}(hb:l[b]?=O B)(ht:l[t]?=O T)(fZ:b≠t):∃R:List β,(l.map f).Perm (f B::f T::R)/\∀c x,l[c]?=O x->c≠b->c≠t->f x∈R:=by
 have jX:=(aJ.1 hb).1;have EQ:=(aJ.1 ht).1;obtain⟨h,hh⟩:∃h:Nat->β,h=λc=>f (l[c]?.getD B):=⟨_,rfl⟩;have h1:l.map f=(bj l.length).map h:=by
  apply cY;intro j;rw[aW,aW]
  by_cases hj:j<l.length
  ·rw[gq hj,bL hj,hh]
   simp[bL hj]
  ·rw[cm A,cm (by rw[d_];omega)];rfl
 have h2:(bj l.length).Perm (b::t::(bj l.length).filter λc=>decide (c≠b/\c≠t)):=by
  refine(wZ tX ?_).2 λx=>?_
  ·rw[rV,rV]
   refine⟨?_,?_,List.nodup_range.sublist nu⟩
   ·rw[bX,cR]
    simp[fZ]
   ·rw[cR]
    simp
  ·rw[bX,bX,cR,cW,dv]
   constructor
   ·intro hx
    by_cases e1:x=b
    ·exact .inl e1
    ·by_cases e2:x=t
     ·exact .inr (.inl e2)
     ·exact .inr (.inr ⟨hx,e1,e2⟩)
   ·rintro(rfl|rfl|⟨hx,_⟩)
    ·exact jX
    ·exact EQ
    ·exact hx
 refine⟨((bj l.length).filter λc=>decide (c≠b/\c≠t)).map h,?_,λc x hx e1 e2=>?_⟩
 ·have e3:h b=f B:=by rw[hh];simp only[hb,gw]
  have e4:h t=f T:=by rw[hh];simp only[ht,gw]
  rw[h1,<-e3,<-e4];exact h2.map h
 ·refine aT.2 ⟨c,cR.2 ⟨cW.2 (aJ.1 hx).1,by simp[e1,e2]⟩,?_⟩
  rw[hh];simp only[hx,gw]
theorem M8{g:α->List K}(hg:∀x,(g x).length=s){H:List cq}{o:Nat}{l:List α}{y:α}(hk:H[k]?=O (G (O ⟨b,o,U⟩) n c e s (l.flatMap g)))(hy:l[i]?=O y)(f:Nat)(hvs:∀j v,vs[j]?=O v->(g y)[f+j]?=O v):gm H b (o+i*s+f) vs:=⟨λ_ _ w hw j v hj=>by
 have h5:=hw.dp hk (e_ hg l i y (f+j) v hy (hvs j v hj));have e:o+i*s+f+j=o+(i*s+(f+j)):=A;rw[e];exact h5⟩
theorem Rh(nm:ByteArray)(pa re:Int)(bl:List aq)(bs0:K)(R:Nat)(hf:eW R bl)(hlen:bl.length<=100)(oY:∀c d,(bi bl c).list.length+(bi bl d).list.length<=1000\/c=d)(b t:Nat)(hj:fh bl b t)(w0:ae)(gV:aY w0 bs0 6 bl da)(oF:∀b:aK,b.dD∈bl->b.Bd):
  iL Y 44 [aC #[aQ nm,J Z pa,J Z re,bs0],J Z b] w0 λu w'=>∃x:ax×Nat×List aK,u=aC #[aQ nm,J Z pa,J Z re,I x.1 x.2.2.length x.2.1]/\Wd db w0 (eM x.1 x.2.1 x.2.2) w'/\(x.2.2.map aK.dD=jnL bl b t/\∀r∈x.2.2,r.Bd):=by
 classical
 have hg:=hf.iD;have AZ:=hj.blt;have akM:=hj.Di;have Ut:=gV;obtain⟨ba,bc,q,rfl,xB,Hb,Dy⟩:=xe gV;have vh:q.length=bl.length:=by rw[<-xB,aG]
 obtain⟨n,hn⟩:∃n,n=q.length:=⟨_,rfl⟩;rw[<-hn]at vh Ut|-
 obtain⟨_,_,_,cb,co,Sz,abP⟩:=Hb.at;have iy:∀(i:Nat) (r:aK),q[i]?=O r->ct w0 cb (co+i*6) (eA r):=λi r hr=>by
  obtain⟨_,h1,h2⟩:=abP i r hr;rwa[h2]at h1
 have QL:cl ba cb co:=⟨Sz (λe=>by rw[e]at hn;simp at hn;omega)⟩;have hqB:∀(i:Nat) (r:aK),q[i]?=O r->bl[i]?=O r.dD:=λi r hr=>by rw[<-xB,aW,hr];rfl
 obtain⟨qb,hqb⟩:=bE q b A;have ah8:=hqB b qb hqb;have acA:qb.to=[(t:Int)]:=by
  have:=hj.to;rw[gG ah8]at this;exact this
 have aia:qb.to.length=1:=by rw[acA];rfl
 have acO:=(Dy qb (aA hqb)).to;have abO:=iy b qb hqb;simp only[eA]at abO;rw[aia]at acO abO;have abT:bu w0 cb (co+b*6) _:=⟨abO⟩;obtain⟨tb2,to2,uu,td,r_⟩:=fd (S:=db) acO (λ_=>inferInstance) (λ_ _ h=>⟨_,_,h.1⟩) (by rw[acA];simp);obtain⟨_,uv,rfl,_⟩:=r_ 0 (t:Int) (by rw[acA];rfl);have aeM:cg 0 1:=⟨A⟩;have aca:cg b n:=⟨A⟩;refine aR func44 rfl ntmps44 rfl (Wd.nil db w0) ?_
 repeat(first|refine bA ?_|refine dd λ_ _=>?_)
 rename_i p2 _ p4 _;refine cN (val:=λx:ax×Nat×List aK=>.agg #[aQ nm,J Z pa,J Z re,I x.1 x.2.2.length x.2.1]) (cZ:=λx=>eM x.1 x.2.1 x.2.2) (φ:=λx=>x.2.2.map aK.dD=bl/\∀b∈x.2.2,b.Bd) rfl (λw hw=>AP nm pa re bl _ w (Ut.cB cu hw.c_) A λb hb _=>oF b hb) λx hx=>?_;obtain⟨a,c,bs⟩:=x;obtain⟨Pb,ael⟩:=hx;simp only at Pb ael;have qf:bs.length=n:=by rw[vh,<-Pb,aG]
 refine bG (fG (l₂:=[aj p4,D p2 nm pa re ba n bc])) ?_;simp only[bF,aS];unfold eM;rw[qf];refine fy 2 rfl A λvb vo qt=>?_;subst qt
 repeat(first|refine aV ?_|refine dd λ_ _=>?_)
 rename_i p6 _;refine bH (λx:Nat×List aK=>x.1<=n/\x.2.length=n/\x.2.map aK.dD=uz bl b t x.1/\∀r∈x.2,r.Bd) (λx=>[(7,J Z x.1),M 6 p6,(5,J Z t),M 4 p4,M 2 p2,(1,J Z b)]) (λx=>D p6 nm pa re (O ⟨vb,vo,U⟩) n c::aj p4::D p2 nm pa re ba n bc::am (O ⟨vb,vo,U⟩) n c x.2::x.2.map bP) (λx=>n-x.1) (0,bs) ⟨aN _,qf,by simp only;rw[Mf,Pb],ael⟩ (aP V aF) λx ⟨hi,vK,p_,uG⟩=>?_;obtain⟨i,ys⟩:=x;simp only at hi vK p_ uG|-
 refine bA ?_;apply aL<;>intro h1
 ·have uB:i<n:=aD h1
  obtain⟨T,hT⟩:=bE ys i A;obtain⟨Q,hQ⟩:=bE q i A;have hQB:=hqB i Q hQ;have Nj:T.dD=Q.dD:=by
   have h2:(uz bl b t i)[i]?=O T.dD:=by rw[<-p_,aW,hT];rfl
   rw[qP hQB,ai A]at h2;exact(bJ h2).symm
  have AV:=hf.block i _ hQB;have rK:=uG T (aA hT);have ad7:T.ps.map ch.iN=Q.ps.map ch.iN:=bD aq.bg Nj;have ajo:T.ps.length=Q.ps.length:=by simpa using bD List.length ad7
  have hcQ:=iy i Q hQ;simp only[eA]at hcQ;have ajJ:bu w0 cb (co+i*6) _:=⟨hcQ⟩;have KK:cg i n:=⟨uB⟩;have hAQ:=Dy Q (aA hQ);refine lr (H':=[D p6 nm pa re (O ⟨vb,vo,U⟩) n c,aj p4,D p2 nm pa re ba n bc]++(am (O ⟨vb,vo,U⟩) n c ys::aw T.pa T.ps.length T.pc T.ps::qJ T::lQ T::(T.ps.map dZ++(T.xs.map gC++(ys.eraseIdx i).map bP)))) (λw hw=>by
   have h9:=xX hT (X:=[D p6 nm pa re (O ⟨vb,vo,U⟩) n c,aj p4,D p2 nm pa re ba n bc]) (a:=O ⟨vb,vo,U⟩) (c:=c) (by unfold eM;rw[vK];exact hw);rw[vK]at h9;exact h9) ?_
  simp only[bF,aS];refine aU ?_;refine bH (λes:List ch=>es.length<=T.ps.length/\es.map ch.iN=(T.ps.take es.length).map (λq=>yW bl b t i q.iN)/\∀q∈es,dE q.dst/\q.l.length<=1000/\∀v∈q.l,dE v.n) (λes=>[(8,J Z es.length),(7,J Z i),M 6 p6,(5,J Z t),M 4 p4,M 2 p2,(1,J Z b)]) (λes=>D p6 nm pa re (O ⟨vb,vo,U⟩) n c::aj p4::D p2 nm pa re ba n bc::am (O ⟨vb,vo,U⟩) n c ys::aw T.pa T.ps.length T.pc (es++T.ps.drop es.length)::qJ T::lQ T::((es++T.ps.drop es.length).map dZ++(T.xs.map gC++(ys.eraseIdx i).map bP))) (λes=>T.ps.length-es.length) [] ⟨aN _,rfl,by simp⟩ (aP V aF) λes ⟨hei,vZ,zR⟩=>?_;have lT:∀(q:Nat) v,(eA T)[q]?=O v->(ys.flatMap eA)[i*6+q]?=O v:=λq v hv=>e_ de ys i T q v hT hv;have hoc:∀(X1 X2 X3:cq) (cP:List cq),gB (X1::X2::X3::am (O ⟨vb,vo,U⟩) n c ys::cP) vb (vo+i*6) (I T.pa T.ps.length T.pc):=λ_ _ _ _=>⟨λ_ _ _ hw=>hw.dp (k:=3) rfl (lT 0 _ rfl)⟩;refine bA ?_;apply aL<;>intro h3
  ·have ach:es.length<T.ps.length:=aD h3
   generalize Nv:es.length=j at*;obtain⟨p,hp⟩:=bE T.ps j ach;obtain⟨p0,Ms⟩:=bE Q.ps j A;have ah6:p.iN=p0.iN:=by
    have h2:(T.ps.map ch.iN)[j]?=O p.iN:=by rw[aW,hp];rfl
    rw[ad7,aW,Ms]at h2;exact(bJ h2).symm
   have ae8:p0.l=p.l:=bD gD.src ah6.symm;have zS:=aA hp;have hpd:=rK.iN p zS;have zT:=rK.bg;have NB:p.iN∈(bi bl i).bg:=by
    rw[gG hQB,<-Nj];exact aT.2 ⟨p,zS,rfl⟩
   have hit:i≠t:=λe=>by
    rw[e,hj.none]at NB;cases NB
   have yT:p.l.length=(be bl i).length:=by
    rw[gG hQB]at NB;exact(AV.bg _ NB).len
   have ad4:(be bl i).length<=100:=dS (fC _ _) (by rw[d_];omega);have jT:(es++T.ps.drop j)[j]?=O p:=by rw[dH A,Nv,cV,gp,dR];exact hp
   have Dx:(es++T.ps.drop j).length=T.ps.length:=by rw[bW,eS];omega
   obtain⟨PU,afe⟩:∃PU,PU=es++T.ps.drop j:=⟨_,rfl⟩;rw[<-afe]at jT Dx|-
   refine fy 4 rfl A λpb po acy=>?_;rw[acy]at hoc|-
   have Dt:cg j T.ps.length:=⟨ach⟩;have aka:cg j Q.ps.length:=⟨A⟩;obtain⟨b3,o3,Ul,C6,ID⟩:=fd (S:=db) hAQ.bg (λ_=>inferInstance) (λ_ _ h=>⟨_,_,h⟩) (aZ Ms);obtain⟨_,KB,rfl⟩:=ID j p0 Ms;simp only[iz]at KB;rw[ae8]at KB;have aaN:=(hAQ.iN p0 (aA Ms)).2;rw[ae8]at aaN;refine aU ?_;refine dI [D p2 nm pa re ba n bc] (λ_:ax×Nat=>True) (λx=>[(9,I x.1 (be bl i).length x.2),(8,J Z j),(7,J Z i),M 6 p6,(5,J Z t),M 4 p4,M 2 p2,(1,J Z b)]) (λx=>G x.1 (be bl i).length x.2 113 3 ((ky bl i p.l).flatMap DM)::D p6 nm pa re (O ⟨vb,vo,U⟩) n c::aj p4::D p2 nm pa re ba n bc::am (O ⟨vb,vo,U⟩) n c ys::aw (O ⟨pb,po,U⟩) T.ps.length T.pc PU::qJ T::lQ T::(PU.map dZ++(T.xs.map gC++(ys.eraseIdx i).map bP))) mixed aB ?_ λx _=>?_
   ·refine W 0 ?_;refine W 1 ?_;refine W 2 ?_;refine W 3 ?_;refine W 4 ?_;refine W 5 ?_;refine W 6 ?_;refine W 7 ?_;refine W 8 ?_;refine W 9 ?_;refine W 10 ?_;refine lY 11 (val:=λx:ax×Nat=>.slice x.1 (be bl i).length x.2) (cZ:=λx=>[G x.1 (be bl i).length x.2 113 3 ((ky bl i p.l).flatMap DM)]) (φ:=λ_=>True) rfl E aB (λw hw=>Fo (aQ nm) (J Z pa) (J Z re) bl (I ba n bc) ⟨_,_,_,rfl⟩ i p0.dst p0.a p.l.length p0.c p.l w (Ut.cB cu hw.c_) hlen (aaN.cB jH hw.c_) yT) λx _=>?_;simp only[bF,aS];refine W 12 ?_;refine ef E ?_;exact dy x trivial V aF
   obtain⟨ea,ec⟩:=x;simp only;obtain⟨pn,As⟩:∃pn,pn=(be bl i).length:=⟨_,rfl⟩;obtain⟨el,iw⟩:∃el,el=ky bl i p.l:=⟨_,rfl⟩;have aaU:el.length=pn:=by rw[iw];unfold ky;rw[List.length_zip,aG];omega
   rw[<-As,<-iw];rw[<-As]at yT ad4;refine aU ?_;refine bH (λm:Nat=>m<=pn) (λm=>[(10,J Z m),(9,I ea pn ec),(8,J Z j),(7,J Z i),M 6 p6,(5,J Z t),M 4 p4,M 2 p2,(1,J Z b)]) (λm=>G ea pn ec 113 3 (((el.take m).map (nT t b)++el.drop m).flatMap DM)::D p6 nm pa re (O ⟨vb,vo,U⟩) n c::aj p4::D p2 nm pa re ba n bc::am (O ⟨vb,vo,U⟩) n c ys::aw (O ⟨pb,po,U⟩) T.ps.length T.pc PU::qJ T::lQ T::(PU.map dZ++(T.xs.map gC++(ys.eraseIdx i).map bP))) (λm=>pn-m) 0 (aN _) (aP V aF) λm hm=>?_;refine bA ?_;apply aL<;>intro h4
   ·have acg:m<pn:=aD h4
    obtain⟨e,he⟩:=bE el m A;have aaB:(el.take m).length=m:=by rw[dA];omega
    have UG:((el.take m).map (nT t b)++el.drop m)[m]?=O e:=by
     rw[dH (by rw[aG];omega),aG,aaB,cV,gp,dR];exact he
    have YX:((el.take m).map (nT t b)++el.drop m).set m (nT t b e)=(el.take (m+1)).map (nT t b)++el.drop (m+1):=by
     rw[kS (by rw[aG];exact aaB) A,bV,he,bz]
     rfl
    refine fy 0 rfl A λeb eo YM=>?_;subst YM;have ahx:cg m pn:=⟨acg⟩;have hoe:∀(cP:List cq),gB (G (O ⟨eb,eo,U⟩) pn ec 113 3 (((el.take m).map (nT t b)++el.drop m).flatMap DM)::cP) eb (eo+m*3) (J Z e.1):=λcP=>⟨λ_ _ _ hw=>hw.dp (k:=0) rfl (e_ vR _ m e 0 _ UG rfl)⟩;refine aU ?_
    by_cases hb5:e.1=(t:Int)
    ·rw[show decide (e.1=(t:Int))=true by simp[hb5]]
     have hre:nT t b e=((b:Int),e.2):=by unfold nT;rw[al hb5]
     have Q0:∀(cP:List cq),mf (G (O ⟨eb,eo,U⟩) pn ec 113 3 (((el.take m).map (nT t b)++el.drop m).flatMap DM)::cP) eb (eo+m*3) 0 eo (m*3+0) pn ec 113 3 (((el.take m).map (nT t b)++el.drop m).flatMap DM):=λ_=>⟨rfl,A⟩;have Ze:lS (((el.take m).map (nT t b)++el.drop m).flatMap DM) (m*3+0) (J Z b) (((el.take (m+1)).map (nT t b)++el.drop (m+1)).flatMap DM):=⟨by
      rw[fL vR UG (k:=0) (y:=nT t b e) (by decide) (by rw[hre];rfl),YX],by rw[cA vR,bW,aG,eS];omega⟩
     refine aV ?_;exact a_ (m+1) acg A V aF
    ·rw[show decide (e.1=(t:Int))=false by simp[hb5]]
     have hre:nT t b e=e:=by unfold nT;rw[ai hb5]
     have afs:(el.take (m+1)).map (nT t b)++el.drop (m+1)=(el.take m).map (nT t b)++el.drop m:=by
      rw[<-YX,hre];exact m_ UG
     rw[<-afs];refine aU ?_;exact a_ (m+1) acg A V aF
   ·obtain rfl:pn=m:=by have:=h4;simp at this;omega
    have cX:(el.take pn).map (nT t b)++el.drop pn=el.map (nT t b):=by
     rw[jR A,List.drop_eq_nil_of_le A,cj]
    rw[cX];obtain⟨R8,hrw⟩:∃R8,R8=rA (el.map (nT t b)) n:=⟨_,rfl⟩;have aim:=BI (el.map (nT t b)) n;rw[<-hrw]at aim;have U8:R8=(yW bl b t i p.iN).src:=by
     rw[hrw,iw,vh];exact R7 hj hit p.iN (by rw[<-As];exact yT)
    have ain:∀v∈R8,dE v.n:=λv hv=>by
     rw[U8]at hv;exact hpd.2.2 v (DZ hf hj hit A NB hv)
    obtain⟨nq,Po⟩:∃nq:ax×Nat->ch,nq=λy=>⟨p.dst,y.1,y.2,R8⟩:=⟨_,rfl⟩;have aky:∀(X0 X1 X2 X3 X4 X5:cq) (cP:List cq),mf (X0::X1::X2::X3::X4::X5::aw (O ⟨pb,po,U⟩) T.ps.length T.pc PU::cP) pb (po+j*2+1) 6 po (j*2+1) T.ps.length T.pc 49 2 (PU.flatMap iz):=λ_ _ _ _ _ _ _=>⟨rfl,A⟩;have hxq:∀na nc,lS (PU.flatMap iz) (j*2+1) (I na R8.length nc) ((PU.set j (nq (na,nc))).flatMap iz):=λna nc=>⟨fL eP jT (by decide) (by rw[Po];rfl),by rw[cA eP];omega⟩;have akr:∀(X1 X2:cq) (cP:List cq),gB (X1::X2::am (O ⟨vb,vo,U⟩) n c ys::cP) vb (vo+i*6) (I (O ⟨pb,po,U⟩) T.ps.length T.pc):=λ_ _ _=>⟨λ_ _ _ hw=>by have:=hw.dp (k:=2) rfl (lT 0 _ rfl);rw[acy]at this;exact this⟩;refine aV ?_;refine dI [D p6 nm pa re (O ⟨vb,vo,U⟩) n c,D p2 nm pa re ba n bc,am (O ⟨vb,vo,U⟩) n c ys] (λ_:ax×Nat=>True) (λ_=>[(8,J Z j),(7,J Z i),M 6 p6,(5,J Z t),M 4 p4,M 2 p2,(1,J Z b)]) (λy=>ar y.1 R8.length y.2 R8::G ea pn ec 113 3 ((el.map (nT t b)).flatMap DM)::D p6 nm pa re (O ⟨vb,vo,U⟩) n c::aj p4::D p2 nm pa re ba n bc::am (O ⟨vb,vo,U⟩) n c ys::aw (O ⟨pb,po,U⟩) T.ps.length T.pc (PU.set j (nq y))::qJ T::lQ T::(PU.map dZ++(T.xs.map gC++(ys.eraseIdx i).map bP))) mixed aB ?_ λy _=>?_
    ·refine W 0 ?_;refine W 1 ?_;refine W 2 ?_;refine W 3 ?_;refine W 4 ?_;refine W 5 ?_;refine W 6 ?_;refine W 7 ?_;refine W 8 ?_;refine W 9 ?_;refine W 10 ?_;refine lY 11 (val:=λx:ax×Nat=>.slice x.1 R8.length x.2) (cZ:=λx=>[ar x.1 R8.length x.2 R8]) (φ:=λ_=>True) rfl E aB (λw hw=>?_) λx _=>?_
     ·rw[hrw]
      exact LH ea pn ec _ n A w (by
       have h7:=lW (k:=0) (l:=el.map (nT t b)) (a:=ea) (c:=ec) (e:=113) hw (by rw[aG,aaU];rfl) vR (by rw[aG];omega);rw[aG,aaU]at h7;exact h7)
     simp only[bF,aS];refine W 12 ?_;refine W 13 ?_;refine cD 14 E ?_;refine mW 14 aB ?_;refine ef E ?_;exact dy x trivial V aF
    obtain⟨na,nc⟩:=y;have ahc:PU.set j (nq (na,nc))=(es++[nq (na,nc)])++T.ps.drop (j+1):=by rw[afe];exact kS Nv ach
    have gk:(es++[nq (na,nc)]).length=j+1:=by rw[bW,Nv];rfl
    have ahR:dZ (nq (na,nc))=ar na R8.length nc R8:=by rw[Po];rfl
    refine lr (H':=D p6 nm pa re (O ⟨vb,vo,U⟩) n c::aj p4::D p2 nm pa re ba n bc::am (O ⟨vb,vo,U⟩) n c ys::aw (O ⟨pb,po,U⟩) T.ps.length T.pc ((es++[nq (na,nc)])++T.ps.drop (es++[nq (na,nc)]).length)::qJ T::lQ T::(((es++[nq (na,nc)])++T.ps.drop (es++[nq (na,nc)]).length).map dZ++(T.xs.map gC++(ys.eraseIdx i).map bP))) (λw hw=>?_) ?_
    ·rw[gk,<-ahc]
     refine hw.pick ⟨[dZ p,G ea pn ec 113 3 ((el.map (nT t b)).flatMap DM)],?_⟩;have h2:=ig dZ jT;have h3:=ig dZ (l:=PU.set j (nq (na,nc))) (k:=j) (x:=nq (na,nc)) (fk A);rw[nt,ahR]at h3;refine aX.2 λe=>?_;have h4:=aX.1 h2 e;have h5:=aX.1 h3 e;simp only[bU,bM,dG,D,aj,am,ar,aw]at h4 h5|-
     omega
    refine aU ?_;refine iC (L':=[(8,J Z ((es++[nq (na,nc)]).length:Nat)),(7,J Z i),M 6 p6,(5,J Z t),M 4 p4,M 2 p2,(1,J Z b)]) ?_ (.refl _) ?_
    ·rw[gk]
     exact V
    rw[<-acy];refine a_ (es++[nq (na,nc)]) ⟨by rw[gk];omega,?_,λq hq=>?_⟩ (by rw[gk];omega) V aF
    ·rw[gk,bV,hp,bz,bz,vZ]
     congr 1;rw[Po];simp only[cf,dm,jk,ch.iN,U8]
     rfl
    ·rcases bO.1 hq with hq|hq
     ·exact zR q hq
     ·rw[bQ.1 hq,Po]
      exact⟨hpd.1,by simp only;omega,ain⟩
  ·have fX:es.length=T.ps.length:=by have:=h3;simp at this;omega
   rw[fX,gY,cj];rw[fX,cL]at vZ;obtain⟨y1,DC⟩:∃y1,y1=ys.set i (jf T es):=⟨_,rfl⟩;refine lr (H':=D p6 nm pa re (O ⟨vb,vo,U⟩) n c::aj p4::D p2 nm pa re ba n bc::am (O ⟨vb,vo,U⟩) n c y1::y1.map bP) (λw hw=>?_) ?_
   ·have h9:=Qd (X:=[D p6 nm pa re (O ⟨vb,vo,U⟩) n c,aj p4,D p2 nm pa re ba n bc]) (a:=O ⟨vb,vo,U⟩) (n:=n) (c:=c) hT vK.symm fX hw
    unfold eM at h9;rw[fK,vK,<-DC]at h9;exact h9
   refine aV ?_;refine a_ (i+1,y1) ⟨uB,by simp only;rw[DC,fK];exact vK,?_,λr hr=>?_⟩ bB V aF
   ·simp only
    rw[DC,eT,p_,<-Me hQB];congr 1;rw[<-Nj];unfold jf aK.dD HO;simp only[vZ,dM]
    rfl
   ·simp only at hr
    rw[DC]at hr;rcases j_ hr with hr|rfl
    ·exact uG r hr
    ·have:=rK.bg
     exact⟨rK.kind,rK.on,by unfold jf;simp only;omega,zR,rK.list,rK.ins,rK.to⟩
 ·have uB:i=n:=by have:=cE h1;omega
  obtain rfl:n=i:=uB.symm;obtain⟨B,hB⟩:=bE ys b A;obtain⟨T,hT⟩:=bE ys t A;have NE:∀(x:Nat) (r:aK),ys[x]?=O r->r.dD=HO bl b t x (bi bl x):=λx r hr=>by
   have pw:x<bl.length:=by rw[<-vh,<-vK];exact(aJ.1 hr).1
   have h2:(uz bl b t n)[x]?=O r.dD:=by rw[<-p_,aW,hr];rfl
   rw[qP (ck pw),al A]at h2;exact(bJ h2).symm
  have Ir:=NE b B hB;have Nk:=NE t T hT;have rP:=uG B (aA hB);have rK:=uG T (aA hT);have hBl:B.xs.map (·.x)=(bi bl b).list:=bD aq.list Ir;have hTl:T.xs.map (·.x)=(bi bl t).list:=bD aq.list Nk;have hBT:B.xs.length+T.xs.length<=1000:=by
   rcases oY b t with h2|h2
   ·rw[<-hBl,<-hTl,aG,aG]at h2
    exact h2
   ·exact absurd h2.symm hj.ne
  have fZ:b≠t:=λe=>hj.ne e.symm;obtain⟨RS,hRp,hRm⟩:=Wx bP hB hT fZ;have ahJ:cg t n:=⟨A⟩;refine lr (H':=D p6 nm pa re (O ⟨vb,vo,U⟩) n c::aj p4::D p2 nm pa re ba n bc::am (O ⟨vb,vo,U⟩) n c ys::qJ B::qJ T::(BF B::lQ B::BF T::lQ T::((B.ps.map dZ++B.xs.map gC)++((T.ps.map dZ++T.xs.map gC)++RS)))) (λw hw=>?_) ?_
  ·have h2:Wd db w0 (bP B::(bP T::(D p6 nm pa re (O ⟨vb,vo,U⟩) n c::aj p4::D p2 nm pa re ba n bc::am (O ⟨vb,vo,U⟩) n c ys::RS))) w:=by
    refine hw.perm (aX.2 λe=>?_);have h4:=aX.1 hRp e;simp only[bM,D,aj,am]at h4|-
    omega
   have h3:=h2.nh;have h4:Wd db w0 (bP T::(ij B++(D p6 nm pa re (O ⟨vb,vo,U⟩) n c::aj p4::D p2 nm pa re ba n bc::am (O ⟨vb,vo,U⟩) n c ys::RS))) w:=by
    refine h3.perm (aX.2 λe=>?_);simp only[bM,bU,D,aj,am];omega
   refine h4.nh.perm (aX.2 λe=>?_);unfold ij BF lQ qJ;simp only[bM,bU,D,aj,am];omega
  have hcB:∀(q:Nat) v,(eA B)[q]?=O v->(ys.flatMap eA)[b*6+q]?=O v:=λq v hv=>e_ de ys b B q v hB hv;have hcT:∀(q:Nat) v,(eA T)[q]?=O v->(ys.flatMap eA)[t*6+q]?=O v:=λq v hv=>e_ de ys t T q v hT hv;have akq:∀(X1 X2 X3:cq) (cP:List cq),gB (X1::X2::X3::am (O ⟨vb,vo,U⟩) n c ys::cP) vb (vo+b*6+1) (I B.la B.xs.length B.lc):=λ_ _ _ _=>⟨λ_ _ _ hw=>by have:=hw.dp (k:=3) rfl (hcB 1 _ rfl);rwa[<-eB]at this⟩;have aks:∀(X1 X2 X3:cq) (cP:List cq),gB (X1::X2::X3::am (O ⟨vb,vo,U⟩) n c ys::cP) vb (vo+t*6+1) (I T.la T.xs.length T.lc):=λ_ _ _ _=>⟨λ_ _ _ hw=>by have:=hw.dp (k:=3) rfl (hcT 1 _ rfl);rwa[<-eB]at this⟩;obtain⟨B1,hB1⟩:∃B1:ax×Nat->aK,B1=λx=>{B with la:=x.1,lc:=x.2,xs:=B.xs++T.xs}:=⟨_,rfl⟩;have abu:∀x,eA (B1 x)=(eA B).set 1 (I x.1 (B.xs.length+T.xs.length) x.2):=λx=>by
   rw[hB1];unfold eA;simp only[bW]
   rfl
  have ahY:∀(X1 X2 X3:cq) (cP:List cq),mf (X1::X2::X3::am (O ⟨vb,vo,U⟩) n c ys::cP) vb (vo+b*6+1) 3 vo (b*6+1) n c 46 6 (ys.flatMap eA):=λ_ _ _ _=>⟨rfl,A⟩;have Zi:∀na nc,lS (ys.flatMap eA) (b*6+1) (I na (B.xs.length+T.xs.length) nc) ((ys.set b (B1 (na,nc))).flatMap eA):=λna nc=>⟨fL de hB (by decide) (abu (na,nc)).symm,by rw[cA de];omega⟩;refine aV ?_;refine dI [D p6 nm pa re (O ⟨vb,vo,U⟩) n c] (λ_:ax×Nat=>True) (λ_=>[M 6 p6,(5,J Z t),M 4 p4,M 2 p2,(1,J Z b)]) (λy=>D p6 nm pa re (O ⟨vb,vo,U⟩) n c::aj p4::D p2 nm pa re ba n bc::am (O ⟨vb,vo,U⟩) n c (ys.set b (B1 y))::(λy:ax×Nat=>aH y.1 (B.xs.length+T.xs.length) y.2 (B.xs++T.xs)) y::qJ T::(BF B::lQ B::BF T::lQ T::((B.ps.map dZ++B.xs.map gC)++((T.ps.map dZ++T.xs.map gC)++RS)))) mixed aB ?_ λy _=>?_
  ·refine W 0 ?_;refine W 1 ?_;refine W 2 ?_;refine W 3 ?_;refine W 4 ?_;refine W 5 ?_;refine W 6 ?_;refine W 7 ?_;refine W 9 ?_;refine W 10 ?_;refine W 11 ?_;refine W 12 ?_;refine W 13 ?_;refine jL 8 14 E ?_ ?_
   ·refine gM 8 rfl aB ?_;refine cD 14 E ?_;refine gM 14 rfl aB ?_;refine uZ 15 4 rfl rfl rfl T.xs (dL:=ME) ki (λ_ _ _ h=>h) ep (λx u hu=>?_) (λw hw=>lW hw (k:=5) rfl ep A) A A E (λ_=>aB) λna nc=>?_
    ·unfold ki at hu
     simp only[bX,gr,or_false]at hu;rcases hu with rfl|rfl|rfl|rfl|rfl|rfl|rfl|rfl<;>rfl
    rw[<-ee];simp only[bS,bI];refine W 16 ?_;refine W 17 ?_;have aaT:=Zi na nc;refine jr 18 E E aB ?_;exact dy (na,nc) trivial V aF
   ·refine gM 14 rfl aB ?_;refine cD 8 E ?_;refine gM 8 rfl aB ?_;refine uZ 15 4 rfl rfl rfl T.xs (dL:=ME) ki (λ_ _ _ h=>h) ep (λx u hu=>?_) (λw hw=>lW hw (k:=5) rfl ep A) A A E (λ_=>aB) λna nc=>?_
    ·unfold ki at hu
     simp only[bX,gr,or_false]at hu;rcases hu with rfl|rfl|rfl|rfl|rfl|rfl|rfl|rfl<;>rfl
    rw[<-ee];simp only[bS,bI];refine W 16 ?_;refine W 17 ?_;have aaT:=Zi na nc;refine jr 18 E E aB ?_;exact dy (na,nc) trivial V aF
  obtain⟨na,nc⟩:=y;simp only;obtain⟨GD,Ua⟩:∃GD,GD=B1 (na,nc):=⟨_,rfl⟩;rw[<-Ua];have Cn:GD={B with la:=na,lc:=nc,xs:=B.xs++T.xs}:=by rw[Ua,hB1]
  obtain⟨zs,hzs⟩:∃zs,zs=ys.set b GD:=⟨_,rfl⟩;rw[<-hzs];have NP:zs.length=n:=by rw[hzs,fK];exact vK
  have hzB:zs[b]?=O GD:=by rw[hzs];exact fk A
  have hzT:zs[t]?=O T:=by rw[hzs,fY fZ];exact hT
  have hoe:∀(X1 X2 X3:cq) (cP:List cq),gm (X1::X2::X3::am (O ⟨vb,vo,U⟩) n c zs::cP) vb (vo+t*6+2) [J Z T.kind,ag T.on.dq,J Z T.on.n,I T.ta T.to.length T.tc]:=λ_ _ _ _=>M8 de (k:=3) rfl hzT 2 λj v hv=>by
   match j,hv with
   |0,hv=>exact hv
   |1,hv=>exact hv
   |2,hv=>exact hv
   |3,hv=>exact hv
   |j+4,hv=>simp at hv
  obtain⟨B2,GZ⟩:∃B2:aK,B2={GD with kind:=T.kind,on:=T.on,ta:=T.ta,tc:=T.tc,to:=T.to}:=⟨_,rfl⟩;obtain⟨z2,Bj⟩:∃z2,z2=zs.set b B2:=⟨_,rfl⟩;have Nr:(zs.flatMap eA).take (b*6+2)++[J Z T.kind,ag T.on.dq,J Z T.on.n,I T.ta T.to.length T.tc]++(zs.flatMap eA).drop (b*6+2+4)=z2.flatMap eA:=by
   rw[Bj];exact Cg de hzB (k:=2) (vs:=[J Z T.kind,ag T.on.dq,J Z T.on.n,I T.ta T.to.length T.tc]) rfl (by rw[GZ,Cn];rfl)
  refine bA ?_;refine dI [D p6 nm pa re (O ⟨vb,vo,U⟩) n c] (λ_:Unit=>True) (λ_=>[M 6 p6,(5,J Z t),M 4 p4,M 2 p2,(1,J Z b)]) (λ_=>D p6 nm pa re (O ⟨vb,vo,U⟩) n c::aj p4::D p2 nm pa re ba n bc::am (O ⟨vb,vo,U⟩) n c z2::aH na (B.xs.length+T.xs.length) nc (B.xs++T.xs)::qJ T::(BF B::lQ B::BF T::lQ T::((B.ps.map dZ++B.xs.map gC)++((T.ps.map dZ++T.xs.map gC)++RS)))) mixed aB ?_ λ_ _=>?_
  ·refine W 0 ?_;refine W 1 ?_;refine W 2 ?_;refine W 3 ?_;refine W 4 ?_;refine W 5 ?_;refine W 6 ?_;refine W 7 ?_;refine cD 8 E (gM 8 rfl aB ?_);refine W 9 ?_;refine W 10 ?_;refine cD 11 E ?_;refine jw 11 3 (j:=b*6+2) rfl A (by rw[cA de];omega) aB ?_;rw[Nr];simp only[bS,bI];refine ef E ?_;exact dy () trivial V aF
  refine dJ 3 1 ?_;refine aU ?_;refine bH (λ(x:Nat×ax×Nat)=>x.1<=n) (λx=>[(12,J Z x.1),(11,I x.2.1 (rl x.1 t).length x.2.2),M 6 p6,(5,J Z t),M 4 p4,M 2 p2,(1,J Z b)]) (λx=>aE x.2.1 (rl x.1 t).length x.2.2 ((rl x.1 t).map λx:Nat=>(x:Int))::D p6 nm pa re (O ⟨vb,vo,U⟩) n c::aj p4::D p2 nm pa re ba n bc::am (O ⟨vb,vo,U⟩) n c z2::aH na (B.xs.length+T.xs.length) nc (B.xs++T.xs)::qJ T::(BF B::lQ B::BF T::lQ T::((B.ps.map dZ++B.xs.map gC)++((T.ps.map dZ++T.xs.map gC)++RS)))) (λx=>n-x.1) (0,U,0) (aN _) (aP V aF) λx hd=>?_;obtain⟨d,la,lc⟩:=x;simp only at hd|-
  refine bA ?_;apply aL<;>intro h3
  ·have hdi:d<n:=aD h3
   have gV:=Qw d t;have jX:=JZ d t;refine aU ?_
   by_cases hdt:d=t
   ·rw[ai (λh=>h hdt),cj]at gV
    rw[show(!decide ((d:Int)=(t:Int)))=false by simp[hdt]];rw[<-gV];refine aU ?_;exact a_ (d+1,la,lc) hdi bB V aF
   ·rw[al hdt]at gV
    rw[show(!decide ((d:Int)=(t:Int)))=true by simp;omega]
    repeat(first|refine aU ?_|refine dd λ_ _=>?_)
    refine fB rfl rfl A A λna2 nc2=>?_;rw[show(rl d t).length+1=(rl (d+1) t).length by rw[gV];simp,show((rl d t).map λx:Nat=>(x:Int)).map (J Z)++[J Z (d:Int)]=((rl (d+1) t).map λx:Nat=>(x:Int)).map (J Z) by rw[gV];simp];refine aU ?_;exact a_ (d+1,na2,nc2) hdi bB V aB
  obtain rfl:n=d:=by have:=cE h3;omega
  have afO:z2.length=n:=by rw[Bj,fK];exact NP
  have afN:z2[t]?=O T:=by rw[Bj,fY fZ];exact hzT
  obtain⟨T3,Xu⟩:∃T3:aK,T3={T with kind:=1,on:=lB,ta:=U,tc:=0,to:=[]}:=⟨_,rfl⟩;obtain⟨z3,XG⟩:∃z3,z3=z2.set t T3:=⟨_,rfl⟩;have acU:z3.length=n:=by rw[XG,fK];exact afO
  have Ns:(z2.flatMap eA).take (t*6+2)++[J Z 1,ag false,J Z 0,I U 0 0]++(z2.flatMap eA).drop (t*6+2+4)=z3.flatMap eA:=by
   rw[XG];exact Cg de afN (k:=2) (vs:=[J Z 1,ag false,J Z 0,I U 0 0]) rfl (by rw[Xu];rfl)
  have jX:=JZ n t;refine aV ?_;refine k_ 4 (j:=t*6+2) rfl A (by rw[cA de];omega) ?_;rw[Ns];simp only[bS,bI];have h3B:z3[b]?=O B2:=by
   rw[XG,fY (λe=>fZ e.symm),Bj];exact fk A
  have h3T:z3[t]?=O T3:=by rw[XG];exact fk A
  have h3R:∀x,x≠b->x≠t->z3[x]?=ys[x]?:=λx h1 h2=>by rw[XG,fY (λe=>h2 e.symm),Bj,fY (λe=>h1 e.symm),hzs,fY (λe=>h1 e.symm)]
  have adX:B2.Bd:=by
   rw[GZ,Cn];refine⟨rK.kind,rK.on,rP.bg,rP.iN,?_,λx hx=>?_,rK.to⟩
   ·simp only[bW];omega
   ·rcases bO.1 hx with hx|hx
    ·exact rP.ins x hx
    ·exact rK.ins x hx
  have ad6:T3.Bd:=by
   rw[Xu];exact⟨show dE (1:Int)from⟨A,A⟩,show dE (0:Int)from⟨A,A⟩,rK.bg,rK.iN,rK.list,rK.ins,by simp⟩
  have h3d:∀r∈z3,r.Bd:=λr hr=>by
   obtain⟨x,hx⟩:=bR hr
   by_cases e1:x=b
   ·rw[e1,h3B]at hx
    rw[<-bJ hx];exact adX
   by_cases e2:x=t
   ·rw[e2,h3T]at hx
    rw[<-bJ hx];exact ad6
   rw[h3R x e1 e2]at hx;exact uG r (aA hx)
  have abt:∀(x:Nat) (r:aK),z3[x]?=O r->bi (z3.map aK.dD) x=r.dD:=λx r hr=>gG (by rw[aW,hr];rfl);have hJL:vL bl b t (z3.map aK.dD):=by
   refine Re hj (by rw[aG,acU,vh]) (λx hx e1 e2=>?_) ?_ ?_
   ·obtain⟨r,hr⟩:=bE ys x A
    rw[abt x r (by rw[h3R x e2 e1];exact hr),NE x r hr]
   ·rw[abt b B2 h3B,GZ,Cn]
    have h1:B.ps.map ch.iN=(bi bl b).bg.map (yW bl b t b):=bD aq.bg Ir;have h2:T.kind=(bi bl t).kind:=bD aq.kind Nk;have h3:T.on=(bi bl t).on:=bD aq.on Nk;have h4:T.to=(bi bl t).to:=bD aq.to Nk;unfold aK.dD;simp only[h1,h2,h3,h4,bz,hBl,hTl]
   ·rw[abt t T3 h3T,Xu]
    have h1:T.ps.map ch.iN=(bi bl t).bg.map (yW bl b t t):=bD aq.bg Nk;unfold aK.dD;simp only[h1,hTl]
  have aiq:∀w,Wd db w0 (aE la (rl n t).length lc ((rl n t).map λx:Nat=>(x:Int))::D p6 nm pa re (O ⟨vb,vo,U⟩) n c::aj p4::D p2 nm pa re ba n bc::am (O ⟨vb,vo,U⟩) n c z3::aH na (B.xs.length+T.xs.length) nc (B.xs++T.xs)::qJ T::(BF B::lQ B::BF T::lQ T::((B.ps.map dZ++B.xs.map gC)++((T.ps.map dZ++T.xs.map gC)++RS)))) w->aY w (I (O ⟨vb,vo,U⟩) n c) 6 (z3.map aK.dD) da:=λw hw=>by
   have h7:=lW (k:=4) (l:=z3) (g:=eA) (a:=O ⟨vb,vo,U⟩) (c:=c) (e:=46) hw (by rw[acU];rfl) de A;rw[acU]at h7;refine ML h7 λr hr=>?_;obtain⟨x,hx⟩:=bR hr
   by_cases e1:x=b
   ·rw[e1,h3B]at hx
    obtain rfl:=bJ hx;have h8:Wd db w0 (ij B2++[]) w:=by
     refine hw.pick ⟨aE la (rl n t).length lc ((rl n t).map λx:Nat=>(x:Int))::D p6 nm pa re (O ⟨vb,vo,U⟩) n c::aj p4::D p2 nm pa re ba n bc::am (O ⟨vb,vo,U⟩) n c z3::qJ T::lQ B::BF T::(T.ps.map dZ++RS),?_⟩;rw[GZ,Cn];unfold ij BF lQ qJ;refine aX.2 λe=>?_;simp only[bU,bM,dG,bz,bW,D,aj,am,aE,aH];omega
    exact h8.bi adX
   by_cases e2:x=t
   ·rw[e2,h3T]at hx
    obtain rfl:=bJ hx;have h8:Wd db w0 (ij T3++[]) w:=by
     refine(hw.CI 3 1).pick ⟨aE la (rl n t).length lc ((rl n t).map λx:Nat=>(x:Int))::D p6 nm pa re (O ⟨vb,vo,U⟩) n c::aj p4::D p2 nm pa re ba n bc::am (O ⟨vb,vo,U⟩) n c z3::aH na (B.xs.length+T.xs.length) nc (B.xs++T.xs)::BF B::lQ B::lQ T::(B.ps.map dZ++(B.xs.map gC++RS)),?_⟩;rw[Xu];unfold ij BF lQ qJ;refine aX.2 λe=>?_;simp only[bU,bM,dG,dm,pE,D,aj,am,aE,aH];omega
    exact h8.bi ad6
   rw[h3R x e1 e2]at hx;have EH:=hRm x r hx e1 e2;have aeS:bP r∈(aE la (rl n t).length lc ((rl n t).map λx:Nat=>(x:Int))::D p6 nm pa re (O ⟨vb,vo,U⟩) n c::aj p4::D p2 nm pa re ba n bc::am (O ⟨vb,vo,U⟩) n c z3::aH na (B.xs.length+T.xs.length) nc (B.xs++T.xs)::qJ T::(BF B::lQ B::BF T::lQ T::((B.ps.map dZ++B.xs.map gC)++((T.ps.map dZ++T.xs.map gC)++RS)))):=by
    simp only[bX,bO];simp only[EH,or_true]
   obtain⟨k,hk⟩:=bR aeS;exact((hw.perm (lh hk)).nh).bi (uG r (aA hx))
  have agI:∀r:aK,r.dD∈z3.map aK.dD->r.Bd:=λr hr=>by
   obtain⟨r2,h1,h2⟩:=aT.1 hr;exact aK.Bd.of h2.symm (h3d r2 h1)
  have hfz:=hJL.abj hj hf;have hkz:=hJL.kok hj hg;have hjn:=hJL.jn hj;rw[<-vh]at hkz hjn;refine bA ?_;refine cN (val:=λx:ax×Nat×List aK=>.agg #[aQ nm,J Z pa,J Z re,I x.1 x.2.2.length x.2.1]) (cZ:=λx=>eM x.1 x.2.1 x.2.2) (φ:=λx=>x.2.2.map aK.dD=cG (z3.map aK.dD) (rl n t)/\∀b∈x.2.2,b.Bd) rfl (λw hw=>IU nm pa re (z3.map aK.dD) _ R hfz (by rw[aG];omega) (rl n t) hkz A la _ lc w (aiq w hw) agI (hw.NU (k:=0) rfl (by rw[aG]) A λy hy=>?_)) λx hx=>?_
  ·obtain⟨y2,h1,rfl⟩:=aT.1 hy
   have:=(uP.1 h1).1;exact⟨A,A⟩
  refine lr (H':=aj p4::eM x.1 x.2.1 x.2.2) (λw hw=>(hw.sub ((dU _).append (.cons _ (.cons _ (dN qy))))).perm fG) ?_;refine aV ?_;exact fD rfl λw hw=>⟨x,rfl,hw.sub (.cons _ (.refl _)),by rw[hx.1,hjn],hx.2⟩
theorem Le(bl:List aq)(c d:Nat):(bi bl c).list.length+(bi bl d).list.length<=eu bl\/c=d:=by
 by_cases e:c=d
 ·exact .inr e
 refine .inl ?_;have h0:∀x,¬x<bl.length->(bi bl x).list.length=0:=λx hx=>by rw[zG hx];rfl
 have h1:∀x,x<bl.length->(bi bl x).list.length<=eu bl:=λx hx=>by
  have h2:=(ig JD (ck hx)).sum_nat;rw[g_]at h2;rw[vv];have h3:(bi bl x).list.length<=JD (bi bl x):=by unfold JD;omega
  omega
 by_cases hc:c<bl.length
 ·by_cases hd:d<bl.length
  ·obtain⟨R,hR,_⟩:=Wx JD (ck hc) (ck hd) e
   have h2:=hR.sum_nat;rw[g_,g_]at h2;rw[vv,h2];unfold JD;omega
  ·rw[h0 d hd]
   have:=h1 c hc;omega
 ·rw[h0 c hc]
  by_cases hd:d<bl.length
  ·have:=h1 d hd
   omega
  ·rw[h0 d hd]
   omega
theorem C_(bl:List aq):∀n,(xG bl n=-1/\∀i,i<n->kx bl i=U)\/∃b t,xG bl n=(b:Nat)/\b<n/\kx bl b=O t
 |0=>.inl ⟨rfl,λi hi=>A⟩
 |n+1=>by
  unfold xG
  by_cases h:(kx bl n).isSome=true
  ·rw[al h]
   obtain⟨t,ht⟩:=Option.isSome_iff_exists.1 h;exact .inr ⟨n,t,rfl,A,ht⟩
  ·rw[ai h]
   have hn:kx bl n=U:=aD h;rcases C_ bl n with⟨h1,h2⟩|⟨b,t,h1,h2,h3⟩
   ·refine .inl ⟨h1,λi hi=>?_⟩
    by_cases e:i=n
    ·rw[e];exact hn
    ·exact h2 i A
   ·exact .inr ⟨b,t,h1,A,h3⟩
theorem wF.xj(h:wF X R g l o)(hX:lj X R):lj (px X g) R:=by
 refine⟨hX.bm,hX.le,?_,?_,hX.par,?_⟩
 ·show eW R g
  rw[h.eq];exact jx h.ok.base.ok h.full.ok
 ·show 0<g.length
  rw[h.len];exact h.zero.1
 ·show∀B∈g,∀x∈B.list,_
  rw[h.eq];exact CE h.full.ok (E3 h.jn (CE (i_ hX.ok.iD hX.pos) hX.GB))
theorem wF.many(h:wF X R g l o)(hX:lj X R):eu g<=eu X.blocks:=by
 rw[h.eq];refine dS (nG h.full.ok) ?_;rw[h.jn.many];exact nG (i_ hX.ok.iD hX.pos)
theorem RT(v:dk)(hv:jy v)(k:Nat)(X:bZ)(hXk:v.funcs[k]?=O X)(A8:CV X)(hlen:X.blocks.length<=24)(oY:eu X.blocks<=1000)(bs:K)(w0:ae)(gV:aY w0 bs 6 X.blocks da)(oF:∀b:aK,b.dD∈X.blocks->b.Bd):
  iL Y 16 [aC #[aQ X.name,J Z X.params,J Z X.bm,bs]] w0 λu w'=>∃x:ax×Nat×List aK,u=aC #[aQ (ju X).name,J Z (ju X).params,J Z (ju X).bm,I x.1 x.2.2.length x.2.1]/\Wd db w0 (eM x.1 x.2.1 x.2.2) w'/\(x.2.2.map aK.dD=(ju X).blocks/\∀b∈x.2.2,b.Bd):=by
 classical
 obtain⟨R,hX,afx⟩:=Dg hv hXk;have IE:∀g l o,wF X R g l o->(∀i,i<g.length->kx g i=U)->fJ (px X g)=ju X:=λg l o h hn=>RQ hv hXk hX.bm h hn;obtain⟨TF,hTF⟩:∃TF,TF=ju X:=⟨_,rfl⟩;rw[<-hTF]at IE|-
 have Sx:=hX.bm;have hR:=hX.le;have hf:=hX.ok;have dW:=hX.pos;have Ps:=hX.par;have hg:=hf.iD;have hk:=i_ hg dW;obtain⟨xn,Mw⟩:∃xn,xn=X.name:=⟨_,rfl⟩;obtain⟨xp,hxp⟩:∃xp,xp=X.params:=⟨_,rfl⟩;obtain⟨xr,Gl⟩:∃xr,xr=X.bm:=⟨_,rfl⟩;obtain⟨xb,uF⟩:∃xb,xb=X.blocks:=⟨_,rfl⟩;rw[<-uF]at gV oF hlen oY hf dW hg hk;rw[<-Mw,<-hxp,<-Gl];obtain⟨o,G9⟩:∃o,o=cQ xb:=⟨_,rfl⟩;have EJ:(ek xb).length=o.length:=by rw[G9];unfold cQ;rw[ny]
 have YY:=pg dW;rw[<-G9]at hk;obtain⟨kl,xy⟩:∃kl,kl=cG xb o:=⟨_,rfl⟩;have hkF:eN X=kl:=by rw[xy,G9,uF];rfl
 rw[hkF]at afx;have ahq:kl.length=o.length:=by rw[xy,dX]
 obtain⟨ba,n,bc,abK⟩:∃a n c,bs=I a n c:=by
  obtain⟨a,n,c,_,_,e,_⟩:=gV;exact⟨a,n,c,e⟩
 refine aR func16 rfl ntmps16 rfl (Wd.nil db w0) ?_;subst abK;have rq:=gV;have YZ:o.length<=100:=A
 repeat(first|refine bA ?_|refine dd λ_ _=>?_)
 rename_i p1 _ p2 _;have s_:∀(H:List cq) (w:ae),Wd db w0 H w->iL Y 36 [aC #[aQ xn,J Z xp,J Z xr,I ba n bc]] w λu w'=>∃x:ax×Nat,u=I x.1 o.length x.2/\Wd db w [G x.1 o.length x.2 3 1 (o.map dz)] w'/\True:=λH w hw=>by
  have:=Fq (aQ xn) (J Z xp) (J Z xr) xb (I ba n bc) ⟨_,_,_,rfl⟩ w (rq.cB cu hw.c_) A hg dW;rw[EJ]at this;rw[G9]at this|-
  exact this
 have lZ:∀(k:Nat) (a:ax) (c:Nat) (H:List cq) (w:ae),Wd db w0 H w->H[k]?=O (G a o.length c 3 1 (o.map dz))->iL Y 35 [aC #[aQ xn,J Z xp,J Z xr,I ba n bc],I a o.length c] w λu w'=>∃x:ax×Nat×List aK,u=aC #[aQ xn,J Z xp,J Z xr,I x.1 x.2.2.length x.2.1]/\Wd db w (eM x.1 x.2.1 x.2.2) w'/\(x.2.2.map aK.dD=kl/\∀b∈x.2.2,b.Bd):=λk a c H w hw Ct=>by
  rw[xy];exact IU xn xp xr xb (I ba n bc) R hf A o hk YZ a o.length c w (rq.cB cu hw.c_) oF (mF hw (k:=k) Ct rfl A λx hx=>by have:=hk.lt x hx;omega)
 refine dI [D p1 xn xp xr ba n bc] (λx:Nat×ax×Nat×List aK=>x.2.2.2.map aK.dD=kl/\∀b∈x.2.2.2,b.Bd) (λx=>[M 3 x.1,M 2 p2]) (λx=>D x.1 xn xp xr x.2.1 x.2.2.2.length x.2.2.1::aj p2::eM x.2.1 x.2.2.1 x.2.2.2) mixed (by repeat(first|exact dU _|refine List.Sublist.cons _ ?_|refine iR ?_ (eF _ _))) ?_ λx hx=>?_
 ·refine er 0 rfl E (by repeat(first|exact dU _|refine List.Sublist.cons _ ?_|refine iR ?_ (eF _ _))) ?_;refine er 1 rfl E (by repeat(first|exact dU _|refine List.Sublist.cons _ ?_|refine iR ?_ (eF _ _))) ?_;refine jL 2 4 E ?_ ?_
  ·(refine gZ 2 (val:=λx:ax×Nat=>.slice x.1 o.length x.2) (cZ:=λx=>[G x.1 o.length x.2 3 1 (o.map dz)]) (φ:=λ_=>True) rfl (by repeat(first|exact dU _|refine List.Sublist.cons _ ?_|refine iR ?_ (eF _ _))) (λw hw=>s_ _ w hw) λy _=>?_;obtain⟨oa,oc⟩:=y;simp only[bF,aS])
   refine jL 3 4 E ?_ ?_
   ·(refine gZ 3 (val:=λx:ax×Nat×List aK=>.agg #[aQ xn,J Z xp,J Z xr,I x.1 x.2.2.length x.2.1]) (cZ:=λx=>eM x.1 x.2.1 x.2.2) (φ:=λx=>x.2.2.map aK.dD=kl/\∀b∈x.2.2,b.Bd) rfl (by repeat(first|exact dU _|refine List.Sublist.cons _ ?_|refine iR ?_ (eF _ _))) (λw hw=>by first|exact lZ 0 _ _ _ w hw rfl|exact lZ 1 _ _ _ w hw rfl) λz hz=>?_;obtain⟨na,nc,ks⟩:=z;simp only at hz|-)
    refine cD 4 E ?_;refine pP 4 rfl (by repeat(first|exact dU _|refine List.Sublist.cons _ ?_|refine iR ?_ (eF _ _))) λp3 _=>?_;refine bG (H1:=aj p3::aj p2::G oa o.length oc 3 1 (o.map dz)::(eM na nc ks++[D p1 xn xp xr ba n bc])) fM ?_;refine dn 5 E (by repeat(first|exact dU _|refine List.Sublist.cons _ ?_|refine iR ?_ (eF _ _))) ?_;refine ef E ?_;exact dy (p3,na,nc,ks) hz V (dN (dN (.cons _ (fe _ _))))
   ·refine pP 4 rfl (by repeat(first|exact dU _|refine List.Sublist.cons _ ?_|refine iR ?_ (eF _ _))) λp3 _=>?_;refine cD 3 E ?_
    (refine gZ 3 (val:=λx:ax×Nat×List aK=>.agg #[aQ xn,J Z xp,J Z xr,I x.1 x.2.2.length x.2.1]) (cZ:=λx=>eM x.1 x.2.1 x.2.2) (φ:=λx=>x.2.2.map aK.dD=kl/\∀b∈x.2.2,b.Bd) rfl (by repeat(first|exact dU _|refine List.Sublist.cons _ ?_|refine iR ?_ (eF _ _))) (λw hw=>by first|exact lZ 0 _ _ _ w hw rfl|exact lZ 1 _ _ _ w hw rfl) λz hz=>?_;obtain⟨na,nc,ks⟩:=z;simp only at hz|-)
    refine bG (H1:=aj p3::aj p2::G oa o.length oc 3 1 (o.map dz)::(eM na nc ks++[D p1 xn xp xr ba n bc])) fM ?_;refine dn 5 E (by repeat(first|exact dU _|refine List.Sublist.cons _ ?_|refine iR ?_ (eF _ _))) ?_;refine ef E ?_;exact dy (p3,na,nc,ks) hz V (dN (dN (.cons _ (fe _ _))))
  ·refine pP 4 rfl (by repeat(first|exact dU _|refine List.Sublist.cons _ ?_|refine iR ?_ (eF _ _))) λp3 _=>?_;refine cD 2 E ?_
   (refine gZ 2 (val:=λx:ax×Nat=>.slice x.1 o.length x.2) (cZ:=λx=>[G x.1 o.length x.2 3 1 (o.map dz)]) (φ:=λ_=>True) rfl (by repeat(first|exact dU _|refine List.Sublist.cons _ ?_|refine iR ?_ (eF _ _))) (λw hw=>s_ _ w hw) λy _=>?_;obtain⟨oa,oc⟩:=y;simp only[bF,aS])
   refine cD 3 E ?_
   (refine gZ 3 (val:=λx:ax×Nat×List aK=>.agg #[aQ xn,J Z xp,J Z xr,I x.1 x.2.2.length x.2.1]) (cZ:=λx=>eM x.1 x.2.1 x.2.2) (φ:=λx=>x.2.2.map aK.dD=kl/\∀b∈x.2.2,b.Bd) rfl (by repeat(first|exact dU _|refine List.Sublist.cons _ ?_|refine iR ?_ (eF _ _))) (λw hw=>by first|exact lZ 0 _ _ _ w hw rfl|exact lZ 1 _ _ _ w hw rfl) λz hz=>?_;obtain⟨na,nc,ks⟩:=z;simp only at hz|-)
   refine bG (H1:=aj p3::aj p2::G oa o.length oc 3 1 (o.map dz)::(eM na nc ks++[D p1 xn xp xr ba n bc])) fM ?_;refine dn 5 E (by repeat(first|exact dU _|refine List.Sublist.cons _ ?_|refine iR ?_ (eF _ _))) ?_;refine ef E ?_;exact dy (p3,na,nc,ks) hz V (dN (dN (.cons _ (fe _ _))))
 obtain⟨p3,na,nc,ks⟩:=x;obtain⟨yQ,yB⟩:=hx;simp only at yQ yB|-
 refine aU ?_;refine bH (λx:ax×Nat×List aK=>x.2.2.length<=24/\(∃l o,wF X R (x.2.2.map aK.dD) l o)/\∀r∈x.2.2,r.Bd) (λ_=>[M 3 p3,M 2 p2]) (λx=>(λx:ax×Nat×List aK=>D p3 xn xp xr x.1 x.2.2.length x.2.1) x::aj p2::eM x.1 x.2.1 x.2.2) (λx=>x.2.2.length) (na,nc,ks) ⟨by have:=bD List.length yQ;rw[aG]at this;simp only;omega,⟨_,_,by rw[yQ];exact afx⟩,yB⟩ (aP V aF) λx ⟨pw,⟨l,oo,nW⟩,Vm⟩=>?_;obtain⟨na,nc,ks⟩:=x;simp only at pw nW Vm|-
 obtain⟨g,hgD⟩:∃g,g=ks.map aK.dD:=⟨_,rfl⟩;rw[<-hgD]at nW;obtain⟨m,hm⟩:∃m,m=ks.length:=⟨_,rfl⟩;rw[<-hm]at pw;have UH:g.length=m:=by rw[hgD,aG,hm]
 have hgA:=nW.xj hX;have hgf:eW R g:=hgA.ok;have hgk:rE g:=by rw[nW.eq];exact vt nW.full.ok nW.ok.base.kind
 have EE:=nW.many hX;rw[<-uF]at EE;have yA:∀(X:List cq) (w:ae),Wd db w0 (X++eM na nc ks) w->aY w (I na m nc) 6 g da:=λX w hw=>by
  have:=Wd.blocks (H:=[]) (ba:=na) (bc:=nc) (bs:=ks) (by rw[cj];exact hw.sub (eF _ _)) A Vm;rw[<-hgD,<-hm]at this;exact this
 have aeF:∀b:aK,b.dD∈g->b.Bd:=λb hb=>by
  rw[hgD]at hb;obtain⟨c,hc,e⟩:=aT.1 hb;exact aK.Bd.of e.symm (Vm c hc)
 rw[<-hm];refine aU ?_;refine bY rfl (λw hw=>TI _ _ _ g na m nc A hgf.iD hgk w (yA [D p3 xn xp xr na m nc,aj p2] w hw)) ?_;rw[UH];rcases C_ g m with⟨h1,h2⟩|⟨b,t,h1,h2,h3⟩
 ·rw[h1]
  refine aU ?_;have hnF:=IE g l oo nW (by rw[UH];exact h2);refine cN (val:=λx:ax×Nat×List aK=>.agg #[aQ TF.name,J Z TF.params,J Z TF.bm,I x.1 x.2.2.length x.2.1]) (cZ:=λx=>eM x.1 x.2.1 x.2.2) (φ:=λx=>x.2.2.map aK.dD=TF.blocks/\∀b∈x.2.2,b.Bd) rfl (λw hw=>?_) λx hx=>?_
  ·have h9:=Fp (px X g) R hgA.dC (by show g.length<=24;omega) (I na m nc) w (yA [D p3 xn xp xr na m nc,aj p2] w hw) aeF
   rw[hnF]at h9;have e1:(px X g).name=xn:=Mw.symm;have e2:(px X g).params=xp:=hxp.symm;have e3:(px X g).bm=xr:=Gl.symm;rw[e1,e2,e3]at h9;exact h9
  refine lr (H':=aj p2::eM x.1 x.2.1 x.2.2) (λw hw=>(hw.sub ((dU _).append (.cons _ (dN qy)))).perm fG) ?_;refine aV ?_;exact fD rfl λw hw=>⟨x,rfl,hw.sub (.cons _ (.refl _)),hx.1,hx.2⟩
 ·rw[h1]
  refine aU ?_;rw[show decide (((b:Nat):Int)<0)=false by simp]
  have hj:=(lL hgk hgf.iD).1 h3;refine cN (val:=λx:ax×Nat×List aK=>.agg #[aQ xn,J Z xp,J Z xr,I x.1 x.2.2.length x.2.1]) (cZ:=λx=>eM x.1 x.2.1 x.2.2) (φ:=λx=>x.2.2.map aK.dD=jnL g b t/\∀b∈x.2.2,b.Bd) rfl (λw hw=>Rh xn xp xr g (I na m nc) R hgf A (λc d=>(Le g c d).imp (λh=>A) id) b t hj w (yA [D p3 xn xp xr na m nc,aj p2] w hw) aeF) λx hx=>?_;refine bG (H1:=D p3 xn xp xr na m nc::aj p2::(eM x.1 x.2.1 x.2.2++eM na nc ks)) fM ?_;refine aV ?_;obtain⟨KT,NG⟩:=Oq nW hj;have aiJ:x.2.2.length+1=m:=by
   have:=bD List.length hx.1;rw[aG]at this;omega
  exact a_ x ⟨A,⟨_,_,by rw[hx.1];exact KT⟩,hx.2⟩ bB V (dN (dN (fe _ _)))
end
end
end Go.Proofs.YthfhgolkafpmnaaGreatDoor
