/- Texts joined: RepB Ins InsV RenP DoH DoI SplitT JoinR TidyX TidyY TidyZ JnP ChainR JoinedR TidyR. -/
import Derived.Lib.Overlaps
import Derived.Test.YthfhgolkafpmnaaGreatDoorGG
import Derived.Test.YthfhgolkafpmnaaGreatDoorGH
import Derived.Test.YthfhgolkafpmnaaGreatDoorGM
import Derived.Test.YthfhgolkafpmnaaGreatDoorHA
import Derived.Test.YthfhgolkafpmnaaGreatDoorHN
import Derived.Test.YthfhgolkafpmnaaGreatDoorID
import Derived.Test.YthfhgolkafpmnaaGreatDoorIF
namespace Go.Proofs.YthfhgolkafpmnaaGreatDoor
section
open Go Go.RowKit
attribute [local irreducible] wpListIn Code.wpIn Exit.then Exit.inBlock bodyPost wpQuiet wpAnyIn wpAnyH
set_option maxHeartbeats 4000000
section
variable {P:Program} {ro:Option Nat} {N:Nat} {ds:List Deferred} {S:Nat->Prop} {w0:World} {L L':List (Nat×Value)} {H H':List bN} {ops:Array Oper} {rest:List Oper} {Q:Exit->Act->World->Prop} {x y:Operand}
theorem SQ{α:Type}{d ty T e s jZ n:Nat}{z1 z2:Int}{zs:List Value}{pos:String}{aft:Array Go.Edge}[h:cB P T e s jZ zs][hx:Ev L x (.int .i64 z1)][E9:ky z1 n][hy:Ev L y (.int .i64 z2)][Ml:ky z2 n](hd:dj d N L=true)(hs:Nat.beq zs.length s=true)(hb:jZ*n<=281474976710656)(hm:n<=140737488355328)(g:α->List Value)(y0:α)(hg:g y0=zs)
  (k:∀b,w0.heap.size<=b->G N ds S w0 ((d,.slice (some ⟨b,0,none⟩) n n)::L) (ai (some ⟨b,0,none⟩) n n e s ((List.replicate n y0).flatMap g)::H) (wpListIn (FW ro) 0 P ops Q rest)):G N ds S w0 L H (wpListIn (FW ro) 0 P ops Q (⟨some d,.makeSlice T x y,ty,pos,aft,none⟩::rest)):=by
 intro a w hS;obtain⟨i,zz,hi,PU,fZ,h1,h2⟩:=h.get;have h3:=hx.eq _ _ _ hS.fr;have h4:=hy.eq _ _ _ hS.fr;have hs:=px hs;rw[E9.eq]at h3;rw[Ml.eq]at h4;have OM:(i.bytes:Int)*(n:Int)<=281474976710656:=by
  have e:((jZ*n:Nat):Int)<=281474976710656:=ag;rw[Int.natCast_mul]at e;rw[h2];exact e
 have hr:=run_make (P:=P) w T e i zz h.oI hi PU .i64 .i64 (n:Int) (n:Int) ag (Int.le_refl _) OM ag;have C6:(List.replicate n y0).flatMap g=(List.replicate n zs).flatten:=by rw[rP,List.map_replicate,hg]
 have mM:madeCells zz.cells ((n:Int).toNat*i.size)=((List.replicate n y0).flatMap g).toArray:=by
  have:=nD zs n;rw[h1,fZ,dD,C6,<-this,hs]
 refine eG (v:=.slice (some ⟨w.heap.size,0,none⟩) n n) (w':=w.alloc (.cells ((List.replicate n y0).flatMap g).toArray e)) rfl (λ_ h=>by cases h) ?_ ?_
 ·simp only[dD]at hr mM
  simp[execOp,h3,h4,hr,mM]
 ·exact k _ hS.wd.size _ _ ⟨hS.fr.dP hd _,hS.wd.we e s n _ (by rw[C6,List.length_flatten];simp[hs]) (by unfold maxLen;omega)⟩
theorem vk(w:World)(dT sT ty elem:TypeId)(s g o Wi acs:Nat)(a:Addr)(YL aeL:Nat)(ZT:Array Value)(t:TypeId)(cs:List Value)
  (hu:P.underlying dT=some (.slice elem)) (hs:(P.info? elem).map (·.size)=some s)
  (hg:w.heap[g]?=some (.cells ZT t (0,0))) (hn:cs.length=Nat.min YL Wi*s)
  (r5:∀j v,cs[j]?=some v->w.cell? (a.add j)=some v) (fW:o+cs.length<=ZT.size) (h1:∀v∈cs,v.oneCell'=true):
  (Builtin.copy_ #[dT,sT] ty #[.slice (some ⟨g,o,none⟩) Wi acs,.slice (some a) YL aeL]).run P w=
   .ok (goInt (Nat.min YL Wi:Nat)) (w.setRow g (ZT.toList.take o++cs++ZT.toList.drop (o+cs.length)).toArray):=by
 have hl:=run_loadCells_list (P:=P) w a cs r5;have kr:=run_storeCells_at P g o t cs 0 ZT w hg (by simpa using fW) h1;cases hq:P.info? elem with
 |none=>simp[hq]at hs
 |some i=>
  have hi:i.size=s:=by simpa[hq]using hs
  simp[Builtin.copy_,run_underlying hu,Builtin.lenOf,Builtin.firstCells,sizeOf,typeInfo,hq,hi,<-hn,hl,kr]
theorem D9{d ty dT sT e s jZ b o off n c dl dc sl sc sb so:Nat}{zs:List Value}(k:Nat){xs:List Value}(m:Nat)(cs:List Value){pos:String}{aft:Array Go.Edge}[h:cB P dT e s jZ zs][hx:Ev L x (.slice (some ⟨b,o+off,none⟩) dl dc)][hy:Ev L y (.slice (some ⟨sb,so,none⟩) sl sc)]
  (hk:H[k]?=some (ai (some ⟨b,o,none⟩) n c e s xs)) (hd:dj d N L=true) (hm:m=min sl dl) (hn:cs.length=m*s) (r5:∀w,Wd S w0 H w->∀j v,cs[j]?=some v->w.cell? ⟨sb,so+j,none⟩=some v) (fW:off+cs.length<=xs.length) (h1:∀v∈cs,v.oneCell'=true)
  (kk:G N ds S w0 ((d,.int .i64 m)::L) (H.set k (ai (some ⟨b,o,none⟩) n c e s (xs.take off++cs++xs.drop (off+cs.length)))) (wpListIn (FW ro) 0 P ops Q rest)):G N ds S w0 L H (wpListIn (FW ro) 0 P ops Q (⟨some d,.call {callee:=.builtin .copy,args:=#[x,y],argTypes:=#[dT,sT]},ty,pos,aft,none⟩::rest)):=λa w hS=>by
 subst hm;obtain⟨hl,pE,zS,pre,sp,rfl,Eo,hb⟩:=hS.wd.km hk;obtain⟨i,zz,hi,_,_,Tj,_⟩:=h.get;have bT:b<w.heap.size:=(fI.1 hb).1;have hr:=vk (P:=P) w dT sT ty e s b (pre.length+off) dl dc ⟨sb,so,none⟩ sl sc _ e cs h.oI (by rw[hi];simp[Tj]) hb hn (λj v hj=>by rw[Addr.add_lit];exact r5 w hS.wd j v hj) (by simp;omega) h1;have fK:(pre++xs++sp).take (pre.length+off)++cs++(pre++xs++sp).drop (pre.length+off+cs.length)=pre++(xs.take off++cs++xs.drop (off+cs.length))++sp:=by
  rw[dE pre xs sp,qW,dA,tX,jY ag,wA ag];simp
 simp only at hr;rw[fK]at hr;refine eG (v:=.int .i64 ((min sl dl:Nat):Int)) (w':=w.setRow b (pre++(xs.take off++cs++xs.drop (off+cs.length))++sp).toArray) rfl (λ_ h=>by cases h) ?_ ?_
 ·have e1:Nat.min sl dl=min sl dl:=rfl
  simp[execOp,resolve,invoke,builtin,hx.eq _ _ _ hS.fr,hy.eq _ _ _ hS.fr,hr,goInt,e1]
 ·refine kk _ _ ⟨hS.fr.dP hd _,?_⟩
  have oj:∀q:Array Value,(w.setRow b q).heap.size=w.heap.size:=λq=>by simp[World.setRow]
  refine hS.wd.kf hk ⟨rfl,rfl,rfl,by rw[oj];exact bH _,λj _ hj=>setRow_other w b j _ λe'=>hj (by simp[ai,e'])⟩ (λb' mL=>?_) λw2 jl=>?_
  ·simp only[ai,bz,bW]at mL⊢
   subst mL;exact⟨.inl rfl,by rw[oj];exact bT⟩
  ·have:=jl b (by simp[ai])
   refine⟨?_,.inr ⟨b,pre,sp,rfl,pE,zS,Eo,?_⟩⟩
   ·simp only[bR,cU,ez];omega
   ·rw[this]
    exact setRow_heap w b _ _ e _ hb
end
theorem MX{α:Type}(z y:α)(m n k:Nat)(hk:k=min (n-m) m)(_hm:m<=n):(List.replicate m z++List.replicate (n-m) y).take m++List.replicate k z++(List.replicate m z++List.replicate (n-m) y).drop (m+k)=List.replicate (m+k) z++List.replicate (n-(m+k)) y:=by
 rw[jY aH,jw aH,List.drop_append,List.drop_of_length_le (by rw[ef];omega)];simp only[ef,aT,List.drop_replicate];have e:n-m-(m+k-m)=n-(m+k):=ag;rw[<-List.replicate_append_replicate,e]
theorem FM{α:Type}{g:α->List Value}{s:Nat}(hg:∀x,(g x).length=s)(l m:List α)(i:Nat):(l.flatMap g).take (i*s)++m.flatMap g++(l.flatMap g).drop (i*s+(m.flatMap g).length)=(l.take i++m++l.drop (i+m.length)).flatMap g:=by
 rw[ct hg,<-i_,(kC hg l i).1,(kC hg l (i+m.length)).2];simp
section
variable {P:Program} {N:Nat} {ds:List Deferred} {S:Nat->Prop} {w0 w:World} {L:List (Nat×Value)} {H:List bN} {p:Act->World->Prop}
theorem Wd.grow(hW:Wd S w0 H w){k:Nat}{b o n c e s:Nat}{xs:List Value}(hk:H[k]?=some (ai (some ⟨b,o,none⟩) n c e s xs))(m:Nat)(hm:n<=m)(Zm:m<=c):
  ∃ys:List Value,ys.length=(m-n)*s/\Wd S w0 (H.set k (ai (some ⟨b,o,none⟩) m c e s (xs++ys))) w:=by
 obtain⟨hl,pE,zS,pre,sp,rfl,Eo,hb⟩:=hW.km hk;have bT:b<w.heap.size:=(fI.1 hb).1;have h1:(c-n)*s=(c-m)*s+(m-n)*s:=by rw[<-i_];congr 1;omega
 have h2:(sp.take ((m-n)*s)).length=(m-n)*s:=by rw[cU];omega
 refine⟨sp.take ((m-n)*s),h2,hW.kf hk (lL.refl _ _) (λb' mL=>?_) λw2 jl=>?_⟩
 ·simp only[ai,bz,bW]at mL⊢
  subst mL;exact⟨.inl rfl,bT⟩
 ·have:=jl b (by simp[ai])
  refine⟨by rw[bR,h2,hl,<-i_];congr 1;omega,.inr ⟨b,pre,sp.drop ((m-n)*s),rfl,ag,zS,?_,?_⟩⟩
  ·rw[ez]
   omega
  ·rw[this,hb]
   have:pre++xs++sp=pre++(xs++sp.take ((m-n)*s))++sp.drop ((m-n)*s):=by
    simp only[dE];rw[pw]
   rw[this]
theorem Wu(k:Nat){b o n c e s:Nat}{xs:List Value}(hk:H[k]?=some (ai (some ⟨b,o,none⟩) n c e s xs))(m:Nat)(hm:n<=m)(Zm:m<=c)
  (kk:∀ys:List Value,ys.length=(m-n)*s->G N ds S w0 L (H.set k (ai (some ⟨b,o,none⟩) m c e s (xs++ys))) p):G N ds S w0 L H p:=λa w hS=>by
 obtain⟨ys,h1,h2⟩:=hS.wd.grow hk m hm Zm;exact kk ys h1 a w ⟨hS.fr,h2⟩
end
section
variable {P:Program} {ro:Option Nat} {N:Nat} {ds:List Deferred} {S:Nat->Prop} {w0 w:World} {L:List (Nat×Value)} {H Hr:List bN} {ops:Array Oper} {rest:List Oper} {Q:Exit->Act->World->Prop} {p:Act->World->Prop} {x y:Operand} {M:Act->World->Prop} {l:List Oper} {bE:Nat} {listed:Array Bool}
instance{T n k s:Nat}{ad:Option Addr}[hx:Ev L x (.slice ad n k)][h:ep P T s]:dz P N ds S w0 L H (.call {callee:=.builtin .cap,args:=#[x],argTypes:=#[T]}) (.int .i64 k):=
 ⟨λ_ h=>(by cases h),λ_ _ h=>(by cases h),λ_ ty _ _ _ a w hF _=>by simp[execOp,resolve,invoke,builtin,hx.eq _ _ _ hF,run_cap_slice w T ty ad n k h.oI,goInt]⟩
theorem SN{d ty f:Nat}{args:List Operand}{vs:List Value}{og:Array Nat}{pos:String}{aft:Array Go.Edge}{u:Value}[hx:zk L args vs](hd:dj d N L=true)
  (hc:∀w,Wd S w0 H w->(callFunc f vs.toArray).run P w=.ok (.value u) w)
  (k:G N ds S w0 ((d,u)::L) H (wpListIn (FW ro) 0 P ops Q rest)):G N ds S w0 L H (wpListIn (FW ro) 0 P ops Q (⟨some d,.call {callee:=.value (.func f),args:=args.toArray,argTypes:=og},ty,pos,aft,none⟩::rest)):=λa w hS=>by
 refine eG (v:=u) (w':=w) rfl (λ_ h=>by cases h) ?_ (k _ _ ⟨hS.fr.dP hd _,hS.wd⟩);simp[execOp,resolve,Act.eval,Deferred.ofValue,invoke,hx.eq _ _ _ hS.fr,hc w hS.wd]
theorem LF{d ty dT sT e s jZ b o off n c dl dc sl sc sb so:Nat}{zs:List Value}(k:Nat){xs:List Value}(m:Nat)(cs:List Value){pos:String}{aft:Array Go.Edge}[h:cB P dT e s jZ zs][hx:Ev L x (.slice (some ⟨b,o+off,none⟩) dl dc)][hy:Ev L y (.slice (some ⟨sb,so,none⟩) sl sc)]
  (hk:H[k]?=some (ai (some ⟨b,o,none⟩) n c e s xs)) (hm:m=min sl dl) (hn:cs.length=m*s) (r5:∀w,Wd S w0 H w->∀j v,cs[j]?=some v->w.cell? ⟨sb,so+j,none⟩=some v) (fW:off+cs.length<=xs.length) (h1:∀v∈cs,v.oneCell'=true) (a:Act) (w:World) (hS:St N ds S w0 L H a w):
  ∃w',(execOp a.eval ⟨some d,.call {callee:=.builtin .copy,args:=#[x,y],argTypes:=#[dT,sT]},ty,pos,aft,none⟩).run P w=.ok (.value (.int .i64 m)) w'/\Wd S w0 (H.set k (ai (some ⟨b,o,none⟩) n c e s (xs.take off++cs++xs.drop (off+cs.length)))) w':=by
 subst hm;obtain⟨hl,pE,zS,pre,sp,rfl,Eo,hb⟩:=hS.wd.km hk;obtain⟨i,zz,hi,_,_,Tj,_⟩:=h.get;have bT:b<w.heap.size:=(fI.1 hb).1;have hr:=vk (P:=P) w dT sT ty e s b (pre.length+off) dl dc ⟨sb,so,none⟩ sl sc _ e cs h.oI (by rw[hi];simp[Tj]) hb hn (λj v hj=>by rw[Addr.add_lit];exact r5 w hS.wd j v hj) (by simp;omega) h1;have fK:(pre++xs++sp).take (pre.length+off)++cs++(pre++xs++sp).drop (pre.length+off+cs.length)=pre++(xs.take off++cs++xs.drop (off+cs.length))++sp:=by
  rw[dE pre xs sp,qW,dA,tX,jY ag,wA ag];simp
 simp only at hr;rw[fK]at hr;refine⟨w.setRow b (pre++(xs.take off++cs++xs.drop (off+cs.length))++sp).toArray,?_,?_⟩
 ·have e1:Nat.min sl dl=min sl dl:=rfl
  simp[execOp,resolve,invoke,builtin,hx.eq _ _ _ hS.fr,hy.eq _ _ _ hS.fr,hr,goInt,e1]
 ·have oj:∀q:Array Value,(w.setRow b q).heap.size=w.heap.size:=λq=>by simp[World.setRow]
  refine hS.wd.kf hk ⟨rfl,rfl,rfl,by rw[oj];exact bH _,λj _ hj=>setRow_other w b j _ λe'=>hj (by simp[ai,e'])⟩ (λb' mL=>?_) λw2 jl=>?_
  ·simp only[ai,bz,bW]at mL⊢
   subst mL;exact⟨.inl rfl,by rw[oj];exact bT⟩
  ·have:=jl b (by simp[ai])
   refine⟨?_,.inr ⟨b,pre,sp,rfl,pE,zS,Eo,?_⟩⟩
   ·simp only[bR,cU,ez];omega
   ·rw[this]
    exact setRow_heap w b _ _ e _ hb
theorem S_{d ty dT sT e s jZ b o off n c dl dc sl sc sb so:Nat}{zs:List Value}(i0 k:Nat){xs:List Value}(m:Nat)(cs:List Value){pos:String}{aft:Array Go.Edge}[ho:dm l i0 ⟨some d,.call {callee:=.builtin .copy,args:=#[x,y],argTypes:=#[dT,sT]},ty,pos,aft,none⟩][h:cB P dT e s jZ zs][hx:Ev L x (.slice (some ⟨b,o+off,none⟩) dl dc)][hy:Ev L y (.slice (some ⟨sb,so,none⟩) sl sc)]
  (hk:H[k]?=some (ai (some ⟨b,o,none⟩) n c e s xs)) (hd:dj d N L=true) (hm:m=min sl dl) (hn:cs.length=m*s) (r5:∀w,Wd S w0 H w->∀j v,cs[j]?=some v->w.cell? ⟨sb,so+j,none⟩=some v) (fW:off+cs.length<=xs.length) (h1:∀v∈cs,v.oneCell'=true)
  (hr:decide (Region.ready .any l.toArray listed=[i0])=true) (hH:Hr.Sublist (H.set k (ai (some ⟨b,o,none⟩) n c e s (xs.take off++cs++xs.drop (off+cs.length)))))
  (kk:G N ds S w0 ((d,.int .i64 m)::L) (H.set k (ai (some ⟨b,o,none⟩) n c e s (xs.take off++cs++xs.drop (off+cs.length)))) (wpAnyH P .any l.toArray (dy M) (Wd S w0 Hr) bE (listed.setIfInBounds i0 true))):
  G N ds S w0 L H (wpAnyH P .any l.toArray (dy M) (Wd S w0 Hr) (bE+1) listed):=
 F5 i0 rfl hr λa w hS=>by
  obtain⟨w',h2,h3⟩:=LF (P:=P) (d:=d) (ty:=ty) (sT:=sT) (pos:=pos) (aft:=aft) (h:=h) (hx:=hx) (hy:=hy) k m cs hk hm hn r5 fW h1 a w hS;exact⟨_,w',h2,h3.sub hH,kk _ _ ⟨hS.fr.dP hd _,h3⟩⟩
end
noncomputable def ovT:Nat:=Tryz.f187.params[0]!
noncomputable def ovR:Nat:=Tryz.f187.resultTypes[0]!
theorem EK(args:Array Value)(w:World):(callFunc 187 args).run Tryz.prog w=((Extern.SlicesOverlaps.overlaps #[ovT,ovT] #[ovR] args).run Tryz.prog w).andThen λv w'=>.ok (.value v) w':=
 run_callFunc_extern (fn:=Tryz.f187) Tryz.func187 aP aP aP aP args w
theorem Ug:Tryz.prog.underlying ovT=some (.slice 41):=by kernel_rfl
theorem QS:(Tryz.prog.info? 41).map (·.size)=some 2:=by kernel_rfl
theorem EJ{S:Nat->Prop}{w0 w:World}{b1 o1 n1 c1 b2 o2 n2 c2 e:Nat}{x1 x2:List Value}(hw:Wd S w0 [ai (some ⟨b1,o1,none⟩) n1 c1 e 2 x1,ai (some ⟨b2,o2,none⟩) n2 c2 e 2 x2] w)(h1:x1≠[])(h2:x2≠[])(oa ob la ca lb cb:Nat):
  (callFunc 187 #[.slice (some ⟨b2,oa,none⟩) la ca,.slice (some ⟨b1,ob,none⟩) lb cb]).run Tryz.prog w=.ok (.value (.bool false)) w:=by
 obtain⟨_,_,_,aeK,sp1,_,_,HD⟩:=hw.km (k:=0) rfl;obtain⟨_,_,_,agY,sp2,_,_,wi⟩:=hw.km (k:=1) rfl;have eH:b2≠b1:=λe2=>by
  have h3:=(fN.1 hw.apart).1 (ai (some ⟨b2,o2,none⟩) n2 c2 e 2 x2) aH b1 (by simp[ai]);exact h3 (by simp[ai,e2])
 obtain⟨i,hi,Tj⟩:=cT.1 QS;have hlen:(aeK++x1++sp1).length≠0:=by
  simp only[bR];have:=rR.2 h1;omega
 rw[EK,Go.Lib.run_overlaps_apart w ovT ovR 41 Ug 2 (λw=>by simp[sizeOf,typeInfo,hi,Tj]) ⟨b2,oa,none⟩ ⟨b1,ob,none⟩ la ca lb cb eH e e _ _ (by simp only[World.shape?,wi];rfl) (by simp only[World.shape?,HD];rfl) (by simpa using hlen) (by simp[World.frozen?,wi]) (by simp[World.frozen?,wi])]
 rfl
theorem IV{α:Type}(v:α):∀(k:Nat) (l:List α),k<=l.length->l.insertIdx k v=l.take k++v::l.drop k
 |0,l,_=>by simp
 |k+1,[],h=>by simp at h
 |k+1,x::l,h=>by
  rw[List.insertIdx_succ_cons,IV v k l (by simpa using h)]
  rfl
theorem GG(b o c:Nat)(l:List cm)(k:Nat)(v:cm)(vb:Nat)(hk:k<=l.length)(ri:l.length+1<=c)(hb:l.length<=1000)(w0:World)
  (hW:Wd (cF [ai (some ⟨b,o,none⟩) l.length c 41 2 (l.flatMap df),ai (some ⟨vb,0,none⟩) 1 1 41 2 [.bool v.bD,.int .i64 v.n]]) w0 [ai (some ⟨b,o,none⟩) l.length c 41 2 (l.flatMap df),ai (some ⟨vb,0,none⟩) 1 1 41 2 [.bool v.bD,.int .i64 v.n]] w0):
  gV Tryz.prog 169 [.slice (some ⟨b,o,none⟩) l.length c,.int .i64 k,.slice (some ⟨vb,0,none⟩) 1 1] w0 λu w'=>∃x:Option Addr×Nat,u=.slice x.1 (l.length+1) x.2/\Wd (cF [ai (some ⟨b,o,none⟩) l.length c 41 2 (l.flatMap df),ai (some ⟨vb,0,none⟩) 1 1 41 2 [.bool v.bD,.int .i64 v.n]]) w0 [ai x.1 (l.length+1) x.2 41 2 ((l.insertIdx k v).flatMap df)] w':=by
 obtain⟨n,hn⟩:∃n,n=l.length:=⟨_,rfl⟩;obtain⟨SS,C4⟩:∃SS,SS=cF [ai (some ⟨b,o,none⟩) l.length c 41 2 (l.flatMap df),ai (some ⟨vb,0,none⟩) 1 1 41 2 [.bool v.bD,.int .i64 v.n]]:=⟨_,rfl⟩;rw[<-C4]at hW⊢;rw[<-hn]at hk ri hb hW⊢;have C6:(l.flatMap df).length=n*2:=by rw[ct eB,hn]
 have Vr:(l.insertIdx k v).flatMap df=(l.flatMap df).take (k*2)++[.bool v.bD,.int .i64 v.n]++(l.flatMap df).drop (k*2):=by
  rw[(kC eB l k).1,(kC eB l k).2,IV v k l ag,gO,gx,dE]
  rfl
 obtain⟨FL,hFL⟩:∃FL,FL=l.flatMap df:=⟨_,rfl⟩;rw[<-hFL]at C6 hW Vr;refine aQ Tryz.func169 rfl Tryz.ntmps169 rfl hW ?_;refine zP 0 rfl λ_ pE W4=>?_;have c0:Fe k n:=⟨hk⟩;refine aO ?_;refine aN (λh1=>?_) (λh1=>?_)
 ·obtain rfl:k=n:=by have:=of_decide_eq_true h1;omega
  refine aU ?_;refine gq 0 rfl rfl aq ag ag λna nc=>?_;refine aI ?_;have nZ:(l.insertIdx k v).flatMap df=FL++[.bool v.bD,.int .i64 v.n]:=by
   rw[hFL,hn,List.insertIdx_length_self,gO]
   rfl
  exact cA rfl λw hw=>⟨(na,nc),rfl,by rw[nZ];exact hw.sub (dn ou)⟩
 have L9:k<n:=by have:=of_decide_eq_false h1;omega
 refine aO ?_;rw[show decide ((c:Int)<(n:Int)+((1:Nat):Int))=false by simp;omega];have LU:∀(m:Nat),m<=100000->∀(L:List (Nat×Value)) (H:List bN) (T T2:Nat) (x y:Operand) [Ev L x (.int .i64 (m:Int))] [Ev L y (.int .i64 ((1:Nat):Int))],dz Tryz.prog 95 [] SS w0 L H (.binOp .add T x y T2) (.int .i64 ((m+1:Nat):Int)):=λm hm L H T T2 x y _ _=>by
  have:=Hb (P:=Tryz.prog) (N:=95) (ds:=[]) (S:=SS) (w0:=w0) (L:=L) (H:=H) (T:=T) (T2:=T2) (x:=x) (y:=y) (m:=(m:Int)) (n:=((1:Nat):Int)) ag ag;rwa[show(m:Int)+((1:Nat):Int)=((m+1:Nat):Int) by omega]at this
 have aeS:=LU n ag;have aeR:=LU k ag;have c1:CI (n+1) c:=⟨ri⟩;have c2:Fe (k+1) (n+1):=⟨ag⟩;have c3:Fe k (n+1):=⟨ag⟩;have e1:H9 b o (k+1) 2 c=some ⟨b,o+(k+1)*2,none⟩:=by unfold H9;rw[if_neg ag]
 have e2:H9 b o k 2 c=some ⟨b,o+k*2,none⟩:=by unfold H9;rw[if_neg ag]
 refine aO ?_;rw[e1];refine SN rfl (λw hw=>EJ hw (λe=>by rw[e]at C6;simp at C6;omega) aH _ _ _ _ _ _) ?_;refine aO ?_;refine Wu 0 rfl (n+1) ag ri λys Zs=>?_;simp only[bS];refine rY [] mixed ap ?_;refine az 0 rfl aq ap ?_;refine az 1 rfl aq ap ?_;refine az 2 rfl aq ap ?_;refine az 3 rfl aq ap ?_;refine az 4 rfl aq ap ?_;refine az 5 rfl aq ap ?_;refine az 6 rfl aq ap ?_;refine az 7 rfl aq ap ?_;rw[e1,e2];refine S_ 8 0 (off:=(k+1)*2) (n-k) (FL.drop (k*2)) rfl rfl ag (by rw[ez];omega) (λw hw j u hj=>?_) (by rw[bR,ez];omega) (λu hu=>by rw[hFL]at hu;exact K_ u (List.mem_of_mem_drop hu)) aq ap ?_
 ·rw[g_]at hj
  have jE:=(aC.1 hj).1;have:=hw.cK (k:=0) rfl (j:=k*2+j) (v:=u) (by rw[dG jE];exact hj);rw[show o+k*2+j=o+(k*2+j) by omega];exact this
 refine eF aq ?_;simp only[bS];have hX:(FL++ys).take ((k+1)*2)++FL.drop (k*2)++(FL++ys).drop ((k+1)*2+(FL.drop (k*2)).length)=FL.take ((k+1)*2)++FL.drop (k*2):=by
  rw[jY ag,List.drop_of_length_le (l:=FL++ys) (by rw[bR,ez];omega),cq]
 rw[hX];have hXl:(FL.take ((k+1)*2)++FL.drop (k*2)).length=(n+1)*2:=by rw[bR,cU,ez];omega
 refine aU ?_;rw[e2];refine D9 (off:=k*2) 0 1 [.bool v.bD,.int .i64 v.n] rfl rfl ag rfl (λw hw j u hj=>?_) (by rw[hXl];simp only[ie,ql];omega) (by simp[Value.oneCell']) ?_
 ·have:=hw.cK (k:=1) rfl hj
  exact this
 simp only[bS];have hY:(FL.take ((k+1)*2)++FL.drop (k*2)).take (k*2)++[.bool v.bD,.int .i64 v.n]++(FL.take ((k+1)*2)++FL.drop (k*2)).drop (k*2+[Value.bool v.bD,.int .i64 v.n].length)=(l.insertIdx k v).flatMap df:=by
  rw[Vr,jY (by rw[cU];omega),List.take_take,iA ag];congr 1;rw[List.drop_append,List.drop_of_length_le (l:=FL.take ((k+1)*2)) (by rw[cU];simp only[ie,ql];omega),aT,cU];rw[show k*2+[Value.bool v.bD,.int .i64 v.n].length-min ((k+1)*2) FL.length=0 by simp only[ie,ql];omega,List.drop_zero]
 rw[hY];refine aI ?_;exact cA rfl λw hw=>⟨(some ⟨b,o,none⟩,c),rfl,hw.sub (dn ou)⟩
end
section
open Go Go.RowKit
theorem GD(b:Nat):∀l:List Nat,l.Pairwise (·<·)->b∉l->(l.insertIdx (l.filter λa=>decide (a<b)).length b).Pairwise (·<·)/\∀y,y∈l.insertIdx (l.filter λa=>decide (a<b)).length b↔y=b∨y∈l
 |[],_,_=>⟨by simp,by simp⟩
 |a::l,hs,hb=>by
  obtain⟨h1,h2⟩:=fN.1 hs;have OF:a≠b:=λe=>hb (by rw[e];exact rS);have iR:b∉l:=λe=>hb (cJ _ e)
  by_cases h:a<b
  ·obtain⟨i1,i2⟩:=GD b l h2 iR
   rw[List.filter_cons_of_pos (by simpa using h),ie,List.insertIdx_succ_cons];refine⟨fN.2 ⟨λy hy=>?_,i1⟩,λy=>?_⟩
   ·rcases(i2 y).1 hy with rfl|hy
    ·exact h
    ·exact h1 y hy
   ·rw[bJ,i2,bJ]
    constructor
    ·rintro(h|h|h)
     ·exact .inr (.inl h)
     ·exact .inl h
     ·exact .inr (.inr h)
    ·rintro(h|h|h)
     ·exact .inr (.inl h)
     ·exact .inl h
     ·exact .inr (.inr h)
  ·have cP:(a::l).filter (λa=>decide (a<b))=[]:=List.filter_eq_nil_iff.2 λy hy=>by
    rcases bJ.1 hy with rfl|hy
    ·simpa using h
    ·have:=h1 y hy
     simp;omega
   rw[cP];refine⟨?_,λy=>by simp⟩;show(b::a::l).Pairwise _;refine fN.2 ⟨λy hy=>?_,hs⟩;rcases bJ.1 hy with rfl|hy
   ·omega
   ·have:=h1 y hy
    omega
def MW(bl:List ar)(b t c:Nat):Nat:=((bf bl c).filter λa=>decide (a<b)&&decide (a≠t)).length
def xt(bl:List ar)(b t c:Nat)(p:eC):eC:=⟨p.dst,(p.src.eraseIdx ((bf bl c).idxOf t)).insertIdx (MW bl b t c) (p.src.getD ((bf bl c).idxOf t) gK)⟩
theorem vh{α β:Type}(f:α->β)(x:α):∀(k:Nat) (l:List α),(l.insertIdx k x).map f=(l.map f).insertIdx k (f x)
 |0,l=>by simp
 |k+1,[]=>by simp
 |k+1,y::l=>by rw[List.insertIdx_succ_cons,bO,bO,List.insertIdx_succ_cons,vh f x k l]
theorem Js{bl:List ar}{b t c:Nat}(hj:iy bl b t)(hc:c≠t)(hm:t∈bf bl c):kK bl b t c=((bf bl c).eraseIdx ((bf bl c).idxOf t)).insertIdx (MW bl b t c) b:=by
 have oh:=jH bl c;have hs:=MU bl c;have he:(bf bl c).eraseIdx ((bf bl c).idxOf t)=(bf bl c).filter λa=>decide (a≠t):=by
  rw[<-List.erase_eq_eraseIdx_of_idxOf rfl,oh.erase_eq_filter];refine rO λx _=>?_;simp[bne,BEq.beq,decide_not]
 have hr:MW bl b t c=(((bf bl c).filter λa=>decide (a≠t)).filter λa=>decide (a<b)).length:=by
  unfold MW;rw[List.filter_filter]
 rw[he,hr];obtain⟨h1,h2⟩:=GD b ((bf bl c).filter λa=>decide (a≠t)) (hs.sublist mg) (λh=>pN hj hc (cI.1 h).1);have h3:(kK bl b t c).Pairwise (·<·):=List.pairwise_lt_range.sublist mg;have Tp:∀{l:List Nat},l.Pairwise (·<·)->l.Nodup:=λh=>h.imp λh=>Nat.ne_of_lt h;have hp:=(s5 (Tp h3) (Tp h1)).2 λq=>by
  rw[h2,cI,decide_eq_true_eq,jU hj hc]
  by_cases e:q=b
  ·rw[if_pos e]
   exact⟨λ_=>.inl e,λ_=>⟨λe2=>hj.ne (e2▸e),hm⟩⟩
  ·rw[if_neg e]
   exact⟨λh=>.inr ⟨h.2,h.1⟩,λh=>h.elim (λh=>absurd h e) λh=>⟨h.2,h.1⟩⟩
 exact BO (f:=λx:Nat=>x) hp.symm h1 (h3.imp λh=>.inl h)
theorem RD{bl:List ar}{b t c:Nat}(hj:iy bl b t)(hc:c≠t)(hm:t∈bf bl c)(p:eC)(hp:p.src.length=(bf bl c).length):xt bl b t c p=E_ bl b t c p:=by
 have r5:p.src=(bf bl c).map (kj bl c p):=by
  apply cf;intro j;rw[aK]
  by_cases h:j<(bf bl c).length
  ·obtain⟨q,hq⟩:∃q,(bf bl c)[j]?=some q:=⟨_,aB h⟩
   obtain⟨v,hv⟩:∃v,p.src[j]?=some v:=⟨_,aB ag⟩;have h5:=r9 (jH bl c) (i:=j) h;rw[ki hq]at h5;rw[hq,hv,bz];unfold kj;rw[h5,cz,hv]
   rfl
  ·rw[bM ag,bM ag]
   rfl
 unfold xt E_;congr 1;have hv:p.src.getD ((bf bl c).idxOf t) gK=kj bl c p t:=rfl;rw[Js hj hc hm,vh,if_pos rfl,hv];congr 1
 conv=>lhs;rw[r5]
 rw[<-Cx];refine fw λq hq=>?_;have E5:=List.mem_of_mem_eraseIdx hq;rw[if_neg (λe:q=b=>pN hj hc (e▸E5))]
theorem QW{bl:List ar}{b t c:Nat}(hj:iy bl b t)(hc:c≠t)(hm:t∉bf bl c)(p:eC)(hp:p.src.length=(bf bl c).length):E_ bl b t c p=p:=by
 obtain⟨pd,ps⟩:=p;have wU:kK bl b t c=bf bl c:=by
  unfold kK bf;refine rO λq hq=>?_;have Cb:=cQ.1 hq;unfold Sc;have XC:¬(c:Int)∈dd bl t:=λh=>hm (pg hj.Ht h);have hmb:¬(c:Int)∈dd bl b:=λh=>pN hj hc (pg hj.blt h)
  by_cases h1:q=t
  ·rw[if_pos h1,h1]
   simp[XC]
  ·rw[if_neg h1]
   by_cases h2:q=b
   ·rw[if_pos h2,h2]
    simp[XC,hmb]
   ·rw[if_neg h2]
 unfold E_;simp only at hp⊢;congr 1;rw[wU];apply cf;intro j;rw[aK]
 by_cases h:j<(bf bl c).length
 ·obtain⟨q,hq⟩:∃q,(bf bl c)[j]?=some q:=⟨_,aB h⟩
  obtain⟨v,hv⟩:∃v,ps[j]?=some v:=⟨_,aB ag⟩;have h5:=r9 (jH bl c) (i:=j) h;rw[ki hq]at h5;rw[hq,hv,bz,if_neg (λe:q=b=>pN hj hc (e▸aA hq))];unfold kj;simp only;rw[h5,cz,hv]
  rfl
 ·rw[bM ag,bM ag]
  rfl
end
section
open Go Go.RowKit
attribute [local irreducible] wpListIn Code.wpIn Exit.then Exit.inBlock bodyPost wpQuiet wpAnyIn wpAnyH bodyPostM gX
set_option maxHeartbeats 8000000
def gv(T:aR)(ps:List cG):aR:={T with ps:=ps}
theorem UJ{S:Nat->Prop}{w0 w:World}{X:List bN}{a:Option Addr}{n c t:Nat}{zs:List aR}{T:aR}{ps:List cG}(hT:zs[t]?=some T)(hn:n=zs.length)(wV:ps.length=T.ps.length)
  (h:Wd S w0 (X++(ai a n c 46 6 (zs.flatMap bg)::ai T.pa T.ps.length T.pc 49 2 (ps.flatMap ci)::tx T::nE T::(ps.map e7++(T.xs.map jo++(zs.eraseIdx t).map b_)))) w):Wd S w0 (X++ff a c (zs.set t (gv T ps))) w:=by
 have xC:=(aC.1 hT).1;have h2:Wd S w0 (jb (gv T ps)++(X++(ai a n c 46 6 (zs.flatMap bg)::(zs.eraseIdx t).map b_))) w:=by
  refine h.perm ?_;unfold jb gv tx nE;simp only[wV]
  classical
  refine aJ.2 λe=>?_;simp only[bu,bi];omega
 refine(Wd.join h2).perm ?_;have h5:=iB b_ (l:=zs.set t (gv T ps)) (k:=t) (x:=gv T ps) (ey xC);rw[oL]at h5;have h6:(zs.set t (gv T ps)).flatMap bg=zs.flatMap bg:=FK hT (by unfold gv bg;simp only[wV]);unfold ff;rw[eA,h6,hn]
 classical
 refine aJ.2 λe=>?_;have h7:=aJ.1 h5 e;simp only[bu,bi,b_]at h7⊢;omega
theorem B0{S:Nat->Prop}{w0 w:World}{X:List bN}{a:Option Addr}{c t:Nat}{zs:List aR}{T:aR}(hT:zs[t]?=some T)(h:Wd S w0 (X++ff a c zs) w):
  Wd S w0 (X++(ai a zs.length c 46 6 (zs.flatMap bg)::ai T.pa T.ps.length T.pc 49 2 (T.ps.flatMap ci)::tx T::nE T::(T.ps.map e7++(T.xs.map jo++(zs.eraseIdx t).map b_)))) w:=by
 have h2:Wd S w0 (b_ T::(X++(ai a zs.length c 46 6 (zs.flatMap bg)::(zs.eraseIdx t).map b_))) w:=by
  refine h.perm ?_;unfold ff;have h3:=iB b_ hT
  classical
  refine aJ.2 λe=>?_;have h4:=aJ.1 h3 e;simp only[bu,bi]at h4⊢;omega
 refine h2.oA.perm ?_;unfold jb tx nE
 classical
 refine aJ.2 λe=>?_;simp only[bu,bi];omega
theorem LI{α:Type}{g:α->List Value}{s:Nat}(hg:∀x,(g x).length=s){l:List α}{i k:Nat}{x y:α}(hi:l[i]?=some x){vs:List Value}(hk:k+vs.length=s)(hy:(g x).take k++vs=g y):(l.flatMap g).take (i*s+k)++vs++(l.flatMap g).drop (i*s+k+vs.length)=(l.set i y).flatMap g:=by
 have iQ:=(aC.1 hi).1;rw[<-jy hg iQ y,<-hy];have e1:i*s+k+vs.length=i*s+s:=ag;rw[e1];congr 1;rw[List.take_add,<-dE];congr 2;have e2:=(kC hg l i).2;rw[e2,lF iQ,gx,jY (by rw[hg];omega),(aC.1 hi).2]
theorem VX{α β:Type}(f:α->β){l:List α}{b t:Nat}{B T:α}(hb:l[b]?=some B)(ht:l[t]?=some T)(eH:b≠t):∃R:List β,(l.map f).Perm (f B::f T::R)/\∀c x,l[c]?=some x->c≠b->c≠t->f x∈R:=by
 have iR:=(aC.1 hb).1;have xC:=(aC.1 ht).1;obtain⟨h,hh⟩:∃h:Nat->β,h=λc=>f (l[c]?.getD B):=⟨_,rfl⟩;have h1:l.map f=(List.range l.length).map h:=by
  apply cf;intro j;rw[aK,aK]
  by_cases hj:j<l.length
  ·rw[eQ hj,aB hj,hh]
   simp[aB hj]
  ·rw[bM ag,bM (by rw[fG];omega)];rfl
 have h2:(List.range l.length).Perm (b::t::(List.range l.length).filter λc=>decide (c≠b/\c≠t)):=by
  refine(s5 rT ?_).2 λx=>?_
  ·rw[mh,mh]
   refine⟨?_,?_,List.nodup_range.sublist mg⟩
   ·rw[bJ,cI]
    simp[eH]
   ·rw[cI]
    simp
  ·rw[bJ,bJ,cI,cQ,decide_eq_true_eq]
   constructor
   ·intro hx
    by_cases e1:x=b
    ·exact .inl e1
    ·by_cases e2:x=t
     ·exact .inr (.inl e2)
     ·exact .inr (.inr ⟨hx,e1,e2⟩)
   ·rintro(rfl|rfl|⟨hx,_⟩)
    ·exact iR
    ·exact xC
    ·exact hx
 refine⟨((List.range l.length).filter λc=>decide (c≠b/\c≠t)).map h,?_,λc x hx e1 e2=>?_⟩
 ·have e3:h b=f B:=by rw[hh];simp only[hb,dF]
  have e4:h t=f T:=by rw[hh];simp only[ht,dF]
  rw[h1,<-e3,<-e4];exact h2.map h
 ·refine aX.2 ⟨c,cI.2 ⟨cQ.2 (aC.1 hx).1,by simp[e1,e2]⟩,?_⟩
  rw[hh];simp only[hx,dF]
theorem Qh(bl:List ar)(c d:Nat):(a8 bl c).list.length+(a8 bl d).list.length<=dV bl∨c=d:=by
 by_cases e:c=d
 ·exact .inr e
 refine .inl ?_;have h0:∀x,¬x<bl.length->(a8 bl x).list.length=0:=λx hx=>by rw[vt hx];rfl
 have h1:∀x,x<bl.length->(a8 bl x).list.length<=dV bl:=λx hx=>by
  have h2:=(iB Fb (bK hx)).sum_nat;rw[et]at h2;rw[rp];have h3:(a8 bl x).list.length<=Fb (a8 bl x):=by unfold Fb;omega
  omega
 by_cases hc:c<bl.length
 ·by_cases hd:d<bl.length
  ·obtain⟨R,hR,_⟩:=VX Fb (bK hc) (bK hd) e
   have h2:=hR.sum_nat;rw[et,et]at h2;rw[rp,h2];unfold Fb;omega
  ·rw[h0 d hd]
   have:=h1 c hc;omega
 ·rw[h0 c hc]
  by_cases hd:d<bl.length
  ·have:=h1 d hd
   omega
  ·rw[h0 d hd]
   omega
end
end Go.Proofs.YthfhgolkafpmnaaGreatDoor
