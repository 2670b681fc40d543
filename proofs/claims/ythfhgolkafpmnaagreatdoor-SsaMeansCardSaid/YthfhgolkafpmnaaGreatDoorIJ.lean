/- Texts joined: RepB Ins InsV RenP DoH DoI SplitT JoinR TidyX TidyY TidyZ JnP ChainR JoinedR TidyR. -/
import Derived.Lib.Overlaps
import Derived.Test.YthfhgolkafpmnaaGreatDoorIF
namespace Go.Proofs.YthfhgolkafpmnaaGreatDoor
open Go.Value renaming int->U,slice->J,bool->D
open Go.IntKind renaming i64->O
open Option renaming some->Z,none->A
open Go renaming Value->V,World->C
open Go.Proofs.Tryz
open Go.Proofs.Tryz renaming prog->ae
open Go Go.RowKit
section
set_option maxHeartbeats 8000000
attribute [local irreducible] wpListIn Code.wpIn Exit.then Exit.inBlock bodyPost wpQuiet wpAnyIn wpAnyH
section
section
variable {P:Program} {ro:Option Nat} {N:Nat} {ds:List Deferred} {S:Nat->Prop} {w0:C} {L L':List (Nat×V)} {H H':List bN} {ops:Array Oper} {rest:List Oper} {Q:Exit->Act->C->Prop} {x y:Operand}
theorem M8{α:Type}{d ty T e s jy n:Nat}{z1 z2:Int}{zs:List V}{pos:String}{aft:Array Go.Edge}[h:cI P T e s jy zs][hx:Ev L x (U O z1)][HN:lB z1 n][hy:Ev L y (U O z2)][PD:lB z2 n](hd:dy d N L=true)(hs:Nat.beq zs.length s=true)(hb:jy*n<=281474976710656)(hm:n<=140737488355328)(g:α->List V)(y0:α)(hg:g y0=zs)
  (k:∀b,w0.heap.size<=b->aki N ds S w0 ((d,J (Z ⟨b,0,A⟩) n n)::L) (M (Z ⟨b,0,A⟩) n n e s ((List.replicate n y0).flatMap g)::H) (wpListIn (FW ro) 0 P ops Q rest)):aki N ds S w0 L H (wpListIn (FW ro) 0 P ops Q (⟨Z d,.makeSlice T x y,ty,pos,aft,A⟩::rest)):=by
 intro a w hS;obtain⟨i,zz,hi,Tn,fT,h1,h2⟩:=h.get;have h3:=hx.eq _ _ _ hS.fr;have h4:=hy.eq _ _ _ hS.fr;have hs:=q9 hs;rw[HN.eq]at h3;rw[PD.eq]at h4;have Si:(i.bytes:Int)*(n:Int)<=281474976710656:=by
  have e:((jy*n:Nat):Int)<=281474976710656:=I;rw[Int.natCast_mul]at e;rw[h2];exact e
 have hr:=run_make (P:=P) w T e i zz h.qx hi Tn O O (n:Int) (n:Int) I (Int.le_refl _) Si I;have Fm:(List.replicate n y0).flatMap g=(List.replicate n zs).flatten:=by rw[qB,List.map_replicate,hg]
 have nK:madeCells zz.cells ((n:Int).toNat*i.size)=((List.replicate n y0).flatMap g).toArray:=by
  have:=py zs n;rw[h1,fT,dO,Fm,<-this,hs]
 refine ft (v:=.slice (Z ⟨w.heap.size,0,A⟩) n n) (w':=w.alloc (.cells ((List.replicate n y0).flatMap g).toArray e)) rfl (λ_ h=>by cases h) ?_ ?_
 ·simp only[dO]at hr nK
  simp[execOp,h3,h4,hr,nK]
 ·exact k _ hS.wd.size _ _ ⟨hS.fr.eo hd _,hS.wd.yd e s n _ (by rw[Fm,List.length_flatten];simp[hs]) (by unfold maxLen;omega)⟩
theorem xl(w:C)(dT sT ty elem:TypeId)(s g o aam afc:Nat)(a:Addr)(ab3 ahN:Nat)(cur:Array V)(t:TypeId)(cs:List V)
  (hu:P.underlying dT=Z (.slice elem)) (hs:(P.info? elem).map (·.size)=Z s)
  (hg:w.heap[g]?=Z (.cells cur t (0,0))) (hn:cs.length=Nat.min ab3 aam*s)
  (tY:∀j v,cs[j]?=Z v->w.cell? (a.add j)=Z v) (gI:o+cs.length<=cur.size) (h1:∀v∈cs,v.oneCell'=true):
  (Builtin.copy_ #[dT,sT] ty #[J (Z ⟨g,o,A⟩) aam afc,J (Z a) ab3 ahN]).run P w=
   .ok (goInt (Nat.min ab3 aam:Nat)) (w.setRow g (cur.toList.take o++cs++cur.toList.drop (o+cs.length)).toArray):=by
 have hl:=run_loadCells_list (P:=P) w a cs tY;have lK:=run_storeCells_at P g o t cs 0 cur w hg (ax gI) h1;cases hq:P.info? elem with
 |none=>simp[hq]at hs
 |some i=>
  have hi:i.size=s:=by simpa[hq]using hs
  simp[Builtin.copy_,run_underlying hu,Builtin.lenOf,Builtin.firstCells,sizeOf,typeInfo,hq,hi,<-hn,hl,lK]
theorem yO{d ty dT sT e s jy b o off n c dl dc sl sc sb so:Nat}{zs:List V}(k:Nat){xs:List V}(m:Nat)(cs:List V){pos:String}{aft:Array Go.Edge}[h:cI P dT e s jy zs][hx:Ev L x (J (Z ⟨b,o+off,A⟩) dl dc)][hy:Ev L y (J (Z ⟨sb,so,A⟩) sl sc)]
  (hk:H[k]?=Z (M (Z ⟨b,o,A⟩) n c e s xs)) (hd:dy d N L=true) (hm:m=min sl dl) (hn:cs.length=m*s) (tY:∀w,Wd S w0 H w->∀j v,cs[j]?=Z v->w.cell? ⟨sb,so+j,A⟩=Z v) (gI:off+cs.length<=xs.length) (h1:∀v∈cs,v.oneCell'=true)
  (kk:aki N ds S w0 ((d,U O m)::L) (H.set k (M (Z ⟨b,o,A⟩) n c e s (xs.take off++cs++xs.drop (off+cs.length)))) (wpListIn (FW ro) 0 P ops Q rest)):aki N ds S w0 L H (wpListIn (FW ro) 0 P ops Q (⟨Z d,.call {callee:=.builtin .copy,args:=#[x,y],argTypes:=#[dT,sT]},ty,pos,aft,A⟩::rest)):=λa w hS=>by
 subst hm;obtain⟨hl,qP,BZ,pre,sp,rfl,GR,hb⟩:=hS.wd.lu hk;obtain⟨i,zz,hi,_,_,W7,_⟩:=h.get;have bS:b<w.heap.size:=(fv.1 hb).1;have hr:=xl (P:=P) w dT sT ty e s b (pre.length+off) dl dc ⟨sb,so,A⟩ sl sc _ e cs h.qx (by rw[hi];simp[W7]) hb hn (λj v hj=>by rw[Addr.add_lit];exact tY w hS.wd j v hj) dp h1;have gr:(pre++xs++sp).take (pre.length+off)++cs++(pre++xs++sp).drop (pre.length+off+cs.length)=pre++(xs.take off++cs++xs.drop (off+cs.length))++sp:=by
  rw[dz pre xs sp,sQ,dI,vW,kV I,yv I];simp
 simp only at hr;rw[gr]at hr;refine ft (v:=.int O ((min sl dl:Nat):Int)) (w':=w.setRow b (pre++(xs.take off++cs++xs.drop (off+cs.length))++sp).toArray) rfl (λ_ h=>by cases h) ?_ ?_
 ·have e1:Nat.min sl dl=min sl dl:=rfl
  simp[execOp,resolve,invoke,builtin,hx.eq _ _ _ hS.fr,hy.eq _ _ _ hS.fr,hr,goInt,e1]
 ·refine kk _ _ ⟨hS.fr.eo hd _,?_⟩
  have pU:∀q:Array V,(w.setRow b q).heap.size=w.heap.size:=λq=>by simp[World.setRow]
  refine hS.wd.lj hk ⟨rfl,rfl,rfl,by rw[pU];exact bG _,λj _ hj=>setRow_other w b j _ λe'=>hj (by simp[M,e'])⟩ (λb' nO=>?_) λw2 jg=>?_
  ·simp only[M,bu,b_]at nO⊢
   subst nO;exact⟨.inl rfl,by rw[pU];exact bS⟩
  ·have:=jg b (by simp[M])
   refine⟨?_,.inr ⟨b,pre,sp,rfl,qP,BZ,GR,?_⟩⟩
   ·simp only[bX,dd,eY];omega
   ·rw[this]
    exact setRow_heap w b _ _ e _ hb
end
theorem FU{α:Type}(akj y:α)(m n k:Nat)(hk:k=min (n-m) m)(_hm:m<=n):(List.replicate m akj++List.replicate (n-m) y).take m++List.replicate k akj++(List.replicate m akj++List.replicate (n-m) y).drop (m+k)=List.replicate (m+k) akj++List.replicate (n-(m+k)) y:=by
 rw[kV aC,kh aC,List.drop_append,List.drop_of_length_le (by rw[dm];omega)];simp only[dm,aO,vX];have e:n-m-(m+k-m)=n-(m+k):=I;rw[<-List.replicate_append_replicate,e]
theorem yI{α:Type}{g:α->List V}{s:Nat}(hg:∀x,(g x).length=s)(l m:List α)(i:Nat):(l.flatMap g).take (i*s)++m.flatMap g++(l.flatMap g).drop (i*s+(m.flatMap g).length)=(l.take i++m++l.drop (i+m.length)).flatMap g:=by
 rw[cj hg,<-jJ,(lG hg l i).1,(lG hg l (i+m.length)).2];simp
def rN(x:Int×Int):List V:=[U O x.1,U O x.2]
theorem FV(b0 o0 n:Nat)(akj:Int×Int)(w:C)(hx:bF w b0 o0 (rN akj))(Pv:n<=1000):
  iC ae 89 [J (Z ⟨b0,o0,A⟩) 1 1,U O n] w λu w'=>∃a:Nat,u=J (Z ⟨a,0,A⟩) n n/\Wd cX w [M (Z ⟨a,0,A⟩) n n 129 2 ((List.replicate n akj).flatMap rN)] w'/\True:=by
 have hg:∀x:Int×Int,(rN x).length=2:=λ_=>rfl;refine aM func89 rfl ntmps89 rfl (Wd.nil cX w) ?_;refine aH ?_;rw[show decide ((n:Int)<0)=false by simp]
 skip
 refine qg rfl rfl ?_;refine aU ?_;refine qg rfl (by rw[IntKind.wrap_u64];omega) ?_;refine bB rfl (λw' _=>NL 1 n I I I w') ?_;rw[Nat.one_mul];refine aE ?_;rw[show decide (9223372036854775807<(n:Int))=false by simp;omega,show decide ((0:Int)<0)=false from rfl];refine aH ?_;refine qg rfl ?_ ?_
 ·rw[IntKind.wrap_i64];omega
 refine M8 rfl rfl I I rN ((0:Int),(0:Int)) rfl λa _=>?_;have wO:∀(l:List (Int×Int)),∀v∈l.flatMap rN,v.oneCell'=true:=λl v hv=>by
  obtain⟨q,_,hq⟩:=df.1 hv;simp only[rN,bD,h_,or_false]at hq;rcases hq with rfl|rfl<;>rfl
 refine aU ?_;refine yO (b:=a) (o:=0) (off:=0) 0 (min 1 n) ((List.replicate (min 1 n) akj).flatMap rN) rfl rfl rfl (by rw[cj hg,dm]) (λw' hw j v hj=>?_) (by rw[cj hg,cj hg,dm,dm];omega) (wO _) ?_
 ·obtain⟨i,x,k,h1,h2,rfl⟩:=nu hg _ _ _ hj
  have hi:=(az.1 h1).1;rw[dm]at hi;obtain rfl:=jK (aq h1);obtain rfl:i=0:=I;have:=fJ hw.ch (hx k v h2);rw[nT,di];exact this
 have e0:=yI hg (List.replicate n ((0:Int),(0:Int))) (List.replicate (min 1 n) akj) 0;rw[nT]at e0;simp only[bW];rw[e0];rw[show(List.replicate n ((0:Int),(0:Int))).take 0++List.replicate (min 1 n) akj++(List.replicate n ((0:Int),(0:Int))).drop (0+(List.replicate (min 1 n) akj).length)=List.replicate (min 1 n) akj++List.replicate (n-min 1 n) ((0:Int),(0:Int)) by simp[vX]];refine aH ?_;refine bL (λ(m:Nat)=>(1<=m∨n=0)/\m<=n) (λm=>[(8,U O m),(7,J (Z ⟨a,0,A⟩) n n)]) (λm=>[M (Z ⟨a,0,A⟩) n n 129 2 ((List.replicate m akj++List.replicate (n-m) ((0:Int),(0:Int))).flatMap rN)]) (λm=>n-m) (min 1 n) ⟨I,I⟩ (aS ap aK) λm ⟨Fo,hmn⟩=>?_;refine aU ?_;refine aI (λh1=>?_) (λh1=>?_)
 ·have bS:m<n:=ax h1
  have Pj:MP m n n:=⟨I,bS⟩;have HF:Ch m n:=⟨I⟩;refine aH ?_;refine v_ [(8,U O ((m+min m (n-m):Nat):Int)),(7,J (Z ⟨a,0,A⟩) n n)] [M (Z ⟨a,0,A⟩) n n 129 2 ((List.replicate (m+min m (n-m)) akj++List.replicate (n-(m+min m (n-m))) ((0:Int),(0:Int))).flatMap rN)] mixed ?_ ?_
  ·repeat' (first|refine eV 0 rfl ai ?_|refine eV 1 rfl ai ?_|refine eV 2 rfl ai ?_|refine eV 3 rfl ai ?_|refine eV 4 rfl ai ?_|refine eV 5 rfl ai ?_|refine eV 6 rfl ai ?_|refine yN ai ?_|refine any_nil|refine nQ ai ?_|refine any_cons ?_ ?_)
   refine yO (b:=a) (o:=0) (off:=m*2) 0 (min m (n-m)) ((List.replicate (min m (n-m)) akj).flatMap rN) rfl rfl rfl (by rw[cj hg,dm]) (λw' hw j v hj=>?_) (by rw[cj hg,cj hg,bX,dm,dm,dm];omega) (wO _) ?_
   ·obtain⟨i,x,k,h1,h2,rfl⟩:=nu hg _ _ _ hj
    have hi:=(az.1 h1).1;rw[dm]at hi;have hk:k<2:=(az.1 h2).1;refine hw.cL (k:=0) rfl (fB hg _ i x k v ?_ h2);rw[dY (by rw[dm];omega),g_,if_pos I];rw[jK (aq h1)]
   rw[yI hg,dm,FU akj ((0:Int),(0:Int)) m n _ (Nat.min_comm _ _) hmn];simp only[bW]
   repeat' (first|refine z_ ai ?_|refine yN ai ?_|refine any_nil|refine nQ ai ?_|refine any_cons ?_ ?_|refine lJ ?_|refine pQ ?_|refine vp rfl ?_|refine vm rfl I I ?_)
   all_goals
    rw[<-Int.natCast_add]
   skip
   all_goals exact aS ap aK
  ·refine aH ?_
   exact bj (m+min m (n-m)) ⟨I,I⟩ I ap aK
 ·have gP:m=n:=by have:=h1;simp at this;omega
  subst gP;rw[dN,List.replicate_zero,cD];refine aE ?_;exact cE rfl λw' hw=>⟨a,rfl,hw,trivial⟩
section
variable {P:Program} {N:Nat} {ds:List Deferred} {S:Nat->Prop} {w0 w:C} {L:List (Nat×V)} {H:List bN} {p:Act->C->Prop}
theorem Wd.grow(hW:Wd S w0 H w){k:Nat}{b o n c e s:Nat}{xs:List V}(hk:H[k]?=Z (M (Z ⟨b,o,A⟩) n c e s xs))(m:Nat)(hm:n<=m)(hmc:m<=c):
  ∃ys:List V,ys.length=(m-n)*s/\Wd S w0 (H.set k (M (Z ⟨b,o,A⟩) m c e s (xs++ys))) w:=by
 obtain⟨hl,qP,BZ,pre,sp,rfl,GR,hb⟩:=hW.lu hk;have bS:b<w.heap.size:=(fv.1 hb).1;have h1:(c-n)*s=(c-m)*s+(m-n)*s:=by rw[<-jJ];congr 1;omega
 have h2:(sp.take ((m-n)*s)).length=(m-n)*s:=by rw[dd];omega
 refine⟨sp.take ((m-n)*s),h2,hW.lj hk (l_.refl _ _) (λb' nO=>?_) λw2 jg=>?_⟩
 ·simp only[M,bu,b_]at nO⊢
  subst nO;exact⟨.inl rfl,bS⟩
 ·have:=jg b (by simp[M])
  refine⟨by rw[bX,h2,hl,<-jJ];congr 1;omega,.inr ⟨b,pre,sp.drop ((m-n)*s),rfl,I,BZ,?_,?_⟩⟩
  ·rw[eY]
   omega
  ·rw[this,hb]
   have:pre++xs++sp=pre++(xs++sp.take ((m-n)*s))++sp.drop ((m-n)*s):=by
    simp only[dz];rw[q8]
   rw[this]
theorem aaw(k:Nat){b o n c e s:Nat}{xs:List V}(hk:H[k]?=Z (M (Z ⟨b,o,A⟩) n c e s xs))(m:Nat)(hm:n<=m)(hmc:m<=c)
  (kk:∀ys:List V,ys.length=(m-n)*s->aki N ds S w0 L (H.set k (M (Z ⟨b,o,A⟩) m c e s (xs++ys))) p):aki N ds S w0 L H p:=λa w hS=>by
 obtain⟨ys,h1,h2⟩:=hS.wd.grow hk m hm hmc;exact kk ys h1 a w ⟨hS.fr,h2⟩
end
section
variable {P:Program} {ro:Option Nat} {N:Nat} {ds:List Deferred} {S:Nat->Prop} {w0 w:C} {L:List (Nat×V)} {H Hr:List bN} {ops:Array Oper} {rest:List Oper} {Q:Exit->Act->C->Prop} {p:Act->C->Prop} {x y:Operand} {akd:Act->C->Prop} {l:List Oper} {bH:Nat} {listed:Array Bool}
instance{T n k s:Nat}{ad:Option Addr}[hx:Ev L x (J ad n k)][h:eH P T s]:dL P N ds S w0 L H (.call {callee:=.builtin .cap,args:=#[x],argTypes:=#[T]}) (U O k):=
 ⟨λ_ h=>(by cases h),λ_ _ h=>(by cases h),λ_ ty _ _ _ a w hF _=>by simp[execOp,resolve,invoke,builtin,hx.eq _ _ _ hF,run_cap_slice w T ty ad n k h.qx,goInt]⟩
theorem WA{d ty f:Nat}{args:List Operand}{vs:List V}{pA:Array Nat}{pos:String}{aft:Array Go.Edge}{u:V}[hx:AY L args vs](hd:dy d N L=true)
  (hc:∀w,Wd S w0 H w->(callFunc f vs.toArray).run P w=.ok (.value u) w)
  (k:aki N ds S w0 ((d,u)::L) H (wpListIn (FW ro) 0 P ops Q rest)):aki N ds S w0 L H (wpListIn (FW ro) 0 P ops Q (⟨Z d,.call {callee:=.value (.func f),args:=args.toArray,argTypes:=pA},ty,pos,aft,A⟩::rest)):=λa w hS=>by
 refine ft (v:=u) (w':=w) rfl (λ_ h=>by cases h) ?_ (k _ _ ⟨hS.fr.eo hd _,hS.wd⟩);simp[execOp,resolve,Act.eval,Deferred.ofValue,invoke,hx.eq _ _ _ hS.fr,hc w hS.wd]
theorem O2{d ty dT sT e s jy b o off n c dl dc sl sc sb so:Nat}{zs:List V}(k:Nat){xs:List V}(m:Nat)(cs:List V){pos:String}{aft:Array Go.Edge}[h:cI P dT e s jy zs][hx:Ev L x (J (Z ⟨b,o+off,A⟩) dl dc)][hy:Ev L y (J (Z ⟨sb,so,A⟩) sl sc)]
  (hk:H[k]?=Z (M (Z ⟨b,o,A⟩) n c e s xs)) (hm:m=min sl dl) (hn:cs.length=m*s) (tY:∀w,Wd S w0 H w->∀j v,cs[j]?=Z v->w.cell? ⟨sb,so+j,A⟩=Z v) (gI:off+cs.length<=xs.length) (h1:∀v∈cs,v.oneCell'=true) (a:Act) (w:C) (hS:St N ds S w0 L H a w):
  ∃w',(execOp a.eval ⟨Z d,.call {callee:=.builtin .copy,args:=#[x,y],argTypes:=#[dT,sT]},ty,pos,aft,A⟩).run P w=.ok (.value (U O m)) w'/\Wd S w0 (H.set k (M (Z ⟨b,o,A⟩) n c e s (xs.take off++cs++xs.drop (off+cs.length)))) w':=by
 subst hm;obtain⟨hl,qP,BZ,pre,sp,rfl,GR,hb⟩:=hS.wd.lu hk;obtain⟨i,zz,hi,_,_,W7,_⟩:=h.get;have bS:b<w.heap.size:=(fv.1 hb).1;have hr:=xl (P:=P) w dT sT ty e s b (pre.length+off) dl dc ⟨sb,so,A⟩ sl sc _ e cs h.qx (by rw[hi];simp[W7]) hb hn (λj v hj=>by rw[Addr.add_lit];exact tY w hS.wd j v hj) dp h1;have gr:(pre++xs++sp).take (pre.length+off)++cs++(pre++xs++sp).drop (pre.length+off+cs.length)=pre++(xs.take off++cs++xs.drop (off+cs.length))++sp:=by
  rw[dz pre xs sp,sQ,dI,vW,kV I,yv I];simp
 simp only at hr;rw[gr]at hr;refine⟨w.setRow b (pre++(xs.take off++cs++xs.drop (off+cs.length))++sp).toArray,?_,?_⟩
 ·have e1:Nat.min sl dl=min sl dl:=rfl
  simp[execOp,resolve,invoke,builtin,hx.eq _ _ _ hS.fr,hy.eq _ _ _ hS.fr,hr,goInt,e1]
 ·have pU:∀q:Array V,(w.setRow b q).heap.size=w.heap.size:=λq=>by simp[World.setRow]
  refine hS.wd.lj hk ⟨rfl,rfl,rfl,by rw[pU];exact bG _,λj _ hj=>setRow_other w b j _ λe'=>hj (by simp[M,e'])⟩ (λb' nO=>?_) λw2 jg=>?_
  ·simp only[M,bu,b_]at nO⊢
   subst nO;exact⟨.inl rfl,by rw[pU];exact bS⟩
  ·have:=jg b (by simp[M])
   refine⟨?_,.inr ⟨b,pre,sp,rfl,qP,BZ,GR,?_⟩⟩
   ·simp only[bX,dd,eY];omega
   ·rw[this]
    exact setRow_heap w b _ _ e _ hb
theorem WT{d ty dT sT e s jy b o off n c dl dc sl sc sb so:Nat}{zs:List V}(i0 k:Nat){xs:List V}(m:Nat)(cs:List V){pos:String}{aft:Array Go.Edge}[ho:dF l i0 ⟨Z d,.call {callee:=.builtin .copy,args:=#[x,y],argTypes:=#[dT,sT]},ty,pos,aft,A⟩][h:cI P dT e s jy zs][hx:Ev L x (J (Z ⟨b,o+off,A⟩) dl dc)][hy:Ev L y (J (Z ⟨sb,so,A⟩) sl sc)]
  (hk:H[k]?=Z (M (Z ⟨b,o,A⟩) n c e s xs)) (hd:dy d N L=true) (hm:m=min sl dl) (hn:cs.length=m*s) (tY:∀w,Wd S w0 H w->∀j v,cs[j]?=Z v->w.cell? ⟨sb,so+j,A⟩=Z v) (gI:off+cs.length<=xs.length) (h1:∀v∈cs,v.oneCell'=true)
  (hr:decide (Region.ready .any l.toArray listed=[i0])=true) (hH:Hr.Sublist (H.set k (M (Z ⟨b,o,A⟩) n c e s (xs.take off++cs++xs.drop (off+cs.length)))))
  (kk:aki N ds S w0 ((d,U O m)::L) (H.set k (M (Z ⟨b,o,A⟩) n c e s (xs.take off++cs++xs.drop (off+cs.length)))) (wpAnyH P .any l.toArray (dK akd) (Wd S w0 Hr) bH (listed.setIfInBounds i0 true))):
  aki N ds S w0 L H (wpAnyH P .any l.toArray (dK akd) (Wd S w0 Hr) (bH+1) listed):=
 IM i0 rfl hr λa w hS=>by
  obtain⟨w',h2,h3⟩:=O2 (P:=P) (d:=d) (ty:=ty) (sT:=sT) (pos:=pos) (aft:=aft) (h:=h) (hx:=hx) (hy:=hy) k m cs hk hm hn tY gI h1 a w hS;exact⟨_,w',h2,h3.sub hH,kk _ _ ⟨hS.fr.eo hd _,h3⟩⟩
end
noncomputable def ovT:Nat:=f187.params[0]!
noncomputable def ovR:Nat:=f187.resultTypes[0]!
theorem Hl(args:Array V)(w:C):(callFunc 187 args).run ae w=((Extern.SlicesOverlaps.overlaps #[ovT,ovT] #[ovR] args).run ae w).andThen λv w'=>.ok (.value v) w':=
 run_callFunc_extern (fn:=f187) func187 aR aR aR aR args w
theorem Yb:Tryz.prog.underlying ovT=Z (.slice 41):=by kernel_rfl
theorem Us:(Tryz.prog.info? 41).map (·.size)=Z 2:=by kernel_rfl
theorem Hk{S:Nat->Prop}{w0 w:C}{b1 o1 n1 c1 b2 o2 n2 c2 e:Nat}{x1 x2:List V}(hw:Wd S w0 [M (Z ⟨b1,o1,A⟩) n1 c1 e 2 x1,M (Z ⟨b2,o2,A⟩) n2 c2 e 2 x2] w)(h1:x1≠[])(h2:x2≠[])(oa ob la ca lb cb:Nat):
  (callFunc 187 #[J (Z ⟨b2,oa,A⟩) la ca,J (Z ⟨b1,ob,A⟩) lb cb]).run ae w=.ok (.value (D false)) w:=by
 obtain⟨_,_,_,ahM,sp1,_,_,Kn⟩:=hw.lu (k:=0) rfl;obtain⟨_,_,_,aj2,sp2,_,_,xd⟩:=hw.lu (k:=1) rfl;have eQ:b2≠b1:=λe2=>by
  have h3:=(ew.1 hw.apart).1 (M (Z ⟨b2,o2,A⟩) n2 c2 e 2 x2) aC b1 (by simp[M]);exact h3 (by simp[M,e2])
 obtain⟨i,hi,W7⟩:=cA.1 Us;have hlen:(ahM++x1++sp1).length≠0:=by
  simp only[bX];have:=rW.2 h1;omega
 rw[Hl,Go.Lib.run_overlaps_apart w ovT ovR 41 Yb 2 (λw=>by simp[sizeOf,typeInfo,hi,W7]) ⟨b2,oa,A⟩ ⟨b1,ob,A⟩ la ca lb cb eQ e e _ _ (by simp only[World.shape?,xd];rfl) (by simp only[World.shape?,Kn];rfl) (ax hlen) (by simp[World.frozen?,xd]) (by simp[World.frozen?,xd])]
 rfl
theorem LM{α:Type}(v:α):∀(k:Nat) (l:List α),k<=l.length->l.insertIdx k v=l.take k++v::l.drop k
 |0,l,_=>by simp
 |k+1,[],h=>by simp at h
 |k+1,x::l,h=>by
  rw[List.insertIdx_succ_cons,LM v k l (ax h)]
  rfl
theorem Jq(b o c:Nat)(l:List cg)(k:Nat)(v:cg)(vb:Nat)(hk:k<=l.length)(s8:l.length+1<=c)(hb:l.length<=1000)(w0:C)
  (hW:Wd (cH [M (Z ⟨b,o,A⟩) l.length c 41 2 (l.flatMap dB),M (Z ⟨vb,0,A⟩) 1 1 41 2 [D v.z,U O v.n]]) w0 [M (Z ⟨b,o,A⟩) l.length c 41 2 (l.flatMap dB),M (Z ⟨vb,0,A⟩) 1 1 41 2 [D v.z,U O v.n]] w0):
  iC ae 169 [J (Z ⟨b,o,A⟩) l.length c,U O k,J (Z ⟨vb,0,A⟩) 1 1] w0 λu w'=>∃x:Option Addr×Nat,u=J x.1 (l.length+1) x.2/\Wd (cH [M (Z ⟨b,o,A⟩) l.length c 41 2 (l.flatMap dB),M (Z ⟨vb,0,A⟩) 1 1 41 2 [D v.z,U O v.n]]) w0 [M x.1 (l.length+1) x.2 41 2 ((l.insertIdx k v).flatMap dB)] w':=by
 obtain⟨n,hn⟩:∃n,n=l.length:=⟨_,rfl⟩;obtain⟨SS,Fj⟩:∃SS,SS=cH [M (Z ⟨b,o,A⟩) l.length c 41 2 (l.flatMap dB),M (Z ⟨vb,0,A⟩) 1 1 41 2 [D v.z,U O v.n]]:=⟨_,rfl⟩;rw[<-Fj]at hW⊢;rw[<-hn]at hk s8 hb hW⊢;have Fm:(l.flatMap dB).length=n*2:=by rw[cj eZ,hn]
 have Zw:(l.insertIdx k v).flatMap dB=(l.flatMap dB).take (k*2)++[D v.z,U O v.n]++(l.flatMap dB).drop (k*2):=by
  rw[(lG eZ l k).1,(lG eZ l k).2,LM v k l I,iD,gZ,dz]
  rfl
 obtain⟨FL,hFL⟩:∃FL,FL=l.flatMap dB:=⟨_,rfl⟩;rw[<-hFL]at Fm hW Zw;refine aM func169 rfl ntmps169 rfl hW ?_;refine BX 0 rfl λ_ qP aaR=>?_;have c0:HT k n:=⟨hk⟩;refine aH ?_;refine aI (λh1=>?_) (λh1=>?_)
 ·obtain rfl:k=n:=by have:=of_decide_eq_true h1;omega
  refine aU ?_;refine gU 0 rfl rfl ai I I λna nc=>?_;refine aE ?_;have pS:(l.insertIdx k v).flatMap dB=FL++[D v.z,U O v.n]:=by
   rw[hFL,hn,List.insertIdx_length_self,iD]
   rfl
  exact cE rfl λw hw=>⟨(na,nc),rfl,by rw[pS];exact hw.sub (dM qd)⟩
 have Kq:k<n:=by have:=of_decide_eq_false h1;omega
 refine aH ?_;rw[show decide ((c:Int)<(n:Int)+((1:Nat):Int))=false by simp;omega];have Pc:∀(m:Nat),m<=100000->∀(L:List (Nat×V)) (H:List bN) (T T2:Nat) (x y:Operand) [Ev L x (U O (m:Int))] [Ev L y (U O ((1:Nat):Int))],dL ae 95 [] SS w0 L H (.binOp .add T x y T2) (U O ((m+1:Nat):Int)):=λm hm L H T T2 x y _ _=>by
  have:=J2 (P:=ae) (N:=95) (ds:=[]) (S:=SS) (w0:=w0) (L:=L) (H:=H) (T:=T) (T2:=T2) (x:=x) (y:=y) (m:=(m:Int)) (n:=((1:Nat):Int)) I I;rwa[show(m:Int)+((1:Nat):Int)=((m+1:Nat):Int) by omega]at this
 have ahV:=Pc n I;have ahU:=Pc k I;have c1:Ch (n+1) c:=⟨s8⟩;have c2:HT (k+1) (n+1):=⟨I⟩;have c3:HT k (n+1):=⟨I⟩;have e1:KU b o (k+1) 2 c=Z ⟨b,o+(k+1)*2,A⟩:=by unfold KU;rw[if_neg I]
 have e2:KU b o k 2 c=Z ⟨b,o+k*2,A⟩:=by unfold KU;rw[if_neg I]
 refine aH ?_;rw[e1];refine WA rfl (λw hw=>Hk hw (λe=>by rw[e]at Fm;simp at Fm;omega) aC _ _ _ _ _ _) ?_;refine aH ?_;refine aaw 0 rfl (n+1) I s8 λys hys=>?_;simp only[bW];refine tS [] mixed aw ?_;refine ag 0 ?_;refine ag 1 ?_;refine ag 2 ?_;refine ag 3 ?_;refine ag 4 ?_;refine ag 5 ?_;refine ag 6 ?_;refine ag 7 ?_;rw[e1,e2];refine WT 8 0 (off:=(k+1)*2) (n-k) (FL.drop (k*2)) rfl rfl I (by rw[eY];omega) (λw hw j u hj=>?_) (by rw[bX,eY];omega) (λu hu=>by rw[hFL]at hu;exact Ox u (List.mem_of_mem_drop hu)) ai aw ?_
 ·rw[iV]at hj
  have jw:=(az.1 hj).1;have:=hw.cL (k:=0) rfl (j:=k*2+j) (v:=u) (by rw[dY jw];exact hj);rw[show o+k*2+j=o+(k*2+j) by omega];exact this
 refine eA ai ?_;simp only[bW];have hX:(FL++ys).take ((k+1)*2)++FL.drop (k*2)++(FL++ys).drop ((k+1)*2+(FL.drop (k*2)).length)=FL.take ((k+1)*2)++FL.drop (k*2):=by
  rw[kV I,List.drop_of_length_le (l:=FL++ys) (by rw[bX,eY];omega),cD]
 rw[hX];have hXl:(FL.take ((k+1)*2)++FL.drop (k*2)).length=(n+1)*2:=by rw[bX,dd,eY];omega
 refine aU ?_;rw[e2];refine yO (off:=k*2) 0 1 [D v.z,U O v.n] rfl rfl I rfl (λw hw j u hj=>?_) (by rw[hXl];simp only[gk,qD];omega) (by simp[Value.oneCell']) ?_
 ·have:=hw.cL (k:=1) rfl hj
  exact this
 simp only[bW];have hY:(FL.take ((k+1)*2)++FL.drop (k*2)).take (k*2)++[D v.z,U O v.n]++(FL.take ((k+1)*2)++FL.drop (k*2)).drop (k*2+[D v.z,U O v.n].length)=(l.insertIdx k v).flatMap dB:=by
  rw[Zw,kV (by rw[dd];omega),List.take_take,iq I];congr 1;rw[List.drop_append,List.drop_of_length_le (l:=FL.take ((k+1)*2)) (by rw[dd];simp only[gk,qD];omega),aO,dd];rw[show k*2+[D v.z,U O v.n].length-min ((k+1)*2) FL.length=0 by simp only[gk,qD];omega,List.drop_zero]
 rw[hY];refine aE ?_;exact cE rfl λw hw=>⟨(Z ⟨b,o,A⟩,c),rfl,hw.sub (dM qd)⟩
end
theorem Jo(b:Nat):∀l:List Nat,l.Pairwise (·<·)->b∉l->(l.insertIdx (l.filter λa=>decide (a<b)).length b).Pairwise (·<·)/\∀y,y∈l.insertIdx (l.filter λa=>decide (a<b)).length b↔y=b∨y∈l
 |[],_,_=>⟨by simp,by simp⟩
 |a::l,hs,hb=>by
  obtain⟨h1,h2⟩:=ew.1 hs;have Nf:a≠b:=λe=>hb (by rw[e];exact tM);have gF:b∉l:=λe=>hb (cO _ e)
  by_cases h:a<b
  ·obtain⟨i1,i2⟩:=Jo b l h2 gF
   rw[List.filter_cons_of_pos (ax h),gk,List.insertIdx_succ_cons];refine⟨ew.2 ⟨λy hy=>?_,i1⟩,λy=>?_⟩
   ·rcases(i2 y).1 hy with rfl|hy
    ·exact h
    ·exact h1 y hy
   ·rw[bD,i2,bD]
    constructor
    ·rintro(h|h|h)
     ·exact .inr (.inl h)
     ·exact .inl h
     ·exact .inr (.inr h)
    ·rintro(h|h|h)
     ·exact .inr (.inl h)
     ·exact .inl h
     ·exact .inr (.inr h)
  ·have cU:(a::l).filter (λa=>decide (a<b))=[]:=List.filter_eq_nil_iff.2 λy hy=>by
    rcases bD.1 hy with rfl|hy
    ·simpa using h
    ·have:=h1 y hy
     simp;omega
   rw[cU];refine⟨?_,λy=>by simp⟩;show(b::a::l).Pairwise _;refine ew.2 ⟨λy hy=>?_,hs⟩;rcases bD.1 hy with rfl|hy
   ·omega
   ·have:=h1 y hy
    omega
def Ql(bl:List E)(b t c:Nat):Nat:=((aZ bl c).filter λa=>decide (a<b)&&decide (a≠t)).length
def zI(bl:List E)(b t c:Nat)(p:ep):ep:=⟨p.dst,(p.src.eraseIdx ((aZ bl c).idxOf t)).insertIdx (Ql bl b t c) (p.src.getD ((aZ bl c).idxOf t) iu)⟩
theorem xi{α β:Type}(f:α->β)(x:α):∀(k:Nat) (l:List α),(l.insertIdx k x).map f=(l.map f).insertIdx k (f x)
 |0,l=>by simp
 |k+1,[]=>by simp
 |k+1,y::l=>by rw[List.insertIdx_succ_cons,bT,bT,List.insertIdx_succ_cons,xi f x k l]
theorem Mv{bl:List E}{b t c:Nat}(hj:iT bl b t)(hc:c≠t)(hm:t∈aZ bl c):lP bl b t c=((aZ bl c).eraseIdx ((aZ bl c).idxOf t)).insertIdx (Ql bl b t c) b:=by
 have oZ:=jV bl c;have hs:=Qj bl c;have he:(aZ bl c).eraseIdx ((aZ bl c).idxOf t)=(aZ bl c).filter λa=>decide (a≠t):=by
  rw[<-List.erase_eq_eraseIdx_of_idxOf rfl,oZ.erase_eq_filter];refine rV λx _=>?_;simp[bne,BEq.beq,decide_not]
 have hr:Ql bl b t c=(((aZ bl c).filter λa=>decide (a≠t)).filter λa=>decide (a<b)).length:=by
  unfold Ql;rw[List.filter_filter]
 rw[he,hr];obtain⟨h1,h2⟩:=Jo b ((aZ bl c).filter λa=>decide (a≠t)) (hs.sublist nV) (λh=>rD hj hc (cC.1 h).1);have h3:(lP bl b t c).Pairwise (·<·):=List.pairwise_lt_range.sublist nV;have Xb:∀{l:List Nat},l.Pairwise (·<·)->l.Nodup:=λh=>h.imp λh=>Nat.ne_of_lt h;have hp:=(sO (Xb h3) (Xb h1)).2 λq=>by
  rw[h2,cC,decide_eq_true_eq,kO hj hc]
  by_cases e:q=b
  ·rw[if_pos e]
   exact⟨λ_=>.inl e,λ_=>⟨λe2=>hj.ne (e2▸e),hm⟩⟩
  ·rw[if_neg e]
   exact⟨λh=>.inr ⟨h.2,h.1⟩,λh=>h.elim (λh=>absurd h e) λh=>⟨h.2,h.1⟩⟩
 exact D1 (f:=λx:Nat=>x) hp.symm h1 (h3.imp λh=>.inl h)
theorem Vo{bl:List E}{b t c:Nat}(hj:iT bl b t)(hc:c≠t)(hm:t∈aZ bl c)(p:ep)(hp:p.src.length=(aZ bl c).length):zI bl b t c p=HO bl b t c p:=by
 have tY:p.src=(aZ bl c).map (jq bl c p):=by
  apply ci;intro j;rw[aJ]
  by_cases h:j<(aZ bl c).length
  ·obtain⟨q,hq⟩:=bf (aZ bl c) j h
   obtain⟨v,hv⟩:=bf p.src j I;have h5:=uh (jV bl c) (i:=j) h;rw[lr hq]at h5;rw[hq,hv,bu];unfold jq;rw[h5,cB,hv]
   rfl
  ·rw[bO I,bO I]
   rfl
 unfold zI HO;congr 1;have hv:p.src.getD ((aZ bl c).idxOf t) iu=jq bl c p t:=rfl;rw[Mv hj hc hm,xi,if_pos rfl,hv];congr 1
 conv=>lhs;rw[tY]
 rw[<-EM];refine dD λq hq=>?_;have HK:=List.mem_of_mem_eraseIdx hq;rw[if_neg (λe:q=b=>rD hj hc (e▸HK))]
theorem Ux{bl:List E}{b t c:Nat}(hj:iT bl b t)(hc:c≠t)(hm:t∉aZ bl c)(p:ep)(hp:p.src.length=(aZ bl c).length):HO bl b t c p=p:=by
 obtain⟨pd,ps⟩:=p;have uV:lP bl b t c=aZ bl c:=by
  unfold lP aZ;refine rV λq hq=>?_;have Er:=cM.1 hq;unfold V1;have hmt:¬(c:Int)∈db bl t:=λh=>hm (pt hj.HR h);have hmb:¬(c:Int)∈db bl b:=λh=>rD hj hc (pt hj.blt h)
  by_cases h1:q=t
  ·rw[if_pos h1,h1]
   simp[hmt]
  ·rw[if_neg h1]
   by_cases h2:q=b
   ·rw[if_pos h2,h2]
    simp[hmt,hmb]
   ·rw[if_neg h2]
 unfold HO;simp only at hp⊢;congr 1;rw[uV];apply ci;intro j;rw[aJ]
 by_cases h:j<(aZ bl c).length
 ·obtain⟨q,hq⟩:=bf (aZ bl c) j h
  obtain⟨v,hv⟩:=bf ps j I;have h5:=uh (jV bl c) (i:=j) h;rw[lr hq]at h5;rw[hq,hv,bu,if_neg (λe:q=b=>rD hj hc (e▸aq hq))];unfold jq;simp only;rw[h5,cB,hv]
  rfl
 ·rw[bO I,bO I]
  rfl
attribute [local irreducible] bodyPostM j5
def gX(T:aX)(ps:List cW):aX:={T with ps:=ps}
theorem YL{S:Nat->Prop}{w0 w:C}{X:List bN}{a:Option Addr}{n c t:Nat}{zs:List aX}{T:aX}{ps:List cW}(hT:zs[t]?=Z T)(hn:n=zs.length)(xH:ps.length=T.ps.length)
  (h:Wd S w0 (X++(M a n c 46 6 (zs.flatMap bm)::M T.pa T.ps.length T.pc 49 2 (ps.flatMap cF)::vE T::pz T::(ps.map fP++(T.xs.map j1++(zs.eraseIdx t).map ck)))) w):Wd S w0 (X++fS a c (zs.set t (gX T ps))) w:=by
 have zP:=(az.1 hT).1;have h2:Wd S w0 (jM (gX T ps)++(X++(M a n c 46 6 (zs.flatMap bm)::(zs.eraseIdx t).map ck))) w:=by
  refine h.perm ?_;unfold jM gX vE pz;simp only[xH]
  classical
  refine aP.2 λe=>?_;simp only[bC,br];omega
 refine(Wd.join h2).perm ?_;have h5:=jl ck (l:=zs.set t (gX T ps)) (k:=t) (x:=gX T ps) (eK zP);rw[qA]at h5;have h6:(zs.set t (gX T ps)).flatMap bm=zs.flatMap bm:=Iw hT (by unfold gX bm;simp only[xH]);unfold fS;rw[eL,h6,hn]
 classical
 refine aP.2 λe=>?_;have h7:=aP.1 h5 e;simp only[bC,br,ck]at h7⊢;omega
theorem Ef{S:Nat->Prop}{w0 w:C}{X:List bN}{a:Option Addr}{c t:Nat}{zs:List aX}{T:aX}(hT:zs[t]?=Z T)(h:Wd S w0 (X++fS a c zs) w):
  Wd S w0 (X++(M a zs.length c 46 6 (zs.flatMap bm)::M T.pa T.ps.length T.pc 49 2 (T.ps.flatMap cF)::vE T::pz T::(T.ps.map fP++(T.xs.map j1++(zs.eraseIdx t).map ck)))) w:=by
 have h2:Wd S w0 (ck T::(X++(M a zs.length c 46 6 (zs.flatMap bm)::(zs.eraseIdx t).map ck))) w:=by
  refine h.perm ?_;unfold fS;have h3:=jl ck hT
  classical
  refine aP.2 λe=>?_;have h4:=aP.1 h3 e;simp only[bC,br]at h4⊢;omega
 refine h2.ql.perm ?_;unfold jM vE pz
 classical
 refine aP.2 λe=>?_;simp only[bC,br];omega
theorem O4{α:Type}{g:α->List V}{s:Nat}(hg:∀x,(g x).length=s){l:List α}{i k:Nat}{x y:α}(hi:l[i]?=Z x){vs:List V}(hk:k+vs.length=s)(hy:(g x).take k++vs=g y):(l.flatMap g).take (i*s+k)++vs++(l.flatMap g).drop (i*s+k+vs.length)=(l.set i y).flatMap g:=by
 have iJ:=(az.1 hi).1;rw[<-jP hg iJ y,<-hy];have e1:i*s+k+vs.length=i*s+s:=I;rw[e1];congr 1;rw[List.take_add,<-dz];congr 2;have e2:=(lG hg l i).2;rw[e2,lR iJ,gZ,kV (by rw[hg];omega),(az.1 hi).2]
theorem Z4{α β:Type}(f:α->β){l:List α}{b t:Nat}{B T:α}(hb:l[b]?=Z B)(ht:l[t]?=Z T)(eQ:b≠t):∃R:List β,(l.map f).Perm (f B::f T::R)/\∀c x,l[c]?=Z x->c≠b->c≠t->f x∈R:=by
 have gF:=(az.1 hb).1;have zP:=(az.1 ht).1;obtain⟨h,hh⟩:∃h:Nat->β,h=λc=>f (l[c]?.getD B):=⟨_,rfl⟩;have h1:l.map f=(List.range l.length).map h:=by
  apply ci;intro j;rw[aJ,aJ]
  by_cases hj:j<l.length
  ·rw[eX hj,a_ hj,hh]
   simp[a_ hj]
  ·rw[bO I,bO (by rw[fA];omega)];rfl
 have h2:(List.range l.length).Perm (b::t::(List.range l.length).filter λc=>decide (c≠b/\c≠t)):=by
  refine(sO qE ?_).2 λx=>?_
  ·rw[mO,mO]
   refine⟨?_,?_,List.nodup_range.sublist nV⟩
   ·rw[bD,cC]
    simp[eQ]
   ·rw[cC]
    simp
  ·rw[bD,bD,cC,cM,decide_eq_true_eq]
   constructor
   ·intro hx
    by_cases e1:x=b
    ·exact .inl e1
    ·by_cases e2:x=t
     ·exact .inr (.inl e2)
     ·exact .inr (.inr ⟨hx,e1,e2⟩)
   ·rintro(rfl|rfl|⟨hx,_⟩)
    ·exact gF
    ·exact zP
    ·exact hx
 refine⟨((List.range l.length).filter λc=>decide (c≠b/\c≠t)).map h,?_,λc x hx e1 e2=>?_⟩
 ·have e3:h b=f B:=by rw[hh];simp only[hb,dW]
  have e4:h t=f T:=by rw[hh];simp only[ht,dW]
  rw[h1,<-e3,<-e4];exact h2.map h
 ·refine aV.2 ⟨c,cC.2 ⟨cM.2 (az.1 hx).1,by simp[e1,e2]⟩,?_⟩
  rw[hh];simp only[hx,dW]
theorem TO(bl:List E)(c d:Nat):(aN bl c).list.length+(aN bl d).list.length<=eB bl∨c=d:=by
 by_cases e:c=d
 ·exact .inr e
 refine .inl ?_;have h0:∀x,¬x<bl.length->(aN bl x).list.length=0:=λx hx=>by rw[kG hx];rfl
 have h1:∀x,x<bl.length->(aN bl x).list.length<=eB bl:=λx hx=>by
  have h2:=(jl HQ (bM hx)).sum_nat;rw[eT]at h2;rw[tg];have h3:(aN bl x).list.length<=HQ (aN bl x):=by unfold HQ;omega
  omega
 by_cases hc:c<bl.length
 ·by_cases hd:d<bl.length
  ·obtain⟨R,hR,_⟩:=Z4 HQ (bM hc) (bM hd) e
   have h2:=hR.sum_nat;rw[eT,eT]at h2;rw[tg,h2];unfold HQ;omega
  ·rw[h0 d hd]
   have:=h1 c hc;omega
 ·rw[h0 c hc]
  by_cases hd:d<bl.length
  ·have:=h1 d hd
   omega
  ·rw[h0 d hd]
   omega
end
end Go.Proofs.YthfhgolkafpmnaaGreatDoor
