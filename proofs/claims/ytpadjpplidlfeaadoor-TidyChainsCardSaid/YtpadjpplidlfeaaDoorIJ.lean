/- Texts joined: RepB Ins InsV RenP. -/
import Derived.Lib.Overlaps
import Derived.Test.YtpadjpplidlfeaaDoorGG
import Derived.Test.YtpadjpplidlfeaaDoorGX
import Derived.Test.YtpadjpplidlfeaaDoorHA
import Derived.Test.YtpadjpplidlfeaaDoorID
import Derived.Test.YtpadjpplidlfeaaDoorIH
namespace Go.Proofs.YtpadjpplidlfeaaDoor
open Go Go.RowKit
attribute [local irreducible] wpListIn Code.wpIn Exit.then Exit.inBlock bodyPost wpQuiet wpAnyIn wpAnyH
set_option maxHeartbeats 4000000
section
variable {P : Program} {ro : Option Nat} {N : Nat} {ds : List Deferred} {S : Nat→Prop} {w0 : World} {L L' : List (Nat × Value)} {H H' : List Ent} {ops : Array Oper} {rest : List Oper} {Q : Exit→Act→World→Prop} {x y : Operand}
theorem run_copy_rowS (w : World) (dT sT ty elem : TypeId) (s g o dLen dCap : Nat) (a : Addr) (sLen sCap : Nat) (cur : Array Value) (t : TypeId) (cs : List Value)
  (hu : P.underlying dT = some (.slice elem)) (hs : (P.info? elem).map (·.size) = some s)
  (hg : w.heap[g]? = some (.cells cur t (0,0))) (hn : cs.length = Nat.min sLen dLen * s)
  (hsrc : ∀ j v,cs[j]? = some v→w.cell? (a.add j) = some v) (hfit : o + cs.length ≤ cur.size) (h1 : ∀ v ∈ cs,v.oneCell' = true) :
  (Builtin.copy_ #[dT,sT] ty #[.slice (some ⟨g,o,none⟩) dLen dCap,.slice (some a) sLen sCap]).run P w =
   .ok (goInt (Nat.min sLen dLen : Nat)) (w.setRow g (cur.toList.take o++cs++cur.toList.drop (o + cs.length)).toArray):=by
 have hl:=run_loadCells_list (P:=P) w a cs hsrc
 have hst:=run_storeCells_at P g o t cs 0 cur w hg (by simpa using hfit) h1
 cases hq : P.info? elem with
 | none=>simp [hq] at hs
 | some i =>
  have hi : i.size = s:=by simpa [hq] using hs
  simp [Builtin.copy_,run_underlying hu,Builtin.lenOf,Builtin.firstCells,sizeOf,typeInfo,hq,hi,← hn,hl,hst]
theorem g_copyS {d ty dT sT e s by' b o off n c dl dc sl sc sb so : Nat} {zs : List Value} (k : Nat) {xs : List Value} (m : Nat) (cs : List Value) {pos : String} {aft : Array Go.Edge} [h : ElemInfo P dT e s by' zs] [hx : Ev L x (.slice (some ⟨b,o + off,none⟩) dl dc)] [hy : Ev L y (.slice (some ⟨sb,so,none⟩) sl sc)]
  (hk : H[k]? = some (Ent.vec (some ⟨b,o,none⟩) n c e s xs)) (hd : okPut d N L = true) (hm : m = min sl dl) (hn : cs.length = m * s) (hsrc : ∀ w,Wd S w0 H w→∀ j v,cs[j]? = some v→w.cell? ⟨sb,so + j,none⟩ = some v) (hfit : off + cs.length ≤ xs.length) (h1 : ∀ v ∈ cs,v.oneCell' = true)
  (kk : G N ds S w0 ((d,.int .i64 m)::L) (H.set k (Ent.vec (some ⟨b,o,none⟩) n c e s (xs.take off++cs++xs.drop (off + cs.length)))) (wpListIn (FW ro) 0 P ops Q rest)) : G N ds S w0 L H (wpListIn (FW ro) 0 P ops Q (⟨some d,.call { callee:=.builtin .copy,args:=#[x,y],argTypes:=#[dT,sT] },ty,pos,aft,none⟩::rest)):=fun a w hS=>by
 subst hm
 obtain ⟨hl,hnc,hcm,pre,sp,rfl,hsp,hb⟩:=hS.wd.vecAt hk
 obtain ⟨i,zz,hi,_,_,hi1,_⟩:=h.get
 have hlt : b < w.heap.size:=(Array.getElem?_eq_some_iff.1 hb).1
 have hr:=run_copy_rowS (P:=P) w dT sT ty e s b (pre.length + off) dl dc ⟨sb,so,none⟩ sl sc _ e cs h.und (by rw [hi]; simp [hi1]) hb hn (fun j v hj=>by rw [Addr.add_lit]; exact hsrc w hS.wd j v hj) (by simp; omega) h1
 have hrow : (pre++xs++sp).take (pre.length + off)++cs++(pre++xs++sp).drop (pre.length + off + cs.length) = pre++(xs.take off++cs++xs.drop (off + cs.length))++sp:=by
  rw [List.append_assoc pre xs sp,List.take_length_add_append,Nat.add_assoc,List.drop_length_add_append,List.take_append_of_le_length (by omega),List.drop_append_of_le_length (by omega)]
  simp
 simp only at hr
 rw [hrow] at hr
 refine step_val (v:=.int .i64 ((min sl dl : Nat) : Int)) (w':=w.setRow b (pre++(xs.take off++cs++xs.drop (off + cs.length))++sp).toArray) rfl (fun _ h=>by cases h) ?_ ?_
 ·have e1 : Nat.min sl dl = min sl dl:=rfl
  simp [execOp,resolve,invoke,builtin,hx.eq _ _ _ hS.fr,hy.eq _ _ _ hS.fr,hr,goInt,e1]
 ·refine kk _ _ ⟨hS.fr.putOk hd _,?_⟩
  have hsz : ∀ q : Array Value,(w.setRow b q).heap.size = w.heap.size:=fun q=>by simp [World.setRow]
  refine hS.wd.turnAt hk ⟨rfl,rfl,rfl,by rw [hsz]; exact Nat.le_refl _,fun j _ hj=>setRow_other w b j _ fun e'=>hj (by simp [Ent.vec,e'])⟩ (fun b' hb'=>?_) fun w2 hw2=>?_
  ·simp only [Ent.vec,Option.map_some,Option.some.injEq] at hb' ⊢
   subst hb'
   exact ⟨.inl rfl,by rw [hsz]; exact hlt⟩
  ·have:=hw2 b (by simp [Ent.vec])
   refine ⟨?_,.inr ⟨b,pre,sp,rfl,hnc,hcm,hsp,?_⟩⟩
   ·simp only [List.length_append,List.length_take,List.length_drop]; omega
   ·rw [this]
    exact setRow_heap w b _ _ e _ hb
end
section
variable {P : Program} {N : Nat} {ds : List Deferred} {S : Nat→Prop} {w0 w : World} {L : List (Nat × Value)} {H : List Ent} {p : Act→World→Prop}
theorem Wd.grow (hW : Wd S w0 H w) {k : Nat} {b o n c e s : Nat} {xs : List Value} (hk : H[k]? = some (Ent.vec (some ⟨b,o,none⟩) n c e s xs)) (m : Nat) (hm : n ≤ m) (hmc : m ≤ c) :
  ∃ ys : List Value,ys.length = (m - n) * s∧Wd S w0 (H.set k (Ent.vec (some ⟨b,o,none⟩) m c e s (xs++ys))) w:=by
 obtain ⟨hl,hnc,hcm,pre,sp,rfl,hsp,hb⟩:=hW.vecAt hk
 have hlt : b < w.heap.size:=(Array.getElem?_eq_some_iff.1 hb).1
 have h1 : (c - n) * s = (c - m) * s + (m - n) * s:=by rw [← Nat.add_mul]; congr 1; omega
 have h2 : (sp.take ((m - n) * s)).length = (m - n) * s:=by rw [List.length_take]; omega
 refine ⟨sp.take ((m - n) * s),h2,hW.turnAt hk (Chg.refl _ _) (fun b' hb'=>?_) fun w2 hw2=>?_⟩
 ·simp only [Ent.vec,Option.map_some,Option.some.injEq] at hb' ⊢
  subst hb'
  exact ⟨.inl rfl,hlt⟩
 ·have:=hw2 b (by simp [Ent.vec])
  refine ⟨by rw [List.length_append,h2,hl,← Nat.add_mul]; congr 1; omega,.inr ⟨b,pre,sp.drop ((m - n) * s),rfl,by omega,hcm,?_,?_⟩⟩
  ·rw [List.length_drop]
   omega
  ·rw [this,hb]
   have : pre++xs++sp = pre++(xs++sp.take ((m - n) * s))++sp.drop ((m - n) * s):=by
    simp only [List.append_assoc]
    rw [List.take_append_drop]
   rw [this]
theorem g_grow (k : Nat) {b o n c e s : Nat} {xs : List Value} (hk : H[k]? = some (Ent.vec (some ⟨b,o,none⟩) n c e s xs)) (m : Nat) (hm : n ≤ m) (hmc : m ≤ c)
  (kk : ∀ ys : List Value,ys.length = (m - n) * s→G N ds S w0 L (H.set k (Ent.vec (some ⟨b,o,none⟩) m c e s (xs++ys))) p) : G N ds S w0 L H p:=fun a w hS=>by
 obtain ⟨ys,h1,h2⟩:=hS.wd.grow hk m hm hmc
 exact kk ys h1 a w ⟨hS.fr,h2⟩
end
section
variable {P : Program} {ro : Option Nat} {N : Nat} {ds : List Deferred} {S : Nat→Prop} {w0 w : World} {L : List (Nat × Value)} {H Hr : List Ent} {ops : Array Oper} {rest : List Oper} {Q : Exit→Act→World→Prop} {p : Act→World→Prop} {x y : Operand} {M : Act→World→Prop} {l : List Oper} {fuel : Nat} {listed : Array Bool}
instance {T n k s : Nat} {ad : Option Addr} [hx : Ev L x (.slice ad n k)] [h : ElemSize P T s] : RunsC P N ds S w0 L H (.call { callee:=.builtin .cap,args:=#[x],argTypes:=#[T] }) (.int .i64 k) :=
 ⟨fun _ h=>(by cases h),fun _ _ h=>(by cases h),fun _ ty _ _ _ a w hF _=>by simp [execOp,resolve,invoke,builtin,hx.eq _ _ _ hF,run_cap_slice w T ty ad n k h.und,goInt]⟩
theorem g_callX {d ty f : Nat} {args : List Operand} {vs : List Value} {tys : Array Nat} {pos : String} {aft : Array Go.Edge} {u : Value} [hx : Evs L args vs] (hd : okPut d N L = true)
  (hc : ∀ w,Wd S w0 H w→(callFunc f vs.toArray).run P w = .ok (.value u) w)
  (k : G N ds S w0 ((d,u)::L) H (wpListIn (FW ro) 0 P ops Q rest)) : G N ds S w0 L H (wpListIn (FW ro) 0 P ops Q (⟨some d,.call { callee:=.value (.func f),args:=args.toArray,argTypes:=tys },ty,pos,aft,none⟩::rest)):=fun a w hS=>by
 refine step_val (v:=u) (w':=w) rfl (fun _ h=>by cases h) ?_ (k _ _ ⟨hS.fr.putOk hd _,hS.wd⟩)
 simp [execOp,resolve,Act.eval,Deferred.ofValue,invoke,hx.eq _ _ _ hS.fr,hc w hS.wd]
theorem copyS_run {d ty dT sT e s by' b o off n c dl dc sl sc sb so : Nat} {zs : List Value} (k : Nat) {xs : List Value} (m : Nat) (cs : List Value) {pos : String} {aft : Array Go.Edge} [h : ElemInfo P dT e s by' zs] [hx : Ev L x (.slice (some ⟨b,o + off,none⟩) dl dc)] [hy : Ev L y (.slice (some ⟨sb,so,none⟩) sl sc)]
  (hk : H[k]? = some (Ent.vec (some ⟨b,o,none⟩) n c e s xs)) (hm : m = min sl dl) (hn : cs.length = m * s) (hsrc : ∀ w,Wd S w0 H w→∀ j v,cs[j]? = some v→w.cell? ⟨sb,so + j,none⟩ = some v) (hfit : off + cs.length ≤ xs.length) (h1 : ∀ v ∈ cs,v.oneCell' = true) (a : Act) (w : World) (hS : St N ds S w0 L H a w) :
  ∃ w',(execOp a.eval ⟨some d,.call { callee:=.builtin .copy,args:=#[x,y],argTypes:=#[dT,sT] },ty,pos,aft,none⟩).run P w = .ok (.value (.int .i64 m)) w'∧Wd S w0 (H.set k (Ent.vec (some ⟨b,o,none⟩) n c e s (xs.take off++cs++xs.drop (off + cs.length)))) w':=by
 subst hm
 obtain ⟨hl,hnc,hcm,pre,sp,rfl,hsp,hb⟩:=hS.wd.vecAt hk
 obtain ⟨i,zz,hi,_,_,hi1,_⟩:=h.get
 have hlt : b < w.heap.size:=(Array.getElem?_eq_some_iff.1 hb).1
 have hr:=run_copy_rowS (P:=P) w dT sT ty e s b (pre.length + off) dl dc ⟨sb,so,none⟩ sl sc _ e cs h.und (by rw [hi]; simp [hi1]) hb hn (fun j v hj=>by rw [Addr.add_lit]; exact hsrc w hS.wd j v hj) (by simp; omega) h1
 have hrow : (pre++xs++sp).take (pre.length + off)++cs++(pre++xs++sp).drop (pre.length + off + cs.length) = pre++(xs.take off++cs++xs.drop (off + cs.length))++sp:=by
  rw [List.append_assoc pre xs sp,List.take_length_add_append,Nat.add_assoc,List.drop_length_add_append,List.take_append_of_le_length (by omega),List.drop_append_of_le_length (by omega)]
  simp
 simp only at hr
 rw [hrow] at hr
 refine ⟨w.setRow b (pre++(xs.take off++cs++xs.drop (off + cs.length))++sp).toArray,?_,?_⟩
 ·have e1 : Nat.min sl dl = min sl dl:=rfl
  simp [execOp,resolve,invoke,builtin,hx.eq _ _ _ hS.fr,hy.eq _ _ _ hS.fr,hr,goInt,e1]
 ·have hsz : ∀ q : Array Value,(w.setRow b q).heap.size = w.heap.size:=fun q=>by simp [World.setRow]
  refine hS.wd.turnAt hk ⟨rfl,rfl,rfl,by rw [hsz]; exact Nat.le_refl _,fun j _ hj=>setRow_other w b j _ fun e'=>hj (by simp [Ent.vec,e'])⟩ (fun b' hb'=>?_) fun w2 hw2=>?_
  ·simp only [Ent.vec,Option.map_some,Option.some.injEq] at hb' ⊢
   subst hb'
   exact ⟨.inl rfl,by rw [hsz]; exact hlt⟩
  ·have:=hw2 b (by simp [Ent.vec])
   refine ⟨?_,.inr ⟨b,pre,sp,rfl,hnc,hcm,hsp,?_⟩⟩
   ·simp only [List.length_append,List.length_take,List.length_drop]; omega
   ·rw [this]
    exact setRow_heap w b _ _ e _ hb
theorem h_copyS {d ty dT sT e s by' b o off n c dl dc sl sc sb so : Nat} {zs : List Value} (i0 k : Nat) {xs : List Value} (m : Nat) (cs : List Value) {pos : String} {aft : Array Go.Edge} [ho : ListAt l i0 ⟨some d,.call { callee:=.builtin .copy,args:=#[x,y],argTypes:=#[dT,sT] },ty,pos,aft,none⟩] [h : ElemInfo P dT e s by' zs] [hx : Ev L x (.slice (some ⟨b,o + off,none⟩) dl dc)] [hy : Ev L y (.slice (some ⟨sb,so,none⟩) sl sc)]
  (hk : H[k]? = some (Ent.vec (some ⟨b,o,none⟩) n c e s xs)) (hd : okPut d N L = true) (hm : m = min sl dl) (hn : cs.length = m * s) (hsrc : ∀ w,Wd S w0 H w→∀ j v,cs[j]? = some v→w.cell? ⟨sb,so + j,none⟩ = some v) (hfit : off + cs.length ≤ xs.length) (h1 : ∀ v ∈ cs,v.oneCell' = true)
  (hr : decide (Region.ready .any l.toArray listed = [i0]) = true) (hH : Hr.Sublist (H.set k (Ent.vec (some ⟨b,o,none⟩) n c e s (xs.take off++cs++xs.drop (off + cs.length)))))
  (kk : G N ds S w0 ((d,.int .i64 m)::L) (H.set k (Ent.vec (some ⟨b,o,none⟩) n c e s (xs.take off++cs++xs.drop (off + cs.length)))) (wpAnyH P .any l.toArray (OnlyN M) (Wd S w0 Hr) fuel (listed.setIfInBounds i0 true))) :
  G N ds S w0 L H (wpAnyH P .any l.toArray (OnlyN M) (Wd S w0 Hr) (fuel + 1) listed) :=
 h_val i0 rfl hr fun a w hS=>by
  obtain ⟨w',h2,h3⟩:=copyS_run (P:=P) (d:=d) (ty:=ty) (sT:=sT) (pos:=pos) (aft:=aft) (h:=h) (hx:=hx) (hy:=hy) k m cs hk hm hn hsrc hfit h1 a w hS
  exact ⟨_,w',h2,h3.sub hH,kk _ _ ⟨hS.fr.putOk hd _,h3⟩⟩
end
noncomputable def ovT : Nat:=Tryd.f95.params[0]!
noncomputable def ovR : Nat:=Tryd.f95.resultTypes[0]!
theorem overlaps_run (args : Array Value) (w : World) : (callFunc 95 args).run Tryd.prog w = ((Extern.SlicesOverlaps.overlaps #[ovT,ovT] #[ovR] args).run Tryd.prog w).andThen fun v w'=>.ok (.value v) w' :=
 run_callFunc_extern (fn:=Tryd.f95) Tryd.func95 (by kernel_rfl) (by kernel_rfl) (by kernel_rfl) (by kernel_rfl) args w
theorem ovT_und : Tryd.prog.underlying ovT = some (.slice 39):=by kernel_rfl
theorem ovT_size : (Tryd.prog.info? 39).map (·.size) = some 2:=by kernel_rfl
theorem overlaps_off {S : Nat→Prop} {w0 w : World} {b1 o1 n1 c1 b2 o2 n2 c2 e : Nat} {x1 x2 : List Value} (hw : Wd S w0 [Ent.vec (some ⟨b1,o1,none⟩) n1 c1 e 2 x1,Ent.vec (some ⟨b2,o2,none⟩) n2 c2 e 2 x2] w) (h1 : x1 ≠ []) (h2 : x2 ≠ []) (oa ob la ca lb cb : Nat) :
  (callFunc 95 #[.slice (some ⟨b2,oa,none⟩) la ca,.slice (some ⟨b1,ob,none⟩) lb cb]).run Tryd.prog w = .ok (.value (.bool false)) w:=by
 obtain ⟨_,_,_,pre1,sp1,_,_,hb1⟩:=hw.vecAt (k:=0) rfl
 obtain ⟨_,_,_,pre2,sp2,_,_,hb2⟩:=hw.vecAt (k:=1) rfl
 have hne : b2 ≠ b1:=fun e2=>by
  have h3:=(List.pairwise_cons.1 hw.apart).1 (Ent.vec (some ⟨b2,o2,none⟩) n2 c2 e 2 x2) (by simp) b1 (by simp [Ent.vec])
  exact h3 (by simp [Ent.vec,e2])
 obtain ⟨i,hi,hi1⟩:=Option.map_eq_some_iff.1 ovT_size
 have hlen : (pre1++x1++sp1).length ≠ 0:=by
  simp only [List.length_append]
  have:=List.length_pos_iff.2 h1
  omega
 rw [overlaps_run,Go.Lib.run_overlaps_apart w ovT ovR 39 ovT_und 2 (fun w=>by simp [sizeOf,typeInfo,hi,hi1]) ⟨b2,oa,none⟩ ⟨b1,ob,none⟩ la ca lb cb hne e e _ _ (by simp only [World.shape?,hb2]; rfl) (by simp only [World.shape?,hb1]; rfl) (by simpa using hlen) (by simp [World.frozen?,hb2]) (by simp [World.frozen?,hb2])]
 rfl
theorem ins_td {α : Type} (v : α) : ∀ (k : Nat) (l : List α),k ≤ l.length→l.insertIdx k v = l.take k++v::l.drop k
 | 0,l,_=>by simp
 | k + 1,[],h=>by simp at h
 | k + 1,x::l,h=>by
  rw [List.insertIdx_succ_cons,ins_td v k l (by simpa using h)]
  rfl
theorem insertVal_c (b o c : Nat) (l : List LVal) (k : Nat) (v : LVal) (vb : Nat) (hk : k ≤ l.length) (hroom : l.length + 1 ≤ c) (hb : l.length ≤ 1000) (w0 : World)
  (hW : Wd (fps [Ent.vec (some ⟨b,o,none⟩) l.length c 39 2 (l.flatMap vlC),Ent.vec (some ⟨vb,0,none⟩) 1 1 39 2 [.bool v.reg,.int .i64 v.n]]) w0 [Ent.vec (some ⟨b,o,none⟩) l.length c 39 2 (l.flatMap vlC),Ent.vec (some ⟨vb,0,none⟩) 1 1 39 2 [.bool v.reg,.int .i64 v.n]] w0) :
  Ret Tryd.prog 82 [.slice (some ⟨b,o,none⟩) l.length c,.int .i64 k,.slice (some ⟨vb,0,none⟩) 1 1] w0 fun u w'=>∃ x : Option Addr × Nat,u = .slice x.1 (l.length + 1) x.2∧Wd (fps [Ent.vec (some ⟨b,o,none⟩) l.length c 39 2 (l.flatMap vlC),Ent.vec (some ⟨vb,0,none⟩) 1 1 39 2 [.bool v.reg,.int .i64 v.n]]) w0 [Ent.vec x.1 (l.length + 1) x.2 39 2 ((l.insertIdx k v).flatMap vlC)] w':=by
 obtain ⟨n,hn⟩ : ∃ n,n = l.length:=⟨_,rfl⟩
 obtain ⟨SS,hSS⟩ : ∃ SS,SS = fps [Ent.vec (some ⟨b,o,none⟩) l.length c 39 2 (l.flatMap vlC),Ent.vec (some ⟨vb,0,none⟩) 1 1 39 2 [.bool v.reg,.int .i64 v.n]]:=⟨_,rfl⟩
 rw [← hSS] at hW ⊢
 rw [← hn] at hk hroom hb hW ⊢
 have hfl : (l.flatMap vlC).length = n * 2:=by rw [flat_len vlC_len,hn]
 have hins2 : (l.insertIdx k v).flatMap vlC = (l.flatMap vlC).take (k * 2)++[.bool v.reg,.int .i64 v.n]++(l.flatMap vlC).drop (k * 2):=by
  rw [(flat_cut vlC_len l k).1,(flat_cut vlC_len l k).2,ins_td v k l (by omega),List.flatMap_append,List.flatMap_cons,List.append_assoc]
  rfl
 obtain ⟨FL,hFL⟩ : ∃ FL,FL = l.flatMap vlC:=⟨_,rfl⟩
 rw [← hFL] at hfl hW hins2
 refine ret_enter Tryd.func82 rfl Tryd.ntmps82 rfl hW ?_
 refine g_vecLe 0 rfl fun _ hnc hc63=>?_
 have c0 : CutFr k n:=⟨hk⟩
 repeat (first|refine g_op rfl ?_|refine g_then ?_|refine g_nil ?_|refine g_region ?_|refine g_seq ?_|refine g_skip ?_|refine g_condF ?_)
 refine g_cond (fun h1=>?_) (fun h1=>?_)
 ·obtain rfl : k = n:=by have:=of_decide_eq_true h1; omega
  repeat (first|refine g_op rfl ?_|refine g_region ?_|refine g_seq ?_)
  refine g_appendAt 0 rfl rfl (by decide +kernel) (by omega) (by omega) fun na nc=>?_
  repeat (first|refine g_then ?_|refine g_nil ?_|refine g_opS rfl ?_|refine g_ret ?_|refine g_thenRet ?_)
  have hins : (l.insertIdx k v).flatMap vlC = FL++[.bool v.reg,.int .i64 v.n]:=by
   rw [hFL,hn,List.insertIdx_length_self,List.flatMap_append]
   rfl
  exact g_ret1 rfl fun w hw=>⟨(na,nc),rfl,by rw [hins]; exact hw.sub (.cons_cons _ (List.nil_sublist _))⟩
 have hkn : k < n:=by have:=of_decide_eq_false h1; omega
 repeat (first|refine g_op rfl ?_|refine g_then ?_|refine g_nil ?_|refine g_region ?_|refine g_seq ?_|refine g_skip ?_|refine g_add rfl (by omega) (by omega) ?_)
 rw [show decide ((c : Int) < (n : Int) + ((1 : Nat) : Int)) = false by simp; omega]
 have hadd : ∀ (m : Nat),m ≤ 100000→∀ (L : List (Nat × Value)) (H : List Ent) (T T2 : Nat) (x y : Operand) [Ev L x (.int .i64 (m : Int))] [Ev L y (.int .i64 ((1 : Nat) : Int))],RunsC Tryd.prog 95 [] SS w0 L H (.binOp .add T x y T2) (.int .i64 ((m + 1 : Nat) : Int)):=fun m hm L H T T2 x y _ _=>by
  have:=runs_add (P:=Tryd.prog) (N:=95) (ds:=[]) (S:=SS) (w0:=w0) (L:=L) (H:=H) (T:=T) (T2:=T2) (x:=x) (y:=y) (m:=(m : Int)) (n:=((1 : Nat) : Int)) (by omega) (by omega)
  rwa [show (m : Int) + ((1 : Nat) : Int) = ((m + 1 : Nat) : Int) by omega] at this
 have haddn:=hadd n (by omega)
 have haddk:=hadd k (by omega)
 have c1 : CutHi (n + 1) c:=⟨hroom⟩
 have c2 : CutFr (k + 1) (n + 1):=⟨by omega⟩
 have c3 : CutFr k (n + 1):=⟨by omega⟩
 have e1 : cutA b o (k + 1) 2 c = some ⟨b,o + (k + 1) * 2,none⟩:=by unfold cutA; rw [if_neg (by omega)]
 have e2 : cutA b o k 2 c = some ⟨b,o + k * 2,none⟩:=by unfold cutA; rw [if_neg (by omega)]
 repeat (first|refine g_op rfl ?_|refine g_then ?_|refine g_nil ?_|refine g_region ?_|refine g_seq ?_|refine g_opS rfl ?_|refine g_skip ?_|refine g_condF ?_)
 rw [e1]
 refine g_callX rfl (fun w hw=>overlaps_off hw (fun e=>by rw [e] at hfl; simp at hfl; omega) (by simp) _ _ _ _ _ _) ?_
 repeat (first|refine g_op rfl ?_|refine g_then ?_|refine g_nil ?_|refine g_seq ?_|refine g_condT ?_)
 refine g_grow 0 rfl (n + 1) (by omega) hroom fun ys hys=>?_
 simp only [List.set_cons_zero]
 refine g_drawH [] mixed (List.nil_sublist _) ?_
 refine h_take 0 rfl (by decide +kernel) (List.nil_sublist _) ?_
 refine h_take 1 rfl (by decide +kernel) (List.nil_sublist _) ?_
 refine h_take 2 rfl (by decide +kernel) (List.nil_sublist _) ?_
 refine h_take 3 rfl (by decide +kernel) (List.nil_sublist _) ?_
 refine h_take 4 rfl (by decide +kernel) (List.nil_sublist _) ?_
 refine h_take 5 rfl (by decide +kernel) (List.nil_sublist _) ?_
 refine h_take 6 rfl (by decide +kernel) (List.nil_sublist _) ?_
 refine h_take 7 rfl (by decide +kernel) (List.nil_sublist _) ?_
 rw [e1,e2]
 refine h_copyS 8 0 (off:=(k + 1) * 2) (n - k) (FL.drop (k * 2)) rfl rfl (by omega) (by rw [List.length_drop]; omega) (fun w hw j u hj=>?_) (by rw [List.length_append,List.length_drop]; omega) (fun u hu=>by rw [hFL] at hu; exact vlC_one u (List.mem_of_mem_drop hu)) (by decide +kernel) (List.nil_sublist _) ?_
 ·rw [List.getElem?_drop] at hj
  have hjl:=(List.getElem?_eq_some_iff.1 hj).1
  have:=hw.vecCell (k:=0) rfl (j:=k * 2 + j) (v:=u) (by rw [List.getElem?_append_left hjl]; exact hj)
  rw [show o + k * 2 + j = o + (k * 2 + j) by omega]
  exact this
 refine h_end (by decide +kernel) ?_
 simp only [List.set_cons_zero]
 have hX : (FL++ys).take ((k + 1) * 2)++FL.drop (k * 2)++(FL++ys).drop ((k + 1) * 2 + (FL.drop (k * 2)).length) = FL.take ((k + 1) * 2)++FL.drop (k * 2):=by
  rw [List.take_append_of_le_length (by omega),List.drop_of_length_le (l:=FL++ys) (by rw [List.length_append,List.length_drop]; omega),List.append_nil]
 rw [hX]
 have hXl : (FL.take ((k + 1) * 2)++FL.drop (k * 2)).length = (n + 1) * 2:=by rw [List.length_append,List.length_take,List.length_drop]; omega
 repeat (first|refine g_op rfl ?_|refine g_then ?_|refine g_region ?_|refine g_seq ?_)
 rw [e2]
 refine g_copyS (off:=k * 2) 0 1 [.bool v.reg,.int .i64 v.n] rfl rfl (by omega) rfl (fun w hw j u hj=>?_) (by rw [hXl]; simp only [List.length_cons,List.length_nil]; omega) (by simp [Value.oneCell']) ?_
 ·have:=hw.vecCell (k:=1) rfl hj
  exact this
 simp only [List.set_cons_zero]
 have hY : (FL.take ((k + 1) * 2)++FL.drop (k * 2)).take (k * 2)++[.bool v.reg,.int .i64 v.n]++(FL.take ((k + 1) * 2)++FL.drop (k * 2)).drop (k * 2 + [Value.bool v.reg,.int .i64 v.n].length) = (l.insertIdx k v).flatMap vlC:=by
  rw [hins2,List.take_append_of_le_length (by rw [List.length_take]; omega),List.take_take,Nat.min_eq_left (by omega)]
  congr 1
  rw [List.drop_append,List.drop_of_length_le (l:=FL.take ((k + 1) * 2)) (by rw [List.length_take]; simp only [List.length_cons,List.length_nil]; omega),List.nil_append,List.length_take]
  rw [show k * 2 + [Value.bool v.reg,.int .i64 v.n].length - min ((k + 1) * 2) FL.length = 0 by simp only [List.length_cons,List.length_nil]; omega,List.drop_zero]
 rw [hY]
 repeat (first|refine g_op rfl ?_|refine g_then ?_|refine g_nil ?_|refine g_region ?_|refine g_seq ?_|refine g_opS rfl ?_|refine g_ret ?_|refine g_thenRet ?_)
 exact g_ret1 rfl fun w hw=>⟨(some ⟨b,o,none⟩,c),rfl,hw.sub (.cons_cons _ (List.nil_sublist _))⟩
end Go.Proofs.YtpadjpplidlfeaaDoor
namespace Go.Proofs.YtpadjpplidlfeaaDoor
open Go Go.RowKit
theorem ins_rise (b : Nat) : ∀ l : List Nat,l.Pairwise (· < ·)→b ∉ l→(l.insertIdx (l.filter fun a=>decide (a < b)).length b).Pairwise (· < ·)∧∀ y,y ∈ l.insertIdx (l.filter fun a=>decide (a < b)).length b ↔ y = b ∨ y ∈ l
 | [],_,_=>⟨by simp,by simp⟩
 | a::l,hs,hb=>by
  obtain ⟨h1,h2⟩:=List.pairwise_cons.1 hs
  have hab : a ≠ b:=fun e=>hb (by rw [e]; exact List.mem_cons_self)
  have hbl : b ∉ l:=fun e=>hb (List.mem_cons_of_mem _ e)
  by_cases h : a < b
  ·obtain ⟨i1,i2⟩:=ins_rise b l h2 hbl
   rw [List.filter_cons_of_pos (by simpa using h),List.length_cons,List.insertIdx_succ_cons]
   refine ⟨List.pairwise_cons.2 ⟨fun y hy=>?_,i1⟩,fun y=>?_⟩
   ·rcases (i2 y).1 hy with rfl|hy
    ·exact h
    ·exact h1 y hy
   ·rw [List.mem_cons,i2,List.mem_cons]
    constructor
    ·rintro (h|h|h)
     ·exact .inr (.inl h)
     ·exact .inl h
     ·exact .inr (.inr h)
    ·rintro (h|h|h)
     ·exact .inr (.inl h)
     ·exact .inl h
     ·exact .inr (.inr h)
  ·have hall : (a::l).filter (fun a=>decide (a < b)) = []:=List.filter_eq_nil_iff.2 fun y hy=>by
    rcases List.mem_cons.1 hy with rfl|hy
    ·simpa using h
    ·have:=h1 y hy
     simp; omega
   rw [hall]
   refine ⟨?_,fun y=>by simp⟩
   show (b::a::l).Pairwise _
   refine List.pairwise_cons.2 ⟨fun y hy=>?_,hs⟩
   rcases List.mem_cons.1 hy with rfl|hy
   ·omega
   ·have:=h1 y hy
    omega
def renJ (bl : List LBlock) (b t c : Nat) : Nat:=((preds bl c).filter fun a=>decide (a < b) && decide (a ≠ t)).length
def turnR (bl : List LBlock) (b t c : Nat) (p : LPhi) : LPhi:=⟨p.dst,(p.src.eraseIdx ((preds bl c).idxOf t)).insertIdx (renJ bl b t c) (p.src.getD ((preds bl c).idxOf t) noV)⟩
theorem map_insertIdx {α β : Type} (f : α→β) (x : α) : ∀ (k : Nat) (l : List α),(l.insertIdx k x).map f = (l.map f).insertIdx k (f x)
 | 0,l=>by simp
 | k + 1,[]=>by simp
 | k + 1,y::l=>by rw [List.insertIdx_succ_cons,List.map_cons,List.map_cons,List.insertIdx_succ_cons,map_insertIdx f x k l]
theorem predsJ_ins {bl : List LBlock} {b t c : Nat} (hj : JoinOk bl b t) (hc : c ≠ t) (hm : t ∈ preds bl c) : predsJ bl b t c = ((preds bl c).eraseIdx ((preds bl c).idxOf t)).insertIdx (renJ bl b t c) b:=by
 have hnd:=preds_nodup bl c
 have hs:=preds_srt bl c
 have he : (preds bl c).eraseIdx ((preds bl c).idxOf t) = (preds bl c).filter fun a=>decide (a ≠ t):=by
  rw [← List.erase_eq_eraseIdx_of_idxOf rfl,hnd.erase_eq_filter]
  refine List.filter_congr fun x _=>?_
  simp [bne,BEq.beq,decide_not]
 have hr : renJ bl b t c = (((preds bl c).filter fun a=>decide (a ≠ t)).filter fun a=>decide (a < b)).length:=by
  unfold renJ
  rw [List.filter_filter]
 rw [he,hr]
 obtain ⟨h1,h2⟩:=ins_rise b ((preds bl c).filter fun a=>decide (a ≠ t)) (hs.sublist List.filter_sublist) (fun h=>pred_not_b hj hc (List.mem_filter.1 h).1)
 have h3 : (predsJ bl b t c).Pairwise (· < ·):=List.pairwise_lt_range.sublist List.filter_sublist
 have hnd2 : ∀ {l : List Nat},l.Pairwise (· < ·)→l.Nodup:=fun h=>h.imp fun h=>Nat.ne_of_lt h
 have hp:=(List.perm_ext_iff_of_nodup (hnd2 h3) (hnd2 h1)).2 fun q=>by
  rw [h2,List.mem_filter,decide_eq_true_eq,predsJ_mem hj hc]
  by_cases e : q = b
  ·rw [if_pos e]
   exact ⟨fun _=>.inl e,fun _=>⟨fun e2=>hj.ne (e2 ▸ e),hm⟩⟩
  ·rw [if_neg e]
   exact ⟨fun h=>.inr ⟨h.2,h.1⟩,fun h=>h.elim (fun h=>absurd h e) fun h=>⟨h.2,h.1⟩⟩
 exact sort_one (f:=fun x : Nat=>x) hp.symm h1 (h3.imp fun h=>.inl h)
theorem turnR_eq {bl : List LBlock} {b t c : Nat} (hj : JoinOk bl b t) (hc : c ≠ t) (hm : t ∈ preds bl c) (p : LPhi) (hp : p.src.length = (preds bl c).length) : turnR bl b t c p = phJ bl b t c p:=by
 have hsrc : p.src = (preds bl c).map (srcAt bl c p):=by
  apply List.ext_getElem?
  intro j
  rw [List.getElem?_map]
  by_cases h : j < (preds bl c).length
  ·obtain ⟨q,hq⟩ : ∃ q,(preds bl c)[j]? = some q:=⟨_,List.getElem?_eq_getElem h⟩
   obtain ⟨v,hv⟩ : ∃ v,p.src[j]? = some v:=⟨_,List.getElem?_eq_getElem (by omega)⟩
   have h5:=idx_nth (preds_nodup bl c) (i:=j) h
   rw [nth_get hq] at h5
   rw [hq,hv,Option.map_some]
   unfold srcAt
   rw [h5,List.getD_eq_getElem?_getD,hv]
   rfl
  ·rw [List.getElem?_eq_none (by omega),List.getElem?_eq_none (by omega)]
   rfl
 unfold turnR phJ
 congr 1
 have hv : p.src.getD ((preds bl c).idxOf t) noV = srcAt bl c p t:=rfl
 rw [predsJ_ins hj hc hm,map_insertIdx,if_pos rfl,hv]
 congr 1
 conv=>lhs; rw [hsrc]
 rw [← map_eraseIdx']
 refine List.map_congr_left fun q hq=>?_
 have hqm:=List.mem_of_mem_eraseIdx hq
 rw [if_neg (fun e : q = b=>pred_not_b hj hc (e ▸ hqm))]
theorem phJ_same {bl : List LBlock} {b t c : Nat} (hj : JoinOk bl b t) (hc : c ≠ t) (hm : t ∉ preds bl c) (p : LPhi) (hp : p.src.length = (preds bl c).length) : phJ bl b t c p = p:=by
 obtain ⟨pd,ps⟩:=p
 have hpr : predsJ bl b t c = preds bl c:=by
  unfold predsJ preds
  refine List.filter_congr fun q hq=>?_
  have hql:=List.mem_range.1 hq
  unfold toJ
  have hmt : ¬ (c : Int) ∈ toOf bl t:=fun h=>hm (preds_mem hj.tlt h)
  have hmb : ¬ (c : Int) ∈ toOf bl b:=fun h=>pred_not_b hj hc (preds_mem hj.blt h)
  by_cases h1 : q = t
  ·rw [if_pos h1,h1]
   simp [hmt]
  ·rw [if_neg h1]
   by_cases h2 : q = b
   ·rw [if_pos h2,h2]
    simp [hmt,hmb]
   ·rw [if_neg h2]
 unfold phJ
 simp only at hp ⊢
 congr 1
 rw [hpr]
 apply List.ext_getElem?
 intro j
 rw [List.getElem?_map]
 by_cases h : j < (preds bl c).length
 ·obtain ⟨q,hq⟩ : ∃ q,(preds bl c)[j]? = some q:=⟨_,List.getElem?_eq_getElem h⟩
  obtain ⟨v,hv⟩ : ∃ v,ps[j]? = some v:=⟨_,List.getElem?_eq_getElem (by omega)⟩
  have h5:=idx_nth (preds_nodup bl c) (i:=j) h
  rw [nth_get hq] at h5
  rw [hq,hv,Option.map_some,if_neg (fun e : q = b=>pred_not_b hj hc (e ▸ List.mem_of_getElem? hq))]
  unfold srcAt
  simp only
  rw [h5,List.getD_eq_getElem?_getD,hv]
  rfl
 ·rw [List.getElem?_eq_none (by omega),List.getElem?_eq_none (by omega)]
  rfl
end Go.Proofs.YtpadjpplidlfeaaDoor
