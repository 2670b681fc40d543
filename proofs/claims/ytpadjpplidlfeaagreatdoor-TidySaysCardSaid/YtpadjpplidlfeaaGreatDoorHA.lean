/- Texts joined: Clean OwnR Del RunP RunQ RunR. -/
import Derived.Test.YtpadjpplidlfeaaGreatDoorGF
import Derived.Test.YtpadjpplidlfeaaGreatDoorGG
import Derived.Test.YtpadjpplidlfeaaGreatDoorGI
import Derived.Test.YtpadjpplidlfeaaGreatDoorGJ
import Derived.Test.YtpadjpplidlfeaaGreatDoorGM
namespace Go.Proofs.YtpadjpplidlfeaaGreatDoor
open Go Go.RowKit
def CellLe (w w' : World) : Prop:=∀ p v,w.cell? p = some v→w'.cell? p = some v
theorem CellsAt.le {w w' : World} (h : CellLe w w') {b o : Nat} {cs : List Value} (hc : CellsAt w b o cs) : CellsAt w' b o cs:=fun j v hj=>h _ _ (hc j v hj)
def MonoV {α : Type} (V : World→α→List Value→Prop) : Prop:=∀ w w',CellLe w w'→∀ x cs,V w x cs→V w' x cs
theorem SlAt.le {α : Type} {V : World→α→List Value→Prop} (hV : MonoV V) {w w' : World} (h : CellLe w w') {v : Value} {s : Nat} {l : List α} (hs : SlAt w v s l V) : SlAt w' v s l V:=by
 obtain ⟨a,n,c,b,o,h1,h2,h3,hz,h4,h5,h6⟩:=hs
 refine ⟨a,n,c,b,o,h1,h2,h3,hz,h4,h5,fun i x hx=>?_⟩
 obtain ⟨cs,hc,hv⟩:=h6 i x hx
 exact ⟨cs,hc.le h,hV w w' h x cs hv⟩
theorem mono_int : MonoV IntV:=fun _ _ _ _ _ h=>h
theorem mono_val : MonoV ValV:=fun _ _ _ _ _ h=>h
class OwnAgg (H : List Ent) (b off : Nat) (cs : outParam (List Value)) : Prop where
 eq : ∀ S w0 w,Wd S w0 H w→CellsAt w b off cs
section
variable {P : Program} {ro : Option Nat} {N : Nat} {ds : List Deferred} {S : Nat→Prop} {w0 : World} {L : List (Nat × Value)} {H : List Ent} {ops : Array Oper} {rest : List Oper} {Q : Exit→Act→World→Prop} {x y : Operand}
instance {T b off n : Nat} {cs : List Value} [h : AggSize P T n] [hx : Ev L x (.pointer (some ⟨b,off,none⟩))] [hc : OwnAgg H b off cs] [hn : LenIs cs n] : RunsC P N ds S w0 L H (.load T x) (.agg cs.toArray) :=
 ⟨fun _ h=>(by cases h),fun _ _ h=>(by cases h),fun _ _ _ _ _ a w hF hW=>by simp [execOp,hx.eq _ _ _ hF,run_loadAgg hn.eq (hc.eq _ _ _ hW)]⟩
theorem ownAgg {α : Type} {k b o n c e s i : Nat} {l : List α} {g : α→List Value} {y : α} (hk : H[k]? = some (Ent.vec (some ⟨b,o,none⟩) n c e s (l.flatMap g))) (hg : ∀ x,(g x).length = s) (hy : l[i]? = some y) : OwnAgg H b (o + i * s) (g y) :=
 ⟨fun _ _ w hw j v hj=>by
  have:=hw.vecCell hk (flat_at hg l i y j v hy hj)
  rwa [← Nat.add_assoc] at this⟩
theorem flat_cut {α : Type} {g : α→List Value} {s : Nat} (hg : ∀ x,(g x).length = s) : ∀ (l : List α) (i : Nat),(l.flatMap g).take (i * s) = (l.take i).flatMap g∧(l.flatMap g).drop (i * s) = (l.drop i).flatMap g
 | [],i=>by simp
 | x::l,0=>by simp
 | x::l,i + 1=>by
  obtain ⟨h1,h2⟩:=flat_cut hg l i
  have e : (i + 1) * s = (g x).length + i * s:=by rw [hg,Nat.succ_mul]; omega
  rw [List.flatMap_cons,e,List.take_length_add_append,List.drop_length_add_append,h1,h2]
  simp
theorem flat_put {α : Type} {g : α→List Value} {s : Nat} (hg : ∀ x,(g x).length = s) {l : List α} {i : Nat} (hi : i < l.length) (y : α) : (l.flatMap g).take (i * s)++g y++(l.flatMap g).drop (i * s + s) = (l.set i y).flatMap g:=by
 have e : i * s + s = (i + 1) * s:=by rw [Nat.succ_mul]
 rw [e,(flat_cut hg l i).1,(flat_cut hg l (i + 1)).2]
 conv=>rhs; rw [List.set_eq_take_append_cons_drop]
 rw [if_pos hi]
 simp
theorem flat_set {α : Type} {g : α→List Value} {s : Nat} (hg : ∀ x,(g x).length = s) : ∀ {l : List α} {i k : Nat} {x y : α} {v : Value},l[i]? = some x→k < s→(g x).set k v = g y→(l.flatMap g).set (i * s + k) v = (l.set i y).flatMap g
 | [],i,k,x,y,v,hx,_,_=>by simp at hx
 | z::l,0,k,x,y,v,hx,hk,he=>by
  simp only [List.getElem?_cons_zero,Option.some.injEq] at hx
  subst hx
  rw [List.flatMap_cons,Nat.zero_mul,Nat.zero_add,List.set_append_left _ _ (by rw [hg]; exact hk),he]
  simp
 | z::l,i + 1,k,x,y,v,hx,hk,he=>by
  have ih:=flat_set hg (l:=l) (i:=i) (k:=k) (x:=x) (y:=y) (v:=v) (by simpa using hx) hk he
  have e : (i + 1) * s + k = (g z).length + (i * s + k):=by rw [hg,Nat.succ_mul]; omega
  rw [List.flatMap_cons,e,List.set_append_right _ _ (by omega),Nat.add_sub_cancel_left,ih]
  simp
theorem g_storeVA {ty T b o off j n c e s m : Nat} (k : Nat) {xs vs : List Value} {pos : String} {aft : Array Go.Edge} [h : AggSize P T m] [hx : Ev L x (.pointer (some ⟨b,off,none⟩))] [hy : Ev L y (.agg vs.toArray)] [hn : LenIs vs m] [h1 : OneVs vs]
  (hk : H[k]? = some (Ent.vec (some ⟨b,o,none⟩) n c e s xs)) (hoff : off = o + j) (hfit : j + m ≤ xs.length)
  (kk : G N ds S w0 L (H.set k (Ent.vec (some ⟨b,o,none⟩) n c e s (xs.take j++vs++xs.drop (j + m)))) (wpListIn (FW ro) 0 P ops Q rest)) : G N ds S w0 L H (wpListIn (FW ro) 0 P ops Q (⟨none,.store T x y,ty,pos,aft,none⟩::rest)):=fun a w hS=>by
 subst hoff
 obtain ⟨hl,hnc,hcm,pre,sp,rfl,hsp,hb⟩:=hS.wd.vecAt hk
 have hlt : b < w.heap.size:=(Array.getElem?_eq_some_iff.1 hb).1
 have hvm:=hn.eq
 have hs:=run_storeCells_at P b (pre.length + j) e vs 0 _ w hb (by simp; omega) h1.all
 have hrow : (pre++xs++sp).take (pre.length + j + 0)++vs++(pre++xs++sp).drop (pre.length + j + 0 + vs.length) = pre++(xs.take j++vs++xs.drop (j + m))++sp:=by
  rw [Nat.add_zero,List.append_assoc pre xs sp,List.take_length_add_append,Nat.add_assoc,List.drop_length_add_append,List.take_append_of_le_length (by omega),List.drop_append_of_le_length (by omega),hvm]
  simp
 simp only at hs
 rw [hrow] at hs
 refine step_skip (w':=w.setRow b (pre++(xs.take j++vs++xs.drop (j + m))++sp).toArray) rfl (fun _ h=>by cases h) ?_ ?_
 ·simp [execOp,hx.eq _ _ _ hS.fr,hy.eq _ _ _ hS.fr,Instr.storeAt,Instr.sureAddr,storeVar,h.sz,Value.cells,hvm,hs]
 ·refine kk _ _ ⟨hS.fr,?_⟩
  have hsz : ∀ q : Array Value,(w.setRow b q).heap.size = w.heap.size:=fun q=>by simp [World.setRow]
  refine hS.wd.turnAt hk ⟨rfl,rfl,rfl,by rw [hsz]; exact Nat.le_refl _,fun j _ hj=>setRow_other w b j _ fun e'=>hj (by simp [Ent.vec,e'])⟩ (fun b' hb'=>?_) fun w2 hw2=>?_
  ·simp only [Ent.vec,Option.map_some,Option.some.injEq] at hb' ⊢
   subst hb'
   exact ⟨.inl rfl,by rw [hsz]; exact hlt⟩
  ·have:=hw2 b (by simp [Ent.vec])
   refine ⟨?_,.inr ⟨b,pre,sp,rfl,hnc,hcm,hsp,?_⟩⟩
   ·simp only [List.length_append,List.length_take,List.length_drop]; omega
   ·rw [this]
    exact setRow_heap w b _ _ e _ hb
end
end Go.Proofs.YtpadjpplidlfeaaGreatDoor
namespace Go.Proofs.YtpadjpplidlfeaaGreatDoor
open Go Go.RowKit
attribute [local irreducible] wpListIn Code.wpIn Exit.then Exit.inBlock bodyPost wpQuiet wpAnyIn wpAnyH
set_option maxHeartbeats 4000000
section
variable {P : Program} {ro : Option Nat} {N : Nat} {ds : List Deferred} {S : Nat→Prop} {w0 w : World} {L : List (Nat × Value)} {H : List Ent} {ops : Array Oper} {rest : List Oper} {Q : Exit→Act→World→Prop} {p : Act→World→Prop} {x y z u : Operand}
theorem Wd.writeAt (hW : Wd S w0 H w) {k : Nat} {b o n c e s : Nat} {xs vs : List Value} (hk : H[k]? = some (Ent.vec (some ⟨b,o,none⟩) n c e s xs)) (j : Nat) (h1 : ∀ v ∈ vs,v.oneCell' = true) (hfit : j + vs.length ≤ xs.length) :
  ∃ w',(storeCells ⟨b,o + j,none⟩ vs).run P w = .ok () w'∧Wd S w0 (H.set k (Ent.vec (some ⟨b,o,none⟩) n c e s (xs.take j++vs++xs.drop (j + vs.length)))) w':=by
 obtain ⟨hl,hnc,hcm,pre,sp,rfl,hsp,hb⟩:=hW.vecAt hk
 have hlt : b < w.heap.size:=(Array.getElem?_eq_some_iff.1 hb).1
 have hs:=run_storeCells_at P b (pre.length + j) e vs 0 _ w hb (by simp; omega) h1
 have hrow : (pre++xs++sp).take (pre.length + j + 0)++vs++(pre++xs++sp).drop (pre.length + j + 0 + vs.length) = pre++(xs.take j++vs++xs.drop (j + vs.length))++sp:=by
  rw [Nat.add_zero,List.append_assoc pre xs sp,List.take_length_add_append,Nat.add_assoc,List.drop_length_add_append,List.take_append_of_le_length (by omega),List.drop_append_of_le_length (by omega)]
  simp
 simp only at hs
 rw [hrow] at hs
 refine ⟨_,hs,?_⟩
 have hsz : ∀ q : Array Value,(w.setRow b q).heap.size = w.heap.size:=fun q=>by simp [World.setRow]
 refine hW.turnAt hk ⟨rfl,rfl,rfl,by rw [hsz]; exact Nat.le_refl _,fun j _ hj=>setRow_other w b j _ fun e'=>hj (by simp [Ent.vec,e'])⟩ (fun b' hb'=>?_) fun w2 hw2=>?_
 ·simp only [Ent.vec,Option.map_some,Option.some.injEq] at hb' ⊢
  subst hb'
  exact ⟨.inl rfl,by rw [hsz]; exact hlt⟩
 ·have:=hw2 b (by simp [Ent.vec])
  refine ⟨?_,.inr ⟨b,pre,sp,rfl,hnc,hcm,hsp,?_⟩⟩
  ·simp only [List.length_append,List.length_take,List.length_drop]; omega
  ·rw [this]
   exact setRow_heap w b _ _ e _ hb
theorem Wd.shrink (hW : Wd S w0 H w) {k : Nat} {b o n c e s : Nat} {xs : List Value} (hk : H[k]? = some (Ent.vec (some ⟨b,o,none⟩) n c e s xs)) (m : Nat) (hm : m ≤ n) :
  Wd S w0 (H.set k (Ent.vec (some ⟨b,o,none⟩) m c e s (xs.take (m * s)))) w:=by
 obtain ⟨hl,hnc,hcm,pre,sp,rfl,hsp,hb⟩:=hW.vecAt hk
 have hlt : b < w.heap.size:=(Array.getElem?_eq_some_iff.1 hb).1
 have hms : m * s ≤ n * s:=Nat.mul_le_mul_right _ hm
 refine hW.turnAt hk (Chg.refl _ _) (fun b' hb'=>?_) fun w2 hw2=>?_
 ·simp only [Ent.vec,Option.map_some,Option.some.injEq] at hb' ⊢
  subst hb'
  exact ⟨.inl rfl,hlt⟩
 ·have:=hw2 b (by simp [Ent.vec])
  refine ⟨by rw [List.length_take]; omega,.inr ⟨b,pre,xs.drop (m * s)++sp,rfl,by omega,hcm,?_,?_⟩⟩
  ·rw [List.length_append,List.length_drop,hl]
   have h1 : (c - m) * s = (c - n) * s + (n - m) * s:=by rw [← Nat.add_mul]; congr 1; omega
   have h2 : (n - m) * s = n * s - m * s:=Nat.sub_mul _ _ _
   omega
  ·rw [this,hb]
   have : pre++xs++sp = pre++xs.take (m * s)++(xs.drop (m * s)++sp):=by
    rw [List.append_assoc,List.append_assoc,← List.append_assoc (xs.take _),List.take_append_drop]
   rw [this]
theorem g_shrink (k : Nat) {b o n c e s : Nat} {xs : List Value} (hk : H[k]? = some (Ent.vec (some ⟨b,o,none⟩) n c e s xs)) (m : Nat) (hm : m ≤ n)
  (kk : G N ds S w0 L (H.set k (Ent.vec (some ⟨b,o,none⟩) m c e s (xs.take (m * s)))) p) : G N ds S w0 L H p:=fun a w hS=>kk a w ⟨hS.fr,hS.wd.shrink hk m hm⟩
theorem appendIn_run {d ty T e s by' : Nat} {zs : List Value} {pos : String} {aft : Array Go.Edge} (k : Nat) {b o n c i j m c2 : Nat} {ay : Option Addr} {xs : List Value} [h : ElemInfo P T e s by' zs] [hx : Ev L x (.slice (some ⟨b,o,none⟩) i c)] [hy : Ev L y (.slice ay m c2)]
  (hk : H[k]? = some (Ent.vec (some ⟨b,o,none⟩) n c e s xs)) (hay : 0 < m→ay = some ⟨b,o + j * s,none⟩) (hi : i + m ≤ n) (hj : j + m ≤ n) (h1 : ∀ v ∈ xs,v.oneCell' = true) (a : Act) (w : World) (hS : St N ds S w0 L H a w) :
  ∃ w',(execOp a.eval ⟨some d,.call { callee:=.builtin .append,args:=#[x,y],argTypes:=#[T,T] },ty,pos,aft,none⟩).run P w = .ok (.value (.slice (some ⟨b,o,none⟩) (i + m) c)) w'∧Wd S w0 (H.set k (Ent.vec (some ⟨b,o,none⟩) n c e s (xs.take (i * s)++(xs.drop (j * s)).take (m * s)++xs.drop (i * s + m * s)))) w':=by
 obtain ⟨hl,hnc,hcm,pre,sp,_,hsp,hb⟩:=hS.wd.vecAt hk
 obtain ⟨inf,zv,hinf,hzv,hcs,h2,h3⟩:=h.get
 subst h2
 have hjs : j * inf.size + m * inf.size ≤ n * inf.size:=by rw [← Nat.add_mul]; exact Nat.mul_le_mul_right _ hj
 have his : i * inf.size + m * inf.size ≤ n * inf.size:=by rw [← Nat.add_mul]; exact Nat.mul_le_mul_right _ hi
 have hnl : ((xs.drop (j * inf.size)).take (m * inf.size)).length = m * inf.size:=by rw [List.length_take,List.length_drop]; omega
 have hf : (Builtin.firstCells inf.size m (.slice ay m c2)).run P w = .ok ((xs.drop (j * inf.size)).take (m * inf.size)).toArray w:=by
  by_cases hm : 0 < m
  ·rw [hay hm]
   refine run_firstCells_some (P:=P) w inf.size m _ m c2 _ hnl fun t v ht=>?_
   rw [Addr.add_lit,Nat.add_assoc]
   refine hS.wd.vecCell hk ?_
   have htl : t < m * inf.size:=by rw [← hnl]; exact (List.getElem?_eq_some_iff.1 ht).1
   rw [List.getElem?_take_of_lt htl,List.getElem?_drop] at ht
   exact ht
  ·have : m = 0:=by omega
   subst this
   have h0 : ((xs.drop (j * inf.size)).take (0 * inf.size)).toArray = #[]:=by simp
   rw [h0]
   cases ay with
   | none=>exact run_firstCells_none _ _ _ _ _
   | some q=>exact run_firstCells_some (P:=P) w inf.size 0 q 0 c2 [] (by simp) (by simp)
 obtain ⟨w',hw',hW'⟩:=hS.wd.writeAt (P:=P) hk (i * inf.size) (vs:=(xs.drop (j * inf.size)).take (m * inf.size)) (fun v hv=>h1 v (List.mem_of_mem_drop (List.mem_of_mem_take hv))) (by rw [hnl]; omega)
 rw [hnl] at hW'
 have hroom : i + m ≤ c:=by omega
 exact ⟨w',by simp [execOp,resolve,invoke,builtin,hx.eq _ _ _ hS.fr,hy.eq _ _ _ hS.fr,Builtin.append_,run_underlying h.und,sizeOf,typeInfo,hinf,Builtin.lenOf,hroom,hf,Addr.add_lit,hw'],hW'⟩
theorem h_appendIn {M : Act→World→Prop} {l : List Oper} {fuel : Nat} {listed : Array Bool} {Hr : List Ent} {d ty T e s by' : Nat} {zs : List Value} {pos : String} {aft : Array Go.Edge} (i0 k : Nat) {b o n c i j m c2 : Nat} {ay : Option Addr} {xs : List Value} [ho : ListAt l i0 ⟨some d,.call { callee:=.builtin .append,args:=#[x,y],argTypes:=#[T,T] },ty,pos,aft,none⟩] [h : ElemInfo P T e s by' zs] [hx : Ev L x (.slice (some ⟨b,o,none⟩) i c)] [hy : Ev L y (.slice ay m c2)]
  (hk : H[k]? = some (Ent.vec (some ⟨b,o,none⟩) n c e s xs)) (hay : 0 < m→ay = some ⟨b,o + j * s,none⟩) (hi : i + m ≤ n) (hj : j + m ≤ n) (h1 : ∀ v ∈ xs,v.oneCell' = true) (hd : okPut d N L = true)
  (hr : decide (Region.ready .any l.toArray listed = [i0]) = true) (hHr : Hr.Sublist (H.set k (Ent.vec (some ⟨b,o,none⟩) n c e s (xs.take (i * s)++(xs.drop (j * s)).take (m * s)++xs.drop (i * s + m * s)))))
  (kk : G N ds S w0 ((d,.slice (some ⟨b,o,none⟩) (i + m) c)::L) (H.set k (Ent.vec (some ⟨b,o,none⟩) n c e s (xs.take (i * s)++(xs.drop (j * s)).take (m * s)++xs.drop (i * s + m * s)))) (wpAnyH P .any l.toArray (OnlyN M) (Wd S w0 Hr) fuel (listed.setIfInBounds i0 true))) :
  G N ds S w0 L H (wpAnyH P .any l.toArray (OnlyN M) (Wd S w0 Hr) (fuel + 1) listed) :=
 h_val i0 rfl hr fun a w hS=>by
  obtain ⟨w',h2,h3⟩:=appendIn_run (P:=P) (d:=d) (ty:=ty) (pos:=pos) (aft:=aft) (h:=h) (hx:=hx) (hy:=hy) k hk hay hi hj h1 a w hS
  exact ⟨_,w',h2,h3.sub hHr,kk _ _ ⟨hS.fr.putOk hd _,h3⟩⟩
class CutFr (lo n : Nat) : Prop where
 le : lo ≤ n
def cutA (b o lo s c : Nat) : Option Addr:=if c = lo then some ⟨b,o,none⟩ else some ⟨b,o + lo * s,none⟩
instance {T b o n c s lo : Nat} [hx : Ev L x (.slice (some ⟨b,o,none⟩) n c)] [hl : Ev L y (.int .i64 (lo : Int))] [h : ElemSize P T s] [hc : CutFr lo n] : RunsC P N ds S w0 L H (.slice T x (some y) none none) (.slice (cutA b o lo s c) (n - lo) (c - lo)) :=
 ⟨fun _ h=>(by cases h),fun _ _ h=>(by cases h),fun _ _ _ _ _ a w hF _=>by
  have hr:=run_slice_l (P:=P) w T (some ⟨b,o,none⟩) n c h.und .i64 lo (by omega) (by have:=hc.le; omega)
  simp [execOp,hx.eq _ _ _ hF,hl.eq _ _ _ hF,run_sliceAt_slice (P:=P) w T _ _ _ _ h.und,hr,h.sz,sliced,Addr.add_lit,cutA]⟩
theorem g_cut3 {d ty T s n c i j m : Nat} {ad : Option Addr} {pos : String} {aft : Array Go.Edge} [hx : Ev L x (.slice ad n c)] [hy : Ev L y (.int .i64 (i : Int))] [hz : Ev L z (.int .i64 (j : Int))] [hu : Ev L u (.int .i64 (m : Int))] [h : ElemSize P T s] (hd : okPut d N L = true) (h1 : i ≤ j∧j ≤ m∧m ≤ c)
  (kk : ∀ v,G N ds S w0 ((d,v)::L) H (wpListIn (FW ro) 0 P ops Q rest)) : G N ds S w0 L H (wpListIn (FW ro) 0 P ops Q (⟨some d,.slice T x (some y) (some z) (some u),ty,pos,aft,none⟩::rest)):=fun a w hS=>by
 have hr:=run_slice_lhm (P:=P) w T ad n c h.und .i64 .i64 .i64 i j m (by omega) (by omega) (by omega) (by omega)
 refine step_val (v:=sliced ad (i : Int).toNat (j : Int).toNat (m : Int).toNat s) (w':=w) rfl (fun _ h=>by cases h) ?_ (kk _ _ _ ⟨hS.fr.putOk hd _,hS.wd⟩)
 simp [execOp,hx.eq _ _ _ hS.fr,hy.eq _ _ _ hS.fr,hz.eq _ _ _ hS.fr,hu.eq _ _ _ hS.fr,run_sliceAt_slice (P:=P) w T _ _ _ _ h.und,hr,h.sz]
theorem g_cut2 {d ty T s b o n c i j : Nat} {pos : String} {aft : Array Go.Edge} [hx : Ev L x (.slice (some ⟨b,o,none⟩) n c)] [hy : Ev L y (.int .i64 (i : Int))] [hz : Ev L z (.int .i64 (j : Int))] [h : ElemSize P T s] (hd : okPut d N L = true) (h1 : i ≤ j∧j ≤ c∧i < c)
  (kk : G N ds S w0 ((d,.slice (some ⟨b,o + i * s,none⟩) (j - i) (c - i))::L) H (wpListIn (FW ro) 0 P ops Q rest)) : G N ds S w0 L H (wpListIn (FW ro) 0 P ops Q (⟨some d,.slice T x (some y) (some z) none,ty,pos,aft,none⟩::rest)):=fun a w hS=>by
 have hr:=run_slice_lh (P:=P) w T (some ⟨b,o,none⟩) n c h.und .i64 .i64 i j (by omega) (by omega) (by omega)
 have hne : ¬ c = i:=by omega
 refine step_val (v:=.slice (some ⟨b,o + i * s,none⟩) (j - i) (c - i)) (w':=w) rfl (fun _ h=>by cases h) ?_ (kk _ _ ⟨hS.fr.putOk hd _,hS.wd⟩)
 simp [execOp,hx.eq _ _ _ hS.fr,hy.eq _ _ _ hS.fr,hz.eq _ _ _ hS.fr,run_sliceAt_slice (P:=P) w T _ _ _ _ h.und,hr,h.sz,sliced,hne,Addr.add_lit]
theorem g_clear1 {ty T e s by' : Nat} {zs : List Value} {pos : String} {aft : Array Go.Edge} (k : Nat) {b o off j n c c2 : Nat} {xs : List Value} [h : ElemInfo P T e s by' zs] [hx : Ev L x (.slice (some ⟨b,off,none⟩) 1 c2)]
  (hk : H[k]? = some (Ent.vec (some ⟨b,o,none⟩) n c e s xs)) (hoff : off = o + j * s) (hj : j < n) (hzl : zs.length = s) (h1 : ∀ v ∈ zs,v.oneCell' = true)
  (kk : G N ds S w0 L (H.set k (Ent.vec (some ⟨b,o,none⟩) n c e s (xs.take (j * s)++zs++xs.drop (j * s + s)))) (wpListIn (FW ro) 0 P ops Q rest)) :
  G N ds S w0 L H (wpListIn (FW ro) 0 P ops Q (⟨none,.call { callee:=.builtin .clear,args:=#[x],argTypes:=#[T] },ty,pos,aft,none⟩::rest)):=by
 intro a w hS
 subst hoff
 obtain ⟨hl,hnc,hcm,pre,sp,_,hsp,hb⟩:=hS.wd.vecAt hk
 obtain ⟨inf,zv,hinf,hzv,hcs,h2,h3⟩:=h.get
 subst h2
 have hjs : j * inf.size + inf.size ≤ n * inf.size:=by rw [← Nat.succ_mul]; exact Nat.mul_le_mul_right _ hj
 obtain ⟨w',hw',hW'⟩:=hS.wd.writeAt (P:=P) hk (j * inf.size) (vs:=zs) h1 (by omega)
 rw [hzl] at hW'
 have hmap : (List.range zs.length).map (fun i=>zs[i % zs.length]?.getD default) = zs:=by
  apply List.ext_getElem?
  intro i
  by_cases hi : i < zs.length
  ·rw [List.getElem?_map,List.getElem?_range hi]
   simp [Nat.mod_eq_of_lt hi,List.getElem?_eq_getElem hi]
  ·rw [List.getElem?_eq_none (by simp; omega),List.getElem?_eq_none (by omega)]
 refine step_val (v:=.tuple #[]) (w':=w') rfl (fun _ h=>by cases h) ?_ (kk _ _ ⟨hS.fr,hW'⟩)
 simp [execOp,resolve,invoke,builtin,hx.eq _ _ _ hS.fr,Builtin.clear_,run_underlying h.und,zeroValue,typeInfo,hinf,hzv,hcs,Builtin.zeroCells,hmap,hw']
end
theorem vlC_one {l : List LVal} : ∀ v ∈ l.flatMap vlC,v.oneCell' = true:=fun v hv=>by
 obtain ⟨x,_,hx⟩:=List.mem_flatMap.1 hv
 simp only [vlC,List.mem_cons,List.not_mem_nil,or_false] at hx
 rcases hx with rfl|rfl <;> rfl
theorem deleteVal_c (ad : Option Addr) (c : Nat) (l : List LVal) (k : Nat) (hk : k < l.length) (hb : l.length ≤ 1000) (w0 : World) (hW : Wd (fps [Ent.vec ad l.length c 46 2 (l.flatMap vlC)]) w0 [Ent.vec ad l.length c 46 2 (l.flatMap vlC)] w0) :
  Ret Tryz.prog 110 [.slice ad l.length c,.int .i64 k,.int .i64 (k + 1 : Nat)] w0 fun u w'=>u = .slice ad (l.length - 1) c∧Wd (fps [Ent.vec ad l.length c 46 2 (l.flatMap vlC)]) w0 [Ent.vec ad (l.length - 1) c 46 2 ((l.eraseIdx k).flatMap vlC)] w':=by
 refine ret_enter Tryz.func110 rfl Tryz.ntmps110 rfl hW ?_
 refine g_vec 0 rfl (by omega) fun vb vo hva=>?_
 subst hva
 refine g_vecLe 0 rfl fun _ hnc hc63=>?_
 repeat (first|refine g_op rfl ?_|refine g_then ?_|refine g_nil ?_|refine g_region ?_|refine g_seq ?_)
 refine g_cut3 rfl ⟨by omega,by omega,by omega⟩ fun v=>?_
 repeat (first|refine g_op rfl ?_|refine g_then ?_|refine g_nil ?_|refine g_region ?_|refine g_seq ?_)
 rw [show decide ((k : Int) = ((k + 1 : Nat) : Int)) = false by simp; omega]
 repeat (first|refine g_op rfl ?_|refine g_then ?_|refine g_nil ?_|refine g_region ?_|refine g_seq ?_|refine g_skip ?_|refine g_condF ?_)
 have c1 : CutHi k c:=⟨by omega⟩
 have c2 : CutFr (k + 1) l.length:=⟨hk⟩
 refine g_drawH [] mixed (List.nil_sublist _) ?_
 refine h_take 0 rfl (by decide +kernel) (List.nil_sublist _) ?_
 refine h_take 1 rfl (by decide +kernel) (List.nil_sublist _) ?_
 refine h_take 2 rfl (by decide +kernel) (List.nil_sublist _) ?_
 refine h_take 3 rfl (by decide +kernel) (List.nil_sublist _) ?_
 refine h_take 4 rfl (by decide +kernel) (List.nil_sublist _) ?_
 refine h_take 5 rfl (by decide +kernel) (List.nil_sublist _) ?_
 refine h_appendIn 6 0 (j:=k + 1) rfl (fun hm=>by unfold cutA; rw [if_neg (by omega)]) (by omega) (by omega) vlC_one rfl (by decide +kernel) (List.nil_sublist _) ?_
 rw [show k + (l.length - (k + 1)) = l.length - 1 by omega]
 refine g_forget 0 ?_
 refine h_take 7 rfl (by decide +kernel) (List.nil_sublist _) ?_
 refine h_end (by decide +kernel) ?_
 simp only [List.set_cons_zero]
 repeat (first|refine g_op rfl ?_|refine g_then ?_|refine g_region ?_|refine g_seq ?_)
 refine g_cut2 rfl ⟨by omega,by omega,by omega⟩ ?_
 rw [show l.length - (l.length - 1) = 1 by omega]
 skip
 have hE : (l.flatMap vlC).take (k * 2)++((l.flatMap vlC).drop ((k + 1) * 2)).take ((l.length - (k + 1)) * 2) = (l.eraseIdx k).flatMap vlC:=by
  rw [(flat_cut vlC_len l k).1,(flat_cut vlC_len l (k + 1)).2,List.take_of_length_le (l:=(l.drop (k + 1)).flatMap vlC) (by rw [flat_len vlC_len,List.length_drop]; omega),List.eraseIdx_eq_take_drop_succ,List.flatMap_append]
 rw [hE]
 have hEl : ((l.eraseIdx k).flatMap vlC).length = (l.length - 1) * 2:=by rw [flat_len vlC_len,List.length_eraseIdx,if_pos hk]
 refine g_clear1 0 rfl rfl (by omega) rfl (by simp [Value.oneCell']) ?_
 simp only [List.set_cons_zero]
 refine g_shrink 0 rfl (l.length - 1) (by omega) ?_
 simp only [List.set_cons_zero]
 rw [List.append_assoc,List.take_append_of_le_length (by rw [List.length_take,List.length_append]; omega),List.take_take,Nat.min_self,List.take_append_of_le_length (by omega),List.take_of_length_le (by omega)]
 repeat (first|refine g_op rfl ?_|refine g_then ?_|refine g_nil ?_|refine g_region ?_|refine g_seq ?_|refine g_opS rfl ?_|refine g_ret ?_)
 exact g_ret1 rfl fun w hw=>⟨rfl,hw⟩
end Go.Proofs.YtpadjpplidlfeaaGreatDoor
