/- Texts joined: Two HeldC TwoB. -/
import Derived.Test.YtdbljcahlpkgdaaGreatDoorGE
import Derived.Test.YtdbljcahlpkgdaaGreatDoorGF
import Derived.Test.YtdbljcahlpkgdaaGreatDoorGI
import Derived.Test.YtdbljcahlpkgdaaGreatDoorGN
namespace Go.Proofs.YtdbljcahlpkgdaaGreatDoor
open Go Go.RowKit
section
variable {P : Program} {N : Nat} {ds : List Deferred} {S : Nat→Prop} {w0 : World} {L : List (Nat × Value)} {H Hr : List Ent} {x y : Operand} {M : Act→World→Prop} {l : List Oper} {fuel : Nat} {listed : Array Bool}
def oneH (P : Program) (l : List Oper) (M : Act→World→Prop) (K : World→Prop) (fuel : Nat) (listed : Array Bool) (i : Nat) (a : Act) (w : World) : Prop :=
 wpOp P l.toArray (OnlyN M) i (fun a' w'=>K w'∧wpAnyH P .any l.toArray (OnlyN M) K fuel (listed.setIfInBounds i true) a' w') a w
theorem h_two (i j : Nat) (hr : decide (Region.ready .any l.toArray listed = [i,j]) = true) (h1 : G N ds S w0 L H (oneH P l M (Wd S w0 Hr) fuel listed i)) (h2 : G N ds S w0 L H (oneH P l M (Wd S w0 Hr) fuel listed j)) :
  G N ds S w0 L H (wpAnyH P .any l.toArray (OnlyN M) (Wd S w0 Hr) (fuel + 1) listed):=fun a w hS =>
 wpAnyH_all (of_decide_eq_true hr) (by simp) fun i' hi'=>by
  simp only [List.mem_cons,List.not_mem_nil,or_false] at hi'
  rcases hi' with rfl|rfl
  ·exact h1 a w hS
  ·exact h2 a w hS
theorem o_valH {o : Oper} (i : Nat) [ho : ListAt l i o] (hg : o.guard = none)
  (k : ∀ a w,St N ds S w0 L H a w→∃ v w',(execOp a.eval o).run P w = .ok (.value v) w'∧Wd S w0 Hr w'∧wpAnyH P .any l.toArray (OnlyN M) (Wd S w0 Hr) fuel (listed.setIfInBounds i true) (a.put o.dst v) w') : G N ds S w0 L H (oneH P l M (Wd S w0 Hr) fuel listed i):=by
 intro a w hS
 obtain ⟨v,w',h1,h2,h3⟩:=k a w hS
 unfold oneH wpOp
 rw [show l.toArray[i]? = some o by simpa using ho.at']
 simp only
 rw [if_pos (show Region.wanted o (yielded l.toArray a.tmps) = true by simp [Region.wanted,hg])]
 left
 unfold Oper.wp
 rw [h1]
 exact ⟨h2,h3⟩
theorem build1_run {d ty T e by' : Nat} {zs cs : List Value} {s : Nat} {v : Value} {pos : String} {aft : Array Go.Edge} [h : ElemInfo P T e s by' zs] [hx : Ev L x v] [hv : CellsOf v cs] [hl : LenIs cs s] (hs : ((Nat.blt 0 s && Nat.ble s 1000) && Nat.beq zs.length s) = true) (a : Act) (w : World) (hS : St N ds S w0 L H a w) :
  ∃ w',(execOp a.eval ⟨some d,.buildSlice T 1 #[(0,x)],ty,pos,aft,none⟩).run P w = .ok (.value (.slice (some ⟨w.heap.size,0,none⟩) 1 1)) w'∧Wd S w0 (Ent.vec (some ⟨w.heap.size,0,none⟩) 1 1 e s cs::H) w':=by
 obtain ⟨i,zz,hi,hzz,hcs,h1,h2⟩:=h.get
 simp only [Bool.and_eq_true,Nat.blt_eq,Nat.ble_eq] at hs
 have hle:=hl.eq
 refine ⟨w.alloc (.cells cs.toArray e),?_,hS.wd.vecNew e s 1 _ (by omega) (by simp [maxLen])⟩
 have hr:=run_buildSlice (P:=P) w T e 1 #[(0,v)] cs.toArray i zz h.und hi hzz (by rw [h1]; omega) (by rw [h1]; omega) (by
  rw [h1,← hle]
  have:=fill_one v cs ((Array.range (1 * cs.length)).map (zz.cells[· % zz.cells.size]!)).toList hv.eq (by simp)
  rw [Array.toArray_toList] at this
  exact this)
 simp [execOp,hx.eq _ _ _ hS.fr,hr]
theorem o_build1 {d ty T e by' : Nat} {zs cs : List Value} {s : Nat} {v : Value} {pos : String} {aft : Array Go.Edge} (i : Nat) [ho : ListAt l i ⟨some d,.buildSlice T 1 #[(0,x)],ty,pos,aft,none⟩] [h : ElemInfo P T e s by' zs] [hx : Ev L x v] [hv : CellsOf v cs] [hl : LenIs cs s] (hd : okPut d N L = true) (hs : ((Nat.blt 0 s && Nat.ble s 1000) && Nat.beq zs.length s) = true) (hH : Hr.Sublist H)
  (k : ∀ b,w0.heap.size ≤ b→G N ds S w0 ((d,.slice (some ⟨b,0,none⟩) 1 1)::L) (Ent.vec (some ⟨b,0,none⟩) 1 1 e s cs::H) (wpAnyH P .any l.toArray (OnlyN M) (Wd S w0 Hr) fuel (listed.setIfInBounds i true))) : G N ds S w0 L H (oneH P l M (Wd S w0 Hr) fuel listed i) :=
 o_valH i rfl fun a w hS=>by
  obtain ⟨w',h1,h2⟩:=build1_run (P:=P) (d:=d) (ty:=ty) (pos:=pos) (aft:=aft) (h:=h) (hx:=hx) (hv:=hv) (hl:=hl) hs a w hS
  exact ⟨_,w',h1,h2.sub (hH.trans (List.sublist_cons_self _ _)),k _ hS.wd.size _ _ ⟨hS.fr.putOk hd _,h2⟩⟩
theorem h_build1 {d ty T e by' : Nat} {zs cs : List Value} {s : Nat} {v : Value} {pos : String} {aft : Array Go.Edge} (i : Nat) [ho : ListAt l i ⟨some d,.buildSlice T 1 #[(0,x)],ty,pos,aft,none⟩] [h : ElemInfo P T e s by' zs] [hx : Ev L x v] [hv : CellsOf v cs] [hl : LenIs cs s] (hd : okPut d N L = true) (hs : ((Nat.blt 0 s && Nat.ble s 1000) && Nat.beq zs.length s) = true)
  (hr : decide (Region.ready .any l.toArray listed = [i]) = true) (hH : Hr.Sublist H)
  (k : ∀ b,w0.heap.size ≤ b→G N ds S w0 ((d,.slice (some ⟨b,0,none⟩) 1 1)::L) (Ent.vec (some ⟨b,0,none⟩) 1 1 e s cs::H) (wpAnyH P .any l.toArray (OnlyN M) (Wd S w0 Hr) fuel (listed.setIfInBounds i true))) : G N ds S w0 L H (wpAnyH P .any l.toArray (OnlyN M) (Wd S w0 Hr) (fuel + 1) listed) :=
 h_val i rfl hr fun a w hS=>by
  obtain ⟨w',h1,h2⟩:=build1_run (P:=P) (d:=d) (ty:=ty) (pos:=pos) (aft:=aft) (h:=h) (hx:=hx) (hv:=hv) (hl:=hl) hs a w hS
  exact ⟨_,w',h1,h2.sub (hH.trans (List.sublist_cons_self _ _)),k _ hS.wd.size _ _ ⟨hS.fr.putOk hd _,h2⟩⟩
theorem h_append {d ty T e s by' : Nat} {zs : List Value} {pos : String} {aft : Array Go.Edge} {ad : Option Addr} {n c : Nat} (i0 k : Nat) {xs : List Value} {b2 o2 m c2 k2 e2 : Nat} {news : List Value} [ho : ListAt l i0 ⟨some d,.call { callee:=.builtin .append,args:=#[x,y],argTypes:=#[T,T] },ty,pos,aft,none⟩] [h : ElemInfo P T e s by' zs] [hx : Ev L x (.slice ad n c)] [hy : Ev L y (.slice (some ⟨b2,o2,none⟩) m c2)]
  (hk : H[k]? = some (Ent.vec ad n c e s xs)) [hv2 : VecIn H (some ⟨b2,o2,none⟩) m c2 k2 e2 s news] [h1 : OneVs news] (hd : okPut d N L = true) (hs : ((Nat.blt 0 s && Nat.blt 0 m) && Nat.beq zs.length s) = true) (hbytes : (n + m) * by' ≤ 140737488355328) (h63 : n + m ≤ 140737488355328)
  (hr : decide (Region.ready .any l.toArray listed = [i0]) = true) (hH : ∀ e',Hr.Sublist (H.set k e'))
  (kk : ∀ a' c',G N ds S w0 ((d,.slice a' (n + m) c')::L) (H.set k (Ent.vec a' (n + m) c' e s (xs++news))) (wpAnyH P .any l.toArray (OnlyN M) (Wd S w0 Hr) fuel (listed.setIfInBounds i0 true))) : G N ds S w0 L H (wpAnyH P .any l.toArray (OnlyN M) (Wd S w0 Hr) (fuel + 1) listed) :=
 h_val i0 rfl hr fun a w hS=>by
  simp only [Bool.and_eq_true,Nat.blt_eq] at hs
  obtain ⟨hl,_⟩:=hS.wd.vecAt hv2.at'
  obtain ⟨a',c',w',hr,hw'⟩:=hS.wd.append (P:=P) (ty:=ty) (c2:=c2) h hs.1.1 hk hs.1.2 hl (fun j u hj=>by rw [Addr.add_lit]; exact hS.wd.vecCell hv2.at' hj) h1.all hbytes h63 (Nat.eq_of_beq_eq_true hs.2)
  exact ⟨.slice a' (n + m) c',w',by simp [execOp,resolve,invoke,builtin,hx.eq _ _ _ hS.fr,hy.eq _ _ _ hS.fr,hr],hw'.sub (hH _),kk a' c' _ _ ⟨hS.fr.putOk hd _,hw'⟩⟩
end
section
variable {P : Program} {N : Nat} {ds : List Deferred} {S : Nat→Prop} {w0 : World} {L L' : List (Nat × Value)} {H H' Hr : List Ent} {Q : Exit→Act→World→Prop} {x y : Operand} {M : Act→World→Prop} {l : List Oper} {fuel : Nat} {listed : Array Bool}
theorem h_one (i : Nat) (hr : decide (Region.ready .any l.toArray listed = [i]) = true) (h1 : G N ds S w0 L H (oneH P l M (Wd S w0 Hr) fuel listed i)) :
  G N ds S w0 L H (wpAnyH P .any l.toArray (OnlyN M) (Wd S w0 Hr) (fuel + 1) listed):=fun a w hS =>
 wpAnyH_all (of_decide_eq_true hr) (by simp) fun i' hi'=>by
  simp only [List.mem_cons,List.not_mem_nil,or_false] at hi'
  rcases hi' with rfl
  exact h1 a w hS
theorem g_drawM {id n : Nat} [hl : LenO l n] (Hr : List Ent) (M : Act→World→Prop) (hm : P.follows .mixedOrders = true) (_hH : Hr.Sublist H)
  (h : G N ds S w0 L H (wpAnyH P .any l.toArray (OnlyN M) (Wd S w0 Hr) n (Array.replicate n false))) (k : ∀ a w,M a w→Q .normal a w) : G N ds S w0 L H (Code.wpIn (FW none) 0 P (Code.region id l.toArray true) Q):=fun a w hS=>by
 refine Code.wpIn_mono (Q:=OnlyN M) (fun e a' w' hq=>?_) (g_drawH (Q:=OnlyN M) Hr hm _hH h a w hS)
 cases e <;> first|exact k _ _ hq|exact False.elim hq
def MemX {α : Type} (N : Nat) (ds : List Deferred) (S : Nat→Prop) (w0 : World) (φ : α→Prop) (Lx : α→List (Nat × Value)) (Hx : α→List Ent) : Act→World→Prop:=fun a w=>∃ x,φ x∧St N ds S w0 (Lx x) (Hx x) a w
theorem g_mem {α : Type} {φ : α→Prop} {Lx : α→List (Nat × Value)} {Hx : α→List Ent} (x : α) (hx : φ x) (hL : allIn L (Lx x)) (hH : (Hx x).Sublist H) : G N ds S w0 L H (MemX N ds S w0 φ Lx Hx) :=
 fun _ _ hS=>⟨x,hx,hS.fix hL hH⟩
theorem g_drawX {α : Type} {id n : Nat} [hl : LenO l n] (Hr : List Ent) (φ : α→Prop) (Lx : α→List (Nat × Value)) (Hx : α→List Ent) (hm : P.follows .mixedOrders = true) (hH : Hr.Sublist H)
  (h : G N ds S w0 L H (wpAnyH P .any l.toArray (OnlyN (MemX N ds S w0 φ Lx Hx)) (Wd S w0 Hr) n (Array.replicate n false))) (k : ∀ x,φ x→G N ds S w0 (Lx x) (Hx x) (Q .normal)) : G N ds S w0 L H (Code.wpIn (FW none) 0 P (Code.region id l.toArray true) Q) :=
 g_drawM Hr _ hm hH h fun a w ⟨x,hx,hS⟩=>k x hx a w hS
theorem o_alloc {d ty T : Nat} {z : Value} {cs : List Value} {pos : String} {aft : Array Go.Edge} (i0 : Nat) [ho : ListAt l i0 ⟨some d,.alloc T,ty,pos,aft,none⟩] [h : ZeroVal P T z] [hv : CellsOf z cs] (hd : okPut d N L = true) (hH : Hr.Sublist H)
  (k : ∀ b,w0.heap.size ≤ b→G N ds S w0 ((d,.pointer (some ⟨b,0,none⟩))::L) (Ent.box b cs T::H) (wpAnyH P .any l.toArray (OnlyN M) (Wd S w0 Hr) fuel (listed.setIfInBounds i0 true))) : G N ds S w0 L H (oneH P l M (Wd S w0 Hr) fuel listed i0) :=
 o_valH i0 rfl fun a w hS=>by
  have hv:=hS.wd.box cs T
  have e : cs.toArray = z.cells:=by rw [← ‹CellsOf z cs›.eq]
  rw [e] at hv
  exact ⟨.pointer (some ⟨w.heap.size,0,none⟩),w.alloc (.cells z.cells T),by simp [execOp,Instr.alloc,newVar,newRow,h.run],hv.sub (hH.trans (List.sublist_cons_self _ _)),k _ hS.wd.size _ _ ⟨hS.fr.putOk hd _,hv⟩⟩
theorem o_appendF {α : Type} {d ty T e s by' : Nat} {zs : List Value} {pos : String} {aft : Array Go.Edge} {ad a2 : Option Addr} {n c m c2 : Nat} (i0 : Nat) {k : Nat} {xs : List Value} [ho : ListAt l i0 ⟨some d,.call { callee:=.builtin .append,args:=#[x,y],argTypes:=#[T,T] },ty,pos,aft,none⟩] [h : ElemInfo P T e s by' zs] [hx : Ev L x (.slice ad n c)] [hy : Ev L y (.slice a2 m c2)]
  [hv : VecIn H ad n c k e s xs] (hd : okPut d N L = true) (hs : (Nat.blt 0 s && Nat.beq zs.length s) = true) (q : List α) {V : World→α→List Value→Prop} (g : α→List Value) (hg : ∀ w x cs,V w x cs→cs = g x) (hlen : ∀ x,(g x).length = s) (hone : ∀ x,∀ u ∈ g x,u.oneCell' = true)
  (hsl : ∀ w,Wd S w0 H w→SlAt w (.slice a2 m c2) s q V) (hbytes : (n + m) * by' ≤ 140737488355328) (h63 : n + m ≤ 140737488355328) (hH : ∀ e',Hr.Sublist (H.set k e'))
  (kk : ∀ a' c',G N ds S w0 ((d,.slice a' (n + m) c')::L) (H.set k (Ent.vec a' (n + m) c' e s (xs++q.flatMap g))) (wpAnyH P .any l.toArray (OnlyN M) (Wd S w0 Hr) fuel (listed.setIfInBounds i0 true))) : G N ds S w0 L H (oneH P l M (Wd S w0 Hr) fuel listed i0) :=
 o_valH i0 rfl fun a w hS=>by
  have hk:=hv.at'
  simp only [Bool.and_eq_true,Nat.blt_eq] at hs
  obtain ⟨a2',m',c2',b,o,hval,hm,hmc,_,_,ha,hel⟩:=hsl w hS.wd
  simp only [Value.slice.injEq] at hval
  obtain ⟨rfl,rfl,rfl⟩:=hval
  by_cases h0 : m = 0
  ·subst h0
   have hl : q = []:=List.eq_nil_of_length_eq_zero hm.symm
   subst hl
   obtain ⟨i,zz,hi,_,_,_,_⟩:=h.get
   have hnc : n ≤ c:=by
    obtain ⟨_,h2⟩:=hS.wd.get hk
    rcases h2 with ⟨_,h2,h3⟩|⟨_,_,_,_,h3,_⟩ <;> omega
   have hr : (Builtin.append_ #[T,T] ty #[.slice ad n c,.slice a2 0 c2]).run P w = .ok (.slice ad n c) w:=by
    cases ad <;> cases a2 <;> simp [Builtin.append_,run_underlying h.und,sizeOf,typeInfo,hi,Builtin.lenOf,Builtin.firstCells,hnc,storeCells,loadCells,loadCellsFrom]
   have:=kk ad c
   simp only [List.flatMap_nil,List.append_nil,Nat.add_zero] at this
   rw [set_self hk] at this
   have hsub:=hH (Ent.vec ad n c e s xs)
   rw [set_self hk] at hsub
   exact ⟨.slice ad n c,w,by simp [execOp,resolve,invoke,builtin,hx.eq _ _ _ hS.fr,hy.eq _ _ _ hS.fr,hr],hS.wd.sub hsub,this _ _ ⟨hS.fr.putOk hd _,hS.wd⟩⟩
  ·have hne : q ≠ []:=by rintro rfl; simp at hm; exact h0 hm
   have ha:=ha hne
   subst ha
   obtain ⟨a',c',w',hr,hw'⟩:=hS.wd.append (P:=P) (ty:=ty) (c2:=c2) (a2:=⟨b,o,none⟩) (m:=m) (news:=q.flatMap g) h hs.1 hk (by omega) (by rw [flat_len hlen,hm]) (fun j u hj=>by
    obtain ⟨i,q,j',h1,h2,rfl⟩:=flat_from hlen q j u hj
    obtain ⟨cs,hc,hV⟩:=hel i q h1
    rw [hg _ _ _ hV] at hc
    have:=hc j' u h2
    rw [Addr.add_lit,← Nat.add_assoc]
    exact this) (fun u hu=>by obtain ⟨q,_,hq⟩:=List.mem_flatMap.1 hu; exact hone q u hq) hbytes h63 (Nat.eq_of_beq_eq_true hs.2)
   exact ⟨.slice a' (n + m) c',w',by simp [execOp,resolve,invoke,builtin,hx.eq _ _ _ hS.fr,hy.eq _ _ _ hS.fr,hr],hw'.sub (hH _),kk a' c' _ _ ⟨hS.fr.putOk hd _,hw'⟩⟩
theorem o_op {d ty : Nat} {pos : String} {aft : Array Go.Edge} {op : Op} {v : Value} (i : Nat) [ho : ListAt l i ⟨some d,op,ty,pos,aft,none⟩] [h : RunsC P N ds S w0 L H op v] (hd : okPut d N L = true) (hH : Hr.Sublist H)
  (k : G N ds S w0 ((d,v)::L) H (wpAnyH P .any l.toArray (OnlyN M) (Wd S w0 Hr) fuel (listed.setIfInBounds i true))) : G N ds S w0 L H (oneH P l M (Wd S w0 Hr) fuel listed i) :=
 o_valH i rfl fun a w hS=>⟨v,w,h.run _ _ _ _ _ a w hS.fr hS.wd,hS.wd.sub hH,k _ _ ⟨hS.fr.putOk hd v,hS.wd⟩⟩
theorem o_storeV {ty T b off k o j n c e s : Nat} (i : Nat) [h : OneCell P T] {xs xs' : List Value} {v : Value} {pos : String} {aft : Array Go.Edge} [ho : ListAt l i ⟨none,.store T x y,ty,pos,aft,none⟩]
  [hx : Ev L x (.pointer (some ⟨b,off,none⟩))] [hy : Ev L y v] [h1 : OneV v] [hb : OwnAt H b off k o j n c e s xs] [hu : XSet xs j v xs'] [hH : SetAt H k (Ent.vec (some ⟨b,o,none⟩) n c e s xs') H'] (hHr : Hr.Sublist H')
  (kk : G N ds S w0 L H' (wpAnyH P .any l.toArray (OnlyN M) (Wd S w0 Hr) fuel (listed.setIfInBounds i true))) : G N ds S w0 L H (oneH P l M (Wd S w0 Hr) fuel listed i):=by
 intro a w hS
 obtain ⟨_,_,_,pre,sp,hpre,_,hbx⟩:=hS.wd.vecAt hb.at'
 have e1:=hb.eq
 subst e1
 have hlt:=hu.lt
 have hc:=hS.wd.vecCell hb.at' (List.getElem?_eq_getElem hlt)
 have hrun:=run_storeOne (P:=P) (T:=T) h1.one hc (by simp [World.frozen?,hbx])
 have hw':=hS.wd.setVec v hb.at' hlt
 rw [hu.eq,hH.set'] at hw'
 unfold oneH wpOp
 rw [show l.toArray[i]? = some ⟨none,.store T x y,ty,pos,aft,none⟩ by simpa using ho.at']
 simp only
 rw [if_pos (show Region.wanted (⟨none,.store T x y,ty,pos,aft,none⟩ : Oper) (yielded l.toArray a.tmps) = true from rfl)]
 left
 unfold Oper.wp
 rw [show (execOp a.eval ⟨none,.store T x y,ty,pos,aft,none⟩).run P w = .ok .skip (w.setCell ⟨b,o + j,none⟩ v) by simp [execOp,hx.eq _ _ _ hS.fr,hy.eq _ _ _ hS.fr,hrun]]
 exact ⟨hw'.sub hHr,kk _ _ ⟨hS.fr,hw'⟩⟩
theorem o_skip {o : Oper} (i : Nat) [ho : ListAt l i o] (hg : o.guard = none)
  (k : ∀ a w,St N ds S w0 L H a w→∃ w',(execOp a.eval o).run P w = .ok .skip w'∧Wd S w0 Hr w'∧wpAnyH P .any l.toArray (OnlyN M) (Wd S w0 Hr) fuel (listed.setIfInBounds i true) (a.put o.dst undef) w') : G N ds S w0 L H (oneH P l M (Wd S w0 Hr) fuel listed i):=by
 intro a w hS
 obtain ⟨w',h1,h2,h3⟩:=k a w hS
 unfold oneH wpOp
 rw [show l.toArray[i]? = some o by simpa using ho.at']
 simp only
 rw [if_pos (show Region.wanted o (yielded l.toArray a.tmps) = true by simp [Region.wanted,hg])]
 left
 unfold Oper.wp
 rw [h1]
 exact ⟨h2,h3⟩
theorem o_store {ty T b o j t : Nat} (i : Nat) [h : OneCell P T] {cs cs' : List Value} {v : Value} {pos : String} {aft : Array Go.Edge} [ho : ListAt l i ⟨none,.store T x y,ty,pos,aft,none⟩]
  [hx : Ev L x (.pointer (some ⟨b,o,none⟩))] [hy : Ev L y v] [h1 : OneV v] [hb : BoxIn H b j cs t] {u : Value} [hu : ListAt cs o u] [hs : SetAt cs o v cs'] [hH : SetAt H j (Ent.box b cs' t) H'] (hHr : Hr.Sublist H')
  (kk : G N ds S w0 L H' (wpAnyH P .any l.toArray (OnlyN M) (Wd S w0 Hr) fuel (listed.setIfInBounds i true))) : G N ds S w0 L H (oneH P l M (Wd S w0 Hr) fuel listed i):=by
 refine o_skip i rfl fun a w hS=>?_
 have hbx:=hS.wd.boxAt j hb.at'
 have:=run_storeOne (P:=P) (T:=T) h1.one (hS.wd.cellBox j hb.at' hu.at') (by simp [World.frozen?,hbx])
 have hw':=hS.wd.setBox j (o:=o) v hb.at'
 rw [hs.set',hH.set'] at hw'
 exact ⟨w.setCell ⟨b,o,none⟩ v,by simp [execOp,hx.eq _ _ _ hS.fr,hy.eq _ _ _ hS.fr,this],hw'.sub hHr,kk _ _ ⟨hS.fr,hw'⟩⟩
end
end Go.Proofs.YtdbljcahlpkgdaaGreatDoor
