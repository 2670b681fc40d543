/- Texts joined: LiveF HeldB LiveD LiveE LiveG LiveH LiveI LiveJ. -/
import Derived.Test.YtdbljcahlpkgdaaDoorGD
import Derived.Test.YtdbljcahlpkgdaaDoorGE
import Derived.Test.YtdbljcahlpkgdaaDoorGF
namespace Go.Proofs.YtdbljcahlpkgdaaDoor
open Go Go.RowKit
section
variable {P : Program} {ro : Option Nat} {N : Nat} {ds : List Deferred} {S : Nat→Prop} {w0 : World} {L : List (Nat × Value)} {H : List Ent} {ops : Array Oper} {rest : List Oper} {Q : Exit→Act→World→Prop} {x y : Operand}
theorem fill_two (v u : Value) (cs ds zs : List Value) (hv : v.cells.toList = cs) (hu : u.cells.toList = ds) (hl : cs.length = ds.length) (hz : zs.length = 2 * cs.length) : Instr.fill (fun i=>some (i * cs.length,cs.length)) zs.toArray [(0,v),(1,u)] = some (cs++ds).toArray:=by
 have hs : v.cells.size = cs.length:=by rw [← hv]; simp
 have hs2 : u.cells.size = cs.length:=by rw [← Array.length_toList,hu,hl]
 have e : v.cells = cs.toArray:=by rw [← hv]
 have e2 : u.cells = ds.toArray:=by rw [← hu]
 have hf:=fold_putL cs zs 0 0 (by omega)
 have hp : putL zs 0 cs = cs++zs.drop cs.length:=by
  rw [← putL_eq zs 0 cs (by omega)]
  simp
 simp only [Nat.add_zero] at hf
 rw [hp] at hf
 have hf2:=fold_putL ds (cs++zs.drop cs.length) cs.length 0 (by simp; omega)
 have hp2 : putL (cs++zs.drop cs.length) (cs.length + 0) ds = cs++ds:=by
  rw [← putL_eq (cs++zs.drop cs.length) (cs.length + 0) ds (by simp; omega)]
  rw [Nat.add_zero,List.take_left,List.drop_append]
  simp
  omega
 rw [hp2] at hf2
 have hA : (v.cells.zipIdx).foldl (fun (c : Array Value) (x : Value × Nat)=>c.setIfInBounds (0 * cs.length + x.2) x.1) zs.toArray = (cs++zs.drop cs.length).toArray:=by rw [e]; simpa using hf
 have hB : (u.cells.zipIdx).foldl (fun (c : Array Value) (x : Value × Nat)=>c.setIfInBounds (1 * cs.length + x.2) x.1) (cs++zs.drop cs.length).toArray = (cs++ds).toArray:=by rw [e2]; simpa using hf2
 simp only [Instr.fill]
 rw [if_neg (by simp [hs,hz]; omega),hA,if_neg (by simp [hs2]; omega),hB]
theorem g_build2 {d ty T e by' : Nat} {zs cs ds' : List Value} {s : Nat} {v u : Value} {pos : String} {aft : Array Go.Edge} [h : ElemInfo P T e s by' zs] [hx : Ev L x v] [hy : Ev L y u] [hv : CellsOf v cs] [hu : CellsOf u ds'] [hl : LenIs cs s] [hl2 : LenIs ds' s] (hd : okPut d N L = true) (hs : ((Nat.blt 0 s && Nat.ble s 1000) && Nat.beq zs.length s) = true)
  (k : ∀ b,w0.heap.size ≤ b→G N ds S w0 ((d,.slice (some ⟨b,0,none⟩) 2 2)::L) (Ent.vec (some ⟨b,0,none⟩) 2 2 e s (cs++ds')::H) (wpListIn (FW ro) 0 P ops Q rest)) : G N ds S w0 L H (wpListIn (FW ro) 0 P ops Q (⟨some d,.buildSlice T 2 #[(0,x),(1,y)],ty,pos,aft,none⟩::rest)):=by
 intro a w hS
 obtain ⟨i,zz,hi,hzz,hcs,h1,h2⟩:=h.get
 simp only [Bool.and_eq_true,Nat.blt_eq,Nat.ble_eq] at hs
 have hle:=hl.eq
 have hle2:=hl2.eq
 refine step_val (v:=.slice (some ⟨w.heap.size,0,none⟩) 2 2) (w':=w.alloc (.cells (cs++ds').toArray e)) rfl (fun _ h=>by cases h) ?_ ?_
 ·have hr:=run_buildSlice (P:=P) w T e 2 #[(0,v),(1,u)] (cs++ds').toArray i zz h.und hi hzz (by rw [h1]; omega) (by rw [h1]; omega) (by
   rw [h1,← hle]
   have:=fill_two v u cs ds' ((Array.range (2 * cs.length)).map (zz.cells[· % zz.cells.size]!)).toList hv.eq hu.eq (by omega) (by simp)
   rw [Array.toArray_toList] at this
   exact this)
  simp [execOp,hx.eq _ _ _ hS.fr,hy.eq _ _ _ hS.fr,hr]
 ·exact k _ hS.wd.size _ _ ⟨hS.fr.putOk hd _,hS.wd.vecNew e s 2 _ (by rw [List.length_append]; omega) (by simp [maxLen])⟩
end
attribute [local irreducible] wpListIn Code.wpIn Exit.then Exit.inBlock bodyPost wpQuiet wpAnyIn
set_option maxHeartbeats 4000000
def valC (v : LVal) : List Value:=[.bool v.reg,.int .i64 v.n]
theorem refAhead_c (nm pa re : Value) (bl : List LBlock) (bs : Value) (t : Nat) (w0 : World) (hbs : SlAt w0 bs 6 bl BlockV) (hlen : bl.length ≤ 100) :
  Ret Tryd.prog 22 [.agg #[nm,pa,re,bs],.int .i64 t] w0 fun u w'=>∃ x : Option Addr × Nat,u = .slice x.1 (preds bl t).length x.2∧Wd NoS w0 [Ent.vec x.1 (preds bl t).length x.2 3 1 ((preds bl t).map intN)] w'∧True:=by
 obtain ⟨ba,n,bc,bb,bo',rfl,hn,hnc,hnb,hbc,hba,hel⟩:=hbs
 refine ret_enter Tryd.func22 rfl Tryd.ntmps22 rfl (Wd.nil NoS w0) ?_
 repeat (first|refine g_op rfl ?_|refine g_then ?_|refine g_nil ?_|refine g_region ?_|refine g_seq ?_|refine g_box rfl fun _ _=>?_|refine g_block ?_)
 rename_i p2 _
 refine g_nilVec 3 1 ?_
 refine g_loop (fun (x : Nat × Option Addr × Nat × List Nat)=>x.1 ≤ n∧x.2.2.2 = (List.range x.1).filter fun i=>decide ((t : Int) ∈ toOf bl i)) (fun x=>[(6,.int .i64 x.1),(5,.slice x.2.1 x.2.2.2.length x.2.2.1),(2,.pointer (some ⟨p2,0,none⟩)),(1,.int .i64 t)])
  (fun x=>[Ent.vec x.2.1 x.2.2.2.length x.2.2.1 3 1 (x.2.2.2.map intN),Ent.box p2 [nm,pa,re,.slice ba n bc] 33]) (fun x=>n - x.1) (0,none,0,[]) ⟨Nat.zero_le _,rfl⟩ (g_done (by repeat (first|exact trivial|refine ⟨rfl,?_⟩)) (.refl _)) fun x ⟨hi,hl⟩=>?_
 obtain ⟨i,la,lc,l⟩:=x
 simp only at hi hl ⊢
 have hll : l.length ≤ i:=by rw [hl]; have:=List.length_filter_le (fun i=>decide ((t : Int) ∈ toOf bl i)) (List.range i); rwa [List.length_range] at this
 repeat (first|refine g_op rfl ?_|refine g_then ?_|refine g_nil ?_|refine g_region ?_|refine g_seq ?_)
 refine g_cond (fun h1=>?_) (fun h1=>?_)
 ·have hlt : i < n:=by simpa using h1
  obtain ⟨B,hB⟩:=get_lt hn hlt
  have had : AddrIs ba bb bo':=⟨hba (ne_of_get hB)⟩
  have hli : LtIs i n:=⟨hlt⟩
  obtain ⟨cs,hcs,pv,lv,tv,rfl,_,_,_,_,ht⟩:=hel i B hB
  have ht0:=ht
  obtain ⟨ta,tn,tc,_,_,rfl,_⟩:=ht
  have hci : CellsIs w0 bb (bo' + i * 6) _:=⟨hcs⟩
  have hnew : (List.range (i + 1)).filter (fun i=>decide ((t : Int) ∈ toOf bl i)) = l++if (t : Int) ∈ B.to then [i] else []:=by
   rw [List.range_succ,List.filter_append,← hl]
   congr 1
   by_cases h : (t : Int) ∈ B.to <;> simp [toOf_get hB,h]
  repeat (first|refine g_op rfl ?_|refine g_then ?_|refine g_region ?_|refine g_seq ?_|refine g_block ?_|refine g_skip ?_)
  refine g_callV rfl (fun w hw=>has_c _ B.to t w (ht0.keep keeps_int hw.chg)) ?_
  by_cases h : (t : Int) ∈ B.to
  ·rw [decide_eq_true h]
   rw [if_pos h] at hnew
   repeat (first|refine g_op rfl ?_|refine g_then ?_|refine g_nil ?_|refine g_region ?_|refine g_condT ?_|refine g_build1 rfl rfl fun _ _=>?_)
   refine g_append rfl rfl (by omega) (by omega) fun a' c'=>?_
   rw [show l.map intN++[.int .i64 (i : Int)] = (l++[i]).map intN by simp [intN],show l.length + 1 = (l++[i]).length by simp]
   repeat (first|refine g_op rfl ?_|refine g_then ?_|refine g_nil ?_|refine g_region ?_|refine g_opS rfl ?_|refine g_inBlock ?_|refine g_add rfl (by omega) (by omega) ?_)
   exact g_next (i + 1,a',c',l++[i]) ⟨hlt,hnew.symm⟩ (by simp only; omega) (by repeat (first|exact trivial|refine ⟨rfl,?_⟩)) (.cons _ (.refl _))
  ·rw [decide_eq_false h]
   rw [if_neg h,List.append_nil] at hnew
   repeat (first|refine g_op rfl ?_|refine g_then ?_|refine g_nil ?_|refine g_region ?_|refine g_opS rfl ?_|refine g_inBlock ?_|refine g_skip ?_|refine g_condF ?_|refine g_add rfl (by omega) (by omega) ?_)
   exact g_next (i + 1,la,lc,l) ⟨hlt,hnew.symm⟩ (by simp only; omega) (by repeat (first|exact trivial|refine ⟨rfl,?_⟩)) (.refl _)
 ·have hge : i = n:=by have:=h1; simp at this; omega
  repeat (first|refine g_op rfl ?_|refine g_then ?_|refine g_nil ?_|refine g_region ?_|refine g_seq ?_|refine g_exit ?_|refine g_thenExit ?_|refine g_exitHere ?_|refine g_ret ?_)
  have hp : l = preds bl t:=by rw [hl,hge,hn]; rfl
  exact g_ret1 rfl fun w hw=>⟨(la,lc),by rw [hp],by rw [← hp]; exact hw.sel [0] (by decide),trivial⟩
theorem uses_c (x : LIns) (va : Option Addr) (vn vc : Nat) (w0 : World) (hv : SlAt w0 (.slice va vn vc) 2 x.args ValV) (hlen : x.args.length ≤ 1000) :
  Ret Tryd.prog 24 [.agg #[.int .i64 x.op,.int .i64 x.dst,.bool x.a.reg,.int .i64 x.a.n,.bool x.b.reg,.int .i64 x.b.n,.int .i64 x.fn,.slice va vn vc]] w0 fun u w'=>∃ y : Option Addr × Nat × Nat,u = .slice y.1 (usesOf x).length y.2.1∧Wd NoS w0 [Ent.vec y.1 (usesOf x).length y.2.1 y.2.2 2 ((usesOf x).flatMap valC)] w'∧True:=by
 have hvn : vn = x.args.length:=by
  obtain ⟨_,_,_,_,_,e,h,_⟩:=hv
  simp only [Value.slice.injEq] at e
  rw [e.2.1]; exact h
 refine ret_enter Tryd.func24 rfl Tryd.ntmps24 rfl (Wd.nil NoS w0) ?_
 repeat (first|refine g_op rfl ?_|refine g_then ?_|refine g_nil ?_|refine g_region ?_|refine g_seq ?_|refine g_box rfl fun _ _=>?_|refine g_block ?_)
 unfold usesOf
 refine g_cond (fun h1=>?_) (fun h1=>?_)
 ·have e1 : x.op = 21:=by simpa using h1
  rw [if_pos e1]
  repeat (first|refine g_op rfl ?_|refine g_then ?_|refine g_nil ?_|refine g_region ?_|refine g_seq ?_|refine g_opS rfl ?_|refine g_inBlock ?_|refine g_skip ?_|refine g_ret ?_)
  refine g_nilVec 0 2 ?_
  exact g_ret1 rfl fun w hw=>⟨(none,0,0),rfl,hw.sel [0] (by decide),trivial⟩
 have e1 : ¬ x.op = 21:=by simpa using h1
 rw [if_neg e1]
 repeat (first|refine g_op rfl ?_|refine g_then ?_|refine g_nil ?_|refine g_region ?_|refine g_seq ?_)
 refine g_cond (fun h2=>?_) (fun h2=>?_)
 ·have e2 : x.op = 20:=by simpa using h2
  rw [if_pos e2]
  repeat (first|refine g_op rfl ?_|refine g_region ?_)
  refine g_nilVec 37 2 ?_
  refine g_appendF rfl rfl x.args valC (fun _ _ _ h=>h.1) (fun _=>rfl) (fun _ u hu=>by simp only [valC,List.mem_cons,List.not_mem_nil,or_false] at hu; rcases hu with rfl|rfl <;> rfl) (fun w hw=>hv.keep keeps_val hw.chg) (by omega) (by omega) fun a' c'=>?_
  rw [List.nil_append,Nat.zero_add,hvn]
  repeat (first|refine g_op rfl ?_|refine g_then ?_|refine g_nil ?_|refine g_region ?_|refine g_seq ?_|refine g_opS rfl ?_|refine g_inBlock ?_|refine g_ret ?_)
  exact g_ret1 rfl fun w hw=>⟨(a',c',_),rfl,hw.sel [0] (by decide),trivial⟩
 have e2 : ¬ x.op = 20:=by simpa using h2
 rw [if_neg e2]
 repeat (first|refine g_op rfl ?_|refine g_region ?_|refine g_seq ?_)
 refine g_joinTo 29 (.bool ((decide (2 ≤ x.op) && decide (x.op ≤ 15)) || decide (x.op = 19))) ?_ ?_
 ·generalize decide (2 ≤ x.op) = q1
  cases q1
  ·repeat (first|refine g_op rfl ?_|refine g_then ?_|refine g_nil ?_|refine g_open ?_|refine g_pass rfl ?_)
   exact g_done (by repeat (first|exact trivial|refine ⟨rfl,?_⟩)) (.refl _)
  ·repeat (first|refine g_op rfl ?_|refine g_open ?_)
   generalize decide (x.op ≤ 15) = q2
   cases q2
   ·repeat (first|refine g_op rfl ?_|refine g_then ?_|refine g_nil ?_|refine g_open ?_)
    exact g_done (by repeat (first|exact trivial|refine ⟨rfl,?_⟩)) (.refl _)
   ·repeat (first|refine g_op rfl ?_|refine g_then ?_|refine g_nil ?_|refine g_pass rfl ?_)
    exact g_done (by repeat (first|exact trivial|refine ⟨rfl,?_⟩)) (.refl _)
 generalize hq : ((decide (2 ≤ x.op) && decide (x.op ≤ 15)) || decide (x.op = 19)) = q
 cases q
 ·have e3 : ¬ ((2 ≤ x.op∧x.op ≤ 15) ∨ x.op = 19):=fun h=>by
   have : ((decide (2 ≤ x.op) && decide (x.op ≤ 15)) || decide (x.op = 19)) = true:=by simpa using h
   rw [hq] at this; cases this
  rw [if_neg e3]
  repeat (first|refine g_op rfl ?_|refine g_then ?_|refine g_nil ?_|refine g_region ?_|refine g_seq ?_|refine g_condF ?_)
  refine g_joinTo 45 (.bool (decide (1 ≤ x.op) && decide (x.op ≤ 22))) ?_ ?_
  ·generalize decide (1 ≤ x.op) = q1
   cases q1
   ·repeat (first|refine g_op rfl ?_|refine g_then ?_|refine g_nil ?_|refine g_pass rfl ?_)
    exact g_done (by repeat (first|exact trivial|refine ⟨rfl,?_⟩)) (.refl _)
   ·repeat (first|refine g_op rfl ?_|refine g_then ?_|refine g_nil ?_|refine g_open ?_)
    exact g_done (by repeat (first|exact trivial|refine ⟨rfl,?_⟩)) (.refl _)
  generalize hq2 : (decide (1 ≤ x.op) && decide (x.op ≤ 22)) = q
  cases q
  ·rw [if_neg (fun h=>by
    have : (decide (1 ≤ x.op) && decide (x.op ≤ 22)) = true:=by simpa using h
    rw [hq2] at this; cases this)]
   repeat (first|refine g_op rfl ?_|refine g_then ?_|refine g_nil ?_|refine g_region ?_|refine g_seq ?_|refine g_opS rfl ?_|refine g_inBlock ?_|refine g_skip ?_|refine g_condF ?_|refine g_ret ?_)
   refine g_nilVec 0 2 ?_
   exact g_ret1 rfl fun w hw=>⟨(none,0,0),rfl,hw.sel [0] (by decide),trivial⟩
  ·rw [if_pos (by simpa using hq2)]
   repeat (first|refine g_op rfl ?_|refine g_then ?_|refine g_nil ?_|refine g_region ?_|refine g_condT ?_|refine g_build1 rfl rfl fun _ _=>?_)
   refine g_nilVec 37 2 ?_
   refine g_append rfl rfl (by omega) (by omega) fun a' c'=>?_
   repeat (first|refine g_op rfl ?_|refine g_then ?_|refine g_nil ?_|refine g_region ?_|refine g_seq ?_|refine g_opS rfl ?_|refine g_inBlock ?_|refine g_ret ?_)
   exact g_ret1 rfl fun w hw=>⟨(a',c',_),rfl,hw.sel [0] (by decide),trivial⟩
 ·rw [if_pos (by simpa using hq)]
  repeat (first|refine g_op rfl ?_|refine g_then ?_|refine g_nil ?_|refine g_region ?_|refine g_condT ?_)
  refine g_build2 rfl rfl fun bt _=>?_
  simp only [List.cons_append,List.nil_append]
  refine g_nilVec 37 2 ?_
  refine g_append rfl rfl (by omega) (by omega) fun a' c'=>?_
  repeat (first|refine g_op rfl ?_|refine g_then ?_|refine g_nil ?_|refine g_region ?_|refine g_seq ?_|refine g_opS rfl ?_|refine g_inBlock ?_|refine g_ret ?_)
  exact g_ret1 rfl fun w hw=>⟨(a',c',_),rfl,hw.sel [0] (by decide),trivial⟩
section
variable {P : Program} {N : Nat} {ds : List Deferred} {S : Nat→Prop} {w0 : World} {L L' : List (Nat × Value)} {H H' Hr : List Ent} {Q : Exit→Act→World→Prop} {x y : Operand} {M : Act→World→Prop} {l : List Oper} {fuel : Nat} {listed : Array Bool}
theorem h_call {d ty f : Nat} (i : Nat) {args : List Operand} {vs : List Value} {tys : Array Nat} {pos : String} {aft : Array Go.Edge} (R : World→Value→World→Prop) [ho : ListAt l i ⟨some d,.call { callee:=.value (.func f),args:=args.toArray,argTypes:=tys },ty,pos,aft,none⟩] [h : EnterOk P f] [hx : Evs L args vs] (hd : okPut d N L = true)
  (hr : decide (Region.ready .any l.toArray listed = [i]) = true)
  (hc : ∀ w,Wd S w0 H w→Ret P f vs w (R w))
  (k : ∀ v w w',Wd S w0 H w→R w v w'→Wd S w0 Hr w'∧∀ a,Fr N ds ((d,v)::L) a→wpAnyH P .any l.toArray (OnlyN M) (Wd S w0 Hr) fuel (listed.setIfInBounds i true) a w') : G N ds S w0 L H (wpAnyH P .any l.toArray (OnlyN M) (Wd S w0 Hr) (fuel + 1) listed):=by
 intro a w hS
 refine wpAnyH_all (of_decide_eq_true hr) (by simp) fun i' hi'=>?_
 simp only [List.mem_singleton] at hi'
 subst hi'
 unfold wpOp
 rw [show l.toArray[i']? = some ⟨some d,.call { callee:=.value (.func f),args:=args.toArray,argTypes:=tys },ty,pos,aft,none⟩ by simpa using ho.at']
 simp only
 rw [if_pos (show Region.wanted (⟨some d,.call { callee:=.value (.func f),args:=args.toArray,argTypes:=tys },ty,pos,aft,none⟩ : Oper) (yielded l.toArray a.tmps) = true from rfl)]
 left
 unfold Oper.wp
 have hrun : (execOp a.eval ⟨some d,.call { callee:=.value (.func f),args:=args.toArray,argTypes:=tys },ty,pos,aft,none⟩).run P w = .ok (.enter f vs.toArray) w:=by
  simp [execOp,resolve,Act.eval,Deferred.ofValue,invoke,hx.eq _ _ _ hS.fr,h.run]
 rw [hrun]
 refine Calls.mono (callsIn_wide.1 (hc w hS.wd)) fun e w' ⟨v,he,hR⟩=>?_
 subst he
 obtain ⟨h1,h2⟩:=k v w w' hS.wd hR
 exact ⟨h1,h2 _ (hS.fr.putOk hd v)⟩
theorem h_callV {d ty f : Nat} (i : Nat) {args : List Operand} {vs : List Value} {tys : Array Nat} {pos : String} {aft : Array Go.Edge} {u : Value} [ho : ListAt l i ⟨some d,.call { callee:=.value (.func f),args:=args.toArray,argTypes:=tys },ty,pos,aft,none⟩] [h : EnterOk P f] [hx : Evs L args vs] (hd : okPut d N L = true)
  (hr : decide (Region.ready .any l.toArray listed = [i]) = true) (hH : Hr.Sublist H)
  (hc : ∀ w,Wd S w0 H w→RetV P f vs w u)
  (k : G N ds S w0 ((d,u)::L) H (wpAnyH P .any l.toArray (OnlyN M) (Wd S w0 Hr) fuel (listed.setIfInBounds i true))) : G N ds S w0 L H (wpAnyH P .any l.toArray (OnlyN M) (Wd S w0 Hr) (fuel + 1) listed) :=
 h_call i (fun w v w'=>v = u∧Chg NoS w w') hd hr hc fun v _ w' hw hR=>⟨(hw.call hR.2).sub hH,fun a hF=>k a w' ⟨by rw [← hR.1]; exact hF,hw.call hR.2⟩⟩
theorem h_callE {α : Type} {val : α→Value} {E : α→List Ent} {φ : α→Prop} {d ty f : Nat} (i : Nat) {args : List Operand} {vs : List Value} {tys : Array Nat} {pos : String} {aft : Array Go.Edge} [ho : ListAt l i ⟨some d,.call { callee:=.value (.func f),args:=args.toArray,argTypes:=tys },ty,pos,aft,none⟩] [h : EnterOk P f] [hx : Evs L args vs] (hd : okPut d N L = true)
  (hr : decide (Region.ready .any l.toArray listed = [i]) = true) (hH : Hr.Sublist H)
  (hc : ∀ w,Wd S w0 H w→Ret P f vs w fun u w'=>∃ x,u = val x∧Wd NoS w (E x) w'∧φ x)
  (k : ∀ x,φ x→G N ds S w0 ((d,val x)::L) (E x++H) (wpAnyH P .any l.toArray (OnlyN M) (Wd S w0 Hr) fuel (listed.setIfInBounds i true))) : G N ds S w0 L H (wpAnyH P .any l.toArray (OnlyN M) (Wd S w0 Hr) (fuel + 1) listed) :=
 h_call i (fun _ u w'=>∃ x,u = val x∧Wd S w0 (E x++H) w'∧φ x) hd hr (fun w hw=>(hc w hw).mono fun v w' ⟨x,h1,h2,h3⟩=>⟨x,h1,hw.more h2,h3⟩) fun v w w' hw hR=>by
  obtain ⟨x,rfl,h2,h3⟩:=hR
  exact ⟨h2.sub (hH.trans (List.sublist_append_right _ _)),fun a hF=>k x h3 a w' ⟨hF,h2⟩⟩
theorem h_skip {o : Oper} (i : Nat) [ho : ListAt l i o] (hg : o.guard = none) (hr : decide (Region.ready .any l.toArray listed = [i]) = true)
  (k : ∀ a w,St N ds S w0 L H a w→∃ w',(execOp a.eval o).run P w = .ok .skip w'∧Wd S w0 Hr w'∧wpAnyH P .any l.toArray (OnlyN M) (Wd S w0 Hr) fuel (listed.setIfInBounds i true) (a.put o.dst undef) w') : G N ds S w0 L H (wpAnyH P .any l.toArray (OnlyN M) (Wd S w0 Hr) (fuel + 1) listed):=by
 intro a w hS
 obtain ⟨w',h1,h2,h3⟩:=k a w hS
 refine wpAnyH_all (of_decide_eq_true hr) (by simp) fun i' hi'=>?_
 simp only [List.mem_singleton] at hi'
 subst hi'
 unfold wpOp
 rw [show l.toArray[i']? = some o by simpa using ho.at']
 simp only
 rw [if_pos (show Region.wanted o (yielded l.toArray a.tmps) = true by simp [Region.wanted,hg])]
 left
 unfold Oper.wp
 rw [h1]
 exact ⟨h2,h3⟩
theorem h_val {o : Oper} (i : Nat) [ho : ListAt l i o] (hg : o.guard = none) (hr : decide (Region.ready .any l.toArray listed = [i]) = true)
  (k : ∀ a w,St N ds S w0 L H a w→∃ v w',(execOp a.eval o).run P w = .ok (.value v) w'∧Wd S w0 Hr w'∧wpAnyH P .any l.toArray (OnlyN M) (Wd S w0 Hr) fuel (listed.setIfInBounds i true) (a.put o.dst v) w') : G N ds S w0 L H (wpAnyH P .any l.toArray (OnlyN M) (Wd S w0 Hr) (fuel + 1) listed):=by
 intro a w hS
 obtain ⟨v,w',h1,h2,h3⟩:=k a w hS
 refine wpAnyH_all (of_decide_eq_true hr) (by simp) fun i' hi'=>?_
 simp only [List.mem_singleton] at hi'
 subst hi'
 unfold wpOp
 rw [show l.toArray[i']? = some o by simpa using ho.at']
 simp only
 rw [if_pos (show Region.wanted o (yielded l.toArray a.tmps) = true by simp [Region.wanted,hg])]
 left
 unfold Oper.wp
 rw [h1]
 exact ⟨h2,h3⟩
theorem h_storeAgg {ty T b o j t n : Nat} (i : Nat) [h : AggSize P T n] {cs vs cs' : List Value} {pos : String} {aft : Array Go.Edge} [ho : ListAt l i ⟨none,.store T x y,ty,pos,aft,none⟩]
  [hx : Ev L x (.pointer (some ⟨b,o,none⟩))] [hy : Ev L y (.agg vs.toArray)] [hb : BoxIn H b j cs t] [hn : LenIs vs n] [hp : PutAt cs o vs cs'] [h1 : OneVs vs] [hH : SetAt H j (Ent.box b cs' t) H']
  (hr : decide (Region.ready .any l.toArray listed = [i]) = true) (hHr : Hr.Sublist H')
  (kk : G N ds S w0 L H' (wpAnyH P .any l.toArray (OnlyN M) (Wd S w0 Hr) fuel (listed.setIfInBounds i true))) : G N ds S w0 L H (wpAnyH P .any l.toArray (OnlyN M) (Wd S w0 Hr) (fuel + 1) listed):=by
 refine h_skip i rfl hr fun a w hS=>?_
 have hbx:=hS.wd.boxAt j hb.at'
 have hs:=run_storeCells_at P b o t vs 0 cs.toArray w hbx (by simpa using hp.le) h1.all
 have e : (cs.toArray.toList.take (o + 0)++vs++cs.toArray.toList.drop (o + 0 + vs.length)).toArray = cs'.toArray:=by
  rw [← hp.eq,← putL_eq cs o vs hp.le]
  simp
 rw [e] at hs
 have hw':=hS.wd.rowBox j cs' hb.at'
 rw [hH.set'] at hw'
 exact ⟨w.setRow b cs'.toArray,by simp [execOp,hx.eq _ _ _ hS.fr,hy.eq _ _ _ hS.fr,Instr.storeAt,Instr.sureAddr,storeVar,h.sz,Value.cells,hn.eq,hs],hw'.sub hHr,kk _ _ ⟨hS.fr,hw'⟩⟩
theorem h_end (hr : (Region.ready .any l.toArray listed).isEmpty = true) (k : G N ds S w0 L H M) : G N ds S w0 L H (wpAnyH P .any l.toArray (OnlyN M) (Wd S w0 Hr) fuel listed):=fun a w hS=>wpAnyH_done (List.isEmpty_iff.1 hr) (k a w hS) _
end
end Go.Proofs.YtdbljcahlpkgdaaDoor
namespace Go.Proofs.YtdbljcahlpkgdaaDoor
open Go Go.RowKit
attribute [local irreducible] wpListIn Code.wpIn Exit.then Exit.inBlock bodyPost wpQuiet wpAnyIn wpAnyH
set_option maxHeartbeats 4000000
theorem check_args {u : LUnit} (h : (checkL u).1 = 0) {k : Nat} {X : LFunc} (hX : u.funcs[k]? = some X) : ∀ B ∈ X.blocks,∀ x ∈ B.list,x.args.length ≤ 1000:=fun B hB x hx=>by
 have hb:=check_bodies h X (List.mem_of_getElem? hX)
 obtain ⟨b,hbB⟩:=List.getElem?_of_mem hB
 unfold bodyErr at hb
 split at hb
 ·rename_i h1; exact absurd hb h1
 have hb:=firstI_zero hb b (List.getElem?_eq_some_iff.1 hbB).1
 simp only [blockErr,hbB] at hb
 split at hb
 ·rename_i h2; exact absurd hb h2
 have hi:=at0_all hb x hx
 by_cases e : x.op = 20
 ·unfold insErr at hi
  split at hi
  ·cases hi
  split at hi
  ·cases hi
  split at hi
  ·rename_i h3
   simp only [Bool.and_eq_true,Bool.not_eq_true',decide_eq_false_iff_not] at h3
   exact absurd hi h3.2
  split at hi
  ·rename_i h4; exact absurd hi h4
  split at hi
  ·rename_i h5; exact absurd hi h5
  unfold callErr at hi
  rw [if_neg (by simpa using e)] at hi
  split at hi
  ·cases hi
  rename_i h6
  split at hi
  ·cases hi
  rename_i h7
  simp only [within,Bool.not_eq_true',Bool.and_eq_false_iff,decide_eq_false_iff_not,not_or,Decidable.not_not] at h6
  simp only [ne_eq,Decidable.not_not,at0] at h7
  split at h7
  ·rename_i Y hY
   have:=check_head h hY
   omega
  ·omega
 ·rw [(insErr_ok (R:=X.regs.toNat) (fs:=u.funcs) (by rw [Int.toNat_of_nonneg (by have:=check_head h hX; omega)]; exact hi)).args e]
  simp
end Go.Proofs.YtdbljcahlpkgdaaDoor
