/- Texts joined: SsaC SsaD. -/
import Derived.Test.YtdbljcahlpkgdaaDoorGF
import Derived.Test.YtdbljcahlpkgdaaDoorGI
import Derived.Test.YtdbljcahlpkgdaaDoorGX
import Derived.Test.YtdbljcahlpkgdaaDoorHA
import Derived.Test.YtdbljcahlpkgdaaDoorHJ
import Derived.Test.YtdbljcahlpkgdaaDoorKC
import Derived.Test.YtdbljcahlpkgdaaDoorLA
namespace Go.Proofs.YtdbljcahlpkgdaaDoor
open Go Go.RowKit
attribute [local irreducible] wpListIn Code.wpIn Exit.then Exit.inBlock bodyPost wpQuiet wpAnyIn wpAnyH bodyPostM oneH
set_option maxHeartbeats 4000000
instance nilCheckC {P : Program} {N : Nat} {ds : List Deferred} {S : Nat→Prop} {w0 : World} {L : List (Nat × Value)} {H : List Ent} {x : Operand} {p : Addr} [hx : Ev L x (.pointer (some p))] : RunsC P N ds S w0 L H (.nilCheck x) (.pointer (some p)) :=
 ⟨fun _ h=>(by cases h),fun _ _ h=>(by cases h),fun _ _ _ _ _ a w hF _=>by simp [execOp,hx.eq _ _ _ hF]⟩
def byRows (W : List Wr) (R : Nat) : List (Int × Int):=(List.range R).map (byR W)
theorem byRows_get {W : List Wr} {R r : Nat} (h : r < R) : (byRows W R)[r]? = some (byR W r):=by unfold byRows; rw [List.getElem?_map,List.getElem?_range h]; rfl
theorem byRows_len (W : List Wr) (R : Nat) : (byRows W R).length = R:=by unfold byRows; rw [List.length_map,List.length_range]
theorem wrC_len (x : Int × Int) : (wrC x).length = 2:=rfl
theorem byRows_add {W : List Wr} {R r : Nat} {w : Wr} (hr : r < R) (hw : w.reg = r) : byRows (W++[w]) R = if (byR W r).1 < 0 then (byRows W R).set r ((w.block : Int),w.at') else byRows W R:=by
 apply List.ext_getElem?
 intro s
 by_cases hs : s < R
 ·rw [byRows_get hs,byR_add]
  split
  ·rename_i h
   obtain ⟨h1,h2⟩:=h
   have e : r = s:=by omega
   subst e
   rw [if_pos h1,List.getElem?_set_self (by rw [byRows_len]; exact hs)]
  ·rename_i h
   split
   ·rename_i h1
    rw [List.getElem?_set_ne (fun e=>h ⟨by subst e; exact h1,by subst e; exact hw⟩),byRows_get hs]
   ·rw [byRows_get hs]
 ·have h1 : ∀ l : List (Int × Int),l.length = R→l[s]? = none:=fun l hl=>List.getElem?_eq_none (by omega)
  rw [h1 _ (byRows_len _ _)]
  split
  ·rw [h1 _ (by rw [List.length_set,byRows_len])]
  ·rw [h1 _ (byRows_len _ _)]
theorem own_flat {α : Type} {H : List Ent} {g : α→List Value} {s b o n c e : Nat} {l : List α} (hg : ∀ x,(g x).length = s) (k : Nat) (hk : H[k]? = some (Ent.vec (some ⟨b,o,none⟩) n c e s (l.flatMap g))) {i : Nat} {x : α} (hi : l[i]? = some x) : ∀ (j : Nat) (v : Value),(g x)[j]? = some v→OwnCell H b (o + i * s + j) v:=fun j v hv =>
 ⟨fun _ _ w hw=>by rw [Nat.add_assoc]; exact hw.vecCell hk (flat_at hg l i x j v hi hv)⟩
theorem write_c (p b0 R : Nat) (nm : Value) (pa : Int) (bs up : Value) (W : List Wr) (r b : Nat) (i : Int) (hr : r < R) (w : World) (hw : Wd (fps [(Ent.box p [nm,.int .i64 pa,.int .i64 R,bs,up,.slice (some ⟨b0,0,none⟩) R R] 78),Ent.vec (some ⟨b0,0,none⟩) R R 76 2 ((byRows W R).flatMap wrC)]) w [(Ent.box p [nm,.int .i64 pa,.int .i64 R,bs,up,.slice (some ⟨b0,0,none⟩) R R] 78),Ent.vec (some ⟨b0,0,none⟩) R R 76 2 ((byRows W R).flatMap wrC)] w) :
  Ret Tryd.prog 44 [.pointer (some ⟨p,0,none⟩),.int .i64 r,.int .i64 b,.int .i64 i] w fun u w'=>∃ _x : Unit,u = .bool (decide ((byR W r).1 < 0))∧Wd (fps [(Ent.box p [nm,.int .i64 pa,.int .i64 R,bs,up,.slice (some ⟨b0,0,none⟩) R R] 78),Ent.vec (some ⟨b0,0,none⟩) R R 76 2 ((byRows W R).flatMap wrC)]) w [(Ent.box p [nm,.int .i64 pa,.int .i64 R,bs,up,.slice (some ⟨b0,0,none⟩) R R] 78),Ent.vec (some ⟨b0,0,none⟩) R R 76 2 ((byRows (W++[⟨r,b,i⟩]) R).flatMap wrC)] w'∧True:=by
 refine ret_enter Tryd.func44 rfl Tryd.ntmps44 rfl hw ?_
 have hlr : LtIs r R:=⟨hr⟩
 have ho:=own_flat (H:=[(Ent.box p [nm,.int .i64 pa,.int .i64 R,bs,up,.slice (some ⟨b0,0,none⟩) R R] 78),Ent.vec (some ⟨b0,0,none⟩) R R 76 2 ((byRows W R).flatMap wrC)]) (g:=wrC) wrC_len 1 rfl (byRows_get (W:=W) hr)
 have hc0 : OwnCell _ b0 (0 + r * 2) _:=ho 0 _ rfl
 repeat (first|refine g_op rfl ?_|refine g_then ?_|refine g_nil ?_|refine g_region ?_|refine g_seq ?_)
 by_cases h1 : (byR W r).1 < 0
 ·rw [show decide (0 ≤ (byR W r).1) = false by simp; omega]
  repeat (first|refine g_op rfl ?_|refine g_then ?_|refine g_region ?_|refine g_seq ?_|refine g_skip ?_|refine g_condF ?_)
  refine g_storeVA 1 (j:=r * 2) rfl rfl (by rw [flat_len wrC_len,byRows_len]; omega) ?_
  have hput:=flat_put wrC_len (l:=byRows W R) (i:=r) (by rw [byRows_len]; exact hr) ((b : Int),i)
  rw [show [Value.int .i64 (b : Int),.int .i64 i] = wrC ((b : Int),i) from rfl,hput]
  simp only [List.set_cons_succ,List.set_cons_zero]
  repeat (first|refine g_then ?_|refine g_nil ?_|refine g_region ?_|refine g_seq ?_|refine g_opS rfl ?_|refine g_ret ?_)
  refine g_ret1 rfl fun w' hw'=>⟨(),by rw [decide_eq_true h1],?_,trivial⟩
  rw [byRows_add (r:=r) hr rfl,if_pos h1]
  exact hw'
 ·rw [show decide (0 ≤ (byR W r).1) = true by simp; omega]
  repeat (first|refine g_then ?_|refine g_nil ?_|refine g_region ?_|refine g_seq ?_|refine g_opS rfl ?_|refine g_condT ?_|refine g_ret ?_|refine g_thenRet ?_)
  refine g_ret1 rfl fun w' hw'=>⟨(),by rw [decide_eq_false h1],?_,trivial⟩
  rw [byRows_add (r:=r) hr rfl,if_neg h1]
  exact hw'
theorem once_nil (R : Nat) : onceB [] R = true:=decide_eq_true fun r _=>by simp [writesOf]
theorem byRows_nil (R : Nat) : byRows [] R = List.replicate R ((-1 : Int),(-1 : Int)):=by
 apply List.ext_getElem?
 intro s
 by_cases hs : s < R
 ·rw [byRows_get hs,List.getElem?_replicate,if_pos hs]; rfl
 ·rw [List.getElem?_eq_none (by rw [byRows_len]; omega),List.getElem?_eq_none (by rw [List.length_replicate]; omega)]
theorem paramsW_succ (n : Nat) : paramsW (n + 1) = paramsW n++[⟨n,0,-1⟩]:=by unfold paramsW; rw [List.range_succ,List.map_append]; rfl
theorem once_ok {W : List Wr} {R r b : Nat} {i : Int} (hr : r < R) {t : Bool} (ht : t = onceB W R) (h : (byR W r).1 < 0) : t = onceB (W++[⟨r,b,i⟩]) R:=by rw [once_add rfl hr,decide_eq_true h,Bool.true_and,ht]
theorem once_no {W : List Wr} {R r b : Nat} {i : Int} (hr : r < R) (h : ¬ (byR W r).1 < 0) : false = onceB (W++[⟨r,b,i⟩]) R:=by rw [once_add rfl hr,decide_eq_false h,Bool.false_and]
theorem writes_c (p b0 R n : Nat) (nm : Value) (bl : List LBlock) (bs up : Value) (hn : n ≤ R) (hR : R ≤ 100) (hlen : bl.length ≤ 100) (hf : FuncOk R bl) (wz w : World) (hcl : Clean (fps [Ent.box p [nm,.int .i64 (n : Int),.int .i64 R,bs,up,.slice (some ⟨b0,0,none⟩) R R] 78,Ent.vec (some ⟨b0,0,none⟩) R R 76 2 ((byRows [] R).flatMap wrC)]) wz) (hbs : SlAt wz bs 6 bl BlockV)
  (hw : Wd (fps [Ent.box p [nm,.int .i64 (n : Int),.int .i64 R,bs,up,.slice (some ⟨b0,0,none⟩) R R] 78,Ent.vec (some ⟨b0,0,none⟩) R R 76 2 ((byRows [] R).flatMap wrC)]) wz [Ent.box p [nm,.int .i64 (n : Int),.int .i64 R,bs,up,.slice (some ⟨b0,0,none⟩) R R] 78,Ent.vec (some ⟨b0,0,none⟩) R R 76 2 ((byRows [] R).flatMap wrC)] w) :
  Ret Tryd.prog 28 [.pointer (some ⟨p,0,none⟩)] w fun u w'=>∃ _x : Unit,u = .bool (onceB (allW n bl) R)∧Wd (fps [Ent.box p [nm,.int .i64 (n : Int),.int .i64 R,bs,up,.slice (some ⟨b0,0,none⟩) R R] 78,Ent.vec (some ⟨b0,0,none⟩) R R 76 2 ((byRows [] R).flatMap wrC)]) wz [Ent.box p [nm,.int .i64 (n : Int),.int .i64 R,bs,up,.slice (some ⟨b0,0,none⟩) R R] 78,Ent.vec (some ⟨b0,0,none⟩) R R 76 2 ((byRows (allW n bl) R).flatMap wrC)] w'∧True:=by
 refine ret_enterZ Tryd.func28 rfl Tryd.ntmps28 rfl hw ?_
 have hold : ∀ {b o : Nat} {v : Value} {l : List Value},CellsAt wz b o (v::l)→OldIs (fps [Ent.box p [nm,.int .i64 (n : Int),.int .i64 R,bs,up,.slice (some ⟨b0,0,none⟩) R R] 78,Ent.vec (some ⟨b0,0,none⟩) R R 76 2 ((byRows [] R).flatMap wrC)]) b:=fun hc=>hcl.old hc
 generalize fps [Ent.box p [nm,.int .i64 (n : Int),.int .i64 R,bs,up,.slice (some ⟨b0,0,none⟩) R R] 78,Ent.vec (some ⟨b0,0,none⟩) R R 76 2 ((byRows [] R).flatMap wrC)] = SS at *
 have hbs0:=hbs
 obtain ⟨ba,bn,bc,bb,bo,rfl,hbn,_,_,_,hba,hbel⟩:=hbs
 repeat (first|refine g_op rfl ?_|refine g_then ?_|refine g_nil ?_|refine g_region ?_|refine g_seq ?_|refine g_block ?_)
 refine g_loop (fun x : Nat × Bool × List Wr=>x.1 ≤ n∧x.2.2 = paramsW x.1∧x.2.1 = onceB x.2.2 R) (fun x=>[(16,.int .i64 x.1),(3,.bool x.2.1),(15,.int .i64 (n : Int)),(0,.pointer (some ⟨p,0,none⟩))]) (fun x=>[Ent.box p [nm,.int .i64 (n : Int),.int .i64 R,.slice ba bn bc,up,.slice (some ⟨b0,0,none⟩) R R] 78,Ent.vec (some ⟨b0,0,none⟩) R R 76 2 ((byRows x.2.2 R).flatMap wrC)]) (fun x=>n - x.1) (0,true,[]) ⟨Nat.zero_le _,rfl,(once_nil R).symm⟩ (g_done (by repeat (first|exact trivial|refine ⟨rfl,?_⟩)) (.refl _)) fun x ⟨hi,hW,ht⟩=>?_
 obtain ⟨i,t,W⟩:=x
 simp only at hi hW ht ⊢
 repeat (first|refine g_op rfl ?_|refine g_then ?_|refine g_nil ?_|refine g_region ?_|refine g_seq ?_)
 refine g_cond (fun h1=>?_) (fun h1=>?_)
 ·have hlt : i < n:=by simpa using h1
  repeat (first|refine g_op rfl ?_|refine g_then ?_|refine g_nil ?_|refine g_region ?_|refine g_seq ?_|refine g_block ?_|refine g_skip ?_)
  refine g_eqH (H1:=[Ent.box p [nm,.int .i64 (n : Int),.int .i64 R,.slice ba bn bc,up,.slice (some ⟨b0,0,none⟩) R R] 78,Ent.vec (some ⟨b0,0,none⟩) R R 76 2 ((byRows W R).flatMap wrC)]++[]) rfl ?_
  refine g_callS (val:=fun _ : Unit=>.bool (decide ((byR W i).1 < 0))) (E:=fun _=>[Ent.box p [nm,.int .i64 (n : Int),.int .i64 R,.slice ba bn bc,up,.slice (some ⟨b0,0,none⟩) R R] 78,Ent.vec (some ⟨b0,0,none⟩) R R 76 2 ((byRows (W++[⟨(i : Int),0,-1⟩]) R).flatMap wrC)]) (φ:=fun _=>True) rfl (fun w hw=>write_c p b0 R nm n (.slice ba bn bc) up W i 0 (-1) (by omega) w hw.pre) fun _ _=>?_
  simp only [List.cons_append,List.nil_append]
  by_cases hb : (byR W i).1 < 0
  ·rw [decide_eq_true hb]
   repeat (first|refine g_op rfl ?_|refine g_then ?_|refine g_nil ?_|refine g_region ?_|refine g_opS rfl ?_|refine g_open ?_|refine g_inBlock ?_|refine g_add rfl (by omega) (by omega) ?_)
   exact g_next (i + 1,t,W++[⟨(i : Int),0,-1⟩]) ⟨hlt,by rw [hW,paramsW_succ],once_ok (by omega) ht hb⟩ (by simp only; omega) (by repeat (first|exact trivial|refine ⟨rfl,?_⟩)) (.refl _)
  ·rw [decide_eq_false hb]
   repeat (first|refine g_op rfl ?_|refine g_then ?_|refine g_nil ?_|refine g_region ?_|refine g_opS rfl ?_|refine g_pass rfl ?_|refine g_inBlock ?_|refine g_add rfl (by omega) (by omega) ?_)
   exact g_next (i + 1,false,W++[⟨(i : Int),0,-1⟩]) ⟨hlt,by rw [hW,paramsW_succ],once_no (by omega) hb⟩ (by simp only; omega) (by repeat (first|exact trivial|refine ⟨rfl,?_⟩)) (.refl _)
 obtain rfl : n = i:=by have:=h1; simp at this; omega
 clear h1 hi
 repeat (first|refine g_op rfl ?_|refine g_then ?_|refine g_nil ?_|refine g_region ?_|refine g_seq ?_|refine g_block ?_|refine g_exit ?_|refine g_thenExit ?_|refine g_exitHere ?_)
 refine g_loop (fun x : Nat × Bool × List Wr=>x.1 ≤ bn∧x.2.2 = paramsW n++blocksW (bl.take x.1) 0∧x.2.1 = onceB x.2.2 R) (fun x=>[(32,.int .i64 x.1),(3,.bool x.2.1),(31,.int .i64 bn),(30,.slice ba bn bc),(0,.pointer (some ⟨p,0,none⟩))]) (fun x=>[Ent.box p [nm,.int .i64 (n : Int),.int .i64 R,.slice ba bn bc,up,.slice (some ⟨b0,0,none⟩) R R] 78,Ent.vec (some ⟨b0,0,none⟩) R R 76 2 ((byRows x.2.2 R).flatMap wrC)]) (fun x=>bn - x.1) (0,t,W) ⟨Nat.zero_le _,by simp [hW,blocksW],ht⟩ (g_done (by repeat (first|exact trivial|refine ⟨rfl,?_⟩)) (.refl _)) fun x ⟨hi,hW,ht⟩=>?_
 obtain ⟨b,t,W⟩:=x
 simp only at hi hW ht ⊢
 repeat (first|refine g_op rfl ?_|refine g_then ?_|refine g_nil ?_|refine g_region ?_|refine g_seq ?_)
 refine g_cond (fun h1=>?_) (fun h1=>?_)
 case refine_2 =>
  obtain rfl : bn = b:=by have:=h1; simp at this; omega
  repeat (first|refine g_op rfl ?_|refine g_then ?_|refine g_nil ?_|refine g_region ?_|refine g_seq ?_|refine g_exit ?_|refine g_thenExit ?_|refine g_exitHere ?_|refine g_ret ?_)
  refine g_ret1 rfl fun w' hw'=>⟨(),?_,?_,trivial⟩
  ·rw [ht,hW,hbn,List.take_length]; rfl
  ·rw [hbn,List.take_length] at hW
   rw [show allW n bl = W from hW.symm]
   exact hw'
 have hlt : b < bn:=by simpa using h1
 obtain ⟨B,hB⟩ : ∃ B,bl[b]? = some B:=⟨_,List.getElem?_eq_getElem (by omega)⟩
 obtain ⟨b1,o1,had1,hold1,hel1⟩:=slKnown hbs0 hold (fun _ _ h=>by obtain ⟨_,_,_,e,_⟩:=h; exact ⟨_,_,e⟩) (ne_of_get hB)
 obtain ⟨_,hci1,pv,lv,tv,rfl,_,_,hph,hli,hto⟩:=hel1 b B hB
 have hfB:=hf.block b B hB
 have hlt2 : LtIs b bn:=⟨hlt⟩
 obtain ⟨pa,pn,pc,_,_,rfl,hpn,_⟩:=id hph
 obtain ⟨la,ln,lc,_,_,rfl,hln,_⟩:=id hli
 obtain ⟨ta,tn,tc,_,_,rfl,_⟩:=id hto
 repeat (first|refine g_op rfl ?_|refine g_then ?_|refine g_nil ?_|refine g_region ?_|refine g_seq ?_|refine g_alloc rfl fun _ _=>?_|refine g_storeAgg ?_|refine g_block ?_|refine g_skip ?_)
 rename_i p6 _
 refine g_loop (fun x : Nat × Bool × List Wr=>x.1 ≤ pn∧x.2.2 = paramsW n++(blocksW (bl.take b) 0++phisW b (B.phis.take x.1))∧x.2.1 = onceB x.2.2 R) (fun x=>[(40,.int .i64 x.1),(39,.int .i64 pn),(38,.slice pa pn pc),(3,.bool x.2.1),(5,.int .i64 b),(6,.pointer (some ⟨p6,0,none⟩)),(32,.int .i64 b),(31,.int .i64 bn),(30,.slice ba bn bc),(0,.pointer (some ⟨p,0,none⟩))]) (fun x=>[Ent.box p6 [.slice pa pn pc,.slice la ln lc,.int .i64 B.kind,.bool B.on.reg,.int .i64 B.on.n,.slice ta tn tc] 47,Ent.box p [nm,.int .i64 (n : Int),.int .i64 R,.slice ba bn bc,up,.slice (some ⟨b0,0,none⟩) R R] 78,Ent.vec (some ⟨b0,0,none⟩) R R 76 2 ((byRows x.2.2 R).flatMap wrC)]) (fun x=>pn - x.1) (0,t,W) ⟨Nat.zero_le _,by simp [hW,phisW],ht⟩ (g_done (by repeat (first|exact trivial|refine ⟨rfl,?_⟩)) (.refl _)) fun x ⟨hi,hW,ht⟩=>?_
 obtain ⟨j,t,W⟩:=x
 simp only at hi hW ht ⊢
 repeat (first|refine g_op rfl ?_|refine g_then ?_|refine g_nil ?_|refine g_region ?_|refine g_seq ?_)
 refine g_cond (fun h2=>?_) (fun h2=>?_)
 ·have hjl : j < pn:=by simpa using h2
  obtain ⟨q,hq⟩ : ∃ q,B.phis[j]? = some q:=⟨_,List.getElem?_eq_getElem (by omega)⟩
  obtain ⟨b2,o2,had2,hold2,hel2⟩:=slKnown hph hold (fun _ _ h=>by obtain ⟨_,e,_⟩:=h; exact ⟨_,_,e⟩) (ne_of_get hq)
  obtain ⟨_,hci2,sv,rfl,_,hsv⟩:=hel2 j q hq
  have hqd:=(hfB.phis q (List.mem_of_getElem? hq)).dst
  have hlt3 : LtIs j pn:=⟨hjl⟩
  have hphW:=phisW_take (i:=b) hq
  obtain ⟨sa,sn,sc,_,_,rfl,_⟩:=id hsv
  obtain ⟨r,hr⟩ : ∃ r : Nat,q.dst = r:=⟨q.dst.toNat,by omega⟩
  rw [hr] at hqd hphW hci2
  repeat (first|refine g_op rfl ?_|refine g_then ?_|refine g_nil ?_|refine g_region ?_|refine g_seq ?_|refine g_alloc rfl fun _ _=>?_|refine g_storeAgg ?_|refine g_block ?_|refine g_skip ?_)
  rename_i p8 _
  refine g_permH (H1:=[Ent.box p [nm,.int .i64 (n : Int),.int .i64 R,.slice ba bn bc,up,.slice (some ⟨b0,0,none⟩) R R] 78,Ent.vec (some ⟨b0,0,none⟩) R R 76 2 ((byRows W R).flatMap wrC)]++[Ent.box p8 [.int .i64 r,.slice sa sn sc] 68,Ent.box p6 [.slice pa pn pc,.slice la ln lc,.int .i64 B.kind,.bool B.on.reg,.int .i64 B.on.n,.slice ta tn tc] 47]) (List.perm_append_comm (l₁:=[Ent.box p8 [.int .i64 r,.slice sa sn sc] 68,Ent.box p6 [.slice pa pn pc,.slice la ln lc,.int .i64 B.kind,.bool B.on.reg,.int .i64 B.on.n,.slice ta tn tc] 47])) ?_
  refine g_callS (val:=fun _ : Unit=>.bool (decide ((byR W r).1 < 0))) (E:=fun _=>[Ent.box p [nm,.int .i64 (n : Int),.int .i64 R,.slice ba bn bc,up,.slice (some ⟨b0,0,none⟩) R R] 78,Ent.vec (some ⟨b0,0,none⟩) R R 76 2 ((byRows (W++[⟨(r : Int),b,-1⟩]) R).flatMap wrC)]) (φ:=fun _=>True) rfl (fun w hw=>write_c p b0 R nm n (.slice ba bn bc) up W r b (-1) (by omega) w hw.pre) fun _ _=>?_
  refine g_permH (H1:=[Ent.box p8 [.int .i64 r,.slice sa sn sc] 68,Ent.box p6 [.slice pa pn pc,.slice la ln lc,.int .i64 B.kind,.bool B.on.reg,.int .i64 B.on.n,.slice ta tn tc] 47]++[Ent.box p [nm,.int .i64 (n : Int),.int .i64 R,.slice ba bn bc,up,.slice (some ⟨b0,0,none⟩) R R] 78,Ent.vec (some ⟨b0,0,none⟩) R R 76 2 ((byRows (W++[⟨(r : Int),b,-1⟩]) R).flatMap wrC)]) (List.perm_append_comm (l₁:=[Ent.box p [nm,.int .i64 (n : Int),.int .i64 R,.slice ba bn bc,up,.slice (some ⟨b0,0,none⟩) R R] 78,Ent.vec (some ⟨b0,0,none⟩) R R 76 2 ((byRows (W++[⟨(r : Int),b,-1⟩]) R).flatMap wrC)])) ?_
  simp only [List.cons_append,List.nil_append]
  by_cases hb : (byR W r).1 < 0
  ·rw [decide_eq_true hb]
   repeat (first|refine g_op rfl ?_|refine g_then ?_|refine g_nil ?_|refine g_region ?_|refine g_opS rfl ?_|refine g_open ?_|refine g_inBlock ?_|refine g_add rfl (by omega) (by omega) ?_)
   exact g_next (j + 1,t,W++[⟨(r : Int),b,-1⟩]) ⟨hjl,by rw [hW,hphW]; simp only [List.append_assoc],once_ok (by omega) ht hb⟩ (by simp only; omega) (by repeat (first|exact trivial|refine ⟨rfl,?_⟩)) (.cons _ (.refl _))
  ·rw [decide_eq_false hb]
   repeat (first|refine g_op rfl ?_|refine g_then ?_|refine g_nil ?_|refine g_region ?_|refine g_opS rfl ?_|refine g_pass rfl ?_|refine g_inBlock ?_|refine g_add rfl (by omega) (by omega) ?_)
   exact g_next (j + 1,false,W++[⟨(r : Int),b,-1⟩]) ⟨hjl,by rw [hW,hphW]; simp only [List.append_assoc],once_no (by omega) hb⟩ (by simp only; omega) (by repeat (first|exact trivial|refine ⟨rfl,?_⟩)) (.cons _ (.refl _))
 obtain rfl : pn = j:=by have:=h2; simp at this; omega
 rw [hpn,List.take_length] at hW
 clear h2 hi
 repeat (first|refine g_op rfl ?_|refine g_then ?_|refine g_nil ?_|refine g_region ?_|refine g_seq ?_|refine g_block ?_|refine g_exit ?_|refine g_thenExit ?_|refine g_exitHere ?_)
 refine g_loop (fun x : Nat × Bool × List Wr=>x.1 ≤ ln∧x.2.2 = paramsW n++(blocksW (bl.take b) 0++(phisW b B.phis++listW b (B.list.take x.1) 0))∧x.2.1 = onceB x.2.2 R) (fun x=>[(56,.int .i64 x.1),(55,.int .i64 ln),(54,.slice la ln lc),(3,.bool x.2.1),(5,.int .i64 b),(6,.pointer (some ⟨p6,0,none⟩)),(32,.int .i64 b),(31,.int .i64 bn),(30,.slice ba bn bc),(0,.pointer (some ⟨p,0,none⟩))]) (fun x=>[Ent.box p6 [.slice pa pn pc,.slice la ln lc,.int .i64 B.kind,.bool B.on.reg,.int .i64 B.on.n,.slice ta tn tc] 47,Ent.box p [nm,.int .i64 (n : Int),.int .i64 R,.slice ba bn bc,up,.slice (some ⟨b0,0,none⟩) R R] 78,Ent.vec (some ⟨b0,0,none⟩) R R 76 2 ((byRows x.2.2 R).flatMap wrC)]) (fun x=>ln - x.1) (0,t,W) ⟨Nat.zero_le _,by simp [hW,listW],ht⟩ (g_done (by repeat (first|exact trivial|refine ⟨rfl,?_⟩)) (.refl _)) fun x ⟨hi,hW,ht⟩=>?_
 obtain ⟨k,t,W⟩:=x
 simp only at hi hW ht ⊢
 repeat (first|refine g_op rfl ?_|refine g_then ?_|refine g_nil ?_|refine g_region ?_|refine g_seq ?_)
 refine g_cond (fun h2=>?_) (fun h2=>?_)
 case refine_2 =>
  obtain rfl : ln = k:=by have:=h2; simp at this; omega
  repeat (first|refine g_then ?_|refine g_nil ?_|refine g_region ?_|refine g_opS rfl ?_|refine g_inBlock ?_|refine g_add rfl (by omega) (by omega) ?_|refine g_exit ?_|refine g_thenExit ?_|refine g_exitHere ?_)
  exact g_next (b + 1,t,W) ⟨hlt,by rw [hW,hln,List.take_length,blocksW_take hB]; simp only [blockW,List.append_assoc],ht⟩ (by simp only; omega) (by repeat (first|exact trivial|refine ⟨rfl,?_⟩)) (.cons _ (.refl _))
 have hkl : k < ln:=by simpa using h2
 obtain ⟨y,hy⟩ : ∃ y,B.list[k]? = some y:=⟨_,List.getElem?_eq_getElem (by omega)⟩
 obtain ⟨b3,o3,had3,hold3,hel3⟩:=slKnown hli hold (fun _ _ h=>by obtain ⟨_,e,_⟩:=h; exact ⟨_,_,e⟩) (ne_of_get hy)
 obtain ⟨_,hci3,av,rfl,_,_,_,_,_,hav⟩:=hel3 k y hy
 have hyd:=(hfB.list y (List.mem_of_getElem? hy)).dst
 have hlt4 : LtIs k ln:=⟨hkl⟩
 have hlW:=listW_take (i:=b) hy
 obtain ⟨aa,an,ac,_,_,rfl,_⟩:=id hav
 repeat (first|refine g_op rfl ?_|refine g_then ?_|refine g_nil ?_|refine g_region ?_|refine g_seq ?_|refine g_alloc rfl fun _ _=>?_|refine g_storeAgg ?_|refine g_block ?_|refine g_skip ?_)
 rename_i p10 _
 by_cases hneg : y.dst < 0
 ·rw [decide_eq_true hneg]
  repeat (first|refine g_op rfl ?_|refine g_then ?_|refine g_nil ?_|refine g_region ?_|refine g_opS rfl ?_|refine g_open ?_|refine g_pass rfl ?_|refine g_inBlock ?_|refine g_add rfl (by omega) (by omega) ?_)
  exact g_next (k + 1,t,W) ⟨hkl,by rw [hW,hlW,if_pos hneg,List.append_nil],ht⟩ (by simp only; omega) (by repeat (first|exact trivial|refine ⟨rfl,?_⟩)) (.cons _ (.refl _))
 rw [decide_eq_false hneg]
 obtain ⟨r,hr⟩ : ∃ r : Nat,y.dst = r:=⟨y.dst.toNat,by omega⟩
 have hrR:=hyd (by omega)
 rw [if_neg hneg] at hlW
 rw [hr] at hrR hlW ⊢
 repeat (first|refine g_op rfl ?_|refine g_open ?_)
 refine g_permH (H1:=[Ent.box p [nm,.int .i64 (n : Int),.int .i64 R,.slice ba bn bc,up,.slice (some ⟨b0,0,none⟩) R R] 78,Ent.vec (some ⟨b0,0,none⟩) R R 76 2 ((byRows W R).flatMap wrC)]++[Ent.box p10 [.int .i64 y.op,.int .i64 r,.bool y.a.reg,.int .i64 y.a.n,.bool y.b.reg,.int .i64 y.b.n,.int .i64 y.fn,.slice aa an ac] 40,Ent.box p6 [.slice pa pn pc,.slice la ln lc,.int .i64 B.kind,.bool B.on.reg,.int .i64 B.on.n,.slice ta tn tc] 47]) (List.perm_append_comm (l₁:=[Ent.box p10 [.int .i64 y.op,.int .i64 r,.bool y.a.reg,.int .i64 y.a.n,.bool y.b.reg,.int .i64 y.b.n,.int .i64 y.fn,.slice aa an ac] 40,Ent.box p6 [.slice pa pn pc,.slice la ln lc,.int .i64 B.kind,.bool B.on.reg,.int .i64 B.on.n,.slice ta tn tc] 47])) ?_
 refine g_callS (val:=fun _ : Unit=>.bool (decide ((byR W r).1 < 0))) (E:=fun _=>[Ent.box p [nm,.int .i64 (n : Int),.int .i64 R,.slice ba bn bc,up,.slice (some ⟨b0,0,none⟩) R R] 78,Ent.vec (some ⟨b0,0,none⟩) R R 76 2 ((byRows (W++[⟨(r : Int),b,k⟩]) R).flatMap wrC)]) (φ:=fun _=>True) rfl (fun w hw=>write_c p b0 R nm n (.slice ba bn bc) up W r b k (by omega) w hw.pre) fun _ _=>?_
 refine g_permH (H1:=[Ent.box p10 [.int .i64 y.op,.int .i64 r,.bool y.a.reg,.int .i64 y.a.n,.bool y.b.reg,.int .i64 y.b.n,.int .i64 y.fn,.slice aa an ac] 40,Ent.box p6 [.slice pa pn pc,.slice la ln lc,.int .i64 B.kind,.bool B.on.reg,.int .i64 B.on.n,.slice ta tn tc] 47]++[Ent.box p [nm,.int .i64 (n : Int),.int .i64 R,.slice ba bn bc,up,.slice (some ⟨b0,0,none⟩) R R] 78,Ent.vec (some ⟨b0,0,none⟩) R R 76 2 ((byRows (W++[⟨(r : Int),b,k⟩]) R).flatMap wrC)]) (List.perm_append_comm (l₁:=[Ent.box p [nm,.int .i64 (n : Int),.int .i64 R,.slice ba bn bc,up,.slice (some ⟨b0,0,none⟩) R R] 78,Ent.vec (some ⟨b0,0,none⟩) R R 76 2 ((byRows (W++[⟨(r : Int),b,k⟩]) R).flatMap wrC)])) ?_
 simp only [List.cons_append,List.nil_append]
 by_cases hb : (byR W r).1 < 0
 ·rw [decide_eq_true hb]
  repeat (first|refine g_op rfl ?_|refine g_then ?_|refine g_nil ?_|refine g_region ?_|refine g_opS rfl ?_|refine g_open ?_|refine g_inBlock ?_|refine g_add rfl (by omega) (by omega) ?_)
  exact g_next (k + 1,t,W++[⟨(r : Int),b,k⟩]) ⟨hkl,by rw [hW,hlW]; simp only [List.append_assoc],once_ok (by omega) ht hb⟩ (by simp only; omega) (by repeat (first|exact trivial|refine ⟨rfl,?_⟩)) (.cons _ (.refl _))
 ·rw [decide_eq_false hb]
  repeat (first|refine g_op rfl ?_|refine g_then ?_|refine g_nil ?_|refine g_region ?_|refine g_opS rfl ?_|refine g_pass rfl ?_|refine g_inBlock ?_|refine g_add rfl (by omega) (by omega) ?_)
  exact g_next (k + 1,false,W++[⟨(r : Int),b,k⟩]) ⟨hkl,by rw [hW,hlW]; simp only [List.append_assoc],once_no (by omega) hb⟩ (by simp only; omega) (by repeat (first|exact trivial|refine ⟨rfl,?_⟩)) (.cons _ (.refl _))
def WrV (_ : World) (x : Int × Int) (cs : List Value) : Prop:=cs = wrC x
structure ChkV (w : World) (p R n : Nat) (nm : Value) (bl : List LBlock) (W : List Wr) (bs up by' : Value) : Prop where
 box : CellsAt w p 0 [nm,.int .i64 (n : Int),.int .i64 (R : Int),bs,up,by']
 bs : SlAt w bs 6 bl BlockV
 up : SlAt w up 1 ((List.range bl.length).map (treeN bl)) IntV
 by' : SlAt w by' 2 (byRows W R) WrV
theorem ChkV.keep {w w' : World} {p R n : Nat} {nm : Value} {bl : List LBlock} {W : List Wr} {bs up by' : Value} (h : ChkV w p R n nm bl W bs up by') (hc : CellLe w w') : ChkV w' p R n nm bl W bs up by' :=
 ⟨h.box.le hc,h.bs.le mono_block hc,h.up.le mono_int hc,h.by'.le (fun _ _ _ _ _ h=>h) hc⟩
theorem known_c (p R n : Nat) (nm : Value) (bl : List LBlock) (W : List Wr) (bs up by' : Value) (w0 : World) (hC : ChkV w0 p R n nm bl W bs up by') (hok : GoodB bl) (hpos : 0 < bl.length) (v : LVal) (hv : v.reg = true→0 ≤ v.n∧v.n < R) (b : Nat) (i : Int) (hb : Rch bl (-1) 0 b) :
  RetV Tryd.prog 45 [.pointer (some ⟨p,0,none⟩),.agg #[.bool v.reg,.int .i64 v.n],.int .i64 b,.int .i64 i] w0 (.bool (open Classical in decide (KnownAt bl W v b i))):=by
 classical
 obtain ⟨hbx,hbs,hup,hby⟩:=hC
 refine ret_enter Tryd.func45 rfl Tryd.ntmps45 rfl (Wd.nil NoS w0) ?_
 obtain ⟨reg,vn⟩:=v
 cases reg with
 | false =>
  rw [decide_eq_true (show KnownAt bl W ⟨false,vn⟩ b i from fun h=>by cases h)]
  simp only
  repeat (first|refine g_op rfl ?_|refine g_then ?_|refine g_nil ?_|refine g_region ?_|refine g_seq ?_|refine g_opS rfl ?_|refine g_box rfl fun _ _=>?_|refine g_condT ?_|refine g_ret ?_|refine g_thenRet ?_)
  exact g_retV rfl rfl
 | true =>
  obtain ⟨h1,h2⟩:=hv rfl
  simp only at h1 h2
  obtain ⟨r,rfl⟩ : ∃ r : Nat,vn = r:=⟨vn.toNat,by omega⟩
  have hrR : r < R:=by omega
  have hby0:=hby
  have hup0:=hup
  obtain ⟨ya,yn,yc,yb,yo,rfl,hyn,_,_,_,hya,hyel⟩:=hby
  obtain ⟨ua,un,uc,_,_,rfl,_⟩:=hup
  rw [byRows_len] at hyn
  have hci : CellsIs w0 p 0 _:=⟨hbx⟩
  have had : AddrIs ya yb yo:=⟨hya (ne_of_get (byRows_get (W:=W) hrR))⟩
  have hlr : LtIs r yn:=⟨by omega⟩
  obtain ⟨_,hcs,rfl⟩:=hyel r _ (byRows_get (W:=W) hrR)
  have hci2 : CellsIs w0 yb (yo + r * 2) [.int .i64 (byR W r).1,.int .i64 (byR W r).2]:=⟨hcs⟩
  simp only
  repeat (first|refine g_op rfl ?_|refine g_then ?_|refine g_nil ?_|refine g_region ?_|refine g_seq ?_|refine g_box rfl fun _ _=>?_|refine g_skip ?_|refine g_condF ?_)
  rename_i p5 _
  refine g_drawX [Ent.box p5 [.bool true,.int .i64 (r : Int)] 37] (fun _ : Nat=>True) (fun q=>[(9,.pointer (some ⟨q,0,none⟩)),(0,.pointer (some ⟨p,0,none⟩)),(2,.int .i64 b),(3,.int .i64 i)]) (fun q=>[Ent.box q [.int .i64 (byR W r).1,.int .i64 (byR W r).2] 76,Ent.box p5 [.bool true,.int .i64 (r : Int)] 37]) mixed (.refl _) ?_ fun p9 _=>?_
  ·skip
   refine h_take 0 rfl (by decide +kernel) (.refl _) ?_
   refine h_take 1 rfl (by decide +kernel) (.refl _) ?_
   refine h_take 2 rfl (by decide +kernel) (.refl _) ?_
   refine h_take 3 rfl (by decide +kernel) (.refl _) ?_
   refine h_take 4 rfl (by decide +kernel) (.refl _) ?_
   refine h_take 5 rfl (by decide +kernel) (.refl _) ?_
   refine h_take 6 rfl (by decide +kernel) (.refl _) ?_
   refine h_take 7 rfl (by decide +kernel) (.refl _) ?_
   refine h_one 8 (by decide +kernel) (o_alloc 8 rfl (.refl _) fun b4 _=>?_)
   refine h_storeAgg 9 (by decide +kernel) (.cons _ (.refl _)) ?_
   refine h_end (by decide +kernel) ?_
   exact g_mem b4 trivial (by repeat (first|exact trivial|refine ⟨rfl,?_⟩)) (.refl _)
  repeat (first|refine g_op rfl ?_|refine g_then ?_|refine g_nil ?_|refine g_region ?_|refine g_seq ?_|refine g_block ?_)
  cases hwo : writesOf W r with
  | nil =>
   rw [decide_eq_true (byR_none.2 hwo),decide_eq_false (show ¬ KnownAt bl W ⟨true,r⟩ b i from fun h=>by obtain ⟨x,l,e,_⟩:=h rfl; rw [hwo] at e; cases e)]
   repeat (first|refine g_op rfl ?_|refine g_then ?_|refine g_nil ?_|refine g_region ?_|refine g_seq ?_|refine g_condT ?_|refine g_ret ?_|refine g_thenRet ?_|refine g_blockRet ?_)
   exact g_retV rfl rfl
  | cons x l =>
   have hbr : byR W r = ((x.block : Int),x.at'):=by unfold byR; rw [hwo]
   rw [hbr]
   simp only
   rw [decide_eq_false (show ¬ (x.block : Int) < 0 by omega)]
   have hkn : KnownAt bl W ⟨true,r⟩ b i ↔ (x.block = b→x.at' < i)∧(x.block ≠ b→Dom bl x.block b):=by
    refine ⟨fun h=>?_,fun h _=>⟨x,l,hwo,h⟩⟩
    obtain ⟨y,m,e,h4⟩:=h rfl
    rw [hwo] at e
    obtain ⟨rfl,rfl⟩:=List.cons.inj e
    exact h4
   repeat (first|refine g_op rfl ?_|refine g_then ?_|refine g_nil ?_|refine g_region ?_|refine g_seq ?_|refine g_condF ?_)
   by_cases he : x.block = b
   ·rw [decide_eq_true (show (x.block : Int) = (b : Int) by omega)]
    repeat (first|refine g_op rfl ?_|refine g_then ?_|refine g_nil ?_|refine g_region ?_|refine g_seq ?_|refine g_condT ?_|refine g_ret ?_|refine g_thenRet ?_|refine g_blockRet ?_)
    refine g_retV rfl ?_
    rw [decide_eq_decide.2 (show x.at' < i ↔ KnownAt bl W ⟨true,r⟩ b i from hkn.trans ⟨fun h=>h.1 he,fun h=>⟨fun _=>h,fun hn=>absurd he hn⟩⟩ |>.symm)]
   ·rw [decide_eq_false (show ¬ (x.block : Int) = (b : Int) by omega)]
    rw [decide_eq_decide.2 (show KnownAt bl W ⟨true,r⟩ b i ↔ Dom bl x.block b from hkn.trans ⟨fun h=>h.2 he,fun h=>⟨fun hn=>absurd hn he,fun _=>h⟩⟩)]
    repeat (first|refine g_then ?_|refine g_seq ?_|refine g_inBlock ?_|refine g_skip ?_|refine g_condF ?_)
    refine g_drawX [Ent.box p9 [.int .i64 (x.block : Int),.int .i64 x.at'] 76] (fun _ : Unit=>True) (fun _=>[(8,.bool (decide (Dom bl x.block b)))]) (fun _=>[Ent.box p9 [.int .i64 (x.block : Int),.int .i64 x.at'] 76,Ent.box p5 [.bool true,.int .i64 (r : Int)] 37]) mixed (.cons_cons _ (List.nil_sublist _)) ?_ fun _ _=>?_
    ·skip
     refine h_take 0 rfl (by decide +kernel) (.cons_cons _ (List.nil_sublist _)) ?_
     refine h_take 1 rfl (by decide +kernel) (.cons_cons _ (List.nil_sublist _)) ?_
     refine h_take 2 rfl (by decide +kernel) (.cons_cons _ (List.nil_sublist _)) ?_
     refine h_take 3 rfl (by decide +kernel) (.cons_cons _ (List.nil_sublist _)) ?_
     refine h_take 4 rfl (by decide +kernel) (.cons_cons _ (List.nil_sublist _)) ?_
     refine h_take 5 rfl (by decide +kernel) (.cons_cons _ (List.nil_sublist _)) ?_
     refine h_take 6 rfl (by decide +kernel) (.cons_cons _ (List.nil_sublist _)) ?_
     refine h_callV 7 rfl (by decide +kernel) (.cons_cons _ (List.nil_sublist _)) (fun w hw=>rules_c _ bl hok hpos x.block b hb w (hup0.keep keeps_int hw.chg)) ?_
     refine h_take 8 rfl (by decide +kernel) (.cons_cons _ (List.nil_sublist _)) ?_
     refine h_end (by decide +kernel) ?_
     exact g_mem () trivial (by repeat (first|exact trivial|refine ⟨rfl,?_⟩)) (.refl _)
    repeat (first|refine g_then ?_|refine g_ret ?_)
    exact g_retV rfl rfl
theorem uses_no {bl : List LBlock} {W : List Wr} {b : Nat} {B : LBlock} (hB : bl[b]? = some B) (h : ¬ BlockUse bl W b B) : ¬ UsesOk bl W:=fun hu=>h (hu b B hB)
theorem ssaUses_c (p R n : Nat) (nm : Value) (bl : List LBlock) (W : List Wr) (bs up by' : Value) (w0 : World) (hC : ChkV w0 p R n nm bl W bs up by') (hf : FuncOk R bl) (hlen : bl.length ≤ 100) (hpos : 0 < bl.length) (hR : R ≤ 100) (hrch : ∀ b,b < bl.length→Rch bl (-1) 0 b) (hls : ∀ B ∈ bl,∀ x ∈ B.list,x.args.length ≤ 100000) :
  RetV Tryd.prog 29 [.pointer (some ⟨p,0,none⟩)] w0 (.bool (open Classical in decide (UsesOk bl W))):=by
 classical
 have hok:=hf.good
 have hbs0:=hC.bs
 obtain ⟨bsv,hbsv⟩ : ∃ z,z = bs:=⟨_,rfl⟩
 obtain ⟨ba,bn,bc,_,_,hbse,hbn,_⟩:=hC.bs
 subst hbse
 have hcip : CellsIs w0 p 0 _:=⟨hC.box⟩
 refine ret_enterM (S:=NoS) (w0:=w0) Tryd.func29 rfl Tryd.ntmps29 rfl (Wd.nil NoS w0) ?_
 repeat (first|refine g_op rfl ?_|refine g_then ?_|refine g_nil ?_|refine g_region ?_|refine g_seq ?_|refine g_box rfl fun _ _=>?_|refine g_alloc rfl fun _ _=>?_)
 rename_i p1 _ p2 _
 refine g_callE (val:=fun x : (Option Addr × Nat × Nat) × (Nat→Prop)=>.slice x.1.1 x.1.2.1 x.1.2.2) (E:=fun x=>[⟨x.2,fun w=>SlAt w (.slice x.1.1 x.1.2.1 x.1.2.2) 1 (aheadL bl) RowV⟩]) (φ:=fun _=>True) rfl (fun w hw=>graphAhead_c nm (.int .i64 (n : Int)) (.int .i64 (R : Int)) bl _ w (hbs0.keep keeps_block hw.chg) hlen hok) fun x _=>?_
 obtain ⟨⟨ta,tn,tc⟩,tf⟩:=x
 simp only [List.cons_append,List.nil_append]
 repeat (first|refine g_op rfl ?_|refine g_then ?_|refine g_nil ?_|refine g_region ?_|refine g_seq ?_|refine g_block ?_)
 refine g_loopD (fun x : Nat × List Nat=>dsOf x.2) (fun x=>x.1 ≤ bn∧∀ b' B,b' < x.1→bl[b']? = some B→BlockUse bl W b' B) (fun x=>[(25,.int .i64 x.1),(24,.int .i64 bn),(23,.slice ba bn bc),(3,.slice ta tn tc),(2,.pointer (some ⟨p2,0,none⟩)),(1,.pointer (some ⟨p1,0,none⟩))]) (fun x=>Ent.box p2 [.bool false] 4::Ent.box p1 [.pointer (some ⟨p,0,none⟩)] 72::(⟨tf,fun w=>SlAt w (.slice ta tn tc) 1 (aheadL bl) RowV⟩ : Ent)::marks x.2) (fun x=>bn - x.1) (0,[]) rfl ⟨Nat.zero_le _,fun _ _ h=>absurd h (Nat.not_lt_zero _)⟩ ?_ fun x ⟨hi,hall⟩=>?_
 ·refine g_sel [1,2,0] (by decide) ?_
  exact g_done (by repeat (first|exact trivial|refine ⟨rfl,?_⟩)) (.refl _)
 obtain ⟨b,Ds⟩:=x
 simp only at hi hall ⊢
 repeat (first|refine g_op rfl ?_|refine g_then ?_|refine g_nil ?_|refine g_region ?_|refine g_seq ?_)
 refine g_cond (fun h1=>?_) (fun h1=>?_)
 case refine_2 =>
  obtain rfl : bn = b:=by have:=h1; simp at this; omega
  have hU : UsesOk bl W:=fun c B hB=>hall c B (by have:=(List.getElem?_eq_some_iff.1 hB).1; omega) hB
  rw [decide_eq_true hU]
  repeat (first|refine g_then ?_|refine g_nil ?_|refine g_region ?_|refine g_seq ?_|refine g_store ?_|refine g_exit ?_|refine g_thenExit ?_|refine g_exitHere ?_|refine g_ret ?_)
  refine g_permH (H1:=marks Ds++[Ent.box p2 [.bool true] 4,Ent.box p1 [.pointer (some ⟨p,0,none⟩)] 72,(⟨tf,fun w=>SlAt w (.slice ta tn tc) 1 (aheadL bl) RowV⟩ : Ent)]) (List.perm_append_comm (l₁:=[Ent.box p2 [.bool true] 4,Ent.box p1 [.pointer (some ⟨p,0,none⟩)] 72,(⟨tf,fun w=>SlAt w (.slice ta tn tc) 1 (aheadL bl) RowV⟩ : Ent)])) ?_
  exact g_retMsC Ds rfl fun w hw=>⟨rfl,hw.chg⟩
 have hlt : b < bn:=by simpa using h1
 have hbl : b < bl.length:=by omega
 obtain ⟨B,hB⟩ : ∃ B,bl[b]? = some B:=⟨_,List.getElem?_eq_getElem (by omega)⟩
 have hold : ∀ {b o : Nat} {v : Value} {l : List Value},CellsAt w0 b o (v::l)→OldIs NoS b:=fun _=>⟨fun h=>h⟩
 obtain ⟨b1,o1,had1,_,hel1⟩:=slKnown hbs0 hold (fun _ _ h=>by obtain ⟨_,_,_,e,_⟩:=h; exact ⟨_,_,e⟩) (ne_of_get hB)
 obtain ⟨_,hci1,pv,lv,tv,rfl,_,_,hph,hli,hto⟩:=hel1 b B hB
 have hfB:=hf.block b B hB
 have hlt2 : LtIs b bn:=⟨hlt⟩
 obtain ⟨pa,pn,pc,_,_,rfl,hpn,_⟩:=id hph
 obtain ⟨la,ln,lc,_,_,rfl,hln,_⟩:=id hli
 obtain ⟨va,vn,vc,_,_,rfl,_⟩:=id hto
 repeat (first|refine g_op rfl ?_|refine g_then ?_|refine g_nil ?_|refine g_region ?_|refine g_seq ?_|refine g_store ?_|refine g_alloc rfl fun _ _=>?_|refine g_storeAgg ?_|refine g_block ?_|refine g_skip ?_)
 rename_i p4 _ p5 _
 have hpre:=aheadL_get hok (fun b B hB=>(hf.block b B hB).to) hbl
 refine g_eqH (H1:=[Ent.box p5 [.slice pa pn pc,.slice la ln lc,.int .i64 B.kind,.bool B.on.reg,.int .i64 B.on.n,.slice va vn vc] 47,Ent.box p4 [.int .i64 b] 3,Ent.box p2 [.bool false] 4,Ent.box p1 [.pointer (some ⟨p,0,none⟩)] 72]++((⟨tf,fun w=>SlAt w (.slice ta tn tc) 1 (aheadL bl) RowV⟩ : Ent)::marks Ds)) rfl ?_
 refine g_holdK fun w1 hw1=>?_
 have htb : SlAt (killW (fps [Ent.box p5 [.slice pa pn pc,.slice la ln lc,.int .i64 B.kind,.bool B.on.reg,.int .i64 B.on.n,.slice va vn vc] 47,Ent.box p4 [.int .i64 b] 3,Ent.box p2 [.bool false] 4,Ent.box p1 [.pointer (some ⟨p,0,none⟩)] 72]) w1) (.slice ta tn tc) 1 (aheadL bl) RowV:=hw1.beside (e:=(⟨tf,fun w=>SlAt w (.slice ta tn tc) 1 (aheadL bl) RowV⟩ : Ent)) (by simp)
 have back : ∀ {E : List Ent} {w : World},Wd (fps [Ent.box p5 [.slice pa pn pc,.slice la ln lc,.int .i64 B.kind,.bool B.on.reg,.int .i64 B.on.n,.slice va vn vc] 47,Ent.box p4 [.int .i64 b] 3,Ent.box p2 [.bool false] 4,Ent.box p1 [.pointer (some ⟨p,0,none⟩)] 72]) (killW (fps [Ent.box p5 [.slice pa pn pc,.slice la ln lc,.int .i64 B.kind,.bool B.on.reg,.int .i64 B.on.n,.slice va vn vc] 47,Ent.box p4 [.int .i64 b] 3,Ent.box p2 [.bool false] 4,Ent.box p1 [.pointer (some ⟨p,0,none⟩)] 72]) w1) E w→Wd NoS w0 (E++((⟨tf,fun w=>SlAt w (.slice ta tn tc) 1 (aheadL bl) RowV⟩ : Ent)::marks Ds)) w:=fun hw=>hw1.comp hw.unkill
 have hkp : ∀ {E : List Ent} {w : World},Wd (fps [Ent.box p5 [.slice pa pn pc,.slice la ln lc,.int .i64 B.kind,.bool B.on.reg,.int .i64 B.on.n,.slice va vn vc] 47,Ent.box p4 [.int .i64 b] 3,Ent.box p2 [.bool false] 4,Ent.box p1 [.pointer (some ⟨p,0,none⟩)] 72]) (killW (fps [Ent.box p5 [.slice pa pn pc,.slice la ln lc,.int .i64 B.kind,.bool B.on.reg,.int .i64 B.on.n,.slice va vn vc] 47,Ent.box p4 [.int .i64 b] 3,Ent.box p2 [.bool false] 4,Ent.box p1 [.pointer (some ⟨p,0,none⟩)] 72]) w1) E w→CellLe (killW (fps [Ent.box p5 [.slice pa pn pc,.slice la ln lc,.int .i64 B.kind,.bool B.on.reg,.int .i64 B.on.n,.slice va vn vc] 47,Ent.box p4 [.int .i64 b] 3,Ent.box p2 [.bool false] 4,Ent.box p1 [.pointer (some ⟨p,0,none⟩)] 72]) w1) w:=fun hw=>hw.killKeep
 have hold2 : ∀ {c o : Nat} {v : Value} {l : List Value},CellsAt (killW (fps [Ent.box p5 [.slice pa pn pc,.slice la ln lc,.int .i64 B.kind,.bool B.on.reg,.int .i64 B.on.n,.slice va vn vc] 47,Ent.box p4 [.int .i64 b] 3,Ent.box p2 [.bool false] 4,Ent.box p1 [.pointer (some ⟨p,0,none⟩)] 72]) w1) c o (v::l)→OldIs (fps [Ent.box p5 [.slice pa pn pc,.slice la ln lc,.int .i64 B.kind,.bool B.on.reg,.int .i64 B.on.n,.slice va vn vc] 47,Ent.box p4 [.int .i64 b] 3,Ent.box p2 [.bool false] 4,Ent.box p1 [.pointer (some ⟨p,0,none⟩)] 72]) c:=fun hc=>killOldIs hc (by simp)
 have hle:=CellLe.chg hw1.killOld
 have hCk:=hC.keep hle
 have hphk:=hph.le mono_phi hle
 generalize killW (fps [Ent.box p5 [.slice pa pn pc,.slice la ln lc,.int .i64 B.kind,.bool B.on.reg,.int .i64 B.on.n,.slice va vn vc] 47,Ent.box p4 [.int .i64 b] 3,Ent.box p2 [.bool false] 4,Ent.box p1 [.pointer (some ⟨p,0,none⟩)] 72]) w1 = wk at *
 generalize fps [Ent.box p5 [.slice pa pn pc,.slice la ln lc,.int .i64 B.kind,.bool B.on.reg,.int .i64 B.on.n,.slice va vn vc] 47,Ent.box p4 [.int .i64 b] 3,Ent.box p2 [.bool false] 4,Ent.box p1 [.pointer (some ⟨p,0,none⟩)] 72] = SS at *
 have hcik : CellsIs wk p 0 _:=⟨hCk.box⟩
 have hoik:=hold2 hCk.box
 refine g_loop (fun j : Nat=>j ≤ pn∧∀ j' q,j' < j→B.phis[j']? = some q→PhiUse bl W b q (preds bl b).length) (fun j=>[(33,.int .i64 j),(32,.int .i64 pn),(31,.slice pa pn pc),(5,.pointer (some ⟨p5,0,none⟩)),(4,.pointer (some ⟨p4,0,none⟩)),(25,.int .i64 b),(24,.int .i64 bn),(23,.slice ba bn bc),(3,.slice ta tn tc),(2,.pointer (some ⟨p2,0,none⟩)),(1,.pointer (some ⟨p1,0,none⟩))]) (fun _=>[Ent.box p5 [.slice pa pn pc,.slice la ln lc,.int .i64 B.kind,.bool B.on.reg,.int .i64 B.on.n,.slice va vn vc] 47,Ent.box p4 [.int .i64 b] 3,Ent.box p2 [.bool false] 4,Ent.box p1 [.pointer (some ⟨p,0,none⟩)] 72]) (fun j=>pn - j) 0 ⟨Nat.zero_le _,fun _ _ h=>absurd h (Nat.not_lt_zero _)⟩ (g_done (by repeat (first|exact trivial|refine ⟨rfl,?_⟩)) (.refl _)) fun j ⟨hj,hpall⟩=>?_
 repeat (first|refine g_op rfl ?_|refine g_then ?_|refine g_nil ?_|refine g_region ?_|refine g_seq ?_)
 refine g_cond (fun h2=>?_) (fun h2=>?_)
 ·have hjl : j < pn:=by simpa using h2
  obtain ⟨q,hq⟩ : ∃ q,B.phis[j]? = some q:=⟨_,List.getElem?_eq_getElem (by omega)⟩
  obtain ⟨b2,o2,had2,hold2',hel2⟩:=slKnown hphk hold2 (fun _ _ h=>by obtain ⟨_,e,_⟩:=h; exact ⟨_,_,e⟩) (ne_of_get hq)
  obtain ⟨_,hci2,sv,rfl,_,hsv⟩:=hel2 j q hq
  have hqP:=hfB.phis q (List.mem_of_getElem? hq)
  have hlt3 : LtIs j pn:=⟨hjl⟩
  obtain ⟨sa,sn,sc,_,_,rfl,hsn,_⟩:=id hsv
  repeat (first|refine g_op rfl ?_|refine g_then ?_|refine g_nil ?_|refine g_region ?_|refine g_seq ?_|refine g_alloc rfl fun _ _=>?_|refine g_storeAgg ?_|refine g_block ?_|refine g_skip ?_)
  rename_i p7 _
  have hqlen:=hqP.len
  refine g_loop (fun i : Nat=>i ≤ sn∧PhiUse bl W b q i) (fun i=>[(40,.int .i64 i),(39,.int .i64 sn),(38,.slice sa sn sc),(7,.pointer (some ⟨p7,0,none⟩)),(33,.int .i64 j),(32,.int .i64 pn),(31,.slice pa pn pc),(5,.pointer (some ⟨p5,0,none⟩)),(4,.pointer (some ⟨p4,0,none⟩)),(25,.int .i64 b),(24,.int .i64 bn),(23,.slice ba bn bc),(3,.slice ta tn tc),(2,.pointer (some ⟨p2,0,none⟩)),(1,.pointer (some ⟨p1,0,none⟩))]) (fun _=>[Ent.box p7 [.int .i64 q.dst,.slice sa sn sc] 68,Ent.box p5 [.slice pa pn pc,.slice la ln lc,.int .i64 B.kind,.bool B.on.reg,.int .i64 B.on.n,.slice va vn vc] 47,Ent.box p4 [.int .i64 b] 3,Ent.box p2 [.bool false] 4,Ent.box p1 [.pointer (some ⟨p,0,none⟩)] 72]) (fun i=>sn - i) 0 ⟨Nat.zero_le _,fun _ _ _ _ h=>absurd h (Nat.not_lt_zero _)⟩ (g_done (by repeat (first|exact trivial|refine ⟨rfl,?_⟩)) (.refl _)) fun i ⟨hi2,hpu⟩=>?_
  repeat (first|refine g_op rfl ?_|refine g_then ?_|refine g_nil ?_|refine g_region ?_|refine g_seq ?_)
  refine g_cond (fun h3=>?_) (fun h3=>?_)
  ·have hil : i < sn:=by simpa using h3
   obtain ⟨v,hv⟩ : ∃ v,q.src[i]? = some v:=⟨_,List.getElem?_eq_getElem (by omega)⟩
   obtain ⟨b3,o3,had3,hold3,hel3⟩:=slKnown hsv hold2 (fun _ _ h=>⟨_,_,h.1⟩) (ne_of_get hv)
   obtain ⟨_,hci3,rfl,_⟩:=hel3 i v hv
   have hlt4 : LtIs i sn:=⟨hil⟩
   obtain ⟨a,ha⟩ : ∃ a,(preds bl b)[i]? = some a:=⟨_,List.getElem?_eq_getElem (by omega)⟩
   have hal : a < bl.length:=by have h9:=List.mem_of_getElem? ha; unfold preds at h9; exact List.mem_range.1 (List.mem_filter.1 h9).1
   obtain ⟨A,hA⟩ : ∃ A,bl[a]? = some A:=⟨_,List.getElem?_eq_getElem hal⟩
   obtain ⟨b4,o4,had4,hold4,hel4⟩:=slKnown htb hold2 (fun _ _ h=>by obtain ⟨_,e,_⟩:=h; exact ⟨_,_,e⟩) (ne_of_get hpre)
   obtain ⟨_,hci4,rv,rfl,hrv⟩:=hel4 b _ hpre
   obtain ⟨ra,rn,rc,_,_,rfl,hrn,_⟩:=id hrv
   obtain ⟨b6,o6,had6,hold6,hel6⟩:=slKnown hrv hold2 (fun _ _ h=>⟨_,_,h.1⟩) (ne_of_get (i:=i) (x:=(a : Int)) (by rw [List.getElem?_map,ha]; rfl))
   obtain ⟨_,hci6,rfl,_⟩:=hel6 i (a : Int) (by rw [List.getElem?_map,ha]; rfl)
   obtain ⟨b7,o7,had7,hold7,hel7⟩:=slKnown hCk.bs hold2 (fun _ _ h=>by obtain ⟨_,_,_,e,_⟩:=h; exact ⟨_,_,e⟩) (ne_of_get hA)
   obtain ⟨_,hci7,apv,alv,atv,rfl,_,_,_,hali,_⟩:=hel7 a A hA
   obtain ⟨ala,aln,alc,_,_,rfl,haln,_⟩:=id hali
   have hrn2 : rn = (preds bl b).length:=by rw [hrn,List.length_map]
   have hlt5 : LtIs i rn:=⟨by omega⟩
   have hlt6 : LtIs a bn:=⟨by omega⟩
   have hlt7 : LtIs b tn:=⟨by rw [htb.at.1]; exact (List.getElem?_eq_some_iff.1 hpre).1⟩
   repeat (first|refine g_op rfl ?_|refine g_then ?_|refine g_nil ?_|refine g_region ?_|refine g_seq ?_|refine g_alloc rfl fun _ _=>?_|refine g_storeAgg ?_|refine g_block ?_|refine g_skip ?_)
   rename_i p9 _
   refine g_drawX [Ent.box p9 [.bool v.reg,.int .i64 v.n] 37,Ent.box p7 [.int .i64 q.dst,.slice sa sn sc] 68,Ent.box p5 [.slice pa pn pc,.slice la ln lc,.int .i64 B.kind,.bool B.on.reg,.int .i64 B.on.n,.slice va vn vc] 47,Ent.box p4 [.int .i64 b] 3,Ent.box p2 [.bool false] 4,Ent.box p1 [.pointer (some ⟨p,0,none⟩)] 72] (fun _ : Unit=>True) (fun _=>[(66,.bool (!decide (KnownAt bl W v a A.list.length))),(40,.int .i64 i),(39,.int .i64 sn),(38,.slice sa sn sc),(7,.pointer (some ⟨p7,0,none⟩)),(33,.int .i64 j),(32,.int .i64 pn),(31,.slice pa pn pc),(5,.pointer (some ⟨p5,0,none⟩)),(4,.pointer (some ⟨p4,0,none⟩)),(25,.int .i64 b),(24,.int .i64 bn),(23,.slice ba bn bc),(3,.slice ta tn tc),(2,.pointer (some ⟨p2,0,none⟩)),(1,.pointer (some ⟨p1,0,none⟩))]) (fun _=>[Ent.box p9 [.bool v.reg,.int .i64 v.n] 37,Ent.box p7 [.int .i64 q.dst,.slice sa sn sc] 68,Ent.box p5 [.slice pa pn pc,.slice la ln lc,.int .i64 B.kind,.bool B.on.reg,.int .i64 B.on.n,.slice va vn vc] 47,Ent.box p4 [.int .i64 b] 3,Ent.box p2 [.bool false] 4,Ent.box p1 [.pointer (some ⟨p,0,none⟩)] 72]) mixed (.refl _) ?_ fun _ _=>?_
   ·skip
    refine h_take 0 rfl (by decide +kernel) (.refl _) ?_
    refine h_take 1 rfl (by decide +kernel) (.refl _) ?_
    refine h_take 2 rfl (by decide +kernel) (.refl _) ?_
    refine h_take 3 rfl (by decide +kernel) (.refl _) ?_
    refine h_take 4 rfl (by decide +kernel) (.refl _) ?_
    refine h_take 5 rfl (by decide +kernel) (.refl _) ?_
    refine h_take 6 rfl (by decide +kernel) (.refl _) ?_
    refine h_take 7 rfl (by decide +kernel) (.refl _) ?_
    refine h_take 8 rfl (by decide +kernel) (.refl _) ?_
    refine h_take 9 rfl (by decide +kernel) (.refl _) ?_
    refine h_take 10 rfl (by decide +kernel) (.refl _) ?_
    refine h_take 11 rfl (by decide +kernel) (.refl _) ?_
    refine h_take 12 rfl (by decide +kernel) (.refl _) ?_
    rw [haln]
    refine h_callV 13 rfl (by decide +kernel) (.refl _) (fun w hw=>known_c p R n nm bl W _ up by' w (hCk.keep (hkp hw)) hok hpos v (hqP.vals v (List.mem_of_getElem? hv)) a A.list.length (hrch a hal)) ?_
    refine h_take 14 rfl (by decide +kernel) (.refl _) ?_
    refine h_end (by decide +kernel) ?_
    exact g_mem () trivial (by repeat (first|exact trivial|refine ⟨rfl,?_⟩)) (.refl _)
   by_cases hk : KnownAt bl W v a A.list.length
   ·rw [decide_eq_true hk]
    repeat (first|refine g_then ?_|refine g_nil ?_|refine g_region ?_|refine g_opS rfl ?_|refine g_inBlock ?_|refine g_skip ?_|refine g_condF ?_|refine g_add rfl (by omega) (by omega) ?_)
    exact g_next (i + 1) ⟨hil,fun i' a' v' A' hi' ha' hv' hA'=>by
     by_cases e : i' = i
     ·subst e
      rw [ha] at ha'; rw [hv] at hv'
      obtain rfl:=Option.some.inj ha'; obtain rfl:=Option.some.inj hv'
      rw [hA] at hA'
      obtain rfl:=Option.some.inj hA'
      exact hk
     ·exact hpu i' a' v' A' (by omega) ha' hv' hA'⟩ (by omega) (by repeat (first|exact trivial|refine ⟨rfl,?_⟩)) (.cons _ (.refl _))
   ·have hno : ¬ UsesOk bl W:=uses_no hB fun h=>hk ((h.phis q (List.mem_of_getElem? hq)) i a v A (by omega) ha hv hA)
    rw [decide_eq_false hk,decide_eq_false hno]
    refine g_unhold back ?_
    simp only [List.cons_append,List.nil_append]
    repeat (first|refine g_then ?_|refine g_nil ?_|refine g_region ?_|refine g_seq ?_|refine g_store ?_|refine g_condT ?_|refine g_ret ?_|refine g_thenRet ?_|refine g_blockRet ?_)
    refine g_permH (H1:=marks Ds++[Ent.box p9 [.bool v.reg,.int .i64 v.n] 37,Ent.box p7 [.int .i64 q.dst,.slice sa sn sc] 68,Ent.box p5 [.slice pa pn pc,.slice la ln lc,.int .i64 B.kind,.bool B.on.reg,.int .i64 B.on.n,.slice va vn vc] 47,Ent.box p4 [.int .i64 b] 3,Ent.box p2 [.bool false] 4,Ent.box p1 [.pointer (some ⟨p,0,none⟩)] 72,(⟨tf,fun w=>SlAt w (.slice ta tn tc) 1 (aheadL bl) RowV⟩ : Ent)]) (List.perm_append_comm (l₁:=[Ent.box p9 [.bool v.reg,.int .i64 v.n] 37,Ent.box p7 [.int .i64 q.dst,.slice sa sn sc] 68,Ent.box p5 [.slice pa pn pc,.slice la ln lc,.int .i64 B.kind,.bool B.on.reg,.int .i64 B.on.n,.slice va vn vc] 47,Ent.box p4 [.int .i64 b] 3,Ent.box p2 [.bool false] 4,Ent.box p1 [.pointer (some ⟨p,0,none⟩)] 72,(⟨tf,fun w=>SlAt w (.slice ta tn tc) 1 (aheadL bl) RowV⟩ : Ent)])) ?_
    exact g_retMsC Ds rfl fun w hw=>⟨rfl,hw.chg⟩
  ·repeat (first|refine g_then ?_|refine g_nil ?_|refine g_region ?_|refine g_opS rfl ?_|refine g_inBlock ?_|refine g_add rfl (by omega) (by omega) ?_|refine g_exit ?_|refine g_thenExit ?_|refine g_exitHere ?_)
   exact g_next (j + 1) ⟨hjl,fun j' q' h hq'=>by
    by_cases e : j' = j
    ·subst e
     rw [hq] at hq'
     obtain rfl:=Option.some.inj hq'
     have hie : i = (preds bl b).length:=by have:=h3; simp at this; omega
     rw [← hie]
     exact hpu
    ·exact hpall j' q' (by omega) hq'⟩ (by omega) (by repeat (first|exact trivial|refine ⟨rfl,?_⟩)) (.cons _ (.refl _))
 have hphs : ∀ q ∈ B.phis,PhiUse bl W b q (preds bl b).length:=fun q hq=>by
  obtain ⟨j',hj'⟩:=List.getElem?_of_mem hq
  exact hpall j' q (by have:=(List.getElem?_eq_some_iff.1 hj').1; have:=h2; simp at this; omega) hj'
 refine g_unhold back ?_
 simp only [List.cons_append,List.nil_append]
 clear hCk hphk hcik hoik htb hkp hold2 hle back hw1 hpall
 repeat (first|refine g_op rfl ?_|refine g_then ?_|refine g_nil ?_|refine g_region ?_|refine g_seq ?_|refine g_block ?_|refine g_exit ?_|refine g_thenExit ?_|refine g_exitHere ?_)
 refine g_loopD (fun x : Nat × List Nat=>dsOf x.2) (fun x=>x.1 ≤ ln∧∀ k' y,k' < x.1→B.list[k']? = some y→InsUse bl W b k' y) (fun x=>[(72,.int .i64 x.1),(71,.int .i64 ln),(70,.slice la ln lc),(5,.pointer (some ⟨p5,0,none⟩)),(4,.pointer (some ⟨p4,0,none⟩)),(25,.int .i64 b),(24,.int .i64 bn),(23,.slice ba bn bc),(3,.slice ta tn tc),(2,.pointer (some ⟨p2,0,none⟩)),(1,.pointer (some ⟨p1,0,none⟩))]) (fun x=>Ent.box p5 [.slice pa pn pc,.slice la ln lc,.int .i64 B.kind,.bool B.on.reg,.int .i64 B.on.n,.slice va vn vc] 47::Ent.box p4 [.int .i64 b] 3::Ent.box p2 [.bool false] 4::Ent.box p1 [.pointer (some ⟨p,0,none⟩)] 72::(⟨tf,fun w=>SlAt w (.slice ta tn tc) 1 (aheadL bl) RowV⟩ : Ent)::marks x.2) (fun x=>ln - x.1) (0,Ds) rfl ⟨Nat.zero_le _,fun _ _ h=>absurd h (Nat.not_lt_zero _)⟩ (g_done (by repeat (first|exact trivial|refine ⟨rfl,?_⟩)) (.refl _)) fun x ⟨hki,hlall⟩=>?_
 obtain ⟨k,Ds⟩:=x
 simp only at hki hlall ⊢
 repeat (first|refine g_op rfl ?_|refine g_then ?_|refine g_nil ?_|refine g_region ?_|refine g_seq ?_)
 refine g_cond (fun h3=>?_) (fun h3=>?_)
 case refine_2 =>
  obtain rfl : ln = k:=by have:=h3; simp at this; omega
  have hlist : ∀ (i : Nat) x,B.list[i]? = some x→InsUse bl W b i x:=fun i x hx=>hlall i x (by have:=(List.getElem?_eq_some_iff.1 hx).1; omega) hx
  repeat (first|refine g_op rfl ?_|refine g_then ?_|refine g_region ?_|refine g_seq ?_|refine g_exit ?_|refine g_thenExit ?_|refine g_exitHere ?_)
  refine g_callV rfl (fun w hw=>known_c p R n nm bl W _ up by' w (hC.keep (CellLe.chg hw.chg)) hok hpos B.on hfB.on b ln (hrch b hbl)) ?_
  by_cases hk : KnownAt bl W B.on b ln
  ·rw [decide_eq_true hk]
   repeat (first|refine g_op rfl ?_|refine g_then ?_|refine g_nil ?_|refine g_region ?_|refine g_opS rfl ?_|refine g_inBlock ?_|refine g_skip ?_|refine g_condF ?_|refine g_add rfl (by omega) (by omega) ?_)
   exact g_nextD (b + 1,Ds) rfl ⟨hlt,fun b' B' h hB'=>by
    by_cases e : b' = b
    ·subst e
     rw [hB] at hB'
     obtain rfl:=Option.some.inj hB'
     exact ⟨hphs,hlist,by rw [← hln]; exact hk⟩
    ·exact hall b' B' (by omega) hB'⟩ (by simp only; omega) (by repeat (first|exact trivial|refine ⟨rfl,?_⟩)) (.cons _ (.cons _ (.refl _)))
  ·have hno : ¬ UsesOk bl W:=uses_no hB fun h=>hk (by rw [hln]; exact h.on)
   rw [decide_eq_false hk,decide_eq_false hno]
   repeat (first|refine g_op rfl ?_|refine g_then ?_|refine g_nil ?_|refine g_region ?_|refine g_seq ?_|refine g_store ?_|refine g_condT ?_|refine g_ret ?_|refine g_thenRet ?_|refine g_blockRet ?_)
   refine g_permH (H1:=marks Ds++[Ent.box p5 [.slice pa pn pc,.slice la ln lc,.int .i64 B.kind,.bool B.on.reg,.int .i64 B.on.n,.slice va vn vc] 47,Ent.box p4 [.int .i64 b] 3,Ent.box p2 [.bool false] 4,Ent.box p1 [.pointer (some ⟨p,0,none⟩)] 72,(⟨tf,fun w=>SlAt w (.slice ta tn tc) 1 (aheadL bl) RowV⟩ : Ent)]) (List.perm_append_comm (l₁:=[Ent.box p5 [.slice pa pn pc,.slice la ln lc,.int .i64 B.kind,.bool B.on.reg,.int .i64 B.on.n,.slice va vn vc] 47,Ent.box p4 [.int .i64 b] 3,Ent.box p2 [.bool false] 4,Ent.box p1 [.pointer (some ⟨p,0,none⟩)] 72,(⟨tf,fun w=>SlAt w (.slice ta tn tc) 1 (aheadL bl) RowV⟩ : Ent)])) ?_
   exact g_retMsC Ds rfl fun w hw=>⟨rfl,hw.chg⟩
 have hkl : k < ln:=by simpa using h3
 obtain ⟨y,hy⟩ : ∃ y,B.list[k]? = some y:=⟨_,List.getElem?_eq_getElem (by omega)⟩
 obtain ⟨b3,o3,had3,hold3,hel3⟩:=slKnown hli hold (fun _ _ h=>by obtain ⟨_,e,_⟩:=h; exact ⟨_,_,e⟩) (ne_of_get hy)
 obtain ⟨_,hci3,av,rfl,_,_,_,_,_,hav⟩:=hel3 k y hy
 have hyO:=hfB.list y (List.mem_of_getElem? hy)
 have hyl:=hls B (List.mem_of_getElem? hB) y (List.mem_of_getElem? hy)
 have hlt4 : LtIs k ln:=⟨hkl⟩
 obtain ⟨aa,an,ac,_,_,rfl,_⟩:=id hav
 repeat (first|refine g_op rfl ?_|refine g_then ?_|refine g_nil ?_|refine g_region ?_|refine g_seq ?_|refine g_store ?_|refine g_alloc rfl fun _ _=>?_|refine g_storeAgg ?_|refine g_block ?_|refine g_skip ?_)
 rename_i p11 _ p12 _
 refine g_callE (val:=fun q : Nat=>.func (.func 61) #[] #[.pointer (some ⟨q,0,none⟩)]) (E:=fun q=>[Ent.box q [.int .i64 y.op,.int .i64 y.dst,.bool y.a.reg,.int .i64 y.a.n,.bool y.b.reg,.int .i64 y.b.n,.int .i64 y.fn,.slice aa an ac] 40]) (φ:=fun _=>True) rfl (fun w hw=>vals_c y _ ⟨_,_,_,rfl⟩ w) fun bp _=>?_
 simp only [List.cons_append,List.nil_append]
 repeat (first|refine g_then ?_|refine g_nil ?_|refine g_block ?_)
 obtain ⟨xs,hxs⟩ : ∃ xs : List {v : LVal // v ∈ valsOf y},xs.map (·.1) = valsOf y:=⟨(valsOf y).attach,List.attach_map_subtype_val _⟩
 refine g_fix (L':=[(78,.func (.func 61) #[] #[.pointer (some ⟨bp,0,none⟩)]),(12,.pointer (some ⟨p12,0,none⟩)),(11,.pointer (some ⟨p11,0,none⟩)),(72,.int .i64 k),(71,.int .i64 ln),(70,.slice la ln lc),(5,.pointer (some ⟨p5,0,none⟩)),(4,.pointer (some ⟨p4,0,none⟩)),(25,.int .i64 b),(24,.int .i64 bn),(23,.slice ba bn bc),(3,.slice ta tn tc),(2,.pointer (some ⟨p2,0,none⟩)),(1,.pointer (some ⟨p1,0,none⟩))]) (by repeat (first|exact trivial|refine ⟨rfl,?_⟩)) (.refl _) ?_
 refine g_rangeX (α:={v : LVal // v ∈ valsOf y}) (gf:=61) (lb:=[.pointer (some ⟨bp,0,none⟩)]) (Ent.box bp [.int .i64 y.op,.int .i64 y.dst,.bool y.a.reg,.int .i64 y.a.n,.bool y.b.reg,.int .i64 y.b.n,.int .i64 y.fn,.slice aa an ac] 40::Ent.box p12 [.int .i64 y.op,.int .i64 y.dst,.bool y.a.reg,.int .i64 y.a.n,.bool y.b.reg,.int .i64 y.b.n,.int .i64 y.fn,.slice aa an ac] 40::Ent.box p11 [.int .i64 k] 3::Ent.box p5 [.slice pa pn pc,.slice la ln lc,.int .i64 B.kind,.bool B.on.reg,.int .i64 B.on.n,.slice va vn vc] 47::Ent.box p4 [.int .i64 b] 3::Ent.box p2 [.bool false] 4::Ent.box p1 [.pointer (some ⟨p,0,none⟩)] 72::(⟨tf,fun w=>SlAt w (.slice ta tn tc) 1 (aheadL bl) RowV⟩ : Ent)::marks Ds) (fun _ : Unit=>[]) () (fun _=>⟨by intro e he; cases he⟩) (fun _ _ _ h=>h) xs
  (encs:=fun v=>#[.agg #[.bool v.1.reg,.int .i64 v.1.n]]) (Bs:=bp) (bcs:=[.int .i64 y.op,.int .i64 y.dst,.bool y.a.reg,.int .i64 y.a.n,.bool y.b.reg,.int .i64 y.b.n,.int .i64 y.fn,.slice aa an ac]) (bt:=40) (by simp)
  (fun w1 hw1=>?_) (fun pre _=>∀ v ∈ pre,KnownAt bl W v.1 b k) (¬ UsesOk bl W) (by simp) (.refl _) (fun _=>rfl) (fun v=>[.bool v.1.reg,.int .i64 v.1.n]) 37
  (fun v=>[(79,.agg #[.bool v.1.reg,.int .i64 v.1.n]),(12,.pointer (some ⟨p12,0,none⟩)),(11,.pointer (some ⟨p11,0,none⟩)),(72,.int .i64 k),(71,.int .i64 ln),(70,.slice la ln lc),(5,.pointer (some ⟨p5,0,none⟩)),(4,.pointer (some ⟨p4,0,none⟩)),(25,.int .i64 b),(24,.int .i64 bn),(23,.slice ba bn bc),(3,.slice ta tn tc),(2,.pointer (some ⟨p2,0,none⟩)),(1,.pointer (some ⟨p1,0,none⟩))]) (fun v q=>[(13,.pointer (some ⟨q,0,none⟩)),(12,.pointer (some ⟨p12,0,none⟩)),(11,.pointer (some ⟨p11,0,none⟩)),(72,.int .i64 k),(71,.int .i64 ln),(70,.slice la ln lc),(5,.pointer (some ⟨p5,0,none⟩)),(4,.pointer (some ⟨p4,0,none⟩)),(25,.int .i64 b),(24,.int .i64 bn),(23,.slice ba bn bc),(3,.slice ta tn tc),(2,.pointer (some ⟨p2,0,none⟩)),(1,.pointer (some ⟨p1,0,none⟩))]) (fun v a h=>?_) (fun l v s RR=>?_) (fun l pre v s q RR hI hlt=>?_) (fun D s2 hD hI=>?_) (fun D s2 hD hI=>?_)
 ·intro l J Jx W1 hW1 hJ hJx hY h0
  have hownz : ∀ c,fps ([]++(Ent.box bp [.int .i64 y.op,.int .i64 y.dst,.bool y.a.reg,.int .i64 y.a.n,.bool y.b.reg,.int .i64 y.b.n,.int .i64 y.fn,.slice aa an ac] 40::Ent.box p12 [.int .i64 y.op,.int .i64 y.dst,.bool y.a.reg,.int .i64 y.a.n,.bool y.b.reg,.int .i64 y.b.n,.int .i64 y.fn,.slice aa an ac] 40::Ent.box p11 [.int .i64 k] 3::Ent.box p5 [.slice pa pn pc,.slice la ln lc,.int .i64 B.kind,.bool B.on.reg,.int .i64 B.on.n,.slice va vn vc] 47::Ent.box p4 [.int .i64 b] 3::Ent.box p2 [.bool false] 4::Ent.box p1 [.pointer (some ⟨p,0,none⟩)] 72::(⟨tf,fun w=>SlAt w (.slice ta tn tc) 1 (aheadL bl) RowV⟩ : Ent)::marks Ds)) c→(NoS c ∨ w0.heap.size ≤ c)∧c < w1.heap.size:=fun c ⟨e,he,hb⟩=>hw1.own e he c hb
  have hkz : ∀ p v,w0.cell? p = some v→w1.cell? p = some v:=hw1.chg.cells
  have h9:=vals1_c (α:={v : LVal // v ∈ valsOf y}) (fun v=>v.1) y aa an ac xs hxs hyl l bp _ w0 hav (fun p v hp h=>(hownz _ h.1).1.elim (fun h=>h) fun h2=>by have:=World.block_lt_of_cell? w0 p hp; omega) (fun h=>h.2 rfl) W1 (fun c hc h=>by have:=(hownz c h.1).2; have:=hW1.size; omega) J Jx _ hJ hJx hY (fun p v hp=>by
   have h3:=hkz p v hp
   exact (hW1.cell (World.block_lt_of_cell? w1 _ h3)).trans h3) (fun j v hj=>by
   have h3 : w1.cell? ⟨bp,0 + j,none⟩ = some v:=hw1.boxCells bp j v hj
   exact (hW1.cell (World.block_lt_of_cell? w1 _ h3)).trans h3) h0
  exact callsIn_deep (CallsIn.mono h9 fun e w' ⟨v,he,hh⟩=>⟨⟨v,he⟩,hh⟩)
 ·have h9:=(h.to (L':=[(12,.pointer (some ⟨p12,0,none⟩)),(11,.pointer (some ⟨p11,0,none⟩)),(72,.int .i64 k),(71,.int .i64 ln),(70,.slice la ln lc),(5,.pointer (some ⟨p5,0,none⟩)),(4,.pointer (some ⟨p4,0,none⟩)),(25,.int .i64 b),(24,.int .i64 bn),(23,.slice ba bn bc),(3,.slice ta tn tc),(2,.pointer (some ⟨p2,0,none⟩)),(1,.pointer (some ⟨p1,0,none⟩))]) (by repeat (first|exact trivial|refine ⟨rfl,?_⟩))).putOk (d:=79) rfl (.agg #[.bool v.1.reg,.int .i64 v.1.n])
  have e : (#[79].zip #[Value.agg #[.bool v.1.reg,.int .i64 v.1.n]]).foldl (fun (t : Array Value) (q : Tmp × Value)=>t.setIfInBounds q.1 q.2) a.tmps = a.tmps.setIfInBounds 79 (.agg #[.bool v.1.reg,.int .i64 v.1.n]):=by simp
  refine ⟨Eq.trans (congrArg Array.size e) h9.size,rfl,fun p hp=>?_⟩
  exact Eq.trans (congrArg (fun t : Array Value=>t[p.1]?) e) (h9.slot p hp)
 ·simp only [List.nil_append]
  repeat (first|refine g_then ?_|refine g_nil ?_|refine g_region ?_|refine g_alloc rfl fun _ _=>?_|refine g_storeAgg ?_)
  exact g_doneP _ (by repeat (first|exact trivial|refine ⟨rfl,?_⟩)) (.refl _)
 ·simp only [List.nil_append]
  repeat (first|refine g_op rfl ?_|refine g_region ?_|refine g_seq ?_|refine g_block ?_)
  refine g_callV rfl (fun w hw=>known_c p R n nm bl W _ up by' w (hC.keep (CellLe.chg hw.chg)) hok hpos v.1 (hyO.vals v.1 v.2) b k (hrch b hbl)) ?_
  by_cases hk : KnownAt bl W v.1 b k
  ·rw [decide_eq_true hk]
   repeat (first|refine g_op rfl ?_|refine g_then ?_|refine g_nil ?_|refine g_inBlock ?_|refine g_skip ?_|refine g_condF ?_)
   refine g_rnd () (fun v' hv'=>?_) (.refl _)
   rcases List.mem_append.1 hv' with h|h
   ·exact hI v' h
   ·rw [List.mem_singleton.1 h]
    exact hk
  ·rw [decide_eq_false hk]
   repeat (first|refine g_op rfl ?_|refine g_then ?_|refine g_nil ?_|refine g_region ?_|refine g_seq ?_|refine g_store ?_|refine g_condT ?_|refine g_ret ?_|refine g_thenRet ?_|refine g_blockRet ?_)
   refine g_rndX () (uses_no hB fun h=>hk (h.list k y hy v.1 v.2)) (.refl _)
 ·simp only [List.nil_append]
  repeat (first|refine g_then ?_|refine g_nil ?_|refine g_region ?_|refine g_opS rfl ?_|refine g_inBlock ?_|refine g_add rfl (by omega) (by omega) ?_)
  refine g_permH (H1:=[Ent.box bp [.int .i64 y.op,.int .i64 y.dst,.bool y.a.reg,.int .i64 y.a.n,.bool y.b.reg,.int .i64 y.b.n,.int .i64 y.fn,.slice aa an ac] 40,Ent.box p12 [.int .i64 y.op,.int .i64 y.dst,.bool y.a.reg,.int .i64 y.a.n,.bool y.b.reg,.int .i64 y.b.n,.int .i64 y.fn,.slice aa an ac] 40,Ent.box p11 [.int .i64 k] 3,Ent.box p5 [.slice pa pn pc,.slice la ln lc,.int .i64 B.kind,.bool B.on.reg,.int .i64 B.on.n,.slice va vn vc] 47,Ent.box p4 [.int .i64 b] 3,Ent.box p2 [.bool false] 4,Ent.box p1 [.pointer (some ⟨p,0,none⟩)] 72,(⟨tf,fun w=>SlAt w (.slice ta tn tc) 1 (aheadL bl) RowV⟩ : Ent)]++Ent.mark D::marks Ds) (List.perm_middle (l₁:=[Ent.box bp [.int .i64 y.op,.int .i64 y.dst,.bool y.a.reg,.int .i64 y.a.n,.bool y.b.reg,.int .i64 y.b.n,.int .i64 y.fn,.slice aa an ac] 40,Ent.box p12 [.int .i64 y.op,.int .i64 y.dst,.bool y.a.reg,.int .i64 y.a.n,.bool y.b.reg,.int .i64 y.b.n,.int .i64 y.fn,.slice aa an ac] 40,Ent.box p11 [.int .i64 k] 3,Ent.box p5 [.slice pa pn pc,.slice la ln lc,.int .i64 B.kind,.bool B.on.reg,.int .i64 B.on.n,.slice va vn vc] 47,Ent.box p4 [.int .i64 b] 3,Ent.box p2 [.bool false] 4,Ent.box p1 [.pointer (some ⟨p,0,none⟩)] 72,(⟨tf,fun w=>SlAt w (.slice ta tn tc) 1 (aheadL bl) RowV⟩ : Ent)])).symm ?_
  simp only [List.cons_append,List.nil_append]
  refine g_nextD (k + 1,D::Ds) rfl ⟨hkl,fun k' y' h hy' v hv=>?_⟩ (by simp only; omega) (by repeat (first|exact trivial|refine ⟨rfl,?_⟩)) (.cons _ (.cons _ (.cons _ (.refl _))))
  by_cases e : k' = k
  ·subst e
   rw [hy] at hy'
   obtain rfl:=Option.some.inj hy'
   rw [← hxs] at hv
   obtain ⟨v',hv',rfl⟩:=List.mem_map.1 hv
   exact hI v' hv'
  ·exact hlall k' y' (by simp only at h; omega) hy' v hv
 ·rw [decide_eq_false hI]
  simp only [List.nil_append]
  repeat (first|refine g_thenRet ?_|refine g_blockRet ?_)
  refine g_permH (H1:=marks (D::Ds)++[Ent.box bp [.int .i64 y.op,.int .i64 y.dst,.bool y.a.reg,.int .i64 y.a.n,.bool y.b.reg,.int .i64 y.b.n,.int .i64 y.fn,.slice aa an ac] 40,Ent.box p12 [.int .i64 y.op,.int .i64 y.dst,.bool y.a.reg,.int .i64 y.a.n,.bool y.b.reg,.int .i64 y.b.n,.int .i64 y.fn,.slice aa an ac] 40,Ent.box p11 [.int .i64 k] 3,Ent.box p5 [.slice pa pn pc,.slice la ln lc,.int .i64 B.kind,.bool B.on.reg,.int .i64 B.on.n,.slice va vn vc] 47,Ent.box p4 [.int .i64 b] 3,Ent.box p2 [.bool false] 4,Ent.box p1 [.pointer (some ⟨p,0,none⟩)] 72,(⟨tf,fun w=>SlAt w (.slice ta tn tc) 1 (aheadL bl) RowV⟩ : Ent)]) (List.Perm.cons _ (List.perm_append_comm (l₁:=[Ent.box bp [.int .i64 y.op,.int .i64 y.dst,.bool y.a.reg,.int .i64 y.a.n,.bool y.b.reg,.int .i64 y.b.n,.int .i64 y.fn,.slice aa an ac] 40,Ent.box p12 [.int .i64 y.op,.int .i64 y.dst,.bool y.a.reg,.int .i64 y.a.n,.bool y.b.reg,.int .i64 y.b.n,.int .i64 y.fn,.slice aa an ac] 40,Ent.box p11 [.int .i64 k] 3,Ent.box p5 [.slice pa pn pc,.slice la ln lc,.int .i64 B.kind,.bool B.on.reg,.int .i64 B.on.n,.slice va vn vc] 47,Ent.box p4 [.int .i64 b] 3,Ent.box p2 [.bool false] 4,Ent.box p1 [.pointer (some ⟨p,0,none⟩)] 72,(⟨tf,fun w=>SlAt w (.slice ta tn tc) 1 (aheadL bl) RowV⟩ : Ent)]))) ?_
  exact g_retMsC (D::Ds) rfl fun w hw=>⟨rfl,hw.chg⟩
end Go.Proofs.YtdbljcahlpkgdaaDoor
