/- Texts joined: SsaG SsaE. -/
import Derived.Test.YtdbljcahlpkgdaaDoorGD
import Derived.Test.YtdbljcahlpkgdaaDoorGI
import Derived.Test.YtdbljcahlpkgdaaDoorGX
import Derived.Test.YtdbljcahlpkgdaaDoorHJ
import Derived.Test.YtdbljcahlpkgdaaDoorKB
import Derived.Test.YtdbljcahlpkgdaaDoorLA
import Derived.Test.YtdbljcahlpkgdaaDoorLB
namespace Go.Proofs.YtdbljcahlpkgdaaDoor
open Go Go.RowKit
section
variable {P : Program} {ro : Option Nat} {N : Nat} {ds : List Deferred} {S : Nat→Prop} {w0 : World} {L : List (Nat × Value)} {H : List Ent} {Q : Exit→Act→World→Prop}
theorem g_midY {α : Type} {c y : Code} (φ : α→Prop) (Lx : α→List (Nat × Value)) (Hx : α→List Ent) (h1 : G N ds S w0 L H (Code.wpIn (FW ro) 0 P c (Exit.then (MemX N ds S w0 φ Lx Hx) Q))) (h2 : ∀ x,φ x→G N ds S w0 (Lx x) (Hx x) (Code.wpIn (FW ro) 0 P y Q)) : G N ds S w0 L H (Code.wpIn (FW ro) 0 P c (Exit.then (Code.wpIn (FW ro) 0 P y Q) Q)):=fun a w hS =>
 Code.wpIn_mono (fun e a' w' q=>by
  cases e with
  | normal=>obtain ⟨x,hx,hS'⟩:=q; exact h2 x hx a' w' hS'
  | _=>exact q) (h1 a w hS)
end
attribute [local irreducible] wpListIn Code.wpIn Exit.then Exit.inBlock bodyPost wpQuiet wpAnyIn wpAnyH bodyPostM oneH
set_option maxHeartbeats 4000000
def spW (w : Wr) : List Value:=[.int .i64 (w.block : Int),.int .i64 w.at']
theorem spW_len (w : Wr) : (spW w).length = 2:=rfl
theorem writesOf_add (W : List Wr) (w : Wr) (r : Int) : writesOf (W++[w]) r = writesOf W r++if w.reg = r then [w] else []:=by
 rw [writesOf_append]
 congr 1
 unfold writesOf
 by_cases h : w.reg = r <;> simp [h]
theorem writesOf_le (W : List Wr) (r : Int) : (writesOf W r).length ≤ W.length:=List.length_filter_le _ _
theorem params_of {n r : Nat} : writesOf (paramsW n) r = if r < n then [⟨r,0,-1⟩] else []:=by
 unfold writesOf paramsW
 induction n with
 | zero=>rfl
 | succ n ih =>
  rw [List.range_succ,List.map_append,List.filter_append,ih]
  by_cases h1 : r < n
  ·rw [if_pos h1,if_pos (by omega)]
   simp
   omega
  ·rw [if_neg h1]
   by_cases h2 : n = r
   ·subst h2
    rw [if_pos (by omega)]
    simp
   ·rw [if_neg (by omega)]
    simp
    omega
theorem blocksW_cap {n : Nat} {bl : List LBlock} {b : Nat} {B : LBlock} (hB : bl[b]? = some B) : (paramsW n++(blocksW (bl.take b) 0++(phisW b B.phis++listW b B.list 0))).length ≤ (allW n bl).length:=by
 have h1:=blocksW_take hB
 have h2 : blocksW bl 0 = blocksW (bl.take (b + 1)) 0++blocksW (bl.drop (b + 1)) (0 + (bl.take (b + 1)).length):=by rw [← blocksW_append,List.take_append_drop]
 unfold allW
 rw [h2,h1]
 simp only [blockW,List.length_append]
 omega
theorem listW_cap (i : Nat) (l : List LIns) (k : Nat) : (listW i (l.take k) 0).length ≤ (listW i l 0).length:=by
 have h2 : listW i l 0 = listW i (l.take k) 0++listW i (l.drop k) (0 + (l.take k).length):=by rw [← listW_append,List.take_append_drop]
 rw [h2,List.length_append]
 omega
theorem refWrites_c (nm re : Value) (n : Nat) (bl : List LBlock) (bs : Value) (r : Nat) (w0 : World) (hbs : SlAt w0 bs 6 bl BlockV) (hcnt : (allW n bl).length ≤ 100000) :
  Ret Tryd.prog 20 [.agg #[nm,.int .i64 (n : Int),re,bs],.int .i64 (r : Int)] w0 fun u w'=>∃ x : Option Addr × Nat,u = .slice x.1 (writesOf (allW n bl) r).length x.2∧Wd NoS w0 [Ent.vec x.1 (writesOf (allW n bl) r).length x.2 70 2 ((writesOf (allW n bl) r).flatMap spW)] w'∧True:=by
 have hbs0:=hbs
 obtain ⟨ba,bn,bc,_,_,rfl,hbn,_⟩:=hbs
 refine ret_enter Tryd.func20 rfl Tryd.ntmps20 rfl (Wd.nil NoS w0) ?_
 have hold : ∀ {b o : Nat} {v : Value} {l : List Value},CellsAt w0 b o (v::l)→OldIs NoS b:=fun _=>⟨fun h=>h⟩
 repeat (first|refine g_op rfl ?_|refine g_then ?_|refine g_nil ?_|refine g_region ?_|refine g_seq ?_|refine g_box rfl fun _ _=>?_)
 rename_i p2 _
 refine g_nilVec 70 2 ?_
 refine g_midY (fun x : Nat × Option Addr × Nat × List Wr=>x.2.2.2 = writesOf (paramsW n) r) (fun x=>[(5,.slice x.2.1 x.2.2.2.length x.2.2.1),(2,.pointer (some ⟨p2,0,none⟩)),(1,.int .i64 (r : Int))]) (fun x : Nat × Option Addr × Nat × List Wr=>[Ent.vec x.2.1 x.2.2.2.length x.2.2.1 70 2 (x.2.2.2.flatMap spW),Ent.box p2 [nm,.int .i64 (n : Int),re,.slice ba bn bc] 33]) ?_ fun x hx=>?_
 ·rw [params_of]
  refine g_cond (fun h1=>?_) (fun h1=>?_)
  ·have hlt : r < n:=by simpa using h1
   rw [if_pos hlt]
   repeat (first|refine g_op rfl ?_|refine g_region ?_|refine g_build1 rfl rfl fun _ _=>?_)
   refine g_append rfl rfl (by omega) (by omega) fun a' c'=>?_
   repeat (first|refine g_then ?_|refine g_nil ?_|refine g_opS rfl ?_)
   exact g_mem (0,a',c',[⟨r,0,-1⟩]) rfl (by repeat (first|exact trivial|refine ⟨rfl,?_⟩)) (.cons _ (.refl _))
  ·have hlt : ¬ r < n:=by simpa using h1
   rw [if_neg hlt]
   repeat (first|refine g_then ?_|refine g_skip ?_)
   exact g_mem (0,none,0,[]) rfl (by repeat (first|exact trivial|refine ⟨rfl,?_⟩)) (.refl _)
 obtain ⟨_,la,lc,l⟩:=x
 simp only at hx ⊢
 repeat (first|refine g_op rfl ?_|refine g_then ?_|refine g_nil ?_|refine g_region ?_|refine g_seq ?_|refine g_block ?_)
 refine g_loop (fun x : Nat × Option Addr × Nat × List Wr=>x.1 ≤ bn∧x.2.2.2 = writesOf (paramsW n++blocksW (bl.take x.1) 0) r) (fun x=>[(6,.int .i64 x.1),(5,.slice x.2.1 x.2.2.2.length x.2.2.1),(2,.pointer (some ⟨p2,0,none⟩)),(1,.int .i64 (r : Int))]) (fun x : Nat × Option Addr × Nat × List Wr=>[Ent.vec x.2.1 x.2.2.2.length x.2.2.1 70 2 (x.2.2.2.flatMap spW),Ent.box p2 [nm,.int .i64 (n : Int),re,.slice ba bn bc] 33]) (fun x=>bn - x.1) (0,la,lc,l) ⟨Nat.zero_le _,by simp [hx,blocksW]⟩ (g_done (by repeat (first|exact trivial|refine ⟨rfl,?_⟩)) (.refl _)) fun x ⟨hi,hl⟩=>?_
 obtain ⟨b,la,lc,l⟩:=x
 simp only at hi hl ⊢
 repeat (first|refine g_op rfl ?_|refine g_then ?_|refine g_nil ?_|refine g_region ?_|refine g_seq ?_)
 refine g_cond (fun h1=>?_) (fun h1=>?_)
 case refine_2 =>
  have hbe : b = bn:=by have:=h1; simp at this; omega
  repeat (first|refine g_op rfl ?_|refine g_then ?_|refine g_nil ?_|refine g_region ?_|refine g_seq ?_|refine g_exit ?_|refine g_thenExit ?_|refine g_exitHere ?_|refine g_ret ?_)
  have hp : l = writesOf (allW n bl) r:=by rw [hl,hbe,hbn,List.take_length]; rfl
  exact g_ret1 rfl fun w hw=>⟨(la,lc),by rw [hp],by rw [← hp]; exact hw.sel [0] (by decide),trivial⟩
 have hlt : b < bn:=by simpa using h1
 obtain ⟨B,hB⟩ : ∃ B,bl[b]? = some B:=⟨_,List.getElem?_eq_getElem (by omega)⟩
 obtain ⟨b1,o1,had1,hold1,hel1⟩:=slKnown hbs0 hold (fun _ _ h=>by obtain ⟨_,_,_,e,_⟩:=h; exact ⟨_,_,e⟩) (ne_of_get hB)
 obtain ⟨_,hci1,pv,lv,tv,rfl,_,_,hph,hli,_⟩:=hel1 b B hB
 have hlt2 : LtIs b bn:=⟨hlt⟩
 have hcap:=blocksW_cap (n:=n) hB
 simp only [List.length_append] at hcap
 obtain ⟨pa,pn,pc,_,_,rfl,hpn,_⟩:=id hph
 obtain ⟨ia,ln,ic,_,_,rfl,hln,_⟩:=id hli
 repeat (first|refine g_op rfl ?_|refine g_then ?_|refine g_nil ?_|refine g_region ?_|refine g_seq ?_|refine g_block ?_|refine g_skip ?_)
 refine g_loop (fun x : Nat × Option Addr × Nat × List Wr=>x.1 ≤ pn∧x.2.2.2 = writesOf (paramsW n++(blocksW (bl.take b) 0++phisW b (B.phis.take x.1))) r) (fun x=>[(7,.int .i64 x.1),(6,.int .i64 b),(5,.slice x.2.1 x.2.2.2.length x.2.2.1),(2,.pointer (some ⟨p2,0,none⟩)),(1,.int .i64 (r : Int))]) (fun x : Nat × Option Addr × Nat × List Wr=>[Ent.vec x.2.1 x.2.2.2.length x.2.2.1 70 2 (x.2.2.2.flatMap spW),Ent.box p2 [nm,.int .i64 (n : Int),re,.slice ba bn bc] 33]) (fun x=>pn - x.1) (0,la,lc,l) ⟨Nat.zero_le _,by simp [hl,phisW]⟩ (g_done (by repeat (first|exact trivial|refine ⟨rfl,?_⟩)) (.refl _)) fun x ⟨hi,hl⟩=>?_
 obtain ⟨j,la,lc,l⟩:=x
 simp only at hi hl ⊢
 repeat (first|refine g_op rfl ?_|refine g_then ?_|refine g_nil ?_|refine g_region ?_|refine g_seq ?_)
 refine g_cond (fun h2=>?_) (fun h2=>?_)
 ·have hjl : j < pn:=by simpa using h2
  obtain ⟨q,hq⟩ : ∃ q,B.phis[j]? = some q:=⟨_,List.getElem?_eq_getElem (by omega)⟩
  obtain ⟨b2,o2,had2,hold2,hel2⟩:=slKnown hph hold (fun _ _ h=>by obtain ⟨_,e,_⟩:=h; exact ⟨_,_,e⟩) (ne_of_get hq)
  obtain ⟨_,hci2,sv,rfl,_⟩:=hel2 j q hq
  have hlt3 : LtIs j pn:=⟨hjl⟩
  have hnew : writesOf (paramsW n++(blocksW (bl.take b) 0++phisW b (B.phis.take (j + 1)))) r = l++if q.dst = (r : Int) then [⟨q.dst,b,-1⟩] else []:=by
   rw [phisW_take hq,← List.append_assoc,← List.append_assoc,writesOf_add,hl]
   simp only [List.append_assoc]
  have hll : l.length ≤ 100000:=by
   rw [hl]
   refine Nat.le_trans (writesOf_le _ _) (Nat.le_trans ?_ hcnt)
   simp only [List.length_append,phisW,List.length_map,List.length_take] at hcap ⊢
   omega
  repeat (first|refine g_op rfl ?_|refine g_then ?_|refine g_nil ?_|refine g_region ?_|refine g_seq ?_|refine g_block ?_|refine g_skip ?_)
  by_cases he : q.dst = (r : Int)
  ·rw [decide_eq_true he]
   rw [if_pos he] at hnew
   repeat (first|refine g_op rfl ?_|refine g_region ?_|refine g_condT ?_|refine g_build1 rfl rfl fun _ _=>?_)
   refine g_append rfl rfl (by omega) (by omega) fun a' c'=>?_
   rw [show l.flatMap spW++[.int .i64 (b : Int),.int .i64 (-1)] = (l++[(⟨q.dst,b,-1⟩ : Wr)]).flatMap spW by simp [spW],show l.length + 1 = (l++[(⟨q.dst,b,-1⟩ : Wr)]).length by simp]
   repeat (first|refine g_op rfl ?_|refine g_then ?_|refine g_nil ?_|refine g_region ?_|refine g_opS rfl ?_|refine g_inBlock ?_|refine g_add rfl (by omega) (by omega) ?_)
   exact g_next (j + 1,a',c',l++[⟨q.dst,b,-1⟩]) ⟨hjl,hnew.symm⟩ (by simp only; omega) (by repeat (first|exact trivial|refine ⟨rfl,?_⟩)) (.cons _ (.refl _))
  ·rw [decide_eq_false he]
   rw [if_neg he,List.append_nil] at hnew
   repeat (first|refine g_op rfl ?_|refine g_then ?_|refine g_nil ?_|refine g_region ?_|refine g_opS rfl ?_|refine g_inBlock ?_|refine g_skip ?_|refine g_condF ?_|refine g_add rfl (by omega) (by omega) ?_)
   exact g_next (j + 1,la,lc,l) ⟨hjl,hnew.symm⟩ (by simp only; omega) (by repeat (first|exact trivial|refine ⟨rfl,?_⟩)) (.refl _)
 have hje : j = pn:=by have:=h2; simp at this; omega
 rw [hje,hpn,List.take_length] at hl
 repeat (first|refine g_op rfl ?_|refine g_then ?_|refine g_nil ?_|refine g_region ?_|refine g_seq ?_|refine g_block ?_|refine g_exit ?_|refine g_thenExit ?_|refine g_exitHere ?_)
 refine g_loop (fun x : Nat × Option Addr × Nat × List Wr=>x.1 ≤ ln∧x.2.2.2 = writesOf (paramsW n++(blocksW (bl.take b) 0++(phisW b B.phis++listW b (B.list.take x.1) 0))) r) (fun x=>[(8,.int .i64 x.1),(6,.int .i64 b),(5,.slice x.2.1 x.2.2.2.length x.2.2.1),(2,.pointer (some ⟨p2,0,none⟩)),(1,.int .i64 (r : Int))]) (fun x : Nat × Option Addr × Nat × List Wr=>[Ent.vec x.2.1 x.2.2.2.length x.2.2.1 70 2 (x.2.2.2.flatMap spW),Ent.box p2 [nm,.int .i64 (n : Int),re,.slice ba bn bc] 33]) (fun x=>ln - x.1) (0,la,lc,l) ⟨Nat.zero_le _,by simp [hl,listW]⟩ (g_done (by repeat (first|exact trivial|refine ⟨rfl,?_⟩)) (.refl _)) fun x ⟨hi,hl⟩=>?_
 obtain ⟨k,la,lc,l⟩:=x
 simp only at hi hl ⊢
 repeat (first|refine g_op rfl ?_|refine g_then ?_|refine g_nil ?_|refine g_region ?_|refine g_seq ?_)
 refine g_cond (fun h3=>?_) (fun h3=>?_)
 ·have hkl : k < ln:=by simpa using h3
  obtain ⟨y,hy⟩ : ∃ y,B.list[k]? = some y:=⟨_,List.getElem?_eq_getElem (by omega)⟩
  obtain ⟨b2,o2,had2,hold2,hel2⟩:=slKnown hli hold (fun _ _ h=>by obtain ⟨_,e,_⟩:=h; exact ⟨_,_,e⟩) (ne_of_get hy)
  obtain ⟨_,hci2,av,rfl,_⟩:=hel2 k y hy
  have hlt3 : LtIs k ln:=⟨hkl⟩
  have hnew : writesOf (paramsW n++(blocksW (bl.take b) 0++(phisW b B.phis++listW b (B.list.take (k + 1)) 0))) r = l++if y.dst = (r : Int) then [⟨y.dst,b,k⟩] else []:=by
   rw [listW_take hy]
   by_cases hn : y.dst < 0
   ·rw [if_pos hn,if_neg (by omega),List.append_nil,List.append_nil,hl]
   ·rw [if_neg hn,← List.append_assoc,← List.append_assoc,← List.append_assoc,writesOf_add,hl]
    simp only [List.append_assoc]
  have hll : l.length ≤ 100000:=by
   rw [hl]
   refine Nat.le_trans (writesOf_le _ _) (Nat.le_trans ?_ hcnt)
   have:=listW_cap b B.list k
   simp only [List.length_append] at hcap ⊢
   omega
  repeat (first|refine g_op rfl ?_|refine g_then ?_|refine g_nil ?_|refine g_region ?_|refine g_seq ?_|refine g_block ?_|refine g_skip ?_)
  by_cases he : y.dst = (r : Int)
  ·rw [decide_eq_true he]
   rw [if_pos he] at hnew
   repeat (first|refine g_op rfl ?_|refine g_region ?_|refine g_condT ?_|refine g_build1 rfl rfl fun _ _=>?_)
   refine g_append rfl rfl (by omega) (by omega) fun a' c'=>?_
   rw [show l.flatMap spW++[.int .i64 (b : Int),.int .i64 (k : Int)] = (l++[(⟨y.dst,b,k⟩ : Wr)]).flatMap spW by simp [spW],show l.length + 1 = (l++[(⟨y.dst,b,k⟩ : Wr)]).length by simp]
   repeat (first|refine g_op rfl ?_|refine g_then ?_|refine g_nil ?_|refine g_region ?_|refine g_opS rfl ?_|refine g_inBlock ?_|refine g_add rfl (by omega) (by omega) ?_)
   exact g_next (k + 1,a',c',l++[⟨y.dst,b,k⟩]) ⟨hkl,hnew.symm⟩ (by simp only; omega) (by repeat (first|exact trivial|refine ⟨rfl,?_⟩)) (.cons _ (.refl _))
  ·rw [decide_eq_false he]
   rw [if_neg he,List.append_nil] at hnew
   repeat (first|refine g_op rfl ?_|refine g_then ?_|refine g_nil ?_|refine g_region ?_|refine g_opS rfl ?_|refine g_inBlock ?_|refine g_skip ?_|refine g_condF ?_|refine g_add rfl (by omega) (by omega) ?_)
   exact g_next (k + 1,la,lc,l) ⟨hkl,hnew.symm⟩ (by simp only; omega) (by repeat (first|exact trivial|refine ⟨rfl,?_⟩)) (.refl _)
 have hke : k = ln:=by have:=h3; simp at this; omega
 repeat (first|refine g_op rfl ?_|refine g_then ?_|refine g_nil ?_|refine g_region ?_|refine g_opS rfl ?_|refine g_inBlock ?_|refine g_add rfl (by omega) (by omega) ?_|refine g_exit ?_|refine g_thenExit ?_|refine g_exitHere ?_)
 exact g_next (b + 1,la,lc,l) ⟨hlt,by rw [hl,hke,hln,List.take_length,blocksW_take hB]; rfl⟩ (by simp only; omega) (by repeat (first|exact trivial|refine ⟨rfl,?_⟩)) (.refl _)
end Go.Proofs.YtdbljcahlpkgdaaDoor
namespace Go.Proofs.YtdbljcahlpkgdaaDoor
open Go Go.RowKit
attribute [local irreducible] wpListIn Code.wpIn Exit.then Exit.inBlock bodyPost wpQuiet wpAnyIn wpAnyH bodyPostM oneH
set_option maxHeartbeats 4000000
section
variable {P : Program} {N : Nat} {ds : List Deferred} {S : Nat→Prop} {w0 : World} {L L' : List (Nat × Value)} {H H' Hr : List Ent} {Q : Exit→Act→World→Prop} {x y : Operand} {M : Act→World→Prop} {l : List Oper} {fuel : Nat} {listed : Array Bool}
theorem o_box {d ty T : Nat} {v : Value} {cs : List Value} {pos : String} {aft : Array Go.Edge} (i0 : Nat) [ho : ListAt l i0 ⟨some d,.box T x,ty,pos,aft,none⟩] [hx : Ev L x v] [hv : CellsOf v cs] (hd : okPut d N L = true) (hH : Hr.Sublist H)
  (k : ∀ b,w0.heap.size ≤ b→G N ds S w0 ((d,.pointer (some ⟨b,0,none⟩))::L) (Ent.box b cs T::H) (wpAnyH P .any l.toArray (OnlyN M) (Wd S w0 Hr) fuel (listed.setIfInBounds i0 true))) : G N ds S w0 L H (oneH P l M (Wd S w0 Hr) fuel listed i0) :=
 o_valH i0 rfl fun a w hS=>by
  have hv:=hS.wd.box cs T
  have e : cs.toArray = v.cells:=by rw [← ‹CellsOf v cs›.eq]
  rw [e] at hv
  exact ⟨.pointer (some ⟨w.heap.size,0,none⟩),w.alloc (.cells v.cells T),by simp [execOp,hx.eq _ _ _ hS.fr,Instr.box,newVar,newRow],hv.sub (hH.trans (List.sublist_cons_self _ _)),k _ hS.wd.size _ _ ⟨hS.fr.putOk hd _,hv⟩⟩
end
theorem post_all {bl : List LBlock} (hok : GoodB bl) (h0 : 0 < bl.length) : (postL bl).length < bl.length ↔ ∃ b,b < bl.length∧¬ Rch bl (-1) 0 b:=by
 have hnd:=(postL_seg hok h0).1
 constructor
 ·intro h
  refine Classical.byContradiction fun hn=>?_
  have h1 : ∀ b,b < bl.length→b ∈ postL bl:=fun b hb=>(postL_mem hok h0).2 (Classical.byContradiction fun h2=>hn ⟨b,hb,h2⟩)
  have h2 : (List.range bl.length).Perm (postL bl):=(List.perm_ext_iff_of_nodup List.nodup_range hnd).2 fun x=>by
   rw [List.mem_range]
   exact ⟨h1 x,fun hx=>postL_lt hok h0 hx⟩
  have h3:=h2.length_eq
  rw [List.length_range] at h3
  omega
 ·rintro ⟨b,hb,hn⟩
  have h1 : (b::postL bl).Nodup:=List.nodup_cons.2 ⟨fun hm=>hn ((postL_mem hok h0).1 hm),hnd⟩
  have h2:=nodup_len bl.length _ h1 fun x hx=>by
   rcases List.mem_cons.1 hx with rfl|hx
   ·exact hb
   ·exact postL_lt hok h0 hx
  rw [List.length_cons] at h2
  omega
theorem checkOf_c (nm : ByteArray) (n R : Nat) (bl : List LBlock) (bs : Value) (w0 : World) (hbs : SlAt w0 bs 6 bl BlockV) (hn : n ≤ R) (hR : R ≤ 100) (hf : FuncOk R bl) (hlen : bl.length ≤ 100) (hpos : 0 < bl.length) (hls : ∀ B ∈ bl,∀ x ∈ B.list,x.args.length ≤ 100000) :
  RetV Tryd.prog 10 [.agg #[.string nm,.int .i64 (n : Int),.int .i64 (R : Int),bs]] w0 (.int .i64 (wrongL n R bl)):=by
 classical
 have hok:=hf.good
 have hto:=fun b B hB=>(hf.block b B hB).to
 have hbs0:=hbs
 obtain ⟨ba,bn,bc,_,_,rfl,hbn,_⟩:=hbs
 refine ret_enter Tryd.func10 rfl Tryd.ntmps10 rfl (Wd.nil NoS w0) ?_
 repeat (first|refine g_op rfl ?_|refine g_then ?_|refine g_nil ?_|refine g_region ?_|refine g_seq ?_|refine g_box rfl fun _ _=>?_)
 rename_i p1 _
 refine g_drawX [Ent.box p1 [.string nm,.int .i64 (n : Int),.int .i64 (R : Int),.slice ba bn bc] 33] (fun _ : Nat × Nat × Nat=>True) (fun x=>[(3,.pointer (some ⟨x.1,0,none⟩)),(2,.int .i64 0),(1,.pointer (some ⟨p1,0,none⟩))]) (fun x=>[(fun x : Nat × Nat × Nat=>Ent.box x.1 [.string nm,.int .i64 (n : Int),.int .i64 (R : Int),.slice ba bn bc,.slice (some ⟨x.2.1,0,none⟩) bl.length bl.length,.slice (some ⟨x.2.2,0,none⟩) R R] 78) x,(fun a : Nat=>Ent.vec (some ⟨a,0,none⟩) R R 76 2 ((List.replicate R ((-1 : Int),(-1 : Int))).flatMap wrC)) x.2.2,(fun a : Nat=>Ent.vec (some ⟨a,0,none⟩) bl.length bl.length 3 1 (((List.range bl.length).map (treeN bl)).map (.int .i64))) x.2.1,Ent.box p1 [.string nm,.int .i64 (n : Int),.int .i64 (R : Int),.slice ba bn bc] 33]) mixed (.refl _) ?_ fun x _=>?_
 ·skip
  refine h_take 0 rfl (by decide +kernel) (by repeat (first|exact List.Sublist.refl _|refine List.Sublist.cons _ ?_)) ?_
  refine h_take 1 rfl (by decide +kernel) (by repeat (first|exact List.Sublist.refl _|refine List.Sublist.cons _ ?_)) ?_
  refine h_take 3 rfl (by decide +kernel) (by repeat (first|exact List.Sublist.refl _|refine List.Sublist.cons _ ?_)) ?_
  refine h_take 5 rfl (by decide +kernel) (by repeat (first|exact List.Sublist.refl _|refine List.Sublist.cons _ ?_)) ?_
  refine h_take 6 rfl (by decide +kernel) (by repeat (first|exact List.Sublist.refl _|refine List.Sublist.cons _ ?_)) ?_
  refine h_two 2 4 (by decide +kernel) ?_ ?_
  ·skip
   (refine o_callE 2 (val:=fun a : Nat=>.slice (some ⟨a,0,none⟩) bl.length bl.length) (E:=fun a=>[(fun a : Nat=>Ent.vec (some ⟨a,0,none⟩) bl.length bl.length 3 1 (((List.range bl.length).map (treeN bl)).map (.int .i64))) a]) (φ:=fun _=>True) rfl (by repeat (first|exact List.Sublist.refl _|refine List.Sublist.cons _ ?_)) (fun w hw=>treeOf_c _ _ _ bl _ ⟨_,_,_,rfl⟩ w (hbs0.keep keeps_block hw.chg) hlen hok hto hpos) fun ua _=>?_; simp only [List.cons_append,List.nil_append])
   refine h_one 4 (by decide +kernel) ?_
   refine o_build1 4 rfl (by decide +kernel) (by repeat (first|exact List.Sublist.refl _|refine List.Sublist.cons _ ?_)) fun q _=>?_
   refine h_one 7 (by decide +kernel) ?_
   (refine o_callE 7 (val:=fun a : Nat=>.slice (some ⟨a,0,none⟩) R R) (E:=fun a=>[(fun a : Nat=>Ent.vec (some ⟨a,0,none⟩) R R 76 2 ((List.replicate R ((-1 : Int),(-1 : Int))).flatMap wrC)) a]) (φ:=fun _=>True) rfl (by repeat (first|exact List.Sublist.refl _|refine List.Sublist.cons _ ?_)) (fun w hw=>repeatW_c q 0 R ((-1 : Int),(-1 : Int)) w (fun j v hj=>by first|exact hw.vecCell (k:=0) rfl hj|exact hw.vecCell (k:=1) rfl hj) (by omega)) fun b0 _=>?_; simp only [List.cons_append,List.nil_append])
   refine h_take 8 rfl (by decide +kernel) (by repeat (first|exact List.Sublist.refl _|refine List.Sublist.cons _ ?_)) ?_
   refine h_one 9 (by decide +kernel) (o_box 9 rfl (by repeat (first|exact List.Sublist.refl _|refine List.Sublist.cons _ ?_)) fun pc _=>?_)
   refine h_take 10 rfl (by decide +kernel) (by repeat (first|exact List.Sublist.refl _|refine List.Sublist.cons _ ?_)) ?_
   refine h_end (by decide +kernel) ?_
   exact g_mem (pc,ua,b0) trivial (by repeat (first|exact trivial|refine ⟨rfl,?_⟩)) (by first|exact .cons_cons _ (.cons_cons _ (.cons _ (.refl _)))|exact .cons_cons _ (.cons_cons _ (.cons_cons _ (.cons _ (.refl _)))))
  ·skip
   refine o_build1 4 rfl (by decide +kernel) (by repeat (first|exact List.Sublist.refl _|refine List.Sublist.cons _ ?_)) fun q _=>?_
   refine h_one 2 (by decide +kernel) ?_
   (refine o_callE 2 (val:=fun a : Nat=>.slice (some ⟨a,0,none⟩) bl.length bl.length) (E:=fun a=>[(fun a : Nat=>Ent.vec (some ⟨a,0,none⟩) bl.length bl.length 3 1 (((List.range bl.length).map (treeN bl)).map (.int .i64))) a]) (φ:=fun _=>True) rfl (by repeat (first|exact List.Sublist.refl _|refine List.Sublist.cons _ ?_)) (fun w hw=>treeOf_c _ _ _ bl _ ⟨_,_,_,rfl⟩ w (hbs0.keep keeps_block hw.chg) hlen hok hto hpos) fun ua _=>?_; simp only [List.cons_append,List.nil_append])
   refine h_one 7 (by decide +kernel) ?_
   (refine o_callE 7 (val:=fun a : Nat=>.slice (some ⟨a,0,none⟩) R R) (E:=fun a=>[(fun a : Nat=>Ent.vec (some ⟨a,0,none⟩) R R 76 2 ((List.replicate R ((-1 : Int),(-1 : Int))).flatMap wrC)) a]) (φ:=fun _=>True) rfl (by repeat (first|exact List.Sublist.refl _|refine List.Sublist.cons _ ?_)) (fun w hw=>repeatW_c q 0 R ((-1 : Int),(-1 : Int)) w (fun j v hj=>by first|exact hw.vecCell (k:=0) rfl hj|exact hw.vecCell (k:=1) rfl hj) (by omega)) fun b0 _=>?_; simp only [List.cons_append,List.nil_append])
   refine h_take 8 rfl (by decide +kernel) (by repeat (first|exact List.Sublist.refl _|refine List.Sublist.cons _ ?_)) ?_
   refine h_one 9 (by decide +kernel) (o_box 9 rfl (by repeat (first|exact List.Sublist.refl _|refine List.Sublist.cons _ ?_)) fun pc _=>?_)
   refine h_take 10 rfl (by decide +kernel) (by repeat (first|exact List.Sublist.refl _|refine List.Sublist.cons _ ?_)) ?_
   refine h_end (by decide +kernel) ?_
   exact g_mem (pc,ua,b0) trivial (by repeat (first|exact trivial|refine ⟨rfl,?_⟩)) (by first|exact .cons_cons _ (.cons_cons _ (.cons _ (.refl _)))|exact .cons_cons _ (.cons_cons _ (.cons_cons _ (.cons _ (.refl _)))))
 obtain ⟨pc,ua,b0⟩:=x
 simp only
 repeat (first|refine g_then ?_|refine g_seq ?_|refine g_block ?_)
 refine g_drawX [Ent.box p1 [.string nm,.int .i64 (n : Int),.int .i64 (R : Int),.slice ba bn bc] 33] (fun _ : Unit=>True) (fun _=>[(14,.bool (decide ((postL bl).length < bl.length))),(3,.pointer (some ⟨pc,0,none⟩)),(2,.int .i64 0),(1,.pointer (some ⟨p1,0,none⟩))]) (fun _=>[(fun x : Nat × Nat × Nat=>Ent.box x.1 [.string nm,.int .i64 (n : Int),.int .i64 (R : Int),.slice ba bn bc,.slice (some ⟨x.2.1,0,none⟩) bl.length bl.length,.slice (some ⟨x.2.2,0,none⟩) R R] 78) (pc,ua,b0),(fun a : Nat=>Ent.vec (some ⟨a,0,none⟩) R R 76 2 ((List.replicate R ((-1 : Int),(-1 : Int))).flatMap wrC)) b0,(fun a : Nat=>Ent.vec (some ⟨a,0,none⟩) bl.length bl.length 3 1 (((List.range bl.length).map (treeN bl)).map (.int .i64))) ua,Ent.box p1 [.string nm,.int .i64 (n : Int),.int .i64 (R : Int),.slice ba bn bc] 33]) mixed (by repeat (first|exact List.Sublist.refl _|refine List.Sublist.cons _ ?_)) ?_ fun _ _=>?_
 ·skip
  refine h_take 0 rfl (by decide +kernel) (by repeat (first|exact List.Sublist.refl _|refine List.Sublist.cons _ ?_)) ?_
  refine h_take 3 rfl (by decide +kernel) (by repeat (first|exact List.Sublist.refl _|refine List.Sublist.cons _ ?_)) ?_
  refine h_take 4 rfl (by decide +kernel) (by repeat (first|exact List.Sublist.refl _|refine List.Sublist.cons _ ?_)) ?_
  refine h_take 5 rfl (by decide +kernel) (by repeat (first|exact List.Sublist.refl _|refine List.Sublist.cons _ ?_)) ?_
  refine h_callE 1 (val:=fun x : Option Addr × Nat=>.slice x.1 (postL bl).length x.2) (E:=fun x=>[Ent.vec x.1 (postL bl).length x.2 3 1 ((postL bl).map intN)]) (φ:=fun _=>True) rfl (by decide +kernel) (by repeat (first|exact List.Sublist.refl _|refine List.Sublist.cons _ ?_)) (fun w hw=>graphPost_c _ _ _ bl _ w (hbs0.keep keeps_block hw.chg) hlen hok hpos) fun y _=>?_
  simp only [List.cons_append,List.nil_append]
  refine h_take 2 rfl (by decide +kernel) (by repeat (first|exact List.Sublist.refl _|refine List.Sublist.cons _ ?_)) ?_
  refine h_take 6 rfl (by decide +kernel) (by repeat (first|exact List.Sublist.refl _|refine List.Sublist.cons _ ?_)) ?_
  refine h_take 7 rfl (by decide +kernel) (by repeat (first|exact List.Sublist.refl _|refine List.Sublist.cons _ ?_)) ?_
  refine h_end (by decide +kernel) ?_
  rw [show (decide (((postL bl).length : Int) < (bn : Int))) = decide ((postL bl).length < bl.length) by rw [decide_eq_decide]; omega]
  exact g_mem () trivial (by repeat (first|exact trivial|refine ⟨rfl,?_⟩)) (.cons _ (.refl _))
 by_cases hp : (postL bl).length < bl.length
 ·rw [decide_eq_true hp,show wrongL n R bl = 5 from if_pos ((post_all hok hpos).1 hp)]
  repeat (first|refine g_then ?_|refine g_nil ?_|refine g_region ?_|refine g_seq ?_|refine g_opS rfl ?_|refine g_condT ?_|refine g_ret ?_|refine g_thenRet ?_|refine g_blockRet ?_)
  exact g_retV rfl rfl
 rw [decide_eq_false hp]
 have hno5 : ¬ ∃ b,b < bl.length∧¬ Rch bl (-1) 0 b:=fun h=>hp ((post_all hok hpos).2 h)
 have hrch : ∀ b,b < bl.length→Rch bl (-1) 0 b:=fun b hb=>Classical.byContradiction fun h=>hno5 ⟨b,hb,h⟩
 have hw5 : wrongL n R bl = if onceB (allW n bl) R = false then 7 else if ¬ UsesOk bl (allW n bl) then 6 else 0:=if_neg hno5
 rw [hw5]
 repeat (first|refine g_op rfl ?_|refine g_then ?_|refine g_region ?_|refine g_seq ?_|refine g_condF ?_)
 refine g_eqH (H1:=[Ent.box pc [.string nm,.int .i64 (n : Int),.int .i64 (R : Int),.slice ba bn bc,.slice (some ⟨ua,0,none⟩) bl.length bl.length,.slice (some ⟨b0,0,none⟩) R R] 78,(fun W : List Wr=>Ent.vec (some ⟨b0,0,none⟩) R R 76 2 ((byRows W R).flatMap wrC)) []]++[(fun a : Nat=>Ent.vec (some ⟨a,0,none⟩) bl.length bl.length 3 1 (((List.range bl.length).map (treeN bl)).map (.int .i64))) ua,Ent.box p1 [.string nm,.int .i64 (n : Int),.int .i64 (R : Int),.slice ba bn bc] 33]) (by simp only [byRows_nil]; rfl) ?_
 refine g_callC (val:=fun _ : Unit=>.bool (onceB (allW n bl) R)) (E:=fun _=>[Ent.box pc [.string nm,.int .i64 (n : Int),.int .i64 (R : Int),.slice ba bn bc,.slice (some ⟨ua,0,none⟩) bl.length bl.length,.slice (some ⟨b0,0,none⟩) R R] 78,(fun W : List Wr=>Ent.vec (some ⟨b0,0,none⟩) R R 76 2 ((byRows W R).flatMap wrC)) (allW n bl)]) (φ:=fun _=>True) (clean_no w0) rfl (fun wz w hcl hle _ hw=>writes_c pc b0 R n (.string nm) bl (.slice ba bn bc) (.slice (some ⟨ua,0,none⟩) bl.length bl.length) hn hR hlen hf wz w hcl (hbs0.le mono_block hle) hw) fun _ _=>?_
 simp only [List.cons_append,List.nil_append]
 cases ho : onceB (allW n bl) R with
 | false =>
  rw [if_pos rfl]
  repeat (first|refine g_op rfl ?_|refine g_then ?_|refine g_nil ?_|refine g_region ?_|refine g_seq ?_|refine g_opS rfl ?_|refine g_condT ?_|refine g_ret ?_|refine g_thenRet ?_|refine g_blockRet ?_)
  exact g_retV rfl rfl
 | true =>
  rw [if_neg (by simp)]
  repeat (first|refine g_op rfl ?_|refine g_then ?_|refine g_nil ?_|refine g_region ?_|refine g_seq ?_|refine g_condF ?_)
  refine g_callV rfl (fun w hw=>ssaUses_c pc R n (.string nm) bl (allW n bl) (.slice ba bn bc) (.slice (some ⟨ua,0,none⟩) bl.length bl.length) (.slice (some ⟨b0,0,none⟩) R R) w ⟨fun j v hj=>hw.boxCells pc j v hj,hbs0.keep keeps_block hw.chg,treeL_sl hw (k:=2) rfl rfl hok hpos hlen,hw.slAt (k:=1) rfl (byRows_len _ _).symm (by omega) fun i x hx=>⟨wrC x,fun j v hj=>flat_at wrC_len _ i x j v hx hj,rfl⟩⟩ hf hlen hpos hR hrch hls) ?_
  by_cases hu : UsesOk bl (allW n bl)
  ·rw [decide_eq_true hu,if_neg (by simp [hu])]
   repeat (first|refine g_op rfl ?_|refine g_then ?_|refine g_nil ?_|refine g_region ?_|refine g_seq ?_|refine g_opS rfl ?_|refine g_inBlock ?_|refine g_skip ?_|refine g_condF ?_|refine g_ret ?_)
   exact g_retV rfl rfl
  ·rw [decide_eq_false hu,if_pos hu]
   repeat (first|refine g_op rfl ?_|refine g_then ?_|refine g_nil ?_|refine g_region ?_|refine g_seq ?_|refine g_opS rfl ?_|refine g_condT ?_|refine g_ret ?_|refine g_thenRet ?_|refine g_blockRet ?_)
   exact g_retV rfl rfl
noncomputable def wrongF (X : LFunc) : Int:=wrongL X.params.toNat X.regs.toNat X.blocks
noncomputable def ssaL (l : List LFunc) (k : Nat) : Int × Int:=match l with
 | []=>(0,0)
 | X::l=>if wrongF X ≠ 0 then (wrongF X,(k : Int)) else ssaL l (k + 1)
noncomputable def ssaF (u : LUnit) : Int × Int:=if (checkL u).1 ≠ 0 then checkL u else ssaL u.funcs 0
theorem ssaL_drop {l : List LFunc} {k : Nat} (hk : k ≤ l.length) (h : ∀ j X,j < k→l[j]? = some X→wrongF X = 0) : ssaL l 0 = ssaL (l.drop k) k:=by
 have key : ∀ (k : Nat) (l : List LFunc) (i : Nat),k ≤ l.length→(∀ j X,j < k→l[j]? = some X→wrongF X = 0)→ssaL l i = ssaL (l.drop k) (i + k):=by
  intro k
  induction k with
  | zero=>intro l i _ _; rfl
  | succ k ih =>
   intro l i hk h
   cases l with
   | nil=>simp at hk
   | cons X l =>
    have h1:=h 0 X (by omega) rfl
    rw [List.drop_succ_cons]
    rw [show i + (k + 1) = i + 1 + k by omega,← ih l (i + 1) (by simpa using hk) fun j Y hj hY=>h (j + 1) Y (by omega) (by simpa using hY)]
    unfold ssaL
    rw [if_neg (by simp [h1])]
    cases l <;> rfl
 have:=key k l 0 hk h
 rwa [Nat.zero_add] at this
theorem ssaL_at {l : List LFunc} {k : Nat} {X : LFunc} (hX : l[k]? = some X) (h : ∀ j Y,j < k→l[j]? = some Y→wrongF Y = 0) : ssaL l 0 = if wrongF X ≠ 0 then (wrongF X,(k : Int)) else ssaL (l.drop (k + 1)) (k + 1):=by
 obtain ⟨hk,e⟩:=List.getElem?_eq_some_iff.1 hX
 rw [ssaL_drop (Nat.le_of_lt hk) h,List.drop_eq_getElem_cons hk,e]
 rfl
theorem ssaCheck_c (u : LUnit) (hl : light u) (g fs : Value) (w0 : World) (hg : SlAt w0 g 3 u.globals GlobalV) (hf : SlAt w0 fs 4 u.funcs FuncV) (hways : CellsAt w0 0 0 waysC) :
  RetV Tryd.prog 5 [.agg #[g,fs]] w0 (.agg #[.int .i64 (ssaF u).1,.int .i64 (ssaF u).2]):=by
 have hg0:=hg
 have hf0:=hf
 obtain ⟨ga,gn,gc,gb,go,rfl,_⟩:=hg
 obtain ⟨fa,fn,fc,fb,fo,rfl,hfn,hfnc,hfnb,hfc,hfa,hfel⟩:=hf
 refine ret_enter Tryd.func5 rfl Tryd.ntmps5 rfl (Wd.nil NoS w0) ?_
 repeat (first|refine g_op rfl ?_|refine g_then ?_|refine g_nil ?_|refine g_region ?_|refine g_seq ?_|refine g_box rfl fun _ _=>?_|refine g_alloc rfl fun _ _=>?_)
 rename_i p1 _ p2 _
 refine g_callV rfl (fun w hw=>check_c u hl _ _ w (hg0.keep keeps_global hw.chg) (hf0.keep keeps_func hw.chg) (hways.keep hw.chg)) ?_
 by_cases hbad : (checkL u).1 ≠ 0
 ·rw [show ssaF u = checkL u from if_pos hbad]
  repeat (first|refine g_op rfl ?_|refine g_then ?_|refine g_nil ?_|refine g_region ?_|refine g_seq ?_|refine g_alloc rfl fun _ _=>?_|refine g_storeAgg ?_)
  refine g_cond (fun h1=>?_) (fun h1=>?_)
  ·repeat (first|refine g_op rfl ?_|refine g_then ?_|refine g_nil ?_|refine g_region ?_|refine g_seq ?_|refine g_storeAgg ?_|refine g_ret ?_|refine g_thenRet ?_)
   exact g_retC rfl fun _ hw=>⟨rfl,hw.chg⟩
  ·simp at h1
   omega
 have hch : (checkL u).1 = 0:=by simpa using hbad
 rw [show ssaF u = ssaL u.funcs 0 from if_neg hbad,checkL_zero hch]
 repeat (first|refine g_op rfl ?_|refine g_then ?_|refine g_nil ?_|refine g_region ?_|refine g_seq ?_|refine g_alloc rfl fun _ _=>?_|refine g_storeAgg ?_|refine g_block ?_|refine g_skip ?_|refine g_condF ?_)
 rename_i p3 _
 refine g_loop (fun (k : Nat)=>k ≤ fn∧∀ j X,j < k→u.funcs[j]? = some X→wrongF X = 0) (fun k=>[(16,.int .i64 k),(15,.int .i64 fn),(14,.slice fa fn fc),(2,.pointer (some ⟨p2,0,none⟩))]) (fun _=>[Ent.box p2 [.int .i64 0,.int .i64 0] 28]) (fun k=>fn - k) 0 ⟨Nat.zero_le _,fun _ _ h=>absurd h (Nat.not_lt_zero _)⟩ (g_done (by repeat (first|exact trivial|refine ⟨rfl,?_⟩)) (.cons _ (.cons_cons _ (List.nil_sublist _)))) fun k ⟨hk,hall⟩=>?_
 repeat (first|refine g_op rfl ?_|refine g_then ?_|refine g_nil ?_|refine g_region ?_|refine g_seq ?_)
 refine g_cond (fun h1=>?_) (fun h1=>?_)
 case refine_2 =>
  have hke : k = fn:=by have:=h1; simp at this; omega
  have hz : ssaL u.funcs 0 = (0,0):=by
   rw [ssaL_drop (k:=k) (by omega) hall,List.drop_eq_nil_of_le (by omega)]
   rfl
  rw [hz]
  repeat (first|refine g_op rfl ?_|refine g_then ?_|refine g_nil ?_|refine g_region ?_|refine g_seq ?_|refine g_storeAgg ?_|refine g_exit ?_|refine g_thenExit ?_|refine g_exitHere ?_|refine g_ret ?_)
  exact g_retC rfl fun _ hw=>⟨rfl,hw.chg⟩
 have hlt : k < fn:=by simpa using h1
 obtain ⟨X,hX⟩ : ∃ X,u.funcs[k]? = some X:=⟨_,List.getElem?_eq_getElem (by omega)⟩
 have had : AddrIs fa fb fo:=⟨hfa (ne_of_get hX)⟩
 have hli : LtIs k fn:=⟨hlt⟩
 obtain ⟨cs,hcs,bv,rfl,hpi,hri,hbv⟩:=hfel k X hX
 have hci : CellsIs w0 fb (fo + k * 4) _:=⟨hcs⟩
 have hbv0:=hbv
 obtain ⟨ba,bn,bc,_,_,rfl,hbn,_⟩:=hbv
 have hhd:=check_head hch hX
 have hpos:=check_pos hch hX
 have hargs:=check_args hch hX
 have hl24:=(hl.2 X (List.mem_of_getElem? hX)).1
 obtain ⟨R,hXR,hR,hfo⟩:=check_func hch hX
 obtain ⟨n,hXn⟩ : ∃ n : Nat,X.params = n:=⟨X.params.toNat,by omega⟩
 have hwf : wrongF X = wrongL n R X.blocks:=by unfold wrongF; rw [hXn,hXR]; rfl
 rw [ssaL_at hX hall]
 rw [hXn,hXR] at hci
 repeat (first|refine g_op rfl ?_|refine g_then ?_|refine g_nil ?_|refine g_region ?_|refine g_seq ?_|refine g_alloc rfl fun _ _=>?_|refine g_storeAgg ?_|refine g_block ?_|refine g_skip ?_)
 refine g_callV rfl (fun w hw=>checkOf_c X.name n R X.blocks _ w (hbv0.keep keeps_block hw.chg) (by omega) hR hfo (by omega) hpos fun B hB x hx=>Nat.le_trans (hargs B hB x hx) (by decide)) ?_
 rw [← hwf]
 repeat (first|refine g_op rfl ?_|refine g_then ?_|refine g_nil ?_|refine g_region ?_|refine g_seq ?_)
 refine g_cond (fun h2=>?_) (fun h2=>?_)
 ·have hne : wrongF X ≠ 0:=by simpa using h2
  rw [if_pos hne]
  repeat (first|refine g_op rfl ?_|refine g_region ?_|refine g_seq ?_)
  refine g_callV rfl (fun w hw=>fault_c (wrongF X) (k : Int) w) ?_
  repeat (first|refine g_then ?_|refine g_nil ?_|refine g_storeAgg ?_|refine g_ret ?_|refine g_thenRet ?_|refine g_blockRet ?_)
  exact g_retC rfl fun _ hw=>⟨rfl,hw.chg⟩
 ·have he : wrongF X = 0:=by simpa using h2
  rw [if_neg (by simp [he])]
  repeat (first|refine g_then ?_|refine g_nil ?_|refine g_region ?_|refine g_opS rfl ?_|refine g_inBlock ?_|refine g_skip ?_|refine g_add rfl (by omega) (by omega) ?_)
  exact g_next (k + 1) ⟨hlt,fun j Y hj hY=>by
   by_cases e : j = k
   ·subst e
    rw [hX] at hY
    obtain rfl:=Option.some.inj hY
    exact he
   ·exact hall j Y (by omega) hY⟩ (by omega) (by repeat (first|exact trivial|refine ⟨rfl,?_⟩)) (by first|exact List.Sublist.refl _|exact .cons _ (.refl _))
end Go.Proofs.YtdbljcahlpkgdaaDoor
