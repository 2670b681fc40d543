/- Texts joined: Pass Sim Agree SwapP Same Many. -/
import Derived.Test.YtdbljcahlpkgdaaGreatDoorGC
import Derived.Test.YtdbljcahlpkgdaaGreatDoorGE
import Derived.Test.YtdbljcahlpkgdaaGreatDoorGF
import Derived.Test.YtdbljcahlpkgdaaGreatDoorHA
import Derived.Test.YtdbljcahlpkgdaaGreatDoorHI
import Derived.Test.YtdbljcahlpkgdaaGreatDoorHK
namespace Go.Proofs.YtdbljcahlpkgdaaGreatDoor
open Go Go.RowKit
structure FnTo (fs : List LFunc) (X Y : LFunc) : Prop where
 name : Y.name = X.name
 params : Y.params = X.params
 regs : Y.params ≤ Y.regs∧Y.regs ≤ 100
 many : 1 ≤ Y.blocks.length∧Y.blocks.length ≤ 40
 size : sizeOfBs Y.blocks ≤ 300
 body : BodyOk fs Y
theorem FnTo.same {u : LUnit} (h : CheckOk u) {i : Nat} {X : LFunc} (hX : u.funcs[i]? = some X) : FnTo u.funcs X X:=by
 have h0:=h.head i (List.getElem?_eq_some_iff.1 hX).1
 unfold headAt at0 at h0
 rw [hX] at h0
 obtain ⟨_,_,_,h4,h5,h6⟩:=head_zero.1 h0
 exact ⟨rfl,rfl,h4,by omega,h6,h.body X (List.mem_of_getElem? hX)⟩
end Go.Proofs.YtdbljcahlpkgdaaGreatDoor
namespace Go.Proofs.YtdbljcahlpkgdaaGreatDoor
open Go Go.RowKit
attribute [local irreducible] wpListIn Code.wpIn Exit.then Exit.inBlock bodyPost wpQuiet wpAnyIn wpAnyH bodyPostM
set_option maxHeartbeats 4000000
theorem dec_self (a : Int) : decide (a = a) = true:=by simp
theorem valsSame_c (a b : Value) (l : List LVal) (w0 : World) (ha : SlAt w0 a 2 l ValV) (hb : SlAt w0 b 2 l ValV) : RetV Tryz.prog 80 [a,b] w0 (.bool true):=by
 obtain ⟨aa,an,ac,ab,ao,rfl,rfl,_,_,_,haa,hael⟩:=ha
 obtain ⟨ba,bn,bc,bb,bo,rfl,rfl,_,_,_,hba,hbel⟩:=hb
 refine ret_enter Tryz.func80 rfl Tryz.ntmps80 rfl (Wd.nil NoS w0) ?_
 repeat (first|refine g_op rfl ?_|refine g_then ?_|refine g_nil ?_|refine g_region ?_|refine g_seq ?_)
 rw [dec_self]
 repeat (first|refine g_op rfl ?_|refine g_then ?_|refine g_nil ?_|refine g_region ?_|refine g_seq ?_|refine g_block ?_|refine g_skip ?_|refine g_condF ?_)
 refine g_loop (fun (i : Nat)=>i ≤ l.length) (fun i=>[(5,.int .i64 i),(0,.slice aa l.length ac),(1,.slice ba l.length bc)]) (fun _=>[]) (fun i=>l.length - i) 0 (Nat.zero_le _) (g_done (by repeat (first|exact trivial|refine ⟨rfl,?_⟩)) (by simp)) fun i hi=>?_
 repeat (first|refine g_op rfl ?_|refine g_then ?_|refine g_nil ?_|refine g_region ?_|refine g_seq ?_)
 refine g_cond (fun h2=>?_) (fun h2=>?_)
 ·have hlt : i < l.length:=by simpa using h2
  obtain ⟨x,hx⟩ : ∃ x,l[i]? = some x:=⟨_,List.getElem?_eq_getElem hlt⟩
  have had : AddrIs aa ab ao:=⟨haa (ne_of_get hx)⟩
  have hbd : AddrIs ba bb bo:=⟨hba (ne_of_get hx)⟩
  have hli : LtIs i l.length:=⟨hlt⟩
  obtain ⟨_,hcs,rfl,_⟩:=hael i x hx
  obtain ⟨_,hcs2,rfl,_⟩:=hbel i x hx
  have hci : CellsIs w0 ab (ao + i * 2) _:=⟨hcs⟩
  have hcj : CellsIs w0 bb (bo + i * 2) _:=⟨hcs2⟩
  repeat (first|refine g_then ?_|refine g_seq ?_|refine g_block ?_|refine g_skip ?_)
  refine g_draw mixed (by kernel_rfl) ?_
  repeat (first|refine q_op rfl ?_|refine q_nil ?_)
  rw [dec_self,beq_self_eq_true,Bool.and_self]
  repeat (first|refine g_op rfl ?_|refine g_then ?_|refine g_nil ?_|refine g_region ?_|refine g_opS rfl ?_|refine g_inBlock ?_|refine g_skip ?_|refine g_condF ?_|refine g_add rfl (by omega) (by omega) ?_)
  rw [show (i : Int) + 1 = ((i + 1 : Nat) : Int) by omega]
  refine g_next (i + 1) hlt (by omega) (by repeat (first|exact trivial|refine ⟨rfl,?_⟩)) (.refl _)
 repeat (first|refine g_op rfl ?_|refine g_then ?_|refine g_nil ?_|refine g_region ?_|refine g_seq ?_|refine g_exit ?_|refine g_thenExit ?_|refine g_exitHere ?_|refine g_ret ?_)
 exact g_retV rfl rfl
theorem insSame_c (x : LIns) (va vb : Value) (w0 : World) (ha : SlAt w0 va 2 x.args ValV) (hb : SlAt w0 vb 2 x.args ValV) :
  RetV Tryz.prog 81 [.agg #[.int .i64 x.op,.int .i64 x.dst,.bool x.a.reg,.int .i64 x.a.n,.bool x.b.reg,.int .i64 x.b.n,.int .i64 x.fn,va],.agg #[.int .i64 x.op,.int .i64 x.dst,.bool x.a.reg,.int .i64 x.a.n,.bool x.b.reg,.int .i64 x.b.n,.int .i64 x.fn,vb]] w0 (.bool true):=by
 have ha0:=ha
 have hb0:=hb
 obtain ⟨aa,an,ac,_,_,rfl,_⟩:=ha
 obtain ⟨ba,bn,bc,_,_,rfl,_⟩:=hb
 refine ret_enter Tryz.func81 rfl Tryz.ntmps81 rfl (Wd.nil NoS w0) ?_
 repeat (first|refine g_op rfl ?_|refine g_then ?_|refine g_nil ?_|refine g_region ?_|refine g_seq ?_|refine g_box rfl fun _ _=>?_)
 rw [dec_self]
 repeat (first|refine g_op rfl ?_|refine g_open ?_)
 rw [dec_self]
 repeat (first|refine g_op rfl ?_|refine g_open ?_)
 rw [dec_self,beq_self_eq_true,Bool.and_self]
 repeat (first|refine g_op rfl ?_|refine g_open ?_)
 rw [dec_self,beq_self_eq_true,Bool.and_self]
 repeat (first|refine g_op rfl ?_|refine g_open ?_)
 rw [dec_self]
 repeat (first|refine g_op rfl ?_|refine g_open ?_)
 refine g_callV rfl (fun w hw=>valsSame_c _ _ x.args w (ha0.keep keeps_val hw.chg) (hb0.keep keeps_val hw.chg)) ?_
 repeat (first|refine g_op rfl ?_|refine g_then ?_|refine g_nil ?_|refine g_opS rfl ?_|refine g_ret ?_)
 exact g_retV rfl rfl
theorem blockSame_c (p l t p2 l2 t2 : Value) (B : LBlock) (w0 : World) (hp : SlAt w0 p 2 B.phis PhiV) (hl : SlAt w0 l 8 B.list InsV) (ht : SlAt w0 t 1 B.to IntV) (hp2 : SlAt w0 p2 2 B.phis PhiV) (hl2 : SlAt w0 l2 8 B.list InsV) (ht2 : SlAt w0 t2 1 B.to IntV) :
  RetV Tryz.prog 53 [.agg #[p,l,.int .i64 B.kind,.bool B.on.reg,.int .i64 B.on.n,t],.agg #[p2,l2,.int .i64 B.kind,.bool B.on.reg,.int .i64 B.on.n,t2]] w0 (.bool true):=by
 have ht0:=ht
 have ht20:=ht2
 obtain ⟨pa,pn,pc,pb,po,rfl,rfl,_,_,_,hpa,hpel⟩:=hp
 obtain ⟨qa,qn,qc,qb,qo,rfl,rfl,_,_,_,hqa,hqel⟩:=hp2
 obtain ⟨la,ln,lc,lb,lo,rfl,rfl,_,_,_,hla,hlel⟩:=hl
 obtain ⟨ma,mn,mc,mb,mo,rfl,rfl,_,_,_,hma,hmel⟩:=hl2
 obtain ⟨ta,tn,tc,_,_,rfl,_⟩:=ht
 obtain ⟨ua,un,uc,_,_,rfl,_⟩:=ht2
 refine ret_enter Tryz.func53 rfl Tryz.ntmps53 rfl (Wd.nil NoS w0) ?_
 repeat (first|refine g_op rfl ?_|refine g_then ?_|refine g_nil ?_|refine g_region ?_|refine g_seq ?_|refine g_box rfl fun _ _=>?_)
 rename_i p2 _ p3 _
 rw [dec_self,Bool.not_true]
 repeat (first|refine g_op rfl ?_|refine g_then ?_|refine g_nil ?_|refine g_open ?_)
 rw [dec_self,Bool.not_true]
 repeat (first|refine g_op rfl ?_|refine g_then ?_|refine g_nil ?_|refine g_region ?_|refine g_seq ?_|refine g_block ?_|refine g_skip ?_|refine g_condF ?_)
 refine g_loop (fun (i : Nat)=>i ≤ B.phis.length) (fun i=>[(5,.int .i64 i),(2,.pointer (some ⟨p2,0,none⟩)),(3,.pointer (some ⟨p3,0,none⟩))]) (fun _=>[Ent.box p3 [.slice qa B.phis.length qc,.slice ma B.list.length mc,.int .i64 B.kind,.bool B.on.reg,.int .i64 B.on.n,.slice ua un uc] 52,Ent.box p2 [.slice pa B.phis.length pc,.slice la B.list.length lc,.int .i64 B.kind,.bool B.on.reg,.int .i64 B.on.n,.slice ta tn tc] 52]) (fun i=>B.phis.length - i) 0 (Nat.zero_le _) (g_done (by repeat (first|exact trivial|refine ⟨rfl,?_⟩)) (by simp)) fun i hi=>?_
 repeat (first|refine g_op rfl ?_|refine g_then ?_|refine g_nil ?_|refine g_region ?_|refine g_seq ?_)
 refine g_cond (fun h2=>?_) (fun h2=>?_)
 ·have hlt : i < B.phis.length:=by simpa using h2
  obtain ⟨x,hx⟩ : ∃ x,B.phis[i]? = some x:=⟨_,List.getElem?_eq_getElem hlt⟩
  have had : AddrIs pa pb po:=⟨hpa (ne_of_get hx)⟩
  have hbd : AddrIs qa qb qo:=⟨hqa (ne_of_get hx)⟩
  have hli : LtIs i B.phis.length:=⟨hlt⟩
  obtain ⟨_,hcs,v1,rfl,_,hv1⟩:=hpel i x hx
  obtain ⟨_,hcs2,v2,rfl,_,hv2⟩:=hqel i x hx
  have hv10:=hv1
  have hv20:=hv2
  obtain ⟨_,_,_,_,_,rfl,_⟩:=hv1
  obtain ⟨_,_,_,_,_,rfl,_⟩:=hv2
  have hci : CellsIs w0 pb (po + i * 2) _:=⟨hcs⟩
  have hcj : CellsIs w0 qb (qo + i * 2) _:=⟨hcs2⟩
  repeat (first|refine g_then ?_|refine g_seq ?_|refine g_block ?_|refine g_skip ?_)
  refine g_draw mixed (by kernel_rfl) ?_
  repeat (refine q_op rfl ?_)
  rw [dec_self,Bool.not_true]
  repeat (first|refine q_op rfl ?_|refine q_open ?_)
  refine q_call rfl (fun w hw=>valsSame_c _ _ x.src w (hv10.keep keeps_val hw.chg) (hv20.keep keeps_val hw.chg)) ?_
  repeat (first|refine q_op rfl ?_|refine q_open ?_|refine q_nil ?_)
  repeat (first|refine g_op rfl ?_|refine g_then ?_|refine g_nil ?_|refine g_region ?_|refine g_opS rfl ?_|refine g_inBlock ?_|refine g_skip ?_|refine g_condF ?_|refine g_add rfl (by omega) (by omega) ?_)
  rw [show (i : Int) + 1 = ((i + 1 : Nat) : Int) by omega]
  refine g_next (i + 1) hlt (by omega) (by repeat (first|exact trivial|refine ⟨rfl,?_⟩)) (.refl _)
 repeat (first|refine g_op rfl ?_|refine g_then ?_|refine g_nil ?_|refine g_region ?_|refine g_seq ?_|refine g_block ?_|refine g_exit ?_|refine g_thenExit ?_|refine g_exitHere ?_)
 refine g_loop (fun (i : Nat)=>i ≤ B.list.length) (fun i=>[(6,.int .i64 i),(2,.pointer (some ⟨p2,0,none⟩)),(3,.pointer (some ⟨p3,0,none⟩))]) (fun _=>[Ent.box p3 [.slice qa B.phis.length qc,.slice ma B.list.length mc,.int .i64 B.kind,.bool B.on.reg,.int .i64 B.on.n,.slice ua un uc] 52,Ent.box p2 [.slice pa B.phis.length pc,.slice la B.list.length lc,.int .i64 B.kind,.bool B.on.reg,.int .i64 B.on.n,.slice ta tn tc] 52]) (fun i=>B.list.length - i) 0 (Nat.zero_le _) (g_done (by repeat (first|exact trivial|refine ⟨rfl,?_⟩)) (by simp)) fun i hi=>?_
 repeat (first|refine g_op rfl ?_|refine g_then ?_|refine g_nil ?_|refine g_region ?_|refine g_seq ?_)
 refine g_cond (fun h3=>?_) (fun h3=>?_)
 ·have hlt : i < B.list.length:=by simpa using h3
  obtain ⟨x,hx⟩ : ∃ x,B.list[i]? = some x:=⟨_,List.getElem?_eq_getElem hlt⟩
  have had : AddrIs la lb lo:=⟨hla (ne_of_get hx)⟩
  have hbd : AddrIs ma mb mo:=⟨hma (ne_of_get hx)⟩
  have hli : LtIs i B.list.length:=⟨hlt⟩
  obtain ⟨_,hcs,v1,rfl,_,_,_,_,_,hv1⟩:=hlel i x hx
  obtain ⟨_,hcs2,v2,rfl,_,_,_,_,_,hv2⟩:=hmel i x hx
  have hci : CellsIs w0 lb (lo + i * 8) _:=⟨hcs⟩
  have hcj : CellsIs w0 mb (mo + i * 8) _:=⟨hcs2⟩
  repeat (first|refine g_then ?_|refine g_seq ?_|refine g_block ?_|refine g_skip ?_)
  refine g_draw mixed (by kernel_rfl) ?_
  repeat (refine q_op rfl ?_)
  refine q_call rfl (fun w hw=>insSame_c x _ _ w (hv1.keep keeps_val hw.chg) (hv2.keep keeps_val hw.chg)) ?_
  repeat (first|refine q_op rfl ?_|refine q_nil ?_)
  repeat (first|refine g_op rfl ?_|refine g_then ?_|refine g_nil ?_|refine g_region ?_|refine g_opS rfl ?_|refine g_inBlock ?_|refine g_skip ?_|refine g_condF ?_|refine g_add rfl (by omega) (by omega) ?_)
  rw [show (i : Int) + 1 = ((i + 1 : Nat) : Int) by omega]
  refine g_next (i + 1) hlt (by omega) (by repeat (first|exact trivial|refine ⟨rfl,?_⟩)) (.refl _)
 repeat (first|refine g_op rfl ?_|refine g_then ?_|refine g_region ?_|refine g_seq ?_|refine g_exit ?_|refine g_thenExit ?_|refine g_exitHere ?_)
 rw [dec_self]
 repeat (first|refine g_op rfl ?_|refine g_open ?_)
 rw [dec_self,beq_self_eq_true,Bool.and_self]
 repeat (first|refine g_op rfl ?_|refine g_open ?_)
 refine g_callV rfl (fun w hw=>ints_c _ _ B.to B.to w (ht0.keep keeps_int hw.chg) (ht20.keep keeps_int hw.chg)) ?_
 rw [show decide (B.to = B.to) = true by simp]
 repeat (first|refine g_op rfl ?_|refine g_then ?_|refine g_nil ?_|refine g_ret ?_)
 exact g_retV rfl rfl
theorem funcSame_c (nm : ByteArray) (pa re : Int) (bl : List LBlock) (v v2 : Value) (w0 : World) (hv : SlAt w0 v 6 bl BlockV) (hv2 : SlAt w0 v2 6 bl BlockV) :
  RetV Tryz.prog 31 [.agg #[.string nm,.int .i64 pa,.int .i64 re,v],.agg #[.string nm,.int .i64 pa,.int .i64 re,v2]] w0 (.bool true):=by
 obtain ⟨la,ln,lc,lb,lo,rfl,rfl,_,_,_,hla,hlel⟩:=hv
 obtain ⟨ma,mn,mc,mb,mo,rfl,rfl,_,_,_,hma,hmel⟩:=hv2
 refine ret_enter Tryz.func31 rfl Tryz.ntmps31 rfl (Wd.nil NoS w0) ?_
 repeat (first|refine g_op rfl ?_|refine g_then ?_|refine g_nil ?_|refine g_region ?_|refine g_seq ?_|refine g_box rfl fun _ _=>?_)
 rename_i p2 _ p3 _
 rw [show (!(nm.toList == nm.toList)) = false by simp]
 repeat (first|refine g_op rfl ?_|refine g_open ?_)
 rw [dec_self,Bool.not_true]
 repeat (first|refine g_op rfl ?_|refine g_open ?_)
 rw [dec_self,Bool.not_true]
 repeat (first|refine g_op rfl ?_|refine g_then ?_|refine g_nil ?_|refine g_open ?_)
 rw [dec_self,Bool.not_true]
 repeat (first|refine g_op rfl ?_|refine g_then ?_|refine g_nil ?_|refine g_region ?_|refine g_seq ?_|refine g_block ?_|refine g_skip ?_|refine g_condF ?_)
 refine g_loop (fun (i : Nat)=>i ≤ bl.length) (fun i=>[(5,.int .i64 i),(2,.pointer (some ⟨p2,0,none⟩)),(3,.pointer (some ⟨p3,0,none⟩))]) (fun _=>[Ent.box p3 [.string nm,.int .i64 pa,.int .i64 re,.slice ma bl.length mc] 35,Ent.box p2 [.string nm,.int .i64 pa,.int .i64 re,.slice la bl.length lc] 35]) (fun i=>bl.length - i) 0 (Nat.zero_le _) (g_done (by repeat (first|exact trivial|refine ⟨rfl,?_⟩)) (by simp)) fun i hi=>?_
 repeat (first|refine g_op rfl ?_|refine g_then ?_|refine g_nil ?_|refine g_region ?_|refine g_seq ?_)
 refine g_cond (fun h2=>?_) (fun h2=>?_)
 ·have hlt : i < bl.length:=by simpa using h2
  obtain ⟨x,hx⟩ : ∃ x,bl[i]? = some x:=⟨_,List.getElem?_eq_getElem hlt⟩
  have had : AddrIs la lb lo:=⟨hla (ne_of_get hx)⟩
  have hbd : AddrIs ma mb mo:=⟨hma (ne_of_get hx)⟩
  have hli : LtIs i bl.length:=⟨hlt⟩
  obtain ⟨_,hcs,p1,l1,t1,rfl,_,_,h11,h12,h13⟩:=hlel i x hx
  obtain ⟨_,hcs2,p4,l4,t4,rfl,_,_,h41,h42,h43⟩:=hmel i x hx
  have hci : CellsIs w0 lb (lo + i * 6) _:=⟨hcs⟩
  have hcj : CellsIs w0 mb (mo + i * 6) _:=⟨hcs2⟩
  repeat (first|refine g_then ?_|refine g_seq ?_|refine g_block ?_|refine g_skip ?_)
  refine g_draw mixed (by kernel_rfl) ?_
  repeat (refine q_op rfl ?_)
  refine q_call rfl (fun w hw=>blockSame_c _ _ _ _ _ _ x w (h11.keep keeps_phi hw.chg) (h12.keep keeps_ins hw.chg) (h13.keep keeps_int hw.chg) (h41.keep keeps_phi hw.chg) (h42.keep keeps_ins hw.chg) (h43.keep keeps_int hw.chg)) ?_
  repeat (first|refine q_op rfl ?_|refine q_nil ?_)
  repeat (first|refine g_op rfl ?_|refine g_then ?_|refine g_nil ?_|refine g_region ?_|refine g_opS rfl ?_|refine g_inBlock ?_|refine g_skip ?_|refine g_condF ?_|refine g_add rfl (by omega) (by omega) ?_)
  rw [show (i : Int) + 1 = ((i + 1 : Nat) : Int) by omega]
  refine g_next (i + 1) hlt (by omega) (by repeat (first|exact trivial|refine ⟨rfl,?_⟩)) (.refl _)
 repeat (first|refine g_op rfl ?_|refine g_then ?_|refine g_nil ?_|refine g_region ?_|refine g_seq ?_|refine g_exit ?_|refine g_thenExit ?_|refine g_exitHere ?_|refine g_ret ?_)
 exact g_retV rfl rfl
theorem globalsSame_c (v v2 : Value) (gl : List LGlobal) (w0 : World) (hv : SlAt w0 v 3 gl GlobalV) (hv2 : SlAt w0 v2 3 gl GlobalV) :
  RetV Tryz.prog 30 [v,v2] w0 (.bool true):=by
 obtain ⟨la,ln,lc,lb,lo,rfl,rfl,_,_,_,hla,hlel⟩:=hv
 obtain ⟨ma,mn,mc,mb,mo,rfl,rfl,_,_,_,hma,hmel⟩:=hv2
 refine ret_enter Tryz.func30 rfl Tryz.ntmps30 rfl (Wd.nil NoS w0) ?_
 repeat (first|refine g_op rfl ?_|refine g_then ?_|refine g_nil ?_|refine g_region ?_|refine g_seq ?_)
 rw [dec_self]
 repeat (first|refine g_op rfl ?_|refine g_then ?_|refine g_nil ?_|refine g_region ?_|refine g_seq ?_|refine g_block ?_|refine g_skip ?_|refine g_condF ?_)
 refine g_loop (fun (i : Nat)=>i ≤ gl.length) (fun i=>[(5,.int .i64 i),(0,.slice la gl.length lc),(1,.slice ma gl.length mc)]) (fun _=>[]) (fun i=>gl.length - i) 0 (Nat.zero_le _) (g_done (by repeat (first|exact trivial|refine ⟨rfl,?_⟩)) (by simp)) fun i hi=>?_
 repeat (first|refine g_op rfl ?_|refine g_then ?_|refine g_nil ?_|refine g_region ?_|refine g_seq ?_)
 refine g_cond (fun h2=>?_) (fun h2=>?_)
 ·have hlt : i < gl.length:=by simpa using h2
  obtain ⟨x,hx⟩ : ∃ x,gl[i]? = some x:=⟨_,List.getElem?_eq_getElem hlt⟩
  have had : AddrIs la lb lo:=⟨hla (ne_of_get hx)⟩
  have hbd : AddrIs ma mb mo:=⟨hma (ne_of_get hx)⟩
  have hli : LtIs i gl.length:=⟨hlt⟩
  obtain ⟨_,hcs,v1,rfl,_,h11⟩:=hlel i x hx
  obtain ⟨_,hcs2,v4,rfl,_,h41⟩:=hmel i x hx
  have h110:=h11
  have h410:=h41
  obtain ⟨_,_,_,_,_,rfl,_⟩:=h11
  obtain ⟨_,_,_,_,_,rfl,_⟩:=h41
  have hci : CellsIs w0 lb (lo + i * 3) _:=⟨hcs⟩
  have hcj : CellsIs w0 mb (mo + i * 3) _:=⟨hcs2⟩
  repeat (first|refine g_then ?_|refine g_seq ?_|refine g_block ?_|refine g_skip ?_)
  refine g_draw mixed (by kernel_rfl) ?_
  repeat (refine q_op rfl ?_)
  rw [show (!(x.name.toList == x.name.toList)) = false by simp]
  repeat (first|refine q_op rfl ?_|refine q_open ?_)
  rw [dec_self,Bool.not_true]
  repeat (first|refine q_op rfl ?_|refine q_open ?_)
  refine q_call rfl (fun w hw=>ints_c _ _ x.init x.init w (h110.keep keeps_int hw.chg) (h410.keep keeps_int hw.chg)) ?_
  rw [show decide (x.init = x.init) = true by simp]
  repeat (first|refine q_op rfl ?_|refine q_open ?_|refine q_nil ?_)
  repeat (first|refine g_op rfl ?_|refine g_then ?_|refine g_nil ?_|refine g_region ?_|refine g_opS rfl ?_|refine g_inBlock ?_|refine g_skip ?_|refine g_condF ?_|refine g_add rfl (by omega) (by omega) ?_)
  rw [show (i : Int) + 1 = ((i + 1 : Nat) : Int) by omega]
  refine g_next (i + 1) hlt (by omega) (by repeat (first|exact trivial|refine ⟨rfl,?_⟩)) (.refl _)
 repeat (first|refine g_op rfl ?_|refine g_then ?_|refine g_nil ?_|refine g_region ?_|refine g_seq ?_|refine g_exit ?_|refine g_thenExit ?_|refine g_exitHere ?_|refine g_ret ?_)
 exact g_retV rfl rfl
theorem unitsSame_c (g f g2 f2 : Value) (u : LUnit) (w0 : World) (hg : SlAt w0 g 3 u.globals GlobalV) (hf : SlAt w0 f 4 u.funcs FuncV) (hg2 : SlAt w0 g2 3 u.globals GlobalV) (hf2 : SlAt w0 f2 4 u.funcs FuncV) :
  RetV Tryz.prog 12 [.agg #[g,f],.agg #[g2,f2]] w0 (.bool true):=by
 have hg0:=hg
 have hg20:=hg2
 obtain ⟨ga,gn,gc,_,_,rfl,_⟩:=hg
 obtain ⟨ha,hn,hc,_,_,rfl,_⟩:=hg2
 obtain ⟨la,ln,lc,lb,lo,rfl,rfl,_,_,_,hla,hlel⟩:=hf
 obtain ⟨ma,mn,mc,mb,mo,rfl,rfl,_,_,_,hma,hmel⟩:=hf2
 refine ret_enter Tryz.func12 rfl Tryz.ntmps12 rfl (Wd.nil NoS w0) ?_
 repeat (first|refine g_op rfl ?_|refine g_then ?_|refine g_nil ?_|refine g_region ?_|refine g_seq ?_|refine g_box rfl fun _ _=>?_)
 rename_i p2 _ p3 _
 refine g_callV rfl (fun w hw=>globalsSame_c _ _ u.globals w (hg0.keep keeps_global hw.chg) (hg20.keep keeps_global hw.chg)) ?_
 repeat (first|refine g_op rfl ?_|refine g_then ?_|refine g_nil ?_|refine g_open ?_)
 rw [dec_self]
 repeat (first|refine g_op rfl ?_|refine g_then ?_|refine g_nil ?_|refine g_region ?_|refine g_seq ?_|refine g_block ?_|refine g_skip ?_|refine g_condF ?_)
 refine g_loop (fun (i : Nat)=>i ≤ u.funcs.length) (fun i=>[(5,.int .i64 i),(2,.pointer (some ⟨p2,0,none⟩)),(3,.pointer (some ⟨p3,0,none⟩))]) (fun _=>[Ent.box p3 [.slice ha hn hc,.slice ma u.funcs.length mc] 25,Ent.box p2 [.slice ga gn gc,.slice la u.funcs.length lc] 25]) (fun i=>u.funcs.length - i) 0 (Nat.zero_le _) (g_done (by repeat (first|exact trivial|refine ⟨rfl,?_⟩)) (by simp)) fun i hi=>?_
 repeat (first|refine g_op rfl ?_|refine g_then ?_|refine g_nil ?_|refine g_region ?_|refine g_seq ?_)
 refine g_cond (fun h2=>?_) (fun h2=>?_)
 ·have hlt : i < u.funcs.length:=by simpa using h2
  obtain ⟨x,hx⟩ : ∃ x,u.funcs[i]? = some x:=⟨_,List.getElem?_eq_getElem hlt⟩
  have had : AddrIs la lb lo:=⟨hla (ne_of_get hx)⟩
  have hbd : AddrIs ma mb mo:=⟨hma (ne_of_get hx)⟩
  have hli : LtIs i u.funcs.length:=⟨hlt⟩
  obtain ⟨_,hcs,v1,rfl,_,_,h11⟩:=hlel i x hx
  obtain ⟨_,hcs2,v4,rfl,_,_,h41⟩:=hmel i x hx
  have hci : CellsIs w0 lb (lo + i * 4) _:=⟨hcs⟩
  have hcj : CellsIs w0 mb (mo + i * 4) _:=⟨hcs2⟩
  repeat (first|refine g_then ?_|refine g_seq ?_|refine g_block ?_|refine g_skip ?_)
  refine g_draw mixed (by kernel_rfl) ?_
  repeat (refine q_op rfl ?_)
  refine q_call rfl (fun w hw=>funcSame_c _ _ _ x.blocks _ _ w (h11.keep keeps_block hw.chg) (h41.keep keeps_block hw.chg)) ?_
  repeat (first|refine q_op rfl ?_|refine q_nil ?_)
  repeat (first|refine g_op rfl ?_|refine g_then ?_|refine g_nil ?_|refine g_region ?_|refine g_opS rfl ?_|refine g_inBlock ?_|refine g_skip ?_|refine g_condF ?_|refine g_add rfl (by omega) (by omega) ?_)
  rw [show (i : Int) + 1 = ((i + 1 : Nat) : Int) by omega]
  refine g_next (i + 1) hlt (by omega) (by repeat (first|exact trivial|refine ⟨rfl,?_⟩)) (.refl _)
 repeat (first|refine g_op rfl ?_|refine g_then ?_|refine g_nil ?_|refine g_region ?_|refine g_seq ?_|refine g_exit ?_|refine g_thenExit ?_|refine g_exitHere ?_|refine g_ret ?_)
 exact g_retV rfl rfl
theorem many_c (nm pa re : Value) (bl : List LBlock) (bs : Value) (w0 : World) (hbs : SlAt w0 bs 6 bl BlockV) (hlen : bl.length ≤ 1000) (hb : ∀ b ∈ bl,b.phis.length ≤ 1000∧b.list.length ≤ 1000) :
  RetV Tryz.prog 51 [.agg #[nm,pa,re,bs]] w0 (.int .i64 (manyL bl : Nat)):=by
 obtain ⟨ba,n,bc,bb,bo,rfl,rfl,hnc,hnb,hbc,hba,hel⟩:=hbs
 refine ret_enter Tryz.func51 rfl Tryz.ntmps51 rfl (Wd.nil NoS w0) ?_
 repeat (first|refine g_op rfl ?_|refine g_then ?_|refine g_nil ?_|refine g_region ?_|refine g_seq ?_|refine g_box rfl fun _ _=>?_|refine g_block ?_)
 rename_i p1 _
 have hml:=many_le hb
 refine g_loop (fun (i : Nat)=>i ≤ bl.length) (fun i=>[(4,.int .i64 i),(3,.int .i64 (manyL (bl.take i))),(1,.pointer (some ⟨p1,0,none⟩))]) (fun _=>[Ent.box p1 [nm,pa,re,.slice ba bl.length bc] 35]) (fun i=>bl.length - i) 0 (Nat.zero_le _) (g_done (by repeat (first|exact trivial|refine ⟨rfl,?_⟩)) (by simp)) fun i hi=>?_
 repeat (first|refine g_op rfl ?_|refine g_then ?_|refine g_nil ?_|refine g_region ?_|refine g_seq ?_)
 refine g_cond (fun h1=>?_) (fun h1=>?_)
 ·have hlt : i < bl.length:=by simpa using h1
  obtain ⟨B,hB⟩ : ∃ B,bl[i]? = some B:=⟨_,List.getElem?_eq_getElem hlt⟩
  have had : AddrIs ba bb bo:=⟨hba (ne_of_get hB)⟩
  have hli : LtIs i bl.length:=⟨hlt⟩
  obtain ⟨cs,hcs,pv,lv,tv,rfl,_,_,hpv,hlv,htv⟩:=hel i B hB
  obtain ⟨pa',pn,pc,_,_,rfl,rfl,_⟩:=hpv
  obtain ⟨la,ln,lc,_,_,rfl,rfl,_⟩:=hlv
  have hci : CellsIs w0 bb (bo + i * 6) _:=⟨hcs⟩
  have hBl:=hb B (List.mem_of_getElem? hB)
  have hm:=hml i
  have hmt:=many_take hB
  repeat (first|refine g_then ?_|refine g_seq ?_|refine g_block ?_|refine g_skip ?_)
  refine g_draw mixed (by kernel_rfl) ?_
  repeat (first|refine q_op rfl ?_|refine q_opS rfl ?_|refine q_add rfl (by omega) (by omega) ?_|refine q_nil ?_)
  repeat (first|refine g_op rfl ?_|refine g_then ?_|refine g_nil ?_|refine g_region ?_|refine g_opS rfl ?_|refine g_inBlock ?_|refine g_add rfl (by omega) (by omega) ?_)
  rw [show (manyL (bl.take i) : Int) + (B.phis.length : Int) + (B.list.length : Int) = (manyL (bl.take (i + 1)) : Nat) by omega,show (i : Int) + 1 = ((i + 1 : Nat) : Int) by omega]
  exact g_next (i + 1) hlt (by omega) (by repeat (first|exact trivial|refine ⟨rfl,?_⟩)) (.refl _)
 have hge : i = bl.length:=by have:=h1; simp at this; omega
 subst hge
 rw [List.take_length]
 repeat (first|refine g_op rfl ?_|refine g_then ?_|refine g_nil ?_|refine g_region ?_|refine g_seq ?_|refine g_exit ?_|refine g_thenExit ?_|refine g_exitHere ?_|refine g_ret ?_)
 exact g_retV rfl rfl
theorem refLarge_c (nm pa : Value) (re : Int) (bl : List LBlock) (bs : Value) (w0 : World) (hbs : SlAt w0 bs 6 bl BlockV) (hlen : bl.length ≤ 1000) (hb : ∀ b ∈ bl,b.phis.length ≤ 1000∧b.list.length ≤ 1000) :
  RetV Tryz.prog 28 [.agg #[nm,pa,.int .i64 re,bs]] w0 (.bool (largeL bl re)):=by
 have hbs0:=hbs
 obtain ⟨ba,n,bc,_,_,rfl,rfl,_⟩:=hbs
 refine ret_enter Tryz.func28 rfl Tryz.ntmps28 rfl (Wd.nil NoS w0) ?_
 repeat (first|refine g_op rfl ?_|refine g_then ?_|refine g_nil ?_|refine g_region ?_|refine g_seq ?_|refine g_box rfl fun _ _=>?_)
 unfold largeL
 by_cases h40 : 40 < bl.length
 ·rw [show decide ((40 : Int) < (bl.length : Int)) = true by simp; omega,show decide (40 < bl.length) = true by simpa using h40]
  repeat (first|refine g_op rfl ?_|refine g_then ?_|refine g_nil ?_|refine g_opS rfl ?_|refine g_pass rfl ?_|refine g_ret ?_)
  exact g_retV rfl rfl
 ·rw [show decide ((40 : Int) < (bl.length : Int)) = false by simp; omega,show decide (40 < bl.length) = false by simpa using h40]
  repeat (first|refine g_op rfl ?_|refine g_open ?_)
  refine g_callV rfl (fun w hw=>many_c _ _ _ bl _ w (hbs0.keep keeps_block hw.chg) hlen hb) ?_
  repeat (first|refine g_op rfl ?_|refine g_open ?_)
  by_cases h300 : 300 < manyL bl
  ·rw [show decide ((300 : Int) < (manyL bl : Int)) = true by simp; omega,show decide (300 < manyL bl) = true by simpa using h300]
   repeat (first|refine g_op rfl ?_|refine g_then ?_|refine g_nil ?_|refine g_opS rfl ?_|refine g_pass rfl ?_|refine g_ret ?_)
   exact g_retV rfl rfl
  ·rw [show decide ((300 : Int) < (manyL bl : Int)) = false by simp; omega,show decide (300 < manyL bl) = false by simpa using h300]
   repeat (first|refine g_op rfl ?_|refine g_then ?_|refine g_nil ?_|refine g_opS rfl ?_|refine g_open ?_|refine g_ret ?_)
   exact g_retV rfl rfl
theorem none_c (g f : Value) (u : LUnit) (w0 : World) (hg : SlAt w0 g 3 u.globals GlobalV) (hf : SlAt w0 f 4 u.funcs FuncV) :
  RetV Tryz.prog 8 [.agg #[g,f]] w0 (.bool (decide (u.globals.length = 0) && decide (u.funcs.length = 0))):=by
 obtain ⟨ga,gn,gc,_,_,rfl,rfl,_⟩:=hg
 obtain ⟨fa,fn,fc,_,_,rfl,rfl,_⟩:=hf
 refine ret_enter Tryz.func8 rfl Tryz.ntmps8 rfl (Wd.nil NoS w0) ?_
 repeat (first|refine g_op rfl ?_|refine g_then ?_|refine g_nil ?_|refine g_region ?_|refine g_seq ?_|refine g_box rfl fun _ _=>?_)
 by_cases h1 : u.globals.length = 0
 ·rw [show decide ((u.globals.length : Int) = 0) = true by simp [h1],show decide (u.globals.length = 0) = true by simp [h1]]
  repeat (first|refine g_op rfl ?_|refine g_then ?_|refine g_nil ?_|refine g_opS rfl ?_|refine g_open ?_|refine g_ret ?_)
  refine g_retV rfl ?_
  rw [Bool.true_and]
  congr 1
  simp
 ·rw [show decide ((u.globals.length : Int) = 0) = false by simp only [decide_eq_false_iff_not]; omega,show decide (u.globals.length = 0) = false by simp [h1]]
  repeat (first|refine g_op rfl ?_|refine g_then ?_|refine g_nil ?_|refine g_opS rfl ?_|refine g_pass rfl ?_|refine g_ret ?_)
  exact g_retV rfl rfl
theorem noneE_c (w0 : World) : RetV Tryz.prog 8 [.agg #[.slice none 0 0,.slice none 0 0]] w0 (.bool true):=by
 have h1 : SlAt w0 (.slice none 0 0) 3 ([] : List LGlobal) GlobalV:=⟨none,0,0,0,0,rfl,rfl,by omega,by omega,by omega,by simp,by simp⟩
 have h2 : SlAt w0 (.slice none 0 0) 4 ([] : List LFunc) FuncV:=⟨none,0,0,0,0,rfl,rfl,by omega,by omega,by omega,by simp,by simp⟩
 exact none_c _ _ ⟨[],[]⟩ w0 h1 h2
end Go.Proofs.YtdbljcahlpkgdaaGreatDoor
