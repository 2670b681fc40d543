/- Texts joined: TidyI TidyQ. -/
import Derived.Test.YtpadjpplidlfeaaDoorGE
import Derived.Test.YtpadjpplidlfeaaDoorGF
import Derived.Test.YtpadjpplidlfeaaDoorGG
import Derived.Test.YtpadjpplidlfeaaDoorGI
import Derived.Test.YtpadjpplidlfeaaDoorGX
import Derived.Test.YtpadjpplidlfeaaDoorHA
import Derived.Test.YtpadjpplidlfeaaDoorHJ
import Derived.Test.YtpadjpplidlfeaaDoorHQ
import Derived.Test.YtpadjpplidlfeaaDoorHV
import Derived.Test.YtpadjpplidlfeaaDoorHW
import Derived.Test.YtpadjpplidlfeaaDoorID
import Derived.Test.YtpadjpplidlfeaaDoorIF
import Derived.Test.YtpadjpplidlfeaaDoorIH
import Derived.Test.YtpadjpplidlfeaaDoorII
import Derived.Test.YtpadjpplidlfeaaDoorIQ
import Derived.Test.YtpadjpplidlfeaaDoorIR
namespace Go.Proofs.YtpadjpplidlfeaaDoor
open Go Go.RowKit
attribute [local irreducible] wpListIn Code.wpIn Exit.then Exit.inBlock bodyPost wpQuiet wpAnyIn wpAnyH bodyPostM oneH
set_option maxHeartbeats 4000000
theorem outcomes_c (s v t : Int) (a1 a2 : Option Addr) (c1 c2 : Nat) (l : List Int) (w0 : World) (h1 : SlAt w0 (.slice a1 l.length c1) 1 l IntV) (h2 : SlAt w0 (.slice a2 l.length c2) 1 l IntV) :
  RetV Tryd.prog 14 [.agg #[.int .i64 s,.int .i64 v,.slice a1 l.length c1,.int .i64 t],.agg #[.int .i64 s,.int .i64 v,.slice a2 l.length c2,.int .i64 t]] w0 (.bool true):=by
 refine ret_enter Tryd.func14 rfl Tryd.ntmps14 rfl (Wd.nil NoS w0) ?_
 repeat (first|refine g_op rfl ?_|refine g_then ?_|refine g_nil ?_|refine g_region ?_|refine g_seq ?_|refine g_box rfl fun _ _=>?_)
 refine g_callV rfl (fun w hw=>comes_c s v t t a1 a2 c1 c2 l w (h1.keep keeps_int hw.chg) (h2.keep keeps_int hw.chg)) ?_
 repeat (first|refine g_op rfl ?_|refine g_then ?_|refine g_nil ?_|refine g_opS rfl ?_|refine g_open ?_|refine g_ret ?_)
 rw [show decide (t = t) = true by simp]
 skip
 exact g_retV rfl rfl
theorem countsE_same {u v : LUnit} (hu : CheckOk u) (hv : CheckOk v) (n : Nat) (fuel : Int) : countsE v n fuel = countsE u n fuel:=by
 unfold countsE
 rw [if_neg (show ¬ (checkL v).1 ≠ 0 by simp [check_zero.2 hv]),if_neg (show ¬ (checkL u).1 ≠ 0 by simp [check_zero.2 hu])]
theorem names_noMore {u : LUnit} (hu : Whole u) : NoMore u (namesU u):=nm_noMore hu (nm_unit hu.ok namesF _ _ names_turn)
theorem tidyRenamedLaw_c (u : LUnit) (inp : List Int) (fuel : Int) (_hk : inI fuel) (g fs iv : Value) (w0 : World) (hg : SlAt w0 g 3 u.globals GlobalV) (hf : SlAt w0 fs 4 u.funcs FuncV) (hin : SlAt w0 iv 1 inp IntV) (hways : CellsAt w0 0 0 waysC) :
  RetV Tryd.prog 4 [.agg #[g,fs],iv,.int .i64 fuel] w0 (.bool true):=by
 classical
 have hg0:=hg
 have hf0:=hf
 have hin0:=hin
 obtain ⟨ga,gn,gc,gb,go,rfl,hgn,_⟩:=hg
 obtain ⟨fa,fn,fc,fb,fo,rfl,hfn,hfnc,hfnb,hfc,hfa,hfel⟩:=hf
 obtain ⟨ia,il,ic,_,_,rfl,_⟩:=hin
 refine ret_enter Tryd.func4 rfl Tryd.ntmps4 rfl (Wd.nil NoS w0) ?_
 repeat (first|refine g_op rfl ?_|refine g_then ?_|refine g_nil ?_|refine g_region ?_|refine g_seq ?_|refine g_box rfl fun _ _=>?_)
 rename_i p3 _
 refine g_callE (val:=fun b : Bool=>.bool b) (E:=fun _=>[]) (φ:=fun b=>b = false→slim u) rfl (fun w hw=>heavyS_c u _ _ w (hf0.keep keeps_func hw.chg) ⟨_,_,_,rfl⟩) fun b hb=>?_
 simp only [List.nil_append]
 cases b
 case true =>
  repeat (first|refine g_then ?_|refine g_nil ?_|refine g_region ?_|refine g_seq ?_|refine g_opS rfl ?_|refine g_condT ?_|refine g_ret ?_|refine g_thenRet ?_)
  exact g_retV rfl rfl
 have hsl:=hb rfl
 have hl:=hsl.light
 repeat (first|refine g_op rfl ?_|refine g_then ?_|refine g_nil ?_|refine g_region ?_|refine g_seq ?_|refine g_skip ?_|refine g_condF ?_)
 by_cases hbad : (checkL u).1 ≠ 0
 ·refine g_callV rfl (fun w hw=>names_bad u hl hbad _ _ w (hg0.keep keeps_global hw.chg) (hf0.keep keeps_func hw.chg) (hways.keep hw.chg)) ?_
  repeat (first|refine g_op rfl ?_|refine g_then ?_|refine g_nil ?_|refine g_region ?_|refine g_seq ?_|refine g_alloc rfl fun _ _=>?_|refine g_storeAgg ?_)
  refine g_cond (fun h1=>?_) (fun h1=>?_)
  ·repeat (first|refine g_op rfl ?_|refine g_region ?_|refine g_seq ?_)
   refine g_callV rfl (fun w hw=>noneE_c w) ?_
   repeat (first|refine g_then ?_|refine g_nil ?_|refine g_opS rfl ?_|refine g_ret ?_|refine g_thenRet ?_)
   exact g_retV rfl rfl
  ·exact absurd h1 (by simp [hbad])
 have hch : (checkL u).1 = 0:=by simpa using hbad
 have hu : Whole u:=⟨check_zero.1 hch,nums_of hf0,gnums_of hg0⟩
 have hu2:=namesU_whole hu
 have hmore:=names_noMore hu
 have hl2:=check_light hu2.ok
 have hno:=whole_large hu2
 have hfn2 : (namesU u).funcs.length = u.funcs.length:=by unfold namesU; rw [List.length_map]
 refine g_callE (val:=(fun x : (Option Addr × Nat) × (Option Addr × Nat) × (Nat→Prop)=>Value.tuple #[.agg #[.slice x.1.1 gn x.1.2,.slice x.2.1.1 fn x.2.1.2],.agg #[.int .i64 0,.int .i64 0]])) (E:=(fun x : (Option Addr × Nat) × (Option Addr × Nat) × (Nat→Prop)=>[unitE (namesU u) (.slice x.1.1 gn x.1.2) (.slice x.2.1.1 fn x.2.1.2) x.2.2])) (φ:=fun _=>True) rfl (fun w hw=>by rw [hgn,hfn]; exact names_ok u hl hch (fun X hX=>hno _ (List.mem_map.2 ⟨X,hX,rfl⟩)) _ _ w (by rw [← hgn]; exact hg0.keep keeps_global hw.chg) (by rw [← hfn]; exact hf0.keep keeps_func hw.chg) (hways.keep hw.chg)) fun x _=>?_
 obtain ⟨⟨ya,yc⟩,⟨za,zc⟩,fp⟩:=x
 simp only [List.cons_append,List.nil_append]
 repeat (first|refine g_op rfl ?_|refine g_then ?_|refine g_nil ?_|refine g_region ?_|refine g_seq ?_|refine g_alloc rfl fun _ _=>?_|refine g_storeAgg ?_|refine g_skip ?_|refine g_condF ?_)
 rename_i p7 _ p8 _
 have hfpos : 0 < u.funcs.length:=by
  have h1:=hu.ok.main
  cases hfs : u.funcs with
  | nil=>rw [hfs] at h1; exact absurd h1 (by decide)
  | cons _ _=>simp
 refine g_callV rfl (fun w hw=>none_c _ _ (namesU u) w (hw.get (k:=2) rfl).1 (hw.get (k:=2) rfl).2) ?_
 rw [show (decide ((namesU u).globals.length = 0) && decide ((namesU u).funcs.length = 0)) = false by rw [hfn2,decide_eq_false (show ¬ u.funcs.length = 0 by omega),Bool.and_false]]
 repeat (first|refine g_op rfl ?_|refine g_then ?_|refine g_nil ?_|refine g_region ?_|refine g_seq ?_|refine g_block ?_|refine g_skip ?_|refine g_condF ?_)
 refine g_sel [1,3,2] (by decide) ?_
 refine g_eqH (H1:=[Ent.box p7 [.slice ya gn yc,.slice za fn zc] 25,Ent.box p3 [.slice ga gn gc,.slice fa fn fc] 25]++[unitE (namesU u) (.slice ya gn yc) (.slice za fn zc) fp]) rfl ?_
 refine g_holdK fun w1 hw1=>?_
 have hun : SlAt (killW (fps [Ent.box p7 [.slice ya gn yc,.slice za fn zc] 25,Ent.box p3 [.slice ga gn gc,.slice fa fn fc] 25]) w1) (.slice ya gn yc) 3 u.globals GlobalV∧SlAt (killW (fps [Ent.box p7 [.slice ya gn yc,.slice za fn zc] 25,Ent.box p3 [.slice ga gn gc,.slice fa fn fc] 25]) w1) (.slice za fn zc) 4 (namesU u).funcs FuncV:=hw1.beside (e:=unitE (namesU u) (.slice ya gn yc) (.slice za fn zc) fp) (by simp)
 have back : ∀ {E : List Ent} {w : World},Wd (fps [Ent.box p7 [.slice ya gn yc,.slice za fn zc] 25,Ent.box p3 [.slice ga gn gc,.slice fa fn fc] 25]) (killW (fps [Ent.box p7 [.slice ya gn yc,.slice za fn zc] 25,Ent.box p3 [.slice ga gn gc,.slice fa fn fc] 25]) w1) E w→Wd NoS w0 (E++[unitE (namesU u) (.slice ya gn yc) (.slice za fn zc) fp]) w:=fun hw=>hw1.comp hw.unkill
 have hkp : ∀ {E : List Ent} {w : World},Wd (fps [Ent.box p7 [.slice ya gn yc,.slice za fn zc] 25,Ent.box p3 [.slice ga gn gc,.slice fa fn fc] 25]) (killW (fps [Ent.box p7 [.slice ya gn yc,.slice za fn zc] 25,Ent.box p3 [.slice ga gn gc,.slice fa fn fc] 25]) w1) E w→∀ p v,(killW (fps [Ent.box p7 [.slice ya gn yc,.slice za fn zc] 25,Ent.box p3 [.slice ga gn gc,.slice fa fn fc] 25]) w1).cell? p = some v→w.cell? p = some v:=fun hw=>hw.killKeep
 have hold : ∀ {b o : Nat} {v : Value} {l : List Value},CellsAt (killW (fps [Ent.box p7 [.slice ya gn yc,.slice za fn zc] 25,Ent.box p3 [.slice ga gn gc,.slice fa fn fc] 25]) w1) b o (v::l)→OldIs (fps [Ent.box p7 [.slice ya gn yc,.slice za fn zc] 25,Ent.box p3 [.slice ga gn gc,.slice fa fn fc] 25]) b:=fun hc=>killOldIs hc (by simp)
 generalize killW (fps [Ent.box p7 [.slice ya gn yc,.slice za fn zc] 25,Ent.box p3 [.slice ga gn gc,.slice fa fn fc] 25]) w1 = wk at *
 generalize fps [Ent.box p7 [.slice ya gn yc,.slice za fn zc] 25,Ent.box p3 [.slice ga gn gc,.slice fa fn fc] 25] = SS at *
 obtain ⟨hug,huf⟩:=hun
 have hne2 : (namesU u).funcs ≠ []:=fun e=>by rw [e] at hfn2; simp at hfn2; omega
 obtain ⟨b2,o2,had2,hold2,hel2⟩:=slKnown huf hold (fun _ _ h=>by obtain ⟨_,e,_⟩:=h; exact ⟨_,_,e⟩) hne2
 refine g_loop (fun (i : Nat)=>i ≤ fn) (fun i=>[(9,.int .i64 i),(7,.pointer (some ⟨p7,0,none⟩)),(3,.pointer (some ⟨p3,0,none⟩)),(1,.slice ia il ic),(2,.int .i64 fuel)]) (fun _=>[Ent.box p7 [.slice ya gn yc,.slice za fn zc] 25,Ent.box p3 [.slice ga gn gc,.slice fa fn fc] 25]) (fun i=>fn - i) 0 (Nat.zero_le _) (g_done (by repeat (first|exact trivial|refine ⟨rfl,?_⟩)) (.refl _)) fun i hi=>?_
 repeat (first|refine g_op rfl ?_|refine g_then ?_|refine g_nil ?_|refine g_region ?_|refine g_seq ?_)
 refine g_cond (fun h1=>?_) (fun h1=>?_)
 ·have hlt : i < fn:=by simpa using h1
  obtain ⟨X,hX⟩ : ∃ X,u.funcs[i]? = some X:=⟨_,List.getElem?_eq_getElem (by omega)⟩
  have hY : (namesU u).funcs[i]? = some (namesF X):=by unfold namesU; simp only [List.getElem?_map,hX,Option.map_some]
  obtain ⟨_,hci2,bv2,rfl,_,_,hbv2⟩:=hel2 i _ hY
  obtain ⟨R,hA⟩:=fnAll hu.ok hX
  have hor:=names_order hA
  have hmt:=names_met hA
  obtain ⟨R2,hA2⟩:=fnAll hu2.ok hY
  have hl24:=(hl2.2 _ (List.mem_of_getElem? hY)).1
  have hgb:=hA2.ok
  have hpos:=hA2.pos
  have hly:=check_lim hl2 (check_zero.2 hu2.ok) _ (List.mem_of_getElem? hY)
  have hreg:=hA2.regs
  have hpar:=hA2.par
  have hle:=hA2.le
  have hpe : (namesF X).params = X.params:=(names_turn X R hA).2.2.2
  rw [← hpe] at hmt
  generalize namesF X = Y at *
  obtain ⟨Pn,hPn⟩ : ∃ Pn : Nat,Y.params = Pn:=⟨Y.params.toNat,by omega⟩
  rw [hPn,Int.toNat_natCast] at hmt
  rw [hreg,Int.toNat_natCast] at hmt
  obtain ⟨bl,hblD⟩ : ∃ bl,bl = Y.blocks:=⟨_,rfl⟩
  rw [← hblD] at hbv2 hor hl24 hgb hpos hmt
  have hbv2':=hbv2
  obtain ⟨va,vn,vc,_,_,rfl,hvn,_⟩:=hbv2
  have hli : LtIs i fn:=⟨hlt⟩
  have hpl : (postL bl).length = vn:=by
   have h5:=congrArg List.length hor
   unfold orderL at h5
   rw [List.length_reverse,List.length_range] at h5
   omega
  have hocall : ∀ (H : List Ent) (w : World),Wd SS wk H w→Ret Tryd.prog 11 [.agg #[.string Y.name,.int .i64 Y.params,.int .i64 Y.regs,.slice va vn vc]] w fun u w'=>∃ x : Option Addr × Nat,u = .slice x.1 vn x.2∧Wd NoS w [Ent.vec x.1 vn x.2 3 1 ((List.range vn).map intN)] w'∧True:=fun H w hw=>by
   have h5:=refOrder_c (.string Y.name) (.int .i64 Y.params) (.int .i64 Y.regs) bl (.slice va vn vc) ⟨_,_,_,rfl⟩ w (hbv2'.le mono_block (hkp hw)) (by omega) hgb.good hpos
   have h6 : (postL bl).reverse = List.range vn:=by rw [hvn]; exact hor
   rw [hpl,h6] at h5
   exact h5
  repeat (first|refine g_op rfl ?_|refine g_then ?_|refine g_region ?_|refine g_seq ?_|refine g_block ?_|refine g_skip ?_)
  refine g_callE (val:=fun x : Option Addr × Nat=>.slice x.1 vn x.2) (E:=fun x=>[Ent.vec x.1 vn x.2 3 1 ((List.range vn).map intN)]) (φ:=fun _=>True) rfl (fun w hw=>hocall _ w hw) fun x _=>?_
  obtain ⟨oa,oc⟩:=x
  simp only [List.cons_append,List.nil_append]
  refine g_vec 0 rfl (by omega) fun ob oo hoa=>?_
  subst hoa
  repeat (first|refine g_op rfl ?_|refine g_then ?_|refine g_nil ?_|refine g_region ?_|refine g_seq ?_|refine g_block ?_)
  refine g_loop (fun (j : Nat)=>j ≤ vn) (fun j=>[(11,.int .i64 j),(10,.slice (some ⟨ob,oo,none⟩) vn oc),(9,.int .i64 i),(7,.pointer (some ⟨p7,0,none⟩)),(3,.pointer (some ⟨p3,0,none⟩)),(1,.slice ia il ic),(2,.int .i64 fuel)]) (fun _=>[Ent.vec (some ⟨ob,oo,none⟩) vn oc 3 1 ((List.range vn).map intN),Ent.box p7 [.slice ya gn yc,.slice za fn zc] 25,Ent.box p3 [.slice ga gn gc,.slice fa fn fc] 25]) (fun j=>vn - j) 0 (Nat.zero_le _) (g_done (by repeat (first|exact trivial|refine ⟨rfl,?_⟩)) (.refl _)) fun j hj=>?_
  repeat (first|refine g_op rfl ?_|refine g_then ?_|refine g_nil ?_|refine g_region ?_|refine g_seq ?_)
  refine g_cond (fun h2=>?_) (fun h2=>?_)
  ·have hjl : j < vn:=by simpa using h2
   have hlj : LtIs j vn:=⟨hjl⟩
   have hoc : OwnCell [Ent.vec (some ⟨ob,oo,none⟩) vn oc 3 1 ((List.range vn).map intN),Ent.box p7 [.slice ya gn yc,.slice za fn zc] 25,Ent.box p3 [.slice ga gn gc,.slice fa fn fc] 25] ob (oo + j * 1) (.int .i64 j):=⟨fun _ _ _ hw=>hw.vecCell (k:=0) rfl (by rw [Nat.mul_one,List.getElem?_map,List.getElem?_range hjl]; rfl)⟩
   repeat (first|refine g_op rfl ?_|refine g_then ?_|refine g_nil ?_|refine g_region ?_|refine g_seq ?_|refine g_block ?_|refine g_skip ?_)
   rw [show (!decide ((j : Int) = (j : Int))) = false by simp]
   repeat (first|refine g_op rfl ?_|refine g_then ?_|refine g_nil ?_|refine g_region ?_|refine g_opS rfl ?_|refine g_inBlock ?_|refine g_skip ?_|refine g_condF ?_|refine g_add rfl (by omega) (by omega) ?_)
   exact g_next (j + 1) (by omega) (by omega) (by repeat (first|exact trivial|refine ⟨rfl,?_⟩)) (.refl _)
  obtain rfl : vn = j:=by have:=of_decide_eq_false h2; omega
  have hmcall : ∀ (H : List Ent) (w : World),Wd SS wk H w→Ret Tryd.prog 12 [.agg #[.string Y.name,.int .i64 Y.params,.int .i64 Y.regs,.slice va vn vc]] w fun u w'=>∃ x : Option Addr × Nat,u = .slice x.1 R2 x.2∧Wd NoS w [Ent.vec x.1 R2 x.2 3 1 ((parL R2).map (.int .i64))] w'∧True:=fun H w hw=>by
   have h5:=metR_c Y.name Pn R2 Y.regs bl va vn vc (by omega) (by omega) hgb (fun B hB x hx=>(hly.each B (by rw [← hblD]; exact hB)).2.2.2.1 x hx) w (hbv2'.le mono_block (hkp hw)) (by omega)
   unfold ivE at h5
   rw [hmt,parL_len,← hPn] at h5
   exact h5
  repeat (first|refine g_op rfl ?_|refine g_then ?_|refine g_region ?_|refine g_seq ?_|refine g_exit ?_|refine g_thenExit ?_|refine g_exitHere ?_)
  refine g_callE (val:=fun x : Option Addr × Nat=>.slice x.1 R2 x.2) (E:=fun x=>[Ent.vec x.1 R2 x.2 3 1 ((parL R2).map (.int .i64))]) (φ:=fun _=>True) rfl (fun w hw=>hmcall _ w hw) fun x _=>?_
  obtain ⟨ma,mc⟩:=x
  simp only [List.cons_append,List.nil_append]
  repeat (first|refine g_op rfl ?_|refine g_then ?_|refine g_nil ?_|refine g_region ?_|refine g_seq ?_|refine g_block ?_)
  refine g_loop (fun (j : Nat)=>j ≤ R2) (fun j=>[(13,.int .i64 j),(12,.slice ma R2 mc),(10,.slice (some ⟨ob,oo,none⟩) vn oc),(9,.int .i64 i),(7,.pointer (some ⟨p7,0,none⟩)),(3,.pointer (some ⟨p3,0,none⟩)),(1,.slice ia il ic),(2,.int .i64 fuel)]) (fun _=>[Ent.vec ma R2 mc 3 1 ((parL R2).map (.int .i64)),Ent.vec (some ⟨ob,oo,none⟩) vn oc 3 1 ((List.range vn).map intN),Ent.box p7 [.slice ya gn yc,.slice za fn zc] 25,Ent.box p3 [.slice ga gn gc,.slice fa fn fc] 25]) (fun j=>R2 - j) 0 (Nat.zero_le _) (g_done (by repeat (first|exact trivial|refine ⟨rfl,?_⟩)) (.refl _)) fun j hj=>?_
  repeat (first|refine g_op rfl ?_|refine g_then ?_|refine g_nil ?_|refine g_region ?_|refine g_seq ?_)
  refine g_cond (fun h3=>?_) (fun h3=>?_)
  ·have hjl : j < R2:=by simpa using h3
   refine g_vec 0 rfl (by omega) fun mb mo hma=>?_
   subst hma
   have hlj : LtIs j R2:=⟨hjl⟩
   have hoc : OwnCell [Ent.vec (some ⟨mb,mo,none⟩) R2 mc 3 1 ((parL R2).map (.int .i64)),Ent.vec (some ⟨ob,oo,none⟩) vn oc 3 1 ((List.range vn).map intN),Ent.box p7 [.slice ya gn yc,.slice za fn zc] 25,Ent.box p3 [.slice ga gn gc,.slice fa fn fc] 25] mb (mo + j * 1) (.int .i64 j):=⟨fun _ _ _ hw=>hw.vecCell (k:=0) rfl (by rw [Nat.mul_one,List.getElem?_map]; unfold parL; rw [List.getElem?_map,List.getElem?_range hjl]; rfl)⟩
   repeat (first|refine g_op rfl ?_|refine g_then ?_|refine g_nil ?_|refine g_region ?_|refine g_seq ?_|refine g_block ?_|refine g_skip ?_)
   rw [show (!decide ((j : Int) = (j : Int))) = false by simp]
   repeat (first|refine g_op rfl ?_|refine g_then ?_|refine g_nil ?_|refine g_region ?_|refine g_opS rfl ?_|refine g_inBlock ?_|refine g_skip ?_|refine g_condF ?_|refine g_add rfl (by omega) (by omega) ?_)
   exact g_next (j + 1) (by omega) (by omega) (by repeat (first|exact trivial|refine ⟨rfl,?_⟩)) (.refl _)
  repeat (first|refine g_op rfl ?_|refine g_then ?_|refine g_region ?_|refine g_seq ?_|refine g_exit ?_|refine g_thenExit ?_|refine g_exitHere ?_)
  rw [show (!decide ((vn : Int) = (vn : Int))) = false by simp]
  repeat (first|refine g_op rfl ?_|refine g_then ?_|refine g_nil ?_|refine g_open ?_)
  rw [show (!decide ((R2 : Int) = Y.regs)) = false by rw [hreg]; simp]
  repeat (first|refine g_op rfl ?_|refine g_then ?_|refine g_nil ?_|refine g_region ?_|refine g_opS rfl ?_|refine g_inBlock ?_|refine g_skip ?_|refine g_condF ?_|refine g_add rfl (by omega) (by omega) ?_)
  exact g_next (i + 1) (by omega) (by omega) (by repeat (first|exact trivial|refine ⟨rfl,?_⟩)) (.cons _ (.cons _ (.refl _)))
 refine g_unhold back ?_
 simp only [List.cons_append,List.nil_append]
 repeat (first|refine g_op rfl ?_|refine g_then ?_|refine g_nil ?_|refine g_region ?_|refine g_seq ?_|refine g_exit ?_|refine g_thenExit ?_|refine g_exitHere ?_)
 refine g_cond (fun h2=>?_) (fun h2=>?_)
 ·repeat (first|refine g_op rfl ?_|refine g_then ?_|refine g_nil ?_|refine g_region ?_|refine g_seq ?_|refine g_ret ?_|refine g_thenRet ?_)
  exact g_retV rfl rfl
 have hini : ∀ x ∈ inp,inI x:=fun x hx=>by obtain ⟨_,_,h9⟩:=hin0.el hx; exact h9
 have hce:=countsE_same hu.ok hu2.ok inp.length fuel
 repeat (first|refine g_op rfl ?_|refine g_then ?_|refine g_region ?_|refine g_seq ?_|refine g_skip ?_)
 by_cases hcb : (countsE u inp.length fuel).1 ≠ 0
 ·refine g_callV rfl (fun w hw=>do_bad u hl _ _ _ inp fuel hcb w (hg0.keep keeps_global hw.chg) (hf0.keep keeps_func hw.chg) (hin0.keep keeps_int hw.chg) (hways.keep hw.chg)) ?_
  repeat (first|refine g_op rfl ?_|refine g_then ?_|refine g_nil ?_|refine g_region ?_|refine g_seq ?_|refine g_alloc rfl fun _ _=>?_|refine g_storeAgg ?_)
  refine g_callV rfl (fun w hw=>do_bad (namesU u) hl2 (.slice ya gn yc) (.slice za fn zc) _ inp fuel (by rw [hce]; exact hcb) w (hw.get (k:=4) rfl).1 (hw.get (k:=4) rfl).2 (hin0.keep keeps_int hw.chg) (hways.keep hw.chg)) ?_
  rw [hce]
  repeat (first|refine g_op rfl ?_|refine g_then ?_|refine g_nil ?_|refine g_region ?_|refine g_seq ?_|refine g_alloc rfl fun _ _=>?_|refine g_storeAgg ?_)
  rw [show (!decide ((countsE u inp.length fuel).1 = 0)) = true by simp [hcb]]
  repeat (first|refine g_op rfl ?_|refine g_then ?_|refine g_nil ?_|refine g_region ?_|refine g_seq ?_|refine g_pass rfl ?_|refine g_condT ?_)
  rw [show (!decide ((countsE u inp.length fuel).1 = 0)) = true by simp [hcb]]
  repeat (first|refine g_op rfl ?_|refine g_then ?_|refine g_nil ?_|refine g_open ?_|refine g_ret ?_|refine g_thenRet ?_)
  rw [show (decide ((countsE u inp.length fuel).1 = (countsE u inp.length fuel).1) && decide ((countsE u inp.length fuel).2 = (countsE u inp.length fuel).2)) = true by simp]
  skip
  exact g_retV rfl rfl
 have hgood : (countsE u inp.length fuel).1 = 0:=by simpa using hcb
 obtain ⟨_,_,f,rfl,hfk⟩:=countsE_zero hgood
 have hf2 : f ≤ 2000:=by simp at h2; omega
 obtain ⟨⟨h4,h5,h6⟩,h7⟩:=names_runs hu inp hini f
 refine g_callE (val:=(fun x : Option Addr × Nat × (Nat→Prop)=>Value.tuple #[.agg #[.int .i64 (resultM u inp f).state,.int .i64 (resultM u inp f).value,.slice x.1 (resultM u inp f).out.length x.2.1,.int .i64 (resultM u inp f).steps],.agg #[.int .i64 0,.int .i64 0]])) (E:=(fun x : Option Addr × Nat × (Nat→Prop)=>[(⟨x.2.2,fun w=>SlAt w (.slice x.1 (resultM u inp f).out.length x.2.1) 1 (resultM u inp f).out IntV⟩ : Ent)])) (φ:=fun _=>True) rfl (fun w hw=>do_ok u hl _ _ _ inp f hgood w (hg0.keep keeps_global hw.chg) (hf0.keep keeps_func hw.chg) (hin0.keep keeps_int hw.chg) (hways.keep hw.chg)) fun x _=>?_
 obtain ⟨xa,xc,xp⟩:=x
 simp only [List.cons_append,List.nil_append]
 repeat (first|refine g_op rfl ?_|refine g_then ?_|refine g_nil ?_|refine g_region ?_|refine g_seq ?_|refine g_alloc rfl fun _ _=>?_|refine g_storeAgg ?_)
 refine g_callE (val:=(fun x : Option Addr × Nat × (Nat→Prop)=>Value.tuple #[.agg #[.int .i64 (resultM u inp f).state,.int .i64 (resultM u inp f).value,.slice x.1 (resultM u inp f).out.length x.2.1,.int .i64 (resultM u inp f).steps],.agg #[.int .i64 0,.int .i64 0]])) (E:=(fun x : Option Addr × Nat × (Nat→Prop)=>[(⟨x.2.2,fun w=>SlAt w (.slice x.1 (resultM u inp f).out.length x.2.1) 1 (resultM u inp f).out IntV⟩ : Ent)])) (φ:=fun _=>True) rfl (fun w hw=>?_) fun x _=>?_
 ·have h9:=do_ok (namesU u) hl2 (.slice ya gn yc) (.slice za fn zc) _ inp f (by rw [hce]; exact hgood) w (hw.get (k:=5) rfl).1 (hw.get (k:=5) rfl).2 (hin0.keep keeps_int hw.chg) (hways.keep hw.chg)
  rw [h4,h5,h6,h7] at h9
  exact h9
 obtain ⟨va,vc,vp⟩:=x
 simp only [List.cons_append,List.nil_append]
 repeat (first|refine g_op rfl ?_|refine g_then ?_|refine g_nil ?_|refine g_region ?_|refine g_seq ?_|refine g_open ?_|refine g_alloc rfl fun _ _=>?_|refine g_storeAgg ?_)
 rw [show (!decide ((0 : Int) = 0)) = false by simp]
 repeat (first|refine g_op rfl ?_|refine g_open ?_)
 refine g_callV rfl (fun w hw=>outcomes_c _ _ _ _ _ _ _ _ w (hw.get (k:=5) rfl) (hw.get (k:=2) rfl)) ?_
 repeat (first|refine g_op rfl ?_|refine g_then ?_|refine g_nil ?_|refine g_region ?_|refine g_seq ?_|refine g_open ?_|refine g_skip ?_|refine g_condF ?_)
 refine g_callV rfl (fun w hw=>same_c u (namesU u) hl hl2 _ _ _ _ _ inp f w (hg0.keep keeps_global hw.chg) (hf0.keep keeps_func hw.chg) (hw.get (k:=8) rfl).1 (hw.get (k:=8) rfl).2 (hin0.keep keeps_int hw.chg) (hways.keep hw.chg) fun f hf2 hc0 hst=>noMore_comes hmore hu2.ok hini hc0 hst (by omega) (by omega)) ?_
 repeat (first|refine g_op rfl ?_|refine g_then ?_|refine g_nil ?_|refine g_ret ?_)
 exact g_retV rfl rfl
end Go.Proofs.YtpadjpplidlfeaaDoor
