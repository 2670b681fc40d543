/- Texts joined: LayE LayO LayT. -/
import Derived.Test.YtdbljcahlpkgdaaGreatDoorKE
namespace Go.Proofs.YtdbljcahlpkgdaaGreatDoor
open Go Go.RowKit
attribute [local irreducible] wpListIn Code.wpIn Exit.then Exit.inBlock bodyPost wpQuiet wpAnyIn wpAnyH bodyPostM oneH
set_option maxHeartbeats 8000000
def lastI (l : List Nat) : Int:=match l.getLast? with|some a=>(a : Int)|none=>-1
theorem lastI_add (l : List Nat) (a : Nat) : lastI (l++[a]) = a:=by unfold lastI; rw [List.getLast?_concat]
theorem refPorch_c (nm pa re : Value) (bl : List LBlock) (bs lv : Value) (hbsl : ∃ a n c,bs = .slice a n c) (hlvl : ∃ a n c,lv = .slice a n c) (h : Nat) (lp : List Int) (w0 : World) (hbs : SlAt w0 bs 6 bl BlockV) (hlp : SlAt w0 lv 1 lp IntV) (hlen : bl.length ≤ 100) :
  Ret Tryz.prog 14 [.agg #[nm,pa,re,bs],.int .i64 h,lv] w0 fun u w'=>∃ r : Int,u = .int .i64 r∧Wd NoS w0 [] w'∧(r < 0 ↔ porchOk bl h lp = false):=by
 obtain ⟨ba,n,bc,rfl⟩:=hbsl
 obtain ⟨la,ln,lc,rfl⟩:=hlvl
 have hn : n = bl.length:=hbs.at.1
 refine ret_enter Tryz.func14 rfl Tryz.ntmps14 rfl (Wd.nil NoS w0) ?_
 repeat (first|refine g_op rfl ?_|refine g_then ?_|refine g_nil ?_|refine g_region ?_|refine g_seq ?_|refine g_box rfl fun _ _=>?_)
 rename_i p3 _
 refine g_callE (val:=fun x : Option Addr × Nat=>.slice x.1 (preds bl h).length x.2) (E:=fun x=>[Ent.vec x.1 (preds bl h).length x.2 3 1 ((preds bl h).map intN)]) (φ:=fun _=>True) rfl (fun w hw=>refAhead_c _ _ _ bl _ h w (hbs.keep keeps_block hw.chg) (by omega)) fun x _=>?_
 obtain ⟨aa,ac⟩:=x
 simp only [List.cons_append,List.nil_append]
 obtain ⟨row,hrow⟩ : ∃ row,row = (preds bl h).map fun x : Nat=>(x : Int):=⟨_,rfl⟩
 rw [show (preds bl h).map intN = row.map (.int .i64) by rw [hrow,List.map_map]; rfl]
 obtain ⟨m,hm⟩ : ∃ m,m = (preds bl h).length:=⟨_,rfl⟩
 rw [← hm]
 have hm100 : m ≤ 100:=by
  rw [hm]
  exact Nat.le_trans (List.length_filter_le _ _) (by rw [List.length_range]; omega)
 repeat (first|refine g_op rfl ?_|refine g_then ?_|refine g_nil ?_|refine g_region ?_|refine g_seq ?_|refine g_block ?_)
 refine g_loop (fun j : Nat=>j ≤ m) (fun j=>[(10,.int .i64 j),(8,.int .i64 ((outTo bl h lp j).length : Nat)),(9,.int .i64 (lastI (outTo bl h lp j))),(7,.slice aa m ac),(3,.pointer (some ⟨p3,0,none⟩)),(1,.int .i64 h),(2,.slice la ln lc)]) (fun _=>[Ent.vec aa m ac 3 1 (row.map (.int .i64)),Ent.box p3 [nm,pa,re,.slice ba n bc] 35]) (fun j=>m - j) 0 (Nat.zero_le _) (g_done (by unfold outTo; simp only [List.take_zero,List.filter_nil]; exact (by repeat (first|exact trivial|refine ⟨rfl,?_⟩))) (.refl _)) fun j hj=>?_
 have hol : (outTo bl h lp j).length ≤ 100:=Nat.le_trans (List.length_filter_le _ _) (by rw [List.length_take]; omega)
 repeat (first|refine g_op rfl ?_|refine g_then ?_|refine g_nil ?_|refine g_region ?_|refine g_seq ?_)
 refine g_cond (fun h1=>?_) (fun h1=>?_)
 ·have hjl : j < m:=by simpa using h1
  obtain ⟨a,ha⟩ : ∃ a,(preds bl h)[j]? = some a:=⟨_,List.getElem?_eq_getElem (by omega)⟩
  have hel : ElAt row j (a : Int):=⟨by rw [hrow,List.getElem?_map,ha]; rfl⟩
  have hltj : LtIs j m:=⟨hjl⟩
  have hsucc:=outTo_succ (lp:=lp) ha
  refine g_vec 0 rfl (by omega) fun ab ao haa=>?_
  subst haa
  repeat (first|refine g_op rfl ?_|refine g_then ?_|refine g_region ?_|refine g_seq ?_|refine g_block ?_|refine g_skip ?_)
  refine g_callV rfl (fun w hw=>has_c _ lp a w (hlp.keep keeps_int hw.chg)) ?_
  by_cases hmm : (a : Int) ∈ lp
  ·rw [show decide ((a : Int) ∈ lp) = true by simp [hmm]]
   rw [if_pos hmm,List.append_nil] at hsucc
   rw [← hsucc]
   repeat (first|refine g_op rfl ?_|refine g_then ?_|refine g_nil ?_|refine g_region ?_|refine g_opS rfl ?_|refine g_inBlock ?_|refine g_skip ?_|refine g_condF ?_|refine g_add rfl (by omega) (by omega) ?_)
   exact g_next (j + 1) hjl (by omega) (by repeat (first|exact trivial|refine ⟨rfl,?_⟩)) (.refl _)
  ·rw [show decide ((a : Int) ∈ lp) = false by simp [hmm]]
   rw [if_neg hmm] at hsucc
   have e1 : ((outTo bl h lp (j + 1)).length : Int) = (outTo bl h lp j).length + 1:=by rw [hsucc,List.length_append]; simp
   have e2 : lastI (outTo bl h lp (j + 1)) = (a : Int):=by rw [hsucc,lastI_add]
   repeat (first|refine g_op rfl ?_|refine g_then ?_|refine g_nil ?_|refine g_region ?_|refine g_seq ?_|refine g_opS rfl ?_|refine g_inBlock ?_|refine g_condT ?_|refine g_add rfl (by omega) (by omega) ?_)
   rw [← e1,← e2]
   exact g_next (j + 1) hjl (by omega) (by repeat (first|exact trivial|refine ⟨rfl,?_⟩)) (.refl _)
 ·obtain rfl : j = m:=by have:=h1; simp at this; omega
  rw [hm,outTo_all] at hol ⊢
  repeat (first|refine g_op rfl ?_|refine g_then ?_|refine g_region ?_|refine g_seq ?_|refine g_exit ?_|refine g_thenExit ?_|refine g_exitHere ?_)
  by_cases h2 : (outQ bl h lp).length = 1
  ·rw [show (!decide (((outQ bl h lp).length : Int) = 1)) = false by simp [h2]]
   obtain ⟨a,ha⟩:=List.length_eq_one_iff.1 h2
   have hpo : porchOk bl h lp = decide ((blkAt bl a).kind = 2):=by unfold porchOk; rw [ha]; simp
   have hla : lastI (outQ bl h lp) = (a : Int):=by rw [ha]; rfl
   rw [hla]
   have hal:=(mem_preds.1 (mem_outQ.1 (show a ∈ outQ bl h lp by rw [ha]; simp)).1).1
   obtain ⟨B,hB⟩ : ∃ B,bl[a]? = some B:=⟨_,List.getElem?_eq_getElem hal⟩
   obtain ⟨_,_,_,bb,bo,hba,hbel⟩:=hbs.at
   obtain ⟨_,hcB,pv,lv,tv,rfl,_⟩:=hbel a B hB
   have hadb : AddrIs ba bb bo:=⟨hba (ne_of_get hB)⟩
   have hlta : LtIs a n:=⟨by omega⟩
   have hciB : CellsIs w0 bb (bo + a * 6) _:=⟨hcB⟩
   have hbA : blkAt bl a = B:=blkAt_get hB
   rw [hbA] at hpo
   repeat (first|refine g_op rfl ?_|refine g_then ?_|refine g_nil ?_|refine g_open ?_)
   by_cases hk : B.kind = 2
   ·rw [show (!decide (B.kind = 2)) = false by simp [hk]]
    repeat (first|refine g_op rfl ?_|refine g_then ?_|refine g_nil ?_|refine g_region ?_|refine g_seq ?_|refine g_skip ?_|refine g_condF ?_|refine g_ret ?_)
    exact g_ret1 rfl fun w hw=>⟨(a : Int),rfl,hw.sub (List.nil_sublist _),⟨fun _=>by omega,fun h=>by rw [hpo] at h; simp [hk] at h⟩⟩
   ·rw [show (!decide (B.kind = 2)) = true by simp [hk]]
    repeat (first|refine g_op rfl ?_|refine g_then ?_|refine g_nil ?_|refine g_region ?_|refine g_seq ?_|refine g_condT ?_|refine g_ret ?_|refine g_thenRet ?_)
    exact g_ret1 rfl fun w hw=>⟨-1,rfl,hw.sub (List.nil_sublist _),⟨fun _=>by rw [hpo]; simp [hk],fun _=>by omega⟩⟩
  ·have hpo : porchOk bl h lp = false:=by unfold porchOk; rw [decide_eq_false h2]; rfl
   rw [show (!decide (((outQ bl h lp).length : Int) = 1)) = true by simp; omega]
   repeat (first|refine g_op rfl ?_|refine g_then ?_|refine g_nil ?_|refine g_region ?_|refine g_seq ?_|refine g_pass rfl ?_|refine g_condT ?_|refine g_ret ?_|refine g_thenRet ?_)
   exact g_ret1 rfl fun w hw=>⟨-1,rfl,hw.sub (List.nil_sublist _),⟨fun _=>hpo,fun _=>by omega⟩⟩
end Go.Proofs.YtdbljcahlpkgdaaGreatDoor
