/- Texts joined: NamesT NamesL. -/
import Derived.Test.YtpadjpplidlfeaaDoorGE
import Derived.Test.YtpadjpplidlfeaaDoorHJ
import Derived.Test.YtpadjpplidlfeaaDoorHQ
import Derived.Test.YtpadjpplidlfeaaDoorHS
import Derived.Test.YtpadjpplidlfeaaDoorHW
import Derived.Test.YtpadjpplidlfeaaDoorIE
import Derived.Test.YtpadjpplidlfeaaDoorIF
import Derived.Test.YtpadjpplidlfeaaDoorIH
namespace Go.Proofs.YtpadjpplidlfeaaDoor
open Go Go.RowKit
attribute [local irreducible] wpListIn Code.wpIn Exit.then Exit.inBlock bodyPost wpQuiet wpAnyIn wpAnyH bodyPostM oneH
set_option maxHeartbeats 4000000
theorem names_bad (u : LUnit) (hl : light u) (hbad : (checkL u).1 ≠ 0) (g fs : Value) (w0 : World) (hg : SlAt w0 g 3 u.globals GlobalV) (hf : SlAt w0 fs 4 u.funcs FuncV) (hways : CellsAt w0 0 0 waysC) :
  RetV Tryd.prog 10 [.agg #[g,fs]] w0 (.tuple #[.agg #[.slice none 0 0,.slice none 0 0],.agg #[.int .i64 (checkL u).1,.int .i64 (checkL u).2]]):=by
 have hg0:=hg
 have hf0:=hf
 obtain ⟨ga,gn,gc,gb,go,rfl,_⟩:=hg
 obtain ⟨fa,fn,fc,fb,fo,rfl,hfn,_⟩:=hf
 refine ret_enter Tryd.func10 rfl Tryd.ntmps10 rfl (Wd.nil NoS w0) ?_
 repeat (first|refine g_op rfl ?_|refine g_then ?_|refine g_nil ?_|refine g_region ?_|refine g_seq ?_|refine g_box rfl fun _ _=>?_|refine g_alloc rfl fun _ _=>?_)
 rename_i p1 _ p2 _ p3 _
 refine g_callV rfl (fun w hw=>check_c u hl _ _ w (hg0.keep keeps_global hw.chg) (hf0.keep keeps_func hw.chg) (hways.keep hw.chg)) ?_
 repeat (first|refine g_op rfl ?_|refine g_then ?_|refine g_nil ?_|refine g_region ?_|refine g_seq ?_|refine g_alloc rfl fun _ _=>?_|refine g_storeAgg ?_)
 rename_i p4 _
 refine g_cond (fun h1=>?_) (fun h1=>?_)
 ·repeat (refine g_seq ?_)
  refine g_drawW [(2,.pointer (some ⟨p2,0,none⟩)),(3,.pointer (some ⟨p3,0,none⟩))] [Ent.box p3 [.int .i64 (checkL u).1,.int .i64 (checkL u).2] 28,Ent.box p2 [.slice none 0 0,.slice none 0 0] 25] mixed ?_ ?_
  ·repeat' (first|refine g_any0 (by decide +kernel) ?_|refine g_any (by decide +kernel) ?_|refine any_nil|refine any_skip (by decide +kernel) ?_|refine any_cons ?_ ?_|refine g_op rfl ?_|refine g_then ?_|refine g_nil ?_|refine g_storeAgg ?_)
   all_goals exact g_done (by repeat (first|exact trivial|refine ⟨rfl,?_⟩)) (by simp)
  ·repeat (first|refine g_then ?_|refine g_ret ?_|refine g_thenRet ?_)
   exact g_retCC rfl fun _ hw=>⟨rfl,hw.chg⟩
 ·simp at h1
  omega
theorem namesEach_c (u : LUnit) (hl : light u) (hch : (checkL u).1 = 0) (g fs : Value) (w : World) (hg : SlAt w g 3 u.globals GlobalV) (hf : SlAt w fs 4 u.funcs FuncV) :
  Ret Tryd.prog 17 [.agg #[g,fs],.func (.func 21) #[] #[]] w (EachR u namesF w) :=
 each_c u (check_glim hch) ⟨check_few hl,check_lim hl hch⟩ _ _ w hg hf 21 [] [] namesF fun X hX=>by
  obtain ⟨k,hk⟩:=List.getElem?_of_mem hX
  obtain ⟨R,hA⟩:=fnAll (check_zero.1 hch) hk
  have h1:=(hl.2 X hX).1
  have h2:=hA.par
  have h3:=hA.le
  exact namesOf_c X R hA (by omega) ⟨by omega,by omega⟩ w
theorem names_ok (u : LUnit) (hl : light u) (hch : (checkL u).1 = 0) (hN : ∀ X ∈ u.funcs,largeF (namesF X) = false) (g fs : Value) (w0 : World) (hg : SlAt w0 g 3 u.globals GlobalV) (hf : SlAt w0 fs 4 u.funcs FuncV) (hways : CellsAt w0 0 0 waysC) :
  Ret Tryd.prog 10 [.agg #[g,fs]] w0 fun v w'=>∃ x : (Option Addr × Nat) × (Option Addr × Nat) × (Nat→Prop),v = .tuple #[.agg #[.slice x.1.1 u.globals.length x.1.2,.slice x.2.1.1 u.funcs.length x.2.1.2],.agg #[.int .i64 0,.int .i64 0]]∧Wd NoS w0 [unitE (namesU u) (.slice x.1.1 u.globals.length x.1.2) (.slice x.2.1.1 u.funcs.length x.2.1.2) x.2.2] w'∧True:=by
 have hg0:=hg
 have hf0:=hf
 obtain ⟨ga,gn,gc,gb,go,rfl,_⟩:=hg
 obtain ⟨fa,fn,fc,fb,fo,rfl,hfn,_⟩:=hf
 refine ret_enter Tryd.func10 rfl Tryd.ntmps10 rfl (Wd.nil NoS w0) ?_
 repeat (first|refine g_op rfl ?_|refine g_then ?_|refine g_nil ?_|refine g_region ?_|refine g_seq ?_|refine g_box rfl fun _ _=>?_|refine g_alloc rfl fun _ _=>?_)
 rename_i p1 _ p2 _ p3 _
 refine g_callV rfl (fun w hw=>check_c u hl _ _ w (hg0.keep keeps_global hw.chg) (hf0.keep keeps_func hw.chg) (hways.keep hw.chg)) ?_
 rw [checkL_zero hch]
 repeat (first|refine g_op rfl ?_|refine g_then ?_|refine g_nil ?_|refine g_region ?_|refine g_seq ?_|refine g_alloc rfl fun _ _=>?_|refine g_storeAgg ?_|refine g_skip ?_|refine g_condF ?_)
 rename_i p4 _
 refine g_callE (val:=fun x : (Option Addr × Nat) × (Option Addr × Nat) × (Nat→Prop)=>.tuple #[.agg #[.slice x.1.1 u.globals.length x.1.2,.slice x.2.1.1 u.funcs.length x.2.1.2],.agg #[.int .i64 0,.int .i64 0]]) (E:=fun x=>[unitE (namesU u) (.slice x.1.1 u.globals.length x.1.2) (.slice x.2.1.1 u.funcs.length x.2.1.2) x.2.2]) (φ:=fun _=>True) rfl (fun w hw=>(namesEach_c u hl hch _ _ w (hg0.keep keeps_global hw.chg) (hf0.keep keeps_func hw.chg)).mono fun v w' h=>?_) fun x _=>?_
 ·rcases h with ⟨j,Y,h1,h2,_⟩|⟨_,ga,fa,gc,fc,fp,rfl,hw⟩
  ·rw [hN Y (List.mem_of_getElem? h1)] at h2
   cases h2
  ·exact ⟨((ga,gc),(fa,fc),fp),rfl,hw,trivial⟩
 obtain ⟨⟨ya,yc⟩,⟨za,zc⟩,fp⟩:=x
 simp only [List.cons_append,List.nil_append]
 repeat (first|refine g_op rfl ?_|refine g_then ?_|refine g_nil ?_|refine g_storeAgg ?_|refine g_ret ?_)
 refine g_retCC rfl fun w hw=>⟨((ya,yc),(za,zc),fp),rfl,hw.pick inferInstance,trivial⟩
end Go.Proofs.YtpadjpplidlfeaaDoor
