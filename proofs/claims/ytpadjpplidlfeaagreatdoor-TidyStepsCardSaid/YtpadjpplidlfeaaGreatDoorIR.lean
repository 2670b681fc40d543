/- Texts joined: DoF DoG. -/
import Derived.Test.YtpadjpplidlfeaaGreatDoorHJ
import Derived.Test.YtpadjpplidlfeaaGreatDoorHN
import Derived.Test.YtpadjpplidlfeaaGreatDoorHS
import Derived.Test.YtpadjpplidlfeaaGreatDoorIQ
namespace Go.Proofs.YtpadjpplidlfeaaGreatDoor
open Go Go.RowKit
attribute [local irreducible] wpListIn Code.wpIn Exit.then Exit.inBlock bodyPost wpQuiet wpAnyIn wpAnyH bodyPostM oneH
set_option maxHeartbeats 4000000
theorem noMore_comes {u v : LUnit} (h : NoMore u v) (hv : CheckOk v) {inp : List Int} (hin : ∀ x ∈ inp,inI x) {f m : Nat} (hc : (countsE u inp.length f).1 = 0) (hs : (resultM u inp f).state ≠ 1) (hf : f ≤ m) (hm : m ≤ 100000) : Comes u v inp f m:=by
 obtain ⟨_,hil,_⟩:=countsE_zero hc
 obtain ⟨h1,_⟩:=h inp f m hin hs hf
 refine ⟨?_,h1.state,h1.value,h1.out⟩
 unfold countsE
 rw [if_neg (by simp [check_zero.2 hv]),if_neg (by omega),if_neg (by simp [within]; omega)]
theorem endsRun_c (a b : LUnit) (hla : light a) (hlb : light b) (ga fa gb fb iv : Value) (inp : List Int) (fuel : Int) (w0 : World) (hga : SlAt w0 ga 3 a.globals GlobalV) (hfa : SlAt w0 fa 4 a.funcs FuncV) (hgb : SlAt w0 gb 3 b.globals GlobalV) (hfb : SlAt w0 fb 4 b.funcs FuncV) (hin : SlAt w0 iv 1 inp IntV) (hways : CellsAt w0 0 0 waysC)
  (hsame : ∀ f : Nat,f ≤ 2000→(countsE a inp.length f).1 = 0→(resultM a inp f).state ≠ 1→Comes a b inp f f∧(resultM b inp f).steps ≤ (resultM a inp f).steps) :
  RetV Tryz.prog 19 [.agg #[ga,fa],.agg #[gb,fb],iv,.int .i64 fuel] w0 (.bool true):=by
 have hga0:=hga
 have hfa0:=hfa
 have hgb0:=hgb
 have hfb0:=hfb
 have hin0:=hin
 obtain ⟨ga1,gan,gac,_,_,rfl,_⟩:=hga
 obtain ⟨fa1,fan,fac,_,_,rfl,_⟩:=hfa
 obtain ⟨gb1,gbn,gbc,_,_,rfl,_⟩:=hgb
 obtain ⟨fb1,fbn,fbc,_,_,rfl,_⟩:=hfb
 obtain ⟨ia,il,ic,_,_,rfl,_⟩:=hin
 refine ret_enter Tryz.func19 rfl Tryz.ntmps19 rfl (Wd.nil NoS w0) ?_
 repeat (first|refine g_op rfl ?_|refine g_then ?_|refine g_nil ?_|refine g_region ?_|refine g_seq ?_|refine g_box rfl fun _ _=>?_)
 by_cases h1 : fuel < 0
 ·rw [show decide (fuel < 0) = true by simp [h1]]
  repeat (first|refine g_op rfl ?_|refine g_then ?_|refine g_nil ?_|refine g_region ?_|refine g_seq ?_|refine g_opS rfl ?_|refine g_pass rfl ?_|refine g_condT ?_|refine g_ret ?_|refine g_thenRet ?_)
  exact g_retV rfl rfl
 rw [show decide (fuel < 0) = false by simp [h1]]
 repeat (first|refine g_op rfl ?_|refine g_then ?_|refine g_nil ?_|refine g_open ?_)
 refine g_cond (fun h2=>?_) (fun h2=>?_)
 ·repeat (first|refine g_then ?_|refine g_nil ?_|refine g_region ?_|refine g_seq ?_|refine g_opS rfl ?_|refine g_ret ?_|refine g_thenRet ?_)
  exact g_retV rfl rfl
 obtain ⟨f,rfl⟩ : ∃ f : Nat,fuel = f:=⟨fuel.toNat,by omega⟩
 have hf2 : f ≤ 2000:=by simp at h2; omega
 repeat (first|refine g_op rfl ?_|refine g_then ?_|refine g_region ?_|refine g_seq ?_|refine g_skip ?_)
 by_cases hbad : (countsE a inp.length f).1 ≠ 0
 ·refine g_callV rfl (fun w hw=>do_bad a hla _ _ _ inp f hbad w (hga0.keep keeps_global hw.chg) (hfa0.keep keeps_func hw.chg) (hin0.keep keeps_int hw.chg) (hways.keep hw.chg)) ?_
  repeat (first|refine g_op rfl ?_|refine g_then ?_|refine g_nil ?_|refine g_region ?_|refine g_seq ?_|refine g_alloc rfl fun _ _=>?_|refine g_storeAgg ?_)
  rw [show (!decide ((countsE a inp.length f).1 = 0)) = true by simp [hbad]]
  repeat (first|refine g_op rfl ?_|refine g_then ?_|refine g_nil ?_|refine g_region ?_|refine g_seq ?_|refine g_opS rfl ?_|refine g_pass rfl ?_|refine g_condT ?_|refine g_ret ?_|refine g_thenRet ?_)
  exact g_retV rfl rfl
 have hgood : (countsE a inp.length f).1 = 0:=by simpa using hbad
 refine g_callE (val:=fun x : Option Addr × Nat × (Nat→Prop)=>.tuple #[.agg #[.int .i64 (resultM a inp f).state,.int .i64 (resultM a inp f).value,.slice x.1 (resultM a inp f).out.length x.2.1,.int .i64 (resultM a inp f).steps],.agg #[.int .i64 0,.int .i64 0]]) (E:=fun x=>[⟨x.2.2,fun w=>SlAt w (.slice x.1 (resultM a inp f).out.length x.2.1) 1 (resultM a inp f).out IntV⟩]) (φ:=fun _=>True) rfl (fun w hw=>do_ok a hla _ _ _ inp f hgood w (hga0.keep keeps_global hw.chg) (hfa0.keep keeps_func hw.chg) (hin0.keep keeps_int hw.chg) (hways.keep hw.chg)) fun x _=>?_
 obtain ⟨oa,oc,op⟩:=x
 simp only [List.cons_append,List.nil_append]
 repeat (first|refine g_op rfl ?_|refine g_then ?_|refine g_nil ?_|refine g_region ?_|refine g_seq ?_|refine g_open ?_|refine g_alloc rfl fun _ _=>?_|refine g_storeAgg ?_)
 rw [show (!decide ((0 : Int) = 0)) = false by simp]
 repeat (first|refine g_op rfl ?_|refine g_then ?_|refine g_nil ?_)
 refine g_cond (fun h3=>?_) (fun h3=>?_)
 ·repeat (first|refine g_then ?_|refine g_nil ?_|refine g_region ?_|refine g_seq ?_|refine g_opS rfl ?_|refine g_ret ?_|refine g_thenRet ?_)
  exact g_retV rfl rfl
 obtain ⟨⟨h4,h5,h6,h7⟩,h8⟩:=hsame f hf2 hgood (by simpa using h3)
 repeat (first|refine g_op rfl ?_|refine g_then ?_|refine g_region ?_|refine g_seq ?_|refine g_skip ?_)
 refine g_callE (val:=fun x : Option Addr × Nat × (Nat→Prop)=>.tuple #[.agg #[.int .i64 (resultM b inp f).state,.int .i64 (resultM b inp f).value,.slice x.1 (resultM b inp f).out.length x.2.1,.int .i64 (resultM b inp f).steps],.agg #[.int .i64 0,.int .i64 0]]) (E:=fun x=>[⟨x.2.2,fun w=>SlAt w (.slice x.1 (resultM b inp f).out.length x.2.1) 1 (resultM b inp f).out IntV⟩]) (φ:=fun _=>True) rfl (fun w hw=>do_ok b hlb _ _ _ inp _ h4 w (hgb0.keep keeps_global hw.chg) (hfb0.keep keeps_func hw.chg) (hin0.keep keeps_int hw.chg) (hways.keep hw.chg)) fun x _=>?_
 obtain ⟨na,nc,np⟩:=x
 simp only [List.cons_append,List.nil_append]
 rw [h5,h6,h7]
 repeat (first|refine g_op rfl ?_|refine g_then ?_|refine g_nil ?_|refine g_region ?_|refine g_seq ?_|refine g_open ?_|refine g_alloc rfl fun _ _=>?_|refine g_storeAgg ?_)
 rw [show decide ((0 : Int) = 0) = true by simp]
 skip
 refine g_callV rfl (fun w hw=>comes_c _ _ _ _ _ _ _ _ _ w ?_ ?_) ?_
 ·exact hw.get (k:=5) rfl
 ·exact hw.get (k:=2) rfl
 repeat (first|refine g_op rfl ?_|refine g_then ?_|refine g_nil ?_|refine g_opS rfl ?_|refine g_open ?_|refine g_ret ?_)
 refine g_retV rfl ?_
 rw [show decide (((resultM b inp f).steps : Int) ≤ ((resultM a inp f).steps : Int)) = true by simp; omega]
end Go.Proofs.YtpadjpplidlfeaaGreatDoor
