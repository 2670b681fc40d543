/- Texts joined: TidyG TidyH. -/
import Derived.Test.YtpadjpplidlfeaaGreatDoorIO
import Derived.Test.YtpadjpplidlfeaaGreatDoorIR
namespace Go.Proofs.YtpadjpplidlfeaaGreatDoor
open Go Go.RowKit
attribute [local irreducible] wpListIn Code.wpIn Exit.then Exit.inBlock bodyPost wpQuiet wpAnyIn wpAnyH bodyPostM oneH
set_option maxHeartbeats 4000000
theorem tidyStepsLaw_c (u : LUnit) (inp : List Int) (fuel : Int) (_hk : inI fuel) (g fs iv : Value) (w0 : World) (hg : SlAt w0 g 3 u.globals GlobalV) (hf : SlAt w0 fs 4 u.funcs FuncV) (hin : SlAt w0 iv 1 inp IntV) (hways : CellsAt w0 0 0 waysC) :
  RetV Tryz.prog 6 [.agg #[g,fs],iv,.int .i64 fuel] w0 (.bool true):=by
 classical
 have hg0:=hg
 have hf0:=hf
 have hin0:=hin
 obtain ⟨ga,gn,gc,gb,go,rfl,hgn,_⟩:=hg
 obtain ⟨fa,fn,fc,fb,fo,rfl,hfn,hfnc,hfnb,hfc,hfa,hfel⟩:=hf
 obtain ⟨ia,il,ic,_,_,rfl,_⟩:=hin
 refine ret_enter Tryz.func6 rfl Tryz.ntmps6 rfl (Wd.nil NoS w0) ?_
 repeat (first|refine g_op rfl ?_|refine g_then ?_|refine g_nil ?_|refine g_region ?_|refine g_seq ?_|refine g_box rfl fun _ _=>?_)
 rename_i p3 _
 refine g_callE (val:=fun b : Bool=>.bool b) (E:=fun _=>[]) (φ:=fun b=>b = false→slim u) rfl (fun w hw=>heavyS_c u _ _ w (hf0.keep keeps_func hw.chg) ⟨_,_,_,rfl⟩) fun b hb=>?_
 simp only [List.nil_append]
 cases b
 case true =>
  repeat (first|refine g_then ?_|refine g_nil ?_|refine g_region ?_|refine g_seq ?_|refine g_opS rfl ?_|refine g_condT ?_|refine g_ret ?_|refine g_thenRet ?_)
  exact g_retV rfl rfl
 have hsl:=hb rfl
 have hl:=hsl.light
 repeat (first|refine g_op rfl ?_|refine g_then ?_|refine g_nil ?_|refine g_region ?_|refine g_seq ?_|refine g_skip ?_|refine g_condF ?_)
 by_cases hbad : (checkL u).1 ≠ 0
 ·refine g_callV rfl (fun w hw=>do_bad' u hl hbad _ _ w (hg0.keep keeps_global hw.chg) (hf0.keep keeps_func hw.chg) (hways.keep hw.chg)) ?_
  repeat (first|refine g_op rfl ?_|refine g_then ?_|refine g_nil ?_|refine g_region ?_|refine g_seq ?_|refine g_alloc rfl fun _ _=>?_|refine g_storeAgg ?_)
  refine g_cond (fun h1=>?_) (fun h1=>?_)
  ·repeat (first|refine g_op rfl ?_|refine g_region ?_|refine g_seq ?_)
   refine g_callV rfl (fun w hw=>noneE_c w) ?_
   repeat (first|refine g_then ?_|refine g_nil ?_|refine g_opS rfl ?_|refine g_ret ?_|refine g_thenRet ?_)
   exact g_retV rfl rfl
  ·exact absurd h1 (by simp [hbad])
 have hch : (checkL u).1 = 0:=by simpa using hbad
 have hu : Whole u:=⟨check_zero.1 hch,nums_of hf0,gnums_of hg0⟩
 have hu2:=(tidyU_whole hu).1
 have hmore:=(tidyU_whole hu).2
 have hl2:=check_light hu2.ok
 have hfn2 : (tidyU u).funcs.length = u.funcs.length:=by unfold tidyU; rw [List.length_map]
 refine g_callE (val:=(fun x : (Option Addr × Nat) × (Option Addr × Nat) × (Nat→Prop)=>Value.tuple #[.agg #[.slice x.1.1 gn x.1.2,.slice x.2.1.1 fn x.2.1.2],.agg #[.int .i64 0,.int .i64 0]])) (E:=(fun x : (Option Addr × Nat) × (Option Addr × Nat) × (Nat→Prop)=>[unitE (tidyU u) (.slice x.1.1 gn x.1.2) (.slice x.2.1.1 fn x.2.1.2) x.2.2])) (φ:=fun _=>True) rfl (fun w hw=>by rw [hgn,hfn]; exact tidyDo_ok u hl hu.ok hch (tidyU_small hu.ok) _ _ w (by rw [← hgn]; exact hg0.keep keeps_global hw.chg) (by rw [← hfn]; exact hf0.keep keeps_func hw.chg) (hways.keep hw.chg)) fun x _=>?_
 obtain ⟨⟨ya,yc⟩,⟨za,zc⟩,fp⟩:=x
 simp only [List.cons_append,List.nil_append]
 repeat (first|refine g_op rfl ?_|refine g_then ?_|refine g_nil ?_|refine g_region ?_|refine g_seq ?_|refine g_alloc rfl fun _ _=>?_|refine g_storeAgg ?_|refine g_skip ?_|refine g_condF ?_)
 rename_i p7 _ p8 _
 have hfpos : 0 < u.funcs.length:=by
  have h1:=hu.ok.main
  cases hfs : u.funcs with
  | nil=>rw [hfs] at h1; exact absurd h1 (by decide)
  | cons _ _=>simp
 refine g_callV rfl (fun w hw=>none_c _ _ (tidyU u) w (hw.get (k:=2) rfl).1 (hw.get (k:=2) rfl).2) ?_
 rw [show (decide ((tidyU u).globals.length = 0) && decide ((tidyU u).funcs.length = 0)) = false by rw [hfn2,decide_eq_false (show ¬ u.funcs.length = 0 by omega),Bool.and_false]]
 repeat (first|refine g_op rfl ?_|refine g_open ?_)
 have hini : ∀ x ∈ inp,inI x:=fun x hx=>by obtain ⟨_,_,h9⟩:=hin0.el hx; exact h9
 refine g_callV rfl (fun w hw=>endsRun_c u (tidyU u) hl hl2 _ _ _ _ _ inp fuel w (hg0.keep keeps_global hw.chg) (hf0.keep keeps_func hw.chg) (hw.get (k:=2) rfl).1 (hw.get (k:=2) rfl).2 (hin0.keep keeps_int hw.chg) (hways.keep hw.chg) fun f hf2 hc0 hst=>⟨noMore_comes hmore hu2.ok hini hc0 hst (Nat.le_refl _) (by omega),(hmore inp f f hini hst (Nat.le_refl _)).2⟩) ?_
 repeat (first|refine g_op rfl ?_|refine g_then ?_|refine g_nil ?_|refine g_opS rfl ?_|refine g_ret ?_)
 exact g_retV rfl rfl
end Go.Proofs.YtpadjpplidlfeaaGreatDoor
