/- Texts joined: DoG. -/
import Derived.Test.YtbmnkjaelfjlhaaDoorHS
/- turnerylaw3.ends and the law LiveSteps: after live.Do no run takes more steps. -/
namespace Go.Proofs.YtbmnkjaelfjlhaaDoor
open Go Go.RowKit
attribute [local irreducible] wpListIn Code.wpIn Exit.then Exit.inBlock bodyPost wpQuiet wpAnyIn wpAnyH bodyPostM oneH
set_option maxHeartbeats 4000000

theorem endsRun_c (a b : LUnit) (hla : light a) (hlb : light b) (ga fa gb fb iv : Value) (inp : List Int) (fuel : Int) (w0 : World) (hga : SlAt w0 ga 3 a.globals GlobalV) (hfa : SlAt w0 fa 4 a.funcs FuncV) (hgb : SlAt w0 gb 3 b.globals GlobalV) (hfb : SlAt w0 fb 4 b.funcs FuncV) (hin : SlAt w0 iv 1 inp IntV) (hways : CellsAt w0 0 0 waysC)
    (hsame : ∀ f : Nat, f ≤ 2000 → (countsE a inp.length f).1 = 0 → (resultM a inp f).state ≠ 1 → Comes a b inp f f ∧ (resultM b inp f).steps ≤ (resultM a inp f).steps) :
    RetV Tryd.prog 34 [.agg #[ga, fa], .agg #[gb, fb], iv, .int .i64 fuel] w0 (.bool true) := by
  have hga0 := hga
  have hfa0 := hfa
  have hgb0 := hgb
  have hfb0 := hfb
  have hin0 := hin
  obtain ⟨ga1, gan, gac, _, _, rfl, _⟩ := hga
  obtain ⟨fa1, fan, fac, _, _, rfl, _⟩ := hfa
  obtain ⟨gb1, gbn, gbc, _, _, rfl, _⟩ := hgb
  obtain ⟨fb1, fbn, fbc, _, _, rfl, _⟩ := hfb
  obtain ⟨ia, il, ic, _, _, rfl, _⟩ := hin
  refine ret_enter Tryd.func34 rfl Tryd.ntmps34 rfl (Wd.nil NoS w0) ?_
  repeat (first | refine g_op rfl ?_ | refine g_then ?_ | refine g_nil ?_ | refine g_region ?_ | refine g_seq ?_ | refine g_box rfl fun _ _ => ?_)
  by_cases h1 : fuel < 0
  · rw [show decide (fuel < 0) = true by simp [h1]]
    repeat (first | refine g_op rfl ?_ | refine g_then ?_ | refine g_nil ?_ | refine g_region ?_ | refine g_seq ?_ | refine g_opS rfl ?_ | refine g_pass rfl ?_ | refine g_condT ?_ | refine g_ret ?_ | refine g_thenRet ?_)
    exact g_retV rfl rfl
  rw [show decide (fuel < 0) = false by simp [h1]]
  repeat (first | refine g_op rfl ?_ | refine g_then ?_ | refine g_nil ?_ | refine g_open ?_)
  refine g_cond (fun h2 => ?_) (fun h2 => ?_)
  · repeat (first | refine g_then ?_ | refine g_nil ?_ | refine g_region ?_ | refine g_seq ?_ | refine g_opS rfl ?_ | refine g_ret ?_ | refine g_thenRet ?_)
    exact g_retV rfl rfl
  obtain ⟨f, rfl⟩ : ∃ f : Nat, fuel = f := ⟨fuel.toNat, by omega⟩
  have hf2 : f ≤ 2000 := by simp at h2; omega
  repeat (first | refine g_op rfl ?_ | refine g_then ?_ | refine g_region ?_ | refine g_seq ?_ | refine g_skip ?_)
  by_cases hbad : (countsE a inp.length f).1 ≠ 0
  · refine g_callV rfl (fun w hw => do_bad a hla _ _ _ inp f hbad w (hga0.keep keeps_global hw.chg) (hfa0.keep keeps_func hw.chg) (hin0.keep keeps_int hw.chg) (hways.keep hw.chg)) ?_
    repeat (first | refine g_op rfl ?_ | refine g_then ?_ | refine g_nil ?_ | refine g_region ?_ | refine g_seq ?_ | refine g_alloc rfl fun _ _ => ?_ | refine g_storeAgg ?_)
    rw [show (!decide ((countsE a inp.length f).1 = 0)) = true by simp [hbad]]
    repeat (first | refine g_op rfl ?_ | refine g_then ?_ | refine g_nil ?_ | refine g_region ?_ | refine g_seq ?_ | refine g_opS rfl ?_ | refine g_pass rfl ?_ | refine g_condT ?_ | refine g_ret ?_ | refine g_thenRet ?_)
    exact g_retV rfl rfl
  have hgood : (countsE a inp.length f).1 = 0 := by simpa using hbad
  refine g_callE (val := fun x : Option Addr × Nat × (Nat → Prop) => .tuple #[.agg #[.int .i64 (resultM a inp f).state, .int .i64 (resultM a inp f).value, .slice x.1 (resultM a inp f).out.length x.2.1, .int .i64 (resultM a inp f).steps], .agg #[.int .i64 0, .int .i64 0]]) (E := fun x => [⟨x.2.2, fun w => SlAt w (.slice x.1 (resultM a inp f).out.length x.2.1) 1 (resultM a inp f).out IntV⟩]) (φ := fun _ => True) rfl (fun w hw => do_ok a hla _ _ _ inp f hgood w (hga0.keep keeps_global hw.chg) (hfa0.keep keeps_func hw.chg) (hin0.keep keeps_int hw.chg) (hways.keep hw.chg)) fun x _ => ?_
  obtain ⟨oa, oc, op⟩ := x
  simp only [List.cons_append, List.nil_append]
  repeat (first | refine g_op rfl ?_ | refine g_then ?_ | refine g_nil ?_ | refine g_region ?_ | refine g_seq ?_ | refine g_open ?_ | refine g_alloc rfl fun _ _ => ?_ | refine g_storeAgg ?_)
  rw [show (!decide ((0 : Int) = 0)) = false by simp]
  repeat (first | refine g_op rfl ?_ | refine g_then ?_ | refine g_nil ?_)
  refine g_cond (fun h3 => ?_) (fun h3 => ?_)
  · repeat (first | refine g_then ?_ | refine g_nil ?_ | refine g_region ?_ | refine g_seq ?_ | refine g_opS rfl ?_ | refine g_ret ?_ | refine g_thenRet ?_)
    exact g_retV rfl rfl
  obtain ⟨⟨h4, h5, h6, h7⟩, h8⟩ := hsame f hf2 hgood (by simpa using h3)
  repeat (first | refine g_op rfl ?_ | refine g_then ?_ | refine g_region ?_ | refine g_seq ?_ | refine g_skip ?_)
  refine g_callE (val := fun x : Option Addr × Nat × (Nat → Prop) => .tuple #[.agg #[.int .i64 (resultM b inp f).state, .int .i64 (resultM b inp f).value, .slice x.1 (resultM b inp f).out.length x.2.1, .int .i64 (resultM b inp f).steps], .agg #[.int .i64 0, .int .i64 0]]) (E := fun x => [⟨x.2.2, fun w => SlAt w (.slice x.1 (resultM b inp f).out.length x.2.1) 1 (resultM b inp f).out IntV⟩]) (φ := fun _ => True) rfl (fun w hw => do_ok b hlb _ _ _ inp _ h4 w (hgb0.keep keeps_global hw.chg) (hfb0.keep keeps_func hw.chg) (hin0.keep keeps_int hw.chg) (hways.keep hw.chg)) fun x _ => ?_
  obtain ⟨na, nc, np⟩ := x
  simp only [List.cons_append, List.nil_append]
  rw [h5, h6, h7]
  repeat (first | refine g_op rfl ?_ | refine g_then ?_ | refine g_nil ?_ | refine g_region ?_ | refine g_seq ?_ | refine g_open ?_ | refine g_alloc rfl fun _ _ => ?_ | refine g_storeAgg ?_)
  rw [show decide ((0 : Int) = 0) = true by simp]
  skip
  refine g_callV rfl (fun w hw => comes_c _ _ _ _ _ _ _ _ _ w ?_ ?_) ?_
  · exact hw.get (k := 5) rfl
  · exact hw.get (k := 2) rfl
  repeat (first | refine g_op rfl ?_ | refine g_then ?_ | refine g_nil ?_ | refine g_opS rfl ?_ | refine g_open ?_ | refine g_ret ?_)
  refine g_retV rfl ?_
  rw [show decide (((resultM b inp f).steps : Int) ≤ ((resultM a inp f).steps : Int)) = true by simp; omega]
theorem liveStepsLaw_c (u : LUnit) (inp : List Int) (fuel : Int) (_hk : inI fuel) (g fs iv : Value) (w0 : World) (hg : SlAt w0 g 3 u.globals GlobalV) (hf : SlAt w0 fs 4 u.funcs FuncV) (hin : SlAt w0 iv 1 inp IntV) (hways : CellsAt w0 0 0 waysC) :
    RetV Tryd.prog 12 [.agg #[g, fs], iv, .int .i64 fuel] w0 (.bool true) := by
  classical
  have hg0 := hg
  have hf0 := hf
  have hin0 := hin
  obtain ⟨ga, gn, gc, gb, go, rfl, hgn, _⟩ := hg
  obtain ⟨fa, fn, fc, fb, fo, rfl, hfn, hfnc, hfnb, hfc, hfa, hfel⟩ := hf
  obtain ⟨ia, il, ic, _, _, rfl, _⟩ := hin
  refine ret_enter Tryd.func12 rfl Tryd.ntmps12 rfl (Wd.nil NoS w0) ?_
  repeat (first | refine g_op rfl ?_ | refine g_then ?_ | refine g_nil ?_ | refine g_region ?_ | refine g_seq ?_ | refine g_box rfl fun _ _ => ?_)
  rename_i p3 _
  refine g_callE (val := fun b : Bool => .bool b) (E := fun _ => []) (φ := fun b => b = false → slim u) rfl (fun w hw => heavyS_c u _ _ w (hf0.keep keeps_func hw.chg) ⟨_, _, _, rfl⟩) fun b hb => ?_
  simp only [List.nil_append]
  cases b
  case true =>
    repeat (first | refine g_then ?_ | refine g_nil ?_ | refine g_region ?_ | refine g_seq ?_ | refine g_opS rfl ?_ | refine g_condT ?_ | refine g_ret ?_ | refine g_thenRet ?_)
    exact g_retV rfl rfl
  have hsl := hb rfl
  have hl := hsl.light
  repeat (first | refine g_op rfl ?_ | refine g_then ?_ | refine g_nil ?_ | refine g_region ?_ | refine g_seq ?_ | refine g_skip ?_ | refine g_condF ?_)
  by_cases hbad : (checkL u).1 ≠ 0
  · refine g_callV rfl (fun w hw => liveDo_bad u hl hbad _ _ w (hg0.keep keeps_global hw.chg) (hf0.keep keeps_func hw.chg) (hways.keep hw.chg)) ?_
    repeat (first | refine g_op rfl ?_ | refine g_then ?_ | refine g_nil ?_ | refine g_region ?_ | refine g_seq ?_ | refine g_alloc rfl fun _ _ => ?_ | refine g_storeAgg ?_)
    refine g_cond (fun h1 => ?_) (fun h1 => ?_)
    · repeat (first | refine g_op rfl ?_ | refine g_region ?_ | refine g_seq ?_)
      refine g_callV rfl (fun w hw => noneE_c w) ?_
      repeat (first | refine g_then ?_ | refine g_nil ?_ | refine g_opS rfl ?_ | refine g_ret ?_ | refine g_thenRet ?_)
      exact g_retV rfl rfl
    · exact absurd h1 (by simp [hbad])
  have hu : Whole u := ⟨check_zero.1 (by simpa using hbad), nums_of hf0, gnums_of hg0⟩
  have hu2 := (trimU_whole hu).1
  have hmore := (trimU_whole hu).2
  have hl2 := check_light hu2.ok
  have hfn2 : (trimU u).funcs.length = u.funcs.length := by unfold trimU; rw [List.length_map]
  refine g_callE (val := (fun x : (Option Addr × Nat) × (Option Addr × Nat) × (Nat → Prop) => Value.tuple #[.agg #[.slice x.1.1 gn x.1.2, .slice x.2.1.1 fn x.2.1.2], .agg #[.int .i64 0, .int .i64 0]])) (E := (fun x : (Option Addr × Nat) × (Option Addr × Nat) × (Nat → Prop) => [unitE (trimU u) (.slice x.1.1 gn x.1.2) (.slice x.2.1.1 fn x.2.1.2) x.2.2])) (φ := fun _ => True) rfl (fun w hw => by rw [hgn, hfn]; exact liveDo_ok u hl hu _ _ w (by rw [← hgn]; exact hg0.keep keeps_global hw.chg) (by rw [← hfn]; exact hf0.keep keeps_func hw.chg) (hways.keep hw.chg)) fun x _ => ?_
  obtain ⟨⟨ya, yc⟩, ⟨za, zc⟩, fp⟩ := x
  simp only [List.cons_append, List.nil_append]
  repeat (first | refine g_op rfl ?_ | refine g_then ?_ | refine g_nil ?_ | refine g_region ?_ | refine g_seq ?_ | refine g_alloc rfl fun _ _ => ?_ | refine g_storeAgg ?_ | refine g_skip ?_ | refine g_condF ?_)
  rename_i p7 _ p8 _
  have hfpos : 0 < u.funcs.length := by
    have h1 := hu.ok.main
    cases hfs : u.funcs with
    | nil => rw [hfs] at h1; exact absurd h1 (by decide)
    | cons _ _ => simp
  refine g_callV rfl (fun w hw => none_c _ _ (trimU u) w (hw.get (k := 2) rfl).1 (hw.get (k := 2) rfl).2) ?_
  rw [show (decide ((trimU u).globals.length = 0) && decide ((trimU u).funcs.length = 0)) = false by rw [hfn2, decide_eq_false (show ¬ u.funcs.length = 0 by omega), Bool.and_false]]
  repeat (first | refine g_op rfl ?_ | refine g_open ?_)
  have hini : ∀ x ∈ inp, inI x := fun x hx => by obtain ⟨_, _, h9⟩ := hin0.el hx; exact h9
  refine g_callV rfl (fun w hw => endsRun_c u (trimU u) hl hl2 _ _ _ _ _ inp fuel w (hg0.keep keeps_global hw.chg) (hf0.keep keeps_func hw.chg) (hw.get (k := 2) rfl).1 (hw.get (k := 2) rfl).2 (hin0.keep keeps_int hw.chg) (hways.keep hw.chg) fun f hf2 hc0 hst => ⟨noMore_comes hmore hu2.ok hini hc0 hst (Nat.le_refl _) (by omega), (hmore inp f f hini hst (Nat.le_refl _)).2⟩) ?_
  repeat (first | refine g_op rfl ?_ | refine g_then ?_ | refine g_nil ?_ | refine g_opS rfl ?_ | refine g_ret ?_)
  exact g_retV rfl rfl
end Go.Proofs.YtbmnkjaelfjlhaaDoor

