/- Proved: for every unit, input and number of steps the law DomRuns returns true, and its arguments read afterwards as before. -/
import Derived.Test.YtbmnkjaelfjlhaaDoorHG
import Derived.Test.YtbmnkjaelfjlhaaDoorHH
namespace Go.Proofs.YtbmnkjaelfjlhaaDoor
open Go Go.RowKit Go.ChangeShapes Go.WideShapes Go.ChangeAt

set_option maxRecDepth 100000 in
theorem domRuns_contract (H : Type) (enc : TypeId × Value → H) (W : World) (base : Nat) (args : Array Value) (ds gs : List (DataW H)) (before : List MemPlace)
    (hval : ∀ (j : Nat) t v, Tryd.f7.params[j]? = some t → args[j]? = some v → Value.okWide Tryd.prog W .any base t v)
    (hW : DataW.Whole enc Tryd.prog Tryd.f7.params.toList Rows.domRunsSpec.vars false W args.toList ds gs before)
    (hz : (DataW.weightsEach Tryd.prog (Tryd.f7.params.toList ++ []) (ds ++ gs)).all (· ≤ reachBytes) = true) (hL : laidMetH Tryd.prog waysLaid W) :
    Calls Tryd.prog 7 args W fun e W' => ∃ v, e = .returned v ∧ Rows.domRunsSpec.post enc Tryd.prog Tryd.f7 false true false false W args v W' := by
  have hgs : gs = [] := by
    obtain ⟨p, q, _, hV, _⟩ := hW
    exact (trodVars_none hV).1
  subst hgs
  rw [List.append_nil, List.append_nil] at hz
  refine law_post (ts := [25, 38, 3]) (by rw [Tryd.params7]) rfl rfl (by intro t ht; simp at ht; rcases ht with rfl | rfl | rfl <;> exact ⟨by kernel_rfl, of_decide_eq_true (by kernel_rfl)⟩) (fun hl => ?_) hW (fun p hp => ?_)
  · match ds, hl with
    | [d0, d1, d2], _ => rfl
  · obtain ⟨u, g, fs, v, l, k, rfl, hg, hf, hs, _⟩ := open_uli (params := Tryd.f7.params) rfl hval hp (sized_all hz)
    exact runsLaw_c u l k g fs v W hg hf hs (ways_of hL)

set_option maxRecDepth 100000 in
theorem domRuns_reads (os : Os) {H : Type} (enc : TypeId × Value → H) : ∃ places, DataW.whole enc Tryd.prog ((laidWorld os).forCall (fun _ _ => 0) ⟨#[], argsULI, []⟩).memory Tryd.f7.params.toList Rows.domRunsSpec.vars false argsULI.toList 8 = some ([.agg [.nil, .nil], .nil, .lit (.int .i64 0)], [], places) :=
  ⟨[], by kernel_rfl⟩
set_option maxRecDepth 100000 in
theorem domRuns_lifted (os : Os) (started : os.Started) (H : Type) (enc : TypeId × Value → H) (F : Stop.Interp) :
    ReturnsInHanded {} Tryd.checked os 7 .any ((OpenSpec.ofChange Rows.domRunsSpec).preRow enc Tryd.prog Tryd.f7 Rows.domRunsRow.domain false Rows.domRunsRow.laid) (((OpenSpec.ofChange Rows.domRunsSpec).at F).post enc Tryd.prog Tryd.f7 false true false false) := by
  obtain ⟨places, hx⟩ := domRuns_reads os enc
  refine returnsInHanded_of_row (C := Tryd.checked) (s := OpenSpec.ofChange Rows.domRunsSpec) own started (by kernel_rfl) Tryd.func7
    (witness_row_at (enc := enc) (C := Tryd.checked) false (laidWorld os) argsULI rfl (by kernel_rfl) (by kernel_rfl) (by kernel_rfl)
      (OpenSpec.preRow_of_cond 8 hx (by kernel_rfl) (fun k hk => by cases hk) (by kernel_rfl) (laid_met os argsULI))) ?_
  intro W base args ds gs before hval hW _ _ hz hL _ _
  exact domRuns_contract H enc W base args ds gs before hval hW hz hL
set_option maxRecDepth 100000 in
theorem domRuns_said : Rows.DomRunsSaid :=
  OpenClaim.holds_of_cond 7 Tryd.f7 rfl rfl rfl rfl rfl rfl rfl ⟨rfl, rfl, rfl, rfl, rfl⟩ rfl rfl rfl rfl rfl (by kernel_rfl) Tryd.func7 (by kernel_rfl)
    (of_decide_eq_true (by kernel_rfl)) (by unfold Func.isWrapper; first | (rw [if_pos (by decide +kernel)]; kernel_rfl) | (rw [if_neg (by decide +kernel)]; exact ⟨rfl, rfl⟩))
    (fun os started H enc _ F => by rw [OpenClaim.pre_eq_preRow]; exact domRuns_lifted os started H enc F)
theorem domRuns_plain (f : FuncId) (fn : Func) (hf : Tryd.pinned.checked.prog.funcNamed "turnery/turnerylaw3.DomRuns" = some f) (hfn : Tryd.pinned.checked.prog.funcs[f]? = some fn) :
    false = Tryd.pinned.checked.prog.looks [] ∧ ∀ (j : Nat) t, fn.params[j]? = some t → Tryd.pinned.checked.prog.wantsStandIn t = false := by
  obtain rfl : f = 7 := Option.some.inj ((show Tryd.prog.funcNamed "turnery/turnerylaw3.DomRuns" = some 7 by kernel_rfl).symm.trans hf) |>.symm
  obtain rfl : fn = Tryd.f7 := (Option.some.inj (Tryd.func7.symm.trans hfn)).symm
  refine ⟨by kernel_rfl, fun j t ht => ?_⟩
  rw [Tryd.params7] at ht
  have ht := Array.mem_of_getElem? ht
  simp at ht
  rcases ht with rfl | rfl | rfl
  · exact (show Tryd.prog.wantsStandIn 25 = false by kernel_rfl)
  · exact (show Tryd.prog.wantsStandIn 38 = false by kernel_rfl)
  · exact (show Tryd.prog.wantsStandIn 3 = false by kernel_rfl)
theorem domRuns_card : Rows.DomRunsCardSaid :=
  Claim7.holds_tied_plain_at .later [] _ _ _ _ domRuns_said (fun _ h => by cases h) (by kernel_rfl) (fun _ h => by cases h) domRuns_row_tie rfl ⟨rfl, rfl⟩ (by kernel_rfl) rfl domRuns_plain (by kernel_rfl)
end Go.Proofs.YtbmnkjaelfjlhaaDoor
