/- Proved: for every unit, input and number of steps the law SsaChecks returns true, and its arguments read afterwards as before. -/
import Derived.Test.YtdbljcahlpkgdaaDoorGH
import Derived.Test.YtdbljcahlpkgdaaDoorLF
namespace Go.Proofs.YtdbljcahlpkgdaaDoor
open Go Go.RowKit Go.ChangeShapes Go.WideShapes Go.ChangeAt

set_option maxRecDepth 100000 in
theorem ssaChecks_contract (H : Type) (enc : TypeId × Value → H) (W : World) (base : Nat) (args : Array Value) (ds gs : List (DataW H)) (before : List MemPlace)
    (hval : ∀ (j : Nat) t v, Tryd.f3.params[j]? = some t → args[j]? = some v → Value.okWide Tryd.prog W .any base t v)
    (hW : DataW.Whole enc Tryd.prog Tryd.f3.params.toList Rows.ssaChecksSpec.vars false W args.toList ds gs before)
    (hz : (DataW.weightsEach Tryd.prog (Tryd.f3.params.toList ++ []) (ds ++ gs)).all (· ≤ reachBytes) = true) (hL : laidMetH Tryd.prog waysLaid W) :
    Calls Tryd.prog 3 args W fun e W' => ∃ v, e = .returned v ∧ Rows.ssaChecksSpec.post enc Tryd.prog Tryd.f3 false true false false W args v W' := by
  have hgs : gs = [] := by
    obtain ⟨p, q, _, hV, _⟩ := hW
    exact (trodVars_none hV).1
  subst hgs
  rw [List.append_nil, List.append_nil] at hz
  refine law_post (ts := [25]) (by rw [Tryd.params3]) rfl rfl (by intro t ht; simp only [List.mem_toArray, List.mem_cons, List.not_mem_nil, or_false] at ht; rcases ht with rfl <;> exact ⟨by kernel_rfl, of_decide_eq_true (by kernel_rfl)⟩) (fun hl => ?_) hW (fun p hp => ?_)
  · match ds, hl with
    | [d0], _ => rfl
  · obtain ⟨u, g, fs, rfl, hg, hf⟩ := open_u (params := Tryd.f3.params) rfl hval hp (sized_all hz)
    exact ssaChecksLaw_c u g fs  W hg hf  (ways_of hL)

set_option maxRecDepth 100000 in
theorem ssaChecks_reads (os : Os) {H : Type} (enc : TypeId × Value → H) : ∃ places, DataW.whole enc Tryd.prog ((laidWorld os).forCall (fun _ _ => 0) ⟨#[], argsU, []⟩).memory Tryd.f3.params.toList Rows.ssaChecksSpec.vars false argsU.toList 8 = some ([.agg [.nil, .nil]], [], places) :=
  ⟨[], by kernel_rfl⟩
set_option maxRecDepth 100000 in
theorem ssaChecks_lifted (os : Os) (started : os.Started) (H : Type) (enc : TypeId × Value → H) (F : Stop.Interp) :
    ReturnsInHanded {} Tryd.checked os 3 .any ((OpenSpec.ofChange Rows.ssaChecksSpec).preRow enc Tryd.prog Tryd.f3 Rows.ssaChecksRow.domain false Rows.ssaChecksRow.laid) (((OpenSpec.ofChange Rows.ssaChecksSpec).at F).post enc Tryd.prog Tryd.f3 false true false false) := by
  obtain ⟨places, hx⟩ := ssaChecks_reads os enc
  refine returnsInHanded_of_row (C := Tryd.checked) (s := OpenSpec.ofChange Rows.ssaChecksSpec) own started (by kernel_rfl) Tryd.func3
    (witness_row_at (enc := enc) (C := Tryd.checked) false (laidWorld os) argsU rfl (by kernel_rfl) (by kernel_rfl) (by kernel_rfl)
      (OpenSpec.preRow_of_cond 8 hx (by kernel_rfl) (fun k hk => by cases hk) (by kernel_rfl) (laid_met os argsU))) ?_
  intro W base args ds gs before hval hW _ _ hz hL _ _
  exact ssaChecks_contract H enc W base args ds gs before hval hW hz hL
set_option maxRecDepth 100000 in
theorem ssaChecks_said : Rows.SsaChecksSaid :=
  OpenClaim.holds_of_cond 3 Tryd.f3 rfl rfl rfl rfl rfl rfl rfl ⟨rfl, rfl, rfl, rfl, rfl⟩ rfl rfl rfl rfl rfl (by kernel_rfl) Tryd.func3 (by kernel_rfl)
    (of_decide_eq_true (by kernel_rfl)) (by unfold Func.isWrapper; first | (rw [if_pos (by decide +kernel)]; kernel_rfl) | (rw [if_neg (by decide +kernel)]; exact ⟨rfl, rfl⟩))
    (fun os started H enc _ F => by rw [OpenClaim.pre_eq_preRow]; exact ssaChecks_lifted os started H enc F)
theorem ssaChecks_plain (f : FuncId) (fn : Func) (hf : Tryd.pinned.checked.prog.funcNamed "turnery/turnerylaw3.SsaChecks" = some f) (hfn : Tryd.pinned.checked.prog.funcs[f]? = some fn) :
    false = Tryd.pinned.checked.prog.looks [] ∧ ∀ (j : Nat) t, fn.params[j]? = some t → Tryd.pinned.checked.prog.wantsStandIn t = false := by
  obtain rfl : f = 3 := Option.some.inj ((show Tryd.prog.funcNamed "turnery/turnerylaw3.SsaChecks" = some 3 by kernel_rfl).symm.trans hf) |>.symm
  obtain rfl : fn = Tryd.f3 := (Option.some.inj (Tryd.func3.symm.trans hfn)).symm
  refine ⟨by kernel_rfl, fun j t ht => ?_⟩
  rw [Tryd.params3] at ht
  have ht := Array.mem_of_getElem? ht
  simp only [List.mem_toArray, List.mem_cons, List.not_mem_nil, or_false] at ht
  rcases ht with rfl
  · exact (show Tryd.prog.wantsStandIn 25 = false by kernel_rfl)
theorem ssaChecks_card : Rows.SsaChecksCardSaid :=
  Claim7.holds_tied_plain_at .later [] _ _ _ _ ssaChecks_said (fun _ h => by cases h) (by kernel_rfl) (fun _ h => by cases h) ssaChecks_row_tie rfl ⟨rfl, rfl⟩ (by kernel_rfl) rfl ssaChecks_plain (by kernel_rfl)
end Go.Proofs.YtdbljcahlpkgdaaDoor
