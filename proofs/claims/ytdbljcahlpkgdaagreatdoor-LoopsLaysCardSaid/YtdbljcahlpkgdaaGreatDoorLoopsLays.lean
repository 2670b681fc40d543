/- Proved: for every unit, input and number of steps the law LoopsLays returns true, and its arguments read afterwards as before. -/
import Derived.Test.YtdbljcahlpkgdaaGreatDoorGH
import Derived.Test.YtdbljcahlpkgdaaGreatDoorKG
namespace Go.Proofs.YtdbljcahlpkgdaaGreatDoor
open Go Go.RowKit Go.ChangeShapes Go.WideShapes Go.ChangeAt

set_option maxRecDepth 100000 in
theorem loopsLays_contract (H : Type) (enc : TypeId × Value → H) (W : World) (base : Nat) (args : Array Value) (ds gs : List (DataW H)) (before : List MemPlace)
    (hval : ∀ (j : Nat) t v, Tryz.f3.params[j]? = some t → args[j]? = some v → Value.okWide Tryz.prog W .any base t v)
    (hW : DataW.Whole enc Tryz.prog Tryz.f3.params.toList Rows.loopsLaysSpec.vars false W args.toList ds gs before)
    (hz : (DataW.weightsEach Tryz.prog (Tryz.f3.params.toList ++ []) (ds ++ gs)).all (· ≤ reachBytes) = true) (hL : laidMetH Tryz.prog waysLaid W) :
    Calls Tryz.prog 3 args W fun e W' => ∃ v, e = .returned v ∧ Rows.loopsLaysSpec.post enc Tryz.prog Tryz.f3 false true false false W args v W' := by
  have hgs : gs = [] := by
    obtain ⟨p, q, _, hV, _⟩ := hW
    exact (trodVars_none hV).1
  subst hgs
  rw [List.append_nil, List.append_nil] at hz
  refine law_post (ts := [25]) (by rw [Tryz.params3]) rfl rfl (by intro t ht; simp only [List.mem_toArray, List.mem_cons, List.not_mem_nil, or_false] at ht; rcases ht with rfl <;> exact ⟨by kernel_rfl, of_decide_eq_true (by kernel_rfl)⟩) (fun hl => ?_) hW (fun p hp => ?_)
  · match ds, hl with
    | [d0], _ => rfl
  · obtain ⟨u, g, fs, rfl, hg, hf⟩ := open_u (params := Tryz.f3.params) rfl hval hp (sized_all hz)
    exact loopsLaysLaw_c u g fs  W hg hf  (ways_of hL)

set_option maxRecDepth 100000 in
theorem loopsLays_reads (os : Os) {H : Type} (enc : TypeId × Value → H) : ∃ places, DataW.whole enc Tryz.prog ((laidWorld os).forCall (fun _ _ => 0) ⟨#[], argsU, []⟩).memory Tryz.f3.params.toList Rows.loopsLaysSpec.vars false argsU.toList 8 = some ([.agg [.nil, .nil]], [], places) :=
  ⟨[], by kernel_rfl⟩
set_option maxRecDepth 100000 in
theorem loopsLays_lifted (os : Os) (started : os.Started) (H : Type) (enc : TypeId × Value → H) (F : Stop.Interp) :
    ReturnsInHanded {} Tryz.checked os 3 .any ((OpenSpec.ofChange Rows.loopsLaysSpec).preRow enc Tryz.prog Tryz.f3 Rows.loopsLaysRow.domain false Rows.loopsLaysRow.laid) (((OpenSpec.ofChange Rows.loopsLaysSpec).at F).post enc Tryz.prog Tryz.f3 false true false false) := by
  obtain ⟨places, hx⟩ := loopsLays_reads os enc
  refine returnsInHanded_of_row (C := Tryz.checked) (s := OpenSpec.ofChange Rows.loopsLaysSpec) own started (by kernel_rfl) Tryz.func3
    (witness_row_at (enc := enc) (C := Tryz.checked) false (laidWorld os) argsU rfl (by kernel_rfl) (by kernel_rfl) (by kernel_rfl)
      (OpenSpec.preRow_of_cond 8 hx (by kernel_rfl) (fun k hk => by cases hk) (by kernel_rfl) (laid_met os argsU))) ?_
  intro W base args ds gs before hval hW _ _ hz hL _ _
  exact loopsLays_contract H enc W base args ds gs before hval hW hz hL
set_option maxRecDepth 100000 in
theorem loopsLays_said : Rows.LoopsLaysSaid :=
  OpenClaim.holds_of_cond 3 Tryz.f3 rfl rfl rfl rfl rfl rfl rfl ⟨rfl, rfl, rfl, rfl, rfl⟩ rfl rfl rfl rfl rfl (by kernel_rfl) Tryz.func3 (by kernel_rfl)
    (of_decide_eq_true (by kernel_rfl)) (by unfold Func.isWrapper; first | (rw [if_pos (by decide +kernel)]; kernel_rfl) | (rw [if_neg (by decide +kernel)]; exact ⟨rfl, rfl⟩))
    (fun os started H enc _ F => by rw [OpenClaim.pre_eq_preRow]; exact loopsLays_lifted os started H enc F)
theorem loopsLays_plain (f : FuncId) (fn : Func) (hf : Tryz.pinned.checked.prog.funcNamed "turnery/turnerylaw3.LoopsLays" = some f) (hfn : Tryz.pinned.checked.prog.funcs[f]? = some fn) :
    false = Tryz.pinned.checked.prog.looks [] ∧ ∀ (j : Nat) t, fn.params[j]? = some t → Tryz.pinned.checked.prog.wantsStandIn t = false := by
  obtain rfl : f = 3 := Option.some.inj ((show Tryz.prog.funcNamed "turnery/turnerylaw3.LoopsLays" = some 3 by kernel_rfl).symm.trans hf) |>.symm
  obtain rfl : fn = Tryz.f3 := (Option.some.inj (Tryz.func3.symm.trans hfn)).symm
  refine ⟨by kernel_rfl, fun j t ht => ?_⟩
  rw [Tryz.params3] at ht
  have ht := Array.mem_of_getElem? ht
  simp only [List.mem_toArray, List.mem_cons, List.not_mem_nil, or_false] at ht
  rcases ht with rfl
  · exact (show Tryz.prog.wantsStandIn 25 = false by kernel_rfl)
theorem loopsLays_card : Rows.LoopsLaysCardSaid :=
  Claim7.holds_tied_plain_at .later [] _ _ _ _ loopsLays_said (fun _ h => by cases h) (by kernel_rfl) (fun _ h => by cases h) loopsLays_row_tie rfl ⟨rfl, rfl⟩ (by kernel_rfl) rfl loopsLays_plain (by kernel_rfl)
end Go.Proofs.YtdbljcahlpkgdaaGreatDoor
