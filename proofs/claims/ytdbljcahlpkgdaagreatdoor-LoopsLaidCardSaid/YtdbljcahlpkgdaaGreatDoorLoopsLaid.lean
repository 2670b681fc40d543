/- Proved: for every unit, input and number of steps the law LoopsLaid returns true, and its arguments read afterwards as before. -/
import Derived.Test.YtdbljcahlpkgdaaGreatDoorIS
import Derived.Test.YtdbljcahlpkgdaaGreatDoorKI
namespace Go.Proofs.YtdbljcahlpkgdaaGreatDoor
open Go Go.RowKit Go.ChangeShapes Go.WideShapes Go.ChangeAt

set_option maxRecDepth 100000 in
theorem loopsLaid_contract (H : Type) (enc : TypeId × Value → H) (W : World) (base : Nat) (args : Array Value) (ds gs : List (DataW H)) (before : List MemPlace)
    (hval : ∀ (j : Nat) t v, Tryz.f4.params[j]? = some t → args[j]? = some v → Value.okWide Tryz.prog W .any base t v)
    (hW : DataW.Whole enc Tryz.prog Tryz.f4.params.toList Rows.loopsLaidSpec.vars false W args.toList ds gs before)
    (hz : (DataW.weightsEach Tryz.prog (Tryz.f4.params.toList ++ []) (ds ++ gs)).all (· ≤ reachBytes) = true) (hL : laidMetH Tryz.prog waysLaid W) :
    Calls Tryz.prog 4 args W fun e W' => ∃ v, e = .returned v ∧ Rows.loopsLaidSpec.post enc Tryz.prog Tryz.f4 false true false false W args v W' := by
  have hgs : gs = [] := by
    obtain ⟨p, q, _, hV, _⟩ := hW
    exact (trodVars_none hV).1
  subst hgs
  rw [List.append_nil, List.append_nil] at hz
  refine law_post (ts := [25, 38, 3]) (by rw [Tryz.params4]) rfl rfl (by intro t ht; simp only [List.mem_toArray, List.mem_cons, List.not_mem_nil, or_false] at ht; rcases ht with rfl | rfl | rfl <;> exact ⟨by kernel_rfl, of_decide_eq_true (by kernel_rfl)⟩) (fun hl => ?_) hW (fun p hp => ?_)
  · match ds, hl with
    | [d0, d1, d2], _ => rfl
  · obtain ⟨u, g, fs, v1, l1, k2, rfl, hg, hf, hs1, hk2⟩ := open_uli (params := Tryz.f4.params) rfl hval hp (sized_all hz)
    exact loopsLaidLaw_c u l1 k2 hk2 g fs v1 W hg hf hs1 (ways_of hL)

set_option maxRecDepth 100000 in
theorem loopsLaid_reads (os : Os) {H : Type} (enc : TypeId × Value → H) : ∃ places, DataW.whole enc Tryz.prog ((laidWorld os).forCall (fun _ _ => 0) ⟨#[], argsULI, []⟩).memory Tryz.f4.params.toList Rows.loopsLaidSpec.vars false argsULI.toList 8 = some ([.agg [.nil, .nil], .nil, .lit (.int .i64 0)], [], places) :=
  ⟨[], by kernel_rfl⟩
set_option maxRecDepth 100000 in
theorem loopsLaid_lifted (os : Os) (started : os.Started) (H : Type) (enc : TypeId × Value → H) (F : Stop.Interp) :
    ReturnsInHanded {} Tryz.checked os 4 .any ((OpenSpec.ofChange Rows.loopsLaidSpec).preRow enc Tryz.prog Tryz.f4 Rows.loopsLaidRow.domain false Rows.loopsLaidRow.laid) (((OpenSpec.ofChange Rows.loopsLaidSpec).at F).post enc Tryz.prog Tryz.f4 false true false false) := by
  obtain ⟨places, hx⟩ := loopsLaid_reads os enc
  refine returnsInHanded_of_row (C := Tryz.checked) (s := OpenSpec.ofChange Rows.loopsLaidSpec) own started (by kernel_rfl) Tryz.func4
    (witness_row_at (enc := enc) (C := Tryz.checked) false (laidWorld os) argsULI rfl (by kernel_rfl) (by kernel_rfl) (by kernel_rfl)
      (OpenSpec.preRow_of_cond 8 hx (by kernel_rfl) (fun k hk => by cases hk) (by kernel_rfl) (laid_met os argsULI))) ?_
  intro W base args ds gs before hval hW _ _ hz hL _ _
  exact loopsLaid_contract H enc W base args ds gs before hval hW hz hL
set_option maxRecDepth 100000 in
theorem loopsLaid_said : Rows.LoopsLaidSaid :=
  OpenClaim.holds_of_cond 4 Tryz.f4 rfl rfl rfl rfl rfl rfl rfl ⟨rfl, rfl, rfl, rfl, rfl⟩ rfl rfl rfl rfl rfl (by kernel_rfl) Tryz.func4 (by kernel_rfl)
    (of_decide_eq_true (by kernel_rfl)) (by unfold Func.isWrapper; first | (rw [if_pos (by decide +kernel)]; kernel_rfl) | (rw [if_neg (by decide +kernel)]; exact ⟨rfl, rfl⟩))
    (fun os started H enc _ F => by rw [OpenClaim.pre_eq_preRow]; exact loopsLaid_lifted os started H enc F)
theorem loopsLaid_plain (f : FuncId) (fn : Func) (hf : Tryz.pinned.checked.prog.funcNamed "turnery/turnerylaw3.LoopsLaid" = some f) (hfn : Tryz.pinned.checked.prog.funcs[f]? = some fn) :
    false = Tryz.pinned.checked.prog.looks [] ∧ ∀ (j : Nat) t, fn.params[j]? = some t → Tryz.pinned.checked.prog.wantsStandIn t = false := by
  obtain rfl : f = 4 := Option.some.inj ((show Tryz.prog.funcNamed "turnery/turnerylaw3.LoopsLaid" = some 4 by kernel_rfl).symm.trans hf) |>.symm
  obtain rfl : fn = Tryz.f4 := (Option.some.inj (Tryz.func4.symm.trans hfn)).symm
  refine ⟨by kernel_rfl, fun j t ht => ?_⟩
  rw [Tryz.params4] at ht
  have ht := Array.mem_of_getElem? ht
  simp only [List.mem_toArray, List.mem_cons, List.not_mem_nil, or_false] at ht
  rcases ht with rfl | rfl | rfl
  · exact (show Tryz.prog.wantsStandIn 25 = false by kernel_rfl)
  · exact (show Tryz.prog.wantsStandIn 38 = false by kernel_rfl)
  · exact (show Tryz.prog.wantsStandIn 3 = false by kernel_rfl)
theorem loopsLaid_card : Rows.LoopsLaidCardSaid :=
  Claim7.holds_tied_plain_at .later [] _ _ _ _ loopsLaid_said (fun _ h => by cases h) (by kernel_rfl) (fun _ h => by cases h) loopsLaid_row_tie rfl ⟨rfl, rfl⟩ (by kernel_rfl) rfl loopsLaid_plain (by kernel_rfl)
end Go.Proofs.YtdbljcahlpkgdaaGreatDoor
