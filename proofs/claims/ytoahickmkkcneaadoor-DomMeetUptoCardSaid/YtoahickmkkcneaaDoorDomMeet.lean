/- Proved: for every unit, number and two lists of blocks the law DomMeet returns true, and its arguments read afterwards as before. Condition: the arguments are together of bulk at most 1048576. -/
import Derived.Test.YtoahickmkkcneaaDoorGY
namespace Go.Proofs.YtoahickmkkcneaaDoor
open Go Go.RowKit Go.ChangeShapes Go.WideShapes Go.ChangeAt

set_option maxRecDepth 100000 in
theorem domMeet_contract (H : Type) (enc : TypeId × Value → H) (W : World) (base : Nat) (args : Array Value) (ds gs : List (DataW H)) (before : List MemPlace)
    (hval : ∀ (j : Nat) t v, Tryd.f11.params[j]? = some t → args[j]? = some v → Value.okWide Tryd.prog W .any base t v)
    (hW : DataW.Whole enc Tryd.prog Tryd.f11.params.toList Rows.domMeetSpec.vars false W args.toList ds gs before)
    (hz : (DataW.weightsEach Tryd.prog (Tryd.f11.params.toList ++ []) (ds ++ gs)).all (· ≤ reachBytes) = true) (hL : laidMetH Tryd.prog waysLaid W) (hk : Rows.uptoSmall H (ds ++ gs) = true) :
    Calls Tryd.prog 11 args W fun e W' => ∃ v, e = .returned v ∧ Rows.domMeetSpec.post enc Tryd.prog Tryd.f11 false true false false W args v W' := by
  have hgs : gs = [] := by
    obtain ⟨p, q, _, hV, _⟩ := hW
    exact (trodVars_none hV).1
  subst hgs
  rw [List.append_nil, List.append_nil] at hz
  refine law_post (ts := [25, 3, 35, 35]) (by rw [Tryd.params11]) rfl rfl (by intro t ht; simp at ht; rcases ht with rfl | rfl | rfl | rfl <;> exact ⟨by kernel_rfl, of_decide_eq_true (by kernel_rfl)⟩) (fun hl => ?_) hW (fun p hp => ?_)
  · match ds, hl with
    | [d0, d1, d2, d3], _ => rfl
  · obtain ⟨u, g, fs, k, a, c, l, a', c', m, rfl, hg, hf, hk', hs, hs', hl, hm⟩ := open_uill (params := Tryd.f11.params) rfl hval hp (sized_all hz)
    rw [List.append_nil] at hk
    have hb := of_decide_eq_true hk
    exact unionLaw_c u k hk' a c l (by omega) a' c' m (by omega) g fs W hg hf hs hs' (ways_of hL)

set_option maxRecDepth 100000 in
theorem domMeet_reads (os : Os) {H : Type} (enc : TypeId × Value → H) : ∃ places, DataW.whole enc Tryd.prog ((laidWorld os).forCall (fun _ _ => 0) ⟨#[], argsUILL, []⟩).memory Tryd.f11.params.toList Rows.domMeetSpec.vars false argsUILL.toList 8 = some ([.agg [.nil, .nil], .lit (.int .i64 0), .nil, .nil], [], places) :=
  ⟨[], by kernel_rfl⟩
set_option maxRecDepth 100000 in
theorem domMeet_lifted (os : Os) (started : os.Started) (H : Type) (enc : TypeId × Value → H) (F : Stop.Interp) :
    ReturnsInHanded {} Tryd.checked os 11 .any ((Rows.OpenSpec.upto Rows.domMeetSpec).preRow enc Tryd.prog Tryd.f11 Rows.domMeetUptoRow.domain false Rows.domMeetUptoRow.laid) (((Rows.OpenSpec.upto Rows.domMeetSpec).at F).post enc Tryd.prog Tryd.f11 false true false false) := by
  obtain ⟨places, hx⟩ := domMeet_reads os enc
  refine returnsInHanded_of_row (C := Tryd.checked) (s := Rows.OpenSpec.upto Rows.domMeetSpec) own started (by kernel_rfl) Tryd.func11
    (witness_row_at (enc := enc) (C := Tryd.checked) false (laidWorld os) argsUILL rfl (by kernel_rfl) (by kernel_rfl) (by kernel_rfl)
      (OpenSpec.preRow_of_cond 8 hx (by kernel_rfl) (fun k hk => by cases hk; kernel_rfl) (by kernel_rfl) (laid_met os argsUILL))) ?_
  intro W base args ds gs before hval hW _ hcond hz hL _ _
  exact domMeet_contract H enc W base args ds gs before hval hW hz hL (hcond _ rfl)
set_option maxRecDepth 100000 in
theorem domMeet_said : Rows.DomMeetUptoSaid :=
  OpenClaim.holds_of_cond 11 Tryd.f11 rfl rfl rfl rfl rfl rfl rfl ⟨rfl, rfl, rfl, rfl, rfl⟩ rfl rfl rfl rfl rfl (by kernel_rfl) Tryd.func11 (by kernel_rfl)
    (of_decide_eq_true (by kernel_rfl)) (by unfold Func.isWrapper; first | (rw [if_pos (by decide +kernel)]; kernel_rfl) | (rw [if_neg (by decide +kernel)]; exact ⟨rfl, rfl⟩))
    (fun os started H enc _ F => by rw [OpenClaim.pre_eq_preRow]; exact domMeet_lifted os started H enc F)
theorem domMeet_plain (f : FuncId) (fn : Func) (hf : Tryd.pinned.checked.prog.funcNamed "turnery/turnerylaw3.DomMeet" = some f) (hfn : Tryd.pinned.checked.prog.funcs[f]? = some fn) :
    false = Tryd.pinned.checked.prog.looks [] ∧ ∀ (j : Nat) t, fn.params[j]? = some t → Tryd.pinned.checked.prog.wantsStandIn t = false := by
  obtain rfl : f = 11 := Option.some.inj ((show Tryd.prog.funcNamed "turnery/turnerylaw3.DomMeet" = some 11 by kernel_rfl).symm.trans hf) |>.symm
  obtain rfl : fn = Tryd.f11 := (Option.some.inj (Tryd.func11.symm.trans hfn)).symm
  refine ⟨by kernel_rfl, fun j t ht => ?_⟩
  rw [Tryd.params11] at ht
  have ht := Array.mem_of_getElem? ht
  simp at ht
  rcases ht with rfl | rfl | rfl
  · exact (show Tryd.prog.wantsStandIn 25 = false by kernel_rfl)
  · exact (show Tryd.prog.wantsStandIn 3 = false by kernel_rfl)
  · exact (show Tryd.prog.wantsStandIn 35 = false by kernel_rfl)
theorem domMeet_card : Rows.DomMeetUptoCardSaid :=
  Claim7.holds_tied_plain_at .later [] _ _ _ _ domMeet_said (fun _ h => by cases h) (by kernel_rfl) (fun _ h => by cases h) domMeetUpto_row_tie rfl ⟨rfl, rfl⟩ (by kernel_rfl) rfl domMeet_plain (by kernel_rfl)
end Go.Proofs.YtoahickmkkcneaaDoor
