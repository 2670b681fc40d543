/- Proved: for every unit and every instruction the law LiveQuiets returns true, and its arguments read afterwards as before. No condition. -/
import Derived.Test.YtebajiafdkokjaaOpen
import Derived.Test.YtebajiafdkokjaaQuiet
namespace Go.Proofs.Ytebajiafdkokjaa
open Go Go.RowKit Go.ChangeShapes Go.WideShapes

theorem liveQuiets_walk {H : Type} {enc : TypeId × Value → H} {W : World} {args : Array Value} {ds : List (DataW H)} {p : List MemPlace} {base : Nat} (h1 : ∀ (j : Nat) t v, Try.f3.params[j]? = some t → args[j]? = some v → Value.okWide Try.prog W .any base t v)
    (hA : DataW.TrodAll enc Try.prog W 0 (fun _ => true) true [25, 30] args.toList ds p) : RetV Try.prog 3 args.toList W (.bool true) := by
  obtain ⟨v0, vs0, d0, ds0, p0, q0, hargs, rfl, rfl, h0, r0⟩ := trodAll_cons hA
  obtain ⟨v1, vs1, d1, ds1, p1, q1, rfl, rfl, rfl, h1', r1⟩ := trodAll_cons r0
  obtain ⟨rfl, rfl, rfl⟩ := trodAll_nil r1
  obtain rfl : args = #[v0, v1] := by cases args; simp_all
  obtain ⟨cs0, rfl, _⟩ := okWide_struct Try.underlying25 (h1 0 25 v0 rfl rfl)
  obtain ⟨cs1, rfl, _⟩ := okWide_struct Try.underlying30 (h1 1 30 v1 rfl rfl)
  obtain ⟨f0, k0⟩ := h0
  obtain ⟨f1, k1⟩ := h1'
  obtain ⟨u, g, f, e0, hg, _⟩ := o_unit k0
  obtain ⟨x, v, e1, _⟩ := o_ins k1
  obtain ⟨cs0⟩ := cs0
  obtain ⟨cs1⟩ := cs1
  simp only [Value.cells] at e0 e1
  subst e0 e1
  exact quiets_law g f u.globals _ _ _ _ _ _ _ _ W hg

set_option maxRecDepth 100000 in
theorem liveQuiets_lifted (os : Os) (started : os.Started) (H : Type) (enc : TypeId × Value → H) :
    ReturnsInHanded {} Try.checked os 3 .any (Rows.liveQuietsSpec.pre6 enc Try.prog Try.f3 Rows.liveQuietsRow.domain false) (Rows.liveQuietsSpec.post enc Try.prog Try.f3 false true false false) := by
  refine returnsInHanded_of_change (C := Try.checked) own started (by kernel_rfl) Try.func3
    (ChangeSpec.witness6 (enc := enc) (C := Try.checked) false ⟨#[], #[.agg #[.slice none 0 0, .slice none 0 0], .agg #[.int .i64 0, .int .i64 0, .bool false, .int .i64 0, .bool false, .int .i64 0, .int .i64 0, .slice none 0 0]], []⟩ 8 (by kernel_rfl) (by kernel_rfl) (by kernel_rfl) (by kernel_rfl)) ?_
  intro W base args ds gs before hval hW _ _
  refine law_post (ts := [25, 30]) (by rw [Try.params3]) rfl rfl (by intro t ht; simp at ht; rcases ht with rfl | rfl <;> exact ⟨by kernel_rfl, of_decide_eq_true (by kernel_rfl)⟩) (fun hl => ?_) hW (fun p hp => ?_)
  · match ds, hl with
    | [d0, d1], _ => rfl
  · exact liveQuiets_walk hval hp

theorem liveQuiets_holds : Rows.LiveQuietsSaid :=
  OpenClaim.holds_of_wide 3 Try.f3 rfl rfl rfl rfl rfl rfl rfl ⟨rfl, rfl, rfl, rfl, rfl⟩ rfl rfl rfl rfl rfl (by kernel_rfl) Try.func3 (by kernel_rfl)
    (of_decide_eq_true (by kernel_rfl)) (by unfold Func.isWrapper; first | (rw [if_pos (by decide +kernel)]; kernel_rfl) | (rw [if_neg (by decide +kernel)]; exact ⟨rfl, rfl⟩))
    (fun os started H enc _ => liveQuiets_lifted os started H enc)
end Go.Proofs.Ytebajiafdkokjaa
