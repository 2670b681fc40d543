/- Texts joined: SplitV SplitW. -/
import Derived.Test.YtdbljcahlpkgdaaGreatDoorHP
import Derived.Test.YtdbljcahlpkgdaaGreatDoorHW
namespace Go.Proofs.YtdbljcahlpkgdaaGreatDoor
open Go Go.RowKit
structure EndOk (n : Nat) (R : Int) (B : LBlock) : Prop where
 kind : 1 ≤ B.kind∧B.kind ≤ 3
 len : (B.to.length : Int) = B.kind - 1
 to : ∀ t ∈ B.to,1 ≤ t∧t ≤ (n : Int) - 1
 two : B.kind = 3→B.to[0]?.getD 0 ≠ B.to[1]?.getD 0
 one : B.kind = 2→noVal B.on = true
 on : valErr R B.on = 0
theorem end_zero {n : Nat} {R : Int} {B : LBlock} : endErr n R B = 0 ↔ EndOk n R B:=by
 unfold endErr endE
 constructor
 ·intro h
  split at h
  ·cases h
  rename_i h1
  split at h
  ·cases h
  rename_i h2
  split at h
  ·cases h
  rename_i h3
  split at h
  ·cases h
  rename_i h4
  simp only [within,Bool.not_eq_true',Bool.and_eq_false_iff,decide_eq_false_iff_not,not_or,Decidable.not_not] at h1
  simp only [Bool.or_eq_true,Bool.and_eq_true,decide_eq_true_eq,Bool.not_eq_true',not_or,not_and,Bool.not_eq_false] at h4
  refine ⟨by omega,by simpa using h2,fun t ht=>?_,h4.1,h4.2,h⟩
  simp only [List.any_eq_true,not_exists,not_and,within,Bool.not_eq_true',Bool.and_eq_false_iff,decide_eq_false_iff_not,not_or,Decidable.not_not] at h3
  have:=h3 t ht
  omega
 ·intro h
  rw [if_neg,if_neg,if_neg,if_neg]
  ·exact h.on
  ·simp only [Bool.or_eq_true,Bool.and_eq_true,decide_eq_true_eq,Bool.not_eq_true',not_or,not_and,Bool.not_eq_false]
   exact ⟨h.two,h.one⟩
  ·simp only [List.any_eq_true,not_exists,not_and,within,Bool.not_eq_true',Bool.and_eq_false_iff,decide_eq_false_iff_not,not_or,Decidable.not_not]
   exact h.to
  ·simpa using h.len
  ·simp only [within,Bool.not_eq_true',Bool.and_eq_false_iff,decide_eq_false_iff_not,not_or,Decidable.not_not]
   exact h.kind
end Go.Proofs.YtdbljcahlpkgdaaGreatDoor
