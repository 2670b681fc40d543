/- Texts joined: TidyC TidyN. -/
import Derived.Test.YtdbljcahlpkgdaaGreatDoorHI
import Derived.Test.YtdbljcahlpkgdaaGreatDoorHY
import Derived.Test.YtdbljcahlpkgdaaGreatDoorIA
namespace Go.Proofs.YtdbljcahlpkgdaaGreatDoor
open Go Go.RowKit
theorem val_zero {R : Int} {v : LVal} : valErr R v = 0 ↔ (v.reg = true→0 ≤ v.n∧v.n < R):=by
 unfold valErr
 by_cases h : v.reg = true
 ·simp only [h,Bool.true_and,within,Bool.not_and,Bool.or_eq_true,Bool.not_eq_true',decide_eq_false_iff_not,forall_const]
  constructor
  ·intro h1
   split at h1
   ·cases h1
   ·omega
  ·intro h1
   rw [if_neg (by omega)]
 ·have h2 : v.reg = false:=by simpa using h
  simp [h2]
theorem phi_zero {R : Int} {b np : Nat} {p : LPhi} : phiE R b np p = 0 ↔ b ≠ 0∧(0 ≤ p.dst∧p.dst < R)∧p.src.length = np∧∀ v ∈ p.src,valErr R v = 0:=by
 have hd : dstErr R p.dst = 0 ↔ 0 ≤ p.dst∧p.dst < R:=by
  unfold dstErr
  constructor
  ·intro h
   split at h
   ·cases h
   ·rename_i h9
    simp [within] at h9
    omega
  ·intro h
   rw [if_neg (by simp [within]; omega)]
 unfold phiE
 constructor
 ·intro h
  split at h
  ·cases h
  rename_i h1
  split at h
  ·rename_i h2; exact absurd h h2
  rename_i h2
  split at h
  ·cases h
  rename_i h3
  exact ⟨by omega,hd.1 (by simpa using h2),by omega,at0_all h⟩
 ·rintro ⟨h1,h2,h3,h4⟩
  rw [if_neg (by omega),if_neg (by rw [hd.2 h2]; simp),if_neg (by omega),firstI_zero']
  intro j hj
  unfold at0
  rw [List.getElem?_eq_getElem hj]
  exact h4 _ (List.getElem_mem hj)
end Go.Proofs.YtdbljcahlpkgdaaGreatDoor
