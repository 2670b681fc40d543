/- Texts joined: ZeroP ZeroQ. -/
import Derived.Test.YtdbljcahlpkgdaaGreatDoorHJ
namespace Go.Proofs.YtdbljcahlpkgdaaGreatDoor
open Go Go.RowKit
theorem head_zero {names : List ByteArray} {f : LFunc} : headErr names f = 0 ↔ nameOk f.name = true∧hasName names f.name = false∧(0 ≤ f.params∧f.params ≤ 6)∧(f.params ≤ f.regs∧f.regs ≤ 100)∧(1 ≤ f.blocks.length∧f.blocks.length ≤ 40)∧sizeOfBs f.blocks ≤ 300:=by
 unfold headErr
 constructor
 ·intro h
  split at h
  ·cases h
  rename_i h1
  split at h
  ·cases h
  rename_i h2
  split at h
  ·cases h
  rename_i h3
  split at h
  ·cases h
  rename_i h4
  simp [within] at h1 h2 h3 h4
  exact ⟨h1,h2,by omega,by omega,by omega,by omega⟩
 ·rintro ⟨h1,h2,h3,h4,h5,h6⟩
  rw [if_neg (by simp [h1]),if_neg (by simp [h2]),if_neg (by simp [within]; omega),if_neg (by simp [within]; omega)]
end Go.Proofs.YtdbljcahlpkgdaaGreatDoor
