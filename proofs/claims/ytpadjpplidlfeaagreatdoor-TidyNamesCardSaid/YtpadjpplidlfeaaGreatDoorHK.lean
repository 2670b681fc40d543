/- Texts joined: ZeroP ZeroQ. -/
import Derived.Test.YtpadjpplidlfeaaGreatDoorHJ
/- A function that begins by writing 0 into registers that nobody wrote yet: the run comes to the same. No program in sight. -/
namespace Go.Proofs.YtpadjpplidlfeaaGreatDoor
open Go Go.RowKit

def blsOf (u : LUnit) (j : Nat) : List LBlock := match u.funcs[j]? with | some X => X.blocks | none => []
def regsOf (u : LUnit) (j : Nat) : Nat := match u.funcs[j]? with | some X => X.regs.toNat | none => 0
/-! ### The machine that has written them -/
/-- it is so at the start of the function, and when it was entered -/
structure Fresh (k : Nat) (ns : List Nat) (s : Mac) : Prop where
  at' : s.top.at' = 0
  regs : s.top.fn = k ∧ s.top.block = 0 → ∀ z ∈ ns, s.top.regs.set z 0 = s.top.regs
section
variable {u : LUnit} {k : Nat} {ns : List Nat} {X : LFunc}
end
end Go.Proofs.YtpadjpplidlfeaaGreatDoor


/- A function that begins by writing 0 into registers passes the check, too. No program in sight. -/
namespace Go.Proofs.YtpadjpplidlfeaaGreatDoor
open Go Go.RowKit

theorem head_zero {names : List ByteArray} {f : LFunc} : headErr names f = 0 ↔ nameOk f.name = true ∧ hasName names f.name = false ∧ (0 ≤ f.params ∧ f.params ≤ 6) ∧ (f.params ≤ f.regs ∧ f.regs ≤ 100) ∧ (1 ≤ f.blocks.length ∧ f.blocks.length ≤ 40) ∧ sizeOfBs f.blocks ≤ 300 := by
  unfold headErr
  constructor
  · intro h
    split at h
    · cases h
    rename_i h1
    split at h
    · cases h
    rename_i h2
    split at h
    · cases h
    rename_i h3
    split at h
    · cases h
    rename_i h4
    simp [within] at h1 h2 h3 h4
    exact ⟨h1, h2, by omega, by omega, by omega, by omega⟩
  · rintro ⟨h1, h2, h3, h4, h5, h6⟩
    rw [if_neg (by simp [h1]), if_neg (by simp [h2]), if_neg (by simp [within]; omega), if_neg (by simp [within]; omega)]
theorem mainAt_map (fs : List LFunc) : mainAt fs = match (fs.map (·.name)).findIdx? (fun s => s.toList == (ByteArray.mk #[109, 97, 105, 110]).toList) with | some i => (i : Int) | none => -1 := by
  unfold mainAt
  rw [List.findIdx?_map]
  rfl
end Go.Proofs.YtpadjpplidlfeaaGreatDoor

