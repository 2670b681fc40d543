/- Texts joined: RunDo Means ZeroP ZeroQ RowsB InK. -/
import Derived.Test.YtbmnkjaelfjlhaaDoorGE
import Derived.Test.YtbmnkjaelfjlhaaDoorGI
import Derived.Test.YtbmnkjaelfjlhaaDoorGJ
import Derived.Test.YtbmnkjaelfjlhaaDoorGL
import Derived.Test.YtbmnkjaelfjlhaaDoorGN
import Derived.Test.YtbmnkjaelfjlhaaDoorHF
import Derived.Test.YtbmnkjaelfjlhaaDoorHJ
/- run.Do: what it returns. -/
namespace Go.Proofs.YtbmnkjaelfjlhaaDoor
open Go Go.RowKit
attribute [local irreducible] wpListIn Code.wpIn Exit.then Exit.inBlock bodyPost wpQuiet wpAnyIn wpAnyH bodyPostM oneH
set_option maxHeartbeats 4000000

/-! ### What a run tells is in bounds -/
end Go.Proofs.YtbmnkjaelfjlhaaDoor


/- turnerysame.Comes, turnerymeans.Same: what they return. -/
namespace Go.Proofs.YtbmnkjaelfjlhaaDoor
open Go Go.RowKit
attribute [local irreducible] wpListIn Code.wpIn Exit.then Exit.inBlock bodyPost wpQuiet wpAnyIn wpAnyH bodyPostM oneH
set_option maxHeartbeats 4000000

/-- the second unit comes to what the first one comes to -/
structure Comes (a b : LUnit) (inp : List Int) (f k : Nat) : Prop where
  ok : (countsE b inp.length k).1 = 0
  state : (resultM b inp k).state = (resultM a inp f).state
  value : (resultM b inp k).value = (resultM a inp f).value
  out : (resultM b inp k).out = (resultM a inp f).out
end Go.Proofs.YtbmnkjaelfjlhaaDoor


/- A function that begins by writing 0 into registers that nobody wrote yet: the run comes to the same. No program in sight. -/
namespace Go.Proofs.YtbmnkjaelfjlhaaDoor
open Go Go.RowKit

def blsOf (u : LUnit) (j : Nat) : List LBlock := match u.funcs[j]? with | some X => X.blocks | none => []
def regsOf (u : LUnit) (j : Nat) : Nat := match u.funcs[j]? with | some X => X.regs.toNat | none => 0
/-! ### The machine that has written them -/
/-- it is so at the start of the function, and when it was entered -/
structure Fresh (k : Nat) (ns : List Nat) (s : Mac) : Prop where
  at' : s.top.at' = 0
  regs : s.top.fn = k ∧ s.top.block = 0 → ∀ z ∈ ns, s.top.regs.set z 0 = s.top.regs
section
variable {u : LUnit} {k : Nat} {ns : List Nat} {X : LFunc}
end
end Go.Proofs.YtbmnkjaelfjlhaaDoor


/- A function that begins by writing 0 into registers passes the check, too. No program in sight. -/
namespace Go.Proofs.YtbmnkjaelfjlhaaDoor
open Go Go.RowKit

theorem head_zero {names : List ByteArray} {f : LFunc} : headErr names f = 0 ↔ nameOk f.name = true ∧ hasName names f.name = false ∧ (0 ≤ f.params ∧ f.params ≤ 6) ∧ (f.params ≤ f.regs ∧ f.regs ≤ 100) ∧ (1 ≤ f.blocks.length ∧ f.blocks.length ≤ 40) ∧ sizeOfBs f.blocks ≤ 300 := by
  unfold headErr
  constructor
  · intro h
    split at h
    · cases h
    rename_i h1
    split at h
    · cases h
    rename_i h2
    split at h
    · cases h
    rename_i h3
    split at h
    · cases h
    rename_i h4
    simp [within] at h1 h2 h3 h4
    exact ⟨h1, h2, by omega, by omega, by omega, by omega⟩
  · rintro ⟨h1, h2, h3, h4, h5, h6⟩
    rw [if_neg (by simp [h1]), if_neg (by simp [h2]), if_neg (by simp [within]; omega), if_neg (by simp [within]; omega)]
theorem mainAt_map (fs : List LFunc) : mainAt fs = match (fs.map (·.name)).findIdx? (fun s => s.toList == (ByteArray.mk #[109, 97, 105, 110]).toList) with | some i => (i : Int) | none => -1 := by
  unfold mainAt
  rw [List.findIdx?_map]
  rfl
end Go.Proofs.YtbmnkjaelfjlhaaDoor


/- Rows of numbers as one reads them: what texts far from one another need. -/
namespace Go.Proofs.YtbmnkjaelfjlhaaDoor
open Go Go.RowKit
attribute [local irreducible] wpListIn Code.wpIn Exit.then Exit.inBlock bodyPost wpQuiet wpAnyIn wpAnyH bodyPostM
end Go.Proofs.YtbmnkjaelfjlhaaDoor


/- live.In as a table that is known. -/
namespace Go.Proofs.YtbmnkjaelfjlhaaDoor
open Go Go.RowKit

end Go.Proofs.YtbmnkjaelfjlhaaDoor

