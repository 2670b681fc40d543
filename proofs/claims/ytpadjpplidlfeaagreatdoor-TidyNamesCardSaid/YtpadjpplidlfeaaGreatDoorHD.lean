/- Texts joined: RunE RunF RunG. -/
import Derived.Test.YtpadjpplidlfeaaGreatDoorHA
import Derived.Test.YtpadjpplidlfeaaGreatDoorHB
import Derived.Test.YtpadjpplidlfeaaGreatDoorHC
/- The walker at the end of a block. -/
namespace Go.Proofs.YtpadjpplidlfeaaGreatDoor
open Go Go.RowKit
attribute [local irreducible] wpListIn Code.wpIn Exit.then Exit.inBlock bodyPost wpQuiet wpAnyIn wpAnyH bodyPostM oneH
set_option maxHeartbeats 8000000

/-- the walker in memory is this one -/
structure Rep (m : MacV) (s : Mac) (rest : List FRow) (t : FRow) : Prop where
  rows : m.rows = rest ++ [t]
  below : rest.map (·.f) = s.rest
  top : t.f = s.top
  mem : m.mem = s.mem
  inp : m.inp = s.inp
  out : m.out = s.out
  steps : m.steps = s.steps
  cnt : m.cs.map (·.l) = s.counts
  zero : m.state = 0 ∧ m.value = 0
structure FinRep (m : MacV) (f : Fin) : Prop where
  state : m.state = f.state
  value : m.value = f.value
  out : m.out = f.out
  steps : m.steps = f.steps
  cnt : m.cs.map (·.l) = f.counts
/-- what is left to be read -/
def IvStep (v v' : Value) (l l' : List Int) : Prop := (v' = v ∧ l' = l) ∨ ∃ (a a' : Option Addr) (n c : Nat), v = .slice a n c ∧ l ≠ [] ∧ v' = .slice a' (n - 1) (c - 1) ∧ l' = l.tail ∧ ∀ b o, 1 < c → a = some ⟨b, o, none⟩ → a' = some ⟨b, o + 1, none⟩
theorem IvStep.sl {w : World} {v v' : Value} {l l' : List Int} (h : IvStep v v' l l') (hs : SlAt w v 1 l IntV) : SlAt w v' 1 l' IntV := by
  rcases h with ⟨rfl, rfl⟩ | ⟨a, a', n, c, rfl, hne, rfl, rfl, ha'⟩
  · exact hs
  · obtain ⟨a0, n0, c0, b, o, e, hn, hnc, hb, hc, ha, hel⟩ := hs
    simp only [Value.slice.injEq] at e
    obtain ⟨rfl, rfl, rfl⟩ := e
    have hpos := List.length_pos_iff.2 hne
    refine ⟨a', n - 1, c - 1, b, o + 1, rfl, by rw [List.length_tail, hn], by omega, by omega, by omega, fun ht => ?_, fun i x hx => ?_⟩
    · refine ha' b o ?_ (ha hne)
      have := List.length_pos_iff.2 ht
      rw [List.length_tail] at this
      omega
    · rw [List.getElem?_tail] at hx
      obtain ⟨cs, h1, h2⟩ := hel (i + 1) x hx
      exact ⟨cs, by rw [show o + 1 + i * 1 = o + (i + 1) * 1 by omega]; exact h1, h2⟩
end Go.Proofs.YtpadjpplidlfeaaGreatDoor


/- The walker at an instruction. -/
namespace Go.Proofs.YtpadjpplidlfeaaGreatDoor
open Go Go.RowKit
attribute [local irreducible] wpListIn Code.wpIn Exit.then Exit.inBlock bodyPost wpQuiet wpAnyIn wpAnyH bodyPostM oneH
set_option maxHeartbeats 8000000

end Go.Proofs.YtpadjpplidlfeaaGreatDoor


/- A step of the walker. -/
namespace Go.Proofs.YtpadjpplidlfeaaGreatDoor
open Go Go.RowKit
attribute [local irreducible] wpListIn Code.wpIn Exit.then Exit.inBlock bodyPost wpQuiet wpAnyIn wpAnyH bodyPostM oneH
set_option maxHeartbeats 8000000

end Go.Proofs.YtpadjpplidlfeaaGreatDoor

