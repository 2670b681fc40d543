/- Texts joined: RunsL SureP SureL. -/
import Derived.Test.YtbmnkjaelfjlhaaDoorGD
import Derived.Test.YtbmnkjaelfjlhaaDoorGE
import Derived.Test.YtbmnkjaelfjlhaaDoorGN
import Derived.Test.YtbmnkjaelfjlhaaDoorHF
/- The law DomRuns, walked: what is over a block that a run came to, it came to. -/
namespace Go.Proofs.YtbmnkjaelfjlhaaDoor
open Go Go.RowKit
attribute [local irreducible] wpListIn Code.wpIn Exit.then Exit.inBlock bodyPost wpQuiet wpAnyIn wpAnyH bodyPostM oneH
set_option maxHeartbeats 8000000

theorem tabK {w : World} {S : Nat → Prop} {a : Option Addr} {n c : Nat} {T : List (List Int)} (h : SlAt w (.slice a n c) 1 T RowV) (hold : ∀ {b o : Nat} {v : Value} {l : List Value}, CellsAt w b o (v :: l) → OldIs S b) (h0 : T ≠ []) :
    ∃ b o : Nat, AddrIs a b o ∧ OldIs S b ∧ ∀ i l, T[i]? = some l → ∃ (ra : Option Addr) (rc : Nat), CellsIs w b (o + i * 1) [.slice ra l.length rc] ∧ SlAt w (.slice ra l.length rc) 1 l IntV := by
  obtain ⟨_, _, _, b, o, ha, hel⟩ := h.at
  refine ⟨b, o, ⟨ha h0⟩, ?_, fun i l hi => ?_⟩
  · obtain ⟨l, hl⟩ : ∃ l, T[0]? = some l := ⟨_, List.getElem?_eq_getElem (List.length_pos_iff.2 h0)⟩
    obtain ⟨_, hc, v, rfl, _⟩ := hel 0 l hl
    exact hold hc
  · obtain ⟨_, hc, v, rfl, hv⟩ := hel i l hi
    have hv0 := hv
    obtain ⟨ra, rn, rc, _, _, rfl, hrn, _⟩ := hv0
    subst hrn
    exact ⟨ra, rc, ⟨hc⟩, hv⟩
end Go.Proofs.YtbmnkjaelfjlhaaDoor


/- A run that ends comes, in main, to every block that each way to an end meets. No program in sight. -/
namespace Go.Proofs.YtbmnkjaelfjlhaaDoor
open Go Go.RowKit

/-- a way to an end over blocks that were come to -/
inductive WayTo (bl : List LBlock) (l : List Nat) : Nat → Prop
  | here {x : Nat} : 0 < l.getD x 0 → kindOf bl x = 1 → WayTo bl l x
  | step {x y : Nat} : 0 < l.getD x 0 → Edge bl x y → WayTo bl l y → WayTo bl l x
theorem WayTo.pos {bl : List LBlock} {l : List Nat} {b : Nat} (h : WayTo bl l b) : 0 < l.getD b 0 := by cases h <;> assumption
theorem WayTo.can {bl : List LBlock} {l : List Nat} {b : Nat} (h : WayTo bl l b) : CanEnd bl (-1) b := by
  induction h with
  | here _ hk => exact canEnd_kind (by omega) hk
  | step _ he _ ih => exact canEnd_step (by omega) he ih
theorem VP.pos {bl : List LBlock} {l : List Nat} {b : Nat} (h : VP bl l b) : 0 < l.getD b 0 := by cases h <;> assumption
theorem VP.way {bl : List LBlock} {l : List Nat} {b : Nat} (hp : VP bl l b) (hb : WayTo bl l b) : WayTo bl l 0 := by
  induction hp with
  | zero _ => exact hb
  | step hx he _ ih => exact ih (.step hx.pos he hb)
theorem WayTo.sure {bl : List LBlock} {l : List Nat} {b : Nat} (h : WayTo bl l b) {c : Nat} (hc : ¬ CanEnd bl c b) : WayTo bl l c := by
  induction h with
  | @here x hx hk =>
    by_cases e : x = c
    · subst e; exact .here hx hk
    · exact absurd (canEnd_kind (by omega) hk) hc
  | @step x y hx he hy ih =>
    by_cases e : x = c
    · subst e; exact .step hx he hy
    · exact ih fun hy => hc (canEnd_step (by omega) he hy)
theorem WayTo.stuck {bl : List LBlock} {l : List Nat} {b : Nat} (hk : kindOf bl b = 2) (ht : ∀ y, Edge bl b y → y = b) {x : Nat} (h : WayTo bl l x) : x ≠ b := by
  induction h with
  | here _ h1 => intro e; subst e; omega
  | step _ he _ ih => intro e; subst e; exact ih (ht _ he)
/-- behind a jump there is a block that is surely met -/
theorem WayTo.jump {bl : List LBlock} {l : List Nat} {b : Nat} (h : WayTo bl l b) (hk : kindOf bl b = 2) (ht : (toOf bl b).length = 1) : ∃ c, c ≠ b ∧ Edge bl b c ∧ Sure bl b c := by
  have hone : ∀ y z, Edge bl b y → Edge bl b z → z = y := fun y z hy hz => by
    obtain ⟨t, e⟩ := List.length_eq_one_iff.1 ht
    unfold Edge at hy hz
    rw [e, List.mem_singleton] at hy hz
    omega
  have hcan := h.can
  have h0 := h
  cases h with
  | here _ h1 => omega
  | @step _ y _ he hy =>
    by_cases e : y = b
    · subst e
      exact absurd rfl (h0.stuck hk fun z hz => hone _ _ he hz)
    · refine ⟨y, e, he, hcan, fun ⟨_, x, hr, hx⟩ => ?_⟩
      have : x = b := by
        refine rch_closed (p := fun x => x = b) rfl (fun x z e1 e2 e3 => ?_) hr
        rw [e1] at e2
        exact absurd (congrArg (fun n : Nat => (n : Int)) (hone _ _ he e2)) e3
      rw [this] at hx
      omega
/-! ### The frame of main -/
end Go.Proofs.YtbmnkjaelfjlhaaDoor


/- The law DomSure, walked: what is surely met on the way to an end, a run that ends comes to. -/
namespace Go.Proofs.YtbmnkjaelfjlhaaDoor
open Go Go.RowKit
attribute [local irreducible] wpListIn Code.wpIn Exit.then Exit.inBlock bodyPost wpQuiet wpAnyIn wpAnyH bodyPostM oneH
set_option maxHeartbeats 8000000

end Go.Proofs.YtbmnkjaelfjlhaaDoor

