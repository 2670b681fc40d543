/- Ends that can be reached, blocks that every way to an end meets, control dependences: as plain facts. No program in sight. -/
import Derived.Test.YtebajiafdkokjaaDoorReach
namespace Go.Proofs.YtebajiafdkokjaaDoor
open Go Go.RowKit

def kindOf (bl : List LBlock) (i : Nat) : Int := match bl[i]? with | some b => b.kind | none => 0
def CanEnd (bl : List LBlock) (wo : Int) (b : Nat) : Prop := (b : Int) ≠ wo ∧ ∃ x, Rch bl wo b x ∧ kindOf bl x = 1
theorem canEnd_kind {bl : List LBlock} {wo : Int} {b : Nat} (hb : (b : Int) ≠ wo) (h : kindOf bl b = 1) : CanEnd bl wo b := ⟨hb, b, Rch.refl, h⟩
theorem canEnd_step {bl : List LBlock} {wo : Int} {b t : Nat} (hb : (b : Int) ≠ wo) (he : Edge bl b t) (h : CanEnd bl wo t) : CanEnd bl wo b := by
  obtain ⟨ht, x, hr, hk⟩ := h
  exact ⟨hb, x, (Rch.refl.step he ht).trans hr, hk⟩
theorem rch_ne {bl : List LBlock} {wo : Int} {b x : Nat} (hb : (b : Int) ≠ wo) (h : Rch bl wo b x) : (x : Int) ≠ wo := by
  cases h with
  | refl => exact hb
  | step _ _ hw => exact hw
/-- what holds of every end and steps back along edges holds wherever an end can be reached -/
theorem canEnd_closed {bl : List LBlock} {wo : Int} {p : Nat → Prop} (h1 : ∀ x, x < bl.length → (x : Int) ≠ wo → kindOf bl x = 1 → p x) (h2 : ∀ x y, x < bl.length → (x : Int) ≠ wo → Edge bl x y → p y → p x)
    {b : Nat} (hb : b < bl.length) (hok : GoodB bl) (h : CanEnd bl wo b) : p b := by
  obtain ⟨hne, x, hr, hk⟩ := h
  have key : ∀ x, Rch bl wo b x → p x → p b := by
    intro x hr
    induction hr with
    | refl => exact id
    | step hr' he _ ih => exact fun hp => ih (h2 _ _ (hok.rch hb hr') (rch_ne hne hr') he hp)
  exact key x hr (h1 x (hok.rch hb hr) (rch_ne hne hr) hk)
def Sure (bl : List LBlock) (b c : Nat) : Prop := CanEnd bl (-1) b ∧ ¬ CanEnd bl c b
def Hangs (bl : List LBlock) (b c : Nat) : Prop := (∃ t ∈ toOf bl b, Sure bl t.toNat c) ∧ (c = b ∨ ¬ Sure bl b c)
open Classical in
noncomputable def endsOf (bl : List LBlock) (wo : Int) : List Bool := (List.range bl.length).map fun x => decide (CanEnd bl wo x)
open Classical in
theorem endsOf_get {bl : List LBlock} {wo : Int} {x : Nat} (h : x < bl.length) : (endsOf bl wo)[x]? = some (decide (CanEnd bl wo x)) := by simp [endsOf, h]
theorem endsOf_length (bl : List LBlock) (wo : Int) : (endsOf bl wo).length = bl.length := by simp [endsOf]
open Classical in
noncomputable def sureRow (bl : List LBlock) (b : Nat) : List Bool := (List.range bl.length).map fun c => decide (Sure bl b c)
open Classical in
theorem sureRow_get {bl : List LBlock} {b c : Nat} (h : c < bl.length) : (sureRow bl b)[c]? = some (decide (Sure bl b c)) := by simp [sureRow, h]
open Classical in
noncomputable def sureTo (bl : List LBlock) (b n : Nat) : List Nat := (List.range n).filter fun c => decide (Sure bl b c)
open Classical in
noncomputable def hangTo (bl : List LBlock) (b n : Nat) : List Nat := (List.range n).filter fun c => decide (Hangs bl b c)
open Classical in
theorem filterTo_succ {p : Nat → Prop} (n : Nat) : (List.range (n + 1)).filter (fun c => decide (p c)) = (List.range n).filter (fun c => decide (p c)) ++ (if p n then [n] else []) := by
  rw [List.range_succ, List.filter_append]
  congr 1
  by_cases h : p n <;> simp [h]
end Go.Proofs.YtebajiafdkokjaaDoor
