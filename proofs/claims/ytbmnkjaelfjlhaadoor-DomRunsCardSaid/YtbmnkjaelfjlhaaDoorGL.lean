/- Texts joined: FrontA FrontB. -/
import Derived.Test.YtbmnkjaelfjlhaaDoorGG
/- Dominance frontiers, as plain facts; slices.Contains at numbers: what it returns. -/
namespace Go.Proofs.YtbmnkjaelfjlhaaDoor
open Go Go.RowKit
attribute [local irreducible] wpListIn Code.wpIn Exit.then Exit.inBlock bodyPost wpQuiet wpAnyIn wpAnyH
set_option maxHeartbeats 4000000

/-- i rules the nearest one of b -/
def Stop (bl : List LBlock) (b i : Nat) : Prop := ∃ c, IDom bl c b ∧ Dom bl i c
/-- a number as a block that is ruled -/
def DomI (bl : List LBlock) (i : Nat) (z : Int) : Prop := ∃ c : Nat, z = c ∧ Dom bl i c
theorem domI_tree {bl : List LBlock} (hok : GoodB bl) (h0 : 0 < bl.length) {a i : Nat} (ha : Rch bl (-1) 0 a) : Dom bl i a ↔ (DomI bl i (treeN bl a) ∨ i = a) := by
  by_cases ha0 : a = 0
  · subst ha0
    rw [treeN_none fun c hc => hc.2.1 (dom_zero hc.1)]
    refine ⟨fun h => .inr (dom_zero h), fun h => h.elim (fun ⟨c, hc, _⟩ => by omega) fun e => by subst e; exact .refl ha⟩
  · obtain ⟨c, hc⟩ := idom_ex hok h0 ha ha0
    rw [treeN_eq hc, hc.iff]
    exact ⟨fun h => h.imp (fun h => ⟨c, rfl, h⟩) id, fun h => h.imp (fun ⟨d, e, h⟩ => (show c = d by omega) ▸ h) id⟩
noncomputable def wayM (bl : List LBlock) (z : Int) : Nat := if z < 0 then 0 else (domTo bl z.toNat bl.length).length
theorem wayM_lt {bl : List LBlock} (hok : GoodB bl) (h0 : 0 < bl.length) {a : Nat} (ha : Rch bl (-1) 0 a) : wayM bl (treeN bl a) < wayM bl a := by
  have h1 : 0 < (domTo bl a bl.length).length := List.length_pos_of_mem (domTo_mem.2 ⟨hok.rch h0 ha, .refl ha⟩)
  have e1 : wayM bl (a : Int) = (domTo bl a bl.length).length := by unfold wayM; rw [if_neg (by omega)]; rfl
  rw [e1]
  by_cases hx : ∃ c, IDom bl c a
  · obtain ⟨c, hc⟩ := hx
    rw [treeN_eq hc]
    have e2 : wayM bl (c : Int) = (domTo bl c bl.length).length := by unfold wayM; rw [if_neg (by omega)]; rfl
    have := idom_has hok h0 hc
    omega
  · rw [treeN_none fun c hc => hx ⟨c, hc⟩]
    unfold wayM
    rw [if_pos (by omega)]; exact h1
end Go.Proofs.YtbmnkjaelfjlhaaDoor


/- dom.FrontOf: what it returns. -/
namespace Go.Proofs.YtbmnkjaelfjlhaaDoor
open Go Go.RowKit
attribute [local irreducible] wpListIn Code.wpIn Exit.then Exit.inBlock bodyPost wpQuiet wpAnyIn wpAnyH
set_option maxHeartbeats 8000000

/-- where a way up comes to -/
theorem treeN_dom {bl : List LBlock} (_hok : GoodB bl) (_h0 : 0 < bl.length) {b p : Nat} (h : Dom bl b p) : (treeN bl b < 0 ∧ treeN bl b = -1) ∨ ∃ c : Nat, treeN bl b = c ∧ Dom bl c p := by
  by_cases hx : ∃ c, IDom bl c b
  · obtain ⟨c, hc⟩ := hx
    exact .inr ⟨c, treeN_eq hc, hc.1.trans h⟩
  · have e := treeN_none fun c hc => hx ⟨c, hc⟩
    exact .inl ⟨by rw [e]; omega, e⟩
end Go.Proofs.YtbmnkjaelfjlhaaDoor

