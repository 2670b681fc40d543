/- Reaching in a function's graph, as plain facts about lists. No program in sight. -/
import Derived.Test.YtebajiafdkokjaaDoorSpec
namespace Go.Proofs.YtebajiafdkokjaaDoor
open Go Go.RowKit

def toOf (bl : List LBlock) (i : Nat) : List Int := match bl[i]? with | some b => b.to | none => []
def Edge (bl : List LBlock) (x y : Nat) : Prop := (y : Int) ∈ toOf bl x
/-- from b to a block, never through 'wo' -/
inductive Rch (bl : List LBlock) (wo : Int) (b : Nat) : Nat → Prop
  | refl : Rch bl wo b b
  | step {x y : Nat} : Rch bl wo b x → Edge bl x y → (y : Int) ≠ wo → Rch bl wo b y
theorem Rch.trans {bl : List LBlock} {wo : Int} {a b c : Nat} (h : Rch bl wo a b) (k : Rch bl wo b c) : Rch bl wo a c := by
  induction k with
  | refl => exact h
  | step _ he hw ih => exact ih.step he hw
theorem toOf_get {bl : List LBlock} {i : Nat} {b : LBlock} (h : bl[i]? = some b) : toOf bl i = b.to := by simp [toOf, h]
def GoodB (bl : List LBlock) : Prop := ∀ b ∈ bl, b.to.length ≤ 2 ∧ ∀ t ∈ b.to, 0 ≤ t ∧ t < bl.length
theorem GoodB.edge {bl : List LBlock} (h : GoodB bl) {x y : Nat} (he : Edge bl x y) : y < bl.length := by
  unfold Edge toOf at he
  split at he
  · rename_i b hb
    have := (h b (List.mem_of_getElem? hb)).2 _ he
    omega
  · cases he
theorem GoodB.rch {bl : List LBlock} (h : GoodB bl) {wo : Int} {b x : Nat} (hb : b < bl.length) (hr : Rch bl wo b x) : x < bl.length := by
  induction hr with
  | refl => exact hb
  | step _ he _ _ => exact h.edge he
/-- what begins at b and is closed holds all that b reaches -/
theorem rch_closed {bl : List LBlock} {wo : Int} {b : Nat} {p : Nat → Prop} (h0 : p b) (hc : ∀ x y, p x → Edge bl x y → (y : Int) ≠ wo → p y) {x : Nat} (h : Rch bl wo b x) : p x := by
  induction h with
  | refl => exact h0
  | step _ he hw ih => exact hc _ _ ih he hw
theorem nodup_len : ∀ (n : Nat) (l : List Nat), l.Nodup → (∀ x ∈ l, x < n) → l.length ≤ n
  | 0, l, _, h => by
    cases l with
    | nil => simp
    | cons x l => have := h x (by simp); omega
  | n + 1, l, hn, h => by
    by_cases hm : n ∈ l
    · have h1 := nodup_len n (l.erase n) (hn.erase n) fun x hx => by
        have := (hn.mem_erase_iff).1 hx
        have := h x this.2
        omega
      rw [List.length_erase_of_mem hm] at h1
      omega
    · have := nodup_len n l hn fun x hx => by
        have h1 := h x hx
        have : x ≠ n := fun e => hm (e ▸ hx)
        omega
      omega
open Classical in
noncomputable def seenOf (bl : List LBlock) (b : Nat) : List Bool := (List.range bl.length).map fun x => decide (Rch bl (-1) b x)
open Classical in
theorem seenOf_get {bl : List LBlock} {b x : Nat} (h : x < bl.length) : (seenOf bl b)[x]? = some (decide (Rch bl (-1) b x)) := by simp [seenOf, h]
theorem seenOf_length (bl : List LBlock) (b : Nat) : (seenOf bl b).length = bl.length := by simp [seenOf]
def Mut (bl : List LBlock) (b c : Nat) : Prop := Rch bl (-1) b c ∧ Rch bl (-1) c b
open Classical in
noncomputable def partOf (bl : List LBlock) (b : Nat) : Nat := ((List.range bl.length).find? fun c => decide (Mut bl b c)).getD b
theorem partOf_eq {bl : List LBlock} {b c : Nat} (hc : c < bl.length) (h : Mut bl b c) (hlt : ∀ d, d < c → ¬ Mut bl b d) : partOf bl b = c := by
  classical
  have e : (List.range bl.length).find? (fun c => decide (Mut bl b c)) = some c := by
    rw [List.find?_range_eq_some]
    exact ⟨by simpa using h, by simpa using hc, fun j hj => by simpa using hlt j hj⟩
  unfold partOf
  rw [e]; rfl
def unseen (l : List Bool) : Nat := l.count false
theorem unseen_set {l : List Bool} {i : Nat} (h : l[i]? = some false) : unseen (l.set i true) + 1 = unseen l := by
  induction l generalizing i with
  | nil => simp at h
  | cons x l ih =>
    cases i with
    | zero =>
      simp only [List.getElem?_cons_zero, Option.some.injEq] at h
      subst h
      simp [unseen]
    | succ i =>
      simp only [List.getElem?_cons_succ] at h
      have := ih h
      simp only [unseen, List.set_cons_succ, List.count_cons] at this ⊢
      omega
end Go.Proofs.YtebajiafdkokjaaDoor
