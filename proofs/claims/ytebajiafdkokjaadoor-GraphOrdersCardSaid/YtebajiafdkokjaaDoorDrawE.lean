/- A region that draws its order and writes: every order ends in one of the states that are told by some z. Grids of rows, as plain facts. -/
import Derived.Test.YtebajiafdkokjaaDoorHeld
import Derived.Test.YtebajiafdkokjaaDoorSureB
namespace Go.Proofs.YtebajiafdkokjaaDoor
open Go Go.RowKit

section
variable {P : Program} {ro : Option Nat} {N : Nat} {ds : List Deferred} {S : Nat → Prop} {w0 : World} {L L' : List (Nat × Value)} {H H' : List Ent} {Q : Exit → Act → World → Prop}
theorem wpAnyIn_of_only {M : Act → World → Prop} {ops : Array Oper} (k : ∀ a w, M a w → Q .normal a w) : ∀ (fuel : Nat) (listed : Array Bool) (a : Act) (w : World), wpAnyIn (FW ro) 0 P .any ops (OnlyN M) fuel listed a w → wpAnyIn (FW ro) 0 P .any ops Q fuel listed a w := by
  intro fuel
  induction fuel with
  | zero => exact fun listed a w h => ⟨h.1, k a w h.2⟩
  | succ fuel ih =>
    intro listed a w h
    refine ⟨fun e => k a w (h.1 e), fun i hi => ?_⟩
    have h2 := h.2 i hi
    unfold wpOpIn at h2 ⊢
    split
    · rename_i ho
      simp only [ho] at h2
      exact ih _ _ _ h2
    · rename_i o ho
      simp only [ho] at h2
      split
      · rename_i hw
        rw [if_pos hw] at h2
        refine ⟨h2.1, ?_⟩
        have h3 := h2.2
        revert h3
        generalize (o.semAt (FW ro).round a.eval).run P w = r
        intro h3
        cases r with
        | ok nx w1 =>
          cases nx with
          | value v => exact ih _ _ _ h3
          | skip => exact ih _ _ _ h3
          | defer d => exact ih _ _ _ h3
          | enter f args =>
            refine ⟨h3.1, h3.2.mono fun e w2 hh => ?_⟩
            cases e with
            | returned v => exact ih _ _ _ hh
            | panicked c => exact (hh : False).elim
            | outgrown => exact (Exists.elim hh fun _ h => Exists.elim h fun _ h => (h : False).elim)
          | row r args => exact ⟨h3.1, h3.2.mono fun v w2 hh => ih _ _ _ hh⟩
          | round l f tmps assign body =>
            refine ⟨h3.1, h3.2.mono fun e w2 hh => ?_⟩
            cases e with
            | returned v => exact ih _ _ _ hh
            | panicked c => exact (hh : False).elim
            | outgrown => exact (Exists.elim hh fun _ h => Exists.elim h fun _ h => (h : False).elim)
          | _ => exact h3
        | halt x w1 => cases x <;> exact (h3 : False).elim
      · rename_i hw
        rw [if_neg hw] at h2
        exact ⟨h2.1, ih _ _ _ h2.2⟩
/-- every order ends in one of these states -/
theorem g_drawE {α : Type} {id n : Nat} {l : List Oper} [hl : LenO l n] (Lz : α → List (Nat × Value)) (Hz : α → List Ent) (hm : P.follows .mixedOrders = true)
    (h : G N ds S w0 L H (wpAnyIn (FW ro) 0 P .any l.toArray (OnlyN fun a w => ∃ z, St N ds S w0 (Lz z) (Hz z) a w) n (Array.replicate n false)))
    (k : ∀ z, G N ds S w0 (Lz z) (Hz z) (Q .normal)) : G N ds S w0 L H (Code.wpIn (FW ro) 0 P (Code.region id l.toArray true) Q) := fun a w hS => by
  refine wpIn_region_any hm ?_
  have h1 := h a { w with drawn := w.drawn + 1 } ⟨hS.fr, hS.wd.same rfl rfl rfl rfl⟩
  have := wpAnyIn_of_only (fun a w ⟨z, hz⟩ => k z a w hz) _ _ _ _ h1
  rw [← hl.eq] at this
  simpa using this
theorem g_doneE {α : Type} {Lz : α → List (Nat × Value)} {Hz : α → List Ent} (z : α) (hL : allIn L (Lz z)) (hH : (Hz z).Sublist H) : G N ds S w0 L H (fun a w => ∃ z, St N ds S w0 (Lz z) (Hz z) a w) := fun _ _ hS => ⟨z, hS.fix hL hH⟩
end

/-! ### Rows of those c for which R b c, row by row -/
open Classical in
noncomputable def gridTo (R : Nat → Nat → Prop) (n b c i : Nat) : List Int := ((List.range (if i < b then n else if i = b then c else 0)).filter fun d => decide (R i d)).map fun x : Nat => (x : Int)
open Classical in
noncomputable def gridL (R : Nat → Nat → Prop) (n : Nat) : List (List Int) := (List.range n).map fun b => ((List.range n).filter fun d => decide (R b d)).map fun x : Nat => (x : Int)
theorem gridTo_bd (R : Nat → Nat → Prop) {n : Nat} (hn : n ≤ 100) (b c i : Nat) (hc : c ≤ 100) : (gridTo R n b c i).length ≤ 100 ∧ ∀ x ∈ gridTo R n b c i, inI x := by
  classical
  have h1 : (if i < b then n else if i = b then c else 0) ≤ 100 := by split <;> (try split) <;> omega
  refine ⟨?_, fun x hx => ?_⟩
  · rw [gridTo, List.length_map]
    have := List.length_filter_le (fun d => decide (R i d)) (List.range (if i < b then n else if i = b then c else 0))
    rw [List.length_range] at this
    omega
  · rw [gridTo] at hx
    obtain ⟨y, hy, rfl⟩ := List.mem_map.1 hx
    have := (List.mem_filter.1 hy).1
    have : y < _ := List.mem_range.1 this
    simp only [inI]; omega
open Classical in
theorem gridTo_succ {R : Nat → Nat → Prop} {n b c i : Nat} : gridTo R n b (c + 1) i = if i = b then gridTo R n b c b ++ (if R b c then [(c : Int)] else []) else gridTo R n b c i := by
  by_cases hi : i = b
  · subst hi
    simp only [gridTo, Nat.lt_irrefl, if_false, if_true]
    rw [filterTo_succ c, List.map_append]
    congr 1
    by_cases h : R i c <;> simp [h]
  · simp only [gridTo, if_neg hi]
theorem gridTo_next {R : Nat → Nat → Prop} {n b i : Nat} : gridTo R n (b + 1) 0 i = gridTo R n b n i := by
  unfold gridTo
  congr 3
  by_cases h1 : i < b
  · simp [h1, show i < b + 1 by omega]
  · by_cases h2 : i = b
    · subst h2; simp
    · rw [if_neg (by omega), if_neg h1, if_neg h2]
      by_cases h3 : i = b + 1 <;> simp [h3]
theorem gridTo_zero {R : Nat → Nat → Prop} {n i : Nat} : gridTo R n 0 0 i = [] := by simp [gridTo]
theorem gridTo_all {R : Nat → Nat → Prop} {n : Nat} {rs : List Row} (hl : rs.length = n) (h : ∀ i r, rs[i]? = some r → r.l = gridTo R n n 0 i) : rs.map (·.l) = gridL R n := by
  apply List.ext_getElem?
  intro i
  rw [List.getElem?_map, gridL, List.getElem?_map]
  by_cases hin : i < n
  · rw [List.getElem?_eq_getElem (by omega : i < rs.length), List.getElem?_range (by omega)]
    simp only [Option.map_some, Option.some.injEq]
    rw [h i _ (List.getElem?_eq_getElem (by omega)), gridTo, if_pos (by omega)]
  · rw [List.getElem?_eq_none (by omega), List.getElem?_eq_none (by rw [List.length_range]; omega)]
    rfl
theorem grid_new (n : Nat) {R : Nat → Nat → Prop} : ∀ i r, (List.replicate n (⟨none, 0, []⟩ : Row))[i]? = some r → r.l = gridTo R n 0 0 i := fun i r hr => by
  simp only [List.getElem?_replicate] at hr
  split at hr
  · simp only [Option.some.injEq] at hr
    subst hr
    exact gridTo_zero.symm
  · cases hr
/-- row b takes c in -/
theorem grid_add {R : Nat → Nat → Prop} {n b c : Nat} {rs : List Row} {r : Row} {a' : Option Addr} {c' : Nat} (h : ∀ i q, rs[i]? = some q → q.l = gridTo R n b c i) (hr : rs[b]? = some r) (hs : R b c) :
    ∀ i q, (rs.set b ⟨a', c', r.l ++ [(c : Int)]⟩)[i]? = some q → q.l = gridTo R n b (c + 1) i := by
  classical
  intro i q hq
  have hbl := (List.getElem?_eq_some_iff.1 hr).1
  rw [gridTo_succ]
  simp only [List.getElem?_set] at hq
  by_cases hib : b = i
  · subst hib
    simp only [if_true, hbl, Option.some.injEq] at hq
    subst hq
    simp only [if_true, if_pos hs]
    rw [h b r hr]
  · rw [if_neg hib] at hq
    rw [if_neg (Ne.symm hib)]
    exact h i q hq
theorem grid_pass {R : Nat → Nat → Prop} {n b c : Nat} {rs : List Row} (h : ∀ i q, rs[i]? = some q → q.l = gridTo R n b c i) (hs : ¬ R b c) : ∀ i q, rs[i]? = some q → q.l = gridTo R n b (c + 1) i := by
  classical
  intro i q hq
  rw [gridTo_succ, if_neg hs, List.append_nil, h i q hq]
  by_cases hib : i = b
  · subst hib; simp
  · simp [hib]
end Go.Proofs.YtebajiafdkokjaaDoor
