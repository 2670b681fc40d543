/- Going from block to block, each once, as plain functions and facts. No program in sight. -/
import Derived.Test.YtebajiafdkokjaaDoorReach
namespace Go.Proofs.YtebajiafdkokjaaDoor
open Go Go.RowKit

/-- blocks as they are left; of each its targets from the last to the first -/
def dfs (bl : List LBlock) : Nat → Nat → List Bool × List Nat → List Bool × List Nat
  | 0, _, st => st
  | f + 1, b, st =>
    let r := ((toOf bl b).reverse.map Int.toNat).foldl (fun st t => if st.1[t]?.getD true then st else dfs bl f t st) (st.1.set b true, st.2)
    (r.1, r.2 ++ [b])
def vstep (bl : List LBlock) (f : Nat) (st : List Bool × List Nat) (t : Nat) : List Bool × List Nat := if st.1[t]?.getD true then st else dfs bl f t st
theorem dfs_succ (bl : List LBlock) (f b : Nat) (st : List Bool × List Nat) : dfs bl (f + 1) b st = ((((toOf bl b).reverse.map Int.toNat).foldl (vstep bl f) (st.1.set b true, st.2)).1, (((toOf bl b).reverse.map Int.toNat).foldl (vstep bl f) (st.1.set b true, st.2)).2 ++ [b]) := rfl
theorem getD_false {l : List Bool} {t : Nat} (h : (l[t]?.getD true) = false) : l[t]? = some false := by
  cases hq : l[t]? with
  | none => rw [hq] at h; cases h
  | some v => rw [hq] at h; simp at h; rw [h]
theorem vstep_cases {bl : List LBlock} {f t : Nat} {st : List Bool × List Nat} : vstep bl f st t = st ∨ (st.1[t]? = some false ∧ vstep bl f st t = dfs bl f t st) := by
  unfold vstep
  by_cases h : st.1[t]?.getD true = true
  · rw [if_pos h]; exact .inl rfl
  · rw [if_neg h]; exact .inr ⟨getD_false (by simpa using h), rfl⟩
theorem foldl_inv {α β : Type} {p : β → Prop} {g : β → α → β} {b : β} (hg : ∀ b a, p b → p (g b a)) (hb : p b) : ∀ l : List α, p (l.foldl g b)
  | [] => hb
  | a :: l => foldl_inv hg (hg b a hb) l

/-- what a going-through keeps: the length, what is seen; and the list grows by no more than is newly seen -/
def Grows (st st' : List Bool × List Nat) : Prop := st'.1.length = st.1.length ∧ (∀ x : Nat, st.1[x]? = some true → st'.1[x]? = some true) ∧ unseen st'.1 ≤ unseen st.1 ∧ st'.2.length + unseen st'.1 ≤ st.2.length + unseen st.1
theorem Grows.refl (st : List Bool × List Nat) : Grows st st := ⟨rfl, fun _ h => h, Nat.le_refl _, Nat.le_refl _⟩
theorem Grows.trans {a b c : List Bool × List Nat} (h : Grows a b) (k : Grows b c) : Grows a c := ⟨k.1.trans h.1, fun x hx => k.2.1 x (h.2.1 x hx), Nat.le_trans k.2.2.1 h.2.2.1, Nat.le_trans k.2.2.2 h.2.2.2⟩
theorem set_true {l : List Bool} {b x : Nat} (h : l[x]? = some true) : (l.set b true)[x]? = some true := by
  rw [List.getElem?_set]
  split
  · rename_i e; subst e
    rw [if_pos (List.getElem?_eq_some_iff.1 h).1]
  · exact h
theorem dfs_grows (bl : List LBlock) : ∀ (f b : Nat) (st : List Bool × List Nat), st.1[b]? = some false → Grows st (dfs bl f b st)
  | 0, b, st, _ => Grows.refl st
  | f + 1, b, st, hb => by
    have hu := unseen_set hb
    have h1 : ∀ st1, Grows (st.1.set b true, st.2) st1 → ∀ t, Grows (st.1.set b true, st.2) (vstep bl f st1 t) := fun st1 h t => by
      rcases vstep_cases (bl := bl) (f := f) (t := t) (st := st1) with e | ⟨hf, e⟩
      · rw [e]; exact h
      · rw [e]; exact h.trans (dfs_grows bl f t st1 hf)
    have h2 := foldl_inv (p := Grows (st.1.set b true, st.2)) (g := vstep bl f) (fun st1 t h => h1 st1 h t) (Grows.refl _) ((toOf bl b).reverse.map Int.toNat)
    rw [dfs_succ]
    refine ⟨by have := h2.1; simpa using this, fun x hx => h2.2.1 x (set_true hx), ?_, ?_⟩
    · have := h2.2.2.1; simp only at this ⊢; omega
    · have := h2.2.2.2; simp only [List.length_append, List.length_singleton] at this ⊢; omega
theorem vsteps_grows (bl : List LBlock) (f : Nat) (st : List Bool × List Nat) (l : List Nat) : Grows st (l.foldl (vstep bl f) st) :=
  foldl_inv (p := Grows st) (g := vstep bl f) (fun st1 t h => by
    rcases vstep_cases (bl := bl) (f := f) (t := t) (st := st1) with e | ⟨hf, e⟩
    · rw [e]; exact h
    · rw [e]; exact h.trans (dfs_grows bl f t st1 hf)) (Grows.refl _) l
theorem dfs_self (bl : List LBlock) (f b : Nat) (st : List Bool × List Nat) (hb : st.1[b]? = some false) : (dfs bl (f + 1) b st).1[b]? = some true := by
  rw [dfs_succ]
  refine (vsteps_grows bl f _ _).2.1 b ?_
  have hlt := (List.getElem?_eq_some_iff.1 hb).1
  simp [hlt]
/-- what was seen can be come to; the list holds what is newly seen -/
theorem GoodB.nat {bl : List LBlock} (h : GoodB bl) {b : Nat} {z : Int} (hz : z ∈ toOf bl b) : ((z.toNat : Nat) : Int) = z := by
  unfold toOf at hz
  split at hz
  · rename_i B hB
    have := (h B (List.mem_of_getElem? hB)).2 z hz
    omega
  · cases hz
theorem dfs_sound (bl : List LBlock) (hok : GoodB bl) : ∀ (f b : Nat) (st : List Bool × List Nat), st.1[b]? = some false →
    (∀ x, (dfs bl f b st).1[x]? = some true → st.1[x]? = some true ∨ Rch bl (-1) b x) ∧ ∀ x, x ∈ (dfs bl f b st).2 ↔ (x ∈ st.2 ∨ (st.1[x]? = some false ∧ (dfs bl f b st).1[x]? = some true))
  | 0, b, st, _ => ⟨fun x hx => .inl hx, fun x => ⟨.inl, fun h => h.elim id fun ⟨h1, h2⟩ => by rw [show (dfs bl 0 b st).1 = st.1 from rfl, h1] at h2; cases h2⟩⟩
  | f + 1, b, st, hb => by
    have hlt := (List.getElem?_eq_some_iff.1 hb).1
    have key : ∀ (l : List Nat), (∀ t ∈ l, Edge bl b t) → ∀ st1 : List Bool × List Nat, Grows (st.1.set b true, st.2) st1 →
        ((∀ x, st1.1[x]? = some true → st.1[x]? = some true ∨ Rch bl (-1) b x) ∧ ∀ x, x ∈ st1.2 ↔ (x ∈ st.2 ∨ (x ≠ b ∧ st.1[x]? = some false ∧ st1.1[x]? = some true))) →
        ((∀ x, (l.foldl (vstep bl f) st1).1[x]? = some true → st.1[x]? = some true ∨ Rch bl (-1) b x) ∧ ∀ x, x ∈ (l.foldl (vstep bl f) st1).2 ↔ (x ∈ st.2 ∨ (x ≠ b ∧ st.1[x]? = some false ∧ (l.foldl (vstep bl f) st1).1[x]? = some true))) := by
      intro l
      induction l with
      | nil => exact fun _ st1 _ h => h
      | cons t l ih =>
        intro hl st1 hg h
        simp only [List.foldl_cons]
        rcases vstep_cases (bl := bl) (f := f) (t := t) (st := st1) with e | ⟨hf, e⟩
        · rw [e]; exact ih (fun t' ht' => hl t' (List.mem_cons_of_mem _ ht')) st1 hg h
        · rw [e]
          have hd := dfs_sound bl hok f t st1 hf
          have hgd := dfs_grows bl f t st1 hf
          refine ih (fun t' ht' => hl t' (List.mem_cons_of_mem _ ht')) _ (hg.trans hgd) ⟨fun x hx => ?_, fun x => ?_⟩
          · rcases hd.1 x hx with h1 | h1
            · exact h.1 x h1
            · exact .inr (((Rch.refl).step (hl t (by simp)) (by omega)).trans h1)
          · rw [hd.2 x, h.2 x]
            constructor
            · rintro ((h1 | ⟨h1, h2, h3⟩) | ⟨h1, h2⟩)
              · exact .inl h1
              · exact .inr ⟨h1, h2, hgd.2.1 x h3⟩
              · by_cases hs : st.1[x]? = some true
                · exfalso
                  have := hg.2.1 x (set_true hs)
                  rw [h1] at this; cases this
                · have hxl : x < st.1.length := by have := (List.getElem?_eq_some_iff.1 h1).1; have := hg.1; simp at this; omega
                  have hsf : st.1[x]? = some false := by
                    rw [List.getElem?_eq_getElem hxl] at hs ⊢
                    cases hv : st.1[x]
                    · rfl
                    · rw [hv] at hs; exact absurd rfl hs
                  refine .inr ⟨fun e => ?_, hsf, h2⟩
                  subst e
                  have := hg.2.1 x (by simp [hlt])
                  rw [h1] at this; cases this
            · rintro (h1 | ⟨h1, h2, h3⟩)
              · exact .inl (.inl h1)
              · by_cases hs : st1.1[x]? = some true
                · exact .inl (.inr ⟨h1, h2, hs⟩)
                · refine .inr ⟨?_, h3⟩
                  have hxl : x < st1.1.length := by have := (List.getElem?_eq_some_iff.1 h2).1; have := hg.1; simp at this; omega
                  rw [List.getElem?_eq_getElem hxl] at hs ⊢
                  cases hv : st1.1[x]
                  · rfl
                  · rw [hv] at hs; exact absurd rfl hs
    have hfin := key ((toOf bl b).reverse.map Int.toNat) (fun t ht => ?_) (st.1.set b true, st.2) (Grows.refl _) ⟨fun x hx => ?_, fun x => ?_⟩
    · rw [dfs_succ]
      refine ⟨hfin.1, fun x => ?_⟩
      simp only [List.mem_append, List.mem_singleton]
      rw [hfin.2 x]
      constructor
      · rintro ((h1 | ⟨_, h2, h3⟩) | rfl)
        · exact .inl h1
        · exact .inr ⟨h2, h3⟩
        · exact .inr ⟨hb, (vsteps_grows bl f _ _).2.1 x (by simp [hlt])⟩
      · rintro (h1 | ⟨h2, h3⟩)
        · exact .inl (.inl h1)
        · by_cases e : x = b
          · exact .inr e
          · exact .inl (.inr ⟨e, h2, h3⟩)
    · obtain ⟨z, hz, rfl⟩ := List.mem_map.1 ht
      unfold Edge
      have hz : z ∈ toOf bl b := by simpa using hz
      rw [hok.nat hz]
      exact hz
    · simp only [List.getElem?_set] at hx
      by_cases e : b = x
      · subst e; exact .inr Rch.refl
      · rw [if_neg e] at hx; exact .inl hx
    · constructor
      · exact .inl
      · rintro (h | ⟨h1, h2, h3⟩)
        · exact h
        · simp only [List.getElem?_set] at h3
          rw [if_neg (Ne.symm h1), h2] at h3
          cases h3
theorem unseen_pos {l : List Bool} {t : Nat} (h : l[t]? = some false) : 1 ≤ unseen l := by have := unseen_set h; omega
theorem vstep_seen {bl : List LBlock} {f t : Nat} {st : List Bool × List Nat} (ht : t < st.1.length) (hu : unseen st.1 ≤ f) : (vstep bl f st t).1[t]? = some true := by
  unfold vstep
  by_cases h : st.1[t]?.getD true = true
  · rw [if_pos h]
    rw [List.getElem?_eq_getElem ht] at h ⊢
    simpa using h
  · rw [if_neg h]
    have hf := getD_false (by simpa using h)
    have := unseen_pos hf
    obtain ⟨m, rfl⟩ : ∃ m, f = m + 1 := ⟨f - 1, by omega⟩
    exact dfs_self bl m t st hf
theorem dfs_closed (bl : List LBlock) (hok : GoodB bl) : ∀ (f b : Nat) (st : List Bool × List Nat), st.1.length = bl.length → st.1[b]? = some false → unseen st.1 ≤ f →
    ∀ x, (dfs bl f b st).1[x]? = some true → st.1[x]? = some true ∨ ∀ y, Edge bl x y → (dfs bl f b st).1[y]? = some true
  | 0, b, st, _, hb, hu => by have := unseen_pos hb; omega
  | f + 1, b, st, hl, hb, hu => by
    have hus := unseen_set hb
    have key : ∀ (l : List Nat), (∀ t ∈ l, t < bl.length) → ∀ st1 : List Bool × List Nat, Grows (st.1.set b true, st.2) st1 →
        (∀ x, st1.1[x]? = some true → st.1[x]? = some true ∨ x = b ∨ ∀ y, Edge bl x y → st1.1[y]? = some true) →
        (∀ x, (l.foldl (vstep bl f) st1).1[x]? = some true → st.1[x]? = some true ∨ x = b ∨ ∀ y, Edge bl x y → (l.foldl (vstep bl f) st1).1[y]? = some true) ∧ ∀ t ∈ l, (l.foldl (vstep bl f) st1).1[t]? = some true := by
      intro l
      induction l with
      | nil => exact fun _ st1 _ h => ⟨h, by simp⟩
      | cons t l ih =>
        intro hlt st1 hg h
        simp only [List.foldl_cons]
        have hl1 : st1.1.length = bl.length := by have := hg.1; simp at this; omega
        have hu1 : unseen st1.1 ≤ f := by have := hg.2.2.1; simp only at this; omega
        have hs1 : (vstep bl f st1 t).1[t]? = some true := vstep_seen (by have := hlt t (by simp); omega) hu1
        have hgs : Grows st1 (vstep bl f st1 t) := by
          rcases vstep_cases (bl := bl) (f := f) (t := t) (st := st1) with e | ⟨hf, e⟩
          · rw [e]; exact Grows.refl _
          · rw [e]; exact dfs_grows bl f t st1 hf
        have := ih (fun t' ht' => hlt t' (List.mem_cons_of_mem _ ht')) (vstep bl f st1 t) (hg.trans hgs) fun x hx => ?_
        · refine ⟨this.1, fun t' ht' => ?_⟩
          rcases List.mem_cons.1 ht' with rfl | ht'
          · exact (vsteps_grows bl f _ l).2.1 _ hs1
          · exact this.2 t' ht'
        · have up : ∀ y, st1.1[y]? = some true → (vstep bl f st1 t).1[y]? = some true := hgs.2.1
          rcases vstep_cases (bl := bl) (f := f) (t := t) (st := st1) with e | ⟨hf, e⟩
          · rw [e] at hx ⊢; exact h x hx
          · rw [e] at hx up ⊢
            rcases dfs_closed bl hok f t st1 hl1 hf hu1 x hx with h1 | h1
            · rcases h x h1 with h2 | h2 | h2
              · exact .inl h2
              · exact .inr (.inl h2)
              · exact .inr (.inr fun y hy => up y (h2 y hy))
            · exact .inr (.inr h1)
    have hfin := key ((toOf bl b).reverse.map Int.toNat) (fun t ht => ?_) (st.1.set b true, st.2) (Grows.refl _) fun x hx => ?_
    · intro x hx
      rw [dfs_succ] at hx ⊢
      rcases hfin.1 x hx with h1 | rfl | h1
      · exact .inl h1
      · refine .inr fun y hy => hfin.2 y ?_
        refine List.mem_map.2 ⟨(y : Int), ?_, by simp⟩
        rw [List.mem_reverse]
        exact hy
      · exact .inr h1
    · obtain ⟨z, hz, rfl⟩ := List.mem_map.1 ht
      have hz : z ∈ toOf bl b := by simpa using hz
      exact hok.edge (x := b) (by unfold Edge; rw [hok.nat hz]; exact hz)
    · simp only [List.getElem?_set] at hx
      by_cases e : b = x
      · exact .inr (.inl e.symm)
      · rw [if_neg e] at hx; exact .inl hx
/-- all that block 0 comes to, as it is left -/
def postL (bl : List LBlock) : List Nat := (dfs bl bl.length 0 (List.replicate bl.length false, [])).2
theorem unseen_all (n : Nat) : unseen (List.replicate n false) = n := by simp [unseen]
theorem postL_mem {bl : List LBlock} (hok : GoodB bl) (h0 : 0 < bl.length) {x : Nat} : x ∈ postL bl ↔ Rch bl (-1) 0 x := by
  have hb : (List.replicate bl.length false)[0]? = some false := by simp [h0]
  have hs := dfs_sound bl hok bl.length 0 (List.replicate bl.length false, []) hb
  have hc := dfs_closed bl hok bl.length 0 (List.replicate bl.length false, []) (by simp) hb (by rw [unseen_all]; exact Nat.le_refl _)
  have hself : (dfs bl bl.length 0 (List.replicate bl.length false, [])).1[0]? = some true := by
    obtain ⟨m, hm⟩ : ∃ m, bl.length = m + 1 := ⟨bl.length - 1, by omega⟩
    rw [hm] at hb ⊢
    exact dfs_self bl m 0 _ hb
  have hno : ∀ x, ¬ ((List.replicate bl.length false)[x]? = some true) := fun x h => by
    rw [List.getElem?_replicate] at h
    split at h <;> simp at h
  unfold postL
  rw [hs.2 x]
  constructor
  · rintro (h | ⟨_, h⟩)
    · cases h
    · exact (hs.1 x h).resolve_left (hno x)
  · intro h
    have hx := rch_closed (p := fun x => (dfs bl bl.length 0 (List.replicate bl.length false, [])).1[x]? = some true) hself (fun x y hx he _ => (hc x hx).resolve_left (hno x) y he) h
    have hlt := hok.rch h0 h
    exact .inr ⟨by simp [hlt], hx⟩
theorem postL_lt {bl : List LBlock} (hok : GoodB bl) (h0 : 0 < bl.length) {x : Nat} (h : x ∈ postL bl) : x < bl.length := hok.rch h0 ((postL_mem hok h0).1 h)
theorem postL_len {bl : List LBlock} (h0 : 0 < bl.length) : (postL bl).length ≤ bl.length := by
  have hb : (List.replicate bl.length false)[0]? = some false := by simp [h0]
  have := (dfs_grows bl bl.length 0 (List.replicate bl.length false, []) hb).2.2.2
  rw [unseen_all] at this
  unfold postL
  simp only [List.length_nil] at this
  omega
end Go.Proofs.YtebajiafdkokjaaDoor
