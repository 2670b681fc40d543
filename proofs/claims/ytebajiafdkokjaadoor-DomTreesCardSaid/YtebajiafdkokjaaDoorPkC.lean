/- Texts joined: DomP GraphA GraphB Mul Cut DomA Back Range Hold Ahead CheckC CheckE CheckF. -/
import Derived.Laws.Bits64b
import Derived.Laws.CopyRow
import Derived.Laws.IdiomCopy
import Derived.Lib.Mul64
import Derived.LoopIn
import Derived.LoopNIn
import Derived.OwnWalkIn
import Derived.RangeFuncBound
import Derived.RangeFuncLeaves
import Derived.RangeFuncNested
import Derived.Shelf.Abstract
import Derived.Tactics
import Derived.TacticsInMore
import Derived.Test.YtebajiafdkokjaaDoorChecked
import Derived.WalkKit
import Derived.Test.YtebajiafdkokjaaDoorPkB
/- Who rules whom, and the going-through that finds it, as plain functions and facts. No program in sight. -/
namespace Go.Proofs.YtebajiafdkokjaaDoor
open Go Go.RowKit

/-! ### The order: what is left later stands before -/
theorem dfs_seg (bl : List LBlock) (hok : GoodB bl) : ∀ (f b : Nat) (st : List Bool × List Nat), st.1[b]? = some false →
    ∃ N, (dfs bl f b st).2 = st.2 ++ N ∧ N.Nodup ∧ (∀ x ∈ N, st.1[x]? = some false ∧ (dfs bl f b st).1[x]? = some true) ∧ (0 < f → ∃ N', N = N' ++ [b]) ∧ ∀ (i x : Nat), N[i]? = some x → x ≠ b → ∃ j p, i < j ∧ N[j]? = some p ∧ Edge bl p x
  | 0, b, st, hb => ⟨[], by simp [dfs], by simp, by simp, by simp, by simp⟩
  | f + 1, b, st, hb => by
    have key : ∀ (l : List Nat), (∀ t ∈ l, Edge bl b t) → ∀ st1 : List Bool × List Nat,
        ∃ N, (l.foldl (vstep bl f) st1).2 = st1.2 ++ N ∧ N.Nodup ∧ (∀ x ∈ N, st1.1[x]? = some false ∧ (l.foldl (vstep bl f) st1).1[x]? = some true) ∧ ∀ (i x : Nat), N[i]? = some x → Edge bl b x ∨ ∃ j p, i < j ∧ N[j]? = some p ∧ Edge bl p x := by
      intro l
      induction l with
      | nil => exact fun _ st1 => ⟨[], by simp, by simp, by simp, by simp⟩
      | cons t l ih =>
        intro hl st1
        simp only [List.foldl_cons]
        obtain ⟨N2, h1, h2, h3, h4⟩ := ih (fun t' ht' => hl t' (List.mem_cons_of_mem _ ht')) (vstep bl f st1 t)
        rcases vstep_cases (bl := bl) (f := f) (t := t) (st := st1) with e | ⟨hf, e⟩
        · rw [e] at h1 h3 ⊢
          exact ⟨N2, h1, h2, h3, h4⟩
        · obtain ⟨N1, g1, g2, g3, g4, g5⟩ := dfs_seg bl hok f t st1 hf
          rw [e] at h1 h3 ⊢
          refine ⟨N1 ++ N2, by rw [h1, g1, List.append_assoc], ?_, ?_, ?_⟩
          · refine List.nodup_append.2 ⟨g2, h2, fun x hx y hy e' => ?_⟩
            subst e'
            have := (g3 x hx).2
            rw [(h3 x hy).1] at this
            cases this
          · intro x hx
            rcases List.mem_append.1 hx with hx | hx
            · exact ⟨(g3 x hx).1, (vsteps_grows bl f _ l).2.1 x (g3 x hx).2⟩
            · refine ⟨?_, (h3 x hx).2⟩
              have h := (h3 x hx).1
              cases hq : st1.1[x]? with
              | none =>
                have h5 := (dfs_grows bl f t st1 hf).1
                have h6 := (List.getElem?_eq_some_iff.1 h).1
                rw [List.getElem?_eq_none_iff] at hq
                omega
              | some v =>
                cases v with
                | false => rfl
                | true =>
                  have := (dfs_grows bl f t st1 hf).2.1 x hq
                  rw [h] at this
                  cases this
          · intro i x hx
            by_cases hi : i < N1.length
            · rw [List.getElem?_append_left hi] at hx
              by_cases hxt : x = t
              · subst hxt; exact .inl (hl x (by simp))
              · obtain ⟨j, p, hj, hp, he⟩ := g5 i x hx hxt
                refine .inr ⟨j, p, hj, ?_, he⟩
                rw [List.getElem?_append_left (List.getElem?_eq_some_iff.1 hp).1]
                exact hp
            · rw [List.getElem?_append_right (by omega)] at hx
              rcases h4 _ x hx with h | ⟨j, p, hj, hp, he⟩
              · exact .inl h
              · refine .inr ⟨N1.length + j, p, by omega, ?_, he⟩
                rw [List.getElem?_append_right (by omega), show N1.length + j - N1.length = j by omega]
                exact hp
    obtain ⟨N, h1, h2, h3, h4⟩ := key ((toOf bl b).reverse.map Int.toNat) (fun t ht => by
      obtain ⟨z, hz, rfl⟩ := List.mem_map.1 ht
      have hz : z ∈ toOf bl b := by simpa using hz
      unfold Edge
      rw [hok.nat hz]; exact hz) (st.1.set b true, st.2)
    have hlt := (List.getElem?_eq_some_iff.1 hb).1
    have hbN : b ∉ N := fun hm => by
      have := (h3 b hm).1
      simp [hlt] at this
    rw [dfs_succ]
    refine ⟨N ++ [b], by simp only; rw [h1, List.append_assoc], ?_, ?_, fun _ => ⟨N, rfl⟩, ?_⟩
    · refine List.nodup_append.2 ⟨h2, by simp, fun x hx y hy e' => ?_⟩
      simp only [List.mem_singleton] at hy
      exact hbN (by rw [← hy, ← e']; exact hx)
    · intro x hx
      rcases List.mem_append.1 hx with hx | hx
      · have := h3 x hx
        refine ⟨?_, this.2⟩
        have h := this.1
        simp only [List.getElem?_set] at h
        by_cases e' : b = x
        · subst e'; exact absurd hx hbN
        · rw [if_neg e'] at h; exact h
      · simp only [List.mem_singleton] at hx
        subst hx
        exact ⟨hb, (vsteps_grows bl f _ _).2.1 x (by simp [hlt])⟩
    · intro i x hx hxb
      by_cases hi : i < N.length
      · rw [List.getElem?_append_left hi] at hx
        rcases h4 i x hx with h | ⟨j, p, hj, hp, he⟩
        · exact ⟨N.length, b, hi, by simp, h⟩
        · refine ⟨j, p, hj, ?_, he⟩
          rw [List.getElem?_append_left (List.getElem?_eq_some_iff.1 hp).1]
          exact hp
      · rw [List.getElem?_append_right (by omega)] at hx
        have := (List.getElem?_eq_some_iff.1 hx).1
        simp only [List.length_singleton] at this
        rw [show i - N.length = 0 by omega] at hx
        simp at hx
        exact absurd hx.symm hxb
def orderL (bl : List LBlock) : List Nat := (postL bl).reverse
theorem postL_seg {bl : List LBlock} (hok : GoodB bl) (h0 : 0 < bl.length) : (postL bl).Nodup ∧ (∃ N', postL bl = N' ++ [0]) ∧ ∀ (i x : Nat), (postL bl)[i]? = some x → x ≠ 0 → ∃ j p, i < j ∧ (postL bl)[j]? = some p ∧ Edge bl p x := by
  obtain ⟨N, h1, h2, _, h4, h5⟩ := dfs_seg bl hok bl.length 0 (List.replicate bl.length false, []) (by simp [h0])
  have e : postL bl = N := by unfold postL; rw [h1]; rfl
  rw [e]
  exact ⟨h2, h4 h0, h5⟩
/-- an order of what block 0 comes to: 0 first; of each other one some block that leads to it stands before it -/
structure Ord (bl : List LBlock) (l : List Nat) : Prop where
  nodup : l.Nodup
  mem : ∀ x, x ∈ l ↔ Rch bl (-1) 0 x
  zero : l[0]? = some 0
  ahead : ∀ (i x : Nat), l[i]? = some x → x ≠ 0 → ∃ j p, j < i ∧ l[j]? = some p ∧ Edge bl p x
theorem orderL_ord {bl : List LBlock} (hok : GoodB bl) (h0 : 0 < bl.length) : Ord bl (orderL bl) := by
  obtain ⟨h1, ⟨N', h2⟩, h3⟩ := postL_seg hok h0
  refine ⟨by unfold orderL; exact (List.reverse_perm _).nodup_iff.2 h1, fun x => by unfold orderL; rw [List.mem_reverse]; exact postL_mem hok h0, by unfold orderL; rw [h2]; simp, fun i x hx hx0 => ?_⟩
  unfold orderL at hx ⊢
  have hi := (List.getElem?_eq_some_iff.1 hx).1
  rw [List.length_reverse] at hi
  rw [List.getElem?_reverse hi] at hx
  obtain ⟨j, p, hj, hp, he⟩ := h3 _ x hx hx0
  have hjl := (List.getElem?_eq_some_iff.1 hp).1
  refine ⟨(postL bl).length - 1 - j, p, by omega, ?_, he⟩
  rw [List.getElem?_reverse (by omega), show (postL bl).length - 1 - ((postL bl).length - 1 - j) = j by omega]
  exact hp
/-! ### Who rules whom -/
def Dom (bl : List LBlock) (a b : Nat) : Prop := Rch bl (-1) 0 a ∧ Rch bl (-1) 0 b ∧ (a = b ∨ a = 0 ∨ ¬ Rch bl a 0 b)
theorem Rch.all {bl : List LBlock} {wo : Int} {a b : Nat} (h : Rch bl wo a b) : Rch bl (-1) a b := by
  induction h with
  | refl => exact .refl
  | step _ he _ ih => exact ih.step he (by omega)
theorem Dom.refl {bl : List LBlock} {b : Nat} (h : Rch bl (-1) 0 b) : Dom bl b b := ⟨h, h, .inl rfl⟩
theorem Dom.edge {bl : List LBlock} {a b p : Nat} (h : Dom bl a b) (hab : a ≠ b) (he : Edge bl p b) (hp : Rch bl (-1) 0 p) : Dom bl a p := by
  refine ⟨h.1, hp, ?_⟩
  rcases h.2.2 with e | e | e
  · exact absurd e hab
  · exact .inr (.inl e)
  · refine .inr (.inr fun hr => e (hr.step he (by omega)))
/-- what is closed as ruling is rules no more than what rules -/
theorem dom_closed {bl : List LBlock} {D : Nat → Nat → Prop} (h0 : ∀ a, D a 0 → a = 0) (hs : ∀ a b p, b ≠ 0 → D a b → Rch bl (-1) 0 p → Edge bl p b → a = b ∨ D a p) {a b : Nat} (ha : Rch bl (-1) 0 a) (hb : Rch bl (-1) 0 b) (h : D a b) : Dom bl a b := by
  refine ⟨ha, hb, ?_⟩
  by_cases e0 : a = 0
  · exact .inr (.inl e0)
  by_cases e : a = b
  · exact .inl e
  refine .inr (.inr fun hr => ?_)
  have key : ∀ x, Rch bl a 0 x → ¬ D a x := by
    intro x hx
    induction hx with
    | refl => exact fun hd => e0 (h0 a hd)
    | @step x y hx' he hw ih =>
      intro hd
      by_cases hy : y = 0
      · subst hy; exact e0 (h0 a hd)
      · rcases hs a y x hy hd hx'.all he with h1 | h1
        · exact hw (by omega)
        · exact ih h1
  exact key b hr h
/-- b's nearest one -/
def IDom (bl : List LBlock) (c b : Nat) : Prop := Dom bl c b ∧ c ≠ b ∧ ∀ a, Dom bl a b → a ≠ b → Dom bl a c
theorem Dom.antisymm {bl : List LBlock} {a b : Nat} (h : Dom bl a b) (k : Dom bl b a) : a = b := by
  -- along a shortest way to a there is no b, else a would stand before it
  by_cases e : a = b
  · exact e
  exfalso
  have key : ∀ x, Rch bl (-1) 0 x → (Rch bl a 0 x ∧ Rch bl b 0 x) ∨ (Rch bl a 0 b) ∨ (Rch bl b 0 a) ∨ a = 0 ∨ b = 0 := by
    intro x hx
    induction hx with
    | refl => exact .inl ⟨.refl, .refl⟩
    | @step x y hx' he hw ih =>
      rcases ih with ⟨h1, h2⟩ | h
      · by_cases ea : y = a
        · subst ea; exact .inr (.inr (.inl (h2.step he (by omega))))
        · by_cases eb : y = b
          · subst eb; exact .inr (.inl (h1.step he (by omega)))
          · exact .inl ⟨h1.step he (by omega), h2.step he (by omega)⟩
      · exact .inr h
  have z0 : ∀ c, Dom bl c 0 → c = 0 := fun c hc => by
    rcases hc.2.2 with e | e | e
    · exact e
    · exact e
    · exact absurd .refl e
  have f1 : a ≠ 0 := fun e0 => by subst e0; exact e (z0 b k).symm
  have f2 : b ≠ 0 := fun e0 => by subst e0; exact e (z0 a h)
  have g1 : ¬ Rch bl a 0 b := (h.2.2.resolve_left e).resolve_left f1
  have g2 : ¬ Rch bl b 0 a := (k.2.2.resolve_left (Ne.symm e)).resolve_left f2
  rcases key a h.1 with ⟨_, h2⟩ | h | h | h | h
  · exact g2 h2
  · exact g1 h
  · exact g2 h
  · exact f1 h
  · exact f2 h
theorem IDom.uniq {bl : List LBlock} {b c d : Nat} (h : IDom bl c b) (k : IDom bl d b) : c = d := (k.2.2 c h.1 h.2.1).antisymm (h.2.2 d k.1 k.2.1)
open Classical in
noncomputable def treeN (bl : List LBlock) (b : Nat) : Int := if h : ∃ c, IDom bl c b then (Classical.choose h : Nat) else -1
theorem treeN_eq {bl : List LBlock} {b c : Nat} (h : IDom bl c b) : treeN bl b = c := by
  have hx : ∃ c, IDom bl c b := ⟨c, h⟩
  unfold treeN
  rw [dif_pos hx, (Classical.choose_spec hx).uniq h]
theorem treeN_none {bl : List LBlock} {b : Nat} (h : ∀ c, ¬ IDom bl c b) : treeN bl b = -1 := by
  unfold treeN
  rw [dif_neg fun ⟨c, hc⟩ => h c hc]

/-! ### Ways up in a table -/
def Pr (up : List Int) (b : Nat) : Prop := ∃ c : Nat, up[b]? = some (c : Int)
inductive Anc (up : List Int) (a : Nat) : Nat → Prop
  | refl : Anc up a a
  | up {b c : Nat} : b ≠ 0 → up[b]? = some (c : Int) → Anc up a c → Anc up a b
theorem Anc.trans {up : List Int} {a b c : Nat} (h : Anc up a b) (k : Anc up b c) : Anc up a c := by
  induction k with
  | refl => exact h
  | up h0 he _ ih => exact .up h0 he ih
def rk (l : List Nat) (b : Nat) : Nat := l.idxOf b
theorem rk_get {l : List Nat} (hn : l.Nodup) {i x : Nat} (h : l[i]? = some x) : rk l x = i := by
  obtain ⟨hi, rfl⟩ := List.getElem?_eq_some_iff.1 h
  exact List.Nodup.idxOf_getElem hn i hi
theorem get_rk {l : List Nat} {x : Nat} (h : x ∈ l) : l[rk l x]? = some x := by
  have hi : l.idxOf x < l.length := List.idxOf_lt_length_iff.2 h
  unfold rk
  rw [List.getElem?_eq_getElem hi, List.getElem_idxOf hi]
theorem rk_inj {l : List Nat} {x y : Nat} (hx : x ∈ l) (hy : y ∈ l) (h : rk l x = rk l y) : x = y := by
  have h1 := get_rk hx
  rw [h, get_rk hy] at h1
  simpa using h1.symm
/-- ways on, in the order -/
inductive Fwd (bl : List LBlock) (l : List Nat) (a : Nat) : Nat → Prop
  | refl : Fwd bl l a a
  | step {x y : Nat} : Fwd bl l a x → Edge bl x y → rk l x < rk l y → Fwd bl l a y
theorem Fwd.trans {bl : List LBlock} {l : List Nat} {a b c : Nat} (h : Fwd bl l a b) (k : Fwd bl l b c) : Fwd bl l a c := by
  induction k with
  | refl => exact h
  | step _ he hr ih => exact ih.step he hr
theorem Fwd.le {bl : List LBlock} {l : List Nat} {a b : Nat} (h : Fwd bl l a b) : rk l a ≤ rk l b := by
  induction h with
  | refl => exact Nat.le_refl _
  | step _ _ hr ih => omega
/-- who rules the end of a way on, and stands before its begin, rules the begin -/
theorem Fwd.dom {bl : List LBlock} {l : List Nat} {a c v : Nat} (hf : Fwd bl l c v) (ha : rk l a < rk l c) (hc : Rch bl (-1) 0 c) (h : Dom bl a v) : Dom bl a c := by
  induction hf with
  | refl => exact h
  | @step x y hx he hr ih =>
    have := hx.le
    have hrx : Rch bl (-1) 0 x := by
      clear ih h
      clear he hr this
      induction hx with
      | refl => exact hc
      | step _ he _ ih => exact ih.step he (by omega)
    exact ih (h.edge (fun e => by subst e; omega) he hrx)
structure Inv (bl : List LBlock) (l : List Nat) (up : List Int) (k : Nat) : Prop where
  len : up.length = bl.length
  zero : up[0]? = some 0
  val : ∀ b c : Nat, up[b]? = some (c : Int) → b ∈ l ∧ c ∈ l ∧ (b ≠ 0 → rk l c < rk l b ∧ Pr up c)
  neg : ∀ (b : Nat) (z : Int), up[b]? = some z → z = -1 ∨ 0 ≤ z
  fwd : ∀ b c : Nat, b ≠ 0 → up[b]? = some (c : Int) → Fwd bl l c b
  low : ∀ b c : Nat, b ≠ 0 → up[b]? = some (c : Int) → ∀ y, (∀ p, Edge bl p b → Pr up p → Anc up y p) → rk l y ≤ rk l c
  sound : ∀ b a, Pr up b → Dom bl a b → Anc up a b
  past : ∀ b ∈ l, rk l b < k → Pr up b
  phase : (∀ b ∈ l, Pr up b) ∨ ∀ b, Pr up b → rk l b < k
  done : ∀ v ∈ l, v ≠ 0 → rk l v < k → ∀ p, Edge bl p v → p ∈ l → rk l p < rk l v → ∀ y, Anc up y v → y = v ∨ Anc up y p
theorem rk_zero {bl : List LBlock} {l : List Nat} (ho : Ord bl l) : rk l 0 = 0 := rk_get ho.nodup ho.zero
theorem Inv.pr_mem {bl : List LBlock} {l : List Nat} {up : List Int} {k b : Nat} (h : Inv bl l up k) (hp : Pr up b) : b ∈ l := hp.elim fun c hc => (h.val b c hc).1
theorem Inv.anc_le {bl : List LBlock} {l : List Nat} {up : List Int} {k a b : Nat} (h : Inv bl l up k) (ha : Anc up a b) : rk l a ≤ rk l b := by
  induction ha with
  | refl => exact Nat.le_refl _
  | up h0 he _ ih => have := ((h.val _ _ he).2.2 h0).1; omega
theorem Inv.anc_pr {bl : List LBlock} {l : List Nat} {up : List Int} {k a b : Nat} (h : Inv bl l up k) (ha : Anc up a b) (hb : Pr up b) : Pr up a := by
  induction ha with
  | refl => exact hb
  | up h0 he _ ih => exact ih ((h.val _ _ he).2.2 h0).2
theorem Inv.anc_eq {bl : List LBlock} {l : List Nat} {up : List Int} {k a b : Nat} (h : Inv bl l up k) (ha : Anc up a b) (hb : Pr up b) (hr : rk l b ≤ rk l a) : a = b :=
  rk_inj (h.pr_mem (h.anc_pr ha hb)) (h.pr_mem hb) (by have := h.anc_le ha; omega)
theorem Inv.anc_fwd {bl : List LBlock} {l : List Nat} {up : List Int} {k a b : Nat} (h : Inv bl l up k) (ha : Anc up a b) : Fwd bl l a b := by
  induction ha with
  | refl => exact .refl
  | up h0 he _ ih => exact ih.trans (h.fwd _ _ h0 he)
/-- two ways up -/
def MeetIs (up : List Int) (a b z : Nat) : Prop := Pr up z ∧ ∀ y, Anc up y z ↔ (Anc up y a ∧ Anc up y b)
theorem Inv.meet_up {bl : List LBlock} {l : List Nat} {up : List Int} {k a b : Nat} (ho : Ord bl l) (h : Inv bl l up k) (ha : Pr up a) (hb : Pr up b) (hne : a ≠ b) (hr : rk l b ≤ rk l a) :
    ∃ c : Nat, up[a]? = some (c : Int) ∧ Pr up c ∧ rk l c < rk l a ∧ ∀ z, MeetIs up c b z → MeetIs up a b z := by
  obtain ⟨c, hc⟩ := ha
  have hv := h.val a c hc
  have hlt : rk l b < rk l a := Nat.lt_of_le_of_ne hr fun e => hne (rk_inj hv.1 (h.pr_mem hb) e.symm)
  have ha0 : a ≠ 0 := fun e => by subst e; have := rk_zero ho; omega
  refine ⟨c, hc, (hv.2.2 ha0).2, (hv.2.2 ha0).1, fun z hz => ⟨hz.1, fun y => (hz.2 y).trans ⟨fun ⟨h1, h2⟩ => ⟨.up ha0 hc h1, h2⟩, fun ⟨h1, h2⟩ => ⟨?_, h2⟩⟩⟩⟩
  cases h1 with
  | refl => have := h.anc_le h2; omega
  | @up _ c' _ he h3 =>
    rw [hc] at he
    have : c = c' := by have := Option.some.inj he; omega
    rw [this]; exact h3
theorem meet_self {up : List Int} {a : Nat} (ha : Pr up a) : MeetIs up a a a := ⟨ha, fun _ => ⟨fun h => ⟨h, h⟩, fun h => h.1⟩⟩
theorem MeetIs.comm {up : List Int} {a b z : Nat} (h : MeetIs up a b z) : MeetIs up b a z := ⟨h.1, fun y => (h.2 y).trans And.comm⟩
/-- the best of those that lead to a block -/
def BestOf (up : List Int) (ps : List Nat) (z : Int) : Prop := (z = -1 ∧ ∀ p ∈ ps, ¬ Pr up p) ∨ ∃ c : Nat, z = c ∧ Pr up c ∧ (∃ p ∈ ps, Pr up p) ∧ ∀ y, Anc up y c ↔ ∀ p ∈ ps, Pr up p → Anc up y p
theorem bestOf_nil (up : List Int) : BestOf up [] (-1) := .inl ⟨rfl, by simp⟩
theorem BestOf.pass {up : List Int} {ps : List Nat} {z : Int} {p : Nat} (h : BestOf up ps z) (hp : ¬ Pr up p) : BestOf up (ps ++ [p]) z := by
  rcases h with ⟨rfl, h⟩ | ⟨c, rfl, h1, ⟨q, hq, hqp⟩, h3⟩
  · refine .inl ⟨rfl, fun q hq => ?_⟩
    rcases List.mem_append.1 hq with hq | hq
    · exact h q hq
    · rw [List.mem_singleton.1 hq]; exact hp
  · refine .inr ⟨c, rfl, h1, ⟨q, List.mem_append_left _ hq, hqp⟩, fun y => (h3 y).trans ⟨fun h q hq hqp => ?_, fun h q hq => h q (List.mem_append_left _ hq)⟩⟩
    rcases List.mem_append.1 hq with hq | hq
    · exact h q hq hqp
    · rw [List.mem_singleton.1 hq] at hqp; exact absurd hqp hp
theorem BestOf.first {up : List Int} {ps : List Nat} {z : Int} {p : Nat} (h : BestOf up ps z) (hz : z < 0) (hp : Pr up p) : BestOf up (ps ++ [p]) p := by
  rcases h with ⟨rfl, h⟩ | ⟨c, rfl, _⟩
  · refine .inr ⟨p, rfl, hp, ⟨p, by simp, hp⟩, fun y => ⟨fun hy q hq hqp => ?_, fun h => h p (by simp) hp⟩⟩
    rcases List.mem_append.1 hq with hq | hq
    · exact absurd hqp (h q hq)
    · rw [List.mem_singleton.1 hq]; exact hy
  · omega
theorem BestOf.pr {up : List Int} {ps : List Nat} {z : Int} (h : BestOf up ps z) (hz : 0 ≤ z) : ∃ c : Nat, z = c ∧ Pr up c := by
  rcases h with ⟨rfl, _⟩ | ⟨c, rfl, h1, _⟩
  · omega
  · exact ⟨c, rfl, h1⟩
theorem BestOf.meet {up : List Int} {ps : List Nat} {c p z : Nat} (h : BestOf up ps c) (hp : Pr up p) (hm : MeetIs up c p z) : BestOf up (ps ++ [p]) z := by
  rcases h with ⟨h, _⟩ | ⟨c', e, h1, ⟨q, hq, hqp⟩, h3⟩
  · omega
  · have : c = c' := by omega
    subst this
    refine .inr ⟨z, rfl, hm.1, ⟨q, List.mem_append_left _ hq, hqp⟩, fun y => (hm.2 y).trans ⟨fun ⟨ha, hb⟩ q hq hqp => ?_, fun h => ⟨(h3 y).2 fun q hq => h q (List.mem_append_left _ hq), h p (by simp) hp⟩⟩⟩
    rcases List.mem_append.1 hq with hq | hq
    · exact (h3 y).1 ha q hq hqp
    · rw [List.mem_singleton.1 hq]; exact hb
/-- one block looked at -/
theorem Inv.step {bl : List LBlock} {l : List Nat} {up : List Int} {k b z : Nat} (hok : GoodB bl) (h0 : 0 < bl.length) (ho : Ord bl l) (h : Inv bl l up k) (hk : 0 < k) (hb : l[k]? = some b) (hz : Pr up z)
    (hall : ∀ y, Anc up y z ↔ ∀ p, Edge bl p b → Pr up p → Anc up y p) :
    Inv bl l (up.set b (z : Int)) (k + 1) ∧ (∀ c : Nat, up[b]? = some (c : Int) → c ≠ z → rk l z < rk l c) ∧ (∀ v, Pr (up.set b (z : Int)) v ↔ (Pr up v ∨ v = b)) := by
  have hrb : rk l b = k := rk_get ho.nodup hb
  have hbl : b ∈ l := List.mem_of_getElem? hb
  have hb0 : b ≠ 0 := fun e => by subst e; have := rk_zero ho; omega
  have hlt : b < up.length := by rw [h.len]; exact hok.rch h0 ((ho.mem b).1 hbl)
  have hne : ∀ v, v ≠ b → (up.set b (z : Int))[v]? = up[v]? := fun v hv => by rw [List.getElem?_set, if_neg (Ne.symm hv)]
  have heq : (up.set b (z : Int))[b]? = some (z : Int) := by rw [List.getElem?_set, if_pos rfl, if_pos hlt]
  have hpr : ∀ v, Pr (up.set b (z : Int)) v ↔ (Pr up v ∨ v = b) := fun v => by
    by_cases e : v = b
    · subst e; exact ⟨fun _ => .inr rfl, fun _ => ⟨z, heq⟩⟩
    · unfold Pr; rw [hne v e]
      exact ⟨.inl, fun h => h.resolve_right e⟩
  -- some block ahead of it in the order has been looked at
  obtain ⟨q, hq, hqk, hqe⟩ : ∃ q, q ∈ l ∧ rk l q < k ∧ Edge bl q b := by
    obtain ⟨j, q, hj, hqj, hqe⟩ := ho.ahead k b hb hb0
    exact ⟨q, List.mem_of_getElem? hqj, by rw [rk_get ho.nodup hqj]; exact hj, hqe⟩
  have hqp : Pr up q := h.past q hq hqk
  have hzq : Anc up z q := (hall z).1 .refl q hqe hqp
  have hrz : rk l z < k := by have := h.anc_le hzq; omega
  -- the old one rules in the table what the new one does
  have hold : ∀ c : Nat, up[b]? = some (c : Int) → Anc up z c := by
    intro c hc
    have hlow := h.low b c hb0 hc z ((hall z).1 .refl)
    have hv := h.val b c hc
    by_cases e : z = c
    · subst e; exact .refl
    have hlt : rk l z < rk l c := Nat.lt_of_le_of_ne hlow fun e' => e (rk_inj (h.pr_mem hz) hv.2.1 e')
    have key : ∀ v, Fwd bl l c v → v ∈ l → rk l v < k → Anc up z v → Anc up z c := by
      intro v hf
      induction hf with
      | refl => exact fun _ _ h => h
      | @step x y hx he hr ih =>
        intro hy hyk hzy
        have hx0 : y ≠ 0 := fun e => by subst e; have := rk_zero ho; omega
        have hxl : x ∈ l := by
          rw [ho.mem]
          have hc' := (ho.mem c).1 hv.2.1
          clear ih hzy hy hyk hr he hx0
          induction hx with
          | refl => exact hc'
          | step _ he _ ih => exact ih.step he (by omega)
        rcases h.done y hy hx0 hyk x he hxl hr z hzy with e' | h2
        · subst e'; have := hx.le; omega
        · exact ih hxl (by omega) h2
    -- the last step of the way on from c to b
    have hf := h.fwd b c hb0 hc
    cases hf with
    | refl => have := (hv.2.2 hb0).1; omega
    | @step x _ hx he hr =>
      have hxl : x ∈ l := by
        rw [ho.mem]
        have hc' := (ho.mem c).1 hv.2.1
        clear hr he
        induction hx with
        | refl => exact hc'
        | step _ he _ ih => exact ih.step he (by omega)
      exact key x hx hxl (by omega) ((hall z).1 .refl x he (h.past x hxl (by omega)))
  have shrink : ∀ y v, Pr up v → Anc (up.set b (z : Int)) y v → Anc up y v := by
    intro y v hv hyv
    induction hyv with
    | refl => exact .refl
    | @up v c hv0 he _ ih =>
      by_cases e : v = b
      · subst e
        rw [heq] at he
        have e' : c = z := by have := Option.some.inj he; omega
        subst e'
        obtain ⟨c0, hc0⟩ := hv
        exact .up hv0 hc0 ((ih hz).trans (hold c0 hc0))
      · rw [hne v e] at he
        exact .up hv0 he (ih ((h.val v c he).2.2 hv0).2)
  have below : ∀ y v, rk l v < k → Anc up y v → Anc (up.set b (z : Int)) y v := by
    intro y v hv hyv
    induction hyv with
    | refl => exact .refl
    | @up v c hv0 he _ ih =>
      have e : v ≠ b := fun e => by subst e; omega
      exact .up hv0 (by rw [hne v e]; exact he) (ih (by have := ((h.val v c he).2.2 hv0).1; omega))
  have hself : ∀ y, Anc (up.set b (z : Int)) y b → y = b ∨ Anc up y z := by
    intro y hy
    cases hy with
    | refl => exact .inl rfl
    | @up _ c _ he h2 =>
      rw [heq] at he
      have e' : c = z := by have := Option.some.inj he; omega
      subst e'
      exact .inr (shrink y c hz h2)
  refine ⟨⟨by rw [List.length_set]; exact h.len, by rw [hne 0 (Ne.symm hb0)]; exact h.zero, ?_, ?_, ?_, ?_, ?_, ?_, ?_, ?_⟩, ?_, hpr⟩
  · intro v c hc
    by_cases e : v = b
    · subst e
      rw [heq] at hc
      have e' : c = z := by have := Option.some.inj hc; omega
      subst e'
      exact ⟨hbl, h.pr_mem hz, fun _ => ⟨by omega, (hpr c).2 (.inl hz)⟩⟩
    · rw [hne v e] at hc
      have := h.val v c hc
      exact ⟨this.1, this.2.1, fun hv => ⟨(this.2.2 hv).1, (hpr c).2 (.inl (this.2.2 hv).2)⟩⟩
  · intro v y hy
    by_cases e : v = b
    · subst e
      rw [heq] at hy
      have : y = (z : Int) := by simpa using hy.symm
      omega
    · rw [hne v e] at hy; exact h.neg v y hy
  · intro v c hv hc
    by_cases e : v = b
    · subst e
      rw [heq] at hc
      have e' : c = z := by have := Option.some.inj hc; omega
      subst e'
      exact (h.anc_fwd hzq).step hqe (by omega)
    · rw [hne v e] at hc; exact h.fwd v c hv hc
  · intro v c hv hc y hy
    by_cases e : v = b
    · subst e
      rw [heq] at hc
      have e' : c = z := by have := Option.some.inj hc; omega
      subst e'
      exact h.anc_le ((hall y).2 fun p he hp => shrink y p hp (hy p he ((hpr p).2 (.inl hp))))
    · rw [hne v e] at hc
      exact h.low v c hv hc y fun p he hp => shrink y p hp (hy p he ((hpr p).2 (.inl hp)))
  · -- who rules is there
    have hbz : ∀ a, Dom bl a b → a = b ∨ Anc up a z := by
      intro a ha
      by_cases e : a = b
      · exact .inl e
      · exact .inr ((hall a).2 fun p he hp => h.sound p a hp (ha.edge e he ((ho.mem p).1 (h.pr_mem hp))))
    have hbz' : ∀ a, Dom bl a b → Anc (up.set b (z : Int)) a b := by
      intro a ha
      rcases hbz a ha with e | e
      · subst e; exact .refl
      · exact .up hb0 heq (below a z hrz e)
    intro v a hv ha
    rcases (hpr v).1 hv with hv | e
    · have hav := h.sound v a hv ha
      clear hv
      induction hav with
      | refl => exact .refl
      | @up v c hv0 he hac ih =>
        by_cases e : v = b
        · subst e; exact hbz' a ha
        · refine .up hv0 (by rw [hne v e]; exact he) ?_
          by_cases e' : a = c
          · subst e'; exact .refl
          · have hvv := h.val v c he
            have hlt : rk l a < rk l c := Nat.lt_of_le_of_ne (h.anc_le hac) fun e2 => e' (rk_inj ((ho.mem a).2 ha.1) hvv.2.1 e2)
            have hd := (h.fwd v c hv0 he).dom hlt ((ho.mem c).1 hvv.2.1) ha
            exact ih ((hpr c).2 (.inl (hvv.2.2 hv0).2)) hd
    · subst e; exact hbz' a ha
  · intro v hv hvk
    by_cases e : v = b
    · exact (hpr v).2 (.inr e)
    · exact (hpr v).2 (.inl (h.past v hv (Nat.lt_of_le_of_ne (by omega) fun e' => e (rk_inj hv hbl (by omega)))))
  · rcases h.phase with h1 | h1
    · exact .inl fun v hv => (hpr v).2 (.inl (h1 v hv))
    · refine .inr fun v hv => ?_
      rcases (hpr v).1 hv with hv | e
      · have := h1 v hv; omega
      · subst e; omega
  · intro v hv hv0 hvk p he hp hr y hy
    by_cases e : v = b
    · subst e
      rcases hself y hy with e' | h2
      · exact .inl e'
      · exact .inr (below y p (by omega) ((hall y).1 h2 p he (h.past p hp (by omega))))
    · have hvk' : rk l v < k := Nat.lt_of_le_of_ne (by omega) fun e' => e (rk_inj hv hbl (by omega))
      rcases h.done v hv hv0 hvk' p he hp hr y (shrink y v (h.past v hv hvk') hy) with e' | h2
      · exact .inl e'
      · exact .inr (below y p (by omega) h2)
  · intro c hc hcz
    have hac := hold c hc
    exact Nat.lt_of_le_of_ne (h.anc_le hac) fun e' => hcz (rk_inj (h.pr_mem hz) (h.val b c hc).2.1 e').symm
/-- the table as the going-through begins -/
theorem inv_start {bl : List LBlock} {l : List Nat} (h0 : 0 < bl.length) (ho : Ord bl l) : Inv bl l ((List.replicate bl.length (-1)).set 0 0) 1 := by
  have hg : ∀ (b : Nat) (z : Int), ((List.replicate bl.length (-1 : Int)).set 0 0)[b]? = some z → (b = 0 ∧ z = 0) ∨ z = -1 := by
    intro b z h
    rw [List.getElem?_set] at h
    split at h
    · rename_i e
      split at h
      · exact .inl ⟨e.symm, (Option.some.inj h).symm⟩
      · cases h
    · rw [List.getElem?_replicate] at h
      split at h
      · exact .inr (Option.some.inj h).symm
      · cases h
  have hp : ∀ b c : Nat, ((List.replicate bl.length (-1 : Int)).set 0 0)[b]? = some (c : Int) → b = 0 ∧ c = 0 := by
    intro b c h
    rcases hg b c h with ⟨h1, h2⟩ | h2 <;> omega
  have hz : ((List.replicate bl.length (-1 : Int)).set 0 0)[0]? = some 0 := by simp [h0]
  have h0l : 0 ∈ l := List.mem_of_getElem? ho.zero
  refine ⟨by simp, hz, fun b c h => ?_, fun b z h => ?_, fun b c hb h => absurd (hp b c h).1 hb, fun b c hb h => absurd (hp b c h).1 hb, fun b a ⟨c, h⟩ ha => ?_, fun b hb hr => ?_, .inr fun b ⟨c, h⟩ => ?_, fun v hv hv0 hr => ?_⟩
  · obtain ⟨rfl, rfl⟩ := hp b c h
    exact ⟨h0l, h0l, fun h => absurd rfl h⟩
  · rcases hg b z h with ⟨_, h⟩ | h <;> omega
  · obtain ⟨rfl, rfl⟩ := hp b c h
    rcases ha.2.2 with e | e | e
    · subst e; exact .refl
    · subst e; exact .refl
    · exact absurd .refl e
  · have e : b = 0 := rk_inj hb h0l (by have := rk_zero ho; omega)
    subst e
    exact ⟨0, hz⟩
  · have := (hp b c h).1
    subst this
    have := rk_zero ho; omega
  · exact absurd (rk_inj hv h0l (by have := rk_zero ho; omega)) hv0
/-- the table as the next going-through begins -/
theorem Inv.again {bl : List LBlock} {l : List Nat} {up : List Int} (ho : Ord bl l) (h : Inv bl l up l.length) : Inv bl l up 1 := by
  have hall : ∀ b ∈ l, Pr up b := fun b hb => h.past b hb (List.idxOf_lt_length_iff.2 hb)
  exact ⟨h.len, h.zero, h.val, h.neg, h.fwd, h.low, h.sound, fun b hb _ => hall b hb, .inl hall, fun v hv hv0 hr => absurd (rk_inj hv (List.mem_of_getElem? ho.zero) (by have := rk_zero ho; omega)) hv0⟩
/-- a block stands as all that lead to it say -/
def Full (bl : List LBlock) (up : List Int) (v : Nat) : Prop := ∀ p, Edge bl p v → Pr up p → ∀ y, Anc up y v → y = v ∨ Anc up y p
theorem Inv.full {bl : List LBlock} {l : List Nat} {up : List Int} {k b z : Nat} (_h : Inv bl l up k) (_hb0 : b ≠ 0) (hc : up[b]? = some (z : Int)) (hall : ∀ y, Anc up y z ↔ ∀ p, Edge bl p b → Pr up p → Anc up y p) : Full bl up b := by
  intro p he hp y hy
  cases hy with
  | refl => exact .inl rfl
  | @up _ c _ hc' h2 =>
    rw [hc] at hc'
    have e : z = c := by have := Option.some.inj hc'; omega
    subst e
    exact .inr ((hall y).1 h2 p he hp)
/-- a sum that falls -/
def weight (l : List Nat) (n : Nat) (z : Int) : Nat := if z < 0 then n else rk l z.toNat
def mass (l : List Nat) (n : Nat) (up : List Int) : Nat := (up.map (weight l n)).sum
theorem sum_set : ∀ (l : List Nat) (i x y : Nat), l[i]? = some x → (l.set i y).sum + x = l.sum + y
  | [], i, x, y, h => by simp at h
  | a :: l, 0, x, y, h => by simp at h ⊢; omega
  | a :: l, i + 1, x, y, h => by
    have := sum_set l i x y (by simpa using h)
    simp only [List.set_cons_succ, List.sum_cons]
    omega
theorem mass_set {l : List Nat} {n : Nat} {up : List Int} {b : Nat} {x z : Int} (hb : up[b]? = some x) (h : weight l n z < weight l n x) : mass l n (up.set b z) < mass l n up := by
  unfold mass
  rw [List.map_set]
  have := sum_set (up.map (weight l n)) b (weight l n x) (weight l n z) (by rw [List.getElem?_map, hb]; rfl)
  omega
theorem Inv.falls {bl : List LBlock} {l : List Nat} {up : List Int} {k b z : Nat} {x : Int} (h : Inv bl l up k) (hz : Pr up z) (hb : up[b]? = some x) (hne : x ≠ (z : Int)) (hold : ∀ c : Nat, up[b]? = some (c : Int) → c ≠ z → rk l z < rk l c) : mass l l.length (up.set b (z : Int)) < mass l l.length up := by
  refine mass_set hb ?_
  have hzl : rk l z < l.length := List.idxOf_lt_length_iff.2 (h.pr_mem hz)
  unfold weight
  rw [if_neg (by omega)]
  rcases h.neg b x hb with e | e
  · rw [if_pos (by omega)]; simpa using hzl
  · rw [if_neg (by omega)]
    obtain ⟨c, rfl⟩ : ∃ c : Nat, x = c := ⟨x.toNat, by omega⟩
    simpa using hold c hb (by omega)
/-- the end: the nearest ones -/
theorem Inv.tree {bl : List LBlock} {l : List Nat} {up : List Int} (ho : Ord bl l) (h : Inv bl l up l.length) (hfull : ∀ v ∈ l, v ≠ 0 → Full bl up v) :
    up.set 0 (-1) = (List.range bl.length).map (treeN bl) := by
  have hall : ∀ b ∈ l, Pr up b := fun b hb => h.past b hb (List.idxOf_lt_length_iff.2 hb)
  have hanc : ∀ a b, b ∈ l → Anc up a b → Dom bl a b := by
    intro a b hb hab
    refine dom_closed (D := fun a b => Anc up a b) (fun a ha => ?_) (fun a b p hb0 hab hp he => ?_) ((ho.mem a).1 (h.pr_mem (h.anc_pr hab (hall b hb)))) ((ho.mem b).1 hb) hab
    · cases ha with
      | refl => rfl
      | up h0 => exact absurd rfl h0
    · have hpl := (ho.mem p).2 hp
      have hbl : b ∈ l := (ho.mem b).2 (hp.step he (by omega))
      exact hfull b hbl hb0 p he (hall p hpl) a hab
  apply List.ext_getElem?
  intro b
  by_cases hb : b < bl.length
  · have hbu : b < up.length := by rw [h.len]; exact hb
    rw [List.getElem?_map, List.getElem?_range hb, Option.map_some]
    by_cases hb0 : b = 0
    · subst hb0
      rw [List.getElem?_set, if_pos rfl, if_pos hbu, treeN_none]
      intro c hc
      refine hc.2.1 ?_
      rcases hc.1.2.2 with e | e | e
      · exact e
      · exact e
      · exact absurd .refl e
    · rw [List.getElem?_set, if_neg (Ne.symm hb0)]
      by_cases hbl : b ∈ l
      · obtain ⟨c, hc⟩ := hall b hbl
        have hv := h.val b c hc
        rw [hc, treeN_eq (c := c)]
        refine ⟨hanc c b hbl (.up hb0 hc .refl), fun e => by subst e; have := (hv.2.2 hb0).1; omega, fun a ha hab => ?_⟩
        have hx := h.sound b a (hall b hbl) ha
        cases hx with
        | refl => exact absurd rfl hab
        | @up _ c' _ hc' h2 =>
          rw [hc] at hc'
          have e : c = c' := by have := Option.some.inj hc'; omega
          subst e
          exact hanc a c hv.2.1 h2
      · rw [treeN_none fun c hc => hbl ((ho.mem b).2 hc.1.2.1)]
        obtain ⟨z, hz⟩ : ∃ z, up[b]? = some z := ⟨_, List.getElem?_eq_getElem hbu⟩
        rw [hz]
        rcases h.neg b z hz with e | e
        · rw [e]
        · exact absurd (h.val b z.toNat (by rw [hz]; congr 1; omega)).1 hbl
  · rw [List.getElem?_eq_none (by rw [List.length_set, h.len]; omega), List.getElem?_eq_none (by simp; omega)]
/-! ### The table, and who is nearest by how many there are -/
theorem Dom.trans {bl : List LBlock} {a c b : Nat} (h : Dom bl a c) (k : Dom bl c b) : Dom bl a b := by
  by_cases eac : a = c
  · subst eac; exact k
  by_cases ecb : c = b
  · subst ecb; exact h
  refine ⟨h.1, k.2.1, ?_⟩
  by_cases ea : a = 0
  · exact .inr (.inl ea)
  refine .inr (.inr fun hr => ?_)
  have ec : c ≠ 0 := fun e => by
    subst e
    rcases h.2.2 with e | e | e
    · exact eac e
    · exact ea e
    · exact e .refl
  have h1 : ¬ Rch bl a 0 c := (h.2.2.resolve_left eac).resolve_left ea
  have h2 : ¬ Rch bl c 0 b := (k.2.2.resolve_left ecb).resolve_left ec
  have key : ∀ x, Rch bl a 0 x → Rch bl c 0 x ∨ Rch bl a 0 c := by
    intro x hx
    induction hx with
    | refl => exact .inl .refl
    | @step x y hx' he hw ih =>
      rcases ih with ih | ih
      · by_cases e : y = c
        · subst e; exact .inr (hx'.step he hw)
        · exact .inl (ih.step he (by omega))
      · exact .inr ih
  rcases key b hr with h | h
  · exact h2 h
  · exact h1 h
theorem Dom.chain {bl : List LBlock} {a c b : Nat} (h : Dom bl a b) (k : Dom bl c b) : Dom bl a c ∨ Dom bl c a := by
  by_cases eab : a = b
  · subst eab; exact .inr k
  by_cases ecb : c = b
  · subst ecb; exact .inl h
  by_cases ea : a = 0
  · exact .inl ⟨h.1, k.1, .inr (.inl ea)⟩
  by_cases ec : c = 0
  · exact .inr ⟨k.1, h.1, .inr (.inl ec)⟩
  by_cases e1 : Rch bl a 0 c
  · by_cases e2 : Rch bl c 0 a
    · exfalso
      have h1 : ¬ Rch bl a 0 b := (h.2.2.resolve_left eab).resolve_left ea
      have h2 : ¬ Rch bl c 0 b := (k.2.2.resolve_left ecb).resolve_left ec
      have key : ∀ x, Rch bl (-1) 0 x → (Rch bl a 0 x ∧ Rch bl c 0 x) ∨ Rch bl c a x ∨ Rch bl a c x := by
        intro x hx
        induction hx with
        | refl => exact .inl ⟨.refl, .refl⟩
        | @step x y _ he _ ih =>
          by_cases ya : y = a
          · subst ya; exact .inr (.inl .refl)
          by_cases yc : y = c
          · subst yc; exact .inr (.inr .refl)
          rcases ih with ⟨g1, g2⟩ | g | g
          · exact .inl ⟨g1.step he (by omega), g2.step he (by omega)⟩
          · exact .inr (.inl (g.step he (by omega)))
          · exact .inr (.inr (g.step he (by omega)))
      rcases key b h.2.1 with ⟨g, _⟩ | g | g
      · exact h1 g
      · exact h2 (e2.trans g)
      · exact h1 (e1.trans g)
    · exact .inr ⟨k.1, h.1, .inr (.inr e2)⟩
  · exact .inl ⟨h.1, k.1, .inr (.inr e1)⟩
theorem dom_zero {bl : List LBlock} {a : Nat} (h : Dom bl a 0) : a = 0 := by
  rcases h.2.2 with e | e | e
  · exact e
  · exact e
  · exact absurd .refl e
theorem idom_ex {bl : List LBlock} {b : Nat} (hok : GoodB bl) (h0 : 0 < bl.length) (hb : Rch bl (-1) 0 b) (hb0 : b ≠ 0) : ∃ c, IDom bl c b := by
  have key : ∀ m, (∀ c, c < m → c ≠ b → ¬ Dom bl c b) ∨ ∃ x, x < m ∧ x ≠ b ∧ Dom bl x b ∧ ∀ c, c < m → c ≠ b → Dom bl c b → Dom bl c x := by
    intro m
    induction m with
    | zero => exact .inl fun c hc => by omega
    | succ m ih =>
      by_cases hm : m ≠ b ∧ Dom bl m b
      · rcases ih with ih | ⟨x, hx, hxb, hd, hall⟩
        · refine .inr ⟨m, by omega, hm.1, hm.2, fun c hc hcb hcd => ?_⟩
          by_cases e : c = m
          · subst e; exact .refl hcd.1
          · exact absurd hcd (ih c (by omega) hcb)
        · rcases hd.chain hm.2 with g | g
          · refine .inr ⟨m, by omega, hm.1, hm.2, fun c hc hcb hcd => ?_⟩
            by_cases e : c = m
            · subst e; exact .refl hcd.1
            · exact (hall c (by omega) hcb hcd).trans g
          · refine .inr ⟨x, by omega, hxb, hd, fun c hc hcb hcd => ?_⟩
            by_cases e : c = m
            · subst e; exact g
            · exact hall c (by omega) hcb hcd
      · have hno : ∀ c, c < m + 1 → c ≠ b → Dom bl c b → c < m := fun c hc hcb hcd => by
          have : c ≠ m := fun e => by subst e; exact hm ⟨hcb, hcd⟩
          omega
        rcases ih with ih | ⟨x, hx, hxb, hd, hall⟩
        · exact .inl fun c hc hcb hcd => ih c (hno c hc hcb hcd) hcb hcd
        · exact .inr ⟨x, by omega, hxb, hd, fun c hc hcb hcd => hall c (hno c hc hcb hcd) hcb hcd⟩
  rcases key bl.length with h | ⟨x, _, hxb, hd, hall⟩
  · exact absurd ⟨.refl, hb, .inr (.inl rfl)⟩ (h 0 h0 (Ne.symm hb0))
  · exact ⟨x, hd, hxb, fun a ha hab => hall a (hok.rch h0 ha.1) hab ha⟩
theorem IDom.iff {bl : List LBlock} {a b c : Nat} (h : IDom bl c b) : Dom bl a b ↔ (Dom bl a c ∨ a = b) := by
  refine ⟨fun ha => ?_, fun ha => ha.elim (fun h1 => h1.trans h.1) fun e => by subst e; exact .refl h.1.2.1⟩
  by_cases e : a = b
  · exact .inr e
  · exact .inl (h.2.2 a ha e)
open Classical in
noncomputable def domTo (bl : List LBlock) (b n : Nat) : List Nat := (List.range n).filter fun c => decide (Dom bl c b)
open Classical in
theorem domTo_cnt (bl : List LBlock) (b n : Nat) : (domTo bl b n).length = cnt (fun c => Dom bl c b) n := rfl
theorem idom_has {bl : List LBlock} (hok : GoodB bl) (h0 : 0 < bl.length) {b c : Nat} (h : IDom bl c b) : (domTo bl c bl.length).length + 1 = (domTo bl b bl.length).length := by
  classical
  have hb := hok.rch h0 h.1.2.1
  rw [domTo_cnt, domTo_cnt]
  exact (cnt_one (b := b) (fun hd => h.2.1 (h.1.antisymm hd)) hb fun a _ => h.iff).symm
theorem idom_less {bl : List LBlock} (hok : GoodB bl) (h0 : 0 < bl.length) {b x : Nat} (hd : Dom bl x b) (hl : (domTo bl x bl.length).length + 1 = (domTo bl b bl.length).length) : IDom bl x b := by
  classical
  have hb0 : b ≠ 0 := fun e => by
    subst e
    have := dom_zero hd
    subst this
    omega
  obtain ⟨c, hc⟩ := idom_ex hok h0 hd.2.1 hb0
  have h1 := idom_has hok h0 hc
  have hxb : x ≠ b := fun e => by subst e; omega
  have hxc := hc.2.2 x hd hxb
  have hcx : Dom bl c x := by
    refine cnt_eq (p := fun a => Dom bl a x) (q := fun a => Dom bl a c) (n := bl.length) (fun a _ ha => ha.trans hxc) ?_ c (hok.rch h0 hc.1.1) (.refl hc.1.1)
    rw [← domTo_cnt, ← domTo_cnt]; omega
  rw [hxc.antisymm hcx]; exact hc
theorem domTo_mem {bl : List LBlock} {b n c : Nat} : c ∈ domTo bl b n ↔ (c < n ∧ Dom bl c b) := by
  classical
  unfold domTo
  simp
end Go.Proofs.YtebajiafdkokjaaDoor

/- graph.From: which blocks a block reaches. -/
namespace Go.Proofs.YtebajiafdkokjaaDoor
open Go Go.RowKit
attribute [local irreducible] wpListIn Code.wpIn Exit.then Exit.inBlock bodyPost wpQuiet wpAnyIn
set_option maxHeartbeats 2000000

def intN (x : Nat) : Value := .int .i64 (x : Int)
theorem graphFrom_c (nm pa re : Value) (bl : List LBlock) (bs : Value) (b : Nat) (w0 : World) (hbs : SlAt w0 bs 6 bl BlockV) (hlen : bl.length ≤ 100) (hok : GoodB bl) (hb : b < bl.length) :
    Ret Tryd.prog 45 [.agg #[nm, pa, re, bs], .int .i64 b] w0 fun u w' => ∃ p : Nat, u = .slice (some ⟨p, 0, none⟩) bl.length bl.length ∧ Wd NoS w0 [Ent.vec (some ⟨p, 0, none⟩) bl.length bl.length 4 1 ((seenOf bl b).map .bool)] w' ∧ True := by
  obtain ⟨ba, n, bc, bb, bo', rfl, hn, hnc, hnb, hbc, hba, hel⟩ := hbs
  rw [← hn] at hb hlen ⊢
  refine ret_enter Tryd.func45 rfl Tryd.ntmps45 rfl (Wd.nil NoS w0) ?_
  have hli0 : LtIs b n := ⟨hb⟩
  repeat (first | refine g_op rfl ?_ | refine g_then ?_ | refine g_nil ?_ | refine g_region ?_ | refine g_seq ?_ | refine g_box rfl fun _ _ => ?_ | refine g_make rfl (by omega) (by omega) fun _ _ => ?_)
  rename_i p2 _ p5 _
  rw [show List.replicate n (Value.bool false) = (List.replicate n false).map Value.bool by simp]
  have hea : ElAt (List.replicate n false) b false := ⟨by simp [hb]⟩
  repeat (first | refine g_op rfl ?_ | refine g_then ?_ | refine g_nil ?_ | refine g_region ?_ | refine g_seq ?_ | refine g_block ?_ | refine g_storeV ?_ | refine g_build1 rfl rfl fun _ _ => ?_)
  rename_i p6 _
  refine g_loop (fun (x : List Bool × List Nat × Option Addr × Nat) => x.1.length = n ∧ (∀ y, x.1[y]? = some true → Rch bl (-1) b y) ∧ x.1[b]? = some true ∧ (∀ y ∈ x.2.1, x.1[y]? = some true) ∧ (∀ y, x.1[y]? = some true → y ∈ x.2.1 ∨ ∀ z, Edge bl y z → x.1[z]? = some true) ∧ unseen x.1 + x.2.1.length ≤ n + 1)
    (fun x => [(6, .slice x.2.2.1 x.2.1.length x.2.2.2), (5, .slice (some ⟨p5, 0, none⟩) n n), (2, .pointer (some ⟨p2, 0, none⟩))])
    (fun x => [Ent.vec x.2.2.1 x.2.1.length x.2.2.2 3 1 (x.2.1.map intN), Ent.vec (some ⟨p5, 0, none⟩) n n 4 1 (x.1.map .bool), Ent.box p2 [nm, pa, re, .slice ba n bc] 35])
    (fun x => unseen x.1 + x.2.1.length) ((List.replicate n false).set b true, [b], some ⟨p6, 0, none⟩, 1) ⟨by simp, ?_, by simp [hb], by simp [hb], ?_, ?_⟩ (g_done (by repeat (first | exact trivial | refine ⟨rfl, ?_⟩)) (List.Sublist.refl _)) fun x ⟨hsl, hsr, hsb, hrs, hcl, hun⟩ => ?_
  · intro y hy
    simp only [List.getElem?_set, List.length_replicate, List.getElem?_replicate] at hy
    by_cases hyb : b = y
    · subst hyb; exact Rch.refl
    · rw [if_neg hyb] at hy
      split at hy <;> cases hy
  · intro y hy
    simp only [List.getElem?_set, List.length_replicate, List.getElem?_replicate] at hy
    by_cases hyb : b = y
    · subst hyb; simp
    · rw [if_neg hyb] at hy
      split at hy <;> cases hy
  · have := unseen_set (l := List.replicate n false) (i := b) (by simp [hb])
    have h2 : unseen (List.replicate n false) = n := by simp [unseen]
    simp only [List.length_singleton]; omega
  obtain ⟨seen, row, ra, rc⟩ := x
  simp only at hsl hsr hsb hrs hcl hun ⊢
  repeat (first | refine g_op rfl ?_ | refine g_then ?_ | refine g_nil ?_ | refine g_region ?_ | refine g_seq ?_)
  refine g_cond (fun h1 => ?_) (fun h1 => ?_)
  · obtain ⟨x0, rest, rfl⟩ : ∃ x0 rest, row = x0 :: rest := by
      cases row with
      | nil => simp at h1
      | cons x0 rest => exact ⟨x0, rest, rfl⟩
    refine g_vec 0 rfl (by simp) fun rb ro hra => ?_
    subst hra
    have hx0s := hrs x0 (by simp)
    have hx0 : x0 < n := by rw [← hsl]; exact (List.getElem?_eq_some_iff.1 hx0s).1
    obtain ⟨B, hB⟩ := get_lt hn hx0
    have had : AddrIs ba bb bo' := ⟨hba (ne_of_get hB)⟩
    have hli : LtIs x0 n := ⟨hx0⟩
    have hli1 : LtIs 0 (x0 :: rest).length := ⟨by simp⟩
    obtain ⟨cs, hcs, pv, lv, tv, rfl, _, _, _, _, ht⟩ := hel x0 B hB
    obtain ⟨ta, tn, tc, tb, to', rfl, htn, htnc, htnb, htc, hta, htel⟩ := ht
    have hci : CellsIs w0 bb (bo' + x0 * 6) _ := ⟨hcs⟩
    have hBok := hok B (List.mem_of_getElem? hB)
    have hxat : XAt ((x0 :: rest).map intN) (0 * 1) (.int .i64 (x0 : Int)) := ⟨rfl⟩
    repeat (first | refine g_then ?_ | refine g_seq ?_ | refine g_block ?_ | refine g_skip ?_)
    refine g_draw mixed (by kernel_rfl) ?_
    repeat (first | refine q_op rfl ?_ | refine q_nil ?_)
    repeat (first | refine g_then ?_ | refine g_block ?_)
    refine g_loop (fun (x : Nat × List Bool × List Nat × Option Addr × Nat) => x.1 ≤ tn ∧ x.2.1.length = n ∧ (∀ y, x.2.1[y]? = some true → Rch bl (-1) b y) ∧ x.2.1[b]? = some true ∧ (∀ y ∈ x.2.2.1, x.2.1[y]? = some true) ∧ (∀ y, x.2.1[y]? = some true → y ∈ x.2.2.1 ∨ ∀ z, Edge bl y z → x.2.1[z]? = some true) ∧ unseen x.2.1 + x.2.2.1.length = unseen seen + (x0 :: rest).length ∧ (∃ r', x.2.2.1 = x0 :: r') ∧ ∀ k t, k < x.1 → B.to[k]? = some t → x.2.1[t.toNat]? = some true)
      (fun x => [(33, .int .i64 x.1), (31, .slice ta tn tc), (32, .int .i64 tn), (6, .slice x.2.2.2.1 x.2.2.1.length x.2.2.2.2), (5, .slice (some ⟨p5, 0, none⟩) n n), (2, .pointer (some ⟨p2, 0, none⟩))])
      (fun x => [Ent.vec x.2.2.2.1 x.2.2.1.length x.2.2.2.2 3 1 (x.2.2.1.map intN), Ent.vec (some ⟨p5, 0, none⟩) n n 4 1 (x.2.1.map .bool), Ent.box p2 [nm, pa, re, .slice ba n bc] 35])
      (fun x => tn - x.1) (0, seen, x0 :: rest, some ⟨rb, ro, none⟩, rc) ⟨Nat.zero_le _, hsl, hsr, hsb, hrs, hcl, rfl, ⟨rest, rfl⟩, by simp⟩ (g_done (by repeat (first | exact trivial | refine ⟨rfl, ?_⟩)) (List.Sublist.refl _)) fun x ⟨hj, hsl', hsr', hsb', hrs', hcl', hun', ⟨r', hr'⟩, hdone⟩ => ?_
    obtain ⟨j, seen', row', ra', rc'⟩ := x
    simp only at hj hsl' hsr' hsb' hrs' hcl' hun' hr' hdone ⊢
    repeat (first | refine g_op rfl ?_ | refine g_then ?_ | refine g_nil ?_ | refine g_region ?_ | refine g_seq ?_)
    refine g_cond (fun h2 => ?_) (fun h2 => ?_)
    · have hjlt : j < tn := by simpa using h2
      obtain ⟨t, htj⟩ := get_lt htn hjlt
      have htt := hBok.2 t (List.mem_of_getElem? htj)
      obtain ⟨k, hk⟩ : ∃ k : Nat, t = k := ⟨t.toNat, by omega⟩
      have hkn : k < n := by omega
      have had2 : AddrIs ta tb to' := ⟨hta (ne_of_get htj)⟩
      have hli2 : LtIs j tn := ⟨hjlt⟩
      have hli3 : LtIs k n := ⟨hkn⟩
      have hni : NatIs t k := ⟨hk⟩
      obtain ⟨cs2, hcs2, rfl, _⟩ := htel j t htj
      have hci2 : CellsIs w0 tb (to' + j * 1) _ := ⟨hcs2⟩
      obtain ⟨sv, hsv⟩ : ∃ sv, seen'[k]? = some sv := ⟨_, List.getElem?_eq_getElem (by omega)⟩
      have hea : ElAt seen' k sv := ⟨hsv⟩
      have hedge : Edge bl x0 k := by
        unfold Edge
        rw [toOf_get hB, ← hk]
        exact List.mem_of_getElem? htj
      have hrk : Rch bl (-1) b k := (hsr' x0 (hrs' x0 (by rw [hr']; simp))).step hedge (by omega)
      cases sv
      · repeat (first | refine g_op rfl ?_ | refine g_then ?_ | refine g_nil ?_ | refine g_region ?_ | refine g_seq ?_ | refine g_block ?_ | refine g_skip ?_ | refine g_condT ?_ | refine g_storeV ?_ | refine g_build1 rfl rfl fun _ _ => ?_)
        refine g_append rfl rfl (by omega) (by omega) fun a' c' => ?_
        rw [show row'.map intN ++ [.int .i64 t] = (row' ++ [k]).map intN by simp [intN, hk]]
        rw [show row'.length + 1 = (row' ++ [k]).length by simp]
        repeat (first | refine g_then ?_ | refine g_nil ?_ | refine g_region ?_ | refine g_opS rfl ?_ | refine g_inBlock ?_ | refine g_add rfl (by omega) (by omega) ?_)
        have hus := unseen_set hsv
        have hset : ∀ y, (seen'.set k true)[y]? = some true ↔ (y = k ∨ seen'[y]? = some true) := by
          intro y
          rw [List.getElem?_set]
          by_cases hyk : k = y
          · subst hyk; simp [show k < seen'.length by omega]
          · rw [if_neg hyk]; simp [Ne.symm hyk]
        refine g_next (j + 1, seen'.set k true, row' ++ [k], a', c') ⟨hjlt, by simpa using hsl', ?_, ?_, ?_, ?_, ?_, ⟨r' ++ [k], by rw [hr']; rfl⟩, ?_⟩ (by simp only; omega) (by repeat (first | exact trivial | refine ⟨rfl, ?_⟩)) (List.Sublist.cons _ (List.Sublist.refl _))
        · intro y hy
          rcases (hset y).1 hy with rfl | hy
          · exact hrk
          · exact hsr' y hy
        · exact (hset b).2 (.inr hsb')
        · intro y hy
          rcases List.mem_append.1 hy with hy | hy
          · exact (hset y).2 (.inr (hrs' y hy))
          · exact (hset y).2 (.inl (by simpa using hy))
        · intro y hy
          rcases (hset y).1 hy with rfl | hy
          · left; simp
          · rcases hcl' y hy with h | h
            · left; simp [h]
            · right; intro z hz; exact (hset z).2 (.inr (h z hz))
        · simp only [List.length_append, List.length_singleton]; omega
        · intro q t' hq ht'
          by_cases hqj : q = j
          · subst hqj
            rw [htj] at ht'
            simp only [Option.some.injEq] at ht'
            subst ht'
            exact (hset _).2 (.inl (by omega))
          · exact (hset _).2 (.inr (hdone q t' (by simp only at hq; omega) ht'))
      · repeat (first | refine g_op rfl ?_ | refine g_then ?_ | refine g_nil ?_ | refine g_region ?_ | refine g_seq ?_ | refine g_opS rfl ?_ | refine g_inBlock ?_ | refine g_block ?_ | refine g_skip ?_ | refine g_condF ?_ | refine g_add rfl (by omega) (by omega) ?_)
        refine g_next (j + 1, seen', row', ra', rc') ⟨hjlt, hsl', hsr', hsb', hrs', hcl', hun', ⟨r', hr'⟩, ?_⟩ (by simp only; omega) (by repeat (first | exact trivial | refine ⟨rfl, ?_⟩)) (List.Sublist.refl _)
        intro q t' hq ht'
        by_cases hqj : q = j
        · subst hqj
          rw [htj] at ht'
          simp only [Option.some.injEq] at ht'
          subst ht'
          rw [hk]; simpa using hsv
        · exact hdone q t' (by simp only at hq; omega) ht'
    · have hge : j = tn := by have := h2; simp at this; omega
      subst hr'
      repeat (first | refine g_op rfl ?_ | refine g_then ?_ | refine g_region ?_ | refine g_inBlock ?_ | refine g_exit ?_ | refine g_thenExit ?_ | refine g_exitHere ?_)
      refine g_tail rfl (by simp) fun a' => ?_
      repeat (first | refine g_then ?_ | refine g_nil ?_ | refine g_opS rfl ?_)
      refine g_next (seen', r', a', rc' - 1) ⟨hsl', hsr', hsb', fun y hy => hrs' y (by simp [hy]), fun y hy => ?_, ?_⟩ ?_ (by repeat (first | exact trivial | refine ⟨rfl, ?_⟩)) (List.Sublist.refl _)
      · rcases hcl' y hy with h | h
        · rcases List.mem_cons.1 h with rfl | h
          · right
            intro z hz
            unfold Edge at hz
            rw [toOf_get hB] at hz
            obtain ⟨q, hq⟩ := List.getElem?_of_mem hz
            have := hdone q _ (by have := (List.getElem?_eq_some_iff.1 hq).1; omega) hq
            simpa using this
          · exact .inl h
        · exact .inr h
      · simp only [List.length_cons] at hun' hun ⊢; omega
      · simp only [List.length_cons] at hun' ⊢; omega
  · have hrow : row = [] := by
      cases row with
      | nil => rfl
      | cons x r => simp at h1
    subst hrow
    have hfin : seen = seenOf bl b := by
      classical
      apply List.ext_getElem?
      intro y
      by_cases hy : y < n
      · rw [seenOf_get (by omega)]
        obtain ⟨sv, hsv⟩ : ∃ sv, seen[y]? = some sv := ⟨_, List.getElem?_eq_getElem (by omega)⟩
        rw [hsv]
        congr 1
        cases sv
        · symm
          rw [decide_eq_false_iff_not]
          intro hr
          have := rch_closed (p := fun y => seen[y]? = some true) hsb (fun x y hx he _ => (hcl x hx).elim (fun h => by cases h) fun h => h y he) hr
          rw [hsv] at this
          cases this
        · symm
          rw [decide_eq_true_eq]
          exact hsr y hsv
      · rw [List.getElem?_eq_none (by omega), List.getElem?_eq_none (by rw [seenOf_length]; omega)]
    repeat (first | refine g_op rfl ?_ | refine g_then ?_ | refine g_nil ?_ | refine g_region ?_ | refine g_seq ?_ | refine g_exit ?_ | refine g_thenExit ?_ | refine g_exitHere ?_ | refine g_ret ?_)
    refine g_ret1 rfl fun w hw => ⟨p5, rfl, ?_, trivial⟩
    rw [← hfin]
    exact hw.sub (List.Sublist.cons _ (List.Sublist.cons_cons _ (List.Sublist.cons _ (List.Sublist.refl _))))
end Go.Proofs.YtebajiafdkokjaaDoor

/- turneryref3.Has, From and Part: what each returns. -/
namespace Go.Proofs.YtebajiafdkokjaaDoor
open Go Go.RowKit
attribute [local irreducible] wpListIn Code.wpIn Exit.then Exit.inBlock bodyPost wpQuiet wpAnyIn
set_option maxHeartbeats 2000000

theorem has_c (v : Value) (l : List Int) (x : Int) (w0 : World) (hv : SlAt w0 v 1 l IntV) : RetV Tryd.prog 20 [v, .int .i64 x] w0 (.bool (decide (x ∈ l))) := by
  obtain ⟨a, n, c, b, o, rfl, hn, hnc, hnb, hc, ha, hel⟩ := hv
  refine ret_enter Tryd.func20 rfl Tryd.ntmps20 rfl (Wd.nil NoS w0) ?_
  repeat (first | refine g_op rfl ?_ | refine g_then ?_ | refine g_nil ?_ | refine g_region ?_ | refine g_seq ?_ | refine g_block ?_)
  refine g_loop (fun (i : Nat) => i ≤ n ∧ ∀ j t, j < i → l[j]? = some t → t ≠ x) (fun i => [(5, .int .i64 i), (0, .slice a n c), (1, .int .i64 x)]) (fun _ => []) (fun i => n - i) 0 ⟨Nat.zero_le _, by simp⟩ (g_done (by repeat (first | exact trivial | refine ⟨rfl, ?_⟩)) (by simp)) fun i ⟨hi, hall⟩ => ?_
  repeat (first | refine g_op rfl ?_ | refine g_then ?_ | refine g_nil ?_ | refine g_region ?_ | refine g_seq ?_)
  refine g_cond (fun h1 => ?_) (fun h1 => ?_)
  · have hlt : i < n := by simpa using h1
    obtain ⟨t, ht⟩ := get_lt hn hlt
    have had : AddrIs a b o := ⟨ha (ne_of_get ht)⟩
    have hli : LtIs i n := ⟨hlt⟩
    obtain ⟨cs, hcs, rfl, _⟩ := hel i t ht
    have hci : CellsIs w0 b (o + i * 1) _ := ⟨hcs⟩
    repeat (first | refine g_op rfl ?_ | refine g_then ?_ | refine g_nil ?_ | refine g_region ?_ | refine g_seq ?_ | refine g_block ?_ | refine g_skip ?_)
    refine g_cond (fun h2 => ?_) (fun h2 => ?_)
    · repeat (first | refine g_op rfl ?_ | refine g_then ?_ | refine g_nil ?_ | refine g_region ?_ | refine g_seq ?_ | refine g_ret ?_ | refine g_thenRet ?_ | refine g_blockRet ?_)
      refine g_retV rfl ?_
      have : t = x := by simpa using h2
      rw [decide_eq_true (this ▸ List.mem_of_getElem? ht)]
    · repeat (first | refine g_op rfl ?_ | refine g_then ?_ | refine g_nil ?_ | refine g_region ?_ | refine g_opS rfl ?_ | refine g_inBlock ?_ | refine g_skip ?_ | refine g_add rfl (by omega) (by omega) ?_)
      refine g_next (i + 1) ⟨hlt, fun j q hj hq => ?_⟩ (by omega) (by repeat (first | exact trivial | refine ⟨rfl, ?_⟩)) (by simp)
      by_cases hji : j = i
      · subst hji
        rw [ht] at hq
        simp only [Option.some.injEq] at hq
        subst hq
        simpa using h2
      · exact hall j q (by omega) hq
  · have hge : i = n := by have := h1; simp at this; omega
    repeat (first | refine g_op rfl ?_ | refine g_then ?_ | refine g_nil ?_ | refine g_region ?_ | refine g_seq ?_ | refine g_exit ?_ | refine g_thenExit ?_ | refine g_exitHere ?_ | refine g_ret ?_)
    refine g_retV rfl ?_
    rw [decide_eq_false]
    intro hm
    obtain ⟨j, hj⟩ := List.getElem?_of_mem hm
    exact hall j x (by have := (List.getElem?_eq_some_iff.1 hj).1; omega) hj rfl

theorem ints_sl {S : Nat → Prop} {w0 w : World} {H : List Ent} {k c n e : Nat} {a : Option Addr} {l : List Nat} (h : Wd S w0 H w) (hk : H[k]? = some (Ent.vec a n c e 1 (l.map intN))) (hn : n = l.length) (hb : n ≤ 100000) (hl : ∀ x ∈ l, x ≤ 100000) : SlAt w (.slice a n c) 1 (l.map (fun x : Nat => (x : Int))) IntV := by
  refine h.slAt hk (by simpa using hn) (by omega) fun i x hx => ?_
  rw [List.getElem?_map] at hx
  obtain ⟨y, hy, rfl⟩ := Option.map_eq_some_iff.1 hx
  have hb := hl y (List.mem_of_getElem? hy)
  refine ⟨[intN y], fun j v hj => ?_, rfl, by simp only [inI]; omega⟩
  match j, hj with
  | 0, hj => simpa [hy] using hj
theorem mem_ints {l : List Nat} {x : Nat} : (x : Int) ∈ l.map (fun x : Nat => (x : Int)) ↔ x ∈ l := by
  rw [List.mem_map]
  exact ⟨fun ⟨y, hy, e⟩ => by have : y = x := by omega
                              exact this ▸ hy, fun h => ⟨x, h, rfl⟩⟩

/-- what 'From' hands back -/
def FromR (bl : List LBlock) (wo : Int) (b : Nat) (l : List Nat) : Prop := l.Nodup ∧ (∀ x ∈ l, x < bl.length) ∧ ∀ x, x ∈ l ↔ ((b : Int) ≠ wo ∧ Rch bl wo b x)
theorem refFrom_c (nm pa re : Value) (bl : List LBlock) (bs : Value) (b : Nat) (wo : Int) (w0 : World) (hbs : SlAt w0 bs 6 bl BlockV) (hlen : bl.length ≤ 100) (hok : GoodB bl) (hb : b < bl.length) :
    Ret Tryd.prog 46 [.agg #[nm, pa, re, bs], .int .i64 b, .int .i64 wo] w0 fun u w' => ∃ x : Option Addr × Nat × List Nat, u = .slice x.1 x.2.2.length x.2.1 ∧ Wd NoS w0 [Ent.vec x.1 x.2.2.length x.2.1 3 1 (x.2.2.map intN)] w' ∧ FromR bl wo b x.2.2 := by
  obtain ⟨ba, n, bc, bb, bo', rfl, hn, hnc, hnb, hbc, hba, hel⟩ := hbs
  rw [← hn] at hb hlen
  refine ret_enter Tryd.func46 rfl Tryd.ntmps46 rfl (Wd.nil NoS w0) ?_
  repeat (first | refine g_op rfl ?_ | refine g_then ?_ | refine g_nil ?_ | refine g_region ?_ | refine g_seq ?_ | refine g_box rfl fun _ _ => ?_)
  rename_i p3 _
  refine g_cond (fun h0 => ?_) (fun h0 => ?_)
  · repeat (first | refine g_then ?_ | refine g_nil ?_ | refine g_region ?_ | refine g_seq ?_ | refine g_opS rfl ?_ | refine g_ret ?_ | refine g_thenRet ?_)
    refine g_nilVec 3 1 ?_
    refine g_ret1 rfl fun w hw => ⟨(none, 0, []), rfl, hw.sub (List.Sublist.cons_cons _ (List.Sublist.cons _ (List.Sublist.refl _))), by simp, by simp, fun x => ?_⟩
    have : (b : Int) = wo := by simpa using h0
    simp [this]
  have h0' : (b : Int) ≠ wo := by simpa using h0
  repeat (first | refine g_op rfl ?_ | refine g_then ?_ | refine g_nil ?_ | refine g_region ?_ | refine g_seq ?_ | refine g_block ?_ | refine g_skip ?_ | refine g_build1 rfl rfl fun _ _ => ?_)
  rename_i p7 _
  refine g_loop (fun (x : Nat × List Nat × Option Addr × Nat) => x.1 ≤ x.2.1.length ∧ x.2.1.Nodup ∧ (∀ y ∈ x.2.1, y < n) ∧ (∀ y ∈ x.2.1, Rch bl wo b y) ∧ b ∈ x.2.1 ∧ ∀ k y z, k < x.1 → x.2.1[k]? = some y → Edge bl y z → (z : Int) ≠ wo → z ∈ x.2.1)
    (fun x => [(8, .int .i64 x.1), (7, .slice x.2.2.1 x.2.1.length x.2.2.2), (3, .pointer (some ⟨p3, 0, none⟩)), (2, .int .i64 wo)])
    (fun x => [Ent.vec x.2.2.1 x.2.1.length x.2.2.2 3 1 (x.2.1.map intN), Ent.box p3 [nm, pa, re, .slice ba n bc] 35])
    (fun x => n - x.1) (0, [b], some ⟨p7, 0, none⟩, 1) ⟨Nat.zero_le _, by simp, by simpa using hb, by simpa using Rch.refl, by simp, by simp⟩ (g_done (by repeat (first | exact trivial | refine ⟨rfl, ?_⟩)) (List.Sublist.refl _)) fun x ⟨hi, hnd, hlt', hr, hbm, hcl⟩ => ?_
  obtain ⟨i, l, la, lc⟩ := x
  simp only at hi hnd hlt' hr hbm hcl ⊢
  have hll : l.length ≤ n := nodup_len n l hnd hlt'
  repeat (first | refine g_op rfl ?_ | refine g_then ?_ | refine g_nil ?_ | refine g_region ?_ | refine g_seq ?_)
  refine g_cond (fun h1 => ?_) (fun h1 => ?_)
  · have hil : i < l.length := by simpa using h1
    refine g_vec 0 rfl (by omega) fun rb ro hra => ?_
    subst hra
    obtain ⟨x0, hx0⟩ : ∃ x0, l[i]? = some x0 := ⟨_, List.getElem?_eq_getElem hil⟩
    have hx0n : x0 < n := hlt' x0 (List.mem_of_getElem? hx0)
    obtain ⟨B, hB⟩ := get_lt hn hx0n
    have had : AddrIs ba bb bo' := ⟨hba (ne_of_get hB)⟩
    have hli : LtIs x0 n := ⟨hx0n⟩
    have hli1 : LtIs i l.length := ⟨hil⟩
    obtain ⟨cs, hcs, pv, lv, tv, rfl, _, _, _, _, ht⟩ := hel x0 B hB
    obtain ⟨ta, tn, tc, tb, to', rfl, htn, htnc, htnb, htc, hta, htel⟩ := ht
    have hci : CellsIs w0 bb (bo' + x0 * 6) _ := ⟨hcs⟩
    have hBok := hok B (List.mem_of_getElem? hB)
    have hxat : XAt (l.map intN) (i * 1) (.int .i64 (x0 : Int)) := ⟨by simp [hx0, intN]⟩
    repeat (first | refine g_then ?_ | refine g_seq ?_ | refine g_block ?_ | refine g_skip ?_)
    refine g_draw mixed (by kernel_rfl) ?_
    repeat (first | refine q_op rfl ?_ | refine q_nil ?_)
    repeat (first | refine g_op rfl ?_ | refine g_then ?_ | refine g_nil ?_ | refine g_region ?_ | refine g_seq ?_ | refine g_block ?_)
    refine g_loop (fun (x : Nat × List Nat × Option Addr × Nat) => x.1 ≤ tn ∧ x.2.1.Nodup ∧ (∀ y ∈ x.2.1, y < n) ∧ (∀ y ∈ x.2.1, Rch bl wo b y) ∧ (∃ r, x.2.1 = l ++ r) ∧ ∀ k t, k < x.1 → B.to[k]? = some t → t ≠ wo → t.toNat ∈ x.2.1)
      (fun x => [(10, .int .i64 x.1), (9, .slice ta tn tc), (8, .int .i64 i), (7, .slice x.2.2.1 x.2.1.length x.2.2.2), (3, .pointer (some ⟨p3, 0, none⟩)), (2, .int .i64 wo)])
      (fun x => [Ent.vec x.2.2.1 x.2.1.length x.2.2.2 3 1 (x.2.1.map intN), Ent.box p3 [nm, pa, re, .slice ba n bc] 35])
      (fun x => tn - x.1) (0, l, some ⟨rb, ro, none⟩, lc) ⟨Nat.zero_le _, hnd, hlt', hr, ⟨[], by simp⟩, by simp⟩ (g_done (by repeat (first | exact trivial | refine ⟨rfl, ?_⟩)) (List.Sublist.refl _)) fun x ⟨hj, hnd', hlt'', hr', ⟨r, hlr⟩, hdone⟩ => ?_
    obtain ⟨j, l', la', lc'⟩ := x
    simp only at hj hnd' hlt'' hr' hlr hdone ⊢
    have hll' : l'.length ≤ n := nodup_len n l' hnd' hlt''
    repeat (first | refine g_op rfl ?_ | refine g_then ?_ | refine g_nil ?_ | refine g_region ?_ | refine g_seq ?_)
    refine g_cond (fun h2 => ?_) (fun h2 => ?_)
    · have hjlt : j < tn := by simpa using h2
      obtain ⟨t, htj⟩ := get_lt htn hjlt
      have htt := hBok.2 t (List.mem_of_getElem? htj)
      obtain ⟨k, hk⟩ : ∃ k : Nat, t = k := ⟨t.toNat, by omega⟩
      have hkn : k < n := by omega
      have had2 : AddrIs ta tb to' := ⟨hta (ne_of_get htj)⟩
      have hli2 : LtIs j tn := ⟨hjlt⟩
      obtain ⟨cs2, hcs2, rfl, _⟩ := htel j t htj
      have hci2 : CellsIs w0 tb (to' + j * 1) _ := ⟨hcs2⟩
      have hedge : Edge bl x0 k := by
        unfold Edge
        rw [toOf_get hB, ← hk]
        exact List.mem_of_getElem? htj
      have hx0r : Rch bl wo b x0 := hr x0 (List.mem_of_getElem? hx0)
      have skip : (t = wo ∨ k ∈ l') → ∀ q t', q < j + 1 → B.to[q]? = some t' → t' ≠ wo → t'.toNat ∈ l' := by
        intro hs q t' hq ht' hw
        by_cases hqj : q = j
        · subst hqj
          rw [htj] at ht'
          simp only [Option.some.injEq] at ht'
          subst ht'
          rcases hs with h | h
          · exact absurd h hw
          · rw [hk]; simpa using h
        · exact hdone q t' (by omega) ht' hw
      repeat (first | refine g_op rfl ?_ | refine g_then ?_ | refine g_region ?_ | refine g_seq ?_ | refine g_block ?_ | refine g_skip ?_)
      generalize hb1 : (!decide (t = wo)) = b1
      refine g_joinTo 52 (.bool (b1 && !decide (k ∈ l'))) ?_ ?_
      · cases b1
        · repeat (first | refine g_op rfl ?_ | refine g_then ?_ | refine g_nil ?_ | refine g_pass rfl ?_)
          exact g_done (by repeat (first | exact trivial | refine ⟨rfl, ?_⟩)) (List.Sublist.refl _)
        · repeat (first | refine g_op rfl ?_ | refine g_open ?_)
          refine g_callV rfl (fun w hw => has_c _ (l'.map (fun x : Nat => (x : Int))) t w (ints_sl hw (k := 0) rfl rfl (by omega) fun y hy => by have := hlt'' y hy; omega)) ?_
          rw [hk, show decide ((k : Int) ∈ l'.map (fun x : Nat => (x : Int))) = decide (k ∈ l') by rw [decide_eq_decide]; exact mem_ints]
          repeat (first | refine g_op rfl ?_ | refine g_then ?_ | refine g_nil ?_ | refine g_open ?_)
          exact g_done (by repeat (first | exact trivial | refine ⟨rfl, ?_⟩)) (List.Sublist.refl _)
      repeat (first | refine g_then ?_ | refine g_nil ?_)
      refine g_cond (fun h3 => ?_) (fun h3 => ?_)
      · have hkw : t ≠ wo ∧ k ∉ l' := by subst hb1; simpa using h3
        repeat (first | refine g_op rfl ?_ | refine g_region ?_ | refine g_build1 rfl rfl fun _ _ => ?_)
        refine g_append rfl rfl (by omega) (by omega) fun a' c' => ?_
        rw [show l'.map intN ++ [.int .i64 t] = (l' ++ [k]).map intN by simp [intN, hk]]
        rw [show l'.length + 1 = (l' ++ [k]).length by simp]
        repeat (first | refine g_op rfl ?_ | refine g_then ?_ | refine g_nil ?_ | refine g_region ?_ | refine g_opS rfl ?_ | refine g_inBlock ?_ | refine g_add rfl (by omega) (by omega) ?_)
        refine g_next (j + 1, l' ++ [k], a', c') ⟨hjlt, ?_, ?_, ?_, ⟨r ++ [k], by rw [hlr, List.append_assoc]⟩, ?_⟩ (by simp only; omega) (by repeat (first | exact trivial | refine ⟨rfl, ?_⟩)) (List.Sublist.cons _ (List.Sublist.refl _))
        · rw [List.nodup_append]
          exact ⟨hnd', by simp, fun a ha c hc e => by simp only [List.mem_singleton] at hc; exact hkw.2 (hc ▸ e ▸ ha)⟩
        · intro y hy
          rcases List.mem_append.1 hy with hy | hy
          · exact hlt'' y hy
          · simp only [List.mem_singleton] at hy; omega
        · intro y hy
          rcases List.mem_append.1 hy with hy | hy
          · exact hr' y hy
          · simp only [List.mem_singleton] at hy
            subst hy
            exact hx0r.step hedge (by rw [← hk]; exact hkw.1)
        · intro q t' hq ht' hw
          by_cases hqj : q = j
          · subst hqj
            rw [htj] at ht'
            simp only [Option.some.injEq] at ht'
            subst ht'
            rw [hk]; simp
          · exact List.mem_append_left _ (hdone q t' (by simp only at hq; omega) ht' hw)
      · have hkw : t = wo ∨ k ∈ l' := by
          subst hb1
          by_cases h : t = wo
          · exact .inl h
          · right; simpa [h] using h3
        repeat (first | refine g_op rfl ?_ | refine g_then ?_ | refine g_nil ?_ | refine g_region ?_ | refine g_opS rfl ?_ | refine g_inBlock ?_ | refine g_skip ?_ | refine g_add rfl (by omega) (by omega) ?_)
        exact g_next (j + 1, l', la', lc') ⟨hjlt, hnd', hlt'', hr', ⟨r, hlr⟩, skip hkw⟩ (by simp only; omega) (by repeat (first | exact trivial | refine ⟨rfl, ?_⟩)) (List.Sublist.refl _)
    · have hge : j = tn := by have := h2; simp at this; omega
      repeat (first | refine g_op rfl ?_ | refine g_then ?_ | refine g_nil ?_ | refine g_region ?_ | refine g_opS rfl ?_ | refine g_inBlock ?_ | refine g_add rfl (by omega) (by omega) ?_ | refine g_exit ?_ | refine g_thenExit ?_ | refine g_exitHere ?_)
      refine g_next (i + 1, l', la', lc') ⟨by rw [hlr, List.length_append]; omega, hnd', hlt'', hr', by rw [hlr]; exact List.mem_append_left _ hbm, ?_⟩ (by simp only; omega) (by repeat (first | exact trivial | refine ⟨rfl, ?_⟩)) (List.Sublist.refl _)
      intro k y z hk hy he hw
      simp only at hk hy ⊢
      rw [hlr, List.getElem?_append_left (by omega)] at hy
      by_cases hki : k = i
      · subst hki
        rw [hx0] at hy
        simp only [Option.some.injEq] at hy
        subst hy
        unfold Edge at he
        rw [toOf_get hB] at he
        obtain ⟨q, hq⟩ := List.getElem?_of_mem he
        have := hdone q _ (by have := (List.getElem?_eq_some_iff.1 hq).1; omega) hq hw
        simpa using this
      · rw [hlr]
        exact List.mem_append_left _ (hcl k y z (by omega) hy he hw)
  · have hge : i = l.length := by have := h1; simp at this; omega
    repeat (first | refine g_op rfl ?_ | refine g_then ?_ | refine g_nil ?_ | refine g_region ?_ | refine g_seq ?_ | refine g_exit ?_ | refine g_thenExit ?_ | refine g_exitHere ?_ | refine g_ret ?_)
    refine g_ret1 rfl fun w hw => ⟨(la, lc, l), rfl, hw.sub (List.Sublist.cons_cons _ (List.Sublist.cons _ (List.Sublist.refl _))), hnd, fun x hx => by rw [← hn]; exact hlt' x hx, fun x => ⟨fun hx => ⟨h0', hr x hx⟩, fun ⟨_, hx⟩ => ?_⟩⟩
    refine rch_closed (p := fun y => y ∈ l) hbm (fun y z hy he hw => ?_) hx
    obtain ⟨k, hk⟩ := List.getElem?_of_mem hy
    exact hcl k y z (by have := (List.getElem?_eq_some_iff.1 hk).1; omega) hk he hw

theorem part_c (nm pa re : Value) (bl : List LBlock) (bs : Value) (hbsl : ∃ a n c, bs = .slice a n c) (b : Nat) (w0 : World) (hbs : SlAt w0 bs 6 bl BlockV) (hlen : bl.length ≤ 100) (hok : GoodB bl) (hb : b < bl.length) :
    RetV Tryd.prog 17 [.agg #[nm, pa, re, bs], .int .i64 b] w0 (.int .i64 (partOf bl b)) := by
  classical
  have hbs0 := hbs
  obtain ⟨ba, n, bc, rfl⟩ := hbsl
  have hn : n = bl.length := by
    obtain ⟨_, _, _, _, _, e, h, _⟩ := hbs
    simp only [Value.slice.injEq] at e
    rw [e.2.1]; exact h
  refine ret_enter Tryd.func17 rfl Tryd.ntmps17 rfl (Wd.nil NoS w0) ?_
  repeat (first | refine g_op rfl ?_ | refine g_then ?_ | refine g_nil ?_ | refine g_region ?_ | refine g_seq ?_ | refine g_box rfl fun _ _ => ?_ | refine g_block ?_)
  rename_i p2 _
  refine g_loop (fun (c : Nat) => c ≤ b ∧ ∀ d, d < c → ¬ Mut bl b d) (fun c => [(5, .int .i64 c), (1, .int .i64 b), (2, .pointer (some ⟨p2, 0, none⟩))]) (fun _ => [Ent.box p2 [nm, pa, re, .slice ba n bc] 35]) (fun c => b - c) 0 ⟨Nat.zero_le _, by simp⟩ (g_done (by repeat (first | exact trivial | refine ⟨rfl, ?_⟩)) (List.Sublist.refl _)) fun c ⟨hc, hall⟩ => ?_
  have hcl : c < bl.length := by omega
  repeat (first | refine g_op rfl ?_ | refine g_then ?_ | refine g_nil ?_ | refine g_region ?_ | refine g_seq ?_)
  refine g_cond (fun h1 => ?_) (fun h1 => ?_)
  · repeat (first | refine g_op rfl ?_ | refine g_then ?_ | refine g_region ?_ | refine g_seq ?_ | refine g_block ?_ | refine g_skip ?_)
    refine g_callE (val := fun x : Option Addr × Nat × List Nat => .slice x.1 x.2.2.length x.2.1) (E := fun x => [Ent.vec x.1 x.2.2.length x.2.1 3 1 (x.2.2.map intN)]) (φ := fun x => FromR bl (-1) b x.2.2) rfl (fun w hw => refFrom_c _ _ _ bl _ b (-1) w (hbs0.keep keeps_block hw.chg) hlen hok hb) fun x hx => ?_
    obtain ⟨xa, xc, l⟩ := x
    simp only [List.cons_append, List.nil_append] at hx ⊢
    have hlb : l.length ≤ bl.length := nodup_len _ _ hx.1 hx.2.1
    repeat (refine g_op rfl ?_)
    refine g_callV rfl (fun w hw => has_c _ (l.map (fun x : Nat => (x : Int))) c w (ints_sl hw (k := 0) rfl rfl (by omega) fun y hy => by have := hx.2.1 y hy; omega)) ?_
    rw [show decide ((c : Int) ∈ l.map (fun x : Nat => (x : Int))) = decide (Rch bl (-1) b c) by rw [decide_eq_decide, mem_ints, hx.2.2 c]; simp]
    repeat (refine g_op rfl ?_)
    generalize hb1 : decide (Rch bl (-1) b c) = b1
    refine g_joinTo 24 (.bool (b1 && decide (Rch bl (-1) c b))) ?_ ?_
    · cases b1
      · repeat (first | refine g_op rfl ?_ | refine g_then ?_ | refine g_nil ?_ | refine g_pass rfl ?_)
        exact g_done (by repeat (first | exact trivial | refine ⟨rfl, ?_⟩)) (List.Sublist.refl _)
      · repeat (first | refine g_op rfl ?_ | refine g_open ?_)
        refine g_callE (val := fun x : Option Addr × Nat × List Nat => .slice x.1 x.2.2.length x.2.1) (E := fun x => [Ent.vec x.1 x.2.2.length x.2.1 3 1 (x.2.2.map intN)]) (φ := fun x => FromR bl (-1) c x.2.2) rfl (fun w hw => refFrom_c _ _ _ bl _ c (-1) w (hbs0.keep keeps_block hw.chg) hlen hok hcl) fun x hx2 => ?_
        obtain ⟨ya, yc, m⟩ := x
        simp only [List.cons_append, List.nil_append] at hx2 ⊢
        have hlb2 : m.length ≤ bl.length := nodup_len _ _ hx2.1 hx2.2.1
        repeat (first | refine g_op rfl ?_ | refine g_open ?_)
        refine g_callV rfl (fun w hw => has_c _ (m.map (fun x : Nat => (x : Int))) b w (ints_sl hw (k := 0) rfl rfl (by omega) fun y hy => by have := hx2.2.1 y hy; omega)) ?_
        rw [show decide ((b : Int) ∈ m.map (fun x : Nat => (x : Int))) = decide (Rch bl (-1) c b) by rw [decide_eq_decide, mem_ints, hx2.2.2 b]; simp]
        repeat (first | refine g_op rfl ?_ | refine g_then ?_ | refine g_nil ?_)
        exact g_done (by repeat (first | exact trivial | refine ⟨rfl, ?_⟩)) (List.Sublist.cons _ (List.Sublist.refl _))
    repeat (first | refine g_then ?_ | refine g_nil ?_)
    refine g_cond (fun h2 => ?_) (fun h2 => ?_)
    · have hm : Mut bl b c := by subst hb1; simpa [Mut] using h2
      repeat (first | refine g_op rfl ?_ | refine g_then ?_ | refine g_nil ?_ | refine g_region ?_ | refine g_seq ?_ | refine g_ret ?_ | refine g_thenRet ?_ | refine g_blockRet ?_)
      exact g_retV rfl (by rw [partOf_eq hcl hm hall])
    · have hm : ¬ Mut bl b c := by subst hb1; simpa [Mut] using h2
      have hcb : c ≠ b := fun e => hm (by rw [e]; exact ⟨Rch.refl, Rch.refl⟩)
      repeat (first | refine g_op rfl ?_ | refine g_then ?_ | refine g_nil ?_ | refine g_region ?_ | refine g_opS rfl ?_ | refine g_inBlock ?_ | refine g_skip ?_ | refine g_add rfl (by omega) (by omega) ?_)
      refine g_next (c + 1) ⟨by omega, fun d hd => ?_⟩ (by omega) (by repeat (first | exact trivial | refine ⟨rfl, ?_⟩)) (List.Sublist.cons _ (List.Sublist.refl _))
      by_cases hdc : d = c
      · subst hdc; exact hm
      · exact hall d (by omega)
  · exact absurd h1 (by simp; omega)
end Go.Proofs.YtebajiafdkokjaaDoor

/- math/bits.Mul: what it returns. -/
namespace Go.Proofs.YtebajiafdkokjaaDoor
open Go Go.RowKit Go.Lib

namespace Mul
theorem maskN (a : Nat) (ha : a < 18446744073709551616) : bits .and .u64 (a : Int) 4294967295 = ((a % 4294967296 : Nat) : Int) := by
  have h := bits_and_u64_nat a 4294967295 ha (by omega)
  have e : a &&& 4294967295 = a % 4294967296 := Nat.and_two_pow_sub_one_eq_mod a 32
  rw [e] at h
  exact h
theorem divN (a : Nat) : (a : Int) / 4294967296 = ((a / 4294967296 : Nat) : Int) := by omega
theorem mulN (a b : Nat) : (a : Int) * (b : Int) = ((a * b : Nat) : Int) := (Int.natCast_mul a b).symm
theorem addN (a b : Nat) : (a : Int) + (b : Int) = ((a + b : Nat) : Int) := (Int.natCast_add a b).symm
theorem wrapN (a : Nat) (ha : a < 18446744073709551616) : IntKind.u64.wrap (a : Int) = (a : Int) := by rw [IntKind.wrap_u64]; omega
theorem wrapM (a : Nat) : IntKind.u64.wrap (a : Int) = ((a % 18446744073709551616 : Nat) : Int) := by rw [IntKind.wrap_u64]; omega
end Mul
set_option maxHeartbeats 1000000 in
theorem mul64_c (x y : Nat) (hx : x < 18446744073709551616) (hy : y < 18446744073709551616) (w : World) :
    Calls Tryd.prog 140 #[.int .u64 x, .int .u64 y] w fun e w' => e = .returned (.tuple #[.int .u64 ((x * y / 18446744073709551616 : Nat) : Int), .int .u64 ((x * y % 18446744073709551616 : Nat) : Int)]) ∧ w' = w := by
  obtain ⟨bd, bt, bw, hhi⟩ := Lib.mul64_hi x y hx hy
  have ba := Lib.half_mul_le (a := x / 4294967296) (b := y / 4294967296) (by omega) (by omega)
  have bb := Lib.half_mul_le (a := x / 4294967296) (b := y % 4294967296) (by omega) (by omega)
  have bc := Lib.half_mul_le (a := x % 4294967296) (b := y / 4294967296) (by omega) (by omega)
  have ba' : x / 4294967296 * (y / 4294967296) < 18446744073709551616 := by omega
  have bb' : x / 4294967296 * (y % 4294967296) < 18446744073709551616 := by omega
  have bc' : x % 4294967296 * (y / 4294967296) < 18446744073709551616 := by omega
  have bh1 : x / 4294967296 * (y / 4294967296) + (x / 4294967296 * (y % 4294967296) + x % 4294967296 * (y % 4294967296) / 4294967296) / 4294967296 < 18446744073709551616 := by omega
  have bh : x / 4294967296 * (y / 4294967296) + (x / 4294967296 * (y % 4294967296) + x % 4294967296 * (y % 4294967296) / 4294967296) / 4294967296 + ((x / 4294967296 * (y % 4294967296) + x % 4294967296 * (y % 4294967296) / 4294967296) % 4294967296 + x % 4294967296 * (y / 4294967296)) / 4294967296 < 18446744073709551616 := by omega
  go_enter Tryd.func140, Tryd.ntmps140
  go_wp2
  simp only [Mul.maskN x hx, Mul.maskN y hy, Mul.divN, Mul.mulN, Mul.addN, Mul.wrapN _ bd, Mul.wrapN _ bb', Mul.wrapN _ bt, Mul.maskN _ bt, Mul.wrapN _ bc', Mul.wrapN _ bw, Mul.wrapN _ ba', Mul.wrapN _ bh1, Mul.wrapN _ bh, Mul.wrapM (x * y)]
  rw [hhi]
  go_ret2
  exact ⟨rfl, rfl⟩
instance : EnterOk Tryd.prog 140 := ⟨Tryd.call140⟩
instance : EnterOk Tryd.prog 135 := ⟨Tryd.call135⟩
attribute [local irreducible] wpListIn Code.wpIn Exit.then Exit.inBlock bodyPost wpQuiet wpAnyIn
theorem mul_c (x y : Nat) (hx : x < 18446744073709551616) (hy : y < 18446744073709551616) (hxy : x * y < 18446744073709551616) (w : World) :
    RetV Tryd.prog 135 [.int .u64 x, .int .u64 y] w (.tuple #[.int .u64 0, .int .u64 ((x * y : Nat) : Int)]) := by
  have h64 : ∀ w : World, Calls Tryd.prog 140 #[.int .u64 x, .int .u64 y] w fun e w' => e = .returned (.tuple #[.int .u64 0, .int .u64 ((x * y : Nat) : Int)]) ∧ w' = w := by
    intro w
    have h := mul64_c x y hx hy w
    rw [Nat.div_eq_of_lt hxy, Nat.mod_eq_of_lt hxy] at h
    exact h
  clear hx hy hxy
  refine ret_enter Tryd.func135 rfl Tryd.ntmps135 rfl (Wd.nil NoS w) ?_
  repeat (first | refine g_op rfl ?_ | refine g_then ?_ | refine g_nil ?_ | refine g_region ?_ | refine g_seq ?_ | refine g_skip ?_ | refine g_condF ?_)
  refine g_callV (u := .tuple #[.int .u64 0, .int .u64 ((x * y : Nat) : Int)]) rfl (fun w' _ => callsIn_wide.2 ((h64 w').mono fun e w2 he => ⟨_, he.1, rfl, by rw [he.2]; exact Chg.refl _ _⟩)) ?_
  repeat (first | refine g_op rfl ?_ | refine g_then ?_ | refine g_nil ?_ | refine g_region ?_ | refine g_seq ?_ | refine g_opS rfl ?_ | refine g_ret ?_)
  exact g_ret2 rfl fun _ hw => ⟨rfl, hw.chg⟩
end Go.Proofs.YtebajiafdkokjaaDoor

/- More rules: slices cut, cells copied, numbers of one kind turned to another; old memory that a part of the walk holds on to. -/
namespace Go.Proofs.YtebajiafdkokjaaDoor
open Go Go.RowKit

/-- kinds of whole numbers -/
class ConvI (P : Program) (S T : Nat) (q : outParam IntKind) : Prop where
  src : (P.underlying S).isSome = true
  dst : P.underlying T = some (.int (P.intKind T))
  kind : P.intKind T = q
/-- a cut from 'lo' on -/
class CutOk (lo n c : Nat) : Prop where
  le : lo ≤ n
  lt : lo < c
/-- a cut up to 'hi' -/
class CutHi (hi c : Nat) : Prop where
  le : hi ≤ c
section
variable {P : Program} {ro : Option Nat} {N : Nat} {ds : List Deferred} {S : Nat → Prop} {w0 : World} {L : List (Nat × Value)} {H H1 H2 : List Ent} {ops : Array Oper} {rest : List Oper} {Q : Exit → Act → World → Prop} {p : Act → World → Prop} {x y : Operand}
theorem g_conv {d ty A B : Nat} {k q : IntKind} {n : Int} {pos : String} {aft : Array Go.Edge} [hx : Ev L x (.int k n)] [h : ConvI P A B q] (hd : okPut d N L = true) (hw : q.wrap n = n)
    (kk : G N ds S w0 ((d, .int q n) :: L) H (wpListIn (FW ro) 0 P ops Q rest)) : G N ds S w0 L H (wpListIn (FW ro) 0 P ops Q (⟨some d, .convert A B x, ty, pos, aft, none⟩ :: rest)) :=
  fun a w hS => step_val (v := .int q n) (w' := w) rfl (fun _ h => by cases h) (by simp [execOp, hx.eq _ _ _ hS.fr, run_convert_int w A B k n h.src h.dst, h.kind, hw]) (kk _ _ ⟨hS.fr.putOk hd _, hS.wd⟩)
instance {T b o n c s lo : Nat} [hx : Ev L x (.slice (some ⟨b, o, none⟩) n c)] [hl : Ev L y (.int .i64 (lo : Int))] [h : ElemSize P T s] [hc : CutOk lo n c] : RunsC P N ds S w0 L H (.slice T x (some y) none none) (.slice (some ⟨b, o + lo * s, none⟩) (n - lo) (c - lo)) :=
  ⟨fun _ h => (by cases h), fun _ _ h => (by cases h), fun _ _ _ _ _ a w hF _ => by
    have hr := run_slice_l (P := P) w T (some ⟨b, o, none⟩) n c h.und .i64 lo (by omega) (by have := hc.le; omega)
    have hne : ¬ c = lo := by have := hc.lt; omega
    simp [execOp, hx.eq _ _ _ hF, hl.eq _ _ _ hF, run_sliceAt_slice (P := P) w T _ _ _ _ h.und, hr, h.sz, sliced, hne, Addr.add_lit]⟩
instance {T n c s hi : Nat} {ad : Option Addr} [hx : Ev L x (.slice ad n c)] [hl : Ev L y (.int .i64 (hi : Int))] [h : ElemSize P T s] [hc : CutHi hi c] : RunsC P N ds S w0 L H (.slice T x none (some y) none) (.slice ad hi c) :=
  ⟨fun _ h => (by cases h), fun _ _ h => (by cases h), fun _ _ _ _ _ a w hF _ => by
    have hr := run_slice_h (P := P) w T ad n c h.und .i64 hi (by omega) (by have := hc.le; omega)
    have hz : (if c = 0 then ad else ad.map fun q => q.add (0 * s)) = ad := by
      by_cases h0 : c = 0
      · rw [if_pos h0]
      · rw [if_neg h0]; cases ad <;> simp [Addr.add]
    simp only [Nat.zero_mul] at hz
    simp [execOp, hx.eq _ _ _ hF, hl.eq _ _ _ hF, run_sliceAt_slice (P := P) w T _ _ _ _ h.und, hr, h.sz, sliced, hz]⟩
/-- 'x[1:]', of a slice that may have one element or none behind it -/
theorem g_cutTail {d ty T s n c : Nat} {ad : Option Addr} {pos : String} {aft : Array Go.Edge} [hx : Ev L x (.slice ad n c)] [h : ElemSize P T s] (hd : okPut d N L = true) (hn : 0 < n)
    (kk : ∀ a', (∀ b o, 1 < c → ad = some ⟨b, o, none⟩ → a' = some ⟨b, o + s, none⟩) → G N ds S w0 ((d, .slice a' (n - 1) (c - 1)) :: L) H (wpListIn (FW ro) 0 P ops Q rest)) : G N ds S w0 L H (wpListIn (FW ro) 0 P ops Q (⟨some d, .slice T x (some (.const (.int .i64 1))) none none, ty, pos, aft, none⟩ :: rest)) := fun a w hS => by
  have hr := run_slice_l (P := P) w T ad n c h.und .i64 1 (by omega) (by omega)
  have ec : a.eval (.const (.int .i64 1)) = .int .i64 1 := rfl
  refine step_val (v := .slice (if c = 1 then ad else ad.map (·.add s)) (n - 1) (c - 1)) (w' := w) rfl (fun _ h => by cases h) ?_ ?_
  · simp [execOp, hx.eq _ _ _ hS.fr, ec, run_sliceAt_slice (P := P) w T _ _ _ _ h.und, hr, h.sz, sliced]
  · refine kk _ (fun b o h1 e => ?_) _ _ ⟨hS.fr.putOk hd _, hS.wd⟩
    subst e
    rw [if_neg (by omega)]
    simp [Addr.add_lit]
/-- copy into a row of the call's own -/
theorem g_copy {d ty dT sT e by' b o off n c dl dc sl sc sb so : Nat} {z : Value} (k : Nat) {xs : List Value} (cs : List Value) {pos : String} {aft : Array Go.Edge} [h : ElemInfo P dT e 1 by' [z]] [hx : Ev L x (.slice (some ⟨b, o + off, none⟩) dl dc)] [hy : Ev L y (.slice (some ⟨sb, so, none⟩) sl sc)]
    (hk : H[k]? = some (Ent.vec (some ⟨b, o, none⟩) n c e 1 xs)) (hd : okPut d N L = true) (hn : cs.length = min sl dl) (hsrc : ∀ w, Wd S w0 H w → ∀ j v, cs[j]? = some v → w.cell? ⟨sb, so + j, none⟩ = some v) (hfit : off + cs.length ≤ xs.length) (h1 : ∀ v ∈ cs, v.oneCell' = true)
    (kk : G N ds S w0 ((d, .int .i64 cs.length) :: L) (H.set k (Ent.vec (some ⟨b, o, none⟩) n c e 1 (xs.take off ++ cs ++ xs.drop (off + cs.length)))) (wpListIn (FW ro) 0 P ops Q rest)) : G N ds S w0 L H (wpListIn (FW ro) 0 P ops Q (⟨some d, .call { callee := .builtin .copy, args := #[x, y], argTypes := #[dT, sT] }, ty, pos, aft, none⟩ :: rest)) := fun a w hS => by
  obtain ⟨hl, hnc, hcm, pre, sp, rfl, hsp, hb⟩ := hS.wd.vecAt hk
  obtain ⟨i, zz, hi, _, _, hi1, _⟩ := h.get
  have hlt : b < w.heap.size := (Array.getElem?_eq_some_iff.1 hb).1
  have hr := run_copy_row (P := P) w dT sT ty e b (pre.length + off) dl dc ⟨sb, so, none⟩ sl sc _ e cs h.und (by rw [hi]; simp [hi1]) hb hn (fun j v hj => by rw [Addr.add_lit]; exact hsrc w hS.wd j v hj) (by simp; omega) h1
  have hrow : (pre ++ xs ++ sp).take (pre.length + off) ++ cs ++ (pre ++ xs ++ sp).drop (pre.length + off + cs.length) = pre ++ (xs.take off ++ cs ++ xs.drop (off + cs.length)) ++ sp := by
    rw [List.append_assoc pre xs sp, List.take_length_add_append, Nat.add_assoc, List.drop_length_add_append, List.take_append_of_le_length (by omega), List.drop_append_of_le_length (by omega)]
    simp
  simp only at hr
  rw [hrow] at hr
  refine step_val (v := .int .i64 cs.length) (w' := w.setRow b (pre ++ (xs.take off ++ cs ++ xs.drop (off + cs.length)) ++ sp).toArray) rfl (fun _ h => by cases h) ?_ ?_
  · simp [execOp, resolve, invoke, builtin, hx.eq _ _ _ hS.fr, hy.eq _ _ _ hS.fr, hr, goInt]
  · refine kk _ _ ⟨hS.fr.putOk hd _, ?_⟩
    have hsz : ∀ q : Array Value, (w.setRow b q).heap.size = w.heap.size := fun q => by simp [World.setRow]
    refine hS.wd.turnAt hk ⟨rfl, rfl, rfl, by rw [hsz]; exact Nat.le_refl _, fun j _ hj => setRow_other w b j _ fun e' => hj (by simp [Ent.vec, e'])⟩ (fun b' hb' => ?_) fun w2 hw2 => ?_
    · simp only [Ent.vec, Option.map_some, Option.some.injEq] at hb' ⊢
      subst hb'
      exact ⟨.inl rfl, by rw [hsz]; exact hlt⟩
    · have := hw2 b (by simp [Ent.vec])
      refine ⟨?_, .inr ⟨b, pre, sp, rfl, hnc, hcm, hsp, ?_⟩⟩
      · simp only [List.length_append, List.length_take, List.length_drop]; omega
      · rw [this]
        exact setRow_heap w b _ _ e _ hb
/-- what else is there is held on to: from here on only the first pieces turn -/
theorem g_hold (h : ∀ w, Wd S w0 (H1 ++ H2) w → G N ds (fps H1) w L H1 p) : G N ds S w0 L (H1 ++ H2) p := fun a w hS => h w hS.wd a w ⟨hS.fr, hS.wd.pre⟩
end
end Go.Proofs.YtebajiafdkokjaaDoor

/- slices.Repeat, dom.meet: what each returns. -/
namespace Go.Proofs.YtebajiafdkokjaaDoor
open Go Go.RowKit
attribute [local irreducible] wpListIn Code.wpIn Exit.then Exit.inBlock bodyPost wpQuiet wpAnyIn wpAnyH
set_option maxHeartbeats 4000000

instance : ConvI Tryd.prog 3 168 .u64 := ⟨by kernel_rfl, by kernel_rfl, by kernel_rfl⟩
instance : ConvI Tryd.prog 168 3 .i64 := ⟨by kernel_rfl, by kernel_rfl, by kernel_rfl⟩
theorem rep_copy (z y : Value) (m n : Nat) (hm : m ≤ n) (k : Nat) (hk : k = min (n - m) m) : (List.replicate m z ++ List.replicate (n - m) y).take m ++ List.replicate k z ++ (List.replicate m z ++ List.replicate (n - m) y).drop (m + k) = List.replicate (m + k) z ++ List.replicate (n - (m + k)) y := by
  rw [List.take_append_of_le_length (by simp), List.take_of_length_le (by simp), List.drop_append, List.drop_of_length_le (by rw [List.length_replicate]; omega)]
  simp only [List.length_replicate, List.nil_append, List.drop_replicate]
  have e : n - m - (m + k - m) = n - (m + k) := by omega
  rw [← List.replicate_append_replicate, e]
theorem repeat_c (b0 o0 n : Nat) (z : Int) (w : World) (hx : w.cell? ⟨b0, o0, none⟩ = some (.int .i64 z)) (hn : 0 < n) (hn' : n ≤ 1000) :
    Ret Tryd.prog 112 [.slice (some ⟨b0, o0, none⟩) 1 1, .int .i64 n] w fun u w' => ∃ a : Nat, u = .slice (some ⟨a, 0, none⟩) n n ∧ Wd NoS w [Ent.vec (some ⟨a, 0, none⟩) n n 3 1 (List.replicate n (.int .i64 z))] w' ∧ True := by
  refine ret_enter Tryd.func112 rfl Tryd.ntmps112 rfl (Wd.nil NoS w) ?_
  repeat (first | refine g_op rfl ?_ | refine g_then ?_ | refine g_nil ?_ | refine g_region ?_ | refine g_seq ?_ | refine g_skip ?_ | refine g_condF ?_)
  refine g_conv rfl rfl ?_
  repeat (refine g_op rfl ?_)
  refine g_conv rfl (by rw [IntKind.wrap_u64]; omega) ?_
  refine g_callV rfl (fun w' _ => mul_c 1 n (by omega) (by omega) (by omega) w') ?_
  rw [Nat.one_mul]
  repeat (first | refine g_op rfl ?_ | refine g_then ?_ | refine g_nil ?_ | refine g_region ?_ | refine g_seq ?_ | refine g_open ?_)
  rw [show decide (9223372036854775807 < (n : Int)) = false by simp; omega, show decide ((0 : Int) < 0) = false from rfl]
  repeat (first | refine g_op rfl ?_ | refine g_then ?_ | refine g_nil ?_ | refine g_region ?_ | refine g_seq ?_ | refine g_skip ?_ | refine g_condF ?_)
  refine g_conv rfl ?_ ?_
  · rw [IntKind.wrap_i64]; omega
  repeat (first | refine g_op rfl ?_ | refine g_then ?_ | refine g_nil ?_ | refine g_region ?_ | refine g_seq ?_ | refine g_make rfl (by omega) (by omega) fun _ _ => ?_)
  rename_i a _
  refine g_copy (b := a) (o := 0) (off := 0) 0 (List.replicate 1 (.int .i64 z)) rfl rfl (by simp only [List.length_replicate]; omega) (fun w' hw j v hj => ?_) (by simp only [List.length_replicate]; omega) (fun v hv => by rw [List.eq_of_mem_replicate hv]; rfl) ?_
  · match j, hj with
    | 0, hj =>
      obtain rfl : _ = v := by simpa using hj
      exact cell_keep hw.chg hx
  have e0 := rep_copy (.int .i64 z) (.int .i64 0) 0 n (by omega) 1
  simp only [List.length_replicate, List.set_cons_zero]
  rw [show (List.replicate n (Value.int .i64 0)).take 0 ++ List.replicate 1 (.int .i64 z) ++ (List.replicate n (.int .i64 0)).drop (0 + 1) = List.replicate 1 (.int .i64 z) ++ List.replicate (n - 1) (.int .i64 0) by simp [List.drop_replicate]]
  repeat (first | refine g_op rfl ?_ | refine g_then ?_ | refine g_nil ?_ | refine g_seq ?_ | refine g_block ?_)
  refine g_loop (fun (m : Nat) => 1 ≤ m ∧ m ≤ n) (fun m => [(8, .int .i64 m), (7, .slice (some ⟨a, 0, none⟩) n n)]) (fun m => [Ent.vec (some ⟨a, 0, none⟩) n n 3 1 (List.replicate m (.int .i64 z) ++ List.replicate (n - m) (.int .i64 0))]) (fun m => n - m) 1 ⟨Nat.le_refl _, hn⟩ (g_done (by repeat (first | exact trivial | refine ⟨rfl, ?_⟩)) (List.Sublist.refl _)) fun m ⟨hm1, hmn⟩ => ?_
  repeat (first | refine g_op rfl ?_ | refine g_then ?_ | refine g_nil ?_ | refine g_region ?_ | refine g_seq ?_)
  refine g_cond (fun h1 => ?_) (fun h1 => ?_)
  · have hlt : m < n := by simpa using h1
    have hc1 : CutOk m n n := ⟨by omega, hlt⟩
    have hc2 : CutHi m n := ⟨by omega⟩
    repeat (first | refine g_then ?_ | refine g_block ?_ | refine g_skip ?_)
    refine g_drawW [(8, .int .i64 ((m + min (n - m) m : Nat) : Int)), (7, .slice (some ⟨a, 0, none⟩) n n)] [Ent.vec (some ⟨a, 0, none⟩) n n 3 1 (List.replicate (m + min (n - m) m) (.int .i64 z) ++ List.replicate (n - (m + min (n - m) m)) (.int .i64 0))] mixed ?_ ?_
    · repeat' (first | refine g_take 0 rfl (by decide +kernel) ?_ | refine g_take 1 rfl (by decide +kernel) ?_ | refine g_take 2 rfl (by decide +kernel) ?_ | refine g_take 3 rfl (by decide +kernel) ?_ | refine g_take 4 rfl (by decide +kernel) ?_ | refine g_take 5 rfl (by decide +kernel) ?_ | refine g_take 6 rfl (by decide +kernel) ?_ | refine g_any (by decide +kernel) ?_ | refine any_nil | refine any_skip (by decide +kernel) ?_ | refine any_cons ?_ ?_)
      rw [Nat.mul_one]
      refine g_copy (b := a) (o := 0) (off := m) 0 (List.replicate (min (n - m) m) (.int .i64 z)) rfl rfl (by simp only [List.length_replicate]; omega) (fun w' hw j v hj => ?_) (by simp only [List.length_replicate, List.length_append]; omega) (fun v hv => by rw [List.eq_of_mem_replicate hv]; rfl) ?_
      · rw [List.getElem?_replicate] at hj
        split at hj
        · exact hw.vecCell (k := 0) rfl (by rw [List.getElem?_append_left (by rw [List.length_replicate]; omega), List.getElem?_replicate, if_pos (by omega)]; exact hj)
        · cases hj
      simp only [List.length_replicate, List.set_cons_zero]
      rw [rep_copy _ _ m n (by omega) _ rfl]
      repeat' (first | refine g_any0 (by decide +kernel) ?_ | refine g_any (by decide +kernel) ?_ | refine any_nil | refine any_skip (by decide +kernel) ?_ | refine any_cons ?_ ?_ | refine g_then ?_ | refine g_nil ?_ | refine g_opS rfl ?_ | refine g_add rfl (by omega) (by omega) ?_)
      all_goals
        rw [← Int.natCast_add]
      skip
      all_goals exact g_done (by repeat (first | exact trivial | refine ⟨rfl, ?_⟩)) (List.Sublist.refl _)
    · repeat (first | refine g_then ?_ | refine g_inBlock ?_)
      exact g_next (m + min (n - m) m) ⟨by omega, by omega⟩ (by omega) (by repeat (first | exact trivial | refine ⟨rfl, ?_⟩)) (List.Sublist.refl _)
  · have hge : m = n := by have := h1; simp at this; omega
    subst hge
    rw [Nat.sub_self, List.replicate_zero, List.append_nil]
    repeat (first | refine g_op rfl ?_ | refine g_then ?_ | refine g_nil ?_ | refine g_region ?_ | refine g_seq ?_ | refine g_exit ?_ | refine g_thenExit ?_ | refine g_exitHere ?_ | refine g_ret ?_)
    exact g_ret1 rfl fun w' hw => ⟨a, rfl, hw, trivial⟩
/-- two ways up -/
theorem meet_c (bl : List LBlock) (l : List Nat) (ho : Ord bl l) (up : List Int) (k : Nat) (hI : Inv bl l up k) (at' : List Int) (hat : ∀ b ∈ l, at'[b]? = some ((rk l b : Nat) : Int)) (hlen : up.length ≤ 100) (ua ta : Value) (w0 : World)
    (hu : SlAt w0 ua 1 up IntV) (ht : SlAt w0 ta 1 at' IntV) (a b : Nat) (ha : Pr up a) (hb : Pr up b) :
    Ret Tryd.prog 113 [ua, ta, .int .i64 a, .int .i64 b] w0 fun u w' => ∃ z : Nat, u = .int .i64 z ∧ Wd NoS w0 [] w' ∧ MeetIs up a b z := by
  obtain ⟨ua, un, uc, ub, uo, rfl, hun, hunc, hunb, huc, hua, hel⟩ := hu
  obtain ⟨ta, tn, tc, tb, to', rfl, htn, htnc, htnb, htc, hta, htel⟩ := ht
  refine ret_enter Tryd.func113 rfl Tryd.ntmps113 rfl (Wd.nil NoS w0) ?_
  repeat (first | refine g_op rfl ?_ | refine g_then ?_ | refine g_nil ?_ | refine g_region ?_ | refine g_seq ?_ | refine g_block ?_)
  refine g_loop (fun (x : Nat × Nat) => Pr up x.1 ∧ Pr up x.2 ∧ ∀ z, MeetIs up x.1 x.2 z → MeetIs up a b z) (fun x => [(0, .slice ua un uc), (1, .slice ta tn tc), (2, .int .i64 x.1), (3, .int .i64 x.2)]) (fun _ => []) (fun x => rk l x.1 + rk l x.2) (a, b) ⟨ha, hb, fun _ h => h⟩ (g_done (by repeat (first | exact trivial | refine ⟨rfl, ?_⟩)) (List.Sublist.refl _)) fun x ⟨hx, hy, hall⟩ => ?_
  obtain ⟨x, y⟩ := x
  simp only at hx hy hall ⊢
  repeat (first | refine g_op rfl ?_ | refine g_then ?_ | refine g_nil ?_ | refine g_region ?_ | refine g_seq ?_)
  refine g_cond (fun h1 => ?_) (fun h1 => ?_)
  · have hne : x ≠ y := fun e => by subst e; simp at h1
    obtain ⟨cx, hcx⟩ := hx
    obtain ⟨cy, hcy⟩ := hy
    have hxl := hI.pr_mem ⟨cx, hcx⟩
    have hyl := hI.pr_mem ⟨cy, hcy⟩
    have hax := hat x hxl
    have hay := hat y hyl
    have had : AddrIs ua ub uo := ⟨hua (ne_of_get hcx)⟩
    have had2 : AddrIs ta tb to' := ⟨hta (ne_of_get hax)⟩
    have l1 : LtIs x un := ⟨by rw [hun]; exact (List.getElem?_eq_some_iff.1 hcx).1⟩
    have l2 : LtIs y un := ⟨by rw [hun]; exact (List.getElem?_eq_some_iff.1 hcy).1⟩
    have l3 : LtIs x tn := ⟨by rw [htn]; exact (List.getElem?_eq_some_iff.1 hax).1⟩
    have l4 : LtIs y tn := ⟨by rw [htn]; exact (List.getElem?_eq_some_iff.1 hay).1⟩
    obtain ⟨_, c1, rfl, _⟩ := hel x _ hcx
    obtain ⟨_, c2, rfl, _⟩ := hel y _ hcy
    obtain ⟨_, c3, rfl, _⟩ := htel x _ hax
    obtain ⟨_, c4, rfl, _⟩ := htel y _ hay
    have d1 : CellsIs w0 ub (uo + x * 1) _ := ⟨c1⟩
    have d2 : CellsIs w0 ub (uo + y * 1) _ := ⟨c2⟩
    have d3 : CellsIs w0 tb (to' + x * 1) _ := ⟨c3⟩
    have d4 : CellsIs w0 tb (to' + y * 1) _ := ⟨c4⟩
    repeat (first | refine g_then ?_ | refine g_seq ?_ | refine g_block ?_ | refine g_skip ?_)
    refine g_draw mixed (by decide +kernel) ?_
    repeat (first | refine q_op rfl ?_ | refine q_nil ?_)
    repeat (refine g_then ?_)
    refine g_cond (fun h2 => ?_) (fun h2 => ?_)
    · have hlt : rk l x < rk l y := by simpa using h2
      obtain ⟨c, hc, hcp, hcr, hcm⟩ := hI.meet_up ho (a := y) (b := x) ⟨cy, hcy⟩ ⟨cx, hcx⟩ (Ne.symm hne) (by omega)
      rw [hcy] at hc
      have e : cy = c := by have := Option.some.inj hc; omega
      subst e
      repeat (first | refine g_op rfl ?_ | refine g_then ?_ | refine g_nil ?_ | refine g_region ?_ | refine g_opS rfl ?_ | refine g_inBlock ?_)
      exact g_next (cy, x) ⟨hcp, ⟨cx, hcx⟩, fun z hz => hall z (hcm z hz).comm⟩ (by simp only; omega) (by repeat (first | exact trivial | refine ⟨rfl, ?_⟩)) (List.Sublist.refl _)
    · have hlt : rk l y ≤ rk l x := by have := h2; simp at this; omega
      obtain ⟨c, hc, hcp, hcr, hcm⟩ := hI.meet_up ho (a := x) (b := y) ⟨cx, hcx⟩ ⟨cy, hcy⟩ hne hlt
      rw [hcx] at hc
      have e : cx = c := by have := Option.some.inj hc; omega
      subst e
      repeat (first | refine g_op rfl ?_ | refine g_then ?_ | refine g_nil ?_ | refine g_region ?_ | refine g_opS rfl ?_ | refine g_inBlock ?_ | refine g_skip ?_)
      exact g_next (cx, y) ⟨hcp, ⟨cy, hcy⟩, fun z hz => hall z (hcm z hz)⟩ (by simp only; omega) (by repeat (first | exact trivial | refine ⟨rfl, ?_⟩)) (List.Sublist.refl _)
  · have he : x = y := by have := h1; simp at this; omega
    subst he
    repeat (first | refine g_op rfl ?_ | refine g_then ?_ | refine g_nil ?_ | refine g_region ?_ | refine g_seq ?_ | refine g_exit ?_ | refine g_thenExit ?_ | refine g_exitHere ?_ | refine g_ret ?_)
    exact g_ret1 rfl fun w hw => ⟨x, rfl, hw, hall x (meet_self hx)⟩
end Go.Proofs.YtebajiafdkokjaaDoor

/- slices.Backward over numbers: the iterator's contract. -/
namespace Go.Proofs.YtebajiafdkokjaaDoor
open Go Go.RowKit Go.Shelf
attribute [local go_sem] Oper.semAt_some

/-- what keeps these blocks -/
def KeepB (K : Nat → Prop) (W W' : World) : Prop := ∀ b, K b → W'.heap[b]? = W.heap[b]?
theorem KeepB.cell {K : Nat → Prop} {W W' : World} (h : KeepB K W W') {p : Addr} (hp : K p.block) : W'.cell? p = W.cell? p := World.cell?_of_block (h _ hp)
/-- the pairs that have come after k rounds over l, from its end on -/
def downTo (l : List Int) (k : Nat) : List (Int × Int) := (List.range k).map fun (j : Nat) => (((l.length - 1 - j : Nat) : Int), l[l.length - 1 - j]?.getD 0)
theorem downTo_succ (l : List Int) (k : Nat) : downTo l (k + 1) = downTo l k ++ [(((l.length - 1 - k : Nat) : Int), l[l.length - 1 - k]?.getD 0)] := by simp [downTo, List.range_succ]
theorem downTo_length (l : List Int) (k : Nat) : (downTo l k).length = k := by simp [downTo]

theorem wrap64_in' (n : Int) (h1 : -9223372036854775808 ≤ n) (h2 : n ≤ 9223372036854775807) : wrap64 n = n := by unfold wrap64; omega
set_option maxRecDepth 100000 in
set_option maxHeartbeats 2000000 in
theorem backInt1_in (n : Nat) (hn : 1 ≤ n) {α : Type} (enc : α → Int × Int) (l Bs b off cap : Nat) (K : Nat → Prop) (zs : List Int) (xs : List α) (hxs : xs.map enc = downTo zs zs.length) (hlen : zs.length ≤ 100000) (hb : zs ≠ [] → K b) (hBsK : K Bs) (J Jx : List α → World → Prop) (a : Option Addr) (ha : zs ≠ [] → a = some ⟨b, off, none⟩)
    (hY : ∀ pre x W, J pre W → pre.length < zs.length → YieldAt Fence.wide (n - 1) Tryd.prog l #[.int .i64 (enc x).1, .int .i64 (enc x).2] W fun e W' =>
      (e = .returned (.bool true) ∧ J (pre ++ [x]) W' ∧ KeepB K W W') ∨ (e = .returned (.bool false) ∧ Jx (pre ++ [x]) W'))
    (W : World) (hBs : W.cell? ⟨Bs, 0, none⟩ = some (.slice a zs.length cap)) (hc : ∀ j, j < zs.length → W.cell? ⟨b, off + j, none⟩ = some (.int .i64 (zs[j]?.getD 0))) (h0 : J [] W) :
    CallsIn Fence.wide n Tryd.prog 117 #[.func (.yield l) #[] #[], .pointer (some ⟨Bs, 0, none⟩)] W fun e W' => (∃ v, e = .returned v) ∧
      ((∃ ys, ys = xs ∧ J ys W') ∨ (∃ pre, pre <+: xs ∧ Jx pre W')) := by
  refine callsIn_of_wp Tryd.func117 rfl trivial ?_ rfl
  simp only [Tryd.ntmps117, List.size_toArray, List.length_cons, List.length_nil, Nat.reduceAdd, Nat.reduceSub, Array.replicate_succ, Array.replicate_zero, List.push_toArray, List.append_toArray, List.nil_append, List.cons_append]
  have hxl : xs.length = zs.length := by have := congrArg List.length hxs; rwa [List.length_map, downTo_length] at this
  have hwr : wrap64 ((zs.length : Int) - 1) = (zs.length : Int) - 1 := wrap64_in' _ (by omega) (by omega)
  gi_wp2
  gi_loopw [3] (fun i wr => ∃ m : Nat, m ≤ zs.length ∧ i = .int .i64 ((m : Int) - 1) ∧ J (xs.take (zs.length - m)) wr ∧ KeepB K W wr) (fun i _ => (intOf i + 1).toNat)
  case atStart => exact ⟨zs.length, Nat.le_refl _, by first | rfl | simp [hwr], by simpa using h0, fun _ _ => rfl⟩
  case round =>
    obtain ⟨m, hm, rfl, hJs, hk⟩ := hrel
    cases m with
    | zero =>
      gi_wp2
      go_end0
      exact ⟨⟨_, rfl⟩, .inl ⟨xs, rfl, by rw [Nat.sub_zero, List.take_of_length_le (by omega)] at hJs; exact hJs⟩⟩
    | succ m =>
      have hne : zs ≠ [] := by rintro rfl; simp at hm
      obtain rfl := ha hne
      rw [show (((m + 1 : Nat) : Int) - 1) = (m : Int) by omega]
      obtain ⟨z, hz⟩ : ∃ z, zs[m]? = some z := ⟨_, List.getElem?_eq_getElem (by omega)⟩
      have hcx : wr.cell? ⟨b, off + m, none⟩ = some (.int .i64 z) := by have := (hk.cell (p := ⟨b, off + m, none⟩) (hb hne)).trans (hc m (by omega)); rwa [hz] at this
      have hBx : wr.cell? ⟨Bs, 0, none⟩ = some (.slice (some ⟨b, off, none⟩) zs.length cap) := (hk.cell (p := ⟨Bs, 0, none⟩) hBsK).trans hBs
      have hlt : m < zs.length := by omega
      obtain ⟨x, hx⟩ : ∃ x, xs[zs.length - (m + 1)]? = some x := ⟨_, List.getElem?_eq_getElem (by omega)⟩
      have hex : enc x = ((m : Int), z) := by
        have h1 : (xs.map enc)[zs.length - (m + 1)]? = some (enc x) := by rw [List.getElem?_map, hx]; rfl
        rw [hxs, downTo, List.getElem?_map, List.getElem?_range (by omega)] at h1
        simp only [Option.map_some, Option.some.injEq] at h1
        rw [← h1, show zs.length - 1 - (zs.length - (m + 1)) = m by omega, hz]; rfl
      have hY1 := hY _ x wr hJs (by rw [List.length_take]; omega)
      rw [hex] at hY1
      have htk : xs.take (zs.length - (m + 1)) ++ [x] = xs.take (zs.length - m) := by
        rw [show zs.length - m = (zs.length - (m + 1)) + 1 by omega, List.take_add_one, hx]; rfl
      rw [htk] at hY1
      obtain ⟨fn, tmps, assign, body, hy, hR⟩ := hY1
      dsimp only at hy
      have hwr2 : wrap64 ((m : Int) - 1) = (m : Int) - 1 := wrap64_in' _ (by omega) (by omega)
      gi_wp2
      refine hR.mono ?_
      rintro e W3 (⟨rfl, hJ3, hk3⟩ | ⟨rfl, hJx3⟩)
      · gi_wp2
        go_roundw
        case rel => exact ⟨m, by omega, by first | rfl | simp [hwr2], hJ3, fun b hb => (hk3 b hb).trans (hk b hb)⟩
        case measure => simp [intOf]
      · gi_wp2
        refine bodyPost_ret (results_none rfl _ _ _) rfl ?_
        exact ⟨⟨_, rfl⟩, .inr ⟨_, List.take_prefix _ _, hJx3⟩⟩
end Go.Proofs.YtebajiafdkokjaaDoor

/- A range over a function: the rule of the walks; calls that are handed pieces; a function that holds such a range. -/
namespace Go.Proofs.YtebajiafdkokjaaDoor
open Go Go.RowKit

/-- all else that was made so far, as it lies in W -/
def Ent.rest (U : Nat → Prop) (W : World) : Ent := ⟨U, fun w => W.heap.size ≤ w.heap.size ∧ ∀ b, U b → w.heap[b]? = W.heap[b]?⟩
def restOf (n : Nat) (W : World) (H : List Ent) : Nat → Prop := fun b => n ≤ b ∧ b < W.heap.size ∧ ¬ fps H b
/-- the block that the rounds' deferred calls would lie in -/
def Ent.mark (D : Nat) : Ent := ⟨fun k => k = D, fun w => w.heap[D]? = some (.deferred (some []))⟩

section
variable {S : Nat → Prop} {w0 wz w w' W : World} {H H1 H2 H' E F : List Ent}
theorem Wd.withRest (h : Wd S w0 H W) : Wd S w0 (Ent.rest (restOf w0.heap.size W H) W :: H) W :=
  ⟨h.chg, fun e he b hb => by
    rcases List.mem_cons.1 he with rfl | he
    · exact ⟨.inr hb.1, hb.2.1⟩
    · exact h.own e he b hb, fun e he w' hs hw' => by
    rcases List.mem_cons.1 he with rfl | he
    · exact ⟨hs, fun b hb => hw' b hb⟩
    · exact h.ok e he w' hs hw', List.pairwise_cons.2 ⟨fun f hf b hb hfb => hb.2.2 ⟨f, hf, hfb⟩, h.apart⟩⟩
/-- from the base world on, all else kept: so from any world in between -/
theorem wd_rest (hz : Chg NoS wz w) (h : Wd NoS wz (Ent.rest (restOf wz.heap.size w H1) w :: E) w') : Wd (fps H1) w E w' := by
  obtain ⟨hs, hr⟩ := h.get (k := 0) rfl
  have hap := List.pairwise_cons.1 h.apart
  refine ⟨⟨h.chg.os.trans hz.os.symm, h.chg.tape.trans hz.tape.symm, h.chg.output.trans hz.output.symm, hs, fun k hk hnS => ?_⟩, fun e he b hb => ?_, fun e he => h.ok e (List.mem_cons_of_mem _ he), hap.2⟩
  · by_cases hlt : k < wz.heap.size
    · exact (h.chg.block k hlt fun h => h).trans (hz.block k hlt fun h => h).symm
    · exact hr k ⟨by omega, hk, hnS⟩
  · obtain ⟨h1, h2⟩ := h.own e (List.mem_cons_of_mem _ he) b hb
    have h1 : wz.heap.size ≤ b := h1.elim (fun h => h.elim) id
    refine ⟨?_, h2⟩
    by_cases hlt : b < w.heap.size
    · left
      exact Classical.byContradiction fun hn => hap.1 e he b ⟨h1, hlt, hn⟩ hb
    · right; omega
theorem Wd.grown {row : Option Nat} (h : Wd S w0 H W) (hg : W.grownBy w' row) (hr : ∀ r, row = some r → w0.heap.size ≤ r ∧ ¬ fps H r) : Wd S w0 H w' := by
  have hb : ∀ b, fps H b → w'.heap[b]? = W.heap[b]? := fun b ⟨e, he, hb⟩ => hg.block b (h.own e he b hb).2 fun hrow => (hr b hrow.symm).2 ⟨e, he, hb⟩
  refine ⟨⟨hg.os.trans h.chg.os, hg.tape.trans h.chg.tape, hg.output.trans h.chg.output, Nat.le_trans h.chg.size hg.size, fun k hk hS => ?_⟩, fun e he b hb => ?_, fun e he w2 hs hw2 => ?_, h.apart⟩
  · exact (hg.block k (by have := h.chg.size; omega) fun hrow => by have := (hr k hrow.symm).1; omega).trans (h.chg.block k hk hS)
  · have := h.own e he b hb
    exact ⟨this.1, by have := hg.size; omega⟩
  · exact h.ok e he w2 (Nat.le_trans hg.size hs) fun b hbb => (hw2 b hbb).trans (hb b ⟨e, he, hbb⟩)
theorem Wd.shut {D : Nat} (h : Wd S w0 (Ent.mark D :: H) w) (hD : w0.heap.size ≤ D) (o : Obj) : Wd S w0 H (w.putObj D o) := by
  refine (h.sub (List.sublist_cons_self _ _)).grown (grownBy_putObj' w D o) fun r hr => ?_
  cases hr
  exact ⟨hD, fun ⟨f, hf, hfb⟩ => (List.pairwise_cons.1 h.apart).1 f hf D rfl hfb⟩
end
/-- pieces of plain cells -/
class CellsE (e : Ent) : Prop where
  ok : ∀ w, e.ok w → ∀ b, e.fp b → ∃ cs t z, w.heap[b]? = some (.cells cs t z)
class CellsL (H : List Ent) : Prop where
  all : ∀ e ∈ H, CellsE e
instance (b : Nat) (cs : List Value) (t : TypeId) : CellsE (Ent.box b cs t) := ⟨fun w h k hk => by subst hk; exact ⟨_, _, _, h⟩⟩
instance (a : Option Addr) (n c e s : Nat) (xs : List Value) : CellsE (Ent.vec a n c e s xs) := ⟨fun w h k hk => by
  rcases h.2 with ⟨rfl, _⟩ | ⟨g, pre, sp, rfl, _, _, _, hb⟩
  · cases hk
  · simp only [Ent.vec, Option.map_some, Option.some.injEq] at hk
    subst hk
    exact ⟨_, _, _, hb⟩⟩
instance : CellsL [] := ⟨by simp⟩
instance (e : Ent) (H : List Ent) [h : CellsE e] [hs : CellsL H] : CellsL (e :: H) := ⟨fun f hf => by
  rcases List.mem_cons.1 hf with rfl | hf
  · exact h
  · exact hs.all f hf⟩

section
variable {P : Program} {N : Nat} {ds : List Deferred} {S : Nat → Prop} {w0 : World} {L L' : List (Nat × Value)} {H H' : List Ent} {a : Act} {w : World}
  {ops : Array Oper} {rest : List Oper} {Q : Exit → Act → World → Prop} {p : Act → World → Prop}
theorem wpIn_deep {ro : Option Nat} {m n : Nat} {c : Code} (h : c.wpIn (FW ro) m P Q a w) : c.wpIn (FW ro) n P Q a w := fun b k cs hb hf _ => h b k cs hb hf (fun d hd => by cases hd)
theorem callsIn_deep {ro : Option Nat} {m n : Nat} {f : FuncId} {args : Array Value} {R : Ending → World → Prop} (h : CallsIn (FW ro) m P f args w R) : CallsIn (FW ro) n P f args w R := ⟨h.1, fun cs _ => h.2 cs (fun d hd => by cases hd)⟩

/-- a call that is handed the first pieces, through a function value -/
theorem g_callFS {α : Type} {ro : Option Nat} {val : α → Value} {E : α → List Ent} {φ : α → Prop} {H1 H2 : List Ent} {d ty f : Nat} {args : List Operand} {us vs xs : List Value} {tys : Array Nat} {x : Operand} {pos : String} {aft : Array Go.Edge} [h : EnterOk P f] [hx : Evs L args vs] [hf : Ev L x (.func (.func f) us.toArray xs.toArray)] (hd : okPut d N L = true)
    (hc : ∀ w, Wd S w0 (H1 ++ H2) w → Ret P f (us ++ vs ++ xs) w fun u w' => ∃ x, u = val x ∧ Wd (fps H1) w (E x) w' ∧ φ x)
    (k : ∀ x, φ x → G N ds S w0 ((d, val x) :: L) (E x ++ H2) (wpListIn (FW ro) 0 P ops Q rest)) : G N ds S w0 L (H1 ++ H2) (wpListIn (FW ro) 0 P ops Q (⟨some d, .call { callee := .value x, args := args.toArray, argTypes := tys }, ty, pos, aft, none⟩ :: rest)) := by
  intro a w hS
  refine g_callF (S := S) (w0 := w0) (H := H1 ++ H2) (xs := xs) (us := us) (vs := vs) (fun _ u w' => ∃ x, u = val x ∧ Wd S w0 (E x ++ H2) w' ∧ φ x) hd (fun w hw => (hc w hw).mono fun v w' ⟨x, h1, h2, h3⟩ => ⟨x, h1, hw.comp h2, h3⟩) (fun v w w' hw hR a hF => ?_) a w hS
  obtain ⟨x, rfl, h2, h3⟩ := hR
  exact k x h3 a w' ⟨hF, h2⟩
/-- a call that is handed the first pieces -/
theorem g_callS {α : Type} {ro : Option Nat} {val : α → Value} {E : α → List Ent} {φ : α → Prop} {H1 H2 : List Ent} {d ty f : Nat} {args : List Operand} {vs : List Value} {tys : Array Nat} {pos : String} {aft : Array Go.Edge} [h : EnterOk P f] [hx : Evs L args vs] (hd : okPut d N L = true)
    (hc : ∀ w, Wd S w0 (H1 ++ H2) w → Ret P f vs w fun u w' => ∃ x, u = val x ∧ Wd (fps H1) w (E x) w' ∧ φ x)
    (k : ∀ x, φ x → G N ds S w0 ((d, val x) :: L) (E x ++ H2) (wpListIn (FW ro) 0 P ops Q rest)) : G N ds S w0 L (H1 ++ H2) (wpListIn (FW ro) 0 P ops Q (⟨some d, .call { callee := .value (.func f), args := args.toArray, argTypes := tys }, ty, pos, aft, none⟩ :: rest)) := by
  intro a w hS
  refine g_call (S := S) (w0 := w0) (H := H1 ++ H2) (vs := vs) (fun _ u w' => ∃ x, u = val x ∧ Wd S w0 (E x ++ H2) w' ∧ φ x) hd (fun w hw => (hc w hw).mono fun v w' ⟨x, h1, h2, h3⟩ => ⟨x, h1, hw.comp h2, h3⟩) (fun v w w' hw hR a hF => ?_) a w hS
  obtain ⟨x, rfl, h2, h3⟩ := hR
  exact k x h3 a w' ⟨hF, h2⟩

/-! ### Pieces picked by their places -/
class SelAt (H : List Ent) (is : List Nat) (H' : outParam (List Ent)) : Prop where
  eq : is.filterMap (fun i => H[i]?) = H'
instance (H : List Ent) : SelAt H [] [] := ⟨rfl⟩
instance (H H' : List Ent) (i : Nat) (is : List Nat) (e : Ent) [h : ListAt H i e] [hs : SelAt H is H'] : SelAt H (i :: is) (e :: H') := ⟨by rw [List.filterMap_cons, h.at', hs.eq]⟩
theorem Wd.at_apart (h : Wd S w0 H w) {i j : Nat} {e f : Ent} (he : H[i]? = some e) (hf : H[j]? = some f) (hij : i ≠ j) : ∀ b, e.fp b → ¬ f.fp b := by
  obtain ⟨hi, rfl⟩ := List.getElem?_eq_some_iff.1 he
  obtain ⟨hj, rfl⟩ := List.getElem?_eq_some_iff.1 hf
  have hp := List.pairwise_iff_getElem.1 h.apart
  intro b hb hfb
  by_cases hlt : i < j
  · exact hp i j hi hj hlt b hb hfb
  · exact hp j i hj hi (by omega) b hfb hb
theorem Wd.sel (h : Wd S w0 H w) (is : List Nat) (hn : is.Nodup) [hs : SelAt H is H'] : Wd S w0 H' w := by
  rw [← hs.eq]
  refine ⟨h.chg, fun e he => ?_, fun e he => ?_, ?_⟩
  · obtain ⟨i, _, hi⟩ := List.mem_filterMap.1 he
    exact h.own e (List.mem_of_getElem? hi)
  · obtain ⟨i, _, hi⟩ := List.mem_filterMap.1 he
    exact h.ok e (List.mem_of_getElem? hi)
  · refine List.Pairwise.filterMap (R := fun i j => i ≠ j) _ (fun i j hij e he f hf => ?_) hn
    exact h.at_apart he hf hij
theorem g_sel (is : List Nat) (hn : is.Nodup) [hs : SelAt H is H'] (k : G N ds S w0 L H' p) : G N ds S w0 L H p := fun a w hS => k a w ⟨hS.fr, hS.wd.sel is hn⟩

/-! ### A function that holds a range over a function -/
theorem ret_enterM {f : FuncId} {fn : Func} {c : Code} {args : List Value} {R : Value → World → Prop} (hf : P.funcs[f]? = some fn) (hb : fn.body = some c) (hN : fn.ntmps = N) [hL : EnumIs 0 args L] (hlen : args.length.ble N = true) (hW : Wd S w0 H w)
    (h : G N [] S w0 L H (Code.wpIn (FW none) 0 P c (bodyPostM (FW none) 0 P fn fun e w' => ∃ v, e = .returned v ∧ R v w'))) : Ret P f args w R := by
  subst hN
  refine callsIn_of_wp_marks hf hb trivial (h _ _ ⟨?_, hW⟩)
  rw [← hL.eq]
  exact fr_enter (Nat.le_of_ble_eq_true hlen)
/-- the like of 'ret_enter', from an elder world on -/
theorem ret_enterZ {f : FuncId} {fn : Func} {c : Code} {args : List Value} {R : Value → World → Prop} (hf : P.funcs[f]? = some fn) (hb : fn.body = some c) (hN : fn.ntmps = N) [hL : EnumIs 0 args L] (hlen : args.length.ble N = true) (hW : Wd S w0 H w)
    (h : G N [] S w0 L H (Code.wpIn (FW none) 0 P c (bodyPost P fn fun e w' => ∃ v, e = .returned v ∧ R v w'))) : Ret P f args w R := by
  subst hN
  refine callsIn_of_wp hf hb trivial (h _ _ ⟨?_, hW⟩)
  rw [← hL.eq]
  exact fr_enter (Nat.le_of_ble_eq_true hlen)
theorem leaves_mark {fn : Func} {tmps : Array Value} {R : Value → World → Prop} {D : Nat} {v : Value} (hD : w0.heap.size ≤ D) (hW : Wd S w0 (Ent.mark D :: H) w) (hr : ∀ w, (results fn tmps).run P w = .ok v w) (hR : ∀ w, Wd S w0 H w → R v w) :
    LeavesInM (FW none) 0 P fn tmps (fun e w' => ∃ v, e = .returned v ∧ R v w') [⟨.collected D, #[]⟩] .returning w := by
  refine ⟨by simp, .inl ⟨D, _, rfl, run_takeDeferred (hW.get (k := 0) rfl), ?_⟩⟩
  exact ⟨v, hr _, v, rfl, hR _ (hW.shut hD _)⟩
theorem g_endM0 {fn : Func} {R : Value → World → Prop} {D : Nat} (hr : fn.results = #[]) (hD : w0.heap.size ≤ D) (hR : ∀ w, Wd S w0 H w → R (.tuple #[]) w) : G N [⟨.collected D, #[]⟩] S w0 L (Ent.mark D :: H) (bodyPostM (FW none) 0 P fn (fun e w' => ∃ v, e = .returned v ∧ R v w') .normal) := fun a w hS => by
  show LeavesInM _ _ _ _ _ _ _ _ _
  rw [hS.fr.defers]
  exact leaves_mark hD hS.wd (fun w => results_none hr _ _ _) hR
theorem g_retM1 {fn : Func} {R : Value → World → Prop} {D t : Nat} {v : Value} (hr : fn.results = #[.tmp t]) [hv : SlotIs L t v] (hD : w0.heap.size ≤ D) (hR : ∀ w, Wd S w0 H w → R v w) : G N [⟨.collected D, #[]⟩] S w0 L (Ent.mark D :: H) (bodyPostM (FW none) 0 P fn (fun e w' => ∃ v, e = .returned v ∧ R v w') .ret) := fun a w hS => by
  show LeavesInM _ _ _ _ _ _ _ _ _
  rw [hS.fr.defers]
  exact leaves_mark hD hS.wd (fun w => by rw [results_tmp hr]; simp [Array.getD_eq_getD_getElem?, hS.fr.slot _ hv.mem]) hR

/-! ### The range -/
/-- behind a round -/
def Rnd {σ : Type} (S : Nat → Prop) (w0 : World) (I : σ → Prop) (R : Ent) (Hc : σ → List Ent) (F : List Ent) : Act → World → Prop := fun _ w => ∃ s, I s ∧ Wd S w0 (R :: (Hc s ++ F)) w
theorem g_rnd {σ : Type} {I : σ → Prop} {R : Ent} {Hc : σ → List Ent} {F : List Ent} (s : σ) (hI : I s) (hH : (R :: (Hc s ++ F)).Sublist H) : G N ds S w0 L H (Rnd S w0 I R Hc F) := fun _ _ hS => ⟨s, hI, hS.wd.sub hH⟩
theorem g_range {α σ : Type} {g : Operand} {ps : Array Tmp} {assign body : Code} {gf : Nat} {lb : List Value} [hg : Ev L g (.func (.func gf) #[] lb.toArray)] [eg : EnterOk P gf] (F : List Ent) (Hc : σ → List Ent) (hcl : ∀ s, CellsL (Hc s)) (xs : List α) {encs : α → Array Value}
    {Bs : Nat} {bcs : List Value} {bt : TypeId} (hBs : Ent.box Bs bcs bt ∈ F)
    (hseq : ∀ w, Wd S w0 H w → SeqStopsK (FW none) 4 P gf lb.toArray encs (KeepB fun b => (b < w0.heap.size ∧ ¬ S b) ∨ b = Bs) (fun ys => ys = xs) (fun pre => pre <+: xs) xs.length w)
    (I : List α → σ → Prop) (s0 : σ) (h0 : I [] s0) (hH : (Hc s0 ++ F).Sublist H) (hps : ∀ x, (encs x).size = ps.size)
    (L0 La : α → List (Nat × Value)) (hput : ∀ x a, Fr N ds L a → Fr N [] (L0 x) { tmps := (ps.zip (encs x)).foldl (fun t (p, v) => t.setIfInBounds p v) a.tmps, defers := [] })
    (hassign : ∀ (l : Nat) (x : α) (s : σ) (R : Ent), G N [] S w0 (L0 x) (R :: (Hc s ++ F)) (assign.wpIn (FW (some l)) 0 P (Exit.then (St N [] S w0 (La x) (R :: (Hc s ++ F))) (fun _ _ _ => False))))
    (hbody : ∀ (l : Nat) (pre : List α) (x : α) (s : σ) (R : Ent), I pre s → pre.length < xs.length → G N [] S w0 (La x) (R :: (Hc s ++ F)) (body.wpIn (FW (some l)) 0 P (Exit.then (Rnd S w0 (I (pre ++ [x])) R Hc F) (fun _ _ _ => False))))
    (k : ∀ D s, w0.heap.size ≤ D → I xs s → G N (⟨.collected D, #[]⟩ :: ds) S w0 L (Ent.mark D :: (Hc s ++ F)) (Q .normal)) : G N ds S w0 L H (Code.wpIn (FW none) 0 P (Code.rangeFunc g ps assign body) Q) := fun a w hS => by
  have hsz := hS.wd.size
  have hF : ∀ e ∈ F, ∀ b, e.fp b → b < w.heap.size := fun e he b hb => (hS.wd.own e (hH.subset (List.mem_append_right _ he)) b hb).2
  have hcell : ∀ s W, Wd S w0 (Hc s ++ F) W → ∀ r o, W.heap[r]? = some o → o.isCells = false → w.heap.size ≤ r → ¬ fps (Hc s ++ F) r := by
    rintro s W hW r o ho hn hle ⟨e, he, hb⟩
    rcases List.mem_append.1 he with he | he
    · obtain ⟨j, hj⟩ := List.getElem?_of_mem (List.mem_append_left F he)
      obtain ⟨cs, t, z, hc⟩ := ((hcl s).all e he).ok W (hW.get hj) r hb
      rw [hc] at ho
      cases ho
      cases hn
    · have := hF e he r hb; omega
  have hbox : ∀ s W, Wd S w0 (Hc s ++ F) W → W.heap[Bs]? = some (.cells bcs.toArray bt (0, 0)) := fun s W hW => by
    obtain ⟨j, hj⟩ := List.getElem?_of_mem (List.mem_append_right (Hc s) hBs)
    exact hW.get hj
  have hout : ∀ s s' W W', Wd S w0 (Hc s ++ F) W → Wd S w0 (Ent.rest (restOf w0.heap.size W (Hc s ++ F)) W :: (Hc s' ++ F)) W' → KeepsFrom w.heap.size W W' ∧ KeepB (fun b => (b < w0.heap.size ∧ ¬ S b) ∨ b = Bs) W W' := by
    intro s s' W W' hW hW'
    obtain ⟨hs, hr⟩ := hW'.get (k := 0) rfl
    refine ⟨⟨hs, fun j o hj ho hn => ?_⟩, fun b hb => ?_⟩
    · exact (hr j ⟨by omega, (Array.getElem?_eq_some_iff.1 ho).1, hcell s W hW j o ho hn hj⟩).trans ho
    · rcases hb with ⟨h1, h2⟩ | rfl
      · exact (hW'.chg.block b h1 h2).trans (hW.chg.block b h1 h2).symm
      · exact (hbox s' W' (hW'.sub (List.sublist_cons_self _ _))).trans (hbox s W hW).symm
  refine wpIn_deep (m := 5) ?_
  refine wpIn_rangeFunc_ownH (F := FW none) (n := 5) (w0 := w) rfl (by omega) (hg.eq _ _ _ hS.fr) trivial (fun args w => eg.run args w) (hseq w hS.wd) (fun h1 h2 b hb => (h2 b hb).trans (h1 b hb)) (fun W l o o' hl _ _ _ b hb => ?_) (Below.refl _ _) hps
    (fun pre W => ∃ s, I pre s ∧ Wd S w0 (Hc s ++ F) W) (fun _ _ _ => False) (fun pre W W' row ⟨s, hI, hW⟩ hg hr => ⟨s, hI, hW.grown hg fun r e => ?_⟩) (fun _ _ _ _ _ h => h.elim) ⟨s0, h0, hS.wd.sub hH⟩ (fun x a' _ => Fr N [] (La x) a') (fun _ _ _ _ _ _ h _ _ => h) ?_ ?_ ?_ ?_
  · have hlt : b < w.heap.size := by
      rcases hb with ⟨h1, _⟩ | rfl
      · omega
      · exact hF _ hBs b rfl
    exact World.putObj_heap_other (by omega)
  · obtain ⟨h1, o, ho, hn⟩ := hr r e
    exact ⟨by omega, hcell s W hW r o ho hn h1⟩
  · rintro l pre x W K ⟨s, hI, hW⟩ hK
    refine wpIn_deep (m := 0) ?_
    refine Code.wpIn_mono (fun e a' W' q => ?_) (hassign l x s _ _ W ⟨hput x a hS.fr, hW.withRest⟩)
    cases e with
    | normal =>
      have ho := hout s s W W' hW q.wd
      exact hK a' W' ho.1 ho.2 ⟨s, hI, q.wd.sub (List.sublist_cons_self _ _)⟩ q.fr
    | _ => exact q.elim
  · rintro l pre x a' W _ _ ⟨s, hI, hW⟩ ha hlt
    refine wpIn_deep (m := 0) ?_
    refine Code.wpIn_mono (fun e a' W' q => ?_) (hbody l pre x s _ hI hlt a' W ⟨ha, hW.withRest⟩)
    cases e with
    | normal =>
      obtain ⟨s', hI', hW'⟩ := q
      have ho := hout s s' W W' hW hW'
      exact ⟨ho.1, ho.2, s', hI', hW'.sub (List.sublist_cons_self _ _)⟩
    | _ => exact q.elim
  · rintro D ys W hD rfl ⟨s, hI, hW⟩ hd
    refine k D s (by omega) hI _ W ⟨⟨hS.fr.size, by rw [hS.fr.defers], hS.fr.slot⟩, ?_⟩
    have hn : ¬ fps (Hc s ++ F) D := hcell s W hW D _ hd rfl hD
    exact ⟨hW.chg, fun e he b hb => by
      rcases List.mem_cons.1 he with rfl | he
      · cases hb
        exact ⟨.inr (by omega), (Array.getElem?_eq_some_iff.1 hd).1⟩
      · exact hW.own e he b hb, fun e he w2 hs hw2 => by
      rcases List.mem_cons.1 he with rfl | he
      · exact (hw2 D rfl).trans hd
      · exact hW.ok e he w2 hs hw2, List.pairwise_cons.2 ⟨fun f hf b hb hfb => by cases hb; exact hn ⟨f, hf, hfb⟩, hW.apart⟩⟩
  · intro D c pre W _ _ h
    exact h.elim
end
end Go.Proofs.YtebajiafdkokjaaDoor

/- A part of a walk that turns some pieces and reads all others: what is read lies in a world in which the pieces that turn are gone. -/
namespace Go.Proofs.YtebajiafdkokjaaDoor
open Go Go.RowKit

theorem SlAt.known {α : Type} {w : World} {b o n c s : Nat} {l : List α} {V : World → α → List Value → Prop} (h : SlAt w (.slice (some ⟨b, o, none⟩) n c) s l V) : ∀ (i : Nat) x, l[i]? = some x → ∃ cs, CellsAt w b (o + i * s) cs ∧ V w x cs := by
  intro i x hx
  obtain ⟨a, _, _, b', o', e, _, _, _, _, ha, hel⟩ := h
  simp only [Value.slice.injEq] at e
  obtain ⟨rfl, _, _⟩ := e
  have := ha (List.ne_nil_of_mem (List.mem_of_getElem? hx))
  simp only [Option.some.injEq, Addr.mk.injEq, and_true] at this
  obtain ⟨rfl, rfl⟩ := this
  exact hel i x hx
theorem SlAt.at {α : Type} {w : World} {a : Option Addr} {n c s : Nat} {l : List α} {V : World → α → List Value → Prop} (h : SlAt w (.slice a n c) s l V) : n = l.length ∧ n ≤ c ∧ n ≤ 140737488355328 ∧ ∃ b o, (l ≠ [] → a = some ⟨b, o, none⟩) ∧ ∀ (i : Nat) x, l[i]? = some x → ∃ cs, CellsAt w b (o + i * s) cs ∧ V w x cs := by
  obtain ⟨_, _, _, b, o, e, h1, h2, h3, _, ha, hel⟩ := h
  simp only [Value.slice.injEq] at e
  obtain ⟨rfl, rfl, rfl⟩ := e
  exact ⟨h1, h2, h3, b, o, ha, hel⟩
open Classical in
/-- the world without these blocks -/
noncomputable def killW (S : Nat → Prop) (w : World) : World := { w with heap := Array.ofFn (n := w.heap.size) fun i => if S i.1 then .deferred (some []) else w.heap[i.1] }
theorem kill_size (S : Nat → Prop) (w : World) : (killW S w).heap.size = w.heap.size := by simp [killW]
theorem kill_get {S : Nat → Prop} (w : World) {b : Nat} (h : ¬ S b) : (killW S w).heap[b]? = w.heap[b]? := by
  unfold killW
  by_cases hb : b < w.heap.size
  · simp [hb, h]
  · rw [Array.getElem?_eq_none (by simpa using hb), Array.getElem?_eq_none (by omega)]
theorem kill_none {S : Nat → Prop} (w : World) {p : Addr} (h : S p.block) : (killW S w).cell? p = none := by
  unfold killW World.cell?
  by_cases hb : p.block < w.heap.size
  · simp [hb, h]
  · rw [Array.getElem?_eq_none (by simpa using hb)]
theorem kill_cell {S : Nat → Prop} {w : World} {p : Addr} {v : Value} (h : (killW S w).cell? p = some v) : ¬ S p.block ∧ w.cell? p = some v := by
  have hn : ¬ S p.block := fun hs => by rw [kill_none w hs] at h; cases h
  exact ⟨hn, by rw [← h]; exact (World.cell?_of_block (kill_get w hn)).symm⟩
theorem kill_chg (S : Nat → Prop) (w : World) : Chg S (killW S w) w := ⟨rfl, rfl, rfl, by rw [kill_size]; exact Nat.le_refl _, fun k _ hk => (kill_get w hk).symm⟩
section
variable {P : Program} {N : Nat} {ds : List Deferred} {S : Nat → Prop} {w0 w w' : World} {L : List (Nat × Value)} {H H1 H2 E : List Ent} {p : Act → World → Prop}
/-- what is held beside them is there -/
theorem Wd.beside (h : Wd S w0 (H1 ++ H2) w) {e : Ent} (he : e ∈ H2) : e.ok (killW (fps H1) w) := by
  refine h.ok e (List.mem_append_right _ he) _ (by rw [kill_size]; exact Nat.le_refl _) fun b hb => kill_get w fun ⟨f, hf, hfb⟩ => ?_
  exact (List.pairwise_append.1 h.apart).2.2 f hf e he b hfb hb
/-- all of it -/
theorem Wd.besides (h : Wd S w0 (H1 ++ H2) w) : Wd (fun _ => True) (killW (fps H1) w) H2 (killW (fps H1) w) := by
  have hk : ∀ e ∈ H2, ∀ b, e.fp b → ¬ fps H1 b := fun e he b hb ⟨f, hf, hfb⟩ => (List.pairwise_append.1 h.apart).2.2 f hf e he b hfb hb
  refine ⟨Chg.refl _ _, fun e he b hb => ⟨.inl trivial, by rw [kill_size]; exact (h.own e (List.mem_append_right _ he) b hb).2⟩, fun e he w' hs hw => ?_, (List.pairwise_append.1 h.apart).2.1⟩
  exact h.ok e (List.mem_append_right _ he) w' (by rwa [kill_size] at hs) fun b hb => (hw b hb).trans (kill_get w (hk e he b hb))
/-- and what was there before all -/
theorem Wd.killOld (h : Wd NoS w0 (H1 ++ H2) w) : Chg NoS w0 (killW (fps H1) w) := by
  refine ⟨h.chg.os, h.chg.tape, h.chg.output, by rw [kill_size]; exact h.size, fun k hk _ => (kill_get w fun ⟨e, he, hb⟩ => ?_).trans (h.chg.block k hk fun h => h)⟩
  have := (h.own e (List.mem_append_left _ he) k hb).1
  exact this.elim (fun h => h) fun h => by omega
theorem Wd.prek (h : Wd S w0 (H1 ++ H2) w) : Wd (fps H1) (killW (fps H1) w) H1 w :=
  ⟨kill_chg _ _, fun e he b hb => ⟨.inl ⟨e, he, hb⟩, (h.own e (List.mem_append_left _ he) b hb).2⟩, fun e he => h.ok e (List.mem_append_left _ he), (List.pairwise_append.1 h.apart).1⟩
/-- back to the world that was held on to -/
theorem Wd.unkill {T : Nat → Prop} (h : Wd T (killW T w) E w') : Wd T w E w' :=
  ⟨⟨h.chg.os, h.chg.tape, h.chg.output, by have := h.chg.size; rwa [kill_size] at this, fun k hk hT => (h.chg.block k (by rw [kill_size]; exact hk) hT).trans (kill_get w hT)⟩, fun e he b hb => by have := h.own e he b hb; rwa [kill_size] at this, h.ok, h.apart⟩
/-- what is read there is read later, too -/
theorem Wd.killKeep {T : Nat → Prop} (h : Wd T (killW T w) E w') : ∀ p v, (killW T w).cell? p = some v → w'.cell? p = some v := fun p v hc => by
  have hlt := World.block_lt_of_cell? _ p hc
  rw [← hc]
  exact World.cell?_of_block (h.chg.block _ hlt (kill_cell hc).1)
theorem killOldIs {T : Nat → Prop} {b o : Nat} {cs : List Value} (hc : CellsAt (killW T w) b o cs) (hne : cs ≠ []) : OldIs T b := by
  cases cs with
  | nil => exact absurd rfl hne
  | cons c cs => exact ⟨(kill_cell (hc 0 c rfl)).1⟩
/-- from here on only the first pieces turn -/
theorem g_holdK (h : ∀ w, Wd S w0 (H1 ++ H2) w → G N ds (fps H1) (killW (fps H1) w) L H1 p) : G N ds S w0 L (H1 ++ H2) p := fun a w hS => h w hS.wd a w ⟨hS.fr, hS.wd.prek⟩
end
end Go.Proofs.YtebajiafdkokjaaDoor

/- code.ahead: for each block the list of the blocks that lead to it. -/
namespace Go.Proofs.YtebajiafdkokjaaDoor
open Go Go.RowKit
attribute [local irreducible] wpListIn Code.wpIn Exit.then Exit.inBlock bodyPost wpQuiet wpAnyIn
set_option maxHeartbeats 2000000

/-- pieces taken together, of which one thing is told -/
theorem Wd.pack {S : Nat → Prop} {w0 w : World} {E H : List Ent} (h : Wd S w0 (E ++ H) w) (F : World → Prop) (hF : ∀ w2, Wd (fps E) w2 E w2 → F w2) : Wd S w0 (⟨fps E, F⟩ :: H) w := by
  have hap := List.pairwise_append.1 h.apart
  refine ⟨h.chg, ?_, ?_, ?_⟩
  · intro e he b hb
    rcases List.mem_cons.1 he with rfl | he
    · obtain ⟨x, hx, hxb⟩ := hb
      exact h.own x (List.mem_append_left _ hx) b hxb
    · exact h.own e (List.mem_append_right _ he) b hb
  · intro e he w2 hs2 hw2
    rcases List.mem_cons.1 he with rfl | he
    · refine hF w2 ⟨Chg.refl _ _, fun x hx b hb => ⟨.inl ⟨x, hx, hb⟩, ?_⟩, fun x hx w3 hs3 hw3 => ?_, hap.1⟩
      · by_cases hlt : b < w2.heap.size
        · exact hlt
        · have h1 := hw2 b ⟨x, hx, hb⟩
          rw [Array.getElem?_eq_none (by omega)] at h1
          have h2 := (h.own x (List.mem_append_left _ hx) b hb).2
          rw [Array.getElem?_eq_getElem h2] at h1
          cases h1
      · exact h.ok x (List.mem_append_left _ hx) w3 (Nat.le_trans hs2 hs3) fun b hb => (hw3 b hb).trans (hw2 b ⟨x, hx, hb⟩)
    · exact h.ok e (List.mem_append_right _ he) w2 hs2 hw2
  · refine List.pairwise_cons.2 ⟨fun f hf b ⟨x, hx, hxb⟩ hfb => hap.2.2 x hx f hf b hxb hfb, hap.2.1⟩

structure Row where
  a : Option Addr
  c : Nat
  l : List Int
def valR (r : Row) : Value := .slice r.a r.l.length r.c
def entR (r : Row) : Ent := Ent.vec r.a r.l.length r.c 3 1 (r.l.map (.int .i64))
theorem map_set_modify {α β : Type} {f : α → β} {g : β → β} {l : List α} {k : Nat} {r r' : α} (h : l[k]? = some r) (hr : f r' = g (f r)) : (l.set k r').map f = (l.map f).modify k g := by
  apply List.ext_getElem?
  intro i
  rw [List.getElem?_map, List.getElem?_set, List.getElem?_modify, List.getElem?_map]
  by_cases hi : k = i
  · subst hi
    have hlt : k < l.length := (List.getElem?_eq_some_iff.1 h).1
    have h2 := (List.getElem?_eq_some_iff.1 h).2
    simp [hlt, hr, h2]
  · simp [hi]
theorem rows_sl {S : Nat → Prop} {w0 w : World} {rs : List Row} {bo n e : Nat} {H : List Ent} (h : Wd S w0 (Ent.vec (some ⟨bo, 0, none⟩) n n e 1 (rs.map valR) :: (rs.map entR ++ H)) w) (hn : n = rs.length) (hb : n ≤ 100) (hl : ∀ r ∈ rs, r.l.length ≤ 1000 ∧ ∀ x ∈ r.l, inI x) :
    SlAt w (.slice (some ⟨bo, 0, none⟩) n n) 1 (rs.map (·.l)) RowV := by
  refine h.slAt (k := 0) rfl (by simpa using hn) (by omega) fun i x hx => ?_
  rw [List.getElem?_map] at hx
  obtain ⟨r, hr, rfl⟩ := Option.map_eq_some_iff.1 hx
  have hlt : i < rs.length := (List.getElem?_eq_some_iff.1 hr).1
  have hb' := hl r (List.mem_of_getElem? hr)
  refine ⟨[valR r], fun j v hj => ?_, valR r, rfl, ?_⟩
  · match j, hj with
    | 0, hj => simpa [hr] using hj
  · refine h.slAt (k := i + 1) (a := r.a) (n := r.l.length) (c := r.c) (e := 3) (s := 1) (xs := r.l.map (.int .i64)) ?_ rfl (by omega) fun j y hy => ⟨[.int .i64 y], fun k v hk => ?_, rfl, hb'.2 y (List.mem_of_getElem? hy)⟩
    · rw [List.getElem?_cons_succ, List.getElem?_append_left (by simpa using hlt), List.getElem?_map, hr]; rfl
    · match k, hk with
      | 0, hk => simpa [hy] using hk
def toOk (n : Nat) (l : List Int) : Prop := l.length ≤ 2 ∧ ∀ t ∈ l, 0 ≤ t ∧ t < n
theorem ahead_c (nm pa re : Value) (bl : List LBlock) (bs : Value) (w0 : World) (hbs : SlAt w0 bs 6 bl BlockV) (hlen : bl.length ≤ 100) (hok : ∀ b ∈ bl, toOk bl.length b.to) :
    Ret Tryd.prog 97 [.agg #[nm, pa, re, bs]] w0 fun u w' => ∃ x : (Option Addr × Nat × Nat) × (Nat → Prop), u = .slice x.1.1 x.1.2.1 x.1.2.2 ∧ Wd NoS w0 [⟨x.2, fun w => SlAt w (.slice x.1.1 x.1.2.1 x.1.2.2) 1 (aheadL bl) RowV⟩] w' ∧ True := by
  obtain ⟨ba, n, bc, bb, bo', rfl, hn, hnc, hnb, hbc, hba, hel⟩ := hbs
  refine ret_enter Tryd.func97 rfl Tryd.ntmps97 rfl (Wd.nil NoS w0) ?_
  repeat (first | refine g_op rfl ?_ | refine g_then ?_ | refine g_nil ?_ | refine g_region ?_ | refine g_seq ?_ | refine g_box rfl fun _ _ => ?_ | refine g_block ?_ | refine g_make rfl (by omega) (by omega) fun _ _ => ?_)
  rename_i b1 _ bo _
  refine g_nilVecs 3 1 n ?_
  rw [show (List.replicate n (Value.slice none 0 0)) = (List.replicate n (⟨none, 0, []⟩ : Row)).map valR by simp [valR], show (List.replicate n (Ent.vec none 0 0 3 1 [])) = (List.replicate n (⟨none, 0, []⟩ : Row)).map entR by simp [entR]]
  refine g_loop (fun (x : Nat × List Row) => x.1 ≤ n ∧ x.2.map (·.l) = aheadTo bl x.1 ∧ x.2.length = n ∧ ∀ r ∈ x.2, r.l.length ≤ 2 * x.1 ∧ ∀ y ∈ r.l, inI y) (fun x => [(15, .int .i64 x.1), (13, .slice ba n bc), (14, .int .i64 n), (3, .slice (some ⟨bo, 0, none⟩) n n)]) (fun x => Ent.vec (some ⟨bo, 0, none⟩) n n 27 1 (x.2.map valR) :: x.2.map entR) (fun x => n - x.1) (0, List.replicate n ⟨none, 0, []⟩)
    ⟨Nat.zero_le _, by simp [aheadTo, hn], by simp, by simp⟩ (g_done (by repeat (first | exact trivial | refine ⟨rfl, ?_⟩)) (List.Sublist.cons_cons _ (List.Sublist.cons _ (List.Sublist.refl _)))) fun x ⟨hi, hrows, hrl, hbd⟩ => ?_
  obtain ⟨i, rs⟩ := x
  simp only at hi hrows hrl hbd ⊢
  repeat (first | refine g_op rfl ?_ | refine g_then ?_ | refine g_nil ?_ | refine g_region ?_ | refine g_seq ?_)
  refine g_cond (fun h1 => ?_) (fun h1 => ?_)
  · have hlt : i < n := by simpa using h1
    obtain ⟨B, hB⟩ := get_lt hn hlt
    have had : AddrIs ba bb bo' := ⟨hba (ne_of_get hB)⟩
    have hli : LtIs i n := ⟨hlt⟩
    obtain ⟨cs, hcs, pv, lv, tv, rfl, _, _, hphis, hlist, ht⟩ := hel i B hB
    obtain ⟨pa', pn, pc, _, _, rfl, _⟩ := hphis
    obtain ⟨la, ln, lc, _, _, rfl, _⟩ := hlist
    obtain ⟨ta, tn, tc, tb, to', rfl, htn, htnc, htnb, htc, hta, htel⟩ := ht
    have hci : CellsIs w0 bb (bo' + i * 6) _ := ⟨hcs⟩
    have htok := hok B (List.mem_of_getElem? hB)
    repeat (first | refine g_op rfl ?_ | refine g_then ?_ | refine g_nil ?_ | refine g_region ?_ | refine g_seq ?_ | refine g_alloc rfl fun _ _ => ?_ | refine g_storeAgg ?_ | refine g_block ?_ | refine g_skip ?_)
    refine g_loop (fun (x : Nat × List Row) => x.1 ≤ tn ∧ x.2.map (·.l) = (B.to.take x.1).foldl (aheadIn i) (aheadTo bl i) ∧ x.2.length = n ∧ ∀ r ∈ x.2, r.l.length ≤ 2 * i + x.1 ∧ ∀ y ∈ r.l, inI y) (fun x => [(24, .int .i64 x.1), (22, .slice ta tn tc), (23, .int .i64 tn), (4, .int .i64 i), (15, .int .i64 i), (13, .slice ba n bc), (14, .int .i64 n), (3, .slice (some ⟨bo, 0, none⟩) n n)])
      (fun x => Ent.vec (some ⟨bo, 0, none⟩) n n 27 1 (x.2.map valR) :: x.2.map entR) (fun x => tn - x.1) (0, rs)
      ⟨Nat.zero_le _, by simpa using hrows, hrl, fun r hr => by simpa using hbd r hr⟩ (g_done (by repeat (first | exact trivial | refine ⟨rfl, ?_⟩)) (List.Sublist.cons _ (List.Sublist.refl _))) fun x ⟨hj, hrows', hrl', hbd'⟩ => ?_
    obtain ⟨j, rs'⟩ := x
    simp only at hj hrows' hrl' hbd' ⊢
    repeat (first | refine g_op rfl ?_ | refine g_then ?_ | refine g_nil ?_ | refine g_region ?_ | refine g_seq ?_)
    refine g_cond (fun h2 => ?_) (fun h2 => ?_)
    · have hjlt : j < tn := by simpa using h2
      obtain ⟨t, htj⟩ := get_lt htn hjlt
      have htt := htok.2 t (List.mem_of_getElem? htj)
      obtain ⟨k, hk⟩ : ∃ k : Nat, t = k := ⟨t.toNat, by omega⟩
      have hkn : k < n := by omega
      have hkl : k < rs'.length := by omega
      obtain ⟨r, hr⟩ : ∃ r, rs'[k]? = some r := ⟨_, List.getElem?_eq_getElem hkl⟩
      have had2 : AddrIs ta tb to' := ⟨hta (ne_of_get htj)⟩
      have hli2 : LtIs j tn := ⟨hjlt⟩
      have hli3 : LtIs k n := ⟨hkn⟩
      have hni : NatIs t k := ⟨hk⟩
      obtain ⟨cs2, hcs2, rfl, _⟩ := htel j t htj
      have hci2 : CellsIs w0 tb (to' + j * 1) _ := ⟨hcs2⟩
      have hxa : XAt (rs'.map valR) (k * 1) (.slice r.a r.l.length r.c) := ⟨by simp [hr, valR]⟩
      have hrb := hbd' r (List.mem_of_getElem? hr)
      repeat (first | refine g_op rfl ?_ | refine g_then ?_ | refine g_nil ?_ | refine g_region ?_ | refine g_seq ?_ | refine g_block ?_ | refine g_skip ?_ | refine g_build1 rfl rfl fun _ _ => ?_)
      rename_i bt _
      have htok1 := htok.1
      refine g_appendAt (k + 2) (xs := r.l.map (.int .i64)) (e := 3) (by simp [hr, entR]) rfl rfl (by omega) (by omega) fun a' c' => ?_
      refine g_eqH (H1 := Ent.vec (some ⟨bt, 0, none⟩) 1 1 3 1 [.int .i64 i] :: Ent.vec (some ⟨bo, 0, none⟩) n n 27 1 (rs'.map valR) :: (rs'.set k ⟨a', c', r.l ++ [(i : Int)]⟩).map entR) (by simp [entR, List.map_set]) ?_
      have hxs : XSet (rs'.map valR) (k * 1) (.slice a' (r.l.length + 1) c') ((rs'.set k ⟨a', c', r.l ++ [(i : Int)]⟩).map valR) := ⟨by simp [valR, List.map_set], by simpa using hkl⟩
      repeat (first | refine g_op rfl ?_ | refine g_then ?_ | refine g_nil ?_ | refine g_region ?_ | refine g_opS rfl ?_ | refine g_inBlock ?_ | refine g_add rfl (by omega) (by omega) ?_ | refine g_storeV ?_)
      refine g_next (j + 1, rs'.set k ⟨a', c', r.l ++ [(i : Int)]⟩) ⟨hjlt, ?_, by simpa using hrl', ?_⟩ (by simp only; omega) (by repeat (first | exact trivial | refine ⟨rfl, ?_⟩)) (List.Sublist.cons _ (List.Sublist.refl _))
      · simp only
        rw [List.take_add_one, htj]
        simp only [Option.toList_some, List.foldl_append, List.foldl_cons, List.foldl_nil]
        rw [← hrows', aheadIn, show t.toNat = k by omega]
        exact map_set_modify hr rfl
      · intro q hq
        rcases List.mem_or_eq_of_mem_set hq with hq | rfl
        · have := hbd' q hq
          exact ⟨by simp only; omega, this.2⟩
        · refine ⟨by simp only [List.length_append, List.length_singleton]; omega, fun y hy => ?_⟩
          rcases List.mem_append.1 hy with hy | hy
          · exact hrb.2 y hy
          · simp only [List.mem_singleton] at hy
            subst hy
            simp only [inI]; omega
    · have hge : j = tn := by have := h2; simp at this; omega
      repeat (first | refine g_then ?_ | refine g_nil ?_ | refine g_region ?_ | refine g_opS rfl ?_ | refine g_inBlock ?_ | refine g_add rfl (by omega) (by omega) ?_ | refine g_exit ?_ | refine g_thenExit ?_ | refine g_exitHere ?_)
      refine g_next (i + 1, rs') ⟨hlt, ?_, hrl', fun r hr => ?_⟩ (by simp only; omega) (by repeat (first | exact trivial | refine ⟨rfl, ?_⟩)) (List.Sublist.refl _)
      · simp only [aheadTo, hB]
        rw [hrows', hge, htn, List.take_length]
      · have := hbd' r hr
        have htok1 := htok.1
        exact ⟨by simp only; omega, this.2⟩
  · have hge : i = n := by have := h1; simp at this; omega
    repeat (first | refine g_op rfl ?_ | refine g_then ?_ | refine g_nil ?_ | refine g_region ?_ | refine g_seq ?_ | refine g_exit ?_ | refine g_thenExit ?_ | refine g_exitHere ?_ | refine g_ret ?_)
    refine g_ret1 rfl fun w hw => ⟨((some ⟨bo, 0, none⟩, n, n), fps (Ent.vec (some ⟨bo, 0, none⟩) n n 27 1 (rs.map valR) :: rs.map entR)), rfl, ?_, trivial⟩
    have hw' : Wd NoS w0 ((Ent.vec (some ⟨bo, 0, none⟩) n n 27 1 (rs.map valR) :: rs.map entR) ++ []) w := by rw [List.append_nil]; exact hw
    refine hw'.pack _ fun w2 hw2 => ?_
    have := rows_sl (H := []) (by rw [List.append_nil]; exact hw2) hrl.symm (by omega) fun r hr => ⟨by have := (hbd r hr).1; omega, (hbd r hr).2⟩
    rw [hrows, hge, hn] at this
    exact hn ▸ this
end Go.Proofs.YtebajiafdkokjaaDoor

/- The checker's ins, end and phi. What each returns. -/
namespace Go.Proofs.YtebajiafdkokjaaDoor
open Go Go.RowKit
attribute [local irreducible] wpListIn Code.wpIn Exit.then Exit.inBlock bodyPost wpQuiet wpAnyIn
set_option maxHeartbeats 2000000

theorem ins_c (g fs nm pa bs ah : Value) (fl : List LFunc) (hfs : fl.length ≤ 100) (regs : Int) (hr : 0 ≤ regs ∧ regs ≤ 100) (x : LIns) (hfn : inI x.fn) (xv : Value) (w0 : World) (hf : SlAt w0 fs 4 fl FuncV) (hv : SlAt w0 xv 2 x.args ValV) :
    RetV Tryd.prog 99 [.agg #[g, fs, nm, pa, .int .i64 regs, bs, ah], .agg #[.int .i64 x.op, .int .i64 x.dst, .bool x.a.reg, .int .i64 x.a.n, .bool x.b.reg, .int .i64 x.b.n, .int .i64 x.fn, xv]] w0 (.int .i64 (insErr fl regs x)) := by
  have hv0 := hv
  obtain ⟨va, vn, vc, vb, vo, rfl, hvn, hvnc, hvnb, hvc, hva, hvel⟩ := hv
  refine ret_enter Tryd.func99 rfl Tryd.ntmps99 rfl (Wd.nil NoS w0) ?_
  repeat (first | refine g_op rfl ?_ | refine g_then ?_ | refine g_nil ?_ | refine g_region ?_ | refine g_seq ?_ | refine g_box rfl fun _ _ => ?_)
  refine g_callV rfl (fun w _ => within_c _ _ _ w) ?_
  repeat (first | refine g_op rfl ?_ | refine g_then ?_ | refine g_nil ?_)
  refine g_cond (fun h1 => ?_) (fun h1 => ?_)
  · repeat (first | refine g_then ?_ | refine g_nil ?_ | refine g_region ?_ | refine g_seq ?_ | refine g_opS rfl ?_ | refine g_ret ?_ | refine g_thenRet ?_)
    exact g_retV rfl (by simp at h1; simp [insErr, h1])
  have hw1 : within x.op 1 22 = true := by simpa using h1
  repeat (first | refine g_op rfl ?_ | refine g_then ?_ | refine g_region ?_ | refine g_seq ?_ | refine g_skip ?_)
  refine g_callV rfl (fun w _ => shapes_c _ w) ?_
  generalize hsd : (shape x.op).1 = sd
  generalize hsa : (shape x.op).2.1 = sa
  generalize hsb : (shape x.op).2.2 = sb
  generalize h20 : decide (x.op = 20) = c
  repeat (first | refine g_op rfl ?_ | refine g_then ?_ | refine g_nil ?_ | refine g_region ?_ | refine g_seq ?_ | refine g_store ?_ | refine g_alloc rfl fun _ _ => ?_ | refine g_storeAgg ?_)
  rw [h20]
  rename_i p2 _ p3 _ p5 _ p6 _
  generalize hns : (!sd) = nsd
  refine g_joinTo 25 (.bool (nsd && !decide (x.dst = -1))) ?_ ?_
  · cases nsd
    · repeat (first | refine g_op rfl ?_ | refine g_then ?_ | refine g_nil ?_ | refine g_pass rfl ?_)
      exact g_done (by repeat (first | exact trivial | refine ⟨rfl, ?_⟩)) (by simp)
    · repeat (first | refine g_op rfl ?_ | refine g_then ?_ | refine g_nil ?_ | refine g_open ?_)
      exact g_done (by repeat (first | exact trivial | refine ⟨rfl, ?_⟩)) (by simp)
  generalize e1 : (nsd && !decide (x.dst = -1)) = b1
  repeat (refine g_op rfl ?_)
  refine g_joinTo 36 (.bool (b1 || (!sa && !noVal x.a))) ?_ ?_
  · cases b1
    · repeat (first | refine g_op rfl ?_ | refine g_open ?_)
      generalize (!sa) = na
      cases na
      · repeat (first | refine g_op rfl ?_ | refine g_then ?_ | refine g_nil ?_ | refine g_open ?_ | refine g_pass rfl ?_)
        exact g_done (by repeat (first | exact trivial | refine ⟨rfl, ?_⟩)) (by simp)
      · repeat (first | refine g_op rfl ?_ | refine g_then ?_ | refine g_nil ?_ | refine g_open ?_)
        exact g_done (by repeat (first | exact trivial | refine ⟨rfl, ?_⟩)) (by simp)
    · repeat (first | refine g_op rfl ?_ | refine g_then ?_ | refine g_nil ?_ | refine g_pass rfl ?_ | refine g_passU rfl ?_)
      exact g_done (by repeat (first | exact trivial | refine ⟨rfl, ?_⟩)) (by simp)
  generalize e2 : (b1 || (!sa && !noVal x.a)) = b2
  repeat (refine g_op rfl ?_)
  refine g_joinTo 47 (.bool (b2 || (!sb && !noVal x.b))) ?_ ?_
  · cases b2
    · repeat (first | refine g_op rfl ?_ | refine g_open ?_)
      generalize (!sb) = nb
      cases nb
      · repeat (first | refine g_op rfl ?_ | refine g_then ?_ | refine g_nil ?_ | refine g_open ?_ | refine g_pass rfl ?_)
        exact g_done (by repeat (first | exact trivial | refine ⟨rfl, ?_⟩)) (by simp)
      · repeat (first | refine g_op rfl ?_ | refine g_then ?_ | refine g_nil ?_ | refine g_open ?_)
        exact g_done (by repeat (first | exact trivial | refine ⟨rfl, ?_⟩)) (by simp)
    · repeat (first | refine g_op rfl ?_ | refine g_then ?_ | refine g_nil ?_ | refine g_pass rfl ?_ | refine g_passU rfl ?_)
      exact g_done (by repeat (first | exact trivial | refine ⟨rfl, ?_⟩)) (by simp)
  generalize e3 : (b2 || (!sb && !noVal x.b)) = b3
  repeat (refine g_op rfl ?_)
  refine g_joinTo 62 (.bool (b3 || (!c && (!decide (x.fn = 0) || decide (0 < (vn : Int)))))) ?_ ?_
  · cases b3
    · repeat (first | refine g_op rfl ?_ | refine g_open ?_)
      generalize (!c) = nc
      cases nc
      · repeat (first | refine g_op rfl ?_ | refine g_then ?_ | refine g_nil ?_ | refine g_open ?_ | refine g_pass rfl ?_ | refine g_passU rfl ?_)
        exact g_done (by repeat (first | exact trivial | refine ⟨rfl, ?_⟩)) (by simp)
      · repeat (first | refine g_op rfl ?_ | refine g_open ?_)
        generalize e4 : (!decide (x.fn = 0)) = b4
        cases b4
        · repeat (first | refine g_op rfl ?_ | refine g_then ?_ | refine g_nil ?_ | refine g_open ?_)
          exact g_done (by repeat (first | exact trivial | refine ⟨rfl, ?_⟩)) (by simp)
        · repeat (first | refine g_op rfl ?_ | refine g_then ?_ | refine g_nil ?_ | refine g_open ?_ | refine g_pass rfl ?_)
          exact g_done (by repeat (first | exact trivial | refine ⟨rfl, ?_⟩)) (by simp)
    · repeat (first | refine g_op rfl ?_ | refine g_then ?_ | refine g_nil ?_ | refine g_pass rfl ?_ | refine g_passU rfl ?_)
      exact g_done (by repeat (first | exact trivial | refine ⟨rfl, ?_⟩)) (by simp)
  have hst : strayB x = (b3 || (!c && (!decide (x.fn = 0) || decide (0 < (vn : Int))))) := by
    subst e3 e2 e1 hns
    simp only [strayB, hsd, hsa, hsb, h20, hvn]
  rw [← hst]
  repeat (first | refine g_then ?_ | refine g_nil ?_)
  refine g_cond (fun h2 => ?_) (fun h2 => ?_)
  · repeat (first | refine g_then ?_ | refine g_nil ?_ | refine g_region ?_ | refine g_seq ?_ | refine g_opS rfl ?_ | refine g_ret ?_ | refine g_thenRet ?_)
    exact g_retV rfl (by simp only [insErr, hw1, h2]; rfl)
  repeat (first | refine g_op rfl ?_ | refine g_then ?_ | refine g_region ?_ | refine g_seq ?_ | refine g_skip ?_)
  refine g_joinTo 73 (.bool (sd && !(c && decide (x.dst = -1)))) ?_ ?_
  · cases sd
    · repeat (first | refine g_op rfl ?_ | refine g_then ?_ | refine g_nil ?_ | refine g_pass rfl ?_ | refine g_passU rfl ?_)
      exact g_done (by repeat (first | exact trivial | refine ⟨rfl, ?_⟩)) (by simp)
    · repeat (first | refine g_op rfl ?_ | refine g_open ?_)
      cases c
      · repeat (first | refine g_op rfl ?_ | refine g_then ?_ | refine g_nil ?_ | refine g_open ?_ | refine g_pass rfl ?_)
        exact g_done (by repeat (first | exact trivial | refine ⟨rfl, ?_⟩)) (by simp)
      · repeat (first | refine g_op rfl ?_ | refine g_then ?_ | refine g_nil ?_ | refine g_open ?_)
        exact g_done (by repeat (first | exact trivial | refine ⟨rfl, ?_⟩)) (by simp)
  have rest : ((sd && !(c && decide (x.dst = -1))) && !decide (dstErr regs x.dst = 0)) = false → insErr fl regs x = (firstI (at0 [⟨130, [.pointer (some ⟨p2, 0, none⟩), .pointer (some ⟨p3, 0, none⟩)], valErr regs x.a⟩, ⟨131, [.pointer (some ⟨p2, 0, none⟩), .pointer (some ⟨p3, 0, none⟩)], valErr regs x.b⟩, ⟨132, [.pointer (some ⟨p6, 0, none⟩), .pointer (some ⟨p3, 0, none⟩), .pointer (some ⟨p2, 0, none⟩)], callErr fl regs x⟩] (fun y : Clos => y.err)) 3).1 := by
    intro h
    simp only [insErr, hw1, h2, hsd, h20, h, Bool.not_true]
    have e : ∀ a b c : Int, (firstI (fun i => ([a, b, c] : List Int)[i]?.getD 0) 3).1 = if a ≠ 0 then a else if b ≠ 0 then b else c := by
      intro a b c
      by_cases ha : a = 0
      · by_cases hb : b = 0
        · by_cases hc : c = 0
          · rw [firstI_none (fun j hj => by match j, hj with | 0, _ => exact ha | 1, _ => exact hb | 2, _ => exact hc)]
            simp [ha, hb, hc]
          · rw [firstI_hit (i := 2) (fun j hj => by match j, hj with | 0, _ => exact ha | 1, _ => exact hb) (by omega) hc]
            simp [ha, hb]
        · rw [firstI_hit (i := 1) (fun j hj => by match j, hj with | 0, _ => exact ha) (by omega) hb]
          simp [ha, hb]
      · rw [firstI_hit (i := 0) (fun j hj => by omega) (by omega) ha]
        simp [ha]
    have e2 : (at0 [(⟨130, [.pointer (some ⟨p2, 0, none⟩), .pointer (some ⟨p3, 0, none⟩)], valErr regs x.a⟩ : Clos), ⟨131, [.pointer (some ⟨p2, 0, none⟩), .pointer (some ⟨p3, 0, none⟩)], valErr regs x.b⟩, ⟨132, [.pointer (some ⟨p6, 0, none⟩), .pointer (some ⟨p3, 0, none⟩), .pointer (some ⟨p2, 0, none⟩)], callErr fl regs x⟩] (fun y : Clos => y.err)) = fun i => ([valErr regs x.a, valErr regs x.b, callErr fl regs x] : List Int)[i]?.getD 0 := by
      funext i
      match i with
      | 0 => rfl
      | 1 => rfl
      | 2 => rfl
      | i + 3 => rfl
    rw [e2, e]
    rfl
  have tail : ((sd && !(c && decide (x.dst = -1))) && !decide (dstErr regs x.dst = 0)) = false → ∀ w, Wd NoS w0 [Ent.box p6 [.bool c] 4, Ent.box p5 [.bool sd, .bool sa, .bool sb] 164, Ent.box p3 [.int .i64 x.op, .int .i64 x.dst, .bool x.a.reg, .int .i64 x.a.n, .bool x.b.reg, .int .i64 x.b.n, .int .i64 x.fn, .slice va vn vc] 114, Ent.box p2 [g, fs, nm, pa, .int .i64 regs, bs, ah] 87] w →
      ∀ v, SlAt w v 1 [(⟨130, [.pointer (some ⟨p2, 0, none⟩), .pointer (some ⟨p3, 0, none⟩)], valErr regs x.a⟩ : Clos), ⟨131, [.pointer (some ⟨p2, 0, none⟩), .pointer (some ⟨p3, 0, none⟩)], valErr regs x.b⟩, ⟨132, [.pointer (some ⟨p6, 0, none⟩), .pointer (some ⟨p3, 0, none⟩), .pointer (some ⟨p2, 0, none⟩)], callErr fl regs x⟩] ClosV → RetV Tryd.prog 129 [v] w (.int .i64 (insErr fl regs x)) := by
    intro h w hw v hsl
    rw [rest h]
    refine first_c v _ w hsl ?_ ?_
    · intro y hy
      simp only [List.mem_cons, List.not_mem_nil, or_false] at hy
      rcases hy with rfl | rfl | rfl <;> exact inferInstance
    · intro y hy w1 hw1
      simp only [List.mem_cons, List.not_mem_nil, or_false] at hy
      rcases hy with rfl | rfl | rfl
      · exact insOne_c _ _ _ _ _ _ regs hr x _ p2 p3 w1 ((hw.boxCells p2).keep hw1) ((hw.boxCells p3).keep hw1)
      · exact insTwo_c _ _ _ _ _ _ regs hr x _ p2 p3 w1 ((hw.boxCells p2).keep hw1) ((hw.boxCells p3).keep hw1)
      · exact insThree_c _ _ _ _ _ _ fl hfs regs hr x hfn _ p2 p3 p6 w1 ((hw.boxCells p2).keep hw1) ((hw.boxCells p3).keep hw1) (by rw [h20]; exact (hw.boxCells p6).keep hw1) (hf.keep keeps_func (hw.chg.trans hw1)) (hv0.keep keeps_val (hw.chg.trans hw1))
  have go : ∀ w (pv : Nat), Wd NoS w0 [Ent.vec (some ⟨pv, 0, none⟩) 3 3 89 1 [.func (.func 130) #[] #[.pointer (some ⟨p2, 0, none⟩), .pointer (some ⟨p3, 0, none⟩)], .func (.func 131) #[] #[.pointer (some ⟨p2, 0, none⟩), .pointer (some ⟨p3, 0, none⟩)], .func (.func 132) #[] #[.pointer (some ⟨p6, 0, none⟩), .pointer (some ⟨p3, 0, none⟩), .pointer (some ⟨p2, 0, none⟩)]],
      Ent.box p6 [.bool c] 4, Ent.box p5 [.bool sd, .bool sa, .bool sb] 164, Ent.box p3 [.int .i64 x.op, .int .i64 x.dst, .bool x.a.reg, .int .i64 x.a.n, .bool x.b.reg, .int .i64 x.b.n, .int .i64 x.fn, .slice va vn vc] 114, Ent.box p2 [g, fs, nm, pa, .int .i64 regs, bs, ah] 87] w →
      ((sd && !(c && decide (x.dst = -1))) && !decide (dstErr regs x.dst = 0)) = false → RetV Tryd.prog 129 [.slice (some ⟨pv, 0, none⟩) 3 3] w (.int .i64 (insErr fl regs x)) := by
    intro w pv hw h
    refine tail h w (hw.sub (List.sublist_cons_self _ _)) _ ?_
    refine hw.slAt (k := 0) rfl rfl (by omega) fun i y hy => ?_
    match i, hy with
    | 0, hy => simp only [List.getElem?_cons_zero, Option.some.injEq] at hy; subst hy; exact ⟨_, fun j v hj => by match j, hj with | 0, hj => exact hj, rfl⟩
    | 1, hy => simp only [List.getElem?_cons_succ, List.getElem?_cons_zero, Option.some.injEq] at hy; subst hy; exact ⟨_, fun j v hj => by match j, hj with | 0, hj => exact hj, rfl⟩
    | 2, hy => simp only [List.getElem?_cons_succ, List.getElem?_cons_zero, Option.some.injEq] at hy; subst hy; exact ⟨_, fun j v hj => by match j, hj with | 0, hj => exact hj, rfl⟩
  repeat (first | refine g_then ?_ | refine g_nil ?_)
  refine g_cond (fun h3 => ?_) (fun h3 => ?_)
  · repeat (first | refine g_op rfl ?_ | refine g_region ?_ | refine g_seq ?_)
    refine g_callV rfl (fun w _ => dst_c _ _ _ _ _ _ regs hr _ w) ?_
    repeat (first | refine g_op rfl ?_ | refine g_then ?_ | refine g_nil ?_ | refine g_region ?_ | refine g_seq ?_)
    refine g_cond (fun h4 => ?_) (fun h4 => ?_)
    · repeat (first | refine g_op rfl ?_ | refine g_then ?_ | refine g_nil ?_ | refine g_region ?_ | refine g_seq ?_ | refine g_opS rfl ?_ | refine g_ret ?_ | refine g_thenRet ?_)
      refine g_retV rfl ?_
      simp only [insErr, hw1, h2, hsd, h20, h3, h4, Bool.not_true, Bool.true_and]
      rfl
    · repeat (first | refine g_op rfl ?_ | refine g_then ?_ | refine g_region ?_ | refine g_seq ?_ | refine g_skip ?_ | refine g_buildN rfl rfl fun _ _ => ?_)
      refine g_callV rfl (fun w hw => go w _ hw (by simp only [h3, h4, Bool.true_and])) ?_
      repeat (first | refine g_then ?_ | refine g_nil ?_ | refine g_opS rfl ?_ | refine g_ret ?_)
      exact g_retV rfl rfl
  · repeat (first | refine g_op rfl ?_ | refine g_then ?_ | refine g_region ?_ | refine g_seq ?_ | refine g_skip ?_ | refine g_buildN rfl rfl fun _ _ => ?_)
    refine g_callV rfl (fun w hw => go w _ hw (by simp only [h3, Bool.false_and])) ?_
    repeat (first | refine g_then ?_ | refine g_nil ?_ | refine g_opS rfl ?_ | refine g_ret ?_)
    exact g_retV rfl rfl
end Go.Proofs.YtebajiafdkokjaaDoor

/- The checker's head and body. What each returns. -/
namespace Go.Proofs.YtebajiafdkokjaaDoor
open Go Go.RowKit
attribute [local irreducible] wpListIn Code.wpIn Exit.then Exit.inBlock bodyPost wpQuiet wpAnyIn
set_option maxHeartbeats 2000000

def lightF (f : LFunc) : Prop := f.blocks.length ≤ 24 ∧ sizeOfBs f.blocks ≤ 120
theorem sizeTo_succ {l : List LBlock} {i : Nat} {x : LBlock} (h : l[i]? = some x) : sizeTo l (i + 1) = sizeTo l i + ((x.phis.length + x.list.length : Nat) : Int) := by
  simp [sizeTo, List.take_add_one, h, List.sum_append]
theorem sizeTo_all (l : List LBlock) : sizeTo l l.length = sizeOfBs l := by simp [sizeTo, sizeOfBs]
theorem sizeTo_mono (l : List LBlock) (i : Nat) : 0 ≤ sizeTo l i ∧ sizeTo l i ≤ sizeOfBs l := by
  have hnn : ∀ m : List LBlock, 0 ≤ (m.map fun b => ((b.phis.length + b.list.length : Nat) : Int)).sum := by
    intro m
    induction m with
    | nil => simp
    | cons x m ih => simp only [List.map_cons, List.sum_cons]; omega
  refine ⟨hnn _, ?_⟩
  have : sizeOfBs l = sizeTo l i + ((l.drop i).map fun b => ((b.phis.length + b.list.length : Nat) : Int)).sum := by
    rw [sizeOfBs, sizeTo, ← List.sum_append, ← List.map_append, List.take_append_drop]
  have := hnn (l.drop i)
  omega
theorem endE_ok {n : Nat} {regs kind : Int} {on : LVal} {to : List Int} (h : endE n regs kind on to = 0) : toOk n to := by
  unfold endE at h
  by_cases h1 : within kind 1 3 = true
  · simp only [h1, Bool.not_true] at h
    by_cases h2 : (to.length : Int) ≠ kind - 1
    · rw [if_pos h2] at h; cases h
    · rw [if_neg h2] at h
      have hk : 1 ≤ kind ∧ kind ≤ 3 := by simpa [within] using h1
      refine ⟨by omega, fun t ht => ?_⟩
      by_cases h3 : (to.any fun t => !within t 1 (n - 1)) = true
      · simp only [h3] at h; cases h
      · have := fun hh => h3 (List.any_eq_true.2 ⟨t, ht, hh⟩)
        simp [within] at this
        omega
  · have h1 : within kind 1 3 = false := by simpa using h1
    simp only [h1] at h; cases h

theorem head_c (g fs ah : Value) (f : LFunc) (hf : lightF f) (bs nv : Value) (nl : List ByteArray) (w0 : World) (hbs : SlAt w0 bs 6 f.blocks BlockV) (hnv : SlAt w0 nv 1 nl StrV) :
    RetV Tryd.prog 60 [.agg #[g, fs, .string f.name, .int .i64 f.params, .int .i64 f.regs, bs, ah], nv] w0 (.int .i64 (headErr nl f)) := by
  obtain ⟨ba, n, bc, bb, bo', rfl, hn, hnc, hnb, hbc, hba, hel⟩ := hbs
  refine ret_enter Tryd.func60 rfl Tryd.ntmps60 rfl (Wd.nil NoS w0) ?_
  repeat (first | refine g_op rfl ?_ | refine g_then ?_ | refine g_nil ?_ | refine g_region ?_ | refine g_seq ?_ | refine g_box rfl fun _ _ => ?_ | refine g_block ?_)
  rename_i p2 _
  have h24 := hf.1
  have h120 := hf.2
  refine g_loop (fun (i : Nat) => i ≤ n) (fun i => [(12, .int .i64 i), (5, .int .i64 (sizeTo f.blocks i)), (10, .slice ba n bc), (11, .int .i64 n), (2, .pointer (some ⟨p2, 0, none⟩)), (1, nv)]) (fun _ => [Ent.box p2 [g, fs, .string f.name, .int .i64 f.params, .int .i64 f.regs, .slice ba n bc, ah] 87]) (fun i => n - i) 0 (Nat.zero_le _) (g_done (by repeat (first | exact trivial | refine ⟨rfl, ?_⟩)) (by simp)) fun i hi => ?_
  repeat (first | refine g_op rfl ?_ | refine g_then ?_ | refine g_nil ?_ | refine g_region ?_ | refine g_seq ?_)
  refine g_cond (fun h1 => ?_) (fun h1 => ?_)
  · have hlt : i < n := by simpa using h1
    obtain ⟨B, hB⟩ := get_lt hn hlt
    have had : AddrIs ba bb bo' := ⟨hba (ne_of_get hB)⟩
    have hli : LtIs i n := ⟨hlt⟩
    obtain ⟨cs, hcs, pv, lv, tv, rfl, _, _, hphis, hlist, ht⟩ := hel i B hB
    obtain ⟨pa', pn, pc, _, _, rfl, hpn, _, hpnb, _⟩ := hphis
    obtain ⟨la, ln, lc, _, _, rfl, hln, _, hlnb, _⟩ := hlist
    obtain ⟨ta, tn, tc, tb, to', rfl, htn, htnc, htnb, htc, hta, htel⟩ := ht
    have hci : CellsIs w0 bb (bo' + i * 6) _ := ⟨hcs⟩
    have hs1 := sizeTo_succ hB
    have hm1 := sizeTo_mono f.blocks i
    have hm2 := sizeTo_mono f.blocks (i + 1)
    repeat (first | refine g_op rfl ?_ | refine g_then ?_ | refine g_nil ?_ | refine g_region ?_ | refine g_seq ?_ | refine g_opS rfl ?_ | refine g_alloc rfl fun _ _ => ?_ | refine g_storeAgg ?_ | refine g_inBlock ?_ | refine g_block ?_ | refine g_skip ?_ | refine g_add rfl (by omega) (by omega) ?_)
    refine g_next (i + 1) hlt (by omega) ?_ (List.Sublist.cons _ (List.Sublist.refl _))
    rw [hs1, ← hpn, ← hln, Int.natCast_add]
    exact (by repeat (first | exact trivial | refine ⟨rfl, ?_⟩))
  · have hge : i = n := by have := h1; simp at this; omega
    have hsz : sizeTo f.blocks i = sizeOfBs f.blocks := by rw [hge, hn, sizeTo_all]
    rw [hsz]
    repeat (first | refine g_op rfl ?_ | refine g_then ?_ | refine g_region ?_ | refine g_seq ?_ | refine g_block ?_ | refine g_exit ?_ | refine g_thenExit ?_ | refine g_exitHere ?_)
    refine g_callV rfl (fun w _ => name_c _ w) ?_
    repeat (first | refine g_op rfl ?_ | refine g_then ?_ | refine g_nil ?_)
    refine g_cond (fun h2 => ?_) (fun h2 => ?_)
    · repeat (first | refine g_op rfl ?_ | refine g_then ?_ | refine g_nil ?_ | refine g_region ?_ | refine g_seq ?_ | refine g_ret ?_ | refine g_thenRet ?_ | refine g_blockRet ?_)
      exact g_retV rfl (by simp only [headErr, h2]; rfl)
    repeat (first | refine g_op rfl ?_ | refine g_region ?_ | refine g_seq ?_)
    refine g_callV rfl (fun w hw => containsS_c _ nl _ w (hnv.keep keeps_str hw.chg)) ?_
    repeat (first | refine g_op rfl ?_ | refine g_then ?_ | refine g_nil ?_)
    refine g_cond (fun h3 => ?_) (fun h3 => ?_)
    · repeat (first | refine g_op rfl ?_ | refine g_then ?_ | refine g_nil ?_ | refine g_region ?_ | refine g_seq ?_ | refine g_ret ?_ | refine g_thenRet ?_ | refine g_blockRet ?_)
      exact g_retV rfl (by simp only [headErr, h2, h3]; rfl)
    repeat (first | refine g_op rfl ?_ | refine g_region ?_ | refine g_seq ?_)
    refine g_callV rfl (fun w _ => within_c _ _ _ w) ?_
    repeat (refine g_op rfl ?_)
    generalize hb1 : (!within f.params 0 6) = b1
    refine g_joinTo 53 (.bool (b1 || !within f.regs f.params 100)) ?_ ?_
    · cases b1
      · repeat (first | refine g_op rfl ?_ | refine g_open ?_)
        refine g_callV rfl (fun w _ => within_c _ _ _ w) ?_
        repeat (first | refine g_op rfl ?_ | refine g_then ?_ | refine g_nil ?_ | refine g_open ?_)
        exact g_done (by repeat (first | exact trivial | refine ⟨rfl, ?_⟩)) (by simp)
      · repeat (first | refine g_op rfl ?_ | refine g_then ?_ | refine g_nil ?_ | refine g_pass rfl ?_)
        exact g_done (by repeat (first | exact trivial | refine ⟨rfl, ?_⟩)) (by simp)
    repeat (first | refine g_op rfl ?_ | refine g_then ?_ | refine g_nil ?_)
    refine g_cond (fun h4 => ?_) (fun h4 => ?_)
    · repeat (first | refine g_op rfl ?_ | refine g_then ?_ | refine g_nil ?_ | refine g_region ?_ | refine g_seq ?_ | refine g_ret ?_ | refine g_thenRet ?_ | refine g_blockRet ?_)
      exact g_retV rfl (by simp only [headErr, h2, h3, hb1, h4]; rfl)
    repeat (first | refine g_op rfl ?_ | refine g_region ?_ | refine g_seq ?_)
    refine g_callV rfl (fun w _ => within_c _ _ _ w) ?_
    repeat (refine g_op rfl ?_)
    generalize hb2 : (!within (n : Int) 1 40) = b2
    refine g_joinTo 64 (.bool (b2 || decide (300 < sizeOfBs f.blocks))) ?_ ?_
    · cases b2
      · repeat (first | refine g_op rfl ?_ | refine g_then ?_ | refine g_nil ?_ | refine g_open ?_)
        exact g_done (by repeat (first | exact trivial | refine ⟨rfl, ?_⟩)) (by simp)
      · repeat (first | refine g_op rfl ?_ | refine g_then ?_ | refine g_nil ?_ | refine g_pass rfl ?_)
        exact g_done (by repeat (first | exact trivial | refine ⟨rfl, ?_⟩)) (by simp)
    repeat (first | refine g_op rfl ?_ | refine g_then ?_ | refine g_nil ?_)
    refine g_cond (fun h5 => ?_) (fun h5 => ?_)
    · repeat (first | refine g_op rfl ?_ | refine g_then ?_ | refine g_nil ?_ | refine g_region ?_ | refine g_seq ?_ | refine g_ret ?_ | refine g_thenRet ?_ | refine g_blockRet ?_)
      exact g_retV rfl (by simp only [headErr, h2, h3, hb1, h4, ← hn, hb2, h5]; rfl)
    · repeat (first | refine g_op rfl ?_ | refine g_then ?_ | refine g_nil ?_ | refine g_region ?_ | refine g_seq ?_ | refine g_inBlock ?_ | refine g_skip ?_ | refine g_ret ?_)
      exact g_retV rfl (by simp only [headErr, h2, h3, hb1, h4, ← hn, hb2, h5]; rfl)
end Go.Proofs.YtebajiafdkokjaaDoor

/- The checker's body. What it returns. -/
namespace Go.Proofs.YtebajiafdkokjaaDoor
open Go Go.RowKit
attribute [local irreducible] wpListIn Code.wpIn Exit.then Exit.inBlock bodyPost wpQuiet wpAnyIn
set_option maxHeartbeats 2000000

theorem aheadTo_length (bs : List LBlock) : ∀ i, (aheadTo bs i).length = bs.length
  | 0 => by simp [aheadTo]
  | i + 1 => by
    have hf : ∀ (l : List Int) (rows : List (List Int)), (l.foldl (aheadIn i) rows).length = rows.length := by
      intro l
      induction l with
      | nil => intro rows; rfl
      | cons t l ih => intro rows; rw [List.foldl_cons, ih]; simp [aheadIn]
    rw [aheadTo, hf, aheadTo_length bs i]
theorem body_c (g fs ah : Value) (fl : List LFunc) (hfl : fl.length ≤ 100) (f : LFunc) (hf : lightF f) (hr : 0 ≤ f.regs ∧ f.regs ≤ 100) (bs : Value) (w0 : World) (hfs : SlAt w0 fs 4 fl FuncV) (hbs : SlAt w0 bs 6 f.blocks BlockV) (hways : CellsAt w0 0 0 waysC) (hah : ah = .slice none 0 0) :
    RetV Tryd.prog 61 [.agg #[g, fs, .string f.name, .int .i64 f.params, .int .i64 f.regs, bs, ah]] w0 (.int .i64 (bodyErr fl f)) := by
  subst hah
  have hbs0 := hbs
  obtain ⟨ba, n, bc, bb, bo', rfl, hn, hnc, hnb, hbc, hba, hel⟩ := hbs
  refine ret_enter Tryd.func61 rfl Tryd.ntmps61 rfl (Wd.nil NoS w0) ?_
  have h24 := hf.1
  repeat (first | refine g_op rfl ?_ | refine g_then ?_ | refine g_nil ?_ | refine g_region ?_ | refine g_seq ?_ | refine g_box rfl fun _ _ => ?_ | refine g_block ?_)
  rename_i p1 _
  refine g_loop (fun (i : Nat) => i ≤ n ∧ ∀ j, j < i → at0 f.blocks (endErr f.blocks.length f.regs) j = 0) (fun i => [(18, .int .i64 i), (16, .slice ba n bc), (17, .int .i64 n), (1, .pointer (some ⟨p1, 0, none⟩))]) (fun _ => [Ent.box p1 [g, fs, .string f.name, .int .i64 f.params, .int .i64 f.regs, .slice ba n bc, .slice none 0 0] 87]) (fun i => n - i) 0 ⟨Nat.zero_le _, by simp⟩ (g_done (by repeat (first | exact trivial | refine ⟨rfl, ?_⟩)) (by simp)) fun i ⟨hi, hall⟩ => ?_
  repeat (first | refine g_op rfl ?_ | refine g_then ?_ | refine g_nil ?_ | refine g_region ?_ | refine g_seq ?_)
  refine g_cond (fun h1 => ?_) (fun h1 => ?_)
  · have hlt : i < n := by simpa using h1
    obtain ⟨B, hB⟩ := get_lt hn hlt
    have had : AddrIs ba bb bo' := ⟨hba (ne_of_get hB)⟩
    have hli : LtIs i n := ⟨hlt⟩
    obtain ⟨cs, hcs, pv, lv, tv, rfl, _, _, hphis, hlist, ht⟩ := hel i B hB
    obtain ⟨pa', pn, pc, _, _, rfl, hpn, _, hpnb, _⟩ := hphis
    obtain ⟨la, ln, lc, _, _, rfl, hln, _, hlnb, _⟩ := hlist
    have ht0 := ht
    obtain ⟨ta, tn, tc, tb, to', rfl, htn, htnc, htnb, htc, hta, htel⟩ := ht
    have hci : CellsIs w0 bb (bo' + i * 6) _ := ⟨hcs⟩
    have hat : at0 f.blocks (endErr f.blocks.length f.regs) i = endE n f.regs B.kind B.on B.to := by simp [at0, hB, endErr, hn]
    repeat (first | refine g_op rfl ?_ | refine g_then ?_ | refine g_nil ?_ | refine g_region ?_ | refine g_seq ?_ | refine g_alloc rfl fun _ _ => ?_ | refine g_storeAgg ?_ | refine g_block ?_ | refine g_skip ?_)
    refine g_callV rfl (fun w hw => end_c g fs _ _ _ n bc ba (by omega) f.regs hr B.kind B.on B.to _ w (ht0.keep keeps_int hw.chg) (hways.keep hw.chg)) ?_
    repeat (first | refine g_op rfl ?_ | refine g_then ?_ | refine g_nil ?_ | refine g_region ?_ | refine g_seq ?_)
    refine g_cond (fun h2 => ?_) (fun h2 => ?_)
    · repeat (first | refine g_op rfl ?_ | refine g_then ?_ | refine g_nil ?_ | refine g_region ?_ | refine g_seq ?_ | refine g_ret ?_ | refine g_thenRet ?_ | refine g_blockRet ?_)
      refine g_retV rfl ?_
      have h2' : endE n f.regs B.kind B.on B.to ≠ 0 := by simpa using h2
      rw [bodyErr, firstI_hit hall (hn ▸ hlt) (by rw [hat]; exact h2'), if_pos (by rw [hat]; exact h2'), hat]
    · repeat (first | refine g_then ?_ | refine g_nil ?_ | refine g_region ?_ | refine g_opS rfl ?_ | refine g_inBlock ?_ | refine g_skip ?_ | refine g_add rfl (by omega) (by omega) ?_)
      refine g_next (i + 1) ⟨hlt, fun j hj => ?_⟩ (by omega) (by repeat (first | exact trivial | refine ⟨rfl, ?_⟩)) (List.Sublist.cons _ (List.Sublist.refl _))
      by_cases hji : j = i
      · subst hji; rw [hat]; simpa using h2
      · exact hall j (by omega)
  have hge : i = n := by have := h1; simp at this; omega
  rw [hge] at hall
  have hgo : bodyErr fl f = (firstI (blockErr fl f) f.blocks.length).1 := by rw [bodyErr, ← hn, firstI_none (hn ▸ hall)]; rfl
  rw [hgo]
  have hto : ∀ b ∈ f.blocks, toOk f.blocks.length b.to := by
    intro b hb
    obtain ⟨j, hj⟩ := List.getElem?_of_mem hb
    have hjl : j < n := by rw [hn]; exact (List.getElem?_eq_some_iff.1 hj).1
    have := hall j hjl
    simp only [at0, hj] at this
    exact endE_ok this
  repeat (first | refine g_op rfl ?_ | refine g_then ?_ | refine g_region ?_ | refine g_seq ?_ | refine g_exit ?_ | refine g_thenExit ?_ | refine g_exitHere ?_)
  refine g_callE (val := fun x : (Option Addr × Nat × Nat) × (Nat → Prop) => .slice x.1.1 x.1.2.1 x.1.2.2) (E := fun x => [⟨x.2, fun w => SlAt w (.slice x.1.1 x.1.2.1 x.1.2.2) 1 (aheadL f.blocks) RowV⟩]) (φ := fun _ => True) rfl (fun w hw => ahead_c _ _ _ f.blocks _ w (hbs0.keep keeps_block hw.chg) (by omega) hto) fun x _ => ?_
  obtain ⟨⟨xa, xn, xc⟩, fp⟩ := x
  simp only [List.cons_append, List.nil_append]
  repeat (first | refine g_op rfl ?_ | refine g_then ?_ | refine g_nil ?_ | refine g_region ?_ | refine g_seq ?_ | refine g_store ?_ | refine g_block ?_)
  refine g_loop (fun (i : Nat) => i ≤ n ∧ ∀ j, j < i → blockErr fl f j = 0) (fun i => [(38, .int .i64 i), (36, .slice ba n bc), (37, .int .i64 n), (1, .pointer (some ⟨p1, 0, none⟩))]) (fun _ => [⟨fp, fun w => SlAt w (.slice xa xn xc) 1 (aheadL f.blocks) RowV⟩, Ent.box p1 [g, fs, .string f.name, .int .i64 f.params, .int .i64 f.regs, .slice ba n bc, .slice xa xn xc] 87]) (fun i => n - i) 0 ⟨Nat.zero_le _, by simp⟩ (g_done (by repeat (first | exact trivial | refine ⟨rfl, ?_⟩)) (by simp)) fun i ⟨hi, hall2⟩ => ?_
  repeat (first | refine g_op rfl ?_ | refine g_then ?_ | refine g_nil ?_ | refine g_region ?_ | refine g_seq ?_)
  refine g_cond (fun h1 => ?_) (fun h1 => ?_)
  · have hlt : i < n := by simpa using h1
    obtain ⟨B, hB⟩ := get_lt hn hlt
    have had : AddrIs ba bb bo' := ⟨hba (ne_of_get hB)⟩
    have hli : LtIs i n := ⟨hlt⟩
    obtain ⟨cs, hcs, pv, lv, tv, rfl, _, _, hphis, hlist, ht⟩ := hel i B hB
    obtain ⟨pa', pn, pc, pb, po, rfl, hpn, _, hpnb, hpc, hpa, hpel⟩ := hphis
    obtain ⟨la, ln, lc, lb, lo, rfl, hln, _, hlnb, hlc, hla, hlel⟩ := hlist
    obtain ⟨ta, tn, tc, tb, to', rfl, htn, htnc, htnb, htc, hta, htel⟩ := ht
    have hci : CellsIs w0 bb (bo' + i * 6) _ := ⟨hcs⟩
    have hbe : blockErr fl f i = if (firstI (at0 B.phis (phiErr f.regs f.blocks i)) B.phis.length).1 ≠ 0 then (firstI (at0 B.phis (phiErr f.regs f.blocks i)) B.phis.length).1 else (firstI (at0 B.list (insErr fl f.regs)) B.list.length).1 := by simp [blockErr, hB]
    have hrow : ∃ row, (aheadL f.blocks)[i]? = some row := ⟨_, List.getElem?_eq_getElem (by rw [aheadL, aheadTo_length]; omega)⟩
    obtain ⟨row, hrow⟩ := hrow
    have hfail : ∀ c : Int, c ≠ 0 → blockErr fl f i = c → Value.int .i64 c = .int .i64 (firstI (blockErr fl f) f.blocks.length).1 := by
      intro c hc hb
      rw [firstI_hit hall2 (hn ▸ hlt) (by rw [hb]; exact hc), hb]
    repeat (first | refine g_op rfl ?_ | refine g_then ?_ | refine g_nil ?_ | refine g_region ?_ | refine g_seq ?_ | refine g_alloc rfl fun _ _ => ?_ | refine g_storeAgg ?_ | refine g_block ?_ | refine g_skip ?_)
    rename_i p7 _
    refine g_loop (fun (j : Nat) => j ≤ pn ∧ ∀ k, k < j → at0 B.phis (phiErr f.regs f.blocks i) k = 0) (fun j => [(46, .int .i64 j), (44, .slice pa' pn pc), (45, .int .i64 pn), (6, .int .i64 i), (7, .pointer (some ⟨p7, 0, none⟩)), (38, .int .i64 i), (36, .slice ba n bc), (37, .int .i64 n), (1, .pointer (some ⟨p1, 0, none⟩))])
      (fun _ => [Ent.box p7 [.slice pa' pn pc, .slice la ln lc, .int .i64 B.kind, .bool B.on.reg, .int .i64 B.on.n, .slice ta tn tc] 65, ⟨fp, fun w => SlAt w (.slice xa xn xc) 1 (aheadL f.blocks) RowV⟩, Ent.box p1 [g, fs, .string f.name, .int .i64 f.params, .int .i64 f.regs, .slice ba n bc, .slice xa xn xc] 87]) (fun j => pn - j) 0 ⟨Nat.zero_le _, by simp⟩ (g_done (by repeat (first | exact trivial | refine ⟨rfl, ?_⟩)) (by simp)) fun j ⟨hj, hall3⟩ => ?_
    repeat (first | refine g_op rfl ?_ | refine g_then ?_ | refine g_nil ?_ | refine g_region ?_ | refine g_seq ?_)
    refine g_cond (fun h2 => ?_) (fun h2 => ?_)
    · have hjlt : j < pn := by simpa using h2
      obtain ⟨p, hp⟩ := get_lt hpn hjlt
      have had2 : AddrIs pa' pb po := ⟨hpa (ne_of_get hp)⟩
      have hli2 : LtIs j pn := ⟨hjlt⟩
      obtain ⟨cs2, hcs2, sv, rfl, hpi, hsv⟩ := hpel j p hp
      have hsv0 := hsv
      obtain ⟨sa, sn, sc, _, _, rfl, _⟩ := hsv
      have hci2 : CellsIs w0 pb (po + j * 2) _ := ⟨hcs2⟩
      have hat : at0 B.phis (phiErr f.regs f.blocks i) j = phiE f.regs i row.length p := by simp [at0, hp, phiErr, hrow]
      repeat (first | refine g_op rfl ?_ | refine g_then ?_ | refine g_nil ?_ | refine g_region ?_ | refine g_seq ?_ | refine g_alloc rfl fun _ _ => ?_ | refine g_storeAgg ?_ | refine g_block ?_ | refine g_skip ?_)
      refine g_callV rfl (fun w hw => phi_c g fs _ _ _ _ f.regs hr (aheadL f.blocks) row i hrow p _ w (hw.get (k := 2) rfl) (hsv0.keep keeps_val hw.chg)) ?_
      repeat (first | refine g_op rfl ?_ | refine g_then ?_ | refine g_nil ?_ | refine g_region ?_ | refine g_seq ?_)
      refine g_cond (fun h3 => ?_) (fun h3 => ?_)
      · repeat (first | refine g_op rfl ?_ | refine g_then ?_ | refine g_nil ?_ | refine g_region ?_ | refine g_seq ?_ | refine g_ret ?_ | refine g_thenRet ?_ | refine g_blockRet ?_)
        have h3' : phiE f.regs i row.length p ≠ 0 := by simpa using h3
        refine g_retV rfl (hfail _ h3' ?_)
        rw [hbe, firstI_hit hall3 (hpn ▸ hjlt) (by rw [hat]; exact h3'), if_pos (by rw [hat]; exact h3'), hat]
      · repeat (first | refine g_then ?_ | refine g_nil ?_ | refine g_region ?_ | refine g_opS rfl ?_ | refine g_inBlock ?_ | refine g_skip ?_ | refine g_add rfl (by omega) (by omega) ?_)
        refine g_next (j + 1) ⟨hjlt, fun k hk => ?_⟩ (by omega) (by repeat (first | exact trivial | refine ⟨rfl, ?_⟩)) (List.Sublist.cons _ (List.Sublist.refl _))
        by_cases hkj : k = j
        · subst hkj; rw [hat]; simpa using h3
        · exact hall3 k (by omega)
    have hgej : j = pn := by have := h2; simp at this; omega
    have hbe2 : blockErr fl f i = (firstI (at0 B.list (insErr fl f.regs)) B.list.length).1 := by rw [hbe, ← hpn, ← hgej, firstI_none hall3]; rfl
    repeat (first | refine g_op rfl ?_ | refine g_then ?_ | refine g_nil ?_ | refine g_region ?_ | refine g_seq ?_ | refine g_block ?_ | refine g_exit ?_ | refine g_thenExit ?_ | refine g_exitHere ?_)
    refine g_loop (fun (j : Nat) => j ≤ ln ∧ ∀ k, k < j → at0 B.list (insErr fl f.regs) k = 0) (fun j => [(61, .int .i64 j), (59, .slice la ln lc), (60, .int .i64 ln), (38, .int .i64 i), (36, .slice ba n bc), (37, .int .i64 n), (1, .pointer (some ⟨p1, 0, none⟩))])
      (fun _ => [⟨fp, fun w => SlAt w (.slice xa xn xc) 1 (aheadL f.blocks) RowV⟩, Ent.box p1 [g, fs, .string f.name, .int .i64 f.params, .int .i64 f.regs, .slice ba n bc, .slice xa xn xc] 87]) (fun j => ln - j) 0 ⟨Nat.zero_le _, by simp⟩ (g_done (by repeat (first | exact trivial | refine ⟨rfl, ?_⟩)) (List.Sublist.cons _ (List.Sublist.refl _))) fun j ⟨hj, hall4⟩ => ?_
    repeat (first | refine g_op rfl ?_ | refine g_then ?_ | refine g_nil ?_ | refine g_region ?_ | refine g_seq ?_)
    refine g_cond (fun h3 => ?_) (fun h3 => ?_)
    · have hjlt : j < ln := by simpa using h3
      obtain ⟨x, hx⟩ := get_lt hln hjlt
      have had2 : AddrIs la lb lo := ⟨hla (ne_of_get hx)⟩
      have hli2 : LtIs j ln := ⟨hjlt⟩
      obtain ⟨cs2, hcs2, av, rfl, _, _, _, _, hfn, hav⟩ := hlel j x hx
      have hav0 := hav
      obtain ⟨aa, an, ac, _, _, rfl, _⟩ := hav
      have hci2 : CellsIs w0 lb (lo + j * 8) _ := ⟨hcs2⟩
      have hat : at0 B.list (insErr fl f.regs) j = insErr fl f.regs x := by simp [at0, hx]
      repeat (first | refine g_op rfl ?_ | refine g_then ?_ | refine g_nil ?_ | refine g_region ?_ | refine g_seq ?_ | refine g_alloc rfl fun _ _ => ?_ | refine g_storeAgg ?_ | refine g_block ?_ | refine g_skip ?_)
      refine g_callV rfl (fun w hw => ins_c g fs _ _ _ _ fl hfl f.regs hr x hfn _ w (hfs.keep keeps_func hw.chg) (hav0.keep keeps_val hw.chg)) ?_
      repeat (first | refine g_op rfl ?_ | refine g_then ?_ | refine g_nil ?_ | refine g_region ?_ | refine g_seq ?_)
      refine g_cond (fun h4 => ?_) (fun h4 => ?_)
      · repeat (first | refine g_op rfl ?_ | refine g_then ?_ | refine g_nil ?_ | refine g_region ?_ | refine g_seq ?_ | refine g_ret ?_ | refine g_thenRet ?_ | refine g_blockRet ?_)
        have h4' : insErr fl f.regs x ≠ 0 := by simpa using h4
        refine g_retV rfl (hfail _ h4' ?_)
        rw [hbe2, firstI_hit hall4 (hln ▸ hjlt) (by rw [hat]; exact h4'), hat]
      · repeat (first | refine g_then ?_ | refine g_nil ?_ | refine g_region ?_ | refine g_opS rfl ?_ | refine g_inBlock ?_ | refine g_skip ?_ | refine g_add rfl (by omega) (by omega) ?_)
        refine g_next (j + 1) ⟨hjlt, fun k hk => ?_⟩ (by omega) (by repeat (first | exact trivial | refine ⟨rfl, ?_⟩)) (List.Sublist.cons _ (List.Sublist.refl _))
        by_cases hkj : k = j
        · subst hkj; rw [hat]; simpa using h4
        · exact hall4 k (by omega)
    · have hgel : j = ln := by have := h3; simp at this; omega
      have hz : blockErr fl f i = 0 := by rw [hbe2, ← hln, ← hgel, firstI_none hall4]
      repeat (first | refine g_then ?_ | refine g_nil ?_ | refine g_region ?_ | refine g_opS rfl ?_ | refine g_inBlock ?_ | refine g_add rfl (by omega) (by omega) ?_ | refine g_exit ?_ | refine g_thenExit ?_ | refine g_exitHere ?_)
      refine g_next (i + 1) ⟨hlt, fun k hk => ?_⟩ (by omega) (by repeat (first | exact trivial | refine ⟨rfl, ?_⟩)) (List.Sublist.refl _)
      by_cases hki : k = i
      · subst hki; exact hz
      · exact hall2 k (by omega)
  · have hge2 : i = n := by have := h1; simp at this; omega
    repeat (first | refine g_op rfl ?_ | refine g_then ?_ | refine g_nil ?_ | refine g_region ?_ | refine g_seq ?_ | refine g_exit ?_ | refine g_thenExit ?_ | refine g_exitHere ?_ | refine g_ret ?_)
    exact g_retV rfl (by rw [← hn, ← hge2, firstI_none hall2])
end Go.Proofs.YtebajiafdkokjaaDoor
