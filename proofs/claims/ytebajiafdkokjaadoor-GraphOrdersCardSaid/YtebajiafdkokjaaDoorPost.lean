/- The nearest block on each way to an end, as plain facts. No program in sight. -/
import Derived.Test.YtebajiafdkokjaaDoorSure
namespace Go.Proofs.YtebajiafdkokjaaDoor
open Go Go.RowKit

/-- an end in n steps, never through 'wo' -/
inductive EndIn (bl : List LBlock) (wo : Int) : Nat → Nat → Prop
  | here {x : Nat} : (x : Int) ≠ wo → kindOf bl x = 1 → EndIn bl wo 0 x
  | step {n x y : Nat} : (x : Int) ≠ wo → Edge bl x y → EndIn bl wo n y → EndIn bl wo (n + 1) x
theorem EndIn.can {bl : List LBlock} {wo : Int} {n x : Nat} (h : EndIn bl wo n x) : CanEnd bl wo x := by
  induction h with
  | here hx hk => exact canEnd_kind hx hk
  | step hx he _ ih => exact canEnd_step hx he ih
theorem CanEnd.within {bl : List LBlock} {wo : Int} {x : Nat} (h : CanEnd bl wo x) : ∃ n, EndIn bl wo n x := by
  obtain ⟨hx, y, hr, hk⟩ := h
  have key : ∀ y, Rch bl wo x y → (∃ n, EndIn bl wo n y) → ∃ n, EndIn bl wo n x := by
    intro y hr
    induction hr with
    | refl => exact id
    | step hr' he _ ih => exact fun ⟨n, hn⟩ => ih ⟨n + 1, .step (rch_ne hx hr') he hn⟩
  exact key y hr ⟨0, .here (rch_ne hx hr) hk⟩
/-- a way to an end that cannot avoid c comes to c -/
theorem EndIn.split {bl : List LBlock} {wo : Int} {n x c : Nat} (h : EndIn bl wo n x) (hc : ¬ CanEnd bl c x) : ∃ m, m ≤ n ∧ EndIn bl wo m c ∧ (x ≠ c → m < n) := by
  induction h with
  | @here x hx hk =>
    by_cases e : x = c
    · subst e; exact ⟨0, Nat.le_refl _, .here hx hk, fun h => absurd rfl h⟩
    · exact absurd (canEnd_kind (by omega) hk) hc
  | @step n x y hx he hy ih =>
    by_cases e : x = c
    · subst e; exact ⟨n + 1, Nat.le_refl _, .step hx he hy, fun h => absurd rfl h⟩
    · obtain ⟨m, h1, h2, _⟩ := ih fun hy => hc (canEnd_step (by omega) he hy)
      exact ⟨m, by omega, h2, fun _ => by omega⟩
theorem Sure.rfl' {bl : List LBlock} {b : Nat} (h : CanEnd bl (-1) b) : Sure bl b b := ⟨h, fun h => h.1 rfl⟩
theorem Sure.to_end {bl : List LBlock} {b c : Nat} (h : Sure bl b c) : CanEnd bl (-1) c := by
  obtain ⟨n, hn⟩ := h.1.within
  obtain ⟨m, _, hm, _⟩ := hn.split h.2
  exact hm.can
theorem Sure.trans {bl : List LBlock} {b c d : Nat} (h : Sure bl b c) (k : Sure bl c d) : Sure bl b d := by
  refine ⟨h.1, fun hd => ?_⟩
  obtain ⟨n, hn⟩ := hd.within
  obtain ⟨m, _, hm, _⟩ := hn.split h.2
  exact k.2 hm.can
theorem Sure.antisymm {bl : List LBlock} {b c : Nat} (h : Sure bl b c) (k : Sure bl c b) : b = c := by
  refine Classical.byContradiction fun hne => ?_
  have key : ∀ n, ∀ m, m ≤ n → ¬ EndIn bl (-1) m b ∧ ¬ EndIn bl (-1) m c := by
    intro n
    induction n with
    | zero =>
      intro m hm
      constructor
      · intro hb
        obtain ⟨m', _, _, h3⟩ := hb.split h.2
        have := h3 hne; omega
      · intro hc
        obtain ⟨m', _, _, h3⟩ := hc.split k.2
        have := h3 (Ne.symm hne); omega
    | succ n ih =>
      intro m hm
      constructor
      · intro hb
        obtain ⟨m', _, h2, h3⟩ := hb.split h.2
        have := h3 hne
        exact (ih m' (by omega)).2 h2
      · intro hc
        obtain ⟨m', _, h2, h3⟩ := hc.split k.2
        have := h3 (Ne.symm hne)
        exact (ih m' (by omega)).1 h2
  obtain ⟨n, hn⟩ := h.1.within
  exact (key n n (Nat.le_refl _)).1 hn
theorem Sure.chain {bl : List LBlock} {b c d : Nat} (h : Sure bl b c) (k : Sure bl b d) : Sure bl c d ∨ Sure bl d c := by
  refine Classical.byContradiction fun hno => ?_
  have h1 : CanEnd bl d c := Classical.byContradiction fun x => hno (.inl ⟨h.to_end, x⟩)
  have h2 : CanEnd bl c d := Classical.byContradiction fun x => hno (.inr ⟨k.to_end, x⟩)
  have key : ∀ n x, EndIn bl (-1) n x → CanEnd bl d x ∨ CanEnd bl c x := by
    intro n x hx
    induction hx with
    | @here x _ hk =>
      by_cases e : x = d
      · subst e; exact .inr h2
      · exact .inl (canEnd_kind (by omega) hk)
    | @step n x y _ he _ ih =>
      by_cases e : x = c
      · subst e; exact .inl h1
      · by_cases e2 : x = d
        · subst e2; exact .inr h2
        · rcases ih with ih | ih
          · exact .inl (canEnd_step (by omega) he ih)
          · exact .inr (canEnd_step (by omega) he ih)
  obtain ⟨n, hn⟩ := h.1.within
  exact (key n b hn).elim k.2 h.2

/-- among the blocks below m: the one that is met first, or none -/
def Best (bl : List LBlock) (b m : Nat) (z : Int) : Prop := (z = -1 ∧ ∀ c, c < m → c ≠ b → ¬ Sure bl b c) ∨ ∃ p : Nat, p < m ∧ z = p ∧ p ≠ b ∧ Sure bl b p ∧ ∀ c, c < m → c ≠ b → Sure bl b c → Sure bl p c
theorem best_zero (bl : List LBlock) (b : Nat) : Best bl b 0 (-1) := .inl ⟨rfl, fun c hc => by omega⟩
theorem best_take {bl : List LBlock} {b m : Nat} {z : Int} (h : Best bl b m z) (hm : m ≠ b) (hs : Sure bl b m) (hz : z < 0 ∨ ∃ p : Nat, z = p ∧ Sure bl m p) : Best bl b (m + 1) m := by
  refine .inr ⟨m, by omega, rfl, hm, hs, fun c hc hcb hsc => ?_⟩
  by_cases e : c = m
  · subst e; exact Sure.rfl' hs.to_end
  · rcases h with ⟨_, h⟩ | ⟨p, hp, rfl, hpb, hsp, hall⟩
    · exact absurd hsc (h c (by omega) hcb)
    · rcases hz with hz | ⟨q, hq, hmq⟩
      · omega
      · have : p = q := by omega
        subst this
        exact hmq.trans (hall c (by omega) hcb hsc)
theorem best_stay {bl : List LBlock} {b m : Nat} {z : Int} (h : Best bl b m z) (hn : m = b ∨ ¬ Sure bl b m ∨ ∃ p : Nat, z = p ∧ ¬ Sure bl m p) : Best bl b (m + 1) z := by
  rcases h with ⟨rfl, h⟩ | ⟨p, hp, rfl, hpb, hsp, hall⟩
  · refine .inl ⟨rfl, fun c hc hcb hsc => ?_⟩
    by_cases e : c = m
    · subst e
      rcases hn with hn | hn | ⟨p, hp, _⟩
      · exact hcb hn
      · exact hn hsc
      · omega
    · exact h c (by omega) hcb hsc
  · refine .inr ⟨p, by omega, rfl, hpb, hsp, fun c hc hcb hsc => ?_⟩
    by_cases e : c = m
    · subst e
      rcases hn with hn | hn | ⟨q, hq, hn⟩
      · exact absurd hn hcb
      · exact absurd hsc hn
      · have : p = q := by omega
        subst this
        exact (hsp.chain hsc).elim id fun h => absurd h hn
    · exact hall c (by omega) hcb hsc
theorem best_ex (bl : List LBlock) (b : Nat) : ∀ m, ∃ z, Best bl b m z
  | 0 => ⟨-1, best_zero bl b⟩
  | m + 1 => by
    obtain ⟨z, hz⟩ := best_ex bl b m
    by_cases h1 : m = b
    · exact ⟨z, best_stay hz (.inl h1)⟩
    by_cases h2 : Sure bl b m
    · by_cases h3 : ∃ p : Nat, z = p ∧ ¬ Sure bl m p
      · exact ⟨z, best_stay hz (.inr (.inr h3))⟩
      · refine ⟨m, best_take hz h1 h2 ?_⟩
        rcases hz with ⟨rfl, _⟩ | ⟨p, _, rfl, _⟩
        · exact .inl (by omega)
        · exact .inr ⟨p, rfl, Classical.byContradiction fun h => h3 ⟨p, rfl, h⟩⟩
    · exact ⟨z, best_stay hz (.inr (.inl h2))⟩
theorem best_unique {bl : List LBlock} {b m : Nat} {z y : Int} (h : Best bl b m z) (k : Best bl b m y) : z = y := by
  rcases h with ⟨rfl, h⟩ | ⟨p, hp, rfl, hpb, hsp, hall⟩
  · rcases k with ⟨rfl, _⟩ | ⟨q, hq, rfl, hqb, hsq, _⟩
    · rfl
    · exact absurd hsq (h q hq hqb)
  · rcases k with ⟨rfl, k⟩ | ⟨q, hq, rfl, hqb, hsq, hallq⟩
    · exact absurd hsp (k p hp hpb)
    · rw [(hall q hq hqb hsq).antisymm (hallq p hp hpb hsp)]

/-! ### Told by the numbers -/
def cnt (p : Nat → Prop) [DecidablePred p] (n : Nat) : Nat := ((List.range n).filter fun c => decide (p c)).length
theorem cnt_succ (p : Nat → Prop) [DecidablePred p] (n : Nat) : cnt p (n + 1) = cnt p n + if p n then 1 else 0 := by
  unfold cnt
  rw [List.range_succ, List.filter_append, List.length_append]
  by_cases h : p n <;> simp [h]
theorem cnt_le {p q : Nat → Prop} [DecidablePred p] [DecidablePred q] : ∀ {n : Nat}, (∀ c, c < n → p c → q c) → cnt p n ≤ cnt q n
  | 0, _ => by simp [cnt]
  | n + 1, h => by
    have := cnt_le (n := n) fun c hc => h c (by omega)
    rw [cnt_succ, cnt_succ]
    have hn := h n (by omega)
    by_cases hp : p n
    · rw [if_pos hp, if_pos (hn hp)]; omega
    · rw [if_neg hp]; omega
theorem cnt_eq {p q : Nat → Prop} [DecidablePred p] [DecidablePred q] : ∀ {n : Nat}, (∀ c, c < n → p c → q c) → cnt p n = cnt q n → ∀ c, c < n → q c → p c
  | 0, _, _ => fun c hc => by omega
  | n + 1, h, he => by
    have hle := cnt_le (n := n) fun c hc => h c (by omega)
    rw [cnt_succ, cnt_succ] at he
    have hn := h n (by omega)
    intro c hc hq
    by_cases hp : p n
    · rw [if_pos hp, if_pos (hn hp)] at he
      by_cases e : c = n
      · exact e ▸ hp
      · exact cnt_eq (n := n) (fun c hc => h c (by omega)) (by omega) c (by omega) hq
    · rw [if_neg hp] at he
      by_cases hqn : q n
      · rw [if_pos hqn] at he; omega
      · rw [if_neg hqn] at he
        by_cases e : c = n
        · exact absurd (e ▸ hq) hqn
        · exact cnt_eq (n := n) (fun c hc => h c (by omega)) (by omega) c (by omega) hq
theorem cnt_one {p q : Nat → Prop} [DecidablePred p] [DecidablePred q] {b : Nat} (hb : ¬ p b) : ∀ {n : Nat}, b < n → (∀ c, c < n → (q c ↔ (p c ∨ c = b))) → cnt q n = cnt p n + 1
  | 0, h, _ => by omega
  | n + 1, hbn, h => by
    rw [cnt_succ, cnt_succ]
    by_cases e : b = n
    · subst e
      have h1 : cnt p b = cnt q b := Nat.le_antisymm (cnt_le fun c hc hp => (h c (by omega)).2 (.inl hp)) (cnt_le fun c hc hq => ((h c (by omega)).1 hq).elim id fun e => by omega)
      rw [if_pos ((h b (by omega)).2 (.inr rfl)), if_neg hb, h1]
    · rw [cnt_one hb (by omega) fun c hc => h c (by omega)]
      have hn := h n (by omega)
      by_cases hp : p n
      · rw [if_pos hp, if_pos (hn.2 (.inl hp))]
      · rw [if_neg hp, if_neg fun hq => (hn.1 hq).elim hp fun e' => e e'.symm]
open Classical in
theorem sureTo_cnt (bl : List LBlock) (b n : Nat) : (sureTo bl b n).length = cnt (Sure bl b) n := rfl
/-- by the number of those that are met: one less -/
theorem best_less {bl : List LBlock} {b x : Nat} (hb : b < bl.length) (hs : Sure bl b x) (hl : (sureTo bl x bl.length).length + 1 = (sureTo bl b bl.length).length) (hx : x < bl.length) : Best bl b bl.length x := by
  classical
  rw [sureTo_cnt, sureTo_cnt] at hl
  have hne : x ≠ b := fun e => by subst e; omega
  have h1 : cnt (Sure bl b) bl.length = cnt (fun c => Sure bl b c ∧ c ≠ b) bl.length + 1 := cnt_one (b := b) (fun h => h.2 rfl) hb fun c _ => by
    constructor
    · intro h
      by_cases e : c = b
      · exact .inr e
      · exact .inl ⟨h, e⟩
    · rintro (h | rfl)
      · exact h.1
      · exact Sure.rfl' hs.1
  have hsub : ∀ c, c < bl.length → Sure bl x c → (Sure bl b c ∧ c ≠ b) := fun c _ hc => ⟨hs.trans hc, fun e => hne (by subst e; exact hc.antisymm hs)⟩
  have hall := cnt_eq (n := bl.length) hsub (by omega)
  exact .inr ⟨x, hx, rfl, hne, hs, fun c hc hcb hsc => hall c hc ⟨hsc, hcb⟩⟩
theorem best_has {bl : List LBlock} {b p : Nat} (hb : b < bl.length) (h : Best bl b bl.length p) : p < bl.length ∧ Sure bl b p ∧ (sureTo bl p bl.length).length + 1 = (sureTo bl b bl.length).length := by
  classical
  rcases h with ⟨h, _⟩ | ⟨q, hq, hpq, hqb, hs, hall⟩
  · omega
  · have : p = q := by omega
    subst this
    refine ⟨hq, hs, ?_⟩
    rw [sureTo_cnt, sureTo_cnt]
    symm
    refine cnt_one (b := b) (fun h => hqb (h.antisymm hs)) hb fun c hc => ?_
    constructor
    · intro h
      by_cases e : c = b
      · exact .inr e
      · exact .inl (hall c hc e h)
    · rintro (h | rfl)
      · exact hs.trans h
      · exact Sure.rfl' hs.1
end Go.Proofs.YtebajiafdkokjaaDoor
