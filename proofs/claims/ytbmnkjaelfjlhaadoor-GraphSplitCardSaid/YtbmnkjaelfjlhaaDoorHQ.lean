/- Texts joined: LiveL OnceP QuietB Given DoA DoB. -/
import Derived.Test.YtbmnkjaelfjlhaaDoorGB
import Derived.Test.YtbmnkjaelfjlhaaDoorGF
import Derived.Test.YtbmnkjaelfjlhaaDoorGG
import Derived.Test.YtbmnkjaelfjlhaaDoorGI
import Derived.Test.YtbmnkjaelfjlhaaDoorHA
import Derived.Test.YtbmnkjaelfjlhaaDoorHI
import Derived.Test.YtbmnkjaelfjlhaaDoorHJ
import Derived.Test.YtbmnkjaelfjlhaaDoorHN
import Derived.Test.YtbmnkjaelfjlhaaDoorHP
/- What is live within a block, told from its end on; slices.Reverse of rows. -/
namespace Go.Proofs.YtbmnkjaelfjlhaaDoor
open Go Go.RowKit
attribute [local irreducible] wpListIn Code.wpIn Exit.then Exit.inBlock bodyPost wpQuiet wpAnyIn wpAnyH
set_option maxHeartbeats 4000000

instance (r : Row) : OneV (valR r) := ⟨rfl⟩
end Go.Proofs.YtbmnkjaelfjlhaaDoor


/- One going-through of live.Do, as a plain function: what it takes away nobody needs, and when it takes nothing away nothing more can go. No program in sight. -/
namespace Go.Proofs.YtbmnkjaelfjlhaaDoor
open Go Go.RowKit

/-! ### All blocks -/
/-- what is as it was while some go -/
structure SubB (bl bl' : List LBlock) : Prop where
  len : bl'.length = bl.length
  blk : ∀ (c : Nat) (C : LBlock), bl[c]? = some C → ∃ D, bl'[c]? = some D ∧ D.kind = C.kind ∧ D.on = C.on ∧ D.to = C.to ∧ D.list.Sublist C.list ∧ D.phis.Sublist C.phis
theorem SubB.refl (bl : List LBlock) : SubB bl bl := ⟨rfl, fun _ C hC => ⟨C, hC, rfl, rfl, rfl, .refl _, .refl _⟩⟩
theorem SubB.trans {a b c : List LBlock} (h : SubB a b) (k : SubB b c) : SubB a c := ⟨k.len.trans h.len, fun i C hC => by
  obtain ⟨D, hD, h1, h2, h3, h4, h5⟩ := h.blk i C hC
  obtain ⟨E, hE, k1, k2, k3, k4, k5⟩ := k.blk i D hD
  exact ⟨E, hE, k1.trans h1, k2.trans h2, k3.trans h3, k4.trans h4, k5.trans h5⟩⟩
theorem Cut.sub {W : Int} {a b : List LBlock} (h : Cut W a b) : SubB a b := by
  obtain ⟨pos, hp⟩ := h.thin
  refine ⟨hp.len, fun c C hC => ?_⟩
  obtain ⟨D, hD, h1, h2, h3, h4, h5, _⟩ := hp.blk c C hC
  exact ⟨D, hD, h1, h2, h3, h4, h5⟩
theorem Cuts.sub {W : Int} {a b : List LBlock} (h : Cuts W a b) : SubB a b := by
  induction h with
  | refl _ => exact .refl _
  | head h1 _ ih => exact h1.sub.trans ih
theorem SubB.mem {a b : List LBlock} (h : SubB a b) {D : LBlock} (hD : D ∈ b) : ∃ (c : Nat) (C : LBlock), a[c]? = some C ∧ b[c]? = some D ∧ D.kind = C.kind ∧ D.on = C.on ∧ D.to = C.to ∧ D.list.Sublist C.list ∧ D.phis.Sublist C.phis := by
  obtain ⟨c, hc⟩ := List.getElem?_of_mem hD
  have hcl : c < a.length := by rw [← h.len]; exact (List.getElem?_eq_some_iff.1 hc).1
  obtain ⟨D', hD', h1⟩ := h.blk c _ (List.getElem?_eq_getElem hcl)
  rw [hc] at hD'
  obtain rfl := Option.some.inj hD'
  exact ⟨c, _, List.getElem?_eq_getElem hcl, hc, h1⟩
theorem SubB.to {a b : List LBlock} (h : SubB a b) (i : Nat) : toOf b i = toOf a i := by
  unfold toOf
  cases hC : a[i]? with
  | none => rw [List.getElem?_eq_none (by rw [h.len]; exact List.getElem?_eq_none_iff.1 hC)]
  | some C =>
    obtain ⟨D, hD, _, _, hto, _⟩ := h.blk i C hC
    rw [hD]
    exact hto
theorem Cut.behind {W : Int} {a b : List LBlock} (h : Cut W a b) {c r : Nat} {C D : LBlock} (hC : a[c]? = some C) (hD : b[c]? = some D) (hl : LiveS b r c (D.list.length + 1)) : LiveS a r c (C.list.length + 1) := by
  cases h with
  | @ins b' i B x hB hx hq hd =>
    have hlt := (List.getElem?_eq_some_iff.1 hx).1
    rw [delI_get] at hD
    by_cases e : b' = c
    · subst e
      rw [if_pos rfl, hC, Option.map_some] at hD
      rw [hB] at hC
      obtain rfl := Option.some.inj hC
      obtain rfl := Option.some.inj hD
      have hlen : ((eI i B).list.length : Int) + 1 = B.list.length := by unfold eI; simp only; rw [List.length_eraseIdx, if_pos hlt]; omega
      have := ((delI_live hB hx hd hl).2 rfl).2 (by omega)
      rw [hlen] at this
      exact this
    · rw [if_neg e, hC] at hD
      obtain rfl := Option.some.inj hD
      exact (delI_live hB hx hd hl).1 (Ne.symm e)
  | @phi b' i B p hB hp hd =>
    rw [delP_get] at hD
    have hlen : D.list.length = C.list.length := by
      by_cases e : b' = c
      · rw [if_pos e, hC, Option.map_some] at hD
        obtain rfl := Option.some.inj hD
        rfl
      · rw [if_neg e, hC] at hD
        obtain rfl := Option.some.inj hD
        rfl
    rw [hlen] at hl
    exact delP_live hB hp hd hl
theorem Cuts.behind {W : Int} {a b : List LBlock} (h : Cuts W a b) {c r : Nat} : ∀ {C D : LBlock}, a[c]? = some C → b[c]? = some D → LiveS b r c (D.list.length + 1) → LiveS a r c (C.list.length + 1) := by
  induction h with
  | refl _ =>
    intro C D hC hD hl
    rw [hC] at hD
    obtain rfl := Option.some.inj hD
    exact hl
  | @head a e b h1 _ ih =>
    intro C D hC hD hl
    obtain ⟨E, hE, _⟩ := h1.sub.blk c C hC
    exact h1.behind hC hE (ih hE hD hl)
/-- what is known of the sets behind the blocks -/
structure OutOk (R : Nat) (bl : List LBlock) (outs : List (List Bool)) : Prop where
  len : outs.length = bl.length
  row : ∀ s ∈ outs, s.length = R
  at' : ∀ (b : Nat) s B, outs[b]? = some s → bl[b]? = some B → ∀ r, has s r ↔ LiveS bl r b (B.list.length + 1)
theorem OutOk.get {R : Nat} {bl : List LBlock} {outs : List (List Bool)} (h : OutOk R bl outs) {b : Nat} {B : LBlock} (hB : bl[b]? = some B) : (outs.getD b []).length = R ∧ ∀ r, has (outs.getD b []) r ↔ LiveS bl r b (B.list.length + 1) := by
  have hbl := (List.getElem?_eq_some_iff.1 hB).1
  have hg : outs[b]? = some (outs[b]'(by rw [h.len]; exact hbl)) := List.getElem?_eq_getElem _
  rw [List.getD_eq_getElem?_getD, hg, Option.getD_some]
  exact ⟨h.row _ (List.getElem_mem _), h.at' b _ B hg hB⟩
theorem Cuts.less {W : Int} {a b : List LBlock} (h : Cuts W a b) : a = b ∨ sizeN b < sizeN a := by
  induction h with
  | refl _ => exact .inl rfl
  | head h1 _ ih =>
    have := h1.less
    rcases ih with rfl | ih
    · exact .inr this
    · exact .inr (by omega)
/-! ### The end of it -/
end Go.Proofs.YtbmnkjaelfjlhaaDoor


/- live.QuietIn, live.Words, turneryref3.Quiet, Words: what each returns. -/
namespace Go.Proofs.YtbmnkjaelfjlhaaDoor
open Go Go.RowKit
attribute [local irreducible] wpListIn Code.wpIn Exit.then Exit.inBlock bodyPost wpQuiet
set_option maxHeartbeats 1000000

end Go.Proofs.YtbmnkjaelfjlhaaDoor


/- turnerylaw3.given: a pass tells what it must. -/
namespace Go.Proofs.YtbmnkjaelfjlhaaDoor
open Go Go.RowKit
attribute [local irreducible] wpListIn Code.wpIn Exit.then Exit.inBlock bodyPost wpQuiet wpAnyIn wpAnyH bodyPostM
set_option maxHeartbeats 4000000

/-- what a pass tells of a unit whose functions are to become those of another one -/
def Told (want : LUnit) (w : World) (g f : Value) (c k : Int) : Prop :=
  (∃ (i : Nat) (X : LFunc), want.funcs[i]? = some X ∧ largeF X = true ∧ (∀ (j : Nat) (Y : LFunc), j < i → want.funcs[j]? = some Y → largeF Y = false) ∧ g = .slice none 0 0 ∧ f = .slice none 0 0 ∧ c = 10 ∧ k = i) ∨
  ((∀ X ∈ want.funcs, largeF X = false) ∧ c = 0 ∧ k = 0 ∧ SlAt w g 3 want.globals GlobalV ∧ SlAt w f 4 want.funcs FuncV)
theorem Told.keep {want : LUnit} {w w' : World} {g f : Value} {c k : Int} (h : Told want w g f c k) (hc : Chg NoS w w') : Told want w' g f c k := by
  rcases h with h | ⟨h1, h2, h3, h4, h5⟩
  · exact .inl h
  · exact .inr ⟨h1, h2, h3, h4.keep keeps_global hc, h5.keep keeps_func hc⟩
structure FnSmall (X : LFunc) : Prop where
  n : X.blocks.length ≤ 1000
  each : ∀ b ∈ X.blocks, b.phis.length ≤ 1000 ∧ b.list.length ≤ 1000
end Go.Proofs.YtbmnkjaelfjlhaaDoor


/- slices.Reverse of instructions. -/
namespace Go.Proofs.YtbmnkjaelfjlhaaDoor
open Go Go.RowKit
attribute [local irreducible] wpListIn Code.wpIn Exit.then Exit.inBlock bodyPost wpQuiet wpAnyIn wpAnyH oneH
set_option maxHeartbeats 4000000

section
variable {P : Program} {N : Nat} {ds : List Deferred} {S : Nat → Prop} {w0 : World} {L L' : List (Nat × Value)} {H H' Hr : List Ent} {x y : Operand} {M : Act → World → Prop} {l : List Oper} {fuel : Nat} {listed : Array Bool}
end
end Go.Proofs.YtbmnkjaelfjlhaaDoor


/- slices.DeleteFunc of phis whose registers nobody needs. -/
namespace Go.Proofs.YtbmnkjaelfjlhaaDoor
open Go Go.RowKit
attribute [local irreducible] wpListIn Code.wpIn Exit.then Exit.inBlock bodyPost wpQuiet wpAnyIn wpAnyH oneH
set_option maxHeartbeats 4000000

section
variable {P : Program} {ro : Option Nat} {N : Nat} {ds : List Deferred} {S : Nat → Prop} {w0 : World} {L : List (Nat × Value)} {H : List Ent} {ops : Array Oper} {rest : List Oper} {Q : Exit → Act → World → Prop} {x : Operand}
end
end Go.Proofs.YtbmnkjaelfjlhaaDoor

