/- Texts joined: Fit RunJ Vis RunK. -/
import Derived.Test.YtbmnkjaelfjlhaaDoorGD
import Derived.Test.YtbmnkjaelfjlhaaDoorGF
import Derived.Test.YtbmnkjaelfjlhaaDoorGG
import Derived.Test.YtbmnkjaelfjlhaaDoorHE
/- A unit that passes the check fits. No program in sight. -/
namespace Go.Proofs.YtbmnkjaelfjlhaaDoor
open Go Go.RowKit

theorem lens_of {X : LFunc} (h : lightF X) : ∀ B ∈ X.blocks, B.list.length ≤ 1000 ∧ B.phis.length ≤ 1000 := fun B hB => by
  have h1 : ((B.phis.length + B.list.length : Nat) : Int) ≤ sizeOfBs X.blocks := by
    unfold sizeOfBs
    generalize X.blocks = l at hB
    induction l with
    | nil => cases hB
    | cons C l ih =>
      have hnn : ∀ m : List LBlock, 0 ≤ (m.map fun b => ((b.phis.length + b.list.length : Nat) : Int)).sum := fun m => by
        induction m with
        | nil => simp
        | cons D m ih => simp only [List.map_cons, List.sum_cons]; omega
      simp only [List.map_cons, List.sum_cons]
      rcases List.mem_cons.1 hB with rfl | hB
      · have := hnn l; omega
      · have := ih hB; omega
  have := h.2
  omega
/-- the numbers of a unit are machine numbers -/
structure BlkNums (B : LBlock) : Prop where
  on : inI B.on.n
  phis : ∀ q ∈ B.phis, ∀ v ∈ q.src, inI v.n
  list : ∀ x ∈ B.list, inI x.dst ∧ inI x.a.n ∧ inI x.b.n ∧ ∀ v ∈ x.args, inI v.n
theorem ins_fit {u : LUnit} {R : Nat} {x : LIns} (hp : ∀ X ∈ u.funcs, X.params ≤ 100) (h : insErr u.funcs R x = 0) (hn : inI x.dst ∧ inI x.a.n ∧ inI x.b.n ∧ ∀ v ∈ x.args, inI v.n) : InsFit u R x := by
  have hok := insErr_ok h
  unfold insErr at h
  split at h
  · cases h
  split at h
  · cases h
  split at h
  · rename_i h3
    simp only [Bool.and_eq_true, Bool.not_eq_true', decide_eq_false_iff_not] at h3
    exact absurd h h3.2
  split at h
  · rename_i h4; exact absurd h h4
  rename_i h4
  split at h
  · rename_i h5; exact absurd h h5
  rename_i h5
  simp only [ne_eq, Decidable.not_not] at h4 h5
  have hcall : x.op = 20 → (∃ (k : Nat) (Y : LFunc), x.fn = k ∧ u.funcs[k]? = some Y ∧ (x.args.length : Int) = Y.params) ∧ ∀ v ∈ x.args, ValOk R v := fun e => by
    unfold callErr at h
    rw [if_neg (by simpa using e)] at h
    split at h
    · cases h
    rename_i h6
    split at h
    · cases h
    rename_i h7
    simp only [within, Bool.not_eq_true', Bool.and_eq_false_iff, decide_eq_false_iff_not, not_or, Decidable.not_not] at h6
    have hlt : x.fn.toNat < u.funcs.length := by omega
    simp only [at0, List.getElem?_eq_getElem hlt, ne_eq, Decidable.not_not] at h7
    exact ⟨⟨x.fn.toNat, u.funcs[x.fn.toNat], by omega, List.getElem?_eq_getElem hlt, h7⟩, fun v hv => valErr_ok (at0_all h v hv)⟩
  refine ⟨hok.op, valErr_ok h4, valErr_ok h5, hok.dst, fun v hv => ?_, ?_, fun e => (hcall e).1, hn⟩
  · by_cases e : x.op = 20
    · exact (hcall e).2 v hv
    · rw [hok.args e] at hv; cases hv
  · by_cases e : x.op = 20
    · obtain ⟨k, Y, _, hY, h9⟩ := (hcall e).1
      have := hp Y (List.mem_of_getElem? hY)
      omega
    · rw [hok.args e]; simp
theorem end_fit {n R : Nat} {b : LBlock} (h : endErr n R b = 0) : (b.kind = 1 ∨ b.kind = 2 ∨ b.kind = 3) ∧ (b.to.length : Int) = b.kind - 1 := by
  unfold endErr endE at h
  split at h
  · cases h
  rename_i h1
  split at h
  · cases h
  rename_i h2
  simp only [within, Bool.not_eq_true', Bool.and_eq_false_iff, decide_eq_false_iff_not, not_or, Decidable.not_not] at h1
  simp only [ne_eq, Decidable.not_not] at h2
  exact ⟨by omega, h2⟩
theorem unit_fit {u : LUnit} (hl : light u) (h : (checkL u).1 = 0) (hn : ∀ X ∈ u.funcs, ∀ B ∈ X.blocks, BlkNums B) : UnitFit u := by
  have hlen := hl.1
  refine ⟨by omega, fun k X hX => ?_⟩
  have hXm := List.mem_of_getElem? hX
  have hp : ∀ X ∈ u.funcs, X.params ≤ 100 := fun Y hY => by
    obtain ⟨j, hj⟩ := List.getElem?_of_mem hY
    have := check_head h hj
    omega
  have hh := check_head h hX
  have hbe := check_bodies h X hXm
  have hlens := lens_of (hl.2 X hXm)
  have hR : X.regs = (X.regs.toNat : Nat) := by omega
  have hfo := func_okF hR hbe
  have hb24 := (hl.2 X hXm).1
  refine ⟨X.regs.toNat, hR, by omega, hfo, check_pos h hX, by omega, ⟨hh.1, by omega⟩, fun B hB => ?_⟩
  obtain ⟨b, hb⟩ := List.getElem?_of_mem hB
  have hBok := hfo.block b B hb
  have hnB := hn X hXm B hB
  unfold bodyErr at hbe
  split at hbe
  · rename_i h1; exact absurd hbe h1
  rename_i h1
  have hend := at0_all (by simpa using h1 : (firstI (at0 X.blocks (endErr X.blocks.length X.regs)) X.blocks.length).1 = 0) B hB
  have hbb := firstI_zero hbe b (List.getElem?_eq_some_iff.1 hb).1
  simp only [blockErr, hb] at hbb
  split at hbb
  · rename_i h2; exact absurd hbb h2
  have hins := at0_all hbb
  rw [hR] at hend hins
  exact ⟨end_fit hend, ⟨hBok.on, hnB.on⟩, ⟨(hlens B hB).1, fun x hx => ins_fit hp (hins x hx) (hnB.list x hx)⟩, ⟨(hlens B hB).2, hnB.phis⟩⟩
theorem check_start {u : LUnit} (h : (checkL u).1 = 0) (hn : ∀ G ∈ u.globals, ∀ x ∈ G.init, inI x) : StartOk u := by
  unfold checkL at h
  split at h
  · cases h
  rename_i h1
  split at h
  · rename_i h2; exact absurd h h2
  rename_i h2
  split at h
  · rename_i h3; exact absurd h h3
  split at h
  · rename_i h3; exact absurd h h3
  split at h
  · cases h
  rename_i h4
  refine ⟨by omega, fun G hG => ?_, hn, by omega, ?_⟩
  · have hz := firstI_zero (by simpa using h2)
    obtain ⟨j, hj⟩ := List.getElem?_of_mem hG
    have := hz j (List.getElem?_eq_some_iff.1 hj).1
    simp only [globAt, at0, hj, globErr] at this
    split at this
    · cases this
    split at this
    · cases this
    split at this
    · cases this
    rename_i h5
    split at this
    · cases this
    rename_i h6
    simp only [within, Bool.not_eq_true', Bool.and_eq_false_iff, decide_eq_false_iff_not, not_or, Decidable.not_not] at h5
    omega
  · unfold mainAt at h4 ⊢
    cases hf : u.funcs.findIdx? isMain with
    | none => rw [hf] at h4; simp at h4
    | some i =>
      have hi := (List.findIdx?_eq_some_iff_getElem.1 hf).1
      exact ⟨i, u.funcs[i], rfl, List.getElem?_eq_getElem hi⟩
end Go.Proofs.YtbmnkjaelfjlhaaDoor


/- run.Counts that is given what it does not take. -/
namespace Go.Proofs.YtbmnkjaelfjlhaaDoor
open Go Go.RowKit
attribute [local irreducible] wpListIn Code.wpIn Exit.then Exit.inBlock bodyPost wpQuiet wpAnyIn wpAnyH bodyPostM oneH
set_option maxHeartbeats 8000000

/-- the fault of a run -/
def countsE (u : LUnit) (n : Nat) (fuel : Int) : Int × Int := if (checkL u).1 ≠ 0 then checkL u else if 30 < n then (2, -1) else if !within fuel 0 100000 then (3, -1) else (0, 0)
end Go.Proofs.YtbmnkjaelfjlhaaDoor


/- The blocks that a run comes to: each at the end of a path over such blocks. No program in sight. -/
namespace Go.Proofs.YtbmnkjaelfjlhaaDoor
open Go Go.RowKit

/-- a path from block 0 over blocks that were come to -/
inductive VP (bl : List LBlock) (l : List Nat) : Nat → Prop
  | zero : 0 < l.getD 0 0 → VP bl l 0
  | step {x y : Nat} : VP bl l x → Edge bl x y → 0 < l.getD y 0 → VP bl l y
theorem VP.mono {bl : List LBlock} {l l' : List Nat} (h : ∀ b, 0 < l.getD b 0 → 0 < l'.getD b 0) {b : Nat} (hp : VP bl l b) : VP bl l' b := by
  induction hp with
  | zero h0 => exact .zero (h _ h0)
  | step _ he hy ih => exact .step ih he (h _ hy)
theorem VP.rch {bl : List LBlock} {l : List Nat} {b : Nat} {wo : Int} (hp : VP bl l b) (h : ∀ d : Nat, (d : Int) = wo → l.getD d 0 = 0) : Rch bl wo 0 b := by
  induction hp with
  | zero _ => exact .refl
  | step _ he hy ih => exact .step ih he fun e => by have := h _ e; omega
/-- what is over a block that was come to was come to -/
theorem VP.dom {bl : List LBlock} {l : List Nat} {b d : Nat} (hp : VP bl l b) (hb : 0 < l.getD b 0) (hd : Dom bl d b) : 0 < l.getD d 0 := by
  rcases Nat.eq_zero_or_pos (l.getD d 0) with h0 | h0
  · rcases hd.2.2 with rfl | rfl | h
    · omega
    · have : ∀ {b}, VP bl l b → 0 < l.getD 0 0 := fun {b} hp => by
        induction hp with
        | zero h => exact h
        | step _ _ _ ih => exact ih
      exact this hp
    · exact absurd (hp.rch fun e he => by rw [show e = d by omega]; exact h0) h
  · exact h0
/-- the blocks of each function -/
def VisOk (u : LUnit) (cs : List (List Nat)) : Prop := ∀ (k : Nat) (X : LFunc) (l : List Nat), u.funcs[k]? = some X → cs[k]? = some l → ∀ b, 0 < l.getD b 0 → VP X.blocks l b
def Here (cs : List (List Nat)) (f : Frm) : Prop := ∃ l, cs[f.fn]? = some l ∧ 0 < l.getD f.block 0
theorem bump_row {cs : List (List Nat)} {k b : Nat} (j : Nat) : (bump cs k b)[j]? = if k = j then (cs[j]?).map fun l => l.modify b (· + 1) else cs[j]? := by
  unfold bump
  rw [List.getElem?_modify]
  by_cases e : k = j
  · simp only [e, if_true]; rfl
  · simp only [e, if_false, id_map']
theorem modify_getD (l : List Nat) (b c : Nat) : (l.modify b (· + 1)).getD c 0 = if b = c ∧ c < l.length then l.getD c 0 + 1 else l.getD c 0 := by
  rw [List.getD_eq_getElem?_getD, List.getD_eq_getElem?_getD, List.getElem?_modify]
  by_cases hc : c < l.length
  · rw [List.getElem?_eq_getElem hc]
    by_cases e : b = c
    · simp [e, hc]
    · simp [e]
  · rw [List.getElem?_eq_none (by omega)]
    simp [hc]
theorem modify_pos {l : List Nat} {b c : Nat} (h : 0 < l.getD c 0) : 0 < (l.modify b (· + 1)).getD c 0 := by
  rw [modify_getD]; split <;> omega
theorem Here.bump {cs : List (List Nat)} {f : Frm} (h : Here cs f) (k b : Nat) : Here (bump cs k b) f := by
  obtain ⟨l, h1, h2⟩ := h
  by_cases e : k = f.fn
  · exact ⟨_, by rw [bump_row, if_pos e, h1]; rfl, modify_pos h2⟩
  · exact ⟨l, by rw [bump_row, if_neg e, h1], h2⟩
theorem VisOk.bump {u : LUnit} {cs : List (List Nat)} (h : VisOk u cs) {k b : Nat} (hb : ∀ X l, u.funcs[k]? = some X → cs[k]? = some l → b = 0 ∨ ∃ x, VP X.blocks l x ∧ Edge X.blocks x b) : VisOk u (bump cs k b) := by
  intro j X l hX hl c hc
  rw [bump_row] at hl
  by_cases e : k = j
  · subst e
    rw [if_pos rfl] at hl
    obtain ⟨l0, h0, rfl⟩ := Option.map_eq_some_iff.1 hl
    have hm : ∀ c, 0 < l0.getD c 0 → 0 < (l0.modify b (· + 1)).getD c 0 := fun c hc => modify_pos hc
    by_cases h1 : 0 < l0.getD c 0
    · exact (h k X l0 hX h0 c h1).mono hm
    · have hbc : b = c := by
        rw [modify_getD] at hc
        split at hc
        · rename_i h2; exact h2.1
        · omega
      subst hbc
      rcases hb X l0 hX h0 with rfl | ⟨x, hx, he⟩
      · exact .zero hc
      · exact .step (hx.mono hm) he hc
  · rw [if_neg e] at hl
    exact h j X l hX hl c hc
structure VisMac (u : LUnit) (s : Mac) : Prop where
  vis : VisOk u s.counts
  top : Here s.counts s.top
  rest : ∀ f ∈ s.rest, Here s.counts f
def CntOk (u : LUnit) (c : Nat) (cs : List (List Nat)) : Prop := cs.length = u.funcs.length ∧ ∀ (k : Nat) (X : LFunc), u.funcs[k]? = some X → ∃ l, cs[k]? = some l ∧ l.length = X.blocks.length ∧ ∀ x ∈ l, x ≤ c
theorem CntOk.mono {u : LUnit} {c d : Nat} {cs : List (List Nat)} (h : CntOk u c cs) (hcd : c ≤ d) : CntOk u d cs := ⟨h.1, fun k X hX => by
  obtain ⟨l, h1, h2, h3⟩ := h.2 k X hX
  exact ⟨l, h1, h2, fun x hx => Nat.le_trans (h3 x hx) hcd⟩⟩
end Go.Proofs.YtbmnkjaelfjlhaaDoor


/- What a run's counts are, as a table that is known. -/
namespace Go.Proofs.YtbmnkjaelfjlhaaDoor
open Go Go.RowKit
set_option maxHeartbeats 2000000

/-- what is so of what a run counts -/
structure CountsOk (u : LUnit) (cs : List (List Nat)) : Prop where
  cnt : CntOk u 100001 cs
  vis : VisOk u cs
end Go.Proofs.YtbmnkjaelfjlhaaDoor

