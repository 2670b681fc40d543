/- Texts joined: TrimP Thin. -/
import Derived.Test.YtpadjpplidlfeaaGreatDoorGF
import Derived.Test.YtpadjpplidlfeaaGreatDoorHN
/- Instructions and phis that nobody needs, taken away one at a time: it does not matter in which order. No program in sight. -/
namespace Go.Proofs.YtpadjpplidlfeaaGreatDoor
open Go Go.RowKit

def quietL (words op : Int) (ar : Bool) (an : Int) (br : Bool) (bn : Int) : Bool :=
  if op = 5 ∨ op = 6 then !br && !decide (bn = 0)
  else if op = 18 then !ar && (decide (0 ≤ an) && decide (an < words))
  else decide (1 ≤ op) && decide (op ≤ 17)
def quietI (W : Int) (x : LIns) : Bool := quietL W x.op x.a.reg x.a.n x.b.reg x.b.n
def eI (i : Nat) (B : LBlock) : LBlock := { B with list := B.list.eraseIdx i }
def eP (i : Nat) (B : LBlock) : LBlock := { B with phis := B.phis.eraseIdx i }
def delI (bl : List LBlock) (b i : Nat) : List LBlock := bl.modify b (eI i)
def delP (bl : List LBlock) (b i : Nat) : List LBlock := bl.modify b (eP i)
/-- one that nobody needs is taken away -/
inductive Cut (W : Int) (bl : List LBlock) : List LBlock → Prop
  | ins {b i : Nat} {B : LBlock} {x : LIns} : bl[b]? = some B → B.list[i]? = some x → quietI W x = true → (∀ r : Nat, x.dst = r → ¬ LiveS bl r b (i + 1 : Nat)) → Cut W bl (delI bl b i)
  | phi {b i : Nat} {B : LBlock} {p : LPhi} : bl[b]? = some B → B.phis[i]? = some p → (∀ r : Nat, p.dst = r → ¬ LiveS bl r b 0) → Cut W bl (delP bl b i)
inductive Cuts (W : Int) : List LBlock → List LBlock → Prop
  | refl (bl : List LBlock) : Cuts W bl bl
  | head {a b c : List LBlock} : Cut W a b → Cuts W b c → Cuts W a c
theorem Cuts.trans {W : Int} {a b c : List LBlock} (h : Cuts W a b) (k : Cuts W b c) : Cuts W a c := by
  induction h with
  | refl _ => exact k
  | head h1 _ ih => exact .head h1 (ih k)
theorem Cuts.one {W : Int} {a b : List LBlock} (h : Cut W a b) : Cuts W a b := .head h (.refl _)
/-! ### What stays as it is -/
theorem delI_get (bl : List LBlock) (b i c : Nat) : (delI bl b i)[c]? = if b = c then (bl[c]?).map (eI i) else bl[c]? := by
  unfold delI
  rw [List.getElem?_modify]
  by_cases e : b = c
  · simp only [e, if_true]; rfl
  · simp only [e, if_false, id_map']
theorem delP_get (bl : List LBlock) (b i c : Nat) : (delP bl b i)[c]? = if b = c then (bl[c]?).map (eP i) else bl[c]? := by
  unfold delP
  rw [List.getElem?_modify]
  by_cases e : b = c
  · simp only [e, if_true]; rfl
  · simp only [e, if_false, id_map']
theorem delI_len (bl : List LBlock) (b i : Nat) : (delI bl b i).length = bl.length := List.length_modify _ _ _
theorem delP_len (bl : List LBlock) (b i : Nat) : (delP bl b i).length = bl.length := List.length_modify _ _ _
theorem delI_to (bl : List LBlock) (b i c : Nat) : toOf (delI bl b i) c = toOf bl c := by
  unfold toOf
  rw [delI_get]
  by_cases e : b = c
  · rw [if_pos e]
    cases bl[c]? <;> rfl
  · rw [if_neg e]
theorem delP_to (bl : List LBlock) (b i c : Nat) : toOf (delP bl b i) c = toOf bl c := by
  unfold toOf
  rw [delP_get]
  by_cases e : b = c
  · rw [if_pos e]
    cases bl[c]? <;> rfl
  · rw [if_neg e]
theorem delI_phis (bl : List LBlock) (b i c : Nat) : phisOf (delI bl b i) c = phisOf bl c := by
  unfold phisOf
  rw [delI_get]
  by_cases e : b = c
  · rw [if_pos e]
    cases bl[c]? <;> rfl
  · rw [if_neg e]
theorem delP_phis (bl : List LBlock) (b i c : Nat) : phisOf (delP bl b i) c = if b = c then (phisOf bl c).eraseIdx i else phisOf bl c := by
  unfold phisOf
  rw [delP_get]
  by_cases e : b = c
  · rw [if_pos e, if_pos e]
    cases bl[c]? <;> rfl
  · rw [if_neg e, if_neg e]
theorem delI_preds (bl : List LBlock) (b i t : Nat) : preds (delI bl b i) t = preds bl t := by
  unfold preds
  simp only [delI_len, delI_to]
theorem delP_preds (bl : List LBlock) (b i t : Nat) : preds (delP bl b i) t = preds bl t := by
  unfold preds
  simp only [delP_len, delP_to]
theorem delI_takes (bl : List LBlock) (b i t c r : Nat) : takesR (delI bl b i) t c r = takesR bl t c r := by
  unfold takesR
  rw [delI_phis, delI_preds]
theorem delP_takes {bl : List LBlock} {b i t c r : Nat} (h : takesR (delP bl b i) t c r = true) : takesR bl t c r = true := by
  unfold takesR at h ⊢
  rw [delP_phis, delP_preds] at h
  obtain ⟨p, hp, hr⟩ := List.any_eq_true.1 h
  refine List.any_eq_true.2 ⟨p, ?_, hr⟩
  split at hp
  · exact List.mem_of_mem_eraseIdx hp
  · exact hp

/-! ### What is live then was live before -/
section
variable {bl : List LBlock} {b i : Nat} {B : LBlock}
theorem delI_live {x : LIns} (hB : bl[b]? = some B) (hx : B.list[i]? = some x) (hd : ∀ r : Nat, x.dst = r → ¬ LiveS bl r b (i + 1 : Nat)) {r c : Nat} {j : Int} (h : LiveS (delI bl b i) r c j) :
    (c ≠ b → LiveS bl r c j) ∧ (c = b → (j < i → LiveS bl r c j) ∧ ((i : Int) ≤ j → LiveS bl r c (j + 1))) := by
  have hlt := (List.getElem?_eq_some_iff.1 hx).1
  have back : LiveS bl r b ((i : Int) + 1) → LiveS bl r b i := fun h1 => .go hB hx (fun e => hd r e h1) h1
  have hC : (delI bl b i)[b]? = some (eI i B) := by rw [delI_get, if_pos rfl, hB]; rfl
  have hCl : (eI i B).list.length = B.list.length - 1 := by unfold eI; simp only; rw [List.length_eraseIdx, if_pos hlt]
  have hCg : ∀ m : Nat, (eI i B).list[m]? = if m < i then B.list[m]? else B.list[m + 1]? := fun m => by unfold eI; simp only; rw [List.getElem?_eraseIdx]
  have other : ∀ c, c ≠ b → (delI bl b i)[c]? = bl[c]? := fun c hc => by rw [delI_get, if_neg (Ne.symm hc)]
  induction h with
  | @phi c C hC' hp _ ih =>
    refine ⟨fun hc => ?_, fun hc => ?_⟩
    · rw [other c hc] at hC'
      exact .phi hC' hp (ih.1 hc)
    · subst hc
      rw [hC] at hC'
      obtain rfl := Option.some.inj hC'
      obtain ⟨h1, h2⟩ := ih.2 rfl
      refine ⟨fun _ => .phi hB hp ?_, fun h => by omega⟩
      by_cases hi : (0 : Int) < i
      · exact h1 hi
      · have h3 := h2 (by omega)
        have hi0 : (i : Int) = 0 := by omega
        rw [← hi0] at h3 ⊢
        exact back h3
  | @use c m C y hC' hy hn =>
    refine ⟨fun hc => ?_, fun hc => ?_⟩
    · rw [other c hc] at hC'
      exact .use hC' hy hn
    · subst hc
      rw [hC] at hC'
      obtain rfl := Option.some.inj hC'
      rw [hCg] at hy
      refine ⟨fun h => ?_, fun h => ?_⟩
      · rw [if_pos (by omega)] at hy
        exact .use hB hy hn
      · rw [if_neg (by omega)] at hy
        exact LiveS.use hB hy hn
  | @go c m C y hC' hy hn _ ih =>
    refine ⟨fun hc => ?_, fun hc => ?_⟩
    · rw [other c hc] at hC'
      exact .go hC' hy hn (ih.1 hc)
    · subst hc
      rw [hC] at hC'
      obtain rfl := Option.some.inj hC'
      rw [hCg] at hy
      obtain ⟨h1, h2⟩ := ih.2 rfl
      refine ⟨fun h => ?_, fun h => ?_⟩
      · rw [if_pos (by omega)] at hy
        refine .go hB hy hn ?_
        by_cases hm : m + 1 < i
        · exact h1 (by omega)
        · have hm : m + 1 = i := by omega
          have h3 := h2 (by omega)
          rw [hm] at h3 ⊢
          exact back h3
      · rw [if_neg (by omega)] at hy
        exact LiveS.go hB hy hn (h2 (by omega))
  | @on c C hC' hn =>
    refine ⟨fun hc => ?_, fun hc => ?_⟩
    · rw [other c hc] at hC'
      exact .on hC' hn
    · subst hc
      rw [hC] at hC'
      obtain rfl := Option.some.inj hC'
      refine ⟨fun h => by omega, fun h => ?_⟩
      have : (((eI i B).list.length : Nat) : Int) + 1 = B.list.length := by omega
      rw [this]
      exact .on hB hn
  | @take c C j t hC' hj ht hk =>
    rw [delI_takes] at hk
    refine ⟨fun hc => ?_, fun hc => ?_⟩
    · rw [other c hc] at hC'
      exact .take hC' hj ht hk
    · subst hc
      rw [hC] at hC'
      obtain rfl := Option.some.inj hC'
      exact ⟨fun h => by omega, fun h => .take hB (by omega) ht hk⟩
  | @jump c C j t hC' hj ht _ ih =>
    have ht' : LiveS bl r t (-1) := by
      by_cases e : t = b
      · exact (ih.2 e).1 (by omega)
      · exact ih.1 e
    refine ⟨fun hc => ?_, fun hc => ?_⟩
    · rw [other c hc] at hC'
      exact .jump hC' hj ht ht'
    · subst hc
      rw [hC] at hC'
      obtain rfl := Option.some.inj hC'
      exact ⟨fun h => by omega, fun h => .jump hB (by omega) ht ht'⟩
theorem delP_live {p : LPhi} (hB : bl[b]? = some B) (hp : B.phis[i]? = some p) (hd : ∀ r : Nat, p.dst = r → ¬ LiveS bl r b 0) {r c : Nat} {j : Int} (h : LiveS (delP bl b i) r c j) : LiveS bl r c j := by
  have key : ∀ (c : Nat) (C : LBlock), (delP bl b i)[c]? = some C → ∃ D, bl[c]? = some D ∧ C.list = D.list ∧ C.on = D.on ∧ C.to = D.to ∧ ∀ q ∈ D.phis, q ∈ C.phis ∨ (c = b ∧ q = p) := fun c C hC => by
    rw [delP_get] at hC
    by_cases e : b = c
    · rw [if_pos e] at hC
      obtain ⟨D, hD, rfl⟩ := Option.map_eq_some_iff.1 hC
      refine ⟨D, hD, rfl, rfl, rfl, fun q hq => ?_⟩
      subst e
      rw [hB] at hD
      obtain rfl := Option.some.inj hD
      obtain ⟨m, hm⟩ := List.getElem?_of_mem hq
      by_cases e : m = i
      · subst e
        rw [hp] at hm
        exact .inr ⟨rfl, (Option.some.inj hm).symm⟩
      · exact .inl (List.mem_eraseIdx_iff_getElem?.2 ⟨m, e, hm⟩)
    · rw [if_neg e] at hC
      exact ⟨C, hC, rfl, rfl, rfl, fun q hq => .inl hq⟩
  induction h with
  | @phi c C hC hq _ ih =>
    obtain ⟨D, hD, _, _, _, hph⟩ := key c C hC
    refine .phi hD (fun q hqm e => ?_) ih
    rcases hph q hqm with h1 | ⟨rfl, rfl⟩
    · exact hq q h1 e
    · exact hd r e ih
  | @use c m C y hC hy hn =>
    obtain ⟨D, hD, hl, _⟩ := key c C hC
    exact .use hD (hl ▸ hy) hn
  | @go c m C y hC hy hn _ ih =>
    obtain ⟨D, hD, hl, _⟩ := key c C hC
    exact .go hD (hl ▸ hy) hn ih
  | @on c C hC hn =>
    obtain ⟨D, hD, hl, ho, _⟩ := key c C hC
    rw [hl]
    exact .on hD (ho ▸ hn)
  | @take c C j t hC hj ht hk =>
    obtain ⟨D, hD, hl, _, hto, _⟩ := key c C hC
    exact .take hD (hl ▸ hj) (hto ▸ ht) (delP_takes hk)
  | @jump c C j t hC hj ht _ ih =>
    obtain ⟨D, hD, hl, _, hto, _⟩ := key c C hC
    exact .jump hD (hl ▸ hj) (hto ▸ ht) ih
end

/-! ### One order is as good as another -/
section
variable {W : Int} {bl : List LBlock}
end
def sizeN (bl : List LBlock) : Nat := (bl.map fun b => b.phis.length + b.list.length).sum
theorem sizeN_modify {bl : List LBlock} {b : Nat} {B : LBlock} {f : LBlock → LBlock} (hB : bl[b]? = some B) (hf : (f B).phis.length + (f B).list.length < B.phis.length + B.list.length) : sizeN (bl.modify b f) < sizeN bl := by
  unfold sizeN
  induction bl generalizing b with
  | nil => simp at hB
  | cons C bl ih =>
    cases b with
    | zero =>
      simp only [List.getElem?_cons_zero, Option.some.injEq] at hB
      subst hB
      simp only [List.modify_zero_cons, List.map_cons, List.sum_cons]
      omega
    | succ b =>
      have := ih (b := b) (by simpa using hB)
      simp only [List.modify_succ_cons, List.map_cons, List.sum_cons]
      omega
theorem Cut.less {W : Int} {a b : List LBlock} (h : Cut W a b) : sizeN b < sizeN a := by
  cases h with
  | ins hB hx _ _ =>
    have := (List.getElem?_eq_some_iff.1 hx).1
    refine sizeN_modify hB ?_
    unfold eI
    simp only
    rw [List.length_eraseIdx, if_pos this]
    omega
  | phi hB hx _ =>
    have := (List.getElem?_eq_some_iff.1 hx).1
    refine sizeN_modify hB ?_
    unfold eP
    simp only
    rw [List.length_eraseIdx, if_pos this]
    omega
end Go.Proofs.YtpadjpplidlfeaaGreatDoor


/- A unit from which instructions and phis that nobody needs have gone: its run comes to the same, in no more steps. No program in sight. -/
namespace Go.Proofs.YtpadjpplidlfeaaGreatDoor
open Go Go.RowKit

/-- some of a function's instructions and phis have gone; where an instruction stands now -/
structure Thin (W : Int) (bl bl' : List LBlock) (pos : Nat → Nat → Nat) : Prop where
  len : bl'.length = bl.length
  zero : ∀ c, pos c 0 = 0
  blk : ∀ (c : Nat) (C : LBlock), bl[c]? = some C → ∃ D, bl'[c]? = some D ∧ D.kind = C.kind ∧ D.on = C.on ∧ D.to = C.to ∧ D.list.Sublist C.list ∧ D.phis.Sublist C.phis ∧ pos c C.list.length = D.list.length ∧
    (∀ (j : Nat) x, C.list[j]? = some x → (pos c (j + 1) = pos c j + 1 ∧ D.list[pos c j]? = some x) ∨ (pos c (j + 1) = pos c j ∧ quietI W x = true ∧ ∀ r : Nat, x.dst = r → ¬ LiveS bl' r c (pos c j : Nat))) ∧
    (∀ F : LPhi → Nat × Int, (∀ p, (F p).1 = p.dst.toNat) → (∀ p ∈ C.phis, 0 ≤ p.dst) → ∀ r : Nat, LiveS bl' r c (0 : Nat) → lastV (D.phis.map F) r = lastV (C.phis.map F) r)
theorem Thin.refl (W : Int) (bl : List LBlock) : Thin W bl bl fun _ j => j :=
  ⟨rfl, fun _ => rfl, fun _ C hC => ⟨C, hC, rfl, rfl, rfl, .refl _, .refl _, rfl, fun _ _ hx => .inl ⟨rfl, hx⟩, fun _ _ _ _ _ => rfl⟩⟩
theorem lastV_erase {l : List LPhi} {i r : Nat} {p : LPhi} {F : LPhi → Nat × Int} (hp : l[i]? = some p) (hr : (F p).1 ≠ r) : lastV ((l.eraseIdx i).map F) r = lastV (l.map F) r := by
  induction l generalizing i with
  | nil => simp at hp
  | cons q l ih =>
    cases i with
    | zero =>
      simp only [List.getElem?_cons_zero, Option.some.injEq] at hp
      subst hp
      rw [List.eraseIdx_cons_zero, List.map_cons, lastV]
      cases lastV (l.map F) r with
      | some x => rfl
      | none => simp [hr]
    | succ i =>
      rw [List.eraseIdx_cons_succ, List.map_cons, List.map_cons, lastV, lastV, ih (by simpa using hp)]
theorem Cut.thin {W : Int} {bl bl' : List LBlock} (h : Cut W bl bl') : ∃ pos, Thin W bl bl' pos := by
  cases h with
  | @ins b i B x hB hx hq hd =>
    have hlt := (List.getElem?_eq_some_iff.1 hx).1
    refine ⟨fun c j => if c = b ∧ i < j then j - 1 else j, delI_len _ _ _, fun c => by simp, fun c C hC => ?_⟩
    by_cases e : b = c
    · subst e
      rw [hB] at hC
      obtain rfl := Option.some.inj hC
      refine ⟨eI i B, by rw [delI_get, if_pos rfl, hB]; rfl, rfl, rfl, rfl, List.eraseIdx_sublist _ _, .refl _, ?_, fun j y hy => ?_, fun _ _ _ _ _ => rfl⟩
      · unfold eI
        simp only [true_and, List.length_eraseIdx, hlt, if_true]
      · have hg : ∀ m : Nat, (eI i B).list[m]? = if m < i then B.list[m]? else B.list[m + 1]? := fun m => by unfold eI; simp only; rw [List.getElem?_eraseIdx]
        simp only [true_and]
        rcases Nat.lt_trichotomy j i with h1 | h1 | h1
        · refine .inl ⟨by rw [if_neg (by omega), if_neg (by omega)], ?_⟩
          rw [if_neg (by omega), hg, if_pos h1]; exact hy
        · subst h1
          rw [hx] at hy
          obtain rfl := Option.some.inj hy
          refine .inr ⟨by rw [if_pos (by omega), if_neg (by omega)]; omega, hq, fun r hr hl => ?_⟩
          rw [if_neg (by omega)] at hl
          exact hd r hr (((delI_live hB hx hd hl).2 rfl).2 (Int.le_refl _))
        · refine .inl ⟨by rw [if_pos (by omega), if_pos (by omega)]; omega, ?_⟩
          rw [if_pos (by omega), hg, if_neg (by omega), show j - 1 + 1 = j by omega]; exact hy
    · refine ⟨C, by rw [delI_get, if_neg e]; exact hC, rfl, rfl, rfl, .refl _, .refl _, ?_, fun j y hy => .inl ⟨?_, ?_⟩, fun _ _ _ _ _ => rfl⟩
      · rw [if_neg (by omega)]
      · rw [if_neg (by omega), if_neg (by omega)]
      · rw [if_neg (by omega)]; exact hy
  | @phi b i B p hB hp hd =>
    refine ⟨fun _ j => j, delP_len _ _ _, fun _ => rfl, fun c C hC => ?_⟩
    by_cases e : b = c
    · subst e
      rw [hB] at hC
      obtain rfl := Option.some.inj hC
      refine ⟨eP i B, by rw [delP_get, if_pos rfl, hB]; rfl, rfl, rfl, rfl, .refl _, List.eraseIdx_sublist _ _, rfl, fun _ _ hx => .inl ⟨rfl, hx⟩, fun F hF h0 r hl => ?_⟩
      refine lastV_erase hp fun er => ?_
      have := h0 p (List.mem_of_getElem? hp)
      exact hd r (by rw [hF] at er; omega) (delP_live hB hp hd hl)
    · exact ⟨C, by rw [delP_get, if_neg e]; exact hC, rfl, rfl, rfl, .refl _, .refl _, rfl, fun _ _ hx => .inl ⟨rfl, hx⟩, fun _ _ _ _ _ => rfl⟩
structure ThinU (W : Int) (u v : LUnit) (pos : Nat → Nat → Nat → Nat) : Prop where
  len : v.funcs.length = u.funcs.length
  globs : v.globals = u.globals
  fn : ∀ (k : Nat) X, u.funcs[k]? = some X → ∃ Y, v.funcs[k]? = some Y ∧ Y.name = X.name ∧ Y.params = X.params ∧ Y.regs = X.regs ∧ Thin W X.blocks Y.blocks (pos k)

/-! ### An instruction that is quiet goes on -/
/-! ### Frames -/
structure FTt (v : LUnit) (pos : Nat → Nat → Nat → Nat) (f g : Frm) : Prop where
  fn : g.fn = f.fn
  block : g.block = f.block
  at' : g.at' = pos f.fn f.block f.at'
  regs : AgreeL (blsOf v f.fn) f.block (pos f.fn f.block f.at' : Nat) f.regs g.regs
structure FRt (v : LUnit) (pos : Nat → Nat → Nat → Nat) (d e : Int) (f g : Frm) : Prop where
  dst : e = d
  fn : g.fn = f.fn
  block : g.block = f.block
  at' : g.at' = pos f.fn f.block f.at'
  regs : AgreeX (blsOf v f.fn) f.block (pos f.fn f.block f.at' : Nat) d f.regs g.regs
theorem FRt.back {v : LUnit} {pos : Nat → Nat → Nat → Nat} {d e : Int} {f g : Frm} (h : FRt v pos d e f g) (n : Int) : FTt v pos (f.set d n) (g.set e n) := by
  obtain ⟨h1, h2, h3, h4, h5⟩ := h
  subst h1
  exact ⟨h2, h3, h4, h5.set n⟩
theorem Thin.to {W : Int} {bl bl' : List LBlock} {pos : Nat → Nat → Nat} (h : Thin W bl bl' pos) (i : Nat) : toOf bl' i = toOf bl i := by
  unfold toOf
  cases hC : bl[i]? with
  | none => rw [List.getElem?_eq_none (by rw [h.len]; exact List.getElem?_eq_none_iff.1 hC)]
  | some C =>
    obtain ⟨D, hD, _, _, hto, _⟩ := h.blk i C hC
    rw [hD]
    exact hto
theorem Thin.preds {W : Int} {bl bl' : List LBlock} {pos : Nat → Nat → Nat} (h : Thin W bl bl' pos) (t : Nat) : preds bl' t = preds bl t := preds_same h.len h.to t
section
variable {u v : LUnit} {W : Int} {pos : Nat → Nat → Nat → Nat}
theorem ThinU.regs (h : ThinU W u v pos) (k : Nat) : regsOf v k = regsOf u k := by
  unfold regsOf
  cases hX : u.funcs[k]? with
  | none => rw [List.getElem?_eq_none (by rw [h.len]; exact List.getElem?_eq_none_iff.1 hX)]
  | some X =>
    obtain ⟨Y, hY, _, _, hr, _⟩ := h.fn k X hX
    rw [hY]
    simp only [hr]
theorem ThinU.main (h : ThinU W u v pos) : mainAt v.funcs = mainAt u.funcs := by
  rw [mainAt_map, mainAt_map, map_eq_of h.len fun i X Y hX hY => by
    obtain ⟨Z, hZ, hn, _⟩ := h.fn i X hX
    rw [hZ] at hY
    rw [← Option.some.inj hY]
    exact hn]
/-! ### What the runs come to -/
theorem Alike.refl (f : Fin) : Alike f f := ⟨rfl, rfl, rfl⟩
theorem Alike.trans {f g h : Fin} (a : Alike f g) (b : Alike g h) : Alike f h := ⟨b.state.trans a.state, b.value.trans a.value, b.out.trans a.out⟩
/-- the second unit comes to what the first one comes to, in no more steps -/
def NoMore (u v : LUnit) : Prop := ∀ (inp : List Int) (f m : Nat), (∀ x ∈ inp, inI x) → (resultM u inp f).state ≠ 1 → f ≤ m → Alike (resultM u inp f) (resultM v inp m) ∧ (resultM v inp m).steps ≤ (resultM u inp f).steps
theorem run_more (u : LUnit) : ∀ (n m : Nat) (s : Mac), (runM u n s).state ≠ 1 → n ≤ m → runM u m s = runM u n s
  | 0, _, _, h, _ => absurd rfl h
  | n + 1, m, s, h, hm => by
    obtain ⟨m, rfl⟩ : ∃ q, m = q + 1 := ⟨m - 1, by omega⟩
    rw [runM] at h ⊢
    rw [runM]
    cases he : stepM u s with
    | inl s' =>
      rw [he] at h
      exact run_more u n m s' h (by omega)
    | inr f => rfl
theorem NoMore.refl (u : LUnit) : NoMore u u := fun inp f m _ h hm => by
  have : resultM u inp m = resultM u inp f := run_more u f m _ h hm
  rw [this]
  exact ⟨.refl _, Nat.le_refl _⟩
theorem NoMore.trans {a b c : LUnit} (h : NoMore a b) (k : NoMore b c) : NoMore a c := fun inp f m hin h1 hm => by
  obtain ⟨h2, h3⟩ := h inp f f hin h1 (Nat.le_refl _)
  obtain ⟨h4, h5⟩ := k inp f m hin (by rw [h2.state]; exact h1) hm
  exact ⟨h2.trans h4, Nat.le_trans h5 h3⟩
end
/-- all that is needed of a unit that passes the check -/
structure Whole (u : LUnit) : Prop where
  ok : CheckOk u
  nums : UNums u
  gnums : GNums u
theorem Whole.fit {u : LUnit} (h : Whole u) : UnitFit u := unit_fit (check_light h.ok) (check_zero.2 h.ok) h.nums
theorem Whole.start {u : LUnit} (h : Whole u) : StartOk u := check_start (check_zero.2 h.ok) h.gnums
/-- one function's blocks are others now -/
def putB (X : LFunc) (bl : List LBlock) : LFunc := { X with blocks := bl }
/-- each function has lost some -/
structure CutsU (W : Int) (u v : LUnit) : Prop where
  globs : v.globals = u.globals
  len : v.funcs.length = u.funcs.length
  fn : ∀ (k : Nat) X Y, u.funcs[k]? = some X → v.funcs[k]? = some Y → ∃ bl, Y = putB X bl ∧ Cuts W X.blocks bl
end Go.Proofs.YtpadjpplidlfeaaGreatDoor

