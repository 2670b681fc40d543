/- Texts joined: TrimP Thin. -/
import Derived.Test.YtbmnkjaelfjlhaaDoorGF
import Derived.Test.YtbmnkjaelfjlhaaDoorHN
/- Instructions and phis that nobody needs, taken away one at a time: it does not matter in which order. No program in sight. -/
namespace Go.Proofs.YtbmnkjaelfjlhaaDoor
open Go Go.RowKit

def quietL (words op : Int) (ar : Bool) (an : Int) (br : Bool) (bn : Int) : Bool :=
  if op = 5 ∨ op = 6 then !br && !decide (bn = 0)
  else if op = 18 then !ar && (decide (0 ≤ an) && decide (an < words))
  else decide (1 ≤ op) && decide (op ≤ 17)
def quietI (W : Int) (x : LIns) : Bool := quietL W x.op x.a.reg x.a.n x.b.reg x.b.n
def eI (i : Nat) (B : LBlock) : LBlock := { B with list := B.list.eraseIdx i }
def eP (i : Nat) (B : LBlock) : LBlock := { B with phis := B.phis.eraseIdx i }
def delI (bl : List LBlock) (b i : Nat) : List LBlock := bl.modify b (eI i)
def delP (bl : List LBlock) (b i : Nat) : List LBlock := bl.modify b (eP i)
/-- one that nobody needs is taken away -/
inductive Cut (W : Int) (bl : List LBlock) : List LBlock → Prop
  | ins {b i : Nat} {B : LBlock} {x : LIns} : bl[b]? = some B → B.list[i]? = some x → quietI W x = true → (∀ r : Nat, x.dst = r → ¬ LiveS bl r b (i + 1 : Nat)) → Cut W bl (delI bl b i)
  | phi {b i : Nat} {B : LBlock} {p : LPhi} : bl[b]? = some B → B.phis[i]? = some p → (∀ r : Nat, p.dst = r → ¬ LiveS bl r b 0) → Cut W bl (delP bl b i)
inductive Cuts (W : Int) : List LBlock → List LBlock → Prop
  | refl (bl : List LBlock) : Cuts W bl bl
  | head {a b c : List LBlock} : Cut W a b → Cuts W b c → Cuts W a c
theorem Cuts.trans {W : Int} {a b c : List LBlock} (h : Cuts W a b) (k : Cuts W b c) : Cuts W a c := by
  induction h with
  | refl _ => exact k
  | head h1 _ ih => exact .head h1 (ih k)
theorem Cuts.one {W : Int} {a b : List LBlock} (h : Cut W a b) : Cuts W a b := .head h (.refl _)
def Trim0 (W : Int) (bl : List LBlock) : Prop := ∀ bl', ¬ Cut W bl bl'

/-! ### What stays as it is -/
theorem delI_get (bl : List LBlock) (b i c : Nat) : (delI bl b i)[c]? = if b = c then (bl[c]?).map (eI i) else bl[c]? := by
  unfold delI
  rw [List.getElem?_modify]
  by_cases e : b = c
  · simp only [e, if_true]; rfl
  · simp only [e, if_false, id_map']
theorem delP_get (bl : List LBlock) (b i c : Nat) : (delP bl b i)[c]? = if b = c then (bl[c]?).map (eP i) else bl[c]? := by
  unfold delP
  rw [List.getElem?_modify]
  by_cases e : b = c
  · simp only [e, if_true]; rfl
  · simp only [e, if_false, id_map']
theorem delI_len (bl : List LBlock) (b i : Nat) : (delI bl b i).length = bl.length := List.length_modify _ _ _
theorem delP_len (bl : List LBlock) (b i : Nat) : (delP bl b i).length = bl.length := List.length_modify _ _ _
theorem delI_to (bl : List LBlock) (b i c : Nat) : toOf (delI bl b i) c = toOf bl c := by
  unfold toOf
  rw [delI_get]
  by_cases e : b = c
  · rw [if_pos e]
    cases bl[c]? <;> rfl
  · rw [if_neg e]
theorem delP_to (bl : List LBlock) (b i c : Nat) : toOf (delP bl b i) c = toOf bl c := by
  unfold toOf
  rw [delP_get]
  by_cases e : b = c
  · rw [if_pos e]
    cases bl[c]? <;> rfl
  · rw [if_neg e]
theorem delI_phis (bl : List LBlock) (b i c : Nat) : phisOf (delI bl b i) c = phisOf bl c := by
  unfold phisOf
  rw [delI_get]
  by_cases e : b = c
  · rw [if_pos e]
    cases bl[c]? <;> rfl
  · rw [if_neg e]
theorem delP_phis (bl : List LBlock) (b i c : Nat) : phisOf (delP bl b i) c = if b = c then (phisOf bl c).eraseIdx i else phisOf bl c := by
  unfold phisOf
  rw [delP_get]
  by_cases e : b = c
  · rw [if_pos e, if_pos e]
    cases bl[c]? <;> rfl
  · rw [if_neg e, if_neg e]
theorem delI_preds (bl : List LBlock) (b i t : Nat) : preds (delI bl b i) t = preds bl t := by
  unfold preds
  simp only [delI_len, delI_to]
theorem delP_preds (bl : List LBlock) (b i t : Nat) : preds (delP bl b i) t = preds bl t := by
  unfold preds
  simp only [delP_len, delP_to]
theorem delI_takes (bl : List LBlock) (b i t c r : Nat) : takesR (delI bl b i) t c r = takesR bl t c r := by
  unfold takesR
  rw [delI_phis, delI_preds]
theorem delP_takes {bl : List LBlock} {b i t c r : Nat} (h : takesR (delP bl b i) t c r = true) : takesR bl t c r = true := by
  unfold takesR at h ⊢
  rw [delP_phis, delP_preds] at h
  obtain ⟨p, hp, hr⟩ := List.any_eq_true.1 h
  refine List.any_eq_true.2 ⟨p, ?_, hr⟩
  split at hp
  · exact List.mem_of_mem_eraseIdx hp
  · exact hp

/-! ### What is live then was live before -/
section
variable {bl : List LBlock} {b i : Nat} {B : LBlock}
theorem delI_live {x : LIns} (hB : bl[b]? = some B) (hx : B.list[i]? = some x) (hd : ∀ r : Nat, x.dst = r → ¬ LiveS bl r b (i + 1 : Nat)) {r c : Nat} {j : Int} (h : LiveS (delI bl b i) r c j) :
    (c ≠ b → LiveS bl r c j) ∧ (c = b → (j < i → LiveS bl r c j) ∧ ((i : Int) ≤ j → LiveS bl r c (j + 1))) := by
  have hlt := (List.getElem?_eq_some_iff.1 hx).1
  have back : LiveS bl r b ((i : Int) + 1) → LiveS bl r b i := fun h1 => .go hB hx (fun e => hd r e h1) h1
  have hC : (delI bl b i)[b]? = some (eI i B) := by rw [delI_get, if_pos rfl, hB]; rfl
  have hCl : (eI i B).list.length = B.list.length - 1 := by unfold eI; simp only; rw [List.length_eraseIdx, if_pos hlt]
  have hCg : ∀ m : Nat, (eI i B).list[m]? = if m < i then B.list[m]? else B.list[m + 1]? := fun m => by unfold eI; simp only; rw [List.getElem?_eraseIdx]
  have other : ∀ c, c ≠ b → (delI bl b i)[c]? = bl[c]? := fun c hc => by rw [delI_get, if_neg (Ne.symm hc)]
  induction h with
  | @phi c C hC' hp _ ih =>
    refine ⟨fun hc => ?_, fun hc => ?_⟩
    · rw [other c hc] at hC'
      exact .phi hC' hp (ih.1 hc)
    · subst hc
      rw [hC] at hC'
      obtain rfl := Option.some.inj hC'
      obtain ⟨h1, h2⟩ := ih.2 rfl
      refine ⟨fun _ => .phi hB hp ?_, fun h => by omega⟩
      by_cases hi : (0 : Int) < i
      · exact h1 hi
      · have h3 := h2 (by omega)
        have hi0 : (i : Int) = 0 := by omega
        rw [← hi0] at h3 ⊢
        exact back h3
  | @use c m C y hC' hy hn =>
    refine ⟨fun hc => ?_, fun hc => ?_⟩
    · rw [other c hc] at hC'
      exact .use hC' hy hn
    · subst hc
      rw [hC] at hC'
      obtain rfl := Option.some.inj hC'
      rw [hCg] at hy
      refine ⟨fun h => ?_, fun h => ?_⟩
      · rw [if_pos (by omega)] at hy
        exact .use hB hy hn
      · rw [if_neg (by omega)] at hy
        exact LiveS.use hB hy hn
  | @go c m C y hC' hy hn _ ih =>
    refine ⟨fun hc => ?_, fun hc => ?_⟩
    · rw [other c hc] at hC'
      exact .go hC' hy hn (ih.1 hc)
    · subst hc
      rw [hC] at hC'
      obtain rfl := Option.some.inj hC'
      rw [hCg] at hy
      obtain ⟨h1, h2⟩ := ih.2 rfl
      refine ⟨fun h => ?_, fun h => ?_⟩
      · rw [if_pos (by omega)] at hy
        refine .go hB hy hn ?_
        by_cases hm : m + 1 < i
        · exact h1 (by omega)
        · have hm : m + 1 = i := by omega
          have h3 := h2 (by omega)
          rw [hm] at h3 ⊢
          exact back h3
      · rw [if_neg (by omega)] at hy
        exact LiveS.go hB hy hn (h2 (by omega))
  | @on c C hC' hn =>
    refine ⟨fun hc => ?_, fun hc => ?_⟩
    · rw [other c hc] at hC'
      exact .on hC' hn
    · subst hc
      rw [hC] at hC'
      obtain rfl := Option.some.inj hC'
      refine ⟨fun h => by omega, fun h => ?_⟩
      have : (((eI i B).list.length : Nat) : Int) + 1 = B.list.length := by omega
      rw [this]
      exact .on hB hn
  | @take c C j t hC' hj ht hk =>
    rw [delI_takes] at hk
    refine ⟨fun hc => ?_, fun hc => ?_⟩
    · rw [other c hc] at hC'
      exact .take hC' hj ht hk
    · subst hc
      rw [hC] at hC'
      obtain rfl := Option.some.inj hC'
      exact ⟨fun h => by omega, fun h => .take hB (by omega) ht hk⟩
  | @jump c C j t hC' hj ht _ ih =>
    have ht' : LiveS bl r t (-1) := by
      by_cases e : t = b
      · exact (ih.2 e).1 (by omega)
      · exact ih.1 e
    refine ⟨fun hc => ?_, fun hc => ?_⟩
    · rw [other c hc] at hC'
      exact .jump hC' hj ht ht'
    · subst hc
      rw [hC] at hC'
      obtain rfl := Option.some.inj hC'
      exact ⟨fun h => by omega, fun h => .jump hB (by omega) ht ht'⟩
theorem delI_liveLe {x : LIns} (hB : bl[b]? = some B) (hx : B.list[i]? = some x) (hd : ∀ r : Nat, x.dst = r → ¬ LiveS bl r b (i + 1 : Nat)) {r : Nat} {j : Int} (h : LiveS (delI bl b i) r b j) (hj : j ≤ i) : LiveS bl r b j := by
  obtain ⟨h1, h2⟩ := (delI_live hB hx hd h).2 rfl
  by_cases e : j < i
  · exact h1 e
  · have e : j = i := by omega
    subst e
    exact .go hB hx (fun e => hd r e (h2 (Int.le_refl _))) (h2 (Int.le_refl _))
theorem delP_live {p : LPhi} (hB : bl[b]? = some B) (hp : B.phis[i]? = some p) (hd : ∀ r : Nat, p.dst = r → ¬ LiveS bl r b 0) {r c : Nat} {j : Int} (h : LiveS (delP bl b i) r c j) : LiveS bl r c j := by
  have key : ∀ (c : Nat) (C : LBlock), (delP bl b i)[c]? = some C → ∃ D, bl[c]? = some D ∧ C.list = D.list ∧ C.on = D.on ∧ C.to = D.to ∧ ∀ q ∈ D.phis, q ∈ C.phis ∨ (c = b ∧ q = p) := fun c C hC => by
    rw [delP_get] at hC
    by_cases e : b = c
    · rw [if_pos e] at hC
      obtain ⟨D, hD, rfl⟩ := Option.map_eq_some_iff.1 hC
      refine ⟨D, hD, rfl, rfl, rfl, fun q hq => ?_⟩
      subst e
      rw [hB] at hD
      obtain rfl := Option.some.inj hD
      obtain ⟨m, hm⟩ := List.getElem?_of_mem hq
      by_cases e : m = i
      · subst e
        rw [hp] at hm
        exact .inr ⟨rfl, (Option.some.inj hm).symm⟩
      · exact .inl (List.mem_eraseIdx_iff_getElem?.2 ⟨m, e, hm⟩)
    · rw [if_neg e] at hC
      exact ⟨C, hC, rfl, rfl, rfl, fun q hq => .inl hq⟩
  induction h with
  | @phi c C hC hq _ ih =>
    obtain ⟨D, hD, _, _, _, hph⟩ := key c C hC
    refine .phi hD (fun q hqm e => ?_) ih
    rcases hph q hqm with h1 | ⟨rfl, rfl⟩
    · exact hq q h1 e
    · exact hd r e ih
  | @use c m C y hC hy hn =>
    obtain ⟨D, hD, hl, _⟩ := key c C hC
    exact .use hD (hl ▸ hy) hn
  | @go c m C y hC hy hn _ ih =>
    obtain ⟨D, hD, hl, _⟩ := key c C hC
    exact .go hD (hl ▸ hy) hn ih
  | @on c C hC hn =>
    obtain ⟨D, hD, hl, ho, _⟩ := key c C hC
    rw [hl]
    exact .on hD (ho ▸ hn)
  | @take c C j t hC hj ht hk =>
    obtain ⟨D, hD, hl, _, hto, _⟩ := key c C hC
    exact .take hD (hl ▸ hj) (hto ▸ ht) (delP_takes hk)
  | @jump c C j t hC hj ht _ ih =>
    obtain ⟨D, hD, hl, _, hto, _⟩ := key c C hC
    exact .jump hD (hl ▸ hj) (hto ▸ ht) ih
end

/-! ### One order is as good as another -/
theorem erase_comm {α : Type} (l : List α) {i j : Nat} (h : i < j) : (l.eraseIdx i).eraseIdx (j - 1) = (l.eraseIdx j).eraseIdx i := by
  apply List.ext_getElem?
  intro m
  simp only [List.getElem?_eraseIdx]
  by_cases h1 : m < i
  · rw [if_pos (show m < j - 1 by omega), if_pos h1, if_pos h1, if_pos (show m < j by omega)]
  · rw [if_neg h1]
    by_cases h2 : m < j - 1
    · rw [if_pos h2, if_neg h1, if_pos (show m + 1 < j by omega)]
    · rw [if_neg h2, if_neg (show ¬ m + 1 < i by omega), if_neg h1, if_neg (show ¬ m + 1 < j by omega)]
theorem modify_comm {α : Type} (l : List α) (f g : α → α) {b c : Nat} (h : b ≠ c) : (l.modify b f).modify c g = (l.modify c g).modify b f := by
  apply List.ext_getElem?
  intro m
  simp only [List.getElem?_modify]
  cases l[m]? with
  | none => rfl
  | some x =>
    simp only [Option.map_eq_map, Option.map_some]
    by_cases h1 : b = m
    · subst h1
      simp [Ne.symm h]
    · by_cases h2 : c = m
      · subst h2
        simp [h]
      · simp [h1, h2]
theorem modify_one {α : Type} (l : List α) (f g : α → α) (b : Nat) : (l.modify b f).modify b g = l.modify b fun x => g (f x) := by
  apply List.ext_getElem?
  intro m
  simp only [List.getElem?_modify]
  cases l[m]? with
  | none => rfl
  | some x =>
    simp only [Option.map_eq_map, Option.map_some]
    by_cases h1 : b = m <;> simp [h1]
section
variable {W : Int} {bl : List LBlock}
/-- after an instruction has gone, another one can go -/
theorem cut_ins_ins {b i c j : Nat} {B C : LBlock} {x y : LIns} (hB : bl[b]? = some B) (hx : B.list[i]? = some x) (hd : ∀ r : Nat, x.dst = r → ¬ LiveS bl r b (i + 1 : Nat)) (hC : bl[c]? = some C) (hy : C.list[j]? = some y) (hq : quietI W y = true) (he : ∀ r : Nat, y.dst = r → ¬ LiveS bl r c (j + 1 : Nat)) (hne : ¬ (b = c ∧ i = j)) :
    Cut W (delI bl b i) (delI (delI bl b i) c (if b = c ∧ i < j then j - 1 else j)) := by
  by_cases e : b = c
  · subst e
    rw [hB] at hC
    obtain rfl := Option.some.inj hC
    refine .ins (B := eI i B) (by rw [delI_get, if_pos rfl, hB]; rfl) (x := y) ?_ hq fun r hr hl => he r hr ?_
    · unfold eI
      simp only [true_and]
      rw [List.getElem?_eraseIdx]
      by_cases h : i < j
      · rw [if_pos h, if_neg (by omega), show j - 1 + 1 = j by omega]; exact hy
      · rw [if_neg h, if_pos (by omega)]; exact hy
    · by_cases h : i < j
      · rw [if_pos ⟨rfl, h⟩, show j - 1 + 1 = j by omega] at hl
        exact ((delI_live hB hx hd hl).2 rfl).2 (by omega)
      · rw [if_neg (by omega)] at hl
        exact delI_liveLe hB hx hd hl (by omega)
  · rw [if_neg (by omega)]
    exact .ins (B := C) (by rw [delI_get, if_neg e]; exact hC) hy hq fun r hr hl => he r hr ((delI_live hB hx hd hl).1 (Ne.symm e))
theorem cut_ins_phi {b i c j : Nat} {B C : LBlock} {x : LIns} {p : LPhi} (hB : bl[b]? = some B) (hx : B.list[i]? = some x) (hd : ∀ r : Nat, x.dst = r → ¬ LiveS bl r b (i + 1 : Nat)) (hC : bl[c]? = some C) (hp : C.phis[j]? = some p) (he : ∀ r : Nat, p.dst = r → ¬ LiveS bl r c 0) :
    Cut W (delI bl b i) (delP (delI bl b i) c j) := by
  by_cases e : b = c
  · subst e
    rw [hB] at hC
    obtain rfl := Option.some.inj hC
    exact .phi (B := eI i B) (by rw [delI_get, if_pos rfl, hB]; rfl) (p := p) hp fun r hr hl => he r hr (delI_liveLe hB hx hd hl (by omega))
  · exact .phi (B := C) (by rw [delI_get, if_neg e]; exact hC) hp fun r hr hl => he r hr ((delI_live hB hx hd hl).1 (Ne.symm e))
theorem cut_phi_ins {b i c j : Nat} {B C : LBlock} {y : LIns} {p : LPhi} (hB : bl[b]? = some B) (hp : B.phis[i]? = some p) (hd : ∀ r : Nat, p.dst = r → ¬ LiveS bl r b 0) (hC : bl[c]? = some C) (hy : C.list[j]? = some y) (hq : quietI W y = true) (he : ∀ r : Nat, y.dst = r → ¬ LiveS bl r c (j + 1 : Nat)) :
    Cut W (delP bl b i) (delI (delP bl b i) c j) := by
  by_cases e : b = c
  · subst e
    rw [hB] at hC
    obtain rfl := Option.some.inj hC
    exact .ins (B := eP i B) (by rw [delP_get, if_pos rfl, hB]; rfl) (x := y) hy hq fun r hr hl => he r hr (delP_live hB hp hd hl)
  · exact .ins (B := C) (by rw [delP_get, if_neg e]; exact hC) hy hq fun r hr hl => he r hr (delP_live hB hp hd hl)
theorem cut_phi_phi {b i c j : Nat} {B C : LBlock} {p q : LPhi} (hB : bl[b]? = some B) (hp : B.phis[i]? = some p) (hd : ∀ r : Nat, p.dst = r → ¬ LiveS bl r b 0) (hC : bl[c]? = some C) (hq : C.phis[j]? = some q) (he : ∀ r : Nat, q.dst = r → ¬ LiveS bl r c 0) (hne : ¬ (b = c ∧ i = j)) :
    Cut W (delP bl b i) (delP (delP bl b i) c (if b = c ∧ i < j then j - 1 else j)) := by
  by_cases e : b = c
  · subst e
    rw [hB] at hC
    obtain rfl := Option.some.inj hC
    refine .phi (B := eP i B) (by rw [delP_get, if_pos rfl, hB]; rfl) (p := q) ?_ fun r hr hl => he r hr (delP_live hB hp hd hl)
    unfold eP
    simp only [true_and]
    rw [List.getElem?_eraseIdx]
    by_cases h : i < j
    · rw [if_pos h, if_neg (by omega), show j - 1 + 1 = j by omega]; exact hq
    · rw [if_neg h, if_pos (by omega)]; exact hq
  · rw [if_neg (by omega)]
    exact .phi (B := C) (by rw [delP_get, if_neg e]; exact hC) hq fun r hr hl => he r hr (delP_live hB hp hd hl)
theorem del_ii (bl : List LBlock) {b i c j : Nat} (hne : ¬ (b = c ∧ i = j)) : delI (delI bl b i) c (if b = c ∧ i < j then j - 1 else j) = delI (delI bl c j) b (if c = b ∧ j < i then i - 1 else i) := by
  unfold delI
  by_cases e : b = c
  · subst e
    rw [modify_one, modify_one]
    congr 1
    funext B
    unfold eI
    simp only
    by_cases h : i < j
    · rw [if_pos ⟨trivial, h⟩, if_neg (by omega), erase_comm _ h]
    · rw [if_neg (by omega), if_pos ⟨trivial, by omega⟩, erase_comm _ (show j < i by omega)]
  · rw [if_neg (by omega), if_neg (by omega), modify_comm _ _ _ e]
theorem del_pp (bl : List LBlock) {b i c j : Nat} (hne : ¬ (b = c ∧ i = j)) : delP (delP bl b i) c (if b = c ∧ i < j then j - 1 else j) = delP (delP bl c j) b (if c = b ∧ j < i then i - 1 else i) := by
  unfold delP
  by_cases e : b = c
  · subst e
    rw [modify_one, modify_one]
    congr 1
    funext B
    unfold eP
    simp only
    by_cases h : i < j
    · rw [if_pos ⟨trivial, h⟩, if_neg (by omega), erase_comm _ h]
    · rw [if_neg (by omega), if_pos ⟨trivial, by omega⟩, erase_comm _ (show j < i by omega)]
  · rw [if_neg (by omega), if_neg (by omega), modify_comm _ _ _ e]
theorem del_ip (bl : List LBlock) (b i c j : Nat) : delP (delI bl b i) c j = delI (delP bl c j) b i := by
  unfold delP delI
  by_cases e : b = c
  · subst e
    rw [modify_one, modify_one]
    rfl
  · rw [modify_comm _ _ _ e]
theorem cut_two {a b : List LBlock} (h : Cut W bl a) (k : Cut W bl b) : a = b ∨ ∃ c, Cut W a c ∧ Cut W b c := by
  cases h with
  | @ins b i B x hB hx hq hd =>
    cases k with
    | @ins c j C y hC hy hq' he =>
      by_cases hne : b = c ∧ i = j
      · obtain ⟨rfl, rfl⟩ := hne
        exact .inl rfl
      · refine .inr ⟨_, cut_ins_ins hB hx hd hC hy hq' he hne, ?_⟩
        rw [del_ii bl hne]
        exact cut_ins_ins hC hy he hB hx hq hd (by omega)
    | @phi c j C p hC hp he =>
      refine .inr ⟨_, cut_ins_phi hB hx hd hC hp he, ?_⟩
      rw [del_ip]
      exact cut_phi_ins hC hp he hB hx hq hd
  | @phi b i B p hB hp hd =>
    cases k with
    | @ins c j C y hC hy hq' he =>
      refine .inr ⟨_, cut_phi_ins hB hp hd hC hy hq' he, ?_⟩
      rw [← del_ip]
      exact cut_ins_phi hC hy he hB hp hd
    | @phi c j C q hC hq he =>
      by_cases hne : b = c ∧ i = j
      · obtain ⟨rfl, rfl⟩ := hne
        exact .inl rfl
      · refine .inr ⟨_, cut_phi_phi hB hp hd hC hq he hne, ?_⟩
        rw [del_pp bl hne]
        exact cut_phi_phi hC hq he hB hp hd (by omega)
end
def sizeN (bl : List LBlock) : Nat := (bl.map fun b => b.phis.length + b.list.length).sum
theorem sizeN_modify {bl : List LBlock} {b : Nat} {B : LBlock} {f : LBlock → LBlock} (hB : bl[b]? = some B) (hf : (f B).phis.length + (f B).list.length < B.phis.length + B.list.length) : sizeN (bl.modify b f) < sizeN bl := by
  unfold sizeN
  induction bl generalizing b with
  | nil => simp at hB
  | cons C bl ih =>
    cases b with
    | zero =>
      simp only [List.getElem?_cons_zero, Option.some.injEq] at hB
      subst hB
      simp only [List.modify_zero_cons, List.map_cons, List.sum_cons]
      omega
    | succ b =>
      have := ih (b := b) (by simpa using hB)
      simp only [List.modify_succ_cons, List.map_cons, List.sum_cons]
      omega
theorem Cut.less {W : Int} {a b : List LBlock} (h : Cut W a b) : sizeN b < sizeN a := by
  cases h with
  | ins hB hx _ _ =>
    have := (List.getElem?_eq_some_iff.1 hx).1
    refine sizeN_modify hB ?_
    unfold eI
    simp only
    rw [List.length_eraseIdx, if_pos this]
    omega
  | phi hB hx _ =>
    have := (List.getElem?_eq_some_iff.1 hx).1
    refine sizeN_modify hB ?_
    unfold eP
    simp only
    rw [List.length_eraseIdx, if_pos this]
    omega
theorem cuts_end (W : Int) : ∀ (n : Nat) (a : List LBlock), sizeN a ≤ n → ∃ b, Cuts W a b ∧ Trim0 W b
  | n, a, hn => by
    by_cases h : ∃ b, Cut W a b
    · obtain ⟨b, hb⟩ := h
      have h1 := hb.less
      match n, hn with
      | 0, hn => omega
      | n + 1, hn =>
        obtain ⟨c, h2, h3⟩ := cuts_end W n b (by omega)
        exact ⟨c, .head hb h2, h3⟩
    · exact ⟨a, .refl _, fun b hb => h ⟨b, hb⟩⟩
/-- where nothing more can go is one place alone -/
theorem cuts_one (W : Int) : ∀ (n : Nat) (a x y : List LBlock), sizeN a ≤ n → Cuts W a x → Cuts W a y → Trim0 W x → Trim0 W y → x = y
  | n, a, x, y, hn, hx, hy, tx, ty => by
    cases hx with
    | refl _ =>
      cases hy with
      | refl _ => rfl
      | head h _ => exact absurd h (tx _)
    | @head _ b _ h1 h2 =>
      cases hy with
      | refl _ => exact absurd h1 (ty _)
      | @head _ c _ h3 h4 =>
        have l1 := h1.less
        have l2 := h3.less
        match n, hn with
        | 0, hn => omega
        | n + 1, hn =>
          rcases cut_two h1 h3 with e | ⟨d, hd1, hd2⟩
          · subst e
            exact cuts_one W n b x y (by omega) h2 h4 tx ty
          · obtain ⟨z, hz, tz⟩ := cuts_end W (sizeN d) d (Nat.le_refl _)
            rw [cuts_one W n b x z (by omega) h2 (.head hd1 hz) tx tz, cuts_one W n c y z (by omega) h4 (.head hd2 hz) ty tz]
end Go.Proofs.YtbmnkjaelfjlhaaDoor


/- A unit from which instructions and phis that nobody needs have gone: its run comes to the same, in no more steps. No program in sight. -/
namespace Go.Proofs.YtbmnkjaelfjlhaaDoor
open Go Go.RowKit

/-- some of a function's instructions and phis have gone; where an instruction stands now -/
structure Thin (W : Int) (bl bl' : List LBlock) (pos : Nat → Nat → Nat) : Prop where
  len : bl'.length = bl.length
  zero : ∀ c, pos c 0 = 0
  blk : ∀ (c : Nat) (C : LBlock), bl[c]? = some C → ∃ D, bl'[c]? = some D ∧ D.kind = C.kind ∧ D.on = C.on ∧ D.to = C.to ∧ D.list.Sublist C.list ∧ D.phis.Sublist C.phis ∧ pos c C.list.length = D.list.length ∧
    (∀ (j : Nat) x, C.list[j]? = some x → (pos c (j + 1) = pos c j + 1 ∧ D.list[pos c j]? = some x) ∨ (pos c (j + 1) = pos c j ∧ quietI W x = true ∧ ∀ r : Nat, x.dst = r → ¬ LiveS bl' r c (pos c j : Nat))) ∧
    (∀ F : LPhi → Nat × Int, (∀ p, (F p).1 = p.dst.toNat) → (∀ p ∈ C.phis, 0 ≤ p.dst) → ∀ r : Nat, LiveS bl' r c (0 : Nat) → lastV (D.phis.map F) r = lastV (C.phis.map F) r)
theorem Thin.refl (W : Int) (bl : List LBlock) : Thin W bl bl fun _ j => j :=
  ⟨rfl, fun _ => rfl, fun _ C hC => ⟨C, hC, rfl, rfl, rfl, .refl _, .refl _, rfl, fun _ _ hx => .inl ⟨rfl, hx⟩, fun _ _ _ _ _ => rfl⟩⟩
theorem lastV_erase {l : List LPhi} {i r : Nat} {p : LPhi} {F : LPhi → Nat × Int} (hp : l[i]? = some p) (hr : (F p).1 ≠ r) : lastV ((l.eraseIdx i).map F) r = lastV (l.map F) r := by
  induction l generalizing i with
  | nil => simp at hp
  | cons q l ih =>
    cases i with
    | zero =>
      simp only [List.getElem?_cons_zero, Option.some.injEq] at hp
      subst hp
      rw [List.eraseIdx_cons_zero, List.map_cons, lastV]
      cases lastV (l.map F) r with
      | some x => rfl
      | none => simp [hr]
    | succ i =>
      rw [List.eraseIdx_cons_succ, List.map_cons, List.map_cons, lastV, lastV, ih (by simpa using hp)]
theorem Cut.thin {W : Int} {bl bl' : List LBlock} (h : Cut W bl bl') : ∃ pos, Thin W bl bl' pos := by
  cases h with
  | @ins b i B x hB hx hq hd =>
    have hlt := (List.getElem?_eq_some_iff.1 hx).1
    refine ⟨fun c j => if c = b ∧ i < j then j - 1 else j, delI_len _ _ _, fun c => by simp, fun c C hC => ?_⟩
    by_cases e : b = c
    · subst e
      rw [hB] at hC
      obtain rfl := Option.some.inj hC
      refine ⟨eI i B, by rw [delI_get, if_pos rfl, hB]; rfl, rfl, rfl, rfl, List.eraseIdx_sublist _ _, .refl _, ?_, fun j y hy => ?_, fun _ _ _ _ _ => rfl⟩
      · unfold eI
        simp only [true_and, List.length_eraseIdx, hlt, if_true]
      · have hg : ∀ m : Nat, (eI i B).list[m]? = if m < i then B.list[m]? else B.list[m + 1]? := fun m => by unfold eI; simp only; rw [List.getElem?_eraseIdx]
        simp only [true_and]
        rcases Nat.lt_trichotomy j i with h1 | h1 | h1
        · refine .inl ⟨by rw [if_neg (by omega), if_neg (by omega)], ?_⟩
          rw [if_neg (by omega), hg, if_pos h1]; exact hy
        · subst h1
          rw [hx] at hy
          obtain rfl := Option.some.inj hy
          refine .inr ⟨by rw [if_pos (by omega), if_neg (by omega)]; omega, hq, fun r hr hl => ?_⟩
          rw [if_neg (by omega)] at hl
          exact hd r hr (((delI_live hB hx hd hl).2 rfl).2 (Int.le_refl _))
        · refine .inl ⟨by rw [if_pos (by omega), if_pos (by omega)]; omega, ?_⟩
          rw [if_pos (by omega), hg, if_neg (by omega), show j - 1 + 1 = j by omega]; exact hy
    · refine ⟨C, by rw [delI_get, if_neg e]; exact hC, rfl, rfl, rfl, .refl _, .refl _, ?_, fun j y hy => .inl ⟨?_, ?_⟩, fun _ _ _ _ _ => rfl⟩
      · rw [if_neg (by omega)]
      · rw [if_neg (by omega), if_neg (by omega)]
      · rw [if_neg (by omega)]; exact hy
  | @phi b i B p hB hp hd =>
    refine ⟨fun _ j => j, delP_len _ _ _, fun _ => rfl, fun c C hC => ?_⟩
    by_cases e : b = c
    · subst e
      rw [hB] at hC
      obtain rfl := Option.some.inj hC
      refine ⟨eP i B, by rw [delP_get, if_pos rfl, hB]; rfl, rfl, rfl, rfl, .refl _, List.eraseIdx_sublist _ _, rfl, fun _ _ hx => .inl ⟨rfl, hx⟩, fun F hF h0 r hl => ?_⟩
      refine lastV_erase hp fun er => ?_
      have := h0 p (List.mem_of_getElem? hp)
      exact hd r (by rw [hF] at er; omega) (delP_live hB hp hd hl)
    · exact ⟨C, by rw [delP_get, if_neg e]; exact hC, rfl, rfl, rfl, .refl _, .refl _, rfl, fun _ _ hx => .inl ⟨rfl, hx⟩, fun _ _ _ _ _ => rfl⟩
structure ThinU (W : Int) (u v : LUnit) (pos : Nat → Nat → Nat → Nat) : Prop where
  len : v.funcs.length = u.funcs.length
  globs : v.globals = u.globals
  fn : ∀ (k : Nat) X, u.funcs[k]? = some X → ∃ Y, v.funcs[k]? = some Y ∧ Y.name = X.name ∧ Y.params = X.params ∧ Y.regs = X.regs ∧ Thin W X.blocks Y.blocks (pos k)

/-! ### An instruction that is quiet goes on -/
theorem ite_some {c : Prop} [Decidable c] {x : Int} {y : Option Int} (h : ∃ n, y = some n) : ∃ n, (if c then some x else y) = some n := by
  split
  · exact ⟨_, rfl⟩
  · exact h
theorem two_some (op a b : Int) (h : op ≠ 5) (h2 : op ≠ 6) : ∃ n, twoL op a b = some n := by
  unfold twoL
  rw [if_neg h, if_neg h2]
  repeat refine ite_some ?_
  exact ⟨_, rfl⟩
theorem quiet_step {u : LUnit} {s : Mac} {x : LIns} {W : Int} (hq : quietI W x = true) (hm : (s.mem.length : Int) = W) : ∃ n, insM u s x = .inl (s.set x.dst n) := by
  unfold quietI quietL at hq
  unfold insM
  simp only
  by_cases h5 : x.op = 5 ∨ x.op = 6
  · rw [if_pos h5] at hq
    simp only [Bool.and_eq_true, Bool.not_eq_true', decide_eq_false_iff_not] at hq
    have hb : valM s.top x.b = x.b.n := by unfold valM; rw [hq.1]; rfl
    rw [if_neg (by omega), if_neg (by omega), if_neg (by omega), if_neg (by omega), hb]
    have : ∃ n, twoL x.op (valM s.top x.a) x.b.n = some n := by
      unfold twoL
      rcases h5 with h5 | h5 <;> simp [h5, hq.2]
    obtain ⟨n, hn⟩ := this
    rw [hn]
    exact ⟨n, rfl⟩
  rw [if_neg h5] at hq
  by_cases h18 : x.op = 18
  · rw [if_pos h18] at hq
    simp only [Bool.and_eq_true, Bool.not_eq_true', decide_eq_true_eq] at hq
    have ha : valM s.top x.a = x.a.n := by unfold valM; rw [hq.1]; rfl
    rw [if_pos (.inl h18), ha]
    have hw : within x.a.n 0 ((s.mem.length : Int) - 1) = true := by simp [within]; omega
    rw [hw, if_neg (by simp), if_neg (by omega)]
    exact ⟨_, rfl⟩
  rw [if_neg h18] at hq
  simp only [Bool.and_eq_true, decide_eq_true_eq] at hq
  rw [if_neg (by omega), if_neg (by omega), if_neg (by omega), if_neg (by omega)]
  obtain ⟨n, hn⟩ := two_some x.op (valM s.top x.a) (valM s.top x.b) (by omega) (by omega)
  rw [hn]
  exact ⟨n, rfl⟩
theorem endM_mem {u : LUnit} {s s' : Mac} {B : LBlock} (h : endM u s B = .inl s') : s'.mem = s.mem := by
  unfold endM at h
  split at h
  · rw [← Sum.inl.inj h]; rfl
  split at h
  · rw [← Sum.inl.inj h]; split <;> rfl
  split at h
  · cases h
  · rw [← Sum.inl.inj h]
theorem insM_mem {u : LUnit} {s s' : Mac} {x : LIns} (h : insM u s x = .inl s') : s'.mem.length = s.mem.length := by
  unfold insM at h
  simp only at h
  repeat' (split at h)
  all_goals first
    | (cases h; done)
    | (rw [← Sum.inl.inj h]; done)
    | (rw [← Sum.inl.inj h]; rfl)
    | (rw [← Sum.inl.inj h]; simp only [List.length_set]; done)
theorem stepM_mem {u : LUnit} {s s' : Mac} (h : stepM u s = .inl s') : s'.mem.length = s.mem.length := by
  rw [stepM_eq] at h
  split at h
  · rw [endM_mem h]; rfl
  · rw [insM_mem h]; rfl

/-! ### Frames -/
structure FTt (v : LUnit) (pos : Nat → Nat → Nat → Nat) (f g : Frm) : Prop where
  fn : g.fn = f.fn
  block : g.block = f.block
  at' : g.at' = pos f.fn f.block f.at'
  regs : AgreeL (blsOf v f.fn) f.block (pos f.fn f.block f.at' : Nat) f.regs g.regs
structure FRt (v : LUnit) (pos : Nat → Nat → Nat → Nat) (d e : Int) (f g : Frm) : Prop where
  dst : e = d
  fn : g.fn = f.fn
  block : g.block = f.block
  at' : g.at' = pos f.fn f.block f.at'
  regs : AgreeX (blsOf v f.fn) f.block (pos f.fn f.block f.at' : Nat) d f.regs g.regs
theorem FRt.back {v : LUnit} {pos : Nat → Nat → Nat → Nat} {d e : Int} {f g : Frm} (h : FRt v pos d e f g) (n : Int) : FTt v pos (f.set d n) (g.set e n) := by
  obtain ⟨h1, h2, h3, h4, h5⟩ := h
  subst h1
  exact ⟨h2, h3, h4, h5.set n⟩
theorem Thin.to {W : Int} {bl bl' : List LBlock} {pos : Nat → Nat → Nat} (h : Thin W bl bl' pos) (i : Nat) : toOf bl' i = toOf bl i := by
  unfold toOf
  cases hC : bl[i]? with
  | none => rw [List.getElem?_eq_none (by rw [h.len]; exact List.getElem?_eq_none_iff.1 hC)]
  | some C =>
    obtain ⟨D, hD, _, _, hto, _⟩ := h.blk i C hC
    rw [hD]
    exact hto
theorem Thin.preds {W : Int} {bl bl' : List LBlock} {pos : Nat → Nat → Nat} (h : Thin W bl bl' pos) (t : Nat) : preds bl' t = preds bl t := preds_same h.len h.to t
/-- behind the phis of the block that one goes to, of which some have gone -/
theorem AgreeL.jumpT {bl : List LBlock} {b : Nat} {B : LBlock} {f g : Frm} {R np t : Nat} {T : LBlock} {ps : List LPhi} (h : AgreeL bl b B.list.length f.regs g.regs) (hB : bl[b]? = some B) (ht : (t : Int) ∈ B.to) (hT : bl[t]? = some T) (hok : ∀ p ∈ T.phis, PhiOk R np p ∧ 0 ≤ p.dst) (hk : (preds bl t).idxOf b < np)
    (hps : ∀ F : LPhi → Nat × Int, (∀ p, (F p).1 = p.dst.toNat) → ∀ r : Nat, LiveS bl r t (0 : Nat) → lastV (T.phis.map F) r = lastV (ps.map F) r) :
    AgreeL bl t (0 : Nat) (phisM f ((preds bl t).idxOf b) ps) (phisM g ((preds bl t).idxOf b) T.phis) := by
  have hph : phisOf bl t = T.phis := by unfold phisOf; rw [hT]
  rw [phisM_all, phisM_all]
  have e : (T.phis.map fun p => (p.dst.toNat, valM g (p.src.getD ((preds bl t).idxOf b) noV))) = T.phis.map fun p => (p.dst.toNat, valM f (p.src.getD ((preds bl t).idxOf b) noV)) :=
    List.map_congr_left fun p hp => by rw [h.phi hB ht (by rw [hph]; exact hp) (hok p hp).1 hk]
  rw [e]
  refine ⟨by rw [setAll_len, setAll_len]; exact h.len, fun r hl => ?_⟩
  rw [setAll_get, setAll_get, ← hps (fun p => (p.dst.toNat, valM f (p.src.getD ((preds bl t).idxOf b) noV))) (fun _ => rfl) r hl]
  cases hv : lastV (T.phis.map fun p => (p.dst.toNat, valM f (p.src.getD ((preds bl t).idxOf b) noV))) r with
  | some y =>
    simp only [Option.getD_some]
    by_cases hr : r < f.regs.length
    · rw [List.getElem?_eq_getElem hr, List.getElem?_eq_getElem (show r < g.regs.length by rw [h.len]; exact hr)]; rfl
    · rw [List.getElem?_eq_none (show f.regs.length ≤ r by omega), List.getElem?_eq_none (show g.regs.length ≤ r by rw [h.len]; omega)]
  | none =>
    have hn := lastV_none.1 hv
    have h1 : LiveS bl r t (-1) := .phi hT (fun p hp e => hn _ (List.mem_map.2 ⟨p, hp, rfl⟩) (by simp only; rw [e]; rfl)) hl
    rw [h.live r (.jump hB (.inl rfl) ht h1)]
section
variable {u v : LUnit} {W : Int} {pos : Nat → Nat → Nat → Nat}
theorem ThinU.regs (h : ThinU W u v pos) (k : Nat) : regsOf v k = regsOf u k := by
  unfold regsOf
  cases hX : u.funcs[k]? with
  | none => rw [List.getElem?_eq_none (by rw [h.len]; exact List.getElem?_eq_none_iff.1 hX)]
  | some X =>
    obtain ⟨Y, hY, _, _, hr, _⟩ := h.fn k X hX
    rw [hY]
    simp only [hr]
theorem ThinU.main (h : ThinU W u v pos) : mainAt v.funcs = mainAt u.funcs := by
  rw [mainAt_map, mainAt_map, map_eq_of h.len fun i X Y hX hY => by
    obtain ⟨Z, hZ, hn, _⟩ := h.fn i X hX
    rw [hZ] at hY
    rw [← Option.some.inj hY]
    exact hn]
theorem sizeOfBs_le {bl bl' : List LBlock} (hl : bl'.length = bl.length) (h : ∀ (c : Nat) C D, bl[c]? = some C → bl'[c]? = some D → D.list.length ≤ C.list.length ∧ D.phis.length ≤ C.phis.length) : sizeOfBs bl' ≤ sizeOfBs bl := by
  unfold sizeOfBs
  induction bl generalizing bl' with
  | nil => rw [List.eq_nil_of_length_eq_zero hl]; exact Int.le_refl _
  | cons C bl ih =>
    match bl', hl with
    | D :: bl', hl =>
      have h0 := h 0 C D rfl rfl
      have := ih (bl' := bl') (by simpa using hl) fun c C D hC hD => h (c + 1) C D (by simpa using hC) (by simpa using hD)
      simp only [List.map_cons, List.sum_cons]
      omega
theorem thin_check (hc : CheckOk u) (ht : ThinU W u v pos) : CheckOk v := by
  refine check_map hc ht.globs ht.len fun i X Y hX hY => ?_
  have hs := FnTo.same hc hX
  obtain ⟨Z, hZ, hn, hp, hr, hth⟩ := ht.fn i X hX
  rw [hZ] at hY
  obtain rfl := Option.some.inj hY
  have hb := hs.body
  have hsz : sizeOfBs Z.blocks ≤ sizeOfBs X.blocks := sizeOfBs_le hth.len fun c C D hC hD => by
    obtain ⟨D', hD', _, _, _, h1, h2, _⟩ := hth.blk c C hC
    rw [hD'] at hD
    obtain rfl := Option.some.inj hD
    exact ⟨h1.length_le, h2.length_le⟩
  have pick : ∀ (c : Nat) D, Z.blocks[c]? = some D → ∃ C, X.blocks[c]? = some C ∧ D.kind = C.kind ∧ D.on = C.on ∧ D.to = C.to ∧ D.list.Sublist C.list ∧ D.phis.Sublist C.phis := fun c D hD => by
    have hcl : c < X.blocks.length := by rw [← hth.len]; exact (List.getElem?_eq_some_iff.1 hD).1
    obtain ⟨D', hD', h1, h2, h3, h4, h5, _⟩ := hth.blk c _ (List.getElem?_eq_getElem hcl)
    rw [hD'] at hD
    obtain rfl := Option.some.inj hD
    exact ⟨_, List.getElem?_eq_getElem hcl, h1, h2, h3, h4, h5⟩
  refine ⟨hn, hp, by rw [hp, hr]; exact hs.regs, by rw [hth.len]; exact hs.many, by have := hs.size; omega, fun D hD => ?_, fun c D hD p hpm => ?_, fun c D hD x hx => ?_⟩
  · obtain ⟨c, hc'⟩ := List.getElem?_of_mem hD
    obtain ⟨C, hC, h1, h2, h3, _⟩ := pick c D hc'
    have := hb.ends C (List.mem_of_getElem? hC)
    unfold endErr at this ⊢
    rw [h1, h2, h3, hth.len, hr]
    exact this
  · obtain ⟨C, hC, _, _, _, _, h5⟩ := pick c D hD
    have := hb.phis c C hC p (h5.subset hpm)
    unfold phiErr at this ⊢
    rw [aheadL_same hth.len hth.to, hr]
    exact this
  · obtain ⟨C, hC, _, _, _, h4, _⟩ := pick c D hD
    rw [hr]
    exact hb.list c C hC x (h4.subset hx)
theorem thin_nums (hn : UNums u) (ht : ThinU W u v pos) : UNums v := fun Y hY D hD => by
  obtain ⟨k, hk⟩ := List.getElem?_of_mem hY
  have hkl : k < u.funcs.length := by rw [← ht.len]; exact (List.getElem?_eq_some_iff.1 hk).1
  obtain ⟨Z, hZ, _, _, _, hth⟩ := ht.fn k _ (List.getElem?_eq_getElem hkl)
  rw [hZ] at hk
  obtain rfl := Option.some.inj hk
  obtain ⟨c, hc⟩ := List.getElem?_of_mem hD
  have hcl : c < u.funcs[k].blocks.length := by rw [← hth.len]; exact (List.getElem?_eq_some_iff.1 hc).1
  obtain ⟨D', hD', _, h2, _, h4, h5, _⟩ := hth.blk c _ (List.getElem?_eq_getElem hcl)
  rw [hD'] at hc
  obtain rfl := Option.some.inj hc
  have := hn _ (List.getElem_mem hkl) _ (List.getElem_mem hcl)
  exact ⟨by rw [h2]; exact this.on, fun q hq => this.phis q (h5.subset hq), fun x hx => this.list x (h4.subset hx)⟩
def RelT (u v : LUnit) (W : Int) (pos : Nat → Nat → Nat → Nat) (s t : Mac) : Prop := MacOk u (s.steps + 1) s ∧ (s.mem.length : Int) = W ∧ RelM (FRt v pos) (FTt v pos) s t
theorem thin_sim (hu : UnitFit u) (hc : CheckOk u) (hth : ThinU W u v pos) : Sim u v 0 1 (RelT u v W pos) := by
  intro s t ⟨hok, hmw, hrel⟩
  obtain ⟨X, R, hf⟩ := hok.top
  obtain ⟨B, hB⟩ : ∃ B, X.blocks[s.top.block]? = some B := ⟨_, List.getElem?_eq_getElem hf.block⟩
  have hBm := List.mem_of_getElem? hB
  have hfit := hf.fit.blk B hBm
  obtain ⟨Y, hY, _, _, _, hty⟩ := hth.fn _ X hf.get
  obtain ⟨D, hD, hDk, hDo, hDt, _, _, hDl, hpos, _⟩ := hty.blk _ B hB
  have hbl : blsOf v s.top.fn = Y.blocks := by unfold blsOf; rw [hY]
  have hblu : blsOf u s.top.fn = X.blocks := by unfold blsOf; rw [hf.get]
  have hbok := hf.fit.ok.block _ B hB
  have hbody := hc.body X (List.mem_of_getElem? hf.get)
  obtain ⟨hm, hi, ho, hst, hfn, hbk, hat, hag⟩ := hrel
  rw [hbl] at hag
  have hbu := blockM_eq hf hB
  have hbv : blockM v t.top = D := by
    unfold blockM
    rw [hfn, hbk, hY]
    simp only
    rw [List.getD_eq_getElem?_getD, hD]
    rfl
  have hll := hst.len
  cases hx : B.list[s.top.at']? with
  | some x =>
    have hsu : stepM u s = insM u (goOn (tick s)) x := by rw [stepM_eq, hbu]; simp only [hx]
    have hxm := List.mem_of_getElem? hx
    have hxok := hbok.list x hxm
    rcases hpos _ x hx with ⟨hp1, hDx⟩ | ⟨hp1, hq, hdead⟩
    · have hsv : stepM v t = insM v (goOn (tick t)) x := by rw [stepM_eq, hbv, hat]; simp only [hDx]
      obtain ⟨ua, ub, uargs, ud⟩ := vals_used (hbody.list _ B hB x hxm)
      have key : ∀ w : LVal, w ∈ usesOf x ∨ w = noV → valM t.top w = valM s.top w := fun w hw => by
        rcases hw with hw | rfl
        · exact hag.use hD hDx hxok hw
        · rfl
      have hold : AgreeX Y.blocks s.top.block (pos s.top.fn s.top.block (s.top.at' + 1) : Nat) x.dst s.top.regs t.top.regs := by rw [hp1]; exact hag.hold hD hDx
      rcases ins_sim (u := u) (v := v) (s := goOn (tick s)) (t := goOn (tick t)) (x := x) (y := x) rfl rfl (key _ ua) (key _ ub) (fun h20 => List.map_congr_left fun w hw => key w (.inl (by rw [← uargs h20]; exact hw))) hm hi ho hll ud ud with ⟨f, g, e1, e2, ha⟩ | ⟨h20, e1, e2⟩ | ⟨h20, mem, inp, out, z, e1, e2⟩
      · refine ⟨fun s' hs' => ?_, fun f' hf' => ?_⟩
        · rw [hsu, e1] at hs'; cases hs'
        · rw [hsu, e1] at hf'
          rw [← Sum.inr.inj hf']
          exact ⟨0, t, g, by omega, by omega, rfl, by rw [hsv, e2], ha⟩
      · refine ⟨fun s' hs' => ?_, fun f' hf' => ?_⟩
        · have h9 := (step_ok hu hok hs').1
          have h8 := stepM_mem hs'
          rw [hsu, e1] at hs'
          have hs' := Sum.inl.inj hs'
          refine ⟨1, _, by omega, by omega, .one (by rw [hsv, e2]), h9, by rw [h8]; exact hmw, ?_⟩
          rw [← hs', enterM_def, enterM_def, hth.regs]
          refine ⟨hm, hi, ho, .add hst ⟨rfl, hfn, hbk, by show t.top.at' + 1 = pos s.top.fn s.top.block (s.top.at' + 1); rw [hat, hp1], by show AgreeX (blsOf v s.top.fn) _ _ _ _ _; rw [hbl]; exact hold⟩, ⟨rfl, rfl, ?_, AgreeL.refl _ _ _ _⟩⟩
          show 0 = pos x.fn.toNat 0 0
          obtain ⟨k, Z, hk, hZ, _⟩ := (hfit.list.2 x hxm).call h20
          obtain ⟨Z', _, _, _, _, htz⟩ := hth.fn k Z hZ
          rw [show x.fn.toNat = k by omega]
          exact (htz.zero 0).symm
        · rw [hsu, e1] at hf'; cases hf'
      · refine ⟨fun s' hs' => ?_, fun f' hf' => ?_⟩
        · have h9 := (step_ok hu hok hs').1
          have h8 := stepM_mem hs'
          rw [hsu, e1] at hs'
          have hs' := Sum.inl.inj hs'
          refine ⟨1, _, by omega, by omega, .one (by rw [hsv, e2]), h9, by rw [h8]; exact hmw, ?_⟩
          rw [← hs']
          exact ⟨rfl, rfl, rfl, hst, ⟨hfn, hbk, by show t.top.at' + 1 = pos s.top.fn s.top.block (s.top.at' + 1); rw [hat, hp1], by show AgreeL (blsOf v s.top.fn) _ _ _ _; rw [hbl]; exact hold.set z⟩⟩
        · rw [hsu, e1] at hf'; cases hf'
    · obtain ⟨z, e1⟩ := quiet_step (u := u) (s := goOn (tick s)) hq hmw
      refine ⟨fun s' hs' => ?_, fun f' hf' => ?_⟩
      · have h9 := (step_ok hu hok hs').1
        have h8 := stepM_mem hs'
        rw [hsu, e1] at hs'
        have hs' := Sum.inl.inj hs'
        refine ⟨0, t, Nat.le_refl _, by omega, rfl, h9, by rw [h8]; exact hmw, ?_⟩
        rw [← hs']
        refine ⟨hm, hi, ho, hst, ⟨hfn, hbk, by show t.top.at' = pos s.top.fn s.top.block (s.top.at' + 1); rw [hat, hp1], ?_⟩⟩
        show AgreeL (blsOf v s.top.fn) s.top.block (pos s.top.fn s.top.block (s.top.at' + 1) : Nat) (setR s.top.regs x.dst z) t.top.regs
        rw [hbl, hp1]
        unfold setR
        split
        · rename_i h0
          refine ⟨by rw [List.length_set]; exact hag.len, fun r hl => ?_⟩
          rw [List.getElem?_set, if_neg (fun e => hdead r (by omega) hl)]
          exact hag.live r hl
        · exact hag
      · rw [hsu, e1] at hf'; cases hf'
  | none =>
    have hae : s.top.at' = B.list.length := by
      have h1 := hf.at' B hB
      have h2 := List.getElem?_eq_none_iff.1 hx
      omega
    rw [hae, hDl] at hag
    have hsu : stepM u s = endM u (tick s) B := by rw [stepM_eq, hbu]; simp only [hx]
    have hDn : D.list[t.top.at']? = none := by rw [hat, hae, hDl, List.getElem?_eq_none (Nat.le_refl _)]
    have hsv : stepM v t = endM v (tick t) D := by rw [stepM_eq, hbv]; simp only [hDn]
    have hval : valM t.top D.on = valM s.top B.on := by
      have h7 := hag.on hD (by rw [hDo]; exact hbok.on)
      rw [h7, hDo]
    by_cases hkj : B.kind = 2 ∨ B.kind = 3
    · obtain ⟨i, hil, e1, e2⟩ := jump_sim (u := u) (v := v) (s := tick s) (t := tick t) hkj hDk hfit.kind.2 hval
      rw [hDt] at e2
      have htm := to_get (B := B) hil
      obtain ⟨to, T, e, hg⟩ := goTo hf hB htm
      rw [e] at e1 e2 htm
      refine ⟨fun s' hs' => ?_, fun f' hf' => ?_⟩
      · have h9 := (step_ok hu hok hs').1
        have h8 := stepM_mem hs'
        rw [hsu, e1] at hs'
        have hs' := Sum.inl.inj hs'
        refine ⟨1, _, by omega, by omega, .one (by rw [hsv, e2]), h9, by rw [h8]; exact hmw, ?_⟩
        rw [← hs', jumpM_def, jumpM_def]
        obtain ⟨DT, hDT, _, _, _, _, hsubp, _, _, hlast⟩ := hty.blk to T hg.get
        have hphi : phisOf (blsOf u s.top.fn) to = T.phis := by rw [hblu]; unfold phisOf; rw [hg.get]
        have hphiv : phisOf (blsOf v s.top.fn) to = DT.phis := by rw [hbl]; unfold phisOf; rw [hDT]
        have hTok := hf.fit.ok.block to T hg.get
        refine ⟨hm, hi, ho, hst, ⟨hfn, rfl, ?_, ?_⟩⟩
        · show 0 = pos s.top.fn to 0
          exact (hty.zero to).symm
        · show AgreeL (blsOf v s.top.fn) to (pos s.top.fn to 0 : Nat) (phisM s.top ((preds (blsOf u s.top.fn) to).idxOf s.top.block) (phisOf (blsOf u s.top.fn) to)) (phisM t.top ((preds (blsOf v t.top.fn) to).idxOf t.top.block) (phisOf (blsOf v t.top.fn) to))
          rw [hfn, hbk, hphi, hphiv, hbl, hblu, hty.zero, ← hty.preds]
          refine hag.jumpT (R := R) (np := (preds X.blocks to).length) hD (by rw [hDt]; exact htm) hDT (fun p hp => ⟨hTok.phis p (hsubp.subset hp), (hTok.phis p (hsubp.subset hp)).dst.1⟩) ?_ fun F hF r hl => hlast F hF (fun p hp => (hTok.phis p hp).dst.1) r hl
          rw [hty.preds]
          exact List.idxOf_lt_length_of_mem hg.mem
      · rw [hsu, e1] at hf'; cases hf'
    · rcases ret_sim (u := u) (v := v) (FR := FRt v pos) (s := tick s) (t := tick t) (fun h => hkj (.inl h)) (fun h => hkj (.inr h)) hDk hval ho hst with ⟨f, g, e1, e2, ha⟩ | ⟨l, f, m, g, d1, d2, e1, e2, d3, d4⟩
      · refine ⟨fun s' hs' => ?_, fun f' hf' => ?_⟩
        · rw [hsu, e1] at hs'; cases hs'
        · rw [hsu, e1] at hf'
          rw [← Sum.inr.inj hf']
          exact ⟨0, t, g, by omega, by omega, rfl, by rw [hsv, e2], ha⟩
      · refine ⟨fun s' hs' => ?_, fun f' hf' => ?_⟩
        · have h9 := (step_ok hu hok hs').1
          have h8 := stepM_mem hs'
          rw [hsu, e1] at hs'
          have hs' := Sum.inl.inj hs'
          refine ⟨1, _, by omega, by omega, .one (by rw [hsv, e2]), h9, by rw [h8]; exact hmw, ?_⟩
          rw [← hs']
          exact ⟨hm, hi, ho, d3, d4.back _⟩
        · rw [hsu, e1] at hf'; cases hf'

/-! ### What the runs come to -/
theorem Alike.refl (f : Fin) : Alike f f := ⟨rfl, rfl, rfl⟩
theorem Alike.trans {f g h : Fin} (a : Alike f g) (b : Alike g h) : Alike f h := ⟨b.state.trans a.state, b.value.trans a.value, b.out.trans a.out⟩
/-- the second unit comes to what the first one comes to, in no more steps -/
def NoMore (u v : LUnit) : Prop := ∀ (inp : List Int) (f m : Nat), (∀ x ∈ inp, inI x) → (resultM u inp f).state ≠ 1 → f ≤ m → Alike (resultM u inp f) (resultM v inp m) ∧ (resultM v inp m).steps ≤ (resultM u inp f).steps
theorem run_more (u : LUnit) : ∀ (n m : Nat) (s : Mac), (runM u n s).state ≠ 1 → n ≤ m → runM u m s = runM u n s
  | 0, _, _, h, _ => absurd rfl h
  | n + 1, m, s, h, hm => by
    obtain ⟨m, rfl⟩ : ∃ q, m = q + 1 := ⟨m - 1, by omega⟩
    rw [runM] at h ⊢
    rw [runM]
    cases he : stepM u s with
    | inl s' =>
      rw [he] at h
      exact run_more u n m s' h (by omega)
    | inr f => rfl
theorem NoMore.refl (u : LUnit) : NoMore u u := fun inp f m _ h hm => by
  have : resultM u inp m = resultM u inp f := run_more u f m _ h hm
  rw [this]
  exact ⟨.refl _, Nat.le_refl _⟩
theorem NoMore.trans {a b c : LUnit} (h : NoMore a b) (k : NoMore b c) : NoMore a c := fun inp f m hin h1 hm => by
  obtain ⟨h2, h3⟩ := h inp f f hin h1 (Nat.le_refl _)
  obtain ⟨h4, h5⟩ := k inp f m hin (by rw [h2.state]; exact h1) hm
  exact ⟨h2.trans h4, Nat.le_trans h5 h3⟩
theorem memL_size {l : List LGlobal} (h : ∀ g ∈ l, (g.init.length : Int) ≤ g.size) : ((memL l).length : Int) = (l.map (·.size)).sum := by
  unfold memL
  induction l with
  | nil => rfl
  | cons g l ih =>
    have h1 := h g (by simp)
    have h2 := ih fun g hg => h g (List.mem_cons_of_mem _ hg)
    simp only [List.flatMap_cons, List.length_append, List.length_replicate, List.map_cons, List.sum_cons] at h2 ⊢
    omega
def wordsU (u : LUnit) : Int := (u.globals.map (·.size)).sum
theorem thin_noMore (hu : UnitFit u) (hs : StartOk u) (hc : CheckOk u) (hth : ThinU (wordsU u) u v pos) : NoMore u v := fun inp f m hin h1 hm => by
  have e1 : ∀ v : LUnit, startM v inp = ⟨memL v.globals, inp, [], 0, [], ⟨(mainAt v.funcs).toNat, 0, 0, List.replicate (regsOf v (mainAt v.funcs).toNat) 0, -1⟩, bump (v.funcs.map fun X => List.replicate X.blocks.length 0) (mainAt v.funcs).toNat 0⟩ := fun _ => rfl
  obtain ⟨fm, M, hfm, hM⟩ := hs.main
  obtain ⟨M', _, _, _, _, htm⟩ := hth.fn fm M hM
  obtain ⟨h2, i, j, h3, h4, _, h6⟩ := sim_run (thin_sim hu hc hth) f (startM u inp) (startM v inp) m ⟨start_ok hu hs hin, memL_size fun g hg => (hs.glob g hg).1, by
    rw [e1, e1, hth.main, hth.regs, hth.globs]
    refine ⟨rfl, rfl, rfl, .nil _ _, ⟨rfl, rfl, ?_, AgreeL.refl _ _ _ _⟩⟩
    show 0 = pos (mainAt u.funcs).toNat 0 0
    rw [hfm, Int.toNat_natCast]
    exact (htm.zero 0).symm⟩ h1 (by omega)
  refine ⟨h2, ?_⟩
  have e2 : (startM u inp).steps = 0 := rfl
  have e3 : (startM v inp).steps = 0 := rfl
  unfold resultM
  omega
end
/-- all that is needed of a unit that passes the check -/
structure Whole (u : LUnit) : Prop where
  ok : CheckOk u
  nums : UNums u
  gnums : GNums u
theorem Whole.fit {u : LUnit} (h : Whole u) : UnitFit u := unit_fit (check_light h.ok) (check_zero.2 h.ok) h.nums
theorem Whole.start {u : LUnit} (h : Whole u) : StartOk u := check_start (check_zero.2 h.ok) h.gnums
/-- one function's blocks are others now -/
def putB (X : LFunc) (bl : List LBlock) : LFunc := { X with blocks := bl }
def putU (u : LUnit) (k : Nat) (bl : List LBlock) : LUnit := { u with funcs := u.funcs.modify k fun X => putB X bl }
theorem putU_get (u : LUnit) (k : Nat) (bl : List LBlock) (j : Nat) : (putU u k bl).funcs[j]? = if k = j then (u.funcs[j]?).map (fun X => putB X bl) else u.funcs[j]? := by
  unfold putU
  simp only
  rw [List.getElem?_modify]
  by_cases e : k = j
  · simp only [e, if_true]; rfl
  · simp only [e, if_false, id_map']
theorem cut_thin {W : Int} {u : LUnit} {k : Nat} {X : LFunc} {bl : List LBlock} (hX : u.funcs[k]? = some X) (h : Cut W X.blocks bl) : ∃ pos, ThinU W u (putU u k bl) pos := by
  obtain ⟨pos, hp⟩ := h.thin
  refine ⟨fun j => if k = j then pos else fun _ i => i, List.length_modify _ _ _, rfl, fun j Y hY => ?_⟩
  rw [putU_get]
  by_cases e : k = j
  · subst e
    rw [hX] at hY
    obtain rfl := Option.some.inj hY
    simp only [if_true, hX, Option.map_some]
    exact ⟨_, rfl, rfl, rfl, rfl, hp⟩
  · simp only [e, if_false]
    exact ⟨Y, hY, rfl, rfl, rfl, .refl _ _⟩
theorem cut_whole {u : LUnit} (h : Whole u) {k : Nat} {X : LFunc} {bl : List LBlock} (hX : u.funcs[k]? = some X) (hc : Cut (wordsU u) X.blocks bl) : Whole (putU u k bl) ∧ NoMore u (putU u k bl) := by
  obtain ⟨pos, hp⟩ := cut_thin hX hc
  exact ⟨⟨thin_check h.ok hp, thin_nums h.nums hp, h.gnums⟩, thin_noMore h.fit h.start h.ok hp⟩
theorem cuts_whole {W : Int} {a b : List LBlock} (hc : Cuts W a b) : ∀ {u : LUnit} {k : Nat} {X : LFunc}, Whole u → W = wordsU u → u.funcs[k]? = some X → X.blocks = a → Whole (putU u k b) ∧ NoMore u (putU u k b) := by
  induction hc with
  | refl a =>
    intro u k X h _ hX e
    have : putU u k a = u := by
      unfold putU
      congr 1
      apply List.ext_getElem?
      intro j
      rw [List.getElem?_modify]
      by_cases ej : k = j
      · subst ej
        rw [hX]
        simp only [if_true, Option.map_eq_map, Option.map_some]
        unfold putB
        rw [← e]
      · simp only [ej, if_false, id_map']
    rw [this]
    exact ⟨h, .refl _⟩
  | @head a c b h1 h2 ih =>
    intro u k X h hW hX e
    subst hW e
    obtain ⟨h3, h4⟩ := cut_whole h hX h1
    have hX' : (putU u k c).funcs[k]? = some (putB X c) := by rw [putU_get, if_pos rfl, hX]; rfl
    obtain ⟨h5, h6⟩ := ih h3 rfl hX' rfl
    have : putU (putU u k c) k b = putU u k b := by
      unfold putU
      simp only
      rw [modify_one]
      rfl
    rw [this] at h5 h6
    exact ⟨h5, h4.trans h6⟩
/-- each function has lost some -/
structure CutsU (W : Int) (u v : LUnit) : Prop where
  globs : v.globals = u.globals
  len : v.funcs.length = u.funcs.length
  fn : ∀ (k : Nat) X Y, u.funcs[k]? = some X → v.funcs[k]? = some Y → ∃ bl, Y = putB X bl ∧ Cuts W X.blocks bl
theorem cutsU_whole {u v : LUnit} (h : Whole u) (hc : CutsU (wordsU u) u v) : Whole v ∧ NoMore u v := by
  have key : ∀ n, n ≤ u.funcs.length → Whole { u with funcs := v.funcs.take n ++ u.funcs.drop n } ∧ NoMore u { u with funcs := v.funcs.take n ++ u.funcs.drop n } := by
    intro n
    induction n with
    | zero =>
      intro _
      simp only [List.take_zero, List.nil_append, List.drop_zero]
      exact ⟨h, .refl _⟩
    | succ n ih =>
      intro hn
      obtain ⟨h1, h2⟩ := ih (by omega)
      have hX : u.funcs[n]? = some u.funcs[n] := List.getElem?_eq_getElem (by omega)
      have hY : v.funcs[n]? = some (v.funcs[n]'(by have := hc.len; omega)) := List.getElem?_eq_getElem _
      obtain ⟨bl, hbl, hcut⟩ := hc.fn n _ _ hX hY
      have hlt : (v.funcs.take n).length = n := by rw [List.length_take, hc.len]; omega
      have hX2 : (v.funcs.take n ++ u.funcs.drop n)[n]? = some u.funcs[n] := by
        rw [List.getElem?_append_right (by omega), hlt, Nat.sub_self, List.getElem?_drop, Nat.add_zero]; exact hX
      obtain ⟨h3, h4⟩ := cuts_whole hcut (u := { u with funcs := v.funcs.take n ++ u.funcs.drop n }) (k := n) h1 rfl hX2 rfl
      have : putU { u with funcs := v.funcs.take n ++ u.funcs.drop n } n bl = { u with funcs := v.funcs.take (n + 1) ++ u.funcs.drop (n + 1) } := by
        unfold putU
        simp only
        congr 1
        apply List.ext_getElem?
        intro j
        rw [List.getElem?_modify]
        rcases Nat.lt_trichotomy j n with hj | hj | hj
        · simp only [show ¬ n = j by omega, if_false, id_map']
          rw [List.getElem?_append_left (by omega), List.getElem?_append_left (by rw [List.length_take, hc.len]; omega), List.getElem?_take_of_lt hj, List.getElem?_take_of_lt (by omega)]
        · subst hj
          rw [hX2, List.getElem?_append_left (by rw [List.length_take, hc.len]; omega), List.getElem?_take_of_lt (by omega), hY]
          simp only [if_true, Option.map_eq_map, Option.map_some]
          rw [← hbl]
        · simp only [show ¬ n = j by omega, if_false, id_map']
          rw [List.getElem?_append_right (by omega), List.getElem?_append_right (by rw [List.length_take, hc.len]; omega), hlt, List.length_take, hc.len, Nat.min_eq_left hn, List.getElem?_drop, List.getElem?_drop]
          congr 1
          omega
      rw [this] at h3 h4
      exact ⟨h3, h2.trans h4⟩
  have := key u.funcs.length (Nat.le_refl _)
  rw [List.take_of_length_le (by rw [hc.len]; exact Nat.le_refl _), List.drop_length, List.append_nil, ← hc.globs] at this
  exact this
end Go.Proofs.YtbmnkjaelfjlhaaDoor

